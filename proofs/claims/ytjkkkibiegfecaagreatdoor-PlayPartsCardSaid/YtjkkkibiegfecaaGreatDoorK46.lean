/- Texts put behind each other. -/
import Derived.Test.YtjkkkibiegfecaaGreatDoorK98
import Derived.Test.YtjkkkibiegfecaaGreatDoorK4
import Derived.Test.YtjkkkibiegfecaaGreatDoorK5
import Derived.Test.YtjkkkibiegfecaaGreatDoorK7
import Derived.Test.YtjkkkibiegfecaaGreatDoorK8
import Derived.Test.YtjkkkibiegfecaaGreatDoorK10
import Derived.Test.YtjkkkibiegfecaaGreatDoorK11
import Derived.Test.YtjkkkibiegfecaaGreatDoorK12
import Derived.Test.YtjkkkibiegfecaaGreatDoorK13
import Derived.Test.YtjkkkibiegfecaaGreatDoorK22
import Derived.Test.YtjkkkibiegfecaaGreatDoorK43
import Derived.WideKeyArgs
import Derived.OpenShut
import Derived.ChangeArms
import Derived.ChangeOld
import Derived.Handed
import Derived.RowKit
import Derived.DataReads
set_option maxRecDepth 100000
set_option maxHeartbeats 8000000
set_option linter.unusedVariables false
namespace Go.Vc
open Go.ChangeShapes Go.WideShapes Go.RowKit
section
variable {H : Type} {enc : TypeId × Value → H} {P : Program} {w : World} {base : Nat} {spare : Nat → Bool} {held : Bool}
end
theorem abX{H:Hp}{v:Value}{ks:List Kd}(h:EO H (false,[.sl ks]) v):∃rows:List (List Value),fh H ks.length v rows.length rows.flatten∧(∀r∈rows,oB QL ks r)∧rows.length≤maxLen∧∃a c,v= .slice a rows.length c∧rows.length≤c:=by
 obtain⟨_,_,e,h,rfl⟩:=h
 injection e with e _
 subst e
 exact h
end Go.Vc
