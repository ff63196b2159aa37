/- Texts put behind each other. -/
import Derived.Test.YtjkkkibiegfecaaGreatDoorK22
set_option linter.unusedVariables false
set_option maxRecDepth 100000
set_option maxHeartbeats 8000000
namespace Go.Vc
open Go.ChangeShapes Go.WideShapes Go.RowKit
section
variable {H : Type} {enc : TypeId × Value → H} {P : Program} {w : World} {base : Nat} {spare : Nat → Bool} {held : Bool}
end
theorem aaL{H:Hp}{v:Value}{x:List Kd}(h:zL H (false,[.sl x]) v):∃rows:List (List Value),bX H x.length v rows.length rows.flatten/\(∀r∈rows,lP MA x r)/\rows.length<=maxLen/\∃a c,v= .slice a rows.length c/\rows.length<=c:=by
 obtain⟨_,_,e,h,rfl⟩:=h;injection e with e _;subst e;exact h
end Go.Vc
