/- Texts put behind each other. -/
import Derived.Test.YtjkkkibiegfecaaGreatDoorK98
import Derived.Test.YtjkkkibiegfecaaGreatDoorK4
import Derived.Test.YtjkkkibiegfecaaGreatDoorK5
import Derived.Test.YtjkkkibiegfecaaGreatDoorK7
import Derived.Test.YtjkkkibiegfecaaGreatDoorK8
import Derived.Test.YtjkkkibiegfecaaGreatDoorK10
import Derived.Test.YtjkkkibiegfecaaGreatDoorK11
import Derived.Test.YtjkkkibiegfecaaGreatDoorK12
set_option maxRecDepth 100000
set_option maxHeartbeats 8000000
set_option linter.unusedVariables false
set_option linter.unusedSimpArgs false
namespace Go.Vc
abbrev sqg(g:Nat)(w:Bool)(d:Nat)(op:dD):gY:=⟨true,some (g,w),some d,op⟩
section
variable (P : Program) (env : Env) (H : Hp) (Kn : Env → Hp → Prop) (Kx : Nat → Env → Hp → Prop) (Kr : Env → Hp → Prop)
end
end Go.Vc
