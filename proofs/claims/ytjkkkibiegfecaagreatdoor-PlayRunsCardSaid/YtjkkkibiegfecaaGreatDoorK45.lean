/- Texts put behind each other. -/
import Derived.Test.YtjkkkibiegfecaaGreatDoorK6
set_option linter.unusedSimpArgs false
set_option linter.unusedVariables false
set_option maxRecDepth 100000
set_option maxHeartbeats 8000000
namespace Go.Proofs.YtjkkkibiegfecaaGreatDoor
open Go
def R.PM(r:R):Prop:=gM r.a r.b r.k/\ -9223372036854775808<=r.op/\r.op<=9223372036854775807
end Go.Proofs.YtjkkkibiegfecaaGreatDoor
