/- Texts put behind each other. -/
import Derived.Test.YtjkkkibiegfecaaGreatDoorK14
import Derived.Test.YtjkkkibiegfecaaGreatDoorK23
import Derived.Test.YtjkkkibiegfecaaGreatDoorK24
set_option linter.unusedSimpArgs false
set_option linter.unusedVariables false
set_option maxRecDepth 100000
set_option maxHeartbeats 8000000
namespace Go.Proofs.YtjkkkibiegfecaaGreatDoor
open Go Go.Vc Go.RowKit Go.Sort
end Go.Proofs.YtjkkkibiegfecaaGreatDoor
