/- Texts put behind each other. -/
import Derived.Test.YtjkkkibiegfecaaGreatDoorK98
import Derived.Test.YtjkkkibiegfecaaGreatDoorK4
import Derived.Test.YtjkkkibiegfecaaGreatDoorK5
import Derived.Test.YtjkkkibiegfecaaGreatDoorK7
import Derived.Test.YtjkkkibiegfecaaGreatDoorK8
import Derived.Test.YtjkkkibiegfecaaGreatDoorK10
import Derived.Test.YtjkkkibiegfecaaGreatDoorK11
import Derived.Test.YtjkkkibiegfecaaGreatDoorK12
import Derived.Test.YtjkkkibiegfecaaGreatDoorK15
import Derived.Test.YtjkkkibiegfecaaGreatDoorK16
import Derived.Test.YtjkkkibiegfecaaGreatDoorK17
import Derived.Test.YtjkkkibiegfecaaGreatDoorK18
import Derived.Test.YtjkkkibiegfecaaGreatDoorK19
import Derived.Test.YtjkkkibiegfecaaGreatDoorK20
import Derived.Test.YtjkkkibiegfecaaGreatDoorK21
import Derived.Test.YtjkkkibiegfecaaGreatDoorK43
import Derived.Test.YtjkkkibiegfecaaGreatDoorK44
set_option maxRecDepth 100000
set_option maxHeartbeats 8000000
set_option linter.unusedVariables false
set_option linter.unusedSimpArgs false
namespace Go.Proofs.YtjkkkibiegfecaaGreatDoor
open Go Go.Vc
instance OC(d:Int):Decidable (cW d):=inferInstanceAs (Decidable (_∧_))
end Go.Proofs.YtjkkkibiegfecaaGreatDoor
