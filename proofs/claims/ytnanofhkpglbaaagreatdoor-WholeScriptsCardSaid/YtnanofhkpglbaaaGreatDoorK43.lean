/- Texts put behind each other. -/
import Derived.Test.YtnanofhkpglbaaaGreatDoorK23
import Derived.Test.YtnanofhkpglbaaaGreatDoorK26
import Derived.Test.YtnanofhkpglbaaaGreatDoorK38
set_option linter.unusedSimpArgs false
set_option linter.unusedVariables false
set_option maxRecDepth 100000
set_option maxHeartbeats 80000000
namespace Go.Proofs.YtnanofhkpglbaaaGreatDoor
open Go Go.Vc Go.RowKit Go.Sort
end Go.Proofs.YtnanofhkpglbaaaGreatDoor
