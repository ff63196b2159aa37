/- Texts put behind each other. -/
import Derived.Test.YtnanofhkpglbaaaGreatDoorK10
import Derived.Lib.Walk
import Derived.Lib.ItoaMem
import Derived.Lib.AppendIntMem
import Derived.WalkKit
import Derived.BigCall
import Derived.BigGuard
set_option linter.unusedVariables false
set_option maxRecDepth 100000
set_option maxHeartbeats 80000000
namespace Go.Proofs
open Go.Shelf Go.RowKit Go.Sort Go.Lib
end Go.Proofs
