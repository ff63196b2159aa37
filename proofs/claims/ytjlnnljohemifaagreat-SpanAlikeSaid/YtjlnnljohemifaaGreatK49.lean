/- Texts put behind each other. -/
import Derived.Test.YtjlnnljohemifaaGreatK98
import Derived.Test.YtjlnnljohemifaaGreatK5
import Derived.Test.YtjlnnljohemifaaGreatK6
import Derived.Test.YtjlnnljohemifaaGreatK8
import Derived.Test.YtjlnnljohemifaaGreatK9
import Derived.Test.YtjlnnljohemifaaGreatK10
import Derived.Test.YtjlnnljohemifaaGreatK11
import Derived.Test.YtjlnnljohemifaaGreatK12
import Derived.Test.YtjlnnljohemifaaGreatK13
import Derived.Test.YtjlnnljohemifaaGreatK15
import Derived.Test.YtjlnnljohemifaaGreatK16
import Derived.Test.YtjlnnljohemifaaGreatK48
import Derived.Test.YtjlnnljohemifaaGreatProg
import Derived.Test.YtjlnnljohemifaaGreatChecked
import Derived.Eval
import Derived.KernelRfl
set_option maxRecDepth 100000
set_option maxHeartbeats 8000000
namespace Go.Proofs.YtjlnnljohemifaaGreat
open Go Go.Vc
def aaD:=bA [[1],[1,17],[2],[1,3],[1,3,25,26],[1,3,25,26],[1,3,25,26,27],[1,3,25,26],[1,3,25,26],[1,3,32,33,34],[1,3,32,33,34],[1,3,32,33,34,35],[1,3,6,32,33,34],[1,3,6,7,32,33,34],[1,3,7,9,32,33,34],[1,3,32,33,34],[1,3,32,33,34],[1,3,11],[3,11,64,65],[3,11,64,65],[3,11,64,65,66],[3,11,12,64,65],[3,11,13,64,65],[3,11,64,65],[3,11,64,65],[2]]
def aav:=bA [[0,1,2],[0,1,2,21],[6],[0],[],[6]]
end Go.Proofs.YtjlnnljohemifaaGreat
