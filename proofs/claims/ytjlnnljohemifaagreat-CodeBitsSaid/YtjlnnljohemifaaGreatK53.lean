/- Texts put behind each other. -/
import Derived.Test.YtjlnnljohemifaaGreatK98
import Derived.Test.YtjlnnljohemifaaGreatK5
import Derived.Test.YtjlnnljohemifaaGreatK6
import Derived.Test.YtjlnnljohemifaaGreatK8
import Derived.Test.YtjlnnljohemifaaGreatK9
import Derived.Test.YtjlnnljohemifaaGreatK10
import Derived.Test.YtjlnnljohemifaaGreatK11
import Derived.Test.YtjlnnljohemifaaGreatK12
import Derived.Test.YtjlnnljohemifaaGreatK13
import Derived.Test.YtjlnnljohemifaaGreatK15
import Derived.Test.YtjlnnljohemifaaGreatK17
import Derived.Test.YtjlnnljohemifaaGreatK50
import Derived.Test.YtjlnnljohemifaaGreatK51
import Derived.Test.YtjlnnljohemifaaGreatProg
import Derived.Test.YtjlnnljohemifaaGreatChecked
import Derived.Eval
import Derived.KernelRfl
set_option maxRecDepth 100000
set_option maxHeartbeats 8000000
namespace Go.Proofs.YtjlnnljohemifaaGreat
open Go Go.Vc
def ags:=bA [[1],[1,26],[2,3],[1,4],[1,4,31,32],[1,4,31,32],[1,4,31,32,33],[1,4,5,31,32],[1,4,31,32],[1,4,31,32],[1,4],[1,4,6],[1,4,6,7],[1,6,7,50,51,52],[1,6,7,50,51,52],[1,6,7,50,51,52,53],[1,6,7,8,9,50,51,52],[1,6,7,9,50,51,52,58],[1,6,7,9,50,51,52],[1,6,7,9,50,51,52],[1,6,7,9,50,51,52],[1,6,7,50,51,52],[1,6,7,50,51,52],[2,3]]
def ae6:=bA [[0],[2]]
def aaL:=bA [[0],[2]]
def acI:=bA [[0,3,6],[]]
def ae7:=bA [[0],[2]]
def aeI:=bA [[0,1],[0,1,5],[0,1,5],[0,1,5,10],[0,1,5,17],[0,1],[0,1,5],[0,1,5],[0,1],[0,1,27],[0,1],[4]]
def adg:=bA [[0,1,4],[0,1,4,14,15,16],[0,1,4,14,15,16],[0,1,4,14,15,16,17],[0,1,4,6,14,15,16],[0,1,4,6,14,15,16,31],[0,1,4,6,14,15,16],[0,1,4,6,14,15,16],[0,1,4,14,15,16],[0,1,4,14,15,16],[]]
def T8:=bA [[0,1],[4]]
def ad0:=bA [[0],[2]]
end Go.Proofs.YtjlnnljohemifaaGreat
