/- Texts put behind each other. -/
import Derived.Test.YtjlnnljohemifaaGreatK98
import Derived.Test.YtjlnnljohemifaaGreatK5
import Derived.Test.YtjlnnljohemifaaGreatK6
import Derived.Test.YtjlnnljohemifaaGreatK8
import Derived.Test.YtjlnnljohemifaaGreatK9
import Derived.Test.YtjlnnljohemifaaGreatK10
import Derived.Test.YtjlnnljohemifaaGreatK11
import Derived.Test.YtjlnnljohemifaaGreatK12
import Derived.Test.YtjlnnljohemifaaGreatK13
import Derived.Test.YtjlnnljohemifaaGreatK15
import Derived.Test.YtjlnnljohemifaaGreatK16
import Derived.Test.YtjlnnljohemifaaGreatK50
import Derived.Test.YtjlnnljohemifaaGreatK51
import Derived.Test.YtjlnnljohemifaaGreatProg
import Derived.Test.YtjlnnljohemifaaGreatChecked
import Derived.Eval
import Derived.KernelRfl
set_option maxRecDepth 100000
set_option maxHeartbeats 8000000
namespace Go.Proofs.YtjlnnljohemifaaGreat
open Go Go.Vc
def adf:=bA [[],[1,2],[1,2,3,4],[0]]
def ae5:=bA [[0],[0,3],[0,3],[0,3,7],[0,3,19],[2],[0,3],[2]]
def afB:=bA [[1,2],[6,7],[6,7,15],[4,5],[4,5]]
def abV:=bA [[0,1],[0,1,13],[4,5],[0,1,6],[0,1,6,7],[0,6,7,15,16,17],[0,6,7,15,16,17],[0,6,7,15,16,17,18],[0,6,7,9,15,16,17],[0,6,7,15,16,17],[0,6,7,15,16,17,33],[4,5],[0,6,7,10,15,16,17],[0,6,7,10,15,16,17,43],[0,6,15,16,17],[0,6,7,15,16,17],[0,6,7,15,16,17],[6,50],[4,5],[4,5]]
def acm:=bA [[0,1],[0,1,6],[0,6,10,11,12],[0,6,10,11,12],[0,6,10,11,12,13],[0,6,8,10,11,12],[0,6,9,10,11,12],[0,6,9,10,11,12,27],[4,5],[0,6,10,11,12],[0,6,10,11,12],[4,5]]
def afD:=bA [[0],[0,10],[2,3],[0,4],[0,4,5],[0,5],[0,5],[0,5,24],[0,5,6],[0,5,6,27],[0,5,6,27],[0,5,6,27,28],[0,5,6,7,27],[0,5,6,27],[0,5,6,27],[0,5],[0,5],[2,3]]
def adr:=bA [[0,1],[0,1,15],[4],[4]]
def adZ:=bA [[0],[0,13],[2],[0,3],[3,14,15,16],[3,14,15,16],[3,14,15,16,17],[3,5,14,15,16],[3,5,14,15,16,26],[2],[3,14,15,16],[3,14,15,16],[2]]
def ads:=bA [[1,2],[1,2,5],[1,2,5],[1,2,5,6],[1,2,5,6,22,23,24],[1,2,5,6,22,23,24],[1,2,5,6,22,23,24,25],[1,2,5,6,7,8,22,23,24],[1,2,5,6,22,23,24],[1,2,5,6,22,23,24],[2,5,6,9],[2,5,6,9,10],[2,5,6,10,11],[2,5,6,10,11],[2,5,6,10,11,44],[2,5,6,10,11,12,13],[2,5,6,10,11,12,13,15,16],[2,5,6,10,11,13,16],[2,5,6,10,11],[2,5,6,10,11],[4]]
end Go.Proofs.YtjlnnljohemifaaGreat
