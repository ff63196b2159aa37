/- Texts put behind each other. -/
import Derived.Test.YtjlnnljohemifaaGreatK98
import Derived.Test.YtjlnnljohemifaaGreatK9
import Derived.Test.YtjlnnljohemifaaGreatK11
import Derived.Test.YtjlnnljohemifaaGreatProg
import Derived.Test.YtjlnnljohemifaaGreatChecked
import Derived.Eval
import Derived.KernelRfl
set_option maxRecDepth 100000
set_option maxHeartbeats 8000000
namespace Go.Proofs.YtjlnnljohemifaaGreat
open Go Go.Vc
def pL:=bj [[0,2,4],[0,2,4,7,8],[0,2,4,7,8,15],[6],[0,2,4,7,19],[6],[],[6]]
def AY:=bj [[0,1,4],[0,1,4,16],[4,5],[0,4,6,7],[0,4,6,28],[4,5],[4,8],[4,5]]
def AZ:List pj:=[([0,3,4],[],[]),([0,3,4,14],[],[]),([4,5],[],[]),([4,6],[3,5],[1,0,1,1,1,2,1,3,1,4,1,5,2,6,1,7,1,8,1,9,2,10,2,11,1,12,0,3,3,2,10,2,6,1,7,1,8,1,9,2,11,1,12,0,3,3,3]),([4,5],[],[])]
def xz:=bj [[0,3],[4]]
def JC:=bj [[0],[0,11],[2,3],[0,4,5],[2,3]]
def Lx:=bj [[0],[0,6],[2,3],[2,3]]
def JD:=bj [[0],[0,11],[2,3],[4],[4,20,21],[4,20,21],[4,20,21,22],[4,5,20,21],[4,20,21],[4,20,21],[2,3]]
def Ly:List pj:=[([0],[],[]),([0,11],[],[]),([2,3],[],[]),([0,4],[],[1,0,1,2,2,1,2,3,1,4,2,5,1,6,0,3,3,2,3,2,1,1,4,2,5,1,6,0,3,3,3]),([4,18,19],[],[]),([4,18,19],[],[]),([4,18,19,20],[],[]),([4,5,18,19],[],[]),([4,18,19],[],[]),([4,18,19],[],[]),([2,3],[],[])]
def zi:=bj [[0],[0]]
def JE:=bj [[0],[0,11],[2,3],[4],[4,20,21],[4,20,21],[4,20,21,22],[4,5,20,21],[4,20,21],[4,20,21],[2,3]]
def xA:=bj [[0],[0,4],[0,4,12],[0,4,5],[5],[2,3],[0,41],[2,3],[0],[2,3]]
def A5:=bj [[0,1,4],[0,1,4,27],[4,5],[4,5]]
def JF:=bj [[0],[2]]
def sH:=bj [[0,1,5],[0,1,16],[6],[0,1,7],[6]]
def xB:=bj [[0,1],[0,1,5,6],[4]]
def vj:=bj [[0,1,4],[0,1,4,9],[4,5],[4,5]]
def vk:=bj [[0,1],[0,6,7],[4,5]]
def zj:=bj [[0,1],[4]]
def xC:=bj [[0,1],[0,1,9],[4,5],[4,5]]
def xD:=bj [[0,1,2,7],[8]]
def zk:=bj [[0,1],[4]]
end Go.Proofs.YtjlnnljohemifaaGreat
