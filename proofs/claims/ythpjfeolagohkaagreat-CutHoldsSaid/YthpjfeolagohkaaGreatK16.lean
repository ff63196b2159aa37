/- Texts put behind each other. -/
import Derived.Test.YthpjfeolagohkaaGreatK98
import Derived.Test.YthpjfeolagohkaaGreatK12
import Derived.Test.YthpjfeolagohkaaGreatK14
import Derived.Test.YthpjfeolagohkaaGreatProg
import Derived.Test.YthpjfeolagohkaaGreatChecked
import Derived.Eval
import Derived.KernelRfl
set_option maxRecDepth 100000
set_option maxHeartbeats 8000000
namespace Go.Proofs.YthpjfeolagohkaaGreat
open Go Go.Vc
def zM:=bB [[0],[2]]
def zN:=bB [[0,1],[4]]
def Bx:=bB [[0,1],[4]]
def sk:=bB [[0],[0,4],[2],[2]]
def Mu:=bB [[0],[0,11],[2,3],[0,4,5],[2,3]]
def Od:=bB [[0],[0,6],[2,3],[2,3]]
def Mv:=bB [[0],[0,11],[2,3],[4],[4,20,21],[4,20,21],[4,20,21,22],[4,5,20,21],[4,20,21],[4,20,21],[2,3]]
def Oe:List HS:=[([0],[],[]),([0,11],[],[]),([2,3],[],[]),([0,4],[],[1,0,1,2,2,1,2,3,1,4,2,5,1,6,0,3,3,2,3,2,1,1,4,2,5,1,6,0,3,3,3]),([4,18,19],[],[]),([4,18,19],[],[]),([4,18,19,20],[],[]),([4,5,18,19],[],[]),([4,18,19],[],[]),([4,18,19],[],[]),([2,3],[],[])]
def By:=bB [[0],[0]]
def Mw:=bB [[0],[0,11],[2,3],[4],[4,20,21],[4,20,21],[4,20,21,22],[4,5,20,21],[4,20,21],[4,20,21],[2,3]]
def zO:=bB [[0,2],[0,2,4,5],[0,2,4,13],[2,3],[0,2,4,6],[0,2,4,6],[2,4,6],[2,3]]
def Dg:=bB [[0,1,4],[0,1,4,27],[4,5],[4,5]]
def Mx:=bB [[0],[2]]
def zP:=bB [[0],[0,4],[0,4,12],[0,4,5],[5],[2,3],[0,41],[2,3],[0],[2,3]]
def vi:=bB [[0,1,5],[0,1,16],[6],[0,1,7],[6]]
def zQ:=bB [[0,1],[0,1,5,6],[4]]
def xq:=bB [[0,1,4],[0,1,4,9],[4,5],[4,5]]
def xt:=bB [[0,1],[0,6,7],[4,5]]
def Bz:=bB [[0,1],[4]]
def zR:=bB [[0,1],[0,1,9],[4,5],[4,5]]
def zS:=bB [[0,1,2,7],[8]]
def BA:=bB [[0,1],[4]]
def Dh:=bB [[0],[0,3],[0,3,12],[0,3,4],[3],[2]]
def EU:=bB [[0,1],[0,1,12],[4,5],[4,5]]
def xu:=bB [[0,1,5],[0,1,5,22],[6],[],[6]]
def Di:=bB [[0,1,2],[0,1,2,7,8],[0,1,2,7,8,18],[8],[6]]
def Dj:=bB [[0,1],[4]]
def BB:=bB [[0,1,2],[0,1,2,7,8],[0,1,2,7,20],[6],[0,1,2,7,9],[0,1,2,7,9],[0,1,2,7,9],[0,1,7,9,54],[6],[0,1,7,9,61],[],[6]]
def zT:=bB [[0,1],[0,1,5,6],[0,1,5,14],[4],[0,5],[0,5],[0,5,35],[],[4]]
end Go.Proofs.YthpjfeolagohkaaGreat
