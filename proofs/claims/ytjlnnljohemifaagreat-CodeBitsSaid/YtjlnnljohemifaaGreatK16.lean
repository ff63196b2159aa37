import Derived.Test.YtjlnnljohemifaaGreatK98
import Derived.Test.YtjlnnljohemifaaGreatK13
import Derived.Test.YtjlnnljohemifaaGreatK15
import Derived.Test.YtjlnnljohemifaaGreatProg
import Derived.Test.YtjlnnljohemifaaGreatChecked
import Derived.Eval
import Derived.KernelRfl
set_option maxRecDepth 100000
set_option maxHeartbeats 8000000
namespace Go.Proofs.YtjlnnljohemifaaGreat
open Go Go.Vc
def G6:=bA [[1],[1,3],[2],[1,12],[12],[2],[2]]
def Pg:=bA [[1,2,3],[1,2,3,8],[1,2,3,8,15],[6,7],[1,3,9,10],[1,3,9,10,24],[6,7],[3,9,10,11],[3,9,10,11,33],[6,7],[6,7]]
def rj:=bA [[0],[0,4],[2],[2]]
def kN:=bA [[0,1],[4]]
def Jf:=bA [[0],[0,3],[3,6,7,8],[3,6,7,8],[3,6,7,8,9],[3,5,6,7,8],[3,5,6,7,8,14],[2],[3,6,7,8],[2]]
def we:=bA [[0,1],[0,1,5],[0,1,5,6],[0,1,6,11],[12],[4],[4],[0,1,13],[4],[0,1,16],[4],[19],[4],[4]]
def ue:=bA [[0,1],[0,1,5],[0,1,5,6],[0,1,6,11],[12],[4],[4],[0,1,13],[4],[0,1,16],[4],[19],[4],[4]]
def yD:=bA [[0],[4],[4,11],[2,3],[2,3]]
def sY:=bA [[0,1,4],[0,1,4,7,8,9],[0,1,4,7,8,9,18],[4,5,6],[0,4,7,8],[4,7,8],[4,5,6]]
def KU:=bA [[0],[0,9],[2,3],[2,3]]
def yE:List EC:=[([0],[],[]),([0,11],[1],[]),([2,3],[],[]),([0,4],[],[]),([0,4],[],[]),([4],[],[]),([2,3],[],[])]
def yF:=bA [[0,1],[0,1,9],[4,5],[0,1],[0,1,18],[0,1],[0,1],[4,5]]
end Go.Proofs.YtjlnnljohemifaaGreat
