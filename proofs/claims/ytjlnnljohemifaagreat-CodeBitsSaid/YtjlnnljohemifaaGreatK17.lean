import Derived.Test.YtjlnnljohemifaaGreatK98
import Derived.Test.YtjlnnljohemifaaGreatK13
import Derived.Test.YtjlnnljohemifaaGreatK15
import Derived.Test.YtjlnnljohemifaaGreatProg
import Derived.Test.YtjlnnljohemifaaGreatChecked
import Derived.Eval
import Derived.KernelRfl
set_option maxRecDepth 100000
set_option maxHeartbeats 8000000
namespace Go.Proofs.YtjlnnljohemifaaGreat
open Go Go.Vc
def KV:=bA [[0,1],[0,1,15],[4,5],[4,5]]
def Ph:=bA [[1,2],[1,2,7],[1,2,7,8],[1,2,7,8],[4,5],[1,7,20],[4,5],[1,7,29],[4,5],[1,7,38],[4,5],[1,7,47],[4,5],[1,56],[4,5],[4,5]]
def As:=bA [[0,1,2,6],[0,1,2,6,16],[6,7],[0,1,2,6,8,9],[0,1,2,6,8,9,27],[6,7],[0,1,2,6,8],[6,8],[6,7]]
def fI:=bA [[0,1],[0,1,7,8],[0,1,7,8],[0,1,7,8,9],[0,1,5,7,8],[0,1,5,7,8,16],[4],[0,1,7,8],[4]]
def Au:=bA [[0],[2]]
def yG:=bA [[0],[2]]
def Fo:List EC:=[([0,1,4],[],[]),([0,4,7,8],[],[]),([0,4,7,8,18],[],[]),([4,5,6],[],[]),([4,7,9],[],[]),([4,5,6],[2],[1,1,1,2,2,0,2,3,1,4,1,5,0,3,3])]
abbrev lV:sn:=.aE (s1 39 (.append 3 1 8 [(.int .i64 0)] (tt 35) (tt 38))) (.aS (s1 40 (.nilCheck (tt 31))) (.aS (s1 41 (.fieldAddr 1 (tt 40))) (.aE (s0 (.store 1 (tt 41) (tt 39))) .done .stop))) .stop
abbrev lW:fT:=s1 38 (.lit 3 1 [(.int .i64 0)] [(0,(1,(tt 37)))])
abbrev lX:sn:=.aE lW lV .stop
def ng:Vc.Fn:=⟨2,[(.tmp 4)],
 (.seq (.bb [s1 3 (.box 114 (tt 1)),s1 4 (.au (ki 0))] [0,3]) (.seq (.seq (.bb [s1 5 (.au (tt 0)),s1 6 (.eD 2 (tt 3)),s1 7 (.call 158 [(tt 5),(tt 6)]),s1 8 (.un .not (tt 7))] [0,3,8]) (.cond (tt 8) (.seq (.bb [s1 4 (.au (ki 33))] [4]) .ret) .skip)) (.seq (.bb [s1 9 (.au (tt 0)),s1 10 (.nilCheck (tt 9)),s1 11 (.fieldAddr 0 (tt 10)),s1 12 (.aj (tt 11)),s1 13 (.fieldAddr 0 (tt 3)),s1 14 (.aj (tt 13)),s1 15 (.indexAddr 2 (tt 12) (tt 14)),s1 16 (.fieldAddr 1 (tt 15)),s0 (.store 1 (tt 16) (kb false))] [0,3]) (.seq (.bb [s1 17 (.au (tt 0)),s1 18 (.nilCheck (tt 17)),s1 19 (.fieldAddr 3 (tt 18)),s1 20 (.aj (tt 19)),s1 21 (.jz .sub .int (tt 20) (ki 1)),s1 22 (.nilCheck (tt 17)),s1 23 (.fieldAddr 3 (tt 22)),s0 (.store 1 (tt 23) (tt 21))] [0,3]) (.seq (.seq (.bb [s1 24 (.fieldAddr 1 (tt 3)),s1 25 (.aj (tt 24)),s1 26 (.au (tt 0)),s1 27 (.nilCheck (tt 26)),s1 28 (.fieldAddr 4 (tt 27)),s1 29 (.aj (tt 28)),s1 30 (.jz .lss .int (tt 25) (tt 29))] [0,3,30]) (.cond (tt 30) (.nP (.aS (s1 31 (.au (tt 0))) (.aS (s1 32 (.au (tt 0))) (.aS (s1 33 (.nilCheck (tt 32))) (.aS (s1 34 (.fieldAddr 1 (tt 33))) (.aS (s1 36 (.fieldAddr 0 (tt 3))) (.aE (s1 35 (.aj (tt 34))) (.aE (s1 37 (.aj (tt 36))) lX .stop) (.aE (s1 37 (.aj (tt 36))) (.aE (s1 35 (.aj (tt 34))) lX (.aE lW (.aE (s1 35 (.aj (tt 34))) lV .stop) .stop)) .stop))))))) []) .skip)) (.seq (.bb [s1 4 (.au (ki 0))] [4]) .ret))))))⟩
theorem yH:dY Tryz.prog 110 [([0,3],[],[]),([0,3,8],[],[]),([4],[],[]),([0,3],[],[]),([0,3],[],[]),([0,3,30],[],[]),([],[],[1,0,1,1,1,2,1,3,1,5,2,4,2,6,2,7,2,8,1,9,1,10,2,11,0,3,3,3,3,2,6,2,4,2,7,2,8,1,9,1,10,2,11,0,3,3,3,2,7,2,4,2,8,1,9,1,10,2,11,0,3,3,3,3,3]),([4],[],[])]=some ng:=by kernel_rfl
def yI:=bA [[0],[2]]
def yJ:=bA [[0,1],[4]]
def Av:=bA [[0,1],[4]]
def wk:=bA [[0,1],[0,1,7],[4,5],[4,5]]
def MP:=bA [[0,1],[1,6,7],[1,6,7,16],[4,5],[1,6,9],[1,6,9,24],[4,5],[4,5]]
def Hb:=bA [[1],[1,3],[2],[1,7],[2],[2]]
def pP:=bA [[0,1],[0,1,7],[4,5],[4,5]]
def Fp:=bA [[0],[0,4,5],[0,4,5,13],[2,3],[4,5,6],[2,3]]
def rq:=bA [[0,1],[0,1,7],[4,5],[4,5]]
def Hc:=bA [[0],[0,4,5],[0,4,5,14],[2,3],[6],[6,26,27],[6,26,27],[6,26,27,28],[6,7,26,27],[6,26,27],[6,26,27],[2,3]]
def oE:=bA [[0,1],[0,1,7],[4,5],[4,5]]
def DJ:List EC:=[([0],[],[]),([0,4,5],[],[]),([0,4,5,15],[],[]),([2,3],[],[]),([0,4,5,6],[],[]),([5,7],[],[]),([5,7,33,34],[],[]),([5,7,33,34],[],[]),([5,7,33,34,35],[],[]),([5,7,8,33,34],[],[]),([5,7,33,34],[3],[1,0,1,1,1,2,1,3,1,4,2,5,1,6,2,7,0,3,3]),([5,7,33,34],[],[]),([2,3],[],[])]
def ry:=bA [[0,1],[0,1,7],[4,5],[4,5]]
def Hd:=bA [[0],[0,4,5],[0,4,5,13],[2,3],[0,4,5,6],[2,3]]
def wq:=bA [[0,1],[0,1,7],[4,5],[4,5]]
def MQ:=bA [[0],[0,4,5],[0,4,5,13],[2,3],[4,5,6],[2,3]]
def wu:=bA [[0,1],[0,1,7],[4,5],[4,5]]
def MR:=bA [[0],[0,4,5],[0,4,5,12],[2,3],[2,3]]
def yK:=bA [[0,2],[0,2,4,5],[0,2,4,13],[2,3],[0,2,4,6],[0,2,4,6],[2,4,6],[2,3]]
end Go.Proofs.YtjlnnljohemifaaGreat
