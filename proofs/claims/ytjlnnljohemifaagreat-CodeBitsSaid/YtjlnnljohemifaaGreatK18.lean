/- Texts put behind each other. -/
import Derived.Test.YtjlnnljohemifaaGreatK98
import Derived.Test.YtjlnnljohemifaaGreatK13
import Derived.Test.YtjlnnljohemifaaGreatK15
import Derived.Test.YtjlnnljohemifaaGreatProg
import Derived.Test.YtjlnnljohemifaaGreatChecked
import Derived.Eval
import Derived.KernelRfl
set_option maxRecDepth 100000
set_option maxHeartbeats 8000000
namespace Go.Proofs.YtjlnnljohemifaaGreat
open Go Go.Vc
def rz:=bA [[0,2,4],[0,2,4,7,8],[0,2,4,7,8,15],[6],[0,2,4,7,19],[6],[],[6]]
def B6:=bA [[0,1,4],[0,1,4,16],[4,5],[0,4,6,7],[0,4,6,28],[4,5],[4,8],[4,5]]
abbrev n9:sn:=.aE (s0 (.store 2 (tt 6) (tt 24))) (.aS (s1 7 (.au (tt 25))) .done) .stop
abbrev og:fT:=s1 6 (.zero 224 [(.int .i64 0),(.int .u64 0)])
abbrev oh:fT:=s1 23 (.invoke (tt 20) "Entry" [(tt 22)])
def pQ:Vc.Fn:=⟨2,[(.agg 4 2),(.tmp 5)],
 (.seq (.bb [s1 3 (.box 114 (tt 1)),s1 4 (.zero 224 [(.int .i64 0),(.int .u64 0)]),s1 5 (.au (ki 0))] [0,3,4]) (.seq (.seq (.bb [s1 8 (.au (tt 0)),s1 9 (.nilCheck (tt 8)),s1 10 (.fieldAddr 2 (tt 9)),s1 11 (.aj (tt 10)),s1 12 (.eD 2 (tt 3)),s1 13 (.call 158 [(tt 11),(tt 12)]),s1 14 (.un .not (tt 13))] [0,3,4,14]) (.cond (tt 14) (.seq (.bb [s1 15 (.build [(.int .i64 0),(.int .u64 0)] []),s0 (.store 2 (tt 4) (tt 15)),s1 5 (.au (ki 33))] [4,5]) .ret) .skip)) (.seq (.nP (.aS (s1 17 (.au (tt 0))) (.aS (s1 18 (.nilCheck (tt 17))) (.aS (s1 19 (.fieldAddr 3 (tt 18))) (.zG (sq 20 (.aj (tt 19))) (.aS (s1 21 (.fieldAddr 0 (tt 3))) (.zG (sq 22 (.aj (tt 21))) (.aE oh (.aS (s1 16 (.au (tt 23))) (.aS (s1 24 (.extract 0 (tt 16))) (.aS (s1 25 (.extract 1 (tt 16))) (.aE og n9 .stop)))) (.aE og (.aE oh (.aS (s1 16 (.au (tt 23))) (.aS (s1 24 (.extract 0 (tt 16))) (.aS (s1 25 (.extract 1 (tt 16))) n9))) .stop) .stop)))))))) [4,6]) (.seq (.bb [s1 26 (.eD 2 (tt 6)),s0 (.store 2 (tt 4) (tt 26)),s1 5 (.au (ki 0))] [4,5]) .ret))))⟩
theorem B7:dY Tryz.prog 157 [([0,3,4],[],[]),([0,3,4,14],[],[]),([4,5],[],[]),([4,6],[3,5],[1,0,1,1,1,2,1,3,1,4,1,5,2,6,1,7,1,8,1,9,2,10,2,11,1,12,0,3,3,2,10,2,6,1,7,1,8,1,9,2,11,1,12,0,3,3,3]),([4,5],[],[])]=some pQ:=by kernel_rfl
def nh:Vc.Fn:=⟨2,[(.tmp 4)],
 (.seq (.bb [s1 3 (.box 114 (tt 1)),s1 4 (.au (kb false))] [0,3]) (.seq (.bb [s1 5 (.fieldAddr 0 (tt 3)),s1 6 (.aj (tt 5)),s1 7 (.jz .geq .int (tt 6) (ki 0)),s1 8 (.au (tt 7)),sg 8 true 9 (.fieldAddr 0 (tt 3)),sg 8 true 10 (.aj (tt 9)),sg 8 true 11 (.au (tt 0)),sg 8 true 12 (.nilCheck (tt 11)),sg 8 true 13 (.fieldAddr 0 (tt 12)),sg 8 true 14 (.aj (tt 13)),sg 8 true 15 (.xW (tt 14)),sg 8 true 16 (.jz .lss .int (tt 10) (tt 15)),s1 17 (.pick (tt 8) (tt 16) (kb false)),s1 18 (.au (tt 17)),sg 18 true 19 (.au (tt 0)),sg 18 true 20 (.nilCheck (tt 19)),sg 18 true 21 (.fieldAddr 0 (tt 20)),sg 18 true 22 (.aj (tt 21)),sg 18 true 23 (.fieldAddr 0 (tt 3)),sg 18 true 24 (.aj (tt 23)),sg 18 true 25 (.indexAddr 2 (tt 22) (tt 24)),sg 18 true 26 (.eD 2 (tt 25)),sg 18 true 27 (.fieldAddr 1 (tt 3)),sg 18 true 28 (.aj (tt 27)),sg 18 true 29 (.build [(.int .u32 0),(.bool false)] [(0,(1,(tt 28))),(1,(1,(kb true)))]),sg 18 true 30 (.jz .eql (.s [(0,(none,.int)),(1,(none,.bool))]) (tt 26) (tt 29)),s1 31 (.pick (tt 18) (tt 30) (kb false)),s1 4 (.au (tt 31))] [4]) .ret))⟩
theorem yL:dY Tryz.prog 158 [([0,3],[],[]),([4],[],[])]=some nh:=by kernel_rfl
def KW:=bA [[0],[0,11],[2,3],[0,4,5],[2,3]]
def MS:=bA [[0],[0,6],[2,3],[2,3]]
def KX:=bA [[0],[0,11],[2,3],[4],[4,20,21],[4,20,21],[4,20,21,22],[4,5,20,21],[4,20,21],[4,20,21],[2,3]]
def MT:List EC:=[([0],[],[]),([0,11],[],[]),([2,3],[],[]),([0,4],[],[1,0,1,2,2,1,2,3,1,4,2,5,1,6,0,3,3,2,3,2,1,1,4,2,5,1,6,0,3,3,3]),([4,18,19],[],[]),([4,18,19],[],[]),([4,18,19,20],[],[]),([4,5,18,19],[],[]),([4,18,19],[],[]),([4,18,19],[],[]),([2,3],[],[])]
def Aw:=bA [[0],[0]]
def KY:=bA [[0],[0,11],[2,3],[4],[4,20,21],[4,20,21],[4,20,21,22],[4,5,20,21],[4,20,21],[4,20,21],[2,3]]
def yM:=bA [[0],[0,4],[0,4,12],[0,4,5],[5],[2,3],[0,41],[2,3],[0],[2,3]]
def B8:=bA [[0,1,4],[0,1,4,27],[4,5],[4,5]]
def KZ:=bA [[0],[2]]
def uf:=bA [[0,1,5],[0,1,16],[6],[0,1,7],[6]]
def yN:=bA [[0,1],[0,1,5,6],[4]]
def ww:=bA [[0,1,4],[0,1,4,9],[4,5],[4,5]]
def wx:=bA [[0,1],[0,6,7],[4,5]]
def Ax:=bA [[0,1],[4]]
def yO:=bA [[0,1],[0,1,9],[4,5],[4,5]]
def yP:=bA [[0,1,2,7],[8]]
def Ay:=bA [[0,1],[4]]
end Go.Proofs.YtjlnnljohemifaaGreat
