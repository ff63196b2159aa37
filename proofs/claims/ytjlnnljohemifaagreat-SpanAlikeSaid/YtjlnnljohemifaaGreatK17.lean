/- Texts put behind each other. -/
import Derived.Test.YtjlnnljohemifaaGreatK98
import Derived.Test.YtjlnnljohemifaaGreatK13
import Derived.Test.YtjlnnljohemifaaGreatK15
import Derived.Test.YtjlnnljohemifaaGreatProg
import Derived.Test.YtjlnnljohemifaaGreatChecked
import Derived.Eval
import Derived.KernelRfl
set_option maxRecDepth 100000
set_option maxHeartbeats 8000000
namespace Go.Proofs.YtjlnnljohemifaaGreat
open Go Go.Vc
def fy:=bA [[0,1],[4]]
def KV:=bA [[0,1],[0,1,15],[4,5],[4,5]]
def Ph:=bA [[1,2],[1,2,7],[1,2,7,8],[1,2,7,8],[4,5],[1,7,20],[4,5],[1,7,29],[4,5],[1,7,38],[4,5],[1,7,47],[4,5],[1,56],[4,5],[4,5]]
def As:=bA [[0,1,2,6],[0,1,2,6,16],[6,7],[0,1,2,6,8,9],[0,1,2,6,8,9,27],[6,7],[0,1,2,6,8],[6,8],[6,7]]
def fI:=bA [[0,1],[0,1,7,8],[0,1,7,8],[0,1,7,8,9],[0,1,5,7,8],[0,1,5,7,8,16],[4],[0,1,7,8],[4]]
def Au:=bA [[0],[2]]
def yG:=bA [[0],[2]]
def DH:=bA [[1,2],[3]]
def Fm:=bA [[1,2],[4]]
abbrev pN:sn:=.aE (s1 30 (.append 3 1 8 [(.int .i64 0)] (tt 27) (tt 29))) (.aS (s1 31 (.indexAddr 1 (tt 20) (tt 22))) (.aE (s0 (.store 1 (tt 31) (tt 30))) .done .stop)) .stop
abbrev pO:fT:=s1 29 (.lit 3 1 [(.int .i64 0)] [(0,(1,(tt 28)))])
def sA:Vc.Fn:=⟨1,[(.tmp 2)],
 (.seq (.bb [s1 1 (.box 52 (tt 0)),s1 2 (.au (.const (.slice none 0 0)))] [1]) (.seq (.seq (.bb [s1 6 (.eD 2 (tt 1)),s1 7 (.call 68 [(tt 6)]),s1 8 (.jz .neq .int (tt 7) (ki 0))] [1,8]) (.cond (tt 8) (.seq (.bb [s1 2 (.au (.const (.slice none 0 0)))] [2]) .ret) .skip)) (.seq (.bb [s1 9 (.fieldAddr 0 (tt 1)),s1 10 (.aj (tt 9)),s1 11 (.makeSlice 24 24 1 [(.slice none 0 0)] (tt 10) (tt 10)),s1 3 (.au (tt 11))] [1,3]) (.seq (.seq (.bb [s1 12 (.fieldAddr 1 (tt 1)),s1 13 (.aj (tt 12)),s1 14 (.xW (tt 13)),s1 15 (.au (ki 0))] [3,13,14,15]) (.Dy 0 (.loop [3,13,14,15] (.seq (.bb [s1 16 (.jz .lss .int (tt 15) (tt 14))] [3,13,14,15,16]) (.seq (.cond (tt 16) .skip (.exit 0)) (.seq (.Dy 1 (.seq (.bb [s1 17 (.au (tt 15)),s1 18 (.indexAddr 3 (tt 13) (tt 15)),s1 19 (.eD 3 (tt 18)),s1 5 (.zero 61 [(.int .i64 0),(.int .i64 0),(.int .i64 0)]),s1 4 (.au (tt 17)),s0 (.store 3 (tt 5) (tt 19))] [3,4,5,13,14,15]) (.nP (.aS (s1 20 (.au (tt 3))) (.aS (s1 21 (.fieldAddr 0 (tt 5))) (.zG (sq 22 (.aj (tt 21))) (.aS (s1 23 (.au (tt 3))) (.aS (s1 24 (.fieldAddr 0 (tt 5))) (.zG (sq 25 (.aj (tt 24))) (.aS (s1 26 (.indexAddr 1 (tt 23) (tt 25))) (.aS (s1 28 (.au (tt 4))) (.aE (s1 27 (.aj (tt 26))) (.aE pO pN .stop) (.aE pO (.aE (s1 27 (.aj (tt 26))) pN .stop) .stop)))))))))) [3,13,14,15]))) (.bb [s1 32 (.jz .add .int (tt 15) (ki 1)),s1 15 (.au (tt 32))] [3,13,14,15]))))))) (.seq (.bb [s1 33 (.au (tt 3)),s1 2 (.au (tt 33))] [2]) .ret)))))⟩
theorem DI:dY Tryz.prog 107 [([1],[],[]),([1,8],[],[]),([2],[],[]),([1,3],[],[]),([3,13,14,15],[],[]),([3,13,14,15],[],[]),([3,13,14,15,16],[],[]),([3,4,5,13,14,15],[],[]),([3,13,14,15],[2,5],[1,0,1,1,1,2,1,3,1,4,1,5,1,6,1,8,2,7,2,9,2,10,1,11,2,12,0,3,3,3,2,9,2,7,2,10,1,11,2,12,0,3,3,3,3]),([3,13,14,15],[],[]),([2],[],[])]=some sA:=by kernel_rfl
def lU:Vc.Fn:=⟨3,[],
 (.seq (.bb [s1 9 (.au (tt 0)),s1 10 (.nilCheck (tt 9)),s1 11 (.fieldAddr 0 (tt 10)),s1 12 (.fieldAddr 1 (tt 11)),s1 13 (.aj (tt 12)),s1 14 (.au (tt 2)),s1 15 (.indexAddr 3 (tt 13) (tt 14)),s1 16 (.fieldAddr 2 (tt 15)),s1 17 (.aj (tt 16)),s1 6 (.au (tt 17))] [0,1,2,6]) (.Dy 0 (.seq (.bb [s1 19 (.au (tt 0)),s1 20 (.nilCheck (tt 19)),s1 21 (.fieldAddr 3 (tt 20)),s1 22 (.aj (tt 21)),s1 23 (.au (tt 1)),s1 24 (.indexAddr 1 (tt 22) (tt 23)),s1 25 (.aj (tt 24)),s1 26 (.jz .eql .int (tt 25) (ki 2)),s1 18 (.au (tt 26))] [0,1,2,6,18]) (.cond (tt 18) .skip (.seq (.bb [s1 28 (.au (tt 0)),s1 29 (.nilCheck (tt 28)),s1 30 (.fieldAddr 3 (tt 29)),s1 31 (.aj (tt 30)),s1 32 (.au (tt 1)),s1 33 (.indexAddr 1 (tt 31) (tt 32)),s1 34 (.aj (tt 33)),s1 35 (.jz .eql .int (tt 34) (ki 0)),s1 27 (.au (tt 35))] [0,1,2,6,27]) (.cond (tt 27) (.seq (.bb [s1 37 (.au (tt 0)),s1 38 (.nilCheck (tt 37)),s1 39 (.fieldAddr 2 (tt 38)),s1 40 (.aj (tt 39)),s1 41 (.au (tt 6)),s1 42 (.call 98 [(tt 40),(ki 1),(tt 41)]),s1 36 (.au (tt 42)),s1 43 (.extract 0 (tt 36)),s1 44 (.extract 1 (tt 36)),s1 7 (.zero 114 [(.int .i64 0),(.int .u32 0)]),s0 (.store 2 (tt 7) (tt 43)),s1 8 (.au (tt 44))] [0,1,2,7]) (.seq (.nP (.aS (s1 45 (.au (tt 0))) (.aS (s1 46 (.nilCheck (tt 45))) (.aS (s1 47 (.fieldAddr 3 (tt 46))) (.zG (sq 48 (.aj (tt 47))) (.aS (s1 49 (.au (tt 1))) (.aS (s1 50 (.au (tt 0))) (.aS (s1 51 (.nilCheck (tt 50))) (.aS (s1 52 (.fieldAddr 4 (tt 51))) (.zG (sq 53 (.aj (tt 52))) (.aS (s1 54 (.au (tt 1))) (.aS (s1 55 (.au (tt 0))) (.aS (s1 56 (.nilCheck (tt 55))) (.aS (s1 57 (.fieldAddr 5 (tt 56))) (.zG (sq 58 (.aj (tt 57))) (.aS (s1 59 (.au (tt 1))) (.aS (s1 60 (.au (tt 2))) (.zG (sq 61 (.eD 2 (tt 7))) (.aS (s1 62 (.indexAddr 1 (tt 48) (tt 49))) (.aE (s0 (.store 1 (tt 62) (ki 1))) (.aS (s1 63 (.indexAddr 1 (tt 53) (tt 54))) (.aE (s0 (.store 1 (tt 63) (tt 60))) (.aS (s1 64 (.indexAddr 2 (tt 58) (tt 59))) (.aE (s0 (.store 2 (tt 64) (tt 61))) .done .stop)) .stop)) .stop))))))))))))))))))) [0,1,7]) (.bb [s1 65 (.au (tt 0)),s1 66 (.nilCheck (tt 65)),s1 67 (.fieldAddr 6 (tt 66)),s1 68 (.aj (tt 67)),s1 69 (.eD 2 (tt 7)),s1 70 (.au (tt 1)),s0 (.update (.s [(0,(none,.int)),(1,(none,.int))]) (tt 68) (tt 69) (tt 70))] []))) (.seq (.bb [s1 72 (.au (tt 6)),s1 73 (.au (tt 0)),s1 74 (.nilCheck (tt 73)),s1 75 (.fieldAddr 0 (tt 74)),s1 76 (.fieldAddr 1 (tt 75)),s1 77 (.aj (tt 76)),s1 78 (.au (tt 0)),s1 79 (.nilCheck (tt 78)),s1 80 (.fieldAddr 4 (tt 79)),s1 81 (.aj (tt 80)),s1 82 (.au (tt 1)),s1 83 (.indexAddr 1 (tt 81) (tt 82)),s1 84 (.aj (tt 83)),s1 85 (.indexAddr 3 (tt 77) (tt 84)),s1 86 (.fieldAddr 2 (tt 85)),s1 87 (.aj (tt 86)),s1 88 (.jz .lss .int (tt 72) (tt 87)),s1 71 (.au (tt 88))] [0,1,2,6,71]) (.cond (tt 71) (.seq (.bb [s1 89 (.au (tt 0)),s1 90 (.nilCheck (tt 89)),s1 91 (.fieldAddr 2 (tt 90)),s1 92 (.aj (tt 91)),s1 93 (.au (tt 0)),s1 94 (.nilCheck (tt 93)),s1 95 (.fieldAddr 5 (tt 94)),s1 96 (.aj (tt 95)),s1 97 (.au (tt 1)),s1 98 (.indexAddr 2 (tt 96) (tt 97)),s1 99 (.eD 2 (tt 98)),s1 100 (.au (tt 6)),s1 101 (.call 155 [(tt 92),(tt 99),(tt 100)])] [0,1,2]) (.bb [s1 102 (.au (tt 0)),s1 103 (.nilCheck (tt 102)),s1 104 (.fieldAddr 4 (tt 103)),s1 105 (.aj (tt 104)),s1 106 (.au (tt 1)),s1 107 (.au (tt 2)),s1 108 (.indexAddr 1 (tt 105) (tt 106)),s0 (.store 1 (tt 108) (tt 107))] [])) .skip))))))))⟩
theorem wh:dY Tryz.prog 108 [([0,1,2,6],[],[]),([0,1,2,6,18],[],[]),([0,1,2,6,27],[],[]),([0,1,2,7],[],[]),([0,1,7],[3,8,13,16],[1,0,1,1,1,2,1,3,1,4,1,5,1,6,1,7,1,8,1,9,1,10,1,11,1,12,1,13,1,14,1,15,1,16,1,17,2,18,1,19,2,20,1,21,2,22,0,3,3,3]),([],[],[]),([0,1,2,6,71],[],[]),([0,1,2],[],[]),([],[],[])]=some lU:=by kernel_rfl
def Fo:List EC:=[([0,1,4],[],[]),([0,4,7,8],[],[]),([0,4,7,8,18],[],[]),([4,5,6],[],[]),([4,7,9],[],[]),([4,5,6],[2],[1,1,1,2,2,0,2,3,1,4,1,5,0,3,3])]
abbrev lV:sn:=.aE (s1 39 (.append 3 1 8 [(.int .i64 0)] (tt 35) (tt 38))) (.aS (s1 40 (.nilCheck (tt 31))) (.aS (s1 41 (.fieldAddr 1 (tt 40))) (.aE (s0 (.store 1 (tt 41) (tt 39))) .done .stop))) .stop
abbrev lW:fT:=s1 38 (.lit 3 1 [(.int .i64 0)] [(0,(1,(tt 37)))])
abbrev lX:sn:=.aE lW lV .stop
def ng:Vc.Fn:=⟨2,[(.tmp 4)],
 (.seq (.bb [s1 3 (.box 114 (tt 1)),s1 4 (.au (ki 0))] [0,3]) (.seq (.seq (.bb [s1 5 (.au (tt 0)),s1 6 (.eD 2 (tt 3)),s1 7 (.call 158 [(tt 5),(tt 6)]),s1 8 (.un .not (tt 7))] [0,3,8]) (.cond (tt 8) (.seq (.bb [s1 4 (.au (ki 33))] [4]) .ret) .skip)) (.seq (.bb [s1 9 (.au (tt 0)),s1 10 (.nilCheck (tt 9)),s1 11 (.fieldAddr 0 (tt 10)),s1 12 (.aj (tt 11)),s1 13 (.fieldAddr 0 (tt 3)),s1 14 (.aj (tt 13)),s1 15 (.indexAddr 2 (tt 12) (tt 14)),s1 16 (.fieldAddr 1 (tt 15)),s0 (.store 1 (tt 16) (kb false))] [0,3]) (.seq (.bb [s1 17 (.au (tt 0)),s1 18 (.nilCheck (tt 17)),s1 19 (.fieldAddr 3 (tt 18)),s1 20 (.aj (tt 19)),s1 21 (.jz .sub .int (tt 20) (ki 1)),s1 22 (.nilCheck (tt 17)),s1 23 (.fieldAddr 3 (tt 22)),s0 (.store 1 (tt 23) (tt 21))] [0,3]) (.seq (.seq (.bb [s1 24 (.fieldAddr 1 (tt 3)),s1 25 (.aj (tt 24)),s1 26 (.au (tt 0)),s1 27 (.nilCheck (tt 26)),s1 28 (.fieldAddr 4 (tt 27)),s1 29 (.aj (tt 28)),s1 30 (.jz .lss .int (tt 25) (tt 29))] [0,3,30]) (.cond (tt 30) (.nP (.aS (s1 31 (.au (tt 0))) (.aS (s1 32 (.au (tt 0))) (.aS (s1 33 (.nilCheck (tt 32))) (.aS (s1 34 (.fieldAddr 1 (tt 33))) (.aS (s1 36 (.fieldAddr 0 (tt 3))) (.aE (s1 35 (.aj (tt 34))) (.aE (s1 37 (.aj (tt 36))) lX .stop) (.aE (s1 37 (.aj (tt 36))) (.aE (s1 35 (.aj (tt 34))) lX (.aE lW (.aE (s1 35 (.aj (tt 34))) lV .stop) .stop)) .stop))))))) []) .skip)) (.seq (.bb [s1 4 (.au (ki 0))] [4]) .ret))))))⟩
theorem yH:dY Tryz.prog 110 [([0,3],[],[]),([0,3,8],[],[]),([4],[],[]),([0,3],[],[]),([0,3],[],[]),([0,3,30],[],[]),([],[],[1,0,1,1,1,2,1,3,1,5,2,4,2,6,2,7,2,8,1,9,1,10,2,11,0,3,3,3,3,2,6,2,4,2,7,2,8,1,9,1,10,2,11,0,3,3,3,2,7,2,4,2,8,1,9,1,10,2,11,0,3,3,3,3,3]),([4],[],[])]=some ng:=by kernel_rfl
def yI:=bA [[0],[2]]
def yJ:=bA [[0,1],[4]]
def Av:=bA [[0,1],[4]]
def gC:=bA [[0,1],[0,1,7,8],[0,1,7,8],[0,1,7,8,9],[0,1,5,7,8],[0,1,5,7,8,16],[4],[0,1,7,8],[4]]
def wk:=bA [[0,1],[0,1,7],[4,5],[4,5]]
def MP:=bA [[0,1],[1,6,7],[1,6,7,16],[4,5],[1,6,9],[1,6,9,24],[4,5],[4,5]]
def Hb:=bA [[1],[1,3],[2],[1,7],[2],[2]]
def pP:=bA [[0,1],[0,1,7],[4,5],[4,5]]
def Fp:=bA [[0],[0,4,5],[0,4,5,13],[2,3],[4,5,6],[2,3]]
def rq:=bA [[0,1],[0,1,7],[4,5],[4,5]]
def Hc:=bA [[0],[0,4,5],[0,4,5,14],[2,3],[6],[6,26,27],[6,26,27],[6,26,27,28],[6,7,26,27],[6,26,27],[6,26,27],[2,3]]
def oE:=bA [[0,1],[0,1,7],[4,5],[4,5]]
def DJ:List EC:=[([0],[],[]),([0,4,5],[],[]),([0,4,5,15],[],[]),([2,3],[],[]),([0,4,5,6],[],[]),([5,7],[],[]),([5,7,33,34],[],[]),([5,7,33,34],[],[]),([5,7,33,34,35],[],[]),([5,7,8,33,34],[],[]),([5,7,33,34],[3],[1,0,1,1,1,2,1,3,1,4,2,5,1,6,2,7,0,3,3]),([5,7,33,34],[],[]),([2,3],[],[])]
def ry:=bA [[0,1],[0,1,7],[4,5],[4,5]]
def Hd:=bA [[0],[0,4,5],[0,4,5,13],[2,3],[0,4,5,6],[2,3]]
def wq:=bA [[0,1],[0,1,7],[4,5],[4,5]]
def MQ:=bA [[0],[0,4,5],[0,4,5,13],[2,3],[4,5,6],[2,3]]
def wu:=bA [[0,1],[0,1,7],[4,5],[4,5]]
def MR:=bA [[0],[0,4,5],[0,4,5,12],[2,3],[2,3]]
def yK:=bA [[0,2],[0,2,4,5],[0,2,4,13],[2,3],[0,2,4,6],[0,2,4,6],[2,4,6],[2,3]]
end Go.Proofs.YtjlnnljohemifaaGreat
