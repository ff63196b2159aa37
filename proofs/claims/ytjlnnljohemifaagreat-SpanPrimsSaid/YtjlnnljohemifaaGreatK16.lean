/- Texts put behind each other. -/
import Derived.Test.YtjlnnljohemifaaGreatK98
import Derived.Test.YtjlnnljohemifaaGreatK9
import Derived.Test.YtjlnnljohemifaaGreatK11
import Derived.Test.YtjlnnljohemifaaGreatProg
import Derived.Test.YtjlnnljohemifaaGreatChecked
import Derived.Eval
import Derived.KernelRfl
set_option maxRecDepth 100000
set_option maxHeartbeats 8000000
namespace Go.Proofs.YtjlnnljohemifaaGreat
open Go Go.Vc
def Ct:=bA [[0,1],[0,1,10],[4],[0,1,5],[0,1,5,6],[0,1,5,6],[0,1,5,6,22],[0,1,5,6],[0,1,5,6],[4]]
def AM:=bA [[0,1],[4]]
def tC:=bA [[0,1],[0,1,5],[0,5,10,11,12],[0,5,10,11,12],[0,5,10,11,12,13],[0,5,7,10,11,12],[0,5,7,10,11,12],[0,5,7,8,10,11,12],[0,5,7,8,10,11,12],[0,5,7,8,10,11,12,27],[0,5,7,8,10,11,12],[0,5,7,8,9,10,11,12],[0,5,7,8,9,10,11,12,36],[0,5,10,11,12],[0,5,7,9,10,11,12],[0,5,7,9,10,11,12,50],[0,5,7,9,10,11,12],[0,5,7,10,11,12],[0,5,10,11,12],[4]]
def tD:=bA [[0,1,2,13],[],[0,1,2],[0,1,2,46],[]]
def ur:=bA [[0,1,2,6],[0,1,2,6],[0,1,2,6],[0,1,2,6,7],[0,1,2,6,7,43],[0,1,2],[0,1,2],[0,1,2],[]]
def oO:=bA [[0,1,2],[0,1,2,15],[0,1,2,24],[],[0,1,2,6],[0,1,6],[0,1,2]]
def mi:Vc.Fn:=⟨3,[(.tmp 6)],
 (.seq (.aY [s1 6 (.au (kb false))] [0,1,2]) (.seq (.seq (.aY [s1 9 (.au (tt 0)),s1 10 (.au (tt 1)),s1 11 (.call 301 [(tt 9),(tt 10)]),s1 12 (.un .not (tt 11)),s1 13 (.au (tt 12)),sg 13 false 14 (.au (tt 0)),sg 13 false 15 (.au (tt 2)),sg 13 false 16 (.call 301 [(tt 14),(tt 15)]),sg 13 false 17 (.un .not (tt 16)),s1 18 (.pick (tt 13) (kb true) (tt 17))] [0,1,2,18]) (.cond (tt 18) (.seq (.aY [s1 6 (.au (kb false))] [6]) .ret) .skip)) (.seq (.aY [s1 19 (.au (tt 0)),s1 20 (.nilCheck (tt 19)),s1 21 (.fieldAddr 0 (tt 20)),s1 22 (.aj (tt 21)),s1 23 (.au (tt 1)),s1 24 (.indexAddr 1 (tt 22) (tt 23)),s1 25 (.aj (tt 24)),s1 26 (.au (tt 0)),s1 27 (.nilCheck (tt 26)),s1 28 (.fieldAddr 0 (tt 27)),s1 29 (.aj (tt 28)),s1 30 (.au (tt 2)),s1 31 (.indexAddr 1 (tt 29) (tt 30)),s1 32 (.aj (tt 31)),s1 7 (.au (tt 25)),s1 8 (.au (tt 32))] [0,1,2,7,8]) (.seq (.aY [s1 33 (.au (tt 0)),s1 34 (.nilCheck (tt 33)),s1 35 (.fieldAddr 0 (tt 34)),s1 36 (.aj (tt 35)),s1 37 (.au (tt 1)),s1 38 (.au (tt 0)),s1 39 (.nilCheck (tt 38)),s1 40 (.fieldAddr 0 (tt 39)),s1 41 (.aj (tt 40)),s1 42 (.au (tt 2)),s1 43 (.au (tt 8)),s1 44 (.au (tt 7)),s1 45 (.indexAddr 1 (tt 36) (tt 37)),s0 (.store 1 (tt 45) (tt 43)),s1 46 (.indexAddr 1 (tt 41) (tt 42)),s0 (.store 1 (tt 46) (tt 44))] [0,1,2,7,8]) (.seq (.aY [s1 47 (.au (tt 0)),s1 48 (.nilCheck (tt 47)),s1 49 (.fieldAddr 1 (tt 48)),s1 50 (.aj (tt 49)),s1 51 (.au (tt 8)),s1 52 (.au (tt 0)),s1 53 (.nilCheck (tt 52)),s1 54 (.fieldAddr 1 (tt 53)),s1 55 (.aj (tt 54)),s1 56 (.au (tt 7)),s1 57 (.au (tt 1)),s1 58 (.au (tt 2)),s1 59 (.indexAddr 1 (tt 50) (tt 51)),s0 (.store 1 (tt 59) (tt 57)),s1 60 (.indexAddr 1 (tt 55) (tt 56)),s0 (.store 1 (tt 60) (tt 58))] []) (.seq (.aY [s1 6 (.au (kb true))] [6]) .ret))))))⟩
theorem xi:ed Tryz.prog 300 [([0,1,2],[],[]),([0,1,2,18],[],[]),([6],[],[]),([0,1,2,7,8],[],[]),([0,1,2,7,8],[],[]),([],[],[]),([6],[],[])]=some mi:=by kernel_rfl
def Cu:=bA [[0,1],[4]]
def rI:=bA [[0,1,2,6,7],[0,1,2,6,7,24],[1,2,6,7],[2,6,7],[2,7],[]]
def AN:=bA [[0,1],[0,1,9],[4,5],[4,5]]
def iA:Vc.Fn:=⟨3,[(.tmp 6)],
 (.seq (.aY [s1 5 (.box 224 (tt 2)),s1 6 (.au (kb false))] [0,1,5]) (.seq (.seq (.aY [s1 11 (.au (tt 0)),s1 12 (.nilCheck (tt 11)),s1 13 (.fieldAddr 0 (tt 12)),s1 14 (.aj (tt 13)),s1 15 (.au (tt 1)),s1 16 (.da 2 (tt 5)),s1 17 (.call 226 [(tt 14),(tt 15),(tt 16)]),s1 18 (.un .not (tt 17))] [0,1,18]) (.cond (tt 18) (.seq (.aY [s1 6 (.au (kb false))] [6]) .ret) .skip)) (.seq (.aY [s1 20 (.au (tt 0)),s1 21 (.nilCheck (tt 20)),s1 22 (.fieldAddr 0 (tt 21)),s1 23 (.aj (tt 22)),s1 24 (.au (tt 1)),s1 25 (.call 219 [(tt 23),(tt 24)]),s1 19 (.au (tt 25)),s1 26 (.extract 0 (tt 19)),s1 27 (.extract 1 (tt 19)),s1 7 (.au (tt 26)),s1 8 (.au (tt 27))] [0,1,7]) (.seq (.seq (.aY [s1 29 (.au (tt 0)),s1 30 (.nilCheck (tt 29)),s1 31 (.fieldAddr 1 (tt 30)),s1 32 (.aj (tt 31)),s1 33 (.au (tt 1)),s1 34 (.call 311 [(tt 32),(tt 33)]),s1 28 (.au (tt 34)),s1 35 (.extract 0 (tt 28)),s1 36 (.extract 1 (tt 28)),s1 9 (.au (tt 35)),s1 10 (.au (tt 36))] [0,1,7,9,10]) (.seq (.aY [s1 37 (.au (tt 10))] [0,1,7,9,37]) (.cond (tt 37) (.seq (.aY [s1 38 (.au (tt 0)),s1 39 (.au (tt 9)),s1 40 (.call 312 [(tt 38),(tt 39)])] [0,1,7]) (.ng (.aR (s1 41 (.au (tt 0))) (.aR (s1 42 (.nilCheck (tt 41))) (.aR (s1 43 (.fieldAddr 3 (tt 42))) (.xP (sq 44 (.aj (tt 43))) (.aR (s1 45 (.au (tt 7))) (.aR (s1 46 (.au (tt 0))) (.aR (s1 47 (.au (tt 0))) (.aR (s1 48 (.nilCheck (tt 47))) (.aR (s1 49 (.fieldAddr 3 (tt 48))) (.aR (s1 51 (.au (tt 7))) (.aR (s1 54 (.au (tt 1))) (.aE (s1 50 (.aj (tt 49))) (.aR (s1 52 (.indexAddr 1 (tt 50) (tt 51))) (.aE (s1 53 (.aj (tt 52))) (.aE (s1 55 (.call 313 [(tt 46),(tt 53),(tt 54)])) (.aR (s1 56 (.indexAddr 1 (tt 44) (tt 45))) (.aE (s0 (.store 1 (tt 56) (tt 55))) .done .stop)) .stop) .stop)) .stop)))))))))))) [])) .skip))) (.seq (.aY [s1 6 (.au (kb true))] [6]) .ret)))))⟩
theorem qd:ed Tryz.prog 304 [([0,1,5],[],[]),([0,1,18],[],[]),([6],[],[]),([0,1,7],[],[]),([0,1,7,9,10],[],[]),([0,1,7,9,37],[],[]),([0,1,7],[],[]),([],[3],[1,0,1,1,1,2,1,3,1,4,1,5,1,6,1,7,1,8,1,10,1,13,2,9,1,11,2,12,2,14,1,15,2,16,0,3,3,3,3]),([6],[],[])]=some iA:=by kernel_rfl
def tE:List E8:=[([0,1],[],[]),([0,1,5,6],[],[]),([0,1,5,23],[],[]),([4],[],[]),([0,1,5,7,8],[5,8],[]),([0,1,5,7,8],[],[]),([0,1,5,7,8],[],[]),([0,1,5,9],[],[]),([0,1,5,9,10,11],[],[]),([0,1,5,9,10,67],[],[]),([0,1,9,10,12],[],[]),([0,1,9,10,12],[],[]),([0,1,9,10,12,86],[],[]),([0,1,10],[],[]),([0,1],[],[]),([0,1],[],[]),([4],[],[])]
def rJ:=bA [[0,1],[0,6,7],[4,5]]
def jP:Vc.Fn:=⟨4,[(.tmp 8)],
 (.seq (.aY [s1 7 (.box 224 (tt 3)),s1 8 (.au (kb false))] [0,1,2,7]) (.seq (.seq (.aY [s1 9 (.au (tt 0)),s1 10 (.nilCheck (tt 9)),s1 11 (.fieldAddr 0 (tt 10)),s1 12 (.aj (tt 11)),s1 13 (.au (tt 1)),s1 14 (.au (tt 2)),s1 15 (.da 2 (tt 7)),s1 16 (.call 231 [(tt 12),(tt 13),(tt 14),(tt 15)]),s1 17 (.un .not (tt 16))] [0,1,2,17]) (.cond (tt 17) (.seq (.aY [s1 8 (.au (kb false))] [8]) .ret) .skip)) (.seq (.aY [s1 18 (.au (tt 0)),s1 19 (.nilCheck (tt 18)),s1 20 (.fieldAddr 2 (tt 19)),s1 21 (.aj (tt 20)),s1 22 (.au (tt 2)),s1 23 (.indexAddr 1 (tt 21) (tt 22)),s0 (.store 1 (tt 23) (ki 1))] [0,1,2]) (.seq (.ng (.aR (s1 24 (.au (tt 0))) (.aR (s1 25 (.nilCheck (tt 24))) (.aR (s1 26 (.fieldAddr 3 (tt 25))) (.xP (sq 27 (.aj (tt 26))) (.aR (s1 28 (.au (tt 1))) (.aR (s1 29 (.au (tt 0))) (.aR (s1 30 (.au (tt 0))) (.aR (s1 31 (.nilCheck (tt 30))) (.aR (s1 32 (.fieldAddr 3 (tt 31))) (.aR (s1 34 (.au (tt 1))) (.aR (s1 37 (.au (tt 2))) (.aE (s1 33 (.aj (tt 32))) (.aR (s1 35 (.indexAddr 1 (tt 33) (tt 34))) (.aE (s1 36 (.aj (tt 35))) (.aE (s1 38 (.call 313 [(tt 29),(tt 36),(tt 37)])) (.aR (s1 39 (.indexAddr 1 (tt 27) (tt 28))) (.aE (s0 (.store 1 (tt 39) (tt 38))) .done .stop)) .stop) .stop)) .stop)))))))))))) []) (.seq (.aY [s1 8 (.au (kb true))] [8]) .ret)))))⟩
theorem tF:ed Tryz.prog 307 [([0,1,2,7],[],[]),([0,1,2,17],[],[]),([8],[],[]),([0,1,2],[],[]),([],[3],[1,0,1,1,1,2,1,3,1,4,1,5,1,6,1,7,1,8,1,10,1,13,2,9,1,11,2,12,2,14,1,15,2,16,0,3,3,3,3]),([8],[],[])]=some jP:=by kernel_rfl
def xj:=bA [[0],[0,3],[0,3,10],[3],[2]]
def zm:=bA [[0,1],[0,1,12],[4,5],[4,5]]
def AO:List E8:=[([0,1],[],[]),([0,1,6],[],[]),([0,1,6,11],[],[]),([4,5],[],[]),([0,1,6],[7,10],[]),([6],[],[]),([4,5],[],[])]
def xk:=bA [[0,1],[0,1,6],[0,1,4],[0,1,4],[0,1,25],[0,1]]
def us:=bA [[0,1,2],[0,1,2,7],[0,1,2,7],[0,1,2,7,16],[0,1,2,7,23],[0,1,2,7],[0,1,2,7],[0,2,7,8],[0,2,7,8],[0,1,2,7],[0,1,2,7,9],[0,2,7,9,48],[0,7,9],[0,7,9,10],[0,7,9,10],[0,7,9,10,54],[0,7,9,10,58],[0,7,10],[0,7,9,10],[0,7,9,10],[0,7,9,10],[6]]
def Hz:=bA [[0,1],[0,6],[4],[4]]
def zn:=bA [[0,1],[4,5]]
def xl:=bA [[0,1],[4,5]]
def Cv:=bA [[0,1],[4,5]]
def zo:List E8:=[([0,1,2,3],[],[]),([0,1,2,3,36],[],[]),([8],[],[]),([0,1,2],[6],[]),([],[],[]),([8],[],[])]
def xm:=bA [[0,1],[0,1,8],[4],[4]]
def Jt:=bA [[0],[3],[2],[2]]
def AP:List E8:=[([0,1,2],[],[]),([0,1,2,10],[],[]),([6],[],[]),([6],[6],[])]
def tG:List E8:=[([0,1,4,5],[5,8],[]),([0,1,4,5,30],[],[]),([0,1,4],[],[]),([0,1,5],[],[]),([],[7],[])]
def Ju:=bA [[0],[0,5],[2,3],[2,3]]
def AQ:=bA [[0,1],[4]]
def tH:=bA [[0,1],[0,1,6],[4],[4]]
def zp:=bA [[0,1],[0,1,9],[4],[5],[],[4]]
def ut:=bA [[0,1,5],[0,1,18],[6],[0,1,7],[0,1,7,10],[0,1,7,37],[],[6]]
def nm:Vc.Fn:=⟨2,[(.tmp 4)],
 (.seq (.aY [s1 4 (.au (kb false))] [0,1]) (.seq (.aY [s1 13 (.au (tt 0)),s1 14 (.nilCheck (tt 13)),s1 15 (.fieldAddr 0 (tt 14)),s1 16 (.aj (tt 15)),s1 17 (.au (tt 1)),s1 18 (.call 219 [(tt 16),(tt 17)]),s1 12 (.au (tt 18)),s1 19 (.extract 0 (tt 12)),s1 20 (.extract 1 (tt 12)),s1 5 (.au (tt 19)),s1 6 (.au (tt 20))] [0,1,5,6]) (.seq (.seq (.aY [s1 21 (.au (tt 6)),s1 22 (.un .not (tt 21))] [0,1,5,22]) (.cond (tt 22) (.seq (.aY [s1 4 (.au (kb false))] [4]) .ret) .skip)) (.seq (.ng (.aR (s1 23 (.au (tt 0))) (.aR (s1 24 (.au (tt 0))) (.aR (s1 25 (.au (tt 0))) (.aR (s1 26 (.nilCheck (tt 25))) (.aR (s1 27 (.fieldAddr 1 (tt 26))) (.aR (s1 29 (.au (tt 1))) (.aR (s1 34 (.au (tt 0))) (.aR (s1 35 (.au (tt 0))) (.aR (s1 36 (.nilCheck (tt 35))) (.aR (s1 37 (.fieldAddr 1 (tt 36))) (.xP (sq 38 (.aj (tt 37))) (.aR (s1 39 (.au (tt 1))) (.aE (s1 28 (.aj (tt 27))) (.aE (s1 30 (.call 315 [(tt 28),(tt 29)])) (.aR (s1 31 (.extract 0 (tt 30))) (.aR (s1 32 (.extract 1 (tt 30))) (.aE (s1 33 (.call 336 [(tt 24),(tt 31),(tt 32)])) (.aE (s1 40 (.call 316 [(tt 38),(tt 39)])) (.aR (s1 41 (.extract 0 (tt 40))) (.aR (s1 42 (.extract 1 (tt 40))) (.aE (s1 43 (.call 336 [(tt 34),(tt 41),(tt 42)])) (.aE (s1 44 (.call 334 [(tt 23),(tt 33),(tt 43)])) (.aR (s1 7 (.au (tt 44))) .done) .stop) .stop))) .stop) .stop))) .stop) .stop))))))))))))) [0,1,5,7]) (.seq (.aY [s1 46 (.au (tt 0)),s1 47 (.nilCheck (tt 46)),s1 48 (.fieldAddr 1 (tt 47)),s1 49 (.aj (tt 48)),s1 50 (.au (tt 1)),s1 51 (.call 317 [(tt 49),(tt 50)]),s1 45 (.au (tt 51)),s1 52 (.extract 0 (tt 45)),s1 53 (.extract 1 (tt 45)),s1 8 (.au (tt 52)),s1 9 (.au (tt 53))] [0,1,5,7,8,9]) (.seq (.seq (.aY [s1 54 (.au (tt 9)),s1 55 (.un .not (tt 54))] [0,1,5,7,8,55]) (.cond (tt 55) (.seq (.aY [s1 56 (.au (tt 0)),s1 57 (.au (tt 5)),s1 58 (.au (tt 7)),s1 59 (.call 333 [(tt 56),(tt 57),(tt 58)])] [0,1]) (.seq (.aY [s1 60 (.au (tt 0)),s1 61 (.nilCheck (tt 60)),s1 62 (.fieldAddr 0 (tt 61)),s1 63 (.aj (tt 62)),s1 64 (.au (tt 1)),s1 65 (.call 230 [(tt 63),(tt 64)]),s1 4 (.au (tt 65))] [4]) .ret)) .skip)) (.seq (.aY [s1 67 (.au (tt 0)),s1 68 (.nilCheck (tt 67)),s1 69 (.fieldAddr 1 (tt 68)),s1 70 (.aj (tt 69)),s1 71 (.au (tt 8)),s1 72 (.call 316 [(tt 70),(tt 71)]),s1 66 (.au (tt 72)),s1 73 (.extract 0 (tt 66)),s1 74 (.extract 1 (tt 66)),s1 10 (.au (tt 73)),s1 11 (.au (tt 74))] [0,1,7,8,10,11]) (.seq (.aY [s1 75 (.au (tt 0)),s1 76 (.nilCheck (tt 75)),s1 77 (.fieldAddr 1 (tt 76)),s1 78 (.aj (tt 77)),s1 79 (.au (tt 1)),s1 80 (.call 311 [(tt 78),(tt 79)])] [0,1,7,8,10,11]) (.seq (.seq (.aY [s1 81 (.au (tt 7)),s1 82 (.iP .neq .int (tt 81) (ki (-1)))] [0,1,7,8,10,11,82]) (.cond (tt 82) (.aY [s1 83 (.au (tt 0)),s1 84 (.nilCheck (tt 83)),s1 85 (.fieldAddr 1 (tt 84)),s1 86 (.aj (tt 85)),s1 87 (.au (tt 8)),s1 88 (.au (tt 7)),s1 89 (.au (tt 11)),s1 90 (.au (tt 89)),sg 90 true 91 (.au (tt 10)),sg 90 true 92 (.au (tt 1)),sg 90 true 93 (.iP .eql .int (tt 91) (tt 92)),s1 94 (.pick (tt 90) (tt 93) (kb false)),s1 95 (.call 318 [(tt 86),(tt 87),(tt 88),(tt 94)])] [0,1]) .skip)) (.seq (.aY [s1 96 (.au (tt 0)),s1 97 (.nilCheck (tt 96)),s1 98 (.fieldAddr 0 (tt 97)),s1 99 (.aj (tt 98)),s1 100 (.au (tt 1)),s1 101 (.call 230 [(tt 99),(tt 100)]),s1 4 (.au (tt 101))] [4]) .ret))))))))))⟩
theorem zq:ed Tryz.prog 328 [([0,1],[],[]),([0,1,5,6],[],[]),([0,1,5,22],[],[]),([4],[],[]),([0,1,5,7],[15],[1,0,1,1,1,2,1,3,1,4,1,6,1,11,1,12,1,13,1,14,1,15,1,16,2,5,2,7,1,8,1,9,2,10,2,17,1,18,1,19,2,20,2,21,1,22,0,3,3,3,3,3,3]),([0,1,5,7,8,9],[],[]),([0,1,5,7,8,55],[],[]),([0,1],[],[]),([4],[],[]),([0,1,7,8,10,11],[],[]),([0,1,7,8,10,11],[],[]),([0,1,7,8,10,11,82],[],[]),([0,1],[],[]),([4],[],[])]=some nm:=by kernel_rfl
def xn:=bA [[0,1],[0,6,7],[4,5]]
def zr:=bA [[0,1,2,7],[0,1,2,17],[8],[],[8]]
def D2:=bA [[0,1],[6],[6,11],[4,5],[4,5]]
def AR:=bA [[0,1,2,7],[],[]]
def AS:=bA [[0,1,2],[0,1,2,7],[0,1,2,7],[0,1,2,7,16],[0,1,2,7,23],[0,1,2,7],[0,1,2,7],[0,1,2,7],[0,7,8],[0,7,8,9],[0,7,8,9],[0,7,8,9,47],[0,7,8,9,10],[0,7,8,9,10,55],[0,7,9,10],[0,7,9,10],[0,7,8,9],[0,7,8,9],[6]]
def AT:=bA [[0,1],[5,6],[5,16],[4],[4]]
def AU:=bA [[0,1,2],[0,1,8],[6],[1],[6]]
def uv:=bA [[0,1,5],[0,1,16],[6],[0,1,7],[],[6]]
def zt:=bA [[0,1],[0,1,5,6],[0,1,5,17],[4],[0,1],[4]]
def xo:=bA [[0,1],[0,6,7],[4,5]]
def zu:=bA [[0,1,2,7],[0,1,2,17],[8],[],[8]]
def Cw:=bA [[0],[0,3],[0,3,10],[3],[2]]
def D3:=bA [[0,1],[0,1,12],[4,5],[4,5]]
def uw:=bA [[0,1,9],[]]
def qe:=bA [[0,1],[0,1,5],[0,1,5,11],[0,1,5],[0,1,20],[0],[4]]
def tI:=bA [[0],[]]
def tJ:=bA [[0,1,2],[0,1,2,7],[0,1,2,7],[0,1,2,7,8],[0,1,2,7,8,21],[0,1,2,7,8,9],[0,1,2,7,8,9,10],[0,1,2,7,9,10,33],[0,1,2,7,9],[0,1,2,7,9,39],[0,1,2,9],[0,1,2,7],[6]]
def xp:=bA [[0,1],[0,1,4],[0,1,4,17],[0,4],[0,1]]
def D4:=bA [[0],[2]]
def Cx:=bA [[0,1,2],[6]]
def D5:=bA [[0],[0,3],[3],[2]]
def Cy:=bA [[0,4],[0,4],[]]
def qf:Vc.Fn:=⟨3,[],
 (.seq (.aY [s1 6 (.au (tt 0)),s1 7 (.nilCheck (tt 6)),s1 8 (.fieldAddr 1 (tt 7)),s1 9 (.aj (tt 8)),s1 10 (.au (tt 1)),s1 11 (.au (tt 0)),s1 12 (.nilCheck (tt 11)),s1 13 (.fieldAddr 1 (tt 12)),s1 14 (.aj (tt 13)),s1 15 (.au (tt 2)),s1 16 (.au (tt 0)),s1 17 (.nilCheck (tt 16)),s1 18 (.fieldAddr 1 (tt 17)),s1 19 (.aj (tt 18)),s1 20 (.au (tt 2)),s1 21 (.indexAddr 1 (tt 19) (tt 20)),s1 22 (.aj (tt 21)),s1 23 (.au (tt 0)),s1 24 (.nilCheck (tt 23)),s1 25 (.fieldAddr 1 (tt 24)),s1 26 (.aj (tt 25)),s1 27 (.au (tt 1)),s1 28 (.indexAddr 1 (tt 26) (tt 27)),s1 29 (.aj (tt 28)),s1 30 (.indexAddr 1 (tt 9) (tt 10)),s0 (.store 1 (tt 30) (tt 22)),s1 31 (.indexAddr 1 (tt 14) (tt 15)),s0 (.store 1 (tt 31) (tt 29))] [0,1,2]) (.aY [s1 32 (.au (tt 0)),s1 33 (.nilCheck (tt 32)),s1 34 (.fieldAddr 0 (tt 33)),s1 35 (.aj (tt 34)),s1 36 (.nilCheck (tt 35)),s1 37 (.fieldAddr 2 (tt 36)),s1 38 (.aj (tt 37)),s1 39 (.au (tt 0)),s1 40 (.nilCheck (tt 39)),s1 41 (.fieldAddr 1 (tt 40)),s1 42 (.aj (tt 41)),s1 43 (.au (tt 1)),s1 44 (.indexAddr 1 (tt 42) (tt 43)),s1 45 (.aj (tt 44)),s1 46 (.au (tt 0)),s1 47 (.nilCheck (tt 46)),s1 48 (.fieldAddr 0 (tt 47)),s1 49 (.aj (tt 48)),s1 50 (.nilCheck (tt 49)),s1 51 (.fieldAddr 2 (tt 50)),s1 52 (.aj (tt 51)),s1 53 (.au (tt 0)),s1 54 (.nilCheck (tt 53)),s1 55 (.fieldAddr 1 (tt 54)),s1 56 (.aj (tt 55)),s1 57 (.au (tt 2)),s1 58 (.indexAddr 1 (tt 56) (tt 57)),s1 59 (.aj (tt 58)),s1 60 (.au (tt 1)),s1 61 (.au (tt 2)),s1 62 (.indexAddr 1 (tt 38) (tt 45)),s0 (.store 1 (tt 62) (tt 60)),s1 63 (.indexAddr 1 (tt 52) (tt 59)),s0 (.store 1 (tt 63) (tt 61))] []))⟩
theorem Cz:ed Tryz.prog 355 [([0,1,2],[],[]),([],[],[])]=some qf:=by kernel_rfl
end Go.Proofs.YtjlnnljohemifaaGreat
