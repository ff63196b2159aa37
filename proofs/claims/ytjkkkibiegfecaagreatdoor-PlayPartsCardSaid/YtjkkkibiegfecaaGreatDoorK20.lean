/- Texts put behind each other. -/
import Derived.Test.YtjkkkibiegfecaaGreatDoorK98
import Derived.Test.YtjkkkibiegfecaaGreatDoorK12
import Derived.Test.YtjkkkibiegfecaaGreatDoorK15
import Derived.Test.YtjkkkibiegfecaaGreatDoorProg
import Derived.Test.YtjkkkibiegfecaaGreatDoorChecked
import Derived.Eval
import Derived.KernelRfl
set_option maxRecDepth 100000
set_option maxHeartbeats 8000000
namespace Go.Proofs.YtjkkkibiegfecaaGreatDoor
open Go Go.Vc
def EH:=bi [[0,1],[0,1,12],[4,5],[4,5]]
def vH:=bi [[0,1,9],[]]
def re:=bi [[0,1],[0,1,5],[0,1,5,11],[0,1,5],[0,1,20],[0],[4]]
def ur:=bi [[0],[]]
def EI:=bi [[0],[2]]
def kO:Vc.Fn:=⟨3,[(.tmp 6)],
 (.seq (.aY [s1 6 (.ax (kb false))] [0,1,2]) (.seq (.aY [s1 11 (.ax (tt 1)),s1 7 (.ax (tt 11))] [0,1,2,7]) (.seq (.NR 0 (.loop [0,1,2,7] (.NR 1 (.seq (.aY [s1 12 (.ax (tt 7)),s1 13 (.jY .mul .int (ki 2) (tt 12)),s1 14 (.jY .add .int (tt 13) (ki 1)),s1 8 (.ax (tt 14))] [0,1,2,7,8]) (.seq (.seq (.aY [s1 15 (.ax (tt 8)),s1 16 (.ax (tt 2)),s1 17 (.jY .geq .int (tt 15) (tt 16)),s1 18 (.ax (tt 17)),sg 18 false 19 (.ax (tt 8)),sg 18 false 20 (.jY .lss .int (tt 19) (ki 0)),s1 21 (.pick (tt 18) (kb true) (tt 20))] [0,1,2,7,8,21]) (.cond (tt 21) (.exit 0) .skip)) (.seq (.aY [s1 22 (.ax (tt 8)),s1 9 (.ax (tt 22))] [0,1,2,7,8,9]) (wV (.seq (.aY [s1 23 (.ax (tt 8)),s1 24 (.jY .add .int (tt 23) (ki 1)),s1 10 (.ax (tt 24))] [0,1,2,7,8,9,10]) (.seq (.aY [s1 25 (.ax (tt 10)),s1 26 (.ax (tt 2)),s1 27 (.jY .lss .int (tt 25) (tt 26)),s1 28 (.ax (tt 27)),sg 28 true 29 (.ax (tt 0)),sg 28 true 30 (.ax (tt 10)),sg 28 true 31 (.ax (tt 8)),sg 28 true 32 (.invoke (tt 29) "Less" [(tt 30),(tt 31)]),s1 33 (.pick (tt 28) (tt 32) (kb false))] [0,1,2,7,9,10,33]) (.cond (tt 33) (.aY [s1 34 (.ax (tt 10)),s1 9 (.ax (tt 34))] [0,1,2,7,9]) .skip))) (.seq (.seq (.aY [s1 35 (.ax (tt 0)),s1 36 (.ax (tt 9)),s1 37 (.ax (tt 7)),s1 38 (.invoke (tt 35) "Less" [(tt 36),(tt 37)]),s1 39 (.un .not (tt 38))] [0,1,2,7,9,39]) (.cond (tt 39) (.exit 0) .skip)) (.seq (.aY [s1 40 (.ax (tt 0)),s1 41 (.ax (tt 7)),s1 42 (.ax (tt 9)),s1 43 (.invoke (tt 40) "Swap" [(tt 41),(tt 42)])] [0,1,2,9]) (.aY [s1 44 (.ax (tt 9)),s1 7 (.ax (tt 44))] [0,1,2,7])))))))))) (.seq (.aY [s1 45 (.ax (tt 7)),s1 46 (.ax (tt 1)),s1 47 (.jY .gtr .int (tt 45) (tt 46)),s1 6 (.ax (tt 47))] [6]) .ret))))⟩
theorem us:ep Tryz.prog 369 [([0,1,2],[],[]),([0,1,2,7],[],[]),([0,1,2,7],[],[]),([0,1,2,7,8],[],[]),([0,1,2,7,8,21],[],[]),([0,1,2,7,8,9],[],[]),([0,1,2,7,8,9,10],[],[]),([0,1,2,7,9,10,33],[],[]),([0,1,2,7,9],[],[]),([0,1,2,7,9,39],[],[]),([0,1,2,9],[],[]),([0,1,2,7],[],[]),([6],[],[])]=some kO:=by kernel_rfl
def xX:=bi [[0,1],[0,1,4],[0,1,4,17],[0,4],[0,1]]
def De:=bi [[0,1,2],[6]]
def EJ:=bi [[0],[0,3],[3],[2]]
def Df:=bi [[0,4],[0,4],[]]
def ri:Vc.Fn:=⟨3,[],
 (.seq (.aY [s1 6 (.ax (tt 0)),s1 7 (.nilCheck (tt 6)),s1 8 (.fieldAddr 1 (tt 7)),s1 9 (.aq (tt 8)),s1 10 (.ax (tt 1)),s1 11 (.ax (tt 0)),s1 12 (.nilCheck (tt 11)),s1 13 (.fieldAddr 1 (tt 12)),s1 14 (.aq (tt 13)),s1 15 (.ax (tt 2)),s1 16 (.ax (tt 0)),s1 17 (.nilCheck (tt 16)),s1 18 (.fieldAddr 1 (tt 17)),s1 19 (.aq (tt 18)),s1 20 (.ax (tt 2)),s1 21 (.indexAddr 1 (tt 19) (tt 20)),s1 22 (.aq (tt 21)),s1 23 (.ax (tt 0)),s1 24 (.nilCheck (tt 23)),s1 25 (.fieldAddr 1 (tt 24)),s1 26 (.aq (tt 25)),s1 27 (.ax (tt 1)),s1 28 (.indexAddr 1 (tt 26) (tt 27)),s1 29 (.aq (tt 28)),s1 30 (.indexAddr 1 (tt 9) (tt 10)),s0 (.store 1 (tt 30) (tt 22)),s1 31 (.indexAddr 1 (tt 14) (tt 15)),s0 (.store 1 (tt 31) (tt 29))] [0,1,2]) (.aY [s1 32 (.ax (tt 0)),s1 33 (.nilCheck (tt 32)),s1 34 (.fieldAddr 0 (tt 33)),s1 35 (.aq (tt 34)),s1 36 (.nilCheck (tt 35)),s1 37 (.fieldAddr 2 (tt 36)),s1 38 (.aq (tt 37)),s1 39 (.ax (tt 0)),s1 40 (.nilCheck (tt 39)),s1 41 (.fieldAddr 1 (tt 40)),s1 42 (.aq (tt 41)),s1 43 (.ax (tt 1)),s1 44 (.indexAddr 1 (tt 42) (tt 43)),s1 45 (.aq (tt 44)),s1 46 (.ax (tt 0)),s1 47 (.nilCheck (tt 46)),s1 48 (.fieldAddr 0 (tt 47)),s1 49 (.aq (tt 48)),s1 50 (.nilCheck (tt 49)),s1 51 (.fieldAddr 2 (tt 50)),s1 52 (.aq (tt 51)),s1 53 (.ax (tt 0)),s1 54 (.nilCheck (tt 53)),s1 55 (.fieldAddr 1 (tt 54)),s1 56 (.aq (tt 55)),s1 57 (.ax (tt 2)),s1 58 (.indexAddr 1 (tt 56) (tt 57)),s1 59 (.aq (tt 58)),s1 60 (.ax (tt 1)),s1 61 (.ax (tt 2)),s1 62 (.indexAddr 1 (tt 38) (tt 45)),s0 (.store 1 (tt 62) (tt 60)),s1 63 (.indexAddr 1 (tt 52) (tt 59)),s0 (.store 1 (tt 63) (tt 61))] []))⟩
theorem Dg:ep Tryz.prog 379 [([0,1,2],[],[]),([],[],[])]=some ri:=by kernel_rfl
end Go.Proofs.YtjkkkibiegfecaaGreatDoor
