/- Texts put behind each other. -/
import Derived.Test.YtjkkkibiegfecaaGreatDoorK98
import Derived.Test.YtjkkkibiegfecaaGreatDoorK12
import Derived.Test.YtjkkkibiegfecaaGreatDoorK15
import Derived.Test.YtjkkkibiegfecaaGreatDoorProg
import Derived.Test.YtjkkkibiegfecaaGreatDoorChecked
import Derived.Eval
import Derived.KernelRfl
set_option maxRecDepth 100000
set_option maxHeartbeats 8000000
namespace Go.Proofs.YtjkkkibiegfecaaGreatDoor
open Go Go.Vc
def vq:List wI:=[([0,1,4],[],[]),([0,4,7,8],[],[]),([0,4,7,8,18],[],[]),([4,5,6],[],[]),([4,7,9],[],[]),([4,5,6],[2],[1,1,1,2,2,0,2,3,1,4,1,5,0,3,3])]
def kD:=bi [[0,1,4],[0,1,4,7,8,9],[0,1,4,7,8,9,18],[4,5,6],[0,4,7,8],[4,7,8],[4,5,6]]
def jF:=bi [[0,2,4],[0,2,4,7,8],[0,2,4,7,8,15],[6],[0,2,4,7,19],[6],[],[6]]
def IE:=bi [[1,2],[2]]
def Bv:=bi [[0,3],[0,3,6,7],[0,3,6,7,15],[4,5],[0,3,6],[6],[4,5]]
def EB:=bi [[0,1,2],[0,1,2,7],[6],[0,1,2,24],[6],[],[6]]
def Gu:=bi [[0,1],[0,1,12],[4,5],[4,5]]
def Gv:=bi [[0,3],[6,7],[4,5]]
def EC:=bi [[0,3],[0,3,14],[4,5],[6],[4,5]]
def Mo:=bi [[0],[0,9],[2,3],[2,3]]
def Mp:=bi [[0],[2]]
def zw:=bi [[0,2],[0,2,4,5],[0,2,4,13],[2,3],[0,2,4,6],[0,2,4,6],[2,4,6],[2,3]]
def qQ:=bi [[0,1,4],[0,1,4,16],[4,5],[0,4,6,7],[0,4,6,28],[4,5],[4,8],[4,5]]
abbrev pB:D2:=.aT (s0 (.store 2 (tt 6) (tt 24))) (.bE (s1 7 (.ax (tt 25))) .done) .stop
abbrev pC:gY:=s1 6 (.zero 190 [(.int .i64 0),(.int .u64 0)])
abbrev pD:gY:=s1 23 (.invoke (tt 20) "Entry" [(tt 22)])
def kR:Vc.Fn:=⟨2,[(.agg 4 2),(.tmp 5)],
 (.seq (.aY [s1 3 (.box 29 (tt 1)),s1 4 (.zero 190 [(.int .i64 0),(.int .u64 0)]),s1 5 (.ax (ki 0))] [0,3,4]) (.seq (.seq (.aY [s1 8 (.ax (tt 0)),s1 9 (.nilCheck (tt 8)),s1 10 (.fieldAddr 2 (tt 9)),s1 11 (.aq (tt 10)),s1 12 (.gO 2 (tt 3)),s1 13 (.call 165 [(tt 11),(tt 12)]),s1 14 (.un .not (tt 13))] [0,3,4,14]) (.cond (tt 14) (.seq (.aY [s1 15 (.build [(.int .i64 0),(.int .u64 0)] []),s0 (.store 2 (tt 4) (tt 15)),s1 5 (.ax (ki 33))] [4,5]) .ret) .skip)) (.seq (.qA (.bE (s1 17 (.ax (tt 0))) (.bE (s1 18 (.nilCheck (tt 17))) (.bE (s1 19 (.fieldAddr 3 (tt 18))) (.HS (sq 20 (.aq (tt 19))) (.bE (s1 21 (.fieldAddr 0 (tt 3))) (.HS (sq 22 (.aq (tt 21))) (.aT pD (.bE (s1 16 (.ax (tt 23))) (.bE (s1 24 (.extract 0 (tt 16))) (.bE (s1 25 (.extract 1 (tt 16))) (.aT pC pB .stop)))) (.aT pC (.aT pD (.bE (s1 16 (.ax (tt 23))) (.bE (s1 24 (.extract 0 (tt 16))) (.bE (s1 25 (.extract 1 (tt 16))) pB))) .stop) .stop)))))))) [4,6]) (.seq (.aY [s1 26 (.gO 2 (tt 6)),s0 (.store 2 (tt 4) (tt 26)),s1 5 (.ax (ki 0))] [4,5]) .ret))))⟩
theorem qR:ep Tryz.prog 163 [([0,3,4],[],[]),([0,3,4,14],[],[]),([4,5],[],[]),([4,6],[3,5],[1,0,1,1,1,2,1,3,1,4,1,5,2,6,1,7,1,8,1,9,2,10,2,11,1,12,0,3,3,2,10,2,6,1,7,1,8,1,9,2,11,1,12,0,3,3,3]),([4,5],[],[])]=some kR:=by kernel_rfl
abbrev mR:D2:=.aT (s1 39 (.append 3 1 8 [(.int .i64 0)] (tt 35) (tt 38))) (.bE (s1 40 (.nilCheck (tt 31))) (.bE (s1 41 (.fieldAddr 1 (tt 40))) (.aT (s0 (.store 1 (tt 41) (tt 39))) .done .stop))) .stop
abbrev mS:gY:=s1 38 (.lit 3 1 [(.int .i64 0)] [(0,(1,(tt 37)))])
abbrev mT:D2:=.aT mS mR .stop
def ol:Vc.Fn:=⟨2,[(.tmp 4)],
 (.seq (.aY [s1 3 (.box 29 (tt 1)),s1 4 (.ax (ki 0))] [0,3]) (.seq (.seq (.aY [s1 5 (.ax (tt 0)),s1 6 (.gO 2 (tt 3)),s1 7 (.call 165 [(tt 5),(tt 6)]),s1 8 (.un .not (tt 7))] [0,3,8]) (.cond (tt 8) (.seq (.aY [s1 4 (.ax (ki 33))] [4]) .ret) .skip)) (.seq (.aY [s1 9 (.ax (tt 0)),s1 10 (.nilCheck (tt 9)),s1 11 (.fieldAddr 0 (tt 10)),s1 12 (.aq (tt 11)),s1 13 (.fieldAddr 0 (tt 3)),s1 14 (.aq (tt 13)),s1 15 (.indexAddr 2 (tt 12) (tt 14)),s1 16 (.fieldAddr 1 (tt 15)),s0 (.store 1 (tt 16) (kb false))] [0,3]) (.seq (.aY [s1 17 (.ax (tt 0)),s1 18 (.nilCheck (tt 17)),s1 19 (.fieldAddr 3 (tt 18)),s1 20 (.aq (tt 19)),s1 21 (.jY .sub .int (tt 20) (ki 1)),s1 22 (.nilCheck (tt 17)),s1 23 (.fieldAddr 3 (tt 22)),s0 (.store 1 (tt 23) (tt 21))] [0,3]) (.seq (.seq (.aY [s1 24 (.fieldAddr 1 (tt 3)),s1 25 (.aq (tt 24)),s1 26 (.ax (tt 0)),s1 27 (.nilCheck (tt 26)),s1 28 (.fieldAddr 4 (tt 27)),s1 29 (.aq (tt 28)),s1 30 (.jY .lss .int (tt 25) (tt 29))] [0,3,30]) (.cond (tt 30) (.qA (.bE (s1 31 (.ax (tt 0))) (.bE (s1 32 (.ax (tt 0))) (.bE (s1 33 (.nilCheck (tt 32))) (.bE (s1 34 (.fieldAddr 1 (tt 33))) (.bE (s1 36 (.fieldAddr 0 (tt 3))) (.aT (s1 35 (.aq (tt 34))) (.aT (s1 37 (.aq (tt 36))) mT .stop) (.aT (s1 37 (.aq (tt 36))) (.aT (s1 35 (.aq (tt 34))) mT (.aT mS (.aT (s1 35 (.aq (tt 34))) mR .stop) .stop)) .stop))))))) []) .skip)) (.seq (.aY [s1 4 (.ax (ki 0))] [4]) .ret))))))⟩
theorem zx:ep Tryz.prog 164 [([0,3],[],[]),([0,3,8],[],[]),([4],[],[]),([0,3],[],[]),([0,3],[],[]),([0,3,30],[],[]),([],[],[1,0,1,1,1,2,1,3,1,5,2,4,2,6,2,7,2,8,1,9,1,10,2,11,0,3,3,3,3,2,6,2,4,2,7,2,8,1,9,1,10,2,11,0,3,3,3,2,7,2,4,2,8,1,9,1,10,2,11,0,3,3,3,3,3]),([4],[],[])]=some ol:=by kernel_rfl
def om:Vc.Fn:=⟨2,[(.tmp 4)],
 (.seq (.aY [s1 3 (.box 29 (tt 1)),s1 4 (.ax (kb false))] [0,3]) (.seq (.aY [s1 5 (.fieldAddr 0 (tt 3)),s1 6 (.aq (tt 5)),s1 7 (.jY .geq .int (tt 6) (ki 0)),s1 8 (.ax (tt 7)),sg 8 true 9 (.fieldAddr 0 (tt 3)),sg 8 true 10 (.aq (tt 9)),sg 8 true 11 (.ax (tt 0)),sg 8 true 12 (.nilCheck (tt 11)),sg 8 true 13 (.fieldAddr 0 (tt 12)),sg 8 true 14 (.aq (tt 13)),sg 8 true 15 (.uN (tt 14)),sg 8 true 16 (.jY .lss .int (tt 10) (tt 15)),s1 17 (.pick (tt 8) (tt 16) (kb false)),s1 18 (.ax (tt 17)),sg 18 true 19 (.ax (tt 0)),sg 18 true 20 (.nilCheck (tt 19)),sg 18 true 21 (.fieldAddr 0 (tt 20)),sg 18 true 22 (.aq (tt 21)),sg 18 true 23 (.fieldAddr 0 (tt 3)),sg 18 true 24 (.aq (tt 23)),sg 18 true 25 (.indexAddr 2 (tt 22) (tt 24)),sg 18 true 26 (.gO 2 (tt 25)),sg 18 true 27 (.fieldAddr 1 (tt 3)),sg 18 true 28 (.aq (tt 27)),sg 18 true 29 (.build [(.int .u32 0),(.bool false)] [(0,(1,(tt 28))),(1,(1,(kb true)))]),sg 18 true 30 (.jY .eql (.s [(0,(none,.int)),(1,(none,.bool))]) (tt 26) (tt 29)),s1 31 (.pick (tt 18) (tt 30) (kb false)),s1 4 (.ax (tt 31))] [4]) .ret))⟩
theorem zy:ep Tryz.prog 165 [([0,3],[],[]),([4],[],[])]=some om:=by kernel_rfl
def zA:=bi [[0],[0,4],[0,4,12],[0,4,5],[5],[2,3],[0,41],[2,3],[0],[2,3]]
def C1:=bi [[0,1,4],[0,1,4,27],[4,5],[4,5]]
def vr:=bi [[0,1,5],[0,1,16],[6],[0,1,7],[6]]
def zB:=bi [[0,1],[0,1,5,6],[4]]
end Go.Proofs.YtjkkkibiegfecaaGreatDoor
