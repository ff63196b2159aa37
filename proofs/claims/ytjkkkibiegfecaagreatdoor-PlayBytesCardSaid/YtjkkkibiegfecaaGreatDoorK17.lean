/- Texts put behind each other. -/
import Derived.Test.YtjkkkibiegfecaaGreatDoorK15
set_option maxRecDepth 100000
set_option maxHeartbeats 8000000
namespace Go.Proofs.YtjkkkibiegfecaaGreatDoor
open Go Go.Vc
def rV:List qs:=[([0,1,4],[],[]),([0,4,7,8],[],[]),([0,4,7,8,18],[],[]),([4,5,6],[],[]),([4,7,9],[],[]),([4,5,6],[2],[1,1,1,2,2,0,2,3,1,4,1,5,0,3,3])]
def jf:=aZ [[0,1,4],[0,1,4,7,8,9],[0,1,4,7,8,9,18],[4,5,6],[0,4,7,8],[4,7,8],[4,5,6]]
def iI:=aZ [[0,2,4],[0,2,4,7,8],[0,2,4,7,8,15],[6],[0,2,4,7,19],[6],[],[6]]
def EV:=aZ [[1,2],[2]]
def xL:=aZ [[0,3],[0,3,6,7],[0,3,6,7,15],[4,5],[0,3,6],[6],[4,5]]
def Be:=aZ [[0,1,2],[0,1,2,7],[6],[0,1,2,24],[6],[],[6]]
def CW:=aZ [[0,1],[0,1,12],[4,5],[4,5]]
def CX:=aZ [[0,3],[6,7],[4,5]]
def Bf:=aZ [[0,3],[0,3,14],[4,5],[6],[4,5]]
def vi:Vc.Fn:=⟨1,[(.tmp 2)],
 (.seq (.aP [s1 1 (.box 80 (tt 0)),s1 2 (.cY (.const (.slice none 0 0)))] [1]) (.seq (.aP [s1 6 (.lit 3 0 [] []),aw 3 6] [1,3]) (.seq (.seq (.aP [bq 7 3 1,bu 8 7,FZ 9 8,s1 10 (.eV .sub .int (tt 9) (ki 1)),aw 4 10] [1,3,4]) (.CA 0 (.loop [1,3,4] (.seq (.seq (.aP [aw 11 4,s1 12 (.eV .geq .int (tt 11) (ki 0))] [1,3,4,12]) (.cond (tt 12) .skip (.exit 0))) (.seq (.CA 1 (.seq (.aP [bq 15 3 1,bu 16 15,aw 17 4,fE 18 2 16 17,s1 19 (.cE 2 (tt 18)),s1 5 (.zero 29 [(.int .i64 0),(.int .u32 0)]),fi 2 5 19] [1,3,4,5]) (.seq (.it (.aW (bq 20 1 5) (.kj (sq 21 (.bB (tt 20))) (.aW (bq 22 1 1) (.kj (sq 23 (.bB (tt 22))) (.aW (s1 24 (.eV .lss .int (tt 21) (tt 23))) (.aW (aw 25 24) (.kj (Z4 25 true 26 (.cE 4 (tt 1))) (.aW (sg 25 true 27 (.fieldAddr 0 (tt 5))) (.kj (Z4 25 true 28 (.bB (tt 27))) (.aW (sg 25 true 30 (.fieldAddr 1 (tt 5))) (.kj (Z4 25 true 31 (.bB (tt 30))) (.aM (sg 25 true 29 (.call 151 [(tt 26),(tt 28)])) (.aW (sg 25 true 32 (.eV .eql .int (tt 29) (tt 31))) (.aW (s1 33 (.pick (tt 25) (tt 32) (kb false))) .done)) .stop)))))))))))) [1,3,4,5,33]) (.cond (tt 33) (.aP [aw 34 3,bq 35 0 5,bu 36 35,s1 37 (.lit 3 1 [(.int .i64 0)] [(0,(1,(tt 36)))]),s1 38 (.append 3 1 8 [(.int .i64 0)] (tt 34) (tt 37)),aw 3 38] [1,3,4]) .skip)))) (.aP [aw 13 4,s1 14 (.eV .sub .int (tt 13) (ki 1)),aw 4 14] [1,3,4])))))) (.seq (.aP [aw 39 3,aw 2 39] [2]) .ret))))⟩
theorem EW:cU Tryz.prog 149 [([1],[],[]),([1,3],[],[]),([1,3,4],[],[]),([1,3,4],[],[]),([1,3,4,12],[],[]),([1,3,4,5],[],[]),([1,3,4,5,33],[1,3,6,8,11],[1,0,1,1,1,2,1,3,1,4,1,5,1,6,1,7,1,8,1,10,1,11,2,9,1,12,1,13,0,3]),([1,3,4],[],[]),([1,3,4],[],[]),([2],[],[])]=some vi:=Y
def EX:=aZ [[1],[1,3],[3,7,8,9],[3,7,8,9],[3,7,8,9,10],[3,5,7,8,9],[3,7,8,9,15],[3,7,8,9],[3,7,8,9],[2]]
def GZ:=aZ [[1,2],[1,2,5],[1,5,9,10,11],[1,5,9,10,11],[1,5,9,10,11,12],[1,5,7,9,10,11],[1,5,7,9,10,11,18],[1,5,9,10,11],[1,5,9,10,11],[4]]
def Kt:=aZ [[1,2],[4]]
def G0:=aZ [[1,3,5,6],[1,3,5,6,7],[3,6,7],[6]]
def EY:=aZ [[1,2,3],[1,2,3,18],[6],[1,2,3,7],[1,2,7,8],[6]]
def IP:=aZ [[0,3],[3,7,8,9],[3,7,8,9],[3,7,8,9,10],[3,6,7,8,9],[3,7,8,9,15],[4],[3,7,8,9],[4]]
def G1:=aZ [[1,2,4],[1,2,4,9],[4,5],[4,5]]
def G2:List qs:=[([2,3,4],[],[]),([2,3,4,9],[],[]),([4,5],[],[]),([2,4],[4],[1,1,1,4,2,0,2,2,2,3,2,5,2,6,1,7,2,8,0,3,3,3,2,5,2,3,2,6,1,7,2,8,0,3,3,3,3,2,5,2,2,2,3,2,6,1,7,2,8,0,3,3,3,3,3,2,2,2,0,2,3,2,5,2,6,1,7,2,8,0,3,3,3,2,5,2,3,2,6,1,7,2,8,0,3,3,3,3,2,5,2,0,2,3,2,6,1,7,2,8,0,3,3,3,3,3,2,5,2,0,2,2,2,3,2,6,1,7,2,8,0,3,3,3,3,2,2,2,0,2,3,2,6,1,7,2,8,0,3,3,3,3,3,3]),([4,5],[],[])]
def G3:=aZ [[2,3],[2,3,9],[4],[4]]
def IQ:=aZ [[0],[0,9],[2,3],[2,3]]
def IR:=aZ [[0],[2]]
def vW:=aZ [[0,2],[0,2,4,5],[0,2,4,13],[2,3],[0,2,4,6],[0,2,4,6],[2,4,6],[2,3]]
def nT:=aZ [[0,1,4],[0,1,4,16],[4,5],[0,4,6,7],[0,4,6,28],[4,5],[4,8],[4,5]]
abbrev mN:tQ:=.aM (fi 2 6 24) (.aW (aw 7 25) .done) .stop
abbrev mO:eY:=s1 6 (.zero 190 [(.int .i64 0),(.int .u64 0)])
abbrev mP:eY:=s1 23 (.invoke (tt 20) "Entry" [(tt 22)])
def jv:Vc.Fn:=⟨2,[(.agg 4 2),(.tmp 5)],
 (.seq (.aP [s1 3 (.box 29 (tt 1)),s1 4 (.zero 190 [(.int .i64 0),(.int .u64 0)]),s1 5 (.cY (ki 0))] [0,3,4]) (.seq (.seq (.aP [aw 8 0,dv 9 8,bq 10 2 9,bu 11 10,s1 12 (.cE 2 (tt 3)),s1 13 (.call 165 [(tt 11),(tt 12)]),s1 14 (.un .not (tt 13))] [0,3,4,14]) (.cond (tt 14) (.seq (.aP [s1 15 (.build [(.int .i64 0),(.int .u64 0)] []),fi 2 4 15,s1 5 (.cY (ki 33))] [4,5]) .ret) .skip)) (.seq (.it (.aW (aw 17 0) (.aW (dv 18 17) (.aW (bq 19 3 18) (.kj (sq 20 (.bB (tt 19))) (.aW (bq 21 0 3) (.kj (sq 22 (.bB (tt 21))) (.aM mP (.aW (aw 16 23) (.aW (rM 24 0 16) (.aW (rM 25 1 16) (.aM mO mN .stop)))) (.aM mO (.aM mP (.aW (aw 16 23) (.aW (rM 24 0 16) (.aW (rM 25 1 16) mN))) .stop) .stop)))))))) [4,6]) (.seq (.aP [s1 26 (.cE 2 (tt 6)),fi 2 4 26,s1 5 (.cY (ki 0))] [4,5]) .ret))))⟩
theorem nU:cU Tryz.prog 163 [([0,3,4],[],[]),([0,3,4,14],[],[]),([4,5],[],[]),([4,6],[3,5],[1,0,1,1,1,2,1,3,1,4,1,5,2,6,1,7,1,8,1,9,2,10,2,11,1,12,0,3,3,2,10,2,6,1,7,1,8,1,9,2,11,1,12,0,3,3,3]),([4,5],[],[])]=some jv:=Y
abbrev kK:tQ:=.aM (s1 39 (.append 3 1 8 [(.int .i64 0)] (tt 35) (tt 38))) (.aW (dv 40 31) (.aW (bq 41 1 40) (.aM (fi 1 41 39) .done .stop))) .stop
abbrev kL:eY:=s1 38 (.lit 3 1 [(.int .i64 0)] [(0,(1,(tt 37)))])
abbrev kM:tQ:=.aM kL kK .stop
def lH:Vc.Fn:=⟨2,[(.tmp 4)],
 (.seq (.aP [s1 3 (.box 29 (tt 1)),s1 4 (.cY (ki 0))] [0,3]) (.seq (.seq (.aP [aw 5 0,s1 6 (.cE 2 (tt 3)),s1 7 (.call 165 [(tt 5),(tt 6)]),s1 8 (.un .not (tt 7))] [0,3,8]) (.cond (tt 8) (.seq (.aP [s1 4 (.cY (ki 33))] [4]) .ret) .skip)) (.seq (.aP [aw 9 0,dv 10 9,bq 11 0 10,bu 12 11,bq 13 0 3,bu 14 13,fE 15 2 12 14,bq 16 1 15,s0 (.store 1 (tt 16) (kb false))] [0,3]) (.seq (.aP [aw 17 0,dv 18 17,bq 19 3 18,bu 20 19,s1 21 (.eV .sub .int (tt 20) (ki 1)),dv 22 17,bq 23 3 22,fi 1 23 21] [0,3]) (.seq (.seq (.aP [bq 24 1 3,bu 25 24,aw 26 0,dv 27 26,bq 28 4 27,bu 29 28,s1 30 (.eV .lss .int (tt 25) (tt 29))] [0,3,30]) (.cond (tt 30) (.it (.aW (aw 31 0) (.aW (aw 32 0) (.aW (dv 33 32) (.aW (bq 34 1 33) (.aW (bq 36 0 3) (.aM (bu 35 34) (.aM (bu 37 36) kM .stop) (.aM (bu 37 36) (.aM (bu 35 34) kM (.aM kL (.aM (bu 35 34) kK .stop) .stop)) .stop))))))) []) .skip)) (.seq (.aP [s1 4 (.cY (ki 0))] [4]) .ret))))))⟩
theorem vX:cU Tryz.prog 164 [([0,3],[],[]),([0,3,8],[],[]),([4],[],[]),([0,3],[],[]),([0,3],[],[]),([0,3,30],[],[]),([],[],[1,0,1,1,1,2,1,3,1,5,2,4,2,6,2,7,2,8,1,9,1,10,2,11,0,3,3,3,3,2,6,2,4,2,7,2,8,1,9,1,10,2,11,0,3,3,3,2,7,2,4,2,8,1,9,1,10,2,11,0,3,3,3,3,3]),([4],[],[])]=some lH:=Y
def lI:Vc.Fn:=⟨2,[(.tmp 4)],
 (.seq (.aP [s1 3 (.box 29 (tt 1)),s1 4 (.cY (kb false))] [0,3]) (.seq (.aP [bq 5 0 3,bu 6 5,s1 7 (.eV .geq .int (tt 6) (ki 0)),aw 8 7,sg 8 true 9 (.fieldAddr 0 (tt 3)),sg 8 true 10 (.bB (tt 9)),sg 8 true 11 (.cY (tt 0)),sg 8 true 12 (.nilCheck (tt 11)),sg 8 true 13 (.fieldAddr 0 (tt 12)),sg 8 true 14 (.bB (tt 13)),sg 8 true 15 (.JX (tt 14)),sg 8 true 16 (.eV .lss .int (tt 10) (tt 15)),s1 17 (.pick (tt 8) (tt 16) (kb false)),aw 18 17,sg 18 true 19 (.cY (tt 0)),sg 18 true 20 (.nilCheck (tt 19)),sg 18 true 21 (.fieldAddr 0 (tt 20)),sg 18 true 22 (.bB (tt 21)),sg 18 true 23 (.fieldAddr 0 (tt 3)),sg 18 true 24 (.bB (tt 23)),sg 18 true 25 (.indexAddr 2 (tt 22) (tt 24)),sg 18 true 26 (.cE 2 (tt 25)),sg 18 true 27 (.fieldAddr 1 (tt 3)),sg 18 true 28 (.bB (tt 27)),sg 18 true 29 (.build [(.int .u32 0),(.bool false)] [(0,(1,(tt 28))),(1,(1,(kb true)))]),sg 18 true 30 (.eV .eql (.s [(0,(none,.int)),(1,(none,.bool))]) (tt 26) (tt 29)),s1 31 (.pick (tt 18) (tt 30) (kb false)),aw 4 31] [4]) .ret))⟩
theorem vY:cU Tryz.prog 165 [([0,3],[],[]),([4],[],[])]=some lI:=Y
def vZ:=aZ [[0],[0,4],[0,4,12],[0,4,5],[5],[2,3],[0,41],[2,3],[0],[2,3]]
def zs:=aZ [[0,1,4],[0,1,4,27],[4,5],[4,5]]
def rW:=aZ [[0,1,5],[0,1,16],[6],[0,1,7],[6]]
def we:=aZ [[0,1],[0,1,5,6],[4]]
end Go.Proofs.YtjkkkibiegfecaaGreatDoor
