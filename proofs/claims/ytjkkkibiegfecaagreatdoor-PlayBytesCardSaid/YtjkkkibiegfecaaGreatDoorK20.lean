/- Texts put behind each other. -/
import Derived.Test.YtjkkkibiegfecaaGreatDoorK15
set_option maxRecDepth 100000
set_option maxHeartbeats 8000000
namespace Go.Proofs.YtjkkkibiegfecaaGreatDoor
open Go Go.Vc
def Bk:=aZ [[0,1],[0,1,12],[4,5],[4,5]]
def sA:=aZ [[0,1,9],[]]
def og:=aZ [[0,1],[0,1,5],[0,1,5,11],[0,1,5],[0,1,20],[0],[4]]
def q9:=aZ [[0],[]]
def Bl:=aZ [[0],[2]]
def jr:Vc.Fn:=⟨3,[(.tmp 6)],
 (.seq (.aP [s1 6 (.cY (kb false))] [0,1,2]) (.seq (.aP [aw 11 1,aw 7 11] [0,1,2,7]) (.seq (.CA 0 (.loop [0,1,2,7] (.CA 1 (.seq (.aP [aw 12 7,s1 13 (.eV .mul .int (ki 2) (tt 12)),s1 14 (.eV .add .int (tt 13) (ki 1)),aw 8 14] [0,1,2,7,8]) (.seq (.seq (.aP [aw 15 8,aw 16 2,s1 17 (.eV .geq .int (tt 15) (tt 16)),aw 18 17,sg 18 false 19 (.cY (tt 8)),sg 18 false 20 (.eV .lss .int (tt 19) (ki 0)),s1 21 (.pick (tt 18) (kb true) (tt 20))] [0,1,2,7,8,21]) (.cond (tt 21) (.exit 0) .skip)) (.seq (.aP [aw 22 8,aw 9 22] [0,1,2,7,8,9]) (km (.seq (.aP [aw 23 8,s1 24 (.eV .add .int (tt 23) (ki 1)),aw 10 24] [0,1,2,7,8,9,10]) (.seq (.aP [aw 25 10,aw 26 2,s1 27 (.eV .lss .int (tt 25) (tt 26)),aw 28 27,sg 28 true 29 (.cY (tt 0)),sg 28 true 30 (.cY (tt 10)),sg 28 true 31 (.cY (tt 8)),sg 28 true 32 (.invoke (tt 29) "Less" [(tt 30),(tt 31)]),s1 33 (.pick (tt 28) (tt 32) (kb false))] [0,1,2,7,9,10,33]) (.cond (tt 33) (.aP [aw 34 10,aw 9 34] [0,1,2,7,9]) .skip))) (.seq (.seq (.aP [aw 35 0,aw 36 9,aw 37 7,s1 38 (.invoke (tt 35) "Less" [(tt 36),(tt 37)]),s1 39 (.un .not (tt 38))] [0,1,2,7,9,39]) (.cond (tt 39) (.exit 0) .skip)) (.seq (.aP [aw 40 0,aw 41 7,aw 42 9,s1 43 (.invoke (tt 40) "Swap" [(tt 41),(tt 42)])] [0,1,2,9]) (.aP [aw 44 9,aw 7 44] [0,1,2,7])))))))))) (.seq (.aP [aw 45 7,aw 46 1,s1 47 (.eV .gtr .int (tt 45) (tt 46)),aw 6 47] [6]) .ret))))⟩
theorem re:cU Tryz.prog 369 [([0,1,2],[],[]),([0,1,2,7],[],[]),([0,1,2,7],[],[]),([0,1,2,7,8],[],[]),([0,1,2,7,8,21],[],[]),([0,1,2,7,8,9],[],[]),([0,1,2,7,8,9,10],[],[]),([0,1,2,7,9,10,33],[],[]),([0,1,2,7,9],[],[]),([0,1,2,7,9,39],[],[]),([0,1,2,9],[],[]),([0,1,2,7],[],[]),([6],[],[])]=some jr:=Y
def uG:=aZ [[0,1],[0,1,4],[0,1,4,17],[0,4],[0,1]]
def zH:=aZ [[0,1,2],[6]]
def Bm:=aZ [[0],[0,3],[3],[2]]
def zI:=aZ [[0,4],[0,4],[]]
def oh:Vc.Fn:=⟨3,[],
 (.seq (.aP [aw 6 0,dv 7 6,bq 8 1 7,bu 9 8,aw 10 1,aw 11 0,dv 12 11,bq 13 1 12,bu 14 13,aw 15 2,aw 16 0,dv 17 16,bq 18 1 17,bu 19 18,aw 20 2,fE 21 1 19 20,bu 22 21,aw 23 0,dv 24 23,bq 25 1 24,bu 26 25,aw 27 1,fE 28 1 26 27,bu 29 28,fE 30 1 9 10,fi 1 30 22,fE 31 1 14 15,fi 1 31 29] [0,1,2]) (.aP [aw 32 0,dv 33 32,bq 34 0 33,bu 35 34,dv 36 35,bq 37 2 36,bu 38 37,aw 39 0,dv 40 39,bq 41 1 40,bu 42 41,aw 43 1,fE 44 1 42 43,bu 45 44,aw 46 0,dv 47 46,bq 48 0 47,bu 49 48,dv 50 49,bq 51 2 50,bu 52 51,aw 53 0,dv 54 53,bq 55 1 54,bu 56 55,aw 57 2,fE 58 1 56 57,bu 59 58,aw 60 1,aw 61 2,fE 62 1 38 45,fi 1 62 60,fE 63 1 52 59,fi 1 63 61] []))⟩
theorem zJ:cU Tryz.prog 379 [([0,1,2],[],[]),([],[],[])]=some oh:=Y
end Go.Proofs.YtjkkkibiegfecaaGreatDoor
