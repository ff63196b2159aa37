/- Texts put behind each other. -/
import Derived.Test.YtjkkkibiegfecaaGreatDoorK98
import Derived.Test.YtjkkkibiegfecaaGreatDoorK2
import Derived.Test.YtjkkkibiegfecaaGreatDoorK3
set_option maxRecDepth 100000
set_option maxHeartbeats 8000000
set_option linter.unusedVariables false
set_option linter.unusedSimpArgs false
namespace Go.Proofs.YtjkkkibiegfecaaGreatDoor
open Go
def da:Nat→List UInt8
 |0=>[98,97,100]
 |1=>[110,101,119]
 |2=>[105,110,115,101,114,116]
 |3=>[109,105,110]
 |4=>[101,120,116,114,97,99,116]
 |5=>[100,101,99,114,101,97,115,101]
 |6=>[100,101,108,101,116,101]
 |7=>[109,101,108,100]
 |8=>[108,101,110]
 |9=>[107,101,121]
 |10=>[104,111,109,101]
 |_=>[]
def cC:Nat→Nat
 |2|3|4|8=>1
 |7=>2
 |_=>0
def bS:Nat→Bool
 |5|6|9|10=>true
 |_=>false
def keyOf:Nat→Bool
 |2|5=>true
 |_=>false
def TF(op:Nat):Bool:=decide (2≤op)
def hasB(op:Nat):Bool:=bS op || cC op==2
theorem ops(op:Nat)(h:op≤10):op=0∨op=1∨op=2∨op=3∨op=4∨op=5∨op=6∨op=7∨op=8∨op=9∨op=10:=by omega
structure dP(op a b:Nat)(k:Int):Prop where
 le:op≤10
 la:a<4294967296
 lb:b<4294967296
 k0: -9223372036854775808≤k
 k1:k≤9223372036854775807
 na:TF op=false→a=0
 nb:hasB op=false→b=0
 nk:keyOf op=false→k=0
def ee(op a b:Nat)(k:Int):List (List UInt8):=
 da op::((if bS op then[Lib.decDigits a++46::Lib.decDigits b]else if cC op=2 then[Lib.decDigits a,Lib.decDigits b]else if cC op=1 then[Lib.decDigits a]else[])++(if keyOf op then[Lib.itoa k]else[]))
def fU(op a b:Nat)(k:Int):List UInt8:=Lib.join (ee op a b k) [32]
theorem HK{c:UInt8}(h:¬ (48≤c.toNat∧c.toNat≤57))(u:Nat):c∉Lib.decDigits u:=fun hm=>h ((wL u).1.dig c hm)
theorem VP{c:UInt8}(h:¬ (48≤c.toNat∧c.toNat≤57))(h2:c≠45)(n:Int):c∉Lib.itoa n:=by
 unfold Lib.itoa
 split
 ·intro hm
  rcases aoR.1 hm with hm|hm
  ·exact h2 hm
  ·exact HK h _ hm
 ·exact HK h _
theorem Po{op a b:Nat}{k:Int}(h:op≤10):∀w∈ee op a b k,(32:UInt8)∉w:=by
 have h1:∀u,(32:UInt8)∉Lib.decDigits u:=HK (by decide)
 have h2:(32:UInt8)∉Lib.itoa k:=VP (by decide) (by decide) k
 have h3:(32:UInt8)∉Lib.decDigits a++46::Lib.decDigits b:=by
  intro hm
  rcases aoD.1 hm with hm|hm
  ·exact h1 _ hm
  ·rcases aoR.1 hm with hm|hm
   ·exact absurd hm (by decide)
   ·exact h1 _ hm
 rcases ops op h with rfl|rfl|rfl|rfl|rfl|rfl|rfl|rfl|rfl|rfl|rfl<;>simp[ee,da,cC,bS,keyOf,h1,h2,h3]<;>decide
theorem wz{op a b:Nat}{k:Int}(h:op≤10):pieces 32 (fU op a b k)=ee op a b k:=
 MV 32 _ (by simp[ee]) (Po h)
theorem word_inj{op Qb:Nat}(h:op≤10)(h':Qb≤10)(e:da op=da Qb):op=Qb:=by
 rcases ops op h with rfl|rfl|rfl|rfl|rfl|rfl|rfl|rfl|rfl|rfl|rfl<;>rcases ops Qb h' with rfl|rfl|rfl|rfl|rfl|rfl|rfl|rfl|rfl|rfl|rfl<;>first|rfl| (exact absurd e (by decide))
def As(l:List UInt8):Int:=match Lib.parseIntB 64 l with| .ok n=>if Lib.itoa n=l then n else 0|_=>0
def mG(l:List UInt8):Nat:=(min (max (As l) 0) 4294967295).toNat
theorem HG{n:Int}(h0: -9223372036854775808≤n)(h1:n≤9223372036854775807):As (Lib.itoa n)=n:=by
 unfold As
 rw[zZ h0 h1]
 simp
theorem M6{l:List UInt8}(h:∀n:Int, -9223372036854775808≤n→n≤9223372036854775807→l≠Lib.itoa n):As l=0:=by
 unfold As
 split
 ·rename_i n hn
  obtain⟨h0,h1⟩:=Dd hn
  rw[if_neg (fun e=>h n h0 h1 e.symm)]
 ·rfl
theorem JY{u:Nat}(h:u<4294967296):mG (Lib.decDigits u)=u:=by
 unfold mG
 rw[show Lib.decDigits u=Lib.itoa (u:Int)from(Lib.itoa_nonneg u).symm,HG (by omega) (by omega)]
 omega
theorem RC:mG []=0:=by
 unfold mG
 rw[M6]
 ·rfl
 ·intro n _ _ h
  unfold Lib.itoa at h
  split at h
  ·cases h
  ·exact(wL _).1.ne h.symm
theorem HF(l:List UInt8):mG l<4294967296:=by unfold mG;omega
theorem TK(l:List UInt8): -9223372036854775808≤As l∧As l≤9223372036854775807:=by
 unfold As
 split
 ·rename_i n hn
  split
  ·exact Dd hn
  ·omega
 ·omega
def tS(ws:List (List UInt8)):List UInt8:=ws.getLastD []
def CB(ws:List (List UInt8)):Nat:=if 1<ws.length then mG (Lib.cut (ws.getD 1 []) [46]).1 else 0
def DV(op:Nat)(ws:List (List UInt8)):Nat:=if cC op=2 then mG (tS ws)else if 1<ws.length then mG (Lib.cut (ws.getD 1 []) [46]).2.1 else 0
def Fm(op:Nat)(ws:List (List UInt8)):Int:=if keyOf op then As (tS ws)else 0
def Ei(op a:Nat):Nat:=if TF op then a else 0
def Fj(op b:Nat):Nat:=if hasB op then b else 0
def HB(op:Nat)(k:Int):Int:=if keyOf op then k else 0
theorem At{op a b:Nat}{k:Int}(h:dP op a b k):Ei op (CB (ee op a b k))=a∧Fj op (DV op (ee op a b k))=b∧HB op (Fm op (ee op a b k))=k:=by
 obtain⟨ho,ha,hb,h0,h1,na,nb,nk⟩:=h
 have c1:Lib.cut (Lib.decDigits a++46::Lib.decDigits b) [46]=(Lib.decDigits a,Lib.decDigits b,true):=Vp 46 _ _ (HK (by decide) a)
 have c2:Lib.cut (Lib.decDigits a) [46]=(Lib.decDigits a,[],false):=Rd 46 _ (HK (by decide) a)
 rcases ops op ho with rfl|rfl|rfl|rfl|rfl|rfl|rfl|rfl|rfl|rfl|rfl<;>
  simp[Ei,Fj,HB,CB,DV,Fm,tS,ee,cC,bS,keyOf,TF,hasB,c1,c2,JY ha,JY hb,RC,HG h0 h1]<;>
  simp[TF,hasB,cC,bS,keyOf]at na nb nk<;>omega
theorem HH{op a b Qb a' b':Nat}{k k':Int}(h:dP op a b k)(h':dP Qb a' b' k')(e:fU op a b k=fU Qb a' b' k'):op=Qb∧a=a'∧b=b'∧k=k':=by
 have e2:=aoo (pieces 32) e
 rw[wz h.le,wz h'.le]at e2
 have e3:da op=da Qb:=by injection e2
 obtain rfl:=word_inj h.le h'.le e3
 obtain⟨h1,h2,h3⟩:=At h
 obtain⟨g1,g2,g3⟩:=At h'
 rw[e2]at h1 h2 h3
 exact⟨rfl,h1.symm.trans g1,h2.symm.trans g2,h3.symm.trans g3⟩
theorem join_le(c:UInt8):∀ (ws:List (List UInt8)) (n:Nat),(∀w∈ws,w.length≤n)→(Lib.join ws [c]).length≤ws.length*(n+1):=by
 intro ws n
 induction ws with
 |nil=>intro _;simp[Lib.join_nil]
 |cons x r ih=>
  intro h
  have hx:=h x (aoQ ..)
  have hr:=ih fun w hw=>h w (aoU _ hw)
  have e:(r.length+1)*(n+1)=r.length*(n+1)+(n+1):=Nat.succ_mul _ _
  cases r with
  |nil=>rw[Lib.join_one];simp;omega
  |cons y r=>
   rw[Hn,aos,aop,aop (a:=x),e]
   omega
structure jf(a b:Nat)(k:Int):Prop where
 la:a<4294967296
 lb:b<4294967296
 k0: -9223372036854775808≤k
 k1:k≤9223372036854775807
end Go.Proofs.YtjkkkibiegfecaaGreatDoor

namespace Go.Proofs.YtjkkkibiegfecaaGreatDoor
open Go
def val(l:List Nat):Nat:=l.foldl (fun n c=>n*256+c) 0
structure R where
 op:Int
 a:Nat
 b:Nat
 k:Int
 deriving DecidableEq
end Go.Proofs.YtjkkkibiegfecaaGreatDoor
