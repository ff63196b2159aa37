/- Texts put behind each other. -/
import Derived.Test.YtnanofhkpglbaaaGreatDoorK2
import Derived.Test.YtnanofhkpglbaaaGreatDoorK3
set_option linter.unusedSimpArgs false
set_option linter.unusedVariables false
set_option maxRecDepth 100000
set_option maxHeartbeats 80000000
namespace Go.Proofs.YtnanofhkpglbaaaGreatDoor
open Go
section
variable{op a b Ss:Nat}{k:Int}
def bV:Nat->List UInt8
 |0=>[98,97,100]
 |1=>[110,101,119]
 |2=>[105,110,115,101,114,116]
 |3=>[109,105,110]
 |4=>[101,120,116,114,97,99,116]
 |5=>[100,101,99,114,101,97,115,101]
 |6=>[100,101,108,101,116,101]
 |7=>[109,101,108,100]
 |8=>[108,101,110]
 |9=>[107,101,121]
 |10=>[104,111,109,101]
 |_=>[]
def cE:Nat->Nat
 |2|3|4|8=>1
 |7=>2
 |_=>0
def bv:Nat->Bool
 |5|6|9|10=>true
 |_=>false
def keyOf:Nat->Bool
 |2|5=>true
 |_=>false
def jA(op:Nat):Bool:=decide (2<=op)
def hasB(op:Nat):Bool:=bv op || cE op==2
theorem ops(op:Nat)(h:op<=10):op=0\/op=1\/op=2\/op=3\/op=4\/op=5\/op=6\/op=7\/op=8\/op=9\/op=10:=O
structure dI(op a b:Nat)(k:Int):Prop where
 le:op<=10
 la:a<4294967296
 lb:b<4294967296
 k0: -9223372036854775808<=k
 k1:k<=9223372036854775807
 na:jA op=false->a=0
 nb:hasB op=false->b=0
 nk:keyOf op=false->k=0
def dL(op a b:Nat)(k:Int):List (List UInt8):=
 bV op::((if bv op then[Lib.decDigits a++46::Lib.decDigits b]else if cE op=2 then[Lib.decDigits a,Lib.decDigits b]else if cE op=1 then[Lib.decDigits a]else[])++(if keyOf op then[Lib.itoa k]else[]))
def jq(op a b:Nat)(k:Int):List UInt8:=Lib.join (dL op a b k) [32]
theorem AG{c:UInt8}(h:¬ (48<=c.toNat/\c.toNat<=57))(u:Nat):c∉Lib.decDigits u:=fun hm=>h ((gk u).1.Xz c hm)
theorem Sr{c:UInt8}(h:¬ (48<=c.toNat/\c.toNat<=57))(x:c≠45)(n:Int):c∉Lib.itoa n:=by
 unfold Lib.itoa;grind [AG]
theorem LV(h:op<=10):∀w∈dL op a b k,(32:UInt8)∉w:=by
 have x:∀u,(32:UInt8)∉Lib.decDigits u:=AG (by decide);have z:(32:UInt8)∉Lib.itoa k:=Sr (by decide) (by decide) k;have l:(32:UInt8)∉Lib.decDigits a++46::Lib.decDigits b:=by
  intro hm;rcases alu.1 hm with hm|hm
  ·grind
  ·grind
 rcases ops op h with rfl|rfl|rfl|rfl|rfl|rfl|rfl|rfl|rfl|rfl|rfl<;>simp[dL,bV,cE,bv,keyOf,x,z,l]<;>decide
theorem mM(h:op<=10):pieces 32 (jq op a b k)=dL op a b k:=
 JJ 32 _ (by simp[dL]) (LV h)
theorem word_inj(h:op<=10)(x:Ss<=10)(e:bV op=bV Ss):op=Ss:=by
 rcases ops op h with rfl|rfl|rfl|rfl|rfl|rfl|rfl|rfl|rfl|rfl|rfl<;>rcases ops Ss x with rfl|rfl|rfl|rfl|rfl|rfl|rfl|rfl|rfl|rfl|rfl<;>first|rfl| (exact absurd e (by decide))
def wM(l:List UInt8):Int:=match Lib.parseIntB 64 l with| .ok n=>if Lib.itoa n=l then n else 0|_=>0
def mh(l:List UInt8):Nat:=(min (max (wM l) 0) 4294967295).toNat
theorem Em{n:Int}(x: -9223372036854775808<=n)(h:n<=9223372036854775807):wM (Lib.itoa n)=n:=by
 grind [wM,js]
theorem Qq{l:List UInt8}(h:∀n:Int, -9223372036854775808<=n->n<=9223372036854775807->l≠Lib.itoa n):wM l=0:=by
 grind [wM,zm]
theorem GF{u:Nat}(h:u<4294967296):mh (Lib.decDigits u)=u:=by
 unfold mh;rw[show Lib.decDigits u=Lib.itoa (u:Int)from(Lib.itoa_nonneg u).symm,Em O O];omega
theorem NX:mh []=0:=by
 rfl
theorem Ef(l:List UInt8):mh l<4294967296:=by unfold mh;omega
theorem Qm(l:List UInt8): -9223372036854775808<=wM l/\wM l<=9223372036854775807:=by
 unfold wM;split
 ·rename_i n x;split
  ·exact zm x
  ·omega
 ·omega
def qB(ws:List (List UInt8)):List UInt8:=ws.getLastD []
def yQ(ws:List (List UInt8)):Nat:=if 1<ws.length then mh (Lib.cut (ws.getD 1 []) [46]).1 else 0
def AB(op:Nat)(ws:List (List UInt8)):Nat:=if cE op=2 then mh (qB ws)else if 1<ws.length then mh (Lib.cut (ws.getD 1 []) [46]).2.1 else 0
def BZ(op:Nat)(ws:List (List UInt8)):Int:=if keyOf op then wM (qB ws)else 0
def A0(op a:Nat):Nat:=if jA op then a else 0
def Cn(op b:Nat):Nat:=if hasB op then b else 0
def EI(op:Nat)(k:Int):Int:=if keyOf op then k else 0
theorem En(h:dI op a b k):A0 op (yQ (dL op a b k))=a/\Cn op (AB op (dL op a b k))=b/\EI op (BZ op (dL op a b k))=k:=by
 obtain⟨c,n,m,w,l,v,e,g⟩:=h;have x:Lib.cut (Lib.decDigits a++46::Lib.decDigits b) [46]=(Lib.decDigits a,Lib.decDigits b,true):=Rt 46 _ _ (AG (by decide) a);have z:Lib.cut (Lib.decDigits a) [46]=(Lib.decDigits a,[],false):=Nn 46 _ (AG (by decide) a);rcases ops op c with rfl|rfl|rfl|rfl|rfl|rfl|rfl|rfl|rfl|rfl|rfl<;>
  simp[A0,Cn,EI,yQ,AB,BZ,qB,dL,cE,bv,keyOf,jA,hasB,x,z,GF n,GF m,NX,Em w l]<;>
  simp[jA,hasB,cE,bv,keyOf]at v e g<;>omega
theorem Qr{x b':Nat}{k':Int}(h:dI op a b k)(w:dI Ss x b' k')(e:jq op a b k=jq Ss x b' k'):op=Ss/\a=x/\b=b'/\k=k':=by
 have z:=ald (pieces 32) e;rw[mM h.le,mM w.le]at z;have l:bV op=bV Ss:=by injection z
 obtain rfl:=word_inj h.le w.le l;grind [En]
theorem join_le(c:UInt8):∀ (ws:List (List UInt8)) (n:Nat),(∀w∈ws,w.length<=n)->(Lib.join ws [c]).length<=ws.length*(n+1):=by
 intro ws n;induction ws with
 |nil=>intro _;simp[Lib.join_nil]
 |cons x r l=>
  intro h;have m:=h x (alS ..);have a:=l fun w z=>h w (alT _ z);have e:(r.length+1)*(n+1)=r.length*(n+1)+(n+1):=Nat.succ_mul _ _;cases r with
  |nil=>rw[Lib.join_one];grind
  |cons y r=>
   grind [yb]
structure gN(a b:Nat)(k:Int):Prop where
 la:a<4294967296
 lb:b<4294967296
 k0: -9223372036854775808<=k
 k1:k<=9223372036854775807
end
def val(l:List Nat):Nat:=l.foldl (fun n c=>n*256+c) 0
structure R where
 op:Int
 a:Nat
 b:Nat
 k:Int
 deriving DecidableEq
end Go.Proofs.YtnanofhkpglbaaaGreatDoor
