/- Texts put behind each other. -/
import Derived.Test.YtjkkkibiegfecaaGreatDoorK2
import Derived.Test.YtjkkkibiegfecaaGreatDoorK3
set_option linter.unusedSimpArgs false
set_option linter.unusedVariables false
set_option maxRecDepth 100000
set_option maxHeartbeats 8000000
namespace Go.Proofs.YtjkkkibiegfecaaGreatDoor
open Go
section
variable{op a b Ro:Nat}{k:Int}
def bU:Nat->List UInt8
 |0=>[98,97,100]
 |1=>[110,101,119]
 |2=>[105,110,115,101,114,116]
 |3=>[109,105,110]
 |4=>[101,120,116,114,97,99,116]
 |5=>[100,101,99,114,101,97,115,101]
 |6=>[100,101,108,101,116,101]
 |7=>[109,101,108,100]
 |8=>[108,101,110]
 |9=>[107,101,121]
 |10=>[104,111,109,101]
 |_=>[]
def cH:Nat->Nat
 |2|3|4|8=>1
 |7=>2
 |_=>0
def bA:Nat->Bool
 |5|6|9|10=>true
 |_=>false
def keyOf:Nat->Bool
 |2|5=>true
 |_=>false
def iv(op:Nat):Bool:=decide (2<=op)
def hasB(op:Nat):Bool:=bA op || cH op==2
theorem ops(op:Nat)(h:op<=10):op=0\/op=1\/op=2\/op=3\/op=4\/op=5\/op=6\/op=7\/op=8\/op=9\/op=10:=O
structure ck(op a b:Nat)(k:Int):Prop where
 le:op<=10
 la:a<4294967296
 lb:b<4294967296
 k0: -9223372036854775808<=k
 k1:k<=9223372036854775807
 na:iv op=false->a=0
 nb:hasB op=false->b=0
 nk:keyOf op=false->k=0
def df(op a b:Nat)(k:Int):List (List UInt8):=
 bU op::((if bA op then[Lib.decDigits a++46::Lib.decDigits b]else if cH op=2 then[Lib.decDigits a,Lib.decDigits b]else if cH op=1 then[Lib.decDigits a]else[])++(if keyOf op then[Lib.itoa k]else[]))
def dT(op a b:Nat)(k:Int):List UInt8:=Lib.join (df op a b k) [32]
theorem AH{c:UInt8}(h:¬ (48<=c.toNat/\c.toNat<=57))(u:Nat):c∉Lib.decDigits u:=fun hm=>h ((gk u).1.Wv c hm)
theorem Rn{c:UInt8}(h:¬ (48<=c.toNat/\c.toNat<=57))(x:c≠45)(n:Int):c∉Lib.itoa n:=by
 unfold Lib.itoa;grind [AH]
theorem Lq(h:op<=10):∀w∈df op a b k,(32:UInt8)∉w:=by
 have x:∀u,(32:UInt8)∉Lib.decDigits u:=AH (by decide);have z:(32:UInt8)∉Lib.itoa k:=Rn (by decide) (by decide) k;have l:(32:UInt8)∉Lib.decDigits a++46::Lib.decDigits b:=by
  intro hm;rcases aj4.1 hm with hm|hm
  ·grind
  ·grind
 rcases ops op h with rfl|rfl|rfl|rfl|rfl|rfl|rfl|rfl|rfl|rfl|rfl<;>simp[df,bU,cH,bA,keyOf,x,z,l]<;>decide
theorem mY(h:op<=10):pieces 32 (dT op a b k)=df op a b k:=
 Jo 32 _ (by simp[df]) (Lq h)
theorem word_inj(h:op<=10)(x:Ro<=10)(e:bU op=bU Ro):op=Ro:=by
 rcases ops op h with rfl|rfl|rfl|rfl|rfl|rfl|rfl|rfl|rfl|rfl|rfl<;>rcases ops Ro x with rfl|rfl|rfl|rfl|rfl|rfl|rfl|rfl|rfl|rfl|rfl<;>first|rfl| (exact absurd e (by decide))
def w9(l:List UInt8):Int:=match Lib.parseIntB 64 l with| .ok n=>if Lib.itoa n=l then n else 0|_=>0
def my(l:List UInt8):Nat:=(min (max (w9 l) 0) 4294967295).toNat
theorem Eg{n:Int}(x: -9223372036854775808<=n)(h:n<=9223372036854775807):w9 (Lib.itoa n)=n:=by
 grind [w9,pD]
theorem Px{l:List UInt8}(h:∀n:Int, -9223372036854775808<=n->n<=9223372036854775807->l≠Lib.itoa n):w9 l=0:=by
 grind [w9,zG]
theorem Gq{u:Nat}(h:u<4294967296):my (Lib.decDigits u)=u:=by
 unfold my;rw[show Lib.decDigits u=Lib.itoa (u:Int)from(Lib.itoa_nonneg u).symm,Eg O O];omega
theorem Ni:my []=0:=by
 rfl
theorem D8(l:List UInt8):my l<4294967296:=by unfold my;omega
theorem Pt(l:List UInt8): -9223372036854775808<=w9 l/\w9 l<=9223372036854775807:=by
 unfold w9;split
 ·rename_i n x;split
  ·exact zG x
  ·omega
 ·omega
def qL(ws:List (List UInt8)):List UInt8:=ws.getLastD []
def yY(ws:List (List UInt8)):Nat:=if 1<ws.length then my (Lib.cut (ws.getD 1 []) [46]).1 else 0
def AC(op:Nat)(ws:List (List UInt8)):Nat:=if cH op=2 then my (qL ws)else if 1<ws.length then my (Lib.cut (ws.getD 1 []) [46]).2.1 else 0
def B3(op:Nat)(ws:List (List UInt8)):Int:=if keyOf op then w9 (qL ws)else 0
def zh(op a:Nat):Nat:=if iv op then a else 0
def AZ(op b:Nat):Nat:=if hasB op then b else 0
def Cl(op:Nat)(k:Int):Int:=if keyOf op then k else 0
theorem Eh(h:ck op a b k):zh op (yY (df op a b k))=a/\AZ op (AC op (df op a b k))=b/\Cl op (B3 op (df op a b k))=k:=by
 obtain⟨c,n,m,w,l,v,e,g⟩:=h;have x:Lib.cut (Lib.decDigits a++46::Lib.decDigits b) [46]=(Lib.decDigits a,Lib.decDigits b,true):=QJ 46 _ _ (AH (by decide) a);have z:Lib.cut (Lib.decDigits a) [46]=(Lib.decDigits a,[],false):=MT 46 _ (AH (by decide) a);rcases ops op c with rfl|rfl|rfl|rfl|rfl|rfl|rfl|rfl|rfl|rfl|rfl<;>
  simp[zh,AZ,Cl,yY,AC,B3,qL,df,cH,bA,keyOf,iv,hasB,x,z,Gq n,Gq m,Ni,Eg w l]<;>
  simp[iv,hasB,cH,bA,keyOf]at v e g<;>omega
theorem Ej{x b':Nat}{k':Int}(h:ck op a b k)(w:ck Ro x b' k')(e:dT op a b k=dT Ro x b' k'):op=Ro/\a=x/\b=b'/\k=k':=by
 have z:=ajP (pieces 32) e;rw[mY h.le,mY w.le]at z;have l:bU op=bU Ro:=by injection z
 obtain rfl:=word_inj h.le w.le l;grind [Eh]
theorem join_le(c:UInt8):∀ (ws:List (List UInt8)) (n:Nat),(∀w∈ws,w.length<=n)->(Lib.join ws [c]).length<=ws.length*(n+1):=by
 intro ws n;induction ws with
 |nil=>intro _;simp[Lib.join_nil]
 |cons x r l=>
  intro h;have m:=h x (akq ..);have a:=l fun w z=>h w (akr _ z);have e:(r.length+1)*(n+1)=r.length*(n+1)+(n+1):=Nat.succ_mul _ _;cases r with
  |nil=>rw[Lib.join_one];grind
  |cons y r=>
   grind [yt]
structure gM(a b:Nat)(k:Int):Prop where
 la:a<4294967296
 lb:b<4294967296
 k0: -9223372036854775808<=k
 k1:k<=9223372036854775807
end
def val(l:List Nat):Nat:=l.foldl (fun n c=>n*256+c) 0
structure R where
 op:Int
 a:Nat
 b:Nat
 k:Int
 deriving DecidableEq
end Go.Proofs.YtjkkkibiegfecaaGreatDoor
