/- Texts put behind each other. -/
import Derived.Test.YtjkkkibiegfecaaGreatDoorK6
set_option linter.unusedSimpArgs false
set_option linter.unusedVariables false
set_option maxRecDepth 100000
set_option maxHeartbeats 8000000
namespace Go.Proofs.YtjkkkibiegfecaaGreatDoor
open Go
section
variable{l:List Nat}
theorem aaI(l:List Nat)(c:Nat):val (l++[c])=val l*256+c:=by grind [val]
theorem aac{i c:Nat}(h:l[i]? =some c):val (l.take (i+1))=val (l.take i)*256+c:=by
 rw[aj2,h];exact aaI _ _
theorem fw(h:∀c∈l,c<256):∀i,val (l.take i)<256^i:=by
 intro i;induction i with
 |zero=>simp[val]
 |succ i z=>
  cases x:l[i]? with
  |none=>
   rw[akE (by have:=List.getElem?_eq_none_iff.1 x;omega),<-akE (i:=i) (List.getElem?_eq_none_iff.1 x),Nat.pow_succ];omega
  |some c=>
   rw[aac x,Nat.pow_succ];have:=h c Z;omega
def R.fA(r:R):R:=if 0<=r.op/\r.op<=10 then⟨r.op,zh r.op.toNat r.a,AZ r.op.toNat r.b,Cl r.op.toNat r.k⟩else⟨0,0,0,0⟩
def R.a8(r:R):Prop:=gM r.a r.b r.k/\ -9223372036854775808<=r.op/\r.op<=9223372036854775807
theorem R.aaq(r:R):0<=r.fA.op/\r.fA.op<=10:=by
 unfold R.fA;grind
theorem R.aar{r:R}(h:r.a8):ck r.fA.op.toNat r.fA.a r.fA.b r.fA.k:=by
 obtain⟨⟨x,z,w,l⟩,a,n⟩:=h;unfold R.fA;split
 ·rename_i m;unfold zh AZ Cl;constructor<;>grind
 constructor<;>grind
theorem aaR(i a:Nat):zh i (zh i a)=zh i a:=by unfold zh;grind
theorem aaS(i a:Nat):AZ i (AZ i a)=AZ i a:=by unfold AZ;grind
theorem aaT(i:Nat)(a:Int):Cl i (Cl i a)=Cl i a:=by unfold Cl;grind
theorem R.aat(r:R):r.fA.fA=r.fA:=by
 by_cases h:0<=r.op/\r.op<=10
 ·have e:r.fA=⟨r.op,zh r.op.toNat r.a,AZ r.op.toNat r.b,Cl r.op.toNat r.k⟩:=if_pos h;rw[e];unfold R.fA;grind [aaR,aaS,aaT]
 ·have e:r.fA=⟨0,0,0,0⟩:=if_neg h;rw[e];rfl
theorem R.aaJ{r:R}(h:r.a8):r.fA.a8:=by
 have x:=R.aar h;have z:=R.aaq r;exact⟨⟨x.la,x.lb,x.k0,x.k1⟩,O,O⟩
def toS(n:Nat):Int:=if n<9223372036854775808 then n else(n:Int) - 18446744073709551616
theorem aaY{n:Nat}(h:n<18446744073709551616): -9223372036854775808<=toS n/\toS n<=9223372036854775807:=by unfold toS;omega
def oo(l:List Nat):R:=⟨(l.getD 0 0:Nat),val ((l.drop 1).take 4),val ((l.drop 5).take 4),toS (val ((l.drop 9).take 8))⟩
def aam:Nat->List Nat->List R
 |0,_=>[]
 |f+1,l=>if 17<=l.length then(oo l).fA::aam f (l.drop 17)else if l=[]then[]else[⟨0,0,0,0⟩]
def rl(l:List Nat):List R:=aam (l.length+1) l
theorem aaF:∀f g l,l.length<f->l.length<g->aam f l=aam g l:=by
 intro f;induction f with
 |zero=>omega
 |succ f z=>
  intro g l x h;cases g with
  |zero=>omega
  |succ g=>
   grind [aam]
theorem sd(h:17<=l.length):rl l=(oo l).fA::rl (l.drop 17):=by
 unfold rl;grind [aam.eq_2,aaF]
theorem aav:rl []=[]:=rfl
theorem RF(h:¬17<=l.length)(x:l≠[]):rl l=[⟨0,0,0,0⟩]:=by
 unfold rl;rw[aam,if_neg h,if_neg x]
theorem aae:∀n l,l.length<=n->(rl l).length=(l.length+16) / 17:=by
 intro n;induction n with
 |zero=>grind [aam,rl]
 |succ n x=>
  grind [aam,rl,sd]
theorem aaK(h:∀c∈l,c<256):(oo l).a8:=by
 have x:∀i,∀c∈l.drop i,c<256:=Z;have l1:=fw (x 1) 4;have l2:=fw (x 5) 4;have e:=fw (x 9) 8;have a:(256:Nat)^4=4294967296:=by decide
 have m:(256:Nat)^8=18446744073709551616:=by decide
 have v:l.getD 0 0<256:=by
  cases l with
  |nil=>simp
  |cons c r=>simp_all
 obtain⟨z,w⟩:=aaY (n:=val ((l.drop 9).take 8)) O;exact⟨⟨by show val _<_;omega,by show val _<_;omega,z,w⟩,by show _<=((l.getD 0 0:Nat):Int);omega,by show((l.getD 0 0:Nat):Int)<=_;omega⟩
theorem aaE:∀n (l:List Nat),l.length<=n->(∀c∈l,c<256)->∀r∈rl l,r.a8/\r.fA=r:=by
 intro n;have m:R.a8 ⟨0,0,0,0⟩:=⟨⟨by decide,by decide,by decide,by decide⟩,by decide,by decide⟩;induction n with
 |zero=>intro l h a r x;have:l=[]:=Z;subst this;cases x
 |succ n v=>
  intro l h a r x;by_cases w:17<=l.length
  ·grind [sd,R.aaJ,aaK,R.aat]
  ·by_cases z:l=[]
   ·grind
   ·rw[RF w z,aj6]at x;subst x;exact⟨m,rfl⟩
end
end Go.Proofs.YtjkkkibiegfecaaGreatDoor
