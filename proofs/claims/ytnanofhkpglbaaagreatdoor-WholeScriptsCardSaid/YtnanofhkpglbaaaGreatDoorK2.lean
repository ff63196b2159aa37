/- Texts put behind each other. -/
import Derived.Test.YtnanofhkpglbaaaGreatDoorK98
import Derived.Lib.ItoaMem
import Derived.Lib.ParseIntB
import Derived.Lib.IndexMore
set_option linter.unusedSimpArgs false
set_option linter.unusedVariables false
set_option maxRecDepth 100000
set_option maxHeartbeats 80000000
namespace Go.Proofs.YtnanofhkpglbaaaGreatDoor
open Go
section
variable{n:Int}{u:Nat}
def QH(a:Nat)(c:UInt8):Nat:=a*10+(c.toNat - 48)
def fM(a:Nat)(l:List UInt8):Nat:=l.foldl QH a
def V0(l:List UInt8):Prop:=∀c∈l,48<=c.toNat/\c.toNat<=57
structure SL(l:List UInt8):Prop where
 ne:l≠[]
 Xz:V0 l
 head:1<l.length->∀c,l.head? =some c->c.toNat≠48
theorem Gg(u:Nat)(h:u<10):Lib.decDigits u=[UInt8.ofNat (48+u)]:=by rw[Lib.decDigits,dif_pos h]
theorem Mj(u:Nat)(h:¬u<10):Lib.decDigits u=Lib.decDigits (u / 10)++[UInt8.ofNat (48+u%10)]:=by rw[Lib.decDigits,dif_neg h]
theorem Gh(d:Nat)(h:d<10):(UInt8.ofNat (48+d)).toNat=48+d:=by
 rw[UInt8.toNat_ofNat'];omega
theorem Jm(c:UInt8)(d:Nat)(h:c.toNat=48+d):UInt8.ofNat (48+d)=c:=by
 rw[<-h,UInt8.ofNat_toNat]
theorem rM(a:Nat)(l:List UInt8)(c:UInt8):fM a (l++[c])=fM a l*10+(c.toNat - 48):=by
 grind [QH,fM]
theorem Ho(l:List UInt8):∀a,a<=fM a l:=by
 induction l with
 |nil=>intro a;exact alj _
 |cons c l x=>
  intro a;have:=x (QH a c);grind [QH,fM]
theorem gk:∀u:Nat,SL (Lib.decDigits u)/\fM 0 (Lib.decDigits u)=u/\(0<u->∀c,(Lib.decDigits u).head? =some c->c.toNat≠48):=by
 intro u;induction u using Nat.strongRecOn with
 |_ u a=>
  by_cases h:u<10
  ·rw[Gg u h];have z:=Gh u h;refine⟨⟨by simp,fun c x=>?_,Z⟩,?_,fun m c x=>?_⟩
   ·grind
   ·grind [QH,fM]
   grind
  ·rw[Mj u h];obtain⟨⟨e,w,g⟩,l,y⟩:=a (u / 10) O;have z:=Gh (u%10) O;have n:(Lib.decDigits (u / 10)++[UInt8.ofNat (48+u%10)]).head? =(Lib.decDigits (u / 10)).head? :=by
    rw[List.head?_append];cases v:(Lib.decDigits (u / 10)).head? with
    |none=>simp_all
    |some c=>rfl
   refine⟨⟨by simp,fun c x=>?_,fun _ c x=>?_⟩,?_,fun _ c x=>?_⟩
   ·rcases alu.1 x with x|x
    ·exact w c x
    grind
   ·grind
   ·rw[rM,l];omega
   grind
theorem OR{P:List UInt8->Prop}(x:P [])(z:∀l c,P l->P (l++[c]))(l:List UInt8):P l:=by
 have:∀m:List UInt8,P m.reverse:=fun m=>by
  induction m with
  |nil=>exact x
  |cons c m w=>grind
 have h:=this l.reverse;grind
theorem OS{l:List UInt8}(n:l≠[])(x:V0 l)(h:∀c,l.head? =some c->c.toNat≠48):0<fM 0 l:=by
 cases l with
 |nil=>grind
 |cons c l=>
  have z:=h c rfl;have w:=x c Z;have a:=Ho l (QH 0 c);grind [QH,fM]
theorem Gi:∀l:List UInt8,SL l->Lib.decDigits (fM 0 l)=l:=by
 refine OR (fun h=>absurd rfl h.ne) fun l c e h=>?_;have g:=h.Xz c (by simp);obtain⟨d,z⟩:∃d,c.toNat=48+d:=⟨c.toNat - 48,O⟩;rw[rM,z];by_cases n:l=[]
 ·grind [fM,Gg,Jm]
 ·have a:∀x,l.head? =some x->x.toNat≠48:=fun x v=>by
   refine h.head ?_ x ?_
   ·rw[alm,alR];grind
   grind
  have w:V0 l:=fun x v=>h.Xz x Z;have y:=OS n w a;have m:=e ⟨n,w,fun _=>a⟩;rw[show fM 0 l*10+(48+d - 48)=fM 0 l*10+d by omega,Mj _ O,show(fM 0 l*10+d) / 10=fM 0 l by omega,show(fM 0 l*10+d)%10=d by omega,m,Jm c d z]
theorem M1(M:Nat)(e:M<=18446744073709551615):∀ (l:List UInt8) (h:Nat),V0 l->fM h l<=M->Lib.parseUintM M h l= .ok (fM h l):=by
 intro l;induction l with
 |nil=>intro h _ _;rfl
 |cons c l m=>
  intro h z a;have w:=z c Z;have v:=Ho l (QH h c);have n:fM (QH h c) l<=M:=a;have g:QH h c=h*10+(c.toNat - 48):=rfl;unfold Lib.parseUintM;rw[if_pos w,if_neg O,if_neg O];exact m _ (fun x y=>z x Z) n
theorem Gj(h:u<18446744073709551616):Lib.parseUintB 64 (Lib.decDigits u)= .ok u:=by
 obtain⟨⟨x,z,_⟩,w,_⟩:=gk u;unfold Lib.parseUintB;grind [M1]
theorem js(z: -9223372036854775808<=n)(w:n<=9223372036854775807):Lib.parseIntB 64 (Lib.itoa n)= .ok n:=by
 by_cases m:n<0
 ·obtain⟨u,rfl⟩:∃u:Nat,n= -(u:Int):=⟨n.natAbs,O⟩;rw[Lib.itoa_neg u O];have e:(45:UInt8).toNat=45:=rfl;simp only[Lib.parseIntB,e,or_true,if_true,Gj (u:=u) O];grind
 ·obtain⟨u,rfl⟩:∃u:Nat,n=u:=⟨n.toNat,O⟩;rw[Lib.itoa_nonneg];obtain⟨⟨h,x,_⟩,_,_⟩:=gk u;cases a:Lib.decDigits u with
  |nil=>grind
  |cons c r=>
   have l:=x c Z;simp only[Lib.parseIntB];grind [Gj]
theorem zm{l:List UInt8}(h:Lib.parseIntB 64 l= .ok n): -9223372036854775808<=n/\n<=9223372036854775807:=by
 cases l with
 |nil=>cases h
 |cons c r=>
  simp only[Lib.parseIntB]at h;grind
theorem Jn{m:Int}(x: -9223372036854775808<=n)(z:n<=9223372036854775807)(w: -9223372036854775808<=m)(l:m<=9223372036854775807)(h:Lib.itoa n=Lib.itoa m):n=m:=by
 grind [js]
theorem Ri{v:Nat}(h:Lib.decDigits u=Lib.decDigits v):u=v:=by
 grind [gk]
end
end Go.Proofs.YtnanofhkpglbaaaGreatDoor
