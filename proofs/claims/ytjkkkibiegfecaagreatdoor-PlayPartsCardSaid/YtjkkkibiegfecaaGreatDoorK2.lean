/- Texts put behind each other. -/
import Derived.Test.YtjkkkibiegfecaaGreatDoorK98
import Derived.Lib.ItoaMem
import Derived.Lib.ParseIntB
import Derived.Lib.IndexMore
set_option maxRecDepth 100000
set_option maxHeartbeats 8000000
set_option linter.unusedVariables false
set_option linter.unusedSimpArgs false
namespace Go.Proofs.YtjkkkibiegfecaaGreatDoor
open Go
def UU(a:Nat)(c:UInt8):Nat:=a*10+(c.toNat - 48)
def KG(a:Nat)(l:List UInt8):Nat:=l.foldl UU a
def Dig(l:List UInt8):Prop:=∀c∈l,48≤c.toNat∧c.toNat≤57
structure aa5(l:List UInt8):Prop where
 ne:l≠[]
 dig:Dig l
 head:1<l.length→∀c,l.head? =some c→c.toNat≠48
theorem QB(u:Nat)(h:u<10):Lib.decDigits u=[UInt8.ofNat (48+u)]:=by rw[Lib.decDigits,dif_pos h]
theorem UV(u:Nat)(h:¬u<10):Lib.decDigits u=Lib.decDigits (u / 10)++[UInt8.ofNat (48+u%10)]:=by rw[Lib.decDigits,dif_neg h]
theorem JA(d:Nat)(h:d<10):(UInt8.ofNat (48+d)).toNat=48+d:=by
 rw[UInt8.toNat_ofNat'];omega
theorem Sk(a:Nat)(l:List UInt8)(c:UInt8):KG a (l++[c])=KG a l*10+(c.toNat - 48):=by
 unfold KG;rw[List.foldl_append];rfl
theorem UW(l:List UInt8):∀a,a≤KG a l:=by
 induction l with
 |nil=>intro a;exact aox _
 |cons c l ih=>
  intro a
  have:=ih (UU a c)
  show a≤KG (UU a c) l
  unfold UU at this ⊢
  omega
theorem wL:∀u:Nat,aa5 (Lib.decDigits u)∧KG 0 (Lib.decDigits u)=u∧(0<u→∀c,(Lib.decDigits u).head? =some c→c.toNat≠48):=by
 intro u
 induction u using Nat.strongRecOn with
 |_ u ih=>
  by_cases h:u<10
  ·rw[QB u h]
   have ht:=JA u h
   refine⟨⟨by simp,fun c hc=>?_,fun h=>by simp at h⟩,?_,fun hp c hc=>?_⟩
   ·rw[aoB]at hc;subst hc;omega
   ·show UU 0 _=u
    unfold UU;omega
   ·simp only[List.head?_cons,aoq]at hc;subst hc;omega
  ·rw[UV u h]
   obtain⟨⟨i1,i2,i3⟩,i4,i5⟩:=ih (u / 10) (by omega)
   have ht:=JA (u%10) (by omega)
   have hh:(Lib.decDigits (u / 10)++[UInt8.ofNat (48+u%10)]).head? =(Lib.decDigits (u / 10)).head? :=by
    rw[List.head?_append]
    cases hx:(Lib.decDigits (u / 10)).head? with
    |none=>exact absurd (List.head?_eq_none_iff.1 hx) i1
    |some c=>rfl
   refine⟨⟨by simp,fun c hc=>?_,fun _ c hc=>?_⟩,?_,fun _ c hc=>?_⟩
   ·rcases aoD.1 hc with hc|hc
    ·exact i2 c hc
    ·rw[aoB]at hc;subst hc;omega
   ·rw[hh]at hc;exact i5 (by omega) c hc
   ·rw[Sk,i4];omega
   ·rw[hh]at hc;exact i5 (by omega) c hc
theorem QC(M:Nat)(hM:M≤18446744073709551615):∀ (l:List UInt8) (UX:Nat),Dig l→KG UX l≤M→Lib.parseUintM M UX l= .ok (KG UX l):=by
 intro l
 induction l with
 |nil=>intro UX _ _;rfl
 |cons c l ih=>
  intro UX hd hv
  have hc:=hd c (aoQ ..)
  have h3:=UW l (UU UX c)
  have Lr:KG (UU UX c) l≤M:=hv
  have hg:UU UX c=UX*10+(c.toNat - 48):=rfl
  unfold Lib.parseUintM
  rw[if_pos hc,if_neg (by omega),if_neg (by omega)]
  exact ih _ (fun x hx=>hd x (aoU _ hx)) Lr
theorem JB{u:Nat}(h:u<18446744073709551616):Lib.parseUintB 64 (Lib.decDigits u)= .ok u:=by
 obtain⟨⟨h1,h2,_⟩,h3,_⟩:=wL u
 unfold Lib.parseUintB
 rw[if_neg h1,QC _ (by decide) _ 0 h2 (by rw[h3];omega),h3]
theorem zZ{n:Int}(h0: -9223372036854775808≤n)(h1:n≤9223372036854775807):Lib.parseIntB 64 (Lib.itoa n)= .ok n:=by
 by_cases hn:n<0
 ·obtain⟨u,rfl⟩:∃u:Nat,n= -(u:Int):=⟨n.natAbs,by omega⟩
  rw[Lib.itoa_neg u (by omega)]
  have e:(45:UInt8).toNat=45:=rfl
  simp only[Lib.parseIntB,e,or_true,if_true,JB (u:=u) (by omega)]
  rw[if_neg (by simp),if_neg (by simp;omega)]
 ·obtain⟨u,rfl⟩:∃u:Nat,n=u:=⟨n.toNat,by omega⟩
  rw[Lib.itoa_nonneg]
  obtain⟨⟨g1,g2,_⟩,_,_⟩:=wL u
  cases hd:Lib.decDigits u with
  |nil=>exact absurd hd g1
  |cons c r=>
   have hc:=g2 c (by rw[hd];exact aoQ ..)
   simp only[Lib.parseIntB]
   rw[if_neg (by omega),←hd,JB (u:=u) (by omega)]
   simp only
   rw[if_neg (by omega),if_neg (by omega),if_neg (by omega)]
theorem Dd{l:List UInt8}{n:Int}(h:Lib.parseIntB 64 l= .ok n): -9223372036854775808≤n∧n≤9223372036854775807:=by
 cases l with
 |nil=>cases h
 |cons c r=>
  simp only[Lib.parseIntB]at h
  generalize Lib.parseUintB 64 (if c.toNat=43∨c.toNat=45 then r else c::r)=x at h
  cases x with
  |ok u=>
   simp only at h
   split at h
   ·cases h
   ·split at h
    ·cases h
    ·injection h with h
     split at h<;>omega
  |_=>cases h
end Go.Proofs.YtjkkkibiegfecaaGreatDoor
