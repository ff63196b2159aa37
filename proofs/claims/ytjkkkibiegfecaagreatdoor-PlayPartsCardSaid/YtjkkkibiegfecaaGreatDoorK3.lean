/- Texts put behind each other. -/
import Derived.Test.YtjkkkibiegfecaaGreatDoorK98
import Derived.Lib.Split
import Derived.Lib.SplitLaws
import Derived.Lib.Join
set_option maxRecDepth 100000
set_option maxHeartbeats 8000000
set_option linter.unusedVariables false
set_option linter.unusedSimpArgs false
namespace Go.Proofs.YtjkkkibiegfecaaGreatDoor
open Go
def pieces(c:UInt8):List UInt8→List (List UInt8)
 | []=>[[]]
 |x::l=>if x=c then[]::pieces c l else match pieces c l with
  | []=>[[x]]
  |p::r=>(x::p)::r
theorem JP(c:UInt8):∀l,pieces c l≠[]:=by
 intro l
 cases l with
 |nil=>simp[pieces]
 |cons x l=>
  unfold pieces
  split
  ·simp
  ·split<;>simp
theorem DH{c:UInt8}(a b:List UInt8)(h:c∉a):pieces c (a++c::b)=a::pieces c b:=by
 induction a with
 |nil=>simp[pieces]
 |cons x a ih=>
  have hx:x≠c:=fun e=>h (by rw[e];exact aoQ ..)
  rw[apc,pieces,if_neg hx,ih (fun hm=>h (aoU _ hm))]
theorem jd{c:UInt8}(a:List UInt8)(h:c∉a):pieces c a=[a]:=by
 induction a with
 |nil=>rfl
 |cons x a ih=>
  have hx:x≠c:=fun e=>h (by rw[e];exact aoQ ..)
  rw[pieces,if_neg hx,ih (fun hm=>h (aoU _ hm))]
theorem Cf(c:UInt8)(l:List UInt8):(c∉l∧pieces c l=[l])∨∃a b,l=a++c::b∧c∉a∧pieces c l=a::pieces c b:=by
 by_cases h:c∈l
 ·obtain⟨a,b,rfl,ha⟩:=List.eq_append_cons_of_mem h
  exact .inr ⟨a,b,rfl,ha,DH a b ha⟩
 ·exact .inl ⟨h,jd l h⟩
theorem index_one(c:UInt8)(b:List UInt8):∀ (a:List UInt8),c∉a→Lib.index (a++c::b) [c]=(a.length:Int):=by
 intro a
 induction a with
 |nil=>intro _;simp[Lib.index,List.isPrefixOf]
 |cons x a ih=>
  intro h
  have hx:(c==x)=false:=by
   rw[beq_eq_false_iff_ne]
   exact fun e=>h (by rw[e];exact aoQ ..)
  have h2:=ih (fun hm=>h (aoU _ hm))
  have h3:([c]:List UInt8).isPrefixOf (x::(a++c::b))=false:=by simp[List.isPrefixOf,hx]
  rw[apc,Lib.index,h3,h2]
  have h4:((a.length:Int)== -1)=false:=by rw[beq_eq_false_iff_ne];omega
  rw[h4]
  simp
theorem index_none(c:UInt8):∀ (a:List UInt8),c∉a→Lib.index a [c]= -1:=by
 intro a
 induction a with
 |nil=>intro _;simp[Lib.index]
 |cons x a ih=>
  intro h
  have hx:(c==x)=false:=by
   rw[beq_eq_false_iff_ne]
   exact fun e=>h (by rw[e];exact aoQ ..)
  have h2:=ih (fun hm=>h (aoU _ hm))
  have h3:([c]:List UInt8).isPrefixOf (x::a)=false:=by simp[List.isPrefixOf,hx]
  rw[Lib.index,h3,h2]
  simp
theorem IW(c:UInt8):∀ (n:Nat) (l:List UInt8),l.count c=n→Lib.splitK [c] 0 n l=pieces c l:=by
 intro n
 induction n with
 |zero=>
  intro l h
  rw[jd l (List.count_eq_zero.1 h)]
  rfl
 |succ n ih=>
  intro l h
  have hm:c∈l:=List.count_pos_iff.1 (by omega)
  obtain⟨a,b,rfl,ha⟩:=List.eq_append_cons_of_mem hm
  have hc:(a++c::b).count c=b.count c+1:=by
   rw[apK,List.count_eq_zero.2 ha,List.count_cons_self];omega
  unfold Lib.splitK
  rw[index_one c b a ha,if_neg (by rw[beq_iff_eq];omega),Int.toNat_natCast,DH a b ha,←ih b (by omega)]
  simp
theorem KW(c:UInt8)(l:List UInt8):Lib.splitK [c] 0 (Lib.count l [c]) l=pieces c l:=by
 rw[Lib.count_one]
 exact IW c _ l rfl
theorem Vp(c:UInt8)(a b:List UInt8)(h:c∉a):Lib.cut (a++c::b) [c]=(a,b,true):=by
 unfold Lib.cut
 rw[index_one c b a h,if_pos (by omega),Int.toNat_natCast]
 simp
theorem Rd(c:UInt8)(a:List UInt8)(h:c∉a):Lib.cut a [c]=(a,[],false):=by
 unfold Lib.cut
 rw[index_none c a h,if_neg (by omega)]
theorem Hn(c:UInt8)(x y:List UInt8)(r:List (List UInt8)):Lib.join (x::y::r) [c]=x++c::Lib.join (y::r) [c]:=by
 unfold Lib.join
 simp[List.intercalate]
theorem MV(c:UInt8):∀ (ws:List (List UInt8)),ws≠[]→(∀w∈ws,c∉w)→pieces c (Lib.join ws [c])=ws:=by
 intro ws
 induction ws with
 |nil=>intro h;exact absurd rfl h
 |cons x r ih=>
  intro _ h
  have hx:=h x (aoQ ..)
  cases r with
  |nil=>rw[Lib.join_one];exact jd x hx
  |cons y r=>rw[Hn,DH x _ hx,ih (by simp) (fun w hw=>h w (aoU _ hw))]
theorem MW(c:UInt8):∀ (n:Nat) (l:List UInt8),l.length≤n→Lib.join (pieces c l) [c]=l∧∀w∈pieces c l,c∉w:=by
 intro n
 induction n with
 |zero=>
  intro l h
  have:l=[]:=aoI.1 (by omega)
  subst this
  exact⟨by rw[jd [] (by simp),Lib.join_one],by rw[jd [] (by simp)];simp⟩
 |succ n ih=>
  intro l h
  rcases Cf c l with ⟨h1,h2⟩| ⟨a,b,rfl,h1,h2⟩
  ·rw[h2,Lib.join_one]
   exact⟨rfl,by simpa using h1⟩
  ·rw[h2]
   rw[aos,aop]at h
   obtain⟨i1,i2⟩:=ih b (by omega)
   cases hb:pieces c b with
   |nil=>exact absurd hb (JP c b)
   |cons p r=>
    rw[hb]at i1 i2
    refine⟨by rw[Hn,i1],fun w hw=>?_⟩
    rcases aoR.1 hw with rfl|hw
    ·exact h1
    ·exact i2 w hw
theorem Ho(c:UInt8)(l:List UInt8):Lib.join (pieces c l) [c]=l:=(MW c _ l (aox _)).1
theorem Re(c:UInt8):∀ (n:Nat) (l:List UInt8),l.length≤n→(∀w∈pieces c l,w.length≤l.length)∧(pieces c l).length≤l.length+1:=by
 intro n
 induction n with
 |zero=>
  intro l h
  have:l=[]:=aoI.1 (by omega)
  subst this
  rw[jd [] (by simp)]
  simp
 |succ n ih=>
  intro l h
  rcases Cf c l with ⟨h1,h2⟩| ⟨a,b,rfl,h1,h2⟩
  ·rw[h2];simp
  ·rw[h2]
   rw[aos,aop]at*
   obtain⟨i1,i2⟩:=ih b (by omega)
   refine⟨fun w hw=>?_,by rw[aop];omega⟩
   rcases aoR.1 hw with rfl|hw
   ·omega
   ·have:=i1 w hw;omega
end Go.Proofs.YtjkkkibiegfecaaGreatDoor
