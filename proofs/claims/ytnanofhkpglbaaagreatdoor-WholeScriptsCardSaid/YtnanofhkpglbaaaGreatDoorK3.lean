/- Texts put behind each other. -/
import Derived.Test.YtnanofhkpglbaaaGreatDoorK98
import Derived.Lib.Split
import Derived.Lib.SplitLaws
import Derived.Lib.Join
set_option linter.unusedSimpArgs false
set_option linter.unusedVariables false
set_option maxRecDepth 100000
set_option maxHeartbeats 80000000
namespace Go.Proofs.YtnanofhkpglbaaaGreatDoor
open Go
def pieces(c:UInt8):List UInt8->List (List UInt8)
 | []=>[[]]
 |x::l=>if x=c then[]::pieces c l else match pieces c l with
  | []=>[[x]]
  |p::r=>(x::p)::r
theorem zV(c:UInt8):∀l,pieces c l≠[]:=by
 intro l;cases l with
 |nil=>simp[pieces]
 |cons x l=>
  grind [pieces]
theorem n9{c:UInt8}(a b:List UInt8)(h:c∉a):pieces c (a++c::b)=a::pieces c b:=by
 induction a with
 |nil=>simp[pieces]
 |cons x a z=>
  grind [pieces.eq_2]
theorem fU{c:UInt8}(a:List UInt8)(h:c∉a):pieces c a=[a]:=by
 induction a with
 |nil=>rfl
 |cons x a z=>
  grind [pieces.eq_2]
theorem ya(c:UInt8)(l:List UInt8):(c∉l/\pieces c l=[l])\/∃a b,l=a++c::b/\c∉a/\pieces c l=a::pieces c b:=by
 by_cases h:c∈l
 ·obtain⟨a,b,rfl,x⟩:=List.eq_append_cons_of_mem h;grind [n9]
 ·exact .inl ⟨h,fU l h⟩
theorem index_one(c:UInt8)(b:List UInt8):∀ (a:List UInt8),c∉a->Lib.index (a++c::b) [c]=(a.length:Int):=by
 intro a;induction a with
 |nil=>intro _;simp[Lib.index,List.isPrefixOf]
 |cons x a n=>
  intro h;have l:(c==x)=false:=by
   rw[beq_eq_false_iff_ne];exact Z
  have z:=n (fun hm=>h (alT _ hm));have w:([c]:List UInt8).isPrefixOf (x::(a++c::b))=false:=by simp[List.isPrefixOf,l]
  rw[alX,Lib.index,w,z];rfl
theorem index_none(c:UInt8):∀ (a:List UInt8),c∉a->Lib.index a [c]= -1:=by
 intro a;induction a with
 |nil=>intro _;rfl
 |cons x a n=>
  intro h;have l:(c==x)=false:=by
   rw[beq_eq_false_iff_ne];exact Z
  have z:=n (fun hm=>h (alT _ hm));have w:([c]:List UInt8).isPrefixOf (x::a)=false:=by simp[List.isPrefixOf,l]
  rw[Lib.index,w,z];simp
theorem Fm(c:UInt8):∀ (n:Nat) (l:List UInt8),l.count c=n->Lib.splitK [c] 0 n l=pieces c l:=by
 intro n;induction n with
 |zero=>
  intro l h;rw[fU l Z];rfl
 |succ n z=>
  intro l h;have hm:c∈l:=Z;obtain⟨a,b,rfl,x⟩:=List.eq_append_cons_of_mem hm;have w:(a++c::b).count c=b.count c+1:=by
   rw[amR,List.count_eq_zero.2 x,List.count_cons_self];omega
  unfold Lib.splitK;rw[index_one c b a x,if_neg Z,Int.toNat_natCast,n9 a b x,<-z b O];simp
theorem HD(c:UInt8)(l:List UInt8):Lib.splitK [c] 0 (Lib.count l [c]) l=pieces c l:=by
 rw[Lib.count_one];exact Fm c _ l rfl
theorem Rt(c:UInt8)(a b:List UInt8)(h:c∉a):Lib.cut (a++c::b) [c]=(a,b,true):=by
 unfold Lib.cut;rw[index_one c b a h,if_pos O,Int.toNat_natCast];simp
theorem Nn(c:UInt8)(a:List UInt8)(h:c∉a):Lib.cut a [c]=(a,[],false):=by
 unfold Lib.cut;grind [index_none]
theorem yb(c:UInt8)(x y:List UInt8)(r:List (List UInt8)):Lib.join (x::y::r) [c]=x++c::Lib.join (y::r) [c]:=by
 rfl
theorem JJ(c:UInt8):∀ (ws:List (List UInt8)),ws≠[]->(∀w∈ws,c∉w)->pieces c (Lib.join ws [c])=ws:=by
 intro ws;induction ws with
 |nil=>grind
 |cons x r l=>
  intro _ h;have z:=h x (alS ..);cases r with
  |nil=>rw[Lib.join_one];exact fU x z
  |cons y r=>grind [yb,n9]
theorem JK(c:UInt8):∀ (n:Nat) (l:List UInt8),l.length<=n->Lib.join (pieces c l) [c]=l/\∀w∈pieces c l,c∉w:=by
 intro n;induction n with
 |zero=>
  intro l h;have:l=[]:=Z;subst this;exact⟨by rfl,by rw[fU [] (by simp)];simp⟩
 |succ n v=>
  intro l h;rcases ya c l with ⟨z,x⟩| ⟨a,b,rfl,z,x⟩
  ·rw[x,Lib.join_one];grind
  ·rw[x];rw[alm,alk]at h;obtain⟨e,g⟩:=v b O;cases m:pieces c b with
   |nil=>exact absurd m (zV c b)
   |cons p r=>
    grind [yb]
theorem lV(c:UInt8)(l:List UInt8):Lib.join (pieces c l) [c]=l:=(JK c _ l (alj _)).1
theorem tE(c:UInt8):∀ (n:Nat) (l:List UInt8),l.length<=n->(∀w∈pieces c l,w.length<=l.length)/\(pieces c l).length<=l.length+1:=by
 intro n;induction n with
 |zero=>
  grind [fU]
 |succ n m=>
  intro l h;rcases ya c l with ⟨x,z⟩| ⟨a,b,rfl,x,z⟩
  ·grind
  grind
end Go.Proofs.YtnanofhkpglbaaaGreatDoor
