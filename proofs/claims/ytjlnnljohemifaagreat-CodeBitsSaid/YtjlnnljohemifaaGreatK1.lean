/- Texts put behind each other. -/
import Derived.Test.YtjlnnljohemifaaGreatK98
set_option maxRecDepth 100000
set_option maxHeartbeats 8000000
set_option linter.unusedVariables false
set_option linter.unusedSimpArgs false
namespace Go.Proofs.YtjlnnljohemifaaGreat
def bf{α:Type}(q:α→Bool):Nat→List α→List Int
 |_,[]=>[]
 |k,e::r=>(if q e then[(k:Int)]else[])++bf q (k+1) r
section
variable {α : Type}
theorem OR(q:α→Bool)(e:α):∀ (l:List α) (k:Nat),bf q k (l++[e])=bf q k l++(if q e then[((k+l.length:Nat):Int)]else[]):=by
 intro l
 induction l with
 |nil=>intro k;simp[bf]
 |cons x l ih=>
  intro k
  rw[aoD,bf,ih,bf,apq,anO,show k+1+l.length=k+(l.length+1) by omega]
theorem BI(q:α→Bool){l:List α}{j:Nat}{e:α}(h:l[j]? =some e):bf q 0 (l.take (j+1))=bf q 0 (l.take j)++(if q e then[(j:Int)]else[]):=by
 have hj:=(anu.1 h).1
 rw[aoa,h]
 show bf q 0 (l.take j++[e])=_
 rw[OR,aoj,aoQ (by omega),ant]
theorem ET(q:α→Bool):∀ (l:List α) (k:Nat) (x:Int),x∈bf q k l↔∃ (i:Nat) (e:α),l[i]? =some e∧q e=true∧x=((k+i:Nat):Int):=by
 intro l
 induction l with
 |nil=>intro k x;simp[bf]
 |cons e l ih=>
  intro k x
  rw[bf,anH,ih]
  constructor
  ·rintro(h| ⟨i,e',h1,h2,h3⟩)
   ·split at h
    ·exact⟨0,e,rfl,by assumption,by rw[anC.1 h];simp⟩
    ·cases h
   ·exact⟨i+1,e',by simpa using h1,h2,by rw[h3];congr 1;omega⟩
  ·rintro⟨i,e',h1,h2,h3⟩
   cases i with
   |zero=>
    left
    simp only[anY,anE]at h1
    subst h1
    rw[if_pos h2,h3];simp
   |succ i=>right;exact⟨i,e',by simpa using h1,h2,by rw[h3];congr 1;omega⟩
theorem J7(q:α→Bool):∀ (l:List α) (k:Nat),(bf q k l).Pairwise (· < ·):=by
 intro l
 induction l with
 |nil=>intro k;exact List.Pairwise.nil
 |cons e l ih=>
  intro k
  rw[bf,apk]
  refine⟨by split<;>simp,ih (k+1),fun a ha b hb=>?_⟩
  split at ha
  ·rw[anC]at ha
   obtain⟨i,_,_,_,h⟩:=(ET q l (k+1) b).1 hb
   omega
  ·cases ha
theorem pq(q:α→Bool):∀ (l:List α) (k:Nat),(bf q k l).length≤l.length:=by
 intro l
 induction l with
 |nil=>intro k;simp[bf]
 |cons e l ih=>
  intro k
  rw[bf,anD,anO]
  have:=ih (k+1)
  split<;>simp<;>omega
theorem Th(p q:α→Bool)(l:List α)(k:Nat)(hd:∀e∈l,¬ (p e=true∧q e=true)):(bf p k l++bf q k l).mergeSort (fun x y=>decide (x≤y))=bf (fun e=>p e || q e) k l:=by
 have ZL:∀ (l:List α) (k:Nat),(∀e∈l,¬ (p e=true∧q e=true))→(bf p k l++bf q k l).Perm (bf (fun e=>p e || q e) k l):=by
  intro l
  induction l with
  |nil=>intro k _;exact .refl _
  |cons e l ih=>
   intro k hd
   have hi:=ih (k+1) fun x hx=>hd x (anZ _ hx)
   have h0:=hd e (aok ..)
   rw[bf,bf,bf]
   cases hp:p e<;>cases hq:q e
   ·simpa using hi
   ·simp only[aox,if_false,aoB,if_true,Bool.or_true,List.singleton_append]
    exact apw.trans (hi.cons _)
   ·simp only[aox,if_false,aoB,if_true,Bool.or_false,List.singleton_append,aoD]
    exact hi.cons _
   ·exact absurd ⟨hp,hq⟩ h0
 refine List.Perm.eq_of_pairwise (le:=fun x y:Int=>x≤y) (fun a b _ _ h1 h2=>by omega) ?_ ?_ ((List.mergeSort_perm _ _).trans (ZL l k hd))
 ·have:=List.pairwise_mergeSort (le:=fun x y:Int=>decide (x≤y)) (fun a b c h1 h2=>by simp only[anU]at*;omega) (fun a b=>by simp;omega) (bf p k l++bf q k l)
  exact this.imp fun h=>by simpa using h
 ·exact(J7 _ l k).imp fun h=>by omega
end
end Go.Proofs.YtjlnnljohemifaaGreat
