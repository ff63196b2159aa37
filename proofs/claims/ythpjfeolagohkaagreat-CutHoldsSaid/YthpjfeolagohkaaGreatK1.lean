/- Texts put behind each other. -/
import Derived.Test.YthpjfeolagohkaaGreatK98
import Derived.Test.YthpjfeolagohkaaGreatK0
set_option maxRecDepth 100000
set_option maxHeartbeats 8000000
set_option linter.unusedVariables false
set_option linter.unusedSimpArgs false
namespace Go.Proofs.YthpjfeolagohkaaGreat
section
variable {α : Type} {e : α → E2} {w : α → Int}
theorem uN{T T':List α}(h:∀i∈T,i∈T'){t t':Int}(ht:t≤t'){u v:Nat}(hh:bR ((Lg w T t).map e) u v):bR ((Lg w T' t').map e) u v:=by
 refine kH (fun p hp=>?_) hh
 obtain⟨i,hi,rfl⟩:=aqK.1 hp
 obtain⟨h1,h2⟩:=arK.1 hi
 refine aqK.2 ⟨i,arK.2 ⟨h i h1,?_⟩,rfl⟩
 grind
theorem R0{T:List α}{i:α}(hi:i∈T){t:Int}(ht:w i≤t){u:Nat}(hu:Touch (e i) u):bR ((Lg w T t).map e) u (other (e i) u):=
 rI hu (aqK.2 ⟨i,by grind [Lg],rfl⟩)
structure kI(e:α→E2)(w:α→Int)(E T:List α)(o:List Nat)(k:Nat→Int)(wt:Nat→Prop)(b:Nat→α)(left:List α):Prop where
 EH:∀ (a c:Nat) (t:Int) (va vc:Nat),o[a]? =some va→o[c]? =some vc→a<c→(∀d,a<d→d≤c→k d≤t)→bR ((Lg w T t).map e) va vc
 wait:∀x,wt x→∃c vc,o[c]? =some vc∧b x∈E∧Touch (e (b x)) vc∧other (e (b x)) vc=x∧∀a,c<a→a<o.length→k a≤w (b x)
 wN:∀i∈E,∀a va,o[a]? =some va→Touch (e i) va→(a+1=o.length∧i∈left)∨other (e i) va∈o∨(wt (other (e i) va)∧w (b (other (e i) va))≤w i∧∀c,a<c→c<o.length→k c≤w i)
 loc:∀i∈E,(e i).1∈o→(e i).2∈o→bR ((Lg w T (w i)).map e) (e i).1 (e i).2
 out:∀x,wt x→x∉o
 nd:o.Nodup
theorem kI.begin{E T:List α}(k:Nat→Int)(b:Nat→α)(r:Nat):kI e w E T [r] k (fun _=>False) b E:=by
 refine⟨fun a c t va vc ha hc Ry _=>?_,fun x hx=>hx.elim,fun i hi a va ha ht=>?_,fun i hi h1 h2=>?_,fun x hx=>hx.elim,by simp⟩
 ·have:=(aqc.1 hc).1
  simp only[aqn]at this
  omega
 ·have:=(aqc.1 ha).1
  simp only[aqn]at this
  exact .inl ⟨by simp_all,hi⟩
 ·rw[aql]at h1 h2
  rw[h1,h2]
  rfl
theorem rJ{o:List Nat}{x a v:Nat}(h:(o++[x])[a]? =some v):(a<o.length∧o[a]? =some v)∨(a=o.length∧v=x):=by
 grind
theorem kI.enter{E T:List α}{o:List Nat}{k k':Nat→Int}{wt:Nat→Prop}{b:Nat→α}(P:kI e w E T o k wt b []){x:Nat}(hx:wt x)(UG:∀y,wt y→w (b x)≤w (b y))(hk:∀a,a<o.length→k' a=k a)(J0:k' o.length=w (b x)):
  kI e w E (T++[b x]) (o++[x]) k' (fun y=>wt y∧y≠x) b E:=by
 obtain⟨c,vc,hc,hbE,htc,hox,hbk⟩:=P.wait x hx
 have tQ:=(aqc.1 hc).1
 have J1:∀i∈T,i∈T++[b x]:=by grind
 have key:∀ (a:Nat) (t:Int) (va:Nat),o[a]? =some va→(∀d,a<d→d≤o.length→k' d≤t)→bR ((Lg w (T++[b x]) t).map e) va x:=by
  intro a
  induction a using Nat.strongRecOn with
  |_ a ih=>
   intro t va ha ht
   have XD:=(aqc.1 ha).1
   have XE:w (b x)≤t:=by rw[←J0];exact(by grind)
   have AI:bR ((Lg w (T++[b x]) t).map e) vc x:=by
    have:=R0 (e:=e) (w:=w) (T:=T++[b x]) (i:=b x) (by simp) XE htc
    grind
   rcases arA a c with h|h|h
   ·exact(uN J1 (arS t) (P.EH a c t va vc ha hc h (by grind))).trans AI
   ·grind
   ·have Ua:k a≤t:=Int.le_trans (hbk a h XD) XE
    obtain⟨a',rfl⟩:∃a',a=a'+1:=⟨a - 1,by omega⟩
    have ha':o[a']? =some (o[a']'(by omega)):=by grind
    have h1:=P.EH a' (a'+1) t _ va ha' ha (by omega) (by grind)
    refine(uN J1 (arS t) h1).symm.trans (ih a' (by omega) t _ ha' fun d h2 h3=>?_)
    by_cases hd:d=a'+1
    ·rw[hd,hk _ XD];exact Ua
    ·exact ht d (by omega) h3
 have UH:(o++[x]).length=o.length+1:=by simp
 refine⟨fun a d t va vd ha hd had ht=>?_,fun y hy=>?_,fun i hi a va ha tt=>?_,fun i hi h1 h2=>?_,fun y hy hm=>?_,?_⟩
 ·rcases rJ ha with ⟨R1,Z5⟩| ⟨R1,_⟩
  ·rcases rJ hd with ⟨hd1,kJ⟩| ⟨hd1,rfl⟩
   ·exact uN J1 (arS t) (P.EH a d t va vd Z5 kJ had (by grind))
   grind
  grind
 ·obtain⟨c2,v2,h1,h2,h3,h4,h5⟩:=P.wait y hy.1
  have hl:=(aqc.1 h1).1
  refine⟨c2,v2,by grind,h2,h3,h4,fun a R1 Z5=>?_⟩
  grind
 ·rcases rJ ha with ⟨R1,Z5⟩| ⟨R1,_⟩
  ·right
   rcases P.wN i hi a va Z5 tt with ⟨_,h⟩|h| ⟨h1,h2,h3⟩
   ·cases h
   ·grind
   grind
  grind
 ·have one:∀va,Touch (e i) va→va∈o→other (e i) va=x→bR ((Lg w (T++[b x]) (w i)).map e) va x:=fun va tt hm ho=>by
   obtain⟨a,ha⟩:=List.mem_iff_getElem?.1 hm
   rcases P.wN i hi a va ha tt with ⟨_,h⟩|h| ⟨g1,g2,g3⟩
   ·cases h
   ·rw[ho]at h
    exact absurd h (P.out x hx)
   grind
  rcases aqq.1 h1 with h1|h1
  ·rcases aqq.1 h2 with h2|h2
   ·exact uN J1 (arS _) (P.loc i hi h1 h2)
   ·rw[aql]at h2
    rw[h2]
    exact one _ (.inl rfl) h1 (by unfold other;omega)
  ·rw[aql]at h1
   rcases aqq.1 h2 with h2|h2
   ·rw[h1]
    exact(one _ (.inr rfl) h2 (by unfold other;omega)).symm
   ·rw[aql]at h2
    rw[h1,h2]
    rfl
 ·rcases aqq.1 hm with hm|hm
  ·exact P.out y hy.1 hm
  grind
 ·refine aqR.2 ⟨P.nd,by simp,fun y hy z hz e=>?_⟩
  rw[aql]at hz
  rw[e,hz]at hy
  exact P.out x hx hy
theorem kI.skip{E T:List α}{o:List Nat}{k:Nat→Int}{wt:Nat→Prop}{b:Nat→α}{i:α}{left:List α}(P:kI e w E T o k wt b (i::left)){v:Nat}(hv:o[o.length - 1]? =some v)(hs:∀u,Touch (e i) v→u=other (e i) v→u∈o∨(wt u∧w (b u)≤w i)):kI e w E T o k wt b left:=by
 refine⟨P.EH,P.wait,fun i' hi a va ha tt=>?_,P.loc,P.out,P.nd⟩
 rcases P.wN i' hi a va ha tt with ⟨h1,h2⟩|h|h
 ·grind
 ·grind
 grind
theorem kI.offer{E T:List α}{o:List Nat}{k:Nat→Int}{wt:Nat→Prop}{b:Nat→α}{i:α}{left:List α}(P:kI e w E T o k wt b (i::left)){v u:Nat}(hv:o[o.length - 1]? =some v)(hi:i∈E)(ht:Touch (e i) v)(hu:u=other (e i) v)(bO:u∉o)(aN:wt u→w i≤w (b u)):
  kI e w E T o k (fun y=>wt y∨y=u) (fun y=>if y=u then i else b y) left:=by
 have hl:=(aqc.1 hv).1
 refine⟨P.EH,fun y hy=>?_,fun i' hi' a va ha tt=>?_,P.loc,fun y hy=>?_,P.nd⟩
 ·by_cases hyu:y=u
  ·grind
  ·simp only[if_neg hyu]
   exact P.wait y (by grind)
 ·rcases P.wN i' hi' a va ha tt with ⟨h1,h2⟩|h| ⟨h1,h2,h3⟩
  ·grind
  ·grind
  grind
 ·rcases hy with hy|hy
  ·exact P.out y hy
  grind
theorem Qf{T:List α}{done:Nat→Prop}(ha:iQ (T.map e))(hT:∀i∈T,done (e i).1∧done (e i).2){i:α}{v:Nat}(ht:Touch (e i) v)(hv:done v)(hu:¬done (other (e i) v)):iQ ((T++[i]).map e):=by
 rw[aqy,aro,wq]
 refine⟨ha,fun h=>?_⟩
 have hq:=yY (Q:=fun a b=>a=b∨(done a∧done b)) (fun _=>.inl rfl) (by grind) (by grind) (by grind) h
 rcases ht with ht|ht
 ·have ho:other (e i) v=(e i).2:=by unfold other;omega
  grind
 ·have ho:other (e i) v=(e i).1:=by unfold other;omega
  grind
structure yn(e:α→E2)(w:α→Int)(E T:List α)(D:Nat→Prop):Prop where
 shut:∀i∈E,∀v,Touch (e i) v→D v→D (other (e i) v)
 loc:∀i∈E,D (e i).1→D (e i).2→bR ((Lg w T (w i)).map e) (e i).1 (e i).2
 AP:iQ (T.map e)
 ins:∀i∈T,i∈E∧D (e i).1∧D (e i).2
theorem yn.begin(E:List α):yn e w E [] (fun _=>False):=⟨fun _ _ _ _ h=>h,fun _ _ h=>h.elim,.nil,by simp⟩
theorem yn.over{E T T':List α}{D:Nat→Prop}{o:List Nat}{k:Nat→Int}{wt:Nat→Prop}{b:Nat→α}(h:yn e w E T D)(hs:∀i∈T,i∈T')(P:kI e w E T' o k wt b [])(h0:∀x,¬wt x)(ha:iQ (T'.map e))(bH:∀i∈T',i∈E∧(D (e i).1∨(e i).1∈o)∧(D (e i).2∨(e i).2∈o)):
  yn e w E T' (fun v=>D v∨v∈o):=by
 have Wm:∀i∈E,∀v,Touch (e i) v→v∈o→other (e i) v∈o:=fun i hi v ht hv=>by
  obtain⟨a,ha⟩:=List.mem_iff_getElem?.1 hv
  rcases P.wN i hi a v ha ht with ⟨_,h⟩|h| ⟨h,_⟩
  ·cases h
  ·exact h
  simp_all
 refine⟨fun i hi v ht hv=>hv.imp (h.shut i hi v ht) (Wm i hi v ht),fun i hi h1 h2=>?_,ha,bH⟩
 have e1:other (e i) (e i).1=(e i).2:=by unfold other;omega
 rcases h1 with h1|h1
 ·have:=h.shut i hi _ (.inl rfl) h1
  rw[e1]at this
  exact uN hs (arS _) (h.loc i hi h1 this)
 ·have:=Wm i hi _ (.inl rfl) h1
  rw[e1]at this
  exact P.loc i hi h1 this
theorem yn.XF{E T:List α}{D:Nat→Prop}(h:yn e w E T D)(hD:∀i∈E,D (e i).1∧D (e i).2):iQ (T.map e)∧(∀i∈T,i∈E)∧Loc e w E T∧∀i∈E,bR (T.map e) (e i).1 (e i).2:=by
 have hl:Loc e w E T:=fun i hi=>h.loc i hi (hD i hi).1 (hD i hi).2
 refine⟨h.AP,fun i hi=>(h.ins i hi).1,hl,fun i hi=>kH (fun p hp=>?_) (hl i hi)⟩
 obtain⟨j,hj,rfl⟩:=aqK.1 hp
 exact aqK.2 ⟨j,(arK.1 hj).1,rfl⟩
end
end Go.Proofs.YthpjfeolagohkaaGreat

namespace Go.Proofs.YthpjfeolagohkaaGreat
def bc{α:Type}(q:α→Bool):Nat→List α→List Int
 |_,[]=>[]
 |k,e::r=>(if q e then[(k:Int)]else[])++bc q (k+1) r
section
variable {α : Type}
theorem Qg(q:α→Bool)(e:α):∀ (l:List α) (k:Nat),bc q k (l++[e])=bc q k l++(if q e then[((k+l.length:Nat):Int)]else[]):=by
 intro l
 induction l with
 |nil=>intro k;simp[bc]
 |cons x l ih=>
  intro k
  rw[are,bc,ih,bc,arz,aqx,show k+1+l.length=k+(l.length+1) by omega]
theorem CM(q:α→Bool){l:List α}{j:Nat}{e:α}(h:l[j]? =some e):bc q 0 (l.take (j+1))=bc q 0 (l.take j)++(if q e then[(j:Int)]else[]):=by
 have hj:=(aqc.1 h).1
 rw[aqS,h]
 show bc q 0 (l.take j++[e])=_
 rw[Qg,aqO,arJ (by omega),aqa]
theorem F6(q:α→Bool):∀ (l:List α) (k:Nat) (x:Int),x∈bc q k l↔∃ (i:Nat) (e:α),l[i]? =some e∧q e=true∧x=((k+i:Nat):Int):=by
 intro l
 induction l with
 |nil=>intro k x;simp[bc]
 |cons e l ih=>
  intro k x
  rw[bc,aqq,ih]
  constructor
  ·rintro(h| ⟨i,e',h1,h2,h3⟩)
   ·split at h
    ·exact⟨0,e,rfl,by assumption,by rw[aql.1 h];simp⟩
    ·cases h
   ·exact⟨i+1,e',by simpa using h1,h2,by rw[h3];congr 1;omega⟩
  ·rintro⟨i,e',h1,h2,h3⟩
   cases i with
   |zero=>
    left
    simp only[aqE,aqk]at h1
    subst h1
    rw[if_pos h2,h3];simp
   |succ i=>right;exact⟨i,e',by simpa using h1,h2,by rw[h3];congr 1;omega⟩
theorem Lw(q:α→Bool):∀ (l:List α) (k:Nat),(bc q k l).Pairwise (· < ·):=by
 intro l
 induction l with
 |nil=>intro k;exact List.Pairwise.nil
 |cons e l ih=>
  intro k
  rw[bc,List.pairwise_append]
  refine⟨by split<;>simp,ih (k+1),fun a ha b hb=>?_⟩
  split at ha
  ·rw[aql]at ha
   obtain⟨i,_,_,_,h⟩:=(F6 q l (k+1) b).1 hb
   omega
  ·cases ha
theorem qi(q:α→Bool):∀ (l:List α) (k:Nat),(bc q k l).length≤l.length:=by
 intro l
 induction l with
 |nil=>intro k;simp[bc]
 |cons e l ih=>
  intro k
  rw[bc,aqj,aqx]
  have:=ih (k+1)
  split<;>simp<;>omega
theorem UI(p q:α→Bool)(l:List α)(k:Nat)(hd:∀e∈l,¬ (p e=true∧q e=true)):(bc p k l++bc q k l).mergeSort (fun x y=>decide (x≤y))=bc (fun e=>p e || q e) k l:=by
 have abz:∀ (l:List α) (k:Nat),(∀e∈l,¬ (p e=true∧q e=true))→(bc p k l++bc q k l).Perm (bc (fun e=>p e || q e) k l):=by
  intro l
  induction l with
  |nil=>intro k _;exact .refl _
  |cons e l ih=>
   intro k hd
   have hi:=ih (k+1) fun x hx=>hd x (aq1 _ hx)
   have h0:=hd e (aq9 ..)
   rw[bc,bc,bc]
   cases hp:p e<;>cases hq:q e
   ·simpa using hi
   ·simp only[ara,if_false,aq3,if_true,Bool.or_true,List.singleton_append]
    exact ar5.trans (hi.cons _)
   ·simp only[ara,if_false,aq3,if_true,Bool.or_false,List.singleton_append,are]
    exact hi.cons _
   ·exact absurd ⟨hp,hq⟩ h0
 refine List.Perm.eq_of_pairwise (le:=fun x y:Int=>x≤y) (fun a b _ _ h1 h2=>by omega) ?_ ?_ ((List.mergeSort_perm _ _).trans (abz l k hd))
 ·have:=List.pairwise_mergeSort (le:=fun x y:Int=>decide (x≤y)) (fun a b c h1 h2=>by simp only[aqI]at*;omega) (fun a b=>by simp;omega) (bc p k l++bc q k l)
  exact this.imp fun h=>by simpa using h
 ·exact(Lw _ l k).imp fun h=>by omega
end
end Go.Proofs.YthpjfeolagohkaaGreat
