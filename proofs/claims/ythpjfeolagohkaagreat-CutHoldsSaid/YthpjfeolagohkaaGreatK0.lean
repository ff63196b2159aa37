/- Texts put behind each other. -/
import Derived.Test.YthpjfeolagohkaaGreatK98
set_option maxRecDepth 100000
set_option maxHeartbeats 8000000
set_option linter.unusedVariables false
set_option linter.unusedSimpArgs false
namespace Go.Proofs.YthpjfeolagohkaaGreat
abbrev E2:=Nat×Nat
def Jh(p:Nat→Nat)(e:E2):Nat→Nat:=fun v=>if p v=max (p e.1) (p e.2)then min (p e.1) (p e.2)else p v
def bj(ks:List E2):Nat→Nat:=ks.foldl Jh id
theorem Ji:bj []=id:=rfl
theorem yX(ks:List E2)(e:E2):bj (ks++[e])=Jh (bj ks) e:=by unfold bj;grind
theorem wh{α:Type}{P:List α→Prop}(h0:P [])(h1:∀l x,P l→P (l++[x])):∀l,P l:=by
 intro l
 have:∀r:List α,P r.reverse:=by
  intro r
  induction r with
  |nil=>exact h0
  |cons x r ih=>grind
 have:=this l.reverse
 grind
theorem Jj:∀ks:List E2,(∀v,bj ks v≤v)∧∀v,bj ks (bj ks v)=bj ks v:=by
 refine wh ⟨fun v=>aqm _,fun v=>rfl⟩ fun ks e ⟨h1,h2⟩=>?_
 rw[yX]
 constructor
 ·intro v
  unfold Jh
  grind
 ·intro v
  have a:=h2 v
  have b:=h2 e.1
  have c:=h2 e.2
  unfold Jh
  grind
theorem AM(ks:List E2)(v:Nat):bj ks v≤v:=(Jj ks).1 v
theorem nm(ks:List E2)(v:Nat):bj ks (bj ks v)=bj ks v:=(Jj ks).2 v
def bR(ks:List E2)(u v:Nat):Prop:=bj ks u=bj ks v
theorem bR.rfl{ks:List E2}{u:Nat}:bR ks u u:=Eq.refl _
theorem bR.symm{ks:List E2}{u v:Nat}(h:bR ks u v):bR ks v u:=Eq.symm h
theorem bR.trans{ks:List E2}{u v x:Nat}(h:bR ks u v)(k:bR ks v x):bR ks u x:=Eq.trans h k
theorem Jk(ks:List E2)(v:Nat):bR ks (bj ks v) v:=nm ks v
instance(ks:List E2)(u v:Nat):Decidable (bR ks u v):=inferInstanceAs (Decidable (_=_))
theorem qh(ks:List E2)(e:E2)(u v:Nat):bR (ks++[e]) u v↔bR ks u v∨(bR ks u e.1∧bR ks v e.2)∨(bR ks u e.2∧bR ks v e.1):=by
 unfold bR
 rw[yX]
 unfold Jh
 grind
theorem kG{ks:List E2}{e:E2}(h:e∈ks):bR ks e.1 e.2:=by
 revert h
 refine wh (P:=fun ks=>e∈ks→bR ks e.1 e.2) (by simp) (fun ks x ih h=>?_) ks
 rw[qh]
 rcases aqq.1 h with h|h
 ·grind
 ·rw[aql]at h
  subst h
  exact .inr (.inl ⟨bR.rfl,bR.rfl⟩)
theorem yY{ks:List E2}{Q:Nat→Nat→Prop}(hr:∀u,Q u u)(hs:∀u v,Q u v→Q v u)(ht:∀u v x,Q u v→Q v x→Q u x)(he:∀e∈ks,Q e.1 e.2){u v:Nat}(h:bR ks u v):Q u v:=by
 revert he u v
 refine wh (P:=fun ks=>(∀e∈ks,Q e.1 e.2)→∀ {u v:Nat},bR ks u v→Q u v) ?_ ?_ ks
 ·intro _ u v h
  have:u=v:=h
  grind
 ·intro ks x ih he u v h
  have ih':=fun{u v}=>@ih (fun e h=>by grind) u v
  have hx:=he x (by simp)
  rw[qh]at h
  grind
theorem jZ{ks wk:List E2}(h:∀e∈ks,bR wk e.1 e.2){u v:Nat}(k:bR ks u v):bR wk u v:=
 yY (fun _=>bR.rfl) (fun _ _=>bR.symm) (fun _ _ _=>bR.trans) h k
theorem kH{ks wk:List E2}(h:∀e∈ks,e∈wk){u v:Nat}(k:bR ks u v):bR wk u v:=jZ (fun e he=>kG (h e he)) k
theorem uJ{ks wk:List E2}(h:∀u v,bR ks u v↔bR wk u v):bj ks=bj wk:=by
 funext v
 have h1:bR wk (bj ks v) v:=(h _ _).1 (Jk ks v)
 have h2:bR ks (bj wk v) v:=(h _ _).2 (Jk wk v)
 have a1:bj wk (bj ks v)=bj wk v:=h1
 have a2:bj ks (bj wk v)=bj ks v:=h2
 have:=AM wk (bj ks v)
 have:=AM ks (bj wk v)
 omega
def cls(n:Nat)(ks:List E2):Nat:=((List.range n).filter fun v=>bj ks v==v).length
inductive iQ:List E2→Prop
 |nil:iQ []
 |snoc (ks:List E2) (e:E2) (h:iQ ks) (he:¬bR ks e.1 e.2):iQ (ks++[e])
theorem wq{ks:List E2}{e:E2}:iQ (ks++[e])↔iQ ks∧¬bR ks e.1 e.2:=by
 constructor
 ·intro h
  generalize hk:ks++[e]=l at h
  cases h with
  |nil=>simp at hk
  |snoc wk e' h he=>
   simp_all
 ·rintro⟨h,he⟩;exact .snoc ks e h he
theorem FU{n:Nat}{ks:List E2}{e:E2}(h1:e.1<n)(h2:e.2<n)(hn:¬bR ks e.1 e.2):cls n (ks++[e])+1=cls n ks:=by
 unfold cls
 have hm:max (bj ks e.1) (bj ks e.2)<n:=by have:=AM ks e.1;have:=AM ks e.2;omega
 have aR:bj ks e.1≠bj ks e.2:=hn
 have Pg:bj ks (max (bj ks e.1) (bj ks e.2))=max (bj ks e.1) (bj ks e.2):=by
  rcases Nat.le_total (bj ks e.1) (bj ks e.2)with h|h
  ·rw[Nat.max_eq_right h];exact nm ks _
  ·rw[Nat.max_eq_left h];exact nm ks _
 generalize hM:max (bj ks e.1) (bj ks e.2)=M at*
 have hq:∀v,(bj (ks++[e]) v==v)=((bj ks v==v) && !(v==M)):=by
  intro v
  rw[yX]
  unfold Jh
  rw[hM]
  by_cases hv:bj ks v=M
  ·rw[if_pos hv]
   by_cases hvM:v=M
   ·have:¬ (min (bj ks e.1) (bj ks e.2)=v):=by omega
    simp[hvM];omega
   ·have h3:¬ (bj ks v=v):=by omega
    have h4:min (bj ks e.1) (bj ks e.2)≠v:=by
     intro h
     have:bj ks v=v:=by
      rw[←h]
      rcases Nat.le_total (bj ks e.1) (bj ks e.2)with h|h
      ·rw[arJ h];exact nm ks _
      ·rw[Nat.min_eq_right h];exact nm ks _
     exact h3 this
    rw[beq_eq_false_iff_ne.2 h4,beq_eq_false_iff_ne.2 h3];rfl
  ·rw[if_neg hv]
   have:v≠M:=fun h=>hv (by rw[h];exact Pg)
   simp[this]
 have Xw:∀l:List Nat,l.Nodup→M∈l→(l.filter fun v=>bj (ks++[e]) v==v).length+1=(l.filter fun v=>bj ks v==v).length:=by
  intro l
  induction l with
  |nil=>intro _ h;cases h
  |cons x l ih=>
   intro gI bq
   rw[aqu]at gI
   rw[List.filter_cons,List.filter_cons,hq]
   by_cases hx:x=M
   ·subst hx
    have Eh:(l.filter fun v=>bj (ks++[e]) v==v)=(l.filter fun v=>bj ks v==v):=by
     apply List.filter_congr
     intro y hy
     rw[hq]
     have:y≠x:=fun h=>gI.1 (h▸hy)
     simp[this]
    rw[Eh]
    simp[Pg]
   ·have hm':M∈l:=by
     rcases aqC.1 bq with h|h
     ·exact absurd h.symm hx
     ·exact h
    have:=ih gI.2 hm'
    rw[beq_eq_false_iff_ne.2 hx,ars,Bool.and_true]
    cases(bj ks x==x)<;>simp<;>omega
 exact Xw _ List.nodup_range (arl.2 hm)
theorem uK{n:Nat}:∀ {ks:List E2},iQ ks→(∀e∈ks,e.1<n∧e.2<n)→cls n ks+ks.length=n:=by
 intro ks h
 induction h with
 |nil=>intro _;unfold cls;rw[Ji,ar6.2 (by grind)];simp
 |snoc ks e h he ih=>
  intro hb
  have h1:=ih fun x hx=>by grind
  obtain⟨h2,h3⟩:=hb e (by simp)
  have:=FU h2 h3 he
  grind
theorem Lr{ks wk:List E2}(h:iQ ks)(hs:wk.Sublist ks):iQ wk:=by
 induction h generalizing wk with
 |nil=>rw[List.sublist_nil.1 hs];exact .nil
 |snoc ks e h he ih=>
  rcases List.sublist_append_iff.1 hs with ⟨l1,l2,rfl,h1,h2⟩
  have hl:=ih h1
  rcases l2 with _| ⟨x,l2⟩
  ·simpa using hl
  ·have h3:=h2.length_le
   simp at h3
   subst h3
   have:x=e:=by
    have:=h2.subset (aql.2 rfl)
    simpa using this
   subst this
   exact .snoc _ _ hl fun hh=>he (kH (fun y hy=>h1.subset hy) hh)
theorem CI{ks wk:List E2}(h:ks.Perm wk)(u v:Nat):bR ks u v↔bR wk u v:=⟨kH (by grind),kH (by grind)⟩
def Lf(A:List Int)(t:Int):Nat:=(A.filter fun x=>decide (x≤t)).length
section
variable {α : Type} (e : α → E2) (w : α → Int)
def Lg(T:List α)(t:Int):List α:=T.filter fun i=>decide (w i≤t)
def Loc(E T:List α):Prop:=∀i∈E,bR ((Lg w T (w i)).map e) (e i).1 (e i).2
variable {e w}
theorem RV{n:Nat}{E T:List α}(hs:∀i∈T,i∈E)(ha:iQ (T.map e))(hb:∀i∈E,(e i).1<n∧(e i).2<n)(hh:∀i∈E,bR (T.map e) (e i).1 (e i).2):cls n (E.map e)+T.length=n:=by
 have h1:=uK (n:=n) ha (by grind)
 have h2:∀u v,bR (E.map e) u v↔bR (T.map e) u v:=fun u v=>⟨jZ (by grind),kH (by grind)⟩
 have h3:cls n (E.map e)=cls n (T.map e):=by unfold cls;rw[uJ h2]
 grind
end
section
variable {α : Type} {e : α → E2}
theorem Qa{n:Nat}{T R:List α}{i:α}(ha:iQ (T.map e))(hb:∀j∈T,(e j).1<n∧(e j).2<n)(h:T.Perm (i::R))(hs:R.Sublist T):¬bR (R.map e) (e i).1 (e i).2:=by
 intro hh
 have h1:=uK (n:=n) ha (by grind)
 have h2:=uK (n:=n) (Lr ha (hs.map e)) (by grind)
 have h3:cls n (T.map e)=cls n (R.map e):=by
  unfold cls
  rw[uJ fun u v=>?_]
  refine⟨jZ fun x hx=>?_,kH fun x hx=>?_⟩
  ·obtain⟨j,hj,rfl⟩:=aqK.1 hx
   rcases aqC.1 (h.mem_iff.1 hj)with rfl|hj
   ·exact hh
   ·exact kG (by grind)
  ·grind
 have h4:=h.length_eq
 grind
def but(T:List α)(k:Nat):List α:=T.take k++T.drop (k+1)
theorem UA(T:List α)(k:Nat):(but T k).Sublist T:=by
 unfold but
 conv=>rhs;rw[←arF k T]
 grind
theorem FV{T:List α}{k:Nat}{i:α}(h:T[k]? =some i):T.Perm (i::but T k):=by
 obtain⟨hk,rfl⟩:=aqc.1 h
 unfold but
 conv=>lhs;rw[←arF k T,aq7 hk]
 exact ar5
def Sep(e:α→E2)(T:List α)(k:Nat)(u v:Nat):Prop:=¬bR ((but T k).map e) u v
def Touch(p:E2)(u:Nat):Prop:=p.1=u∨p.2=u
def other(p:E2)(u:Nat):Nat:=p.1+p.2 - u
inductive Way(e:α→E2):Nat→Nat→List α→Prop
 |nil (u:Nat):Way e u u []
 |cons (u v:Nat) (i:α) (l:List α) (t:Touch (e i) u) (h:Way e (other (e i) u) v l):Way e u v (i::l)
theorem rI{ks:List E2}{p:E2}{u:Nat}(t:Touch p u)(h:p∈ks):bR ks u (other p u):=by
 unfold other
 rcases t with t|t
 ·subst t;rw[show p.1+p.2 - p.1=p.2 by omega];exact kG h
 ·subst t;rw[show p.1+p.2 - p.2=p.1 by omega];exact(kG h).symm
theorem Way.EH{u v:Nat}{l:List α}(h:Way e u v l){R:List α}(hs:∀i∈l,i∈R):bR (R.map e) u v:=by
 induction h with
 |nil u=>rfl
 |cons u v i l t h ih=>exact(rI t (by grind)).trans (by grind)
theorem Way.RW{u v x:Nat}{l l':List α}(h:Way e u v l)(h':Way e v x l'):Way e u x (l++l'):=by
 induction h with
 |nil u=>exact h'
 |cons u v i l t h ih=>exact .cons _ _ _ _ t (ih h')
theorem oM{p:E2}{u:Nat}(t:Touch p u):Touch p (other p u)∧other p (other p u)=u:=by
 unfold other Touch at*
 omega
theorem Way.rev{u v:Nat}{l:List α}(h:Way e u v l):Way e v u l.reverse:=by
 induction h with
 |nil u=>exact .nil u
 |cons u v i l t h ih=>
  rw[List.reverse_cons]
  obtain⟨t1,t2⟩:=oM t
  exact ih.RW (.cons _ _ _ _ t1 (by rw[t2];exact .nil u))
theorem Way.sep{n:Nat}{T:List α}(ha:iQ (T.map e))(hb:∀j∈T,(e j).1<n∧(e j).2<n){u v:Nat}{l:List α}(h:Way e u v l)(hs:∀i∈l,i∈T)(hn:l.Nodup){k:Nat}{i:α}(hi:T[k]? =some i)(hl:i∈l):
  Sep e T k u v:=by
 intro hh
 have hr:=Qa ha hb (FV hi) (UA T k)
 have inb:∀j,j∈T→j≠i→j∈but T k:=fun j hj aR=>by
  rcases aqC.1 ((FV hi).mem_iff.1 hj)with h|h
  ·grind
  omega
 have key:∀ {u v:Nat} {l:List α},Way e u v l→(∀j∈l,j∈T)→l.Nodup→i∈l→bR ((but T k).map e) u v→False:=by
  intro u v l h
  induction h with
  |nil u=>grind
  |cons u v j l t h ih=>
   intro hs hn hl hh
   rw[aqu]at hn
   rcases aqC.1 hl with rfl|hl
   ·have h2:=h.EH (R:=but T k) (by grind)
    have h3:=hh.trans h2.symm
    unfold other at h3
    rcases t with t|t
    ·grind
    ·subst t;rw[show(e i).1+(e i).2 - (e i).2=(e i).1 by omega]at h3;exact hr h3.symm
   ·have aR:j≠i:=by grind
    have h1:=rI t (aqK.2 ⟨j,inb j (hs j (by simp)) aR,rfl⟩)
    exact ih (by grind) hn.2 hl (h1.symm.trans hh)
 grind
end
end Go.Proofs.YthpjfeolagohkaaGreat

namespace Go.Proofs.YthpjfeolagohkaaGreat
theorem Xx{n:Nat}:∀ks:List E2,(∀e∈ks,e.1<n∧e.2<n)→n≤cls n ks+ks.length:=by
 refine wh (fun _=>?_) fun ks e ih hb=>?_
 ·unfold cls;rw[Ji,ar6.2 (by grind)];simp
 ·have h1:=ih fun x hx=>by grind
  obtain⟨h2,h3⟩:=hb e (by simp)
  rw[aqj,aqn]
  by_cases hh:bR ks e.1 e.2
  ·have:cls n (ks++[e])=cls n ks:=by
    unfold cls
    rw[uJ fun u v=>(qh ks e u v).trans ⟨fun h=>?_,fun h=>.inl h⟩]
    rcases h with h| ⟨h1,h2⟩| ⟨h1,h2⟩
    ·exact h
    ·exact h1.trans (hh.trans h2.symm)
    ·exact h1.trans (hh.symm.trans h2.symm)
   omega
  ·have:=FU h2 h3 hh
   omega
theorem Ls{n:Nat}:∀ks:List E2,(∀e∈ks,e.1<n∧e.2<n)→(iQ ks↔cls n ks+ks.length=n):=by
 intro ks hb
 refine⟨fun h=>uK h hb,?_⟩
 revert hb
 refine wh (P:=fun ks=>(∀e∈ks,e.1<n∧e.2<n)→cls n ks+ks.length=n→iQ ks) (fun _ _=>.nil) (fun ks e ih hb hc=>?_) ks
 have lI:=fun x hx=>hb x (aqH _ hx)
 obtain⟨h2,h3⟩:=hb e (by simp)
 have Nv:=Xx ks lI
 rw[aqj,aqn]at hc
 by_cases hh:bR ks e.1 e.2
 ·exfalso
  have:cls n (ks++[e])=cls n ks:=by
   unfold cls
   rw[uJ fun u v=>(qh ks e u v).trans ⟨fun h=>?_,fun h=>.inl h⟩]
   rcases h with h| ⟨h1,h2⟩| ⟨h1,h2⟩
   ·exact h
   ·exact h1.trans (hh.trans h2.symm)
   ·exact h1.trans (hh.symm.trans h2.symm)
  omega
 ·have:=FU h2 h3 hh
  exact .snoc _ _ (ih lI (by omega)) hh
theorem Qb{n:Nat}{ks wk:List E2}(hp:ks.Perm wk)(hb:∀e∈ks,e.1<n∧e.2<n)(h:iQ ks):iQ wk:=by
 rw[Ls (n:=n) wk (by grind)]
 have h1:=(Ls ks hb).1 h
 have h2:cls n wk=cls n ks:=by unfold cls;rw[uJ fun u v=>(CI hp u v).symm]
 rw[h2,←hp.length_eq]
 exact h1
section
variable {α : Type} {e : α → E2} {w : α → Int}
theorem Nx:∀ {T:List α},iQ (T.map e)→T.Nodup:=by
 intro T
 refine wh (P:=fun T=>iQ (T.map e)→T.Nodup) (fun _=>by simp) (fun T i ih h=>?_) T
 rw[aqy,aro,wq]at h
 rw[aqR]
 refine⟨ih h.1,by simp,fun x hx y hy Lh=>?_⟩
 rw[aql]at hy
 subst hy;subst Lh
 exact h.2 (kG (by grind))
theorem UB{n:Nat}{T:List α}(ha:iQ (T.map e))(hb:∀j∈T,(e j).1<n∧(e j).2<n){u v:Nat}{l:List α}(h:Way e u v l)(hs:∀i∈l,i∈T)(hn:l.Nodup)(t:Int):
  (∀i∈l,w i≤t)↔bR ((Lg w T t).map e) u v:=by
 constructor
 ·intro hl
  exact h.EH (by grind [Lg])
 ·intro hh i hi
  apply aqt
  intro hw
  obtain⟨k,hk⟩:=aqB (hs i hi)
  refine h.sep ha hb hs hn hk hi (kH (fun x hx=>?_) hh)
  obtain⟨j,hj,rfl⟩:=aqK.1 hx
  rw[Lg,arK]at hj
  have hjw:w j≤t:=by simpa using hj.2
  refine aqK.2 ⟨j,?_,rfl⟩
  rcases aqC.1 ((FV hk).mem_iff.1 hj.1)with rfl|h
  ·omega
  omega
end
end Go.Proofs.YthpjfeolagohkaaGreat

namespace Go.Proofs.YthpjfeolagohkaaGreat
section
variable {α : Type}
structure ir(n:Nat)(e:α→E2)(T:List α)(up:Nat→α)(deep part:Nat→Nat):Prop where
 step:∀v,v<n→(part v=v∧deep v=0)∨(up v∈T∧Touch (e (up v)) v∧other (e (up v)) v<n∧deep v=deep (other (e (up v)) v)+1∧part (other (e (up v)) v)=part v)
 same:∀i∈T,part (e i).1=part (e i).2
 low:∀v,v<n→part v<n
variable {n : Nat} {e : α → E2} {T : List α} {up : Nat → α} {deep part : Nat → Nat}
theorem ir.Nk(h:ir n e T up deep part){v:Nat}(hv:v<n)(hd:deep v=0):part v=v:=by
 rcases h.step v hv with ⟨h1,_⟩| ⟨_,_,_,h4,_⟩
 ·exact h1
 ·omega
theorem ir.Lt(h:ir n e T up deep part):∀ (d v:Nat),v<n→deep v=d→bR (T.map e) v (part v):=by
 intro d
 induction d with
 |zero=>intro v hv hd;rw[h.Nk hv hd];rfl
 |succ d ih=>
  intro v hv hd
  rcases h.step v hv with ⟨_,h2⟩| ⟨h1,h2,h3,h4,h5⟩
  ·omega
  ·have:=ih _ h3 (by omega)
   rw[h5]at this
   exact(rI h2 (by grind)).trans this
theorem ir.RX(h:ir n e T up deep part){u v:Nat}(hu:u<n)(hv:v<n):part u=part v↔bR (T.map e) u v:=by
 constructor
 ·intro hp
  have h1:=h.Lt _ u hu rfl
  have h2:=h.Lt _ v hv rfl
  rw[hp]at h1
  exact h1.trans h2.symm
 ·exact yY (Q:=fun u v=>part u=part v) (fun _=>rfl) (by omega) (by omega) (fun x hx=>by
   obtain⟨i,hi,rfl⟩:=aqK.1 hx
   exact h.same i hi)
theorem ir.Xy(h:ir n e T up deep part){u v:Nat}(hu:u<n)(hv:v<n)(du:deep u≠0)(dv:deep v≠0)(he:up u=up v):u=v:=by
 apply aqt
 intro aR
 rcases h.step u hu with ⟨_,h2⟩| ⟨_,h2,_,h4,_⟩
 ·omega
 rcases h.step v hv with ⟨_,g2⟩| ⟨_,g2,_,g4,_⟩
 ·omega
 rw[←he]at g2 g4
 have e1:other (e (up u)) u=v:=by
  unfold other Touch at*
  omega
 have e2:other (e (up u)) v=u:=by
  unfold other Touch at*
  omega
 grind
structure tf(n:Nat)(e:α→E2)(T:List α)(up:Nat→α)(deep part:Nat→Nat)(a0 b0 a b:Nat)(fv bv:List Nat):Prop where
 an:a<n
 bn:b<n
 same:part a=part b
 front:Way e a0 a (fv.map up)
 back:Way e b0 b (bv.map up)
 fl:∀v∈fv,v<n∧deep v≠0∧deep a<deep v∧deep b≤deep v∧v≠b
 bl:∀v∈bv,v<n∧deep v≠0∧deep a<deep v∧deep b<deep v
 nd:(fv++bv).Nodup
theorem tf.start{a b:Nat}(ha:a<n)(hb:b<n)(hp:part a=part b):tf n e T up deep part a b a b [] []:=
 ⟨ha,hb,hp,.nil a,.nil b,by simp,by simp,by simp⟩
theorem tf.left{a0 b0 a b:Nat}{fv bv:List Nat}(h:ir n e T up deep part)(c:tf n e T up deep part a0 b0 a b fv bv)(AG:a≠b)(hd:deep b≤deep a):
  up a∈T∧Touch (e (up a)) a∧deep (other (e (up a)) a)<deep a∧tf n e T up deep part a0 b0 (other (e (up a)) a) b (fv++[a]) bv:=by
 rcases h.step a c.an with ⟨h1,h2⟩| ⟨h1,h2,h3,h4,h5⟩
 ·exfalso
  have:=h.Nk c.bn (by omega)
  have:=c.same
  omega
 ·refine⟨h1,h2,by omega,h3,c.bn,h5.trans c.same,?_,c.back,fun v hv=>?_,fun v hv=>?_,?_⟩
  ·rw[aqy]
   exact c.front.RW (.cons _ _ _ _ h2 (.nil _))
  ·rcases aqq.1 hv with hv|hv
   ·obtain⟨g1,g2,g3,g4,g5⟩:=c.fl v hv
    omega
   ·rw[aql.1 hv]
    exact⟨c.an,by omega,by omega,hd,AG⟩
  ·obtain⟨g1,g2,g3,g4⟩:=c.bl v hv
   omega
  ·have hn:=c.nd
   rw[aqR]at hn
   rw[arz,List.singleton_append,aqR,aqu]
   refine⟨hn.1,⟨fun hm=>?_,hn.2.1⟩,fun x hx y hy=>?_⟩
   ·have:=c.bl a hm;omega
   ·rcases aqC.1 hy with rfl|hy
    ·intro e;have:=c.fl x hx;grind
    grind
theorem tf.right{a0 b0 a b:Nat}{fv bv:List Nat}(h:ir n e T up deep part)(c:tf n e T up deep part a0 b0 a b fv bv)(hd:deep a<deep b):
  up b∈T∧Touch (e (up b)) b∧deep (other (e (up b)) b)<deep b∧tf n e T up deep part a0 b0 a (other (e (up b)) b) fv (bv++[b]):=by
 rcases h.step b c.bn with ⟨h1,h2⟩| ⟨h1,h2,h3,h4,h5⟩
 ·omega
 ·refine⟨h1,h2,by omega,c.an,h3,c.same.trans h5.symm,c.front,?_,fun v hv=>?_,fun v hv=>?_,?_⟩
  ·rw[aqy]
   exact c.back.RW (.cons _ _ _ _ h2 (.nil _))
  ·obtain⟨g1,g2,g3,g4,g5⟩:=c.fl v hv
   grind
  ·rcases aqq.1 hv with hv|hv
   ·obtain⟨g1,g2,g3,g4⟩:=c.bl v hv
    omega
   ·rw[aql.1 hv]
    exact⟨c.bn,by omega,by omega,by omega⟩
  ·have hn:=c.nd
   rw[←arz,aqR]
   refine⟨hn,by simp,fun x hx y hy=>?_⟩
   rw[aql]at hy
   subst hy
   intro e
   subst e
   rcases aqq.1 hx with hx|hx
   ·exact(c.fl x hx).2.2.2.2 rfl
   ·have:=(c.bl x hx).2.2.2;omega
theorem JX{β:Type}(f:Nat→β):∀l:List Nat,l.Nodup→(∀u∈l,∀v∈l,f u=f v→u=v)→(l.map f).Nodup:=by
 intro l
 induction l with
 |nil=>grind
 |cons x l ih=>
  grind
theorem tf.agn{a0 b0 a:Nat}{fv bv:List Nat}(h:ir n e T up deep part)(c:tf n e T up deep part a0 b0 a a fv bv):
  Way e a0 b0 (fv.map up++(bv.map up).reverse)∧(∀i∈fv.map up++(bv.map up).reverse,i∈T)∧(fv.map up++(bv.map up).reverse).Nodup:=by
 have aN:∀v∈fv++bv,v<n∧deep v≠0:=fun v hv=>by
  rcases aqq.1 hv with hv|hv
  ·exact⟨(c.fl v hv).1,(c.fl v hv).2.1⟩
  ·exact⟨(c.bl v hv).1,(c.bl v hv).2.1⟩
 refine⟨c.front.RW c.back.rev,fun i hi=>?_,?_⟩
 ·obtain⟨v,hv,rfl⟩:∃v∈fv++bv,up v=i:=by
   grind
  obtain⟨h1,h2⟩:=aN v hv
  rcases h.step v h1 with ⟨_,g2⟩| ⟨g1,_⟩
  ·omega
  omega
 ·have hm:=JX up _ c.nd fun u hu v hv he=>h.Xy (aN u hu).1 (aN v hv).1 (aN u hu).2 (aN v hv).2 he
  grind
end
def lZ{β:Type}(f:Nat→β)(k:Nat)(x:β):Nat→β:=fun v=>if v=k then x else f v
structure EI(n:Nat)(e:Int→E2)(T:List Int)(p up:Nat→Int)(deep:Nat→Nat)(root:Int)(todo:List Nat)(cur:Option (Nat×List Int)):Prop where
 step:∀v,v<n→p v≠ -1→(p v=(v:Int)∧deep v=0)∨(up v∈T∧Touch (e (up v)) v∧other (e (up v)) v<n∧deep v=deep (other (e (up v)) v)+1∧p (other (e (up v)) v)=p v)
 low:∀v,v<n→p v≠ -1→0≤p v∧p v<n
 zero:∀v,v<n→p v= -1→deep v=0
 wait:∀v∈todo,v<n∧p v=root
 closed:∀v,v<n→p v≠ -1→v∉todo→(∀r,cur≠some (v,r))→∀i∈T,Touch (e i) v→p (other (e i) v)=p v
 look:∀v r,cur=some (v,r)→v<n∧p v=root∧∀i∈T,Touch (e i) v→i∈r∨p (other (e i) v)=root
 UC:(todo≠[]∨cur≠none)→0≤root
variable {n : Nat} {e : Int → E2} {T : List Int} {p up : Nat → Int} {deep : Nat → Nat} {root : Int} {todo : List Nat} {cur : Option (Nat × List Int)}
theorem EI.begin(n:Nat)(e:Int→E2)(T:List Int)(up:Nat→Int):EI n e T (fun _=> -1) up (fun _=>0) (-1) [] none:=
 ⟨by omega,by omega,fun _ _ _=>rfl,by simp,by omega,by simp,by simp⟩
theorem FW(hb:∀i∈T,(e i).1<n∧(e i).2<n){i:Int}(hi:i∈T){v:Nat}(t:Touch (e i) v):other (e i) v<n:=by
 have:=hb i hi
 unfold other Touch at*
 omega
theorem EI.Nk(d:EI n e T p up deep root [] none){v:Nat}(hv:v<n)(hp:p v= -1):EI n e T (lZ p v v) (lZ up v (-1)) deep v [v] none:=by
 have ne:∀x,x<n→p x≠ -1→x≠v:=fun x _ h e=>h (by rw[e];exact hp)
 refine⟨fun x hx h=>?_,fun x hx h=>?_,fun x hx h=>?_,?_,fun x hx h hn _ i hi t=>?_,by simp,fun _=>by omega⟩
 ·unfold lZ at h ⊢
  by_cases Ph:x=v
  ·subst Ph;rw[if_pos rfl];exact .inl ⟨rfl,d.zero _ hx hp⟩
  ·rw[if_neg Ph]at h ⊢
   rw[if_neg Ph]
   rcases d.step x hx h with h1| ⟨h1,h2,h3,h4,h5⟩
   ·exact .inl h1
   ·right
    have:other (e (up x)) x≠v:=fun e'=>by rw[e',hp]at h5;exact h h5.symm
    exact⟨h1,h2,h3,h4,by rw[if_neg this];exact h5⟩
 ·unfold lZ at h ⊢
  by_cases Ph:x=v
  ·rw[if_pos Ph];omega
  ·rw[if_neg Ph]at h ⊢;exact d.low x hx h
 ·unfold lZ at h
  by_cases Ph:x=v
  ·rw[if_pos Ph]at h;omega
  ·rw[if_neg Ph]at h;exact d.zero x hx h
 ·intro x hx
  rw[aql.1 hx]
  exact⟨hv,by unfold lZ;rw[if_pos rfl]⟩
 ·have Ph:x≠v:=fun e=>hn (by rw[e];simp)
  have h':p x≠ -1:=by unfold lZ at h;rw[if_neg Ph]at h;exact h
  have hc:=d.closed x hx h' (by simp) (by simp) i hi t
  unfold lZ
  have:other (e i) x≠v:=fun e'=>by rw[e',hp]at hc;exact h' hc.symm
  rw[if_neg this,if_neg Ph]
  exact hc
theorem EI.pop{v:Nat}(d:EI n e T p up deep root (todo++[v]) none){r:List Int}(hr:∀i∈T,Touch (e i) v→i∈r):EI n e T p up deep root todo (some (v,r)):=by
 obtain⟨hv,hp⟩:=d.wait v (by simp)
 have h0:=d.UC (.inl (by simp))
 refine⟨d.step,d.low,d.zero,fun x hx=>d.wait x (by grind),fun x hx h hn hc i hi t=>?_,?_,fun _=>h0⟩
 ·have Ph:x≠v:=by grind
  exact d.closed x hx h (by grind) (by simp) i hi t
 grind
theorem EI.wN(hb:∀i∈T,(e i).1<n∧(e i).2<n){v:Nat}{i:Int}{r:List Int}(d:EI n e T p up deep root todo (some (v,i::r)))(hi:i∈T)(t:Touch (e i) v)(hw:p (other (e i) v)= -1):
  EI n e T (lZ p (other (e i) v) root) (lZ up (other (e i) v) i) (lZ deep (other (e i) v) (deep v+1)) root (todo++[other (e i) v]) (some (v,r)):=by
 obtain⟨hv,hp,UD⟩:=d.look v _ rfl
 have h0:=d.UC (.inr (by simp))
 have hwn:=FW hb hi t
 obtain⟨t1,t2⟩:=oM t
 generalize hW:other (e i) v=w at*
 have Z4:v≠w:=fun e=>by rw[e,hw]at hp;omega
 have hpv:p v≠ -1:=by omega
 refine⟨fun x hx h=>?_,fun x hx h=>?_,fun x hx h=>?_,fun x hx=>?_,fun x hx h hn hc j hj tj=>?_,?_,fun _=>h0⟩
 ·unfold lZ at h ⊢
  by_cases Lu:x=w
  ·subst Lu
   right
   simp only[if_pos]
   refine⟨hi,t1,by rw[t2];exact hv,?_,?_⟩
   ·rw[t2,if_neg Z4]
   ·rw[t2,if_neg Z4];exact hp
  ·simp only[if_neg Lu]at h ⊢
   rcases d.step x hx h with h1| ⟨h1,h2,h3,h4,h5⟩
   ·exact .inl h1
   ·right
    have:other (e (up x)) x≠w:=fun e'=>by rw[e',hw]at h5;exact h h5.symm
    exact⟨h1,h2,h3,by rw[if_neg this];exact h4,by rw[if_neg this];exact h5⟩
 ·unfold lZ at h ⊢
  by_cases Lu:x=w
  ·rw[if_pos Lu]
   have:=d.low v hv hpv
   omega
  ·rw[if_neg Lu]at h ⊢;exact d.low x hx h
 ·unfold lZ at h ⊢
  by_cases Lu:x=w
  ·rw[if_pos Lu]at h;omega
  ·rw[if_neg Lu]at h ⊢;exact d.zero x hx h
 ·unfold lZ
  rcases aqq.1 hx with hx|hx
  ·obtain⟨h1,h2⟩:=d.wait x hx
   have:x≠w:=fun e=>by rw[e,hw]at h2;omega
   rw[if_neg this]
   exact⟨h1,h2⟩
  ·rw[aql.1 hx,if_pos rfl]
   exact⟨hwn,rfl⟩
 ·have Lu:x≠w:=fun e=>hn (by rw[e];simp)
  have h':p x≠ -1:=by unfold lZ at h;rw[if_neg Lu]at h;exact h
  have hc:=d.closed x hx h' (fun hm=>hn (aqH _ hm)) (fun r' he=>by
   injection he with he
   injection he with h1 h2
   exact hc r (by rw[h1])) j hj tj
  unfold lZ
  have:other (e j) x≠w:=fun e'=>by rw[e',hw]at hc;exact h' hc.symm
  rw[if_neg this,if_neg Lu]
  exact hc
 ·intro x r' he
  injection he with he
  injection he with h1 h2
  subst h1;subst h2
  refine⟨hv,by unfold lZ;rw[if_neg Z4];exact hp,fun j hj tj=>?_⟩
  unfold lZ
  rcases UD j hj tj with h|h
  ·rcases aqC.1 h with rfl|h
   ·right;rw[hW,if_pos rfl]
   ·exact .inl h
  ·right
   split
   ·rfl
   ·exact h
theorem EI.skip(hb:∀i∈T,(e i).1<n∧(e i).2<n){v:Nat}{i:Int}{r:List Int}(d:EI n e T p up deep root todo (some (v,i::r)))(hi:i∈T)(t:Touch (e i) v)(hw:p (other (e i) v)≠ -1):
  EI n e T p up deep root todo (some (v,r)):=by
 obtain⟨hv,hp,UD⟩:=d.look v _ rfl
 have h0:=d.UC (.inr (by simp))
 have hwn:=FW hb hi t
 obtain⟨t1,t2⟩:=oM t
 have Pg:p (other (e i) v)=root:=by
  apply aqt
  intro aR
  by_cases Z4:other (e i) v=v
  ·rw[Z4]at aR;exact aR hp
  have:=d.closed _ hwn hw (fun hm=>aR (d.wait _ hm).2) (fun r' he=>by
   injection he with he
   injection he with h1 h2
   exact Z4 h1.symm) i hi t1
  rw[t2]at this
  exact aR (this▸hp)
 refine⟨d.step,d.low,d.zero,d.wait,fun x hx h hn hc j hj tj=>?_,?_,fun _=>h0⟩
 ·exact d.closed x hx h hn (fun r' he=>by
   injection he with he
   injection he with h1 h2
   exact hc r (by rw[h1])) j hj tj
 ·intro x r' he
  injection he with he
  injection he with h1 h2
  subst h1;subst h2
  refine⟨hv,hp,fun j hj tj=>?_⟩
  rcases UD j hj tj with h|h
  ·rcases aqC.1 h with rfl|h
   ·exact .inr Pg
   ·exact .inl h
  ·exact .inr h
theorem EI.over{v:Nat}(d:EI n e T p up deep root todo (some (v,[]))):EI n e T p up deep root todo none:=by
 obtain⟨hv,hp,UD⟩:=d.look v _ rfl
 refine⟨d.step,d.low,d.zero,d.wait,fun x hx h hn _ j hj tj=>?_,by simp,fun _=>d.UC (.inr (by simp))⟩
 by_cases Ph:x=v
 ·grind
 ·exact d.closed x hx h hn (by grind) j hj tj
theorem EI.Xz(hb:∀i∈T,(e i).1<n∧(e i).2<n)(d:EI n e T p up deep root [] none)(cM:∀v,v<n→p v≠ -1):ir n e T up deep (fun v=>(p v).toNat):=by
 refine⟨fun v hv=>?_,fun i hi=>?_,fun v hv=>?_⟩
 ·rcases d.step v hv (cM v hv)with ⟨h1,h2⟩| ⟨h1,h2,h3,h4,h5⟩
  ·omega
  simp_all
 ·have h1:=(hb i hi).1
  have:=d.closed _ h1 (cM _ h1) (by simp) (by simp) i hi (.inl rfl)
  unfold other at this
  simp_all
 ·have:=d.low v hv (cM v hv)
  omega
end Go.Proofs.YthpjfeolagohkaaGreat

namespace Go.Proofs.YthpjfeolagohkaaGreat
structure Ar where
 g:List (Nat×Bool)
 wt:List Int
 nx:Nat
 ct:Int
 mo:Nat
def Ar.bM(A:Ar)(x:Int):Nat:=(A.g.getD x.toNat (0,false)).1
def Ar.live(A:Ar)(x:Int):Prop:=0≤x∧(A.g[x.toNat]?).map (·.2)=some true
instance(A:Ar)(x:Int):Decidable (A.live x):=by unfold Ar.live;exact inferInstance
def Ar.pick(A:Ar):Option (Int×Ar):=
 if A.wt≠[]then some (A.wt.getLastD 0,{A with wt:=A.wt.dropLast})else if A.nx=A.g.length then none else some ((A.nx:Int),{A with nx:=A.nx+1})
def Ar.out(A:Ar)(x:Int):Ar:={A with g:=A.g.set x.toNat (A.bM x+1,true),ct:=A.ct+1}
def Ar.back(A:Ar)(x:Int):Ar:={A with g:=A.g.set x.toNat (A.bM x,false),ct:=A.ct - 1,wt:=if A.bM x<A.mo then A.wt++[x]else A.wt}
def Ar.aS(A:Ar):Nat:=A.g.countP (·.2)
theorem count_set{L:List (Nat×Bool)}{i:Nat}{y:Nat×Bool}(h:L[i]? =some y)(v:Nat)(b:Bool):(L.set i (v,b)).countP (·.2)+y.2.toNat=L.countP (·.2)+b.toNat:=by
 induction L generalizing i with
 |nil=>simp at h
 |cons a r ih=>
  cases i with
  |zero=>
   simp at h
   subst h
   rw[arv,ard,ard]
   cases a.2<;>cases b<;>simp
  |succ i=>
   have:=ih (i:=i) (by simpa using h)
   rw[aqU,ard,ard]
   omega
structure CJ(A:Ar):Prop where
 wl:∀x∈A.wt,¬A.live x∧x<A.nx∧0≤x
 wd:A.wt.Nodup
 fr:∀x:Int,A.nx≤x→¬A.live x
 ct:A.ct=A.aS
 nx:A.nx≤A.g.length
theorem Ar.get{A:Ar}{x:Int}(hx:0≤x∧x<A.g.length):∃b,A.g[x.toNat]? =some (A.bM x,b)∧(A.live x↔b=true):=by
 obtain⟨y,hy⟩:∃y,A.g[x.toNat]? =some y:=⟨_,aqb (by omega)⟩
 refine⟨y.2,?_,?_⟩
 ·unfold Ar.bM
  rw[aqf,hy];rfl
 ·unfold Ar.live
  rw[hy]
  simp[hx.1]
theorem Ar.AN{A:Ar}{x:Int}(h:A.live x):0≤x∧x<A.g.length:=by
 obtain⟨h0,h1⟩:=h
 cases hy:A.g[x.toNat]? with
 |none=>rw[hy]at h1;cases h1
 |some y=>
  have:=(aqc.1 hy).1
  omega
theorem Ar.FG{A A':Ar}{x:Int}(h:A.pick=some (x,A'))(ok:CJ A):(0≤x∧x<A.g.length)∧¬A.live x∧x∉A'.wt∧x<A'.nx∧A'.g=A.g∧A'.ct=A.ct∧A'.mo=A.mo:=by
 have Li:=ok.nx
 unfold Ar.pick at h
 split at h
 ·rename_i aR
  injection h with h
  injection h with h1 h2
  subst h1 h2
  have hw:A.wt=A.wt.dropLast++[A.wt.getLastD 0]:=by
   conv=>lhs;rw[←List.dropLast_concat_getLast aR]
   rw[List.getLastD_eq_getLast?,List.getLast?_eq_some_getLast aR]
   rfl
  have hm:A.wt.getLastD 0∈A.wt:=by rw[hw];simp
  have h5:=ok.wl _ hm
  refine⟨by omega,h5.1,fun hd=>?_,h5.2.1,rfl,rfl,rfl⟩
  have gI:=ok.wd
  rw[hw,aqR]at gI
  exact gI.2.2 _ hd _ (by simp) rfl
 ·split at h
  ·cases h
  ·rename_i h1 h2
   injection h with h
   injection h with h3 h4
   subst h3 h4
   refine⟨by omega,ok.fr _ (arS _),fun hm=>?_,by simp only;omega,rfl,rfl,rfl⟩
   have:=ok.wl _ hm
   omega
theorem Ar.uL{A A':Ar}{x y:Int}{v:Nat}{b:Bool}(hx:0≤x∧x<A.g.length)(h:A'.g=A.g.set x.toNat (v,b))(hy:0≤y):A'.live y↔if y=x then b=true else A.live y:=by
 unfold Ar.live
 rw[h]
 by_cases e:y=x
 ·rw[if_pos e,e,aqi (by omega)]
  simp[hx.1]
 ·rw[if_neg e,aqh (by omega)]
theorem Ar.Pj{A A':Ar}{x y:Int}{v:Nat}{b:Bool}(hx:0≤x∧x<A.g.length)(h:A'.g=A.g.set x.toNat (v,b))(hy:0≤y):A'.bM y=if y=x then v else A.bM y:=by
 unfold Ar.bM
 rw[h,aqf,aqf]
 by_cases e:y=x
 ·rw[if_pos e,e,aqi (by omega)];rfl
 ·rw[if_neg e,aqh (by omega)]
theorem CJ.out{A A':Ar}{x:Int}(ok:CJ A')(hg:A'.g=A.g)(hx:0≤x∧x<A'.g.length)(hl:¬A'.live x)(hw:x∉A'.wt)(hn:x<A'.nx):CJ (A'.out x):=by
 obtain⟨b,hb,FX⟩:=Ar.get hx
 have XA:b=false:=by cases b;rfl;exact absurd (FX.2 rfl) hl
 refine⟨fun y hy=>?_,ok.wd,fun y hy tP=>?_,?_,?_⟩
 ·obtain⟨h1,h2,h3⟩:=ok.wl y hy
  refine⟨fun h=>?_,h2,h3⟩
  rw[Ar.uL (A:=A') hx rfl h3,if_neg (fun e=>hw (by rw[←e];exact hy))]at h
  exact h1 h
 ·have hy0:=tP.1
  have FY:(A'.nx:Int)≤y:=hy
  rw[Ar.uL (A:=A') hx rfl hy0,if_neg (by omega)]at tP
  exact ok.fr y FY tP
 ·have:=count_set hb (A'.bM x+1) true
  rw[XA]at this
  have h2:=ok.ct
  show A'.ct+1=(((A'.g.set x.toNat (A'.bM x+1,true)).countP (·.2):Nat):Int)
  unfold Ar.aS at h2
  simp at this
  omega
 ·show A'.nx≤(A'.g.set x.toNat _).length
  rw[aqe];exact ok.nx
theorem CJ.back{A:Ar}{x:Int}(ok:CJ A)(hl:A.live x):CJ (A.back x):=by
 have hx:=Ar.AN hl
 obtain⟨b,hb,FX⟩:=Ar.get hx
 have Qc:=FX.1 hl
 have Jl:x<A.nx:=aqt fun h=>ok.fr x (by omega) hl
 have Lu:x∉A.wt:=fun h=>(ok.wl x h).1 hl
 have hnl:¬ (A.back x).live x:=fun h=>by
  rw[Ar.uL (A:=A) hx rfl hx.1,if_pos rfl]at h
  cases h
 have CK:∀y,0≤y→(A.back x).live y→A.live y:=fun y h0 h=>by
  rw[Ar.uL (A:=A) hx rfl h0]at h
  split at h
  ·cases h
  ·exact h
 refine⟨fun y hy=>?_,?_,fun y hy tP=>ok.fr y hy (CK y tP.1 tP),?_,?_⟩
 ·have FY:y∈(if A.bM x<A.mo then A.wt++[x]else A.wt):=hy
  have Lj:y∈A.wt∨y=x:=by
   split at FY
   ·rcases aqq.1 FY with h|h
    ·exact .inl h
    ·exact .inr (aql.1 h)
   ·exact .inl FY
  rcases Lj with h|h
  ·obtain⟨h1,h2,h3⟩:=ok.wl y h
   exact⟨fun h4=>h1 (CK y h3 h4),h2,h3⟩
  ·rw[h];exact⟨hnl,Jl,hx.1⟩
 ·show(if A.bM x<A.mo then A.wt++[x]else A.wt).Nodup
  split
  ·rw[aqR]
   refine⟨ok.wd,by simp,fun u hu v hv e=>Lu ?_⟩
   rw[aql.1 hv]at e
   rw[←e];exact hu
  ·exact ok.wd
 ·have:=count_set hb (A.bM x) false
  rw[Qc]at this
  have h2:=ok.ct
  show A.ct - 1=(((A.g.set x.toNat (A.bM x,false)).countP (·.2):Nat):Int)
  unfold Ar.aS at h2
  simp at this
  omega
 ·show A.nx≤(A.g.set x.toNat _).length
  rw[aqe];exact ok.nx
theorem Ar.Pk(A:Ar):A.aS≤A.g.length:=ar9
end Go.Proofs.YthpjfeolagohkaaGreat

namespace Go.Proofs.YthpjfeolagohkaaGreat
end Go.Proofs.YthpjfeolagohkaaGreat

namespace Go.Proofs.YthpjfeolagohkaaGreat
inductive JY:List Int→Int→Prop
 |one (w:Int):JY [w] 0
 |step {P R:List Int} {a b c:Int} (hp:P.Perm (a::b::R)) (AG:a≤b) (hR:∀r∈R,b≤r) (h:JY ((a+b)::R) c):JY P (c+(a+b))
theorem JY.perm{P Q:List Int}{c:Int}(h:JY P c)(hp:Q.Perm P):JY Q c:=by
 cases h with
 |one w=>rw[List.perm_singleton.1 hp];exact .one w
 |step h1 h2 h3 h4=>exact .step (hp.trans h1) h2 h3 h4
end Go.Proofs.YthpjfeolagohkaaGreat

namespace Go.Proofs.YthpjfeolagohkaaGreat
def yZ(n:Nat)(f:Nat→Int):Int:=((List.range n).map f).sum
def CL(n:Nat)(f:Nat→Nat):Nat:=((List.range n).map f).sum
theorem Jm(n:Nat)(f:Nat→Int):yZ (n+1) f=yZ n f+f n:=by
 unfold yZ
 rw[List.range_succ,aqy,List.sum_append,aro,List.sum_cons,List.sum_nil]
 omega
theorem wu(n:Nat)(f:Nat→Nat):CL (n+1) f=CL n f+f n:=by
 unfold CL
 rw[List.range_succ,aqy,List.sum_append,aro,List.sum_cons,List.sum_nil]
 omega
theorem za{n:Nat}{f g:Nat→Int}(h:∀i,i<n→f i=g i):yZ n f=yZ n g:=by
 induction n with
 |zero=>rfl
 |succ n ih=>grind [Jm]
theorem FZ{n:Nat}{f g:Nat→Nat}(h:∀i,i<n→f i=g i):CL n f=CL n g:=by
 induction n with
 |zero=>rfl
 |succ n ih=>grind [wu]
theorem F0(n:Nat)(f g:Nat→Int):yZ n (fun i=>f i+g i)=yZ n f+yZ n g:=by
 induction n with
 |zero=>rfl
 |succ n ih=>grind [Jm]
theorem RY(n:Nat)(f g:Nat→Nat):CL n (fun i=>f i+g i)=CL n f+CL n g:=by
 induction n with
 |zero=>rfl
 |succ n ih=>grind [wu]
theorem RZ(n:Nat)(f:Nat→Nat):CL n (fun i=>2*f i)=2*CL n f:=by
 induction n with
 |zero=>rfl
 |succ n ih=>rw[wu,wu,ih];omega
structure Nl where
 nq:List (Int×Nat)
 at_:Nat
 R:Nat→Nat
 d:Nat→Nat
 up:Nat→Nat
def Pm(p:Int×Nat):List (Int×Nat)→Int×Nat
 | []=>p
 |q::r=>if q.1<p.1 then Pm q r else Pm p r
def XB:List (Int×Nat)→Int×Nat
 | []=>(0,0)
 |p::r=>Pm p r
def wo(l:List (Int×Nat))(p:Int×Nat):List (Int×Nat):=l.filter fun q=>decide (q.2≠p.2)
def Nl.a(s:Nl):Int×Nat:=XB s.nq
def Nl.b(s:Nl):Int×Nat:=XB (wo s.nq s.a)
def Nl.step(s:Nl):Nl:=⟨wo (wo s.nq s.a) s.b++[(s.a.1+s.b.1,s.at_)],s.at_+1,
 fun i=>if i=s.at_ then i else if s.R i=s.a.2∨s.R i=s.b.2 then s.at_ else s.R i,
 fun i=>if i=s.at_ then 0 else if s.R i=s.a.2∨s.R i=s.b.2 then s.d i+1 else s.d i,
 fun i=>if i=s.a.2∨i=s.b.2 then s.at_ else s.up i⟩
def abt(ws:List Int):Nl:=⟨(List.range ws.length).map (fun i=>(ws.getD i 0,i)),ws.length,id,fun _=>0,fun _=>0⟩
def EJ:Nat→Nl→Nl
 |0,s=>s
 |k+1,s=>(EJ k s).step
theorem JZ(p:Int×Nat):∀ (r:List (Int×Nat)),Pm p r∈p::r:=by
 intro r
 induction r generalizing p with
 |nil=>simp[Pm]
 |cons q r ih=>
  grind [Pm]
def HW(l:List (Int×Nat)):Prop:=l.Pairwise fun p q=>p.2<q.2
theorem XC(p:Int×Nat):∀ (r:List (Int×Nat)),HW (p::r)→∀q∈p::r,q.2≠(Pm p r).2→(Pm p r).1<q.1∨((Pm p r).1=q.1∧(Pm p r).2<q.2):=by
 intro r
 induction r generalizing p with
 |nil=>
  grind [Pm]
 |cons c r ih=>
  intro hr q hq aR
  have AH:=arw.1 hr
  have UE:=arw.1 AH.2
  unfold Pm at aR ⊢
  split at aR
  ·rename_i aN
   rw[if_pos aN]
   rcases aqC.1 hq with rfl|hq
   ·by_cases e:c.2=(Pm c r).2
    ·grind [JZ]
    ·rcases ih c AH.2 c (by simp) e with h|h<;>omega
   ·exact ih c AH.2 q hq aR
  ·rename_i aN
   rw[if_neg aN]
   have hr4:HW (p::r):=arw.2 (by grind)
   rcases aqC.1 hq with rfl|hq
   ·grind
   ·rcases aqC.1 hq with rfl|hq
    ·have Rx:=AH.1 q (by simp)
     by_cases e:p.2=(Pm p r).2
     ·grind [JZ]
     ·rcases ih p hr4 p (by simp) e with h|h
      ·omega
      omega
    grind
structure Lgt(p:Int×Nat)(l:List (Int×Nat)):Prop where
 m:p∈l
 l:∀q∈l,q.2≠p.2→p.1<q.1∨(p.1=q.1∧p.2<q.2)
theorem Pn{l:List (Int×Nat)}(h:HW l)(h0:l≠[]):Lgt (XB l) l:=by
 cases l with
 |nil=>grind
 |cons p r=>exact⟨JZ p r,XC p r h⟩
theorem uM{l:List (Int×Nat)}{p q:Int×Nat}:q∈wo l p↔q∈l∧q.2≠p.2:=by unfold wo;grind
theorem HW.wo{l:List (Int×Nat)}(h:HW l)(p:Int×Nat):HW (wo l p):=List.Pairwise.sublist List.filter_sublist h
theorem Po{l:List (Int×Nat)}(h:HW l){p:Int×Nat}(hp:p∈l):l.Perm (p::wo l p):=by
 induction l with
 |nil=>cases hp
 |cons c r ih=>
  have h2:=arw.1 h
  unfold wo
  rw[List.filter_cons]
  rcases aqC.1 hp with rfl|hp
  ·rw[if_neg (by simp)]
   have:r.filter (fun q=>decide (q.2≠p.2))=r:=by
    rw[ar6]
    intro q hq
    have:=h2.1 q hq
    simp
    omega
   rw[this]
  ·have hc:=h2.1 p hp
   rw[if_pos (by simp;omega)]
   exact((ih h2.2 hp).cons c).trans (List.Perm.swap _ _ _)
structure UF(ws:List Int)(k:Nat)(s:Nl):Prop where
 ids:HW s.nq
 lt:∀p∈s.nq,p.2<s.at_
 at_:s.at_=ws.length+k
 len:s.nq.length+k=ws.length
 rt:∀i,i<s.at_→(∃p∈s.nq,p.2=s.R i)∧i≤s.R i
 Qd:∀p∈s.nq,s.R p.2=p.2∧s.d p.2=0
 upI:∀i,i<s.at_→s.R i≠i→i<s.up i∧s.up i<s.at_∧s.R i=s.R (s.up i)∧s.d i=s.d (s.up i)+1
 wt:∀p∈s.nq,yZ ws.length (fun i=>if s.R i=p.2 then ws.getD i 0 else 0)=p.1
 dl:∀i,i<s.at_→s.d i≤k
 kr:∀p∈s.nq,CL ws.length (fun i=>if s.R i=p.2 then 2^ (ws.length - s.d i)else 0)=2^ws.length
 huf:∀c,JY (s.nq.map (·.1)) c→JY ws (c+yZ ws.length (fun i=>ws.getD i 0*(s.d i:Int)))
theorem Nl.abw{ws:List Int}{k:Nat}{s:Nl}(h:UF ws k s)(hk:k+1<ws.length):Lgt s.a s.nq∧Lgt s.b (wo s.nq s.a)∧s.a.2≠s.b.2∧s.b∈s.nq∧s.nq.Perm (s.a::s.b::wo (wo s.nq s.a) s.b):=by
 have hl:=h.len
 have h1:Lgt s.a s.nq:=Pn h.ids (by grind)
 have p1:=Po h.ids h1.m
 have h2:Lgt s.b (wo s.nq s.a):=Pn (h.ids.wo _) (fun e=>by
  have:=p1.length_eq
  grind)
 obtain⟨m1,m2⟩:=uM.1 h2.m
 exact⟨h1,h2,fun e=>m2 e.symm,m1,p1.trans ((Po (h.ids.wo _) h2.m).cons _)⟩
theorem UF.step{ws:List Int}{k:Nat}{s:Nl}(h:UF ws k s)(hk:k+1<ws.length):UF ws (k+1) s.step:=by
 obtain⟨ha,hb,AG,F1,hp⟩:=Nl.abw h hk
 have wO:=h.at_
 have la:=h.lt _ ha.m
 have lb:=h.lt _ F1
 have bq:∀q,q∈s.step.nq→(q∈s.nq∧q.2≠s.a.2∧q.2≠s.b.2)∨q=(s.a.1+s.b.1,s.at_):=fun q hq=>by
  rcases aqq.1 hq with hq|hq
  ·obtain⟨h1,h2⟩:=uM.1 hq
   obtain⟨h3,h4⟩:=uM.1 h1
   grind
  simp_all
 have hR:∀i,i<s.at_→s.step.R i=if s.R i=s.a.2∨s.R i=s.b.2 then s.at_ else s.R i:=fun i hi=>by show(if i=s.at_ then i else _)=_;rw[if_neg (by omega)]
 have hd:∀i,i<s.at_→s.step.d i=if s.R i=s.a.2∨s.R i=s.b.2 then s.d i+1 else s.d i:=fun i hi=>by show(if i=s.at_ then 0 else _)=_;rw[if_neg (by omega)]
 have hRa:s.step.R s.at_=s.at_:=by show(if s.at_=s.at_ then s.at_ else _)=_;rw[if_pos rfl]
 have hda:s.step.d s.at_=0:=by show(if s.at_=s.at_ then 0 else _)=_;rw[if_pos rfl]
 have abx:∀i,i<s.at_→s.R i<s.at_:=fun i hi=>by obtain⟨⟨p,p1,p2⟩,_⟩:=h.rt i hi;rw[←p2];exact h.lt p p1
 have sa:=h.Qd _ ha.m
 have sb:=h.Qd _ F1
 refine⟨?_,fun p AO=>?_,by show s.at_+1=_;omega,?_,fun i hi=>?_,fun p AO=>?_,fun i hi aR=>?_,fun p AO=>?_,fun i hi=>?_,fun p AO=>?_,fun c hc=>?_⟩
 ·show HW (_++_)
  unfold HW
  rw[List.pairwise_append]
  refine⟨(h.ids.wo _).wo _,by simp,fun q hq z hz=>?_⟩
  obtain⟨h1,_⟩:=uM.1 hq
  obtain⟨h3,_⟩:=uM.1 h1
  rw[aql.1 hz]
  exact h.lt q h3
 ·show p.2<s.at_+1
  rcases bq p AO with h1|h1
  ·have:=h.lt p h1.1;omega
  ·rw[h1];simp
 ·have h1:=hp.length_eq
  have h2:=h.len
  show(wo (wo s.nq s.a) s.b++[_]).length+(k+1)=_
  simp at h1 ⊢
  omega
 ·have ni:i<s.at_+1:=hi
  by_cases e:i=s.at_
  ·rw[e,hRa]
   exact⟨⟨(s.a.1+s.b.1,s.at_),arG _ (by simp),rfl⟩,aqm _⟩
  ·have rF:i<s.at_:=by omega
   obtain⟨⟨p,p1,p2⟩,h4⟩:=h.rt i rF
   rw[hR i rF]
   split
   ·exact⟨⟨(s.a.1+s.b.1,s.at_),arG _ (by simp),rfl⟩,by omega⟩
   ·rename_i hn
    refine⟨⟨p,aqH _ (uM.2 ⟨uM.2 ⟨p1,by omega⟩,by omega⟩),p2⟩,h4⟩
 ·rcases bq p AO with ⟨h1,h2,h3⟩|h1
  ·have h4:=h.lt p h1
   obtain⟨h5,h6⟩:=h.Qd p h1
   rw[hR _ h4,hd _ h4,h5,if_neg (by omega),if_neg (by omega)]
   omega
  ·rw[h1];exact⟨hRa,hda⟩
 ·have ni:i<s.at_+1:=hi
  have e:i≠s.at_:=fun e=>aR (by rw[e,hRa])
  have rF:i<s.at_:=by omega
  have CF:s.step.up i=if i=s.a.2∨i=s.b.2 then s.at_ else s.up i:=rfl
  rw[CF]
  by_cases Lv:i=s.a.2∨i=s.b.2
  ·rw[if_pos Lv]
   have hRi:s.R i=i∧s.d i=0:=by
    rcases Lv with e|e
    ·rw[e];exact sa
    ·rw[e];exact sb
   rw[hRa,hda,hR i rF,hd i rF,hRi.1,if_pos Lv,if_pos Lv,hRi.2]
   exact⟨rF,by show s.at_<s.at_+1;omega,rfl,rfl⟩
  ·rw[if_neg Lv]
   have hRi:s.R i≠i:=fun e2=>aR (by
    rw[hR i rF,e2,if_neg Lv])
   obtain⟨u1,u2,u3,u4⟩:=h.upI i rF hRi
   rw[hR i rF,hd i rF,hR _ u2,hd _ u2,←u3]
   refine⟨u1,by show s.up i<s.at_+1;omega,rfl,?_⟩
   split<;>omega
 ·rcases bq p AO with ⟨h1,h2,h3⟩|h1
  ·rw[←h.wt p h1]
   refine za fun i hi=>?_
   have rF:i<s.at_:=by omega
   have:=h.lt p h1
   rw[hR i rF]
   by_cases e:s.R i=s.a.2∨s.R i=s.b.2
   ·rw[if_pos e,if_neg (by omega),if_neg (by omega)]
   ·rw[if_neg e]
  ·rw[h1]
   show yZ ws.length (fun i=>if s.step.R i=s.at_ then ws.getD i 0 else 0)=s.a.1+s.b.1
   rw[←h.wt _ ha.m,←h.wt _ F1,←F0]
   refine za fun i hi=>?_
   have rF:i<s.at_:=by omega
   have:=abx i rF
   rw[hR i rF]
   by_cases e1:s.R i=s.a.2
   ·rw[if_pos (Or.inl e1),if_pos rfl,if_pos e1,if_neg (by omega)];omega
   ·by_cases e2:s.R i=s.b.2
    ·rw[if_pos (Or.inr e2),if_pos rfl,if_neg e1,if_pos e2];omega
    ·have e3:¬ (s.R i=s.a.2∨s.R i=s.b.2):=by omega
     rw[if_neg e3,if_neg (by omega),if_neg e1,if_neg e2];rfl
 ·have ni:i<s.at_+1:=hi
  by_cases e:i=s.at_
  ·rw[e,hda];omega
  ·have:=h.dl i (by omega)
   rw[hd i (by omega)]
   split<;>omega
 ·rcases bq p AO with ⟨h1,h2,h3⟩|h1
  ·rw[←h.kr p h1]
   refine FZ fun i hi=>?_
   have rF:i<s.at_:=by omega
   have:=h.lt p h1
   rw[hR i rF,hd i rF]
   by_cases e:s.R i=s.a.2∨s.R i=s.b.2
   ·rw[if_pos e,if_neg (by omega),if_neg (by omega)]
   ·rw[if_neg e,if_neg e]
  ·rw[h1]
   have h5:2*CL ws.length (fun i=>if s.step.R i=s.at_ then 2^ (ws.length - s.step.d i)else 0)=2^ws.length+2^ws.length:=by
    rw[←RZ,←h.kr _ ha.m]
    conv=>rhs;rw[h.kr _ ha.m];arg 2;rw[←h.kr _ F1]
    rw[←h.kr _ ha.m,←RY]
    refine FZ fun i hi=>?_
    have rF:i<s.at_:=by omega
    have:=abx i rF
    have hdl:=h.dl i rF
    rw[hR i rF,hd i rF]
    have e2:2*2^ (ws.length - (s.d i+1))=2^ (ws.length - s.d i):=by
     rw[show ws.length - s.d i=(ws.length - (s.d i+1))+1 by omega,Nat.pow_succ]
     omega
    by_cases e1:s.R i=s.a.2
    ·rw[if_pos (Or.inl e1),if_pos rfl,if_pos (Or.inl e1),if_pos e1,if_neg (by omega),e2,Nat.add_zero]
    ·by_cases e3:s.R i=s.b.2
     ·rw[if_pos (Or.inr e3),if_pos rfl,if_pos (Or.inr e3),if_neg e1,if_pos e3,e2];omega
     ·have e4:¬ (s.R i=s.a.2∨s.R i=s.b.2):=by omega
      rw[if_neg e4,if_neg (by omega),if_neg e1,if_neg e3]
   show CL ws.length (fun i=>if s.step.R i=s.at_ then 2^ (ws.length - s.step.d i)else 0)=_
   omega
 ·have ww:JY ((s.a.1+s.b.1)::(wo (wo s.nq s.a) s.b).map (·.1)) c:=by
   refine hc.perm ?_
   show List.Perm _ ((wo (wo s.nq s.a) s.b++[(s.a.1+s.b.1,s.at_)]).map (·.1))
   rw[aqy]
   exact aru (l₁:=[s.a.1+s.b.1])
  have h5:=h.huf (c+(s.a.1+s.b.1)) (.step (hp.map (·.1)) (by
   rcases ha.l _ F1 (Ne.symm AG)with h|h<;>omega) (fun r hr=>by
   obtain⟨q,hq,rfl⟩:=aqK.1 hr
   obtain⟨h1,h2⟩:=uM.1 hq
   rcases hb.l q h1 h2 with h|h<;>omega) ww)
  have h6:yZ ws.length (fun i=>ws.getD i 0*(s.step.d i:Int))=yZ ws.length (fun i=>ws.getD i 0*(s.d i:Int))+(s.a.1+s.b.1):=by
   rw[←h.wt _ ha.m]
   conv=>rhs;arg 2;arg 2;rw[←h.wt _ F1]
   rw[←F0,←F0]
   refine za fun i hi=>?_
   have rF:i<s.at_:=by omega
   rw[hd i rF]
   by_cases e1:s.R i=s.a.2
   ·rw[if_pos (Or.inl e1),if_pos e1,if_neg (by omega),show((s.d i+1:Nat):Int)=(s.d i:Int)+1 by omega,Int.mul_add,Int.mul_one];omega
   ·by_cases e2:s.R i=s.b.2
    ·rw[if_pos (Or.inr e2),if_neg e1,if_pos e2,show((s.d i+1:Nat):Int)=(s.d i:Int)+1 by omega,Int.mul_add,Int.mul_one];omega
    ·have e3:¬ (s.R i=s.a.2∨s.R i=s.b.2):=by omega
     rw[if_neg e3,if_neg e1,if_neg e2];omega
  rw[h6]
  rw[show c+(yZ ws.length (fun i=>ws.getD i 0*(s.d i:Int))+(s.a.1+s.b.1))=c+(s.a.1+s.b.1)+yZ ws.length (fun i=>ws.getD i 0*(s.d i:Int)) by omega]
  exact h5
end Go.Proofs.YthpjfeolagohkaaGreat

namespace Go.Proofs.YthpjfeolagohkaaGreat
def Qe(ws:List Int):Nl:=EJ (ws.length - 1) (abt ws)
end Go.Proofs.YthpjfeolagohkaaGreat
