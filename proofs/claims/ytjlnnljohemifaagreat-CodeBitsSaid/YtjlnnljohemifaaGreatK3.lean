/- Texts put behind each other. -/
import Derived.Test.YtjlnnljohemifaaGreatK98
import Derived.Test.YtjlnnljohemifaaGreatK2
set_option maxRecDepth 100000
set_option maxHeartbeats 8000000
set_option linter.unusedVariables false
set_option linter.unusedSimpArgs false
namespace Go.Proofs.YtjlnnljohemifaaGreat
structure TP(hm:Int→Int)(lt:Int→Int→Bool)(U:Int→Int)(T:Int→Int):Prop where
 uk:∀x p,U x=p→p≠ -1→hm p=hm x∧0<hm x∧lt p x=true
 t1:∀h,T h≠ -1→hm (T h)=h∧0<h∧U (T h)= -1
 t2:∀x,0<hm x→U x= -1→T (hm x)=x
theorem TP.first{hm:Int→Int}{lt:Int→Int→Bool}{U T:Int→Int}(t:TP hm lt U T){x:Int}(h0:0<hm x)(hf:∀y,hm y=hm x→y≠x→lt x y=true)(hs:bv lt):T (hm x)=x:=by
 refine t.t2 x h0 ?_
 apply anW
 intro hu
 obtain⟨h2,h3,h4⟩:=t.uk x _ rfl hu
 by_cases e:U x=x
 ·rw[e,hs.vk]at h4;cases h4
 ·have:=hs.asym (hf _ h2 e)
  rw[h4]at this;cases this
section
variable {hm hm' : Int → Int} {lt lt' : Int → Int → Bool} {ch Hx : Int → List Int} {par : Int → Int}
structure Pr(hm:Int→Int)(lt:Int→Int→Bool)(ch:Int→List Int)(par:Int→Int):Prop where
 h0:hm (-1)=0
 dn:∀x c,c∈ch x→par c=x∧x≠ -1∧hm x=hm c∧0<hm c∧lt x c=true
 up:∀c x,par c=x→x≠ -1→c∈ch x
 nd:∀x,(ch x).Nodup
theorem Pr.ne(p:Pr hm lt ch par){x c:Int}(h:c∈ch x):c≠ -1:=fun e=>by
 have:=(p.dn x c h).2.2.2.1
 rw[e,p.h0]at this
 omega
def nF(ch:Int→List Int)(a b:Int):Int→List Int:=fun x=>if x=a then b::ch a else ch x
theorem Pr.link(p:Pr hm lt ch par){a b:Int}(ha:a≠ -1)(hb:par b= -1)(hh:hm a=hm b)(h0:0<hm b)(hl:lt a b=true):Pr hm lt (nF ch a b) (aI par b a):=by
 refine⟨p.h0,fun x c hc=>?_,fun c x hc hx=>?_,fun x=>?_⟩
 ·unfold nF at hc
  unfold aI
  by_cases hx:x=a
  ·subst hx
   rw[if_pos rfl]at hc
   rcases anF.1 hc with rfl|hc
   ·rw[if_pos rfl]
    exact⟨rfl,ha,hh,h0,hl⟩
   ·have h1:=p.dn x c hc
    rw[if_neg (fun e=>by rw[e,hb]at h1;exact h1.2.1 h1.1.symm)]
    exact h1
  ·rw[if_neg hx]at hc
   have h1:=p.dn x c hc
   rw[if_neg (fun e=>by rw[e,hb]at h1;exact h1.2.1 h1.1.symm)]
   exact h1
 ·unfold aI at hc
  unfold nF
  by_cases Gz:c=b
  ·rw[if_pos Gz]at hc
   rw[if_pos hc.symm,Gz]
   exact aok
  ·rw[if_neg Gz]at hc
   have:=p.up c x hc hx
   split
   ·rename_i e
    rw[←e]
    exact anZ _ this
   ·exact this
 ·unfold nF
  split
  ·exact anN.2 ⟨fun h=>by have:=p.dn a b h;rw[hb]at this;exact this.2.1 this.1.symm,p.nd a⟩
  ·exact p.nd x
def ay(ch:Int→List Int)(p:Int)(l:List Int):Int→List Int:=fun x=>if x=p then l else ch x
theorem Pr.off(q:Pr hm lt ch par){p x:Int}{l1 l2:List Int}(hp:ch p=l1++x::l2):Pr hm lt (ay ch p (l1++l2)) (aI par x (-1)):=by
 have hx:=q.dn p x (by rw[hp];simp)
 have gk:=q.nd p
 rw[hp,aof]at gk
 obtain⟨n1,n2,n3⟩:=gk
 rw[anN]at n2
 have bK:x∉l1++l2:=by
  rw[anH]
  rintro(h|h)
  ·exact n3 x h x (by simp) rfl
  ·exact n2.1 h
 have ON:∀c,c∈l1++l2→c∈ch p:=fun c hc=>by
  rw[hp]
  rcases anH.1 hc with h|h
  ·simp[h]
  ·simp[h]
 refine⟨q.h0,fun y c hc=>?_,fun c y hc hy=>?_,fun y=>?_⟩
 ·unfold ay at hc
  unfold aI
  by_cases e:y=p
  ·subst e
   rw[if_pos rfl]at hc
   rw[if_neg (show¬c=x from fun e=>bK (by rw[←e];exact hc))]
   exact q.dn y c (ON c hc)
  ·rw[if_neg e]at hc
   have h1:=q.dn y c hc
   rw[if_neg (fun e2=>e (by rw[←h1.1,e2];exact hx.1))]
   exact h1
 ·unfold aI at hc
  unfold ay
  by_cases fS:c=x
  ·rw[if_pos fS]at hc
   exact absurd hc.symm hy
  ·rw[if_neg fS]at hc
   have:=q.up c y hc hy
   split
   ·rename_i e
    rw[e,hp,anH,anF]at this
    rw[anH]
    rcases this with h|h|h
    ·exact .inl h
    ·exact absurd h fS
    ·exact .inr h
   ·exact this
 ·unfold ay
  split
  ·rw[aof]
   exact⟨n1,n2.2,fun a ha b hb=>n3 a ha b (by simp[hb])⟩
  ·exact q.nd y
def fk(ch:Int→List Int)(par:Int→Int)(x:Int):Int→Int:=fun c=>if c∈ch x then -1 else par c
theorem Pr.bare(q:Pr hm lt ch par)(x:Int):Pr hm lt (ay ch x []) (fk ch par x):=by
 refine⟨q.h0,fun y c hc=>?_,fun c y hc hy=>?_,fun y=>?_⟩
 ·unfold ay at hc
  split at hc
  ·cases hc
  ·rename_i e
   have h1:=q.dn y c hc
   unfold fk
   rw[if_neg (fun h=>e (by rw[←h1.1,(q.dn x c h).1]))]
   exact h1
 ·unfold fk at hc
  split at hc
  ·exact absurd hc.symm hy
  ·rename_i h
   have:=q.up c y hc hy
   unfold ay
   rw[if_neg (show¬y=x from fun e=>h (by rw[←e];exact this))]
   exact this
 ·unfold ay
  split
  ·exact aoG
  ·exact q.nd y
theorem Pr.other(q:Pr hm lt ch par)(h0:hm' (-1)=0)(h:∀x c,c∈ch x→hm x=hm c→0<hm c→lt x c=true→hm' x=hm' c∧0<hm' c∧lt' x c=true):Pr hm' lt' ch par:=
 ⟨h0,fun x c hc=>by
  obtain⟨h1,h2,h3,h4,h5⟩:=q.dn x c hc
  exact⟨h1,h2,h x c hc h3 h4 h5⟩,q.up,q.nd⟩
def JW(K:Int→Bool→Int)(B:Int→Int):Int→List Int→Prop
 |_,[]=>True
 |p,c::r=>B c=p∧K c true=r.headD (-1)∧JW K B c r
variable {K K' : Int → Bool → Int} {B B' : Int → Int}
theorem JW.frame:∀ {l:List Int} {p:Int},JW K B p l→(∀c∈l,K' c true=K c true∧B' c=B c)→JW K' B' p l:=by
 intro l
 induction l with
 |nil=>intro p _ _;trivial
 |cons c r ih=>
  intro p h hk
  obtain⟨h1,h2,h3⟩:=h
  obtain⟨k1,k2⟩:=hk c (by simp)
  exact⟨by rw[k2,h1],by rw[k1,h2],ih h3 fun d hd=>hk d (by simp[hd])⟩
theorem JW.behind{l:List Int}{p p':Int}(h:JW K B p l)(hk:∀c∈l,K' c true=K c true)(hb:∀c∈l,c≠l.headD (-1)→B' c=B c)(hp:l≠[]→B' (l.headD (-1))=p')(hn:l.Nodup):JW K' B' p' l:=by
 cases l with
 |nil=>trivial
 |cons c r=>
  obtain⟨h1,h2,h3⟩:=h
  have YD:=(anN.1 hn).1
  refine⟨hp (by simp),by rw[hk c (by simp),h2],h3.frame fun d hd=>⟨hk d (by simp[hd]),hb d (by simp[hd]) fun e=>YD (by simp only[List.headD_cons]at e;exact e▸hd)⟩⟩
theorem JW.split:∀ {l1:List Int} {p x:Int} {l2:List Int},JW K B p (l1++x::l2)→B x=l1.getLastD p∧K x true=l2.headD (-1)∧JW K B x l2∧(∀y,l1.getLast? =some y→K y true=x):=by
 intro l1
 induction l1 with
 |nil=>intro p x l2 h;exact⟨h.1,h.2.1,h.2.2,fun y hy=>by cases hy⟩
 |cons c r ih=>
  intro p x l2 h
  obtain⟨h1,h2,h3⟩:=h
  obtain⟨i1,i2,i3,i4⟩:=ih h3
  refine⟨?_,i2,i3,fun y hy=>?_⟩
  ·rw[i1]
   cases r<;>simp[List.getLastD]
  ·cases r with
   |nil=>
    simp only[List.getLast?_singleton,anE]at hy
    subst hy
    simpa using h2
   |cons d r=>
    rw[apo]at hy
    exact i4 y hy
theorem JW.cut:∀ {l1:List Int} {p x:Int} {l2:List Int},JW K B p (l1++x::l2)→(l1++x::l2).Nodup→
  (∀c∈l1,l1.getLast? ≠some c→K' c true=K c true)→(∀c∈l1,B' c=B c)→(∀y,l1.getLast? =some y→K' y true=l2.headD (-1))→
  JW K' B' (l1.getLastD p) l2→JW K' B' p (l1++l2):=by
 intro l1
 induction l1 with
 |nil=>intro p x l2 _ _ _ _ _ h;exact h
 |cons c r ih=>
  intro p x l2 h hn hk hb hl h2
  obtain⟨g1,g2,g3⟩:=h
  have Dg:=anN.1 (show(c::(r++x::l2)).Nodup from hn)
  have rU:(c::r).getLastD p=r.getLastD c:=by cases r<;>simp[List.getLastD]
  rw[rU]at h2
  have hi:JW K' B' c (r++l2):=by
   refine ih g3 Dg.2 (fun d hd he=>hk d (by simp[hd]) fun e=>he ?_) (fun d hd=>hb d (by simp[hd])) (fun y hy=>hl y ?_) h2
   ·cases r with
    |nil=>cases hd
    |cons e' r=>rw[apo]at e;exact e
   ·cases r with
    |nil=>cases hy
    |cons e' r=>rw[apo];exact hy
  refine⟨by rw[hb c (by simp),g1],?_,hi⟩
  cases r with
  |nil=>simpa using hl c (by simp)
  |cons d r=>
   have:(c::d::r).getLast? ≠some c:=by
    rw[apo]
    intro e
    exact Dg.1 (anL _ (ao5 e))
   rw[hk c (by simp) this,g2]
   simp
structure Js(K:Int→Bool→Int)(B:Int→Int)(ch:Int→List Int)(par:Int→Int):Prop where
 hd:∀x,K x false=(ch x).headD (-1)
 sg:∀x,JW K B x (ch x)
 rt:∀c,par c= -1→K c true= -1∧B c= -1
theorem eA{l:List Int}(h:l.headD (-1)≠ -1):l.headD (-1)∈l:=by
 cases l with
 |nil=>exact absurd rfl h
 |cons a l=>simp
theorem Js.link(m:Js K B ch par)(p:Pr hm lt ch par){a b:Int}(ha:a≠ -1)(hb:par b= -1)(zI:a≠b):
  Js (eo (eo K b true (K a false)) a false b) (if K a false= -1 then aI B b a else aI (aI B b a) (K a false) b) (nF ch a b) (aI par b a):=by
 have hold:K a false≠ -1→K a false∈ch a:=fun h=>by rw[m.hd]at h ⊢;exact eA h
 have Eg:∀x c,c∈ch x→c≠b:=fun x c hc e=>by
  have:=p.dn x c hc
  rw[e,hb]at this
  exact this.2.1 this.1.symm
 have ek:∀c,c≠b→eo (eo K b true (K a false)) a false b c true=K c true:=fun c hc=>by
  unfold eo
  rw[if_neg (by simp),if_neg (by simp[hc])]
 have eb:∀c,c≠b→(K a false≠ -1→c≠K a false)→(if K a false= -1 then aI B b a else aI (aI B b a) (K a false) b) c=B c:=fun c h1 h2=>by
  split
  ·unfold aI;rw[if_neg h1]
  ·rename_i h
   unfold aI;rw[if_neg (h2 h),if_neg h1]
 refine⟨fun x=>?_,fun x=>?_,fun c hc=>?_⟩
 ·unfold eo nF
  by_cases hx:x=a
  ·rw[if_pos ⟨hx,rfl⟩,if_pos hx];rfl
  ·rw[if_neg (by simp[hx]),if_neg (by simp),if_neg hx]
   exact m.hd x
 ·unfold nF
  by_cases hx:x=a
  ·subst hx
   rw[if_pos rfl]
   refine⟨?_,?_,?_⟩
   ·split
    ·unfold aI;rw[if_pos rfl]
    ·rename_i h
     unfold aI
     rw[if_neg (fun e=>Eg x _ (hold h) e.symm),if_pos rfl]
   ·unfold eo
    rw[if_neg (by simp),if_pos ⟨rfl,rfl⟩]
    exact m.hd x
   ·refine(m.sg x).behind (fun c hc=>ek c (Eg x c hc)) (fun c hc he=>eb c (Eg x c hc) (fun _=>by rw[m.hd];exact he)) (fun aP=>?_) (p.nd x)
    have h1:K x false≠ -1:=by
     rw[m.hd]
     cases hc:ch x with
     |nil=>exact absurd hc aP
     |cons d r=>exact p.ne (x:=x) (by rw[hc];simp)
    rw[if_neg h1]
    unfold aI
    rw[if_pos (m.hd x).symm]
  ·rw[if_neg hx]
   exact(m.sg x).frame fun c hc=>⟨ek c (Eg x c hc),eb c (Eg x c hc) fun _ e=>by
    have h1:=p.dn x c hc
    have h2:=p.dn a _ (hold (e▸p.ne hc))
    rw[←e,h1.1]at h2
    exact hx h2.1⟩
 ·unfold aI at hc
  have Gz:c≠b:=fun e=>by rw[if_pos e]at hc;exact ha hc
  rw[if_neg Gz]at hc
  have h1:=m.rt c hc
  rw[ek c Gz,eb c Gz fun h e=>?_]
  ·exact h1
  ·have h2:=p.dn a _ (hold h)
   rw[←e,hc]at h2
   exact h2.2.1 h2.1.symm
theorem Js.off(m:Js K B ch par)(q:Pr hm lt ch par)(hs:bv lt){p x:Int}{l1 l2:List Int}(hp:ch p=l1++x::l2):
  (K (B x) false=x↔l1=[])∧B x≠ -1∧B x≠x∧hm (B x)=hm x∧hm p=hm x∧(K x true≠ -1→hm (K x true)=hm x)∧
  Js (eo (if l1=[]then eo K (B x) false (K x true)else eo K (B x) true (K x true)) x true (-1)) (aI (if K x true= -1 then B else aI B (K x true) (B x)) x (-1)) (ay ch p (l1++l2)) (aI par x (-1)):=by
 have hx:=q.dn p x (by rw[hp];simp)
 have gk:=q.nd p
 have WF:=gk
 rw[hp]at WF
 have sg:=m.sg p
 rw[hp]at sg
 obtain⟨b1,b2,b3,b4⟩:=sg.split
 obtain⟨n1,n2,n3⟩:=aof.1 WF
 have n4:=anN.1 n2
 have dF:p≠x:=fun e=>by have:=hx.2.2.2.2;rw[e,hs.vk]at this;cases this
 have RI:∀c∈l1,c∈ch p:=fun c hc=>by rw[hp];simp[hc]
 have TQ:∀c∈l2,c∈ch p:=fun c hc=>by rw[hp];simp[hc]
 have x1:∀c∈l1,c≠x:=fun c hc e=>n3 c hc x (by simp) e
 have x2:∀c∈l2,c≠x:=fun c hc e=>n4.1 (e▸hc)
 have cp:∀c,c∈ch p→c≠p:=fun c hc e=>by have:=(q.dn p c hc).2.2.2.2;rw[e,hs.vk]at this;cases this
 have hB:(l1=[]∧B x=p)∨(∃y,l1.getLast? =some y∧B x=y∧y∈l1):=by
  rw[b1]
  cases hl:l1.getLast? with
  |none=>rw[List.getLast?_eq_none_iff]at hl;exact .inl ⟨hl,by rw[hl];rfl⟩
  |some y=>
   refine .inr ⟨y,rfl,?_,ao5 hl⟩
   rw[ao1,hl];rfl
 have bx:B x≠x:=by
  rcases hB with ⟨_,h⟩| ⟨y,_,h,hy⟩
  ·rw[h];exact dF
  ·rw[h];exact x1 y hy
 have RJ:K x true≠ -1→K x true∈l2:=fun h=>by rw[b2]at h ⊢;exact eA h
 have first:K (B x) false=x↔l1=[]:=by
  rcases hB with ⟨h1,h2⟩| ⟨y,h1,h2,hy⟩
  ·rw[h2,m.hd,hp,h1];simp
  ·constructor
   ·intro h
    rw[h2,m.hd]at h
    have hxm:x∈ch y:=by rw[←h];exact eA (by rw[h];exact q.ne (x:=p) (by rw[hp];simp))
    have:=(q.dn y x hxm).1
    rw[hx.1]at this
    exact absurd this.symm (cp y (RI y hy))
   ·intro h;rw[h]at hy;cases hy
 refine⟨first,?_,bx,?_,hx.2.2.1,fun h=>?_,?_⟩
 ·rcases hB with ⟨h1,h2⟩| ⟨y,h1,h2,hy⟩
  ·rw[h2];exact hx.2.1
  ·rw[h2];exact q.ne (RI y hy)
 ·rcases hB with ⟨h1,h2⟩| ⟨y,h1,h2,hy⟩
  ·rw[h2];exact hx.2.2.1
  ·rw[h2,← (q.dn p y (RI y hy)).2.2.1,hx.2.2.1]
 ·rw[← (q.dn p _ (TQ _ (RJ h))).2.2.1,hx.2.2.1]
 obtain⟨K2,hK2⟩:∃K2,K2=eo (if l1=[]then eo K (B x) false (K x true)else eo K (B x) true (K x true)) x true (-1):=⟨_,rfl⟩
 obtain⟨B2,hB2⟩:∃B2,B2=aI (if K x true= -1 then B else aI B (K x true) (B x)) x (-1):=⟨_,rfl⟩
 rw[←hK2,←hB2]
 have kf:∀y,K2 y false=if l1=[]∧y=p then K x true else K y false:=fun y=>by
  rw[hK2]
  unfold eo
  rw[if_neg (by simp)]
  by_cases h:l1=[]
  ·rw[if_pos h]
   have hb:B x=p:=by rw[b1,h];rfl
   rw[hb]
   by_cases hy:y=p
   ·rw[if_pos ⟨hy,rfl⟩,if_pos ⟨h,hy⟩]
   ·rw[if_neg (by simp[hy]),if_neg (by simp[hy])]
  ·rw[if_neg h,if_neg (by simp),if_neg (by simp[h])]
 have kt:∀y,y≠x→(l1.getLast? ≠some y)→K2 y true=K y true:=fun y hy hl=>by
  rw[hK2]
  unfold eo
  rw[if_neg (by simp[hy])]
  split
  ·show(if y=B x∧true=false then K x true else K y true)=_
   rw[if_neg (by simp)]
  ·rename_i h
   show(if y=B x∧true=true then K x true else K y true)=_
   rw[if_neg]
   rintro⟨e,_⟩
   rcases hB with ⟨h1,h2⟩| ⟨z,h1,h2,hz⟩
   ·exact h h1
   ·exact hl (by rw[h1,e,h2])
 have bt:∀y,y≠x→(K x true≠ -1→y≠K x true)→B2 y=B y:=fun y hy hk=>by
  rw[hB2]
  unfold aI
  rw[if_neg hy]
  split
  ·rfl
  ·rename_i h
   show(if y=K x true then B x else B y)=_
   rw[if_neg (hk h)]
 refine⟨fun y=>?_,fun y=>?_,fun c hc=>?_⟩
 ·rw[kf]
  unfold ay
  by_cases hy:y=p
  ·rw[if_pos hy]
   by_cases h:l1=[]
   ·rw[if_pos ⟨h,hy⟩,h,b2];rfl
   ·rw[if_neg (by simp[h]),m.hd,hy,hp]
    cases l1 with
    |nil=>exact absurd rfl h
    |cons a r=>rfl
  ·rw[if_neg (by simp[hy]),if_neg hy]
   exact m.hd y
 ·unfold ay
  by_cases hy:y=p
  ·subst hy
   rw[if_pos rfl]
   refine sg.cut WF (fun c hc hl=>kt c (x1 c hc) hl) (fun c hc=>bt c (x1 c hc) fun h e=>?_) (fun z hz=>?_) ?_
   ·exact n3 c hc (K x true) (by simp[RJ h]) e
   ·have hzl:=ao5 hz
    have aP:l1≠[]:=fun e=>by rw[e]at hzl;cases hzl
    rw[hK2,←b2]
    unfold eo
    rw[if_neg (by simp[x1 z hzl]),if_neg aP,if_pos]
    refine⟨?_,rfl⟩
    rw[b1,ao1,hz];rfl
   ·refine b3.behind (fun c hc=>kt c (x2 c hc) fun hl=>n3 c (ao5 hl) c (by simp[hc]) rfl) (fun c hc he=>bt c (x2 c hc) fun h=>by rw[b2];exact he) (fun aP=>?_) n4.2
    have h1:K x true≠ -1:=by
     rw[b2]
     cases hc:l2 with
     |nil=>exact absurd hc aP
     |cons d r=>exact q.ne (TQ d (by rw[hc];simp))
    rw[hB2]
    unfold aI
    rw[if_neg (by rw[←b2];exact x2 _ (RJ h1)),if_neg h1,if_pos b2.symm,b1]
  ·rw[if_neg hy]
   refine(m.sg y).frame fun c hc=>?_
   have h1:=q.dn y c hc
   have Vg:c∉ch p:=fun h=>hy (by rw[←h1.1,(q.dn p c h).1])
   have fS:c≠x:=fun e=>Vg (by rw[hp,e];simp)
   exact⟨kt c fS fun hl=>Vg (RI c (ao5 hl)),bt c fS fun h e=>Vg (by rw[e];exact TQ _ (RJ h))⟩
 ·unfold aI at hc
  by_cases fS:c=x
  ·rw[fS,hK2,hB2]
   unfold eo aI
   rw[if_pos ⟨rfl,rfl⟩,if_pos rfl]
   exact⟨rfl,rfl⟩
  ·rw[if_neg fS]at hc
   have Vg:c∉ch p:=fun h=>by have:=q.dn p c h;rw[hc]at this;exact this.2.1 this.1.symm
   rw[kt c fS fun hl=>Vg (RI c (ao5 hl)),bt c fS fun h e=>Vg (by rw[e];exact TQ _ (RJ h))]
   exact m.rt c hc
theorem Js.bare(m:Js K B ch par)(q:Pr hm lt ch par){x:Int}(h1:∀y,K' y false=if y=x then -1 else K y false)(h2:∀c∈ch x,K' c true= -1∧B' c= -1)(h3:∀c,c∉ch x→K' c true=K c true∧B' c=B c):
  Js K' B' (ay ch x []) (fk ch par x):=by
 refine⟨fun y=>?_,fun y=>?_,fun c hc=>?_⟩
 ·rw[h1]
  unfold ay
  split
  ·rfl
  ·exact m.hd y
 ·unfold ay
  split
  ·trivial
  ·rename_i hy
   exact(m.sg y).frame fun c hc=>h3 c fun h=>hy (by rw[← (q.dn y c hc).1,(q.dn x c h).1])
 ·unfold fk at hc
  split at hc
  ·rename_i h;exact h2 c h
  ·rename_i h
   rw[(h3 c h).1,(h3 c h).2]
   exact m.rt c hc
structure Dm(hm:Int→Int)(lt:Int→Int→Bool)(g:Int)(R:Int→Prop)(Hx:Int→List Int)(ch:Int→List Int)(par:Int→Int)(W:List Int):Prop where
 pr:Pr hm lt ch par
 nd:W.Nodup
 wm:∀x∈W,x≠ -1∧hm x=g∧par x= -1
 jt:∀x,0<hm x→(par x= -1↔x∈W∨R x)
 nr:∀x,R x→0<hm x∧x∉W
 fr:∀x,R x→ch x=Hx x
 g0:0<g
variable {g a b : Int} {R : Int → Prop} {W W' : List Int}
theorem Dm.perm(m:Dm hm lt g R Hx ch par W)(h:W.Perm W'):Dm hm lt g R Hx ch par W':=
 ⟨m.pr,h.nodup_iff.1 m.nd,fun x hx=>m.wm x (h.mem_iff.2 hx),fun x hx=>by rw[m.jt x hx,h.mem_iff],fun x hx=>⟨(m.nr x hx).1,fun hw=>(m.nr x hx).2 (h.mem_iff.2 hw)⟩,m.fr,m.g0⟩
theorem Dm.link(m:Dm hm lt g R Hx ch par (a::b::W))(hl:lt a b=true):Dm hm lt g R Hx (nF ch a b) (aI par b a) (a::W):=by
 obtain⟨a1,a2,a3⟩:=m.wm a (by simp)
 obtain⟨b1,b2,b3⟩:=m.wm b (by simp)
 have gk:=m.nd
 rw[anN,anN]at gk
 obtain⟨n1,n2,n3⟩:=gk
 have zI:a≠b:=fun e=>n1 (by rw[e];simp)
 have haW:a∉W:=fun h=>n1 (by simp[h])
 refine⟨m.pr.link a1 b3 (by rw[a2,b2]) (by rw[b2];exact m.g0) hl,anN.2 ⟨haW,n3⟩,fun x hx=>?_,fun x hx=>?_,fun x hx=>⟨(m.nr x hx).1,fun h=>(m.nr x hx).2 ?_⟩,fun x hx=>?_,m.g0⟩
 ·obtain⟨x1,x2,x3⟩:=m.wm x (by rcases anF.1 hx with rfl|h;simp;simp[h])
  refine⟨x1,x2,?_⟩
  unfold aI
  rw[if_neg]
  ·exact x3
  ·rintro rfl
   rcases anF.1 hx with h|h
   ·exact zI h.symm
   ·exact n2 h
 ·unfold aI
  by_cases e:x=b
  ·rw[if_pos e]
   refine⟨fun h=>absurd h a1,?_⟩
   rintro(h|h)
   ·rcases anF.1 h with h|h
    ·exact absurd (h.symm.trans e) zI
    ·exact absurd (e▸h) n2
   ·exact absurd (show x∈a::b::W by rw[e];simp) (m.nr x h).2
  ·rw[if_neg e,m.jt x hx]
   simp only[anF,e,false_or]
 ·rcases anF.1 h with rfl|h
  ·simp
  ·simp[h]
 ·unfold nF
  rw[if_neg]
  ·exact m.fr x hx
  ·rintro rfl
   exact(m.nr x hx).2 (by simp)
def ws(l:List Int):List Int:=l.filter fun x=>decide (x≠ -1)
theorem dX(r:Int):ws [r]=if r= -1 then[]else[r]:=by
 unfold ws
 by_cases h:r= -1
 ·rw[if_pos h,h];rfl
 ·rw[if_neg h,aoC,if_pos (by simp[h])];rfl
theorem mz(r:Int)(l:List Int):ws (r::l)=ws [r]++ws l:=by
 rw[show r::l=[r]++l from rfl]
 unfold ws
 rw[apd]
theorem Dm.done{T:Int→Int}{r:Int}(m:Dm hm lt g R Hx ch par (ws [r]))(ht:∀h,h≠g→T h≠ -1→hm (T h)=h∧0<h∧R (T h))(hR:∀x,R x→hm x≠g∧T (hm x)=x):TP hm lt par (iX T g r):=by
 rw[dX]at m
 refine⟨fun x p hp DN=>by have:=m.pr.dn p x (m.pr.up x p hp DN);exact this.2.2,fun h hh=>?_,fun x hx hu=>?_⟩
 ·unfold iX at hh ⊢
  split
  ·rename_i e
   rw[if_pos e]at hh
   rw[if_neg hh]at m
   obtain⟨h1,h2,h3⟩:=m.wm r (by simp)
   exact⟨by rw[h2,e],by rw[e];exact m.g0,h3⟩
  ·rename_i e
   rw[if_neg e]at hh
   obtain⟨h1,h2,h3⟩:=ht h e hh
   exact⟨h1,h2,(m.jt _ (by omega)).2 (.inr h3)⟩
 ·unfold iX
  rcases(m.jt x hx).1 hu with h|h
  ·by_cases hr:r= -1
   ·rw[if_pos hr]at h;cases h
   ·rw[if_neg hr]at h m
    have e:=anC.1 h
    rw[e,if_pos (m.wm r (by simp)).2.1]
  ·obtain⟨h1,h2⟩:=hR x h
   rw[if_neg h1,h2]
structure TR(hm:Int→Int)(lt:Int→Int→Bool)(ch:Int→List Int)(par:Int→Int)(T:Int→Int):Prop where
 pr:Pr hm lt ch par
 tp:TP hm lt par T
variable {T : Int → Int} {x : Int}
structure ST(hm:Int→Int)(lt:Int→Int→Bool)(ch:Int→List Int)(par:Int→Int)(T:Int→Int)(g x:Int):Prop where
 pr:Pr hm lt ch par
 t1:∀h,T h≠ -1→hm (T h)=h∧0<h∧par (T h)= -1
 t2:∀y,0<hm y→par y= -1→y≠x→T (hm y)=y
 ox:x≠ -1∧hm x=g∧par x= -1
 nx:T g≠x
 g0:0<g
theorem ST.w(o:ST hm lt ch par T g x):Dm hm lt g (fun y=>0<hm y∧par y= -1∧y≠x∧y≠T g) ch ch par (ws [T g,x]):=by
 have e:ws [T g,x]=if T g= -1 then[x]else[T g,x]:=by
  rw[mz,dX,dX,if_neg o.ox.1]
  split<;>rfl
 rw[e]
 refine⟨o.pr,?_,fun y hy=>?_,fun y hy=>?_,fun y hy=>⟨hy.1,fun h=>?_⟩,fun _ _=>rfl,o.g0⟩
 ·split
  ·simp
  ·simp[o.nx]
 ·split at hy
  ·rw[anC]at hy;rw[hy];exact o.ox
  ·rename_i h
   rcases anF.1 hy with rfl|hy
   ·obtain⟨h1,h2,h3⟩:=o.t1 g h
    exact⟨h,h1,h3⟩
   ·rw[anC]at hy;rw[hy];exact o.ox
 ·constructor
  ·intro hp
   by_cases h1:y=x
   ·left;split<;>simp[h1]
   ·by_cases h2:y=T g
    ·left
     rw[if_neg (fun h=>by rw[h2,h,o.pr.h0]at hy;omega)]
     simp[h2]
    ·exact .inr ⟨hy,hp,h1,h2⟩
  ·rintro(h|h)
   ·split at h
    ·rw[anC]at h;rw[h];exact o.ox.2.2
    ·rename_i hn
     rcases anF.1 h with rfl|h
     ·exact(o.t1 g hn).2.2
     ·rw[anC]at h;rw[h];exact o.ox.2.2
   ·exact h.2.1
 ·obtain⟨_,_,h3,h4⟩:=hy
  split at h
  ·simp[h3]at h
  ·simp[h3,h4]at h
theorem ST.done{dU:Int→List Int}{bF:Int→Int}{r:Int}(o:ST hm lt ch par T g x)(m:Dm hm lt g (fun y=>0<hm y∧par y= -1∧y≠x∧y≠T g) ch dU bF (ws [r])):TR hm lt dU bF (iX T g r):=by
 refine⟨m.pr,m.done (fun h aP hh=>?_) (fun y hy=>?_)⟩
 ·obtain⟨h1,h2,h3⟩:=o.t1 h hh
  refine⟨h1,h2,by omega,h3,fun e=>?_,fun e=>?_⟩
  ·rw[e,o.ox.2.1]at h1;exact aP h1.symm
  ·by_cases h4:T g= -1
   ·rw[e]at hh;exact hh h4
   ·have:=(o.t1 g h4).1
    rw[←e,h1]at this
    exact aP this
 ·obtain⟨h1,h2,h3,h4⟩:=hy
  have h5:=o.t2 y h1 h2 h3
  exact⟨fun e=>by rw[e]at h5;exact h4 h5.symm,h5⟩
theorem Pr.alone(q:Pr hm lt ch par){x:Int}(hx:hm x≤0)(kU:x≠ -1):par x= -1∧ch x=[]:=by
 constructor
 ·apply anW
  intro h
  have:=(q.dn _ _ (q.up x _ rfl h)).2.2.2.1
  omega
 ·cases h:ch x with
  |nil=>rfl
  |cons c r=>
   have:=q.dn x c (by rw[h];simp)
   omega
theorem TR.ins(t:TR hm lt ch par T)(h0:hm' (-1)=0)(hx:hm x≤0)(kU:x≠ -1)(hg:0<g)(e1:hm' x=g)(e2:∀y,y≠x→hm' y=hm y)(el:∀a b,0<hm a→0<hm b→a≠x→b≠x→lt' a b=lt a b):ST hm' lt' ch par T g x:=by
 obtain⟨a1,a2⟩:=t.pr.alone hx kU
 have tx:∀h,T h≠x:=fun h e=>by
  obtain⟨h1,h2,_⟩:=t.tp.t1 h (by rw[e];exact kU)
  rw[e]at h1
  omega
 refine⟨t.pr.other h0 fun y c hc h1 h2 h3=>?_,fun h hh=>?_,fun y hy hu aP=>?_,⟨kU,e1,a1⟩,tx g,hg⟩
 ·have n1:y≠x:=fun e=>by rw[e,a2]at hc;cases hc
  have n2:c≠x:=fun e=>by rw[e]at h2;omega
  rw[e2 _ n1,e2 _ n2,el _ _ (by omega) h2 n1 n2]
  exact⟨h1,h2,h3⟩
 ·obtain⟨h1,h2,h3⟩:=t.tp.t1 h hh
  exact⟨by rw[e2 _ (tx h)];exact h1,h2,h3⟩
 ·rw[e2 _ aP]at hy ⊢
  exact t.tp.t2 y hy hu
theorem TR.off(t:TR hm lt ch par T){p:Int}{l1 l2:List Int}(hp:ch p=l1++x::l2):ST hm lt (ay ch p (l1++l2)) (aI par x (-1)) T (hm x) x:=by
 obtain⟨h1,h2,h3,h4,h5⟩:=t.pr.dn p x (by rw[hp];simp)
 have kU:x≠ -1:=fun e=>by rw[e,t.pr.h0]at h4;omega
 refine⟨t.pr.off hp,fun h hh=>?_,fun y hy hu aP=>?_,⟨kU,rfl,by unfold aI;rw[if_pos rfl]⟩,fun e=>?_,h4⟩
 ·obtain⟨g1,g2,g3⟩:=t.tp.t1 h hh
  refine⟨g1,g2,?_⟩
  unfold aI
  split
  ·rfl
  ·exact g3
 ·unfold aI at hu
  rw[if_neg aP]at hu
  exact t.tp.t2 y hy hu
 ·have:=(t.tp.t1 (hm x) (by rw[e];exact kU)).2.2
  rw[e,h1]at this
  exact h2 this
theorem ST.low(o:ST hm lt ch par T g x)(el:∀a b,0<hm a→0<hm b→a≠x→b≠x→lt' a b=lt a b)(ex:∀b,0<hm b→b≠x→lt x b=true→lt' x b=true):ST hm lt' ch par T g x:=by
 refine⟨o.pr.other o.pr.h0 fun y c hc h1 h2 h3=>⟨h1,h2,?_⟩,o.t1,o.t2,o.ox,o.nx,o.g0⟩
 have n2:c≠x:=fun e=>by
  have:=o.pr.dn y c hc
  rw[e,o.ox.2.2]at this
  exact this.2.1 this.1.symm
 by_cases n1:y=x
 ·rw[n1]at h3 ⊢
  exact ex c h2 n2 h3
 ·rw[el _ _ (by omega) h2 n1 n2];exact h3
theorem TR.TD(t:TR hm lt ch par T)(hu:par x= -1)(el:∀a b,0<hm a→0<hm b→a≠x→b≠x→lt' a b=lt a b)(ex:∀b,0<hm b→b≠x→lt x b=true→lt' x b=true):TR hm lt' ch par T:=by
 have key:Pr hm lt' ch par:=t.pr.other t.pr.h0 fun y c hc h1 h2 h3=>⟨h1,h2,by
  have n2:c≠x:=fun e=>by
   have:=t.pr.dn y c hc
   rw[e,hu]at this
   exact this.2.1 this.1.symm
  by_cases n1:y=x
  ·rw[n1]at h3 ⊢
   exact ex c h2 n2 h3
  ·rw[el _ _ (by omega) h2 n1 n2];exact h3⟩
 exact⟨key,fun c y hc hy=>(key.dn y c (key.up c y hc hy)).2.2,t.tp.t1,t.tp.t2⟩
theorem Pr.WG(q:Pr hm lt ch par)(hx:0<hm x):Dm hm lt (hm x) (fun y=>0<hm y∧par y= -1) (ay ch x []) (ay ch x []) (fk ch par x) (ch x):=by
 refine⟨q.bare x,q.nd x,fun y hy=>⟨q.ne hy,(q.dn x y hy).2.2.1.symm,by unfold fk;rw[if_pos hy]⟩,fun y hy=>?_,fun y hy=>⟨hy.1,fun h=>?_⟩,fun _ _=>rfl,hx⟩
 ·unfold fk
  split
  ·rename_i h;exact⟨fun _=>.inl h,fun _=>rfl⟩
  ·rename_i h;exact⟨fun h2=>.inr ⟨hy,h2⟩,fun h2=>(h2.resolve_left h).2⟩
 ·have:=q.dn x y h
  rw[hy.2]at this
  exact this.2.1 this.1.symm
theorem Dm.drop{W:List Int}(m:Dm hm lt g R Hx ch par W)(hx:R x)(hc:ch x=[])(hp:par x= -1)(h0:hm' (-1)=0)(e1:hm' x=0)(e2:∀y,y≠x→hm' y=hm y)(el:∀a b,0<hm a→0<hm b→a≠x→b≠x→lt' a b=lt a b):
  Dm hm' lt' g (fun y=>R y∧y≠x) Hx ch par W:=by
 have nx:∀y c,c∈ch y→y≠x∧c≠x:=fun y c Kl=>by
  refine⟨fun e=>?_,fun e=>?_⟩
  ·rw[e,hc]at Kl;cases Kl
  ·have:=m.pr.dn y c Kl
   rw[e,hp]at this
   exact this.2.1 this.1.symm
 have hW:=(m.nr x hx).2
 refine⟨m.pr.other h0 fun y c Kl h1 h2 h3=>?_,m.nd,fun y hy=>?_,fun y hy=>?_,fun y hy=>⟨?_,(m.nr y hy.1).2⟩,fun y hy=>m.fr y hy.1,m.g0⟩
 ·obtain⟨n1,n2⟩:=nx y c Kl
  rw[e2 _ n1,e2 _ n2,el _ _ (by omega) h2 n1 n2]
  exact⟨h1,h2,h3⟩
 ·obtain⟨h1,h2,h3⟩:=m.wm y hy
  exact⟨h1,by rw[e2 _ (fun e=>hW (e▸hy))];exact h2,h3⟩
 ·have aP:y≠x:=fun e=>by rw[e,e1]at hy;omega
  rw[e2 _ aP]at hy
  rw[m.jt y hy]
  exact⟨fun h=>h.imp_right fun h=>⟨h,aP⟩,fun h=>h.imp_right fun h=>h.1⟩
 ·rw[e2 _ hy.2];exact(m.nr y hy.1).1
theorem Dm.cB(m:Dm hm lt g R Hx ch par W){t:Int}(ht:t≠ -1→R t∧hm t=g):Dm hm lt g (fun y=>R y∧y≠t) Hx ch par (ws [t]++W):=by
 rw[dX]
 by_cases h:t= -1
 ·rw[if_pos h,aoB]
  refine⟨m.pr,m.nd,m.wm,fun x hx=>?_,fun x hx=>m.nr x hx.1,fun x hx=>m.fr x hx.1,m.g0⟩
  rw[m.jt x hx]
  have hn:x≠t:=fun e=>by rw[e,h,m.pr.h0]at hx;omega
  exact⟨fun h=>h.imp_right fun h=>⟨h,hn⟩,fun h=>h.imp_right fun h=>h.1⟩
 ·obtain⟨h1,h2⟩:=ht h
  obtain⟨h3,h4⟩:=m.nr t h1
  rw[if_neg h]
  refine⟨m.pr,anN.2 ⟨h4,m.nd⟩,fun x hx=>?_,fun x hx=>?_,fun x hx=>⟨(m.nr x hx.1).1,fun h=>?_⟩,fun x hx=>m.fr x hx.1,m.g0⟩
  ·rcases anF.1 hx with rfl|hx
   ·exact⟨h,h2,(m.jt _ h3).2 (.inr h1)⟩
   ·exact m.wm x hx
  ·rw[m.jt x hx]
   constructor
   ·rintro(h|h)
    ·exact .inl (anZ _ h)
    ·by_cases e:x=t
     ·exact .inl (by rw[e];exact aok)
     ·exact .inr ⟨h,e⟩
   ·rintro(h|h)
    ·rcases anF.1 h with rfl|h
     ·exact .inr h1
     ·exact .inl h
    ·exact .inr h.1
  ·rcases anF.1 h with h|h
   ·exact hx.2 h
   ·exact(m.nr x hx.1).2 h
end
end Go.Proofs.YtjlnnljohemifaaGreat
