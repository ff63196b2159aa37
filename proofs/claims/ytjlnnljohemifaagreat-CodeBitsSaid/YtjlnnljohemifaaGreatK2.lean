/- Texts put behind each other. -/
import Derived.Test.YtjlnnljohemifaaGreatK98
import Derived.Test.YtjlnnljohemifaaGreatProg
set_option maxRecDepth 100000
set_option maxHeartbeats 8000000
set_option linter.unusedVariables false
set_option linter.unusedSimpArgs false
namespace Go.Proofs.YtjlnnljohemifaaGreat
structure bv(lt:Int→Int→Bool):Prop where
 vk:∀a,lt a a=false
 tr:∀a b c,lt a b=true→lt b c=true→lt a c=true
 nt:∀a b c,lt a b=false→lt b c=false→lt a c=false
 Ob:∀a b,a≠b→lt a b=true∨lt b a=true
theorem bv.asym{lt:Int→Int→Bool}(h:bv lt){a b:Int}(zI:lt a b=true):lt b a=false:=by
 cases hba:lt b a with
 |false=>rfl
 |true=>have:=h.tr a b a zI hba;rw[h.vk]at this;cases this
end Go.Proofs.YtjlnnljohemifaaGreat

namespace Go.Proofs.YtjlnnljohemifaaGreat
theorem rH{α:Type}{p q:α→Bool}:∀ {l:List α},(∀i,p i=true→q i=true)→∀ {x:α},x∈l→p x=false→q x=true→l.countP p<l.countP q:=by
 intro l NP x hx hp hq
 induction l with
 |nil=>cases hx
 |cons a l ih=>
  rw[aoE,aoE]
  have oY:l.countP p≤l.countP q:=List.countP_mono_left fun i _ h=>NP i h
  rcases anF.1 hx with rfl|hx
  ·rw[hp,hq];simp;omega
  ·have:=ih hx
   have h2:=NP a
   cases Qt:p a
   ·cases q a<;>simp<;>omega
   ·rw[h2 Qt];simp;omega
section
variable {hm : Int → Int} {lt : Int → Int → Bool} {K : Int → Bool → Int} {U : Int → Int}
def eo(K:Int→Bool→Int)(p:Int)(c:Bool)(v:Int):Int→Bool→Int:=fun y d=>if y=p∧d=c then v else K y d
def aI(U:Int→Int)(x v:Int):Int→Int:=fun y=>if y=x then v else U y
def nk(K:Int→Bool→Int)(p:Int):Int→Bool→Int:=fun y d=>if y=p then K y (!d)else K y d
def uq(K:Int→Bool→Int)(p x:Int)(c:Bool):=eo K p c x
def iJ(K:Int→Bool→Int)(U:Int→Int)(x:Int):Int→Bool→Int:=if U x= -1 then K else eo K (U x) (K (U x) true==x) (-1)
def cW(U:Int→Int)(x:Int):Int→Int:=aI U x (-1)
structure Bt(hm:Int→Int)(lt:Int→Int→Bool)(K:Int→Bool→Int)(U:Int→Int):Prop where
 h0:hm (-1)=0
 ku:∀p c x,K p c=x→x≠ -1→U x=p∧p≠ -1
 uk:∀x p,U x=p→p≠ -1→(∃c,K p c=x)∧x≠ -1∧hm p=hm x∧0<hm x∧lt p x=true
 two:∀p,K p false=K p true→K p false= -1
theorem Bt.home(h:Bt hm lt K U){p:Int}{c:Bool}(hk:K p c≠ -1):U (K p c)=p∧p≠ -1∧hm (K p c)=hm p∧0<hm p∧lt p (K p c)=true:=by
 obtain⟨h1,h2⟩:=h.ku p c _ rfl hk
 obtain⟨_,_,h3,h4,h5⟩:=h.uk _ p h1 h2
 exact⟨h1,h2,h3.symm,by omega,h5⟩
theorem Bt.kids(h:Bt hm lt K U){p x:Int}(hx:x≠ -1){c d:Bool}(h1:K p c=x)(h2:K p d=x):c=d:=by
 cases c<;>cases d
 ·rfl
 ·exact absurd (h.two p (by rw[h1,h2])) (by rw[h1];exact hx)
 ·exact absurd (h.two p (by rw[h1,h2])) (by rw[h2];exact hx)
 ·rfl
theorem Bt.side(h:Bt hm lt K U){x p:Int}(hu:U x=p)(hp:p≠ -1):K p (K p true==x)=x:=by
 obtain⟨⟨c,hc⟩,hx,_⟩:=h.uk x p hu hp
 cases c
 ·by_cases ht:K p true=x
  ·have:=h.kids hx hc ht
   cases this
  ·rw[beq_eq_false_iff_ne.2 ht];exact hc
 ·rw[hc,beq_self_eq_true];exact hc
theorem iW(h:Bt hm lt K U)(x:Int)(hx:x≠ -1)(p:Int)(c:Bool):iJ K U x p c=if K p c=x then -1 else K p c:=by
 unfold iJ
 by_cases hu:U x= -1
 ·rw[if_pos hu,if_neg]
  intro hk
  have:=h.ku p c x hk hx
  omega
 ·rw[if_neg hu]
  unfold eo
  by_cases hk:K p c=x
  ·obtain⟨h1,h2⟩:=h.ku p c x hk hx
   have e:p=U x∧c=(K (U x) true==x):=⟨h1.symm,by rw[h1];exact h.kids hx hk (h.side h1 h2)⟩
   rw[if_pos hk,if_pos e]
  ·rw[if_neg hk,if_neg]
   rintro⟨rfl,rfl⟩
   exact hk (h.side rfl hu)
theorem Bt.cut(h:Bt hm lt K U)(x:Int)(hx:x≠ -1):Bt hm lt (iJ K U x) (cW U x):=by
 refine⟨h.h0,fun p c y hk hy=>?_,fun y p hu hp=>?_,fun p he=>?_⟩
 ·rw[iW h x hx]at hk
  split at hk
  ·exact absurd hk.symm hy
  ·rename_i aP
   obtain⟨h1,h2⟩:=h.ku p c y hk hy
   refine⟨?_,h2⟩
   unfold cW aI
   rw[if_neg (fun e=>aP (by rw[hk,e]))]
   exact h1
 ·unfold cW aI at hu
  split at hu
  ·exact absurd hu.symm hp
  ·rename_i aP
   obtain⟨⟨c,hc⟩,h2⟩:=h.uk y p hu hp
   exact⟨⟨c,by rw[iW h x hx,if_neg (by rw[hc];exact aP)];exact hc⟩,h2⟩
 ·rw[iW h x hx,iW h x hx]at he
  rw[iW h x hx]
  split at he
  ·rename_i h1
   rw[if_pos h1]
  ·rename_i h1
   split at he
   ·rw[if_neg h1];exact he
   ·rw[if_neg h1];exact h.two p he
theorem Bt.IN(h:Bt hm lt K U){p x:Int}{c:Bool}(hp:p≠ -1)(hx:x≠ -1)(hk:K p c= -1)(hu:U x= -1)(hh:hm p=hm x)(h0:0<hm x)(hl:lt p x=true):Bt hm lt (uq K p x c) (aI U x p):=by
 refine⟨h.h0,fun q d y hq hy=>?_,fun y q hq Qu=>?_,fun q he=>?_⟩
 ·unfold uq eo at hq
  unfold aI
  split at hq
  ·rename_i h1
   rw[if_pos hq.symm]
   exact⟨h1.1.symm,by rw[h1.1];exact hp⟩
  ·obtain⟨h1,h2⟩:=h.ku q d y hq hy
   rw[if_neg (fun e=>h2 (by rw[←h1,e,hu]))]
   exact⟨h1,h2⟩
 ·unfold aI at hq
  split at hq
  ·rename_i h1
   subst h1;subst hq
   exact⟨⟨c,by unfold uq eo;rw[if_pos ⟨rfl,rfl⟩]⟩,hx,hh,h0,hl⟩
  ·obtain⟨⟨d,hd⟩,h2,h3⟩:=h.uk y q hq Qu
   refine⟨⟨d,?_⟩,h2,h3⟩
   unfold uq eo
   rw[if_neg]
   ·exact hd
   ·rintro⟨rfl,rfl⟩
    rw[hk]at hd
    exact h2 hd.symm
 ·unfold uq eo at he ⊢
  have bK:∀d,K q d≠x:=fun d hd=>by
   obtain⟨h1,h2⟩:=h.ku q d x hd hx
   exact h2 (by rw[←h1,hu])
  by_cases h1:q=p∧false=c
  ·rw[if_pos h1,if_neg (fun h2=>by have:=h1.2.trans h2.2.symm;cases this)]at he
   exact absurd he.symm (bK true)
  ·rw[if_neg h1]at he ⊢
   split at he
   ·exact absurd he (bK false)
   ·exact h.two q he
theorem Bt.tg(h:Bt hm lt K U)(p:Int):Bt hm lt (nk K p) U:=by
 refine⟨h.h0,fun q d y hq hy=>?_,fun y q hq Qu=>?_,fun q he=>?_⟩
 ·unfold nk at hq
  split at hq
  ·exact h.ku q _ y hq hy
  ·exact h.ku q _ y hq hy
 ·obtain⟨⟨d,hd⟩,h2⟩:=h.uk y q hq Qu
  refine⟨?_,h2⟩
  by_cases e:q=p
  ·exact⟨!d,by unfold nk;rw[if_pos e,Bool.not_not];exact hd⟩
  ·exact⟨d,by unfold nk;rw[if_neg e];exact hd⟩
 ·unfold nk at he ⊢
  split at he
  ·rename_i e
   rw[if_pos e]
   have:=h.two q he.symm
   simp only[ao8,api]at he ⊢
   rw[he];exact this
  ·rename_i e
   rw[if_neg e]
   exact h.two q he
structure Mg(hm:Int→Int)(lt:Int→Int→Bool)(h:Int)(R:Int→Prop)(K:Int→Bool→Int)(U:Int→Int)(dI:List Int)(a b:Int):Prop where
 bt:Bt hm lt K U
 wa:a= -1∨(hm a=h∧U a= -1)
 wb:b= -1∨(hm b=h∧U b= -1)
 ab:a=b→a= -1
 wy:∀v∈dI,v≠ -1∧hm v=h∧U v= -1∧K v true= -1∧(a≠ -1→lt v a=true)∧(b≠ -1→lt v b=true)
 YB:dI.Pairwise fun x y=>lt x y=true
 jt:∀x,0<hm x→(U x= -1↔x∈dI∨x=a∨x=b∨R x)
 pos:0<h
 nr:∀x,R x→0<hm x∧x∉dI∧x≠a∧x≠b
theorem Mg.start{h a b:Int}(bt:Bt hm lt K U)(h0:0<h)(wa:a= -1∨(hm a=h∧U a= -1))(wb:b= -1∨(hm b=h∧U b= -1))(ab:a=b→a= -1):Mg hm lt h (fun x=>0<hm x∧U x= -1∧x≠a∧x≠b) K U [] a b:=
 ⟨bt,wa,wb,ab,by simp,by simp,fun x hx=>by
  have hb:=bt.h0
  constructor
  ·intro hu
   by_cases h1:x=a
   ·exact .inr (.inl h1)
   ·by_cases h2:x=b
    ·exact .inr (.inr (.inl h2))
    ·exact .inr (.inr (.inr ⟨hx,hu,h1,h2⟩))
  ·rintro(h1|h1|h1|h1)
   ·simp at h1
   ·subst h1
    rcases wa with h2|h2
    ·rw[h2,hb]at hx;omega
    ·exact h2.2
   ·subst h1
    rcases wb with h2|h2
    ·rw[h2,hb]at hx;omega
    ·exact h2.2
   ·exact h1.2.1,h0,fun x hx=>⟨hx.1,by simp,hx.2.2⟩⟩
variable {h : Int} {R : Int → Prop} {dI : List Int} {a b : Int}
theorem Mg.swap(m:Mg hm lt h R K U dI a b):Mg hm lt h R K U dI b a:=
 ⟨m.bt,m.wb,m.wa,fun e=>by rw[e];exact m.ab e.symm,fun v hv=>by obtain⟨h1,h2,h3,h4,h5,h6⟩:=m.wy v hv;exact⟨h1,h2,h3,h4,h6,h5⟩,m.YB,fun x hx=>by rw[m.jt x hx];constructor<;>rintro(h1|h1|h1|h1)<;>simp[h1],m.pos,fun x hx=>by obtain⟨h1,h2,h3,h4⟩:=m.nr x hx;exact⟨h1,h2,h4,h3⟩⟩
theorem oH{α:Type}{r:α→α→Prop}{l:List α}{x:α}:(l++[x]).Pairwise r↔l.Pairwise r∧∀y∈l,r y x:=by
 rw[apk]
 simp
theorem Mg.down(hs:bv lt)(m:Mg hm lt h R K U dI a b)(ha:a≠ -1)(hb:b≠ -1)(hl:lt a b=true):
  Mg hm lt h R (if K a true= -1 then K else iJ K U (K a true)) (if K a true= -1 then U else cW U (K a true)) (dI++[a]) (K a true) b:=by
 obtain⟨a1,a2⟩:=m.wa.resolve_left ha
 obtain⟨b1,b2⟩:=m.wb.resolve_left hb
 by_cases hk:K a true= -1
 ·rw[if_pos hk,if_pos hk,hk]
  refine⟨m.bt,.inl rfl,m.wb,fun e=>rfl,fun v hv=>?_,oH.2 ⟨m.YB,fun v hv=>(m.wy v hv).2.2.2.2.1 ha⟩,fun x hx=>?_,m.pos,fun x hx=>?_⟩
  ·rcases anH.1 hv with hv|hv
   ·obtain⟨h1,h2,h3,h4,h5,h6⟩:=m.wy v hv
    exact⟨h1,h2,h3,h4,fun h=>absurd rfl h,h6⟩
   ·rw[anC]at hv
    subst hv
    exact⟨ha,a1,a2,hk,fun h=>absurd rfl h,fun _=>hl⟩
  ·rw[m.jt x hx,anH,anC]
   constructor
   ·rintro(h1|h1|h1|h1)
    ·exact .inl (.inl h1)
    ·exact .inl (.inr h1)
    ·exact .inr (.inr (.inl h1))
    ·exact .inr (.inr (.inr h1))
   ·rintro((h1|h1)|h1|h1|h1)
    ·exact .inl h1
    ·exact .inr (.inl h1)
    ·rw[h1,m.bt.h0]at hx;omega
    ·exact .inr (.inr (.inl h1))
    ·exact .inr (.inr (.inr h1))
  ·obtain⟨h1,h2,h3,h4⟩:=m.nr x hx
   refine⟨h1,?_,fun e=>by rw[e,m.bt.h0]at h1;omega,h4⟩
   rw[anH,anC]
   exact fun h=>h.elim h2 h3
 ·rw[if_neg hk,if_neg hk]
  obtain⟨k1,k2,k3,k4,k5⟩:=m.bt.home hk
  have kb:K a true≠b:=fun e=>by rw[e,b2]at k1;omega
  have kv:∀v∈dI,v≠K a true:=fun v hv e=>by
   have:=(m.wy v hv).2.2.1
   rw[e,k1]at this
   exact ha this
  have ka:a≠K a true:=fun e=>by
   rw[←e,hs.vk]at k5
   cases k5
  refine⟨m.bt.cut _ hk,.inr ⟨by rw[k3,a1],by unfold cW aI;rw[if_pos rfl]⟩,.inr ⟨b1,?_⟩,fun e=>absurd e kb,fun v hv=>?_,oH.2 ⟨m.YB,fun v hv=>(m.wy v hv).2.2.2.2.1 ha⟩,fun x hx=>?_,m.pos,fun x hx=>?_⟩
  ·unfold cW aI
   split
   ·rfl
   ·exact b2
  ·rcases anH.1 hv with hv|hv
   ·obtain⟨h1,h2,h3,h4,h5,h6⟩:=m.wy v hv
    refine⟨h1,h2,?_,?_,fun _=>hs.tr _ _ _ (h5 ha) k5,h6⟩
    ·unfold cW aI
     rw[if_neg (kv v hv)]
     exact h3
    ·rw[iW m.bt _ hk]
     split
     ·rfl
     ·exact h4
   ·rw[anC]at hv
    subst hv
    refine⟨ha,a1,?_,?_,fun _=>k5,fun _=>hl⟩
    ·unfold cW aI
     rw[if_neg ka]
     exact a2
    ·rw[iW m.bt _ hk,if_pos rfl]
  ·rw[anH,anC]
   unfold cW aI
   by_cases e:x=K a true
   ·rw[if_pos e]
    exact⟨fun _=>.inr (.inl e),fun _=>rfl⟩
   ·rw[if_neg e,m.jt x hx]
    constructor
    ·rintro(h1|h1|h1|h1)
     ·exact .inl (.inl h1)
     ·exact .inl (.inr h1)
     ·exact .inr (.inr (.inl h1))
     ·exact .inr (.inr (.inr h1))
    ·rintro((h1|h1)|h1|h1|h1)
     ·exact .inl h1
     ·exact .inr (.inl h1)
     ·exact absurd h1 e
     ·exact .inr (.inr (.inl h1))
     ·exact .inr (.inr (.inr h1))
  ·obtain⟨h1,h2,h3,h4⟩:=m.nr x hx
   refine⟨h1,?_,fun e=>?_,h4⟩
   ·rw[anH,anC]
    exact fun h=>h.elim h2 h3
   ·have:=(m.jt x h1).2 (.inr (.inr (.inr hx)))
    rw[e,k1]at this
    exact ha this
theorem Mg.back{v r:Int}(m:Mg hm lt h R K U (dI++[v]) r (-1))(hs:bv lt):
  Mg hm lt h R (if r= -1 then K else uq K v r true) (if r= -1 then U else aI U r v) dI v (-1):=by
 obtain⟨v1,v2,v3,v4,v5,v6⟩:=m.wy v (by simp)
 obtain⟨s1,s2⟩:=oH.1 m.YB
 have nv:∀u∈dI,u≠v:=fun u hu e=>by
  have:=s2 u hu
  rw[e,hs.vk]at this
  cases this
 have nrv:∀x,R x→0<hm x∧x∉dI∧x≠v∧x≠ -1:=fun x hx=>by
  obtain⟨h1,h2,h3,h4⟩:=m.nr x hx
  rw[anH,anC,not_or]at h2
  exact⟨h1,h2.1,h2.2,h4⟩
 by_cases hr:r= -1
 ·rw[if_pos hr,if_pos hr]
  refine⟨m.bt,.inr ⟨v2,v3⟩,.inl rfl,fun e=>e,fun u hu=>?_,s1,fun x hx=>?_,m.pos,fun x hx=>nrv x hx⟩
  ·obtain⟨h1,h2,h3,h4,h5,h6⟩:=m.wy u (by simp[hu])
   exact⟨h1,h2,h3,h4,fun _=>s2 u hu,fun h=>absurd rfl h⟩
  ·rw[m.jt x hx,anH,anC]
   constructor
   ·rintro((h1|h1)|h1|h1|h1)
    ·exact .inl h1
    ·exact .inr (.inl h1)
    ·rw[h1,hr,m.bt.h0]at hx;omega
    ·exact .inr (.inr (.inl h1))
    ·exact .inr (.inr (.inr h1))
   ·rintro(h1|h1|h1|h1)
    ·exact .inl (.inl h1)
    ·exact .inl (.inr h1)
    ·exact .inr (.inr (.inl h1))
    ·exact .inr (.inr (.inr h1))
 ·rw[if_neg hr,if_neg hr]
  obtain⟨r1,r2⟩:=m.wa.resolve_left hr
  have ru:∀u∈dI++[v],u≠r:=fun u hu e=>by
   have:=(m.wy u hu).2.2.2.2.1 hr
   rw[e,hs.vk]at this
   cases this
  have rv:=ru v (by simp)
  refine⟨m.bt.IN v1 hr v4 r2 (by rw[v2,r1]) (by rw[r1];exact m.pos) (v5 hr),.inr ⟨v2,?_⟩,.inl rfl,fun e=>e,fun u hu=>?_,s1,fun x hx=>?_,m.pos,fun x hx=>nrv x hx⟩
  ·unfold aI
   rw[if_neg rv]
   exact v3
  ·obtain⟨h1,h2,h3,h4,h5,h6⟩:=m.wy u (by simp[hu])
   refine⟨h1,h2,?_,?_,fun _=>s2 u hu,fun h=>absurd rfl h⟩
   ·unfold aI
    rw[if_neg (ru u (by simp[hu]))]
    exact h3
   ·unfold uq eo
    rw[if_neg (fun e=>nv u hu e.1)]
    exact h4
  ·unfold aI
   by_cases e:x=r
   ·rw[if_pos e]
    constructor
    ·intro e1
     exact absurd e1 v1
    ·rintro(h1|h1|h1|h1)
     ·exact absurd e (ru x (by simp[h1]))
     ·exact absurd (h1.symm.trans e) rv
     ·rw[h1,m.bt.h0]at hx;omega
     ·exact absurd e (m.nr x h1).2.2.1
   ·rw[if_neg e,m.jt x hx,anH,anC]
    constructor
    ·rintro((h1|h1)|h1|h1|h1)
     ·exact .inl h1
     ·exact .inr (.inl h1)
     ·exact absurd h1 e
     ·exact .inr (.inr (.inl h1))
     ·exact .inr (.inr (.inr h1))
    ·rintro(h1|h1|h1|h1)
     ·exact .inl (.inl h1)
     ·exact .inl (.inr h1)
     ·exact .inr (.inr (.inl h1))
     ·exact .inr (.inr (.inr h1))
theorem Mg.tg{r:Int}(m:Mg hm lt h R K U dI r (-1))(hs:bv lt):Mg hm lt h R (nk K r) U dI r (-1):=by
 by_cases hr:r= -1
 ·have e:nk K r=K:=by
   funext y d
   unfold nk
   split
   ·rename_i e
    subst e;subst hr
    have h1:∀c,K (-1) c= -1:=fun c=>by
     by_cases hc:K (-1) c= -1
     ·exact hc
     ·exact absurd rfl (m.bt.home hc).2.1
    rw[h1,h1]
   ·rfl
  rw[e];exact m
 refine⟨m.bt.tg r,m.wa,m.wb,m.ab,fun v hv=>?_,m.YB,m.jt,m.pos,m.nr⟩
 obtain⟨h1,h2,h3,h4,h5,h6⟩:=m.wy v hv
 refine⟨h1,h2,h3,?_,h5,h6⟩
 unfold nk
 rw[if_neg]
 ·exact h4
 ·intro e
  have:=h5 hr
  rw[e,hs.vk]at this
  cases this
structure AC(hm:Int→Int)(lt:Int→Int→Bool)(K:Int→Bool→Int)(U:Int→Int)(T:Int→Int):Prop where
 bt:Bt hm lt K U
 t1:∀h,T h≠ -1→hm (T h)=h∧0<h∧U (T h)= -1
 t2:∀x,0<hm x→U x= -1→T (hm x)=x
def iX(T:Int→Int)(h x:Int):Int→Int:=fun y=>if y=h then x else T y
theorem Mg.done{T:Int→Int}{r:Int}(m:Mg hm lt h R K U [] r (-1))(ht:∀g,g≠h→T g≠ -1→hm (T g)=g∧0<g∧R (T g))(hR:∀x,R x→hm x≠h∧T (hm x)=x):AC hm lt K U (iX T h r):=by
 refine⟨m.bt,fun g hg=>?_,fun x hx hu=>?_⟩
 ·unfold iX at hg ⊢
  split
  ·rename_i e
   rw[if_pos e]at hg
   obtain⟨h1,h2⟩:=m.wa.resolve_left hg
   exact⟨by rw[h1,e],by rw[e];exact m.pos,h2⟩
  ·rename_i e
   rw[if_neg e]at hg
   obtain⟨h1,h2,h3⟩:=ht g e hg
   exact⟨h1,h2,(m.jt _ (by rw[h1];exact h2)).2 (.inr (.inr (.inr h3)))⟩
 ·unfold iX
  rcases(m.jt x hx).1 hu with h1|h1|h1|h1
  ·simp at h1
  ·subst h1
   have hr:x≠ -1:=fun e=>by rw[e,m.bt.h0]at hx;omega
   rw[if_pos (m.wa.resolve_left hr).1]
  ·rw[h1,m.bt.h0]at hx;omega
  ·obtain⟨h2,h3⟩:=hR x h1
   rw[if_neg h2];exact h3
theorem AC.first{T:Int→Int}(t:AC hm lt K U T){x:Int}(h0:0<hm x)(hf:∀y,hm y=hm x→y≠x→lt x y=true)(hs:bv lt):T (hm x)=x:=by
 refine t.t2 x h0 ?_
 apply anW
 intro hu
 obtain⟨_,h1,h2,h3,h4⟩:=t.bt.uk x _ rfl hu
 by_cases e:U x=x
 ·rw[e,hs.vk]at h4;cases h4
 ·have:=hs.asym (hf _ h2 e)
  rw[h4]at this;cases this
theorem AC.least{T:Int→Int}(t:AC hm lt K U T)(hs:bv lt){n:Nat}(hn:∀y,0<hm y→0≤y∧y<n){h:Int}(ht:T h≠ -1){y:Int}(hy:hm y=h)(aP:y≠T h):lt (T h) y=true:=by
 obtain⟨h1,h2,h3⟩:=t.t1 h ht
 have key:∀k:Nat,∀y:Int,hm y=h→y≠T h→((List.range n).filter fun(i:Nat)=>lt i y).length≤k→lt (T h) y=true:=by
  intro k
  induction k with
  |zero=>
   intro y hy aP hk
   by_cases hu:U y= -1
   ·have:=t.t2 y (by omega) hu
    rw[hy]at this
    exact absurd this.symm aP
   ·obtain⟨_,_,h5,h6,h7⟩:=t.bt.uk y _ rfl hu
    have h8:=hn (U y) (by omega)
    have:(U y).toNat∈(List.range n).filter fun(i:Nat)=>lt i y:=aop.2 ⟨aoy.2 (by omega),by rw[show(((U y).toNat:Nat):Int)=U y by omega];exact h7⟩
    rw[an5.1 (Nat.le_zero.1 hk)]at this
    cases this
  |succ k ih=>
   intro y hy aP hk
   by_cases hu:U y= -1
   ·have:=t.t2 y (by omega) hu
    rw[hy]at this
    exact absurd this.symm aP
   ·obtain⟨_,_,h5,h6,h7⟩:=t.bt.uk y _ rfl hu
    by_cases e:U y=T h
    ·rw[←e];exact h7
    ·have h8:=hn (U y) (by omega)
     refine hs.tr _ _ _ (ih (U y) (by omega) e ?_) h7
     have h9:((List.range n).filter fun(i:Nat)=>lt i (U y)).length< ((List.range n).filter fun(i:Nat)=>lt i y).length:=by
      rw[←List.countP_eq_length_filter,←List.countP_eq_length_filter]
      have:∀l:List Nat,(∀i∈l,lt i (U y)=true→lt i y=true):=fun l i _ h=>hs.tr _ _ _ h h7
      refine rH (fun i hi=>hs.tr _ _ _ hi h7) (x:=(U y).toNat) (aoy.2 (by omega)) ?_ ?_
      ·rw[show(((U y).toNat:Nat):Int)=U y by omega];exact hs.vk _
      ·rw[show(((U y).toNat:Nat):Int)=U y by omega];exact h7
     omega
 exact key _ y hy aP (anG _)
theorem Bt.up0(h:Bt hm lt K U):U (-1)= -1:=anW fun hn=>(h.uk (-1) _ rfl hn).2.1 rfl
theorem AD(h:Bt hm lt K U):iJ K U (-1)=K∧cW U (-1)=U:=by
 have h0:=h.up0
 refine⟨by unfold iJ;rw[if_pos h0],?_⟩
 funext z
 unfold cW aI
 split
 ·rename_i e;rw[e,h0]
 ·rfl
theorem Mg.Q9{h:Int}{R:Int→Prop}{dI:List Int}{a b:Int}(hs:bv lt)(m:Mg hm lt h R K U dI a b)(ha:a≠ -1)(hb:b≠ -1)(hl:lt a b=true):
  Mg hm lt h R (iJ K U (K a true)) (cW U (K a true)) (dI++[a]) (K a true) b:=by
 have:=m.down hs ha hb hl
 by_cases hk:K a true= -1
 ·rw[if_pos hk,if_pos hk]at this
  obtain⟨h1,h2⟩:=AD m.bt
  rw[hk]at this ⊢
  rw[h1,h2]
  exact this
 ·rwa[if_neg hk,if_neg hk]at this
theorem Ik:∀ (n:Nat) (l:List Nat),l.Nodup→(∀x∈l,x<n)→l.length≤n:=by
 intro n
 induction n with
 |zero=>
  intro l _ hb
  cases l with
  |nil=>exact anG _
  |cons a l=>exact absurd (hb a (by simp)) (by omega)
 |succ n ih=>
  intro l hn hb
  have h1:=ih (l.erase n) (hn.erase n) fun x hx=>by
   obtain⟨h2,h3⟩:=(List.Nodup.mem_erase_iff hn).1 hx
   have:=hb x h3
   omega
  rw[List.length_erase]at h1
  split at h1<;>omega
theorem bV{l:List Int}{n:Nat}(hn:l.Nodup)(hb:∀x∈l,0≤x∧x<n):l.length≤n:=by
 have h1:(l.map Int.toNat).Nodup:=by
  rw[List.nodup_iff_pairwise_ne]at*
  rw[List.pairwise_map]
  refine List.Pairwise.imp_of_mem (fun{a b} ha jy aP e=>aP ?_) hn
  have:=hb a ha
  have:=hb b jy
  omega
 have h2:=Ik n _ h1 fun x hx=>by
  obtain⟨y,hy,rfl⟩:=anS.1 hx
  have:=hb y hy
  omega
 rwa[anQ]at h2
theorem Mg.nodup{h:Int}{R:Int→Prop}{dI:List Int}{a b:Int}(hs:bv lt)(m:Mg hm lt h R K U dI a b):dI.Nodup:=by
 rw[List.nodup_iff_pairwise_ne]
 exact m.YB.imp fun{x y} hl e=>by rw[e,hs.vk]at hl;cases hl
def MU(lt:Int→Int→Bool)(n:Nat)(x:Int):Nat:=(List.range n).countP fun(i:Nat)=>lt i x
theorem ED(hs:bv lt){n:Nat}{p x:Int}(hp:0≤p∧p<n)(hl:lt p x=true):MU lt n p<MU lt n x:=by
 unfold MU
 refine rH (fun i hi=>hs.tr _ _ _ hi hl) (x:=p.toNat) (aoy.2 (by omega)) ?_ ?_
 ·rw[show((p.toNat:Nat):Int)=p by omega];exact hs.vk _
 ·rw[show((p.toNat:Nat):Int)=p by omega];exact hl
end
end Go.Proofs.YtjlnnljohemifaaGreat

namespace Go.Proofs.YtjlnnljohemifaaGreat
section
variable {hm hm' : Int → Int} {lt lt' : Int → Int → Bool} {K K0 : Int → Bool → Int} {U U0 : Int → Int}
theorem Bt.other(b:Bt hm lt K U)(h0:hm' (-1)=0)(h:∀x p,U x=p→p≠ -1→hm p=hm x→0<hm x→lt p x=true→hm' p=hm' x∧0<hm' x∧lt' p x=true):Bt hm' lt' K U:=
 ⟨h0,b.ku,fun x p hu hp=>by
  obtain⟨h1,h2,h3,h4,h5⟩:=b.uk x p hu hp
  obtain⟨h6,h7,h8⟩:=h x p hu hp h3 h4 h5
  exact⟨h1,h2,h6,h7,h8⟩,b.two⟩
theorem Bt.alone(b:Bt hm lt K U){x:Int}(hx:hm x≤0)(kU:x≠ -1):U x= -1∧∀y,U y≠x:=by
 constructor
 ·apply anW
  intro h
  have:=(b.uk x _ rfl h).2.2.2.1
  omega
 ·intro y hy
  have:=b.uk y x hy kU
  omega
theorem Bt.TB(h:Bt hm lt K U)(x:Int):Bt hm lt (iJ K U x) (cW U x):=by
 by_cases hx:x= -1
 ·subst hx
  obtain⟨h1,h2⟩:=AD h
  rw[h1,h2];exact h
 ·exact h.cut x hx
theorem mK(h:Bt hm lt K U)(x p:Int)(c:Bool):iJ K U x p c=if x≠ -1∧K p c=x then -1 else K p c:=by
 by_cases hx:x= -1
 ·subst hx
  rw[(AD h).1,if_neg (by simp)]
 ·rw[iW h x hx]
  by_cases hk:K p c=x
  ·rw[if_pos hk,if_pos ⟨hx,hk⟩]
  ·rw[if_neg hk,if_neg (fun h=>hk h.2)]
theorem Bt.bare(h:Bt hm lt K U)(x:Int):
  Bt hm lt (iJ (iJ K U (K x false)) (cW U (K x false)) (K x true)) (cW (cW U (K x false)) (K x true))∧
  (∀c,iJ (iJ K U (K x false)) (cW U (K x false)) (K x true) x c= -1)∧
  (∀p c,p≠x→iJ (iJ K U (K x false)) (cW U (K x false)) (K x true) p c=K p c)∧
  (∀y,cW (cW U (K x false)) (K x true) y=if y=K x false∨y=K x true then -1 else U y):=by
 have b1:=h.TB (K x false)
 refine⟨b1.TB _,fun c=>?_,fun p c hp=>?_,fun y=>?_⟩
 ·rw[mK b1,mK h]
  cases c
  ·by_cases h1:K x false= -1
   ·rw[h1];simp
   ·rw[if_pos (show K x false≠ -1∧K x false=K x false from⟨h1,rfl⟩)]
    split<;>rfl
  ·by_cases h1:K x true= -1
   ·rw[h1];simp
   ·have h2:K x true≠K x false:=fun e=>h1 (by rw[e];exact h.two x e.symm)
    have e1:(if K x false≠ -1∧K x true=K x false then -1 else K x true)=K x true:=if_neg fun e=>h2 e.2
    rw[e1,if_pos ⟨h1,rfl⟩]
 ·have key:∀d,K x d≠ -1→K p c≠K x d:=fun d hd e=>by
   have h1:=(h.home (p:=x) (c:=d) hd).1
   have h2:=(h.home (p:=p) (c:=c) (by rw[e];exact hd)).1
   rw[e,h1]at h2
   exact hp h2.symm
  have e1:iJ K U (K x false) p c=K p c:=by rw[mK h,if_neg (fun e=>key false e.1 e.2)]
  rw[mK b1,e1,if_neg (fun e=>key true e.1 e.2)]
 ·unfold cW aI
  by_cases h1:y=K x true
  ·rw[if_pos h1,if_pos (.inr h1)]
  ·rw[if_neg h1]
   by_cases h2:y=K x false
   ·rw[if_pos h2,if_pos (.inl h2)]
   ·rw[if_neg h2,if_neg (by simp[h1,h2])]
structure wP(lt:Int→Int→Bool)(K0:Int→Bool→Int)(U0:Int→Int)(x0:Int)(K:Int→Bool→Int)(U:Int→Int)(dI:List Int)(a b:Int):Prop where
 wv:∀v∈dI,lt x0 v=true
 wa:a≠ -1→lt x0 a=true
 wb:b≠ -1→lt x0 b=true
 fr:∀y,lt x0 y=false→K y=K0 y∧U y=U0 y
variable {x0 a b : Int} {dI : List Int}
theorem wP.start(ha:a≠ -1→lt x0 a=true)(hb:b≠ -1→lt x0 b=true):wP lt K0 U0 x0 K0 U0 [] a b:=⟨by simp,ha,hb,fun _ _=>⟨rfl,rfl⟩⟩
theorem wP.swap(m:wP lt K0 U0 x0 K U dI a b):wP lt K0 U0 x0 K U dI b a:=⟨m.wv,m.wb,m.wa,m.fr⟩
theorem wP.down(hs:bv lt)(bt:Bt hm lt K U)(m:wP lt K0 U0 x0 K U dI a b)(ha:a≠ -1):wP lt K0 U0 x0 (iJ K U (K a true)) (cW U (K a true)) (dI++[a]) (K a true) b:=by
 have h1:=m.wa ha
 refine⟨fun v hv=>?_,fun hk=>hs.tr _ _ _ h1 (bt.home hk).2.2.2.2,m.wb,fun y hy=>?_⟩
 ·rcases anH.1 hv with hv|hv
  ·exact m.wv v hv
  ·rw[anC]at hv;rw[hv];exact h1
 ·obtain⟨f1,f2⟩:=m.fr y hy
  rw[←f1,←f2]
  constructor
  ·funext c
   rw[mK bt,if_neg]
   rintro⟨e1,e2⟩
   have:=(bt.home (p:=a) (c:=true) e1).1
   have h3:=(bt.home (p:=y) (c:=c) (by rw[e2];exact e1)).1
   rw[e2,this]at h3
   rw[←h3,h1]at hy
   cases hy
  ·unfold cW aI
   split
   ·rename_i e
    by_cases e1:K a true= -1
    ·rw[e,e1,bt.up0]
    ·have:=hs.tr _ _ _ h1 (bt.home e1).2.2.2.2
     rw[←e,hy]at this
     cases this
   ·rfl
theorem wP.back(m:wP lt K0 U0 x0 K U (dI++[b]) a (-1)):wP lt K0 U0 x0 (if a= -1 then K else uq K b a true) (if a= -1 then U else aI U a b) dI b (-1):=by
 have h1:=m.wv b (by simp)
 refine⟨fun v hv=>m.wv v (by simp[hv]),fun _=>h1,fun h=>absurd rfl h,fun y hy=>?_⟩
 obtain⟨f1,f2⟩:=m.fr y hy
 by_cases ha:a= -1
 ·rw[if_pos ha,if_pos ha];exact⟨f1,f2⟩
 ·rw[if_neg ha,if_neg ha]
  have h2:=m.wa ha
  constructor
  ·rw[←f1]
   funext c
   unfold uq eo
   rw[if_neg]
   rintro⟨rfl,_⟩
   rw[hy]at h1;cases h1
  ·rw[←f2]
   unfold aI
   rw[if_neg]
   rintro rfl
   rw[hy]at h2;cases h2
theorem wP.tg(m:wP lt K0 U0 x0 K U dI a (-1))(ha:a≠ -1):wP lt K0 U0 x0 (nk K a) U dI a (-1):=by
 refine⟨m.wv,m.wa,m.wb,fun y hy=>?_⟩
 obtain⟨f1,f2⟩:=m.fr y hy
 refine⟨?_,f2⟩
 rw[←f1]
 funext c
 unfold nk
 rw[if_neg]
 rintro rfl
 have:=m.wa ha
 rw[hy]at this;cases this
structure TC(hm:Int→Int)(lt:Int→Int→Bool)(K:Int→Bool→Int)(U:Int→Int)(T:Int→Int)(g x:Int):Prop where
 bt:Bt hm lt K U
 t1:∀h,T h≠ -1→hm (T h)=h∧0<h∧U (T h)= -1
 t2:∀y,0<hm y→U y= -1→y≠x→T (hm y)=y
 ox:hm x=g∧U x= -1
 nx:T g≠x
 g0:0<g
variable {T : Int → Int} {g x : Int}
theorem TC.mg(o:TC hm lt K U T g x):Mg hm lt g (fun y=>0<hm y∧U y= -1∧y≠T g∧y≠x) K U [] (T g) x:=
 Mg.start o.bt o.g0 (by
  by_cases h:T g= -1
  ·exact .inl h
  ·obtain⟨h1,_,h2⟩:=o.t1 g h
   exact .inr ⟨h1,h2⟩) (.inr o.ox) (fun e=>absurd e o.nx)
theorem TC.done{K':Int→Bool→Int}{U':Int→Int}{r:Int}(o:TC hm lt K U T g x)(m:Mg hm lt g (fun y=>0<hm y∧U y= -1∧y≠T g∧y≠x) K' U' [] r (-1)):AC hm lt K' U' (iX T g r):=
 m.done (fun h aP hh=>by
  obtain⟨h1,h2,h3⟩:=o.t1 h hh
  refine⟨h1,h2,by omega,h3,fun e=>?_,fun e=>?_⟩
  ·by_cases h4:T g= -1
   ·rw[e]at hh;exact hh h4
   ·have:=(o.t1 g h4).1
    rw[←e,h1]at this
    exact aP this
  ·rw[e,o.ox.1]at h1
   exact aP h1.symm) (fun y hy=>by
  obtain⟨h1,h2,h3,h4⟩:=hy
  have h5:=o.t2 y h1 h2 h4
  exact⟨fun e=>by rw[e]at h5;exact h3 h5.symm,h5⟩)
theorem AC.ins(t:AC hm lt K U T)(h0:hm' (-1)=0)(hx:hm x≤0)(kU:x≠ -1)(hg:0<g)(e1:hm' x=g)(e2:∀y,y≠x→hm' y=hm y)(el:∀a b,0<hm a→0<hm b→a≠x→b≠x→lt' a b=lt a b):TC hm' lt' K U T g x:=by
 obtain⟨a1,a2⟩:=t.bt.alone hx kU
 have tx:∀h,T h≠x:=fun h e=>by
  obtain⟨h1,h2,_⟩:=t.t1 h (by rw[e];exact kU)
  rw[e]at h1
  omega
 refine⟨t.bt.other h0 fun y p hu hp h1 h2 h3=>?_,fun h hh=>?_,fun y hy hu aP=>?_,⟨e1,a1⟩,tx g,hg⟩
 ·have n1:p≠x:=fun e=>a2 y (by rw[hu,e])
  have n2:y≠x:=fun e=>by rw[e]at h2;omega
  rw[e2 _ n1,e2 _ n2,el _ _ (by omega) h2 n1 n2]
  exact⟨h1,h2,h3⟩
 ·obtain⟨h1,h2,h3⟩:=t.t1 h hh
  exact⟨by rw[e2 _ (tx h)];exact h1,h2,h3⟩
 ·rw[e2 _ aP]at hy ⊢
  exact t.t2 y hy hu
theorem AC.low(t:AC hm lt K U T)(hx:0<hm x)(hu:U x≠ -1)(el:∀a b,0<hm a→0<hm b→a≠x→b≠x→lt' a b=lt a b)(ex:∀b,0<hm b→b≠x→lt x b=true→lt' x b=true)(hs:bv lt):TC hm lt' (iJ K U x) (cW U x) T (hm x) x:=by
 have kU:x≠ -1:=fun e=>by rw[e,t.bt.h0]at hx;omega
 have b1:=t.bt.cut x kU
 have uu:∀y,cW U x y=if y=x then -1 else U y:=fun y=>rfl
 refine⟨b1.other t.bt.h0 fun y p hu hp h1 h2 h3=>⟨h1,h2,?_⟩,fun h hh=>?_,fun y hy hu aP=>?_,⟨rfl,by rw[uu,if_pos rfl]⟩,fun e=>?_,hx⟩
 ·have n2:y≠x:=fun e=>by rw[uu,if_pos e]at hu;exact hp hu.symm
  by_cases n1:p=x
  ·rw[n1]at h3 ⊢
   exact ex y h2 n2 h3
  ·rw[el _ _ (by omega) h2 n1 n2];exact h3
 ·obtain⟨h1,h2,h3⟩:=t.t1 h hh
  refine⟨h1,h2,?_⟩
  rw[uu]
  split
  ·rfl
  ·exact h3
 ·rw[uu,if_neg aP]at hu
  exact t.t2 y hy hu
 ·have:=(t.t1 (hm x) (by rw[e];exact kU)).2.2
  rw[e]at this
  exact hu this
theorem AC.TD(t:AC hm lt K U T)(hx:0<hm x)(hu:U x= -1)(el:∀a b,0<hm a→0<hm b→a≠x→b≠x→lt' a b=lt a b)(ex:∀b,0<hm b→b≠x→lt x b=true→lt' x b=true)(hs:bv lt):AC hm lt' K U T:=by
 have kU:x≠ -1:=fun e=>by rw[e,t.bt.h0]at hx;omega
 refine⟨t.bt.other t.bt.h0 fun y p hu' hp h1 h2 h3=>⟨h1,h2,?_⟩,t.t1,t.t2⟩
 have n2:y≠x:=fun e=>by rw[e,hu]at hu';exact hp hu'.symm
 by_cases n1:p=x
 ·rw[n1]at h3 ⊢
  exact ex y h2 n2 h3
 ·rw[el _ _ (by omega) h2 n1 n2];exact h3
theorem Bt.drop(b:Bt hm lt K U)(hux:U x= -1)(bK:∀y,U y≠x)(h0:hm' (-1)=0)(e1:hm' x=0)(e2:∀y,y≠x→hm' y=hm y)(el:∀a b,0<hm a→0<hm b→a≠x→b≠x→lt' a b=lt a b)
  (t1:∀h,T h≠ -1→hm (T h)=h∧0<h∧U (T h)= -1∧T h≠x)(t2:∀y,0<hm y→U y= -1→y≠x→T (hm y)=y):AC hm' lt' K U T:=by
 refine⟨b.other h0 fun y p hu hp h1 h2 h3=>?_,fun h hh=>?_,fun y hy hu=>?_⟩
 ·have n1:p≠x:=fun e=>bK y (by rw[hu,e])
  have n2:y≠x:=fun e=>by rw[e,hux]at hu;exact hp hu.symm
  rw[e2 _ n1,e2 _ n2,el _ _ (by omega) h2 n1 n2]
  exact⟨h1,h2,h3⟩
 ·obtain⟨h1,h2,h3,h4⟩:=t1 h hh
  exact⟨by rw[e2 _ h4];exact h1,h2,h3⟩
 ·have aP:y≠x:=fun e=>by rw[e,e1]at hy;omega
  rw[e2 _ aP]at hy ⊢
  exact t2 y hy hu aP
structure AE(hm:Int→Int)(lt:Int→Int→Bool)(K:Int→Bool→Int)(U:Int→Int)(T:Int→Int)(x:Int)(K2:Int→Bool→Int)(U2:Int→Int)(r:Int):Prop where
 bt:Bt hm lt K2 U2
 kx:∀c,K2 x c= -1
 kp:∀p c,U x=p→p≠ -1→K2 p c=K p c
 ux:U2 x=U x
 rx:r≠ -1→hm r=hm x∧U2 r= -1∧r≠x∧lt x r=true
 jt:∀y,0<hm y→(U2 y= -1↔y=r∨U y= -1)
theorem AC.UW(t:AC hm lt K U T)(hs:bv lt)(hx:0<hm x){K1 K2:Int→Bool→Int}{U1 U2:Int→Int}{r:Int}
  (k1:K1=iJ (iJ K U (K x false)) (cW U (K x false)) (K x true))(u1:U1=cW (cW U (K x false)) (K x true))
  (m:Mg hm lt (hm x) (fun y=>0<hm y∧U1 y= -1∧y≠K x false∧y≠K x true) K2 U2 [] r (-1))(f:wP lt K1 U1 x K2 U2 [] r (-1)):AE hm lt K U T x K2 U2 r:=by
 obtain⟨b1,b2,b3,b4⟩:=t.bt.bare x
 rw[←k1,←u1]at b1
 rw[←k1]at b2 b3
 rw[←u1]at b4
 have kU:x≠ -1:=fun e=>by rw[e,t.bt.h0]at hx;omega
 have kne:∀c,K x c≠x:=fun c e=>by
  have:=(t.bt.home (p:=x) (c:=c) (by rw[e];exact kU)).2.2.2.2
  rw[e,hs.vk]at this
  cases this
 obtain⟨f1,f2⟩:=f.fr x (hs.vk x)
 refine⟨m.bt,fun c=>by rw[f1];exact b2 c,fun p c hp DN=>?_,?_,fun hr=>?_,fun y hy=>?_⟩
 ·have h1:=(t.bt.uk x p hp DN).2.2.2.2
  obtain⟨f3,f4⟩:=f.fr p (hs.asym h1)
  rw[f3]
  exact b3 p c fun e=>by rw[e,hs.vk]at h1;cases h1
 ·rw[f2,b4,if_neg]
  rintro(h|h)
  ·exact kne _ h.symm
  ·exact kne _ h.symm
 ·obtain⟨h1,h2⟩:=m.wa.resolve_left hr
  have h3:=f.wa hr
  exact⟨h1,h2,(fun e=>by rw[e,hs.vk]at h3;cases h3),h3⟩
 ·rw[m.jt y hy]
  have MV:y≠ -1:=fun e=>by rw[e,t.bt.h0]at hy;omega
  have hk:U y= -1→y≠K x false∧y≠K x true:=fun hu=>by
   refine⟨fun e=>?_,fun e=>?_⟩
   ·have:=(t.bt.home (p:=x) (c:=false) (by rw[←e];exact MV)).1
    rw[←e,hu]at this
    exact kU this.symm
   ·have:=(t.bt.home (p:=x) (c:=true) (by rw[←e];exact MV)).1
    rw[←e,hu]at this
    exact kU this.symm
  constructor
  ·rintro(h|h|h|h)
   ·cases h
   ·exact .inl h
   ·exact absurd h MV
   ·obtain⟨_,h2,h3,h4⟩:=h
    rw[b4,if_neg (by simp[h3,h4])]at h2
    exact .inr h2
  ·rintro(h|h)
   ·exact .inr (.inl h)
   ·obtain⟨h3,h4⟩:=hk h
    exact .inr (.inr (.inr ⟨hy,by rw[b4,if_neg (by simp[h3,h4])];exact h,h3,h4⟩))
variable {K2 : Int → Bool → Int} {U2 : Int → Int} {r : Int}
theorem AE.none(d:AE hm lt K U T x K2 U2 r)(kU:x≠ -1)(y:Int):U2 y≠x:=fun e=>by
 obtain⟨⟨c,hc⟩,h2,_⟩:=d.bt.uk y x e kU
 rw[d.kx c]at hc
 exact h2 hc.symm
theorem AE.Ra(d:AE hm lt K U T x K2 U2 r)(t:AC hm lt K U T)(hx:0<hm x)(hu:U x= -1)(h0:hm' (-1)=0)(e1:hm' x=0)(e2:∀y,y≠x→hm' y=hm y)(el:∀a b,0<hm a→0<hm b→a≠x→b≠x→lt' a b=lt a b):
  AC hm' lt' K2 U2 (iX T (hm x) r):=by
 have kU:x≠ -1:=fun e=>by rw[e,t.bt.h0]at hx;omega
 have tx:=t.t2 x hx hu
 refine d.bt.drop (by rw[d.ux,hu]) (d.none kU) h0 e1 e2 el (fun h hh=>?_) (fun y hy DO aP=>?_)
 ·unfold iX at hh ⊢
  split
  ·rename_i e
   rw[if_pos e]at hh
   obtain⟨h1,h2,h3,_⟩:=d.rx hh
   exact⟨by rw[h1,e],by omega,h2,h3⟩
  ·rename_i e
   rw[if_neg e]at hh
   obtain⟨h1,h2,h3⟩:=t.t1 h hh
   exact⟨h1,h2,(d.jt _ (by omega)).2 (.inr h3),fun e3=>e (by rw[←h1,e3])⟩
 ·unfold iX
  rcases(d.jt y hy).1 DO with h|h
  ·have hr:r≠ -1:=fun e=>by rw[h,e,t.bt.h0]at hy;omega
   rw[h,if_pos (d.rx hr).1]
  ·have:=t.t2 y hy h
   rw[if_neg]
   ·exact this
   ·intro e
    rw[e,tx]at this
    exact aP this.symm
theorem AE.cut(d:AE hm lt K U T x K2 U2 r)(t:AC hm lt K U T)(hs:bv lt)(hx:0<hm x)(hu:U x≠ -1):
  (r= -1→Bt hm lt (iJ K2 U2 x) (cW U2 x))∧
  (r≠ -1→iJ K2 U2 x (U x) (K (U x) true==x)= -1∧cW U2 x r= -1∧U x≠r∧Bt hm lt (uq (iJ K2 U2 x) (U x) r (K (U x) true==x)) (aI (cW U2 x) r (U x))):=by
 have kU:x≠ -1:=fun e=>by rw[e,t.bt.h0]at hx;omega
 have b:=d.bt.cut x kU
 obtain⟨_,_,h3,h4,h5⟩:=t.bt.uk x _ rfl hu
 refine⟨fun _=>b,fun hr=>?_⟩
 obtain⟨r1,r2,r3,r4⟩:=d.rx hr
 have e1:iJ K2 U2 x (U x) (K (U x) true==x)= -1:=by
  rw[iW d.bt x kU,if_pos]
  rw[d.kp _ _ rfl hu]
  exact t.bt.side rfl hu
 have e2:cW U2 x r= -1:=by
  unfold cW aI
  rw[if_neg r3];exact r2
 have h6:=hs.tr _ _ _ h5 r4
 exact⟨e1,e2,(fun e=>by rw[e,hs.vk]at h6;cases h6),b.IN hu hr e1 e2 (by rw[h3,r1]) (by rw[r1];exact hx) h6⟩
theorem AE.below(d:AE hm lt K U T x K2 U2 r)(t:AC hm lt K U T)(hs:bv lt){n:Nat}(hn:∀y,0<hm y→0≤y∧y<n)(hx:0<hm x)(hu:U x≠ -1){K3:Int→Bool→Int}{U3:Int→Int}(b:Bt hm lt K3 U3)(u3:U3=if r= -1 then cW U2 x else aI (cW U2 x) r (U x))
  (h0:hm' (-1)=0)(e1:hm' x=0)(e2:∀y,y≠x→hm' y=hm y)(el:∀a b,0<hm a→0<hm b→a≠x→b≠x→lt' a b=lt a b):AC hm' lt' K3 U3 T:=by
 have kU:x≠ -1:=fun e=>by rw[e,t.bt.h0]at hx;omega
 obtain⟨_,_,h3,h4,h5⟩:=t.bt.uk x _ rfl hu
 have dF:U x≠x:=fun e=>by rw[e,hs.vk]at h5;cases h5
 have rr:∀y,0<hm y→y≠x→(U3 y= -1↔U y= -1):=fun y hy aP=>by
  rw[u3]
  split
  ·rename_i hr
   unfold cW aI
   rw[if_neg aP,d.jt y hy]
   refine⟨fun h=>h.resolve_left fun e=>?_,.inr⟩
   rw[e,hr,t.bt.h0]at hy;omega
  ·rename_i hr
   obtain⟨r1,r2,r3,r4⟩:=d.rx hr
   unfold cW aI
   by_cases Wc:y=r
   ·rw[if_pos Wc]
    refine⟨fun e=>absurd e hu,fun e=>?_⟩
    rw[Wc]at e
    have e3:=t.t2 r (by omega) e
    rw[r1]at e3
    have e4:=t.least hs hn (h:=hm x) (by rw[e3];exact hr) (y:=x) rfl (by rw[e3];exact fun e=>r3 e.symm)
    rw[e3]at e4
    rw[hs.asym e4]at r4
    cases r4
   ·rw[if_neg Wc,if_neg aP,d.jt y hy]
    exact⟨fun h=>h.resolve_left Wc,.inr⟩
 have ux:U3 x= -1:=by
  rw[u3]
  split
  ·unfold cW aI;rw[if_pos rfl]
  ·rename_i hr
   obtain⟨r1,r2,r3,r4⟩:=d.rx hr
   unfold cW aI
   rw[if_neg (Ne.symm r3),if_pos rfl]
 have no:∀y,U3 y≠x:=fun y=>by
  rw[u3]
  split
  ·unfold cW aI
   split
   ·exact fun e=>kU e.symm
   ·exact d.none kU y
  ·unfold cW aI
   split
   ·exact dF
   ·split
    ·exact fun e=>kU e.symm
    ·exact d.none kU y
 refine b.drop ux no h0 e1 e2 el (fun h hh=>?_) (fun y hy DO aP=>t.t2 y hy ((rr y hy aP).1 DO))
 obtain⟨h1,h2,h3⟩:=t.t1 h hh
 have aP:T h≠x:=fun e=>by rw[e]at h3;exact hu h3
 exact⟨h1,h2,(rr _ (by omega) aP).2 h3,aP⟩
end
end Go.Proofs.YtjlnnljohemifaaGreat
