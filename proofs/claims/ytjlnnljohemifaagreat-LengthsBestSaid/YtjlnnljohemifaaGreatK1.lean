/- Texts put behind each other. -/
import Derived.Test.YtjlnnljohemifaaGreatK98
import Derived.Test.YtjlnnljohemifaaGreatProg
set_option linter.unusedVariables false
set_option linter.unusedSimpArgs false
namespace Go.Proofs.YtjlnnljohemifaaGreat
structure bC(lt:Int→Int→Bool):Prop where
 xS:∀a,lt a a=false
 tr:∀a b c,lt a b=true→lt b c=true→lt a c=true
 nt:∀a b c,lt a b=false→lt b c=false→lt a c=false
 OI:∀a b,a≠b→lt a b=true∨lt b a=true
theorem bC.asym{lt:Int→Int→Bool}(h:bC lt){a b:Int}(zQ:lt a b=true):lt b a=false:=by
 cases hba:lt b a with
 |false=>rfl
 |true=>have:=h.tr a b a zQ hba;rw[h.xS]at this;cases this
end Go.Proofs.YtjlnnljohemifaaGreat

namespace Go.Proofs.YtjlnnljohemifaaGreat
theorem tO{α:Type}{p q:α→Bool}:∀ {l:List α},(∀i,p i=true→q i=true)→∀ {x:α},x∈l→p x=false→q x=true→l.countP p<l.countP q:=by
 intro l OF x hx hp hq
 induction l with
 |nil=>cases hx
 |cons a l ih=>
  rw[ane,ane]
  have zU:l.countP p≤l.countP q:=List.countP_mono_left fun i _ h=>OF i h
  rcases amf.1 hx with rfl|hx
  ·rw[hp,hq];simp;omega
  ·have:=ih hx
   have h2:=OF a
   cases Q0:p a
   ·cases q a<;>simp<;>omega
   ·rw[h2 Q0];simp;omega
section
variable {hm : Int → Int} {lt : Int → Int → Bool} {K : Int → Bool → Int} {U : Int → Int}
def eF(K:Int→Bool→Int)(p:Int)(c:Bool)(v:Int):Int→Bool→Int:=fun y d=>if y=p∧d=c then v else K y d
def aI(U:Int→Int)(x v:Int):Int→Int:=fun y=>if y=x then v else U y
def pY(K:Int→Bool→Int)(p:Int):Int→Bool→Int:=fun y d=>if y=p then K y (!d)else K y d
def ww(K:Int→Bool→Int)(p x:Int)(c:Bool):=eF K p c x
def kO(K:Int→Bool→Int)(U:Int→Int)(x:Int):Int→Bool→Int:=if U x= -1 then K else eF K (U x) (K (U x) true==x) (-1)
def c9(U:Int→Int)(x:Int):Int→Int:=aI U x (-1)
structure Bt(hm:Int→Int)(lt:Int→Int→Bool)(K:Int→Bool→Int)(U:Int→Int):Prop where
 h0:hm (-1)=0
 ku:∀p c x,K p c=x→x≠ -1→U x=p∧p≠ -1
 uk:∀x p,U x=p→p≠ -1→(∃c,K p c=x)∧x≠ -1∧hm p=hm x∧0<hm x∧lt p x=true
 two:∀p,K p false=K p true→K p false= -1
theorem Bt.home(h:Bt hm lt K U){p:Int}{c:Bool}(hk:K p c≠ -1):U (K p c)=p∧p≠ -1∧hm (K p c)=hm p∧0<hm p∧lt p (K p c)=true:=by
 obtain⟨h1,h2⟩:=h.ku p c _ rfl hk
 obtain⟨_,_,h3,h4,h5⟩:=h.uk _ p h1 h2
 exact⟨h1,h2,h3.symm,by omega,h5⟩
theorem Bt.kids(h:Bt hm lt K U){p x:Int}(hx:x≠ -1){c d:Bool}(h1:K p c=x)(h2:K p d=x):c=d:=by
 cases c<;>cases d
 ·rfl
 ·exact absurd (h.two p (by rw[h1,h2])) (by rw[h1];exact hx)
 ·exact absurd (h.two p (by rw[h1,h2])) (by rw[h2];exact hx)
 ·rfl
theorem Bt.side(h:Bt hm lt K U){x p:Int}(hu:U x=p)(hp:p≠ -1):K p (K p true==x)=x:=by
 obtain⟨⟨c,hc⟩,hx,_⟩:=h.uk x p hu hp
 cases c
 ·by_cases ht:K p true=x
  ·have:=h.kids hx hc ht
   cases this
  ·rw[beq_eq_false_iff_ne.2 ht];exact hc
 ·rw[hc,beq_self_eq_true];exact hc
theorem kR(h:Bt hm lt K U)(x:Int)(hx:x≠ -1)(p:Int)(c:Bool):kO K U x p c=if K p c=x then -1 else K p c:=by
 unfold kO
 by_cases hu:U x= -1
 ·rw[if_pos hu,if_neg]
  intro hk
  have:=h.ku p c x hk hx
  omega
 ·rw[if_neg hu]
  unfold eF
  by_cases hk:K p c=x
  ·obtain⟨h1,h2⟩:=h.ku p c x hk hx
   have e:p=U x∧c=(K (U x) true==x):=⟨h1.symm,by rw[h1];exact h.kids hx hk (h.side h1 h2)⟩
   rw[if_pos hk,if_pos e]
  ·rw[if_neg hk,if_neg]
   rintro⟨rfl,rfl⟩
   exact hk (h.side rfl hu)
theorem Bt.cut(h:Bt hm lt K U)(x:Int)(hx:x≠ -1):Bt hm lt (kO K U x) (c9 U x):=by
 refine⟨h.h0,fun p c y hk hy=>?_,fun y p hu hp=>?_,fun p he=>?_⟩
 ·rw[kR h x hx]at hk
  split at hk
  ·exact absurd hk.symm hy
  ·rename_i aT
   obtain⟨h1,h2⟩:=h.ku p c y hk hy
   refine⟨?_,h2⟩
   unfold c9 aI
   rw[if_neg (fun e=>aT (by rw[hk,e]))]
   exact h1
 ·unfold c9 aI at hu
  split at hu
  ·exact absurd hu.symm hp
  ·rename_i aT
   obtain⟨⟨c,hc⟩,h2⟩:=h.uk y p hu hp
   exact⟨⟨c,by rw[kR h x hx,if_neg (by rw[hc];exact aT)];exact hc⟩,h2⟩
 ·rw[kR h x hx,kR h x hx]at he
  rw[kR h x hx]
  split at he
  ·rename_i h1
   rw[if_pos h1]
  ·rename_i h1
   split at he
   ·rw[if_neg h1];exact he
   ·rw[if_neg h1];exact h.two p he
theorem Bt.ZF(h:Bt hm lt K U){p x:Int}{c:Bool}(hp:p≠ -1)(hx:x≠ -1)(hk:K p c= -1)(hu:U x= -1)(hh:hm p=hm x)(h0:0<hm x)(hl:lt p x=true):Bt hm lt (ww K p x c) (aI U x p):=by
 refine⟨h.h0,fun q d y hq hy=>?_,fun y q hq U8=>?_,fun q he=>?_⟩
 ·unfold ww eF at hq
  unfold aI
  split at hq
  ·rename_i h1
   rw[if_pos hq.symm]
   exact⟨h1.1.symm,by rw[h1.1];exact hp⟩
  ·obtain⟨h1,h2⟩:=h.ku q d y hq hy
   rw[if_neg (fun e=>h2 (by rw[←h1,e,hu]))]
   exact⟨h1,h2⟩
 ·unfold aI at hq
  split at hq
  ·rename_i h1
   subst h1;subst hq
   exact⟨⟨c,by unfold ww eF;rw[if_pos ⟨rfl,rfl⟩]⟩,hx,hh,h0,hl⟩
  ·obtain⟨⟨d,hd⟩,h2,h3⟩:=h.uk y q hq U8
   refine⟨⟨d,?_⟩,h2,h3⟩
   unfold ww eF
   rw[if_neg]
   ·exact hd
   ·rintro⟨rfl,rfl⟩
    rw[hk]at hd
    exact h2 hd.symm
 ·unfold ww eF at he ⊢
  have cr:∀d,K q d≠x:=fun d hd=>by
   obtain⟨h1,h2⟩:=h.ku q d x hd hx
   exact h2 (by rw[←h1,hu])
  by_cases h1:q=p∧false=c
  ·rw[if_pos h1,if_neg (fun h2=>by have:=h1.2.trans h2.2.symm;cases this)]at he
   exact absurd he.symm (cr true)
  ·rw[if_neg h1]at he ⊢
   split at he
   ·exact absurd he (cr false)
   ·exact h.two q he
theorem Bt.yi(h:Bt hm lt K U)(p:Int):Bt hm lt (pY K p) U:=by
 refine⟨h.h0,fun q d y hq hy=>?_,fun y q hq U8=>?_,fun q he=>?_⟩
 ·unfold pY at hq
  split at hq
  ·exact h.ku q _ y hq hy
  ·exact h.ku q _ y hq hy
 ·obtain⟨⟨d,hd⟩,h2⟩:=h.uk y q hq U8
  refine⟨?_,h2⟩
  by_cases e:q=p
  ·exact⟨!d,by unfold pY;rw[if_pos e,Bool.not_not];exact hd⟩
  ·exact⟨d,by unfold pY;rw[if_neg e];exact hd⟩
 ·unfold pY at he ⊢
  split at he
  ·rename_i e
   rw[if_pos e]
   have:=h.two q he.symm
   simp only[Bool.not_false,Bool.not_true]at he ⊢
   rw[he];exact this
  ·rename_i e
   rw[if_neg e]
   exact h.two q he
structure Mg(hm:Int→Int)(lt:Int→Int→Bool)(h:Int)(R:Int→Prop)(K:Int→Bool→Int)(U:Int→Int)(dP:List Int)(a b:Int):Prop where
 bt:Bt hm lt K U
 wa:a= -1∨(hm a=h∧U a= -1)
 wb:b= -1∨(hm b=h∧U b= -1)
 ab:a=b→a= -1
 wy:∀v∈dP,v≠ -1∧hm v=h∧U v= -1∧K v true= -1∧(a≠ -1→lt v a=true)∧(b≠ -1→lt v b=true)
 Yu:dP.Pairwise fun x y=>lt x y=true
 ml:∀x,0<hm x→(U x= -1↔x∈dP∨x=a∨x=b∨R x)
 pos:0<h
 nr:∀x,R x→0<hm x∧x∉dP∧x≠a∧x≠b
theorem Mg.start{h a b:Int}(bt:Bt hm lt K U)(h0:0<h)(wa:a= -1∨(hm a=h∧U a= -1))(wb:b= -1∨(hm b=h∧U b= -1))(ab:a=b→a= -1):Mg hm lt h (fun x=>0<hm x∧U x= -1∧x≠a∧x≠b) K U [] a b:=
 ⟨bt,wa,wb,ab,by simp,by simp,fun x hx=>by
  have hb:=bt.h0
  constructor
  ·intro hu
   by_cases h1:x=a
   ·exact .inr (.inl h1)
   ·by_cases h2:x=b
    ·exact .inr (.inr (.inl h2))
    ·exact .inr (.inr (.inr ⟨hx,hu,h1,h2⟩))
  ·rintro(h1|h1|h1|h1)
   ·simp at h1
   ·subst h1
    rcases wa with h2|h2
    ·rw[h2,hb]at hx;omega
    ·exact h2.2
   ·subst h1
    rcases wb with h2|h2
    ·rw[h2,hb]at hx;omega
    ·exact h2.2
   ·exact h1.2.1,h0,fun x hx=>⟨hx.1,by simp,hx.2.2⟩⟩
variable {h : Int} {R : Int → Prop} {dP : List Int} {a b : Int}
theorem Mg.swap(m:Mg hm lt h R K U dP a b):Mg hm lt h R K U dP b a:=
 ⟨m.bt,m.wb,m.wa,fun e=>by rw[e];exact m.ab e.symm,fun v hv=>by obtain⟨h1,h2,h3,h4,h5,h6⟩:=m.wy v hv;exact⟨h1,h2,h3,h4,h6,h5⟩,m.Yu,fun x hx=>by rw[m.ml x hx];constructor<;>rintro(h1|h1|h1|h1)<;>simp[h1],m.pos,fun x hx=>by obtain⟨h1,h2,h3,h4⟩:=m.nr x hx;exact⟨h1,h2,h4,h3⟩⟩
theorem rL{α:Type}{r:α→α→Prop}{l:List α}{x:α}:(l++[x]).Pairwise r↔l.Pairwise r∧∀y∈l,r y x:=by
 rw[an9]
 simp
theorem Mg.down(hs:bC lt)(m:Mg hm lt h R K U dP a b)(ha:a≠ -1)(hb:b≠ -1)(hl:lt a b=true):
  Mg hm lt h R (if K a true= -1 then K else kO K U (K a true)) (if K a true= -1 then U else c9 U (K a true)) (dP++[a]) (K a true) b:=by
 obtain⟨a1,a2⟩:=m.wa.resolve_left ha
 obtain⟨b1,b2⟩:=m.wb.resolve_left hb
 by_cases hk:K a true= -1
 ·rw[if_pos hk,if_pos hk,hk]
  refine⟨m.bt,.inl rfl,m.wb,fun e=>rfl,fun v hv=>?_,rL.2 ⟨m.Yu,fun v hv=>(m.wy v hv).2.2.2.2.1 ha⟩,fun x hx=>?_,m.pos,fun x hx=>?_⟩
  ·rcases aml.1 hv with hv|hv
   ·obtain⟨h1,h2,h3,h4,h5,h6⟩:=m.wy v hv
    exact⟨h1,h2,h3,h4,fun h=>absurd rfl h,h6⟩
   ·rw[amg]at hv
    subst hv
    exact⟨ha,a1,a2,hk,fun h=>absurd rfl h,fun _=>hl⟩
  ·rw[m.ml x hx,aml,amg]
   constructor
   ·rintro(h1|h1|h1|h1)
    ·exact .inl (.inl h1)
    ·exact .inl (.inr h1)
    ·exact .inr (.inr (.inl h1))
    ·exact .inr (.inr (.inr h1))
   ·rintro((h1|h1)|h1|h1|h1)
    ·exact .inl h1
    ·exact .inr (.inl h1)
    ·rw[h1,m.bt.h0]at hx;omega
    ·exact .inr (.inr (.inl h1))
    ·exact .inr (.inr (.inr h1))
  ·obtain⟨h1,h2,h3,h4⟩:=m.nr x hx
   refine⟨h1,?_,fun e=>by rw[e,m.bt.h0]at h1;omega,h4⟩
   rw[aml,amg]
   exact fun h=>h.elim h2 h3
 ·rw[if_neg hk,if_neg hk]
  obtain⟨k1,k2,k3,k4,k5⟩:=m.bt.home hk
  have kb:K a true≠b:=fun e=>by rw[e,b2]at k1;omega
  have kv:∀v∈dP,v≠K a true:=fun v hv e=>by
   have:=(m.wy v hv).2.2.1
   rw[e,k1]at this
   exact ha this
  have ka:a≠K a true:=fun e=>by
   rw[←e,hs.xS]at k5
   cases k5
  refine⟨m.bt.cut _ hk,.inr ⟨by rw[k3,a1],by unfold c9 aI;rw[if_pos rfl]⟩,.inr ⟨b1,?_⟩,fun e=>absurd e kb,fun v hv=>?_,rL.2 ⟨m.Yu,fun v hv=>(m.wy v hv).2.2.2.2.1 ha⟩,fun x hx=>?_,m.pos,fun x hx=>?_⟩
  ·unfold c9 aI
   split
   ·rfl
   ·exact b2
  ·rcases aml.1 hv with hv|hv
   ·obtain⟨h1,h2,h3,h4,h5,h6⟩:=m.wy v hv
    refine⟨h1,h2,?_,?_,fun _=>hs.tr _ _ _ (h5 ha) k5,h6⟩
    ·unfold c9 aI
     rw[if_neg (kv v hv)]
     exact h3
    ·rw[kR m.bt _ hk]
     split
     ·rfl
     ·exact h4
   ·rw[amg]at hv
    subst hv
    refine⟨ha,a1,?_,?_,fun _=>k5,fun _=>hl⟩
    ·unfold c9 aI
     rw[if_neg ka]
     exact a2
    ·rw[kR m.bt _ hk,if_pos rfl]
  ·rw[aml,amg]
   unfold c9 aI
   by_cases e:x=K a true
   ·rw[if_pos e]
    exact⟨fun _=>.inr (.inl e),fun _=>rfl⟩
   ·rw[if_neg e,m.ml x hx]
    constructor
    ·rintro(h1|h1|h1|h1)
     ·exact .inl (.inl h1)
     ·exact .inl (.inr h1)
     ·exact .inr (.inr (.inl h1))
     ·exact .inr (.inr (.inr h1))
    ·rintro((h1|h1)|h1|h1|h1)
     ·exact .inl h1
     ·exact .inr (.inl h1)
     ·exact absurd h1 e
     ·exact .inr (.inr (.inl h1))
     ·exact .inr (.inr (.inr h1))
  ·obtain⟨h1,h2,h3,h4⟩:=m.nr x hx
   refine⟨h1,?_,fun e=>?_,h4⟩
   ·rw[aml,amg]
    exact fun h=>h.elim h2 h3
   ·have:=(m.ml x h1).2 (.inr (.inr (.inr hx)))
    rw[e,k1]at this
    exact ha this
theorem Mg.back{v r:Int}(m:Mg hm lt h R K U (dP++[v]) r (-1))(hs:bC lt):
  Mg hm lt h R (if r= -1 then K else ww K v r true) (if r= -1 then U else aI U r v) dP v (-1):=by
 obtain⟨v1,v2,v3,v4,v5,v6⟩:=m.wy v (by simp)
 obtain⟨s1,s2⟩:=rL.1 m.Yu
 have nv:∀u∈dP,u≠v:=fun u hu e=>by
  have:=s2 u hu
  rw[e,hs.xS]at this
  cases this
 have nrv:∀x,R x→0<hm x∧x∉dP∧x≠v∧x≠ -1:=fun x hx=>by
  obtain⟨h1,h2,h3,h4⟩:=m.nr x hx
  rw[aml,amg,not_or]at h2
  exact⟨h1,h2.1,h2.2,h4⟩
 by_cases hr:r= -1
 ·rw[if_pos hr,if_pos hr]
  refine⟨m.bt,.inr ⟨v2,v3⟩,.inl rfl,fun e=>e,fun u hu=>?_,s1,fun x hx=>?_,m.pos,fun x hx=>nrv x hx⟩
  ·obtain⟨h1,h2,h3,h4,h5,h6⟩:=m.wy u (by simp[hu])
   exact⟨h1,h2,h3,h4,fun _=>s2 u hu,fun h=>absurd rfl h⟩
  ·rw[m.ml x hx,aml,amg]
   constructor
   ·rintro((h1|h1)|h1|h1|h1)
    ·exact .inl h1
    ·exact .inr (.inl h1)
    ·rw[h1,hr,m.bt.h0]at hx;omega
    ·exact .inr (.inr (.inl h1))
    ·exact .inr (.inr (.inr h1))
   ·rintro(h1|h1|h1|h1)
    ·exact .inl (.inl h1)
    ·exact .inl (.inr h1)
    ·exact .inr (.inr (.inl h1))
    ·exact .inr (.inr (.inr h1))
 ·rw[if_neg hr,if_neg hr]
  obtain⟨r1,r2⟩:=m.wa.resolve_left hr
  have ru:∀u∈dP++[v],u≠r:=fun u hu e=>by
   have:=(m.wy u hu).2.2.2.2.1 hr
   rw[e,hs.xS]at this
   cases this
  have rv:=ru v (by simp)
  refine⟨m.bt.ZF v1 hr v4 r2 (by rw[v2,r1]) (by rw[r1];exact m.pos) (v5 hr),.inr ⟨v2,?_⟩,.inl rfl,fun e=>e,fun u hu=>?_,s1,fun x hx=>?_,m.pos,fun x hx=>nrv x hx⟩
  ·unfold aI
   rw[if_neg rv]
   exact v3
  ·obtain⟨h1,h2,h3,h4,h5,h6⟩:=m.wy u (by simp[hu])
   refine⟨h1,h2,?_,?_,fun _=>s2 u hu,fun h=>absurd rfl h⟩
   ·unfold aI
    rw[if_neg (ru u (by simp[hu]))]
    exact h3
   ·unfold ww eF
    rw[if_neg (fun e=>nv u hu e.1)]
    exact h4
  ·unfold aI
   by_cases e:x=r
   ·rw[if_pos e]
    constructor
    ·intro e1
     exact absurd e1 v1
    ·rintro(h1|h1|h1|h1)
     ·exact absurd e (ru x (by simp[h1]))
     ·exact absurd (h1.symm.trans e) rv
     ·rw[h1,m.bt.h0]at hx;omega
     ·exact absurd e (m.nr x h1).2.2.1
   ·rw[if_neg e,m.ml x hx,aml,amg]
    constructor
    ·rintro((h1|h1)|h1|h1|h1)
     ·exact .inl h1
     ·exact .inr (.inl h1)
     ·exact absurd h1 e
     ·exact .inr (.inr (.inl h1))
     ·exact .inr (.inr (.inr h1))
    ·rintro(h1|h1|h1|h1)
     ·exact .inl (.inl h1)
     ·exact .inl (.inr h1)
     ·exact .inr (.inr (.inl h1))
     ·exact .inr (.inr (.inr h1))
theorem Mg.yi{r:Int}(m:Mg hm lt h R K U dP r (-1))(hs:bC lt):Mg hm lt h R (pY K r) U dP r (-1):=by
 by_cases hr:r= -1
 ·have e:pY K r=K:=by
   funext y d
   unfold pY
   split
   ·rename_i e
    subst e;subst hr
    have h1:∀c,K (-1) c= -1:=fun c=>by
     by_cases hc:K (-1) c= -1
     ·exact hc
     ·exact absurd rfl (m.bt.home hc).2.1
    rw[h1,h1]
   ·rfl
  rw[e];exact m
 refine⟨m.bt.yi r,m.wa,m.wb,m.ab,fun v hv=>?_,m.Yu,m.ml,m.pos,m.nr⟩
 obtain⟨h1,h2,h3,h4,h5,h6⟩:=m.wy v hv
 refine⟨h1,h2,h3,?_,h5,h6⟩
 unfold pY
 rw[if_neg]
 ·exact h4
 ·intro e
  have:=h5 hr
  rw[e,hs.xS]at this
  cases this
structure BB(hm:Int→Int)(lt:Int→Int→Bool)(K:Int→Bool→Int)(U:Int→Int)(T:Int→Int):Prop where
 bt:Bt hm lt K U
 t1:∀h,T h≠ -1→hm (T h)=h∧0<h∧U (T h)= -1
 t2:∀x,0<hm x→U x= -1→T (hm x)=x
def kT(T:Int→Int)(h x:Int):Int→Int:=fun y=>if y=h then x else T y
theorem Mg.done{T:Int→Int}{r:Int}(m:Mg hm lt h R K U [] r (-1))(ht:∀g,g≠h→T g≠ -1→hm (T g)=g∧0<g∧R (T g))(hR:∀x,R x→hm x≠h∧T (hm x)=x):BB hm lt K U (kT T h r):=by
 refine⟨m.bt,fun g hg=>?_,fun x hx hu=>?_⟩
 ·unfold kT at hg ⊢
  split
  ·rename_i e
   rw[if_pos e]at hg
   obtain⟨h1,h2⟩:=m.wa.resolve_left hg
   exact⟨by rw[h1,e],by rw[e];exact m.pos,h2⟩
  ·rename_i e
   rw[if_neg e]at hg
   obtain⟨h1,h2,h3⟩:=ht g e hg
   exact⟨h1,h2,(m.ml _ (by rw[h1];exact h2)).2 (.inr (.inr (.inr h3)))⟩
 ·unfold kT
  rcases(m.ml x hx).1 hu with h1|h1|h1|h1
  ·simp at h1
  ·subst h1
   have hr:x≠ -1:=fun e=>by rw[e,m.bt.h0]at hx;omega
   rw[if_pos (m.wa.resolve_left hr).1]
  ·rw[h1,m.bt.h0]at hx;omega
  ·obtain⟨h2,h3⟩:=hR x h1
   rw[if_neg h2];exact h3
theorem BB.first{T:Int→Int}(t:BB hm lt K U T){x:Int}(h0:0<hm x)(hf:∀y,hm y=hm x→y≠x→lt x y=true)(hs:bC lt):T (hm x)=x:=by
 refine t.t2 x h0 ?_
 apply amr
 intro hu
 obtain⟨_,h1,h2,h3,h4⟩:=t.bt.uk x _ rfl hu
 by_cases e:U x=x
 ·rw[e,hs.xS]at h4;cases h4
 ·have:=hs.asym (hf _ h2 e)
  rw[h4]at this;cases this
theorem BB.least{T:Int→Int}(t:BB hm lt K U T)(hs:bC lt){n:Nat}(hn:∀y,0<hm y→0≤y∧y<n){h:Int}(ht:T h≠ -1){y:Int}(hy:hm y=h)(aT:y≠T h):lt (T h) y=true:=by
 obtain⟨h1,h2,h3⟩:=t.t1 h ht
 have key:∀k:Nat,∀y:Int,hm y=h→y≠T h→((List.range n).filter fun(i:Nat)=>lt i y).length≤k→lt (T h) y=true:=by
  intro k
  induction k with
  |zero=>
   intro y hy aT hk
   by_cases hu:U y= -1
   ·have:=t.t2 y (by omega) hu
    rw[hy]at this
    exact absurd this.symm aT
   ·obtain⟨_,_,h5,h6,h7⟩:=t.bt.uk y _ rfl hu
    have h8:=hn (U y) (by omega)
    have:(U y).toNat∈(List.range n).filter fun(i:Nat)=>lt i y:=anZ.2 ⟨am2.2 (by omega),by rw[show(((U y).toNat:Nat):Int)=U y by omega];exact h7⟩
    rw[amD.1 (Nat.le_zero.1 hk)]at this
    cases this
  |succ k ih=>
   intro y hy aT hk
   by_cases hu:U y= -1
   ·have:=t.t2 y (by omega) hu
    rw[hy]at this
    exact absurd this.symm aT
   ·obtain⟨_,_,h5,h6,h7⟩:=t.bt.uk y _ rfl hu
    by_cases e:U y=T h
    ·rw[←e];exact h7
    ·have h8:=hn (U y) (by omega)
     refine hs.tr _ _ _ (ih (U y) (by omega) e ?_) h7
     have h9:((List.range n).filter fun(i:Nat)=>lt i (U y)).length< ((List.range n).filter fun(i:Nat)=>lt i y).length:=by
      rw[←List.countP_eq_length_filter,←List.countP_eq_length_filter]
      have:∀l:List Nat,(∀i∈l,lt i (U y)=true→lt i y=true):=fun l i _ h=>hs.tr _ _ _ h h7
      refine tO (fun i hi=>hs.tr _ _ _ hi h7) (x:=(U y).toNat) (am2.2 (by omega)) ?_ ?_
      ·rw[show(((U y).toNat:Nat):Int)=U y by omega];exact hs.xS _
      ·rw[show(((U y).toNat:Nat):Int)=U y by omega];exact h7
     omega
 exact key _ y hy aT (ami _)
theorem Bt.up0(h:Bt hm lt K U):U (-1)= -1:=amr fun hn=>(h.uk (-1) _ rfl hn).2.1 rfl
theorem BC(h:Bt hm lt K U):kO K U (-1)=K∧c9 U (-1)=U:=by
 have h0:=h.up0
 refine⟨by unfold kO;rw[if_pos h0],?_⟩
 funext z
 unfold c9 aI
 split
 ·rename_i e;rw[e,h0]
 ·rfl
theorem Mg.Ry{h:Int}{R:Int→Prop}{dP:List Int}{a b:Int}(hs:bC lt)(m:Mg hm lt h R K U dP a b)(ha:a≠ -1)(hb:b≠ -1)(hl:lt a b=true):
  Mg hm lt h R (kO K U (K a true)) (c9 U (K a true)) (dP++[a]) (K a true) b:=by
 have:=m.down hs ha hb hl
 by_cases hk:K a true= -1
 ·rw[if_pos hk,if_pos hk]at this
  obtain⟨h1,h2⟩:=BC m.bt
  rw[hk]at this ⊢
  rw[h1,h2]
  exact this
 ·rwa[if_neg hk,if_neg hk]at this
theorem Ps:∀ (n:Nat) (l:List Nat),l.Nodup→(∀x∈l,x<n)→l.length≤n:=by
 intro n
 induction n with
 |zero=>
  intro l _ hb
  cases l with
  |nil=>exact ami _
  |cons a l=>exact absurd (hb a (by simp)) (by omega)
 |succ n ih=>
  intro l hn hb
  have h1:=ih (l.erase n) (hn.erase n) fun x hx=>by
   obtain⟨h2,h3⟩:=(List.Nodup.mem_erase_iff hn).1 hx
   have:=hb x h3
   omega
  rw[List.length_erase]at h1
  split at h1<;>omega
theorem bY{l:List Int}{n:Nat}(hn:l.Nodup)(hb:∀x∈l,0≤x∧x<n):l.length≤n:=by
 have h1:(l.map Int.toNat).Nodup:=by
  rw[List.nodup_iff_pairwise_ne]at*
  rw[aoi]
  refine List.Pairwise.imp_of_mem (fun{a b} ha wx aT e=>aT ?_) hn
  have:=hb a ha
  have:=hb b wx
  omega
 have h2:=Ps n _ h1 fun x hx=>by
  obtain⟨y,hy,rfl⟩:=amJ.1 hx
  have:=hb y hy
  omega
 rwa[amu]at h2
theorem Mg.nodup{h:Int}{R:Int→Prop}{dP:List Int}{a b:Int}(hs:bC lt)(m:Mg hm lt h R K U dP a b):dP.Nodup:=by
 rw[List.nodup_iff_pairwise_ne]
 exact m.Yu.imp fun{x y} hl e=>by rw[e,hs.xS]at hl;cases hl
def MZ(lt:Int→Int→Bool)(n:Nat)(x:Int):Nat:=(List.range n).countP fun(i:Nat)=>lt i x
theorem FX(hs:bC lt){n:Nat}{p x:Int}(hp:0≤p∧p<n)(hl:lt p x=true):MZ lt n p<MZ lt n x:=by
 unfold MZ
 refine tO (fun i hi=>hs.tr _ _ _ hi hl) (x:=p.toNat) (am2.2 (by omega)) ?_ ?_
 ·rw[show((p.toNat:Nat):Int)=p by omega];exact hs.xS _
 ·rw[show((p.toNat:Nat):Int)=p by omega];exact hl
end
end Go.Proofs.YtjlnnljohemifaaGreat

namespace Go.Proofs.YtjlnnljohemifaaGreat
section
variable {hm hm' : Int → Int} {lt lt' : Int → Int → Bool} {K K0 : Int → Bool → Int} {U U0 : Int → Int}
theorem Bt.other(b:Bt hm lt K U)(h0:hm' (-1)=0)(h:∀x p,U x=p→p≠ -1→hm p=hm x→0<hm x→lt p x=true→hm' p=hm' x∧0<hm' x∧lt' p x=true):Bt hm' lt' K U:=
 ⟨h0,b.ku,fun x p hu hp=>by
  obtain⟨h1,h2,h3,h4,h5⟩:=b.uk x p hu hp
  obtain⟨h6,h7,h8⟩:=h x p hu hp h3 h4 h5
  exact⟨h1,h2,h6,h7,h8⟩,b.two⟩
theorem Bt.alone(b:Bt hm lt K U){x:Int}(hx:hm x≤0)(jq:x≠ -1):U x= -1∧∀y,U y≠x:=by
 constructor
 ·apply amr
  intro h
  have:=(b.uk x _ rfl h).2.2.2.1
  omega
 ·intro y hy
  have:=b.uk y x hy jq
  omega
theorem Bt.TN(h:Bt hm lt K U)(x:Int):Bt hm lt (kO K U x) (c9 U x):=by
 by_cases hx:x= -1
 ·subst hx
  obtain⟨h1,h2⟩:=BC h
  rw[h1,h2];exact h
 ·exact h.cut x hx
theorem pU(h:Bt hm lt K U)(x p:Int)(c:Bool):kO K U x p c=if x≠ -1∧K p c=x then -1 else K p c:=by
 by_cases hx:x= -1
 ·subst hx
  rw[(BC h).1,if_neg (by simp)]
 ·rw[kR h x hx]
  by_cases hk:K p c=x
  ·rw[if_pos hk,if_pos ⟨hx,hk⟩]
  ·rw[if_neg hk,if_neg (fun h=>hk h.2)]
theorem Bt.bare(h:Bt hm lt K U)(x:Int):
  Bt hm lt (kO (kO K U (K x false)) (c9 U (K x false)) (K x true)) (c9 (c9 U (K x false)) (K x true))∧
  (∀c,kO (kO K U (K x false)) (c9 U (K x false)) (K x true) x c= -1)∧
  (∀p c,p≠x→kO (kO K U (K x false)) (c9 U (K x false)) (K x true) p c=K p c)∧
  (∀y,c9 (c9 U (K x false)) (K x true) y=if y=K x false∨y=K x true then -1 else U y):=by
 have b1:=h.TN (K x false)
 refine⟨b1.TN _,fun c=>?_,fun p c hp=>?_,fun y=>?_⟩
 ·rw[pU b1,pU h]
  cases c
  ·by_cases h1:K x false= -1
   ·rw[h1];simp
   ·rw[if_pos (show K x false≠ -1∧K x false=K x false from⟨h1,rfl⟩)]
    split<;>rfl
  ·by_cases h1:K x true= -1
   ·rw[h1];simp
   ·have h2:K x true≠K x false:=fun e=>h1 (by rw[e];exact h.two x e.symm)
    have e1:(if K x false≠ -1∧K x true=K x false then -1 else K x true)=K x true:=if_neg fun e=>h2 e.2
    rw[e1,if_pos ⟨h1,rfl⟩]
 ·have key:∀d,K x d≠ -1→K p c≠K x d:=fun d hd e=>by
   have h1:=(h.home (p:=x) (c:=d) hd).1
   have h2:=(h.home (p:=p) (c:=c) (by rw[e];exact hd)).1
   rw[e,h1]at h2
   exact hp h2.symm
  have e1:kO K U (K x false) p c=K p c:=by rw[pU h,if_neg (fun e=>key false e.1 e.2)]
  rw[pU b1,e1,if_neg (fun e=>key true e.1 e.2)]
 ·unfold c9 aI
  by_cases h1:y=K x true
  ·rw[if_pos h1,if_pos (.inr h1)]
  ·rw[if_neg h1]
   by_cases h2:y=K x false
   ·rw[if_pos h2,if_pos (.inl h2)]
   ·rw[if_neg h2,if_neg (by simp[h1,h2])]
structure yj(lt:Int→Int→Bool)(K0:Int→Bool→Int)(U0:Int→Int)(x0:Int)(K:Int→Bool→Int)(U:Int→Int)(dP:List Int)(a b:Int):Prop where
 wv:∀v∈dP,lt x0 v=true
 wa:a≠ -1→lt x0 a=true
 wb:b≠ -1→lt x0 b=true
 fr:∀y,lt x0 y=false→K y=K0 y∧U y=U0 y
variable {x0 a b : Int} {dP : List Int}
theorem yj.start(ha:a≠ -1→lt x0 a=true)(hb:b≠ -1→lt x0 b=true):yj lt K0 U0 x0 K0 U0 [] a b:=⟨by simp,ha,hb,fun _ _=>⟨rfl,rfl⟩⟩
theorem yj.swap(m:yj lt K0 U0 x0 K U dP a b):yj lt K0 U0 x0 K U dP b a:=⟨m.wv,m.wb,m.wa,m.fr⟩
theorem yj.down(hs:bC lt)(bt:Bt hm lt K U)(m:yj lt K0 U0 x0 K U dP a b)(ha:a≠ -1):yj lt K0 U0 x0 (kO K U (K a true)) (c9 U (K a true)) (dP++[a]) (K a true) b:=by
 have h1:=m.wa ha
 refine⟨fun v hv=>?_,fun hk=>hs.tr _ _ _ h1 (bt.home hk).2.2.2.2,m.wb,fun y hy=>?_⟩
 ·rcases aml.1 hv with hv|hv
  ·exact m.wv v hv
  ·rw[amg]at hv;rw[hv];exact h1
 ·obtain⟨f1,f2⟩:=m.fr y hy
  rw[←f1,←f2]
  constructor
  ·funext c
   rw[pU bt,if_neg]
   rintro⟨e1,e2⟩
   have:=(bt.home (p:=a) (c:=true) e1).1
   have h3:=(bt.home (p:=y) (c:=c) (by rw[e2];exact e1)).1
   rw[e2,this]at h3
   rw[←h3,h1]at hy
   cases hy
  ·unfold c9 aI
   split
   ·rename_i e
    by_cases e1:K a true= -1
    ·rw[e,e1,bt.up0]
    ·have:=hs.tr _ _ _ h1 (bt.home e1).2.2.2.2
     rw[←e,hy]at this
     cases this
   ·rfl
theorem yj.back(m:yj lt K0 U0 x0 K U (dP++[b]) a (-1)):yj lt K0 U0 x0 (if a= -1 then K else ww K b a true) (if a= -1 then U else aI U a b) dP b (-1):=by
 have h1:=m.wv b (by simp)
 refine⟨fun v hv=>m.wv v (by simp[hv]),fun _=>h1,fun h=>absurd rfl h,fun y hy=>?_⟩
 obtain⟨f1,f2⟩:=m.fr y hy
 by_cases ha:a= -1
 ·rw[if_pos ha,if_pos ha];exact⟨f1,f2⟩
 ·rw[if_neg ha,if_neg ha]
  have h2:=m.wa ha
  constructor
  ·rw[←f1]
   funext c
   unfold ww eF
   rw[if_neg]
   rintro⟨rfl,_⟩
   rw[hy]at h1;cases h1
  ·rw[←f2]
   unfold aI
   rw[if_neg]
   rintro rfl
   rw[hy]at h2;cases h2
theorem yj.yi(m:yj lt K0 U0 x0 K U dP a (-1))(ha:a≠ -1):yj lt K0 U0 x0 (pY K a) U dP a (-1):=by
 refine⟨m.wv,m.wa,m.wb,fun y hy=>?_⟩
 obtain⟨f1,f2⟩:=m.fr y hy
 refine⟨?_,f2⟩
 rw[←f1]
 funext c
 unfold pY
 rw[if_neg]
 rintro rfl
 have:=m.wa ha
 rw[hy]at this;cases this
structure TO(hm:Int→Int)(lt:Int→Int→Bool)(K:Int→Bool→Int)(U:Int→Int)(T:Int→Int)(g x:Int):Prop where
 bt:Bt hm lt K U
 t1:∀h,T h≠ -1→hm (T h)=h∧0<h∧U (T h)= -1
 t2:∀y,0<hm y→U y= -1→y≠x→T (hm y)=y
 ox:hm x=g∧U x= -1
 nx:T g≠x
 g0:0<g
variable {T : Int → Int} {g x : Int}
theorem TO.mg(o:TO hm lt K U T g x):Mg hm lt g (fun y=>0<hm y∧U y= -1∧y≠T g∧y≠x) K U [] (T g) x:=
 Mg.start o.bt o.g0 (by
  by_cases h:T g= -1
  ·exact .inl h
  ·obtain⟨h1,_,h2⟩:=o.t1 g h
   exact .inr ⟨h1,h2⟩) (.inr o.ox) (fun e=>absurd e o.nx)
theorem TO.done{K':Int→Bool→Int}{U':Int→Int}{r:Int}(o:TO hm lt K U T g x)(m:Mg hm lt g (fun y=>0<hm y∧U y= -1∧y≠T g∧y≠x) K' U' [] r (-1)):BB hm lt K' U' (kT T g r):=
 m.done (fun h aT hh=>by
  obtain⟨h1,h2,h3⟩:=o.t1 h hh
  refine⟨h1,h2,by omega,h3,fun e=>?_,fun e=>?_⟩
  ·by_cases h4:T g= -1
   ·rw[e]at hh;exact hh h4
   ·have:=(o.t1 g h4).1
    rw[←e,h1]at this
    exact aT this
  ·rw[e,o.ox.1]at h1
   exact aT h1.symm) (fun y hy=>by
  obtain⟨h1,h2,h3,h4⟩:=hy
  have h5:=o.t2 y h1 h2 h4
  exact⟨fun e=>by rw[e]at h5;exact h3 h5.symm,h5⟩)
theorem BB.ins(t:BB hm lt K U T)(h0:hm' (-1)=0)(hx:hm x≤0)(jq:x≠ -1)(hg:0<g)(e1:hm' x=g)(e2:∀y,y≠x→hm' y=hm y)(el:∀a b,0<hm a→0<hm b→a≠x→b≠x→lt' a b=lt a b):TO hm' lt' K U T g x:=by
 obtain⟨a1,a2⟩:=t.bt.alone hx jq
 have tx:∀h,T h≠x:=fun h e=>by
  obtain⟨h1,h2,_⟩:=t.t1 h (by rw[e];exact jq)
  rw[e]at h1
  omega
 refine⟨t.bt.other h0 fun y p hu hp h1 h2 h3=>?_,fun h hh=>?_,fun y hy hu aT=>?_,⟨e1,a1⟩,tx g,hg⟩
 ·have n1:p≠x:=fun e=>a2 y (by rw[hu,e])
  have n2:y≠x:=fun e=>by rw[e]at h2;omega
  rw[e2 _ n1,e2 _ n2,el _ _ (by omega) h2 n1 n2]
  exact⟨h1,h2,h3⟩
 ·obtain⟨h1,h2,h3⟩:=t.t1 h hh
  exact⟨by rw[e2 _ (tx h)];exact h1,h2,h3⟩
 ·rw[e2 _ aT]at hy ⊢
  exact t.t2 y hy hu
theorem BB.low(t:BB hm lt K U T)(hx:0<hm x)(hu:U x≠ -1)(el:∀a b,0<hm a→0<hm b→a≠x→b≠x→lt' a b=lt a b)(ex:∀b,0<hm b→b≠x→lt x b=true→lt' x b=true)(hs:bC lt):TO hm lt' (kO K U x) (c9 U x) T (hm x) x:=by
 have jq:x≠ -1:=fun e=>by rw[e,t.bt.h0]at hx;omega
 have b1:=t.bt.cut x jq
 have uu:∀y,c9 U x y=if y=x then -1 else U y:=fun y=>rfl
 refine⟨b1.other t.bt.h0 fun y p hu hp h1 h2 h3=>⟨h1,h2,?_⟩,fun h hh=>?_,fun y hy hu aT=>?_,⟨rfl,by rw[uu,if_pos rfl]⟩,fun e=>?_,hx⟩
 ·have n2:y≠x:=fun e=>by rw[uu,if_pos e]at hu;exact hp hu.symm
  by_cases n1:p=x
  ·rw[n1]at h3 ⊢
   exact ex y h2 n2 h3
  ·rw[el _ _ (by omega) h2 n1 n2];exact h3
 ·obtain⟨h1,h2,h3⟩:=t.t1 h hh
  refine⟨h1,h2,?_⟩
  rw[uu]
  split
  ·rfl
  ·exact h3
 ·rw[uu,if_neg aT]at hu
  exact t.t2 y hy hu
 ·have:=(t.t1 (hm x) (by rw[e];exact jq)).2.2
  rw[e]at this
  exact hu this
theorem BB.TP(t:BB hm lt K U T)(hx:0<hm x)(hu:U x= -1)(el:∀a b,0<hm a→0<hm b→a≠x→b≠x→lt' a b=lt a b)(ex:∀b,0<hm b→b≠x→lt x b=true→lt' x b=true)(hs:bC lt):BB hm lt' K U T:=by
 have jq:x≠ -1:=fun e=>by rw[e,t.bt.h0]at hx;omega
 refine⟨t.bt.other t.bt.h0 fun y p hu' hp h1 h2 h3=>⟨h1,h2,?_⟩,t.t1,t.t2⟩
 have n2:y≠x:=fun e=>by rw[e,hu]at hu';exact hp hu'.symm
 by_cases n1:p=x
 ·rw[n1]at h3 ⊢
  exact ex y h2 n2 h3
 ·rw[el _ _ (by omega) h2 n1 n2];exact h3
theorem Bt.drop(b:Bt hm lt K U)(hux:U x= -1)(cr:∀y,U y≠x)(h0:hm' (-1)=0)(e1:hm' x=0)(e2:∀y,y≠x→hm' y=hm y)(el:∀a b,0<hm a→0<hm b→a≠x→b≠x→lt' a b=lt a b)
  (t1:∀h,T h≠ -1→hm (T h)=h∧0<h∧U (T h)= -1∧T h≠x)(t2:∀y,0<hm y→U y= -1→y≠x→T (hm y)=y):BB hm' lt' K U T:=by
 refine⟨b.other h0 fun y p hu hp h1 h2 h3=>?_,fun h hh=>?_,fun y hy hu=>?_⟩
 ·have n1:p≠x:=fun e=>cr y (by rw[hu,e])
  have n2:y≠x:=fun e=>by rw[e,hux]at hu;exact hp hu.symm
  rw[e2 _ n1,e2 _ n2,el _ _ (by omega) h2 n1 n2]
  exact⟨h1,h2,h3⟩
 ·obtain⟨h1,h2,h3,h4⟩:=t1 h hh
  exact⟨by rw[e2 _ h4];exact h1,h2,h3⟩
 ·have aT:y≠x:=fun e=>by rw[e,e1]at hy;omega
  rw[e2 _ aT]at hy ⊢
  exact t2 y hy hu aT
structure BD(hm:Int→Int)(lt:Int→Int→Bool)(K:Int→Bool→Int)(U:Int→Int)(T:Int→Int)(x:Int)(K2:Int→Bool→Int)(U2:Int→Int)(r:Int):Prop where
 bt:Bt hm lt K2 U2
 kx:∀c,K2 x c= -1
 kp:∀p c,U x=p→p≠ -1→K2 p c=K p c
 ux:U2 x=U x
 rx:r≠ -1→hm r=hm x∧U2 r= -1∧r≠x∧lt x r=true
 ml:∀y,0<hm y→(U2 y= -1↔y=r∨U y= -1)
theorem BB.U9(t:BB hm lt K U T)(hs:bC lt)(hx:0<hm x){K1 K2:Int→Bool→Int}{U1 U2:Int→Int}{r:Int}
  (k1:K1=kO (kO K U (K x false)) (c9 U (K x false)) (K x true))(u1:U1=c9 (c9 U (K x false)) (K x true))
  (m:Mg hm lt (hm x) (fun y=>0<hm y∧U1 y= -1∧y≠K x false∧y≠K x true) K2 U2 [] r (-1))(f:yj lt K1 U1 x K2 U2 [] r (-1)):BD hm lt K U T x K2 U2 r:=by
 obtain⟨b1,b2,b3,b4⟩:=t.bt.bare x
 rw[←k1,←u1]at b1
 rw[←k1]at b2 b3
 rw[←u1]at b4
 have jq:x≠ -1:=fun e=>by rw[e,t.bt.h0]at hx;omega
 have kne:∀c,K x c≠x:=fun c e=>by
  have:=(t.bt.home (p:=x) (c:=c) (by rw[e];exact jq)).2.2.2.2
  rw[e,hs.xS]at this
  cases this
 obtain⟨f1,f2⟩:=f.fr x (hs.xS x)
 refine⟨m.bt,fun c=>by rw[f1];exact b2 c,fun p c hp HX=>?_,?_,fun hr=>?_,fun y hy=>?_⟩
 ·have h1:=(t.bt.uk x p hp HX).2.2.2.2
  obtain⟨f3,f4⟩:=f.fr p (hs.asym h1)
  rw[f3]
  exact b3 p c fun e=>by rw[e,hs.xS]at h1;cases h1
 ·rw[f2,b4,if_neg]
  rintro(h|h)
  ·exact kne _ h.symm
  ·exact kne _ h.symm
 ·obtain⟨h1,h2⟩:=m.wa.resolve_left hr
  have h3:=f.wa hr
  exact⟨h1,h2,(fun e=>by rw[e,hs.xS]at h3;cases h3),h3⟩
 ·rw[m.ml y hy]
  have HY:y≠ -1:=fun e=>by rw[e,t.bt.h0]at hy;omega
  have hk:U y= -1→y≠K x false∧y≠K x true:=fun hu=>by
   refine⟨fun e=>?_,fun e=>?_⟩
   ·have:=(t.bt.home (p:=x) (c:=false) (by rw[←e];exact HY)).1
    rw[←e,hu]at this
    exact jq this.symm
   ·have:=(t.bt.home (p:=x) (c:=true) (by rw[←e];exact HY)).1
    rw[←e,hu]at this
    exact jq this.symm
  constructor
  ·rintro(h|h|h|h)
   ·cases h
   ·exact .inl h
   ·exact absurd h HY
   ·obtain⟨_,h2,h3,h4⟩:=h
    rw[b4,if_neg (by simp[h3,h4])]at h2
    exact .inr h2
  ·rintro(h|h)
   ·exact .inr (.inl h)
   ·obtain⟨h3,h4⟩:=hk h
    exact .inr (.inr (.inr ⟨hy,by rw[b4,if_neg (by simp[h3,h4])];exact h,h3,h4⟩))
variable {K2 : Int → Bool → Int} {U2 : Int → Int} {r : Int}
theorem BD.none(d:BD hm lt K U T x K2 U2 r)(jq:x≠ -1)(y:Int):U2 y≠x:=fun e=>by
 obtain⟨⟨c,hc⟩,h2,_⟩:=d.bt.uk y x e jq
 rw[d.kx c]at hc
 exact h2 hc.symm
theorem BD.Po(d:BD hm lt K U T x K2 U2 r)(t:BB hm lt K U T)(hx:0<hm x)(hu:U x= -1)(h0:hm' (-1)=0)(e1:hm' x=0)(e2:∀y,y≠x→hm' y=hm y)(el:∀a b,0<hm a→0<hm b→a≠x→b≠x→lt' a b=lt a b):
  BB hm' lt' K2 U2 (kT T (hm x) r):=by
 have jq:x≠ -1:=fun e=>by rw[e,t.bt.h0]at hx;omega
 have tx:=t.t2 x hx hu
 refine d.bt.drop (by rw[d.ux,hu]) (d.none jq) h0 e1 e2 el (fun h hh=>?_) (fun y hy zV aT=>?_)
 ·unfold kT at hh ⊢
  split
  ·rename_i e
   rw[if_pos e]at hh
   obtain⟨h1,h2,h3,_⟩:=d.rx hh
   exact⟨by rw[h1,e],by omega,h2,h3⟩
  ·rename_i e
   rw[if_neg e]at hh
   obtain⟨h1,h2,h3⟩:=t.t1 h hh
   exact⟨h1,h2,(d.ml _ (by omega)).2 (.inr h3),fun e3=>e (by rw[←h1,e3])⟩
 ·unfold kT
  rcases(d.ml y hy).1 zV with h|h
  ·have hr:r≠ -1:=fun e=>by rw[h,e,t.bt.h0]at hy;omega
   rw[h,if_pos (d.rx hr).1]
  ·have:=t.t2 y hy h
   rw[if_neg]
   ·exact this
   ·intro e
    rw[e,tx]at this
    exact aT this.symm
theorem BD.cut(d:BD hm lt K U T x K2 U2 r)(t:BB hm lt K U T)(hs:bC lt)(hx:0<hm x)(hu:U x≠ -1):
  (r= -1→Bt hm lt (kO K2 U2 x) (c9 U2 x))∧
  (r≠ -1→kO K2 U2 x (U x) (K (U x) true==x)= -1∧c9 U2 x r= -1∧U x≠r∧Bt hm lt (ww (kO K2 U2 x) (U x) r (K (U x) true==x)) (aI (c9 U2 x) r (U x))):=by
 have jq:x≠ -1:=fun e=>by rw[e,t.bt.h0]at hx;omega
 have b:=d.bt.cut x jq
 obtain⟨_,_,h3,h4,h5⟩:=t.bt.uk x _ rfl hu
 refine⟨fun _=>b,fun hr=>?_⟩
 obtain⟨r1,r2,r3,r4⟩:=d.rx hr
 have e1:kO K2 U2 x (U x) (K (U x) true==x)= -1:=by
  rw[kR d.bt x jq,if_pos]
  rw[d.kp _ _ rfl hu]
  exact t.bt.side rfl hu
 have e2:c9 U2 x r= -1:=by
  unfold c9 aI
  rw[if_neg r3];exact r2
 have h6:=hs.tr _ _ _ h5 r4
 exact⟨e1,e2,(fun e=>by rw[e,hs.xS]at h6;cases h6),b.ZF hu hr e1 e2 (by rw[h3,r1]) (by rw[r1];exact hx) h6⟩
theorem BD.below(d:BD hm lt K U T x K2 U2 r)(t:BB hm lt K U T)(hs:bC lt){n:Nat}(hn:∀y,0<hm y→0≤y∧y<n)(hx:0<hm x)(hu:U x≠ -1){K3:Int→Bool→Int}{U3:Int→Int}(b:Bt hm lt K3 U3)(u3:U3=if r= -1 then c9 U2 x else aI (c9 U2 x) r (U x))
  (h0:hm' (-1)=0)(e1:hm' x=0)(e2:∀y,y≠x→hm' y=hm y)(el:∀a b,0<hm a→0<hm b→a≠x→b≠x→lt' a b=lt a b):BB hm' lt' K3 U3 T:=by
 have jq:x≠ -1:=fun e=>by rw[e,t.bt.h0]at hx;omega
 obtain⟨_,_,h3,h4,h5⟩:=t.bt.uk x _ rfl hu
 have dZ:U x≠x:=fun e=>by rw[e,hs.xS]at h5;cases h5
 have rr:∀y,0<hm y→y≠x→(U3 y= -1↔U y= -1):=fun y hy aT=>by
  rw[u3]
  split
  ·rename_i hr
   unfold c9 aI
   rw[if_neg aT,d.ml y hy]
   refine⟨fun h=>h.resolve_left fun e=>?_,.inr⟩
   rw[e,hr,t.bt.h0]at hy;omega
  ·rename_i hr
   obtain⟨r1,r2,r3,r4⟩:=d.rx hr
   unfold c9 aI
   by_cases V6:y=r
   ·rw[if_pos V6]
    refine⟨fun e=>absurd e hu,fun e=>?_⟩
    rw[V6]at e
    have e3:=t.t2 r (by omega) e
    rw[r1]at e3
    have e4:=t.least hs hn (h:=hm x) (by rw[e3];exact hr) (y:=x) rfl (by rw[e3];exact fun e=>r3 e.symm)
    rw[e3]at e4
    rw[hs.asym e4]at r4
    cases r4
   ·rw[if_neg V6,if_neg aT,d.ml y hy]
    exact⟨fun h=>h.resolve_left V6,.inr⟩
 have ux:U3 x= -1:=by
  rw[u3]
  split
  ·unfold c9 aI;rw[if_pos rfl]
  ·rename_i hr
   obtain⟨r1,r2,r3,r4⟩:=d.rx hr
   unfold c9 aI
   rw[if_neg (Ne.symm r3),if_pos rfl]
 have no:∀y,U3 y≠x:=fun y=>by
  rw[u3]
  split
  ·unfold c9 aI
   split
   ·exact fun e=>jq e.symm
   ·exact d.none jq y
  ·unfold c9 aI
   split
   ·exact dZ
   ·split
    ·exact fun e=>jq e.symm
    ·exact d.none jq y
 refine b.drop ux no h0 e1 e2 el (fun h hh=>?_) (fun y hy zV aT=>t.t2 y hy ((rr y hy aT).1 zV))
 obtain⟨h1,h2,h3⟩:=t.t1 h hh
 have aT:T h≠x:=fun e=>by rw[e]at h3;exact hu h3
 exact⟨h1,h2,(rr _ (by omega) aT).2 h3,aT⟩
end
end Go.Proofs.YtjlnnljohemifaaGreat

namespace Go.Proofs.YtjlnnljohemifaaGreat
structure TQ(hm:Int→Int)(lt:Int→Int→Bool)(U:Int→Int)(T:Int→Int):Prop where
 uk:∀x p,U x=p→p≠ -1→hm p=hm x∧0<hm x∧lt p x=true
 t1:∀h,T h≠ -1→hm (T h)=h∧0<h∧U (T h)= -1
 t2:∀x,0<hm x→U x= -1→T (hm x)=x
theorem TQ.first{hm:Int→Int}{lt:Int→Int→Bool}{U T:Int→Int}(t:TQ hm lt U T){x:Int}(h0:0<hm x)(hf:∀y,hm y=hm x→y≠x→lt x y=true)(hs:bC lt):T (hm x)=x:=by
 refine t.t2 x h0 ?_
 apply amr
 intro hu
 obtain⟨h2,h3,h4⟩:=t.uk x _ rfl hu
 by_cases e:U x=x
 ·rw[e,hs.xS]at h4;cases h4
 ·have:=hs.asym (hf _ h2 e)
  rw[h4]at this;cases this
section
variable {hm hm' : Int → Int} {lt lt' : Int → Int → Bool} {ch HZ : Int → List Int} {par : Int → Int}
structure Pr(hm:Int→Int)(lt:Int→Int→Bool)(ch:Int→List Int)(par:Int→Int):Prop where
 h0:hm (-1)=0
 dn:∀x c,c∈ch x→par c=x∧x≠ -1∧hm x=hm c∧0<hm c∧lt x c=true
 up:∀c x,par c=x→x≠ -1→c∈ch x
 nd:∀x,(ch x).Nodup
theorem Pr.ne(p:Pr hm lt ch par){x c:Int}(h:c∈ch x):c≠ -1:=fun e=>by
 have:=(p.dn x c h).2.2.2.1
 rw[e,p.h0]at this
 omega
def pZ(ch:Int→List Int)(a b:Int):Int→List Int:=fun x=>if x=a then b::ch a else ch x
theorem Pr.link(p:Pr hm lt ch par){a b:Int}(ha:a≠ -1)(hb:par b= -1)(hh:hm a=hm b)(h0:0<hm b)(hl:lt a b=true):Pr hm lt (pZ ch a b) (aI par b a):=by
 refine⟨p.h0,fun x c hc=>?_,fun c x hc hx=>?_,fun x=>?_⟩
 ·unfold pZ at hc
  unfold aI
  by_cases hx:x=a
  ·subst hx
   rw[if_pos rfl]at hc
   rcases amf.1 hc with rfl|hc
   ·rw[if_pos rfl]
    exact⟨rfl,ha,hh,h0,hl⟩
   ·have h1:=p.dn x c hc
    rw[if_neg (fun e=>by rw[e,hb]at h1;exact h1.2.1 h1.1.symm)]
    exact h1
  ·rw[if_neg hx]at hc
   have h1:=p.dn x c hc
   rw[if_neg (fun e=>by rw[e,hb]at h1;exact h1.2.1 h1.1.symm)]
   exact h1
 ·unfold aI at hc
  unfold pZ
  by_cases Ia:c=b
  ·rw[if_pos Ia]at hc
   rw[if_pos hc.symm,Ia]
   exact amZ
  ·rw[if_neg Ia]at hc
   have:=p.up c x hc hx
   split
   ·rename_i e
    rw[←e]
    exact amK _ this
   ·exact this
 ·unfold pZ
  split
  ·exact amq.2 ⟨fun h=>by have:=p.dn a b h;rw[hb]at this;exact this.2.1 this.1.symm,p.nd a⟩
  ·exact p.nd x
def aA(ch:Int→List Int)(p:Int)(l:List Int):Int→List Int:=fun x=>if x=p then l else ch x
theorem Pr.off(q:Pr hm lt ch par){p x:Int}{l1 l2:List Int}(hp:ch p=l1++x::l2):Pr hm lt (aA ch p (l1++l2)) (aI par x (-1)):=by
 have hx:=q.dn p x (by rw[hp];simp)
 have kU:=q.nd p
 rw[hp,amT]at kU
 obtain⟨n1,n2,n3⟩:=kU
 rw[amq]at n2
 have cr:x∉l1++l2:=by
  rw[aml]
  rintro(h|h)
  ·exact n3 x h x (by simp) rfl
  ·exact n2.1 h
 have ad4:∀c,c∈l1++l2→c∈ch p:=fun c hc=>by
  rw[hp]
  rcases aml.1 hc with h|h
  ·simp[h]
  ·simp[h]
 refine⟨q.h0,fun y c hc=>?_,fun c y hc hy=>?_,fun y=>?_⟩
 ·unfold aA at hc
  unfold aI
  by_cases e:y=p
  ·subst e
   rw[if_pos rfl]at hc
   rw[if_neg (show¬c=x from fun e=>cr (by rw[←e];exact hc))]
   exact q.dn y c (ad4 c hc)
  ·rw[if_neg e]at hc
   have h1:=q.dn y c hc
   rw[if_neg (fun e2=>e (by rw[←h1.1,e2];exact hx.1))]
   exact h1
 ·unfold aI at hc
  unfold aA
  by_cases je:c=x
  ·rw[if_pos je]at hc
   exact absurd hc.symm hy
  ·rw[if_neg je]at hc
   have:=q.up c y hc hy
   split
   ·rename_i e
    rw[e,hp,aml,amf]at this
    rw[aml]
    rcases this with h|h|h
    ·exact .inl h
    ·exact absurd h je
    ·exact .inr h
   ·exact this
 ·unfold aA
  split
  ·rw[amT]
   exact⟨n1,n2.2,fun a ha b hb=>n3 a ha b (by simp[hb])⟩
  ·exact q.nd y
def gg(ch:Int→List Int)(par:Int→Int)(x:Int):Int→Int:=fun c=>if c∈ch x then -1 else par c
theorem Pr.bare(q:Pr hm lt ch par)(x:Int):Pr hm lt (aA ch x []) (gg ch par x):=by
 refine⟨q.h0,fun y c hc=>?_,fun c y hc hy=>?_,fun y=>?_⟩
 ·unfold aA at hc
  split at hc
  ·cases hc
  ·rename_i e
   have h1:=q.dn y c hc
   unfold gg
   rw[if_neg (fun h=>e (by rw[←h1.1,(q.dn x c h).1]))]
   exact h1
 ·unfold gg at hc
  split at hc
  ·exact absurd hc.symm hy
  ·rename_i h
   have:=q.up c y hc hy
   unfold aA
   rw[if_neg (show¬y=x from fun e=>h (by rw[←e];exact this))]
   exact this
 ·unfold aA
  split
  ·exact ani
  ·exact q.nd y
theorem Pr.other(q:Pr hm lt ch par)(h0:hm' (-1)=0)(h:∀x c,c∈ch x→hm x=hm c→0<hm c→lt x c=true→hm' x=hm' c∧0<hm' c∧lt' x c=true):Pr hm' lt' ch par:=
 ⟨h0,fun x c hc=>by
  obtain⟨h1,h2,h3,h4,h5⟩:=q.dn x c hc
  exact⟨h1,h2,h x c hc h3 h4 h5⟩,q.up,q.nd⟩
def KX(K:Int→Bool→Int)(B:Int→Int):Int→List Int→Prop
 |_,[]=>True
 |p,c::r=>B c=p∧K c true=r.headD (-1)∧KX K B c r
variable {K K' : Int → Bool → Int} {B B' : Int → Int}
theorem KX.frame:∀ {l:List Int} {p:Int},KX K B p l→(∀c∈l,K' c true=K c true∧B' c=B c)→KX K' B' p l:=by
 intro l
 induction l with
 |nil=>intro p _ _;trivial
 |cons c r ih=>
  intro p h hk
  obtain⟨h1,h2,h3⟩:=h
  obtain⟨k1,k2⟩:=hk c (by simp)
  exact⟨by rw[k2,h1],by rw[k1,h2],ih h3 fun d hd=>hk d (by simp[hd])⟩
theorem KX.behind{l:List Int}{p p':Int}(h:KX K B p l)(hk:∀c∈l,K' c true=K c true)(hb:∀c∈l,c≠l.headD (-1)→B' c=B c)(hp:l≠[]→B' (l.headD (-1))=p')(hn:l.Nodup):KX K' B' p' l:=by
 cases l with
 |nil=>trivial
 |cons c r=>
  obtain⟨h1,h2,h3⟩:=h
  have Yv:=(amq.1 hn).1
  refine⟨hp (by simp),by rw[hk c (by simp),h2],h3.frame fun d hd=>⟨hk d (by simp[hd]),hb d (by simp[hd]) fun e=>Yv (by simp only[List.headD_cons]at e;exact e▸hd)⟩⟩
theorem KX.split:∀ {l1:List Int} {p x:Int} {l2:List Int},KX K B p (l1++x::l2)→B x=l1.getLastD p∧K x true=l2.headD (-1)∧KX K B x l2∧(∀y,l1.getLast? =some y→K y true=x):=by
 intro l1
 induction l1 with
 |nil=>intro p x l2 h;exact⟨h.1,h.2.1,h.2.2,fun y hy=>by cases hy⟩
 |cons c r ih=>
  intro p x l2 h
  obtain⟨h1,h2,h3⟩:=h
  obtain⟨i1,i2,i3,i4⟩:=ih h3
  refine⟨?_,i2,i3,fun y hy=>?_⟩
  ·rw[i1]
   cases r<;>simp[List.getLastD]
  ·cases r with
   |nil=>
    simp only[List.getLast?_singleton,ame]at hy
    subst hy
    simpa using h2
   |cons d r=>
    rw[anY]at hy
    exact i4 y hy
theorem KX.cut:∀ {l1:List Int} {p x:Int} {l2:List Int},KX K B p (l1++x::l2)→(l1++x::l2).Nodup→
  (∀c∈l1,l1.getLast? ≠some c→K' c true=K c true)→(∀c∈l1,B' c=B c)→(∀y,l1.getLast? =some y→K' y true=l2.headD (-1))→
  KX K' B' (l1.getLastD p) l2→KX K' B' p (l1++l2):=by
 intro l1
 induction l1 with
 |nil=>intro p x l2 _ _ _ _ _ h;exact h
 |cons c r ih=>
  intro p x l2 h hn hk hb hl h2
  obtain⟨g1,g2,g3⟩:=h
  have zD:=amq.1 (show(c::(r++x::l2)).Nodup from hn)
  have wh:(c::r).getLastD p=r.getLastD c:=by cases r<;>simp[List.getLastD]
  rw[wh]at h2
  have hi:KX K' B' c (r++l2):=by
   refine ih g3 zD.2 (fun d hd he=>hk d (by simp[hd]) fun e=>he ?_) (fun d hd=>hb d (by simp[hd])) (fun y hy=>hl y ?_) h2
   ·cases r with
    |nil=>cases hd
    |cons e' r=>rw[anY]at e;exact e
   ·cases r with
    |nil=>cases hy
    |cons e' r=>rw[anY];exact hy
  refine⟨by rw[hb c (by simp),g1],?_,hi⟩
  cases r with
  |nil=>simpa using hl c (by simp)
  |cons d r=>
   have:(c::d::r).getLast? ≠some c:=by
    rw[anY]
    intro e
    exact zD.1 (amI _ (anz e))
   rw[hk c (by simp) this,g2]
   simp
structure JQ(K:Int→Bool→Int)(B:Int→Int)(ch:Int→List Int)(par:Int→Int):Prop where
 hd:∀x,K x false=(ch x).headD (-1)
 sg:∀x,KX K B x (ch x)
 rt:∀c,par c= -1→K c true= -1∧B c= -1
theorem eG{l:List Int}(h:l.headD (-1)≠ -1):l.headD (-1)∈l:=by
 cases l with
 |nil=>exact absurd rfl h
 |cons a l=>simp
theorem JQ.link(m:JQ K B ch par)(p:Pr hm lt ch par){a b:Int}(ha:a≠ -1)(hb:par b= -1)(zQ:a≠b):
  JQ (eF (eF K b true (K a false)) a false b) (if K a false= -1 then aI B b a else aI (aI B b a) (K a false) b) (pZ ch a b) (aI par b a):=by
 have hold:K a false≠ -1→K a false∈ch a:=fun h=>by rw[m.hd]at h ⊢;exact eG h
 have E1:∀x c,c∈ch x→c≠b:=fun x c hc e=>by
  have:=p.dn x c hc
  rw[e,hb]at this
  exact this.2.1 this.1.symm
 have ek:∀c,c≠b→eF (eF K b true (K a false)) a false b c true=K c true:=fun c hc=>by
  unfold eF
  rw[if_neg (by simp),if_neg (by simp[hc])]
 have eb:∀c,c≠b→(K a false≠ -1→c≠K a false)→(if K a false= -1 then aI B b a else aI (aI B b a) (K a false) b) c=B c:=fun c h1 h2=>by
  split
  ·unfold aI;rw[if_neg h1]
  ·rename_i h
   unfold aI;rw[if_neg (h2 h),if_neg h1]
 refine⟨fun x=>?_,fun x=>?_,fun c hc=>?_⟩
 ·unfold eF pZ
  by_cases hx:x=a
  ·rw[if_pos ⟨hx,rfl⟩,if_pos hx];rfl
  ·rw[if_neg (by simp[hx]),if_neg (by simp),if_neg hx]
   exact m.hd x
 ·unfold pZ
  by_cases hx:x=a
  ·subst hx
   rw[if_pos rfl]
   refine⟨?_,?_,?_⟩
   ·split
    ·unfold aI;rw[if_pos rfl]
    ·rename_i h
     unfold aI
     rw[if_neg (fun e=>E1 x _ (hold h) e.symm),if_pos rfl]
   ·unfold eF
    rw[if_neg (by simp),if_pos ⟨rfl,rfl⟩]
    exact m.hd x
   ·refine(m.sg x).behind (fun c hc=>ek c (E1 x c hc)) (fun c hc he=>eb c (E1 x c hc) (fun _=>by rw[m.hd];exact he)) (fun aT=>?_) (p.nd x)
    have h1:K x false≠ -1:=by
     rw[m.hd]
     cases hc:ch x with
     |nil=>exact absurd hc aT
     |cons d r=>exact p.ne (x:=x) (by rw[hc];simp)
    rw[if_neg h1]
    unfold aI
    rw[if_pos (m.hd x).symm]
  ·rw[if_neg hx]
   exact(m.sg x).frame fun c hc=>⟨ek c (E1 x c hc),eb c (E1 x c hc) fun _ e=>by
    have h1:=p.dn x c hc
    have h2:=p.dn a _ (hold (e▸p.ne hc))
    rw[←e,h1.1]at h2
    exact hx h2.1⟩
 ·unfold aI at hc
  have Ia:c≠b:=fun e=>by rw[if_pos e]at hc;exact ha hc
  rw[if_neg Ia]at hc
  have h1:=m.rt c hc
  rw[ek c Ia,eb c Ia fun h e=>?_]
  ·exact h1
  ·have h2:=p.dn a _ (hold h)
   rw[←e,hc]at h2
   exact h2.2.1 h2.1.symm
theorem JQ.off(m:JQ K B ch par)(q:Pr hm lt ch par)(hs:bC lt){p x:Int}{l1 l2:List Int}(hp:ch p=l1++x::l2):
  (K (B x) false=x↔l1=[])∧B x≠ -1∧B x≠x∧hm (B x)=hm x∧hm p=hm x∧(K x true≠ -1→hm (K x true)=hm x)∧
  JQ (eF (if l1=[]then eF K (B x) false (K x true)else eF K (B x) true (K x true)) x true (-1)) (aI (if K x true= -1 then B else aI B (K x true) (B x)) x (-1)) (aA ch p (l1++l2)) (aI par x (-1)):=by
 have hx:=q.dn p x (by rw[hp];simp)
 have kU:=q.nd p
 have V7:=kU
 rw[hp]at V7
 have sg:=m.sg p
 rw[hp]at sg
 obtain⟨b1,b2,b3,b4⟩:=sg.split
 obtain⟨n1,n2,n3⟩:=amT.1 V7
 have n4:=amq.1 n2
 have dZ:p≠x:=fun e=>by have:=hx.2.2.2.2;rw[e,hs.xS]at this;cases this
 have Rz:∀c∈l1,c∈ch p:=fun c hc=>by rw[hp];simp[hc]
 have TR:∀c∈l2,c∈ch p:=fun c hc=>by rw[hp];simp[hc]
 have x1:∀c∈l1,c≠x:=fun c hc e=>n3 c hc x (by simp) e
 have x2:∀c∈l2,c≠x:=fun c hc e=>n4.1 (e▸hc)
 have cp:∀c,c∈ch p→c≠p:=fun c hc e=>by have:=(q.dn p c hc).2.2.2.2;rw[e,hs.xS]at this;cases this
 have hB:(l1=[]∧B x=p)∨(∃y,l1.getLast? =some y∧B x=y∧y∈l1):=by
  rw[b1]
  cases hl:l1.getLast? with
  |none=>rw[List.getLast?_eq_none_iff]at hl;exact .inl ⟨hl,by rw[hl];rfl⟩
  |some y=>
   refine .inr ⟨y,rfl,?_,anz hl⟩
   rw[anw,hl];rfl
 have bx:B x≠x:=by
  rcases hB with ⟨_,h⟩| ⟨y,_,h,hy⟩
  ·rw[h];exact dZ
  ·rw[h];exact x1 y hy
 have RA:K x true≠ -1→K x true∈l2:=fun h=>by rw[b2]at h ⊢;exact eG h
 have first:K (B x) false=x↔l1=[]:=by
  rcases hB with ⟨h1,h2⟩| ⟨y,h1,h2,hy⟩
  ·rw[h2,m.hd,hp,h1];simp
  ·constructor
   ·intro h
    rw[h2,m.hd]at h
    have Pt:x∈ch y:=by rw[←h];exact eG (by rw[h];exact q.ne (x:=p) (by rw[hp];simp))
    have:=(q.dn y x Pt).1
    rw[hx.1]at this
    exact absurd this.symm (cp y (Rz y hy))
   ·intro h;rw[h]at hy;cases hy
 refine⟨first,?_,bx,?_,hx.2.2.1,fun h=>?_,?_⟩
 ·rcases hB with ⟨h1,h2⟩| ⟨y,h1,h2,hy⟩
  ·rw[h2];exact hx.2.1
  ·rw[h2];exact q.ne (Rz y hy)
 ·rcases hB with ⟨h1,h2⟩| ⟨y,h1,h2,hy⟩
  ·rw[h2];exact hx.2.2.1
  ·rw[h2,← (q.dn p y (Rz y hy)).2.2.1,hx.2.2.1]
 ·rw[← (q.dn p _ (TR _ (RA h))).2.2.1,hx.2.2.1]
 obtain⟨K2,ZG⟩:∃K2,K2=eF (if l1=[]then eF K (B x) false (K x true)else eF K (B x) true (K x true)) x true (-1):=⟨_,rfl⟩
 obtain⟨B2,hB2⟩:∃B2,B2=aI (if K x true= -1 then B else aI B (K x true) (B x)) x (-1):=⟨_,rfl⟩
 rw[←ZG,←hB2]
 have kf:∀y,K2 y false=if l1=[]∧y=p then K x true else K y false:=fun y=>by
  rw[ZG]
  unfold eF
  rw[if_neg (by simp)]
  by_cases h:l1=[]
  ·rw[if_pos h]
   have hb:B x=p:=by rw[b1,h];rfl
   rw[hb]
   by_cases hy:y=p
   ·rw[if_pos ⟨hy,rfl⟩,if_pos ⟨h,hy⟩]
   ·rw[if_neg (by simp[hy]),if_neg (by simp[hy])]
  ·rw[if_neg h,if_neg (by simp),if_neg (by simp[h])]
 have kt:∀y,y≠x→(l1.getLast? ≠some y)→K2 y true=K y true:=fun y hy hl=>by
  rw[ZG]
  unfold eF
  rw[if_neg (by simp[hy])]
  split
  ·show(if y=B x∧true=false then K x true else K y true)=_
   rw[if_neg (by simp)]
  ·rename_i h
   show(if y=B x∧true=true then K x true else K y true)=_
   rw[if_neg]
   rintro⟨e,_⟩
   rcases hB with ⟨h1,h2⟩| ⟨z,h1,h2,hz⟩
   ·exact h h1
   ·exact hl (by rw[h1,e,h2])
 have bt:∀y,y≠x→(K x true≠ -1→y≠K x true)→B2 y=B y:=fun y hy hk=>by
  rw[hB2]
  unfold aI
  rw[if_neg hy]
  split
  ·rfl
  ·rename_i h
   show(if y=K x true then B x else B y)=_
   rw[if_neg (hk h)]
 refine⟨fun y=>?_,fun y=>?_,fun c hc=>?_⟩
 ·rw[kf]
  unfold aA
  by_cases hy:y=p
  ·rw[if_pos hy]
   by_cases h:l1=[]
   ·rw[if_pos ⟨h,hy⟩,h,b2];rfl
   ·rw[if_neg (by simp[h]),m.hd,hy,hp]
    cases l1 with
    |nil=>exact absurd rfl h
    |cons a r=>rfl
  ·rw[if_neg (by simp[hy]),if_neg hy]
   exact m.hd y
 ·unfold aA
  by_cases hy:y=p
  ·subst hy
   rw[if_pos rfl]
   refine sg.cut V7 (fun c hc hl=>kt c (x1 c hc) hl) (fun c hc=>bt c (x1 c hc) fun h e=>?_) (fun z hz=>?_) ?_
   ·exact n3 c hc (K x true) (by simp[RA h]) e
   ·have ZH:=anz hz
    have aT:l1≠[]:=fun e=>by rw[e]at ZH;cases ZH
    rw[ZG,←b2]
    unfold eF
    rw[if_neg (by simp[x1 z ZH]),if_neg aT,if_pos]
    refine⟨?_,rfl⟩
    rw[b1,anw,hz];rfl
   ·refine b3.behind (fun c hc=>kt c (x2 c hc) fun hl=>n3 c (anz hl) c (by simp[hc]) rfl) (fun c hc he=>bt c (x2 c hc) fun h=>by rw[b2];exact he) (fun aT=>?_) n4.2
    have h1:K x true≠ -1:=by
     rw[b2]
     cases hc:l2 with
     |nil=>exact absurd hc aT
     |cons d r=>exact q.ne (TR d (by rw[hc];simp))
    rw[hB2]
    unfold aI
    rw[if_neg (by rw[←b2];exact x2 _ (RA h1)),if_neg h1,if_pos b2.symm,b1]
  ·rw[if_neg hy]
   refine(m.sg y).frame fun c hc=>?_
   have h1:=q.dn y c hc
   have Va:c∉ch p:=fun h=>hy (by rw[←h1.1,(q.dn p c h).1])
   have je:c≠x:=fun e=>Va (by rw[hp,e];simp)
   exact⟨kt c je fun hl=>Va (Rz c (anz hl)),bt c je fun h e=>Va (by rw[e];exact TR _ (RA h))⟩
 ·unfold aI at hc
  by_cases je:c=x
  ·rw[je,ZG,hB2]
   unfold eF aI
   rw[if_pos ⟨rfl,rfl⟩,if_pos rfl]
   exact⟨rfl,rfl⟩
  ·rw[if_neg je]at hc
   have Va:c∉ch p:=fun h=>by have:=q.dn p c h;rw[hc]at this;exact this.2.1 this.1.symm
   rw[kt c je fun hl=>Va (Rz c (anz hl)),bt c je fun h e=>Va (by rw[e];exact TR _ (RA h))]
   exact m.rt c hc
theorem JQ.bare(m:JQ K B ch par)(q:Pr hm lt ch par){x:Int}(h1:∀y,K' y false=if y=x then -1 else K y false)(h2:∀c∈ch x,K' c true= -1∧B' c= -1)(h3:∀c,c∉ch x→K' c true=K c true∧B' c=B c):
  JQ K' B' (aA ch x []) (gg ch par x):=by
 refine⟨fun y=>?_,fun y=>?_,fun c hc=>?_⟩
 ·rw[h1]
  unfold aA
  split
  ·rfl
  ·exact m.hd y
 ·unfold aA
  split
  ·trivial
  ·rename_i hy
   exact(m.sg y).frame fun c hc=>h3 c fun h=>hy (by rw[← (q.dn y c hc).1,(q.dn x c h).1])
 ·unfold gg at hc
  split at hc
  ·rename_i h;exact h2 c h
  ·rename_i h
   rw[(h3 c h).1,(h3 c h).2]
   exact m.rt c hc
structure EG(hm:Int→Int)(lt:Int→Int→Bool)(g:Int)(R:Int→Prop)(HZ:Int→List Int)(ch:Int→List Int)(par:Int→Int)(W:List Int):Prop where
 pr:Pr hm lt ch par
 nd:W.Nodup
 wm:∀x∈W,x≠ -1∧hm x=g∧par x= -1
 ml:∀x,0<hm x→(par x= -1↔x∈W∨R x)
 nr:∀x,R x→0<hm x∧x∉W
 fr:∀x,R x→ch x=HZ x
 g0:0<g
variable {g a b : Int} {R : Int → Prop} {W W' : List Int}
theorem EG.perm(m:EG hm lt g R HZ ch par W)(h:W.Perm W'):EG hm lt g R HZ ch par W':=
 ⟨m.pr,h.nodup_iff.1 m.nd,fun x hx=>m.wm x (h.mem_iff.2 hx),fun x hx=>by rw[m.ml x hx,h.mem_iff],fun x hx=>⟨(m.nr x hx).1,fun hw=>(m.nr x hx).2 (h.mem_iff.2 hw)⟩,m.fr,m.g0⟩
theorem EG.link(m:EG hm lt g R HZ ch par (a::b::W))(hl:lt a b=true):EG hm lt g R HZ (pZ ch a b) (aI par b a) (a::W):=by
 obtain⟨a1,a2,a3⟩:=m.wm a (by simp)
 obtain⟨b1,b2,b3⟩:=m.wm b (by simp)
 have kU:=m.nd
 rw[amq,amq]at kU
 obtain⟨n1,n2,n3⟩:=kU
 have zQ:a≠b:=fun e=>n1 (by rw[e];simp)
 have haW:a∉W:=fun h=>n1 (by simp[h])
 refine⟨m.pr.link a1 b3 (by rw[a2,b2]) (by rw[b2];exact m.g0) hl,amq.2 ⟨haW,n3⟩,fun x hx=>?_,fun x hx=>?_,fun x hx=>⟨(m.nr x hx).1,fun h=>(m.nr x hx).2 ?_⟩,fun x hx=>?_,m.g0⟩
 ·obtain⟨x1,x2,x3⟩:=m.wm x (by rcases amf.1 hx with rfl|h;simp;simp[h])
  refine⟨x1,x2,?_⟩
  unfold aI
  rw[if_neg]
  ·exact x3
  ·rintro rfl
   rcases amf.1 hx with h|h
   ·exact zQ h.symm
   ·exact n2 h
 ·unfold aI
  by_cases e:x=b
  ·rw[if_pos e]
   refine⟨fun h=>absurd h a1,?_⟩
   rintro(h|h)
   ·rcases amf.1 h with h|h
    ·exact absurd (h.symm.trans e) zQ
    ·exact absurd (e▸h) n2
   ·exact absurd (show x∈a::b::W by rw[e];simp) (m.nr x h).2
  ·rw[if_neg e,m.ml x hx]
   simp only[amf,e,false_or]
 ·rcases amf.1 h with rfl|h
  ·simp
  ·simp[h]
 ·unfold pZ
  rw[if_neg]
  ·exact m.fr x hx
  ·rintro rfl
   exact(m.nr x hx).2 (by simp)
def ws(l:List Int):List Int:=l.filter fun x=>decide (x≠ -1)
theorem ec(r:Int):ws [r]=if r= -1 then[]else[r]:=by
 unfold ws
 by_cases h:r= -1
 ·rw[if_pos h,h];rfl
 ·rw[if_neg h,anV,if_pos (by simp[h])];rfl
theorem pE(r:Int)(l:List Int):ws (r::l)=ws [r]++ws l:=by
 rw[show r::l=[r]++l from rfl]
 unfold ws
 rw[an3]
theorem EG.done{T:Int→Int}{r:Int}(m:EG hm lt g R HZ ch par (ws [r]))(ht:∀h,h≠g→T h≠ -1→hm (T h)=h∧0<h∧R (T h))(hR:∀x,R x→hm x≠g∧T (hm x)=x):TQ hm lt par (kT T g r):=by
 rw[ec]at m
 refine⟨fun x p hp HX=>by have:=m.pr.dn p x (m.pr.up x p hp HX);exact this.2.2,fun h hh=>?_,fun x hx hu=>?_⟩
 ·unfold kT at hh ⊢
  split
  ·rename_i e
   rw[if_pos e]at hh
   rw[if_neg hh]at m
   obtain⟨h1,h2,h3⟩:=m.wm r (by simp)
   exact⟨by rw[h2,e],by rw[e];exact m.g0,h3⟩
  ·rename_i e
   rw[if_neg e]at hh
   obtain⟨h1,h2,h3⟩:=ht h e hh
   exact⟨h1,h2,(m.ml _ (by omega)).2 (.inr h3)⟩
 ·unfold kT
  rcases(m.ml x hx).1 hu with h|h
  ·by_cases hr:r= -1
   ·rw[if_pos hr]at h;cases h
   ·rw[if_neg hr]at h m
    have e:=amg.1 h
    rw[e,if_pos (m.wm r (by simp)).2.1]
  ·obtain⟨h1,h2⟩:=hR x h
   rw[if_neg h1,h2]
structure TS(hm:Int→Int)(lt:Int→Int→Bool)(ch:Int→List Int)(par:Int→Int)(T:Int→Int):Prop where
 pr:Pr hm lt ch par
 tp:TQ hm lt par T
variable {T : Int → Int} {x : Int}
structure Tx(hm:Int→Int)(lt:Int→Int→Bool)(ch:Int→List Int)(par:Int→Int)(T:Int→Int)(g x:Int):Prop where
 pr:Pr hm lt ch par
 t1:∀h,T h≠ -1→hm (T h)=h∧0<h∧par (T h)= -1
 t2:∀y,0<hm y→par y= -1→y≠x→T (hm y)=y
 ox:x≠ -1∧hm x=g∧par x= -1
 nx:T g≠x
 g0:0<g
theorem Tx.w(o:Tx hm lt ch par T g x):EG hm lt g (fun y=>0<hm y∧par y= -1∧y≠x∧y≠T g) ch ch par (ws [T g,x]):=by
 have e:ws [T g,x]=if T g= -1 then[x]else[T g,x]:=by
  rw[pE,ec,ec,if_neg o.ox.1]
  split<;>rfl
 rw[e]
 refine⟨o.pr,?_,fun y hy=>?_,fun y hy=>?_,fun y hy=>⟨hy.1,fun h=>?_⟩,fun _ _=>rfl,o.g0⟩
 ·split
  ·simp
  ·simp[o.nx]
 ·split at hy
  ·rw[amg]at hy;rw[hy];exact o.ox
  ·rename_i h
   rcases amf.1 hy with rfl|hy
   ·obtain⟨h1,h2,h3⟩:=o.t1 g h
    exact⟨h,h1,h3⟩
   ·rw[amg]at hy;rw[hy];exact o.ox
 ·constructor
  ·intro hp
   by_cases h1:y=x
   ·left;split<;>simp[h1]
   ·by_cases h2:y=T g
    ·left
     rw[if_neg (fun h=>by rw[h2,h,o.pr.h0]at hy;omega)]
     simp[h2]
    ·exact .inr ⟨hy,hp,h1,h2⟩
  ·rintro(h|h)
   ·split at h
    ·rw[amg]at h;rw[h];exact o.ox.2.2
    ·rename_i hn
     rcases amf.1 h with rfl|h
     ·exact(o.t1 g hn).2.2
     ·rw[amg]at h;rw[h];exact o.ox.2.2
   ·exact h.2.1
 ·obtain⟨_,_,h3,h4⟩:=hy
  split at h
  ·simp[h3]at h
  ·simp[h3,h4]at h
theorem Tx.done{dT:Int→List Int}{bH:Int→Int}{r:Int}(o:Tx hm lt ch par T g x)(m:EG hm lt g (fun y=>0<hm y∧par y= -1∧y≠x∧y≠T g) ch dT bH (ws [r])):TS hm lt dT bH (kT T g r):=by
 refine⟨m.pr,m.done (fun h aT hh=>?_) (fun y hy=>?_)⟩
 ·obtain⟨h1,h2,h3⟩:=o.t1 h hh
  refine⟨h1,h2,by omega,h3,fun e=>?_,fun e=>?_⟩
  ·rw[e,o.ox.2.1]at h1;exact aT h1.symm
  ·by_cases h4:T g= -1
   ·rw[e]at hh;exact hh h4
   ·have:=(o.t1 g h4).1
    rw[←e,h1]at this
    exact aT this
 ·obtain⟨h1,h2,h3,h4⟩:=hy
  have h5:=o.t2 y h1 h2 h3
  exact⟨fun e=>by rw[e]at h5;exact h4 h5.symm,h5⟩
theorem Pr.alone(q:Pr hm lt ch par){x:Int}(hx:hm x≤0)(jq:x≠ -1):par x= -1∧ch x=[]:=by
 constructor
 ·apply amr
  intro h
  have:=(q.dn _ _ (q.up x _ rfl h)).2.2.2.1
  omega
 ·cases h:ch x with
  |nil=>rfl
  |cons c r=>
   have:=q.dn x c (by rw[h];simp)
   omega
theorem TS.ins(t:TS hm lt ch par T)(h0:hm' (-1)=0)(hx:hm x≤0)(jq:x≠ -1)(hg:0<g)(e1:hm' x=g)(e2:∀y,y≠x→hm' y=hm y)(el:∀a b,0<hm a→0<hm b→a≠x→b≠x→lt' a b=lt a b):Tx hm' lt' ch par T g x:=by
 obtain⟨a1,a2⟩:=t.pr.alone hx jq
 have tx:∀h,T h≠x:=fun h e=>by
  obtain⟨h1,h2,_⟩:=t.tp.t1 h (by rw[e];exact jq)
  rw[e]at h1
  omega
 refine⟨t.pr.other h0 fun y c hc h1 h2 h3=>?_,fun h hh=>?_,fun y hy hu aT=>?_,⟨jq,e1,a1⟩,tx g,hg⟩
 ·have n1:y≠x:=fun e=>by rw[e,a2]at hc;cases hc
  have n2:c≠x:=fun e=>by rw[e]at h2;omega
  rw[e2 _ n1,e2 _ n2,el _ _ (by omega) h2 n1 n2]
  exact⟨h1,h2,h3⟩
 ·obtain⟨h1,h2,h3⟩:=t.tp.t1 h hh
  exact⟨by rw[e2 _ (tx h)];exact h1,h2,h3⟩
 ·rw[e2 _ aT]at hy ⊢
  exact t.tp.t2 y hy hu
theorem TS.off(t:TS hm lt ch par T){p:Int}{l1 l2:List Int}(hp:ch p=l1++x::l2):Tx hm lt (aA ch p (l1++l2)) (aI par x (-1)) T (hm x) x:=by
 obtain⟨h1,h2,h3,h4,h5⟩:=t.pr.dn p x (by rw[hp];simp)
 have jq:x≠ -1:=fun e=>by rw[e,t.pr.h0]at h4;omega
 refine⟨t.pr.off hp,fun h hh=>?_,fun y hy hu aT=>?_,⟨jq,rfl,by unfold aI;rw[if_pos rfl]⟩,fun e=>?_,h4⟩
 ·obtain⟨g1,g2,g3⟩:=t.tp.t1 h hh
  refine⟨g1,g2,?_⟩
  unfold aI
  split
  ·rfl
  ·exact g3
 ·unfold aI at hu
  rw[if_neg aT]at hu
  exact t.tp.t2 y hy hu
 ·have:=(t.tp.t1 (hm x) (by rw[e];exact jq)).2.2
  rw[e,h1]at this
  exact h2 this
theorem Tx.low(o:Tx hm lt ch par T g x)(el:∀a b,0<hm a→0<hm b→a≠x→b≠x→lt' a b=lt a b)(ex:∀b,0<hm b→b≠x→lt x b=true→lt' x b=true):Tx hm lt' ch par T g x:=by
 refine⟨o.pr.other o.pr.h0 fun y c hc h1 h2 h3=>⟨h1,h2,?_⟩,o.t1,o.t2,o.ox,o.nx,o.g0⟩
 have n2:c≠x:=fun e=>by
  have:=o.pr.dn y c hc
  rw[e,o.ox.2.2]at this
  exact this.2.1 this.1.symm
 by_cases n1:y=x
 ·rw[n1]at h3 ⊢
  exact ex c h2 n2 h3
 ·rw[el _ _ (by omega) h2 n1 n2];exact h3
theorem TS.TP(t:TS hm lt ch par T)(hu:par x= -1)(el:∀a b,0<hm a→0<hm b→a≠x→b≠x→lt' a b=lt a b)(ex:∀b,0<hm b→b≠x→lt x b=true→lt' x b=true):TS hm lt' ch par T:=by
 have key:Pr hm lt' ch par:=t.pr.other t.pr.h0 fun y c hc h1 h2 h3=>⟨h1,h2,by
  have n2:c≠x:=fun e=>by
   have:=t.pr.dn y c hc
   rw[e,hu]at this
   exact this.2.1 this.1.symm
  by_cases n1:y=x
  ·rw[n1]at h3 ⊢
   exact ex c h2 n2 h3
  ·rw[el _ _ (by omega) h2 n1 n2];exact h3⟩
 exact⟨key,fun c y hc hy=>(key.dn y c (key.up c y hc hy)).2.2,t.tp.t1,t.tp.t2⟩
theorem Pr.V8(q:Pr hm lt ch par)(hx:0<hm x):EG hm lt (hm x) (fun y=>0<hm y∧par y= -1) (aA ch x []) (aA ch x []) (gg ch par x) (ch x):=by
 refine⟨q.bare x,q.nd x,fun y hy=>⟨q.ne hy,(q.dn x y hy).2.2.1.symm,by unfold gg;rw[if_pos hy]⟩,fun y hy=>?_,fun y hy=>⟨hy.1,fun h=>?_⟩,fun _ _=>rfl,hx⟩
 ·unfold gg
  split
  ·rename_i h;exact⟨fun _=>.inl h,fun _=>rfl⟩
  ·rename_i h;exact⟨fun h2=>.inr ⟨hy,h2⟩,fun h2=>(h2.resolve_left h).2⟩
 ·have:=q.dn x y h
  rw[hy.2]at this
  exact this.2.1 this.1.symm
theorem EG.drop{W:List Int}(m:EG hm lt g R HZ ch par W)(hx:R x)(hc:ch x=[])(hp:par x= -1)(h0:hm' (-1)=0)(e1:hm' x=0)(e2:∀y,y≠x→hm' y=hm y)(el:∀a b,0<hm a→0<hm b→a≠x→b≠x→lt' a b=lt a b):
  EG hm' lt' g (fun y=>R y∧y≠x) HZ ch par W:=by
 have nx:∀y c,c∈ch y→y≠x∧c≠x:=fun y c Le=>by
  refine⟨fun e=>?_,fun e=>?_⟩
  ·rw[e,hc]at Le;cases Le
  ·have:=m.pr.dn y c Le
   rw[e,hp]at this
   exact this.2.1 this.1.symm
 have hW:=(m.nr x hx).2
 refine⟨m.pr.other h0 fun y c Le h1 h2 h3=>?_,m.nd,fun y hy=>?_,fun y hy=>?_,fun y hy=>⟨?_,(m.nr y hy.1).2⟩,fun y hy=>m.fr y hy.1,m.g0⟩
 ·obtain⟨n1,n2⟩:=nx y c Le
  rw[e2 _ n1,e2 _ n2,el _ _ (by omega) h2 n1 n2]
  exact⟨h1,h2,h3⟩
 ·obtain⟨h1,h2,h3⟩:=m.wm y hy
  exact⟨h1,by rw[e2 _ (fun e=>hW (e▸hy))];exact h2,h3⟩
 ·have aT:y≠x:=fun e=>by rw[e,e1]at hy;omega
  rw[e2 _ aT]at hy
  rw[m.ml y hy]
  exact⟨fun h=>h.imp_right fun h=>⟨h,aT⟩,fun h=>h.imp_right fun h=>h.1⟩
 ·rw[e2 _ hy.2];exact(m.nr y hy.1).1
theorem EG.cG(m:EG hm lt g R HZ ch par W){t:Int}(ht:t≠ -1→R t∧hm t=g):EG hm lt g (fun y=>R y∧y≠t) HZ ch par (ws [t]++W):=by
 rw[ec]
 by_cases h:t= -1
 ·rw[if_pos h,ano]
  refine⟨m.pr,m.nd,m.wm,fun x hx=>?_,fun x hx=>m.nr x hx.1,fun x hx=>m.fr x hx.1,m.g0⟩
  rw[m.ml x hx]
  have hn:x≠t:=fun e=>by rw[e,h,m.pr.h0]at hx;omega
  exact⟨fun h=>h.imp_right fun h=>⟨h,hn⟩,fun h=>h.imp_right fun h=>h.1⟩
 ·obtain⟨h1,h2⟩:=ht h
  obtain⟨h3,h4⟩:=m.nr t h1
  rw[if_neg h]
  refine⟨m.pr,amq.2 ⟨h4,m.nd⟩,fun x hx=>?_,fun x hx=>?_,fun x hx=>⟨(m.nr x hx.1).1,fun h=>?_⟩,fun x hx=>m.fr x hx.1,m.g0⟩
  ·rcases amf.1 hx with rfl|hx
   ·exact⟨h,h2,(m.ml _ h3).2 (.inr h1)⟩
   ·exact m.wm x hx
  ·rw[m.ml x hx]
   constructor
   ·rintro(h|h)
    ·exact .inl (amK _ h)
    ·by_cases e:x=t
     ·exact .inl (by rw[e];exact amZ)
     ·exact .inr ⟨h,e⟩
   ·rintro(h|h)
    ·rcases amf.1 h with rfl|h
     ·exact .inr h1
     ·exact .inl h
    ·exact .inr h.1
  ·rcases amf.1 h with h|h
   ·exact hx.2 h
   ·exact(m.nr x hx.1).2 h
end
end Go.Proofs.YtjlnnljohemifaaGreat

namespace Go.Proofs.YtjlnnljohemifaaGreat
section
variable {nx OJ : Int → Int} {a b x y z : Int} {r s l l1 l2 A B : List Int}
def pF(nx:Int→Int):Int→List Int→Int→Prop
 |a,[],z=>nx a=z
 |a,b::r,z=>nx a=b∧pF nx b r z
def xT(nx:Int→Int):List Int→Prop
 | []=>True
 |a::r=>pF nx a r a
theorem pF.Yw:∀ {r:List Int} {a:Int},pF nx a (r++b::s) z↔pF nx a r b∧pF nx b s z:=by
 intro r
 induction r with
 |nil=>intro a;exact Iff.rfl
 |cons c r ih=>
  intro a
  constructor
  ·rintro⟨h1,h2⟩
   obtain⟨h3,h4⟩:=ih.1 h2
   exact⟨⟨h1,h3⟩,h4⟩
  ·rintro⟨⟨h1,h2⟩,h3⟩
   exact⟨h1,ih.2 ⟨h2,h3⟩⟩
theorem pF.first:∀ {r:List Int} {a a':Int},pF nx a r z→OJ a'=nx a→(∀c∈r,OJ c=nx c)→pF OJ a' r z:=by
 intro r
 induction r with
 |nil=>intro a a' h h1 _;exact h1.trans h
 |cons c r ih=>
  intro a a' h h1 h2
  exact⟨h1.trans h.1,ih h.2 (h2 c (by simp)) fun d hd=>h2 d (by simp[hd])⟩
theorem xT.frame(h:xT nx l)(hk:∀c∈l,OJ c=nx c):xT OJ l:=by
 cases l with
 |nil=>trivial
 |cons a r=>exact pF.first h (hk a (by simp)) fun c hc=>hk c (by simp[hc])
theorem xT.ZI(h:xT nx (l1++l2)):xT nx (l2++l1):=by
 cases l1 with
 |nil=>simpa using h
 |cons a r=>
  cases l2 with
  |nil=>simpa using h
  |cons b s=>
   have h1:pF nx a (r++b::s) a:=h
   obtain⟨h2,h3⟩:=pF.Yw.1 h1
   exact pF.Yw.2 ⟨h3,h2⟩
theorem xT.from(h:xT nx l)(hx:x∈l):∃A,l.Perm (x::A)∧xT nx (x::A):=by
 obtain⟨l1,l2,rfl⟩:=List.append_of_mem hx
 refine⟨l2++l1,?_,h.ZI⟩
 exact am1 (l₁:=l1) (l₂:=x::l2)
def zW(nx:Int→Int)(x y:Int):Int→Int:=fun z=>if z=x then nx y else if z=y then nx x else nx z
theorem OK:zW nx x y x=nx y:=by unfold zW;rw[if_pos rfl]
theorem OL:zW nx x y y=nx x:=by
 unfold zW
 by_cases h:y=x
 ·rw[if_pos h,h]
 ·rw[if_neg h,if_pos rfl]
theorem oV(h1:z≠x)(h2:z≠y):zW nx x y z=nx z:=by unfold zW;rw[if_neg h1,if_neg h2]
theorem xT.aN(h:xT nx l)(hx:x∉l)(hy:y∉l):xT (zW nx x y) l:=h.frame fun c hc=>oV (fun e=>hx (e▸hc)) (fun e=>hy (e▸hc))
theorem xT.join(h1:xT nx (x::A))(h2:xT nx (y::B))(hn:((x::A)++(y::B)).Nodup):xT (zW nx x y) (x::B++y::A):=by
 obtain⟨n1,n2,n3⟩:=amT.1 hn
 have a1:=(amq.1 n1).1
 have b1:=(amq.1 n2).1
 have hA:∀c∈A,zW nx x y c=nx c:=fun c hc=>oV (fun e=>a1 (e▸hc)) (fun e=>n3 c (by simp[hc]) y (by simp) e)
 have hB:∀c∈B,zW nx x y c=nx c:=fun c hc=>oV (fun e=>n3 x (by simp) c (by simp[hc]) e.symm) (fun e=>b1 (e▸hc))
 exact pF.Yw.2 ⟨pF.first h2 OK hB,pF.first h1 OL hA⟩
theorem xT.part(h:xT nx (x::A++[y]))(hn:(x::A++[y]).Nodup):zW nx x y x=x∧xT (zW nx x y) (y::A):=by
 have zD:=amq.1 (show(x::(A++[y])).Nodup from hn)
 obtain⟨n1,n2,n3⟩:=amT.1 zD.2
 have h0:pF nx x (A++[y]) x:=h
 obtain⟨h1,h2⟩:=pF.Yw.1 h0
 have hA:∀c∈A,zW nx x y c=nx c:=fun c hc=>oV (fun e=>zD.1 (by rw[←e];simp[hc])) (fun e=>n3 c hc y (by simp) e)
 exact⟨OK.trans h2,pF.first h1 OL hA⟩
theorem Lf:zW nx x x=nx:=by
 funext z
 unfold zW
 split
 ·rename_i e;rw[e]
 ·rfl
structure BE(nx pv:Int→Int):Prop where
 pn:∀x,pv (nx x)=x
 np:∀x,nx (pv x)=x
def TT(nx pv:Int→Int)(x y:Int):Int→Int:=fun z=>if z=nx x then y else if z=nx y then x else pv z
theorem BE.zW{pv:Int→Int}(h:BE nx pv)(x y:Int):BE (zW nx x y) (TT nx pv x y):=by
 have inj:∀u v,nx u=nx v→u=v:=fun u v e=>by rw[←h.pn u,e,h.pn]
 constructor
 ·intro z
  unfold TT
  by_cases h1:z=x
  ·rw[h1,OK]
   by_cases h2:nx y=nx x
   ·rw[if_pos h2,inj _ _ h2]
   ·rw[if_neg h2,if_pos rfl]
  ·by_cases h2:z=y
   ·rw[h2,OL,if_pos rfl]
   ·rw[oV h1 h2,if_neg (fun e=>h1 (inj _ _ e)),if_neg (fun e=>h2 (inj _ _ e)),h.pn]
 ·intro z
  unfold TT
  by_cases h1:z=nx x
  ·rw[if_pos h1,OL,h1]
  ·rw[if_neg h1]
   by_cases h2:z=nx y
   ·rw[if_pos h2,OK,h2]
   ·rw[if_neg h2,oV (fun e=>h1 (by rw[←e,h.np])) (fun e=>h2 (by rw[←e,h.np])),h.np]
theorem xT.last{pv:Int→Int}(h:BE nx pv)(hc:xT nx (x::A++[y])):pv x=y:=by
 have h0:pF nx x (A++[y]) x:=hc
 have h1:nx y=x:=(pF.Yw.1 h0).2
 rw[←h1,h.pn]
variable {hm hm' : Int → Int} {lt lt' : Int → Int → Bool} {ch : Int → List Int} {par : Int → Int} {aw : Int → List Int} {W : List Int}
structure dU(hm:Int→Int)(lt:Int→Int→Bool)(nx:Int→Int)(ch:Int→List Int)(par:Int→Int)(aw:Int→List Int)(W:List Int):Prop where
 pr:Pr hm lt ch par
 cy:∀x,xT nx (ch x)
 rc:∀h,xT nx (aw h)
 rn:∀h,(aw h).Nodup
 rm:∀h c,c∈aw h→hm c=h∧par c= -1∧0<h∧c∉W
 wn:W.Nodup
 wm:∀c∈W,nx c=c∧par c= -1∧0<hm c
 ml:∀c,0<hm c→par c= -1→c∈aw (hm c)∨c∈W
 lone:∀c,hm c≤0→nx c=c
theorem dU.Yx(m:dU hm lt nx ch par aw W){c:Int}(h:c∈W):c≠ -1:=fun e=>by
 have:=(m.wm c h).2.2
 rw[e,m.pr.h0]at this
 omega
theorem dU.rne(m:dU hm lt nx ch par aw W){c h:Int}(hc:c∈aw h):c≠ -1:=fun e=>by
 obtain⟨h1,_,h2,_⟩:=m.rm h c hc
 rw[e,m.pr.h0]at h1
 omega
theorem dU.M0(m:dU hm lt nx ch par aw W){c x:Int}(hc:c∈ch x):(∀h,c∉aw h)∧c∉W:=by
 have h1:=m.pr.dn x c hc
 refine⟨fun h hh=>?_,fun hw=>?_⟩
 ·have:=(m.rm h c hh).2.1
  rw[h1.1]at this
  exact h1.2.1 this
 ·have:=(m.wm c hw).2.1
  rw[h1.1]at this
  exact h1.2.1 this
theorem dU.perm{W':List Int}(m:dU hm lt nx ch par aw W)(h:W.Perm W'):dU hm lt nx ch par aw W':=
 ⟨m.pr,m.cy,m.rc,m.rn,fun g c hc=>by obtain⟨h1,h2,h3,h4⟩:=m.rm g c hc;exact⟨h1,h2,h3,fun hw=>h4 (h.mem_iff.2 hw)⟩,h.nodup_iff.1 m.wn,fun c hc=>m.wm c (h.mem_iff.2 hc),fun c h1 h2=>(m.ml c h1 h2).imp_right h.mem_iff.1,m.lone⟩
theorem dU.yi(m:dU hm lt nx ch par aw W){g:Int}{l:List Int}(hp:(aw g).Perm l)(hc:xT nx l):dU hm lt nx ch par (aA aw g l) W:=by
 refine⟨m.pr,m.cy,fun h=>?_,fun h=>?_,fun h c hh=>?_,m.wn,m.wm,fun c h1 h2=>?_,m.lone⟩
 ·unfold aA;split
  ·exact hc
  ·exact m.rc h
 ·unfold aA;split
  ·exact hp.nodup_iff.1 (m.rn g)
  ·exact m.rn h
 ·unfold aA at hh
  split at hh
  ·rename_i e
   rw[e]
   exact m.rm g c (hp.mem_iff.2 hh)
  ·exact m.rm h c hh
 ·unfold aA
  split
  ·rename_i e
   have:=m.ml c h1 h2
   rw[e]at this
   exact this.imp_left hp.mem_iff.1
  ·exact m.ml c h1 h2
theorem dU.RB(m:dU hm lt nx ch par aw (x::W)){t:Int}{A:List Int}(hr:aw (hm x)=t::A):dU hm lt (zW nx t x) ch par (aA aw (hm x) (t::x::A)) W:=by
 obtain⟨x1,x2,x3⟩:=m.wm x (by simp)
 have hxW:=(amq.1 m.wn).1
 have ht:=m.rm (hm x) t (by rw[hr];simp)
 have ZJ:t≠x:=fun e=>ht.2.2.2 (by rw[e];simp)
 have nr:∀h,x∉aw h:=fun h hh=>(m.rm h x hh).2.2.2 (by simp)
 have tr:∀h,t∈aw h→h=hm x:=fun h hh=>by rw[← (m.rm h t hh).1,ht.1]
 refine⟨m.pr,fun y=>(m.cy y).aN (fun h=>?_) (fun h=>?_),fun h=>?_,fun h=>?_,fun h c hh=>?_,(amq.1 m.wn).2,fun c hc=>?_,fun c h1 h2=>?_,fun c hc=>?_⟩
 ·exact(m.M0 h).1 (hm x) (by rw[hr];simp)
 ·exact(m.M0 h).2 (by simp)
 ·unfold aA
  split
  ·have h1:=m.rc (hm x)
   rw[hr]at h1
   have h2:xT nx [x]:=x1
   refine h1.join h2 ?_
   rw[amT]
   have hn:=m.rn (hm x)
   rw[hr]at hn
   refine⟨hn,by simp,fun u hu v hv e=>?_⟩
   rw[amg]at hv
   exact nr (hm x) (by rw[hr,←hv,←e];exact hu)
  ·rename_i e
   exact(m.rc h).aN (fun hh=>e (tr h hh)) (nr h)
 ·unfold aA
  split
  ·have hn:=m.rn (hm x)
   have h2:=nr (hm x)
   rw[hr]at hn h2
   rw[amq]at hn ⊢
   rw[amq]
   simp only[amf,not_or]at h2 ⊢
   exact⟨⟨ZJ,hn.1⟩,h2.2,hn.2⟩
  ·exact m.rn h
 ·unfold aA at hh
  split at hh
  ·rename_i e
   by_cases je:c=x
   ·rw[je,e];exact⟨rfl,x2,x3,hxW⟩
   ·have zC:c∈aw (hm x):=by
     rw[hr]
     simp only[amf]at hh ⊢
     rcases hh with h|h|h
     ·exact .inl h
     ·exact absurd h je
     ·exact .inr h
    obtain⟨h1,h2,h3,h4⟩:=m.rm _ c zC
    rw[e]
    exact⟨h1,h2,h3,fun h=>h4 (by simp[h])⟩
  ·obtain⟨h1,h2,h3,h4⟩:=m.rm h c hh
   exact⟨h1,h2,h3,fun h=>h4 (by simp[h])⟩
 ·obtain⟨h1,h2,h3⟩:=m.wm c (by simp[hc])
  refine⟨?_,h2,h3⟩
  rw[oV]
  ·exact h1
  ·rintro rfl;exact ht.2.2.2 (by simp[hc])
  ·rintro rfl;exact hxW hc
 ·unfold aA
  rcases m.ml c h1 h2 with h|h
  ·split
   ·rename_i e
    rw[e,hr]at h
    refine .inl ?_
    simp only[amf]at h ⊢
    exact h.imp_right .inr
   ·exact .inl h
  ·rcases amf.1 h with rfl|h
   ·rw[if_pos rfl]
    exact .inl (by simp)
   ·exact .inr h
 ·rw[oV]
  ·exact m.lone c hc
  ·rintro rfl;omega
  ·rintro rfl;omega
theorem dU.ZK(m:dU hm lt nx ch par aw (x::W))(hr:aw (hm x)=[]):dU hm lt nx ch par (aA aw (hm x) [x]) W:=by
 obtain⟨x1,x2,x3⟩:=m.wm x (by simp)
 have hxW:=(amq.1 m.wn).1
 refine⟨m.pr,m.cy,fun h=>?_,fun h=>?_,fun h c hh=>?_,(amq.1 m.wn).2,fun c hc=>m.wm c (by simp[hc]),fun c h1 h2=>?_,m.lone⟩
 ·unfold aA;split
  ·exact x1
  ·exact m.rc h
 ·unfold aA;split
  ·simp
  ·exact m.rn h
 ·unfold aA at hh
  split at hh
  ·rename_i e
   rw[amg]at hh
   rw[hh,e];exact⟨rfl,x2,x3,hxW⟩
  ·obtain⟨h1,h2,h3,h4⟩:=m.rm h c hh
   exact⟨h1,h2,h3,fun h=>h4 (by simp[h])⟩
 ·unfold aA
  rcases m.ml c h1 h2 with h|h
  ·split
   ·rename_i e;rw[e,hr]at h;cases h
   ·exact .inl h
  ·rcases amf.1 h with rfl|h
   ·rw[if_pos rfl]
    exact .inl (by simp)
   ·exact .inr h
theorem dU.ZL(m:dU hm lt nx ch par aw W){g y:Int}{A:List Int}(hr:aw g=x::A++[y]):dU hm lt (zW nx x y) ch par (aA aw g (y::A)) (x::W):=by
 obtain⟨x1,x2,x3,x4⟩:=m.rm g x (by rw[hr];simp)
 obtain⟨y1,y2,y3,y4⟩:=m.rm g y (by rw[hr];simp)
 have hc:=m.rc g
 have hn:=m.rn g
 rw[hr]at hc hn
 obtain⟨p1,p2⟩:=hc.part hn
 have zD:=amq.1 (show(x::(A++[y])).Nodup from hn)
 have hp:(A++[y]).Perm (y::A):=am1 (l₁:=A) (l₂:=[y])
 have er:∀h c,c∈aw h→(c=x∨c=y)→h=g:=fun h c hh he=>by
  rw[← (m.rm h c hh).1]
  rcases he with rfl|rfl
  ·exact x1
  ·exact y1
 refine⟨m.pr,fun z=>(m.cy z).aN (fun h=>(m.M0 h).1 g (by rw[hr];simp)) (fun h=>(m.M0 h).1 g (by rw[hr];simp)),fun h=>?_,fun h=>?_,fun h c hh=>?_,amq.2 ⟨x4,m.wn⟩,fun c JR=>?_,fun c h1 h2=>?_,fun c hc=>?_⟩
 ·unfold aA
  split
  ·exact p2
  ·rename_i e
   exact(m.rc h).aN (fun hh=>e (er h x hh (.inl rfl))) (fun hh=>e (er h y hh (.inr rfl)))
 ·unfold aA
  split
  ·exact hp.nodup_iff.1 zD.2
  ·exact m.rn h
 ·unfold aA at hh
  split at hh
  ·rename_i e
   have zC:c∈A++[y]:=hp.mem_iff.2 hh
   obtain⟨h1,h2,h3,h4⟩:=m.rm g c (by rw[hr];exact amK _ zC)
   rw[e]
   refine⟨h1,h2,h3,fun h=>?_⟩
   rcases amf.1 h with rfl|h
   ·exact zD.1 zC
   ·exact h4 h
  ·rename_i e
   obtain⟨h1,h2,h3,h4⟩:=m.rm h c hh
   refine⟨h1,h2,h3,fun hw=>?_⟩
   rcases amf.1 hw with rfl|hw
   ·exact e (er h c hh (.inl rfl))
   ·exact h4 hw
 ·rcases amf.1 JR with rfl|hw
  ·exact⟨p1,x2,by omega⟩
  ·obtain⟨h1,h2,h3⟩:=m.wm c hw
   refine⟨?_,h2,h3⟩
   rw[oV (z:=c) (fun e=>x4 (by rw[←e];exact hw)) (fun e=>y4 (by rw[←e];exact hw))]
   exact h1
 ·unfold aA
  rcases m.ml c h1 h2 with h|h
  ·split
   ·rename_i e
    rw[e,hr]at h
    rcases amf.1 h with rfl|h
    ·exact .inr (by simp)
    ·exact .inl (hp.mem_iff.1 h)
   ·exact .inl h
  ·exact .inr (by simp[h])
 ·rw[oV]
  ·exact m.lone c hc
  ·rintro rfl;omega
  ·rintro rfl;omega
theorem dU.ZM(m:dU hm lt nx ch par aw W){g:Int}(hr:aw g=[x]):dU hm lt nx ch par (aA aw g []) (x::W):=by
 obtain⟨x1,x2,x3,x4⟩:=m.rm g x (by rw[hr];simp)
 have hc:=m.rc g
 rw[hr]at hc
 refine⟨m.pr,m.cy,fun h=>?_,fun h=>?_,fun h c hh=>?_,amq.2 ⟨x4,m.wn⟩,fun c zC=>?_,fun c h1 h2=>?_,m.lone⟩
 ·unfold aA;split
  ·trivial
  ·exact m.rc h
 ·unfold aA;split
  ·exact ani
  ·exact m.rn h
 ·unfold aA at hh
  split at hh
  ·cases hh
  ·rename_i e
   obtain⟨h1,h2,h3,h4⟩:=m.rm h c hh
   refine⟨h1,h2,h3,fun hw=>?_⟩
   rcases amf.1 hw with rfl|hw
   ·exact e (by rw[←h1,x1])
   ·exact h4 hw
 ·rcases amf.1 zC with rfl|zC
  ·exact⟨hc,x2,by omega⟩
  ·exact m.wm c zC
 ·unfold aA
  rcases m.ml c h1 h2 with h|h
  ·split
   ·rename_i e
    rw[e,hr,amg]at h
    exact .inr (by simp[h])
   ·exact .inl h
  ·exact .inr (by simp[h])
theorem Pr.RC(q:Pr hm lt ch par){l:List Int}(h:(ch x).Perm l):Pr hm lt (aA ch x l) par:=by
 refine⟨q.h0,fun y c hc=>?_,fun c y hc hy=>?_,fun y=>?_⟩
 ·unfold aA at hc
  split at hc
  ·rename_i e
   rw[e];exact q.dn x c (h.mem_iff.2 hc)
  ·exact q.dn y c hc
 ·have:=q.up c y hc hy
  unfold aA
  split
  ·rename_i e
   rw[e]at this
   exact h.mem_iff.1 this
  ·exact this
 ·unfold aA
  split
  ·exact h.nodup_iff.1 (q.nd x)
  ·exact q.nd y
theorem eI(ch:Int→List Int)(x:Int)(l l':List Int):aA (aA ch x l) x l'=aA ch x l':=by
 funext y
 unfold aA
 split<;>rfl
theorem Jm(ch:Int→List Int)(x b:Int)(l:List Int):aA (pZ ch x b) x l=aA ch x l:=by
 funext y
 unfold aA pZ
 split<;>rfl
theorem dU.ZN(m:dU hm lt nx ch par aw W){l:List Int}(hp:(ch x).Perm l)(hc:xT nx l):dU hm lt nx (aA ch x l) par aw W:=by
 refine⟨m.pr.RC hp,fun y=>?_,m.rc,m.rn,m.rm,m.wn,m.wm,m.ml,m.lone⟩
 unfold aA
 split
 ·exact hc
 ·exact m.cy y
theorem dU.V9(m:dU hm lt nx ch par aw (x::y::W))(hh:hm x=hm y)(hl:lt x y=true)(hc:ch x=[]):dU hm lt nx (aA ch x [y]) (aI par y x) aw (x::W):=by
 obtain⟨x1,x2,x3⟩:=m.wm x (by simp)
 obtain⟨y1,y2,y3⟩:=m.wm y (by simp)
 have FY:=m.Yx (c:=x) (by simp)
 have hn:=m.wn
 simp only[amq,amf,not_or]at hn
 have pu:∀c,c≠y→aI par y x c=par c:=fun c h=>by unfold aI;rw[if_neg h]
 have q:=m.pr.link FY y2 hh y3 hl
 have e1:pZ ch x y=aA ch x [y]:=by
  funext z
  unfold pZ aA
  split
  ·rw[hc]
  ·rfl
 rw[e1]at q
 refine⟨q,fun z=>?_,m.rc,m.rn,fun h c hc=>?_,amq.2 ⟨hn.1.2,hn.2.2⟩,fun c hc=>?_,fun c h1 h2=>?_,m.lone⟩
 ·unfold aA
  split
  ·exact y1
  ·exact m.cy z
 ·obtain⟨h1,h2,h3,h4⟩:=m.rm h c hc
  simp only[amf,not_or]at h4
  exact⟨h1,by rw[pu c h4.2.1];exact h2,h3,by simp[h4.1,h4.2.2]⟩
 ·have BF:c≠y:=fun e=>by
   rw[e]at hc
   rcases amf.1 hc with h|h
   ·exact hn.1.1 h.symm
   ·exact hn.2.1 h
  obtain⟨h1,h2,h3⟩:=m.wm c (by rcases amf.1 hc with h|h;simp[h];simp[h])
  exact⟨h1,by rw[pu c BF];exact h2,h3⟩
 ·have BF:c≠y:=fun e=>by
   rw[e]at h2
   unfold aI at h2
   rw[if_pos rfl]at h2
   exact FY h2
  rw[pu c BF]at h2
  refine(m.ml c h1 h2).imp_right fun h=>?_
  simp only[amf]at h ⊢
  rcases h with h|h|h
  ·exact .inl h
  ·exact absurd h BF
  ·exact .inr h
theorem dU.under(m:dU hm lt nx ch par aw (x::y::W))(hh:hm x=hm y)(hl:lt x y=true){k:Int}{K:List Int}(hc:ch x=k::K):dU hm lt (zW nx k y) (aA ch x (y::K++[k])) (aI par y x) aw (x::W):=by
 obtain⟨x1,x2,x3⟩:=m.wm x (by simp)
 obtain⟨y1,y2,y3⟩:=m.wm y (by simp)
 have FY:=m.Yx (c:=x) (by simp)
 have hn:=m.wn
 simp only[amq,amf,not_or]at hn
 have hk:=m.M0 (c:=k) (x:=x) (by rw[hc];simp)
 have OD:=m.pr.dn x k (by rw[hc];simp)
 have yr:∀h,y∉aw h:=fun h hh=>(m.rm h y hh).2.2.2 (by simp)
 have yc:∀z,y∉ch z:=fun z h=>(m.M0 h).2 (by simp)
 have kc:∀z,k∈ch z→z=x:=fun z h=>by rw[← (m.pr.dn z k h).1,OD.1]
 have pu:∀c,c≠y→aI par y x c=par c:=fun c h=>by unfold aI;rw[if_neg h]
 have q:=m.pr.link FY y2 hh y3 hl
 have q2:=q.RC (x:=x) (l:=y::K++[k]) (by
  unfold pZ
  rw[if_pos rfl,hc]
  exact(am1 (l₁:=[k]) (l₂:=K)).cons y)
 rw[Jm]at q2
 have cyc:xT (zW nx k y) (y::K++[k]):=by
  have h1:=m.cy x
  rw[hc]at h1
  have kU:=m.pr.nd x
  have hy:=yc x
  rw[hc]at kU hy
  have h3:=h1.join (y:=y) (B:=[]) y1 (by
   rw[amT]
   refine⟨kU,by simp,fun u hu v hv e=>?_⟩
   rw[amg]at hv
   exact hy (by rw[←hv,←e];exact hu))
  exact xT.ZI (l1:=[k]) (l2:=y::K) h3
 refine⟨q2,fun z=>?_,fun h=>(m.rc h).aN (hk.1 h) (yr h),m.rn,fun h c hc=>?_,amq.2 ⟨hn.1.2,hn.2.2⟩,fun c hc=>?_,fun c h1 h2=>?_,fun c zC=>?_⟩
 ·unfold aA
  split
  ·exact cyc
  ·rename_i e
   exact(m.cy z).aN (fun h=>e (kc z h)) (yc z)
 ·obtain⟨h1,h2,h3,h4⟩:=m.rm h c hc
  simp only[amf,not_or]at h4
  exact⟨h1,by rw[pu c h4.2.1];exact h2,h3,by simp[h4.1,h4.2.2]⟩
 ·have BF:c≠y:=fun e=>by
   rw[e]at hc
   rcases amf.1 hc with h|h
   ·exact hn.1.1 h.symm
   ·exact hn.2.1 h
  have hcW:c∈x::y::W:=by rcases amf.1 hc with h|h;simp[h];simp[h]
  obtain⟨h1,h2,h3⟩:=m.wm c hcW
  refine⟨?_,by rw[pu c BF];exact h2,h3⟩
  rw[oV (fun e=>hk.2 (by rw[←e];exact hcW)) BF]
  exact h1
 ·have BF:c≠y:=fun e=>by
   rw[e]at h2
   unfold aI at h2
   rw[if_pos rfl]at h2
   exact FY h2
  rw[pu c BF]at h2
  refine(m.ml c h1 h2).imp_right fun h=>?_
  simp only[amf]at h ⊢
  rcases h with h|h|h
  ·exact .inl h
  ·exact absurd h BF
  ·exact .inr h
 ·rw[oV (fun e=>by rw[e]at zC;omega) (fun e=>by rw[e]at zC;omega)]
  exact m.lone c zC
theorem dU.raise(m:dU hm lt nx ch par aw W){g k:Int}{K:List Int}(hr:aw g=x::A)(hc:ch x=k::K):dU hm lt (zW nx x k) (aA ch x []) (gg ch par x) (aA aw g (x::K++k::A)) W:=by
 obtain⟨x1,x2,x3,x4⟩:=m.rm g x (by rw[hr];simp)
 have iq:x≠ -1:=m.rne (h:=g) (by rw[hr];simp)
 have hk:=m.M0 (c:=k) (x:=x) (by rw[hc];simp)
 have OD:=m.pr.dn x k (by rw[hc];simp)
 have sH:∀c,c∈ch x→hm c=g∧0<hm c:=fun c h=>by have:=m.pr.dn x c h;exact⟨by rw[←this.2.2.1,x1],this.2.2.2.1⟩
 have xc:∀z,x∉ch z:=fun z h=>(m.M0 h).1 g (by rw[hr];simp)
 have kc:∀z,k∈ch z→z=x:=fun z h=>by rw[← (m.pr.dn z k h).1,OD.1]
 have xr:∀h,x∈aw h→h=g:=fun h hh=>by rw[← (m.rm h x hh).1,x1]
 have hnA:=m.rn g
 rw[hr]at hnA
 have hnK:=m.pr.nd x
 rw[hc]at hnK
 have ZO:((x::A)++(k::K)).Nodup:=by
  rw[amT]
  refine⟨hnA,hnK,fun u hu v hv e=>?_⟩
  exact(m.M0 (c:=v) (x:=x) (by rw[hc];exact hv)).1 g (by rw[hr,←e];exact hu)
 have uV:((x::A)++(k::K)).Perm (x::K++k::A):=by
  refine List.Perm.cons x ?_
  refine(am1 (l₁:=A) (l₂:=k::K)).trans ?_
  exact anU.symm
 have rl:=m.rc g
 rw[hr]at rl
 have hck:=m.cy x
 rw[hc]at hck
 refine⟨m.pr.bare x,fun z=>?_,fun h=>?_,fun h=>?_,fun h c hh=>?_,m.wn,fun c JR=>?_,fun c h1 h2=>?_,fun c rq=>?_⟩
 ·unfold aA
  split
  ·trivial
  ·rename_i e
   exact(m.cy z).aN (xc z) (fun h=>e (kc z h))
 ·unfold aA
  split
  ·exact rl.join hck ZO
  ·rename_i e
   exact(m.rc h).aN (fun hh=>e (xr h hh)) (hk.1 h)
 ·unfold aA
  split
  ·exact uV.nodup_iff.1 ZO
  ·exact m.rn h
 ·unfold aA at hh
  unfold gg
  split at hh
  ·rename_i e
   rw[e]
   have hm2:=uV.mem_iff.2 hh
   rcases aml.1 hm2 with h5|h5
   ·obtain⟨h1,h2,h3,h4⟩:=m.rm g c (by rw[hr];exact h5)
    refine⟨h1,?_,h3,h4⟩
    split
    ·rfl
    ·exact h2
   ·have h6:c∈ch x:=by rw[hc];exact h5
    obtain⟨h7,h8⟩:=sH c h6
    rw[if_pos h6]
    exact⟨h7,rfl,by omega,(m.M0 h6).2⟩
  ·obtain⟨h1,h2,h3,h4⟩:=m.rm h c hh
   refine⟨h1,?_,h3,h4⟩
   split
   ·rfl
   ·exact h2
 ·obtain⟨h1,h2,h3⟩:=m.wm c JR
  refine⟨?_,?_,h3⟩
  ·rw[oV (fun e=>x4 (by rw[←e];exact JR)) (fun e=>hk.2 (by rw[←e];exact JR))]
   exact h1
  ·unfold gg
   split
   ·rfl
   ·exact h2
 ·unfold gg at h2
  unfold aA
  by_cases h6:c∈ch x
  ·rw[if_pos (sH c h6).1]
   refine .inl (uV.mem_iff.1 (am4 _ ?_))
   rw[←hc];exact h6
  ·rw[if_neg h6]at h2
   rcases m.ml c h1 h2 with h|h
   ·refine .inl ?_
    split
    ·rename_i e
     rw[e,hr]at h
     exact uV.mem_iff.1 (amI _ h)
    ·exact h
   ·exact .inr h
 ·rw[oV (fun e=>by rw[e,x1]at rq;omega) (fun e=>by have:=(sH k (by rw[hc];simp)).2;rw[e]at rq;omega)]
  exact m.lone c rq
theorem dU.off(m:dU hm lt nx ch par aw W){p:Int}(hc:ch p=x::A++[y]):dU hm lt (zW nx x y) (aA ch p (A++[y])) (aI par x (-1)) aw (x::W):=by
 have hx:=m.pr.dn p x (by rw[hc];simp)
 have hy:=m.pr.dn p y (by rw[hc];simp)
 have OJ:=m.M0 (c:=x) (x:=p) (by rw[hc];simp)
 have ny':=m.M0 (c:=y) (x:=p) (by rw[hc];simp)
 have pu:∀c,c≠x→aI par x (-1) c=par c:=fun c h=>by unfold aI;rw[if_neg h]
 have BF:=m.cy p
 have kU:=m.pr.nd p
 rw[hc]at BF kU
 obtain⟨p1,p2⟩:=BF.part kU
 have q:=m.pr.off (l1:=[]) (l2:=A++[y]) (x:=x) (p:=p) (by rw[hc];rfl)
 refine⟨q,fun z=>?_,fun h=>(m.rc h).aN (OJ.1 h) (ny'.1 h),m.rn,fun h c hh=>?_,amq.2 ⟨OJ.2,m.wn⟩,fun c JR=>?_,fun c h1 h2=>?_,fun c rq=>?_⟩
 ·unfold aA
  split
  ·exact xT.ZI (l1:=[y]) (l2:=A) p2
  ·rename_i e
   exact(m.cy z).aN (fun h=>e (by rw[← (m.pr.dn z x h).1,hx.1])) (fun h=>e (by rw[← (m.pr.dn z y h).1,hy.1]))
 ·obtain⟨h1,h2,h3,h4⟩:=m.rm h c hh
  have je:c≠x:=fun e=>OJ.1 h (by rw[←e];exact hh)
  exact⟨h1,by rw[pu c je];exact h2,h3,by simp[je,h4]⟩
 ·rcases amf.1 JR with e|hw
  ·rw[e]
   exact⟨p1,by unfold aI;rw[if_pos rfl],hx.2.2.2.1⟩
  ·obtain⟨h1,h2,h3⟩:=m.wm c hw
   have je:c≠x:=fun e=>OJ.2 (by rw[←e];exact hw)
   refine⟨?_,by rw[pu c je];exact h2,h3⟩
   rw[oV je (fun e=>ny'.2 (by rw[←e];exact hw))]
   exact h1
 ·by_cases je:c=x
  ·exact .inr (by simp[je])
  ·rw[pu c je]at h2
   exact(m.ml c h1 h2).imp_right fun h=>by simp[h]
 ·rw[oV (fun e=>by rw[e]at rq;omega) (fun e=>by rw[e]at rq;omega)]
  exact m.lone c rq
theorem dU.ad6(m:dU hm lt nx ch par aw W){p:Int}(hc:ch p=[x]):dU hm lt nx (aA ch p []) (aI par x (-1)) aw (x::W):=by
 have hx:=m.pr.dn p x (by rw[hc];simp)
 have OJ:=m.M0 (c:=x) (x:=p) (by rw[hc];simp)
 have pu:∀c,c≠x→aI par x (-1) c=par c:=fun c h=>by unfold aI;rw[if_neg h]
 have BF:=m.cy p
 rw[hc]at BF
 have q:=m.pr.off (l1:=[]) (l2:=[]) (x:=x) (p:=p) (by rw[hc];rfl)
 refine⟨q,fun z=>?_,m.rc,m.rn,fun h c hh=>?_,amq.2 ⟨OJ.2,m.wn⟩,fun c JR=>?_,fun c h1 h2=>?_,m.lone⟩
 ·unfold aA
  split
  ·trivial
  ·exact m.cy z
 ·obtain⟨h1,h2,h3,h4⟩:=m.rm h c hh
  have je:c≠x:=fun e=>OJ.1 h (by rw[←e];exact hh)
  exact⟨h1,by rw[pu c je];exact h2,h3,by simp[je,h4]⟩
 ·rcases amf.1 JR with e|hw
  ·rw[e]
   exact⟨BF,by unfold aI;rw[if_pos rfl],hx.2.2.2.1⟩
  ·obtain⟨h1,h2,h3⟩:=m.wm c hw
   have je:c≠x:=fun e=>OJ.2 (by rw[←e];exact hw)
   exact⟨h1,by rw[pu c je];exact h2,h3⟩
 ·by_cases je:c=x
  ·exact .inr (by simp[je])
  ·rw[pu c je]at h2
   exact(m.ml c h1 h2).imp_right fun h=>by simp[h]
theorem dU.other(m:dU hm lt nx ch par aw W)(h:∀x c,c∈ch x→hm x=hm c→0<hm c→lt x c=true→lt' x c=true):dU hm lt' nx ch par aw W:=
 ⟨m.pr.other m.pr.h0 fun x c hc h1 h2 h3=>⟨h1,h2,h x c hc h1 h2 h3⟩,m.cy,m.rc,m.rn,m.rm,m.wn,m.wm,m.ml,m.lone⟩
theorem dU.put(m:dU hm lt nx ch par aw W){g:Int}(h0:hm' (-1)=0)(hx:hm x≤0)(jq:x≠ -1)(hg:0<g)(e1:hm' x=g)(e2:∀y,y≠x→hm' y=hm y)(el:∀a b,0<hm a→0<hm b→a≠x→b≠x→lt' a b=lt a b):dU hm' lt' nx ch par aw (x::W):=by
 obtain⟨a1,a2⟩:=m.pr.alone hx jq
 have nr:∀h,x∉aw h:=fun h hh=>by obtain⟨h1,_,h3,_⟩:=m.rm h x hh;omega
 have nW:x∉W:=fun h=>by have:=(m.wm x h).2.2;omega
 refine⟨m.pr.other h0 fun y c hc h1 h2 h3=>?_,m.cy,m.rc,m.rn,fun h c hh=>?_,amq.2 ⟨nW,m.wn⟩,fun c hc=>?_,fun c h1 h2=>?_,fun c hc=>?_⟩
 ·have n1:y≠x:=fun e=>by rw[e,a2]at hc;cases hc
  have n2:c≠x:=fun e=>by rw[e]at h2;omega
  rw[e2 _ n1,e2 _ n2,el _ _ (by omega) h2 n1 n2]
  exact⟨h1,h2,h3⟩
 ·obtain⟨h1,h2,h3,h4⟩:=m.rm h c hh
  have n1:c≠x:=fun e=>nr h (by rw[←e];exact hh)
  exact⟨by rw[e2 c n1];exact h1,h2,h3,by simp[n1,h4]⟩
 ·rcases amf.1 hc with e|hc
  ·rw[e,e1];exact⟨m.lone x hx,a1,hg⟩
  ·obtain⟨h1,h2,h3⟩:=m.wm c hc
   exact⟨h1,h2,by rw[e2 c (fun e=>nW (by rw[←e];exact hc))];exact h3⟩
 ·by_cases je:c=x
  ·exact .inr (by simp[je])
  ·rw[e2 c je]at h1 ⊢
   exact(m.ml c h1 h2).imp_right fun h=>by simp[h]
 ·by_cases je:c=x
  ·rw[je,e1]at hc;omega
  ·rw[e2 c je]at hc
   exact m.lone c hc
theorem dU.drop(m:dU hm lt nx ch par aw (x::W))(hc:ch x=[])(h0:hm' (-1)=0)(e1:hm' x=0)(e2:∀y,y≠x→hm' y=hm y)(el:∀a b,0<hm a→0<hm b→a≠x→b≠x→lt' a b=lt a b):dU hm' lt' nx ch par aw W:=by
 obtain⟨x1,x2,x3⟩:=m.wm x (by simp)
 have hn:=amq.1 m.wn
 refine⟨m.pr.other h0 fun y c Jn h1 h2 h3=>?_,m.cy,m.rc,m.rn,fun h c hh=>?_,hn.2,fun c JR=>?_,fun c h1 h2=>?_,fun c rq=>?_⟩
 ·have n1:y≠x:=fun e=>by rw[e,hc]at Jn;cases Jn
  have n2:c≠x:=fun e=>by rw[e]at Jn;exact(m.M0 Jn).2 (by simp)
  rw[e2 _ n1,e2 _ n2,el _ _ (by omega) h2 n1 n2]
  exact⟨h1,h2,h3⟩
 ·obtain⟨h1,h2,h3,h4⟩:=m.rm h c hh
  simp only[amf,not_or]at h4
  exact⟨by rw[e2 c h4.1];exact h1,h2,h3,h4.2⟩
 ·obtain⟨h1,h2,h3⟩:=m.wm c (by simp[JR])
  exact⟨h1,h2,by rw[e2 c (fun e=>hn.1 (by rw[←e];exact JR))];exact h3⟩
 ·have je:c≠x:=fun e=>by rw[e,e1]at h1;omega
  rw[e2 c je]at h1 ⊢
  refine(m.ml c h1 h2).imp_right fun h=>?_
  exact(amf.1 h).resolve_left je
 ·by_cases je:c=x
  ·rw[je];exact x1
  ·rw[e2 c je]at rq
   exact m.lone c rq
end
end Go.Proofs.YtjlnnljohemifaaGreat

namespace Go.Proofs.YtjlnnljohemifaaGreat
section
variable {hm hm' : Int → Int} {lt lt' : Int → Int → Bool} {ch dT : Int → List Int} {par : Int → Int} {rows : Int → List Int} {W W' l l' : List Int} {x y a b c p g : Int}
def Gg(ch:Int→List Int)(l:List Int):Prop:=l.Pairwise fun a b=>(ch a).length< (ch b).length
theorem Gg.nodup(h:Gg ch l):l.Nodup:=List.Pairwise.imp (fun h e=>by rw[e]at h;omega) h
theorem Gg.frame(h:Gg ch l)(e:∀c∈l,(dT c).length=(ch c).length):Gg dT l:=
 List.Pairwise.imp_of_mem (fun ha hb h=>by rw[e _ ha,e _ hb];exact h) h
theorem Gg.sub(h:Gg ch l)(hs:l'.Sublist l):Gg ch l':=List.Pairwise.sublist hs h
structure mq(hm:Int→Int)(lt:Int→Int→Bool)(ch:Int→List Int)(par:Int→Int)(rows:Int→List Int)(W:List Int):Prop where
 pr:Pr hm lt ch par
 dg:∀x (i:Nat) c,(ch x)[i]? =some c→(ch c).length=i
 rr:∀h,Gg ch (rows h)
 rm:∀h c,c∈rows h→hm c=h∧par c= -1∧0<h∧c∉W
 wn:W.Nodup
 wm:∀c∈W,par c= -1∧0<hm c
 ml:∀c,0<hm c→par c= -1→c∈rows (hm c)∨c∈W
theorem mq.less(m:mq hm lt ch par rows W)(h:c∈ch x):(ch c).length< (ch x).length:=by
 obtain⟨i,hi,e⟩:=anQ.1 h
 have:=m.dg x i c (by rw[al5 hi,e])
 omega
theorem mq.Yx(m:mq hm lt ch par rows W)(h:c∈W):c≠ -1:=fun e=>by
 have:=(m.wm c h).2
 rw[e,m.pr.h0]at this
 omega
theorem mq.TU(m:mq hm lt ch par rows W)(h:par c= -1)(z:Int):c∉ch z:=fun hc=>by
 have:=m.pr.dn z c hc
 rw[h]at this
 exact this.2.1 this.1.symm
theorem mq.perm(m:mq hm lt ch par rows W)(h:W.Perm W'):mq hm lt ch par rows W':=
 ⟨m.pr,m.dg,m.rr,fun g c hc=>by obtain⟨h1,h2,h3,h4⟩:=m.rm g c hc;exact⟨h1,h2,h3,fun hw=>h4 (h.mem_iff.2 hw)⟩,h.nodup_iff.1 m.wn,fun c hc=>m.wm c (h.mem_iff.2 hc),fun c h1 h2=>(m.ml c h1 h2).imp_right h.mem_iff.1⟩
theorem mq.other(m:mq hm lt ch par rows W)(h:∀x c,c∈ch x→lt x c=true→lt' x c=true):mq hm lt' ch par rows W:=
 ⟨m.pr.other m.pr.h0 fun x c hc h1 h2 h3=>⟨h1,h2,h x c hc h3⟩,m.dg,m.rr,m.rm,m.wn,m.wm,m.ml⟩
theorem mq.link(m:mq hm lt ch par rows (a::b::W))(hh:hm a=hm b)(hd:(ch a).length=(ch b).length)(hl:lt a b=true):
  mq hm lt (aA ch a (ch a++[b])) (aI par b a) rows (a::W):=by
 obtain⟨a1,a2⟩:=m.wm a (by simp)
 obtain⟨b1,b2⟩:=m.wm b (by simp)
 have hn:=m.wn
 simp only[amq,amf,not_or]at hn
 have han:a≠ -1:=m.Yx (by simp)
 have zQ:a≠b:=hn.1.1
 have q:=m.pr.link han b1 hh b2 hl
 have q2:=q.RC (x:=a) (l:=ch a++[b]) (by
  unfold pZ
  rw[if_pos rfl]
  exact am1 (l₁:=[b]) (l₂:=ch a))
 rw[Jm]at q2
 have nc:=m.TU a1
 have ne:∀c,c≠a→aA ch a (ch a++[b]) c=ch c:=fun c h=>by unfold aA;rw[if_neg h]
 have na:aA ch a (ch a++[b]) a=ch a++[b]:=by unfold aA;rw[if_pos rfl]
 refine⟨q2,fun z i c hc=>?_,fun h=>(m.rr h).frame fun c hc=>?_,fun h c hc=>?_,amq.2 ⟨hn.1.2,hn.2.2⟩,fun c hc=>?_,fun c h1 h2=>?_⟩
 ·by_cases hz:z=a
  ·rw[hz,na]at hc
   by_cases hi:i< (ch a).length
   ·rw[amn hi]at hc
    rw[ne c (fun e=>nc a (by have h7:=amb hc;rw[e]at h7;exact h7))]
    exact m.dg a i c hc
   ·rw[amw (by omega)]at hc
    have h0:i - (ch a).length=0:=by
     have:=(al7.1 hc).1
     simp at this
     omega
    rw[h0]at hc
    have Ia:b=c:=by simpa using hc
    rw[←Ia,ne b zQ.symm]
    omega
  ·rw[ne z hz]at hc
   rw[ne c (fun e=>nc z (by rw[←e];exact amb hc))]
   exact m.dg z i c hc
 ·rw[ne c (fun e=>by have:=(m.rm h c hc).2.2.2;rw[e]at this;exact this (by simp))]
 ·obtain⟨h1,h2,h3,h4⟩:=m.rm h c hc
  simp only[amf,not_or]at h4
  exact⟨h1,by unfold aI;rw[if_neg h4.2.1];exact h2,h3,by simp[h4.1,h4.2.2]⟩
 ·have Ia:c≠b:=fun e=>by
   rw[e]at hc
   rcases amf.1 hc with h|h
   ·exact zQ h.symm
   ·exact hn.2.1 h
  obtain⟨h1,h2⟩:=m.wm c (by rcases amf.1 hc with h|h<;>simp[h])
  exact⟨by unfold aI;rw[if_neg Ia];exact h1,h2⟩
 ·have Ia:c≠b:=fun e=>by
   rw[e]at h2
   unfold aI at h2
   rw[if_pos rfl]at h2
   exact han h2
  unfold aI at h2
  rw[if_neg Ia]at h2
  refine(m.ml c h1 h2).imp_right fun h=>?_
  simp only[amf]at h ⊢
  rcases h with h|h|h
  ·exact .inl h
  ·exact absurd h Ia
  ·exact .inr h
theorem mq.loose(m:mq hm lt ch par rows W)(g:Int):mq hm lt ch par (aA rows g []) (rows g++W):=by
 refine⟨m.pr,m.dg,fun h=>?_,fun h c hc=>?_,amT.2 ⟨(m.rr g).nodup,m.wn,fun u hu v hv e=>(m.rm g u hu).2.2.2 (by rw[e];exact hv)⟩,fun c hc=>?_,fun c h1 h2=>?_⟩
 ·unfold aA
  split
  ·exact List.Pairwise.nil
  ·exact m.rr h
 ·unfold aA at hc
  split at hc
  ·cases hc
  ·rename_i e
   obtain⟨h1,h2,h3,h4⟩:=m.rm h c hc
   refine⟨h1,h2,h3,fun hw=>?_⟩
   rcases aml.1 hw with hw|hw
   ·exact e (by rw[←h1,(m.rm g c hw).1])
   ·exact h4 hw
 ·rcases aml.1 hc with hc|hc
  ·obtain⟨h1,h2,h3,h4⟩:=m.rm g c hc
   exact⟨h2,by omega⟩
  ·exact m.wm c hc
 ·unfold aA
  rcases m.ml c h1 h2 with h|h
  ·split
   ·rename_i e
    rw[e]at h
    exact .inr (amI _ h)
   ·exact .inl h
  ·exact .inr (am4 _ h)
theorem mq.row(m:mq hm lt ch par rows (l++W))(he:rows g=[])(hr:Gg ch l)(hg:∀c∈l,hm c=g):mq hm lt ch par (aA rows g l) W:=by
 obtain⟨n1,n2,n3⟩:=amT.1 m.wn
 refine⟨m.pr,m.dg,fun h=>?_,fun h c hc=>?_,n2,fun c hc=>m.wm c (am4 _ hc),fun c h1 h2=>?_⟩
 ·unfold aA
  split
  ·exact hr
  ·exact m.rr h
 ·unfold aA at hc
  split at hc
  ·rename_i e
   obtain⟨h1,h2⟩:=m.wm c (amI _ hc)
   have h3:=hg c hc
   exact⟨by omega,h1,by omega,fun hw=>n3 c hc c hw rfl⟩
  ·obtain⟨h1,h2,h3,h4⟩:=m.rm h c hc
   exact⟨h1,h2,h3,fun hw=>h4 (am4 _ hw)⟩
 ·unfold aA
  rcases m.ml c h1 h2 with h|h
  ·split
   ·rename_i e
    rw[e,he]at h
    cases h
   ·exact .inl h
  ·rcases aml.1 h with h|h
   ·rw[if_pos (hg c h)]
    exact .inl h
   ·exact .inr h
theorem mq.split(m:mq hm lt ch par rows (x::W)):mq hm lt (aA ch x []) (gg ch par x) rows (x::(ch x++W)):=by
 obtain⟨x1,x2⟩:=m.wm x (by simp)
 have hn:=amq.1 m.wn
 have nc:=m.TU x1
 have kd:∀c,c∈ch x→par c≠ -1:=fun c hc e=>m.TU e x hc
 refine⟨m.pr.bare x,fun z i c hc=>?_,fun h=>(m.rr h).frame fun c hc=>?_,fun h c hc=>?_,?_,fun c hc=>?_,fun c h1 h2=>?_⟩
 ·unfold aA at hc ⊢
  split at hc
  ·simp at hc
  ·rw[if_neg (fun e=>nc z (by rw[←e];exact amb hc))]
   exact m.dg z i c hc
 ·unfold aA
  rw[if_neg (fun e=>by have:=(m.rm h c hc).2.2.2;rw[e]at this;exact this (by simp))]
 ·obtain⟨h1,h2,h3,h4⟩:=m.rm h c hc
  simp only[amf,not_or]at h4
  have hk:c∉ch x:=fun hk=>kd c hk h2
  refine⟨h1,by unfold gg;rw[if_neg hk];exact h2,h3,?_⟩
  simp only[amf,aml,not_or]
  exact⟨h4.1,hk,h4.2⟩
 ·rw[amq,amT]
  refine⟨?_,m.pr.nd x,hn.2,fun u hu v hv e=>kd u hu (by rw[e];exact(m.wm v (by simp[hv])).1)⟩
  rw[aml]
  rintro(h|h)
  ·exact nc x h
  ·exact hn.1 h
 ·simp only[amf,aml]at hc
  unfold gg
  rcases hc with h|h|h
  ·rw[h,if_neg (nc x)]
   exact⟨x1,x2⟩
  ·rw[if_pos h]
   exact⟨rfl,(m.pr.dn x c h).2.2.2.1⟩
  ·obtain⟨h1,h2⟩:=m.wm c (by simp[h])
   rw[if_neg (fun hk=>kd c hk h1)]
   exact⟨h1,h2⟩
 ·unfold gg at h2
  simp only[amf,aml]
  split at h2
  ·rename_i hk
   exact .inr (.inr (.inl hk))
  ·rcases m.ml c h1 h2 with h|h
   ·exact .inl h
   ·rcases amf.1 h with h|h
    ·exact .inr (.inl h)
    ·exact .inr (.inr (.inr h))
theorem mq.put(m:mq hm lt ch par rows W)(h0:hm' (-1)=0)(hx:hm x≤0)(jq:x≠ -1)(hg:0<g)(e1:hm' x=g)(e2:∀y,y≠x→hm' y=hm y)(el:∀a b,0<hm a→0<hm b→a≠x→b≠x→lt' a b=lt a b):mq hm' lt' ch par rows (x::W)∧ch x=[]:=by
 obtain⟨a1,a2⟩:=m.pr.alone hx jq
 have nr:∀h,x∉rows h:=fun h hh=>by obtain⟨h1,_,h3,_⟩:=m.rm h x hh;omega
 have nW:x∉W:=fun h=>by have:=(m.wm x h).2;omega
 refine⟨⟨m.pr.other h0 fun y c hc h1 h2 h3=>?_,m.dg,m.rr,fun h c hh=>?_,amq.2 ⟨nW,m.wn⟩,fun c hc=>?_,fun c h1 h2=>?_⟩,a2⟩
 ·have n1:y≠x:=fun e=>by rw[e,a2]at hc;cases hc
  have n2:c≠x:=fun e=>by rw[e]at h2;omega
  rw[e2 _ n1,e2 _ n2,el _ _ (by omega) h2 n1 n2]
  exact⟨h1,h2,h3⟩
 ·obtain⟨h1,h2,h3,h4⟩:=m.rm h c hh
  have n1:c≠x:=fun e=>nr h (by rw[←e];exact hh)
  exact⟨by rw[e2 c n1];exact h1,h2,h3,by simp[n1,h4]⟩
 ·rcases amf.1 hc with e|hc
  ·rw[e,e1];exact⟨a1,hg⟩
  ·obtain⟨h1,h2⟩:=m.wm c hc
   exact⟨h1,by rw[e2 c (fun e=>nW (by rw[←e];exact hc))];exact h2⟩
 ·by_cases je:c=x
  ·exact .inr (by simp[je])
  ·rw[e2 c je]at h1 ⊢
   exact(m.ml c h1 h2).imp_right fun h=>by simp[h]
theorem mq.drop(m:mq hm lt ch par rows (x::W))(hc:ch x=[])(h0:hm' (-1)=0)(e1:hm' x=0)(e2:∀y,y≠x→hm' y=hm y)(el:∀a b,0<hm a→0<hm b→a≠x→b≠x→lt a b=true→lt' a b=true):mq hm' lt' ch par rows W:=by
 obtain⟨x2,x3⟩:=m.wm x (by simp)
 have hn:=amq.1 m.wn
 refine⟨m.pr.other h0 fun y c Jn h1 h2 h3=>?_,m.dg,m.rr,fun h c hh=>?_,hn.2,fun c JR=>?_,fun c h1 h2=>?_⟩
 ·have n1:y≠x:=fun e=>by rw[e,hc]at Jn;cases Jn
  have n2:c≠x:=fun e=>by rw[e]at Jn;exact m.TU x2 _ Jn
  rw[e2 _ n1,e2 _ n2]
  exact⟨h1,h2,el _ _ (by omega) h2 n1 n2 h3⟩
 ·obtain⟨h1,h2,h3,h4⟩:=m.rm h c hh
  simp only[amf,not_or]at h4
  exact⟨by rw[e2 c h4.1];exact h1,h2,h3,h4.2⟩
 ·obtain⟨h1,h2⟩:=m.wm c (by simp[JR])
  exact⟨h1,by rw[e2 c (fun e=>hn.1 (by rw[←e];exact JR))];exact h2⟩
 ·have je:c≠x:=fun e=>by rw[e,e1]at h1;omega
  rw[e2 c je]at h1 ⊢
  refine(m.ml c h1 h2).imp_right fun h=>?_
  exact(amf.1 h).resolve_left je
def jr(x p z:Int):Int:=if z=x then p else if z=p then x else z
theorem nA:jr x p x=p:=by unfold jr;rw[if_pos rfl]
theorem uW:jr x p p=x:=by
 unfold jr
 by_cases h:p=x
 ·rw[if_pos h,h]
 ·rw[if_neg h,if_pos rfl]
theorem gh(h1:c≠x)(h2:c≠p):jr x p c=c:=by unfold jr;rw[if_neg h1,if_neg h2]
theorem kV(z:Int):jr x p (jr x p z)=z:=by
 by_cases h1:z=x
 ·rw[h1,nA,uW]
 ·by_cases h2:z=p
  ·rw[h2,uW,nA]
  ·rw[gh h1 h2,gh h1 h2]
theorem OM{u v:Int}(h:jr x p u=jr x p v):u=v:=by rw[←kV (x:=x) (p:=p) u,h,kV]
def HP(ch:Int→List Int)(x p:Int):Int→List Int:=fun z=>(ch (jr x p z)).map (jr x p)
def JS(par:Int→Int)(x p:Int):Int→Int:=fun z=>jr x p (par (jr x p z))
theorem BG(h1:x∉l)(h2:p∉l):l.map (jr x p)=l:=by
 have:l.map (jr x p)=l.map id:=anE fun c hc=>gh (fun e=>h1 (by rw[←e];exact hc)) (fun e=>h2 (by rw[←e];exact hc))
 rw[this,List.map_id]
theorem Jo(h:l.Nodup):(l.map (jr x p)).Nodup:=by
 unfold List.Nodup at h ⊢
 rw[aoi]
 exact h.imp fun aT e=>aT (OM e)
theorem JT(z:Int):(HP ch x p (jr x p z)).length=(ch z).length:=by unfold HP;rw[kV,amu]
theorem kW{z:Int}:z∈l.map (jr x p)↔jr x p z∈l:=by
 rw[amJ]
 constructor
 ·rintro⟨u,h1,h2⟩
  rw[←h2,kV];exact h1
 ·intro h
  exact⟨_,h,kV z⟩
theorem mq.swap(m:mq hm lt ch par rows W)(hx:x∈ch p)(hl:∀z c,c∈ch z→lt z c=true→lt' (jr x p z) (jr x p c)=true):
  mq hm lt' (HP ch x p) (JS par x p) (fun h=>(rows h).map (jr x p)) (W.map (jr x p)):=by
 obtain⟨d1,d2,d3,d4,d5⟩:=m.pr.dn p x hx
 have FY:=m.pr.ne hx
 have qS:∀z,hm (jr x p z)=hm z:=fun z=>by
  by_cases h1:z=x
  ·rw[h1,nA,d3]
  ·by_cases h2:z=p
   ·rw[h2,uW,d3]
   ·rw[gh h1 h2]
 have Dk:jr x p (-1)= -1:=gh (Ne.symm FY) (Ne.symm d2)
 have HX:∀z,jr x p z= -1↔z= -1:=fun z=>⟨fun h=>OM (h.trans Dk.symm),fun h=>by rw[h,Dk]⟩
 have hpS:∀z,JS par x p z= -1↔par (jr x p z)= -1:=fun z=>HX _
 refine⟨⟨m.pr.h0,fun z c hc=>?_,fun c z hc hz=>?_,fun z=>Jo (m.pr.nd _)⟩,fun z i c hc=>?_,fun h=>?_,fun h c hc=>?_,Jo m.wn,fun c hc=>?_,fun c h1 h2=>?_⟩
 ·have zC:=kW.1 hc
  obtain⟨h1,h2,h3,h4,h5⟩:=m.pr.dn _ _ zC
  refine⟨by unfold JS;rw[h1,kV],fun e=>h2 ((HX z).2 e),?_,?_,?_⟩
  ·rw[qS,qS]at h3;exact h3
  ·rw[qS]at h4;exact h4
  ·have:=hl _ _ zC h5
   rwa[kV,kV]at this
 ·have h1:par (jr x p c)=jr x p z:=by rw[←hc];unfold JS;rw[kV]
  exact kW.2 (m.pr.up _ _ h1 (fun e=>hz ((HX z).1 e)))
 ·unfold HP at hc
  rw[amo]at hc
  cases he:(ch (jr x p z))[i]? with
  |none=>rw[he]at hc;cases hc
  |some d=>
   rw[he]at hc
   injection hc with hc
   rw[←hc,JT]
   exact m.dg _ i d he
 ·unfold Gg
  rw[aoi]
  exact(m.rr h).imp fun h=>by rw[JT,JT];exact h
 ·obtain⟨h1,h2,h3,h4⟩:=m.rm h _ (kW.1 hc)
  exact⟨by rw[←h1,qS],(hpS c).2 h2,h3,fun hw=>h4 (kW.1 hw)⟩
 ·obtain⟨h1,h2⟩:=m.wm _ (kW.1 hc)
  exact⟨(hpS c).2 h1,by rw[qS]at h2;exact h2⟩
 ·have h3:=m.ml (jr x p c) (by rw[qS];exact h1) ((hpS c).1 h2)
  rw[qS]at h3
  exact h3.imp kW.2 kW.2
def lx(lt:Int→Int→Bool)(x:Int):Int→Int→Bool:=fun a b=>decide (a=x) || decide (b=x) || lt a b
theorem Vb(h:lt a b=true):lx lt x a b=true:=by unfold lx;simp[h]
theorem JU(h:lx lt x a b=true)(h1:a≠x)(h2:b≠x):lt a b=true:=by
 unfold lx at h
 simp only[Bool.or_eq_true,amQ]at h
 rcases h with (h|h)|h
 ·exact absurd h h1
 ·exact absurd h h2
 ·exact h
structure MM(hm:Int→Int)(lt:Int→Int→Bool)(ch:Int→List Int)(par:Int→Int)(rows:Int→List Int)(W:List Int)(x:Int):Prop where
 w:mq hm (lx lt x) ch par rows W
 by_:par x≠ -1→∀d∈ch x,lt (par x) d=true
theorem MM.start(hs:bC lt)(m:mq hm lt ch par rows W)(el:∀a b,0<hm a→0<hm b→a≠x→b≠x→lt' a b=lt a b):MM hm lt' ch par rows W x:=by
 have nx:x∉ch x:=fun h=>by have:=m.less h;omega
 refine⟨m.other fun z c hc h=>?_,fun hp d hd=>?_⟩
 ·by_cases h1:z=x
  ·unfold lx;simp[h1]
  ·by_cases h2:c=x
   ·unfold lx;simp[h2]
   ·obtain⟨_,_,h3,h4,_⟩:=m.pr.dn z c hc
    exact Vb (by rw[el _ _ (by omega) h4 h1 h2];exact h)
 ·have hx:=m.pr.up x _ rfl hp
  obtain⟨_,_,h3,h4,h5⟩:=m.pr.dn _ _ hx
  obtain⟨_,_,h6,h7,h8⟩:=m.pr.dn _ _ hd
  rw[el _ _ (by omega) h7 (fun e=>nx (by rw[e]at hx;exact hx)) (fun e=>nx (by rw[e]at hd;exact hd))]
  exact hs.tr _ _ _ h5 h8
theorem MM.up(hs:bC lt)(m:MM hm lt ch par rows W x)(hx:x∈ch p):MM hm lt (HP ch x p) (JS par x p) (fun h=>(rows h).map (jr x p)) (W.map (jr x p)) x:=by
 have hd:=m.w.pr.dn p x hx
 have vw:=m.w.less hx
 have dZ:p≠x:=fun e=>by rw[e]at vw;omega
 have hp:par x=p:=hd.1
 have nx:∀c,c∈ch x→c≠x∧c≠p:=fun c hc=>by
  have:=m.w.less hc
  exact⟨fun e=>by rw[e]at this;omega,fun e=>by rw[e]at this;omega⟩
 refine⟨m.w.swap hx fun z c hc h=>?_,fun hq d TV=>?_⟩
 ·by_cases h1:z=x
  ·rw[h1]at hc ⊢
   obtain⟨n1,n2⟩:=nx c hc
   rw[nA,gh n1 n2,←hp]
   exact Vb (m.by_ (by rw[hp];exact hd.2.1) c hc)
  ·by_cases h2:z=p
   ·rw[h2,uW];unfold lx;simp
   ·by_cases h3:c=x
    ·have:=(m.w.pr.dn z c hc).1
     rw[h3,hp]at this
     exact absurd this.symm h2
    ·by_cases h4:c=p
     ·rw[h4,uW];unfold lx;simp
     ·rw[gh h1 h2,gh h3 h4]
      exact h
 ·have U8:JS par x p x=jr x p (par p):=by unfold JS;rw[nA]
  have Pu:par p≠ -1:=fun e=>hq (by rw[U8,e];exact gh (Ne.symm (m.w.pr.ne hx)) (Ne.symm hd.2.1))
  have RD:=m.w.pr.up p _ rfl Pu
  have wh:=m.w.less RD
  have g1:par p≠x:=fun e=>by rw[e]at wh;omega
  have g2:par p≠p:=fun e=>by rw[e]at wh;omega
  rw[U8,gh g1 g2]
  have h1:=JU (m.w.pr.dn _ _ RD).2.2.2.2 g1 dZ
  unfold HP at TV
  rw[nA]at TV
  have oW:=kW.1 TV
  by_cases e1:d=p
  ·rw[e1];exact h1
  ·have e2:d≠x:=fun e=>by
    rw[e,nA]at oW
    have:=m.w.less oW
    omega
   rw[gh e2 e1]at oW
   exact hs.tr _ _ _ h1 (JU (m.w.pr.dn p d oW).2.2.2.2 dZ e2)
theorem MM.low(hs:bC lt)(m:MM hm lt ch par rows W x)(hx:x∈ch p)(hl:lt x p=true):∀d∈HP ch x p x,lt x d=true:=by
 intro d TV
 have vw:=m.w.less hx
 have dZ:p≠x:=fun e=>by rw[e]at vw;omega
 unfold HP at TV
 rw[nA]at TV
 have oW:=kW.1 TV
 by_cases e1:d=p
 ·rw[e1];exact hl
 ·have e2:d≠x:=fun e=>by
   rw[e,nA]at oW
   have:=m.w.less oW
   omega
  rw[gh e2 e1]at oW
  exact hs.tr _ _ _ hl (JU (m.w.pr.dn p d oW).2.2.2.2 dZ e2)
theorem MM.done(m:MM hm lt ch par rows W x)(h1:∀d∈ch x,lt x d=true)(h2:par x≠ -1→lt (par x) x=true):mq hm lt ch par rows W:=by
 refine m.w.other fun z c hc h=>?_
 by_cases e1:z=x
 ·rw[e1]at hc ⊢;exact h1 c hc
 ·by_cases e2:c=x
  ·obtain⟨d1,d2,_⟩:=m.w.pr.dn z c hc
   rw[e2]at d1 ⊢
   rw[←d1]
   exact h2 (by rw[d1];exact d2)
  ·exact JU h e1 e2
end
end Go.Proofs.YtjlnnljohemifaaGreat

namespace Go.Proofs.YtjlnnljohemifaaGreat
section
variable {hm hm' : Int → Int} {lt lt' : Int → Int → Bool} {ch : Int → List Int} {par : Int → Int} {aw : Int → List Int} {W A : List Int} {nx pv : Int → Int} {x g T y : Int}
theorem Pr.root(q:Pr hm lt ch par)(hs:bC lt){n:Nat}(hn:∀x,0<hm x→0≤x∧x<n):∀ (k:Nat) {x:Int},MZ lt n x≤k→0<hm x→∃r,hm r=hm x∧par r= -1∧(r=x∨lt r x=true):=by
 intro k
 induction k with
 |zero=>
  intro x hk hx
  by_cases hp:par x= -1
  ·exact⟨x,rfl,hp,.inl rfl⟩
  ·obtain⟨_,_,h3,h4,h5⟩:=q.dn _ _ (q.up x _ rfl hp)
   have:=FX hs (n:=n) (hn _ (by omega)) h5
   omega
 |succ k ih=>
  intro x hk hx
  by_cases hp:par x= -1
  ·exact⟨x,rfl,hp,.inl rfl⟩
  ·obtain⟨_,_,h3,h4,h5⟩:=q.dn _ _ (q.up x _ rfl hp)
   have:=FX hs (n:=n) (hn _ (by omega)) h5
   obtain⟨r,r1,r2,r3⟩:=ih (x:=par x) (by omega) (by omega)
   refine⟨r,by omega,r2,.inr ?_⟩
   rcases r3 with r3|r3
   ·rw[r3];exact h5
   ·exact hs.tr _ _ _ r3 h5
theorem Pr.lead(q:Pr hm lt ch par)(hs:bC lt){n:Nat}(hn:∀x,0<hm x→0≤x∧x<n)(hg:0<g)(h:∀c,hm c=g→par c= -1→T≠ -1∧(c≠T→lt T c=true))(hy:hm y=g):T≠ -1∧(y≠T→lt T y=true):=by
 obtain⟨r,r1,r2,r3⟩:=q.root hs hn _ (ami _) (x:=y) (by omega)
 obtain⟨h1,h2⟩:=h r (by omega) r2
 refine⟨h1,fun aT=>?_⟩
 by_cases e:r=T
 ·rw[e]at r3
  exact r3.resolve_left (fun e2=>aT e2.symm)
 ·rcases r3 with r3|r3
  ·rw[←r3];exact h2 e
  ·exact hs.tr _ _ _ (h2 e) r3
theorem dU.ZP(m:dU hm lt nx ch par aw W)(hi:BE nx pv)(hr:aw g=x::A):dU hm lt (zW nx x (pv x)) ch par (aA aw g A) (x::W):=by
 have hc:=m.rc g
 rw[hr]at hc
 rcases List.eq_nil_or_concat A with h| ⟨B,y,h⟩
 ·subst h
  have h1:nx x=x:=hc
  have h2:pv x=x:=by
   have:=hi.pn x
   rwa[h1]at this
  rw[h2,Lf]
  exact m.ZM hr
 ·rw[List.concat_eq_append]at h
  subst h
  have h2:pv x=y:=xT.last (A:=B) hi hc
  rw[h2]
  have m2:=m.ZL (A:=B) (y:=y) hr
  have h3:=m2.yi (g:=g) (l:=B++[y]) (by
   unfold aA
   rw[if_pos rfl]
   exact am1 (l₁:=[y]) (l₂:=B)) (by
   have:=m2.rc g
   unfold aA at this
   rw[if_pos rfl]at this
   exact xT.ZI (l1:=[y]) (l2:=B) this)
  rwa[eI]at h3
theorem dU.from_(m:dU hm lt nx ch par aw W)(hx:x∈aw g):∃A,(aw g).Perm (x::A)∧dU hm lt nx ch par (aA aw g (x::A)) W:=by
 obtain⟨A,h1,h2⟩:=(m.rc g).from hx
 exact⟨A,h1,m.yi h1 h2⟩
end
end Go.Proofs.YtjlnnljohemifaaGreat

namespace Go.Proofs.YtjlnnljohemifaaGreat
section
variable {hm : Int → Int} {ch : Int → List Int} {a b now out : List Int} {c g p q x y : Int} {k ia ib io : Nat}
structure p7(hm:Int→Int)(ch:Int→List Int)(g:Int)(k ia ib io:Nat)(a b now out:List Int):Prop where
 ra:Gg ch a
 rb:Gg ch b
 ro:Gg ch out
 ka:∀c∈a,ia≤(ch c).length
 kb:∀c∈b,ib≤(ch c).length
 kn:∀c∈now,(ch c).length=k
 ko:∀c∈out,(ch c).length<io
 hg:∀c,c∈a∨c∈b∨c∈now∨c∈out→hm c=g
theorem p7.ZQ(h:p7 hm ch g k k ib io (c::a) b now out)(e:(ch c).length=k):p7 hm ch g k (k+1) ib io a b (now++[c]) out:=by
 have hr:=ank.1 h.ra
 refine⟨hr.2,h.rb,h.ro,fun d hd=>?_,h.kb,fun d hd=>?_,h.ko,fun d hd=>?_⟩
 ·have:=hr.1 d hd;omega
 ·rcases aml.1 hd with hd|hd
  ·exact h.kn d hd
  ·rw[amg.1 hd];exact e
 ·refine h.hg d ?_
  simp only[aml,amf,aoa,or_false]at hd ⊢
  rcases hd with h|h| (h|h)|h
  ·exact .inl (.inr h)
  ·exact .inr (.inl h)
  ·exact .inr (.inr (.inl h))
  ·exact .inl (.inl h)
  ·exact .inr (.inr (.inr h))
theorem p7.Lg(h:p7 hm ch g k ia k io a (c::b) now out)(e:(ch c).length=k):p7 hm ch g k ia (k+1) io a b (now++[c]) out:=by
 have hr:=ank.1 h.rb
 refine⟨h.ra,hr.2,h.ro,h.ka,fun d hd=>?_,fun d hd=>?_,h.ko,fun d hd=>?_⟩
 ·have:=hr.1 d hd;omega
 ·rcases aml.1 hd with hd|hd
  ·exact h.kn d hd
  ·rw[amg.1 hd];exact e
 ·refine h.hg d ?_
  simp only[aml,amf,aoa,or_false]at hd ⊢
  rcases hd with h|h| (h|h)|h
  ·exact .inl h
  ·exact .inr (.inl (.inr h))
  ·exact .inr (.inr (.inl h))
  ·exact .inr (.inl (.inl h))
  ·exact .inr (.inr (.inr h))
theorem p7.Vd(h:p7 hm ch g k k ib io a b now out)(e:∀c,a.head? =some c→(ch c).length≠k):p7 hm ch g k (k+1) ib io a b now out:=by
 refine⟨h.ra,h.rb,h.ro,fun d hd=>?_,h.kb,h.kn,h.ko,h.hg⟩
 cases a with
 |nil=>cases hd
 |cons c a=>
  have h1:=e c rfl
  have h2:=h.ka c (by simp)
  rcases amf.1 hd with rfl|hd
  ·omega
  ·have:=(ank.1 h.ra).1 d hd;omega
theorem p7.Ve(h:p7 hm ch g k ia k io a b now out)(e:∀c,b.head? =some c→(ch c).length≠k):p7 hm ch g k ia (k+1) io a b now out:=by
 refine⟨h.ra,h.rb,h.ro,h.ka,fun d hd=>?_,h.kn,h.ko,h.hg⟩
 cases b with
 |nil=>cases hd
 |cons c b=>
  have h1:=e c rfl
  have h2:=h.kb c (by simp)
  rcases amf.1 hd with rfl|hd
  ·omega
  ·have:=(ank.1 h.rb).1 d hd;omega
theorem p7.ad8(h:p7 hm ch g k ia ib k a b (c::now) out):p7 hm ch g k ia ib (k+1) a b now (out++[c]):=by
 have hc:=h.kn c (by simp)
 refine⟨h.ra,h.rb,?_,h.ka,h.kb,fun d hd=>h.kn d (by simp[hd]),fun d hd=>?_,fun d hd=>h.hg d ?_⟩
 ·unfold Gg
  rw[an9]
  refine⟨h.ro,by simp,fun u hu v hv=>?_⟩
  rw[amg.1 hv,hc]
  exact h.ko u hu
 ·rcases aml.1 hd with hd|hd
  ·have:=h.ko d hd;omega
  ·rw[amg.1 hd];omega
 ·simp only[aml,amf,aoa,or_false]at hd ⊢
  rcases hd with h|h|h|h|h
  ·exact .inl h
  ·exact .inr (.inl h)
  ·exact .inr (.inr (.inl (.inr h)))
  ·exact .inr (.inr (.inr h))
  ·exact .inr (.inr (.inl (.inl h)))
theorem p7.ZR(h:p7 hm ch g k (k+1) (k+1) io a b [] out)(hio:io≤k+1):p7 hm ch g (k+1) (k+1) (k+1) (k+1) a b [] out:=
 ⟨h.ra,h.rb,h.ro,h.ka,h.kb,by simp,fun c hc=>by have:=h.ko c hc;omega,h.hg⟩
theorem p7.ZS(h:p7 hm ch g k (k+1) (k+1) io a b [x,y] out)(hio:io≤k+1)(hp:p=x∨p=y)(hn:p∉a∧p∉b∧p∉out):p7 hm (aA ch p (ch p++[q])) g (k+1) (k+1) (k+1) (k+1) a b [p] out:=by
 have ne:∀c,c≠p→aA ch p (ch p++[q]) c=ch c:=fun c h=>by unfold aA;rw[if_neg h]
 have na:aA ch p (ch p++[q]) p=ch p++[q]:=by unfold aA;rw[if_pos rfl]
 have fa:∀c∈a,aA ch p (ch p++[q]) c=ch c:=fun c hc=>ne c fun e=>hn.1 (by rw[←e];exact hc)
 have fb:∀c∈b,aA ch p (ch p++[q]) c=ch c:=fun c hc=>ne c fun e=>hn.2.1 (by rw[←e];exact hc)
 have fo:∀c∈out,aA ch p (ch p++[q]) c=ch c:=fun c hc=>ne c fun e=>hn.2.2 (by rw[←e];exact hc)
 have uV:p∈[x,y]:=by rcases hp with h|h<;>simp[h]
 refine⟨h.ra.frame fun c hc=>by rw[fa c hc],h.rb.frame fun c hc=>by rw[fb c hc],h.ro.frame fun c hc=>by rw[fo c hc],fun c hc=>by rw[fa c hc];exact h.ka c hc,fun c hc=>by rw[fb c hc];exact h.kb c hc,fun c hc=>?_,fun c hc=>?_,fun c hc=>h.hg c ?_⟩
 ·rw[amg.1 hc,na,amh,h.kn p uV]
  rfl
 ·rw[fo c hc]
  have:=h.ko c hc
  omega
 ·rcases hc with h|h|h|h
  ·exact .inl h
  ·exact .inr (.inl h)
  ·rw[amg.1 h];exact .inr (.inr (.inl uV))
  ·exact .inr (.inr (.inr h))
end
end Go.Proofs.YtjlnnljohemifaaGreat
