/- Texts put behind each other. -/
import Derived.Test.YtjlnnljohemifaaGreatK98
import Derived.Test.YtjlnnljohemifaaGreatProg
set_option maxRecDepth 100000
set_option maxHeartbeats 8000000
set_option linter.unusedVariables false
set_option linter.unusedSimpArgs false
namespace Go.Proofs.YtjlnnljohemifaaGreat
structure bA(lt:Int→Int→Bool):Prop where
 vy:∀a,lt a a=false
 tr:∀a b c,lt a b=true→lt b c=true→lt a c=true
 nt:∀a b c,lt a b=false→lt b c=false→lt a c=false
 OD:∀a b,a≠b→lt a b=true∨lt b a=true
theorem bA.asym{lt:Int→Int→Bool}(h:bA lt){a b:Int}(BZ:lt a b=true):lt b a=false:=by
 cases hba:lt b a with
 |false=>rfl
 |true=>have:=h.tr a b a BZ hba;rw[h.vy]at this;cases this
end Go.Proofs.YtjlnnljohemifaaGreat

namespace Go.Proofs.YtjlnnljohemifaaGreat
theorem qP{α:Type}{p q:α→Bool}:∀ {l:List α},(∀i,p i=true→q i=true)→∀ {x:α},x∈l→p x=false→q x=true→l.countP p<l.countP q:=by
 intro l Oz x hx hp hq
 induction l with
 |nil=>cases hx
 |cons a l ih=>
  rw[apu,apu]
  have nT:l.countP p≤l.countP q:=List.countP_mono_left fun i _ h=>Oz i h
  rcases aot.1 hx with rfl|hx
  ·rw[hp,hq];simp;omega
  ·have:=ih hx
   have h2:=Oz a
   cases QR:p a
   ·cases q a<;>simp<;>omega
   ·rw[h2 QR];simp;omega
section
variable {hm : Int → Int} {lt : Int → Int → Bool} {K : Int → Bool → Int} {U : Int → Int}
def ez(K:Int→Bool→Int)(p:Int)(c:Bool)(v:Int):Int→Bool→Int:=fun y d=>if y=p∧d=c then v else K y d
def aH(U:Int→Int)(x v:Int):Int→Int:=fun y=>if y=x then v else U y
def mS(K:Int→Bool→Int)(p:Int):Int→Bool→Int:=fun y d=>if y=p then K y (!d)else K y d
def tV(K:Int→Bool→Int)(p x:Int)(c:Bool):=ez K p c x
def iO(K:Int→Bool→Int)(U:Int→Int)(x:Int):Int→Bool→Int:=if U x= -1 then K else ez K (U x) (K (U x) true==x) (-1)
def c9(U:Int→Int)(x:Int):Int→Int:=aH U x (-1)
structure Bt(hm:Int→Int)(lt:Int→Int→Bool)(K:Int→Bool→Int)(U:Int→Int):Prop where
 h0:hm (-1)=0
 ku:∀p c x,K p c=x→x≠ -1→U x=p∧p≠ -1
 uk:∀x p,U x=p→p≠ -1→(∃c,K p c=x)∧x≠ -1∧hm p=hm x∧0<hm x∧lt p x=true
 two:∀p,K p false=K p true→K p false= -1
theorem Bt.home(h:Bt hm lt K U){p:Int}{c:Bool}(hk:K p c≠ -1):U (K p c)=p∧p≠ -1∧hm (K p c)=hm p∧0<hm p∧lt p (K p c)=true:=by
 obtain⟨h1,h2⟩:=h.ku p c _ rfl hk
 obtain⟨_,_,h3,h4,h5⟩:=h.uk _ p h1 h2
 exact⟨h1,h2,h3.symm,by omega,h5⟩
theorem Bt.kids(h:Bt hm lt K U){p x:Int}(hx:x≠ -1){c d:Bool}(h1:K p c=x)(h2:K p d=x):c=d:=by
 cases c<;>cases d
 ·rfl
 ·exact absurd (h.two p (by rw[h1,h2])) (by rw[h1];exact hx)
 ·exact absurd (h.two p (by rw[h1,h2])) (by rw[h2];exact hx)
 ·rfl
theorem Bt.side(h:Bt hm lt K U){x p:Int}(hu:U x=p)(hp:p≠ -1):K p (K p true==x)=x:=by
 obtain⟨⟨c,hc⟩,hx,_⟩:=h.uk x p hu hp
 cases c
 ·by_cases ht:K p true=x
  ·have:=h.kids hx hc ht
   cases this
  ·rw[beq_eq_false_iff_ne.2 ht];exact hc
 ·rw[hc,beq_self_eq_true];exact hc
theorem iR(h:Bt hm lt K U)(x:Int)(hx:x≠ -1)(p:Int)(c:Bool):iO K U x p c=if K p c=x then -1 else K p c:=by
 unfold iO
 by_cases hu:U x= -1
 ·rw[if_pos hu,if_neg]
  intro hk
  have:=h.ku p c x hk hx
  omega
 ·rw[if_neg hu]
  unfold ez
  by_cases hk:K p c=x
  ·obtain⟨h1,h2⟩:=h.ku p c x hk hx
   have e:p=U x∧c=(K (U x) true==x):=⟨h1.symm,by rw[h1];exact h.kids hx hk (h.side h1 h2)⟩
   rw[if_pos hk,if_pos e]
  ·rw[if_neg hk,if_neg]
   rintro⟨rfl,rfl⟩
   exact hk (h.side rfl hu)
theorem Bt.cut(h:Bt hm lt K U)(x:Int)(hx:x≠ -1):Bt hm lt (iO K U x) (c9 U x):=by
 refine⟨h.h0,fun p c y hk hy=>?_,fun y p hu hp=>?_,fun p he=>?_⟩
 ·rw[iR h x hx]at hk
  split at hk
  ·exact absurd hk.symm hy
  ·rename_i aP
   obtain⟨h1,h2⟩:=h.ku p c y hk hy
   refine⟨?_,h2⟩
   unfold c9 aH
   rw[if_neg (fun e=>aP (by rw[hk,e]))]
   exact h1
 ·unfold c9 aH at hu
  split at hu
  ·exact absurd hu.symm hp
  ·rename_i aP
   obtain⟨⟨c,hc⟩,h2⟩:=h.uk y p hu hp
   exact⟨⟨c,by rw[iR h x hx,if_neg (by rw[hc];exact aP)];exact hc⟩,h2⟩
 ·rw[iR h x hx,iR h x hx]at he
  rw[iR h x hx]
  split at he
  ·rename_i h1
   rw[if_pos h1]
  ·rename_i h1
   split at he
   ·rw[if_neg h1];exact he
   ·rw[if_neg h1];exact h.two p he
theorem Bt.I9(h:Bt hm lt K U){p x:Int}{c:Bool}(hp:p≠ -1)(hx:x≠ -1)(hk:K p c= -1)(hu:U x= -1)(hh:hm p=hm x)(h0:0<hm x)(hl:lt p x=true):Bt hm lt (tV K p x c) (aH U x p):=by
 refine⟨h.h0,fun q d y hq hy=>?_,fun y q hq QS=>?_,fun q he=>?_⟩
 ·unfold tV ez at hq
  unfold aH
  split at hq
  ·rename_i h1
   rw[if_pos hq.symm]
   exact⟨h1.1.symm,by rw[h1.1];exact hp⟩
  ·obtain⟨h1,h2⟩:=h.ku q d y hq hy
   rw[if_neg (fun e=>h2 (by rw[←h1,e,hu]))]
   exact⟨h1,h2⟩
 ·unfold aH at hq
  split at hq
  ·rename_i h1
   subst h1;subst hq
   exact⟨⟨c,by unfold tV ez;rw[if_pos ⟨rfl,rfl⟩]⟩,hx,hh,h0,hl⟩
  ·obtain⟨⟨d,hd⟩,h2,h3⟩:=h.uk y q hq QS
   refine⟨⟨d,?_⟩,h2,h3⟩
   unfold tV ez
   rw[if_neg]
   ·exact hd
   ·rintro⟨rfl,rfl⟩
    rw[hk]at hd
    exact h2 hd.symm
 ·unfold tV ez at he ⊢
  have bO:∀d,K q d≠x:=fun d hd=>by
   obtain⟨h1,h2⟩:=h.ku q d x hd hx
   exact h2 (by rw[←h1,hu])
  by_cases h1:q=p∧false=c
  ·rw[if_pos h1,if_neg (fun h2=>by have:=h1.2.trans h2.2.symm;cases this)]at he
   exact absurd he.symm (bO true)
  ·rw[if_neg h1]at he ⊢
   split at he
   ·exact absurd he (bO false)
   ·exact h.two q he
theorem Bt.sY(h:Bt hm lt K U)(p:Int):Bt hm lt (mS K p) U:=by
 refine⟨h.h0,fun q d y hq hy=>?_,fun y q hq QS=>?_,fun q he=>?_⟩
 ·unfold mS at hq
  split at hq
  ·exact h.ku q _ y hq hy
  ·exact h.ku q _ y hq hy
 ·obtain⟨⟨d,hd⟩,h2⟩:=h.uk y q hq QS
  refine⟨?_,h2⟩
  by_cases e:q=p
  ·exact⟨!d,by unfold mS;rw[if_pos e,Bool.not_not];exact hd⟩
  ·exact⟨d,by unfold mS;rw[if_neg e];exact hd⟩
 ·unfold mS at he ⊢
  split at he
  ·rename_i e
   rw[if_pos e]
   have:=h.two q he.symm
   simp only[apX,aqa]at he ⊢
   rw[he];exact this
  ·rename_i e
   rw[if_neg e]
   exact h.two q he
structure Mg(hm:Int→Int)(lt:Int→Int→Bool)(h:Int)(R:Int→Prop)(K:Int→Bool→Int)(U:Int→Int)(dK:List Int)(a b:Int):Prop where
 bt:Bt hm lt K U
 wa:a= -1∨(hm a=h∧U a= -1)
 wb:b= -1∨(hm b=h∧U b= -1)
 ab:a=b→a= -1
 wy:∀v∈dK,v≠ -1∧hm v=h∧U v= -1∧K v true= -1∧(a≠ -1→lt v a=true)∧(b≠ -1→lt v b=true)
 YX:dK.Pairwise fun x y=>lt x y=true
 jy:∀x,0<hm x→(U x= -1↔x∈dK∨x=a∨x=b∨R x)
 pos:0<h
 nr:∀x,R x→0<hm x∧x∉dK∧x≠a∧x≠b
theorem Mg.start{h a b:Int}(bt:Bt hm lt K U)(h0:0<h)(wa:a= -1∨(hm a=h∧U a= -1))(wb:b= -1∨(hm b=h∧U b= -1))(ab:a=b→a= -1):Mg hm lt h (fun x=>0<hm x∧U x= -1∧x≠a∧x≠b) K U [] a b:=
 ⟨bt,wa,wb,ab,by simp,by simp,fun x hx=>by
  have hb:=bt.h0
  constructor
  ·intro hu
   by_cases h1:x=a
   ·exact .inr (.inl h1)
   ·by_cases h2:x=b
    ·exact .inr (.inr (.inl h2))
    ·exact .inr (.inr (.inr ⟨hx,hu,h1,h2⟩))
  ·rintro(h1|h1|h1|h1)
   ·simp at h1
   ·subst h1
    rcases wa with h2|h2
    ·rw[h2,hb]at hx;omega
    ·exact h2.2
   ·subst h1
    rcases wb with h2|h2
    ·rw[h2,hb]at hx;omega
    ·exact h2.2
   ·exact h1.2.1,h0,fun x hx=>⟨hx.1,by simp,hx.2.2⟩⟩
variable {h : Int} {R : Int → Prop} {dK : List Int} {a b : Int}
theorem Mg.swap(m:Mg hm lt h R K U dK a b):Mg hm lt h R K U dK b a:=
 ⟨m.bt,m.wb,m.wa,fun e=>by rw[e];exact m.ab e.symm,fun v hv=>by obtain⟨h1,h2,h3,h4,h5,h6⟩:=m.wy v hv;exact⟨h1,h2,h3,h4,h6,h5⟩,m.YX,fun x hx=>by rw[m.jy x hx];constructor<;>rintro(h1|h1|h1|h1)<;>simp[h1],m.pos,fun x hx=>by obtain⟨h1,h2,h3,h4⟩:=m.nr x hx;exact⟨h1,h2,h4,h3⟩⟩
theorem oI{α:Type}{r:α→α→Prop}{l:List α}{x:α}:(l++[x]).Pairwise r↔l.Pairwise r∧∀y∈l,r y x:=by
 rw[apo]
 simp
theorem Mg.down(hs:bA lt)(m:Mg hm lt h R K U dK a b)(ha:a≠ -1)(hb:b≠ -1)(hl:lt a b=true):
  Mg hm lt h R (if K a true= -1 then K else iO K U (K a true)) (if K a true= -1 then U else c9 U (K a true)) (dK++[a]) (K a true) b:=by
 obtain⟨a1,a2⟩:=m.wa.resolve_left ha
 obtain⟨b1,b2⟩:=m.wb.resolve_left hb
 by_cases hk:K a true= -1
 ·rw[if_pos hk,if_pos hk,hk]
  refine⟨m.bt,.inl rfl,m.wb,fun e=>rfl,fun v hv=>?_,oI.2 ⟨m.YX,fun v hv=>(m.wy v hv).2.2.2.2.1 ha⟩,fun x hx=>?_,m.pos,fun x hx=>?_⟩
  ·rcases aou.1 hv with hv|hv
   ·obtain⟨h1,h2,h3,h4,h5,h6⟩:=m.wy v hv
    exact⟨h1,h2,h3,h4,fun h=>absurd rfl h,h6⟩
   ·rw[aoq]at hv
    subst hv
    exact⟨ha,a1,a2,hk,fun h=>absurd rfl h,fun _=>hl⟩
  ·rw[m.jy x hx,aou,aoq]
   constructor
   ·rintro(h1|h1|h1|h1)
    ·exact .inl (.inl h1)
    ·exact .inl (.inr h1)
    ·exact .inr (.inr (.inl h1))
    ·exact .inr (.inr (.inr h1))
   ·rintro((h1|h1)|h1|h1|h1)
    ·exact .inl h1
    ·exact .inr (.inl h1)
    ·rw[h1,m.bt.h0]at hx;omega
    ·exact .inr (.inr (.inl h1))
    ·exact .inr (.inr (.inr h1))
  ·obtain⟨h1,h2,h3,h4⟩:=m.nr x hx
   refine⟨h1,?_,fun e=>by rw[e,m.bt.h0]at h1;omega,h4⟩
   rw[aou,aoq]
   exact fun h=>h.elim h2 h3
 ·rw[if_neg hk,if_neg hk]
  obtain⟨k1,k2,k3,k4,k5⟩:=m.bt.home hk
  have kb:K a true≠b:=fun e=>by rw[e,b2]at k1;omega
  have kv:∀v∈dK,v≠K a true:=fun v hv e=>by
   have:=(m.wy v hv).2.2.1
   rw[e,k1]at this
   exact ha this
  have ka:a≠K a true:=fun e=>by
   rw[←e,hs.vy]at k5
   cases k5
  refine⟨m.bt.cut _ hk,.inr ⟨by rw[k3,a1],by unfold c9 aH;rw[if_pos rfl]⟩,.inr ⟨b1,?_⟩,fun e=>absurd e kb,fun v hv=>?_,oI.2 ⟨m.YX,fun v hv=>(m.wy v hv).2.2.2.2.1 ha⟩,fun x hx=>?_,m.pos,fun x hx=>?_⟩
  ·unfold c9 aH
   split
   ·rfl
   ·exact b2
  ·rcases aou.1 hv with hv|hv
   ·obtain⟨h1,h2,h3,h4,h5,h6⟩:=m.wy v hv
    refine⟨h1,h2,?_,?_,fun _=>hs.tr _ _ _ (h5 ha) k5,h6⟩
    ·unfold c9 aH
     rw[if_neg (kv v hv)]
     exact h3
    ·rw[iR m.bt _ hk]
     split
     ·rfl
     ·exact h4
   ·rw[aoq]at hv
    subst hv
    refine⟨ha,a1,?_,?_,fun _=>k5,fun _=>hl⟩
    ·unfold c9 aH
     rw[if_neg ka]
     exact a2
    ·rw[iR m.bt _ hk,if_pos rfl]
  ·rw[aou,aoq]
   unfold c9 aH
   by_cases e:x=K a true
   ·rw[if_pos e]
    exact⟨fun _=>.inr (.inl e),fun _=>rfl⟩
   ·rw[if_neg e,m.jy x hx]
    constructor
    ·rintro(h1|h1|h1|h1)
     ·exact .inl (.inl h1)
     ·exact .inl (.inr h1)
     ·exact .inr (.inr (.inl h1))
     ·exact .inr (.inr (.inr h1))
    ·rintro((h1|h1)|h1|h1|h1)
     ·exact .inl h1
     ·exact .inr (.inl h1)
     ·exact absurd h1 e
     ·exact .inr (.inr (.inl h1))
     ·exact .inr (.inr (.inr h1))
  ·obtain⟨h1,h2,h3,h4⟩:=m.nr x hx
   refine⟨h1,?_,fun e=>?_,h4⟩
   ·rw[aou,aoq]
    exact fun h=>h.elim h2 h3
   ·have:=(m.jy x h1).2 (.inr (.inr (.inr hx)))
    rw[e,k1]at this
    exact ha this
theorem Mg.back{v r:Int}(m:Mg hm lt h R K U (dK++[v]) r (-1))(hs:bA lt):
  Mg hm lt h R (if r= -1 then K else tV K v r true) (if r= -1 then U else aH U r v) dK v (-1):=by
 obtain⟨v1,v2,v3,v4,v5,v6⟩:=m.wy v (by simp)
 obtain⟨s1,s2⟩:=oI.1 m.YX
 have nv:∀u∈dK,u≠v:=fun u hu e=>by
  have:=s2 u hu
  rw[e,hs.vy]at this
  cases this
 have nrv:∀x,R x→0<hm x∧x∉dK∧x≠v∧x≠ -1:=fun x hx=>by
  obtain⟨h1,h2,h3,h4⟩:=m.nr x hx
  rw[aou,aoq,not_or]at h2
  exact⟨h1,h2.1,h2.2,h4⟩
 by_cases hr:r= -1
 ·rw[if_pos hr,if_pos hr]
  refine⟨m.bt,.inr ⟨v2,v3⟩,.inl rfl,fun e=>e,fun u hu=>?_,s1,fun x hx=>?_,m.pos,fun x hx=>nrv x hx⟩
  ·obtain⟨h1,h2,h3,h4,h5,h6⟩:=m.wy u (by simp[hu])
   exact⟨h1,h2,h3,h4,fun _=>s2 u hu,fun h=>absurd rfl h⟩
  ·rw[m.jy x hx,aou,aoq]
   constructor
   ·rintro((h1|h1)|h1|h1|h1)
    ·exact .inl h1
    ·exact .inr (.inl h1)
    ·rw[h1,hr,m.bt.h0]at hx;omega
    ·exact .inr (.inr (.inl h1))
    ·exact .inr (.inr (.inr h1))
   ·rintro(h1|h1|h1|h1)
    ·exact .inl (.inl h1)
    ·exact .inl (.inr h1)
    ·exact .inr (.inr (.inl h1))
    ·exact .inr (.inr (.inr h1))
 ·rw[if_neg hr,if_neg hr]
  obtain⟨r1,r2⟩:=m.wa.resolve_left hr
  have ru:∀u∈dK++[v],u≠r:=fun u hu e=>by
   have:=(m.wy u hu).2.2.2.2.1 hr
   rw[e,hs.vy]at this
   cases this
  have rv:=ru v (by simp)
  refine⟨m.bt.I9 v1 hr v4 r2 (by rw[v2,r1]) (by rw[r1];exact m.pos) (v5 hr),.inr ⟨v2,?_⟩,.inl rfl,fun e=>e,fun u hu=>?_,s1,fun x hx=>?_,m.pos,fun x hx=>nrv x hx⟩
  ·unfold aH
   rw[if_neg rv]
   exact v3
  ·obtain⟨h1,h2,h3,h4,h5,h6⟩:=m.wy u (by simp[hu])
   refine⟨h1,h2,?_,?_,fun _=>s2 u hu,fun h=>absurd rfl h⟩
   ·unfold aH
    rw[if_neg (ru u (by simp[hu]))]
    exact h3
   ·unfold tV ez
    rw[if_neg (fun e=>nv u hu e.1)]
    exact h4
  ·unfold aH
   by_cases e:x=r
   ·rw[if_pos e]
    constructor
    ·intro e1
     exact absurd e1 v1
    ·rintro(h1|h1|h1|h1)
     ·exact absurd e (ru x (by simp[h1]))
     ·exact absurd (h1.symm.trans e) rv
     ·rw[h1,m.bt.h0]at hx;omega
     ·exact absurd e (m.nr x h1).2.2.1
   ·rw[if_neg e,m.jy x hx,aou,aoq]
    constructor
    ·rintro((h1|h1)|h1|h1|h1)
     ·exact .inl h1
     ·exact .inr (.inl h1)
     ·exact absurd h1 e
     ·exact .inr (.inr (.inl h1))
     ·exact .inr (.inr (.inr h1))
    ·rintro(h1|h1|h1|h1)
     ·exact .inl (.inl h1)
     ·exact .inl (.inr h1)
     ·exact .inr (.inr (.inl h1))
     ·exact .inr (.inr (.inr h1))
theorem Mg.sY{r:Int}(m:Mg hm lt h R K U dK r (-1))(hs:bA lt):Mg hm lt h R (mS K r) U dK r (-1):=by
 by_cases hr:r= -1
 ·have e:mS K r=K:=by
   funext y d
   unfold mS
   split
   ·rename_i e
    subst e;subst hr
    have h1:∀c,K (-1) c= -1:=fun c=>by
     by_cases hc:K (-1) c= -1
     ·exact hc
     ·exact absurd rfl (m.bt.home hc).2.1
    rw[h1,h1]
   ·rfl
  rw[e];exact m
 refine⟨m.bt.sY r,m.wa,m.wb,m.ab,fun v hv=>?_,m.YX,m.jy,m.pos,m.nr⟩
 obtain⟨h1,h2,h3,h4,h5,h6⟩:=m.wy v hv
 refine⟨h1,h2,h3,?_,h5,h6⟩
 unfold mS
 rw[if_neg]
 ·exact h4
 ·intro e
  have:=h5 hr
  rw[e,hs.vy]at this
  cases this
structure Ac(hm:Int→Int)(lt:Int→Int→Bool)(K:Int→Bool→Int)(U:Int→Int)(T:Int→Int):Prop where
 bt:Bt hm lt K U
 t1:∀h,T h≠ -1→hm (T h)=h∧0<h∧U (T h)= -1
 t2:∀x,0<hm x→U x= -1→T (hm x)=x
def iS(T:Int→Int)(h x:Int):Int→Int:=fun y=>if y=h then x else T y
theorem Mg.done{T:Int→Int}{r:Int}(m:Mg hm lt h R K U [] r (-1))(ht:∀g,g≠h→T g≠ -1→hm (T g)=g∧0<g∧R (T g))(hR:∀x,R x→hm x≠h∧T (hm x)=x):Ac hm lt K U (iS T h r):=by
 refine⟨m.bt,fun g hg=>?_,fun x hx hu=>?_⟩
 ·unfold iS at hg ⊢
  split
  ·rename_i e
   rw[if_pos e]at hg
   obtain⟨h1,h2⟩:=m.wa.resolve_left hg
   exact⟨by rw[h1,e],by rw[e];exact m.pos,h2⟩
  ·rename_i e
   rw[if_neg e]at hg
   obtain⟨h1,h2,h3⟩:=ht g e hg
   exact⟨h1,h2,(m.jy _ (by rw[h1];exact h2)).2 (.inr (.inr (.inr h3)))⟩
 ·unfold iS
  rcases(m.jy x hx).1 hu with h1|h1|h1|h1
  ·simp at h1
  ·subst h1
   have hr:x≠ -1:=fun e=>by rw[e,m.bt.h0]at hx;omega
   rw[if_pos (m.wa.resolve_left hr).1]
  ·rw[h1,m.bt.h0]at hx;omega
  ·obtain⟨h2,h3⟩:=hR x h1
   rw[if_neg h2];exact h3
theorem Ac.first{T:Int→Int}(t:Ac hm lt K U T){x:Int}(h0:0<hm x)(hf:∀y,hm y=hm x→y≠x→lt x y=true)(hs:bA lt):T (hm x)=x:=by
 refine t.t2 x h0 ?_
 apply aoI
 intro hu
 obtain⟨_,h1,h2,h3,h4⟩:=t.bt.uk x _ rfl hu
 by_cases e:U x=x
 ·rw[e,hs.vy]at h4;cases h4
 ·have:=hs.asym (hf _ h2 e)
  rw[h4]at this;cases this
theorem Ac.least{T:Int→Int}(t:Ac hm lt K U T)(hs:bA lt){n:Nat}(hn:∀y,0<hm y→0≤y∧y<n){h:Int}(ht:T h≠ -1){y:Int}(hy:hm y=h)(aP:y≠T h):lt (T h) y=true:=by
 obtain⟨h1,h2,h3⟩:=t.t1 h ht
 have key:∀k:Nat,∀y:Int,hm y=h→y≠T h→((List.range n).filter fun(i:Nat)=>lt i y).length≤k→lt (T h) y=true:=by
  intro k
  induction k with
  |zero=>
   intro y hy aP hk
   by_cases hu:U y= -1
   ·have:=t.t2 y (by omega) hu
    rw[hy]at this
    exact absurd this.symm aP
   ·obtain⟨_,_,h5,h6,h7⟩:=t.bt.uk y _ rfl hu
    have h8:=hn (U y) (by omega)
    have:(U y).toNat∈(List.range n).filter fun(i:Nat)=>lt i y:=ao9.2 ⟨apj.2 (by omega),by rw[show(((U y).toNat:Nat):Int)=U y by omega];exact h7⟩
    rw[aoR.1 (Nat.le_zero.1 hk)]at this
    cases this
  |succ k ih=>
   intro y hy aP hk
   by_cases hu:U y= -1
   ·have:=t.t2 y (by omega) hu
    rw[hy]at this
    exact absurd this.symm aP
   ·obtain⟨_,_,h5,h6,h7⟩:=t.bt.uk y _ rfl hu
    by_cases e:U y=T h
    ·rw[←e];exact h7
    ·have h8:=hn (U y) (by omega)
     refine hs.tr _ _ _ (ih (U y) (by omega) e ?_) h7
     have h9:((List.range n).filter fun(i:Nat)=>lt i (U y)).length< ((List.range n).filter fun(i:Nat)=>lt i y).length:=by
      rw[←List.countP_eq_length_filter,←List.countP_eq_length_filter]
      have:∀l:List Nat,(∀i∈l,lt i (U y)=true→lt i y=true):=fun l i _ h=>hs.tr _ _ _ h h7
      refine qP (fun i hi=>hs.tr _ _ _ hi h7) (x:=(U y).toNat) (apj.2 (by omega)) ?_ ?_
      ·rw[show(((U y).toNat:Nat):Int)=U y by omega];exact hs.vy _
      ·rw[show(((U y).toNat:Nat):Int)=U y by omega];exact h7
     omega
 exact key _ y hy aP (aov _)
theorem Bt.up0(h:Bt hm lt K U):U (-1)= -1:=aoI fun hn=>(h.uk (-1) _ rfl hn).2.1 rfl
theorem Ad(h:Bt hm lt K U):iO K U (-1)=K∧c9 U (-1)=U:=by
 have h0:=h.up0
 refine⟨by unfold iO;rw[if_pos h0],?_⟩
 funext z
 unfold c9 aH
 split
 ·rename_i e;rw[e,h0]
 ·rfl
theorem Mg.Ra{h:Int}{R:Int→Prop}{dK:List Int}{a b:Int}(hs:bA lt)(m:Mg hm lt h R K U dK a b)(ha:a≠ -1)(hb:b≠ -1)(hl:lt a b=true):
  Mg hm lt h R (iO K U (K a true)) (c9 U (K a true)) (dK++[a]) (K a true) b:=by
 have:=m.down hs ha hb hl
 by_cases hk:K a true= -1
 ·rw[if_pos hk,if_pos hk]at this
  obtain⟨h1,h2⟩:=Ad m.bt
  rw[hk]at this ⊢
  rw[h1,h2]
  exact this
 ·rwa[if_neg hk,if_neg hk]at this
theorem Ix:∀ (n:Nat) (l:List Nat),l.Nodup→(∀x∈l,x<n)→l.length≤n:=by
 intro n
 induction n with
 |zero=>
  intro l _ hb
  cases l with
  |nil=>exact aov _
  |cons a l=>exact absurd (hb a (by simp)) (by omega)
 |succ n ih=>
  intro l hn hb
  have h1:=ih (l.erase n) (hn.erase n) fun x hx=>by
   obtain⟨h2,h3⟩:=(List.Nodup.mem_erase_iff hn).1 hx
   have:=hb x h3
   omega
  rw[List.length_erase]at h1
  split at h1<;>omega
theorem bZ{l:List Int}{n:Nat}(hn:l.Nodup)(hb:∀x∈l,0≤x∧x<n):l.length≤n:=by
 have h1:(l.map Int.toNat).Nodup:=by
  rw[List.nodup_iff_pairwise_ne]at*
  rw[List.pairwise_map]
  refine List.Pairwise.imp_of_mem (fun{a b} ha jY aP e=>aP ?_) hn
  have:=hb a ha
  have:=hb b jY
  omega
 have h2:=Ix n _ h1 fun x hx=>by
  obtain⟨y,hy,rfl⟩:=aoC.1 hx
  have:=hb y hy
  omega
 rwa[aoF]at h2
theorem Mg.nodup{h:Int}{R:Int→Prop}{dK:List Int}{a b:Int}(hs:bA lt)(m:Mg hm lt h R K U dK a b):dK.Nodup:=by
 rw[List.nodup_iff_pairwise_ne]
 exact m.YX.imp fun{x y} hl e=>by rw[e,hs.vy]at hl;cases hl
def MP(lt:Int→Int→Bool)(n:Nat)(x:Int):Nat:=(List.range n).countP fun(i:Nat)=>lt i x
theorem EL(hs:bA lt){n:Nat}{p x:Int}(hp:0≤p∧p<n)(hl:lt p x=true):MP lt n p<MP lt n x:=by
 unfold MP
 refine qP (fun i hi=>hs.tr _ _ _ hi hl) (x:=p.toNat) (apj.2 (by omega)) ?_ ?_
 ·rw[show((p.toNat:Nat):Int)=p by omega];exact hs.vy _
 ·rw[show((p.toNat:Nat):Int)=p by omega];exact hl
end
end Go.Proofs.YtjlnnljohemifaaGreat

namespace Go.Proofs.YtjlnnljohemifaaGreat
section
variable {hm hm' : Int → Int} {lt lt' : Int → Int → Bool} {K K0 : Int → Bool → Int} {U U0 : Int → Int}
theorem Bt.other(b:Bt hm lt K U)(h0:hm' (-1)=0)(h:∀x p,U x=p→p≠ -1→hm p=hm x→0<hm x→lt p x=true→hm' p=hm' x∧0<hm' x∧lt' p x=true):Bt hm' lt' K U:=
 ⟨h0,b.ku,fun x p hu hp=>by
  obtain⟨h1,h2,h3,h4,h5⟩:=b.uk x p hu hp
  obtain⟨h6,h7,h8⟩:=h x p hu hp h3 h4 h5
  exact⟨h1,h2,h6,h7,h8⟩,b.two⟩
theorem Bt.alone(b:Bt hm lt K U){x:Int}(hx:hm x≤0)(jZ:x≠ -1):U x= -1∧∀y,U y≠x:=by
 constructor
 ·apply aoI
  intro h
  have:=(b.uk x _ rfl h).2.2.2.1
  omega
 ·intro y hy
  have:=b.uk y x hy jZ
  omega
theorem Bt.TF(h:Bt hm lt K U)(x:Int):Bt hm lt (iO K U x) (c9 U x):=by
 by_cases hx:x= -1
 ·subst hx
  obtain⟨h1,h2⟩:=Ad h
  rw[h1,h2];exact h
 ·exact h.cut x hx
theorem mO(h:Bt hm lt K U)(x p:Int)(c:Bool):iO K U x p c=if x≠ -1∧K p c=x then -1 else K p c:=by
 by_cases hx:x= -1
 ·subst hx
  rw[(Ad h).1,if_neg (by simp)]
 ·rw[iR h x hx]
  by_cases hk:K p c=x
  ·rw[if_pos hk,if_pos ⟨hx,hk⟩]
  ·rw[if_neg hk,if_neg (fun h=>hk h.2)]
theorem Bt.bare(h:Bt hm lt K U)(x:Int):
  Bt hm lt (iO (iO K U (K x false)) (c9 U (K x false)) (K x true)) (c9 (c9 U (K x false)) (K x true))∧
  (∀c,iO (iO K U (K x false)) (c9 U (K x false)) (K x true) x c= -1)∧
  (∀p c,p≠x→iO (iO K U (K x false)) (c9 U (K x false)) (K x true) p c=K p c)∧
  (∀y,c9 (c9 U (K x false)) (K x true) y=if y=K x false∨y=K x true then -1 else U y):=by
 have b1:=h.TF (K x false)
 refine⟨b1.TF _,fun c=>?_,fun p c hp=>?_,fun y=>?_⟩
 ·rw[mO b1,mO h]
  cases c
  ·by_cases h1:K x false= -1
   ·rw[h1];simp
   ·rw[if_pos (show K x false≠ -1∧K x false=K x false from⟨h1,rfl⟩)]
    split<;>rfl
  ·by_cases h1:K x true= -1
   ·rw[h1];simp
   ·have h2:K x true≠K x false:=fun e=>h1 (by rw[e];exact h.two x e.symm)
    have e1:(if K x false≠ -1∧K x true=K x false then -1 else K x true)=K x true:=if_neg fun e=>h2 e.2
    rw[e1,if_pos ⟨h1,rfl⟩]
 ·have key:∀d,K x d≠ -1→K p c≠K x d:=fun d hd e=>by
   have h1:=(h.home (p:=x) (c:=d) hd).1
   have h2:=(h.home (p:=p) (c:=c) (by rw[e];exact hd)).1
   rw[e,h1]at h2
   exact hp h2.symm
  have e1:iO K U (K x false) p c=K p c:=by rw[mO h,if_neg (fun e=>key false e.1 e.2)]
  rw[mO b1,e1,if_neg (fun e=>key true e.1 e.2)]
 ·unfold c9 aH
  by_cases h1:y=K x true
  ·rw[if_pos h1,if_pos (.inr h1)]
  ·rw[if_neg h1]
   by_cases h2:y=K x false
   ·rw[if_pos h2,if_pos (.inl h2)]
   ·rw[if_neg h2,if_neg (by simp[h1,h2])]
structure vV(lt:Int→Int→Bool)(K0:Int→Bool→Int)(U0:Int→Int)(x0:Int)(K:Int→Bool→Int)(U:Int→Int)(dK:List Int)(a b:Int):Prop where
 wv:∀v∈dK,lt x0 v=true
 wa:a≠ -1→lt x0 a=true
 wb:b≠ -1→lt x0 b=true
 fr:∀y,lt x0 y=false→K y=K0 y∧U y=U0 y
variable {x0 a b : Int} {dK : List Int}
theorem vV.start(ha:a≠ -1→lt x0 a=true)(hb:b≠ -1→lt x0 b=true):vV lt K0 U0 x0 K0 U0 [] a b:=⟨by simp,ha,hb,fun _ _=>⟨rfl,rfl⟩⟩
theorem vV.swap(m:vV lt K0 U0 x0 K U dK a b):vV lt K0 U0 x0 K U dK b a:=⟨m.wv,m.wb,m.wa,m.fr⟩
theorem vV.down(hs:bA lt)(bt:Bt hm lt K U)(m:vV lt K0 U0 x0 K U dK a b)(ha:a≠ -1):vV lt K0 U0 x0 (iO K U (K a true)) (c9 U (K a true)) (dK++[a]) (K a true) b:=by
 have h1:=m.wa ha
 refine⟨fun v hv=>?_,fun hk=>hs.tr _ _ _ h1 (bt.home hk).2.2.2.2,m.wb,fun y hy=>?_⟩
 ·rcases aou.1 hv with hv|hv
  ·exact m.wv v hv
  ·rw[aoq]at hv;rw[hv];exact h1
 ·obtain⟨f1,f2⟩:=m.fr y hy
  rw[←f1,←f2]
  constructor
  ·funext c
   rw[mO bt,if_neg]
   rintro⟨e1,e2⟩
   have:=(bt.home (p:=a) (c:=true) e1).1
   have h3:=(bt.home (p:=y) (c:=c) (by rw[e2];exact e1)).1
   rw[e2,this]at h3
   rw[←h3,h1]at hy
   cases hy
  ·unfold c9 aH
   split
   ·rename_i e
    by_cases e1:K a true= -1
    ·rw[e,e1,bt.up0]
    ·have:=hs.tr _ _ _ h1 (bt.home e1).2.2.2.2
     rw[←e,hy]at this
     cases this
   ·rfl
theorem vV.back(m:vV lt K0 U0 x0 K U (dK++[b]) a (-1)):vV lt K0 U0 x0 (if a= -1 then K else tV K b a true) (if a= -1 then U else aH U a b) dK b (-1):=by
 have h1:=m.wv b (by simp)
 refine⟨fun v hv=>m.wv v (by simp[hv]),fun _=>h1,fun h=>absurd rfl h,fun y hy=>?_⟩
 obtain⟨f1,f2⟩:=m.fr y hy
 by_cases ha:a= -1
 ·rw[if_pos ha,if_pos ha];exact⟨f1,f2⟩
 ·rw[if_neg ha,if_neg ha]
  have h2:=m.wa ha
  constructor
  ·rw[←f1]
   funext c
   unfold tV ez
   rw[if_neg]
   rintro⟨rfl,_⟩
   rw[hy]at h1;cases h1
  ·rw[←f2]
   unfold aH
   rw[if_neg]
   rintro rfl
   rw[hy]at h2;cases h2
theorem vV.sY(m:vV lt K0 U0 x0 K U dK a (-1))(ha:a≠ -1):vV lt K0 U0 x0 (mS K a) U dK a (-1):=by
 refine⟨m.wv,m.wa,m.wb,fun y hy=>?_⟩
 obtain⟨f1,f2⟩:=m.fr y hy
 refine⟨?_,f2⟩
 rw[←f1]
 funext c
 unfold mS
 rw[if_neg]
 rintro rfl
 have:=m.wa ha
 rw[hy]at this;cases this
structure TG(hm:Int→Int)(lt:Int→Int→Bool)(K:Int→Bool→Int)(U:Int→Int)(T:Int→Int)(g x:Int):Prop where
 bt:Bt hm lt K U
 t1:∀h,T h≠ -1→hm (T h)=h∧0<h∧U (T h)= -1
 t2:∀y,0<hm y→U y= -1→y≠x→T (hm y)=y
 ox:hm x=g∧U x= -1
 nx:T g≠x
 g0:0<g
variable {T : Int → Int} {g x : Int}
theorem TG.mg(o:TG hm lt K U T g x):Mg hm lt g (fun y=>0<hm y∧U y= -1∧y≠T g∧y≠x) K U [] (T g) x:=
 Mg.start o.bt o.g0 (by
  by_cases h:T g= -1
  ·exact .inl h
  ·obtain⟨h1,_,h2⟩:=o.t1 g h
   exact .inr ⟨h1,h2⟩) (.inr o.ox) (fun e=>absurd e o.nx)
theorem TG.done{K':Int→Bool→Int}{U':Int→Int}{r:Int}(o:TG hm lt K U T g x)(m:Mg hm lt g (fun y=>0<hm y∧U y= -1∧y≠T g∧y≠x) K' U' [] r (-1)):Ac hm lt K' U' (iS T g r):=
 m.done (fun h aP hh=>by
  obtain⟨h1,h2,h3⟩:=o.t1 h hh
  refine⟨h1,h2,by omega,h3,fun e=>?_,fun e=>?_⟩
  ·by_cases h4:T g= -1
   ·rw[e]at hh;exact hh h4
   ·have:=(o.t1 g h4).1
    rw[←e,h1]at this
    exact aP this
  ·rw[e,o.ox.1]at h1
   exact aP h1.symm) (fun y hy=>by
  obtain⟨h1,h2,h3,h4⟩:=hy
  have h5:=o.t2 y h1 h2 h4
  exact⟨fun e=>by rw[e]at h5;exact h3 h5.symm,h5⟩)
theorem Ac.ins(t:Ac hm lt K U T)(h0:hm' (-1)=0)(hx:hm x≤0)(jZ:x≠ -1)(hg:0<g)(e1:hm' x=g)(e2:∀y,y≠x→hm' y=hm y)(el:∀a b,0<hm a→0<hm b→a≠x→b≠x→lt' a b=lt a b):TG hm' lt' K U T g x:=by
 obtain⟨a1,a2⟩:=t.bt.alone hx jZ
 have tx:∀h,T h≠x:=fun h e=>by
  obtain⟨h1,h2,_⟩:=t.t1 h (by rw[e];exact jZ)
  rw[e]at h1
  omega
 refine⟨t.bt.other h0 fun y p hu hp h1 h2 h3=>?_,fun h hh=>?_,fun y hy hu aP=>?_,⟨e1,a1⟩,tx g,hg⟩
 ·have n1:p≠x:=fun e=>a2 y (by rw[hu,e])
  have n2:y≠x:=fun e=>by rw[e]at h2;omega
  rw[e2 _ n1,e2 _ n2,el _ _ (by omega) h2 n1 n2]
  exact⟨h1,h2,h3⟩
 ·obtain⟨h1,h2,h3⟩:=t.t1 h hh
  exact⟨by rw[e2 _ (tx h)];exact h1,h2,h3⟩
 ·rw[e2 _ aP]at hy ⊢
  exact t.t2 y hy hu
theorem Ac.low(t:Ac hm lt K U T)(hx:0<hm x)(hu:U x≠ -1)(el:∀a b,0<hm a→0<hm b→a≠x→b≠x→lt' a b=lt a b)(ex:∀b,0<hm b→b≠x→lt x b=true→lt' x b=true)(hs:bA lt):TG hm lt' (iO K U x) (c9 U x) T (hm x) x:=by
 have jZ:x≠ -1:=fun e=>by rw[e,t.bt.h0]at hx;omega
 have b1:=t.bt.cut x jZ
 have uu:∀y,c9 U x y=if y=x then -1 else U y:=fun y=>rfl
 refine⟨b1.other t.bt.h0 fun y p hu hp h1 h2 h3=>⟨h1,h2,?_⟩,fun h hh=>?_,fun y hy hu aP=>?_,⟨rfl,by rw[uu,if_pos rfl]⟩,fun e=>?_,hx⟩
 ·have n2:y≠x:=fun e=>by rw[uu,if_pos e]at hu;exact hp hu.symm
  by_cases n1:p=x
  ·rw[n1]at h3 ⊢
   exact ex y h2 n2 h3
  ·rw[el _ _ (by omega) h2 n1 n2];exact h3
 ·obtain⟨h1,h2,h3⟩:=t.t1 h hh
  refine⟨h1,h2,?_⟩
  rw[uu]
  split
  ·rfl
  ·exact h3
 ·rw[uu,if_neg aP]at hu
  exact t.t2 y hy hu
 ·have:=(t.t1 (hm x) (by rw[e];exact jZ)).2.2
  rw[e]at this
  exact hu this
theorem Ac.TH(t:Ac hm lt K U T)(hx:0<hm x)(hu:U x= -1)(el:∀a b,0<hm a→0<hm b→a≠x→b≠x→lt' a b=lt a b)(ex:∀b,0<hm b→b≠x→lt x b=true→lt' x b=true)(hs:bA lt):Ac hm lt' K U T:=by
 have jZ:x≠ -1:=fun e=>by rw[e,t.bt.h0]at hx;omega
 refine⟨t.bt.other t.bt.h0 fun y p hu' hp h1 h2 h3=>⟨h1,h2,?_⟩,t.t1,t.t2⟩
 have n2:y≠x:=fun e=>by rw[e,hu]at hu';exact hp hu'.symm
 by_cases n1:p=x
 ·rw[n1]at h3 ⊢
  exact ex y h2 n2 h3
 ·rw[el _ _ (by omega) h2 n1 n2];exact h3
theorem Bt.drop(b:Bt hm lt K U)(hux:U x= -1)(bO:∀y,U y≠x)(h0:hm' (-1)=0)(e1:hm' x=0)(e2:∀y,y≠x→hm' y=hm y)(el:∀a b,0<hm a→0<hm b→a≠x→b≠x→lt' a b=lt a b)
  (t1:∀h,T h≠ -1→hm (T h)=h∧0<h∧U (T h)= -1∧T h≠x)(t2:∀y,0<hm y→U y= -1→y≠x→T (hm y)=y):Ac hm' lt' K U T:=by
 refine⟨b.other h0 fun y p hu hp h1 h2 h3=>?_,fun h hh=>?_,fun y hy hu=>?_⟩
 ·have n1:p≠x:=fun e=>bO y (by rw[hu,e])
  have n2:y≠x:=fun e=>by rw[e,hux]at hu;exact hp hu.symm
  rw[e2 _ n1,e2 _ n2,el _ _ (by omega) h2 n1 n2]
  exact⟨h1,h2,h3⟩
 ·obtain⟨h1,h2,h3,h4⟩:=t1 h hh
  exact⟨by rw[e2 _ h4];exact h1,h2,h3⟩
 ·have aP:y≠x:=fun e=>by rw[e,e1]at hy;omega
  rw[e2 _ aP]at hy ⊢
  exact t2 y hy hu aP
structure Ae(hm:Int→Int)(lt:Int→Int→Bool)(K:Int→Bool→Int)(U:Int→Int)(T:Int→Int)(x:Int)(K2:Int→Bool→Int)(U2:Int→Int)(r:Int):Prop where
 bt:Bt hm lt K2 U2
 kx:∀c,K2 x c= -1
 kp:∀p c,U x=p→p≠ -1→K2 p c=K p c
 ux:U2 x=U x
 rx:r≠ -1→hm r=hm x∧U2 r= -1∧r≠x∧lt x r=true
 jy:∀y,0<hm y→(U2 y= -1↔y=r∨U y= -1)
theorem Ac.Vh(t:Ac hm lt K U T)(hs:bA lt)(hx:0<hm x){K1 K2:Int→Bool→Int}{U1 U2:Int→Int}{r:Int}
  (k1:K1=iO (iO K U (K x false)) (c9 U (K x false)) (K x true))(u1:U1=c9 (c9 U (K x false)) (K x true))
  (m:Mg hm lt (hm x) (fun y=>0<hm y∧U1 y= -1∧y≠K x false∧y≠K x true) K2 U2 [] r (-1))(f:vV lt K1 U1 x K2 U2 [] r (-1)):Ae hm lt K U T x K2 U2 r:=by
 obtain⟨b1,b2,b3,b4⟩:=t.bt.bare x
 rw[←k1,←u1]at b1
 rw[←k1]at b2 b3
 rw[←u1]at b4
 have jZ:x≠ -1:=fun e=>by rw[e,t.bt.h0]at hx;omega
 have kne:∀c,K x c≠x:=fun c e=>by
  have:=(t.bt.home (p:=x) (c:=c) (by rw[e];exact jZ)).2.2.2.2
  rw[e,hs.vy]at this
  cases this
 obtain⟨f1,f2⟩:=f.fr x (hs.vy x)
 refine⟨m.bt,fun c=>by rw[f1];exact b2 c,fun p c hp B0=>?_,?_,fun hr=>?_,fun y hy=>?_⟩
 ·have h1:=(t.bt.uk x p hp B0).2.2.2.2
  obtain⟨f3,f4⟩:=f.fr p (hs.asym h1)
  rw[f3]
  exact b3 p c fun e=>by rw[e,hs.vy]at h1;cases h1
 ·rw[f2,b4,if_neg]
  rintro(h|h)
  ·exact kne _ h.symm
  ·exact kne _ h.symm
 ·obtain⟨h1,h2⟩:=m.wa.resolve_left hr
  have h3:=f.wa hr
  exact⟨h1,h2,(fun e=>by rw[e,hs.vy]at h3;cases h3),h3⟩
 ·rw[m.jy y hy]
  have MQ:y≠ -1:=fun e=>by rw[e,t.bt.h0]at hy;omega
  have hk:U y= -1→y≠K x false∧y≠K x true:=fun hu=>by
   refine⟨fun e=>?_,fun e=>?_⟩
   ·have:=(t.bt.home (p:=x) (c:=false) (by rw[←e];exact MQ)).1
    rw[←e,hu]at this
    exact jZ this.symm
   ·have:=(t.bt.home (p:=x) (c:=true) (by rw[←e];exact MQ)).1
    rw[←e,hu]at this
    exact jZ this.symm
  constructor
  ·rintro(h|h|h|h)
   ·cases h
   ·exact .inl h
   ·exact absurd h MQ
   ·obtain⟨_,h2,h3,h4⟩:=h
    rw[b4,if_neg (by simp[h3,h4])]at h2
    exact .inr h2
  ·rintro(h|h)
   ·exact .inr (.inl h)
   ·obtain⟨h3,h4⟩:=hk h
    exact .inr (.inr (.inr ⟨hy,by rw[b4,if_neg (by simp[h3,h4])];exact h,h3,h4⟩))
variable {K2 : Int → Bool → Int} {U2 : Int → Int} {r : Int}
theorem Ae.none(d:Ae hm lt K U T x K2 U2 r)(jZ:x≠ -1)(y:Int):U2 y≠x:=fun e=>by
 obtain⟨⟨c,hc⟩,h2,_⟩:=d.bt.uk y x e jZ
 rw[d.kx c]at hc
 exact h2 hc.symm
theorem Ae.Rb(d:Ae hm lt K U T x K2 U2 r)(t:Ac hm lt K U T)(hx:0<hm x)(hu:U x= -1)(h0:hm' (-1)=0)(e1:hm' x=0)(e2:∀y,y≠x→hm' y=hm y)(el:∀a b,0<hm a→0<hm b→a≠x→b≠x→lt' a b=lt a b):
  Ac hm' lt' K2 U2 (iS T (hm x) r):=by
 have jZ:x≠ -1:=fun e=>by rw[e,t.bt.h0]at hx;omega
 have tx:=t.t2 x hx hu
 refine d.bt.drop (by rw[d.ux,hu]) (d.none jZ) h0 e1 e2 el (fun h hh=>?_) (fun y hy DQ aP=>?_)
 ·unfold iS at hh ⊢
  split
  ·rename_i e
   rw[if_pos e]at hh
   obtain⟨h1,h2,h3,_⟩:=d.rx hh
   exact⟨by rw[h1,e],by omega,h2,h3⟩
  ·rename_i e
   rw[if_neg e]at hh
   obtain⟨h1,h2,h3⟩:=t.t1 h hh
   exact⟨h1,h2,(d.jy _ (by omega)).2 (.inr h3),fun e3=>e (by rw[←h1,e3])⟩
 ·unfold iS
  rcases(d.jy y hy).1 DQ with h|h
  ·have hr:r≠ -1:=fun e=>by rw[h,e,t.bt.h0]at hy;omega
   rw[h,if_pos (d.rx hr).1]
  ·have:=t.t2 y hy h
   rw[if_neg]
   ·exact this
   ·intro e
    rw[e,tx]at this
    exact aP this.symm
theorem Ae.cut(d:Ae hm lt K U T x K2 U2 r)(t:Ac hm lt K U T)(hs:bA lt)(hx:0<hm x)(hu:U x≠ -1):
  (r= -1→Bt hm lt (iO K2 U2 x) (c9 U2 x))∧
  (r≠ -1→iO K2 U2 x (U x) (K (U x) true==x)= -1∧c9 U2 x r= -1∧U x≠r∧Bt hm lt (tV (iO K2 U2 x) (U x) r (K (U x) true==x)) (aH (c9 U2 x) r (U x))):=by
 have jZ:x≠ -1:=fun e=>by rw[e,t.bt.h0]at hx;omega
 have b:=d.bt.cut x jZ
 obtain⟨_,_,h3,h4,h5⟩:=t.bt.uk x _ rfl hu
 refine⟨fun _=>b,fun hr=>?_⟩
 obtain⟨r1,r2,r3,r4⟩:=d.rx hr
 have e1:iO K2 U2 x (U x) (K (U x) true==x)= -1:=by
  rw[iR d.bt x jZ,if_pos]
  rw[d.kp _ _ rfl hu]
  exact t.bt.side rfl hu
 have e2:c9 U2 x r= -1:=by
  unfold c9 aH
  rw[if_neg r3];exact r2
 have h6:=hs.tr _ _ _ h5 r4
 exact⟨e1,e2,(fun e=>by rw[e,hs.vy]at h6;cases h6),b.I9 hu hr e1 e2 (by rw[h3,r1]) (by rw[r1];exact hx) h6⟩
theorem Ae.below(d:Ae hm lt K U T x K2 U2 r)(t:Ac hm lt K U T)(hs:bA lt){n:Nat}(hn:∀y,0<hm y→0≤y∧y<n)(hx:0<hm x)(hu:U x≠ -1){K3:Int→Bool→Int}{U3:Int→Int}(b:Bt hm lt K3 U3)(u3:U3=if r= -1 then c9 U2 x else aH (c9 U2 x) r (U x))
  (h0:hm' (-1)=0)(e1:hm' x=0)(e2:∀y,y≠x→hm' y=hm y)(el:∀a b,0<hm a→0<hm b→a≠x→b≠x→lt' a b=lt a b):Ac hm' lt' K3 U3 T:=by
 have jZ:x≠ -1:=fun e=>by rw[e,t.bt.h0]at hx;omega
 obtain⟨_,_,h3,h4,h5⟩:=t.bt.uk x _ rfl hu
 have dH:U x≠x:=fun e=>by rw[e,hs.vy]at h5;cases h5
 have rr:∀y,0<hm y→y≠x→(U3 y= -1↔U y= -1):=fun y hy aP=>by
  rw[u3]
  split
  ·rename_i hr
   unfold c9 aH
   rw[if_neg aP,d.jy y hy]
   refine⟨fun h=>h.resolve_left fun e=>?_,.inr⟩
   rw[e,hr,t.bt.h0]at hy;omega
  ·rename_i hr
   obtain⟨r1,r2,r3,r4⟩:=d.rx hr
   unfold c9 aH
   by_cases Wi:y=r
   ·rw[if_pos Wi]
    refine⟨fun e=>absurd e hu,fun e=>?_⟩
    rw[Wi]at e
    have e3:=t.t2 r (by omega) e
    rw[r1]at e3
    have e4:=t.least hs hn (h:=hm x) (by rw[e3];exact hr) (y:=x) rfl (by rw[e3];exact fun e=>r3 e.symm)
    rw[e3]at e4
    rw[hs.asym e4]at r4
    cases r4
   ·rw[if_neg Wi,if_neg aP,d.jy y hy]
    exact⟨fun h=>h.resolve_left Wi,.inr⟩
 have ux:U3 x= -1:=by
  rw[u3]
  split
  ·unfold c9 aH;rw[if_pos rfl]
  ·rename_i hr
   obtain⟨r1,r2,r3,r4⟩:=d.rx hr
   unfold c9 aH
   rw[if_neg (Ne.symm r3),if_pos rfl]
 have no:∀y,U3 y≠x:=fun y=>by
  rw[u3]
  split
  ·unfold c9 aH
   split
   ·exact fun e=>jZ e.symm
   ·exact d.none jZ y
  ·unfold c9 aH
   split
   ·exact dH
   ·split
    ·exact fun e=>jZ e.symm
    ·exact d.none jZ y
 refine b.drop ux no h0 e1 e2 el (fun h hh=>?_) (fun y hy DQ aP=>t.t2 y hy ((rr y hy aP).1 DQ))
 obtain⟨h1,h2,h3⟩:=t.t1 h hh
 have aP:T h≠x:=fun e=>by rw[e]at h3;exact hu h3
 exact⟨h1,h2,(rr _ (by omega) aP).2 h3,aP⟩
end
end Go.Proofs.YtjlnnljohemifaaGreat

namespace Go.Proofs.YtjlnnljohemifaaGreat
structure TI(hm:Int→Int)(lt:Int→Int→Bool)(U:Int→Int)(T:Int→Int):Prop where
 uk:∀x p,U x=p→p≠ -1→hm p=hm x∧0<hm x∧lt p x=true
 t1:∀h,T h≠ -1→hm (T h)=h∧0<h∧U (T h)= -1
 t2:∀x,0<hm x→U x= -1→T (hm x)=x
theorem TI.first{hm:Int→Int}{lt:Int→Int→Bool}{U T:Int→Int}(t:TI hm lt U T){x:Int}(h0:0<hm x)(hf:∀y,hm y=hm x→y≠x→lt x y=true)(hs:bA lt):T (hm x)=x:=by
 refine t.t2 x h0 ?_
 apply aoI
 intro hu
 obtain⟨h2,h3,h4⟩:=t.uk x _ rfl hu
 by_cases e:U x=x
 ·rw[e,hs.vy]at h4;cases h4
 ·have:=hs.asym (hf _ h2 e)
  rw[h4]at this;cases this
section
variable {hm hm' : Int → Int} {lt lt' : Int → Int → Bool} {ch GY : Int → List Int} {par : Int → Int}
structure Pr(hm:Int→Int)(lt:Int→Int→Bool)(ch:Int→List Int)(par:Int→Int):Prop where
 h0:hm (-1)=0
 dn:∀x c,c∈ch x→par c=x∧x≠ -1∧hm x=hm c∧0<hm c∧lt x c=true
 up:∀c x,par c=x→x≠ -1→c∈ch x
 nd:∀x,(ch x).Nodup
theorem Pr.ne(p:Pr hm lt ch par){x c:Int}(h:c∈ch x):c≠ -1:=fun e=>by
 have:=(p.dn x c h).2.2.2.1
 rw[e,p.h0]at this
 omega
def mT(ch:Int→List Int)(a b:Int):Int→List Int:=fun x=>if x=a then b::ch a else ch x
theorem Pr.link(p:Pr hm lt ch par){a b:Int}(ha:a≠ -1)(hb:par b= -1)(hh:hm a=hm b)(h0:0<hm b)(hl:lt a b=true):Pr hm lt (mT ch a b) (aH par b a):=by
 refine⟨p.h0,fun x c hc=>?_,fun c x hc hx=>?_,fun x=>?_⟩
 ·unfold mT at hc
  unfold aH
  by_cases hx:x=a
  ·subst hx
   rw[if_pos rfl]at hc
   rcases aot.1 hc with rfl|hc
   ·rw[if_pos rfl]
    exact⟨rfl,ha,hh,h0,hl⟩
   ·have h1:=p.dn x c hc
    rw[if_neg (fun e=>by rw[e,hb]at h1;exact h1.2.1 h1.1.symm)]
    exact h1
  ·rw[if_neg hx]at hc
   have h1:=p.dn x c hc
   rw[if_neg (fun e=>by rw[e,hb]at h1;exact h1.2.1 h1.1.symm)]
   exact h1
 ·unfold aH at hc
  unfold mT
  by_cases GO:c=b
  ·rw[if_pos GO]at hc
   rw[if_pos hc.symm,GO]
   exact ao5
  ·rw[if_neg GO]at hc
   have:=p.up c x hc hx
   split
   ·rename_i e
    rw[←e]
    exact aoQ _ this
   ·exact this
 ·unfold mT
  split
  ·exact aoB.2 ⟨fun h=>by have:=p.dn a b h;rw[hb]at this;exact this.2.1 this.1.symm,p.nd a⟩
  ·exact p.nd x
def ay(ch:Int→List Int)(p:Int)(l:List Int):Int→List Int:=fun x=>if x=p then l else ch x
theorem Pr.off(q:Pr hm lt ch par){p x:Int}{l1 l2:List Int}(hp:ch p=l1++x::l2):Pr hm lt (ay ch p (l1++l2)) (aH par x (-1)):=by
 have hx:=q.dn p x (by rw[hp];simp)
 have gA:=q.nd p
 rw[hp,ao2]at gA
 obtain⟨n1,n2,n3⟩:=gA
 rw[aoB]at n2
 have bO:x∉l1++l2:=by
  rw[aou]
  rintro(h|h)
  ·exact n3 x h x (by simp) rfl
  ·exact n2.1 h
 have Ja:∀c,c∈l1++l2→c∈ch p:=fun c hc=>by
  rw[hp]
  rcases aou.1 hc with h|h
  ·simp[h]
  ·simp[h]
 refine⟨q.h0,fun y c hc=>?_,fun c y hc hy=>?_,fun y=>?_⟩
 ·unfold ay at hc
  unfold aH
  by_cases e:y=p
  ·subst e
   rw[if_pos rfl]at hc
   rw[if_neg (show¬c=x from fun e=>bO (by rw[←e];exact hc))]
   exact q.dn y c (Ja c hc)
  ·rw[if_neg e]at hc
   have h1:=q.dn y c hc
   rw[if_neg (fun e2=>e (by rw[←h1.1,e2];exact hx.1))]
   exact h1
 ·unfold aH at hc
  unfold ay
  by_cases fu:c=x
  ·rw[if_pos fu]at hc
   exact absurd hc.symm hy
  ·rw[if_neg fu]at hc
   have:=q.up c y hc hy
   split
   ·rename_i e
    rw[e,hp,aou,aot]at this
    rw[aou]
    rcases this with h|h|h
    ·exact .inl h
    ·exact absurd h fu
    ·exact .inr h
   ·exact this
 ·unfold ay
  split
  ·rw[ao2]
   exact⟨n1,n2.2,fun a ha b hb=>n3 a ha b (by simp[hb])⟩
  ·exact q.nd y
def fx(ch:Int→List Int)(par:Int→Int)(x:Int):Int→Int:=fun c=>if c∈ch x then -1 else par c
theorem Pr.bare(q:Pr hm lt ch par)(x:Int):Pr hm lt (ay ch x []) (fx ch par x):=by
 refine⟨q.h0,fun y c hc=>?_,fun c y hc hy=>?_,fun y=>?_⟩
 ·unfold ay at hc
  split at hc
  ·cases hc
  ·rename_i e
   have h1:=q.dn y c hc
   unfold fx
   rw[if_neg (fun h=>e (by rw[←h1.1,(q.dn x c h).1]))]
   exact h1
 ·unfold fx at hc
  split at hc
  ·exact absurd hc.symm hy
  ·rename_i h
   have:=q.up c y hc hy
   unfold ay
   rw[if_neg (show¬y=x from fun e=>h (by rw[←e];exact this))]
   exact this
 ·unfold ay
  split
  ·exact aps
  ·exact q.nd y
theorem Pr.other(q:Pr hm lt ch par)(h0:hm' (-1)=0)(h:∀x c,c∈ch x→hm x=hm c→0<hm c→lt x c=true→hm' x=hm' c∧0<hm' c∧lt' x c=true):Pr hm' lt' ch par:=
 ⟨h0,fun x c hc=>by
  obtain⟨h1,h2,h3,h4,h5⟩:=q.dn x c hc
  exact⟨h1,h2,h x c hc h3 h4 h5⟩,q.up,q.nd⟩
def Kj(K:Int→Bool→Int)(B:Int→Int):Int→List Int→Prop
 |_,[]=>True
 |p,c::r=>B c=p∧K c true=r.headD (-1)∧Kj K B c r
variable {K K' : Int → Bool → Int} {B B' : Int → Int}
theorem Kj.frame:∀ {l:List Int} {p:Int},Kj K B p l→(∀c∈l,K' c true=K c true∧B' c=B c)→Kj K' B' p l:=by
 intro l
 induction l with
 |nil=>intro p _ _;trivial
 |cons c r ih=>
  intro p h hk
  obtain⟨h1,h2,h3⟩:=h
  obtain⟨k1,k2⟩:=hk c (by simp)
  exact⟨by rw[k2,h1],by rw[k1,h2],ih h3 fun d hd=>hk d (by simp[hd])⟩
theorem Kj.behind{l:List Int}{p p':Int}(h:Kj K B p l)(hk:∀c∈l,K' c true=K c true)(hb:∀c∈l,c≠l.headD (-1)→B' c=B c)(hp:l≠[]→B' (l.headD (-1))=p')(hn:l.Nodup):Kj K' B' p' l:=by
 cases l with
 |nil=>trivial
 |cons c r=>
  obtain⟨h1,h2,h3⟩:=h
  have YY:=(aoB.1 hn).1
  refine⟨hp (by simp),by rw[hk c (by simp),h2],h3.frame fun d hd=>⟨hk d (by simp[hd]),hb d (by simp[hd]) fun e=>YY (by simp only[List.headD_cons]at e;exact e▸hd)⟩⟩
theorem Kj.split:∀ {l1:List Int} {p x:Int} {l2:List Int},Kj K B p (l1++x::l2)→B x=l1.getLastD p∧K x true=l2.headD (-1)∧Kj K B x l2∧(∀y,l1.getLast? =some y→K y true=x):=by
 intro l1
 induction l1 with
 |nil=>intro p x l2 h;exact⟨h.1,h.2.1,h.2.2,fun y hy=>by cases hy⟩
 |cons c r ih=>
  intro p x l2 h
  obtain⟨h1,h2,h3⟩:=h
  obtain⟨i1,i2,i3,i4⟩:=ih h3
  refine⟨?_,i2,i3,fun y hy=>?_⟩
  ·rw[i1]
   cases r<;>simp[List.getLastD]
  ·cases r with
   |nil=>
    simp only[List.getLast?_singleton,aos]at hy
    subst hy
    simpa using h2
   |cons d r=>
    rw[aqg]at hy
    exact i4 y hy
theorem Kj.cut:∀ {l1:List Int} {p x:Int} {l2:List Int},Kj K B p (l1++x::l2)→(l1++x::l2).Nodup→
  (∀c∈l1,l1.getLast? ≠some c→K' c true=K c true)→(∀c∈l1,B' c=B c)→(∀y,l1.getLast? =some y→K' y true=l2.headD (-1))→
  Kj K' B' (l1.getLastD p) l2→Kj K' B' p (l1++l2):=by
 intro l1
 induction l1 with
 |nil=>intro p x l2 _ _ _ _ _ h;exact h
 |cons c r ih=>
  intro p x l2 h hn hk hb hl h2
  obtain⟨g1,g2,g3⟩:=h
  have Ds:=aoB.1 (show(c::(r++x::l2)).Nodup from hn)
  have oJ:(c::r).getLastD p=r.getLastD c:=by cases r<;>simp[List.getLastD]
  rw[oJ]at h2
  have hi:Kj K' B' c (r++l2):=by
   refine ih g3 Ds.2 (fun d hd he=>hk d (by simp[hd]) fun e=>he ?_) (fun d hd=>hb d (by simp[hd])) (fun y hy=>hl y ?_) h2
   ·cases r with
    |nil=>cases hd
    |cons e' r=>rw[aqg]at e;exact e
   ·cases r with
    |nil=>cases hy
    |cons e' r=>rw[aqg];exact hy
  refine⟨by rw[hb c (by simp),g1],?_,hi⟩
  cases r with
  |nil=>simpa using hl c (by simp)
  |cons d r=>
   have:(c::d::r).getLast? ≠some c:=by
    rw[aqg]
    intro e
    exact Ds.1 (aoy _ (apR e))
   rw[hk c (by simp) this,g2]
   simp
structure Jb(K:Int→Bool→Int)(B:Int→Int)(ch:Int→List Int)(par:Int→Int):Prop where
 hd:∀x,K x false=(ch x).headD (-1)
 sg:∀x,Kj K B x (ch x)
 rt:∀c,par c= -1→K c true= -1∧B c= -1
theorem eA{l:List Int}(h:l.headD (-1)≠ -1):l.headD (-1)∈l:=by
 cases l with
 |nil=>exact absurd rfl h
 |cons a l=>simp
theorem Jb.link(m:Jb K B ch par)(p:Pr hm lt ch par){a b:Int}(ha:a≠ -1)(hb:par b= -1)(BZ:a≠b):
  Jb (ez (ez K b true (K a false)) a false b) (if K a false= -1 then aH B b a else aH (aH B b a) (K a false) b) (mT ch a b) (aH par b a):=by
 have hold:K a false≠ -1→K a false∈ch a:=fun h=>by rw[m.hd]at h ⊢;exact eA h
 have DR:∀x c,c∈ch x→c≠b:=fun x c hc e=>by
  have:=p.dn x c hc
  rw[e,hb]at this
  exact this.2.1 this.1.symm
 have ek:∀c,c≠b→ez (ez K b true (K a false)) a false b c true=K c true:=fun c hc=>by
  unfold ez
  rw[if_neg (by simp),if_neg (by simp[hc])]
 have eb:∀c,c≠b→(K a false≠ -1→c≠K a false)→(if K a false= -1 then aH B b a else aH (aH B b a) (K a false) b) c=B c:=fun c h1 h2=>by
  split
  ·unfold aH;rw[if_neg h1]
  ·rename_i h
   unfold aH;rw[if_neg (h2 h),if_neg h1]
 refine⟨fun x=>?_,fun x=>?_,fun c hc=>?_⟩
 ·unfold ez mT
  by_cases hx:x=a
  ·rw[if_pos ⟨hx,rfl⟩,if_pos hx];rfl
  ·rw[if_neg (by simp[hx]),if_neg (by simp),if_neg hx]
   exact m.hd x
 ·unfold mT
  by_cases hx:x=a
  ·subst hx
   rw[if_pos rfl]
   refine⟨?_,?_,?_⟩
   ·split
    ·unfold aH;rw[if_pos rfl]
    ·rename_i h
     unfold aH
     rw[if_neg (fun e=>DR x _ (hold h) e.symm),if_pos rfl]
   ·unfold ez
    rw[if_neg (by simp),if_pos ⟨rfl,rfl⟩]
    exact m.hd x
   ·refine(m.sg x).behind (fun c hc=>ek c (DR x c hc)) (fun c hc he=>eb c (DR x c hc) (fun _=>by rw[m.hd];exact he)) (fun aP=>?_) (p.nd x)
    have h1:K x false≠ -1:=by
     rw[m.hd]
     cases hc:ch x with
     |nil=>exact absurd hc aP
     |cons d r=>exact p.ne (x:=x) (by rw[hc];simp)
    rw[if_neg h1]
    unfold aH
    rw[if_pos (m.hd x).symm]
  ·rw[if_neg hx]
   exact(m.sg x).frame fun c hc=>⟨ek c (DR x c hc),eb c (DR x c hc) fun _ e=>by
    have h1:=p.dn x c hc
    have h2:=p.dn a _ (hold (e▸p.ne hc))
    rw[←e,h1.1]at h2
    exact hx h2.1⟩
 ·unfold aH at hc
  have GO:c≠b:=fun e=>by rw[if_pos e]at hc;exact ha hc
  rw[if_neg GO]at hc
  have h1:=m.rt c hc
  rw[ek c GO,eb c GO fun h e=>?_]
  ·exact h1
  ·have h2:=p.dn a _ (hold h)
   rw[←e,hc]at h2
   exact h2.2.1 h2.1.symm
theorem Jb.off(m:Jb K B ch par)(q:Pr hm lt ch par)(hs:bA lt){p x:Int}{l1 l2:List Int}(hp:ch p=l1++x::l2):
  (K (B x) false=x↔l1=[])∧B x≠ -1∧B x≠x∧hm (B x)=hm x∧hm p=hm x∧(K x true≠ -1→hm (K x true)=hm x)∧
  Jb (ez (if l1=[]then ez K (B x) false (K x true)else ez K (B x) true (K x true)) x true (-1)) (aH (if K x true= -1 then B else aH B (K x true) (B x)) x (-1)) (ay ch p (l1++l2)) (aH par x (-1)):=by
 have hx:=q.dn p x (by rw[hp];simp)
 have gA:=q.nd p
 have Wj:=gA
 rw[hp]at Wj
 have sg:=m.sg p
 rw[hp]at sg
 obtain⟨b1,b2,b3,b4⟩:=sg.split
 obtain⟨n1,n2,n3⟩:=ao2.1 Wj
 have n4:=aoB.1 n2
 have dH:p≠x:=fun e=>by have:=hx.2.2.2.2;rw[e,hs.vy]at this;cases this
 have Rc:∀c∈l1,c∈ch p:=fun c hc=>by rw[hp];simp[hc]
 have TJ:∀c∈l2,c∈ch p:=fun c hc=>by rw[hp];simp[hc]
 have x1:∀c∈l1,c≠x:=fun c hc e=>n3 c hc x (by simp) e
 have x2:∀c∈l2,c≠x:=fun c hc e=>n4.1 (e▸hc)
 have cp:∀c,c∈ch p→c≠p:=fun c hc e=>by have:=(q.dn p c hc).2.2.2.2;rw[e,hs.vy]at this;cases this
 have hB:(l1=[]∧B x=p)∨(∃y,l1.getLast? =some y∧B x=y∧y∈l1):=by
  rw[b1]
  cases hl:l1.getLast? with
  |none=>rw[List.getLast?_eq_none_iff]at hl;exact .inl ⟨hl,by rw[hl];rfl⟩
  |some y=>
   refine .inr ⟨y,rfl,?_,apR hl⟩
   rw[apQ,hl];rfl
 have bx:B x≠x:=by
  rcases hB with ⟨_,h⟩| ⟨y,_,h,hy⟩
  ·rw[h];exact dH
  ·rw[h];exact x1 y hy
 have Re:K x true≠ -1→K x true∈l2:=fun h=>by rw[b2]at h ⊢;exact eA h
 have first:K (B x) false=x↔l1=[]:=by
  rcases hB with ⟨h1,h2⟩| ⟨y,h1,h2,hy⟩
  ·rw[h2,m.hd,hp,h1];simp
  ·constructor
   ·intro h
    rw[h2,m.hd]at h
    have hxm:x∈ch y:=by rw[←h];exact eA (by rw[h];exact q.ne (x:=p) (by rw[hp];simp))
    have:=(q.dn y x hxm).1
    rw[hx.1]at this
    exact absurd this.symm (cp y (Rc y hy))
   ·intro h;rw[h]at hy;cases hy
 refine⟨first,?_,bx,?_,hx.2.2.1,fun h=>?_,?_⟩
 ·rcases hB with ⟨h1,h2⟩| ⟨y,h1,h2,hy⟩
  ·rw[h2];exact hx.2.1
  ·rw[h2];exact q.ne (Rc y hy)
 ·rcases hB with ⟨h1,h2⟩| ⟨y,h1,h2,hy⟩
  ·rw[h2];exact hx.2.2.1
  ·rw[h2,← (q.dn p y (Rc y hy)).2.2.1,hx.2.2.1]
 ·rw[← (q.dn p _ (TJ _ (Re h))).2.2.1,hx.2.2.1]
 obtain⟨K2,hK2⟩:∃K2,K2=ez (if l1=[]then ez K (B x) false (K x true)else ez K (B x) true (K x true)) x true (-1):=⟨_,rfl⟩
 obtain⟨B2,hB2⟩:∃B2,B2=aH (if K x true= -1 then B else aH B (K x true) (B x)) x (-1):=⟨_,rfl⟩
 rw[←hK2,←hB2]
 have kf:∀y,K2 y false=if l1=[]∧y=p then K x true else K y false:=fun y=>by
  rw[hK2]
  unfold ez
  rw[if_neg (by simp)]
  by_cases h:l1=[]
  ·rw[if_pos h]
   have hb:B x=p:=by rw[b1,h];rfl
   rw[hb]
   by_cases hy:y=p
   ·rw[if_pos ⟨hy,rfl⟩,if_pos ⟨h,hy⟩]
   ·rw[if_neg (by simp[hy]),if_neg (by simp[hy])]
  ·rw[if_neg h,if_neg (by simp),if_neg (by simp[h])]
 have kt:∀y,y≠x→(l1.getLast? ≠some y)→K2 y true=K y true:=fun y hy hl=>by
  rw[hK2]
  unfold ez
  rw[if_neg (by simp[hy])]
  split
  ·show(if y=B x∧true=false then K x true else K y true)=_
   rw[if_neg (by simp)]
  ·rename_i h
   show(if y=B x∧true=true then K x true else K y true)=_
   rw[if_neg]
   rintro⟨e,_⟩
   rcases hB with ⟨h1,h2⟩| ⟨z,h1,h2,hz⟩
   ·exact h h1
   ·exact hl (by rw[h1,e,h2])
 have bt:∀y,y≠x→(K x true≠ -1→y≠K x true)→B2 y=B y:=fun y hy hk=>by
  rw[hB2]
  unfold aH
  rw[if_neg hy]
  split
  ·rfl
  ·rename_i h
   show(if y=K x true then B x else B y)=_
   rw[if_neg (hk h)]
 refine⟨fun y=>?_,fun y=>?_,fun c hc=>?_⟩
 ·rw[kf]
  unfold ay
  by_cases hy:y=p
  ·rw[if_pos hy]
   by_cases h:l1=[]
   ·rw[if_pos ⟨h,hy⟩,h,b2];rfl
   ·rw[if_neg (by simp[h]),m.hd,hy,hp]
    cases l1 with
    |nil=>exact absurd rfl h
    |cons a r=>rfl
  ·rw[if_neg (by simp[hy]),if_neg hy]
   exact m.hd y
 ·unfold ay
  by_cases hy:y=p
  ·subst hy
   rw[if_pos rfl]
   refine sg.cut Wj (fun c hc hl=>kt c (x1 c hc) hl) (fun c hc=>bt c (x1 c hc) fun h e=>?_) (fun z hz=>?_) ?_
   ·exact n3 c hc (K x true) (by simp[Re h]) e
   ·have hzl:=apR hz
    have aP:l1≠[]:=fun e=>by rw[e]at hzl;cases hzl
    rw[hK2,←b2]
    unfold ez
    rw[if_neg (by simp[x1 z hzl]),if_neg aP,if_pos]
    refine⟨?_,rfl⟩
    rw[b1,apQ,hz];rfl
   ·refine b3.behind (fun c hc=>kt c (x2 c hc) fun hl=>n3 c (apR hl) c (by simp[hc]) rfl) (fun c hc he=>bt c (x2 c hc) fun h=>by rw[b2];exact he) (fun aP=>?_) n4.2
    have h1:K x true≠ -1:=by
     rw[b2]
     cases hc:l2 with
     |nil=>exact absurd hc aP
     |cons d r=>exact q.ne (TJ d (by rw[hc];simp))
    rw[hB2]
    unfold aH
    rw[if_neg (by rw[←b2];exact x2 _ (Re h1)),if_neg h1,if_pos b2.symm,b1]
  ·rw[if_neg hy]
   refine(m.sg y).frame fun c hc=>?_
   have h1:=q.dn y c hc
   have Vi:c∉ch p:=fun h=>hy (by rw[←h1.1,(q.dn p c h).1])
   have fu:c≠x:=fun e=>Vi (by rw[hp,e];simp)
   exact⟨kt c fu fun hl=>Vi (Rc c (apR hl)),bt c fu fun h e=>Vi (by rw[e];exact TJ _ (Re h))⟩
 ·unfold aH at hc
  by_cases fu:c=x
  ·rw[fu,hK2,hB2]
   unfold ez aH
   rw[if_pos ⟨rfl,rfl⟩,if_pos rfl]
   exact⟨rfl,rfl⟩
  ·rw[if_neg fu]at hc
   have Vi:c∉ch p:=fun h=>by have:=q.dn p c h;rw[hc]at this;exact this.2.1 this.1.symm
   rw[kt c fu fun hl=>Vi (Rc c (apR hl)),bt c fu fun h e=>Vi (by rw[e];exact TJ _ (Re h))]
   exact m.rt c hc
theorem Jb.bare(m:Jb K B ch par)(q:Pr hm lt ch par){x:Int}(h1:∀y,K' y false=if y=x then -1 else K y false)(h2:∀c∈ch x,K' c true= -1∧B' c= -1)(h3:∀c,c∉ch x→K' c true=K c true∧B' c=B c):
  Jb K' B' (ay ch x []) (fx ch par x):=by
 refine⟨fun y=>?_,fun y=>?_,fun c hc=>?_⟩
 ·rw[h1]
  unfold ay
  split
  ·rfl
  ·exact m.hd y
 ·unfold ay
  split
  ·trivial
  ·rename_i hy
   exact(m.sg y).frame fun c hc=>h3 c fun h=>hy (by rw[← (q.dn y c hc).1,(q.dn x c h).1])
 ·unfold fx at hc
  split at hc
  ·rename_i h;exact h2 c h
  ·rename_i h
   rw[(h3 c h).1,(h3 c h).2]
   exact m.rt c hc
structure Dt(hm:Int→Int)(lt:Int→Int→Bool)(g:Int)(R:Int→Prop)(GY:Int→List Int)(ch:Int→List Int)(par:Int→Int)(W:List Int):Prop where
 pr:Pr hm lt ch par
 nd:W.Nodup
 wm:∀x∈W,x≠ -1∧hm x=g∧par x= -1
 jy:∀x,0<hm x→(par x= -1↔x∈W∨R x)
 nr:∀x,R x→0<hm x∧x∉W
 fr:∀x,R x→ch x=GY x
 g0:0<g
variable {g a b : Int} {R : Int → Prop} {W W' : List Int}
theorem Dt.perm(m:Dt hm lt g R GY ch par W)(h:W.Perm W'):Dt hm lt g R GY ch par W':=
 ⟨m.pr,h.nodup_iff.1 m.nd,fun x hx=>m.wm x (h.mem_iff.2 hx),fun x hx=>by rw[m.jy x hx,h.mem_iff],fun x hx=>⟨(m.nr x hx).1,fun hw=>(m.nr x hx).2 (h.mem_iff.2 hw)⟩,m.fr,m.g0⟩
theorem Dt.link(m:Dt hm lt g R GY ch par (a::b::W))(hl:lt a b=true):Dt hm lt g R GY (mT ch a b) (aH par b a) (a::W):=by
 obtain⟨a1,a2,a3⟩:=m.wm a (by simp)
 obtain⟨b1,b2,b3⟩:=m.wm b (by simp)
 have gA:=m.nd
 rw[aoB,aoB]at gA
 obtain⟨n1,n2,n3⟩:=gA
 have BZ:a≠b:=fun e=>n1 (by rw[e];simp)
 have haW:a∉W:=fun h=>n1 (by simp[h])
 refine⟨m.pr.link a1 b3 (by rw[a2,b2]) (by rw[b2];exact m.g0) hl,aoB.2 ⟨haW,n3⟩,fun x hx=>?_,fun x hx=>?_,fun x hx=>⟨(m.nr x hx).1,fun h=>(m.nr x hx).2 ?_⟩,fun x hx=>?_,m.g0⟩
 ·obtain⟨x1,x2,x3⟩:=m.wm x (by rcases aot.1 hx with rfl|h;simp;simp[h])
  refine⟨x1,x2,?_⟩
  unfold aH
  rw[if_neg]
  ·exact x3
  ·rintro rfl
   rcases aot.1 hx with h|h
   ·exact BZ h.symm
   ·exact n2 h
 ·unfold aH
  by_cases e:x=b
  ·rw[if_pos e]
   refine⟨fun h=>absurd h a1,?_⟩
   rintro(h|h)
   ·rcases aot.1 h with h|h
    ·exact absurd (h.symm.trans e) BZ
    ·exact absurd (e▸h) n2
   ·exact absurd (show x∈a::b::W by rw[e];simp) (m.nr x h).2
  ·rw[if_neg e,m.jy x hx]
   simp only[aot,e,false_or]
 ·rcases aot.1 h with rfl|h
  ·simp
  ·simp[h]
 ·unfold mT
  rw[if_neg]
  ·exact m.fr x hx
  ·rintro rfl
   exact(m.nr x hx).2 (by simp)
def ws(l:List Int):List Int:=l.filter fun x=>decide (x≠ -1)
theorem dZ(r:Int):ws [r]=if r= -1 then[]else[r]:=by
 unfold ws
 by_cases h:r= -1
 ·rw[if_pos h,h];rfl
 ·rw[if_neg h,apx,if_pos (by simp[h])];rfl
theorem mz(r:Int)(l:List Int):ws (r::l)=ws [r]++ws l:=by
 rw[show r::l=[r]++l from rfl]
 unfold ws
 rw[aqh]
theorem Dt.done{T:Int→Int}{r:Int}(m:Dt hm lt g R GY ch par (ws [r]))(ht:∀h,h≠g→T h≠ -1→hm (T h)=h∧0<h∧R (T h))(hR:∀x,R x→hm x≠g∧T (hm x)=x):TI hm lt par (iS T g r):=by
 rw[dZ]at m
 refine⟨fun x p hp B0=>by have:=m.pr.dn p x (m.pr.up x p hp B0);exact this.2.2,fun h hh=>?_,fun x hx hu=>?_⟩
 ·unfold iS at hh ⊢
  split
  ·rename_i e
   rw[if_pos e]at hh
   rw[if_neg hh]at m
   obtain⟨h1,h2,h3⟩:=m.wm r (by simp)
   exact⟨by rw[h2,e],by rw[e];exact m.g0,h3⟩
  ·rename_i e
   rw[if_neg e]at hh
   obtain⟨h1,h2,h3⟩:=ht h e hh
   exact⟨h1,h2,(m.jy _ (by omega)).2 (.inr h3)⟩
 ·unfold iS
  rcases(m.jy x hx).1 hu with h|h
  ·by_cases hr:r= -1
   ·rw[if_pos hr]at h;cases h
   ·rw[if_neg hr]at h m
    have e:=aoq.1 h
    rw[e,if_pos (m.wm r (by simp)).2.1]
  ·obtain⟨h1,h2⟩:=hR x h
   rw[if_neg h1,h2]
structure TK(hm:Int→Int)(lt:Int→Int→Bool)(ch:Int→List Int)(par:Int→Int)(T:Int→Int):Prop where
 pr:Pr hm lt ch par
 tp:TI hm lt par T
variable {T : Int → Int} {x : Int}
structure Th(hm:Int→Int)(lt:Int→Int→Bool)(ch:Int→List Int)(par:Int→Int)(T:Int→Int)(g x:Int):Prop where
 pr:Pr hm lt ch par
 t1:∀h,T h≠ -1→hm (T h)=h∧0<h∧par (T h)= -1
 t2:∀y,0<hm y→par y= -1→y≠x→T (hm y)=y
 ox:x≠ -1∧hm x=g∧par x= -1
 nx:T g≠x
 g0:0<g
theorem Th.w(o:Th hm lt ch par T g x):Dt hm lt g (fun y=>0<hm y∧par y= -1∧y≠x∧y≠T g) ch ch par (ws [T g,x]):=by
 have e:ws [T g,x]=if T g= -1 then[x]else[T g,x]:=by
  rw[mz,dZ,dZ,if_neg o.ox.1]
  split<;>rfl
 rw[e]
 refine⟨o.pr,?_,fun y hy=>?_,fun y hy=>?_,fun y hy=>⟨hy.1,fun h=>?_⟩,fun _ _=>rfl,o.g0⟩
 ·split
  ·simp
  ·simp[o.nx]
 ·split at hy
  ·rw[aoq]at hy;rw[hy];exact o.ox
  ·rename_i h
   rcases aot.1 hy with rfl|hy
   ·obtain⟨h1,h2,h3⟩:=o.t1 g h
    exact⟨h,h1,h3⟩
   ·rw[aoq]at hy;rw[hy];exact o.ox
 ·constructor
  ·intro hp
   by_cases h1:y=x
   ·left;split<;>simp[h1]
   ·by_cases h2:y=T g
    ·left
     rw[if_neg (fun h=>by rw[h2,h,o.pr.h0]at hy;omega)]
     simp[h2]
    ·exact .inr ⟨hy,hp,h1,h2⟩
  ·rintro(h|h)
   ·split at h
    ·rw[aoq]at h;rw[h];exact o.ox.2.2
    ·rename_i hn
     rcases aot.1 h with rfl|h
     ·exact(o.t1 g hn).2.2
     ·rw[aoq]at h;rw[h];exact o.ox.2.2
   ·exact h.2.1
 ·obtain⟨_,_,h3,h4⟩:=hy
  split at h
  ·simp[h3]at h
  ·simp[h3,h4]at h
theorem Th.done{dO:Int→List Int}{bG:Int→Int}{r:Int}(o:Th hm lt ch par T g x)(m:Dt hm lt g (fun y=>0<hm y∧par y= -1∧y≠x∧y≠T g) ch dO bG (ws [r])):TK hm lt dO bG (iS T g r):=by
 refine⟨m.pr,m.done (fun h aP hh=>?_) (fun y hy=>?_)⟩
 ·obtain⟨h1,h2,h3⟩:=o.t1 h hh
  refine⟨h1,h2,by omega,h3,fun e=>?_,fun e=>?_⟩
  ·rw[e,o.ox.2.1]at h1;exact aP h1.symm
  ·by_cases h4:T g= -1
   ·rw[e]at hh;exact hh h4
   ·have:=(o.t1 g h4).1
    rw[←e,h1]at this
    exact aP this
 ·obtain⟨h1,h2,h3,h4⟩:=hy
  have h5:=o.t2 y h1 h2 h3
  exact⟨fun e=>by rw[e]at h5;exact h4 h5.symm,h5⟩
theorem Pr.alone(q:Pr hm lt ch par){x:Int}(hx:hm x≤0)(jZ:x≠ -1):par x= -1∧ch x=[]:=by
 constructor
 ·apply aoI
  intro h
  have:=(q.dn _ _ (q.up x _ rfl h)).2.2.2.1
  omega
 ·cases h:ch x with
  |nil=>rfl
  |cons c r=>
   have:=q.dn x c (by rw[h];simp)
   omega
theorem TK.ins(t:TK hm lt ch par T)(h0:hm' (-1)=0)(hx:hm x≤0)(jZ:x≠ -1)(hg:0<g)(e1:hm' x=g)(e2:∀y,y≠x→hm' y=hm y)(el:∀a b,0<hm a→0<hm b→a≠x→b≠x→lt' a b=lt a b):Th hm' lt' ch par T g x:=by
 obtain⟨a1,a2⟩:=t.pr.alone hx jZ
 have tx:∀h,T h≠x:=fun h e=>by
  obtain⟨h1,h2,_⟩:=t.tp.t1 h (by rw[e];exact jZ)
  rw[e]at h1
  omega
 refine⟨t.pr.other h0 fun y c hc h1 h2 h3=>?_,fun h hh=>?_,fun y hy hu aP=>?_,⟨jZ,e1,a1⟩,tx g,hg⟩
 ·have n1:y≠x:=fun e=>by rw[e,a2]at hc;cases hc
  have n2:c≠x:=fun e=>by rw[e]at h2;omega
  rw[e2 _ n1,e2 _ n2,el _ _ (by omega) h2 n1 n2]
  exact⟨h1,h2,h3⟩
 ·obtain⟨h1,h2,h3⟩:=t.tp.t1 h hh
  exact⟨by rw[e2 _ (tx h)];exact h1,h2,h3⟩
 ·rw[e2 _ aP]at hy ⊢
  exact t.tp.t2 y hy hu
theorem TK.off(t:TK hm lt ch par T){p:Int}{l1 l2:List Int}(hp:ch p=l1++x::l2):Th hm lt (ay ch p (l1++l2)) (aH par x (-1)) T (hm x) x:=by
 obtain⟨h1,h2,h3,h4,h5⟩:=t.pr.dn p x (by rw[hp];simp)
 have jZ:x≠ -1:=fun e=>by rw[e,t.pr.h0]at h4;omega
 refine⟨t.pr.off hp,fun h hh=>?_,fun y hy hu aP=>?_,⟨jZ,rfl,by unfold aH;rw[if_pos rfl]⟩,fun e=>?_,h4⟩
 ·obtain⟨g1,g2,g3⟩:=t.tp.t1 h hh
  refine⟨g1,g2,?_⟩
  unfold aH
  split
  ·rfl
  ·exact g3
 ·unfold aH at hu
  rw[if_neg aP]at hu
  exact t.tp.t2 y hy hu
 ·have:=(t.tp.t1 (hm x) (by rw[e];exact jZ)).2.2
  rw[e,h1]at this
  exact h2 this
theorem Th.low(o:Th hm lt ch par T g x)(el:∀a b,0<hm a→0<hm b→a≠x→b≠x→lt' a b=lt a b)(ex:∀b,0<hm b→b≠x→lt x b=true→lt' x b=true):Th hm lt' ch par T g x:=by
 refine⟨o.pr.other o.pr.h0 fun y c hc h1 h2 h3=>⟨h1,h2,?_⟩,o.t1,o.t2,o.ox,o.nx,o.g0⟩
 have n2:c≠x:=fun e=>by
  have:=o.pr.dn y c hc
  rw[e,o.ox.2.2]at this
  exact this.2.1 this.1.symm
 by_cases n1:y=x
 ·rw[n1]at h3 ⊢
  exact ex c h2 n2 h3
 ·rw[el _ _ (by omega) h2 n1 n2];exact h3
theorem TK.TH(t:TK hm lt ch par T)(hu:par x= -1)(el:∀a b,0<hm a→0<hm b→a≠x→b≠x→lt' a b=lt a b)(ex:∀b,0<hm b→b≠x→lt x b=true→lt' x b=true):TK hm lt' ch par T:=by
 have key:Pr hm lt' ch par:=t.pr.other t.pr.h0 fun y c hc h1 h2 h3=>⟨h1,h2,by
  have n2:c≠x:=fun e=>by
   have:=t.pr.dn y c hc
   rw[e,hu]at this
   exact this.2.1 this.1.symm
  by_cases n1:y=x
  ·rw[n1]at h3 ⊢
   exact ex c h2 n2 h3
  ·rw[el _ _ (by omega) h2 n1 n2];exact h3⟩
 exact⟨key,fun c y hc hy=>(key.dn y c (key.up c y hc hy)).2.2,t.tp.t1,t.tp.t2⟩
theorem Pr.Wk(q:Pr hm lt ch par)(hx:0<hm x):Dt hm lt (hm x) (fun y=>0<hm y∧par y= -1) (ay ch x []) (ay ch x []) (fx ch par x) (ch x):=by
 refine⟨q.bare x,q.nd x,fun y hy=>⟨q.ne hy,(q.dn x y hy).2.2.1.symm,by unfold fx;rw[if_pos hy]⟩,fun y hy=>?_,fun y hy=>⟨hy.1,fun h=>?_⟩,fun _ _=>rfl,hx⟩
 ·unfold fx
  split
  ·rename_i h;exact⟨fun _=>.inl h,fun _=>rfl⟩
  ·rename_i h;exact⟨fun h2=>.inr ⟨hy,h2⟩,fun h2=>(h2.resolve_left h).2⟩
 ·have:=q.dn x y h
  rw[hy.2]at this
  exact this.2.1 this.1.symm
theorem Dt.drop{W:List Int}(m:Dt hm lt g R GY ch par W)(hx:R x)(hc:ch x=[])(hp:par x= -1)(h0:hm' (-1)=0)(e1:hm' x=0)(e2:∀y,y≠x→hm' y=hm y)(el:∀a b,0<hm a→0<hm b→a≠x→b≠x→lt' a b=lt a b):
  Dt hm' lt' g (fun y=>R y∧y≠x) GY ch par W:=by
 have nx:∀y c,c∈ch y→y≠x∧c≠x:=fun y c Jc=>by
  refine⟨fun e=>?_,fun e=>?_⟩
  ·rw[e,hc]at Jc;cases Jc
  ·have:=m.pr.dn y c Jc
   rw[e,hp]at this
   exact this.2.1 this.1.symm
 have hW:=(m.nr x hx).2
 refine⟨m.pr.other h0 fun y c Jc h1 h2 h3=>?_,m.nd,fun y hy=>?_,fun y hy=>?_,fun y hy=>⟨?_,(m.nr y hy.1).2⟩,fun y hy=>m.fr y hy.1,m.g0⟩
 ·obtain⟨n1,n2⟩:=nx y c Jc
  rw[e2 _ n1,e2 _ n2,el _ _ (by omega) h2 n1 n2]
  exact⟨h1,h2,h3⟩
 ·obtain⟨h1,h2,h3⟩:=m.wm y hy
  exact⟨h1,by rw[e2 _ (fun e=>hW (e▸hy))];exact h2,h3⟩
 ·have aP:y≠x:=fun e=>by rw[e,e1]at hy;omega
  rw[e2 _ aP]at hy
  rw[m.jy y hy]
  exact⟨fun h=>h.imp_right fun h=>⟨h,aP⟩,fun h=>h.imp_right fun h=>h.1⟩
 ·rw[e2 _ hy.2];exact(m.nr y hy.1).1
theorem Dt.cD(m:Dt hm lt g R GY ch par W){t:Int}(ht:t≠ -1→R t∧hm t=g):Dt hm lt g (fun y=>R y∧y≠t) GY ch par (ws [t]++W):=by
 rw[dZ]
 by_cases h:t= -1
 ·rw[if_pos h,apk]
  refine⟨m.pr,m.nd,m.wm,fun x hx=>?_,fun x hx=>m.nr x hx.1,fun x hx=>m.fr x hx.1,m.g0⟩
  rw[m.jy x hx]
  have hn:x≠t:=fun e=>by rw[e,h,m.pr.h0]at hx;omega
  exact⟨fun h=>h.imp_right fun h=>⟨h,hn⟩,fun h=>h.imp_right fun h=>h.1⟩
 ·obtain⟨h1,h2⟩:=ht h
  obtain⟨h3,h4⟩:=m.nr t h1
  rw[if_neg h]
  refine⟨m.pr,aoB.2 ⟨h4,m.nd⟩,fun x hx=>?_,fun x hx=>?_,fun x hx=>⟨(m.nr x hx.1).1,fun h=>?_⟩,fun x hx=>m.fr x hx.1,m.g0⟩
  ·rcases aot.1 hx with rfl|hx
   ·exact⟨h,h2,(m.jy _ h3).2 (.inr h1)⟩
   ·exact m.wm x hx
  ·rw[m.jy x hx]
   constructor
   ·rintro(h|h)
    ·exact .inl (aoQ _ h)
    ·by_cases e:x=t
     ·exact .inl (by rw[e];exact ao5)
     ·exact .inr ⟨h,e⟩
   ·rintro(h|h)
    ·rcases aot.1 h with rfl|h
     ·exact .inr h1
     ·exact .inl h
    ·exact .inr h.1
  ·rcases aot.1 h with h|h
   ·exact hx.2 h
   ·exact(m.nr x hx.1).2 h
end
end Go.Proofs.YtjlnnljohemifaaGreat

namespace Go.Proofs.YtjlnnljohemifaaGreat
section
variable {nx OE : Int → Int} {a b x y z : Int} {r s l l1 l2 A B : List Int}
def mA(nx:Int→Int):Int→List Int→Int→Prop
 |a,[],z=>nx a=z
 |a,b::r,z=>nx a=b∧mA nx b r z
def vz(nx:Int→Int):List Int→Prop
 | []=>True
 |a::r=>mA nx a r a
theorem mA.YZ:∀ {r:List Int} {a:Int},mA nx a (r++b::s) z↔mA nx a r b∧mA nx b s z:=by
 intro r
 induction r with
 |nil=>intro a;exact Iff.rfl
 |cons c r ih=>
  intro a
  constructor
  ·rintro⟨h1,h2⟩
   obtain⟨h3,h4⟩:=ih.1 h2
   exact⟨⟨h1,h3⟩,h4⟩
  ·rintro⟨⟨h1,h2⟩,h3⟩
   exact⟨h1,ih.2 ⟨h2,h3⟩⟩
theorem mA.first:∀ {r:List Int} {a a':Int},mA nx a r z→OE a'=nx a→(∀c∈r,OE c=nx c)→mA OE a' r z:=by
 intro r
 induction r with
 |nil=>intro a a' h h1 _;exact h1.trans h
 |cons c r ih=>
  intro a a' h h1 h2
  exact⟨h1.trans h.1,ih h.2 (h2 c (by simp)) fun d hd=>h2 d (by simp[hd])⟩
theorem vz.frame(h:vz nx l)(hk:∀c∈l,OE c=nx c):vz OE l:=by
 cases l with
 |nil=>trivial
 |cons a r=>exact mA.first h (hk a (by simp)) fun c hc=>hk c (by simp[hc])
theorem vz.rot(h:vz nx (l1++l2)):vz nx (l2++l1):=by
 cases l1 with
 |nil=>simpa using h
 |cons a r=>
  cases l2 with
  |nil=>simpa using h
  |cons b s=>
   have h1:mA nx a (r++b::s) a:=h
   obtain⟨h2,h3⟩:=mA.YZ.1 h1
   exact mA.YZ.2 ⟨h3,h2⟩
theorem vz.from(h:vz nx l)(hx:x∈l):∃A,l.Perm (x::A)∧vz nx (x::A):=by
 obtain⟨l1,l2,rfl⟩:=List.append_of_mem hx
 refine⟨l2++l1,?_,h.rot⟩
 exact apf (l₁:=l1) (l₂:=x::l2)
def yy(nx:Int→Int)(x y:Int):Int→Int:=fun z=>if z=x then nx y else if z=y then nx x else nx z
theorem OF:yy nx x y x=nx y:=by unfold yy;rw[if_pos rfl]
theorem OG:yy nx x y y=nx x:=by
 unfold yy
 by_cases h:y=x
 ·rw[if_pos h,h]
 ·rw[if_neg h,if_pos rfl]
theorem lS(h1:z≠x)(h2:z≠y):yy nx x y z=nx z:=by unfold yy;rw[if_neg h1,if_neg h2]
theorem vz.aM(h:vz nx l)(hx:x∉l)(hy:y∉l):vz (yy nx x y) l:=h.frame fun c hc=>lS (fun e=>hx (e▸hc)) (fun e=>hy (e▸hc))
theorem vz.join(h1:vz nx (x::A))(h2:vz nx (y::B))(hn:((x::A)++(y::B)).Nodup):vz (yy nx x y) (x::B++y::A):=by
 obtain⟨n1,n2,n3⟩:=ao2.1 hn
 have a1:=(aoB.1 n1).1
 have b1:=(aoB.1 n2).1
 have hA:∀c∈A,yy nx x y c=nx c:=fun c hc=>lS (fun e=>a1 (e▸hc)) (fun e=>n3 c (by simp[hc]) y (by simp) e)
 have hB:∀c∈B,yy nx x y c=nx c:=fun c hc=>lS (fun e=>n3 x (by simp) c (by simp[hc]) e.symm) (fun e=>b1 (e▸hc))
 exact mA.YZ.2 ⟨mA.first h2 OF hB,mA.first h1 OG hA⟩
theorem vz.part(h:vz nx (x::A++[y]))(hn:(x::A++[y]).Nodup):yy nx x y x=x∧vz (yy nx x y) (y::A):=by
 have Ds:=aoB.1 (show(x::(A++[y])).Nodup from hn)
 obtain⟨n1,n2,n3⟩:=ao2.1 Ds.2
 have h0:mA nx x (A++[y]) x:=h
 obtain⟨h1,h2⟩:=mA.YZ.1 h0
 have hA:∀c∈A,yy nx x y c=nx c:=fun c hc=>lS (fun e=>Ds.1 (by rw[←e];simp[hc])) (fun e=>n3 c hc y (by simp) e)
 exact⟨OF.trans h2,mA.first h1 OG hA⟩
theorem KG:yy nx x x=nx:=by
 funext z
 unfold yy
 split
 ·rename_i e;rw[e]
 ·rfl
structure Af(nx pv:Int→Int):Prop where
 pn:∀x,pv (nx x)=x
 np:∀x,nx (pv x)=x
def TL(nx pv:Int→Int)(x y:Int):Int→Int:=fun z=>if z=nx x then y else if z=nx y then x else pv z
theorem Af.yy{pv:Int→Int}(h:Af nx pv)(x y:Int):Af (yy nx x y) (TL nx pv x y):=by
 have inj:∀u v,nx u=nx v→u=v:=fun u v e=>by rw[←h.pn u,e,h.pn]
 constructor
 ·intro z
  unfold TL
  by_cases h1:z=x
  ·rw[h1,OF]
   by_cases h2:nx y=nx x
   ·rw[if_pos h2,inj _ _ h2]
   ·rw[if_neg h2,if_pos rfl]
  ·by_cases h2:z=y
   ·rw[h2,OG,if_pos rfl]
   ·rw[lS h1 h2,if_neg (fun e=>h1 (inj _ _ e)),if_neg (fun e=>h2 (inj _ _ e)),h.pn]
 ·intro z
  unfold TL
  by_cases h1:z=nx x
  ·rw[if_pos h1,OG,h1]
  ·rw[if_neg h1]
   by_cases h2:z=nx y
   ·rw[if_pos h2,OF,h2]
   ·rw[if_neg h2,lS (fun e=>h1 (by rw[←e,h.np])) (fun e=>h2 (by rw[←e,h.np])),h.np]
theorem vz.last{pv:Int→Int}(h:Af nx pv)(hc:vz nx (x::A++[y])):pv x=y:=by
 have h0:mA nx x (A++[y]) x:=hc
 have h1:nx y=x:=(mA.YZ.1 h0).2
 rw[←h1,h.pn]
variable {hm hm' : Int → Int} {lt lt' : Int → Int → Bool} {ch : Int → List Int} {par : Int → Int} {ax : Int → List Int} {W : List Int}
structure dP(hm:Int→Int)(lt:Int→Int→Bool)(nx:Int→Int)(ch:Int→List Int)(par:Int→Int)(ax:Int→List Int)(W:List Int):Prop where
 pr:Pr hm lt ch par
 cy:∀x,vz nx (ch x)
 rc:∀h,vz nx (ax h)
 rn:∀h,(ax h).Nodup
 rm:∀h c,c∈ax h→hm c=h∧par c= -1∧0<h∧c∉W
 wn:W.Nodup
 wm:∀c∈W,nx c=c∧par c= -1∧0<hm c
 jy:∀c,0<hm c→par c= -1→c∈ax (hm c)∨c∈W
 lone:∀c,hm c≤0→nx c=c
theorem dP.Y0(m:dP hm lt nx ch par ax W){c:Int}(h:c∈W):c≠ -1:=fun e=>by
 have:=(m.wm c h).2.2
 rw[e,m.pr.h0]at this
 omega
theorem dP.rne(m:dP hm lt nx ch par ax W){c h:Int}(hc:c∈ax h):c≠ -1:=fun e=>by
 obtain⟨h1,_,h2,_⟩:=m.rm h c hc
 rw[e,m.pr.h0]at h1
 omega
theorem dP.MR(m:dP hm lt nx ch par ax W){c x:Int}(hc:c∈ch x):(∀h,c∉ax h)∧c∉W:=by
 have h1:=m.pr.dn x c hc
 refine⟨fun h hh=>?_,fun hw=>?_⟩
 ·have:=(m.rm h c hh).2.1
  rw[h1.1]at this
  exact h1.2.1 this
 ·have:=(m.wm c hw).2.1
  rw[h1.1]at this
  exact h1.2.1 this
theorem dP.perm{W':List Int}(m:dP hm lt nx ch par ax W)(h:W.Perm W'):dP hm lt nx ch par ax W':=
 ⟨m.pr,m.cy,m.rc,m.rn,fun g c hc=>by obtain⟨h1,h2,h3,h4⟩:=m.rm g c hc;exact⟨h1,h2,h3,fun hw=>h4 (h.mem_iff.2 hw)⟩,h.nodup_iff.1 m.wn,fun c hc=>m.wm c (h.mem_iff.2 hc),fun c h1 h2=>(m.jy c h1 h2).imp_right h.mem_iff.1,m.lone⟩
theorem dP.sY(m:dP hm lt nx ch par ax W){g:Int}{l:List Int}(hp:(ax g).Perm l)(hc:vz nx l):dP hm lt nx ch par (ay ax g l) W:=by
 refine⟨m.pr,m.cy,fun h=>?_,fun h=>?_,fun h c hh=>?_,m.wn,m.wm,fun c h1 h2=>?_,m.lone⟩
 ·unfold ay;split
  ·exact hc
  ·exact m.rc h
 ·unfold ay;split
  ·exact hp.nodup_iff.1 (m.rn g)
  ·exact m.rn h
 ·unfold ay at hh
  split at hh
  ·rename_i e
   rw[e]
   exact m.rm g c (hp.mem_iff.2 hh)
  ·exact m.rm h c hh
 ·unfold ay
  split
  ·rename_i e
   have:=m.jy c h1 h2
   rw[e]at this
   exact this.imp_left hp.mem_iff.1
  ·exact m.jy c h1 h2
theorem dP.Rf(m:dP hm lt nx ch par ax (x::W)){t:Int}{A:List Int}(hr:ax (hm x)=t::A):dP hm lt (yy nx t x) ch par (ay ax (hm x) (t::x::A)) W:=by
 obtain⟨x1,x2,x3⟩:=m.wm x (by simp)
 have hxW:=(aoB.1 m.wn).1
 have ht:=m.rm (hm x) t (by rw[hr];simp)
 have htx:t≠x:=fun e=>ht.2.2.2 (by rw[e];simp)
 have nr:∀h,x∉ax h:=fun h hh=>(m.rm h x hh).2.2.2 (by simp)
 have tr:∀h,t∈ax h→h=hm x:=fun h hh=>by rw[← (m.rm h t hh).1,ht.1]
 refine⟨m.pr,fun y=>(m.cy y).aM (fun h=>?_) (fun h=>?_),fun h=>?_,fun h=>?_,fun h c hh=>?_,(aoB.1 m.wn).2,fun c hc=>?_,fun c h1 h2=>?_,fun c hc=>?_⟩
 ·exact(m.MR h).1 (hm x) (by rw[hr];simp)
 ·exact(m.MR h).2 (by simp)
 ·unfold ay
  split
  ·have h1:=m.rc (hm x)
   rw[hr]at h1
   have h2:vz nx [x]:=x1
   refine h1.join h2 ?_
   rw[ao2]
   have hn:=m.rn (hm x)
   rw[hr]at hn
   refine⟨hn,by simp,fun u hu v hv e=>?_⟩
   rw[aoq]at hv
   exact nr (hm x) (by rw[hr,←hv,←e];exact hu)
  ·rename_i e
   exact(m.rc h).aM (fun hh=>e (tr h hh)) (nr h)
 ·unfold ay
  split
  ·have hn:=m.rn (hm x)
   have h2:=nr (hm x)
   rw[hr]at hn h2
   rw[aoB]at hn ⊢
   rw[aoB]
   simp only[aot,not_or]at h2 ⊢
   exact⟨⟨htx,hn.1⟩,h2.2,hn.2⟩
  ·exact m.rn h
 ·unfold ay at hh
  split at hh
  ·rename_i e
   by_cases fu:c=x
   ·rw[fu,e];exact⟨rfl,x2,x3,hxW⟩
   ·have sC:c∈ax (hm x):=by
     rw[hr]
     simp only[aot]at hh ⊢
     rcases hh with h|h|h
     ·exact .inl h
     ·exact absurd h fu
     ·exact .inr h
    obtain⟨h1,h2,h3,h4⟩:=m.rm _ c sC
    rw[e]
    exact⟨h1,h2,h3,fun h=>h4 (by simp[h])⟩
  ·obtain⟨h1,h2,h3,h4⟩:=m.rm h c hh
   exact⟨h1,h2,h3,fun h=>h4 (by simp[h])⟩
 ·obtain⟨h1,h2,h3⟩:=m.wm c (by simp[hc])
  refine⟨?_,h2,h3⟩
  rw[lS]
  ·exact h1
  ·rintro rfl;exact ht.2.2.2 (by simp[hc])
  ·rintro rfl;exact hxW hc
 ·unfold ay
  rcases m.jy c h1 h2 with h|h
  ·split
   ·rename_i e
    rw[e,hr]at h
    refine .inl ?_
    simp only[aot]at h ⊢
    exact h.imp_right .inr
   ·exact .inl h
  ·rcases aot.1 h with rfl|h
   ·rw[if_pos rfl]
    exact .inl (by simp)
   ·exact .inr h
 ·rw[lS]
  ·exact m.lone c hc
  ·rintro rfl;omega
  ·rintro rfl;omega
theorem dP.aal(m:dP hm lt nx ch par ax (x::W))(hr:ax (hm x)=[]):dP hm lt nx ch par (ay ax (hm x) [x]) W:=by
 obtain⟨x1,x2,x3⟩:=m.wm x (by simp)
 have hxW:=(aoB.1 m.wn).1
 refine⟨m.pr,m.cy,fun h=>?_,fun h=>?_,fun h c hh=>?_,(aoB.1 m.wn).2,fun c hc=>m.wm c (by simp[hc]),fun c h1 h2=>?_,m.lone⟩
 ·unfold ay;split
  ·exact x1
  ·exact m.rc h
 ·unfold ay;split
  ·simp
  ·exact m.rn h
 ·unfold ay at hh
  split at hh
  ·rename_i e
   rw[aoq]at hh
   rw[hh,e];exact⟨rfl,x2,x3,hxW⟩
  ·obtain⟨h1,h2,h3,h4⟩:=m.rm h c hh
   exact⟨h1,h2,h3,fun h=>h4 (by simp[h])⟩
 ·unfold ay
  rcases m.jy c h1 h2 with h|h
  ·split
   ·rename_i e;rw[e,hr]at h;cases h
   ·exact .inl h
  ·rcases aot.1 h with rfl|h
   ·rw[if_pos rfl]
    exact .inl (by simp)
   ·exact .inr h
theorem dP.aam(m:dP hm lt nx ch par ax W){g y:Int}{A:List Int}(hr:ax g=x::A++[y]):dP hm lt (yy nx x y) ch par (ay ax g (y::A)) (x::W):=by
 obtain⟨x1,x2,x3,x4⟩:=m.rm g x (by rw[hr];simp)
 obtain⟨y1,y2,y3,y4⟩:=m.rm g y (by rw[hr];simp)
 have hc:=m.rc g
 have hn:=m.rn g
 rw[hr]at hc hn
 obtain⟨p1,p2⟩:=hc.part hn
 have Ds:=aoB.1 (show(x::(A++[y])).Nodup from hn)
 have hp:(A++[y]).Perm (y::A):=apf (l₁:=A) (l₂:=[y])
 have er:∀h c,c∈ax h→(c=x∨c=y)→h=g:=fun h c hh he=>by
  rw[← (m.rm h c hh).1]
  rcases he with rfl|rfl
  ·exact x1
  ·exact y1
 refine⟨m.pr,fun z=>(m.cy z).aM (fun h=>(m.MR h).1 g (by rw[hr];simp)) (fun h=>(m.MR h).1 g (by rw[hr];simp)),fun h=>?_,fun h=>?_,fun h c hh=>?_,aoB.2 ⟨x4,m.wn⟩,fun c Jd=>?_,fun c h1 h2=>?_,fun c hc=>?_⟩
 ·unfold ay
  split
  ·exact p2
  ·rename_i e
   exact(m.rc h).aM (fun hh=>e (er h x hh (.inl rfl))) (fun hh=>e (er h y hh (.inr rfl)))
 ·unfold ay
  split
  ·exact hp.nodup_iff.1 Ds.2
  ·exact m.rn h
 ·unfold ay at hh
  split at hh
  ·rename_i e
   have sC:c∈A++[y]:=hp.mem_iff.2 hh
   obtain⟨h1,h2,h3,h4⟩:=m.rm g c (by rw[hr];exact aoQ _ sC)
   rw[e]
   refine⟨h1,h2,h3,fun h=>?_⟩
   rcases aot.1 h with rfl|h
   ·exact Ds.1 sC
   ·exact h4 h
  ·rename_i e
   obtain⟨h1,h2,h3,h4⟩:=m.rm h c hh
   refine⟨h1,h2,h3,fun hw=>?_⟩
   rcases aot.1 hw with rfl|hw
   ·exact e (er h c hh (.inl rfl))
   ·exact h4 hw
 ·rcases aot.1 Jd with rfl|hw
  ·exact⟨p1,x2,by omega⟩
  ·obtain⟨h1,h2,h3⟩:=m.wm c hw
   refine⟨?_,h2,h3⟩
   rw[lS (z:=c) (fun e=>x4 (by rw[←e];exact hw)) (fun e=>y4 (by rw[←e];exact hw))]
   exact h1
 ·unfold ay
  rcases m.jy c h1 h2 with h|h
  ·split
   ·rename_i e
    rw[e,hr]at h
    rcases aot.1 h with rfl|h
    ·exact .inr (by simp)
    ·exact .inl (hp.mem_iff.1 h)
   ·exact .inl h
  ·exact .inr (by simp[h])
 ·rw[lS]
  ·exact m.lone c hc
  ·rintro rfl;omega
  ·rintro rfl;omega
theorem dP.aan(m:dP hm lt nx ch par ax W){g:Int}(hr:ax g=[x]):dP hm lt nx ch par (ay ax g []) (x::W):=by
 obtain⟨x1,x2,x3,x4⟩:=m.rm g x (by rw[hr];simp)
 have hc:=m.rc g
 rw[hr]at hc
 refine⟨m.pr,m.cy,fun h=>?_,fun h=>?_,fun h c hh=>?_,aoB.2 ⟨x4,m.wn⟩,fun c sC=>?_,fun c h1 h2=>?_,m.lone⟩
 ·unfold ay;split
  ·trivial
  ·exact m.rc h
 ·unfold ay;split
  ·exact aps
  ·exact m.rn h
 ·unfold ay at hh
  split at hh
  ·cases hh
  ·rename_i e
   obtain⟨h1,h2,h3,h4⟩:=m.rm h c hh
   refine⟨h1,h2,h3,fun hw=>?_⟩
   rcases aot.1 hw with rfl|hw
   ·exact e (by rw[←h1,x1])
   ·exact h4 hw
 ·rcases aot.1 sC with rfl|sC
  ·exact⟨hc,x2,by omega⟩
  ·exact m.wm c sC
 ·unfold ay
  rcases m.jy c h1 h2 with h|h
  ·split
   ·rename_i e
    rw[e,hr,aoq]at h
    exact .inr (by simp[h])
   ·exact .inl h
  ·exact .inr (by simp[h])
theorem Pr.Rg(q:Pr hm lt ch par){l:List Int}(h:(ch x).Perm l):Pr hm lt (ay ch x l) par:=by
 refine⟨q.h0,fun y c hc=>?_,fun c y hc hy=>?_,fun y=>?_⟩
 ·unfold ay at hc
  split at hc
  ·rename_i e
   rw[e];exact q.dn x c (h.mem_iff.2 hc)
  ·exact q.dn y c hc
 ·have:=q.up c y hc hy
  unfold ay
  split
  ·rename_i e
   rw[e]at this
   exact h.mem_iff.1 this
  ·exact this
 ·unfold ay
  split
  ·exact h.nodup_iff.1 (q.nd x)
  ·exact q.nd y
theorem eB(ch:Int→List Int)(x:Int)(l l':List Int):ay (ay ch x l) x l'=ay ch x l':=by
 funext y
 unfold ay
 split<;>rfl
theorem Iy(ch:Int→List Int)(x b:Int)(l:List Int):ay (mT ch x b) x l=ay ch x l:=by
 funext y
 unfold ay mT
 split<;>rfl
theorem dP.aao(m:dP hm lt nx ch par ax W){l:List Int}(hp:(ch x).Perm l)(hc:vz nx l):dP hm lt nx (ay ch x l) par ax W:=by
 refine⟨m.pr.Rg hp,fun y=>?_,m.rc,m.rn,m.rm,m.wn,m.wm,m.jy,m.lone⟩
 unfold ay
 split
 ·exact hc
 ·exact m.cy y
theorem dP.Wl(m:dP hm lt nx ch par ax (x::y::W))(hh:hm x=hm y)(hl:lt x y=true)(hc:ch x=[]):dP hm lt nx (ay ch x [y]) (aH par y x) ax (x::W):=by
 obtain⟨x1,x2,x3⟩:=m.wm x (by simp)
 obtain⟨y1,y2,y3⟩:=m.wm y (by simp)
 have Du:=m.Y0 (c:=x) (by simp)
 have hn:=m.wn
 simp only[aoB,aot,not_or]at hn
 have pu:∀c,c≠y→aH par y x c=par c:=fun c h=>by unfold aH;rw[if_neg h]
 have q:=m.pr.link Du y2 hh y3 hl
 have e1:mT ch x y=ay ch x [y]:=by
  funext z
  unfold mT ay
  split
  ·rw[hc]
  ·rfl
 rw[e1]at q
 refine⟨q,fun z=>?_,m.rc,m.rn,fun h c hc=>?_,aoB.2 ⟨hn.1.2,hn.2.2⟩,fun c hc=>?_,fun c h1 h2=>?_,m.lone⟩
 ·unfold ay
  split
  ·exact y1
  ·exact m.cy z
 ·obtain⟨h1,h2,h3,h4⟩:=m.rm h c hc
  simp only[aot,not_or]at h4
  exact⟨h1,by rw[pu c h4.2.1];exact h2,h3,by simp[h4.1,h4.2.2]⟩
 ·have yz:c≠y:=fun e=>by
   rw[e]at hc
   rcases aot.1 hc with h|h
   ·exact hn.1.1 h.symm
   ·exact hn.2.1 h
  obtain⟨h1,h2,h3⟩:=m.wm c (by rcases aot.1 hc with h|h;simp[h];simp[h])
  exact⟨h1,by rw[pu c yz];exact h2,h3⟩
 ·have yz:c≠y:=fun e=>by
   rw[e]at h2
   unfold aH at h2
   rw[if_pos rfl]at h2
   exact Du h2
  rw[pu c yz]at h2
  refine(m.jy c h1 h2).imp_right fun h=>?_
  simp only[aot]at h ⊢
  rcases h with h|h|h
  ·exact .inl h
  ·exact absurd h yz
  ·exact .inr h
theorem dP.under(m:dP hm lt nx ch par ax (x::y::W))(hh:hm x=hm y)(hl:lt x y=true){k:Int}{K:List Int}(hc:ch x=k::K):dP hm lt (yy nx k y) (ay ch x (y::K++[k])) (aH par y x) ax (x::W):=by
 obtain⟨x1,x2,x3⟩:=m.wm x (by simp)
 obtain⟨y1,y2,y3⟩:=m.wm y (by simp)
 have Du:=m.Y0 (c:=x) (by simp)
 have hn:=m.wn
 simp only[aoB,aot,not_or]at hn
 have hk:=m.MR (c:=k) (x:=x) (by rw[hc];simp)
 have z6:=m.pr.dn x k (by rw[hc];simp)
 have yr:∀h,y∉ax h:=fun h hh=>(m.rm h y hh).2.2.2 (by simp)
 have yc:∀z,y∉ch z:=fun z h=>(m.MR h).2 (by simp)
 have kc:∀z,k∈ch z→z=x:=fun z h=>by rw[← (m.pr.dn z k h).1,z6.1]
 have pu:∀c,c≠y→aH par y x c=par c:=fun c h=>by unfold aH;rw[if_neg h]
 have q:=m.pr.link Du y2 hh y3 hl
 have q2:=q.Rg (x:=x) (l:=y::K++[k]) (by
  unfold mT
  rw[if_pos rfl,hc]
  exact(apf (l₁:=[k]) (l₂:=K)).cons y)
 rw[Iy]at q2
 have cyc:vz (yy nx k y) (y::K++[k]):=by
  have h1:=m.cy x
  rw[hc]at h1
  have gA:=m.pr.nd x
  have hy:=yc x
  rw[hc]at gA hy
  have h3:=h1.join (y:=y) (B:=[]) y1 (by
   rw[ao2]
   refine⟨gA,by simp,fun u hu v hv e=>?_⟩
   rw[aoq]at hv
   exact hy (by rw[←hv,←e];exact hu))
  exact vz.rot (l1:=[k]) (l2:=y::K) h3
 refine⟨q2,fun z=>?_,fun h=>(m.rc h).aM (hk.1 h) (yr h),m.rn,fun h c hc=>?_,aoB.2 ⟨hn.1.2,hn.2.2⟩,fun c hc=>?_,fun c h1 h2=>?_,fun c sC=>?_⟩
 ·unfold ay
  split
  ·exact cyc
  ·rename_i e
   exact(m.cy z).aM (fun h=>e (kc z h)) (yc z)
 ·obtain⟨h1,h2,h3,h4⟩:=m.rm h c hc
  simp only[aot,not_or]at h4
  exact⟨h1,by rw[pu c h4.2.1];exact h2,h3,by simp[h4.1,h4.2.2]⟩
 ·have yz:c≠y:=fun e=>by
   rw[e]at hc
   rcases aot.1 hc with h|h
   ·exact hn.1.1 h.symm
   ·exact hn.2.1 h
  have hcW:c∈x::y::W:=by rcases aot.1 hc with h|h;simp[h];simp[h]
  obtain⟨h1,h2,h3⟩:=m.wm c hcW
  refine⟨?_,by rw[pu c yz];exact h2,h3⟩
  rw[lS (fun e=>hk.2 (by rw[←e];exact hcW)) yz]
  exact h1
 ·have yz:c≠y:=fun e=>by
   rw[e]at h2
   unfold aH at h2
   rw[if_pos rfl]at h2
   exact Du h2
  rw[pu c yz]at h2
  refine(m.jy c h1 h2).imp_right fun h=>?_
  simp only[aot]at h ⊢
  rcases h with h|h|h
  ·exact .inl h
  ·exact absurd h yz
  ·exact .inr h
 ·rw[lS (fun e=>by rw[e]at sC;omega) (fun e=>by rw[e]at sC;omega)]
  exact m.lone c sC
theorem dP.raise(m:dP hm lt nx ch par ax W){g k:Int}{K:List Int}(hr:ax g=x::A)(hc:ch x=k::K):dP hm lt (yy nx x k) (ay ch x []) (fx ch par x) (ay ax g (x::K++k::A)) W:=by
 obtain⟨x1,x2,x3,x4⟩:=m.rm g x (by rw[hr];simp)
 have gf:x≠ -1:=m.rne (h:=g) (by rw[hr];simp)
 have hk:=m.MR (c:=k) (x:=x) (by rw[hc];simp)
 have z6:=m.pr.dn x k (by rw[hc];simp)
 have pD:∀c,c∈ch x→hm c=g∧0<hm c:=fun c h=>by have:=m.pr.dn x c h;exact⟨by rw[←this.2.2.1,x1],this.2.2.2.1⟩
 have xc:∀z,x∉ch z:=fun z h=>(m.MR h).1 g (by rw[hr];simp)
 have kc:∀z,k∈ch z→z=x:=fun z h=>by rw[← (m.pr.dn z k h).1,z6.1]
 have xr:∀h,x∈ax h→h=g:=fun h hh=>by rw[← (m.rm h x hh).1,x1]
 have hnA:=m.rn g
 rw[hr]at hnA
 have hnK:=m.pr.nd x
 rw[hc]at hnK
 have aap:((x::A)++(k::K)).Nodup:=by
  rw[ao2]
  refine⟨hnA,hnK,fun u hu v hv e=>?_⟩
  exact(m.MR (c:=v) (x:=x) (by rw[hc];exact hv)).1 g (by rw[hr,←e];exact hu)
 have vA:((x::A)++(k::K)).Perm (x::K++k::A):=by
  refine List.Perm.cons x ?_
  refine(apf (l₁:=A) (l₂:=k::K)).trans ?_
  exact apY.symm
 have kE:=m.rc g
 rw[hr]at kE
 have hck:=m.cy x
 rw[hc]at hck
 refine⟨m.pr.bare x,fun z=>?_,fun h=>?_,fun h=>?_,fun h c hh=>?_,m.wn,fun c Jd=>?_,fun c h1 h2=>?_,fun c nU=>?_⟩
 ·unfold ay
  split
  ·trivial
  ·rename_i e
   exact(m.cy z).aM (xc z) (fun h=>e (kc z h))
 ·unfold ay
  split
  ·exact kE.join hck aap
  ·rename_i e
   exact(m.rc h).aM (fun hh=>e (xr h hh)) (hk.1 h)
 ·unfold ay
  split
  ·exact vA.nodup_iff.1 aap
  ·exact m.rn h
 ·unfold ay at hh
  unfold fx
  split at hh
  ·rename_i e
   rw[e]
   have hm2:=vA.mem_iff.2 hh
   rcases aou.1 hm2 with h5|h5
   ·obtain⟨h1,h2,h3,h4⟩:=m.rm g c (by rw[hr];exact h5)
    refine⟨h1,?_,h3,h4⟩
    split
    ·rfl
    ·exact h2
   ·have h6:c∈ch x:=by rw[hc];exact h5
    obtain⟨h7,h8⟩:=pD c h6
    rw[if_pos h6]
    exact⟨h7,rfl,by omega,(m.MR h6).2⟩
  ·obtain⟨h1,h2,h3,h4⟩:=m.rm h c hh
   refine⟨h1,?_,h3,h4⟩
   split
   ·rfl
   ·exact h2
 ·obtain⟨h1,h2,h3⟩:=m.wm c Jd
  refine⟨?_,?_,h3⟩
  ·rw[lS (fun e=>x4 (by rw[←e];exact Jd)) (fun e=>hk.2 (by rw[←e];exact Jd))]
   exact h1
  ·unfold fx
   split
   ·rfl
   ·exact h2
 ·unfold fx at h2
  unfold ay
  by_cases h6:c∈ch x
  ·rw[if_pos (pD c h6).1]
   refine .inl (vA.mem_iff.1 (ape _ ?_))
   rw[←hc];exact h6
  ·rw[if_neg h6]at h2
   rcases m.jy c h1 h2 with h|h
   ·refine .inl ?_
    split
    ·rename_i e
     rw[e,hr]at h
     exact vA.mem_iff.1 (aoy _ h)
    ·exact h
   ·exact .inr h
 ·rw[lS (fun e=>by rw[e,x1]at nU;omega) (fun e=>by have:=(pD k (by rw[hc];simp)).2;rw[e]at nU;omega)]
  exact m.lone c nU
theorem dP.off(m:dP hm lt nx ch par ax W){p:Int}(hc:ch p=x::A++[y]):dP hm lt (yy nx x y) (ay ch p (A++[y])) (aH par x (-1)) ax (x::W):=by
 have hx:=m.pr.dn p x (by rw[hc];simp)
 have hy:=m.pr.dn p y (by rw[hc];simp)
 have OE:=m.MR (c:=x) (x:=p) (by rw[hc];simp)
 have ny':=m.MR (c:=y) (x:=p) (by rw[hc];simp)
 have pu:∀c,c≠x→aH par x (-1) c=par c:=fun c h=>by unfold aH;rw[if_neg h]
 have yz:=m.cy p
 have gA:=m.pr.nd p
 rw[hc]at yz gA
 obtain⟨p1,p2⟩:=yz.part gA
 have q:=m.pr.off (l1:=[]) (l2:=A++[y]) (x:=x) (p:=p) (by rw[hc];rfl)
 refine⟨q,fun z=>?_,fun h=>(m.rc h).aM (OE.1 h) (ny'.1 h),m.rn,fun h c hh=>?_,aoB.2 ⟨OE.2,m.wn⟩,fun c Jd=>?_,fun c h1 h2=>?_,fun c nU=>?_⟩
 ·unfold ay
  split
  ·exact vz.rot (l1:=[y]) (l2:=A) p2
  ·rename_i e
   exact(m.cy z).aM (fun h=>e (by rw[← (m.pr.dn z x h).1,hx.1])) (fun h=>e (by rw[← (m.pr.dn z y h).1,hy.1]))
 ·obtain⟨h1,h2,h3,h4⟩:=m.rm h c hh
  have fu:c≠x:=fun e=>OE.1 h (by rw[←e];exact hh)
  exact⟨h1,by rw[pu c fu];exact h2,h3,by simp[fu,h4]⟩
 ·rcases aot.1 Jd with e|hw
  ·rw[e]
   exact⟨p1,by unfold aH;rw[if_pos rfl],hx.2.2.2.1⟩
  ·obtain⟨h1,h2,h3⟩:=m.wm c hw
   have fu:c≠x:=fun e=>OE.2 (by rw[←e];exact hw)
   refine⟨?_,by rw[pu c fu];exact h2,h3⟩
   rw[lS fu (fun e=>ny'.2 (by rw[←e];exact hw))]
   exact h1
 ·by_cases fu:c=x
  ·exact .inr (by simp[fu])
  ·rw[pu c fu]at h2
   exact(m.jy c h1 h2).imp_right fun h=>by simp[h]
 ·rw[lS (fun e=>by rw[e]at nU;omega) (fun e=>by rw[e]at nU;omega)]
  exact m.lone c nU
theorem dP.ae6(m:dP hm lt nx ch par ax W){p:Int}(hc:ch p=[x]):dP hm lt nx (ay ch p []) (aH par x (-1)) ax (x::W):=by
 have hx:=m.pr.dn p x (by rw[hc];simp)
 have OE:=m.MR (c:=x) (x:=p) (by rw[hc];simp)
 have pu:∀c,c≠x→aH par x (-1) c=par c:=fun c h=>by unfold aH;rw[if_neg h]
 have yz:=m.cy p
 rw[hc]at yz
 have q:=m.pr.off (l1:=[]) (l2:=[]) (x:=x) (p:=p) (by rw[hc];rfl)
 refine⟨q,fun z=>?_,m.rc,m.rn,fun h c hh=>?_,aoB.2 ⟨OE.2,m.wn⟩,fun c Jd=>?_,fun c h1 h2=>?_,m.lone⟩
 ·unfold ay
  split
  ·trivial
  ·exact m.cy z
 ·obtain⟨h1,h2,h3,h4⟩:=m.rm h c hh
  have fu:c≠x:=fun e=>OE.1 h (by rw[←e];exact hh)
  exact⟨h1,by rw[pu c fu];exact h2,h3,by simp[fu,h4]⟩
 ·rcases aot.1 Jd with e|hw
  ·rw[e]
   exact⟨yz,by unfold aH;rw[if_pos rfl],hx.2.2.2.1⟩
  ·obtain⟨h1,h2,h3⟩:=m.wm c hw
   have fu:c≠x:=fun e=>OE.2 (by rw[←e];exact hw)
   exact⟨h1,by rw[pu c fu];exact h2,h3⟩
 ·by_cases fu:c=x
  ·exact .inr (by simp[fu])
  ·rw[pu c fu]at h2
   exact(m.jy c h1 h2).imp_right fun h=>by simp[h]
theorem dP.other(m:dP hm lt nx ch par ax W)(h:∀x c,c∈ch x→hm x=hm c→0<hm c→lt x c=true→lt' x c=true):dP hm lt' nx ch par ax W:=
 ⟨m.pr.other m.pr.h0 fun x c hc h1 h2 h3=>⟨h1,h2,h x c hc h1 h2 h3⟩,m.cy,m.rc,m.rn,m.rm,m.wn,m.wm,m.jy,m.lone⟩
theorem dP.put(m:dP hm lt nx ch par ax W){g:Int}(h0:hm' (-1)=0)(hx:hm x≤0)(jZ:x≠ -1)(hg:0<g)(e1:hm' x=g)(e2:∀y,y≠x→hm' y=hm y)(el:∀a b,0<hm a→0<hm b→a≠x→b≠x→lt' a b=lt a b):dP hm' lt' nx ch par ax (x::W):=by
 obtain⟨a1,a2⟩:=m.pr.alone hx jZ
 have nr:∀h,x∉ax h:=fun h hh=>by obtain⟨h1,_,h3,_⟩:=m.rm h x hh;omega
 have nW:x∉W:=fun h=>by have:=(m.wm x h).2.2;omega
 refine⟨m.pr.other h0 fun y c hc h1 h2 h3=>?_,m.cy,m.rc,m.rn,fun h c hh=>?_,aoB.2 ⟨nW,m.wn⟩,fun c hc=>?_,fun c h1 h2=>?_,fun c hc=>?_⟩
 ·have n1:y≠x:=fun e=>by rw[e,a2]at hc;cases hc
  have n2:c≠x:=fun e=>by rw[e]at h2;omega
  rw[e2 _ n1,e2 _ n2,el _ _ (by omega) h2 n1 n2]
  exact⟨h1,h2,h3⟩
 ·obtain⟨h1,h2,h3,h4⟩:=m.rm h c hh
  have n1:c≠x:=fun e=>nr h (by rw[←e];exact hh)
  exact⟨by rw[e2 c n1];exact h1,h2,h3,by simp[n1,h4]⟩
 ·rcases aot.1 hc with e|hc
  ·rw[e,e1];exact⟨m.lone x hx,a1,hg⟩
  ·obtain⟨h1,h2,h3⟩:=m.wm c hc
   exact⟨h1,h2,by rw[e2 c (fun e=>nW (by rw[←e];exact hc))];exact h3⟩
 ·by_cases fu:c=x
  ·exact .inr (by simp[fu])
  ·rw[e2 c fu]at h1 ⊢
   exact(m.jy c h1 h2).imp_right fun h=>by simp[h]
 ·by_cases fu:c=x
  ·rw[fu,e1]at hc;omega
  ·rw[e2 c fu]at hc
   exact m.lone c hc
theorem dP.drop(m:dP hm lt nx ch par ax (x::W))(hc:ch x=[])(h0:hm' (-1)=0)(e1:hm' x=0)(e2:∀y,y≠x→hm' y=hm y)(el:∀a b,0<hm a→0<hm b→a≠x→b≠x→lt' a b=lt a b):dP hm' lt' nx ch par ax W:=by
 obtain⟨x1,x2,x3⟩:=m.wm x (by simp)
 have hn:=aoB.1 m.wn
 refine⟨m.pr.other h0 fun y c GZ h1 h2 h3=>?_,m.cy,m.rc,m.rn,fun h c hh=>?_,hn.2,fun c Jd=>?_,fun c h1 h2=>?_,fun c nU=>?_⟩
 ·have n1:y≠x:=fun e=>by rw[e,hc]at GZ;cases GZ
  have n2:c≠x:=fun e=>by rw[e]at GZ;exact(m.MR GZ).2 (by simp)
  rw[e2 _ n1,e2 _ n2,el _ _ (by omega) h2 n1 n2]
  exact⟨h1,h2,h3⟩
 ·obtain⟨h1,h2,h3,h4⟩:=m.rm h c hh
  simp only[aot,not_or]at h4
  exact⟨by rw[e2 c h4.1];exact h1,h2,h3,h4.2⟩
 ·obtain⟨h1,h2,h3⟩:=m.wm c (by simp[Jd])
  exact⟨h1,h2,by rw[e2 c (fun e=>hn.1 (by rw[←e];exact Jd))];exact h3⟩
 ·have fu:c≠x:=fun e=>by rw[e,e1]at h1;omega
  rw[e2 c fu]at h1 ⊢
  refine(m.jy c h1 h2).imp_right fun h=>?_
  exact(aot.1 h).resolve_left fu
 ·by_cases fu:c=x
  ·rw[fu];exact x1
  ·rw[e2 c fu]at nU
   exact m.lone c nU
end
end Go.Proofs.YtjlnnljohemifaaGreat

namespace Go.Proofs.YtjlnnljohemifaaGreat
section
variable {hm hm' : Int → Int} {lt lt' : Int → Int → Bool} {ch dO : Int → List Int} {par : Int → Int} {rows : Int → List Int} {W W' l l' : List Int} {x y a b c p g : Int}
def E7(ch:Int→List Int)(l:List Int):Prop:=l.Pairwise fun a b=>(ch a).length< (ch b).length
theorem E7.nodup(h:E7 ch l):l.Nodup:=List.Pairwise.imp (fun h e=>by rw[e]at h;omega) h
theorem E7.frame(h:E7 ch l)(e:∀c∈l,(dO c).length=(ch c).length):E7 dO l:=
 List.Pairwise.imp_of_mem (fun ha hb h=>by rw[e _ ha,e _ hb];exact h) h
theorem E7.sub(h:E7 ch l)(hs:l'.Sublist l):E7 ch l':=List.Pairwise.sublist hs h
structure jz(hm:Int→Int)(lt:Int→Int→Bool)(ch:Int→List Int)(par:Int→Int)(rows:Int→List Int)(W:List Int):Prop where
 pr:Pr hm lt ch par
 dg:∀x (i:Nat) c,(ch x)[i]? =some c→(ch c).length=i
 rr:∀h,E7 ch (rows h)
 rm:∀h c,c∈rows h→hm c=h∧par c= -1∧0<h∧c∉W
 wn:W.Nodup
 wm:∀c∈W,par c= -1∧0<hm c
 jy:∀c,0<hm c→par c= -1→c∈rows (hm c)∨c∈W
theorem jz.less(m:jz hm lt ch par rows W)(h:c∈ch x):(ch c).length< (ch x).length:=by
 obtain⟨i,hi,e⟩:=aqc.1 h
 have:=m.dg x i c (by rw[aoh hi,e])
 omega
theorem jz.Y0(m:jz hm lt ch par rows W)(h:c∈W):c≠ -1:=fun e=>by
 have:=(m.wm c h).2
 rw[e,m.pr.h0]at this
 omega
theorem jz.TM(m:jz hm lt ch par rows W)(h:par c= -1)(z:Int):c∉ch z:=fun hc=>by
 have:=m.pr.dn z c hc
 rw[h]at this
 exact this.2.1 this.1.symm
theorem jz.perm(m:jz hm lt ch par rows W)(h:W.Perm W'):jz hm lt ch par rows W':=
 ⟨m.pr,m.dg,m.rr,fun g c hc=>by obtain⟨h1,h2,h3,h4⟩:=m.rm g c hc;exact⟨h1,h2,h3,fun hw=>h4 (h.mem_iff.2 hw)⟩,h.nodup_iff.1 m.wn,fun c hc=>m.wm c (h.mem_iff.2 hc),fun c h1 h2=>(m.jy c h1 h2).imp_right h.mem_iff.1⟩
theorem jz.other(m:jz hm lt ch par rows W)(h:∀x c,c∈ch x→lt x c=true→lt' x c=true):jz hm lt' ch par rows W:=
 ⟨m.pr.other m.pr.h0 fun x c hc h1 h2 h3=>⟨h1,h2,h x c hc h3⟩,m.dg,m.rr,m.rm,m.wn,m.wm,m.jy⟩
theorem jz.link(m:jz hm lt ch par rows (a::b::W))(hh:hm a=hm b)(hd:(ch a).length=(ch b).length)(hl:lt a b=true):
  jz hm lt (ay ch a (ch a++[b])) (aH par b a) rows (a::W):=by
 obtain⟨a1,a2⟩:=m.wm a (by simp)
 obtain⟨b1,b2⟩:=m.wm b (by simp)
 have hn:=m.wn
 simp only[aoB,aot,not_or]at hn
 have han:a≠ -1:=m.Y0 (by simp)
 have BZ:a≠b:=hn.1.1
 have q:=m.pr.link han b1 hh b2 hl
 have q2:=q.Rg (x:=a) (l:=ch a++[b]) (by
  unfold mT
  rw[if_pos rfl]
  exact apf (l₁:=[b]) (l₂:=ch a))
 rw[Iy]at q2
 have nc:=m.TM a1
 have ne:∀c,c≠a→ay ch a (ch a++[b]) c=ch c:=fun c h=>by unfold ay;rw[if_neg h]
 have na:ay ch a (ch a++[b]) a=ch a++[b]:=by unfold ay;rw[if_pos rfl]
 refine⟨q2,fun z i c hc=>?_,fun h=>(m.rr h).frame fun c hc=>?_,fun h c hc=>?_,aoB.2 ⟨hn.1.2,hn.2.2⟩,fun c hc=>?_,fun c h1 h2=>?_⟩
 ·by_cases hz:z=a
  ·rw[hz,na]at hc
   by_cases hi:i< (ch a).length
   ·rw[aox hi]at hc
    rw[ne c (fun e=>nc a (by have h7:=aon hc;rw[e]at h7;exact h7))]
    exact m.dg a i c hc
   ·rw[aoK (by omega)]at hc
    have h0:i - (ch a).length=0:=by
     have:=(aoj.1 hc).1
     simp at this
     omega
    rw[h0]at hc
    have GO:b=c:=by simpa using hc
    rw[←GO,ne b BZ.symm]
    omega
  ·rw[ne z hz]at hc
   rw[ne c (fun e=>nc z (by rw[←e];exact aon hc))]
   exact m.dg z i c hc
 ·rw[ne c (fun e=>by have:=(m.rm h c hc).2.2.2;rw[e]at this;exact this (by simp))]
 ·obtain⟨h1,h2,h3,h4⟩:=m.rm h c hc
  simp only[aot,not_or]at h4
  exact⟨h1,by unfold aH;rw[if_neg h4.2.1];exact h2,h3,by simp[h4.1,h4.2.2]⟩
 ·have GO:c≠b:=fun e=>by
   rw[e]at hc
   rcases aot.1 hc with h|h
   ·exact BZ h.symm
   ·exact hn.2.1 h
  obtain⟨h1,h2⟩:=m.wm c (by rcases aot.1 hc with h|h<;>simp[h])
  exact⟨by unfold aH;rw[if_neg GO];exact h1,h2⟩
 ·have GO:c≠b:=fun e=>by
   rw[e]at h2
   unfold aH at h2
   rw[if_pos rfl]at h2
   exact han h2
  unfold aH at h2
  rw[if_neg GO]at h2
  refine(m.jy c h1 h2).imp_right fun h=>?_
  simp only[aot]at h ⊢
  rcases h with h|h|h
  ·exact .inl h
  ·exact absurd h GO
  ·exact .inr h
theorem jz.loose(m:jz hm lt ch par rows W)(g:Int):jz hm lt ch par (ay rows g []) (rows g++W):=by
 refine⟨m.pr,m.dg,fun h=>?_,fun h c hc=>?_,ao2.2 ⟨(m.rr g).nodup,m.wn,fun u hu v hv e=>(m.rm g u hu).2.2.2 (by rw[e];exact hv)⟩,fun c hc=>?_,fun c h1 h2=>?_⟩
 ·unfold ay
  split
  ·exact List.Pairwise.nil
  ·exact m.rr h
 ·unfold ay at hc
  split at hc
  ·cases hc
  ·rename_i e
   obtain⟨h1,h2,h3,h4⟩:=m.rm h c hc
   refine⟨h1,h2,h3,fun hw=>?_⟩
   rcases aou.1 hw with hw|hw
   ·exact e (by rw[←h1,(m.rm g c hw).1])
   ·exact h4 hw
 ·rcases aou.1 hc with hc|hc
  ·obtain⟨h1,h2,h3,h4⟩:=m.rm g c hc
   exact⟨h2,by omega⟩
  ·exact m.wm c hc
 ·unfold ay
  rcases m.jy c h1 h2 with h|h
  ·split
   ·rename_i e
    rw[e]at h
    exact .inr (aoy _ h)
   ·exact .inl h
  ·exact .inr (ape _ h)
theorem jz.row(m:jz hm lt ch par rows (l++W))(he:rows g=[])(hr:E7 ch l)(hg:∀c∈l,hm c=g):jz hm lt ch par (ay rows g l) W:=by
 obtain⟨n1,n2,n3⟩:=ao2.1 m.wn
 refine⟨m.pr,m.dg,fun h=>?_,fun h c hc=>?_,n2,fun c hc=>m.wm c (ape _ hc),fun c h1 h2=>?_⟩
 ·unfold ay
  split
  ·exact hr
  ·exact m.rr h
 ·unfold ay at hc
  split at hc
  ·rename_i e
   obtain⟨h1,h2⟩:=m.wm c (aoy _ hc)
   have h3:=hg c hc
   exact⟨by omega,h1,by omega,fun hw=>n3 c hc c hw rfl⟩
  ·obtain⟨h1,h2,h3,h4⟩:=m.rm h c hc
   exact⟨h1,h2,h3,fun hw=>h4 (ape _ hw)⟩
 ·unfold ay
  rcases m.jy c h1 h2 with h|h
  ·split
   ·rename_i e
    rw[e,he]at h
    cases h
   ·exact .inl h
  ·rcases aou.1 h with h|h
   ·rw[if_pos (hg c h)]
    exact .inl h
   ·exact .inr h
theorem jz.split(m:jz hm lt ch par rows (x::W)):jz hm lt (ay ch x []) (fx ch par x) rows (x::(ch x++W)):=by
 obtain⟨x1,x2⟩:=m.wm x (by simp)
 have hn:=aoB.1 m.wn
 have nc:=m.TM x1
 have kd:∀c,c∈ch x→par c≠ -1:=fun c hc e=>m.TM e x hc
 refine⟨m.pr.bare x,fun z i c hc=>?_,fun h=>(m.rr h).frame fun c hc=>?_,fun h c hc=>?_,?_,fun c hc=>?_,fun c h1 h2=>?_⟩
 ·unfold ay at hc ⊢
  split at hc
  ·simp at hc
  ·rw[if_neg (fun e=>nc z (by rw[←e];exact aon hc))]
   exact m.dg z i c hc
 ·unfold ay
  rw[if_neg (fun e=>by have:=(m.rm h c hc).2.2.2;rw[e]at this;exact this (by simp))]
 ·obtain⟨h1,h2,h3,h4⟩:=m.rm h c hc
  simp only[aot,not_or]at h4
  have hk:c∉ch x:=fun hk=>kd c hk h2
  refine⟨h1,by unfold fx;rw[if_neg hk];exact h2,h3,?_⟩
  simp only[aot,aou,not_or]
  exact⟨h4.1,hk,h4.2⟩
 ·rw[aoB,ao2]
  refine⟨?_,m.pr.nd x,hn.2,fun u hu v hv e=>kd u hu (by rw[e];exact(m.wm v (by simp[hv])).1)⟩
  rw[aou]
  rintro(h|h)
  ·exact nc x h
  ·exact hn.1 h
 ·simp only[aot,aou]at hc
  unfold fx
  rcases hc with h|h|h
  ·rw[h,if_neg (nc x)]
   exact⟨x1,x2⟩
  ·rw[if_pos h]
   exact⟨rfl,(m.pr.dn x c h).2.2.2.1⟩
  ·obtain⟨h1,h2⟩:=m.wm c (by simp[h])
   rw[if_neg (fun hk=>kd c hk h1)]
   exact⟨h1,h2⟩
 ·unfold fx at h2
  simp only[aot,aou]
  split at h2
  ·rename_i hk
   exact .inr (.inr (.inl hk))
  ·rcases m.jy c h1 h2 with h|h
   ·exact .inl h
   ·rcases aot.1 h with h|h
    ·exact .inr (.inl h)
    ·exact .inr (.inr (.inr h))
theorem jz.put(m:jz hm lt ch par rows W)(h0:hm' (-1)=0)(hx:hm x≤0)(jZ:x≠ -1)(hg:0<g)(e1:hm' x=g)(e2:∀y,y≠x→hm' y=hm y)(el:∀a b,0<hm a→0<hm b→a≠x→b≠x→lt' a b=lt a b):jz hm' lt' ch par rows (x::W)∧ch x=[]:=by
 obtain⟨a1,a2⟩:=m.pr.alone hx jZ
 have nr:∀h,x∉rows h:=fun h hh=>by obtain⟨h1,_,h3,_⟩:=m.rm h x hh;omega
 have nW:x∉W:=fun h=>by have:=(m.wm x h).2;omega
 refine⟨⟨m.pr.other h0 fun y c hc h1 h2 h3=>?_,m.dg,m.rr,fun h c hh=>?_,aoB.2 ⟨nW,m.wn⟩,fun c hc=>?_,fun c h1 h2=>?_⟩,a2⟩
 ·have n1:y≠x:=fun e=>by rw[e,a2]at hc;cases hc
  have n2:c≠x:=fun e=>by rw[e]at h2;omega
  rw[e2 _ n1,e2 _ n2,el _ _ (by omega) h2 n1 n2]
  exact⟨h1,h2,h3⟩
 ·obtain⟨h1,h2,h3,h4⟩:=m.rm h c hh
  have n1:c≠x:=fun e=>nr h (by rw[←e];exact hh)
  exact⟨by rw[e2 c n1];exact h1,h2,h3,by simp[n1,h4]⟩
 ·rcases aot.1 hc with e|hc
  ·rw[e,e1];exact⟨a1,hg⟩
  ·obtain⟨h1,h2⟩:=m.wm c hc
   exact⟨h1,by rw[e2 c (fun e=>nW (by rw[←e];exact hc))];exact h2⟩
 ·by_cases fu:c=x
  ·exact .inr (by simp[fu])
  ·rw[e2 c fu]at h1 ⊢
   exact(m.jy c h1 h2).imp_right fun h=>by simp[h]
theorem jz.drop(m:jz hm lt ch par rows (x::W))(hc:ch x=[])(h0:hm' (-1)=0)(e1:hm' x=0)(e2:∀y,y≠x→hm' y=hm y)(el:∀a b,0<hm a→0<hm b→a≠x→b≠x→lt a b=true→lt' a b=true):jz hm' lt' ch par rows W:=by
 obtain⟨x2,x3⟩:=m.wm x (by simp)
 have hn:=aoB.1 m.wn
 refine⟨m.pr.other h0 fun y c GZ h1 h2 h3=>?_,m.dg,m.rr,fun h c hh=>?_,hn.2,fun c Jd=>?_,fun c h1 h2=>?_⟩
 ·have n1:y≠x:=fun e=>by rw[e,hc]at GZ;cases GZ
  have n2:c≠x:=fun e=>by rw[e]at GZ;exact m.TM x2 _ GZ
  rw[e2 _ n1,e2 _ n2]
  exact⟨h1,h2,el _ _ (by omega) h2 n1 n2 h3⟩
 ·obtain⟨h1,h2,h3,h4⟩:=m.rm h c hh
  simp only[aot,not_or]at h4
  exact⟨by rw[e2 c h4.1];exact h1,h2,h3,h4.2⟩
 ·obtain⟨h1,h2⟩:=m.wm c (by simp[Jd])
  exact⟨h1,by rw[e2 c (fun e=>hn.1 (by rw[←e];exact Jd))];exact h2⟩
 ·have fu:c≠x:=fun e=>by rw[e,e1]at h1;omega
  rw[e2 c fu]at h1 ⊢
  refine(m.jy c h1 h2).imp_right fun h=>?_
  exact(aot.1 h).resolve_left fu
def gW(x p z:Int):Int:=if z=x then p else if z=p then x else z
theorem kF:gW x p x=p:=by unfold gW;rw[if_pos rfl]
theorem sF:gW x p p=x:=by
 unfold gW
 by_cases h:p=x
 ·rw[if_pos h,h]
 ·rw[if_neg h,if_pos rfl]
theorem fy(h1:c≠x)(h2:c≠p):gW x p c=c:=by unfold gW;rw[if_neg h1,if_neg h2]
theorem iT(z:Int):gW x p (gW x p z)=z:=by
 by_cases h1:z=x
 ·rw[h1,kF,sF]
 ·by_cases h2:z=p
  ·rw[h2,sF,kF]
  ·rw[fy h1 h2,fy h1 h2]
theorem OH{u v:Int}(h:gW x p u=gW x p v):u=v:=by rw[←iT (x:=x) (p:=p) u,h,iT]
def GP(ch:Int→List Int)(x p:Int):Int→List Int:=fun z=>(ch (gW x p z)).map (gW x p)
def Je(par:Int→Int)(x p:Int):Int→Int:=fun z=>gW x p (par (gW x p z))
theorem Ag(h1:x∉l)(h2:p∉l):l.map (gW x p)=l:=by
 have:l.map (gW x p)=l.map id:=aqf fun c hc=>fy (fun e=>h1 (by rw[←e];exact hc)) (fun e=>h2 (by rw[←e];exact hc))
 rw[this,List.map_id]
theorem Iz(h:l.Nodup):(l.map (gW x p)).Nodup:=by
 unfold List.Nodup at h ⊢
 rw[List.pairwise_map]
 exact h.imp fun aP e=>aP (OH e)
theorem Jf(z:Int):(GP ch x p (gW x p z)).length=(ch z).length:=by unfold GP;rw[iT,aoF]
theorem iU{z:Int}:z∈l.map (gW x p)↔gW x p z∈l:=by
 rw[aoC]
 constructor
 ·rintro⟨u,h1,h2⟩
  rw[←h2,iT];exact h1
 ·intro h
  exact⟨_,h,iT z⟩
theorem jz.swap(m:jz hm lt ch par rows W)(hx:x∈ch p)(hl:∀z c,c∈ch z→lt z c=true→lt' (gW x p z) (gW x p c)=true):
  jz hm lt' (GP ch x p) (Je par x p) (fun h=>(rows h).map (gW x p)) (W.map (gW x p)):=by
 obtain⟨d1,d2,d3,d4,d5⟩:=m.pr.dn p x hx
 have Du:=m.pr.ne hx
 have nS:∀z,hm (gW x p z)=hm z:=fun z=>by
  by_cases h1:z=x
  ·rw[h1,kF,d3]
  ·by_cases h2:z=p
   ·rw[h2,sF,d3]
   ·rw[fy h1 h2]
 have vW:gW x p (-1)= -1:=fy (Ne.symm Du) (Ne.symm d2)
 have B0:∀z,gW x p z= -1↔z= -1:=fun z=>⟨fun h=>OH (h.trans vW.symm),fun h=>by rw[h,vW]⟩
 have hpS:∀z,Je par x p z= -1↔par (gW x p z)= -1:=fun z=>B0 _
 refine⟨⟨m.pr.h0,fun z c hc=>?_,fun c z hc hz=>?_,fun z=>Iz (m.pr.nd _)⟩,fun z i c hc=>?_,fun h=>?_,fun h c hc=>?_,Iz m.wn,fun c hc=>?_,fun c h1 h2=>?_⟩
 ·have sC:=iU.1 hc
  obtain⟨h1,h2,h3,h4,h5⟩:=m.pr.dn _ _ sC
  refine⟨by unfold Je;rw[h1,iT],fun e=>h2 ((B0 z).2 e),?_,?_,?_⟩
  ·rw[nS,nS]at h3;exact h3
  ·rw[nS]at h4;exact h4
  ·have:=hl _ _ sC h5
   rwa[iT,iT]at this
 ·have h1:par (gW x p c)=gW x p z:=by rw[←hc];unfold Je;rw[iT]
  exact iU.2 (m.pr.up _ _ h1 (fun e=>hz ((B0 z).1 e)))
 ·unfold GP at hc
  rw[aoG]at hc
  cases he:(ch (gW x p z))[i]? with
  |none=>rw[he]at hc;cases hc
  |some d=>
   rw[he]at hc
   injection hc with hc
   rw[←hc,Jf]
   exact m.dg _ i d he
 ·unfold E7
  rw[List.pairwise_map]
  exact(m.rr h).imp fun h=>by rw[Jf,Jf];exact h
 ·obtain⟨h1,h2,h3,h4⟩:=m.rm h _ (iU.1 hc)
  exact⟨by rw[←h1,nS],(hpS c).2 h2,h3,fun hw=>h4 (iU.1 hw)⟩
 ·obtain⟨h1,h2⟩:=m.wm _ (iU.1 hc)
  exact⟨(hpS c).2 h1,by rw[nS]at h2;exact h2⟩
 ·have h3:=m.jy (gW x p c) (by rw[nS];exact h1) ((hpS c).1 h2)
  rw[nS]at h3
  exact h3.imp iU.2 iU.2
def lx(lt:Int→Int→Bool)(x:Int):Int→Int→Bool:=fun a b=>decide (a=x) || decide (b=x) || lt a b
theorem Vj(h:lt a b=true):lx lt x a b=true:=by unfold lx;simp[h]
theorem Jg(h:lx lt x a b=true)(h1:a≠x)(h2:b≠x):lt a b=true:=by
 unfold lx at h
 simp only[ap6,aoL]at h
 rcases h with (h|h)|h
 ·exact absurd h h1
 ·exact absurd h h2
 ·exact h
structure MC(hm:Int→Int)(lt:Int→Int→Bool)(ch:Int→List Int)(par:Int→Int)(rows:Int→List Int)(W:List Int)(x:Int):Prop where
 w:jz hm (lx lt x) ch par rows W
 by_:par x≠ -1→∀d∈ch x,lt (par x) d=true
theorem MC.start(hs:bA lt)(m:jz hm lt ch par rows W)(el:∀a b,0<hm a→0<hm b→a≠x→b≠x→lt' a b=lt a b):MC hm lt' ch par rows W x:=by
 have nx:x∉ch x:=fun h=>by have:=m.less h;omega
 refine⟨m.other fun z c hc h=>?_,fun hp d hd=>?_⟩
 ·by_cases h1:z=x
  ·unfold lx;simp[h1]
  ·by_cases h2:c=x
   ·unfold lx;simp[h2]
   ·obtain⟨_,_,h3,h4,_⟩:=m.pr.dn z c hc
    exact Vj (by rw[el _ _ (by omega) h4 h1 h2];exact h)
 ·have hx:=m.pr.up x _ rfl hp
  obtain⟨_,_,h3,h4,h5⟩:=m.pr.dn _ _ hx
  obtain⟨_,_,h6,h7,h8⟩:=m.pr.dn _ _ hd
  rw[el _ _ (by omega) h7 (fun e=>nx (by rw[e]at hx;exact hx)) (fun e=>nx (by rw[e]at hd;exact hd))]
  exact hs.tr _ _ _ h5 h8
theorem MC.up(hs:bA lt)(m:MC hm lt ch par rows W x)(hx:x∈ch p):MC hm lt (GP ch x p) (Je par x p) (fun h=>(rows h).map (gW x p)) (W.map (gW x p)) x:=by
 have hd:=m.w.pr.dn p x hx
 have sG:=m.w.less hx
 have dH:p≠x:=fun e=>by rw[e]at sG;omega
 have hp:par x=p:=hd.1
 have nx:∀c,c∈ch x→c≠x∧c≠p:=fun c hc=>by
  have:=m.w.less hc
  exact⟨fun e=>by rw[e]at this;omega,fun e=>by rw[e]at this;omega⟩
 refine⟨m.w.swap hx fun z c hc h=>?_,fun hq d TN=>?_⟩
 ·by_cases h1:z=x
  ·rw[h1]at hc ⊢
   obtain⟨n1,n2⟩:=nx c hc
   rw[kF,fy n1 n2,←hp]
   exact Vj (m.by_ (by rw[hp];exact hd.2.1) c hc)
  ·by_cases h2:z=p
   ·rw[h2,sF];unfold lx;simp
   ·by_cases h3:c=x
    ·have:=(m.w.pr.dn z c hc).1
     rw[h3,hp]at this
     exact absurd this.symm h2
    ·by_cases h4:c=p
     ·rw[h4,sF];unfold lx;simp
     ·rw[fy h1 h2,fy h3 h4]
      exact h
 ·have QS:Je par x p x=gW x p (par p):=by unfold Je;rw[kF]
  have Ps:par p≠ -1:=fun e=>hq (by rw[QS,e];exact fy (Ne.symm (m.w.pr.ne hx)) (Ne.symm hd.2.1))
  have Rh:=m.w.pr.up p _ rfl Ps
  have oJ:=m.w.less Rh
  have g1:par p≠x:=fun e=>by rw[e]at oJ;omega
  have g2:par p≠p:=fun e=>by rw[e]at oJ;omega
  rw[QS,fy g1 g2]
  have h1:=Jg (m.w.pr.dn _ _ Rh).2.2.2.2 g1 dH
  unfold GP at TN
  rw[kF]at TN
  have iP:=iU.1 TN
  by_cases e1:d=p
  ·rw[e1];exact h1
  ·have e2:d≠x:=fun e=>by
    rw[e,kF]at iP
    have:=m.w.less iP
    omega
   rw[fy e2 e1]at iP
   exact hs.tr _ _ _ h1 (Jg (m.w.pr.dn p d iP).2.2.2.2 dH e2)
theorem MC.low(hs:bA lt)(m:MC hm lt ch par rows W x)(hx:x∈ch p)(hl:lt x p=true):∀d∈GP ch x p x,lt x d=true:=by
 intro d TN
 have sG:=m.w.less hx
 have dH:p≠x:=fun e=>by rw[e]at sG;omega
 unfold GP at TN
 rw[kF]at TN
 have iP:=iU.1 TN
 by_cases e1:d=p
 ·rw[e1];exact hl
 ·have e2:d≠x:=fun e=>by
   rw[e,kF]at iP
   have:=m.w.less iP
   omega
  rw[fy e2 e1]at iP
  exact hs.tr _ _ _ hl (Jg (m.w.pr.dn p d iP).2.2.2.2 dH e2)
theorem MC.done(m:MC hm lt ch par rows W x)(h1:∀d∈ch x,lt x d=true)(h2:par x≠ -1→lt (par x) x=true):jz hm lt ch par rows W:=by
 refine m.w.other fun z c hc h=>?_
 by_cases e1:z=x
 ·rw[e1]at hc ⊢;exact h1 c hc
 ·by_cases e2:c=x
  ·obtain⟨d1,d2,_⟩:=m.w.pr.dn z c hc
   rw[e2]at d1 ⊢
   rw[←d1]
   exact h2 (by rw[d1];exact d2)
  ·exact Jg h e1 e2
end
end Go.Proofs.YtjlnnljohemifaaGreat

namespace Go.Proofs.YtjlnnljohemifaaGreat
section
variable {hm hm' : Int → Int} {lt lt' : Int → Int → Bool} {ch : Int → List Int} {par : Int → Int} {ax : Int → List Int} {W A : List Int} {nx pv : Int → Int} {x g T y : Int}
theorem Pr.root(q:Pr hm lt ch par)(hs:bA lt){n:Nat}(hn:∀x,0<hm x→0≤x∧x<n):∀ (k:Nat) {x:Int},MP lt n x≤k→0<hm x→∃r,hm r=hm x∧par r= -1∧(r=x∨lt r x=true):=by
 intro k
 induction k with
 |zero=>
  intro x hk hx
  by_cases hp:par x= -1
  ·exact⟨x,rfl,hp,.inl rfl⟩
  ·obtain⟨_,_,h3,h4,h5⟩:=q.dn _ _ (q.up x _ rfl hp)
   have:=EL hs (n:=n) (hn _ (by omega)) h5
   omega
 |succ k ih=>
  intro x hk hx
  by_cases hp:par x= -1
  ·exact⟨x,rfl,hp,.inl rfl⟩
  ·obtain⟨_,_,h3,h4,h5⟩:=q.dn _ _ (q.up x _ rfl hp)
   have:=EL hs (n:=n) (hn _ (by omega)) h5
   obtain⟨r,r1,r2,r3⟩:=ih (x:=par x) (by omega) (by omega)
   refine⟨r,by omega,r2,.inr ?_⟩
   rcases r3 with r3|r3
   ·rw[r3];exact h5
   ·exact hs.tr _ _ _ r3 h5
theorem Pr.lead(q:Pr hm lt ch par)(hs:bA lt){n:Nat}(hn:∀x,0<hm x→0≤x∧x<n)(hg:0<g)(h:∀c,hm c=g→par c= -1→T≠ -1∧(c≠T→lt T c=true))(hy:hm y=g):T≠ -1∧(y≠T→lt T y=true):=by
 obtain⟨r,r1,r2,r3⟩:=q.root hs hn _ (aov _) (x:=y) (by omega)
 obtain⟨h1,h2⟩:=h r (by omega) r2
 refine⟨h1,fun aP=>?_⟩
 by_cases e:r=T
 ·rw[e]at r3
  exact r3.resolve_left (fun e2=>aP e2.symm)
 ·rcases r3 with r3|r3
  ·rw[←r3];exact h2 e
  ·exact hs.tr _ _ _ (h2 e) r3
theorem dP.aD(m:dP hm lt nx ch par ax W)(hi:Af nx pv)(hr:ax g=x::A):dP hm lt (yy nx x (pv x)) ch par (ay ax g A) (x::W):=by
 have hc:=m.rc g
 rw[hr]at hc
 rcases List.eq_nil_or_concat A with h| ⟨B,y,h⟩
 ·subst h
  have h1:nx x=x:=hc
  have h2:pv x=x:=by
   have:=hi.pn x
   rwa[h1]at this
  rw[h2,KG]
  exact m.aan hr
 ·rw[List.concat_eq_append]at h
  subst h
  have h2:pv x=y:=vz.last (A:=B) hi hc
  rw[h2]
  have m2:=m.aam (A:=B) (y:=y) hr
  have h3:=m2.sY (g:=g) (l:=B++[y]) (by
   unfold ay
   rw[if_pos rfl]
   exact apf (l₁:=[y]) (l₂:=B)) (by
   have:=m2.rc g
   unfold ay at this
   rw[if_pos rfl]at this
   exact vz.rot (l1:=[y]) (l2:=B) this)
  rwa[eB]at h3
theorem dP.from_(m:dP hm lt nx ch par ax W)(hx:x∈ax g):∃A,(ax g).Perm (x::A)∧dP hm lt nx ch par (ay ax g (x::A)) W:=by
 obtain⟨A,h1,h2⟩:=(m.rc g).from hx
 exact⟨A,h1,m.sY h1 h2⟩
end
end Go.Proofs.YtjlnnljohemifaaGreat

namespace Go.Proofs.YtjlnnljohemifaaGreat
section
variable {hm : Int → Int} {ch : Int → List Int} {a b now out : List Int} {c g p q x y : Int} {k ia ib io : Nat}
structure mU(hm:Int→Int)(ch:Int→List Int)(g:Int)(k ia ib io:Nat)(a b now out:List Int):Prop where
 ra:E7 ch a
 rb:E7 ch b
 ro:E7 ch out
 ka:∀c∈a,ia≤(ch c).length
 kb:∀c∈b,ib≤(ch c).length
 kn:∀c∈now,(ch c).length=k
 ko:∀c∈out,(ch c).length<io
 hg:∀c,c∈a∨c∈b∨c∈now∨c∈out→hm c=g
theorem mU.aaq(h:mU hm ch g k k ib io (c::a) b now out)(e:(ch c).length=k):mU hm ch g k (k+1) ib io a b (now++[c]) out:=by
 have hr:=apr.1 h.ra
 refine⟨hr.2,h.rb,h.ro,fun d hd=>?_,h.kb,fun d hd=>?_,h.ko,fun d hd=>?_⟩
 ·have:=hr.1 d hd;omega
 ·rcases aou.1 hd with hd|hd
  ·exact h.kn d hd
  ·rw[aoq.1 hd];exact e
 ·refine h.hg d ?_
  simp only[aou,aot,aqm,or_false]at hd ⊢
  rcases hd with h|h| (h|h)|h
  ·exact .inl (.inr h)
  ·exact .inr (.inl h)
  ·exact .inr (.inr (.inl h))
  ·exact .inl (.inl h)
  ·exact .inr (.inr (.inr h))
theorem mU.KH(h:mU hm ch g k ia k io a (c::b) now out)(e:(ch c).length=k):mU hm ch g k ia (k+1) io a b (now++[c]) out:=by
 have hr:=apr.1 h.rb
 refine⟨h.ra,hr.2,h.ro,h.ka,fun d hd=>?_,fun d hd=>?_,h.ko,fun d hd=>?_⟩
 ·have:=hr.1 d hd;omega
 ·rcases aou.1 hd with hd|hd
  ·exact h.kn d hd
  ·rw[aoq.1 hd];exact e
 ·refine h.hg d ?_
  simp only[aou,aot,aqm,or_false]at hd ⊢
  rcases hd with h|h| (h|h)|h
  ·exact .inl h
  ·exact .inr (.inl (.inr h))
  ·exact .inr (.inr (.inl h))
  ·exact .inr (.inl (.inl h))
  ·exact .inr (.inr (.inr h))
theorem mU.Vk(h:mU hm ch g k k ib io a b now out)(e:∀c,a.head? =some c→(ch c).length≠k):mU hm ch g k (k+1) ib io a b now out:=by
 refine⟨h.ra,h.rb,h.ro,fun d hd=>?_,h.kb,h.kn,h.ko,h.hg⟩
 cases a with
 |nil=>cases hd
 |cons c a=>
  have h1:=e c rfl
  have h2:=h.ka c (by simp)
  rcases aot.1 hd with rfl|hd
  ·omega
  ·have:=(apr.1 h.ra).1 d hd;omega
theorem mU.Vl(h:mU hm ch g k ia k io a b now out)(e:∀c,b.head? =some c→(ch c).length≠k):mU hm ch g k ia (k+1) io a b now out:=by
 refine⟨h.ra,h.rb,h.ro,h.ka,fun d hd=>?_,h.kn,h.ko,h.hg⟩
 cases b with
 |nil=>cases hd
 |cons c b=>
  have h1:=e c rfl
  have h2:=h.kb c (by simp)
  rcases aot.1 hd with rfl|hd
  ·omega
  ·have:=(apr.1 h.rb).1 d hd;omega
theorem mU.ae8(h:mU hm ch g k ia ib k a b (c::now) out):mU hm ch g k ia ib (k+1) a b now (out++[c]):=by
 have hc:=h.kn c (by simp)
 refine⟨h.ra,h.rb,?_,h.ka,h.kb,fun d hd=>h.kn d (by simp[hd]),fun d hd=>?_,fun d hd=>h.hg d ?_⟩
 ·unfold E7
  rw[apo]
  refine⟨h.ro,by simp,fun u hu v hv=>?_⟩
  rw[aoq.1 hv,hc]
  exact h.ko u hu
 ·rcases aou.1 hd with hd|hd
  ·have:=h.ko d hd;omega
  ·rw[aoq.1 hd];omega
 ·simp only[aou,aot,aqm,or_false]at hd ⊢
  rcases hd with h|h|h|h|h
  ·exact .inl h
  ·exact .inr (.inl h)
  ·exact .inr (.inr (.inl (.inr h)))
  ·exact .inr (.inr (.inr h))
  ·exact .inr (.inr (.inl (.inl h)))
theorem mU.aar(h:mU hm ch g k (k+1) (k+1) io a b [] out)(hio:io≤k+1):mU hm ch g (k+1) (k+1) (k+1) (k+1) a b [] out:=
 ⟨h.ra,h.rb,h.ro,h.ka,h.kb,by simp,fun c hc=>by have:=h.ko c hc;omega,h.hg⟩
theorem mU.aas(h:mU hm ch g k (k+1) (k+1) io a b [x,y] out)(hio:io≤k+1)(hp:p=x∨p=y)(hn:p∉a∧p∉b∧p∉out):mU hm (ay ch p (ch p++[q])) g (k+1) (k+1) (k+1) (k+1) a b [p] out:=by
 have ne:∀c,c≠p→ay ch p (ch p++[q]) c=ch c:=fun c h=>by unfold ay;rw[if_neg h]
 have na:ay ch p (ch p++[q]) p=ch p++[q]:=by unfold ay;rw[if_pos rfl]
 have fa:∀c∈a,ay ch p (ch p++[q]) c=ch c:=fun c hc=>ne c fun e=>hn.1 (by rw[←e];exact hc)
 have fb:∀c∈b,ay ch p (ch p++[q]) c=ch c:=fun c hc=>ne c fun e=>hn.2.1 (by rw[←e];exact hc)
 have fo:∀c∈out,ay ch p (ch p++[q]) c=ch c:=fun c hc=>ne c fun e=>hn.2.2 (by rw[←e];exact hc)
 have vA:p∈[x,y]:=by rcases hp with h|h<;>simp[h]
 refine⟨h.ra.frame fun c hc=>by rw[fa c hc],h.rb.frame fun c hc=>by rw[fb c hc],h.ro.frame fun c hc=>by rw[fo c hc],fun c hc=>by rw[fa c hc];exact h.ka c hc,fun c hc=>by rw[fb c hc];exact h.kb c hc,fun c hc=>?_,fun c hc=>?_,fun c hc=>h.hg c ?_⟩
 ·rw[aoq.1 hc,na,aor,h.kn p vA]
  rfl
 ·rw[fo c hc]
  have:=h.ko c hc
  omega
 ·rcases hc with h|h|h|h
  ·exact .inl h
  ·exact .inr (.inl h)
  ·rw[aoq.1 h];exact .inr (.inr (.inl vA))
  ·exact .inr (.inr (.inr h))
end
end Go.Proofs.YtjlnnljohemifaaGreat
