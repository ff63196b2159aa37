/- Texts put behind each other. -/
import Derived.Test.YthpjfeolagohkaaGreatK98
import Derived.Test.YthpjfeolagohkaaGreatProg
set_option maxRecDepth 100000
set_option maxHeartbeats 8000000
set_option linter.unusedVariables false
set_option linter.unusedSimpArgs false
namespace Go.Proofs.YthpjfeolagohkaaGreat
structure bC(lt:Int→Int→Bool):Prop where
 Es:∀a,lt a a=false
 tr:∀a b c,lt a b=true→lt b c=true→lt a c=true
 nt:∀a b c,lt a b=false→lt b c=false→lt a c=false
 PA:∀a b,a≠b→lt a b=true∨lt b a=true
theorem bC.asym{lt:Int→Int→Bool}(h:bC lt){a b:Int}(AG:lt a b=true):lt b a=false:=by
 cases hba:lt b a with
 |false=>rfl
 |true=>have:=h.tr a b a AG hba;rw[h.Es]at this;cases this
end Go.Proofs.YthpjfeolagohkaaGreat

namespace Go.Proofs.YthpjfeolagohkaaGreat
theorem sH{α:Type}{p q:α→Bool}:∀ {l:List α},(∀i,p i=true→q i=true)→∀ {x:α},x∈l→p x=false→q x=true→l.countP p<l.countP q:=by
 intro l Rx x hx hp hq
 induction l with
 |nil=>cases hx
 |cons a l ih=>
  rw[ard,ard]
  have oP:l.countP p≤l.countP q:=List.countP_mono_left (by grind)
  grind
section
variable {hm : Int → Int} {lt : Int → Int → Bool} {K : Int → Bool → Int} {U : Int → Int}
def eV(K:Int→Bool→Int)(p:Int)(c:Bool)(v:Int):Int→Bool→Int:=fun y d=>if y=p∧d=c then v else K y d
def aK(U:Int→Int)(x v:Int):Int→Int:=fun y=>if y=x then v else U y
def nQ(K:Int→Bool→Int)(p:Int):Int→Bool→Int:=fun y d=>if y=p then K y (!d)else K y d
def vB(K:Int→Bool→Int)(p x:Int)(c:Bool):=eV K p c x
def jg(K:Int→Bool→Int)(U:Int→Int)(x:Int):Int→Bool→Int:=if U x= -1 then K else eV K (U x) (K (U x) true==x) (-1)
def di(U:Int→Int)(x:Int):Int→Int:=aK U x (-1)
structure Bt(hm:Int→Int)(lt:Int→Int→Bool)(K:Int→Bool→Int)(U:Int→Int):Prop where
 h0:hm (-1)=0
 ku:∀p c x,K p c=x→x≠ -1→U x=p∧p≠ -1
 uk:∀x p,U x=p→p≠ -1→(∃c,K p c=x)∧x≠ -1∧hm p=hm x∧0<hm x∧lt p x=true
 two:∀p,K p false=K p true→K p false= -1
theorem Bt.home(h:Bt hm lt K U){p:Int}{c:Bool}(hk:K p c≠ -1):U (K p c)=p∧p≠ -1∧hm (K p c)=hm p∧0<hm p∧lt p (K p c)=true:=by
 cases h;grind
theorem Bt.kids(h:Bt hm lt K U){p x:Int}(hx:x≠ -1){c d:Bool}(h1:K p c=x)(h2:K p d=x):c=d:=by
 cases c<;>cases d
 ·rfl
 ·cases h;grind
 ·cases h;grind
 ·rfl
theorem Bt.side(h:Bt hm lt K U){x p:Int}(hu:U x=p)(hp:p≠ -1):K p (K p true==x)=x:=by
 obtain⟨⟨c,hc⟩,hx,_⟩:=h.uk x p hu hp
 cases c
 ·by_cases ht:K p true=x
  ·grind
  grind
 grind
theorem jh(h:Bt hm lt K U)(x:Int)(hx:x≠ -1)(p:Int)(c:Bool):jg K U x p c=if K p c=x then -1 else K p c:=by
 unfold jg
 by_cases hu:U x= -1
 ·cases h;grind
 ·rw[if_neg hu]
  unfold eV
  by_cases hk:K p c=x
  ·obtain⟨h1,h2⟩:=h.ku p c x hk hx
   have e:p=U x∧c=(K (U x) true==x):=⟨h1.symm,by rw[h1];exact h.kids hx hk (h.side h1 h2)⟩
   grind
  ·rw[if_neg hk,if_neg]
   rintro⟨rfl,rfl⟩
   exact hk (h.side rfl hu)
theorem Bt.cut(h:Bt hm lt K U)(x:Int)(hx:x≠ -1):Bt hm lt (jg K U x) (di U x):=by
 refine⟨h.h0,fun p c y hk hy=>?_,fun y p hu hp=>?_,fun p he=>?_⟩
 ·rw[jh h x hx]at hk
  split at hk
  ·omega
  ·rename_i aR
   obtain⟨h1,h2⟩:=h.ku p c y hk hy
   refine⟨?_,h2⟩
   unfold di aK
   omega
 ·unfold di aK at hu
  split at hu
  ·omega
  ·rename_i aR
   obtain⟨⟨c,hc⟩,h2⟩:=h.uk y p hu hp
   exact⟨⟨c,by grind [jh]⟩,h2⟩
 ·rw[jh h x hx,jh h x hx]at he
  rw[jh h x hx]
  cases h;grind
theorem Bt.EH(h:Bt hm lt K U){p x:Int}{c:Bool}(hp:p≠ -1)(hx:x≠ -1)(hk:K p c= -1)(hu:U x= -1)(hh:hm p=hm x)(h0:0<hm x)(hl:lt p x=true):Bt hm lt (vB K p x c) (aK U x p):=by
 refine⟨h.h0,fun q d y hq hy=>?_,fun y q hq RC=>?_,fun q he=>?_⟩
 ·unfold vB eV at hq
  cases h;grind [aK]
 ·unfold aK at hq
  split at hq
  ·rename_i h1
   subst h1;subst hq
   exact⟨⟨c,by unfold vB eV;grind⟩,hx,hh,h0,hl⟩
  ·obtain⟨⟨d,hd⟩,h2,h3⟩:=h.uk y q hq RC
   refine⟨⟨d,?_⟩,h2,h3⟩
   unfold vB eV
   grind
 ·unfold vB eV at he ⊢
  cases h;grind
theorem Bt.uA(h:Bt hm lt K U)(p:Int):Bt hm lt (nQ K p) U:=by
 refine⟨h.h0,fun q d y hq hy=>?_,fun y q hq RC=>?_,fun q he=>?_⟩
 ·cases h;grind [nQ]
 ·obtain⟨⟨d,hd⟩,h2⟩:=h.uk y q hq RC
  refine⟨?_,h2⟩
  by_cases e:q=p
  ·exact⟨!d,by grind [nQ]⟩
  ·exact⟨d,by grind [nQ]⟩
 cases h;grind [nQ]
structure Mg(hm:Int→Int)(lt:Int→Int→Bool)(h:Int)(R:Int→Prop)(K:Int→Bool→Int)(U:Int→Int)(ec:List Int)(a b:Int):Prop where
 bt:Bt hm lt K U
 wa:a= -1∨(hm a=h∧U a= -1)
 wb:b= -1∨(hm b=h∧U b= -1)
 ab:a=b→a= -1
 wy:∀v∈ec,v≠ -1∧hm v=h∧U v= -1∧K v true= -1∧(a≠ -1→lt v a=true)∧(b≠ -1→lt v b=true)
 srt:ec.Pairwise fun x y=>lt x y=true
 E5:∀x,0<hm x→(U x= -1↔x∈ec∨x=a∨x=b∨R x)
 pos:0<h
 nr:∀x,R x→0<hm x∧x∉ec∧x≠a∧x≠b
theorem Mg.start{h a b:Int}(bt:Bt hm lt K U)(h0:0<h)(wa:a= -1∨(hm a=h∧U a= -1))(wb:b= -1∨(hm b=h∧U b= -1))(ab:a=b→a= -1):Mg hm lt h (fun x=>0<hm x∧U x= -1∧x≠a∧x≠b) K U [] a b:=
 ⟨bt,wa,wb,ab,by simp,by simp,fun x hx=>by
  cases bt;grind,h0,by grind⟩
variable {h : Int} {R : Int → Prop} {ec : List Int} {a b : Int}
theorem Mg.swap(m:Mg hm lt h R K U ec a b):Mg hm lt h R K U ec b a:=
 ⟨m.bt,m.wb,m.wa,fun e=>by rw[e];exact m.ab e.symm,fun v hv=>by cases m;grind,m.srt,fun x hx=>by cases m;grind,m.pos,fun x hx=>by cases m;grind⟩
theorem pM{α:Type}{r:α→α→Prop}{l:List α}{x:α}:(l++[x]).Pairwise r↔l.Pairwise r∧∀y∈l,r y x:=by
 grind
theorem Mg.down(hs:bC lt)(m:Mg hm lt h R K U ec a b)(ha:a≠ -1)(hb:b≠ -1)(hl:lt a b=true):
  Mg hm lt h R (if K a true= -1 then K else jg K U (K a true)) (if K a true= -1 then U else di U (K a true)) (ec++[a]) (K a true) b:=by
 obtain⟨a1,a2⟩:=m.wa.resolve_left ha
 obtain⟨b1,b2⟩:=m.wb.resolve_left hb
 by_cases hk:K a true= -1
 ·rw[if_pos hk,if_pos hk,hk]
  refine⟨m.bt,.inl rfl,m.wb,fun e=>rfl,fun v hv=>?_,pM.2 ⟨m.srt,fun v hv=>(m.wy v hv).2.2.2.2.1 ha⟩,fun x hx=>?_,m.pos,fun x hx=>?_⟩
  ·cases m;grind
  ·rw[m.E5 x hx,aqq,aql]
   constructor
   ·grind
   ·rintro((h1|h1)|h1|h1|h1)
    ·grind
    ·omega
    ·rw[h1,m.bt.h0]at hx;omega
    ·omega
    grind
  ·obtain⟨h1,h2,h3,h4⟩:=m.nr x hx
   refine⟨h1,?_,fun e=>by rw[e,m.bt.h0]at h1;omega,h4⟩
   grind
 ·rw[if_neg hk,if_neg hk]
  obtain⟨k1,k2,k3,k4,k5⟩:=m.bt.home hk
  have kb:K a true≠b:=by grind
  have kv:∀v∈ec,v≠K a true:=fun v hv e=>by
   cases m;grind
  have ka:a≠K a true:=by grind
  refine⟨m.bt.cut _ hk,.inr ⟨by omega,by unfold di aK;omega⟩,.inr ⟨b1,?_⟩,by omega,fun v hv=>?_,pM.2 ⟨m.srt,fun v hv=>(m.wy v hv).2.2.2.2.1 ha⟩,fun x hx=>?_,m.pos,fun x hx=>?_⟩
  ·unfold di aK
   omega
  ·rcases aqq.1 hv with hv|hv
   ·obtain⟨h1,h2,h3,h4,h5,h6⟩:=m.wy v hv
    refine⟨h1,h2,?_,?_,fun _=>hs.tr _ _ _ (h5 ha) k5,h6⟩
    ·unfold di aK
     omega
    cases m;grind [jh]
   ·rw[aql]at hv
    subst hv
    refine⟨ha,a1,?_,?_,fun _=>k5,fun _=>hl⟩
    ·unfold di aK
     omega
    ·rw[jh m.bt _ hk,if_pos rfl]
  ·rw[aqq,aql]
   unfold di aK
   cases m;grind
  cases m;grind
theorem Mg.back{v r:Int}(m:Mg hm lt h R K U (ec++[v]) r (-1))(hs:bC lt):
  Mg hm lt h R (if r= -1 then K else vB K v r true) (if r= -1 then U else aK U r v) ec v (-1):=by
 obtain⟨v1,v2,v3,v4,v5,v6⟩:=m.wy v (by simp)
 obtain⟨s1,s2⟩:=pM.1 m.srt
 have nv:∀u∈ec,u≠v:=fun u hu e=>by
  have:=s2 u hu
  rw[e,hs.Es]at this
  cases this
 have nrv:∀x,R x→0<hm x∧x∉ec∧x≠v∧x≠ -1:=fun x hx=>by
  obtain⟨h1,h2,h3,h4⟩:=m.nr x hx
  rw[aqq,aql,not_or]at h2
  exact⟨h1,h2.1,h2.2,h4⟩
 by_cases hr:r= -1
 ·rw[if_pos hr,if_pos hr]
  refine⟨m.bt,.inr ⟨v2,v3⟩,.inl rfl,fun e=>e,fun u hu=>?_,s1,fun x hx=>?_,m.pos,fun x hx=>nrv x hx⟩
  ·obtain⟨h1,h2,h3,h4,h5,h6⟩:=m.wy u (by simp[hu])
   exact⟨h1,h2,h3,h4,fun _=>s2 u hu,fun h=>absurd rfl h⟩
  ·rw[m.E5 x hx,aqq,aql]
   constructor
   ·rintro((h1|h1)|h1|h1|h1)
    ·exact .inl h1
    ·exact .inr (.inl h1)
    ·rw[h1,hr,m.bt.h0]at hx;omega
    ·exact .inr (.inr (.inl h1))
    ·exact .inr (.inr (.inr h1))
   ·rintro(h1|h1|h1|h1)
    ·exact .inl (.inl h1)
    ·exact .inl (.inr h1)
    ·exact .inr (.inr (.inl h1))
    ·exact .inr (.inr (.inr h1))
 ·rw[if_neg hr,if_neg hr]
  obtain⟨r1,r2⟩:=m.wa.resolve_left hr
  have ru:∀u∈ec++[v],u≠r:=fun u hu e=>by
   have:=(m.wy u hu).2.2.2.2.1 hr
   rw[e,hs.Es]at this
   cases this
  have rv:=ru v (by simp)
  refine⟨m.bt.EH v1 hr v4 r2 (by rw[v2,r1]) (by rw[r1];exact m.pos) (v5 hr),.inr ⟨v2,?_⟩,.inl rfl,fun e=>e,fun u hu=>?_,s1,fun x hx=>?_,m.pos,fun x hx=>nrv x hx⟩
  ·unfold aK
   rw[if_neg rv]
   exact v3
  ·obtain⟨h1,h2,h3,h4,h5,h6⟩:=m.wy u (by simp[hu])
   refine⟨h1,h2,?_,?_,fun _=>s2 u hu,fun h=>absurd rfl h⟩
   ·unfold aK
    rw[if_neg (ru u (by simp[hu]))]
    exact h3
   ·unfold vB eV
    rw[if_neg (fun e=>nv u hu e.1)]
    exact h4
  ·unfold aK
   by_cases e:x=r
   ·rw[if_pos e]
    constructor
    ·intro e1
     exact absurd e1 v1
    ·rintro(h1|h1|h1|h1)
     ·exact absurd e (ru x (by simp[h1]))
     ·exact absurd (h1.symm.trans e) rv
     ·rw[h1,m.bt.h0]at hx;omega
     ·exact absurd e (m.nr x h1).2.2.1
   ·rw[if_neg e,m.E5 x hx,aqq,aql]
    constructor
    ·rintro((h1|h1)|h1|h1|h1)
     ·exact .inl h1
     ·exact .inr (.inl h1)
     ·exact absurd h1 e
     ·exact .inr (.inr (.inl h1))
     ·exact .inr (.inr (.inr h1))
    ·rintro(h1|h1|h1|h1)
     ·exact .inl (.inl h1)
     ·exact .inl (.inr h1)
     ·exact .inr (.inr (.inl h1))
     ·exact .inr (.inr (.inr h1))
theorem Mg.uA{r:Int}(m:Mg hm lt h R K U ec r (-1))(hs:bC lt):Mg hm lt h R (nQ K r) U ec r (-1):=by
 by_cases hr:r= -1
 ·have e:nQ K r=K:=by
   funext y d
   unfold nQ
   split
   ·rename_i e
    subst e;subst hr
    have h1:∀c,K (-1) c= -1:=fun c=>by
     by_cases hc:K (-1) c= -1
     ·exact hc
     ·exact absurd rfl (m.bt.home hc).2.1
    grind
   ·rfl
  grind
 refine⟨m.bt.uA r,m.wa,m.wb,m.ab,fun v hv=>?_,m.srt,m.E5,m.pos,m.nr⟩
 cases m;cases hs;grind [nQ]
structure BO(hm:Int→Int)(lt:Int→Int→Bool)(K:Int→Bool→Int)(U:Int→Int)(T:Int→Int):Prop where
 bt:Bt hm lt K U
 t1:∀h,T h≠ -1→hm (T h)=h∧0<h∧U (T h)= -1
 t2:∀x,0<hm x→U x= -1→T (hm x)=x
def jj(T:Int→Int)(h x:Int):Int→Int:=fun y=>if y=h then x else T y
theorem Mg.done{T:Int→Int}{r:Int}(m:Mg hm lt h R K U [] r (-1))(ht:∀g,g≠h→T g≠ -1→hm (T g)=g∧0<g∧R (T g))(hR:∀x,R x→hm x≠h∧T (hm x)=x):BO hm lt K U (jj T h r):=by
 refine⟨m.bt,fun g hg=>?_,fun x hx hu=>?_⟩
 ·cases m;grind [jj]
 ·unfold jj
  rcases(m.E5 x hx).1 hu with h1|h1|h1|h1
  ·grind
  ·subst h1
   have hr:x≠ -1:=fun e=>by rw[e,m.bt.h0]at hx;omega
   cases m;grind
  ·rw[h1,m.bt.h0]at hx;omega
  grind
theorem BO.first{T:Int→Int}(t:BO hm lt K U T){x:Int}(h0:0<hm x)(hf:∀y,hm y=hm x→y≠x→lt x y=true)(hs:bC lt):T (hm x)=x:=by
 refine t.t2 x h0 ?_
 apply aqt
 intro hu
 obtain⟨_,h1,h2,h3,h4⟩:=t.bt.uk x _ rfl hu
 by_cases e:U x=x
 ·rw[e,hs.Es]at h4;cases h4
 ·have:=hs.asym (hf _ h2 e)
  grind
theorem BO.least{T:Int→Int}(t:BO hm lt K U T)(hs:bC lt){n:Nat}(hn:∀y,0<hm y→0≤y∧y<n){h:Int}(ht:T h≠ -1){y:Int}(hy:hm y=h)(aR:y≠T h):lt (T h) y=true:=by
 obtain⟨h1,h2,h3⟩:=t.t1 h ht
 have key:∀k:Nat,∀y:Int,hm y=h→y≠T h→((List.range n).filter fun(i:Nat)=>lt i y).length≤k→lt (T h) y=true:=by
  intro k
  induction k with
  |zero=>
   intro y hy aR hk
   by_cases hu:U y= -1
   ·cases t;grind
   ·obtain⟨_,_,h5,h6,h7⟩:=t.bt.uk y _ rfl hu
    have h8:=hn (U y) (by omega)
    have:(U y).toNat∈(List.range n).filter fun(i:Nat)=>lt i y:=by grind
    grind
  |succ k ih=>
   intro y hy aR hk
   by_cases hu:U y= -1
   ·cases t;grind
   ·obtain⟨_,_,h5,h6,h7⟩:=t.bt.uk y _ rfl hu
    by_cases e:U y=T h
    ·grind
    ·have h8:=hn (U y) (by omega)
     refine hs.tr _ _ _ (ih (U y) (by omega) e ?_) h7
     have h9:((List.range n).filter fun(i:Nat)=>lt i (U y)).length< ((List.range n).filter fun(i:Nat)=>lt i y).length:=by
      rw[←List.countP_eq_length_filter,←List.countP_eq_length_filter]
      have:∀l:List Nat,(∀i∈l,lt i (U y)=true→lt i y=true):=fun l i _ h=>hs.tr _ _ _ h h7
      refine sH (fun i hi=>hs.tr _ _ _ hi h7) (x:=(U y).toNat) (by grind) ?_ ?_
      ·cases hs;grind
      ·grind
     omega
 exact key _ y hy aR (aqm _)
theorem Bt.up0(h:Bt hm lt K U):U (-1)= -1:=aqt fun hn=>(h.uk (-1) _ rfl hn).2.1 rfl
theorem BP(h:Bt hm lt K U):jg K U (-1)=K∧di U (-1)=U:=by
 have h0:=h.up0
 refine⟨by unfold jg;grind,?_⟩
 funext z
 unfold di aK
 grind
theorem Mg.Sv{h:Int}{R:Int→Prop}{ec:List Int}{a b:Int}(hs:bC lt)(m:Mg hm lt h R K U ec a b)(ha:a≠ -1)(hb:b≠ -1)(hl:lt a b=true):
  Mg hm lt h R (jg K U (K a true)) (di U (K a true)) (ec++[a]) (K a true) b:=by
 have:=m.down hs ha hb hl
 cases m;grind [BP]
theorem Jw:∀ (n:Nat) (l:List Nat),l.Nodup→(∀x∈l,x<n)→l.length≤n:=by
 intro n
 induction n with
 |zero=>
  intro l _ hb
  cases l with
  |nil=>grind
  |cons a l=>exact absurd (hb a (by simp)) (by omega)
 |succ n ih=>
  intro l hn hb
  have h1:=ih (l.erase n) (hn.erase n) fun x hx=>by
   obtain⟨h2,h3⟩:=(List.Nodup.mem_erase_iff hn).1 hx
   have:=hb x h3
   omega
  rw[List.length_erase]at h1
  split at h1<;>omega
theorem cf{l:List Int}{n:Nat}(hn:l.Nodup)(hb:∀x∈l,0≤x∧x<n):l.length≤n:=by
 have h1:(l.map Int.toNat).Nodup:=by
  rw[List.nodup_iff_pairwise_ne]at*
  rw[List.pairwise_map]
  refine List.Pairwise.imp_of_mem (fun{a b} ha lI aR e=>aR ?_) hn
  have:=hb a ha
  have:=hb b lI
  omega
 have h2:=Jw n _ h1 fun x hx=>by
  obtain⟨y,hy,rfl⟩:=aqK.1 hx
  have:=hb y hy
  omega
 rwa[aqr]at h2
theorem Mg.nodup{h:Int}{R:Int→Prop}{ec:List Int}{a b:Int}(hs:bC lt)(m:Mg hm lt h R K U ec a b):ec.Nodup:=by
 rw[List.nodup_iff_pairwise_ne]
 exact m.srt.imp fun{x y} hl e=>by rw[e,hs.Es]at hl;cases hl
def Ol(lt:Int→Int→Bool)(n:Nat)(x:Int):Nat:=(List.range n).countP fun(i:Nat)=>lt i x
theorem FM(hs:bC lt){n:Nat}{p x:Int}(hp:0≤p∧p<n)(hl:lt p x=true):Ol lt n p<Ol lt n x:=by
 unfold Ol
 refine sH (fun i hi=>hs.tr _ _ _ hi hl) (x:=p.toNat) (by grind) ?_ ?_
 ·cases hs;grind
 grind
end
end Go.Proofs.YthpjfeolagohkaaGreat

namespace Go.Proofs.YthpjfeolagohkaaGreat
section
variable {hm hm' : Int → Int} {lt lt' : Int → Int → Bool} {K K0 : Int → Bool → Int} {U U0 : Int → Int}
theorem Bt.other(b:Bt hm lt K U)(h0:hm' (-1)=0)(h:∀x p,U x=p→p≠ -1→hm p=hm x→0<hm x→lt p x=true→hm' p=hm' x∧0<hm' x∧lt' p x=true):Bt hm' lt' K U:=
 ⟨h0,b.ku,fun x p hu hp=>by
  cases b;grind,b.two⟩
theorem Bt.alone(b:Bt hm lt K U){x:Int}(hx:hm x≤0)(qd:x≠ -1):U x= -1∧∀y,U y≠x:=by
 cases b;grind
theorem Bt.U4(h:Bt hm lt K U)(x:Int):Bt hm lt (jg K U x) (di U x):=by
 by_cases hx:x= -1
 ·subst hx
  obtain⟨h1,h2⟩:=BP h
  grind
 ·exact h.cut x hx
theorem qS(h:Bt hm lt K U)(x p:Int)(c:Bool):jg K U x p c=if x≠ -1∧K p c=x then -1 else K p c:=by
 by_cases hx:x= -1
 ·subst hx
  rw[(BP h).1,if_neg (by simp)]
 ·rw[jh h x hx]
  omega
theorem Bt.bare(h:Bt hm lt K U)(x:Int):
  Bt hm lt (jg (jg K U (K x false)) (di U (K x false)) (K x true)) (di (di U (K x false)) (K x true))∧
  (∀c,jg (jg K U (K x false)) (di U (K x false)) (K x true) x c= -1)∧
  (∀p c,p≠x→jg (jg K U (K x false)) (di U (K x false)) (K x true) p c=K p c)∧
  (∀y,di (di U (K x false)) (K x true) y=if y=K x false∨y=K x true then -1 else U y):=by
 have b1:=h.U4 (K x false)
 refine⟨b1.U4 _,fun c=>?_,fun p c hp=>?_,fun y=>?_⟩
 ·rw[qS b1,qS h]
  cases c
  ·omega
  omega
 ·have key:∀d,K x d≠ -1→K p c≠K x d:=fun d hd e=>by
   have h1:=(h.home (p:=x) (c:=d) hd).1
   have h2:=(h.home (p:=p) (c:=c) (by omega)).1
   grind
  grind [qS]
 ·unfold di aK
  grind
structure xT(lt:Int→Int→Bool)(K0:Int→Bool→Int)(U0:Int→Int)(x0:Int)(K:Int→Bool→Int)(U:Int→Int)(ec:List Int)(a b:Int):Prop where
 wv:∀v∈ec,lt x0 v=true
 wa:a≠ -1→lt x0 a=true
 wb:b≠ -1→lt x0 b=true
 fr:∀y,lt x0 y=false→K y=K0 y∧U y=U0 y
variable {x0 a b : Int} {ec : List Int}
theorem xT.start(ha:a≠ -1→lt x0 a=true)(hb:b≠ -1→lt x0 b=true):xT lt K0 U0 x0 K0 U0 [] a b:=⟨by simp,ha,hb,by grind⟩
theorem xT.swap(m:xT lt K0 U0 x0 K U ec a b):xT lt K0 U0 x0 K U ec b a:=⟨m.wv,m.wb,m.wa,m.fr⟩
theorem xT.down(hs:bC lt)(bt:Bt hm lt K U)(m:xT lt K0 U0 x0 K U ec a b)(ha:a≠ -1):xT lt K0 U0 x0 (jg K U (K a true)) (di U (K a true)) (ec++[a]) (K a true) b:=by
 have h1:=m.wa ha
 refine⟨fun v hv=>?_,fun hk=>hs.tr _ _ _ h1 (bt.home hk).2.2.2.2,m.wb,fun y hy=>?_⟩
 ·cases m;grind
 ·obtain⟨f1,f2⟩:=m.fr y hy
  rw[←f1,←f2]
  constructor
  ·funext c
   rw[qS bt,if_neg]
   rintro⟨e1,e2⟩
   have:=(bt.home (p:=a) (c:=true) e1).1
   have h3:=(bt.home (p:=y) (c:=c) (by omega)).1
   grind
  ·unfold di aK
   split
   ·rename_i e
    by_cases e1:K a true= -1
    ·rw[e,e1,bt.up0]
    ·have:=hs.tr _ _ _ h1 (bt.home e1).2.2.2.2
     grind
   ·rfl
theorem xT.back(m:xT lt K0 U0 x0 K U (ec++[b]) a (-1)):xT lt K0 U0 x0 (if a= -1 then K else vB K b a true) (if a= -1 then U else aK U a b) ec b (-1):=by
 have h1:=m.wv b (by simp)
 refine⟨fun v hv=>m.wv v (by simp[hv]),fun _=>h1,by omega,fun y hy=>?_⟩
 obtain⟨f1,f2⟩:=m.fr y hy
 by_cases ha:a= -1
 ·grind
 ·rw[if_neg ha,if_neg ha]
  have h2:=m.wa ha
  constructor
  ·rw[←f1]
   funext c
   unfold vB eV
   grind
  grind [aK]
theorem xT.uA(m:xT lt K0 U0 x0 K U ec a (-1))(ha:a≠ -1):xT lt K0 U0 x0 (nQ K a) U ec a (-1):=by
 refine⟨m.wv,m.wa,m.wb,fun y hy=>?_⟩
 cases m;grind [nQ]
structure U5(hm:Int→Int)(lt:Int→Int→Bool)(K:Int→Bool→Int)(U:Int→Int)(T:Int→Int)(g x:Int):Prop where
 bt:Bt hm lt K U
 t1:∀h,T h≠ -1→hm (T h)=h∧0<h∧U (T h)= -1
 t2:∀y,0<hm y→U y= -1→y≠x→T (hm y)=y
 ox:hm x=g∧U x= -1
 nx:T g≠x
 g0:0<g
variable {T : Int → Int} {g x : Int}
theorem U5.mg(o:U5 hm lt K U T g x):Mg hm lt g (fun y=>0<hm y∧U y= -1∧y≠T g∧y≠x) K U [] (T g) x:=
 Mg.start o.bt o.g0 (by
  cases o;grind) (.inr o.ox) (fun e=>absurd e o.nx)
theorem U5.done{K':Int→Bool→Int}{U':Int→Int}{r:Int}(o:U5 hm lt K U T g x)(m:Mg hm lt g (fun y=>0<hm y∧U y= -1∧y≠T g∧y≠x) K' U' [] r (-1)):BO hm lt K' U' (jj T g r):=
 m.done (fun h aR hh=>by
  cases o;grind) (fun y hy=>by
  cases o;grind)
theorem BO.ins(t:BO hm lt K U T)(h0:hm' (-1)=0)(hx:hm x≤0)(qd:x≠ -1)(hg:0<g)(e1:hm' x=g)(e2:∀y,y≠x→hm' y=hm y)(el:∀a b,0<hm a→0<hm b→a≠x→b≠x→lt' a b=lt a b):U5 hm' lt' K U T g x:=by
 obtain⟨a1,a2⟩:=t.bt.alone hx qd
 have tx:∀h,T h≠x:=fun h e=>by
  cases t;grind
 refine⟨t.bt.other h0 fun y p hu hp h1 h2 h3=>?_,fun h hh=>?_,fun y hy hu aR=>?_,⟨e1,a1⟩,tx g,hg⟩
 ·have n1:p≠x:=fun e=>a2 y (by omega)
  have n2:y≠x:=fun e=>by rw[e]at h2;omega
  rw[e2 _ n1,e2 _ n2,el _ _ (by omega) h2 n1 n2]
  exact⟨h1,h2,h3⟩
 ·cases t;grind
 ·rw[e2 _ aR]at hy ⊢
  exact t.t2 y hy hu
theorem BO.low(t:BO hm lt K U T)(hx:0<hm x)(hu:U x≠ -1)(el:∀a b,0<hm a→0<hm b→a≠x→b≠x→lt' a b=lt a b)(ex:∀b,0<hm b→b≠x→lt x b=true→lt' x b=true)(hs:bC lt):U5 hm lt' (jg K U x) (di U x) T (hm x) x:=by
 have qd:x≠ -1:=fun e=>by rw[e,t.bt.h0]at hx;omega
 have b1:=t.bt.cut x qd
 have uu:∀y,di U x y=if y=x then -1 else U y:=fun y=>rfl
 refine⟨b1.other t.bt.h0 fun y p hu hp h1 h2 h3=>⟨h1,h2,?_⟩,fun h hh=>?_,fun y hy hu aR=>?_,⟨rfl,by rw[uu,if_pos rfl]⟩,fun e=>?_,hx⟩
 ·have n2:y≠x:=fun e=>by rw[uu,if_pos e]at hu;omega
  by_cases n1:p=x
  ·rw[n1]at h3 ⊢
   exact ex y h2 n2 h3
  ·rw[el _ _ (by omega) h2 n1 n2];exact h3
 ·cases t;grind
 ·rw[uu,if_neg aR]at hu
  exact t.t2 y hy hu
 ·have:=(t.t1 (hm x) (by omega)).2.2
  rw[e]at this
  omega
theorem BO.U6(t:BO hm lt K U T)(hx:0<hm x)(hu:U x= -1)(el:∀a b,0<hm a→0<hm b→a≠x→b≠x→lt' a b=lt a b)(ex:∀b,0<hm b→b≠x→lt x b=true→lt' x b=true)(hs:bC lt):BO hm lt' K U T:=by
 have qd:x≠ -1:=fun e=>by rw[e,t.bt.h0]at hx;omega
 refine⟨t.bt.other t.bt.h0 fun y p hu' hp h1 h2 h3=>⟨h1,h2,?_⟩,t.t1,t.t2⟩
 have n2:y≠x:=fun e=>by rw[e,hu]at hu';omega
 by_cases n1:p=x
 ·rw[n1]at h3 ⊢
  exact ex y h2 n2 h3
 ·rw[el _ _ (by omega) h2 n1 n2];exact h3
theorem Bt.drop(b:Bt hm lt K U)(hux:U x= -1)(bO:∀y,U y≠x)(h0:hm' (-1)=0)(e1:hm' x=0)(e2:∀y,y≠x→hm' y=hm y)(el:∀a b,0<hm a→0<hm b→a≠x→b≠x→lt' a b=lt a b)
  (t1:∀h,T h≠ -1→hm (T h)=h∧0<h∧U (T h)= -1∧T h≠x)(t2:∀y,0<hm y→U y= -1→y≠x→T (hm y)=y):BO hm' lt' K U T:=by
 refine⟨b.other h0 fun y p hu hp h1 h2 h3=>?_,fun h hh=>?_,fun y hy hu=>?_⟩
 ·grind
 ·grind
 ·have aR:y≠x:=fun e=>by rw[e,e1]at hy;omega
  rw[e2 _ aR]at hy ⊢
  exact t2 y hy hu aR
structure BQ(hm:Int→Int)(lt:Int→Int→Bool)(K:Int→Bool→Int)(U:Int→Int)(T:Int→Int)(x:Int)(K2:Int→Bool→Int)(U2:Int→Int)(r:Int):Prop where
 bt:Bt hm lt K2 U2
 kx:∀c,K2 x c= -1
 kp:∀p c,U x=p→p≠ -1→K2 p c=K p c
 ux:U2 x=U x
 rx:r≠ -1→hm r=hm x∧U2 r= -1∧r≠x∧lt x r=true
 E5:∀y,0<hm y→(U2 y= -1↔y=r∨U y= -1)
theorem BO.Wv(t:BO hm lt K U T)(hs:bC lt)(hx:0<hm x){K1 K2:Int→Bool→Int}{U1 U2:Int→Int}{r:Int}
  (k1:K1=jg (jg K U (K x false)) (di U (K x false)) (K x true))(u1:U1=di (di U (K x false)) (K x true))
  (m:Mg hm lt (hm x) (fun y=>0<hm y∧U1 y= -1∧y≠K x false∧y≠K x true) K2 U2 [] r (-1))(f:xT lt K1 U1 x K2 U2 [] r (-1)):BQ hm lt K U T x K2 U2 r:=by
 obtain⟨b1,b2,b3,b4⟩:=t.bt.bare x
 rw[←k1,←u1]at b1
 rw[←k1]at b2 b3
 rw[←u1]at b4
 have qd:x≠ -1:=fun e=>by rw[e,t.bt.h0]at hx;omega
 have kne:∀c,K x c≠x:=fun c e=>by
  have:=(t.bt.home (p:=x) (c:=c) (by omega)).2.2.2.2
  rw[e,hs.Es]at this
  grind
 obtain⟨f1,f2⟩:=f.fr x (hs.Es x)
 refine⟨m.bt,fun c=>by rw[f1];grind,fun p c hp No=>?_,?_,fun hr=>?_,fun y hy=>?_⟩
 ·have h1:=(t.bt.uk x p hp No).2.2.2.2
  obtain⟨f3,f4⟩:=f.fr p (hs.asym h1)
  cases hs;grind
 ·grind
 ·cases m;cases f;grind
 ·rw[m.E5 y hy]
  have Ud:y≠ -1:=fun e=>by rw[e,t.bt.h0]at hy;omega
  have hk:U y= -1→y≠K x false∧y≠K x true:=fun hu=>by
   refine⟨fun e=>?_,fun e=>?_⟩
   ·have:=(t.bt.home (p:=x) (c:=false) (by omega)).1
    grind
   ·have:=(t.bt.home (p:=x) (c:=true) (by omega)).1
    grind
  grind
variable {K2 : Int → Bool → Int} {U2 : Int → Int} {r : Int}
theorem BQ.none(d:BQ hm lt K U T x K2 U2 r)(qd:x≠ -1)(y:Int):U2 y≠x:=fun e=>by
 obtain⟨⟨c,hc⟩,h2,_⟩:=d.bt.uk y x e qd
 rw[d.kx c]at hc
 omega
theorem BQ.Nk(d:BQ hm lt K U T x K2 U2 r)(t:BO hm lt K U T)(hx:0<hm x)(hu:U x= -1)(h0:hm' (-1)=0)(e1:hm' x=0)(e2:∀y,y≠x→hm' y=hm y)(el:∀a b,0<hm a→0<hm b→a≠x→b≠x→lt' a b=lt a b):
  BO hm' lt' K2 U2 (jj T (hm x) r):=by
 have qd:x≠ -1:=fun e=>by rw[e,t.bt.h0]at hx;omega
 have tx:=t.t2 x hx hu
 refine d.bt.drop (by rw[d.ux,hu]) (d.none qd) h0 e1 e2 el (fun h hh=>?_) (fun y hy FY aR=>?_)
 ·cases d;cases t;grind [jj]
 cases d;cases t;grind [jj]
theorem BQ.cut(d:BQ hm lt K U T x K2 U2 r)(t:BO hm lt K U T)(hs:bC lt)(hx:0<hm x)(hu:U x≠ -1):
  (r= -1→Bt hm lt (jg K2 U2 x) (di U2 x))∧
  (r≠ -1→jg K2 U2 x (U x) (K (U x) true==x)= -1∧di U2 x r= -1∧U x≠r∧Bt hm lt (vB (jg K2 U2 x) (U x) r (K (U x) true==x)) (aK (di U2 x) r (U x))):=by
 have qd:x≠ -1:=fun e=>by rw[e,t.bt.h0]at hx;omega
 have b:=d.bt.cut x qd
 obtain⟨_,_,h3,h4,h5⟩:=t.bt.uk x _ rfl hu
 refine⟨fun _=>b,fun hr=>?_⟩
 obtain⟨r1,r2,r3,r4⟩:=d.rx hr
 have e1:jg K2 U2 x (U x) (K (U x) true==x)= -1:=by
  rw[jh d.bt x qd,if_pos]
  rw[d.kp _ _ rfl hu]
  exact t.bt.side rfl hu
 have e2:di U2 x r= -1:=by
  unfold di aK
  rw[if_neg r3];exact r2
 have h6:=hs.tr _ _ _ h5 r4
 exact⟨e1,e2,(fun e=>by rw[e,hs.Es]at h6;cases h6),b.EH hu hr e1 e2 (by rw[h3,r1]) (by rw[r1];exact hx) h6⟩
theorem BQ.below(d:BQ hm lt K U T x K2 U2 r)(t:BO hm lt K U T)(hs:bC lt){n:Nat}(hn:∀y,0<hm y→0≤y∧y<n)(hx:0<hm x)(hu:U x≠ -1){K3:Int→Bool→Int}{U3:Int→Int}(b:Bt hm lt K3 U3)(u3:U3=if r= -1 then di U2 x else aK (di U2 x) r (U x))
  (h0:hm' (-1)=0)(e1:hm' x=0)(e2:∀y,y≠x→hm' y=hm y)(el:∀a b,0<hm a→0<hm b→a≠x→b≠x→lt' a b=lt a b):BO hm' lt' K3 U3 T:=by
 have qd:x≠ -1:=by grind
 obtain⟨_,_,h3,h4,h5⟩:=t.bt.uk x _ rfl hu
 have ep:U x≠x:=fun e=>by rw[e,hs.Es]at h5;cases h5
 have rr:∀y,0<hm y→y≠x→(U3 y= -1↔U y= -1):=fun y hy aR=>by
  rw[u3]
  split
  ·rename_i hr
   unfold di aK
   cases d;grind
  ·rename_i hr
   obtain⟨r1,r2,r3,r4⟩:=d.rx hr
   unfold di aK
   by_cases hyr:y=r
   ·rw[if_pos hyr]
    refine⟨by omega,fun e=>?_⟩
    rw[hyr]at e
    have e3:=t.t2 r (by omega) e
    rw[r1]at e3
    have e4:=t.least hs hn (h:=hm x) (by omega) (y:=x) rfl (by omega)
    rw[e3]at e4
    rw[hs.asym e4]at r4
    cases r4
   cases d;grind
 have ux:U3 x= -1:=by
  rw[u3]
  split
  ·unfold di aK;omega
  ·rename_i hr
   obtain⟨r1,r2,r3,r4⟩:=d.rx hr
   unfold di aK
   omega
 have no:∀y,U3 y≠x:=fun y=>by
  rw[u3]
  split
  ·unfold di aK
   split
   ·omega
   ·exact d.none qd y
  ·unfold di aK
   split
   ·exact ep
   ·split
    ·omega
    ·exact d.none qd y
 refine b.drop ux no h0 e1 e2 el (fun h hh=>?_) (fun y hy FY aR=>t.t2 y hy (by grind))
 cases t;grind
end
end Go.Proofs.YthpjfeolagohkaaGreat

namespace Go.Proofs.YthpjfeolagohkaaGreat
structure U7(hm:Int→Int)(lt:Int→Int→Bool)(U:Int→Int)(T:Int→Int):Prop where
 uk:∀x p,U x=p→p≠ -1→hm p=hm x∧0<hm x∧lt p x=true
 t1:∀h,T h≠ -1→hm (T h)=h∧0<h∧U (T h)= -1
 t2:∀x,0<hm x→U x= -1→T (hm x)=x
theorem U7.first{hm:Int→Int}{lt:Int→Int→Bool}{U T:Int→Int}(t:U7 hm lt U T){x:Int}(h0:0<hm x)(hf:∀y,hm y=hm x→y≠x→lt x y=true)(hs:bC lt):T (hm x)=x:=by
 refine t.t2 x h0 ?_
 apply aqt
 intro hu
 obtain⟨h2,h3,h4⟩:=t.uk x _ rfl hu
 by_cases e:U x=x
 ·rw[e,hs.Es]at h4;cases h4
 ·have:=hs.asym (hf _ h2 e)
  grind
section
variable {hm hm' : Int → Int} {lt lt' : Int → Int → Bool} {ch IF : Int → List Int} {par : Int → Int}
structure Pr(hm:Int→Int)(lt:Int→Int→Bool)(ch:Int→List Int)(par:Int→Int):Prop where
 h0:hm (-1)=0
 dn:∀x c,c∈ch x→par c=x∧x≠ -1∧hm x=hm c∧0<hm c∧lt x c=true
 up:∀c x,par c=x→x≠ -1→c∈ch x
 nd:∀x,(ch x).Nodup
theorem Pr.ne(p:Pr hm lt ch par){x c:Int}(h:c∈ch x):c≠ -1:=fun e=>by
 cases p;grind
def nR(ch:Int→List Int)(a b:Int):Int→List Int:=fun x=>if x=a then b::ch a else ch x
theorem Pr.link(p:Pr hm lt ch par){a b:Int}(ha:a≠ -1)(hb:par b= -1)(hh:hm a=hm b)(h0:0<hm b)(hl:lt a b=true):Pr hm lt (nR ch a b) (aK par b a):=by
 refine⟨p.h0,fun x c hc=>?_,fun c x hc hx=>?_,fun x=>?_⟩
 ·cases p;grind [aK,nR]
 ·cases p;grind [aK,nR]
 cases p;grind [nR]
def aA(ch:Int→List Int)(p:Int)(l:List Int):Int→List Int:=fun x=>if x=p then l else ch x
theorem Pr.off(q:Pr hm lt ch par){p x:Int}{l1 l2:List Int}(hp:ch p=l1++x::l2):Pr hm lt (aA ch p (l1++l2)) (aK par x (-1)):=by
 have hx:=q.dn p x (by grind)
 have gI:=q.nd p
 rw[hp,aqR]at gI
 obtain⟨n1,n2,n3⟩:=gI
 rw[aqu]at n2
 have bO:x∉l1++l2:=by
  rw[aqq]
  rintro(h|h)
  ·exact n3 x h x (by simp) rfl
  ·grind
 have J1:∀c,c∈l1++l2→c∈ch p:=fun c hc=>by
  rw[hp]
  rcases aqq.1 hc with h|h
  ·simp[h]
  ·simp[h]
 refine⟨q.h0,fun y c hc=>?_,fun c y hc hy=>?_,fun y=>?_⟩
 ·unfold aA at hc
  unfold aK
  by_cases e:y=p
  ·subst e
   rw[if_pos rfl]at hc
   rw[if_neg (by grind)]
   exact q.dn y c (J1 c hc)
  ·rw[if_neg e]at hc
   have h1:=q.dn y c hc
   rw[if_neg (by grind)]
   exact h1
 ·unfold aK at hc
  unfold aA
  by_cases AI:c=x
  ·omega
  ·rw[if_neg AI]at hc
   have:=q.up c y hc hy
   split
   ·rename_i e
    rw[e,hp,aqq,aqC]at this
    rw[aqq]
    grind
   omega
 ·unfold aA
  split
  ·rw[aqR]
   exact⟨n1,n2.2,fun a ha b hb=>n3 a ha b (by simp[hb])⟩
  ·exact q.nd y
def fP(ch:Int→List Int)(par:Int→Int)(x:Int):Int→Int:=fun c=>if c∈ch x then -1 else par c
theorem Pr.bare(q:Pr hm lt ch par)(x:Int):Pr hm lt (aA ch x []) (fP ch par x):=by
 refine⟨q.h0,fun y c hc=>?_,fun c y hc hy=>?_,fun y=>?_⟩
 ·cases q;grind [aA,fP]
 ·cases q;grind [aA,fP]
 cases q;grind [aA]
theorem Pr.other(q:Pr hm lt ch par)(h0:hm' (-1)=0)(h:∀x c,c∈ch x→hm x=hm c→0<hm c→lt x c=true→hm' x=hm' c∧0<hm' c∧lt' x c=true):Pr hm' lt' ch par:=
 ⟨h0,fun x c hc=>by
  cases q;grind,q.up,q.nd⟩
def Ky(K:Int→Bool→Int)(B:Int→Int):Int→List Int→Prop
 |_,[]=>True
 |p,c::r=>B c=p∧K c true=r.headD (-1)∧Ky K B c r
variable {K K' : Int → Bool → Int} {B B' : Int → Int}
theorem Ky.frame:∀ {l:List Int} {p:Int},Ky K B p l→(∀c∈l,K' c true=K c true∧B' c=B c)→Ky K' B' p l:=by
 intro l
 induction l with
 |nil=>intro p _ _;trivial
 |cons c r ih=>
  intro p h hk
  obtain⟨h1,h2,h3⟩:=h
  obtain⟨k1,k2⟩:=hk c (by simp)
  exact⟨by omega,by omega,by grind⟩
theorem Ky.behind{l:List Int}{p p':Int}(h:Ky K B p l)(hk:∀c∈l,K' c true=K c true)(hb:∀c∈l,c≠l.headD (-1)→B' c=B c)(hp:l≠[]→B' (l.headD (-1))=p')(hn:l.Nodup):Ky K' B' p' l:=by
 cases l with
 |nil=>trivial
 |cons c r=>
  obtain⟨h1,h2,h3⟩:=h
  have hcr:=(aqu.1 hn).1
  refine⟨hp (by simp),by grind,h3.frame (by grind)⟩
theorem Ky.split:∀ {l1:List Int} {p x:Int} {l2:List Int},Ky K B p (l1++x::l2)→B x=l1.getLastD p∧K x true=l2.headD (-1)∧Ky K B x l2∧(∀y,l1.getLast? =some y→K y true=x):=by
 intro l1
 induction l1 with
 |nil=>intro p x l2 h;exact⟨h.1,h.2.1,h.2.2,by grind⟩
 |cons c r ih=>
  intro p x l2 h
  obtain⟨h1,h2,h3⟩:=h
  obtain⟨i1,i2,i3,i4⟩:=ih h3
  refine⟨?_,i2,i3,fun y hy=>?_⟩
  ·grind
  ·cases r with
   |nil=>
    simp_all
   |cons d r=>
    grind
theorem Ky.cut:∀ {l1:List Int} {p x:Int} {l2:List Int},Ky K B p (l1++x::l2)→(l1++x::l2).Nodup→
  (∀c∈l1,l1.getLast? ≠some c→K' c true=K c true)→(∀c∈l1,B' c=B c)→(∀y,l1.getLast? =some y→K' y true=l2.headD (-1))→
  Ky K' B' (l1.getLastD p) l2→Ky K' B' p (l1++l2):=by
 intro l1
 induction l1 with
 |nil=>simp_all
 |cons c r ih=>
  intro p x l2 h hn hk hb hl h2
  obtain⟨g1,g2,g3⟩:=h
  have GD:=aqu.1 (show(c::(r++x::l2)).Nodup from hn)
  have tP:(c::r).getLastD p=r.getLastD c:=by cases r<;>rfl
  rw[tP]at h2
  have hi:Ky K' B' c (r++l2):=by
   refine ih g3 GD.2 (fun d hd he=>hk d (by simp[hd]) fun e=>he ?_) (fun d hd=>hb d (by simp[hd])) (fun y hy=>hl y ?_) h2
   ·cases r with
    |nil=>cases hd
    |cons e' r=>rw[List.getLast?_cons_cons]at e;exact e
   ·cases r with
    |nil=>cases hy
    |cons e' r=>rw[List.getLast?_cons_cons];exact hy
  refine⟨by rw[hb c (by simp),g1],?_,hi⟩
  cases r with
  |nil=>simpa using hl c (by simp)
  |cons d r=>
   have:(c::d::r).getLast? ≠some c:=by
    rw[List.getLast?_cons_cons]
    intro e
    exact GD.1 (aqH _ (List.mem_of_getLast? e))
   rw[hk c (by simp) this,g2]
   simp
structure Kz(K:Int→Bool→Int)(B:Int→Int)(ch:Int→List Int)(par:Int→Int):Prop where
 hd:∀x,K x false=(ch x).headD (-1)
 sg:∀x,Ky K B x (ch x)
 rt:∀c,par c= -1→K c true= -1∧B c= -1
theorem eW{l:List Int}(h:l.headD (-1)≠ -1):l.headD (-1)∈l:=by
 cases l with
 |nil=>grind
 |cons a l=>simp
theorem Kz.link(m:Kz K B ch par)(p:Pr hm lt ch par){a b:Int}(ha:a≠ -1)(hb:par b= -1)(AG:a≠b):
  Kz (eV (eV K b true (K a false)) a false b) (if K a false= -1 then aK B b a else aK (aK B b a) (K a false) b) (nR ch a b) (aK par b a):=by
 have hold:K a false≠ -1→K a false∈ch a:=fun h=>by rw[m.hd]at h ⊢;exact eW h
 have GF:∀x c,c∈ch x→c≠b:=fun x c hc e=>by
  have:=p.dn x c hc
  grind
 have ek:∀c,c≠b→eV (eV K b true (K a false)) a false b c true=K c true:=by grind [eV]
 have eb:∀c,c≠b→(K a false≠ -1→c≠K a false)→(if K a false= -1 then aK B b a else aK (aK B b a) (K a false) b) c=B c:=by grind [aK]
 refine⟨fun x=>?_,fun x=>?_,fun c hc=>?_⟩
 ·cases m;grind [nR,eV]
 ·unfold nR
  by_cases hx:x=a
  ·subst hx
   rw[if_pos rfl]
   refine⟨?_,?_,?_⟩
   ·grind [aK]
   ·cases m;grind [eV]
   ·refine(m.sg x).behind (by grind) (fun c hc he=>eb c (GF x c hc) (fun _=>by rw[m.hd];exact he)) (fun aR=>?_) (p.nd x)
    have h1:K x false≠ -1:=by
     rw[m.hd]
     cases hc:ch x with
     |nil=>grind
     |cons d r=>exact p.ne (x:=x) (by grind)
    cases m;grind [aK]
  ·rw[if_neg hx]
   exact(m.sg x).frame fun c hc=>⟨ek c (GF x c hc),eb c (GF x c hc) fun _ e=>by
    have h1:=p.dn x c hc
    have h2:=p.dn a _ (hold (e▸p.ne hc))
    grind⟩
 cases m;cases p;grind [aK]
theorem Kz.off(m:Kz K B ch par)(q:Pr hm lt ch par)(hs:bC lt){p x:Int}{l1 l2:List Int}(hp:ch p=l1++x::l2):
  (K (B x) false=x↔l1=[])∧B x≠ -1∧B x≠x∧hm (B x)=hm x∧hm p=hm x∧(K x true≠ -1→hm (K x true)=hm x)∧
  Kz (eV (if l1=[]then eV K (B x) false (K x true)else eV K (B x) true (K x true)) x true (-1)) (aK (if K x true= -1 then B else aK B (K x true) (B x)) x (-1)) (aA ch p (l1++l2)) (aK par x (-1)):=by
 have hx:=q.dn p x (by grind)
 have gI:=q.nd p
 have X0:=gI
 rw[hp]at X0
 have sg:=m.sg p
 rw[hp]at sg
 obtain⟨b1,b2,b3,b4⟩:=sg.split
 obtain⟨n1,n2,n3⟩:=aqR.1 X0
 have n4:=aqu.1 n2
 have ep:p≠x:=fun e=>by cases hs;grind
 have agF:∀c∈l1,c∈ch p:=fun c hc=>by rw[hp];simp[hc]
 have agG:∀c∈l2,c∈ch p:=fun c hc=>by rw[hp];simp[hc]
 have x1:∀c∈l1,c≠x:=fun c hc e=>n3 c hc x (by simp) e
 have x2:∀c∈l2,c≠x:=fun c hc e=>n4.1 (e▸hc)
 have cp:∀c,c∈ch p→c≠p:=fun c hc e=>by cases q;cases hs;grind
 have hB:(l1=[]∧B x=p)∨(∃y,l1.getLast? =some y∧B x=y∧y∈l1):=by
  rw[b1]
  cases hl:l1.getLast? with
  |none=>simp_all
  |some y=>
   grind
 have bx:B x≠x:=by
  rcases hB with ⟨_,h⟩| ⟨y,_,h,hy⟩
  ·omega
  ·grind
 have X1:K x true≠ -1→K x true∈l2:=fun h=>by grind [eW]
 have first:K (B x) false=x↔l1=[]:=by
  rcases hB with ⟨h1,h2⟩| ⟨y,h1,h2,hy⟩
  ·rw[h2,m.hd,hp,h1];simp
  ·constructor
   ·intro h
    rw[h2,m.hd]at h
    have hxm:x∈ch y:=by rw[←h];exact eW (by rw[h];exact q.ne (x:=p) (by grind))
    cases q;grind
   grind
 refine⟨first,?_,bx,?_,hx.2.2.1,fun h=>?_,?_⟩
 ·rcases hB with ⟨h1,h2⟩| ⟨y,h1,h2,hy⟩
  ·omega
  ·rw[h2];exact q.ne (agF y hy)
 ·cases q;grind
 ·cases q;grind
 obtain⟨K2,hK2⟩:∃K2,K2=eV (if l1=[]then eV K (B x) false (K x true)else eV K (B x) true (K x true)) x true (-1):=⟨_,rfl⟩
 obtain⟨B2,hB2⟩:∃B2,B2=aK (if K x true= -1 then B else aK B (K x true) (B x)) x (-1):=⟨_,rfl⟩
 rw[←hK2,←hB2]
 have kf:∀y,K2 y false=if l1=[]∧y=p then K x true else K y false:=fun y=>by
  rw[hK2]
  grind [eV]
 have kt:∀y,y≠x→(l1.getLast? ≠some y)→K2 y true=K y true:=fun y hy hl=>by
  rw[hK2]
  grind [eV]
 have bt:∀y,y≠x→(K x true≠ -1→y≠K x true)→B2 y=B y:=fun y hy hk=>by
  rw[hB2]
  grind [aK]
 refine⟨fun y=>?_,fun y=>?_,fun c hc=>?_⟩
 ·rw[kf]
  unfold aA
  by_cases hy:y=p
  ·rw[if_pos hy]
   by_cases h:l1=[]
   ·grind
   ·rw[if_neg (by simp[h]),m.hd,hy,hp]
    cases l1 with
    |nil=>grind
    |cons a r=>rfl
  cases m;grind
 ·unfold aA
  by_cases hy:y=p
  ·subst hy
   rw[if_pos rfl]
   refine sg.cut X0 (fun c hc hl=>kt c (x1 c hc) hl) (fun c hc=>bt c (x1 c hc) fun h e=>?_) (fun z hz=>?_) ?_
   ·exact n3 c hc (K x true) (by simp[X1 h]) e
   ·have hzl:=List.mem_of_getLast? hz
    have aR:l1≠[]:=fun e=>by rw[e]at hzl;cases hzl
    rw[hK2,←b2]
    grind [eV]
   ·refine b3.behind (fun c hc=>kt c (x2 c hc) fun hl=>n3 c (List.mem_of_getLast? hl) c (by simp[hc]) rfl) (fun c hc he=>bt c (x2 c hc) (by omega)) (fun aR=>?_) n4.2
    have h1:K x true≠ -1:=by
     rw[b2]
     cases hc:l2 with
     |nil=>grind
     |cons d r=>exact q.ne (agG d (by rw[hc];simp))
    rw[hB2]
    grind [aK]
  ·rw[if_neg hy]
   refine(m.sg y).frame fun c hc=>?_
   cases q;grind
 ·unfold aK at hc
  by_cases AI:c=x
  ·rw[AI,hK2,hB2]
   grind [aK,eV]
  cases m;cases q;grind
theorem Kz.bare(m:Kz K B ch par)(q:Pr hm lt ch par){x:Int}(h1:∀y,K' y false=if y=x then -1 else K y false)(h2:∀c∈ch x,K' c true= -1∧B' c= -1)(h3:∀c,c∉ch x→K' c true=K c true∧B' c=B c):
  Kz K' B' (aA ch x []) (fP ch par x):=by
 refine⟨fun y=>?_,fun y=>?_,fun c hc=>?_⟩
 ·cases m;grind [aA]
 ·unfold aA
  split
  ·trivial
  cases m;cases q;grind [Ky.frame]
 cases m;grind [fP]
structure Et(hm:Int→Int)(lt:Int→Int→Bool)(g:Int)(R:Int→Prop)(IF:Int→List Int)(ch:Int→List Int)(par:Int→Int)(W:List Int):Prop where
 pr:Pr hm lt ch par
 nd:W.Nodup
 wm:∀x∈W,x≠ -1∧hm x=g∧par x= -1
 E5:∀x,0<hm x→(par x= -1↔x∈W∨R x)
 nr:∀x,R x→0<hm x∧x∉W
 fr:∀x,R x→ch x=IF x
 g0:0<g
variable {g a b : Int} {R : Int → Prop} {W W' : List Int}
theorem Et.perm(m:Et hm lt g R IF ch par W)(h:W.Perm W'):Et hm lt g R IF ch par W':=
 ⟨m.pr,h.nodup_iff.1 m.nd,fun x hx=>m.wm x (h.mem_iff.2 hx),fun x hx=>by rw[m.E5 x hx,h.mem_iff],fun x hx=>⟨(m.nr x hx).1,fun hw=>(m.nr x hx).2 (h.mem_iff.2 hw)⟩,m.fr,m.g0⟩
theorem Et.link(m:Et hm lt g R IF ch par (a::b::W))(hl:lt a b=true):Et hm lt g R IF (nR ch a b) (aK par b a) (a::W):=by
 obtain⟨a1,a2,a3⟩:=m.wm a (by simp)
 obtain⟨b1,b2,b3⟩:=m.wm b (by simp)
 have gI:=m.nd
 rw[aqu,aqu]at gI
 obtain⟨n1,n2,n3⟩:=gI
 have AG:a≠b:=by grind
 have haW:a∉W:=by grind
 refine⟨m.pr.link a1 b3 (by omega) (by rw[b2];exact m.g0) hl,by grind,fun x hx=>?_,fun x hx=>?_,fun x hx=>⟨(m.nr x hx).1,fun h=>(m.nr x hx).2 ?_⟩,fun x hx=>?_,m.g0⟩
 ·cases m;grind [aK]
 ·cases m;grind [aK]
 ·grind
 cases m;grind [nR]
def ws(l:List Int):List Int:=l.filter fun x=>decide (x≠ -1)
theorem eO(r:Int):ws [r]=if r= -1 then[]else[r]:=by
 unfold ws
 grind
theorem mR(r:Int)(l:List Int):ws (r::l)=ws [r]++ws l:=by
 grind [ws]
theorem Et.done{T:Int→Int}{r:Int}(m:Et hm lt g R IF ch par (ws [r]))(ht:∀h,h≠g→T h≠ -1→hm (T h)=h∧0<h∧R (T h))(hR:∀x,R x→hm x≠g∧T (hm x)=x):U7 hm lt par (jj T g r):=by
 rw[eO]at m
 refine⟨fun x p hp No=>by have:=m.pr.dn p x (m.pr.up x p hp No);grind,fun h hh=>?_,fun x hx hu=>?_⟩
 ·cases m;grind [jj]
 cases m;grind [jj]
structure U8(hm:Int→Int)(lt:Int→Int→Bool)(ch:Int→List Int)(par:Int→Int)(T:Int→Int):Prop where
 pr:Pr hm lt ch par
 tp:U7 hm lt par T
variable {T : Int → Int} {x : Int}
structure Ue(hm:Int→Int)(lt:Int→Int→Bool)(ch:Int→List Int)(par:Int→Int)(T:Int→Int)(g x:Int):Prop where
 pr:Pr hm lt ch par
 t1:∀h,T h≠ -1→hm (T h)=h∧0<h∧par (T h)= -1
 t2:∀y,0<hm y→par y= -1→y≠x→T (hm y)=y
 ox:x≠ -1∧hm x=g∧par x= -1
 nx:T g≠x
 g0:0<g
theorem Ue.w(o:Ue hm lt ch par T g x):Et hm lt g (fun y=>0<hm y∧par y= -1∧y≠x∧y≠T g) ch ch par (ws [T g,x]):=by
 have e:ws [T g,x]=if T g= -1 then[x]else[T g,x]:=by
  rw[mR,eO,eO,if_neg o.ox.1]
  grind
 rw[e]
 refine⟨o.pr,?_,fun y hy=>?_,fun y hy=>?_,fun y hy=>⟨hy.1,fun h=>?_⟩,fun _ _=>rfl,o.g0⟩
 ·cases o;grind
 ·cases o;grind
 ·constructor
  ·intro hp
   by_cases h1:y=x
   ·grind
   ·by_cases h2:y=T g
    ·left
     rw[if_neg (fun h=>by rw[h2,h,o.pr.h0]at hy;omega)]
     simp[h2]
    omega
  cases o;grind
 ·obtain⟨_,_,h3,h4⟩:=hy
  split at h
  ·simp[h3]at h
  ·simp[h3,h4]at h
theorem Ue.done{dS:Int→List Int}{bD:Int→Int}{r:Int}(o:Ue hm lt ch par T g x)(m:Et hm lt g (fun y=>0<hm y∧par y= -1∧y≠x∧y≠T g) ch dS bD (ws [r])):U8 hm lt dS bD (jj T g r):=by
 refine⟨m.pr,m.done (fun h aR hh=>?_) (fun y hy=>?_)⟩
 ·cases o;grind
 cases o;grind
theorem Pr.alone(q:Pr hm lt ch par){x:Int}(hx:hm x≤0)(qd:x≠ -1):par x= -1∧ch x=[]:=by
 constructor
 ·cases q;grind
 ·cases h:ch x with
  |nil=>rfl
  |cons c r=>
   have:=q.dn x c (by grind)
   omega
theorem U8.ins(t:U8 hm lt ch par T)(h0:hm' (-1)=0)(hx:hm x≤0)(qd:x≠ -1)(hg:0<g)(e1:hm' x=g)(e2:∀y,y≠x→hm' y=hm y)(el:∀a b,0<hm a→0<hm b→a≠x→b≠x→lt' a b=lt a b):Ue hm' lt' ch par T g x:=by
 obtain⟨a1,a2⟩:=t.pr.alone hx qd
 have tx:∀h,T h≠x:=fun h e=>by
  obtain⟨h1,h2,_⟩:=t.tp.t1 h (by omega)
  grind
 refine⟨t.pr.other h0 fun y c hc h1 h2 h3=>?_,fun h hh=>?_,fun y hy hu aR=>?_,⟨qd,e1,a1⟩,tx g,hg⟩
 ·have n1:y≠x:=fun e=>by rw[e,a2]at hc;cases hc
  have n2:c≠x:=fun e=>by rw[e]at h2;omega
  rw[e2 _ n1,e2 _ n2,el _ _ (by omega) h2 n1 n2]
  exact⟨h1,h2,h3⟩
 ·obtain⟨h1,h2,h3⟩:=t.tp.t1 h hh
  grind
 ·rw[e2 _ aR]at hy ⊢
  exact t.tp.t2 y hy hu
theorem U8.off(t:U8 hm lt ch par T){p:Int}{l1 l2:List Int}(hp:ch p=l1++x::l2):Ue hm lt (aA ch p (l1++l2)) (aK par x (-1)) T (hm x) x:=by
 obtain⟨h1,h2,h3,h4,h5⟩:=t.pr.dn p x (by grind)
 have qd:x≠ -1:=fun e=>by rw[e,t.pr.h0]at h4;omega
 refine⟨t.pr.off hp,fun h hh=>?_,fun y hy hu aR=>?_,by grind [aK],fun e=>?_,h4⟩
 ·obtain⟨g1,g2,g3⟩:=t.tp.t1 h hh
  grind [aK]
 ·unfold aK at hu
  rw[if_neg aR]at hu
  exact t.tp.t2 y hy hu
 ·have:=(t.tp.t1 (hm x) (by omega)).2.2
  grind
theorem Ue.low(o:Ue hm lt ch par T g x)(el:∀a b,0<hm a→0<hm b→a≠x→b≠x→lt' a b=lt a b)(ex:∀b,0<hm b→b≠x→lt x b=true→lt' x b=true):Ue hm lt' ch par T g x:=by
 refine⟨o.pr.other o.pr.h0 fun y c hc h1 h2 h3=>⟨h1,h2,?_⟩,o.t1,o.t2,o.ox,o.nx,o.g0⟩
 have n2:c≠x:=fun e=>by
  have:=o.pr.dn y c hc
  cases o;grind
 grind
theorem U8.U6(t:U8 hm lt ch par T)(hu:par x= -1)(el:∀a b,0<hm a→0<hm b→a≠x→b≠x→lt' a b=lt a b)(ex:∀b,0<hm b→b≠x→lt x b=true→lt' x b=true):U8 hm lt' ch par T:=by
 have key:Pr hm lt' ch par:=t.pr.other t.pr.h0 fun y c hc h1 h2 h3=>⟨h1,h2,by
  have n2:c≠x:=fun e=>by
   have:=t.pr.dn y c hc
   grind
  grind⟩
 exact⟨key,fun c y hc hy=>(key.dn y c (key.up c y hc hy)).2.2,t.tp.t1,t.tp.t2⟩
theorem Pr.X2(q:Pr hm lt ch par)(hx:0<hm x):Et hm lt (hm x) (fun y=>0<hm y∧par y= -1) (aA ch x []) (aA ch x []) (fP ch par x) (ch x):=by
 refine⟨q.bare x,q.nd x,fun y hy=>⟨q.ne hy,(q.dn x y hy).2.2.1.symm,by unfold fP;grind⟩,fun y hy=>?_,fun y hy=>⟨hy.1,fun h=>?_⟩,fun _ _=>rfl,hx⟩
 ·unfold fP
  grind
 cases q;grind
theorem Et.drop{W:List Int}(m:Et hm lt g R IF ch par W)(hx:R x)(hc:ch x=[])(hp:par x= -1)(h0:hm' (-1)=0)(e1:hm' x=0)(e2:∀y,y≠x→hm' y=hm y)(el:∀a b,0<hm a→0<hm b→a≠x→b≠x→lt' a b=lt a b):
  Et hm' lt' g (fun y=>R y∧y≠x) IF ch par W:=by
 have nx:∀y c,c∈ch y→y≠x∧c≠x:=fun y c NF=>by
  refine⟨fun e=>?_,fun e=>?_⟩
  ·grind
  ·have:=m.pr.dn y c NF
   grind
 have hW:=(m.nr x hx).2
 refine⟨m.pr.other h0 fun y c NF h1 h2 h3=>?_,m.nd,fun y hy=>?_,fun y hy=>?_,fun y hy=>⟨?_,(m.nr y hy.1).2⟩,fun y hy=>m.fr y hy.1,m.g0⟩
 ·obtain⟨n1,n2⟩:=nx y c NF
  rw[e2 _ n1,e2 _ n2,el _ _ (by omega) h2 n1 n2]
  exact⟨h1,h2,h3⟩
 ·cases m;grind
 ·cases m;grind
 ·rw[e2 _ hy.2];exact(m.nr y hy.1).1
theorem Et.bV(m:Et hm lt g R IF ch par W){t:Int}(ht:t≠ -1→R t∧hm t=g):Et hm lt g (fun y=>R y∧y≠t) IF ch par (ws [t]++W):=by
 rw[eO]
 by_cases h:t= -1
 ·rw[if_pos h,aq3]
  refine⟨m.pr,m.nd,m.wm,fun x hx=>?_,fun x hx=>m.nr x hx.1,fun x hx=>m.fr x hx.1,m.g0⟩
  rw[m.E5 x hx]
  have hn:x≠t:=fun e=>by rw[e,h,m.pr.h0]at hx;omega
  grind
 ·obtain⟨h1,h2⟩:=ht h
  obtain⟨h3,h4⟩:=m.nr t h1
  rw[if_neg h]
  refine⟨m.pr,aqu.2 ⟨h4,m.nd⟩,fun x hx=>?_,fun x hx=>?_,fun x hx=>⟨(m.nr x hx.1).1,fun h=>?_⟩,fun x hx=>m.fr x hx.1,m.g0⟩
  ·cases m;grind
  ·cases m;grind
  cases m;grind
end
end Go.Proofs.YthpjfeolagohkaaGreat
