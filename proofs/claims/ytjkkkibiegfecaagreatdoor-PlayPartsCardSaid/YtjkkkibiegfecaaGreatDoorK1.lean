/- Texts put behind each other. -/
import Derived.Test.YtjkkkibiegfecaaGreatDoorK98
import Derived.Test.YtjkkkibiegfecaaGreatDoorProg
set_option maxRecDepth 100000
set_option maxHeartbeats 8000000
set_option linter.unusedVariables false
set_option linter.unusedSimpArgs false
namespace Go.Proofs.YtjkkkibiegfecaaGreatDoor
structure bF(lt:Int→Int→Bool):Prop where
 Lp:∀a,lt a a=false
 tr:∀a b c,lt a b=true→lt b c=true→lt a c=true
 nt:∀a b c,lt a b=false→lt b c=false→lt a c=false
 WR:∀a b,a≠b→lt a b=true∨lt b a=true
theorem bF.yN{lt:Int→Int→Bool}(h:bF lt){a b:Int}(eJ:lt a b=true):lt b a=false:=by
 cases h;grind
end Go.Proofs.YtjkkkibiegfecaaGreatDoor

namespace Go.Proofs.YtjkkkibiegfecaaGreatDoor
theorem rU{α:Type}{p q:α→Bool}:∀ {l:List α},(∀i,p i=true→q i=true)→∀ {x:α},x∈l→p x=false→q x=true→l.countP p<l.countP q:=by
 intro l T6 x hx hp hq
 induction l with
 |nil=>cases hx
 |cons a l ih=>
  rw[List.countP_cons,List.countP_cons]
  have AB:l.countP p≤l.countP q:=List.countP_mono_left (by grind)
  grind
section
variable {hm : Int → Int} {lt : Int → Int → Bool} {K : Int → Bool → Int} {U : Int → Int}
def eV(K:Int→Bool→Int)(p:Int)(c:Bool)(v:Int):Int→Bool→Int:=fun y d=>if y=p∧d=c then v else K y d
def aJ(U:Int→Int)(x v:Int):Int→Int:=fun y=>if y=x then v else U y
def nN(K:Int→Bool→Int)(p:Int):Int→Bool→Int:=fun y d=>if y=p then K y (!d)else K y d
def uL(K:Int→Bool→Int)(p x:Int)(c:Bool):=eV K p c x
def jm(K:Int→Bool→Int)(U:Int→Int)(x:Int):Int→Bool→Int:=if U x= -1 then K else eV K (U x) (K (U x) true==x) (-1)
def dh(U:Int→Int)(x:Int):Int→Int:=aJ U x (-1)
structure Bt(hm:Int→Int)(lt:Int→Int→Bool)(K:Int→Bool→Int)(U:Int→Int):Prop where
 h0:hm (-1)=0
 ku:∀p c x,K p c=x→x≠ -1→U x=p∧p≠ -1
 uk:∀x p,U x=p→p≠ -1→(∃c,K p c=x)∧x≠ -1∧hm p=hm x∧0<hm x∧lt p x=true
 two:∀p,K p false=K p true→K p false= -1
theorem Bt.home(h:Bt hm lt K U){p:Int}{c:Bool}(hk:K p c≠ -1):U (K p c)=p∧p≠ -1∧hm (K p c)=hm p∧0<hm p∧lt p (K p c)=true:=by
 cases h;grind
theorem Bt.kids(h:Bt hm lt K U){p x:Int}(hx:x≠ -1){c d:Bool}(h1:K p c=x)(h2:K p d=x):c=d:=by
 cases c<;>cases d
 ·rfl
 ·cases h;grind
 ·cases h;grind
 ·rfl
theorem Bt.side(h:Bt hm lt K U){x p:Int}(hu:U x=p)(hp:p≠ -1):K p (K p true==x)=x:=by
 obtain⟨⟨c,hc⟩,hx,_⟩:=h.uk x p hu hp
 cases c
 ·by_cases ht:K p true=x
  ·grind
  grind
 grind
theorem jn(h:Bt hm lt K U)(x:Int)(hx:x≠ -1)(p:Int)(c:Bool):jm K U x p c=if K p c=x then -1 else K p c:=by
 unfold jm
 by_cases hu:U x= -1
 ·cases h;grind
 ·rw[if_neg hu]
  unfold eV
  by_cases hk:K p c=x
  ·obtain⟨h1,h2⟩:=h.ku p c x hk hx
   have e:p=U x∧c=(K (U x) true==x):=⟨h1.symm,by rw[h1];exact h.kids hx hk (h.side h1 h2)⟩
   grind
  ·rw[if_neg hk,if_neg]
   rintro⟨rfl,rfl⟩
   exact hk (h.side rfl hu)
theorem Bt.cut(h:Bt hm lt K U)(x:Int)(hx:x≠ -1):Bt hm lt (jm K U x) (dh U x):=by
 refine⟨h.h0,fun p c y hk hy=>?_,fun y p hu hp=>?_,fun p he=>?_⟩
 ·rw[jn h x hx]at hk
  split at hk
  ·omega
  ·rename_i bN
   obtain⟨h1,h2⟩:=h.ku p c y hk hy
   refine⟨?_,h2⟩
   unfold dh aJ
   omega
 ·unfold dh aJ at hu
  split at hu
  ·omega
  ·rename_i bN
   obtain⟨⟨c,hc⟩,h2⟩:=h.uk y p hu hp
   exact⟨⟨c,by grind [jn]⟩,h2⟩
 ·rw[jn h x hx,jn h x hx]at he
  rw[jn h x hx]
  cases h;grind
theorem Bt.aan(h:Bt hm lt K U){p x:Int}{c:Bool}(hp:p≠ -1)(hx:x≠ -1)(hk:K p c= -1)(hu:U x= -1)(hh:hm p=hm x)(h0:0<hm x)(hl:lt p x=true):Bt hm lt (uL K p x c) (aJ U x p):=by
 refine⟨h.h0,fun q d y hq hy=>?_,fun y q hq V0=>?_,fun q he=>?_⟩
 ·unfold uL eV at hq
  cases h;grind [aJ]
 ·unfold aJ at hq
  split at hq
  ·rename_i h1
   subst h1;subst hq
   exact⟨⟨c,by unfold uL eV;grind⟩,hx,hh,h0,hl⟩
  ·obtain⟨⟨d,hd⟩,h2,h3⟩:=h.uk y q hq V0
   refine⟨⟨d,?_⟩,h2,h3⟩
   unfold uL eV
   grind
 ·unfold uL eV at he ⊢
  cases h;grind
theorem Bt.wT(h:Bt hm lt K U)(p:Int):Bt hm lt (nN K p) U:=by
 refine⟨h.h0,fun q d y hq hy=>?_,fun y q hq V0=>?_,fun q he=>?_⟩
 ·cases h;grind [nN]
 ·obtain⟨⟨d,hd⟩,h2⟩:=h.uk y q hq V0
  refine⟨?_,h2⟩
  by_cases e:q=p
  ·exact⟨!d,by grind [nN]⟩
  ·exact⟨d,by grind [nN]⟩
 cases h;grind [nN]
structure Mg(hm:Int→Int)(lt:Int→Int→Bool)(h:Int)(R:Int→Prop)(K:Int→Bool→Int)(U:Int→Int)(dY:List Int)(a b:Int):Prop where
 bt:Bt hm lt K U
 wa:a= -1∨(hm a=h∧U a= -1)
 wb:b= -1∨(hm b=h∧U b= -1)
 ab:a=b→a= -1
 wy:∀v∈dY,v≠ -1∧hm v=h∧U v= -1∧K v true= -1∧(a≠ -1→lt v a=true)∧(b≠ -1→lt v b=true)
 Zh:dY.Pairwise fun x y=>lt x y=true
 Ax:∀x,0<hm x→(U x= -1↔x∈dY∨x=a∨x=b∨R x)
 pos:0<h
 nr:∀x,R x→0<hm x∧x∉dY∧x≠a∧x≠b
theorem Mg.start{h a b:Int}(bt:Bt hm lt K U)(h0:0<h)(wa:a= -1∨(hm a=h∧U a= -1))(wb:b= -1∨(hm b=h∧U b= -1))(ab:a=b→a= -1):Mg hm lt h (fun x=>0<hm x∧U x= -1∧x≠a∧x≠b) K U [] a b:=
 ⟨bt,wa,wb,ab,by simp,by simp,fun x hx=>by
  cases bt;grind,h0,by grind⟩
variable {h : Int} {R : Int → Prop} {dY : List Int} {a b : Int}
theorem Mg.swap(m:Mg hm lt h R K U dY a b):Mg hm lt h R K U dY b a:=
 ⟨m.bt,m.wb,m.wa,fun e=>by rw[e];exact m.ab e.symm,fun v hv=>by cases m;grind,m.Zh,fun x hx=>by cases m;grind,m.pos,fun x hx=>by cases m;grind⟩
theorem pO{α:Type}{r:α→α→Prop}{l:List α}{x:α}:(l++[x]).Pairwise r↔l.Pairwise r∧∀y∈l,r y x:=by
 grind
theorem Mg.down(hs:bF lt)(m:Mg hm lt h R K U dY a b)(ha:a≠ -1)(hb:b≠ -1)(hl:lt a b=true):
  Mg hm lt h R (if K a true= -1 then K else jm K U (K a true)) (if K a true= -1 then U else dh U (K a true)) (dY++[a]) (K a true) b:=by
 obtain⟨a1,a2⟩:=m.wa.resolve_left ha
 obtain⟨b1,b2⟩:=m.wb.resolve_left hb
 by_cases hk:K a true= -1
 ·rw[if_pos hk,if_pos hk,hk]
  refine⟨m.bt,.inl rfl,m.wb,fun e=>rfl,fun v hv=>?_,pO.2 ⟨m.Zh,fun v hv=>(m.wy v hv).2.2.2.2.1 ha⟩,fun x hx=>?_,m.pos,fun x hx=>?_⟩
  ·cases m;grind
  ·rw[m.Ax x hx,aoD,aoB]
   constructor
   ·grind
   ·rintro((h1|h1)|h1|h1|h1)
    ·grind
    ·omega
    ·rw[h1,m.bt.h0]at hx;omega
    ·omega
    grind
  ·obtain⟨h1,h2,h3,h4⟩:=m.nr x hx
   refine⟨h1,?_,fun e=>by rw[e,m.bt.h0]at h1;omega,h4⟩
   grind
 ·rw[if_neg hk,if_neg hk]
  obtain⟨k1,k2,k3,k4,k5⟩:=m.bt.home hk
  have kb:K a true≠b:=by grind
  have kv:∀v∈dY,v≠K a true:=fun v hv e=>by
   cases m;grind
  have ka:a≠K a true:=by grind
  refine⟨m.bt.cut _ hk,.inr ⟨by omega,by unfold dh aJ;omega⟩,.inr ⟨b1,?_⟩,by omega,fun v hv=>?_,pO.2 ⟨m.Zh,fun v hv=>(m.wy v hv).2.2.2.2.1 ha⟩,fun x hx=>?_,m.pos,fun x hx=>?_⟩
  ·unfold dh aJ
   omega
  ·rcases aoD.1 hv with hv|hv
   ·obtain⟨h1,h2,h3,h4,h5,h6⟩:=m.wy v hv
    refine⟨h1,h2,?_,?_,fun _=>hs.tr _ _ _ (h5 ha) k5,h6⟩
    ·unfold dh aJ
     omega
    cases m;grind [jn]
   ·rw[aoB]at hv
    subst hv
    refine⟨ha,a1,?_,?_,fun _=>k5,fun _=>hl⟩
    ·unfold dh aJ
     omega
    ·rw[jn m.bt _ hk,if_pos rfl]
  ·rw[aoD,aoB]
   unfold dh aJ
   cases m;grind
  cases m;grind
theorem Mg.back{v r:Int}(m:Mg hm lt h R K U (dY++[v]) r (-1))(hs:bF lt):
  Mg hm lt h R (if r= -1 then K else uL K v r true) (if r= -1 then U else aJ U r v) dY v (-1):=by
 obtain⟨v1,v2,v3,v4,v5,v6⟩:=m.wy v (by simp)
 obtain⟨s1,s2⟩:=pO.1 m.Zh
 have nv:∀u∈dY,u≠v:=fun u hu e=>by
  have:=s2 u hu
  rw[e,hs.Lp]at this
  cases this
 have nrv:∀x,R x→0<hm x∧x∉dY∧x≠v∧x≠ -1:=fun x hx=>by
  obtain⟨h1,h2,h3,h4⟩:=m.nr x hx
  rw[aoD,aoB,not_or]at h2
  exact⟨h1,h2.1,h2.2,h4⟩
 by_cases hr:r= -1
 ·rw[if_pos hr,if_pos hr]
  refine⟨m.bt,.inr ⟨v2,v3⟩,.inl rfl,fun e=>e,fun u hu=>?_,s1,fun x hx=>?_,m.pos,fun x hx=>nrv x hx⟩
  ·obtain⟨h1,h2,h3,h4,h5,h6⟩:=m.wy u (by simp[hu])
   exact⟨h1,h2,h3,h4,fun _=>s2 u hu,fun h=>absurd rfl h⟩
  ·rw[m.Ax x hx,aoD,aoB]
   constructor
   ·rintro((h1|h1)|h1|h1|h1)
    ·exact .inl h1
    ·exact .inr (.inl h1)
    ·rw[h1,hr,m.bt.h0]at hx;omega
    ·exact .inr (.inr (.inl h1))
    ·exact .inr (.inr (.inr h1))
   ·rintro(h1|h1|h1|h1)
    ·exact .inl (.inl h1)
    ·exact .inl (.inr h1)
    ·exact .inr (.inr (.inl h1))
    ·exact .inr (.inr (.inr h1))
 ·rw[if_neg hr,if_neg hr]
  obtain⟨r1,r2⟩:=m.wa.resolve_left hr
  have ru:∀u∈dY++[v],u≠r:=fun u hu e=>by
   have:=(m.wy u hu).2.2.2.2.1 hr
   rw[e,hs.Lp]at this
   cases this
  have rv:=ru v (by simp)
  refine⟨m.bt.aan v1 hr v4 r2 (by rw[v2,r1]) (by rw[r1];exact m.pos) (v5 hr),.inr ⟨v2,?_⟩,.inl rfl,fun e=>e,fun u hu=>?_,s1,fun x hx=>?_,m.pos,fun x hx=>nrv x hx⟩
  ·unfold aJ
   rw[if_neg rv]
   exact v3
  ·obtain⟨h1,h2,h3,h4,h5,h6⟩:=m.wy u (by simp[hu])
   refine⟨h1,h2,?_,?_,fun _=>s2 u hu,fun h=>absurd rfl h⟩
   ·unfold aJ
    rw[if_neg (ru u (by simp[hu]))]
    exact h3
   ·unfold uL eV
    rw[if_neg (fun e=>nv u hu e.1)]
    exact h4
  ·unfold aJ
   by_cases e:x=r
   ·rw[if_pos e]
    constructor
    ·intro e1
     exact absurd e1 v1
    ·rintro(h1|h1|h1|h1)
     ·exact absurd e (ru x (by simp[h1]))
     ·exact absurd (h1.symm.trans e) rv
     ·rw[h1,m.bt.h0]at hx;omega
     ·exact absurd e (m.nr x h1).2.2.1
   ·rw[if_neg e,m.Ax x hx,aoD,aoB]
    constructor
    ·rintro((h1|h1)|h1|h1|h1)
     ·exact .inl h1
     ·exact .inr (.inl h1)
     ·exact absurd h1 e
     ·exact .inr (.inr (.inl h1))
     ·exact .inr (.inr (.inr h1))
    ·rintro(h1|h1|h1|h1)
     ·exact .inl (.inl h1)
     ·exact .inl (.inr h1)
     ·exact .inr (.inr (.inl h1))
     ·exact .inr (.inr (.inr h1))
theorem Mg.wT{r:Int}(m:Mg hm lt h R K U dY r (-1))(hs:bF lt):Mg hm lt h R (nN K r) U dY r (-1):=by
 by_cases hr:r= -1
 ·have e:nN K r=K:=by
   funext y d
   unfold nN
   split
   ·rename_i e
    subst e;subst hr
    have h1:∀c,K (-1) c= -1:=fun c=>by
     by_cases hc:K (-1) c= -1
     ·exact hc
     ·exact absurd rfl (m.bt.home hc).2.1
    grind
   ·rfl
  grind
 refine⟨m.bt.wT r,m.wa,m.wb,m.ab,fun v hv=>?_,m.Zh,m.Ax,m.pos,m.nr⟩
 cases m;cases hs;grind [nN]
structure wF(hm:Int→Int)(lt:Int→Int→Bool)(K:Int→Bool→Int)(U:Int→Int)(T:Int→Int):Prop where
 bt:Bt hm lt K U
 t1:∀h,T h≠ -1→hm (T h)=h∧0<h∧U (T h)= -1
 t2:∀x,0<hm x→U x= -1→T (hm x)=x
def cR(T:Int→Int)(h x:Int):Int→Int:=fun y=>if y=h then x else T y
theorem Mg.done{T:Int→Int}{r:Int}(m:Mg hm lt h R K U [] r (-1))(ht:∀g,g≠h→T g≠ -1→hm (T g)=g∧0<g∧R (T g))(hR:∀x,R x→hm x≠h∧T (hm x)=x):wF hm lt K U (cR T h r):=by
 refine⟨m.bt,fun g hg=>?_,fun x hx hu=>?_⟩
 ·cases m;grind [cR]
 ·unfold cR
  rcases(m.Ax x hx).1 hu with h1|h1|h1|h1
  ·grind
  ·subst h1
   have hr:x≠ -1:=fun e=>by rw[e,m.bt.h0]at hx;omega
   cases m;grind
  ·rw[h1,m.bt.h0]at hx;omega
  grind
theorem wF.first{T:Int→Int}(t:wF hm lt K U T){x:Int}(h0:0<hm x)(hf:∀y,hm y=hm x→y≠x→lt x y=true)(hs:bF lt):T (hm x)=x:=by
 refine t.t2 x h0 ?_
 apply aoA
 intro hu
 obtain⟨_,h1,h2,h3,h4⟩:=t.bt.uk x _ rfl hu
 by_cases e:U x=x
 ·rw[e,hs.Lp]at h4;cases h4
 ·have:=hs.yN (hf _ h2 e)
  grind
theorem wF.least{T:Int→Int}(t:wF hm lt K U T)(hs:bF lt){n:Nat}(hn:∀y,0<hm y→0≤y∧y<n){h:Int}(ht:T h≠ -1){y:Int}(hy:hm y=h)(bN:y≠T h):lt (T h) y=true:=by
 obtain⟨h1,h2,h3⟩:=t.t1 h ht
 have key:∀k:Nat,∀y:Int,hm y=h→y≠T h→((List.range n).filter fun(i:Nat)=>lt i y).length≤k→lt (T h) y=true:=by
  intro k
  induction k with
  |zero=>
   intro y hy bN hk
   by_cases hu:U y= -1
   ·cases t;grind
   ·obtain⟨_,_,h5,h6,h7⟩:=t.bt.uk y _ rfl hu
    have h8:=hn (U y) (by omega)
    have:(U y).toNat∈(List.range n).filter fun(i:Nat)=>lt i y:=by grind
    grind
  |succ k ih=>
   intro y hy bN hk
   by_cases hu:U y= -1
   ·cases t;grind
   ·obtain⟨_,_,h5,h6,h7⟩:=t.bt.uk y _ rfl hu
    by_cases e:U y=T h
    ·grind
    ·have h8:=hn (U y) (by omega)
     refine hs.tr _ _ _ (ih (U y) (by omega) e ?_) h7
     have h9:((List.range n).filter fun(i:Nat)=>lt i (U y)).length< ((List.range n).filter fun(i:Nat)=>lt i y).length:=by
      rw[←List.countP_eq_length_filter,←List.countP_eq_length_filter]
      have:∀l:List Nat,(∀i∈l,lt i (U y)=true→lt i y=true):=fun l i _ h=>hs.tr _ _ _ h h7
      refine rU (fun i hi=>hs.tr _ _ _ hi h7) (x:=(U y).toNat) (by grind) ?_ ?_
      ·cases hs;grind
      ·grind
     omega
 exact key _ y hy bN (aox _)
theorem Bt.up0(h:Bt hm lt K U):U (-1)= -1:=aoA fun hn=>(h.uk (-1) _ rfl hn).2.1 rfl
theorem AC(h:Bt hm lt K U):jm K U (-1)=K∧dh U (-1)=U:=by
 have h0:=h.up0
 refine⟨by unfold jm;grind,?_⟩
 funext z
 unfold dh aJ
 grind
theorem Mg.RX{h:Int}{R:Int→Prop}{dY:List Int}{a b:Int}(hs:bF lt)(m:Mg hm lt h R K U dY a b)(ha:a≠ -1)(hb:b≠ -1)(hl:lt a b=true):
  Mg hm lt h R (jm K U (K a true)) (dh U (K a true)) (dY++[a]) (K a true) b:=by
 have:=m.down hs ha hb hl
 cases m;grind [AC]
theorem Qf:∀ (n:Nat) (l:List Nat),l.Nodup→(∀x∈l,x<n)→l.length≤n:=by
 intro n
 induction n with
 |zero=>
  intro l _ hb
  cases l with
  |nil=>grind
  |cons a l=>exact absurd (hb a (by simp)) (by omega)
 |succ n ih=>
  intro l hn hb
  have h1:=ih (l.erase n) (hn.erase n) fun x hx=>by
   obtain⟨h2,h3⟩:=(List.Nodup.mem_erase_iff hn).1 hx
   have:=hb x h3
   omega
  rw[List.length_erase]at h1
  split at h1<;>omega
theorem cu{l:List Int}{n:Nat}(hn:l.Nodup)(hb:∀x∈l,0≤x∧x<n):l.length≤n:=by
 have h1:(l.map Int.toNat).Nodup:=by
  rw[List.nodup_iff_pairwise_ne]at*
  rw[List.pairwise_map]
  refine List.Pairwise.imp_of_mem (fun{a b} ha AD bN e=>bN ?_) hn
  have:=hb a ha
  have:=hb b AD
  omega
 have h2:=Qf n _ h1 fun x hx=>by
  obtain⟨y,hy,rfl⟩:=apj.1 hx
  have:=hb y hy
  omega
 rwa[aoJ]at h2
theorem Mg.nodup{h:Int}{R:Int→Prop}{dY:List Int}{a b:Int}(hs:bF lt)(m:Mg hm lt h R K U dY a b):dY.Nodup:=by
 rw[List.nodup_iff_pairwise_ne]
 exact m.Zh.imp fun{x y} hl e=>by rw[e,hs.Lp]at hl;cases hl
def Nt(lt:Int→Int→Bool)(n:Nat)(x:Int):Nat:=(List.range n).countP fun(i:Nat)=>lt i x
theorem Fs(hs:bF lt){n:Nat}{p x:Int}(hp:0≤p∧p<n)(hl:lt p x=true):Nt lt n p<Nt lt n x:=by
 unfold Nt
 refine rU (fun i hi=>hs.tr _ _ _ hi hl) (x:=p.toNat) (by grind) ?_ ?_
 ·cases hs;grind
 grind
end
end Go.Proofs.YtjkkkibiegfecaaGreatDoor

namespace Go.Proofs.YtjkkkibiegfecaaGreatDoor
section
variable {hm hm' : Int → Int} {lt lt' : Int → Int → Bool} {K K0 : Int → Bool → Int} {U U0 : Int → Int}
theorem Bt.other(b:Bt hm lt K U)(h0:hm' (-1)=0)(h:∀x p,U x=p→p≠ -1→hm p=hm x→0<hm x→lt p x=true→hm' p=hm' x∧0<hm' x∧lt' p x=true):Bt hm' lt' K U:=
 ⟨h0,b.ku,fun x p hu hp=>by
  cases b;grind,b.two⟩
theorem Bt.alone(b:Bt hm lt K U){x:Int}(hx:hm x≤0)(nO:x≠ -1):U x= -1∧∀y,U y≠x:=by
 cases b;grind
theorem Bt.Uw(h:Bt hm lt K U)(x:Int):Bt hm lt (jm K U x) (dh U x):=by
 by_cases hx:x= -1
 ·subst hx
  obtain⟨h1,h2⟩:=AC h
  grind
 ·exact h.cut x hx
theorem qt(h:Bt hm lt K U)(x p:Int)(c:Bool):jm K U x p c=if x≠ -1∧K p c=x then -1 else K p c:=by
 by_cases hx:x= -1
 ·subst hx
  rw[(AC h).1,if_neg (by simp)]
 ·rw[jn h x hx]
  omega
theorem Bt.bare(h:Bt hm lt K U)(x:Int):
  Bt hm lt (jm (jm K U (K x false)) (dh U (K x false)) (K x true)) (dh (dh U (K x false)) (K x true))∧
  (∀c,jm (jm K U (K x false)) (dh U (K x false)) (K x true) x c= -1)∧
  (∀p c,p≠x→jm (jm K U (K x false)) (dh U (K x false)) (K x true) p c=K p c)∧
  (∀y,dh (dh U (K x false)) (K x true) y=if y=K x false∨y=K x true then -1 else U y):=by
 have b1:=h.Uw (K x false)
 refine⟨b1.Uw _,fun c=>?_,fun p c hp=>?_,fun y=>?_⟩
 ·rw[qt b1,qt h]
  cases c
  ·omega
  omega
 ·have key:∀d,K x d≠ -1→K p c≠K x d:=fun d hd e=>by
   have h1:=(h.home (p:=x) (c:=d) hd).1
   have h2:=(h.home (p:=p) (c:=c) (by omega)).1
   grind
  grind [qt]
 ·unfold dh aJ
  grind
structure rR(lt:Int→Int→Bool)(K0:Int→Bool→Int)(U0:Int→Int)(x0:Int)(K:Int→Bool→Int)(U:Int→Int)(dY:List Int)(a b:Int):Prop where
 wv:∀v∈dY,lt x0 v=true
 wa:a≠ -1→lt x0 a=true
 wb:b≠ -1→lt x0 b=true
 fr:∀y,lt x0 y=false→K y=K0 y∧U y=U0 y
variable {x0 a b : Int} {dY : List Int}
theorem rR.start(ha:a≠ -1→lt x0 a=true)(hb:b≠ -1→lt x0 b=true):rR lt K0 U0 x0 K0 U0 [] a b:=⟨by simp,ha,hb,by grind⟩
theorem rR.swap(m:rR lt K0 U0 x0 K U dY a b):rR lt K0 U0 x0 K U dY b a:=⟨m.wv,m.wb,m.wa,m.fr⟩
theorem rR.down(hs:bF lt)(bt:Bt hm lt K U)(m:rR lt K0 U0 x0 K U dY a b)(ha:a≠ -1):rR lt K0 U0 x0 (jm K U (K a true)) (dh U (K a true)) (dY++[a]) (K a true) b:=by
 have h1:=m.wa ha
 refine⟨fun v hv=>?_,fun hk=>hs.tr _ _ _ h1 (bt.home hk).2.2.2.2,m.wb,fun y hy=>?_⟩
 ·cases m;grind
 ·obtain⟨f1,f2⟩:=m.fr y hy
  rw[←f1,←f2]
  constructor
  ·funext c
   rw[qt bt,if_neg]
   rintro⟨e1,e2⟩
   have:=(bt.home (p:=a) (c:=true) e1).1
   have h3:=(bt.home (p:=y) (c:=c) (by omega)).1
   grind
  ·unfold dh aJ
   split
   ·rename_i e
    by_cases e1:K a true= -1
    ·rw[e,e1,bt.up0]
    ·have:=hs.tr _ _ _ h1 (bt.home e1).2.2.2.2
     grind
   ·rfl
theorem rR.back(m:rR lt K0 U0 x0 K U (dY++[b]) a (-1)):rR lt K0 U0 x0 (if a= -1 then K else uL K b a true) (if a= -1 then U else aJ U a b) dY b (-1):=by
 have h1:=m.wv b (by simp)
 refine⟨fun v hv=>m.wv v (by simp[hv]),fun _=>h1,by omega,fun y hy=>?_⟩
 obtain⟨f1,f2⟩:=m.fr y hy
 by_cases ha:a= -1
 ·grind
 ·rw[if_neg ha,if_neg ha]
  have h2:=m.wa ha
  constructor
  ·rw[←f1]
   funext c
   unfold uL eV
   grind
  grind [aJ]
theorem rR.wT(m:rR lt K0 U0 x0 K U dY a (-1))(ha:a≠ -1):rR lt K0 U0 x0 (nN K a) U dY a (-1):=by
 refine⟨m.wv,m.wa,m.wb,fun y hy=>?_⟩
 cases m;grind [nN]
structure Ux(hm:Int→Int)(lt:Int→Int→Bool)(K:Int→Bool→Int)(U:Int→Int)(T:Int→Int)(g x:Int):Prop where
 bt:Bt hm lt K U
 t1:∀h,T h≠ -1→hm (T h)=h∧0<h∧U (T h)= -1
 t2:∀y,0<hm y→U y= -1→y≠x→T (hm y)=y
 ox:hm x=g∧U x= -1
 nx:T g≠x
 g0:0<g
variable {T : Int → Int} {g x : Int}
theorem Ux.mg(o:Ux hm lt K U T g x):Mg hm lt g (fun y=>0<hm y∧U y= -1∧y≠T g∧y≠x) K U [] (T g) x:=
 Mg.start o.bt o.g0 (by
  cases o;grind) (.inr o.ox) (fun e=>absurd e o.nx)
theorem Ux.done{K':Int→Bool→Int}{U':Int→Int}{r:Int}(o:Ux hm lt K U T g x)(m:Mg hm lt g (fun y=>0<hm y∧U y= -1∧y≠T g∧y≠x) K' U' [] r (-1)):wF hm lt K' U' (cR T g r):=
 m.done (fun h bN hh=>by
  cases o;grind) (fun y hy=>by
  cases o;grind)
theorem wF.ins(t:wF hm lt K U T)(h0:hm' (-1)=0)(hx:hm x≤0)(nO:x≠ -1)(hg:0<g)(e1:hm' x=g)(e2:∀y,y≠x→hm' y=hm y)(el:∀a b,0<hm a→0<hm b→a≠x→b≠x→lt' a b=lt a b):Ux hm' lt' K U T g x:=by
 obtain⟨a1,a2⟩:=t.bt.alone hx nO
 have tx:∀h,T h≠x:=fun h e=>by
  cases t;grind
 refine⟨t.bt.other h0 fun y p hu hp h1 h2 h3=>?_,fun h hh=>?_,fun y hy hu bN=>?_,⟨e1,a1⟩,tx g,hg⟩
 ·have n1:p≠x:=fun e=>a2 y (by omega)
  have n2:y≠x:=fun e=>by rw[e]at h2;omega
  rw[e2 _ n1,e2 _ n2,el _ _ (by omega) h2 n1 n2]
  exact⟨h1,h2,h3⟩
 ·cases t;grind
 ·rw[e2 _ bN]at hy ⊢
  exact t.t2 y hy hu
theorem wF.low(t:wF hm lt K U T)(hx:0<hm x)(hu:U x≠ -1)(el:∀a b,0<hm a→0<hm b→a≠x→b≠x→lt' a b=lt a b)(ex:∀b,0<hm b→b≠x→lt x b=true→lt' x b=true)(hs:bF lt):Ux hm lt' (jm K U x) (dh U x) T (hm x) x:=by
 have nO:x≠ -1:=fun e=>by rw[e,t.bt.h0]at hx;omega
 have b1:=t.bt.cut x nO
 have uu:∀y,dh U x y=if y=x then -1 else U y:=fun y=>rfl
 refine⟨b1.other t.bt.h0 fun y p hu hp h1 h2 h3=>⟨h1,h2,?_⟩,fun h hh=>?_,fun y hy hu bN=>?_,⟨rfl,by rw[uu,if_pos rfl]⟩,fun e=>?_,hx⟩
 ·have n2:y≠x:=fun e=>by rw[uu,if_pos e]at hu;omega
  by_cases n1:p=x
  ·rw[n1]at h3 ⊢
   exact ex y h2 n2 h3
  ·rw[el _ _ (by omega) h2 n1 n2];exact h3
 ·cases t;grind
 ·rw[uu,if_neg bN]at hu
  exact t.t2 y hy hu
 ·have:=(t.t1 (hm x) (by omega)).2.2
  rw[e]at this
  omega
theorem wF.Uy(t:wF hm lt K U T)(hx:0<hm x)(hu:U x= -1)(el:∀a b,0<hm a→0<hm b→a≠x→b≠x→lt' a b=lt a b)(ex:∀b,0<hm b→b≠x→lt x b=true→lt' x b=true)(hs:bF lt):wF hm lt' K U T:=by
 have nO:x≠ -1:=fun e=>by rw[e,t.bt.h0]at hx;omega
 refine⟨t.bt.other t.bt.h0 fun y p hu' hp h1 h2 h3=>⟨h1,h2,?_⟩,t.t1,t.t2⟩
 have n2:y≠x:=fun e=>by rw[e,hu]at hu';omega
 by_cases n1:p=x
 ·rw[n1]at h3 ⊢
  exact ex y h2 n2 h3
 ·rw[el _ _ (by omega) h2 n1 n2];exact h3
theorem Bt.drop(b:Bt hm lt K U)(hux:U x= -1)(bU:∀y,U y≠x)(h0:hm' (-1)=0)(e1:hm' x=0)(e2:∀y,y≠x→hm' y=hm y)(el:∀a b,0<hm a→0<hm b→a≠x→b≠x→lt' a b=lt a b)
  (t1:∀h,T h≠ -1→hm (T h)=h∧0<h∧U (T h)= -1∧T h≠x)(t2:∀y,0<hm y→U y= -1→y≠x→T (hm y)=y):wF hm' lt' K U T:=by
 refine⟨b.other h0 fun y p hu hp h1 h2 h3=>?_,fun h hh=>?_,fun y hy hu=>?_⟩
 ·grind
 ·grind
 ·have bN:y≠x:=fun e=>by rw[e,e1]at hy;omega
  rw[e2 _ bN]at hy ⊢
  exact t2 y hy hu bN
structure AE(hm:Int→Int)(lt:Int→Int→Bool)(K:Int→Bool→Int)(U:Int→Int)(T:Int→Int)(x:Int)(K2:Int→Bool→Int)(U2:Int→Int)(r:Int):Prop where
 bt:Bt hm lt K2 U2
 kx:∀c,K2 x c= -1
 kp:∀p c,U x=p→p≠ -1→K2 p c=K p c
 ux:U2 x=U x
 rx:r≠ -1→hm r=hm x∧U2 r= -1∧r≠x∧lt x r=true
 Ax:∀y,0<hm y→(U2 y= -1↔y=r∨U y= -1)
theorem wF.V5(t:wF hm lt K U T)(hs:bF lt)(hx:0<hm x){K1 K2:Int→Bool→Int}{U1 U2:Int→Int}{r:Int}
  (k1:K1=jm (jm K U (K x false)) (dh U (K x false)) (K x true))(u1:U1=dh (dh U (K x false)) (K x true))
  (m:Mg hm lt (hm x) (fun y=>0<hm y∧U1 y= -1∧y≠K x false∧y≠K x true) K2 U2 [] r (-1))(f:rR lt K1 U1 x K2 U2 [] r (-1)):AE hm lt K U T x K2 U2 r:=by
 obtain⟨b1,b2,b3,b4⟩:=t.bt.bare x
 rw[←k1,←u1]at b1
 rw[←k1]at b2 b3
 rw[←u1]at b4
 have nO:x≠ -1:=fun e=>by rw[e,t.bt.h0]at hx;omega
 have kne:∀c,K x c≠x:=fun c e=>by
  have:=(t.bt.home (p:=x) (c:=c) (by omega)).2.2.2.2
  rw[e,hs.Lp]at this
  grind
 obtain⟨f1,f2⟩:=f.fr x (hs.Lp x)
 refine⟨m.bt,fun c=>by rw[f1];grind,fun p c hp T7=>?_,?_,fun hr=>?_,fun y hy=>?_⟩
 ·have h1:=(t.bt.uk x p hp T7).2.2.2.2
  obtain⟨f3,f4⟩:=f.fr p (hs.yN h1)
  cases hs;grind
 ·grind
 ·cases m;cases f;grind
 ·rw[m.Ax y hy]
  have V6:y≠ -1:=fun e=>by rw[e,t.bt.h0]at hy;omega
  have hk:U y= -1→y≠K x false∧y≠K x true:=fun hu=>by
   refine⟨fun e=>?_,fun e=>?_⟩
   ·have:=(t.bt.home (p:=x) (c:=false) (by omega)).1
    grind
   ·have:=(t.bt.home (p:=x) (c:=true) (by omega)).1
    grind
  grind
variable {K2 : Int → Bool → Int} {U2 : Int → Int} {r : Int}
theorem AE.none(d:AE hm lt K U T x K2 U2 r)(nO:x≠ -1)(y:Int):U2 y≠x:=fun e=>by
 obtain⟨⟨c,hc⟩,h2,_⟩:=d.bt.uk y x e nO
 rw[d.kx c]at hc
 omega
theorem AE.HW(d:AE hm lt K U T x K2 U2 r)(t:wF hm lt K U T)(hx:0<hm x)(hu:U x= -1)(h0:hm' (-1)=0)(e1:hm' x=0)(e2:∀y,y≠x→hm' y=hm y)(el:∀a b,0<hm a→0<hm b→a≠x→b≠x→lt' a b=lt a b):
  wF hm' lt' K2 U2 (cR T (hm x) r):=by
 have nO:x≠ -1:=fun e=>by rw[e,t.bt.h0]at hx;omega
 have tx:=t.t2 x hx hu
 refine d.bt.drop (by rw[d.ux,hu]) (d.none nO) h0 e1 e2 el (fun h hh=>?_) (fun y hy HV bN=>?_)
 ·cases d;cases t;grind [cR]
 cases d;cases t;grind [cR]
theorem AE.cut(d:AE hm lt K U T x K2 U2 r)(t:wF hm lt K U T)(hs:bF lt)(hx:0<hm x)(hu:U x≠ -1):
  (r= -1→Bt hm lt (jm K2 U2 x) (dh U2 x))∧
  (r≠ -1→jm K2 U2 x (U x) (K (U x) true==x)= -1∧dh U2 x r= -1∧U x≠r∧Bt hm lt (uL (jm K2 U2 x) (U x) r (K (U x) true==x)) (aJ (dh U2 x) r (U x))):=by
 have nO:x≠ -1:=fun e=>by rw[e,t.bt.h0]at hx;omega
 have b:=d.bt.cut x nO
 obtain⟨_,_,h3,h4,h5⟩:=t.bt.uk x _ rfl hu
 refine⟨fun _=>b,fun hr=>?_⟩
 obtain⟨r1,r2,r3,r4⟩:=d.rx hr
 have e1:jm K2 U2 x (U x) (K (U x) true==x)= -1:=by
  rw[jn d.bt x nO,if_pos]
  rw[d.kp _ _ rfl hu]
  exact t.bt.side rfl hu
 have e2:dh U2 x r= -1:=by
  unfold dh aJ
  rw[if_neg r3];exact r2
 have h6:=hs.tr _ _ _ h5 r4
 exact⟨e1,e2,(fun e=>by rw[e,hs.Lp]at h6;cases h6),b.aan hu hr e1 e2 (by rw[h3,r1]) (by rw[r1];exact hx) h6⟩
theorem AE.below(d:AE hm lt K U T x K2 U2 r)(t:wF hm lt K U T)(hs:bF lt){n:Nat}(hn:∀y,0<hm y→0≤y∧y<n)(hx:0<hm x)(hu:U x≠ -1){K3:Int→Bool→Int}{U3:Int→Int}(b:Bt hm lt K3 U3)(u3:U3=if r= -1 then dh U2 x else aJ (dh U2 x) r (U x))
  (h0:hm' (-1)=0)(e1:hm' x=0)(e2:∀y,y≠x→hm' y=hm y)(el:∀a b,0<hm a→0<hm b→a≠x→b≠x→lt' a b=lt a b):wF hm' lt' K3 U3 T:=by
 have nO:x≠ -1:=by grind
 obtain⟨_,_,h3,h4,h5⟩:=t.bt.uk x _ rfl hu
 have gE:U x≠x:=fun e=>by rw[e,hs.Lp]at h5;cases h5
 have rr:∀y,0<hm y→y≠x→(U3 y= -1↔U y= -1):=fun y hy bN=>by
  rw[u3]
  split
  ·rename_i hr
   unfold dh aJ
   cases d;grind
  ·rename_i hr
   obtain⟨r1,r2,r3,r4⟩:=d.rx hr
   unfold dh aJ
   by_cases hyr:y=r
   ·rw[if_pos hyr]
    refine⟨by omega,fun e=>?_⟩
    rw[hyr]at e
    have e3:=t.t2 r (by omega) e
    rw[r1]at e3
    have e4:=t.least hs hn (h:=hm x) (by omega) (y:=x) rfl (by omega)
    rw[e3]at e4
    rw[hs.yN e4]at r4
    cases r4
   cases d;grind
 have ux:U3 x= -1:=by
  rw[u3]
  split
  ·unfold dh aJ;omega
  ·rename_i hr
   obtain⟨r1,r2,r3,r4⟩:=d.rx hr
   unfold dh aJ
   omega
 have no:∀y,U3 y≠x:=fun y=>by
  rw[u3]
  split
  ·unfold dh aJ
   split
   ·omega
   ·exact d.none nO y
  ·unfold dh aJ
   split
   ·exact gE
   ·split
    ·omega
    ·exact d.none nO y
 refine b.drop ux no h0 e1 e2 el (fun h hh=>?_) (fun y hy HV bN=>t.t2 y hy (by grind))
 cases t;grind
end
end Go.Proofs.YtjkkkibiegfecaaGreatDoor

namespace Go.Proofs.YtjkkkibiegfecaaGreatDoor
structure Uz(hm:Int→Int)(lt:Int→Int→Bool)(U:Int→Int)(T:Int→Int):Prop where
 uk:∀x p,U x=p→p≠ -1→hm p=hm x∧0<hm x∧lt p x=true
 t1:∀h,T h≠ -1→hm (T h)=h∧0<h∧U (T h)= -1
 t2:∀x,0<hm x→U x= -1→T (hm x)=x
theorem Uz.first{hm:Int→Int}{lt:Int→Int→Bool}{U T:Int→Int}(t:Uz hm lt U T){x:Int}(h0:0<hm x)(hf:∀y,hm y=hm x→y≠x→lt x y=true)(hs:bF lt):T (hm x)=x:=by
 refine t.t2 x h0 ?_
 apply aoA
 intro hu
 obtain⟨h2,h3,h4⟩:=t.uk x _ rfl hu
 by_cases e:U x=x
 ·rw[e,hs.Lp]at h4;cases h4
 ·have:=hs.yN (hf _ h2 e)
  grind
section
variable {hm hm' : Int → Int} {lt lt' : Int → Int → Bool} {ch HX : Int → List Int} {ay : Int → Int}
structure Pr(hm:Int→Int)(lt:Int→Int→Bool)(ch:Int→List Int)(ay:Int→Int):Prop where
 h0:hm (-1)=0
 dn:∀x c,c∈ch x→ay c=x∧x≠ -1∧hm x=hm c∧0<hm c∧lt x c=true
 up:∀c x,ay c=x→x≠ -1→c∈ch x
 nd:∀x,(ch x).Nodup
theorem Pr.ne(p:Pr hm lt ch ay){x c:Int}(h:c∈ch x):c≠ -1:=fun e=>by
 cases p;grind
def nP(ch:Int→List Int)(a b:Int):Int→List Int:=fun x=>if x=a then b::ch a else ch x
theorem Pr.link(p:Pr hm lt ch ay){a b:Int}(ha:a≠ -1)(hb:ay b= -1)(hh:hm a=hm b)(h0:0<hm b)(hl:lt a b=true):Pr hm lt (nP ch a b) (aJ ay b a):=by
 refine⟨p.h0,fun x c hc=>?_,fun c x hc hx=>?_,fun x=>?_⟩
 ·cases p;grind [aJ,nP]
 ·cases p;grind [aJ,nP]
 cases p;grind [nP]
def az(ch:Int→List Int)(p:Int)(l:List Int):Int→List Int:=fun x=>if x=p then l else ch x
theorem Pr.off(q:Pr hm lt ch ay){p x:Int}{l1 l2:List Int}(hp:ch p=l1++x::l2):Pr hm lt (az ch p (l1++l2)) (aJ ay x (-1)):=by
 have hx:=q.dn p x (by grind)
 have jk:=q.nd p
 rw[hp,aoS]at jk
 obtain⟨n1,n2,n3⟩:=jk
 rw[aoy]at n2
 have bU:x∉l1++l2:=by
  rw[aoD]
  rintro(h|h)
  ·exact n3 x h x (by simp) rfl
  ·grind
 have aeC:∀c,c∈l1++l2→c∈ch p:=fun c hc=>by
  rw[hp]
  rcases aoD.1 hc with h|h
  ·simp[h]
  ·simp[h]
 refine⟨q.h0,fun y c hc=>?_,fun c y hc hy=>?_,fun y=>?_⟩
 ·unfold az at hc
  unfold aJ
  by_cases e:y=p
  ·subst e
   rw[if_pos rfl]at hc
   rw[if_neg (by grind)]
   exact q.dn y c (aeC c hc)
  ·rw[if_neg e]at hc
   have h1:=q.dn y c hc
   rw[if_neg (by grind)]
   exact h1
 ·unfold aJ at hc
  unfold az
  by_cases Jo:c=x
  ·omega
  ·rw[if_neg Jo]at hc
   have:=q.up c y hc hy
   split
   ·rename_i e
    rw[e,hp,aoD,aoR]at this
    rw[aoD]
    grind
   omega
 ·unfold az
  split
  ·rw[aoS]
   exact⟨n1,n2.2,fun a ha b hb=>n3 a ha b (by simp[hb])⟩
  ·exact q.nd y
def fx(ch:Int→List Int)(ay:Int→Int)(x:Int):Int→Int:=fun c=>if c∈ch x then -1 else ay c
theorem Pr.bare(q:Pr hm lt ch ay)(x:Int):Pr hm lt (az ch x []) (fx ch ay x):=by
 refine⟨q.h0,fun y c hc=>?_,fun c y hc hy=>?_,fun y=>?_⟩
 ·cases q;grind [az,fx]
 ·cases q;grind [az,fx]
 cases q;grind [az]
theorem Pr.other(q:Pr hm lt ch ay)(h0:hm' (-1)=0)(h:∀x c,c∈ch x→hm x=hm c→0<hm c→lt x c=true→hm' x=hm' c∧0<hm' c∧lt' x c=true):Pr hm' lt' ch ay:=
 ⟨h0,fun x c hc=>by
  cases q;grind,q.up,q.nd⟩
def J0(K:Int→Bool→Int)(B:Int→Int):Int→List Int→Prop
 |_,[]=>True
 |p,c::r=>B c=p∧K c true=r.headD (-1)∧J0 K B c r
variable {K K' : Int → Bool → Int} {B B' : Int → Int}
theorem J0.frame:∀ {l:List Int} {p:Int},J0 K B p l→(∀c∈l,K' c true=K c true∧B' c=B c)→J0 K' B' p l:=by
 intro l
 induction l with
 |nil=>intro p _ _;trivial
 |cons c r ih=>
  intro p h hk
  obtain⟨h1,h2,h3⟩:=h
  obtain⟨k1,k2⟩:=hk c (by simp)
  exact⟨by omega,by omega,by grind⟩
theorem J0.behind{l:List Int}{p p':Int}(h:J0 K B p l)(hk:∀c∈l,K' c true=K c true)(hb:∀c∈l,c≠l.headD (-1)→B' c=B c)(hp:l≠[]→B' (l.headD (-1))=p')(hn:l.Nodup):J0 K' B' p' l:=by
 cases l with
 |nil=>trivial
 |cons c r=>
  obtain⟨h1,h2,h3⟩:=h
  have hcr:=(aoy.1 hn).1
  refine⟨hp (by simp),by grind,h3.frame (by grind)⟩
theorem J0.split:∀ {l1:List Int} {p x:Int} {l2:List Int},J0 K B p (l1++x::l2)→B x=l1.getLastD p∧K x true=l2.headD (-1)∧J0 K B x l2∧(∀y,l1.getLast? =some y→K y true=x):=by
 intro l1
 induction l1 with
 |nil=>intro p x l2 h;exact⟨h.1,h.2.1,h.2.2,by grind⟩
 |cons c r ih=>
  intro p x l2 h
  obtain⟨h1,h2,h3⟩:=h
  obtain⟨i1,i2,i3,i4⟩:=ih h3
  refine⟨?_,i2,i3,fun y hy=>?_⟩
  ·grind
  ·cases r with
   |nil=>
    simp_all
   |cons d r=>
    grind
theorem J0.cut:∀ {l1:List Int} {p x:Int} {l2:List Int},J0 K B p (l1++x::l2)→(l1++x::l2).Nodup→
  (∀c∈l1,l1.getLast? ≠some c→K' c true=K c true)→(∀c∈l1,B' c=B c)→(∀y,l1.getLast? =some y→K' y true=l2.headD (-1))→
  J0 K' B' (l1.getLastD p) l2→J0 K' B' p (l1++l2):=by
 intro l1
 induction l1 with
 |nil=>simp_all
 |cons c r ih=>
  intro p x l2 h hn hk hb hl h2
  obtain⟨g1,g2,g3⟩:=h
  have Pt:=aoy.1 (show(c::(r++x::l2)).Nodup from hn)
  have uG:(c::r).getLastD p=r.getLastD c:=by cases r<;>rfl
  rw[uG]at h2
  have hi:J0 K' B' c (r++l2):=by
   refine ih g3 Pt.2 (fun d hd he=>hk d (by simp[hd]) fun e=>he ?_) (fun d hd=>hb d (by simp[hd])) (fun y hy=>hl y ?_) h2
   ·cases r with
    |nil=>cases hd
    |cons e' r=>rw[List.getLast?_cons_cons]at e;exact e
   ·cases r with
    |nil=>cases hy
    |cons e' r=>rw[List.getLast?_cons_cons];exact hy
  refine⟨by rw[hb c (by simp),g1],?_,hi⟩
  cases r with
  |nil=>simpa using hl c (by simp)
  |cons d r=>
   have:(c::d::r).getLast? ≠some c:=by
    rw[List.getLast?_cons_cons]
    intro e
    exact Pt.1 (List.mem_append_left _ (List.mem_of_getLast? e))
   rw[hk c (by simp) this,g2]
   simp
structure J1(K:Int→Bool→Int)(B:Int→Int)(ch:Int→List Int)(ay:Int→Int):Prop where
 hd:∀x,K x false=(ch x).headD (-1)
 sg:∀x,J0 K B x (ch x)
 rt:∀c,ay c= -1→K c true= -1∧B c= -1
theorem eX{l:List Int}(h:l.headD (-1)≠ -1):l.headD (-1)∈l:=by
 cases l with
 |nil=>grind
 |cons a l=>simp
theorem J1.link(m:J1 K B ch ay)(p:Pr hm lt ch ay){a b:Int}(ha:a≠ -1)(hb:ay b= -1)(eJ:a≠b):
  J1 (eV (eV K b true (K a false)) a false b) (if K a false= -1 then aJ B b a else aJ (aJ B b a) (K a false) b) (nP ch a b) (aJ ay b a):=by
 have hold:K a false≠ -1→K a false∈ch a:=fun h=>by rw[m.hd]at h ⊢;exact eX h
 have HR:∀x c,c∈ch x→c≠b:=fun x c hc e=>by
  have:=p.dn x c hc
  grind
 have ek:∀c,c≠b→eV (eV K b true (K a false)) a false b c true=K c true:=by grind [eV]
 have eb:∀c,c≠b→(K a false≠ -1→c≠K a false)→(if K a false= -1 then aJ B b a else aJ (aJ B b a) (K a false) b) c=B c:=by grind [aJ]
 refine⟨fun x=>?_,fun x=>?_,fun c hc=>?_⟩
 ·cases m;grind [nP,eV]
 ·unfold nP
  by_cases hx:x=a
  ·subst hx
   rw[if_pos rfl]
   refine⟨?_,?_,?_⟩
   ·grind [aJ]
   ·cases m;grind [eV]
   ·refine(m.sg x).behind (by grind) (fun c hc he=>eb c (HR x c hc) (fun _=>by rw[m.hd];exact he)) (fun bN=>?_) (p.nd x)
    have h1:K x false≠ -1:=by
     rw[m.hd]
     cases hc:ch x with
     |nil=>grind
     |cons d r=>exact p.ne (x:=x) (by grind)
    cases m;grind [aJ]
  ·rw[if_neg hx]
   exact(m.sg x).frame fun c hc=>⟨ek c (HR x c hc),eb c (HR x c hc) fun _ e=>by
    have h1:=p.dn x c hc
    have h2:=p.dn a _ (hold (e▸p.ne hc))
    grind⟩
 cases m;cases p;grind [aJ]
theorem J1.off(m:J1 K B ch ay)(q:Pr hm lt ch ay)(hs:bF lt){p x:Int}{l1 l2:List Int}(hp:ch p=l1++x::l2):
  (K (B x) false=x↔l1=[])∧B x≠ -1∧B x≠x∧hm (B x)=hm x∧hm p=hm x∧(K x true≠ -1→hm (K x true)=hm x)∧
  J1 (eV (if l1=[]then eV K (B x) false (K x true)else eV K (B x) true (K x true)) x true (-1)) (aJ (if K x true= -1 then B else aJ B (K x true) (B x)) x (-1)) (az ch p (l1++l2)) (aJ ay x (-1)):=by
 have hx:=q.dn p x (by grind)
 have jk:=q.nd p
 have WS:=jk
 rw[hp]at WS
 have sg:=m.sg p
 rw[hp]at sg
 obtain⟨b1,b2,b3,b4⟩:=sg.split
 obtain⟨n1,n2,n3⟩:=aoS.1 WS
 have n4:=aoy.1 n2
 have gE:p≠x:=fun e=>by cases hs;grind
 have aeD:∀c∈l1,c∈ch p:=fun c hc=>by rw[hp];simp[hc]
 have aeE:∀c∈l2,c∈ch p:=fun c hc=>by rw[hp];simp[hc]
 have x1:∀c∈l1,c≠x:=fun c hc e=>n3 c hc x (by simp) e
 have x2:∀c∈l2,c≠x:=fun c hc e=>n4.1 (e▸hc)
 have cp:∀c,c∈ch p→c≠p:=fun c hc e=>by cases q;cases hs;grind
 have hB:(l1=[]∧B x=p)∨(∃y,l1.getLast? =some y∧B x=y∧y∈l1):=by
  rw[b1]
  cases hl:l1.getLast? with
  |none=>simp_all
  |some y=>
   grind
 have bx:B x≠x:=by
  rcases hB with ⟨_,h⟩| ⟨y,_,h,hy⟩
  ·omega
  ·grind
 have hkx:K x true≠ -1→K x true∈l2:=fun h=>by grind [eX]
 have first:K (B x) false=x↔l1=[]:=by
  rcases hB with ⟨h1,h2⟩| ⟨y,h1,h2,hy⟩
  ·rw[h2,m.hd,hp,h1];simp
  ·constructor
   ·intro h
    rw[h2,m.hd]at h
    have hxm:x∈ch y:=by rw[←h];exact eX (by rw[h];exact q.ne (x:=p) (by grind))
    cases q;grind
   grind
 refine⟨first,?_,bx,?_,hx.2.2.1,fun h=>?_,?_⟩
 ·rcases hB with ⟨h1,h2⟩| ⟨y,h1,h2,hy⟩
  ·omega
  ·rw[h2];exact q.ne (aeD y hy)
 ·cases q;grind
 ·cases q;grind
 obtain⟨K2,hK2⟩:∃K2,K2=eV (if l1=[]then eV K (B x) false (K x true)else eV K (B x) true (K x true)) x true (-1):=⟨_,rfl⟩
 obtain⟨B2,hB2⟩:∃B2,B2=aJ (if K x true= -1 then B else aJ B (K x true) (B x)) x (-1):=⟨_,rfl⟩
 rw[←hK2,←hB2]
 have kf:∀y,K2 y false=if l1=[]∧y=p then K x true else K y false:=fun y=>by
  rw[hK2]
  grind [eV]
 have kt:∀y,y≠x→(l1.getLast? ≠some y)→K2 y true=K y true:=fun y hy hl=>by
  rw[hK2]
  grind [eV]
 have bt:∀y,y≠x→(K x true≠ -1→y≠K x true)→B2 y=B y:=fun y hy hk=>by
  rw[hB2]
  grind [aJ]
 refine⟨fun y=>?_,fun y=>?_,fun c hc=>?_⟩
 ·rw[kf]
  unfold az
  by_cases hy:y=p
  ·rw[if_pos hy]
   by_cases h:l1=[]
   ·grind
   ·rw[if_neg (by simp[h]),m.hd,hy,hp]
    cases l1 with
    |nil=>grind
    |cons a r=>rfl
  cases m;grind
 ·unfold az
  by_cases hy:y=p
  ·subst hy
   rw[if_pos rfl]
   refine sg.cut WS (fun c hc hl=>kt c (x1 c hc) hl) (fun c hc=>bt c (x1 c hc) fun h e=>?_) (fun z hz=>?_) ?_
   ·exact n3 c hc (K x true) (by simp[hkx h]) e
   ·have WT:=List.mem_of_getLast? hz
    have bN:l1≠[]:=fun e=>by rw[e]at WT;cases WT
    rw[hK2,←b2]
    grind [eV]
   ·refine b3.behind (fun c hc=>kt c (x2 c hc) fun hl=>n3 c (List.mem_of_getLast? hl) c (by simp[hc]) rfl) (fun c hc he=>bt c (x2 c hc) (by omega)) (fun bN=>?_) n4.2
    have h1:K x true≠ -1:=by
     rw[b2]
     cases hc:l2 with
     |nil=>grind
     |cons d r=>exact q.ne (aeE d (by rw[hc];simp))
    rw[hB2]
    grind [aJ]
  ·rw[if_neg hy]
   refine(m.sg y).frame fun c hc=>?_
   cases q;grind
 ·unfold aJ at hc
  by_cases Jo:c=x
  ·rw[Jo,hK2,hB2]
   grind [aJ,eV]
  cases m;cases q;grind
theorem J1.bare(m:J1 K B ch ay)(q:Pr hm lt ch ay){x:Int}(h1:∀y,K' y false=if y=x then -1 else K y false)(h2:∀c∈ch x,K' c true= -1∧B' c= -1)(h3:∀c,c∉ch x→K' c true=K c true∧B' c=B c):
  J1 K' B' (az ch x []) (fx ch ay x):=by
 refine⟨fun y=>?_,fun y=>?_,fun c hc=>?_⟩
 ·cases m;grind [az]
 ·unfold az
  split
  ·trivial
  cases m;cases q;grind [J0.frame]
 cases m;grind [fx]
structure AF(hm:Int→Int)(lt:Int→Int→Bool)(g:Int)(R:Int→Prop)(HX:Int→List Int)(ch:Int→List Int)(ay:Int→Int)(W:List Int):Prop where
 pr:Pr hm lt ch ay
 nd:W.Nodup
 wm:∀x∈W,x≠ -1∧hm x=g∧ay x= -1
 Ax:∀x,0<hm x→(ay x= -1↔x∈W∨R x)
 nr:∀x,R x→0<hm x∧x∉W
 fr:∀x,R x→ch x=HX x
 g0:0<g
variable {g a b : Int} {R : Int → Prop} {W W' : List Int}
theorem AF.perm(m:AF hm lt g R HX ch ay W)(h:W.Perm W'):AF hm lt g R HX ch ay W':=
 ⟨m.pr,h.nodup_iff.1 m.nd,fun x hx=>m.wm x (h.mem_iff.2 hx),fun x hx=>by rw[m.Ax x hx,h.mem_iff],fun x hx=>⟨(m.nr x hx).1,fun hw=>(m.nr x hx).2 (h.mem_iff.2 hw)⟩,m.fr,m.g0⟩
theorem AF.link(m:AF hm lt g R HX ch ay (a::b::W))(hl:lt a b=true):AF hm lt g R HX (nP ch a b) (aJ ay b a) (a::W):=by
 obtain⟨a1,a2,a3⟩:=m.wm a (by simp)
 obtain⟨b1,b2,b3⟩:=m.wm b (by simp)
 have jk:=m.nd
 rw[aoy,aoy]at jk
 obtain⟨n1,n2,n3⟩:=jk
 have eJ:a≠b:=by grind
 have haW:a∉W:=by grind
 refine⟨m.pr.link a1 b3 (by omega) (by rw[b2];exact m.g0) hl,by grind,fun x hx=>?_,fun x hx=>?_,fun x hx=>⟨(m.nr x hx).1,fun h=>(m.nr x hx).2 ?_⟩,fun x hx=>?_,m.g0⟩
 ·cases m;grind [aJ]
 ·cases m;grind [aJ]
 ·grind
 cases m;grind [nP]
def ws(l:List Int):List Int:=l.filter fun x=>decide (x≠ -1)
theorem eE(r:Int):ws [r]=if r= -1 then[]else[r]:=by
 unfold ws
 grind
theorem ph(r:Int)(l:List Int):ws (r::l)=ws [r]++ws l:=by
 grind [ws]
theorem AF.done{T:Int→Int}{r:Int}(m:AF hm lt g R HX ch ay (ws [r]))(ht:∀h,h≠g→T h≠ -1→hm (T h)=h∧0<h∧R (T h))(hR:∀x,R x→hm x≠g∧T (hm x)=x):Uz hm lt ay (cR T g r):=by
 rw[eE]at m
 refine⟨fun x p hp T7=>by have:=m.pr.dn p x (m.pr.up x p hp T7);grind,fun h hh=>?_,fun x hx hu=>?_⟩
 ·cases m;grind [cR]
 cases m;grind [cR]
structure Pu(hm:Int→Int)(lt:Int→Int→Bool)(ch:Int→List Int)(ay:Int→Int)(T:Int→Int):Prop where
 pr:Pr hm lt ch ay
 tp:Uz hm lt ay T
variable {T : Int → Int} {x : Int}
structure T8(hm:Int→Int)(lt:Int→Int→Bool)(ch:Int→List Int)(ay:Int→Int)(T:Int→Int)(g x:Int):Prop where
 pr:Pr hm lt ch ay
 t1:∀h,T h≠ -1→hm (T h)=h∧0<h∧ay (T h)= -1
 t2:∀y,0<hm y→ay y= -1→y≠x→T (hm y)=y
 ox:x≠ -1∧hm x=g∧ay x= -1
 nx:T g≠x
 g0:0<g
theorem T8.w(o:T8 hm lt ch ay T g x):AF hm lt g (fun y=>0<hm y∧ay y= -1∧y≠x∧y≠T g) ch ch ay (ws [T g,x]):=by
 have e:ws [T g,x]=if T g= -1 then[x]else[T g,x]:=by
  rw[ph,eE,eE,if_neg o.ox.1]
  grind
 rw[e]
 refine⟨o.pr,?_,fun y hy=>?_,fun y hy=>?_,fun y hy=>⟨hy.1,fun h=>?_⟩,fun _ _=>rfl,o.g0⟩
 ·cases o;grind
 ·cases o;grind
 ·constructor
  ·intro hp
   by_cases h1:y=x
   ·grind
   ·by_cases h2:y=T g
    ·left
     rw[if_neg (fun h=>by rw[h2,h,o.pr.h0]at hy;omega)]
     simp[h2]
    omega
  cases o;grind
 ·obtain⟨_,_,h3,h4⟩:=hy
  split at h
  ·simp[h3]at h
  ·simp[h3,h4]at h
theorem T8.done{dK:Int→List Int}{bG:Int→Int}{r:Int}(o:T8 hm lt ch ay T g x)(m:AF hm lt g (fun y=>0<hm y∧ay y= -1∧y≠x∧y≠T g) ch dK bG (ws [r])):Pu hm lt dK bG (cR T g r):=by
 refine⟨m.pr,m.done (fun h bN hh=>?_) (fun y hy=>?_)⟩
 ·cases o;grind
 cases o;grind
theorem Pr.alone(q:Pr hm lt ch ay){x:Int}(hx:hm x≤0)(nO:x≠ -1):ay x= -1∧ch x=[]:=by
 constructor
 ·cases q;grind
 ·cases h:ch x with
  |nil=>rfl
  |cons c r=>
   have:=q.dn x c (by grind)
   omega
theorem Pu.ins(t:Pu hm lt ch ay T)(h0:hm' (-1)=0)(hx:hm x≤0)(nO:x≠ -1)(hg:0<g)(e1:hm' x=g)(e2:∀y,y≠x→hm' y=hm y)(el:∀a b,0<hm a→0<hm b→a≠x→b≠x→lt' a b=lt a b):T8 hm' lt' ch ay T g x:=by
 obtain⟨a1,a2⟩:=t.pr.alone hx nO
 have tx:∀h,T h≠x:=fun h e=>by
  obtain⟨h1,h2,_⟩:=t.tp.t1 h (by omega)
  grind
 refine⟨t.pr.other h0 fun y c hc h1 h2 h3=>?_,fun h hh=>?_,fun y hy hu bN=>?_,⟨nO,e1,a1⟩,tx g,hg⟩
 ·have n1:y≠x:=fun e=>by rw[e,a2]at hc;cases hc
  have n2:c≠x:=fun e=>by rw[e]at h2;omega
  rw[e2 _ n1,e2 _ n2,el _ _ (by omega) h2 n1 n2]
  exact⟨h1,h2,h3⟩
 ·obtain⟨h1,h2,h3⟩:=t.tp.t1 h hh
  grind
 ·rw[e2 _ bN]at hy ⊢
  exact t.tp.t2 y hy hu
theorem Pu.off(t:Pu hm lt ch ay T){p:Int}{l1 l2:List Int}(hp:ch p=l1++x::l2):T8 hm lt (az ch p (l1++l2)) (aJ ay x (-1)) T (hm x) x:=by
 obtain⟨h1,h2,h3,h4,h5⟩:=t.pr.dn p x (by grind)
 have nO:x≠ -1:=fun e=>by rw[e,t.pr.h0]at h4;omega
 refine⟨t.pr.off hp,fun h hh=>?_,fun y hy hu bN=>?_,by grind [aJ],fun e=>?_,h4⟩
 ·obtain⟨g1,g2,g3⟩:=t.tp.t1 h hh
  grind [aJ]
 ·unfold aJ at hu
  rw[if_neg bN]at hu
  exact t.tp.t2 y hy hu
 ·have:=(t.tp.t1 (hm x) (by omega)).2.2
  grind
theorem T8.low(o:T8 hm lt ch ay T g x)(el:∀a b,0<hm a→0<hm b→a≠x→b≠x→lt' a b=lt a b)(ex:∀b,0<hm b→b≠x→lt x b=true→lt' x b=true):T8 hm lt' ch ay T g x:=by
 refine⟨o.pr.other o.pr.h0 fun y c hc h1 h2 h3=>⟨h1,h2,?_⟩,o.t1,o.t2,o.ox,o.nx,o.g0⟩
 have n2:c≠x:=fun e=>by
  have:=o.pr.dn y c hc
  cases o;grind
 grind
theorem Pu.Uy(t:Pu hm lt ch ay T)(hu:ay x= -1)(el:∀a b,0<hm a→0<hm b→a≠x→b≠x→lt' a b=lt a b)(ex:∀b,0<hm b→b≠x→lt x b=true→lt' x b=true):Pu hm lt' ch ay T:=by
 have key:Pr hm lt' ch ay:=t.pr.other t.pr.h0 fun y c hc h1 h2 h3=>⟨h1,h2,by
  have n2:c≠x:=fun e=>by
   have:=t.pr.dn y c hc
   grind
  grind⟩
 exact⟨key,fun c y hc hy=>(key.dn y c (key.up c y hc hy)).2.2,t.tp.t1,t.tp.t2⟩
theorem Pr.WU(q:Pr hm lt ch ay)(hx:0<hm x):AF hm lt (hm x) (fun y=>0<hm y∧ay y= -1) (az ch x []) (az ch x []) (fx ch ay x) (ch x):=by
 refine⟨q.bare x,q.nd x,fun y hy=>⟨q.ne hy,(q.dn x y hy).2.2.1.symm,by unfold fx;grind⟩,fun y hy=>?_,fun y hy=>⟨hy.1,fun h=>?_⟩,fun _ _=>rfl,hx⟩
 ·unfold fx
  grind
 cases q;grind
theorem AF.drop{W:List Int}(m:AF hm lt g R HX ch ay W)(hx:R x)(hc:ch x=[])(hp:ay x= -1)(h0:hm' (-1)=0)(e1:hm' x=0)(e2:∀y,y≠x→hm' y=hm y)(el:∀a b,0<hm a→0<hm b→a≠x→b≠x→lt' a b=lt a b):
  AF hm' lt' g (fun y=>R y∧y≠x) HX ch ay W:=by
 have nx:∀y c,c∈ch y→y≠x∧c≠x:=fun y c Ni=>by
  refine⟨fun e=>?_,fun e=>?_⟩
  ·grind
  ·have:=m.pr.dn y c Ni
   grind
 have hW:=(m.nr x hx).2
 refine⟨m.pr.other h0 fun y c Ni h1 h2 h3=>?_,m.nd,fun y hy=>?_,fun y hy=>?_,fun y hy=>⟨?_,(m.nr y hy.1).2⟩,fun y hy=>m.fr y hy.1,m.g0⟩
 ·obtain⟨n1,n2⟩:=nx y c Ni
  rw[e2 _ n1,e2 _ n2,el _ _ (by omega) h2 n1 n2]
  exact⟨h1,h2,h3⟩
 ·cases m;grind
 ·cases m;grind
 ·rw[e2 _ hy.2];exact(m.nr y hy.1).1
theorem AF.cE(m:AF hm lt g R HX ch ay W){t:Int}(ht:t≠ -1→R t∧hm t=g):AF hm lt g (fun y=>R y∧y≠t) HX ch ay (ws [t]++W):=by
 rw[eE]
 by_cases h:t= -1
 ·rw[if_pos h,apk]
  refine⟨m.pr,m.nd,m.wm,fun x hx=>?_,fun x hx=>m.nr x hx.1,fun x hx=>m.fr x hx.1,m.g0⟩
  rw[m.Ax x hx]
  have hn:x≠t:=fun e=>by rw[e,h,m.pr.h0]at hx;omega
  grind
 ·obtain⟨h1,h2⟩:=ht h
  obtain⟨h3,h4⟩:=m.nr t h1
  rw[if_neg h]
  refine⟨m.pr,aoy.2 ⟨h4,m.nd⟩,fun x hx=>?_,fun x hx=>?_,fun x hx=>⟨(m.nr x hx.1).1,fun h=>?_⟩,fun x hx=>m.fr x hx.1,m.g0⟩
  ·cases m;grind
  ·cases m;grind
  cases m;grind
end
end Go.Proofs.YtjkkkibiegfecaaGreatDoor

namespace Go.Proofs.YtjkkkibiegfecaaGreatDoor
section
variable {nx Pv : Int → Int} {a b x y z : Int} {r s l l1 l2 A B : List Int}
def nl(nx:Int→Int):Int→List Int→Int→Prop
 |a,[],z=>nx a=z
 |a,b::r,z=>nx a=b∧nl nx b r z
def oW(nx:Int→Int):List Int→Prop
 | []=>True
 |a::r=>nl nx a r a
theorem nl.Zi:∀ {r:List Int} {a:Int},nl nx a (r++b::s) z↔nl nx a r b∧nl nx b s z:=by
 intro r
 induction r with
 |nil=>rfl
 |cons c r ih=>
  intro a
  constructor
  ·rintro⟨h1,h2⟩
   obtain⟨h3,h4⟩:=ih.1 h2
   exact⟨⟨h1,h3⟩,h4⟩
  ·rintro⟨⟨h1,h2⟩,h3⟩
   exact⟨h1,ih.2 ⟨h2,h3⟩⟩
theorem nl.first:∀ {r:List Int} {a a':Int},nl nx a r z→Pv a'=nx a→(∀c∈r,Pv c=nx c)→nl Pv a' r z:=by
 intro r
 induction r with
 |nil=>intro a a' h h1 _;exact h1.trans h
 |cons c r ih=>
  intro a a' h h1 h2
  exact⟨h1.trans h.1,ih h.2 (h2 c (by simp)) (by grind)⟩
theorem oW.frame(h:oW nx l)(hk:∀c∈l,Pv c=nx c):oW Pv l:=by
 cases l with
 |nil=>trivial
 |cons a r=>exact nl.first h (hk a (by simp)) (by grind)
theorem oW.Zj(h:oW nx (l1++l2)):oW nx (l2++l1):=by
 cases l1 with
 |nil=>grind
 |cons a r=>
  cases l2 with
  |nil=>grind
  |cons b s=>
   have h1:nl nx a (r++b::s) a:=h
   obtain⟨h2,h3⟩:=nl.Zi.1 h1
   exact nl.Zi.2 ⟨h3,h2⟩
theorem oW.from(h:oW nx l)(hx:x∈l):∃A,l.Perm (x::A)∧oW nx (x::A):=by
 obtain⟨l1,l2,rfl⟩:=List.append_of_mem hx
 grind [oW.Zj]
def uH(nx:Int→Int)(x y:Int):Int→Int:=fun z=>if z=x then nx y else if z=y then nx x else nx z
theorem Pw:uH nx x y x=nx y:=by unfold uH;omega
theorem Px:uH nx x y y=nx x:=by
 unfold uH
 grind
theorem qu(h1:z≠x)(h2:z≠y):uH nx x y z=nx z:=by unfold uH;omega
theorem oW.aO(h:oW nx l)(hx:x∉l)(hy:y∉l):oW (uH nx x y) l:=h.frame (by grind [uH])
theorem oW.join(h1:oW nx (x::A))(h2:oW nx (y::B))(hn:((x::A)++(y::B)).Nodup):oW (uH nx x y) (x::B++y::A):=by
 obtain⟨n1,n2,n3⟩:=aoS.1 hn
 have a1:=(aoy.1 n1).1
 have b1:=(aoy.1 n2).1
 have hA:∀c∈A,uH nx x y c=nx c:=by grind [uH]
 have hB:∀c∈B,uH nx x y c=nx c:=by grind [uH]
 exact nl.Zi.2 ⟨nl.first h2 Pw hB,nl.first h1 Px hA⟩
theorem oW.part(h:oW nx (x::A++[y]))(hn:(x::A++[y]).Nodup):uH nx x y x=x∧oW (uH nx x y) (y::A):=by
 have Pt:=aoy.1 (show(x::(A++[y])).Nodup from hn)
 obtain⟨n1,n2,n3⟩:=aoS.1 Pt.2
 have h0:nl nx x (A++[y]) x:=h
 obtain⟨h1,h2⟩:=nl.Zi.1 h0
 have hA:∀c∈A,uH nx x y c=nx c:=by grind [uH]
 exact⟨Pw.trans h2,nl.first h1 Px hA⟩
theorem Lz:uH nx x x=nx:=by
 grind [uH]
structure AG(nx pv:Int→Int):Prop where
 pn:∀x,pv (nx x)=x
 np:∀x,nx (pv x)=x
def UA(nx pv:Int→Int)(x y:Int):Int→Int:=fun z=>if z=nx x then y else if z=nx y then x else pv z
theorem AG.uH{pv:Int→Int}(h:AG nx pv)(x y:Int):AG (uH nx x y) (UA nx pv x y):=by
 have inj:∀u v,nx u=nx v→u=v:=fun u v e=>by rw[←h.pn u,e,h.pn]
 constructor
 ·cases h;grind [UA,Pw,Px,qu]
 cases h;grind [UA,Px,Pw,qu]
theorem oW.last{pv:Int→Int}(h:AG nx pv)(hc:oW nx (x::A++[y])):pv x=y:=by
 have h0:nl nx x (A++[y]) x:=hc
 have h1:nx y=x:=(nl.Zi.1 h0).2
 rw[←h1,h.pn]
variable {hm hm' : Int → Int} {lt lt' : Int → Int → Bool} {ch : Int → List Int} {ay : Int → Int} {am : Int → List Int} {W : List Int}
structure dU(hm:Int→Int)(lt:Int→Int→Bool)(nx:Int→Int)(ch:Int→List Int)(ay:Int→Int)(am:Int→List Int)(W:List Int):Prop where
 pr:Pr hm lt ch ay
 cy:∀x,oW nx (ch x)
 rc:∀h,oW nx (am h)
 rn:∀h,(am h).Nodup
 rm:∀h c,c∈am h→hm c=h∧ay c= -1∧0<h∧c∉W
 wn:W.Nodup
 wm:∀c∈W,nx c=c∧ay c= -1∧0<hm c
 Ax:∀c,0<hm c→ay c= -1→c∈am (hm c)∨c∈W
 lone:∀c,hm c≤0→nx c=c
theorem dU.wne(m:dU hm lt nx ch ay am W){c:Int}(h:c∈W):c≠ -1:=fun e=>by
 have:=(m.wm c h).2.2
 rw[e,m.pr.h0]at this
 omega
theorem dU.rne(m:dU hm lt nx ch ay am W){c h:Int}(hc:c∈am h):c≠ -1:=fun e=>by
 obtain⟨h1,_,h2,_⟩:=m.rm h c hc
 rw[e,m.pr.h0]at h1
 omega
theorem dU.LA(m:dU hm lt nx ch ay am W){c x:Int}(hc:c∈ch x):(∀h,c∉am h)∧c∉W:=by
 have h1:=m.pr.dn x c hc
 cases m;grind
theorem dU.perm{W':List Int}(m:dU hm lt nx ch ay am W)(h:W.Perm W'):dU hm lt nx ch ay am W':=
 ⟨m.pr,m.cy,m.rc,m.rn,fun g c hc=>by cases m;grind,h.nodup_iff.1 m.wn,fun c hc=>m.wm c (h.mem_iff.2 hc),fun c h1 h2=>(m.Ax c h1 h2).imp_right h.mem_iff.1,m.lone⟩
theorem dU.wT(m:dU hm lt nx ch ay am W){g:Int}{l:List Int}(hp:(am g).Perm l)(hc:oW nx l):dU hm lt nx ch ay (az am g l) W:=by
 refine⟨m.pr,m.cy,fun h=>?_,fun h=>?_,fun h c hh=>?_,m.wn,m.wm,fun c h1 h2=>?_,m.lone⟩
 ·cases m;grind [az]
 ·cases m;grind [az]
 ·cases m;grind [az]
 cases m;grind [az]
theorem dU.RY(m:dU hm lt nx ch ay am (x::W)){t:Int}{A:List Int}(hr:am (hm x)=t::A):dU hm lt (uH nx t x) ch ay (az am (hm x) (t::x::A)) W:=by
 obtain⟨x1,x2,x3⟩:=m.wm x (by simp)
 have hxW:=(aoy.1 m.wn).1
 have ht:=m.rm (hm x) t (by grind)
 have RZ:t≠x:=by grind
 have nr:∀h,x∉am h:=fun h hh=>(m.rm h x hh).2.2.2 (by simp)
 have tr:∀h,t∈am h→h=hm x:=fun h hh=>by rw[← (m.rm h t hh).1,ht.1]
 refine⟨m.pr,fun y=>(m.cy y).aO (fun h=>?_) (fun h=>?_),fun h=>?_,fun h=>?_,fun h c hh=>?_,(aoy.1 m.wn).2,fun c hc=>?_,fun c h1 h2=>?_,fun c hc=>?_⟩
 ·exact(m.LA h).1 (hm x) (by grind)
 ·exact(m.LA h).2 (by simp)
 ·unfold az
  split
  ·have h1:=m.rc (hm x)
   rw[hr]at h1
   have h2:oW nx [x]:=x1
   refine h1.join h2 ?_
   cases m;grind
  cases m;grind [oW.aO]
 ·cases m;grind [az]
 ·cases m;grind [az]
 ·cases m;grind [qu]
 ·cases m;grind [az]
 cases m;grind [qu]
theorem dU.aar(m:dU hm lt nx ch ay am (x::W))(hr:am (hm x)=[]):dU hm lt nx ch ay (az am (hm x) [x]) W:=by
 obtain⟨x1,x2,x3⟩:=m.wm x (by simp)
 have hxW:=(aoy.1 m.wn).1
 refine⟨m.pr,m.cy,fun h=>?_,fun h=>?_,fun h c hh=>?_,(aoy.1 m.wn).2,fun c hc=>m.wm c (by simp[hc]),fun c h1 h2=>?_,m.lone⟩
 ·unfold az;split
  ·exact x1
  ·exact m.rc h
 ·cases m;grind [az]
 ·cases m;grind [az]
 cases m;grind [az]
theorem dU.aas(m:dU hm lt nx ch ay am W){g y:Int}{A:List Int}(hr:am g=x::A++[y]):dU hm lt (uH nx x y) ch ay (az am g (y::A)) (x::W):=by
 obtain⟨x1,x2,x3,x4⟩:=m.rm g x (by grind)
 obtain⟨y1,y2,y3,y4⟩:=m.rm g y (by grind)
 have hc:=m.rc g
 have hn:=m.rn g
 rw[hr]at hc hn
 obtain⟨p1,p2⟩:=hc.part hn
 have Pt:=aoy.1 (show(x::(A++[y])).Nodup from hn)
 have hp:(A++[y]).Perm (y::A):=by grind
 have er:∀h c,c∈am h→(c=x∨c=y)→h=g:=fun h c hh he=>by
  cases m;grind
 refine⟨m.pr,fun z=>(m.cy z).aO (fun h=>(m.LA h).1 g (by grind)) (fun h=>(m.LA h).1 g (by grind)),fun h=>?_,fun h=>?_,fun h c hh=>?_,aoy.2 ⟨x4,m.wn⟩,fun c T9=>?_,fun c h1 h2=>?_,fun c hc=>?_⟩
 ·cases m;grind [az,oW.aO]
 ·cases m;grind [az]
 ·cases m;grind [az]
 ·cases m;grind [qu]
 ·cases m;grind [az]
 cases m;grind [qu]
theorem dU.aat(m:dU hm lt nx ch ay am W){g:Int}(hr:am g=[x]):dU hm lt nx ch ay (az am g []) (x::W):=by
 obtain⟨x1,x2,x3,x4⟩:=m.rm g x (by grind)
 have hc:=m.rc g
 rw[hr]at hc
 refine⟨m.pr,m.cy,fun h=>?_,fun h=>?_,fun h c hh=>?_,aoy.2 ⟨x4,m.wn⟩,fun c yO=>?_,fun c h1 h2=>?_,m.lone⟩
 ·unfold az;split
  ·trivial
  ·exact m.rc h
 ·cases m;grind [az]
 ·cases m;grind [az]
 ·rcases aoR.1 yO with rfl|yO
  ·exact⟨hc,x2,by omega⟩
  ·exact m.wm c yO
 cases m;grind [az]
theorem Pr.R0(q:Pr hm lt ch ay){l:List Int}(h:(ch x).Perm l):Pr hm lt (az ch x l) ay:=by
 refine⟨q.h0,fun y c hc=>?_,fun c y hc hy=>?_,fun y=>?_⟩
 ·cases q;grind [az]
 ·cases q;grind [az]
 cases q;grind [az]
theorem cO(ch:Int→List Int)(x:Int)(l l':List Int):az (az ch x l) x l'=az ch x l':=by
 grind [az]
theorem Jp(ch:Int→List Int)(x b:Int)(l:List Int):az (nP ch x b) x l=az ch x l:=by
 grind [az,nP]
theorem dU.aau(m:dU hm lt nx ch ay am W){l:List Int}(hp:(ch x).Perm l)(hc:oW nx l):dU hm lt nx (az ch x l) ay am W:=by
 refine⟨m.pr.R0 hp,fun y=>?_,m.rc,m.rn,m.rm,m.wn,m.wm,m.Ax,m.lone⟩
 cases m;grind [az]
theorem dU.WV(m:dU hm lt nx ch ay am (x::y::W))(hh:hm x=hm y)(hl:lt x y=true)(hc:ch x=[]):dU hm lt nx (az ch x [y]) (aJ ay y x) am (x::W):=by
 obtain⟨x1,x2,x3⟩:=m.wm x (by simp)
 obtain⟨y1,y2,y3⟩:=m.wm y (by simp)
 have Lx:=m.wne (c:=x) (by simp)
 have hn:=m.wn
 simp only[aoy,aoR,not_or]at hn
 have pu:∀c,c≠y→aJ ay y x c=ay c:=by grind [aJ]
 have q:=m.pr.link Lx y2 hh y3 hl
 have e1:nP ch x y=az ch x [y]:=by
  funext z
  unfold nP az
  split
  ·rw[hc]
  ·rfl
 rw[e1]at q
 refine⟨q,fun z=>?_,m.rc,m.rn,fun h c hc=>?_,by grind,fun c hc=>?_,fun c h1 h2=>?_,m.lone⟩
 ·unfold az
  split
  ·exact y1
  ·exact m.cy z
 ·cases m;grind
 ·cases m;grind
 cases m;grind [aJ]
theorem dU.under(m:dU hm lt nx ch ay am (x::y::W))(hh:hm x=hm y)(hl:lt x y=true){k:Int}{K:List Int}(hc:ch x=k::K):dU hm lt (uH nx k y) (az ch x (y::K++[k])) (aJ ay y x) am (x::W):=by
 obtain⟨x1,x2,x3⟩:=m.wm x (by simp)
 obtain⟨y1,y2,y3⟩:=m.wm y (by simp)
 have Lx:=m.wne (c:=x) (by simp)
 have hn:=m.wn
 simp only[aoy,aoR,not_or]at hn
 have hk:=m.LA (c:=k) (x:=x) (by grind)
 have hk2:=m.pr.dn x k (by grind)
 have yr:∀h,y∉am h:=fun h hh=>(m.rm h y hh).2.2.2 (by simp)
 have yc:∀z,y∉ch z:=fun z h=>(m.LA h).2 (by simp)
 have kc:∀z,k∈ch z→z=x:=fun z h=>by rw[← (m.pr.dn z k h).1,hk2.1]
 have pu:∀c,c≠y→aJ ay y x c=ay c:=by grind [aJ]
 have q:=m.pr.link Lx y2 hh y3 hl
 have q2:=q.R0 (x:=x) (l:=y::K++[k]) (by
  grind [nP])
 rw[Jp]at q2
 have cyc:oW (uH nx k y) (y::K++[k]):=by
  have h1:=m.cy x
  rw[hc]at h1
  have jk:=m.pr.nd x
  have hy:=yc x
  rw[hc]at jk hy
  have h3:=h1.join (y:=y) (B:=[]) y1 (by
   grind)
  exact oW.Zj (l1:=[k]) (l2:=y::K) h3
 refine⟨q2,fun z=>?_,fun h=>(m.rc h).aO (hk.1 h) (yr h),m.rn,fun h c hc=>?_,by grind,fun c hc=>?_,fun c h1 h2=>?_,fun c yO=>?_⟩
 ·cases m;grind [az,oW.aO]
 ·cases m;grind
 ·cases m;grind [qu]
 ·cases m;grind [aJ]
 cases m;grind [qu]
theorem dU.raise(m:dU hm lt nx ch ay am W){g k:Int}{K:List Int}(hr:am g=x::A)(hc:ch x=k::K):dU hm lt (uH nx x k) (az ch x []) (fx ch ay x) (az am g (x::K++k::A)) W:=by
 obtain⟨x1,x2,x3,x4⟩:=m.rm g x (by grind)
 have im:x≠ -1:=m.rne (h:=g) (by grind)
 have hk:=m.LA (c:=k) (x:=x) (by grind)
 have hk2:=m.pr.dn x k (by grind)
 have uM:∀c,c∈ch x→hm c=g∧0<hm c:=fun c h=>by have:=m.pr.dn x c h;omega
 have xc:∀z,x∉ch z:=fun z h=>(m.LA h).1 g (by grind)
 have kc:∀z,k∈ch z→z=x:=fun z h=>by rw[← (m.pr.dn z k h).1,hk2.1]
 have xr:∀h,x∈am h→h=g:=fun h hh=>by rw[← (m.rm h x hh).1,x1]
 have hnA:=m.rn g
 rw[hr]at hnA
 have hnK:=m.pr.nd x
 rw[hc]at hnK
 have ajq:((x::A)++(k::K)).Nodup:=by
  rw[aoS]
  refine⟨hnA,hnK,fun u hu v hv e=>?_⟩
  exact(m.LA (c:=v) (x:=x) (by grind)).1 g (by grind)
 have Ft:((x::A)++(k::K)).Perm (x::K++k::A):=by
  refine List.Perm.cons x ?_
  refine(aoY (l₁:=A) (l₂:=k::K)).trans ?_
  exact apv.symm
 have DZ:=m.rc g
 rw[hr]at DZ
 have hck:=m.cy x
 rw[hc]at hck
 refine⟨m.pr.bare x,fun z=>?_,fun h=>?_,fun h=>?_,fun h c hh=>?_,m.wn,fun c T9=>?_,fun c h1 h2=>?_,fun c rV=>?_⟩
 ·unfold az
  split
  ·trivial
  cases m;grind [oW.aO]
 ·cases m;grind [az,oW.join,oW.aO]
 ·cases m;grind [az]
 ·unfold az at hh
  unfold fx
  split at hh
  ·rename_i e
   rw[e]
   have hm2:=Ft.mem_iff.2 hh
   rcases aoD.1 hm2 with h5|h5
   ·cases m;grind
   ·have h6:c∈ch x:=by rw[hc];exact h5
    obtain⟨h7,h8⟩:=uM c h6
    rw[if_pos h6]
    exact⟨h7,rfl,by omega,(m.LA h6).2⟩
  cases m;grind
 ·cases m;grind [fx,qu]
 ·cases m;grind [az,fx]
 cases m;grind [qu]
theorem dU.off(m:dU hm lt nx ch ay am W){p:Int}(hc:ch p=x::A++[y]):dU hm lt (uH nx x y) (az ch p (A++[y])) (aJ ay x (-1)) am (x::W):=by
 have hx:=m.pr.dn p x (by grind)
 have hy:=m.pr.dn p y (by grind)
 have Pv:=m.LA (c:=x) (x:=p) (by grind)
 have ny':=m.LA (c:=y) (x:=p) (by grind)
 have pu:∀c,c≠x→aJ ay x (-1) c=ay c:=by grind [aJ]
 have Lq:=m.cy p
 have jk:=m.pr.nd p
 rw[hc]at Lq jk
 obtain⟨p1,p2⟩:=Lq.part jk
 have q:=m.pr.off (l1:=[]) (l2:=A++[y]) (x:=x) (p:=p) (by grind)
 refine⟨q,fun z=>?_,fun h=>(m.rc h).aO (Pv.1 h) (ny'.1 h),m.rn,fun h c hh=>?_,aoy.2 ⟨Pv.2,m.wn⟩,fun c T9=>?_,fun c h1 h2=>?_,fun c rV=>?_⟩
 ·unfold az
  split
  ·exact oW.Zj (l1:=[y]) (l2:=A) p2
  ·rename_i e
   exact(m.cy z).aO (fun h=>e (by rw[← (m.pr.dn z x h).1,hx.1])) (fun h=>e (by rw[← (m.pr.dn z y h).1,hy.1]))
 ·cases m;grind
 ·cases m;grind [aJ,qu]
 ·cases m;grind
 cases m;grind [qu]
theorem dU.aeF(m:dU hm lt nx ch ay am W){p:Int}(hc:ch p=[x]):dU hm lt nx (az ch p []) (aJ ay x (-1)) am (x::W):=by
 have hx:=m.pr.dn p x (by grind)
 have Pv:=m.LA (c:=x) (x:=p) (by grind)
 have pu:∀c,c≠x→aJ ay x (-1) c=ay c:=by grind [aJ]
 have Lq:=m.cy p
 rw[hc]at Lq
 have q:=m.pr.off (l1:=[]) (l2:=[]) (x:=x) (p:=p) (by grind)
 refine⟨q,fun z=>?_,m.rc,m.rn,fun h c hh=>?_,aoy.2 ⟨Pv.2,m.wn⟩,fun c T9=>?_,fun c h1 h2=>?_,m.lone⟩
 ·unfold az
  split
  ·trivial
  ·exact m.cy z
 ·cases m;grind
 ·rcases aoR.1 T9 with e|hw
  ·rw[e]
   exact⟨Lq,by unfold aJ;omega,hx.2.2.2.1⟩
  cases m;grind
 cases m;grind
theorem dU.other(m:dU hm lt nx ch ay am W)(h:∀x c,c∈ch x→hm x=hm c→0<hm c→lt x c=true→lt' x c=true):dU hm lt' nx ch ay am W:=
 ⟨m.pr.other m.pr.h0 (by grind),m.cy,m.rc,m.rn,m.rm,m.wn,m.wm,m.Ax,m.lone⟩
theorem dU.put(m:dU hm lt nx ch ay am W){g:Int}(h0:hm' (-1)=0)(hx:hm x≤0)(nO:x≠ -1)(hg:0<g)(e1:hm' x=g)(e2:∀y,y≠x→hm' y=hm y)(el:∀a b,0<hm a→0<hm b→a≠x→b≠x→lt' a b=lt a b):dU hm' lt' nx ch ay am (x::W):=by
 obtain⟨a1,a2⟩:=m.pr.alone hx nO
 have nr:∀h,x∉am h:=fun h hh=>by cases m;grind
 have nW:x∉W:=fun h=>by have:=(m.wm x h).2.2;omega
 refine⟨m.pr.other h0 fun y c hc h1 h2 h3=>?_,m.cy,m.rc,m.rn,fun h c hh=>?_,aoy.2 ⟨nW,m.wn⟩,fun c hc=>?_,fun c h1 h2=>?_,fun c hc=>?_⟩
 ·have n1:y≠x:=fun e=>by rw[e,a2]at hc;cases hc
  have n2:c≠x:=fun e=>by rw[e]at h2;omega
  rw[e2 _ n1,e2 _ n2,el _ _ (by omega) h2 n1 n2]
  exact⟨h1,h2,h3⟩
 ·cases m;grind
 ·cases m;grind
 ·cases m;grind
 ·by_cases Jo:c=x
  ·rw[Jo,e1]at hc;omega
  ·rw[e2 c Jo]at hc
   exact m.lone c hc
theorem dU.drop(m:dU hm lt nx ch ay am (x::W))(hc:ch x=[])(h0:hm' (-1)=0)(e1:hm' x=0)(e2:∀y,y≠x→hm' y=hm y)(el:∀a b,0<hm a→0<hm b→a≠x→b≠x→lt' a b=lt a b):dU hm' lt' nx ch ay am W:=by
 obtain⟨x1,x2,x3⟩:=m.wm x (by simp)
 have hn:=aoy.1 m.wn
 refine⟨m.pr.other h0 fun y c Nj h1 h2 h3=>?_,m.cy,m.rc,m.rn,fun h c hh=>?_,hn.2,fun c T9=>?_,fun c h1 h2=>?_,fun c rV=>?_⟩
 ·have n1:y≠x:=by grind
  have n2:c≠x:=fun e=>by rw[e]at Nj;exact(m.LA Nj).2 (by simp)
  grind
 ·cases m;grind
 ·cases m;grind
 ·cases m;grind
 cases m;grind
end
end Go.Proofs.YtjkkkibiegfecaaGreatDoor

namespace Go.Proofs.YtjkkkibiegfecaaGreatDoor
section
variable {hm hm' : Int → Int} {lt lt' : Int → Int → Bool} {ch dK : Int → List Int} {ay : Int → Int} {rows : Int → List Int} {W W' l l' : List Int} {x y a b c p g : Int}
def Fu(ch:Int→List Int)(l:List Int):Prop:=l.Pairwise fun a b=>(ch a).length< (ch b).length
theorem Fu.nodup(h:Fu ch l):l.Nodup:=List.Pairwise.imp (by grind) h
theorem Fu.frame(h:Fu ch l)(e:∀c∈l,(dK c).length=(ch c).length):Fu dK l:=
 List.Pairwise.imp_of_mem (by grind) h
theorem Fu.sub(h:Fu ch l)(hs:l'.Sublist l):Fu ch l':=List.Pairwise.sublist hs h
structure iA(hm:Int→Int)(lt:Int→Int→Bool)(ch:Int→List Int)(ay:Int→Int)(rows:Int→List Int)(W:List Int):Prop where
 pr:Pr hm lt ch ay
 dg:∀x (i:Nat) c,(ch x)[i]? =some c→(ch c).length=i
 rr:∀h,Fu ch (rows h)
 rm:∀h c,c∈rows h→hm c=h∧ay c= -1∧0<h∧c∉W
 wn:W.Nodup
 wm:∀c∈W,ay c= -1∧0<hm c
 Ax:∀c,0<hm c→ay c= -1→c∈rows (hm c)∨c∈W
theorem iA.less(m:iA hm lt ch ay rows W)(h:c∈ch x):(ch c).length< (ch x).length:=by
 obtain⟨i,hi,e⟩:=apu.1 h
 have:=m.dg x i c (by grind)
 omega
theorem iA.wne(m:iA hm lt ch ay rows W)(h:c∈W):c≠ -1:=fun e=>by
 have:=(m.wm c h).2
 rw[e,m.pr.h0]at this
 omega
theorem iA.UB(m:iA hm lt ch ay rows W)(h:ay c= -1)(z:Int):c∉ch z:=fun hc=>by
 have:=m.pr.dn z c hc
 omega
theorem iA.perm(m:iA hm lt ch ay rows W)(h:W.Perm W'):iA hm lt ch ay rows W':=
 ⟨m.pr,m.dg,m.rr,fun g c hc=>by cases m;grind,h.nodup_iff.1 m.wn,fun c hc=>m.wm c (h.mem_iff.2 hc),fun c h1 h2=>(m.Ax c h1 h2).imp_right h.mem_iff.1⟩
theorem iA.other(m:iA hm lt ch ay rows W)(h:∀x c,c∈ch x→lt x c=true→lt' x c=true):iA hm lt' ch ay rows W:=
 ⟨m.pr.other m.pr.h0 (by grind),m.dg,m.rr,m.rm,m.wn,m.wm,m.Ax⟩
theorem iA.link(m:iA hm lt ch ay rows (a::b::W))(hh:hm a=hm b)(hd:(ch a).length=(ch b).length)(hl:lt a b=true):
  iA hm lt (az ch a (ch a++[b])) (aJ ay b a) rows (a::W):=by
 obtain⟨a1,a2⟩:=m.wm a (by simp)
 obtain⟨b1,b2⟩:=m.wm b (by simp)
 have hn:=m.wn
 simp only[aoy,aoR,not_or]at hn
 have han:a≠ -1:=m.wne (by simp)
 have eJ:a≠b:=hn.1.1
 have q:=m.pr.link han b1 hh b2 hl
 have q2:=q.R0 (x:=a) (l:=ch a++[b]) (by
  grind [nP])
 rw[Jp]at q2
 have nc:=m.UB a1
 have ne:∀c,c≠a→az ch a (ch a++[b]) c=ch c:=by grind [az]
 have na:az ch a (ch a++[b]) a=ch a++[b]:=by unfold az;grind
 refine⟨q2,fun z i c hc=>?_,fun h=>(m.rr h).frame fun c hc=>?_,fun h c hc=>?_,by grind,fun c hc=>?_,fun c h1 h2=>?_⟩
 ·cases m;grind
 ·cases m;grind
 ·cases m;grind [aJ]
 ·cases m;grind [aJ]
 cases m;grind [aJ]
theorem iA.loose(m:iA hm lt ch ay rows W)(g:Int):iA hm lt ch ay (az rows g []) (rows g++W):=by
 refine⟨m.pr,m.dg,fun h=>?_,fun h c hc=>?_,aoS.2 ⟨(m.rr g).nodup,m.wn,fun u hu v hv e=>(m.rm g u hu).2.2.2 (by grind)⟩,fun c hc=>?_,fun c h1 h2=>?_⟩
 ·unfold az
  split
  ·exact List.Pairwise.nil
  ·exact m.rr h
 ·cases m;grind [az]
 ·cases m;grind
 cases m;grind [az]
theorem iA.row(m:iA hm lt ch ay rows (l++W))(he:rows g=[])(hr:Fu ch l)(hg:∀c∈l,hm c=g):iA hm lt ch ay (az rows g l) W:=by
 obtain⟨n1,n2,n3⟩:=aoS.1 m.wn
 refine⟨m.pr,m.dg,fun h=>?_,fun h c hc=>?_,n2,fun c hc=>m.wm c (by grind),fun c h1 h2=>?_⟩
 ·cases m;grind [az]
 ·cases m;grind [az]
 cases m;grind [az]
theorem iA.split(m:iA hm lt ch ay rows (x::W)):iA hm lt (az ch x []) (fx ch ay x) rows (x::(ch x++W)):=by
 obtain⟨x1,x2⟩:=m.wm x (by simp)
 have hn:=aoy.1 m.wn
 have nc:=m.UB x1
 have kd:∀c,c∈ch x→ay c≠ -1:=fun c hc e=>m.UB e x hc
 refine⟨m.pr.bare x,fun z i c hc=>?_,fun h=>(m.rr h).frame fun c hc=>?_,fun h c hc=>?_,?_,fun c hc=>?_,fun c h1 h2=>?_⟩
 ·cases m;grind [az]
 ·cases m;grind [az]
 ·cases m;grind [fx]
 ·rw[aoy,aoS]
  refine⟨?_,m.pr.nd x,hn.2,fun u hu v hv e=>kd u hu (by cases m;grind)⟩
  grind
 ·simp only[aoR,aoD]at hc
  unfold fx
  rcases hc with h|h|h
  ·grind
  ·rw[if_pos h]
   exact⟨rfl,(m.pr.dn x c h).2.2.2.1⟩
  cases m;grind
 cases m;grind [fx]
theorem iA.put(m:iA hm lt ch ay rows W)(h0:hm' (-1)=0)(hx:hm x≤0)(nO:x≠ -1)(hg:0<g)(e1:hm' x=g)(e2:∀y,y≠x→hm' y=hm y)(el:∀a b,0<hm a→0<hm b→a≠x→b≠x→lt' a b=lt a b):iA hm' lt' ch ay rows (x::W)∧ch x=[]:=by
 obtain⟨a1,a2⟩:=m.pr.alone hx nO
 have nr:∀h,x∉rows h:=fun h hh=>by cases m;grind
 have nW:x∉W:=fun h=>by have:=(m.wm x h).2;omega
 refine⟨⟨m.pr.other h0 fun y c hc h1 h2 h3=>?_,m.dg,m.rr,fun h c hh=>?_,aoy.2 ⟨nW,m.wn⟩,fun c hc=>?_,fun c h1 h2=>?_⟩,a2⟩
 ·have n1:y≠x:=fun e=>by rw[e,a2]at hc;cases hc
  have n2:c≠x:=fun e=>by rw[e]at h2;omega
  rw[e2 _ n1,e2 _ n2,el _ _ (by omega) h2 n1 n2]
  exact⟨h1,h2,h3⟩
 ·cases m;grind
 ·cases m;grind
 ·by_cases Jo:c=x
  ·exact .inr (by simp[Jo])
  ·rw[e2 c Jo]at h1 ⊢
   exact(m.Ax c h1 h2).imp_right fun h=>by simp[h]
theorem iA.drop(m:iA hm lt ch ay rows (x::W))(hc:ch x=[])(h0:hm' (-1)=0)(e1:hm' x=0)(e2:∀y,y≠x→hm' y=hm y)(el:∀a b,0<hm a→0<hm b→a≠x→b≠x→lt a b=true→lt' a b=true):iA hm' lt' ch ay rows W:=by
 obtain⟨x2,x3⟩:=m.wm x (by simp)
 have hn:=aoy.1 m.wn
 refine⟨m.pr.other h0 fun y c Nj h1 h2 h3=>?_,m.dg,m.rr,fun h c hh=>?_,hn.2,fun c T9=>?_,fun c h1 h2=>?_⟩
 ·have n1:y≠x:=by grind
  have n2:c≠x:=fun e=>by rw[e]at Nj;exact m.UB x2 _ Nj
  grind
 ·cases m;grind
 ·cases m;grind
 cases m;grind
def gF(x p z:Int):Int:=if z=x then p else if z=p then x else z
theorem qv:gF x p x=p:=by unfold gF;omega
theorem D0:gF x p p=x:=by
 unfold gF
 omega
theorem lu(h1:c≠x)(h2:c≠p):gF x p c=c:=by unfold gF;omega
theorem rW(z:Int):gF x p (gF x p z)=z:=by
 grind [qv,D0,lu]
theorem UC{u v:Int}(h:gF x p u=gF x p v):u=v:=by grind [rW]
def FL(ch:Int→List Int)(x p:Int):Int→List Int:=fun z=>(ch (gF x p z)).map (gF x p)
def J2(ay:Int→Int)(x p:Int):Int→Int:=fun z=>gF x p (ay (gF x p z))
theorem AH(h1:x∉l)(h2:p∉l):l.map (gF x p)=l:=by
 have:l.map (gF x p)=l.map id:=ao9 (by grind [gF])
 simp_all
theorem Jq(h:l.Nodup):(l.map (gF x p)).Nodup:=by
 grind [UC]
theorem UD(z:Int):(FL ch x p (gF x p z)).length=(ch z).length:=by unfold FL;rw[rW,aoJ]
theorem pi{z:Int}:z∈l.map (gF x p)↔gF x p z∈l:=by
 grind [rW]
theorem iA.swap(m:iA hm lt ch ay rows W)(hx:x∈ch p)(hl:∀z c,c∈ch z→lt z c=true→lt' (gF x p z) (gF x p c)=true):
  iA hm lt' (FL ch x p) (J2 ay x p) (fun h=>(rows h).map (gF x p)) (W.map (gF x p)):=by
 obtain⟨d1,d2,d3,d4,d5⟩:=m.pr.dn p x hx
 have Lx:=m.pr.ne hx
 have Nu:∀z,hm (gF x p z)=hm z:=by grind [gF]
 have oX:gF x p (-1)= -1:=by grind [gF]
 have T7:∀z,gF x p z= -1↔z= -1:=by grind [gF]
 have hpS:∀z,J2 ay x p z= -1↔ay (gF x p z)= -1:=fun z=>T7 _
 refine⟨⟨m.pr.h0,fun z c hc=>?_,fun c z hc hz=>?_,fun z=>Jq (m.pr.nd _)⟩,fun z i c hc=>?_,fun h=>?_,fun h c hc=>?_,Jq m.wn,fun c hc=>?_,fun c h1 h2=>?_⟩
 ·have yO:=pi.1 hc
  obtain⟨h1,h2,h3,h4,h5⟩:=m.pr.dn _ _ yO
  grind [J2,rW]
 ·have h1:ay (gF x p c)=gF x p z:=by rw[←hc];unfold J2;rw[rW]
  exact pi.2 (m.pr.up _ _ h1 (by grind))
 ·cases m;grind [FL,UD]
 ·unfold Fu
  rw[List.pairwise_map]
  exact(m.rr h).imp (by grind [gF,FL])
 ·cases m;grind [pi]
 ·cases m;grind [pi]
 cases m;grind [pi]
def lx(lt:Int→Int→Bool)(x:Int):Int→Int→Bool:=fun a b=>decide (a=x) || decide (b=x) || lt a b
theorem R1(h:lt a b=true):lx lt x a b=true:=by unfold lx;simp[h]
theorem FM(h:lx lt x a b=true)(h1:a≠x)(h2:b≠x):lt a b=true:=by
 unfold lx at h
 grind
structure LC(hm:Int→Int)(lt:Int→Int→Bool)(ch:Int→List Int)(ay:Int→Int)(rows:Int→List Int)(W:List Int)(x:Int):Prop where
 w:iA hm (lx lt x) ch ay rows W
 by_:ay x≠ -1→∀d∈ch x,lt (ay x) d=true
theorem LC.start(hs:bF lt)(m:iA hm lt ch ay rows W)(el:∀a b,0<hm a→0<hm b→a≠x→b≠x→lt' a b=lt a b):LC hm lt' ch ay rows W x:=by
 have nx:x∉ch x:=fun h=>by have:=m.less h;omega
 refine⟨m.other fun z c hc h=>?_,fun hp d hd=>?_⟩
 ·by_cases h1:z=x
  ·unfold lx;simp[h1]
  ·by_cases h2:c=x
   ·unfold lx;simp[h2]
   ·obtain⟨_,_,h3,h4,_⟩:=m.pr.dn z c hc
    grind [R1]
 ·have hx:=m.pr.up x _ rfl hp
  obtain⟨_,_,h3,h4,h5⟩:=m.pr.dn _ _ hx
  obtain⟨_,_,h6,h7,h8⟩:=m.pr.dn _ _ hd
  cases hs;grind
theorem LC.up(hs:bF lt)(m:LC hm lt ch ay rows W x)(hx:x∈ch p):LC hm lt (FL ch x p) (J2 ay x p) (fun h=>(rows h).map (gF x p)) (W.map (gF x p)) x:=by
 have hd:=m.w.pr.dn p x hx
 have Ay:=m.w.less hx
 have gE:p≠x:=by grind
 have hp:ay x=p:=hd.1
 have nx:∀c,c∈ch x→c≠x∧c≠p:=fun c hc=>by
  have:=m.w.less hc
  grind
 refine⟨m.w.swap hx fun z c hc h=>?_,fun hq d UE=>?_⟩
 ·by_cases h1:z=x
  ·cases m;grind [qv,lu,R1]
  ·by_cases h2:z=p
   ·rw[h2,D0];unfold lx;simp
   ·by_cases h3:c=x
    ·have:=(m.w.pr.dn z c hc).1
     grind
    grind [lx,D0,lu]
 ·have V0:J2 ay x p x=gF x p (ay p):=by unfold J2;rw[qv]
  have Qg:ay p≠ -1:=fun e=>hq (by rw[V0,e];exact lu (Ne.symm (m.w.pr.ne hx)) (Ne.symm hd.2.1))
  have R2:=m.w.pr.up p _ rfl Qg
  have uG:=m.w.less R2
  have g1:ay p≠x:=by grind
  have g2:ay p≠p:=by grind
  rw[V0,lu g1 g2]
  have h1:=FM (m.w.pr.dn _ _ R2).2.2.2.2 g1 gE
  unfold FL at UE
  rw[qv]at UE
  have rX:=pi.1 UE
  by_cases e1:d=p
  ·grind
  ·have e2:d≠x:=fun e=>by
    rw[e,qv]at rX
    have:=m.w.less rX
    omega
   rw[lu e2 e1]at rX
   exact hs.tr _ _ _ h1 (FM (m.w.pr.dn p d rX).2.2.2.2 gE e2)
theorem LC.low(hs:bF lt)(m:LC hm lt ch ay rows W x)(hx:x∈ch p)(hl:lt x p=true):∀d∈FL ch x p x,lt x d=true:=by
 intro d UE
 have Ay:=m.w.less hx
 have gE:p≠x:=by grind
 unfold FL at UE
 rw[qv]at UE
 have rX:=pi.1 UE
 by_cases e1:d=p
 ·grind
 ·have e2:d≠x:=fun e=>by
   rw[e,qv]at rX
   have:=m.w.less rX
   omega
  rw[lu e2 e1]at rX
  exact hs.tr _ _ _ hl (FM (m.w.pr.dn p d rX).2.2.2.2 gE e2)
theorem LC.done(m:LC hm lt ch ay rows W x)(h1:∀d∈ch x,lt x d=true)(h2:ay x≠ -1→lt (ay x) x=true):iA hm lt ch ay rows W:=by
 refine m.w.other fun z c hc h=>?_
 by_cases e1:z=x
 ·grind
 ·by_cases e2:c=x
  ·obtain⟨d1,d2,_⟩:=m.w.pr.dn z c hc
   grind
  ·exact FM h e1 e2
end
end Go.Proofs.YtjkkkibiegfecaaGreatDoor

namespace Go.Proofs.YtjkkkibiegfecaaGreatDoor
section
variable {hm hm' : Int → Int} {lt : Int → Int → Bool} {K K' : Int → Bool → Int} {U U' T : Int → Int} {a b r : Int}
theorem wF.join(t:wF hm lt K U T)(h0:hm' (-1)=0)(eJ:a≠b)(ha:0<a)(e:∀y,hm' y=if hm y=b then a else hm y):
  Mg hm' lt a (fun y=>0<hm' y∧U y= -1∧y≠T a∧y≠T b) K U [] (T a) (T b):=by
 refine Mg.start (t.bt.other h0 fun x p hu hp h1 h2 h3=>?_) ha ?_ ?_ ?_
 ·rw[e,e,h1]
  refine⟨rfl,?_,h3⟩
  split<;>omega
 ·by_cases h:T a= -1
  ·exact .inl h
  ·obtain⟨h1,_,h2⟩:=t.t1 a h
   exact .inr ⟨by rw[e,h1,if_neg eJ],h2⟩
 ·by_cases h:T b= -1
  ·exact .inl h
  ·obtain⟨h1,_,h2⟩:=t.t1 b h
   exact .inr ⟨by rw[e,h1,if_pos rfl],h2⟩
 ·intro h
  apply aoA
  intro h2
  have h3:=(t.t1 a h2).1
  have h4:=(t.t1 b (h▸h2)).1
  rw[h]at h3
  omega
theorem wF.J3(t:wF hm lt K U T)(h0:hm' (-1)=0)(eJ:a≠b)(ha:0<a)(R3:0<b)(e:∀y,hm' y=if hm y=b then a else hm y)
  (m:Mg hm' lt a (fun y=>0<hm' y∧U y= -1∧y≠T a∧y≠T b) K' U' [] r (-1)):wF hm' lt K' U' (cR (cR T a r) b (-1)):=by
 have key:cR (cR T a r) b (-1)=cR (cR T b (-1)) a r:=by
  funext y
  unfold cR
  grind
 rw[key]
 refine m.done (fun g hg hh=>?_) (fun x hx=>?_)
 ·unfold cR at hh ⊢
  split at hh
  ·exact absurd rfl hh
  ·rename_i hb
   rw[if_neg hb]
   obtain⟨h1,h2,h3⟩:=t.t1 g hh
   have h4:hm' (T g)=g:=by rw[e,h1,if_neg hb]
   refine⟨h4,h2,by omega,h3,fun h=>?_,fun h=>?_⟩
   ·have:=(t.t1 a (h▸hh)).1
    rw[←h,h1]at this
    exact hg this
   ·have:=(t.t1 b (h▸hh)).1
    rw[←h,h1]at this
    exact hb this
 ·obtain⟨h1,h2,h3,h4⟩:=hx
  have h5:=t.t2 x
  unfold cR
  grind
end
end Go.Proofs.YtjkkkibiegfecaaGreatDoor

namespace Go.Proofs.YtjkkkibiegfecaaGreatDoor
section
variable {hm hm' : Int → Int} {lt lt' : Int → Int → Bool} {ch : Int → List Int} {ay : Int → Int} {am : Int → List Int} {W A : List Int} {nx pv : Int → Int} {x g T y : Int}
theorem Pr.root(q:Pr hm lt ch ay)(hs:bF lt){n:Nat}(hn:∀x,0<hm x→0≤x∧x<n):∀ (k:Nat) {x:Int},Nt lt n x≤k→0<hm x→∃r,hm r=hm x∧ay r= -1∧(r=x∨lt r x=true):=by
 intro k
 induction k with
 |zero=>
  intro x hk hx
  by_cases hp:ay x= -1
  ·grind
  ·obtain⟨_,_,h3,h4,h5⟩:=q.dn _ _ (q.up x _ rfl hp)
   have:=Fs hs (n:=n) (hn _ (by omega)) h5
   omega
 |succ k ih=>
  intro x hk hx
  by_cases hp:ay x= -1
  ·grind
  ·obtain⟨_,_,h3,h4,h5⟩:=q.dn _ _ (q.up x _ rfl hp)
   have:=Fs hs (n:=n) (hn _ (by omega)) h5
   cases hs;grind
theorem Pr.lead(q:Pr hm lt ch ay)(hs:bF lt){n:Nat}(hn:∀x,0<hm x→0≤x∧x<n)(hg:0<g)(h:∀c,hm c=g→ay c= -1→T≠ -1∧(c≠T→lt T c=true))(hy:hm y=g):T≠ -1∧(y≠T→lt T y=true):=by
 obtain⟨r,r1,r2,r3⟩:=q.root hs hn _ (aox _) (x:=y) (by omega)
 cases hs;grind
theorem dU.V7(m:dU hm lt nx ch ay am W)(hi:AG nx pv)(hr:am g=x::A):dU hm lt (uH nx x (pv x)) ch ay (az am g A) (x::W):=by
 have hc:=m.rc g
 rw[hr]at hc
 rcases List.eq_nil_or_concat A with h| ⟨B,y,h⟩
 ·subst h
  have h1:nx x=x:=hc
  have h2:pv x=x:=by
   have:=hi.pn x
   grind
  rw[h2,Lz]
  exact m.aat hr
 ·rw[List.concat_eq_append]at h
  subst h
  have h2:pv x=y:=oW.last (A:=B) hi hc
  rw[h2]
  have m2:=m.aas (A:=B) (y:=y) hr
  have h3:=m2.wT (g:=g) (l:=B++[y]) (by
   unfold az
   grind) (by
   have:=m2.rc g
   grind [az,oW.Zj])
  rwa[cO]at h3
theorem dU.from_(m:dU hm lt nx ch ay am W)(hx:x∈am g):∃A,(am g).Perm (x::A)∧dU hm lt nx ch ay (az am g (x::A)) W:=by
 obtain⟨A,h1,h2⟩:=(m.rc g).from hx
 exact⟨A,h1,m.wT h1 h2⟩
end
end Go.Proofs.YtjkkkibiegfecaaGreatDoor

namespace Go.Proofs.YtjkkkibiegfecaaGreatDoor
section
variable {hm hm' : Int → Int} {lt : Int → Int → Bool} {nx Pv : Int → Int} {ch : Int → List Int} {ay : Int → Int} {am : Int → List Int} {a b : Int} {l : List Int}
theorem dU.yP(m:dU hm lt nx ch ay am [])(h0:hm' (-1)=0)(eJ:a≠b)(ha:0<a)(hb:0<b)(e:∀y,hm' y=if hm y=b then a else hm y)
  (hl:∀c,c∈l↔c∈am a∨c∈am b)(hc:oW Pv l)(hn:l.Nodup)(hf:∀c,c∉am a→c∉am b→Pv c=nx c):dU hm' lt Pv ch ay (az (az am a l) b []) []:=by
 have rm:=m.rm
 have no:∀x c,c∈ch x→c∉am a∧c∉am b:=fun x c h=>⟨(m.LA h).1 a,(m.LA h).1 b⟩
 refine⟨m.pr.other h0 fun x c hc h1 h2 h3=>?_,fun x=>(m.cy x).frame fun c hc=>hf c (no x c hc).1 (no x c hc).2,fun h=>?_,fun h=>?_,fun h c hh=>?_,apJ,by simp,fun c hp hu=>?_,fun c hp=>?_⟩
 ·rw[e,e,h1]
  refine⟨rfl,?_,h3⟩
  split<;>omega
 ·unfold az
  split
  ·trivial
  ·split
   ·exact hc
   ·refine(m.rc h).frame fun c hh=>hf c ?_ ?_<;>grind
 ·unfold az
  have:=m.rn h
  split
  ·simp
  ·split
   ·exact hn
   ·exact this
 ·unfold az at hh
  rw[e]
  grind
 ·have:=m.Ax c
  rw[e]at hp ⊢
  unfold az
  grind
 ·have:=m.lone c
  rw[e]at hp
  rw[hf c]<;>grind
end
end Go.Proofs.YtjkkkibiegfecaaGreatDoor

namespace Go.Proofs.YtjkkkibiegfecaaGreatDoor
section
variable {hm hm' : Int → Int} {lt : Int → Int → Bool} {ch dK : Int → List Int} {ay bG T : Int → Int} {a b r : Int}
theorem Pu.join(t:Pu hm lt ch ay T)(h0:hm' (-1)=0)(eJ:a≠b)(ha:0<a)(hb:0<b)(e:∀y,hm' y=if hm y=b then a else hm y):
  AF hm' lt a (fun y=>0<hm' y∧ay y= -1∧y≠T b∧y≠T a) ch ch ay (ws [T a,T b]):=by
 have ta:=t.tp.t1 a
 have tb:=t.tp.t1 b
 have mem:∀y,y∈ws [T a,T b]↔y≠ -1∧(y=T a∨y=T b):=fun y=>by
  unfold ws
  simp
  grind
 refine⟨t.pr.other h0 fun x c hc h1 h2 h3=>?_,?_,fun x hx=>?_,fun x hx=>?_,fun x hx=>⟨hx.1,?_⟩,fun _ _=>rfl,ha⟩
 ·rw[e,e,h1]
  refine⟨rfl,?_,h3⟩
  split<;>omega
 ·unfold ws
  by_cases h:T a= -1
  ·by_cases h2:T b= -1<;>simp[h,h2]
  ·by_cases h2:T b= -1
   ·simp[h,h2]
   ·have h3:T a≠T b:=fun h4=>by
     have:=(ta h).1
     have:=(tb h2).1
     rw[h4]at*
     omega
    simp[h,h2,h3]
 ·rw[mem]at hx
  rw[e]
  grind
 ·rw[mem]
  have:x≠ -1:=fun h=>by rw[h,h0]at hx;omega
  grind
 ·rw[mem]
  grind
theorem Pu.J3(t:Pu hm lt ch ay T)(h0:hm' (-1)=0)(eJ:a≠b)(ha:0<a)(R3:0<b)(e:∀y,hm' y=if hm y=b then a else hm y)
  (m:AF hm' lt a (fun y=>0<hm' y∧ay y= -1∧y≠T b∧y≠T a) ch dK bG (ws [r])):Pu hm' lt dK bG (cR (cR T a r) b (-1)):=by
 have key:cR (cR T a r) b (-1)=cR (cR T b (-1)) a r:=by
  funext y
  unfold cR
  grind
 rw[key]
 refine⟨m.pr,m.done (fun g hg hh=>?_) (fun x hx=>?_)⟩
 ·unfold cR at hh ⊢
  have h1:=t.tp.t1 g
  have h2:=t.tp.t1 a
  have h3:=t.tp.t1 b
  grind
 ·obtain⟨h1,h2,h3,h4⟩:=hx
  have h5:=t.tp.t2 x
  unfold cR
  grind
end
end Go.Proofs.YtjkkkibiegfecaaGreatDoor

namespace Go.Proofs.YtjkkkibiegfecaaGreatDoor
section
variable {hm : Int → Int} {ch : Int → List Int} {a b now out : List Int} {c g p q x y : Int} {k ia ib io : Nat}
structure nQ(hm:Int→Int)(ch:Int→List Int)(g:Int)(k ia ib io:Nat)(a b now out:List Int):Prop where
 ra:Fu ch a
 rb:Fu ch b
 ro:Fu ch out
 ka:∀c∈a,ia≤(ch c).length
 kb:∀c∈b,ib≤(ch c).length
 kn:∀c∈now,(ch c).length=k
 ko:∀c∈out,(ch c).length<io
 hg:∀c,c∈a∨c∈b∨c∈now∨c∈out→hm c=g
theorem nQ.aav(h:nQ hm ch g k k ib io (c::a) b now out)(e:(ch c).length=k):nQ hm ch g k (k+1) ib io a b (now++[c]) out:=by
 have hr:=apF.1 h.ra
 refine⟨hr.2,h.rb,h.ro,fun d hd=>?_,h.kb,fun d hd=>?_,h.ko,fun d hd=>?_⟩
 ·grind
 ·cases h;grind
 ·refine h.hg d ?_
  grind
theorem nQ.LD(h:nQ hm ch g k ia k io a (c::b) now out)(e:(ch c).length=k):nQ hm ch g k ia (k+1) io a b (now++[c]) out:=by
 have hr:=apF.1 h.rb
 refine⟨h.ra,hr.2,h.ro,h.ka,fun d hd=>?_,fun d hd=>?_,h.ko,fun d hd=>?_⟩
 ·grind
 ·cases h;grind
 ·refine h.hg d ?_
  grind
theorem nQ.V8(h:nQ hm ch g k k ib io a b now out)(e:∀c,a.head? =some c→(ch c).length≠k):nQ hm ch g k (k+1) ib io a b now out:=by
 refine⟨h.ra,h.rb,h.ro,fun d hd=>?_,h.kb,h.kn,h.ko,h.hg⟩
 cases a with
 |nil=>cases hd
 |cons c a=>
  have h1:=e c rfl
  have h2:=h.ka c (by simp)
  rcases aoR.1 hd with rfl|hd
  ·omega
  ·have:=(apF.1 h.ra).1 d hd;omega
theorem nQ.V9(h:nQ hm ch g k ia k io a b now out)(e:∀c,b.head? =some c→(ch c).length≠k):nQ hm ch g k ia (k+1) io a b now out:=by
 refine⟨h.ra,h.rb,h.ro,h.ka,fun d hd=>?_,h.kn,h.ko,h.hg⟩
 cases b with
 |nil=>cases hd
 |cons c b=>
  have h1:=e c rfl
  have h2:=h.kb c (by simp)
  rcases aoR.1 hd with rfl|hd
  ·omega
  ·have:=(apF.1 h.rb).1 d hd;omega
theorem nQ.aeG(h:nQ hm ch g k ia ib k a b (c::now) out):nQ hm ch g k ia ib (k+1) a b now (out++[c]):=by
 have hc:=h.kn c (by simp)
 refine⟨h.ra,h.rb,?_,h.ka,h.kb,fun d hd=>h.kn d (by simp[hd]),fun d hd=>?_,fun d hd=>h.hg d ?_⟩
 ·unfold Fu
  rw[List.pairwise_append]
  refine⟨h.ro,by simp,fun u hu v hv=>?_⟩
  cases h;grind
 ·cases h;grind
 grind
theorem nQ.aaw(h:nQ hm ch g k (k+1) (k+1) io a b [] out)(hio:io≤k+1):nQ hm ch g (k+1) (k+1) (k+1) (k+1) a b [] out:=
 ⟨h.ra,h.rb,h.ro,h.ka,h.kb,by simp,fun c hc=>by have:=h.ko c hc;omega,h.hg⟩
theorem nQ.aax(h:nQ hm ch g k (k+1) (k+1) io a b [x,y] out)(hio:io≤k+1)(hp:p=x∨p=y)(hn:p∉a∧p∉b∧p∉out):nQ hm (az ch p (ch p++[q])) g (k+1) (k+1) (k+1) (k+1) a b [p] out:=by
 have ne:∀c,c≠p→az ch p (ch p++[q]) c=ch c:=by grind [az]
 have na:az ch p (ch p++[q]) p=ch p++[q]:=by unfold az;grind
 have fa:∀c∈a,az ch p (ch p++[q]) c=ch c:=by grind
 have fb:∀c∈b,az ch p (ch p++[q]) c=ch c:=by grind
 have fo:∀c∈out,az ch p (ch p++[q]) c=ch c:=by grind
 have Ft:p∈[x,y]:=by grind
 refine⟨h.ra.frame (by grind),h.rb.frame (by grind),h.ro.frame (by grind),fun c hc=>by rw[fa c hc];exact h.ka c hc,fun c hc=>by rw[fb c hc];exact h.kb c hc,fun c hc=>?_,fun c hc=>?_,fun c hc=>h.hg c ?_⟩
 ·cases h;grind
 ·cases h;grind
 grind
end
end Go.Proofs.YtjkkkibiegfecaaGreatDoor

namespace Go.Proofs.YtjkkkibiegfecaaGreatDoor
theorem iA.yP{hm hm':Int→Int}{lt:Int→Int→Bool}{ch rows:Int→List Int}{ay:Int→Int}{W:List Int}{a b:Int}(m:iA hm lt ch ay rows W)(h0:hm' (-1)=0)(eJ:a≠b)(ha:0<a)(hb:0<b)(e:∀y,hm' y=if hm y=b then a else hm y):
  iA hm' lt ch ay (az rows b []) (rows b++W):=by
 have l:=m.loose b
 have e2:∀c,0<hm c→0<hm' c:=fun c h=>by rw[e];split<;>omega
 refine⟨m.pr.other h0 fun x c hc h1 h2 h3=>⟨by rw[e,e,h1],e2 c h2,h3⟩,l.dg,l.rr,fun h c hc=>?_,l.wn,fun c hc=>⟨(l.wm c hc).1,e2 c (l.wm c hc).2⟩,fun c h1 h2=>?_⟩
 ·have:=l.rm h c hc
  have hb:h≠b:=fun e=>by rw[e]at hc;unfold az at hc;rw[if_pos rfl]at hc;cases hc
  rw[e]
  grind
 ·have:=m.Ax c
  rw[e]at h1 ⊢
  rw[aoD]
  unfold az
  have hq:=m.rm b c
  by_cases h:hm c=b
  ·grind
  ·grind
end Go.Proofs.YtjkkkibiegfecaaGreatDoor
