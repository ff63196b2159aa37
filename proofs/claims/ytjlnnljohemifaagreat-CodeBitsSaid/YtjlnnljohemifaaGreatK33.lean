/- Texts put behind each other. -/
import Derived.Test.YtjlnnljohemifaaGreatK98
import Derived.Test.YtjlnnljohemifaaGreatK25
import Derived.Test.YtjlnnljohemifaaGreatK26
import Derived.Test.YtjlnnljohemifaaGreatK32
set_option maxRecDepth 100000
set_option maxHeartbeats 8000000
set_option linter.unusedVariables false
set_option linter.unusedSimpArgs false
namespace Go.Proofs.YtjlnnljohemifaaGreat
open Go Go.Vc
structure bY(lt:Int→Int→Bool)(d:Int)(l:List Int)(pl:Int→Option Int):Prop where
 heap:eE lt d l
 pl:Cr l pl
theorem bY.nil(lt:Int→Int→Bool)(d:Int):bY lt d [] (fun _=>none):=
 ⟨fun j _ h=>by simp at h,fun z k=>by simp⟩
theorem bY.congr{lt lt':Int→Int→Bool}{d:Int}(hf:cQ d){l:List Int}{pl:Int→Option Int}(h:bY lt d l pl)(hfg:∀z∈l,∀y∈l,lt z y=lt' z y):bY lt' d l pl:=by
 refine⟨fun j h1 h2=>?_,h.pl⟩
 have hp:=cG hf h1
 have e:∀k,k<l.length→l.getD k 0∈l:=fun k hk=>by
  rw[anx,ans hk];exact List.getElem_mem hk
 rw[←hfg _ (e j h2) _ (e _ (show pa d j<l.length by omega))]
 exact h.heap j h1 h2
theorem bY.add{lt:Int→Int→Bool}(ho:bv lt){d:Int}(hf:cQ d){l:List Int}{pl:Int→Option Int}(h:bY lt d l pl){x:Int}(hx:pl x=none):
  bY lt d (fi lt d x l.length (l++[x]) pl l.length).l (fi lt d x l.length (l++[x]) pl l.length).pl∧
   (∀z,z∈(fi lt d x l.length (l++[x]) pl l.length).l↔z=x∨z∈l)∧(fi lt d x l.length (l++[x]) pl l.length).l.length=l.length+1∧
   (fi lt d x l.length (l++[x]) pl l.length).asked≤kX d l.length:=by
 have TK:=hf.1
 have bW:∀k,k<l.length→(l++[x]).getD k 0=l.getD k 0:=fun k hk=>by
  rw[anx,anx,anJ hk]
 have PC:∀j:Nat,1≤j→j<l.length+1→pa d j≠l.length:=fun j h1 h2=>by have:=cG hf h1;omega
 have hP:Ru (l++[x]) pl l.length x:=by
  intro z hz k
  rw[h.pl z k]
  constructor
  ·rintro⟨a,b⟩
   have hk:=(anu.1 b).1
   exact⟨a,by omega,by rw[anJ hk];exact b⟩
  ·rintro⟨a,b,c⟩
   refine⟨a,?_⟩
   have hk:=(anu.1 c).1
   simp only[anD,anM]at hk
   rw[anJ (by omega)]at c
   exact c
 have my:x∉l:=fun hm=>by
  obtain⟨k,hk⟩:=an6 hm
  have:=(h.pl x k).2 ⟨by omega,by simpa using hk⟩
  rw[hx]at this;cases this
 have Lg:∀z,Ir (l++[x]) l.length z↔z∈l:=by
  intro z
  constructor
  ·rintro⟨k,k1,k2⟩
   have hk:=(anu.1 k2).1
   simp only[anD,anM]at hk
   rw[anJ (by omega)]at k2
   exact anz k2
  ·intro hm
   obtain⟨k,hk⟩:=an6 hm
   have:=(anu.1 hk).1
   exact⟨k,by omega,by rw[anJ this];exact hk⟩
 obtain⟨p1,p2⟩:=Cs (lt:=lt) (d:=d) x l.length (l++[x]) pl l.length (by simp) (by omega) (by simp;omega) hP (fun hc=>my ((Lg x).1 hc))
 refine⟨⟨Jo ho hf x _ _ _ _ (by simp) (by omega) (by simp;omega) ⟨fun j h1 h2 h3 h4=>?_,fun j h1 h2 h3 h4=>?_⟩ (fun j h1 h2 h3=>?_),p1⟩,fun z=>by rw[p2 z,Lg z],by rw[vp];simp,?_⟩
 ·simp only[Int.toNat_natCast]at h3 h4
  have:j<l.length:=by simp at h2;omega
  have hp:=cG hf h1
  rw[bW j this,bW _ (by omega)]
  exact h.heap j h1 this
 ·simp only[Int.toNat_natCast]at h3
  exact absurd h3 (PC j h1 (by simpa using h2))
 ·simp only[Int.toNat_natCast]at h3
  exact absurd h3 (PC j h1 (by simpa using h2))
 ·have:=FF lt d x l.length (l++[x]) pl l.length
  unfold kX
  simpa using this
theorem bY.WZ{lt:Int→Int→Bool}(ho:bv lt){d:Int}(hf:cQ d){l:List Int}{pl:Int→Option Int}(h:bY lt d l pl){x i:Int}(hx:pl x=some i):
  bY lt d (cM lt d x l pl i).1 (cM lt d x l pl i).2.1∧(cM lt d x l pl i).1.length=l.length - 1∧
   (∀z,z∈(cM lt d x l pl i).1↔z∈l∧z≠x)∧((cM lt d x l pl i).2.2:Int)≤d*(kX d ((l.length:Int) - 1):Nat)+1:=by
 obtain⟨a,b,c,e,g⟩:=Lm ho hf h.heap h.pl hx
 exact⟨⟨a,b⟩,c,e,g⟩
theorem bY.mem{lt:Int→Int→Bool}{d:Int}{l:List Int}{pl:Int→Option Int}(h:bY lt d l pl)(z:Int):z∈l↔pl z≠none:=by
 constructor
 ·intro hm
  obtain⟨k,hk⟩:=an6 hm
  rw[(h.pl z k).2 ⟨by omega,by simpa using hk⟩]
  simp
 ·intro hn
  obtain⟨k,hk⟩:=Option.ne_none_iff_exists'.1 hn
  exact anz ((h.pl z k).1 hk).2
theorem bY.least{lt:Int→Int→Bool}(ho:bv lt){d:Int}(hf:cQ d){l:List Int}{pl:Int→Option Int}(h:bY lt d l pl){x:Int}(hx:l[0]? =some x):∀z∈l,z≠x→lt x z=true:=by
 intro z hz aP
 obtain⟨k,hk⟩:=an6 hz
 have YO:=(anu.1 hk).1
 have:=FI ho hf h.heap k k (anG _) YO
 rw[anx,anx,hk,hx]at this
 rcases ho.Ob x z (Ne.symm aP)with h1|h1
 ·exact h1
 ·simp only[Option.getD_some]at this
  rw[h1]at this;cases this
theorem bY.raise{lt lt':Int→Int→Bool}(ho:bv lt)(ho':bv lt'){d:Int}(hf:cQ d){l:List Int}{pl:Int→Option Int}(h:bY lt d l pl){x i:Int}(hx:pl x=some i)(aO:∀a∈l,∀b∈l,a≠x→b≠x→lt' a b=lt a b)(Wr:∀z∈l,z≠x→lt z x=false→lt' z x=false):
  bY lt' d (fi lt' d x i.toNat l pl i).l (fi lt' d x i.toNat l pl i).pl∧(∀z,z∈(fi lt' d x i.toNat l pl i).l↔z∈l)∧(fi lt' d x i.toNat l pl i).l.length=l.length∧
   (fi lt' d x i.toNat l pl i).asked≤kX d ((l.length:Int) - 1):=by
 obtain⟨i0,hi⟩:=(h.pl x i).1 hx
 have oZ:i.toNat<l.length:=(anu.1 hi).1
 have u0:∀j,j<l.length→j≠i.toNat→l.getD j 0≠x:=fun j hj aP e=>by
  have:l[j]? =some x:=by rw[ans hj,←e,anx,ans hj];rfl
  exact aP (h.pl.FG this hi)
 have bJ:∀j,j<l.length→l.getD j 0∈l:=fun j hj=>by rw[anx,ans hj];exact List.getElem_mem hj
 have M7:=h.heap.but ho hf i.toNat
 have hO:¬Ir l i x:=by
  rintro⟨k,k1,k2⟩
  have:=h.pl.FG k2 hi
  omega
 obtain⟨p1,p2⟩:=Cs (lt:=lt') (d:=d) x i.toNat l pl i (anG _) i0 (by omega) (h.pl.aeM hi i0) hO
 refine⟨⟨Jo ho' hf x _ _ _ _ (anG _) i0 (by omega) ⟨fun j h1 h2 h3 h4=>?_,fun j h1 h2 h3 h4=>?_⟩ (fun j h1 h2 h3=>?_),p1⟩,fun z=>?_,vp _ _ _ _ _ _ _,?_⟩
 ·have:=cG hf h1
  rw[aO _ (bJ j h2) _ (bJ _ (by omega)) (u0 j h2 h3) (u0 _ (by omega) h4)]
  exact M7.1 j h1 h2 h3 h4
 ·have:=cG hf h1
  have:=cG hf h4
  rw[aO _ (bJ j h2) _ (bJ _ (by omega)) (u0 j h2 (by omega)) (u0 _ (by omega) (by omega))]
  exact M7.2 j h1 h2 h3 h4
 ·have Ws:=cG hf h1
  have aP:=u0 j h2 (by omega)
  have:=h.heap j h1 h2
  rw[h3,show l.getD i.toNat 0=x by rw[anx,hi];rfl]at this
  exact Wr _ (bJ j h2) aP this
 ·rw[p2 z]
  constructor
  ·rintro(rfl| ⟨k,_,k2⟩)
   ·exact anz hi
   ·exact anz k2
  ·intro hm
   obtain⟨k,hk⟩:=an6 hm
   by_cases e:(k:Int)=i
   ·rw[show k=i.toNat by omega,hi]at hk;injection hk with hk;exact .inl hk.symm
   ·exact .inr ⟨k,e,hk⟩
 ·have e1:=FF lt' d x i.toNat l pl i
  have e2:=kY hf ((l.length:Int) - 1).toNat i ((l.length:Int) - 1) (anG _) (by omega)
  unfold kX at e2 ⊢
  omega
structure Rw where
 r:Nat
 S:Nat→Prop
 l:List Int
 pl:Int→Option Int
def RU:Option Rw→Value
 |none=>.pointer none
 |some R=>ptr R.r
structure om(H:Hp)(n c:Nat)(C:Nat→Prop)(rv:Value)(fp:Option Nat)(d st:Int)(w:Nw)(rs:List (Option Rw)):Prop where
 own:H.own n=some [ptr c,i64 d,rv]
 cells:ba H c C st w
 sl:Sl H 1 rv rs.length (rs.map RU) fp
 row:∀ (h:Nat) R,rs[h]? =some (some R)→df H R.r R.S d R.l R.pl
 nC:¬C n
 xd:∀b,fp=some b→b≠n∧¬C b
 mC:∀ (h:Nat) R,rs[h]? =some (some R)→∀x,R.S x→¬C x∧x≠n∧fp≠some x
 oP:∀ (h h':Nat) R R',rs[h]? =some (some R)→rs[h']? =some (some R')→h≠h'→∀x,R.S x→¬R'.S x
def Dp(n:Nat)(C:Nat→Prop)(fp:Option Nat)(rs:List (Option Rw))(z:Nat):Prop:=C z∨z=n∨fp=some z∨∃ (h:Nat) (R:Rw),rs[h]? =some (some R)∧R.S z
structure RV(d:Int)(w:Nw)(rs:List (Option Rw)):Prop where
 zn:cQ d
 hl:rs.length=w.hs.length
 hs:∀h:Nat,w.hs[h]? =some true↔∃R,rs[h]? =some (some R)
 h0:rs[0]? =some none
 ok:∀ (h:Nat) R,rs[h]? =some (some R)→bY (aQ w) d R.l R.pl
 mem:∀ (h:Nat) R,rs[h]? =some (some R)→∀x:Int,x∈R.l↔0≤x∧∃e,w.cs[x.toNat]? =some (((h:Nat):Int),e)
 len:∀ (h:Nat) R,rs[h]? =some (some R)→(R.l.length:Int)=w.len h
def c9(H:Hp)(n:Nat)(S:Nat→Prop)(d st:Int)(w:Nw):Prop:=∃c C rv fp rs,om H n c C rv fp d st w rs∧RV d w rs∧(∀z,Dp n C fp rs z↔S z)
theorem om.slt{H:Hp}{n c:Nat}{C:Nat→Prop}{rv:Value}{fp:Option Nat}{d st:Int}{w:Nw}{rs:List (Option Rw)}(h:om H n c C rv fp d st w rs):∀z,Dp n C fp rs z→z<H.size:=by
 rintro z (hz|rfl|hz| ⟨i,R,hR,hz⟩)
 ·exact h.cells.slt z hz
 ·exact aA h.own
 ·exact Sl.lt (hz▸h.sl)
 ·exact(h.row i R hR).slt z hz
theorem om.ext{H H':Hp}{n c:Nat}{C T:Nat→Prop}{rv:Value}{fp:Option Nat}{d st:Int}{w:Nw}{rs:List (Option Rw)}(h:om H n c C rv fp d st w rs)(e:ag T H H')(hd:∀z,Dp n C fp rs z→¬T z):om H' n c C rv fp d st w rs:=
 ⟨e.own h.own (hd n (.inr (.inl rfl))),h.cells.ext e (fun x hx=>hd x (.inl hx)),h.sl.ext e (fun b hb=>hd b (.inr (.inr (.inl hb)))),fun i R hR=>(h.row i R hR).ext e (fun x hx=>hd x (.inr (.inr (.inr ⟨i,R,hR,hx⟩)))),h.nC,h.xd,h.mC,h.oP⟩
theorem c9.slt{H:Hp}{n:Nat}{S:Nat→Prop}{d st:Int}{w:Nw}(h:c9 H n S d st w):∀z,S z→z<H.size:=by
 obtain⟨c,C,rv,fp,rs,m,l,hS⟩:=h
 exact fun z hz=>m.slt z ((hS z).2 hz)
theorem c9.ext{H H':Hp}{n:Nat}{S T:Nat→Prop}{d st:Int}{w:Nw}(h:c9 H n S d st w)(e:ag T H H')(hd:∀z,S z→¬T z):c9 H' n S d st w:=by
 obtain⟨c,C,rv,fp,rs,m,l,hS⟩:=h
 exact⟨c,C,rv,fp,rs,m.ext e (fun z hz=>hd z ((hS z).1 hz)),l,hS⟩
theorem c9.fresh{H H':Hp}{n:Nat}{S:Nat→Prop}{d st:Int}{w:Nw}(h:c9 H n S d st w)(e:ai H H'):c9 H' n S d st w:=h.ext e fun _ _ h=>h
theorem xO(cap d:Int)(H:Hp):af Tryz.prog MK [i64 cap,i64 d] H fun v H'=>aw (
  ai H H'∧((¬ (0≤cap∧cap≤65536)∧v= .tuple [.pointer none,i64 31].toArray)∨((0≤cap∧cap≤65536)∧¬cQ d∧v= .tuple [.pointer none,i64 22].toArray)∨
   ((0≤cap∧cap≤65536)∧cQ d∧∃n S,v= .tuple [ptr n,i64 0].toArray∧c9 H' n S d 0 ⟨[false],List.replicate cap.toNat (0,0,0)⟩∧∀x,S x→H.size≤x))):=by
 refine bm MP ?_
 refine vs ?_
 refine(lC cap H).mono ?_
 rintro _ H1 ⟨f1,⟨hb,rfl⟩| ⟨hb,c,C,rfl,c1,hC⟩⟩
 ·refine vs ?_
  exact⟨f1,.inl ⟨hb,rfl⟩⟩
 refine vs ?_
 refine(xH d H1).mono ?_
 rintro _ H2 ⟨f2,⟨hf,rfl⟩| ⟨hf,r,S,rfl,r2,hS⟩⟩
 ·refine vs ?_
  exact⟨f1.trans f2,.inr (.inl ⟨hb,hf,rfl⟩)⟩
 refine v1 aoi ?_
 have f3:ai H2 ((H2.new 250 [.pointer none]).new 255 [ptr c,i64 d,.slice (some ⟨H2.size,0,none⟩) 1 1]):=((ag.refl _ _).new _ _).new _ _
 have z1:=f1.size
 have z2:=f2.size
 have xE:=c1.slt
 refine⟨(f1.trans f2).trans f3,.inr (.inr ⟨hb,hf,H2.size+1,Dp (H2.size+1) C (some H2.size) [none],rfl,⟨c,C,.slice (some ⟨H2.size,0,none⟩) 1 1,some H2.size,[none],
  ⟨aV (by simp only[aq]),(c1.fresh f2).fresh f3,?_,fun h R hR=>?_,fun h=>by have:=xE _ h;omega,fun b hb=>?_,fun h R hR=>?_,fun h h' R R' hR=>?_⟩,
  ⟨hf,rfl,fun h=>?_,rfl,fun h R hR=>?_,fun h R hR=>?_,fun h R hR=>?_⟩,fun z=>Iff.rfl⟩,fun x hx=>?_⟩)⟩
 ·exact(Sl.cf (size:=1) (n:=1) (xs:=[.pointer none]) rfl rfl).ext ((ag.refl (fun _=>False) _).new _ _) (fun _ _ h=>h)
 ·rcases h with _|h<;>simp at hR
 ·injection hb with hb
  subst hb
  exact⟨by omega,fun h=>by have:=xE _ h;omega⟩
 ·rcases h with _|h<;>simp at hR
 ·rcases h with _|h<;>simp at hR
 ·rcases h with _|h<;>simp
 ·rcases h with _|h<;>simp at hR
 ·rcases h with _|h<;>simp at hR
 ·rcases h with _|h<;>simp at hR
 ·rcases hx with hx|rfl|hx| ⟨i,R,hR,hx⟩
  ·exact hC x hx
  ·omega
  ·injection hx with hx;omega
  ·rcases i with _|i<;>simp at hR
theorem FY{n c:Nat}{C:Nat→Prop}{rv:Value}{d st:Int}{w:Nw}(hn:¬C n):M4 (.iface 194 (ptr n)) (fun H k=>ba H c C (min (st+k) 4611686018427387904) w∧H.own n=some [ptr c,i64 d,rv])
  (fun x=>C x∨x=n) (aQ w) (cT w.cs):=by
 refine⟨fun H k a b ha hb h=>⟨_,_,cJ,ptr c,rfl,fD (off:=0) (by kernel_rfl) (ae h.2) rfl,(je h.1 a b).mono ?_⟩,aag (x:=(0,cJ)) (by kernel_rfl),fun H H' k U h e hd=>?_,fun H k h x hx=>?_⟩
 ·rintro v H' ⟨rfl,h1,e⟩
  rw[if_pos ⟨ha,hb⟩]at h1
  have hs:fK (min (st+(k:Nat)) 4611686018427387904) 1=min (st+((k+1:Nat):Int)) 4611686018427387904:=by
   unfold fK
   rw[if_neg (by omega)]
   split<;>omega
  rw[hs]at h1
  exact⟨by rw[Ct ha hb],⟨h1,e.own h.2 hn⟩,e.mono fun z _ hz=>.inl hz⟩
 ·exact⟨h.1.ext e (fun x hx=>hd x (.inl hx)),e.own h.2 (hd n (.inr rfl))⟩
 ·rcases hx with hx|rfl
  ·exact h.1.slt x hx
  ·exact aA h.2
theorem FZ{H:Hp}{n:Nat}{S:Nat→Prop}{d st:Int}{w:Nw}(h:c9 H n S d st w):af Tryz.prog pF [ptr n] H fun v H'=>aw (
  (w.hs.length=65537∧v=i64 0∧H=H')∨
  (w.hs.length≠65537∧v=i64 w.hs.length∧∃S',c9 H' n S' d st w.make∧ag S H H'∧∀x,S' x→S x∨H.size≤x)):=by
 obtain⟨c,C,rv,fp,rs,m,l,hS⟩:=h
 refine bm B9 ?_
 refine v1 (ae m.own) ?_
 refine(jY m.cells).mono ?_
 rintro _ H1 (⟨h1,rfl,rfl⟩| ⟨h1,rfl,C',c1,e1,zk⟩)
 ·refine vs ?_
  exact .inl ⟨h1,rfl,rfl⟩
 have fY:0<rs.length:=(anu.1 l.h0).1
 have oK:=l.hl
 have o1:=e1.own m.own m.nC
 refine vs ?_
 refine am.cF (anI (by omega)) ?_
 refine v1 (ae o1) ?_
 refine(xH d H1).mono ?_
 rintro _ H2 ⟨f2,⟨hf,_⟩| ⟨_,r,Sr,rfl,r2,Vj⟩⟩
 ·exact absurd l.zn hf
 have o2:=f2.own o1 (fun h=>h)
 refine v1 (ae o2) ?_
 have zH:=m.cells.zH
 have eQ:=m.slt
 have RT:=c1.slt
 have zD:=r2.slt
 have z1:=e1.size
 have z2:=f2.size
 have e0:ag (fun _=>False) H2 (H2.new 250 [ptr r]):=(ag.refl _ _).new _ _
 have It:=(m.sl.ext e1 (fun b hb h=>(m.xd b hb).2 h)).ext f2 (fun _ _ h=>h)
 refine Sl.append (It.ext e0 (fun _ _ h=>h)) (Sl.cf (size:=1) (xs:=[ptr r]) rfl rfl).rd rfl (by intro v hv;simp only[anC]at hv;subst hv;rfl) (by omega) ?_
 intro v' H3 cO s3 e3 gu
 have o3:=e3.own (e0.own o2 (fun h=>h)) (fun e=>(m.xd n e).1 rfl)
 obtain⟨a',WM,NU⟩:=dc.Rp s3.rd
 subst NU
 refine v1 o3 ?_
 generalize NU:Value.slice a' (rs.length+1) WM=v' at*
 have e4:ag (fun z=>z=n) H3 (H3.wr n [ptr c,i64 d,v']):=(ag.refl (fun z=>z=n) _).wr (fun _=>rfl) _
 have hn:=aA m.own
 have TW:∀b,fp=some b→b<H.size:=fun b hb=>eQ b (.inr (.inr (.inl hb)))
 have hCl:∀z,C z→z<H.size:=fun z hz=>eQ z (.inl hz)
 have Ei:∀b,cO=some b→fp=some b∨H2.size≤b:=fun b hb=>by
  rcases gu with h| ⟨z,h,h5,_⟩
  ·exact .inl (h▸hb)
  ·rw[h]at hb;injection hb with hb;subst hb;rw[aq]at h5;exact .inr (by omega)
 have FQ:∀z,C' z→C z∨H.size≤z:=zk
 have Ni:ag (fun z=>fp=some z) H2 H3:=(e0.mono fun _ _ h=>h.elim).oJ e3 (fun z _ h=>h)
 have bW:∀ (h:Nat) R,(rs++[some (⟨r,Sr,[],fun _=>none⟩:Rw)])[h]? =some (some R)→rs[h]? =some (some R)∨(h=rs.length∧R=⟨r,Sr,[],fun _=>none⟩):=fun h R hR=>by
  rcases aoU h rs.length with h5|h5|h5
  ·rw[anJ h5]at hR;exact .inl hR
  ·subst h5
   rw[anX (anG _),aoI]at hR
   simp only[anY,anE]at hR
   exact .inr ⟨rfl,hR.symm⟩
  ·rw[anK (by rw[anD,anM];omega)]at hR
   cases hR
 have hold:∀ (h:Nat) R,rs[h]? =some (some R)→∀x,R.S x→¬C x∧x≠n∧fp≠some x∧x<H.size:=fun h R hR x hx=>
  ⟨(m.mC h R hR x hx).1,(m.mC h R hR x hx).2.1,(m.mC h R hR x hx).2.2,eQ x (.inr (.inr (.inr ⟨h,R,hR,hx⟩)))⟩
 have Jy:∀ (x:Nat) (e:Int×Int),w.cs[x]? ≠some (((rs.length:Nat):Int),e):=fun x e hx=>by
  have:=(m.cells.home _ (anz hx)).2
  simp only at this
  omega
 refine .inr ⟨h1,rfl,Dp n C' cO (rs++[some ⟨r,Sr,[],fun _=>none⟩]),⟨c,C',v',cO,rs++[some ⟨r,Sr,[],fun _=>none⟩],
  ⟨ah o3,?_,?_,fun h R hR=>?_,fun h=>?_,fun b hb=>⟨?_,fun h=>?_⟩,fun h R hR x hx=>⟨fun h=>?_,?_,fun h=>?_⟩,fun h h' R R' hR hR' aP x hx wZ=>?_⟩,
  ⟨l.zn,?_,fun h=>?_,?_,fun h R hR=>?_,fun h R hR x=>?_,fun h R hR=>?_⟩,fun z=>Iff.rfl⟩,?_,fun x hx=>?_⟩
 ·exact(((c1.ext f2 (fun _ _ h=>h)).ext Ni (fun x hx e=>by
   rcases FQ x hx with h|h
   ·exact(m.xd x e).2 h
   ·have:=TW x e;omega)).ext e4 (fun x hx e=>by
   rcases FQ x hx with h|h
   ·exact m.nC (e▸h)
   ·omega))
 ·have:=s3.ext e4 (fun b hb e=>by
   rcases Ei b hb with h|h
   ·exact(m.xd b h).1 e
   ·omega)
  rw[anD,an8]
  exact this
 ·rcases bW h R hR with h5| ⟨rfl,rfl⟩
  ·exact((((m.row h R h5).ext e1 (fun x hx=>(hold h R h5 x hx).1)).ext f2 (fun _ _ h=>h)).ext Ni (fun x hx=>(hold h R h5 x hx).2.2.1)).ext e4 (fun x hx=>(hold h R h5 x hx).2.1)
  ·exact(r2.ext Ni (fun x hx e=>by have:=Vj x hx;have:=TW x e;omega)).ext e4 (fun x hx e=>by have:=Vj x hx;omega)
 ·rcases FQ n h with h|h
  ·exact m.nC h
  ·omega
 ·rcases Ei b hb with h|h
  ·exact(m.xd b h).1
  ·omega
 ·rcases Ei b hb with h5|h5
  ·rcases FQ b h with h6|h6
   ·exact(m.xd b h5).2 h6
   ·have:=TW b h5;omega
  ·have:=RT b h;omega
 ·rcases bW _ R hR with h5| ⟨_,rfl⟩
  ·rcases FQ x h with h6|h6
   ·exact(hold _ R h5 x hx).1 h6
   ·have:=(hold _ R h5 x hx).2.2.2;omega
  ·have:=Vj x hx;have:=RT x h;omega
 ·rcases bW _ R hR with h5| ⟨_,rfl⟩
  ·exact(hold _ R h5 x hx).2.1
  ·have:=Vj x hx;omega
 ·rcases bW _ R hR with h5| ⟨_,rfl⟩
  ·rcases Ei x h with h6|h6
   ·exact(hold _ R h5 x hx).2.2.1 h6
   ·have:=(hold _ R h5 x hx).2.2.2;omega
  ·have h7:=zD x hx
   rcases Ei x h with h6|h6
   ·have:=Vj x hx;have:=TW x h6;omega
   ·omega
 ·rcases bW _ R hR with h5| ⟨h5,rfl⟩
  ·rcases bW _ R' hR' with h6| ⟨h6,rfl⟩
   ·exact m.oP h h' R R' h5 h6 aP x hx wZ
   ·have:=Vj x wZ;have:=(hold _ R h5 x hx).2.2.2;omega
  ·rcases bW _ R' hR' with h6| ⟨h6,rfl⟩
   ·have:=Vj x hx;have:=(hold _ R' h6 x wZ).2.2.2;omega
   ·omega
 ·simp[Nw.make,oK]
 ·show(w.hs++[true])[h]? =some true↔_
  rcases aoU h rs.length with h5|h5|h5
  ·rw[anJ h5,anJ (by omega)]
   exact l.hs h
  ·subst h5
   rw[anX (anG _),anX (by omega),aoI,oK,aoI]
   simp
  ·rw[anK (by rw[anD,anM];omega),anK (by rw[anD,anM];omega)]
   simp
 ·rw[anJ fY];exact l.h0
 ·rcases bW h R hR with h5| ⟨rfl,rfl⟩
  ·exact l.ok h R h5
  ·exact bY.nil _ _
 ·rcases bW h R hR with h5| ⟨rfl,rfl⟩
  ·exact l.mem h R h5 x
  ·simp only[apy,false_iff]
   rintro⟨_,e,he⟩
   exact Jy _ _ he
 ·rcases bW h R hR with h5| ⟨rfl,rfl⟩
  ·exact l.len h R h5
  ·show((0:Nat):Int)=w.len _
   unfold Nw.len
   rw[if_pos (by omega),aoW.2 (fun x hx=>by
    have:=(m.cells.home x hx).2
    simp only[anU]
    omega)]
 ·exact((e1.mono fun z _ hz=>(hS z).1 (.inl hz)).trans ((f2.mono fun _ _ h=>h.elim).trans (Ni.mono fun z _ hz=>(hS z).1 (.inr (.inr (.inl hz)))))).trans (e4.mono fun z _ hz=>(hS z).1 (.inr (.inl hz)))
 ·rcases hx with hx|rfl|hx| ⟨i,R,hR,hx⟩
  ·rcases FQ x hx with h|h
   ·exact .inl ((hS x).1 (.inl h))
   ·exact .inr h
  ·exact .inl ((hS x).1 (.inr (.inl rfl)))
  ·rcases Ei x hx with h|h
   ·exact .inl ((hS x).1 (.inr (.inr (.inl h))))
   ·exact .inr (by omega)
  ·rcases bW _ R hR with h5| ⟨_,rfl⟩
   ·exact .inl ((hS x).1 (.inr (.inr (.inr ⟨i,R,h5,hx⟩))))
   ·have:=Vj x hx;exact .inr (by omega)
theorem RV.eZ{d:Int}{w:Nw}{rs:List (Option Rw)}(l:RV d w rs){g:Int}(h:w.has g):∃R,rs[g.toNat]? =some (some R):=(l.hs g.toNat).1 h.2
theorem xP{H:Hp}{n:Nat}{S:Nat→Prop}{d st:Int}{w:Nw}(h:c9 H n S d st w)(g:Int):af Tryz.prog sr [ptr n,i64 g] H fun v H'=>aw (
  ((¬w.has g∧v= .tuple [i64 0,.bool false].toArray)∨(w.has g∧w.len g=0∧v= .tuple [i64 0,.bool false].toArray)∨
   (w.has g∧∃x,cT w.cs x∧(∃e,w.cs[x.toNat]? =some (g,e))∧v= .tuple [i64 x,.bool true].toArray∧∀y,0≤y→(∃e,w.cs[y.toNat]? =some (g,e))→y≠x→aQ w x y=true))∧H=H'):=by
 obtain⟨c,C,rv,fp,rs,m,l,hS⟩:=h
 refine bm DK ?_
 refine v1 (ae m.own) ?_
 refine(gU m.cells g).mono ?_
 rintro _ _ ⟨rfl,rfl⟩
 refine vs ?_
 refine am.dec (fun hh=>?_) (fun hh=>?_)
 ·obtain⟨R,hR⟩:=l.eZ hh
  have h1:=hh.1
  have aO:=(anu.1 hR).1
  obtain⟨b,o,c',lb,e1,e2,e3,e4⟩:=dc.get m.sl.rd (i:=g.toNat) (j:=0) (x:=ptr R.r) (by omega) (by simp[hR,RU])
  subst e1
  have zF:((g.toNat:Nat):Int)=g:=by omega
  refine v1 (ae m.own) ?_
  refine⟨by omega,?_⟩
  refine v2 e2 (show lb[o+g.toNat*1]? =some (ptr R.r)from e4) ?_
  refine(Jn (m.row _ R hR) 0).mono ?_
  rintro _ _ ⟨rfl,rfl⟩
  have bL:=l.mem _ R hR
  rw[zF]at bL
  have aX:=l.len _ R hR
  rw[zF]at aX
  rw[show(if(0:Int)≤0 then R.l[Int.toNat 0]? else none)=R.l[0]? from rfl,TF]
  cases h0:R.l[0]? with
  |none=>
   have:R.l.length=0:=by
    rcases apc R.l.length with h|h
    ·exact h
    ·rw[ans h]at h0;cases h0
   simp(disch:=(first|omega| (simp only[Zs]<;>omega)|fail)) only[go_sem, ↓reduceIte,Zv,Option.isSome_none,Option.getD_none]
   exact⟨.inr (.inl ⟨hh,by omega,rfl⟩),rfl⟩
  |some x=>
   simp(disch:=(first|omega| (simp only[Zs]<;>omega)|fail)) only[go_sem, ↓reduceIte,Zv,Option.isSome_some,Option.getD_some]
   obtain⟨x0,e,he⟩:=(bL x).1 (anz h0)
   refine⟨.inr (.inr ⟨hh,x,⟨x0,_,he,by simp only;omega⟩,⟨e,he⟩,rfl,fun y Wp hy aP=>?_⟩),rfl⟩
   exact bY.least (ar w) l.zn (l.ok _ R hR) h0 y ((bL y).2 ⟨Wp,hy⟩) aP
 ·refine vs ?_
  exact⟨.inl ⟨hh,rfl⟩,rfl⟩
theorem om.setRow{H H':Hp}{n c:Nat}{C T:Nat→Prop}{rv:Value}{fp:Option Nat}{d st WN:Int}{w w':Nw}{rs:List (Option Rw)}(m:om H n c C rv fp d st w rs){g:Nat}{R R':Rw}(hR:rs[g]? =some (some R))(hr:R'.r=R.r)
  (row:df H' R'.r R'.S d R'.l R'.pl)(hRS:∀z,R'.S z→R.S z∨H.size≤z)(e:ag T H H')(hT:∀z,T z→C z∨R.S z∨z=n)(cells:ba H' c C WN w')(own:H'.own n=some [ptr c,i64 d,rv]):
  om H' n c C rv fp d WN w' (rs.set g (some R')):=by
 have eQ:=m.slt
 have hg:=(anu.1 hR).1
 have bW:∀ (h:Nat) Q,(rs.set g (some R'))[h]? =some (some Q)→(h=g∧Q=R')∨(h≠g∧rs[h]? =some (some Q)):=fun h Q hQ=>by
  by_cases hh:h=g
  ·subst hh
   rw[anB hg]at hQ
   simp only[anE]at hQ
   exact .inl ⟨rfl,hQ.symm⟩
  ·rw[anA (Ne.symm hh)]at hQ
   exact .inr ⟨hh,hQ⟩
 refine⟨own,cells,?_,fun h Q hQ=>?_,m.nC,m.xd,fun h Q hQ x hx=>?_,fun h h' Q Q' hQ hQ' aP x hx wZ=>?_⟩
 ·have h1:(rs.set g (some R')).map RU=rs.map RU:=by
   rw[aoh]
   refine aoo fun i=>?_
   by_cases hi:i=g
   ·subst hi
    rw[anB (by rw[anQ];exact hg),anR,hR]
    simp[RU,hr]
   ·rw[anA (Ne.symm hi)]
  rw[h1,anv]
  exact m.sl.ext e (fun b hb ht=>by
   rcases hT b ht with h|h|h
   ·exact(m.xd b hb).2 h
   ·exact(m.mC _ R hR b h).2.2 hb
   ·exact(m.xd b hb).1 h)
 ·rcases bW h Q hQ with ⟨rfl,rfl⟩| ⟨h1,h2⟩
  ·exact row
  ·exact(m.row h Q h2).ext e (fun x hx ht=>by
    rcases hT x ht with h3|h3|h3
    ·exact(m.mC h Q h2 x hx).1 h3
    ·exact m.oP h g Q R h2 hR h1 x hx h3
    ·exact(m.mC h Q h2 x hx).2.1 h3)
 ·rcases bW h Q hQ with ⟨rfl,rfl⟩| ⟨h1,h2⟩
  ·rcases hRS x hx with h3|h3
   ·exact m.mC _ R hR x h3
   ·refine⟨fun hc=>?_,fun hc=>?_,fun hc=>?_⟩
    ·have:=eQ x (.inl hc);omega
    ·have:=eQ n (.inr (.inl rfl));omega
    ·have:=eQ x (.inr (.inr (.inl hc)));omega
  ·exact m.mC h Q h2 x hx
 ·rcases bW h Q hQ with ⟨rfl,rfl⟩| ⟨h1,h2⟩
  ·rcases bW h' Q' hQ' with ⟨rfl,rfl⟩| ⟨h3,h4⟩
   ·exact aP rfl
   ·rcases hRS x hx with h5|h5
    ·exact m.oP _ h' R Q' hR h4 aP x h5 wZ
    ·have:=eQ x (.inr (.inr (.inr ⟨h',Q',h4,wZ⟩)));omega
  ·rcases bW h' Q' hQ' with ⟨rfl,rfl⟩| ⟨h3,h4⟩
   ·rcases hRS x wZ with h5|h5
    ·exact m.oP h _ Q R h2 hR aP x hx h5
    ·have:=eQ x (.inr (.inr (.inr ⟨h,Q,h2,hx⟩)));omega
   ·exact m.oP h h' Q Q' h2 h4 aP x hx wZ
theorem TX(lt:Int→Int→Bool){d:Int}(hf:cQ d)(x:Int){m:Nat}(l:List Int)(pl:Int→Option Int){i:Int}(hi:1≤i)(hm:i.toNat≤m):0< (fi lt d x m l pl i).asked:=by
 obtain⟨q,rfl⟩:∃q,m=q+1:=⟨m - 1,by omega⟩
 have hp:aY d i=some ((i - 1) / d):=by unfold aY;rw[if_pos ⟨hf,hi⟩]
 simp only[fi,hp]
 split<;>simp
theorem CI{H:Hp}{n:Nat}{S:Nat→Prop}{d st:Int}{w:Nw}(h:c9 H n S d st w)(g x k s:Int):af Tryz.prog mU [ptr n,i64 g,i64 x,tz k s] H fun v H'=>aw (
  (¬ (w.has g∧(0≤x∧x<w.cs.length)∧¬cT w.cs x)∧v= .bool false∧c9 H' n S d st w∧ag S H H')∨
  ((w.has g∧(0≤x∧x<w.cs.length)∧¬cT w.cs x)∧v= .bool true∧∃ (S':Nat→Prop) (q:Nat),(q:Int)≤kX d (w.len g).toNat∧(0<w.len g→0<q)∧c9 H' n S' d (min (st+q) 4611686018427387904) (w.put x (g,k,s))∧ag S H H'∧∀z,S' z→S z∨H.size≤z)):=by
 obtain⟨c,C,rv,fp,rs,m,l,hS⟩:=h
 refine bm yP ?_
 refine vs ?_
 have f0:ai H (H.new 224 [i64 k,u64 s]):=(ag.refl _ _).new _ _
 have b0:(H.new 224 [i64 k,u64 s]).own H.size=some [i64 k,u64 s]:=aB _ _ _
 have m0:=m.ext f0 (fun _ _ h=>h)
 generalize H.new 224 [i64 k,u64 s]=H0 at*
 refine v2 (ae m0.own) (ae b0) ?_
 refine(lD m0.cells g x k s).mono ?_
 rintro _ H1 (⟨bK,rfl,c1,e1⟩| ⟨qm,rfl,c1,e1⟩)
 ·refine vs ?_
  refine .inl ⟨bK,rfl,⟨c,C,rv,fp,rs,?_,l,hS⟩,(f0.mono fun _ _ h=>h.elim).trans (e1.mono fun z _ hz=>(hS z).1 (.inl hz))⟩
  exact⟨e1.own m0.own m.nC,c1,m0.sl.ext e1 (fun b hb h=>(m.xd b hb).2 h),fun i R hR=>(m0.row i R hR).ext e1 (fun x hx=>(m.mC i R hR x hx).1),m.nC,m.xd,m.mC,m.oP⟩
 ·obtain⟨hh,⟨fZ,kU⟩,bJ⟩:=id qm
  obtain⟨R,hR⟩:=l.eZ hh
  have h1:=hh.1
  have zF:((g.toNat:Nat):Int)=g:=by omega
  have bL:=l.mem _ R hR
  have aX:=l.len _ R hR
  rw[zF]at bL aX
  obtain⟨c0,lu⟩:∃c0,w.cs[x.toNat]? =some c0:=⟨_,ans (by omega)⟩
  have xF:¬0<c0.1:=fun h=>bJ ⟨fZ,c0,lu,h⟩
  have cK:(w.put x (g,k,s)).cs[x.toNat]? =some (g,k,s):=anB (by omega)
  have lh:∀y:Nat,y≠x.toNat→(w.put x (g,k,s)).cs[y]? =w.cs[y]? :=fun y hy=>anA (Ne.symm hy)
  have PJ:∀ (i:Nat) Q,rs[i]? =some (some Q)→x∉Q.l:=fun i Q hQ hm=>by
   obtain⟨_,e,he⟩:=(l.mem i Q hQ x).1 hm
   rw[lu]at he
   injection he with he
   subst he
   rcases apc i with hi|hi
   ·subst hi;rw[l.h0]at hQ;cases hQ
   ·exact xF (by simp only;omega)
  have aP:∀ (i:Nat) Q,rs[i]? =some (some Q)→∀y∈Q.l,0≤y∧y.toNat≠x.toNat:=fun i Q hQ y hy=>by
   have h2:=((l.mem i Q hQ y).1 hy).1
   exact⟨h2,fun e=>PJ i Q hQ (by rw[show x=y by omega];exact hy)⟩
  have WQ:∀ (i:Nat) Q,rs[i]? =some (some Q)→bY (aQ (w.put x (g,k,s))) d Q.l Q.pl:=fun i Q hQ=>
   bY.congr l.zn (l.ok i Q hQ) fun z hz y hy=>(gW w x _ (aP i Q hQ z hz).2 (aP i Q hQ y hy).2).symm
  have FX:∀z∈R.l,cT (w.put x (g,k,s)).cs z:=fun z hz=>by
   obtain⟨z0,e,he⟩:=(bL z).1 hz
   exact⟨z0,_,by rw[lh _ (aP _ R hR z hz).2];exact he,by simp only;omega⟩
  have WR:cT (w.put x (g,k,s)).cs x:=⟨fZ,_,cK,by simp only;omega⟩
  have o1:=e1.own m0.own m.nC
  have aaQ:=m.cells.st
  have m1:om H1 n c C rv fp d st (w.put x (g,k,s)) rs:=⟨o1,c1,m0.sl.ext e1 (fun b hb h=>(m.xd b hb).2 h),fun i R hR=>(m0.row i R hR).ext e1 (fun x hx=>(m.mC i R hR x hx).1),m.nC,m.xd,m.mC,m.oP⟩
  have aO:=(anu.1 hR).1
  obtain⟨b,o,c',lb,q1,q2,q3,q4⟩:=dc.get m1.sl.rd (i:=g.toNat) (j:=0) (x:=ptr R.r) (by omega) (by simp[hR,RU])
  subst q1
  refine v1 (ae o1) ?_
  refine⟨by omega,?_⟩
  refine v2 q2 (show lb[o+g.toNat*1]? =some (ptr R.r)from q4) ?_
  have wY:=m.cells.DY
  have oK:R.l.length≤65536:=by have:=(w.zf g).2;omega
  refine(Hq (FY (c:=c) (rv:=.slice (some ⟨b,o,none⟩) rs.length c') (d:=d) (st:=st) (w:=w.put x (g,k,s)) m.nC) (m1.row _ R hR) (fun z hz ht=>?_) (n:=0) ⟨by rw[show min (st+((0:Nat):Int)) 4611686018427387904=st by omega];exact c1,o1⟩ x (by omega) WR FX).mono ?_
  ·rcases ht with ht|ht
   ·exact(m.mC _ R hR z hz).1 ht
   ·exact(m.mC _ R hR z hz).2.1 ht
  rintro _ H2 (⟨hp,_,_⟩| ⟨hp,rfl,S',r2,⟨c2,o2⟩,e2,YP⟩)
  ·exact absurd ((bY.mem (l.ok _ R hR) x).2 hp) (PJ _ R hR)
  obtain⟨p1,p2,p3,p4⟩:=bY.add (ar (w.put x (g,k,s))) l.zn (WQ _ R hR) hp
  have hq:0<R.l.length→0< (fi (aQ (w.put x (g,k,s))) d x R.l.length (R.l++[x]) R.pl R.l.length).asked:=fun h=>TX _ l.zn x _ _ (by omega) (by omega)
  generalize hU:fi (aQ (w.put x (g,k,s))) d x R.l.length (R.l++[x]) R.pl R.l.length=U at*
  rw[ant]at c2
  refine vs ?_
  have nN:∀z,(R.S z∨C z∨z=n)→S z:=fun z hz=>(hS z).1 (by
   rcases hz with hz|hz|hz
   ·exact .inr (.inr (.inr ⟨_,R,hR,hz⟩))
   ·exact .inl hz
   ·exact .inr (.inl hz))
  have bW:∀ (h:Nat) Q,(rs.set g.toNat (some (⟨R.r,S',U.l,U.pl⟩:Rw)))[h]? =some (some Q)→(h=g.toNat∧Q=⟨R.r,S',U.l,U.pl⟩)∨(h≠g.toNat∧rs[h]? =some (some Q)):=fun h Q hQ=>by
   by_cases hh:h=g.toNat
   ·subst hh
    rw[anB aO]at hQ
    simp only[anE]at hQ
    exact .inl ⟨rfl,hQ.symm⟩
   ·rw[anA (Ne.symm hh)]at hQ
    exact .inr ⟨hh,hQ⟩
  refine .inr ⟨qm,rfl,Dp n C fp (rs.set g.toNat (some ⟨R.r,S',U.l,U.pl⟩)),U.asked,?_,fun h=>hq (by omega),
   ⟨c,C,_,fp,rs.set g.toNat (some ⟨R.r,S',U.l,U.pl⟩),m1.setRow hR (R':=⟨R.r,S',U.l,U.pl⟩) rfl r2 YP e2 (fun z hz=>?_) c2 o2,
    ⟨l.zn,by rw[anv];exact l.hl,fun h=>?_,?_,fun h Q hQ=>?_,fun h Q hQ y=>?_,fun h Q hQ=>?_⟩,fun z=>Iff.rfl⟩,?_,fun z hz=>?_⟩
  ·rw[show((w.len g).toNat:Int)=(R.l.length:Int) by omega]
   exact Int.ofNat_le.2 p4
  ·rcases hz with hz|hz|hz
   ·exact .inr (.inl hz)
   ·exact .inl hz
   ·exact .inr (.inr hz)
  ·show w.hs[h]? =some true↔_
   rw[l.hs h]
   by_cases Lz:h=g.toNat
   ·subst Lz
    rw[anB aO]
    exact⟨fun _=>⟨_,rfl⟩,fun _=>⟨R,hR⟩⟩
   ·rw[anA (Ne.symm Lz)]
  ·rw[anA (by omega)];exact l.h0
  ·rcases bW h Q hQ with ⟨rfl,rfl⟩| ⟨h5,h6⟩
   ·exact p1
   ·exact WQ h Q h6
  ·rcases bW h Q hQ with ⟨rfl,rfl⟩| ⟨h5,h6⟩
   ·rw[zF]
    show y∈U.l↔_
    rw[p2 y]
    constructor
    ·rintro(rfl|hy)
     ·exact⟨fZ,_,cK⟩
     ·obtain⟨y0,e,he⟩:=(bL y).1 hy
      exact⟨y0,e,by rw[lh _ (aP _ R hR y hy).2];exact he⟩
    ·rintro⟨y0,e,he⟩
     by_cases mJ:y.toNat=x.toNat
     ·exact .inl (by omega)
     ·rw[lh _ mJ]at he
      exact .inr ((bL y).2 ⟨y0,e,he⟩)
   ·rw[l.mem h Q h6 y]
    by_cases mJ:y.toNat=x.toNat
    ·rw[mJ,cK,lu]
     constructor
     ·rintro⟨y0,e,he⟩
      injection he with he
      subst he
      rcases apc h with hi|hi
      ·subst hi;rw[l.h0]at h6;cases h6
      ·exact absurd (show(0:Int)< ((h:Nat):Int) by omega) xF
     ·rintro⟨y0,e,he⟩
      injection he with he
      injection he with WT he2
      omega
    ·rw[lh _ mJ]
  ·rcases bW h Q hQ with ⟨rfl,rfl⟩| ⟨h5,h6⟩
   ·rw[zF,Nw.gf lu g,if_neg (fun hc=>by omega),if_pos ⟨by omega,rfl⟩]
    show(U.l.length:Int)=_
    omega
   ·rw[l.len h Q h6,Nw.gf lu h,if_neg (fun hc=>by omega),if_neg (fun hc=>by omega)]
    omega
  ·exact(f0.mono fun _ _ h=>h.elim).trans ((e1.mono fun z _ hz=>nN z (.inr (.inl hz))).trans (e2.mono fun z _ hz=>nN z hz))
  ·have z0:=f0.size
   have z1:=e1.size
   rcases hz with hz|rfl|hz| ⟨i,Q,hQ,hz⟩
   ·exact .inl (nN z (.inr (.inl hz)))
   ·exact .inl (nN z (.inr (.inr rfl)))
   ·exact .inl ((hS z).1 (.inr (.inr (.inl hz))))
   ·rcases bW i Q hQ with ⟨rfl,rfl⟩| ⟨h5,h6⟩
    ·rcases YP z hz with h|h
     ·exact .inl (nN z (.inl h))
     ·exact .inr (by omega)
    ·exact .inl ((hS z).1 (.inr (.inr (.inr ⟨i,Q,h6,hz⟩))))
theorem CJ{H:Hp}{n:Nat}{S:Nat→Prop}{d st:Int}{w:Nw}(h:c9 H n S d st w)(x:Int):af Tryz.prog yt [ptr n,i64 x] H fun v H'=>aw (
  (¬cT w.cs x∧v= .bool false∧H=H')∨
  (cT w.cs x∧v= .bool true∧∃ (c0:Ce) (q:Nat),w.cs[x.toNat]? =some c0∧(q:Int)≤d*(kX d (w.len c0.1 - 1):Nat)+1∧∃S',c9 H' n S' d (min (st+q) 4611686018427387904) (w.put x (0,0,0))∧ag S H H'∧∀z,S' z→S z∨H.size≤z)):=by
 obtain⟨c,C,rv,fp,rs,m,l,hS⟩:=h
 refine bm yN ?_
 refine v1 (ae m.own) ?_
 refine(et m.cells x).mono ?_
 rintro _ H1 (⟨bK,rfl,rfl⟩| ⟨bJ,c0,lu,rfl,c1,e1⟩)
 ·refine vs ?_
  exact .inl ⟨bK,rfl,rfl⟩
 obtain⟨fZ,c0',Jz,fY⟩:=id bJ
 rw[lu]at Jz
 injection Jz with Jz
 subst Jz
 obtain⟨R,hR⟩:=(l.hs c0.1.toNat).1 (m.cells.live _ (anz lu) fY)
 have zF:((c0.1.toNat:Nat):Int)=c0.1:=by omega
 have bL:=l.mem _ R hR
 have aX:=l.len _ R hR
 rw[zF]at bL aX
 have cK:(w.put x (0,0,0)).cs[x.toNat]? =some (0,0,0):=anB (anu.1 lu).1
 have lh:∀y:Nat,y≠x.toNat→(w.put x (0,0,0)).cs[y]? =w.cs[y]? :=fun y hy=>anA (Ne.symm hy)
 have o1:=e1.own m.own m.nC
 have m1:om H1 n c C rv fp d st w rs:=⟨o1,c1,m.sl.ext e1 (fun b hb h=>(m.xd b hb).2 h),fun i R hR=>(m.row i R hR).ext e1 (fun x hx=>(m.mC i R hR x hx).1),m.nC,m.xd,m.mC,m.oP⟩
 have aO:=(anu.1 hR).1
 have hxR:x∈R.l:=(bL x).2 ⟨fZ,c0.2,lu⟩
 have FX:∀z∈R.l,cT w.cs z:=fun z hz=>by
  obtain⟨z0,e,he⟩:=(bL z).1 hz
  exact⟨z0,_,he,fY⟩
 obtain⟨b,o,c',lb,q1,q2,q3,q4⟩:=dc.get m1.sl.rd (i:=c0.1.toNat) (j:=0) (x:=ptr R.r) (by omega) (by simp[hR,RU])
 subst q1
 have aaQ:=m.cells.st
 have wY:=m.cells.DY
 have oK:R.l.length≤65536:=by have:=(w.zf c0.1).2;omega
 refine v1 (ae o1) ?_
 refine⟨by omega,?_⟩
 refine v2 q2 (show lb[o+c0.1.toNat*1]? =some (ptr R.r)from q4) ?_
 refine(CH (FY (c:=c) (rv:=.slice (some ⟨b,o,none⟩) rs.length c') (d:=d) (st:=st) (w:=w) m.nC) (m1.row _ R hR) (fun z hz ht=>?_) (n:=0) ⟨by rw[show min (st+((0:Nat):Int)) 4611686018427387904=st by omega];exact c1,o1⟩ l.zn x (by omega) (l.ok _ R hR).pl FX).mono ?_
 ·rcases ht with ht|ht
  ·exact(m.mC _ R hR z hz).1 ht
  ·exact(m.mC _ R hR z hz).2.1 ht
 rintro _ H2 (⟨hp,_,_⟩| ⟨i,hp,rfl,r2,⟨c2,o2⟩,e2⟩)
 ·exact absurd hp ((bY.mem (l.ok _ R hR) x).1 hxR)
 obtain⟨p1,p2,p3,p4⟩:=bY.WZ (ar w) l.zn (l.ok _ R hR) hp
 generalize hU:cM (aQ w) d x R.l R.pl i=U at*
 rw[ant]at c2
 refine v1 (ae o2) ?_
 refine(jZ c2 x).mono ?_
 rintro _ H3 (⟨bK,_,_⟩| ⟨_,rfl,c3,e3⟩)
 ·exact absurd bJ bK
 refine vs ?_
 have o3:=e3.own o2 m.nC
 have Gy:ag (fun z=>R.S z∨C z∨z=n) H1 H3:=e2.trans (e3.mono fun z _ hz=>.inr (.inl hz))
 have r3:=r2.ext e3 (fun z hz=>(m.mC _ R hR z hz).1)
 have nN:∀z,(R.S z∨C z∨z=n)→S z:=fun z hz=>(hS z).1 (by
  rcases hz with hz|hz|hz
  ·exact .inr (.inr (.inr ⟨_,R,hR,hz⟩))
  ·exact .inl hz
  ·exact .inr (.inl hz))
 have bW:∀ (h:Nat) Q,(rs.set c0.1.toNat (some (⟨R.r,R.S,U.1,U.2.1⟩:Rw)))[h]? =some (some Q)→(h=c0.1.toNat∧Q=⟨R.r,R.S,U.1,U.2.1⟩)∨(h≠c0.1.toNat∧rs[h]? =some (some Q)):=fun h Q hQ=>by
  by_cases hh:h=c0.1.toNat
  ·subst hh
   rw[anB aO]at hQ
   simp only[anE]at hQ
   exact .inl ⟨rfl,hQ.symm⟩
  ·rw[anA (Ne.symm hh)]at hQ
   exact .inr ⟨hh,hQ⟩
 have FC:∀ (h:Nat) Q,rs[h]? =some (some Q)→0<h:=fun h Q hQ=>by
  rcases apc h with hi|hi
  ·subst hi;rw[l.h0]at hQ;cases hQ
  ·exact hi
 have aP:∀ (h:Nat) Q,h≠c0.1.toNat→rs[h]? =some (some Q)→∀y∈Q.l,y.toNat≠x.toNat:=fun h Q hh hQ y hy e=>by
  obtain⟨y0,e',he⟩:=(l.mem h Q hQ y).1 hy
  rw[e,lu]at he
  injection he with he
  rw[he]at hh
  simp only[Int.toNat_natCast]at hh
  exact hh rfl
 have Nk:∀y∈U.1,y.toNat≠x.toNat:=fun y hy e=>by
  obtain⟨h1,h2⟩:=(p3 y).1 hy
  have:=((bL y).1 h1).1
  omega
 refine .inr ⟨bJ,rfl,c0,U.2.2,lu,?_,Dp n C fp (rs.set c0.1.toNat (some ⟨R.r,R.S,U.1,U.2.1⟩)),
  ⟨c,C,_,fp,rs.set c0.1.toNat (some ⟨R.r,R.S,U.1,U.2.1⟩),m1.setRow hR (R':=⟨R.r,R.S,U.1,U.2.1⟩) rfl r3 (fun z hz=>.inl hz) Gy (fun z hz=>?_) c3 o3,
   ⟨l.zn,by rw[anv];exact l.hl,fun h=>?_,?_,fun h Q hQ=>?_,fun h Q hQ y=>?_,fun h Q hQ=>?_⟩,fun z=>Iff.rfl⟩,?_,fun z hz=>?_⟩
 ·rw[←aX];exact p4
 ·rcases hz with hz|hz|hz
  ·exact .inr (.inl hz)
  ·exact .inl hz
  ·exact .inr (.inr hz)
 ·show w.hs[h]? =some true↔_
  rw[l.hs h]
  by_cases Lz:h=c0.1.toNat
  ·subst Lz
   rw[anB aO]
   exact⟨fun _=>⟨_,rfl⟩,fun _=>⟨R,hR⟩⟩
  ·rw[anA (Ne.symm Lz)]
 ·rw[anA (by omega)];exact l.h0
 ·rcases bW h Q hQ with ⟨rfl,rfl⟩| ⟨h5,h6⟩
  ·exact bY.congr l.zn p1 fun z hz y hy=>(gW w x _ (Nk z hz) (Nk y hy)).symm
  ·exact bY.congr l.zn (l.ok h Q h6) fun z hz y hy=>(gW w x _ (aP h Q h5 h6 z hz) (aP h Q h5 h6 y hy)).symm
 ·by_cases mJ:y.toNat=x.toNat
  ·rw[mJ,cK]
   have h0:=bW h Q hQ
   constructor
   ·intro hy
    rcases h0 with ⟨rfl,rfl⟩| ⟨h5,h6⟩
    ·exact absurd mJ (Nk y hy)
    ·exact absurd mJ (aP h Q h5 h6 y hy)
   ·rintro⟨_,e,he⟩
    injection he with he
    injection he with WT _
    rcases h0 with ⟨rfl,rfl⟩| ⟨h5,h6⟩
    ·omega
    ·have:=FC h Q h6;omega
  ·rw[lh _ mJ]
   rcases bW h Q hQ with ⟨rfl,rfl⟩| ⟨h5,h6⟩
   ·rw[zF]
    show y∈U.1↔_
    rw[p3 y,bL y]
    constructor
    ·exact fun h=>h.1
    ·exact fun h=>⟨h,fun e=>mJ (by rw[e])⟩
   ·exact l.mem h Q h6 y
 ·rcases bW h Q hQ with ⟨rfl,rfl⟩| ⟨h5,h6⟩
  ·rw[zF,Nw.gf lu c0.1,if_pos ⟨fY,rfl⟩,if_neg (fun hc=>by omega)]
   show(U.1.length:Int)=_
   have:=List.length_pos_of_mem hxR
   omega
  ·have:=FC h Q h6
   rw[l.len h Q h6,Nw.gf lu h,if_neg (fun hc=>by omega),if_neg (fun hc=>by omega)]
   omega
 ·exact(e1.mono fun z _ hz=>nN z (.inr (.inl hz))).trans (Gy.mono fun z _ hz=>nN z hz)
 ·rcases hz with hz|rfl|hz| ⟨i,Q,hQ,hz⟩
  ·exact .inl (nN z (.inr (.inl hz)))
  ·exact .inl (nN z (.inr (.inr rfl)))
  ·exact .inl ((hS z).1 (.inr (.inr (.inl hz))))
  ·rcases bW i Q hQ with ⟨rfl,rfl⟩| ⟨h5,h6⟩
   ·exact .inl (nN z (.inl hz))
   ·exact .inl ((hS z).1 (.inr (.inr (.inr ⟨i,Q,h6,hz⟩))))
theorem Ba{H:Hp}{n:Nat}{S:Nat→Prop}{d st:Int}{w:Nw}(h:c9 H n S d st w)(g:Int):af Tryz.prog lN [ptr n,i64 g] H fun v H'=>aw (
  ((¬w.has g∨(w.has g∧w.len g=0))∧v= .tuple [i64 0,.bool false].toArray∧H=H')∨
  (w.has g∧∃x,cT w.cs x∧(∃e,w.cs[x.toNat]? =some (g,e))∧(∀y,0≤y→(∃e,w.cs[y.toNat]? =some (g,e))→y≠x→aQ w x y=true)∧v= .tuple [i64 x,.bool true].toArray∧
   ∃q:Nat,(q:Int)≤d*(kX d (w.len g - 1):Nat)+1∧∃S',c9 H' n S' d (min (st+q) 4611686018427387904) (w.put x (0,0,0))∧ag S H H'∧∀z,S' z→S z∨H.size≤z)):=by
 refine bm wx ?_
 refine vs ?_
 refine(xP h g).mono ?_
 rintro _ _ ⟨⟨bK,rfl⟩| ⟨hh,h0,rfl⟩| ⟨hh,x,hx,he,rfl,rT⟩,rfl⟩
 ·refine vs ?_
  exact .inl ⟨.inl bK,rfl,rfl⟩
 ·refine vs ?_
  exact .inl ⟨.inr ⟨hh,h0⟩,rfl,rfl⟩
 ·refine vs ?_
  refine(CJ h x).mono ?_
  rintro _ H1 (⟨bK,_,_⟩| ⟨_,rfl,c0,q,lu,hq,S',d1,e1,YP⟩)
  ·exact absurd hx bK
  refine vs ?_
  obtain⟨e,ir⟩:=id he
  rw[lu]at ir
  injection ir with ir
  subst ir
  exact .inr ⟨hh,x,hx,he,rT,rfl,q,hq,S',d1,e1,YP⟩
theorem PK(w:Nw){x:Int}{y:Ce}{k s:Int}(hy:w.cs[x.toNat]? =some y)(hl:¬ep y.2.1 y.2.2 k s){z:Int}(hz:z.toNat≠x.toNat)(h:aQ w z x=false):aQ (w.put x (y.1,k,s)) z x=false:=by
 have k1:w.key x=y.2.1:=by unfold Nw.key;rw[anx,hy];rfl
 have k2:w.seq x=y.2.2:=by unfold Nw.seq;rw[anx,hy];rfl
 have hs:=anB (l:=w.cs) (a:=(y.1,k,s)) (anu.1 hy).1
 have k3:(w.put x (y.1,k,s)).key x=k:=by unfold Nw.key Nw.put;simp only[anx];rw[hs];rfl
 have k4:(w.put x (y.1,k,s)).seq x=s:=by unfold Nw.seq Nw.put;simp only[anx];rw[hs];rfl
 have k5:(w.put x (y.1,k,s)).key z=w.key z:=by unfold Nw.key Nw.put;simp only[anx];rw[anA (Ne.symm hz)]
 have k6:(w.put x (y.1,k,s)).seq z=w.seq z:=by unfold Nw.seq Nw.put;simp only[anx];rw[anA (Ne.symm hz)]
 unfold aQ at h ⊢
 rw[k3,k4,k5,k6]
 rw[k1,k2]at h
 simp only[decide_eq_false_iff_not,ep]at*
 omega
theorem zp{H:Hp}{n:Nat}{S:Nat→Prop}{d st:Int}{w:Nw}(h:c9 H n S d st w)(x k s:Int):af Tryz.prog kH [ptr n,i64 x,tz k s] H fun v H'=>aw (
  (¬ (cT w.cs x∧∀y,w.cs[x.toNat]? =some y→¬ep y.2.1 y.2.2 k s)∧v= .bool false∧c9 H' n S d st w∧ai H H')∨
  (cT w.cs x∧∃y,w.cs[x.toNat]? =some y∧¬ep y.2.1 y.2.2 k s∧v= .bool true∧∃q:Nat,(q:Int)≤kX d (w.len y.1 - 1)∧∃S',c9 H' n S' d (min (st+q) 4611686018427387904) (w.put x (y.1,k,s))∧ag S H H'∧∀z,S' z→S z∨H.size≤z)):=by
 obtain⟨c,C,rv,fp,rs,m,l,hS⟩:=h
 refine bm uf ?_
 refine vs ?_
 have f0:ai H (H.new 224 [i64 k,u64 s]):=(ag.refl _ _).new _ _
 have b0:(H.new 224 [i64 k,u64 s]).own H.size=some [i64 k,u64 s]:=aB _ _ _
 have m0:=m.ext f0 (fun _ _ h=>h)
 generalize H.new 224 [i64 k,u64 s]=H0 at*
 refine v2 (ae m0.own) (ae b0) ?_
 refine(jd m0.cells x k s).mono ?_
 rintro _ H1 (⟨bK,rfl,c1,e1⟩| ⟨bJ,rfl,y,hy,fh,c1,e1⟩)
 ·refine vs ?_
  exact .inl ⟨bK,rfl,⟨c,C,rv,fp,rs,m0.ext e1 (fun _ _ h=>h),l,hS⟩,f0.trans e1⟩
 have o1:=e1.own m0.own m.nC
 refine v1 (ae o1) ?_
 obtain⟨fZ,y',FD,fY⟩:=id bJ
 rw[hy]at FD
 injection FD with FD
 subst FD
 have cK:(w.put x (y.1,k,s)).cs[x.toNat]? =some (y.1,k,s):=anB (anu.1 hy).1
 have lh:∀z:Nat,z≠x.toNat→(w.put x (y.1,k,s)).cs[z]? =w.cs[z]? :=fun z hz=>anA (Ne.symm hz)
 have Ng:cT (w.put x (y.1,k,s)).cs x:=⟨fZ,_,cK,fY⟩
 refine(et c1 x).mono ?_
 rintro _ H2 (⟨bK,_,_⟩| ⟨_,y2,DO,rfl,c2,e2⟩)
 ·exact absurd Ng bK
 rw[cK]at DO
 injection DO with DO
 subst DO
 have o8:=e1.trans e2
 obtain⟨R,hR⟩:=(l.hs y.1.toNat).1 (m.cells.live _ (anz hy) fY)
 have zF:((y.1.toNat:Nat):Int)=y.1:=by omega
 have LA:∀ (h:Nat) Q,rs[h]? =some (some Q)→∀z:Int,z∈Q.l↔0≤z∧∃e,(w.put x (y.1,k,s)).cs[z.toNat]? =some (((h:Nat):Int),e):=fun h Q hQ z=>by
  rw[l.mem h Q hQ z]
  by_cases WW:z.toNat=x.toNat
  ·rw[WW,cK,hy]
   constructor
   ·rintro⟨z0,e,he⟩
    injection he with he
    exact⟨z0,(k,s),by rw[he]⟩
   ·rintro⟨z0,e,he⟩
    injection he with he
    injection he with WT _
    exact⟨z0,y.2,by rw[←WT]⟩
  ·rw[lh _ WW]
 have bL:=LA _ R hR
 have aX:=l.len _ R hR
 rw[zF]at bL aX
 have hxR:x∈R.l:=(bL x).2 ⟨fZ,_,cK⟩
 have FX:∀z∈R.l,cT (w.put x (y.1,k,s)).cs z:=fun z hz=>by
  obtain⟨z0,e,he⟩:=(bL z).1 hz
  exact⟨z0,_,he,fY⟩
 have o2:=e2.own o1 m.nC
 have m2:om H2 n c C rv fp d st (w.put x (y.1,k,s)) rs:=⟨o2,c2,m0.sl.ext o8 (fun b hb h=>(m.xd b hb).2 h),fun i R hR=>(m0.row i R hR).ext o8 (fun x hx=>(m.mC i R hR x hx).1),m.nC,m.xd,m.mC,m.oP⟩
 have aO:=(anu.1 hR).1
 obtain⟨b,o,c',lb,q1,q2,q3,q4⟩:=dc.get m2.sl.rd (i:=y.1.toNat) (j:=0) (x:=ptr R.r) (by omega) (by simp[hR,RU])
 subst q1
 have aaQ:=m.cells.st
 have wY:=m.cells.DY
 have oK:R.l.length≤65536:=by have:=(w.zf y.1).2;omega
 refine v1 (ae o2) ?_
 refine⟨by omega,?_⟩
 refine v2 q2 (show lb[o+y.1.toNat*1]? =some (ptr R.r)from q4) ?_
 refine(D2 (FY (c:=c) (rv:=.slice (some ⟨b,o,none⟩) rs.length c') (d:=d) (st:=st) (w:=w.put x (y.1,k,s)) m.nC) (m2.row _ R hR) (fun z hz ht=>?_) (n:=0) ⟨by rw[show min (st+((0:Nat):Int)) 4611686018427387904=st by omega];exact c2,o2⟩ x (by omega) (fun i hi=>by
  obtain⟨h1,h2⟩:=((l.ok _ R hR).pl x i).1 hi
  have:=(anu.1 h2).1
  exact⟨h1,by omega⟩) Ng FX).mono ?_
 ·rcases ht with ht|ht
  ·exact(m.mC _ R hR z hz).1 ht
  ·exact(m.mC _ R hR z hz).2.1 ht
 rintro _ H3 (⟨hp,_,_⟩| ⟨i,hp,rfl,r3,⟨c3,o3⟩,e3⟩)
 ·exact absurd hp ((bY.mem (l.ok _ R hR) x).1 hxR)
 have Ib:∀z∈R.l,z≠x→z.toNat≠x.toNat:=fun z hz aP e=>by have:=((bL z).1 hz).1;omega
 obtain⟨p1,p2,p3,p4⟩:=bY.raise (ar w) (ar (w.put x (y.1,k,s))) l.zn (l.ok _ R hR) hp (fun a ha b hb tG me=>gW w x _ (Ib a ha tG) (Ib b hb me)) (fun z hz WW hl=>PK w hy fh (Ib z hz WW) hl)
 generalize hU:fi (aQ (w.put x (y.1,k,s))) d x i.toNat R.l R.pl i=U at*
 rw[ant]at c3
 refine vs ?_
 have nN:∀z,(R.S z∨C z∨z=n)→S z:=fun z hz=>(hS z).1 (by
  rcases hz with hz|hz|hz
  ·exact .inr (.inr (.inr ⟨_,R,hR,hz⟩))
  ·exact .inl hz
  ·exact .inr (.inl hz))
 have bW:∀ (h:Nat) Q,(rs.set y.1.toNat (some (⟨R.r,R.S,U.l,U.pl⟩:Rw)))[h]? =some (some Q)→(h=y.1.toNat∧Q=⟨R.r,R.S,U.l,U.pl⟩)∨(h≠y.1.toNat∧rs[h]? =some (some Q)):=fun h Q hQ=>by
  by_cases hh:h=y.1.toNat
  ·subst hh
   rw[anB aO]at hQ
   simp only[anE]at hQ
   exact .inl ⟨rfl,hQ.symm⟩
  ·rw[anA (Ne.symm hh)]at hQ
   exact .inr ⟨hh,hQ⟩
 have aP:∀ (h:Nat) Q,h≠y.1.toNat→rs[h]? =some (some Q)→∀z∈Q.l,z.toNat≠x.toNat:=fun h Q hh hQ z hz e=>by
  obtain⟨z0,e',he⟩:=(l.mem h Q hQ z).1 hz
  rw[e,hy]at he
  injection he with he
  rw[he]at hh
  simp only[Int.toNat_natCast]at hh
  exact hh rfl
 have hwl:∀h:Int,(w.put x (y.1,k,s)).len h=w.len h:=fun h=>by
  rw[Nw.gf hy h]
  simp only
  split<;>omega
 refine .inr ⟨bJ,y,hy,fh,rfl,U.asked,by rw[←aX];exact Int.ofNat_le.2 p4,Dp n C fp (rs.set y.1.toNat (some ⟨R.r,R.S,U.l,U.pl⟩)),
  ⟨c,C,_,fp,rs.set y.1.toNat (some ⟨R.r,R.S,U.l,U.pl⟩),m2.setRow hR (R':=⟨R.r,R.S,U.l,U.pl⟩) rfl r3 (fun z hz=>.inl hz) e3 (fun z hz=>?_) c3 o3,
   ⟨l.zn,by rw[anv];exact l.hl,fun h=>?_,?_,fun h Q hQ=>?_,fun h Q hQ z=>?_,fun h Q hQ=>?_⟩,fun z=>Iff.rfl⟩,?_,fun z hz=>?_⟩
 ·rcases hz with hz|hz|hz
  ·exact .inr (.inl hz)
  ·exact .inl hz
  ·exact .inr (.inr hz)
 ·show w.hs[h]? =some true↔_
  rw[l.hs h]
  by_cases Lz:h=y.1.toNat
  ·subst Lz
   rw[anB aO]
   exact⟨fun _=>⟨_,rfl⟩,fun _=>⟨R,hR⟩⟩
  ·rw[anA (Ne.symm Lz)]
 ·rw[anA (by omega)];exact l.h0
 ·rcases bW h Q hQ with ⟨rfl,rfl⟩| ⟨h5,h6⟩
  ·exact p1
  ·exact bY.congr l.zn (l.ok h Q h6) fun z hz v hv=>(gW w x _ (aP h Q h5 h6 z hz) (aP h Q h5 h6 v hv)).symm
 ·rcases bW h Q hQ with ⟨rfl,rfl⟩| ⟨h5,h6⟩
  ·rw[zF]
   show z∈U.l↔_
   rw[p2 z,bL z]
  ·exact LA h Q h6 z
 ·rw[hwl]
  rcases bW h Q hQ with ⟨rfl,rfl⟩| ⟨h5,h6⟩
  ·rw[zF]
   show(U.l.length:Int)=_
   omega
  ·exact l.len h Q h6
 ·exact(f0.mono fun _ _ h=>h.elim).trans ((o8.mono fun z _ hz=>nN z (.inr (.inl hz))).trans (e3.mono fun z _ hz=>nN z hz))
 ·rcases hz with hz|rfl|hz| ⟨j,Q,hQ,hz⟩
  ·exact .inl (nN z (.inr (.inl hz)))
  ·exact .inl (nN z (.inr (.inr rfl)))
  ·exact .inl ((hS z).1 (.inr (.inr (.inl hz))))
  ·rcases bW j Q hQ with ⟨rfl,rfl⟩| ⟨h5,h6⟩
   ·exact .inl (nN z (.inl hz))
   ·exact .inl ((hS z).1 (.inr (.inr (.inr ⟨j,Q,h6,hz⟩))))
theorem om.at_{H:Hp}{n c:Nat}{C:Nat→Prop}{rv:Value}{fp:Option Nat}{d st:Int}{w:Nw}{rs:List (Option Rw)}(m:om H n c C rv fp d st w rs){i:Nat}{o:Option Rw}(h:rs[i]? =some o):
  ∃f cc lb,rv= .slice (some ⟨f,0,none⟩) rs.length cc∧fp=some f∧H.own f=some lb∧lb[i]? =some (RU o)∧i<rs.length:=by
 have hi:=(anu.1 h).1
 obtain⟨hl,hm⟩:=id m.sl
 cases fp with
 |none=>obtain⟨e,_⟩:=hm;omega
 |some f=>
  obtain⟨lb,cc,hv,ho,h1,h2,h3⟩:=hm
  refine⟨f,cc,lb,hv,rfl,ho,?_,hi⟩
  have h4:(rs.map RU)[i]? =some (RU o):=by rw[anR,h];rfl
  rw[←h3,an3 (by omega)]at h4
  exact h4
end Go.Proofs.YtjlnnljohemifaaGreat
