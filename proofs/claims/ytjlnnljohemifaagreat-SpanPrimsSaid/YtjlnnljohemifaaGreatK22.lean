/- Texts put behind each other. -/
import Derived.Test.YtjlnnljohemifaaGreatK98
import Derived.Test.YtjlnnljohemifaaGreatK0
import Derived.Test.YtjlnnljohemifaaGreatK1
import Derived.Test.YtjlnnljohemifaaGreatK17
import Derived.Test.YtjlnnljohemifaaGreatK20
import Derived.Test.YtjlnnljohemifaaGreatK21
set_option maxRecDepth 100000
set_option maxHeartbeats 8000000
set_option linter.unusedVariables false
set_option linter.unusedSimpArgs false
namespace Go.Proofs.YtjlnnljohemifaaGreat
open Go Go.Vc
structure bW(lt:Int→Int→Bool)(d:Int)(l:List Int)(pl:Int→Option Int):Prop where
 heap:ez lt d l
 pl:Bv l pl
theorem bW.nil(lt:Int→Int→Bool)(d:Int):bW lt d [] (fun _=>none):=
 ⟨fun j _ h=>by simp at h,fun z k=>by simp⟩
theorem bW.congr{lt lt':Int→Int→Bool}{d:Int}(hf:cO d){l:List Int}{pl:Int→Option Int}(h:bW lt d l pl)(hfg:∀z∈l,∀y∈l,lt z y=lt' z y):bW lt' d l pl:=by
 refine⟨fun j h1 h2=>?_,h.pl⟩
 have hp:=cB hf h1
 have e:∀k,k<l.length→l.getD k 0∈l:=fun k hk=>by
  rw[anf,am8 hk];exact List.getElem_mem hk
 rw[←hfg _ (e j h2) _ (e _ (show pa d j<l.length by omega))]
 exact h.heap j h1 h2
theorem bW.add{lt:Int→Int→Bool}(ho:bm lt){d:Int}(hf:cO d){l:List Int}{pl:Int→Option Int}(h:bW lt d l pl){x:Int}(hx:pl x=none):
  bW lt d (eZ lt d x l.length (l++[x]) pl l.length).l (eZ lt d x l.length (l++[x]) pl l.length).pl∧
   (∀z,z∈(eZ lt d x l.length (l++[x]) pl l.length).l↔z=x∨z∈l)∧(eZ lt d x l.length (l++[x]) pl l.length).l.length=l.length+1∧
   (eZ lt d x l.length (l++[x]) pl l.length).asked≤j7 d l.length:=by
 have SK:=hf.1
 have bV:∀k,k<l.length→(l++[x]).getD k 0=l.getD k 0:=fun k hk=>by
  rw[anf,anf,anq hk]
 have Oz:∀j:Nat,1≤j→j<l.length+1→pa d j≠l.length:=fun j h1 h2=>by have:=cB hf h1;omega
 have hP:Qn (l++[x]) pl l.length x:=by
  intro z hz k
  rw[h.pl z k]
  constructor
  ·rintro⟨a,b⟩
   have hk:=(ana.1 b).1
   exact⟨a,by omega,by rw[anq hk];exact b⟩
  ·rintro⟨a,b,c⟩
   refine⟨a,?_⟩
   have hk:=(ana.1 c).1
   simp only[ank,ant]at hk
   rw[anq (by omega)]at c
   exact c
 have lG:x∉l:=fun hm=>by
  obtain⟨k,hk⟩:=anM hm
  have:=(h.pl x k).2 ⟨by omega,by simpa using hk⟩
  rw[hx]at this;cases this
 have JX:∀z,Hd (l++[x]) l.length z↔z∈l:=by
  intro z
  constructor
  ·rintro⟨k,k1,k2⟩
   have hk:=(ana.1 k2).1
   simp only[ank,ant]at hk
   rw[anq (by omega)]at k2
   exact ang k2
  ·intro hm
   obtain⟨k,hk⟩:=anM hm
   have:=(ana.1 hk).1
   exact⟨k,by omega,by rw[anq this];exact hk⟩
 obtain⟨p1,p2⟩:=Bw (lt:=lt) (d:=d) x l.length (l++[x]) pl l.length (by simp) (by omega) (by simp;omega) hP (fun hc=>lG ((JX x).1 hc))
 refine⟨⟨Il ho hf x _ _ _ _ (by simp) (by omega) (by simp;omega) ⟨fun j h1 h2 h3 h4=>?_,fun j h1 h2 h3 h4=>?_⟩ (fun j h1 h2 h3=>?_),p1⟩,fun z=>by rw[p2 z,JX z],by rw[ug];simp,?_⟩
 ·simp only[Int.toNat_natCast]at h3 h4
  have:j<l.length:=by simp at h2;omega
  have hp:=cB hf h1
  rw[bV j this,bV _ (by omega)]
  exact h.heap j h1 this
 ·simp only[Int.toNat_natCast]at h3
  exact absurd h3 (Oz j h1 (by simpa using h2))
 ·simp only[Int.toNat_natCast]at h3
  exact absurd h3 (Oz j h1 (by simpa using h2))
 ·have:=Em lt d x l.length (l++[x]) pl l.length
  unfold j7
  simpa using this
theorem bW.VW{lt:Int→Int→Bool}(ho:bm lt){d:Int}(hf:cO d){l:List Int}{pl:Int→Option Int}(h:bW lt d l pl){x i:Int}(hx:pl x=some i):
  bW lt d (cM lt d x l pl i).1 (cM lt d x l pl i).2.1∧(cM lt d x l pl i).1.length=l.length - 1∧
   (∀z,z∈(cM lt d x l pl i).1↔z∈l∧z≠x)∧((cM lt d x l pl i).2.2:Int)≤d*(j7 d ((l.length:Int) - 1):Nat)+1:=by
 obtain⟨a,b,c,e,g⟩:=J2 ho hf h.heap h.pl hx
 exact⟨⟨a,b⟩,c,e,g⟩
theorem bW.mem{lt:Int→Int→Bool}{d:Int}{l:List Int}{pl:Int→Option Int}(h:bW lt d l pl)(z:Int):z∈l↔pl z≠none:=by
 constructor
 ·intro hm
  obtain⟨k,hk⟩:=anM hm
  rw[(h.pl z k).2 ⟨by omega,by simpa using hk⟩]
  simp
 ·intro hn
  obtain⟨k,hk⟩:=Option.ne_none_iff_exists'.1 hn
  exact ang ((h.pl z k).1 hk).2
theorem bW.least{lt:Int→Int→Bool}(ho:bm lt){d:Int}(hf:cO d){l:List Int}{pl:Int→Option Int}(h:bW lt d l pl){x:Int}(hx:l[0]? =some x):∀z∈l,z≠x→lt x z=true:=by
 intro z hz aM
 obtain⟨k,hk⟩:=anM hz
 have ST:=(ana.1 hk).1
 have:=Ep ho hf h.heap k k (ano _) ST
 rw[anf,anf,hk,hx]at this
 rcases ho.M8 x z (Ne.symm aM)with h1|h1
 ·exact h1
 ·simp only[Option.getD_some]at this
  rw[h1]at this;cases this
theorem bW.raise{lt lt':Int→Int→Bool}(ho:bm lt)(ho':bm lt'){d:Int}(hf:cO d){l:List Int}{pl:Int→Option Int}(h:bW lt d l pl){x i:Int}(hx:pl x=some i)(aK:∀a∈l,∀b∈l,a≠x→b≠x→lt' a b=lt a b)(Vp:∀z∈l,z≠x→lt z x=false→lt' z x=false):
  bW lt' d (eZ lt' d x i.toNat l pl i).l (eZ lt' d x i.toNat l pl i).pl∧(∀z,z∈(eZ lt' d x i.toNat l pl i).l↔z∈l)∧(eZ lt' d x i.toNat l pl i).l.length=l.length∧
   (eZ lt' d x i.toNat l pl i).asked≤j7 d ((l.length:Int) - 1):=by
 obtain⟨i0,hi⟩:=(h.pl x i).1 hx
 have oF:i.toNat<l.length:=(ana.1 hi).1
 have tU:∀j,j<l.length→j≠i.toNat→l.getD j 0≠x:=fun j hj aM e=>by
  have:l[j]? =some x:=by rw[am8 hj,←e,anf,am8 hj];rfl
  exact aM (h.pl.En this hi)
 have bE:∀j,j<l.length→l.getD j 0∈l:=fun j hj=>by rw[anf,am8 hj];exact List.getElem_mem hj
 have LR:=h.heap.but ho hf i.toNat
 have hO:¬Hd l i x:=by
  rintro⟨k,k1,k2⟩
  have:=h.pl.En k2 hi
  omega
 obtain⟨p1,p2⟩:=Bw (lt:=lt') (d:=d) x i.toNat l pl i (ano _) i0 (by omega) (h.pl.ael hi i0) hO
 refine⟨⟨Il ho' hf x _ _ _ _ (ano _) i0 (by omega) ⟨fun j h1 h2 h3 h4=>?_,fun j h1 h2 h3 h4=>?_⟩ (fun j h1 h2 h3=>?_),p1⟩,fun z=>?_,ug _ _ _ _ _ _ _,?_⟩
 ·have:=cB hf h1
  rw[aK _ (bE j h2) _ (bE _ (by omega)) (tU j h2 h3) (tU _ (by omega) h4)]
  exact LR.1 j h1 h2 h3 h4
 ·have:=cB hf h1
  have:=cB hf h4
  rw[aK _ (bE j h2) _ (bE _ (by omega)) (tU j h2 (by omega)) (tU _ (by omega) (by omega))]
  exact LR.2 j h1 h2 h3 h4
 ·have Vq:=cB hf h1
  have aM:=tU j h2 (by omega)
  have:=h.heap j h1 h2
  rw[h3,show l.getD i.toNat 0=x by rw[anf,hi];rfl]at this
  exact Vp _ (bE j h2) aM this
 ·rw[p2 z]
  constructor
  ·rintro(rfl| ⟨k,_,k2⟩)
   ·exact ang hi
   ·exact ang k2
  ·intro hm
   obtain⟨k,hk⟩:=anM hm
   by_cases e:(k:Int)=i
   ·rw[show k=i.toNat by omega,hi]at hk;injection hk with hk;exact .inl hk.symm
   ·exact .inr ⟨k,e,hk⟩
 ·have e1:=Em lt' d x i.toNat l pl i
  have e2:=j8 hf ((l.length:Int) - 1).toNat i ((l.length:Int) - 1) (ano _) (by omega)
  unfold j7 at e2 ⊢
  omega
structure Rw where
 r:Nat
 S:Nat→Prop
 l:List Int
 pl:Int→Option Int
def QL:Option Rw→Value
 |none=>.pointer none
 |some R=>ptr R.r
structure mU(H:Hp)(n c:Nat)(C:Nat→Prop)(rv:Value)(fp:Option Nat)(d st:Int)(w:Nw)(rs:List (Option Rw)):Prop where
 own:H.own n=some [ptr c,i64 d,rv]
 cells:aY H c C st w
 sl:Sl H 1 rv rs.length (rs.map QL) fp
 row:∀ (h:Nat) R,rs[h]? =some (some R)→db H R.r R.S d R.l R.pl
 nC:¬C n
 vS:∀b,fp=some b→b≠n∧¬C b
 lJ:∀ (h:Nat) R,rs[h]? =some (some R)→∀x,R.S x→¬C x∧x≠n∧fp≠some x
 nH:∀ (h h':Nat) R R',rs[h]? =some (some R)→rs[h']? =some (some R')→h≠h'→∀x,R.S x→¬R'.S x
def Cq(n:Nat)(C:Nat→Prop)(fp:Option Nat)(rs:List (Option Rw))(z:Nat):Prop:=C z∨z=n∨fp=some z∨∃ (h:Nat) (R:Rw),rs[h]? =some (some R)∧R.S z
structure QM(d:Int)(w:Nw)(rs:List (Option Rw)):Prop where
 yd:cO d
 hl:rs.length=w.hs.length
 hs:∀h:Nat,w.hs[h]? =some true↔∃R,rs[h]? =some (some R)
 h0:rs[0]? =some none
 ok:∀ (h:Nat) R,rs[h]? =some (some R)→bW (aN w) d R.l R.pl
 mem:∀ (h:Nat) R,rs[h]? =some (some R)→∀x:Int,x∈R.l↔0≤x∧∃e,w.cs[x.toNat]? =some (((h:Nat):Int),e)
 len:∀ (h:Nat) R,rs[h]? =some (some R)→(R.l.length:Int)=w.len h
def cZ(H:Hp)(n:Nat)(S:Nat→Prop)(d st:Int)(w:Nw):Prop:=∃c C rv fp rs,mU H n c C rv fp d st w rs∧QM d w rs∧(∀z,Cq n C fp rs z↔S z)
theorem mU.slt{H:Hp}{n c:Nat}{C:Nat→Prop}{rv:Value}{fp:Option Nat}{d st:Int}{w:Nw}{rs:List (Option Rw)}(h:mU H n c C rv fp d st w rs):∀z,Cq n C fp rs z→z<H.size:=by
 rintro z (hz|rfl|hz| ⟨i,R,hR,hz⟩)
 ·exact h.cells.slt z hz
 ·exact az h.own
 ·exact Sl.lt (hz▸h.sl)
 ·exact(h.row i R hR).slt z hz
theorem mU.ext{H H':Hp}{n c:Nat}{C T:Nat→Prop}{rv:Value}{fp:Option Nat}{d st:Int}{w:Nw}{rs:List (Option Rw)}(h:mU H n c C rv fp d st w rs)(e:ag T H H')(hd:∀z,Cq n C fp rs z→¬T z):mU H' n c C rv fp d st w rs:=
 ⟨e.own h.own (hd n (.inr (.inl rfl))),h.cells.ext e (fun x hx=>hd x (.inl hx)),h.sl.ext e (fun b hb=>hd b (.inr (.inr (.inl hb)))),fun i R hR=>(h.row i R hR).ext e (fun x hx=>hd x (.inr (.inr (.inr ⟨i,R,hR,hx⟩)))),h.nC,h.vS,h.lJ,h.nH⟩
theorem cZ.slt{H:Hp}{n:Nat}{S:Nat→Prop}{d st:Int}{w:Nw}(h:cZ H n S d st w):∀z,S z→z<H.size:=by
 obtain⟨c,C,rv,fp,rs,m,l,hS⟩:=h
 exact fun z hz=>m.slt z ((hS z).2 hz)
theorem cZ.ext{H H':Hp}{n:Nat}{S T:Nat→Prop}{d st:Int}{w:Nw}(h:cZ H n S d st w)(e:ag T H H')(hd:∀z,S z→¬T z):cZ H' n S d st w:=by
 obtain⟨c,C,rv,fp,rs,m,l,hS⟩:=h
 exact⟨c,C,rv,fp,rs,m.ext e (fun z hz=>hd z ((hS z).1 hz)),l,hS⟩
theorem cZ.fresh{H H':Hp}{n:Nat}{S:Nat→Prop}{d st:Int}{w:Nw}(h:cZ H n S d st w)(e:ah H H'):cZ H' n S d st w:=h.ext e fun _ _ h=>h
theorem wJ(cap d:Int)(H:Hp):af Tryz.prog Lp [i64 cap,i64 d] H fun v H'=>ar (
  ah H H'∧((¬ (0≤cap∧cap≤65536)∧v= .tuple [.pointer none,i64 31].toArray)∨((0≤cap∧cap≤65536)∧¬cO d∧v= .tuple [.pointer none,i64 22].toArray)∨
   ((0≤cap∧cap≤65536)∧cO d∧∃n S,v= .tuple [ptr n,i64 0].toArray∧cZ H' n S d 0 ⟨[false],List.replicate cap.toNat (0,0,0)⟩∧∀x,S x→H.size≤x))):=by
 refine aP Lu ?_
 refine vs ?_
 refine(kN cap H).mono ?_
 rintro _ H1 ⟨f1,⟨hb,rfl⟩| ⟨hb,c,C,rfl,c1,hC⟩⟩
 ·refine vs ?_
  exact⟨f1,.inl ⟨hb,rfl⟩⟩
 refine vs ?_
 refine(wC d H1).mono ?_
 rintro _ H2 ⟨f2,⟨hf,rfl⟩| ⟨hf,r,S,rfl,r2,hS⟩⟩
 ·refine vs ?_
  exact⟨f1.trans f2,.inr (.inl ⟨hb,hf,rfl⟩)⟩
 refine v1 anT ?_
 have f3:ah H2 ((H2.new 250 [.pointer none]).new 255 [ptr c,i64 d,.slice (some ⟨H2.size,0,none⟩) 1 1]):=((ag.refl _ _).new _ _).new _ _
 have z1:=f1.size
 have z2:=f2.size
 have wA:=c1.slt
 refine⟨(f1.trans f2).trans f3,.inr (.inr ⟨hb,hf,H2.size+1,Cq (H2.size+1) C (some H2.size) [none],rfl,⟨c,C,.slice (some ⟨H2.size,0,none⟩) 1 1,some H2.size,[none],
  ⟨aQ (by simp only[am]),(c1.fresh f2).fresh f3,?_,fun h R hR=>?_,fun h=>by have:=wA _ h;omega,fun b hb=>?_,fun h R hR=>?_,fun h h' R R' hR=>?_⟩,
  ⟨hf,rfl,fun h=>?_,rfl,fun h R hR=>?_,fun h R hR=>?_,fun h R hR=>?_⟩,fun z=>Iff.rfl⟩,fun x hx=>?_⟩)⟩
 ·exact(Sl.bP (size:=1) (n:=1) (xs:=[.pointer none]) rfl rfl).ext ((ag.refl (fun _=>False) _).new _ _) (fun _ _ h=>h)
 ·rcases h with _|h<;>simp at hR
 ·injection hb with hb
  subst hb
  exact⟨by omega,fun h=>by have:=wA _ h;omega⟩
 ·rcases h with _|h<;>simp at hR
 ·rcases h with _|h<;>simp at hR
 ·rcases h with _|h<;>simp
 ·rcases h with _|h<;>simp at hR
 ·rcases h with _|h<;>simp at hR
 ·rcases h with _|h<;>simp at hR
 ·rcases hx with hx|rfl|hx| ⟨i,R,hR,hx⟩
  ·exact hC x hx
  ·omega
  ·injection hx with hx;omega
  ·rcases i with _|i<;>simp at hR
theorem EH{n c:Nat}{C:Nat→Prop}{rv:Value}{d st:Int}{w:Nw}(hn:¬C n):LO (.iface 194 (ptr n)) (fun H k=>aY H c C (min (st+k) 4611686018427387904) w∧H.own n=some [ptr c,i64 d,rv])
  (fun x=>C x∨x=n) (aN w) (cS w.cs):=by
 refine⟨fun H k a b ha hb h=>⟨_,_,cG,ptr c,rfl,fI (off:=0) (by kernel_rfl) (ae h.2) rfl,(iV h.1 a b).mono ?_⟩,ZX (x:=(0,cG)) (by kernel_rfl),fun H H' k U h e hd=>?_,fun H k h x hx=>?_⟩
 ·rintro v H' ⟨rfl,h1,e⟩
  rw[if_pos ⟨ha,hb⟩]at h1
  have hs:fB (min (st+(k:Nat)) 4611686018427387904) 1=min (st+((k+1:Nat):Int)) 4611686018427387904:=by
   unfold fB
   rw[if_neg (by omega)]
   split<;>omega
  rw[hs]at h1
  exact⟨by rw[Bx ha hb],⟨h1,e.own h.2 hn⟩,e.mono fun z _ hz=>.inl hz⟩
 ·exact⟨h.1.ext e (fun x hx=>hd x (.inl hx)),e.own h.2 (hd n (.inr rfl))⟩
 ·rcases hx with hx|rfl
  ·exact h.1.slt x hx
  ·exact az h.2
theorem EI{H:Hp}{n:Nat}{S:Nat→Prop}{d st:Int}{w:Nw}(h:cZ H n S d st w):af Tryz.prog og [ptr n] H fun v H'=>ar (
  (w.hs.length=65537∧v=i64 0∧H=H')∨
  (w.hs.length≠65537∧v=i64 w.hs.length∧∃S',cZ H' n S' d st w.make∧ag S H H'∧∀x,S' x→S x∨H.size≤x)):=by
 obtain⟨c,C,rv,fp,rs,m,l,hS⟩:=h
 refine aP A6 ?_
 refine v1 (ae m.own) ?_
 refine(jC m.cells).mono ?_
 rintro _ H1 (⟨h1,rfl,rfl⟩| ⟨h1,rfl,C',c1,e1,ya⟩)
 ·refine vs ?_
  exact .inl ⟨h1,rfl,rfl⟩
 have fP:0<rs.length:=(ana.1 l.h0).1
 have ny:=l.hl
 have o1:=e1.own m.own m.nC
 refine vs ?_
 refine ak.cK (anp (by omega)) ?_
 refine v1 (ae o1) ?_
 refine(wC d H1).mono ?_
 rintro _ H2 ⟨f2,⟨hf,_⟩| ⟨_,r,Sr,rfl,r2,Un⟩⟩
 ·exact absurd l.yd hf
 have o2:=f2.own o1 (fun h=>h)
 refine v1 (ae o2) ?_
 have yD:=m.cells.yD
 have eD:=m.slt
 have QK:=c1.slt
 have uC:=r2.slt
 have z1:=e1.size
 have z2:=f2.size
 have e0:ag (fun _=>False) H2 (H2.new 250 [ptr r]):=(ag.refl _ _).new _ _
 have Hf:=(m.sl.ext e1 (fun b hb h=>(m.vS b hb).2 h)).ext f2 (fun _ _ h=>h)
 refine Sl.append (Hf.ext e0 (fun _ _ h=>h)) (Sl.bP (size:=1) (xs:=[ptr r]) rfl rfl).rd rfl (by intro v hv;simp only[anj]at hv;subst hv;rfl) (by omega) ?_
 intro v' H3 cJ s3 e3 fN
 have o3:=e3.own (e0.own o2 (fun h=>h)) (fun e=>(m.vS n e).1 rfl)
 obtain⟨a',VJ,Nt⟩:=cI.Qi s3.rd
 subst Nt
 refine v1 o3 ?_
 generalize Nt:Value.slice a' (rs.length+1) VJ=v' at*
 have e4:ag (fun z=>z=n) H3 (H3.wr n [ptr c,i64 d,v']):=(ag.refl (fun z=>z=n) _).wr (fun _=>rfl) _
 have hn:=az m.own
 have SW:∀b,fp=some b→b<H.size:=fun b hb=>eD b (.inr (.inr (.inl hb)))
 have hCl:∀z,C z→z<H.size:=fun z hz=>eD z (.inl hz)
 have Dd:∀b,cJ=some b→fp=some b∨H2.size≤b:=fun b hb=>by
  rcases fN with h| ⟨z,h,h5,_⟩
  ·exact .inl (h▸hb)
  ·rw[h]at hb;injection hb with hb;subst hb;rw[am]at h5;exact .inr (by omega)
 have Ez:∀z,C' z→C z∨H.size≤z:=ya
 have Md:ag (fun z=>fp=some z) H2 H3:=(e0.mono fun _ _ h=>h.elim).me e3 (fun z _ h=>h)
 have bV:∀ (h:Nat) R,(rs++[some (⟨r,Sr,[],fun _=>none⟩:Rw)])[h]? =some (some R)→rs[h]? =some (some R)∨(h=rs.length∧R=⟨r,Sr,[],fun _=>none⟩):=fun h R hR=>by
  rcases aoG h rs.length with h5|h5|h5
  ·rw[anq h5]at hR;exact .inl hR
  ·subst h5
   rw[anE (ano _),aos]at hR
   simp only[anG,anl]at hR
   exact .inr ⟨rfl,hR.symm⟩
  ·rw[ans (by rw[ank,ant];omega)]at hR
   cases hR
 have hold:∀ (h:Nat) R,rs[h]? =some (some R)→∀x,R.S x→¬C x∧x≠n∧fp≠some x∧x<H.size:=fun h R hR x hx=>
  ⟨(m.lJ h R hR x hx).1,(m.lJ h R hR x hx).2.1,(m.lJ h R hR x hx).2.2,eD x (.inr (.inr (.inr ⟨h,R,hR,hx⟩)))⟩
 have HK:∀ (x:Nat) (e:Int×Int),w.cs[x]? ≠some (((rs.length:Nat):Int),e):=fun x e hx=>by
  have:=(m.cells.home _ (ang hx)).2
  simp only at this
  omega
 refine .inr ⟨h1,rfl,Cq n C' cJ (rs++[some ⟨r,Sr,[],fun _=>none⟩]),⟨c,C',v',cJ,rs++[some ⟨r,Sr,[],fun _=>none⟩],
  ⟨ai o3,?_,?_,fun h R hR=>?_,fun h=>?_,fun b hb=>⟨?_,fun h=>?_⟩,fun h R hR x hx=>⟨fun h=>?_,?_,fun h=>?_⟩,fun h h' R R' hR hR' aM x hx vN=>?_⟩,
  ⟨l.yd,?_,fun h=>?_,?_,fun h R hR=>?_,fun h R hR x=>?_,fun h R hR=>?_⟩,fun z=>Iff.rfl⟩,?_,fun x hx=>?_⟩
 ·exact(((c1.ext f2 (fun _ _ h=>h)).ext Md (fun x hx e=>by
   rcases Ez x hx with h|h
   ·exact(m.vS x e).2 h
   ·have:=SW x e;omega)).ext e4 (fun x hx e=>by
   rcases Ez x hx with h|h
   ·exact m.nC (e▸h)
   ·omega))
 ·have:=s3.ext e4 (fun b hb e=>by
   rcases Dd b hb with h|h
   ·exact(m.vS b h).1 e
   ·omega)
  rw[ank,anH]
  exact this
 ·rcases bV h R hR with h5| ⟨rfl,rfl⟩
  ·exact((((m.row h R h5).ext e1 (fun x hx=>(hold h R h5 x hx).1)).ext f2 (fun _ _ h=>h)).ext Md (fun x hx=>(hold h R h5 x hx).2.2.1)).ext e4 (fun x hx=>(hold h R h5 x hx).2.1)
  ·exact(r2.ext Md (fun x hx e=>by have:=Un x hx;have:=SW x e;omega)).ext e4 (fun x hx e=>by have:=Un x hx;omega)
 ·rcases Ez n h with h|h
  ·exact m.nC h
  ·omega
 ·rcases Dd b hb with h|h
  ·exact(m.vS b h).1
  ·omega
 ·rcases Dd b hb with h5|h5
  ·rcases Ez b h with h6|h6
   ·exact(m.vS b h5).2 h6
   ·have:=SW b h5;omega
  ·have:=QK b h;omega
 ·rcases bV _ R hR with h5| ⟨_,rfl⟩
  ·rcases Ez x h with h6|h6
   ·exact(hold _ R h5 x hx).1 h6
   ·have:=(hold _ R h5 x hx).2.2.2;omega
  ·have:=Un x hx;have:=QK x h;omega
 ·rcases bV _ R hR with h5| ⟨_,rfl⟩
  ·exact(hold _ R h5 x hx).2.1
  ·have:=Un x hx;omega
 ·rcases bV _ R hR with h5| ⟨_,rfl⟩
  ·rcases Dd x h with h6|h6
   ·exact(hold _ R h5 x hx).2.2.1 h6
   ·have:=(hold _ R h5 x hx).2.2.2;omega
  ·have h7:=uC x hx
   rcases Dd x h with h6|h6
   ·have:=Un x hx;have:=SW x h6;omega
   ·omega
 ·rcases bV _ R hR with h5| ⟨h5,rfl⟩
  ·rcases bV _ R' hR' with h6| ⟨h6,rfl⟩
   ·exact m.nH h h' R R' h5 h6 aM x hx vN
   ·have:=Un x vN;have:=(hold _ R h5 x hx).2.2.2;omega
  ·rcases bV _ R' hR' with h6| ⟨h6,rfl⟩
   ·have:=Un x hx;have:=(hold _ R' h6 x vN).2.2.2;omega
   ·omega
 ·simp[Nw.make,ny]
 ·show(w.hs++[true])[h]? =some true↔_
  rcases aoG h rs.length with h5|h5|h5
  ·rw[anq h5,anq (by omega)]
   exact l.hs h
  ·subst h5
   rw[anE (ano _),anE (by omega),aos,ny,aos]
   simp
  ·rw[ans (by rw[ank,ant];omega),ans (by rw[ank,ant];omega)]
   simp
 ·rw[anq fP];exact l.h0
 ·rcases bV h R hR with h5| ⟨rfl,rfl⟩
  ·exact l.ok h R h5
  ·exact bW.nil _ _
 ·rcases bV h R hR with h5| ⟨rfl,rfl⟩
  ·exact l.mem h R h5 x
  ·simp only[api,false_iff]
   rintro⟨_,e,he⟩
   exact HK _ _ he
 ·rcases bV h R hR with h5| ⟨rfl,rfl⟩
  ·exact l.len h R h5
  ·show((0:Nat):Int)=w.len _
   unfold Nw.len
   rw[if_pos (by omega),aoI.2 (fun x hx=>by
    have:=(m.cells.home x hx).2
    simp only[anF]
    omega)]
 ·exact((e1.mono fun z _ hz=>(hS z).1 (.inl hz)).trans ((f2.mono fun _ _ h=>h.elim).trans (Md.mono fun z _ hz=>(hS z).1 (.inr (.inr (.inl hz)))))).trans (e4.mono fun z _ hz=>(hS z).1 (.inr (.inl hz)))
 ·rcases hx with hx|rfl|hx| ⟨i,R,hR,hx⟩
  ·rcases Ez x hx with h|h
   ·exact .inl ((hS x).1 (.inl h))
   ·exact .inr h
  ·exact .inl ((hS x).1 (.inr (.inl rfl)))
  ·rcases Dd x hx with h|h
   ·exact .inl ((hS x).1 (.inr (.inr (.inl h))))
   ·exact .inr (by omega)
  ·rcases bV _ R hR with h5| ⟨_,rfl⟩
   ·exact .inl ((hS x).1 (.inr (.inr (.inr ⟨i,R,h5,hx⟩))))
   ·have:=Un x hx;exact .inr (by omega)
theorem QM.eT{d:Int}{w:Nw}{rs:List (Option Rw)}(l:QM d w rs){g:Int}(h:w.has g):∃R,rs[g.toNat]? =some (some R):=(l.hs g.toNat).1 h.2
theorem wK{H:Hp}{n:Nat}{S:Nat→Prop}{d st:Int}{w:Nw}(h:cZ H n S d st w)(g:Int):af Tryz.prog qQ [ptr n,i64 g] H fun v H'=>ar (
  ((¬w.has g∧v= .tuple [i64 0,.bool false].toArray)∨(w.has g∧w.len g=0∧v= .tuple [i64 0,.bool false].toArray)∨
   (w.has g∧∃x,cS w.cs x∧(∃e,w.cs[x.toNat]? =some (g,e))∧v= .tuple [i64 x,.bool true].toArray∧∀y,0≤y→(∃e,w.cs[y.toNat]? =some (g,e))→y≠x→aN w x y=true))∧H=H'):=by
 obtain⟨c,C,rv,fp,rs,m,l,hS⟩:=h
 refine aP CK ?_
 refine v1 (ae m.own) ?_
 refine(gM m.cells g).mono ?_
 rintro _ _ ⟨rfl,rfl⟩
 refine vs ?_
 refine ak.dec (fun hh=>?_) (fun hh=>?_)
 ·obtain⟨R,hR⟩:=l.eT hh
  have h1:=hh.1
  have aK:=(ana.1 hR).1
  obtain⟨b,o,c',lb,e1,e2,e3,e4⟩:=cI.get m.sl.rd (i:=g.toNat) (j:=0) (x:=ptr R.r) (by omega) (by simp[hR,QL])
  subst e1
  have yE:((g.toNat:Nat):Int)=g:=by omega
  refine v1 (ae m.own) ?_
  refine⟨by omega,?_⟩
  refine v2 e2 (show lb[o+g.toNat*1]? =some (ptr R.r)from e4) ?_
  refine(Ik (m.row _ R hR) 0).mono ?_
  rintro _ _ ⟨rfl,rfl⟩
  have bF:=l.mem _ R hR
  rw[yE]at bF
  have aV:=l.len _ R hR
  rw[yE]at aV
  rw[show(if(0:Int)≤0 then R.l[Int.toNat 0]? else none)=R.l[0]? from rfl,Sw]
  cases h0:R.l[0]? with
  |none=>
   have:R.l.length=0:=by
    rcases ao1 R.l.length with h|h
    ·exact h
    ·rw[am8 h]at h0;cases h0
   simp(disch:=(first|omega| (simp only[Zs]<;>omega)|fail)) only[go_sem, ↓reduceIte,Zv,Option.isSome_none,Option.getD_none]
   exact⟨.inr (.inl ⟨hh,by omega,rfl⟩),rfl⟩
  |some x=>
   simp(disch:=(first|omega| (simp only[Zs]<;>omega)|fail)) only[go_sem, ↓reduceIte,Zv,Option.isSome_some,Option.getD_some]
   obtain⟨x0,e,he⟩:=(bF x).1 (ang h0)
   refine⟨.inr (.inr ⟨hh,x,⟨x0,_,he,by simp only;omega⟩,⟨e,he⟩,rfl,fun y Vn hy aM=>?_⟩),rfl⟩
   exact bW.least (aq w) l.yd (l.ok _ R hR) h0 y ((bF y).2 ⟨Vn,hy⟩) aM
 ·refine vs ?_
  exact⟨.inl ⟨hh,rfl⟩,rfl⟩
theorem mU.setRow{H H':Hp}{n c:Nat}{C T:Nat→Prop}{rv:Value}{fp:Option Nat}{d st VK:Int}{w w':Nw}{rs:List (Option Rw)}(m:mU H n c C rv fp d st w rs){g:Nat}{R R':Rw}(hR:rs[g]? =some (some R))(hr:R'.r=R.r)
  (row:db H' R'.r R'.S d R'.l R'.pl)(hRS:∀z,R'.S z→R.S z∨H.size≤z)(e:ag T H H')(hT:∀z,T z→C z∨R.S z∨z=n)(cells:aY H' c C VK w')(own:H'.own n=some [ptr c,i64 d,rv]):
  mU H' n c C rv fp d VK w' (rs.set g (some R')):=by
 have eD:=m.slt
 have hg:=(ana.1 hR).1
 have bV:∀ (h:Nat) Q,(rs.set g (some R'))[h]? =some (some Q)→(h=g∧Q=R')∨(h≠g∧rs[h]? =some (some Q)):=fun h Q hQ=>by
  by_cases hh:h=g
  ·subst hh
   rw[ani hg]at hQ
   simp only[anl]at hQ
   exact .inl ⟨rfl,hQ.symm⟩
  ·rw[anh (Ne.symm hh)]at hQ
   exact .inr ⟨hh,hQ⟩
 refine⟨own,cells,?_,fun h Q hQ=>?_,m.nC,m.vS,fun h Q hQ x hx=>?_,fun h h' Q Q' hQ ZT aM x hx vN=>?_⟩
 ·have h1:(rs.set g (some R')).map QL=rs.map QL:=by
   rw[anY]
   refine an5 fun i=>?_
   by_cases hi:i=g
   ·subst hi
    rw[ani (by rw[anz];exact hg),anA,hR]
    simp[QL,hr]
   ·rw[anh (Ne.symm hi)]
  rw[h1,anb]
  exact m.sl.ext e (fun b hb ht=>by
   rcases hT b ht with h|h|h
   ·exact(m.vS b hb).2 h
   ·exact(m.lJ _ R hR b h).2.2 hb
   ·exact(m.vS b hb).1 h)
 ·rcases bV h Q hQ with ⟨rfl,rfl⟩| ⟨h1,h2⟩
  ·exact row
  ·exact(m.row h Q h2).ext e (fun x hx ht=>by
    rcases hT x ht with h3|h3|h3
    ·exact(m.lJ h Q h2 x hx).1 h3
    ·exact m.nH h g Q R h2 hR h1 x hx h3
    ·exact(m.lJ h Q h2 x hx).2.1 h3)
 ·rcases bV h Q hQ with ⟨rfl,rfl⟩| ⟨h1,h2⟩
  ·rcases hRS x hx with h3|h3
   ·exact m.lJ _ R hR x h3
   ·refine⟨fun hc=>?_,fun hc=>?_,fun hc=>?_⟩
    ·have:=eD x (.inl hc);omega
    ·have:=eD n (.inr (.inl rfl));omega
    ·have:=eD x (.inr (.inr (.inl hc)));omega
  ·exact m.lJ h Q h2 x hx
 ·rcases bV h Q hQ with ⟨rfl,rfl⟩| ⟨h1,h2⟩
  ·rcases bV h' Q' ZT with ⟨rfl,rfl⟩| ⟨h3,h4⟩
   ·exact aM rfl
   ·rcases hRS x hx with h5|h5
    ·exact m.nH _ h' R Q' hR h4 aM x h5 vN
    ·have:=eD x (.inr (.inr (.inr ⟨h',Q',h4,vN⟩)));omega
  ·rcases bV h' Q' ZT with ⟨rfl,rfl⟩| ⟨h3,h4⟩
   ·rcases hRS x vN with h5|h5
    ·exact m.nH h _ Q R h2 hR aM x hx h5
    ·have:=eD x (.inr (.inr (.inr ⟨h,Q,h2,hx⟩)));omega
   ·exact m.nH h h' Q Q' h2 h4 aM x hx vN
theorem SX(lt:Int→Int→Bool){d:Int}(hf:cO d)(x:Int){m:Nat}(l:List Int)(pl:Int→Option Int){i:Int}(hi:1≤i)(hm:i.toNat≤m):0< (eZ lt d x m l pl i).asked:=by
 obtain⟨q,rfl⟩:∃q,m=q+1:=⟨m - 1,by omega⟩
 have hp:aW d i=some ((i - 1) / d):=by unfold aW;rw[if_pos ⟨hf,hi⟩]
 simp only[eZ,hp]
 split<;>simp
theorem BL{H:Hp}{n:Nat}{S:Nat→Prop}{d st:Int}{w:Nw}(h:cZ H n S d st w)(g x k s:Int):af Tryz.prog lW [ptr n,i64 g,i64 x,rZ k s] H fun v H'=>ar (
  (¬ (w.has g∧(0≤x∧x<w.cs.length)∧¬cS w.cs x)∧v= .bool false∧cZ H' n S d st w∧ag S H H')∨
  ((w.has g∧(0≤x∧x<w.cs.length)∧¬cS w.cs x)∧v= .bool true∧∃ (S':Nat→Prop) (q:Nat),(q:Int)≤j7 d (w.len g).toNat∧(0<w.len g→0<q)∧cZ H' n S' d (min (st+q) 4611686018427387904) (w.put x (g,k,s))∧ag S H H'∧∀z,S' z→S z∨H.size≤z)):=by
 obtain⟨c,C,rv,fp,rs,m,l,hS⟩:=h
 refine aP xD ?_
 refine vs ?_
 have f0:ah H (H.new 224 [i64 k,u64 s]):=(ag.refl _ _).new _ _
 have b0:(H.new 224 [i64 k,u64 s]).own H.size=some [i64 k,u64 s]:=ax _ _ _
 have m0:=m.ext f0 (fun _ _ h=>h)
 generalize H.new 224 [i64 k,u64 s]=H0 at*
 refine v2 (ae m0.own) (ae b0) ?_
 refine(kO m0.cells g x k s).mono ?_
 rintro _ H1 (⟨bJ,rfl,c1,e1⟩| ⟨oO,rfl,c1,e1⟩)
 ·refine vs ?_
  refine .inl ⟨bJ,rfl,⟨c,C,rv,fp,rs,?_,l,hS⟩,(f0.mono fun _ _ h=>h.elim).trans (e1.mono fun z _ hz=>(hS z).1 (.inl hz))⟩
  exact⟨e1.own m0.own m.nC,c1,m0.sl.ext e1 (fun b hb h=>(m.vS b hb).2 h),fun i R hR=>(m0.row i R hR).ext e1 (fun x hx=>(m.lJ i R hR x hx).1),m.nC,m.vS,m.lJ,m.nH⟩
 ·obtain⟨hh,⟨fO,jA⟩,bE⟩:=id oO
  obtain⟨R,hR⟩:=l.eT hh
  have h1:=hh.1
  have yE:((g.toNat:Nat):Int)=g:=by omega
  have bF:=l.mem _ R hR
  have aV:=l.len _ R hR
  rw[yE]at bF aV
  obtain⟨c0,jQ⟩:∃c0,w.cs[x.toNat]? =some c0:=⟨_,am8 (by omega)⟩
  have ue:¬0<c0.1:=fun h=>bE ⟨fO,c0,jQ,h⟩
  have cH:(w.put x (g,k,s)).cs[x.toNat]? =some (g,k,s):=ani (by omega)
  have kA:∀y:Nat,y≠x.toNat→(w.put x (g,k,s)).cs[y]? =w.cs[y]? :=fun y hy=>anh (Ne.symm hy)
  have OF:∀ (i:Nat) Q,rs[i]? =some (some Q)→x∉Q.l:=fun i Q hQ hm=>by
   obtain⟨_,e,he⟩:=(l.mem i Q hQ x).1 hm
   rw[jQ]at he
   injection he with he
   subst he
   rcases ao1 i with hi|hi
   ·subst hi;rw[l.h0]at hQ;cases hQ
   ·exact ue (by simp only;omega)
  have aM:∀ (i:Nat) Q,rs[i]? =some (some Q)→∀y∈Q.l,0≤y∧y.toNat≠x.toNat:=fun i Q hQ y hy=>by
   have h2:=((l.mem i Q hQ y).1 hy).1
   exact⟨h2,fun e=>OF i Q hQ (by rw[show x=y by omega];exact hy)⟩
  have VN:∀ (i:Nat) Q,rs[i]? =some (some Q)→bW (aN (w.put x (g,k,s))) d Q.l Q.pl:=fun i Q hQ=>
   bW.congr l.yd (l.ok i Q hQ) fun z hz y hy=>(gN w x _ (aM i Q hQ z hz).2 (aM i Q hQ y hy).2).symm
  have EG:∀z∈R.l,cS (w.put x (g,k,s)).cs z:=fun z hz=>by
   obtain⟨z0,e,he⟩:=(bF z).1 hz
   exact⟨z0,_,by rw[kA _ (aM _ R hR z hz).2];exact he,by simp only;omega⟩
  have VO:cS (w.put x (g,k,s)).cs x:=⟨fO,_,cH,by simp only;omega⟩
  have o1:=e1.own m0.own m.nC
  have ZY:=m.cells.st
  have m1:mU H1 n c C rv fp d st (w.put x (g,k,s)) rs:=⟨o1,c1,m0.sl.ext e1 (fun b hb h=>(m.vS b hb).2 h),fun i R hR=>(m0.row i R hR).ext e1 (fun x hx=>(m.lJ i R hR x hx).1),m.nC,m.vS,m.lJ,m.nH⟩
  have aK:=(ana.1 hR).1
  obtain⟨b,o,c',lb,q1,q2,q3,q4⟩:=cI.get m1.sl.rd (i:=g.toNat) (j:=0) (x:=ptr R.r) (by omega) (by simp[hR,QL])
  subst q1
  refine v1 (ae o1) ?_
  refine⟨by omega,?_⟩
  refine v2 q2 (show lb[o+g.toNat*1]? =some (ptr R.r)from q4) ?_
  have vM:=m.cells.CY
  have ny:R.l.length≤65536:=by have:=(w.xV g).2;omega
  refine(Gq (EH (c:=c) (rv:=.slice (some ⟨b,o,none⟩) rs.length c') (d:=d) (st:=st) (w:=w.put x (g,k,s)) m.nC) (m1.row _ R hR) (fun z hz ht=>?_) (n:=0) ⟨by rw[show min (st+((0:Nat):Int)) 4611686018427387904=st by omega];exact c1,o1⟩ x (by omega) VO EG).mono ?_
  ·rcases ht with ht|ht
   ·exact(m.lJ _ R hR z hz).1 ht
   ·exact(m.lJ _ R hR z hz).2.1 ht
  rintro _ H2 (⟨hp,_,_⟩| ⟨hp,rfl,S',r2,⟨c2,o2⟩,e2,X6⟩)
  ·exact absurd ((bW.mem (l.ok _ R hR) x).2 hp) (OF _ R hR)
  obtain⟨p1,p2,p3,p4⟩:=bW.add (aq (w.put x (g,k,s))) l.yd (VN _ R hR) hp
  have hq:0<R.l.length→0< (eZ (aN (w.put x (g,k,s))) d x R.l.length (R.l++[x]) R.pl R.l.length).asked:=fun h=>SX _ l.yd x _ _ (by omega) (by omega)
  generalize hU:eZ (aN (w.put x (g,k,s))) d x R.l.length (R.l++[x]) R.pl R.l.length=U at*
  rw[am9]at c2
  refine vs ?_
  have mI:∀z,(R.S z∨C z∨z=n)→S z:=fun z hz=>(hS z).1 (by
   rcases hz with hz|hz|hz
   ·exact .inr (.inr (.inr ⟨_,R,hR,hz⟩))
   ·exact .inl hz
   ·exact .inr (.inl hz))
  have bV:∀ (h:Nat) Q,(rs.set g.toNat (some (⟨R.r,S',U.l,U.pl⟩:Rw)))[h]? =some (some Q)→(h=g.toNat∧Q=⟨R.r,S',U.l,U.pl⟩)∨(h≠g.toNat∧rs[h]? =some (some Q)):=fun h Q hQ=>by
   by_cases hh:h=g.toNat
   ·subst hh
    rw[ani aK]at hQ
    simp only[anl]at hQ
    exact .inl ⟨rfl,hQ.symm⟩
   ·rw[anh (Ne.symm hh)]at hQ
    exact .inr ⟨hh,hQ⟩
  refine .inr ⟨oO,rfl,Cq n C fp (rs.set g.toNat (some ⟨R.r,S',U.l,U.pl⟩)),U.asked,?_,fun h=>hq (by omega),
   ⟨c,C,_,fp,rs.set g.toNat (some ⟨R.r,S',U.l,U.pl⟩),m1.setRow hR (R':=⟨R.r,S',U.l,U.pl⟩) rfl r2 X6 e2 (fun z hz=>?_) c2 o2,
    ⟨l.yd,by rw[anb];exact l.hl,fun h=>?_,?_,fun h Q hQ=>?_,fun h Q hQ y=>?_,fun h Q hQ=>?_⟩,fun z=>Iff.rfl⟩,?_,fun z hz=>?_⟩
  ·rw[show((w.len g).toNat:Int)=(R.l.length:Int) by omega]
   exact Int.ofNat_le.2 p4
  ·rcases hz with hz|hz|hz
   ·exact .inr (.inl hz)
   ·exact .inl hz
   ·exact .inr (.inr hz)
  ·show w.hs[h]? =some true↔_
   rw[l.hs h]
   by_cases Kh:h=g.toNat
   ·subst Kh
    rw[ani aK]
    exact⟨fun _=>⟨_,rfl⟩,fun _=>⟨R,hR⟩⟩
   ·rw[anh (Ne.symm Kh)]
  ·rw[anh (by omega)];exact l.h0
  ·rcases bV h Q hQ with ⟨rfl,rfl⟩| ⟨h5,h6⟩
   ·exact p1
   ·exact VN h Q h6
  ·rcases bV h Q hQ with ⟨rfl,rfl⟩| ⟨h5,h6⟩
   ·rw[yE]
    show y∈U.l↔_
    rw[p2 y]
    constructor
    ·rintro(rfl|hy)
     ·exact⟨fO,_,cH⟩
     ·obtain⟨y0,e,he⟩:=(bF y).1 hy
      exact⟨y0,e,by rw[kA _ (aM _ R hR y hy).2];exact he⟩
    ·rintro⟨y0,e,he⟩
     by_cases lO:y.toNat=x.toNat
     ·exact .inl (by omega)
     ·rw[kA _ lO]at he
      exact .inr ((bF y).2 ⟨y0,e,he⟩)
   ·rw[l.mem h Q h6 y]
    by_cases lO:y.toNat=x.toNat
    ·rw[lO,cH,jQ]
     constructor
     ·rintro⟨y0,e,he⟩
      injection he with he
      subst he
      rcases ao1 h with hi|hi
      ·subst hi;rw[l.h0]at h6;cases h6
      ·exact absurd (show(0:Int)< ((h:Nat):Int) by omega) ue
     ·rintro⟨y0,e,he⟩
      injection he with he
      injection he with VQ he2
      omega
    ·rw[kA _ lO]
  ·rcases bV h Q hQ with ⟨rfl,rfl⟩| ⟨h5,h6⟩
   ·rw[yE,Nw.fR jQ g,if_neg (fun hc=>by omega),if_pos ⟨by omega,rfl⟩]
    show(U.l.length:Int)=_
    omega
   ·rw[l.len h Q h6,Nw.fR jQ h,if_neg (fun hc=>by omega),if_neg (fun hc=>by omega)]
    omega
  ·exact(f0.mono fun _ _ h=>h.elim).trans ((e1.mono fun z _ hz=>mI z (.inr (.inl hz))).trans (e2.mono fun z _ hz=>mI z hz))
  ·have z0:=f0.size
   have z1:=e1.size
   rcases hz with hz|rfl|hz| ⟨i,Q,hQ,hz⟩
   ·exact .inl (mI z (.inr (.inl hz)))
   ·exact .inl (mI z (.inr (.inr rfl)))
   ·exact .inl ((hS z).1 (.inr (.inr (.inl hz))))
   ·rcases bV i Q hQ with ⟨rfl,rfl⟩| ⟨h5,h6⟩
    ·rcases X6 z hz with h|h
     ·exact .inl (mI z (.inl h))
     ·exact .inr (by omega)
    ·exact .inl ((hS z).1 (.inr (.inr (.inr ⟨i,Q,h6,hz⟩))))
theorem BM{H:Hp}{n:Nat}{S:Nat→Prop}{d st:Int}{w:Nw}(h:cZ H n S d st w)(x:Int):af Tryz.prog xf [ptr n,i64 x] H fun v H'=>ar (
  (¬cS w.cs x∧v= .bool false∧H=H')∨
  (cS w.cs x∧v= .bool true∧∃ (c0:Ce) (q:Nat),w.cs[x.toNat]? =some c0∧(q:Int)≤d*(j7 d (w.len c0.1 - 1):Nat)+1∧∃S',cZ H' n S' d (min (st+q) 4611686018427387904) (w.put x (0,0,0))∧ag S H H'∧∀z,S' z→S z∨H.size≤z)):=by
 obtain⟨c,C,rv,fp,rs,m,l,hS⟩:=h
 refine aP xB ?_
 refine v1 (ae m.own) ?_
 refine(dZ m.cells x).mono ?_
 rintro _ H1 (⟨bJ,rfl,rfl⟩| ⟨bE,c0,jQ,rfl,c1,e1⟩)
 ·refine vs ?_
  exact .inl ⟨bJ,rfl,rfl⟩
 obtain⟨fO,c0',Iu,fP⟩:=id bE
 rw[jQ]at Iu
 injection Iu with Iu
 subst Iu
 obtain⟨R,hR⟩:=(l.hs c0.1.toNat).1 (m.cells.live _ (ang jQ) fP)
 have yE:((c0.1.toNat:Nat):Int)=c0.1:=by omega
 have bF:=l.mem _ R hR
 have aV:=l.len _ R hR
 rw[yE]at bF aV
 have cH:(w.put x (0,0,0)).cs[x.toNat]? =some (0,0,0):=ani (ana.1 jQ).1
 have kA:∀y:Nat,y≠x.toNat→(w.put x (0,0,0)).cs[y]? =w.cs[y]? :=fun y hy=>anh (Ne.symm hy)
 have o1:=e1.own m.own m.nC
 have m1:mU H1 n c C rv fp d st w rs:=⟨o1,c1,m.sl.ext e1 (fun b hb h=>(m.vS b hb).2 h),fun i R hR=>(m.row i R hR).ext e1 (fun x hx=>(m.lJ i R hR x hx).1),m.nC,m.vS,m.lJ,m.nH⟩
 have aK:=(ana.1 hR).1
 have hxR:x∈R.l:=(bF x).2 ⟨fO,c0.2,jQ⟩
 have EG:∀z∈R.l,cS w.cs z:=fun z hz=>by
  obtain⟨z0,e,he⟩:=(bF z).1 hz
  exact⟨z0,_,he,fP⟩
 obtain⟨b,o,c',lb,q1,q2,q3,q4⟩:=cI.get m1.sl.rd (i:=c0.1.toNat) (j:=0) (x:=ptr R.r) (by omega) (by simp[hR,QL])
 subst q1
 have ZY:=m.cells.st
 have vM:=m.cells.CY
 have ny:R.l.length≤65536:=by have:=(w.xV c0.1).2;omega
 refine v1 (ae o1) ?_
 refine⟨by omega,?_⟩
 refine v2 q2 (show lb[o+c0.1.toNat*1]? =some (ptr R.r)from q4) ?_
 refine(BK (EH (c:=c) (rv:=.slice (some ⟨b,o,none⟩) rs.length c') (d:=d) (st:=st) (w:=w) m.nC) (m1.row _ R hR) (fun z hz ht=>?_) (n:=0) ⟨by rw[show min (st+((0:Nat):Int)) 4611686018427387904=st by omega];exact c1,o1⟩ l.yd x (by omega) (l.ok _ R hR).pl EG).mono ?_
 ·rcases ht with ht|ht
  ·exact(m.lJ _ R hR z hz).1 ht
  ·exact(m.lJ _ R hR z hz).2.1 ht
 rintro _ H2 (⟨hp,_,_⟩| ⟨i,hp,rfl,r2,⟨c2,o2⟩,e2⟩)
 ·exact absurd hp ((bW.mem (l.ok _ R hR) x).1 hxR)
 obtain⟨p1,p2,p3,p4⟩:=bW.VW (aq w) l.yd (l.ok _ R hR) hp
 generalize hU:cM (aN w) d x R.l R.pl i=U at*
 rw[am9]at c2
 refine v1 (ae o2) ?_
 refine(jD c2 x).mono ?_
 rintro _ H3 (⟨bJ,_,_⟩| ⟨_,rfl,c3,e3⟩)
 ·exact absurd bE bJ
 refine vs ?_
 have o3:=e3.own o2 m.nC
 have Fz:ag (fun z=>R.S z∨C z∨z=n) H1 H3:=e2.trans (e3.mono fun z _ hz=>.inr (.inl hz))
 have r3:=r2.ext e3 (fun z hz=>(m.lJ _ R hR z hz).1)
 have mI:∀z,(R.S z∨C z∨z=n)→S z:=fun z hz=>(hS z).1 (by
  rcases hz with hz|hz|hz
  ·exact .inr (.inr (.inr ⟨_,R,hR,hz⟩))
  ·exact .inl hz
  ·exact .inr (.inl hz))
 have bV:∀ (h:Nat) Q,(rs.set c0.1.toNat (some (⟨R.r,R.S,U.1,U.2.1⟩:Rw)))[h]? =some (some Q)→(h=c0.1.toNat∧Q=⟨R.r,R.S,U.1,U.2.1⟩)∨(h≠c0.1.toNat∧rs[h]? =some (some Q)):=fun h Q hQ=>by
  by_cases hh:h=c0.1.toNat
  ·subst hh
   rw[ani aK]at hQ
   simp only[anl]at hQ
   exact .inl ⟨rfl,hQ.symm⟩
  ·rw[anh (Ne.symm hh)]at hQ
   exact .inr ⟨hh,hQ⟩
 have Ej:∀ (h:Nat) Q,rs[h]? =some (some Q)→0<h:=fun h Q hQ=>by
  rcases ao1 h with hi|hi
  ·subst hi;rw[l.h0]at hQ;cases hQ
  ·exact hi
 have aM:∀ (h:Nat) Q,h≠c0.1.toNat→rs[h]? =some (some Q)→∀y∈Q.l,y.toNat≠x.toNat:=fun h Q hh hQ y hy e=>by
  obtain⟨y0,e',he⟩:=(l.mem h Q hQ y).1 hy
  rw[e,jQ]at he
  injection he with he
  rw[he]at hh
  simp only[Int.toNat_natCast]at hh
  exact hh rfl
 have Mf:∀y∈U.1,y.toNat≠x.toNat:=fun y hy e=>by
  obtain⟨h1,h2⟩:=(p3 y).1 hy
  have:=((bF y).1 h1).1
  omega
 refine .inr ⟨bE,rfl,c0,U.2.2,jQ,?_,Cq n C fp (rs.set c0.1.toNat (some ⟨R.r,R.S,U.1,U.2.1⟩)),
  ⟨c,C,_,fp,rs.set c0.1.toNat (some ⟨R.r,R.S,U.1,U.2.1⟩),m1.setRow hR (R':=⟨R.r,R.S,U.1,U.2.1⟩) rfl r3 (fun z hz=>.inl hz) Fz (fun z hz=>?_) c3 o3,
   ⟨l.yd,by rw[anb];exact l.hl,fun h=>?_,?_,fun h Q hQ=>?_,fun h Q hQ y=>?_,fun h Q hQ=>?_⟩,fun z=>Iff.rfl⟩,?_,fun z hz=>?_⟩
 ·rw[←aV];exact p4
 ·rcases hz with hz|hz|hz
  ·exact .inr (.inl hz)
  ·exact .inl hz
  ·exact .inr (.inr hz)
 ·show w.hs[h]? =some true↔_
  rw[l.hs h]
  by_cases Kh:h=c0.1.toNat
  ·subst Kh
   rw[ani aK]
   exact⟨fun _=>⟨_,rfl⟩,fun _=>⟨R,hR⟩⟩
  ·rw[anh (Ne.symm Kh)]
 ·rw[anh (by omega)];exact l.h0
 ·rcases bV h Q hQ with ⟨rfl,rfl⟩| ⟨h5,h6⟩
  ·exact bW.congr l.yd p1 fun z hz y hy=>(gN w x _ (Mf z hz) (Mf y hy)).symm
  ·exact bW.congr l.yd (l.ok h Q h6) fun z hz y hy=>(gN w x _ (aM h Q h5 h6 z hz) (aM h Q h5 h6 y hy)).symm
 ·by_cases lO:y.toNat=x.toNat
  ·rw[lO,cH]
   have h0:=bV h Q hQ
   constructor
   ·intro hy
    rcases h0 with ⟨rfl,rfl⟩| ⟨h5,h6⟩
    ·exact absurd lO (Mf y hy)
    ·exact absurd lO (aM h Q h5 h6 y hy)
   ·rintro⟨_,e,he⟩
    injection he with he
    injection he with VQ _
    rcases h0 with ⟨rfl,rfl⟩| ⟨h5,h6⟩
    ·omega
    ·have:=Ej h Q h6;omega
  ·rw[kA _ lO]
   rcases bV h Q hQ with ⟨rfl,rfl⟩| ⟨h5,h6⟩
   ·rw[yE]
    show y∈U.1↔_
    rw[p3 y,bF y]
    constructor
    ·exact fun h=>h.1
    ·exact fun h=>⟨h,fun e=>lO (by rw[e])⟩
   ·exact l.mem h Q h6 y
 ·rcases bV h Q hQ with ⟨rfl,rfl⟩| ⟨h5,h6⟩
  ·rw[yE,Nw.fR jQ c0.1,if_pos ⟨fP,rfl⟩,if_neg (fun hc=>by omega)]
   show(U.1.length:Int)=_
   have:=List.length_pos_of_mem hxR
   omega
  ·have:=Ej h Q h6
   rw[l.len h Q h6,Nw.fR jQ h,if_neg (fun hc=>by omega),if_neg (fun hc=>by omega)]
   omega
 ·exact(e1.mono fun z _ hz=>mI z (.inr (.inl hz))).trans (Fz.mono fun z _ hz=>mI z hz)
 ·rcases hz with hz|rfl|hz| ⟨i,Q,hQ,hz⟩
  ·exact .inl (mI z (.inr (.inl hz)))
  ·exact .inl (mI z (.inr (.inr rfl)))
  ·exact .inl ((hS z).1 (.inr (.inr (.inl hz))))
  ·rcases bV i Q hQ with ⟨rfl,rfl⟩| ⟨h5,h6⟩
   ·exact .inl (mI z (.inl hz))
   ·exact .inl ((hS z).1 (.inr (.inr (.inr ⟨i,Q,h6,hz⟩))))
theorem zY{H:Hp}{n:Nat}{S:Nat→Prop}{d st:Int}{w:Nw}(h:cZ H n S d st w)(g:Int):af Tryz.prog kZ [ptr n,i64 g] H fun v H'=>ar (
  ((¬w.has g∨(w.has g∧w.len g=0))∧v= .tuple [i64 0,.bool false].toArray∧H=H')∨
  (w.has g∧∃x,cS w.cs x∧(∃e,w.cs[x.toNat]? =some (g,e))∧(∀y,0≤y→(∃e,w.cs[y.toNat]? =some (g,e))→y≠x→aN w x y=true)∧v= .tuple [i64 x,.bool true].toArray∧
   ∃q:Nat,(q:Int)≤d*(j7 d (w.len g - 1):Nat)+1∧∃S',cZ H' n S' d (min (st+q) 4611686018427387904) (w.put x (0,0,0))∧ag S H H'∧∀z,S' z→S z∨H.size≤z)):=by
 refine aP vk ?_
 refine vs ?_
 refine(wK h g).mono ?_
 rintro _ _ ⟨⟨bJ,rfl⟩| ⟨hh,h0,rfl⟩| ⟨hh,x,hx,he,rfl,qh⟩,rfl⟩
 ·refine vs ?_
  exact .inl ⟨.inl bJ,rfl,rfl⟩
 ·refine vs ?_
  exact .inl ⟨.inr ⟨hh,h0⟩,rfl,rfl⟩
 ·refine vs ?_
  refine(BM h x).mono ?_
  rintro _ H1 (⟨bJ,_,_⟩| ⟨_,rfl,c0,q,jQ,hq,S',d1,e1,X6⟩)
  ·exact absurd hx bJ
  refine vs ?_
  obtain⟨e,im⟩:=id he
  rw[jQ]at im
  injection im with im
  subst im
  exact .inr ⟨hh,x,hx,he,qh,rfl,q,hq,S',d1,e1,X6⟩
theorem OG(w:Nw){x:Int}{y:Ce}{k s:Int}(hy:w.cs[x.toNat]? =some y)(hl:¬eX y.2.1 y.2.2 k s){z:Int}(hz:z.toNat≠x.toNat)(h:aN w z x=false):aN (w.put x (y.1,k,s)) z x=false:=by
 have k1:w.key x=y.2.1:=by unfold Nw.key;rw[anf,hy];rfl
 have k2:w.seq x=y.2.2:=by unfold Nw.seq;rw[anf,hy];rfl
 have hs:=ani (l:=w.cs) (a:=(y.1,k,s)) (ana.1 hy).1
 have k3:(w.put x (y.1,k,s)).key x=k:=by unfold Nw.key Nw.put;simp only[anf];rw[hs];rfl
 have k4:(w.put x (y.1,k,s)).seq x=s:=by unfold Nw.seq Nw.put;simp only[anf];rw[hs];rfl
 have k5:(w.put x (y.1,k,s)).key z=w.key z:=by unfold Nw.key Nw.put;simp only[anf];rw[anh (Ne.symm hz)]
 have k6:(w.put x (y.1,k,s)).seq z=w.seq z:=by unfold Nw.seq Nw.put;simp only[anf];rw[anh (Ne.symm hz)]
 unfold aN at h ⊢
 rw[k3,k4,k5,k6]
 rw[k1,k2]at h
 simp only[decide_eq_false_iff_not,eX]at*
 omega
theorem ye{H:Hp}{n:Nat}{S:Nat→Prop}{d st:Int}{w:Nw}(h:cZ H n S d st w)(x k s:Int):af Tryz.prog jU [ptr n,i64 x,rZ k s] H fun v H'=>ar (
  (¬ (cS w.cs x∧∀y,w.cs[x.toNat]? =some y→¬eX y.2.1 y.2.2 k s)∧v= .bool false∧cZ H' n S d st w∧ah H H')∨
  (cS w.cs x∧∃y,w.cs[x.toNat]? =some y∧¬eX y.2.1 y.2.2 k s∧v= .bool true∧∃q:Nat,(q:Int)≤j7 d (w.len y.1 - 1)∧∃S',cZ H' n S' d (min (st+q) 4611686018427387904) (w.put x (y.1,k,s))∧ag S H H'∧∀z,S' z→S z∨H.size≤z)):=by
 obtain⟨c,C,rv,fp,rs,m,l,hS⟩:=h
 refine aP sH ?_
 refine vs ?_
 have f0:ah H (H.new 224 [i64 k,u64 s]):=(ag.refl _ _).new _ _
 have b0:(H.new 224 [i64 k,u64 s]).own H.size=some [i64 k,u64 s]:=ax _ _ _
 have m0:=m.ext f0 (fun _ _ h=>h)
 generalize H.new 224 [i64 k,u64 s]=H0 at*
 refine v2 (ae m0.own) (ae b0) ?_
 refine(iU m0.cells x k s).mono ?_
 rintro _ H1 (⟨bJ,rfl,c1,e1⟩| ⟨bE,rfl,y,hy,eY,c1,e1⟩)
 ·refine vs ?_
  exact .inl ⟨bJ,rfl,⟨c,C,rv,fp,rs,m0.ext e1 (fun _ _ h=>h),l,hS⟩,f0.trans e1⟩
 have o1:=e1.own m0.own m.nC
 refine v1 (ae o1) ?_
 obtain⟨fO,y',Ek,fP⟩:=id bE
 rw[hy]at Ek
 injection Ek with Ek
 subst Ek
 have cH:(w.put x (y.1,k,s)).cs[x.toNat]? =some (y.1,k,s):=ani (ana.1 hy).1
 have kA:∀z:Nat,z≠x.toNat→(w.put x (y.1,k,s)).cs[z]? =w.cs[z]? :=fun z hz=>anh (Ne.symm hz)
 have Mb:cS (w.put x (y.1,k,s)).cs x:=⟨fO,_,cH,fP⟩
 refine(dZ c1 x).mono ?_
 rintro _ H2 (⟨bJ,_,_⟩| ⟨_,y2,CB,rfl,c2,e2⟩)
 ·exact absurd Mb bJ
 rw[cH]at CB
 injection CB with CB
 subst CB
 have nT:=e1.trans e2
 obtain⟨R,hR⟩:=(l.hs y.1.toNat).1 (m.cells.live _ (ang hy) fP)
 have yE:((y.1.toNat:Nat):Int)=y.1:=by omega
 have Ki:∀ (h:Nat) Q,rs[h]? =some (some Q)→∀z:Int,z∈Q.l↔0≤z∧∃e,(w.put x (y.1,k,s)).cs[z.toNat]? =some (((h:Nat):Int),e):=fun h Q hQ z=>by
  rw[l.mem h Q hQ z]
  by_cases VT:z.toNat=x.toNat
  ·rw[VT,cH,hy]
   constructor
   ·rintro⟨z0,e,he⟩
    injection he with he
    exact⟨z0,(k,s),by rw[he]⟩
   ·rintro⟨z0,e,he⟩
    injection he with he
    injection he with VQ _
    exact⟨z0,y.2,by rw[←VQ]⟩
  ·rw[kA _ VT]
 have bF:=Ki _ R hR
 have aV:=l.len _ R hR
 rw[yE]at bF aV
 have hxR:x∈R.l:=(bF x).2 ⟨fO,_,cH⟩
 have EG:∀z∈R.l,cS (w.put x (y.1,k,s)).cs z:=fun z hz=>by
  obtain⟨z0,e,he⟩:=(bF z).1 hz
  exact⟨z0,_,he,fP⟩
 have o2:=e2.own o1 m.nC
 have m2:mU H2 n c C rv fp d st (w.put x (y.1,k,s)) rs:=⟨o2,c2,m0.sl.ext nT (fun b hb h=>(m.vS b hb).2 h),fun i R hR=>(m0.row i R hR).ext nT (fun x hx=>(m.lJ i R hR x hx).1),m.nC,m.vS,m.lJ,m.nH⟩
 have aK:=(ana.1 hR).1
 obtain⟨b,o,c',lb,q1,q2,q3,q4⟩:=cI.get m2.sl.rd (i:=y.1.toNat) (j:=0) (x:=ptr R.r) (by omega) (by simp[hR,QL])
 subst q1
 have ZY:=m.cells.st
 have vM:=m.cells.CY
 have ny:R.l.length≤65536:=by have:=(w.xV y.1).2;omega
 refine v1 (ae o2) ?_
 refine⟨by omega,?_⟩
 refine v2 q2 (show lb[o+y.1.toNat*1]? =some (ptr R.r)from q4) ?_
 refine(C1 (EH (c:=c) (rv:=.slice (some ⟨b,o,none⟩) rs.length c') (d:=d) (st:=st) (w:=w.put x (y.1,k,s)) m.nC) (m2.row _ R hR) (fun z hz ht=>?_) (n:=0) ⟨by rw[show min (st+((0:Nat):Int)) 4611686018427387904=st by omega];exact c2,o2⟩ x (by omega) (fun i hi=>by
  obtain⟨h1,h2⟩:=((l.ok _ R hR).pl x i).1 hi
  have:=(ana.1 h2).1
  exact⟨h1,by omega⟩) Mb EG).mono ?_
 ·rcases ht with ht|ht
  ·exact(m.lJ _ R hR z hz).1 ht
  ·exact(m.lJ _ R hR z hz).2.1 ht
 rintro _ H3 (⟨hp,_,_⟩| ⟨i,hp,rfl,r3,⟨c3,o3⟩,e3⟩)
 ·exact absurd hp ((bW.mem (l.ok _ R hR) x).1 hxR)
 have Cp:∀z∈R.l,z≠x→z.toNat≠x.toNat:=fun z hz aM e=>by have:=((bF z).1 hz).1;omega
 obtain⟨p1,p2,p3,p4⟩:=bW.raise (aq w) (aq (w.put x (y.1,k,s))) l.yd (l.ok _ R hR) hp (fun a ha b hb sj lm=>gN w x _ (Cp a ha sj) (Cp b hb lm)) (fun z hz VT hl=>OG w hy eY (Cp z hz VT) hl)
 generalize hU:eZ (aN (w.put x (y.1,k,s))) d x i.toNat R.l R.pl i=U at*
 rw[am9]at c3
 refine vs ?_
 have mI:∀z,(R.S z∨C z∨z=n)→S z:=fun z hz=>(hS z).1 (by
  rcases hz with hz|hz|hz
  ·exact .inr (.inr (.inr ⟨_,R,hR,hz⟩))
  ·exact .inl hz
  ·exact .inr (.inl hz))
 have bV:∀ (h:Nat) Q,(rs.set y.1.toNat (some (⟨R.r,R.S,U.l,U.pl⟩:Rw)))[h]? =some (some Q)→(h=y.1.toNat∧Q=⟨R.r,R.S,U.l,U.pl⟩)∨(h≠y.1.toNat∧rs[h]? =some (some Q)):=fun h Q hQ=>by
  by_cases hh:h=y.1.toNat
  ·subst hh
   rw[ani aK]at hQ
   simp only[anl]at hQ
   exact .inl ⟨rfl,hQ.symm⟩
  ·rw[anh (Ne.symm hh)]at hQ
   exact .inr ⟨hh,hQ⟩
 have aM:∀ (h:Nat) Q,h≠y.1.toNat→rs[h]? =some (some Q)→∀z∈Q.l,z.toNat≠x.toNat:=fun h Q hh hQ z hz e=>by
  obtain⟨z0,e',he⟩:=(l.mem h Q hQ z).1 hz
  rw[e,hy]at he
  injection he with he
  rw[he]at hh
  simp only[Int.toNat_natCast]at hh
  exact hh rfl
 have ZG:∀h:Int,(w.put x (y.1,k,s)).len h=w.len h:=fun h=>by
  rw[Nw.fR hy h]
  simp only
  split<;>omega
 refine .inr ⟨bE,y,hy,eY,rfl,U.asked,by rw[←aV];exact Int.ofNat_le.2 p4,Cq n C fp (rs.set y.1.toNat (some ⟨R.r,R.S,U.l,U.pl⟩)),
  ⟨c,C,_,fp,rs.set y.1.toNat (some ⟨R.r,R.S,U.l,U.pl⟩),m2.setRow hR (R':=⟨R.r,R.S,U.l,U.pl⟩) rfl r3 (fun z hz=>.inl hz) e3 (fun z hz=>?_) c3 o3,
   ⟨l.yd,by rw[anb];exact l.hl,fun h=>?_,?_,fun h Q hQ=>?_,fun h Q hQ z=>?_,fun h Q hQ=>?_⟩,fun z=>Iff.rfl⟩,?_,fun z hz=>?_⟩
 ·rcases hz with hz|hz|hz
  ·exact .inr (.inl hz)
  ·exact .inl hz
  ·exact .inr (.inr hz)
 ·show w.hs[h]? =some true↔_
  rw[l.hs h]
  by_cases Kh:h=y.1.toNat
  ·subst Kh
   rw[ani aK]
   exact⟨fun _=>⟨_,rfl⟩,fun _=>⟨R,hR⟩⟩
  ·rw[anh (Ne.symm Kh)]
 ·rw[anh (by omega)];exact l.h0
 ·rcases bV h Q hQ with ⟨rfl,rfl⟩| ⟨h5,h6⟩
  ·exact p1
  ·exact bW.congr l.yd (l.ok h Q h6) fun z hz v hv=>(gN w x _ (aM h Q h5 h6 z hz) (aM h Q h5 h6 v hv)).symm
 ·rcases bV h Q hQ with ⟨rfl,rfl⟩| ⟨h5,h6⟩
  ·rw[yE]
   show z∈U.l↔_
   rw[p2 z,bF z]
  ·exact Ki h Q h6 z
 ·rw[ZG]
  rcases bV h Q hQ with ⟨rfl,rfl⟩| ⟨h5,h6⟩
  ·rw[yE]
   show(U.l.length:Int)=_
   omega
  ·exact l.len h Q h6
 ·exact(f0.mono fun _ _ h=>h.elim).trans ((nT.mono fun z _ hz=>mI z (.inr (.inl hz))).trans (e3.mono fun z _ hz=>mI z hz))
 ·rcases hz with hz|rfl|hz| ⟨j,Q,hQ,hz⟩
  ·exact .inl (mI z (.inr (.inl hz)))
  ·exact .inl (mI z (.inr (.inr rfl)))
  ·exact .inl ((hS z).1 (.inr (.inr (.inl hz))))
  ·rcases bV j Q hQ with ⟨rfl,rfl⟩| ⟨h5,h6⟩
   ·exact .inl (mI z (.inl hz))
   ·exact .inl ((hS z).1 (.inr (.inr (.inr ⟨j,Q,h6,hz⟩))))
theorem mU.at_{H:Hp}{n c:Nat}{C:Nat→Prop}{rv:Value}{fp:Option Nat}{d st:Int}{w:Nw}{rs:List (Option Rw)}(m:mU H n c C rv fp d st w rs){i:Nat}{o:Option Rw}(h:rs[i]? =some o):
  ∃f cc lb,rv= .slice (some ⟨f,0,none⟩) rs.length cc∧fp=some f∧H.own f=some lb∧lb[i]? =some (QL o)∧i<rs.length:=by
 have hi:=(ana.1 h).1
 obtain⟨hl,hm⟩:=id m.sl
 cases fp with
 |none=>obtain⟨e,_⟩:=hm;omega
 |some f=>
  obtain⟨lb,cc,hv,ho,h1,h2,h3⟩:=hm
  refine⟨f,cc,lb,hv,rfl,ho,?_,hi⟩
  have h4:(rs.map QL)[i]? =some (QL o):=by rw[anA,h];rfl
  rw[←h3,anI (by omega)]at h4
  exact h4
theorem Mh(n:Nat):wG (.iface 218 (ptr n)) (fun H S w=>∃st,dm H n S st w) where
 slt:=by rintro H S w ⟨st,h⟩;exact h.slt
 ext:=by rintro H H' S w T ⟨st,h⟩ e hd;exact⟨st,h.ext e hd⟩
 cells:=by
  rintro H S w ⟨st,c,C,rv,fr,fa,ps,at_,m,l,hS⟩
  exact⟨c,C,st,m.cells⟩
 has:=by
  rintro H S w g ⟨st,c,C,rv,fr,fa,ps,at_,m,l,hS⟩
  obtain⟨av,ho,_⟩:=m.own
  exact⟨_,_,bz,ptr c,rfl,fI (off:=0) (by kernel_rfl) (ae ho) rfl,(gM m.cells g).mono fun v H' hp=>hp⟩
 make:=by
  rintro H S w ⟨st,h⟩
  refine⟨_,_,ol,ptr n,rfl,bv (by kernel_rfl),(EF h).mono ?_⟩
  rintro v H' (⟨h1,rfl,rfl⟩| ⟨h1,rfl,S',h2,h3,h4⟩)
  ·exact .inl ⟨h1,rfl,cr.same ⟨st,h⟩ (ag.refl _ _)⟩
  ·exact .inr ⟨h1,rfl,S',⟨_,h2⟩,h3,h4⟩
 insert:=by
  rintro H S w g x k s ⟨st,h⟩
  refine⟨_,_,ma,ptr n,rfl,bv (by kernel_rfl),(BI h g x k s).mono ?_⟩
  rintro v H' (⟨h1,rfl,h2,h3⟩| ⟨h1,rfl,S',q,h2,_,h3,h4,h5⟩)
  ·exact .inl ⟨h1,rfl,cr.same ⟨st,h2⟩ h3⟩
  ·exact .inr ⟨h1,rfl,S',⟨_,h3⟩,h4,h5⟩
 min:=by
  rintro H S w g ⟨st,h⟩
  refine⟨_,_,qS,ptr n,rfl,bv (by kernel_rfl),(wI h g).mono ?_⟩
  rintro v H' ⟨h1,rfl⟩
  rcases h1 with ⟨h1,rfl⟩| ⟨x,h2,rfl⟩
  ·exact .inl ⟨h1,rfl,cr.same ⟨st,h⟩ (ag.refl _ _)⟩
  ·exact .inr ⟨x,h2,rfl,cr.same ⟨st,h⟩ (ag.refl _ _)⟩
 extract:=by
  rintro H S w g ⟨st,h⟩
  refine⟨_,_,li,ptr n,rfl,bv (by kernel_rfl),(zX h g).mono ?_⟩
  rintro v H' (⟨h1,rfl,rfl⟩| ⟨x,h1,rfl,q,hq,S',h5,h6,h7⟩)
  ·exact .inl ⟨h1,rfl,cr.same ⟨st,h⟩ (ag.refl _ _)⟩
  ·exact .inr ⟨x,h1,rfl,S',⟨_,h5⟩,h6,h7⟩
 kq:=by
  rintro H S w x k s ⟨st,h⟩
  refine⟨_,_,jZ,ptr n,rfl,bv (by kernel_rfl),(yb h x k s).mono ?_⟩
  rintro v H' (⟨h1,rfl,h2,h3⟩| ⟨h1,y,hy,h2,rfl,q,hq,S',h3,h4,h5⟩)
  ·exact .inl ⟨h1,rfl,cr.same ⟨st,h2⟩ (h3.mono fun _ _ h=>h.elim)⟩
  ·exact .inr ⟨⟨h1,fun z hz=>by rw[hy]at hz;injection hz with hz;rw[←hz];exact h2⟩,rfl,y,hy,S',⟨_,h3⟩,h4,h5⟩
 entry:=by
  rintro H S w x ⟨st,h⟩
  obtain⟨c,C,rv,fr,fa,ps,at_,m,l,hS⟩:=id h
  obtain⟨av,ho,_⟩:=m.own
  refine⟨_,_,aZ,ptr c,rfl,fI (off:=0) (by kernel_rfl) (ae ho) rfl,(iT m.cells x).mono ?_⟩
  rintro v H' ⟨_,f,hv⟩
  exact⟨⟨st,h.fresh f⟩,f,hv⟩
theorem EJ(n:Nat)(d:Int):wG (.iface 194 (ptr n)) (fun H S w=>∃st,cZ H n S d st w) where
 slt:=by rintro H S w ⟨st,h⟩;exact h.slt
 ext:=by rintro H H' S w T ⟨st,h⟩ e hd;exact⟨st,h.ext e hd⟩
 cells:=by
  rintro H S w ⟨st,c,C,rv,fp,rs,m,l,hS⟩
  exact⟨c,C,st,m.cells⟩
 has:=by
  rintro H S w g ⟨st,c,C,rv,fp,rs,m,l,hS⟩
  exact⟨_,_,bz,ptr c,rfl,fI (off:=0) (by kernel_rfl) (ae m.own) rfl,(gM m.cells g).mono fun v H' hp=>hp⟩
 make:=by
  rintro H S w ⟨st,h⟩
  refine⟨_,_,og,ptr n,rfl,bv (by kernel_rfl),(EI h).mono ?_⟩
  rintro v H' (⟨h1,rfl,rfl⟩| ⟨h1,rfl,S',h2,h3,h4⟩)
  ·exact .inl ⟨h1,rfl,cr.same ⟨st,h⟩ (ag.refl _ _)⟩
  ·exact .inr ⟨h1,rfl,S',⟨_,h2⟩,h3,h4⟩
 insert:=by
  rintro H S w g x k s ⟨st,h⟩
  refine⟨_,_,lW,ptr n,rfl,bv (by kernel_rfl),(BL h g x k s).mono ?_⟩
  rintro v H' (⟨h1,rfl,h2,h3⟩| ⟨h1,rfl,S',q,h2,_,h3,h4,h5⟩)
  ·exact .inl ⟨h1,rfl,cr.same ⟨st,h2⟩ h3⟩
  ·exact .inr ⟨h1,rfl,S',⟨_,h3⟩,h4,h5⟩
 min:=by
  rintro H S w g ⟨st,h⟩
  refine⟨_,_,qQ,ptr n,rfl,bv (by kernel_rfl),(wK h g).mono ?_⟩
  rintro v H' ⟨h1,rfl⟩
  have hn:=cr.same (I:=fun H S w=>∃st,cZ H n S d st w) ⟨st,h⟩ (ag.refl S H)
  obtain⟨c,C,rv,fp,rs,m,l,hS⟩:=h
  rcases h1 with ⟨h1,rfl⟩| ⟨h1,h2,rfl⟩| ⟨h1,x,h2,h3,rfl,h4⟩
  ·refine .inl ⟨Nw.Gr.2 ?_,rfl,hn⟩
   by_cases hg:g≤0
   ·exact .inl hg
   ·refine .inr fun i c hc e=>h1 ⟨by omega,?_⟩
    have:=m.cells.live c (ang hc) (by omega)
    rwa[e]at this
  ·exact .inl ⟨h2,rfl,hn⟩
  ·exact .inr ⟨x,⟨by have:=h1.1;omega,h2.1,h3,h4⟩,rfl,hn⟩
 extract:=by
  rintro H S w g ⟨st,h⟩
  refine⟨_,_,kZ,ptr n,rfl,bv (by kernel_rfl),(zY h g).mono ?_⟩
  rintro v H' (⟨h1,rfl,rfl⟩| ⟨h1,x,h2,h3,h4,rfl,q,hq,S',h5,h6,h7⟩)
  ·have hn:=cr.same (I:=fun H S w=>∃st,cZ H n S d st w) ⟨st,h⟩ (ag.refl S H)
   obtain⟨c,C,rv,fp,rs,m,l,hS⟩:=h
   rcases h1 with h1| ⟨_,h1⟩
   ·refine .inl ⟨Nw.Gr.2 ?_,rfl,hn⟩
    by_cases hg:g≤0
    ·exact .inl hg
    ·refine .inr fun i c hc e=>h1 ⟨by omega,?_⟩
     have:=m.cells.live c (ang hc) (by omega)
     rwa[e]at this
   ·exact .inl ⟨h1,rfl,hn⟩
  ·exact .inr ⟨x,⟨by have:=h1.1;omega,h2.1,h3,h4⟩,rfl,S',⟨_,h5⟩,h6,h7⟩
 kq:=by
  rintro H S w x k s ⟨st,h⟩
  refine⟨_,_,jU,ptr n,rfl,bv (by kernel_rfl),(ye h x k s).mono ?_⟩
  rintro v H' (⟨h1,rfl,h2,h3⟩| ⟨h1,y,hy,h2,rfl,q,hq,S',h3,h4,h5⟩)
  ·exact .inl ⟨h1,rfl,cr.same ⟨st,h2⟩ (h3.mono fun _ _ h=>h.elim)⟩
  ·exact .inr ⟨⟨h1,fun z hz=>by rw[hy]at hz;injection hz with hz;rw[←hz];exact h2⟩,rfl,y,hy,S',⟨_,h3⟩,h4,h5⟩
 entry:=by
  rintro H S w x ⟨st,h⟩
  obtain⟨c,C,rv,fp,rs,m,l,hS⟩:=id h
  refine⟨_,_,aZ,ptr c,rfl,fI (off:=0) (by kernel_rfl) (ae m.own) rfl,(iT m.cells x).mono ?_⟩
  rintro v H' ⟨_,f,hv⟩
  exact⟨⟨st,h.fresh f⟩,f,hv⟩
structure fK(H:Hp)(r nb pb:Nat)(N P:List Int):Prop where
 own:H.own r=some [.slice (some ⟨nb,0,none⟩) N.length N.length,.slice (some ⟨pb,0,none⟩) P.length P.length]
 Nx:H.own nb=some (N.map i64)
 Uo:H.own pb=some (P.map i64)
 len:P.length=N.length
 ne:r≠nb∧r≠pb∧nb≠pb
def bZ(N:List Int)(x:Int):Int:=if 0≤x∧x<N.length then N.getD x.toNat 0 else x
theorem EK{N:List Int}{x:Int}(hx:0≤x∧x<N.length):N[x.toNat]? =some (bZ N x):=by
 unfold bZ
 rw[if_pos hx,anf]
 obtain⟨y,hy⟩:∃y,N[x.toNat]? =some y:=⟨_,am8 (by omega)⟩
 rw[hy];rfl
theorem VX{N:List Int}{x:Int}(hx:¬ (0≤x∧x<N.length)):bZ N x=x:=by unfold bZ;rw[if_neg hx]
theorem Dz{N:List Int}{x:Int}(hx:0≤x∧x<N.length)(v z:Int):bZ (N.set x.toNat v) z=if z=x then v else bZ N z:=by
 unfold bZ
 rw[anb]
 by_cases hz:z=x
 ·rw[if_pos hz,hz,if_pos hx,anf,ani (by omega)];rfl
 ·rw[if_neg hz]
  split
  ·rw[anf,anh (by omega),anf]
  ·rfl
theorem Mi{N P:List Int}(h:yK (bZ N) (bZ P)){x:Int}(hx:0≤x∧x<N.length):0≤bZ N x∧bZ N x<N.length:=by
 apply anC
 intro hn
 have h1:=VX hn
 have h2:bZ N x=x:=by
  have:=h.pn (bZ N x)
  rw[h1]at this
  have h3:=h.pn x
  rw[this]at h3
  exact h3
 rw[h2]at hn
 exact hn hx
section
variable {H H' : Hp} {r nb pb : Nat} {N P : List Int} {T : Nat → Prop}
theorem fK.ext(h:fK H r nb pb N P)(e:ag T H H')(h1:¬T r)(h2:¬T nb)(h3:¬T pb):fK H' r nb pb N P:=⟨e.own h.own h1,e.own h.Nx h2,e.own h.Uo h3,h.len,h.ne⟩
theorem gH(h:fK H r nb pb N P)(x:Int):af Tryz.prog AU [ptr r,i64 x] H fun v H'=>ar (v= .bool (decide (0≤x∧x<N.length))∧H'=H):=by
 refine aP Bf ?_
 refine vs ?_
 refine ak.dec (fun h0=>?_) (fun h0=>?_)<;>refine v1 (ae h.own) ?_
 ·refine⟨?_,rfl⟩
  rw[show(decide (0≤x∧x< (N.length:Int)))=decide (x< (N.length:Int)) by simp[h0]]
  rfl
 ·refine⟨?_,rfl⟩
  rw[anD (fun h=>h0 h.1)]
  rfl
theorem EL(h:fK H r nb pb N P){x:Int}(hx:0≤x∧x<N.length):af Tryz.prog yV [ptr r,i64 x] H fun v H'=>ar (v= .tuple [i64 (bZ N x),.bool true].toArray∧H'=H):=by
 refine aP zq ?_
 refine vs ?_
 refine(gH h x).mono ?_
 rintro _ H' ⟨rfl,e⟩
 obtain rfl:=e.symm
 rw[anp hx]
 have hn:(N.map i64)[x.toNat]? =some (i64 (bZ N x)):=by rw[anA,EK hx];rfl
 refine v1 (ae h.own) ?_
 refine⟨⟨by omega,by omega⟩,?_⟩
 refine v4 (ae h.Nx) am9 ane hn ?_
 exact⟨rfl,rfl⟩
theorem de(h:fK H r nb pb N P)(hi:yK (bZ N) (bZ P)){x y:Int}(hx:0≤x∧x<N.length)(hy:0≤y∧y<N.length):af Tryz.prog uW [ptr r,i64 x,i64 y] H fun v H'=>ar (v= .bool true∧
  ∃N' P',fK H' r nb pb N' P'∧N'.length=N.length∧bZ N'=wR (bZ N) x y∧yK (bZ N') (bZ P')∧ag (fun z=>z=nb∨z=pb) H H'):=by
 refine aP vE ?_
 refine vs ?_
 refine(gH h x).mono ?_
 rintro _ H' ⟨rfl,e⟩
 obtain rfl:=e.symm
 rw[anp hx]
 refine vs ?_
 refine(gH h y).mono ?_
 rintro _ H' ⟨rfl,e⟩
 obtain rfl:=e.symm
 rw[anp hy]
 have I6:(N.map i64)[x.toNat]? =some (i64 (bZ N x)):=by rw[anA,EK hx];rfl
 have hny:(N.map i64)[y.toNat]? =some (i64 (bZ N y)):=by rw[anA,EK hy];rfl
 obtain⟨a0,a1⟩:=Mi hi hx
 obtain⟨b0,b1⟩:=Mi hi hy
 obtain⟨d1,d2,d3⟩:=h.ne
 have hl:=h.len
 refine v1 (ae h.own) ?_
 refine⟨⟨by omega,by omega⟩,?_⟩
 refine v5 (ae h.Nx) (ae h.own) am9 ane I6 ?_
 refine⟨⟨by omega,by omega⟩,?_⟩
 refine v5 (ae h.Nx) (ae h.own) am9 ane hny ?_
 refine⟨⟨by omega,by omega⟩,?_⟩
 refine v3 h.Nx am9 ane ?_
 refine⟨by rw[anz];omega,?_⟩
 refine vs ?_
 have e1:ag (fun z=>z=nb) H (H.wr nb ((N.map i64).set x.toNat (i64 (bZ N y)))):=(ag.refl (fun z=>z=nb) _).wr (fun _=>rfl) _
 have q1:(H.wr nb ((N.map i64).set x.toNat (i64 (bZ N y)))).own nb=some ((N.map i64).set x.toNat (i64 (bZ N y))):=ai h.Nx
 generalize H.wr nb ((N.map i64).set x.toNat (i64 (bZ N y)))=H1 at*
 refine⟨⟨by omega,by omega⟩,?_⟩
 refine v3 q1 am9 ane ?_
 refine⟨by rw[anb,anz];omega,?_⟩
 refine vs ?_
 have e2:ag (fun z=>z=nb) H1 (H1.wr nb (((N.map i64).set x.toNat (i64 (bZ N y))).set y.toNat (i64 (bZ N x)))):=(ag.refl (fun z=>z=nb) _).wr (fun _=>rfl) _
 have q2:(H1.wr nb (((N.map i64).set x.toNat (i64 (bZ N y))).set y.toNat (i64 (bZ N x)))).own nb=some (((N.map i64).set x.toNat (i64 (bZ N y))).set y.toNat (i64 (bZ N x))):=ai q1
 generalize H1.wr nb (((N.map i64).set x.toNat (i64 (bZ N y))).set y.toNat (i64 (bZ N x)))=H2 at*
 have nT:=e1.trans e2
 have o2:=nT.own h.own d1
 have p2:=nT.own h.Uo (Ne.symm d3)
 have o1:=e1.own h.own d1
 refine v2 (ae o1) (ae o2) ?_
 refine⟨⟨by omega,by omega⟩,?_⟩
 refine v3 p2 am9 ane ?_
 refine⟨by rw[anz];omega,?_⟩
 refine vs ?_
 have e3:ag (fun z=>z=pb) H2 (H2.wr pb ((P.map i64).set (bZ N y).toNat (i64 x))):=(ag.refl (fun z=>z=pb) _).wr (fun _=>rfl) _
 have q3:(H2.wr pb ((P.map i64).set (bZ N y).toNat (i64 x))).own pb=some ((P.map i64).set (bZ N y).toNat (i64 x)):=ai p2
 generalize H2.wr pb ((P.map i64).set (bZ N y).toNat (i64 x))=H3 at*
 refine⟨⟨by omega,by omega⟩,?_⟩
 refine v3 q3 am9 ane ?_
 refine⟨by rw[anb,anz];omega,?_⟩
 refine vs ?_
 have e4:ag (fun z=>z=pb) H3 (H3.wr pb (((P.map i64).set (bZ N y).toNat (i64 x)).set (bZ N x).toNat (i64 y))):=(ag.refl (fun z=>z=pb) _).wr (fun _=>rfl) _
 have q4:(H3.wr pb (((P.map i64).set (bZ N y).toNat (i64 x)).set (bZ N x).toNat (i64 y))).own pb=some (((P.map i64).set (bZ N y).toNat (i64 x)).set (bZ N x).toNat (i64 y)):=ai q3
 have VY:=e3.trans e4
 have nf:bZ ((N.set x.toNat (bZ N y)).set y.toNat (bZ N x))=wR (bZ N) x y:=by
  funext z
  rw[Dz (by rw[anb];exact hy),Dz hx]
  unfold wR
  by_cases h1:z=x
  ·rw[if_pos h1]
   by_cases h2:z=y
   ·rw[if_pos h2,←h2,h1];simp
   ·rw[if_neg h2,if_pos h1]
  ·rw[if_neg h1,if_neg h1]
 have pf:bZ ((P.set (bZ N y).toNat x).set (bZ N x).toNat y)=Ss (bZ N) (bZ P) x y:=by
  funext z
  rw[Dz (by rw[anb];omega),Dz (by omega)]
  rfl
 refine⟨rfl,(N.set x.toNat (bZ N y)).set y.toNat (bZ N x),(P.set (bZ N y).toNat x).set (bZ N x).toNat y,⟨?_,?_,?_,by simp[hl],h.ne⟩,by simp,nf,?_,(nT.mono fun z _ h=>.inl h).trans (VY.mono fun z _ h=>.inr h)⟩
 ·rw[anb,anb,anb,anb]
  exact VY.own o2 d2
 ·rw[anY,anY]
  exact VY.own q2 d3
 ·rw[anY,anY]
  exact q4
 ·rw[nf,pf]
  exact hi.wR x y
theorem mC(h:fK H r nb pb N P)(hi:yK (bZ N) (bZ P)){x:Int}(hx:0≤x∧x<N.length):af Tryz.prog yU [ptr r,i64 x] H fun v H'=>ar (v= .bool true∧
  ∃N' P',fK H' r nb pb N' P'∧N'.length=N.length∧bZ N'=wR (bZ N) x (bZ P x)∧yK (bZ N') (bZ P')∧ag (fun z=>z=nb∨z=pb) H H'):=by
 have ly:yK (bZ P) (bZ N):=⟨hi.np,hi.pn⟩
 have hl:=h.len
 have dA:=Mi ly (x:=x) (by omega)
 have hp:(P.map i64)[x.toNat]? =some (i64 (bZ P x)):=by rw[anA,EK (by omega)];rfl
 refine aP zp ?_
 refine vs ?_
 refine(gH h x).mono ?_
 rintro _ H' ⟨rfl,e⟩
 obtain rfl:=e.symm
 rw[anp hx]
 refine v1 (ae h.own) ?_
 refine⟨⟨by omega,by omega⟩,?_⟩
 refine v4 (ae h.Uo) am9 ane hp ?_
 refine(de h hi hx (y:=bZ P x) (by omega)).mono ?_
 rintro _ H1 ⟨rfl,h1⟩
 refine vs ?_
 exact⟨rfl,h1⟩
theorem nI(h:fK H r nb pb N P){x:Int}{A:List Int}(hc:ub (bZ N) (x::A))(hn:(x::A).Nodup)(hx:∀c∈x::A,0≤c∧c<N.length)(hN:N.length≤65536):af Tryz.prog AT [ptr r,i64 x] H fun v H'=>ar (∃b,
  Sl H' 1 v (x::A).length ((x::A).map i64) (some b)∧H.size≤b∧ah H H'):=by
 have fO:=hx x (by simp)
 have aV:=bU hn hx
 have eD:r<H.size∧nb<H.size∧pb<H.size:=⟨az h.own,az h.Nx,az h.Uo⟩
 have rdn:∀ {z:Int},0≤z∧z<N.length→(N.map i64)[z.toNat]? =some (i64 (bZ N z)):=fun hz=>by rw[anA,EK hz];rfl
 refine aP Be ?_
 refine vs ?_
 refine(gH h x).mono ?_
 rintro _ H' ⟨rfl,e⟩
 obtain rfl:=e.symm
 rw[anp fO]
 refine vs ?_
 have f0:ah H (H.new 3 [i64 x]):=(ag.refl _ _).new _ _
 have s0:Sl (H.new 3 [i64 x]) 1 (.slice (some ⟨H.size,0,none⟩) 1 1) [x].length ([x].map i64) (some H.size):=Sl.bP (size:=1) (n:=1) (xs:=[i64 x]) rfl rfl
 have h0:=h.ext f0 (fun h=>h) (fun h=>h) (fun h=>h)
 generalize H.new 3 [i64 x]=H0 at*
 refine v2 (ae h0.own) (ae h.own) ?_
 refine⟨⟨by omega,by omega⟩,?_⟩
 refine v5 (ae h0.Nx) (ae h.Nx) am9 ane (rdn fO) ?_
 have hp:lC (bZ N) x A x:=hc
 have hd:∀ {a z:Int} {l:List Int},lC (bZ N) a l z→bZ N a=l.headD z:=fun{a z l} h=>by
  cases l with
  |nil=>exact h
  |cons b l=>exact h.1
 refine aT.intro (fun mm env H'=>∃ (d s:List Int) (wv:Value) (b:Nat),mm=s.length∧A=d++s∧fK H' r nb pb N P∧H.size≤b∧Sl H' 1 wv (x::d).length ((x::d).map i64) (some b)∧ag (fun z=>H.size≤z) H H'∧
  env=[(0,ptr r),(1,i64 x),(5,wv),(6,i64 (s.headD x))]) _ ⟨[],A,_,H.size,rfl,rfl,h0,ano _,s0,f0.mono fun _ _ h=>h.elim,by rw[hd hp]⟩ ?_
 rintro mm env H1 ⟨d,s,wv,b,rfl,X7,h1,hb,s1,e1,rfl⟩
 have z1:=e1.size
 refine vs ?_
 cases s with
 |nil=>
  refine ak.dec (fun _=>?_) (fun h=>absurd rfl h)
  refine vs ?_
  rw[an7]at X7
  subst X7
  exact⟨b,s1,hb,e1.mono fun z hz h=>by omega⟩
 |cons c s=>
  have D7:c∈A:=by rw[X7];simp
  have eU:=hx c (anK _ D7)
  have OH:c≠x:=fun e=>(anu.1 hn).1 (by rw[←e];exact D7)
  have ny:d.length+(s.length+1)=A.length:=by rw[X7,ank,anw]
  rw[anw]at aV
  refine ak.dec (fun h=>absurd h OH) (fun _=>?_)
  refine vs ?_
  refine G7 (B:=H.size) hb (by omega) s1 c (by rw[anw];omega) fun w' H2 b' jz s2 e2=>?_
  refine vs ?_
  have h2:=h1.ext e2 (by omega) (by omega) (by omega)
  simp(disch:=(first|omega| (simp only[Zs]<;>omega)|fail)) only[go_sem, ↓reduceIte,Zv,ae h2.own,List.headD_cons]
  refine⟨⟨by omega,by omega⟩,?_⟩
  refine v4 (ae h2.Nx) am9 ane (rdn eU) ?_
  have I6:bZ N c=s.headD x:=hd (lC.XP.1 (by rw[←X7];exact hp)).2
  exact⟨s.length,by simp,d++[c],s,w',b',rfl,by rw[X7];simp,h2,jz,s2,e1.trans e2,by rw[I6]⟩
end
end Go.Proofs.YtjlnnljohemifaaGreat

namespace Go.Proofs.YtjlnnljohemifaaGreat
open Go Go.Vc
structure Pc where
 u:Int
 k:Int
 d:Int
 m:Bool
def Ny(y:Pc):List Value:=[i64 y.u,i64 y.k,i64 y.d,.bool y.m]
def aH(L:List Pc):List Value:=L.flatMap Ny
theorem Mj(L:List Pc):(aH L).length=L.length*4:=by
 induction L with
 |nil=>rfl
 |cons c r ih=>simp only[aH,aoR,ank,Ny,anw,aoi]at*;omega
theorem ZZ{L:List Pc}{i:Nat}{y:Pc}(hi:L[i]? =some y):(aH L)[i*4]? =some (i64 y.u)∧(aH L)[i*4+1]? =some (i64 y.k)∧(aH L)[i*4+2]? =some (i64 y.d)∧(aH L)[i*4+3]? =some (.bool y.m):=by
 induction L generalizing i with
 |nil=>simp at hi
 |cons a r ih=>
  have e:aH (a::r)=i64 a.u::i64 a.k::i64 a.d:: .bool a.m::aH r:=rfl
  rw[e]
  cases i with
  |zero=>simp at hi;subst hi;exact⟨rfl,rfl,rfl,rfl⟩
  |succ i=>
   have:=ih (by simpa using hi)
   rw[show(i+1)*4=i*4+4 by omega]
   exact this
theorem mD{L:List Pc}{i:Nat}{y:Pc}(hi:L[i]? =some y):(∀v,(aH L).set (i*4) (i64 v)=aH (L.set i ⟨v,y.k,y.d,y.m⟩))∧(∀v,(aH L).set (i*4+1) (i64 v)=aH (L.set i ⟨y.u,v,y.d,y.m⟩))∧
  (∀v,(aH L).set (i*4+2) (i64 v)=aH (L.set i ⟨y.u,y.k,v,y.m⟩))∧(∀v,(aH L).set (i*4+3) (.bool v)=aH (L.set i ⟨y.u,y.k,y.d,v⟩))∧
  (∀z:Pc,bf (aH L) (i*4) [i64 z.u,i64 z.k,i64 z.d,.bool z.m]=aH (L.set i z)):=by
 induction L generalizing i with
 |nil=>simp at hi
 |cons a r ih=>
  have e:aH (a::r)=i64 a.u::i64 a.k::i64 a.d:: .bool a.m::aH r:=rfl
  cases i with
  |zero=>simp at hi;subst hi;exact⟨fun _=>rfl,fun _=>rfl,fun _=>rfl,fun _=>rfl,fun _=>rfl⟩
  |succ i=>
   obtain⟨h1,h2,h3,h4,h5⟩:=ih (by simpa using hi)
   have e2:∀z:Pc,aH ((a::r).set (i+1) z)=i64 a.u::i64 a.k::i64 a.d:: .bool a.m::aH (r.set i z):=fun _=>rfl
   refine⟨fun v=>?_,fun v=>?_,fun v=>?_,fun v=>?_,fun z=>?_⟩
   ·rw[e,e2,show(i+1)*4=i*4+1+1+1+1 by omega]
    simp only[anV]
    rw[h1]
   ·rw[e,e2,show(i+1)*4+1=i*4+1+1+1+1+1 by omega]
    simp only[anV]
    rw[h2]
   ·rw[e,e2,show(i+1)*4+2=i*4+2+1+1+1+1 by omega]
    simp only[anV]
    rw[h3]
   ·rw[e,e2,show(i+1)*4+3=i*4+3+1+1+1+1 by omega]
    simp only[anV]
    rw[h4]
   ·have h5:=h5 z
    simp only[bf]at h5 ⊢
    rw[e,e2,show(i+1)*4=i*4+1+1+1+1 by omega]
    simp only[anV]
    rw[h5]
def mP:Pc:=⟨-1, -1,0,false⟩
def ep(L:List Pc)(x:Int):Pc:=if 0≤x then(L[x.toNat]?).getD mP else mP
theorem EM{L:List Pc}{x:Int}{y:Pc}(h0:0≤x)(h:L[x.toNat]? =some y):ep L x=y:=by unfold ep;rw[if_pos h0,h];rfl
def lK(f:Int→Pc)(x:Int)(y:Pc):Int→Pc:=fun z=>if z=x then y else f z
theorem zZ{L:List Pc}{x:Int}(hx:0≤x∧x<L.length)(y:Pc):ep (L.set x.toNat y)=lK (ep L) x y:=by
 funext z
 show ep (L.set x.toNat y) z=if z=x then y else ep L z
 by_cases hz:z=x
 ·rw[if_pos hz,hz]
  unfold ep
  rw[if_pos hx.1,ani (by omega)];rfl
 ·rw[if_neg hz]
  unfold ep
  split
  ·rw[anh (by omega)]
  ·rfl
structure FB where
 n:Nat
 c:Nat
 r:Nat
 nb:Nat
 pb:Nat
 tb:Nat
 tp:Nat
def FB.S(B:FB)(C:Nat→Prop)(z:Nat):Prop:=C z∨z=B.n∨z=B.r∨z=B.nb∨z=B.pb∨z=B.tb∨z=B.tp
structure bR(H:Hp)(B:FB)(C:Nat→Prop)(w:Nw)(N P:List Int)(L:List Pc)(tops:List Int):Prop where
 own:∃tv,H.own B.n=some [ptr B.c,ptr B.r,.slice (some ⟨B.tb,0,none⟩) L.length L.length,tv]∧Sl H 1 tv tops.length (tops.map i64) (some B.tp)
 cells:CQ H B.c C w
 ring:fK H B.r B.nb B.pb N P
 inv:yK (bZ N) (bZ P)
 places:H.own B.tb=some (aH L)
 len:L.length=w.cs.length∧N.length=w.cs.length
 lj:(B.n≠B.r∧B.n≠B.nb∧B.n≠B.pb∧B.n≠B.tb∧B.n≠B.tp)∧(B.tb≠B.r∧B.tb≠B.nb∧B.tb≠B.pb∧B.tb≠B.tp)∧(B.tp≠B.r∧B.tp≠B.nb∧B.tp≠B.pb)
 out:¬C B.n∧¬C B.r∧¬C B.nb∧¬C B.pb∧¬C B.tb∧¬C B.tp
section
variable {H H' : Hp} {B : FB} {C V : Nat → Prop} {w w' : Nw} {N P N' P' : List Int} {L L' : List Pc} {tops : List Int}
theorem bR.slt(h:bR H B C w N P L tops):∀z,B.S C z→z<H.size:=by
 obtain⟨tv,h1,h2⟩:=h.own
 rintro z (hz|rfl|rfl|rfl|rfl|rfl|rfl)
 ·exact h.cells.slt z hz
 ·exact az h1
 ·exact az h.ring.own
 ·exact az h.ring.Nx
 ·exact az h.ring.Uo
 ·exact az h.places
 ·exact h2.lt
theorem bR.ext(h:bR H B C w N P L tops)(e:ag V H H')(hd:∀z,B.S C z→¬V z):bR H' B C w N P L tops:=by
 obtain⟨tv,h1,h2⟩:=h.own
 exact⟨⟨tv,e.own h1 (hd _ (.inr (.inl rfl))),h2.ext e (fun b hb=>by injection hb with hb;exact hb▸hd _ (.inr (.inr (.inr (.inr (.inr (.inr rfl)))))))⟩,h.cells.ext e (fun x hx=>hd x (.inl hx)),
  h.ring.ext e (hd _ (.inr (.inr (.inl rfl)))) (hd _ (.inr (.inr (.inr (.inl rfl))))) (hd _ (.inr (.inr (.inr (.inr (.inl rfl)))))),h.inv,e.own h.places (hd _ (.inr (.inr (.inr (.inr (.inr (.inl rfl))))))),h.len,h.lj,h.out⟩
theorem bR.fresh(h:bR H B C w N P L tops)(e:ah H H'):bR H' B C w N P L tops:=h.ext e fun _ _ h=>h
theorem bR.aG(h:bR H B C w N P L tops)(c1:CQ H' B.c C w')(e:ag C H H')(hl:w'.cs.length=w.cs.length):bR H' B C w' N P L tops:=by
 obtain⟨tv,h1,h2⟩:=h.own
 obtain⟨o1,o2,o3,o4,o5,o6⟩:=h.out
 exact⟨⟨tv,e.own h1 o1,h2.ext e (fun b hb=>by injection hb with hb;exact hb▸o6)⟩,c1,h.ring.ext e o2 o3 o4,h.inv,e.own h.places o5,by rw[hl];exact h.len,h.lj,h.out⟩
theorem bR.tw(h:bR H B C w N P L tops)(r1:fK H' B.r B.nb B.pb N' P')(hi:yK (bZ N') (bZ P'))(e:ag (fun z=>z=B.nb∨z=B.pb) H H')(hl:N'.length=N.length):bR H' B C w N' P' L tops:=by
 obtain⟨tv,h1,h2⟩:=h.own
 obtain⟨o1,o2,o3,o4,o5,o6⟩:=h.out
 obtain⟨⟨d1,d2,d3,d4,d5⟩,⟨d6,d7,d8,d9⟩,⟨d10,d11,d12⟩⟩:=h.lj
 exact⟨⟨tv,e.own h1 (by omega),h2.ext e (fun b hb=>by injection hb with hb;omega)⟩,h.cells.ext e (fun x hx hz=>by rcases hz with hz|hz;exact o3 (hz▸hx);exact o4 (hz▸hx)),r1,hi,e.own h.places (by omega),by rw[hl];exact h.len,h.lj,h.out⟩
theorem bR.QN(h:bR H B C w N P L tops)(hl:L'.length=L.length):bR (H.wr B.tb (aH L')) B C w N P L' tops∧ag (fun z=>z=B.tb) H (H.wr B.tb (aH L')):=by
 obtain⟨tv,h1,h2⟩:=h.own
 obtain⟨o1,o2,o3,o4,o5,o6⟩:=h.out
 obtain⟨⟨d1,d2,d3,d4,d5⟩,⟨d6,d7,d8,d9⟩,⟨d10,d11,d12⟩⟩:=h.lj
 have e:ag (fun z=>z=B.tb) H (H.wr B.tb (aH L')):=(ag.refl (fun z=>z=B.tb) _).wr (fun _=>rfl) _
 exact⟨⟨⟨tv,by rw[hl];exact e.own h1 d4,h2.ext e (fun b hb=>by injection hb with hb;omega)⟩,h.cells.ext e (fun x hx hz=>o5 (hz▸hx)),h.ring.ext e (Ne.symm d6) (Ne.symm d7) (Ne.symm d8),h.inv,ai h.places,by rw[hl];exact h.len,h.lj,h.out⟩,e⟩
theorem bR.fG(h:bR H B C w N P L tops):∃c l,H.own B.n=some [ptr B.c,ptr B.r,.slice (some ⟨B.tb,0,none⟩) L.length L.length,.slice (some ⟨B.tp,0,none⟩) tops.length c]∧H.own B.tp=some l∧tops.length≤c∧c≤l.length∧l.take tops.length=tops.map i64:=by
 obtain⟨tv,h1,_,l,c,rfl,h3,h4,h5,h6⟩:=h.own
 rw[ane]at h5 h6
 exact⟨c,l,h1,h3,h4,h5,h6⟩
theorem bR.eC(h:bR H B C w N P L tops){l:List Value}(hl:H.own B.tp=some l){i:Nat}{x:Int}(hx:tops[i]? =some x):l[i]? =some (i64 x):=by
 obtain⟨c,l',_,h2,_,_,h5⟩:=h.fG
 rw[hl]at h2
 injection h2 with h2
 subst h2
 have h7:(tops.map i64)[i]? =some (i64 x):=by rw[anA,hx];rfl
 rw[←h5,anP]at h7
 split at h7
 ·exact h7
 ·cases h7
theorem bR.kj(h:bR H B C w N P L tops){l:List Value}(hl:H.own B.tp=some l)(i:Nat)(v:Int):bR (H.wr B.tp (l.set i (i64 v))) B C w N P L (tops.set i v)∧ag (fun z=>z=B.tp) H (H.wr B.tp (l.set i (i64 v))):=by
 obtain⟨c,l',h1,h2,h3,h4,h5⟩:=h.fG
 rw[hl]at h2
 injection h2 with h2
 subst h2
 obtain⟨o1,o2,o3,o4,o5,o6⟩:=h.out
 obtain⟨⟨d1,d2,d3,d4,d5⟩,⟨d6,d7,d8,d9⟩,⟨d10,d11,d12⟩⟩:=h.lj
 have e:ag (fun z=>z=B.tp) H (H.wr B.tp (l.set i (i64 v))):=(ag.refl (fun z=>z=B.tp) _).wr (fun _=>rfl) _
 refine⟨⟨⟨_,e.own h1 d5,?_⟩,h.cells.ext e (fun x hx hz=>o6 (hz▸hx)),h.ring.ext e (Ne.symm d10) (Ne.symm d11) (Ne.symm d12),h.inv,e.own h.places d9,h.len,h.lj,h.out⟩,e⟩
 refine⟨by simp,l.set i (i64 v),c,by rw[anb],ai hl,by rw[anb];exact h3,by rw[anb,ane];exact h4,?_⟩
 rw[anb,ane,ui,h5,anY]
theorem bR.rd(h:bR H B C w N P L tops){x:Int}(hx:0≤x∧x<w.cs.length):x.toNat*4+3< (aH L).length∧(aH L)[x.toNat*4]? =some (i64 (ep L x).u)∧(aH L)[x.toNat*4+1]? =some (i64 (ep L x).k)∧
  (aH L)[x.toNat*4+2]? =some (i64 (ep L x).d)∧(aH L)[x.toNat*4+3]? =some (.bool (ep L x).m):=by
 have hl:=h.len
 have hf:=Mj L
 obtain⟨y,hy⟩:∃y,L[x.toNat]? =some y:=⟨_,am8 (by omega)⟩
 obtain⟨h1,h2,h3,h4⟩:=ZZ hy
 rw[EM hx.1 hy]
 exact⟨by omega,h1,h2,h3,h4⟩
theorem bR.aE(h:bR H B C w N P L tops){x:Int}(hx:0≤x∧x<w.cs.length)(v:Int):∃L',ep L'=lK (ep L) x ⟨v,(ep L x).k,(ep L x).d,(ep L x).m⟩∧bR (H.wr B.tb ((aH L).set (x.toNat*4) (i64 v))) B C w N P L' tops∧ag (fun z=>z=B.tb) H (H.wr B.tb ((aH L).set (x.toNat*4) (i64 v))):=by
 have hl:=h.len
 obtain⟨y,hy⟩:∃y,L[x.toNat]? =some y:=⟨_,am8 (by omega)⟩
 rw[EM hx.1 hy,(mD hy).1]
 exact⟨_,zZ (by omega) _,h.QN (anb ..)⟩
theorem bR.dW(h:bR H B C w N P L tops){x:Int}(hx:0≤x∧x<w.cs.length)(v:Int):∃L',ep L'=lK (ep L) x ⟨(ep L x).u,v,(ep L x).d,(ep L x).m⟩∧bR (H.wr B.tb ((aH L).set (x.toNat*4+1) (i64 v))) B C w N P L' tops∧ag (fun z=>z=B.tb) H (H.wr B.tb ((aH L).set (x.toNat*4+1) (i64 v))):=by
 have hl:=h.len
 obtain⟨y,hy⟩:∃y,L[x.toNat]? =some y:=⟨_,am8 (by omega)⟩
 rw[EM hx.1 hy,(mD hy).2.1]
 exact⟨_,zZ (by omega) _,h.QN (anb ..)⟩
theorem bR.VZ(h:bR H B C w N P L tops){x:Int}(hx:0≤x∧x<w.cs.length)(v:Int):∃L',ep L'=lK (ep L) x ⟨(ep L x).u,(ep L x).k,v,(ep L x).m⟩∧bR (H.wr B.tb ((aH L).set (x.toNat*4+2) (i64 v))) B C w N P L' tops∧ag (fun z=>z=B.tb) H (H.wr B.tb ((aH L).set (x.toNat*4+2) (i64 v))):=by
 have hl:=h.len
 obtain⟨y,hy⟩:∃y,L[x.toNat]? =some y:=⟨_,am8 (by omega)⟩
 rw[EM hx.1 hy,(mD hy).2.2.1]
 exact⟨_,zZ (by omega) _,h.QN (anb ..)⟩
theorem bR.cT(h:bR H B C w N P L tops){x:Int}(hx:0≤x∧x<w.cs.length)(v:Bool):∃L',ep L'=lK (ep L) x ⟨(ep L x).u,(ep L x).k,(ep L x).d,v⟩∧bR (H.wr B.tb ((aH L).set (x.toNat*4+3) (.bool v))) B C w N P L' tops∧ag (fun z=>z=B.tb) H (H.wr B.tb ((aH L).set (x.toNat*4+3) (.bool v))):=by
 have hl:=h.len
 obtain⟨y,hy⟩:∃y,L[x.toNat]? =some y:=⟨_,am8 (by omega)⟩
 rw[EM hx.1 hy,(mD hy).2.2.2.1]
 exact⟨_,zZ (by omega) _,h.QN (anb ..)⟩
theorem bR.Mk(h:bR H B C w N P L tops){x:Int}(hx:0≤x∧x<w.cs.length)(z:Pc):∃L',ep L'=lK (ep L) x z∧bR (H.wr B.tb (bf (aH L) (x.toNat*4) [i64 z.u,i64 z.k,i64 z.d,.bool z.m])) B C w N P L' tops∧ag (fun z=>z=B.tb) H (H.wr B.tb (bf (aH L) (x.toNat*4) [i64 z.u,i64 z.k,i64 z.d,.bool z.m])):=by
 have hl:=h.len
 obtain⟨y,hy⟩:∃y,L[x.toNat]? =some y:=⟨_,am8 (by omega)⟩
 rw[(mD hy).2.2.2.2]
 exact⟨_,zZ (by omega) _,h.QN (anb ..)⟩
end
end Go.Proofs.YtjlnnljohemifaaGreat

namespace Go.Proofs.YtjlnnljohemifaaGreat
open Go Go.Vc
def I8(f:Int→Pc)(ch:Int→List Int)(par:Int→Int):Prop:=∀x,(f x).u=par x∧(f x).k=(ch x).headD (-1)∧(f x).d=(ch x).length
section
variable {H H' : Hp} {B : FB} {C V : Nat → Prop} {w : Nw} {N P : List Int} {L : List Pc} {tops : List Int} {ch : Int → List Int} {par : Int → Int} {au : Int → List Int} {W : List Int}
theorem dI.QO{lt:Int→Int→Bool}{nx:Int→Int}(f:dI (aD w) lt nx ch par au W){x:Int}(hx:x∈W):0≤x∧x<w.cs.length:=by
 obtain⟨a,b,_⟩:=aC (f.wm x hx).2.2
 exact⟨a,b⟩
theorem dI.rin{lt:Int→Int→Bool}{nx:Int→Int}(f:dI (aD w) lt nx ch par au W){g x:Int}(hx:x∈au g):0≤x∧x<w.cs.length:=by
 obtain⟨h1,_,h2,_⟩:=f.rm g x hx
 obtain⟨a,b,_⟩:=aC (w:=w) (x:=x) (by omega)
 exact⟨a,b⟩
theorem dI.FC{lt:Int→Int→Bool}{nx:Int→Int}(f:dI (aD w) lt nx ch par au W){p x:Int}(hx:x∈ch p):0≤x∧x<w.cs.length:=by
 obtain⟨a,b,_⟩:=aC (f.pr.dn p x hx).2.2.2.1
 exact⟨a,b⟩
theorem wL(m:bR H B C w N P L tops){x g:Int}(f:dI (aD w) (aN w) (bZ N) ch par au (x::W))(hg:aD w x=g)(da:g<tops.length)(ht:bh tops g=(au g).headD (-1)):
  af Tryz.prog rG [ptr B.n,i64 g,i64 x] H fun v H'=>ar (∃N' P' EN l,bR H' B C w N' P' L EN∧EN.length=tops.length∧bh EN=iD (bh tops) g (l.headD (-1))∧
   dI (aD w) (aN w) (bZ N') ch par (aw au g l) W∧(l.headD (-1)=x∨(l.headD (-1)=bh tops g∧bh tops g≠ -1))∧l.headD (-1)≠ -1∧
   (x≠l.headD (-1)→aN w (l.headD (-1)) x=true)∧(bh tops g≠ -1→bh tops g≠l.headD (-1)→aN w (l.headD (-1)) (bh tops g)=true)∧ag (fun z=>C z∨z=B.nb∨z=B.pb∨z=B.tp) H H'):=by
 have hx:=f.QO (x:=x) (by simp)
 have Cg:=f.XQ (c:=x) (by simp)
 have PU:0<g:=by rw[←hg];exact(f.wm x (by simp)).2.2
 obtain⟨cc,lt,o1,q1,ue,qJ,Nq⟩:=m.fG
 have q2:=m.eC q1 (dL (tops:=tops) (h:=g) (by omega) da)
 have aV:=m.len
 refine aP rS ?_
 refine v1 (ae o1) ?_
 refine⟨⟨by omega,by omega⟩,?_⟩
 refine v4 (ae q1) am9 ane q2 ?_
 refine ak.dec (fun h0=>?_) (fun h0=>?_)<;>refine v1 (ae o1) ?_
 ·have hr:au g=[]:=by
   rw[h0]at ht
   cases hc:au g with
   |nil=>rfl
   |cons c r=>rw[hc]at ht;exact absurd ht.symm (f.rne (h:=g) (by rw[hc];simp))
  refine⟨⟨by omega,by omega⟩,?_⟩
  refine v3 q1 am9 ane ?_
  refine⟨by omega,?_⟩
  obtain⟨m2,e2⟩:=m.kj q1 g.toNat x
  refine vs ?_
  have f2:=f.Za (by rw[hg];exact hr)
  rw[hg]at f2
  exact⟨N,P,_,[x],m2,anb ..,ec (by omega) da x,f2,.inl rfl,Cg,fun h=>absurd rfl h,fun h=>absurd h0 h,e2.mono fun z _ h=>.inr (.inr (.inr h))⟩
 obtain⟨t,A,hr⟩:∃t A,au g=t::A:=by
  cases hc:au g with
  |nil=>rw[hc]at ht;exact absurd ht h0
  |cons c r=>exact⟨c,r,rfl⟩
 have htt:bh tops g=t:=by rw[ht,hr];rfl
 rw[htt]
 rw[htt]at q2
 have htr:=f.rin (g:=g) (x:=t) (by rw[hr];simp)
 have htn:=f.rne (c:=t) (h:=g) (by rw[hr];simp)
 have Y9:t≠x:=fun e=>(f.rm g t (by rw[hr];simp)).2.2.2 (by rw[e];simp)
 refine⟨⟨by omega,by omega⟩,?_⟩
 refine v4 (ae q1) am9 ane q2 ?_
 refine(de m.ring m.inv (x:=t) (y:=x) (by omega) (by omega)).mono ?_
 rintro _ H2 ⟨rfl,N2,P2,r2,l2,n2,i2,e2⟩
 have m2:=m.tw r2 i2 e2 l2
 have f2:=f.PS (t:=t) (A:=A) (by rw[hg];exact hr)
 rw[hg,←n2]at f2
 obtain⟨cc,lt2,o2,q3,_⟩:=m2.fG
 have q4:=m2.eC q3 (dL (tops:=tops) (h:=g) (by omega) da)
 rw[htt]at q4
 refine v1 (ae o2) ?_
 refine⟨⟨by omega,by omega⟩,?_⟩
 refine v4 (ae q3) am9 ane q4 ?_
 refine(cA m2.cells x t).mono ?_
 rintro _ H3 ⟨rfl,c3,e3⟩
 have m3:=m2.aG c3 e3 rfl
 have AC:=gF (w:=w) (a:=x) (b:=t) (by omega) (by have:=(f.rm g t (by rw[hr];simp)).1;omega)
 rw[AC]
 have C3:ag (fun z=>C z∨z=B.nb∨z=B.pb∨z=B.tp) H H3:=(e2.mono fun z _ h=>h.elim (fun h=>.inr (.inl h)) (fun h=>.inr (.inr (.inl h)))).trans (e3.mono fun z _ h=>.inl h)
 cases aK:aN w x t
 ·refine vs ?_
  have Sg:=((aq w).M8 t x Y9).resolve_right (by rw[aK];simp)
  refine⟨N2,P2,tops,t::x::A,m3,rfl,?_,f2,.inr ⟨rfl,htn⟩,htn,fun _=>Sg,fun _ h=>absurd rfl h,C3⟩
  funext z
  show bh tops z=if z=g then t else bh tops z
  split
  ·rename_i e;rw[e,htt]
  ·rfl
 ·obtain⟨cc,lt3,o3,q5,_,hc5,_⟩:=m3.fG
  have q6:=m3.eC q5 (dL (tops:=tops) (h:=g) (by omega) da)
  have oF:=(ana.1 q6).1
  refine v1 (ae o3) ?_
  refine⟨⟨by omega,by omega⟩,?_⟩
  refine v3 q5 am9 ane ?_
  refine⟨by omega,?_⟩
  obtain⟨m4,e4⟩:=m3.kj q5 g.toNat x
  refine vs ?_
  have f3:=f2.rA (g:=g) (l:=x::A++[t]) (by
   unfold aw
   rw[if_pos rfl]
   exact aoc (l₁:=[t]) (l₂:=x::A)) (by
   have:=f2.rc g
   unfold aw at this
   rw[if_pos rfl]at this
   exact ub.Y8 (l1:=[t]) (l2:=x::A) this)
  rw[dY]at f3
  exact⟨N2,P2,_,x::A++[t],m4,anb ..,ec (by omega) da x,f3,.inl rfl,Cg,fun h=>absurd rfl h,fun _ _=>aK,C3.trans (e4.mono fun z _ h=>.inr (.inr (.inr h)))⟩
theorem EO(m:bR H B C w N P L tops){x y:Int}(f:dI (aD w) (aN w) (bZ N) ch par au (x::y::W))(hp:I8 (ep L) ch par)(hh:aD w x=aD w y)(hl:aN w x y=true):
  af Tryz.prog pH [ptr B.n,i64 y,i64 x] H fun v H'=>ar (∃N' P' L' dH bB,bR H' B C w N' P' L' tops∧dI (aD w) (aN w) (bZ N') dH bB au (x::W)∧I8 (ep L') dH bB∧(dH x).length=(ch x).length+1∧(∀z,z≠x→dH z=ch z)∧
   ag (fun z=>z=B.nb∨z=B.pb∨z=B.tb) H H'):=by
 have hx:=f.QO (x:=x) (by simp)
 have hy:=f.QO (x:=y) (by simp)
 have K7:x≠y:=fun e=>by rw[e,(aq w).ua]at hl;cases hl
 have aV:=m.len
 obtain⟨tv,o1,_⟩:=m.own
 obtain⟨px,kx,dx⟩:=hp x
 obtain⟨py,ky,dy⟩:=hp y
 obtain⟨a0,a1,a2,a3,a4⟩:=m.rd hx
 have mK:(ch x).length≤w.cs.length:=bU (f.pr.nd x) fun c hc=>f.FC hc
 have vM:=m.cells.CY
 refine aP pS ?_
 refine v1 (ae o1) ?_
 refine⟨⟨by omega,by omega⟩,?_⟩
 refine v1 (ae o1) ?_
 refine⟨⟨by omega,by omega⟩,?_⟩
 refine v3 (ae m.places) am9 a2 ?_
 refine ak.dec (fun h0=>?_) (fun h0=>?_)<;>refine vs ?_
 ·have hc:ch x=[]:=by
   rw[h0]at kx
   cases hc:ch x with
   |nil=>rfl
   |cons c r=>rw[hc]at kx;exact absurd kx.symm (f.pr.ne (x:=x) (by rw[hc];simp))
  have f1:=f.U7 hh hl hc
  obtain⟨H1,eH⟩:∃H1,H1=H:=⟨_,rfl⟩
  rw[←eH]at m ⊢
  have m1:=m
  obtain⟨N1,eN⟩:∃N1,N1=N:=⟨_,rfl⟩
  obtain⟨P1,eP⟩:∃P1,P1=P:=⟨_,rfl⟩
  rw[←eN,←eP]at m1
  rw[←eN]at f1
  have e1:ag (fun z=>z=B.nb∨z=B.pb) H1 H1:=ag.refl _ _
  have qP:([y]:List Int).length=(ch x).length+1:=by rw[hc];rfl
  obtain⟨b0,_⟩:=m1.rd hx
  obtain⟨L2,k2,m2,e2⟩:=m1.dW hx y
  refine v2 m1.places am9 ?_
  refine⟨by omega,?_⟩
  refine vs ?_
  generalize H1.wr B.tb ((aH L).set (x.toNat*4+1) (i64 y))=H2 at*
  obtain⟨c0,c1,c2,c3,c4⟩:=m2.rd hx
  have iA:(ep L2 x).d=(ch x).length:=by rw[k2];unfold lK;rw[if_pos rfl];exact dx
  obtain⟨L3,k3,m3,e3⟩:=m2.VZ hx ((ep L2 x).d+1)
  rw[iA]at c3 k3 m3 e3
  refine v4 (ae m2.places) m2.places am9 c3 ?_
  rw[wrap64 (by omega) (by omega)]
  refine⟨by omega,?_⟩
  refine vs ?_
  generalize H2.wr B.tb ((aH L2).set (x.toNat*4+2) (i64 ((ch x).length+1)))=H3 at*
  obtain⟨d0,_⟩:=m3.rd hy
  obtain⟨L4,k4,m4,e4⟩:=m3.aE hy x
  refine v3 m3.places am9 Nat.add_zero ?_
  refine⟨by omega,?_⟩
  refine vs ?_
  generalize H3.wr B.tb ((aH L3).set (y.toNat*4) (i64 x))=H4 at*
  obtain⟨g0,_⟩:=m4.rd hy
  obtain⟨L5,k5,m5,e5⟩:=m4.cT hy false
  refine v3 m4.places am9 Nat.add_zero ?_
  refine⟨by omega,?_⟩
  refine vs ?_
  refine⟨N1,P1,L5,_,_,m5,f1,fun z=>?_,?_,fun z hz=>?_,((((e1.mono fun z _ h=>h.elim .inl fun h=>.inr (.inl h)).trans (e2.mono fun z _ h=>.inr (.inr h))).trans (e3.mono fun z _ h=>.inr (.inr h))).trans (e4.mono fun z _ h=>.inr (.inr h))).trans (e5.mono fun z _ h=>.inr (.inr h))⟩
  ·rw[k5,k4,k3,k2]
   unfold lK aw
   by_cases h1:z=y
   ·rw[h1,if_pos rfl,if_neg K7.symm,if_neg K7.symm]
    simp only[if_neg K7.symm,if_true]
    refine⟨by unfold aE;rw[if_pos rfl],?_,?_⟩
    ·exact ky
    ·exact dy
   ·rw[if_neg h1]
    unfold aE
    rw[if_neg h1]
    by_cases h2:z=x
    ·rw[h2]
     simp only[if_true,if_neg K7]
     exact⟨px,rfl,by rw[qP];omega⟩
    ·simp only[if_neg h1,if_neg h2]
     exact hp z
  ·unfold aw;rw[if_pos rfl,qP]
  ·unfold aw;rw[if_neg hz]
 ·obtain⟨k,K,hc⟩:∃k K,ch x=k::K:=by
   cases hc:ch x with
   |nil=>rw[hc]at kx;exact absurd kx h0
   |cons c r=>exact⟨c,r,rfl⟩
  have hk:(ep L x).k=k:=by rw[kx,hc];rfl
  have X8:=f.FC (p:=x) (x:=k) (by rw[hc];simp)
  have f1:=f.under hh hl hc
  rw[hk]at a2
  refine v4 (ae o1) (ae m.places) am9 a2 ?_
  refine(de m.ring m.inv (x:=k) (y:=y) (by omega) (by omega)).mono ?_
  rintro _ H1 ⟨rfl,N1,P1,r1,l1,n1,i1,e1⟩
  have m1:=m.tw r1 i1 e1 l1
  rw[←n1]at f1
  have qP:(y::K++[k]).length=(ch x).length+1:=by rw[hc];simp
  refine vs ?_
  obtain⟨b0,_⟩:=m1.rd hx
  obtain⟨L2,k2,m2,e2⟩:=m1.dW hx y
  refine v2 m1.places am9 ?_
  refine⟨by omega,?_⟩
  refine vs ?_
  generalize H1.wr B.tb ((aH L).set (x.toNat*4+1) (i64 y))=H2 at*
  obtain⟨c0,c1,c2,c3,c4⟩:=m2.rd hx
  have iA:(ep L2 x).d=(ch x).length:=by rw[k2];unfold lK;rw[if_pos rfl];exact dx
  obtain⟨L3,k3,m3,e3⟩:=m2.VZ hx ((ep L2 x).d+1)
  rw[iA]at c3 k3 m3 e3
  refine v4 (ae m2.places) m2.places am9 c3 ?_
  rw[wrap64 (by omega) (by omega)]
  refine⟨by omega,?_⟩
  refine vs ?_
  generalize H2.wr B.tb ((aH L2).set (x.toNat*4+2) (i64 ((ch x).length+1)))=H3 at*
  obtain⟨d0,_⟩:=m3.rd hy
  obtain⟨L4,k4,m4,e4⟩:=m3.aE hy x
  refine v3 m3.places am9 Nat.add_zero ?_
  refine⟨by omega,?_⟩
  refine vs ?_
  generalize H3.wr B.tb ((aH L3).set (y.toNat*4) (i64 x))=H4 at*
  obtain⟨g0,_⟩:=m4.rd hy
  obtain⟨L5,k5,m5,e5⟩:=m4.cT hy false
  refine v3 m4.places am9 Nat.add_zero ?_
  refine⟨by omega,?_⟩
  refine vs ?_
  refine⟨N1,P1,L5,_,_,m5,f1,fun z=>?_,?_,fun z hz=>?_,((((e1.mono fun z _ h=>h.elim .inl fun h=>.inr (.inl h)).trans (e2.mono fun z _ h=>.inr (.inr h))).trans (e3.mono fun z _ h=>.inr (.inr h))).trans (e4.mono fun z _ h=>.inr (.inr h))).trans (e5.mono fun z _ h=>.inr (.inr h))⟩
  ·rw[k5,k4,k3,k2]
   unfold lK aw
   by_cases h1:z=y
   ·rw[h1,if_pos rfl,if_neg K7.symm,if_neg K7.symm]
    simp only[if_neg K7.symm,if_true]
    refine⟨by unfold aE;rw[if_pos rfl],?_,?_⟩
    ·exact ky
    ·exact dy
   ·rw[if_neg h1]
    unfold aE
    rw[if_neg h1]
    by_cases h2:z=x
    ·rw[h2]
     simp only[if_true,if_neg K7]
     exact⟨px,rfl,by rw[qP];omega⟩
    ·simp only[if_neg h1,if_neg h2]
     exact hp z
  ·unfold aw;rw[if_pos rfl,qP]
  ·unfold aw;rw[if_neg hz]
end
end Go.Proofs.YtjlnnljohemifaaGreat

namespace Go.Proofs.YtjlnnljohemifaaGreat
open Go Go.Vc
theorem tz(H:Hp):af Tryz.prog yR [] H fun v H'=>ar (v= .agg #[i64 (-1),i64 (-1),i64 0,.bool false]∧ah H H'):=by
 refine aP zi ?_
 have f0:ah H (H.new 273 [Value.int .i64 0,Value.int .i64 0,Value.int .i64 0,Value.bool false]):=(ag.refl _ _).new _ _
 refine vs ?_
 have q:((H.new 273 [Value.int .i64 0,Value.int .i64 0,Value.int .i64 0,Value.bool false]).wr H.size [Value.int .i64 (-1),Value.int .i64 (-1),Value.int .i64 0,Value.bool false]).own H.size=some [Value.int .i64 (-1),Value.int .i64 (-1),Value.int .i64 0,Value.bool false]:=ai (ax _ _ _)
 have e2:ag (fun z=>z=H.size) (H.new 273 [Value.int .i64 0,Value.int .i64 0,Value.int .i64 0,Value.bool false]) ((H.new 273 [Value.int .i64 0,Value.int .i64 0,Value.int .i64 0,Value.bool false]).wr H.size [Value.int .i64 (-1),Value.int .i64 (-1),Value.int .i64 0,Value.bool false]):=(ag.refl (fun z=>z=H.size) _).wr (fun _=>rfl) _
 refine v1 (ae q) ?_
 exact⟨rfl,f0.then e2 (fun z hz=>by omega)⟩
section
variable {H H' : Hp} {B : FB} {C V : Nat → Prop} {w : Nw} {N P : List Int} {L : List Pc} {tops : List Int} {ch : Int → List Int} {par : Int → Int} {au : Int → List Int} {W : List Int}
theorem EP(m:bR H B C w N P L tops){x g:Int}{A:List Int}(f:dI (aD w) (aN w) (bZ N) ch par au W)(hp:I8 (ep L) ch par)(hr:au g=x::A):
  af Tryz.prog pG [ptr B.n,i64 x] H fun v H'=>ar (∃N' P' L' A',bR H' B C w N' P' L' tops∧dI (aD w) (aN w) (bZ N') (aw ch x []) (eV ch par x) (aw au g (x::A')) W∧I8 (ep L') (aw ch x []) (eV ch par x)∧
   ag (fun z=>z=B.nb∨z=B.pb∨z=B.tb) H H'):=by
 have hx:=f.rin (g:=g) (x:=x) (by rw[hr];simp)
 have dA:=(f.rm g x (by rw[hr];simp)).2.1
 have aV:=m.len
 have vM:=m.cells.CY
 obtain⟨tv,o1,_⟩:=m.own
 obtain⟨px,kx,dx⟩:=hp x
 obtain⟨a0,a1,a2,a3,a4⟩:=m.rd hx
 refine aP pR ?_
 refine v1 (ae o1) ?_
 refine⟨⟨by omega,by omega⟩,?_⟩
 refine v3 (ae m.places) am9 a2 ?_
 refine ak.dec (fun h0=>?_) (fun h0=>?_)<;>refine vs ?_
 ·have hc:ch x=[]:=by
   rw[h0]at kx
   cases hc:ch x with
   |nil=>rfl
   |cons c r=>rw[hc]at kx;exact absurd kx.symm (f.pr.ne (x:=x) (by rw[hc];simp))
  have e1:aw ch x []=ch:=by
   funext z
   unfold aw
   split
   ·rename_i e;rw[e,hc]
   ·rfl
  have e2:eV ch par x=par:=by
   funext z
   unfold eV
   rw[hc,if_neg (by simp)]
  have e3:aw au g (x::A)=au:=by
   funext z
   unfold aw
   split
   ·rename_i e;rw[e,hr]
   ·rfl
  exact⟨N,P,L,A,m,by rw[e1,e2,e3];exact f,by rw[e1,e2];exact hp,ag.refl _ _⟩
 obtain⟨k,K,hc⟩:∃k K,ch x=k::K:=by
  cases hc:ch x with
  |nil=>rw[hc]at kx;exact absurd kx h0
  |cons c r=>exact⟨c,r,rfl⟩
 have hk:(ep L x).k=k:=by rw[kx,hc];rfl
 rw[hk]
 have wS:=f.cy x
 have fW:=f.pr.nd x
 rw[hc]at wS fW
 have bE:∀c∈k::K,0≤c∧c<w.cs.length:=fun c D7=>f.FC (p:=x) (by rw[hc];exact D7)
 have ST:(k::K).length≤w.cs.length:=bU fW bE
 have ZB:(k::K).length=K.length+1:=anw
 refine v1 (ae o1) ?_
 refine(nI m.ring wS fW (fun c D7=>by have:=bE c D7;omega) (by omega)).mono ?_
 rintro kv H1 ⟨b,s1,hb,f1⟩
 have m1:=m.fresh f1
 have z1:=f1.size
 have hS:=m.slt
 have Ua:B.tb<H.size:=hS _ (.inr (.inr (.inr (.inr (.inr (.inl rfl))))))
 obtain⟨ka,kc,rfl⟩:=Sl.shape s1
 refine vs ?_
 refine aT.intro (fun mm env H'=>∃ (i:Nat) (L':List Pc),mm=(k::K).length - i∧i≤(k::K).length∧bR H' B C w N P L' tops∧Sl H' 1 (.slice ka (k::K).length kc) (k::K).length ((k::K).map i64) (some b)∧ag (fun z=>z=B.tb) H H'∧
  (∀z,(ep L' z).k=(ep L z).k∧(ep L' z).d=(ep L z).d∧(ep L' z).u=if z∈(k::K).take i then -1 else(ep L z).u)∧
  env=[(0,ptr B.n),(1,i64 x),(4,i64 k),(22,.slice ka (k::K).length kc),(23,i64 (k::K).length),(24,i64 i)]) _ ⟨0,L,rfl,by omega,m1,s1,f1.mono (fun _ _ h=>h.elim),fun z=>⟨rfl,rfl,by simp⟩,rfl⟩ ?_
 rintro mm env H2 ⟨i,L2,rfl,hi,m2,s2,e2,g2,rfl⟩
 refine vs ?_
 refine ak.dec (fun gi=>?_) (fun gi=>?_)<;>refine vs ?_
 ·have ly:i< (k::K).length:=by omega
  obtain⟨c,FG⟩:∃c,(k::K)[i]? =some c:=⟨_,am8 ly⟩
  have D7:=bE c (ang FG)
  obtain⟨_,kb,lb,rfl,q2,q3⟩:=Sl.xW s2 FG
  obtain⟨LW,o2,_⟩:=m2.own
  have nj:=m2.len
  refine⟨⟨by omega,by omega⟩,?_⟩
  refine v6 (ae q2) am9 ane Int.toNat_natCast q3 (ae o2) ?_
  refine⟨⟨by omega,by omega⟩,?_⟩
  obtain⟨b0,_⟩:=m2.rd D7
  obtain⟨L3,k3,m3,e3⟩:=m2.aE D7 (-1)
  refine v3 m2.places am9 Nat.add_zero ?_
  refine⟨by omega,?_⟩
  refine vs ?_
  generalize H2.wr B.tb ((aH L2).set (c.toNat*4) (Value.int .i64 (-1)))=H3 at*
  obtain⟨c0,_⟩:=m3.rd D7
  have Qw:=m3.len
  obtain⟨L4,k4,m4,e4⟩:=m3.cT D7 false
  refine⟨⟨by omega,by omega⟩,?_⟩
  refine v3 m3.places am9 Nat.add_zero ?_
  refine⟨by omega,?_⟩
  refine vs ?_
  refine⟨(k::K).length - (i+1),by omega,i+1,L4,rfl,by omega,m4,(s2.ext e3 (fun z hz dE=>by injection hz with hz;omega)).ext e4 (fun z hz dE=>by injection hz with hz;omega),(e2.trans e3).trans e4,fun z=>?_,?_⟩
  ·have tk:(k::K).take (i+1)=(k::K).take i++[c]:=by rw[anN,FG];rfl
   obtain⟨g3,g4,g5⟩:=g2 z
   rw[tk,k4,k3]
   unfold lK
   by_cases hz:z=c
   ·simp only[hz,if_true]
    rw[hz]at g3 g4
    exact⟨g3,g4,by simp⟩
   ·simp only[if_neg hz]
    refine⟨g3,g4,?_⟩
    rw[g5]
    simp only[ann,anj,hz,or_false]
  ·rw[wrap64 (by omega) (by omega)]
   rfl
 obtain rfl:i=(k::K).length:=by omega
 rw[anJ]at g2
 have X8:=bE k (by simp)
 have f2:=f.raise hr hc
 obtain⟨LW,o2,_⟩:=m2.own
 have nj:=m2.len
 refine v1 (ae o2) ?_
 refine(de m2.ring m2.inv (x:=x) (y:=k) (by omega) (by omega)).mono ?_
 rintro _ H3 ⟨rfl,N3,P3,r3,l3,n3,i3,e3⟩
 have m3:=m2.tw r3 i3 e3 l3
 rw[←n3]at f2
 obtain⟨cc,lt,o3,_⟩:=m3.fG
 refine vs ?_
 refine jk.intro (fun H'=>H'.own B.n=some [ptr B.c,ptr B.r,.slice (some ⟨B.tb,0,none⟩) L2.length L2.length,.slice (some ⟨B.tp,0,none⟩) tops.length cc]) o3 ?_
 refine vs ?_
 refine fk.intro (.slice (some ⟨B.tb,0,none⟩) L2.length L2.length) (fun H' hI=>by refine v1 (ae hI) ?_;trivial) ?_
 refine vs ?_
 refine(tz H3).mono ?_
 rintro _ H4 ⟨rfl,e4⟩
 have o4:=e4.own o3 (fun h=>h)
 refine And.intro o4 ?_
 have m4:=m3.fresh e4
 refine vs ?_
 refine⟨⟨by omega,by omega⟩,?_⟩
 obtain⟨b0,_⟩:=m4.rd hx
 obtain⟨L5,k5,m5,e5⟩:=m4.Mk hx mP
 refine v2 m4.places am9 ?_
 refine⟨by omega,?_⟩
 rw[show bf (aH L2) (x.toNat*4) (aF (Value.agg #[i64 (-1),i64 (-1),i64 0,Value.bool false]))=bf (aH L2) (x.toNat*4) [i64 mP.u,i64 mP.k,i64 mP.d,.bool mP.m]from rfl]
 have uF:=m4.lj.1.2.2.2.1
 generalize H4.wr B.tb (bf (aH L2) (x.toNat*4) [i64 mP.u,i64 mP.k,i64 mP.d,.bool mP.m])=H5 at*
 refine vs ?_
 refine And.intro (e5.own o4 uF) ?_
 refine vs ?_
 refine⟨N3,P3,L5,K++k::A,m5,f2,fun z=>?_,(((e2.mono fun z _ h=>.inr (.inr h)).trans (e3.mono fun z _ h=>h.elim .inl fun h=>.inr (.inl h))).trans (e4.mono fun z _ h=>h.elim)).trans (e5.mono fun z _ h=>.inr (.inr h))⟩
 rw[k5]
 unfold lK aw eV
 obtain⟨g3,g4,g5⟩:=g2 z
 obtain⟨pz,kz,dz⟩:=hp z
 by_cases hz:z=x
 ·rw[if_pos hz,if_pos hz,hz,if_neg (fun h=>by have:=(f.Lo h).1 g;rw[hr]at this;exact this (by simp)),dA]
  exact⟨rfl,rfl,rfl⟩
 ·rw[if_neg hz,if_neg hz,g3,g4,g5,hc]
  refine⟨?_,kz,dz⟩
  split
  ·rfl
  ·exact pz
end
end Go.Proofs.YtjlnnljohemifaaGreat

namespace Go.Proofs.YtjlnnljohemifaaGreat
open Go Go.Vc
section
variable {H H' : Hp} {B : FB} {C V : Nat → Prop} {w : Nw} {N P : List Int} {L : List Pc} {tops : List Int} {ch : Int → List Int} {par : Int → Int} {au : Int → List Int} {W : List Int}
theorem z6(m:bR H B C w N P L tops){lt:Int→Int→Bool}(hs:bm lt){x p g t:Int}{A:List Int}(f:dI (aD w) lt (bZ N) ch par au W)(hp:I8 (ep L) ch par)(hx:x∈ch p)(hg:aD w x=g)(da:g<tops.length)(hr:au g=t::A)(ht:bh tops g=t):
  af Tryz.prog sD [ptr B.n,i64 g,i64 x] H fun v H'=>ar (∃N' P' L' l,bR H' B C w N' P' L' tops∧dI (aD w) lt (bZ N') (aw ch p l) (aE par x (-1)) (aw au g (t::x::A)) W∧I8 (ep L') (aw ch p l) (aE par x (-1))∧(ch p).Perm (x::l)∧
   ag (fun z=>z=B.nb∨z=B.pb∨z=B.tb) H H'):=by
 obtain⟨x1,x2,x3,x4,x5⟩:=f.pr.dn p x hx
 have dA:p≠x:=fun e=>by rw[e,hs.ua]at x5;cases x5
 have tm:=f.FC hx
 obtain⟨p0,p1,_⟩:=aC (w:=w) (x:=p) (by omega)
 have aV:=m.len
 have vM:=m.cells.CY
 have mK:(ch p).length≤w.cs.length:=bU (f.pr.nd p) fun c hc=>f.FC hc
 obtain⟨l,uc,wS⟩:=(f.cy p).from hx
 have fW:=uc.nodup_iff.1 (f.pr.nd p)
 have ny:(ch p).length=l.length+1:=by rw[uc.length_eq,anw]
 have f1:=f.Zd uc wS
 have ue:aw ch p (x::l) p=x::l:=by unfold aw;rw[if_pos rfl]
 obtain⟨ux,_,_⟩:=hp x
 obtain⟨up,kp,dp⟩:=hp p
 rw[x1]at ux
 have htr:=f.rin (g:=g) (x:=t) (by rw[hr];simp)
 have PU:=(f.rm g t (by rw[hr];simp)).2.2.1
 obtain⟨cc,ltp,o1,q1,_⟩:=m.fG
 obtain⟨a0,a1,a2,a3,a4⟩:=m.rd tm
 obtain⟨b0,b1,b2,b3,b4⟩:=m.rd (x:=p) ⟨p0,p1⟩
 rw[ux]at a1
 rw[dp]at b3
 refine aP sQ ?_
 refine v1 (ae o1) ?_
 refine⟨⟨by omega,by omega⟩,?_⟩
 refine v4 (ae m.places) am9 Nat.add_zero a1 ?_
 refine⟨⟨by omega,by omega⟩,?_⟩
 refine v4 (ae m.places) m.places am9 b3 ?_
 rw[wrap64 (by omega) (by omega)]
 obtain⟨L2,k2,m2,e2⟩:=m.VZ (x:=p) ⟨p0,p1⟩ (((ch p).length:Int) - 1)
 refine⟨by omega,?_⟩
 refine vs ?_
 generalize H.wr B.tb ((aH L).set (p.toNat*4+2) (i64 (((ch p).length:Int) - 1)))=H2 at*
 obtain⟨c0,_⟩:=m2.rd (x:=p) ⟨p0,p1⟩
 obtain⟨L3,k3,m3,e3⟩:=m2.dW (x:=p) ⟨p0,p1⟩ (-1)
 refine v2 m2.places am9 ?_
 refine⟨by omega,?_⟩
 refine vs ?_
 generalize H2.wr B.tb ((aH L2).set (p.toNat*4+1) (Value.int .i64 (-1)))=H3 at*
 obtain⟨cc3,lt3,o3,q3,_⟩:=m3.fG
 refine v1 (ae o3) ?_
 refine(EL m3.ring (x:=x) (by omega)).mono ?_
 rintro _ H' ⟨rfl,e⟩
 obtain rfl:=e.symm
 refine vs ?_
 have C3:ag (fun z=>z=B.nb∨z=B.pb∨z=B.tb) H H3:=(e2.mono fun z _ h=>.inr (.inr h)).trans (e3.mono fun z _ h=>.inr (.inr h))
 have VN:l=[]∨∃A0 y,l=A0++[y]:=by
  rcases List.eq_nil_or_concat l with h| ⟨A0,y,h⟩
  ·exact .inl h
  ·exact .inr ⟨A0,y,by rw[h,List.concat_eq_append]⟩
 rcases VN with rfl| ⟨A0,y,rfl⟩
 ·have I6:bZ N x=x:=wS
  rw[I6]
  refine ak.cK (by simp) ?_
  refine vs ?_
  have m4:=m3
  have ul:=C3
  obtain⟨L4,eL⟩:∃L4,L4=L3:=⟨_,rfl⟩
  rw[←eL]at m4 k3
  have k4x:ep L4 x=ep L x:=by rw[k3,k2];unfold lK;rw[if_neg dA.symm,if_neg dA.symm]
  have k4p:ep L4 p=⟨(ep L p).u, -1,((ch p).length:Int) - 1,(ep L p).m⟩:=by rw[k3,k2];unfold lK;rw[if_pos rfl,if_pos rfl]
  have k4o:∀z,z≠p→ep L4 z=ep L z:=fun z hz=>by rw[k3,k2];unfold lK;rw[if_neg hz,if_neg hz]
  have AE:∀ {N5:List Int},bZ N5=wR (bZ N) x (bZ P x)→dI (aD w) lt (bZ N5) (aw ch p []) (aE par x (-1)) au (x::W):=fun h=>by
   rw[h]
   have hpv:bZ P x=x:=by
    have:=m.inv.pn x
    rwa[I6]at this
   rw[hpv,Jk]
   have f2:=f1.ad3 ue
   rwa[dY]at f2
  obtain⟨cc4,lt4,o4,q4,_⟩:=m4.fG
  refine v1 (ae o4) ?_
  refine(mC m4.ring m4.inv (x:=x) (by omega)).mono ?_
  rintro _ H5 ⟨rfl,N5,P5,r5,l5,n5,i5,e5⟩
  have m5:=m4.tw r5 i5 e5 l5
  have f5:=AE n5
  obtain⟨cc5,lt5,o5,q5,_⟩:=m5.fG
  have RY:=m5.len
  refine v1 (ae o5) ?_
  refine⟨⟨by omega,by omega⟩,?_⟩
  obtain⟨d0,_⟩:=m5.rd tm
  obtain⟨L6,k6,m6,e6⟩:=m5.aE tm (-1)
  refine v3 m5.places am9 Nat.add_zero ?_
  refine⟨by omega,?_⟩
  refine vs ?_
  generalize H5.wr B.tb ((aH L4).set (x.toNat*4) (Value.int .i64 (-1)))=H6 at*
  have hl6:=m6.len
  refine⟨⟨by omega,by omega⟩,?_⟩
  obtain⟨g0,_⟩:=m6.rd tm
  obtain⟨L7,k7,m7,e7⟩:=m6.cT tm false
  refine v3 m6.places am9 Nat.add_zero ?_
  refine⟨by omega,?_⟩
  refine vs ?_
  generalize H6.wr B.tb ((aH L6).set (x.toNat*4+3) (Value.bool false))=H7 at*
  obtain⟨cc7,lt7,o7,q7,_⟩:=m7.fG
  have q8:=m7.eC q7 (dL (tops:=tops) (h:=g) (by omega) da)
  rw[ht]at q8
  have hl7:=m7.len
  refine v1 (ae o7) ?_
  refine⟨⟨by omega,by omega⟩,?_⟩
  refine v4 (ae q7) am9 ane q8 ?_
  refine(de m7.ring m7.inv (x:=t) (y:=x) (by omega) (by omega)).mono ?_
  rintro _ H8 ⟨rfl,N8,P8,r8,l8,n8,i8,e8⟩
  have m8:=m7.tw r8 i8 e8 l8
  have f8:=f5.PS (t:=t) (A:=A) (by rw[hg];exact hr)
  rw[hg,←n8]at f8
  refine vs ?_
  refine⟨N8,P8,L7,[],m8,f8,fun z=>?_,uc,(((ul.trans (e5.mono fun z _ h=>h.elim .inl fun h=>.inr (.inl h))).trans (e6.mono fun z _ h=>.inr (.inr h))).trans (e7.mono fun z _ h=>.inr (.inr h))).trans (e8.mono fun z _ h=>h.elim .inl fun h=>.inr (.inl h))⟩
  rw[k7,k6]
  obtain⟨uz,kz,dz⟩:=hp z
  by_cases h1:z=x
  ·rw[h1]
   rw[h1]at kz dz
   unfold lK aE aw
   simp only[if_true,if_neg dA.symm,k4x]
   exact⟨trivial,kz,dz⟩
  ·unfold lK aE aw
   simp only[if_neg h1]
   by_cases h2:z=p
   ·rw[h2]
    simp only[if_true,if_neg dA,k4p]
    refine⟨up,rfl,?_⟩
    rw[ny];simp
   ·simp only[if_neg h2,k4o z h2]
    exact⟨uz,kz,dz⟩
 ·have SG:bZ N x=(A0++[y]).headD (-1):=by
   cases A0 with
   |nil=>exact wS.1
   |cons a A0=>exact wS.1
  have I6:bZ N x≠x:=fun e=>by
   have h1:=(anu.1 fW).1
   apply h1
   rw[e]at SG
   cases A0 with
   |nil=>rw[SG];simp
   |cons a A0=>rw[SG];simp
  refine ak.dec (fun h=>absurd h I6) (fun _=>?_)
  obtain⟨r0,_⟩:=m3.rd (x:=p) ⟨p0,p1⟩
  obtain⟨L4,k4,m4,e4⟩:=m3.dW (x:=p) ⟨p0,p1⟩ (bZ N x)
  refine v2 m3.places am9 ?_
  refine⟨by omega,?_⟩
  refine vs ?_
  generalize H3.wr B.tb ((aH L3).set (p.toNat*4+1) (i64 (bZ N x)))=H4 at*
  have ul:=C3.trans (e4.mono fun z _ h=>.inr (.inr h))
  have k4x:ep L4 x=ep L x:=by rw[k4,k3,k2];unfold lK;rw[if_neg dA.symm,if_neg dA.symm,if_neg dA.symm]
  have k4p:ep L4 p=⟨(ep L p).u,bZ N x,((ch p).length:Int) - 1,(ep L p).m⟩:=by rw[k4,k3,k2];unfold lK;rw[if_pos rfl,if_pos rfl,if_pos rfl]
  have k4o:∀z,z≠p→ep L4 z=ep L z:=fun z hz=>by rw[k4,k3,k2];unfold lK;rw[if_neg hz,if_neg hz,if_neg hz]
  have AE:∀ {N5:List Int},bZ N5=wR (bZ N) x (bZ P x)→dI (aD w) lt (bZ N5) (aw ch p (A0++[y])) (aE par x (-1)) au (x::W):=fun h=>by
   rw[h]
   have hpv:bZ P x=y:=ub.last (A:=A0) m.inv wS
   rw[hpv]
   have f2:=f1.off (A:=A0) (y:=y) ue
   rwa[dY]at f2
  obtain⟨cc4,lt4,o4,q4,_⟩:=m4.fG
  refine v1 (ae o4) ?_
  refine(mC m4.ring m4.inv (x:=x) (by omega)).mono ?_
  rintro _ H5 ⟨rfl,N5,P5,r5,l5,n5,i5,e5⟩
  have m5:=m4.tw r5 i5 e5 l5
  have f5:=AE n5
  obtain⟨cc5,lt5,o5,q5,_⟩:=m5.fG
  have RY:=m5.len
  refine v1 (ae o5) ?_
  refine⟨⟨by omega,by omega⟩,?_⟩
  obtain⟨d0,_⟩:=m5.rd tm
  obtain⟨L6,k6,m6,e6⟩:=m5.aE tm (-1)
  refine v3 m5.places am9 Nat.add_zero ?_
  refine⟨by omega,?_⟩
  refine vs ?_
  generalize H5.wr B.tb ((aH L4).set (x.toNat*4) (Value.int .i64 (-1)))=H6 at*
  have hl6:=m6.len
  refine⟨⟨by omega,by omega⟩,?_⟩
  obtain⟨g0,_⟩:=m6.rd tm
  obtain⟨L7,k7,m7,e7⟩:=m6.cT tm false
  refine v3 m6.places am9 Nat.add_zero ?_
  refine⟨by omega,?_⟩
  refine vs ?_
  generalize H6.wr B.tb ((aH L6).set (x.toNat*4+3) (Value.bool false))=H7 at*
  obtain⟨cc7,lt7,o7,q7,_⟩:=m7.fG
  have q8:=m7.eC q7 (dL (tops:=tops) (h:=g) (by omega) da)
  rw[ht]at q8
  have hl7:=m7.len
  refine v1 (ae o7) ?_
  refine⟨⟨by omega,by omega⟩,?_⟩
  refine v4 (ae q7) am9 ane q8 ?_
  refine(de m7.ring m7.inv (x:=t) (y:=x) (by omega) (by omega)).mono ?_
  rintro _ H8 ⟨rfl,N8,P8,r8,l8,n8,i8,e8⟩
  have m8:=m7.tw r8 i8 e8 l8
  have f8:=f5.PS (t:=t) (A:=A) (by rw[hg];exact hr)
  rw[hg,←n8]at f8
  refine vs ?_
  refine⟨N8,P8,L7,(A0++[y]),m8,f8,fun z=>?_,uc,(((ul.trans (e5.mono fun z _ h=>h.elim .inl fun h=>.inr (.inl h))).trans (e6.mono fun z _ h=>.inr (.inr h))).trans (e7.mono fun z _ h=>.inr (.inr h))).trans (e8.mono fun z _ h=>h.elim .inl fun h=>.inr (.inl h))⟩
  rw[k7,k6]
  obtain⟨uz,kz,dz⟩:=hp z
  by_cases h1:z=x
  ·rw[h1]
   rw[h1]at kz dz
   unfold lK aE aw
   simp only[if_true,if_neg dA.symm,k4x]
   exact⟨trivial,kz,dz⟩
  ·unfold lK aE aw
   simp only[if_neg h1]
   by_cases h2:z=p
   ·rw[h2]
    simp only[if_true,if_neg dA,k4p]
    refine⟨up,SG,?_⟩
    rw[ny];simp
   ·simp only[if_neg h2,k4o z h2]
    exact⟨uz,kz,dz⟩
end
end Go.Proofs.YtjlnnljohemifaaGreat

namespace Go.Proofs.YtjlnnljohemifaaGreat
open Go Go.Vc
section
variable {H H' : Hp} {B : FB} {C V : Nat → Prop} {w : Nw} {N P : List Int} {L : List Pc} {tops : List Int} {ch : Int → List Int} {par : Int → Int} {au : Int → List Int} {W : List Int}
theorem BN(m:bR H B C w N P L tops){lt:Int→Int→Bool}(hs:bm lt){x g t:Int}{A:List Int}(f:dI (aD w) lt (bZ N) ch par au W)(hp:I8 (ep L) ch par)(hg:aD w x=g)(QA:0<g)(da:g<tops.length)(hr:au g=t::A)(ht:bh tops g=t):
  af Tryz.prog nl [ptr B.n,i64 g,i64 x] H fun v H'=>ar (∃N' P' L' dH bB A',bR H' B C w N' P' L' tops∧dI (aD w) lt (bZ N') dH bB (aw au g (t::A')) W∧I8 (ep L') dH bB∧(∀z,par z= -1→bB z= -1)∧
   ag (fun z=>z=B.nb∨z=B.pb∨z=B.tb) H H'):=by
 have e0:aw au g (t::A)=au:=by
  funext z
  unfold aw
  split
  ·rename_i e;rw[e,hr]
  ·rfl
 refine aP nw ?_
 refine vs ?_
 refine aT.intro (fun mm env H'=>∃ (x:Int) (N' P':List Int) (L':List Pc) (dH:Int→List Int) (bB:Int→Int) (A':List Int),mm=Lm lt w.cs.length x∧aD w x=g∧bR H' B C w N' P' L' tops∧dI (aD w) lt (bZ N') dH bB (aw au g (t::A')) W∧I8 (ep L') dH bB∧(∀z,par z= -1→bB z= -1)∧
   ag (fun z=>z=B.nb∨z=B.pb∨z=B.tb) H H'∧env=[(0,ptr B.n),(1,i64 g),(2,i64 x)]) _ ⟨x,N,P,L,ch,par,A,rfl,hg,m,by rw[e0];exact f,hp,fun _ h=>h,ag.refl _ _,rfl⟩ ?_
 rintro mm env H1 ⟨y,N1,P1,L1,Nz,vT,A1,rfl,hy,m1,f1,p1,u1,e1,rfl⟩
 obtain⟨y0,y1,_⟩:=aC (w:=w) (x:=y) (by omega)
 obtain⟨tv,o1,_⟩:=m1.own
 obtain⟨a0,a1,a2,a3,a4⟩:=m1.rd ⟨y0,y1⟩
 obtain⟨uy,_,_⟩:=p1 y
 have hl:=m1.len
 rw[uy]at a1
 refine v1 (ae o1) ?_
 refine⟨⟨by omega,by omega⟩,?_⟩
 refine v4 (ae m1.places) am9 Nat.add_zero a1 ?_
 refine ak.dec (fun h0=>?_) (fun h0=>?_)<;>refine v1 (ae o1) ?_
 ·exact⟨N1,P1,L1,Nz,vT,A1,m1,f1,p1,u1,e1⟩
 refine⟨⟨by omega,by omega⟩,?_⟩
 refine v3 (ae m1.places) am9 a4 ?_
 have hyc:=f1.pr.up y _ rfl h0
 obtain⟨_,_,h3,h4,h5⟩:=f1.pr.dn _ _ hyc
 cases hm:(ep L1 y).m
 ·refine v1 (ae o1) ?_
  refine⟨⟨by omega,by omega⟩,?_⟩
  obtain⟨L2,k2,m2,e2⟩:=m1.cT ⟨y0,y1⟩ true
  refine v2 m1.places am9 ?_
  refine⟨by omega,?_⟩
  refine vs ?_
  refine⟨N1,P1,L2,Nz,vT,A1,m2,f1,fun z=>?_,u1,e1.trans (e2.mono fun z _ h=>.inr (.inr h))⟩
  rw[k2]
  unfold lK
  split
  ·rename_i e;rw[e];exact p1 y
  ·exact p1 z
 ·refine v1 (ae o1) ?_
  refine⟨⟨by omega,by omega⟩,?_⟩
  refine v4 (ae m1.places) am9 Nat.add_zero a1 ?_
  refine(z6 m1 hs f1 p1 hyc hy da (A:=A1) (by unfold aw;rw[if_pos rfl]) ht).mono ?_
  rintro _ H2 ⟨N2,P2,L2,l,m2,f2,p2,uc,e2⟩
  rw[dY]at f2
  refine vs ?_
  obtain⟨z0,z1,_⟩:=aC (w:=w) (x:=vT y) (by omega)
  refine⟨Lm lt w.cs.length (vT y),Ds hs ⟨z0,by omega⟩ h5,vT y,N2,P2,L2,_,_,y::A1,rfl,by omega,m2,f2,p2,fun z hz=>?_,e1.trans e2,rfl⟩
  unfold aE
  split
  ·rfl
  ·exact u1 z hz
theorem De(m:bR H B C w N P L tops){lt:Int→Int→Bool}(hs:bm lt){x g t:Int}{A:List Int}(f:dI (aD w) lt (bZ N) ch par au W)(hp:I8 (ep L) ch par)(hg:aD w x=g)(QA:0<g)(da:g<tops.length)(hr:au g=t::A)(ht:bh tops g=t):
  af Tryz.prog oh [ptr B.n,i64 g,i64 x] H fun v H'=>ar (∃N' P' L' dH bB A',bR H' B C w N' P' L' tops∧dI (aD w) lt (bZ N') dH bB (aw au g (t::A')) W∧I8 (ep L') dH bB∧bB x= -1∧(∀z,par z= -1→bB z= -1)∧
   ag (fun z=>z=B.nb∨z=B.pb∨z=B.tb) H H'):=by
 obtain⟨y0,y1,_⟩:=aC (w:=w) (x:=x) (by omega)
 obtain⟨tv,o1,_⟩:=m.own
 obtain⟨a0,a1,a2,a3,a4⟩:=m.rd ⟨y0,y1⟩
 obtain⟨uy,_,_⟩:=hp x
 have hl:=m.len
 rw[uy]at a1
 refine aP oC ?_
 refine v1 (ae o1) ?_
 refine⟨⟨by omega,by omega⟩,?_⟩
 refine v4 (ae m.places) am9 Nat.add_zero a1 ?_
 refine ak.dec (fun h0=>?_) (fun h0=>?_)<;>refine vs ?_
 ·have e0:aw au g (t::A)=au:=by
   funext z
   unfold aw
   split
   ·rename_i e;rw[e,hr]
   ·rfl
  exact⟨N,P,L,ch,par,A,m,by rw[e0];exact f,hp,h0,fun _ h=>h,ag.refl _ _⟩
 have hxc:=f.pr.up x _ rfl h0
 obtain⟨_,_,h3,h4,h5⟩:=f.pr.dn _ _ hxc
 refine(z6 m hs f hp hxc hg da hr ht).mono ?_
 rintro _ H2 ⟨N2,P2,L2,l,m2,f2,p2,uc,e2⟩
 refine vs ?_
 refine(BN m2 hs (x:=par x) (A:=x::A) f2 p2 (by omega) QA da (by unfold aw;rw[if_pos rfl]) ht).mono ?_
 rintro _ H3 ⟨N3,P3,L3,Lf,nJ,A3,m3,f3,p3,u3,e3⟩
 rw[dY]at f3
 refine vs ?_
 exact⟨N3,P3,L3,Lf,nJ,A3,m3,f3,p3,u3 x (by unfold aE;rw[if_pos rfl]),fun z hz=>u3 z (by unfold aE;split;rfl;exact hz),e2.trans e3⟩
end
end Go.Proofs.YtjlnnljohemifaaGreat

namespace Go.Proofs.YtjlnnljohemifaaGreat
open Go Go.Vc
theorem Iv(a b:List Int):ws (a++b)=ws a++ws b:=by unfold ws;rw[apd]
theorem QP{l:List Int}{d:Nat}{y v:Int}(h:l[d]? =some y):(ws [y]++ws (l.set d v)).Perm (ws [v]++ws l):=by
 have hd:=(ana.1 h).1
 have e1:l=l.take d++y::l.drop (d+1):=by
  rw[am8 hd]at h
  injection h with h
  rw[←h,←aom hd,aoB]
 have e2:l.set d v=l.take d++v::l.drop (d+1):=by
  rw[List.set_eq_take_append_cons_drop,if_pos hd]
 rw[e2]
 generalize ha:l.take d=a at*
 generalize hb:l.drop (d+1)=b at*
 rw[e1,Iv,Iv,lz v b,lz y b,aoS]
 intro z
 simp only[ao7]
 omega
section
variable {H H' : Hp} {B : FB} {C V : Nat → Prop} {w : Nw} {N P : List Int} {L : List Pc} {tops : List Int} {ch : Int → List Int} {par : Int → Int} {au : Int → List Int} {W : List Int}
structure OI(w:Nw)(g:Int)(nx:Int→Int)(FF ch:Int→List Int)(par:Int→Int)(au:Int→List Int)(nU rest W0:List Int):Prop where
 f:dI (aD w) (aN w) nx ch par au (ws nU++(rest++W0))
 td:∀ (d:Nat) y,nU[d]? =some y→y≠ -1→(ch y).length=d∧aD w y=g
 rh:∀y∈rest,aD w y=g
 c0:∀z∈W0,ch z=FF z
 tl:nU.length≤w.cs.length+1
theorem GA(m:bR H B C w N P L tops){roots W0:List Int}{g:Int}{b o rc:Nat}{lb:List Value}(hb:H.own b=some lb)(eG:∀ (i:Nat) y,roots[i]? =some y→lb[o+i]? =some (i64 y))(U9:¬B.S C b)(t0:OI w g (bZ N) ch ch par au [] roots W0)(hp:I8 (ep L) ch par)(Ve:roots.length≤65536):
  af Tryz.prog rF [ptr B.n,.slice (some ⟨b,o,none⟩) roots.length rc] H fun v H'=>ar (∃N' P' L' dH bB nU fq,bR H' B C w N' P' L' tops∧OI w g (bZ N') ch dH bB au nU [] W0∧I8 (ep L') dH bB∧
   Sl H' 1 v nU.length (nU.map i64) fq∧(∀z,fq=some z→H.size≤z)∧ag (fun z=>C z∨z=B.nb∨z=B.pb∨z=B.tb) H H'):=by
 have vM:=m.cells.CY
 have Uc:=az hb
 have hS:=m.slt
 have ls:=aq w
 have Z0:∀ {z:Nat},(C z∨z=B.nb∨z=B.pb∨z=B.tb)→B.S C z:=fun h=>by
  rcases h with h|h|h|h
  ·exact .inl h
  ·exact .inr (.inr (.inr (.inl h)))
  ·exact .inr (.inr (.inr (.inr (.inl h))))
  ·exact .inr (.inr (.inr (.inr (.inr (.inl h)))))
 refine aP rR ?_
 refine vs ?_
 refine aT.intro (fun mm env H'=>∃ (i:Nat) (N' P':List Int) (L':List Pc) (dH:Int→List Int) (bB:Int→Int) (nU:List Int) (wv:Value) (fq:Option Nat),mm=roots.length - i∧i≤roots.length∧bR H' B C w N' P' L' tops∧OI w g (bZ N') ch dH bB au nU (roots.drop i) W0∧I8 (ep L') dH bB∧
   Sl H' 1 wv nU.length (nU.map i64) fq∧(∀z,fq=some z→H.size≤z)∧ag (fun z=>C z∨z=B.nb∨z=B.pb∨z=B.tb∨H.size≤z) H H'∧
   env=[(0,ptr B.n),(5,wv),(10,.slice (some ⟨b,o,none⟩) roots.length rc),(11,i64 roots.length),(12,i64 i)]) _ ⟨0,N,P,L,ch,par,[],_,none,rfl,by omega,m,t0,hp,Sl.nil _ _,(fun z h=>by cases h),ag.refl _ _,rfl⟩ ?_
 rintro mm env H1 ⟨i,N1,P1,L1,Nz,vT,nU,wv,fq,rfl,hi,m1,t1,p1,s1,I9,e1,rfl⟩
 refine vs ?_
 refine ak.dec (fun gi=>?_) (fun gi=>?_)<;>refine vs ?_
 rotate_left
 ·obtain rfl:i=roots.length:=by omega
  rw[List.drop_length]at t1
  exact⟨N1,P1,L1,Nz,vT,nU,fq,m1,t1,p1,s1,I9,e1.mono fun z hz h=>by
   rcases h with h|h|h|h|h
   ·exact .inl h
   ·exact .inr (.inl h)
   ·exact .inr (.inr (.inl h))
   ·exact .inr (.inr (.inr h))
   ·omega⟩
 have ly:i<roots.length:=by omega
 obtain⟨x,hx⟩:∃x,roots[i]? =some x:=⟨_,am8 ly⟩
 have dr:roots.drop i=x::roots.drop (i+1):=by
  rw[aom ly]
  congr 1
  rw[am8 ly]at hx
  injection hx
 have ob:H1.own b=some lb:=e1.own hb (fun h=>by
  rcases h with h|h|h|h|h
  ·exact U9 (Z0 (.inl h))
  ·exact U9 (Z0 (.inr (.inl h)))
  ·exact U9 (Z0 (.inr (.inr (.inl h))))
  ·exact U9 (Z0 (.inr (.inr (.inr h))))
  ·omega)
 refine⟨⟨by omega,by omega⟩,?_⟩
 refine v4 (ae ob) ane Int.toNat_natCast (eG i x hx) ?_
 rw[dr]at t1
 have ae3:x∈ws nU++(x::roots.drop (i+1)++W0):=by simp
 refine aT.intro (fun mm env H'=>∃ (x:Int) (N' P':List Int) (L':List Pc) (dH:Int→List Int) (bB:Int→Int) (nU:List Int) (wv:Value) (fq:Option Nat),mm=(ws nU).length∧bR H' B C w N' P' L' tops∧OI w g (bZ N') ch dH bB au nU (x::roots.drop (i+1)) W0∧I8 (ep L') dH bB∧
   Sl H' 1 wv nU.length (nU.map i64) fq∧(∀z,fq=some z→H.size≤z)∧ag (fun z=>C z∨z=B.nb∨z=B.pb∨z=B.tb∨H.size≤z) H H'∧
   env=[(0,ptr B.n),(5,wv),(7,i64 x),(10,.slice (some ⟨b,o,none⟩) roots.length rc),(11,i64 roots.length),(12,i64 i)]) _ ⟨x,N1,P1,L1,Nz,vT,nU,wv,fq,rfl,m1,t1,p1,s1,I9,e1,rfl⟩ ?_
 clear hx dr ae3 m1 t1 p1 s1 I9 e1 ob
 rintro mm env H2 ⟨x,N2,P2,L2,kL,iZ,nU,wv,fq,rfl,m2,t2,p2,s2,I9,e2,rfl⟩
 have tm:=t2.f.QO (x:=x) (by simp)
 have Np:=t2.rh x (by simp)
 have nj:=m2.len
 obtain⟨tv,o2,_⟩:=m2.own
 obtain⟨a0,a1,a2,a3,a4⟩:=m2.rd tm
 rw[(p2 x).2.2]at a3
 have lG:(kL x).length≤w.cs.length:=bU (t2.f.pr.nd x) fun c hc=>t2.f.FC hc
 refine v1 (ae o2) ?_
 refine⟨⟨by omega,by omega⟩,?_⟩
 refine v3 (ae m2.places) am9 a3 ?_
 refine aT.intro (fun mm env H'=>∃ (tb:List Int) (wv:Value) (fq:Option Nat),mm=(kL x).length+1 - tb.length∧ws tb=ws nU∧bR H' B C w N2 P2 L2 tops∧OI w g (bZ N2) ch kL iZ au tb (x::roots.drop (i+1)) W0∧
   Sl H' 1 wv tb.length (tb.map i64) fq∧(∀z,fq=some z→H.size≤z)∧ag (fun z=>C z∨z=B.nb∨z=B.pb∨z=B.tb∨H.size≤z) H H'∧
   env=[(0,ptr B.n),(5,wv),(7,i64 x),(8,i64 (kL x).length),(10,.slice (some ⟨b,o,none⟩) roots.length rc),(11,i64 roots.length),(12,i64 i)]) _ ⟨nU,wv,fq,rfl,rfl,m2,t2,s2,I9,e2,rfl⟩ ?_
 have UW:(ws nU).length≤w.cs.length:=by
  have h1:=bU t2.f.wn fun c hc=>t2.f.QO hc
  rw[ank]at h1
  omega
 clear t2 m2 s2 I9 e2 o2 a1 a2 a3 a4
 rintro mm env H3 ⟨tb,wv,fq,rfl,hws,m3,t3,s3,I9,e3,rfl⟩
 have z3:=e3.size
 have Lc:=t3.tl
 obtain⟨wa,wc,rfl⟩:=Sl.shape s3
 refine vs ?_
 refine ak.dec (fun gd=>?_) (fun gd=>?_)<;>refine vs ?_
 ·refine wB (B:=H.size) I9 z3 s3 (-1) (by omega) fun w' H4 Z1 QQ s4 e4=>?_
  refine vs ?_
  refine⟨(kL x).length+1 - (tb.length+1),by omega,tb++[-1],w',Z1,by simp,by rw[Iv,dO,if_pos rfl,an7,hws],m3.ext e4 (fun z hz dE=>by have:=hS z hz;omega),⟨?_,fun d y hd hy=>?_,t3.rh,t3.c0,?_⟩,s4,QQ,e3.trans (e4.mono fun z _ h=>.inr (.inr (.inr (.inr h)))),rfl⟩
  ·rw[Iv,dO,if_pos rfl,an7];exact t3.f
  ·rcases aoG d tb.length with h|h|h
   ·rw[anq h]at hd;exact t3.td d y hd hy
   ·subst h
    rw[anE (ano _),aos]at hd
    simp at hd
    exact absurd hd.symm hy
   ·rw[ans (by simp;omega)]at hd;cases hd
  ·rw[ank,ant];omega
 have iA:(kL x).length<tb.length:=by omega
 obtain⟨y,hy⟩:∃y,tb[(kL x).length]? =some y:=⟨_,am8 iA⟩
 obtain⟨_,qb,ql,rfl,q2,q3⟩:=Sl.xW s3 hy
 have hqb:fq=some qb:=by
  cases fq with
  |none=>have:=s3.2.2;injection this with h1;cases h1
  |some b'=>obtain⟨_,_,h1,_⟩:=s3.2;injection h1 with h1;injection h1 with h1;injection h1 with h1;rw[h1]
 subst hqb
 have hqs:=I9 qb rfl
 have ajR:=az q2
 have hql:=(ana.1 q3).1
 have hMq:∀z,B.S C z→z≠qb:=fun z hz e=>by have:=hS z hz;omega
 refine⟨⟨by omega,by omega⟩,?_⟩
 refine v5 (ae q2) am9 ane Int.toNat_natCast q3 ?_
 refine ak.dec (fun gy=>?_) (fun gy=>?_)<;>refine vs ?_
 ·refine⟨⟨by omega,by omega⟩,?_⟩
  refine v4 q2 am9 ane Int.toNat_natCast ?_
  refine⟨by omega,?_⟩
  have s4:=s3.sW q2 (kL x).length (i64 x)
  have e4:ag (fun z=>z=qb) H3 (H3.wr qb (ql.set (kL x).length (i64 x))):=(ag.refl (fun z=>z=qb) _).wr (fun _=>rfl) _
  refine vs ?_
  have uc:=QP (v:=x) hy
  rw[dO y,if_pos gy,dO x,if_neg (t3.f.XQ (c:=x) (by simp)),aoh]at uc
  have m4:=m3.ext e4 (fun z hz dE=>hMq z hz dE)
  have s5:Sl (H3.wr qb (ql.set (kL x).length (i64 x))) 1 (.slice (some ⟨qb,0,none⟩) (tb.set (kL x).length x).length wc) (tb.set (kL x).length x).length ((tb.set (kL x).length x).map i64) (some qb):=by
   rw[anb,anY];exact s4
  refine⟨roots.length - (i+1),by omega,i+1,N2,P2,L2,kL,iZ,tb.set (kL x).length x,_,some qb,rfl,by omega,m4,⟨?_,fun d z hd hz=>?_,fun z hz=>t3.rh z (by simp[hz]),t3.c0,by rw[anb];exact t3.tl⟩,p2,s5,I9,e3.trans (e4.mono fun z _ h=>.inr (.inr (.inr (.inr (by omega))))),?_⟩
  ·refine t3.f.perm ?_
   rw[aoS]at uc ⊢
   intro z
   have:=uc z
   simp only[ao7,aop,ao4]at this ⊢
   simp only[List.count_nil]at this
   omega
  ·by_cases h:d=(kL x).length
   ·rw[h,ani iA]at hd
    injection hd with hd
    subst hd
    exact⟨h.symm,Np⟩
   ·rw[anh (Ne.symm h)]at hd
    exact t3.td d z hd hz
  ·rw[wrap64 (by omega) (by omega),anb]
   rfl
 ·obtain⟨hyd,hyg⟩:=t3.td _ y hy gy
  have uc:=QP (v:= -1) hy
  rw[dO y,if_neg gy,dO (-1),if_pos rfl,aoh]at uc
  obtain⟨GB,QR⟩:∃GB,GB=tb.set (kL x).length (-1):=⟨_,rfl⟩
  have f4:dI (aD w) (aN w) (bZ N2) kL iZ au (y::x::(ws GB++(roots.drop (i+1)++W0))):=by
   refine t3.f.perm ?_
   rw[←QR]at uc
   rw[aoS]at uc ⊢
   intro z
   have:=uc z
   simp only[ao7,aop,aoh,ao4,List.count_nil]at this ⊢
   omega
  have ahm:(ws tb).length=(ws GB).length+1:=by
   rw[←QR]at uc
   have:=uc.length_eq
   simp only[aop,aoh,anw]at this
   omega
  have htd:∀ (d:Nat) z,GB[d]? =some z→z≠ -1→(kL z).length=d∧aD w z=g:=fun d z hd hz=>by
   rw[QR]at hd
   by_cases h:d=(kL x).length
   ·rw[h,ani iA]at hd
    injection hd with hd
    exact absurd hd.symm hz
   ·rw[anh (Ne.symm h)]at hd
    exact t3.td d z hd hz
  refine⟨⟨by omega,by omega⟩,?_⟩
  refine v4 q2 am9 ane Int.toNat_natCast ?_
  refine⟨by omega,?_⟩
  have s4:=s3.sW q2 (kL x).length (i64 (-1))
  have e4:ag (fun z=>z=qb) H3 (H3.wr qb (ql.set (kL x).length (i64 (-1)))):=(ag.refl (fun z=>z=qb) _).wr (fun _=>rfl) _
  have s5:Sl (H3.wr qb (ql.set (kL x).length (i64 (-1)))) 1 (.slice (some ⟨qb,0,none⟩) GB.length wc) GB.length (GB.map i64) (some qb):=by
   rw[QR,anb,anY];exact s4
  have yf:GB.length=tb.length:=by rw[QR,anb]
  refine vs ?_
  have m4:=m3.ext e4 (fun z hz dE=>hMq z hz dE)
  generalize H3.wr qb (ql.set (kL x).length (Value.int .i64 (-1)))=H4 at*
  obtain⟨ZQ,o4,_⟩:=m4.own
  refine v1 (ae o4) ?_
  refine(cA m4.cells y x).mono ?_
  rintro _ H5 ⟨rfl,c5,e5⟩
  have m5:=m4.aG c5 e5 rfl
  have lO:y≠x:=fun e=>by have:=f4.wn;rw[e]at this;simp at this
  have PU:0<aD w x:=(f4.wm x (by simp)).2.2
  rw[gF (w:=w) (a:=y) (b:=x) (by omega) PU]
  have s6:=s5.ext e5 (fun z hz dE=>by injection hz with hz;exact hMq z (.inl dE) hz.symm)
  obtain⟨p,q,M4,hl,f5,hpg⟩:∃p q,(if aN w y x=true then(p=y∧q=x)else(p=x∧q=y))∧aN w p q=true∧dI (aD w) (aN w) (bZ N2) kL iZ au (p::q::(ws GB++(roots.drop (i+1)++W0)))∧aD w p=g∧aD w q=g:=by
   cases aK:aN w y x
   ·exact⟨x,y,by simp,(ls.M8 x y lO.symm).resolve_right (by rw[aK];simp),f4.perm (List.Perm.swap ..),Np,hyg⟩
   ·exact⟨y,x,by simp,aK,f4,hyg,Np⟩
  cases aK:aN w y x<;>simp only[aK,if_true,if_false,aof]at M4<;>obtain⟨rfl,rfl⟩:=M4<;>refine vs ?_
  all_goals
   refine(EO m5 (x:=p) (y:=q) f5 p2 (by omega) hl).mono ?_
   rintro _ H6 ⟨N6,P6,L6,X9,Ml,m6,f6,p6,hc6,ho6,e6⟩
   have ZK:=f6.wn
   rw[anu]at ZK
   have s7:=s6.ext e6 (fun z hz dE=>by injection hz with hz;exact hMq z (Z0 (.inr dE)) hz.symm)
   refine vs ?_
   refine⟨(ws GB).length,by rw[←hws];omega,p,N6,P6,L6,X9,Ml,GB,_,some qb,rfl,m6,⟨?_,fun d z hd hz=>?_,fun z hz=>?_,fun z hz=>?_,by rw[yf];exact t3.tl⟩,p6,s7,I9,((e3.trans (e4.mono fun z _ h=>.inr (.inr (.inr (.inr (by omega)))))).trans (e5.mono fun z _ h=>.inl h)).trans (e6.mono fun z _ h=>by
    rcases h with h|h|h
    ·exact .inr (.inl h)
    ·exact .inr (.inr (.inl h))
    ·exact .inr (.inr (.inr (.inl h)))),by rw[yf]⟩
   ·refine f6.perm ?_
    rw[aoS]
    intro z
    simp only[ao7,aop,ao4]
    omega
   ·have hzp:z≠p:=fun e=>ZK.1 (by
     rw[←e]
     refine anr _ ?_
     unfold ws
     exact an6.2 ⟨ang hd,by simp[hz]⟩)
    rw[ho6 z hzp]
    exact htd d z hd hz
   ·rcases anm.1 hz with h|h
    ·rw[h];exact hpg.1
    ·exact t3.rh z (by simp[h])
   ·have hzp:z≠p:=fun e=>ZK.1 (by rw[←e];simp[hz])
    rw[ho6 z hzp]
    exact t3.c0 z hz
end
end Go.Proofs.YtjlnnljohemifaaGreat

namespace Go.Proofs.YtjlnnljohemifaaGreat
open Go Go.Vc
structure V0(w:Nw)(N:List Int)(L:List Pc)(tops:List Int)(ch:Int→List Int)(par:Int→Int)(au:Int→List Int):Prop where
 f:dI (aD w) (aN w) (bZ N) ch par au []
 pc:I8 (ep L) ch par
 tp:∀g,bh tops g=(au g).headD (-1)
 ls:∀g y,0<g→aD w y=g→bh tops g≠ -1∧(y≠bh tops g→aN w (bh tops g) y=true)
 tl:tops.length=w.hs.length
def is(n:Nat)(H:Hp)(S:Nat→Prop)(w:Nw):Prop:=∃ (B:FB) (C:Nat→Prop) (N P:List Int) (L:List Pc) (tops:List Int) (ch:Int→List Int) (par:Int→Int) (au:Int→List Int),B.n=n∧bR H B C w N P L tops∧V0 w N L tops ch par au∧∀z,S z↔B.S C z
theorem is.slt{n:Nat}{H:Hp}{S:Nat→Prop}{w:Nw}(h:is n H S w):∀z,S z→z<H.size:=by
 obtain⟨B,C,N,P,L,tops,ch,par,au,rfl,m,l,hS⟩:=h
 exact fun z hz=>m.slt z ((hS z).1 hz)
theorem is.ext{n:Nat}{H H':Hp}{S V:Nat→Prop}{w:Nw}(h:is n H S w)(e:ag V H H')(hd:∀z,S z→¬V z):is n H' S w:=by
 obtain⟨B,C,N,P,L,tops,ch,par,au,rfl,m,l,hS⟩:=h
 exact⟨B,C,N,P,L,tops,ch,par,au,rfl,m.ext e (fun z hz=>hd z ((hS z).2 hz)),l,hS⟩
theorem V0.first{w:Nw}{N:List Int}{L:List Pc}{tops:List Int}{ch:Int→List Int}{par:Int→Int}{au:Int→List Int}(l:V0 w N L tops ch par au){g x:Int}(h:w.first g x):bh tops g=x:=by
 obtain⟨h1,h2,h3⟩:=bH.1 h
 obtain⟨h4,h5⟩:=l.ls g x h1 h2
 apply anC
 intro aM
 have h6:=h5 (Ne.symm aM)
 have ht:aD w (bh tops g)=g:=by
  have hm:bh tops g∈au g:=by
   have:=l.tp g
   rw[this]at h4 ⊢
   exact dX h4
  exact(l.f.rm g _ hm).1
 have h7:=h3 _ ht aM
 rw[(aq w).asym h6]at h7
 cases h7
theorem z7{n:Nat}{H:Hp}{S:Nat→Prop}{w:Nw}(h:is n H S w)(g:Int):af Tryz.prog jX [ptr n,i64 g] H fun v H'=>ar (
  ((w.len g=0∧v= .tuple [i64 0,.bool false].toArray)∨∃x,w.first g x∧v= .tuple [i64 x,.bool true].toArray)∧H'=H):=by
 obtain⟨B,C,N,P,L,tops,ch,par,au,rfl,m,l,hS⟩:=h
 obtain⟨cc,lt,ho,q2,ue,qJ,Nq⟩:=m.fG
 refine aP sP ?_
 refine v1 (ae ho) ?_
 refine(tf m.cells g).mono ?_
 rintro _ _ ⟨rfl,rfl⟩
 refine vs ?_
 refine ak.dec (fun h0=>?_) (fun h0=>?_)
 ·refine vs ?_
  exact⟨.inl ⟨h0,rfl⟩,rfl⟩
 have hg:0<g:=anC fun hg=>h0 (Nw.Gr.2 (.inl (by omega)))
 obtain⟨x,hx⟩:=te hg h0
 have hh:=(bH.1 hx).2.1
 have da:=((m.cells.hm x).2 (by omega)).2
 rw[hh,←l.tl]at da
 have q3:=m.eC q2 (dL (tops:=tops) (h:=g) (by omega) da)
 rw[l.first hx]at q3
 refine v1 (ae ho) ?_
 refine⟨⟨by omega,by omega⟩,?_⟩
 refine v4 (ae q2) am9 ane q3 ?_
 exact⟨.inr ⟨x,hx,rfl⟩,rfl⟩
theorem Df{n:Nat}{H:Hp}{S:Nat→Prop}{w:Nw}(h:is n H S w)(g x k s:Int):af Tryz.prog hX [ptr n,i64 g,i64 x,rZ k s] H fun v H'=>ar (
  (¬w.kT g x∧v= .bool false∧cr (is n) S H H' w)∨(w.kT g x∧v= .bool true∧cr (is n) S H H' (w.put x (g,k,s)))):=by
 obtain⟨B,C,N,P,L,tops,ch,par,au,rfl,m,l,hS⟩:=h
 have hC:∀z,C z→S z:=fun z h=>(hS z).2 (.inl h)
 refine aP oB ?_
 refine vs ?_
 have f0:ah H (H.new 224 [i64 k,u64 s]):=(ag.refl _ _).new _ _
 have b0:(H.new 224 [i64 k,u64 s]).own H.size=some [i64 k,u64 s]:=ax _ _ _
 have m0:=m.fresh f0
 generalize H.new 224 [i64 k,u64 s]=H0 at*
 have ff:ag S H H0:=f0.mono fun _ _ h=>h.elim
 obtain⟨tv,Gv,_⟩:=m0.own
 refine v2 (ae Gv) (ae b0) ?_
 refine(j9 m0.cells g x k s).mono ?_
 rintro _ H1 (⟨bJ,rfl,c1,e1⟩| ⟨oO,rfl,c1,e1⟩)
 ·refine vs ?_
  exact .inl ⟨bJ,rfl,cr.same ⟨B,C,N,P,L,tops,ch,par,au,rfl,m0.aG c1 e1 rfl,l,hS⟩ (ff.trans (e1.mono fun z _ hz=>hC z hz))⟩
 obtain⟨hh,hx,bE⟩:=id oO
 have m2:=m0.aG c1 e1 (by simp[Nw.put])
 have hg:=hh.1
 have da:g<tops.length:=by
  have:=(ana.1 hh.2).1
  have:=l.tl
  omega
 have cH:=fun y=>dK hx (g,k,s) y
 have fO:aD w x≤0:=Int.not_lt.1 fun h=>bE (bk.1 h)
 have el:∀a b,0<aD w a→0<aD w b→a≠x→b≠x→aN (w.put x (g,k,s)) a b=aN w a b:=fun a b ha hb sj lm=>di hx _ ha hb sj lm
 have f2:dI (aD (w.put x (g,k,s))) (aN (w.put x (g,k,s))) (bZ N) ch par au (x::[]):=l.f.put (g:=g) rfl fO (by omega) (by omega) (by rw[cH,if_pos rfl]) (fun y hy=>by rw[cH,if_neg hy]) el
 refine vs ?_
 refine(wL m2 f2 (by rw[cH,if_pos rfl]) da (l.tp g)).mono ?_
 rintro _ H3 ⟨N3,P3,Z2,ll,m3,Qw,ht3,f3,I4,Io,Sg,Z3,e3⟩
 refine vs ?_
 have hhm:∀y,aD w y=g→y≠x:=fun y hy e=>by rw[e]at hy;omega
 have hTg:bh tops g≠ -1→aD w (bh tops g)=g:=fun h=>by
  have hm:bh tops g∈au g:=by
   have:=l.tp g
   rw[this]at h ⊢
   exact dX h
  exact(l.f.rm g _ hm).1
 refine .inr ⟨oO,rfl,cr.same ⟨B,C,N3,P3,L,Z2,ch,par,_,rfl,m3,⟨f3,l.pc,fun g2=>?_,fun g2 y BO hy=>?_,by rw[Qw];exact l.tl⟩,hS⟩ ((ff.trans (e1.mono fun z _ h=>hC z h)).trans (e3.mono fun z _ h=>by
  rcases h with h|h|h|h
  ·exact hC z h
  ·exact(hS z).2 (.inr (.inr (.inr (.inl h))))
  ·exact(hS z).2 (.inr (.inr (.inr (.inr (.inl h)))))
  ·exact(hS z).2 (.inr (.inr (.inr (.inr (.inr (.inr h))))))))⟩
 ·rw[ht3]
  unfold iD aw
  split
  ·rfl
  ·exact l.tp g2
 ·rw[ht3]
  unfold iD
  rw[cH]at hy
  by_cases h2:g2=g
  ·rw[if_pos h2]
   refine⟨Io,fun aM=>?_⟩
   by_cases lO:y=x
   ·rw[lO]at aM ⊢
    exact Sg aM
   ·rw[if_neg lO]at hy
    obtain⟨h3,h4⟩:=l.ls g y (by omega) (by omega)
    have Z4:=hhm _ (hTg h3)
    rcases I4 with h5| ⟨h5,_⟩
    ·rw[h5]at aM Z3 ⊢
     have h6:=Z3 h3 Z4
     by_cases hyT:y=bh tops g
     ·rw[hyT];exact h6
     ·have h7:=h4 hyT
      rw[←el _ _ (by rw[hTg h3];omega) (by omega) Z4 lO]at h7
      exact(aq _).tr _ _ _ h6 h7
    ·rw[h5]at aM ⊢
     rw[el _ _ (by rw[hTg h3];omega) (by omega) Z4 lO]
     exact h4 aM
  ·rw[if_neg h2]
   have lO:y≠x:=fun e=>by rw[if_pos e]at hy;exact h2 hy.symm
   rw[if_neg lO]at hy
   obtain⟨h3,h4⟩:=l.ls g2 y BO hy
   refine⟨h3,fun aM=>?_⟩
   have Z4:bh tops g2≠x:=fun e=>by
    have hm:bh tops g2∈au g2:=by
     have:=l.tp g2
     rw[this]at h3 ⊢
     exact dX h3
    have h5:=(l.f.rm g2 _ hm).1
    rw[e]at h5
    omega
   have hT2:aD w (bh tops g2)=g2:=by
    have hm:bh tops g2∈au g2:=by
     have:=l.tp g2
     rw[this]at h3 ⊢
     exact dX h3
    exact(l.f.rm g2 _ hm).1
   rw[el _ _ (by omega) (by omega) Z4 lO]
   exact h4 aM
theorem bR.bounds{H:Hp}{B:FB}{C:Nat→Prop}{w:Nw}{N P:List Int}{L:List Pc}{tops:List Int}(m:bR H B C w N P L tops):w.cs.length≤65536∧N.length=w.cs.length:=⟨m.cells.CY,m.len.2⟩
theorem tA{w:Nw}:∀x,0<aD w x→0≤x∧x<w.cs.length:=fun x h=>by
 obtain⟨a,b,_⟩:=aC h
 exact⟨a,b⟩
theorem BP{n:Nat}{H:Hp}{S:Nat→Prop}{w:Nw}(h:is n H S w)(g:Int):af Tryz.prog gB [ptr n,i64 g] H fun v H'=>ar (
  (w.len g=0∧v= .tuple [i64 0,.bool false].toArray∧cr (is n) S H H' w)∨(∃x,w.first g x∧v= .tuple [i64 x,.bool true].toArray∧cr (is n) S H H' (w.put x (0,0,0)))):=by
 refine aP nu ?_
 refine vs ?_
 refine(z7 h g).mono ?_
 rintro _ H' ⟨⟨h0,rfl⟩| ⟨x,hx,rfl⟩,e⟩
 ·obtain rfl:=e.symm
  refine vs ?_
  exact .inl ⟨h0,rfl,cr.same h (ag.refl _ _)⟩
 obtain rfl:=e.symm
 refine vs ?_
 obtain⟨B,C,N,P,L,tops,ch,par,au,rfl,m,l,hS⟩:=h
 obtain⟨hg,Np,lG⟩:=bH.1 hx
 have Y9:=l.first hx
 have fO:=tA (w:=w) x (by omega)
 have ls:=aq w
 obtain⟨A,hr⟩:∃A,au g=x::A:=by
  have h1:=l.tp g
  rw[Y9]at h1
  cases hc:au g with
  |nil=>rw[hc]at h1;exact absurd h1 (by show¬x= -1;omega)
  |cons c r=>rw[hc]at h1;exact⟨r,by rw[show x=c from h1]⟩
 have da:g<tops.length:=by
  have:=((m.cells.hm x).2 (by omega)).2
  have:=l.tl
  omega
 refine(EP m l.f l.pc hr).mono ?_
 rintro _ H1 ⟨N1,P1,L1,A1,m1,f1,p1,e1⟩
 have GC:aw au g (x::A1) g=x::A1:=by unfold aw;rw[if_pos rfl]
 obtain⟨BB,o1,_⟩:=m1.own
 obtain⟨wA,hN1⟩:=m1.bounds
 have wS:=f1.rc g
 have fW:=f1.rn g
 rw[GC]at wS fW
 have bE:∀c∈x::A1,0≤c∧c<w.cs.length:=fun c hc=>f1.rin (g:=g) (by rw[GC];exact hc)
 have R2:∀c∈x::A1,aD w c=g:=fun c hc=>(f1.rm g c (by rw[GC];exact hc)).1
 have aV:=bU fW bE
 rw[anw]at aV
 refine v1 (ae o1) ?_
 refine(nI m1.ring wS fW (fun c hc=>by have:=bE c hc;omega) (by omega)).mono ?_
 rintro rv H2 ⟨b2,s2,nA,f2⟩
 obtain⟨ra,rc,rfl⟩:=Sl.shape s2
 have m2:=m1.fresh f2
 have z2:=f2.size
 obtain⟨LW,o2,_⟩:=m2.own
 have hS1:=m1.slt
 have ae6:¬B.S C b2:=fun h=>by have:=hS1 _ h;omega
 obtain⟨_,l2,c2,et,q2,Fy,Vz,OC⟩:=id s2
 injection et with et ajU Z5
 subst et Z5
 rw[ane]at Vz OC
 have ny:(x::A1).length=A1.length+1:=anw
 refine vs ?_
 refine⟨⟨by omega,by omega,by omega,by omega⟩,?_⟩
 refine vs ?_
 obtain⟨o,eG,Qd⟩:∃o,(∀ (i:Nat) y,A1[i]? =some y→l2[o+i]? =some (i64 y))∧(Value.slice (if(rc:Int)=1 then some ⟨b2,0,none⟩else some ⟨b2,1,none⟩) A1.length (rc - 1))= .slice (some ⟨b2,o,none⟩) A1.length (rc - 1):=by
  rw[anw]at Fy OC
  by_cases h1:(rc:Int)=1
  ·refine⟨0,fun i y hy=>?_,by rw[if_pos h1]⟩
   have:=(ana.1 hy).1
   omega
  ·refine⟨1,fun i y hy=>?_,by rw[if_neg h1]⟩
   have hi:=(ana.1 hy).1
   have h7:((x::A1).map i64)[1+i]? =some (i64 y):=by rw[Nat.add_comm,an3,aod,anA,hy];rfl
   rw[←OC,anP,if_pos (by omega)]at h7
   exact h7
 have hv8:∀ (OJ:Decidable ((rc:Int)=1)),Value.slice (@ite (Option Addr) ((rc:Int)=1) OJ (some (⟨b2,0,none⟩:Addr)) (Option.map (fun(x:Addr)=>x.add (Int.toNat 1*1)) (some (⟨b2,0,none⟩:Addr)))) (((A1.length+1:Nat):Int).toNat - Int.toNat 1) ((rc:Int).toNat - Int.toNat 1)=Value.slice (some ⟨b2,o,none⟩) A1.length (rc - 1):=fun OJ=>by
  rw[show((A1.length+1:Nat):Int).toNat - Int.toNat 1=A1.length by simp,show(rc:Int).toNat - Int.toNat 1=rc - 1 by simp,←Qd]
  by_cases h1:(rc:Int)=1
  ·rw[if_pos h1,if_pos h1]
  ·rw[if_neg h1,if_neg h1];rfl
 rw[hv8]
 generalize hR8:Value.slice (some ⟨b2,o,none⟩) A1.length (rc - 1)=R8 at*
 have Up:S B.nb:=(hS _).2 (.inr (.inr (.inr (.inl rfl))))
 have GB:S B.pb:=(hS _).2 (.inr (.inr (.inr (.inr (.inl rfl)))))
 have tb3:S B.tb:=(hS _).2 (.inr (.inr (.inr (.inr (.inr (.inl rfl))))))
 have Z6:S B.tp:=(hS _).2 (.inr (.inr (.inr (.inr (.inr (.inr rfl))))))
 have hC:∀z,C z→S z:=fun z h=>(hS z).2 (.inl h)
 have nT:ag S H H2:=(e1.mono fun z _ h=>by
  rcases h with h|h|h
  ·exact h▸Up
  ·exact h▸GB
  ·exact h▸tb3).trans (f2.mono fun _ _ h=>h.elim)
 refine v1 (ae o2) ?_
 refine(nI m2.ring wS fW (fun c hc=>by have:=bE c hc;omega) (by omega)).mono ?_
 rintro rv H3 ⟨b3,s3,SI,f3⟩
 obtain⟨ka,kc,rfl⟩:=Sl.shape s3
 have m3:=m2.fresh f3
 have q3:=f3.own q2 (fun h=>h)
 have z3:=f3.size
 have C3:ag S H H3:=nT.trans (f3.mono fun _ _ h=>h.elim)
 have ajX:¬B.S C b3:=fun h=>by have:=hS1 _ h;omega
 have Ya:∀z,S z→z<H1.size:=fun z hz=>hS1 z ((hS z).1 hz)
 refine vs ?_
 refine aT.intro (fun mm env H'=>∃ (i:Nat) (N' P':List Int),mm=(x::A1).length - i∧i≤(x::A1).length∧bR H' B C w N' P' L1 tops∧dI (aD w) (aN w) (bZ N') (aw ch x []) (eV ch par x) (aw au g ((x::A1).drop i)) ((x::A1).take i).reverse∧
  Sl H' 1 (.slice ka (x::A1).length kc) (x::A1).length ((x::A1).map i64) (some b3)∧ag (fun z=>z=B.nb∨z=B.pb) H3 H'∧
  env=[(0,ptr B.n),(1,i64 g),(6,i64 x),(8,R8),(36,.slice ka (x::A1).length kc),(37,i64 (x::A1).length),(38,i64 i)]) _ ⟨0,N1,P1,rfl,by omega,m3,f1,s3,ag.refl _ _,rfl⟩ ?_
 rintro mm env H4 ⟨i,N4,P4,rfl,hi,m4,f4,s4,e4,rfl⟩
 obtain⟨ZQ,o4,_⟩:=m4.own
 refine vs ?_
 refine ak.dec (fun gi=>?_) (fun gi=>?_)<;>refine vs ?_
 ·have ly:i< (x::A1).length:=by omega
  obtain⟨c,FG⟩:∃c,(x::A1)[i]? =some c:=⟨_,am8 ly⟩
  have D7:=bE c (ang FG)
  obtain⟨_,kb,lb,rfl,qb,qc⟩:=Sl.xW s4 FG
  have hkb:kb=b3:=by
   obtain⟨_,_,_,hh,_⟩:=s4
   injection hh with hh
   injection hh with hh
   injection hh with hh
  have dr:(x::A1).drop i=c::(x::A1).drop (i+1):=by
   rw[aom ly]
   congr 1
   rw[am8 ly]at FG
   injection FG
  have tk:(x::A1).take (i+1)=(x::A1).take i++[c]:=by rw[anN,FG];rfl
  have SY:=m4.len
  refine⟨⟨by omega,by omega⟩,?_⟩
  refine v6 (ae qb) am9 ane Int.toNat_natCast qc (ae o4) ?_
  refine(mC m4.ring m4.inv (x:=c) (by omega)).mono ?_
  rintro _ H5 ⟨rfl,N5,P5,r5,l5,n5,i5,e5⟩
  have m5:=m4.tw r5 i5 e5 l5
  have f5:=f4.aB (x:=c) (g:=g) (A:=(x::A1).drop (i+1)) m4.inv (by unfold aw;rw[if_pos rfl];exact dr)
  rw[dY,←n5]at f5
  refine vs ?_
  refine⟨(x::A1).length - (i+1),by omega,i+1,N5,P5,rfl,by omega,m5,?_,s4.ext e5 (fun z hz h=>by
   injection hz with hz
   subst hz
   have h1:=Ya _ Up
   have h2:=Ya _ GB
   omega),e4.trans e5,?_⟩
  ·rw[tk,List.reverse_append]
   exact f5
  ·rw[wrap64 (by omega) (by omega)]
   rfl
 obtain rfl:i=(x::A1).length:=by omega
 rw[List.drop_length,anJ]at f4
 have ul:ag S H H4:=C3.trans (e4.mono fun z _ h=>by
  rcases h with h|h
  ·exact h▸Up
  ·exact h▸GB)
 have z4:=e4.size
 have q4:=e4.own q3 (fun h=>by
  have h1:=Ya _ Up
  have h2:=Ya _ GB
  omega)
 obtain⟨cc,lt4,o4',q5,ue,qJ,Nq⟩:=m4.fG
 refine v1 (ae o4') ?_
 refine⟨⟨by omega,by omega⟩,?_⟩
 refine v3 q5 am9 ane ?_
 refine⟨by omega,?_⟩
 obtain⟨m5,e5⟩:=m4.kj q5 g.toNat (-1)
 refine vs ?_
 have q6:=e5.own q4 (fun h=>by
  have h1:=Ya _ Z6
  omega)
 have Ul:=ul.trans (e5.mono fun z _ h=>h▸Z6)
 have z5:=e5.size
 generalize H4.wr B.tp (lt4.set g.toNat (Value.int .i64 (-1)))=H5 at*
 have t0:OI w g (bZ N4) (aw ch x []) (aw ch x []) (eV ch par x) (aw au g []) [] A1 [x]:=by
  refine⟨f4.perm ?_,fun d y hd=>by simp at hd,fun y hy=>R2 y (by simp[hy]),fun _ _=>rfl,by simp⟩
  show List.Perm _ (A1++[x])
  exact(List.reverse_perm _).trans (aoc (l₁:=[x]) (l₂:=A1))
 have ae8:¬B.S C b2:=ae6
 subst hR8
 refine(GA m5 q6 eG ae8 t0 p1 (by omega)).mono ?_
 rintro tv H6 ⟨N6,P6,L6,X9,Ml,nU,fq,m6,t6,p6,s6,I9,e6⟩
 obtain⟨ta,tc,rfl⟩:=Sl.shape s6
 have Lc:=t6.tl
 have Ke:ag S H H6:=Ul.trans (e6.mono fun z _ h=>by
  rcases h with h|h|h|h
  ·exact hC z h
  ·exact h▸Up
  ·exact h▸GB
  ·exact h▸tb3)
 refine vs ?_
 have hf6:=t6.f
 rw[aoh]at hf6
 have V5:bh (tops.set g.toNat (-1))=iD (bh tops) g (([]:List Int).headD (-1)):=ec (by omega) da (-1)
 refine aT.intro (fun mm env H'=>∃ (i:Nat) (N' P' EN l':List Int),mm=nU.length - i∧i≤nU.length∧bR H' B C w N' P' L6 EN∧EN.length=tops.length∧bh EN=iD (bh tops) g (l'.headD (-1))∧
  dI (aD w) (aN w) (bZ N') X9 Ml (aw au g l') (ws (nU.drop i)++[x])∧
  (∀c,aD w c=g→Ml c= -1→c∉ws (nU.drop i)++[x]→l'.headD (-1)≠ -1∧(c≠l'.headD (-1)→aN w (l'.headD (-1)) c=true))∧
  Sl H' 1 (.slice ta nU.length tc) nU.length (nU.map i64) fq∧ag S H6 H'∧
  env=[(0,ptr B.n),(1,i64 g),(6,i64 x),(57,.slice ta nU.length tc),(58,i64 nU.length),(59,i64 i)]) _ ⟨0,N6,P6,_,[],rfl,by omega,m6,by rw[anb],V5,hf6,fun c h1 h2 h3=>?_,s6,ag.refl _ _,rfl⟩ ?_
 ·exfalso
  rcases hf6.jg c (by omega) h2 with h4|h4
  ·rw[h1]at h4
   unfold aw at h4
   rw[if_pos rfl]at h4
   cases h4
  ·exact h3 h4
 rintro mm env H7 ⟨i,N7,P7,Kj,l7,rfl,hi7,m7,hl7,Yb,f7,d7,s7,e7,rfl⟩
 have ajZ:nU.length≤65537:=by omega
 refine vs ?_
 refine ak.dec (fun gi=>?_) (fun gi=>?_)<;>refine vs ?_
 ·have ly:i<nU.length:=by omega
  obtain⟨r,hrr⟩:∃r,nU[i]? =some r:=⟨_,am8 ly⟩
  obtain⟨_,kb,lb,rfl,qb,qc⟩:=Sl.xW s7 hrr
  have hkb:fq=some kb:=by
   cases fq with
   |none=>have:=s7.2.2;injection this with h1;cases h1
   |some b'=>obtain⟨_,_,h1,_⟩:=s7.2;injection h1 with h1;injection h1 with h1;injection h1 with h1;rw[h1]
  have aj0:=I9 kb hkb
  have dr:nU.drop i=r::nU.drop (i+1):=by
   rw[aom ly]
   congr 1
   rw[am8 ly]at hrr
   injection hrr
  refine⟨⟨by omega,by omega⟩,?_⟩
  refine v5 (ae qb) am9 ane Int.toNat_natCast qc ?_
  rw[dr,lz,dO]at f7 d7
  refine ak.dec (fun gr=>?_) (fun gr=>?_)<;>refine vs ?_
  rotate_left
  ·rw[if_neg gr]at f7 d7
   simp only[aop,aoh]at f7 d7
   obtain⟨_,rq⟩:=t6.td i r hrr gr
   have Yc:bh Kj g=l7.headD (-1):=by rw[Yb];unfold iD;rw[if_pos rfl]
   refine(wL m7 f7 rq (by omega) (by rw[Yc];unfold aw;rw[if_pos rfl])).mono ?_
   rintro _ H8 ⟨N8,P8,Z7,l8,m8,hl8,ht8,f8,I4,Io,Sg,Z3,e8⟩
   rw[dY]at f8
   rw[Yc]at Z3
   have e8':ag S H7 H8:=e8.mono fun z _ h=>by
    rcases h with h|h|h|h
    ·exact hC z h
    ·exact h▸Up
    ·exact h▸GB
    ·exact h▸Z6
   refine vs ?_
   refine⟨nU.length - (i+1),by omega,i+1,N8,P8,Z7,l8,rfl,by omega,m8,by omega,?_,f8,fun c h1 h2 h3=>⟨Io,fun aM=>?_⟩,s7.ext e8' (fun z hz h=>by
    rw[hkb]at hz
    injection hz with hz
    subst hz
    have:=Ya _ h
    omega),e7.trans e8',?_⟩
   ·rw[ht8,Yb]
    funext z
    unfold iD
    split<;>rfl
   ·by_cases XO:c=r
    ·rw[XO]at aM ⊢
     exact Sg aM
    ·obtain⟨h4,h5⟩:=d7 c h1 h2 (by
      simp only[anm,not_or]
      exact⟨XO,h3⟩)
     by_cases h6:l7.headD (-1)=l8.headD (-1)
     ·rw[←h6]at aM ⊢
      exact h5 aM
     ·have h7:=Z3 h4 h6
      by_cases h8:c=l7.headD (-1)
      ·rw[h8];exact h7
      ·exact ls.tr _ _ _ h7 (h5 h8)
   ·rw[wrap64 (by omega) (by omega)]
    rfl
  ·rw[if_pos gr]at f7 d7
   rw[aoh]at f7 d7
   refine⟨nU.length - (i+1),by omega,i+1,N7,P7,Kj,l7,rfl,by omega,m7,hl7,Yb,f7,d7,s7,e7,?_⟩
   rw[wrap64 (by omega) (by omega)]
   rfl
 obtain rfl:i=nU.length:=by omega
 rw[List.drop_length]at f7 d7
 have hw0:ws ([]:List Int)++[x]=[x]:=rfl
 rw[hw0]at f7 d7
 obtain⟨tv7,o7,_⟩:=m7.own
 refine v1 (ae o7) ?_
 refine(bY m7.cells x).mono ?_
 have afa:cS w.cs x:=bk.1 (by omega)
 rintro _ H8 (⟨bJ,_,_⟩| ⟨_,rfl,c8,e8⟩)
 ·exact absurd afa bJ
 have m8:=m7.aG c8 e8 (by simp[Nw.put])
 refine vs ?_
 have cH:=fun y=>dK (w:=w) fO (0,0,0) y
 have w0:aD (w.put x (0,0,0)) (-1)=0:=rfl
 have w1:aD (w.put x (0,0,0)) x=0:=by rw[cH,if_pos rfl]
 have w2:∀y,y≠x→aD (w.put x (0,0,0)) y=aD w y:=fun y hy=>by rw[cH,if_neg hy]
 have el:∀a b,0<aD w a→0<aD w b→a≠x→b≠x→aN (w.put x (0,0,0)) a b=aN w a b:=fun a b ha hb sj lm=>di fO _ ha hb sj lm
 have f8:=f7.drop (hm':=aD (w.put x (0,0,0))) (lt':=aN (w.put x (0,0,0))) (by
  rw[t6.c0 x (by simp)]
  unfold aw
  rw[if_pos rfl]) w0 w1 w2 el
 have hrm:∀g2 c,c∈aw au g l7 g2→aD w c=g2∧c≠x:=fun g2 c hc=>by
  obtain⟨h1,_,_,h4⟩:=f7.rm g2 c hc
  exact⟨h1,fun e=>h4 (by simp[e])⟩
 refine .inr ⟨x,hx,rfl,cr.same ⟨B,C,N7,P7,L6,Kj,X9,Ml,_,rfl,m8,⟨f8,p6,fun g2=>?_,fun g2 y BO hy=>?_,by rw[hl7];exact l.tl⟩,hS⟩ ((Ke.trans e7).trans (e8.mono fun z _ h=>hC z h))⟩
 ·rw[Yb]
  unfold iD aw
  split
  ·rfl
  ·exact l.tp g2
 ·by_cases h2:g2=g
  ·have Yc:bh Kj g2=l7.headD (-1):=by rw[Yb,h2];unfold iD;rw[if_pos rfl]
   rw[Yc]
   refine f8.pr.lead (aq _) (fun z hz=>tA z hz) BO (fun c hc T3=>?_) hy
   have eU:c≠x:=fun e=>by rw[e,w1]at hc;omega
   rw[w2 c eU]at hc
   obtain⟨h3,h4⟩:=d7 c (by omega) T3 (by simp[eU])
   refine⟨h3,fun aM=>?_⟩
   obtain⟨h5,h6⟩:=hrm g _ (show l7.headD (-1)∈aw au g l7 g by unfold aw;rw[if_pos rfl];exact dX h3)
   rw[el _ _ (by omega) (by omega) h6 eU]
   exact h4 aM
  ·have Yc:bh Kj g2=bh tops g2:=by rw[Yb];unfold iD;rw[if_neg h2]
   rw[Yc]
   have lO:y≠x:=fun e=>by rw[e,w1]at hy;omega
   rw[w2 y lO]at hy
   obtain⟨h3,h4⟩:=l.ls g2 y BO hy
   refine⟨h3,fun aM=>?_⟩
   have h5:aD w (bh tops g2)=g2:=by
    have hm:bh tops g2∈au g2:=by
     have:=l.tp g2
     rw[this]at h3 ⊢
     exact dX h3
    exact(l.f.rm g2 _ hm).1
   rw[el _ _ (by omega) (by omega) (fun e=>by rw[e]at h5;omega) lO]
   exact h4 aM
theorem GD{n:Nat}{H:Hp}{S:Nat→Prop}{w:Nw}(h:is n H S w):af Tryz.prog jq [ptr n] H fun v H'=>ar (
  (w.hs.length=65537∧v=i64 0∧cr (is n) S H H' w)∨(w.hs.length≠65537∧v=i64 w.hs.length∧cr (is n) S H H' w.make)):=by
 obtain⟨B,C,N,P,L,tops,ch,par,au,rfl,m,l,hS⟩:=id h
 obtain⟨tv,ho,yD⟩:=m.own
 refine aP rQ ?_
 refine v1 (ae ho) ?_
 refine(iW m.cells).mono ?_
 rintro _ H1 (⟨h1,rfl,rfl⟩| ⟨h1,rfl,C',c1,e1,ya⟩)
 ·refine vs ?_
  exact .inl ⟨h1,rfl,cr.same h (ag.refl _ _)⟩
 have fP:=m.cells.pos
 have hhs:=m.cells.yD
 have Lc:=l.tl
 have slt:=m.slt
 have Kc:=c1.slt
 obtain⟨n1,n2,n3,n4,n5,n6⟩:=m.out
 obtain⟨⟨d1,d2,d3,d4,d5⟩,⟨d6,d7,d8,d9⟩,⟨d10,d11,d12⟩⟩:=m.lj
 have o1:=e1.own ho n1
 refine vs ?_
 refine ak.cK (anp (by omega)) ?_
 refine v1 (ae o1) ?_
 have s1:=yD.ext e1 (fun b hb=>by injection hb with hb;exact hb▸n6)
 refine Qf s1 (-1) (by omega) fun w' H2 b' jz s2 e2=>?_
 have o2:=e2.own o1 d5
 obtain⟨wa,wc,Nr⟩:=Sl.shape s2
 subst Nr
 refine v1 o2 ?_
 generalize Nr:Value.slice wa (tops++[-1]).length wc=w' at*
 have e3:ag (fun z=>z=B.n) H2 (H2.wr B.n [ptr B.c,ptr B.r,.slice (some ⟨B.tb,0,none⟩) L.length L.length,w']):=(ag.refl (fun z=>z=B.n) _).wr (fun _=>rfl) _
 have z1:=e1.size
 have q1:=slt _ (.inr (.inl rfl))
 have q2:=slt _ (.inr (.inr (.inl rfl)))
 have q3:=slt _ (.inr (.inr (.inr (.inl rfl))))
 have q4:=slt _ (.inr (.inr (.inr (.inr (.inl rfl)))))
 have q5:=slt _ (.inr (.inr (.inr (.inr (.inr (.inl rfl))))))
 have q6:=slt _ (.inr (.inr (.inr (.inr (.inr (.inr rfl))))))
 have Ez:∀z,C' z→z≠b'∧(z<H.size→C z):=fun z hz=>by
  have h5:=Kc z hz
  rcases ya z hz with h6|h6
  ·refine⟨fun e=>?_,fun _=>h6⟩
   rcases jz with h7|h7
   ·exact n6 (by rw[←h7,←e];exact h6)
   ·omega
  ·exact⟨by omega,fun h=>by omega⟩
 refine .inr ⟨h1,rfl,(FB.mk B.n B.c B.r B.nb B.pb B.tb b').S C',⟨⟨B.n,B.c,B.r,B.nb,B.pb,B.tb,b'⟩,C',N,P,L,tops++[-1],ch,par,au,rfl,⟨⟨w',ai o2,s2.ext e3 (fun b hb=>by injection hb with hb;omega)⟩,?_,?_,m.inv,?_,m.len,?_,?_⟩,⟨l.f,l.pc,fun g=>by rw[zN];exact l.tp g,fun g y hg hy=>by rw[zN];exact l.ls g y hg hy,?_⟩,fun z=>Iff.rfl⟩,?_,fun z hz=>?_⟩
 ·exact(c1.ext e2 (fun x hx e=>by
   rcases ya x hx with h6|h6
   ·exact n6 (e▸h6)
   ·omega)).ext e3 (fun x hx e=>by
   rcases ya x hx with h6|h6
   ·exact n1 (e▸h6)
   ·omega)
 ·exact((m.ring.ext e1 n2 n3 n4).ext e2 (Ne.symm d10) (Ne.symm d11) (Ne.symm d12)).ext e3 (Ne.symm d1) (Ne.symm d2) (Ne.symm d3)
 ·exact e3.own (e2.own (e1.own m.places n5) d9) (Ne.symm d4)
 ·refine⟨⟨d1,d2,d3,d4,?_⟩,⟨d6,d7,d8,?_⟩,⟨?_,?_,?_⟩⟩<;>simp only<;>omega
 ·exact⟨fun h=>n1 ((Ez _ h).2 q1),fun h=>n2 ((Ez _ h).2 q2),fun h=>n3 ((Ez _ h).2 q3),fun h=>n4 ((Ez _ h).2 q4),fun h=>n5 ((Ez _ h).2 q5),fun h=>(Ez _ h).1 rfl⟩
 ·simp[Nw.make,Lc]
 ·exact((e1.mono fun z _ h=>(hS z).2 (.inl h)).trans (e2.mono fun z _ h=>(hS z).2 (.inr (.inr (.inr (.inr (.inr (.inr h)))))))).trans (e3.mono fun z _ h=>(hS z).2 (.inr (.inl h)))
 ·rcases hz with hz|hz|hz|hz|hz|hz|hz
  ·rcases ya z hz with h6|h6
   ·exact .inl ((hS z).2 (.inl h6))
   ·exact .inr h6
  ·exact .inl ((hS _).2 (.inr (.inl hz)))
  ·exact .inl ((hS _).2 (.inr (.inr (.inl hz))))
  ·exact .inl ((hS _).2 (.inr (.inr (.inr (.inl hz)))))
  ·exact .inl ((hS _).2 (.inr (.inr (.inr (.inr (.inl hz))))))
  ·exact .inl ((hS _).2 (.inr (.inr (.inr (.inr (.inr (.inl hz)))))))
  ·rcases jz with h7|h7
   ·exact .inl ((hS _).2 (.inr (.inr (.inr (.inr (.inr (.inr (hz.trans h7))))))))
   ·exact .inr (by have hz:z=b':=hz;omega)
def sk(n i:Nat):List Int:=(List.range i).map (fun(k:Nat)=>(k:Int))++List.replicate (n - i) 0
theorem um{n i:Nat}(h:i≤n):(sk n i).length=n:=by unfold sk;simp;omega
theorem SZ{n i:Nat}(h:i<n):(sk n i).set i (i:Int)=sk n (i+1):=by
 unfold sk
 rw[apf _ _ (by simp),anz,List.length_range,aos,show n - i=(n - (i+1))+1 by omega,anS,aoD,apl,anH]
 simp
theorem EQ(n:Nat)(x:Int):bZ (sk n n) x=x:=by
 unfold bZ
 split
 ·rename_i h
  rw[um (ano _)]at h
  unfold sk
  rw[aos,apk,an7,anf,anA,List.getElem?_range (by omega)]
  simp
  omega
 ·rfl
theorem GF(H:Hp){n:Int}(hn:0≤n∧n≤65536):af Tryz.prog Lt [i64 n] H fun v H'=>ar (∃r nb pb N P,v= .tuple [ptr r,i64 0].toArray∧fK H' r nb pb N P∧N.length=n.toNat∧(∀x,bZ N x=x)∧yK (bZ N) (bZ P)∧ah H H'∧H.size≤r∧H.size≤nb∧H.size≤pb):=by
 refine aP Ly ?_
 refine vs ?_
 refine ak.dec (fun g=>absurd g (by omega)) (fun _=>?_)
 refine vs ?_
 refine ak.dec (fun g=>absurd g (by omega)) (fun _=>?_)
 refine vs ?_
 have hz:(List.replicate n.toNat (0:Int))=sk n.toNat 0:=by unfold sk;simp
 refine jk.intro (fun H'=>True) trivial ?_
 refine vs ?_
 refine Du.intro ?A ?B
 case' A=>
  refine vs ?_
  refine⟨⟨by omega,by omega,by omega,by omega⟩,?_⟩
  refine vs ?_
  refine⟨⟨by omega,by omega,by omega,by omega⟩,?_⟩
  refine vs ?_
  rw[zS,hz]
  obtain⟨nb,CC⟩:∃nb,nb=H.size:=⟨_,rfl⟩
  obtain⟨pb,Ox⟩:∃pb,pb=H.size+1:=⟨_,rfl⟩
  have f0:ah H (((H.new 3 ((sk n.toNat 0).map i64)).new 3 ((sk n.toNat 0).map i64)).new 317 [.slice (some ⟨H.size,0,none⟩) n.toNat n.toNat,.slice (some ⟨H.size+1,0,none⟩) n.toNat n.toNat]):=(((ag.refl _ _).new _ _).new _ _).new _ _
  have h0:fK (((H.new 3 ((sk n.toNat 0).map i64)).new 3 ((sk n.toNat 0).map i64)).new 317 [.slice (some ⟨H.size,0,none⟩) n.toNat n.toNat,.slice (some ⟨H.size+1,0,none⟩) n.toNat n.toNat]) (H.size+1+1) nb pb (sk n.toNat 0) (sk n.toNat 0):=by
   subst CC Ox
   refine⟨?_,?_,?_,rfl,by omega,by omega,by omega⟩
   ·rw[um (aoY _)];exact aQ (by simp only[am])
   ·rw[ce (by simp only[am];omega),ce (by simp only[am];omega),ax]
   ·rw[ce (by simp only[am];omega)];exact aQ (by simp only[am])
  generalize ((H.new 3 ((sk n.toNat 0).map i64)).new 3 ((sk n.toNat 0).map i64)).new 317 [.slice (some ⟨H.size,0,none⟩) n.toNat n.toNat,.slice (some ⟨H.size+1,0,none⟩) n.toNat n.toNat]=H0 at*
  have VF:H.size≤nb∧H.size≤pb:=⟨by omega,by omega⟩
 case' B=>
  refine vs ?_
  refine⟨⟨by omega,by omega,by omega,by omega⟩,?_⟩
  refine vs ?_
  refine⟨⟨by omega,by omega,by omega,by omega⟩,?_⟩
  refine vs ?_
  rw[zS,hz]
  obtain⟨nb,CC⟩:∃nb,nb=H.size+1:=⟨_,rfl⟩
  obtain⟨pb,Ox⟩:∃pb,pb=H.size:=⟨_,rfl⟩
  have f0:ah H (((H.new 3 ((sk n.toNat 0).map i64)).new 3 ((sk n.toNat 0).map i64)).new 317 [.slice (some ⟨H.size+1,0,none⟩) n.toNat n.toNat,.slice (some ⟨H.size,0,none⟩) n.toNat n.toNat]):=(((ag.refl _ _).new _ _).new _ _).new _ _
  have h0:fK (((H.new 3 ((sk n.toNat 0).map i64)).new 3 ((sk n.toNat 0).map i64)).new 317 [.slice (some ⟨H.size+1,0,none⟩) n.toNat n.toNat,.slice (some ⟨H.size,0,none⟩) n.toNat n.toNat]) (H.size+1+1) nb pb (sk n.toNat 0) (sk n.toNat 0):=by
   subst CC Ox
   refine⟨?_,?_,?_,rfl,by omega,by omega,by omega⟩
   ·rw[um (aoY _)];exact aQ (by simp only[am])
   ·rw[ce (by simp only[am];omega)];exact aQ (by simp only[am])
   ·rw[ce (by simp only[am];omega),ce (by simp only[am];omega),ax]
  generalize ((H.new 3 ((sk n.toNat 0).map i64)).new 3 ((sk n.toNat 0).map i64)).new 317 [.slice (some ⟨H.size+1,0,none⟩) n.toNat n.toNat,.slice (some ⟨H.size,0,none⟩) n.toNat n.toNat]=H0 at*
  have VF:H.size≤nb∧H.size≤pb:=⟨by omega,by omega⟩
 all_goals
  refine aT.intro (fun m env H'=>∃j:Nat,m=n.toNat - j∧j≤n.toNat∧ag (fun z=>z=nb∨z=pb) H0 H'∧fK H' (H.size+1+1) nb pb (sk n.toNat j) (sk n.toNat j)∧
   env=[(4,ptr (H.size+1+1)),(18,i64 n),(19,i64 j)]) n.toNat ⟨0,by omega,by omega,ag.refl _ _,h0,rfl⟩ ?_
  rintro m env H1 ⟨j,rfl,hj,e1,h1,rfl⟩
  have qP:=um hj
  obtain⟨d1,d2,d3⟩:=h1.ne
  refine vs ?_
  refine ak.dec (fun aK=>?_) (fun aK=>?_)<;>refine vs ?_
  ·refine v1 (ae h1.own) ?_
   refine⟨⟨by omega,by omega⟩,?_⟩
   refine v4 h1.Nx am9 ane Int.toNat_natCast ?_
   refine⟨by rw[anz];omega,?_⟩
   refine vs ?_
   have e2:ag (fun z=>z=nb) H1 (H1.wr nb (((sk n.toNat j).map i64).set j (i64 j))):=(ag.refl (fun z=>z=nb) _).wr (fun _=>rfl) _
   have q2:(H1.wr nb (((sk n.toNat j).map i64).set j (i64 j))).own nb=some (((sk n.toNat j).map i64).set j (i64 j)):=ai h1.Nx
   generalize H1.wr nb (((sk n.toNat j).map i64).set j (i64 j))=H2 at*
   have p2:=e2.own h1.Uo (Ne.symm d3)
   refine⟨⟨by omega,by omega⟩,?_⟩
   refine v5 p2 h1.Uo am9 ane Int.toNat_natCast ?_
   refine⟨by rw[anz];omega,?_⟩
   refine vs ?_
   have e3:ag (fun z=>z=pb) H2 (H2.wr pb (((sk n.toNat j).map i64).set j (i64 j))):=(ag.refl (fun z=>z=pb) _).wr (fun _=>rfl) _
   have q3:(H2.wr pb (((sk n.toNat j).map i64).set j (i64 j))).own pb=some (((sk n.toNat j).map i64).set j (i64 j)):=ai p2
   have J3:((sk n.toNat j).map i64).set j (i64 j)=(sk n.toNat (j+1)).map i64:=by rw[←SZ (by omega),anY]
   rw[wrap64 (n:=(j:Int)+1) (by omega) (by omega)]
   refine⟨n.toNat - (j+1),by omega,j+1,rfl,by omega,(e1.trans (e2.mono fun z _ h=>.inl h)).trans (e3.mono fun z _ h=>.inr h),⟨?_,?_,?_,rfl,h1.ne⟩,rfl⟩
   ·have ho:=e3.own (e2.own h1.own d1) d2
    rw[qP]at ho
    rw[um (by omega)]
    exact ho
   ·rw[←J3];exact e3.own q2 d3
   ·rw[←J3];exact q3
  ·obtain rfl:j=n.toNat:=by omega
   exact⟨_,nb,pb,_,_,rfl,h1,um (ano _),EQ _,⟨fun x=>by rw[EQ,EQ],fun x=>by rw[EQ,EQ]⟩,f0.then e1 (fun z hz=>by rcases hz with h|h<;>omega),by omega,VF.1,VF.2⟩
theorem z8{n:Nat}{H:Hp}{S:Nat→Prop}{w:Nw}(h:is n H S w)(x k s:Int):af Tryz.prog fX [ptr n,i64 x,rZ k s] H fun v H'=>ar (
  (¬w.cW x k s∧v= .bool false∧cr (is n) S H H' w)∨(w.cW x k s∧v= .bool true∧∃y,w.cs[x.toNat]? =some y∧cr (is n) S H H' (w.put x (y.1,k,s)))):=by
 obtain⟨B,C,N,P,L,tops,ch,par,au,rfl,m,l,hS⟩:=h
 have hC:∀z,C z→S z:=fun z h=>(hS z).2 (.inl h)
 have Up:S B.nb:=(hS _).2 (.inr (.inr (.inr (.inl rfl))))
 have GB:S B.pb:=(hS _).2 (.inr (.inr (.inr (.inr (.inl rfl)))))
 have tb3:S B.tb:=(hS _).2 (.inr (.inr (.inr (.inr (.inr (.inl rfl))))))
 have Z6:S B.tp:=(hS _).2 (.inr (.inr (.inr (.inr (.inr (.inr rfl))))))
 refine aP mN ?_
 refine vs ?_
 have f0:ah H (H.new 224 [i64 k,u64 s]):=(ag.refl _ _).new _ _
 have b0:(H.new 224 [i64 k,u64 s]).own H.size=some [i64 k,u64 s]:=ax _ _ _
 have m0:=m.fresh f0
 generalize H.new 224 [i64 k,u64 s]=H0 at*
 have ff:ag S H H0:=f0.mono fun _ _ h=>h.elim
 obtain⟨tv,Gv,_⟩:=m0.own
 refine v2 (ae Gv) (ae b0) ?_
 refine(gE m0.cells x k s).mono ?_
 rintro _ H1 (⟨bJ,rfl,c1,e1⟩| ⟨bE,rfl,y,hy,eY,c1,e1⟩)
 ·refine vs ?_
  exact .inl ⟨bJ,rfl,cr.same ⟨B,C,N,P,L,tops,ch,par,au,rfl,m0.ext e1 (fun _ _ h=>h),l,hS⟩ (ff.trans (e1.mono fun _ _ h=>h.elim))⟩
 have lG:(w.put x (y.1,k,s)).cs.length=w.cs.length:=by simp[Nw.put]
 have m1:=m0.aG c1 e1 lG
 have zU:w.cW x k s:=⟨bE,fun z hz=>by rw[hy]at hz;injection hz with hz;rw[←hz];exact eY⟩
 have hx:0≤x∧x<w.cs.length:=⟨bE.1,by have:=(ana.1 hy).1;have:=bE.1;omega⟩
 have Nk:aD w x=y.1:=jE bE.1 hy
 have dA:=bk.2 bE
 have hw:aD (w.put x (y.1,k,s))=aD w:=by
  funext z
  rw[dK hx]
  split
  ·rename_i e;rw[e,Nk]
  ·rfl
 have Dc:cS (w.put x (y.1,k,s)).cs x:=bk.1 (by rw[hw];exact dA)
 have el:∀a b,0<aD w a→0<aD w b→a≠x→b≠x→aN (w.put x (y.1,k,s)) a b=aN w a b:=fun a b ha hb sj lm=>di hx _ ha hb sj lm
 have ex:∀b,0<aD w b→b≠x→aN w x b=true→aN (w.put x (y.1,k,s)) x b=true:=fun b hb lm h=>zM bE hy eY hb lm h
 have ls:=aq w
 have R3:=aq (w.put x (y.1,k,s))
 obtain⟨g,hg⟩:∃g,g=aD w x:=⟨_,rfl⟩
 have da:g<tops.length:=by
  have:=((m.cells.hm x).2 dA).2
  have:=l.tl
  omega
 have BQ:∀z,aD w z=g→bh tops g≠ -1∧(z≠bh tops g→aN w (bh tops g) z=true):=fun z hz=>l.ls g z (by omega) hz
 obtain⟨ER,FD⟩:=BQ x hg.symm
 obtain⟨T,hT⟩:∃T,T=bh tops g:=⟨_,rfl⟩
 rw[←hT]at ER FD BQ
 have V6:=dA
 have Z8:(w.put x (y.1,k,s)).hs.length=w.hs.length:=by simp[Nw.put]
 obtain⟨A,hr⟩:∃A,au g=T::A:=by
  have h1:=l.tp g
  rw[←hT]at h1
  cases hc:au g with
  |nil=>rw[hc]at h1;exact absurd h1 ER
  |cons c r=>rw[hc]at h1;exact⟨r,by rw[show T=c from h1]⟩
 have hTg:=(l.f.rm g T (by rw[hr];simp)).1
 have hTp:=(l.f.rm g T (by rw[hr];simp)).2.1
 have hT0:0<aD w T:=by omega
 generalize Nr:w.put x (y.1,k,s)=w' at*
 obtain⟨BB,o1,_⟩:=m1.own
 refine v1 (ae o1) ?_
 refine(c9 m1.cells x).mono ?_
 rintro _ H2 (⟨bJ,_,_⟩| ⟨_,rfl,c2,e2⟩)
 ·exact absurd Dc bJ
 have m2:=m1.aG c2 e2 rfl
 have nT:ag S H H2:=(ff.trans (e1.mono fun z _ h=>hC z h)).trans (e2.mono fun z _ h=>hC z h)
 rw[hw,←hg]
 obtain⟨LW,o2,_⟩:=m2.own
 have nj:=m2.len
 have vN:0≤x∧x<w'.cs.length:=by rw[lG];exact hx
 obtain⟨a0,a1,a2,a3,a4⟩:=m2.rd vN
 obtain⟨ux,_,_⟩:=l.pc x
 rw[ux]at a1
 refine v1 (ae o2) ?_
 refine⟨⟨by omega,by omega⟩,?_⟩
 refine v4 (ae m2.places) am9 Nat.add_zero a1 ?_
 have e0:aw au g (T::A)=au:=by
  funext z
  unfold aw
  split
  ·rename_i e;rw[e,hr]
  ·rfl
 have Nh:(par x= -1∨aN w' (par x) x=true)→dI (aD w') (aN w') (bZ N) ch par (aw au g (T::A)) []:=fun I4=>by
  rw[e0,hw]
  refine l.f.other fun z c hc h1 h2 h3=>?_
  by_cases hz:z=x
  ·rw[hz]at h3 hc ⊢
   exact ex c h2 (fun e=>by rw[e,ls.ua]at h3;cases h3) h3
  ·by_cases eU:c=x
   ·rw[eU]at hc ⊢
    obtain⟨d1,d2,_⟩:=l.f.pr.dn z x hc
    rcases I4 with h|h
    ·rw[h]at d1;exact absurd d1.symm d2
    ·rw[←d1];exact h
   ·rw[el _ _ (by omega) h2 hz eU];exact h3
 refine ak.dec (fun h0=>?A) (fun h0=>?B)
 case' A=>
  refine vs ?_
  obtain⟨H3,eH⟩:∃H3,H3=H2:=⟨_,rfl⟩
  rw[←eH]at m2 nT ⊢
  obtain⟨N3,P3,L3,Lf,nJ,A3,m3,f3,p3,e3⟩:∃N' P' L' dH bB A',bR H3 B C w' N' P' L' tops∧dI (aD w') (aN w') (bZ N') dH bB (aw au g (T::A')) []∧I8 (ep L') dH bB∧ag S H H3:=⟨N,P,L,ch,par,A,m2,Nh (.inl h0),l.pc,nT⟩
 case' B=>
  have Z9:=l.f.pr.up x _ rfl h0
  obtain⟨_,_,hph,AD,o8⟩:=l.f.pr.dn _ _ Z9
  have dA:par x≠x:=fun e=>by rw[e,ls.ua]at o8;cases o8
  refine v1 (ae o2) ?_
  refine(cA m2.cells x (par x)).mono ?_
  rintro _ H4 ⟨rfl,c4,e4⟩
  have m4:=m2.aG c4 e4 rfl
  have ul:=nT.trans (e4.mono fun z _ h=>hC z h)
  rw[gF (w:=w') (a:=x) (b:=par x) (by rw[hw];exact V6) (by rw[hw];omega)]
  cases aK:aN w' x (par x)
  case' false=>
   refine vs ?_
   obtain⟨H3,eH⟩:∃H3,H3=H4:=⟨_,rfl⟩
   rw[←eH]at m4 ul ⊢
   obtain⟨N3,P3,L3,Lf,nJ,A3,m3,f3,p3,e3⟩:∃N' P' L' dH bB A',bR H3 B C w' N' P' L' tops∧dI (aD w') (aN w') (bZ N') dH bB (aw au g (T::A')) []∧I8 (ep L') dH bB∧ag S H H3:=⟨N,P,L,ch,par,A,m4,Nh (.inr ((R3.M8 (par x) x dA).resolve_right (by rw[aK];simp))),l.pc,ul⟩
  case' true=>
   refine vs ?_
   refine(De m4 ls (x:=x) (g:=g) (t:=T) (A:=A) (by rw[hw];exact l.f) l.pc (by rw[hw];exact hg.symm) (by omega) da hr hT.symm).mono ?_
   rintro _ H3 ⟨N3,P3,L3,Lf,nJ,A3,m3,f3',p3,u3,_,e5⟩
   have e3:=ul.trans (e5.mono fun z _ h=>by
    rcases h with h|h|h
    ·exact h▸Up
    ·exact h▸GB
    ·exact h▸tb3)
   have f3:dI (aD w') (aN w') (bZ N3) Lf nJ (aw au g (T::A3)) []:=by
    refine f3'.other fun z c hc h1 h2 h3=>?_
    rw[hw]at h1 h2
    have eU:c≠x:=fun e=>by
     obtain⟨d1,d2,_⟩:=f3'.pr.dn z c hc
     rw[e,u3]at d1
     exact d2 d1.symm
    by_cases hz:z=x
    ·rw[hz]at h3 ⊢
     exact ex c h2 eU h3
    ·rw[el _ _ (by omega) h2 hz eU];exact h3
   refine vs ?_
 all_goals
  have Sd:aw au g (T::A3) g=T::A3:=by unfold aw;rw[if_pos rfl]
  obtain⟨cc,lt3,o3,q3,ue,qJ,Nq⟩:=m3.fG
  have q4:=m3.eC q3 (dL (tops:=tops) (h:=g) (by omega) da)
  rw[←hT]at q4
  refine v1 (ae o3) ?_
  refine⟨⟨by omega,by omega⟩,?_⟩
  refine v4 (ae q3) am9 ane q4 ?_
  have BE:∀g2 z,g2≠g→0<g2→aD w' z=g2→bh tops g2≠ -1∧(z≠bh tops g2→aN w' (bh tops g2) z=true):=fun g2 z aM BO hz=>by
   rw[hw]at hz
   obtain⟨h1,h2⟩:=l.ls g2 z BO hz
   refine⟨h1,fun S0=>?_⟩
   have h5:aD w (bh tops g2)=g2:=by
    have hm:bh tops g2∈au g2:=by
     have:=l.tp g2
     rw[this]at h1 ⊢
     exact dX h1
    exact(l.f.rm g2 _ hm).1
   rw[el _ _ (by omega) (by omega) (fun e=>by rw[e]at h5;omega) (fun e=>by rw[e]at hz;omega)]
   exact h2 S0
  have htp:∀g2,bh tops g2=(aw au g (T::A3) g2).headD (-1):=fun g2=>by
   unfold aw
   split
   ·rename_i e;rw[e,←hT];rfl
   ·exact l.tp g2
  refine ak.dec (fun h5=>?_) (fun h5=>?_)
  ·refine vs ?_
   refine .inr ⟨zU,rfl,y,hy,?_⟩
   rw[Nr]
   refine cr.same ⟨B,C,N3,P3,L3,tops,Lf,nJ,_,rfl,m3,⟨f3,p3,htp,fun g2 z BO hz=>?_,by rw[l.tl,Z8]⟩,hS⟩ e3
   by_cases h6:g2=g
   ·rw[h6,←hT]
    refine⟨ER,fun S0=>?_⟩
    rw[hw,h6]at hz
    have h7:=(BQ z hz).2 S0
    rw[h5]at h7 S0 ⊢
    exact ex z (by omega) S0 h7
   ·exact BE g2 z h6 BO hz
  refine v1 (ae o3) ?_
  refine⟨⟨by omega,by omega⟩,?_⟩
  refine v4 (ae q3) am9 ane q4 ?_
  refine(cA m3.cells x T).mono ?_
  rintro _ H6 ⟨rfl,c6,e6⟩
  have m6:=m3.aG c6 e6 rfl
  have Ke:=e3.trans (e6.mono fun z _ h=>hC z h)
  rw[gF (w:=w') (a:=x) (b:=T) (by rw[hw];exact V6) (by rw[hw];omega)]
  cases yf:aN w' x T
  ·refine vs ?_
   refine .inr ⟨zU,rfl,y,hy,?_⟩
   rw[Nr]
   refine cr.same ⟨B,C,N3,P3,L3,tops,Lf,nJ,_,rfl,m6,⟨f3,p3,htp,fun g2 z BO hz=>?_,by rw[l.tl,Z8]⟩,hS⟩ Ke
   by_cases h6:g2=g
   ·rw[h6,←hT]
    refine⟨ER,fun S0=>?_⟩
    rw[hw,h6]at hz
    by_cases h8:z=x
    ·rw[h8];exact(R3.M8 T x h5).resolve_right (by rw[yf];simp)
    ·rw[el _ _ (by omega) (by omega) h5 h8]
     exact(BQ z hz).2 S0
   ·exact BE g2 z h6 BO hz
  ·obtain⟨cc,lt6,o6,q6,ue,qJ,Nq⟩:=m6.fG
   refine v1 (ae o6) ?_
   refine⟨⟨by omega,by omega⟩,?_⟩
   refine v3 q6 am9 ane ?_
   refine⟨by omega,?_⟩
   obtain⟨m7,e7⟩:=m6.kj q6 g.toNat x
   refine vs ?_
   have Ja:nJ x= -1:=by
    apply anC
    intro hp
    obtain⟨_,d2,d3,d4,d5⟩:=f3.pr.dn _ _ (f3.pr.up x _ rfl hp)
    rw[hw]at d3 d4
    by_cases e:nJ x=T
    ·rw[e]at d5
     rw[R3.asym d5]at yf;cases yf
    ·have h9:=(BQ (nJ x) (by omega)).2 e
     have afb:nJ x≠x:=fun e=>by rw[e,R3.ua]at d5;cases d5
     rw[←el _ _ (by omega) (by omega) h5 afb]at h9
     rw[R3.asym (R3.tr _ _ _ h9 d5)]at yf;cases yf
   have hxm:x∈aw au g (T::A3) g:=by
    rcases f3.jg x (by rw[hw];exact V6) Ja with h|h
    ·rw[hw,←hg]at h;exact h
    ·cases h
   obtain⟨A7,_,f7⟩:=f3.from_ hxm
   rw[dY]at f7
   refine .inr ⟨zU,rfl,y,hy,?_⟩
   rw[Nr]
   refine cr.same ⟨B,C,N3,P3,L3,_,Lf,nJ,_,rfl,m7,⟨f7,p3,fun g2=>?_,fun g2 z BO hz=>?_,by rw[anb,l.tl,Z8]⟩,hS⟩ (Ke.trans (e7.mono fun z _ h=>h▸Z6))
   ·rw[ec (by omega) da]
    unfold iD aw
    split
    ·rfl
    ·exact l.tp g2
   ·rw[ec (by omega) da]
    unfold iD
    by_cases h6:g2=g
    ·rw[if_pos h6]
     refine⟨by omega,fun S0=>?_⟩
     rw[hw,h6]at hz
     by_cases h8:z=T
     ·rw[h8];exact yf
     ·have h9:=(BQ z hz).2 h8
      rw[←el _ _ (by omega) (by omega) h5 S0]at h9
      exact R3.tr _ _ _ yf h9
    ·rw[if_neg h6]
     exact BE g2 z h6 BO hz
theorem S6(k:Nat):cz [Value.int .i64 0,Value.int .i64 0,Value.int .i64 0,Value.bool false] k=aH (List.replicate k ⟨0,0,0,false⟩):=by
 unfold cz aH
 induction k with
 |zero=>rfl
 |succ k ih=>rw[anS,anS,an9,aoR,ih];rfl
theorem Iw(cap:Int)(H:Hp):af Tryz.prog CE [i64 cap] H fun v H'=>ar (
  ah H H'∧((¬ (0≤cap∧cap≤65536)∧v= .tuple [.pointer none,i64 31].toArray)∨
   ((0≤cap∧cap≤65536)∧∃n S,v= .tuple [ptr n,i64 0].toArray∧is n H' S (xZ cap)∧∀x,S x→H.size≤x))):=by
 refine aP CJ ?_
 refine vs ?_
 refine(ke cap H).mono ?_
 rintro _ H1 ⟨f1,⟨hb,rfl⟩| ⟨hb,c,C,rfl,c1,hC⟩⟩
 ·refine vs ?_
  exact⟨f1,.inl ⟨hb,rfl⟩⟩
 refine vs ?_
 refine(GF H1 hb).mono ?_
 rintro _ H2 ⟨r,nb,pb,N,P,rfl,r2,hN,hid,hinv,f2,hr,CC,Ox⟩
 have c2:=c1.fresh f2
 refine v1 anT ?_
 refine⟨⟨by omega,by omega,by omega,by omega⟩,?_⟩
 refine vs ?_
 rw[S6]
 have wA:=c1.slt
 have z1:=f1.size
 have z2:=f2.size
 have hrs:r<H2.size∧nb<H2.size∧pb<H2.size:=⟨az r2.own,az r2.Nx,az r2.Uo⟩
 obtain⟨rn1,rn2,rn3⟩:=r2.ne
 have f3:ah H2 (((H2.new 273 (aH (List.replicate cap.toNat ⟨0,0,0,false⟩))).new 3 [Value.int .i64 (-1)]).new 271 [ptr c,ptr r,.slice (some ⟨H2.size,0,none⟩) cap.toNat cap.toNat,.slice (some ⟨H2.size+1,0,none⟩) 1 1]):=(((ag.refl _ _).new _ _).new _ _).new _ _
 have e1:ag (fun _=>False) (H2.new 273 (aH (List.replicate cap.toNat ⟨0,0,0,false⟩))) (((H2.new 273 (aH (List.replicate cap.toNat ⟨0,0,0,false⟩))).new 3 [Value.int .i64 (-1)]).new 271 [ptr c,ptr r,.slice (some ⟨H2.size,0,none⟩) cap.toNat cap.toNat,.slice (some ⟨H2.size+1,0,none⟩) 1 1]):=((ag.refl _ _).new _ _).new _ _
 have e2:ag (fun _=>False) ((H2.new 273 (aH (List.replicate cap.toNat ⟨0,0,0,false⟩))).new 3 [Value.int .i64 (-1)]) (((H2.new 273 (aH (List.replicate cap.toNat ⟨0,0,0,false⟩))).new 3 [Value.int .i64 (-1)]).new 271 [ptr c,ptr r,.slice (some ⟨H2.size,0,none⟩) cap.toNat cap.toNat,.slice (some ⟨H2.size+1,0,none⟩) 1 1]):=(ag.refl _ _).new _ _
 obtain⟨B,hB⟩:∃B:FB,B=⟨H2.size+1+1,c,r,nb,pb,H2.size,H2.size+1⟩:=⟨_,rfl⟩
 have m0:bR (((H2.new 273 (aH (List.replicate cap.toNat ⟨0,0,0,false⟩))).new 3 [Value.int .i64 (-1)]).new 271 [ptr c,ptr r,.slice (some ⟨H2.size,0,none⟩) cap.toNat cap.toNat,.slice (some ⟨H2.size+1,0,none⟩) 1 1]) B C (xZ cap) N P (List.replicate cap.toNat ⟨0,0,0,false⟩) [-1]:=by
  subst hB
  refine⟨⟨.slice (some ⟨H2.size+1,0,none⟩) 1 1,?_,?_⟩,c2.fresh f3,r2.ext f3 (fun h=>h) (fun h=>h) (fun h=>h),hinv,?_,?_,?_,?_⟩
  ·rw[anX]
   exact aQ (by simp only[am])
  ·exact(Sl.bP (size:=1) (n:=1) (xs:=[i64 (-1)]) rfl (by simp only[am])).ext e2 (fun _ _ h=>h)
  ·exact e1.own (ax _ _ _) (fun h=>h)
  ·simp[xZ,hN]
  ·refine⟨⟨?_,?_,?_,?_,?_⟩,⟨?_,?_,?_,?_⟩,⟨?_,?_,?_⟩⟩<;>simp only<;>omega
  ·refine⟨fun h=>?_,fun h=>?_,fun h=>?_,fun h=>?_,fun h=>?_,fun h=>?_⟩<;>(have h2:=wA _ h;first|omega| (simp only at h2;omega))
 have C8:B.n=H2.size+1+1:=by rw[hB]
 have hBs:∀z,B.S C z→H1.size≤z∨C z:=fun z hz=>by
  rcases hz with hz|rfl|rfl|rfl|rfl|rfl|rfl
  ·exact .inr hz
  all_goals rw[hB];left;first|omega| (simp only;omega)
 have hBt:B.tb=H2.size:=by rw[hB]
 have ft:=(f1.trans f2).trans f3
 generalize ((H2.new 273 (aH (List.replicate cap.toNat ⟨0,0,0,false⟩))).new 3 [Value.int .i64 (-1)]).new 271 [ptr c,ptr r,.slice (some ⟨H2.size,0,none⟩) cap.toNat cap.toNat,.slice (some ⟨H2.size+1,0,none⟩) 1 1]=H3 at*
 have mK:(xZ cap).cs.length=cap.toNat:=by simp[xZ]
 rw[←C8]
 refine aT.intro (fun m env H'=>∃ (j:Nat) (L':List Pc),m=cap.toNat - j∧j≤cap.toNat∧ag (fun z=>z=B.tb) H3 H'∧bR H' B C (xZ cap) N P L' [-1]∧(∀z:Int,0≤z→z<j→ep L' z=mP)∧
  env=[(5,i64 0),(7,ptr B.n),(33,i64 (cap.toNat:Nat)),(34,i64 j)]) cap.toNat ⟨0,_,by omega,by omega,ag.refl _ _,m0,fun z h0 h1=>by omega,rfl⟩ ?_
 rintro m env H4 ⟨j,L4,rfl,hj,e4,m4,g4,rfl⟩
 obtain⟨cc,lt4,o4,_⟩:=m4.fG
 have SY:=m4.len
 refine vs ?_
 refine ak.dec (fun aK=>?_) (fun aK=>?_)<;>refine vs ?_
 ·refine jk.intro (fun H'=>H'.own B.n=some [ptr B.c,ptr B.r,.slice (some ⟨B.tb,0,none⟩) L4.length L4.length,.slice (some ⟨B.tp,0,none⟩) [(-1:Int)].length cc]) o4 ?_
  refine vs ?_
  refine fk.intro (.slice (some ⟨B.tb,0,none⟩) L4.length L4.length) (fun H' hI=>by refine v1 (ae hI) ?_;trivial) ?_
  refine vs ?_
  refine(tz H4).mono ?_
  rintro _ H5 ⟨rfl,e5⟩
  have o5:=e5.own o4 (fun h=>h)
  refine And.intro o5 ?_
  have m5:=m4.fresh e5
  refine vs ?_
  refine⟨⟨by omega,by omega⟩,?_⟩
  obtain⟨b0,_⟩:=m5.rd (x:=(j:Int)) (by omega)
  obtain⟨L6,k6,m6,e6⟩:=m5.Mk (x:=(j:Int)) (by omega) mP
  refine v2 m5.places am9 ?_
  refine⟨by omega,?_⟩
  rw[show bf (aH L4) ((j:Int).toNat*4) (aF (Value.agg #[i64 (-1),i64 (-1),i64 0,Value.bool false]))=bf (aH L4) ((j:Int).toNat*4) [i64 mP.u,i64 mP.k,i64 mP.d,.bool mP.m]from rfl]
  have uF:=m5.lj.1.2.2.2.1
  generalize H5.wr B.tb (bf (aH L4) ((j:Int).toNat*4) [i64 mP.u,i64 mP.k,i64 mP.d,.bool mP.m])=H6 at*
  refine vs ?_
  refine And.intro (e6.own o5 uF) ?_
  refine vs ?_
  refine⟨cap.toNat - (j+1),by omega,j+1,L6,rfl,by omega,(e4.trans (e5.mono fun _ _ h=>h.elim)).trans e6,m6,fun z h0 h1=>?_,?_⟩
  ·rw[k6]
   unfold lK
   split
   ·rfl
   ·exact g4 z h0 (by omega)
  ·rw[wrap64 (n:=(j:Int)+1) (by omega) (by omega)]
   rfl
 ·obtain rfl:j=cap.toNat:=by omega
  have Z9:∀z,ep L4 z=mP:=fun z=>by
   by_cases hz:0≤z∧z< (cap.toNat:Int)
   ·exact g4 z hz.1 hz.2
   ·unfold ep
    split
    ·rw[ans (by omega)];rfl
    ·rfl
  refine⟨ft.then e4 (fun z hz=>by omega),.inr ⟨hb,B.n,B.S C,rfl,⟨B,C,N,P,L4,[-1],fun _=>[],fun _=> -1,fun _=>[],rfl,m4,⟨⟨⟨rfl,fun x c hc=>absurd hc (by simp),fun c x h hx=>absurd (Eq.symm h) hx,fun x=>aoo⟩,
   fun x=>trivial,fun h=>trivial,fun h=>aoo,fun h c hc=>absurd hc (by simp),aoo,fun c hc=>absurd hc (by simp),fun c hc=>absurd hc (kw cap c),fun c _=>hid c⟩,fun x=>by rw[Z9];exact⟨rfl,rfl,rfl⟩,
   fun g=>BF g,fun g y hg hy=>absurd (show 0<aD (xZ cap) y by omega) (kw cap y),rfl⟩,fun z=>Iff.rfl⟩,fun z hz=>?_⟩⟩
  rcases hBs z hz with h|h
  ·omega
  ·exact hC z h
theorem QS(n:Nat):wG (.iface 206 (ptr n)) (is n) where
 slt h:=h.slt
 ext h e hd:=h.ext e hd
 cells:=by
  rintro H S w ⟨B,C,N,P,L,tops,ch,par,au,rfl,m,l,hS⟩
  exact⟨B.c,C,m.cells⟩
 has:=by
  rintro H S w g ⟨B,C,N,P,L,tops,ch,par,au,rfl,m,l,hS⟩
  obtain⟨tv,ho,_⟩:=m.own
  exact⟨_,_,bz,ptr B.c,rfl,fI (off:=0) (by kernel_rfl) (ae ho) rfl,(iq m.cells g).mono fun v H' hp=>hp⟩
 make:=by
  intro H S w h
  exact⟨_,_,jq,ptr n,rfl,bv (by kernel_rfl),(GD h).mono fun v H' hp=>hp⟩
 insert:=by
  intro H S w g x k s h
  exact⟨_,_,hX,ptr n,rfl,bv (by kernel_rfl),(Df h g x k s).mono fun v H' hp=>hp⟩
 min:=by
  intro H S w g h
  refine⟨_,_,jX,ptr n,rfl,bv (by kernel_rfl),(z7 h g).mono ?_⟩
  rintro v H' ⟨⟨h1,rfl⟩| ⟨x,h1,rfl⟩,rfl⟩
  ·exact .inl ⟨h1,rfl,cr.same h (ag.refl _ _)⟩
  ·exact .inr ⟨x,h1,rfl,cr.same h (ag.refl _ _)⟩
 extract:=by
  intro H S w g h
  exact⟨_,_,gB,ptr n,rfl,bv (by kernel_rfl),(BP h g).mono fun v H' hp=>hp⟩
 kq:=by
  intro H S w x k s h
  exact⟨_,_,fX,ptr n,rfl,bv (by kernel_rfl),(z8 h x k s).mono fun v H' hp=>hp⟩
 entry:=by
  rintro H S w x ⟨B,C,N,P,L,tops,ch,par,au,rfl,m,l,hS⟩
  obtain⟨tv,ho,_⟩:=m.own
  refine⟨_,_,aZ,ptr B.c,rfl,fI (off:=0) (by kernel_rfl) (ae ho) rfl,(gD m.cells x).mono ?_⟩
  rintro v H' ⟨c1,f,hv⟩
  exact⟨⟨B,C,N,P,L,tops,ch,par,au,rfl,m.fresh f,l,hS⟩,f,hv⟩
theorem tC(n:Nat)(H:Hp):af Tryz.prog uJ [ptr n,i64 0] H fun v H'=>ar (v= .tuple [.iface 194 (ptr n),i64 0].toArray∧H'=H):=by
 refine aP vg ?_
 refine v1 anT ?_
 exact⟨rfl,rfl⟩
theorem vU(n:Nat)(H:Hp):af Tryz.prog nk [ptr n,i64 0] H fun v H'=>ar (v= .tuple [.iface 206 (ptr n),i64 0].toArray∧H'=H):=by
 refine aP nm ?_
 refine v1 anT ?_
 exact⟨rfl,rfl⟩
def QT(kd dd:Int):Prop:=∀ (cap:Int),(0≤cap∧cap≤65536)→∀H:Hp,af Tryz.prog G3 [LZ kd dd,i64 cap] H fun v H'=>ar (∃t vv I Sn,v= .tuple [.iface t vv,i64 0].toArray∧wG (.iface t vv) I∧I H' Sn (xZ cap)∧ah H H'∧∀z,Sn z→H.size≤z)
def OK(cap:Int)(mo:Nat):Ar:=⟨List.replicate cap.toNat (0,false),[],0,0,mo⟩
theorem Ix{kd dd cap:Int}{mo:Nat}(hf:fZ kd dd)(yF:QT kd dd)(hc:0≤cap∧cap≤65536)(hm:0<mo∧mo≤4294967295)(H:Hp):af Tryz.prog NZ [LZ kd dd,i64 cap,.int .u32 (mo:Int)] H fun v H'=>ar (∃s S,v= .tuple [ptr s,i64 0].toArray∧Cn H' s S (xZ cap) (OK cap mo) 0∧ah H H'∧∀z,S z→H.size≤z):=by
 refine aP N0 ?_
 refine vs ?_
 have f0:ah H (H.new 23 [i64 kd,i64 dd]):=(ag.refl _ _).new _ _
 have o0:(H.new 23 [i64 kd,i64 dd]).own H.size=some [i64 kd,i64 dd]:=ax _ _ _
 have z0:(H.new 23 [i64 kd,i64 dd]).size=H.size+1:=am _ _ _
 generalize H.new 23 [i64 kd,i64 dd]=H0 at*
 refine(mA kd dd H0).mono ?_
 rintro _ H1 ⟨rfl,f1⟩
 rw[Ka hf]
 have o1:=f1.own o0 (fun h=>h)
 have z1:=f1.size
 refine vs ?_
 refine ak.dec (fun _=>?_) (fun hh=>absurd trivial hh)
 refine vs ?_
 refine(Et H1 hc hm).mono ?_
 rintro _ H2 ⟨B,rfl,m2,f2,hB⟩
 have o2:=f2.own o1 (fun h=>h)
 have z2:=f2.size
 refine vs ?_
 refine ak.dec (fun _=>?_) (fun hh=>absurd trivial hh)
 refine v1 (ae o2) ?_
 refine(yF _ hc H2).mono ?_
 rintro _ H3 ⟨t,vv,I,Sn,rfl,n,hi,f3,Pz⟩
 have o3:=f3.own o2 (fun h=>h)
 have z3:=f3.size
 refine vs ?_
 refine ak.dec (fun _=>?_) (fun hh=>absurd trivial hh)
 refine v1 (ae o3) ?_
 have hsB:=m2.slt
 have hsN:=fun z hz=>n.slt hi z hz
 have f4:ah H3 (H3.new 161 [i64 kd,i64 dd,ptr B.a,.iface t vv,u64 0]):=(ag.refl _ _).new _ _
 have b4:(H3.new 161 [i64 kd,i64 dd,ptr B.a,.iface t vv,u64 0]).own H3.size=some [i64 kd,i64 dd,ptr B.a,.iface t vv,u64 0]:=ax _ _ _
 refine⟨H3.size,fun z=>Sn z∨B.S z∨z=H3.size,rfl,⟨t,vv,I,Sn,B,kd,dd,n,n.ext hi f4 (fun _ _ h=>h),(m2.ext f3 (fun _ _ h=>h)).ext f4 (fun _ _ h=>h),b4,fun z hz=>⟨fun h=>?_,?_⟩,fun h=>?_,fun z=>Iff.rfl,⟨by simp[xZ,OK],fun x=>?_⟩⟩,(((f0.trans f1).trans f2).trans f3).trans f4,fun z hz=>?_⟩
 ·have:=hsB z h
  have:=Pz z hz
  omega
 ·have:=hsN z hz
  omega
 ·have:=hsB _ h
  omega
 ·constructor
  ·intro h
   exact absurd (bk.2 h) (kw cap x)
  ·rintro⟨h0,h1⟩
   simp only[OK,aoy]at h1
   split at h1<;>simp at h1
 ·rcases hz with h|h|h
  ·have:=Pz z h;omega
  ·have:=hB z h;omega
  ·omega
abbrev Mm:Shape:=.s [(0,(none,.int)),(1,(none,.int))]
def vV(H:Hp)(b:Nat)(L:List ((Int×Nat)×Value)):Prop:=∃es k,H.mp b=some (es,k)∧es.map (fun e=>(e.key,e.val))=L.map (fun p=>(fW p.1.1 p.1.2,p.2))∧(L.map (·.1)).Nodup
theorem vV.new(H:Hp):vV H.gS H.size []:=⟨[],0,Iy H,rfl,aoo⟩
theorem vV.ext{H H':Hp}{b:Nat}{L:List ((Int×Nat)×Value)}{S:Nat→Prop}(h:vV H b L)(e:ag S H H')(hs:¬S b):vV H' b L:=by
 obtain⟨es,k,h1,h2⟩:=h
 exact⟨es,k,e.mp h1 hs,h2⟩
theorem vV.lt{H:Hp}{b:Nat}{L:List ((Int×Nat)×Value)}(h:vV H b L):b<H.size:=by
 obtain⟨es,k,h1,h2⟩:=h
 exact NA h1
theorem S7(a b:Int×Nat):mO Mm (fW a.1 a.2) (fW b.1 b.2)=some (decide (a=b)):=by
 obtain⟨x,g⟩:=a
 obtain⟨y,h⟩:=b
 simp only[mO,vP,Mn,anG,aod,bc,if_pos rfl]
 by_cases e:x=y
 ·by_cases e2:g=h
  ·simp[e,e2,bc]
  ·have:¬ ((g:Int)=(h:Int)):=by omega
   simp[e,e2,this,bc]
 ·simp[e,bc]
theorem Hg(a:Int×Nat):∀ (es:List MapEntry) (L:List ((Int×Nat)×Value)),es.map (fun e=>(e.key,e.val))=L.map (fun p=>(fW p.1.1 p.1.2,p.2))→(L.map (·.1)).Nodup→∀n:Nat,
  (a∉L.map (·.1)→fL Mm (fW a.1 a.2) es n=some none)∧(∀v,(a,v)∈L→∃j,fL Mm (fW a.1 a.2) es n=some (some (j,v))):=by
 intro es
 induction es with
 |nil=>
  intro L hL _ n
  cases L with
  |nil=>exact⟨fun _=>rfl,fun v h=>by cases h⟩
  |cons p L=>simp at hL
 |cons e es ih=>
  intro L hL hd n
  cases L with
  |nil=>simp at hL
  |cons p L=>
   rw[an3,an3]at hL
   injection hL with h1 h2
   injection h1 with h1 h3
   rw[an3,anu]at hd
   have hq:mO Mm (fW a.1 a.2) e.key=some (decide (a=p.1)):=by rw[h1];exact S7 a p.1
   obtain⟨i1,i2⟩:=ih L h2 hd.2 (n+1)
   refine⟨fun hn=>?_,fun v hv=>?_⟩
   ·rw[an3,anm,not_or]at hn
    rw[fL,hq,anD hn.1]
    exact i1 hn.2
   ·by_cases e2:a=p.1
    ·rw[fL,hq,anp e2]
     rcases anm.1 hv with h|h
     ·refine⟨n,?_⟩
      simp only
      rw[h3,←h]
     ·exact absurd (anv.2 ⟨(a,v),h,e2⟩) hd.1
    ·rw[fL,hq,anD e2]
     rcases anm.1 hv with h|h
     ·exact absurd (by rw[←h]) e2
     ·exact i2 v h
theorem Hi(x:Int)(g:Nat):Aa Mm (fW x g)=true:=rfl
theorem vV.look{H:Hp}{b:Nat}{L:List ((Int×Nat)×Value)}(h:vV H b L){a:Int×Nat}{v:Value}(hv:(a,v)∈L){F:Option Value→Prop}(hF:F (some v)):wM H Mm (some b) (fW a.1 a.2) F:=by
 obtain⟨es,k,h1,h2,h3⟩:=h
 unfold wM
 simp only[h1,mE]
 obtain⟨j,hj⟩:=(Hg a es L h2 h3 0).2 v hv
 rw[hj]
 exact hF
theorem vV.XV{H:Hp}{b:Nat}{L:List ((Int×Nat)×Value)}(h:vV H b L){a:Int×Nat}{v:Value}(hn:a∉L.map (·.1)){F:Hp→Prop}(hk:∀H',vV H' b (L++[(a,v)])→ag (fun x=>x=b) H H'→F H'):QU H Mm b (fW a.1 a.2) v F:=by
 obtain⟨es,k,h1,h2,h3⟩:=h
 unfold QU
 simp only[h1,mE]
 rw[(Hg a es L h2 h3 0).1 hn]
 refine⟨rfl,hk _ ⟨_,_,kB h1,by simp[Kk,h2],?_⟩ ((ag.refl (fun x=>x=b) H).Ch (fun _=>rfl) _ _)⟩
 rw[anH,aoC,anW]
 refine⟨h3,by simp,fun x hx c hc e=>?_⟩
 rw[anj]at hc
 have e2:x=a:=e.trans hc;rw[e2]at hx;exact hn hx
structure V7(n:Nat)(A:Ar):Prop where
 len:A.g.length=n
 mo:A.mo=4294967295
 free:∀x:Int,0≤x→x<A.nx→¬A.live x→x∈A.wt
theorem V7.out{n:Nat}{A A':Ar}{x:Int}(h:V7 n A)(ok:vO A)(hp:A.pick=some (x,A')):V7 n (A'.out x):=by
 obtain⟨hx,lG,Ui,Cg,hg,ZH,Uk⟩:=Ar.uj hp ok
 have FA:0≤x∧x<A'.g.length:=by rw[hg];exact hx
 refine⟨by show(A'.g.set _ _).length=n;rw[anb,hg];exact h.len,by show A'.mo=_;rw[Uk];exact h.mo,fun y h0 h1 hl=>?_⟩
 have h1:y< (A'.nx:Int):=h1
 rw[Ar.mz (A:=A') FA rfl h0]at hl
 by_cases e:y=x
 ·rw[if_pos e]at hl;exact absurd rfl hl
 ·rw[if_neg e]at hl
  have nj:¬A.live y:=by unfold Ar.live at hl ⊢;rw[hg]at hl;exact hl
  show y∈A'.wt
  unfold Ar.pick at hp
  split at hp
  ·rename_i aM
   injection hp with hp
   injection hp with AD o8
   subst o8
   have hm:=h.free y h0 h1 nj
   have hw:A.wt=A.wt.dropLast++[A.wt.getLastD 0]:=by
    conv=>lhs;rw[←List.dropLast_concat_getLast aM]
    rw[aoM,List.getLast?_eq_some_getLast aM]
    rfl
   rw[hw,ann,anj]at hm
   rcases hm with hm|hm
   ·exact hm
   ·exact absurd (hm.trans AD) e
  ·split at hp
   ·cases hp
   ·injection hp with hp
    injection hp with AD o8
    subst o8
    simp only at h1
    exact h.free y h0 (by omega) nj
theorem V7.back{n:Nat}{A:Ar}{x:Int}(h:V7 n A)(hx:0≤x∧x<A.g.length)(hg:A.bq x<4294967295):V7 n (A.back x):=by
 refine⟨by show(A.g.set _ _).length=n;rw[anb];exact h.len,h.mo,fun y h0 h1 hl=>?_⟩
 rw[Ar.mz (A:=A) hx rfl h0]at hl
 show y∈(if A.bq x<A.mo then A.wt++[x]else A.wt)
 rw[h.mo,if_pos hg,ann,anj]
 by_cases e:y=x
 ·exact .inr e
 ·rw[if_neg e]at hl
  exact .inl (h.free y h0 h1 hl)
theorem Hj{A A':Ar}{x:Int}(hp:A.pick=some (x,A'))(ok:vO A):vO A':=by
 have I6:=ok.nx
 unfold Ar.pick at hp
 split at hp
 ·rename_i aM
  injection hp with hp
  injection hp with AD o8
  subst o8
  exact⟨fun y hy=>ok.wl y ((aph _).subset hy),List.Nodup.sublist (aph _) ok.wd,ok.fr,ok.ct,ok.nx⟩
 ·split at hp
  ·cases hp
  ·injection hp with hp
   injection hp with AD o8
   subst o8
   exact⟨fun y hy=>by have:=ok.wl y hy;exact⟨this.1,by simp only;omega,this.2.2⟩,ok.wd,fun y hy=>ok.fr y (by simp only at hy;omega),ok.ct,by simp only;omega⟩
structure Uq(n:Nat)(w:Nw)(A:Ar)(L:List ((Int×Nat)×Value))(eI:List (Int×Nat))(at_:Nat):Prop where
 hs:w.has 1
 Yd:V7 n A
 lk:Qz w A
 ok:vO A
 c1:∀ (x:Int) y,0≤x→w.cs[x.toNat]? =some y→y.1=0∨(y.1=1∧∃id:Nat,y.2.2=(id:Int)+1∧(y.2.1,id)∈eI∧((x,A.bq x),i64 id)∈L)
 c2:∀p∈eI,∃x:Int,0≤x∧w.cs[x.toNat]? =some (1,p.1,(p.2:Int)+1)
 ge:∀x:Int,0≤x→A.bq x≤at_
 ls:∀p∈L,0≤p.1.1∧p.1.2≤A.bq p.1.1
 ids:L.map (·.2)=(List.range at_).map fun(i:Nat)=>i64 i
 ri:DF eI
 lt:∀p∈eI,p.2<at_
 cn:A.ct=eI.length
theorem Uq.idx{n at_:Nat}{w:Nw}{A:Ar}{L:List ((Int×Nat)×Value)}{eI:List (Int×Nat)}(h:Uq n w A L eI at_){a b:Int×Nat}{id:Nat}(h1:(a,i64 id)∈L)(h2:(b,i64 id)∈L):a=b:=by
 obtain⟨i,hi⟩:=anM h1
 obtain⟨j,hj⟩:=anM h2
 have hk:∀ (k:Nat) (c:(Int×Nat)×Value),L[k]? =some c→c.2=i64 (k:Int):=by
  intro k c hc
  have e1:(L.map (·.2))[k]? =some c.2:=by rw[anA,hc];rfl
  rw[h.ids,anA]at e1
  have aK:=(ana.1 hc).1
  have ny:L.length=at_:=by have:=anx List.length h.ids;simpa using this
  rw[List.getElem?_range (by omega)]at e1
  simpa using e1.symm
 have e1:=hk i _ hi
 have e2:=hk j _ hj
 have e3:i=j:=by
  have:=e1.symm.trans e2
  injection this with _ this
  omega
 subst e3
 rw[hi]at hj
 injection hj with hj
 injection hj
theorem Uq.take{n at_:Nat}{w:Nw}{A:Ar}{L:List ((Int×Nat)×Value)}{eI:List (Int×Nat)}(h:Uq n w A L eI at_)(tU:at_<4294967295){x k:Int}{id:Nat}(hx:0≤x∧x<n)(hy:w.cs[x.toNat]? =some (1,k,(id:Int)+1))(hL:XM (k,id) eI)(hm:((x,A.bq x),i64 id)∈L):Uq n (w.put x (0,0,0)) (A.back x) L (wo eI (k,id)) at_:=by
 have aV:w.cs.length=n:=by rw[h.lk.len];exact h.Yd.len
 have Ye:0≤x∧x<A.g.length:=by rw[h.Yd.len];exact hx
 have hg:∀z:Int,0≤z→(A.back x).bq z=A.bq z:=by
  intro z hz
  rw[Ar.Dv (A:=A) (A':=A.back x) Ye rfl hz]
  split
  ·rename_i e;rw[e]
  ·rfl
 have ju:A.live x:=(h.lk.live x).1 ⟨hx.1,_,hy,by simp⟩
 refine⟨h.hs,h.Yd.back Ye (by have:=h.ge x hx.1;omega),h.lk.put Ye (v:=A.bq x) rfl,h.ok.back ju,fun z y z0 Kl=>?_,fun p hp=>?_,fun z hz=>by rw[hg z hz];exact h.ge z hz,fun p hp=>by have:=h.ls p hp;exact⟨this.1,by rw[hg _ this.1];exact this.2⟩,h.ids,h.ri.wo _,fun p hp=>h.lt p (lR.1 hp).1,?_⟩
 rotate_right
 ·have h1:=(HC h.ri hL.m).length_eq
  have h2:=h.cn
  rw[anw]at h1
  show A.ct - 1=_
  omega
 ·have Kl:(w.cs.set x.toNat (0,0,0))[z.toNat]? =some y:=Kl
  by_cases e:z=x
  ·subst e
   rw[ani (by omega)]at Kl
   injection Kl with Kl
   exact .inl (by rw[←Kl])
  ·rw[anh (by omega)]at Kl
   rcases h.c1 z y z0 Kl with h0| ⟨g1,id2,e1,e2,e3⟩
   ·exact .inl h0
   ·refine .inr ⟨g1,id2,e1,lR.2 ⟨e2,fun e4=>e ?_⟩,by rw[hg z z0];exact e3⟩
    simp only at e4
    rw[e4]at e3
    have:=h.idx e3 hm
    injection this
 ·obtain⟨AD,o8⟩:=lR.1 hp
  obtain⟨z,z0,hz⟩:=h.c2 p AD
  refine⟨z,z0,?_⟩
  show(w.cs.set x.toNat (0,0,0))[z.toNat]? =_
  rw[anh ?_]
  ·exact hz
  ·intro e
   rw[←e,hy]at hz
   injection hz with hz
   injection hz with _ hz
   injection hz with _ hz
   simp only at o8
   omega
theorem Uq.put{n at_:Nat}{w:Nw}{A A':Ar}{L:List ((Int×Nat)×Value)}{eI:List (Int×Nat)}(h:Uq n w A L eI at_){x:Int}(hp:A.pick=some (x,A'))(k:Int):(x,A.bq x+1)∉L.map (·.1)∧Uq n (w.put x (1,k,(at_:Int)+1)) (A'.out x) (L++[((x,A.bq x+1),i64 at_)]) (eI++[(k,at_)]) (at_+1):=by
 obtain⟨hx,lG,Ui,Cg,PA,ZH,Uk⟩:=Ar.uj hp h.ok
 have aV:w.cs.length=n:=by rw[h.lk.len];exact h.Yd.len
 have hAn:=h.Yd.len
 have FA:0≤x∧x<A'.g.length:=by rw[PA];exact hx
 have OD:∀z,A'.bq z=A.bq z:=fun z=>by unfold Ar.bq;rw[PA]
 have hg:∀z:Int,0≤z→(A'.out x).bq z=if z=x then A.bq x+1 else A.bq z:=by
  intro z hz
  rw[Ar.Dv (A:=A') (A':=A'.out x) FA rfl hz]
  rw[OD,OD]
 have R4:∀z,A'.live z↔A.live z:=fun z=>by unfold Ar.live;rw[PA]
 have SV:¬cS w.cs x:=fun hi=>lG ((h.lk.live x).1 hi)
 refine⟨fun hm=>?_,?_⟩
 ·obtain⟨p,AD,o8⟩:=anv.1 hm
  have:=(h.ls p AD).2
  rw[o8]at this
  simp only at this
  omega
 ·refine⟨h.hs,h.Yd.out h.ok hp,h.lk.put hx (v:=A.bq x+1) ?_,?_,fun z y z0 Kl=>?_,fun p hp=>?_,fun z hz=>?_,fun p hp=>?_,?_,?_,fun p hp=>?_,by show A'.ct+1=_;rw[ZH,h.cn,ank];rfl⟩
  ·show A'.g.set x.toNat (A'.bq x+1,true)=_
   rw[OD,PA]
   rfl
  ·refine vO.out (A:=A) ?_ PA FA (fun hl=>lG ((R4 x).1 hl)) Ui Cg
   exact Hj hp h.ok
  ·have Kl:(w.cs.set x.toNat (1,k,(at_:Int)+1))[z.toNat]? =some y:=Kl
   by_cases e:z=x
   ·subst e
    rw[ani (by omega)]at Kl
    injection Kl with Kl
    subst Kl
    refine .inr ⟨rfl,at_,rfl,by simp,?_⟩
    rw[hg z z0,if_pos rfl]
    simp
   ·rw[anh (by omega)]at Kl
    rcases h.c1 z y z0 Kl with h0| ⟨g1,id2,e1,e2,e3⟩
    ·exact .inl h0
    ·exact .inr ⟨g1,id2,e1,anr _ e2,by rw[hg z z0,if_neg e];exact anr _ e3⟩
  ·rcases ann.1 hp with hp|hp
   ·obtain⟨z,z0,hz⟩:=h.c2 p hp
    refine⟨z,z0,?_⟩
    show(w.cs.set x.toNat (1,k,(at_:Int)+1))[z.toNat]? =_
    rw[anh ?_]
    ·exact hz
    ·intro e
     exact SV ⟨hx.1,_,by rw[e];exact hz,by simp⟩
   ·rw[anj]at hp
    subst hp
    refine⟨x,hx.1,?_⟩
    show(w.cs.set x.toNat (1,k,(at_:Int)+1))[x.toNat]? =_
    rw[ani (by omega)]
  ·rw[hg z hz]
   have:=h.ge z hz
   have:=h.ge x hx.1
   split<;>omega
  ·rcases ann.1 hp with hp|hp
   ·have:=h.ls p hp
    refine⟨this.1,?_⟩
    rw[hg _ this.1]
    split
    ·rename_i e;rw[e]at this;omega
    ·exact this.2
   ·rw[anj]at hp
    subst hp
    exact⟨hx.1,by rw[hg _ hx.1,if_pos rfl];exact ano _⟩
  ·rw[anH,h.ids,apl,anH]
   rfl
  ·refine aol.2 ⟨h.ri,by simp,fun a ha b hb=>?_⟩
   rw[anj]at hb
   subst hb
   exact h.lt a ha
  ·rcases ann.1 hp with hp|hp
   ·have:=h.lt p hp;omega
   ·rw[anj]at hp
    subst hp
    exact Nat.lt_succ_self _
section
variable {H : Hp} {s : Nat} {S : Nat → Prop} {w : Nw} {A : Ar} {q : Int}
theorem Qz.key(l:Qz w A){x k s:Int}{y:Ce}(hx:A.live x)(hy:w.cs[x.toNat]? =some y):Qz (w.put x (y.1,k,s)) A:=by
 have h1:=(l.live x).2 hx
 have h0:=h1.1
 have aK:=(ana.1 hy).1
 have FA:0≤x∧x<w.cs.length:=by omega
 refine⟨by simp[Nw.put,l.len],fun z=>?_⟩
 rw[←l.live z,←bk,←bk,dK FA]
 by_cases e:z=x
 ·rw[if_pos e,e]
  obtain⟨_,c,hc,fP⟩:=h1
  rw[hy]at hc
  injection hc with hc
  subst hc
  have h2:=bk.2 ((l.live x).2 hx)
  exact⟨fun _=>h2,fun _=>fP⟩
 ·rw[if_neg e]
theorem vW(h:Cn H s S w A q){x:Int}(hx:A.live x)(key:Int):af Tryz.prog pE [ptr s,fW x (A.bq x),i64 key] H fun v H'=>ar (
  ∃y,w.cs[x.toNat]? =some y∧((y.2.1<key∧v=i64 173∧I7 s S H H' w A q)∨(key≤y.2.1∧v=i64 0∧I7 s S H H' (w.put x (y.1,key,y.2.2)) A q))):=by
 have eD:=h.slt
 refine aP pL ?_
 refine vs ?_
 have f0:ah H (H.new 114 [i64 x,.int .u32 (A.bq x:Int)]):=(ag.refl _ _).new _ _
 have b0:(H.new 114 [i64 x,.int .u32 (A.bq x:Int)]).own H.size=some [i64 x,.int .u32 (A.bq x:Int)]:=ax _ _ _
 have z0:(H.new 114 [i64 x,.int .u32 (A.bq x:Int)]).size=H.size+1:=am _ _ _
 generalize H.new 114 [i64 x,.int .u32 (A.bq x:Int)]=H0 at*
 have h0:=h.ext f0 (fun _ _ h=>h)
 refine v1 (ae b0) ?_
 refine(wH h0 hx).mono ?_
 rintro _ H1 ⟨y,hy,rfl,S1,h1,e1,et⟩
 have hS1:∀z,S1 z→z≠H.size:=fun z hz=>by
  rcases et z hz with hh|hh
  ·have:=eD z hh;omega
  ·omega
 have b1:=e1.own b0 (fun hh=>by have:=eD _ hh;omega)
 refine vs ?_
 obtain⟨f2,c2,z2⟩:=LY H1 224 [i64 0,u64 0] [i64 y.2.1,u64 y.2.2]
 have J7:=e1.size
 generalize FG:H1.size=cc at*
 generalize (H1.new 224 [i64 0,u64 0]).wr cc [i64 y.2.1,u64 y.2.2]=H2 at*
 have h2:=h1.ext f2 (fun _ _ h=>h)
 have b2:=f2.own b1 (fun h=>h)
 have eS:ag S H H2:=(f0.mono fun _ _ h=>h.elim).trans (e1.trans (f2.mono fun _ _ h=>h.elim))
 have hsS:∀z,S1 z→S z∨H.size≤z:=fun z hz=>(et z hz).imp id fun h=>by omega
 refine v2 anT (ae c2) ?_
 refine ak.dec (fun hk=>?_) (fun hk=>?_)<;>refine v1 anT ?_
 ·exact⟨y,hy,.inl ⟨by omega,rfl,S1,h2,eS,hsS⟩⟩
 obtain⟨t,vv,I,Sn,B,k,d,n,hi,m,ho,d1,d2,hS,Gt⟩:=h2
 refine v3 (ae ho) (ae b2) (ae c2) ?_
 refine(n.kq x key y.2.2 hi).mono ?_
 rintro _ H3 (⟨bJ,_⟩| ⟨_,rfl,y',Ek,Db,pe,e3,Fy⟩)
 ·refine absurd ⟨(Gt.live x).2 hx,fun y' Ek=>?_⟩ bJ
  rw[hy]at Ek
  injection Ek with Ek
  subst Ek
  unfold eX
  omega
 rw[hy]at Ek
 injection Ek with Ek
 subst Ek
 refine vs ?_
 have hBl:=m.slt
 have dE:=eS.size
 have Ld:=e3.size
 have hos:=az ho
 refine⟨y,hy,.inr ⟨by omega,rfl,fun z=>Db z∨B.S z∨z=s,⟨t,vv,I,Db,B,k,d,n,pe,m.ext e3 (fun z hz h=>(d1 z h).1 hz),e3.own ho (fun h=>(d1 _ h).2 rfl),fun z hz=>?_,d2,fun z=>Iff.rfl,Gt.key hx hy⟩,?_,fun z hz=>?_⟩⟩
 ·rcases Fy z hz with h|h
  ·exact d1 z h
  ·exact⟨fun h2=>by have:=hBl z h2;omega,by omega⟩
 ·refine⟨by omega,fun z hz hn=>?_⟩
  rw[e3.aI z (by omega) (fun h=>?_),eS.aI z hz hn]
  rcases hsS z ((hS z).2 (.inl h))with h|h
  ·exact hn h
  ·omega
 ·rcases hz with h|h
  ·rcases Fy z h with h|h
   ·exact hsS z ((hS z).2 (.inl h))
   ·exact .inr (by omega)
  ·exact hsS z ((hS z).2 (.inr h))
end
end Go.Proofs.YtjlnnljohemifaaGreat

namespace Go.Proofs.YtjlnnljohemifaaGreat
open Go Go.Vc
def kC(n:Int)(e:Ed):Bool:=decide (0≤e.f) && decide (e.f<n) && (decide (0≤e.t) && decide (e.t<n))
def dP(n:Int)(es:List Ed):Bool:=es.all (kC n) && (decide (0≤n) && (decide (n≤4096) && decide (es.length≤65536)))
theorem fM(n:Int)(es:List Ed):dP n es=true↔eR n es:=by
 simp only[dP,kC,an4,anF,aok]
 exact⟨fun⟨h1,h2,h3,h4⟩=>⟨h2,h3,h4,fun e he=>⟨(h1 e he).1.1,(h1 e he).1.2,(h1 e he).2.1,(h1 e he).2.2⟩⟩,fun h=>⟨fun e he=>have k:=h.ends e he;⟨⟨k.1,k.2.1⟩,k.2.2⟩,h.n0,h.n1,h.len⟩⟩
def yg(n:Int)(s:Value):Value:=.agg [i64 n,s].toArray
theorem BR{H:Hp}{n:Int}{a:Option Addr}{c:Nat}{es:List Ed}(h:cI H 3 (.slice a es.length c) es.length (dM es))(hm:es.length≤1000000000):
  af Tryz.prog FK [yg n (.slice a es.length c)] H fun v H'=>ar (v= .bool (dP n es)∧ah H H'):=by
 refine aP FZ ?_
 have f0:ah H (H.new 52 [i64 n,.slice a es.length c]):=(ag.refl _ _).new _ _
 have b0:=ax H 52 [i64 n,.slice a es.length c]
 simp(disch:=(first|omega| (simp only[Zs]<;>omega)|fail)) only[go_sem, ↓reduceIte,Zv,yg]
 generalize H.new 52 [i64 n,.slice a es.length c]=H0 at*
 have h0:=h.fresh f0
 refine aT.intro (fun m env H'=>ah H0 H'∧∃j:Nat,m=es.length - j∧j≤es.length∧(∀e∈es.take j,kC n e=true)∧env=[(1,ptr H.size),(6,.slice a es.length c),(7,i64 es.length),(8,i64 j)]) es.length ⟨ag.refl _ _,0,by omega,by omega,by simp,rfl⟩ ?_
 rintro m env H1 ⟨f1,j,SO,hj,cR,rfl⟩
 have h1:=h0.fresh f1
 have b1:=f1.own b0 (fun h=>h)
 refine vs ?_
 refine ak.dec (fun aK=>?_) (fun aK=>?_)<;>refine vs ?_
 ·have fF:j<es.length:=by omega
  obtain⟨e,he⟩:∃e,es[j]? =some e:=⟨_,am8 fF⟩
  obtain⟨_,b,o,lb,rfl,eG,mJ,ef⟩:=cI.CA h1 he
  refine⟨⟨by omega,by omega⟩,?_⟩
  have bF:=ang he
  simp(disch:=(first|omega| (simp only[Zs]<;>omega)|fail)) only[go_sem, ↓reduceIte,Zv,eG,Int.toNat_natCast,ef,ed]
  refine⟨by omega,?_⟩
  have q2:=ax H1 61 [i64 0,i64 0,i64 0]
  simp(disch:=(first|omega| (simp only[Zs]<;>omega)|fail)) only[go_sem, ↓reduceIte,Zv,ef,ed,q2]
  have q3:=ai (l:=[i64 e.f,i64 e.t,i64 e.w]) q2
  have f3:ah H1 ((H1.new 61 [i64 0,i64 0,i64 0]).wr H1.size [i64 e.f,i64 e.t,i64 e.w]):=((ag.refl _ _).new _ _:ah H1 _).then ((ag.refl (fun z=>z=H1.size) _).wr (fun _=>rfl) _) (fun z hz=>by omega)
  have b3:=f3.own b1 (fun h=>h)
  have no:kC n e=false→dP n es=false:=fun hf=>by
   unfold dP
   rw[Bool.and_eq_false_iff]
   exact .inl (List.all_eq_false.2 ⟨e,bF,by rw[hf];simp⟩)
  generalize (H1.new 61 [i64 0,i64 0,i64 0]).wr H1.size [i64 e.f,i64 e.t,i64 e.w]=H3 at*
  have fz:=f0.trans (f1.trans f3)
  refine v2 (ae q3) (ae b3) ?_
  refine ak.dec (fun g1=>?_) (fun g1=>?_)<;>refine v2 (ae q3) (ae b3) ?_
  ·exact⟨anx Value.bool (no (by simp[kC];omega)).symm,fz⟩
  refine ak.dec (fun g2=>?_) (fun g2=>?_)<;>refine v2 (ae q3) (ae b3) ?_
  ·exact⟨anx Value.bool (no (by simp[kC];omega)).symm,fz⟩
  refine ak.dec (fun g3=>?_) (fun g3=>?_)<;>refine v2 (ae q3) (ae b3) ?_
  ·exact⟨anx Value.bool (no (by simp[kC];omega)).symm,fz⟩
  refine ak.dec (fun g4=>?_) (fun g4=>?_)<;>refine v2 (ae q3) (ae b3) ?_
  ·exact⟨anx Value.bool (no (by simp[kC];omega)).symm,fz⟩
  rw[wrap64 (n:=(j:Int)+1) (by omega) (by omega)]
  refine⟨es.length - (j+1),by omega,f1.trans f3,j+1,rfl,by omega,?_,rfl⟩
  intro e' im
  rw[anN,he]at im
  rcases ann.1 im with im|im
  ·exact cR e' im
  ·rw[anj.1 im];simp[kC];omega
 ·have fF:j=es.length:=by omega
  subst fF
  rw[anJ]at cR
  have hr:dP n es=(decide (0≤n) && (decide (n≤4096) && decide (es.length≤65536))):=by
   unfold dP
   rw[aok.2 cR,aov]
  rw[hr]
  refine v1 (ae b1) ?_
  refine ak.dec (fun g1=>?_) (fun g1=>?_)<;>refine v1 (ae b1) ?_
  ·refine ak.dec (fun g2=>?_) (fun g2=>?_)<;>refine v1 (ae b1) ?_
   ·exact⟨by rw[anp (show 0≤n by omega),anp (show n≤4096 by omega),aov,aov];exact anx Value.bool (by rw[decide_eq_decide];omega),f0.trans f1⟩
   ·exact⟨by rw[anD (show¬n≤4096 by omega),aoX,Bool.and_false];rfl,f0.trans f1⟩
  ·exact⟨by rw[anD (show¬0≤n by omega),aoX];rfl,f0.trans f1⟩
def fE(es:List Ed)(i:Int):E2:=match es[i.toNat]? with|some e=>(e.f.toNat,e.t.toNat)|none=>(0,0)
def wE(es:List Ed)(i:Int):Int:=match es[i.toNat]? with|some e=>e.w|none=>0
theorem Ab{es:List Ed}{i:Nat}{e:Ed}(h:es[i]? =some e):fE es (i:Int)=(e.f.toNat,e.t.toNat):=by unfold fE;rw[Int.toNat_natCast,h]
theorem tD{es:List Ed}{i:Nat}{e:Ed}(h:es[i]? =some e):wE es (i:Int)=e.w:=by unfold wE;rw[Int.toNat_natCast,h]
def Km(es:List Ed)(i:Int):Prop:=0≤i∧i<es.length
theorem Km.get{es:List Ed}{i:Int}(h:Km es i):∃ (k:Nat) (e:Ed),i=(k:Int)∧es[k]? =some e∧k<es.length:=
 ⟨i.toNat,_,by have:=h.1;omega,am8 (by have:=h.1;have:=h.2;omega),by have:=h.1;have:=h.2;omega⟩
def allI(n:Nat):List Int:=(List.range n).map fun i:Nat=>(i:Int)
theorem ES{n:Nat}{i:Int}:i∈allI n↔0≤i∧i<n:=by
 unfold allI
 rw[anv]
 constructor
 ·rintro⟨k,hk,rfl⟩;rw[aog]at hk;omega
 ·intro h;exact⟨i.toNat,aog.2 (by omega),by omega⟩
theorem uo(n:Nat):allI (n+1)=allI n++[(n:Int)]:=by unfold allI;rw[apl,anH];rfl
theorem tE(n:Nat):(allI n).length=n:=by simp[allI]
theorem qu{n:Int}{es:List Ed}(h:eR n es){i:Int}(hi:Km es i):(fE es i).1<n.toNat∧(fE es i).2<n.toNat:=by
 obtain⟨k,e,rfl,he,_⟩:=hi.get
 rw[Ab he]
 have:=h.ends e (ang he)
 simp only
 omega
def dR(n:Nat)(ks:List E2):List Int:=(List.range n).map fun v=>(aB ks v:Int)
theorem oQ(n:Nat)(ks:List E2):(dR n ks).length=n:=by simp[dR]
theorem it{n:Nat}(ks:List E2){v:Nat}(h:v<n):(dR n ks)[v]? =some (aB ks v:Int):=by unfold dR;rw[anA,List.getElem?_range h];rfl
theorem OL(n:Nat):dR n []=allI n:=rfl
theorem Mo(n:Nat)(ks:List E2)(e:E2):dR n (ks++[e])=(dR n ks).map fun x=>if x=((max (aB ks e.1) (aB ks e.2):Nat):Int)then((min (aB ks e.1) (aB ks e.2):Nat):Int)else x:=by
 unfold dR
 rw[List.map_map]
 refine apb fun v _=>?_
 rw[lS]
 unfold Cc
 simp only[Function.comp_apply]
 by_cases h:aB ks v=max (aB ks e.1) (aB ks e.2)
 ·rw[if_pos h,if_pos (by rw[h])]
 ·rw[if_neg h,if_neg (by omega)]
structure jv(n:Int)(es:List Ed)(ks:List Int):Prop where
 ins:∀i∈ks,Km es i
 uD:gh (ks.map (fE es))
 all:∀u v,bA ((allI es.length).map (fE es)) u v→bA (ks.map (fE es)) u v
theorem ja{es:List Ed}{i:Int}:i∈allI es.length↔Km es i:=ES
theorem jv.sub{n:Int}{es:List Ed}{ks:List Int}(h:jv n es ks):∀i∈ks,i∈allI es.length:=fun i hi=>ja.2 (h.ins i hi)
theorem jv.iff{n:Int}{es:List Ed}{ks:List Int}(h:jv n es ks)(u v:Nat):bA (ks.map (fE es)) u v↔bA ((allI es.length).map (fE es)) u v:=
 ⟨dV fun x hx=>by obtain⟨i,hi,rfl⟩:=anv.1 hx;exact anv.2 ⟨i,h.sub i hi,rfl⟩,h.all u v⟩
theorem jv.aaa{n:Int}{es:List Ed}{ks:List Int}(hr:eR n es)(h:jv n es ks):∀i∈ks,(fE es i).1<n.toNat∧(fE es i).2<n.toNat:=fun i hi=>qu hr (h.ins i hi)
def Mp(es:List Ed)(ks:List Int):Prop:=Loc (fE es) (wE es) (allI es.length) ks
theorem OM{n:Int}{es:List Ed}(hr:eR n es){ks L:List Int}(h:jv n es ks)(hL:L.Perm (allI es.length))(hs:L.Pairwise fun i j=>wE es i≤wE es j):
  (ks.map (wE es)).sum=((bO (fE es) L).map (wE es)).sum↔Mp es ks:=by
 obtain⟨g1,g2,g3⟩:=tZ (e:=fE es) L
 have HH:∀i∈bO (fE es) L,i∈allI es.length:=fun i hi=>hL.mem_iff.1 (g2 i hi)
 have hb:∀i∈allI es.length,(fE es i).1<n.toNat∧(fE es i).2<n.toNat:=fun i hi=>qu hr (ja.1 hi)
 have l1:=DL (n:=n.toNat) (E:=allI es.length) HH g1 hb (fun i hi=>g3 i (hL.mem_iff.2 hi))
 have l2:=DL (n:=n.toNat) (E:=allI es.length) h.sub h.uD hb (fun i hi=>h.all _ _ (jO (anv.2 ⟨i,hi,rfl⟩)))
 have aff:Loc (fE es) (wE es) (allI es.length) (bO (fE es) L):=fun i hi=>Li (e:=fE es) hs i (hL.mem_iff.2 hi)
 have:=(NS (n:=n.toNat) HH g1 h.sub h.uD hb (by omega) aff).2
 exact⟨fun he=>this.1 he.symm,fun hl=>(this.2 hl).symm⟩
end Go.Proofs.YtjlnnljohemifaaGreat
