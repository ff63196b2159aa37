/- Texts put behind each other. -/
import Derived.Test.YtjlnnljohemifaaGreatK98
import Derived.Test.YtjlnnljohemifaaGreatK0
import Derived.Test.YtjlnnljohemifaaGreatK1
import Derived.Test.YtjlnnljohemifaaGreatK17
import Derived.Test.YtjlnnljohemifaaGreatK20
import Derived.Test.YtjlnnljohemifaaGreatK21
set_option maxRecDepth 100000
set_option maxHeartbeats 8000000
set_option linter.unusedVariables false
set_option linter.unusedSimpArgs false
namespace Go.Proofs.YtjlnnljohemifaaGreat
open Go Go.Vc
structure ce(lt:Int→Int→Bool)(d:Int)(l:List Int)(pl:Int→Option Int):Prop where
 heap:eM lt d l
 pl:CK l pl
theorem ce.nil(lt:Int→Int→Bool)(d:Int):ce lt d [] (fun _=>none):=
 ⟨fun j _ h=>by simp at h,fun z k=>by simp⟩
theorem ce.congr{lt lt':Int→Int→Bool}{d:Int}(hf:cU d){l:List Int}{pl:Int→Option Int}(h:ce lt d l pl)(hfg:∀z∈l,∀y∈l,lt z y=lt' z y):ce lt' d l pl:=by
 refine⟨fun j h1 h2=>?_,h.pl⟩
 have hp:=cG hf h1
 have e:∀k,k<l.length→l.getD k 0∈l:=fun k hk=>by
  rw[aom,aoh hk];exact List.getElem_mem hk
 rw[←hfg _ (e j h2) _ (e _ (show pa d j<l.length by omega))]
 exact h.heap j h1 h2
theorem ce.add{lt:Int→Int→Bool}(ho:bA lt){d:Int}(hf:cU d){l:List Int}{pl:Int→Option Int}(h:ce lt d l pl){x:Int}(hx:pl x=none):
  ce lt d (fC lt d x l.length (l++[x]) pl l.length).l (fC lt d x l.length (l++[x]) pl l.length).pl∧
   (∀z,z∈(fC lt d x l.length (l++[x]) pl l.length).l↔z=x∨z∈l)∧(fC lt d x l.length (l++[x]) pl l.length).l.length=l.length+1∧
   (fC lt d x l.length (l++[x]) pl l.length).asked≤kX d l.length:=by
 have T3:=hf.1
 have cd:∀k,k<l.length→(l++[x]).getD k 0=l.getD k 0:=fun k hk=>by
  rw[aom,aom,aox hk]
 have PS:∀j:Nat,1≤j→j<l.length+1→pa d j≠l.length:=fun j h1 h2=>by have:=cG hf h1;omega
 have hP:RD (l++[x]) pl l.length x:=by
  intro z hz k
  rw[h.pl z k]
  constructor
  ·rintro⟨a,b⟩
   have hk:=(aoj.1 b).1
   exact⟨a,by omega,by rw[aox hk];exact b⟩
  ·rintro⟨a,b,c⟩
   refine⟨a,?_⟩
   have hk:=(aoj.1 c).1
   simp only[aor,aoA]at hk
   rw[aox (by omega)]at c
   exact c
 have mF:x∉l:=fun hm=>by
  obtain⟨k,hk⟩:=aoS hm
  have:=(h.pl x k).2 ⟨by omega,by simpa using hk⟩
  rw[hx]at this;cases this
 have Lo:∀z,II (l++[x]) l.length z↔z∈l:=by
  intro z
  constructor
  ·rintro⟨k,k1,k2⟩
   have hk:=(aoj.1 k2).1
   simp only[aor,aoA]at hk
   rw[aox (by omega)]at k2
   exact aon k2
  ·intro hm
   obtain⟨k,hk⟩:=aoS hm
   have:=(aoj.1 hk).1
   exact⟨k,by omega,by rw[aox this];exact hk⟩
 obtain⟨p1,p2⟩:=CL (lt:=lt) (d:=d) x l.length (l++[x]) pl l.length (by simp) (by omega) (by simp;omega) hP (fun hc=>mF ((Lo x).1 hc))
 refine⟨⟨JD ho hf x _ _ _ _ (by simp) (by omega) (by simp;omega) ⟨fun j h1 h2 h3 h4=>?_,fun j h1 h2 h3 h4=>?_⟩ (fun j h1 h2 h3=>?_),p1⟩,fun z=>by rw[p2 z,Lo z],by rw[vE];simp,?_⟩
 ·simp only[Int.toNat_natCast]at h3 h4
  have:j<l.length:=by simp at h2;omega
  have hp:=cG hf h1
  rw[cd j this,cd _ (by omega)]
  exact h.heap j h1 this
 ·simp only[Int.toNat_natCast]at h3
  exact absurd h3 (PS j h1 (by simpa using h2))
 ·simp only[Int.toNat_natCast]at h3
  exact absurd h3 (PS j h1 (by simpa using h2))
 ·have:=FJ lt d x l.length (l++[x]) pl l.length
  unfold kX
  simpa using this
theorem ce.Xb{lt:Int→Int→Bool}(ho:bA lt){d:Int}(hf:cU d){l:List Int}{pl:Int→Option Int}(h:ce lt d l pl){x i:Int}(hx:pl x=some i):
  ce lt d (cR lt d x l pl i).1 (cR lt d x l pl i).2.1∧(cR lt d x l pl i).1.length=l.length - 1∧
   (∀z,z∈(cR lt d x l pl i).1↔z∈l∧z≠x)∧((cR lt d x l pl i).2.2:Int)≤d*(kX d ((l.length:Int) - 1):Nat)+1:=by
 obtain⟨a,b,c,e,g⟩:=Lt ho hf h.heap h.pl hx
 exact⟨⟨a,b⟩,c,e,g⟩
theorem ce.mem{lt:Int→Int→Bool}{d:Int}{l:List Int}{pl:Int→Option Int}(h:ce lt d l pl)(z:Int):z∈l↔pl z≠none:=by
 constructor
 ·intro hm
  obtain⟨k,hk⟩:=aoS hm
  rw[(h.pl z k).2 ⟨by omega,by simpa using hk⟩]
  simp
 ·intro hn
  obtain⟨k,hk⟩:=Option.ne_none_iff_exists'.1 hn
  exact aon ((h.pl z k).1 hk).2
theorem ce.least{lt:Int→Int→Bool}(ho:bA lt){d:Int}(hf:cU d){l:List Int}{pl:Int→Option Int}(h:ce lt d l pl){x:Int}(hx:l[0]? =some x):∀z∈l,z≠x→lt x z=true:=by
 intro z hz aP
 obtain⟨k,hk⟩:=aoS hz
 have Ud:=(aoj.1 hk).1
 have:=FM ho hf h.heap k k (aov _) Ud
 rw[aom,aom,hk,hx]at this
 rcases ho.OD x z (Ne.symm aP)with h1|h1
 ·exact h1
 ·simp only[Option.getD_some]at this
  rw[h1]at this;cases this
theorem ce.raise{lt lt':Int→Int→Bool}(ho:bA lt)(ho':bA lt'){d:Int}(hf:cU d){l:List Int}{pl:Int→Option Int}(h:ce lt d l pl){x i:Int}(hx:pl x=some i)(aO:∀a∈l,∀b∈l,a≠x→b≠x→lt' a b=lt a b)(WD:∀z∈l,z≠x→lt z x=false→lt' z x=false):
  ce lt' d (fC lt' d x i.toNat l pl i).l (fC lt' d x i.toNat l pl i).pl∧(∀z,z∈(fC lt' d x i.toNat l pl i).l↔z∈l)∧(fC lt' d x i.toNat l pl i).l.length=l.length∧
   (fC lt' d x i.toNat l pl i).asked≤kX d ((l.length:Int) - 1):=by
 obtain⟨i0,hi⟩:=(h.pl x i).1 hx
 have qi:i.toNat<l.length:=(aoj.1 hi).1
 have vq:∀j,j<l.length→j≠i.toNat→l.getD j 0≠x:=fun j hj aP e=>by
  have:l[j]? =some x:=by rw[aoh hj,←e,aom,aoh hj];rfl
  exact aP (h.pl.FK this hi)
 have bJ:∀j,j<l.length→l.getD j 0∈l:=fun j hj=>by rw[aom,aoh hj];exact List.getElem_mem hj
 have Nj:=h.heap.but ho hf i.toNat
 have hO:¬II l i x:=by
  rintro⟨k,k1,k2⟩
  have:=h.pl.FK k2 hi
  omega
 obtain⟨p1,p2⟩:=CL (lt:=lt') (d:=d) x i.toNat l pl i (aov _) i0 (by omega) (h.pl.afo hi i0) hO
 refine⟨⟨JD ho' hf x _ _ _ _ (aov _) i0 (by omega) ⟨fun j h1 h2 h3 h4=>?_,fun j h1 h2 h3 h4=>?_⟩ (fun j h1 h2 h3=>?_),p1⟩,fun z=>?_,vE _ _ _ _ _ _ _,?_⟩
 ·have:=cG hf h1
  rw[aO _ (bJ j h2) _ (bJ _ (by omega)) (vq j h2 h3) (vq _ (by omega) h4)]
  exact Nj.1 j h1 h2 h3 h4
 ·have:=cG hf h1
  have:=cG hf h4
  rw[aO _ (bJ j h2) _ (bJ _ (by omega)) (vq j h2 (by omega)) (vq _ (by omega) (by omega))]
  exact Nj.2 j h1 h2 h3 h4
 ·have WE:=cG hf h1
  have aP:=vq j h2 (by omega)
  have:=h.heap j h1 h2
  rw[h3,show l.getD i.toNat 0=x by rw[aom,hi];rfl]at this
  exact WD _ (bJ j h2) aP this
 ·rw[p2 z]
  constructor
  ·rintro(rfl| ⟨k,_,k2⟩)
   ·exact aon hi
   ·exact aon k2
  ·intro hm
   obtain⟨k,hk⟩:=aoS hm
   by_cases e:(k:Int)=i
   ·rw[show k=i.toNat by omega,hi]at hk;injection hk with hk;exact .inl hk.symm
   ·exact .inr ⟨k,e,hk⟩
 ·have e1:=FJ lt' d x i.toNat l pl i
  have e2:=kY hf ((l.length:Int) - 1).toNat i ((l.length:Int) - 1) (aov _) (by omega)
  unfold kX at e2 ⊢
  omega
structure Rw where
 r:Nat
 S:Nat→Prop
 l:List Int
 pl:Int→Option Int
def R2:Option Rw→Value
 |none=>.pointer none
 |some R=>ptr R.r
structure oA(H:Hp)(n c:Nat)(C:Nat→Prop)(rv:Value)(fp:Option Nat)(d st:Int)(w:Nw)(rs:List (Option Rw)):Prop where
 own:H.own n=some [ptr c,i64 d,rv]
 cells:bf H c C st w
 sl:Sl H 1 rv rs.length (rs.map R2) fp
 row:∀ (h:Nat) R,rs[h]? =some (some R)→dm H R.r R.S d R.l R.pl
 nC:¬C n
 xA:∀b,fp=some b→b≠n∧¬C b
 mI:∀ (h:Nat) R,rs[h]? =some (some R)→∀x,R.S x→¬C x∧x≠n∧fp≠some x
 oX:∀ (h h':Nat) R R',rs[h]? =some (some R)→rs[h']? =some (some R')→h≠h'→∀x,R.S x→¬R'.S x
def DF(n:Nat)(C:Nat→Prop)(fp:Option Nat)(rs:List (Option Rw))(z:Nat):Prop:=C z∨z=n∨fp=some z∨∃ (h:Nat) (R:Rw),rs[h]? =some (some R)∧R.S z
structure R3(d:Int)(w:Nw)(rs:List (Option Rw)):Prop where
 zH:cU d
 hl:rs.length=w.hs.length
 hs:∀h:Nat,w.hs[h]? =some true↔∃R,rs[h]? =some (some R)
 h0:rs[0]? =some none
 ok:∀ (h:Nat) R,rs[h]? =some (some R)→ce (aQ w) d R.l R.pl
 mem:∀ (h:Nat) R,rs[h]? =some (some R)→∀x:Int,x∈R.l↔0≤x∧∃e,w.cs[x.toNat]? =some (((h:Nat):Int),e)
 len:∀ (h:Nat) R,rs[h]? =some (some R)→(R.l.length:Int)=w.len h
def df(H:Hp)(n:Nat)(S:Nat→Prop)(d st:Int)(w:Nw):Prop:=∃c C rv fp rs,oA H n c C rv fp d st w rs∧R3 d w rs∧(∀z,DF n C fp rs z↔S z)
theorem oA.slt{H:Hp}{n c:Nat}{C:Nat→Prop}{rv:Value}{fp:Option Nat}{d st:Int}{w:Nw}{rs:List (Option Rw)}(h:oA H n c C rv fp d st w rs):∀z,DF n C fp rs z→z<H.size:=by
 rintro z (hz|rfl|hz| ⟨i,R,hR,hz⟩)
 ·exact h.cells.slt z hz
 ·exact aB h.own
 ·exact Sl.lt (hz▸h.sl)
 ·exact(h.row i R hR).slt z hz
theorem oA.ext{H H':Hp}{n c:Nat}{C T:Nat→Prop}{rv:Value}{fp:Option Nat}{d st:Int}{w:Nw}{rs:List (Option Rw)}(h:oA H n c C rv fp d st w rs)(e:ag T H H')(hd:∀z,DF n C fp rs z→¬T z):oA H' n c C rv fp d st w rs:=
 ⟨e.own h.own (hd n (.inr (.inl rfl))),h.cells.ext e (fun x hx=>hd x (.inl hx)),h.sl.ext e (fun b hb=>hd b (.inr (.inr (.inl hb)))),fun i R hR=>(h.row i R hR).ext e (fun x hx=>hd x (.inr (.inr (.inr ⟨i,R,hR,hx⟩)))),h.nC,h.xA,h.mI,h.oX⟩
theorem df.slt{H:Hp}{n:Nat}{S:Nat→Prop}{d st:Int}{w:Nw}(h:df H n S d st w):∀z,S z→z<H.size:=by
 obtain⟨c,C,rv,fp,rs,m,l,hS⟩:=h
 exact fun z hz=>m.slt z ((hS z).2 hz)
theorem df.ext{H H':Hp}{n:Nat}{S T:Nat→Prop}{d st:Int}{w:Nw}(h:df H n S d st w)(e:ag T H H')(hd:∀z,S z→¬T z):df H' n S d st w:=by
 obtain⟨c,C,rv,fp,rs,m,l,hS⟩:=h
 exact⟨c,C,rv,fp,rs,m.ext e (fun z hz=>hd z ((hS z).1 hz)),l,hS⟩
theorem df.fresh{H H':Hp}{n:Nat}{S:Nat→Prop}{d st:Int}{w:Nw}(h:df H n S d st w)(e:ah H H'):df H' n S d st w:=h.ext e fun _ _ h=>h
theorem yn(cap d:Int)(H:Hp):af Tryz.prog MS [i64 cap,i64 d] H fun v H'=>aw (
  ah H H'∧((¬ (0≤cap∧cap≤65536)∧v= .tuple [.pointer none,i64 31].toArray)∨((0≤cap∧cap≤65536)∧¬cU d∧v= .tuple [.pointer none,i64 22].toArray)∨
   ((0≤cap∧cap≤65536)∧cU d∧∃n S,v= .tuple [ptr n,i64 0].toArray∧df H' n S d 0 ⟨[false],List.replicate cap.toNat (0,0,0)⟩∧∀x,S x→H.size≤x))):=by
 refine bv MX ?_
 refine vs ?_
 refine(lH cap H).mono ?_
 rintro _ H1 ⟨f1,⟨hb,rfl⟩| ⟨hb,c,C,rfl,c1,hC⟩⟩
 ·refine vs ?_
  exact⟨f1,.inl ⟨hb,rfl⟩⟩
 refine vs ?_
 refine(ye d H1).mono ?_
 rintro _ H2 ⟨f2,⟨hf,rfl⟩| ⟨hf,r,S,rfl,r2,hS⟩⟩
 ·refine vs ?_
  exact⟨f1.trans f2,.inr (.inl ⟨hb,hf,rfl⟩)⟩
 refine v1 aoZ ?_
 have f3:ah H2 ((H2.new 250 [.pointer none]).new 255 [ptr c,i64 d,.slice (some ⟨H2.size,0,none⟩) 1 1]):=((ag.refl _ _).new _ _).new _ _
 have z1:=f1.size
 have z2:=f2.size
 have yb:=c1.slt
 refine⟨(f1.trans f2).trans f3,.inr (.inr ⟨hb,hf,H2.size+1,DF (H2.size+1) C (some H2.size) [none],rfl,⟨c,C,.slice (some ⟨H2.size,0,none⟩) 1 1,some H2.size,[none],
  ⟨aU (by simp only[ap]),(c1.fresh f2).fresh f3,?_,fun h R hR=>?_,fun h=>by have:=yb _ h;omega,fun b hb=>?_,fun h R hR=>?_,fun h h' R R' hR=>?_⟩,
  ⟨hf,rfl,fun h=>?_,rfl,fun h R hR=>?_,fun h R hR=>?_,fun h R hR=>?_⟩,fun z=>Iff.rfl⟩,fun x hx=>?_⟩)⟩
 ·exact(Sl.bU (size:=1) (n:=1) (xs:=[.pointer none]) rfl rfl).ext ((ag.refl (fun _=>False) _).new _ _) (fun _ _ h=>h)
 ·rcases h with _|h<;>simp at hR
 ·injection hb with hb
  subst hb
  exact⟨by omega,fun h=>by have:=yb _ h;omega⟩
 ·rcases h with _|h<;>simp at hR
 ·rcases h with _|h<;>simp at hR
 ·rcases h with _|h<;>simp
 ·rcases h with _|h<;>simp at hR
 ·rcases h with _|h<;>simp at hR
 ·rcases h with _|h<;>simp at hR
 ·rcases hx with hx|rfl|hx| ⟨i,R,hR,hx⟩
  ·exact hC x hx
  ·omega
  ·injection hx with hx;omega
  ·rcases i with _|i<;>simp at hR
theorem F2{n c:Nat}{C:Nat→Prop}{rv:Value}{d st:Int}{w:Nw}(hn:¬C n):Ng (.iface 194 (ptr n)) (fun H k=>bf H c C (min (st+k) 4611686018427387904) w∧H.own n=some [ptr c,i64 d,rv])
  (fun x=>C x∨x=n) (aQ w) (cY w.cs):=by
 refine⟨fun H k a b ha hb h=>⟨_,_,cM,ptr c,rfl,fU (off:=0) (by kernel_rfl) (ae h.2) rfl,(jn h.1 a b).mono ?_⟩,aa6 (x:=(0,cM)) (by kernel_rfl),fun H H' k U h e hd=>?_,fun H k h x hx=>?_⟩
 ·rintro v H' ⟨rfl,h1,e⟩
  rw[if_pos ⟨ha,hb⟩]at h1
  have hs:fP (min (st+(k:Nat)) 4611686018427387904) 1=min (st+((k+1:Nat):Int)) 4611686018427387904:=by
   unfold fP
   rw[if_neg (by omega)]
   split<;>omega
  rw[hs]at h1
  exact⟨by rw[CM ha hb],⟨h1,e.own h.2 hn⟩,e.mono fun z _ hz=>.inl hz⟩
 ·exact⟨h.1.ext e (fun x hx=>hd x (.inl hx)),e.own h.2 (hd n (.inr rfl))⟩
 ·rcases hx with hx|rfl
  ·exact h.1.slt x hx
  ·exact aB h.2
theorem F3{H:Hp}{n:Nat}{S:Nat→Prop}{d st:Int}{w:Nw}(h:df H n S d st w):af Tryz.prog pM [ptr n] H fun v H'=>aw (
  (w.hs.length=65537∧v=i64 0∧H=H')∨
  (w.hs.length≠65537∧v=i64 w.hs.length∧∃S',df H' n S' d st w.make∧ag S H H'∧∀x,S' x→S x∨H.size≤x)):=by
 obtain⟨c,C,rv,fp,rs,m,l,hS⟩:=h
 refine bv Cr ?_
 refine v1 (ae m.own) ?_
 refine(j5 m.cells).mono ?_
 rintro _ H1 (⟨h1,rfl,rfl⟩| ⟨h1,rfl,C',c1,e1,zF⟩)
 ·refine vs ?_
  exact .inl ⟨h1,rfl,rfl⟩
 have gh:0<rs.length:=(aoj.1 l.h0).1
 have oQ:=l.hl
 have o1:=e1.own m.own m.nC
 refine vs ?_
 refine am.cQ (aow (by omega)) ?_
 refine v1 (ae o1) ?_
 refine(ye d H1).mono ?_
 rintro _ H2 ⟨f2,⟨hf,_⟩| ⟨_,r,Sr,rfl,r2,VB⟩⟩
 ·exact absurd l.zH hf
 have o2:=f2.own o1 (fun h=>h)
 refine v1 (ae o2) ?_
 have z7:=m.cells.z7
 have eT:=m.slt
 have R1:=c1.slt
 have vT:=r2.slt
 have z1:=e1.size
 have z2:=f2.size
 have e0:ag (fun _=>False) H2 (H2.new 250 [ptr r]):=(ag.refl _ _).new _ _
 have IK:=(m.sl.ext e1 (fun b hb h=>(m.xA b hb).2 h)).ext f2 (fun _ _ h=>h)
 refine Sl.append (IK.ext e0 (fun _ _ h=>h)) (Sl.bU (size:=1) (xs:=[ptr r]) rfl rfl).rd rfl (by intro v hv;simp only[aoq]at hv;subst hv;rfl) (by omega) ?_
 intro v' H3 cP s3 e3 fZ
 have o3:=e3.own (e0.own o2 (fun h=>h)) (fun e=>(m.xA n e).1 rfl)
 obtain⟨a',WX,OW⟩:=cO.Ry s3.rd
 subst OW
 refine v1 o3 ?_
 generalize OW:Value.slice a' (rs.length+1) WX=v' at*
 have e4:ag (fun z=>z=n) H3 (H3.wr n [ptr c,i64 d,v']):=(ag.refl (fun z=>z=n) _).wr (fun _=>rfl) _
 have hn:=aB m.own
 have Ug:∀b,fp=some b→b<H.size:=fun b hb=>eT b (.inr (.inr (.inl hb)))
 have hCl:∀z,C z→z<H.size:=fun z hz=>eT z (.inl hz)
 have Ew:∀b,cP=some b→fp=some b∨H2.size≤b:=fun b hb=>by
  rcases fZ with h| ⟨z,h,h5,_⟩
  ·exact .inl (h▸hb)
  ·rw[h]at hb;injection hb with hb;subst hb;rw[ap]at h5;exact .inr (by omega)
 have FU:∀z,C' z→C z∨H.size≤z:=zF
 have Nx:ag (fun z=>fp=some z) H2 H3:=(e0.mono fun _ _ h=>h.elim).nu e3 (fun z _ h=>h)
 have cd:∀ (h:Nat) R,(rs++[some (⟨r,Sr,[],fun _=>none⟩:Rw)])[h]? =some (some R)→rs[h]? =some (some R)∨(h=rs.length∧R=⟨r,Sr,[],fun _=>none⟩):=fun h R hR=>by
  rcases apK h rs.length with h5|h5|h5
  ·rw[aox h5]at hR;exact .inl hR
  ·subst h5
   rw[aoK (aov _),apw]at hR
   simp only[aoM,aos]at hR
   exact .inr ⟨rfl,hR.symm⟩
  ·rw[aoz (by rw[aor,aoA];omega)]at hR
   cases hR
 have hold:∀ (h:Nat) R,rs[h]? =some (some R)→∀x,R.S x→¬C x∧x≠n∧fp≠some x∧x<H.size:=fun h R hR x hx=>
  ⟨(m.mI h R hR x hx).1,(m.mI h R hR x hx).2.1,(m.mI h R hR x hx).2.2,eT x (.inr (.inr (.inr ⟨h,R,hR,hx⟩)))⟩
 have Jd:∀ (x:Nat) (e:Int×Int),w.cs[x]? ≠some (((rs.length:Nat):Int),e):=fun x e hx=>by
  have:=(m.cells.home _ (aon hx)).2
  simp only at this
  omega
 refine .inr ⟨h1,rfl,DF n C' cP (rs++[some ⟨r,Sr,[],fun _=>none⟩]),⟨c,C',v',cP,rs++[some ⟨r,Sr,[],fun _=>none⟩],
  ⟨ai o3,?_,?_,fun h R hR=>?_,fun h=>?_,fun b hb=>⟨?_,fun h=>?_⟩,fun h R hR x hx=>⟨fun h=>?_,?_,fun h=>?_⟩,fun h h' R R' hR hR' aP x hx xu=>?_⟩,
  ⟨l.zH,?_,fun h=>?_,?_,fun h R hR=>?_,fun h R hR x=>?_,fun h R hR=>?_⟩,fun z=>Iff.rfl⟩,?_,fun x hx=>?_⟩
 ·exact(((c1.ext f2 (fun _ _ h=>h)).ext Nx (fun x hx e=>by
   rcases FU x hx with h|h
   ·exact(m.xA x e).2 h
   ·have:=Ug x e;omega)).ext e4 (fun x hx e=>by
   rcases FU x hx with h|h
   ·exact m.nC (e▸h)
   ·omega))
 ·have:=s3.ext e4 (fun b hb e=>by
   rcases Ew b hb with h|h
   ·exact(m.xA b h).1 e
   ·omega)
  rw[aor,aoN]
  exact this
 ·rcases cd h R hR with h5| ⟨rfl,rfl⟩
  ·exact((((m.row h R h5).ext e1 (fun x hx=>(hold h R h5 x hx).1)).ext f2 (fun _ _ h=>h)).ext Nx (fun x hx=>(hold h R h5 x hx).2.2.1)).ext e4 (fun x hx=>(hold h R h5 x hx).2.1)
  ·exact(r2.ext Nx (fun x hx e=>by have:=VB x hx;have:=Ug x e;omega)).ext e4 (fun x hx e=>by have:=VB x hx;omega)
 ·rcases FU n h with h|h
  ·exact m.nC h
  ·omega
 ·rcases Ew b hb with h|h
  ·exact(m.xA b h).1
  ·omega
 ·rcases Ew b hb with h5|h5
  ·rcases FU b h with h6|h6
   ·exact(m.xA b h5).2 h6
   ·have:=Ug b h5;omega
  ·have:=R1 b h;omega
 ·rcases cd _ R hR with h5| ⟨_,rfl⟩
  ·rcases FU x h with h6|h6
   ·exact(hold _ R h5 x hx).1 h6
   ·have:=(hold _ R h5 x hx).2.2.2;omega
  ·have:=VB x hx;have:=R1 x h;omega
 ·rcases cd _ R hR with h5| ⟨_,rfl⟩
  ·exact(hold _ R h5 x hx).2.1
  ·have:=VB x hx;omega
 ·rcases cd _ R hR with h5| ⟨_,rfl⟩
  ·rcases Ew x h with h6|h6
   ·exact(hold _ R h5 x hx).2.2.1 h6
   ·have:=(hold _ R h5 x hx).2.2.2;omega
  ·have h7:=vT x hx
   rcases Ew x h with h6|h6
   ·have:=VB x hx;have:=Ug x h6;omega
   ·omega
 ·rcases cd _ R hR with h5| ⟨h5,rfl⟩
  ·rcases cd _ R' hR' with h6| ⟨h6,rfl⟩
   ·exact m.oX h h' R R' h5 h6 aP x hx xu
   ·have:=VB x xu;have:=(hold _ R h5 x hx).2.2.2;omega
  ·rcases cd _ R' hR' with h6| ⟨h6,rfl⟩
   ·have:=VB x hx;have:=(hold _ R' h6 x xu).2.2.2;omega
   ·omega
 ·simp[Nw.make,oQ]
 ·show(w.hs++[true])[h]? =some true↔_
  rcases apK h rs.length with h5|h5|h5
  ·rw[aox h5,aox (by omega)]
   exact l.hs h
  ·subst h5
   rw[aoK (aov _),aoK (by omega),apw,oQ,apw]
   simp
  ·rw[aoz (by rw[aor,aoA];omega),aoz (by rw[aor,aoA];omega)]
   simp
 ·rw[aox gh];exact l.h0
 ·rcases cd h R hR with h5| ⟨rfl,rfl⟩
  ·exact l.ok h R h5
  ·exact ce.nil _ _
 ·rcases cd h R hR with h5| ⟨rfl,rfl⟩
  ·exact l.mem h R h5 x
  ·simp only[aqm,false_iff]
   rintro⟨_,e,he⟩
   exact Jd _ _ he
 ·rcases cd h R hR with h5| ⟨rfl,rfl⟩
  ·exact l.len h R h5
  ·show((0:Nat):Int)=w.len _
   unfold Nw.len
   rw[if_pos (by omega),apM.2 (fun x hx=>by
    have:=(m.cells.home x hx).2
    simp only[aoL]
    omega)]
 ·exact((e1.mono fun z _ hz=>(hS z).1 (.inl hz)).trans ((f2.mono fun _ _ h=>h.elim).trans (Nx.mono fun z _ hz=>(hS z).1 (.inr (.inr (.inl hz)))))).trans (e4.mono fun z _ hz=>(hS z).1 (.inr (.inl hz)))
 ·rcases hx with hx|rfl|hx| ⟨i,R,hR,hx⟩
  ·rcases FU x hx with h|h
   ·exact .inl ((hS x).1 (.inl h))
   ·exact .inr h
  ·exact .inl ((hS x).1 (.inr (.inl rfl)))
  ·rcases Ew x hx with h|h
   ·exact .inl ((hS x).1 (.inr (.inr (.inl h))))
   ·exact .inr (by omega)
  ·rcases cd _ R hR with h5| ⟨_,rfl⟩
   ·exact .inl ((hS x).1 (.inr (.inr (.inr ⟨i,R,h5,hx⟩))))
   ·have:=VB x hx;exact .inr (by omega)
theorem R3.fk{d:Int}{w:Nw}{rs:List (Option Rw)}(l:R3 d w rs){g:Int}(h:w.has g):∃R,rs[g.toNat]? =some (some R):=(l.hs g.toNat).1 h.2
theorem yo{H:Hp}{n:Nat}{S:Nat→Prop}{d st:Int}{w:Nw}(h:df H n S d st w)(g:Int):af Tryz.prog sH [ptr n,i64 g] H fun v H'=>aw (
  ((¬w.has g∧v= .tuple [i64 0,.bool false].toArray)∨(w.has g∧w.len g=0∧v= .tuple [i64 0,.bool false].toArray)∨
   (w.has g∧∃x,cY w.cs x∧(∃e,w.cs[x.toNat]? =some (g,e))∧v= .tuple [i64 x,.bool true].toArray∧∀y,0≤y→(∃e,w.cs[y.toNat]? =some (g,e))→y≠x→aQ w x y=true))∧H=H'):=by
 obtain⟨c,C,rv,fp,rs,m,l,hS⟩:=h
 refine bv DZ ?_
 refine v1 (ae m.own) ?_
 refine(hX m.cells g).mono ?_
 rintro _ _ ⟨rfl,rfl⟩
 refine vs ?_
 refine am.dec (fun hh=>?_) (fun hh=>?_)
 ·obtain⟨R,hR⟩:=l.fk hh
  have h1:=hh.1
  have aO:=(aoj.1 hR).1
  obtain⟨b,o,c',lb,e1,e2,e3,e4⟩:=cO.get m.sl.rd (i:=g.toNat) (j:=0) (x:=ptr R.r) (by omega) (by simp[hR,R2])
  subst e1
  have z8:((g.toNat:Nat):Int)=g:=by omega
  refine v1 (ae m.own) ?_
  refine⟨by omega,?_⟩
  refine v2 e2 (show lb[o+g.toNat*1]? =some (ptr R.r)from e4) ?_
  refine(JC (m.row _ R hR) 0).mono ?_
  rintro _ _ ⟨rfl,rfl⟩
  have bK:=l.mem _ R hR
  rw[z8]at bK
  have aZ:=l.len _ R hR
  rw[z8]at aZ
  rw[show(if(0:Int)≤0 then R.l[Int.toNat 0]? else none)=R.l[0]? from rfl,TP]
  cases h0:R.l[0]? with
  |none=>
   have:R.l.length=0:=by
    rcases ap5 R.l.length with h|h
    ·exact h
    ·rw[aoh h]at h0;cases h0
   simp(disch:=(first|omega| (simp only[Zs]<;>omega)|fail)) only[go_sem, ↓reduceIte,Zv,Option.isSome_none,Option.getD_none]
   exact⟨.inr (.inl ⟨hh,by omega,rfl⟩),rfl⟩
  |some x=>
   simp(disch:=(first|omega| (simp only[Zs]<;>omega)|fail)) only[go_sem, ↓reduceIte,Zv,Option.isSome_some,Option.getD_some]
   obtain⟨x0,e,he⟩:=(bK x).1 (aon h0)
   refine⟨.inr (.inr ⟨hh,x,⟨x0,_,he,by simp only;omega⟩,⟨e,he⟩,rfl,fun y WB hy aP=>?_⟩),rfl⟩
   exact ce.least (au w) l.zH (l.ok _ R hR) h0 y ((bK y).2 ⟨WB,hy⟩) aP
 ·refine vs ?_
  exact⟨.inl ⟨hh,rfl⟩,rfl⟩
theorem oA.setRow{H H':Hp}{n c:Nat}{C T:Nat→Prop}{rv:Value}{fp:Option Nat}{d st WY:Int}{w w':Nw}{rs:List (Option Rw)}(m:oA H n c C rv fp d st w rs){g:Nat}{R R':Rw}(hR:rs[g]? =some (some R))(hr:R'.r=R.r)
  (row:dm H' R'.r R'.S d R'.l R'.pl)(hRS:∀z,R'.S z→R.S z∨H.size≤z)(e:ag T H H')(hT:∀z,T z→C z∨R.S z∨z=n)(cells:bf H' c C WY w')(own:H'.own n=some [ptr c,i64 d,rv]):
  oA H' n c C rv fp d WY w' (rs.set g (some R')):=by
 have eT:=m.slt
 have hg:=(aoj.1 hR).1
 have cd:∀ (h:Nat) Q,(rs.set g (some R'))[h]? =some (some Q)→(h=g∧Q=R')∨(h≠g∧rs[h]? =some (some Q)):=fun h Q hQ=>by
  by_cases hh:h=g
  ·subst hh
   rw[aop hg]at hQ
   simp only[aos]at hQ
   exact .inl ⟨rfl,hQ.symm⟩
  ·rw[aoo (Ne.symm hh)]at hQ
   exact .inr ⟨hh,hQ⟩
 refine⟨own,cells,?_,fun h Q hQ=>?_,m.nC,m.xA,fun h Q hQ x hx=>?_,fun h h' Q Q' hQ hQ' aP x hx xu=>?_⟩
 ·have h1:(rs.set g (some R')).map R2=rs.map R2:=by
   rw[ao4]
   refine ao8 fun i=>?_
   by_cases hi:i=g
   ·subst hi
    rw[aop (by rw[aoF];exact hg),aoG,hR]
    simp[R2,hr]
   ·rw[aoo (Ne.symm hi)]
  rw[h1,aok]
  exact m.sl.ext e (fun b hb ht=>by
   rcases hT b ht with h|h|h
   ·exact(m.xA b hb).2 h
   ·exact(m.mI _ R hR b h).2.2 hb
   ·exact(m.xA b hb).1 h)
 ·rcases cd h Q hQ with ⟨rfl,rfl⟩| ⟨h1,h2⟩
  ·exact row
  ·exact(m.row h Q h2).ext e (fun x hx ht=>by
    rcases hT x ht with h3|h3|h3
    ·exact(m.mI h Q h2 x hx).1 h3
    ·exact m.oX h g Q R h2 hR h1 x hx h3
    ·exact(m.mI h Q h2 x hx).2.1 h3)
 ·rcases cd h Q hQ with ⟨rfl,rfl⟩| ⟨h1,h2⟩
  ·rcases hRS x hx with h3|h3
   ·exact m.mI _ R hR x h3
   ·refine⟨fun hc=>?_,fun hc=>?_,fun hc=>?_⟩
    ·have:=eT x (.inl hc);omega
    ·have:=eT n (.inr (.inl rfl));omega
    ·have:=eT x (.inr (.inr (.inl hc)));omega
  ·exact m.mI h Q h2 x hx
 ·rcases cd h Q hQ with ⟨rfl,rfl⟩| ⟨h1,h2⟩
  ·rcases cd h' Q' hQ' with ⟨rfl,rfl⟩| ⟨h3,h4⟩
   ·exact aP rfl
   ·rcases hRS x hx with h5|h5
    ·exact m.oX _ h' R Q' hR h4 aP x h5 xu
    ·have:=eT x (.inr (.inr (.inr ⟨h',Q',h4,xu⟩)));omega
  ·rcases cd h' Q' hQ' with ⟨rfl,rfl⟩| ⟨h3,h4⟩
   ·rcases hRS x xu with h5|h5
    ·exact m.oX h _ Q R h2 hR aP x hx h5
    ·have:=eT x (.inr (.inr (.inr ⟨h,Q,h2,hx⟩)));omega
   ·exact m.oX h h' Q Q' h2 h4 aP x hx xu
theorem Uh(lt:Int→Int→Bool){d:Int}(hf:cU d)(x:Int){m:Nat}(l:List Int)(pl:Int→Option Int){i:Int}(hi:1≤i)(hm:i.toNat≤m):0< (fC lt d x m l pl i).asked:=by
 obtain⟨q,rfl⟩:∃q,m=q+1:=⟨m - 1,by omega⟩
 have hp:ba d i=some ((i - 1) / d):=by unfold ba;rw[if_pos ⟨hf,hi⟩]
 simp only[fC,hp]
 split<;>simp
theorem C1{H:Hp}{n:Nat}{S:Nat→Prop}{d st:Int}{w:Nw}(h:df H n S d st w)(g x k s:Int):af Tryz.prog mV [ptr n,i64 g,i64 x,tL k s] H fun v H'=>aw (
  (¬ (w.has g∧(0≤x∧x<w.cs.length)∧¬cY w.cs x)∧v= .bool false∧df H' n S d st w∧ag S H H')∨
  ((w.has g∧(0≤x∧x<w.cs.length)∧¬cY w.cs x)∧v= .bool true∧∃ (S':Nat→Prop) (q:Nat),(q:Int)≤kX d (w.len g).toNat∧(0<w.len g→0<q)∧df H' n S' d (min (st+q) 4611686018427387904) (w.put x (g,k,s))∧ag S H H'∧∀z,S' z→S z∨H.size≤z)):=by
 obtain⟨c,C,rv,fp,rs,m,l,hS⟩:=h
 refine bv zf ?_
 refine vs ?_
 have f0:ah H (H.new 224 [i64 k,u64 s]):=(ag.refl _ _).new _ _
 have b0:(H.new 224 [i64 k,u64 s]).own H.size=some [i64 k,u64 s]:=az _ _ _
 have m0:=m.ext f0 (fun _ _ h=>h)
 generalize H.new 224 [i64 k,u64 s]=H0 at*
 refine v2 (ae m0.own) (ae b0) ?_
 refine(lI m0.cells g x k s).mono ?_
 rintro _ H1 (⟨bO,rfl,c1,e1⟩| ⟨qw,rfl,c1,e1⟩)
 ·refine vs ?_
  refine .inl ⟨bO,rfl,⟨c,C,rv,fp,rs,?_,l,hS⟩,(f0.mono fun _ _ h=>h.elim).trans (e1.mono fun z _ hz=>(hS z).1 (.inl hz))⟩
  exact⟨e1.own m0.own m.nC,c1,m0.sl.ext e1 (fun b hb h=>(m.xA b hb).2 h),fun i R hR=>(m0.row i R hR).ext e1 (fun x hx=>(m.mI i R hR x hx).1),m.nC,m.xA,m.mI,m.oX⟩
 ·obtain⟨hh,⟨gf,jZ⟩,bJ⟩:=id qw
  obtain⟨R,hR⟩:=l.fk hh
  have h1:=hh.1
  have z8:((g.toNat:Nat):Int)=g:=by omega
  have bK:=l.mem _ R hR
  have aZ:=l.len _ R hR
  rw[z8]at bK aZ
  obtain⟨c0,kE⟩:∃c0,w.cs[x.toNat]? =some c0:=⟨_,aoh (by omega)⟩
  have vC:¬0<c0.1:=fun h=>bJ ⟨gf,c0,kE,h⟩
  have cN:(w.put x (g,k,s)).cs[x.toNat]? =some (g,k,s):=aop (by omega)
  have li:∀y:Nat,y≠x.toNat→(w.put x (g,k,s)).cs[y]? =w.cs[y]? :=fun y hy=>aoo (Ne.symm hy)
  have PY:∀ (i:Nat) Q,rs[i]? =some (some Q)→x∉Q.l:=fun i Q hQ hm=>by
   obtain⟨_,e,he⟩:=(l.mem i Q hQ x).1 hm
   rw[kE]at he
   injection he with he
   subst he
   rcases ap5 i with hi|hi
   ·subst hi;rw[l.h0]at hQ;cases hQ
   ·exact vC (by simp only;omega)
  have aP:∀ (i:Nat) Q,rs[i]? =some (some Q)→∀y∈Q.l,0≤y∧y.toNat≠x.toNat:=fun i Q hQ y hy=>by
   have h2:=((l.mem i Q hQ y).1 hy).1
   exact⟨h2,fun e=>PY i Q hQ (by rw[show x=y by omega];exact hy)⟩
  have W2:∀ (i:Nat) Q,rs[i]? =some (some Q)→ce (aQ (w.put x (g,k,s))) d Q.l Q.pl:=fun i Q hQ=>
   ce.congr l.zH (l.ok i Q hQ) fun z hz y hy=>(hY w x _ (aP i Q hQ z hz).2 (aP i Q hQ y hy).2).symm
  have F1:∀z∈R.l,cY (w.put x (g,k,s)).cs z:=fun z hz=>by
   obtain⟨z0,e,he⟩:=(bK z).1 hz
   exact⟨z0,_,by rw[li _ (aP _ R hR z hz).2];exact he,by simp only;omega⟩
  have W3:cY (w.put x (g,k,s)).cs x:=⟨gf,_,cN,by simp only;omega⟩
  have o1:=e1.own m0.own m.nC
  have aa7:=m.cells.st
  have m1:oA H1 n c C rv fp d st (w.put x (g,k,s)) rs:=⟨o1,c1,m0.sl.ext e1 (fun b hb h=>(m.xA b hb).2 h),fun i R hR=>(m0.row i R hR).ext e1 (fun x hx=>(m.mI i R hR x hx).1),m.nC,m.xA,m.mI,m.oX⟩
  have aO:=(aoj.1 hR).1
  obtain⟨b,o,c',lb,q1,q2,q3,q4⟩:=cO.get m1.sl.rd (i:=g.toNat) (j:=0) (x:=ptr R.r) (by omega) (by simp[hR,R2])
  subst q1
  refine v1 (ae o1) ?_
  refine⟨by omega,?_⟩
  refine v2 q2 (show lb[o+g.toNat*1]? =some (ptr R.r)from q4) ?_
  have xt:=m.cells.Ef
  have oQ:R.l.length≤65536:=by have:=(w.zA g).2;omega
  refine(HO (F2 (c:=c) (rv:=.slice (some ⟨b,o,none⟩) rs.length c') (d:=d) (st:=st) (w:=w.put x (g,k,s)) m.nC) (m1.row _ R hR) (fun z hz ht=>?_) (n:=0) ⟨by rw[show min (st+((0:Nat):Int)) 4611686018427387904=st by omega];exact c1,o1⟩ x (by omega) W3 F1).mono ?_
  ·rcases ht with ht|ht
   ·exact(m.mI _ R hR z hz).1 ht
   ·exact(m.mI _ R hR z hz).2.1 ht
  rintro _ H2 (⟨hp,_,_⟩| ⟨hp,rfl,S',r2,⟨c2,o2⟩,e2,Zg⟩)
  ·exact absurd ((ce.mem (l.ok _ R hR) x).2 hp) (PY _ R hR)
  obtain⟨p1,p2,p3,p4⟩:=ce.add (au (w.put x (g,k,s))) l.zH (W2 _ R hR) hp
  have hq:0<R.l.length→0< (fC (aQ (w.put x (g,k,s))) d x R.l.length (R.l++[x]) R.pl R.l.length).asked:=fun h=>Uh _ l.zH x _ _ (by omega) (by omega)
  generalize hU:fC (aQ (w.put x (g,k,s))) d x R.l.length (R.l++[x]) R.pl R.l.length=U at*
  rw[aoi]at c2
  refine vs ?_
  have nS:∀z,(R.S z∨C z∨z=n)→S z:=fun z hz=>(hS z).1 (by
   rcases hz with hz|hz|hz
   ·exact .inr (.inr (.inr ⟨_,R,hR,hz⟩))
   ·exact .inl hz
   ·exact .inr (.inl hz))
  have cd:∀ (h:Nat) Q,(rs.set g.toNat (some (⟨R.r,S',U.l,U.pl⟩:Rw)))[h]? =some (some Q)→(h=g.toNat∧Q=⟨R.r,S',U.l,U.pl⟩)∨(h≠g.toNat∧rs[h]? =some (some Q)):=fun h Q hQ=>by
   by_cases hh:h=g.toNat
   ·subst hh
    rw[aop aO]at hQ
    simp only[aos]at hQ
    exact .inl ⟨rfl,hQ.symm⟩
   ·rw[aoo (Ne.symm hh)]at hQ
    exact .inr ⟨hh,hQ⟩
  refine .inr ⟨qw,rfl,DF n C fp (rs.set g.toNat (some ⟨R.r,S',U.l,U.pl⟩)),U.asked,?_,fun h=>hq (by omega),
   ⟨c,C,_,fp,rs.set g.toNat (some ⟨R.r,S',U.l,U.pl⟩),m1.setRow hR (R':=⟨R.r,S',U.l,U.pl⟩) rfl r2 Zg e2 (fun z hz=>?_) c2 o2,
    ⟨l.zH,by rw[aok];exact l.hl,fun h=>?_,?_,fun h Q hQ=>?_,fun h Q hQ y=>?_,fun h Q hQ=>?_⟩,fun z=>Iff.rfl⟩,?_,fun z hz=>?_⟩
  ·rw[show((w.len g).toNat:Int)=(R.l.length:Int) by omega]
   exact Int.ofNat_le.2 p4
  ·rcases hz with hz|hz|hz
   ·exact .inr (.inl hz)
   ·exact .inl hz
   ·exact .inr (.inr hz)
  ·show w.hs[h]? =some true↔_
   rw[l.hs h]
   by_cases LJ:h=g.toNat
   ·subst LJ
    rw[aop aO]
    exact⟨fun _=>⟨_,rfl⟩,fun _=>⟨R,hR⟩⟩
   ·rw[aoo (Ne.symm LJ)]
  ·rw[aoo (by omega)];exact l.h0
  ·rcases cd h Q hQ with ⟨rfl,rfl⟩| ⟨h5,h6⟩
   ·exact p1
   ·exact W2 h Q h6
  ·rcases cd h Q hQ with ⟨rfl,rfl⟩| ⟨h5,h6⟩
   ·rw[z8]
    show y∈U.l↔_
    rw[p2 y]
    constructor
    ·rintro(rfl|hy)
     ·exact⟨gf,_,cN⟩
     ·obtain⟨y0,e,he⟩:=(bK y).1 hy
      exact⟨y0,e,by rw[li _ (aP _ R hR y hy).2];exact he⟩
    ·rintro⟨y0,e,he⟩
     by_cases mN:y.toNat=x.toNat
     ·exact .inl (by omega)
     ·rw[li _ mN]at he
      exact .inr ((bK y).2 ⟨y0,e,he⟩)
   ·rw[l.mem h Q h6 y]
    by_cases mN:y.toNat=x.toNat
    ·rw[mN,cN,kE]
     constructor
     ·rintro⟨y0,e,he⟩
      injection he with he
      subst he
      rcases ap5 h with hi|hi
      ·subst hi;rw[l.h0]at h6;cases h6
      ·exact absurd (show(0:Int)< ((h:Nat):Int) by omega) vC
     ·rintro⟨y0,e,he⟩
      injection he with he
      injection he with W5 he2
      omega
    ·rw[li _ mN]
  ·rcases cd h Q hQ with ⟨rfl,rfl⟩| ⟨h5,h6⟩
   ·rw[z8,Nw.gm kE g,if_neg (fun hc=>by omega),if_pos ⟨by omega,rfl⟩]
    show(U.l.length:Int)=_
    omega
   ·rw[l.len h Q h6,Nw.gm kE h,if_neg (fun hc=>by omega),if_neg (fun hc=>by omega)]
    omega
  ·exact(f0.mono fun _ _ h=>h.elim).trans ((e1.mono fun z _ hz=>nS z (.inr (.inl hz))).trans (e2.mono fun z _ hz=>nS z hz))
  ·have z0:=f0.size
   have z1:=e1.size
   rcases hz with hz|rfl|hz| ⟨i,Q,hQ,hz⟩
   ·exact .inl (nS z (.inr (.inl hz)))
   ·exact .inl (nS z (.inr (.inr rfl)))
   ·exact .inl ((hS z).1 (.inr (.inr (.inl hz))))
   ·rcases cd i Q hQ with ⟨rfl,rfl⟩| ⟨h5,h6⟩
    ·rcases Zg z hz with h|h
     ·exact .inl (nS z (.inl h))
     ·exact .inr (by omega)
    ·exact .inl ((hS z).1 (.inr (.inr (.inr ⟨i,Q,h6,hz⟩))))
theorem C2{H:Hp}{n:Nat}{S:Nat→Prop}{d st:Int}{w:Nw}(h:df H n S d st w)(x:Int):af Tryz.prog yK [ptr n,i64 x] H fun v H'=>aw (
  (¬cY w.cs x∧v= .bool false∧H=H')∨
  (cY w.cs x∧v= .bool true∧∃ (c0:Ce) (q:Nat),w.cs[x.toNat]? =some c0∧(q:Int)≤d*(kX d (w.len c0.1 - 1):Nat)+1∧∃S',df H' n S' d (min (st+q) 4611686018427387904) (w.put x (0,0,0))∧ag S H H'∧∀z,S' z→S z∨H.size≤z)):=by
 obtain⟨c,C,rv,fp,rs,m,l,hS⟩:=h
 refine bv zd ?_
 refine v1 (ae m.own) ?_
 refine(eC m.cells x).mono ?_
 rintro _ H1 (⟨bO,rfl,rfl⟩| ⟨bJ,c0,kE,rfl,c1,e1⟩)
 ·refine vs ?_
  exact .inl ⟨bO,rfl,rfl⟩
 obtain⟨gf,c0',JL,gh⟩:=id bJ
 rw[kE]at JL
 injection JL with JL
 subst JL
 obtain⟨R,hR⟩:=(l.hs c0.1.toNat).1 (m.cells.live _ (aon kE) gh)
 have z8:((c0.1.toNat:Nat):Int)=c0.1:=by omega
 have bK:=l.mem _ R hR
 have aZ:=l.len _ R hR
 rw[z8]at bK aZ
 have cN:(w.put x (0,0,0)).cs[x.toNat]? =some (0,0,0):=aop (aoj.1 kE).1
 have li:∀y:Nat,y≠x.toNat→(w.put x (0,0,0)).cs[y]? =w.cs[y]? :=fun y hy=>aoo (Ne.symm hy)
 have o1:=e1.own m.own m.nC
 have m1:oA H1 n c C rv fp d st w rs:=⟨o1,c1,m.sl.ext e1 (fun b hb h=>(m.xA b hb).2 h),fun i R hR=>(m.row i R hR).ext e1 (fun x hx=>(m.mI i R hR x hx).1),m.nC,m.xA,m.mI,m.oX⟩
 have aO:=(aoj.1 hR).1
 have hxR:x∈R.l:=(bK x).2 ⟨gf,c0.2,kE⟩
 have F1:∀z∈R.l,cY w.cs z:=fun z hz=>by
  obtain⟨z0,e,he⟩:=(bK z).1 hz
  exact⟨z0,_,he,gh⟩
 obtain⟨b,o,c',lb,q1,q2,q3,q4⟩:=cO.get m1.sl.rd (i:=c0.1.toNat) (j:=0) (x:=ptr R.r) (by omega) (by simp[hR,R2])
 subst q1
 have aa7:=m.cells.st
 have xt:=m.cells.Ef
 have oQ:R.l.length≤65536:=by have:=(w.zA c0.1).2;omega
 refine v1 (ae o1) ?_
 refine⟨by omega,?_⟩
 refine v2 q2 (show lb[o+c0.1.toNat*1]? =some (ptr R.r)from q4) ?_
 refine(C0 (F2 (c:=c) (rv:=.slice (some ⟨b,o,none⟩) rs.length c') (d:=d) (st:=st) (w:=w) m.nC) (m1.row _ R hR) (fun z hz ht=>?_) (n:=0) ⟨by rw[show min (st+((0:Nat):Int)) 4611686018427387904=st by omega];exact c1,o1⟩ l.zH x (by omega) (l.ok _ R hR).pl F1).mono ?_
 ·rcases ht with ht|ht
  ·exact(m.mI _ R hR z hz).1 ht
  ·exact(m.mI _ R hR z hz).2.1 ht
 rintro _ H2 (⟨hp,_,_⟩| ⟨i,hp,rfl,r2,⟨c2,o2⟩,e2⟩)
 ·exact absurd hp ((ce.mem (l.ok _ R hR) x).1 hxR)
 obtain⟨p1,p2,p3,p4⟩:=ce.Xb (au w) l.zH (l.ok _ R hR) hp
 generalize hU:cR (aQ w) d x R.l R.pl i=U at*
 rw[aoi]at c2
 refine v1 (ae o2) ?_
 refine(j6 c2 x).mono ?_
 rintro _ H3 (⟨bO,_,_⟩| ⟨_,rfl,c3,e3⟩)
 ·exact absurd bJ bO
 refine vs ?_
 have o3:=e3.own o2 m.nC
 have GS:ag (fun z=>R.S z∨C z∨z=n) H1 H3:=e2.trans (e3.mono fun z _ hz=>.inr (.inl hz))
 have r3:=r2.ext e3 (fun z hz=>(m.mI _ R hR z hz).1)
 have nS:∀z,(R.S z∨C z∨z=n)→S z:=fun z hz=>(hS z).1 (by
  rcases hz with hz|hz|hz
  ·exact .inr (.inr (.inr ⟨_,R,hR,hz⟩))
  ·exact .inl hz
  ·exact .inr (.inl hz))
 have cd:∀ (h:Nat) Q,(rs.set c0.1.toNat (some (⟨R.r,R.S,U.1,U.2.1⟩:Rw)))[h]? =some (some Q)→(h=c0.1.toNat∧Q=⟨R.r,R.S,U.1,U.2.1⟩)∨(h≠c0.1.toNat∧rs[h]? =some (some Q)):=fun h Q hQ=>by
  by_cases hh:h=c0.1.toNat
  ·subst hh
   rw[aop aO]at hQ
   simp only[aos]at hQ
   exact .inl ⟨rfl,hQ.symm⟩
  ·rw[aoo (Ne.symm hh)]at hQ
   exact .inr ⟨hh,hQ⟩
 have FG:∀ (h:Nat) Q,rs[h]? =some (some Q)→0<h:=fun h Q hQ=>by
  rcases ap5 h with hi|hi
  ·subst hi;rw[l.h0]at hQ;cases hQ
  ·exact hi
 have aP:∀ (h:Nat) Q,h≠c0.1.toNat→rs[h]? =some (some Q)→∀y∈Q.l,y.toNat≠x.toNat:=fun h Q hh hQ y hy e=>by
  obtain⟨y0,e',he⟩:=(l.mem h Q hQ y).1 hy
  rw[e,kE]at he
  injection he with he
  rw[he]at hh
  simp only[Int.toNat_natCast]at hh
  exact hh rfl
 have Nz:∀y∈U.1,y.toNat≠x.toNat:=fun y hy e=>by
  obtain⟨h1,h2⟩:=(p3 y).1 hy
  have:=((bK y).1 h1).1
  omega
 refine .inr ⟨bJ,rfl,c0,U.2.2,kE,?_,DF n C fp (rs.set c0.1.toNat (some ⟨R.r,R.S,U.1,U.2.1⟩)),
  ⟨c,C,_,fp,rs.set c0.1.toNat (some ⟨R.r,R.S,U.1,U.2.1⟩),m1.setRow hR (R':=⟨R.r,R.S,U.1,U.2.1⟩) rfl r3 (fun z hz=>.inl hz) GS (fun z hz=>?_) c3 o3,
   ⟨l.zH,by rw[aok];exact l.hl,fun h=>?_,?_,fun h Q hQ=>?_,fun h Q hQ y=>?_,fun h Q hQ=>?_⟩,fun z=>Iff.rfl⟩,?_,fun z hz=>?_⟩
 ·rw[←aZ];exact p4
 ·rcases hz with hz|hz|hz
  ·exact .inr (.inl hz)
  ·exact .inl hz
  ·exact .inr (.inr hz)
 ·show w.hs[h]? =some true↔_
  rw[l.hs h]
  by_cases LJ:h=c0.1.toNat
  ·subst LJ
   rw[aop aO]
   exact⟨fun _=>⟨_,rfl⟩,fun _=>⟨R,hR⟩⟩
  ·rw[aoo (Ne.symm LJ)]
 ·rw[aoo (by omega)];exact l.h0
 ·rcases cd h Q hQ with ⟨rfl,rfl⟩| ⟨h5,h6⟩
  ·exact ce.congr l.zH p1 fun z hz y hy=>(hY w x _ (Nz z hz) (Nz y hy)).symm
  ·exact ce.congr l.zH (l.ok h Q h6) fun z hz y hy=>(hY w x _ (aP h Q h5 h6 z hz) (aP h Q h5 h6 y hy)).symm
 ·by_cases mN:y.toNat=x.toNat
  ·rw[mN,cN]
   have h0:=cd h Q hQ
   constructor
   ·intro hy
    rcases h0 with ⟨rfl,rfl⟩| ⟨h5,h6⟩
    ·exact absurd mN (Nz y hy)
    ·exact absurd mN (aP h Q h5 h6 y hy)
   ·rintro⟨_,e,he⟩
    injection he with he
    injection he with W5 _
    rcases h0 with ⟨rfl,rfl⟩| ⟨h5,h6⟩
    ·omega
    ·have:=FG h Q h6;omega
  ·rw[li _ mN]
   rcases cd h Q hQ with ⟨rfl,rfl⟩| ⟨h5,h6⟩
   ·rw[z8]
    show y∈U.1↔_
    rw[p3 y,bK y]
    constructor
    ·exact fun h=>h.1
    ·exact fun h=>⟨h,fun e=>mN (by rw[e])⟩
   ·exact l.mem h Q h6 y
 ·rcases cd h Q hQ with ⟨rfl,rfl⟩| ⟨h5,h6⟩
  ·rw[z8,Nw.gm kE c0.1,if_pos ⟨gh,rfl⟩,if_neg (fun hc=>by omega)]
   show(U.1.length:Int)=_
   have:=List.length_pos_of_mem hxR
   omega
  ·have:=FG h Q h6
   rw[l.len h Q h6,Nw.gm kE h,if_neg (fun hc=>by omega),if_neg (fun hc=>by omega)]
   omega
 ·exact(e1.mono fun z _ hz=>nS z (.inr (.inl hz))).trans (GS.mono fun z _ hz=>nS z hz)
 ·rcases hz with hz|rfl|hz| ⟨i,Q,hQ,hz⟩
  ·exact .inl (nS z (.inr (.inl hz)))
  ·exact .inl (nS z (.inr (.inr rfl)))
  ·exact .inl ((hS z).1 (.inr (.inr (.inl hz))))
  ·rcases cd i Q hQ with ⟨rfl,rfl⟩| ⟨h5,h6⟩
   ·exact .inl (nS z (.inl hz))
   ·exact .inl ((hS z).1 (.inr (.inr (.inr ⟨i,Q,h6,hz⟩))))
theorem Bu{H:Hp}{n:Nat}{S:Nat→Prop}{d st:Int}{w:Nw}(h:df H n S d st w)(g:Int):af Tryz.prog lT [ptr n,i64 g] H fun v H'=>aw (
  ((¬w.has g∨(w.has g∧w.len g=0))∧v= .tuple [i64 0,.bool false].toArray∧H=H')∨
  (w.has g∧∃x,cY w.cs x∧(∃e,w.cs[x.toNat]? =some (g,e))∧(∀y,0≤y→(∃e,w.cs[y.toNat]? =some (g,e))→y≠x→aQ w x y=true)∧v= .tuple [i64 x,.bool true].toArray∧
   ∃q:Nat,(q:Int)≤d*(kX d (w.len g - 1):Nat)+1∧∃S',df H' n S' d (min (st+q) 4611686018427387904) (w.put x (0,0,0))∧ag S H H'∧∀z,S' z→S z∨H.size≤z)):=by
 refine bv wR ?_
 refine vs ?_
 refine(yo h g).mono ?_
 rintro _ _ ⟨⟨bO,rfl⟩| ⟨hh,h0,rfl⟩| ⟨hh,x,hx,he,rfl,rV⟩,rfl⟩
 ·refine vs ?_
  exact .inl ⟨.inl bO,rfl,rfl⟩
 ·refine vs ?_
  exact .inl ⟨.inr ⟨hh,h0⟩,rfl,rfl⟩
 ·refine vs ?_
  refine(C2 h x).mono ?_
  rintro _ H1 (⟨bO,_,_⟩| ⟨_,rfl,c0,q,kE,hq,S',d1,e1,Zg⟩)
  ·exact absurd hx bO
  refine vs ?_
  obtain⟨e,iG⟩:=id he
  rw[kE]at iG
  injection iG with iG
  subst iG
  exact .inr ⟨hh,x,hx,he,rV,rfl,q,hq,S',d1,e1,Zg⟩
theorem PZ(w:Nw){x:Int}{y:Ce}{k s:Int}(hy:w.cs[x.toNat]? =some y)(hl:¬fA y.2.1 y.2.2 k s){z:Int}(hz:z.toNat≠x.toNat)(h:aQ w z x=false):aQ (w.put x (y.1,k,s)) z x=false:=by
 have k1:w.key x=y.2.1:=by unfold Nw.key;rw[aom,hy];rfl
 have k2:w.seq x=y.2.2:=by unfold Nw.seq;rw[aom,hy];rfl
 have hs:=aop (l:=w.cs) (a:=(y.1,k,s)) (aoj.1 hy).1
 have k3:(w.put x (y.1,k,s)).key x=k:=by unfold Nw.key Nw.put;simp only[aom];rw[hs];rfl
 have k4:(w.put x (y.1,k,s)).seq x=s:=by unfold Nw.seq Nw.put;simp only[aom];rw[hs];rfl
 have k5:(w.put x (y.1,k,s)).key z=w.key z:=by unfold Nw.key Nw.put;simp only[aom];rw[aoo (Ne.symm hz)]
 have k6:(w.put x (y.1,k,s)).seq z=w.seq z:=by unfold Nw.seq Nw.put;simp only[aom];rw[aoo (Ne.symm hz)]
 unfold aQ at h ⊢
 rw[k3,k4,k5,k6]
 rw[k1,k2]at h
 simp only[decide_eq_false_iff_not,fA]at*
 omega
theorem zI{H:Hp}{n:Nat}{S:Nat→Prop}{d st:Int}{w:Nw}(h:df H n S d st w)(x k s:Int):af Tryz.prog kI [ptr n,i64 x,tL k s] H fun v H'=>aw (
  (¬ (cY w.cs x∧∀y,w.cs[x.toNat]? =some y→¬fA y.2.1 y.2.2 k s)∧v= .bool false∧df H' n S d st w∧ah H H')∨
  (cY w.cs x∧∃y,w.cs[x.toNat]? =some y∧¬fA y.2.1 y.2.2 k s∧v= .bool true∧∃q:Nat,(q:Int)≤kX d (w.len y.1 - 1)∧∃S',df H' n S' d (min (st+q) 4611686018427387904) (w.put x (y.1,k,s))∧ag S H H'∧∀z,S' z→S z∨H.size≤z)):=by
 obtain⟨c,C,rv,fp,rs,m,l,hS⟩:=h
 refine bv uh ?_
 refine vs ?_
 have f0:ah H (H.new 224 [i64 k,u64 s]):=(ag.refl _ _).new _ _
 have b0:(H.new 224 [i64 k,u64 s]).own H.size=some [i64 k,u64 s]:=az _ _ _
 have m0:=m.ext f0 (fun _ _ h=>h)
 generalize H.new 224 [i64 k,u64 s]=H0 at*
 refine v2 (ae m0.own) (ae b0) ?_
 refine(jm m0.cells x k s).mono ?_
 rintro _ H1 (⟨bO,rfl,c1,e1⟩| ⟨bJ,rfl,y,hy,fB,c1,e1⟩)
 ·refine vs ?_
  exact .inl ⟨bO,rfl,⟨c,C,rv,fp,rs,m0.ext e1 (fun _ _ h=>h),l,hS⟩,f0.trans e1⟩
 have o1:=e1.own m0.own m.nC
 refine v1 (ae o1) ?_
 obtain⟨gf,y',FH,gh⟩:=id bJ
 rw[hy]at FH
 injection FH with FH
 subst FH
 have cN:(w.put x (y.1,k,s)).cs[x.toNat]? =some (y.1,k,s):=aop (aoj.1 hy).1
 have li:∀z:Nat,z≠x.toNat→(w.put x (y.1,k,s)).cs[z]? =w.cs[z]? :=fun z hz=>aoo (Ne.symm hz)
 have Nu:cY (w.put x (y.1,k,s)).cs x:=⟨gf,_,cN,gh⟩
 refine(eC c1 x).mono ?_
 rintro _ H2 (⟨bO,_,_⟩| ⟨_,y2,DQ,rfl,c2,e2⟩)
 ·exact absurd Nu bO
 rw[cN]at DQ
 injection DQ with DQ
 subst DQ
 have pE:=e1.trans e2
 obtain⟨R,hR⟩:=(l.hs y.1.toNat).1 (m.cells.live _ (aon hy) gh)
 have z8:((y.1.toNat:Nat):Int)=y.1:=by omega
 have LK:∀ (h:Nat) Q,rs[h]? =some (some Q)→∀z:Int,z∈Q.l↔0≤z∧∃e,(w.put x (y.1,k,s)).cs[z.toNat]? =some (((h:Nat):Int),e):=fun h Q hQ z=>by
  rw[l.mem h Q hQ z]
  by_cases W8:z.toNat=x.toNat
  ·rw[W8,cN,hy]
   constructor
   ·rintro⟨z0,e,he⟩
    injection he with he
    exact⟨z0,(k,s),by rw[he]⟩
   ·rintro⟨z0,e,he⟩
    injection he with he
    injection he with W5 _
    exact⟨z0,y.2,by rw[←W5]⟩
  ·rw[li _ W8]
 have bK:=LK _ R hR
 have aZ:=l.len _ R hR
 rw[z8]at bK aZ
 have hxR:x∈R.l:=(bK x).2 ⟨gf,_,cN⟩
 have F1:∀z∈R.l,cY (w.put x (y.1,k,s)).cs z:=fun z hz=>by
  obtain⟨z0,e,he⟩:=(bK z).1 hz
  exact⟨z0,_,he,gh⟩
 have o2:=e2.own o1 m.nC
 have m2:oA H2 n c C rv fp d st (w.put x (y.1,k,s)) rs:=⟨o2,c2,m0.sl.ext pE (fun b hb h=>(m.xA b hb).2 h),fun i R hR=>(m0.row i R hR).ext pE (fun x hx=>(m.mI i R hR x hx).1),m.nC,m.xA,m.mI,m.oX⟩
 have aO:=(aoj.1 hR).1
 obtain⟨b,o,c',lb,q1,q2,q3,q4⟩:=cO.get m2.sl.rd (i:=y.1.toNat) (j:=0) (x:=ptr R.r) (by omega) (by simp[hR,R2])
 subst q1
 have aa7:=m.cells.st
 have xt:=m.cells.Ef
 have oQ:R.l.length≤65536:=by have:=(w.zA y.1).2;omega
 refine v1 (ae o2) ?_
 refine⟨by omega,?_⟩
 refine v2 q2 (show lb[o+y.1.toNat*1]? =some (ptr R.r)from q4) ?_
 refine(Ei (F2 (c:=c) (rv:=.slice (some ⟨b,o,none⟩) rs.length c') (d:=d) (st:=st) (w:=w.put x (y.1,k,s)) m.nC) (m2.row _ R hR) (fun z hz ht=>?_) (n:=0) ⟨by rw[show min (st+((0:Nat):Int)) 4611686018427387904=st by omega];exact c2,o2⟩ x (by omega) (fun i hi=>by
  obtain⟨h1,h2⟩:=((l.ok _ R hR).pl x i).1 hi
  have:=(aoj.1 h2).1
  exact⟨h1,by omega⟩) Nu F1).mono ?_
 ·rcases ht with ht|ht
  ·exact(m.mI _ R hR z hz).1 ht
  ·exact(m.mI _ R hR z hz).2.1 ht
 rintro _ H3 (⟨hp,_,_⟩| ⟨i,hp,rfl,r3,⟨c3,o3⟩,e3⟩)
 ·exact absurd hp ((ce.mem (l.ok _ R hR) x).1 hxR)
 have DE:∀z∈R.l,z≠x→z.toNat≠x.toNat:=fun z hz aP e=>by have:=((bK z).1 hz).1;omega
 obtain⟨p1,p2,p3,p4⟩:=ce.raise (au w) (au (w.put x (y.1,k,s))) l.zH (l.ok _ R hR) hp (fun a ha b hb tS mq=>hY w x _ (DE a ha tS) (DE b hb mq)) (fun z hz W8 hl=>PZ w hy fB (DE z hz W8) hl)
 generalize hU:fC (aQ (w.put x (y.1,k,s))) d x i.toNat R.l R.pl i=U at*
 rw[aoi]at c3
 refine vs ?_
 have nS:∀z,(R.S z∨C z∨z=n)→S z:=fun z hz=>(hS z).1 (by
  rcases hz with hz|hz|hz
  ·exact .inr (.inr (.inr ⟨_,R,hR,hz⟩))
  ·exact .inl hz
  ·exact .inr (.inl hz))
 have cd:∀ (h:Nat) Q,(rs.set y.1.toNat (some (⟨R.r,R.S,U.l,U.pl⟩:Rw)))[h]? =some (some Q)→(h=y.1.toNat∧Q=⟨R.r,R.S,U.l,U.pl⟩)∨(h≠y.1.toNat∧rs[h]? =some (some Q)):=fun h Q hQ=>by
  by_cases hh:h=y.1.toNat
  ·subst hh
   rw[aop aO]at hQ
   simp only[aos]at hQ
   exact .inl ⟨rfl,hQ.symm⟩
  ·rw[aoo (Ne.symm hh)]at hQ
   exact .inr ⟨hh,hQ⟩
 have aP:∀ (h:Nat) Q,h≠y.1.toNat→rs[h]? =some (some Q)→∀z∈Q.l,z.toNat≠x.toNat:=fun h Q hh hQ z hz e=>by
  obtain⟨z0,e',he⟩:=(l.mem h Q hQ z).1 hz
  rw[e,hy]at he
  injection he with he
  rw[he]at hh
  simp only[Int.toNat_natCast]at hh
  exact hh rfl
 have hwl:∀h:Int,(w.put x (y.1,k,s)).len h=w.len h:=fun h=>by
  rw[Nw.gm hy h]
  simp only
  split<;>omega
 refine .inr ⟨bJ,y,hy,fB,rfl,U.asked,by rw[←aZ];exact Int.ofNat_le.2 p4,DF n C fp (rs.set y.1.toNat (some ⟨R.r,R.S,U.l,U.pl⟩)),
  ⟨c,C,_,fp,rs.set y.1.toNat (some ⟨R.r,R.S,U.l,U.pl⟩),m2.setRow hR (R':=⟨R.r,R.S,U.l,U.pl⟩) rfl r3 (fun z hz=>.inl hz) e3 (fun z hz=>?_) c3 o3,
   ⟨l.zH,by rw[aok];exact l.hl,fun h=>?_,?_,fun h Q hQ=>?_,fun h Q hQ z=>?_,fun h Q hQ=>?_⟩,fun z=>Iff.rfl⟩,?_,fun z hz=>?_⟩
 ·rcases hz with hz|hz|hz
  ·exact .inr (.inl hz)
  ·exact .inl hz
  ·exact .inr (.inr hz)
 ·show w.hs[h]? =some true↔_
  rw[l.hs h]
  by_cases LJ:h=y.1.toNat
  ·subst LJ
   rw[aop aO]
   exact⟨fun _=>⟨_,rfl⟩,fun _=>⟨R,hR⟩⟩
  ·rw[aoo (Ne.symm LJ)]
 ·rw[aoo (by omega)];exact l.h0
 ·rcases cd h Q hQ with ⟨rfl,rfl⟩| ⟨h5,h6⟩
  ·exact p1
  ·exact ce.congr l.zH (l.ok h Q h6) fun z hz v hv=>(hY w x _ (aP h Q h5 h6 z hz) (aP h Q h5 h6 v hv)).symm
 ·rcases cd h Q hQ with ⟨rfl,rfl⟩| ⟨h5,h6⟩
  ·rw[z8]
   show z∈U.l↔_
   rw[p2 z,bK z]
  ·exact LK h Q h6 z
 ·rw[hwl]
  rcases cd h Q hQ with ⟨rfl,rfl⟩| ⟨h5,h6⟩
  ·rw[z8]
   show(U.l.length:Int)=_
   omega
  ·exact l.len h Q h6
 ·exact(f0.mono fun _ _ h=>h.elim).trans ((pE.mono fun z _ hz=>nS z (.inr (.inl hz))).trans (e3.mono fun z _ hz=>nS z hz))
 ·rcases hz with hz|rfl|hz| ⟨j,Q,hQ,hz⟩
  ·exact .inl (nS z (.inr (.inl hz)))
  ·exact .inl (nS z (.inr (.inr rfl)))
  ·exact .inl ((hS z).1 (.inr (.inr (.inl hz))))
  ·rcases cd j Q hQ with ⟨rfl,rfl⟩| ⟨h5,h6⟩
   ·exact .inl (nS z (.inl hz))
   ·exact .inl ((hS z).1 (.inr (.inr (.inr ⟨j,Q,h6,hz⟩))))
theorem oA.at_{H:Hp}{n c:Nat}{C:Nat→Prop}{rv:Value}{fp:Option Nat}{d st:Int}{w:Nw}{rs:List (Option Rw)}(m:oA H n c C rv fp d st w rs){i:Nat}{o:Option Rw}(h:rs[i]? =some o):
  ∃f cc lb,rv= .slice (some ⟨f,0,none⟩) rs.length cc∧fp=some f∧H.own f=some lb∧lb[i]? =some (R2 o)∧i<rs.length:=by
 have hi:=(aoj.1 h).1
 obtain⟨hl,hm⟩:=id m.sl
 cases fp with
 |none=>obtain⟨e,_⟩:=hm;omega
 |some f=>
  obtain⟨lb,cc,hv,ho,h1,h2,h3⟩:=hm
  refine⟨f,cc,lb,hv,rfl,ho,?_,hi⟩
  have h4:(rs.map R2)[i]? =some (R2 o):=by rw[aoG,h];rfl
  rw[←h3,aoO (by omega)]at h4
  exact h4
theorem NA(n:Nat):yi (.iface 218 (ptr n)) (fun H S w=>∃st,dB H n S st w) where
 slt:=by rintro H S w ⟨st,h⟩;exact h.slt
 ext:=by rintro H H' S w T ⟨st,h⟩ e hd;exact⟨st,h.ext e hd⟩
 cells:=by
  rintro H S w ⟨st,c,C,rv,fr,fa,ps,at_,m,l,hS⟩
  exact⟨c,C,st,m.cells⟩
 has:=by
  rintro H S w g ⟨st,c,C,rv,fr,fa,ps,at_,m,l,hS⟩
  obtain⟨av,ho,_⟩:=m.own
  exact⟨_,_,bE,ptr c,rfl,fU (off:=0) (by kernel_rfl) (ae ho) rfl,(hX m.cells g).mono fun v H' hp=>hp⟩
 make:=by
  rintro H S w ⟨st,h⟩
  refine⟨_,_,pO,ptr n,rfl,bD (by kernel_rfl),(F0 h).mono ?_⟩
  rintro v H' (⟨h1,rfl,rfl⟩| ⟨h1,rfl,S',h2,h3,h4⟩)
  ·exact .inl ⟨h1,rfl,cB.same ⟨st,h⟩ (ag.refl _ _)⟩
  ·exact .inr ⟨h1,rfl,S',⟨_,h2⟩,h3,h4⟩
 insert:=by
  rintro H S w g x k s ⟨st,h⟩
  refine⟨_,_,ng,ptr n,rfl,bD (by kernel_rfl),(CY h g x k s).mono ?_⟩
  rintro v H' (⟨h1,rfl,h2,h3⟩| ⟨h1,rfl,S',q,h2,_,h3,h4,h5⟩)
  ·exact .inl ⟨h1,rfl,cB.same ⟨st,h2⟩ h3⟩
  ·exact .inr ⟨h1,rfl,S',⟨_,h3⟩,h4,h5⟩
 min:=by
  rintro H S w g ⟨st,h⟩
  refine⟨_,_,sJ,ptr n,rfl,bD (by kernel_rfl),(yk h g).mono ?_⟩
  rintro v H' ⟨h1,rfl⟩
  rcases h1 with ⟨h1,rfl⟩| ⟨x,h2,rfl⟩
  ·exact .inl ⟨h1,rfl,cB.same ⟨st,h⟩ (ag.refl _ _)⟩
  ·exact .inr ⟨x,h2,rfl,cB.same ⟨st,h⟩ (ag.refl _ _)⟩
 extract:=by
  rintro H S w g ⟨st,h⟩
  refine⟨_,_,lZ,ptr n,rfl,bD (by kernel_rfl),(Bs h g).mono ?_⟩
  rintro v H' (⟨h1,rfl,rfl⟩| ⟨x,h1,rfl,q,hq,S',h5,h6,h7⟩)
  ·exact .inl ⟨h1,rfl,cB.same ⟨st,h⟩ (ag.refl _ _)⟩
  ·exact .inr ⟨x,h1,rfl,S',⟨_,h5⟩,h6,h7⟩
 lf:=by
  rintro H S w x k s ⟨st,h⟩
  refine⟨_,_,kN,ptr n,rfl,bD (by kernel_rfl),(zG h x k s).mono ?_⟩
  rintro v H' (⟨h1,rfl,h2,h3⟩| ⟨h1,y,hy,h2,rfl,q,hq,S',h3,h4,h5⟩)
  ·exact .inl ⟨h1,rfl,cB.same ⟨st,h2⟩ (h3.mono fun _ _ h=>h.elim)⟩
  ·exact .inr ⟨⟨h1,fun z hz=>by rw[hy]at hz;injection hz with hz;rw[←hz];exact h2⟩,rfl,y,hy,S',⟨_,h3⟩,h4,h5⟩
 entry:=by
  rintro H S w x ⟨st,h⟩
  obtain⟨c,C,rv,fr,fa,ps,at_,m,l,hS⟩:=id h
  obtain⟨av,ho,_⟩:=m.own
  refine⟨_,_,bh,ptr c,rfl,fU (off:=0) (by kernel_rfl) (ae ho) rfl,(jk m.cells x).mono ?_⟩
  rintro v H' ⟨_,f,hv⟩
  exact⟨⟨st,h.fresh f⟩,f,hv⟩
theorem F4(n:Nat)(d:Int):yi (.iface 194 (ptr n)) (fun H S w=>∃st,df H n S d st w) where
 slt:=by rintro H S w ⟨st,h⟩;exact h.slt
 ext:=by rintro H H' S w T ⟨st,h⟩ e hd;exact⟨st,h.ext e hd⟩
 cells:=by
  rintro H S w ⟨st,c,C,rv,fp,rs,m,l,hS⟩
  exact⟨c,C,st,m.cells⟩
 has:=by
  rintro H S w g ⟨st,c,C,rv,fp,rs,m,l,hS⟩
  exact⟨_,_,bE,ptr c,rfl,fU (off:=0) (by kernel_rfl) (ae m.own) rfl,(hX m.cells g).mono fun v H' hp=>hp⟩
 make:=by
  rintro H S w ⟨st,h⟩
  refine⟨_,_,pM,ptr n,rfl,bD (by kernel_rfl),(F3 h).mono ?_⟩
  rintro v H' (⟨h1,rfl,rfl⟩| ⟨h1,rfl,S',h2,h3,h4⟩)
  ·exact .inl ⟨h1,rfl,cB.same ⟨st,h⟩ (ag.refl _ _)⟩
  ·exact .inr ⟨h1,rfl,S',⟨_,h2⟩,h3,h4⟩
 insert:=by
  rintro H S w g x k s ⟨st,h⟩
  refine⟨_,_,mV,ptr n,rfl,bD (by kernel_rfl),(C1 h g x k s).mono ?_⟩
  rintro v H' (⟨h1,rfl,h2,h3⟩| ⟨h1,rfl,S',q,h2,_,h3,h4,h5⟩)
  ·exact .inl ⟨h1,rfl,cB.same ⟨st,h2⟩ h3⟩
  ·exact .inr ⟨h1,rfl,S',⟨_,h3⟩,h4,h5⟩
 min:=by
  rintro H S w g ⟨st,h⟩
  refine⟨_,_,sH,ptr n,rfl,bD (by kernel_rfl),(yo h g).mono ?_⟩
  rintro v H' ⟨h1,rfl⟩
  have hn:=cB.same (I:=fun H S w=>∃st,df H n S d st w) ⟨st,h⟩ (ag.refl S H)
  obtain⟨c,C,rv,fp,rs,m,l,hS⟩:=h
  rcases h1 with ⟨h1,rfl⟩| ⟨h1,h2,rfl⟩| ⟨h1,x,h2,h3,rfl,h4⟩
  ·refine .inl ⟨Nw.HP.2 ?_,rfl,hn⟩
   by_cases hg:g≤0
   ·exact .inl hg
   ·refine .inr fun i c hc e=>h1 ⟨by omega,?_⟩
    have:=m.cells.live c (aon hc) (by omega)
    rwa[e]at this
  ·exact .inl ⟨h2,rfl,hn⟩
  ·exact .inr ⟨x,⟨by have:=h1.1;omega,h2.1,h3,h4⟩,rfl,hn⟩
 extract:=by
  rintro H S w g ⟨st,h⟩
  refine⟨_,_,lT,ptr n,rfl,bD (by kernel_rfl),(Bu h g).mono ?_⟩
  rintro v H' (⟨h1,rfl,rfl⟩| ⟨h1,x,h2,h3,h4,rfl,q,hq,S',h5,h6,h7⟩)
  ·have hn:=cB.same (I:=fun H S w=>∃st,df H n S d st w) ⟨st,h⟩ (ag.refl S H)
   obtain⟨c,C,rv,fp,rs,m,l,hS⟩:=h
   rcases h1 with h1| ⟨_,h1⟩
   ·refine .inl ⟨Nw.HP.2 ?_,rfl,hn⟩
    by_cases hg:g≤0
    ·exact .inl hg
    ·refine .inr fun i c hc e=>h1 ⟨by omega,?_⟩
     have:=m.cells.live c (aon hc) (by omega)
     rwa[e]at this
   ·exact .inl ⟨h1,rfl,hn⟩
  ·exact .inr ⟨x,⟨by have:=h1.1;omega,h2.1,h3,h4⟩,rfl,S',⟨_,h5⟩,h6,h7⟩
 lf:=by
  rintro H S w x k s ⟨st,h⟩
  refine⟨_,_,kI,ptr n,rfl,bD (by kernel_rfl),(zI h x k s).mono ?_⟩
  rintro v H' (⟨h1,rfl,h2,h3⟩| ⟨h1,y,hy,h2,rfl,q,hq,S',h3,h4,h5⟩)
  ·exact .inl ⟨h1,rfl,cB.same ⟨st,h2⟩ (h3.mono fun _ _ h=>h.elim)⟩
  ·exact .inr ⟨⟨h1,fun z hz=>by rw[hy]at hz;injection hz with hz;rw[←hz];exact h2⟩,rfl,y,hy,S',⟨_,h3⟩,h4,h5⟩
 entry:=by
  rintro H S w x ⟨st,h⟩
  obtain⟨c,C,rv,fp,rs,m,l,hS⟩:=id h
  refine⟨_,_,bh,ptr c,rfl,fU (off:=0) (by kernel_rfl) (ae m.own) rfl,(jk m.cells x).mono ?_⟩
  rintro v H' ⟨_,f,hv⟩
  exact⟨⟨st,h.fresh f⟩,f,hv⟩
structure fW(H:Hp)(r nb pb:Nat)(N P:List Int):Prop where
 own:H.own r=some [.slice (some ⟨nb,0,none⟩) N.length N.length,.slice (some ⟨pb,0,none⟩) P.length P.length]
 OZ:H.own nb=some (N.map i64)
 VC:H.own pb=some (P.map i64)
 len:P.length=N.length
 ne:r≠nb∧r≠pb∧nb≠pb
def cj(N:List Int)(x:Int):Int:=if 0≤x∧x<N.length then N.getD x.toNat 0 else x
theorem F5{N:List Int}{x:Int}(hx:0≤x∧x<N.length):N[x.toNat]? =some (cj N x):=by
 unfold cj
 rw[if_pos hx,aom]
 obtain⟨y,hy⟩:∃y,N[x.toNat]? =some y:=⟨_,aoh (by omega)⟩
 rw[hy];rfl
theorem Xc{N:List Int}{x:Int}(hx:¬ (0≤x∧x<N.length)):cj N x=x:=by unfold cj;rw[if_neg hx]
theorem ES{N:List Int}{x:Int}(hx:0≤x∧x<N.length)(v z:Int):cj (N.set x.toNat v) z=if z=x then v else cj N z:=by
 unfold cj
 rw[aok]
 by_cases hz:z=x
 ·rw[if_pos hz,hz,if_pos hx,aom,aop (by omega)];rfl
 ·rw[if_neg hz]
  split
  ·rw[aom,aoo (by omega),aom]
  ·rfl
theorem NB{N P:List Int}(h:Af (cj N) (cj P)){x:Int}(hx:0≤x∧x<N.length):0≤cj N x∧cj N x<N.length:=by
 apply aoI
 intro hn
 have h1:=Xc hn
 have h2:cj N x=x:=by
  have:=h.pn (cj N x)
  rw[h1]at this
  have h3:=h.pn x
  rw[this]at h3
  exact h3
 rw[h2]at hn
 exact hn hx
section
variable {H H' : Hp} {r nb pb : Nat} {N P : List Int} {T : Nat → Prop}
theorem fW.ext(h:fW H r nb pb N P)(e:ag T H H')(h1:¬T r)(h2:¬T nb)(h3:¬T pb):fW H' r nb pb N P:=⟨e.own h.own h1,e.own h.OZ h2,e.own h.VC h3,h.len,h.ne⟩
theorem gU(h:fW H r nb pb N P)(x:Int):af Tryz.prog Cj [ptr r,i64 x] H fun v H'=>aw (v= .bool (decide (0≤x∧x<N.length))∧H'=H):=by
 refine bv Cw ?_
 refine vs ?_
 refine am.dec (fun h0=>?_) (fun h0=>?_)<;>refine v1 (ae h.own) ?_
 ·refine⟨?_,rfl⟩
  rw[show(decide (0≤x∧x< (N.length:Int)))=decide (x< (N.length:Int)) by simp[h0]]
  rfl
 ·refine⟨?_,rfl⟩
  rw[aoJ (fun h=>h0 h.1)]
  rfl
theorem F6(h:fW H r nb pb N P){x:Int}(hx:0≤x∧x<N.length):af Tryz.prog Aq [ptr r,i64 x] H fun v H'=>aw (v= .tuple [i64 (cj N x),.bool true].toArray∧H'=H):=by
 refine bv AO ?_
 refine vs ?_
 refine(gU h x).mono ?_
 rintro _ H' ⟨rfl,e⟩
 obtain rfl:=e.symm
 rw[aow hx]
 have hn:(N.map i64)[x.toNat]? =some (i64 (cj N x)):=by rw[aoG,F5 hx];rfl
 refine v1 (ae h.own) ?_
 refine⟨⟨by omega,by omega⟩,?_⟩
 refine v4 (ae h.OZ) aoi aol hn ?_
 exact⟨rfl,rfl⟩
theorem dt(h:fW H r nb pb N P)(hi:Af (cj N) (cj P)){x y:Int}(hx:0≤x∧x<N.length)(hy:0≤y∧y<N.length):af Tryz.prog wF [ptr r,i64 x,i64 y] H fun v H'=>aw (v= .bool true∧
  ∃N' P',fW H' r nb pb N' P'∧N'.length=N.length∧cj N'=yy (cj N) x y∧Af (cj N') (cj P')∧ag (fun z=>z=nb∨z=pb) H H'):=by
 refine Fa xj ⟨rfl,?_⟩
 refine v1 mj.eq_1 ?_
 refine(gU h x).mono ?_
 rintro _ H' ⟨rfl,e⟩
 obtain rfl:=e.symm
 rw[aow hx]
 refine vs ?_
 refine(gU h y).mono ?_
 rintro _ H' ⟨rfl,e⟩
 obtain rfl:=e.symm
 rw[aow hy]
 have Ko:(N.map i64)[x.toNat]? =some (i64 (cj N x)):=by rw[aoG,F5 hx];rfl
 have hny:(N.map i64)[y.toNat]? =some (i64 (cj N y)):=by rw[aoG,F5 hy];rfl
 obtain⟨a0,a1⟩:=NB hi hx
 obtain⟨b0,b1⟩:=NB hi hy
 obtain⟨d1,d2,d3⟩:=h.ne
 have hl:=h.len
 refine v1 (ae h.own) ?_
 refine⟨⟨by omega,by omega⟩,?_⟩
 refine v5 (ae h.OZ) (ae h.own) aoi aol Ko ?_
 refine⟨⟨by omega,by omega⟩,?_⟩
 refine v5 (ae h.OZ) (ae h.own) aoi aol hny ?_
 refine⟨⟨by omega,by omega⟩,?_⟩
 refine v3 h.OZ aoi aol ?_
 refine⟨by rw[aoF];omega,?_⟩
 refine vs ?_
 have e1:ag (fun z=>z=nb) H (H.wr nb ((N.map i64).set x.toNat (i64 (cj N y)))):=(ag.refl (fun z=>z=nb) _).wr (fun _=>rfl) _
 have q1:(H.wr nb ((N.map i64).set x.toNat (i64 (cj N y)))).own nb=some ((N.map i64).set x.toNat (i64 (cj N y))):=ai h.OZ
 generalize H.wr nb ((N.map i64).set x.toNat (i64 (cj N y)))=H1 at*
 refine⟨⟨by omega,by omega⟩,?_⟩
 refine v3 q1 aoi aol ?_
 refine⟨by rw[aok,aoF];omega,?_⟩
 refine vs ?_
 have e2:ag (fun z=>z=nb) H1 (H1.wr nb (((N.map i64).set x.toNat (i64 (cj N y))).set y.toNat (i64 (cj N x)))):=(ag.refl (fun z=>z=nb) _).wr (fun _=>rfl) _
 have q2:(H1.wr nb (((N.map i64).set x.toNat (i64 (cj N y))).set y.toNat (i64 (cj N x)))).own nb=some (((N.map i64).set x.toNat (i64 (cj N y))).set y.toNat (i64 (cj N x))):=ai q1
 generalize H1.wr nb (((N.map i64).set x.toNat (i64 (cj N y))).set y.toNat (i64 (cj N x)))=H2 at*
 have pE:=e1.trans e2
 have o2:=pE.own h.own d1
 have p2:=pE.own h.VC (Ne.symm d3)
 have o1:=e1.own h.own d1
 refine v2 (ae o1) (ae o2) ?_
 refine⟨⟨by omega,by omega⟩,?_⟩
 refine v3 p2 aoi aol ?_
 refine⟨by rw[aoF];omega,?_⟩
 refine vs ?_
 have e3:ag (fun z=>z=pb) H2 (H2.wr pb ((P.map i64).set (cj N y).toNat (i64 x))):=(ag.refl (fun z=>z=pb) _).wr (fun _=>rfl) _
 have q3:(H2.wr pb ((P.map i64).set (cj N y).toNat (i64 x))).own pb=some ((P.map i64).set (cj N y).toNat (i64 x)):=ai p2
 generalize H2.wr pb ((P.map i64).set (cj N y).toNat (i64 x))=H3 at*
 refine⟨⟨by omega,by omega⟩,?_⟩
 refine v3 q3 aoi aol ?_
 refine⟨by rw[aok,aoF];omega,?_⟩
 refine vs ?_
 have e4:ag (fun z=>z=pb) H3 (H3.wr pb (((P.map i64).set (cj N y).toNat (i64 x)).set (cj N x).toNat (i64 y))):=(ag.refl (fun z=>z=pb) _).wr (fun _=>rfl) _
 have q4:(H3.wr pb (((P.map i64).set (cj N y).toNat (i64 x)).set (cj N x).toNat (i64 y))).own pb=some (((P.map i64).set (cj N y).toNat (i64 x)).set (cj N x).toNat (i64 y)):=ai q3
 have Xd:=e3.trans e4
 have nf:cj ((N.set x.toNat (cj N y)).set y.toNat (cj N x))=yy (cj N) x y:=by
  funext z
  rw[ES (by rw[aok];exact hy),ES hx]
  unfold yy
  by_cases h1:z=x
  ·rw[if_pos h1]
   by_cases h2:z=y
   ·rw[if_pos h2,←h2,h1];simp
   ·rw[if_neg h2,if_pos h1]
  ·rw[if_neg h1,if_neg h1]
 have pf:cj ((P.set (cj N y).toNat x).set (cj N x).toNat y)=TL (cj N) (cj P) x y:=by
  funext z
  rw[ES (by rw[aok];omega),ES (by omega)]
  rfl
 refine⟨rfl,(N.set x.toNat (cj N y)).set y.toNat (cj N x),(P.set (cj N y).toNat x).set (cj N x).toNat y,⟨?_,?_,?_,by simp[hl],h.ne⟩,by simp,nf,?_,(pE.mono fun z _ h=>.inl h).trans (Xd.mono fun z _ h=>.inr h)⟩
 ·rw[aok,aok,aok,aok]
  exact Xd.own o2 d2
 ·rw[ao4,ao4]
  exact Xd.own q2 d3
 ·rw[ao4,ao4]
  exact q4
 ·rw[nf,pf]
  exact hi.yy x y
theorem nM(h:fW H r nb pb N P)(hi:Af (cj N) (cj P)){x:Int}(hx:0≤x∧x<N.length):af Tryz.prog Ap [ptr r,i64 x] H fun v H'=>aw (v= .bool true∧
  ∃N' P',fW H' r nb pb N' P'∧N'.length=N.length∧cj N'=yy (cj N) x (cj P x)∧Af (cj N') (cj P')∧ag (fun z=>z=nb∨z=pb) H H'):=by
 have my:Af (cj P) (cj N):=⟨hi.np,hi.pn⟩
 have hl:=h.len
 have dH:=NB my (x:=x) (by omega)
 have hp:(P.map i64)[x.toNat]? =some (i64 (cj P x)):=by rw[aoG,F5 (by omega)];rfl
 refine bv AN ?_
 refine vs ?_
 refine(gU h x).mono ?_
 rintro _ H' ⟨rfl,e⟩
 obtain rfl:=e.symm
 rw[aow hx]
 refine v1 (ae h.own) ?_
 refine⟨⟨by omega,by omega⟩,?_⟩
 refine v4 (ae h.VC) aoi aol hp ?_
 refine(dt h hi hx (y:=cj P x) (by omega)).mono ?_
 rintro _ H1 ⟨rfl,h1⟩
 refine vs ?_
 exact⟨rfl,h1⟩
theorem oY(h:fW H r nb pb N P){x:Int}{A:List Int}(hc:vz (cj N) (x::A))(hn:(x::A).Nodup)(hx:∀c∈x::A,0≤c∧c<N.length)(hN:N.length≤65536):af Tryz.prog Ci [ptr r,i64 x] H fun v H'=>aw (∃b,
  Sl H' 1 v (x::A).length ((x::A).map i64) (some b)∧H.size≤b∧ah H H'):=by
 have gf:=hx x (by simp)
 have aZ:=bZ hn hx
 have eT:r<H.size∧nb<H.size∧pb<H.size:=⟨aB h.own,aB h.OZ,aB h.VC⟩
 have rdn:∀ {z:Int},0≤z∧z<N.length→(N.map i64)[z.toNat]? =some (i64 (cj N z)):=fun hz=>by rw[aoG,F5 hz];rfl
 refine bv Cv ?_
 refine vs ?_
 refine(gU h x).mono ?_
 rintro _ H' ⟨rfl,e⟩
 obtain rfl:=e.symm
 rw[aow gf]
 refine vs ?_
 have f0:ah H (H.new 3 [i64 x]):=(ag.refl _ _).new _ _
 have s0:Sl (H.new 3 [i64 x]) 1 (.slice (some ⟨H.size,0,none⟩) 1 1) [x].length ([x].map i64) (some H.size):=Sl.bU (size:=1) (n:=1) (xs:=[i64 x]) rfl rfl
 have h0:=h.ext f0 (fun h=>h) (fun h=>h) (fun h=>h)
 generalize H.new 3 [i64 x]=H0 at*
 refine v2 (ae h0.own) (ae h.own) ?_
 refine⟨⟨by omega,by omega⟩,?_⟩
 refine v5 (ae h0.OZ) (ae h.OZ) aoi aol (rdn gf) ?_
 have hp:mA (cj N) x A x:=hc
 have hd:∀ {a z:Int} {l:List Int},mA (cj N) a l z→cj N a=l.headD z:=fun{a z l} h=>by
  cases l with
  |nil=>exact h
  |cons b l=>exact h.1
 refine aX.intro (fun mm env H'=>∃ (d s:List Int) (wv:Value) (b:Nat),mm=s.length∧A=d++s∧fW H' r nb pb N P∧H.size≤b∧Sl H' 1 wv (x::d).length ((x::d).map i64) (some b)∧ag (fun z=>H.size≤z) H H'∧
  env=[(0,ptr r),(1,i64 x),(5,wv),(6,i64 (s.headD x))]) _ ⟨[],A,_,H.size,rfl,rfl,h0,aov _,s0,f0.mono fun _ _ h=>h.elim,by rw[hd hp]⟩ ?_
 rintro mm env H1 ⟨d,s,wv,b,rfl,Zh,h1,hb,s1,e1,rfl⟩
 have z1:=e1.size
 refine vs ?_
 cases s with
 |nil=>
  refine am.dec (fun _=>?_) (fun h=>absurd rfl h)
  refine vs ?_
  rw[apa]at Zh
  subst Zh
  exact⟨b,s1,hb,e1.mono fun z hz h=>by omega⟩
 |cons c s=>
  have Fv:c∈A:=by rw[Zh];simp
  have fu:=hx c (aoQ _ Fv)
  have P0:c≠x:=fun e=>(aoB.1 hn).1 (by rw[←e];exact Fv)
  have oQ:d.length+(s.length+1)=A.length:=by rw[Zh,aor,aoD]
  rw[aoD]at aZ
  refine am.dec (fun h=>absurd h P0) (fun _=>?_)
  refine vs ?_
  refine IE (B:=H.size) hb (by omega) s1 c (by rw[aoD];omega) fun w' H2 b' jY s2 e2=>?_
  refine vs ?_
  have h2:=h1.ext e2 (by omega) (by omega) (by omega)
  simp(disch:=(first|omega| (simp only[Zs]<;>omega)|fail)) only[go_sem, ↓reduceIte,Zv,ae h2.own,List.headD_cons]
  refine⟨⟨by omega,by omega⟩,?_⟩
  refine v4 (ae h2.OZ) aoi aol (rdn fu) ?_
  have Ko:cj N c=s.headD x:=hd (mA.YZ.1 (by rw[←Zh];exact hp)).2
  exact⟨s.length,by simp,d++[c],s,w',b',rfl,by rw[Zh];simp,h2,jY,s2,e1.trans e2,by rw[Ko]⟩
end
end Go.Proofs.YtjlnnljohemifaaGreat

namespace Go.Proofs.YtjlnnljohemifaaGreat
open Go Go.Vc
structure Pc where
 u:Int
 k:Int
 d:Int
 m:Bool
def O0(y:Pc):List Value:=[i64 y.u,i64 y.k,i64 y.d,.bool y.m]
def aK(L:List Pc):List Value:=L.flatMap O0
theorem NC(L:List Pc):(aK L).length=L.length*4:=by
 induction L with
 |nil=>rfl
 |cons c r ih=>simp only[aK,apV,aor,O0,aoD,apl]at*;omega
theorem aa8{L:List Pc}{i:Nat}{y:Pc}(hi:L[i]? =some y):(aK L)[i*4]? =some (i64 y.u)∧(aK L)[i*4+1]? =some (i64 y.k)∧(aK L)[i*4+2]? =some (i64 y.d)∧(aK L)[i*4+3]? =some (.bool y.m):=by
 induction L generalizing i with
 |nil=>simp at hi
 |cons a r ih=>
  have e:aK (a::r)=i64 a.u::i64 a.k::i64 a.d:: .bool a.m::aK r:=rfl
  rw[e]
  cases i with
  |zero=>simp at hi;subst hi;exact⟨rfl,rfl,rfl,rfl⟩
  |succ i=>
   have:=ih (by simpa using hi)
   rw[show(i+1)*4=i*4+4 by omega]
   exact this
theorem nN{L:List Pc}{i:Nat}{y:Pc}(hi:L[i]? =some y):(∀v,(aK L).set (i*4) (i64 v)=aK (L.set i ⟨v,y.k,y.d,y.m⟩))∧(∀v,(aK L).set (i*4+1) (i64 v)=aK (L.set i ⟨y.u,v,y.d,y.m⟩))∧
  (∀v,(aK L).set (i*4+2) (i64 v)=aK (L.set i ⟨y.u,y.k,v,y.m⟩))∧(∀v,(aK L).set (i*4+3) (.bool v)=aK (L.set i ⟨y.u,y.k,y.d,v⟩))∧
  (∀z:Pc,bk (aK L) (i*4) [i64 z.u,i64 z.k,i64 z.d,.bool z.m]=aK (L.set i z)):=by
 induction L generalizing i with
 |nil=>simp at hi
 |cons a r ih=>
  have e:aK (a::r)=i64 a.u::i64 a.k::i64 a.d:: .bool a.m::aK r:=rfl
  cases i with
  |zero=>simp at hi;subst hi;exact⟨fun _=>rfl,fun _=>rfl,fun _=>rfl,fun _=>rfl,fun _=>rfl⟩
  |succ i=>
   obtain⟨h1,h2,h3,h4,h5⟩:=ih (by simpa using hi)
   have e2:∀z:Pc,aK ((a::r).set (i+1) z)=i64 a.u::i64 a.k::i64 a.d:: .bool a.m::aK (r.set i z):=fun _=>rfl
   refine⟨fun v=>?_,fun v=>?_,fun v=>?_,fun v=>?_,fun z=>?_⟩
   ·rw[e,e2,show(i+1)*4=i*4+1+1+1+1 by omega]
    simp only[ao1]
    rw[h1]
   ·rw[e,e2,show(i+1)*4+1=i*4+1+1+1+1+1 by omega]
    simp only[ao1]
    rw[h2]
   ·rw[e,e2,show(i+1)*4+2=i*4+2+1+1+1+1 by omega]
    simp only[ao1]
    rw[h3]
   ·rw[e,e2,show(i+1)*4+3=i*4+3+1+1+1+1 by omega]
    simp only[ao1]
    rw[h4]
   ·have h5:=h5 z
    simp only[bk]at h5 ⊢
    rw[e,e2,show(i+1)*4=i*4+1+1+1+1 by omega]
    simp only[ao1]
    rw[h5]
def n7:Pc:=⟨-1, -1,0,false⟩
def eJ(L:List Pc)(x:Int):Pc:=if 0≤x then(L[x.toNat]?).getD n7 else n7
theorem F7{L:List Pc}{x:Int}{y:Pc}(h0:0≤x)(h:L[x.toNat]? =some y):eJ L x=y:=by unfold eJ;rw[if_pos h0,h];rfl
def mJ(f:Int→Pc)(x:Int)(y:Pc):Int→Pc:=fun z=>if z=x then y else f z
theorem Bv{L:List Pc}{x:Int}(hx:0≤x∧x<L.length)(y:Pc):eJ (L.set x.toNat y)=mJ (eJ L) x y:=by
 funext z
 show eJ (L.set x.toNat y) z=if z=x then y else eJ L z
 by_cases hz:z=x
 ·rw[if_pos hz,hz]
  unfold eJ
  rw[if_pos hx.1,aop (by omega)];rfl
 ·rw[if_neg hz]
  unfold eJ
  split
  ·rw[aoo (by omega)]
  ·rfl
structure FB where
 n:Nat
 c:Nat
 r:Nat
 nb:Nat
 pb:Nat
 tb:Nat
 tp:Nat
def FB.S(B:FB)(C:Nat→Prop)(z:Nat):Prop:=C z∨z=B.n∨z=B.r∨z=B.nb∨z=B.pb∨z=B.tb∨z=B.tp
structure bW(H:Hp)(B:FB)(C:Nat→Prop)(w:Nw)(N P:List Int)(L:List Pc)(tops:List Int):Prop where
 own:∃tv,H.own B.n=some [ptr B.c,ptr B.r,.slice (some ⟨B.tb,0,none⟩) L.length L.length,tv]∧Sl H 1 tv tops.length (tops.map i64) (some B.tp)
 cells:CQ H B.c C w
 ring:fW H B.r B.nb B.pb N P
 inv:Af (cj N) (cj P)
 places:H.own B.tb=some (aK L)
 len:L.length=w.cs.length∧N.length=w.cs.length
 ml:(B.n≠B.r∧B.n≠B.nb∧B.n≠B.pb∧B.n≠B.tb∧B.n≠B.tp)∧(B.tb≠B.r∧B.tb≠B.nb∧B.tb≠B.pb∧B.tb≠B.tp)∧(B.tp≠B.r∧B.tp≠B.nb∧B.tp≠B.pb)
 out:¬C B.n∧¬C B.r∧¬C B.nb∧¬C B.pb∧¬C B.tb∧¬C B.tp
section
variable {H H' : Hp} {B : FB} {C V : Nat → Prop} {w w' : Nw} {N P N' P' : List Int} {L L' : List Pc} {tops : List Int}
theorem bW.slt(h:bW H B C w N P L tops):∀z,B.S C z→z<H.size:=by
 obtain⟨tv,h1,h2⟩:=h.own
 rintro z (hz|rfl|rfl|rfl|rfl|rfl|rfl)
 ·exact h.cells.slt z hz
 ·exact aB h1
 ·exact aB h.ring.own
 ·exact aB h.ring.OZ
 ·exact aB h.ring.VC
 ·exact aB h.places
 ·exact h2.lt
theorem bW.ext(h:bW H B C w N P L tops)(e:ag V H H')(hd:∀z,B.S C z→¬V z):bW H' B C w N P L tops:=by
 obtain⟨tv,h1,h2⟩:=h.own
 exact⟨⟨tv,e.own h1 (hd _ (.inr (.inl rfl))),h2.ext e (fun b hb=>by injection hb with hb;exact hb▸hd _ (.inr (.inr (.inr (.inr (.inr (.inr rfl)))))))⟩,h.cells.ext e (fun x hx=>hd x (.inl hx)),
  h.ring.ext e (hd _ (.inr (.inr (.inl rfl)))) (hd _ (.inr (.inr (.inr (.inl rfl))))) (hd _ (.inr (.inr (.inr (.inr (.inl rfl)))))),h.inv,e.own h.places (hd _ (.inr (.inr (.inr (.inr (.inr (.inl rfl))))))),h.len,h.ml,h.out⟩
theorem bW.fresh(h:bW H B C w N P L tops)(e:ah H H'):bW H' B C w N P L tops:=h.ext e fun _ _ h=>h
theorem bW.aJ(h:bW H B C w N P L tops)(c1:CQ H' B.c C w')(e:ag C H H')(hl:w'.cs.length=w.cs.length):bW H' B C w' N P L tops:=by
 obtain⟨tv,h1,h2⟩:=h.own
 obtain⟨o1,o2,o3,o4,o5,o6⟩:=h.out
 exact⟨⟨tv,e.own h1 o1,h2.ext e (fun b hb=>by injection hb with hb;exact hb▸o6)⟩,c1,h.ring.ext e o2 o3 o4,h.inv,e.own h.places o5,by rw[hl];exact h.len,h.ml,h.out⟩
theorem bW.uR(h:bW H B C w N P L tops)(r1:fW H' B.r B.nb B.pb N' P')(hi:Af (cj N') (cj P'))(e:ag (fun z=>z=B.nb∨z=B.pb) H H')(hl:N'.length=N.length):bW H' B C w N' P' L tops:=by
 obtain⟨tv,h1,h2⟩:=h.own
 obtain⟨o1,o2,o3,o4,o5,o6⟩:=h.out
 obtain⟨⟨d1,d2,d3,d4,d5⟩,⟨d6,d7,d8,d9⟩,⟨d10,d11,d12⟩⟩:=h.ml
 exact⟨⟨tv,e.own h1 (by omega),h2.ext e (fun b hb=>by injection hb with hb;omega)⟩,h.cells.ext e (fun x hx hz=>by rcases hz with hz|hz;exact o3 (hz▸hx);exact o4 (hz▸hx)),r1,hi,e.own h.places (by omega),by rw[hl];exact h.len,h.ml,h.out⟩
theorem bW.R4(h:bW H B C w N P L tops)(hl:L'.length=L.length):bW (H.wr B.tb (aK L')) B C w N P L' tops∧ag (fun z=>z=B.tb) H (H.wr B.tb (aK L')):=by
 obtain⟨tv,h1,h2⟩:=h.own
 obtain⟨o1,o2,o3,o4,o5,o6⟩:=h.out
 obtain⟨⟨d1,d2,d3,d4,d5⟩,⟨d6,d7,d8,d9⟩,⟨d10,d11,d12⟩⟩:=h.ml
 have e:ag (fun z=>z=B.tb) H (H.wr B.tb (aK L')):=(ag.refl (fun z=>z=B.tb) _).wr (fun _=>rfl) _
 exact⟨⟨⟨tv,by rw[hl];exact e.own h1 d4,h2.ext e (fun b hb=>by injection hb with hb;omega)⟩,h.cells.ext e (fun x hx hz=>o5 (hz▸hx)),h.ring.ext e (Ne.symm d6) (Ne.symm d7) (Ne.symm d8),h.inv,ai h.places,by rw[hl];exact h.len,h.ml,h.out⟩,e⟩
theorem bW.fT(h:bW H B C w N P L tops):∃c l,H.own B.n=some [ptr B.c,ptr B.r,.slice (some ⟨B.tb,0,none⟩) L.length L.length,.slice (some ⟨B.tp,0,none⟩) tops.length c]∧H.own B.tp=some l∧tops.length≤c∧c≤l.length∧l.take tops.length=tops.map i64:=by
 obtain⟨tv,h1,_,l,c,rfl,h3,h4,h5,h6⟩:=h.own
 rw[aol]at h5 h6
 exact⟨c,l,h1,h3,h4,h5,h6⟩
theorem bW.eR(h:bW H B C w N P L tops){l:List Value}(hl:H.own B.tp=some l){i:Nat}{x:Int}(hx:tops[i]? =some x):l[i]? =some (i64 x):=by
 obtain⟨c,l',_,h2,_,_,h5⟩:=h.fT
 rw[hl]at h2
 injection h2 with h2
 subst h2
 have h7:(tops.map i64)[i]? =some (i64 x):=by rw[aoG,hx];rfl
 rw[←h5,aoV]at h7
 split at h7
 ·exact h7
 ·cases h7
theorem bW.ld(h:bW H B C w N P L tops){l:List Value}(hl:H.own B.tp=some l)(i:Nat)(v:Int):bW (H.wr B.tp (l.set i (i64 v))) B C w N P L (tops.set i v)∧ag (fun z=>z=B.tp) H (H.wr B.tp (l.set i (i64 v))):=by
 obtain⟨c,l',h1,h2,h3,h4,h5⟩:=h.fT
 rw[hl]at h2
 injection h2 with h2
 subst h2
 obtain⟨o1,o2,o3,o4,o5,o6⟩:=h.out
 obtain⟨⟨d1,d2,d3,d4,d5⟩,⟨d6,d7,d8,d9⟩,⟨d10,d11,d12⟩⟩:=h.ml
 have e:ag (fun z=>z=B.tp) H (H.wr B.tp (l.set i (i64 v))):=(ag.refl (fun z=>z=B.tp) _).wr (fun _=>rfl) _
 refine⟨⟨⟨_,e.own h1 d5,?_⟩,h.cells.ext e (fun x hx hz=>o6 (hz▸hx)),h.ring.ext e (Ne.symm d10) (Ne.symm d11) (Ne.symm d12),h.inv,e.own h.places d9,h.len,h.ml,h.out⟩,e⟩
 refine⟨by simp,l.set i (i64 v),c,by rw[aok],ai hl,by rw[aok];exact h3,by rw[aok,aol];exact h4,?_⟩
 rw[aok,aol,vG,h5,ao4]
theorem bW.rd(h:bW H B C w N P L tops){x:Int}(hx:0≤x∧x<w.cs.length):x.toNat*4+3< (aK L).length∧(aK L)[x.toNat*4]? =some (i64 (eJ L x).u)∧(aK L)[x.toNat*4+1]? =some (i64 (eJ L x).k)∧
  (aK L)[x.toNat*4+2]? =some (i64 (eJ L x).d)∧(aK L)[x.toNat*4+3]? =some (.bool (eJ L x).m):=by
 have hl:=h.len
 have hf:=NC L
 obtain⟨y,hy⟩:∃y,L[x.toNat]? =some y:=⟨_,aoh (by omega)⟩
 obtain⟨h1,h2,h3,h4⟩:=aa8 hy
 rw[F7 hx.1 hy]
 exact⟨by omega,h1,h2,h3,h4⟩
theorem bW.aH(h:bW H B C w N P L tops){x:Int}(hx:0≤x∧x<w.cs.length)(v:Int):∃L',eJ L'=mJ (eJ L) x ⟨v,(eJ L x).k,(eJ L x).d,(eJ L x).m⟩∧bW (H.wr B.tb ((aK L).set (x.toNat*4) (i64 v))) B C w N P L' tops∧ag (fun z=>z=B.tb) H (H.wr B.tb ((aK L).set (x.toNat*4) (i64 v))):=by
 have hl:=h.len
 obtain⟨y,hy⟩:∃y,L[x.toNat]? =some y:=⟨_,aoh (by omega)⟩
 rw[F7 hx.1 hy,(nN hy).1]
 exact⟨_,Bv (by omega) _,h.R4 (aok ..)⟩
theorem bW.ez(h:bW H B C w N P L tops){x:Int}(hx:0≤x∧x<w.cs.length)(v:Int):∃L',eJ L'=mJ (eJ L) x ⟨(eJ L x).u,v,(eJ L x).d,(eJ L x).m⟩∧bW (H.wr B.tb ((aK L).set (x.toNat*4+1) (i64 v))) B C w N P L' tops∧ag (fun z=>z=B.tb) H (H.wr B.tb ((aK L).set (x.toNat*4+1) (i64 v))):=by
 have hl:=h.len
 obtain⟨y,hy⟩:∃y,L[x.toNat]? =some y:=⟨_,aoh (by omega)⟩
 rw[F7 hx.1 hy,(nN hy).2.1]
 exact⟨_,Bv (by omega) _,h.R4 (aok ..)⟩
theorem bW.Xe(h:bW H B C w N P L tops){x:Int}(hx:0≤x∧x<w.cs.length)(v:Int):∃L',eJ L'=mJ (eJ L) x ⟨(eJ L x).u,(eJ L x).k,v,(eJ L x).m⟩∧bW (H.wr B.tb ((aK L).set (x.toNat*4+2) (i64 v))) B C w N P L' tops∧ag (fun z=>z=B.tb) H (H.wr B.tb ((aK L).set (x.toNat*4+2) (i64 v))):=by
 have hl:=h.len
 obtain⟨y,hy⟩:∃y,L[x.toNat]? =some y:=⟨_,aoh (by omega)⟩
 rw[F7 hx.1 hy,(nN hy).2.2.1]
 exact⟨_,Bv (by omega) _,h.R4 (aok ..)⟩
theorem bW.cZ(h:bW H B C w N P L tops){x:Int}(hx:0≤x∧x<w.cs.length)(v:Bool):∃L',eJ L'=mJ (eJ L) x ⟨(eJ L x).u,(eJ L x).k,(eJ L x).d,v⟩∧bW (H.wr B.tb ((aK L).set (x.toNat*4+3) (.bool v))) B C w N P L' tops∧ag (fun z=>z=B.tb) H (H.wr B.tb ((aK L).set (x.toNat*4+3) (.bool v))):=by
 have hl:=h.len
 obtain⟨y,hy⟩:∃y,L[x.toNat]? =some y:=⟨_,aoh (by omega)⟩
 rw[F7 hx.1 hy,(nN hy).2.2.2.1]
 exact⟨_,Bv (by omega) _,h.R4 (aok ..)⟩
theorem bW.ND(h:bW H B C w N P L tops){x:Int}(hx:0≤x∧x<w.cs.length)(z:Pc):∃L',eJ L'=mJ (eJ L) x z∧bW (H.wr B.tb (bk (aK L) (x.toNat*4) [i64 z.u,i64 z.k,i64 z.d,.bool z.m])) B C w N P L' tops∧ag (fun z=>z=B.tb) H (H.wr B.tb (bk (aK L) (x.toNat*4) [i64 z.u,i64 z.k,i64 z.d,.bool z.m])):=by
 have hl:=h.len
 obtain⟨y,hy⟩:∃y,L[x.toNat]? =some y:=⟨_,aoh (by omega)⟩
 rw[(nN hy).2.2.2.2]
 exact⟨_,Bv (by omega) _,h.R4 (aok ..)⟩
end
end Go.Proofs.YtjlnnljohemifaaGreat

namespace Go.Proofs.YtjlnnljohemifaaGreat
open Go Go.Vc
def Kq(f:Int→Pc)(ch:Int→List Int)(par:Int→Int):Prop:=∀x,(f x).u=par x∧(f x).k=(ch x).headD (-1)∧(f x).d=(ch x).length
section
variable {H H' : Hp} {B : FB} {C V : Nat → Prop} {w : Nw} {N P : List Int} {L : List Pc} {tops : List Int} {ch : Int → List Int} {par : Int → Int} {ax : Int → List Int} {W : List Int}
theorem dP.R5{lt:Int→Int→Bool}{nx:Int→Int}(f:dP (aG w) lt nx ch par ax W){x:Int}(hx:x∈W):0≤x∧x<w.cs.length:=by
 obtain⟨a,b,_⟩:=aF (f.wm x hx).2.2
 exact⟨a,b⟩
theorem dP.rin{lt:Int→Int→Bool}{nx:Int→Int}(f:dP (aG w) lt nx ch par ax W){g x:Int}(hx:x∈ax g):0≤x∧x<w.cs.length:=by
 obtain⟨h1,_,h2,_⟩:=f.rm g x hx
 obtain⟨a,b,_⟩:=aF (w:=w) (x:=x) (by omega)
 exact⟨a,b⟩
theorem dP.GV{lt:Int→Int→Bool}{nx:Int→Int}(f:dP (aG w) lt nx ch par ax W){p x:Int}(hx:x∈ch p):0≤x∧x<w.cs.length:=by
 obtain⟨a,b,_⟩:=aF (f.pr.dn p x hx).2.2.2.1
 exact⟨a,b⟩
theorem yp(m:bW H B C w N P L tops){x g:Int}(f:dP (aG w) (aQ w) (cj N) ch par ax (x::W))(hg:aG w x=g)(dk:g<tops.length)(ht:bm tops g=(ax g).headD (-1)):
  af Tryz.prog tg [ptr B.n,i64 g,i64 x] H fun v H'=>aw (∃N' P' F8 l,bW H' B C w N' P' L F8∧F8.length=tops.length∧bm F8=iS (bm tops) g (l.headD (-1))∧
   dP (aG w) (aQ w) (cj N') ch par (ay ax g l) W∧(l.headD (-1)=x∨(l.headD (-1)=bm tops g∧bm tops g≠ -1))∧l.headD (-1)≠ -1∧
   (x≠l.headD (-1)→aQ w (l.headD (-1)) x=true)∧(bm tops g≠ -1→bm tops g≠l.headD (-1)→aQ w (l.headD (-1)) (bm tops g)=true)∧ag (fun z=>C z∨z=B.nb∨z=B.pb∨z=B.tp) H H'):=by
 have hx:=f.R5 (x:=x) (by simp)
 have Du:=f.Y0 (c:=x) (by simp)
 have Rh:0<g:=by rw[←hg];exact(f.wm x (by simp)).2.2
 obtain⟨cc,lt,o1,q1,vC,sC,OT⟩:=m.fT
 have q2:=m.eR q1 (dW (tops:=tops) (h:=g) (by omega) dk)
 have aZ:=m.len
 refine bv tE ?_
 refine v1 (ae o1) ?_
 refine⟨⟨by omega,by omega⟩,?_⟩
 refine v4 (ae q1) aoi aol q2 ?_
 refine am.dec (fun h0=>?_) (fun h0=>?_)<;>refine v1 (ae o1) ?_
 ·have hr:ax g=[]:=by
   rw[h0]at ht
   cases hc:ax g with
   |nil=>rfl
   |cons c r=>rw[hc]at ht;exact absurd ht.symm (f.rne (h:=g) (by rw[hc];simp))
  refine⟨⟨by omega,by omega⟩,?_⟩
  refine v3 q1 aoi aol ?_
  refine⟨by omega,?_⟩
  obtain⟨m2,e2⟩:=m.ld q1 g.toNat x
  refine vs ?_
  have f2:=f.aal (by rw[hg];exact hr)
  rw[hg]at f2
  exact⟨N,P,_,[x],m2,aok ..,eD (by omega) dk x,f2,.inl rfl,Du,fun h=>absurd rfl h,fun h=>absurd h0 h,e2.mono fun z _ h=>.inr (.inr (.inr h))⟩
 obtain⟨t,A,hr⟩:∃t A,ax g=t::A:=by
  cases hc:ax g with
  |nil=>rw[hc]at ht;exact absurd ht h0
  |cons c r=>exact⟨c,r,rfl⟩
 have htt:bm tops g=t:=by rw[ht,hr];rfl
 rw[htt]
 rw[htt]at q2
 have htr:=f.rin (g:=g) (x:=t) (by rw[hr];simp)
 have htn:=f.rne (c:=t) (h:=g) (by rw[hr];simp)
 have htx:t≠x:=fun e=>(f.rm g t (by rw[hr];simp)).2.2.2 (by rw[e];simp)
 refine⟨⟨by omega,by omega⟩,?_⟩
 refine v4 (ae q1) aoi aol q2 ?_
 refine(dt m.ring m.inv (x:=t) (y:=x) (by omega) (by omega)).mono ?_
 rintro _ H2 ⟨rfl,N2,P2,r2,l2,n2,i2,e2⟩
 have m2:=m.uR r2 i2 e2 l2
 have f2:=f.Rf (t:=t) (A:=A) (by rw[hg];exact hr)
 rw[hg,←n2]at f2
 obtain⟨cc,lt2,o2,q3,_⟩:=m2.fT
 have q4:=m2.eR q3 (dW (tops:=tops) (h:=g) (by omega) dk)
 rw[htt]at q4
 refine v1 (ae o2) ?_
 refine⟨⟨by omega,by omega⟩,?_⟩
 refine v4 (ae q3) aoi aol q4 ?_
 refine(cF m2.cells x t).mono ?_
 rintro _ H3 ⟨rfl,c3,e3⟩
 have m3:=m2.aJ c3 e3 rfl
 have BZ:=gS (w:=w) (a:=x) (b:=t) (by omega) (by have:=(f.rm g t (by rw[hr];simp)).1;omega)
 rw[BZ]
 have Ek:ag (fun z=>C z∨z=B.nb∨z=B.pb∨z=B.tp) H H3:=(e2.mono fun z _ h=>h.elim (fun h=>.inr (.inl h)) (fun h=>.inr (.inr (.inl h)))).trans (e3.mono fun z _ h=>.inl h)
 cases aO:aQ w x t
 ·refine vs ?_
  have TD:=((au w).OD t x htx).resolve_right (by rw[aO];simp)
  refine⟨N2,P2,tops,t::x::A,m3,rfl,?_,f2,.inr ⟨rfl,htn⟩,htn,fun _=>TD,fun _ h=>absurd rfl h,Ek⟩
  funext z
  show bm tops z=if z=g then t else bm tops z
  split
  ·rename_i e;rw[e,htt]
  ·rfl
 ·obtain⟨cc,lt3,o3,q5,_,hc5,_⟩:=m3.fT
  have q6:=m3.eR q5 (dW (tops:=tops) (h:=g) (by omega) dk)
  have qi:=(aoj.1 q6).1
  refine v1 (ae o3) ?_
  refine⟨⟨by omega,by omega⟩,?_⟩
  refine v3 q5 aoi aol ?_
  refine⟨by omega,?_⟩
  obtain⟨m4,e4⟩:=m3.ld q5 g.toNat x
  refine vs ?_
  have f3:=f2.sY (g:=g) (l:=x::A++[t]) (by
   unfold ay
   rw[if_pos rfl]
   exact apf (l₁:=[t]) (l₂:=x::A)) (by
   have:=f2.rc g
   unfold ay at this
   rw[if_pos rfl]at this
   exact vz.rot (l1:=[t]) (l2:=x::A) this)
  rw[eB]at f3
  exact⟨N2,P2,_,x::A++[t],m4,aok ..,eD (by omega) dk x,f3,.inl rfl,Du,fun h=>absurd rfl h,fun _ _=>aO,Ek.trans (e4.mono fun z _ h=>.inr (.inr (.inr h)))⟩
theorem F9(m:bW H B C w N P L tops){x y:Int}(f:dP (aG w) (aQ w) (cj N) ch par ax (x::y::W))(hp:Kq (eJ L) ch par)(hh:aG w x=aG w y)(hl:aQ w x y=true):
  af Tryz.prog qY [ptr B.n,i64 y,i64 x] H fun v H'=>aw (∃N' P' L' dO bG,bW H' B C w N' P' L' tops∧dP (aG w) (aQ w) (cj N') dO bG ax (x::W)∧Kq (eJ L') dO bG∧(dO x).length=(ch x).length+1∧(∀z,z≠x→dO z=ch z)∧
   ag (fun z=>z=B.nb∨z=B.pb∨z=B.tb) H H'):=by
 have hx:=f.R5 (x:=x) (by simp)
 have hy:=f.R5 (x:=y) (by simp)
 have MB:x≠y:=fun e=>by rw[e,(au w).vy]at hl;cases hl
 have aZ:=m.len
 obtain⟨tv,o1,_⟩:=m.own
 obtain⟨px,kx,dx⟩:=hp x
 obtain⟨py,ky,dy⟩:=hp y
 obtain⟨a0,a1,a2,a3,a4⟩:=m.rd hx
 have nU:(ch x).length≤w.cs.length:=bZ (f.pr.nd x) fun c hc=>f.GV hc
 have xt:=m.cells.Ef
 refine bv rJ ?_
 refine v1 (ae o1) ?_
 refine⟨⟨by omega,by omega⟩,?_⟩
 refine v1 (ae o1) ?_
 refine⟨⟨by omega,by omega⟩,?_⟩
 refine v3 (ae m.places) aoi a2 ?_
 refine am.dec (fun h0=>?_) (fun h0=>?_)<;>refine vs ?_
 ·have hc:ch x=[]:=by
   rw[h0]at kx
   cases hc:ch x with
   |nil=>rfl
   |cons c r=>rw[hc]at kx;exact absurd kx.symm (f.pr.ne (x:=x) (by rw[hc];simp))
  have f1:=f.Wl hh hl hc
  obtain⟨H1,eH⟩:∃H1,H1=H:=⟨_,rfl⟩
  rw[←eH]at m ⊢
  have m1:=m
  obtain⟨N1,eN⟩:∃N1,N1=N:=⟨_,rfl⟩
  obtain⟨P1,eP⟩:∃P1,P1=P:=⟨_,rfl⟩
  rw[←eN,←eP]at m1
  rw[←eN]at f1
  have e1:ag (fun z=>z=B.nb∨z=B.pb) H1 H1:=ag.refl _ _
  have sG:([y]:List Int).length=(ch x).length+1:=by rw[hc];rfl
  obtain⟨b0,_⟩:=m1.rd hx
  obtain⟨L2,k2,m2,e2⟩:=m1.ez hx y
  refine v2 m1.places aoi ?_
  refine⟨by omega,?_⟩
  refine vs ?_
  generalize H1.wr B.tb ((aK L).set (x.toNat*4+1) (i64 y))=H2 at*
  obtain⟨c0,c1,c2,c3,c4⟩:=m2.rd hx
  have iP:(eJ L2 x).d=(ch x).length:=by rw[k2];unfold mJ;rw[if_pos rfl];exact dx
  obtain⟨L3,k3,m3,e3⟩:=m2.Xe hx ((eJ L2 x).d+1)
  rw[iP]at c3 k3 m3 e3
  refine v4 (ae m2.places) m2.places aoi c3 ?_
  rw[wrap64 (by omega) (by omega)]
  refine⟨by omega,?_⟩
  refine vs ?_
  generalize H2.wr B.tb ((aK L2).set (x.toNat*4+2) (i64 ((ch x).length+1)))=H3 at*
  obtain⟨d0,_⟩:=m3.rd hy
  obtain⟨L4,k4,m4,e4⟩:=m3.aH hy x
  refine v3 m3.places aoi Nat.add_zero ?_
  refine⟨by omega,?_⟩
  refine vs ?_
  generalize H3.wr B.tb ((aK L3).set (y.toNat*4) (i64 x))=H4 at*
  obtain⟨g0,_⟩:=m4.rd hy
  obtain⟨L5,k5,m5,e5⟩:=m4.cZ hy false
  refine v3 m4.places aoi Nat.add_zero ?_
  refine⟨by omega,?_⟩
  refine vs ?_
  refine⟨N1,P1,L5,_,_,m5,f1,fun z=>?_,?_,fun z hz=>?_,((((e1.mono fun z _ h=>h.elim .inl fun h=>.inr (.inl h)).trans (e2.mono fun z _ h=>.inr (.inr h))).trans (e3.mono fun z _ h=>.inr (.inr h))).trans (e4.mono fun z _ h=>.inr (.inr h))).trans (e5.mono fun z _ h=>.inr (.inr h))⟩
  ·rw[k5,k4,k3,k2]
   unfold mJ ay
   by_cases h1:z=y
   ·rw[h1,if_pos rfl,if_neg MB.symm,if_neg MB.symm]
    simp only[if_neg MB.symm,if_true]
    refine⟨by unfold aH;rw[if_pos rfl],?_,?_⟩
    ·exact ky
    ·exact dy
   ·rw[if_neg h1]
    unfold aH
    rw[if_neg h1]
    by_cases h2:z=x
    ·rw[h2]
     simp only[if_true,if_neg MB]
     exact⟨px,rfl,by rw[sG];omega⟩
    ·simp only[if_neg h1,if_neg h2]
     exact hp z
  ·unfold ay;rw[if_pos rfl,sG]
  ·unfold ay;rw[if_neg hz]
 ·obtain⟨k,K,hc⟩:∃k K,ch x=k::K:=by
   cases hc:ch x with
   |nil=>rw[hc]at kx;exact absurd kx h0
   |cons c r=>exact⟨c,r,rfl⟩
  have hk:(eJ L x).k=k:=by rw[kx,hc];rfl
  have Zi:=f.GV (p:=x) (x:=k) (by rw[hc];simp)
  have f1:=f.under hh hl hc
  rw[hk]at a2
  refine v4 (ae o1) (ae m.places) aoi a2 ?_
  refine(dt m.ring m.inv (x:=k) (y:=y) (by omega) (by omega)).mono ?_
  rintro _ H1 ⟨rfl,N1,P1,r1,l1,n1,i1,e1⟩
  have m1:=m.uR r1 i1 e1 l1
  rw[←n1]at f1
  have sG:(y::K++[k]).length=(ch x).length+1:=by rw[hc];simp
  refine vs ?_
  obtain⟨b0,_⟩:=m1.rd hx
  obtain⟨L2,k2,m2,e2⟩:=m1.ez hx y
  refine v2 m1.places aoi ?_
  refine⟨by omega,?_⟩
  refine vs ?_
  generalize H1.wr B.tb ((aK L).set (x.toNat*4+1) (i64 y))=H2 at*
  obtain⟨c0,c1,c2,c3,c4⟩:=m2.rd hx
  have iP:(eJ L2 x).d=(ch x).length:=by rw[k2];unfold mJ;rw[if_pos rfl];exact dx
  obtain⟨L3,k3,m3,e3⟩:=m2.Xe hx ((eJ L2 x).d+1)
  rw[iP]at c3 k3 m3 e3
  refine v4 (ae m2.places) m2.places aoi c3 ?_
  rw[wrap64 (by omega) (by omega)]
  refine⟨by omega,?_⟩
  refine vs ?_
  generalize H2.wr B.tb ((aK L2).set (x.toNat*4+2) (i64 ((ch x).length+1)))=H3 at*
  obtain⟨d0,_⟩:=m3.rd hy
  obtain⟨L4,k4,m4,e4⟩:=m3.aH hy x
  refine v3 m3.places aoi Nat.add_zero ?_
  refine⟨by omega,?_⟩
  refine vs ?_
  generalize H3.wr B.tb ((aK L3).set (y.toNat*4) (i64 x))=H4 at*
  obtain⟨g0,_⟩:=m4.rd hy
  obtain⟨L5,k5,m5,e5⟩:=m4.cZ hy false
  refine v3 m4.places aoi Nat.add_zero ?_
  refine⟨by omega,?_⟩
  refine vs ?_
  refine⟨N1,P1,L5,_,_,m5,f1,fun z=>?_,?_,fun z hz=>?_,((((e1.mono fun z _ h=>h.elim .inl fun h=>.inr (.inl h)).trans (e2.mono fun z _ h=>.inr (.inr h))).trans (e3.mono fun z _ h=>.inr (.inr h))).trans (e4.mono fun z _ h=>.inr (.inr h))).trans (e5.mono fun z _ h=>.inr (.inr h))⟩
  ·rw[k5,k4,k3,k2]
   unfold mJ ay
   by_cases h1:z=y
   ·rw[h1,if_pos rfl,if_neg MB.symm,if_neg MB.symm]
    simp only[if_neg MB.symm,if_true]
    refine⟨by unfold aH;rw[if_pos rfl],?_,?_⟩
    ·exact ky
    ·exact dy
   ·rw[if_neg h1]
    unfold aH
    rw[if_neg h1]
    by_cases h2:z=x
    ·rw[h2]
     simp only[if_true,if_neg MB]
     exact⟨px,rfl,by rw[sG];omega⟩
    ·simp only[if_neg h1,if_neg h2]
     exact hp z
  ·unfold ay;rw[if_pos rfl,sG]
  ·unfold ay;rw[if_neg hz]
end
end Go.Proofs.YtjlnnljohemifaaGreat

namespace Go.Proofs.YtjlnnljohemifaaGreat
open Go Go.Vc
theorem uS(H:Hp):af Tryz.prog Am [] H fun v H'=>aw (v= .agg #[i64 (-1),i64 (-1),i64 0,.bool false]∧ah H H'):=by
 refine bv AH ?_
 have f0:ah H (H.new 273 [Value.int .i64 0,Value.int .i64 0,Value.int .i64 0,Value.bool false]):=(ag.refl _ _).new _ _
 refine vs ?_
 have q:((H.new 273 [Value.int .i64 0,Value.int .i64 0,Value.int .i64 0,Value.bool false]).wr H.size [Value.int .i64 (-1),Value.int .i64 (-1),Value.int .i64 0,Value.bool false]).own H.size=some [Value.int .i64 (-1),Value.int .i64 (-1),Value.int .i64 0,Value.bool false]:=ai (az _ _ _)
 have e2:ag (fun z=>z=H.size) (H.new 273 [Value.int .i64 0,Value.int .i64 0,Value.int .i64 0,Value.bool false]) ((H.new 273 [Value.int .i64 0,Value.int .i64 0,Value.int .i64 0,Value.bool false]).wr H.size [Value.int .i64 (-1),Value.int .i64 (-1),Value.int .i64 0,Value.bool false]):=(ag.refl (fun z=>z=H.size) _).wr (fun _=>rfl) _
 refine v1 (ae q) ?_
 exact⟨rfl,f0.then e2 (fun z hz=>by omega)⟩
section
variable {H H' : Hp} {B : FB} {C V : Nat → Prop} {w : Nw} {N P : List Int} {L : List Pc} {tops : List Int} {ch : Int → List Int} {par : Int → Int} {ax : Int → List Int} {W : List Int}
theorem Ga(m:bW H B C w N P L tops){x g:Int}{A:List Int}(f:dP (aG w) (aQ w) (cj N) ch par ax W)(hp:Kq (eJ L) ch par)(hr:ax g=x::A):
  af Tryz.prog qX [ptr B.n,i64 x] H fun v H'=>aw (∃N' P' L' A',bW H' B C w N' P' L' tops∧dP (aG w) (aQ w) (cj N') (ay ch x []) (fx ch par x) (ay ax g (x::A')) W∧Kq (eJ L') (ay ch x []) (fx ch par x)∧
   ag (fun z=>z=B.nb∨z=B.pb∨z=B.tb) H H'):=by
 have hx:=f.rin (g:=g) (x:=x) (by rw[hr];simp)
 have dH:=(f.rm g x (by rw[hr];simp)).2.1
 have aZ:=m.len
 have xt:=m.cells.Ef
 obtain⟨tv,o1,_⟩:=m.own
 obtain⟨px,kx,dx⟩:=hp x
 obtain⟨a0,a1,a2,a3,a4⟩:=m.rd hx
 refine bv rI ?_
 refine v1 (ae o1) ?_
 refine⟨⟨by omega,by omega⟩,?_⟩
 refine v3 (ae m.places) aoi a2 ?_
 refine am.dec (fun h0=>?_) (fun h0=>?_)<;>refine vs ?_
 ·have hc:ch x=[]:=by
   rw[h0]at kx
   cases hc:ch x with
   |nil=>rfl
   |cons c r=>rw[hc]at kx;exact absurd kx.symm (f.pr.ne (x:=x) (by rw[hc];simp))
  have e1:ay ch x []=ch:=by
   funext z
   unfold ay
   split
   ·rename_i e;rw[e,hc]
   ·rfl
  have e2:fx ch par x=par:=by
   funext z
   unfold fx
   rw[hc,if_neg (by simp)]
  have e3:ay ax g (x::A)=ax:=by
   funext z
   unfold ay
   split
   ·rename_i e;rw[e,hr]
   ·rfl
  exact⟨N,P,L,A,m,by rw[e1,e2,e3];exact f,by rw[e1,e2];exact hp,ag.refl _ _⟩
 obtain⟨k,K,hc⟩:∃k K,ch x=k::K:=by
  cases hc:ch x with
  |nil=>rw[hc]at kx;exact absurd kx h0
  |cons c r=>exact⟨c,r,rfl⟩
 have hk:(eJ L x).k=k:=by rw[kx,hc];rfl
 rw[hk]
 have yz:=f.cy x
 have gA:=f.pr.nd x
 rw[hc]at yz gA
 have bJ:∀c∈k::K,0≤c∧c<w.cs.length:=fun c Fv=>f.GV (p:=x) (by rw[hc];exact Fv)
 have Ud:(k::K).length≤w.cs.length:=bZ gA bJ
 have hk1:(k::K).length=K.length+1:=aoD
 refine v1 (ae o1) ?_
 refine(oY m.ring yz gA (fun c Fv=>by have:=bJ c Fv;omega) (by omega)).mono ?_
 rintro kv H1 ⟨b,s1,hb,f1⟩
 have m1:=m.fresh f1
 have z1:=f1.size
 have hS:=m.slt
 have Vo:B.tb<H.size:=hS _ (.inr (.inr (.inr (.inr (.inr (.inl rfl))))))
 obtain⟨ka,kc,rfl⟩:=Sl.shape s1
 refine vs ?_
 refine aX.intro (fun mm env H'=>∃ (i:Nat) (L':List Pc),mm=(k::K).length - i∧i≤(k::K).length∧bW H' B C w N P L' tops∧Sl H' 1 (.slice ka (k::K).length kc) (k::K).length ((k::K).map i64) (some b)∧ag (fun z=>z=B.tb) H H'∧
  (∀z,(eJ L' z).k=(eJ L z).k∧(eJ L' z).d=(eJ L z).d∧(eJ L' z).u=if z∈(k::K).take i then -1 else(eJ L z).u)∧
  env=[(0,ptr B.n),(1,i64 x),(4,i64 k),(22,.slice ka (k::K).length kc),(23,i64 (k::K).length),(24,i64 i)]) _ ⟨0,L,rfl,by omega,m1,s1,f1.mono (fun _ _ h=>h.elim),fun z=>⟨rfl,rfl,by simp⟩,rfl⟩ ?_
 rintro mm env H2 ⟨i,L2,rfl,hi,m2,s2,e2,g2,rfl⟩
 refine vs ?_
 refine am.dec (fun gi=>?_) (fun gi=>?_)<;>refine vs ?_
 ·have my:i< (k::K).length:=by omega
  obtain⟨c,GZ⟩:∃c,(k::K)[i]? =some c:=⟨_,aoh my⟩
  have Fv:=bJ c (aon GZ)
  obtain⟨_,kb,lb,rfl,q2,q3⟩:=Sl.zB s2 GZ
  obtain⟨No,o2,_⟩:=m2.own
  have oJ:=m2.len
  refine⟨⟨by omega,by omega⟩,?_⟩
  refine v6 (ae q2) aoi aol Int.toNat_natCast q3 (ae o2) ?_
  refine⟨⟨by omega,by omega⟩,?_⟩
  obtain⟨b0,_⟩:=m2.rd Fv
  obtain⟨L3,k3,m3,e3⟩:=m2.aH Fv (-1)
  refine v3 m2.places aoi Nat.add_zero ?_
  refine⟨by omega,?_⟩
  refine vs ?_
  generalize H2.wr B.tb ((aK L2).set (c.toNat*4) (Value.int .i64 (-1)))=H3 at*
  obtain⟨c0,_⟩:=m3.rd Fv
  have RN:=m3.len
  obtain⟨L4,k4,m4,e4⟩:=m3.cZ Fv false
  refine⟨⟨by omega,by omega⟩,?_⟩
  refine v3 m3.places aoi Nat.add_zero ?_
  refine⟨by omega,?_⟩
  refine vs ?_
  refine⟨(k::K).length - (i+1),by omega,i+1,L4,rfl,by omega,m4,(s2.ext e3 (fun z hz dL=>by injection hz with hz;omega)).ext e4 (fun z hz dL=>by injection hz with hz;omega),(e2.trans e3).trans e4,fun z=>?_,?_⟩
  ·have tk:(k::K).take (i+1)=(k::K).take i++[c]:=by rw[aoT,GZ];rfl
   obtain⟨g3,g4,g5⟩:=g2 z
   rw[tk,k4,k3]
   unfold mJ
   by_cases hz:z=c
   ·simp only[hz,if_true]
    rw[hz]at g3 g4
    exact⟨g3,g4,by simp⟩
   ·simp only[if_neg hz]
    refine⟨g3,g4,?_⟩
    rw[g5]
    simp only[aou,aoq,hz,or_false]
  ·rw[wrap64 (by omega) (by omega)]
   rfl
 obtain rfl:i=(k::K).length:=by omega
 rw[aoP]at g2
 have Zi:=bJ k (by simp)
 have f2:=f.raise hr hc
 obtain⟨No,o2,_⟩:=m2.own
 have oJ:=m2.len
 refine v1 (ae o2) ?_
 refine(dt m2.ring m2.inv (x:=x) (y:=k) (by omega) (by omega)).mono ?_
 rintro _ H3 ⟨rfl,N3,P3,r3,l3,n3,i3,e3⟩
 have m3:=m2.uR r3 i3 e3 l3
 rw[←n3]at f2
 obtain⟨cc,lt,o3,_⟩:=m3.fT
 refine vs ?_
 refine jB.intro (fun H'=>H'.own B.n=some [ptr B.c,ptr B.r,.slice (some ⟨B.tb,0,none⟩) L2.length L2.length,.slice (some ⟨B.tp,0,none⟩) tops.length cc]) o3 ?_
 refine vs ?_
 refine fJ.intro (.slice (some ⟨B.tb,0,none⟩) L2.length L2.length) (fun H' hI=>by refine v1 (ae hI) ?_;trivial) ?_
 refine vs ?_
 refine(uS H3).mono ?_
 rintro _ H4 ⟨rfl,e4⟩
 have o4:=e4.own o3 (fun h=>h)
 refine And.intro o4 ?_
 have m4:=m3.fresh e4
 refine vs ?_
 refine⟨⟨by omega,by omega⟩,?_⟩
 obtain⟨b0,_⟩:=m4.rd hx
 obtain⟨L5,k5,m5,e5⟩:=m4.ND hx n7
 refine v2 m4.places aoi ?_
 refine⟨by omega,?_⟩
 rw[show bk (aK L2) (x.toNat*4) (aI (Value.agg #[i64 (-1),i64 (-1),i64 0,Value.bool false]))=bk (aK L2) (x.toNat*4) [i64 n7.u,i64 n7.k,i64 n7.d,.bool n7.m]from rfl]
 have vW:=m4.ml.1.2.2.2.1
 generalize H4.wr B.tb (bk (aK L2) (x.toNat*4) [i64 n7.u,i64 n7.k,i64 n7.d,.bool n7.m])=H5 at*
 refine vs ?_
 refine And.intro (e5.own o4 vW) ?_
 refine vs ?_
 refine⟨N3,P3,L5,K++k::A,m5,f2,fun z=>?_,(((e2.mono fun z _ h=>.inr (.inr h)).trans (e3.mono fun z _ h=>h.elim .inl fun h=>.inr (.inl h))).trans (e4.mono fun z _ h=>h.elim)).trans (e5.mono fun z _ h=>.inr (.inr h))⟩
 rw[k5]
 unfold mJ ay fx
 obtain⟨g3,g4,g5⟩:=g2 z
 obtain⟨pz,kz,dz⟩:=hp z
 by_cases hz:z=x
 ·rw[if_pos hz,if_pos hz,hz,if_neg (fun h=>by have:=(f.MR h).1 g;rw[hr]at this;exact this (by simp)),dH]
  exact⟨rfl,rfl,rfl⟩
 ·rw[if_neg hz,if_neg hz,g3,g4,g5,hc]
  refine⟨?_,kz,dz⟩
  split
  ·rfl
  ·exact pz
end
end Go.Proofs.YtjlnnljohemifaaGreat

namespace Go.Proofs.YtjlnnljohemifaaGreat
open Go Go.Vc
section
variable {H H' : Hp} {B : FB} {C V : Nat → Prop} {w : Nw} {N P : List Int} {L : List Pc} {tops : List Int} {ch : Int → List Int} {par : Int → Int} {ax : Int → List Int} {W : List Int}
theorem Bw(m:bW H B C w N P L tops){lt:Int→Int→Bool}(hs:bA lt){x p g t:Int}{A:List Int}(f:dP (aG w) lt (cj N) ch par ax W)(hp:Kq (eJ L) ch par)(hx:x∈ch p)(hg:aG w x=g)(dk:g<tops.length)(hr:ax g=t::A)(ht:bm tops g=t):
  af Tryz.prog ud [ptr B.n,i64 g,i64 x] H fun v H'=>aw (∃N' P' L' l,bW H' B C w N' P' L' tops∧dP (aG w) lt (cj N') (ay ch p l) (aH par x (-1)) (ay ax g (t::x::A)) W∧Kq (eJ L') (ay ch p l) (aH par x (-1))∧(ch p).Perm (x::l)∧
   ag (fun z=>z=B.nb∨z=B.pb∨z=B.tb) H H'):=by
 obtain⟨x1,x2,x3,x4,x5⟩:=f.pr.dn p x hx
 have dH:p≠x:=fun e=>by rw[e,hs.vy]at x5;cases x5
 have uN:=f.GV hx
 obtain⟨p0,p1,_⟩:=aF (w:=w) (x:=p) (by omega)
 have aZ:=m.len
 have xt:=m.cells.Ef
 have nU:(ch p).length≤w.cs.length:=bZ (f.pr.nd p) fun c hc=>f.GV hc
 obtain⟨l,vA,yz⟩:=(f.cy p).from hx
 have gA:=vA.nodup_iff.1 (f.pr.nd p)
 have oQ:(ch p).length=l.length+1:=by rw[vA.length_eq,aoD]
 have f1:=f.aao vA yz
 have vC:ay ch p (x::l) p=x::l:=by unfold ay;rw[if_pos rfl]
 obtain⟨ux,_,_⟩:=hp x
 obtain⟨up,kp,dp⟩:=hp p
 rw[x1]at ux
 have htr:=f.rin (g:=g) (x:=t) (by rw[hr];simp)
 have Rh:=(f.rm g t (by rw[hr];simp)).2.2.1
 obtain⟨cc,ltp,o1,q1,_⟩:=m.fT
 obtain⟨a0,a1,a2,a3,a4⟩:=m.rd uN
 obtain⟨b0,b1,b2,b3,b4⟩:=m.rd (x:=p) ⟨p0,p1⟩
 rw[ux]at a1
 rw[dp]at b3
 refine bv us ?_
 refine v1 (ae o1) ?_
 refine⟨⟨by omega,by omega⟩,?_⟩
 refine v4 (ae m.places) aoi Nat.add_zero a1 ?_
 refine⟨⟨by omega,by omega⟩,?_⟩
 refine v4 (ae m.places) m.places aoi b3 ?_
 rw[wrap64 (by omega) (by omega)]
 obtain⟨L2,k2,m2,e2⟩:=m.Xe (x:=p) ⟨p0,p1⟩ (((ch p).length:Int) - 1)
 refine⟨by omega,?_⟩
 refine vs ?_
 generalize H.wr B.tb ((aK L).set (p.toNat*4+2) (i64 (((ch p).length:Int) - 1)))=H2 at*
 obtain⟨c0,_⟩:=m2.rd (x:=p) ⟨p0,p1⟩
 obtain⟨L3,k3,m3,e3⟩:=m2.ez (x:=p) ⟨p0,p1⟩ (-1)
 refine v2 m2.places aoi ?_
 refine⟨by omega,?_⟩
 refine vs ?_
 generalize H2.wr B.tb ((aK L2).set (p.toNat*4+1) (Value.int .i64 (-1)))=H3 at*
 obtain⟨cc3,lt3,o3,q3,_⟩:=m3.fT
 refine v1 (ae o3) ?_
 refine(F6 m3.ring (x:=x) (by omega)).mono ?_
 rintro _ H' ⟨rfl,e⟩
 obtain rfl:=e.symm
 refine vs ?_
 have Ek:ag (fun z=>z=B.nb∨z=B.pb∨z=B.tb) H H3:=(e2.mono fun z _ h=>.inr (.inr h)).trans (e3.mono fun z _ h=>.inr (.inr h))
 have W2:l=[]∨∃A0 y,l=A0++[y]:=by
  rcases List.eq_nil_or_concat l with h| ⟨A0,y,h⟩
  ·exact .inl h
  ·exact .inr ⟨A0,y,by rw[h,List.concat_eq_append]⟩
 rcases W2 with rfl| ⟨A0,y,rfl⟩
 ·have Ko:cj N x=x:=yz
  rw[Ko]
  refine am.cQ (by simp) ?_
  refine vs ?_
  have m4:=m3
  have vI:=Ek
  obtain⟨L4,eL⟩:∃L4,L4=L3:=⟨_,rfl⟩
  rw[←eL]at m4 k3
  have k4x:eJ L4 x=eJ L x:=by rw[k3,k2];unfold mJ;rw[if_neg dH.symm,if_neg dH.symm]
  have k4p:eJ L4 p=⟨(eJ L p).u, -1,((ch p).length:Int) - 1,(eJ L p).m⟩:=by rw[k3,k2];unfold mJ;rw[if_pos rfl,if_pos rfl]
  have k4o:∀z,z≠p→eJ L4 z=eJ L z:=fun z hz=>by rw[k3,k2];unfold mJ;rw[if_neg hz,if_neg hz]
  have B1:∀ {N5:List Int},cj N5=yy (cj N) x (cj P x)→dP (aG w) lt (cj N5) (ay ch p []) (aH par x (-1)) ax (x::W):=fun h=>by
   rw[h]
   have hpv:cj P x=x:=by
    have:=m.inv.pn x
    rwa[Ko]at this
   rw[hpv,KG]
   have f2:=f1.ae6 vC
   rwa[eB]at f2
  obtain⟨cc4,lt4,o4,q4,_⟩:=m4.fT
  refine v1 (ae o4) ?_
  refine(nM m4.ring m4.inv (x:=x) (by omega)).mono ?_
  rintro _ H5 ⟨rfl,N5,P5,r5,l5,n5,i5,e5⟩
  have m5:=m4.uR r5 i5 e5 l5
  have f5:=B1 n5
  obtain⟨cc5,lt5,o5,q5,_⟩:=m5.fT
  have Tn:=m5.len
  refine v1 (ae o5) ?_
  refine⟨⟨by omega,by omega⟩,?_⟩
  obtain⟨d0,_⟩:=m5.rd uN
  obtain⟨L6,k6,m6,e6⟩:=m5.aH uN (-1)
  refine v3 m5.places aoi Nat.add_zero ?_
  refine⟨by omega,?_⟩
  refine vs ?_
  generalize H5.wr B.tb ((aK L4).set (x.toNat*4) (Value.int .i64 (-1)))=H6 at*
  have hl6:=m6.len
  refine⟨⟨by omega,by omega⟩,?_⟩
  obtain⟨g0,_⟩:=m6.rd uN
  obtain⟨L7,k7,m7,e7⟩:=m6.cZ uN false
  refine v3 m6.places aoi Nat.add_zero ?_
  refine⟨by omega,?_⟩
  refine vs ?_
  generalize H6.wr B.tb ((aK L6).set (x.toNat*4+3) (Value.bool false))=H7 at*
  obtain⟨cc7,lt7,o7,q7,_⟩:=m7.fT
  have q8:=m7.eR q7 (dW (tops:=tops) (h:=g) (by omega) dk)
  rw[ht]at q8
  have hl7:=m7.len
  refine v1 (ae o7) ?_
  refine⟨⟨by omega,by omega⟩,?_⟩
  refine v4 (ae q7) aoi aol q8 ?_
  refine(dt m7.ring m7.inv (x:=t) (y:=x) (by omega) (by omega)).mono ?_
  rintro _ H8 ⟨rfl,N8,P8,r8,l8,n8,i8,e8⟩
  have m8:=m7.uR r8 i8 e8 l8
  have f8:=f5.Rf (t:=t) (A:=A) (by rw[hg];exact hr)
  rw[hg,←n8]at f8
  refine vs ?_
  refine⟨N8,P8,L7,[],m8,f8,fun z=>?_,vA,(((vI.trans (e5.mono fun z _ h=>h.elim .inl fun h=>.inr (.inl h))).trans (e6.mono fun z _ h=>.inr (.inr h))).trans (e7.mono fun z _ h=>.inr (.inr h))).trans (e8.mono fun z _ h=>h.elim .inl fun h=>.inr (.inl h))⟩
  rw[k7,k6]
  obtain⟨uz,kz,dz⟩:=hp z
  by_cases h1:z=x
  ·rw[h1]
   rw[h1]at kz dz
   unfold mJ aH ay
   simp only[if_true,if_neg dH.symm,k4x]
   exact⟨trivial,kz,dz⟩
  ·unfold mJ aH ay
   simp only[if_neg h1]
   by_cases h2:z=p
   ·rw[h2]
    simp only[if_true,if_neg dH,k4p]
    refine⟨up,rfl,?_⟩
    rw[oQ];simp
   ·simp only[if_neg h2,k4o z h2]
    exact⟨uz,kz,dz⟩
 ·have TY:cj N x=(A0++[y]).headD (-1):=by
   cases A0 with
   |nil=>exact yz.1
   |cons a A0=>exact yz.1
  have Ko:cj N x≠x:=fun e=>by
   have h1:=(aoB.1 gA).1
   apply h1
   rw[e]at TY
   cases A0 with
   |nil=>rw[TY];simp
   |cons a A0=>rw[TY];simp
  refine am.dec (fun h=>absurd h Ko) (fun _=>?_)
  obtain⟨r0,_⟩:=m3.rd (x:=p) ⟨p0,p1⟩
  obtain⟨L4,k4,m4,e4⟩:=m3.ez (x:=p) ⟨p0,p1⟩ (cj N x)
  refine v2 m3.places aoi ?_
  refine⟨by omega,?_⟩
  refine vs ?_
  generalize H3.wr B.tb ((aK L3).set (p.toNat*4+1) (i64 (cj N x)))=H4 at*
  have vI:=Ek.trans (e4.mono fun z _ h=>.inr (.inr h))
  have k4x:eJ L4 x=eJ L x:=by rw[k4,k3,k2];unfold mJ;rw[if_neg dH.symm,if_neg dH.symm,if_neg dH.symm]
  have k4p:eJ L4 p=⟨(eJ L p).u,cj N x,((ch p).length:Int) - 1,(eJ L p).m⟩:=by rw[k4,k3,k2];unfold mJ;rw[if_pos rfl,if_pos rfl,if_pos rfl]
  have k4o:∀z,z≠p→eJ L4 z=eJ L z:=fun z hz=>by rw[k4,k3,k2];unfold mJ;rw[if_neg hz,if_neg hz,if_neg hz]
  have B1:∀ {N5:List Int},cj N5=yy (cj N) x (cj P x)→dP (aG w) lt (cj N5) (ay ch p (A0++[y])) (aH par x (-1)) ax (x::W):=fun h=>by
   rw[h]
   have hpv:cj P x=y:=vz.last (A:=A0) m.inv yz
   rw[hpv]
   have f2:=f1.off (A:=A0) (y:=y) vC
   rwa[eB]at f2
  obtain⟨cc4,lt4,o4,q4,_⟩:=m4.fT
  refine v1 (ae o4) ?_
  refine(nM m4.ring m4.inv (x:=x) (by omega)).mono ?_
  rintro _ H5 ⟨rfl,N5,P5,r5,l5,n5,i5,e5⟩
  have m5:=m4.uR r5 i5 e5 l5
  have f5:=B1 n5
  obtain⟨cc5,lt5,o5,q5,_⟩:=m5.fT
  have Tn:=m5.len
  refine v1 (ae o5) ?_
  refine⟨⟨by omega,by omega⟩,?_⟩
  obtain⟨d0,_⟩:=m5.rd uN
  obtain⟨L6,k6,m6,e6⟩:=m5.aH uN (-1)
  refine v3 m5.places aoi Nat.add_zero ?_
  refine⟨by omega,?_⟩
  refine vs ?_
  generalize H5.wr B.tb ((aK L4).set (x.toNat*4) (Value.int .i64 (-1)))=H6 at*
  have hl6:=m6.len
  refine⟨⟨by omega,by omega⟩,?_⟩
  obtain⟨g0,_⟩:=m6.rd uN
  obtain⟨L7,k7,m7,e7⟩:=m6.cZ uN false
  refine v3 m6.places aoi Nat.add_zero ?_
  refine⟨by omega,?_⟩
  refine vs ?_
  generalize H6.wr B.tb ((aK L6).set (x.toNat*4+3) (Value.bool false))=H7 at*
  obtain⟨cc7,lt7,o7,q7,_⟩:=m7.fT
  have q8:=m7.eR q7 (dW (tops:=tops) (h:=g) (by omega) dk)
  rw[ht]at q8
  have hl7:=m7.len
  refine v1 (ae o7) ?_
  refine⟨⟨by omega,by omega⟩,?_⟩
  refine v4 (ae q7) aoi aol q8 ?_
  refine(dt m7.ring m7.inv (x:=t) (y:=x) (by omega) (by omega)).mono ?_
  rintro _ H8 ⟨rfl,N8,P8,r8,l8,n8,i8,e8⟩
  have m8:=m7.uR r8 i8 e8 l8
  have f8:=f5.Rf (t:=t) (A:=A) (by rw[hg];exact hr)
  rw[hg,←n8]at f8
  refine vs ?_
  refine⟨N8,P8,L7,(A0++[y]),m8,f8,fun z=>?_,vA,(((vI.trans (e5.mono fun z _ h=>h.elim .inl fun h=>.inr (.inl h))).trans (e6.mono fun z _ h=>.inr (.inr h))).trans (e7.mono fun z _ h=>.inr (.inr h))).trans (e8.mono fun z _ h=>h.elim .inl fun h=>.inr (.inl h))⟩
  rw[k7,k6]
  obtain⟨uz,kz,dz⟩:=hp z
  by_cases h1:z=x
  ·rw[h1]
   rw[h1]at kz dz
   unfold mJ aH ay
   simp only[if_true,if_neg dH.symm,k4x]
   exact⟨trivial,kz,dz⟩
  ·unfold mJ aH ay
   simp only[if_neg h1]
   by_cases h2:z=p
   ·rw[h2]
    simp only[if_true,if_neg dH,k4p]
    refine⟨up,TY,?_⟩
    rw[oQ];simp
   ·simp only[if_neg h2,k4o z h2]
    exact⟨uz,kz,dz⟩
end
end Go.Proofs.YtjlnnljohemifaaGreat

namespace Go.Proofs.YtjlnnljohemifaaGreat
open Go Go.Vc
section
variable {H H' : Hp} {B : FB} {C V : Nat → Prop} {w : Nw} {N P : List Int} {L : List Pc} {tops : List Int} {ch : Int → List Int} {par : Int → Int} {ax : Int → List Int} {W : List Int}
theorem C3(m:bW H B C w N P L tops){lt:Int→Int→Bool}(hs:bA lt){x g t:Int}{A:List Int}(f:dP (aG w) lt (cj N) ch par ax W)(hp:Kq (eJ L) ch par)(hg:aG w x=g)(RR:0<g)(dk:g<tops.length)(hr:ax g=t::A)(ht:bm tops g=t):
  af Tryz.prog oL [ptr B.n,i64 g,i64 x] H fun v H'=>aw (∃N' P' L' dO bG A',bW H' B C w N' P' L' tops∧dP (aG w) lt (cj N') dO bG (ay ax g (t::A')) W∧Kq (eJ L') dO bG∧(∀z,par z= -1→bG z= -1)∧
   ag (fun z=>z=B.nb∨z=B.pb∨z=B.tb) H H'):=by
 have e0:ay ax g (t::A)=ax:=by
  funext z
  unfold ay
  split
  ·rename_i e;rw[e,hr]
  ·rfl
 refine bv oP ?_
 refine vs ?_
 refine aX.intro (fun mm env H'=>∃ (x:Int) (N' P':List Int) (L':List Pc) (dO:Int→List Int) (bG:Int→Int) (A':List Int),mm=MP lt w.cs.length x∧aG w x=g∧bW H' B C w N' P' L' tops∧dP (aG w) lt (cj N') dO bG (ay ax g (t::A')) W∧Kq (eJ L') dO bG∧(∀z,par z= -1→bG z= -1)∧
   ag (fun z=>z=B.nb∨z=B.pb∨z=B.tb) H H'∧env=[(0,ptr B.n),(1,i64 g),(2,i64 x)]) _ ⟨x,N,P,L,ch,par,A,rfl,hg,m,by rw[e0];exact f,hp,fun _ h=>h,ag.refl _ _,rfl⟩ ?_
 rintro mm env H1 ⟨y,N1,P1,L1,O1,xB,A1,rfl,hy,m1,f1,p1,u1,e1,rfl⟩
 obtain⟨y0,y1,_⟩:=aF (w:=w) (x:=y) (by omega)
 obtain⟨tv,o1,_⟩:=m1.own
 obtain⟨a0,a1,a2,a3,a4⟩:=m1.rd ⟨y0,y1⟩
 obtain⟨uy,_,_⟩:=p1 y
 have hl:=m1.len
 rw[uy]at a1
 refine v1 (ae o1) ?_
 refine⟨⟨by omega,by omega⟩,?_⟩
 refine v4 (ae m1.places) aoi Nat.add_zero a1 ?_
 refine am.dec (fun h0=>?_) (fun h0=>?_)<;>refine v1 (ae o1) ?_
 ·exact⟨N1,P1,L1,O1,xB,A1,m1,f1,p1,u1,e1⟩
 refine⟨⟨by omega,by omega⟩,?_⟩
 refine v3 (ae m1.places) aoi a4 ?_
 have hyc:=f1.pr.up y _ rfl h0
 obtain⟨_,_,h3,h4,h5⟩:=f1.pr.dn _ _ hyc
 cases hm:(eJ L1 y).m
 ·refine v1 (ae o1) ?_
  refine⟨⟨by omega,by omega⟩,?_⟩
  obtain⟨L2,k2,m2,e2⟩:=m1.cZ ⟨y0,y1⟩ true
  refine v2 m1.places aoi ?_
  refine⟨by omega,?_⟩
  refine vs ?_
  refine⟨N1,P1,L2,O1,xB,A1,m2,f1,fun z=>?_,u1,e1.trans (e2.mono fun z _ h=>.inr (.inr h))⟩
  rw[k2]
  unfold mJ
  split
  ·rename_i e;rw[e];exact p1 y
  ·exact p1 z
 ·refine v1 (ae o1) ?_
  refine⟨⟨by omega,by omega⟩,?_⟩
  refine v4 (ae m1.places) aoi Nat.add_zero a1 ?_
  refine(Bw m1 hs f1 p1 hyc hy dk (A:=A1) (by unfold ay;rw[if_pos rfl]) ht).mono ?_
  rintro _ H2 ⟨N2,P2,L2,l,m2,f2,p2,vA,e2⟩
  rw[eB]at f2
  refine vs ?_
  obtain⟨z0,z1,_⟩:=aF (w:=w) (x:=xB y) (by omega)
  refine⟨MP lt w.cs.length (xB y),EL hs ⟨z0,by omega⟩ h5,xB y,N2,P2,L2,_,_,y::A1,rfl,by omega,m2,f2,p2,fun z hz=>?_,e1.trans e2,rfl⟩
  unfold aH
  split
  ·rfl
  ·exact u1 z hz
theorem Ex(m:bW H B C w N P L tops){lt:Int→Int→Bool}(hs:bA lt){x g t:Int}{A:List Int}(f:dP (aG w) lt (cj N) ch par ax W)(hp:Kq (eJ L) ch par)(hg:aG w x=g)(RR:0<g)(dk:g<tops.length)(hr:ax g=t::A)(ht:bm tops g=t):
  af Tryz.prog pN [ptr B.n,i64 g,i64 x] H fun v H'=>aw (∃N' P' L' dO bG A',bW H' B C w N' P' L' tops∧dP (aG w) lt (cj N') dO bG (ay ax g (t::A')) W∧Kq (eJ L') dO bG∧bG x= -1∧(∀z,par z= -1→bG z= -1)∧
   ag (fun z=>z=B.nb∨z=B.pb∨z=B.tb) H H'):=by
 obtain⟨y0,y1,_⟩:=aF (w:=w) (x:=x) (by omega)
 obtain⟨tv,o1,_⟩:=m.own
 obtain⟨a0,a1,a2,a3,a4⟩:=m.rd ⟨y0,y1⟩
 obtain⟨uy,_,_⟩:=hp x
 have hl:=m.len
 rw[uy]at a1
 refine bv qd ?_
 refine v1 (ae o1) ?_
 refine⟨⟨by omega,by omega⟩,?_⟩
 refine v4 (ae m.places) aoi Nat.add_zero a1 ?_
 refine am.dec (fun h0=>?_) (fun h0=>?_)<;>refine vs ?_
 ·have e0:ay ax g (t::A)=ax:=by
   funext z
   unfold ay
   split
   ·rename_i e;rw[e,hr]
   ·rfl
  exact⟨N,P,L,ch,par,A,m,by rw[e0];exact f,hp,h0,fun _ h=>h,ag.refl _ _⟩
 have hxc:=f.pr.up x _ rfl h0
 obtain⟨_,_,h3,h4,h5⟩:=f.pr.dn _ _ hxc
 refine(Bw m hs f hp hxc hg dk hr ht).mono ?_
 rintro _ H2 ⟨N2,P2,L2,l,m2,f2,p2,vA,e2⟩
 refine vs ?_
 refine(C3 m2 hs (x:=par x) (A:=x::A) f2 p2 (by omega) RR dk (by unfold ay;rw[if_pos rfl]) ht).mono ?_
 rintro _ H3 ⟨N3,P3,L3,MJ,oZ,A3,m3,f3,p3,u3,e3⟩
 rw[eB]at f3
 refine vs ?_
 exact⟨N3,P3,L3,MJ,oZ,A3,m3,f3,p3,u3 x (by unfold aH;rw[if_pos rfl]),fun z hz=>u3 z (by unfold aH;split;rfl;exact hz),e2.trans e3⟩
end
end Go.Proofs.YtjlnnljohemifaaGreat

namespace Go.Proofs.YtjlnnljohemifaaGreat
open Go Go.Vc
theorem JM(a b:List Int):ws (a++b)=ws a++ws b:=by unfold ws;rw[aqh]
theorem R6{l:List Int}{d:Nat}{y v:Int}(h:l[d]? =some y):(ws [y]++ws (l.set d v)).Perm (ws [v]++ws l):=by
 have hd:=(aoj.1 h).1
 have e1:l=l.take d++y::l.drop (d+1):=by
  rw[aoh hd]at h
  injection h with h
  rw[←h,←apq hd,apF]
 have e2:l.set d v=l.take d++v::l.drop (d+1):=by
  rw[List.set_eq_take_append_cons_drop,if_pos hd]
 rw[e2]
 generalize ha:l.take d=a at*
 generalize hb:l.drop (d+1)=b at*
 rw[e1,JM,JM,mz v b,mz y b,apW]
 intro z
 simp only[aqb]
 omega
section
variable {H H' : Hp} {B : FB} {C V : Nat → Prop} {w : Nw} {N P : List Int} {L : List Pc} {tops : List Int} {ch : Int → List Int} {par : Int → Int} {ax : Int → List Int} {W : List Int}
structure P9(w:Nw)(g:Int)(nx:Int→Int)(GY ch:Int→List Int)(par:Int→Int)(ax:Int→List Int)(pF rest W0:List Int):Prop where
 f:dP (aG w) (aQ w) nx ch par ax (ws pF++(rest++W0))
 td:∀ (d:Nat) y,pF[d]? =some y→y≠ -1→(ch y).length=d∧aG w y=g
 rh:∀y∈rest,aG w y=g
 c0:∀z∈W0,ch z=GY z
 tl:pF.length≤w.cs.length+1
theorem HY(m:bW H B C w N P L tops){roots W0:List Int}{g:Int}{b o rc:Nat}{lb:List Value}(hb:H.own b=some lb)(eW:∀ (i:Nat) y,roots[i]? =some y→lb[o+i]? =some (i64 y))(Wo:¬B.S C b)(t0:P9 w g (cj N) ch ch par ax [] roots W0)(hp:Kq (eJ L) ch par)(Ws:roots.length≤65536):
  af Tryz.prog tf [ptr B.n,.slice (some ⟨b,o,none⟩) roots.length rc] H fun v H'=>aw (∃N' P' L' dO bG pF fq,bW H' B C w N' P' L' tops∧P9 w g (cj N') ch dO bG ax pF [] W0∧Kq (eJ L') dO bG∧
   Sl H' 1 v pF.length (pF.map i64) fq∧(∀z,fq=some z→H.size≤z)∧ag (fun z=>C z∨z=B.nb∨z=B.pb∨z=B.tb) H H'):=by
 have xt:=m.cells.Ef
 have Vq:=aB hb
 have hS:=m.slt
 have ls:=au w
 have hTb:∀ {z:Nat},(C z∨z=B.nb∨z=B.pb∨z=B.tb)→B.S C z:=fun h=>by
  rcases h with h|h|h|h
  ·exact .inl h
  ·exact .inr (.inr (.inr (.inl h)))
  ·exact .inr (.inr (.inr (.inr (.inl h))))
  ·exact .inr (.inr (.inr (.inr (.inr (.inl h)))))
 refine bv tD ?_
 refine vs ?_
 refine aX.intro (fun mm env H'=>∃ (i:Nat) (N' P':List Int) (L':List Pc) (dO:Int→List Int) (bG:Int→Int) (pF:List Int) (wv:Value) (fq:Option Nat),mm=roots.length - i∧i≤roots.length∧bW H' B C w N' P' L' tops∧P9 w g (cj N') ch dO bG ax pF (roots.drop i) W0∧Kq (eJ L') dO bG∧
   Sl H' 1 wv pF.length (pF.map i64) fq∧(∀z,fq=some z→H.size≤z)∧ag (fun z=>C z∨z=B.nb∨z=B.pb∨z=B.tb∨H.size≤z) H H'∧
   env=[(0,ptr B.n),(5,wv),(10,.slice (some ⟨b,o,none⟩) roots.length rc),(11,i64 roots.length),(12,i64 i)]) _ ⟨0,N,P,L,ch,par,[],_,none,rfl,by omega,m,t0,hp,Sl.nil _ _,(fun z h=>by cases h),ag.refl _ _,rfl⟩ ?_
 rintro mm env H1 ⟨i,N1,P1,L1,O1,xB,pF,wv,fq,rfl,hi,m1,t1,p1,s1,Ks,e1,rfl⟩
 refine vs ?_
 refine am.dec (fun gi=>?_) (fun gi=>?_)<;>refine vs ?_
 rotate_left
 ·obtain rfl:i=roots.length:=by omega
  rw[List.drop_length]at t1
  exact⟨N1,P1,L1,O1,xB,pF,fq,m1,t1,p1,s1,Ks,e1.mono fun z hz h=>by
   rcases h with h|h|h|h|h
   ·exact .inl h
   ·exact .inr (.inl h)
   ·exact .inr (.inr (.inl h))
   ·exact .inr (.inr (.inr h))
   ·omega⟩
 have my:i<roots.length:=by omega
 obtain⟨x,hx⟩:∃x,roots[i]? =some x:=⟨_,aoh my⟩
 have dr:roots.drop i=x::roots.drop (i+1):=by
  rw[apq my]
  congr 1
  rw[aoh my]at hx
  injection hx
 have ob:H1.own b=some lb:=e1.own hb (fun h=>by
  rcases h with h|h|h|h|h
  ·exact Wo (hTb (.inl h))
  ·exact Wo (hTb (.inr (.inl h)))
  ·exact Wo (hTb (.inr (.inr (.inl h))))
  ·exact Wo (hTb (.inr (.inr (.inr h))))
  ·omega)
 refine⟨⟨by omega,by omega⟩,?_⟩
 refine v4 (ae ob) aol Int.toNat_natCast (eW i x hx) ?_
 rw[dr]at t1
 have af6:x∈ws pF++(x::roots.drop (i+1)++W0):=by simp
 refine aX.intro (fun mm env H'=>∃ (x:Int) (N' P':List Int) (L':List Pc) (dO:Int→List Int) (bG:Int→Int) (pF:List Int) (wv:Value) (fq:Option Nat),mm=(ws pF).length∧bW H' B C w N' P' L' tops∧P9 w g (cj N') ch dO bG ax pF (x::roots.drop (i+1)) W0∧Kq (eJ L') dO bG∧
   Sl H' 1 wv pF.length (pF.map i64) fq∧(∀z,fq=some z→H.size≤z)∧ag (fun z=>C z∨z=B.nb∨z=B.pb∨z=B.tb∨H.size≤z) H H'∧
   env=[(0,ptr B.n),(5,wv),(7,i64 x),(10,.slice (some ⟨b,o,none⟩) roots.length rc),(11,i64 roots.length),(12,i64 i)]) _ ⟨x,N1,P1,L1,O1,xB,pF,wv,fq,rfl,m1,t1,p1,s1,Ks,e1,rfl⟩ ?_
 clear hx dr af6 m1 t1 p1 s1 Ks e1 ob
 rintro mm env H2 ⟨x,N2,P2,L2,lF,jr,pF,wv,fq,rfl,m2,t2,p2,s2,Ks,e2,rfl⟩
 have uN:=t2.f.R5 (x:=x) (by simp)
 have OS:=t2.rh x (by simp)
 have oJ:=m2.len
 obtain⟨tv,o2,_⟩:=m2.own
 obtain⟨a0,a1,a2,a3,a4⟩:=m2.rd uN
 rw[(p2 x).2.2]at a3
 have mF:(lF x).length≤w.cs.length:=bZ (t2.f.pr.nd x) fun c hc=>t2.f.GV hc
 refine v1 (ae o2) ?_
 refine⟨⟨by omega,by omega⟩,?_⟩
 refine v3 (ae m2.places) aoi a3 ?_
 refine aX.intro (fun mm env H'=>∃ (tb:List Int) (wv:Value) (fq:Option Nat),mm=(lF x).length+1 - tb.length∧ws tb=ws pF∧bW H' B C w N2 P2 L2 tops∧P9 w g (cj N2) ch lF jr ax tb (x::roots.drop (i+1)) W0∧
   Sl H' 1 wv tb.length (tb.map i64) fq∧(∀z,fq=some z→H.size≤z)∧ag (fun z=>C z∨z=B.nb∨z=B.pb∨z=B.tb∨H.size≤z) H H'∧
   env=[(0,ptr B.n),(5,wv),(7,i64 x),(8,i64 (lF x).length),(10,.slice (some ⟨b,o,none⟩) roots.length rc),(11,i64 roots.length),(12,i64 i)]) _ ⟨pF,wv,fq,rfl,rfl,m2,t2,s2,Ks,e2,rfl⟩ ?_
 have We:(ws pF).length≤w.cs.length:=by
  have h1:=bZ t2.f.wn fun c hc=>t2.f.R5 hc
  rw[aor]at h1
  omega
 clear t2 m2 s2 Ks e2 o2 a1 a2 a3 a4
 rintro mm env H3 ⟨tb,wv,fq,rfl,hws,m3,t3,s3,Ks,e3,rfl⟩
 have z3:=e3.size
 have MG:=t3.tl
 obtain⟨wa,wc,rfl⟩:=Sl.shape s3
 refine vs ?_
 refine am.dec (fun gd=>?_) (fun gd=>?_)<;>refine vs ?_
 ·refine yd (B:=H.size) Ks z3 s3 (-1) (by omega) fun w' H4 fq' R7 s4 e4=>?_
  refine vs ?_
  refine⟨(lF x).length+1 - (tb.length+1),by omega,tb++[-1],w',fq',by simp,by rw[JM,dZ,if_pos rfl,apa,hws],m3.ext e4 (fun z hz dL=>by have:=hS z hz;omega),⟨?_,fun d y hd hy=>?_,t3.rh,t3.c0,?_⟩,s4,R7,e3.trans (e4.mono fun z _ h=>.inr (.inr (.inr (.inr h)))),rfl⟩
  ·rw[JM,dZ,if_pos rfl,apa];exact t3.f
  ·rcases apK d tb.length with h|h|h
   ·rw[aox h]at hd;exact t3.td d y hd hy
   ·subst h
    rw[aoK (aov _),apw]at hd
    simp at hd
    exact absurd hd.symm hy
   ·rw[aoz (by simp;omega)]at hd;cases hd
  ·rw[aor,aoA];omega
 have iP:(lF x).length<tb.length:=by omega
 obtain⟨y,hy⟩:∃y,tb[(lF x).length]? =some y:=⟨_,aoh iP⟩
 obtain⟨_,qb,ql,rfl,q2,q3⟩:=Sl.zB s3 hy
 have hqb:fq=some qb:=by
  cases fq with
  |none=>have:=s3.2.2;injection this with h1;cases h1
  |some b'=>obtain⟨_,_,h1,_⟩:=s3.2;injection h1 with h1;injection h1 with h1;injection h1 with h1;rw[h1]
 subst hqb
 have hqs:=Ks qb rfl
 have akV:=aB q2
 have hql:=(aoj.1 q3).1
 have hMq:∀z,B.S C z→z≠qb:=fun z hz e=>by have:=hS z hz;omega
 refine⟨⟨by omega,by omega⟩,?_⟩
 refine v5 (ae q2) aoi aol Int.toNat_natCast q3 ?_
 refine am.dec (fun gy=>?_) (fun gy=>?_)<;>refine vs ?_
 ·refine⟨⟨by omega,by omega⟩,?_⟩
  refine v4 q2 aoi aol Int.toNat_natCast ?_
  refine⟨by omega,?_⟩
  have s4:=s3.uC q2 (lF x).length (i64 x)
  have e4:ag (fun z=>z=qb) H3 (H3.wr qb (ql.set (lF x).length (i64 x))):=(ag.refl (fun z=>z=qb) _).wr (fun _=>rfl) _
  refine vs ?_
  have vA:=R6 (v:=x) hy
  rw[dZ y,if_pos gy,dZ x,if_neg (t3.f.Y0 (c:=x) (by simp)),apk]at vA
  have m4:=m3.ext e4 (fun z hz dL=>hMq z hz dL)
  have s5:Sl (H3.wr qb (ql.set (lF x).length (i64 x))) 1 (.slice (some ⟨qb,0,none⟩) (tb.set (lF x).length x).length wc) (tb.set (lF x).length x).length ((tb.set (lF x).length x).map i64) (some qb):=by
   rw[aok,ao4];exact s4
  refine⟨roots.length - (i+1),by omega,i+1,N2,P2,L2,lF,jr,tb.set (lF x).length x,_,some qb,rfl,by omega,m4,⟨?_,fun d z hd hz=>?_,fun z hz=>t3.rh z (by simp[hz]),t3.c0,by rw[aok];exact t3.tl⟩,p2,s5,Ks,e3.trans (e4.mono fun z _ h=>.inr (.inr (.inr (.inr (by omega))))),?_⟩
  ·refine t3.f.perm ?_
   rw[apW]at vA ⊢
   intro z
   have:=vA z
   simp only[aqb,apt,ap8]at this ⊢
   simp only[List.count_nil]at this
   omega
  ·by_cases h:d=(lF x).length
   ·rw[h,aop iP]at hd
    injection hd with hd
    subst hd
    exact⟨h.symm,OS⟩
   ·rw[aoo (Ne.symm h)]at hd
    exact t3.td d z hd hz
  ·rw[wrap64 (by omega) (by omega),aok]
   rfl
 ·obtain⟨hyd,hyg⟩:=t3.td _ y hy gy
  have vA:=R6 (v:= -1) hy
  rw[dZ y,if_neg gy,dZ (-1),if_pos rfl,apk]at vA
  obtain⟨HZ,R9⟩:∃HZ,HZ=tb.set (lF x).length (-1):=⟨_,rfl⟩
  have f4:dP (aG w) (aQ w) (cj N2) lF jr ax (y::x::(ws HZ++(roots.drop (i+1)++W0))):=by
   refine t3.f.perm ?_
   rw[←R9]at vA
   rw[apW]at vA ⊢
   intro z
   have:=vA z
   simp only[aqb,apt,apk,ap8,List.count_nil]at this ⊢
   omega
  have aiq:(ws tb).length=(ws HZ).length+1:=by
   rw[←R9]at vA
   have:=vA.length_eq
   simp only[apt,apk,aoD]at this
   omega
  have htd:∀ (d:Nat) z,HZ[d]? =some z→z≠ -1→(lF z).length=d∧aG w z=g:=fun d z hd hz=>by
   rw[R9]at hd
   by_cases h:d=(lF x).length
   ·rw[h,aop iP]at hd
    injection hd with hd
    exact absurd hd.symm hz
   ·rw[aoo (Ne.symm h)]at hd
    exact t3.td d z hd hz
  refine⟨⟨by omega,by omega⟩,?_⟩
  refine v4 q2 aoi aol Int.toNat_natCast ?_
  refine⟨by omega,?_⟩
  have s4:=s3.uC q2 (lF x).length (i64 (-1))
  have e4:ag (fun z=>z=qb) H3 (H3.wr qb (ql.set (lF x).length (i64 (-1)))):=(ag.refl (fun z=>z=qb) _).wr (fun _=>rfl) _
  have s5:Sl (H3.wr qb (ql.set (lF x).length (i64 (-1)))) 1 (.slice (some ⟨qb,0,none⟩) HZ.length wc) HZ.length (HZ.map i64) (some qb):=by
   rw[R9,aok,ao4];exact s4
  have zJ:HZ.length=tb.length:=by rw[R9,aok]
  refine vs ?_
  have m4:=m3.ext e4 (fun z hz dL=>hMq z hz dL)
  generalize H3.wr qb (ql.set (lF x).length (Value.int .i64 (-1)))=H4 at*
  obtain⟨tv4,o4,_⟩:=m4.own
  refine v1 (ae o4) ?_
  refine(cF m4.cells y x).mono ?_
  rintro _ H5 ⟨rfl,c5,e5⟩
  have m5:=m4.aJ c5 e5 rfl
  have mN:y≠x:=fun e=>by have:=f4.wn;rw[e]at this;simp at this
  have Rh:0<aG w x:=(f4.wm x (by simp)).2.2
  rw[gS (w:=w) (a:=y) (b:=x) (by omega) Rh]
  have s6:=s5.ext e5 (fun z hz dL=>by injection hz with hz;exact hMq z (.inl dL) hz.symm)
  obtain⟨p,q,Oz,hl,f5,hpg⟩:∃p q,(if aQ w y x=true then(p=y∧q=x)else(p=x∧q=y))∧aQ w p q=true∧dP (aG w) (aQ w) (cj N2) lF jr ax (p::q::(ws HZ++(roots.drop (i+1)++W0)))∧aG w p=g∧aG w q=g:=by
   cases aO:aQ w y x
   ·exact⟨x,y,by simp,(ls.OD x y mN.symm).resolve_right (by rw[aO];simp),f4.perm (List.Perm.swap ..),OS,hyg⟩
   ·exact⟨y,x,by simp,aO,f4,hyg,OS⟩
  cases aO:aQ w y x<;>simp only[aO,if_true,if_false,api]at Oz<;>obtain⟨rfl,rfl⟩:=Oz<;>refine vs ?_
  all_goals
   refine(F9 m5 (x:=p) (y:=q) f5 p2 (by omega) hl).mono ?_
   rintro _ H6 ⟨N6,P6,L6,Zj,NE,m6,f6,p6,hc6,ho6,e6⟩
   have hn6:=f6.wn
   rw[aoB]at hn6
   have s7:=s6.ext e6 (fun z hz dL=>by injection hz with hz;exact hMq z (hTb (.inr dL)) hz.symm)
   refine vs ?_
   refine⟨(ws HZ).length,by rw[←hws];omega,p,N6,P6,L6,Zj,NE,HZ,_,some qb,rfl,m6,⟨?_,fun d z hd hz=>?_,fun z hz=>?_,fun z hz=>?_,by rw[zJ];exact t3.tl⟩,p6,s7,Ks,((e3.trans (e4.mono fun z _ h=>.inr (.inr (.inr (.inr (by omega)))))).trans (e5.mono fun z _ h=>.inl h)).trans (e6.mono fun z _ h=>by
    rcases h with h|h|h
    ·exact .inr (.inl h)
    ·exact .inr (.inr (.inl h))
    ·exact .inr (.inr (.inr (.inl h)))),by rw[zJ]⟩
   ·refine f6.perm ?_
    rw[apW]
    intro z
    simp only[aqb,apt,ap8]
    omega
   ·have hzp:z≠p:=fun e=>hn6.1 (by
     rw[←e]
     refine aoy _ ?_
     unfold ws
     exact ao9.2 ⟨aon hd,by simp[hz]⟩)
    rw[ho6 z hzp]
    exact htd d z hd hz
   ·rcases aot.1 hz with h|h
    ·rw[h];exact hpg.1
    ·exact t3.rh z (by simp[h])
   ·have hzp:z≠p:=fun e=>hn6.1 (by rw[←e];simp[hz])
    rw[ho6 z hzp]
    exact t3.c0 z hz
end
end Go.Proofs.YtjlnnljohemifaaGreat

namespace Go.Proofs.YtjlnnljohemifaaGreat
open Go Go.Vc
structure Xf(w:Nw)(N:List Int)(L:List Pc)(tops:List Int)(ch:Int→List Int)(par:Int→Int)(ax:Int→List Int):Prop where
 f:dP (aG w) (aQ w) (cj N) ch par ax []
 pc:Kq (eJ L) ch par
 tp:∀g,bm tops g=(ax g).headD (-1)
 ls:∀g y,0<g→aG w y=g→bm tops g≠ -1∧(y≠bm tops g→aQ w (bm tops g) y=true)
 tl:tops.length=w.hs.length
def iJ(n:Nat)(H:Hp)(S:Nat→Prop)(w:Nw):Prop:=∃ (B:FB) (C:Nat→Prop) (N P:List Int) (L:List Pc) (tops:List Int) (ch:Int→List Int) (par:Int→Int) (ax:Int→List Int),B.n=n∧bW H B C w N P L tops∧Xf w N L tops ch par ax∧∀z,S z↔B.S C z
theorem iJ.slt{n:Nat}{H:Hp}{S:Nat→Prop}{w:Nw}(h:iJ n H S w):∀z,S z→z<H.size:=by
 obtain⟨B,C,N,P,L,tops,ch,par,ax,rfl,m,l,hS⟩:=h
 exact fun z hz=>m.slt z ((hS z).1 hz)
theorem iJ.ext{n:Nat}{H H':Hp}{S V:Nat→Prop}{w:Nw}(h:iJ n H S w)(e:ag V H H')(hd:∀z,S z→¬V z):iJ n H' S w:=by
 obtain⟨B,C,N,P,L,tops,ch,par,ax,rfl,m,l,hS⟩:=h
 exact⟨B,C,N,P,L,tops,ch,par,ax,rfl,m.ext e (fun z hz=>hd z ((hS z).2 hz)),l,hS⟩
theorem Xf.first{w:Nw}{N:List Int}{L:List Pc}{tops:List Int}{ch:Int→List Int}{par:Int→Int}{ax:Int→List Int}(l:Xf w N L tops ch par ax){g x:Int}(h:w.first g x):bm tops g=x:=by
 obtain⟨h1,h2,h3⟩:=bM.1 h
 obtain⟨h4,h5⟩:=l.ls g x h1 h2
 apply aoI
 intro aP
 have h6:=h5 (Ne.symm aP)
 have ht:aG w (bm tops g)=g:=by
  have hm:bm tops g∈ax g:=by
   have:=l.tp g
   rw[this]at h4 ⊢
   exact eA h4
  exact(l.f.rm g _ hm).1
 have h7:=h3 _ ht aP
 rw[(au w).asym h6]at h7
 cases h7
theorem Bx{n:Nat}{H:Hp}{S:Nat→Prop}{w:Nw}(h:iJ n H S w)(g:Int):af Tryz.prog kL [ptr n,i64 g] H fun v H'=>aw (
  ((w.len g=0∧v= .tuple [i64 0,.bool false].toArray)∨∃x,w.first g x∧v= .tuple [i64 x,.bool true].toArray)∧H'=H):=by
 obtain⟨B,C,N,P,L,tops,ch,par,ax,rfl,m,l,hS⟩:=h
 obtain⟨cc,lt,ho,q2,vC,sC,OT⟩:=m.fT
 refine bv ur ?_
 refine v1 (ae ho) ?_
 refine(uI m.cells g).mono ?_
 rintro _ _ ⟨rfl,rfl⟩
 refine vs ?_
 refine am.dec (fun h0=>?_) (fun h0=>?_)
 ·refine vs ?_
  exact⟨.inl ⟨h0,rfl⟩,rfl⟩
 have hg:0<g:=aoI fun hg=>h0 (Nw.HP.2 (.inl (by omega)))
 obtain⟨x,hx⟩:=uH hg h0
 have hh:=(bM.1 hx).2.1
 have dk:=((m.cells.hm x).2 (by omega)).2
 rw[hh,←l.tl]at dk
 have q3:=m.eR q2 (dW (tops:=tops) (h:=g) (by omega) dk)
 rw[l.first hx]at q3
 refine v1 (ae ho) ?_
 refine⟨⟨by omega,by omega⟩,?_⟩
 refine v4 (ae q2) aoi aol q3 ?_
 exact⟨.inr ⟨x,hx,rfl⟩,rfl⟩
theorem Ey{n:Nat}{H:Hp}{S:Nat→Prop}{w:Nw}(h:iJ n H S w)(g x k s:Int):af Tryz.prog iy [ptr n,i64 g,i64 x,tL k s] H fun v H'=>aw (
  (¬w.lN g x∧v= .bool false∧cB (iJ n) S H H' w)∨(w.lN g x∧v= .bool true∧cB (iJ n) S H H' (w.put x (g,k,s)))):=by
 obtain⟨B,C,N,P,L,tops,ch,par,ax,rfl,m,l,hS⟩:=h
 have hC:∀z,C z→S z:=fun z h=>(hS z).2 (.inl h)
 refine bv qa ?_
 refine vs ?_
 have f0:ah H (H.new 224 [i64 k,u64 s]):=(ag.refl _ _).new _ _
 have b0:(H.new 224 [i64 k,u64 s]).own H.size=some [i64 k,u64 s]:=az _ _ _
 have m0:=m.fresh f0
 generalize H.new 224 [i64 k,u64 s]=H0 at*
 have ff:ag S H H0:=f0.mono fun _ _ h=>h.elim
 obtain⟨tv,HT,_⟩:=m0.own
 refine v2 (ae HT) (ae b0) ?_
 refine(kZ m0.cells g x k s).mono ?_
 rintro _ H1 (⟨bO,rfl,c1,e1⟩| ⟨qw,rfl,c1,e1⟩)
 ·refine vs ?_
  exact .inl ⟨bO,rfl,cB.same ⟨B,C,N,P,L,tops,ch,par,ax,rfl,m0.aJ c1 e1 rfl,l,hS⟩ (ff.trans (e1.mono fun z _ hz=>hC z hz))⟩
 obtain⟨hh,hx,bJ⟩:=id qw
 have m2:=m0.aJ c1 e1 (by simp[Nw.put])
 have hg:=hh.1
 have dk:g<tops.length:=by
  have:=(aoj.1 hh.2).1
  have:=l.tl
  omega
 have cN:=fun y=>dV hx (g,k,s) y
 have gf:aG w x≤0:=Int.not_lt.1 fun h=>bJ (bz.1 h)
 have el:∀a b,0<aG w a→0<aG w b→a≠x→b≠x→aQ (w.put x (g,k,s)) a b=aQ w a b:=fun a b ha hb tS mq=>dw hx _ ha hb tS mq
 have f2:dP (aG (w.put x (g,k,s))) (aQ (w.put x (g,k,s))) (cj N) ch par ax (x::[]):=l.f.put (g:=g) rfl gf (by omega) (by omega) (by rw[cN,if_pos rfl]) (fun y hy=>by rw[cN,if_neg hy]) el
 refine vs ?_
 refine(yp m2 f2 (by rw[cN,if_pos rfl]) dk (l.tp g)).mono ?_
 rintro _ H3 ⟨N3,P3,abb,ll,m3,RN,ht3,f3,Kl,JF,TD,hlT,e3⟩
 refine vs ?_
 have hhm:∀y,aG w y=g→y≠x:=fun y hy e=>by rw[e]at hy;omega
 have hTg:bm tops g≠ -1→aG w (bm tops g)=g:=fun h=>by
  have hm:bm tops g∈ax g:=by
   have:=l.tp g
   rw[this]at h ⊢
   exact eA h
  exact(l.f.rm g _ hm).1
 refine .inr ⟨qw,rfl,cB.same ⟨B,C,N3,P3,L,abb,ch,par,_,rfl,m3,⟨f3,l.pc,fun g2=>?_,fun g2 y C4 hy=>?_,by rw[RN];exact l.tl⟩,hS⟩ ((ff.trans (e1.mono fun z _ h=>hC z h)).trans (e3.mono fun z _ h=>by
  rcases h with h|h|h|h
  ·exact hC z h
  ·exact(hS z).2 (.inr (.inr (.inr (.inl h))))
  ·exact(hS z).2 (.inr (.inr (.inr (.inr (.inl h)))))
  ·exact(hS z).2 (.inr (.inr (.inr (.inr (.inr (.inr h))))))))⟩
 ·rw[ht3]
  unfold iS ay
  split
  ·rfl
  ·exact l.tp g2
 ·rw[ht3]
  unfold iS
  rw[cN]at hy
  by_cases h2:g2=g
  ·rw[if_pos h2]
   refine⟨JF,fun aP=>?_⟩
   by_cases mN:y=x
   ·rw[mN]at aP ⊢
    exact TD aP
   ·rw[if_neg mN]at hy
    obtain⟨h3,h4⟩:=l.ls g y (by omega) (by omega)
    have hTx:=hhm _ (hTg h3)
    rcases Kl with h5| ⟨h5,_⟩
    ·rw[h5]at aP hlT ⊢
     have h6:=hlT h3 hTx
     by_cases hyT:y=bm tops g
     ·rw[hyT];exact h6
     ·have h7:=h4 hyT
      rw[←el _ _ (by rw[hTg h3];omega) (by omega) hTx mN]at h7
      exact(au _).tr _ _ _ h6 h7
    ·rw[h5]at aP ⊢
     rw[el _ _ (by rw[hTg h3];omega) (by omega) hTx mN]
     exact h4 aP
  ·rw[if_neg h2]
   have mN:y≠x:=fun e=>by rw[if_pos e]at hy;exact h2 hy.symm
   rw[if_neg mN]at hy
   obtain⟨h3,h4⟩:=l.ls g2 y C4 hy
   refine⟨h3,fun aP=>?_⟩
   have hTx:bm tops g2≠x:=fun e=>by
    have hm:bm tops g2∈ax g2:=by
     have:=l.tp g2
     rw[this]at h3 ⊢
     exact eA h3
    have h5:=(l.f.rm g2 _ hm).1
    rw[e]at h5
    omega
   have hT2:aG w (bm tops g2)=g2:=by
    have hm:bm tops g2∈ax g2:=by
     have:=l.tp g2
     rw[this]at h3 ⊢
     exact eA h3
    exact(l.f.rm g2 _ hm).1
   rw[el _ _ (by omega) (by omega) hTx mN]
   exact h4 aP
theorem bW.bounds{H:Hp}{B:FB}{C:Nat→Prop}{w:Nw}{N P:List Int}{L:List Pc}{tops:List Int}(m:bW H B C w N P L tops):w.cs.length≤65536∧N.length=w.cs.length:=⟨m.cells.Ef,m.len.2⟩
theorem uT{w:Nw}:∀x,0<aG w x→0≤x∧x<w.cs.length:=fun x h=>by
 obtain⟨a,b,_⟩:=aF h
 exact⟨a,b⟩
theorem C5{n:Nat}{H:Hp}{S:Nat→Prop}{w:Nw}(h:iJ n H S w)(g:Int):af Tryz.prog gO [ptr n,i64 g] H fun v H'=>aw (
  (w.len g=0∧v= .tuple [i64 0,.bool false].toArray∧cB (iJ n) S H H' w)∨(∃x,w.first g x∧v= .tuple [i64 x,.bool true].toArray∧cB (iJ n) S H H' (w.put x (0,0,0)))):=by
 refine bv oO ?_
 refine vs ?_
 refine(Bx h g).mono ?_
 rintro _ H' ⟨⟨h0,rfl⟩| ⟨x,hx,rfl⟩,e⟩
 ·obtain rfl:=e.symm
  refine vs ?_
  exact .inl ⟨h0,rfl,cB.same h (ag.refl _ _)⟩
 obtain rfl:=e.symm
 refine vs ?_
 obtain⟨B,C,N,P,L,tops,ch,par,ax,rfl,m,l,hS⟩:=h
 obtain⟨hg,OS,mF⟩:=bM.1 hx
 have htx:=l.first hx
 have gf:=uT (w:=w) x (by omega)
 have ls:=au w
 obtain⟨A,hr⟩:∃A,ax g=x::A:=by
  have h1:=l.tp g
  rw[htx]at h1
  cases hc:ax g with
  |nil=>rw[hc]at h1;exact absurd h1 (by show¬x= -1;omega)
  |cons c r=>rw[hc]at h1;exact⟨r,by rw[show x=c from h1]⟩
 have dk:g<tops.length:=by
  have:=((m.cells.hm x).2 (by omega)).2
  have:=l.tl
  omega
 refine(Ga m l.f l.pc hr).mono ?_
 rintro _ H1 ⟨N1,P1,L1,A1,m1,f1,p1,e1⟩
 have Ia:ay ax g (x::A1) g=x::A1:=by unfold ay;rw[if_pos rfl]
 obtain⟨CR,o1,_⟩:=m1.own
 obtain⟨yb,hN1⟩:=m1.bounds
 have yz:=f1.rc g
 have gA:=f1.rn g
 rw[Ia]at yz gA
 have bJ:∀c∈x::A1,0≤c∧c<w.cs.length:=fun c hc=>f1.rin (g:=g) (by rw[Ia];exact hc)
 have Tr:∀c∈x::A1,aG w c=g:=fun c hc=>(f1.rm g c (by rw[Ia];exact hc)).1
 have aZ:=bZ gA bJ
 rw[aoD]at aZ
 refine v1 (ae o1) ?_
 refine(oY m1.ring yz gA (fun c hc=>by have:=bJ c hc;omega) (by omega)).mono ?_
 rintro rv H2 ⟨b2,s2,oR,f2⟩
 obtain⟨ra,rc,rfl⟩:=Sl.shape s2
 have m2:=m1.fresh f2
 have z2:=f2.size
 obtain⟨No,o2,_⟩:=m2.own
 have hS1:=m1.slt
 have af9:¬B.S C b2:=fun h=>by have:=hS1 _ h;omega
 obtain⟨_,l2,c2,eK,q2,GR,WN,PV⟩:=id s2
 injection eK with eK akY abe
 subst eK abe
 rw[aol]at WN PV
 have oQ:(x::A1).length=A1.length+1:=aoD
 refine vs ?_
 refine⟨⟨by omega,by omega,by omega,by omega⟩,?_⟩
 refine vs ?_
 obtain⟨o,eW,Rs⟩:∃o,(∀ (i:Nat) y,A1[i]? =some y→l2[o+i]? =some (i64 y))∧(Value.slice (if(rc:Int)=1 then some ⟨b2,0,none⟩else some ⟨b2,1,none⟩) A1.length (rc - 1))= .slice (some ⟨b2,o,none⟩) A1.length (rc - 1):=by
  rw[aoD]at GR PV
  by_cases h1:(rc:Int)=1
  ·refine⟨0,fun i y hy=>?_,by rw[if_pos h1]⟩
   have:=(aoj.1 hy).1
   omega
  ·refine⟨1,fun i y hy=>?_,by rw[if_neg h1]⟩
   have hi:=(aoj.1 hy).1
   have h7:((x::A1).map i64)[1+i]? =some (i64 y):=by rw[Nat.add_comm,ao6,apg,aoG,hy];rfl
   rw[←PV,aoV,if_pos (by omega)]at h7
   exact h7
 have hv8:∀ (Qa:Decidable ((rc:Int)=1)),Value.slice (@ite (Option Addr) ((rc:Int)=1) Qa (some (⟨b2,0,none⟩:Addr)) (Option.map (fun(x:Addr)=>x.add (Int.toNat 1*1)) (some (⟨b2,0,none⟩:Addr)))) (((A1.length+1:Nat):Int).toNat - Int.toNat 1) ((rc:Int).toNat - Int.toNat 1)=Value.slice (some ⟨b2,o,none⟩) A1.length (rc - 1):=fun Qa=>by
  rw[show((A1.length+1:Nat):Int).toNat - Int.toNat 1=A1.length by simp,show(rc:Int).toNat - Int.toNat 1=rc - 1 by simp,←Rs]
  by_cases h1:(rc:Int)=1
  ·rw[if_pos h1,if_pos h1]
  ·rw[if_neg h1,if_neg h1];rfl
 rw[hv8]
 generalize hR8:Value.slice (some ⟨b2,o,none⟩) A1.length (rc - 1)=R8 at*
 have VD:S B.nb:=(hS _).2 (.inr (.inr (.inr (.inl rfl))))
 have HZ:S B.pb:=(hS _).2 (.inr (.inr (.inr (.inr (.inl rfl)))))
 have tb3:S B.tb:=(hS _).2 (.inr (.inr (.inr (.inr (.inr (.inl rfl))))))
 have tb4:S B.tp:=(hS _).2 (.inr (.inr (.inr (.inr (.inr (.inr rfl))))))
 have hC:∀z,C z→S z:=fun z h=>(hS z).2 (.inl h)
 have pE:ag S H H2:=(e1.mono fun z _ h=>by
  rcases h with h|h|h
  ·exact h▸VD
  ·exact h▸HZ
  ·exact h▸tb3).trans (f2.mono fun _ _ h=>h.elim)
 refine v1 (ae o2) ?_
 refine(oY m2.ring yz gA (fun c hc=>by have:=bJ c hc;omega) (by omega)).mono ?_
 rintro rv H3 ⟨b3,s3,T1,f3⟩
 obtain⟨ka,kc,rfl⟩:=Sl.shape s3
 have m3:=m2.fresh f3
 have q3:=f3.own q2 (fun h=>h)
 have z3:=f3.size
 have Ek:ag S H H3:=pE.trans (f3.mono fun _ _ h=>h.elim)
 have ak1:¬B.S C b3:=fun h=>by have:=hS1 _ h;omega
 have Zk:∀z,S z→z<H1.size:=fun z hz=>hS1 z ((hS z).1 hz)
 refine vs ?_
 refine aX.intro (fun mm env H'=>∃ (i:Nat) (N' P':List Int),mm=(x::A1).length - i∧i≤(x::A1).length∧bW H' B C w N' P' L1 tops∧dP (aG w) (aQ w) (cj N') (ay ch x []) (fx ch par x) (ay ax g ((x::A1).drop i)) ((x::A1).take i).reverse∧
  Sl H' 1 (.slice ka (x::A1).length kc) (x::A1).length ((x::A1).map i64) (some b3)∧ag (fun z=>z=B.nb∨z=B.pb) H3 H'∧
  env=[(0,ptr B.n),(1,i64 g),(6,i64 x),(8,R8),(36,.slice ka (x::A1).length kc),(37,i64 (x::A1).length),(38,i64 i)]) _ ⟨0,N1,P1,rfl,by omega,m3,f1,s3,ag.refl _ _,rfl⟩ ?_
 rintro mm env H4 ⟨i,N4,P4,rfl,hi,m4,f4,s4,e4,rfl⟩
 obtain⟨tv4,o4,_⟩:=m4.own
 refine vs ?_
 refine am.dec (fun gi=>?_) (fun gi=>?_)<;>refine vs ?_
 ·have my:i< (x::A1).length:=by omega
  obtain⟨c,GZ⟩:∃c,(x::A1)[i]? =some c:=⟨_,aoh my⟩
  have Fv:=bJ c (aon GZ)
  obtain⟨_,kb,lb,rfl,qb,qc⟩:=Sl.zB s4 GZ
  have hkb:kb=b3:=by
   obtain⟨_,_,_,hh,_⟩:=s4
   injection hh with hh
   injection hh with hh
   injection hh with hh
  have dr:(x::A1).drop i=c::(x::A1).drop (i+1):=by
   rw[apq my]
   congr 1
   rw[aoh my]at GZ
   injection GZ
  have tk:(x::A1).take (i+1)=(x::A1).take i++[c]:=by rw[aoT,GZ];rfl
  have Ui:=m4.len
  refine⟨⟨by omega,by omega⟩,?_⟩
  refine v6 (ae qb) aoi aol Int.toNat_natCast qc (ae o4) ?_
  refine(nM m4.ring m4.inv (x:=c) (by omega)).mono ?_
  rintro _ H5 ⟨rfl,N5,P5,r5,l5,n5,i5,e5⟩
  have m5:=m4.uR r5 i5 e5 l5
  have f5:=f4.aD (x:=c) (g:=g) (A:=(x::A1).drop (i+1)) m4.inv (by unfold ay;rw[if_pos rfl];exact dr)
  rw[eB,←n5]at f5
  refine vs ?_
  refine⟨(x::A1).length - (i+1),by omega,i+1,N5,P5,rfl,by omega,m5,?_,s4.ext e5 (fun z hz h=>by
   injection hz with hz
   subst hz
   have h1:=Zk _ VD
   have h2:=Zk _ HZ
   omega),e4.trans e5,?_⟩
  ·rw[tk,List.reverse_append]
   exact f5
  ·rw[wrap64 (by omega) (by omega)]
   rfl
 obtain rfl:i=(x::A1).length:=by omega
 rw[List.drop_length,aoP]at f4
 have vI:ag S H H4:=Ek.trans (e4.mono fun z _ h=>by
  rcases h with h|h
  ·exact h▸VD
  ·exact h▸HZ)
 have z4:=e4.size
 have q4:=e4.own q3 (fun h=>by
  have h1:=Zk _ VD
  have h2:=Zk _ HZ
  omega)
 obtain⟨cc,lt4,o4',q5,vC,sC,OT⟩:=m4.fT
 refine v1 (ae o4') ?_
 refine⟨⟨by omega,by omega⟩,?_⟩
 refine v3 q5 aoi aol ?_
 refine⟨by omega,?_⟩
 obtain⟨m5,e5⟩:=m4.ld q5 g.toNat (-1)
 refine vs ?_
 have q6:=e5.own q4 (fun h=>by
  have h1:=Zk _ tb4
  omega)
 have Vz:=vI.trans (e5.mono fun z _ h=>h▸tb4)
 have z5:=e5.size
 generalize H4.wr B.tp (lt4.set g.toNat (Value.int .i64 (-1)))=H5 at*
 have t0:P9 w g (cj N4) (ay ch x []) (ay ch x []) (fx ch par x) (ay ax g []) [] A1 [x]:=by
  refine⟨f4.perm ?_,fun d y hd=>by simp at hd,fun y hy=>Tr y (by simp[hy]),fun _ _=>rfl,by simp⟩
  show List.Perm _ (A1++[x])
  exact(List.reverse_perm _).trans (apf (l₁:=[x]) (l₂:=A1))
 have agb:¬B.S C b2:=af9
 subst hR8
 refine(HY m5 q6 eW agb t0 p1 (by omega)).mono ?_
 rintro tv H6 ⟨N6,P6,L6,Zj,NE,pF,fq,m6,t6,p6,s6,Ks,e6⟩
 obtain⟨ta,tc,rfl⟩:=Sl.shape s6
 have MG:=t6.tl
 have LG:ag S H H6:=Vz.trans (e6.mono fun z _ h=>by
  rcases h with h|h|h|h
  ·exact hC z h
  ·exact h▸VD
  ·exact h▸HZ
  ·exact h▸tb3)
 refine vs ?_
 have hf6:=t6.f
 rw[apk]at hf6
 have Xg:bm (tops.set g.toNat (-1))=iS (bm tops) g (([]:List Int).headD (-1)):=eD (by omega) dk (-1)
 refine aX.intro (fun mm env H'=>∃ (i:Nat) (N' P' F8 l':List Int),mm=pF.length - i∧i≤pF.length∧bW H' B C w N' P' L6 F8∧F8.length=tops.length∧bm F8=iS (bm tops) g (l'.headD (-1))∧
  dP (aG w) (aQ w) (cj N') Zj NE (ay ax g l') (ws (pF.drop i)++[x])∧
  (∀c,aG w c=g→NE c= -1→c∉ws (pF.drop i)++[x]→l'.headD (-1)≠ -1∧(c≠l'.headD (-1)→aQ w (l'.headD (-1)) c=true))∧
  Sl H' 1 (.slice ta pF.length tc) pF.length (pF.map i64) fq∧ag S H6 H'∧
  env=[(0,ptr B.n),(1,i64 g),(6,i64 x),(57,.slice ta pF.length tc),(58,i64 pF.length),(59,i64 i)]) _ ⟨0,N6,P6,_,[],rfl,by omega,m6,by rw[aok],Xg,hf6,fun c h1 h2 h3=>?_,s6,ag.refl _ _,rfl⟩ ?_
 ·exfalso
  rcases hf6.jy c (by omega) h2 with h4|h4
  ·rw[h1]at h4
   unfold ay at h4
   rw[if_pos rfl]at h4
   cases h4
  ·exact h3 h4
 rintro mm env H7 ⟨i,N7,P7,LL,l7,rfl,hi7,m7,hl7,Zl,f7,d7,s7,e7,rfl⟩
 have ak3:pF.length≤65537:=by omega
 refine vs ?_
 refine am.dec (fun gi=>?_) (fun gi=>?_)<;>refine vs ?_
 ·have my:i<pF.length:=by omega
  obtain⟨r,hrr⟩:∃r,pF[i]? =some r:=⟨_,aoh my⟩
  obtain⟨_,kb,lb,rfl,qb,qc⟩:=Sl.zB s7 hrr
  have hkb:fq=some kb:=by
   cases fq with
   |none=>have:=s7.2.2;injection this with h1;cases h1
   |some b'=>obtain⟨_,_,h1,_⟩:=s7.2;injection h1 with h1;injection h1 with h1;injection h1 with h1;rw[h1]
  have ak4:=Ks kb hkb
  have dr:pF.drop i=r::pF.drop (i+1):=by
   rw[apq my]
   congr 1
   rw[aoh my]at hrr
   injection hrr
  refine⟨⟨by omega,by omega⟩,?_⟩
  refine v5 (ae qb) aoi aol Int.toNat_natCast qc ?_
  rw[dr,mz,dZ]at f7 d7
  refine am.dec (fun gr=>?_) (fun gr=>?_)<;>refine vs ?_
  rotate_left
  ·rw[if_neg gr]at f7 d7
   simp only[apt,apk]at f7 d7
   obtain⟨_,sV⟩:=t6.td i r hrr gr
   have Zm:bm LL g=l7.headD (-1):=by rw[Zl];unfold iS;rw[if_pos rfl]
   refine(yp m7 f7 sV (by omega) (by rw[Zm];unfold ay;rw[if_pos rfl])).mono ?_
   rintro _ H8 ⟨N8,P8,abg,l8,m8,hl8,ht8,f8,Kl,JF,TD,hlT,e8⟩
   rw[eB]at f8
   rw[Zm]at hlT
   have e8':ag S H7 H8:=e8.mono fun z _ h=>by
    rcases h with h|h|h|h
    ·exact hC z h
    ·exact h▸VD
    ·exact h▸HZ
    ·exact h▸tb4
   refine vs ?_
   refine⟨pF.length - (i+1),by omega,i+1,N8,P8,abg,l8,rfl,by omega,m8,by omega,?_,f8,fun c h1 h2 h3=>⟨JF,fun aP=>?_⟩,s7.ext e8' (fun z hz h=>by
    rw[hkb]at hz
    injection hz with hz
    subst hz
    have:=Zk _ h
    omega),e7.trans e8',?_⟩
   ·rw[ht8,Zl]
    funext z
    unfold iS
    split<;>rfl
   ·by_cases YY:c=r
    ·rw[YY]at aP ⊢
     exact TD aP
    ·obtain⟨h4,h5⟩:=d7 c h1 h2 (by
      simp only[aot,not_or]
      exact⟨YY,h3⟩)
     by_cases h6:l7.headD (-1)=l8.headD (-1)
     ·rw[←h6]at aP ⊢
      exact h5 aP
     ·have h7:=hlT h4 h6
      by_cases h8:c=l7.headD (-1)
      ·rw[h8];exact h7
      ·exact ls.tr _ _ _ h7 (h5 h8)
   ·rw[wrap64 (by omega) (by omega)]
    rfl
  ·rw[if_pos gr]at f7 d7
   rw[apk]at f7 d7
   refine⟨pF.length - (i+1),by omega,i+1,N7,P7,LL,l7,rfl,by omega,m7,hl7,Zl,f7,d7,s7,e7,?_⟩
   rw[wrap64 (by omega) (by omega)]
   rfl
 obtain rfl:i=pF.length:=by omega
 rw[List.drop_length]at f7 d7
 have hw0:ws ([]:List Int)++[x]=[x]:=rfl
 rw[hw0]at f7 d7
 obtain⟨tv7,o7,_⟩:=m7.own
 refine v1 (ae o7) ?_
 refine(ci m7.cells x).mono ?_
 have agd:cY w.cs x:=bz.1 (by omega)
 rintro _ H8 (⟨bO,_,_⟩| ⟨_,rfl,c8,e8⟩)
 ·exact absurd agd bO
 have m8:=m7.aJ c8 e8 (by simp[Nw.put])
 refine vs ?_
 have cN:=fun y=>dV (w:=w) gf (0,0,0) y
 have w0:aG (w.put x (0,0,0)) (-1)=0:=rfl
 have w1:aG (w.put x (0,0,0)) x=0:=by rw[cN,if_pos rfl]
 have w2:∀y,y≠x→aG (w.put x (0,0,0)) y=aG w y:=fun y hy=>by rw[cN,if_neg hy]
 have el:∀a b,0<aG w a→0<aG w b→a≠x→b≠x→aQ (w.put x (0,0,0)) a b=aQ w a b:=fun a b ha hb tS mq=>dw gf _ ha hb tS mq
 have f8:=f7.drop (hm':=aG (w.put x (0,0,0))) (lt':=aQ (w.put x (0,0,0))) (by
  rw[t6.c0 x (by simp)]
  unfold ay
  rw[if_pos rfl]) w0 w1 w2 el
 have hrm:∀g2 c,c∈ay ax g l7 g2→aG w c=g2∧c≠x:=fun g2 c hc=>by
  obtain⟨h1,_,_,h4⟩:=f7.rm g2 c hc
  exact⟨h1,fun e=>h4 (by simp[e])⟩
 refine .inr ⟨x,hx,rfl,cB.same ⟨B,C,N7,P7,L6,LL,Zj,NE,_,rfl,m8,⟨f8,p6,fun g2=>?_,fun g2 y C4 hy=>?_,by rw[hl7];exact l.tl⟩,hS⟩ ((LG.trans e7).trans (e8.mono fun z _ h=>hC z h))⟩
 ·rw[Zl]
  unfold iS ay
  split
  ·rfl
  ·exact l.tp g2
 ·by_cases h2:g2=g
  ·have Zm:bm LL g2=l7.headD (-1):=by rw[Zl,h2];unfold iS;rw[if_pos rfl]
   rw[Zm]
   refine f8.pr.lead (au _) (fun z hz=>uT z hz) C4 (fun c hc Vi=>?_) hy
   have fu:c≠x:=fun e=>by rw[e,w1]at hc;omega
   rw[w2 c fu]at hc
   obtain⟨h3,h4⟩:=d7 c (by omega) Vi (by simp[fu])
   refine⟨h3,fun aP=>?_⟩
   obtain⟨h5,h6⟩:=hrm g _ (show l7.headD (-1)∈ay ax g l7 g by unfold ay;rw[if_pos rfl];exact eA h3)
   rw[el _ _ (by omega) (by omega) h6 fu]
   exact h4 aP
  ·have Zm:bm LL g2=bm tops g2:=by rw[Zl];unfold iS;rw[if_neg h2]
   rw[Zm]
   have mN:y≠x:=fun e=>by rw[e,w1]at hy;omega
   rw[w2 y mN]at hy
   obtain⟨h3,h4⟩:=l.ls g2 y C4 hy
   refine⟨h3,fun aP=>?_⟩
   have h5:aG w (bm tops g2)=g2:=by
    have hm:bm tops g2∈ax g2:=by
     have:=l.tp g2
     rw[this]at h3 ⊢
     exact eA h3
    exact(l.f.rm g2 _ hm).1
   rw[el _ _ (by omega) (by omega) (fun e=>by rw[e]at h5;omega) mN]
   exact h4 aP
theorem Ib{n:Nat}{H:Hp}{S:Nat→Prop}{w:Nw}(h:iJ n H S w):af Tryz.prog jF [ptr n] H fun v H'=>aw (
  (w.hs.length=65537∧v=i64 0∧cB (iJ n) S H H' w)∨(w.hs.length≠65537∧v=i64 w.hs.length∧cB (iJ n) S H H' w.make)):=by
 obtain⟨B,C,N,P,L,tops,ch,par,ax,rfl,m,l,hS⟩:=id h
 obtain⟨tv,ho,z7⟩:=m.own
 refine bv tC ?_
 refine v1 (ae ho) ?_
 refine(jo m.cells).mono ?_
 rintro _ H1 (⟨h1,rfl,rfl⟩| ⟨h1,rfl,C',c1,e1,zF⟩)
 ·refine vs ?_
  exact .inl ⟨h1,rfl,cB.same h (ag.refl _ _)⟩
 have gh:=m.cells.pos
 have hhs:=m.cells.z7
 have MG:=l.tl
 have slt:=m.slt
 have LF:=c1.slt
 obtain⟨n1,n2,n3,n4,n5,n6⟩:=m.out
 obtain⟨⟨d1,d2,d3,d4,d5⟩,⟨d6,d7,d8,d9⟩,⟨d10,d11,d12⟩⟩:=m.ml
 have o1:=e1.own ho n1
 refine vs ?_
 refine am.cQ (aow (by omega)) ?_
 refine v1 (ae o1) ?_
 have s1:=z7.ext e1 (fun b hb=>by injection hb with hb;exact hb▸n6)
 refine Ru s1 (-1) (by omega) fun w' H2 b' jY s2 e2=>?_
 have o2:=e2.own o1 d5
 obtain⟨wa,wc,OU⟩:=Sl.shape s2
 subst OU
 refine v1 o2 ?_
 generalize OU:Value.slice wa (tops++[-1]).length wc=w' at*
 have e3:ag (fun z=>z=B.n) H2 (H2.wr B.n [ptr B.c,ptr B.r,.slice (some ⟨B.tb,0,none⟩) L.length L.length,w']):=(ag.refl (fun z=>z=B.n) _).wr (fun _=>rfl) _
 have z1:=e1.size
 have q1:=slt _ (.inr (.inl rfl))
 have q2:=slt _ (.inr (.inr (.inl rfl)))
 have q3:=slt _ (.inr (.inr (.inr (.inl rfl))))
 have q4:=slt _ (.inr (.inr (.inr (.inr (.inl rfl)))))
 have q5:=slt _ (.inr (.inr (.inr (.inr (.inr (.inl rfl))))))
 have q6:=slt _ (.inr (.inr (.inr (.inr (.inr (.inr rfl))))))
 have FU:∀z,C' z→z≠b'∧(z<H.size→C z):=fun z hz=>by
  have h5:=LF z hz
  rcases zF z hz with h6|h6
  ·refine⟨fun e=>?_,fun _=>h6⟩
   rcases jY with h7|h7
   ·exact n6 (by rw[←h7,←e];exact h6)
   ·omega
  ·exact⟨by omega,fun h=>by omega⟩
 refine .inr ⟨h1,rfl,(FB.mk B.n B.c B.r B.nb B.pb B.tb b').S C',⟨⟨B.n,B.c,B.r,B.nb,B.pb,B.tb,b'⟩,C',N,P,L,tops++[-1],ch,par,ax,rfl,⟨⟨w',ai o2,s2.ext e3 (fun b hb=>by injection hb with hb;omega)⟩,?_,?_,m.inv,?_,m.len,?_,?_⟩,⟨l.f,l.pc,fun g=>by rw[Bh];exact l.tp g,fun g y hg hy=>by rw[Bh];exact l.ls g y hg hy,?_⟩,fun z=>Iff.rfl⟩,?_,fun z hz=>?_⟩
 ·exact(c1.ext e2 (fun x hx e=>by
   rcases zF x hx with h6|h6
   ·exact n6 (e▸h6)
   ·omega)).ext e3 (fun x hx e=>by
   rcases zF x hx with h6|h6
   ·exact n1 (e▸h6)
   ·omega)
 ·exact((m.ring.ext e1 n2 n3 n4).ext e2 (Ne.symm d10) (Ne.symm d11) (Ne.symm d12)).ext e3 (Ne.symm d1) (Ne.symm d2) (Ne.symm d3)
 ·exact e3.own (e2.own (e1.own m.places n5) d9) (Ne.symm d4)
 ·refine⟨⟨d1,d2,d3,d4,?_⟩,⟨d6,d7,d8,?_⟩,⟨?_,?_,?_⟩⟩<;>simp only<;>omega
 ·exact⟨fun h=>n1 ((FU _ h).2 q1),fun h=>n2 ((FU _ h).2 q2),fun h=>n3 ((FU _ h).2 q3),fun h=>n4 ((FU _ h).2 q4),fun h=>n5 ((FU _ h).2 q5),fun h=>(FU _ h).1 rfl⟩
 ·simp[Nw.make,MG]
 ·exact((e1.mono fun z _ h=>(hS z).2 (.inl h)).trans (e2.mono fun z _ h=>(hS z).2 (.inr (.inr (.inr (.inr (.inr (.inr h)))))))).trans (e3.mono fun z _ h=>(hS z).2 (.inr (.inl h)))
 ·rcases hz with hz|hz|hz|hz|hz|hz|hz
  ·rcases zF z hz with h6|h6
   ·exact .inl ((hS z).2 (.inl h6))
   ·exact .inr h6
  ·exact .inl ((hS _).2 (.inr (.inl hz)))
  ·exact .inl ((hS _).2 (.inr (.inr (.inl hz))))
  ·exact .inl ((hS _).2 (.inr (.inr (.inr (.inl hz)))))
  ·exact .inl ((hS _).2 (.inr (.inr (.inr (.inr (.inl hz))))))
  ·exact .inl ((hS _).2 (.inr (.inr (.inr (.inr (.inr (.inl hz)))))))
  ·rcases jY with h7|h7
   ·exact .inl ((hS _).2 (.inr (.inr (.inr (.inr (.inr (.inr (hz.trans h7))))))))
   ·exact .inr (by have hz:z=b':=hz;omega)
def tT(n i:Nat):List Int:=(List.range i).map (fun(k:Nat)=>(k:Int))++List.replicate (n - i) 0
theorem vJ{n i:Nat}(h:i≤n):(tT n i).length=n:=by unfold tT;simp;omega
theorem Uj{n i:Nat}(h:i<n):(tT n i).set i (i:Int)=tT n (i+1):=by
 unfold tT
 rw[aqj _ _ (by simp),aoF,List.length_range,apw,show n - i=(n - (i+1))+1 by omega,aoY,apH,aqp,aoN]
 simp
theorem Gb(n:Nat)(x:Int):cj (tT n n) x=x:=by
 unfold cj
 split
 ·rename_i h
  rw[vJ (aov _)]at h
  unfold tT
  rw[apw,aqo,apa,aom,aoG,List.getElem?_range (by omega)]
  simp
  omega
 ·rfl
theorem Ic(H:Hp){n:Int}(hn:0≤n∧n≤65536):af Tryz.prog MW [i64 n] H fun v H'=>aw (∃r nb pb N P,v= .tuple [ptr r,i64 0].toArray∧fW H' r nb pb N P∧N.length=n.toNat∧(∀x,cj N x=x)∧Af (cj N) (cj P)∧ah H H'∧H.size≤r∧H.size≤nb∧H.size≤pb):=by
 refine bv M1 ?_
 refine vs ?_
 refine am.dec (fun g=>absurd g (by omega)) (fun _=>?_)
 refine vs ?_
 refine am.dec (fun g=>absurd g (by omega)) (fun _=>?_)
 refine vs ?_
 have hz:(List.replicate n.toNat (0:Int))=tT n.toNat 0:=by unfold tT;simp
 refine jB.intro (fun H'=>True) trivial ?_
 refine vs ?_
 refine EN.intro ?A ?B
 case' A=>
  refine vs ?_
  refine⟨⟨by omega,by omega,by omega,by omega⟩,?_⟩
  refine vs ?_
  refine⟨⟨by omega,by omega,by omega,by omega⟩,?_⟩
  refine vs ?_
  rw[Bn,hz]
  obtain⟨nb,DR⟩:∃nb,nb=H.size:=⟨_,rfl⟩
  obtain⟨pb,PQ⟩:∃pb,pb=H.size+1:=⟨_,rfl⟩
  have f0:ah H (((H.new 3 ((tT n.toNat 0).map i64)).new 3 ((tT n.toNat 0).map i64)).new 317 [.slice (some ⟨H.size,0,none⟩) n.toNat n.toNat,.slice (some ⟨H.size+1,0,none⟩) n.toNat n.toNat]):=(((ag.refl _ _).new _ _).new _ _).new _ _
  have h0:fW (((H.new 3 ((tT n.toNat 0).map i64)).new 3 ((tT n.toNat 0).map i64)).new 317 [.slice (some ⟨H.size,0,none⟩) n.toNat n.toNat,.slice (some ⟨H.size+1,0,none⟩) n.toNat n.toNat]) (H.size+1+1) nb pb (tT n.toNat 0) (tT n.toNat 0):=by
   subst DR PQ
   refine⟨?_,?_,?_,rfl,by omega,by omega,by omega⟩
   ·rw[vJ (ap2 _)];exact aU (by simp only[ap])
   ·rw[cu (by simp only[ap];omega),cu (by simp only[ap];omega),az]
   ·rw[cu (by simp only[ap];omega)];exact aU (by simp only[ap])
  generalize ((H.new 3 ((tT n.toNat 0).map i64)).new 3 ((tT n.toNat 0).map i64)).new 317 [.slice (some ⟨H.size,0,none⟩) n.toNat n.toNat,.slice (some ⟨H.size+1,0,none⟩) n.toNat n.toNat]=H0 at*
  have WT:H.size≤nb∧H.size≤pb:=⟨by omega,by omega⟩
 case' B=>
  refine vs ?_
  refine⟨⟨by omega,by omega,by omega,by omega⟩,?_⟩
  refine vs ?_
  refine⟨⟨by omega,by omega,by omega,by omega⟩,?_⟩
  refine vs ?_
  rw[Bn,hz]
  obtain⟨nb,DR⟩:∃nb,nb=H.size+1:=⟨_,rfl⟩
  obtain⟨pb,PQ⟩:∃pb,pb=H.size:=⟨_,rfl⟩
  have f0:ah H (((H.new 3 ((tT n.toNat 0).map i64)).new 3 ((tT n.toNat 0).map i64)).new 317 [.slice (some ⟨H.size+1,0,none⟩) n.toNat n.toNat,.slice (some ⟨H.size,0,none⟩) n.toNat n.toNat]):=(((ag.refl _ _).new _ _).new _ _).new _ _
  have h0:fW (((H.new 3 ((tT n.toNat 0).map i64)).new 3 ((tT n.toNat 0).map i64)).new 317 [.slice (some ⟨H.size+1,0,none⟩) n.toNat n.toNat,.slice (some ⟨H.size,0,none⟩) n.toNat n.toNat]) (H.size+1+1) nb pb (tT n.toNat 0) (tT n.toNat 0):=by
   subst DR PQ
   refine⟨?_,?_,?_,rfl,by omega,by omega,by omega⟩
   ·rw[vJ (ap2 _)];exact aU (by simp only[ap])
   ·rw[cu (by simp only[ap];omega)];exact aU (by simp only[ap])
   ·rw[cu (by simp only[ap];omega),cu (by simp only[ap];omega),az]
  generalize ((H.new 3 ((tT n.toNat 0).map i64)).new 3 ((tT n.toNat 0).map i64)).new 317 [.slice (some ⟨H.size+1,0,none⟩) n.toNat n.toNat,.slice (some ⟨H.size,0,none⟩) n.toNat n.toNat]=H0 at*
  have WT:H.size≤nb∧H.size≤pb:=⟨by omega,by omega⟩
 all_goals
  refine aX.intro (fun m env H'=>∃j:Nat,m=n.toNat - j∧j≤n.toNat∧ag (fun z=>z=nb∨z=pb) H0 H'∧fW H' (H.size+1+1) nb pb (tT n.toNat j) (tT n.toNat j)∧
   env=[(4,ptr (H.size+1+1)),(18,i64 n),(19,i64 j)]) n.toNat ⟨0,by omega,by omega,ag.refl _ _,h0,rfl⟩ ?_
  rintro m env H1 ⟨j,rfl,hj,e1,h1,rfl⟩
  have sG:=vJ hj
  obtain⟨d1,d2,d3⟩:=h1.ne
  refine vs ?_
  refine am.dec (fun aO=>?_) (fun aO=>?_)<;>refine vs ?_
  ·refine v1 (ae h1.own) ?_
   refine⟨⟨by omega,by omega⟩,?_⟩
   refine v4 h1.OZ aoi aol Int.toNat_natCast ?_
   refine⟨by rw[aoF];omega,?_⟩
   refine vs ?_
   have e2:ag (fun z=>z=nb) H1 (H1.wr nb (((tT n.toNat j).map i64).set j (i64 j))):=(ag.refl (fun z=>z=nb) _).wr (fun _=>rfl) _
   have q2:(H1.wr nb (((tT n.toNat j).map i64).set j (i64 j))).own nb=some (((tT n.toNat j).map i64).set j (i64 j)):=ai h1.OZ
   generalize H1.wr nb (((tT n.toNat j).map i64).set j (i64 j))=H2 at*
   have p2:=e2.own h1.VC (Ne.symm d3)
   refine⟨⟨by omega,by omega⟩,?_⟩
   refine v5 p2 h1.VC aoi aol Int.toNat_natCast ?_
   refine⟨by rw[aoF];omega,?_⟩
   refine vs ?_
   have e3:ag (fun z=>z=pb) H2 (H2.wr pb (((tT n.toNat j).map i64).set j (i64 j))):=(ag.refl (fun z=>z=pb) _).wr (fun _=>rfl) _
   have q3:(H2.wr pb (((tT n.toNat j).map i64).set j (i64 j))).own pb=some (((tT n.toNat j).map i64).set j (i64 j)):=ai p2
   have Lu:((tT n.toNat j).map i64).set j (i64 j)=(tT n.toNat (j+1)).map i64:=by rw[←Uj (by omega),ao4]
   rw[wrap64 (n:=(j:Int)+1) (by omega) (by omega)]
   refine⟨n.toNat - (j+1),by omega,j+1,rfl,by omega,(e1.trans (e2.mono fun z _ h=>.inl h)).trans (e3.mono fun z _ h=>.inr h),⟨?_,?_,?_,rfl,h1.ne⟩,rfl⟩
   ·have ho:=e3.own (e2.own h1.own d1) d2
    rw[sG]at ho
    rw[vJ (by omega)]
    exact ho
   ·rw[←Lu];exact e3.own q2 d3
   ·rw[←Lu];exact q3
  ·obtain rfl:j=n.toNat:=by omega
   exact⟨_,nb,pb,_,_,rfl,h1,vJ (aov _),Gb _,⟨fun x=>by rw[Gb,Gb],fun x=>by rw[Gb,Gb]⟩,f0.then e1 (fun z hz=>by rcases hz with h|h<;>omega),by omega,WT.1,WT.2⟩
theorem By{n:Nat}{H:Hp}{S:Nat→Prop}{w:Nw}(h:iJ n H S w)(x k s:Int):af Tryz.prog gB [ptr n,i64 x,tL k s] H fun v H'=>aw (
  (¬w.db x k s∧v= .bool false∧cB (iJ n) S H H' w)∨(w.db x k s∧v= .bool true∧∃y,w.cs[x.toNat]? =some y∧cB (iJ n) S H H' (w.put x (y.1,k,s)))):=by
 obtain⟨B,C,N,P,L,tops,ch,par,ax,rfl,m,l,hS⟩:=h
 have hC:∀z,C z→S z:=fun z h=>(hS z).2 (.inl h)
 have VD:S B.nb:=(hS _).2 (.inr (.inr (.inr (.inl rfl))))
 have HZ:S B.pb:=(hS _).2 (.inr (.inr (.inr (.inr (.inl rfl)))))
 have tb3:S B.tb:=(hS _).2 (.inr (.inr (.inr (.inr (.inr (.inl rfl))))))
 have tb4:S B.tp:=(hS _).2 (.inr (.inr (.inr (.inr (.inr (.inr rfl))))))
 refine bv nY ?_
 refine vs ?_
 have f0:ah H (H.new 224 [i64 k,u64 s]):=(ag.refl _ _).new _ _
 have b0:(H.new 224 [i64 k,u64 s]).own H.size=some [i64 k,u64 s]:=az _ _ _
 have m0:=m.fresh f0
 generalize H.new 224 [i64 k,u64 s]=H0 at*
 have ff:ag S H H0:=f0.mono fun _ _ h=>h.elim
 obtain⟨tv,HT,_⟩:=m0.own
 refine v2 (ae HT) (ae b0) ?_
 refine(gR m0.cells x k s).mono ?_
 rintro _ H1 (⟨bO,rfl,c1,e1⟩| ⟨bJ,rfl,y,hy,fB,c1,e1⟩)
 ·refine vs ?_
  exact .inl ⟨bO,rfl,cB.same ⟨B,C,N,P,L,tops,ch,par,ax,rfl,m0.ext e1 (fun _ _ h=>h),l,hS⟩ (ff.trans (e1.mono fun _ _ h=>h.elim))⟩
 have mF:(w.put x (y.1,k,s)).cs.length=w.cs.length:=by simp[Nw.put]
 have m1:=m0.aJ c1 e1 mF
 have Bp:w.db x k s:=⟨bJ,fun z hz=>by rw[hy]at hz;injection hz with hz;rw[←hz];exact fB⟩
 have hx:0≤x∧x<w.cs.length:=⟨bJ.1,by have:=(aoj.1 hy).1;have:=bJ.1;omega⟩
 have OO:aG w x=y.1:=j7 bJ.1 hy
 have dH:=bz.2 bJ
 have hw:aG (w.put x (y.1,k,s))=aG w:=by
  funext z
  rw[dV hx]
  split
  ·rename_i e;rw[e,OO]
  ·rfl
 have Eu:cY (w.put x (y.1,k,s)).cs x:=bz.1 (by rw[hw];exact dH)
 have el:∀a b,0<aG w a→0<aG w b→a≠x→b≠x→aQ (w.put x (y.1,k,s)) a b=aQ w a b:=fun a b ha hb tS mq=>dw hx _ ha hb tS mq
 have ex:∀b,0<aG w b→b≠x→aQ w x b=true→aQ (w.put x (y.1,k,s)) x b=true:=fun b hb mq h=>Bg bJ hy fB hb mq h
 have ls:=au w
 have Ts:=au (w.put x (y.1,k,s))
 obtain⟨g,hg⟩:∃g,g=aG w x:=⟨_,rfl⟩
 have dk:g<tops.length:=by
  have:=((m.cells.hm x).2 dH).2
  have:=l.tl
  omega
 have C6:∀z,aG w z=g→bm tops g≠ -1∧(z≠bm tops g→aQ w (bm tops g) z=true):=fun z hz=>l.ls g z (by omega) hz
 obtain⟨Gc,GW⟩:=C6 x hg.symm
 obtain⟨T,hT⟩:∃T,T=bm tops g:=⟨_,rfl⟩
 rw[←hT]at Gc GW C6
 have Xh:=dH
 have hhl:(w.put x (y.1,k,s)).hs.length=w.hs.length:=by simp[Nw.put]
 obtain⟨A,hr⟩:∃A,ax g=T::A:=by
  have h1:=l.tp g
  rw[←hT]at h1
  cases hc:ax g with
  |nil=>rw[hc]at h1;exact absurd h1 Gc
  |cons c r=>rw[hc]at h1;exact⟨r,by rw[show T=c from h1]⟩
 have hTg:=(l.f.rm g T (by rw[hr];simp)).1
 have hTp:=(l.f.rm g T (by rw[hr];simp)).2.1
 have hT0:0<aG w T:=by omega
 generalize OU:w.put x (y.1,k,s)=w' at*
 obtain⟨CR,o1,_⟩:=m1.own
 refine v1 (ae o1) ?_
 refine(di m1.cells x).mono ?_
 rintro _ H2 (⟨bO,_,_⟩| ⟨_,rfl,c2,e2⟩)
 ·exact absurd Eu bO
 have m2:=m1.aJ c2 e2 rfl
 have pE:ag S H H2:=(ff.trans (e1.mono fun z _ h=>hC z h)).trans (e2.mono fun z _ h=>hC z h)
 rw[hw,←hg]
 obtain⟨No,o2,_⟩:=m2.own
 have oJ:=m2.len
 have xu:0≤x∧x<w'.cs.length:=by rw[mF];exact hx
 obtain⟨a0,a1,a2,a3,a4⟩:=m2.rd xu
 obtain⟨ux,_,_⟩:=l.pc x
 rw[ux]at a1
 refine v1 (ae o2) ?_
 refine⟨⟨by omega,by omega⟩,?_⟩
 refine v4 (ae m2.places) aoi Nat.add_zero a1 ?_
 have e0:ay ax g (T::A)=ax:=by
  funext z
  unfold ay
  split
  ·rename_i e;rw[e,hr]
  ·rfl
 have OL:(par x= -1∨aQ w' (par x) x=true)→dP (aG w') (aQ w') (cj N) ch par (ay ax g (T::A)) []:=fun Kl=>by
  rw[e0,hw]
  refine l.f.other fun z c hc h1 h2 h3=>?_
  by_cases hz:z=x
  ·rw[hz]at h3 hc ⊢
   exact ex c h2 (fun e=>by rw[e,ls.vy]at h3;cases h3) h3
  ·by_cases fu:c=x
   ·rw[fu]at hc ⊢
    obtain⟨d1,d2,_⟩:=l.f.pr.dn z x hc
    rcases Kl with h|h
    ·rw[h]at d1;exact absurd d1.symm d2
    ·rw[←d1];exact h
   ·rw[el _ _ (by omega) h2 hz fu];exact h3
 refine am.dec (fun h0=>?A) (fun h0=>?B)
 case' A=>
  refine vs ?_
  obtain⟨H3,eH⟩:∃H3,H3=H2:=⟨_,rfl⟩
  rw[←eH]at m2 pE ⊢
  obtain⟨N3,P3,L3,MJ,oZ,A3,m3,f3,p3,e3⟩:∃N' P' L' dO bG A',bW H3 B C w' N' P' L' tops∧dP (aG w') (aQ w') (cj N') dO bG (ay ax g (T::A')) []∧Kq (eJ L') dO bG∧ag S H H3:=⟨N,P,L,ch,par,A,m2,OL (.inl h0),l.pc,pE⟩
 case' B=>
  have hpc:=l.f.pr.up x _ rfl h0
  obtain⟨_,_,hph,B0,qK⟩:=l.f.pr.dn _ _ hpc
  have dH:par x≠x:=fun e=>by rw[e,ls.vy]at qK;cases qK
  refine v1 (ae o2) ?_
  refine(cF m2.cells x (par x)).mono ?_
  rintro _ H4 ⟨rfl,c4,e4⟩
  have m4:=m2.aJ c4 e4 rfl
  have vI:=pE.trans (e4.mono fun z _ h=>hC z h)
  rw[gS (w:=w') (a:=x) (b:=par x) (by rw[hw];exact Xh) (by rw[hw];omega)]
  cases aO:aQ w' x (par x)
  case' false=>
   refine vs ?_
   obtain⟨H3,eH⟩:∃H3,H3=H4:=⟨_,rfl⟩
   rw[←eH]at m4 vI ⊢
   obtain⟨N3,P3,L3,MJ,oZ,A3,m3,f3,p3,e3⟩:∃N' P' L' dO bG A',bW H3 B C w' N' P' L' tops∧dP (aG w') (aQ w') (cj N') dO bG (ay ax g (T::A')) []∧Kq (eJ L') dO bG∧ag S H H3:=⟨N,P,L,ch,par,A,m4,OL (.inr ((Ts.OD (par x) x dH).resolve_right (by rw[aO];simp))),l.pc,vI⟩
  case' true=>
   refine vs ?_
   refine(Ex m4 ls (x:=x) (g:=g) (t:=T) (A:=A) (by rw[hw];exact l.f) l.pc (by rw[hw];exact hg.symm) (by omega) dk hr hT.symm).mono ?_
   rintro _ H3 ⟨N3,P3,L3,MJ,oZ,A3,m3,f3',p3,u3,_,e5⟩
   have e3:=vI.trans (e5.mono fun z _ h=>by
    rcases h with h|h|h
    ·exact h▸VD
    ·exact h▸HZ
    ·exact h▸tb3)
   have f3:dP (aG w') (aQ w') (cj N3) MJ oZ (ay ax g (T::A3)) []:=by
    refine f3'.other fun z c hc h1 h2 h3=>?_
    rw[hw]at h1 h2
    have fu:c≠x:=fun e=>by
     obtain⟨d1,d2,_⟩:=f3'.pr.dn z c hc
     rw[e,u3]at d1
     exact d2 d1.symm
    by_cases hz:z=x
    ·rw[hz]at h3 ⊢
     exact ex c h2 fu h3
    ·rw[el _ _ (by omega) h2 hz fu];exact h3
   refine vs ?_
 all_goals
  have TA:ay ax g (T::A3) g=T::A3:=by unfold ay;rw[if_pos rfl]
  obtain⟨cc,lt3,o3,q3,vC,sC,OT⟩:=m3.fT
  have q4:=m3.eR q3 (dW (tops:=tops) (h:=g) (by omega) dk)
  rw[←hT]at q4
  refine v1 (ae o3) ?_
  refine⟨⟨by omega,by omega⟩,?_⟩
  refine v4 (ae q3) aoi aol q4 ?_
  have CU:∀g2 z,g2≠g→0<g2→aG w' z=g2→bm tops g2≠ -1∧(z≠bm tops g2→aQ w' (bm tops g2) z=true):=fun g2 z aP C4 hz=>by
   rw[hw]at hz
   obtain⟨h1,h2⟩:=l.ls g2 z C4 hz
   refine⟨h1,fun Uk=>?_⟩
   have h5:aG w (bm tops g2)=g2:=by
    have hm:bm tops g2∈ax g2:=by
     have:=l.tp g2
     rw[this]at h1 ⊢
     exact eA h1
    exact(l.f.rm g2 _ hm).1
   rw[el _ _ (by omega) (by omega) (fun e=>by rw[e]at h5;omega) (fun e=>by rw[e]at hz;omega)]
   exact h2 Uk
  have htp:∀g2,bm tops g2=(ay ax g (T::A3) g2).headD (-1):=fun g2=>by
   unfold ay
   split
   ·rename_i e;rw[e,←hT];rfl
   ·exact l.tp g2
  refine am.dec (fun h5=>?_) (fun h5=>?_)
  ·refine vs ?_
   refine .inr ⟨Bp,rfl,y,hy,?_⟩
   rw[OU]
   refine cB.same ⟨B,C,N3,P3,L3,tops,MJ,oZ,_,rfl,m3,⟨f3,p3,htp,fun g2 z C4 hz=>?_,by rw[l.tl,hhl]⟩,hS⟩ e3
   by_cases h6:g2=g
   ·rw[h6,←hT]
    refine⟨Gc,fun Uk=>?_⟩
    rw[hw,h6]at hz
    have h7:=(C6 z hz).2 Uk
    rw[h5]at h7 Uk ⊢
    exact ex z (by omega) Uk h7
   ·exact CU g2 z h6 C4 hz
  refine v1 (ae o3) ?_
  refine⟨⟨by omega,by omega⟩,?_⟩
  refine v4 (ae q3) aoi aol q4 ?_
  refine(cF m3.cells x T).mono ?_
  rintro _ H6 ⟨rfl,c6,e6⟩
  have m6:=m3.aJ c6 e6 rfl
  have LG:=e3.trans (e6.mono fun z _ h=>hC z h)
  rw[gS (w:=w') (a:=x) (b:=T) (by rw[hw];exact Xh) (by rw[hw];omega)]
  cases zJ:aQ w' x T
  ·refine vs ?_
   refine .inr ⟨Bp,rfl,y,hy,?_⟩
   rw[OU]
   refine cB.same ⟨B,C,N3,P3,L3,tops,MJ,oZ,_,rfl,m6,⟨f3,p3,htp,fun g2 z C4 hz=>?_,by rw[l.tl,hhl]⟩,hS⟩ LG
   by_cases h6:g2=g
   ·rw[h6,←hT]
    refine⟨Gc,fun Uk=>?_⟩
    rw[hw,h6]at hz
    by_cases h8:z=x
    ·rw[h8];exact(Ts.OD T x h5).resolve_right (by rw[zJ];simp)
    ·rw[el _ _ (by omega) (by omega) h5 h8]
     exact(C6 z hz).2 Uk
   ·exact CU g2 z h6 C4 hz
  ·obtain⟨cc,lt6,o6,q6,vC,sC,OT⟩:=m6.fT
   refine v1 (ae o6) ?_
   refine⟨⟨by omega,by omega⟩,?_⟩
   refine v3 q6 aoi aol ?_
   refine⟨by omega,?_⟩
   obtain⟨m7,e7⟩:=m6.ld q6 g.toNat x
   refine vs ?_
   have Kt:oZ x= -1:=by
    apply aoI
    intro hp
    obtain⟨_,d2,d3,d4,d5⟩:=f3.pr.dn _ _ (f3.pr.up x _ rfl hp)
    rw[hw]at d3 d4
    by_cases e:oZ x=T
    ·rw[e]at d5
     rw[Ts.asym d5]at zJ;cases zJ
    ·have h9:=(C6 (oZ x) (by omega)).2 e
     have age:oZ x≠x:=fun e=>by rw[e,Ts.vy]at d5;cases d5
     rw[←el _ _ (by omega) (by omega) h5 age]at h9
     rw[Ts.asym (Ts.tr _ _ _ h9 d5)]at zJ;cases zJ
   have hxm:x∈ay ax g (T::A3) g:=by
    rcases f3.jy x (by rw[hw];exact Xh) Kt with h|h
    ·rw[hw,←hg]at h;exact h
    ·cases h
   obtain⟨A7,_,f7⟩:=f3.from_ hxm
   rw[eB]at f7
   refine .inr ⟨Bp,rfl,y,hy,?_⟩
   rw[OU]
   refine cB.same ⟨B,C,N3,P3,L3,_,MJ,oZ,_,rfl,m7,⟨f7,p3,fun g2=>?_,fun g2 z C4 hz=>?_,by rw[aok,l.tl,hhl]⟩,hS⟩ (LG.trans (e7.mono fun z _ h=>h▸tb4))
   ·rw[eD (by omega) dk]
    unfold iS ay
    split
    ·rfl
    ·exact l.tp g2
   ·rw[eD (by omega) dk]
    unfold iS
    by_cases h6:g2=g
    ·rw[if_pos h6]
     refine⟨by omega,fun Uk=>?_⟩
     rw[hw,h6]at hz
     by_cases h8:z=T
     ·rw[h8];exact zJ
     ·have h9:=(C6 z hz).2 h8
      rw[←el _ _ (by omega) (by omega) h5 Uk]at h9
      exact Ts.tr _ _ _ zJ h9
    ·rw[if_neg h6]
     exact CU g2 z h6 C4 hz
theorem Ul(k:Nat):cE [Value.int .i64 0,Value.int .i64 0,Value.int .i64 0,Value.bool false] k=aK (List.replicate k ⟨0,0,0,false⟩):=by
 unfold cE aK
 induction k with
 |zero=>rfl
 |succ k ih=>rw[aoY,aoY,apc,apV,ih];rfl
theorem JN(cap:Int)(H:Hp):af Tryz.prog DT [i64 cap] H fun v H'=>aw (
  ah H H'∧((¬ (0≤cap∧cap≤65536)∧v= .tuple [.pointer none,i64 31].toArray)∨
   ((0≤cap∧cap≤65536)∧∃n S,v= .tuple [ptr n,i64 0].toArray∧iJ n H' S (zE cap)∧∀x,S x→H.size≤x))):=by
 refine bv DY ?_
 refine vs ?_
 refine(k8 cap H).mono ?_
 rintro _ H1 ⟨f1,⟨hb,rfl⟩| ⟨hb,c,C,rfl,c1,hC⟩⟩
 ·refine vs ?_
  exact⟨f1,.inl ⟨hb,rfl⟩⟩
 refine vs ?_
 refine(Ic H1 hb).mono ?_
 rintro _ H2 ⟨r,nb,pb,N,P,rfl,r2,hN,hid,hinv,f2,hr,DR,PQ⟩
 have c2:=c1.fresh f2
 refine v1 aoZ ?_
 refine⟨⟨by omega,by omega,by omega,by omega⟩,?_⟩
 refine vs ?_
 rw[Ul]
 have yb:=c1.slt
 have z1:=f1.size
 have z2:=f2.size
 have hrs:r<H2.size∧nb<H2.size∧pb<H2.size:=⟨aB r2.own,aB r2.OZ,aB r2.VC⟩
 obtain⟨rn1,rn2,rn3⟩:=r2.ne
 have f3:ah H2 (((H2.new 273 (aK (List.replicate cap.toNat ⟨0,0,0,false⟩))).new 3 [Value.int .i64 (-1)]).new 271 [ptr c,ptr r,.slice (some ⟨H2.size,0,none⟩) cap.toNat cap.toNat,.slice (some ⟨H2.size+1,0,none⟩) 1 1]):=(((ag.refl _ _).new _ _).new _ _).new _ _
 have e1:ag (fun _=>False) (H2.new 273 (aK (List.replicate cap.toNat ⟨0,0,0,false⟩))) (((H2.new 273 (aK (List.replicate cap.toNat ⟨0,0,0,false⟩))).new 3 [Value.int .i64 (-1)]).new 271 [ptr c,ptr r,.slice (some ⟨H2.size,0,none⟩) cap.toNat cap.toNat,.slice (some ⟨H2.size+1,0,none⟩) 1 1]):=((ag.refl _ _).new _ _).new _ _
 have e2:ag (fun _=>False) ((H2.new 273 (aK (List.replicate cap.toNat ⟨0,0,0,false⟩))).new 3 [Value.int .i64 (-1)]) (((H2.new 273 (aK (List.replicate cap.toNat ⟨0,0,0,false⟩))).new 3 [Value.int .i64 (-1)]).new 271 [ptr c,ptr r,.slice (some ⟨H2.size,0,none⟩) cap.toNat cap.toNat,.slice (some ⟨H2.size+1,0,none⟩) 1 1]):=(ag.refl _ _).new _ _
 obtain⟨B,hB⟩:∃B:FB,B=⟨H2.size+1+1,c,r,nb,pb,H2.size,H2.size+1⟩:=⟨_,rfl⟩
 have m0:bW (((H2.new 273 (aK (List.replicate cap.toNat ⟨0,0,0,false⟩))).new 3 [Value.int .i64 (-1)]).new 271 [ptr c,ptr r,.slice (some ⟨H2.size,0,none⟩) cap.toNat cap.toNat,.slice (some ⟨H2.size+1,0,none⟩) 1 1]) B C (zE cap) N P (List.replicate cap.toNat ⟨0,0,0,false⟩) [-1]:=by
  subst hB
  refine⟨⟨.slice (some ⟨H2.size+1,0,none⟩) 1 1,?_,?_⟩,c2.fresh f3,r2.ext f3 (fun h=>h) (fun h=>h) (fun h=>h),hinv,?_,?_,?_,?_⟩
  ·rw[ao3]
   exact aU (by simp only[ap])
  ·exact(Sl.bU (size:=1) (n:=1) (xs:=[i64 (-1)]) rfl (by simp only[ap])).ext e2 (fun _ _ h=>h)
  ·exact e1.own (az _ _ _) (fun h=>h)
  ·simp[zE,hN]
  ·refine⟨⟨?_,?_,?_,?_,?_⟩,⟨?_,?_,?_,?_⟩,⟨?_,?_,?_⟩⟩<;>simp only<;>omega
  ·refine⟨fun h=>?_,fun h=>?_,fun h=>?_,fun h=>?_,fun h=>?_,fun h=>?_⟩<;>(have h2:=yb _ h;first|omega| (simp only at h2;omega))
 have Ep:B.n=H2.size+1+1:=by rw[hB]
 have hBs:∀z,B.S C z→H1.size≤z∨C z:=fun z hz=>by
  rcases hz with hz|rfl|rfl|rfl|rfl|rfl|rfl
  ·exact .inr hz
  all_goals rw[hB];left;first|omega| (simp only;omega)
 have hBt:B.tb=H2.size:=by rw[hB]
 have ft:=(f1.trans f2).trans f3
 generalize ((H2.new 273 (aK (List.replicate cap.toNat ⟨0,0,0,false⟩))).new 3 [Value.int .i64 (-1)]).new 271 [ptr c,ptr r,.slice (some ⟨H2.size,0,none⟩) cap.toNat cap.toNat,.slice (some ⟨H2.size+1,0,none⟩) 1 1]=H3 at*
 have nU:(zE cap).cs.length=cap.toNat:=by simp[zE]
 rw[←Ep]
 refine aX.intro (fun m env H'=>∃ (j:Nat) (L':List Pc),m=cap.toNat - j∧j≤cap.toNat∧ag (fun z=>z=B.tb) H3 H'∧bW H' B C (zE cap) N P L' [-1]∧(∀z:Int,0≤z→z<j→eJ L' z=n7)∧
  env=[(5,i64 0),(7,ptr B.n),(33,i64 (cap.toNat:Nat)),(34,i64 j)]) cap.toNat ⟨0,_,by omega,by omega,ag.refl _ _,m0,fun z h0 h1=>by omega,rfl⟩ ?_
 rintro m env H4 ⟨j,L4,rfl,hj,e4,m4,g4,rfl⟩
 obtain⟨cc,lt4,o4,_⟩:=m4.fT
 have Ui:=m4.len
 refine vs ?_
 refine am.dec (fun aO=>?_) (fun aO=>?_)<;>refine vs ?_
 ·refine jB.intro (fun H'=>H'.own B.n=some [ptr B.c,ptr B.r,.slice (some ⟨B.tb,0,none⟩) L4.length L4.length,.slice (some ⟨B.tp,0,none⟩) [(-1:Int)].length cc]) o4 ?_
  refine vs ?_
  refine fJ.intro (.slice (some ⟨B.tb,0,none⟩) L4.length L4.length) (fun H' hI=>by refine v1 (ae hI) ?_;trivial) ?_
  refine vs ?_
  refine(uS H4).mono ?_
  rintro _ H5 ⟨rfl,e5⟩
  have o5:=e5.own o4 (fun h=>h)
  refine And.intro o5 ?_
  have m5:=m4.fresh e5
  refine vs ?_
  refine⟨⟨by omega,by omega⟩,?_⟩
  obtain⟨b0,_⟩:=m5.rd (x:=(j:Int)) (by omega)
  obtain⟨L6,k6,m6,e6⟩:=m5.ND (x:=(j:Int)) (by omega) n7
  refine v2 m5.places aoi ?_
  refine⟨by omega,?_⟩
  rw[show bk (aK L4) ((j:Int).toNat*4) (aI (Value.agg #[i64 (-1),i64 (-1),i64 0,Value.bool false]))=bk (aK L4) ((j:Int).toNat*4) [i64 n7.u,i64 n7.k,i64 n7.d,.bool n7.m]from rfl]
  have vW:=m5.ml.1.2.2.2.1
  generalize H5.wr B.tb (bk (aK L4) ((j:Int).toNat*4) [i64 n7.u,i64 n7.k,i64 n7.d,.bool n7.m])=H6 at*
  refine vs ?_
  refine And.intro (e6.own o5 vW) ?_
  refine vs ?_
  refine⟨cap.toNat - (j+1),by omega,j+1,L6,rfl,by omega,(e4.trans (e5.mono fun _ _ h=>h.elim)).trans e6,m6,fun z h0 h1=>?_,?_⟩
  ·rw[k6]
   unfold mJ
   split
   ·rfl
   ·exact g4 z h0 (by omega)
  ·rw[wrap64 (n:=(j:Int)+1) (by omega) (by omega)]
   rfl
 ·obtain rfl:j=cap.toNat:=by omega
  have hpc:∀z,eJ L4 z=n7:=fun z=>by
   by_cases hz:0≤z∧z< (cap.toNat:Int)
   ·exact g4 z hz.1 hz.2
   ·unfold eJ
    split
    ·rw[aoz (by omega)];rfl
    ·rfl
  refine⟨ft.then e4 (fun z hz=>by omega),.inr ⟨hb,B.n,B.S C,rfl,⟨B,C,N,P,L4,[-1],fun _=>[],fun _=> -1,fun _=>[],rfl,m4,⟨⟨⟨rfl,fun x c hc=>absurd hc (by simp),fun c x h hx=>absurd (Eq.symm h) hx,fun x=>aps⟩,
   fun x=>trivial,fun h=>trivial,fun h=>aps,fun h c hc=>absurd hc (by simp),aps,fun c hc=>absurd hc (by simp),fun c hc=>absurd hc (lh cap c),fun c _=>hid c⟩,fun x=>by rw[hpc];exact⟨rfl,rfl,rfl⟩,
   fun g=>CV g,fun g y hg hy=>absurd (show 0<aG (zE cap) y by omega) (lh cap y),rfl⟩,fun z=>Iff.rfl⟩,fun z hz=>?_⟩⟩
  rcases hBs z hz with h|h
  ·omega
  ·exact hC z h
theorem Sa(n:Nat):yi (.iface 206 (ptr n)) (iJ n) where
 slt h:=h.slt
 ext h e hd:=h.ext e hd
 cells:=by
  rintro H S w ⟨B,C,N,P,L,tops,ch,par,ax,rfl,m,l,hS⟩
  exact⟨B.c,C,m.cells⟩
 has:=by
  rintro H S w g ⟨B,C,N,P,L,tops,ch,par,ax,rfl,m,l,hS⟩
  obtain⟨tv,ho,_⟩:=m.own
  exact⟨_,_,bE,ptr B.c,rfl,fU (off:=0) (by kernel_rfl) (ae ho) rfl,(iH m.cells g).mono fun v H' hp=>hp⟩
 make:=by
  intro H S w h
  exact⟨_,_,jF,ptr n,rfl,bD (by kernel_rfl),(Ib h).mono fun v H' hp=>hp⟩
 insert:=by
  intro H S w g x k s h
  exact⟨_,_,iy,ptr n,rfl,bD (by kernel_rfl),(Ey h g x k s).mono fun v H' hp=>hp⟩
 min:=by
  intro H S w g h
  refine⟨_,_,kL,ptr n,rfl,bD (by kernel_rfl),(Bx h g).mono ?_⟩
  rintro v H' ⟨⟨h1,rfl⟩| ⟨x,h1,rfl⟩,rfl⟩
  ·exact .inl ⟨h1,rfl,cB.same h (ag.refl _ _)⟩
  ·exact .inr ⟨x,h1,rfl,cB.same h (ag.refl _ _)⟩
 extract:=by
  intro H S w g h
  exact⟨_,_,gO,ptr n,rfl,bD (by kernel_rfl),(C5 h g).mono fun v H' hp=>hp⟩
 lf:=by
  intro H S w x k s h
  exact⟨_,_,gB,ptr n,rfl,bD (by kernel_rfl),(By h x k s).mono fun v H' hp=>hp⟩
 entry:=by
  rintro H S w x ⟨B,C,N,P,L,tops,ch,par,ax,rfl,m,l,hS⟩
  obtain⟨tv,ho,_⟩:=m.own
  refine⟨_,_,bh,ptr B.c,rfl,fU (off:=0) (by kernel_rfl) (ae ho) rfl,(gQ m.cells x).mono ?_⟩
  rintro v H' ⟨c1,f,hv⟩
  exact⟨⟨B,C,N,P,L,tops,ch,par,ax,rfl,m.fresh f,l,hS⟩,f,hv⟩
theorem uU(n:Nat)(H:Hp):af Tryz.prog we [ptr n,i64 0] H fun v H'=>aw (v= .tuple [.iface 194 (ptr n),i64 0].toArray∧H'=H):=by
 refine bv wN ?_
 refine v1 aoZ ?_
 exact⟨rfl,rfl⟩
theorem xC(n:Nat)(H:Hp):af Tryz.prog oK [ptr n,i64 0] H fun v H'=>aw (v= .tuple [.iface 206 (ptr n),i64 0].toArray∧H'=H):=by
 refine bv oM ?_
 refine v1 aoZ ?_
 exact⟨rfl,rfl⟩
def Sb(kd dd:Int):Prop:=∀ (cap:Int),(0≤cap∧cap≤65536)→∀H:Hp,af Tryz.prog IA [Nr kd dd,i64 cap] H fun v H'=>aw (∃t vv I Sn,v= .tuple [.iface t vv,i64 0].toArray∧yi (.iface t vv) I∧I H' Sn (zE cap)∧ah H H'∧∀z,Sn z→H.size≤z)
def Qb(cap:Int)(mo:Nat):Ar:=⟨List.replicate cap.toNat (0,false),[],0,0,mo⟩
theorem JO{kd dd cap:Int}{mo:Nat}(hf:gD kd dd)(Aa:Sb kd dd)(hc:0≤cap∧cap≤65536)(hm:0<mo∧mo≤4294967295)(H:Hp):af Tryz.prog Pt [Nr kd dd,i64 cap,.int .u32 (mo:Int)] H fun v H'=>aw (∃s S,v= .tuple [ptr s,i64 0].toArray∧DC H' s S (zE cap) (Qb cap mo) 0∧ah H H'∧∀z,S z→H.size≤z):=by
 refine bv Pv ?_
 refine vs ?_
 have f0:ah H (H.new 23 [i64 kd,i64 dd]):=(ag.refl _ _).new _ _
 have o0:(H.new 23 [i64 kd,i64 dd]).own H.size=some [i64 kd,i64 dd]:=az _ _ _
 have z0:(H.new 23 [i64 kd,i64 dd]).size=H.size+1:=ap _ _ _
 generalize H.new 23 [i64 kd,i64 dd]=H0 at*
 refine(nK kd dd H0).mono ?_
 rintro _ H1 ⟨rfl,f1⟩
 rw[LC hf]
 have o1:=f1.own o0 (fun h=>h)
 have z1:=f1.size
 refine vs ?_
 refine am.dec (fun _=>?_) (fun hh=>absurd trivial hh)
 refine vs ?_
 refine(FP H1 hc hm).mono ?_
 rintro _ H2 ⟨B,rfl,m2,f2,hB⟩
 have o2:=f2.own o1 (fun h=>h)
 have z2:=f2.size
 refine vs ?_
 refine am.dec (fun _=>?_) (fun hh=>absurd trivial hh)
 refine v1 (ae o2) ?_
 refine(Aa _ hc H2).mono ?_
 rintro _ H3 ⟨t,vv,I,Sn,rfl,n,hi,f3,QW⟩
 have o3:=f3.own o2 (fun h=>h)
 have z3:=f3.size
 refine vs ?_
 refine am.dec (fun _=>?_) (fun hh=>absurd trivial hh)
 refine v1 (ae o3) ?_
 have hsB:=m2.slt
 have hsN:=fun z hz=>n.slt hi z hz
 have f4:ah H3 (H3.new 161 [i64 kd,i64 dd,ptr B.a,.iface t vv,u64 0]):=(ag.refl _ _).new _ _
 have b4:(H3.new 161 [i64 kd,i64 dd,ptr B.a,.iface t vv,u64 0]).own H3.size=some [i64 kd,i64 dd,ptr B.a,.iface t vv,u64 0]:=az _ _ _
 refine⟨H3.size,fun z=>Sn z∨B.S z∨z=H3.size,rfl,⟨t,vv,I,Sn,B,kd,dd,n,n.ext hi f4 (fun _ _ h=>h),(m2.ext f3 (fun _ _ h=>h)).ext f4 (fun _ _ h=>h),b4,fun z hz=>⟨fun h=>?_,?_⟩,fun h=>?_,fun z=>Iff.rfl,⟨by simp[zE,Qb],fun x=>?_⟩⟩,(((f0.trans f1).trans f2).trans f3).trans f4,fun z hz=>?_⟩
 ·have:=hsB z h
  have:=QW z hz
  omega
 ·have:=hsN z hz
  omega
 ·have:=hsB _ h
  omega
 ·constructor
  ·intro h
   exact absurd (bz.2 h) (lh cap x)
  ·rintro⟨h0,h1⟩
   simp only[Qb,apC]at h1
   split at h1<;>simp at h1
 ·rcases hz with h|h|h
  ·have:=QW z h;omega
  ·have:=hB z h;omega
  ·omega
abbrev NF:Shape:=.s [(0,(none,.int)),(1,(none,.int))]
def xD(H:Hp)(b:Nat)(L:List ((Int×Nat)×Value)):Prop:=∃es k,H.mp b=some (es,k)∧es.map (fun e=>(e.key,e.val))=L.map (fun p=>(gA p.1.1 p.1.2,p.2))∧(L.map (·.1)).Nodup
theorem xD.new(H:Hp):xD H.im H.size []:=⟨[],0,JP H,rfl,aps⟩
theorem xD.ext{H H':Hp}{b:Nat}{L:List ((Int×Nat)×Value)}{S:Nat→Prop}(h:xD H b L)(e:ag S H H')(hs:¬S b):xD H' b L:=by
 obtain⟨es,k,h1,h2⟩:=h
 exact⟨es,k,e.mp h1 hs,h2⟩
theorem xD.lt{H:Hp}{b:Nat}{L:List ((Int×Nat)×Value)}(h:xD H b L):b<H.size:=by
 obtain⟨es,k,h1,h2⟩:=h
 exact O2 h1
theorem Um(a b:Int×Nat):nZ NF (gA a.1 a.2) (gA b.1 b.2)=some (decide (a=b)):=by
 obtain⟨x,g⟩:=a
 obtain⟨y,h⟩:=b
 simp only[nZ,xx,NG,aoM,apg,bj,if_pos rfl]
 by_cases e:x=y
 ·by_cases e2:g=h
  ·simp[e,e2,bj]
  ·have:¬ ((g:Int)=(h:Int)):=by omega
   simp[e,e2,this,bj]
 ·simp[e,bj]
theorem IL(a:Int×Nat):∀ (es:List MapEntry) (L:List ((Int×Nat)×Value)),es.map (fun e=>(e.key,e.val))=L.map (fun p=>(gA p.1.1 p.1.2,p.2))→(L.map (·.1)).Nodup→∀n:Nat,
  (a∉L.map (·.1)→fX NF (gA a.1 a.2) es n=some none)∧(∀v,(a,v)∈L→∃j,fX NF (gA a.1 a.2) es n=some (some (j,v))):=by
 intro es
 induction es with
 |nil=>
  intro L hL _ n
  cases L with
  |nil=>exact⟨fun _=>rfl,fun v h=>by cases h⟩
  |cons p L=>simp at hL
 |cons e es ih=>
  intro L hL hd n
  cases L with
  |nil=>simp at hL
  |cons p L=>
   rw[ao6,ao6]at hL
   injection hL with h1 h2
   injection h1 with h1 h3
   rw[ao6,aoB]at hd
   have hq:nZ NF (gA a.1 a.2) e.key=some (decide (a=p.1)):=by rw[h1];exact Um a p.1
   obtain⟨i1,i2⟩:=ih L h2 hd.2 (n+1)
   refine⟨fun hn=>?_,fun v hv=>?_⟩
   ·rw[ao6,aot,not_or]at hn
    rw[fX,hq,aoJ hn.1]
    exact i1 hn.2
   ·by_cases e2:a=p.1
    ·rw[fX,hq,aow e2]
     rcases aot.1 hv with h|h
     ·refine⟨n,?_⟩
      simp only
      rw[h3,←h]
     ·exact absurd (aoC.2 ⟨(a,v),h,e2⟩) hd.1
    ·rw[fX,hq,aoJ e2]
     rcases aot.1 hv with h|h
     ·exact absurd (by rw[←h]) e2
     ·exact i2 v h
theorem IM(x:Int)(g:Nat):Bz NF (gA x g)=true:=rfl
theorem xD.look{H:Hp}{b:Nat}{L:List ((Int×Nat)×Value)}(h:xD H b L){a:Int×Nat}{v:Value}(hv:(a,v)∈L){F:Option Value→Prop}(hF:F (some v)):yq H NF (some b) (gA a.1 a.2) F:=by
 obtain⟨es,k,h1,h2,h3⟩:=h
 unfold yq
 simp only[h1,nO]
 obtain⟨j,hj⟩:=(IL a es L h2 h3 0).2 v hv
 rw[hj]
 exact hF
theorem xD.Y5{H:Hp}{b:Nat}{L:List ((Int×Nat)×Value)}(h:xD H b L){a:Int×Nat}{v:Value}(hn:a∉L.map (·.1)){F:Hp→Prop}(hk:∀H',xD H' b (L++[(a,v)])→ag (fun x=>x=b) H H'→F H'):Sc H NF b (gA a.1 a.2) v F:=by
 obtain⟨es,k,h1,h2,h3⟩:=h
 unfold Sc
 simp only[h1,nO]
 rw[(IL a es L h2 h3 0).1 hn]
 refine⟨rfl,hk _ ⟨_,_,lj h1,by simp[LM,h2],?_⟩ ((ag.refl (fun x=>x=b) H).Dw (fun _=>rfl) _ _)⟩
 rw[aoN,apG,ao2]
 refine⟨h3,by simp,fun x hx c hc e=>?_⟩
 rw[aoq]at hc
 have e2:x=a:=e.trans hc;rw[e2]at hx;exact hn hx
structure Xi(n:Nat)(A:Ar):Prop where
 len:A.g.length=n
 mo:A.mo=4294967295
 free:∀x:Int,0≤x→x<A.nx→¬A.live x→x∈A.wt
theorem Xi.out{n:Nat}{A A':Ar}{x:Int}(h:Xi n A)(ok:xw A)(hp:A.pick=some (x,A')):Xi n (A'.out x):=by
 obtain⟨hx,mF,Vw,Du,hg,hct,Vy⟩:=Ar.vH hp ok
 have GU:0≤x∧x<A'.g.length:=by rw[hg];exact hx
 refine⟨by show(A'.g.set _ _).length=n;rw[aok,hg];exact h.len,by show A'.mo=_;rw[Vy];exact h.mo,fun y h0 h1 hl=>?_⟩
 have h1:y< (A'.nx:Int):=h1
 rw[Ar.nJ (A:=A') GU rfl h0]at hl
 by_cases e:y=x
 ·rw[if_pos e]at hl;exact absurd rfl hl
 ·rw[if_neg e]at hl
  have oJ:¬A.live y:=by unfold Ar.live at hl ⊢;rw[hg]at hl;exact hl
  show y∈A'.wt
  unfold Ar.pick at hp
  split at hp
  ·rename_i aP
   injection hp with hp
   injection hp with B0 qK
   subst qK
   have hm:=h.free y h0 h1 oJ
   have hw:A.wt=A.wt.dropLast++[A.wt.getLastD 0]:=by
    conv=>lhs;rw[←List.dropLast_concat_getLast aP]
    rw[apQ,List.getLast?_eq_some_getLast aP]
    rfl
   rw[hw,aou,aoq]at hm
   rcases hm with hm|hm
   ·exact hm
   ·exact absurd (hm.trans B0) e
  ·split at hp
   ·cases hp
   ·injection hp with hp
    injection hp with B0 qK
    subst qK
    simp only at h1
    exact h.free y h0 (by omega) oJ
theorem Xi.back{n:Nat}{A:Ar}{x:Int}(h:Xi n A)(hx:0≤x∧x<A.g.length)(hg:A.bC x<4294967295):Xi n (A.back x):=by
 refine⟨by show(A.g.set _ _).length=n;rw[aok];exact h.len,h.mo,fun y h0 h1 hl=>?_⟩
 rw[Ar.nJ (A:=A) hx rfl h0]at hl
 show y∈(if A.bC x<A.mo then A.wt++[x]else A.wt)
 rw[h.mo,if_pos hg,aou,aoq]
 by_cases e:y=x
 ·exact .inr e
 ·rw[if_neg e]at hl
  exact .inl (h.free y h0 h1 hl)
theorem IN{A A':Ar}{x:Int}(hp:A.pick=some (x,A'))(ok:xw A):xw A':=by
 have Ko:=ok.nx
 unfold Ar.pick at hp
 split at hp
 ·rename_i aP
  injection hp with hp
  injection hp with B0 qK
  subst qK
  exact⟨fun y hy=>ok.wl y ((aql _).subset hy),List.Nodup.sublist (aql _) ok.wd,ok.fr,ok.ct,ok.nx⟩
 ·split at hp
  ·cases hp
  ·injection hp with hp
   injection hp with B0 qK
   subst qK
   exact⟨fun y hy=>by have:=ok.wl y hy;exact⟨this.1,by simp only;omega,this.2.2⟩,ok.wd,fun y hy=>ok.fr y (by simp only at hy;omega),ok.ct,by simp only;omega⟩
structure VE(n:Nat)(w:Nw)(A:Ar)(L:List ((Int×Nat)×Value))(eX:List (Int×Nat))(at_:Nat):Prop where
 hs:w.has 1
 Zn:Xi n A
 lk:RQ w A
 ok:xw A
 c1:∀ (x:Int) y,0≤x→w.cs[x.toNat]? =some y→y.1=0∨(y.1=1∧∃id:Nat,y.2.2=(id:Int)+1∧(y.2.1,id)∈eX∧((x,A.bC x),i64 id)∈L)
 c2:∀p∈eX,∃x:Int,0≤x∧w.cs[x.toNat]? =some (1,p.1,(p.2:Int)+1)
 ge:∀x:Int,0≤x→A.bC x≤at_
 ls:∀p∈L,0≤p.1.1∧p.1.2≤A.bC p.1.1
 ids:L.map (·.2)=(List.range at_).map fun(i:Nat)=>i64 i
 ri:EY eX
 lt:∀p∈eX,p.2<at_
 cn:A.ct=eX.length
theorem VE.idx{n at_:Nat}{w:Nw}{A:Ar}{L:List ((Int×Nat)×Value)}{eX:List (Int×Nat)}(h:VE n w A L eX at_){a b:Int×Nat}{id:Nat}(h1:(a,i64 id)∈L)(h2:(b,i64 id)∈L):a=b:=by
 obtain⟨i,hi⟩:=aoS h1
 obtain⟨j,hj⟩:=aoS h2
 have hk:∀ (k:Nat) (c:(Int×Nat)×Value),L[k]? =some c→c.2=i64 (k:Int):=by
  intro k c hc
  have e1:(L.map (·.2))[k]? =some c.2:=by rw[aoG,hc];rfl
  rw[h.ids,aoG]at e1
  have aO:=(aoj.1 hc).1
  have oQ:L.length=at_:=by have:=aoE List.length h.ids;simpa using this
  rw[List.getElem?_range (by omega)]at e1
  simpa using e1.symm
 have e1:=hk i _ hi
 have e2:=hk j _ hj
 have e3:i=j:=by
  have:=e1.symm.trans e2
  injection this with _ this
  omega
 subst e3
 rw[hi]at hj
 injection hj with hj
 injection hj
theorem VE.take{n at_:Nat}{w:Nw}{A:Ar}{L:List ((Int×Nat)×Value)}{eX:List (Int×Nat)}(h:VE n w A L eX at_)(vq:at_<4294967295){x k:Int}{id:Nat}(hx:0≤x∧x<n)(hy:w.cs[x.toNat]? =some (1,k,(id:Int)+1))(hL:YW (k,id) eX)(hm:((x,A.bC x),i64 id)∈L):VE n (w.put x (0,0,0)) (A.back x) L (wo eX (k,id)) at_:=by
 have aZ:w.cs.length=n:=by rw[h.lk.len];exact h.Zn.len
 have Zo:0≤x∧x<A.g.length:=by rw[h.Zn.len];exact hx
 have hg:∀z:Int,0≤z→(A.back x).bC z=A.bC z:=by
  intro z hz
  rw[Ar.EO (A:=A) (A':=A.back x) Zo rfl hz]
  split
  ·rename_i e;rw[e]
  ·rfl
 have jT:A.live x:=(h.lk.live x).1 ⟨hx.1,_,hy,by simp⟩
 refine⟨h.hs,h.Zn.back Zo (by have:=h.ge x hx.1;omega),h.lk.put Zo (v:=A.bC x) rfl,h.ok.back jT,fun z y z0 LN=>?_,fun p hp=>?_,fun z hz=>by rw[hg z hz];exact h.ge z hz,fun p hp=>by have:=h.ls p hp;exact⟨this.1,by rw[hg _ this.1];exact this.2⟩,h.ids,h.ri.wo _,fun p hp=>h.lt p (mQ.1 hp).1,?_⟩
 rotate_right
 ·have h1:=(I5 h.ri hL.m).length_eq
  have h2:=h.cn
  rw[aoD]at h1
  show A.ct - 1=_
  omega
 ·have LN:(w.cs.set x.toNat (0,0,0))[z.toNat]? =some y:=LN
  by_cases e:z=x
  ·subst e
   rw[aop (by omega)]at LN
   injection LN with LN
   exact .inl (by rw[←LN])
  ·rw[aoo (by omega)]at LN
   rcases h.c1 z y z0 LN with h0| ⟨g1,id2,e1,e2,e3⟩
   ·exact .inl h0
   ·refine .inr ⟨g1,id2,e1,mQ.2 ⟨e2,fun e4=>e ?_⟩,by rw[hg z z0];exact e3⟩
    simp only at e4
    rw[e4]at e3
    have:=h.idx e3 hm
    injection this
 ·obtain⟨B0,qK⟩:=mQ.1 hp
  obtain⟨z,z0,hz⟩:=h.c2 p B0
  refine⟨z,z0,?_⟩
  show(w.cs.set x.toNat (0,0,0))[z.toNat]? =_
  rw[aoo ?_]
  ·exact hz
  ·intro e
   rw[←e,hy]at hz
   injection hz with hz
   injection hz with _ hz
   injection hz with _ hz
   simp only at qK
   omega
theorem VE.put{n at_:Nat}{w:Nw}{A A':Ar}{L:List ((Int×Nat)×Value)}{eX:List (Int×Nat)}(h:VE n w A L eX at_){x:Int}(hp:A.pick=some (x,A'))(k:Int):(x,A.bC x+1)∉L.map (·.1)∧VE n (w.put x (1,k,(at_:Int)+1)) (A'.out x) (L++[((x,A.bC x+1),i64 at_)]) (eX++[(k,at_)]) (at_+1):=by
 obtain⟨hx,mF,Vw,Du,QX,hct,Vy⟩:=Ar.vH hp h.ok
 have aZ:w.cs.length=n:=by rw[h.lk.len];exact h.Zn.len
 have hAn:=h.Zn.len
 have GU:0≤x∧x<A'.g.length:=by rw[QX];exact hx
 have PW:∀z,A'.bC z=A.bC z:=fun z=>by unfold Ar.bC;rw[QX]
 have hg:∀z:Int,0≤z→(A'.out x).bC z=if z=x then A.bC x+1 else A.bC z:=by
  intro z hz
  rw[Ar.EO (A:=A') (A':=A'.out x) GU rfl hz]
  rw[PW,PW]
 have Tt:∀z,A'.live z↔A.live z:=fun z=>by unfold Ar.live;rw[QX]
 have Uf:¬cY w.cs x:=fun hi=>mF ((h.lk.live x).1 hi)
 refine⟨fun hm=>?_,?_⟩
 ·obtain⟨p,B0,qK⟩:=aoC.1 hm
  have:=(h.ls p B0).2
  rw[qK]at this
  simp only at this
  omega
 ·refine⟨h.hs,h.Zn.out h.ok hp,h.lk.put hx (v:=A.bC x+1) ?_,?_,fun z y z0 LN=>?_,fun p hp=>?_,fun z hz=>?_,fun p hp=>?_,?_,?_,fun p hp=>?_,by show A'.ct+1=_;rw[hct,h.cn,aor];rfl⟩
  ·show A'.g.set x.toNat (A'.bC x+1,true)=_
   rw[PW,QX]
   rfl
  ·refine xw.out (A:=A) ?_ QX GU (fun hl=>mF ((Tt x).1 hl)) Vw Du
   exact IN hp h.ok
  ·have LN:(w.cs.set x.toNat (1,k,(at_:Int)+1))[z.toNat]? =some y:=LN
   by_cases e:z=x
   ·subst e
    rw[aop (by omega)]at LN
    injection LN with LN
    subst LN
    refine .inr ⟨rfl,at_,rfl,by simp,?_⟩
    rw[hg z z0,if_pos rfl]
    simp
   ·rw[aoo (by omega)]at LN
    rcases h.c1 z y z0 LN with h0| ⟨g1,id2,e1,e2,e3⟩
    ·exact .inl h0
    ·exact .inr ⟨g1,id2,e1,aoy _ e2,by rw[hg z z0,if_neg e];exact aoy _ e3⟩
  ·rcases aou.1 hp with hp|hp
   ·obtain⟨z,z0,hz⟩:=h.c2 p hp
    refine⟨z,z0,?_⟩
    show(w.cs.set x.toNat (1,k,(at_:Int)+1))[z.toNat]? =_
    rw[aoo ?_]
    ·exact hz
    ·intro e
     exact Uf ⟨hx.1,_,by rw[e];exact hz,by simp⟩
   ·rw[aoq]at hp
    subst hp
    refine⟨x,hx.1,?_⟩
    show(w.cs.set x.toNat (1,k,(at_:Int)+1))[x.toNat]? =_
    rw[aop (by omega)]
  ·rw[hg z hz]
   have:=h.ge z hz
   have:=h.ge x hx.1
   split<;>omega
  ·rcases aou.1 hp with hp|hp
   ·have:=h.ls p hp
    refine⟨this.1,?_⟩
    rw[hg _ this.1]
    split
    ·rename_i e;rw[e]at this;omega
    ·exact this.2
   ·rw[aoq]at hp
    subst hp
    exact⟨hx.1,by rw[hg _ hx.1,if_pos rfl];exact aov _⟩
  ·rw[aoN,h.ids,aqp,aoN]
   rfl
  ·refine apo.2 ⟨h.ri,by simp,fun a ha b hb=>?_⟩
   rw[aoq]at hb
   subst hb
   exact h.lt a ha
  ·rcases aou.1 hp with hp|hp
   ·have:=h.lt p hp;omega
   ·rw[aoq]at hp
    subst hp
    exact Nat.lt_succ_self _
section
variable {H : Hp} {s : Nat} {S : Nat → Prop} {w : Nw} {A : Ar} {q : Int}
theorem RQ.key(l:RQ w A){x k s:Int}{y:Ce}(hx:A.live x)(hy:w.cs[x.toNat]? =some y):RQ (w.put x (y.1,k,s)) A:=by
 have h1:=(l.live x).2 hx
 have h0:=h1.1
 have aO:=(aoj.1 hy).1
 have GU:0≤x∧x<w.cs.length:=by omega
 refine⟨by simp[Nw.put,l.len],fun z=>?_⟩
 rw[←l.live z,←bz,←bz,dV GU]
 by_cases e:z=x
 ·rw[if_pos e,e]
  obtain⟨_,c,hc,gh⟩:=h1
  rw[hy]at hc
  injection hc with hc
  subst hc
  have h2:=bz.2 ((l.live x).2 hx)
  exact⟨fun _=>h2,fun _=>gh⟩
 ·rw[if_neg e]
theorem xE(h:DC H s S w A q){x:Int}(hx:A.live x)(key:Int):af Tryz.prog qV [ptr s,gA x (A.bC x),i64 key] H fun v H'=>aw (
  ∃y,w.cs[x.toNat]? =some y∧((y.2.1<key∧v=i64 173∧Kp s S H H' w A q)∨(key≤y.2.1∧v=i64 0∧Kp s S H H' (w.put x (y.1,key,y.2.2)) A q))):=by
 have eT:=h.slt
 refine bv rB ?_
 refine vs ?_
 have f0:ah H (H.new 114 [i64 x,.int .u32 (A.bC x:Int)]):=(ag.refl _ _).new _ _
 have b0:(H.new 114 [i64 x,.int .u32 (A.bC x:Int)]).own H.size=some [i64 x,.int .u32 (A.bC x:Int)]:=az _ _ _
 have z0:(H.new 114 [i64 x,.int .u32 (A.bC x:Int)]).size=H.size+1:=ap _ _ _
 generalize H.new 114 [i64 x,.int .u32 (A.bC x:Int)]=H0 at*
 have h0:=h.ext f0 (fun _ _ h=>h)
 refine v1 (ae b0) ?_
 refine(yj h0 hx).mono ?_
 rintro _ H1 ⟨y,hy,rfl,S1,h1,e1,eK⟩
 have hS1:∀z,S1 z→z≠H.size:=fun z hz=>by
  rcases eK z hz with hh|hh
  ·have:=eT z hh;omega
  ·omega
 have b1:=e1.own b0 (fun hh=>by have:=eT _ hh;omega)
 refine vs ?_
 obtain⟨f2,c2,z2⟩:=Nq H1 224 [i64 0,u64 0] [i64 y.2.1,u64 y.2.2]
 have Ly:=e1.size
 generalize GZ:H1.size=cc at*
 generalize (H1.new 224 [i64 0,u64 0]).wr cc [i64 y.2.1,u64 y.2.2]=H2 at*
 have h2:=h1.ext f2 (fun _ _ h=>h)
 have b2:=f2.own b1 (fun h=>h)
 have eS:ag S H H2:=(f0.mono fun _ _ h=>h.elim).trans (e1.trans (f2.mono fun _ _ h=>h.elim))
 have hsS:∀z,S1 z→S z∨H.size≤z:=fun z hz=>(eK z hz).imp id fun h=>by omega
 refine v2 aoZ (ae c2) ?_
 refine am.dec (fun hk=>?_) (fun hk=>?_)<;>refine v1 aoZ ?_
 ·exact⟨y,hy,.inl ⟨by omega,rfl,S1,h2,eS,hsS⟩⟩
 obtain⟨t,vv,I,Sn,B,k,d,n,hi,m,ho,d1,d2,hS,HR⟩:=h2
 refine v3 (ae ho) (ae b2) (ae c2) ?_
 refine(n.lf x key y.2.2 hi).mono ?_
 rintro _ H3 (⟨bO,_⟩| ⟨_,rfl,y',FH,Et,qN,e3,GR⟩)
 ·refine absurd ⟨(HR.live x).2 hx,fun y' FH=>?_⟩ bO
  rw[hy]at FH
  injection FH with FH
  subst FH
  unfold fA
  omega
 rw[hy]at FH
 injection FH with FH
 subst FH
 refine vs ?_
 have hBl:=m.slt
 have dL:=eS.size
 have MH:=e3.size
 have hos:=aB ho
 refine⟨y,hy,.inr ⟨by omega,rfl,fun z=>Et z∨B.S z∨z=s,⟨t,vv,I,Et,B,k,d,n,qN,m.ext e3 (fun z hz h=>(d1 z h).1 hz),e3.own ho (fun h=>(d1 _ h).2 rfl),fun z hz=>?_,d2,fun z=>Iff.rfl,HR.key hx hy⟩,?_,fun z hz=>?_⟩⟩
 ·rcases GR z hz with h|h
  ·exact d1 z h
  ·exact⟨fun h2=>by have:=hBl z h2;omega,by omega⟩
 ·refine⟨by omega,fun z hz hn=>?_⟩
  rw[e3.aM z (by omega) (fun h=>?_),eS.aM z hz hn]
  rcases hsS z ((hS z).2 (.inl h))with h|h
  ·exact hn h
  ·omega
 ·rcases hz with h|h
  ·rcases GR z h with h|h
   ·exact hsS z ((hS z).2 (.inl h))
   ·exact .inr (by omega)
  ·exact hsS z ((hS z).2 (.inr h))
end
end Go.Proofs.YtjlnnljohemifaaGreat

namespace Go.Proofs.YtjlnnljohemifaaGreat
open Go Go.Vc
def lm(n:Int)(e:Ed):Bool:=decide (0≤e.f) && decide (e.f<n) && (decide (0≤e.t) && decide (e.t<n))
def ec(n:Int)(es:List Ed):Bool:=es.all (lm n) && (decide (0≤n) && (decide (n≤4096) && decide (es.length≤65536)))
theorem fY(n:Int)(es:List Ed):ec n es=true↔fj n es:=by
 simp only[ec,lm,ao7,aoL,apn]
 exact⟨fun⟨h1,h2,h3,h4⟩=>⟨h2,h3,h4,fun e he=>⟨(h1 e he).1.1,(h1 e he).1.2,(h1 e he).2.1,(h1 e he).2.2⟩⟩,fun h=>⟨fun e he=>have k:=h.ends e he;⟨⟨k.1,k.2.1⟩,k.2.2⟩,h.n0,h.n1,h.len⟩⟩
def zK(n:Int)(s:Value):Value:=.agg [i64 n,s].toArray
theorem C7{H:Hp}{n:Int}{a:Option Addr}{c:Nat}{es:List Ed}(h:cO H 3 (.slice a es.length c) es.length (dX es))(hm:es.length≤1000000000):
  af Tryz.prog G4 [zK n (.slice a es.length c)] H fun v H'=>aw (v= .bool (ec n es)∧ah H H'):=by
 refine bv Hm ?_
 have f0:ah H (H.new 52 [i64 n,.slice a es.length c]):=(ag.refl _ _).new _ _
 have b0:=az H 52 [i64 n,.slice a es.length c]
 simp(disch:=(first|omega| (simp only[Zs]<;>omega)|fail)) only[go_sem, ↓reduceIte,Zv,zK]
 generalize H.new 52 [i64 n,.slice a es.length c]=H0 at*
 have h0:=h.fresh f0
 refine aX.intro (fun m env H'=>ah H0 H'∧∃j:Nat,m=es.length - j∧j≤es.length∧(∀e∈es.take j,lm n e=true)∧env=[(1,ptr H.size),(6,.slice a es.length c),(7,i64 es.length),(8,i64 j)]) es.length ⟨ag.refl _ _,0,by omega,by omega,by simp,rfl⟩ ?_
 rintro m env H1 ⟨f1,j,T7,hj,cX,rfl⟩
 have h1:=h0.fresh f1
 have b1:=f1.own b0 (fun h=>h)
 refine vs ?_
 refine am.dec (fun aO=>?_) (fun aO=>?_)<;>refine vs ?_
 ·have fS:j<es.length:=by omega
  obtain⟨e,he⟩:∃e,es[j]? =some e:=⟨_,aoh fS⟩
  obtain⟨_,b,o,lb,rfl,eW,nT,eG⟩:=cO.DP h1 he
  refine⟨⟨by omega,by omega⟩,?_⟩
  have bK:=aon he
  simp(disch:=(first|omega| (simp only[Zs]<;>omega)|fail)) only[go_sem, ↓reduceIte,Zv,eW,Int.toNat_natCast,eG,eE]
  refine⟨by omega,?_⟩
  have q2:=az H1 61 [i64 0,i64 0,i64 0]
  simp(disch:=(first|omega| (simp only[Zs]<;>omega)|fail)) only[go_sem, ↓reduceIte,Zv,eG,eE,q2]
  have q3:=ai (l:=[i64 e.f,i64 e.t,i64 e.w]) q2
  have f3:ah H1 ((H1.new 61 [i64 0,i64 0,i64 0]).wr H1.size [i64 e.f,i64 e.t,i64 e.w]):=((ag.refl _ _).new _ _:ah H1 _).then ((ag.refl (fun z=>z=H1.size) _).wr (fun _=>rfl) _) (fun z hz=>by omega)
  have b3:=f3.own b1 (fun h=>h)
  have no:lm n e=false→ec n es=false:=fun hf=>by
   unfold ec
   rw[Bool.and_eq_false_iff]
   exact .inl (List.all_eq_false.2 ⟨e,bK,by rw[hf];simp⟩)
  generalize (H1.new 61 [i64 0,i64 0,i64 0]).wr H1.size [i64 e.f,i64 e.t,i64 e.w]=H3 at*
  have fz:=f0.trans (f1.trans f3)
  refine v2 (ae q3) (ae b3) ?_
  refine am.dec (fun g1=>?_) (fun g1=>?_)<;>refine v2 (ae q3) (ae b3) ?_
  ·exact⟨aoE Value.bool (no (by simp[lm];omega)).symm,fz⟩
  refine am.dec (fun g2=>?_) (fun g2=>?_)<;>refine v2 (ae q3) (ae b3) ?_
  ·exact⟨aoE Value.bool (no (by simp[lm];omega)).symm,fz⟩
  refine am.dec (fun g3=>?_) (fun g3=>?_)<;>refine v2 (ae q3) (ae b3) ?_
  ·exact⟨aoE Value.bool (no (by simp[lm];omega)).symm,fz⟩
  refine am.dec (fun g4=>?_) (fun g4=>?_)<;>refine v2 (ae q3) (ae b3) ?_
  ·exact⟨aoE Value.bool (no (by simp[lm];omega)).symm,fz⟩
  rw[wrap64 (n:=(j:Int)+1) (by omega) (by omega)]
  refine⟨es.length - (j+1),by omega,f1.trans f3,j+1,rfl,by omega,?_,rfl⟩
  intro e' iG
  rw[aoT,he]at iG
  rcases aou.1 iG with iG|iG
  ·exact cX e' iG
  ·rw[aoq.1 iG];simp[lm];omega
 ·have fS:j=es.length:=by omega
  subst fS
  rw[aoP]at cX
  have hr:ec n es=(decide (0≤n) && (decide (n≤4096) && decide (es.length≤65536))):=by
   unfold ec
   rw[apn.2 cX,apz]
  rw[hr]
  refine v1 (ae b1) ?_
  refine am.dec (fun g1=>?_) (fun g1=>?_)<;>refine v1 (ae b1) ?_
  ·refine am.dec (fun g2=>?_) (fun g2=>?_)<;>refine v1 (ae b1) ?_
   ·exact⟨by rw[aow (show 0≤n by omega),aow (show n≤4096 by omega),apz,apz];exact aoE Value.bool (by rw[decide_eq_decide];omega),f0.trans f1⟩
   ·exact⟨by rw[aoJ (show¬n≤4096 by omega),ap1,Bool.and_false];rfl,f0.trans f1⟩
  ·exact⟨by rw[aoJ (show¬0≤n by omega),ap1];rfl,f0.trans f1⟩
def fE(es:List Ed)(i:Int):E2:=match es[i.toNat]? with|some e=>(e.f.toNat,e.t.toNat)|none=>(0,0)
def wE(es:List Ed)(i:Int):Int:=match es[i.toNat]? with|some e=>e.w|none=>0
theorem BA{es:List Ed}{i:Nat}{e:Ed}(h:es[i]? =some e):fE es (i:Int)=(e.f.toNat,e.t.toNat):=by unfold fE;rw[Int.toNat_natCast,h]
theorem uV{es:List Ed}{i:Nat}{e:Ed}(h:es[i]? =some e):wE es (i:Int)=e.w:=by unfold wE;rw[Int.toNat_natCast,h]
def LO(es:List Ed)(i:Int):Prop:=0≤i∧i<es.length
theorem LO.get{es:List Ed}{i:Int}(h:LO es i):∃ (k:Nat) (e:Ed),i=(k:Int)∧es[k]? =some e∧k<es.length:=
 ⟨i.toNat,_,by have:=h.1;omega,aoh (by have:=h.1;have:=h.2;omega),by have:=h.1;have:=h.2;omega⟩
def allI(n:Nat):List Int:=(List.range n).map fun i:Nat=>(i:Int)
theorem Gd{n:Nat}{i:Int}:i∈allI n↔0≤i∧i<n:=by
 unfold allI
 rw[aoC]
 constructor
 ·rintro⟨k,hk,rfl⟩;rw[apj]at hk;omega
 ·intro h;exact⟨i.toNat,apj.2 (by omega),by omega⟩
theorem vK(n:Nat):allI (n+1)=allI n++[(n:Int)]:=by unfold allI;rw[aqp,aoN];rfl
theorem uW(n:Nat):(allI n).length=n:=by simp[allI]
theorem se{n:Int}{es:List Ed}(h:fj n es){i:Int}(hi:LO es i):(fE es i).1<n.toNat∧(fE es i).2<n.toNat:=by
 obtain⟨k,e,rfl,he,_⟩:=hi.get
 rw[BA he]
 have:=h.ends e (aon he)
 simp only
 omega
def ee(n:Nat)(ks:List E2):List Int:=(List.range n).map fun v=>(aD ks v:Int)
theorem qA(n:Nat)(ks:List E2):(ee n ks).length=n:=by simp[ee]
theorem iK{n:Nat}(ks:List E2){v:Nat}(h:v<n):(ee n ks)[v]? =some (aD ks v:Int):=by unfold ee;rw[aoG,List.getElem?_range h];rfl
theorem Qc(n:Nat):ee n []=allI n:=rfl
theorem NH(n:Nat)(ks:List E2)(e:E2):ee n (ks++[e])=(ee n ks).map fun x=>if x=((max (aD ks e.1) (aD ks e.2):Nat):Int)then((min (aD ks e.1) (aD ks e.2):Nat):Int)else x:=by
 unfold ee
 rw[List.map_map]
 refine aqf fun v _=>?_
 rw[mR]
 unfold Dr
 simp only[Function.comp_apply]
 by_cases h:aD ks v=max (aD ks e.1) (aD ks e.2)
 ·rw[if_pos h,if_pos (by rw[h])]
 ·rw[if_neg h,if_neg (by omega)]
structure jU(n:Int)(es:List Ed)(ks:List Int):Prop where
 ins:∀i∈ks,LO es i
 vU:gF (ks.map (fE es))
 all:∀u v,bF ((allI es.length).map (fE es)) u v→bF (ks.map (fE es)) u v
theorem js{es:List Ed}{i:Int}:i∈allI es.length↔LO es i:=Gd
theorem jU.sub{n:Int}{es:List Ed}{ks:List Int}(h:jU n es ks):∀i∈ks,i∈allI es.length:=fun i hi=>js.2 (h.ins i hi)
theorem jU.iff{n:Int}{es:List Ed}{ks:List Int}(h:jU n es ks)(u v:Nat):bF (ks.map (fE es)) u v↔bF ((allI es.length).map (fE es)) u v:=
 ⟨et fun x hx=>by obtain⟨i,hi,rfl⟩:=aoC.1 hx;exact aoC.2 ⟨i,h.sub i hi,rfl⟩,h.all u v⟩
theorem jU.abj{n:Int}{es:List Ed}{ks:List Int}(hr:fj n es)(h:jU n es ks):∀i∈ks,(fE es i).1<n.toNat∧(fE es i).2<n.toNat:=fun i hi=>se hr (h.ins i hi)
def NI(es:List Ed)(ks:List Int):Prop:=Loc (fE es) (wE es) (allI es.length) ks
theorem Qd{n:Int}{es:List Ed}(hr:fj n es){ks L:List Int}(h:jU n es ks)(hL:L.Perm (allI es.length))(hs:L.Pairwise fun i j=>wE es i≤wE es j):
  (ks.map (wE es)).sum=((bT (fE es) L).map (wE es)).sum↔NI es ks:=by
 obtain⟨g1,g2,g3⟩:=vx (e:=fE es) L
 have Ja:∀i∈bT (fE es) L,i∈allI es.length:=fun i hi=>hL.mem_iff.1 (g2 i hi)
 have hb:∀i∈allI es.length,(fE es i).1<n.toNat∧(fE es i).2<n.toNat:=fun i hi=>se hr (js.1 hi)
 have l1:=E5 (n:=n.toNat) (E:=allI es.length) Ja g1 hb (fun i hi=>g3 i (hL.mem_iff.2 hi))
 have l2:=E5 (n:=n.toNat) (E:=allI es.length) h.sub h.vU hb (fun i hi=>h.all _ _ (kC (aoC.2 ⟨i,hi,rfl⟩)))
 have agj:Loc (fE es) (wE es) (allI es.length) (bT (fE es) L):=fun i hi=>MM (e:=fE es) hs i (hL.mem_iff.2 hi)
 have:=(Pk (n:=n.toNat) Ja g1 h.sub h.vU hb (by omega) agj).2
 exact⟨fun he=>this.1 he.symm,fun hl=>(this.2 hl).symm⟩
end Go.Proofs.YtjlnnljohemifaaGreat
