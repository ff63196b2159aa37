/- Texts put behind each other. -/
import Derived.Test.YthpjfeolagohkaaGreatK98
import Derived.Test.YthpjfeolagohkaaGreatK26
import Derived.Test.YthpjfeolagohkaaGreatK28
import Derived.Test.YthpjfeolagohkaaGreatK34
set_option maxRecDepth 100000
set_option maxHeartbeats 8000000
set_option linter.unusedVariables false
set_option linter.unusedSimpArgs false
namespace Go.Proofs.YthpjfeolagohkaaGreat
open Go Go.Vc
structure cr(lt:Int→Int→Bool)(d:Int)(l:List Int)(pl:Int→Option Int):Prop where
 heap:fk lt d l
 pl:DI l pl
theorem cr.nil(lt:Int→Int→Bool)(d:Int):cr lt d [] (fun _=>none):=
 ⟨fun j _ h=>by simp at h,fun z k=>by simp⟩
theorem cr.congr{lt lt':Int→Int→Bool}{d:Int}(hf:cY d){l:List Int}{pl:Int→Option Int}(h:cr lt d l pl)(hfg:∀z∈l,∀y∈l,lt z y=lt' z y):cr lt' d l pl:=by
 refine⟨fun j h1 h2=>?_,h.pl⟩
 have hp:=cQ hf h1
 have e:∀k,k<l.length→l.getD k 0∈l:=fun k hk=>by
  rw[aqf,aqb hk];exact List.getElem_mem hk
 rw[←hfg _ (e j h2) _ (e _ (show pa d j<l.length by omega))]
 exact h.heap j h1 h2
theorem cr.add{lt:Int→Int→Bool}(ho:bC lt){d:Int}(hf:cY d){l:List Int}{pl:Int→Option Int}(h:cr lt d l pl){x:Int}(hx:pl x=none):
  cr lt d (fS lt d x l.length (l++[x]) pl l.length).l (fS lt d x l.length (l++[x]) pl l.length).pl∧
   (∀z,z∈(fS lt d x l.length (l++[x]) pl l.length).l↔z=x∨z∈l)∧(fS lt d x l.length (l++[x]) pl l.length).l.length=l.length+1∧
   (fS lt d x l.length (l++[x]) pl l.length).asked≤lw d l.length:=by
 have Vs:=hf.1
 have ci:∀k,k<l.length→(l++[x]).getD k 0=l.getD k 0:=fun k hk=>by
  rw[aqf,aqf,aqs hk]
 have QZ:∀j:Nat,1≤j→j<l.length+1→pa d j≠l.length:=fun j h1 h2=>by have:=cQ hf h1;omega
 have hP:SX (l++[x]) pl l.length x:=by
  intro z hz k
  rw[h.pl z k]
  constructor
  ·rintro⟨a,b⟩
   have hk:=(aqc.1 b).1
   exact⟨a,by omega,by rw[aqs hk];exact b⟩
  ·rintro⟨a,b,c⟩
   refine⟨a,?_⟩
   have hk:=(aqc.1 c).1
   simp only[aqj,aqn]at hk
   rw[aqs (by omega)]at c
   exact c
 have lJ:x∉l:=fun hm=>by
  obtain⟨k,hk⟩:=aqB hm
  have:=(h.pl x k).2 ⟨by omega,by simpa using hk⟩
  rw[hx]at this;cases this
 have MN:∀z,JG (l++[x]) l.length z↔z∈l:=by
  intro z
  constructor
  ·rintro⟨k,k1,k2⟩
   have hk:=(aqc.1 k2).1
   simp only[aqj,aqn]at hk
   rw[aqs (by omega)]at k2
   exact aqg k2
  ·intro hm
   obtain⟨k,hk⟩:=aqB hm
   have:=(aqc.1 hk).1
   exact⟨k,by omega,by rw[aqs this];exact hk⟩
 obtain⟨p1,p2⟩:=DJ (lt:=lt) (d:=d) x l.length (l++[x]) pl l.length (by simp) (by omega) (by simp;omega) hP (fun hc=>lJ ((MN x).1 hc))
 refine⟨⟨KL ho hf x _ _ _ _ (by simp) (by omega) (by simp;omega) ⟨fun j h1 h2 h3 h4=>?_,fun j h1 h2 h3 h4=>?_⟩ (fun j h1 h2 h3=>?_),p1⟩,fun z=>by rw[p2 z,MN z],by rw[wC];simp,?_⟩
 ·simp only[Int.toNat_natCast]at h3 h4
  have:j<l.length:=by simp at h2;omega
  have hp:=cQ hf h1
  rw[ci j this,ci _ (by omega)]
  exact h.heap j h1 this
 ·simp only[Int.toNat_natCast]at h3
  exact absurd h3 (QZ j h1 (by simpa using h2))
 ·simp only[Int.toNat_natCast]at h3
  exact absurd h3 (QZ j h1 (by simpa using h2))
 ·have:=GV lt d x l.length (l++[x]) pl l.length
  unfold lw
  simpa using this
theorem cr.Y5{lt:Int→Int→Bool}(ho:bC lt){d:Int}(hf:cY d){l:List Int}{pl:Int→Option Int}(h:cr lt d l pl){x i:Int}(hx:pl x=some i):
  cr lt d (cW lt d x l pl i).1 (cW lt d x l pl i).2.1∧(cW lt d x l pl i).1.length=l.length - 1∧
   (∀z,z∈(cW lt d x l pl i).1↔z∈l∧z≠x)∧((cW lt d x l pl i).2.2:Int)≤d*(lw d ((l.length:Int) - 1):Nat)+1:=by
 obtain⟨a,b,c,e,g⟩:=MS ho hf h.heap h.pl hx
 exact⟨⟨a,b⟩,c,e,g⟩
theorem cr.mem{lt:Int→Int→Bool}{d:Int}{l:List Int}{pl:Int→Option Int}(h:cr lt d l pl)(z:Int):z∈l↔pl z≠none:=by
 constructor
 ·intro hm
  obtain⟨k,hk⟩:=aqB hm
  rw[(h.pl z k).2 ⟨by omega,by simpa using hk⟩]
  simp
 ·intro hn
  obtain⟨k,hk⟩:=Option.ne_none_iff_exists'.1 hn
  exact aqg ((h.pl z k).1 hk).2
theorem cr.least{lt:Int→Int→Bool}(ho:bC lt){d:Int}(hf:cY d){l:List Int}{pl:Int→Option Int}(h:cr lt d l pl){x:Int}(hx:l[0]? =some x):∀z∈l,z≠x→lt x z=true:=by
 intro z hz aR
 obtain⟨k,hk⟩:=aqB hz
 have hkl:=(aqc.1 hk).1
 have:=GY ho hf h.heap k k (aqm _) hkl
 rw[aqf,aqf,hk,hx]at this
 rcases ho.PA x z (Ne.symm aR)with h1|h1
 ·exact h1
 ·simp only[Option.getD_some]at this
  rw[h1]at this;cases this
theorem cr.raise{lt lt':Int→Int→Bool}(ho:bC lt)(ho':bC lt'){d:Int}(hf:cY d){l:List Int}{pl:Int→Option Int}(h:cr lt d l pl){x i:Int}(hx:pl x=some i)(aN:∀a∈l,∀b∈l,a≠x→b≠x→lt' a b=lt a b)(Yy:∀z∈l,z≠x→lt z x=false→lt' z x=false):
  cr lt' d (fS lt' d x i.toNat l pl i).l (fS lt' d x i.toNat l pl i).pl∧(∀z,z∈(fS lt' d x i.toNat l pl i).l↔z∈l)∧(fS lt' d x i.toNat l pl i).l.length=l.length∧
   (fS lt' d x i.toNat l pl i).asked≤lw d ((l.length:Int) - 1):=by
 obtain⟨i0,hi⟩:=(h.pl x i).1 hx
 have qR:i.toNat<l.length:=(aqc.1 hi).1
 have wO:∀j,j<l.length→j≠i.toNat→l.getD j 0≠x:=fun j hj aR e=>by
  have:l[j]? =some x:=by rw[aqb hj,←e,aqf,aqb hj];rfl
  exact aR (h.pl.GW this hi)
 have bH:∀j,j<l.length→l.getD j 0∈l:=fun j hj=>by rw[aqf,aqb hj];exact List.getElem_mem hj
 have OG:=h.heap.but ho hf i.toNat
 have hO:¬JG l i x:=by
  rintro⟨k,k1,k2⟩
  have:=h.pl.GW k2 hi
  omega
 obtain⟨p1,p2⟩:=DJ (lt:=lt') (d:=d) x i.toNat l pl i (aqm _) i0 (by omega) (h.pl.ahh hi i0) hO
 refine⟨⟨KL ho' hf x _ _ _ _ (aqm _) i0 (by omega) ⟨fun j h1 h2 h3 h4=>?_,fun j h1 h2 h3 h4=>?_⟩ (fun j h1 h2 h3=>?_),p1⟩,fun z=>?_,wC _ _ _ _ _ _ _,?_⟩
 ·have:=cQ hf h1
  rw[aN _ (bH j h2) _ (bH _ (by omega)) (wO j h2 h3) (wO _ (by omega) h4)]
  exact OG.1 j h1 h2 h3 h4
 ·have:=cQ hf h1
  have:=cQ hf h4
  rw[aN _ (bH j h2) _ (bH _ (by omega)) (wO j h2 (by omega)) (wO _ (by omega) (by omega))]
  exact OG.2 j h1 h2 h3 h4
 ·have Yz:=cQ hf h1
  have aR:=wO j h2 (by omega)
  have:=h.heap j h1 h2
  rw[h3,show l.getD i.toNat 0=x by rw[aqf,hi];rfl]at this
  exact Yy _ (bH j h2) aR this
 ·rw[p2 z]
  constructor
  ·rintro(rfl| ⟨k,_,k2⟩)
   ·exact aqg hi
   ·exact aqg k2
  ·intro hm
   obtain⟨k,hk⟩:=aqB hm
   by_cases e:(k:Int)=i
   ·rw[show k=i.toNat by omega,hi]at hk;injection hk with hk;exact .inl hk.symm
   ·exact .inr ⟨k,e,hk⟩
 ·have e1:=GV lt' d x i.toNat l pl i
  have e2:=ly hf ((l.length:Int) - 1).toNat i ((l.length:Int) - 1) (aqm _) (by omega)
  unfold lw at e2 ⊢
  omega
structure Rw where
 r:Nat
 S:Nat→Prop
 l:List Int
 pl:Int→Option Int
def Tq:Option Rw→Value
 |none=>.pointer none
 |some R=>ptr R.r
structure pj(H:Hp)(n c:Nat)(C:Nat→Prop)(rv:Value)(fp:Option Nat)(d st:Int)(w:Nw)(rs:List (Option Rw)):Prop where
 own:H.own n=some [ptr c,i64 d,rv]
 cells:ba H c C st w
 sl:Sl H 1 rv rs.length (rs.map Tq) fp
 row:∀ (h:Nat) R,rs[h]? =some (some R)→dK H R.r R.S d R.l R.pl
 nC:¬C n
 ya:∀b,fp=some b→b≠n∧¬C b
 mY:∀ (h:Nat) R,rs[h]? =some (some R)→∀x,R.S x→¬C x∧x≠n∧fp≠some x
 pT:∀ (h h':Nat) R R',rs[h]? =some (some R)→rs[h']? =some (some R')→h≠h'→∀x,R.S x→¬R'.S x
def EA(n:Nat)(C:Nat→Prop)(fp:Option Nat)(rs:List (Option Rw))(z:Nat):Prop:=C z∨z=n∨fp=some z∨∃ (h:Nat) (R:Rw),rs[h]? =some (some R)∧R.S z
structure Tr(d:Int)(w:Nw)(rs:List (Option Rw)):Prop where
 Aw:cY d
 hl:rs.length=w.hs.length
 hs:∀h:Nat,w.hs[h]? =some true↔∃R,rs[h]? =some (some R)
 h0:rs[0]? =some none
 ok:∀ (h:Nat) R,rs[h]? =some (some R)→cr (aQ w) d R.l R.pl
 mem:∀ (h:Nat) R,rs[h]? =some (some R)→∀x:Int,x∈R.l↔0≤x∧∃e,w.cs[x.toNat]? =some (((h:Nat):Int),e)
 len:∀ (h:Nat) R,rs[h]? =some (some R)→(R.l.length:Int)=w.len h
def dB(H:Hp)(n:Nat)(S:Nat→Prop)(d st:Int)(w:Nw):Prop:=∃c C rv fp rs,pj H n c C rv fp d st w rs∧Tr d w rs∧(∀z,EA n C fp rs z↔S z)
theorem pj.slt{H:Hp}{n c:Nat}{C:Nat→Prop}{rv:Value}{fp:Option Nat}{d st:Int}{w:Nw}{rs:List (Option Rw)}(h:pj H n c C rv fp d st w rs):∀z,EA n C fp rs z→z<H.size:=by
 rintro z (hz|rfl|hz| ⟨i,R,hR,hz⟩)
 ·exact h.cells.slt z hz
 ·exact aB h.own
 ·exact Sl.lt (hz▸h.sl)
 ·exact(h.row i R hR).slt z hz
theorem pj.ext{H H':Hp}{n c:Nat}{C T:Nat→Prop}{rv:Value}{fp:Option Nat}{d st:Int}{w:Nw}{rs:List (Option Rw)}(h:pj H n c C rv fp d st w rs)(e:ag T H H')(hd:∀z,EA n C fp rs z→¬T z):pj H' n c C rv fp d st w rs:=
 ⟨e.own h.own (hd n (.inr (.inl rfl))),h.cells.ext e (fun x hx=>hd x (.inl hx)),h.sl.ext e (fun b hb=>hd b (.inr (.inr (.inl hb)))),fun i R hR=>(h.row i R hR).ext e (fun x hx=>hd x (.inr (.inr (.inr ⟨i,R,hR,hx⟩)))),h.nC,h.ya,h.mY,h.pT⟩
theorem dB.slt{H:Hp}{n:Nat}{S:Nat→Prop}{d st:Int}{w:Nw}(h:dB H n S d st w):∀z,S z→z<H.size:=by
 obtain⟨c,C,rv,fp,rs,m,l,hS⟩:=h
 exact fun z hz=>m.slt z ((hS z).2 hz)
theorem dB.ext{H H':Hp}{n:Nat}{S T:Nat→Prop}{d st:Int}{w:Nw}(h:dB H n S d st w)(e:ag T H H')(hd:∀z,S z→¬T z):dB H' n S d st w:=by
 obtain⟨c,C,rv,fp,rs,m,l,hS⟩:=h
 exact⟨c,C,rv,fp,rs,m.ext e (fun z hz=>hd z ((hS z).1 hz)),l,hS⟩
theorem dB.fresh{H H':Hp}{n:Nat}{S:Nat→Prop}{d st:Int}{w:Nw}(h:dB H n S d st w)(e:ah H H'):dB H' n S d st w:=h.ext e fun _ _ h=>h
theorem yT(cap d:Int)(H:Hp):af Tryz.prog NX [i64 cap,i64 d] H fun v H'=>ax (
  ah H H'∧((¬ (0≤cap∧cap≤65536)∧v= .tuple [.pointer none,i64 31].toArray)∨((0≤cap∧cap≤65536)∧¬cY d∧v= .tuple [.pointer none,i64 22].toArray)∨
   ((0≤cap∧cap≤65536)∧cY d∧∃n S,v= .tuple [ptr n,i64 0].toArray∧dB H' n S d 0 ⟨[false],List.replicate cap.toNat (0,0,0)⟩∧∀x,S x→H.size≤x))):=by
 refine bm Oa ?_
 refine vs ?_
 refine(lO cap H).mono ?_
 rintro _ H1 ⟨f1,⟨hb,rfl⟩| ⟨hb,c,C,rfl,c1,hC⟩⟩
 ·refine vs ?_
  exact⟨f1,.inl ⟨hb,rfl⟩⟩
 refine vs ?_
 refine(yN d H1).mono ?_
 rintro _ H2 ⟨f2,⟨hf,rfl⟩| ⟨hf,r,S,rfl,r2,hS⟩⟩
 ·refine vs ?_
  exact⟨f1.trans f2,.inr (.inl ⟨hb,hf,rfl⟩)⟩
 refine v1 aqZ ?_
 have f3:ah H2 ((H2.new 212 [.pointer none]).new 217 [ptr c,i64 d,.slice (some ⟨H2.size,0,none⟩) 1 1]):=((ag.refl _ _).new _ _).new _ _
 have z1:=f1.size
 have z2:=f2.size
 have yJ:=c1.slt
 refine⟨(f1.trans f2).trans f3,.inr (.inr ⟨hb,hf,H2.size+1,EA (H2.size+1) C (some H2.size) [none],rfl,⟨c,C,.slice (some ⟨H2.size,0,none⟩) 1 1,some H2.size,[none],
  ⟨bz (by simp only[am]),(c1.fresh f2).fresh f3,?_,fun h R hR=>?_,fun h=>by have:=yJ _ h;omega,fun b hb=>?_,fun h R hR=>?_,fun h h' R R' hR=>?_⟩,
  ⟨hf,rfl,fun h=>?_,rfl,fun h R hR=>?_,fun h R hR=>?_,fun h R hR=>?_⟩,fun z=>Iff.rfl⟩,fun x hx=>?_⟩)⟩
 ·exact(Sl.bU (size:=1) (n:=1) (xs:=[.pointer none]) rfl rfl).ext ((ag.refl (fun _=>False) _).new _ _) (fun _ _ h=>h)
 ·rcases h with _|h<;>simp at hR
 ·injection hb with hb
  subst hb
  exact⟨by omega,fun h=>by have:=yJ _ h;omega⟩
 ·rcases h with _|h<;>simp at hR
 ·rcases h with _|h<;>simp at hR
 ·rcases h with _|h<;>simp
 ·rcases h with _|h<;>simp at hR
 ·rcases h with _|h<;>simp at hR
 ·rcases h with _|h<;>simp at hR
 ·rcases hx with hx|rfl|hx| ⟨i,R,hR,hx⟩
  ·exact hC x hx
  ·omega
  ·injection hx with hx;omega
  ·rcases i with _|i<;>simp at hR
theorem Hj{n c:Nat}{C:Nat→Prop}{rv:Value}{d st:Int}{w:Nw}(hn:¬C n):OD (.iface 150 (ptr n)) (fun H k=>ba H c C (min (st+k) 4611686018427387904) w∧H.own n=some [ptr c,i64 d,rv])
  (fun x=>C x∨x=n) (aQ w) (df w.cs):=by
 refine⟨fun H k a b ha hb h=>⟨_,_,cT,ptr c,rfl,fW (off:=0) (by kernel_rfl) (ae h.2) rfl,(jr h.1 a b).mono ?_⟩,ab4 (x:=(0,cT)) (by kernel_rfl),fun H H' k U h e hd=>?_,fun H k h x hx=>?_⟩
 ·rintro v H' ⟨rfl,h1,e⟩
  rw[if_pos ⟨ha,hb⟩]at h1
  have hs:gf (min (st+(k:Nat)) 4611686018427387904) 1=min (st+((k+1:Nat):Int)) 4611686018427387904:=by
   unfold gf
   rw[if_neg (by omega)]
   split<;>omega
  rw[hs]at h1
  exact⟨by rw[DK ha hb],⟨h1,e.own h.2 hn⟩,e.mono fun z _ hz=>.inl hz⟩
 ·exact⟨h.1.ext e (fun x hx=>hd x (.inl hx)),e.own h.2 (hd n (.inr rfl))⟩
 ·rcases hx with hx|rfl
  ·exact h.1.slt x hx
  ·exact aB h.2
theorem Hk{H:Hp}{n:Nat}{S:Nat→Prop}{d st:Int}{w:Nw}(h:dB H n S d st w):af Tryz.prog qq [ptr n] H fun v H'=>ax (
  (w.hs.length=65537∧v=i64 0∧H=H')∨
  (w.hs.length≠65537∧v=i64 w.hs.length∧∃S',dB H' n S' d st w.make∧ag S H H'∧∀x,S' x→S x∨H.size≤x)):=by
 obtain⟨c,C,rv,fp,rs,m,l,hS⟩:=h
 refine bm Dh ?_
 refine v1 (ae m.own) ?_
 refine(j9 m.cells).mono ?_
 rintro _ H1 (⟨h1,rfl,rfl⟩| ⟨h1,rfl,C',c1,e1,Au⟩)
 ·refine vs ?_
  exact .inl ⟨h1,rfl,rfl⟩
 have gA:0<rs.length:=(aqc.1 l.h0).1
 have o8:=l.hl
 have o1:=e1.own m.own m.nC
 refine vs ?_
 refine ar.cP (aqp (by omega)) ?_
 refine v1 (ae o1) ?_
 refine(yN d H1).mono ?_
 rintro _ H2 ⟨f2,⟨hf,_⟩| ⟨_,r,Sr,rfl,r2,WO⟩⟩
 ·exact absurd l.Aw hf
 have o2:=f2.own o1 (fun h=>h)
 refine v1 (ae o2) ?_
 have AL:=m.cells.AL
 have fD:=m.slt
 have Tp:=c1.slt
 have AH:=r2.slt
 have z1:=e1.size
 have z2:=f2.size
 have e0:ag (fun _=>False) H2 (H2.new 212 [ptr r]):=(ag.refl _ _).new _ _
 have JK:=(m.sl.ext e1 (fun b hb h=>(m.ya b hb).2 h)).ext f2 (fun _ _ h=>h)
 refine Sl.append (JK.ext e0 (fun _ _ h=>h)) (Sl.bU (size:=1) (xs:=[ptr r]) rfl rfl).rd rfl (by intro v hv;simp only[aql]at hv;subst hv;rfl) (by omega) ?_
 intro v' H3 bI s3 e3 eB
 have o3:=e3.own (e0.own o2 (fun h=>h)) (fun e=>(m.ya n e).1 rfl)
 obtain⟨a',YR,Pp⟩:=db.SR s3.rd
 subst Pp
 refine v1 o3 ?_
 generalize Pp:Value.slice a' (rs.length+1) YR=v' at*
 have e4:ag (fun z=>z=n) H3 (H3.wr n [ptr c,i64 d,v']):=(ag.refl (fun z=>z=n) _).wr (fun _=>rfl) _
 have hn:=aB m.own
 have VG:∀b,fp=some b→b<H.size:=fun b hb=>fD b (.inr (.inr (.inl hb)))
 have hCl:∀z,C z→z<H.size:=fun z hz=>fD z (.inl hz)
 have Fv:∀b,bI=some b→fp=some b∨H2.size≤b:=fun b hb=>by
  rcases eB with h| ⟨z,h,h5,_⟩
  ·exact .inl (h▸hb)
  ·rw[h]at hb;injection hb with hb;subst hb;rw[am]at h5;exact .inr (by omega)
 have Ha:∀z,C' z→C z∨H.size≤z:=Au
 have OR:ag (fun z=>fp=some z) H2 H3:=(e0.mono fun _ _ h=>h.elim).pL e3 (fun z _ h=>h)
 have ci:∀ (h:Nat) R,(rs++[some (⟨r,Sr,[],fun _=>none⟩:Rw)])[h]? =some (some R)→rs[h]? =some (some R)∨(h=rs.length∧R=⟨r,Sr,[],fun _=>none⟩):=fun h R hR=>by
  rcases arA h rs.length with h5|h5|h5
  ·rw[aqs h5]at hR;exact .inl hR
  ·subst h5
   rw[aqD (aqm _),ari]at hR
   simp only[aqE,aqk]at hR
   exact .inr ⟨rfl,hR.symm⟩
  ·rw[aqo (by rw[aqj,aqn];omega)]at hR
   cases hR
 have hold:∀ (h:Nat) R,rs[h]? =some (some R)→∀x,R.S x→¬C x∧x≠n∧fp≠some x∧x<H.size:=fun h R hR x hx=>
  ⟨(m.mY h R hR x hx).1,(m.mY h R hR x hx).2.1,(m.mY h R hR x hx).2.2,fD x (.inr (.inr (.inr ⟨h,R,hR,hx⟩)))⟩
 have Un:∀ (x:Nat) (e:Int×Int),w.cs[x]? ≠some (((rs.length:Nat):Int),e):=fun x e hx=>by
  have:=(m.cells.home _ (aqg hx)).2
  simp only at this
  omega
 refine .inr ⟨h1,rfl,EA n C' bI (rs++[some ⟨r,Sr,[],fun _=>none⟩]),⟨c,C',v',bI,rs++[some ⟨r,Sr,[],fun _=>none⟩],
  ⟨ai o3,?_,?_,fun h R hR=>?_,fun h=>?_,fun b hb=>⟨?_,fun h=>?_⟩,fun h R hR x hx=>⟨fun h=>?_,?_,fun h=>?_⟩,fun h h' R R' hR hR' aR x hx xX=>?_⟩,
  ⟨l.Aw,?_,fun h=>?_,?_,fun h R hR=>?_,fun h R hR x=>?_,fun h R hR=>?_⟩,fun z=>Iff.rfl⟩,?_,fun x hx=>?_⟩
 ·exact(((c1.ext f2 (fun _ _ h=>h)).ext OR (fun x hx e=>by
   rcases Ha x hx with h|h
   ·exact(m.ya x e).2 h
   ·have:=VG x e;omega)).ext e4 (fun x hx e=>by
   rcases Ha x hx with h|h
   ·exact m.nC (e▸h)
   ·omega))
 ·have:=s3.ext e4 (fun b hb e=>by
   rcases Fv b hb with h|h
   ·exact(m.ya b h).1 e
   ·omega)
  rw[aqj,aqy]
  exact this
 ·rcases ci h R hR with h5| ⟨rfl,rfl⟩
  ·exact((((m.row h R h5).ext e1 (fun x hx=>(hold h R h5 x hx).1)).ext f2 (fun _ _ h=>h)).ext OR (fun x hx=>(hold h R h5 x hx).2.2.1)).ext e4 (fun x hx=>(hold h R h5 x hx).2.1)
  ·exact(r2.ext OR (fun x hx e=>by have:=WO x hx;have:=VG x e;omega)).ext e4 (fun x hx e=>by have:=WO x hx;omega)
 ·rcases Ha n h with h|h
  ·exact m.nC h
  ·omega
 ·rcases Fv b hb with h|h
  ·exact(m.ya b h).1
  ·omega
 ·rcases Fv b hb with h5|h5
  ·rcases Ha b h with h6|h6
   ·exact(m.ya b h5).2 h6
   ·have:=VG b h5;omega
  ·have:=Tp b h;omega
 ·rcases ci _ R hR with h5| ⟨_,rfl⟩
  ·rcases Ha x h with h6|h6
   ·exact(hold _ R h5 x hx).1 h6
   ·have:=(hold _ R h5 x hx).2.2.2;omega
  ·have:=WO x hx;have:=Tp x h;omega
 ·rcases ci _ R hR with h5| ⟨_,rfl⟩
  ·exact(hold _ R h5 x hx).2.1
  ·have:=WO x hx;omega
 ·rcases ci _ R hR with h5| ⟨_,rfl⟩
  ·rcases Fv x h with h6|h6
   ·exact(hold _ R h5 x hx).2.2.1 h6
   ·have:=(hold _ R h5 x hx).2.2.2;omega
  ·have h7:=AH x hx
   rcases Fv x h with h6|h6
   ·have:=WO x hx;have:=VG x h6;omega
   ·omega
 ·rcases ci _ R hR with h5| ⟨h5,rfl⟩
  ·rcases ci _ R' hR' with h6| ⟨h6,rfl⟩
   ·exact m.pT h h' R R' h5 h6 aR x hx xX
   ·have:=WO x xX;have:=(hold _ R h5 x hx).2.2.2;omega
  ·rcases ci _ R' hR' with h6| ⟨h6,rfl⟩
   ·have:=WO x hx;have:=(hold _ R' h6 x xX).2.2.2;omega
   ·omega
 ·simp[Nw.make,o8]
 ·show(w.hs++[true])[h]? =some true↔_
  rcases arA h rs.length with h5|h5|h5
  ·rw[aqs h5,aqs (by omega)]
   exact l.hs h
  ·subst h5
   rw[aqD (aqm _),aqD (by omega),ari,o8,ari]
   simp
  ·rw[aqo (by rw[aqj,aqn];omega),aqo (by rw[aqj,aqn];omega)]
   simp
 ·rw[aqs gA];exact l.h0
 ·rcases ci h R hR with h5| ⟨rfl,rfl⟩
  ·exact l.ok h R h5
  ·exact cr.nil _ _
 ·rcases ci h R hR with h5| ⟨rfl,rfl⟩
  ·exact l.mem h R h5 x
  ·simp only[arR,false_iff]
   rintro⟨_,e,he⟩
   exact Un _ _ he
 ·rcases ci h R hR with h5| ⟨rfl,rfl⟩
  ·exact l.len h R h5
  ·show((0:Nat):Int)=w.len _
   unfold Nw.len
   rw[if_pos (by omega),arB.2 (fun x hx=>by
    have:=(m.cells.home x hx).2
    simp only[aqI]
    omega)]
 ·exact((e1.mono fun z _ hz=>(hS z).1 (.inl hz)).trans ((f2.mono fun _ _ h=>h.elim).trans (OR.mono fun z _ hz=>(hS z).1 (.inr (.inr (.inl hz)))))).trans (e4.mono fun z _ hz=>(hS z).1 (.inr (.inl hz)))
 ·rcases hx with hx|rfl|hx| ⟨i,R,hR,hx⟩
  ·rcases Ha x hx with h|h
   ·exact .inl ((hS x).1 (.inl h))
   ·exact .inr h
  ·exact .inl ((hS x).1 (.inr (.inl rfl)))
  ·rcases Fv x hx with h|h
   ·exact .inl ((hS x).1 (.inr (.inr (.inl h))))
   ·exact .inr (by omega)
  ·rcases ci _ R hR with h5| ⟨_,rfl⟩
   ·exact .inl ((hS x).1 (.inr (.inr (.inr ⟨i,R,h5,hx⟩))))
   ·have:=WO x hx;exact .inr (by omega)
theorem Tr.fN{d:Int}{w:Nw}{rs:List (Option Rw)}(l:Tr d w rs){g:Int}(h:w.has g):∃R,rs[g.toNat]? =some (some R):=(l.hs g.toNat).1 h.2
theorem yU{H:Hp}{n:Nat}{S:Nat→Prop}{d st:Int}{w:Nw}(h:dB H n S d st w)(g:Int):af Tryz.prog th [ptr n,i64 g] H fun v H'=>ax (
  ((¬w.has g∧v= .tuple [i64 0,.bool false].toArray)∨(w.has g∧w.len g=0∧v= .tuple [i64 0,.bool false].toArray)∨
   (w.has g∧∃x,df w.cs x∧(∃e,w.cs[x.toNat]? =some (g,e))∧v= .tuple [i64 x,.bool true].toArray∧∀y,0≤y→(∃e,w.cs[y.toNat]? =some (g,e))→y≠x→aQ w x y=true))∧H=H'):=by
 obtain⟨c,C,rv,fp,rs,m,l,hS⟩:=h
 refine bm EU ?_
 refine v1 (ae m.own) ?_
 refine(ij m.cells g).mono ?_
 rintro _ _ ⟨rfl,rfl⟩
 refine vs ?_
 refine ar.dec (fun hh=>?_) (fun hh=>?_)
 ·obtain⟨R,hR⟩:=l.fN hh
  have h1:=hh.1
  have aN:=(aqc.1 hR).1
  obtain⟨b,o,c',lb,e1,e2,e3,e4⟩:=db.get m.sl.rd (i:=g.toNat) (j:=0) (x:=ptr R.r) (by omega) (by simp[hR,Tq])
  subst e1
  have AJ:((g.toNat:Nat):Int)=g:=by omega
  refine v1 (ae m.own) ?_
  refine⟨by omega,?_⟩
  refine v2 e2 (show lb[o+g.toNat*1]? =some (ptr R.r)from e4) ?_
  refine(KK (m.row _ R hR) 0).mono ?_
  rintro _ _ ⟨rfl,rfl⟩
  have bq:=l.mem _ R hR
  rw[AJ]at bq
  have bf:=l.len _ R hR
  rw[AJ]at bf
  rw[show(if(0:Int)≤0 then R.l[Int.toNat 0]? else none)=R.l[0]? from rfl,UZ]
  cases h0:R.l[0]? with
  |none=>
   have:R.l.length=0:=by
    rcases arH R.l.length with h|h
    ·exact h
    ·rw[aqb h]at h0;cases h0
   simp(disch:=(first|omega| (simp only[Zs]<;>omega)|fail)) only[go_sem, ↓reduceIte,Zv,Option.isSome_none,Option.getD_none]
   exact⟨.inr (.inl ⟨hh,by omega,rfl⟩),rfl⟩
  |some x=>
   simp(disch:=(first|omega| (simp only[Zs]<;>omega)|fail)) only[go_sem, ↓reduceIte,Zv,Option.isSome_some,Option.getD_some]
   obtain⟨x0,e,he⟩:=(bq x).1 (aqg h0)
   refine⟨.inr (.inr ⟨hh,x,⟨x0,_,he,by simp only;omega⟩,⟨e,he⟩,rfl,fun y hy0 hy aR=>?_⟩),rfl⟩
   exact cr.least (aw w) l.Aw (l.ok _ R hR) h0 y ((bq y).2 ⟨hy0,hy⟩) aR
 ·refine vs ?_
  exact⟨.inl ⟨hh,rfl⟩,rfl⟩
theorem pj.setRow{H H':Hp}{n c:Nat}{C T:Nat→Prop}{rv:Value}{fp:Option Nat}{d st YS:Int}{w w':Nw}{rs:List (Option Rw)}(m:pj H n c C rv fp d st w rs){g:Nat}{R R':Rw}(hR:rs[g]? =some (some R))(hr:R'.r=R.r)
  (row:dK H' R'.r R'.S d R'.l R'.pl)(hRS:∀z,R'.S z→R.S z∨H.size≤z)(e:ag T H H')(hT:∀z,T z→C z∨R.S z∨z=n)(cells:ba H' c C YS w')(own:H'.own n=some [ptr c,i64 d,rv]):
  pj H' n c C rv fp d YS w' (rs.set g (some R')):=by
 have fD:=m.slt
 have hg:=(aqc.1 hR).1
 have ci:∀ (h:Nat) Q,(rs.set g (some R'))[h]? =some (some Q)→(h=g∧Q=R')∨(h≠g∧rs[h]? =some (some Q)):=fun h Q hQ=>by
  by_cases hh:h=g
  ·subst hh
   rw[aqi hg]at hQ
   simp only[aqk]at hQ
   exact .inl ⟨rfl,hQ.symm⟩
  ·rw[aqh (Ne.symm hh)]at hQ
   exact .inr ⟨hh,hQ⟩
 refine⟨own,cells,?_,fun h Q hQ=>?_,m.nC,m.ya,fun h Q hQ x hx=>?_,fun h h' Q Q' hQ hQ' aR x hx xX=>?_⟩
 ·have h1:(rs.set g (some R')).map Tq=rs.map Tq:=by
   rw[aqP]
   refine aqX fun i=>?_
   by_cases hi:i=g
   ·subst hi
    rw[aqi (by rw[aqr];exact hg),aqz,hR]
    simp[Tq,hr]
   ·rw[aqh (Ne.symm hi)]
  rw[h1,aqe]
  exact m.sl.ext e (fun b hb ht=>by
   rcases hT b ht with h|h|h
   ·exact(m.ya b hb).2 h
   ·exact(m.mY _ R hR b h).2.2 hb
   ·exact(m.ya b hb).1 h)
 ·rcases ci h Q hQ with ⟨rfl,rfl⟩| ⟨h1,h2⟩
  ·exact row
  ·exact(m.row h Q h2).ext e (fun x hx ht=>by
    rcases hT x ht with h3|h3|h3
    ·exact(m.mY h Q h2 x hx).1 h3
    ·exact m.pT h g Q R h2 hR h1 x hx h3
    ·exact(m.mY h Q h2 x hx).2.1 h3)
 ·rcases ci h Q hQ with ⟨rfl,rfl⟩| ⟨h1,h2⟩
  ·rcases hRS x hx with h3|h3
   ·exact m.mY _ R hR x h3
   ·refine⟨fun hc=>?_,fun hc=>?_,fun hc=>?_⟩
    ·have:=fD x (.inl hc);omega
    ·have:=fD n (.inr (.inl rfl));omega
    ·have:=fD x (.inr (.inr (.inl hc)));omega
  ·exact m.mY h Q h2 x hx
 ·rcases ci h Q hQ with ⟨rfl,rfl⟩| ⟨h1,h2⟩
  ·rcases ci h' Q' hQ' with ⟨rfl,rfl⟩| ⟨h3,h4⟩
   ·exact aR rfl
   ·rcases hRS x hx with h5|h5
    ·exact m.pT _ h' R Q' hR h4 aR x h5 xX
    ·have:=fD x (.inr (.inr (.inr ⟨h',Q',h4,xX⟩)));omega
  ·rcases ci h' Q' hQ' with ⟨rfl,rfl⟩| ⟨h3,h4⟩
   ·rcases hRS x xX with h5|h5
    ·exact m.pT h _ Q R h2 hR aR x hx h5
    ·have:=fD x (.inr (.inr (.inr ⟨h,Q,h2,hx⟩)));omega
   ·exact m.pT h h' Q Q' h2 h4 aR x hx xX
theorem VH(lt:Int→Int→Bool){d:Int}(hf:cY d)(x:Int){m:Nat}(l:List Int)(pl:Int→Option Int){i:Int}(hi:1≤i)(hm:i.toNat≤m):0< (fS lt d x m l pl i).asked:=by
 obtain⟨q,rfl⟩:∃q,m=q+1:=⟨m - 1,by omega⟩
 have hp:aX d i=some ((i - 1) / d):=by unfold aX;rw[if_pos ⟨hf,hi⟩]
 simp only[fS,hp]
 split<;>simp
theorem DX{H:Hp}{n:Nat}{S:Nat→Prop}{d st:Int}{w:Nw}(h:dB H n S d st w)(g x k s:Int):af Tryz.prog nB [ptr n,i64 g,i64 x,uw k s] H fun v H'=>ax (
  (¬ (w.has g∧(0≤x∧x<w.cs.length)∧¬df w.cs x)∧v= .bool false∧dB H' n S d st w∧ag S H H')∨
  ((w.has g∧(0≤x∧x<w.cs.length)∧¬df w.cs x)∧v= .bool true∧∃ (S':Nat→Prop) (q:Nat),(q:Int)≤lw d (w.len g).toNat∧(0<w.len g→0<q)∧dB H' n S' d (min (st+q) 4611686018427387904) (w.put x (g,k,s))∧ag S H H'∧∀z,S' z→S z∨H.size≤z)):=by
 obtain⟨c,C,rv,fp,rs,m,l,hS⟩:=h
 refine bm zS ?_
 refine vs ?_
 have f0:ah H (H.new 182 [i64 k,u64 s]):=(ag.refl _ _).new _ _
 have b0:(H.new 182 [i64 k,u64 s]).own H.size=some [i64 k,u64 s]:=az _ _ _
 have m0:=m.ext f0 (fun _ _ h=>h)
 generalize H.new 182 [i64 k,u64 s]=H0 at*
 refine v2 (ae m0.own) (ae b0) ?_
 refine(lP m0.cells g x k s).mono ?_
 rintro _ H1 (⟨bO,rfl,c1,e1⟩| ⟨rq,rfl,c1,e1⟩)
 ·refine vs ?_
  refine .inl ⟨bO,rfl,⟨c,C,rv,fp,rs,?_,l,hS⟩,(f0.mono fun _ _ h=>h.elim).trans (e1.mono fun z _ hz=>(hS z).1 (.inl hz))⟩
  exact⟨e1.own m0.own m.nC,c1,m0.sl.ext e1 (fun b hb h=>(m.ya b hb).2 h),fun i R hR=>(m0.row i R hR).ext e1 (fun x hx=>(m.mY i R hR x hx).1),m.nC,m.ya,m.mY,m.pT⟩
 ·obtain⟨hh,⟨gB,qd⟩,bH⟩:=id rq
  obtain⟨R,hR⟩:=l.fN hh
  have h1:=hh.1
  have AJ:((g.toNat:Nat):Int)=g:=by omega
  have bq:=l.mem _ R hR
  have bf:=l.len _ R hR
  rw[AJ]at bq bf
  obtain⟨c0,jW⟩:∃c0,w.cs[x.toNat]? =some c0:=⟨_,aqb (by omega)⟩
  have sI:¬0<c0.1:=fun h=>bH ⟨gB,c0,jW,h⟩
  have cU:(w.put x (g,k,s)).cs[x.toNat]? =some (g,k,s):=aqi (by omega)
  have lF:∀y:Nat,y≠x.toNat→(w.put x (g,k,s)).cs[y]? =w.cs[y]? :=fun y hy=>aqh (Ne.symm hy)
  have Q5:∀ (i:Nat) Q,rs[i]? =some (some Q)→x∉Q.l:=fun i Q hQ hm=>by
   obtain⟨_,e,he⟩:=(l.mem i Q hQ x).1 hm
   rw[jW]at he
   injection he with he
   subst he
   rcases arH i with hi|hi
   ·subst hi;rw[l.h0]at hQ;cases hQ
   ·exact sI (by simp only;omega)
  have aR:∀ (i:Nat) Q,rs[i]? =some (some Q)→∀y∈Q.l,0≤y∧y.toNat≠x.toNat:=fun i Q hQ y hy=>by
   have h2:=((l.mem i Q hQ y).1 hy).1
   exact⟨h2,fun e=>Q5 i Q hQ (by rw[show x=y by omega];exact hy)⟩
  have YV:∀ (i:Nat) Q,rs[i]? =some (some Q)→cr (aQ (w.put x (g,k,s))) d Q.l Q.pl:=fun i Q hQ=>
   cr.congr l.Aw (l.ok i Q hQ) fun z hz y hy=>(im w x _ (aR i Q hQ z hz).2 (aR i Q hQ y hy).2).symm
  have Hi:∀z∈R.l,df (w.put x (g,k,s)).cs z:=fun z hz=>by
   obtain⟨z0,e,he⟩:=(bq z).1 hz
   exact⟨z0,_,by rw[lF _ (aR _ R hR z hz).2];exact he,by simp only;omega⟩
  have YW:df (w.put x (g,k,s)).cs x:=⟨gB,_,cU,by simp only;omega⟩
  have o1:=e1.own m0.own m.nC
  have adh:=m.cells.st
  have m1:pj H1 n c C rv fp d st (w.put x (g,k,s)) rs:=⟨o1,c1,m0.sl.ext e1 (fun b hb h=>(m.ya b hb).2 h),fun i R hR=>(m0.row i R hR).ext e1 (fun x hx=>(m.mY i R hR x hx).1),m.nC,m.ya,m.mY,m.pT⟩
  have aN:=(aqc.1 hR).1
  obtain⟨b,o,c',lb,q1,q2,q3,q4⟩:=db.get m1.sl.rd (i:=g.toNat) (j:=0) (x:=ptr R.r) (by omega) (by simp[hR,Tq])
  subst q1
  refine v1 (ae o1) ?_
  refine⟨by omega,?_⟩
  refine v2 q2 (show lb[o+g.toNat*1]? =some (ptr R.r)from q4) ?_
  have xW:=m.cells.Fe
  have o8:R.l.length≤65536:=by have:=(w.An g).2;omega
  refine(IM (Hj (c:=c) (rv:=.slice (some ⟨b,o,none⟩) rs.length c') (d:=d) (st:=st) (w:=w.put x (g,k,s)) m.nC) (m1.row _ R hR) (fun z hz ht=>?_) (n:=0) ⟨by rw[show min (st+((0:Nat):Int)) 4611686018427387904=st by omega];exact c1,o1⟩ x (by omega) YW Hi).mono ?_
  ·rcases ht with ht|ht
   ·exact(m.mY _ R hR z hz).1 ht
   ·exact(m.mY _ R hR z hz).2.1 ht
  rintro _ H2 (⟨hp,_,_⟩| ⟨hp,rfl,S',r2,⟨c2,o2⟩,e2,hS'⟩)
  ·exact absurd ((cr.mem (l.ok _ R hR) x).2 hp) (Q5 _ R hR)
  obtain⟨p1,p2,p3,p4⟩:=cr.add (aw (w.put x (g,k,s))) l.Aw (YV _ R hR) hp
  have hq:0<R.l.length→0< (fS (aQ (w.put x (g,k,s))) d x R.l.length (R.l++[x]) R.pl R.l.length).asked:=fun h=>VH _ l.Aw x _ _ (by omega) (by omega)
  generalize hU:fS (aQ (w.put x (g,k,s))) d x R.l.length (R.l++[x]) R.pl R.l.length=U at*
  rw[aqa]at c2
  refine vs ?_
  have sS:∀z,(R.S z∨C z∨z=n)→S z:=fun z hz=>(hS z).1 (by
   rcases hz with hz|hz|hz
   ·exact .inr (.inr (.inr ⟨_,R,hR,hz⟩))
   ·exact .inl hz
   ·exact .inr (.inl hz))
  have ci:∀ (h:Nat) Q,(rs.set g.toNat (some (⟨R.r,S',U.l,U.pl⟩:Rw)))[h]? =some (some Q)→(h=g.toNat∧Q=⟨R.r,S',U.l,U.pl⟩)∨(h≠g.toNat∧rs[h]? =some (some Q)):=fun h Q hQ=>by
   by_cases hh:h=g.toNat
   ·subst hh
    rw[aqi aN]at hQ
    simp only[aqk]at hQ
    exact .inl ⟨rfl,hQ.symm⟩
   ·rw[aqh (Ne.symm hh)]at hQ
    exact .inr ⟨hh,hQ⟩
  refine .inr ⟨rq,rfl,EA n C fp (rs.set g.toNat (some ⟨R.r,S',U.l,U.pl⟩)),U.asked,?_,fun h=>hq (by omega),
   ⟨c,C,_,fp,rs.set g.toNat (some ⟨R.r,S',U.l,U.pl⟩),m1.setRow hR (R':=⟨R.r,S',U.l,U.pl⟩) rfl r2 hS' e2 (fun z hz=>?_) c2 o2,
    ⟨l.Aw,by rw[aqe];exact l.hl,fun h=>?_,?_,fun h Q hQ=>?_,fun h Q hQ y=>?_,fun h Q hQ=>?_⟩,fun z=>Iff.rfl⟩,?_,fun z hz=>?_⟩
  ·rw[show((w.len g).toNat:Int)=(R.l.length:Int) by omega]
   exact Int.ofNat_le.2 p4
  ·rcases hz with hz|hz|hz
   ·exact .inr (.inl hz)
   ·exact .inl hz
   ·exact .inr (.inr hz)
  ·show w.hs[h]? =some true↔_
   rw[l.hs h]
   by_cases M6:h=g.toNat
   ·subst M6
    rw[aqi aN]
    exact⟨fun _=>⟨_,rfl⟩,fun _=>⟨R,hR⟩⟩
   ·rw[aqh (Ne.symm M6)]
  ·rw[aqh (by omega)];exact l.h0
  ·rcases ci h Q hQ with ⟨rfl,rfl⟩| ⟨h5,h6⟩
   ·exact p1
   ·exact YV h Q h6
  ·rcases ci h Q hQ with ⟨rfl,rfl⟩| ⟨h5,h6⟩
   ·rw[AJ]
    show y∈U.l↔_
    rw[p2 y]
    constructor
    ·rintro(rfl|hy)
     ·exact⟨gB,_,cU⟩
     ·obtain⟨y0,e,he⟩:=(bq y).1 hy
      exact⟨y0,e,by rw[lF _ (aR _ R hR y hy).2];exact he⟩
    ·rintro⟨y0,e,he⟩
     by_cases oJ:y.toNat=x.toNat
     ·exact .inl (by omega)
     ·rw[lF _ oJ]at he
      exact .inr ((bq y).2 ⟨y0,e,he⟩)
   ·rw[l.mem h Q h6 y]
    by_cases oJ:y.toNat=x.toNat
    ·rw[oJ,cU,jW]
     constructor
     ·rintro⟨y0,e,he⟩
      injection he with he
      subst he
      rcases arH h with hi|hi
      ·subst hi;rw[l.h0]at h6;cases h6
      ·exact absurd (show(0:Int)< ((h:Nat):Int) by omega) sI
     ·rintro⟨y0,e,he⟩
      injection he with he
      injection he with YY he2
      omega
    ·rw[lF _ oJ]
  ·rcases ci h Q hQ with ⟨rfl,rfl⟩| ⟨h5,h6⟩
   ·rw[AJ,Nw.gC jW g,if_neg (fun hc=>by omega),if_pos ⟨by omega,rfl⟩]
    show(U.l.length:Int)=_
    omega
   ·rw[l.len h Q h6,Nw.gC jW h,if_neg (fun hc=>by omega),if_neg (fun hc=>by omega)]
    omega
  ·exact(f0.mono fun _ _ h=>h.elim).trans ((e1.mono fun z _ hz=>sS z (.inr (.inl hz))).trans (e2.mono fun z _ hz=>sS z hz))
  ·have z0:=f0.size
   have z1:=e1.size
   rcases hz with hz|rfl|hz| ⟨i,Q,hQ,hz⟩
   ·exact .inl (sS z (.inr (.inl hz)))
   ·exact .inl (sS z (.inr (.inr rfl)))
   ·exact .inl ((hS z).1 (.inr (.inr (.inl hz))))
   ·rcases ci i Q hQ with ⟨rfl,rfl⟩| ⟨h5,h6⟩
    ·rcases hS' z hz with h|h
     ·exact .inl (sS z (.inl h))
     ·exact .inr (by omega)
    ·exact .inl ((hS z).1 (.inr (.inr (.inr ⟨i,Q,h6,hz⟩))))
theorem DY{H:Hp}{n:Nat}{S:Nat→Prop}{d st:Int}{w:Nw}(h:dB H n S d st w)(x:Int):af Tryz.prog zv [ptr n,i64 x] H fun v H'=>ax (
  (¬df w.cs x∧v= .bool false∧H=H')∨
  (df w.cs x∧v= .bool true∧∃ (c0:Ce) (q:Nat),w.cs[x.toNat]? =some c0∧(q:Int)≤d*(lw d (w.len c0.1 - 1):Nat)+1∧∃S',dB H' n S' d (min (st+q) 4611686018427387904) (w.put x (0,0,0))∧ag S H H'∧∀z,S' z→S z∨H.size≤z)):=by
 obtain⟨c,C,rv,fp,rs,m,l,hS⟩:=h
 refine bm zQ ?_
 refine v1 (ae m.own) ?_
 refine(eY m.cells x).mono ?_
 rintro _ H1 (⟨bO,rfl,rfl⟩| ⟨bH,c0,jW,rfl,c1,e1⟩)
 ·refine vs ?_
  exact .inl ⟨bO,rfl,rfl⟩
 obtain⟨gB,c0',KU,gA⟩:=id bH
 rw[jW]at KU
 injection KU with KU
 subst KU
 obtain⟨R,hR⟩:=(l.hs c0.1.toNat).1 (m.cells.live _ (aqg jW) gA)
 have AJ:((c0.1.toNat:Nat):Int)=c0.1:=by omega
 have bq:=l.mem _ R hR
 have bf:=l.len _ R hR
 rw[AJ]at bq bf
 have cU:(w.put x (0,0,0)).cs[x.toNat]? =some (0,0,0):=aqi (aqc.1 jW).1
 have lF:∀y:Nat,y≠x.toNat→(w.put x (0,0,0)).cs[y]? =w.cs[y]? :=fun y hy=>aqh (Ne.symm hy)
 have o1:=e1.own m.own m.nC
 have m1:pj H1 n c C rv fp d st w rs:=⟨o1,c1,m.sl.ext e1 (fun b hb h=>(m.ya b hb).2 h),fun i R hR=>(m.row i R hR).ext e1 (fun x hx=>(m.mY i R hR x hx).1),m.nC,m.ya,m.mY,m.pT⟩
 have aN:=(aqc.1 hR).1
 have hxR:x∈R.l:=(bq x).2 ⟨gB,c0.2,jW⟩
 have Hi:∀z∈R.l,df w.cs z:=fun z hz=>by
  obtain⟨z0,e,he⟩:=(bq z).1 hz
  exact⟨z0,_,he,gA⟩
 obtain⟨b,o,c',lb,q1,q2,q3,q4⟩:=db.get m1.sl.rd (i:=c0.1.toNat) (j:=0) (x:=ptr R.r) (by omega) (by simp[hR,Tq])
 subst q1
 have adh:=m.cells.st
 have xW:=m.cells.Fe
 have o8:R.l.length≤65536:=by have:=(w.An c0.1).2;omega
 refine v1 (ae o1) ?_
 refine⟨by omega,?_⟩
 refine v2 q2 (show lb[o+c0.1.toNat*1]? =some (ptr R.r)from q4) ?_
 refine(DW (Hj (c:=c) (rv:=.slice (some ⟨b,o,none⟩) rs.length c') (d:=d) (st:=st) (w:=w) m.nC) (m1.row _ R hR) (fun z hz ht=>?_) (n:=0) ⟨by rw[show min (st+((0:Nat):Int)) 4611686018427387904=st by omega];exact c1,o1⟩ l.Aw x (by omega) (l.ok _ R hR).pl Hi).mono ?_
 ·rcases ht with ht|ht
  ·exact(m.mY _ R hR z hz).1 ht
  ·exact(m.mY _ R hR z hz).2.1 ht
 rintro _ H2 (⟨hp,_,_⟩| ⟨i,hp,rfl,r2,⟨c2,o2⟩,e2⟩)
 ·exact absurd hp ((cr.mem (l.ok _ R hR) x).1 hxR)
 obtain⟨p1,p2,p3,p4⟩:=cr.Y5 (aw w) l.Aw (l.ok _ R hR) hp
 generalize hU:cW (aQ w) d x R.l R.pl i=U at*
 rw[aqa]at c2
 refine v1 (ae o2) ?_
 refine(ke c2 x).mono ?_
 rintro _ H3 (⟨bO,_,_⟩| ⟨_,rfl,c3,e3⟩)
 ·exact absurd bH bO
 refine vs ?_
 have o3:=e3.own o2 m.nC
 have HT:ag (fun z=>R.S z∨C z∨z=n) H1 H3:=e2.trans (e3.mono fun z _ hz=>.inr (.inl hz))
 have r3:=r2.ext e3 (fun z hz=>(m.mY _ R hR z hz).1)
 have sS:∀z,(R.S z∨C z∨z=n)→S z:=fun z hz=>(hS z).1 (by
  rcases hz with hz|hz|hz
  ·exact .inr (.inr (.inr ⟨_,R,hR,hz⟩))
  ·exact .inl hz
  ·exact .inr (.inl hz))
 have ci:∀ (h:Nat) Q,(rs.set c0.1.toNat (some (⟨R.r,R.S,U.1,U.2.1⟩:Rw)))[h]? =some (some Q)→(h=c0.1.toNat∧Q=⟨R.r,R.S,U.1,U.2.1⟩)∨(h≠c0.1.toNat∧rs[h]? =some (some Q)):=fun h Q hQ=>by
  by_cases hh:h=c0.1.toNat
  ·subst hh
   rw[aqi aN]at hQ
   simp only[aqk]at hQ
   exact .inl ⟨rfl,hQ.symm⟩
  ·rw[aqh (Ne.symm hh)]at hQ
   exact .inr ⟨hh,hQ⟩
 have GR:∀ (h:Nat) Q,rs[h]? =some (some Q)→0<h:=fun h Q hQ=>by
  rcases arH h with hi|hi
  ·subst hi;rw[l.h0]at hQ;cases hQ
  ·exact hi
 have aR:∀ (h:Nat) Q,h≠c0.1.toNat→rs[h]? =some (some Q)→∀y∈Q.l,y.toNat≠x.toNat:=fun h Q hh hQ y hy e=>by
  obtain⟨y0,e',he⟩:=(l.mem h Q hQ y).1 hy
  rw[e,jW]at he
  injection he with he
  rw[he]at hh
  simp only[Int.toNat_natCast]at hh
  exact hh rfl
 have OT:∀y∈U.1,y.toNat≠x.toNat:=fun y hy e=>by
  obtain⟨h1,h2⟩:=(p3 y).1 hy
  have:=((bq y).1 h1).1
  omega
 refine .inr ⟨bH,rfl,c0,U.2.2,jW,?_,EA n C fp (rs.set c0.1.toNat (some ⟨R.r,R.S,U.1,U.2.1⟩)),
  ⟨c,C,_,fp,rs.set c0.1.toNat (some ⟨R.r,R.S,U.1,U.2.1⟩),m1.setRow hR (R':=⟨R.r,R.S,U.1,U.2.1⟩) rfl r3 (fun z hz=>.inl hz) HT (fun z hz=>?_) c3 o3,
   ⟨l.Aw,by rw[aqe];exact l.hl,fun h=>?_,?_,fun h Q hQ=>?_,fun h Q hQ y=>?_,fun h Q hQ=>?_⟩,fun z=>Iff.rfl⟩,?_,fun z hz=>?_⟩
 ·rw[←bf];exact p4
 ·rcases hz with hz|hz|hz
  ·exact .inr (.inl hz)
  ·exact .inl hz
  ·exact .inr (.inr hz)
 ·show w.hs[h]? =some true↔_
  rw[l.hs h]
  by_cases M6:h=c0.1.toNat
  ·subst M6
   rw[aqi aN]
   exact⟨fun _=>⟨_,rfl⟩,fun _=>⟨R,hR⟩⟩
  ·rw[aqh (Ne.symm M6)]
 ·rw[aqh (by omega)];exact l.h0
 ·rcases ci h Q hQ with ⟨rfl,rfl⟩| ⟨h5,h6⟩
  ·exact cr.congr l.Aw p1 fun z hz y hy=>(im w x _ (OT z hz) (OT y hy)).symm
  ·exact cr.congr l.Aw (l.ok h Q h6) fun z hz y hy=>(im w x _ (aR h Q h5 h6 z hz) (aR h Q h5 h6 y hy)).symm
 ·by_cases oJ:y.toNat=x.toNat
  ·rw[oJ,cU]
   have h0:=ci h Q hQ
   constructor
   ·intro hy
    rcases h0 with ⟨rfl,rfl⟩| ⟨h5,h6⟩
    ·exact absurd oJ (OT y hy)
    ·exact absurd oJ (aR h Q h5 h6 y hy)
   ·rintro⟨_,e,he⟩
    injection he with he
    injection he with YY _
    rcases h0 with ⟨rfl,rfl⟩| ⟨h5,h6⟩
    ·omega
    ·have:=GR h Q h6;omega
  ·rw[lF _ oJ]
   rcases ci h Q hQ with ⟨rfl,rfl⟩| ⟨h5,h6⟩
   ·rw[AJ]
    show y∈U.1↔_
    rw[p3 y,bq y]
    constructor
    ·exact fun h=>h.1
    ·exact fun h=>⟨h,fun e=>oJ (by rw[e])⟩
   ·exact l.mem h Q h6 y
 ·rcases ci h Q hQ with ⟨rfl,rfl⟩| ⟨h5,h6⟩
  ·rw[AJ,Nw.gC jW c0.1,if_pos ⟨gA,rfl⟩,if_neg (fun hc=>by omega)]
   show(U.1.length:Int)=_
   have:=List.length_pos_of_mem hxR
   omega
  ·have:=GR h Q h6
   rw[l.len h Q h6,Nw.gC jW h,if_neg (fun hc=>by omega),if_neg (fun hc=>by omega)]
   omega
 ·exact(e1.mono fun z _ hz=>sS z (.inr (.inl hz))).trans (HT.mono fun z _ hz=>sS z hz)
 ·rcases hz with hz|rfl|hz| ⟨i,Q,hQ,hz⟩
  ·exact .inl (sS z (.inr (.inl hz)))
  ·exact .inl (sS z (.inr (.inr rfl)))
  ·exact .inl ((hS z).1 (.inr (.inr (.inl hz))))
  ·rcases ci i Q hQ with ⟨rfl,rfl⟩| ⟨h5,h6⟩
   ·exact .inl (sS z (.inl hz))
   ·exact .inl ((hS z).1 (.inr (.inr (.inr ⟨i,Q,h6,hz⟩))))
theorem Ci{H:Hp}{n:Nat}{S:Nat→Prop}{d st:Int}{w:Nw}(h:dB H n S d st w)(g:Int):af Tryz.prog me [ptr n,i64 g] H fun v H'=>ax (
  ((¬w.has g∨(w.has g∧w.len g=0))∧v= .tuple [i64 0,.bool false].toArray∧H=H')∨
  (w.has g∧∃x,df w.cs x∧(∃e,w.cs[x.toNat]? =some (g,e))∧(∀y,0≤y→(∃e,w.cs[y.toNat]? =some (g,e))→y≠x→aQ w x y=true)∧v= .tuple [i64 x,.bool true].toArray∧
   ∃q:Nat,(q:Int)≤d*(lw d (w.len g - 1):Nat)+1∧∃S',dB H' n S' d (min (st+q) 4611686018427387904) (w.put x (0,0,0))∧ag S H H'∧∀z,S' z→S z∨H.size≤z)):=by
 refine bm xt ?_
 refine vs ?_
 refine(yU h g).mono ?_
 rintro _ _ ⟨⟨bO,rfl⟩| ⟨hh,h0,rfl⟩| ⟨hh,x,hx,he,rfl,sO⟩,rfl⟩
 ·refine vs ?_
  exact .inl ⟨.inl bO,rfl,rfl⟩
 ·refine vs ?_
  exact .inl ⟨.inr ⟨hh,h0⟩,rfl,rfl⟩
 ·refine vs ?_
  refine(DY h x).mono ?_
  rintro _ H1 (⟨bO,_,_⟩| ⟨_,rfl,c0,q,jW,hq,S',d1,e1,hS'⟩)
  ·exact absurd hx bO
  refine vs ?_
  obtain⟨e,gz⟩:=id he
  rw[jW]at gz
  injection gz with gz
  subst gz
  exact .inr ⟨hh,x,hx,he,sO,rfl,q,hq,S',d1,e1,hS'⟩
theorem Q6(w:Nw){x:Int}{y:Ce}{k s:Int}(hy:w.cs[x.toNat]? =some y)(hl:¬fQ y.2.1 y.2.2 k s){z:Int}(hz:z.toNat≠x.toNat)(h:aQ w z x=false):aQ (w.put x (y.1,k,s)) z x=false:=by
 have k1:w.key x=y.2.1:=by unfold Nw.key;rw[aqf,hy];rfl
 have k2:w.seq x=y.2.2:=by unfold Nw.seq;rw[aqf,hy];rfl
 have hs:=aqi (l:=w.cs) (a:=(y.1,k,s)) (aqc.1 hy).1
 have k3:(w.put x (y.1,k,s)).key x=k:=by unfold Nw.key Nw.put;simp only[aqf];rw[hs];rfl
 have k4:(w.put x (y.1,k,s)).seq x=s:=by unfold Nw.seq Nw.put;simp only[aqf];rw[hs];rfl
 have k5:(w.put x (y.1,k,s)).key z=w.key z:=by unfold Nw.key Nw.put;simp only[aqf];rw[aqh (Ne.symm hz)]
 have k6:(w.put x (y.1,k,s)).seq z=w.seq z:=by unfold Nw.seq Nw.put;simp only[aqf];rw[aqh (Ne.symm hz)]
 unfold aQ at h ⊢
 rw[k3,k4,k5,k6]
 rw[k1,k2]at h
 simp only[decide_eq_false_iff_not,fQ]at*
 omega
theorem Ax{H:Hp}{n:Nat}{S:Nat→Prop}{d st:Int}{w:Nw}(h:dB H n S d st w)(x k s:Int):af Tryz.prog kT [ptr n,i64 x,uw k s] H fun v H'=>ax (
  (¬ (df w.cs x∧∀y,w.cs[x.toNat]? =some y→¬fQ y.2.1 y.2.2 k s)∧v= .bool false∧dB H' n S d st w∧ah H H')∨
  (df w.cs x∧∃y,w.cs[x.toNat]? =some y∧¬fQ y.2.1 y.2.2 k s∧v= .bool true∧∃q:Nat,(q:Int)≤lw d (w.len y.1 - 1)∧∃S',dB H' n S' d (min (st+q) 4611686018427387904) (w.put x (y.1,k,s))∧ag S H H'∧∀z,S' z→S z∨H.size≤z)):=by
 obtain⟨c,C,rv,fp,rs,m,l,hS⟩:=h
 refine bm vi ?_
 refine vs ?_
 have f0:ah H (H.new 182 [i64 k,u64 s]):=(ag.refl _ _).new _ _
 have b0:(H.new 182 [i64 k,u64 s]).own H.size=some [i64 k,u64 s]:=az _ _ _
 have m0:=m.ext f0 (fun _ _ h=>h)
 generalize H.new 182 [i64 k,u64 s]=H0 at*
 refine v2 (ae m0.own) (ae b0) ?_
 refine(jq m0.cells x k s).mono ?_
 rintro _ H1 (⟨bO,rfl,c1,e1⟩| ⟨bH,rfl,y,hy,fR,c1,e1⟩)
 ·refine vs ?_
  exact .inl ⟨bO,rfl,⟨c,C,rv,fp,rs,m0.ext e1 (fun _ _ h=>h),l,hS⟩,f0.trans e1⟩
 have o1:=e1.own m0.own m.nC
 refine v1 (ae o1) ?_
 obtain⟨gB,y',GS,gA⟩:=id bH
 rw[hy]at GS
 injection GS with GS
 subst GS
 have cU:(w.put x (y.1,k,s)).cs[x.toNat]? =some (y.1,k,s):=aqi (aqc.1 hy).1
 have lF:∀z:Nat,z≠x.toNat→(w.put x (y.1,k,s)).cs[z]? =w.cs[z]? :=fun z hz=>aqh (Ne.symm hz)
 have OP:df (w.put x (y.1,k,s)).cs x:=⟨gB,_,cU,gA⟩
 refine(eY c1 x).mono ?_
 rintro _ H2 (⟨bO,_,_⟩| ⟨_,y2,FY,rfl,c2,e2⟩)
 ·exact absurd OP bO
 rw[cU]at FY
 injection FY with FY
 subst FY
 have pg:=e1.trans e2
 obtain⟨R,hR⟩:=(l.hs y.1.toNat).1 (m.cells.live _ (aqg hy) gA)
 have AJ:((y.1.toNat:Nat):Int)=y.1:=by omega
 have M7:∀ (h:Nat) Q,rs[h]? =some (some Q)→∀z:Int,z∈Q.l↔0≤z∧∃e,(w.put x (y.1,k,s)).cs[z.toNat]? =some (((h:Nat):Int),e):=fun h Q hQ z=>by
  rw[l.mem h Q hQ z]
  by_cases Y1:z.toNat=x.toNat
  ·rw[Y1,cU,hy]
   constructor
   ·rintro⟨z0,e,he⟩
    injection he with he
    exact⟨z0,(k,s),by rw[he]⟩
   ·rintro⟨z0,e,he⟩
    injection he with he
    injection he with YY _
    exact⟨z0,y.2,by rw[←YY]⟩
  ·rw[lF _ Y1]
 have bq:=M7 _ R hR
 have bf:=l.len _ R hR
 rw[AJ]at bq bf
 have hxR:x∈R.l:=(bq x).2 ⟨gB,_,cU⟩
 have Hi:∀z∈R.l,df (w.put x (y.1,k,s)).cs z:=fun z hz=>by
  obtain⟨z0,e,he⟩:=(bq z).1 hz
  exact⟨z0,_,he,gA⟩
 have o2:=e2.own o1 m.nC
 have m2:pj H2 n c C rv fp d st (w.put x (y.1,k,s)) rs:=⟨o2,c2,m0.sl.ext pg (fun b hb h=>(m.ya b hb).2 h),fun i R hR=>(m0.row i R hR).ext pg (fun x hx=>(m.mY i R hR x hx).1),m.nC,m.ya,m.mY,m.pT⟩
 have aN:=(aqc.1 hR).1
 obtain⟨b,o,c',lb,q1,q2,q3,q4⟩:=db.get m2.sl.rd (i:=y.1.toNat) (j:=0) (x:=ptr R.r) (by omega) (by simp[hR,Tq])
 subst q1
 have adh:=m.cells.st
 have xW:=m.cells.Fe
 have o8:R.l.length≤65536:=by have:=(w.An y.1).2;omega
 refine v1 (ae o2) ?_
 refine⟨by omega,?_⟩
 refine v2 q2 (show lb[o+y.1.toNat*1]? =some (ptr R.r)from q4) ?_
 refine(Fh (Hj (c:=c) (rv:=.slice (some ⟨b,o,none⟩) rs.length c') (d:=d) (st:=st) (w:=w.put x (y.1,k,s)) m.nC) (m2.row _ R hR) (fun z hz ht=>?_) (n:=0) ⟨by rw[show min (st+((0:Nat):Int)) 4611686018427387904=st by omega];exact c2,o2⟩ x (by omega) (fun i hi=>by
  obtain⟨h1,h2⟩:=((l.ok _ R hR).pl x i).1 hi
  have:=(aqc.1 h2).1
  exact⟨h1,by omega⟩) OP Hi).mono ?_
 ·rcases ht with ht|ht
  ·exact(m.mY _ R hR z hz).1 ht
  ·exact(m.mY _ R hR z hz).2.1 ht
 rintro _ H3 (⟨hp,_,_⟩| ⟨i,hp,rfl,r3,⟨c3,o3⟩,e3⟩)
 ·exact absurd hp ((cr.mem (l.ok _ R hR) x).1 hxR)
 have LC:∀z∈R.l,z≠x→z.toNat≠x.toNat:=fun z hz aR e=>by have:=((bq z).1 hz).1;omega
 obtain⟨p1,p2,p3,p4⟩:=cr.raise (aw w) (aw (w.put x (y.1,k,s))) l.Aw (l.ok _ R hR) hp (fun a ha b hb uH mI=>im w x _ (LC a ha uH) (LC b hb mI)) (fun z hz Y1 hl=>Q6 w hy fR (LC z hz Y1) hl)
 generalize hU:fS (aQ (w.put x (y.1,k,s))) d x i.toNat R.l R.pl i=U at*
 rw[aqa]at c3
 refine vs ?_
 have sS:∀z,(R.S z∨C z∨z=n)→S z:=fun z hz=>(hS z).1 (by
  rcases hz with hz|hz|hz
  ·exact .inr (.inr (.inr ⟨_,R,hR,hz⟩))
  ·exact .inl hz
  ·exact .inr (.inl hz))
 have ci:∀ (h:Nat) Q,(rs.set y.1.toNat (some (⟨R.r,R.S,U.l,U.pl⟩:Rw)))[h]? =some (some Q)→(h=y.1.toNat∧Q=⟨R.r,R.S,U.l,U.pl⟩)∨(h≠y.1.toNat∧rs[h]? =some (some Q)):=fun h Q hQ=>by
  by_cases hh:h=y.1.toNat
  ·subst hh
   rw[aqi aN]at hQ
   simp only[aqk]at hQ
   exact .inl ⟨rfl,hQ.symm⟩
  ·rw[aqh (Ne.symm hh)]at hQ
   exact .inr ⟨hh,hQ⟩
 have aR:∀ (h:Nat) Q,h≠y.1.toNat→rs[h]? =some (some Q)→∀z∈Q.l,z.toNat≠x.toNat:=fun h Q hh hQ z hz e=>by
  obtain⟨z0,e',he⟩:=(l.mem h Q hQ z).1 hz
  rw[e,hy]at he
  injection he with he
  rw[he]at hh
  simp only[Int.toNat_natCast]at hh
  exact hh rfl
 have hwl:∀h:Int,(w.put x (y.1,k,s)).len h=w.len h:=fun h=>by
  rw[Nw.gC hy h]
  simp only
  split<;>omega
 refine .inr ⟨bH,y,hy,fR,rfl,U.asked,by rw[←bf];exact Int.ofNat_le.2 p4,EA n C fp (rs.set y.1.toNat (some ⟨R.r,R.S,U.l,U.pl⟩)),
  ⟨c,C,_,fp,rs.set y.1.toNat (some ⟨R.r,R.S,U.l,U.pl⟩),m2.setRow hR (R':=⟨R.r,R.S,U.l,U.pl⟩) rfl r3 (fun z hz=>.inl hz) e3 (fun z hz=>?_) c3 o3,
   ⟨l.Aw,by rw[aqe];exact l.hl,fun h=>?_,?_,fun h Q hQ=>?_,fun h Q hQ z=>?_,fun h Q hQ=>?_⟩,fun z=>Iff.rfl⟩,?_,fun z hz=>?_⟩
 ·rcases hz with hz|hz|hz
  ·exact .inr (.inl hz)
  ·exact .inl hz
  ·exact .inr (.inr hz)
 ·show w.hs[h]? =some true↔_
  rw[l.hs h]
  by_cases M6:h=y.1.toNat
  ·subst M6
   rw[aqi aN]
   exact⟨fun _=>⟨_,rfl⟩,fun _=>⟨R,hR⟩⟩
  ·rw[aqh (Ne.symm M6)]
 ·rw[aqh (by omega)];exact l.h0
 ·rcases ci h Q hQ with ⟨rfl,rfl⟩| ⟨h5,h6⟩
  ·exact p1
  ·exact cr.congr l.Aw (l.ok h Q h6) fun z hz v hv=>(im w x _ (aR h Q h5 h6 z hz) (aR h Q h5 h6 v hv)).symm
 ·rcases ci h Q hQ with ⟨rfl,rfl⟩| ⟨h5,h6⟩
  ·rw[AJ]
   show z∈U.l↔_
   rw[p2 z,bq z]
  ·exact M7 h Q h6 z
 ·rw[hwl]
  rcases ci h Q hQ with ⟨rfl,rfl⟩| ⟨h5,h6⟩
  ·rw[AJ]
   show(U.l.length:Int)=_
   omega
  ·exact l.len h Q h6
 ·exact(f0.mono fun _ _ h=>h.elim).trans ((pg.mono fun z _ hz=>sS z (.inr (.inl hz))).trans (e3.mono fun z _ hz=>sS z hz))
 ·rcases hz with hz|rfl|hz| ⟨j,Q,hQ,hz⟩
  ·exact .inl (sS z (.inr (.inl hz)))
  ·exact .inl (sS z (.inr (.inr rfl)))
  ·exact .inl ((hS z).1 (.inr (.inr (.inl hz))))
  ·rcases ci j Q hQ with ⟨rfl,rfl⟩| ⟨h5,h6⟩
   ·exact .inl (sS z (.inl hz))
   ·exact .inl ((hS z).1 (.inr (.inr (.inr ⟨j,Q,h6,hz⟩))))
theorem pj.at_{H:Hp}{n c:Nat}{C:Nat→Prop}{rv:Value}{fp:Option Nat}{d st:Int}{w:Nw}{rs:List (Option Rw)}(m:pj H n c C rv fp d st w rs){i:Nat}{o:Option Rw}(h:rs[i]? =some o):
  ∃f cc lb,rv= .slice (some ⟨f,0,none⟩) rs.length cc∧fp=some f∧H.own f=some lb∧lb[i]? =some (Tq o)∧i<rs.length:=by
 have hi:=(aqc.1 h).1
 obtain⟨hl,hm⟩:=id m.sl
 cases fp with
 |none=>obtain⟨e,_⟩:=hm;omega
 |some f=>
  obtain⟨lb,cc,hv,ho,h1,h2,h3⟩:=hm
  refine⟨f,cc,lb,hv,rfl,ho,?_,hi⟩
  have h4:(rs.map Tq)[i]? =some (Tq o):=by rw[aqz,h];rfl
  rw[←h3,aqF (by omega)]at h4
  exact h4
end Go.Proofs.YthpjfeolagohkaaGreat
