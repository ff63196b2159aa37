/- Texts put behind each other. -/
import Derived.Test.YtjlnnljohemifaaGreatK98
import Derived.Test.YtjlnnljohemifaaGreatK0
import Derived.Test.YtjlnnljohemifaaGreatK1
import Derived.Test.YtjlnnljohemifaaGreatK17
import Derived.Test.YtjlnnljohemifaaGreatK20
import Derived.Test.YtjlnnljohemifaaGreatK21
set_option linter.unusedVariables false
set_option linter.unusedSimpArgs false
namespace Go.Proofs.YtjlnnljohemifaaGreat
open Go Go.Vc
structure ci(lt:Int→Int→Bool)(d:Int)(l:List Int)(pl:Int→Option Int):Prop where
 heap:eZ lt d l
 pl:DW l pl
theorem ci.nil(lt:Int→Int→Bool)(d:Int):ci lt d [] (fun _=>none):=
 ⟨fun j _ h=>by simp at h,fun z k=>by simp⟩
theorem ci.congr{lt lt':Int→Int→Bool}{d:Int}(hf:cT d){l:List Int}{pl:Int→Option Int}(h:ci lt d l pl)(hfg:∀z∈l,∀y∈l,lt z y=lt' z y):ci lt' d l pl:=by
 refine⟨fun j h1 h2=>?_,h.pl⟩
 have hp:=cM hf h1
 have e:∀k,k<l.length→l.getD k 0∈l:=fun k hk=>by
  rw[al9,al5 hk];exact anW hk
 rw[←hfg _ (e j h2) _ (e _ (show pa d j<l.length by omega))]
 exact h.heap j h1 h2
theorem ci.add{lt:Int→Int→Bool}(ho:bC lt){d:Int}(hf:cT d){l:List Int}{pl:Int→Option Int}(h:ci lt d l pl){x:Int}(hx:pl x=none):
  ci lt d (gw lt d x l.length (l++[x]) pl l.length).l (gw lt d x l.length (l++[x]) pl l.length).pl∧
   (∀z,z∈(gw lt d x l.length (l++[x]) pl l.length).l↔z=x∨z∈l)∧(gw lt d x l.length (l++[x]) pl l.length).l.length=l.length+1∧
   (gw lt d x l.length (l++[x]) pl l.length).asked≤nQ d l.length:=by
 have Ub:=hf.1
 have ce:∀k,k<l.length→(l++[x]).getD k 0=l.getD k 0:=fun k hk=>by
  rw[al9,al9,amn hk]
 have PX:∀j:Nat,1≤j→j<l.length+1→pa d j≠l.length:=fun j h1 h2=>by have:=cM hf h1;omega
 have hP:R4 (l++[x]) pl l.length x:=by
  intro z hz k
  rw[h.pl z k]
  constructor
  ·rintro⟨a,b⟩
   have hk:=(al7.1 b).1
   exact⟨a,by omega,by rw[amn hk];exact b⟩
  ·rintro⟨a,b,c⟩
   refine⟨a,?_⟩
   have hk:=(al7.1 c).1
   simp only[amh,amx]at hk
   rw[amn (by omega)]at c
   exact c
 have rB:x∉l:=fun hm=>by
  obtain⟨k,hk⟩:=amy hm
  have:=(h.pl x k).2 ⟨by omega,by simpa using hk⟩
  rw[hx]at this;cases this
 have LJ:∀z,Jx (l++[x]) l.length z↔z∈l:=by
  intro z
  constructor
  ·rintro⟨k,k1,k2⟩
   have hk:=(al7.1 k2).1
   simp only[amh,amx]at hk
   rw[amn (by omega)]at k2
   exact amb k2
  ·intro hm
   obtain⟨k,hk⟩:=amy hm
   have:=(al7.1 hk).1
   exact⟨k,by omega,by rw[amn this];exact hk⟩
 obtain⟨p1,p2⟩:=DX (lt:=lt) (d:=d) x l.length (l++[x]) pl l.length (by simp) (by omega) (by simp;omega) hP (fun hc=>rB ((LJ x).1 hc))
 refine⟨⟨Kg ho hf x _ _ _ _ (by simp) (by omega) (by simp;omega) ⟨fun j h1 h2 h3 h4=>?_,fun j h1 h2 h3 h4=>?_⟩ (fun j h1 h2 h3=>?_),p1⟩,fun z=>by rw[p2 z,LJ z],by rw[xW];simp,?_⟩
 ·simp only[Int.toNat_natCast]at h3 h4
  have:j<l.length:=by simp at h2;omega
  have hp:=cM hf h1
  rw[ce j this,ce _ (by omega)]
  exact h.heap j h1 this
 ·simp only[Int.toNat_natCast]at h3
  exact absurd h3 (PX j h1 (by simpa using h2))
 ·simp only[Int.toNat_natCast]at h3
  exact absurd h3 (PX j h1 (by simpa using h2))
 ·have:=GP lt d x l.length (l++[x]) pl l.length
  unfold nQ
  simpa using this
theorem ci.WX{lt:Int→Int→Bool}(ho:bC lt){d:Int}(hf:cT d){l:List Int}{pl:Int→Option Int}(h:ci lt d l pl){x i:Int}(hx:pl x=some i):
  ci lt d (cS lt d x l pl i).1 (cS lt d x l pl i).2.1∧(cS lt d x l pl i).1.length=l.length - 1∧
   (∀z,z∈(cS lt d x l pl i).1↔z∈l∧z≠x)∧((cS lt d x l pl i).2.2:Int)≤d*(nQ d ((l.length:Int) - 1):Nat)+1:=by
 obtain⟨a,b,c,e,g⟩:=LO ho hf h.heap h.pl hx
 exact⟨⟨a,b⟩,c,e,g⟩
theorem ci.mem{lt:Int→Int→Bool}{d:Int}{l:List Int}{pl:Int→Option Int}(h:ci lt d l pl)(z:Int):z∈l↔pl z≠none:=by
 constructor
 ·intro hm
  obtain⟨k,hk⟩:=amy hm
  rw[(h.pl z k).2 ⟨by omega,by simpa using hk⟩]
  simp
 ·intro hn
  obtain⟨k,hk⟩:=Option.ne_none_iff_exists'.1 hn
  exact amb ((h.pl z k).1 hk).2
theorem ci.least{lt:Int→Int→Bool}(ho:bC lt){d:Int}(hf:cT d){l:List Int}{pl:Int→Option Int}(h:ci lt d l pl){x:Int}(hx:l[0]? =some x):∀z∈l,z≠x→lt x z=true:=by
 intro z hz aT
 obtain⟨k,hk⟩:=amy hz
 have hkl:=(al7.1 hk).1
 have:=GS ho hf h.heap k k (ami _) hkl
 rw[al9,al9,hk,hx]at this
 rcases ho.OI x z (Ne.symm aT)with h1|h1
 ·exact h1
 ·simp only[Option.getD_some]at this
  rw[h1]at this;cases this
theorem ci.raise{lt lt':Int→Int→Bool}(ho:bC lt)(ho':bC lt'){d:Int}(hf:cT d){l:List Int}{pl:Int→Option Int}(h:ci lt d l pl){x i:Int}(hx:pl x=some i)(aR:∀a∈l,∀b∈l,a≠x→b≠x→lt' a b=lt a b)(Wr:∀z∈l,z≠x→lt z x=false→lt' z x=false):
  ci lt' d (gw lt' d x i.toNat l pl i).l (gw lt' d x i.toNat l pl i).pl∧(∀z,z∈(gw lt' d x i.toNat l pl i).l↔z∈l)∧(gw lt' d x i.toNat l pl i).l.length=l.length∧
   (gw lt' d x i.toNat l pl i).asked≤nQ d ((l.length:Int) - 1):=by
 obtain⟨i0,hi⟩:=(h.pl x i).1 hx
 have tK:i.toNat<l.length:=(al7.1 hi).1
 have oU:∀j,j<l.length→j≠i.toNat→l.getD j 0≠x:=fun j hj aT e=>by
  have:l[j]? =some x:=by rw[al5 hj,←e,al9,al5 hj];rfl
  exact aT (h.pl.GQ this hi)
 have bS:∀j,j<l.length→l.getD j 0∈l:=fun j hj=>by rw[al9,al5 hj];exact anW hj
 have Nu:=h.heap.but ho hf i.toNat
 have hO:¬Jx l i x:=by
  rintro⟨k,k1,k2⟩
  have:=h.pl.GQ k2 hi
  omega
 obtain⟨p1,p2⟩:=DX (lt:=lt') (d:=d) x i.toNat l pl i (ami _) i0 (by omega) (h.pl.aep hi i0) hO
 refine⟨⟨Kg ho' hf x _ _ _ _ (ami _) i0 (by omega) ⟨fun j h1 h2 h3 h4=>?_,fun j h1 h2 h3 h4=>?_⟩ (fun j h1 h2 h3=>?_),p1⟩,fun z=>?_,xW _ _ _ _ _ _ _,?_⟩
 ·have:=cM hf h1
  rw[aR _ (bS j h2) _ (bS _ (by omega)) (oU j h2 h3) (oU _ (by omega) h4)]
  exact Nu.1 j h1 h2 h3 h4
 ·have:=cM hf h1
  have:=cM hf h4
  rw[aR _ (bS j h2) _ (bS _ (by omega)) (oU j h2 (by omega)) (oU _ (by omega) (by omega))]
  exact Nu.2 j h1 h2 h3 h4
 ·have Ws:=cM hf h1
  have aT:=oU j h2 (by omega)
  have:=h.heap j h1 h2
  rw[h3,show l.getD i.toNat 0=x by rw[al9,hi];rfl]at this
  exact Wr _ (bS j h2) aT this
 ·rw[p2 z]
  constructor
  ·rintro(rfl| ⟨k,_,k2⟩)
   ·exact amb hi
   ·exact amb k2
  ·intro hm
   obtain⟨k,hk⟩:=amy hm
   by_cases e:(k:Int)=i
   ·rw[show k=i.toNat by omega,hi]at hk;injection hk with hk;exact .inl hk.symm
   ·exact .inr ⟨k,e,hk⟩
 ·have e1:=GP lt' d x i.toNat l pl i
  have e2:=nR hf ((l.length:Int) - 1).toNat i ((l.length:Int) - 1) (ami _) (by omega)
  unfold nQ at e2 ⊢
  omega
structure Rw where
 r:Nat
 S:Nat→Prop
 l:List Int
 pl:Int→Option Int
def Vu:Option Rw→Value
 |none=>.pointer none
 |some R=>ptr R.r
structure vm(H:Hp)(n c:Nat)(C:Nat→Prop)(rv:Value)(fp:Option Nat)(d st:Int)(w:Nw)(rs:List (Option Rw)):Prop where
 own:H.own n=some [ptr c,i64 d,rv]
 cells:bv H c C st w
 sl:Sl H 1 rv rs.length (rs.map Vu) fp
 row:∀ (h:Nat) R,rs[h]? =some (some R)→du H R.r R.S d R.l R.pl
 nC:¬C n
 zt:∀b,fp=some b→b≠n∧¬C b
 pO:∀ (h:Nat) R,rs[h]? =some (some R)→∀x,R.S x→¬C x∧x≠n∧fp≠some x
 sm:∀ (h h':Nat) R R',rs[h]? =some (some R)→rs[h']? =some (some R')→h≠h'→∀x,R.S x→¬R'.S x
def EO(n:Nat)(C:Nat→Prop)(fp:Option Nat)(rs:List (Option Rw))(z:Nat):Prop:=C z∨z=n∨fp=some z∨∃ (h:Nat) (R:Rw),rs[h]? =some (some R)∧R.S z
structure St(d:Int)(w:Nw)(rs:List (Option Rw)):Prop where
 Bc:cT d
 hl:rs.length=w.hs.length
 hs:∀h:Nat,w.hs[h]? =some true↔∃R,rs[h]? =some (some R)
 h0:rs[0]? =some none
 ok:∀ (h:Nat) R,rs[h]? =some (some R)→ci (aV w) d R.l R.pl
 mem:∀ (h:Nat) R,rs[h]? =some (some R)→∀x:Int,x∈R.l↔0≤x∧∃e,w.cs[x.toNat]? =some (((h:Nat):Int),e)
 len:∀ (h:Nat) R,rs[h]? =some (some R)→(R.l.length:Int)=w.len h
def di(H:Hp)(n:Nat)(S:Nat→Prop)(d st:Int)(w:Nw):Prop:=∃c C rv fp rs,vm H n c C rv fp d st w rs∧St d w rs∧(∀z,EO n C fp rs z↔S z)
theorem vm.slt{H:Hp}{n c:Nat}{C:Nat→Prop}{rv:Value}{fp:Option Nat}{d st:Int}{w:Nw}{rs:List (Option Rw)}(h:vm H n c C rv fp d st w rs):∀z,EO n C fp rs z→z<H.size:=by
 rintro z (hz|rfl|hz| ⟨i,R,hR,hz⟩)
 ·exact h.cells.slt z hz
 ·exact aO h.own
 ·exact Sl.lt (hz▸h.sl)
 ·exact(h.row i R hR).slt z hz
theorem vm.ext{H H':Hp}{n c:Nat}{C T:Nat→Prop}{rv:Value}{fp:Option Nat}{d st:Int}{w:Nw}{rs:List (Option Rw)}(h:vm H n c C rv fp d st w rs)(e:ai T H H')(hd:∀z,EO n C fp rs z→¬T z):vm H' n c C rv fp d st w rs:=
 ⟨e.own h.own (hd n (.inr (.inl rfl))),h.cells.ext e (fun x hx=>hd x (.inl hx)),h.sl.ext e (fun b hb=>hd b (.inr (.inr (.inl hb)))),fun i R hR=>(h.row i R hR).ext e (fun x hx=>hd x (.inr (.inr (.inr ⟨i,R,hR,hx⟩)))),h.nC,h.zt,h.pO,h.sm⟩
theorem di.slt{H:Hp}{n:Nat}{S:Nat→Prop}{d st:Int}{w:Nw}(h:di H n S d st w):∀z,S z→z<H.size:=by
 obtain⟨c,C,rv,fp,rs,m,l,hS⟩:=h
 exact fun z hz=>m.slt z ((hS z).2 hz)
theorem di.ext{H H':Hp}{n:Nat}{S T:Nat→Prop}{d st:Int}{w:Nw}(h:di H n S d st w)(e:ai T H H')(hd:∀z,S z→¬T z):di H' n S d st w:=by
 obtain⟨c,C,rv,fp,rs,m,l,hS⟩:=h
 exact⟨c,C,rv,fp,rs,m.ext e (fun z hz=>hd z ((hS z).1 hz)),l,hS⟩
theorem di.fresh{H H':Hp}{n:Nat}{S:Nat→Prop}{d st:Int}{w:Nw}(h:di H n S d st w)(e:ax H H'):di H' n S d st w:=h.ext e fun _ _ h=>h
theorem sr(cap d:Int)(H:Hp):ah Tryz.prog M2 [i64 cap,i64 d] H fun v H'=>ay (
  ax H H'∧((¬ (0≤cap∧cap≤65536)∧v= .tuple [.pointer none,i64 31].toArray)∨((0≤cap∧cap≤65536)∧¬cT d∧v= .tuple [.pointer none,i64 22].toArray)∨
   ((0≤cap∧cap≤65536)∧cT d∧∃n S,v= .tuple [ptr n,i64 0].toArray∧di H' n S d 0 ⟨[false],List.replicate cap.toNat (0,0,0)⟩∧∀x,S x→H.size≤x))):=by
 refine be M7 ⟨rfl,?_⟩
 refine v1 AA.eq_1 ?_
 refine(oI cap H).mono ?_
 rintro _ H1 ⟨f1,⟨hb,rfl⟩| ⟨hb,c,C,rfl,c1,hC⟩⟩
 ·refine vs ?_
  exact⟨f1,.inl ⟨hb,rfl⟩⟩
 refine vs ?_
 refine(zG d H1).mono ?_
 rintro _ H2 ⟨f2,⟨hf,rfl⟩| ⟨hf,r,S,rfl,r2,hS⟩⟩
 ·refine vs ?_
  exact⟨f1.trans f2,.inr (.inl ⟨hb,hf,rfl⟩)⟩
 refine v1 amp ?_
 have f3:ax H2 ((H2.new 250 [.pointer none]).new 255 [ptr c,i64 d,.slice (some ⟨H2.size,0,none⟩) 1 1]):=((ai.refl _ _).new _ _).new _ _
 have z1:=f1.size
 have z2:=f2.size
 have zF:=c1.slt
 refine⟨(f1.trans f2).trans f3,.inr (.inr ⟨hb,hf,H2.size+1,EO (H2.size+1) C (some H2.size) [none],rfl,⟨c,C,.slice (some ⟨H2.size,0,none⟩) 1 1,some H2.size,[none],
  ⟨bD (by simp only[au]),(c1.fresh f2).fresh f3,?_,fun h R hR=>?_,fun h=>by have:=zF _ h;omega,fun b hb=>?_,fun h R hR=>?_,fun h h' R R' hR=>?_⟩,
  ⟨hf,rfl,fun h=>?_,rfl,fun h R hR=>?_,fun h R hR=>?_,fun h R hR=>?_⟩,fun z=>Iff.rfl⟩,fun x hx=>?_⟩)⟩
 ·exact(Sl.dE (size:=1) (n:=1) (xs:=[.pointer none]) rfl rfl).ext ((ai.refl (fun _=>False) _).new _ _) (fun _ _ h=>h)
 ·rcases h with _|h<;>simp at hR
 ·injection hb with hb
  subst hb
  exact⟨by omega,fun h=>by have:=zF _ h;omega⟩
 ·rcases h with _|h<;>simp at hR
 ·rcases h with _|h<;>simp at hR
 ·rcases h with _|h<;>simp
 ·rcases h with _|h<;>simp at hR
 ·rcases h with _|h<;>simp at hR
 ·rcases h with _|h<;>simp at hR
 ·rcases hx with hx|rfl|hx| ⟨i,R,hR,hx⟩
  ·exact hC x hx
  ·omega
  ·injection hx with hx;omega
  ·rcases i with _|i<;>simp at hR
theorem G9{n c:Nat}{C:Nat→Prop}{rv:Value}{d st:Int}{w:Nw}(hn:¬C n):Nq (.iface 194 (ptr n)) (fun H k=>bv H c C (min (st+k) 4611686018427387904) w∧H.own n=some [ptr c,i64 d,rv])
  (fun x=>C x∨x=n) (aV w) (cZ w.cs):=by
 refine⟨fun H k a b ha hb h=>⟨_,_,cQ,ptr c,rfl,ic (off:=0) (by kernel_rfl) (ae h.2) rfl,(lW h.1 a b).mono ?_⟩,aaE (x:=(0,cQ)) (by kernel_rfl),fun H H' k U h e hd=>?_,fun H k h x hx=>?_⟩
 ·rintro v H' ⟨rfl,h1,e⟩
  rw[if_pos ⟨ha,hb⟩]at h1
  have hs:hG (min (st+(k:Nat)) 4611686018427387904) 1=min (st+((k+1:Nat):Int)) 4611686018427387904:=by
   unfold hG
   rw[if_neg (by omega)]
   split<;>omega
  rw[hs]at h1
  exact⟨by rw[DY ha hb],⟨h1,e.own h.2 hn⟩,e.mono fun z _ hz=>.inl hz⟩
 ·exact⟨h.1.ext e (fun x hx=>hd x (.inl hx)),e.own h.2 (hd n (.inr rfl))⟩
 ·rcases hx with hx|rfl
  ·exact h.1.slt x hx
  ·exact aO h.2
theorem Ha{H:Hp}{n:Nat}{S:Nat→Prop}{d st:Int}{w:Nw}(h:di H n S d st w):ah Tryz.prog sN [ptr n] H fun v H'=>ay (
  (w.hs.length=65537∧v=i64 0∧H=H')∨
  (w.hs.length≠65537∧v=i64 w.hs.length∧∃S',di H' n S' d st w.make∧ai S H H'∧∀x,S' x→S x∨H.size≤x)):=by
 obtain⟨c,C,rv,fp,rs,m,l,hS⟩:=h
 refine be DB ⟨rfl,?_⟩
 refine v2 mN.eq_1 (ae m.own) ?_
 refine(mY m.cells).mono ?_
 rintro _ H1 (⟨h1,rfl,rfl⟩| ⟨h1,rfl,C',c1,e1,Ba⟩)
 ·refine vs ?_
  exact .inl ⟨h1,rfl,rfl⟩
 have gD:0<rs.length:=(al7.1 l.h0).1
 have pJ:=l.hl
 have o1:=e1.own m.own m.nC
 refine vs ?_
 refine ak.cE (amj (by omega)) ?_
 refine v1 (ae o1) ?_
 refine(zG d H1).mono ?_
 rintro _ H2 ⟨f2,⟨hf,_⟩| ⟨_,r,Sr,rfl,r2,Vv⟩⟩
 ·exact absurd l.Bc hf
 have o2:=f2.own o1 (fun h=>h)
 refine v1 (ae o2) ?_
 have EM:=m.cells.EM
 have fH:=m.slt
 have Sq:=c1.slt
 have Bu:=r2.slt
 have z1:=e1.size
 have z2:=f2.size
 have e0:ai (fun _=>False) H2 (H2.new 250 [ptr r]):=(ai.refl _ _).new _ _
 have sl2:=(m.sl.ext e1 (fun b hb h=>(m.zt b hb).2 h)).ext f2 (fun _ _ h=>h)
 refine Sl.append (sl2.ext e0 (fun _ _ h=>h)) (Sl.dE (size:=1) (xs:=[ptr r]) rfl rfl).rd rfl (by intro v hv;simp only[amg]at hv;subst hv;rfl) (by omega) ?_
 intro v' H3 fL s3 e3 mr
 have o3:=e3.own (e0.own o2 (fun h=>h)) (fun e=>(m.zt n e).1 rfl)
 obtain⟨a',WK,O1⟩:=ep.RX s3.rd
 subst O1
 refine v1 o3 ?_
 generalize O1:Value.slice a' (rs.length+1) WK=v' at*
 have e4:ai (fun z=>z=n) H3 (H3.wr n [ptr c,i64 d,v']):=(ai.refl (fun z=>z=n) _).wr (fun _=>rfl) _
 have hn:=aO m.own
 have Un:∀b,fp=some b→b<H.size:=fun b hb=>fH b (.inr (.inr (.inl hb)))
 have hCl:∀z,C z→z<H.size:=fun z hz=>fH z (.inl hz)
 have FK:∀b,fL=some b→fp=some b∨H2.size≤b:=fun b hb=>by
  rcases mr with h| ⟨z,h,h5,_⟩
  ·exact .inl (h▸hb)
  ·rw[h]at hb;injection hb with hb;subst hb;rw[au]at h5;exact .inr (by omega)
 have G1:∀z,C' z→C z∨H.size≤z:=Ba
 have NH:ai (fun z=>fp=some z) H2 H3:=(e0.mono fun _ _ h=>h.elim).ut e3 (fun z _ h=>h)
 have ce:∀ (h:Nat) R,(rs++[some (⟨r,Sr,[],fun _=>none⟩:Rw)])[h]? =some (some R)→rs[h]? =some (some R)∨(h=rs.length∧R=⟨r,Sr,[],fun _=>none⟩):=fun h R hR=>by
  rcases anC h rs.length with h5|h5|h5
  ·rw[amn h5]at hR;exact .inl hR
  ·subst h5
   rw[amw (ami _),am3]at hR
   simp only[amz,ame]at hR
   exact .inr ⟨rfl,hR.symm⟩
  ·rw[amk (by rw[amh,amx];omega)]at hR
   cases hR
 have hold:∀ (h:Nat) R,rs[h]? =some (some R)→∀x,R.S x→¬C x∧x≠n∧fp≠some x∧x<H.size:=fun h R hR x hx=>
  ⟨(m.pO h R hR x hx).1,(m.pO h R hR x hx).2.1,(m.pO h R hR x hx).2.2,fH x (.inr (.inr (.inr ⟨h,R,hR,hx⟩)))⟩
 have JR:∀ (x:Nat) (e:Int×Int),w.cs[x]? ≠some (((rs.length:Nat):Int),e):=fun x e hx=>by
  have:=(m.cells.home _ (amb hx)).2
  simp only at this
  omega
 refine .inr ⟨h1,rfl,EO n C' fL (rs++[some ⟨r,Sr,[],fun _=>none⟩]),⟨c,C',v',fL,rs++[some ⟨r,Sr,[],fun _=>none⟩],
  ⟨aj o3,?_,?_,fun h R hR=>?_,fun h=>?_,fun b hb=>⟨?_,fun h=>?_⟩,fun h R hR x hx=>⟨fun h=>?_,?_,fun h=>?_⟩,fun h h' R R' hR hR' aT x hx xi=>?_⟩,
  ⟨l.Bc,?_,fun h=>?_,?_,fun h R hR=>?_,fun h R hR x=>?_,fun h R hR=>?_⟩,fun z=>Iff.rfl⟩,?_,fun x hx=>?_⟩
 ·exact(((c1.ext f2 (fun _ _ h=>h)).ext NH (fun x hx e=>by
   rcases G1 x hx with h|h
   ·exact(m.zt x e).2 h
   ·have:=Un x e;omega)).ext e4 (fun x hx e=>by
   rcases G1 x hx with h|h
   ·exact m.nC (e▸h)
   ·omega))
 ·have:=s3.ext e4 (fun b hb e=>by
   rcases FK b hb with h|h
   ·exact(m.zt b h).1 e
   ·omega)
  rw[amh,amU]
  exact this
 ·rcases ce h R hR with h5| ⟨rfl,rfl⟩
  ·exact((((m.row h R h5).ext e1 (fun x hx=>(hold h R h5 x hx).1)).ext f2 (fun _ _ h=>h)).ext NH (fun x hx=>(hold h R h5 x hx).2.2.1)).ext e4 (fun x hx=>(hold h R h5 x hx).2.1)
  ·exact(r2.ext NH (fun x hx e=>by have:=Vv x hx;have:=Un x e;omega)).ext e4 (fun x hx e=>by have:=Vv x hx;omega)
 ·rcases G1 n h with h|h
  ·exact m.nC h
  ·omega
 ·rcases FK b hb with h|h
  ·exact(m.zt b h).1
  ·omega
 ·rcases FK b hb with h5|h5
  ·rcases G1 b h with h6|h6
   ·exact(m.zt b h5).2 h6
   ·have:=Un b h5;omega
  ·have:=Sq b h;omega
 ·rcases ce _ R hR with h5| ⟨_,rfl⟩
  ·rcases G1 x h with h6|h6
   ·exact(hold _ R h5 x hx).1 h6
   ·have:=(hold _ R h5 x hx).2.2.2;omega
  ·have:=Vv x hx;have:=Sq x h;omega
 ·rcases ce _ R hR with h5| ⟨_,rfl⟩
  ·exact(hold _ R h5 x hx).2.1
  ·have:=Vv x hx;omega
 ·rcases ce _ R hR with h5| ⟨_,rfl⟩
  ·rcases FK x h with h6|h6
   ·exact(hold _ R h5 x hx).2.2.1 h6
   ·have:=(hold _ R h5 x hx).2.2.2;omega
  ·have h7:=Bu x hx
   rcases FK x h with h6|h6
   ·have:=Vv x hx;have:=Un x h6;omega
   ·omega
 ·rcases ce _ R hR with h5| ⟨h5,rfl⟩
  ·rcases ce _ R' hR' with h6| ⟨h6,rfl⟩
   ·exact m.sm h h' R R' h5 h6 aT x hx xi
   ·have:=Vv x xi;have:=(hold _ R h5 x hx).2.2.2;omega
  ·rcases ce _ R' hR' with h6| ⟨h6,rfl⟩
   ·have:=Vv x hx;have:=(hold _ R' h6 x xi).2.2.2;omega
   ·omega
 ·simp[Nw.make,pJ]
 ·show(w.hs++[true])[h]? =some true↔_
  rcases anC h rs.length with h5|h5|h5
  ·rw[amn h5,amn (by omega)]
   exact l.hs h
  ·subst h5
   rw[amw (ami _),amw (by omega),am3,pJ,am3]
   simp
  ·rw[amk (by rw[amh,amx];omega),amk (by rw[amh,amx];omega)]
   simp
 ·rw[amn gD];exact l.h0
 ·rcases ce h R hR with h5| ⟨rfl,rfl⟩
  ·exact l.ok h R h5
  ·exact ci.nil _ _
 ·rcases ce h R hR with h5| ⟨rfl,rfl⟩
  ·exact l.mem h R h5 x
  ·simp only[aoa,false_iff]
   rintro⟨_,e,he⟩
   exact JR _ _ he
 ·rcases ce h R hR with h5| ⟨rfl,rfl⟩
  ·exact l.len h R h5
  ·show((0:Nat):Int)=w.len _
   unfold Nw.len
   rw[if_pos (by omega),anF.2 (fun x hx=>by
    have:=(m.cells.home x hx).2
    simp only[amQ]
    omega)]
 ·exact((e1.mono fun z _ hz=>(hS z).1 (.inl hz)).trans ((f2.mono fun _ _ h=>h.elim).trans (NH.mono fun z _ hz=>(hS z).1 (.inr (.inr (.inl hz)))))).trans (e4.mono fun z _ hz=>(hS z).1 (.inr (.inl hz)))
 ·rcases hx with hx|rfl|hx| ⟨i,R,hR,hx⟩
  ·rcases G1 x hx with h|h
   ·exact .inl ((hS x).1 (.inl h))
   ·exact .inr h
  ·exact .inl ((hS x).1 (.inr (.inl rfl)))
  ·rcases FK x hx with h|h
   ·exact .inl ((hS x).1 (.inr (.inr (.inl h))))
   ·exact .inr (by omega)
  ·rcases ce _ R hR with h5| ⟨_,rfl⟩
   ·exact .inl ((hS x).1 (.inr (.inr (.inr ⟨i,R,h5,hx⟩))))
   ·have:=Vv x hx;exact .inr (by omega)
theorem St.gf{d:Int}{w:Nw}{rs:List (Option Rw)}(l:St d w rs){g:Int}(h:w.has g):∃R,rs[g.toNat]? =some (some R):=(l.hs g.toNat).1 h.2
theorem zK{H:Hp}{n:Nat}{S:Nat→Prop}{d st:Int}{w:Nw}(h:di H n S d st w)(g:Int):ah Tryz.prog uY [ptr n,i64 g] H fun v H'=>ay (
  ((¬w.has g∧v= .tuple [i64 0,.bool false].toArray)∨(w.has g∧w.len g=0∧v= .tuple [i64 0,.bool false].toArray)∨
   (w.has g∧∃x,cZ w.cs x∧(∃e,w.cs[x.toNat]? =some (g,e))∧v= .tuple [i64 x,.bool true].toArray∧∀y,0≤y→(∃e,w.cs[y.toNat]? =some (g,e))→y≠x→aV w x y=true))∧H=H'):=by
 obtain⟨c,C,rv,fp,rs,m,l,hS⟩:=h
 refine be Fe ⟨rfl,?_⟩
 refine v2 oA.eq_1 (ae m.own) ?_
 refine(ju m.cells g).mono ?_
 rintro _ _ ⟨rfl,rfl⟩
 refine vs ?_
 refine ak.dec (fun hh=>?_) (fun hh=>?_)
 ·obtain⟨R,hR⟩:=l.gf hh
  have h1:=hh.1
  have aR:=(al7.1 hR).1
  obtain⟨b,o,c',lb,e1,e2,e3,e4⟩:=ep.get m.sl.rd (i:=g.toNat) (j:=0) (x:=ptr R.r) (by omega) (by simp[hR,Vu])
  subst e1
  have Bx:((g.toNat:Nat):Int)=g:=by omega
  refine v1 (ae m.own) ?_
  refine⟨by omega,?_⟩
  refine v2 e2 (show lb[o+g.toNat*1]? =some (ptr R.r)from e4) ?_
  refine(Kf (m.row _ R hR) 0).mono ?_
  rintro _ _ ⟨rfl,rfl⟩
  have cF:=l.mem _ R hR
  rw[Bx]at cF
  have bm:=l.len _ R hR
  rw[Bx]at bm
  rw[show(if(0:Int)≤0 then R.l[Int.toNat 0]? else none)=R.l[0]? from rfl,TX]
  cases h0:R.l[0]? with
  |none=>
   have:R.l.length=0:=by
    rcases anu R.l.length with h|h
    ·exact h
    ·rw[al5 h]at h0;cases h0
   simp(disch:=(first|omega| (simp only[Zs]<;>omega)|fail)) only[go_sem, ↓reduceIte,Zv,Option.isSome_none,Option.getD_none]
   exact⟨.inr (.inl ⟨hh,by omega,rfl⟩),rfl⟩
  |some x=>
   simp(disch:=(first|omega| (simp only[Zs]<;>omega)|fail)) only[go_sem, ↓reduceIte,Zv,Option.isSome_some,Option.getD_some]
   obtain⟨x0,e,he⟩:=(cF x).1 (amb h0)
   refine⟨.inr (.inr ⟨hh,x,⟨x0,_,he,by simp only;omega⟩,⟨e,he⟩,rfl,fun y hy0 hy aT=>?_⟩),rfl⟩
   exact ci.least (aq w) l.Bc (l.ok _ R hR) h0 y ((cF y).2 ⟨hy0,hy⟩) aT
 ·refine vs ?_
  exact⟨.inl ⟨hh,rfl⟩,rfl⟩
theorem vm.setRow{H H':Hp}{n c:Nat}{C T:Nat→Prop}{rv:Value}{fp:Option Nat}{d st WN:Int}{w w':Nw}{rs:List (Option Rw)}(m:vm H n c C rv fp d st w rs){g:Nat}{R R':Rw}(hR:rs[g]? =some (some R))(hr:R'.r=R.r)
  (row:du H' R'.r R'.S d R'.l R'.pl)(hRS:∀z,R'.S z→R.S z∨H.size≤z)(e:ai T H H')(hT:∀z,T z→C z∨R.S z∨z=n)(cells:bv H' c C WN w')(own:H'.own n=some [ptr c,i64 d,rv]):
  vm H' n c C rv fp d WN w' (rs.set g (some R')):=by
 have fH:=m.slt
 have hg:=(al7.1 hR).1
 have ce:∀ (h:Nat) Q,(rs.set g (some R'))[h]? =some (some Q)→(h=g∧Q=R')∨(h≠g∧rs[h]? =some (some Q)):=fun h Q hQ=>by
  by_cases hh:h=g
  ·subst hh
   rw[amd hg]at hQ
   simp only[ame]at hQ
   exact .inl ⟨rfl,hQ.symm⟩
  ·rw[amc (Ne.symm hh)]at hQ
   exact .inr ⟨hh,hQ⟩
 refine⟨own,cells,?_,fun h Q hQ=>?_,m.nC,m.zt,fun h Q hQ x hx=>?_,fun h h' Q Q' hQ hQ' aT x hx xi=>?_⟩
 ·have h1:(rs.set g (some R')).map Vu=rs.map Vu:=by
   rw[amO]
   refine amN fun i=>?_
   by_cases hi:i=g
   ·subst hi
    rw[amd (by rw[amu];exact hg),amo,hR]
    simp[Vu,hr]
   ·rw[amc (Ne.symm hi)]
  rw[h1,al8]
  exact m.sl.ext e (fun b hb ht=>by
   rcases hT b ht with h|h|h
   ·exact(m.zt b hb).2 h
   ·exact(m.pO _ R hR b h).2.2 hb
   ·exact(m.zt b hb).1 h)
 ·rcases ce h Q hQ with ⟨rfl,rfl⟩| ⟨h1,h2⟩
  ·exact row
  ·exact(m.row h Q h2).ext e (fun x hx ht=>by
    rcases hT x ht with h3|h3|h3
    ·exact(m.pO h Q h2 x hx).1 h3
    ·exact m.sm h g Q R h2 hR h1 x hx h3
    ·exact(m.pO h Q h2 x hx).2.1 h3)
 ·rcases ce h Q hQ with ⟨rfl,rfl⟩| ⟨h1,h2⟩
  ·rcases hRS x hx with h3|h3
   ·exact m.pO _ R hR x h3
   ·refine⟨fun hc=>?_,fun hc=>?_,fun hc=>?_⟩
    ·have:=fH x (.inl hc);omega
    ·have:=fH n (.inr (.inl rfl));omega
    ·have:=fH x (.inr (.inr (.inl hc)));omega
  ·exact m.pO h Q h2 x hx
 ·rcases ce h Q hQ with ⟨rfl,rfl⟩| ⟨h1,h2⟩
  ·rcases ce h' Q' hQ' with ⟨rfl,rfl⟩| ⟨h3,h4⟩
   ·exact aT rfl
   ·rcases hRS x hx with h5|h5
    ·exact m.sm _ h' R Q' hR h4 aT x h5 xi
    ·have:=fH x (.inr (.inr (.inr ⟨h',Q',h4,xi⟩)));omega
  ·rcases ce h' Q' hQ' with ⟨rfl,rfl⟩| ⟨h3,h4⟩
   ·rcases hRS x xi with h5|h5
    ·exact m.sm h _ Q R h2 hR aT x hx h5
    ·have:=fH x (.inr (.inr (.inr ⟨h,Q,h2,hx⟩)));omega
   ·exact m.sm h h' Q Q' h2 h4 aT x hx xi
theorem Uo(lt:Int→Int→Bool){d:Int}(hf:cT d)(x:Int){m:Nat}(l:List Int)(pl:Int→Option Int){i:Int}(hi:1≤i)(hm:i.toNat≤m):0< (gw lt d x m l pl i).asked:=by
 obtain⟨q,rfl⟩:∃q,m=q+1:=⟨m - 1,by omega⟩
 have hp:bi d i=some ((i - 1) / d):=by unfold bi;rw[if_pos ⟨hf,hi⟩]
 simp only[gw,hp]
 split<;>simp
theorem Ee{H:Hp}{n:Nat}{S:Nat→Prop}{d st:Int}{w:Nw}(h:di H n S d st w)(g x k s:Int):ah Tryz.prog p8 [ptr n,i64 g,i64 x,vV k s] H fun v H'=>ay (
  (¬ (w.has g∧(0≤x∧x<w.cs.length)∧¬cZ w.cs x)∧v= .bool false∧di H' n S d st w∧ai S H H')∨
  ((w.has g∧(0≤x∧x<w.cs.length)∧¬cZ w.cs x)∧v= .bool true∧∃ (S':Nat→Prop) (q:Nat),(q:Int)≤nQ d (w.len g).toNat∧(0<w.len g→0<q)∧di H' n S' d (min (st+q) 4611686018427387904) (w.put x (g,k,s))∧ai S H H'∧∀z,S' z→S z∨H.size≤z)):=by
 obtain⟨c,C,rv,fp,rs,m,l,hS⟩:=h
 refine be AJ ⟨rfl,?_⟩
 refine v1 jN.eq_1 ?_
 have f0:ax H (H.new 224 [i64 k,u64 s]):=(ai.refl _ _).new _ _
 have b0:(H.new 224 [i64 k,u64 s]).own H.size=some [i64 k,u64 s]:=aG _ _ _
 have m0:=m.ext f0 (fun _ _ h=>h)
 generalize H.new 224 [i64 k,u64 s]=H0 at*
 refine v2 (ae m0.own) (ae b0) ?_
 refine(oJ m0.cells g x k s).mono ?_
 rintro _ H1 (⟨cr,rfl,c1,e1⟩| ⟨tw,rfl,c1,e1⟩)
 ·refine vs ?_
  refine .inl ⟨cr,rfl,⟨c,C,rv,fp,rs,?_,l,hS⟩,(f0.mono fun _ _ h=>h.elim).trans (e1.mono fun z _ hz=>(hS z).1 (.inl hz))⟩
  exact⟨e1.own m0.own m.nC,c1,m0.sl.ext e1 (fun b hb h=>(m.zt b hb).2 h),fun i R hR=>(m0.row i R hR).ext e1 (fun x hx=>(m.pO i R hR x hx).1),m.nC,m.zt,m.pO,m.sm⟩
 ·obtain⟨hh,⟨iq,jq⟩,bS⟩:=id tw
  obtain⟨R,hR⟩:=l.gf hh
  have h1:=hh.1
  have Bx:((g.toNat:Nat):Int)=g:=by omega
  have cF:=l.mem _ R hR
  have bm:=l.len _ R hR
  rw[Bx]at cF bm
  obtain⟨c0,rl⟩:∃c0,w.cs[x.toNat]? =some c0:=⟨_,al5 (by omega)⟩
  have De:¬0<c0.1:=fun h=>bS ⟨iq,c0,rl,h⟩
  have cU:(w.put x (g,k,s)).cs[x.toNat]? =some (g,k,s):=amd (by omega)
  have nY:∀y:Nat,y≠x.toNat→(w.put x (g,k,s)).cs[y]? =w.cs[y]? :=fun y hy=>amc (Ne.symm hy)
  have Qa:∀ (i:Nat) Q,rs[i]? =some (some Q)→x∉Q.l:=fun i Q hQ hm=>by
   obtain⟨_,e,he⟩:=(l.mem i Q hQ x).1 hm
   rw[rl]at he
   injection he with he
   subst he
   rcases anu i with hi|hi
   ·subst hi;rw[l.h0]at hQ;cases hQ
   ·exact De (by simp only;omega)
  have aT:∀ (i:Nat) Q,rs[i]? =some (some Q)→∀y∈Q.l,0≤y∧y.toNat≠x.toNat:=fun i Q hQ y hy=>by
   have h2:=((l.mem i Q hQ y).1 hy).1
   exact⟨h2,fun e=>Qa i Q hQ (by rw[show x=y by omega];exact hy)⟩
  have WQ:∀ (i:Nat) Q,rs[i]? =some (some Q)→ci (aV (w.put x (g,k,s))) d Q.l Q.pl:=fun i Q hQ=>
   ci.congr l.Bc (l.ok i Q hQ) fun z hz y hy=>(jv w x _ (aT i Q hQ z hz).2 (aT i Q hQ y hy).2).symm
  have G8:∀z∈R.l,cZ (w.put x (g,k,s)).cs z:=fun z hz=>by
   obtain⟨z0,e,he⟩:=(cF z).1 hz
   exact⟨z0,_,by rw[nY _ (aT _ R hR z hz).2];exact he,by simp only;omega⟩
  have WR:cZ (w.put x (g,k,s)).cs x:=⟨iq,_,cU,by simp only;omega⟩
  have o1:=e1.own m0.own m.nC
  have aaF:=m.cells.st
  have m1:vm H1 n c C rv fp d st (w.put x (g,k,s)) rs:=⟨o1,c1,m0.sl.ext e1 (fun b hb h=>(m.zt b hb).2 h),fun i R hR=>(m0.row i R hR).ext e1 (fun x hx=>(m.pO i R hR x hx).1),m.nC,m.zt,m.pO,m.sm⟩
  have aR:=(al7.1 hR).1
  obtain⟨b,o,c',lb,q1,q2,q3,q4⟩:=ep.get m1.sl.rd (i:=g.toNat) (j:=0) (x:=ptr R.r) (by omega) (by simp[hR,Vu])
  subst q1
  refine v1 (ae o1) ?_
  refine⟨by omega,?_⟩
  refine v2 q2 (show lb[o+g.toNat*1]? =some (ptr R.r)from q4) ?_
  have zp:=m.cells.Fu
  have pJ:R.l.length≤65536:=by have:=(w.A5 g).2;omega
  refine(IN (G9 (c:=c) (rv:=.slice (some ⟨b,o,none⟩) rs.length c') (d:=d) (st:=st) (w:=w.put x (g,k,s)) m.nC) (m1.row _ R hR) (fun z hz ht=>?_) (n:=0) ⟨by rw[show min (st+((0:Nat):Int)) 4611686018427387904=st by omega];exact c1,o1⟩ x (by omega) WR G8).mono ?_
  ·rcases ht with ht|ht
   ·exact(m.pO _ R hR z hz).1 ht
   ·exact(m.pO _ R hR z hz).2.1 ht
  rintro _ H2 (⟨hp,_,_⟩| ⟨hp,rfl,S',r2,⟨c2,o2⟩,e2,YM⟩)
  ·exact absurd ((ci.mem (l.ok _ R hR) x).2 hp) (Qa _ R hR)
  obtain⟨p1,p2,p3,p4⟩:=ci.add (aq (w.put x (g,k,s))) l.Bc (WQ _ R hR) hp
  have hq:0<R.l.length→0< (gw (aV (w.put x (g,k,s))) d x R.l.length (R.l++[x]) R.pl R.l.length).asked:=fun h=>Uo _ l.Bc x _ _ (by omega) (by omega)
  generalize hU:gw (aV (w.put x (g,k,s))) d x R.l.length (R.l++[x]) R.pl R.l.length=U at*
  rw[al6]at c2
  refine vs ?_
  have qS:∀z,(R.S z∨C z∨z=n)→S z:=fun z hz=>(hS z).1 (by
   rcases hz with hz|hz|hz
   ·exact .inr (.inr (.inr ⟨_,R,hR,hz⟩))
   ·exact .inl hz
   ·exact .inr (.inl hz))
  have ce:∀ (h:Nat) Q,(rs.set g.toNat (some (⟨R.r,S',U.l,U.pl⟩:Rw)))[h]? =some (some Q)→(h=g.toNat∧Q=⟨R.r,S',U.l,U.pl⟩)∨(h≠g.toNat∧rs[h]? =some (some Q)):=fun h Q hQ=>by
   by_cases hh:h=g.toNat
   ·subst hh
    rw[amd aR]at hQ
    simp only[ame]at hQ
    exact .inl ⟨rfl,hQ.symm⟩
   ·rw[amc (Ne.symm hh)]at hQ
    exact .inr ⟨hh,hQ⟩
  refine .inr ⟨tw,rfl,EO n C fp (rs.set g.toNat (some ⟨R.r,S',U.l,U.pl⟩)),U.asked,?_,fun h=>hq (by omega),
   ⟨c,C,_,fp,rs.set g.toNat (some ⟨R.r,S',U.l,U.pl⟩),m1.setRow hR (R':=⟨R.r,S',U.l,U.pl⟩) rfl r2 YM e2 (fun z hz=>?_) c2 o2,
    ⟨l.Bc,by rw[al8];exact l.hl,fun h=>?_,?_,fun h Q hQ=>?_,fun h Q hQ y=>?_,fun h Q hQ=>?_⟩,fun z=>Iff.rfl⟩,?_,fun z hz=>?_⟩
  ·rw[show((w.len g).toNat:Int)=(R.l.length:Int) by omega]
   exact Int.ofNat_le.2 p4
  ·rcases hz with hz|hz|hz
   ·exact .inr (.inl hz)
   ·exact .inl hz
   ·exact .inr (.inr hz)
  ·show w.hs[h]? =some true↔_
   rw[l.hs h]
   by_cases LZ:h=g.toNat
   ·subst LZ
    rw[amd aR]
    exact⟨fun _=>⟨_,rfl⟩,fun _=>⟨R,hR⟩⟩
   ·rw[amc (Ne.symm LZ)]
  ·rw[amc (by omega)];exact l.h0
  ·rcases ce h Q hQ with ⟨rfl,rfl⟩| ⟨h5,h6⟩
   ·exact p1
   ·exact WQ h Q h6
  ·rcases ce h Q hQ with ⟨rfl,rfl⟩| ⟨h5,h6⟩
   ·rw[Bx]
    show y∈U.l↔_
    rw[p2 y]
    constructor
    ·rintro(rfl|hy)
     ·exact⟨iq,_,cU⟩
     ·obtain⟨y0,e,he⟩:=(cF y).1 hy
      exact⟨y0,e,by rw[nY _ (aT _ R hR y hy).2];exact he⟩
    ·rintro⟨y0,e,he⟩
     by_cases qX:y.toNat=x.toNat
     ·exact .inl (by omega)
     ·rw[nY _ qX]at he
      exact .inr ((cF y).2 ⟨y0,e,he⟩)
   ·rw[l.mem h Q h6 y]
    by_cases qX:y.toNat=x.toNat
    ·rw[qX,cU,rl]
     constructor
     ·rintro⟨y0,e,he⟩
      injection he with he
      subst he
      rcases anu h with hi|hi
      ·subst hi;rw[l.h0]at h6;cases h6
      ·exact absurd (show(0:Int)< ((h:Nat):Int) by omega) De
     ·rintro⟨y0,e,he⟩
      injection he with he
      injection he with WS he2
      omega
    ·rw[nY _ qX]
  ·rcases ce h Q hQ with ⟨rfl,rfl⟩| ⟨h5,h6⟩
   ·rw[Bx,Nw.ir rl g,if_neg (fun hc=>by omega),if_pos ⟨by omega,rfl⟩]
    show(U.l.length:Int)=_
    omega
   ·rw[l.len h Q h6,Nw.ir rl h,if_neg (fun hc=>by omega),if_neg (fun hc=>by omega)]
    omega
  ·exact(f0.mono fun _ _ h=>h.elim).trans ((e1.mono fun z _ hz=>qS z (.inr (.inl hz))).trans (e2.mono fun z _ hz=>qS z hz))
  ·have z0:=f0.size
   have z1:=e1.size
   rcases hz with hz|rfl|hz| ⟨i,Q,hQ,hz⟩
   ·exact .inl (qS z (.inr (.inl hz)))
   ·exact .inl (qS z (.inr (.inr rfl)))
   ·exact .inl ((hS z).1 (.inr (.inr (.inl hz))))
   ·rcases ce i Q hQ with ⟨rfl,rfl⟩| ⟨h5,h6⟩
    ·rcases YM z hz with h|h
     ·exact .inl (qS z (.inl h))
     ·exact .inr (by omega)
    ·exact .inl ((hS z).1 (.inr (.inr (.inr ⟨i,Q,h6,hz⟩))))
theorem Ef{H:Hp}{n:Nat}{S:Nat→Prop}{d st:Int}{w:Nw}(h:di H n S d st w)(x:Int):ah Tryz.prog Ag [ptr n,i64 x] H fun v H'=>ay (
  (¬cZ w.cs x∧v= .bool false∧H=H')∨
  (cZ w.cs x∧v= .bool true∧∃ (c0:Ce) (q:Nat),w.cs[x.toNat]? =some c0∧(q:Int)≤d*(nQ d (w.len c0.1 - 1):Nat)+1∧∃S',di H' n S' d (min (st+q) 4611686018427387904) (w.put x (0,0,0))∧ai S H H'∧∀z,S' z→S z∨H.size≤z)):=by
 obtain⟨c,C,rv,fp,rs,m,l,hS⟩:=h
 refine be AH ⟨rfl,?_⟩
 refine v2 jL.eq_1 (ae m.own) ?_
 refine(eT m.cells x).mono ?_
 rintro _ H1 (⟨cr,rfl,rfl⟩| ⟨bS,c0,rl,rfl,c1,e1⟩)
 ·refine vs ?_
  exact .inl ⟨cr,rfl,rfl⟩
 obtain⟨iq,c0',Kp,gD⟩:=id bS
 rw[rl]at Kp
 injection Kp with Kp
 subst Kp
 obtain⟨R,hR⟩:=(l.hs c0.1.toNat).1 (m.cells.live _ (amb rl) gD)
 have Bx:((c0.1.toNat:Nat):Int)=c0.1:=by omega
 have cF:=l.mem _ R hR
 have bm:=l.len _ R hR
 rw[Bx]at cF bm
 have cU:(w.put x (0,0,0)).cs[x.toNat]? =some (0,0,0):=amd (al7.1 rl).1
 have nY:∀y:Nat,y≠x.toNat→(w.put x (0,0,0)).cs[y]? =w.cs[y]? :=fun y hy=>amc (Ne.symm hy)
 have o1:=e1.own m.own m.nC
 have m1:vm H1 n c C rv fp d st w rs:=⟨o1,c1,m.sl.ext e1 (fun b hb h=>(m.zt b hb).2 h),fun i R hR=>(m.row i R hR).ext e1 (fun x hx=>(m.pO i R hR x hx).1),m.nC,m.zt,m.pO,m.sm⟩
 have aR:=(al7.1 hR).1
 have hxR:x∈R.l:=(cF x).2 ⟨iq,c0.2,rl⟩
 have G8:∀z∈R.l,cZ w.cs z:=fun z hz=>by
  obtain⟨z0,e,he⟩:=(cF z).1 hz
  exact⟨z0,_,he,gD⟩
 obtain⟨b,o,c',lb,q1,q2,q3,q4⟩:=ep.get m1.sl.rd (i:=c0.1.toNat) (j:=0) (x:=ptr R.r) (by omega) (by simp[hR,Vu])
 subst q1
 have aaF:=m.cells.st
 have zp:=m.cells.Fu
 have pJ:R.l.length≤65536:=by have:=(w.A5 c0.1).2;omega
 refine v1 (ae o1) ?_
 refine⟨by omega,?_⟩
 refine v2 q2 (show lb[o+c0.1.toNat*1]? =some (ptr R.r)from q4) ?_
 refine(Ed (G9 (c:=c) (rv:=.slice (some ⟨b,o,none⟩) rs.length c') (d:=d) (st:=st) (w:=w) m.nC) (m1.row _ R hR) (fun z hz ht=>?_) (n:=0) ⟨by rw[show min (st+((0:Nat):Int)) 4611686018427387904=st by omega];exact c1,o1⟩ l.Bc x (by omega) (l.ok _ R hR).pl G8).mono ?_
 ·rcases ht with ht|ht
  ·exact(m.pO _ R hR z hz).1 ht
  ·exact(m.pO _ R hR z hz).2.1 ht
 rintro _ H2 (⟨hp,_,_⟩| ⟨i,hp,rfl,r2,⟨c2,o2⟩,e2⟩)
 ·exact absurd hp ((ci.mem (l.ok _ R hR) x).1 hxR)
 obtain⟨p1,p2,p3,p4⟩:=ci.WX (aq w) l.Bc (l.ok _ R hR) hp
 generalize hU:cS (aV w) d x R.l R.pl i=U at*
 rw[al6]at c2
 refine v1 (ae o2) ?_
 refine(mZ c2 x).mono ?_
 rintro _ H3 (⟨cr,_,_⟩| ⟨_,rfl,c3,e3⟩)
 ·exact absurd bS cr
 refine vs ?_
 have o3:=e3.own o2 m.nC
 have HQ:ai (fun z=>R.S z∨C z∨z=n) H1 H3:=e2.trans (e3.mono fun z _ hz=>.inr (.inl hz))
 have r3:=r2.ext e3 (fun z hz=>(m.pO _ R hR z hz).1)
 have qS:∀z,(R.S z∨C z∨z=n)→S z:=fun z hz=>(hS z).1 (by
  rcases hz with hz|hz|hz
  ·exact .inr (.inr (.inr ⟨_,R,hR,hz⟩))
  ·exact .inl hz
  ·exact .inr (.inl hz))
 have ce:∀ (h:Nat) Q,(rs.set c0.1.toNat (some (⟨R.r,R.S,U.1,U.2.1⟩:Rw)))[h]? =some (some Q)→(h=c0.1.toNat∧Q=⟨R.r,R.S,U.1,U.2.1⟩)∨(h≠c0.1.toNat∧rs[h]? =some (some Q)):=fun h Q hQ=>by
  by_cases hh:h=c0.1.toNat
  ·subst hh
   rw[amd aR]at hQ
   simp only[ame]at hQ
   exact .inl ⟨rfl,hQ.symm⟩
  ·rw[amc (Ne.symm hh)]at hQ
   exact .inr ⟨hh,hQ⟩
 have Fw:∀ (h:Nat) Q,rs[h]? =some (some Q)→0<h:=fun h Q hQ=>by
  rcases anu h with hi|hi
  ·subst hi;rw[l.h0]at hQ;cases hQ
  ·exact hi
 have aT:∀ (h:Nat) Q,h≠c0.1.toNat→rs[h]? =some (some Q)→∀y∈Q.l,y.toNat≠x.toNat:=fun h Q hh hQ y hy e=>by
  obtain⟨y0,e',he⟩:=(l.mem h Q hQ y).1 hy
  rw[e,rl]at he
  injection he with he
  rw[he]at hh
  simp only[Int.toNat_natCast]at hh
  exact hh rfl
 have NJ:∀y∈U.1,y.toNat≠x.toNat:=fun y hy e=>by
  obtain⟨h1,h2⟩:=(p3 y).1 hy
  have:=((cF y).1 h1).1
  omega
 refine .inr ⟨bS,rfl,c0,U.2.2,rl,?_,EO n C fp (rs.set c0.1.toNat (some ⟨R.r,R.S,U.1,U.2.1⟩)),
  ⟨c,C,_,fp,rs.set c0.1.toNat (some ⟨R.r,R.S,U.1,U.2.1⟩),m1.setRow hR (R':=⟨R.r,R.S,U.1,U.2.1⟩) rfl r3 (fun z hz=>.inl hz) HQ (fun z hz=>?_) c3 o3,
   ⟨l.Bc,by rw[al8];exact l.hl,fun h=>?_,?_,fun h Q hQ=>?_,fun h Q hQ y=>?_,fun h Q hQ=>?_⟩,fun z=>Iff.rfl⟩,?_,fun z hz=>?_⟩
 ·rw[←bm];exact p4
 ·rcases hz with hz|hz|hz
  ·exact .inr (.inl hz)
  ·exact .inl hz
  ·exact .inr (.inr hz)
 ·show w.hs[h]? =some true↔_
  rw[l.hs h]
  by_cases LZ:h=c0.1.toNat
  ·subst LZ
   rw[amd aR]
   exact⟨fun _=>⟨_,rfl⟩,fun _=>⟨R,hR⟩⟩
  ·rw[amc (Ne.symm LZ)]
 ·rw[amc (by omega)];exact l.h0
 ·rcases ce h Q hQ with ⟨rfl,rfl⟩| ⟨h5,h6⟩
  ·exact ci.congr l.Bc p1 fun z hz y hy=>(jv w x _ (NJ z hz) (NJ y hy)).symm
  ·exact ci.congr l.Bc (l.ok h Q h6) fun z hz y hy=>(jv w x _ (aT h Q h5 h6 z hz) (aT h Q h5 h6 y hy)).symm
 ·by_cases qX:y.toNat=x.toNat
  ·rw[qX,cU]
   have h0:=ce h Q hQ
   constructor
   ·intro hy
    rcases h0 with ⟨rfl,rfl⟩| ⟨h5,h6⟩
    ·exact absurd qX (NJ y hy)
    ·exact absurd qX (aT h Q h5 h6 y hy)
   ·rintro⟨_,e,he⟩
    injection he with he
    injection he with WS _
    rcases h0 with ⟨rfl,rfl⟩| ⟨h5,h6⟩
    ·omega
    ·have:=Fw h Q h6;omega
  ·rw[nY _ qX]
   rcases ce h Q hQ with ⟨rfl,rfl⟩| ⟨h5,h6⟩
   ·rw[Bx]
    show y∈U.1↔_
    rw[p3 y,cF y]
    constructor
    ·exact fun h=>h.1
    ·exact fun h=>⟨h,fun e=>qX (by rw[e])⟩
   ·exact l.mem h Q h6 y
 ·rcases ce h Q hQ with ⟨rfl,rfl⟩| ⟨h5,h6⟩
  ·rw[Bx,Nw.ir rl c0.1,if_pos ⟨gD,rfl⟩,if_neg (fun hc=>by omega)]
   show(U.1.length:Int)=_
   have:=List.length_pos_of_mem hxR
   omega
  ·have:=Fw h Q h6
   rw[l.len h Q h6,Nw.ir rl h,if_neg (fun hc=>by omega),if_neg (fun hc=>by omega)]
   omega
 ·exact(e1.mono fun z _ hz=>qS z (.inr (.inl hz))).trans (HQ.mono fun z _ hz=>qS z hz)
 ·rcases hz with hz|rfl|hz| ⟨i,Q,hQ,hz⟩
  ·exact .inl (qS z (.inr (.inl hz)))
  ·exact .inl (qS z (.inr (.inr rfl)))
  ·exact .inl ((hS z).1 (.inr (.inr (.inl hz))))
  ·rcases ce i Q hQ with ⟨rfl,rfl⟩| ⟨h5,h6⟩
   ·exact .inl (qS z (.inl hz))
   ·exact .inl ((hS z).1 (.inr (.inr (.inr ⟨i,Q,h6,hz⟩))))
theorem CG{H:Hp}{n:Nat}{S:Nat→Prop}{d st:Int}{w:Nw}(h:di H n S d st w)(g:Int):ah Tryz.prog oX [ptr n,i64 g] H fun v H'=>ay (
  ((¬w.has g∨(w.has g∧w.len g=0))∧v= .tuple [i64 0,.bool false].toArray∧H=H')∨
  (w.has g∧∃x,cZ w.cs x∧(∃e,w.cs[x.toNat]? =some (g,e))∧(∀y,0≤y→(∃e,w.cs[y.toNat]? =some (g,e))→y≠x→aV w x y=true)∧v= .tuple [i64 x,.bool true].toArray∧
   ∃q:Nat,(q:Int)≤d*(nQ d (w.len g - 1):Nat)+1∧∃S',di H' n S' d (min (st+q) 4611686018427387904) (w.put x (0,0,0))∧ai S H H'∧∀z,S' z→S z∨H.size≤z)):=by
 refine be yP ⟨rfl,?_⟩
 refine v1 iF.eq_1 ?_
 refine(zK h g).mono ?_
 rintro _ _ ⟨⟨cr,rfl⟩| ⟨hh,h0,rfl⟩| ⟨hh,x,hx,he,rfl,uE⟩,rfl⟩
 ·refine vs ?_
  exact .inl ⟨.inl cr,rfl,rfl⟩
 ·refine vs ?_
  exact .inl ⟨.inr ⟨hh,h0⟩,rfl,rfl⟩
 ·refine vs ?_
  refine(Ef h x).mono ?_
  rintro _ H1 (⟨cr,_,_⟩| ⟨_,rfl,c0,q,rl,hq,S',d1,e1,YM⟩)
  ·exact absurd hx cr
  refine vs ?_
  obtain⟨e,tL⟩:=id he
  rw[rl]at tL
  injection tL with tL
  subst tL
  exact .inr ⟨hh,x,hx,he,uE,rfl,q,hq,S',d1,e1,YM⟩
theorem Qb(w:Nw){x:Int}{y:Ce}{k s:Int}(hy:w.cs[x.toNat]? =some y)(hl:¬gu y.2.1 y.2.2 k s){z:Int}(hz:z.toNat≠x.toNat)(h:aV w z x=false):aV (w.put x (y.1,k,s)) z x=false:=by
 have k1:w.key x=y.2.1:=by unfold Nw.key;rw[al9,hy];rfl
 have k2:w.seq x=y.2.2:=by unfold Nw.seq;rw[al9,hy];rfl
 have hs:=amd (l:=w.cs) (a:=(y.1,k,s)) (al7.1 hy).1
 have k3:(w.put x (y.1,k,s)).key x=k:=by unfold Nw.key Nw.put;simp only[al9];rw[hs];rfl
 have k4:(w.put x (y.1,k,s)).seq x=s:=by unfold Nw.seq Nw.put;simp only[al9];rw[hs];rfl
 have k5:(w.put x (y.1,k,s)).key z=w.key z:=by unfold Nw.key Nw.put;simp only[al9];rw[amc (Ne.symm hz)]
 have k6:(w.put x (y.1,k,s)).seq z=w.seq z:=by unfold Nw.seq Nw.put;simp only[al9];rw[amc (Ne.symm hz)]
 unfold aV at h ⊢
 rw[k3,k4,k5,k6]
 rw[k1,k2]at h
 simp only[decide_eq_false_iff_not,gu]at*
 omega
theorem Be{H:Hp}{n:Nat}{S:Nat→Prop}{d st:Int}{w:Nw}(h:di H n S d st w)(x k s:Int):ah Tryz.prog nE [ptr n,i64 x,vV k s] H fun v H'=>ay (
  (¬ (cZ w.cs x∧∀y,w.cs[x.toNat]? =some y→¬gu y.2.1 y.2.2 k s)∧v= .bool false∧di H' n S d st w∧ax H H')∨
  (cZ w.cs x∧∃y,w.cs[x.toNat]? =some y∧¬gu y.2.1 y.2.2 k s∧v= .bool true∧∃q:Nat,(q:Int)≤nQ d (w.len y.1 - 1)∧∃S',di H' n S' d (min (st+q) 4611686018427387904) (w.put x (y.1,k,s))∧ai S H H'∧∀z,S' z→S z∨H.size≤z)):=by
 obtain⟨c,C,rv,fp,rs,m,l,hS⟩:=h
 refine be wS ⟨rfl,?_⟩
 refine v1 gM.eq_1 ?_
 have f0:ax H (H.new 224 [i64 k,u64 s]):=(ai.refl _ _).new _ _
 have b0:(H.new 224 [i64 k,u64 s]).own H.size=some [i64 k,u64 s]:=aG _ _ _
 have m0:=m.ext f0 (fun _ _ h=>h)
 generalize H.new 224 [i64 k,u64 s]=H0 at*
 refine v2 (ae m0.own) (ae b0) ?_
 refine(lV m0.cells x k s).mono ?_
 rintro _ H1 (⟨cr,rfl,c1,e1⟩| ⟨bS,rfl,y,hy,gv,c1,e1⟩)
 ·refine vs ?_
  exact .inl ⟨cr,rfl,⟨c,C,rv,fp,rs,m0.ext e1 (fun _ _ h=>h),l,hS⟩,f0.trans e1⟩
 have o1:=e1.own m0.own m.nC
 refine v1 (ae o1) ?_
 obtain⟨iq,y',MR,gD⟩:=id bS
 rw[hy]at MR
 injection MR with MR
 subst MR
 have cU:(w.put x (y.1,k,s)).cs[x.toNat]? =some (y.1,k,s):=amd (al7.1 hy).1
 have nY:∀z:Nat,z≠x.toNat→(w.put x (y.1,k,s)).cs[z]? =w.cs[z]? :=fun z hz=>amc (Ne.symm hz)
 have NF:cZ (w.put x (y.1,k,s)).cs x:=⟨iq,_,cU,gD⟩
 refine(eT c1 x).mono ?_
 rintro _ H2 (⟨cr,_,_⟩| ⟨_,y2,zV,rfl,c2,e2⟩)
 ·exact absurd NF cr
 rw[cU]at zV
 injection zV with zV
 subst zV
 have sJ:=e1.trans e2
 obtain⟨R,hR⟩:=(l.hs y.1.toNat).1 (m.cells.live _ (amb hy) gD)
 have Bx:((y.1.toNat:Nat):Int)=y.1:=by omega
 have L0:∀ (h:Nat) Q,rs[h]? =some (some Q)→∀z:Int,z∈Q.l↔0≤z∧∃e,(w.put x (y.1,k,s)).cs[z.toNat]? =some (((h:Nat):Int),e):=fun h Q hQ z=>by
  rw[l.mem h Q hQ z]
  by_cases Um:z.toNat=x.toNat
  ·rw[Um,cU,hy]
   constructor
   ·rintro⟨z0,e,he⟩
    injection he with he
    exact⟨z0,(k,s),by rw[he]⟩
   ·rintro⟨z0,e,he⟩
    injection he with he
    injection he with WS _
    exact⟨z0,y.2,by rw[←WS]⟩
  ·rw[nY _ Um]
 have cF:=L0 _ R hR
 have bm:=l.len _ R hR
 rw[Bx]at cF bm
 have hxR:x∈R.l:=(cF x).2 ⟨iq,_,cU⟩
 have G8:∀z∈R.l,cZ (w.put x (y.1,k,s)).cs z:=fun z hz=>by
  obtain⟨z0,e,he⟩:=(cF z).1 hz
  exact⟨z0,_,he,gD⟩
 have o2:=e2.own o1 m.nC
 have m2:vm H2 n c C rv fp d st (w.put x (y.1,k,s)) rs:=⟨o2,c2,m0.sl.ext sJ (fun b hb h=>(m.zt b hb).2 h),fun i R hR=>(m0.row i R hR).ext sJ (fun x hx=>(m.pO i R hR x hx).1),m.nC,m.zt,m.pO,m.sm⟩
 have aR:=(al7.1 hR).1
 obtain⟨b,o,c',lb,q1,q2,q3,q4⟩:=ep.get m2.sl.rd (i:=y.1.toNat) (j:=0) (x:=ptr R.r) (by omega) (by simp[hR,Vu])
 subst q1
 have aaF:=m.cells.st
 have zp:=m.cells.Fu
 have pJ:R.l.length≤65536:=by have:=(w.A5 y.1).2;omega
 refine v1 (ae o2) ?_
 refine⟨by omega,?_⟩
 refine v2 q2 (show lb[o+y.1.toNat*1]? =some (ptr R.r)from q4) ?_
 refine(Fy (G9 (c:=c) (rv:=.slice (some ⟨b,o,none⟩) rs.length c') (d:=d) (st:=st) (w:=w.put x (y.1,k,s)) m.nC) (m2.row _ R hR) (fun z hz ht=>?_) (n:=0) ⟨by rw[show min (st+((0:Nat):Int)) 4611686018427387904=st by omega];exact c2,o2⟩ x (by omega) (fun i hi=>by
  obtain⟨h1,h2⟩:=((l.ok _ R hR).pl x i).1 hi
  have:=(al7.1 h2).1
  exact⟨h1,by omega⟩) NF G8).mono ?_
 ·rcases ht with ht|ht
  ·exact(m.pO _ R hR z hz).1 ht
  ·exact(m.pO _ R hR z hz).2.1 ht
 rintro _ H3 (⟨hp,_,_⟩| ⟨i,hp,rfl,r3,⟨c3,o3⟩,e3⟩)
 ·exact absurd hp ((ci.mem (l.ok _ R hR) x).1 hxR)
 have K5:∀z∈R.l,z≠x→z.toNat≠x.toNat:=fun z hz aT e=>by have:=((cF z).1 hz).1;omega
 obtain⟨p1,p2,p3,p4⟩:=ci.raise (aq w) (aq (w.put x (y.1,k,s))) l.Bc (l.ok _ R hR) hp (fun a ha b hb tM pt=>jv w x _ (K5 a ha tM) (K5 b hb pt)) (fun z hz Um hl=>Qb w hy gv (K5 z hz Um) hl)
 generalize hU:gw (aV (w.put x (y.1,k,s))) d x i.toNat R.l R.pl i=U at*
 rw[al6]at c3
 refine vs ?_
 have qS:∀z,(R.S z∨C z∨z=n)→S z:=fun z hz=>(hS z).1 (by
  rcases hz with hz|hz|hz
  ·exact .inr (.inr (.inr ⟨_,R,hR,hz⟩))
  ·exact .inl hz
  ·exact .inr (.inl hz))
 have ce:∀ (h:Nat) Q,(rs.set y.1.toNat (some (⟨R.r,R.S,U.l,U.pl⟩:Rw)))[h]? =some (some Q)→(h=y.1.toNat∧Q=⟨R.r,R.S,U.l,U.pl⟩)∨(h≠y.1.toNat∧rs[h]? =some (some Q)):=fun h Q hQ=>by
  by_cases hh:h=y.1.toNat
  ·subst hh
   rw[amd aR]at hQ
   simp only[ame]at hQ
   exact .inl ⟨rfl,hQ.symm⟩
  ·rw[amc (Ne.symm hh)]at hQ
   exact .inr ⟨hh,hQ⟩
 have aT:∀ (h:Nat) Q,h≠y.1.toNat→rs[h]? =some (some Q)→∀z∈Q.l,z.toNat≠x.toNat:=fun h Q hh hQ z hz e=>by
  obtain⟨z0,e',he⟩:=(l.mem h Q hQ z).1 hz
  rw[e,hy]at he
  injection he with he
  rw[he]at hh
  simp only[Int.toNat_natCast]at hh
  exact hh rfl
 have hwl:∀h:Int,(w.put x (y.1,k,s)).len h=w.len h:=fun h=>by
  rw[Nw.ir hy h]
  simp only
  split<;>omega
 refine .inr ⟨bS,y,hy,gv,rfl,U.asked,by rw[←bm];exact Int.ofNat_le.2 p4,EO n C fp (rs.set y.1.toNat (some ⟨R.r,R.S,U.l,U.pl⟩)),
  ⟨c,C,_,fp,rs.set y.1.toNat (some ⟨R.r,R.S,U.l,U.pl⟩),m2.setRow hR (R':=⟨R.r,R.S,U.l,U.pl⟩) rfl r3 (fun z hz=>.inl hz) e3 (fun z hz=>?_) c3 o3,
   ⟨l.Bc,by rw[al8];exact l.hl,fun h=>?_,?_,fun h Q hQ=>?_,fun h Q hQ z=>?_,fun h Q hQ=>?_⟩,fun z=>Iff.rfl⟩,?_,fun z hz=>?_⟩
 ·rcases hz with hz|hz|hz
  ·exact .inr (.inl hz)
  ·exact .inl hz
  ·exact .inr (.inr hz)
 ·show w.hs[h]? =some true↔_
  rw[l.hs h]
  by_cases LZ:h=y.1.toNat
  ·subst LZ
   rw[amd aR]
   exact⟨fun _=>⟨_,rfl⟩,fun _=>⟨R,hR⟩⟩
  ·rw[amc (Ne.symm LZ)]
 ·rw[amc (by omega)];exact l.h0
 ·rcases ce h Q hQ with ⟨rfl,rfl⟩| ⟨h5,h6⟩
  ·exact p1
  ·exact ci.congr l.Bc (l.ok h Q h6) fun z hz v hv=>(jv w x _ (aT h Q h5 h6 z hz) (aT h Q h5 h6 v hv)).symm
 ·rcases ce h Q hQ with ⟨rfl,rfl⟩| ⟨h5,h6⟩
  ·rw[Bx]
   show z∈U.l↔_
   rw[p2 z,cF z]
  ·exact L0 h Q h6 z
 ·rw[hwl]
  rcases ce h Q hQ with ⟨rfl,rfl⟩| ⟨h5,h6⟩
  ·rw[Bx]
   show(U.l.length:Int)=_
   omega
  ·exact l.len h Q h6
 ·exact(f0.mono fun _ _ h=>h.elim).trans ((sJ.mono fun z _ hz=>qS z (.inr (.inl hz))).trans (e3.mono fun z _ hz=>qS z hz))
 ·rcases hz with hz|rfl|hz| ⟨j,Q,hQ,hz⟩
  ·exact .inl (qS z (.inr (.inl hz)))
  ·exact .inl (qS z (.inr (.inr rfl)))
  ·exact .inl ((hS z).1 (.inr (.inr (.inl hz))))
  ·rcases ce j Q hQ with ⟨rfl,rfl⟩| ⟨h5,h6⟩
   ·exact .inl (qS z (.inl hz))
   ·exact .inl ((hS z).1 (.inr (.inr (.inr ⟨j,Q,h6,hz⟩))))
theorem NK(n:Nat):zI (.iface 218 (ptr n)) (fun H S w=>∃st,dI H n S st w) where
 slt:=by rintro H S w ⟨st,h⟩;exact h.slt
 ext:=by rintro H H' S w T ⟨st,h⟩ e hd;exact⟨st,h.ext e hd⟩
 cells:=by
  rintro H S w ⟨st,c,C,rv,fr,fa,ps,at_,m,l,hS⟩
  exact⟨c,C,st,m.cells⟩
 has:=by
  rintro H S w g ⟨st,c,C,rv,fr,fa,ps,at_,m,l,hS⟩
  obtain⟨av,ho,_⟩:=m.own
  exact⟨_,_,bG,ptr c,rfl,ic (off:=0) (by kernel_rfl) (ae ho) rfl,(ju m.cells g).mono fun v H' hp=>hp⟩
 make:=by
  rintro H S w ⟨st,h⟩
  refine⟨_,_,sP,ptr n,rfl,bF (by kernel_rfl),(G7 h).mono ?_⟩
  rintro v H' (⟨h1,rfl,rfl⟩| ⟨h1,rfl,S',h2,h3,h4⟩)
  ·exact .inl ⟨h1,rfl,cC.same ⟨st,h⟩ (ai.refl _ _)⟩
  ·exact .inr ⟨h1,rfl,S',⟨_,h2⟩,h3,h4⟩
 insert:=by
  rintro H S w g x k s ⟨st,h⟩
  refine⟨_,_,qf,ptr n,rfl,bF (by kernel_rfl),(Eb h g x k s).mono ?_⟩
  rintro v H' (⟨h1,rfl,h2,h3⟩| ⟨h1,rfl,S',q,h2,_,h3,h4,h5⟩)
  ·exact .inl ⟨h1,rfl,cC.same ⟨st,h2⟩ h3⟩
  ·exact .inr ⟨h1,rfl,S',⟨_,h3⟩,h4,h5⟩
 min:=by
  rintro H S w g ⟨st,h⟩
  refine⟨_,_,u0,ptr n,rfl,bF (by kernel_rfl),(zJ h g).mono ?_⟩
  rintro v H' ⟨h1,rfl⟩
  rcases h1 with ⟨h1,rfl⟩| ⟨x,h2,rfl⟩
  ·exact .inl ⟨h1,rfl,cC.same ⟨st,h⟩ (ai.refl _ _)⟩
  ·exact .inr ⟨x,h2,rfl,cC.same ⟨st,h⟩ (ai.refl _ _)⟩
 extract:=by
  rintro H S w g ⟨st,h⟩
  refine⟨_,_,ph,ptr n,rfl,bF (by kernel_rfl),(CF h g).mono ?_⟩
  rintro v H' (⟨h1,rfl,rfl⟩| ⟨x,h1,rfl,q,hq,S',h5,h6,h7⟩)
  ·exact .inl ⟨h1,rfl,cC.same ⟨st,h⟩ (ai.refl _ _)⟩
  ·exact .inr ⟨x,h1,rfl,S',⟨_,h5⟩,h6,h7⟩
 qH:=by
  rintro H S w x k s ⟨st,h⟩
  refine⟨_,_,nJ,ptr n,rfl,bF (by kernel_rfl),(Bb h x k s).mono ?_⟩
  rintro v H' (⟨h1,rfl,h2,h3⟩| ⟨h1,y,hy,h2,rfl,q,hq,S',h3,h4,h5⟩)
  ·exact .inl ⟨h1,rfl,cC.same ⟨st,h2⟩ (h3.mono fun _ _ h=>h.elim)⟩
  ·exact .inr ⟨⟨h1,fun z hz=>by rw[hy]at hz;injection hz with hz;rw[←hz];exact h2⟩,rfl,y,hy,S',⟨_,h3⟩,h4,h5⟩
 entry:=by
  rintro H S w x ⟨st,h⟩
  obtain⟨c,C,rv,fr,fa,ps,at_,m,l,hS⟩:=id h
  obtain⟨av,ho,_⟩:=m.own
  refine⟨_,_,bk,ptr c,rfl,ic (off:=0) (by kernel_rfl) (ae ho) rfl,(lU m.cells x).mono ?_⟩
  rintro v H' ⟨_,f,hv⟩
  exact⟨⟨st,h.fresh f⟩,f,hv⟩
theorem Bf(n:Nat)(d:Int):zI (.iface 194 (ptr n)) (fun H S w=>∃st,di H n S d st w) where
 slt:=by rintro H S w ⟨st,h⟩;exact h.slt
 ext:=by rintro H H' S w T ⟨st,h⟩ e hd;exact⟨st,h.ext e hd⟩
 cells:=by
  rintro H S w ⟨st,c,C,rv,fp,rs,m,l,hS⟩
  exact⟨c,C,st,m.cells⟩
 has:=by
  rintro H S w g ⟨st,c,C,rv,fp,rs,m,l,hS⟩
  exact⟨_,_,bG,ptr c,rfl,ic (off:=0) (by kernel_rfl) (ae m.own) rfl,(ju m.cells g).mono fun v H' hp=>hp⟩
 make:=by
  rintro H S w ⟨st,h⟩
  refine⟨_,_,sN,ptr n,rfl,bF (by kernel_rfl),(Ha h).mono ?_⟩
  rintro v H' (⟨h1,rfl,rfl⟩| ⟨h1,rfl,S',h2,h3,h4⟩)
  ·exact .inl ⟨h1,rfl,cC.same ⟨st,h⟩ (ai.refl _ _)⟩
  ·exact .inr ⟨h1,rfl,S',⟨_,h2⟩,h3,h4⟩
 insert:=by
  rintro H S w g x k s ⟨st,h⟩
  refine⟨_,_,p8,ptr n,rfl,bF (by kernel_rfl),(Ee h g x k s).mono ?_⟩
  rintro v H' (⟨h1,rfl,h2,h3⟩| ⟨h1,rfl,S',q,h2,_,h3,h4,h5⟩)
  ·exact .inl ⟨h1,rfl,cC.same ⟨st,h2⟩ h3⟩
  ·exact .inr ⟨h1,rfl,S',⟨_,h3⟩,h4,h5⟩
 min:=by
  rintro H S w g ⟨st,h⟩
  refine⟨_,_,uY,ptr n,rfl,bF (by kernel_rfl),(zK h g).mono ?_⟩
  rintro v H' ⟨h1,rfl⟩
  have hn:=cC.same (I:=fun H S w=>∃st,di H n S d st w) ⟨st,h⟩ (ai.refl S H)
  obtain⟨c,C,rv,fp,rs,m,l,hS⟩:=h
  rcases h1 with ⟨h1,rfl⟩| ⟨h1,h2,rfl⟩| ⟨h1,x,h2,h3,rfl,h4⟩
  ·refine .inl ⟨Nw.IP.2 ?_,rfl,hn⟩
   by_cases hg:g≤0
   ·exact .inl hg
   ·refine .inr fun i c hc e=>h1 ⟨by omega,?_⟩
    have:=m.cells.live c (amb hc) (by omega)
    rwa[e]at this
  ·exact .inl ⟨h2,rfl,hn⟩
  ·exact .inr ⟨x,⟨by have:=h1.1;omega,h2.1,h3,h4⟩,rfl,hn⟩
 extract:=by
  rintro H S w g ⟨st,h⟩
  refine⟨_,_,oX,ptr n,rfl,bF (by kernel_rfl),(CG h g).mono ?_⟩
  rintro v H' (⟨h1,rfl,rfl⟩| ⟨h1,x,h2,h3,h4,rfl,q,hq,S',h5,h6,h7⟩)
  ·have hn:=cC.same (I:=fun H S w=>∃st,di H n S d st w) ⟨st,h⟩ (ai.refl S H)
   obtain⟨c,C,rv,fp,rs,m,l,hS⟩:=h
   rcases h1 with h1| ⟨_,h1⟩
   ·refine .inl ⟨Nw.IP.2 ?_,rfl,hn⟩
    by_cases hg:g≤0
    ·exact .inl hg
    ·refine .inr fun i c hc e=>h1 ⟨by omega,?_⟩
     have:=m.cells.live c (amb hc) (by omega)
     rwa[e]at this
   ·exact .inl ⟨h1,rfl,hn⟩
  ·exact .inr ⟨x,⟨by have:=h1.1;omega,h2.1,h3,h4⟩,rfl,S',⟨_,h5⟩,h6,h7⟩
 qH:=by
  rintro H S w x k s ⟨st,h⟩
  refine⟨_,_,nE,ptr n,rfl,bF (by kernel_rfl),(Be h x k s).mono ?_⟩
  rintro v H' (⟨h1,rfl,h2,h3⟩| ⟨h1,y,hy,h2,rfl,q,hq,S',h3,h4,h5⟩)
  ·exact .inl ⟨h1,rfl,cC.same ⟨st,h2⟩ (h3.mono fun _ _ h=>h.elim)⟩
  ·exact .inr ⟨⟨h1,fun z hz=>by rw[hy]at hz;injection hz with hz;rw[←hz];exact h2⟩,rfl,y,hy,S',⟨_,h3⟩,h4,h5⟩
 entry:=by
  rintro H S w x ⟨st,h⟩
  obtain⟨c,C,rv,fp,rs,m,l,hS⟩:=id h
  refine⟨_,_,bk,ptr c,rfl,ic (off:=0) (by kernel_rfl) (ae m.own) rfl,(lU m.cells x).mono ?_⟩
  rintro v H' ⟨_,f,hv⟩
  exact⟨⟨st,h.fresh f⟩,f,hv⟩
structure ii(H:Hp)(r nb pb:Nat)(N P:List Int):Prop where
 own:H.own r=some [.slice (some ⟨nb,0,none⟩) N.length N.length,.slice (some ⟨pb,0,none⟩) P.length P.length]
 O4:H.own nb=some (N.map i64)
 Vw:H.own pb=some (P.map i64)
 len:P.length=N.length
 ne:r≠nb∧r≠pb∧nb≠pb
def ck(N:List Int)(x:Int):Int:=if 0≤x∧x<N.length then N.getD x.toNat 0 else x
theorem Hb{N:List Int}{x:Int}(hx:0≤x∧x<N.length):N[x.toNat]? =some (ck N x):=by
 unfold ck
 rw[if_pos hx,al9]
 obtain⟨y,hy⟩:∃y,N[x.toNat]? =some y:=⟨_,al5 (by omega)⟩
 rw[hy];rfl
theorem WY{N:List Int}{x:Int}(hx:¬ (0≤x∧x<N.length)):ck N x=x:=by unfold ck;rw[if_neg hx]
theorem F5{N:List Int}{x:Int}(hx:0≤x∧x<N.length)(v z:Int):ck (N.set x.toNat v) z=if z=x then v else ck N z:=by
 unfold ck
 rw[al8]
 by_cases hz:z=x
 ·rw[if_pos hz,hz,if_pos hx,al9,amd (by omega)];rfl
 ·rw[if_neg hz]
  split
  ·rw[al9,amc (by omega),al9]
  ·rfl
theorem NL{N P:List Int}(h:BE (ck N) (ck P)){x:Int}(hx:0≤x∧x<N.length):0≤ck N x∧ck N x<N.length:=by
 apply amr
 intro hn
 have h1:=WY hn
 have h2:ck N x=x:=by
  have:=h.pn (ck N x)
  rw[h1]at this
  have h3:=h.pn x
  rw[this]at h3
  exact h3
 rw[h2]at hn
 exact hn hx
section
variable {H H' : Hp} {r nb pb : Nat} {N P : List Int} {T : Nat → Prop}
theorem ii.ext(h:ii H r nb pb N P)(e:ai T H H')(h1:¬T r)(h2:¬T nb)(h3:¬T pb):ii H' r nb pb N P:=⟨e.own h.own h1,e.own h.O4 h2,e.own h.Vw h3,h.len,h.ne⟩
theorem jp(h:ii H r nb pb N P)(x:Int):ah Tryz.prog Dt [ptr r,i64 x] H fun v H'=>ay (v= .bool (decide (0≤x∧x<N.length))∧H'=H):=by
 refine be DG ⟨rfl,?_⟩
 refine v1 mS.eq_1 ?_
 refine ak.dec (fun h0=>?_) (fun h0=>?_)<;>refine v1 (ae h.own) ?_
 ·refine⟨?_,rfl⟩
  rw[show(decide (0≤x∧x< (N.length:Int)))=decide (x< (N.length:Int)) by simp[h0]]
  rfl
 ·refine⟨?_,rfl⟩
  rw[amm (fun h=>h0 h.1)]
  rfl
theorem Hc(h:ii H r nb pb N P){x:Int}(hx:0≤x∧x<N.length):ah Tryz.prog BQ [ptr r,i64 x] H fun v H'=>ay (v= .tuple [i64 (ck N x),.bool true].toArray∧H'=H):=by
 refine be Cb ⟨rfl,?_⟩
 refine v1 lG.eq_1 ?_
 refine(jp h x).mono ?_
 rintro _ H' ⟨rfl,e⟩
 obtain rfl:=e.symm
 rw[amj hx]
 have hn:(N.map i64)[x.toNat]? =some (i64 (ck N x)):=by rw[amo,Hb hx];rfl
 refine v1 (ae h.own) ?_
 refine⟨⟨by omega,by omega⟩,?_⟩
 refine v4 (ae h.O4) al6 ama hn ?_
 exact⟨rfl,rfl⟩
set_option maxHeartbeats 1000000 in
theorem dB(h:ii H r nb pb N P)(hi:BE (ck N) (ck P)){x y:Int}(hx:0≤x∧x<N.length)(hy:0≤y∧y<N.length):ah Tryz.prog yE [ptr r,i64 x,i64 y] H fun v H'=>ay (v= .bool true∧
  ∃N' P',ii H' r nb pb N' P'∧N'.length=N.length∧ck N'=zW (ck N) x y∧BE (ck N') (ck P')∧ai (fun z=>z=nb∨z=pb) H H'):=by
 refine be zf ⟨rfl,?_⟩
 refine v1 iT.eq_1 ?_
 refine(jp h x).mono ?_
 rintro _ H' ⟨rfl,e⟩
 obtain rfl:=e.symm
 rw[amj hx]
 refine vs ?_
 refine(jp h y).mono ?_
 rintro _ H' ⟨rfl,e⟩
 obtain rfl:=e.symm
 rw[amj hy]
 have IS:(N.map i64)[x.toNat]? =some (i64 (ck N x)):=by rw[amo,Hb hx];rfl
 have hny:(N.map i64)[y.toNat]? =some (i64 (ck N y)):=by rw[amo,Hb hy];rfl
 obtain⟨a0,a1⟩:=NL hi hx
 obtain⟨b0,b1⟩:=NL hi hy
 obtain⟨d1,d2,d3⟩:=h.ne
 have hl:=h.len
 refine v1 (ae h.own) ?_
 refine⟨⟨by omega,by omega⟩,?_⟩
 refine v5 (ae h.O4) (ae h.own) al6 ama IS ?_
 refine⟨⟨by omega,by omega⟩,?_⟩
 refine v5 (ae h.O4) (ae h.own) al6 ama hny ?_
 refine⟨⟨by omega,by omega⟩,?_⟩
 refine v3 h.O4 al6 ama ?_
 refine⟨by rw[amu];omega,?_⟩
 refine vs ?_
 have e1:ai (fun z=>z=nb) H (H.wr nb ((N.map i64).set x.toNat (i64 (ck N y)))):=(ai.refl (fun z=>z=nb) _).wr (fun _=>rfl) _
 have q1:(H.wr nb ((N.map i64).set x.toNat (i64 (ck N y)))).own nb=some ((N.map i64).set x.toNat (i64 (ck N y))):=aj h.O4
 generalize H.wr nb ((N.map i64).set x.toNat (i64 (ck N y)))=H1 at*
 refine⟨⟨by omega,by omega⟩,?_⟩
 refine v3 q1 al6 ama ?_
 refine⟨by rw[al8,amu];omega,?_⟩
 refine vs ?_
 have e2:ai (fun z=>z=nb) H1 (H1.wr nb (((N.map i64).set x.toNat (i64 (ck N y))).set y.toNat (i64 (ck N x)))):=(ai.refl (fun z=>z=nb) _).wr (fun _=>rfl) _
 have q2:(H1.wr nb (((N.map i64).set x.toNat (i64 (ck N y))).set y.toNat (i64 (ck N x)))).own nb=some (((N.map i64).set x.toNat (i64 (ck N y))).set y.toNat (i64 (ck N x))):=aj q1
 generalize H1.wr nb (((N.map i64).set x.toNat (i64 (ck N y))).set y.toNat (i64 (ck N x)))=H2 at*
 have sJ:=e1.trans e2
 have o2:=sJ.own h.own d1
 have p2:=sJ.own h.Vw (Ne.symm d3)
 have o1:=e1.own h.own d1
 refine v2 (ae o1) (ae o2) ?_
 refine⟨⟨by omega,by omega⟩,?_⟩
 refine v3 p2 al6 ama ?_
 refine⟨by rw[amu];omega,?_⟩
 refine vs ?_
 have e3:ai (fun z=>z=pb) H2 (H2.wr pb ((P.map i64).set (ck N y).toNat (i64 x))):=(ai.refl (fun z=>z=pb) _).wr (fun _=>rfl) _
 have q3:(H2.wr pb ((P.map i64).set (ck N y).toNat (i64 x))).own pb=some ((P.map i64).set (ck N y).toNat (i64 x)):=aj p2
 generalize H2.wr pb ((P.map i64).set (ck N y).toNat (i64 x))=H3 at*
 refine⟨⟨by omega,by omega⟩,?_⟩
 refine v3 q3 al6 ama ?_
 refine⟨by rw[al8,amu];omega,?_⟩
 refine vs ?_
 have e4:ai (fun z=>z=pb) H3 (H3.wr pb (((P.map i64).set (ck N y).toNat (i64 x)).set (ck N x).toNat (i64 y))):=(ai.refl (fun z=>z=pb) _).wr (fun _=>rfl) _
 have q4:(H3.wr pb (((P.map i64).set (ck N y).toNat (i64 x)).set (ck N x).toNat (i64 y))).own pb=some (((P.map i64).set (ck N y).toNat (i64 x)).set (ck N x).toNat (i64 y)):=aj q3
 have WZ:=e3.trans e4
 have nf:ck ((N.set x.toNat (ck N y)).set y.toNat (ck N x))=zW (ck N) x y:=by
  funext z
  rw[F5 (by rw[al8];exact hy),F5 hx]
  unfold zW
  by_cases h1:z=x
  ·rw[if_pos h1]
   by_cases h2:z=y
   ·rw[if_pos h2,←h2,h1];simp
   ·rw[if_neg h2,if_pos h1]
  ·rw[if_neg h1,if_neg h1]
 have pf:ck ((P.set (ck N y).toNat x).set (ck N x).toNat y)=TT (ck N) (ck P) x y:=by
  funext z
  rw[F5 (by rw[al8];omega),F5 (by omega)]
  rfl
 refine⟨rfl,(N.set x.toNat (ck N y)).set y.toNat (ck N x),(P.set (ck N y).toNat x).set (ck N x).toNat y,⟨?_,?_,?_,by simp[hl],h.ne⟩,by simp,nf,?_,(sJ.mono fun z _ h=>.inl h).trans (WZ.mono fun z _ h=>.inr h)⟩
 ·rw[al8,al8,al8,al8]
  exact WZ.own o2 d2
 ·rw[amO,amO]
  exact WZ.own q2 d3
 ·rw[amO,amO]
  exact q4
 ·rw[nf,pf]
  exact hi.zW x y
theorem qL(h:ii H r nb pb N P)(hi:BE (ck N) (ck P)){x:Int}(hx:0≤x∧x<N.length):ah Tryz.prog BP [ptr r,i64 x] H fun v H'=>ay (v= .bool true∧
  ∃N' P',ii H' r nb pb N' P'∧N'.length=N.length∧ck N'=zW (ck N) x (ck P x)∧BE (ck N') (ck P')∧ai (fun z=>z=nb∨z=pb) H H'):=by
 have oq:BE (ck P) (ck N):=⟨hi.np,hi.pn⟩
 have hl:=h.len
 have dZ:=NL oq (x:=x) (by omega)
 have hp:(P.map i64)[x.toNat]? =some (i64 (ck P x)):=by rw[amo,Hb (by omega)];rfl
 refine be Ca ⟨rfl,?_⟩
 refine v1 lF.eq_1 ?_
 refine(jp h x).mono ?_
 rintro _ H' ⟨rfl,e⟩
 obtain rfl:=e.symm
 rw[amj hx]
 refine v1 (ae h.own) ?_
 refine⟨⟨by omega,by omega⟩,?_⟩
 refine v4 (ae h.Vw) al6 ama hp ?_
 refine(dB h hi hx (y:=ck P x) (by omega)).mono ?_
 rintro _ H1 ⟨rfl,h1⟩
 refine vs ?_
 exact⟨rfl,h1⟩
theorem sw(h:ii H r nb pb N P){x:Int}{A:List Int}(hc:xT (ck N) (x::A))(hn:(x::A).Nodup)(hx:∀c∈x::A,0≤c∧c<N.length)(hN:N.length≤65536):ah Tryz.prog Ds [ptr r,i64 x] H fun v H'=>ay (∃b,
  Sl H' 1 v (x::A).length ((x::A).map i64) (some b)∧H.size≤b∧ax H H'):=by
 have iq:=hx x (by simp)
 have bm:=bY hn hx
 have fH:r<H.size∧nb<H.size∧pb<H.size:=⟨aO h.own,aO h.O4,aO h.Vw⟩
 have rdn:∀ {z:Int},0≤z∧z<N.length→(N.map i64)[z.toNat]? =some (i64 (ck N z)):=fun hz=>by rw[amo,Hb hz];rfl
 refine be DF ⟨rfl,?_⟩
 refine v1 mR.eq_1 ?_
 refine(jp h x).mono ?_
 rintro _ H' ⟨rfl,e⟩
 obtain rfl:=e.symm
 rw[amj iq]
 refine vs ?_
 have f0:ax H (H.new 3 [i64 x]):=(ai.refl _ _).new _ _
 have s0:Sl (H.new 3 [i64 x]) 1 (.slice (some ⟨H.size,0,none⟩) 1 1) [x].length ([x].map i64) (some H.size):=Sl.dE (size:=1) (n:=1) (xs:=[i64 x]) rfl rfl
 have h0:=h.ext f0 (fun h=>h) (fun h=>h) (fun h=>h)
 generalize H.new 3 [i64 x]=H0 at*
 refine v2 (ae h0.own) (ae h.own) ?_
 refine⟨⟨by omega,by omega⟩,?_⟩
 refine v5 (ae h0.O4) (ae h.O4) al6 ama (rdn iq) ?_
 have hp:pF (ck N) x A x:=hc
 have hd:∀ {a z:Int} {l:List Int},pF (ck N) a l z→ck N a=l.headD z:=fun{a z l} h=>by
  cases l with
  |nil=>exact h
  |cons b l=>exact h.1
 refine bA.intro (fun mm env H'=>∃ (d s:List Int) (wv:Value) (b:Nat),mm=s.length∧A=d++s∧ii H' r nb pb N P∧H.size≤b∧Sl H' 1 wv (x::d).length ((x::d).map i64) (some b)∧ai (fun z=>H.size≤z) H H'∧
  env=[(0,ptr r),(1,i64 x),(5,wv),(6,i64 (s.headD x))]) _ ⟨[],A,_,H.size,rfl,rfl,h0,ami _,s0,f0.mono fun _ _ h=>h.elim,by rw[hd hp]⟩ ?_
 rintro mm env H1 ⟨d,s,wv,b,rfl,YN,h1,hb,s1,e1,rfl⟩
 have z1:=e1.size
 refine vs ?_
 cases s with
 |nil=>
  refine ak.dec (fun _=>?_) (fun h=>absurd rfl h)
  refine vs ?_
  rw[amW]at YN
  subst YN
  exact⟨b,s1,hb,e1.mono fun z hz h=>by omega⟩
 |cons c s=>
  have Jt:c∈A:=by rw[YN];simp
  have je:=hx c (amK _ Jt)
  have Qc:c≠x:=fun e=>(amq.1 hn).1 (by rw[←e];exact Jt)
  have pJ:d.length+(s.length+1)=A.length:=by rw[YN,amh,ams]
  rw[ams]at bm
  refine ak.dec (fun h=>absurd h Qc) (fun _=>?_)
  refine vs ?_
  refine aab (B:=H.size) hb (by omega) s1 c (by rw[ams];omega) fun w' H2 b' wx s2 e2=>?_
  refine vs ?_
  have h2:=h1.ext e2 (by omega) (by omega) (by omega)
  simp(disch:=(first|omega| (simp only[Zs]<;>omega)|fail)) only[go_sem, ↓reduceIte,Zv,ae h2.own,List.headD_cons]
  refine⟨⟨by omega,by omega⟩,?_⟩
  refine v4 (ae h2.O4) al6 ama (rdn je) ?_
  have IS:ck N c=s.headD x:=hd (pF.Yw.1 (by rw[←YN];exact hp)).2
  exact⟨s.length,by simp,d++[c],s,w',b',rfl,by rw[YN];simp,h2,wx,s2,e1.trans e2,by rw[IS]⟩
end
end Go.Proofs.YtjlnnljohemifaaGreat

namespace Go.Proofs.YtjlnnljohemifaaGreat
open Go Go.Vc
structure Pc where
 u:Int
 k:Int
 d:Int
 m:Bool
def O5(y:Pc):List Value:=[i64 y.u,i64 y.k,i64 y.d,.bool y.m]
def aM(L:List Pc):List Value:=L.flatMap O5
theorem NM(L:List Pc):(aM L).length=L.length*4:=by
 induction L with
 |nil=>rfl
 |cons c r ih=>simp only[aM,anO,amh,O5,ams,anj]at*;omega
theorem aaG{L:List Pc}{i:Nat}{y:Pc}(hi:L[i]? =some y):(aM L)[i*4]? =some (i64 y.u)∧(aM L)[i*4+1]? =some (i64 y.k)∧(aM L)[i*4+2]? =some (i64 y.d)∧(aM L)[i*4+3]? =some (.bool y.m):=by
 induction L generalizing i with
 |nil=>simp at hi
 |cons a r ih=>
  have e:aM (a::r)=i64 a.u::i64 a.k::i64 a.d:: .bool a.m::aM r:=rfl
  rw[e]
  cases i with
  |zero=>simp at hi;subst hi;exact⟨rfl,rfl,rfl,rfl⟩
  |succ i=>
   have:=ih (by simpa using hi)
   rw[show(i+1)*4=i*4+4 by omega]
   exact this
theorem qM{L:List Pc}{i:Nat}{y:Pc}(hi:L[i]? =some y):(∀v,(aM L).set (i*4) (i64 v)=aM (L.set i ⟨v,y.k,y.d,y.m⟩))∧(∀v,(aM L).set (i*4+1) (i64 v)=aM (L.set i ⟨y.u,v,y.d,y.m⟩))∧
  (∀v,(aM L).set (i*4+2) (i64 v)=aM (L.set i ⟨y.u,y.k,v,y.m⟩))∧(∀v,(aM L).set (i*4+3) (.bool v)=aM (L.set i ⟨y.u,y.k,y.d,v⟩))∧
  (∀z:Pc,bq (aM L) (i*4) [i64 z.u,i64 z.k,i64 z.d,.bool z.m]=aM (L.set i z)):=by
 induction L generalizing i with
 |nil=>simp at hi
 |cons a r ih=>
  have e:aM (a::r)=i64 a.u::i64 a.k::i64 a.d:: .bool a.m::aM r:=rfl
  cases i with
  |zero=>simp at hi;subst hi;exact⟨fun _=>rfl,fun _=>rfl,fun _=>rfl,fun _=>rfl,fun _=>rfl⟩
  |succ i=>
   obtain⟨h1,h2,h3,h4,h5⟩:=ih (by simpa using hi)
   have e2:∀z:Pc,aM ((a::r).set (i+1) z)=i64 a.u::i64 a.k::i64 a.d:: .bool a.m::aM (r.set i z):=fun _=>rfl
   refine⟨fun v=>?_,fun v=>?_,fun v=>?_,fun v=>?_,fun z=>?_⟩
   ·rw[e,e2,show(i+1)*4=i*4+1+1+1+1 by omega]
    simp only[amP]
    rw[h1]
   ·rw[e,e2,show(i+1)*4+1=i*4+1+1+1+1+1 by omega]
    simp only[amP]
    rw[h2]
   ·rw[e,e2,show(i+1)*4+2=i*4+2+1+1+1+1 by omega]
    simp only[amP]
    rw[h3]
   ·rw[e,e2,show(i+1)*4+3=i*4+3+1+1+1+1 by omega]
    simp only[amP]
    rw[h4]
   ·have h5:=h5 z
    simp only[bq]at h5 ⊢
    rw[e,e2,show(i+1)*4=i*4+1+1+1+1 by omega]
    simp only[amP]
    rw[h5]
def q9:Pc:=⟨-1, -1,0,false⟩
def eX(L:List Pc)(x:Int):Pc:=if 0≤x then(L[x.toNat]?).getD q9 else q9
theorem Hd{L:List Pc}{x:Int}{y:Pc}(h0:0≤x)(h:L[x.toNat]? =some y):eX L x=y:=by unfold eX;rw[if_pos h0,h];rfl
def pP(f:Int→Pc)(x:Int)(y:Pc):Int→Pc:=fun z=>if z=x then y else f z
theorem CH{L:List Pc}{x:Int}(hx:0≤x∧x<L.length)(y:Pc):eX (L.set x.toNat y)=pP (eX L) x y:=by
 funext z
 show eX (L.set x.toNat y) z=if z=x then y else eX L z
 by_cases hz:z=x
 ·rw[if_pos hz,hz]
  unfold eX
  rw[if_pos hx.1,amd (by omega)];rfl
 ·rw[if_neg hz]
  unfold eX
  split
  ·rw[amc (by omega)]
  ·rfl
structure FB where
 n:Nat
 c:Nat
 r:Nat
 nb:Nat
 pb:Nat
 tb:Nat
 tp:Nat
def FB.S(B:FB)(C:Nat→Prop)(z:Nat):Prop:=C z∨z=B.n∨z=B.r∨z=B.nb∨z=B.pb∨z=B.tb∨z=B.tp
structure bV(H:Hp)(B:FB)(C:Nat→Prop)(w:Nw)(N P:List Int)(L:List Pc)(tops:List Int):Prop where
 own:∃tv,H.own B.n=some [ptr B.c,ptr B.r,.slice (some ⟨B.tb,0,none⟩) L.length L.length,tv]∧Sl H 1 tv tops.length (tops.map i64) (some B.tp)
 cells:CQ H B.c C w
 ring:ii H B.r B.nb B.pb N P
 inv:BE (ck N) (ck P)
 places:H.own B.tb=some (aM L)
 len:L.length=w.cs.length∧N.length=w.cs.length
 qY:(B.n≠B.r∧B.n≠B.nb∧B.n≠B.pb∧B.n≠B.tb∧B.n≠B.tp)∧(B.tb≠B.r∧B.tb≠B.nb∧B.tb≠B.pb∧B.tb≠B.tp)∧(B.tp≠B.r∧B.tp≠B.nb∧B.tp≠B.pb)
 out:¬C B.n∧¬C B.r∧¬C B.nb∧¬C B.pb∧¬C B.tb∧¬C B.tp
section
variable {H H' : Hp} {B : FB} {C V : Nat → Prop} {w w' : Nw} {N P N' P' : List Int} {L L' : List Pc} {tops : List Int}
theorem bV.slt(h:bV H B C w N P L tops):∀z,B.S C z→z<H.size:=by
 obtain⟨tv,h1,h2⟩:=h.own
 rintro z (hz|rfl|rfl|rfl|rfl|rfl|rfl)
 ·exact h.cells.slt z hz
 ·exact aO h1
 ·exact aO h.ring.own
 ·exact aO h.ring.O4
 ·exact aO h.ring.Vw
 ·exact aO h.places
 ·exact h2.lt
theorem bV.ext(h:bV H B C w N P L tops)(e:ai V H H')(hd:∀z,B.S C z→¬V z):bV H' B C w N P L tops:=by
 obtain⟨tv,h1,h2⟩:=h.own
 exact⟨⟨tv,e.own h1 (hd _ (.inr (.inl rfl))),h2.ext e (fun b hb=>by injection hb with hb;exact hb▸hd _ (.inr (.inr (.inr (.inr (.inr (.inr rfl)))))))⟩,h.cells.ext e (fun x hx=>hd x (.inl hx)),
  h.ring.ext e (hd _ (.inr (.inr (.inl rfl)))) (hd _ (.inr (.inr (.inr (.inl rfl))))) (hd _ (.inr (.inr (.inr (.inr (.inl rfl)))))),h.inv,e.own h.places (hd _ (.inr (.inr (.inr (.inr (.inr (.inl rfl))))))),h.len,h.qY,h.out⟩
theorem bV.fresh(h:bV H B C w N P L tops)(e:ax H H'):bV H' B C w N P L tops:=h.ext e fun _ _ h=>h
theorem bV.aK(h:bV H B C w N P L tops)(c1:CQ H' B.c C w')(e:ai C H H')(hl:w'.cs.length=w.cs.length):bV H' B C w' N P L tops:=by
 obtain⟨tv,h1,h2⟩:=h.own
 obtain⟨o1,o2,o3,o4,o5,o6⟩:=h.out
 exact⟨⟨tv,e.own h1 o1,h2.ext e (fun b hb=>by injection hb with hb;exact hb▸o6)⟩,c1,h.ring.ext e o2 o3 o4,h.inv,e.own h.places o5,by rw[hl];exact h.len,h.qY,h.out⟩
theorem bV.xC(h:bV H B C w N P L tops)(r1:ii H' B.r B.nb B.pb N' P')(hi:BE (ck N') (ck P'))(e:ai (fun z=>z=B.nb∨z=B.pb) H H')(hl:N'.length=N.length):bV H' B C w N' P' L tops:=by
 obtain⟨tv,h1,h2⟩:=h.own
 obtain⟨o1,o2,o3,o4,o5,o6⟩:=h.out
 obtain⟨⟨d1,d2,d3,d4,d5⟩,⟨d6,d7,d8,d9⟩,⟨d10,d11,d12⟩⟩:=h.qY
 exact⟨⟨tv,e.own h1 (by omega),h2.ext e (fun b hb=>by injection hb with hb;omega)⟩,h.cells.ext e (fun x hx hz=>by rcases hz with hz|hz;exact o3 (hz▸hx);exact o4 (hz▸hx)),r1,hi,e.own h.places (by omega),by rw[hl];exact h.len,h.qY,h.out⟩
theorem bV.Su(h:bV H B C w N P L tops)(hl:L'.length=L.length):bV (H.wr B.tb (aM L')) B C w N P L' tops∧ai (fun z=>z=B.tb) H (H.wr B.tb (aM L')):=by
 obtain⟨tv,h1,h2⟩:=h.own
 obtain⟨o1,o2,o3,o4,o5,o6⟩:=h.out
 obtain⟨⟨d1,d2,d3,d4,d5⟩,⟨d6,d7,d8,d9⟩,⟨d10,d11,d12⟩⟩:=h.qY
 have e:ai (fun z=>z=B.tb) H (H.wr B.tb (aM L')):=(ai.refl (fun z=>z=B.tb) _).wr (fun _=>rfl) _
 exact⟨⟨⟨tv,by rw[hl];exact e.own h1 d4,h2.ext e (fun b hb=>by injection hb with hb;omega)⟩,h.cells.ext e (fun x hx hz=>o5 (hz▸hx)),h.ring.ext e (Ne.symm d6) (Ne.symm d7) (Ne.symm d8),h.inv,aj h.places,by rw[hl];exact h.len,h.qY,h.out⟩,e⟩
theorem bV.hZ(h:bV H B C w N P L tops):∃c l,H.own B.n=some [ptr B.c,ptr B.r,.slice (some ⟨B.tb,0,none⟩) L.length L.length,.slice (some ⟨B.tp,0,none⟩) tops.length c]∧H.own B.tp=some l∧tops.length≤c∧c≤l.length∧l.take tops.length=tops.map i64:=by
 obtain⟨tv,h1,_,l,c,rfl,h3,h4,h5,h6⟩:=h.own
 rw[ama]at h5 h6
 exact⟨c,l,h1,h3,h4,h5,h6⟩
theorem bV.fB(h:bV H B C w N P L tops){l:List Value}(hl:H.own B.tp=some l){i:Nat}{x:Int}(hx:tops[i]? =some x):l[i]? =some (i64 x):=by
 obtain⟨c,l',_,h2,_,_,h5⟩:=h.hZ
 rw[hl]at h2
 injection h2 with h2
 subst h2
 have h7:(tops.map i64)[i]? =some (i64 x):=by rw[amo,hx];rfl
 rw[←h5,amE]at h7
 split at h7
 ·exact h7
 ·cases h7
theorem bV.nV(h:bV H B C w N P L tops){l:List Value}(hl:H.own B.tp=some l)(i:Nat)(v:Int):bV (H.wr B.tp (l.set i (i64 v))) B C w N P L (tops.set i v)∧ai (fun z=>z=B.tp) H (H.wr B.tp (l.set i (i64 v))):=by
 obtain⟨c,l',h1,h2,h3,h4,h5⟩:=h.hZ
 rw[hl]at h2
 injection h2 with h2
 subst h2
 obtain⟨o1,o2,o3,o4,o5,o6⟩:=h.out
 obtain⟨⟨d1,d2,d3,d4,d5⟩,⟨d6,d7,d8,d9⟩,⟨d10,d11,d12⟩⟩:=h.qY
 have e:ai (fun z=>z=B.tp) H (H.wr B.tp (l.set i (i64 v))):=(ai.refl (fun z=>z=B.tp) _).wr (fun _=>rfl) _
 refine⟨⟨⟨_,e.own h1 d5,?_⟩,h.cells.ext e (fun x hx hz=>o6 (hz▸hx)),h.ring.ext e (Ne.symm d10) (Ne.symm d11) (Ne.symm d12),h.inv,e.own h.places d9,h.len,h.qY,h.out⟩,e⟩
 refine⟨by simp,l.set i (i64 v),c,by rw[al8],aj hl,by rw[al8];exact h3,by rw[al8,ama];exact h4,?_⟩
 rw[al8,ama,xY,h5,amO]
theorem bV.rd(h:bV H B C w N P L tops){x:Int}(hx:0≤x∧x<w.cs.length):x.toNat*4+3< (aM L).length∧(aM L)[x.toNat*4]? =some (i64 (eX L x).u)∧(aM L)[x.toNat*4+1]? =some (i64 (eX L x).k)∧
  (aM L)[x.toNat*4+2]? =some (i64 (eX L x).d)∧(aM L)[x.toNat*4+3]? =some (.bool (eX L x).m):=by
 have hl:=h.len
 have hf:=NM L
 obtain⟨y,hy⟩:∃y,L[x.toNat]? =some y:=⟨_,al5 (by omega)⟩
 obtain⟨h1,h2,h3,h4⟩:=aaG hy
 rw[Hd hx.1 hy]
 exact⟨by omega,h1,h2,h3,h4⟩
theorem bV.aI(h:bV H B C w N P L tops){x:Int}(hx:0≤x∧x<w.cs.length)(v:Int):∃L',eX L'=pP (eX L) x ⟨v,(eX L x).k,(eX L x).d,(eX L x).m⟩∧bV (H.wr B.tb ((aM L).set (x.toNat*4) (i64 v))) B C w N P L' tops∧ai (fun z=>z=B.tb) H (H.wr B.tb ((aM L).set (x.toNat*4) (i64 v))):=by
 have hl:=h.len
 obtain⟨y,hy⟩:∃y,L[x.toNat]? =some y:=⟨_,al5 (by omega)⟩
 rw[Hd hx.1 hy,(qM hy).1]
 exact⟨_,CH (by omega) _,h.Su (al8 ..)⟩
theorem bV.eF(h:bV H B C w N P L tops){x:Int}(hx:0≤x∧x<w.cs.length)(v:Int):∃L',eX L'=pP (eX L) x ⟨(eX L x).u,v,(eX L x).d,(eX L x).m⟩∧bV (H.wr B.tb ((aM L).set (x.toNat*4+1) (i64 v))) B C w N P L' tops∧ai (fun z=>z=B.tb) H (H.wr B.tb ((aM L).set (x.toNat*4+1) (i64 v))):=by
 have hl:=h.len
 obtain⟨y,hy⟩:∃y,L[x.toNat]? =some y:=⟨_,al5 (by omega)⟩
 rw[Hd hx.1 hy,(qM hy).2.1]
 exact⟨_,CH (by omega) _,h.Su (al8 ..)⟩
theorem bV.W1(h:bV H B C w N P L tops){x:Int}(hx:0≤x∧x<w.cs.length)(v:Int):∃L',eX L'=pP (eX L) x ⟨(eX L x).u,(eX L x).k,v,(eX L x).m⟩∧bV (H.wr B.tb ((aM L).set (x.toNat*4+2) (i64 v))) B C w N P L' tops∧ai (fun z=>z=B.tb) H (H.wr B.tb ((aM L).set (x.toNat*4+2) (i64 v))):=by
 have hl:=h.len
 obtain⟨y,hy⟩:∃y,L[x.toNat]? =some y:=⟨_,al5 (by omega)⟩
 rw[Hd hx.1 hy,(qM hy).2.2.1]
 exact⟨_,CH (by omega) _,h.Su (al8 ..)⟩
theorem bV.cX(h:bV H B C w N P L tops){x:Int}(hx:0≤x∧x<w.cs.length)(v:Bool):∃L',eX L'=pP (eX L) x ⟨(eX L x).u,(eX L x).k,(eX L x).d,v⟩∧bV (H.wr B.tb ((aM L).set (x.toNat*4+3) (.bool v))) B C w N P L' tops∧ai (fun z=>z=B.tb) H (H.wr B.tb ((aM L).set (x.toNat*4+3) (.bool v))):=by
 have hl:=h.len
 obtain⟨y,hy⟩:∃y,L[x.toNat]? =some y:=⟨_,al5 (by omega)⟩
 rw[Hd hx.1 hy,(qM hy).2.2.2.1]
 exact⟨_,CH (by omega) _,h.Su (al8 ..)⟩
theorem bV.NN(h:bV H B C w N P L tops){x:Int}(hx:0≤x∧x<w.cs.length)(z:Pc):∃L',eX L'=pP (eX L) x z∧bV (H.wr B.tb (bq (aM L) (x.toNat*4) [i64 z.u,i64 z.k,i64 z.d,.bool z.m])) B C w N P L' tops∧ai (fun z=>z=B.tb) H (H.wr B.tb (bq (aM L) (x.toNat*4) [i64 z.u,i64 z.k,i64 z.d,.bool z.m])):=by
 have hl:=h.len
 obtain⟨y,hy⟩:∃y,L[x.toNat]? =some y:=⟨_,al5 (by omega)⟩
 rw[(qM hy).2.2.2.2]
 exact⟨_,CH (by omega) _,h.Su (al8 ..)⟩
end
end Go.Proofs.YtjlnnljohemifaaGreat

namespace Go.Proofs.YtjlnnljohemifaaGreat
open Go Go.Vc
def K6(f:Int→Pc)(ch:Int→List Int)(par:Int→Int):Prop:=∀x,(f x).u=par x∧(f x).k=(ch x).headD (-1)∧(f x).d=(ch x).length
section
variable {H H' : Hp} {B : FB} {C V : Nat → Prop} {w : Nw} {N P : List Int} {L : List Pc} {tops : List Int} {ch : Int → List Int} {par : Int → Int} {aw : Int → List Int} {W : List Int}
theorem dU.Sv{lt:Int→Int→Bool}{nx:Int→Int}(f:dU (aH w) lt nx ch par aw W){x:Int}(hx:x∈W):0≤x∧x<w.cs.length:=by
 obtain⟨a,b,_⟩:=aF (f.wm x hx).2.2
 exact⟨a,b⟩
theorem dU.rin{lt:Int→Int→Bool}{nx:Int→Int}(f:dU (aH w) lt nx ch par aw W){g x:Int}(hx:x∈aw g):0≤x∧x<w.cs.length:=by
 obtain⟨h1,_,h2,_⟩:=f.rm g x hx
 obtain⟨a,b,_⟩:=aF (w:=w) (x:=x) (by omega)
 exact⟨a,b⟩
theorem dU.HR{lt:Int→Int→Bool}{nx:Int→Int}(f:dU (aH w) lt nx ch par aw W){p x:Int}(hx:x∈ch p):0≤x∧x<w.cs.length:=by
 obtain⟨a,b,_⟩:=aF (f.pr.dn p x hx).2.2.2.1
 exact⟨a,b⟩
set_option maxHeartbeats 1000000 in
theorem zL(m:bV H B C w N P L tops){x g:Int}(f:dU (aH w) (aV w) (ck N) ch par aw (x::W))(hg:aH w x=g)(dw:g<tops.length)(ht:br tops g=(aw g).headD (-1)):
  ah Tryz.prog vC [ptr B.n,i64 g,i64 x] H fun v H'=>ay (∃N' P' He l,bV H' B C w N' P' L He∧He.length=tops.length∧br He=kT (br tops) g (l.headD (-1))∧
   dU (aH w) (aV w) (ck N') ch par (aA aw g l) W∧(l.headD (-1)=x∨(l.headD (-1)=br tops g∧br tops g≠ -1))∧l.headD (-1)≠ -1∧
   (x≠l.headD (-1)→aV w (l.headD (-1)) x=true)∧(br tops g≠ -1→br tops g≠l.headD (-1)→aV w (l.headD (-1)) (br tops g)=true)∧ai (fun z=>C z∨z=B.nb∨z=B.pb∨z=B.tp) H H'):=by
 have hx:=f.Sv (x:=x) (by simp)
 have FY:=f.Yx (c:=x) (by simp)
 have RD:0<g:=by rw[←hg];exact(f.wm x (by simp)).2.2
 obtain⟨cc,lt,o1,q1,De,zC,OY⟩:=m.hZ
 have q2:=m.fB q1 (dW (tops:=tops) (h:=g) (by omega) dw)
 have bm:=m.len
 refine be vO ⟨rfl,?_⟩
 refine v2 fS.eq_1 (ae o1) ?_
 refine⟨⟨by omega,by omega⟩,?_⟩
 refine v4 (ae q1) al6 ama q2 ?_
 refine ak.dec (fun h0=>?_) (fun h0=>?_)<;>refine v1 (ae o1) ?_
 ·have hr:aw g=[]:=by
   rw[h0]at ht
   cases hc:aw g with
   |nil=>rfl
   |cons c r=>rw[hc]at ht;exact absurd ht.symm (f.rne (h:=g) (by rw[hc];simp))
  refine⟨⟨by omega,by omega⟩,?_⟩
  refine v3 q1 al6 ama ?_
  refine⟨by omega,?_⟩
  obtain⟨m2,e2⟩:=m.nV q1 g.toNat x
  refine vs ?_
  have f2:=f.ZK (by rw[hg];exact hr)
  rw[hg]at f2
  exact⟨N,P,_,[x],m2,al8 ..,eU (by omega) dw x,f2,.inl rfl,FY,fun h=>absurd rfl h,fun h=>absurd h0 h,e2.mono fun z _ h=>.inr (.inr (.inr h))⟩
 obtain⟨t,A,hr⟩:∃t A,aw g=t::A:=by
  cases hc:aw g with
  |nil=>rw[hc]at ht;exact absurd ht h0
  |cons c r=>exact⟨c,r,rfl⟩
 have htt:br tops g=t:=by rw[ht,hr];rfl
 rw[htt]
 rw[htt]at q2
 have htr:=f.rin (g:=g) (x:=t) (by rw[hr];simp)
 have htn:=f.rne (c:=t) (h:=g) (by rw[hr];simp)
 have ZJ:t≠x:=fun e=>(f.rm g t (by rw[hr];simp)).2.2.2 (by rw[e];simp)
 refine⟨⟨by omega,by omega⟩,?_⟩
 refine v4 (ae q1) al6 ama q2 ?_
 refine(dB m.ring m.inv (x:=t) (y:=x) (by omega) (by omega)).mono ?_
 rintro _ H2 ⟨rfl,N2,P2,r2,l2,n2,i2,e2⟩
 have m2:=m.xC r2 i2 e2 l2
 have f2:=f.RB (t:=t) (A:=A) (by rw[hg];exact hr)
 rw[hg,←n2]at f2
 obtain⟨cc,lt2,o2,q3,_⟩:=m2.hZ
 have q4:=m2.fB q3 (dW (tops:=tops) (h:=g) (by omega) dw)
 rw[htt]at q4
 refine v1 (ae o2) ?_
 refine⟨⟨by omega,by omega⟩,?_⟩
 refine v4 (ae q3) al6 ama q4 ?_
 refine(cJ m2.cells x t).mono ?_
 rintro _ H3 ⟨rfl,c3,e3⟩
 have m3:=m2.aK c3 e3 rfl
 have zQ:=jn (w:=w) (a:=x) (b:=t) (by omega) (by have:=(f.rm g t (by rw[hr];simp)).1;omega)
 rw[zQ]
 have FA:ai (fun z=>C z∨z=B.nb∨z=B.pb∨z=B.tp) H H3:=(e2.mono fun z _ h=>h.elim (fun h=>.inr (.inl h)) (fun h=>.inr (.inr (.inl h)))).trans (e3.mono fun z _ h=>.inl h)
 cases aR:aV w x t
 ·refine vs ?_
  have Vh:=((aq w).OI t x ZJ).resolve_right (by rw[aR];simp)
  refine⟨N2,P2,tops,t::x::A,m3,rfl,?_,f2,.inr ⟨rfl,htn⟩,htn,fun _=>Vh,fun _ h=>absurd rfl h,FA⟩
  funext z
  show br tops z=if z=g then t else br tops z
  split
  ·rename_i e;rw[e,htt]
  ·rfl
 ·obtain⟨cc,lt3,o3,q5,_,hc5,_⟩:=m3.hZ
  have q6:=m3.fB q5 (dW (tops:=tops) (h:=g) (by omega) dw)
  have tK:=(al7.1 q6).1
  refine v1 (ae o3) ?_
  refine⟨⟨by omega,by omega⟩,?_⟩
  refine v3 q5 al6 ama ?_
  refine⟨by omega,?_⟩
  obtain⟨m4,e4⟩:=m3.nV q5 g.toNat x
  refine vs ?_
  have f3:=f2.yi (g:=g) (l:=x::A++[t]) (by
   unfold aA
   rw[if_pos rfl]
   exact am1 (l₁:=[t]) (l₂:=x::A)) (by
   have:=f2.rc g
   unfold aA at this
   rw[if_pos rfl]at this
   exact xT.ZI (l1:=[t]) (l2:=x::A) this)
  rw[eI]at f3
  exact⟨N2,P2,_,x::A++[t],m4,al8 ..,eU (by omega) dw x,f3,.inl rfl,FY,fun h=>absurd rfl h,fun _ _=>aR,FA.trans (e4.mono fun z _ h=>.inr (.inr (.inr h)))⟩
set_option maxHeartbeats 1000000 in
theorem Hf(m:bV H B C w N P L tops){x y:Int}(f:dU (aH w) (aV w) (ck N) ch par aw (x::y::W))(hp:K6 (eX L) ch par)(hh:aH w x=aH w y)(hl:aV w x y=true):
  ah Tryz.prog tU [ptr B.n,i64 y,i64 x] H fun v H'=>ay (∃N' P' L' dT bH,bV H' B C w N' P' L' tops∧dU (aH w) (aV w) (ck N') dT bH aw (x::W)∧K6 (eX L') dT bH∧(dT x).length=(ch x).length+1∧(∀z,z≠x→dT z=ch z)∧
   ai (fun z=>z=B.nb∨z=B.pb∨z=B.tb) H H'):=by
 have hx:=f.Sv (x:=x) (by simp)
 have hy:=f.Sv (x:=y) (by simp)
 have Rc:x≠y:=fun e=>by rw[e,(aq w).xS]at hl;cases hl
 have bm:=m.len
 obtain⟨tv,o1,_⟩:=m.own
 obtain⟨px,kx,dx⟩:=hp x
 obtain⟨py,ky,dy⟩:=hp y
 obtain⟨a0,a1,a2,a3,a4⟩:=m.rd hx
 have rq:(ch x).length≤w.cs.length:=bY (f.pr.nd x) fun c hc=>f.HR hc
 have zp:=m.cells.Fu
 refine be uj ⟨rfl,?_⟩
 refine v2 fx.eq_1 (ae o1) ?_
 refine⟨⟨by omega,by omega⟩,?_⟩
 refine v1 (ae o1) ?_
 refine⟨⟨by omega,by omega⟩,?_⟩
 refine v3 (ae m.places) al6 a2 ?_
 refine ak.dec (fun h0=>?_) (fun h0=>?_)<;>refine vs ?_
 ·have hc:ch x=[]:=by
   rw[h0]at kx
   cases hc:ch x with
   |nil=>rfl
   |cons c r=>rw[hc]at kx;exact absurd kx.symm (f.pr.ne (x:=x) (by rw[hc];simp))
  have f1:=f.V9 hh hl hc
  obtain⟨H1,eH⟩:∃H1,H1=H:=⟨_,rfl⟩
  rw[←eH]at m ⊢
  have m1:=m
  obtain⟨N1,eN⟩:∃N1,N1=N:=⟨_,rfl⟩
  obtain⟨P1,eP⟩:∃P1,P1=P:=⟨_,rfl⟩
  rw[←eN,←eP]at m1
  rw[←eN]at f1
  have e1:ai (fun z=>z=B.nb∨z=B.pb) H1 H1:=ai.refl _ _
  have vw:([y]:List Int).length=(ch x).length+1:=by rw[hc];rfl
  obtain⟨b0,_⟩:=m1.rd hx
  obtain⟨L2,k2,m2,e2⟩:=m1.eF hx y
  refine v2 m1.places al6 ?_
  refine⟨by omega,?_⟩
  refine vs ?_
  generalize H1.wr B.tb ((aM L).set (x.toNat*4+1) (i64 y))=H2 at*
  obtain⟨c0,c1,c2,c3,c4⟩:=m2.rd hx
  have oW:(eX L2 x).d=(ch x).length:=by rw[k2];unfold pP;rw[if_pos rfl];exact dx
  obtain⟨L3,k3,m3,e3⟩:=m2.W1 hx ((eX L2 x).d+1)
  rw[oW]at c3 k3 m3 e3
  refine v4 (ae m2.places) m2.places al6 c3 ?_
  rw[wrap64 (by omega) (by omega)]
  refine⟨by omega,?_⟩
  refine vs ?_
  generalize H2.wr B.tb ((aM L2).set (x.toNat*4+2) (i64 ((ch x).length+1)))=H3 at*
  obtain⟨d0,_⟩:=m3.rd hy
  obtain⟨L4,k4,m4,e4⟩:=m3.aI hy x
  refine v3 m3.places al6 Nat.add_zero ?_
  refine⟨by omega,?_⟩
  refine vs ?_
  generalize H3.wr B.tb ((aM L3).set (y.toNat*4) (i64 x))=H4 at*
  obtain⟨g0,_⟩:=m4.rd hy
  obtain⟨L5,k5,m5,e5⟩:=m4.cX hy false
  refine v3 m4.places al6 Nat.add_zero ?_
  refine⟨by omega,?_⟩
  refine vs ?_
  refine⟨N1,P1,L5,_,_,m5,f1,fun z=>?_,?_,fun z hz=>?_,((((e1.mono fun z _ h=>h.elim .inl fun h=>.inr (.inl h)).trans (e2.mono fun z _ h=>.inr (.inr h))).trans (e3.mono fun z _ h=>.inr (.inr h))).trans (e4.mono fun z _ h=>.inr (.inr h))).trans (e5.mono fun z _ h=>.inr (.inr h))⟩
  ·rw[k5,k4,k3,k2]
   unfold pP aA
   by_cases h1:z=y
   ·rw[h1,if_pos rfl,if_neg Rc.symm,if_neg Rc.symm]
    simp only[if_neg Rc.symm,if_true]
    refine⟨by unfold aI;rw[if_pos rfl],?_,?_⟩
    ·exact ky
    ·exact dy
   ·rw[if_neg h1]
    unfold aI
    rw[if_neg h1]
    by_cases h2:z=x
    ·rw[h2]
     simp only[if_true,if_neg Rc]
     exact⟨px,rfl,by rw[vw];omega⟩
    ·simp only[if_neg h1,if_neg h2]
     exact hp z
  ·unfold aA;rw[if_pos rfl,vw]
  ·unfold aA;rw[if_neg hz]
 ·obtain⟨k,K,hc⟩:∃k K,ch x=k::K:=by
   cases hc:ch x with
   |nil=>rw[hc]at kx;exact absurd kx h0
   |cons c r=>exact⟨c,r,rfl⟩
  have hk:(eX L x).k=k:=by rw[kx,hc];rfl
  have YO:=f.HR (p:=x) (x:=k) (by rw[hc];simp)
  have f1:=f.under hh hl hc
  rw[hk]at a2
  refine v4 (ae o1) (ae m.places) al6 a2 ?_
  refine(dB m.ring m.inv (x:=k) (y:=y) (by omega) (by omega)).mono ?_
  rintro _ H1 ⟨rfl,N1,P1,r1,l1,n1,i1,e1⟩
  have m1:=m.xC r1 i1 e1 l1
  rw[←n1]at f1
  have vw:(y::K++[k]).length=(ch x).length+1:=by rw[hc];simp
  refine vs ?_
  obtain⟨b0,_⟩:=m1.rd hx
  obtain⟨L2,k2,m2,e2⟩:=m1.eF hx y
  refine v2 m1.places al6 ?_
  refine⟨by omega,?_⟩
  refine vs ?_
  generalize H1.wr B.tb ((aM L).set (x.toNat*4+1) (i64 y))=H2 at*
  obtain⟨c0,c1,c2,c3,c4⟩:=m2.rd hx
  have oW:(eX L2 x).d=(ch x).length:=by rw[k2];unfold pP;rw[if_pos rfl];exact dx
  obtain⟨L3,k3,m3,e3⟩:=m2.W1 hx ((eX L2 x).d+1)
  rw[oW]at c3 k3 m3 e3
  refine v4 (ae m2.places) m2.places al6 c3 ?_
  rw[wrap64 (by omega) (by omega)]
  refine⟨by omega,?_⟩
  refine vs ?_
  generalize H2.wr B.tb ((aM L2).set (x.toNat*4+2) (i64 ((ch x).length+1)))=H3 at*
  obtain⟨d0,_⟩:=m3.rd hy
  obtain⟨L4,k4,m4,e4⟩:=m3.aI hy x
  refine v3 m3.places al6 Nat.add_zero ?_
  refine⟨by omega,?_⟩
  refine vs ?_
  generalize H3.wr B.tb ((aM L3).set (y.toNat*4) (i64 x))=H4 at*
  obtain⟨g0,_⟩:=m4.rd hy
  obtain⟨L5,k5,m5,e5⟩:=m4.cX hy false
  refine v3 m4.places al6 Nat.add_zero ?_
  refine⟨by omega,?_⟩
  refine vs ?_
  refine⟨N1,P1,L5,_,_,m5,f1,fun z=>?_,?_,fun z hz=>?_,((((e1.mono fun z _ h=>h.elim .inl fun h=>.inr (.inl h)).trans (e2.mono fun z _ h=>.inr (.inr h))).trans (e3.mono fun z _ h=>.inr (.inr h))).trans (e4.mono fun z _ h=>.inr (.inr h))).trans (e5.mono fun z _ h=>.inr (.inr h))⟩
  ·rw[k5,k4,k3,k2]
   unfold pP aA
   by_cases h1:z=y
   ·rw[h1,if_pos rfl,if_neg Rc.symm,if_neg Rc.symm]
    simp only[if_neg Rc.symm,if_true]
    refine⟨by unfold aI;rw[if_pos rfl],?_,?_⟩
    ·exact ky
    ·exact dy
   ·rw[if_neg h1]
    unfold aI
    rw[if_neg h1]
    by_cases h2:z=x
    ·rw[h2]
     simp only[if_true,if_neg Rc]
     exact⟨px,rfl,by rw[vw];omega⟩
    ·simp only[if_neg h1,if_neg h2]
     exact hp z
  ·unfold aA;rw[if_pos rfl,vw]
  ·unfold aA;rw[if_neg hz]
end
end Go.Proofs.YtjlnnljohemifaaGreat

namespace Go.Proofs.YtjlnnljohemifaaGreat
open Go Go.Vc
theorem xD(H:Hp):ah Tryz.prog BM [] H fun v H'=>ay (v= .agg #[i64 (-1),i64 (-1),i64 0,.bool false]∧ax H H'):=by
 refine be B4 ⟨rfl,?_⟩
 have f0:ax H (H.new 273 [Value.int .i64 0,Value.int .i64 0,Value.int .i64 0,Value.bool false]):=(ai.refl _ _).new _ _
 refine v1 ly.eq_1 ?_
 have q:((H.new 273 [Value.int .i64 0,Value.int .i64 0,Value.int .i64 0,Value.bool false]).wr H.size [Value.int .i64 (-1),Value.int .i64 (-1),Value.int .i64 0,Value.bool false]).own H.size=some [Value.int .i64 (-1),Value.int .i64 (-1),Value.int .i64 0,Value.bool false]:=aj (aG _ _ _)
 have e2:ai (fun z=>z=H.size) (H.new 273 [Value.int .i64 0,Value.int .i64 0,Value.int .i64 0,Value.bool false]) ((H.new 273 [Value.int .i64 0,Value.int .i64 0,Value.int .i64 0,Value.bool false]).wr H.size [Value.int .i64 (-1),Value.int .i64 (-1),Value.int .i64 0,Value.bool false]):=(ai.refl (fun z=>z=H.size) _).wr (fun _=>rfl) _
 refine v1 (ae q) ?_
 exact⟨rfl,f0.then e2 (fun z hz=>by omega)⟩
section
variable {H H' : Hp} {B : FB} {C V : Nat → Prop} {w : Nw} {N P : List Int} {L : List Pc} {tops : List Int} {ch : Int → List Int} {par : Int → Int} {aw : Int → List Int} {W : List Int}
set_option maxHeartbeats 2000000 in
theorem Hg(m:bV H B C w N P L tops){x g:Int}{A:List Int}(f:dU (aH w) (aV w) (ck N) ch par aw W)(hp:K6 (eX L) ch par)(hr:aw g=x::A):
  ah Tryz.prog tT [ptr B.n,i64 x] H fun v H'=>ay (∃N' P' L' A',bV H' B C w N' P' L' tops∧dU (aH w) (aV w) (ck N') (aA ch x []) (gg ch par x) (aA aw g (x::A')) W∧K6 (eX L') (aA ch x []) (gg ch par x)∧
   ai (fun z=>z=B.nb∨z=B.pb∨z=B.tb) H H'):=by
 have hx:=f.rin (g:=g) (x:=x) (by rw[hr];simp)
 have dZ:=(f.rm g x (by rw[hr];simp)).2.1
 have bm:=m.len
 have zp:=m.cells.Fu
 obtain⟨tv,o1,_⟩:=m.own
 obtain⟨px,kx,dx⟩:=hp x
 obtain⟨a0,a1,a2,a3,a4⟩:=m.rd hx
 refine be ui ⟨rfl,?_⟩
 refine v2 lE.eq_1 (ae o1) ?_
 refine⟨⟨by omega,by omega⟩,?_⟩
 refine v3 (ae m.places) al6 a2 ?_
 refine ak.dec (fun h0=>?_) (fun h0=>?_)<;>refine vs ?_
 ·have hc:ch x=[]:=by
   rw[h0]at kx
   cases hc:ch x with
   |nil=>rfl
   |cons c r=>rw[hc]at kx;exact absurd kx.symm (f.pr.ne (x:=x) (by rw[hc];simp))
  have e1:aA ch x []=ch:=by
   funext z
   unfold aA
   split
   ·rename_i e;rw[e,hc]
   ·rfl
  have e2:gg ch par x=par:=by
   funext z
   unfold gg
   rw[hc,if_neg (by simp)]
  have e3:aA aw g (x::A)=aw:=by
   funext z
   unfold aA
   split
   ·rename_i e;rw[e,hr]
   ·rfl
  exact⟨N,P,L,A,m,by rw[e1,e2,e3];exact f,by rw[e1,e2];exact hp,ai.refl _ _⟩
 obtain⟨k,K,hc⟩:∃k K,ch x=k::K:=by
  cases hc:ch x with
  |nil=>rw[hc]at kx;exact absurd kx h0
  |cons c r=>exact⟨c,r,rfl⟩
 have hk:(eX L x).k=k:=by rw[kx,hc];rfl
 rw[hk]
 have BF:=f.cy x
 have kU:=f.pr.nd x
 rw[hc]at BF kU
 have bS:∀c∈k::K,0≤c∧c<w.cs.length:=fun c Jt=>f.HR (p:=x) (by rw[hc];exact Jt)
 have hkl:(k::K).length≤w.cs.length:=bY kU bS
 have YB:(k::K).length=K.length+1:=ams
 refine v1 (ae o1) ?_
 refine(sw m.ring BF kU (fun c Jt=>by have:=bS c Jt;omega) (by omega)).mono ?_
 rintro kv H1 ⟨b,s1,hb,f1⟩
 have m1:=m.fresh f1
 have z1:=f1.size
 have hS:=m.slt
 have Vg:B.tb<H.size:=hS _ (.inr (.inr (.inr (.inr (.inr (.inl rfl))))))
 obtain⟨ka,kc,rfl⟩:=Sl.shape s1
 refine vs ?_
 refine bA.intro (fun mm env H'=>∃ (i:Nat) (L':List Pc),mm=(k::K).length - i∧i≤(k::K).length∧bV H' B C w N P L' tops∧Sl H' 1 (.slice ka (k::K).length kc) (k::K).length ((k::K).map i64) (some b)∧ai (fun z=>z=B.tb) H H'∧
  (∀z,(eX L' z).k=(eX L z).k∧(eX L' z).d=(eX L z).d∧(eX L' z).u=if z∈(k::K).take i then -1 else(eX L z).u)∧
  env=[(0,ptr B.n),(1,i64 x),(4,i64 k),(22,.slice ka (k::K).length kc),(23,i64 (k::K).length),(24,i64 i)]) _ ⟨0,L,rfl,by omega,m1,s1,f1.mono (fun _ _ h=>h.elim),fun z=>⟨rfl,rfl,by simp⟩,rfl⟩ ?_
 rintro mm env H2 ⟨i,L2,rfl,hi,m2,s2,e2,g2,rfl⟩
 refine vs ?_
 refine ak.dec (fun gi=>?_) (fun gi=>?_)<;>refine vs ?_
 ·have oq:i< (k::K).length:=by omega
  obtain⟨c,Jn⟩:∃c,(k::K)[i]? =some c:=⟨_,al5 oq⟩
  have Jt:=bS c (amb Jn)
  obtain⟨_,kb,lb,rfl,q2,q3⟩:=Sl.A6 s2 Jn
  obtain⟨Nz,o2,_⟩:=m2.own
  have wh:=m2.len
  refine⟨⟨by omega,by omega⟩,?_⟩
  refine v6 (ae q2) al6 ama Int.toNat_natCast q3 (ae o2) ?_
  refine⟨⟨by omega,by omega⟩,?_⟩
  obtain⟨b0,_⟩:=m2.rd Jt
  obtain⟨L3,k3,m3,e3⟩:=m2.aI Jt (-1)
  refine v3 m2.places al6 Nat.add_zero ?_
  refine⟨by omega,?_⟩
  refine vs ?_
  generalize H2.wr B.tb ((aM L2).set (c.toNat*4) (Value.int .i64 (-1)))=H3 at*
  obtain⟨c0,_⟩:=m3.rd Jt
  have TB:=m3.len
  obtain⟨L4,k4,m4,e4⟩:=m3.cX Jt false
  refine⟨⟨by omega,by omega⟩,?_⟩
  refine v3 m3.places al6 Nat.add_zero ?_
  refine⟨by omega,?_⟩
  refine vs ?_
  refine⟨(k::K).length - (i+1),by omega,i+1,L4,rfl,by omega,m4,(s2.ext e3 (fun z hz ez=>by injection hz with hz;omega)).ext e4 (fun z hz ez=>by injection hz with hz;omega),(e2.trans e3).trans e4,fun z=>?_,?_⟩
  ·have tk:(k::K).take (i+1)=(k::K).take i++[c]:=by rw[amG,Jn];rfl
   obtain⟨g3,g4,g5⟩:=g2 z
   rw[tk,k4,k3]
   unfold pP
   by_cases hz:z=c
   ·simp only[hz,if_true]
    rw[hz]at g3 g4
    exact⟨g3,g4,by simp⟩
   ·simp only[if_neg hz]
    refine⟨g3,g4,?_⟩
    rw[g5]
    simp only[aml,amg,hz,or_false]
  ·rw[wrap64 (by omega) (by omega)]
   rfl
 obtain rfl:i=(k::K).length:=by omega
 rw[amB]at g2
 have YO:=bS k (by simp)
 have f2:=f.raise hr hc
 obtain⟨Nz,o2,_⟩:=m2.own
 have wh:=m2.len
 refine v1 (ae o2) ?_
 refine(dB m2.ring m2.inv (x:=x) (y:=k) (by omega) (by omega)).mono ?_
 rintro _ H3 ⟨rfl,N3,P3,r3,l3,n3,i3,e3⟩
 have m3:=m2.xC r3 i3 e3 l3
 rw[←n3]at f2
 obtain⟨cc,lt,o3,_⟩:=m3.hZ
 refine vs ?_
 refine qZ.intro (fun H'=>H'.own B.n=some [ptr B.c,ptr B.r,.slice (some ⟨B.tb,0,none⟩) L2.length L2.length,.slice (some ⟨B.tp,0,none⟩) tops.length cc]) o3 ?_
 refine vs ?_
 refine qF.intro (.slice (some ⟨B.tb,0,none⟩) L2.length L2.length) (fun H' hI=>by refine v1 (ae hI) ?_;trivial) ?_
 refine vs ?_
 refine(xD H3).mono ?_
 rintro _ H4 ⟨rfl,e4⟩
 have o4:=e4.own o3 (fun h=>h)
 refine And.intro o4 ?_
 have m4:=m3.fresh e4
 refine vs ?_
 refine⟨⟨by omega,by omega⟩,?_⟩
 obtain⟨b0,_⟩:=m4.rd hx
 obtain⟨L5,k5,m5,e5⟩:=m4.NN hx q9
 refine v2 m4.places al6 ?_
 refine⟨by omega,?_⟩
 rw[show bq (aM L2) (x.toNat*4) (aJ (Value.agg #[i64 (-1),i64 (-1),i64 0,Value.bool false]))=bq (aM L2) (x.toNat*4) [i64 q9.u,i64 q9.k,i64 q9.d,.bool q9.m]from rfl]
 have Dk:=m4.qY.1.2.2.2.1
 generalize H4.wr B.tb (bq (aM L2) (x.toNat*4) [i64 q9.u,i64 q9.k,i64 q9.d,.bool q9.m])=H5 at*
 refine vs ?_
 refine And.intro (e5.own o4 Dk) ?_
 refine vs ?_
 refine⟨N3,P3,L5,K++k::A,m5,f2,fun z=>?_,(((e2.mono fun z _ h=>.inr (.inr h)).trans (e3.mono fun z _ h=>h.elim .inl fun h=>.inr (.inl h))).trans (e4.mono fun z _ h=>h.elim)).trans (e5.mono fun z _ h=>.inr (.inr h))⟩
 rw[k5]
 unfold pP aA gg
 obtain⟨g3,g4,g5⟩:=g2 z
 obtain⟨pz,kz,dz⟩:=hp z
 by_cases hz:z=x
 ·rw[if_pos hz,if_pos hz,hz,if_neg (fun h=>by have:=(f.M0 h).1 g;rw[hr]at this;exact this (by simp)),dZ]
  exact⟨rfl,rfl,rfl⟩
 ·rw[if_neg hz,if_neg hz,g3,g4,g5,hc]
  refine⟨?_,kz,dz⟩
  split
  ·rfl
  ·exact pz
end
end Go.Proofs.YtjlnnljohemifaaGreat

namespace Go.Proofs.YtjlnnljohemifaaGreat
open Go Go.Vc
section
variable {H H' : Hp} {B : FB} {C V : Nat → Prop} {w : Nw} {N P : List Int} {L : List Pc} {tops : List Int} {ch : Int → List Int} {par : Int → Int} {aw : Int → List Int} {W : List Int}
set_option maxHeartbeats 4000000 in
theorem CI(m:bV H B C w N P L tops){lt:Int→Int→Bool}(hs:bC lt){x p g t:Int}{A:List Int}(f:dU (aH w) lt (ck N) ch par aw W)(hp:K6 (eX L) ch par)(hx:x∈ch p)(hg:aH w x=g)(dw:g<tops.length)(hr:aw g=t::A)(ht:br tops g=t):
  ah Tryz.prog wG [ptr B.n,i64 g,i64 x] H fun v H'=>ay (∃N' P' L' l,bV H' B C w N' P' L' tops∧dU (aH w) lt (ck N') (aA ch p l) (aI par x (-1)) (aA aw g (t::x::A)) W∧K6 (eX L') (aA ch p l) (aI par x (-1))∧(ch p).Perm (x::l)∧
   ai (fun z=>z=B.nb∨z=B.pb∨z=B.tb) H H'):=by
 obtain⟨x1,x2,x3,x4,x5⟩:=f.pr.dn p x hx
 have dZ:p≠x:=fun e=>by rw[e,hs.xS]at x5;cases x5
 have xx:=f.HR hx
 obtain⟨p0,p1,_⟩:=aF (w:=w) (x:=p) (by omega)
 have bm:=m.len
 have zp:=m.cells.Fu
 have rq:(ch p).length≤w.cs.length:=bY (f.pr.nd p) fun c hc=>f.HR hc
 obtain⟨l,uV,BF⟩:=(f.cy p).from hx
 have kU:=uV.nodup_iff.1 (f.pr.nd p)
 have pJ:(ch p).length=l.length+1:=by rw[uV.length_eq,ams]
 have f1:=f.ZN uV BF
 have De:aA ch p (x::l) p=x::l:=by unfold aA;rw[if_pos rfl]
 obtain⟨ux,_,_⟩:=hp x
 obtain⟨up,kp,dp⟩:=hp p
 rw[x1]at ux
 have htr:=f.rin (g:=g) (x:=t) (by rw[hr];simp)
 have RD:=(f.rm g t (by rw[hr];simp)).2.2.1
 obtain⟨cc,ltp,o1,q1,_⟩:=m.hZ
 obtain⟨a0,a1,a2,a3,a4⟩:=m.rd xx
 obtain⟨b0,b1,b2,b3,b4⟩:=m.rd (x:=p) ⟨p0,p1⟩
 rw[ux]at a1
 rw[dp]at b3
 refine be w7 ⟨rfl,?_⟩
 refine v2 gS.eq_1 (ae o1) ?_
 refine⟨⟨by omega,by omega⟩,?_⟩
 refine v4 (ae m.places) al6 Nat.add_zero a1 ?_
 refine⟨⟨by omega,by omega⟩,?_⟩
 refine v4 (ae m.places) m.places al6 b3 ?_
 rw[wrap64 (by omega) (by omega)]
 obtain⟨L2,k2,m2,e2⟩:=m.W1 (x:=p) ⟨p0,p1⟩ (((ch p).length:Int) - 1)
 refine⟨by omega,?_⟩
 refine vs ?_
 generalize H.wr B.tb ((aM L).set (p.toNat*4+2) (i64 (((ch p).length:Int) - 1)))=H2 at*
 obtain⟨c0,_⟩:=m2.rd (x:=p) ⟨p0,p1⟩
 obtain⟨L3,k3,m3,e3⟩:=m2.eF (x:=p) ⟨p0,p1⟩ (-1)
 refine v2 m2.places al6 ?_
 refine⟨by omega,?_⟩
 refine vs ?_
 generalize H2.wr B.tb ((aM L2).set (p.toNat*4+1) (Value.int .i64 (-1)))=H3 at*
 obtain⟨cc3,lt3,o3,q3,_⟩:=m3.hZ
 refine v1 (ae o3) ?_
 refine(Hc m3.ring (x:=x) (by omega)).mono ?_
 rintro _ H' ⟨rfl,e⟩
 obtain rfl:=e.symm
 refine vs ?_
 have FA:ai (fun z=>z=B.nb∨z=B.pb∨z=B.tb) H H3:=(e2.mono fun z _ h=>.inr (.inr h)).trans (e3.mono fun z _ h=>.inr (.inr h))
 have WQ:l=[]∨∃A0 y,l=A0++[y]:=by
  rcases List.eq_nil_or_concat l with h| ⟨A0,y,h⟩
  ·exact .inl h
  ·exact .inr ⟨A0,y,by rw[h,List.concat_eq_append]⟩
 rcases WQ with rfl| ⟨A0,y,rfl⟩
 ·have IS:ck N x=x:=BF
  rw[IS]
  refine ak.cE (by simp) ?_
  refine vs ?_
  have m4:=m3
  have Bw:=FA
  obtain⟨L4,eL⟩:∃L4,L4=L3:=⟨_,rfl⟩
  rw[←eL]at m4 k3
  have k4x:eX L4 x=eX L x:=by rw[k3,k2];unfold pP;rw[if_neg dZ.symm,if_neg dZ.symm]
  have k4p:eX L4 p=⟨(eX L p).u, -1,((ch p).length:Int) - 1,(eX L p).m⟩:=by rw[k3,k2];unfold pP;rw[if_pos rfl,if_pos rfl]
  have k4o:∀z,z≠p→eX L4 z=eX L z:=fun z hz=>by rw[k3,k2];unfold pP;rw[if_neg hz,if_neg hz]
  have T3:∀ {N5:List Int},ck N5=zW (ck N) x (ck P x)→dU (aH w) lt (ck N5) (aA ch p []) (aI par x (-1)) aw (x::W):=fun h=>by
   rw[h]
   have hpv:ck P x=x:=by
    have:=m.inv.pn x
    rwa[IS]at this
   rw[hpv,Lf]
   have f2:=f1.ad6 De
   rwa[eI]at f2
  obtain⟨cc4,lt4,o4,q4,_⟩:=m4.hZ
  refine v1 (ae o4) ?_
  refine(qL m4.ring m4.inv (x:=x) (by omega)).mono ?_
  rintro _ H5 ⟨rfl,N5,P5,r5,l5,n5,i5,e5⟩
  have m5:=m4.xC r5 i5 e5 l5
  have f5:=T3 n5
  obtain⟨cc5,lt5,o5,q5,_⟩:=m5.hZ
  have hl5:=m5.len
  refine v1 (ae o5) ?_
  refine⟨⟨by omega,by omega⟩,?_⟩
  obtain⟨d0,_⟩:=m5.rd xx
  obtain⟨L6,k6,m6,e6⟩:=m5.aI xx (-1)
  refine v3 m5.places al6 Nat.add_zero ?_
  refine⟨by omega,?_⟩
  refine vs ?_
  generalize H5.wr B.tb ((aM L4).set (x.toNat*4) (Value.int .i64 (-1)))=H6 at*
  have hl6:=m6.len
  refine⟨⟨by omega,by omega⟩,?_⟩
  obtain⟨g0,_⟩:=m6.rd xx
  obtain⟨L7,k7,m7,e7⟩:=m6.cX xx false
  refine v3 m6.places al6 Nat.add_zero ?_
  refine⟨by omega,?_⟩
  refine vs ?_
  generalize H6.wr B.tb ((aM L6).set (x.toNat*4+3) (Value.bool false))=H7 at*
  obtain⟨cc7,lt7,o7,q7,_⟩:=m7.hZ
  have q8:=m7.fB q7 (dW (tops:=tops) (h:=g) (by omega) dw)
  rw[ht]at q8
  have hl7:=m7.len
  refine v1 (ae o7) ?_
  refine⟨⟨by omega,by omega⟩,?_⟩
  refine v4 (ae q7) al6 ama q8 ?_
  refine(dB m7.ring m7.inv (x:=t) (y:=x) (by omega) (by omega)).mono ?_
  rintro _ H8 ⟨rfl,N8,P8,r8,l8,n8,i8,e8⟩
  have m8:=m7.xC r8 i8 e8 l8
  have f8:=f5.RB (t:=t) (A:=A) (by rw[hg];exact hr)
  rw[hg,←n8]at f8
  refine vs ?_
  refine⟨N8,P8,L7,[],m8,f8,fun z=>?_,uV,(((Bw.trans (e5.mono fun z _ h=>h.elim .inl fun h=>.inr (.inl h))).trans (e6.mono fun z _ h=>.inr (.inr h))).trans (e7.mono fun z _ h=>.inr (.inr h))).trans (e8.mono fun z _ h=>h.elim .inl fun h=>.inr (.inl h))⟩
  rw[k7,k6]
  obtain⟨uz,kz,dz⟩:=hp z
  by_cases h1:z=x
  ·rw[h1]
   rw[h1]at kz dz
   unfold pP aI aA
   simp only[if_true,if_neg dZ.symm,k4x]
   exact⟨trivial,kz,dz⟩
  ·unfold pP aI aA
   simp only[if_neg h1]
   by_cases h2:z=p
   ·rw[h2]
    simp only[if_true,if_neg dZ,k4p]
    refine⟨up,rfl,?_⟩
    rw[pJ];simp
   ·simp only[if_neg h2,k4o z h2]
    exact⟨uz,kz,dz⟩
 ·have T7:ck N x=(A0++[y]).headD (-1):=by
   cases A0 with
   |nil=>exact BF.1
   |cons a A0=>exact BF.1
  have IS:ck N x≠x:=fun e=>by
   have h1:=(amq.1 kU).1
   apply h1
   rw[e]at T7
   cases A0 with
   |nil=>rw[T7];simp
   |cons a A0=>rw[T7];simp
  refine ak.dec (fun h=>absurd h IS) (fun _=>?_)
  obtain⟨r0,_⟩:=m3.rd (x:=p) ⟨p0,p1⟩
  obtain⟨L4,k4,m4,e4⟩:=m3.eF (x:=p) ⟨p0,p1⟩ (ck N x)
  refine v2 m3.places al6 ?_
  refine⟨by omega,?_⟩
  refine vs ?_
  generalize H3.wr B.tb ((aM L3).set (p.toNat*4+1) (i64 (ck N x)))=H4 at*
  have Bw:=FA.trans (e4.mono fun z _ h=>.inr (.inr h))
  have k4x:eX L4 x=eX L x:=by rw[k4,k3,k2];unfold pP;rw[if_neg dZ.symm,if_neg dZ.symm,if_neg dZ.symm]
  have k4p:eX L4 p=⟨(eX L p).u,ck N x,((ch p).length:Int) - 1,(eX L p).m⟩:=by rw[k4,k3,k2];unfold pP;rw[if_pos rfl,if_pos rfl,if_pos rfl]
  have k4o:∀z,z≠p→eX L4 z=eX L z:=fun z hz=>by rw[k4,k3,k2];unfold pP;rw[if_neg hz,if_neg hz,if_neg hz]
  have T3:∀ {N5:List Int},ck N5=zW (ck N) x (ck P x)→dU (aH w) lt (ck N5) (aA ch p (A0++[y])) (aI par x (-1)) aw (x::W):=fun h=>by
   rw[h]
   have hpv:ck P x=y:=xT.last (A:=A0) m.inv BF
   rw[hpv]
   have f2:=f1.off (A:=A0) (y:=y) De
   rwa[eI]at f2
  obtain⟨cc4,lt4,o4,q4,_⟩:=m4.hZ
  refine v1 (ae o4) ?_
  refine(qL m4.ring m4.inv (x:=x) (by omega)).mono ?_
  rintro _ H5 ⟨rfl,N5,P5,r5,l5,n5,i5,e5⟩
  have m5:=m4.xC r5 i5 e5 l5
  have f5:=T3 n5
  obtain⟨cc5,lt5,o5,q5,_⟩:=m5.hZ
  have hl5:=m5.len
  refine v1 (ae o5) ?_
  refine⟨⟨by omega,by omega⟩,?_⟩
  obtain⟨d0,_⟩:=m5.rd xx
  obtain⟨L6,k6,m6,e6⟩:=m5.aI xx (-1)
  refine v3 m5.places al6 Nat.add_zero ?_
  refine⟨by omega,?_⟩
  refine vs ?_
  generalize H5.wr B.tb ((aM L4).set (x.toNat*4) (Value.int .i64 (-1)))=H6 at*
  have hl6:=m6.len
  refine⟨⟨by omega,by omega⟩,?_⟩
  obtain⟨g0,_⟩:=m6.rd xx
  obtain⟨L7,k7,m7,e7⟩:=m6.cX xx false
  refine v3 m6.places al6 Nat.add_zero ?_
  refine⟨by omega,?_⟩
  refine vs ?_
  generalize H6.wr B.tb ((aM L6).set (x.toNat*4+3) (Value.bool false))=H7 at*
  obtain⟨cc7,lt7,o7,q7,_⟩:=m7.hZ
  have q8:=m7.fB q7 (dW (tops:=tops) (h:=g) (by omega) dw)
  rw[ht]at q8
  have hl7:=m7.len
  refine v1 (ae o7) ?_
  refine⟨⟨by omega,by omega⟩,?_⟩
  refine v4 (ae q7) al6 ama q8 ?_
  refine(dB m7.ring m7.inv (x:=t) (y:=x) (by omega) (by omega)).mono ?_
  rintro _ H8 ⟨rfl,N8,P8,r8,l8,n8,i8,e8⟩
  have m8:=m7.xC r8 i8 e8 l8
  have f8:=f5.RB (t:=t) (A:=A) (by rw[hg];exact hr)
  rw[hg,←n8]at f8
  refine vs ?_
  refine⟨N8,P8,L7,(A0++[y]),m8,f8,fun z=>?_,uV,(((Bw.trans (e5.mono fun z _ h=>h.elim .inl fun h=>.inr (.inl h))).trans (e6.mono fun z _ h=>.inr (.inr h))).trans (e7.mono fun z _ h=>.inr (.inr h))).trans (e8.mono fun z _ h=>h.elim .inl fun h=>.inr (.inl h))⟩
  rw[k7,k6]
  obtain⟨uz,kz,dz⟩:=hp z
  by_cases h1:z=x
  ·rw[h1]
   rw[h1]at kz dz
   unfold pP aI aA
   simp only[if_true,if_neg dZ.symm,k4x]
   exact⟨trivial,kz,dz⟩
  ·unfold pP aI aA
   simp only[if_neg h1]
   by_cases h2:z=p
   ·rw[h2]
    simp only[if_true,if_neg dZ,k4p]
    refine⟨up,T7,?_⟩
    rw[pJ];simp
   ·simp only[if_neg h2,k4o z h2]
    exact⟨uz,kz,dz⟩
end
end Go.Proofs.YtjlnnljohemifaaGreat

namespace Go.Proofs.YtjlnnljohemifaaGreat
open Go Go.Vc
section
variable {H H' : Hp} {B : FB} {C V : Nat → Prop} {w : Nw} {N P : List Int} {L : List Pc} {tops : List Int} {ch : Int → List Int} {par : Int → Int} {aw : Int → List Int} {W : List Int}
theorem Eg(m:bV H B C w N P L tops){lt:Int→Int→Bool}(hs:bC lt){x g t:Int}{A:List Int}(f:dU (aH w) lt (ck N) ch par aw W)(hp:K6 (eX L) ch par)(hg:aH w x=g)(Sf:0<g)(dw:g<tops.length)(hr:aw g=t::A)(ht:br tops g=t):
  ah Tryz.prog rN [ptr B.n,i64 g,i64 x] H fun v H'=>ay (∃N' P' L' dT bH A',bV H' B C w N' P' L' tops∧dU (aH w) lt (ck N') dT bH (aA aw g (t::A')) W∧K6 (eX L') dT bH∧(∀z,par z= -1→bH z= -1)∧
   ai (fun z=>z=B.nb∨z=B.pb∨z=B.tb) H H'):=by
 have e0:aA aw g (t::A)=aw:=by
  funext z
  unfold aA
  split
  ·rename_i e;rw[e,hr]
  ·rfl
 refine be r9 ⟨rfl,?_⟩
 refine v1 eo.eq_1 ?_
 refine bA.intro (fun mm env H'=>∃ (x:Int) (N' P':List Int) (L':List Pc) (dT:Int→List Int) (bH:Int→Int) (A':List Int),mm=MZ lt w.cs.length x∧aH w x=g∧bV H' B C w N' P' L' tops∧dU (aH w) lt (ck N') dT bH (aA aw g (t::A')) W∧K6 (eX L') dT bH∧(∀z,par z= -1→bH z= -1)∧
   ai (fun z=>z=B.nb∨z=B.pb∨z=B.tb) H H'∧env=[(0,ptr B.n),(1,i64 g),(2,i64 x)]) _ ⟨x,N,P,L,ch,par,A,rfl,hg,m,by rw[e0];exact f,hp,fun _ h=>h,ai.refl _ _,rfl⟩ ?_
 rintro mm env H1 ⟨y,N1,P1,L1,O6,zv,A1,rfl,hy,m1,f1,p1,u1,e1,rfl⟩
 obtain⟨y0,y1,_⟩:=aF (w:=w) (x:=y) (by omega)
 obtain⟨tv,o1,_⟩:=m1.own
 obtain⟨a0,a1,a2,a3,a4⟩:=m1.rd ⟨y0,y1⟩
 obtain⟨uy,_,_⟩:=p1 y
 have hl:=m1.len
 rw[uy]at a1
 refine v1 (ae o1) ?_
 refine⟨⟨by omega,by omega⟩,?_⟩
 refine v4 (ae m1.places) al6 Nat.add_zero a1 ?_
 refine ak.dec (fun h0=>?_) (fun h0=>?_)<;>refine v1 (ae o1) ?_
 ·exact⟨N1,P1,L1,O6,zv,A1,m1,f1,p1,u1,e1⟩
 refine⟨⟨by omega,by omega⟩,?_⟩
 refine v3 (ae m1.places) al6 a4 ?_
 have hyc:=f1.pr.up y _ rfl h0
 obtain⟨_,_,h3,h4,h5⟩:=f1.pr.dn _ _ hyc
 cases hm:(eX L1 y).m
 ·refine v1 (ae o1) ?_
  refine⟨⟨by omega,by omega⟩,?_⟩
  obtain⟨L2,k2,m2,e2⟩:=m1.cX ⟨y0,y1⟩ true
  refine v2 m1.places al6 ?_
  refine⟨by omega,?_⟩
  refine vs ?_
  refine⟨N1,P1,L2,O6,zv,A1,m2,f1,fun z=>?_,u1,e1.trans (e2.mono fun z _ h=>.inr (.inr h))⟩
  rw[k2]
  unfold pP
  split
  ·rename_i e;rw[e];exact p1 y
  ·exact p1 z
 ·refine v1 (ae o1) ?_
  refine⟨⟨by omega,by omega⟩,?_⟩
  refine v4 (ae m1.places) al6 Nat.add_zero a1 ?_
  refine(CI m1 hs f1 p1 hyc hy dw (A:=A1) (by unfold aA;rw[if_pos rfl]) ht).mono ?_
  rintro _ H2 ⟨N2,P2,L2,l,m2,f2,p2,uV,e2⟩
  rw[eI]at f2
  refine vs ?_
  obtain⟨z0,z1,_⟩:=aF (w:=w) (x:=zv y) (by omega)
  refine⟨MZ lt w.cs.length (zv y),FX hs ⟨z0,by omega⟩ h5,zv y,N2,P2,L2,_,_,y::A1,rfl,by omega,m2,f2,p2,fun z hz=>?_,e1.trans e2,rfl⟩
  unfold aI
  split
  ·rfl
  ·exact u1 z hz
theorem FL(m:bV H B C w N P L tops){lt:Int→Int→Bool}(hs:bC lt){x g t:Int}{A:List Int}(f:dU (aH w) lt (ck N) ch par aw W)(hp:K6 (eX L) ch par)(hg:aH w x=g)(Sf:0<g)(dw:g<tops.length)(hr:aw g=t::A)(ht:br tops g=t):
  ah Tryz.prog sO [ptr B.n,i64 g,i64 x] H fun v H'=>ay (∃N' P' L' dT bH A',bV H' B C w N' P' L' tops∧dU (aH w) lt (ck N') dT bH (aA aw g (t::A')) W∧K6 (eX L') dT bH∧bH x= -1∧(∀z,par z= -1→bH z= -1)∧
   ai (fun z=>z=B.nb∨z=B.pb∨z=B.tb) H H'):=by
 obtain⟨y0,y1,_⟩:=aF (w:=w) (x:=x) (by omega)
 obtain⟨tv,o1,_⟩:=m.own
 obtain⟨a0,a1,a2,a3,a4⟩:=m.rd ⟨y0,y1⟩
 obtain⟨uy,_,_⟩:=hp x
 have hl:=m.len
 rw[uy]at a1
 refine be te ⟨rfl,?_⟩
 refine v2 eO.eq_1 (ae o1) ?_
 refine⟨⟨by omega,by omega⟩,?_⟩
 refine v4 (ae m.places) al6 Nat.add_zero a1 ?_
 refine ak.dec (fun h0=>?_) (fun h0=>?_)<;>refine vs ?_
 ·have e0:aA aw g (t::A)=aw:=by
   funext z
   unfold aA
   split
   ·rename_i e;rw[e,hr]
   ·rfl
  exact⟨N,P,L,ch,par,A,m,by rw[e0];exact f,hp,h0,fun _ h=>h,ai.refl _ _⟩
 have hxc:=f.pr.up x _ rfl h0
 obtain⟨_,_,h3,h4,h5⟩:=f.pr.dn _ _ hxc
 refine(CI m hs f hp hxc hg dw hr ht).mono ?_
 rintro _ H2 ⟨N2,P2,L2,l,m2,f2,p2,uV,e2⟩
 refine vs ?_
 refine(Eg m2 hs (x:=par x) (A:=x::A) f2 p2 (by omega) Sf dw (by unfold aA;rw[if_pos rfl]) ht).mono ?_
 rintro _ H3 ⟨N3,P3,L3,MV,sz,A3,m3,f3,p3,u3,e3⟩
 rw[eI]at f3
 refine vs ?_
 exact⟨N3,P3,L3,MV,sz,A3,m3,f3,p3,u3 x (by unfold aI;rw[if_pos rfl]),fun z hz=>u3 z (by unfold aI;split;rfl;exact hz),e2.trans e3⟩
end
end Go.Proofs.YtjlnnljohemifaaGreat

namespace Go.Proofs.YtjlnnljohemifaaGreat
open Go Go.Vc
theorem Kq(a b:List Int):ws (a++b)=ws a++ws b:=by unfold ws;rw[an3]
theorem Sw{l:List Int}{d:Nat}{y v:Int}(h:l[d]? =some y):(ws [y]++ws (l.set d v)).Perm (ws [v]++ws l):=by
 have hd:=(al7.1 h).1
 have e1:l=l.take d++y::l.drop (d+1):=by
  rw[al5 hd]at h
  injection h with h
  rw[←h,←ang hd,anK]
 have e2:l.set d v=l.take d++v::l.drop (d+1):=by
  rw[List.set_eq_take_append_cons_drop,if_pos hd]
 rw[e2]
 generalize ha:l.take d=a at*
 generalize hb:l.drop (d+1)=b at*
 rw[e1,Kq,Kq,pE v b,pE y b,anG]
 intro z
 simp only[anP]
 omega
section
variable {H H' : Hp} {B : FB} {C V : Nat → Prop} {w : Nw} {N P : List Int} {L : List Pc} {tops : List Int} {ch : Int → List Int} {par : Int → Int} {aw : Int → List Int} {W : List Int}
structure Qd(w:Nw)(g:Int)(nx:Int→Int)(HZ ch:Int→List Int)(par:Int→Int)(aw:Int→List Int)(sK rest W0:List Int):Prop where
 f:dU (aH w) (aV w) nx ch par aw (ws sK++(rest++W0))
 td:∀ (d:Nat) y,sK[d]? =some y→y≠ -1→(ch y).length=d∧aH w y=g
 rh:∀y∈rest,aH w y=g
 c0:∀z∈W0,ch z=HZ z
 tl:sK.length≤w.cs.length+1
set_option maxRecDepth 100000 in
set_option maxHeartbeats 4000000 in
theorem IZ(m:bV H B C w N P L tops){roots W0:List Int}{g:Int}{b o rc:Nat}{lb:List Value}(hb:H.own b=some lb)(mu:∀ (i:Nat) y,roots[i]? =some y→lb[o+i]? =some (i64 y))(Wc:¬B.S C b)(t0:Qd w g (ck N) ch ch par aw [] roots W0)(hp:K6 (eX L) ch par)(Wg:roots.length≤65536):
  ah Tryz.prog vB [ptr B.n,.slice (some ⟨b,o,none⟩) roots.length rc] H fun v H'=>ay (∃N' P' L' dT bH sK fq,bV H' B C w N' P' L' tops∧Qd w g (ck N') ch dT bH aw sK [] W0∧K6 (eX L') dT bH∧
   Sl H' 1 v sK.length (sK.map i64) fq∧(∀z,fq=some z→H.size≤z)∧ai (fun z=>C z∨z=B.nb∨z=B.pb∨z=B.tb) H H'):=by
 have zp:=m.cells.Fu
 have hbl:=aO hb
 have hS:=m.slt
 have ls:=aq w
 have hTb:∀ {z:Nat},(C z∨z=B.nb∨z=B.pb∨z=B.tb)→B.S C z:=fun h=>by
  rcases h with h|h|h|h
  ·exact .inl h
  ·exact .inr (.inr (.inr (.inl h)))
  ·exact .inr (.inr (.inr (.inr (.inl h))))
  ·exact .inr (.inr (.inr (.inr (.inr (.inl h)))))
 refine be vN ⟨rfl,?_⟩
 refine v1 fR.eq_1 ?_
 refine bA.intro (fun mm env H'=>∃ (i:Nat) (N' P':List Int) (L':List Pc) (dT:Int→List Int) (bH:Int→Int) (sK:List Int) (wv:Value) (fq:Option Nat),mm=roots.length - i∧i≤roots.length∧bV H' B C w N' P' L' tops∧Qd w g (ck N') ch dT bH aw sK (roots.drop i) W0∧K6 (eX L') dT bH∧
   Sl H' 1 wv sK.length (sK.map i64) fq∧(∀z,fq=some z→H.size≤z)∧ai (fun z=>C z∨z=B.nb∨z=B.pb∨z=B.tb∨H.size≤z) H H'∧
   env=[(0,ptr B.n),(5,wv),(10,.slice (some ⟨b,o,none⟩) roots.length rc),(11,i64 roots.length),(12,i64 i)]) _ ⟨0,N,P,L,ch,par,[],_,none,rfl,by omega,m,t0,hp,Sl.nil _ _,(fun z h=>by cases h),ai.refl _ _,rfl⟩ ?_
 rintro mm env H1 ⟨i,N1,P1,L1,O6,zv,sK,wv,fq,rfl,hi,m1,t1,p1,s1,K7,e1,rfl⟩
 refine vs ?_
 refine ak.dec (fun gi=>?_) (fun gi=>?_)<;>refine vs ?_
 rotate_left
 ·obtain rfl:i=roots.length:=by omega
  rw[List.drop_length]at t1
  exact⟨N1,P1,L1,O6,zv,sK,fq,m1,t1,p1,s1,K7,e1.mono fun z hz h=>by
   rcases h with h|h|h|h|h
   ·exact .inl h
   ·exact .inr (.inl h)
   ·exact .inr (.inr (.inl h))
   ·exact .inr (.inr (.inr h))
   ·omega⟩
 have oq:i<roots.length:=by omega
 obtain⟨x,hx⟩:∃x,roots[i]? =some x:=⟨_,al5 oq⟩
 have dr:roots.drop i=x::roots.drop (i+1):=by
  rw[ang oq]
  congr 1
  rw[al5 oq]at hx
  injection hx
 have ob:H1.own b=some lb:=e1.own hb (fun h=>by
  rcases h with h|h|h|h|h
  ·exact Wc (hTb (.inl h))
  ·exact Wc (hTb (.inr (.inl h)))
  ·exact Wc (hTb (.inr (.inr (.inl h))))
  ·exact Wc (hTb (.inr (.inr (.inr h))))
  ·omega)
 refine⟨⟨by omega,by omega⟩,?_⟩
 refine v4 (ae ob) ama Int.toNat_natCast (mu i x hx) ?_
 rw[dr]at t1
 have ae9:x∈ws sK++(x::roots.drop (i+1)++W0):=by simp
 refine bA.intro (fun mm env H'=>∃ (x:Int) (N' P':List Int) (L':List Pc) (dT:Int→List Int) (bH:Int→Int) (sK:List Int) (wv:Value) (fq:Option Nat),mm=(ws sK).length∧bV H' B C w N' P' L' tops∧Qd w g (ck N') ch dT bH aw sK (x::roots.drop (i+1)) W0∧K6 (eX L') dT bH∧
   Sl H' 1 wv sK.length (sK.map i64) fq∧(∀z,fq=some z→H.size≤z)∧ai (fun z=>C z∨z=B.nb∨z=B.pb∨z=B.tb∨H.size≤z) H H'∧
   env=[(0,ptr B.n),(5,wv),(7,i64 x),(10,.slice (some ⟨b,o,none⟩) roots.length rc),(11,i64 roots.length),(12,i64 i)]) _ ⟨x,N1,P1,L1,O6,zv,sK,wv,fq,rfl,m1,t1,p1,s1,K7,e1,rfl⟩ ?_
 clear hx dr ae9 m1 t1 p1 s1 K7 e1 ob
 rintro mm env H2 ⟨x,N2,P2,L2,oo,me,sK,wv,fq,rfl,m2,t2,p2,s2,K7,e2,rfl⟩
 have xx:=t2.f.Sv (x:=x) (by simp)
 have OW:=t2.rh x (by simp)
 have wh:=m2.len
 obtain⟨tv,o2,_⟩:=m2.own
 obtain⟨a0,a1,a2,a3,a4⟩:=m2.rd xx
 rw[(p2 x).2.2]at a3
 have rB:(oo x).length≤w.cs.length:=bY (t2.f.pr.nd x) fun c hc=>t2.f.HR hc
 refine v1 (ae o2) ?_
 refine⟨⟨by omega,by omega⟩,?_⟩
 refine v3 (ae m2.places) al6 a3 ?_
 refine bA.intro (fun mm env H'=>∃ (tb:List Int) (wv:Value) (fq:Option Nat),mm=(oo x).length+1 - tb.length∧ws tb=ws sK∧bV H' B C w N2 P2 L2 tops∧Qd w g (ck N2) ch oo me aw tb (x::roots.drop (i+1)) W0∧
   Sl H' 1 wv tb.length (tb.map i64) fq∧(∀z,fq=some z→H.size≤z)∧ai (fun z=>C z∨z=B.nb∨z=B.pb∨z=B.tb∨H.size≤z) H H'∧
   env=[(0,ptr B.n),(5,wv),(7,i64 x),(8,i64 (oo x).length),(10,.slice (some ⟨b,o,none⟩) roots.length rc),(11,i64 roots.length),(12,i64 i)]) _ ⟨sK,wv,fq,rfl,rfl,m2,t2,s2,K7,e2,rfl⟩ ?_
 have YJ:(ws sK).length≤w.cs.length:=by
  have h1:=bY t2.f.wn fun c hc=>t2.f.Sv hc
  rw[amh]at h1
  omega
 clear t2 m2 s2 K7 e2 o2 a1 a2 a3 a4
 rintro mm env H3 ⟨tb,wv,fq,rfl,hws,m3,t3,s3,K7,e3,rfl⟩
 have z3:=e3.size
 have MT:=t3.tl
 obtain⟨wa,wc,rfl⟩:=Sl.shape s3
 refine vs ?_
 refine ak.dec (fun gd=>?_) (fun gd=>?_)<;>refine vs ?_
 ·refine EK (B:=H.size) K7 z3 s3 (-1) (by omega) fun w' H4 fq' Sx s4 e4=>?_
  refine vs ?_
  refine⟨(oo x).length+1 - (tb.length+1),by omega,tb++[-1],w',fq',by simp,by rw[Kq,ec,if_pos rfl,amW,hws],m3.ext e4 (fun z hz ez=>by have:=hS z hz;omega),⟨?_,fun d y hd hy=>?_,t3.rh,t3.c0,?_⟩,s4,Sx,e3.trans (e4.mono fun z _ h=>.inr (.inr (.inr (.inr h)))),rfl⟩
  ·rw[Kq,ec,if_pos rfl,amW];exact t3.f
  ·rcases anC d tb.length with h|h|h
   ·rw[amn h]at hd;exact t3.td d y hd hy
   ·subst h
    rw[amw (ami _),am3]at hd
    simp at hd
    exact absurd hd.symm hy
   ·rw[amk (by simp;omega)]at hd;cases hd
  ·rw[amh,amx];omega
 have oW:(oo x).length<tb.length:=by omega
 obtain⟨y,hy⟩:∃y,tb[(oo x).length]? =some y:=⟨_,al5 oW⟩
 obtain⟨_,qb,ql,rfl,q2,q3⟩:=Sl.A6 s3 hy
 have hqb:fq=some qb:=by
  cases fq with
  |none=>have:=s3.2.2;injection this with h1;cases h1
  |some b'=>obtain⟨_,_,h1,_⟩:=s3.2;injection h1 with h1;injection h1 with h1;injection h1 with h1;rw[h1]
 subst hqb
 have hqs:=K7 qb rfl
 have ajf:=aO q2
 have hql:=(al7.1 q3).1
 have hMq:∀z,B.S C z→z≠qb:=fun z hz e=>by have:=hS z hz;omega
 refine⟨⟨by omega,by omega⟩,?_⟩
 refine v5 (ae q2) al6 ama Int.toNat_natCast q3 ?_
 refine ak.dec (fun gy=>?_) (fun gy=>?_)<;>refine vs ?_
 ·refine⟨⟨by omega,by omega⟩,?_⟩
  refine v4 q2 al6 ama Int.toNat_natCast ?_
  refine⟨by omega,?_⟩
  have s4:=s3.vX q2 (oo x).length (i64 x)
  have e4:ai (fun z=>z=qb) H3 (H3.wr qb (ql.set (oo x).length (i64 x))):=(ai.refl (fun z=>z=qb) _).wr (fun _=>rfl) _
  refine vs ?_
  have uV:=Sw (v:=x) hy
  rw[ec y,if_pos gy,ec x,if_neg (t3.f.Yx (c:=x) (by simp)),ano]at uV
  have m4:=m3.ext e4 (fun z hz ez=>hMq z hz ez)
  have s5:Sl (H3.wr qb (ql.set (oo x).length (i64 x))) 1 (.slice (some ⟨qb,0,none⟩) (tb.set (oo x).length x).length wc) (tb.set (oo x).length x).length ((tb.set (oo x).length x).map i64) (some qb):=by
   rw[al8,amO];exact s4
  refine⟨roots.length - (i+1),by omega,i+1,N2,P2,L2,oo,me,tb.set (oo x).length x,_,some qb,rfl,by omega,m4,⟨?_,fun d z hd hz=>?_,fun z hz=>t3.rh z (by simp[hz]),t3.c0,by rw[al8];exact t3.tl⟩,p2,s5,K7,e3.trans (e4.mono fun z _ h=>.inr (.inr (.inr (.inr (by omega))))),?_⟩
  ·refine t3.f.perm ?_
   rw[anG]at uV ⊢
   intro z
   have:=uV z
   simp only[anP,anm,anM]at this ⊢
   simp only[List.count_nil]at this
   omega
  ·by_cases h:d=(oo x).length
   ·rw[h,amd oW]at hd
    injection hd with hd
    subst hd
    exact⟨h.symm,OW⟩
   ·rw[amc (Ne.symm h)]at hd
    exact t3.td d z hd hz
  ·rw[wrap64 (by omega) (by omega),al8]
   rfl
 ·obtain⟨Vp,hyg⟩:=t3.td _ y hy gy
  have uV:=Sw (v:= -1) hy
  rw[ec y,if_neg gy,ec (-1),if_pos rfl,ano]at uV
  obtain⟨I0,Sy⟩:∃I0,I0=tb.set (oo x).length (-1):=⟨_,rfl⟩
  have f4:dU (aH w) (aV w) (ck N2) oo me aw (y::x::(ws I0++(roots.drop (i+1)++W0))):=by
   refine t3.f.perm ?_
   rw[←Sy]at uV
   rw[anG]at uV ⊢
   intro z
   have:=uV z
   simp only[anP,anm,ano,anM,List.count_nil]at this ⊢
   omega
  have ahe:(ws tb).length=(ws I0).length+1:=by
   rw[←Sy]at uV
   have:=uV.length_eq
   simp only[anm,ano,ams]at this
   omega
  have htd:∀ (d:Nat) z,I0[d]? =some z→z≠ -1→(oo z).length=d∧aH w z=g:=fun d z hd hz=>by
   rw[Sy]at hd
   by_cases h:d=(oo x).length
   ·rw[h,amd oW]at hd
    injection hd with hd
    exact absurd hd.symm hz
   ·rw[amc (Ne.symm h)]at hd
    exact t3.td d z hd hz
  refine⟨⟨by omega,by omega⟩,?_⟩
  refine v4 q2 al6 ama Int.toNat_natCast ?_
  refine⟨by omega,?_⟩
  have s4:=s3.vX q2 (oo x).length (i64 (-1))
  have e4:ai (fun z=>z=qb) H3 (H3.wr qb (ql.set (oo x).length (i64 (-1)))):=(ai.refl (fun z=>z=qb) _).wr (fun _=>rfl) _
  have s5:Sl (H3.wr qb (ql.set (oo x).length (i64 (-1)))) 1 (.slice (some ⟨qb,0,none⟩) I0.length wc) I0.length (I0.map i64) (some qb):=by
   rw[Sy,al8,amO];exact s4
  have Eh:I0.length=tb.length:=by rw[Sy,al8]
  refine vs ?_
  have m4:=m3.ext e4 (fun z hz ez=>hMq z hz ez)
  generalize H3.wr qb (ql.set (oo x).length (Value.int .i64 (-1)))=H4 at*
  obtain⟨tv4,o4,_⟩:=m4.own
  refine v1 (ae o4) ?_
  refine(cJ m4.cells y x).mono ?_
  rintro _ H5 ⟨rfl,c5,e5⟩
  have m5:=m4.aK c5 e5 rfl
  have qX:y≠x:=fun e=>by have:=f4.wn;rw[e]at this;simp at this
  have RD:0<aH w x:=(f4.wm x (by simp)).2.2
  rw[jn (w:=w) (a:=y) (b:=x) (by omega) RD]
  have s6:=s5.ext e5 (fun z hz ez=>by injection hz with hz;exact hMq z (.inl ez) hz.symm)
  obtain⟨p,q,OF,hl,f5,hpg⟩:∃p q,(if aV w y x=true then(p=y∧q=x)else(p=x∧q=y))∧aV w p q=true∧dU (aH w) (aV w) (ck N2) oo me aw (p::q::(ws I0++(roots.drop (i+1)++W0)))∧aH w p=g∧aH w q=g:=by
   cases aR:aV w y x
   ·exact⟨x,y,by simp,(ls.OI x y qX.symm).resolve_right (by rw[aR];simp),f4.perm (List.Perm.swap ..),OW,hyg⟩
   ·exact⟨y,x,by simp,aR,f4,hyg,OW⟩
  cases aR:aV w y x<;>simp only[aR,if_true,if_false,anb]at OF<;>obtain⟨rfl,rfl⟩:=OF<;>refine vs ?_
  all_goals
   refine(Hf m5 (x:=p) (y:=q) f5 p2 (by omega) hl).mono ?_
   rintro _ H6 ⟨N6,P6,L6,YP,NO,m6,f6,p6,hc6,ho6,e6⟩
   have hn6:=f6.wn
   rw[amq]at hn6
   have s7:=s6.ext e6 (fun z hz ez=>by injection hz with hz;exact hMq z (hTb (.inr ez)) hz.symm)
   refine vs ?_
   refine⟨(ws I0).length,by rw[←hws];omega,p,N6,P6,L6,YP,NO,I0,_,some qb,rfl,m6,⟨?_,fun d z hd hz=>?_,fun z hz=>?_,fun z hz=>?_,by rw[Eh];exact t3.tl⟩,p6,s7,K7,((e3.trans (e4.mono fun z _ h=>.inr (.inr (.inr (.inr (by omega)))))).trans (e5.mono fun z _ h=>.inl h)).trans (e6.mono fun z _ h=>by
    rcases h with h|h|h
    ·exact .inr (.inl h)
    ·exact .inr (.inr (.inl h))
    ·exact .inr (.inr (.inr (.inl h)))),by rw[Eh]⟩
   ·refine f6.perm ?_
    rw[anG]
    intro z
    simp only[anP,anm,anM]
    omega
   ·have hzp:z≠p:=fun e=>hn6.1 (by
     rw[←e]
     refine amI _ ?_
     unfold ws
     exact anZ.2 ⟨amb hd,by simp[hz]⟩)
    rw[ho6 z hzp]
    exact htd d z hd hz
   ·rcases amf.1 hz with h|h
    ·rw[h];exact hpg.1
    ·exact t3.rh z (by simp[h])
   ·have hzp:z≠p:=fun e=>hn6.1 (by rw[←e];simp[hz])
    rw[ho6 z hzp]
    exact t3.c0 z hz
end
end Go.Proofs.YtjlnnljohemifaaGreat

namespace Go.Proofs.YtjlnnljohemifaaGreat
open Go Go.Vc
structure W2(w:Nw)(N:List Int)(L:List Pc)(tops:List Int)(ch:Int→List Int)(par:Int→Int)(aw:Int→List Int):Prop where
 f:dU (aH w) (aV w) (ck N) ch par aw []
 pc:K6 (eX L) ch par
 tp:∀g,br tops g=(aw g).headD (-1)
 ls:∀g y,0<g→aH w y=g→br tops g≠ -1∧(y≠br tops g→aV w (br tops g) y=true)
 tl:tops.length=w.hs.length
def kK(n:Nat)(H:Hp)(S:Nat→Prop)(w:Nw):Prop:=∃ (B:FB) (C:Nat→Prop) (N P:List Int) (L:List Pc) (tops:List Int) (ch:Int→List Int) (par:Int→Int) (aw:Int→List Int),B.n=n∧bV H B C w N P L tops∧W2 w N L tops ch par aw∧∀z,S z↔B.S C z
theorem kK.slt{n:Nat}{H:Hp}{S:Nat→Prop}{w:Nw}(h:kK n H S w):∀z,S z→z<H.size:=by
 obtain⟨B,C,N,P,L,tops,ch,par,aw,rfl,m,l,hS⟩:=h
 exact fun z hz=>m.slt z ((hS z).1 hz)
theorem kK.ext{n:Nat}{H H':Hp}{S V:Nat→Prop}{w:Nw}(h:kK n H S w)(e:ai V H H')(hd:∀z,S z→¬V z):kK n H' S w:=by
 obtain⟨B,C,N,P,L,tops,ch,par,aw,rfl,m,l,hS⟩:=h
 exact⟨B,C,N,P,L,tops,ch,par,aw,rfl,m.ext e (fun z hz=>hd z ((hS z).2 hz)),l,hS⟩
theorem W2.first{w:Nw}{N:List Int}{L:List Pc}{tops:List Int}{ch:Int→List Int}{par:Int→Int}{aw:Int→List Int}(l:W2 w N L tops ch par aw){g x:Int}(h:w.first g x):br tops g=x:=by
 obtain⟨h1,h2,h3⟩:=bN.1 h
 obtain⟨h4,h5⟩:=l.ls g x h1 h2
 apply amr
 intro aT
 have h6:=h5 (Ne.symm aT)
 have ht:aH w (br tops g)=g:=by
  have hm:br tops g∈aw g:=by
   have:=l.tp g
   rw[this]at h4 ⊢
   exact eG h4
  exact(l.f.rm g _ hm).1
 have h7:=h3 _ ht aT
 rw[(aq w).asym h6]at h7
 cases h7
theorem CJ{n:Nat}{H:Hp}{S:Nat→Prop}{w:Nw}(h:kK n H S w)(g:Int):ah Tryz.prog nH [ptr n,i64 g] H fun v H'=>ay (
  ((w.len g=0∧v= .tuple [i64 0,.bool false].toArray)∨∃x,w.first g x∧v= .tuple [i64 x,.bool true].toArray)∧H'=H):=by
 obtain⟨B,C,N,P,L,tops,ch,par,aw,rfl,m,l,hS⟩:=h
 obtain⟨cc,lt,ho,q2,De,zC,OY⟩:=m.hZ
 refine be wZ ⟨rfl,?_⟩
 refine v2 gR.eq_1 (ae ho) ?_
 refine(xm m.cells g).mono ?_
 rintro _ _ ⟨rfl,rfl⟩
 refine vs ?_
 refine ak.dec (fun h0=>?_) (fun h0=>?_)
 ·refine vs ?_
  exact⟨.inl ⟨h0,rfl⟩,rfl⟩
 have hg:0<g:=amr fun hg=>h0 (Nw.IP.2 (.inl (by omega)))
 obtain⟨x,hx⟩:=xl hg h0
 have hh:=(bN.1 hx).2.1
 have dw:=((m.cells.hm x).2 (by omega)).2
 rw[hh,←l.tl]at dw
 have q3:=m.fB q2 (dW (tops:=tops) (h:=g) (by omega) dw)
 rw[l.first hx]at q3
 refine v1 (ae ho) ?_
 refine⟨⟨by omega,by omega⟩,?_⟩
 refine v4 (ae q2) al6 ama q3 ?_
 exact⟨.inr ⟨x,hx,rfl⟩,rfl⟩
theorem FM{n:Nat}{H:Hp}{S:Nat→Prop}{w:Nw}(h:kK n H S w)(g x k s:Int):ah Tryz.prog kq [ptr n,i64 g,i64 x,vV k s] H fun v H'=>ay (
  (¬w.oP g x∧v= .bool false∧cC (kK n) S H H' w)∨(w.oP g x∧v= .bool true∧cC (kK n) S H H' (w.put x (g,k,s)))):=by
 obtain⟨B,C,N,P,L,tops,ch,par,aw,rfl,m,l,hS⟩:=h
 have hC:∀z,C z→S z:=fun z h=>(hS z).2 (.inl h)
 refine be sZ ⟨rfl,?_⟩
 refine v1 eM.eq_1 ?_
 have f0:ax H (H.new 224 [i64 k,u64 s]):=(ai.refl _ _).new _ _
 have b0:(H.new 224 [i64 k,u64 s]).own H.size=some [i64 k,u64 s]:=aG _ _ _
 have m0:=m.fresh f0
 generalize H.new 224 [i64 k,u64 s]=H0 at*
 have ff:ai S H H0:=f0.mono fun _ _ h=>h.elim
 obtain⟨tv,Ki,_⟩:=m0.own
 refine v2 (ae Ki) (ae b0) ?_
 refine(nS m0.cells g x k s).mono ?_
 rintro _ H1 (⟨cr,rfl,c1,e1⟩| ⟨tw,rfl,c1,e1⟩)
 ·refine vs ?_
  exact .inl ⟨cr,rfl,cC.same ⟨B,C,N,P,L,tops,ch,par,aw,rfl,m0.aK c1 e1 rfl,l,hS⟩ (ff.trans (e1.mono fun z _ hz=>hC z hz))⟩
 obtain⟨hh,hx,bS⟩:=id tw
 have m2:=m0.aK c1 e1 (by simp[Nw.put])
 have hg:=hh.1
 have dw:g<tops.length:=by
  have:=(al7.1 hh.2).1
  have:=l.tl
  omega
 have cU:=fun y=>eC hx (g,k,s) y
 have iq:aH w x≤0:=Int.not_lt.1 fun h=>bS (bK.1 h)
 have el:∀a b,0<aH w a→0<aH w b→a≠x→b≠x→aV (w.put x (g,k,s)) a b=aV w a b:=fun a b ha hb tM pt=>dG hx _ ha hb tM pt
 have f2:dU (aH (w.put x (g,k,s))) (aV (w.put x (g,k,s))) (ck N) ch par aw (x::[]):=l.f.put (g:=g) rfl iq (by omega) (by omega) (by rw[cU,if_pos rfl]) (fun y hy=>by rw[cU,if_neg hy]) el
 refine vs ?_
 refine(zL m2 f2 (by rw[cU,if_pos rfl]) dw (l.tp g)).mono ?_
 rintro _ H3 ⟨N3,P3,aaJ,ll,m3,TB,ht3,f3,KY,HU,Vh,hlT,e3⟩
 refine vs ?_
 have hhm:∀y,aH w y=g→y≠x:=fun y hy e=>by rw[e]at hy;omega
 have hTg:br tops g≠ -1→aH w (br tops g)=g:=fun h=>by
  have hm:br tops g∈aw g:=by
   have:=l.tp g
   rw[this]at h ⊢
   exact eG h
  exact(l.f.rm g _ hm).1
 refine .inr ⟨tw,rfl,cC.same ⟨B,C,N3,P3,L,aaJ,ch,par,_,rfl,m3,⟨f3,l.pc,fun g2=>?_,fun g2 y Ei hy=>?_,by rw[TB];exact l.tl⟩,hS⟩ ((ff.trans (e1.mono fun z _ h=>hC z h)).trans (e3.mono fun z _ h=>by
  rcases h with h|h|h|h
  ·exact hC z h
  ·exact(hS z).2 (.inr (.inr (.inr (.inl h))))
  ·exact(hS z).2 (.inr (.inr (.inr (.inr (.inl h)))))
  ·exact(hS z).2 (.inr (.inr (.inr (.inr (.inr (.inr h))))))))⟩
 ·rw[ht3]
  unfold kT aA
  split
  ·rfl
  ·exact l.tp g2
 ·rw[ht3]
  unfold kT
  rw[cU]at hy
  by_cases h2:g2=g
  ·rw[if_pos h2]
   refine⟨HU,fun aT=>?_⟩
   by_cases qX:y=x
   ·rw[qX]at aT ⊢
    exact Vh aT
   ·rw[if_neg qX]at hy
    obtain⟨h3,h4⟩:=l.ls g y (by omega) (by omega)
    have hTx:=hhm _ (hTg h3)
    rcases KY with h5| ⟨h5,_⟩
    ·rw[h5]at aT hlT ⊢
     have h6:=hlT h3 hTx
     by_cases hyT:y=br tops g
     ·rw[hyT];exact h6
     ·have h7:=h4 hyT
      rw[←el _ _ (by rw[hTg h3];omega) (by omega) hTx qX]at h7
      exact(aq _).tr _ _ _ h6 h7
    ·rw[h5]at aT ⊢
     rw[el _ _ (by rw[hTg h3];omega) (by omega) hTx qX]
     exact h4 aT
  ·rw[if_neg h2]
   have qX:y≠x:=fun e=>by rw[if_pos e]at hy;exact h2 hy.symm
   rw[if_neg qX]at hy
   obtain⟨h3,h4⟩:=l.ls g2 y Ei hy
   refine⟨h3,fun aT=>?_⟩
   have hTx:br tops g2≠x:=fun e=>by
    have hm:br tops g2∈aw g2:=by
     have:=l.tp g2
     rw[this]at h3 ⊢
     exact eG h3
    have h5:=(l.f.rm g2 _ hm).1
    rw[e]at h5
    omega
   have hT2:aH w (br tops g2)=g2:=by
    have hm:br tops g2∈aw g2:=by
     have:=l.tp g2
     rw[this]at h3 ⊢
     exact eG h3
    exact(l.f.rm g2 _ hm).1
   rw[el _ _ (by omega) (by omega) hTx qX]
   exact h4 aT
theorem bV.bounds{H:Hp}{B:FB}{C:Nat→Prop}{w:Nw}{N P:List Int}{L:List Pc}{tops:List Int}(m:bV H B C w N P L tops):w.cs.length≤65536∧N.length=w.cs.length:=⟨m.cells.Fu,m.len.2⟩
theorem xE{w:Nw}:∀x,0<aH w x→0≤x∧x<w.cs.length:=fun x h=>by
 obtain⟨a,b,_⟩:=aF h
 exact⟨a,b⟩
set_option maxRecDepth 100000 in
set_option maxHeartbeats 4000000 in
theorem Ej{n:Nat}{H:Hp}{S:Nat→Prop}{w:Nw}(h:kK n H S w)(g:Int):ah Tryz.prog jh [ptr n,i64 g] H fun v H'=>ay (
  (w.len g=0∧v= .tuple [i64 0,.bool false].toArray∧cC (kK n) S H H' w)∨(∃x,w.first g x∧v= .tuple [i64 x,.bool true].toArray∧cC (kK n) S H H' (w.put x (0,0,0)))):=by
 refine be r7 ⟨rfl,?_⟩
 refine v1 ef.eq_1 ?_
 refine(CJ h g).mono ?_
 rintro _ H' ⟨⟨h0,rfl⟩| ⟨x,hx,rfl⟩,e⟩
 ·obtain rfl:=e.symm
  refine vs ?_
  exact .inl ⟨h0,rfl,cC.same h (ai.refl _ _)⟩
 obtain rfl:=e.symm
 refine vs ?_
 obtain⟨B,C,N,P,L,tops,ch,par,aw,rfl,m,l,hS⟩:=h
 obtain⟨hg,OW,rB⟩:=bN.1 hx
 have ZJ:=l.first hx
 have iq:=xE (w:=w) x (by omega)
 have ls:=aq w
 obtain⟨A,hr⟩:∃A,aw g=x::A:=by
  have h1:=l.tp g
  rw[ZJ]at h1
  cases hc:aw g with
  |nil=>rw[hc]at h1;exact absurd h1 (by show¬x= -1;omega)
  |cons c r=>rw[hc]at h1;exact⟨r,by rw[show x=c from h1]⟩
 have dw:g<tops.length:=by
  have:=((m.cells.hm x).2 (by omega)).2
  have:=l.tl
  omega
 refine(Hg m l.f l.pc hr).mono ?_
 rintro _ H1 ⟨N1,P1,L1,A1,m1,f1,p1,e1⟩
 have Jz:aA aw g (x::A1) g=x::A1:=by unfold aA;rw[if_pos rfl]
 obtain⟨D2,o1,_⟩:=m1.own
 obtain⟨zF,hN1⟩:=m1.bounds
 have BF:=f1.rc g
 have kU:=f1.rn g
 rw[Jz]at BF kU
 have bS:∀c∈x::A1,0≤c∧c<w.cs.length:=fun c hc=>f1.rin (g:=g) (by rw[Jz];exact hc)
 have TE:∀c∈x::A1,aH w c=g:=fun c hc=>(f1.rm g c (by rw[Jz];exact hc)).1
 have bm:=bY kU bS
 rw[ams]at bm
 refine v1 (ae o1) ?_
 refine(sw m1.ring BF kU (fun c hc=>by have:=bS c hc;omega) (by omega)).mono ?_
 rintro rv H2 ⟨b2,s2,GN,f2⟩
 obtain⟨ra,rc,rfl⟩:=Sl.shape s2
 have m2:=m1.fresh f2
 have z2:=f2.size
 obtain⟨Nz,o2,_⟩:=m2.own
 have hS1:=m1.slt
 have afd:¬B.S C b2:=fun h=>by have:=hS1 _ h;omega
 obtain⟨_,l2,c2,eR,q2,IL,Q5,Sd⟩:=id s2
 injection eR with eR aji aaM
 subst eR aaM
 rw[ama]at Q5 Sd
 have pJ:(x::A1).length=A1.length+1:=ams
 refine vs ?_
 refine⟨⟨by omega,by omega,by omega,by omega⟩,?_⟩
 refine vs ?_
 obtain⟨o,mu,RP⟩:∃o,(∀ (i:Nat) y,A1[i]? =some y→l2[o+i]? =some (i64 y))∧(Value.slice (if(rc:Int)=1 then some ⟨b2,0,none⟩else some ⟨b2,1,none⟩) A1.length (rc - 1))= .slice (some ⟨b2,o,none⟩) A1.length (rc - 1):=by
  rw[ams]at IL Sd
  by_cases h1:(rc:Int)=1
  ·refine⟨0,fun i y hy=>?_,by rw[if_pos h1]⟩
   have:=(al7.1 hy).1
   omega
  ·refine⟨1,fun i y hy=>?_,by rw[if_neg h1]⟩
   have hi:=(al7.1 hy).1
   have h7:((x::A1).map i64)[1+i]? =some (i64 y):=by rw[Nat.add_comm,amL,amY,amo,hy];rfl
   rw[←Sd,amE,if_pos (by omega)]at h7
   exact h7
 have hv8:∀ (Qe:Decidable ((rc:Int)=1)),Value.slice (@ite (Option Addr) ((rc:Int)=1) Qe (some (⟨b2,0,none⟩:Addr)) (Option.map (fun(x:Addr)=>x.add (Int.toNat 1*1)) (some (⟨b2,0,none⟩:Addr)))) (((A1.length+1:Nat):Int).toNat - Int.toNat 1) ((rc:Int).toNat - Int.toNat 1)=Value.slice (some ⟨b2,o,none⟩) A1.length (rc - 1):=fun Qe=>by
  rw[show((A1.length+1:Nat):Int).toNat - Int.toNat 1=A1.length by simp,show(rc:Int).toNat - Int.toNat 1=rc - 1 by simp,←RP]
  by_cases h1:(rc:Int)=1
  ·rw[if_pos h1,if_pos h1]
  ·rw[if_neg h1,if_neg h1];rfl
 rw[hv8]
 generalize hR8:Value.slice (some ⟨b2,o,none⟩) A1.length (rc - 1)=R8 at*
 have Vx:S B.nb:=(hS _).2 (.inr (.inr (.inr (.inl rfl))))
 have I0:S B.pb:=(hS _).2 (.inr (.inr (.inr (.inr (.inl rfl)))))
 have tb3:S B.tb:=(hS _).2 (.inr (.inr (.inr (.inr (.inr (.inl rfl))))))
 have tb4:S B.tp:=(hS _).2 (.inr (.inr (.inr (.inr (.inr (.inr rfl))))))
 have hC:∀z,C z→S z:=fun z h=>(hS z).2 (.inl h)
 have sJ:ai S H H2:=(e1.mono fun z _ h=>by
  rcases h with h|h|h
  ·exact h▸Vx
  ·exact h▸I0
  ·exact h▸tb3).trans (f2.mono fun _ _ h=>h.elim)
 refine v1 (ae o2) ?_
 refine(sw m2.ring BF kU (fun c hc=>by have:=bS c hc;omega) (by omega)).mono ?_
 rintro rv H3 ⟨b3,s3,T9,f3⟩
 obtain⟨ka,kc,rfl⟩:=Sl.shape s3
 have m3:=m2.fresh f3
 have q3:=f3.own q2 (fun h=>h)
 have z3:=f3.size
 have FA:ai S H H3:=sJ.trans (f3.mono fun _ _ h=>h.elim)
 have ajl:¬B.S C b3:=fun h=>by have:=hS1 _ h;omega
 have Up:∀z,S z→z<H1.size:=fun z hz=>hS1 z ((hS z).1 hz)
 refine vs ?_
 refine bA.intro (fun mm env H'=>∃ (i:Nat) (N' P':List Int),mm=(x::A1).length - i∧i≤(x::A1).length∧bV H' B C w N' P' L1 tops∧dU (aH w) (aV w) (ck N') (aA ch x []) (gg ch par x) (aA aw g ((x::A1).drop i)) ((x::A1).take i).reverse∧
  Sl H' 1 (.slice ka (x::A1).length kc) (x::A1).length ((x::A1).map i64) (some b3)∧ai (fun z=>z=B.nb∨z=B.pb) H3 H'∧
  env=[(0,ptr B.n),(1,i64 g),(6,i64 x),(8,R8),(36,.slice ka (x::A1).length kc),(37,i64 (x::A1).length),(38,i64 i)]) _ ⟨0,N1,P1,rfl,by omega,m3,f1,s3,ai.refl _ _,rfl⟩ ?_
 rintro mm env H4 ⟨i,N4,P4,rfl,hi,m4,f4,s4,e4,rfl⟩
 obtain⟨tv4,o4,_⟩:=m4.own
 refine vs ?_
 refine ak.dec (fun gi=>?_) (fun gi=>?_)<;>refine vs ?_
 ·have oq:i< (x::A1).length:=by omega
  obtain⟨c,Jn⟩:∃c,(x::A1)[i]? =some c:=⟨_,al5 oq⟩
  have Jt:=bS c (amb Jn)
  obtain⟨_,kb,lb,rfl,qb,qc⟩:=Sl.A6 s4 Jn
  have hkb:kb=b3:=by
   obtain⟨_,_,_,hh,_⟩:=s4
   injection hh with hh
   injection hh with hh
   injection hh with hh
  have dr:(x::A1).drop i=c::(x::A1).drop (i+1):=by
   rw[ang oq]
   congr 1
   rw[al5 oq]at Jn
   injection Jn
  have tk:(x::A1).take (i+1)=(x::A1).take i++[c]:=by rw[amG,Jn];rfl
  have W3:=m4.len
  refine⟨⟨by omega,by omega⟩,?_⟩
  refine v6 (ae qb) al6 ama Int.toNat_natCast qc (ae o4) ?_
  refine(qL m4.ring m4.inv (x:=c) (by omega)).mono ?_
  rintro _ H5 ⟨rfl,N5,P5,r5,l5,n5,i5,e5⟩
  have m5:=m4.xC r5 i5 e5 l5
  have f5:=f4.ZP (x:=c) (g:=g) (A:=(x::A1).drop (i+1)) m4.inv (by unfold aA;rw[if_pos rfl];exact dr)
  rw[eI,←n5]at f5
  refine vs ?_
  refine⟨(x::A1).length - (i+1),by omega,i+1,N5,P5,rfl,by omega,m5,?_,s4.ext e5 (fun z hz h=>by
   injection hz with hz
   subst hz
   have h1:=Up _ Vx
   have h2:=Up _ I0
   omega),e4.trans e5,?_⟩
  ·rw[tk,List.reverse_append]
   exact f5
  ·rw[wrap64 (by omega) (by omega)]
   rfl
 obtain rfl:i=(x::A1).length:=by omega
 rw[List.drop_length,amB]at f4
 have Bw:ai S H H4:=FA.trans (e4.mono fun z _ h=>by
  rcases h with h|h
  ·exact h▸Vx
  ·exact h▸I0)
 have z4:=e4.size
 have q4:=e4.own q3 (fun h=>by
  have h1:=Up _ Vx
  have h2:=Up _ I0
  omega)
 obtain⟨cc,lt4,o4',q5,De,zC,OY⟩:=m4.hZ
 refine v1 (ae o4') ?_
 refine⟨⟨by omega,by omega⟩,?_⟩
 refine v3 q5 al6 ama ?_
 refine⟨by omega,?_⟩
 obtain⟨m5,e5⟩:=m4.nV q5 g.toNat (-1)
 refine vs ?_
 have q6:=e5.own q4 (fun h=>by
  have h1:=Up _ tb4
  omega)
 have Vt:=Bw.trans (e5.mono fun z _ h=>h▸tb4)
 have z5:=e5.size
 generalize H4.wr B.tp (lt4.set g.toNat (Value.int .i64 (-1)))=H5 at*
 have t0:Qd w g (ck N4) (aA ch x []) (aA ch x []) (gg ch par x) (aA aw g []) [] A1 [x]:=by
  refine⟨f4.perm ?_,fun d y hd=>by simp at hd,fun y hy=>TE y (by simp[hy]),fun _ _=>rfl,by simp⟩
  show List.Perm _ (A1++[x])
  exact(List.reverse_perm _).trans (am1 (l₁:=[x]) (l₂:=A1))
 have aff:¬B.S C b2:=afd
 subst hR8
 refine(IZ m5 q6 mu aff t0 p1 (by omega)).mono ?_
 rintro tv H6 ⟨N6,P6,L6,YP,NO,sK,fq,m6,t6,p6,s6,K7,e6⟩
 obtain⟨ta,tc,rfl⟩:=Sl.shape s6
 have MT:=t6.tl
 have Rb:ai S H H6:=Vt.trans (e6.mono fun z _ h=>by
  rcases h with h|h|h|h
  ·exact hC z h
  ·exact h▸Vx
  ·exact h▸I0
  ·exact h▸tb3)
 refine vs ?_
 have hf6:=t6.f
 rw[ano]at hf6
 have W4:br (tops.set g.toNat (-1))=kT (br tops) g (([]:List Int).headD (-1)):=eU (by omega) dw (-1)
 refine bA.intro (fun mm env H'=>∃ (i:Nat) (N' P' He l':List Int),mm=sK.length - i∧i≤sK.length∧bV H' B C w N' P' L6 He∧He.length=tops.length∧br He=kT (br tops) g (l'.headD (-1))∧
  dU (aH w) (aV w) (ck N') YP NO (aA aw g l') (ws (sK.drop i)++[x])∧
  (∀c,aH w c=g→NO c= -1→c∉ws (sK.drop i)++[x]→l'.headD (-1)≠ -1∧(c≠l'.headD (-1)→aV w (l'.headD (-1)) c=true))∧
  Sl H' 1 (.slice ta sK.length tc) sK.length (sK.map i64) fq∧ai S H6 H'∧
  env=[(0,ptr B.n),(1,i64 g),(6,i64 x),(57,.slice ta sK.length tc),(58,i64 sK.length),(59,i64 i)]) _ ⟨0,N6,P6,_,[],rfl,by omega,m6,by rw[al8],W4,hf6,fun c h1 h2 h3=>?_,s6,ai.refl _ _,rfl⟩ ?_
 ·exfalso
  rcases hf6.ml c (by omega) h2 with h4|h4
  ·rw[h1]at h4
   unfold aA at h4
   rw[if_pos rfl]at h4
   cases h4
  ·exact h3 h4
 rintro mm env H7 ⟨i,N7,P7,L8,l7,rfl,hi7,m7,hl7,YQ,f7,d7,s7,e7,rfl⟩
 have ajn:sK.length≤65537:=by omega
 refine vs ?_
 refine ak.dec (fun gi=>?_) (fun gi=>?_)<;>refine vs ?_
 ·have oq:i<sK.length:=by omega
  obtain⟨r,hrr⟩:∃r,sK[i]? =some r:=⟨_,al5 oq⟩
  obtain⟨_,kb,lb,rfl,qb,qc⟩:=Sl.A6 s7 hrr
  have hkb:fq=some kb:=by
   cases fq with
   |none=>have:=s7.2.2;injection this with h1;cases h1
   |some b'=>obtain⟨_,_,h1,_⟩:=s7.2;injection h1 with h1;injection h1 with h1;injection h1 with h1;rw[h1]
  have ajo:=K7 kb hkb
  have dr:sK.drop i=r::sK.drop (i+1):=by
   rw[ang oq]
   congr 1
   rw[al5 oq]at hrr
   injection hrr
  refine⟨⟨by omega,by omega⟩,?_⟩
  refine v5 (ae qb) al6 ama Int.toNat_natCast qc ?_
  rw[dr,pE,ec]at f7 d7
  refine ak.dec (fun gr=>?_) (fun gr=>?_)<;>refine vs ?_
  rotate_left
  ·rw[if_neg gr]at f7 d7
   simp only[anm,ano]at f7 d7
   obtain⟨_,Qf⟩:=t6.td i r hrr gr
   have YR:br L8 g=l7.headD (-1):=by rw[YQ];unfold kT;rw[if_pos rfl]
   refine(zL m7 f7 Qf (by omega) (by rw[YR];unfold aA;rw[if_pos rfl])).mono ?_
   rintro _ H8 ⟨N8,P8,aaO,l8,m8,hl8,ht8,f8,KY,HU,Vh,hlT,e8⟩
   rw[eI]at f8
   rw[YR]at hlT
   have e8':ai S H7 H8:=e8.mono fun z _ h=>by
    rcases h with h|h|h|h
    ·exact hC z h
    ·exact h▸Vx
    ·exact h▸I0
    ·exact h▸tb4
   refine vs ?_
   refine⟨sK.length - (i+1),by omega,i+1,N8,P8,aaO,l8,rfl,by omega,m8,by omega,?_,f8,fun c h1 h2 h3=>⟨HU,fun aT=>?_⟩,s7.ext e8' (fun z hz h=>by
    rw[hkb]at hz
    injection hz with hz
    subst hz
    have:=Up _ h
    omega),e7.trans e8',?_⟩
   ·rw[ht8,YQ]
    funext z
    unfold kT
    split<;>rfl
   ·by_cases Yv:c=r
    ·rw[Yv]at aT ⊢
     exact Vh aT
    ·obtain⟨h4,h5⟩:=d7 c h1 h2 (by
      simp only[amf,not_or]
      exact⟨Yv,h3⟩)
     by_cases h6:l7.headD (-1)=l8.headD (-1)
     ·rw[←h6]at aT ⊢
      exact h5 aT
     ·have h7:=hlT h4 h6
      by_cases h8:c=l7.headD (-1)
      ·rw[h8];exact h7
      ·exact ls.tr _ _ _ h7 (h5 h8)
   ·rw[wrap64 (by omega) (by omega)]
    rfl
  ·rw[if_pos gr]at f7 d7
   rw[ano]at f7 d7
   refine⟨sK.length - (i+1),by omega,i+1,N7,P7,L8,l7,rfl,by omega,m7,hl7,YQ,f7,d7,s7,e7,?_⟩
   rw[wrap64 (by omega) (by omega)]
   rfl
 obtain rfl:i=sK.length:=by omega
 rw[List.drop_length]at f7 d7
 have hw0:ws ([]:List Int)++[x]=[x]:=rfl
 rw[hw0]at f7 d7
 obtain⟨tv7,o7,_⟩:=m7.own
 refine v1 (ae o7) ?_
 refine(cj m7.cells x).mono ?_
 have afh:cZ w.cs x:=bK.1 (by omega)
 rintro _ H8 (⟨cr,_,_⟩| ⟨_,rfl,c8,e8⟩)
 ·exact absurd afh cr
 have m8:=m7.aK c8 e8 (by simp[Nw.put])
 refine vs ?_
 have cU:=fun y=>eC (w:=w) iq (0,0,0) y
 have w0:aH (w.put x (0,0,0)) (-1)=0:=rfl
 have w1:aH (w.put x (0,0,0)) x=0:=by rw[cU,if_pos rfl]
 have w2:∀y,y≠x→aH (w.put x (0,0,0)) y=aH w y:=fun y hy=>by rw[cU,if_neg hy]
 have el:∀a b,0<aH w a→0<aH w b→a≠x→b≠x→aV (w.put x (0,0,0)) a b=aV w a b:=fun a b ha hb tM pt=>dG iq _ ha hb tM pt
 have f8:=f7.drop (hm':=aH (w.put x (0,0,0))) (lt':=aV (w.put x (0,0,0))) (by
  rw[t6.c0 x (by simp)]
  unfold aA
  rw[if_pos rfl]) w0 w1 w2 el
 have hrm:∀g2 c,c∈aA aw g l7 g2→aH w c=g2∧c≠x:=fun g2 c hc=>by
  obtain⟨h1,_,_,h4⟩:=f7.rm g2 c hc
  exact⟨h1,fun e=>h4 (by simp[e])⟩
 refine .inr ⟨x,hx,rfl,cC.same ⟨B,C,N7,P7,L6,L8,YP,NO,_,rfl,m8,⟨f8,p6,fun g2=>?_,fun g2 y Ei hy=>?_,by rw[hl7];exact l.tl⟩,hS⟩ ((Rb.trans e7).trans (e8.mono fun z _ h=>hC z h))⟩
 ·rw[YQ]
  unfold kT aA
  split
  ·rfl
  ·exact l.tp g2
 ·by_cases h2:g2=g
  ·have YR:br L8 g2=l7.headD (-1):=by rw[YQ,h2];unfold kT;rw[if_pos rfl]
   rw[YR]
   refine f8.pr.lead (aq _) (fun z hz=>xE z hz) Ei (fun c hc Va=>?_) hy
   have je:c≠x:=fun e=>by rw[e,w1]at hc;omega
   rw[w2 c je]at hc
   obtain⟨h3,h4⟩:=d7 c (by omega) Va (by simp[je])
   refine⟨h3,fun aT=>?_⟩
   obtain⟨h5,h6⟩:=hrm g _ (show l7.headD (-1)∈aA aw g l7 g by unfold aA;rw[if_pos rfl];exact eG h3)
   rw[el _ _ (by omega) (by omega) h6 je]
   exact h4 aT
  ·have YR:br L8 g2=br tops g2:=by rw[YQ];unfold kT;rw[if_neg h2]
   rw[YR]
   have qX:y≠x:=fun e=>by rw[e,w1]at hy;omega
   rw[w2 y qX]at hy
   obtain⟨h3,h4⟩:=l.ls g2 y Ei hy
   refine⟨h3,fun aT=>?_⟩
   have h5:aH w (br tops g2)=g2:=by
    have hm:br tops g2∈aw g2:=by
     have:=l.tp g2
     rw[this]at h3 ⊢
     exact eG h3
    exact(l.f.rm g2 _ hm).1
   rw[el _ _ (by omega) (by omega) (fun e=>by rw[e]at h5;omega) qX]
   exact h4 aT
theorem I1{n:Nat}{H:Hp}{S:Nat→Prop}{w:Nw}(h:kK n H S w):ah Tryz.prog mB [ptr n] H fun v H'=>ay (
  (w.hs.length=65537∧v=i64 0∧cC (kK n) S H H' w)∨(w.hs.length≠65537∧v=i64 w.hs.length∧cC (kK n) S H H' w.make)):=by
 obtain⟨B,C,N,P,L,tops,ch,par,aw,rfl,m,l,hS⟩:=id h
 obtain⟨tv,ho,EM⟩:=m.own
 refine be vM ⟨rfl,?_⟩
 refine v2 fQ.eq_1 (ae ho) ?_
 refine(lX m.cells).mono ?_
 rintro _ H1 (⟨h1,rfl,rfl⟩| ⟨h1,rfl,C',c1,e1,Ba⟩)
 ·refine vs ?_
  exact .inl ⟨h1,rfl,cC.same h (ai.refl _ _)⟩
 have gD:=m.cells.pos
 have hhs:=m.cells.EM
 have MT:=l.tl
 have slt:=m.slt
 have LW:=c1.slt
 obtain⟨n1,n2,n3,n4,n5,n6⟩:=m.out
 obtain⟨⟨d1,d2,d3,d4,d5⟩,⟨d6,d7,d8,d9⟩,⟨d10,d11,d12⟩⟩:=m.qY
 have o1:=e1.own ho n1
 refine vs ?_
 refine ak.cE (amj (by omega)) ?_
 refine v1 (ae o1) ?_
 have s1:=EM.ext e1 (fun b hb=>by injection hb with hb;exact hb▸n6)
 refine RU s1 (-1) (by omega) fun w' H2 b' wx s2 e2=>?_
 have o2:=e2.own o1 d5
 obtain⟨wa,wc,ND⟩:=Sl.shape s2
 subst ND
 refine v1 o2 ?_
 generalize ND:Value.slice wa (tops++[-1]).length wc=w' at*
 have e3:ai (fun z=>z=B.n) H2 (H2.wr B.n [ptr B.c,ptr B.r,.slice (some ⟨B.tb,0,none⟩) L.length L.length,w']):=(ai.refl (fun z=>z=B.n) _).wr (fun _=>rfl) _
 have z1:=e1.size
 have q1:=slt _ (.inr (.inl rfl))
 have q2:=slt _ (.inr (.inr (.inl rfl)))
 have q3:=slt _ (.inr (.inr (.inr (.inl rfl))))
 have q4:=slt _ (.inr (.inr (.inr (.inr (.inl rfl)))))
 have q5:=slt _ (.inr (.inr (.inr (.inr (.inr (.inl rfl))))))
 have q6:=slt _ (.inr (.inr (.inr (.inr (.inr (.inr rfl))))))
 have G1:∀z,C' z→z≠b'∧(z<H.size→C z):=fun z hz=>by
  have h5:=LW z hz
  rcases Ba z hz with h6|h6
  ·refine⟨fun e=>?_,fun _=>h6⟩
   rcases wx with h7|h7
   ·exact n6 (by rw[←h7,←e];exact h6)
   ·omega
  ·exact⟨by omega,fun h=>by omega⟩
 refine .inr ⟨h1,rfl,(FB.mk B.n B.c B.r B.nb B.pb B.tb b').S C',⟨⟨B.n,B.c,B.r,B.nb,B.pb,B.tb,b'⟩,C',N,P,L,tops++[-1],ch,par,aw,rfl,⟨⟨w',aj o2,s2.ext e3 (fun b hb=>by injection hb with hb;omega)⟩,?_,?_,m.inv,?_,m.len,?_,?_⟩,⟨l.f,l.pc,fun g=>by rw[Cu];exact l.tp g,fun g y hg hy=>by rw[Cu];exact l.ls g y hg hy,?_⟩,fun z=>Iff.rfl⟩,?_,fun z hz=>?_⟩
 ·exact(c1.ext e2 (fun x hx e=>by
   rcases Ba x hx with h6|h6
   ·exact n6 (e▸h6)
   ·omega)).ext e3 (fun x hx e=>by
   rcases Ba x hx with h6|h6
   ·exact n1 (e▸h6)
   ·omega)
 ·exact((m.ring.ext e1 n2 n3 n4).ext e2 (Ne.symm d10) (Ne.symm d11) (Ne.symm d12)).ext e3 (Ne.symm d1) (Ne.symm d2) (Ne.symm d3)
 ·exact e3.own (e2.own (e1.own m.places n5) d9) (Ne.symm d4)
 ·refine⟨⟨d1,d2,d3,d4,?_⟩,⟨d6,d7,d8,?_⟩,⟨?_,?_,?_⟩⟩<;>simp only<;>omega
 ·exact⟨fun h=>n1 ((G1 _ h).2 q1),fun h=>n2 ((G1 _ h).2 q2),fun h=>n3 ((G1 _ h).2 q3),fun h=>n4 ((G1 _ h).2 q4),fun h=>n5 ((G1 _ h).2 q5),fun h=>(G1 _ h).1 rfl⟩
 ·simp[Nw.make,MT]
 ·exact((e1.mono fun z _ h=>(hS z).2 (.inl h)).trans (e2.mono fun z _ h=>(hS z).2 (.inr (.inr (.inr (.inr (.inr (.inr h)))))))).trans (e3.mono fun z _ h=>(hS z).2 (.inr (.inl h)))
 ·rcases hz with hz|hz|hz|hz|hz|hz|hz
  ·rcases Ba z hz with h6|h6
   ·exact .inl ((hS z).2 (.inl h6))
   ·exact .inr h6
  ·exact .inl ((hS _).2 (.inr (.inl hz)))
  ·exact .inl ((hS _).2 (.inr (.inr (.inl hz))))
  ·exact .inl ((hS _).2 (.inr (.inr (.inr (.inl hz)))))
  ·exact .inl ((hS _).2 (.inr (.inr (.inr (.inr (.inl hz))))))
  ·exact .inl ((hS _).2 (.inr (.inr (.inr (.inr (.inr (.inl hz)))))))
  ·rcases wx with h7|h7
   ·exact .inl ((hS _).2 (.inr (.inr (.inr (.inr (.inr (.inr (hz.trans h7))))))))
   ·exact .inr (by have hz:z=b':=hz;omega)
def wk(n i:Nat):List Int:=(List.range i).map (fun(k:Nat)=>(k:Int))++List.replicate (n - i) 0
theorem xZ{n i:Nat}(h:i≤n):(wk n i).length=n:=by unfold wk;simp;omega
theorem Uq{n i:Nat}(h:i<n):(wk n i).set i (i:Int)=wk n (i+1):=by
 unfold wk
 rw[an6 _ _ (by simp),amu,List.length_range,am3,show n - i=(n - (i+1))+1 by omega,amR,anq,aof,amU]
 simp
theorem Hi(n:Nat)(x:Int):ck (wk n n) x=x:=by
 unfold ck
 split
 ·rename_i h
  rw[xZ (ami _)]at h
  unfold wk
  rw[am3,aoe,amW,al9,amo,am8 (by omega)]
  simp
  omega
 ·rfl
set_option maxHeartbeats 1000000 in
theorem I2(H:Hp){n:Int}(hn:0≤n∧n≤65536):ah Tryz.prog M6 [i64 n] H fun v H'=>ay (∃r nb pb N P,v= .tuple [ptr r,i64 0].toArray∧ii H' r nb pb N P∧N.length=n.toNat∧(∀x,ck N x=x)∧BE (ck N) (ck P)∧ax H H'∧H.size≤r∧H.size≤nb∧H.size≤pb):=by
 refine be Nb ⟨rfl,?_⟩
 refine v1 Gs.eq_1 ?_
 refine ak.dec (fun g=>absurd g (by omega)) (fun _=>?_)
 refine vs ?_
 refine ak.dec (fun g=>absurd g (by omega)) (fun _=>?_)
 refine vs ?_
 have hz:(List.replicate n.toNat (0:Int))=wk n.toNat 0:=by unfold wk;simp
 refine qZ.intro (fun H'=>True) trivial ?_
 refine vs ?_
 refine IQ.intro ?A ?B
 case' A=>
  refine vs ?_
  refine⟨⟨by omega,by omega,by omega,by omega⟩,?_⟩
  refine vs ?_
  refine⟨⟨by omega,by omega,by omega,by omega⟩,?_⟩
  refine vs ?_
  rw[xz,hz]
  obtain⟨nb,E1⟩:∃nb,nb=H.size:=⟨_,rfl⟩
  obtain⟨pb,PU⟩:∃pb,pb=H.size+1:=⟨_,rfl⟩
  have f0:ax H (((H.new 3 ((wk n.toNat 0).map i64)).new 3 ((wk n.toNat 0).map i64)).new 317 [.slice (some ⟨H.size,0,none⟩) n.toNat n.toNat,.slice (some ⟨H.size+1,0,none⟩) n.toNat n.toNat]):=(((ai.refl _ _).new _ _).new _ _).new _ _
  have h0:ii (((H.new 3 ((wk n.toNat 0).map i64)).new 3 ((wk n.toNat 0).map i64)).new 317 [.slice (some ⟨H.size,0,none⟩) n.toNat n.toNat,.slice (some ⟨H.size+1,0,none⟩) n.toNat n.toNat]) (H.size+1+1) nb pb (wk n.toNat 0) (wk n.toNat 0):=by
   subst E1 PU
   refine⟨?_,?_,?_,rfl,by omega,by omega,by omega⟩
   ·rw[xZ (anS _)];exact bD (by simp only[au])
   ·rw[cw (by simp only[au];omega),cw (by simp only[au];omega),aG]
   ·rw[cw (by simp only[au];omega)];exact bD (by simp only[au])
  generalize ((H.new 3 ((wk n.toNat 0).map i64)).new 3 ((wk n.toNat 0).map i64)).new 317 [.slice (some ⟨H.size,0,none⟩) n.toNat n.toNat,.slice (some ⟨H.size+1,0,none⟩) n.toNat n.toNat]=H0 at*
  have OX:H.size≤nb∧H.size≤pb:=⟨by omega,by omega⟩
 case' B=>
  refine vs ?_
  refine⟨⟨by omega,by omega,by omega,by omega⟩,?_⟩
  refine vs ?_
  refine⟨⟨by omega,by omega,by omega,by omega⟩,?_⟩
  refine vs ?_
  rw[xz,hz]
  obtain⟨nb,E1⟩:∃nb,nb=H.size+1:=⟨_,rfl⟩
  obtain⟨pb,PU⟩:∃pb,pb=H.size:=⟨_,rfl⟩
  have f0:ax H (((H.new 3 ((wk n.toNat 0).map i64)).new 3 ((wk n.toNat 0).map i64)).new 317 [.slice (some ⟨H.size+1,0,none⟩) n.toNat n.toNat,.slice (some ⟨H.size,0,none⟩) n.toNat n.toNat]):=(((ai.refl _ _).new _ _).new _ _).new _ _
  have h0:ii (((H.new 3 ((wk n.toNat 0).map i64)).new 3 ((wk n.toNat 0).map i64)).new 317 [.slice (some ⟨H.size+1,0,none⟩) n.toNat n.toNat,.slice (some ⟨H.size,0,none⟩) n.toNat n.toNat]) (H.size+1+1) nb pb (wk n.toNat 0) (wk n.toNat 0):=by
   subst E1 PU
   refine⟨?_,?_,?_,rfl,by omega,by omega,by omega⟩
   ·rw[xZ (anS _)];exact bD (by simp only[au])
   ·rw[cw (by simp only[au];omega)];exact bD (by simp only[au])
   ·rw[cw (by simp only[au];omega),cw (by simp only[au];omega),aG]
  generalize ((H.new 3 ((wk n.toNat 0).map i64)).new 3 ((wk n.toNat 0).map i64)).new 317 [.slice (some ⟨H.size+1,0,none⟩) n.toNat n.toNat,.slice (some ⟨H.size,0,none⟩) n.toNat n.toNat]=H0 at*
  have OX:H.size≤nb∧H.size≤pb:=⟨by omega,by omega⟩
 all_goals
  refine bA.intro (fun m env H'=>∃j:Nat,m=n.toNat - j∧j≤n.toNat∧ai (fun z=>z=nb∨z=pb) H0 H'∧ii H' (H.size+1+1) nb pb (wk n.toNat j) (wk n.toNat j)∧
   env=[(4,ptr (H.size+1+1)),(18,i64 n),(19,i64 j)]) n.toNat ⟨0,by omega,by omega,ai.refl _ _,h0,rfl⟩ ?_
  rintro m env H1 ⟨j,rfl,hj,e1,h1,rfl⟩
  have vw:=xZ hj
  obtain⟨d1,d2,d3⟩:=h1.ne
  refine vs ?_
  refine ak.dec (fun aR=>?_) (fun aR=>?_)<;>refine vs ?_
  ·refine v1 (ae h1.own) ?_
   refine⟨⟨by omega,by omega⟩,?_⟩
   refine v4 h1.O4 al6 ama Int.toNat_natCast ?_
   refine⟨by rw[amu];omega,?_⟩
   refine vs ?_
   have e2:ai (fun z=>z=nb) H1 (H1.wr nb (((wk n.toNat j).map i64).set j (i64 j))):=(ai.refl (fun z=>z=nb) _).wr (fun _=>rfl) _
   have q2:(H1.wr nb (((wk n.toNat j).map i64).set j (i64 j))).own nb=some (((wk n.toNat j).map i64).set j (i64 j)):=aj h1.O4
   generalize H1.wr nb (((wk n.toNat j).map i64).set j (i64 j))=H2 at*
   have p2:=e2.own h1.Vw (Ne.symm d3)
   refine⟨⟨by omega,by omega⟩,?_⟩
   refine v5 p2 h1.Vw al6 ama Int.toNat_natCast ?_
   refine⟨by rw[amu];omega,?_⟩
   refine vs ?_
   have e3:ai (fun z=>z=pb) H2 (H2.wr pb (((wk n.toNat j).map i64).set j (i64 j))):=(ai.refl (fun z=>z=pb) _).wr (fun _=>rfl) _
   have q3:(H2.wr pb (((wk n.toNat j).map i64).set j (i64 j))).own pb=some (((wk n.toNat j).map i64).set j (i64 j)):=aj p2
   have LP:((wk n.toNat j).map i64).set j (i64 j)=(wk n.toNat (j+1)).map i64:=by rw[←Uq (by omega),amO]
   rw[wrap64 (n:=(j:Int)+1) (by omega) (by omega)]
   refine⟨n.toNat - (j+1),by omega,j+1,rfl,by omega,(e1.trans (e2.mono fun z _ h=>.inl h)).trans (e3.mono fun z _ h=>.inr h),⟨?_,?_,?_,rfl,h1.ne⟩,rfl⟩
   ·have ho:=e3.own (e2.own h1.own d1) d2
    rw[vw]at ho
    rw[xZ (by omega)]
    exact ho
   ·rw[←LP];exact e3.own q2 d3
   ·rw[←LP];exact q3
  ·obtain rfl:j=n.toNat:=by omega
   exact⟨_,nb,pb,_,_,rfl,h1,xZ (ami _),Hi _,⟨fun x=>by rw[Hi,Hi],fun x=>by rw[Hi,Hi]⟩,f0.then e1 (fun z hz=>by rcases hz with h|h<;>omega),by omega,OX.1,OX.2⟩
set_option maxRecDepth 100000 in
set_option maxHeartbeats 2000000 in
theorem CK{n:Nat}{H:Hp}{S:Nat→Prop}{w:Nw}(h:kK n H S w)(x k s:Int):ah Tryz.prog iw [ptr n,i64 x,vV k s] H fun v H'=>ay (
  (¬w.dc x k s∧v= .bool false∧cC (kK n) S H H' w)∨(w.dc x k s∧v= .bool true∧∃y,w.cs[x.toNat]? =some y∧cC (kK n) S H H' (w.put x (y.1,k,s)))):=by
 obtain⟨B,C,N,P,L,tops,ch,par,aw,rfl,m,l,hS⟩:=h
 have hC:∀z,C z→S z:=fun z h=>(hS z).2 (.inl h)
 have Vx:S B.nb:=(hS _).2 (.inr (.inr (.inr (.inl rfl))))
 have I0:S B.pb:=(hS _).2 (.inr (.inr (.inr (.inr (.inl rfl)))))
 have tb3:S B.tb:=(hS _).2 (.inr (.inr (.inr (.inr (.inr (.inl rfl))))))
 have tb4:S B.tp:=(hS _).2 (.inr (.inr (.inr (.inr (.inr (.inr rfl))))))
 refine be qW ⟨rfl,?_⟩
 refine v1 dR.eq_1 ?_
 have f0:ax H (H.new 224 [i64 k,u64 s]):=(ai.refl _ _).new _ _
 have b0:(H.new 224 [i64 k,u64 s]).own H.size=some [i64 k,u64 s]:=aG _ _ _
 have m0:=m.fresh f0
 generalize H.new 224 [i64 k,u64 s]=H0 at*
 have ff:ai S H H0:=f0.mono fun _ _ h=>h.elim
 obtain⟨tv,Ki,_⟩:=m0.own
 refine v2 (ae Ki) (ae b0) ?_
 refine(jm m0.cells x k s).mono ?_
 rintro _ H1 (⟨cr,rfl,c1,e1⟩| ⟨bS,rfl,y,hy,gv,c1,e1⟩)
 ·refine vs ?_
  exact .inl ⟨cr,rfl,cC.same ⟨B,C,N,P,L,tops,ch,par,aw,rfl,m0.ext e1 (fun _ _ h=>h),l,hS⟩ (ff.trans (e1.mono fun _ _ h=>h.elim))⟩
 have rB:(w.put x (y.1,k,s)).cs.length=w.cs.length:=by simp[Nw.put]
 have m1:=m0.aK c1 e1 rB
 have CC:w.dc x k s:=⟨bS,fun z hz=>by rw[hy]at hz;injection hz with hz;rw[←hz];exact gv⟩
 have hx:0≤x∧x<w.cs.length:=⟨bS.1,by have:=(al7.1 hy).1;have:=bS.1;omega⟩
 have Q3:aH w x=y.1:=ng bS.1 hy
 have dZ:=bK.2 bS
 have hw:aH (w.put x (y.1,k,s))=aH w:=by
  funext z
  rw[eC hx]
  split
  ·rename_i e;rw[e,Q3]
  ·rfl
 have FJ:cZ (w.put x (y.1,k,s)).cs x:=bK.1 (by rw[hw];exact dZ)
 have el:∀a b,0<aH w a→0<aH w b→a≠x→b≠x→aV (w.put x (y.1,k,s)) a b=aV w a b:=fun a b ha hb tM pt=>dG hx _ ha hb tM pt
 have ex:∀b,0<aH w b→b≠x→aV w x b=true→aV (w.put x (y.1,k,s)) x b=true:=fun b hb pt h=>Ct bS hy gv hb pt h
 have ls:=aq w
 have TF:=aq (w.put x (y.1,k,s))
 obtain⟨g,hg⟩:∃g,g=aH w x:=⟨_,rfl⟩
 have dw:g<tops.length:=by
  have:=((m.cells.hm x).2 dZ).2
  have:=l.tl
  omega
 have Ek:∀z,aH w z=g→br tops g≠ -1∧(z≠br tops g→aV w (br tops g) z=true):=fun z hz=>l.ls g z (by omega) hz
 obtain⟨Hj,HV⟩:=Ek x hg.symm
 obtain⟨T,hT⟩:∃T,T=br tops g:=⟨_,rfl⟩
 rw[←hT]at Hj HV Ek
 have W5:=dZ
 have hhl:(w.put x (y.1,k,s)).hs.length=w.hs.length:=by simp[Nw.put]
 obtain⟨A,hr⟩:∃A,aw g=T::A:=by
  have h1:=l.tp g
  rw[←hT]at h1
  cases hc:aw g with
  |nil=>rw[hc]at h1;exact absurd h1 Hj
  |cons c r=>rw[hc]at h1;exact⟨r,by rw[show T=c from h1]⟩
 have hTg:=(l.f.rm g T (by rw[hr];simp)).1
 have hTp:=(l.f.rm g T (by rw[hr];simp)).2.1
 have hT0:0<aH w T:=by omega
 generalize ND:w.put x (y.1,k,s)=w' at*
 obtain⟨D2,o1,_⟩:=m1.own
 refine v1 (ae o1) ?_
 refine(dt m1.cells x).mono ?_
 rintro _ H2 (⟨cr,_,_⟩| ⟨_,rfl,c2,e2⟩)
 ·exact absurd FJ cr
 have m2:=m1.aK c2 e2 rfl
 have sJ:ai S H H2:=(ff.trans (e1.mono fun z _ h=>hC z h)).trans (e2.mono fun z _ h=>hC z h)
 rw[hw,←hg]
 obtain⟨Nz,o2,_⟩:=m2.own
 have wh:=m2.len
 have xi:0≤x∧x<w'.cs.length:=by rw[rB];exact hx
 obtain⟨a0,a1,a2,a3,a4⟩:=m2.rd xi
 obtain⟨ux,_,_⟩:=l.pc x
 rw[ux]at a1
 refine v1 (ae o2) ?_
 refine⟨⟨by omega,by omega⟩,?_⟩
 refine v4 (ae m2.places) al6 Nat.add_zero a1 ?_
 have e0:aA aw g (T::A)=aw:=by
  funext z
  unfold aA
  split
  ·rename_i e;rw[e,hr]
  ·rfl
 have Q1:(par x= -1∨aV w' (par x) x=true)→dU (aH w') (aV w') (ck N) ch par (aA aw g (T::A)) []:=fun KY=>by
  rw[e0,hw]
  refine l.f.other fun z c hc h1 h2 h3=>?_
  by_cases hz:z=x
  ·rw[hz]at h3 hc ⊢
   exact ex c h2 (fun e=>by rw[e,ls.xS]at h3;cases h3) h3
  ·by_cases je:c=x
   ·rw[je]at hc ⊢
    obtain⟨d1,d2,_⟩:=l.f.pr.dn z x hc
    rcases KY with h|h
    ·rw[h]at d1;exact absurd d1.symm d2
    ·rw[←d1];exact h
   ·rw[el _ _ (by omega) h2 hz je];exact h3
 refine ak.dec (fun h0=>?A) (fun h0=>?B)
 case' A=>
  refine vs ?_
  obtain⟨H3,eH⟩:∃H3,H3=H2:=⟨_,rfl⟩
  rw[←eH]at m2 sJ ⊢
  obtain⟨N3,P3,L3,MV,sz,A3,m3,f3,p3,e3⟩:∃N' P' L' dT bH A',bV H3 B C w' N' P' L' tops∧dU (aH w') (aV w') (ck N') dT bH (aA aw g (T::A')) []∧K6 (eX L') dT bH∧ai S H H3:=⟨N,P,L,ch,par,A,m2,Q1 (.inl h0),l.pc,sJ⟩
 case' B=>
  have hpc:=l.f.pr.up x _ rfl h0
  obtain⟨_,_,hph,HX,wu⟩:=l.f.pr.dn _ _ hpc
  have dZ:par x≠x:=fun e=>by rw[e,ls.xS]at wu;cases wu
  refine v1 (ae o2) ?_
  refine(cJ m2.cells x (par x)).mono ?_
  rintro _ H4 ⟨rfl,c4,e4⟩
  have m4:=m2.aK c4 e4 rfl
  have Bw:=sJ.trans (e4.mono fun z _ h=>hC z h)
  rw[jn (w:=w') (a:=x) (b:=par x) (by rw[hw];exact W5) (by rw[hw];omega)]
  cases aR:aV w' x (par x)
  case' false=>
   refine vs ?_
   obtain⟨H3,eH⟩:∃H3,H3=H4:=⟨_,rfl⟩
   rw[←eH]at m4 Bw ⊢
   obtain⟨N3,P3,L3,MV,sz,A3,m3,f3,p3,e3⟩:∃N' P' L' dT bH A',bV H3 B C w' N' P' L' tops∧dU (aH w') (aV w') (ck N') dT bH (aA aw g (T::A')) []∧K6 (eX L') dT bH∧ai S H H3:=⟨N,P,L,ch,par,A,m4,Q1 (.inr ((TF.OI (par x) x dZ).resolve_right (by rw[aR];simp))),l.pc,Bw⟩
  case' true=>
   refine vs ?_
   refine(FL m4 ls (x:=x) (g:=g) (t:=T) (A:=A) (by rw[hw];exact l.f) l.pc (by rw[hw];exact hg.symm) (by omega) dw hr hT.symm).mono ?_
   rintro _ H3 ⟨N3,P3,L3,MV,sz,A3,m3,f3',p3,u3,_,e5⟩
   have e3:=Bw.trans (e5.mono fun z _ h=>by
    rcases h with h|h|h
    ·exact h▸Vx
    ·exact h▸I0
    ·exact h▸tb3)
   have f3:dU (aH w') (aV w') (ck N3) MV sz (aA aw g (T::A3)) []:=by
    refine f3'.other fun z c hc h1 h2 h3=>?_
    rw[hw]at h1 h2
    have je:c≠x:=fun e=>by
     obtain⟨d1,d2,_⟩:=f3'.pr.dn z c hc
     rw[e,u3]at d1
     exact d2 d1.symm
    by_cases hz:z=x
    ·rw[hz]at h3 ⊢
     exact ex c h2 je h3
    ·rw[el _ _ (by omega) h2 hz je];exact h3
   refine vs ?_
 all_goals
  have QY:aA aw g (T::A3) g=T::A3:=by unfold aA;rw[if_pos rfl]
  obtain⟨cc,lt3,o3,q3,De,zC,OY⟩:=m3.hZ
  have q4:=m3.fB q3 (dW (tops:=tops) (h:=g) (by omega) dw)
  rw[←hT]at q4
  refine v1 (ae o3) ?_
  refine⟨⟨by omega,by omega⟩,?_⟩
  refine v4 (ae q3) al6 ama q4 ?_
  have D6:∀g2 z,g2≠g→0<g2→aH w' z=g2→br tops g2≠ -1∧(z≠br tops g2→aV w' (br tops g2) z=true):=fun g2 z aT Ei hz=>by
   rw[hw]at hz
   obtain⟨h1,h2⟩:=l.ls g2 z Ei hz
   refine⟨h1,fun Ur=>?_⟩
   have h5:aH w (br tops g2)=g2:=by
    have hm:br tops g2∈aw g2:=by
     have:=l.tp g2
     rw[this]at h1 ⊢
     exact eG h1
    exact(l.f.rm g2 _ hm).1
   rw[el _ _ (by omega) (by omega) (fun e=>by rw[e]at h5;omega) (fun e=>by rw[e]at hz;omega)]
   exact h2 Ur
  have htp:∀g2,br tops g2=(aA aw g (T::A3) g2).headD (-1):=fun g2=>by
   unfold aA
   split
   ·rename_i e;rw[e,←hT];rfl
   ·exact l.tp g2
  refine ak.dec (fun h5=>?_) (fun h5=>?_)
  ·refine vs ?_
   refine .inr ⟨CC,rfl,y,hy,?_⟩
   rw[ND]
   refine cC.same ⟨B,C,N3,P3,L3,tops,MV,sz,_,rfl,m3,⟨f3,p3,htp,fun g2 z Ei hz=>?_,by rw[l.tl,hhl]⟩,hS⟩ e3
   by_cases h6:g2=g
   ·rw[h6,←hT]
    refine⟨Hj,fun Ur=>?_⟩
    rw[hw,h6]at hz
    have h7:=(Ek z hz).2 Ur
    rw[h5]at h7 Ur ⊢
    exact ex z (by omega) Ur h7
   ·exact D6 g2 z h6 Ei hz
  refine v1 (ae o3) ?_
  refine⟨⟨by omega,by omega⟩,?_⟩
  refine v4 (ae q3) al6 ama q4 ?_
  refine(cJ m3.cells x T).mono ?_
  rintro _ H6 ⟨rfl,c6,e6⟩
  have m6:=m3.aK c6 e6 rfl
  have Rb:=e3.trans (e6.mono fun z _ h=>hC z h)
  rw[jn (w:=w') (a:=x) (b:=T) (by rw[hw];exact W5) (by rw[hw];omega)]
  cases Eh:aV w' x T
  ·refine vs ?_
   refine .inr ⟨CC,rfl,y,hy,?_⟩
   rw[ND]
   refine cC.same ⟨B,C,N3,P3,L3,tops,MV,sz,_,rfl,m6,⟨f3,p3,htp,fun g2 z Ei hz=>?_,by rw[l.tl,hhl]⟩,hS⟩ Rb
   by_cases h6:g2=g
   ·rw[h6,←hT]
    refine⟨Hj,fun Ur=>?_⟩
    rw[hw,h6]at hz
    by_cases h8:z=x
    ·rw[h8];exact(TF.OI T x h5).resolve_right (by rw[Eh];simp)
    ·rw[el _ _ (by omega) (by omega) h5 h8]
     exact(Ek z hz).2 Ur
   ·exact D6 g2 z h6 Ei hz
  ·obtain⟨cc,lt6,o6,q6,De,zC,OY⟩:=m6.hZ
   refine v1 (ae o6) ?_
   refine⟨⟨by omega,by omega⟩,?_⟩
   refine v3 q6 al6 ama ?_
   refine⟨by omega,?_⟩
   obtain⟨m7,e7⟩:=m6.nV q6 g.toNat x
   refine vs ?_
   have K8:sz x= -1:=by
    apply amr
    intro hp
    obtain⟨_,d2,d3,d4,d5⟩:=f3.pr.dn _ _ (f3.pr.up x _ rfl hp)
    rw[hw]at d3 d4
    by_cases e:sz x=T
    ·rw[e]at d5
     rw[TF.asym d5]at Eh;cases Eh
    ·have h9:=(Ek (sz x) (by omega)).2 e
     have afi:sz x≠x:=fun e=>by rw[e,TF.xS]at d5;cases d5
     rw[←el _ _ (by omega) (by omega) h5 afi]at h9
     rw[TF.asym (TF.tr _ _ _ h9 d5)]at Eh;cases Eh
   have Pt:x∈aA aw g (T::A3) g:=by
    rcases f3.ml x (by rw[hw];exact W5) K8 with h|h
    ·rw[hw,←hg]at h;exact h
    ·cases h
   obtain⟨A7,_,f7⟩:=f3.from_ Pt
   rw[eI]at f7
   refine .inr ⟨CC,rfl,y,hy,?_⟩
   rw[ND]
   refine cC.same ⟨B,C,N3,P3,L3,_,MV,sz,_,rfl,m7,⟨f7,p3,fun g2=>?_,fun g2 z Ei hz=>?_,by rw[al8,l.tl,hhl]⟩,hS⟩ (Rb.trans (e7.mono fun z _ h=>h▸tb4))
   ·rw[eU (by omega) dw]
    unfold kT aA
    split
    ·rfl
    ·exact l.tp g2
   ·rw[eU (by omega) dw]
    unfold kT
    by_cases h6:g2=g
    ·rw[if_pos h6]
     refine⟨by omega,fun Ur=>?_⟩
     rw[hw,h6]at hz
     by_cases h8:z=T
     ·rw[h8];exact Eh
     ·have h9:=(Ek z hz).2 h8
      rw[←el _ _ (by omega) (by omega) h5 Ur]at h9
      exact TF.tr _ _ _ Eh h9
    ·rw[if_neg h6]
     exact D6 g2 z h6 Ei hz
theorem Us(k:Nat):cR [Value.int .i64 0,Value.int .i64 0,Value.int .i64 0,Value.bool false] k=aM (List.replicate k ⟨0,0,0,false⟩):=by
 unfold cR aM
 induction k with
 |zero=>rfl
 |succ k ih=>rw[amR,amR,am7,anO,ih];rfl
set_option maxRecDepth 100000 in
set_option maxHeartbeats 1000000 in
theorem CL(cap:Int)(H:Hp):ah Tryz.prog E5 [i64 cap] H fun v H'=>ay (
  ax H H'∧((¬ (0≤cap∧cap≤65536)∧v= .tuple [.pointer none,i64 31].toArray)∨
   ((0≤cap∧cap≤65536)∧∃n S,v= .tuple [ptr n,i64 0].toArray∧kK n H' S (CA cap)∧∀x,S x→H.size≤x))):=by
 refine be Fc ⟨rfl,?_⟩
 refine v1 vd.eq_1 ?_
 refine(nT cap H).mono ?_
 rintro _ H1 ⟨f1,⟨hb,rfl⟩| ⟨hb,c,C,rfl,c1,hC⟩⟩
 ·refine vs ?_
  exact⟨f1,.inl ⟨hb,rfl⟩⟩
 refine vs ?_
 refine(I2 H1 hb).mono ?_
 rintro _ H2 ⟨r,nb,pb,N,P,rfl,r2,hN,YS,hinv,f2,hr,E1,PU⟩
 have c2:=c1.fresh f2
 refine v1 amp ?_
 refine⟨⟨by omega,by omega,by omega,by omega⟩,?_⟩
 refine vs ?_
 rw[Us]
 have zF:=c1.slt
 have z1:=f1.size
 have z2:=f2.size
 have hrs:r<H2.size∧nb<H2.size∧pb<H2.size:=⟨aO r2.own,aO r2.O4,aO r2.Vw⟩
 obtain⟨rn1,rn2,rn3⟩:=r2.ne
 have f3:ax H2 (((H2.new 273 (aM (List.replicate cap.toNat ⟨0,0,0,false⟩))).new 3 [Value.int .i64 (-1)]).new 271 [ptr c,ptr r,.slice (some ⟨H2.size,0,none⟩) cap.toNat cap.toNat,.slice (some ⟨H2.size+1,0,none⟩) 1 1]):=(((ai.refl _ _).new _ _).new _ _).new _ _
 have e1:ai (fun _=>False) (H2.new 273 (aM (List.replicate cap.toNat ⟨0,0,0,false⟩))) (((H2.new 273 (aM (List.replicate cap.toNat ⟨0,0,0,false⟩))).new 3 [Value.int .i64 (-1)]).new 271 [ptr c,ptr r,.slice (some ⟨H2.size,0,none⟩) cap.toNat cap.toNat,.slice (some ⟨H2.size+1,0,none⟩) 1 1]):=((ai.refl _ _).new _ _).new _ _
 have e2:ai (fun _=>False) ((H2.new 273 (aM (List.replicate cap.toNat ⟨0,0,0,false⟩))).new 3 [Value.int .i64 (-1)]) (((H2.new 273 (aM (List.replicate cap.toNat ⟨0,0,0,false⟩))).new 3 [Value.int .i64 (-1)]).new 271 [ptr c,ptr r,.slice (some ⟨H2.size,0,none⟩) cap.toNat cap.toNat,.slice (some ⟨H2.size+1,0,none⟩) 1 1]):=(ai.refl _ _).new _ _
 obtain⟨B,hB⟩:∃B:FB,B=⟨H2.size+1+1,c,r,nb,pb,H2.size,H2.size+1⟩:=⟨_,rfl⟩
 have m0:bV (((H2.new 273 (aM (List.replicate cap.toNat ⟨0,0,0,false⟩))).new 3 [Value.int .i64 (-1)]).new 271 [ptr c,ptr r,.slice (some ⟨H2.size,0,none⟩) cap.toNat cap.toNat,.slice (some ⟨H2.size+1,0,none⟩) 1 1]) B C (CA cap) N P (List.replicate cap.toNat ⟨0,0,0,false⟩) [-1]:=by
  subst hB
  refine⟨⟨.slice (some ⟨H2.size+1,0,none⟩) 1 1,?_,?_⟩,c2.fresh f3,r2.ext f3 (fun h=>h) (fun h=>h) (fun h=>h),hinv,?_,?_,?_,?_⟩
  ·rw[amV]
   exact bD (by simp only[au])
  ·exact(Sl.dE (size:=1) (n:=1) (xs:=[i64 (-1)]) rfl (by simp only[au])).ext e2 (fun _ _ h=>h)
  ·exact e1.own (aG _ _ _) (fun h=>h)
  ·simp[CA,hN]
  ·refine⟨⟨?_,?_,?_,?_,?_⟩,⟨?_,?_,?_,?_⟩,⟨?_,?_,?_⟩⟩<;>simp only<;>omega
  ·refine⟨fun h=>?_,fun h=>?_,fun h=>?_,fun h=>?_,fun h=>?_,fun h=>?_⟩<;>(have h2:=zF _ h;first|omega| (simp only at h2;omega))
 have FG:B.n=H2.size+1+1:=by rw[hB]
 have hBs:∀z,B.S C z→H1.size≤z∨C z:=fun z hz=>by
  rcases hz with hz|rfl|rfl|rfl|rfl|rfl|rfl
  ·exact .inr hz
  all_goals rw[hB];left;first|omega| (simp only;omega)
 have hBt:B.tb=H2.size:=by rw[hB]
 have ft:=(f1.trans f2).trans f3
 generalize ((H2.new 273 (aM (List.replicate cap.toNat ⟨0,0,0,false⟩))).new 3 [Value.int .i64 (-1)]).new 271 [ptr c,ptr r,.slice (some ⟨H2.size,0,none⟩) cap.toNat cap.toNat,.slice (some ⟨H2.size+1,0,none⟩) 1 1]=H3 at*
 have rq:(CA cap).cs.length=cap.toNat:=by simp[CA]
 rw[←FG]
 refine bA.intro (fun m env H'=>∃ (j:Nat) (L':List Pc),m=cap.toNat - j∧j≤cap.toNat∧ai (fun z=>z=B.tb) H3 H'∧bV H' B C (CA cap) N P L' [-1]∧(∀z:Int,0≤z→z<j→eX L' z=q9)∧
  env=[(5,i64 0),(7,ptr B.n),(33,i64 (cap.toNat:Nat)),(34,i64 j)]) cap.toNat ⟨0,_,by omega,by omega,ai.refl _ _,m0,fun z h0 h1=>by omega,rfl⟩ ?_
 rintro m env H4 ⟨j,L4,rfl,hj,e4,m4,g4,rfl⟩
 obtain⟨cc,lt4,o4,_⟩:=m4.hZ
 have W3:=m4.len
 refine vs ?_
 refine ak.dec (fun aR=>?_) (fun aR=>?_)<;>refine vs ?_
 ·refine qZ.intro (fun H'=>H'.own B.n=some [ptr B.c,ptr B.r,.slice (some ⟨B.tb,0,none⟩) L4.length L4.length,.slice (some ⟨B.tp,0,none⟩) [(-1:Int)].length cc]) o4 ?_
  refine vs ?_
  refine qF.intro (.slice (some ⟨B.tb,0,none⟩) L4.length L4.length) (fun H' hI=>by refine v1 (ae hI) ?_;trivial) ?_
  refine vs ?_
  refine(xD H4).mono ?_
  rintro _ H5 ⟨rfl,e5⟩
  have o5:=e5.own o4 (fun h=>h)
  refine And.intro o5 ?_
  have m5:=m4.fresh e5
  refine vs ?_
  refine⟨⟨by omega,by omega⟩,?_⟩
  obtain⟨b0,_⟩:=m5.rd (x:=(j:Int)) (by omega)
  obtain⟨L6,k6,m6,e6⟩:=m5.NN (x:=(j:Int)) (by omega) q9
  refine v2 m5.places al6 ?_
  refine⟨by omega,?_⟩
  rw[show bq (aM L4) ((j:Int).toNat*4) (aJ (Value.agg #[i64 (-1),i64 (-1),i64 0,Value.bool false]))=bq (aM L4) ((j:Int).toNat*4) [i64 q9.u,i64 q9.k,i64 q9.d,.bool q9.m]from rfl]
  have Dk:=m5.qY.1.2.2.2.1
  generalize H5.wr B.tb (bq (aM L4) ((j:Int).toNat*4) [i64 q9.u,i64 q9.k,i64 q9.d,.bool q9.m])=H6 at*
  refine vs ?_
  refine And.intro (e6.own o5 Dk) ?_
  refine vs ?_
  refine⟨cap.toNat - (j+1),by omega,j+1,L6,rfl,by omega,(e4.trans (e5.mono fun _ _ h=>h.elim)).trans e6,m6,fun z h0 h1=>?_,?_⟩
  ·rw[k6]
   unfold pP
   split
   ·rfl
   ·exact g4 z h0 (by omega)
  ·rw[wrap64 (n:=(j:Int)+1) (by omega) (by omega)]
   rfl
 ·obtain rfl:j=cap.toNat:=by omega
  have hpc:∀z,eX L4 z=q9:=fun z=>by
   by_cases hz:0≤z∧z< (cap.toNat:Int)
   ·exact g4 z hz.1 hz.2
   ·unfold eX
    split
    ·rw[amk (by omega)];rfl
    ·rfl
  refine⟨ft.then e4 (fun z hz=>by omega),.inr ⟨hb,B.n,B.S C,rfl,⟨B,C,N,P,L4,[-1],fun _=>[],fun _=> -1,fun _=>[],rfl,m4,⟨⟨⟨rfl,fun x c hc=>absurd hc (by simp),fun c x h hx=>absurd (Eq.symm h) hx,fun x=>ani⟩,
   fun x=>trivial,fun h=>trivial,fun h=>ani,fun h c hc=>absurd hc (by simp),ani,fun c hc=>absurd hc (by simp),fun c hc=>absurd hc (nX cap c),fun c _=>YS c⟩,fun x=>by rw[hpc];exact⟨rfl,rfl,rfl⟩,
   fun g=>D7 g,fun g y hg hy=>absurd (show 0<aH (CA cap) y by omega) (nX cap y),rfl⟩,fun z=>Iff.rfl⟩,fun z hz=>?_⟩⟩
  rcases hBs z hz with h|h
  ·omega
  ·exact hC z h
theorem L9(n:Nat):zI (.iface 206 (ptr n)) (kK n) where
 slt h:=h.slt
 ext h e hd:=h.ext e hd
 cells:=by
  rintro H S w ⟨B,C,N,P,L,tops,ch,par,aw,rfl,m,l,hS⟩
  exact⟨B.c,C,m.cells⟩
 has:=by
  rintro H S w g ⟨B,C,N,P,L,tops,ch,par,aw,rfl,m,l,hS⟩
  obtain⟨tv,ho,_⟩:=m.own
  exact⟨_,_,bG,ptr B.c,rfl,ic (off:=0) (by kernel_rfl) (ae ho) rfl,(kH m.cells g).mono fun v H' hp=>hp⟩
 make:=by
  intro H S w h
  exact⟨_,_,mB,ptr n,rfl,bF (by kernel_rfl),(I1 h).mono fun v H' hp=>hp⟩
 insert:=by
  intro H S w g x k s h
  exact⟨_,_,kq,ptr n,rfl,bF (by kernel_rfl),(FM h g x k s).mono fun v H' hp=>hp⟩
 min:=by
  intro H S w g h
  refine⟨_,_,nH,ptr n,rfl,bF (by kernel_rfl),(CJ h g).mono ?_⟩
  rintro v H' ⟨⟨h1,rfl⟩| ⟨x,h1,rfl⟩,rfl⟩
  ·exact .inl ⟨h1,rfl,cC.same h (ai.refl _ _)⟩
  ·exact .inr ⟨x,h1,rfl,cC.same h (ai.refl _ _)⟩
 extract:=by
  intro H S w g h
  exact⟨_,_,jh,ptr n,rfl,bF (by kernel_rfl),(Ej h g).mono fun v H' hp=>hp⟩
 qH:=by
  intro H S w x k s h
  exact⟨_,_,iw,ptr n,rfl,bF (by kernel_rfl),(CK h x k s).mono fun v H' hp=>hp⟩
 entry:=by
  rintro H S w x ⟨B,C,N,P,L,tops,ch,par,aw,rfl,m,l,hS⟩
  obtain⟨tv,ho,_⟩:=m.own
  refine⟨_,_,bk,ptr B.c,rfl,ic (off:=0) (by kernel_rfl) (ae ho) rfl,(jk m.cells x).mono ?_⟩
  rintro v H' ⟨c1,f,hv⟩
  exact⟨⟨B,C,N,P,L,tops,ch,par,aw,rfl,m.fresh f,l,hS⟩,f,hv⟩
theorem qN(n:Nat)(H:Hp):ah Tryz.prog yo [ptr n,i64 0] H fun v H'=>ay (v= .tuple [.iface 194 (ptr n),i64 0].toArray∧H'=H):=by
 refine be yL ⟨rfl,?_⟩
 refine v2 iB.eq_1 amp ?_
 exact⟨rfl,rfl⟩
theorem pC(n:Nat)(H:Hp):ah Tryz.prog rM [ptr n,i64 0] H fun v H'=>ay (v= .tuple [.iface 206 (ptr n),i64 0].toArray∧H'=H):=by
 refine be rU ⟨rfl,?_⟩
 refine v2 ed.eq_1 amp ?_
 exact⟨rfl,rfl⟩
def EP(kd dd:Int):Prop:=∀ (cap:Int),(0≤cap∧cap≤65536)→∀H:Hp,ah Tryz.prog Jp [NB kd dd,i64 cap] H fun v H'=>ay (∃t vv I Sn,v= .tuple [.iface t vv,i64 0].toArray∧zI (.iface t vv) I∧I H' Sn (CA cap)∧ax H H'∧∀z,Sn z→H.size≤z)
theorem tA:EP 1 0:=by
 intro cap hc H
 have hf:l9 1 0:=by decide
 refine be Dx ⟨rfl,?_⟩
 refine v1 sU.eq_1 ?_
 have f0:ax H (H.new 23 [i64 1,i64 0]):=(ai.refl _ _).new _ _
 have o0:(H.new 23 [i64 1,i64 0]).own H.size=some [i64 1,i64 0]:=aG _ _ _
 have z0:(H.new 23 [i64 1,i64 0]).size=H.size+1:=au _ _ _
 generalize H.new 23 [i64 1,i64 0]=H0 at*
 refine ak.cE (by decide) ?_
 refine v1 (ae o0) ?_
 refine ak.cE (by decide) ?_
 refine v1 (ae o0) ?_
 refine(mc hf (by decide) H0).mono ?_
 rintro _ H1 ⟨rfl,f1⟩
 refine vs ?_
 refine(sr cap _ H1).mono ?_
 rintro _ H2 ⟨f2,⟨hb,rfl⟩| ⟨_,hd,rfl⟩| ⟨_,hd,n,Sn,rfl,h2,Ks⟩⟩
 ·exact absurd hc hb
 ·refine absurd ?_ hd
  obtain⟨_,h|h⟩:=hf
  ·first|exact⟨h.2.1,h.2.2⟩|exact absurd h.1 (by decide)
  ·first|exact⟨by decide,by decide⟩|exact absurd rfl h.1
 ·refine vs ?_
  refine(qN n H2).mono ?_
  rintro _ _ ⟨rfl,rfl⟩
  have z1:=f1.size
  refine vs ?_
  exact⟨_,_,_,Sn,rfl,Bf n _,⟨0,h2⟩,(f0.trans f1).trans f2,fun z hz=>by have:=Ks z hz;omega⟩
theorem Qg:EP 5 0:=by
 intro cap hc H
 have hf:l9 5 0:=by decide
 refine be Dx ⟨rfl,?_⟩
 refine v1 sU.eq_1 ?_
 have f0:ax H (H.new 23 [i64 5,i64 0]):=(ai.refl _ _).new _ _
 have o0:(H.new 23 [i64 5,i64 0]).own H.size=some [i64 5,i64 0]:=aG _ _ _
 have z0:(H.new 23 [i64 5,i64 0]).size=H.size+1:=au _ _ _
 generalize H.new 23 [i64 5,i64 0]=H0 at*
 refine ak.aX (by decide) ?_
 refine vs ?_
 refine ak.aX (by decide) ?_
 refine vs ?_
 refine ak.aX (by decide) ?_
 refine vs ?_
 refine ak.aX (by decide) ?_
 refine vs ?_
 refine ak.cE (by decide) ?_
 refine vs ?_
 refine(CL cap H0).mono ?_
 rintro _ H2 ⟨f2,⟨hb,rfl⟩| ⟨_,n,Sn,rfl,h2,Ks⟩⟩
 ·exact absurd hc hb
 ·refine vs ?_
  refine(pC n H2).mono ?_
  rintro _ _ ⟨rfl,rfl⟩
  refine vs ?_
  exact⟨_,_,_,Sn,rfl,L9 n,h2,f0.trans f2,fun z hz=>by have:=Ks z hz;omega⟩
def Qh(cap:Int)(mo:Nat):Ar:=⟨List.replicate cap.toNat (0,false),[],0,0,mo⟩
theorem Kt{kd dd cap:Int}{mo:Nat}(hf:l9 kd dd)(Df:EP kd dd)(hc:0≤cap∧cap≤65536)(hm:0<mo∧mo≤4294967295)(H:Hp):ah Tryz.prog Pv [NB kd dd,i64 cap,.int .u32 (mo:Int)] H fun v H'=>ay (∃s S,v= .tuple [ptr s,i64 0].toArray∧F1 H' s S (CA cap) (Qh cap mo) 0∧ax H H'∧∀z,S z→H.size≤z):=by
 refine be Pw ⟨rfl,?_⟩
 refine v1 Dv.eq_1 ?_
 have f0:ax H (H.new 23 [i64 kd,i64 dd]):=(ai.refl _ _).new _ _
 have o0:(H.new 23 [i64 kd,i64 dd]).own H.size=some [i64 kd,i64 dd]:=aG _ _ _
 have z0:(H.new 23 [i64 kd,i64 dd]).size=H.size+1:=au _ _ _
 generalize H.new 23 [i64 kd,i64 dd]=H0 at*
 refine(qJ kd dd H0).mono ?_
 rintro _ H1 ⟨rfl,f1⟩
 rw[NC hf]
 have o1:=f1.own o0 (fun h=>h)
 have z1:=f1.size
 refine vs ?_
 refine ak.dec (fun _=>?_) (fun hh=>absurd trivial hh)
 refine vs ?_
 refine(GW H1 hc hm).mono ?_
 rintro _ H2 ⟨B,rfl,m2,f2,hB⟩
 have o2:=f2.own o1 (fun h=>h)
 have z2:=f2.size
 refine vs ?_
 refine ak.dec (fun _=>?_) (fun hh=>absurd trivial hh)
 refine v1 (ae o2) ?_
 refine(Df _ hc H2).mono ?_
 rintro _ H3 ⟨t,vv,I,Sn,rfl,n,hi,f3,Q9⟩
 have o3:=f3.own o2 (fun h=>h)
 have z3:=f3.size
 refine vs ?_
 refine ak.dec (fun _=>?_) (fun hh=>absurd trivial hh)
 refine v1 (ae o3) ?_
 have hsB:=m2.slt
 have hsN:=fun z hz=>n.slt hi z hz
 have f4:ax H3 (H3.new 161 [i64 kd,i64 dd,ptr B.a,.iface t vv,u64 0]):=(ai.refl _ _).new _ _
 have b4:(H3.new 161 [i64 kd,i64 dd,ptr B.a,.iface t vv,u64 0]).own H3.size=some [i64 kd,i64 dd,ptr B.a,.iface t vv,u64 0]:=aG _ _ _
 refine⟨H3.size,fun z=>Sn z∨B.S z∨z=H3.size,rfl,⟨t,vv,I,Sn,B,kd,dd,n,n.ext hi f4 (fun _ _ h=>h),(m2.ext f3 (fun _ _ h=>h)).ext f4 (fun _ _ h=>h),b4,fun z hz=>⟨fun h=>?_,?_⟩,fun h=>?_,fun z=>Iff.rfl,⟨by simp[CA,Qh],fun x=>?_⟩⟩,(((f0.trans f1).trans f2).trans f3).trans f4,fun z hz=>?_⟩
 ·have:=hsB z h
  have:=Q9 z hz
  omega
 ·have:=hsN z hz
  omega
 ·have:=hsB _ h
  omega
 ·constructor
  ·intro h
   exact absurd (bK.2 h) (nX cap x)
  ·rintro⟨h0,h1⟩
   simp only[Qh,am9]at h1
   split at h1<;>simp at h1
 ·rcases hz with h|h|h
  ·have:=Q9 z h;omega
  ·have:=hB z h;omega
  ·omega
abbrev NP:Shape:=.s [(0,(none,.int)),(1,(none,.int))]
def xF(H:Hp)(b:Nat)(L:List ((Int×Nat)×Value)):Prop:=∃es k,H.mp b=some (es,k)∧es.map (fun e=>(e.key,e.val))=L.map (fun p=>(kU p.1.1 p.1.2,p.2))∧(L.map (·.1)).Nodup
theorem xF.new(H:Hp):xF H.fY H.size []:=⟨[],0,Ku H,rfl,ani⟩
theorem xF.ext{H H':Hp}{b:Nat}{L:List ((Int×Nat)×Value)}{S:Nat→Prop}(h:xF H b L)(e:ai S H H')(hs:¬S b):xF H' b L:=by
 obtain⟨es,k,h1,h2⟩:=h
 exact⟨es,k,e.mp h1 hs,h2⟩
theorem xF.lt{H:Hp}{b:Nat}{L:List ((Int×Nat)×Value)}(h:xF H b L):b<H.size:=by
 obtain⟨es,k,h1,h2⟩:=h
 exact O7 h1
theorem Ut(a b:Int×Nat):tq NP (kU a.1 a.2) (kU b.1 b.2)=some (decide (a=b)):=by
 obtain⟨x,g⟩:=a
 obtain⟨y,h⟩:=b
 simp only[tq,Cx,Hk,amz,amY,bB,if_pos rfl]
 by_cases e:x=y
 ·by_cases e2:g=h
  ·simp[e,e2,bB]
  ·have:¬ ((g:Int)=(h:Int)):=by omega
   simp[e,e2,this,bB]
 ·simp[e,bB]
theorem JA(a:Int×Nat):∀ (es:List MapEntry) (L:List ((Int×Nat)×Value)),es.map (fun e=>(e.key,e.val))=L.map (fun p=>(kU p.1.1 p.1.2,p.2))→(L.map (·.1)).Nodup→∀n:Nat,
  (a∉L.map (·.1)→ij NP (kU a.1 a.2) es n=some none)∧(∀v,(a,v)∈L→∃j,ij NP (kU a.1 a.2) es n=some (some (j,v))):=by
 intro es
 induction es with
 |nil=>
  intro L hL _ n
  cases L with
  |nil=>exact⟨fun _=>rfl,fun v h=>by cases h⟩
  |cons p L=>simp at hL
 |cons e es ih=>
  intro L hL hd n
  cases L with
  |nil=>simp at hL
  |cons p L=>
   rw[amL,amL]at hL
   injection hL with h1 h2
   injection h1 with h1 h3
   rw[amL,amq]at hd
   have hq:tq NP (kU a.1 a.2) e.key=some (decide (a=p.1)):=by rw[h1];exact Ut a p.1
   obtain⟨i1,i2⟩:=ih L h2 hd.2 (n+1)
   refine⟨fun hn=>?_,fun v hv=>?_⟩
   ·rw[amL,amf,not_or]at hn
    rw[ij,hq,amm hn.1]
    exact i1 hn.2
   ·by_cases e2:a=p.1
    ·rw[ij,hq,amj e2]
     rcases amf.1 hv with h|h
     ·refine⟨n,?_⟩
      simp only
      rw[h3,←h]
     ·exact absurd (amJ.2 ⟨(a,v),h,e2⟩) hd.1
    ·rw[ij,hq,amm e2]
     rcases amf.1 hv with h|h
     ·exact absurd (by rw[←h]) e2
     ·exact i2 v h
theorem El(x:Int)(g:Nat):CM NP (kU x g)=true:=rfl
theorem xF.look{H:Hp}{b:Nat}{L:List ((Int×Nat)×Value)}(h:xF H b L){a:Int×Nat}{v:Value}(hv:(a,v)∈L){F:Option Value→Prop}(hF:F (some v)):zM H NP (some b) (kU a.1 a.2) F:=by
 obtain⟨es,k,h1,h2,h3⟩:=h
 unfold zM
 simp only[h1,qO]
 obtain⟨j,hj⟩:=(JA a es L h2 h3 0).2 v hv
 rw[hj]
 exact hF
theorem xF.YA{H:Hp}{b:Nat}{L:List ((Int×Nat)×Value)}(h:xF H b L){a:Int×Nat}{v:Value}(hn:a∉L.map (·.1)){F:Hp→Prop}(hk:∀H',xF H' b (L++[(a,v)])→ai (fun x=>x=b) H H'→F H'):Sz H NP b (kU a.1 a.2) v F:=by
 obtain⟨es,k,h1,h2,h3⟩:=h
 unfold Sz
 simp only[h1,qO]
 rw[(JA a es L h2 h3 0).1 hn]
 refine⟨rfl,hk _ ⟨_,_,nZ h1,by simp[Ma,h2],?_⟩ ((ai.refl (fun x=>x=b) H).EH (fun _=>rfl) _ _)⟩
 rw[amU,aog,amT]
 refine⟨h3,by simp,fun x hx c hc e=>?_⟩
 rw[amg]at hc
 have e2:x=a:=e.trans hc;rw[e2]at hx;exact hn hx
structure Re(n:Nat)(A:Ar):Prop where
 len:A.g.length=n
 mo:A.mo=4294967295
 free:∀x:Int,0≤x→x<A.nx→¬A.live x→x∈A.wt
theorem Re.zero(n:Nat):Re n (Qh (n:Int) 4294967295):=⟨by simp[Qh],rfl,fun x h0 h1=>by simp[Qh]at h1;omega⟩
theorem Re.room{n:Nat}{A:Ar}(h:Re n A){x:Int}(h0:0≤x∧x<n)(hl:¬A.live x)(ok:A8 A):A.pick≠none:=by
 have bm:=h.len
 have IS:=ok.nx
 unfold Ar.pick
 split
 ·simp
 ·rename_i hw
  rw[Classical.not_not]at hw
  split
  ·rename_i he
   have:=h.free x h0.1 (by omega) hl
   rw[hw]at this
   cases this
  ·simp
theorem Re.out{n:Nat}{A A':Ar}{x:Int}(h:Re n A)(ok:A8 A)(hp:A.pick=some (x,A')):Re n (A'.out x):=by
 obtain⟨hx,rB,YG,FY,hg,hct,hmo⟩:=Ar.Cy hp ok
 have GM:0≤x∧x<A'.g.length:=by rw[hg];exact hx
 refine⟨by show(A'.g.set _ _).length=n;rw[al8,hg];exact h.len,by show A'.mo=_;rw[hmo];exact h.mo,fun y h0 h1 hl=>?_⟩
 have h1:y< (A'.nx:Int):=h1
 rw[Ar.qG (A:=A') GM rfl h0]at hl
 by_cases e:y=x
 ·rw[if_pos e]at hl;exact absurd rfl hl
 ·rw[if_neg e]at hl
  have wh:¬A.live y:=by unfold Ar.live at hl ⊢;rw[hg]at hl;exact hl
  show y∈A'.wt
  unfold Ar.pick at hp
  split at hp
  ·rename_i aT
   injection hp with hp
   injection hp with HX wu
   subst wu
   have hm:=h.free y h0 h1 wh
   have hw:A.wt=A.wt.dropLast++[A.wt.getLastD 0]:=by
    conv=>lhs;rw[←List.dropLast_concat_getLast aT]
    rw[anw,List.getLast?_eq_some_getLast aT]
    rfl
   rw[hw,aml,amg]at hm
   rcases hm with hm|hm
   ·exact hm
   ·exact absurd (hm.trans HX) e
  ·split at hp
   ·cases hp
   ·injection hp with hp
    injection hp with HX wu
    subst wu
    simp only at h1
    exact h.free y h0 (by omega) wh
theorem Re.back{n:Nat}{A:Ar}{x:Int}(h:Re n A)(hx:0≤x∧x<A.g.length)(hg:A.cf x<4294967295):Re n (A.back x):=by
 refine⟨by show(A.g.set _ _).length=n;rw[al8];exact h.len,h.mo,fun y h0 h1 hl=>?_⟩
 rw[Ar.qG (A:=A) hx rfl h0]at hl
 show y∈(if A.cf x<A.mo then A.wt++[x]else A.wt)
 rw[h.mo,if_pos hg,aml,amg]
 by_cases e:y=x
 ·exact .inr e
 ·rw[if_neg e]at hl
  exact .inl (h.free y h0 h1 hl)
theorem Qi{A A':Ar}{x:Int}(hp:A.pick=some (x,A'))(ok:A8 A):A8 A':=by
 have IS:=ok.nx
 unfold Ar.pick at hp
 split at hp
 ·rename_i aT
  injection hp with hp
  injection hp with HX wu
  subst wu
  exact⟨fun y hy=>ok.wl y ((an8 _).subset hy),List.Nodup.sublist (an8 _) ok.wd,ok.fr,ok.ct,ok.nx⟩
 ·split at hp
  ·cases hp
  ·injection hp with hp
   injection hp with HX wu
   subst wu
   exact⟨fun y hy=>by have:=ok.wl y hy;exact⟨this.1,by simp only;omega,this.2.2⟩,ok.wd,fun y hy=>ok.fr y (by simp only at hy;omega),ok.ct,by simp only;omega⟩
structure I3(n:Nat)(w:Nw)(A:Ar)(L:List ((Int×Nat)×Value))(bX:List (Int×Nat))(at_:Nat):Prop where
 hs:w.has 1
 Uu:Re n A
 lk:WF w A
 ok:A8 A
 c1:∀ (x:Int) y,0≤x→w.cs[x.toNat]? =some y→y.1=0∨(y.1=1∧∃id:Nat,y.2.2=(id:Int)+1∧(y.2.1,id)∈bX∧((x,A.cf x),i64 id)∈L)
 c2:∀p∈bX,∃x:Int,0≤x∧w.cs[x.toNat]? =some (1,p.1,(p.2:Int)+1)
 ge:∀x:Int,0≤x→A.cf x≤at_
 ls:∀p∈L,0≤p.1.1∧p.1.2≤A.cf p.1.1
 ids:L.map (·.2)=(List.range at_).map fun(i:Nat)=>i64 i
 ri:zS bX
 lt:∀p∈bX,p.2<at_
 cn:A.ct=bX.length
theorem I3.idx{n at_:Nat}{w:Nw}{A:Ar}{L:List ((Int×Nat)×Value)}{bX:List (Int×Nat)}(h:I3 n w A L bX at_){a b:Int×Nat}{id:Nat}(h1:(a,i64 id)∈L)(h2:(b,i64 id)∈L):a=b:=by
 obtain⟨i,hi⟩:=amy h1
 obtain⟨j,hj⟩:=amy h2
 have hk:∀ (k:Nat) (c:(Int×Nat)×Value),L[k]? =some c→c.2=i64 (k:Int):=by
  intro k c hc
  have e1:(L.map (·.2))[k]? =some c.2:=by rw[amo,hc];rfl
  rw[h.ids,amo]at e1
  have aR:=(al7.1 hc).1
  have pJ:L.length=at_:=by have:=amt List.length h.ids;simpa using this
  rw[am8 (by omega)]at e1
  simpa using e1.symm
 have e1:=hk i _ hi
 have e2:=hk j _ hj
 have e3:i=j:=by
  have:=e1.symm.trans e2
  injection this with _ this
  omega
 subst e3
 rw[hi]at hj
 injection hj with hj
 injection hj
theorem I3.first{n at_:Nat}{w:Nw}{A:Ar}{L:List ((Int×Nat)×Value)}{bX:List (Int×Nat)}(h:I3 n w A L bX at_){x:Int}{y:Ce}(hf:w.first 1 x)(hy:w.cs[x.toNat]? =some y):0≤x∧x<n∧∃id:Nat,y=(1,y.2.1,(id:Int)+1)∧QZ (y.2.1,id) bX∧((x,A.cf x),i64 id)∈L:=by
 obtain⟨_,f2,f3⟩:=bN.1 hf
 obtain⟨x0,x1,_⟩:=aF (w:=w) (x:=x) (by omega)
 have HY:=ng x0 hy
 rw[f2]at HY
 have bm:w.cs.length=n:=by rw[h.lk.len];exact h.Uu.len
 rcases h.c1 x y x0 hy with h0| ⟨_,id,e1,e2,e3⟩
 ·omega
 refine⟨x0,by omega,id,?_,⟨e2,fun q hq aT=>?_⟩,e3⟩
 ·obtain⟨a,b,c⟩:=y
  simp only at HY e1 ⊢
  rw[←HY,e1]
 ·obtain⟨z,z0,hz⟩:=h.c2 q hq
  have Um:z≠x:=by
   intro e
   rw[e,hy]at hz
   injection hz with hz
   rw[hz]at e1
   simp only at e1
   omega
  have aR:=f3 z (ng z0 hz) Um
  unfold aV at aR
  have k1:w.key x=y.2.1∧w.seq x=y.2.2:=by
   unfold Nw.key Nw.seq
   simp only[al9,hy]
   exact⟨rfl,rfl⟩
  have k2:w.key z=q.1∧w.seq z=(q.2:Int)+1:=by
   unfold Nw.key Nw.seq
   simp only[al9,hz]
   exact⟨rfl,rfl⟩
  rw[k1.1,k1.2,k2.1,k2.2]at aR
  simp only[amQ]at aR
  simp only
  omega
theorem I3.ne0{n at_:Nat}{w:Nw}{A:Ar}{L:List ((Int×Nat)×Value)}{bX:List (Int×Nat)}(h:I3 n w A L bX at_)(hp:bX≠[]):w.len 1≠0:=by
 intro h0
 cases bX with
 |nil=>exact hp rfl
 |cons p r=>
  obtain⟨x,x0,hx⟩:=h.c2 p (by simp)
  exact(xk (by omega)).1 h0 x (ng x0 hx)
theorem I3.take{n at_:Nat}{w:Nw}{A:Ar}{L:List ((Int×Nat)×Value)}{bX:List (Int×Nat)}(h:I3 n w A L bX at_)(oU:at_<4294967295){x k:Int}{id:Nat}(hx:0≤x∧x<n)(hy:w.cs[x.toNat]? =some (1,k,(id:Int)+1))(hL:QZ (k,id) bX)(hm:((x,A.cf x),i64 id)∈L):I3 n (w.put x (0,0,0)) (A.back x) L (wo bX (k,id)) at_:=by
 have bm:w.cs.length=n:=by rw[h.lk.len];exact h.Uu.len
 have hxA:0≤x∧x<A.g.length:=by rw[h.Uu.len];exact hx
 have hg:∀z:Int,0≤z→(A.back x).cf z=A.cf z:=by
  intro z hz
  rw[Ar.OU (A:=A) (A':=A.back x) hxA rfl hz]
  split
  ·rename_i e;rw[e]
  ·rfl
 have xu:A.live x:=(h.lk.live x).1 ⟨hx.1,_,hy,by simp⟩
 refine⟨h.hs,h.Uu.back hxA (by have:=h.ge x hx.1;omega),h.lk.put hxA (v:=A.cf x) rfl,h.ok.back xu,fun z y z0 Mb=>?_,fun p hp=>?_,fun z hz=>by rw[hg z hz];exact h.ge z hz,fun p hp=>by have:=h.ls p hp;exact⟨this.1,by rw[hg _ this.1];exact this.2⟩,h.ids,h.ri.wo _,fun p hp=>h.lt p (pW.1 hp).1,?_⟩
 rotate_right
 ·have h1:=(BA h.ri hL.m).length_eq
  have h2:=h.cn
  rw[ams]at h1
  show A.ct - 1=_
  omega
 ·have Mb:(w.cs.set x.toNat (0,0,0))[z.toNat]? =some y:=Mb
  by_cases e:z=x
  ·subst e
   rw[amd (by omega)]at Mb
   injection Mb with Mb
   exact .inl (by rw[←Mb])
  ·rw[amc (by omega)]at Mb
   rcases h.c1 z y z0 Mb with h0| ⟨g1,id2,e1,e2,e3⟩
   ·exact .inl h0
   ·refine .inr ⟨g1,id2,e1,pW.2 ⟨e2,fun e4=>e ?_⟩,by rw[hg z z0];exact e3⟩
    simp only at e4
    rw[e4]at e3
    have:=h.idx e3 hm
    injection this
 ·obtain⟨HX,wu⟩:=pW.1 hp
  obtain⟨z,z0,hz⟩:=h.c2 p HX
  refine⟨z,z0,?_⟩
  show(w.cs.set x.toNat (0,0,0))[z.toNat]? =_
  rw[amc ?_]
  ·exact hz
  ·intro e
   rw[←e,hy]at hz
   injection hz with hz
   injection hz with _ hz
   injection hz with _ hz
   simp only at wu
   omega
theorem I3.put{n at_:Nat}{w:Nw}{A A':Ar}{L:List ((Int×Nat)×Value)}{bX:List (Int×Nat)}(h:I3 n w A L bX at_){x:Int}(hp:A.pick=some (x,A'))(k:Int):(x,A.cf x+1)∉L.map (·.1)∧I3 n (w.put x (1,k,(at_:Int)+1)) (A'.out x) (L++[((x,A.cf x+1),i64 at_)]) (bX++[(k,at_)]) (at_+1):=by
 obtain⟨hx,rB,YG,FY,hgA,hct,hmo⟩:=Ar.Cy hp h.ok
 have bm:w.cs.length=n:=by rw[h.lk.len];exact h.Uu.len
 have hAn:=h.Uu.len
 have GM:0≤x∧x<A'.g.length:=by rw[hgA];exact hx
 have WD:∀z,A'.cf z=A.cf z:=fun z=>by unfold Ar.cf;rw[hgA]
 have hg:∀z:Int,0≤z→(A'.out x).cf z=if z=x then A.cf x+1 else A.cf z:=by
  intro z hz
  rw[Ar.OU (A:=A') (A':=A'.out x) GM rfl hz]
  rw[WD,WD]
 have Vy:∀z,A'.live z↔A.live z:=fun z=>by unfold Ar.live;rw[hgA]
 have WV:¬cZ w.cs x:=fun hi=>rB ((h.lk.live x).1 hi)
 refine⟨fun hm=>?_,?_⟩
 ·obtain⟨p,HX,wu⟩:=amJ.1 hm
  have:=(h.ls p HX).2
  rw[wu]at this
  simp only at this
  omega
 ·refine⟨h.hs,h.Uu.out h.ok hp,h.lk.put hx (v:=A.cf x+1) ?_,?_,fun z y z0 Mb=>?_,fun p hp=>?_,fun z hz=>?_,fun p hp=>?_,?_,?_,fun p hp=>?_,by show A'.ct+1=_;rw[hct,h.cn,amh];rfl⟩
  ·show A'.g.set x.toNat (A'.cf x+1,true)=_
   rw[WD,hgA]
   rfl
  ·refine A8.out (A:=A) ?_ hgA GM (fun hl=>rB ((Vy x).1 hl)) YG FY
   exact Qi hp h.ok
  ·have Mb:(w.cs.set x.toNat (1,k,(at_:Int)+1))[z.toNat]? =some y:=Mb
   by_cases e:z=x
   ·subst e
    rw[amd (by omega)]at Mb
    injection Mb with Mb
    subst Mb
    refine .inr ⟨rfl,at_,rfl,by simp,?_⟩
    rw[hg z z0,if_pos rfl]
    simp
   ·rw[amc (by omega)]at Mb
    rcases h.c1 z y z0 Mb with h0| ⟨g1,id2,e1,e2,e3⟩
    ·exact .inl h0
    ·exact .inr ⟨g1,id2,e1,amI _ e2,by rw[hg z z0,if_neg e];exact amI _ e3⟩
  ·rcases aml.1 hp with hp|hp
   ·obtain⟨z,z0,hz⟩:=h.c2 p hp
    refine⟨z,z0,?_⟩
    show(w.cs.set x.toNat (1,k,(at_:Int)+1))[z.toNat]? =_
    rw[amc ?_]
    ·exact hz
    ·intro e
     exact WV ⟨hx.1,_,by rw[e];exact hz,by simp⟩
   ·rw[amg]at hp
    subst hp
    refine⟨x,hx.1,?_⟩
    show(w.cs.set x.toNat (1,k,(at_:Int)+1))[x.toNat]? =_
    rw[amd (by omega)]
  ·rw[hg z hz]
   have:=h.ge z hz
   have:=h.ge x hx.1
   split<;>omega
  ·rcases aml.1 hp with hp|hp
   ·have:=h.ls p hp
    refine⟨this.1,?_⟩
    rw[hg _ this.1]
    split
    ·rename_i e;rw[e]at this;omega
    ·exact this.2
   ·rw[amg]at hp
    subst hp
    exact⟨hx.1,by rw[hg _ hx.1,if_pos rfl];exact ami _⟩
  ·rw[amU,h.ids,aof,amU]
   rfl
  ·refine an9.2 ⟨h.ri,by simp,fun a ha b hb=>?_⟩
   rw[amg]at hb
   subst hb
   exact h.lt a ha
  ·rcases aml.1 hp with hp|hp
   ·have:=h.lt p hp;omega
   ·rw[amg]at hp
    subst hp
    exact Nat.lt_succ_self _
theorem I3.zero(n:Nat):I3 n (CA (n:Int)).make (Qh (n:Int) 4294967295) [] [] 0:=by
 have hgz:∀x:Int,(Qh (n:Int) 4294967295).cf x=0:=by
  intro x
  unfold Ar.cf Qh
  simp only[al9,Int.toNat_natCast,am9]
  split<;>rfl
 have hlz:∀x,¬ (Qh (n:Int) 4294967295).live x:=by
  rintro x ⟨_,hx⟩
  unfold Qh at hx
  simp only[Int.toNat_natCast,am9]at hx
  split at hx<;>simp at hx
 have hiz:∀x,¬cZ (CA (n:Int)).make.cs x:=fun x hx=>nX (n:Int) x (bK.2 hx)
 refine⟨⟨by omega,rfl⟩,Re.zero n,⟨by simp[CA,Qh,Nw.make],fun x=>⟨fun h=>absurd h (hiz x),fun h=>absurd h (hlz x)⟩⟩,⟨fun x hx=>(by cases hx),ani,fun x _=>hlz x,?_,anS _⟩,fun x y x0 hy=>?_,fun p hp=>(by cases hp),fun x _=>by rw[hgz];exact ami _,fun p hp=>(by cases hp),rfl,List.Pairwise.nil,fun p hp=>(by cases hp),rfl⟩
 ·show(0:Int)=((List.replicate (n:Int).toNat ((0:Nat),false)).countP (·.2):Nat)
  rw[anF.2]
  ·rfl
  ·intro a ha
   rw[anX ha]
   simp
 ·have hy:(List.replicate (n:Int).toNat ((0,0,0):Ce))[x.toNat]? =some y:=hy
  exact .inl (by rw[anX (amb hy)])
theorem I3.room{n at_:Nat}{w:Nw}{A:Ar}{L:List ((Int×Nat)×Value)}{bX:List (Int×Nat)}(h:I3 n w A L bX at_)(hp:bX.length<n):A.pick≠none:=by
 have h1:=h.ok.ct
 have h2:=h.cn
 have h3:=h.Uu.len
 have h4:∃y∈A.g,y.2=false:=by
  apply amr
  intro cr
  have:A.aY=A.g.length:=by
   unfold Ar.aY
   rw[List.countP_eq_length]
   intro y hy
   cases hb:y.2
   ·exact absurd ⟨y,hy,hb⟩ cr
   ·rfl
  omega
 obtain⟨y,hy,hb⟩:=h4
 obtain⟨i,hi⟩:=amy hy
 have tK:=(al7.1 hi).1
 refine h.Uu.room (x:=(i:Int)) (by omega) (fun hl=>?_) h.ok
 have:=hl.2
 rw[Int.toNat_natCast,hi]at this
 simp[hb]at this
structure Qj(H:Hp)(sb mb mp s:Nat)(S:Nat→Prop)(w:Nw)(A:Ar)(q:Int)(L:List ((Int×Nat)×Value)):Prop where
 st:F1 H s S w A q
 o1:H.own sb=some [ptr s]
 o2:H.own mb=some [.map (some mp)]
 m:xF H mp L
 n1:¬S sb∧¬S mb∧¬S mp
 n2:mp≠sb∧mp≠mb
theorem Qj.ext{H H':Hp}{sb mb mp s:Nat}{S T:Nat→Prop}{w:Nw}{A:Ar}{q:Int}{L:List ((Int×Nat)×Value)}(h:Qj H sb mb mp s S w A q L)(e:ai T H H')(hd:∀z,S z∨z=sb∨z=mb∨z=mp→¬T z):Qj H' sb mb mp s S w A q L:=
 ⟨h.st.ext e (fun z hz=>hd z (.inl hz)),e.own h.o1 (hd _ (by simp)),e.own h.o2 (hd _ (by simp)),h.m.ext e (hd _ (by simp)),h.n1,h.n2⟩
theorem Qj.lt{H:Hp}{sb mb mp s:Nat}{S:Nat→Prop}{w:Nw}{A:Ar}{q:Int}{L:List ((Int×Nat)×Value)}(h:Qj H sb mb mp s S w A q L):∀z,S z∨z=sb∨z=mb∨z=mp→z<H.size:=by
 rintro z (hz|rfl|rfl|rfl)
 ·exact h.st.slt z hz
 ·exact aO h.o1
 ·exact aO h.o2
 ·exact h.m.lt
theorem Qj.to{H H':Hp}{sb mb mp s:Nat}{S S':Nat→Prop}{w w':Nw}{A A':Ar}{q q':Int}{L:List ((Int×Nat)×Value)}(h:Qj H sb mb mp s S w A q L)(st:F1 H' s S' w' A' q')(e:ai S H H')(hs:∀z,S' z→S z∨H.size≤z):Qj H' sb mb mp s S' w' A' q' L:=by
 have h1:=aO h.o1
 have h2:=aO h.o2
 have h3:=h.m.lt
 have hn:∀z,¬S z→z<H.size→¬S' z:=fun z h1 h2 h3=>by rcases hs z h3 with h|h;exact h1 h;omega
 exact⟨st,e.own h.o1 h.n1.1,e.own h.o2 h.n1.2.1,h.m.ext e h.n1.2.2,⟨hn _ h.n1.1 h1,hn _ h.n1.2.1 h2,hn _ h.n1.2.2 h3⟩,h.n2⟩
section
variable {H : Hp} {sb mb mp s n at_ : Nat} {S : Nat → Prop} {w : Nw} {A : Ar} {q : Int} {L : List ((Int × Nat) × Value)} {bX : List (Int × Nat)}
theorem tB(m:Qj H sb mb mp s S w A (at_:Int) L)(h:I3 n w A L bX at_)(hp:bX.length<n)(oU:at_<1000000)(k:Int):
  ah Tryz.prog jy [i64 at_,i64 k,ptr sb,ptr mb] H fun v H'=>ay (v= .tuple [].toArray∧∃S' w' A' L',Qj H' sb mb mp s S' w' A' ((at_:Int)+1) L'∧I3 n w' A' L' (bX++[(k,at_)]) (at_+1)∧ai (fun z=>S z∨z=mp) H H'∧∀z,S' z→S z∨H.size≤z):=by
 refine xU mixed Av (nt:=17) (by kernel_rfl) (by simp) ?_
 refine v2 jE.eq_1 (ae m.o1) ?_
 refine(GY m.st h.hs (fun x x0 _=>by have:=h.ge x x0;omega) (by omega)).mono ?_
 rintro _ H1 (⟨cr,_⟩| ⟨x,A',Vq,rfl,S1,Wp,e1,eR⟩)
 ·exact absurd cr (h.room hp)
 obtain⟨zu,hJ⟩:=h.put Vq k
 obtain⟨hx,_⟩:=Ar.Cy Vq h.ok
 have m1:=m.to Wp e1 eR
 have ajw:=e1.size
 refine vs ?_
 obtain⟨f2,b2,z2⟩:=MU H1 114 [Value.int .i64 0,Value.int .u32 0] [i64 x,Value.int .u32 ((A.cf x+1:Nat):Int)]
 generalize (H1.new 114 [Value.int .i64 0,Value.int .u32 0]).wr H1.size [i64 x,Value.int .u32 ((A.cf x+1:Nat):Int)]=H2 at*
 have m2:=m1.ext f2 (fun _ _ h=>h)
 refine v2 (ae m2.o2) (ae b2) ?_
 refine⟨El _ _,?_⟩
 refine xF.YA m2.m (a:=(x,A.cf x+1)) zu fun H3 mp3 e3=>?_
 refine vs ?_
 refine⟨rfl,S1,_,_,_,⟨m2.st.ext e3 (fun z hz e=>m2.n1.2.2 (by rw[←e];exact hz)),e3.own m2.o1 (Ne.symm m2.n2.1),e3.own m2.o2 (Ne.symm m2.n2.2),mp3,m2.n1,m2.n2⟩,hJ,?_,eR⟩
 exact((e1.mono fun z _ h=>.inl h).trans (f2.mono fun z _ h=>h.elim)).trans (e3.mono fun z _ h=>.inr h)
end
end Go.Proofs.YtjlnnljohemifaaGreat
