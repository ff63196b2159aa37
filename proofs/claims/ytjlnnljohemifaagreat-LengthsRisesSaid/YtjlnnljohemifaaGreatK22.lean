/-
  Texts put behind each other by a program: HeapOn, Dary, Dary2, Dary3, Dary4, Dary5, ShedP, Ring, Fib, Fib2, Fib3, Fib4, Fib5, Fib6, Fib7, Fib9, Fib8, Ring2, FibA, FibB, Pq4n, Pq5, MapH, JoinQ, HufP.
-/
import Derived.Test.YtjlnnljohemifaaGreatK0
import Derived.Test.YtjlnnljohemifaaGreatK1
import Derived.Test.YtjlnnljohemifaaGreatK17
import Derived.Test.YtjlnnljohemifaaGreatK20
import Derived.Test.YtjlnnljohemifaaGreatK21
set_option linter.unusedVariables false
set_option linter.unusedSimpArgs false
namespace Go.Proofs.YtjlnnljohemifaaGreat
open Go Go.Vc
structure ci(lt:Int→Int→Bool)(d:Int)(l:List Int)(pl:Int→Option Int):Prop where
 heap:eY lt d l
 pl:DO l pl
theorem ci.nil(lt:Int→Int→Bool)(d:Int):ci lt d [] (fun _=>none):=
 ⟨fun j _ h=>by simp at h,fun z k=>by simp⟩
theorem ci.congr{lt lt':Int→Int→Bool}{d:Int}(hf:cT d){l:List Int}{pl:Int→Option Int}(h:ci lt d l pl)(hfg:∀z∈l,∀y∈l,lt z y=lt' z y):ci lt' d l pl:=by
 refine⟨fun j h1 h2=>?_,h.pl⟩
 have hp:=cK hf h1
 have e:∀k,k<l.length→l.getD k 0∈l:=fun k hk=>by
  rw[List.getD_eq_getElem?_getD,List.getElem?_eq_getElem hk];exact List.getElem_mem hk
 rw[←hfg _ (e j h2) _ (e _ (show pa d j<l.length by omega))]
 exact h.heap j h1 h2
theorem ci.add{lt:Int→Int→Bool}(ho:bB lt){d:Int}(hf:cT d){l:List Int}{pl:Int→Option Int}(h:ci lt d l pl){x:Int}(hx:pl x=none):
  ci lt d (gu lt d x l.length (l++[x]) pl l.length).l (gu lt d x l.length (l++[x]) pl l.length).pl∧
   (∀z,z∈(gu lt d x l.length (l++[x]) pl l.length).l↔z=x∨z∈l)∧(gu lt d x l.length (l++[x]) pl l.length).l.length=l.length+1∧
   (gu lt d x l.length (l++[x]) pl l.length).asked≤nJ d l.length:=by
 have TN:=hf.1
 have ce:∀k,k<l.length→(l++[x]).getD k 0=l.getD k 0:=fun k hk=>by
  rw[List.getD_eq_getElem?_getD,List.getD_eq_getElem?_getD,List.getElem?_append_left hk]
 have PF:∀j:Nat,1≤j→j<l.length+1→pa d j≠l.length:=fun j h1 h2=>by have:=cK hf h1;omega
 have hP:RG (l++[x]) pl l.length x:=by
  intro z hz k
  rw[h.pl z k]
  constructor
  ·rintro⟨a,b⟩
   have hk:=(List.getElem?_eq_some_iff.1 b).1
   exact⟨a,by omega,by rw[List.getElem?_append_left hk];exact b⟩
  ·rintro⟨a,b,c⟩
   refine⟨a,?_⟩
   have hk:=(List.getElem?_eq_some_iff.1 c).1
   simp only[List.length_append,List.length_singleton]at hk
   rw[List.getElem?_append_left (by omega)]at c
   exact c
 have qV:x∉l:=fun hm=>by
  obtain⟨k,hk⟩:=List.getElem?_of_mem hm
  have:=(h.pl x k).2 ⟨by omega,by simpa using hk⟩
  rw[hx]at this;cases this
 have Lu:∀z,Jb (l++[x]) l.length z↔z∈l:=by
  intro z
  constructor
  ·rintro⟨k,k1,k2⟩
   have hk:=(List.getElem?_eq_some_iff.1 k2).1
   simp only[List.length_append,List.length_singleton]at hk
   rw[List.getElem?_append_left (by omega)]at k2
   exact List.mem_of_getElem? k2
  ·intro hm
   obtain⟨k,hk⟩:=List.getElem?_of_mem hm
   have:=(List.getElem?_eq_some_iff.1 hk).1
   exact⟨k,by omega,by rw[List.getElem?_append_left this];exact hk⟩
 obtain⟨p1,p2⟩:=DP (lt:=lt) (d:=d) x l.length (l++[x]) pl l.length (by simp) (by omega) (by simp;omega) hP (fun hc=>qV ((Lu x).1 hc))
 refine⟨⟨JX ho hf x _ _ _ _ (by simp) (by omega) (by simp;omega) ⟨fun j h1 h2 h3 h4=>?_,fun j h1 h2 h3 h4=>?_⟩ (fun j h1 h2 h3=>?_),p1⟩,fun z=>by rw[p2 z,Lu z],by rw[xR];simp,?_⟩
 ·simp only[Int.toNat_natCast]at h3 h4
  have:j<l.length:=by simp at h2;omega
  have hp:=cK hf h1
  rw[ce j this,ce _ (by omega)]
  exact h.heap j h1 this
 ·simp only[Int.toNat_natCast]at h3
  exact absurd h3 (PF j h1 (by simpa using h2))
 ·simp only[Int.toNat_natCast]at h3
  exact absurd h3 (PF j h1 (by simpa using h2))
 ·have:=Gt lt d x l.length (l++[x]) pl l.length
  unfold nJ
  simpa using this
theorem ci.Wx{lt:Int→Int→Bool}(ho:bB lt){d:Int}(hf:cT d){l:List Int}{pl:Int→Option Int}(h:ci lt d l pl){x i:Int}(hx:pl x=some i):
  ci lt d (cS lt d x l pl i).1 (cS lt d x l pl i).2.1∧(cS lt d x l pl i).1.length=l.length - 1∧
   (∀z,z∈(cS lt d x l pl i).1↔z∈l∧z≠x)∧((cS lt d x l pl i).2.2:Int)≤d*(nJ d ((l.length:Int) - 1):Nat)+1:=by
 obtain⟨a,b,c,e,g⟩:=Lz ho hf h.heap h.pl hx
 exact⟨⟨a,b⟩,c,e,g⟩
theorem ci.mem{lt:Int→Int→Bool}{d:Int}{l:List Int}{pl:Int→Option Int}(h:ci lt d l pl)(z:Int):z∈l↔pl z≠none:=by
 constructor
 ·intro hm
  obtain⟨k,hk⟩:=List.getElem?_of_mem hm
  rw[(h.pl z k).2 ⟨by omega,by simpa using hk⟩]
  simp
 ·intro hn
  obtain⟨k,hk⟩:=Option.ne_none_iff_exists'.1 hn
  exact List.mem_of_getElem? ((h.pl z k).1 hk).2
theorem ci.least{lt:Int→Int→Bool}(ho:bB lt){d:Int}(hf:cT d){l:List Int}{pl:Int→Option Int}(h:ci lt d l pl){x:Int}(hx:l[0]? =some x):∀z∈l,z≠x→lt x z=true:=by
 intro z hz aS
 obtain⟨k,hk⟩:=List.getElem?_of_mem hz
 have Z6:=(List.getElem?_eq_some_iff.1 hk).1
 have:=Gw ho hf h.heap k k (Nat.le_refl _) Z6
 rw[List.getD_eq_getElem?_getD,List.getD_eq_getElem?_getD,hk,hx]at this
 rcases ho.Oo x z (Ne.symm aS)with h1|h1
 ·exact h1
 ·simp only[Option.getD_some]at this
  rw[h1]at this;cases this
theorem ci.raise{lt lt':Int→Int→Bool}(ho:bB lt)(ho':bB lt'){d:Int}(hf:cT d){l:List Int}{pl:Int→Option Int}(h:ci lt d l pl){x i:Int}(hx:pl x=some i)(aR:∀a∈l,∀b∈l,a≠x→b≠x→lt' a b=lt a b)(VY:∀z∈l,z≠x→lt z x=false→lt' z x=false):
  ci lt' d (gu lt' d x i.toNat l pl i).l (gu lt' d x i.toNat l pl i).pl∧(∀z,z∈(gu lt' d x i.toNat l pl i).l↔z∈l)∧(gu lt' d x i.toNat l pl i).l.length=l.length∧
   (gu lt' d x i.toNat l pl i).asked≤nJ d ((l.length:Int) - 1):=by
 obtain⟨i0,hi⟩:=(h.pl x i).1 hx
 have tC:i.toNat<l.length:=(List.getElem?_eq_some_iff.1 hi).1
 have sw:∀j,j<l.length→j≠i.toNat→l.getD j 0≠x:=fun j hj aS e=>by
  have:l[j]? =some x:=by rw[List.getElem?_eq_getElem hj,←e,List.getD_eq_getElem?_getD,List.getElem?_eq_getElem hj];rfl
  exact aS (h.pl.Gu this hi)
 have bS:∀j,j<l.length→l.getD j 0∈l:=fun j hj=>by rw[List.getD_eq_getElem?_getD,List.getElem?_eq_getElem hj];exact List.getElem_mem hj
 have Ng:=h.heap.but ho hf i.toNat
 have hO:¬Jb l i x:=by
  rintro⟨k,k1,k2⟩
  have:=h.pl.Gu k2 hi
  omega
 obtain⟨p1,p2⟩:=DP (lt:=lt') (d:=d) x i.toNat l pl i (Nat.le_refl _) i0 (by omega) (h.pl.adT hi i0) hO
 refine⟨⟨JX ho' hf x _ _ _ _ (Nat.le_refl _) i0 (by omega) ⟨fun j h1 h2 h3 h4=>?_,fun j h1 h2 h3 h4=>?_⟩ (fun j h1 h2 h3=>?_),p1⟩,fun z=>?_,xR _ _ _ _ _ _ _,?_⟩
 ·have:=cK hf h1
  rw[aR _ (bS j h2) _ (bS _ (by omega)) (sw j h2 h3) (sw _ (by omega) h4)]
  exact Ng.1 j h1 h2 h3 h4
 ·have:=cK hf h1
  have:=cK hf h4
  rw[aR _ (bS j h2) _ (bS _ (by omega)) (sw j h2 (by omega)) (sw _ (by omega) (by omega))]
  exact Ng.2 j h1 h2 h3 h4
 ·have VZ:=cK hf h1
  have aS:=sw j h2 (by omega)
  have:=h.heap j h1 h2
  rw[h3,show l.getD i.toNat 0=x by rw[List.getD_eq_getElem?_getD,hi];rfl]at this
  exact VY _ (bS j h2) aS this
 ·rw[p2 z]
  constructor
  ·rintro(rfl| ⟨k,_,k2⟩)
   ·exact List.mem_of_getElem? hi
   ·exact List.mem_of_getElem? k2
  ·intro hm
   obtain⟨k,hk⟩:=List.getElem?_of_mem hm
   by_cases e:(k:Int)=i
   ·rw[show k=i.toNat by omega,hi]at hk;injection hk with hk;exact .inl hk.symm
   ·exact .inr ⟨k,e,hk⟩
 ·have e1:=Gt lt' d x i.toNat l pl i
  have e2:=nK hf ((l.length:Int) - 1).toNat i ((l.length:Int) - 1) (Nat.le_refl _) (by omega)
  unfold nJ at e2 ⊢
  omega
structure Rw where
 r:Nat
 S:Nat→Prop
 l:List Int
 pl:Int→Option Int
def U7:Option Rw→Value
 |none=>.pointer none
 |some R=>ptr R.r
structure vf(H:Hp)(n c:Nat)(C:Nat→Prop)(rv:Value)(fp:Option Nat)(d st:Int)(w:Nw)(rs:List (Option Rw)):Prop where
 own:H.own n=some [ptr c,i64 d,rv]
 cells:bv H c C st w
 sl:Sl H 1 rv rs.length (rs.map U7) fp
 row:∀ (h:Nat) R,rs[h]? =some (some R)→dt H R.r R.S d R.l R.pl
 nC:¬C n
 zk:∀b,fp=some b→b≠n∧¬C b
 pE:∀ (h:Nat) R,rs[h]? =some (some R)→∀x,R.S x→¬C x∧x≠n∧fp≠some x
 rY:∀ (h h':Nat) R R',rs[h]? =some (some R)→rs[h']? =some (some R')→h≠h'→∀x,R.S x→¬R'.S x
def EE(n:Nat)(C:Nat→Prop)(fp:Option Nat)(rs:List (Option Rw))(z:Nat):Prop:=C z∨z=n∨fp=some z∨∃ (h:Nat) (R:Rw),rs[h]? =some (some R)∧R.S z
structure R0(d:Int)(w:Nw)(rs:List (Option Rw)):Prop where
 AZ:cT d
 hl:rs.length=w.hs.length
 hs:∀h:Nat,w.hs[h]? =some true↔∃R,rs[h]? =some (some R)
 h0:rs[0]? =some none
 ok:∀ (h:Nat) R,rs[h]? =some (some R)→ci (aT w) d R.l R.pl
 mem:∀ (h:Nat) R,rs[h]? =some (some R)→∀x:Int,x∈R.l↔0≤x∧∃e,w.cs[x.toNat]? =some (((h:Nat):Int),e)
 len:∀ (h:Nat) R,rs[h]? =some (some R)→(R.l.length:Int)=w.len h
def dh(H:Hp)(n:Nat)(S:Nat→Prop)(d st:Int)(w:Nw):Prop:=∃c C rv fp rs,vf H n c C rv fp d st w rs∧R0 d w rs∧(∀z,EE n C fp rs z↔S z)
theorem vf.slt{H:Hp}{n c:Nat}{C:Nat→Prop}{rv:Value}{fp:Option Nat}{d st:Int}{w:Nw}{rs:List (Option Rw)}(h:vf H n c C rv fp d st w rs):∀z,EE n C fp rs z→z<H.size:=by
 rintro z (hz|rfl|hz| ⟨i,R,hR,hz⟩)
 ·exact h.cells.slt z hz
 ·exact aO h.own
 ·exact Sl.lt (hz▸h.sl)
 ·exact(h.row i R hR).slt z hz
theorem vf.ext{H H':Hp}{n c:Nat}{C T:Nat→Prop}{rv:Value}{fp:Option Nat}{d st:Int}{w:Nw}{rs:List (Option Rw)}(h:vf H n c C rv fp d st w rs)(e:ai T H H')(hd:∀z,EE n C fp rs z→¬T z):vf H' n c C rv fp d st w rs:=
 ⟨e.own h.own (hd n (.inr (.inl rfl))),h.cells.ext e (fun x hx=>hd x (.inl hx)),h.sl.ext e (fun b hb=>hd b (.inr (.inr (.inl hb)))),fun i R hR=>(h.row i R hR).ext e (fun x hx=>hd x (.inr (.inr (.inr ⟨i,R,hR,hx⟩)))),h.nC,h.zk,h.pE,h.rY⟩
theorem dh.slt{H:Hp}{n:Nat}{S:Nat→Prop}{d st:Int}{w:Nw}(h:dh H n S d st w):∀z,S z→z<H.size:=by
 obtain⟨c,C,rv,fp,rs,m,l,hS⟩:=h
 exact fun z hz=>m.slt z ((hS z).2 hz)
theorem dh.ext{H H':Hp}{n:Nat}{S T:Nat→Prop}{d st:Int}{w:Nw}(h:dh H n S d st w)(e:ai T H H')(hd:∀z,S z→¬T z):dh H' n S d st w:=by
 obtain⟨c,C,rv,fp,rs,m,l,hS⟩:=h
 exact⟨c,C,rv,fp,rs,m.ext e (fun z hz=>hd z ((hS z).1 hz)),l,hS⟩
theorem dh.fresh{H H':Hp}{n:Nat}{S:Nat→Prop}{d st:Int}{w:Nw}(h:dh H n S d st w)(e:ay H H'):dh H' n S d st w:=h.ext e fun _ _ h=>h
theorem rZ(cap d:Int)(H:Hp):ah Tryz.prog MO [i64 cap,i64 d] H fun v H'=>ax (
  ay H H'∧((¬ (0≤cap∧cap≤65536)∧v= .tuple [.pointer none,i64 31].toArray)∨((0≤cap∧cap≤65536)∧¬cT d∧v= .tuple [.pointer none,i64 22].toArray)∨
   ((0≤cap∧cap≤65536)∧cT d∧∃n S,v= .tuple [ptr n,i64 0].toArray∧dh H' n S d 0 ⟨[false],List.replicate cap.toNat (0,0,0)⟩∧∀x,S x→H.size≤x))):=by
 refine bc MT ⟨rfl,?_⟩
 refine v1 Aq.eq_1 ?_
 refine(oz cap H).mono ?_
 rintro _ H1 ⟨f1,⟨hb,rfl⟩| ⟨hb,c,C,rfl,c1,hC⟩⟩
 ·refine vs ?_
  exact⟨f1,.inl ⟨hb,rfl⟩⟩
 refine vs ?_
 refine(zy d H1).mono ?_
 rintro _ H2 ⟨f2,⟨hf,rfl⟩| ⟨hf,r,S,rfl,r2,hS⟩⟩
 ·refine vs ?_
  exact⟨f1.trans f2,.inr (.inl ⟨hb,hf,rfl⟩)⟩
 refine v1 decide_true ?_
 have f3:ay H2 ((H2.new 250 [.pointer none]).new 255 [ptr c,i64 d,.slice (some ⟨H2.size,0,none⟩) 1 1]):=((ai.refl _ _).new _ _).new _ _
 have z1:=f1.size
 have z2:=f2.size
 have zx:=c1.slt
 refine⟨(f1.trans f2).trans f3,.inr (.inr ⟨hb,hf,H2.size+1,EE (H2.size+1) C (some H2.size) [none],rfl,⟨c,C,.slice (some ⟨H2.size,0,none⟩) 1 1,some H2.size,[none],
  ⟨bC (by simp only[au]),(c1.fresh f2).fresh f3,?_,fun h R hR=>?_,fun h=>by have:=zx _ h;omega,fun b hb=>?_,fun h R hR=>?_,fun h h' R R' hR=>?_⟩,
  ⟨hf,rfl,fun h=>?_,rfl,fun h R hR=>?_,fun h R hR=>?_,fun h R hR=>?_⟩,fun z=>Iff.rfl⟩,fun x hx=>?_⟩)⟩
 ·exact(Sl.dQ (size:=1) (n:=1) (xs:=[.pointer none]) rfl rfl).ext ((ai.refl (fun _=>False) _).new _ _) (fun _ _ h=>h)
 ·rcases h with _|h<;>simp at hR
 ·injection hb with hb
  subst hb
  exact⟨by omega,fun h=>by have:=zx _ h;omega⟩
 ·rcases h with _|h<;>simp at hR
 ·rcases h with _|h<;>simp at hR
 ·rcases h with _|h<;>simp
 ·rcases h with _|h<;>simp at hR
 ·rcases h with _|h<;>simp at hR
 ·rcases h with _|h<;>simp at hR
 ·rcases hx with hx|rfl|hx| ⟨i,R,hR,hx⟩
  ·exact hC x hx
  ·omega
  ·injection hx with hx;omega
  ·rcases i with _|i<;>simp at hR
theorem GN{n c:Nat}{C:Nat→Prop}{rv:Value}{d st:Int}{w:Nw}(hn:¬C n):Nb (.iface 194 (ptr n)) (fun H k=>bv H c C (min (st+k) 4611686018427387904) w∧H.own n=some [ptr c,i64 d,rv])
  (fun x=>C x∨x=n) (aT w) (cY w.cs):=by
 refine⟨fun H k a b ha hb h=>⟨_,_,cP,ptr c,rfl,hX (off:=0) (by kernel_rfl) (ae h.2) rfl,(lM h.1 a b).mono ?_⟩,aaa (x:=(0,cP)) (by kernel_rfl),fun H H' k U h e hd=>?_,fun H k h x hx=>?_⟩
 ·rintro v H' ⟨rfl,h1,e⟩
  rw[if_pos ⟨ha,hb⟩]at h1
  have hs:gX (min (st+(k:Nat)) 4611686018427387904) 1=min (st+((k+1:Nat):Int)) 4611686018427387904:=by
   unfold gX
   rw[if_neg (by omega)]
   split<;>omega
  rw[hs]at h1
  exact⟨by rw[DQ ha hb],⟨h1,e.own h.2 hn⟩,e.mono fun z _ hz=>.inl hz⟩
 ·exact⟨h.1.ext e (fun x hx=>hd x (.inl hx)),e.own h.2 (hd n (.inr rfl))⟩
 ·rcases hx with hx|rfl
  ·exact h.1.slt x hx
  ·exact aO h.2
theorem GO{H:Hp}{n:Nat}{S:Nat→Prop}{d st:Int}{w:Nw}(h:dh H n S d st w):ah Tryz.prog sF [ptr n] H fun v H'=>ax (
  (w.hs.length=65537∧v=i64 0∧H=H')∨
  (w.hs.length≠65537∧v=i64 w.hs.length∧∃S',dh H' n S' d st w.make∧ai S H H'∧∀x,S' x→S x∨H.size≤x)):=by
 obtain⟨c,C,rv,fp,rs,m,l,hS⟩:=h
 refine bc Ds ⟨rfl,?_⟩
 refine v2 mG.eq_1 (ae m.own) ?_
 refine(mR m.cells).mono ?_
 rintro _ H1 (⟨h1,rfl,rfl⟩| ⟨h1,rfl,C',c1,e1,AX⟩)
 ·refine vs ?_
  exact .inl ⟨h1,rfl,rfl⟩
 have iw:0<rs.length:=(List.getElem?_eq_some_iff.1 l.h0).1
 have pt:=l.hl
 have o1:=e1.own m.own m.nC
 refine vs ?_
 refine am.cj (decide_eq_true (by omega)) ?_
 refine v1 (ae o1) ?_
 refine(zy d H1).mono ?_
 rintro _ H2 ⟨f2,⟨hf,_⟩| ⟨_,r,Sr,rfl,r2,U8⟩⟩
 ·exact absurd l.AZ hf
 have o2:=f2.own o1 (fun h=>h)
 refine v1 (ae o2) ?_
 have Hv:=m.cells.Hv
 have fF:=m.slt
 have RY:=c1.slt
 have Bl:=r2.slt
 have z1:=e1.size
 have z2:=f2.size
 have e0:ai (fun _=>False) H2 (H2.new 250 [ptr r]):=(ai.refl _ _).new _ _
 have sl2:=(m.sl.ext e1 (fun b hb h=>(m.zk b hb).2 h)).ext f2 (fun _ _ h=>h)
 refine Sl.append (sl2.ext e0 (fun _ _ h=>h)) (Sl.dQ (size:=1) (xs:=[ptr r]) rfl rfl).rd rfl (by intro v hv;simp only[List.mem_singleton]at hv;subst hv;rfl) (by omega) ?_
 intro v' H3 fJ s3 e3 l9
 have o3:=e3.own (e0.own o2 (fun h=>h)) (fun e=>(m.zk n e).1 rfl)
 obtain⟨a',Wl,OM⟩:=ez.RC s3.rd
 subst OM
 refine v1 o3 ?_
 generalize OM:Value.slice a' (rs.length+1) Wl=v' at*
 have e4:ai (fun z=>z=n) H3 (H3.wr n [ptr c,i64 d,v']):=(ai.refl (fun z=>z=n) _).wr (fun _=>rfl) _
 have hn:=aO m.own
 have TZ:∀b,fp=some b→b<H.size:=fun b hb=>fF b (.inr (.inr (.inl hb)))
 have hCl:∀z,C z→z<H.size:=fun z hz=>fF z (.inl hz)
 have Fu:∀b,fJ=some b→fp=some b∨H2.size≤b:=fun b hb=>by
  rcases l9 with h| ⟨z,h,h5,_⟩
  ·exact .inl (h▸hb)
  ·rw[h]at hb;injection hb with hb;subst hb;rw[au]at h5;exact .inr (by omega)
 have GF:∀z,C' z→C z∨H.size≤z:=AX
 have Ns:ai (fun z=>fp=some z) H2 H3:=(e0.mono fun _ _ h=>h.elim).uj e3 (fun z _ h=>h)
 have ce:∀ (h:Nat) R,(rs++[some (⟨r,Sr,[],fun _=>none⟩:Rw)])[h]? =some (some R)→rs[h]? =some (some R)∨(h=rs.length∧R=⟨r,Sr,[],fun _=>none⟩):=fun h R hR=>by
  rcases Nat.lt_trichotomy h rs.length with h5|h5|h5
  ·rw[List.getElem?_append_left h5]at hR;exact .inl hR
  ·subst h5
   rw[List.getElem?_append_right (Nat.le_refl _),Nat.sub_self]at hR
   simp only[List.getElem?_cons_zero,Option.some.injEq]at hR
   exact .inr ⟨rfl,hR.symm⟩
  ·rw[List.getElem?_eq_none (by rw[List.length_append,List.length_singleton];omega)]at hR
   cases hR
 have hold:∀ (h:Nat) R,rs[h]? =some (some R)→∀x,R.S x→¬C x∧x≠n∧fp≠some x∧x<H.size:=fun h R hR x hx=>
  ⟨(m.pE h R hR x hx).1,(m.pE h R hR x hx).2.1,(m.pE h R hR x hx).2.2,fF x (.inr (.inr (.inr ⟨h,R,hR,hx⟩)))⟩
 have Jz:∀ (x:Nat) (e:Int×Int),w.cs[x]? ≠some (((rs.length:Nat):Int),e):=fun x e hx=>by
  have:=(m.cells.home _ (List.mem_of_getElem? hx)).2
  simp only at this
  omega
 refine .inr ⟨h1,rfl,EE n C' fJ (rs++[some ⟨r,Sr,[],fun _=>none⟩]),⟨c,C',v',fJ,rs++[some ⟨r,Sr,[],fun _=>none⟩],
  ⟨aj o3,?_,?_,fun h R hR=>?_,fun h=>?_,fun b hb=>⟨?_,fun h=>?_⟩,fun h R hR x hx=>⟨fun h=>?_,?_,fun h=>?_⟩,fun h h' R R' hR hR' aS x hx xa=>?_⟩,
  ⟨l.AZ,?_,fun h=>?_,?_,fun h R hR=>?_,fun h R hR x=>?_,fun h R hR=>?_⟩,fun z=>Iff.rfl⟩,?_,fun x hx=>?_⟩
 ·exact(((c1.ext f2 (fun _ _ h=>h)).ext Ns (fun x hx e=>by
   rcases GF x hx with h|h
   ·exact(m.zk x e).2 h
   ·have:=TZ x e;omega)).ext e4 (fun x hx e=>by
   rcases GF x hx with h|h
   ·exact m.nC (e▸h)
   ·omega))
 ·have:=s3.ext e4 (fun b hb e=>by
   rcases Fu b hb with h|h
   ·exact(m.zk b h).1 e
   ·omega)
  rw[List.length_append,List.map_append]
  exact this
 ·rcases ce h R hR with h5| ⟨rfl,rfl⟩
  ·exact((((m.row h R h5).ext e1 (fun x hx=>(hold h R h5 x hx).1)).ext f2 (fun _ _ h=>h)).ext Ns (fun x hx=>(hold h R h5 x hx).2.2.1)).ext e4 (fun x hx=>(hold h R h5 x hx).2.1)
  ·exact(r2.ext Ns (fun x hx e=>by have:=U8 x hx;have:=TZ x e;omega)).ext e4 (fun x hx e=>by have:=U8 x hx;omega)
 ·rcases GF n h with h|h
  ·exact m.nC h
  ·omega
 ·rcases Fu b hb with h|h
  ·exact(m.zk b h).1
  ·omega
 ·rcases Fu b hb with h5|h5
  ·rcases GF b h with h6|h6
   ·exact(m.zk b h5).2 h6
   ·have:=TZ b h5;omega
  ·have:=RY b h;omega
 ·rcases ce _ R hR with h5| ⟨_,rfl⟩
  ·rcases GF x h with h6|h6
   ·exact(hold _ R h5 x hx).1 h6
   ·have:=(hold _ R h5 x hx).2.2.2;omega
  ·have:=U8 x hx;have:=RY x h;omega
 ·rcases ce _ R hR with h5| ⟨_,rfl⟩
  ·exact(hold _ R h5 x hx).2.1
  ·have:=U8 x hx;omega
 ·rcases ce _ R hR with h5| ⟨_,rfl⟩
  ·rcases Fu x h with h6|h6
   ·exact(hold _ R h5 x hx).2.2.1 h6
   ·have:=(hold _ R h5 x hx).2.2.2;omega
  ·have h7:=Bl x hx
   rcases Fu x h with h6|h6
   ·have:=U8 x hx;have:=TZ x h6;omega
   ·omega
 ·rcases ce _ R hR with h5| ⟨h5,rfl⟩
  ·rcases ce _ R' hR' with h6| ⟨h6,rfl⟩
   ·exact m.rY h h' R R' h5 h6 aS x hx xa
   ·have:=U8 x xa;have:=(hold _ R h5 x hx).2.2.2;omega
  ·rcases ce _ R' hR' with h6| ⟨h6,rfl⟩
   ·have:=U8 x hx;have:=(hold _ R' h6 x xa).2.2.2;omega
   ·omega
 ·simp[Nw.make,pt]
 ·show(w.hs++[true])[h]? =some true↔_
  rcases Nat.lt_trichotomy h rs.length with h5|h5|h5
  ·rw[List.getElem?_append_left h5,List.getElem?_append_left (by omega)]
   exact l.hs h
  ·subst h5
   rw[List.getElem?_append_right (Nat.le_refl _),List.getElem?_append_right (by omega),Nat.sub_self,pt,Nat.sub_self]
   simp
  ·rw[List.getElem?_eq_none (by rw[List.length_append,List.length_singleton];omega),List.getElem?_eq_none (by rw[List.length_append,List.length_singleton];omega)]
   simp
 ·rw[List.getElem?_append_left iw];exact l.h0
 ·rcases ce h R hR with h5| ⟨rfl,rfl⟩
  ·exact l.ok h R h5
  ·exact ci.nil _ _
 ·rcases ce h R hR with h5| ⟨rfl,rfl⟩
  ·exact l.mem h R h5 x
  ·simp only[List.not_mem_nil,false_iff]
   rintro⟨_,e,he⟩
   exact Jz _ _ he
 ·rcases ce h R hR with h5| ⟨rfl,rfl⟩
  ·exact l.len h R h5
  ·show((0:Nat):Int)=w.len _
   unfold Nw.len
   rw[if_pos (by omega),List.countP_eq_zero.2 (fun x hx=>by
    have:=(m.cells.home x hx).2
    simp only[decide_eq_true_eq]
    omega)]
 ·exact((e1.mono fun z _ hz=>(hS z).1 (.inl hz)).trans ((f2.mono fun _ _ h=>h.elim).trans (Ns.mono fun z _ hz=>(hS z).1 (.inr (.inr (.inl hz)))))).trans (e4.mono fun z _ hz=>(hS z).1 (.inr (.inl hz)))
 ·rcases hx with hx|rfl|hx| ⟨i,R,hR,hx⟩
  ·rcases GF x hx with h|h
   ·exact .inl ((hS x).1 (.inl h))
   ·exact .inr h
  ·exact .inl ((hS x).1 (.inr (.inl rfl)))
  ·rcases Fu x hx with h|h
   ·exact .inl ((hS x).1 (.inr (.inr (.inl h))))
   ·exact .inr (by omega)
  ·rcases ce _ R hR with h5| ⟨_,rfl⟩
   ·exact .inl ((hS x).1 (.inr (.inr (.inr ⟨i,R,h5,hx⟩))))
   ·have:=U8 x hx;exact .inr (by omega)
theorem R0.fZ{d:Int}{w:Nw}{rs:List (Option Rw)}(l:R0 d w rs){g:Int}(h:w.has g):∃R,rs[g.toNat]? =some (some R):=(l.hs g.toNat).1 h.2
theorem zD{H:Hp}{n:Nat}{S:Nat→Prop}{d st:Int}{w:Nw}(h:dh H n S d st w)(g:Int):ah Tryz.prog uS [ptr n,i64 g] H fun v H'=>ax (
  ((¬w.has g∧v= .tuple [i64 0,.bool false].toArray)∨(w.has g∧w.len g=0∧v= .tuple [i64 0,.bool false].toArray)∨
   (w.has g∧∃x,cY w.cs x∧(∃e,w.cs[x.toNat]? =some (g,e))∧v= .tuple [i64 x,.bool true].toArray∧∀y,0≤y→(∃e,w.cs[y.toNat]? =some (g,e))→y≠x→aT w x y=true))∧H=H'):=by
 obtain⟨c,C,rv,fp,rs,m,l,hS⟩:=h
 refine bc EZ ⟨rfl,?_⟩
 refine v2 og.eq_1 (ae m.own) ?_
 refine(jq m.cells g).mono ?_
 rintro _ _ ⟨rfl,rfl⟩
 refine vs ?_
 refine am.dec (fun hh=>?_) (fun hh=>?_)
 ·obtain⟨R,hR⟩:=l.fZ hh
  have h1:=hh.1
  have aR:=(List.getElem?_eq_some_iff.1 hR).1
  obtain⟨b,o,c',lb,e1,e2,e3,e4⟩:=ez.get m.sl.rd (i:=g.toNat) (j:=0) (x:=ptr R.r) (by omega) (by simp[hR,U7])
  subst e1
  have Bp:((g.toNat:Nat):Int)=g:=by omega
  refine v1 (ae m.own) ?_
  refine⟨by omega,?_⟩
  refine v2 e2 (show lb[o+g.toNat*1]? =some (ptr R.r)from e4) ?_
  refine(JW (m.row _ R hR) 0).mono ?_
  rintro _ _ ⟨rfl,rfl⟩
  have cF:=l.mem _ R hR
  rw[Bp]at cF
  have bm:=l.len _ R hR
  rw[Bp]at bm
  rw[show(if(0:Int)≤0 then R.l[Int.toNat 0]? else none)=R.l[0]? from rfl,TB]
  cases h0:R.l[0]? with
  |none=>
   have:R.l.length=0:=by
    rcases Nat.eq_zero_or_pos R.l.length with h|h
    ·exact h
    ·rw[List.getElem?_eq_getElem h]at h0;cases h0
   simp(disch:=(first|omega| (simp only[Zs]<;>omega)|fail)) only[go_sem, ↓reduceIte,Zv,Option.isSome_none,Option.getD_none]
   exact⟨.inr (.inl ⟨hh,by omega,rfl⟩),rfl⟩
  |some x=>
   simp(disch:=(first|omega| (simp only[Zs]<;>omega)|fail)) only[go_sem, ↓reduceIte,Zv,Option.isSome_some,Option.getD_some]
   obtain⟨x0,e,he⟩:=(cF x).1 (List.mem_of_getElem? h0)
   refine⟨.inr (.inr ⟨hh,x,⟨x0,_,he,by simp only;omega⟩,⟨e,he⟩,rfl,fun y ZL hy aS=>?_⟩),rfl⟩
   exact ci.least (aq w) l.AZ (l.ok _ R hR) h0 y ((cF y).2 ⟨ZL,hy⟩) aS
 ·refine vs ?_
  exact⟨.inl ⟨hh,rfl⟩,rfl⟩
theorem vf.setRow{H H':Hp}{n c:Nat}{C T:Nat→Prop}{rv:Value}{fp:Option Nat}{d st Wn:Int}{w w':Nw}{rs:List (Option Rw)}(m:vf H n c C rv fp d st w rs){g:Nat}{R R':Rw}(hR:rs[g]? =some (some R))(hr:R'.r=R.r)
  (row:dt H' R'.r R'.S d R'.l R'.pl)(hRS:∀z,R'.S z→R.S z∨H.size≤z)(e:ai T H H')(hT:∀z,T z→C z∨R.S z∨z=n)(cells:bv H' c C Wn w')(own:H'.own n=some [ptr c,i64 d,rv]):
  vf H' n c C rv fp d Wn w' (rs.set g (some R')):=by
 have fF:=m.slt
 have hg:=(List.getElem?_eq_some_iff.1 hR).1
 have ce:∀ (h:Nat) Q,(rs.set g (some R'))[h]? =some (some Q)→(h=g∧Q=R')∨(h≠g∧rs[h]? =some (some Q)):=fun h Q hQ=>by
  by_cases hh:h=g
  ·subst hh
   rw[List.getElem?_set_self hg]at hQ
   simp only[Option.some.injEq]at hQ
   exact .inl ⟨rfl,hQ.symm⟩
  ·rw[List.getElem?_set_ne (Ne.symm hh)]at hQ
   exact .inr ⟨hh,hQ⟩
 refine⟨own,cells,?_,fun h Q hQ=>?_,m.nC,m.zk,fun h Q hQ x hx=>?_,fun h h' Q Q' hQ Z7 aS x hx xa=>?_⟩
 ·have h1:(rs.set g (some R')).map U7=rs.map U7:=by
   rw[List.map_set]
   refine List.ext_getElem? fun i=>?_
   by_cases hi:i=g
   ·subst hi
    rw[List.getElem?_set_self (by rw[List.length_map];exact hg),List.getElem?_map,hR]
    simp[U7,hr]
   ·rw[List.getElem?_set_ne (Ne.symm hi)]
  rw[h1,List.length_set]
  exact m.sl.ext e (fun b hb ht=>by
   rcases hT b ht with h|h|h
   ·exact(m.zk b hb).2 h
   ·exact(m.pE _ R hR b h).2.2 hb
   ·exact(m.zk b hb).1 h)
 ·rcases ce h Q hQ with ⟨rfl,rfl⟩| ⟨h1,h2⟩
  ·exact row
  ·exact(m.row h Q h2).ext e (fun x hx ht=>by
    rcases hT x ht with h3|h3|h3
    ·exact(m.pE h Q h2 x hx).1 h3
    ·exact m.rY h g Q R h2 hR h1 x hx h3
    ·exact(m.pE h Q h2 x hx).2.1 h3)
 ·rcases ce h Q hQ with ⟨rfl,rfl⟩| ⟨h1,h2⟩
  ·rcases hRS x hx with h3|h3
   ·exact m.pE _ R hR x h3
   ·refine⟨fun hc=>?_,fun hc=>?_,fun hc=>?_⟩
    ·have:=fF x (.inl hc);omega
    ·have:=fF n (.inr (.inl rfl));omega
    ·have:=fF x (.inr (.inr (.inl hc)));omega
  ·exact m.pE h Q h2 x hx
 ·rcases ce h Q hQ with ⟨rfl,rfl⟩| ⟨h1,h2⟩
  ·rcases ce h' Q' Z7 with ⟨rfl,rfl⟩| ⟨h3,h4⟩
   ·exact aS rfl
   ·rcases hRS x hx with h5|h5
    ·exact m.rY _ h' R Q' hR h4 aS x h5 xa
    ·have:=fF x (.inr (.inr (.inr ⟨h',Q',h4,xa⟩)));omega
  ·rcases ce h' Q' Z7 with ⟨rfl,rfl⟩| ⟨h3,h4⟩
   ·rcases hRS x xa with h5|h5
    ·exact m.rY h _ Q R h2 hR aS x hx h5
    ·have:=fF x (.inr (.inr (.inr ⟨h,Q,h2,hx⟩)));omega
   ·exact m.rY h h' Q Q' h2 h4 aS x hx xa
theorem T0(lt:Int→Int→Bool){d:Int}(hf:cT d)(x:Int){m:Nat}(l:List Int)(pl:Int→Option Int){i:Int}(hi:1≤i)(hm:i.toNat≤m):0< (gu lt d x m l pl i).asked:=by
 obtain⟨q,rfl⟩:∃q,m=q+1:=⟨m - 1,by omega⟩
 have hp:bh d i=some ((i - 1) / d):=by unfold bh;rw[if_pos ⟨hf,hi⟩]
 simp only[gu,hp]
 split<;>simp
theorem D6{H:Hp}{n:Nat}{S:Nat→Prop}{d st:Int}{w:Nw}(h:dh H n S d st w)(g x k s:Int):ah Tryz.prog pQ [ptr n,i64 g,i64 x,vN k s] H fun v H'=>ax (
  (¬ (w.has g∧(0≤x∧x<w.cs.length)∧¬cY w.cs x)∧v= .bool false∧dh H' n S d st w∧ai S H H')∨
  ((w.has g∧(0≤x∧x<w.cs.length)∧¬cY w.cs x)∧v= .bool true∧∃ (S':Nat→Prop) (q:Nat),(q:Int)≤nJ d (w.len g).toNat∧(0<w.len g→0<q)∧dh H' n S' d (min (st+q) 4611686018427387904) (w.put x (g,k,s))∧ai S H H'∧∀z,S' z→S z∨H.size≤z)):=by
 obtain⟨c,C,rv,fp,rs,m,l,hS⟩:=h
 refine bc AB ⟨rfl,?_⟩
 refine v1 jJ.eq_1 ?_
 have f0:ay H (H.new 224 [i64 k,u64 s]):=(ai.refl _ _).new _ _
 have b0:(H.new 224 [i64 k,u64 s]).own H.size=some [i64 k,u64 s]:=aG _ _ _
 have m0:=m.ext f0 (fun _ _ h=>h)
 generalize H.new 224 [i64 k,u64 s]=H0 at*
 refine v2 (ae m0.own) (ae b0) ?_
 refine(oA m0.cells g x k s).mono ?_
 rintro _ H1 (⟨cw,rfl,c1,e1⟩| ⟨th,rfl,c1,e1⟩)
 ·refine vs ?_
  refine .inl ⟨cw,rfl,⟨c,C,rv,fp,rs,?_,l,hS⟩,(f0.mono fun _ _ h=>h.elim).trans (e1.mono fun z _ hz=>(hS z).1 (.inl hz))⟩
  exact⟨e1.own m0.own m.nC,c1,m0.sl.ext e1 (fun b hb h=>(m.zk b hb).2 h),fun i R hR=>(m0.row i R hR).ext e1 (fun x hx=>(m.pE i R hR x hx).1),m.nC,m.zk,m.pE,m.rY⟩
 ·obtain⟨hh,⟨ie,j5⟩,bS⟩:=id th
  obtain⟨R,hR⟩:=l.fZ hh
  have h1:=hh.1
  have Bp:((g.toNat:Nat):Int)=g:=by omega
  have cF:=l.mem _ R hR
  have bm:=l.len _ R hR
  rw[Bp]at cF bm
  obtain⟨c0,qP⟩:∃c0,w.cs[x.toNat]? =some c0:=⟨_,List.getElem?_eq_getElem (by omega)⟩
  have Bn:¬0<c0.1:=fun h=>bS ⟨ie,c0,qP,h⟩
  have cU:(w.put x (g,k,s)).cs[x.toNat]? =some (g,k,s):=List.getElem?_set_self (by omega)
  have nQ:∀y:Nat,y≠x.toNat→(w.put x (g,k,s)).cs[y]? =w.cs[y]? :=fun y hy=>List.getElem?_set_ne (Ne.symm hy)
  have PK:∀ (i:Nat) Q,rs[i]? =some (some Q)→x∉Q.l:=fun i Q hQ hm=>by
   obtain⟨_,e,he⟩:=(l.mem i Q hQ x).1 hm
   rw[qP]at he
   injection he with he
   subst he
   rcases Nat.eq_zero_or_pos i with hi|hi
   ·subst hi;rw[l.h0]at hQ;cases hQ
   ·exact Bn (by simp only;omega)
  have aS:∀ (i:Nat) Q,rs[i]? =some (some Q)→∀y∈Q.l,0≤y∧y.toNat≠x.toNat:=fun i Q hQ y hy=>by
   have h2:=((l.mem i Q hQ y).1 hy).1
   exact⟨h2,fun e=>PK i Q hQ (by rw[show x=y by omega];exact hy)⟩
  have Wq:∀ (i:Nat) Q,rs[i]? =some (some Q)→ci (aT (w.put x (g,k,s))) d Q.l Q.pl:=fun i Q hQ=>
   ci.congr l.AZ (l.ok i Q hQ) fun z hz y hy=>(jr w x _ (aS i Q hQ z hz).2 (aS i Q hQ y hy).2).symm
  have GM:∀z∈R.l,cY (w.put x (g,k,s)).cs z:=fun z hz=>by
   obtain⟨z0,e,he⟩:=(cF z).1 hz
   exact⟨z0,_,by rw[nQ _ (aS _ R hR z hz).2];exact he,by simp only;omega⟩
  have Wr:cY (w.put x (g,k,s)).cs x:=⟨ie,_,cU,by simp only;omega⟩
  have o1:=e1.own m0.own m.nC
  have aab:=m.cells.st
  have m1:vf H1 n c C rv fp d st (w.put x (g,k,s)) rs:=⟨o1,c1,m0.sl.ext e1 (fun b hb h=>(m.zk b hb).2 h),fun i R hR=>(m0.row i R hR).ext e1 (fun x hx=>(m.pE i R hR x hx).1),m.nC,m.zk,m.pE,m.rY⟩
  have aR:=(List.getElem?_eq_some_iff.1 hR).1
  obtain⟨b,o,c',lb,q1,q2,q3,q4⟩:=ez.get m1.sl.rd (i:=g.toNat) (j:=0) (x:=ptr R.r) (by omega) (by simp[hR,U7])
  subst q1
  refine v1 (ae o1) ?_
  refine⟨by omega,?_⟩
  refine v2 q2 (show lb[o+g.toNat*1]? =some (ptr R.r)from q4) ?_
  have zh:=m.cells.Fc
  have pt:R.l.length≤65536:=by have:=(w.AT g).2;omega
  refine(Iq (GN (c:=c) (rv:=.slice (some ⟨b,o,none⟩) rs.length c') (d:=d) (st:=st) (w:=w.put x (g,k,s)) m.nC) (m1.row _ R hR) (fun z hz ht=>?_) (n:=0) ⟨by rw[show min (st+((0:Nat):Int)) 4611686018427387904=st by omega];exact c1,o1⟩ x (by omega) Wr GM).mono ?_
  ·rcases ht with ht|ht
   ·exact(m.pE _ R hR z hz).1 ht
   ·exact(m.pE _ R hR z hz).2.1 ht
  rintro _ H2 (⟨hp,_,_⟩| ⟨hp,rfl,S',r2,⟨c2,o2⟩,e2,Yo⟩)
  ·exact absurd ((ci.mem (l.ok _ R hR) x).2 hp) (PK _ R hR)
  obtain⟨p1,p2,p3,p4⟩:=ci.add (aq (w.put x (g,k,s))) l.AZ (Wq _ R hR) hp
  have hq:0<R.l.length→0< (gu (aT (w.put x (g,k,s))) d x R.l.length (R.l++[x]) R.pl R.l.length).asked:=fun h=>T0 _ l.AZ x _ _ (by omega) (by omega)
  generalize hU:gu (aT (w.put x (g,k,s))) d x R.l.length (R.l++[x]) R.pl R.l.length=U at*
  rw[Nat.zero_add]at c2
  refine vs ?_
  have qH:∀z,(R.S z∨C z∨z=n)→S z:=fun z hz=>(hS z).1 (by
   rcases hz with hz|hz|hz
   ·exact .inr (.inr (.inr ⟨_,R,hR,hz⟩))
   ·exact .inl hz
   ·exact .inr (.inl hz))
  have ce:∀ (h:Nat) Q,(rs.set g.toNat (some (⟨R.r,S',U.l,U.pl⟩:Rw)))[h]? =some (some Q)→(h=g.toNat∧Q=⟨R.r,S',U.l,U.pl⟩)∨(h≠g.toNat∧rs[h]? =some (some Q)):=fun h Q hQ=>by
   by_cases hh:h=g.toNat
   ·subst hh
    rw[List.getElem?_set_self aR]at hQ
    simp only[Option.some.injEq]at hQ
    exact .inl ⟨rfl,hQ.symm⟩
   ·rw[List.getElem?_set_ne (Ne.symm hh)]at hQ
    exact .inr ⟨hh,hQ⟩
  refine .inr ⟨th,rfl,EE n C fp (rs.set g.toNat (some ⟨R.r,S',U.l,U.pl⟩)),U.asked,?_,fun h=>hq (by omega),
   ⟨c,C,_,fp,rs.set g.toNat (some ⟨R.r,S',U.l,U.pl⟩),m1.setRow hR (R':=⟨R.r,S',U.l,U.pl⟩) rfl r2 Yo e2 (fun z hz=>?_) c2 o2,
    ⟨l.AZ,by rw[List.length_set];exact l.hl,fun h=>?_,?_,fun h Q hQ=>?_,fun h Q hQ y=>?_,fun h Q hQ=>?_⟩,fun z=>Iff.rfl⟩,?_,fun z hz=>?_⟩
  ·rw[show((w.len g).toNat:Int)=(R.l.length:Int) by omega]
   exact Int.ofNat_le.2 p4
  ·rcases hz with hz|hz|hz
   ·exact .inr (.inl hz)
   ·exact .inl hz
   ·exact .inr (.inr hz)
  ·show w.hs[h]? =some true↔_
   rw[l.hs h]
   by_cases LK:h=g.toNat
   ·subst LK
    rw[List.getElem?_set_self aR]
    exact⟨fun _=>⟨_,rfl⟩,fun _=>⟨R,hR⟩⟩
   ·rw[List.getElem?_set_ne (Ne.symm LK)]
  ·rw[List.getElem?_set_ne (by omega)];exact l.h0
  ·rcases ce h Q hQ with ⟨rfl,rfl⟩| ⟨h5,h6⟩
   ·exact p1
   ·exact Wq h Q h6
  ·rcases ce h Q hQ with ⟨rfl,rfl⟩| ⟨h5,h6⟩
   ·rw[Bp]
    show y∈U.l↔_
    rw[p2 y]
    constructor
    ·rintro(rfl|hy)
     ·exact⟨ie,_,cU⟩
     ·obtain⟨y0,e,he⟩:=(cF y).1 hy
      exact⟨y0,e,by rw[nQ _ (aS _ R hR y hy).2];exact he⟩
    ·rintro⟨y0,e,he⟩
     by_cases qL:y.toNat=x.toNat
     ·exact .inl (by omega)
     ·rw[nQ _ qL]at he
      exact .inr ((cF y).2 ⟨y0,e,he⟩)
   ·rw[l.mem h Q h6 y]
    by_cases qL:y.toNat=x.toNat
    ·rw[qL,cU,qP]
     constructor
     ·rintro⟨y0,e,he⟩
      injection he with he
      subst he
      rcases Nat.eq_zero_or_pos h with hi|hi
      ·subst hi;rw[l.h0]at h6;cases h6
      ·exact absurd (show(0:Int)< ((h:Nat):Int) by omega) Bn
     ·rintro⟨y0,e,he⟩
      injection he with he
      injection he with Ws he2
      omega
    ·rw[nQ _ qL]
  ·rcases ce h Q hQ with ⟨rfl,rfl⟩| ⟨h5,h6⟩
   ·rw[Bp,Nw.ii qP g,if_neg (fun hc=>by omega),if_pos ⟨by omega,rfl⟩]
    show(U.l.length:Int)=_
    omega
   ·rw[l.len h Q h6,Nw.ii qP h,if_neg (fun hc=>by omega),if_neg (fun hc=>by omega)]
    omega
  ·exact(f0.mono fun _ _ h=>h.elim).trans ((e1.mono fun z _ hz=>qH z (.inr (.inl hz))).trans (e2.mono fun z _ hz=>qH z hz))
  ·have z0:=f0.size
   have z1:=e1.size
   rcases hz with hz|rfl|hz| ⟨i,Q,hQ,hz⟩
   ·exact .inl (qH z (.inr (.inl hz)))
   ·exact .inl (qH z (.inr (.inr rfl)))
   ·exact .inl ((hS z).1 (.inr (.inr (.inl hz))))
   ·rcases ce i Q hQ with ⟨rfl,rfl⟩| ⟨h5,h6⟩
    ·rcases Yo z hz with h|h
     ·exact .inl (qH z (.inl h))
     ·exact .inr (by omega)
    ·exact .inl ((hS z).1 (.inr (.inr (.inr ⟨i,Q,h6,hz⟩))))
theorem D7{H:Hp}{n:Nat}{S:Nat→Prop}{d st:Int}{w:Nw}(h:dh H n S d st w)(x:Int):ah Tryz.prog zZ [ptr n,i64 x] H fun v H'=>ax (
  (¬cY w.cs x∧v= .bool false∧H=H')∨
  (cY w.cs x∧v= .bool true∧∃ (c0:Ce) (q:Nat),w.cs[x.toNat]? =some c0∧(q:Int)≤d*(nJ d (w.len c0.1 - 1):Nat)+1∧∃S',dh H' n S' d (min (st+q) 4611686018427387904) (w.put x (0,0,0))∧ai S H H'∧∀z,S' z→S z∨H.size≤z)):=by
 obtain⟨c,C,rv,fp,rs,m,l,hS⟩:=h
 refine bc Az ⟨rfl,?_⟩
 refine v2 jH.eq_1 (ae m.own) ?_
 refine(eT m.cells x).mono ?_
 rintro _ H1 (⟨cw,rfl,rfl⟩| ⟨bS,c0,qP,rfl,c1,e1⟩)
 ·refine vs ?_
  exact .inl ⟨cw,rfl,rfl⟩
 obtain⟨ie,c0',J6,iw⟩:=id bS
 rw[qP]at J6
 injection J6 with J6
 subst J6
 obtain⟨R,hR⟩:=(l.hs c0.1.toNat).1 (m.cells.live _ (List.mem_of_getElem? qP) iw)
 have Bp:((c0.1.toNat:Nat):Int)=c0.1:=by omega
 have cF:=l.mem _ R hR
 have bm:=l.len _ R hR
 rw[Bp]at cF bm
 have cU:(w.put x (0,0,0)).cs[x.toNat]? =some (0,0,0):=List.getElem?_set_self (List.getElem?_eq_some_iff.1 qP).1
 have nQ:∀y:Nat,y≠x.toNat→(w.put x (0,0,0)).cs[y]? =w.cs[y]? :=fun y hy=>List.getElem?_set_ne (Ne.symm hy)
 have o1:=e1.own m.own m.nC
 have m1:vf H1 n c C rv fp d st w rs:=⟨o1,c1,m.sl.ext e1 (fun b hb h=>(m.zk b hb).2 h),fun i R hR=>(m.row i R hR).ext e1 (fun x hx=>(m.pE i R hR x hx).1),m.nC,m.zk,m.pE,m.rY⟩
 have aR:=(List.getElem?_eq_some_iff.1 hR).1
 have hxR:x∈R.l:=(cF x).2 ⟨ie,c0.2,qP⟩
 have GM:∀z∈R.l,cY w.cs z:=fun z hz=>by
  obtain⟨z0,e,he⟩:=(cF z).1 hz
  exact⟨z0,_,he,iw⟩
 obtain⟨b,o,c',lb,q1,q2,q3,q4⟩:=ez.get m1.sl.rd (i:=c0.1.toNat) (j:=0) (x:=ptr R.r) (by omega) (by simp[hR,U7])
 subst q1
 have aab:=m.cells.st
 have zh:=m.cells.Fc
 have pt:R.l.length≤65536:=by have:=(w.AT c0.1).2;omega
 refine v1 (ae o1) ?_
 refine⟨by omega,?_⟩
 refine v2 q2 (show lb[o+c0.1.toNat*1]? =some (ptr R.r)from q4) ?_
 refine(D5 (GN (c:=c) (rv:=.slice (some ⟨b,o,none⟩) rs.length c') (d:=d) (st:=st) (w:=w) m.nC) (m1.row _ R hR) (fun z hz ht=>?_) (n:=0) ⟨by rw[show min (st+((0:Nat):Int)) 4611686018427387904=st by omega];exact c1,o1⟩ l.AZ x (by omega) (l.ok _ R hR).pl GM).mono ?_
 ·rcases ht with ht|ht
  ·exact(m.pE _ R hR z hz).1 ht
  ·exact(m.pE _ R hR z hz).2.1 ht
 rintro _ H2 (⟨hp,_,_⟩| ⟨i,hp,rfl,r2,⟨c2,o2⟩,e2⟩)
 ·exact absurd hp ((ci.mem (l.ok _ R hR) x).1 hxR)
 obtain⟨p1,p2,p3,p4⟩:=ci.Wx (aq w) l.AZ (l.ok _ R hR) hp
 generalize hU:cS (aT w) d x R.l R.pl i=U at*
 rw[Nat.zero_add]at c2
 refine v1 (ae o2) ?_
 refine(mS c2 x).mono ?_
 rintro _ H3 (⟨cw,_,_⟩| ⟨_,rfl,c3,e3⟩)
 ·exact absurd bS cw
 refine vs ?_
 have o3:=e3.own o2 m.nC
 have Hu:ai (fun z=>R.S z∨C z∨z=n) H1 H3:=e2.trans (e3.mono fun z _ hz=>.inr (.inl hz))
 have r3:=r2.ext e3 (fun z hz=>(m.pE _ R hR z hz).1)
 have qH:∀z,(R.S z∨C z∨z=n)→S z:=fun z hz=>(hS z).1 (by
  rcases hz with hz|hz|hz
  ·exact .inr (.inr (.inr ⟨_,R,hR,hz⟩))
  ·exact .inl hz
  ·exact .inr (.inl hz))
 have ce:∀ (h:Nat) Q,(rs.set c0.1.toNat (some (⟨R.r,R.S,U.1,U.2.1⟩:Rw)))[h]? =some (some Q)→(h=c0.1.toNat∧Q=⟨R.r,R.S,U.1,U.2.1⟩)∨(h≠c0.1.toNat∧rs[h]? =some (some Q)):=fun h Q hQ=>by
  by_cases hh:h=c0.1.toNat
  ·subst hh
   rw[List.getElem?_set_self aR]at hQ
   simp only[Option.some.injEq]at hQ
   exact .inl ⟨rfl,hQ.symm⟩
  ·rw[List.getElem?_set_ne (Ne.symm hh)]at hQ
   exact .inr ⟨hh,hQ⟩
 have Ff:∀ (h:Nat) Q,rs[h]? =some (some Q)→0<h:=fun h Q hQ=>by
  rcases Nat.eq_zero_or_pos h with hi|hi
  ·subst hi;rw[l.h0]at hQ;cases hQ
  ·exact hi
 have aS:∀ (h:Nat) Q,h≠c0.1.toNat→rs[h]? =some (some Q)→∀y∈Q.l,y.toNat≠x.toNat:=fun h Q hh hQ y hy e=>by
  obtain⟨y0,e',he⟩:=(l.mem h Q hQ y).1 hy
  rw[e,qP]at he
  injection he with he
  rw[he]at hh
  simp only[Int.toNat_natCast]at hh
  exact hh rfl
 have Nu:∀y∈U.1,y.toNat≠x.toNat:=fun y hy e=>by
  obtain⟨h1,h2⟩:=(p3 y).1 hy
  have:=((cF y).1 h1).1
  omega
 refine .inr ⟨bS,rfl,c0,U.2.2,qP,?_,EE n C fp (rs.set c0.1.toNat (some ⟨R.r,R.S,U.1,U.2.1⟩)),
  ⟨c,C,_,fp,rs.set c0.1.toNat (some ⟨R.r,R.S,U.1,U.2.1⟩),m1.setRow hR (R':=⟨R.r,R.S,U.1,U.2.1⟩) rfl r3 (fun z hz=>.inl hz) Hu (fun z hz=>?_) c3 o3,
   ⟨l.AZ,by rw[List.length_set];exact l.hl,fun h=>?_,?_,fun h Q hQ=>?_,fun h Q hQ y=>?_,fun h Q hQ=>?_⟩,fun z=>Iff.rfl⟩,?_,fun z hz=>?_⟩
 ·rw[←bm];exact p4
 ·rcases hz with hz|hz|hz
  ·exact .inr (.inl hz)
  ·exact .inl hz
  ·exact .inr (.inr hz)
 ·show w.hs[h]? =some true↔_
  rw[l.hs h]
  by_cases LK:h=c0.1.toNat
  ·subst LK
   rw[List.getElem?_set_self aR]
   exact⟨fun _=>⟨_,rfl⟩,fun _=>⟨R,hR⟩⟩
  ·rw[List.getElem?_set_ne (Ne.symm LK)]
 ·rw[List.getElem?_set_ne (by omega)];exact l.h0
 ·rcases ce h Q hQ with ⟨rfl,rfl⟩| ⟨h5,h6⟩
  ·exact ci.congr l.AZ p1 fun z hz y hy=>(jr w x _ (Nu z hz) (Nu y hy)).symm
  ·exact ci.congr l.AZ (l.ok h Q h6) fun z hz y hy=>(jr w x _ (aS h Q h5 h6 z hz) (aS h Q h5 h6 y hy)).symm
 ·by_cases qL:y.toNat=x.toNat
  ·rw[qL,cU]
   have h0:=ce h Q hQ
   constructor
   ·intro hy
    rcases h0 with ⟨rfl,rfl⟩| ⟨h5,h6⟩
    ·exact absurd qL (Nu y hy)
    ·exact absurd qL (aS h Q h5 h6 y hy)
   ·rintro⟨_,e,he⟩
    injection he with he
    injection he with Ws _
    rcases h0 with ⟨rfl,rfl⟩| ⟨h5,h6⟩
    ·omega
    ·have:=Ff h Q h6;omega
  ·rw[nQ _ qL]
   rcases ce h Q hQ with ⟨rfl,rfl⟩| ⟨h5,h6⟩
   ·rw[Bp]
    show y∈U.1↔_
    rw[p3 y,cF y]
    constructor
    ·exact fun h=>h.1
    ·exact fun h=>⟨h,fun e=>qL (by rw[e])⟩
   ·exact l.mem h Q h6 y
 ·rcases ce h Q hQ with ⟨rfl,rfl⟩| ⟨h5,h6⟩
  ·rw[Bp,Nw.ii qP c0.1,if_pos ⟨iw,rfl⟩,if_neg (fun hc=>by omega)]
   show(U.1.length:Int)=_
   have:=List.length_pos_of_mem hxR
   omega
  ·have:=Ff h Q h6
   rw[l.len h Q h6,Nw.ii qP h,if_neg (fun hc=>by omega),if_neg (fun hc=>by omega)]
   omega
 ·exact(e1.mono fun z _ hz=>qH z (.inr (.inl hz))).trans (Hu.mono fun z _ hz=>qH z hz)
 ·rcases hz with hz|rfl|hz| ⟨i,Q,hQ,hz⟩
  ·exact .inl (qH z (.inr (.inl hz)))
  ·exact .inl (qH z (.inr (.inr rfl)))
  ·exact .inl ((hS z).1 (.inr (.inr (.inl hz))))
  ·rcases ce i Q hQ with ⟨rfl,rfl⟩| ⟨h5,h6⟩
   ·exact .inl (qH z (.inl hz))
   ·exact .inl ((hS z).1 (.inr (.inr (.inr ⟨i,Q,h6,hz⟩))))
theorem CC{H:Hp}{n:Nat}{S:Nat→Prop}{d st:Int}{w:Nw}(h:dh H n S d st w)(g:Int):ah Tryz.prog oP [ptr n,i64 g] H fun v H'=>ax (
  ((¬w.has g∨(w.has g∧w.len g=0))∧v= .tuple [i64 0,.bool false].toArray∧H=H')∨
  (w.has g∧∃x,cY w.cs x∧(∃e,w.cs[x.toNat]? =some (g,e))∧(∀y,0≤y→(∃e,w.cs[y.toNat]? =some (g,e))→y≠x→aT w x y=true)∧v= .tuple [i64 x,.bool true].toArray∧
   ∃q:Nat,(q:Int)≤d*(nJ d (w.len g - 1):Nat)+1∧∃S',dh H' n S' d (min (st+q) 4611686018427387904) (w.put x (0,0,0))∧ai S H H'∧∀z,S' z→S z∨H.size≤z)):=by
 refine bc yJ ⟨rfl,?_⟩
 refine v1 iD.eq_1 ?_
 refine(zD h g).mono ?_
 rintro _ _ ⟨⟨cw,rfl⟩| ⟨hh,h0,rfl⟩| ⟨hh,x,hx,he,rfl,ut⟩,rfl⟩
 ·refine vs ?_
  exact .inl ⟨.inl cw,rfl,rfl⟩
 ·refine vs ?_
  exact .inl ⟨.inr ⟨hh,h0⟩,rfl,rfl⟩
 ·refine vs ?_
  refine(D7 h x).mono ?_
  rintro _ H1 (⟨cw,_,_⟩| ⟨_,rfl,c0,q,qP,hq,S',d1,e1,Yo⟩)
  ·exact absurd hx cw
  refine vs ?_
  obtain⟨e,tD⟩:=id he
  rw[qP]at tD
  injection tD with tD
  subst tD
  exact .inr ⟨hh,x,hx,he,ut,rfl,q,hq,S',d1,e1,Yo⟩
theorem PL(w:Nw){x:Int}{y:Ce}{k s:Int}(hy:w.cs[x.toNat]? =some y)(hl:¬gW y.2.1 y.2.2 k s){z:Int}(hz:z.toNat≠x.toNat)(h:aT w z x=false):aT (w.put x (y.1,k,s)) z x=false:=by
 have k1:w.key x=y.2.1:=by unfold Nw.key;rw[List.getD_eq_getElem?_getD,hy];rfl
 have k2:w.seq x=y.2.2:=by unfold Nw.seq;rw[List.getD_eq_getElem?_getD,hy];rfl
 have hs:=List.getElem?_set_self (l:=w.cs) (a:=(y.1,k,s)) (List.getElem?_eq_some_iff.1 hy).1
 have k3:(w.put x (y.1,k,s)).key x=k:=by unfold Nw.key Nw.put;simp only[List.getD_eq_getElem?_getD];rw[hs];rfl
 have k4:(w.put x (y.1,k,s)).seq x=s:=by unfold Nw.seq Nw.put;simp only[List.getD_eq_getElem?_getD];rw[hs];rfl
 have k5:(w.put x (y.1,k,s)).key z=w.key z:=by unfold Nw.key Nw.put;simp only[List.getD_eq_getElem?_getD];rw[List.getElem?_set_ne (Ne.symm hz)]
 have k6:(w.put x (y.1,k,s)).seq z=w.seq z:=by unfold Nw.seq Nw.put;simp only[List.getD_eq_getElem?_getD];rw[List.getElem?_set_ne (Ne.symm hz)]
 unfold aT at h ⊢
 rw[k3,k4,k5,k6]
 rw[k1,k2]at h
 simp only[decide_eq_false_iff_not,gW]at*
 omega
theorem A4{H:Hp}{n:Nat}{S:Nat→Prop}{d st:Int}{w:Nw}(h:dh H n S d st w)(x k s:Int):ah Tryz.prog nq [ptr n,i64 x,vN k s] H fun v H'=>ax (
  (¬ (cY w.cs x∧∀y,w.cs[x.toNat]? =some y→¬gW y.2.1 y.2.2 k s)∧v= .bool false∧dh H' n S d st w∧ay H H')∨
  (cY w.cs x∧∃y,w.cs[x.toNat]? =some y∧¬gW y.2.1 y.2.2 k s∧v= .bool true∧∃q:Nat,(q:Int)≤nJ d (w.len y.1 - 1)∧∃S',dh H' n S' d (min (st+q) 4611686018427387904) (w.put x (y.1,k,s))∧ai S H H'∧∀z,S' z→S z∨H.size≤z)):=by
 obtain⟨c,C,rv,fp,rs,m,l,hS⟩:=h
 refine bc wL ⟨rfl,?_⟩
 refine v1 gJ.eq_1 ?_
 have f0:ay H (H.new 224 [i64 k,u64 s]):=(ai.refl _ _).new _ _
 have b0:(H.new 224 [i64 k,u64 s]).own H.size=some [i64 k,u64 s]:=aG _ _ _
 have m0:=m.ext f0 (fun _ _ h=>h)
 generalize H.new 224 [i64 k,u64 s]=H0 at*
 refine v2 (ae m0.own) (ae b0) ?_
 refine(lL m0.cells x k s).mono ?_
 rintro _ H1 (⟨cw,rfl,c1,e1⟩| ⟨bS,rfl,y,hy,gm,c1,e1⟩)
 ·refine vs ?_
  exact .inl ⟨cw,rfl,⟨c,C,rv,fp,rs,m0.ext e1 (fun _ _ h=>h),l,hS⟩,f0.trans e1⟩
 have o1:=e1.own m0.own m.nC
 refine v1 (ae o1) ?_
 obtain⟨ie,y',MD,iw⟩:=id bS
 rw[hy]at MD
 injection MD with MD
 subst MD
 have cU:(w.put x (y.1,k,s)).cs[x.toNat]? =some (y.1,k,s):=List.getElem?_set_self (List.getElem?_eq_some_iff.1 hy).1
 have nQ:∀z:Nat,z≠x.toNat→(w.put x (y.1,k,s)).cs[z]? =w.cs[z]? :=fun z hz=>List.getElem?_set_ne (Ne.symm hz)
 have Nq:cY (w.put x (y.1,k,s)).cs x:=⟨ie,_,cU,iw⟩
 refine(eT c1 x).mono ?_
 rintro _ H2 (⟨cw,_,_⟩| ⟨_,y2,zN,rfl,c2,e2⟩)
 ·exact absurd Nq cw
 rw[cU]at zN
 injection zN with zN
 subst zN
 have sA:=e1.trans e2
 obtain⟨R,hR⟩:=(l.hs y.1.toNat).1 (m.cells.live _ (List.mem_of_getElem? hy) iw)
 have Bp:((y.1.toNat:Nat):Int)=y.1:=by omega
 have LL:∀ (h:Nat) Q,rs[h]? =some (some Q)→∀z:Int,z∈Q.l↔0≤z∧∃e,(w.put x (y.1,k,s)).cs[z.toNat]? =some (((h:Nat):Int),e):=fun h Q hQ z=>by
  rw[l.mem h Q hQ z]
  by_cases TY:z.toNat=x.toNat
  ·rw[TY,cU,hy]
   constructor
   ·rintro⟨z0,e,he⟩
    injection he with he
    exact⟨z0,(k,s),by rw[he]⟩
   ·rintro⟨z0,e,he⟩
    injection he with he
    injection he with Ws _
    exact⟨z0,y.2,by rw[←Ws]⟩
  ·rw[nQ _ TY]
 have cF:=LL _ R hR
 have bm:=l.len _ R hR
 rw[Bp]at cF bm
 have hxR:x∈R.l:=(cF x).2 ⟨ie,_,cU⟩
 have GM:∀z∈R.l,cY (w.put x (y.1,k,s)).cs z:=fun z hz=>by
  obtain⟨z0,e,he⟩:=(cF z).1 hz
  exact⟨z0,_,he,iw⟩
 have o2:=e2.own o1 m.nC
 have m2:vf H2 n c C rv fp d st (w.put x (y.1,k,s)) rs:=⟨o2,c2,m0.sl.ext sA (fun b hb h=>(m.zk b hb).2 h),fun i R hR=>(m0.row i R hR).ext sA (fun x hx=>(m.pE i R hR x hx).1),m.nC,m.zk,m.pE,m.rY⟩
 have aR:=(List.getElem?_eq_some_iff.1 hR).1
 obtain⟨b,o,c',lb,q1,q2,q3,q4⟩:=ez.get m2.sl.rd (i:=y.1.toNat) (j:=0) (x:=ptr R.r) (by omega) (by simp[hR,U7])
 subst q1
 have aab:=m.cells.st
 have zh:=m.cells.Fc
 have pt:R.l.length≤65536:=by have:=(w.AT y.1).2;omega
 refine v1 (ae o2) ?_
 refine⟨by omega,?_⟩
 refine v2 q2 (show lb[o+y.1.toNat*1]? =some (ptr R.r)from q4) ?_
 refine(Fh (GN (c:=c) (rv:=.slice (some ⟨b,o,none⟩) rs.length c') (d:=d) (st:=st) (w:=w.put x (y.1,k,s)) m.nC) (m2.row _ R hR) (fun z hz ht=>?_) (n:=0) ⟨by rw[show min (st+((0:Nat):Int)) 4611686018427387904=st by omega];exact c2,o2⟩ x (by omega) (fun i hi=>by
  obtain⟨h1,h2⟩:=((l.ok _ R hR).pl x i).1 hi
  have:=(List.getElem?_eq_some_iff.1 h2).1
  exact⟨h1,by omega⟩) Nq GM).mono ?_
 ·rcases ht with ht|ht
  ·exact(m.pE _ R hR z hz).1 ht
  ·exact(m.pE _ R hR z hz).2.1 ht
 rintro _ H3 (⟨hp,_,_⟩| ⟨i,hp,rfl,r3,⟨c3,o3⟩,e3⟩)
 ·exact absurd hp ((ci.mem (l.ok _ R hR) x).1 hxR)
 have KL:∀z∈R.l,z≠x→z.toNat≠x.toNat:=fun z hz aS e=>by have:=((cF z).1 hz).1;omega
 obtain⟨p1,p2,p3,p4⟩:=ci.raise (aq w) (aq (w.put x (y.1,k,s))) l.AZ (l.ok _ R hR) hp (fun a ha b hb tE oY=>jr w x _ (KL a ha tE) (KL b hb oY)) (fun z hz TY hl=>PL w hy gm (KL z hz TY) hl)
 generalize hU:gu (aT (w.put x (y.1,k,s))) d x i.toNat R.l R.pl i=U at*
 rw[Nat.zero_add]at c3
 refine vs ?_
 have qH:∀z,(R.S z∨C z∨z=n)→S z:=fun z hz=>(hS z).1 (by
  rcases hz with hz|hz|hz
  ·exact .inr (.inr (.inr ⟨_,R,hR,hz⟩))
  ·exact .inl hz
  ·exact .inr (.inl hz))
 have ce:∀ (h:Nat) Q,(rs.set y.1.toNat (some (⟨R.r,R.S,U.l,U.pl⟩:Rw)))[h]? =some (some Q)→(h=y.1.toNat∧Q=⟨R.r,R.S,U.l,U.pl⟩)∨(h≠y.1.toNat∧rs[h]? =some (some Q)):=fun h Q hQ=>by
  by_cases hh:h=y.1.toNat
  ·subst hh
   rw[List.getElem?_set_self aR]at hQ
   simp only[Option.some.injEq]at hQ
   exact .inl ⟨rfl,hQ.symm⟩
  ·rw[List.getElem?_set_ne (Ne.symm hh)]at hQ
   exact .inr ⟨hh,hQ⟩
 have aS:∀ (h:Nat) Q,h≠y.1.toNat→rs[h]? =some (some Q)→∀z∈Q.l,z.toNat≠x.toNat:=fun h Q hh hQ z hz e=>by
  obtain⟨z0,e',he⟩:=(l.mem h Q hQ z).1 hz
  rw[e,hy]at he
  injection he with he
  rw[he]at hh
  simp only[Int.toNat_natCast]at hh
  exact hh rfl
 have ZV:∀h:Int,(w.put x (y.1,k,s)).len h=w.len h:=fun h=>by
  rw[Nw.ii hy h]
  simp only
  split<;>omega
 refine .inr ⟨bS,y,hy,gm,rfl,U.asked,by rw[←bm];exact Int.ofNat_le.2 p4,EE n C fp (rs.set y.1.toNat (some ⟨R.r,R.S,U.l,U.pl⟩)),
  ⟨c,C,_,fp,rs.set y.1.toNat (some ⟨R.r,R.S,U.l,U.pl⟩),m2.setRow hR (R':=⟨R.r,R.S,U.l,U.pl⟩) rfl r3 (fun z hz=>.inl hz) e3 (fun z hz=>?_) c3 o3,
   ⟨l.AZ,by rw[List.length_set];exact l.hl,fun h=>?_,?_,fun h Q hQ=>?_,fun h Q hQ z=>?_,fun h Q hQ=>?_⟩,fun z=>Iff.rfl⟩,?_,fun z hz=>?_⟩
 ·rcases hz with hz|hz|hz
  ·exact .inr (.inl hz)
  ·exact .inl hz
  ·exact .inr (.inr hz)
 ·show w.hs[h]? =some true↔_
  rw[l.hs h]
  by_cases LK:h=y.1.toNat
  ·subst LK
   rw[List.getElem?_set_self aR]
   exact⟨fun _=>⟨_,rfl⟩,fun _=>⟨R,hR⟩⟩
  ·rw[List.getElem?_set_ne (Ne.symm LK)]
 ·rw[List.getElem?_set_ne (by omega)];exact l.h0
 ·rcases ce h Q hQ with ⟨rfl,rfl⟩| ⟨h5,h6⟩
  ·exact p1
  ·exact ci.congr l.AZ (l.ok h Q h6) fun z hz v hv=>(jr w x _ (aS h Q h5 h6 z hz) (aS h Q h5 h6 v hv)).symm
 ·rcases ce h Q hQ with ⟨rfl,rfl⟩| ⟨h5,h6⟩
  ·rw[Bp]
   show z∈U.l↔_
   rw[p2 z,cF z]
  ·exact LL h Q h6 z
 ·rw[ZV]
  rcases ce h Q hQ with ⟨rfl,rfl⟩| ⟨h5,h6⟩
  ·rw[Bp]
   show(U.l.length:Int)=_
   omega
  ·exact l.len h Q h6
 ·exact(f0.mono fun _ _ h=>h.elim).trans ((sA.mono fun z _ hz=>qH z (.inr (.inl hz))).trans (e3.mono fun z _ hz=>qH z hz))
 ·rcases hz with hz|rfl|hz| ⟨j,Q,hQ,hz⟩
  ·exact .inl (qH z (.inr (.inl hz)))
  ·exact .inl (qH z (.inr (.inr rfl)))
  ·exact .inl ((hS z).1 (.inr (.inr (.inl hz))))
  ·rcases ce j Q hQ with ⟨rfl,rfl⟩| ⟨h5,h6⟩
   ·exact .inl (qH z (.inl hz))
   ·exact .inl ((hS z).1 (.inr (.inr (.inr ⟨j,Q,h6,hz⟩))))
theorem Nv(n:Nat):zB (.iface 218 (ptr n)) (fun H S w=>∃st,dG H n S st w) where
 slt:=by rintro H S w ⟨st,h⟩;exact h.slt
 ext:=by rintro H H' S w T ⟨st,h⟩ e hd;exact⟨st,h.ext e hd⟩
 cells:=by
  rintro H S w ⟨st,c,C,rv,fr,fa,ps,at_,m,l,hS⟩
  exact⟨c,C,st,m.cells⟩
 has:=by
  rintro H S w g ⟨st,c,C,rv,fr,fa,ps,at_,m,l,hS⟩
  obtain⟨av,ho,_⟩:=m.own
  exact⟨_,_,bF,ptr c,rfl,hX (off:=0) (by kernel_rfl) (ae ho) rfl,(jq m.cells g).mono fun v H' hp=>hp⟩
 make:=by
  rintro H S w ⟨st,h⟩
  refine⟨_,_,sH,ptr n,rfl,bE (by kernel_rfl),(GL h).mono ?_⟩
  rintro v H' (⟨h1,rfl,rfl⟩| ⟨h1,rfl,S',h2,h3,h4⟩)
  ·exact .inl ⟨h1,rfl,cD.same ⟨st,h⟩ (ai.refl _ _)⟩
  ·exact .inr ⟨h1,rfl,S',⟨_,h2⟩,h3,h4⟩
 insert:=by
  rintro H S w g x k s ⟨st,h⟩
  refine⟨_,_,pV,ptr n,rfl,bE (by kernel_rfl),(D3 h g x k s).mono ?_⟩
  rintro v H' (⟨h1,rfl,h2,h3⟩| ⟨h1,rfl,S',q,h2,_,h3,h4,h5⟩)
  ·exact .inl ⟨h1,rfl,cD.same ⟨st,h2⟩ h3⟩
  ·exact .inr ⟨h1,rfl,S',⟨_,h3⟩,h4,h5⟩
 min:=by
  rintro H S w g ⟨st,h⟩
  refine⟨_,_,uU,ptr n,rfl,bE (by kernel_rfl),(zC h g).mono ?_⟩
  rintro v H' ⟨h1,rfl⟩
  rcases h1 with ⟨h1,rfl⟩| ⟨x,h2,rfl⟩
  ·exact .inl ⟨h1,rfl,cD.same ⟨st,h⟩ (ai.refl _ _)⟩
  ·exact .inr ⟨x,h2,rfl,cD.same ⟨st,h⟩ (ai.refl _ _)⟩
 extract:=by
  rintro H S w g ⟨st,h⟩
  refine⟨_,_,oV,ptr n,rfl,bE (by kernel_rfl),(CB h g).mono ?_⟩
  rintro v H' (⟨h1,rfl,rfl⟩| ⟨x,h1,rfl,q,hq,S',h5,h6,h7⟩)
  ·exact .inl ⟨h1,rfl,cD.same ⟨st,h⟩ (ai.refl _ _)⟩
  ·exact .inr ⟨x,h1,rfl,S',⟨_,h5⟩,h6,h7⟩
 qt:=by
  rintro H S w x k s ⟨st,h⟩
  refine⟨_,_,nB,ptr n,rfl,bE (by kernel_rfl),(AY h x k s).mono ?_⟩
  rintro v H' (⟨h1,rfl,h2,h3⟩| ⟨h1,y,hy,h2,rfl,q,hq,S',h3,h4,h5⟩)
  ·exact .inl ⟨h1,rfl,cD.same ⟨st,h2⟩ (h3.mono fun _ _ h=>h.elim)⟩
  ·exact .inr ⟨⟨h1,fun z hz=>by rw[hy]at hz;injection hz with hz;rw[←hz];exact h2⟩,rfl,y,hy,S',⟨_,h3⟩,h4,h5⟩
 entry:=by
  rintro H S w x ⟨st,h⟩
  obtain⟨c,C,rv,fr,fa,ps,at_,m,l,hS⟩:=id h
  obtain⟨av,ho,_⟩:=m.own
  refine⟨_,_,bk,ptr c,rfl,hX (off:=0) (by kernel_rfl) (ae ho) rfl,(lK m.cells x).mono ?_⟩
  rintro v H' ⟨_,f,hv⟩
  exact⟨⟨st,h.fresh f⟩,f,hv⟩
theorem A5(n:Nat)(d:Int):zB (.iface 194 (ptr n)) (fun H S w=>∃st,dh H n S d st w) where
 slt:=by rintro H S w ⟨st,h⟩;exact h.slt
 ext:=by rintro H H' S w T ⟨st,h⟩ e hd;exact⟨st,h.ext e hd⟩
 cells:=by
  rintro H S w ⟨st,c,C,rv,fp,rs,m,l,hS⟩
  exact⟨c,C,st,m.cells⟩
 has:=by
  rintro H S w g ⟨st,c,C,rv,fp,rs,m,l,hS⟩
  exact⟨_,_,bF,ptr c,rfl,hX (off:=0) (by kernel_rfl) (ae m.own) rfl,(jq m.cells g).mono fun v H' hp=>hp⟩
 make:=by
  rintro H S w ⟨st,h⟩
  refine⟨_,_,sF,ptr n,rfl,bE (by kernel_rfl),(GO h).mono ?_⟩
  rintro v H' (⟨h1,rfl,rfl⟩| ⟨h1,rfl,S',h2,h3,h4⟩)
  ·exact .inl ⟨h1,rfl,cD.same ⟨st,h⟩ (ai.refl _ _)⟩
  ·exact .inr ⟨h1,rfl,S',⟨_,h2⟩,h3,h4⟩
 insert:=by
  rintro H S w g x k s ⟨st,h⟩
  refine⟨_,_,pQ,ptr n,rfl,bE (by kernel_rfl),(D6 h g x k s).mono ?_⟩
  rintro v H' (⟨h1,rfl,h2,h3⟩| ⟨h1,rfl,S',q,h2,_,h3,h4,h5⟩)
  ·exact .inl ⟨h1,rfl,cD.same ⟨st,h2⟩ h3⟩
  ·exact .inr ⟨h1,rfl,S',⟨_,h3⟩,h4,h5⟩
 min:=by
  rintro H S w g ⟨st,h⟩
  refine⟨_,_,uS,ptr n,rfl,bE (by kernel_rfl),(zD h g).mono ?_⟩
  rintro v H' ⟨h1,rfl⟩
  have hn:=cD.same (I:=fun H S w=>∃st,dh H n S d st w) ⟨st,h⟩ (ai.refl S H)
  obtain⟨c,C,rv,fp,rs,m,l,hS⟩:=h
  rcases h1 with ⟨h1,rfl⟩| ⟨h1,h2,rfl⟩| ⟨h1,x,h2,h3,rfl,h4⟩
  ·refine .inl ⟨Nw.Ir.2 ?_,rfl,hn⟩
   by_cases hg:g≤0
   ·exact .inl hg
   ·refine .inr fun i c hc e=>h1 ⟨by omega,?_⟩
    have:=m.cells.live c (List.mem_of_getElem? hc) (by omega)
    rwa[e]at this
  ·exact .inl ⟨h2,rfl,hn⟩
  ·exact .inr ⟨x,⟨by have:=h1.1;omega,h2.1,h3,h4⟩,rfl,hn⟩
 extract:=by
  rintro H S w g ⟨st,h⟩
  refine⟨_,_,oP,ptr n,rfl,bE (by kernel_rfl),(CC h g).mono ?_⟩
  rintro v H' (⟨h1,rfl,rfl⟩| ⟨h1,x,h2,h3,h4,rfl,q,hq,S',h5,h6,h7⟩)
  ·have hn:=cD.same (I:=fun H S w=>∃st,dh H n S d st w) ⟨st,h⟩ (ai.refl S H)
   obtain⟨c,C,rv,fp,rs,m,l,hS⟩:=h
   rcases h1 with h1| ⟨_,h1⟩
   ·refine .inl ⟨Nw.Ir.2 ?_,rfl,hn⟩
    by_cases hg:g≤0
    ·exact .inl hg
    ·refine .inr fun i c hc e=>h1 ⟨by omega,?_⟩
     have:=m.cells.live c (List.mem_of_getElem? hc) (by omega)
     rwa[e]at this
   ·exact .inl ⟨h1,rfl,hn⟩
  ·exact .inr ⟨x,⟨by have:=h1.1;omega,h2.1,h3,h4⟩,rfl,S',⟨_,h5⟩,h6,h7⟩
 qt:=by
  rintro H S w x k s ⟨st,h⟩
  refine⟨_,_,nq,ptr n,rfl,bE (by kernel_rfl),(A4 h x k s).mono ?_⟩
  rintro v H' (⟨h1,rfl,h2,h3⟩| ⟨h1,y,hy,h2,rfl,q,hq,S',h3,h4,h5⟩)
  ·exact .inl ⟨h1,rfl,cD.same ⟨st,h2⟩ (h3.mono fun _ _ h=>h.elim)⟩
  ·exact .inr ⟨⟨h1,fun z hz=>by rw[hy]at hz;injection hz with hz;rw[←hz];exact h2⟩,rfl,y,hy,S',⟨_,h3⟩,h4,h5⟩
 entry:=by
  rintro H S w x ⟨st,h⟩
  obtain⟨c,C,rv,fp,rs,m,l,hS⟩:=id h
  refine⟨_,_,bk,ptr c,rfl,hX (off:=0) (by kernel_rfl) (ae m.own) rfl,(lK m.cells x).mono ?_⟩
  rintro v H' ⟨_,f,hv⟩
  exact⟨⟨st,h.fresh f⟩,f,hv⟩
structure hZ(H:Hp)(r nb pb:Nat)(N P:List Int):Prop where
 own:H.own r=some [.slice (some ⟨nb,0,none⟩) N.length N.length,.slice (some ⟨pb,0,none⟩) P.length P.length]
 OP:H.own nb=some (N.map i64)
 U9:H.own pb=some (P.map i64)
 len:P.length=N.length
 ne:r≠nb∧r≠pb∧nb≠pb
def cr(N:List Int)(x:Int):Int:=if 0≤x∧x<N.length then N.getD x.toNat 0 else x
theorem GP{N:List Int}{x:Int}(hx:0≤x∧x<N.length):N[x.toNat]? =some (cr N x):=by
 unfold cr
 rw[if_pos hx,List.getD_eq_getElem?_getD]
 obtain⟨y,hy⟩:∃y,N[x.toNat]? =some y:=⟨_,List.getElem?_eq_getElem (by omega)⟩
 rw[hy];rfl
theorem Wy{N:List Int}{x:Int}(hx:¬ (0≤x∧x<N.length)):cr N x=x:=by unfold cr;rw[if_neg hx]
theorem FP{N:List Int}{x:Int}(hx:0≤x∧x<N.length)(v z:Int):cr (N.set x.toNat v) z=if z=x then v else cr N z:=by
 unfold cr
 rw[List.length_set]
 by_cases hz:z=x
 ·rw[if_pos hz,hz,if_pos hx,List.getD_eq_getElem?_getD,List.getElem?_set_self (by omega)];rfl
 ·rw[if_neg hz]
  split
  ·rw[List.getD_eq_getElem?_getD,List.getElem?_set_ne (by omega),List.getD_eq_getElem?_getD]
  ·rfl
theorem Nx{N P:List Int}(h:Bz (cr N) (cr P)){x:Int}(hx:0≤x∧x<N.length):0≤cr N x∧cr N x<N.length:=by
 apply Classical.byContradiction
 intro hn
 have h1:=Wy hn
 have h2:cr N x=x:=by
  have:=h.pn (cr N x)
  rw[h1]at this
  have h3:=h.pn x
  rw[this]at h3
  exact h3
 rw[h2]at hn
 exact hn hx
section
variable {H H' : Hp} {r nb pb : Nat} {N P : List Int} {T : Nat → Prop}
theorem hZ.ext(h:hZ H r nb pb N P)(e:ai T H H')(h1:¬T r)(h2:¬T nb)(h3:¬T pb):hZ H' r nb pb N P:=⟨e.own h.own h1,e.own h.OP h2,e.own h.U9 h3,h.len,h.ne⟩
theorem jm(h:hZ H r nb pb N P)(x:Int):ah Tryz.prog Dk [ptr r,i64 x] H fun v H'=>ax (v= .bool (decide (0≤x∧x<N.length))∧H'=H):=by
 refine bc Dx ⟨rfl,?_⟩
 refine v1 mL.eq_1 ?_
 refine am.dec (fun h0=>?_) (fun h0=>?_)<;>refine v1 (ae h.own) ?_
 ·refine⟨?_,rfl⟩
  rw[show(decide (0≤x∧x< (N.length:Int)))=decide (x< (N.length:Int)) by simp[h0]]
  rfl
 ·refine⟨?_,rfl⟩
  rw[decide_eq_false (fun h=>h0 h.1)]
  rfl
theorem GQ(h:hZ H r nb pb N P){x:Int}(hx:0≤x∧x<N.length):ah Tryz.prog BL [ptr r,i64 x] H fun v H'=>ax (v= .tuple [i64 (cr N x),.bool true].toArray∧H'=H):=by
 refine bc B6 ⟨rfl,?_⟩
 refine v1 lw.eq_1 ?_
 refine(jm h x).mono ?_
 rintro _ H' ⟨rfl,e⟩
 obtain rfl:=e.symm
 rw[decide_eq_true hx]
 have hn:(N.map i64)[x.toNat]? =some (i64 (cr N x)):=by rw[List.getElem?_map,GP hx];rfl
 refine v1 (ae h.own) ?_
 refine⟨⟨by omega,by omega⟩,?_⟩
 refine v4 (ae h.OP) Nat.zero_add Nat.mul_one hn ?_
 exact⟨rfl,rfl⟩
set_option maxHeartbeats 1000000 in
theorem dw(h:hZ H r nb pb N P)(hi:Bz (cr N) (cr P)){x y:Int}(hx:0≤x∧x<N.length)(hy:0≤y∧y<N.length):ah Tryz.prog yz [ptr r,i64 x,i64 y] H fun v H'=>ax (v= .bool true∧
  ∃N' P',hZ H' r nb pb N' P'∧N'.length=N.length∧cr N'=zO (cr N) x y∧Bz (cr N') (cr P')∧ai (fun z=>z=nb∨z=pb) H H'):=by
 refine bc yZ ⟨rfl,?_⟩
 refine v1 iR.eq_1 ?_
 refine(jm h x).mono ?_
 rintro _ H' ⟨rfl,e⟩
 obtain rfl:=e.symm
 rw[decide_eq_true hx]
 refine vs ?_
 refine(jm h y).mono ?_
 rintro _ H' ⟨rfl,e⟩
 obtain rfl:=e.symm
 rw[decide_eq_true hy]
 have JZ:(N.map i64)[x.toNat]? =some (i64 (cr N x)):=by rw[List.getElem?_map,GP hx];rfl
 have hny:(N.map i64)[y.toNat]? =some (i64 (cr N y)):=by rw[List.getElem?_map,GP hy];rfl
 obtain⟨a0,a1⟩:=Nx hi hx
 obtain⟨b0,b1⟩:=Nx hi hy
 obtain⟨d1,d2,d3⟩:=h.ne
 have hl:=h.len
 refine v1 (ae h.own) ?_
 refine⟨⟨by omega,by omega⟩,?_⟩
 refine v5 (ae h.OP) (ae h.own) Nat.zero_add Nat.mul_one JZ ?_
 refine⟨⟨by omega,by omega⟩,?_⟩
 refine v5 (ae h.OP) (ae h.own) Nat.zero_add Nat.mul_one hny ?_
 refine⟨⟨by omega,by omega⟩,?_⟩
 refine v3 h.OP Nat.zero_add Nat.mul_one ?_
 refine⟨by rw[List.length_map];omega,?_⟩
 refine vs ?_
 have e1:ai (fun z=>z=nb) H (H.wr nb ((N.map i64).set x.toNat (i64 (cr N y)))):=(ai.refl (fun z=>z=nb) _).wr (fun _=>rfl) _
 have q1:(H.wr nb ((N.map i64).set x.toNat (i64 (cr N y)))).own nb=some ((N.map i64).set x.toNat (i64 (cr N y))):=aj h.OP
 generalize H.wr nb ((N.map i64).set x.toNat (i64 (cr N y)))=H1 at*
 refine⟨⟨by omega,by omega⟩,?_⟩
 refine v3 q1 Nat.zero_add Nat.mul_one ?_
 refine⟨by rw[List.length_set,List.length_map];omega,?_⟩
 refine vs ?_
 have e2:ai (fun z=>z=nb) H1 (H1.wr nb (((N.map i64).set x.toNat (i64 (cr N y))).set y.toNat (i64 (cr N x)))):=(ai.refl (fun z=>z=nb) _).wr (fun _=>rfl) _
 have q2:(H1.wr nb (((N.map i64).set x.toNat (i64 (cr N y))).set y.toNat (i64 (cr N x)))).own nb=some (((N.map i64).set x.toNat (i64 (cr N y))).set y.toNat (i64 (cr N x))):=aj q1
 generalize H1.wr nb (((N.map i64).set x.toNat (i64 (cr N y))).set y.toNat (i64 (cr N x)))=H2 at*
 have sA:=e1.trans e2
 have o2:=sA.own h.own d1
 have p2:=sA.own h.U9 (Ne.symm d3)
 have o1:=e1.own h.own d1
 refine v2 (ae o1) (ae o2) ?_
 refine⟨⟨by omega,by omega⟩,?_⟩
 refine v3 p2 Nat.zero_add Nat.mul_one ?_
 refine⟨by rw[List.length_map];omega,?_⟩
 refine vs ?_
 have e3:ai (fun z=>z=pb) H2 (H2.wr pb ((P.map i64).set (cr N y).toNat (i64 x))):=(ai.refl (fun z=>z=pb) _).wr (fun _=>rfl) _
 have q3:(H2.wr pb ((P.map i64).set (cr N y).toNat (i64 x))).own pb=some ((P.map i64).set (cr N y).toNat (i64 x)):=aj p2
 generalize H2.wr pb ((P.map i64).set (cr N y).toNat (i64 x))=H3 at*
 refine⟨⟨by omega,by omega⟩,?_⟩
 refine v3 q3 Nat.zero_add Nat.mul_one ?_
 refine⟨by rw[List.length_set,List.length_map];omega,?_⟩
 refine vs ?_
 have e4:ai (fun z=>z=pb) H3 (H3.wr pb (((P.map i64).set (cr N y).toNat (i64 x)).set (cr N x).toNat (i64 y))):=(ai.refl (fun z=>z=pb) _).wr (fun _=>rfl) _
 have q4:(H3.wr pb (((P.map i64).set (cr N y).toNat (i64 x)).set (cr N x).toNat (i64 y))).own pb=some (((P.map i64).set (cr N y).toNat (i64 x)).set (cr N x).toNat (i64 y)):=aj q3
 have Wz:=e3.trans e4
 have nf:cr ((N.set x.toNat (cr N y)).set y.toNat (cr N x))=zO (cr N) x y:=by
  funext z
  rw[FP (by rw[List.length_set];exact hy),FP hx]
  unfold zO
  by_cases h1:z=x
  ·rw[if_pos h1]
   by_cases h2:z=y
   ·rw[if_pos h2,←h2,h1];simp
   ·rw[if_neg h2,if_pos h1]
  ·rw[if_neg h1,if_neg h1]
 have pf:cr ((P.set (cr N y).toNat x).set (cr N x).toNat y)=Tx (cr N) (cr P) x y:=by
  funext z
  rw[FP (by rw[List.length_set];omega),FP (by omega)]
  rfl
 refine⟨rfl,(N.set x.toNat (cr N y)).set y.toNat (cr N x),(P.set (cr N y).toNat x).set (cr N x).toNat y,⟨?_,?_,?_,by simp[hl],h.ne⟩,by simp,nf,?_,(sA.mono fun z _ h=>.inl h).trans (Wz.mono fun z _ h=>.inr h)⟩
 ·rw[List.length_set,List.length_set,List.length_set,List.length_set]
  exact Wz.own o2 d2
 ·rw[List.map_set,List.map_set]
  exact Wz.own q2 d3
 ·rw[List.map_set,List.map_set]
  exact q4
 ·rw[nf,pf]
  exact hi.zO x y
theorem qz(h:hZ H r nb pb N P)(hi:Bz (cr N) (cr P)){x:Int}(hx:0≤x∧x<N.length):ah Tryz.prog BK [ptr r,i64 x] H fun v H'=>ax (v= .bool true∧
  ∃N' P',hZ H' r nb pb N' P'∧N'.length=N.length∧cr N'=zO (cr N) x (cr P x)∧Bz (cr N') (cr P')∧ai (fun z=>z=nb∨z=pb) H H'):=by
 have mX:Bz (cr P) (cr N):=⟨hi.np,hi.pn⟩
 have hl:=h.len
 have ec:=Nx mX (x:=x) (by omega)
 have hp:(P.map i64)[x.toNat]? =some (i64 (cr P x)):=by rw[List.getElem?_map,GP (by omega)];rfl
 refine bc B5 ⟨rfl,?_⟩
 refine v1 lq.eq_1 ?_
 refine(jm h x).mono ?_
 rintro _ H' ⟨rfl,e⟩
 obtain rfl:=e.symm
 rw[decide_eq_true hx]
 refine v1 (ae h.own) ?_
 refine⟨⟨by omega,by omega⟩,?_⟩
 refine v4 (ae h.U9) Nat.zero_add Nat.mul_one hp ?_
 refine(dw h hi hx (y:=cr P x) (by omega)).mono ?_
 rintro _ H1 ⟨rfl,h1⟩
 refine vs ?_
 exact⟨rfl,h1⟩
theorem r7(h:hZ H r nb pb N P){x:Int}{A:List Int}(hc:xO (cr N) (x::A))(hn:(x::A).Nodup)(hx:∀c∈x::A,0≤c∧c<N.length)(hN:N.length≤65536):ah Tryz.prog Dj [ptr r,i64 x] H fun v H'=>ax (∃b,
  Sl H' 1 v (x::A).length ((x::A).map i64) (some b)∧H.size≤b∧ay H H'):=by
 have ie:=hx x (by simp)
 have bm:=bY hn hx
 have fF:r<H.size∧nb<H.size∧pb<H.size:=⟨aO h.own,aO h.OP,aO h.U9⟩
 have rdn:∀ {z:Int},0≤z∧z<N.length→(N.map i64)[z.toNat]? =some (i64 (cr N z)):=fun hz=>by rw[List.getElem?_map,GP hz];rfl
 refine bc Dw ⟨rfl,?_⟩
 refine v1 mK.eq_1 ?_
 refine(jm h x).mono ?_
 rintro _ H' ⟨rfl,e⟩
 obtain rfl:=e.symm
 rw[decide_eq_true ie]
 refine vs ?_
 have f0:ay H (H.new 3 [i64 x]):=(ai.refl _ _).new _ _
 have s0:Sl (H.new 3 [i64 x]) 1 (.slice (some ⟨H.size,0,none⟩) 1 1) [x].length ([x].map i64) (some H.size):=Sl.dQ (size:=1) (n:=1) (xs:=[i64 x]) rfl rfl
 have h0:=h.ext f0 (fun h=>h) (fun h=>h) (fun h=>h)
 generalize H.new 3 [i64 x]=H0 at*
 refine v2 (ae h0.own) (ae h.own) ?_
 refine⟨⟨by omega,by omega⟩,?_⟩
 refine v5 (ae h0.OP) (ae h.OP) Nat.zero_add Nat.mul_one (rdn ie) ?_
 have hp:pj (cr N) x A x:=hc
 have hd:∀ {a z:Int} {l:List Int},pj (cr N) a l z→cr N a=l.headD z:=fun{a z l} h=>by
  cases l with
  |nil=>exact h
  |cons b l=>exact h.1
 refine bD.intro (fun mm env H'=>∃ (d s:List Int) (wv:Value) (b:Nat),mm=s.length∧A=d++s∧hZ H' r nb pb N P∧H.size≤b∧Sl H' 1 wv (x::d).length ((x::d).map i64) (some b)∧ai (fun z=>H.size≤z) H H'∧
  env=[(0,ptr r),(1,i64 x),(5,wv),(6,i64 (s.headD x))]) _ ⟨[],A,_,H.size,rfl,rfl,h0,Nat.le_refl _,s0,f0.mono fun _ _ h=>h.elim,by rw[hd hp]⟩ ?_
 rintro mm env H1 ⟨d,s,wv,b,rfl,Yp,h1,hb,s1,e1,rfl⟩
 have z1:=e1.size
 refine vs ?_
 cases s with
 |nil=>
  refine am.dec (fun _=>?_) (fun h=>absurd rfl h)
  refine vs ?_
  rw[List.append_nil]at Yp
  subst Yp
  exact⟨b,s1,hb,e1.mono fun z hz h=>by omega⟩
 |cons c s=>
  have I7:c∈A:=by rw[Yp];simp
  have jb:=hx c (List.mem_cons_of_mem _ I7)
  have PM:c≠x:=fun e=>(List.nodup_cons.1 hn).1 (by rw[←e];exact I7)
  have pt:d.length+(s.length+1)=A.length:=by rw[Yp,List.length_append,List.length_cons]
  rw[List.length_cons]at bm
  refine am.dec (fun h=>absurd h PM) (fun _=>?_)
  refine vs ?_
  refine ZK (B:=H.size) hb (by omega) s1 c (by rw[List.length_cons];omega) fun w' H2 b' vY s2 e2=>?_
  refine vs ?_
  have h2:=h1.ext e2 (by omega) (by omega) (by omega)
  simp(disch:=(first|omega| (simp only[Zs]<;>omega)|fail)) only[go_sem, ↓reduceIte,Zv,ae h2.own,List.headD_cons]
  refine⟨⟨by omega,by omega⟩,?_⟩
  refine v4 (ae h2.OP) Nat.zero_add Nat.mul_one (rdn jb) ?_
  have JZ:cr N c=s.headD x:=hd (pj.X7.1 (by rw[←Yp];exact hp)).2
  exact⟨s.length,by simp,d++[c],s,w',b',rfl,by rw[Yp];simp,h2,vY,s2,e1.trans e2,by rw[JZ]⟩
end
end Go.Proofs.YtjlnnljohemifaaGreat

namespace Go.Proofs.YtjlnnljohemifaaGreat
open Go Go.Vc
structure Pc where
 u:Int
 k:Int
 d:Int
 m:Bool
def OQ(y:Pc):List Value:=[i64 y.u,i64 y.k,i64 y.d,.bool y.m]
def aM(L:List Pc):List Value:=L.flatMap OQ
theorem Ny(L:List Pc):(aM L).length=L.length*4:=by
 induction L with
 |nil=>rfl
 |cons c r ih=>simp only[aM,List.flatMap_cons,List.length_append,OQ,List.length_cons,List.length_nil]at*;omega
theorem aac{L:List Pc}{i:Nat}{y:Pc}(hi:L[i]? =some y):(aM L)[i*4]? =some (i64 y.u)∧(aM L)[i*4+1]? =some (i64 y.k)∧(aM L)[i*4+2]? =some (i64 y.d)∧(aM L)[i*4+3]? =some (.bool y.m):=by
 induction L generalizing i with
 |nil=>simp at hi
 |cons a r ih=>
  have e:aM (a::r)=i64 a.u::i64 a.k::i64 a.d:: .bool a.m::aM r:=rfl
  rw[e]
  cases i with
  |zero=>simp at hi;subst hi;exact⟨rfl,rfl,rfl,rfl⟩
  |succ i=>
   have:=ih (by simpa using hi)
   rw[show(i+1)*4=i*4+4 by omega]
   exact this
theorem qA{L:List Pc}{i:Nat}{y:Pc}(hi:L[i]? =some y):(∀v,(aM L).set (i*4) (i64 v)=aM (L.set i ⟨v,y.k,y.d,y.m⟩))∧(∀v,(aM L).set (i*4+1) (i64 v)=aM (L.set i ⟨y.u,v,y.d,y.m⟩))∧
  (∀v,(aM L).set (i*4+2) (i64 v)=aM (L.set i ⟨y.u,y.k,v,y.m⟩))∧(∀v,(aM L).set (i*4+3) (.bool v)=aM (L.set i ⟨y.u,y.k,y.d,v⟩))∧
  (∀z:Pc,bq (aM L) (i*4) [i64 z.u,i64 z.k,i64 z.d,.bool z.m]=aM (L.set i z)):=by
 induction L generalizing i with
 |nil=>simp at hi
 |cons a r ih=>
  have e:aM (a::r)=i64 a.u::i64 a.k::i64 a.d:: .bool a.m::aM r:=rfl
  cases i with
  |zero=>simp at hi;subst hi;exact⟨fun _=>rfl,fun _=>rfl,fun _=>rfl,fun _=>rfl,fun _=>rfl⟩
  |succ i=>
   obtain⟨h1,h2,h3,h4,h5⟩:=ih (by simpa using hi)
   have e2:∀z:Pc,aM ((a::r).set (i+1) z)=i64 a.u::i64 a.k::i64 a.d:: .bool a.m::aM (r.set i z):=fun _=>rfl
   refine⟨fun v=>?_,fun v=>?_,fun v=>?_,fun v=>?_,fun z=>?_⟩
   ·rw[e,e2,show(i+1)*4=i*4+1+1+1+1 by omega]
    simp only[List.set_cons_succ]
    rw[h1]
   ·rw[e,e2,show(i+1)*4+1=i*4+1+1+1+1+1 by omega]
    simp only[List.set_cons_succ]
    rw[h2]
   ·rw[e,e2,show(i+1)*4+2=i*4+2+1+1+1+1 by omega]
    simp only[List.set_cons_succ]
    rw[h3]
   ·rw[e,e2,show(i+1)*4+3=i*4+3+1+1+1+1 by omega]
    simp only[List.set_cons_succ]
    rw[h4]
   ·have h5:=h5 z
    simp only[bq]at h5 ⊢
    rw[e,e2,show(i+1)*4=i*4+1+1+1+1 by omega]
    simp only[List.set_cons_succ]
    rw[h5]
def qN:Pc:=⟨-1, -1,0,false⟩
def eX(L:List Pc)(x:Int):Pc:=if 0≤x then(L[x.toNat]?).getD qN else qN
theorem GR{L:List Pc}{x:Int}{y:Pc}(h0:0≤x)(h:L[x.toNat]? =some y):eX L x=y:=by unfold eX;rw[if_pos h0,h];rfl
def pF(f:Int→Pc)(x:Int)(y:Pc):Int→Pc:=fun z=>if z=x then y else f z
theorem CD{L:List Pc}{x:Int}(hx:0≤x∧x<L.length)(y:Pc):eX (L.set x.toNat y)=pF (eX L) x y:=by
 funext z
 show eX (L.set x.toNat y) z=if z=x then y else eX L z
 by_cases hz:z=x
 ·rw[if_pos hz,hz]
  unfold eX
  rw[if_pos hx.1,List.getElem?_set_self (by omega)];rfl
 ·rw[if_neg hz]
  unfold eX
  split
  ·rw[List.getElem?_set_ne (by omega)]
  ·rfl
structure FB where
 n:Nat
 c:Nat
 r:Nat
 nb:Nat
 pb:Nat
 tb:Nat
 tp:Nat
def FB.S(B:FB)(C:Nat→Prop)(z:Nat):Prop:=C z∨z=B.n∨z=B.r∨z=B.nb∨z=B.pb∨z=B.tb∨z=B.tp
structure bV(H:Hp)(B:FB)(C:Nat→Prop)(w:Nw)(N P:List Int)(L:List Pc)(tops:List Int):Prop where
 own:∃tv,H.own B.n=some [ptr B.c,ptr B.r,.slice (some ⟨B.tb,0,none⟩) L.length L.length,tv]∧Sl H 1 tv tops.length (tops.map i64) (some B.tp)
 cells:CQ H B.c C w
 ring:hZ H B.r B.nb B.pb N P
 inv:Bz (cr N) (cr P)
 places:H.own B.tb=some (aM L)
 len:L.length=w.cs.length∧N.length=w.cs.length
 qM:(B.n≠B.r∧B.n≠B.nb∧B.n≠B.pb∧B.n≠B.tb∧B.n≠B.tp)∧(B.tb≠B.r∧B.tb≠B.nb∧B.tb≠B.pb∧B.tb≠B.tp)∧(B.tp≠B.r∧B.tp≠B.nb∧B.tp≠B.pb)
 out:¬C B.n∧¬C B.r∧¬C B.nb∧¬C B.pb∧¬C B.tb∧¬C B.tp
section
variable {H H' : Hp} {B : FB} {C V : Nat → Prop} {w w' : Nw} {N P N' P' : List Int} {L L' : List Pc} {tops : List Int}
theorem bV.slt(h:bV H B C w N P L tops):∀z,B.S C z→z<H.size:=by
 obtain⟨tv,h1,h2⟩:=h.own
 rintro z (hz|rfl|rfl|rfl|rfl|rfl|rfl)
 ·exact h.cells.slt z hz
 ·exact aO h1
 ·exact aO h.ring.own
 ·exact aO h.ring.OP
 ·exact aO h.ring.U9
 ·exact aO h.places
 ·exact h2.lt
theorem bV.ext(h:bV H B C w N P L tops)(e:ai V H H')(hd:∀z,B.S C z→¬V z):bV H' B C w N P L tops:=by
 obtain⟨tv,h1,h2⟩:=h.own
 exact⟨⟨tv,e.own h1 (hd _ (.inr (.inl rfl))),h2.ext e (fun b hb=>by injection hb with hb;exact hb▸hd _ (.inr (.inr (.inr (.inr (.inr (.inr rfl)))))))⟩,h.cells.ext e (fun x hx=>hd x (.inl hx)),
  h.ring.ext e (hd _ (.inr (.inr (.inl rfl)))) (hd _ (.inr (.inr (.inr (.inl rfl))))) (hd _ (.inr (.inr (.inr (.inr (.inl rfl)))))),h.inv,e.own h.places (hd _ (.inr (.inr (.inr (.inr (.inr (.inl rfl))))))),h.len,h.qM,h.out⟩
theorem bV.fresh(h:bV H B C w N P L tops)(e:ay H H'):bV H' B C w N P L tops:=h.ext e fun _ _ h=>h
theorem bV.aK(h:bV H B C w N P L tops)(c1:CQ H' B.c C w')(e:ai C H H')(hl:w'.cs.length=w.cs.length):bV H' B C w' N P L tops:=by
 obtain⟨tv,h1,h2⟩:=h.own
 obtain⟨o1,o2,o3,o4,o5,o6⟩:=h.out
 exact⟨⟨tv,e.own h1 o1,h2.ext e (fun b hb=>by injection hb with hb;exact hb▸o6)⟩,c1,h.ring.ext e o2 o3 o4,h.inv,e.own h.places o5,by rw[hl];exact h.len,h.qM,h.out⟩
theorem bV.xw(h:bV H B C w N P L tops)(r1:hZ H' B.r B.nb B.pb N' P')(hi:Bz (cr N') (cr P'))(e:ai (fun z=>z=B.nb∨z=B.pb) H H')(hl:N'.length=N.length):bV H' B C w N' P' L tops:=by
 obtain⟨tv,h1,h2⟩:=h.own
 obtain⟨o1,o2,o3,o4,o5,o6⟩:=h.out
 obtain⟨⟨d1,d2,d3,d4,d5⟩,⟨d6,d7,d8,d9⟩,⟨d10,d11,d12⟩⟩:=h.qM
 exact⟨⟨tv,e.own h1 (by omega),h2.ext e (fun b hb=>by injection hb with hb;omega)⟩,h.cells.ext e (fun x hx hz=>by rcases hz with hz|hz;exact o3 (hz▸hx);exact o4 (hz▸hx)),r1,hi,e.own h.places (by omega),by rw[hl];exact h.len,h.qM,h.out⟩
theorem bV.R4(h:bV H B C w N P L tops)(hl:L'.length=L.length):bV (H.wr B.tb (aM L')) B C w N P L' tops∧ai (fun z=>z=B.tb) H (H.wr B.tb (aM L')):=by
 obtain⟨tv,h1,h2⟩:=h.own
 obtain⟨o1,o2,o3,o4,o5,o6⟩:=h.out
 obtain⟨⟨d1,d2,d3,d4,d5⟩,⟨d6,d7,d8,d9⟩,⟨d10,d11,d12⟩⟩:=h.qM
 have e:ai (fun z=>z=B.tb) H (H.wr B.tb (aM L')):=(ai.refl (fun z=>z=B.tb) _).wr (fun _=>rfl) _
 exact⟨⟨⟨tv,by rw[hl];exact e.own h1 d4,h2.ext e (fun b hb=>by injection hb with hb;omega)⟩,h.cells.ext e (fun x hx hz=>o5 (hz▸hx)),h.ring.ext e (Ne.symm d6) (Ne.symm d7) (Ne.symm d8),h.inv,aj h.places,by rw[hl];exact h.len,h.qM,h.out⟩,e⟩
theorem bV.hG(h:bV H B C w N P L tops):∃c l,H.own B.n=some [ptr B.c,ptr B.r,.slice (some ⟨B.tb,0,none⟩) L.length L.length,.slice (some ⟨B.tp,0,none⟩) tops.length c]∧H.own B.tp=some l∧tops.length≤c∧c≤l.length∧l.take tops.length=tops.map i64:=by
 obtain⟨tv,h1,_,l,c,rfl,h3,h4,h5,h6⟩:=h.own
 rw[Nat.mul_one]at h5 h6
 exact⟨c,l,h1,h3,h4,h5,h6⟩
theorem bV.fA(h:bV H B C w N P L tops){l:List Value}(hl:H.own B.tp=some l){i:Nat}{x:Int}(hx:tops[i]? =some x):l[i]? =some (i64 x):=by
 obtain⟨c,l',_,h2,_,_,h5⟩:=h.hG
 rw[hl]at h2
 injection h2 with h2
 subst h2
 have h7:(tops.map i64)[i]? =some (i64 x):=by rw[List.getElem?_map,hx];rfl
 rw[←h5,List.getElem?_take]at h7
 split at h7
 ·exact h7
 ·cases h7
theorem bV.nO(h:bV H B C w N P L tops){l:List Value}(hl:H.own B.tp=some l)(i:Nat)(v:Int):bV (H.wr B.tp (l.set i (i64 v))) B C w N P L (tops.set i v)∧ai (fun z=>z=B.tp) H (H.wr B.tp (l.set i (i64 v))):=by
 obtain⟨c,l',h1,h2,h3,h4,h5⟩:=h.hG
 rw[hl]at h2
 injection h2 with h2
 subst h2
 obtain⟨o1,o2,o3,o4,o5,o6⟩:=h.out
 obtain⟨⟨d1,d2,d3,d4,d5⟩,⟨d6,d7,d8,d9⟩,⟨d10,d11,d12⟩⟩:=h.qM
 have e:ai (fun z=>z=B.tp) H (H.wr B.tp (l.set i (i64 v))):=(ai.refl (fun z=>z=B.tp) _).wr (fun _=>rfl) _
 refine⟨⟨⟨_,e.own h1 d5,?_⟩,h.cells.ext e (fun x hx hz=>o6 (hz▸hx)),h.ring.ext e (Ne.symm d10) (Ne.symm d11) (Ne.symm d12),h.inv,e.own h.places d9,h.len,h.qM,h.out⟩,e⟩
 refine⟨by simp,l.set i (i64 v),c,by rw[List.length_set],aj hl,by rw[List.length_set];exact h3,by rw[List.length_set,Nat.mul_one];exact h4,?_⟩
 rw[List.length_set,Nat.mul_one,xT,h5,List.map_set]
theorem bV.rd(h:bV H B C w N P L tops){x:Int}(hx:0≤x∧x<w.cs.length):x.toNat*4+3< (aM L).length∧(aM L)[x.toNat*4]? =some (i64 (eX L x).u)∧(aM L)[x.toNat*4+1]? =some (i64 (eX L x).k)∧
  (aM L)[x.toNat*4+2]? =some (i64 (eX L x).d)∧(aM L)[x.toNat*4+3]? =some (.bool (eX L x).m):=by
 have hl:=h.len
 have hf:=Ny L
 obtain⟨y,hy⟩:∃y,L[x.toNat]? =some y:=⟨_,List.getElem?_eq_getElem (by omega)⟩
 obtain⟨h1,h2,h3,h4⟩:=aac hy
 rw[GR hx.1 hy]
 exact⟨by omega,h1,h2,h3,h4⟩
theorem bV.aI(h:bV H B C w N P L tops){x:Int}(hx:0≤x∧x<w.cs.length)(v:Int):∃L',eX L'=pF (eX L) x ⟨v,(eX L x).k,(eX L x).d,(eX L x).m⟩∧bV (H.wr B.tb ((aM L).set (x.toNat*4) (i64 v))) B C w N P L' tops∧ai (fun z=>z=B.tb) H (H.wr B.tb ((aM L).set (x.toNat*4) (i64 v))):=by
 have hl:=h.len
 obtain⟨y,hy⟩:∃y,L[x.toNat]? =some y:=⟨_,List.getElem?_eq_getElem (by omega)⟩
 rw[GR hx.1 hy,(qA hy).1]
 exact⟨_,CD (by omega) _,h.R4 (List.length_set ..)⟩
theorem bV.eG(h:bV H B C w N P L tops){x:Int}(hx:0≤x∧x<w.cs.length)(v:Int):∃L',eX L'=pF (eX L) x ⟨(eX L x).u,v,(eX L x).d,(eX L x).m⟩∧bV (H.wr B.tb ((aM L).set (x.toNat*4+1) (i64 v))) B C w N P L' tops∧ai (fun z=>z=B.tb) H (H.wr B.tb ((aM L).set (x.toNat*4+1) (i64 v))):=by
 have hl:=h.len
 obtain⟨y,hy⟩:∃y,L[x.toNat]? =some y:=⟨_,List.getElem?_eq_getElem (by omega)⟩
 rw[GR hx.1 hy,(qA hy).2.1]
 exact⟨_,CD (by omega) _,h.R4 (List.length_set ..)⟩
theorem bV.WA(h:bV H B C w N P L tops){x:Int}(hx:0≤x∧x<w.cs.length)(v:Int):∃L',eX L'=pF (eX L) x ⟨(eX L x).u,(eX L x).k,v,(eX L x).m⟩∧bV (H.wr B.tb ((aM L).set (x.toNat*4+2) (i64 v))) B C w N P L' tops∧ai (fun z=>z=B.tb) H (H.wr B.tb ((aM L).set (x.toNat*4+2) (i64 v))):=by
 have hl:=h.len
 obtain⟨y,hy⟩:∃y,L[x.toNat]? =some y:=⟨_,List.getElem?_eq_getElem (by omega)⟩
 rw[GR hx.1 hy,(qA hy).2.2.1]
 exact⟨_,CD (by omega) _,h.R4 (List.length_set ..)⟩
theorem bV.cX(h:bV H B C w N P L tops){x:Int}(hx:0≤x∧x<w.cs.length)(v:Bool):∃L',eX L'=pF (eX L) x ⟨(eX L x).u,(eX L x).k,(eX L x).d,v⟩∧bV (H.wr B.tb ((aM L).set (x.toNat*4+3) (.bool v))) B C w N P L' tops∧ai (fun z=>z=B.tb) H (H.wr B.tb ((aM L).set (x.toNat*4+3) (.bool v))):=by
 have hl:=h.len
 obtain⟨y,hy⟩:∃y,L[x.toNat]? =some y:=⟨_,List.getElem?_eq_getElem (by omega)⟩
 rw[GR hx.1 hy,(qA hy).2.2.2.1]
 exact⟨_,CD (by omega) _,h.R4 (List.length_set ..)⟩
theorem bV.Nz(h:bV H B C w N P L tops){x:Int}(hx:0≤x∧x<w.cs.length)(z:Pc):∃L',eX L'=pF (eX L) x z∧bV (H.wr B.tb (bq (aM L) (x.toNat*4) [i64 z.u,i64 z.k,i64 z.d,.bool z.m])) B C w N P L' tops∧ai (fun z=>z=B.tb) H (H.wr B.tb (bq (aM L) (x.toNat*4) [i64 z.u,i64 z.k,i64 z.d,.bool z.m])):=by
 have hl:=h.len
 obtain⟨y,hy⟩:∃y,L[x.toNat]? =some y:=⟨_,List.getElem?_eq_getElem (by omega)⟩
 rw[(qA hy).2.2.2.2]
 exact⟨_,CD (by omega) _,h.R4 (List.length_set ..)⟩
end
end Go.Proofs.YtjlnnljohemifaaGreat

namespace Go.Proofs.YtjlnnljohemifaaGreat
open Go Go.Vc
def KM(f:Int→Pc)(ch:Int→List Int)(par:Int→Int):Prop:=∀x,(f x).u=par x∧(f x).k=(ch x).headD (-1)∧(f x).d=(ch x).length
section
variable {H H' : Hp} {B : FB} {C V : Nat → Prop} {w : Nw} {N P : List Int} {L : List Pc} {tops : List Int} {ch : Int → List Int} {par : Int → Int} {aw : Int → List Int} {W : List Int}
theorem dU.R5{lt:Int→Int→Bool}{nx:Int→Int}(f:dU (aH w) lt nx ch par aw W){x:Int}(hx:x∈W):0≤x∧x<w.cs.length:=by
 obtain⟨a,b,_⟩:=aF (f.wm x hx).2.2
 exact⟨a,b⟩
theorem dU.rin{lt:Int→Int→Bool}{nx:Int→Int}(f:dU (aH w) lt nx ch par aw W){g x:Int}(hx:x∈aw g):0≤x∧x<w.cs.length:=by
 obtain⟨h1,_,h2,_⟩:=f.rm g x hx
 obtain⟨a,b,_⟩:=aF (w:=w) (x:=x) (by omega)
 exact⟨a,b⟩
theorem dU.Hw{lt:Int→Int→Bool}{nx:Int→Int}(f:dU (aH w) lt nx ch par aw W){p x:Int}(hx:x∈ch p):0≤x∧x<w.cs.length:=by
 obtain⟨a,b,_⟩:=aF (f.pr.dn p x hx).2.2.2.1
 exact⟨a,b⟩
set_option maxHeartbeats 1000000 in
theorem zE(m:bV H B C w N P L tops){x g:Int}(f:dU (aH w) (aT w) (cr N) ch par aw (x::W))(hg:aH w x=g)(dv:g<tops.length)(ht:br tops g=(aw g).headD (-1)):
  ah Tryz.prog vt [ptr B.n,i64 g,i64 x] H fun v H'=>ax (∃N' P' GS l,bV H' B C w N' P' L GS∧GS.length=tops.length∧br GS=kL (br tops) g (l.headD (-1))∧
   dU (aH w) (aT w) (cr N') ch par (aA aw g l) W∧(l.headD (-1)=x∨(l.headD (-1)=br tops g∧br tops g≠ -1))∧l.headD (-1)≠ -1∧
   (x≠l.headD (-1)→aT w (l.headD (-1)) x=true)∧(br tops g≠ -1→br tops g≠l.headD (-1)→aT w (l.headD (-1)) (br tops g)=true)∧ai (fun z=>C z∨z=B.nb∨z=B.pb∨z=B.tp) H H'):=by
 have hx:=f.R5 (x:=x) (by simp)
 have FI:=f.X8 (c:=x) (by simp)
 have Rh:0<g:=by rw[←hg];exact(f.wm x (by simp)).2.2
 obtain⟨cc,lt,o1,q1,Bn,xM,MF⟩:=m.hG
 have q2:=m.fA q1 (dW (tops:=tops) (h:=g) (by omega) dv)
 have bm:=m.len
 refine bc vG ⟨rfl,?_⟩
 refine v2 fR.eq_1 (ae o1) ?_
 refine⟨⟨by omega,by omega⟩,?_⟩
 refine v4 (ae q1) Nat.zero_add Nat.mul_one q2 ?_
 refine am.dec (fun h0=>?_) (fun h0=>?_)<;>refine v1 (ae o1) ?_
 ·have hr:aw g=[]:=by
   rw[h0]at ht
   cases hc:aw g with
   |nil=>rfl
   |cons c r=>rw[hc]at ht;exact absurd ht.symm (f.rne (h:=g) (by rw[hc];simp))
  refine⟨⟨by omega,by omega⟩,?_⟩
  refine v3 q1 Nat.zero_add Nat.mul_one ?_
  refine⟨by omega,?_⟩
  obtain⟨m2,e2⟩:=m.nO q1 g.toNat x
  refine vs ?_
  have f2:=f.Zh (by rw[hg];exact hr)
  rw[hg]at f2
  exact⟨N,P,_,[x],m2,List.length_set ..,eU (by omega) dv x,f2,.inl rfl,FI,fun h=>absurd rfl h,fun h=>absurd h0 h,e2.mono fun z _ h=>.inr (.inr (.inr h))⟩
 obtain⟨t,A,hr⟩:∃t A,aw g=t::A:=by
  cases hc:aw g with
  |nil=>rw[hc]at ht;exact absurd ht h0
  |cons c r=>exact⟨c,r,rfl⟩
 have htt:br tops g=t:=by rw[ht,hr];rfl
 rw[htt]
 rw[htt]at q2
 have htr:=f.rin (g:=g) (x:=t) (by rw[hr];simp)
 have htn:=f.rne (c:=t) (h:=g) (by rw[hr];simp)
 have Zg:t≠x:=fun e=>(f.rm g t (by rw[hr];simp)).2.2.2 (by rw[e];simp)
 refine⟨⟨by omega,by omega⟩,?_⟩
 refine v4 (ae q1) Nat.zero_add Nat.mul_one q2 ?_
 refine(dw m.ring m.inv (x:=t) (y:=x) (by omega) (by omega)).mono ?_
 rintro _ H2 ⟨rfl,N2,P2,r2,l2,n2,i2,e2⟩
 have m2:=m.xw r2 i2 e2 l2
 have f2:=f.Rf (t:=t) (A:=A) (by rw[hg];exact hr)
 rw[hg,←n2]at f2
 obtain⟨cc,lt2,o2,q3,_⟩:=m2.hG
 have q4:=m2.fA q3 (dW (tops:=tops) (h:=g) (by omega) dv)
 rw[htt]at q4
 refine v1 (ae o2) ?_
 refine⟨⟨by omega,by omega⟩,?_⟩
 refine v4 (ae q3) Nat.zero_add Nat.mul_one q4 ?_
 refine(cI m2.cells x t).mono ?_
 rintro _ H3 ⟨rfl,c3,e3⟩
 have m3:=m2.aK c3 e3 rfl
 have zJ:=jj (w:=w) (a:=x) (b:=t) (by omega) (by have:=(f.rm g t (by rw[hr];simp)).1;omega)
 rw[zJ]
 have Fj:ai (fun z=>C z∨z=B.nb∨z=B.pb∨z=B.tp) H H3:=(e2.mono fun z _ h=>h.elim (fun h=>.inr (.inl h)) (fun h=>.inr (.inr (.inl h)))).trans (e3.mono fun z _ h=>.inl h)
 cases aR:aT w x t
 ·refine vs ?_
  have UR:=((aq w).Oo t x Zg).resolve_right (by rw[aR];simp)
  refine⟨N2,P2,tops,t::x::A,m3,rfl,?_,f2,.inr ⟨rfl,htn⟩,htn,fun _=>UR,fun _ h=>absurd rfl h,Fj⟩
  funext z
  show br tops z=if z=g then t else br tops z
  split
  ·rename_i e;rw[e,htt]
  ·rfl
 ·obtain⟨cc,lt3,o3,q5,_,hc5,_⟩:=m3.hG
  have q6:=m3.fA q5 (dW (tops:=tops) (h:=g) (by omega) dv)
  have tC:=(List.getElem?_eq_some_iff.1 q6).1
  refine v1 (ae o3) ?_
  refine⟨⟨by omega,by omega⟩,?_⟩
  refine v3 q5 Nat.zero_add Nat.mul_one ?_
  refine⟨by omega,?_⟩
  obtain⟨m4,e4⟩:=m3.nO q5 g.toNat x
  refine vs ?_
  have f3:=f2.yd (g:=g) (l:=x::A++[t]) (by
   unfold aA
   rw[if_pos rfl]
   exact List.perm_append_comm (l₁:=[t]) (l₂:=x::A)) (by
   have:=f2.rc g
   unfold aA at this
   rw[if_pos rfl]at this
   exact xO.Zf (l1:=[t]) (l2:=x::A) this)
  rw[eJ]at f3
  exact⟨N2,P2,_,x::A++[t],m4,List.length_set ..,eU (by omega) dv x,f3,.inl rfl,FI,fun h=>absurd rfl h,fun _ _=>aR,Fj.trans (e4.mono fun z _ h=>.inr (.inr (.inr h)))⟩
set_option maxHeartbeats 1000000 in
theorem GU(m:bV H B C w N P L tops){x y:Int}(f:dU (aH w) (aT w) (cr N) ch par aw (x::y::W))(hp:KM (eX L) ch par)(hh:aH w x=aH w y)(hl:aT w x y=true):
  ah Tryz.prog tN [ptr B.n,i64 y,i64 x] H fun v H'=>ax (∃N' P' L' dT bG,bV H' B C w N' P' L' tops∧dU (aH w) (aT w) (cr N') dT bG aw (x::W)∧KM (eX L') dT bG∧(dT x).length=(ch x).length+1∧(∀z,z≠x→dT z=ch z)∧
   ai (fun z=>z=B.nb∨z=B.pb∨z=B.tb) H H'):=by
 have hx:=f.R5 (x:=x) (by simp)
 have hy:=f.R5 (x:=y) (by simp)
 have QR:x≠y:=fun e=>by rw[e,(aq w).xN]at hl;cases hl
 have bm:=m.len
 obtain⟨tv,o1,_⟩:=m.own
 obtain⟨px,kx,dx⟩:=hp x
 obtain⟨py,ky,dy⟩:=hp y
 obtain⟨a0,a1,a2,a3,a4⟩:=m.rd hx
 have qQ:(ch x).length≤w.cs.length:=bY (f.pr.nd x) fun c hc=>f.Hw hc
 have zh:=m.cells.Fc
 refine bc uc ⟨rfl,?_⟩
 refine v2 fw.eq_1 (ae o1) ?_
 refine⟨⟨by omega,by omega⟩,?_⟩
 refine v1 (ae o1) ?_
 refine⟨⟨by omega,by omega⟩,?_⟩
 refine v3 (ae m.places) Nat.zero_add a2 ?_
 refine am.dec (fun h0=>?_) (fun h0=>?_)<;>refine vs ?_
 ·have hc:ch x=[]:=by
   rw[h0]at kx
   cases hc:ch x with
   |nil=>rfl
   |cons c r=>rw[hc]at kx;exact absurd kx.symm (f.pr.ne (x:=x) (by rw[hc];simp))
  have f1:=f.VH hh hl hc
  obtain⟨H1,eH⟩:∃H1,H1=H:=⟨_,rfl⟩
  rw[←eH]at m ⊢
  have m1:=m
  obtain⟨N1,eN⟩:∃N1,N1=N:=⟨_,rfl⟩
  obtain⟨P1,eP⟩:∃P1,P1=P:=⟨_,rfl⟩
  rw[←eN,←eP]at m1
  rw[←eN]at f1
  have e1:ai (fun z=>z=B.nb∨z=B.pb) H1 H1:=ai.refl _ _
  have vk:([y]:List Int).length=(ch x).length+1:=by rw[hc];rfl
  obtain⟨b0,_⟩:=m1.rd hx
  obtain⟨L2,k2,m2,e2⟩:=m1.eG hx y
  refine v2 m1.places Nat.zero_add ?_
  refine⟨by omega,?_⟩
  refine vs ?_
  generalize H1.wr B.tb ((aM L).set (x.toNat*4+1) (i64 y))=H2 at*
  obtain⟨c0,c1,c2,c3,c4⟩:=m2.rd hx
  have oN:(eX L2 x).d=(ch x).length:=by rw[k2];unfold pF;rw[if_pos rfl];exact dx
  obtain⟨L3,k3,m3,e3⟩:=m2.WA hx ((eX L2 x).d+1)
  rw[oN]at c3 k3 m3 e3
  refine v4 (ae m2.places) m2.places Nat.zero_add c3 ?_
  rw[wrap64 (by omega) (by omega)]
  refine⟨by omega,?_⟩
  refine vs ?_
  generalize H2.wr B.tb ((aM L2).set (x.toNat*4+2) (i64 ((ch x).length+1)))=H3 at*
  obtain⟨d0,_⟩:=m3.rd hy
  obtain⟨L4,k4,m4,e4⟩:=m3.aI hy x
  refine v3 m3.places Nat.zero_add Nat.add_zero ?_
  refine⟨by omega,?_⟩
  refine vs ?_
  generalize H3.wr B.tb ((aM L3).set (y.toNat*4) (i64 x))=H4 at*
  obtain⟨g0,_⟩:=m4.rd hy
  obtain⟨L5,k5,m5,e5⟩:=m4.cX hy false
  refine v3 m4.places Nat.zero_add Nat.add_zero ?_
  refine⟨by omega,?_⟩
  refine vs ?_
  refine⟨N1,P1,L5,_,_,m5,f1,fun z=>?_,?_,fun z hz=>?_,((((e1.mono fun z _ h=>h.elim .inl fun h=>.inr (.inl h)).trans (e2.mono fun z _ h=>.inr (.inr h))).trans (e3.mono fun z _ h=>.inr (.inr h))).trans (e4.mono fun z _ h=>.inr (.inr h))).trans (e5.mono fun z _ h=>.inr (.inr h))⟩
  ·rw[k5,k4,k3,k2]
   unfold pF aA
   by_cases h1:z=y
   ·rw[h1,if_pos rfl,if_neg QR.symm,if_neg QR.symm]
    simp only[if_neg QR.symm,if_true]
    refine⟨by unfold aI;rw[if_pos rfl],?_,?_⟩
    ·exact ky
    ·exact dy
   ·rw[if_neg h1]
    unfold aI
    rw[if_neg h1]
    by_cases h2:z=x
    ·rw[h2]
     simp only[if_true,if_neg QR]
     exact⟨px,rfl,by rw[vk];omega⟩
    ·simp only[if_neg h1,if_neg h2]
     exact hp z
  ·unfold aA;rw[if_pos rfl,vk]
  ·unfold aA;rw[if_neg hz]
 ·obtain⟨k,K,hc⟩:∃k K,ch x=k::K:=by
   cases hc:ch x with
   |nil=>rw[hc]at kx;exact absurd kx h0
   |cons c r=>exact⟨c,r,rfl⟩
  have hk:(eX L x).k=k:=by rw[kx,hc];rfl
  have Yq:=f.Hw (p:=x) (x:=k) (by rw[hc];simp)
  have f1:=f.under hh hl hc
  rw[hk]at a2
  refine v4 (ae o1) (ae m.places) Nat.zero_add a2 ?_
  refine(dw m.ring m.inv (x:=k) (y:=y) (by omega) (by omega)).mono ?_
  rintro _ H1 ⟨rfl,N1,P1,r1,l1,n1,i1,e1⟩
  have m1:=m.xw r1 i1 e1 l1
  rw[←n1]at f1
  have vk:(y::K++[k]).length=(ch x).length+1:=by rw[hc];simp
  refine vs ?_
  obtain⟨b0,_⟩:=m1.rd hx
  obtain⟨L2,k2,m2,e2⟩:=m1.eG hx y
  refine v2 m1.places Nat.zero_add ?_
  refine⟨by omega,?_⟩
  refine vs ?_
  generalize H1.wr B.tb ((aM L).set (x.toNat*4+1) (i64 y))=H2 at*
  obtain⟨c0,c1,c2,c3,c4⟩:=m2.rd hx
  have oN:(eX L2 x).d=(ch x).length:=by rw[k2];unfold pF;rw[if_pos rfl];exact dx
  obtain⟨L3,k3,m3,e3⟩:=m2.WA hx ((eX L2 x).d+1)
  rw[oN]at c3 k3 m3 e3
  refine v4 (ae m2.places) m2.places Nat.zero_add c3 ?_
  rw[wrap64 (by omega) (by omega)]
  refine⟨by omega,?_⟩
  refine vs ?_
  generalize H2.wr B.tb ((aM L2).set (x.toNat*4+2) (i64 ((ch x).length+1)))=H3 at*
  obtain⟨d0,_⟩:=m3.rd hy
  obtain⟨L4,k4,m4,e4⟩:=m3.aI hy x
  refine v3 m3.places Nat.zero_add Nat.add_zero ?_
  refine⟨by omega,?_⟩
  refine vs ?_
  generalize H3.wr B.tb ((aM L3).set (y.toNat*4) (i64 x))=H4 at*
  obtain⟨g0,_⟩:=m4.rd hy
  obtain⟨L5,k5,m5,e5⟩:=m4.cX hy false
  refine v3 m4.places Nat.zero_add Nat.add_zero ?_
  refine⟨by omega,?_⟩
  refine vs ?_
  refine⟨N1,P1,L5,_,_,m5,f1,fun z=>?_,?_,fun z hz=>?_,((((e1.mono fun z _ h=>h.elim .inl fun h=>.inr (.inl h)).trans (e2.mono fun z _ h=>.inr (.inr h))).trans (e3.mono fun z _ h=>.inr (.inr h))).trans (e4.mono fun z _ h=>.inr (.inr h))).trans (e5.mono fun z _ h=>.inr (.inr h))⟩
  ·rw[k5,k4,k3,k2]
   unfold pF aA
   by_cases h1:z=y
   ·rw[h1,if_pos rfl,if_neg QR.symm,if_neg QR.symm]
    simp only[if_neg QR.symm,if_true]
    refine⟨by unfold aI;rw[if_pos rfl],?_,?_⟩
    ·exact ky
    ·exact dy
   ·rw[if_neg h1]
    unfold aI
    rw[if_neg h1]
    by_cases h2:z=x
    ·rw[h2]
     simp only[if_true,if_neg QR]
     exact⟨px,rfl,by rw[vk];omega⟩
    ·simp only[if_neg h1,if_neg h2]
     exact hp z
  ·unfold aA;rw[if_pos rfl,vk]
  ·unfold aA;rw[if_neg hz]
end
end Go.Proofs.YtjlnnljohemifaaGreat

namespace Go.Proofs.YtjlnnljohemifaaGreat
open Go Go.Vc
theorem xx(H:Hp):ah Tryz.prog BH [] H fun v H'=>ax (v= .agg #[i64 (-1),i64 (-1),i64 0,.bool false]∧ay H H'):=by
 refine bc BY ⟨rfl,?_⟩
 have f0:ay H (H.new 273 [Value.int .i64 0,Value.int .i64 0,Value.int .i64 0,Value.bool false]):=(ai.refl _ _).new _ _
 refine v1 lc.eq_1 ?_
 have q:((H.new 273 [Value.int .i64 0,Value.int .i64 0,Value.int .i64 0,Value.bool false]).wr H.size [Value.int .i64 (-1),Value.int .i64 (-1),Value.int .i64 0,Value.bool false]).own H.size=some [Value.int .i64 (-1),Value.int .i64 (-1),Value.int .i64 0,Value.bool false]:=aj (aG _ _ _)
 have e2:ai (fun z=>z=H.size) (H.new 273 [Value.int .i64 0,Value.int .i64 0,Value.int .i64 0,Value.bool false]) ((H.new 273 [Value.int .i64 0,Value.int .i64 0,Value.int .i64 0,Value.bool false]).wr H.size [Value.int .i64 (-1),Value.int .i64 (-1),Value.int .i64 0,Value.bool false]):=(ai.refl (fun z=>z=H.size) _).wr (fun _=>rfl) _
 refine v1 (ae q) ?_
 exact⟨rfl,f0.then e2 (fun z hz=>by omega)⟩
section
variable {H H' : Hp} {B : FB} {C V : Nat → Prop} {w : Nw} {N P : List Int} {L : List Pc} {tops : List Int} {ch : Int → List Int} {par : Int → Int} {aw : Int → List Int} {W : List Int}
set_option maxHeartbeats 2000000 in
theorem GV(m:bV H B C w N P L tops){x g:Int}{A:List Int}(f:dU (aH w) (aT w) (cr N) ch par aw W)(hp:KM (eX L) ch par)(hr:aw g=x::A):
  ah Tryz.prog tM [ptr B.n,i64 x] H fun v H'=>ax (∃N' P' L' A',bV H' B C w N' P' L' tops∧dU (aH w) (aT w) (cr N') (aA ch x []) (gf ch par x) (aA aw g (x::A')) W∧KM (eX L') (aA ch x []) (gf ch par x)∧
   ai (fun z=>z=B.nb∨z=B.pb∨z=B.tb) H H'):=by
 have hx:=f.rin (g:=g) (x:=x) (by rw[hr];simp)
 have ec:=(f.rm g x (by rw[hr];simp)).2.1
 have bm:=m.len
 have zh:=m.cells.Fc
 obtain⟨tv,o1,_⟩:=m.own
 obtain⟨px,kx,dx⟩:=hp x
 obtain⟨a0,a1,a2,a3,a4⟩:=m.rd hx
 refine bc ua ⟨rfl,?_⟩
 refine v2 ln.eq_1 (ae o1) ?_
 refine⟨⟨by omega,by omega⟩,?_⟩
 refine v3 (ae m.places) Nat.zero_add a2 ?_
 refine am.dec (fun h0=>?_) (fun h0=>?_)<;>refine vs ?_
 ·have hc:ch x=[]:=by
   rw[h0]at kx
   cases hc:ch x with
   |nil=>rfl
   |cons c r=>rw[hc]at kx;exact absurd kx.symm (f.pr.ne (x:=x) (by rw[hc];simp))
  have e1:aA ch x []=ch:=by
   funext z
   unfold aA
   split
   ·rename_i e;rw[e,hc]
   ·rfl
  have e2:gf ch par x=par:=by
   funext z
   unfold gf
   rw[hc,if_neg (by simp)]
  have e3:aA aw g (x::A)=aw:=by
   funext z
   unfold aA
   split
   ·rename_i e;rw[e,hr]
   ·rfl
  exact⟨N,P,L,A,m,by rw[e1,e2,e3];exact f,by rw[e1,e2];exact hp,ai.refl _ _⟩
 obtain⟨k,K,hc⟩:∃k K,ch x=k::K:=by
  cases hc:ch x with
  |nil=>rw[hc]at kx;exact absurd kx h0
  |cons c r=>exact⟨c,r,rfl⟩
 have hk:(eX L x).k=k:=by rw[kx,hc];rfl
 rw[hk]
 have BA:=f.cy x
 have kM:=f.pr.nd x
 rw[hc]at BA kM
 have bS:∀c∈k::K,0≤c∧c<w.cs.length:=fun c I7=>f.Hw (p:=x) (by rw[hc];exact I7)
 have Z6:(k::K).length≤w.cs.length:=bY kM bS
 have hk1:(k::K).length=K.length+1:=List.length_cons
 refine v1 (ae o1) ?_
 refine(r7 m.ring BA kM (fun c I7=>by have:=bS c I7;omega) (by omega)).mono ?_
 rintro kv H1 ⟨b,s1,hb,f1⟩
 have m1:=m.fresh f1
 have z1:=f1.size
 have hS:=m.slt
 have UQ:B.tb<H.size:=hS _ (.inr (.inr (.inr (.inr (.inr (.inl rfl))))))
 obtain⟨ka,kc,rfl⟩:=Sl.shape s1
 refine vs ?_
 refine bD.intro (fun mm env H'=>∃ (i:Nat) (L':List Pc),mm=(k::K).length - i∧i≤(k::K).length∧bV H' B C w N P L' tops∧Sl H' 1 (.slice ka (k::K).length kc) (k::K).length ((k::K).map i64) (some b)∧ai (fun z=>z=B.tb) H H'∧
  (∀z,(eX L' z).k=(eX L z).k∧(eX L' z).d=(eX L z).d∧(eX L' z).u=if z∈(k::K).take i then -1 else(eX L z).u)∧
  env=[(0,ptr B.n),(1,i64 x),(4,i64 k),(22,.slice ka (k::K).length kc),(23,i64 (k::K).length),(24,i64 i)]) _ ⟨0,L,rfl,by omega,m1,s1,f1.mono (fun _ _ h=>h.elim),fun z=>⟨rfl,rfl,by simp⟩,rfl⟩ ?_
 rintro mm env H2 ⟨i,L2,rfl,hi,m2,s2,e2,g2,rfl⟩
 refine vs ?_
 refine am.dec (fun gi=>?_) (fun gi=>?_)<;>refine vs ?_
 ·have mX:i< (k::K).length:=by omega
  obtain⟨c,I1⟩:∃c,(k::K)[i]? =some c:=⟨_,List.getElem?_eq_getElem mX⟩
  have I7:=bS c (List.mem_of_getElem? I1)
  obtain⟨_,kb,lb,rfl,q2,q3⟩:=Sl.AU s2 I1
  obtain⟨Nk,o2,_⟩:=m2.own
  have vU:=m2.len
  refine⟨⟨by omega,by omega⟩,?_⟩
  refine v6 (ae q2) Nat.zero_add Nat.mul_one Int.toNat_natCast q3 (ae o2) ?_
  refine⟨⟨by omega,by omega⟩,?_⟩
  obtain⟨b0,_⟩:=m2.rd I7
  obtain⟨L3,k3,m3,e3⟩:=m2.aI I7 (-1)
  refine v3 m2.places Nat.zero_add Nat.add_zero ?_
  refine⟨by omega,?_⟩
  refine vs ?_
  generalize H2.wr B.tb ((aM L2).set (c.toNat*4) (Value.int .i64 (-1)))=H3 at*
  obtain⟨c0,_⟩:=m3.rd I7
  have Tf:=m3.len
  obtain⟨L4,k4,m4,e4⟩:=m3.cX I7 false
  refine⟨⟨by omega,by omega⟩,?_⟩
  refine v3 m3.places Nat.zero_add Nat.add_zero ?_
  refine⟨by omega,?_⟩
  refine vs ?_
  refine⟨(k::K).length - (i+1),by omega,i+1,L4,rfl,by omega,m4,(s2.ext e3 (fun z hz eA=>by injection hz with hz;omega)).ext e4 (fun z hz eA=>by injection hz with hz;omega),(e2.trans e3).trans e4,fun z=>?_,?_⟩
  ·have tk:(k::K).take (i+1)=(k::K).take i++[c]:=by rw[List.take_add_one,I1];rfl
   obtain⟨g3,g4,g5⟩:=g2 z
   rw[tk,k4,k3]
   unfold pF
   by_cases hz:z=c
   ·simp only[hz,if_true]
    rw[hz]at g3 g4
    exact⟨g3,g4,by simp⟩
   ·simp only[if_neg hz]
    refine⟨g3,g4,?_⟩
    rw[g5]
    simp only[List.mem_append,List.mem_singleton,hz,or_false]
  ·rw[wrap64 (by omega) (by omega)]
   rfl
 obtain rfl:i=(k::K).length:=by omega
 rw[List.take_length]at g2
 have Yq:=bS k (by simp)
 have f2:=f.raise hr hc
 obtain⟨Nk,o2,_⟩:=m2.own
 have vU:=m2.len
 refine v1 (ae o2) ?_
 refine(dw m2.ring m2.inv (x:=x) (y:=k) (by omega) (by omega)).mono ?_
 rintro _ H3 ⟨rfl,N3,P3,r3,l3,n3,i3,e3⟩
 have m3:=m2.xw r3 i3 e3 l3
 rw[←n3]at f2
 obtain⟨cc,lt,o3,_⟩:=m3.hG
 refine vs ?_
 refine rV.intro (fun H'=>H'.own B.n=some [ptr B.c,ptr B.r,.slice (some ⟨B.tb,0,none⟩) L2.length L2.length,.slice (some ⟨B.tp,0,none⟩) tops.length cc]) o3 ?_
 refine vs ?_
 refine rW.intro (.slice (some ⟨B.tb,0,none⟩) L2.length L2.length) (fun H' hI=>by refine v1 (ae hI) ?_;trivial) ?_
 refine vs ?_
 refine(xx H3).mono ?_
 rintro _ H4 ⟨rfl,e4⟩
 have o4:=e4.own o3 (fun h=>h)
 refine And.intro o4 ?_
 have m4:=m3.fresh e4
 refine vs ?_
 refine⟨⟨by omega,by omega⟩,?_⟩
 obtain⟨b0,_⟩:=m4.rd hx
 obtain⟨L5,k5,m5,e5⟩:=m4.Nz hx qN
 refine v2 m4.places Nat.zero_add ?_
 refine⟨by omega,?_⟩
 rw[show bq (aM L2) (x.toNat*4) (aJ (Value.agg #[i64 (-1),i64 (-1),i64 0,Value.bool false]))=bq (aM L2) (x.toNat*4) [i64 qN.u,i64 qN.k,i64 qN.d,.bool qN.m]from rfl]
 have Db:=m4.qM.1.2.2.2.1
 generalize H4.wr B.tb (bq (aM L2) (x.toNat*4) [i64 qN.u,i64 qN.k,i64 qN.d,.bool qN.m])=H5 at*
 refine vs ?_
 refine And.intro (e5.own o4 Db) ?_
 refine vs ?_
 refine⟨N3,P3,L5,K++k::A,m5,f2,fun z=>?_,(((e2.mono fun z _ h=>.inr (.inr h)).trans (e3.mono fun z _ h=>h.elim .inl fun h=>.inr (.inl h))).trans (e4.mono fun z _ h=>h.elim)).trans (e5.mono fun z _ h=>.inr (.inr h))⟩
 rw[k5]
 unfold pF aA gf
 obtain⟨g3,g4,g5⟩:=g2 z
 obtain⟨pz,kz,dz⟩:=hp z
 by_cases hz:z=x
 ·rw[if_pos hz,if_pos hz,hz,if_neg (fun h=>by have:=(f.MM h).1 g;rw[hr]at this;exact this (by simp)),ec]
  exact⟨rfl,rfl,rfl⟩
 ·rw[if_neg hz,if_neg hz,g3,g4,g5,hc]
  refine⟨?_,kz,dz⟩
  split
  ·rfl
  ·exact pz
end
end Go.Proofs.YtjlnnljohemifaaGreat

namespace Go.Proofs.YtjlnnljohemifaaGreat
open Go Go.Vc
section
variable {H H' : Hp} {B : FB} {C V : Nat → Prop} {w : Nw} {N P : List Int} {L : List Pc} {tops : List Int} {ch : Int → List Int} {par : Int → Int} {aw : Int → List Int} {W : List Int}
set_option maxHeartbeats 4000000 in
theorem CE(m:bV H B C w N P L tops){lt:Int→Int→Bool}(hs:bB lt){x p g t:Int}{A:List Int}(f:dU (aH w) lt (cr N) ch par aw W)(hp:KM (eX L) ch par)(hx:x∈ch p)(hg:aH w x=g)(dv:g<tops.length)(hr:aw g=t::A)(ht:br tops g=t):
  ah Tryz.prog wx [ptr B.n,i64 g,i64 x] H fun v H'=>ax (∃N' P' L' l,bV H' B C w N' P' L' tops∧dU (aH w) lt (cr N') (aA ch p l) (aI par x (-1)) (aA aw g (t::x::A)) W∧KM (eX L') (aA ch p l) (aI par x (-1))∧(ch p).Perm (x::l)∧
   ai (fun z=>z=B.nb∨z=B.pb∨z=B.tb) H H'):=by
 obtain⟨x1,x2,x3,x4,x5⟩:=f.pr.dn p x hx
 have ec:p≠x:=fun e=>by rw[e,hs.xN]at x5;cases x5
 have xm:=f.Hw hx
 obtain⟨p0,p1,_⟩:=aF (w:=w) (x:=p) (by omega)
 have bm:=m.len
 have zh:=m.cells.Fc
 have qQ:(ch p).length≤w.cs.length:=bY (f.pr.nd p) fun c hc=>f.Hw hc
 obtain⟨l,uO,BA⟩:=(f.cy p).from hx
 have kM:=uO.nodup_iff.1 (f.pr.nd p)
 have pt:(ch p).length=l.length+1:=by rw[uO.length_eq,List.length_cons]
 have f1:=f.Zk uO BA
 have Bn:aA ch p (x::l) p=x::l:=by unfold aA;rw[if_pos rfl]
 obtain⟨ux,_,_⟩:=hp x
 obtain⟨up,kp,dp⟩:=hp p
 rw[x1]at ux
 have htr:=f.rin (g:=g) (x:=t) (by rw[hr];simp)
 have Rh:=(f.rm g t (by rw[hr];simp)).2.2.1
 obtain⟨cc,ltp,o1,q1,_⟩:=m.hG
 obtain⟨a0,a1,a2,a3,a4⟩:=m.rd xm
 obtain⟨b0,b1,b2,b3,b4⟩:=m.rd (x:=p) ⟨p0,p1⟩
 rw[ux]at a1
 rw[dp]at b3
 refine bc wT ⟨rfl,?_⟩
 refine v2 gP.eq_1 (ae o1) ?_
 refine⟨⟨by omega,by omega⟩,?_⟩
 refine v4 (ae m.places) Nat.zero_add Nat.add_zero a1 ?_
 refine⟨⟨by omega,by omega⟩,?_⟩
 refine v4 (ae m.places) m.places Nat.zero_add b3 ?_
 rw[wrap64 (by omega) (by omega)]
 obtain⟨L2,k2,m2,e2⟩:=m.WA (x:=p) ⟨p0,p1⟩ (((ch p).length:Int) - 1)
 refine⟨by omega,?_⟩
 refine vs ?_
 generalize H.wr B.tb ((aM L).set (p.toNat*4+2) (i64 (((ch p).length:Int) - 1)))=H2 at*
 obtain⟨c0,_⟩:=m2.rd (x:=p) ⟨p0,p1⟩
 obtain⟨L3,k3,m3,e3⟩:=m2.eG (x:=p) ⟨p0,p1⟩ (-1)
 refine v2 m2.places Nat.zero_add ?_
 refine⟨by omega,?_⟩
 refine vs ?_
 generalize H2.wr B.tb ((aM L2).set (p.toNat*4+1) (Value.int .i64 (-1)))=H3 at*
 obtain⟨cc3,lt3,o3,q3,_⟩:=m3.hG
 refine v1 (ae o3) ?_
 refine(GQ m3.ring (x:=x) (by omega)).mono ?_
 rintro _ H' ⟨rfl,e⟩
 obtain rfl:=e.symm
 refine vs ?_
 have Fj:ai (fun z=>z=B.nb∨z=B.pb∨z=B.tb) H H3:=(e2.mono fun z _ h=>.inr (.inr h)).trans (e3.mono fun z _ h=>.inr (.inr h))
 have Wq:l=[]∨∃A0 y,l=A0++[y]:=by
  rcases List.eq_nil_or_concat l with h| ⟨A0,y,h⟩
  ·exact .inl h
  ·exact .inr ⟨A0,y,by rw[h,List.concat_eq_append]⟩
 rcases Wq with rfl| ⟨A0,y,rfl⟩
 ·have JZ:cr N x=x:=BA
  rw[JZ]
  refine am.cj (by simp) ?_
  refine vs ?_
  have m4:=m3
  have Bo:=Fj
  obtain⟨L4,eL⟩:∃L4,L4=L3:=⟨_,rfl⟩
  rw[←eL]at m4 k3
  have k4x:eX L4 x=eX L x:=by rw[k3,k2];unfold pF;rw[if_neg ec.symm,if_neg ec.symm]
  have k4p:eX L4 p=⟨(eX L p).u, -1,((ch p).length:Int) - 1,(eX L p).m⟩:=by rw[k3,k2];unfold pF;rw[if_pos rfl,if_pos rfl]
  have k4o:∀z,z≠p→eX L4 z=eX L z:=fun z hz=>by rw[k3,k2];unfold pF;rw[if_neg hz,if_neg hz]
  have TF:∀ {N5:List Int},cr N5=zO (cr N) x (cr P x)→dU (aH w) lt (cr N5) (aA ch p []) (aI par x (-1)) aw (x::W):=fun h=>by
   rw[h]
   have hpv:cr P x=x:=by
    have:=m.inv.pn x
    rwa[JZ]at this
   rw[hpv,KV]
   have f2:=f1.adA Bn
   rwa[eJ]at f2
  obtain⟨cc4,lt4,o4,q4,_⟩:=m4.hG
  refine v1 (ae o4) ?_
  refine(qz m4.ring m4.inv (x:=x) (by omega)).mono ?_
  rintro _ H5 ⟨rfl,N5,P5,r5,l5,n5,i5,e5⟩
  have m5:=m4.xw r5 i5 e5 l5
  have f5:=TF n5
  obtain⟨cc5,lt5,o5,q5,_⟩:=m5.hG
  have hl5:=m5.len
  refine v1 (ae o5) ?_
  refine⟨⟨by omega,by omega⟩,?_⟩
  obtain⟨d0,_⟩:=m5.rd xm
  obtain⟨L6,k6,m6,e6⟩:=m5.aI xm (-1)
  refine v3 m5.places Nat.zero_add Nat.add_zero ?_
  refine⟨by omega,?_⟩
  refine vs ?_
  generalize H5.wr B.tb ((aM L4).set (x.toNat*4) (Value.int .i64 (-1)))=H6 at*
  have hl6:=m6.len
  refine⟨⟨by omega,by omega⟩,?_⟩
  obtain⟨g0,_⟩:=m6.rd xm
  obtain⟨L7,k7,m7,e7⟩:=m6.cX xm false
  refine v3 m6.places Nat.zero_add Nat.add_zero ?_
  refine⟨by omega,?_⟩
  refine vs ?_
  generalize H6.wr B.tb ((aM L6).set (x.toNat*4+3) (Value.bool false))=H7 at*
  obtain⟨cc7,lt7,o7,q7,_⟩:=m7.hG
  have q8:=m7.fA q7 (dW (tops:=tops) (h:=g) (by omega) dv)
  rw[ht]at q8
  have hl7:=m7.len
  refine v1 (ae o7) ?_
  refine⟨⟨by omega,by omega⟩,?_⟩
  refine v4 (ae q7) Nat.zero_add Nat.mul_one q8 ?_
  refine(dw m7.ring m7.inv (x:=t) (y:=x) (by omega) (by omega)).mono ?_
  rintro _ H8 ⟨rfl,N8,P8,r8,l8,n8,i8,e8⟩
  have m8:=m7.xw r8 i8 e8 l8
  have f8:=f5.Rf (t:=t) (A:=A) (by rw[hg];exact hr)
  rw[hg,←n8]at f8
  refine vs ?_
  refine⟨N8,P8,L7,[],m8,f8,fun z=>?_,uO,(((Bo.trans (e5.mono fun z _ h=>h.elim .inl fun h=>.inr (.inl h))).trans (e6.mono fun z _ h=>.inr (.inr h))).trans (e7.mono fun z _ h=>.inr (.inr h))).trans (e8.mono fun z _ h=>h.elim .inl fun h=>.inr (.inl h))⟩
  rw[k7,k6]
  obtain⟨uz,kz,dz⟩:=hp z
  by_cases h1:z=x
  ·rw[h1]
   rw[h1]at kz dz
   unfold pF aI aA
   simp only[if_true,if_neg ec.symm,k4x]
   exact⟨trivial,kz,dz⟩
  ·unfold pF aI aA
   simp only[if_neg h1]
   by_cases h2:z=p
   ·rw[h2]
    simp only[if_true,if_neg ec,k4p]
    refine⟨up,rfl,?_⟩
    rw[pt];simp
   ·simp only[if_neg h2,k4o z h2]
    exact⟨uz,kz,dz⟩
 ·have TJ:cr N x=(A0++[y]).headD (-1):=by
   cases A0 with
   |nil=>exact BA.1
   |cons a A0=>exact BA.1
  have JZ:cr N x≠x:=fun e=>by
   have h1:=(List.nodup_cons.1 kM).1
   apply h1
   rw[e]at TJ
   cases A0 with
   |nil=>rw[TJ];simp
   |cons a A0=>rw[TJ];simp
  refine am.dec (fun h=>absurd h JZ) (fun _=>?_)
  obtain⟨r0,_⟩:=m3.rd (x:=p) ⟨p0,p1⟩
  obtain⟨L4,k4,m4,e4⟩:=m3.eG (x:=p) ⟨p0,p1⟩ (cr N x)
  refine v2 m3.places Nat.zero_add ?_
  refine⟨by omega,?_⟩
  refine vs ?_
  generalize H3.wr B.tb ((aM L3).set (p.toNat*4+1) (i64 (cr N x)))=H4 at*
  have Bo:=Fj.trans (e4.mono fun z _ h=>.inr (.inr h))
  have k4x:eX L4 x=eX L x:=by rw[k4,k3,k2];unfold pF;rw[if_neg ec.symm,if_neg ec.symm,if_neg ec.symm]
  have k4p:eX L4 p=⟨(eX L p).u,cr N x,((ch p).length:Int) - 1,(eX L p).m⟩:=by rw[k4,k3,k2];unfold pF;rw[if_pos rfl,if_pos rfl,if_pos rfl]
  have k4o:∀z,z≠p→eX L4 z=eX L z:=fun z hz=>by rw[k4,k3,k2];unfold pF;rw[if_neg hz,if_neg hz,if_neg hz]
  have TF:∀ {N5:List Int},cr N5=zO (cr N) x (cr P x)→dU (aH w) lt (cr N5) (aA ch p (A0++[y])) (aI par x (-1)) aw (x::W):=fun h=>by
   rw[h]
   have hpv:cr P x=y:=xO.last (A:=A0) m.inv BA
   rw[hpv]
   have f2:=f1.off (A:=A0) (y:=y) Bn
   rwa[eJ]at f2
  obtain⟨cc4,lt4,o4,q4,_⟩:=m4.hG
  refine v1 (ae o4) ?_
  refine(qz m4.ring m4.inv (x:=x) (by omega)).mono ?_
  rintro _ H5 ⟨rfl,N5,P5,r5,l5,n5,i5,e5⟩
  have m5:=m4.xw r5 i5 e5 l5
  have f5:=TF n5
  obtain⟨cc5,lt5,o5,q5,_⟩:=m5.hG
  have hl5:=m5.len
  refine v1 (ae o5) ?_
  refine⟨⟨by omega,by omega⟩,?_⟩
  obtain⟨d0,_⟩:=m5.rd xm
  obtain⟨L6,k6,m6,e6⟩:=m5.aI xm (-1)
  refine v3 m5.places Nat.zero_add Nat.add_zero ?_
  refine⟨by omega,?_⟩
  refine vs ?_
  generalize H5.wr B.tb ((aM L4).set (x.toNat*4) (Value.int .i64 (-1)))=H6 at*
  have hl6:=m6.len
  refine⟨⟨by omega,by omega⟩,?_⟩
  obtain⟨g0,_⟩:=m6.rd xm
  obtain⟨L7,k7,m7,e7⟩:=m6.cX xm false
  refine v3 m6.places Nat.zero_add Nat.add_zero ?_
  refine⟨by omega,?_⟩
  refine vs ?_
  generalize H6.wr B.tb ((aM L6).set (x.toNat*4+3) (Value.bool false))=H7 at*
  obtain⟨cc7,lt7,o7,q7,_⟩:=m7.hG
  have q8:=m7.fA q7 (dW (tops:=tops) (h:=g) (by omega) dv)
  rw[ht]at q8
  have hl7:=m7.len
  refine v1 (ae o7) ?_
  refine⟨⟨by omega,by omega⟩,?_⟩
  refine v4 (ae q7) Nat.zero_add Nat.mul_one q8 ?_
  refine(dw m7.ring m7.inv (x:=t) (y:=x) (by omega) (by omega)).mono ?_
  rintro _ H8 ⟨rfl,N8,P8,r8,l8,n8,i8,e8⟩
  have m8:=m7.xw r8 i8 e8 l8
  have f8:=f5.Rf (t:=t) (A:=A) (by rw[hg];exact hr)
  rw[hg,←n8]at f8
  refine vs ?_
  refine⟨N8,P8,L7,(A0++[y]),m8,f8,fun z=>?_,uO,(((Bo.trans (e5.mono fun z _ h=>h.elim .inl fun h=>.inr (.inl h))).trans (e6.mono fun z _ h=>.inr (.inr h))).trans (e7.mono fun z _ h=>.inr (.inr h))).trans (e8.mono fun z _ h=>h.elim .inl fun h=>.inr (.inl h))⟩
  rw[k7,k6]
  obtain⟨uz,kz,dz⟩:=hp z
  by_cases h1:z=x
  ·rw[h1]
   rw[h1]at kz dz
   unfold pF aI aA
   simp only[if_true,if_neg ec.symm,k4x]
   exact⟨trivial,kz,dz⟩
  ·unfold pF aI aA
   simp only[if_neg h1]
   by_cases h2:z=p
   ·rw[h2]
    simp only[if_true,if_neg ec,k4p]
    refine⟨up,TJ,?_⟩
    rw[pt];simp
   ·simp only[if_neg h2,k4o z h2]
    exact⟨uz,kz,dz⟩
end
end Go.Proofs.YtjlnnljohemifaaGreat

namespace Go.Proofs.YtjlnnljohemifaaGreat
open Go Go.Vc
section
variable {H H' : Hp} {B : FB} {C V : Nat → Prop} {w : Nw} {N P : List Int} {L : List Pc} {tops : List Int} {ch : Int → List Int} {par : Int → Int} {aw : Int → List Int} {W : List Int}
theorem D8(m:bV H B C w N P L tops){lt:Int→Int→Bool}(hs:bB lt){x g t:Int}{A:List Int}(f:dU (aH w) lt (cr N) ch par aw W)(hp:KM (eX L) ch par)(hg:aH w x=g)(RQ:0<g)(dv:g<tops.length)(hr:aw g=t::A)(ht:br tops g=t):
  ah Tryz.prog rB [ptr B.n,i64 g,i64 x] H fun v H'=>ax (∃N' P' L' dT bG A',bV H' B C w N' P' L' tops∧dU (aH w) lt (cr N') dT bG (aA aw g (t::A')) W∧KM (eX L') dT bG∧(∀z,par z= -1→bG z= -1)∧
   ai (fun z=>z=B.nb∨z=B.pb∨z=B.tb) H H'):=by
 have e0:aA aw g (t::A)=aw:=by
  funext z
  unfold aA
  split
  ·rename_i e;rw[e,hr]
  ·rfl
 refine bc rQ ⟨rfl,?_⟩
 refine v1 ep.eq_1 ?_
 refine bD.intro (fun mm env H'=>∃ (x:Int) (N' P':List Int) (L':List Pc) (dT:Int→List Int) (bG:Int→Int) (A':List Int),mm=ML lt w.cs.length x∧aH w x=g∧bV H' B C w N' P' L' tops∧dU (aH w) lt (cr N') dT bG (aA aw g (t::A')) W∧KM (eX L') dT bG∧(∀z,par z= -1→bG z= -1)∧
   ai (fun z=>z=B.nb∨z=B.pb∨z=B.tb) H H'∧env=[(0,ptr B.n),(1,i64 g),(2,i64 x)]) _ ⟨x,N,P,L,ch,par,A,rfl,hg,m,by rw[e0];exact f,hp,fun _ h=>h,ai.refl _ _,rfl⟩ ?_
 rintro mm env H1 ⟨y,N1,P1,L1,OR,zo,A1,rfl,hy,m1,f1,p1,u1,e1,rfl⟩
 obtain⟨y0,y1,_⟩:=aF (w:=w) (x:=y) (by omega)
 obtain⟨tv,o1,_⟩:=m1.own
 obtain⟨a0,a1,a2,a3,a4⟩:=m1.rd ⟨y0,y1⟩
 obtain⟨uy,_,_⟩:=p1 y
 have hl:=m1.len
 rw[uy]at a1
 refine v1 (ae o1) ?_
 refine⟨⟨by omega,by omega⟩,?_⟩
 refine v4 (ae m1.places) Nat.zero_add Nat.add_zero a1 ?_
 refine am.dec (fun h0=>?_) (fun h0=>?_)<;>refine v1 (ae o1) ?_
 ·exact⟨N1,P1,L1,OR,zo,A1,m1,f1,p1,u1,e1⟩
 refine⟨⟨by omega,by omega⟩,?_⟩
 refine v3 (ae m1.places) Nat.zero_add a4 ?_
 have hyc:=f1.pr.up y _ rfl h0
 obtain⟨_,_,h3,h4,h5⟩:=f1.pr.dn _ _ hyc
 cases hm:(eX L1 y).m
 ·refine v1 (ae o1) ?_
  refine⟨⟨by omega,by omega⟩,?_⟩
  obtain⟨L2,k2,m2,e2⟩:=m1.cX ⟨y0,y1⟩ true
  refine v2 m1.places Nat.zero_add ?_
  refine⟨by omega,?_⟩
  refine vs ?_
  refine⟨N1,P1,L2,OR,zo,A1,m2,f1,fun z=>?_,u1,e1.trans (e2.mono fun z _ h=>.inr (.inr h))⟩
  rw[k2]
  unfold pF
  split
  ·rename_i e;rw[e];exact p1 y
  ·exact p1 z
 ·refine v1 (ae o1) ?_
  refine⟨⟨by omega,by omega⟩,?_⟩
  refine v4 (ae m1.places) Nat.zero_add Nat.add_zero a1 ?_
  refine(CE m1 hs f1 p1 hyc hy dv (A:=A1) (by unfold aA;rw[if_pos rfl]) ht).mono ?_
  rintro _ H2 ⟨N2,P2,L2,l,m2,f2,p2,uO,e2⟩
  rw[eJ]at f2
  refine vs ?_
  obtain⟨z0,z1,_⟩:=aF (w:=w) (x:=zo y) (by omega)
  refine⟨ML lt w.cs.length (zo y),FH hs ⟨z0,by omega⟩ h5,zo y,N2,P2,L2,_,_,y::A1,rfl,by omega,m2,f2,p2,fun z hz=>?_,e1.trans e2,rfl⟩
  unfold aI
  split
  ·rfl
  ·exact u1 z hz
theorem Fv(m:bV H B C w N P L tops){lt:Int→Int→Bool}(hs:bB lt){x g t:Int}{A:List Int}(f:dU (aH w) lt (cr N) ch par aw W)(hp:KM (eX L) ch par)(hg:aH w x=g)(RQ:0<g)(dv:g<tops.length)(hr:aw g=t::A)(ht:br tops g=t):
  ah Tryz.prog sG [ptr B.n,i64 g,i64 x] H fun v H'=>ax (∃N' P' L' dT bG A',bV H' B C w N' P' L' tops∧dU (aH w) lt (cr N') dT bG (aA aw g (t::A')) W∧KM (eX L') dT bG∧bG x= -1∧(∀z,par z= -1→bG z= -1)∧
   ai (fun z=>z=B.nb∨z=B.pb∨z=B.tb) H H'):=by
 obtain⟨y0,y1,_⟩:=aF (w:=w) (x:=x) (by omega)
 obtain⟨tv,o1,_⟩:=m.own
 obtain⟨a0,a1,a2,a3,a4⟩:=m.rd ⟨y0,y1⟩
 obtain⟨uy,_,_⟩:=hp x
 have hl:=m.len
 rw[uy]at a1
 refine bc sS ⟨rfl,?_⟩
 refine v2 eQ.eq_1 (ae o1) ?_
 refine⟨⟨by omega,by omega⟩,?_⟩
 refine v4 (ae m.places) Nat.zero_add Nat.add_zero a1 ?_
 refine am.dec (fun h0=>?_) (fun h0=>?_)<;>refine vs ?_
 ·have e0:aA aw g (t::A)=aw:=by
   funext z
   unfold aA
   split
   ·rename_i e;rw[e,hr]
   ·rfl
  exact⟨N,P,L,ch,par,A,m,by rw[e0];exact f,hp,h0,fun _ h=>h,ai.refl _ _⟩
 have hxc:=f.pr.up x _ rfl h0
 obtain⟨_,_,h3,h4,h5⟩:=f.pr.dn _ _ hxc
 refine(CE m hs f hp hxc hg dv hr ht).mono ?_
 rintro _ H2 ⟨N2,P2,L2,l,m2,f2,p2,uO,e2⟩
 refine vs ?_
 refine(D8 m2 hs (x:=par x) (A:=x::A) f2 p2 (by omega) RQ dv (by unfold aA;rw[if_pos rfl]) ht).mono ?_
 rintro _ H3 ⟨N3,P3,L3,MG,r9,A3,m3,f3,p3,u3,e3⟩
 rw[eJ]at f3
 refine vs ?_
 exact⟨N3,P3,L3,MG,r9,A3,m3,f3,p3,u3 x (by unfold aI;rw[if_pos rfl]),fun z hz=>u3 z (by unfold aI;split;rfl;exact hz),e2.trans e3⟩
end
end Go.Proofs.YtjlnnljohemifaaGreat

namespace Go.Proofs.YtjlnnljohemifaaGreat
open Go Go.Vc
theorem J7(a b:List Int):ws (a++b)=ws a++ws b:=by unfold ws;rw[List.filter_append]
theorem R6{l:List Int}{d:Nat}{y v:Int}(h:l[d]? =some y):(ws [y]++ws (l.set d v)).Perm (ws [v]++ws l):=by
 have hd:=(List.getElem?_eq_some_iff.1 h).1
 have e1:l=l.take d++y::l.drop (d+1):=by
  rw[List.getElem?_eq_getElem hd]at h
  injection h with h
  rw[←h,←List.drop_eq_getElem_cons hd,List.take_append_drop]
 have e2:l.set d v=l.take d++v::l.drop (d+1):=by
  rw[List.set_eq_take_append_cons_drop,if_pos hd]
 rw[e2]
 generalize ha:l.take d=a at*
 generalize hb:l.drop (d+1)=b at*
 rw[e1,J7,J7,ph v b,ph y b,List.perm_iff_count]
 intro z
 simp only[List.count_append]
 omega
section
variable {H H' : Hp} {B : FB} {C V : Nat → Prop} {w : Nw} {N P : List Int} {L : List Pc} {tops : List Int} {ch : Int → List Int} {par : Int → Int} {aw : Int → List Int} {W : List Int}
structure PN(w:Nw)(g:Int)(nx:Int→Int)(HE ch:Int→List Int)(par:Int→Int)(aw:Int→List Int)(sB rest W0:List Int):Prop where
 f:dU (aH w) (aT w) nx ch par aw (ws sB++(rest++W0))
 td:∀ (d:Nat) y,sB[d]? =some y→y≠ -1→(ch y).length=d∧aH w y=g
 rh:∀y∈rest,aH w y=g
 c0:∀z∈W0,ch z=HE z
 tl:sB.length≤w.cs.length+1
set_option maxRecDepth 100000 in
set_option maxHeartbeats 4000000 in
theorem Iz(m:bV H B C w N P L tops){roots W0:List Int}{g:Int}{b o rc:Nat}{lb:List Value}(hb:H.own b=some lb)(mw:∀ (i:Nat) y,roots[i]? =some y→lb[o+i]? =some (i64 y))(VK:¬B.S C b)(t0:PN w g (cr N) ch ch par aw [] roots W0)(hp:KM (eX L) ch par)(VO:roots.length≤65536):
  ah Tryz.prog vr [ptr B.n,.slice (some ⟨b,o,none⟩) roots.length rc] H fun v H'=>ax (∃N' P' L' dT bG sB fq,bV H' B C w N' P' L' tops∧PN w g (cr N') ch dT bG aw sB [] W0∧KM (eX L') dT bG∧
   Sl H' 1 v sB.length (sB.map i64) fq∧(∀z,fq=some z→H.size≤z)∧ai (fun z=>C z∨z=B.nb∨z=B.pb∨z=B.tb) H H'):=by
 have zh:=m.cells.Fc
 have ZP:=aO hb
 have hS:=m.slt
 have ls:=aq w
 have X3:∀ {z:Nat},(C z∨z=B.nb∨z=B.pb∨z=B.tb)→B.S C z:=fun h=>by
  rcases h with h|h|h|h
  ·exact .inl h
  ·exact .inr (.inr (.inr (.inl h)))
  ·exact .inr (.inr (.inr (.inr (.inl h))))
  ·exact .inr (.inr (.inr (.inr (.inr (.inl h)))))
 refine bc vF ⟨rfl,?_⟩
 refine v1 fQ.eq_1 ?_
 refine bD.intro (fun mm env H'=>∃ (i:Nat) (N' P':List Int) (L':List Pc) (dT:Int→List Int) (bG:Int→Int) (sB:List Int) (wv:Value) (fq:Option Nat),mm=roots.length - i∧i≤roots.length∧bV H' B C w N' P' L' tops∧PN w g (cr N') ch dT bG aw sB (roots.drop i) W0∧KM (eX L') dT bG∧
   Sl H' 1 wv sB.length (sB.map i64) fq∧(∀z,fq=some z→H.size≤z)∧ai (fun z=>C z∨z=B.nb∨z=B.pb∨z=B.tb∨H.size≤z) H H'∧
   env=[(0,ptr B.n),(5,wv),(10,.slice (some ⟨b,o,none⟩) roots.length rc),(11,i64 roots.length),(12,i64 i)]) _ ⟨0,N,P,L,ch,par,[],_,none,rfl,by omega,m,t0,hp,Sl.nil _ _,(fun z h=>by cases h),ai.refl _ _,rfl⟩ ?_
 rintro mm env H1 ⟨i,N1,P1,L1,OR,zo,sB,wv,fq,rfl,hi,m1,t1,p1,s1,KN,e1,rfl⟩
 refine vs ?_
 refine am.dec (fun gi=>?_) (fun gi=>?_)<;>refine vs ?_
 rotate_left
 ·obtain rfl:i=roots.length:=by omega
  rw[List.drop_length]at t1
  exact⟨N1,P1,L1,OR,zo,sB,fq,m1,t1,p1,s1,KN,e1.mono fun z hz h=>by
   rcases h with h|h|h|h|h
   ·exact .inl h
   ·exact .inr (.inl h)
   ·exact .inr (.inr (.inl h))
   ·exact .inr (.inr (.inr h))
   ·omega⟩
 have mX:i<roots.length:=by omega
 obtain⟨x,hx⟩:∃x,roots[i]? =some x:=⟨_,List.getElem?_eq_getElem mX⟩
 have dr:roots.drop i=x::roots.drop (i+1):=by
  rw[List.drop_eq_getElem_cons mX]
  congr 1
  rw[List.getElem?_eq_getElem mX]at hx
  injection hx
 have ob:H1.own b=some lb:=e1.own hb (fun h=>by
  rcases h with h|h|h|h|h
  ·exact VK (X3 (.inl h))
  ·exact VK (X3 (.inr (.inl h)))
  ·exact VK (X3 (.inr (.inr (.inl h))))
  ·exact VK (X3 (.inr (.inr (.inr h))))
  ·omega)
 refine⟨⟨by omega,by omega⟩,?_⟩
 refine v4 (ae ob) Nat.mul_one Int.toNat_natCast (mw i x hx) ?_
 rw[dr]at t1
 have aeE:x∈ws sB++(x::roots.drop (i+1)++W0):=by simp
 refine bD.intro (fun mm env H'=>∃ (x:Int) (N' P':List Int) (L':List Pc) (dT:Int→List Int) (bG:Int→Int) (sB:List Int) (wv:Value) (fq:Option Nat),mm=(ws sB).length∧bV H' B C w N' P' L' tops∧PN w g (cr N') ch dT bG aw sB (x::roots.drop (i+1)) W0∧KM (eX L') dT bG∧
   Sl H' 1 wv sB.length (sB.map i64) fq∧(∀z,fq=some z→H.size≤z)∧ai (fun z=>C z∨z=B.nb∨z=B.pb∨z=B.tb∨H.size≤z) H H'∧
   env=[(0,ptr B.n),(5,wv),(7,i64 x),(10,.slice (some ⟨b,o,none⟩) roots.length rc),(11,i64 roots.length),(12,i64 i)]) _ ⟨x,N1,P1,L1,OR,zo,sB,wv,fq,rfl,m1,t1,p1,s1,KN,e1,rfl⟩ ?_
 clear hx dr aeE m1 t1 p1 s1 KN e1 ob
 rintro mm env H2 ⟨x,N2,P2,L2,n7,lS,sB,wv,fq,rfl,m2,t2,p2,s2,KN,e2,rfl⟩
 have xm:=t2.f.R5 (x:=x) (by simp)
 have OH:=t2.rh x (by simp)
 have vU:=m2.len
 obtain⟨tv,o2,_⟩:=m2.own
 obtain⟨a0,a1,a2,a3,a4⟩:=m2.rd xm
 rw[(p2 x).2.2]at a3
 have qV:(n7 x).length≤w.cs.length:=bY (t2.f.pr.nd x) fun c hc=>t2.f.Hw hc
 refine v1 (ae o2) ?_
 refine⟨⟨by omega,by omega⟩,?_⟩
 refine v3 (ae m2.places) Nat.zero_add a3 ?_
 refine bD.intro (fun mm env H'=>∃ (tb:List Int) (wv:Value) (fq:Option Nat),mm=(n7 x).length+1 - tb.length∧ws tb=ws sB∧bV H' B C w N2 P2 L2 tops∧PN w g (cr N2) ch n7 lS aw tb (x::roots.drop (i+1)) W0∧
   Sl H' 1 wv tb.length (tb.map i64) fq∧(∀z,fq=some z→H.size≤z)∧ai (fun z=>C z∨z=B.nb∨z=B.pb∨z=B.tb∨H.size≤z) H H'∧
   env=[(0,ptr B.n),(5,wv),(7,i64 x),(8,i64 (n7 x).length),(10,.slice (some ⟨b,o,none⟩) roots.length rc),(11,i64 roots.length),(12,i64 i)]) _ ⟨sB,wv,fq,rfl,rfl,m2,t2,s2,KN,e2,rfl⟩ ?_
 have Yk:(ws sB).length≤w.cs.length:=by
  have h1:=bY t2.f.wn fun c hc=>t2.f.R5 hc
  rw[List.length_append]at h1
  omega
 clear t2 m2 s2 KN e2 o2 a1 a2 a3 a4
 rintro mm env H3 ⟨tb,wv,fq,rfl,hws,m3,t3,s3,KN,e3,rfl⟩
 have z3:=e3.size
 have ME:=t3.tl
 obtain⟨wa,wc,rfl⟩:=Sl.shape s3
 refine vs ?_
 refine am.dec (fun gd=>?_) (fun gd=>?_)<;>refine vs ?_
 ·refine EB (B:=H.size) KN z3 s3 (-1) (by omega) fun w' H4 fq' R7 s4 e4=>?_
  refine vs ?_
  refine⟨(n7 x).length+1 - (tb.length+1),by omega,tb++[-1],w',fq',by simp,by rw[J7,ed,if_pos rfl,List.append_nil,hws],m3.ext e4 (fun z hz eA=>by have:=hS z hz;omega),⟨?_,fun d y hd hy=>?_,t3.rh,t3.c0,?_⟩,s4,R7,e3.trans (e4.mono fun z _ h=>.inr (.inr (.inr (.inr h)))),rfl⟩
  ·rw[J7,ed,if_pos rfl,List.append_nil];exact t3.f
  ·rcases Nat.lt_trichotomy d tb.length with h|h|h
   ·rw[List.getElem?_append_left h]at hd;exact t3.td d y hd hy
   ·subst h
    rw[List.getElem?_append_right (Nat.le_refl _),Nat.sub_self]at hd
    simp at hd
    exact absurd hd.symm hy
   ·rw[List.getElem?_eq_none (by simp;omega)]at hd;cases hd
  ·rw[List.length_append,List.length_singleton];omega
 have oN:(n7 x).length<tb.length:=by omega
 obtain⟨y,hy⟩:∃y,tb[(n7 x).length]? =some y:=⟨_,List.getElem?_eq_getElem oN⟩
 obtain⟨_,qb,ql,rfl,q2,q3⟩:=Sl.AU s3 hy
 have hqb:fq=some qb:=by
  cases fq with
  |none=>have:=s3.2.2;injection this with h1;cases h1
  |some b'=>obtain⟨_,_,h1,_⟩:=s3.2;injection h1 with h1;injection h1 with h1;injection h1 with h1;rw[h1]
 subst hqb
 have hqs:=KN qb rfl
 have aiM:=aO q2
 have hql:=(List.getElem?_eq_some_iff.1 q3).1
 have hMq:∀z,B.S C z→z≠qb:=fun z hz e=>by have:=hS z hz;omega
 refine⟨⟨by omega,by omega⟩,?_⟩
 refine v5 (ae q2) Nat.zero_add Nat.mul_one Int.toNat_natCast q3 ?_
 refine am.dec (fun gy=>?_) (fun gy=>?_)<;>refine vs ?_
 ·refine⟨⟨by omega,by omega⟩,?_⟩
  refine v4 q2 Nat.zero_add Nat.mul_one Int.toNat_natCast ?_
  refine⟨by omega,?_⟩
  have s4:=s3.vP q2 (n7 x).length (i64 x)
  have e4:ai (fun z=>z=qb) H3 (H3.wr qb (ql.set (n7 x).length (i64 x))):=(ai.refl (fun z=>z=qb) _).wr (fun _=>rfl) _
  refine vs ?_
  have uO:=R6 (v:=x) hy
  rw[ed y,if_pos gy,ed x,if_neg (t3.f.X8 (c:=x) (by simp)),List.nil_append]at uO
  have m4:=m3.ext e4 (fun z hz eA=>hMq z hz eA)
  have s5:Sl (H3.wr qb (ql.set (n7 x).length (i64 x))) 1 (.slice (some ⟨qb,0,none⟩) (tb.set (n7 x).length x).length wc) (tb.set (n7 x).length x).length ((tb.set (n7 x).length x).map i64) (some qb):=by
   rw[List.length_set,List.map_set];exact s4
  refine⟨roots.length - (i+1),by omega,i+1,N2,P2,L2,n7,lS,tb.set (n7 x).length x,_,some qb,rfl,by omega,m4,⟨?_,fun d z hd hz=>?_,fun z hz=>t3.rh z (by simp[hz]),t3.c0,by rw[List.length_set];exact t3.tl⟩,p2,s5,KN,e3.trans (e4.mono fun z _ h=>.inr (.inr (.inr (.inr (by omega))))),?_⟩
  ·refine t3.f.perm ?_
   rw[List.perm_iff_count]at uO ⊢
   intro z
   have:=uO z
   simp only[List.count_append,List.cons_append,List.count_cons]at this ⊢
   simp only[List.count_nil]at this
   omega
  ·by_cases h:d=(n7 x).length
   ·rw[h,List.getElem?_set_self oN]at hd
    injection hd with hd
    subst hd
    exact⟨h.symm,OH⟩
   ·rw[List.getElem?_set_ne (Ne.symm h)]at hd
    exact t3.td d z hd hz
  ·rw[wrap64 (by omega) (by omega),List.length_set]
   rfl
 ·obtain⟨UZ,hyg⟩:=t3.td _ y hy gy
  have uO:=R6 (v:= -1) hy
  rw[ed y,if_neg gy,ed (-1),if_pos rfl,List.nil_append]at uO
  obtain⟨IA,R9⟩:∃IA,IA=tb.set (n7 x).length (-1):=⟨_,rfl⟩
  have f4:dU (aH w) (aT w) (cr N2) n7 lS aw (y::x::(ws IA++(roots.drop (i+1)++W0))):=by
   refine t3.f.perm ?_
   rw[←R9]at uO
   rw[List.perm_iff_count]at uO ⊢
   intro z
   have:=uO z
   simp only[List.count_append,List.cons_append,List.nil_append,List.count_cons,List.count_nil]at this ⊢
   omega
  have agJ:(ws tb).length=(ws IA).length+1:=by
   rw[←R9]at uO
   have:=uO.length_eq
   simp only[List.cons_append,List.nil_append,List.length_cons]at this
   omega
  have htd:∀ (d:Nat) z,IA[d]? =some z→z≠ -1→(n7 z).length=d∧aH w z=g:=fun d z hd hz=>by
   rw[R9]at hd
   by_cases h:d=(n7 x).length
   ·rw[h,List.getElem?_set_self oN]at hd
    injection hd with hd
    exact absurd hd.symm hz
   ·rw[List.getElem?_set_ne (Ne.symm h)]at hd
    exact t3.td d z hd hz
  refine⟨⟨by omega,by omega⟩,?_⟩
  refine v4 q2 Nat.zero_add Nat.mul_one Int.toNat_natCast ?_
  refine⟨by omega,?_⟩
  have s4:=s3.vP q2 (n7 x).length (i64 (-1))
  have e4:ai (fun z=>z=qb) H3 (H3.wr qb (ql.set (n7 x).length (i64 (-1)))):=(ai.refl (fun z=>z=qb) _).wr (fun _=>rfl) _
  have s5:Sl (H3.wr qb (ql.set (n7 x).length (i64 (-1)))) 1 (.slice (some ⟨qb,0,none⟩) IA.length wc) IA.length (IA.map i64) (some qb):=by
   rw[R9,List.length_set,List.map_set];exact s4
  have D9:IA.length=tb.length:=by rw[R9,List.length_set]
  refine vs ?_
  have m4:=m3.ext e4 (fun z hz eA=>hMq z hz eA)
  generalize H3.wr qb (ql.set (n7 x).length (Value.int .i64 (-1)))=H4 at*
  obtain⟨Z4,o4,_⟩:=m4.own
  refine v1 (ae o4) ?_
  refine(cI m4.cells y x).mono ?_
  rintro _ H5 ⟨rfl,c5,e5⟩
  have m5:=m4.aK c5 e5 rfl
  have qL:y≠x:=fun e=>by have:=f4.wn;rw[e]at this;simp at this
  have Rh:0<aH w x:=(f4.wm x (by simp)).2.2
  rw[jj (w:=w) (a:=y) (b:=x) (by omega) Rh]
  have s6:=s5.ext e5 (fun z hz eA=>by injection hz with hz;exact hMq z (.inl eA) hz.symm)
  obtain⟨p,q,Ol,hl,f5,hpg⟩:∃p q,(if aT w y x=true then(p=y∧q=x)else(p=x∧q=y))∧aT w p q=true∧dU (aH w) (aT w) (cr N2) n7 lS aw (p::q::(ws IA++(roots.drop (i+1)++W0)))∧aH w p=g∧aH w q=g:=by
   cases aR:aT w y x
   ·exact⟨x,y,by simp,(ls.Oo x y qL.symm).resolve_right (by rw[aR];simp),f4.perm (List.Perm.swap ..),OH,hyg⟩
   ·exact⟨y,x,by simp,aR,f4,hyg,OH⟩
  cases aR:aT w y x<;>simp only[aR,if_true,if_false,Bool.false_eq_true]at Ol<;>obtain⟨rfl,rfl⟩:=Ol<;>refine vs ?_
  all_goals
   refine(GU m5 (x:=p) (y:=q) f5 p2 (by omega) hl).mono ?_
   rintro _ H6 ⟨N6,P6,L6,Yr,NA,m6,f6,p6,hc6,ho6,e6⟩
   have ZY:=f6.wn
   rw[List.nodup_cons]at ZY
   have s7:=s6.ext e6 (fun z hz eA=>by injection hz with hz;exact hMq z (X3 (.inr eA)) hz.symm)
   refine vs ?_
   refine⟨(ws IA).length,by rw[←hws];omega,p,N6,P6,L6,Yr,NA,IA,_,some qb,rfl,m6,⟨?_,fun d z hd hz=>?_,fun z hz=>?_,fun z hz=>?_,by rw[D9];exact t3.tl⟩,p6,s7,KN,((e3.trans (e4.mono fun z _ h=>.inr (.inr (.inr (.inr (by omega)))))).trans (e5.mono fun z _ h=>.inl h)).trans (e6.mono fun z _ h=>by
    rcases h with h|h|h
    ·exact .inr (.inl h)
    ·exact .inr (.inr (.inl h))
    ·exact .inr (.inr (.inr (.inl h)))),by rw[D9]⟩
   ·refine f6.perm ?_
    rw[List.perm_iff_count]
    intro z
    simp only[List.count_append,List.cons_append,List.count_cons]
    omega
   ·have hzp:z≠p:=fun e=>ZY.1 (by
     rw[←e]
     refine List.mem_append_left _ ?_
     unfold ws
     exact List.mem_filter.2 ⟨List.mem_of_getElem? hd,by simp[hz]⟩)
    rw[ho6 z hzp]
    exact htd d z hd hz
   ·rcases List.mem_cons.1 hz with h|h
    ·rw[h];exact hpg.1
    ·exact t3.rh z (by simp[h])
   ·have hzp:z≠p:=fun e=>ZY.1 (by rw[←e];simp[hz])
    rw[ho6 z hzp]
    exact t3.c0 z hz
end
end Go.Proofs.YtjlnnljohemifaaGreat

namespace Go.Proofs.YtjlnnljohemifaaGreat
open Go Go.Vc
structure WB(w:Nw)(N:List Int)(L:List Pc)(tops:List Int)(ch:Int→List Int)(par:Int→Int)(aw:Int→List Int):Prop where
 f:dU (aH w) (aT w) (cr N) ch par aw []
 pc:KM (eX L) ch par
 tp:∀g,br tops g=(aw g).headD (-1)
 ls:∀g y,0<g→aH w y=g→br tops g≠ -1∧(y≠br tops g→aT w (br tops g) y=true)
 tl:tops.length=w.hs.length
def kE(n:Nat)(H:Hp)(S:Nat→Prop)(w:Nw):Prop:=∃ (B:FB) (C:Nat→Prop) (N P:List Int) (L:List Pc) (tops:List Int) (ch:Int→List Int) (par:Int→Int) (aw:Int→List Int),B.n=n∧bV H B C w N P L tops∧WB w N L tops ch par aw∧∀z,S z↔B.S C z
theorem kE.slt{n:Nat}{H:Hp}{S:Nat→Prop}{w:Nw}(h:kE n H S w):∀z,S z→z<H.size:=by
 obtain⟨B,C,N,P,L,tops,ch,par,aw,rfl,m,l,hS⟩:=h
 exact fun z hz=>m.slt z ((hS z).1 hz)
theorem kE.ext{n:Nat}{H H':Hp}{S V:Nat→Prop}{w:Nw}(h:kE n H S w)(e:ai V H H')(hd:∀z,S z→¬V z):kE n H' S w:=by
 obtain⟨B,C,N,P,L,tops,ch,par,aw,rfl,m,l,hS⟩:=h
 exact⟨B,C,N,P,L,tops,ch,par,aw,rfl,m.ext e (fun z hz=>hd z ((hS z).2 hz)),l,hS⟩
theorem WB.first{w:Nw}{N:List Int}{L:List Pc}{tops:List Int}{ch:Int→List Int}{par:Int→Int}{aw:Int→List Int}(l:WB w N L tops ch par aw){g x:Int}(h:w.first g x):br tops g=x:=by
 obtain⟨h1,h2,h3⟩:=bN.1 h
 obtain⟨h4,h5⟩:=l.ls g x h1 h2
 apply Classical.byContradiction
 intro aS
 have h6:=h5 (Ne.symm aS)
 have ht:aH w (br tops g)=g:=by
  have hm:br tops g∈aw g:=by
   have:=l.tp g
   rw[this]at h4 ⊢
   exact eI h4
  exact(l.f.rm g _ hm).1
 have h7:=h3 _ ht aS
 rw[(aq w).asym h6]at h7
 cases h7
theorem CF{n:Nat}{H:Hp}{S:Nat→Prop}{w:Nw}(h:kE n H S w)(g:Int):ah Tryz.prog ny [ptr n,i64 g] H fun v H'=>ax (
  ((w.len g=0∧v= .tuple [i64 0,.bool false].toArray)∨∃x,w.first g x∧v= .tuple [i64 x,.bool true].toArray)∧H'=H):=by
 obtain⟨B,C,N,P,L,tops,ch,par,aw,rfl,m,l,hS⟩:=h
 obtain⟨cc,lt,ho,q2,Bn,xM,MF⟩:=m.hG
 refine bc wS ⟨rfl,?_⟩
 refine v2 gO.eq_1 (ae ho) ?_
 refine(xf m.cells g).mono ?_
 rintro _ _ ⟨rfl,rfl⟩
 refine vs ?_
 refine am.dec (fun h0=>?_) (fun h0=>?_)
 ·refine vs ?_
  exact⟨.inl ⟨h0,rfl⟩,rfl⟩
 have hg:0<g:=Classical.byContradiction fun hg=>h0 (Nw.Ir.2 (.inl (by omega)))
 obtain⟨x,hx⟩:=xe hg h0
 have hh:=(bN.1 hx).2.1
 have dv:=((m.cells.hm x).2 (by omega)).2
 rw[hh,←l.tl]at dv
 have q3:=m.fA q2 (dW (tops:=tops) (h:=g) (by omega) dv)
 rw[l.first hx]at q3
 refine v1 (ae ho) ?_
 refine⟨⟨by omega,by omega⟩,?_⟩
 refine v4 (ae q2) Nat.zero_add Nat.mul_one q3 ?_
 exact⟨.inr ⟨x,hx,rfl⟩,rfl⟩
theorem Fw{n:Nat}{H:Hp}{S:Nat→Prop}{w:Nw}(h:kE n H S w)(g x k s:Int):ah Tryz.prog j9 [ptr n,i64 g,i64 x,vN k s] H fun v H'=>ax (
  (¬w.oG g x∧v= .bool false∧cD (kE n) S H H' w)∨(w.oG g x∧v= .bool true∧cD (kE n) S H H' (w.put x (g,k,s)))):=by
 obtain⟨B,C,N,P,L,tops,ch,par,aw,rfl,m,l,hS⟩:=h
 have hC:∀z,C z→S z:=fun z h=>(hS z).2 (.inl h)
 refine bc sR ⟨rfl,?_⟩
 refine v1 eO.eq_1 ?_
 have f0:ay H (H.new 224 [i64 k,u64 s]):=(ai.refl _ _).new _ _
 have b0:(H.new 224 [i64 k,u64 s]).own H.size=some [i64 k,u64 s]:=aG _ _ _
 have m0:=m.fresh f0
 generalize H.new 224 [i64 k,u64 s]=H0 at*
 have ff:ai S H H0:=f0.mono fun _ _ h=>h.elim
 obtain⟨tv,J0,_⟩:=m0.own
 refine v2 (ae J0) (ae b0) ?_
 refine(nL m0.cells g x k s).mono ?_
 rintro _ H1 (⟨cw,rfl,c1,e1⟩| ⟨th,rfl,c1,e1⟩)
 ·refine vs ?_
  exact .inl ⟨cw,rfl,cD.same ⟨B,C,N,P,L,tops,ch,par,aw,rfl,m0.aK c1 e1 rfl,l,hS⟩ (ff.trans (e1.mono fun z _ hz=>hC z hz))⟩
 obtain⟨hh,hx,bS⟩:=id th
 have m2:=m0.aK c1 e1 (by simp[Nw.put])
 have hg:=hh.1
 have dv:g<tops.length:=by
  have:=(List.getElem?_eq_some_iff.1 hh.2).1
  have:=l.tl
  omega
 have cU:=fun y=>eD hx (g,k,s) y
 have ie:aH w x≤0:=Int.not_lt.1 fun h=>bS (bJ.1 h)
 have el:∀a b,0<aH w a→0<aH w b→a≠x→b≠x→aT (w.put x (g,k,s)) a b=aT w a b:=fun a b ha hb tE oY=>dE hx _ ha hb tE oY
 have f2:dU (aH (w.put x (g,k,s))) (aT (w.put x (g,k,s))) (cr N) ch par aw (x::[]):=l.f.put (g:=g) rfl ie (by omega) (by omega) (by rw[cU,if_pos rfl]) (fun y hy=>by rw[cU,if_neg hy]) el
 refine vs ?_
 refine(zE m2 f2 (by rw[cU,if_pos rfl]) dv (l.tp g)).mono ?_
 rintro _ H3 ⟨N3,P3,aaf,ll,m3,Tf,ht3,f3,KI,Hz,UR,hlT,e3⟩
 refine vs ?_
 have hhm:∀y,aH w y=g→y≠x:=fun y hy e=>by rw[e]at hy;omega
 have hTg:br tops g≠ -1→aH w (br tops g)=g:=fun h=>by
  have hm:br tops g∈aw g:=by
   have:=l.tp g
   rw[this]at h ⊢
   exact eI h
  exact(l.f.rm g _ hm).1
 refine .inr ⟨th,rfl,cD.same ⟨B,C,N3,P3,L,aaf,ch,par,_,rfl,m3,⟨f3,l.pc,fun g2=>?_,fun g2 y Ea hy=>?_,by rw[Tf];exact l.tl⟩,hS⟩ ((ff.trans (e1.mono fun z _ h=>hC z h)).trans (e3.mono fun z _ h=>by
  rcases h with h|h|h|h
  ·exact hC z h
  ·exact(hS z).2 (.inr (.inr (.inr (.inl h))))
  ·exact(hS z).2 (.inr (.inr (.inr (.inr (.inl h)))))
  ·exact(hS z).2 (.inr (.inr (.inr (.inr (.inr (.inr h))))))))⟩
 ·rw[ht3]
  unfold kL aA
  split
  ·rfl
  ·exact l.tp g2
 ·rw[ht3]
  unfold kL
  rw[cU]at hy
  by_cases h2:g2=g
  ·rw[if_pos h2]
   refine⟨Hz,fun aS=>?_⟩
   by_cases qL:y=x
   ·rw[qL]at aS ⊢
    exact UR aS
   ·rw[if_neg qL]at hy
    obtain⟨h3,h4⟩:=l.ls g y (by omega) (by omega)
    have hTx:=hhm _ (hTg h3)
    rcases KI with h5| ⟨h5,_⟩
    ·rw[h5]at aS hlT ⊢
     have h6:=hlT h3 hTx
     by_cases hyT:y=br tops g
     ·rw[hyT];exact h6
     ·have h7:=h4 hyT
      rw[←el _ _ (by rw[hTg h3];omega) (by omega) hTx qL]at h7
      exact(aq _).tr _ _ _ h6 h7
    ·rw[h5]at aS ⊢
     rw[el _ _ (by rw[hTg h3];omega) (by omega) hTx qL]
     exact h4 aS
  ·rw[if_neg h2]
   have qL:y≠x:=fun e=>by rw[if_pos e]at hy;exact h2 hy.symm
   rw[if_neg qL]at hy
   obtain⟨h3,h4⟩:=l.ls g2 y Ea hy
   refine⟨h3,fun aS=>?_⟩
   have hTx:br tops g2≠x:=fun e=>by
    have hm:br tops g2∈aw g2:=by
     have:=l.tp g2
     rw[this]at h3 ⊢
     exact eI h3
    have h5:=(l.f.rm g2 _ hm).1
    rw[e]at h5
    omega
   have hT2:aH w (br tops g2)=g2:=by
    have hm:br tops g2∈aw g2:=by
     have:=l.tp g2
     rw[this]at h3 ⊢
     exact eI h3
    exact(l.f.rm g2 _ hm).1
   rw[el _ _ (by omega) (by omega) hTx qL]
   exact h4 aS
theorem bV.bounds{H:Hp}{B:FB}{C:Nat→Prop}{w:Nw}{N P:List Int}{L:List Pc}{tops:List Int}(m:bV H B C w N P L tops):w.cs.length≤65536∧N.length=w.cs.length:=⟨m.cells.Fc,m.len.2⟩
theorem xy{w:Nw}:∀x,0<aH w x→0≤x∧x<w.cs.length:=fun x h=>by
 obtain⟨a,b,_⟩:=aF h
 exact⟨a,b⟩
set_option maxRecDepth 100000 in
set_option maxHeartbeats 4000000 in
theorem Eb{n:Nat}{H:Hp}{S:Nat→Prop}{w:Nw}(h:kE n H S w)(g:Int):ah Tryz.prog je [ptr n,i64 g] H fun v H'=>ax (
  (w.len g=0∧v= .tuple [i64 0,.bool false].toArray∧cD (kE n) S H H' w)∨(∃x,w.first g x∧v= .tuple [i64 x,.bool true].toArray∧cD (kE n) S H H' (w.put x (0,0,0)))):=by
 refine bc rP ⟨rfl,?_⟩
 refine v1 eo.eq_1 ?_
 refine(CF h g).mono ?_
 rintro _ H' ⟨⟨h0,rfl⟩| ⟨x,hx,rfl⟩,e⟩
 ·obtain rfl:=e.symm
  refine vs ?_
  exact .inl ⟨h0,rfl,cD.same h (ai.refl _ _)⟩
 obtain rfl:=e.symm
 refine vs ?_
 obtain⟨B,C,N,P,L,tops,ch,par,aw,rfl,m,l,hS⟩:=h
 obtain⟨hg,OH,qV⟩:=bN.1 hx
 have Zg:=l.first hx
 have ie:=xy (w:=w) x (by omega)
 have ls:=aq w
 obtain⟨A,hr⟩:∃A,aw g=x::A:=by
  have h1:=l.tp g
  rw[Zg]at h1
  cases hc:aw g with
  |nil=>rw[hc]at h1;exact absurd h1 (by show¬x= -1;omega)
  |cons c r=>rw[hc]at h1;exact⟨r,by rw[show x=c from h1]⟩
 have dv:g<tops.length:=by
  have:=((m.cells.hm x).2 (by omega)).2
  have:=l.tl
  omega
 refine(GV m l.f l.pc hr).mono ?_
 rintro _ H1 ⟨N1,P1,L1,A1,m1,f1,p1,e1⟩
 have Je:aA aw g (x::A1) g=x::A1:=by unfold aA;rw[if_pos rfl]
 obtain⟨DU,o1,_⟩:=m1.own
 obtain⟨zx,hN1⟩:=m1.bounds
 have BA:=f1.rc g
 have kM:=f1.rn g
 rw[Je]at BA kM
 have bS:∀c∈x::A1,0≤c∧c<w.cs.length:=fun c hc=>f1.rin (g:=g) (by rw[Je];exact hc)
 have Tj:∀c∈x::A1,aH w c=g:=fun c hc=>(f1.rm g c (by rw[Je];exact hc)).1
 have bm:=bY kM bS
 rw[List.length_cons]at bm
 refine v1 (ae o1) ?_
 refine(r7 m1.ring BA kM (fun c hc=>by have:=bS c hc;omega) (by omega)).mono ?_
 rintro rv H2 ⟨b2,s2,DN,f2⟩
 obtain⟨ra,rc,rfl⟩:=Sl.shape s2
 have m2:=m1.fresh f2
 have z2:=f2.size
 obtain⟨Nk,o2,_⟩:=m2.own
 have hS1:=m1.slt
 have aeI:¬B.S C b2:=fun h=>by have:=hS1 _ h;omega
 obtain⟨_,l2,c2,fK,q2,Io,QK,Tg⟩:=id s2
 injection fK with fK aiP aai
 subst fK aai
 rw[Nat.mul_one]at QK Tg
 have pt:(x::A1).length=A1.length+1:=List.length_cons
 refine vs ?_
 refine⟨⟨by omega,by omega,by omega,by omega⟩,?_⟩
 refine vs ?_
 obtain⟨o,mw,Rt⟩:∃o,(∀ (i:Nat) y,A1[i]? =some y→l2[o+i]? =some (i64 y))∧(Value.slice (if(rc:Int)=1 then some ⟨b2,0,none⟩else some ⟨b2,1,none⟩) A1.length (rc - 1))= .slice (some ⟨b2,o,none⟩) A1.length (rc - 1):=by
  rw[List.length_cons]at Io Tg
  by_cases h1:(rc:Int)=1
  ·refine⟨0,fun i y hy=>?_,by rw[if_pos h1]⟩
   have:=(List.getElem?_eq_some_iff.1 hy).1
   omega
  ·refine⟨1,fun i y hy=>?_,by rw[if_neg h1]⟩
   have hi:=(List.getElem?_eq_some_iff.1 hy).1
   have h7:((x::A1).map i64)[1+i]? =some (i64 y):=by rw[Nat.add_comm,List.map_cons,List.getElem?_cons_succ,List.getElem?_map,hy];rfl
   rw[←Tg,List.getElem?_take,if_pos (by omega)]at h7
   exact h7
 have hv8:∀ (PO:Decidable ((rc:Int)=1)),Value.slice (@ite (Option Addr) ((rc:Int)=1) PO (some (⟨b2,0,none⟩:Addr)) (Option.map (fun(x:Addr)=>x.add (Int.toNat 1*1)) (some (⟨b2,0,none⟩:Addr)))) (((A1.length+1:Nat):Int).toNat - Int.toNat 1) ((rc:Int).toNat - Int.toNat 1)=Value.slice (some ⟨b2,o,none⟩) A1.length (rc - 1):=fun PO=>by
  rw[show((A1.length+1:Nat):Int).toNat - Int.toNat 1=A1.length by simp,show(rc:Int).toNat - Int.toNat 1=rc - 1 by simp,←Rt]
  by_cases h1:(rc:Int)=1
  ·rw[if_pos h1,if_pos h1]
  ·rw[if_neg h1,if_neg h1];rfl
 rw[hv8]
 generalize hR8:Value.slice (some ⟨b2,o,none⟩) A1.length (rc - 1)=R8 at*
 have Va:S B.nb:=(hS _).2 (.inr (.inr (.inr (.inl rfl))))
 have IA:S B.pb:=(hS _).2 (.inr (.inr (.inr (.inr (.inl rfl)))))
 have tb3:S B.tb:=(hS _).2 (.inr (.inr (.inr (.inr (.inr (.inl rfl))))))
 have tb4:S B.tp:=(hS _).2 (.inr (.inr (.inr (.inr (.inr (.inr rfl))))))
 have hC:∀z,C z→S z:=fun z h=>(hS z).2 (.inl h)
 have sA:ai S H H2:=(e1.mono fun z _ h=>by
  rcases h with h|h|h
  ·exact h▸Va
  ·exact h▸IA
  ·exact h▸tb3).trans (f2.mono fun _ _ h=>h.elim)
 refine v1 (ae o2) ?_
 refine(r7 m2.ring BA kM (fun c hc=>by have:=bS c hc;omega) (by omega)).mono ?_
 rintro rv H3 ⟨b3,s3,TL,f3⟩
 obtain⟨ka,kc,rfl⟩:=Sl.shape s3
 have m3:=m2.fresh f3
 have q3:=f3.own q2 (fun h=>h)
 have z3:=f3.size
 have Fj:ai S H H3:=sA.trans (f3.mono fun _ _ h=>h.elim)
 have aiS:¬B.S C b3:=fun h=>by have:=hS1 _ h;omega
 have T3:∀z,S z→z<H1.size:=fun z hz=>hS1 z ((hS z).1 hz)
 refine vs ?_
 refine bD.intro (fun mm env H'=>∃ (i:Nat) (N' P':List Int),mm=(x::A1).length - i∧i≤(x::A1).length∧bV H' B C w N' P' L1 tops∧dU (aH w) (aT w) (cr N') (aA ch x []) (gf ch par x) (aA aw g ((x::A1).drop i)) ((x::A1).take i).reverse∧
  Sl H' 1 (.slice ka (x::A1).length kc) (x::A1).length ((x::A1).map i64) (some b3)∧ai (fun z=>z=B.nb∨z=B.pb) H3 H'∧
  env=[(0,ptr B.n),(1,i64 g),(6,i64 x),(8,R8),(36,.slice ka (x::A1).length kc),(37,i64 (x::A1).length),(38,i64 i)]) _ ⟨0,N1,P1,rfl,by omega,m3,f1,s3,ai.refl _ _,rfl⟩ ?_
 rintro mm env H4 ⟨i,N4,P4,rfl,hi,m4,f4,s4,e4,rfl⟩
 obtain⟨Z4,o4,_⟩:=m4.own
 refine vs ?_
 refine am.dec (fun gi=>?_) (fun gi=>?_)<;>refine vs ?_
 ·have mX:i< (x::A1).length:=by omega
  obtain⟨c,I1⟩:∃c,(x::A1)[i]? =some c:=⟨_,List.getElem?_eq_getElem mX⟩
  have I7:=bS c (List.mem_of_getElem? I1)
  obtain⟨_,kb,lb,rfl,qb,qc⟩:=Sl.AU s4 I1
  have hkb:kb=b3:=by
   obtain⟨_,_,_,hh,_⟩:=s4
   injection hh with hh
   injection hh with hh
   injection hh with hh
  have dr:(x::A1).drop i=c::(x::A1).drop (i+1):=by
   rw[List.drop_eq_getElem_cons mX]
   congr 1
   rw[List.getElem?_eq_getElem mX]at I1
   injection I1
  have tk:(x::A1).take (i+1)=(x::A1).take i++[c]:=by rw[List.take_add_one,I1];rfl
  have WC:=m4.len
  refine⟨⟨by omega,by omega⟩,?_⟩
  refine v6 (ae qb) Nat.zero_add Nat.mul_one Int.toNat_natCast qc (ae o4) ?_
  refine(qz m4.ring m4.inv (x:=c) (by omega)).mono ?_
  rintro _ H5 ⟨rfl,N5,P5,r5,l5,n5,i5,e5⟩
  have m5:=m4.xw r5 i5 e5 l5
  have f5:=f4.Zm (x:=c) (g:=g) (A:=(x::A1).drop (i+1)) m4.inv (by unfold aA;rw[if_pos rfl];exact dr)
  rw[eJ,←n5]at f5
  refine vs ?_
  refine⟨(x::A1).length - (i+1),by omega,i+1,N5,P5,rfl,by omega,m5,?_,s4.ext e5 (fun z hz h=>by
   injection hz with hz
   subst hz
   have h1:=T3 _ Va
   have h2:=T3 _ IA
   omega),e4.trans e5,?_⟩
  ·rw[tk,List.reverse_append]
   exact f5
  ·rw[wrap64 (by omega) (by omega)]
   rfl
 obtain rfl:i=(x::A1).length:=by omega
 rw[List.drop_length,List.take_length]at f4
 have Bo:ai S H H4:=Fj.trans (e4.mono fun z _ h=>by
  rcases h with h|h
  ·exact h▸Va
  ·exact h▸IA)
 have z4:=e4.size
 have q4:=e4.own q3 (fun h=>by
  have h1:=T3 _ Va
  have h2:=T3 _ IA
  omega)
 obtain⟨cc,lt4,o4',q5,Bn,xM,MF⟩:=m4.hG
 refine v1 (ae o4') ?_
 refine⟨⟨by omega,by omega⟩,?_⟩
 refine v3 q5 Nat.zero_add Nat.mul_one ?_
 refine⟨by omega,?_⟩
 obtain⟨m5,e5⟩:=m4.nO q5 g.toNat (-1)
 refine vs ?_
 have q6:=e5.own q4 (fun h=>by
  have h1:=T3 _ tb4
  omega)
 have U6:=Bo.trans (e5.mono fun z _ h=>h▸tb4)
 have z5:=e5.size
 generalize H4.wr B.tp (lt4.set g.toNat (Value.int .i64 (-1)))=H5 at*
 have t0:PN w g (cr N4) (aA ch x []) (aA ch x []) (gf ch par x) (aA aw g []) [] A1 [x]:=by
  refine⟨f4.perm ?_,fun d y hd=>by simp at hd,fun y hy=>Tj y (by simp[hy]),fun _ _=>rfl,by simp⟩
  show List.Perm _ (A1++[x])
  exact(List.reverse_perm _).trans (List.perm_append_comm (l₁:=[x]) (l₂:=A1))
 have aeK:¬B.S C b2:=aeI
 subst hR8
 refine(Iz m5 q6 mw aeK t0 p1 (by omega)).mono ?_
 rintro tv H6 ⟨N6,P6,L6,Yr,NA,sB,fq,m6,t6,p6,s6,KN,e6⟩
 obtain⟨ta,tc,rfl⟩:=Sl.shape s6
 have ME:=t6.tl
 have QQ:ai S H H6:=U6.trans (e6.mono fun z _ h=>by
  rcases h with h|h|h|h
  ·exact hC z h
  ·exact h▸Va
  ·exact h▸IA
  ·exact h▸tb3)
 refine vs ?_
 have hf6:=t6.f
 rw[List.nil_append]at hf6
 have WD:br (tops.set g.toNat (-1))=kL (br tops) g (([]:List Int).headD (-1)):=eU (by omega) dv (-1)
 refine bD.intro (fun mm env H'=>∃ (i:Nat) (N' P' GS l':List Int),mm=sB.length - i∧i≤sB.length∧bV H' B C w N' P' L6 GS∧GS.length=tops.length∧br GS=kL (br tops) g (l'.headD (-1))∧
  dU (aH w) (aT w) (cr N') Yr NA (aA aw g l') (ws (sB.drop i)++[x])∧
  (∀c,aH w c=g→NA c= -1→c∉ws (sB.drop i)++[x]→l'.headD (-1)≠ -1∧(c≠l'.headD (-1)→aT w (l'.headD (-1)) c=true))∧
  Sl H' 1 (.slice ta sB.length tc) sB.length (sB.map i64) fq∧ai S H6 H'∧
  env=[(0,ptr B.n),(1,i64 g),(6,i64 x),(57,.slice ta sB.length tc),(58,i64 sB.length),(59,i64 i)]) _ ⟨0,N6,P6,_,[],rfl,by omega,m6,by rw[List.length_set],WD,hf6,fun c h1 h2 h3=>?_,s6,ai.refl _ _,rfl⟩ ?_
 ·exfalso
  rcases hf6.lX c (by omega) h2 with h4|h4
  ·rw[h1]at h4
   unfold aA at h4
   rw[if_pos rfl]at h4
   cases h4
  ·exact h3 h4
 rintro mm env H7 ⟨i,N7,P7,LM,l7,rfl,hi7,m7,hl7,Ys,f7,d7,s7,e7,rfl⟩
 have aiT:sB.length≤65537:=by omega
 refine vs ?_
 refine am.dec (fun gi=>?_) (fun gi=>?_)<;>refine vs ?_
 ·have mX:i<sB.length:=by omega
  obtain⟨r,hrr⟩:∃r,sB[i]? =some r:=⟨_,List.getElem?_eq_getElem mX⟩
  obtain⟨_,kb,lb,rfl,qb,qc⟩:=Sl.AU s7 hrr
  have hkb:fq=some kb:=by
   cases fq with
   |none=>have:=s7.2.2;injection this with h1;cases h1
   |some b'=>obtain⟨_,_,h1,_⟩:=s7.2;injection h1 with h1;injection h1 with h1;injection h1 with h1;rw[h1]
  have aiU:=KN kb hkb
  have dr:sB.drop i=r::sB.drop (i+1):=by
   rw[List.drop_eq_getElem_cons mX]
   congr 1
   rw[List.getElem?_eq_getElem mX]at hrr
   injection hrr
  refine⟨⟨by omega,by omega⟩,?_⟩
  refine v5 (ae qb) Nat.zero_add Nat.mul_one Int.toNat_natCast qc ?_
  rw[dr,ph,ed]at f7 d7
  refine am.dec (fun gr=>?_) (fun gr=>?_)<;>refine vs ?_
  rotate_left
  ·rw[if_neg gr]at f7 d7
   simp only[List.cons_append,List.nil_append]at f7 d7
   obtain⟨_,PP⟩:=t6.td i r hrr gr
   have Yt:br LM g=l7.headD (-1):=by rw[Ys];unfold kL;rw[if_pos rfl]
   refine(zE m7 f7 PP (by omega) (by rw[Yt];unfold aA;rw[if_pos rfl])).mono ?_
   rintro _ H8 ⟨N8,P8,aak,l8,m8,hl8,ht8,f8,KI,Hz,UR,hlT,e8⟩
   rw[eJ]at f8
   rw[Yt]at hlT
   have e8':ai S H7 H8:=e8.mono fun z _ h=>by
    rcases h with h|h|h|h
    ·exact hC z h
    ·exact h▸Va
    ·exact h▸IA
    ·exact h▸tb4
   refine vs ?_
   refine⟨sB.length - (i+1),by omega,i+1,N8,P8,aak,l8,rfl,by omega,m8,by omega,?_,f8,fun c h1 h2 h3=>⟨Hz,fun aS=>?_⟩,s7.ext e8' (fun z hz h=>by
    rw[hkb]at hz
    injection hz with hz
    subst hz
    have:=T3 _ h
    omega),e7.trans e8',?_⟩
   ·rw[ht8,Ys]
    funext z
    unfold kL
    split<;>rfl
   ·by_cases X5:c=r
    ·rw[X5]at aS ⊢
     exact UR aS
    ·obtain⟨h4,h5⟩:=d7 c h1 h2 (by
      simp only[List.mem_cons,not_or]
      exact⟨X5,h3⟩)
     by_cases h6:l7.headD (-1)=l8.headD (-1)
     ·rw[←h6]at aS ⊢
      exact h5 aS
     ·have h7:=hlT h4 h6
      by_cases h8:c=l7.headD (-1)
      ·rw[h8];exact h7
      ·exact ls.tr _ _ _ h7 (h5 h8)
   ·rw[wrap64 (by omega) (by omega)]
    rfl
  ·rw[if_pos gr]at f7 d7
   rw[List.nil_append]at f7 d7
   refine⟨sB.length - (i+1),by omega,i+1,N7,P7,LM,l7,rfl,by omega,m7,hl7,Ys,f7,d7,s7,e7,?_⟩
   rw[wrap64 (by omega) (by omega)]
   rfl
 obtain rfl:i=sB.length:=by omega
 rw[List.drop_length]at f7 d7
 have hw0:ws ([]:List Int)++[x]=[x]:=rfl
 rw[hw0]at f7 d7
 obtain⟨tv7,o7,_⟩:=m7.own
 refine v1 (ae o7) ?_
 refine(ck m7.cells x).mono ?_
 have aeM:cY w.cs x:=bJ.1 (by omega)
 rintro _ H8 (⟨cw,_,_⟩| ⟨_,rfl,c8,e8⟩)
 ·exact absurd aeM cw
 have m8:=m7.aK c8 e8 (by simp[Nw.put])
 refine vs ?_
 have cU:=fun y=>eD (w:=w) ie (0,0,0) y
 have w0:aH (w.put x (0,0,0)) (-1)=0:=rfl
 have w1:aH (w.put x (0,0,0)) x=0:=by rw[cU,if_pos rfl]
 have w2:∀y,y≠x→aH (w.put x (0,0,0)) y=aH w y:=fun y hy=>by rw[cU,if_neg hy]
 have el:∀a b,0<aH w a→0<aH w b→a≠x→b≠x→aT (w.put x (0,0,0)) a b=aT w a b:=fun a b ha hb tE oY=>dE ie _ ha hb tE oY
 have f8:=f7.drop (hm':=aH (w.put x (0,0,0))) (lt':=aT (w.put x (0,0,0))) (by
  rw[t6.c0 x (by simp)]
  unfold aA
  rw[if_pos rfl]) w0 w1 w2 el
 have hrm:∀g2 c,c∈aA aw g l7 g2→aH w c=g2∧c≠x:=fun g2 c hc=>by
  obtain⟨h1,_,_,h4⟩:=f7.rm g2 c hc
  exact⟨h1,fun e=>h4 (by simp[e])⟩
 refine .inr ⟨x,hx,rfl,cD.same ⟨B,C,N7,P7,L6,LM,Yr,NA,_,rfl,m8,⟨f8,p6,fun g2=>?_,fun g2 y Ea hy=>?_,by rw[hl7];exact l.tl⟩,hS⟩ ((QQ.trans e7).trans (e8.mono fun z _ h=>hC z h))⟩
 ·rw[Ys]
  unfold kL aA
  split
  ·rfl
  ·exact l.tp g2
 ·by_cases h2:g2=g
  ·have Yt:br LM g2=l7.headD (-1):=by rw[Ys,h2];unfold kL;rw[if_pos rfl]
   rw[Yt]
   refine f8.pr.lead (aq _) (fun z hz=>xy z hz) Ea (fun c hc UL=>?_) hy
   have jb:c≠x:=fun e=>by rw[e,w1]at hc;omega
   rw[w2 c jb]at hc
   obtain⟨h3,h4⟩:=d7 c (by omega) UL (by simp[jb])
   refine⟨h3,fun aS=>?_⟩
   obtain⟨h5,h6⟩:=hrm g _ (show l7.headD (-1)∈aA aw g l7 g by unfold aA;rw[if_pos rfl];exact eI h3)
   rw[el _ _ (by omega) (by omega) h6 jb]
   exact h4 aS
  ·have Yt:br LM g2=br tops g2:=by rw[Ys];unfold kL;rw[if_neg h2]
   rw[Yt]
   have qL:y≠x:=fun e=>by rw[e,w1]at hy;omega
   rw[w2 y qL]at hy
   obtain⟨h3,h4⟩:=l.ls g2 y Ea hy
   refine⟨h3,fun aS=>?_⟩
   have h5:aH w (br tops g2)=g2:=by
    have hm:br tops g2∈aw g2:=by
     have:=l.tp g2
     rw[this]at h3 ⊢
     exact eI h3
    exact(l.f.rm g2 _ hm).1
   rw[el _ _ (by omega) (by omega) (fun e=>by rw[e]at h5;omega) qL]
   exact h4 aS
theorem IB{n:Nat}{H:Hp}{S:Nat→Prop}{w:Nw}(h:kE n H S w):ah Tryz.prog mj [ptr n] H fun v H'=>ax (
  (w.hs.length=65537∧v=i64 0∧cD (kE n) S H H' w)∨(w.hs.length≠65537∧v=i64 w.hs.length∧cD (kE n) S H H' w.make)):=by
 obtain⟨B,C,N,P,L,tops,ch,par,aw,rfl,m,l,hS⟩:=id h
 obtain⟨tv,ho,Hv⟩:=m.own
 refine bc vE ⟨rfl,?_⟩
 refine v2 fP.eq_1 (ae ho) ?_
 refine(lN m.cells).mono ?_
 rintro _ H1 (⟨h1,rfl,rfl⟩| ⟨h1,rfl,C',c1,e1,AX⟩)
 ·refine vs ?_
  exact .inl ⟨h1,rfl,cD.same h (ai.refl _ _)⟩
 have iw:=m.cells.pos
 have hhs:=m.cells.Hv
 have ME:=l.tl
 have slt:=m.slt
 have LH:=c1.slt
 obtain⟨n1,n2,n3,n4,n5,n6⟩:=m.out
 obtain⟨⟨d1,d2,d3,d4,d5⟩,⟨d6,d7,d8,d9⟩,⟨d10,d11,d12⟩⟩:=m.qM
 have o1:=e1.own ho n1
 refine vs ?_
 refine am.cj (decide_eq_true (by omega)) ?_
 refine v1 (ae o1) ?_
 have s1:=Hv.ext e1 (fun b hb=>by injection hb with hb;exact hb▸n6)
 refine Rz s1 (-1) (by omega) fun w' H2 b' vY s2 e2=>?_
 have o2:=e2.own o1 d5
 obtain⟨wa,wc,OJ⟩:=Sl.shape s2
 subst OJ
 refine v1 o2 ?_
 generalize OJ:Value.slice wa (tops++[-1]).length wc=w' at*
 have e3:ai (fun z=>z=B.n) H2 (H2.wr B.n [ptr B.c,ptr B.r,.slice (some ⟨B.tb,0,none⟩) L.length L.length,w']):=(ai.refl (fun z=>z=B.n) _).wr (fun _=>rfl) _
 have z1:=e1.size
 have q1:=slt _ (.inr (.inl rfl))
 have q2:=slt _ (.inr (.inr (.inl rfl)))
 have q3:=slt _ (.inr (.inr (.inr (.inl rfl))))
 have q4:=slt _ (.inr (.inr (.inr (.inr (.inl rfl)))))
 have q5:=slt _ (.inr (.inr (.inr (.inr (.inr (.inl rfl))))))
 have q6:=slt _ (.inr (.inr (.inr (.inr (.inr (.inr rfl))))))
 have GF:∀z,C' z→z≠b'∧(z<H.size→C z):=fun z hz=>by
  have h5:=LH z hz
  rcases AX z hz with h6|h6
  ·refine⟨fun e=>?_,fun _=>h6⟩
   rcases vY with h7|h7
   ·exact n6 (by rw[←h7,←e];exact h6)
   ·omega
  ·exact⟨by omega,fun h=>by omega⟩
 refine .inr ⟨h1,rfl,(FB.mk B.n B.c B.r B.nb B.pb B.tb b').S C',⟨⟨B.n,B.c,B.r,B.nb,B.pb,B.tb,b'⟩,C',N,P,L,tops++[-1],ch,par,aw,rfl,⟨⟨w',aj o2,s2.ext e3 (fun b hb=>by injection hb with hb;omega)⟩,?_,?_,m.inv,?_,m.len,?_,?_⟩,⟨l.f,l.pc,fun g=>by rw[Cq];exact l.tp g,fun g y hg hy=>by rw[Cq];exact l.ls g y hg hy,?_⟩,fun z=>Iff.rfl⟩,?_,fun z hz=>?_⟩
 ·exact(c1.ext e2 (fun x hx e=>by
   rcases AX x hx with h6|h6
   ·exact n6 (e▸h6)
   ·omega)).ext e3 (fun x hx e=>by
   rcases AX x hx with h6|h6
   ·exact n1 (e▸h6)
   ·omega)
 ·exact((m.ring.ext e1 n2 n3 n4).ext e2 (Ne.symm d10) (Ne.symm d11) (Ne.symm d12)).ext e3 (Ne.symm d1) (Ne.symm d2) (Ne.symm d3)
 ·exact e3.own (e2.own (e1.own m.places n5) d9) (Ne.symm d4)
 ·refine⟨⟨d1,d2,d3,d4,?_⟩,⟨d6,d7,d8,?_⟩,⟨?_,?_,?_⟩⟩<;>simp only<;>omega
 ·exact⟨fun h=>n1 ((GF _ h).2 q1),fun h=>n2 ((GF _ h).2 q2),fun h=>n3 ((GF _ h).2 q3),fun h=>n4 ((GF _ h).2 q4),fun h=>n5 ((GF _ h).2 q5),fun h=>(GF _ h).1 rfl⟩
 ·simp[Nw.make,ME]
 ·exact((e1.mono fun z _ h=>(hS z).2 (.inl h)).trans (e2.mono fun z _ h=>(hS z).2 (.inr (.inr (.inr (.inr (.inr (.inr h)))))))).trans (e3.mono fun z _ h=>(hS z).2 (.inr (.inl h)))
 ·rcases hz with hz|hz|hz|hz|hz|hz|hz
  ·rcases AX z hz with h6|h6
   ·exact .inl ((hS z).2 (.inl h6))
   ·exact .inr h6
  ·exact .inl ((hS _).2 (.inr (.inl hz)))
  ·exact .inl ((hS _).2 (.inr (.inr (.inl hz))))
  ·exact .inl ((hS _).2 (.inr (.inr (.inr (.inl hz)))))
  ·exact .inl ((hS _).2 (.inr (.inr (.inr (.inr (.inl hz))))))
  ·exact .inl ((hS _).2 (.inr (.inr (.inr (.inr (.inr (.inl hz)))))))
  ·rcases vY with h7|h7
   ·exact .inl ((hS _).2 (.inr (.inr (.inr (.inr (.inr (.inr (hz.trans h7))))))))
   ·exact .inr (by have hz:z=b':=hz;omega)
def vV(n i:Nat):List Int:=(List.range i).map (fun(k:Nat)=>(k:Int))++List.replicate (n - i) 0
theorem xU{n i:Nat}(h:i≤n):(vV n i).length=n:=by unfold vV;simp;omega
theorem T4{n i:Nat}(h:i<n):(vV n i).set i (i:Int)=vV n (i+1):=by
 unfold vV
 rw[List.set_append_right _ _ (by simp),List.length_map,List.length_range,Nat.sub_self,show n - i=(n - (i+1))+1 by omega,List.replicate_succ,List.set_cons_zero,List.range_succ,List.map_append]
 simp
theorem GW(n:Nat)(x:Int):cr (vV n n) x=x:=by
 unfold cr
 split
 ·rename_i h
  rw[xU (Nat.le_refl _)]at h
  unfold vV
  rw[Nat.sub_self,List.replicate_zero,List.append_nil,List.getD_eq_getElem?_getD,List.getElem?_map,List.getElem?_range (by omega)]
  simp
  omega
 ·rfl
set_option maxHeartbeats 1000000 in
theorem IC(H:Hp){n:Int}(hn:0≤n∧n≤65536):ah Tryz.prog MS [i64 n] H fun v H'=>ax (∃r nb pb N P,v= .tuple [ptr r,i64 0].toArray∧hZ H' r nb pb N P∧N.length=n.toNat∧(∀x,cr N x=x)∧Bz (cr N) (cr P)∧ay H H'∧H.size≤r∧H.size≤nb∧H.size≤pb):=by
 refine bc MX ⟨rfl,?_⟩
 refine v1 F7.eq_1 ?_
 refine am.dec (fun g=>absurd g (by omega)) (fun _=>?_)
 refine vs ?_
 refine am.dec (fun g=>absurd g (by omega)) (fun _=>?_)
 refine vs ?_
 have hz:(List.replicate n.toNat (0:Int))=vV n.toNat 0:=by unfold vV;simp
 refine rV.intro (fun H'=>True) trivial ?_
 refine vs ?_
 refine Jd.intro ?A ?B
 case' A=>
  refine vs ?_
  refine⟨⟨by omega,by omega,by omega,by omega⟩,?_⟩
  refine vs ?_
  refine⟨⟨by omega,by omega,by omega,by omega⟩,?_⟩
  refine vs ?_
  rw[xq,hz]
  obtain⟨nb,EQ⟩:∃nb,nb=H.size:=⟨_,rfl⟩
  obtain⟨pb,PC⟩:∃pb,pb=H.size+1:=⟨_,rfl⟩
  have f0:ay H (((H.new 3 ((vV n.toNat 0).map i64)).new 3 ((vV n.toNat 0).map i64)).new 317 [.slice (some ⟨H.size,0,none⟩) n.toNat n.toNat,.slice (some ⟨H.size+1,0,none⟩) n.toNat n.toNat]):=(((ai.refl _ _).new _ _).new _ _).new _ _
  have h0:hZ (((H.new 3 ((vV n.toNat 0).map i64)).new 3 ((vV n.toNat 0).map i64)).new 317 [.slice (some ⟨H.size,0,none⟩) n.toNat n.toNat,.slice (some ⟨H.size+1,0,none⟩) n.toNat n.toNat]) (H.size+1+1) nb pb (vV n.toNat 0) (vV n.toNat 0):=by
   subst EQ PC
   refine⟨?_,?_,?_,rfl,by omega,by omega,by omega⟩
   ·rw[xU (Nat.zero_le _)];exact bC (by simp only[au])
   ·rw[cz (by simp only[au];omega),cz (by simp only[au];omega),aG]
   ·rw[cz (by simp only[au];omega)];exact bC (by simp only[au])
  generalize ((H.new 3 ((vV n.toNat 0).map i64)).new 3 ((vV n.toNat 0).map i64)).new 317 [.slice (some ⟨H.size,0,none⟩) n.toNat n.toNat,.slice (some ⟨H.size+1,0,none⟩) n.toNat n.toNat]=H0 at*
  have OI:H.size≤nb∧H.size≤pb:=⟨by omega,by omega⟩
 case' B=>
  refine vs ?_
  refine⟨⟨by omega,by omega,by omega,by omega⟩,?_⟩
  refine vs ?_
  refine⟨⟨by omega,by omega,by omega,by omega⟩,?_⟩
  refine vs ?_
  rw[xq,hz]
  obtain⟨nb,EQ⟩:∃nb,nb=H.size+1:=⟨_,rfl⟩
  obtain⟨pb,PC⟩:∃pb,pb=H.size:=⟨_,rfl⟩
  have f0:ay H (((H.new 3 ((vV n.toNat 0).map i64)).new 3 ((vV n.toNat 0).map i64)).new 317 [.slice (some ⟨H.size+1,0,none⟩) n.toNat n.toNat,.slice (some ⟨H.size,0,none⟩) n.toNat n.toNat]):=(((ai.refl _ _).new _ _).new _ _).new _ _
  have h0:hZ (((H.new 3 ((vV n.toNat 0).map i64)).new 3 ((vV n.toNat 0).map i64)).new 317 [.slice (some ⟨H.size+1,0,none⟩) n.toNat n.toNat,.slice (some ⟨H.size,0,none⟩) n.toNat n.toNat]) (H.size+1+1) nb pb (vV n.toNat 0) (vV n.toNat 0):=by
   subst EQ PC
   refine⟨?_,?_,?_,rfl,by omega,by omega,by omega⟩
   ·rw[xU (Nat.zero_le _)];exact bC (by simp only[au])
   ·rw[cz (by simp only[au];omega)];exact bC (by simp only[au])
   ·rw[cz (by simp only[au];omega),cz (by simp only[au];omega),aG]
  generalize ((H.new 3 ((vV n.toNat 0).map i64)).new 3 ((vV n.toNat 0).map i64)).new 317 [.slice (some ⟨H.size+1,0,none⟩) n.toNat n.toNat,.slice (some ⟨H.size,0,none⟩) n.toNat n.toNat]=H0 at*
  have OI:H.size≤nb∧H.size≤pb:=⟨by omega,by omega⟩
 all_goals
  refine bD.intro (fun m env H'=>∃j:Nat,m=n.toNat - j∧j≤n.toNat∧ai (fun z=>z=nb∨z=pb) H0 H'∧hZ H' (H.size+1+1) nb pb (vV n.toNat j) (vV n.toNat j)∧
   env=[(4,ptr (H.size+1+1)),(18,i64 n),(19,i64 j)]) n.toNat ⟨0,by omega,by omega,ai.refl _ _,h0,rfl⟩ ?_
  rintro m env H1 ⟨j,rfl,hj,e1,h1,rfl⟩
  have vk:=xU hj
  obtain⟨d1,d2,d3⟩:=h1.ne
  refine vs ?_
  refine am.dec (fun aR=>?_) (fun aR=>?_)<;>refine vs ?_
  ·refine v1 (ae h1.own) ?_
   refine⟨⟨by omega,by omega⟩,?_⟩
   refine v4 h1.OP Nat.zero_add Nat.mul_one Int.toNat_natCast ?_
   refine⟨by rw[List.length_map];omega,?_⟩
   refine vs ?_
   have e2:ai (fun z=>z=nb) H1 (H1.wr nb (((vV n.toNat j).map i64).set j (i64 j))):=(ai.refl (fun z=>z=nb) _).wr (fun _=>rfl) _
   have q2:(H1.wr nb (((vV n.toNat j).map i64).set j (i64 j))).own nb=some (((vV n.toNat j).map i64).set j (i64 j)):=aj h1.OP
   generalize H1.wr nb (((vV n.toNat j).map i64).set j (i64 j))=H2 at*
   have p2:=e2.own h1.U9 (Ne.symm d3)
   refine⟨⟨by omega,by omega⟩,?_⟩
   refine v5 p2 h1.U9 Nat.zero_add Nat.mul_one Int.toNat_natCast ?_
   refine⟨by rw[List.length_map];omega,?_⟩
   refine vs ?_
   have e3:ai (fun z=>z=pb) H2 (H2.wr pb (((vV n.toNat j).map i64).set j (i64 j))):=(ai.refl (fun z=>z=pb) _).wr (fun _=>rfl) _
   have q3:(H2.wr pb (((vV n.toNat j).map i64).set j (i64 j))).own pb=some (((vV n.toNat j).map i64).set j (i64 j)):=aj p2
   have LA:((vV n.toNat j).map i64).set j (i64 j)=(vV n.toNat (j+1)).map i64:=by rw[←T4 (by omega),List.map_set]
   rw[wrap64 (n:=(j:Int)+1) (by omega) (by omega)]
   refine⟨n.toNat - (j+1),by omega,j+1,rfl,by omega,(e1.trans (e2.mono fun z _ h=>.inl h)).trans (e3.mono fun z _ h=>.inr h),⟨?_,?_,?_,rfl,h1.ne⟩,rfl⟩
   ·have ho:=e3.own (e2.own h1.own d1) d2
    rw[vk]at ho
    rw[xU (by omega)]
    exact ho
   ·rw[←LA];exact e3.own q2 d3
   ·rw[←LA];exact q3
  ·obtain rfl:j=n.toNat:=by omega
   exact⟨_,nb,pb,_,_,rfl,h1,xU (Nat.le_refl _),GW _,⟨fun x=>by rw[GW,GW],fun x=>by rw[GW,GW]⟩,f0.then e1 (fun z hz=>by rcases hz with h|h<;>omega),by omega,OI.1,OI.2⟩
set_option maxRecDepth 100000 in
set_option maxHeartbeats 2000000 in
theorem CG{n:Nat}{H:Hp}{S:Nat→Prop}{w:Nw}(h:kE n H S w)(x k s:Int):ah Tryz.prog is [ptr n,i64 x,vN k s] H fun v H'=>ax (
  (¬w.da x k s∧v= .bool false∧cD (kE n) S H H' w)∨(w.da x k s∧v= .bool true∧∃y,w.cs[x.toNat]? =some y∧cD (kE n) S H H' (w.put x (y.1,k,s)))):=by
 obtain⟨B,C,N,P,L,tops,ch,par,aw,rfl,m,l,hS⟩:=h
 have hC:∀z,C z→S z:=fun z h=>(hS z).2 (.inl h)
 have Va:S B.nb:=(hS _).2 (.inr (.inr (.inr (.inl rfl))))
 have IA:S B.pb:=(hS _).2 (.inr (.inr (.inr (.inr (.inl rfl)))))
 have tb3:S B.tb:=(hS _).2 (.inr (.inr (.inr (.inr (.inr (.inl rfl))))))
 have tb4:S B.tp:=(hS _).2 (.inr (.inr (.inr (.inr (.inr (.inr rfl))))))
 refine bc qK ⟨rfl,?_⟩
 refine v1 dP.eq_1 ?_
 have f0:ay H (H.new 224 [i64 k,u64 s]):=(ai.refl _ _).new _ _
 have b0:(H.new 224 [i64 k,u64 s]).own H.size=some [i64 k,u64 s]:=aG _ _ _
 have m0:=m.fresh f0
 generalize H.new 224 [i64 k,u64 s]=H0 at*
 have ff:ai S H H0:=f0.mono fun _ _ h=>h.elim
 obtain⟨tv,J0,_⟩:=m0.own
 refine v2 (ae J0) (ae b0) ?_
 refine(jh m0.cells x k s).mono ?_
 rintro _ H1 (⟨cw,rfl,c1,e1⟩| ⟨bS,rfl,y,hy,gm,c1,e1⟩)
 ·refine vs ?_
  exact .inl ⟨cw,rfl,cD.same ⟨B,C,N,P,L,tops,ch,par,aw,rfl,m0.ext e1 (fun _ _ h=>h),l,hS⟩ (ff.trans (e1.mono fun _ _ h=>h.elim))⟩
 have qV:(w.put x (y.1,k,s)).cs.length=w.cs.length:=by simp[Nw.put]
 have m1:=m0.aK c1 e1 qV
 have Cy:w.da x k s:=⟨bS,fun z hz=>by rw[hy]at hz;injection hz with hz;rw[←hz];exact gm⟩
 have hx:0≤x∧x<w.cs.length:=⟨bS.1,by have:=(List.getElem?_eq_some_iff.1 hy).1;have:=bS.1;omega⟩
 have QH:aH w x=y.1:=mT bS.1 hy
 have ec:=bJ.2 bS
 have hw:aH (w.put x (y.1,k,s))=aH w:=by
  funext z
  rw[eD hx]
  split
  ·rename_i e;rw[e,QH]
  ·rfl
 have Ft:cY (w.put x (y.1,k,s)).cs x:=bJ.1 (by rw[hw];exact ec)
 have el:∀a b,0<aH w a→0<aH w b→a≠x→b≠x→aT (w.put x (y.1,k,s)) a b=aT w a b:=fun a b ha hb tE oY=>dE hx _ ha hb tE oY
 have ex:∀b,0<aH w b→b≠x→aT w x b=true→aT (w.put x (y.1,k,s)) x b=true:=fun b hb oY h=>Cp bS hy gm hb oY h
 have ls:=aq w
 have Tk:=aq (w.put x (y.1,k,s))
 obtain⟨g,hg⟩:∃g,g=aH w x:=⟨_,rfl⟩
 have dv:g<tops.length:=by
  have:=((m.cells.hm x).2 ec).2
  have:=l.tl
  omega
 have Ec:∀z,aH w z=g→br tops g≠ -1∧(z≠br tops g→aT w (br tops g) z=true):=fun z hz=>l.ls g z (by omega) hz
 obtain⟨GX,HA⟩:=Ec x hg.symm
 obtain⟨T,hT⟩:∃T,T=br tops g:=⟨_,rfl⟩
 rw[←hT]at GX HA Ec
 have WE:=ec
 have hhl:(w.put x (y.1,k,s)).hs.length=w.hs.length:=by simp[Nw.put]
 obtain⟨A,hr⟩:∃A,aw g=T::A:=by
  have h1:=l.tp g
  rw[←hT]at h1
  cases hc:aw g with
  |nil=>rw[hc]at h1;exact absurd h1 GX
  |cons c r=>rw[hc]at h1;exact⟨r,by rw[show T=c from h1]⟩
 have hTg:=(l.f.rm g T (by rw[hr];simp)).1
 have hTp:=(l.f.rm g T (by rw[hr];simp)).2.1
 have hT0:0<aH w T:=by omega
 generalize OJ:w.put x (y.1,k,s)=w' at*
 obtain⟨DU,o1,_⟩:=m1.own
 refine v1 (ae o1) ?_
 refine(dm m1.cells x).mono ?_
 rintro _ H2 (⟨cw,_,_⟩| ⟨_,rfl,c2,e2⟩)
 ·exact absurd Ft cw
 have m2:=m1.aK c2 e2 rfl
 have sA:ai S H H2:=(ff.trans (e1.mono fun z _ h=>hC z h)).trans (e2.mono fun z _ h=>hC z h)
 rw[hw,←hg]
 obtain⟨Nk,o2,_⟩:=m2.own
 have vU:=m2.len
 have xa:0≤x∧x<w'.cs.length:=by rw[qV];exact hx
 obtain⟨a0,a1,a2,a3,a4⟩:=m2.rd xa
 obtain⟨ux,_,_⟩:=l.pc x
 rw[ux]at a1
 refine v1 (ae o2) ?_
 refine⟨⟨by omega,by omega⟩,?_⟩
 refine v4 (ae m2.places) Nat.zero_add Nat.add_zero a1 ?_
 have e0:aA aw g (T::A)=aw:=by
  funext z
  unfold aA
  split
  ·rename_i e;rw[e,hr]
  ·rfl
 have QG:(par x= -1∨aT w' (par x) x=true)→dU (aH w') (aT w') (cr N) ch par (aA aw g (T::A)) []:=fun KI=>by
  rw[e0,hw]
  refine l.f.other fun z c hc h1 h2 h3=>?_
  by_cases hz:z=x
  ·rw[hz]at h3 hc ⊢
   exact ex c h2 (fun e=>by rw[e,ls.xN]at h3;cases h3) h3
  ·by_cases jb:c=x
   ·rw[jb]at hc ⊢
    obtain⟨d1,d2,_⟩:=l.f.pr.dn z x hc
    rcases KI with h|h
    ·rw[h]at d1;exact absurd d1.symm d2
    ·rw[←d1];exact h
   ·rw[el _ _ (by omega) h2 hz jb];exact h3
 refine am.dec (fun h0=>?A) (fun h0=>?B)
 case' A=>
  refine vs ?_
  obtain⟨H3,eH⟩:∃H3,H3=H2:=⟨_,rfl⟩
  rw[←eH]at m2 sA ⊢
  obtain⟨N3,P3,L3,MG,r9,A3,m3,f3,p3,e3⟩:∃N' P' L' dT bG A',bV H3 B C w' N' P' L' tops∧dU (aH w') (aT w') (cr N') dT bG (aA aw g (T::A')) []∧KM (eX L') dT bG∧ai S H H3:=⟨N,P,L,ch,par,A,m2,QG (.inl h0),l.pc,sA⟩
 case' B=>
  have hpc:=l.f.pr.up x _ rfl h0
  obtain⟨_,_,hph,HC,vW⟩:=l.f.pr.dn _ _ hpc
  have ec:par x≠x:=fun e=>by rw[e,ls.xN]at vW;cases vW
  refine v1 (ae o2) ?_
  refine(cI m2.cells x (par x)).mono ?_
  rintro _ H4 ⟨rfl,c4,e4⟩
  have m4:=m2.aK c4 e4 rfl
  have Bo:=sA.trans (e4.mono fun z _ h=>hC z h)
  rw[jj (w:=w') (a:=x) (b:=par x) (by rw[hw];exact WE) (by rw[hw];omega)]
  cases aR:aT w' x (par x)
  case' false=>
   refine vs ?_
   obtain⟨H3,eH⟩:∃H3,H3=H4:=⟨_,rfl⟩
   rw[←eH]at m4 Bo ⊢
   obtain⟨N3,P3,L3,MG,r9,A3,m3,f3,p3,e3⟩:∃N' P' L' dT bG A',bV H3 B C w' N' P' L' tops∧dU (aH w') (aT w') (cr N') dT bG (aA aw g (T::A')) []∧KM (eX L') dT bG∧ai S H H3:=⟨N,P,L,ch,par,A,m4,QG (.inr ((Tk.Oo (par x) x ec).resolve_right (by rw[aR];simp))),l.pc,Bo⟩
  case' true=>
   refine vs ?_
   refine(Fv m4 ls (x:=x) (g:=g) (t:=T) (A:=A) (by rw[hw];exact l.f) l.pc (by rw[hw];exact hg.symm) (by omega) dv hr hT.symm).mono ?_
   rintro _ H3 ⟨N3,P3,L3,MG,r9,A3,m3,f3',p3,u3,_,e5⟩
   have e3:=Bo.trans (e5.mono fun z _ h=>by
    rcases h with h|h|h
    ·exact h▸Va
    ·exact h▸IA
    ·exact h▸tb3)
   have f3:dU (aH w') (aT w') (cr N3) MG r9 (aA aw g (T::A3)) []:=by
    refine f3'.other fun z c hc h1 h2 h3=>?_
    rw[hw]at h1 h2
    have jb:c≠x:=fun e=>by
     obtain⟨d1,d2,_⟩:=f3'.pr.dn z c hc
     rw[e,u3]at d1
     exact d2 d1.symm
    by_cases hz:z=x
    ·rw[hz]at h3 ⊢
     exact ex c h2 jb h3
    ·rw[el _ _ (by omega) h2 hz jb];exact h3
   refine vs ?_
 all_goals
  have QD:aA aw g (T::A3) g=T::A3:=by unfold aA;rw[if_pos rfl]
  obtain⟨cc,lt3,o3,q3,Bn,xM,MF⟩:=m3.hG
  have q4:=m3.fA q3 (dW (tops:=tops) (h:=g) (by omega) dv)
  rw[←hT]at q4
  refine v1 (ae o3) ?_
  refine⟨⟨by omega,by omega⟩,?_⟩
  refine v4 (ae q3) Nat.zero_add Nat.mul_one q4 ?_
  have DY:∀g2 z,g2≠g→0<g2→aH w' z=g2→br tops g2≠ -1∧(z≠br tops g2→aT w' (br tops g2) z=true):=fun g2 z aS Ea hz=>by
   rw[hw]at hz
   obtain⟨h1,h2⟩:=l.ls g2 z Ea hz
   refine⟨h1,fun T5=>?_⟩
   have h5:aH w (br tops g2)=g2:=by
    have hm:br tops g2∈aw g2:=by
     have:=l.tp g2
     rw[this]at h1 ⊢
     exact eI h1
    exact(l.f.rm g2 _ hm).1
   rw[el _ _ (by omega) (by omega) (fun e=>by rw[e]at h5;omega) (fun e=>by rw[e]at hz;omega)]
   exact h2 T5
  have htp:∀g2,br tops g2=(aA aw g (T::A3) g2).headD (-1):=fun g2=>by
   unfold aA
   split
   ·rename_i e;rw[e,←hT];rfl
   ·exact l.tp g2
  refine am.dec (fun h5=>?_) (fun h5=>?_)
  ·refine vs ?_
   refine .inr ⟨Cy,rfl,y,hy,?_⟩
   rw[OJ]
   refine cD.same ⟨B,C,N3,P3,L3,tops,MG,r9,_,rfl,m3,⟨f3,p3,htp,fun g2 z Ea hz=>?_,by rw[l.tl,hhl]⟩,hS⟩ e3
   by_cases h6:g2=g
   ·rw[h6,←hT]
    refine⟨GX,fun T5=>?_⟩
    rw[hw,h6]at hz
    have h7:=(Ec z hz).2 T5
    rw[h5]at h7 T5 ⊢
    exact ex z (by omega) T5 h7
   ·exact DY g2 z h6 Ea hz
  refine v1 (ae o3) ?_
  refine⟨⟨by omega,by omega⟩,?_⟩
  refine v4 (ae q3) Nat.zero_add Nat.mul_one q4 ?_
  refine(cI m3.cells x T).mono ?_
  rintro _ H6 ⟨rfl,c6,e6⟩
  have m6:=m3.aK c6 e6 rfl
  have QQ:=e3.trans (e6.mono fun z _ h=>hC z h)
  rw[jj (w:=w') (a:=x) (b:=T) (by rw[hw];exact WE) (by rw[hw];omega)]
  cases D9:aT w' x T
  ·refine vs ?_
   refine .inr ⟨Cy,rfl,y,hy,?_⟩
   rw[OJ]
   refine cD.same ⟨B,C,N3,P3,L3,tops,MG,r9,_,rfl,m6,⟨f3,p3,htp,fun g2 z Ea hz=>?_,by rw[l.tl,hhl]⟩,hS⟩ QQ
   by_cases h6:g2=g
   ·rw[h6,←hT]
    refine⟨GX,fun T5=>?_⟩
    rw[hw,h6]at hz
    by_cases h8:z=x
    ·rw[h8];exact(Tk.Oo T x h5).resolve_right (by rw[D9];simp)
    ·rw[el _ _ (by omega) (by omega) h5 h8]
     exact(Ec z hz).2 T5
   ·exact DY g2 z h6 Ea hz
  ·obtain⟨cc,lt6,o6,q6,Bn,xM,MF⟩:=m6.hG
   refine v1 (ae o6) ?_
   refine⟨⟨by omega,by omega⟩,?_⟩
   refine v3 q6 Nat.zero_add Nat.mul_one ?_
   refine⟨by omega,?_⟩
   obtain⟨m7,e7⟩:=m6.nO q6 g.toNat x
   refine vs ?_
   have KO:r9 x= -1:=by
    apply Classical.byContradiction
    intro hp
    obtain⟨_,d2,d3,d4,d5⟩:=f3.pr.dn _ _ (f3.pr.up x _ rfl hp)
    rw[hw]at d3 d4
    by_cases e:r9 x=T
    ·rw[e]at d5
     rw[Tk.asym d5]at D9;cases D9
    ·have h9:=(Ec (r9 x) (by omega)).2 e
     have aeN:r9 x≠x:=fun e=>by rw[e,Tk.xN]at d5;cases d5
     rw[←el _ _ (by omega) (by omega) h5 aeN]at h9
     rw[Tk.asym (Tk.tr _ _ _ h9 d5)]at D9;cases D9
   have Ta:x∈aA aw g (T::A3) g:=by
    rcases f3.lX x (by rw[hw];exact WE) KO with h|h
    ·rw[hw,←hg]at h;exact h
    ·cases h
   obtain⟨A7,_,f7⟩:=f3.from_ Ta
   rw[eJ]at f7
   refine .inr ⟨Cy,rfl,y,hy,?_⟩
   rw[OJ]
   refine cD.same ⟨B,C,N3,P3,L3,_,MG,r9,_,rfl,m7,⟨f7,p3,fun g2=>?_,fun g2 z Ea hz=>?_,by rw[List.length_set,l.tl,hhl]⟩,hS⟩ (QQ.trans (e7.mono fun z _ h=>h▸tb4))
   ·rw[eU (by omega) dv]
    unfold kL aA
    split
    ·rfl
    ·exact l.tp g2
   ·rw[eU (by omega) dv]
    unfold kL
    by_cases h6:g2=g
    ·rw[if_pos h6]
     refine⟨by omega,fun T5=>?_⟩
     rw[hw,h6]at hz
     by_cases h8:z=T
     ·rw[h8];exact D9
     ·have h9:=(Ec z hz).2 h8
      rw[←el _ _ (by omega) (by omega) h5 T5]at h9
      exact Tk.tr _ _ _ D9 h9
    ·rw[if_neg h6]
     exact DY g2 z h6 Ea hz
theorem T6(k:Nat):cQ [Value.int .i64 0,Value.int .i64 0,Value.int .i64 0,Value.bool false] k=aM (List.replicate k ⟨0,0,0,false⟩):=by
 unfold cQ aM
 induction k with
 |zero=>rfl
 |succ k ih=>rw[List.replicate_succ,List.replicate_succ,List.flatten_cons,List.flatMap_cons,ih];rfl
set_option maxRecDepth 100000 in
set_option maxHeartbeats 1000000 in
theorem CH(cap:Int)(H:Hp):ah Tryz.prog ET [i64 cap] H fun v H'=>ax (
  ay H H'∧((¬ (0≤cap∧cap≤65536)∧v= .tuple [.pointer none,i64 31].toArray)∨
   ((0≤cap∧cap≤65536)∧∃n S,v= .tuple [ptr n,i64 0].toArray∧kE n H' S (Cw cap)∧∀x,S x→H.size≤x))):=by
 refine bc EY ⟨rfl,?_⟩
 refine v1 uW.eq_1 ?_
 refine(nM cap H).mono ?_
 rintro _ H1 ⟨f1,⟨hb,rfl⟩| ⟨hb,c,C,rfl,c1,hC⟩⟩
 ·refine vs ?_
  exact⟨f1,.inl ⟨hb,rfl⟩⟩
 refine vs ?_
 refine(IC H1 hb).mono ?_
 rintro _ H2 ⟨r,nb,pb,N,P,rfl,r2,hN,Yu,hinv,f2,hr,EQ,PC⟩
 have c2:=c1.fresh f2
 refine v1 decide_true ?_
 refine⟨⟨by omega,by omega,by omega,by omega⟩,?_⟩
 refine vs ?_
 rw[T6]
 have zx:=c1.slt
 have z1:=f1.size
 have z2:=f2.size
 have hrs:r<H2.size∧nb<H2.size∧pb<H2.size:=⟨aO r2.own,aO r2.OP,aO r2.U9⟩
 obtain⟨rn1,rn2,rn3⟩:=r2.ne
 have f3:ay H2 (((H2.new 273 (aM (List.replicate cap.toNat ⟨0,0,0,false⟩))).new 3 [Value.int .i64 (-1)]).new 271 [ptr c,ptr r,.slice (some ⟨H2.size,0,none⟩) cap.toNat cap.toNat,.slice (some ⟨H2.size+1,0,none⟩) 1 1]):=(((ai.refl _ _).new _ _).new _ _).new _ _
 have e1:ai (fun _=>False) (H2.new 273 (aM (List.replicate cap.toNat ⟨0,0,0,false⟩))) (((H2.new 273 (aM (List.replicate cap.toNat ⟨0,0,0,false⟩))).new 3 [Value.int .i64 (-1)]).new 271 [ptr c,ptr r,.slice (some ⟨H2.size,0,none⟩) cap.toNat cap.toNat,.slice (some ⟨H2.size+1,0,none⟩) 1 1]):=((ai.refl _ _).new _ _).new _ _
 have e2:ai (fun _=>False) ((H2.new 273 (aM (List.replicate cap.toNat ⟨0,0,0,false⟩))).new 3 [Value.int .i64 (-1)]) (((H2.new 273 (aM (List.replicate cap.toNat ⟨0,0,0,false⟩))).new 3 [Value.int .i64 (-1)]).new 271 [ptr c,ptr r,.slice (some ⟨H2.size,0,none⟩) cap.toNat cap.toNat,.slice (some ⟨H2.size+1,0,none⟩) 1 1]):=(ai.refl _ _).new _ _
 obtain⟨B,hB⟩:∃B:FB,B=⟨H2.size+1+1,c,r,nb,pb,H2.size,H2.size+1⟩:=⟨_,rfl⟩
 have m0:bV (((H2.new 273 (aM (List.replicate cap.toNat ⟨0,0,0,false⟩))).new 3 [Value.int .i64 (-1)]).new 271 [ptr c,ptr r,.slice (some ⟨H2.size,0,none⟩) cap.toNat cap.toNat,.slice (some ⟨H2.size+1,0,none⟩) 1 1]) B C (Cw cap) N P (List.replicate cap.toNat ⟨0,0,0,false⟩) [-1]:=by
  subst hB
  refine⟨⟨.slice (some ⟨H2.size+1,0,none⟩) 1 1,?_,?_⟩,c2.fresh f3,r2.ext f3 (fun h=>h) (fun h=>h) (fun h=>h),hinv,?_,?_,?_,?_⟩
  ·rw[List.length_replicate]
   exact bC (by simp only[au])
  ·exact(Sl.dQ (size:=1) (n:=1) (xs:=[i64 (-1)]) rfl (by simp only[au])).ext e2 (fun _ _ h=>h)
  ·exact e1.own (aG _ _ _) (fun h=>h)
  ·simp[Cw,hN]
  ·refine⟨⟨?_,?_,?_,?_,?_⟩,⟨?_,?_,?_,?_⟩,⟨?_,?_,?_⟩⟩<;>simp only<;>omega
  ·refine⟨fun h=>?_,fun h=>?_,fun h=>?_,fun h=>?_,fun h=>?_,fun h=>?_⟩<;>(have h2:=zx _ h;first|omega| (simp only at h2;omega))
 have Fp:B.n=H2.size+1+1:=by rw[hB]
 have hBs:∀z,B.S C z→H1.size≤z∨C z:=fun z hz=>by
  rcases hz with hz|rfl|rfl|rfl|rfl|rfl|rfl
  ·exact .inr hz
  all_goals rw[hB];left;first|omega| (simp only;omega)
 have hBt:B.tb=H2.size:=by rw[hB]
 have ft:=(f1.trans f2).trans f3
 generalize ((H2.new 273 (aM (List.replicate cap.toNat ⟨0,0,0,false⟩))).new 3 [Value.int .i64 (-1)]).new 271 [ptr c,ptr r,.slice (some ⟨H2.size,0,none⟩) cap.toNat cap.toNat,.slice (some ⟨H2.size+1,0,none⟩) 1 1]=H3 at*
 have qQ:(Cw cap).cs.length=cap.toNat:=by simp[Cw]
 rw[←Fp]
 refine bD.intro (fun m env H'=>∃ (j:Nat) (L':List Pc),m=cap.toNat - j∧j≤cap.toNat∧ai (fun z=>z=B.tb) H3 H'∧bV H' B C (Cw cap) N P L' [-1]∧(∀z:Int,0≤z→z<j→eX L' z=qN)∧
  env=[(5,i64 0),(7,ptr B.n),(33,i64 (cap.toNat:Nat)),(34,i64 j)]) cap.toNat ⟨0,_,by omega,by omega,ai.refl _ _,m0,fun z h0 h1=>by omega,rfl⟩ ?_
 rintro m env H4 ⟨j,L4,rfl,hj,e4,m4,g4,rfl⟩
 obtain⟨cc,lt4,o4,_⟩:=m4.hG
 have WC:=m4.len
 refine vs ?_
 refine am.dec (fun aR=>?_) (fun aR=>?_)<;>refine vs ?_
 ·refine rV.intro (fun H'=>H'.own B.n=some [ptr B.c,ptr B.r,.slice (some ⟨B.tb,0,none⟩) L4.length L4.length,.slice (some ⟨B.tp,0,none⟩) [(-1:Int)].length cc]) o4 ?_
  refine vs ?_
  refine rW.intro (.slice (some ⟨B.tb,0,none⟩) L4.length L4.length) (fun H' hI=>by refine v1 (ae hI) ?_;trivial) ?_
  refine vs ?_
  refine(xx H4).mono ?_
  rintro _ H5 ⟨rfl,e5⟩
  have o5:=e5.own o4 (fun h=>h)
  refine And.intro o5 ?_
  have m5:=m4.fresh e5
  refine vs ?_
  refine⟨⟨by omega,by omega⟩,?_⟩
  obtain⟨b0,_⟩:=m5.rd (x:=(j:Int)) (by omega)
  obtain⟨L6,k6,m6,e6⟩:=m5.Nz (x:=(j:Int)) (by omega) qN
  refine v2 m5.places Nat.zero_add ?_
  refine⟨by omega,?_⟩
  rw[show bq (aM L4) ((j:Int).toNat*4) (aJ (Value.agg #[i64 (-1),i64 (-1),i64 0,Value.bool false]))=bq (aM L4) ((j:Int).toNat*4) [i64 qN.u,i64 qN.k,i64 qN.d,.bool qN.m]from rfl]
  have Db:=m5.qM.1.2.2.2.1
  generalize H5.wr B.tb (bq (aM L4) ((j:Int).toNat*4) [i64 qN.u,i64 qN.k,i64 qN.d,.bool qN.m])=H6 at*
  refine vs ?_
  refine And.intro (e6.own o5 Db) ?_
  refine vs ?_
  refine⟨cap.toNat - (j+1),by omega,j+1,L6,rfl,by omega,(e4.trans (e5.mono fun _ _ h=>h.elim)).trans e6,m6,fun z h0 h1=>?_,?_⟩
  ·rw[k6]
   unfold pF
   split
   ·rfl
   ·exact g4 z h0 (by omega)
  ·rw[wrap64 (n:=(j:Int)+1) (by omega) (by omega)]
   rfl
 ·obtain rfl:j=cap.toNat:=by omega
  have hpc:∀z,eX L4 z=qN:=fun z=>by
   by_cases hz:0≤z∧z< (cap.toNat:Int)
   ·exact g4 z hz.1 hz.2
   ·unfold eX
    split
    ·rw[List.getElem?_eq_none (by omega)];rfl
    ·rfl
  refine⟨ft.then e4 (fun z hz=>by omega),.inr ⟨hb,B.n,B.S C,rfl,⟨B,C,N,P,L4,[-1],fun _=>[],fun _=> -1,fun _=>[],rfl,m4,⟨⟨⟨rfl,fun x c hc=>absurd hc (by simp),fun c x h hx=>absurd (Eq.symm h) hx,fun x=>List.nodup_nil⟩,
   fun x=>trivial,fun h=>trivial,fun h=>List.nodup_nil,fun h c hc=>absurd hc (by simp),List.nodup_nil,fun c hc=>absurd hc (by simp),fun c hc=>absurd hc (nP cap c),fun c _=>Yu c⟩,fun x=>by rw[hpc];exact⟨rfl,rfl,rfl⟩,
   fun g=>DZ g,fun g y hg hy=>absurd (show 0<aH (Cw cap) y by omega) (nP cap y),rfl⟩,fun z=>Iff.rfl⟩,fun z hz=>?_⟩⟩
  rcases hBs z hz with h|h
  ·omega
  ·exact hC z h
theorem LN(n:Nat):zB (.iface 206 (ptr n)) (kE n) where
 slt h:=h.slt
 ext h e hd:=h.ext e hd
 cells:=by
  rintro H S w ⟨B,C,N,P,L,tops,ch,par,aw,rfl,m,l,hS⟩
  exact⟨B.c,C,m.cells⟩
 has:=by
  rintro H S w g ⟨B,C,N,P,L,tops,ch,par,aw,rfl,m,l,hS⟩
  obtain⟨tv,ho,_⟩:=m.own
  exact⟨_,_,bF,ptr B.c,rfl,hX (off:=0) (by kernel_rfl) (ae ho) rfl,(kC m.cells g).mono fun v H' hp=>hp⟩
 make:=by
  intro H S w h
  exact⟨_,_,mj,ptr n,rfl,bE (by kernel_rfl),(IB h).mono fun v H' hp=>hp⟩
 insert:=by
  intro H S w g x k s h
  exact⟨_,_,j9,ptr n,rfl,bE (by kernel_rfl),(Fw h g x k s).mono fun v H' hp=>hp⟩
 min:=by
  intro H S w g h
  refine⟨_,_,ny,ptr n,rfl,bE (by kernel_rfl),(CF h g).mono ?_⟩
  rintro v H' ⟨⟨h1,rfl⟩| ⟨x,h1,rfl⟩,rfl⟩
  ·exact .inl ⟨h1,rfl,cD.same h (ai.refl _ _)⟩
  ·exact .inr ⟨x,h1,rfl,cD.same h (ai.refl _ _)⟩
 extract:=by
  intro H S w g h
  exact⟨_,_,je,ptr n,rfl,bE (by kernel_rfl),(Eb h g).mono fun v H' hp=>hp⟩
 qt:=by
  intro H S w x k s h
  exact⟨_,_,is,ptr n,rfl,bE (by kernel_rfl),(CG h x k s).mono fun v H' hp=>hp⟩
 entry:=by
  rintro H S w x ⟨B,C,N,P,L,tops,ch,par,aw,rfl,m,l,hS⟩
  obtain⟨tv,ho,_⟩:=m.own
  refine⟨_,_,bk,ptr B.c,rfl,hX (off:=0) (by kernel_rfl) (ae ho) rfl,(jg m.cells x).mono ?_⟩
  rintro v H' ⟨c1,f,hv⟩
  exact⟨⟨B,C,N,P,L,tops,ch,par,aw,rfl,m.fresh f,l,hS⟩,f,hv⟩
theorem qB(n:Nat)(H:Hp):ah Tryz.prog yg [ptr n,i64 0] H fun v H'=>ax (v= .tuple [.iface 194 (ptr n),i64 0].toArray∧H'=H):=by
 refine bc yF ⟨rfl,?_⟩
 refine v2 iz.eq_1 decide_true ?_
 exact⟨rfl,rfl⟩
theorem pe(n:Nat)(H:Hp):ah Tryz.prog rA [ptr n,i64 0] H fun v H'=>ax (v= .tuple [.iface 206 (ptr n),i64 0].toArray∧H'=H):=by
 refine bc rJ ⟨rfl,?_⟩
 refine v2 ee.eq_1 decide_true ?_
 exact⟨rfl,rfl⟩
def EF(kd dd:Int):Prop:=∀ (cap:Int),(0≤cap∧cap≤65536)→∀H:Hp,ah Tryz.prog I3 [Nn kd dd,i64 cap] H fun v H'=>ax (∃t vv I Sn,v= .tuple [.iface t vv,i64 0].toArray∧zB (.iface t vv) I∧I H' Sn (Cw cap)∧ay H H'∧∀z,Sn z→H.size≤z)
theorem Sa:EF 1 0:=by
 intro cap hc H
 have hf:lQ 1 0:=by decide
 refine bc Do ⟨rfl,?_⟩
 refine v1 sM.eq_1 ?_
 have f0:ay H (H.new 23 [i64 1,i64 0]):=(ai.refl _ _).new _ _
 have o0:(H.new 23 [i64 1,i64 0]).own H.size=some [i64 1,i64 0]:=aG _ _ _
 have z0:(H.new 23 [i64 1,i64 0]).size=H.size+1:=au _ _ _
 generalize H.new 23 [i64 1,i64 0]=H0 at*
 refine am.cj (by decide) ?_
 refine v1 (ae o0) ?_
 refine am.cj (by decide) ?_
 refine v1 (ae o0) ?_
 refine(lR hf (by decide) H0).mono ?_
 rintro _ H1 ⟨rfl,f1⟩
 refine vs ?_
 refine(rZ cap _ H1).mono ?_
 rintro _ H2 ⟨f2,⟨hb,rfl⟩| ⟨_,hd,rfl⟩| ⟨_,hd,n,Sn,rfl,h2,J8⟩⟩
 ·exact absurd hc hb
 ·refine absurd ?_ hd
  obtain⟨_,h|h⟩:=hf
  ·first|exact⟨h.2.1,h.2.2⟩|exact absurd h.1 (by decide)
  ·first|exact⟨by decide,by decide⟩|exact absurd rfl h.1
 ·refine vs ?_
  refine(qB n H2).mono ?_
  rintro _ _ ⟨rfl,rfl⟩
  have z1:=f1.size
  refine vs ?_
  exact⟨_,_,_,Sn,rfl,A5 n _,⟨0,h2⟩,(f0.trans f1).trans f2,fun z hz=>by have:=J8 z hz;omega⟩
theorem PQ:EF 5 0:=by
 intro cap hc H
 have hf:lQ 5 0:=by decide
 refine bc Do ⟨rfl,?_⟩
 refine v1 sM.eq_1 ?_
 have f0:ay H (H.new 23 [i64 5,i64 0]):=(ai.refl _ _).new _ _
 have o0:(H.new 23 [i64 5,i64 0]).own H.size=some [i64 5,i64 0]:=aG _ _ _
 have z0:(H.new 23 [i64 5,i64 0]).size=H.size+1:=au _ _ _
 generalize H.new 23 [i64 5,i64 0]=H0 at*
 refine am.aW (by decide) ?_
 refine vs ?_
 refine am.aW (by decide) ?_
 refine vs ?_
 refine am.aW (by decide) ?_
 refine vs ?_
 refine am.aW (by decide) ?_
 refine vs ?_
 refine am.cj (by decide) ?_
 refine vs ?_
 refine(CH cap H0).mono ?_
 rintro _ H2 ⟨f2,⟨hb,rfl⟩| ⟨_,n,Sn,rfl,h2,J8⟩⟩
 ·exact absurd hc hb
 ·refine vs ?_
  refine(pe n H2).mono ?_
  rintro _ _ ⟨rfl,rfl⟩
  refine vs ?_
  exact⟨_,_,_,Sn,rfl,LN n,h2,f0.trans f2,fun z hz=>by have:=J8 z hz;omega⟩
def PR(cap:Int)(mo:Nat):Ar:=⟨List.replicate cap.toNat (0,false),[],0,0,mo⟩
theorem J9{kd dd cap:Int}{mo:Nat}(hf:lQ kd dd)(C7:EF kd dd)(hc:0≤cap∧cap≤65536)(hm:0<mo∧mo≤4294967295)(H:Hp):ah Tryz.prog Pa [Nn kd dd,i64 cap,.int .u32 (mo:Int)] H fun v H'=>ax (∃s S,v= .tuple [ptr s,i64 0].toArray∧FL H' s S (Cw cap) (PR cap mo) 0∧ay H H'∧∀z,S z→H.size≤z):=by
 refine bc Pd ⟨rfl,?_⟩
 refine v1 Dm.eq_1 ?_
 have f0:ay H (H.new 23 [i64 kd,i64 dd]):=(ai.refl _ _).new _ _
 have o0:(H.new 23 [i64 kd,i64 dd]).own H.size=some [i64 kd,i64 dd]:=aG _ _ _
 have z0:(H.new 23 [i64 kd,i64 dd]).size=H.size+1:=au _ _ _
 generalize H.new 23 [i64 kd,i64 dd]=H0 at*
 refine(qv kd dd H0).mono ?_
 rintro _ H1 ⟨rfl,f1⟩
 rw[No hf]
 have o1:=f1.own o0 (fun h=>h)
 have z1:=f1.size
 refine vs ?_
 refine am.dec (fun _=>?_) (fun hh=>absurd trivial hh)
 refine vs ?_
 refine(Gz H1 hc hm).mono ?_
 rintro _ H2 ⟨B,rfl,m2,f2,hB⟩
 have o2:=f2.own o1 (fun h=>h)
 have z2:=f2.size
 refine vs ?_
 refine am.dec (fun _=>?_) (fun hh=>absurd trivial hh)
 refine v1 (ae o2) ?_
 refine(C7 _ hc H2).mono ?_
 rintro _ H3 ⟨t,vv,I,Sn,rfl,n,hi,f3,QO⟩
 have o3:=f3.own o2 (fun h=>h)
 have z3:=f3.size
 refine vs ?_
 refine am.dec (fun _=>?_) (fun hh=>absurd trivial hh)
 refine v1 (ae o3) ?_
 have hsB:=m2.slt
 have hsN:=fun z hz=>n.slt hi z hz
 have f4:ay H3 (H3.new 161 [i64 kd,i64 dd,ptr B.a,.iface t vv,u64 0]):=(ai.refl _ _).new _ _
 have b4:(H3.new 161 [i64 kd,i64 dd,ptr B.a,.iface t vv,u64 0]).own H3.size=some [i64 kd,i64 dd,ptr B.a,.iface t vv,u64 0]:=aG _ _ _
 refine⟨H3.size,fun z=>Sn z∨B.S z∨z=H3.size,rfl,⟨t,vv,I,Sn,B,kd,dd,n,n.ext hi f4 (fun _ _ h=>h),(m2.ext f3 (fun _ _ h=>h)).ext f4 (fun _ _ h=>h),b4,fun z hz=>⟨fun h=>?_,?_⟩,fun h=>?_,fun z=>Iff.rfl,⟨by simp[Cw,PR],fun x=>?_⟩⟩,(((f0.trans f1).trans f2).trans f3).trans f4,fun z hz=>?_⟩
 ·have:=hsB z h
  have:=QO z hz
  omega
 ·have:=hsN z hz
  omega
 ·have:=hsB _ h
  omega
 ·constructor
  ·intro h
   exact absurd (bJ.2 h) (nP cap x)
  ·rintro⟨h0,h1⟩
   simp only[PR,List.getElem?_replicate]at h1
   split at h1<;>simp at h1
 ·rcases hz with h|h|h
  ·have:=QO z h;omega
  ·have:=hB z h;omega
  ·omega
abbrev NB:Shape:=.s [(0,(none,.int)),(1,(none,.int))]
def xz(H:Hp)(b:Nat)(L:List ((Int×Nat)×Value)):Prop:=∃es k,H.mp b=some (es,k)∧es.map (fun e=>(e.key,e.val))=L.map (fun p=>(kM p.1.1 p.1.2,p.2))∧(L.map (·.1)).Nodup
theorem xz.new(H:Hp):xz H.fX H.size []:=⟨[],0,Ka H,rfl,List.nodup_nil⟩
theorem xz.ext{H H':Hp}{b:Nat}{L:List ((Int×Nat)×Value)}{S:Nat→Prop}(h:xz H b L)(e:ai S H H')(hs:¬S b):xz H' b L:=by
 obtain⟨es,k,h1,h2⟩:=h
 exact⟨es,k,e.mp h1 hs,h2⟩
theorem xz.lt{H:Hp}{b:Nat}{L:List ((Int×Nat)×Value)}(h:xz H b L):b<H.size:=by
 obtain⟨es,k,h1,h2⟩:=h
 exact OS h1
theorem T7(a b:Int×Nat):tf NB (kM a.1 a.2) (kM b.1 b.2)=some (decide (a=b)):=by
 obtain⟨x,g⟩:=a
 obtain⟨y,h⟩:=b
 simp only[tf,Ct,GY,List.getElem?_cons_zero,List.getElem?_cons_succ,bA,if_pos rfl]
 by_cases e:x=y
 ·by_cases e2:g=h
  ·simp[e,e2,bA]
  ·have:¬ ((g:Int)=(h:Int)):=by omega
   simp[e,e2,this,bA]
 ·simp[e,bA]
theorem Jf(a:Int×Nat):∀ (es:List MapEntry) (L:List ((Int×Nat)×Value)),es.map (fun e=>(e.key,e.val))=L.map (fun p=>(kM p.1.1 p.1.2,p.2))→(L.map (·.1)).Nodup→∀n:Nat,
  (a∉L.map (·.1)→ic NB (kM a.1 a.2) es n=some none)∧(∀v,(a,v)∈L→∃j,ic NB (kM a.1 a.2) es n=some (some (j,v))):=by
 intro es
 induction es with
 |nil=>
  intro L hL _ n
  cases L with
  |nil=>exact⟨fun _=>rfl,fun v h=>by cases h⟩
  |cons p L=>simp at hL
 |cons e es ih=>
  intro L hL hd n
  cases L with
  |nil=>simp at hL
  |cons p L=>
   rw[List.map_cons,List.map_cons]at hL
   injection hL with h1 h2
   injection h1 with h1 h3
   rw[List.map_cons,List.nodup_cons]at hd
   have hq:tf NB (kM a.1 a.2) e.key=some (decide (a=p.1)):=by rw[h1];exact T7 a p.1
   obtain⟨i1,i2⟩:=ih L h2 hd.2 (n+1)
   refine⟨fun hn=>?_,fun v hv=>?_⟩
   ·rw[List.map_cons,List.mem_cons,not_or]at hn
    rw[ic,hq,decide_eq_false hn.1]
    exact i1 hn.2
   ·by_cases e2:a=p.1
    ·rw[ic,hq,decide_eq_true e2]
     rcases List.mem_cons.1 hv with h|h
     ·refine⟨n,?_⟩
      simp only
      rw[h3,←h]
     ·exact absurd (List.mem_map.2 ⟨(a,v),h,e2⟩) hd.1
    ·rw[ic,hq,decide_eq_false e2]
     rcases List.mem_cons.1 hv with h|h
     ·exact absurd (by rw[←h]) e2
     ·exact i2 v h
theorem Ed(x:Int)(g:Nat):CI NB (kM x g)=true:=rfl
theorem xz.look{H:Hp}{b:Nat}{L:List ((Int×Nat)×Value)}(h:xz H b L){a:Int×Nat}{v:Value}(hv:(a,v)∈L){F:Option Value→Prop}(hF:F (some v)):zF H NB (some b) (kM a.1 a.2) F:=by
 obtain⟨es,k,h1,h2,h3⟩:=h
 unfold zF
 simp only[h1,qC]
 obtain⟨j,hj⟩:=(Jf a es L h2 h3 0).2 v hv
 rw[hj]
 exact hF
theorem xz.Yc{H:Hp}{b:Nat}{L:List ((Int×Nat)×Value)}(h:xz H b L){a:Int×Nat}{v:Value}(hn:a∉L.map (·.1)){F:Hp→Prop}(hk:∀H',xz H' b (L++[(a,v)])→ai (fun x=>x=b) H H'→F H'):Sb H NB b (kM a.1 a.2) v F:=by
 obtain⟨es,k,h1,h2,h3⟩:=h
 unfold Sb
 simp only[h1,qC]
 rw[(Jf a es L h2 h3 0).1 hn]
 refine⟨rfl,hk _ ⟨_,_,nR h1,by simp[LO,h2],?_⟩ ((ai.refl (fun x=>x=b) H).Ey (fun _=>rfl) _ _)⟩
 rw[List.map_append,List.map_singleton,List.nodup_append]
 refine⟨h3,by simp,fun x hx c hc e=>?_⟩
 rw[List.mem_singleton]at hc
 have e2:x=a:=e.trans hc;rw[e2]at hx;exact hn hx
structure QS(n:Nat)(A:Ar):Prop where
 len:A.g.length=n
 mo:A.mo=4294967295
 free:∀x:Int,0≤x→x<A.nx→¬A.live x→x∈A.wt
theorem QS.zero(n:Nat):QS n (PR (n:Int) 4294967295):=⟨by simp[PR],rfl,fun x h0 h1=>by simp[PR]at h1;omega⟩
theorem QS.room{n:Nat}{A:Ar}(h:QS n A){x:Int}(h0:0≤x∧x<n)(hl:¬A.live x)(ok:AV A):A.pick≠none:=by
 have bm:=h.len
 have JZ:=ok.nx
 unfold Ar.pick
 split
 ·simp
 ·rename_i hw
  rw[Classical.not_not]at hw
  split
  ·rename_i he
   have:=h.free x h0.1 (by omega) hl
   rw[hw]at this
   cases this
  ·simp
theorem QS.out{n:Nat}{A A':Ar}{x:Int}(h:QS n A)(ok:AV A)(hp:A.pick=some (x,A')):QS n (A'.out x):=by
 obtain⟨hx,qV,Yh,FI,hg,hct,hmo⟩:=Ar.Cu hp ok
 have Gr:0≤x∧x<A'.g.length:=by rw[hg];exact hx
 refine⟨by show(A'.g.set _ _).length=n;rw[List.length_set,hg];exact h.len,by show A'.mo=_;rw[hmo];exact h.mo,fun y h0 h1 hl=>?_⟩
 have h1:y< (A'.nx:Int):=h1
 rw[Ar.qq (A:=A') Gr rfl h0]at hl
 by_cases e:y=x
 ·rw[if_pos e]at hl;exact absurd rfl hl
 ·rw[if_neg e]at hl
  have vU:¬A.live y:=by unfold Ar.live at hl ⊢;rw[hg]at hl;exact hl
  show y∈A'.wt
  unfold Ar.pick at hp
  split at hp
  ·rename_i aS
   injection hp with hp
   injection hp with HC vW
   subst vW
   have hm:=h.free y h0 h1 vU
   have hw:A.wt=A.wt.dropLast++[A.wt.getLastD 0]:=by
    conv=>lhs;rw[←List.dropLast_concat_getLast aS]
    rw[List.getLastD_eq_getLast?,List.getLast?_eq_some_getLast aS]
    rfl
   rw[hw,List.mem_append,List.mem_singleton]at hm
   rcases hm with hm|hm
   ·exact hm
   ·exact absurd (hm.trans HC) e
  ·split at hp
   ·cases hp
   ·injection hp with hp
    injection hp with HC vW
    subst vW
    simp only at h1
    exact h.free y h0 (by omega) vU
theorem QS.back{n:Nat}{A:Ar}{x:Int}(h:QS n A)(hx:0≤x∧x<A.g.length)(hg:A.cf x<4294967295):QS n (A.back x):=by
 refine⟨by show(A.g.set _ _).length=n;rw[List.length_set];exact h.len,h.mo,fun y h0 h1 hl=>?_⟩
 rw[Ar.qq (A:=A) hx rfl h0]at hl
 show y∈(if A.cf x<A.mo then A.wt++[x]else A.wt)
 rw[h.mo,if_pos hg,List.mem_append,List.mem_singleton]
 by_cases e:y=x
 ·exact .inr e
 ·rw[if_neg e]at hl
  exact .inl (h.free y h0 h1 hl)
theorem PS{A A':Ar}{x:Int}(hp:A.pick=some (x,A'))(ok:AV A):AV A':=by
 have JZ:=ok.nx
 unfold Ar.pick at hp
 split at hp
 ·rename_i aS
  injection hp with hp
  injection hp with HC vW
  subst vW
  exact⟨fun y hy=>ok.wl y ((List.dropLast_sublist _).subset hy),List.Nodup.sublist (List.dropLast_sublist _) ok.wd,ok.fr,ok.ct,ok.nx⟩
 ·split at hp
  ·cases hp
  ·injection hp with hp
   injection hp with HC vW
   subst vW
   exact⟨fun y hy=>by have:=ok.wl y hy;exact⟨this.1,by simp only;omega,this.2.2⟩,ok.wd,fun y hy=>ok.fr y (by simp only at hy;omega),ok.ct,by simp only;omega⟩
structure ID(n:Nat)(w:Nw)(A:Ar)(L:List ((Int×Nat)×Value))(bX:List (Int×Nat))(at_:Nat):Prop where
 hs:w.has 1
 T8:QS n A
 lk:Wg w A
 ok:AV A
 c1:∀ (x:Int) y,0≤x→w.cs[x.toNat]? =some y→y.1=0∨(y.1=1∧∃id:Nat,y.2.2=(id:Int)+1∧(y.2.1,id)∈bX∧((x,A.cf x),i64 id)∈L)
 c2:∀p∈bX,∃x:Int,0≤x∧w.cs[x.toNat]? =some (1,p.1,(p.2:Int)+1)
 ge:∀x:Int,0≤x→A.cf x≤at_
 ls:∀p∈L,0≤p.1.1∧p.1.2≤A.cf p.1.1
 ids:L.map (·.2)=(List.range at_).map fun(i:Nat)=>i64 i
 ri:zL bX
 lt:∀p∈bX,p.2<at_
 cn:A.ct=bX.length
theorem ID.idx{n at_:Nat}{w:Nw}{A:Ar}{L:List ((Int×Nat)×Value)}{bX:List (Int×Nat)}(h:ID n w A L bX at_){a b:Int×Nat}{id:Nat}(h1:(a,i64 id)∈L)(h2:(b,i64 id)∈L):a=b:=by
 obtain⟨i,hi⟩:=List.getElem?_of_mem h1
 obtain⟨j,hj⟩:=List.getElem?_of_mem h2
 have hk:∀ (k:Nat) (c:(Int×Nat)×Value),L[k]? =some c→c.2=i64 (k:Int):=by
  intro k c hc
  have e1:(L.map (·.2))[k]? =some c.2:=by rw[List.getElem?_map,hc];rfl
  rw[h.ids,List.getElem?_map]at e1
  have aR:=(List.getElem?_eq_some_iff.1 hc).1
  have pt:L.length=at_:=by have:=congrArg List.length h.ids;simpa using this
  rw[List.getElem?_range (by omega)]at e1
  simpa using e1.symm
 have e1:=hk i _ hi
 have e2:=hk j _ hj
 have e3:i=j:=by
  have:=e1.symm.trans e2
  injection this with _ this
  omega
 subst e3
 rw[hi]at hj
 injection hj with hj
 injection hj
theorem ID.first{n at_:Nat}{w:Nw}{A:Ar}{L:List ((Int×Nat)×Value)}{bX:List (Int×Nat)}(h:ID n w A L bX at_){x:Int}{y:Ce}(hf:w.first 1 x)(hy:w.cs[x.toNat]? =some y):0≤x∧x<n∧∃id:Nat,y=(1,y.2.1,(id:Int)+1)∧QE (y.2.1,id) bX∧((x,A.cf x),i64 id)∈L:=by
 obtain⟨_,f2,f3⟩:=bN.1 hf
 obtain⟨x0,x1,_⟩:=aF (w:=w) (x:=x) (by omega)
 have HD:=mT x0 hy
 rw[f2]at HD
 have bm:w.cs.length=n:=by rw[h.lk.len];exact h.T8.len
 rcases h.c1 x y x0 hy with h0| ⟨_,id,e1,e2,e3⟩
 ·omega
 refine⟨x0,by omega,id,?_,⟨e2,fun q hq aS=>?_⟩,e3⟩
 ·obtain⟨a,b,c⟩:=y
  simp only at HD e1 ⊢
  rw[←HD,e1]
 ·obtain⟨z,z0,hz⟩:=h.c2 q hq
  have TY:z≠x:=by
   intro e
   rw[e,hy]at hz
   injection hz with hz
   rw[hz]at e1
   simp only at e1
   omega
  have aR:=f3 z (mT z0 hz) TY
  unfold aT at aR
  have k1:w.key x=y.2.1∧w.seq x=y.2.2:=by
   unfold Nw.key Nw.seq
   simp only[List.getD_eq_getElem?_getD,hy]
   exact⟨rfl,rfl⟩
  have k2:w.key z=q.1∧w.seq z=(q.2:Int)+1:=by
   unfold Nw.key Nw.seq
   simp only[List.getD_eq_getElem?_getD,hz]
   exact⟨rfl,rfl⟩
  rw[k1.1,k1.2,k2.1,k2.2]at aR
  simp only[decide_eq_true_eq]at aR
  simp only
  omega
theorem ID.ne0{n at_:Nat}{w:Nw}{A:Ar}{L:List ((Int×Nat)×Value)}{bX:List (Int×Nat)}(h:ID n w A L bX at_)(hp:bX≠[]):w.len 1≠0:=by
 intro h0
 cases bX with
 |nil=>exact hp rfl
 |cons p r=>
  obtain⟨x,x0,hx⟩:=h.c2 p (by simp)
  exact(xd (by omega)).1 h0 x (mT x0 hx)
theorem ID.take{n at_:Nat}{w:Nw}{A:Ar}{L:List ((Int×Nat)×Value)}{bX:List (Int×Nat)}(h:ID n w A L bX at_)(sw:at_<4294967295){x k:Int}{id:Nat}(hx:0≤x∧x<n)(hy:w.cs[x.toNat]? =some (1,k,(id:Int)+1))(hL:QE (k,id) bX)(hm:((x,A.cf x),i64 id)∈L):ID n (w.put x (0,0,0)) (A.back x) L (wo bX (k,id)) at_:=by
 have bm:w.cs.length=n:=by rw[h.lk.len];exact h.T8.len
 have hxA:0≤x∧x<A.g.length:=by rw[h.T8.len];exact hx
 have hg:∀z:Int,0≤z→(A.back x).cf z=A.cf z:=by
  intro z hz
  rw[Ar.OE (A:=A) (A':=A.back x) hxA rfl hz]
  split
  ·rename_i e;rw[e]
  ·rfl
 have xk:A.live x:=(h.lk.live x).1 ⟨hx.1,_,hy,by simp⟩
 refine⟨h.hs,h.T8.back hxA (by have:=h.ge x hx.1;omega),h.lk.put hxA (v:=A.cf x) rfl,h.ok.back xk,fun z y z0 LP=>?_,fun p hp=>?_,fun z hz=>by rw[hg z hz];exact h.ge z hz,fun p hp=>by have:=h.ls p hp;exact⟨this.1,by rw[hg _ this.1];exact this.2⟩,h.ids,h.ri.wo _,fun p hp=>h.lt p (pL.1 hp).1,?_⟩
 rotate_right
 ·have h1:=(Bs h.ri hL.m).length_eq
  have h2:=h.cn
  rw[List.length_cons]at h1
  show A.ct - 1=_
  omega
 ·have LP:(w.cs.set x.toNat (0,0,0))[z.toNat]? =some y:=LP
  by_cases e:z=x
  ·subst e
   rw[List.getElem?_set_self (by omega)]at LP
   injection LP with LP
   exact .inl (by rw[←LP])
  ·rw[List.getElem?_set_ne (by omega)]at LP
   rcases h.c1 z y z0 LP with h0| ⟨g1,id2,e1,e2,e3⟩
   ·exact .inl h0
   ·refine .inr ⟨g1,id2,e1,pL.2 ⟨e2,fun e4=>e ?_⟩,by rw[hg z z0];exact e3⟩
    simp only at e4
    rw[e4]at e3
    have:=h.idx e3 hm
    injection this
 ·obtain⟨HC,vW⟩:=pL.1 hp
  obtain⟨z,z0,hz⟩:=h.c2 p HC
  refine⟨z,z0,?_⟩
  show(w.cs.set x.toNat (0,0,0))[z.toNat]? =_
  rw[List.getElem?_set_ne ?_]
  ·exact hz
  ·intro e
   rw[←e,hy]at hz
   injection hz with hz
   injection hz with _ hz
   injection hz with _ hz
   simp only at vW
   omega
theorem ID.put{n at_:Nat}{w:Nw}{A A':Ar}{L:List ((Int×Nat)×Value)}{bX:List (Int×Nat)}(h:ID n w A L bX at_){x:Int}(hp:A.pick=some (x,A'))(k:Int):(x,A.cf x+1)∉L.map (·.1)∧ID n (w.put x (1,k,(at_:Int)+1)) (A'.out x) (L++[((x,A.cf x+1),i64 at_)]) (bX++[(k,at_)]) (at_+1):=by
 obtain⟨hx,qV,Yh,FI,hgA,hct,hmo⟩:=Ar.Cu hp h.ok
 have bm:w.cs.length=n:=by rw[h.lk.len];exact h.T8.len
 have hAn:=h.T8.len
 have Gr:0≤x∧x<A'.g.length:=by rw[hgA];exact hx
 have We:∀z,A'.cf z=A.cf z:=fun z=>by unfold Ar.cf;rw[hgA]
 have hg:∀z:Int,0≤z→(A'.out x).cf z=if z=x then A.cf x+1 else A.cf z:=by
  intro z hz
  rw[Ar.OE (A:=A') (A':=A'.out x) Gr rfl hz]
  rw[We,We]
 have Vb:∀z,A'.live z↔A.live z:=fun z=>by unfold Ar.live;rw[hgA]
 have Wv:¬cY w.cs x:=fun hi=>qV ((h.lk.live x).1 hi)
 refine⟨fun hm=>?_,?_⟩
 ·obtain⟨p,HC,vW⟩:=List.mem_map.1 hm
  have:=(h.ls p HC).2
  rw[vW]at this
  simp only at this
  omega
 ·refine⟨h.hs,h.T8.out h.ok hp,h.lk.put hx (v:=A.cf x+1) ?_,?_,fun z y z0 LP=>?_,fun p hp=>?_,fun z hz=>?_,fun p hp=>?_,?_,?_,fun p hp=>?_,by show A'.ct+1=_;rw[hct,h.cn,List.length_append];rfl⟩
  ·show A'.g.set x.toNat (A'.cf x+1,true)=_
   rw[We,hgA]
   rfl
  ·refine AV.out (A:=A) ?_ hgA Gr (fun hl=>qV ((Vb x).1 hl)) Yh FI
   exact PS hp h.ok
  ·have LP:(w.cs.set x.toNat (1,k,(at_:Int)+1))[z.toNat]? =some y:=LP
   by_cases e:z=x
   ·subst e
    rw[List.getElem?_set_self (by omega)]at LP
    injection LP with LP
    subst LP
    refine .inr ⟨rfl,at_,rfl,by simp,?_⟩
    rw[hg z z0,if_pos rfl]
    simp
   ·rw[List.getElem?_set_ne (by omega)]at LP
    rcases h.c1 z y z0 LP with h0| ⟨g1,id2,e1,e2,e3⟩
    ·exact .inl h0
    ·exact .inr ⟨g1,id2,e1,List.mem_append_left _ e2,by rw[hg z z0,if_neg e];exact List.mem_append_left _ e3⟩
  ·rcases List.mem_append.1 hp with hp|hp
   ·obtain⟨z,z0,hz⟩:=h.c2 p hp
    refine⟨z,z0,?_⟩
    show(w.cs.set x.toNat (1,k,(at_:Int)+1))[z.toNat]? =_
    rw[List.getElem?_set_ne ?_]
    ·exact hz
    ·intro e
     exact Wv ⟨hx.1,_,by rw[e];exact hz,by simp⟩
   ·rw[List.mem_singleton]at hp
    subst hp
    refine⟨x,hx.1,?_⟩
    show(w.cs.set x.toNat (1,k,(at_:Int)+1))[x.toNat]? =_
    rw[List.getElem?_set_self (by omega)]
  ·rw[hg z hz]
   have:=h.ge z hz
   have:=h.ge x hx.1
   split<;>omega
  ·rcases List.mem_append.1 hp with hp|hp
   ·have:=h.ls p hp
    refine⟨this.1,?_⟩
    rw[hg _ this.1]
    split
    ·rename_i e;rw[e]at this;omega
    ·exact this.2
   ·rw[List.mem_singleton]at hp
    subst hp
    exact⟨hx.1,by rw[hg _ hx.1,if_pos rfl];exact Nat.le_refl _⟩
  ·rw[List.map_append,h.ids,List.range_succ,List.map_append]
   rfl
  ·refine List.pairwise_append.2 ⟨h.ri,by simp,fun a ha b hb=>?_⟩
   rw[List.mem_singleton]at hb
   subst hb
   exact h.lt a ha
  ·rcases List.mem_append.1 hp with hp|hp
   ·have:=h.lt p hp;omega
   ·rw[List.mem_singleton]at hp
    subst hp
    exact Nat.lt_succ_self _
theorem ID.zero(n:Nat):ID n (Cw (n:Int)).make (PR (n:Int) 4294967295) [] [] 0:=by
 have hgz:∀x:Int,(PR (n:Int) 4294967295).cf x=0:=by
  intro x
  unfold Ar.cf PR
  simp only[List.getD_eq_getElem?_getD,Int.toNat_natCast,List.getElem?_replicate]
  split<;>rfl
 have hlz:∀x,¬ (PR (n:Int) 4294967295).live x:=by
  rintro x ⟨_,hx⟩
  unfold PR at hx
  simp only[Int.toNat_natCast,List.getElem?_replicate]at hx
  split at hx<;>simp at hx
 have hiz:∀x,¬cY (Cw (n:Int)).make.cs x:=fun x hx=>nP (n:Int) x (bJ.2 hx)
 refine⟨⟨by omega,rfl⟩,QS.zero n,⟨by simp[Cw,PR,Nw.make],fun x=>⟨fun h=>absurd h (hiz x),fun h=>absurd h (hlz x)⟩⟩,⟨fun x hx=>(by cases hx),List.nodup_nil,fun x _=>hlz x,?_,Nat.zero_le _⟩,fun x y x0 hy=>?_,fun p hp=>(by cases hp),fun x _=>by rw[hgz];exact Nat.le_refl _,fun p hp=>(by cases hp),rfl,List.Pairwise.nil,fun p hp=>(by cases hp),rfl⟩
 ·show(0:Int)=((List.replicate (n:Int).toNat ((0:Nat),false)).countP (·.2):Nat)
  rw[List.countP_eq_zero.2]
  ·rfl
  ·intro a ha
   rw[List.eq_of_mem_replicate ha]
   simp
 ·have hy:(List.replicate (n:Int).toNat ((0,0,0):Ce))[x.toNat]? =some y:=hy
  exact .inl (by rw[List.eq_of_mem_replicate (List.mem_of_getElem? hy)])
theorem ID.room{n at_:Nat}{w:Nw}{A:Ar}{L:List ((Int×Nat)×Value)}{bX:List (Int×Nat)}(h:ID n w A L bX at_)(hp:bX.length<n):A.pick≠none:=by
 have h1:=h.ok.ct
 have h2:=h.cn
 have h3:=h.T8.len
 have h4:∃y∈A.g,y.2=false:=by
  apply Classical.byContradiction
  intro cw
  have:A.aX=A.g.length:=by
   unfold Ar.aX
   rw[List.countP_eq_length]
   intro y hy
   cases hb:y.2
   ·exact absurd ⟨y,hy,hb⟩ cw
   ·rfl
  omega
 obtain⟨y,hy,hb⟩:=h4
 obtain⟨i,hi⟩:=List.getElem?_of_mem hy
 have tC:=(List.getElem?_eq_some_iff.1 hi).1
 refine h.T8.room (x:=(i:Int)) (by omega) (fun hl=>?_) h.ok
 have:=hl.2
 rw[Int.toNat_natCast,hi]at this
 simp[hb]at this
structure PT(H:Hp)(sb mb mp s:Nat)(S:Nat→Prop)(w:Nw)(A:Ar)(q:Int)(L:List ((Int×Nat)×Value)):Prop where
 st:FL H s S w A q
 o1:H.own sb=some [ptr s]
 o2:H.own mb=some [.map (some mp)]
 m:xz H mp L
 n1:¬S sb∧¬S mb∧¬S mp
 n2:mp≠sb∧mp≠mb
theorem PT.ext{H H':Hp}{sb mb mp s:Nat}{S T:Nat→Prop}{w:Nw}{A:Ar}{q:Int}{L:List ((Int×Nat)×Value)}(h:PT H sb mb mp s S w A q L)(e:ai T H H')(hd:∀z,S z∨z=sb∨z=mb∨z=mp→¬T z):PT H' sb mb mp s S w A q L:=
 ⟨h.st.ext e (fun z hz=>hd z (.inl hz)),e.own h.o1 (hd _ (by simp)),e.own h.o2 (hd _ (by simp)),h.m.ext e (hd _ (by simp)),h.n1,h.n2⟩
theorem PT.lt{H:Hp}{sb mb mp s:Nat}{S:Nat→Prop}{w:Nw}{A:Ar}{q:Int}{L:List ((Int×Nat)×Value)}(h:PT H sb mb mp s S w A q L):∀z,S z∨z=sb∨z=mb∨z=mp→z<H.size:=by
 rintro z (hz|rfl|rfl|rfl)
 ·exact h.st.slt z hz
 ·exact aO h.o1
 ·exact aO h.o2
 ·exact h.m.lt
theorem PT.to{H H':Hp}{sb mb mp s:Nat}{S S':Nat→Prop}{w w':Nw}{A A':Ar}{q q':Int}{L:List ((Int×Nat)×Value)}(h:PT H sb mb mp s S w A q L)(st:FL H' s S' w' A' q')(e:ai S H H')(hs:∀z,S' z→S z∨H.size≤z):PT H' sb mb mp s S' w' A' q' L:=by
 have h1:=aO h.o1
 have h2:=aO h.o2
 have h3:=h.m.lt
 have hn:∀z,¬S z→z<H.size→¬S' z:=fun z h1 h2 h3=>by rcases hs z h3 with h|h;exact h1 h;omega
 exact⟨st,e.own h.o1 h.n1.1,e.own h.o2 h.n1.2.1,h.m.ext e h.n1.2.2,⟨hn _ h.n1.1 h1,hn _ h.n1.2.1 h2,hn _ h.n1.2.2 h3⟩,h.n2⟩
section
variable {H : Hp} {sb mb mp s n at_ : Nat} {S : Nat → Prop} {w : Nw} {A : Ar} {q : Int} {L : List ((Int × Nat) × Value)} {bX : List (Int × Nat)}
theorem tj(m:PT H sb mb mp s S w A (at_:Int) L)(h:ID n w A L bX at_)(hp:bX.length<n)(sw:at_<1000000)(k:Int):
  ah Tryz.prog ju [i64 at_,i64 k,ptr sb,ptr mb] H fun v H'=>ax (v= .tuple [].toArray∧∃S' w' A' L',PT H' sb mb mp s S' w' A' ((at_:Int)+1) L'∧ID n w' A' L' (bX++[(k,at_)]) (at_+1)∧ai (fun z=>S z∨z=mp) H H'∧∀z,S' z→S z∨H.size≤z):=by
 refine xP mixed Al (nt:=17) (by kernel_rfl) (by simp) ?_
 refine v2 jA.eq_1 (ae m.o1) ?_
 refine(GB m.st h.hs (fun x x0 _=>by have:=h.ge x x0;omega) (by omega)).mono ?_
 rintro _ H1 (⟨cw,_⟩| ⟨x,A',U4,rfl,S1,VW,e1,fK⟩)
 ·exact absurd cw (h.room hp)
 obtain⟨zm,hJ⟩:=h.put U4 k
 obtain⟨hx,_⟩:=Ar.Cu U4 h.ok
 have m1:=m.to VW e1 fK
 have ai2:=e1.size
 refine vs ?_
 obtain⟨f2,b2,z2⟩:=OG H1 114 [Value.int .i64 0,Value.int .u32 0] [i64 x,Value.int .u32 ((A.cf x+1:Nat):Int)]
 generalize (H1.new 114 [Value.int .i64 0,Value.int .u32 0]).wr H1.size [i64 x,Value.int .u32 ((A.cf x+1:Nat):Int)]=H2 at*
 have m2:=m1.ext f2 (fun _ _ h=>h)
 refine v2 (ae m2.o2) (ae b2) ?_
 refine⟨Ed _ _,?_⟩
 refine xz.Yc m2.m (a:=(x,A.cf x+1)) zm fun H3 mp3 e3=>?_
 refine vs ?_
 refine⟨rfl,S1,_,_,_,⟨m2.st.ext e3 (fun z hz e=>m2.n1.2.2 (by rw[←e];exact hz)),e3.own m2.o1 (Ne.symm m2.n2.1),e3.own m2.o2 (Ne.symm m2.n2.2),mp3,m2.n1,m2.n2⟩,hJ,?_,fK⟩
 exact((e1.mono fun z _ h=>.inl h).trans (f2.mono fun z _ h=>h.elim)).trans (e3.mono fun z _ h=>.inr h)
end
end Go.Proofs.YtjlnnljohemifaaGreat
