/- Texts put behind each other. -/
import Derived.Test.YthpjfeolagohkaaGreatK98
import Derived.Test.YthpjfeolagohkaaGreatK24
import Derived.Test.YthpjfeolagohkaaGreatK26
import Derived.Test.YthpjfeolagohkaaGreatK32
set_option maxRecDepth 100000
set_option maxHeartbeats 8000000
set_option linter.unusedVariables false
set_option linter.unusedSimpArgs false
namespace Go.Proofs.YthpjfeolagohkaaGreat
open Go Go.Vc
structure bX(lt:Int→Int→Bool)(d:Int)(l:List Int)(pl:Int→Option Int):Prop where
 heap:eI lt d l
 pl:CP l pl
theorem bX.nil(lt:Int→Int→Bool)(d:Int):bX lt d [] (fun _=>none):=
 ⟨fun j _ h=>by simp at h,fun z k=>by simp⟩
theorem bX.congr{lt lt':Int→Int→Bool}{d:Int}(hf:cQ d){l:List Int}{pl:Int→Option Int}(h:bX lt d l pl)(hfg:∀z∈l,∀y∈l,lt z y=lt' z y):bX lt' d l pl:=by
 refine⟨fun j h1 h2=>?_,h.pl⟩
 have hp:=cH hf h1
 have e:∀k,k<l.length→l.getD k 0∈l:=fun k hk=>by
  rw[aou,aop hk];exact aqj hk
 rw[←hfg _ (e j h2) _ (e _ (show pa d j<l.length by omega))]
 exact h.heap j h1 h2
theorem bX.add{lt:Int→Int→Bool}(ho:bk lt){d:Int}(hf:cQ d){l:List Int}{pl:Int→Option Int}(h:bX lt d l pl){x:Int}(hx:pl x=none):
  bX lt d (fA lt d x l.length (l++[x]) pl l.length).l (fA lt d x l.length (l++[x]) pl l.length).pl∧
   (∀z,z∈(fA lt d x l.length (l++[x]) pl l.length).l↔z=x∨z∈l)∧(fA lt d x l.length (l++[x]) pl l.length).l.length=l.length+1∧
   (fA lt d x l.length (l++[x]) pl l.length).asked≤kG d l.length:=by
 have UP:=hf.1
 have bQ:∀k,k<l.length→(l++[x]).getD k 0=l.getD k 0:=fun k hk=>by
  rw[aou,aou,aoF hk]
 have Qs:∀j:Nat,1≤j→j<l.length+1→pa d j≠l.length:=fun j h1 h2=>by have:=cH hf h1;omega
 have hP:SI (l++[x]) pl l.length x:=by
  intro z hz k
  rw[h.pl z k]
  constructor
  ·rintro⟨a,b⟩
   have hk:=(aoq.1 b).1
   exact⟨a,by omega,by rw[aoF hk];exact b⟩
  ·rintro⟨a,b,c⟩
   refine⟨a,?_⟩
   have hk:=(aoq.1 c).1
   simp only[aoy,aoV]at hk
   rw[aoF (by omega)]at c
   exact c
 have nL:x∉l:=fun hm=>by
  obtain⟨k,hk⟩:=aoN hm
  have:=(h.pl x k).2 ⟨by omega,by simpa using hk⟩
  rw[hx]at this;cases this
 have LU:∀z,IU (l++[x]) l.length z↔z∈l:=by
  intro z
  constructor
  ·rintro⟨k,k1,k2⟩
   have hk:=(aoq.1 k2).1
   simp only[aoy,aoV]at hk
   rw[aoF (by omega)]at k2
   exact aow k2
  ·intro hm
   obtain⟨k,hk⟩:=aoN hm
   have:=(aoq.1 hk).1
   exact⟨k,by omega,by rw[aoF this];exact hk⟩
 obtain⟨p1,p2⟩:=CR (lt:=lt) (d:=d) x l.length (l++[x]) pl l.length (by simp) (by omega) (by simp;omega) hP (fun hc=>nL ((LU x).1 hc))
 refine⟨⟨JT ho hf x _ _ _ _ (by simp) (by omega) (by simp;omega) ⟨fun j h1 h2 h3 h4=>?_,fun j h1 h2 h3 h4=>?_⟩ (fun j h1 h2 h3=>?_),p1⟩,fun z=>by rw[p2 z,LU z],by rw[vu];simp,?_⟩
 ·simp only[Int.toNat_natCast]at h3 h4
  have:j<l.length:=by simp at h2;omega
  have hp:=cH hf h1
  rw[bQ j this,bQ _ (by omega)]
  exact h.heap j h1 this
 ·simp only[Int.toNat_natCast]at h3
  exact absurd h3 (Qs j h1 (by simpa using h2))
 ·simp only[Int.toNat_natCast]at h3
  exact absurd h3 (Qs j h1 (by simpa using h2))
 ·have:=F2 lt d x l.length (l++[x]) pl l.length
  unfold kG
  simpa using this
theorem bX.Yo{lt:Int→Int→Bool}(ho:bk lt){d:Int}(hf:cQ d){l:List Int}{pl:Int→Option Int}(h:bX lt d l pl){x i:Int}(hx:pl x=some i):
  bX lt d (cO lt d x l pl i).1 (cO lt d x l pl i).2.1∧(cO lt d x l pl i).1.length=l.length - 1∧
   (∀z,z∈(cO lt d x l pl i).1↔z∈l∧z≠x)∧((cO lt d x l pl i).2.2:Int)≤d*(kG d ((l.length:Int) - 1):Nat)+1:=by
 obtain⟨a,b,c,e,g⟩:=LZ ho hf h.heap h.pl hx
 exact⟨⟨a,b⟩,c,e,g⟩
theorem bX.mem{lt:Int→Int→Bool}{d:Int}{l:List Int}{pl:Int→Option Int}(h:bX lt d l pl)(z:Int):z∈l↔pl z≠none:=by
 constructor
 ·intro hm
  obtain⟨k,hk⟩:=aoN hm
  rw[(h.pl z k).2 ⟨by omega,by simpa using hk⟩]
  simp
 ·intro hn
  obtain⟨k,hk⟩:=Option.ne_none_iff_exists'.1 hn
  exact aow ((h.pl z k).1 hk).2
theorem bX.least{lt:Int→Int→Bool}(ho:bk lt){d:Int}(hf:cQ d){l:List Int}{pl:Int→Option Int}(h:bX lt d l pl){x:Int}(hx:l[0]? =some x):∀z∈l,z≠x→lt x z=true:=by
 intro z hz aQ
 obtain⟨k,hk⟩:=aoN hz
 have ZO:=(aoq.1 hk).1
 have:=F5 ho hf h.heap k k (aoB _) ZO
 rw[aou,aou,hk,hx]at this
 rcases ho.OQ x z (Ne.symm aQ)with h1|h1
 ·exact h1
 ·simp only[Option.getD_some]at this
  rw[h1]at this;cases this
theorem bX.raise{lt lt':Int→Int→Bool}(ho:bk lt)(ho':bk lt'){d:Int}(hf:cQ d){l:List Int}{pl:Int→Option Int}(h:bX lt d l pl){x i:Int}(hx:pl x=some i)(aK:∀a∈l,∀b∈l,a≠x→b≠x→lt' a b=lt a b)(XV:∀z∈l,z≠x→lt z x=false→lt' z x=false):
  bX lt' d (fA lt' d x i.toNat l pl i).l (fA lt' d x i.toNat l pl i).pl∧(∀z,z∈(fA lt' d x i.toNat l pl i).l↔z∈l)∧(fA lt' d x i.toNat l pl i).l.length=l.length∧
   (fA lt' d x i.toNat l pl i).asked≤kG d ((l.length:Int) - 1):=by
 obtain⟨i0,hi⟩:=(h.pl x i).1 hx
 have qw:i.toNat<l.length:=(aoq.1 hi).1
 have lC:∀j,j<l.length→j≠i.toNat→l.getD j 0≠x:=fun j hj aQ e=>by
  have:l[j]? =some x:=by rw[aop hj,←e,aou,aop hj];rfl
  exact aQ (h.pl.F3 this hi)
 have bE:∀j,j<l.length→l.getD j 0∈l:=fun j hj=>by rw[aou,aop hj];exact aqj hj
 have NN:=h.heap.but ho hf i.toNat
 have hO:¬IU l i x:=by
  rintro⟨k,k1,k2⟩
  have:=h.pl.F3 k2 hi
  omega
 obtain⟨p1,p2⟩:=CR (lt:=lt') (d:=d) x i.toNat l pl i (aoB _) i0 (by omega) (h.pl.afH hi i0) hO
 refine⟨⟨JT ho' hf x _ _ _ _ (aoB _) i0 (by omega) ⟨fun j h1 h2 h3 h4=>?_,fun j h1 h2 h3 h4=>?_⟩ (fun j h1 h2 h3=>?_),p1⟩,fun z=>?_,vu _ _ _ _ _ _ _,?_⟩
 ·have:=cH hf h1
  rw[aK _ (bE j h2) _ (bE _ (by omega)) (lC j h2 h3) (lC _ (by omega) h4)]
  exact NN.1 j h1 h2 h3 h4
 ·have:=cH hf h1
  have:=cH hf h4
  rw[aK _ (bE j h2) _ (bE _ (by omega)) (lC j h2 (by omega)) (lC _ (by omega) (by omega))]
  exact NN.2 j h1 h2 h3 h4
 ·have XW:=cH hf h1
  have aQ:=lC j h2 (by omega)
  have:=h.heap j h1 h2
  rw[h3,show l.getD i.toNat 0=x by rw[aou,hi];rfl]at this
  exact XV _ (bE j h2) aQ this
 ·rw[p2 z]
  constructor
  ·rintro(rfl| ⟨k,_,k2⟩)
   ·exact aow hi
   ·exact aow k2
  ·intro hm
   obtain⟨k,hk⟩:=aoN hm
   by_cases e:(k:Int)=i
   ·rw[show k=i.toNat by omega,hi]at hk;injection hk with hk;exact .inl hk.symm
   ·exact .inr ⟨k,e,hk⟩
 ·have e1:=F2 lt' d x i.toNat l pl i
  have e2:=kH hf ((l.length:Int) - 1).toNat i ((l.length:Int) - 1) (aoB _) (by omega)
  unfold kG at e2 ⊢
  omega
structure Rw where
 r:Nat
 S:Nat→Prop
 l:List Int
 pl:Int→Option Int
def Wr:Option Rw→Value
 |none=>.pointer none
 |some R=>ptr R.r
structure sw(H:Hp)(n c:Nat)(C:Nat→Prop)(rv:Value)(fp:Option Nat)(d st:Int)(w:Nw)(rs:List (Option Rw)):Prop where
 own:H.own n=some [ptr c,i64 d,rv]
 cells:bi H c C st w
 sl:Sl H 1 rv rs.length (rs.map Wr) fp
 row:∀ (h:Nat) R,rs[h]? =some (some R)→di H R.r R.S d R.l R.pl
 nC:¬C n
 xd:∀b,fp=some b→b≠n∧¬C b
 mu:∀ (h:Nat) R,rs[h]? =some (some R)→∀x,R.S x→¬C x∧x≠n∧fp≠some x
 oR:∀ (h h':Nat) R R',rs[h]? =some (some R)→rs[h']? =some (some R')→h≠h'→∀x,R.S x→¬R'.S x
def DI(n:Nat)(C:Nat→Prop)(fp:Option Nat)(rs:List (Option Rw))(z:Nat):Prop:=C z∨z=n∨fp=some z∨∃ (h:Nat) (R:Rw),rs[h]? =some (some R)∧R.S z
structure S9(d:Int)(w:Nw)(rs:List (Option Rw)):Prop where
 zk:cQ d
 hl:rs.length=w.hs.length
 hs:∀h:Nat,w.hs[h]? =some true↔∃R,rs[h]? =some (some R)
 h0:rs[0]? =some none
 ok:∀ (h:Nat) R,rs[h]? =some (some R)→bX (aN w) d R.l R.pl
 mem:∀ (h:Nat) R,rs[h]? =some (some R)→∀x:Int,x∈R.l↔0≤x∧∃e,w.cs[x.toNat]? =some (((h:Nat):Int),e)
 len:∀ (h:Nat) R,rs[h]? =some (some R)→(R.l.length:Int)=w.len h
def c9(H:Hp)(n:Nat)(S:Nat→Prop)(d st:Int)(w:Nw):Prop:=∃c C rv fp rs,sw H n c C rv fp d st w rs∧S9 d w rs∧(∀z,DI n C fp rs z↔S z)
theorem sw.slt{H:Hp}{n c:Nat}{C:Nat→Prop}{rv:Value}{fp:Option Nat}{d st:Int}{w:Nw}{rs:List (Option Rw)}(h:sw H n c C rv fp d st w rs):∀z,DI n C fp rs z→z<H.size:=by
 rintro z (hz|rfl|hz| ⟨i,R,hR,hz⟩)
 ·exact h.cells.slt z hz
 ·exact aB h.own
 ·exact Sl.lt (hz▸h.sl)
 ·exact(h.row i R hR).slt z hz
theorem sw.ext{H H':Hp}{n c:Nat}{C T:Nat→Prop}{rv:Value}{fp:Option Nat}{d st:Int}{w:Nw}{rs:List (Option Rw)}(h:sw H n c C rv fp d st w rs)(e:ag T H H')(hd:∀z,DI n C fp rs z→¬T z):sw H' n c C rv fp d st w rs:=
 ⟨e.own h.own (hd n (.inr (.inl rfl))),h.cells.ext e (fun x hx=>hd x (.inl hx)),h.sl.ext e (fun b hb=>hd b (.inr (.inr (.inl hb)))),fun i R hR=>(h.row i R hR).ext e (fun x hx=>hd x (.inr (.inr (.inr ⟨i,R,hR,hx⟩)))),h.nC,h.xd,h.mu,h.oR⟩
theorem c9.slt{H:Hp}{n:Nat}{S:Nat→Prop}{d st:Int}{w:Nw}(h:c9 H n S d st w):∀z,S z→z<H.size:=by
 obtain⟨c,C,rv,fp,rs,m,l,hS⟩:=h
 exact fun z hz=>m.slt z ((hS z).2 hz)
theorem c9.ext{H H':Hp}{n:Nat}{S T:Nat→Prop}{d st:Int}{w:Nw}(h:c9 H n S d st w)(e:ag T H H')(hd:∀z,S z→¬T z):c9 H' n S d st w:=by
 obtain⟨c,C,rv,fp,rs,m,l,hS⟩:=h
 exact⟨c,C,rv,fp,rs,m.ext e (fun z hz=>hd z ((hS z).1 hz)),l,hS⟩
theorem c9.fresh{H H':Hp}{n:Nat}{S:Nat→Prop}{d st:Int}{w:Nw}(h:c9 H n S d st w)(e:am H H'):c9 H' n S d st w:=h.ext e fun _ _ h=>h
theorem xy(cap d:Int)(H:Hp):af Tryz.prog Nl [i64 cap,i64 d] H fun v H'=>ar (
  am H H'∧((¬ (0≤cap∧cap≤65536)∧v= .tuple [.pointer none,i64 31].toArray)∨((0≤cap∧cap≤65536)∧¬cQ d∧v= .tuple [.pointer none,i64 22].toArray)∨
   ((0≤cap∧cap≤65536)∧cQ d∧∃n S,v= .tuple [ptr n,i64 0].toArray∧c9 H' n S d 0 ⟨[false],List.replicate cap.toNat (0,0,0)⟩∧∀x,S x→H.size≤x))):=by
 refine aZ Ns ?_
 refine vs ?_
 refine(lf cap H).mono ?_
 rintro _ H1 ⟨f1,⟨hb,rfl⟩| ⟨hb,c,C,rfl,c1,hC⟩⟩
 ·refine vs ?_
  exact⟨f1,.inl ⟨hb,rfl⟩⟩
 refine vs ?_
 refine(xq d H1).mono ?_
 rintro _ H2 ⟨f2,⟨hf,rfl⟩| ⟨hf,r,S,rfl,r2,hS⟩⟩
 ·refine vs ?_
  exact⟨f1.trans f2,.inr (.inl ⟨hb,hf,rfl⟩)⟩
 refine v1 aoW ?_
 have f3:am H2 ((H2.new 212 [.pointer none]).new 217 [ptr c,i64 d,.slice (some ⟨H2.size,0,none⟩) 1 1]):=((ag.refl _ _).new _ _).new _ _
 have z1:=f1.size
 have z2:=f2.size
 have xp:=c1.slt
 refine⟨(f1.trans f2).trans f3,.inr (.inr ⟨hb,hf,H2.size+1,DI (H2.size+1) C (some H2.size) [none],rfl,⟨c,C,.slice (some ⟨H2.size,0,none⟩) 1 1,some H2.size,[none],
  ⟨be (by simp only[aq]),(c1.fresh f2).fresh f3,?_,fun h R hR=>?_,fun h=>by have:=xp _ h;omega,fun b hb=>?_,fun h R hR=>?_,fun h h' R R' hR=>?_⟩,
  ⟨hf,rfl,fun h=>?_,rfl,fun h R hR=>?_,fun h R hR=>?_,fun h R hR=>?_⟩,fun z=>Iff.rfl⟩,fun x hx=>?_⟩)⟩
 ·exact(Sl.cB (size:=1) (n:=1) (xs:=[.pointer none]) rfl rfl).ext ((ag.refl (fun _=>False) _).new _ _) (fun _ _ h=>h)
 ·rcases h with _|h<;>simp at hR
 ·injection hb with hb
  subst hb
  exact⟨by omega,fun h=>by have:=xp _ h;omega⟩
 ·rcases h with _|h<;>simp at hR
 ·rcases h with _|h<;>simp at hR
 ·rcases h with _|h<;>simp
 ·rcases h with _|h<;>simp at hR
 ·rcases h with _|h<;>simp at hR
 ·rcases h with _|h<;>simp at hR
 ·rcases hx with hx|rfl|hx| ⟨i,R,hR,hx⟩
  ·exact hC x hx
  ·omega
  ·injection hx with hx;omega
  ·rcases i with _|i<;>simp at hR
theorem Gp{n c:Nat}{C:Nat→Prop}{rv:Value}{d st:Int}{w:Nw}(hn:¬C n):NJ (.iface 150 (ptr n)) (fun H k=>bi H c C (min (st+k) 4611686018427387904) w∧H.own n=some [ptr c,i64 d,rv])
  (fun x=>C x∨x=n) (aN w) (cU w.cs):=by
 refine⟨fun H k a b ha hb h=>⟨_,_,cM,ptr c,rfl,fG (off:=0) (by kernel_rfl) (ae h.2) rfl,(iR h.1 a b).mono ?_⟩,abl (x:=(0,cM)) (by kernel_rfl),fun H H' k U h e hd=>?_,fun H k h x hx=>?_⟩
 ·rintro v H' ⟨rfl,h1,e⟩
  rw[if_pos ⟨ha,hb⟩]at h1
  have hs:fO (min (st+(k:Nat)) 4611686018427387904) 1=min (st+((k+1:Nat):Int)) 4611686018427387904:=by
   unfold fO
   rw[if_neg (by omega)]
   split<;>omega
  rw[hs]at h1
  exact⟨by rw[CS ha hb],⟨h1,e.own h.2 hn⟩,e.mono fun z _ hz=>.inl hz⟩
 ·exact⟨h.1.ext e (fun x hx=>hd x (.inl hx)),e.own h.2 (hd n (.inr rfl))⟩
 ·rcases hx with hx|rfl
  ·exact h.1.slt x hx
  ·exact aB h.2
theorem Gq{H:Hp}{n:Nat}{S:Nat→Prop}{d st:Int}{w:Nw}(h:c9 H n S d st w):af Tryz.prog pA [ptr n] H fun v H'=>ar (
  (w.hs.length=65537∧v=i64 0∧H=H')∨
  (w.hs.length≠65537∧v=i64 w.hs.length∧∃S',c9 H' n S' d st w.make∧ag S H H'∧∀x,S' x→S x∨H.size≤x)):=by
 obtain⟨c,C,rv,fp,rs,m,l,hS⟩:=h
 refine aZ Cq ?_
 refine v1 (ae m.own) ?_
 refine(jG m.cells).mono ?_
 rintro _ H1 (⟨h1,rfl,rfl⟩| ⟨h1,rfl,C',c1,e1,zi⟩)
 ·refine vs ?_
  exact .inl ⟨h1,rfl,rfl⟩
 have fC:0<rs.length:=(aoq.1 l.h0).1
 have jx:=l.hl
 have o1:=e1.own m.own m.nC
 refine vs ?_
 refine ai.bI (aoE (by omega)) ?_
 refine v1 (ae o1) ?_
 refine(xq d H1).mono ?_
 rintro _ H2 ⟨f2,⟨hf,_⟩| ⟨_,r,Sr,rfl,r2,Ws⟩⟩
 ·exact absurd l.zk hf
 have o2:=f2.own o1 (fun h=>h)
 refine v1 (ae o2) ?_
 have FL:=m.cells.FL
 have eW:=m.slt
 have S7:=c1.slt
 have zx:=r2.slt
 have z1:=e1.size
 have z2:=f2.size
 have e0:ag (fun _=>False) H2 (H2.new 212 [ptr r]):=(ag.refl _ _).new _ _
 have sl2:=(m.sl.ext e1 (fun b hb h=>(m.xd b hb).2 h)).ext f2 (fun _ _ h=>h)
 refine Sl.append (sl2.ext e0 (fun _ _ h=>h)) (Sl.cB (size:=1) (xs:=[ptr r]) rfl rfl).rd rfl (by intro v hv;simp only[aoH]at hv;subst hv;rfl) (by omega) ?_
 intro v' H3 dT s3 e3 fU
 have o3:=e3.own (e0.own o2 (fun h=>h)) (fun e=>(m.xd n e).1 rfl)
 obtain⟨a',Ux,KS⟩:=cK.SE s3.rd
 subst KS
 refine v1 o3 ?_
 generalize KS:Value.slice a' (rs.length+1) Ux=v' at*
 have e4:ag (fun z=>z=n) H3 (H3.wr n [ptr c,i64 d,v']):=(ag.refl (fun z=>z=n) _).wr (fun _=>rfl) _
 have hn:=aB m.own
 have U9:∀b,fp=some b→b<H.size:=fun b hb=>eW b (.inr (.inr (.inl hb)))
 have hCl:∀z,C z→z<H.size:=fun z hz=>eW z (.inl hz)
 have EH:∀b,dT=some b→fp=some b∨H2.size≤b:=fun b hb=>by
  rcases fU with h| ⟨z,h,h5,_⟩
  ·exact .inl (h▸hb)
  ·rw[h]at hb;injection hb with hb;subst hb;rw[aq]at h5;exact .inr (by omega)
 have Gg:∀z,C' z→C z∨H.size≤z:=zi
 have NV:ag (fun z=>fp=some z) H2 H3:=(e0.mono fun _ _ h=>h.elim).k9 e3 (fun z _ h=>h)
 have bQ:∀ (h:Nat) R,(rs++[some (⟨r,Sr,[],fun _=>none⟩:Rw)])[h]? =some (some R)→rs[h]? =some (some R)∨(h=rs.length∧R=⟨r,Sr,[],fun _=>none⟩):=fun h R hR=>by
  rcases ap6 h rs.length with h5|h5|h5
  ·rw[aoF h5]at hR;exact .inl hR
  ·subst h5
   rw[aoP (aoB _),apq]at hR
   simp only[ao2,aoz]at hR
   exact .inr ⟨rfl,hR.symm⟩
  ·rw[aoC (by rw[aoy,aoV];omega)]at hR
   cases hR
 have hold:∀ (h:Nat) R,rs[h]? =some (some R)→∀x,R.S x→¬C x∧x≠n∧fp≠some x∧x<H.size:=fun h R hR x hx=>
  ⟨(m.mu h R hR x hx).1,(m.mu h R hR x hx).2.1,(m.mu h R hR x hx).2.2,eW x (.inr (.inr (.inr ⟨h,R,hR,hx⟩)))⟩
 have TZ:∀ (x:Nat) (e:Int×Int),w.cs[x]? ≠some (((rs.length:Nat):Int),e):=fun x e hx=>by
  have:=(m.cells.home _ (aow hx)).2
  simp only at this
  omega
 refine .inr ⟨h1,rfl,DI n C' dT (rs++[some ⟨r,Sr,[],fun _=>none⟩]),⟨c,C',v',dT,rs++[some ⟨r,Sr,[],fun _=>none⟩],
  ⟨ah o3,?_,?_,fun h R hR=>?_,fun h=>?_,fun b hb=>⟨?_,fun h=>?_⟩,fun h R hR x hx=>⟨fun h=>?_,?_,fun h=>?_⟩,fun h h' R R' hR hR' aQ x hx uC=>?_⟩,
  ⟨l.zk,?_,fun h=>?_,?_,fun h R hR=>?_,fun h R hR x=>?_,fun h R hR=>?_⟩,fun z=>Iff.rfl⟩,?_,fun x hx=>?_⟩
 ·exact(((c1.ext f2 (fun _ _ h=>h)).ext NV (fun x hx e=>by
   rcases Gg x hx with h|h
   ·exact(m.xd x e).2 h
   ·have:=U9 x e;omega)).ext e4 (fun x hx e=>by
   rcases Gg x hx with h|h
   ·exact m.nC (e▸h)
   ·omega))
 ·have:=s3.ext e4 (fun b hb e=>by
   rcases EH b hb with h|h
   ·exact(m.xd b h).1 e
   ·omega)
  rw[aoy,ao5]
  exact this
 ·rcases bQ h R hR with h5| ⟨rfl,rfl⟩
  ·exact((((m.row h R h5).ext e1 (fun x hx=>(hold h R h5 x hx).1)).ext f2 (fun _ _ h=>h)).ext NV (fun x hx=>(hold h R h5 x hx).2.2.1)).ext e4 (fun x hx=>(hold h R h5 x hx).2.1)
  ·exact(r2.ext NV (fun x hx e=>by have:=Ws x hx;have:=U9 x e;omega)).ext e4 (fun x hx e=>by have:=Ws x hx;omega)
 ·rcases Gg n h with h|h
  ·exact m.nC h
  ·omega
 ·rcases EH b hb with h|h
  ·exact(m.xd b h).1
  ·omega
 ·rcases EH b hb with h5|h5
  ·rcases Gg b h with h6|h6
   ·exact(m.xd b h5).2 h6
   ·have:=U9 b h5;omega
  ·have:=S7 b h;omega
 ·rcases bQ _ R hR with h5| ⟨_,rfl⟩
  ·rcases Gg x h with h6|h6
   ·exact(hold _ R h5 x hx).1 h6
   ·have:=(hold _ R h5 x hx).2.2.2;omega
  ·have:=Ws x hx;have:=S7 x h;omega
 ·rcases bQ _ R hR with h5| ⟨_,rfl⟩
  ·exact(hold _ R h5 x hx).2.1
  ·have:=Ws x hx;omega
 ·rcases bQ _ R hR with h5| ⟨_,rfl⟩
  ·rcases EH x h with h6|h6
   ·exact(hold _ R h5 x hx).2.2.1 h6
   ·have:=(hold _ R h5 x hx).2.2.2;omega
  ·have h7:=zx x hx
   rcases EH x h with h6|h6
   ·have:=Ws x hx;have:=U9 x h6;omega
   ·omega
 ·rcases bQ _ R hR with h5| ⟨h5,rfl⟩
  ·rcases bQ _ R' hR' with h6| ⟨h6,rfl⟩
   ·exact m.oR h h' R R' h5 h6 aQ x hx uC
   ·have:=Ws x uC;have:=(hold _ R h5 x hx).2.2.2;omega
  ·rcases bQ _ R' hR' with h6| ⟨h6,rfl⟩
   ·have:=Ws x hx;have:=(hold _ R' h6 x uC).2.2.2;omega
   ·omega
 ·simp[Nw.make,jx]
 ·show(w.hs++[true])[h]? =some true↔_
  rcases ap6 h rs.length with h5|h5|h5
  ·rw[aoF h5,aoF (by omega)]
   exact l.hs h
  ·subst h5
   rw[aoP (aoB _),aoP (by omega),apq,jx,apq]
   simp
  ·rw[aoC (by rw[aoy,aoV];omega),aoC (by rw[aoy,aoV];omega)]
   simp
 ·rw[aoF fC];exact l.h0
 ·rcases bQ h R hR with h5| ⟨rfl,rfl⟩
  ·exact l.ok h R h5
  ·exact bX.nil _ _
 ·rcases bQ h R hR with h5| ⟨rfl,rfl⟩
  ·exact l.mem h R h5 x
  ·simp only[List.not_mem_nil,false_iff]
   rintro⟨_,e,he⟩
   exact TZ _ _ he
 ·rcases bQ h R hR with h5| ⟨rfl,rfl⟩
  ·exact l.len h R h5
  ·show((0:Nat):Int)=w.len _
   unfold Nw.len
   rw[if_pos (by omega),ap7.2 (fun x hx=>by
    have:=(m.cells.home x hx).2
    simp only[ao0]
    omega)]
 ·exact((e1.mono fun z _ hz=>(hS z).1 (.inl hz)).trans ((f2.mono fun _ _ h=>h.elim).trans (NV.mono fun z _ hz=>(hS z).1 (.inr (.inr (.inl hz)))))).trans (e4.mono fun z _ hz=>(hS z).1 (.inr (.inl hz)))
 ·rcases hx with hx|rfl|hx| ⟨i,R,hR,hx⟩
  ·rcases Gg x hx with h|h
   ·exact .inl ((hS x).1 (.inl h))
   ·exact .inr h
  ·exact .inl ((hS x).1 (.inr (.inl rfl)))
  ·rcases EH x hx with h|h
   ·exact .inl ((hS x).1 (.inr (.inr (.inl h))))
   ·exact .inr (by omega)
  ·rcases bQ _ R hR with h5| ⟨_,rfl⟩
   ·exact .inl ((hS x).1 (.inr (.inr (.inr ⟨i,R,h5,hx⟩))))
   ·have:=Ws x hx;exact .inr (by omega)
theorem S9.fi{d:Int}{w:Nw}{rs:List (Option Rw)}(l:S9 d w rs){g:Int}(h:w.has g):∃R,rs[g.toNat]? =some (some R):=(l.hs g.toNat).1 h.2
theorem xz{H:Hp}{n:Nat}{S:Nat→Prop}{d st:Int}{w:Nw}(h:c9 H n S d st w)(g:Int):af Tryz.prog rV [ptr n,i64 g] H fun v H'=>ar (
  ((¬w.has g∧v= .tuple [i64 0,.bool false].toArray)∨(w.has g∧w.len g=0∧v= .tuple [i64 0,.bool false].toArray)∨
   (w.has g∧∃x,cU w.cs x∧(∃e,w.cs[x.toNat]? =some (g,e))∧v= .tuple [i64 x,.bool true].toArray∧∀y,0≤y→(∃e,w.cs[y.toNat]? =some (g,e))→y≠x→aN w x y=true))∧H=H'):=by
 obtain⟨c,C,rv,fp,rs,m,l,hS⟩:=h
 refine aZ D6 ?_
 refine v1 (ae m.own) ?_
 refine(gK m.cells g).mono ?_
 rintro _ _ ⟨rfl,rfl⟩
 refine vs ?_
 refine ai.dec (fun hh=>?_) (fun hh=>?_)
 ·obtain⟨R,hR⟩:=l.fi hh
  have h1:=hh.1
  have aK:=(aoq.1 hR).1
  obtain⟨b,o,c',lb,e1,e2,e3,e4⟩:=cK.get m.sl.rd (i:=g.toNat) (j:=0) (x:=ptr R.r) (by omega) (by simp[hR,Wr])
  subst e1
  have zy:((g.toNat:Nat):Int)=g:=by omega
  refine v1 (ae m.own) ?_
  refine⟨by omega,?_⟩
  refine v2 e2 (show lb[o+g.toNat*1]? =some (ptr R.r)from e4) ?_
  refine(JS (m.row _ R hR) 0).mono ?_
  rintro _ _ ⟨rfl,rfl⟩
  have bF:=l.mem _ R hR
  rw[zy]at bF
  have aR:=l.len _ R hR
  rw[zy]at aR
  rw[show(if(0:Int)≤0 then R.l[Int.toNat 0]? else none)=R.l[0]? from rfl,UF]
  cases h0:R.l[0]? with
  |none=>
   have:R.l.length=0:=by
    rcases aqb R.l.length with h|h
    ·exact h
    ·rw[aop h]at h0;cases h0
   simp(disch:=(first|omega| (simp only[Zs]<;>omega)|fail)) only[go_sem, ↓reduceIte,Zv,Option.isSome_none,Option.getD_none]
   exact⟨.inr (.inl ⟨hh,by omega,rfl⟩),rfl⟩
  |some x=>
   simp(disch:=(first|omega| (simp only[Zs]<;>omega)|fail)) only[go_sem, ↓reduceIte,Zv,Option.isSome_some,Option.getD_some]
   obtain⟨x0,e,he⟩:=(bF x).1 (aow h0)
   refine⟨.inr (.inr ⟨hh,x,⟨x0,_,he,by simp only;omega⟩,⟨e,he⟩,rfl,fun y hy0 hy aQ=>?_⟩),rfl⟩
   exact bX.least (ap w) l.zk (l.ok _ R hR) h0 y ((bF y).2 ⟨hy0,hy⟩) aQ
 ·refine vs ?_
  exact⟨.inl ⟨hh,rfl⟩,rfl⟩
theorem sw.setRow{H H':Hp}{n c:Nat}{C T:Nat→Prop}{rv:Value}{fp:Option Nat}{d st Ye:Int}{w w':Nw}{rs:List (Option Rw)}(m:sw H n c C rv fp d st w rs){g:Nat}{R R':Rw}(hR:rs[g]? =some (some R))(hr:R'.r=R.r)
  (row:di H' R'.r R'.S d R'.l R'.pl)(hRS:∀z,R'.S z→R.S z∨H.size≤z)(e:ag T H H')(hT:∀z,T z→C z∨R.S z∨z=n)(cells:bi H' c C Ye w')(own:H'.own n=some [ptr c,i64 d,rv]):
  sw H' n c C rv fp d Ye w' (rs.set g (some R')):=by
 have eW:=m.slt
 have hg:=(aoq.1 hR).1
 have bQ:∀ (h:Nat) Q,(rs.set g (some R'))[h]? =some (some Q)→(h=g∧Q=R')∨(h≠g∧rs[h]? =some (some Q)):=fun h Q hQ=>by
  by_cases hh:h=g
  ·subst hh
   rw[aox hg]at hQ
   simp only[aoz]at hQ
   exact .inl ⟨rfl,hQ.symm⟩
  ·rw[aov (Ne.symm hh)]at hQ
   exact .inr ⟨hh,hQ⟩
 refine⟨own,cells,?_,fun h Q hQ=>?_,m.nC,m.xd,fun h Q hQ x hx=>?_,fun h h' Q Q' hQ hQ' aQ x hx uC=>?_⟩
 ·have h1:(rs.set g (some R')).map Wr=rs.map Wr:=by
   rw[ao9]
   refine ao7 fun i=>?_
   by_cases hi:i=g
   ·subst hi
    rw[aox (by rw[aoA];exact hg),aoG,hR]
    simp[Wr,hr]
   ·rw[aov (Ne.symm hi)]
  rw[h1,aot]
  exact m.sl.ext e (fun b hb ht=>by
   rcases hT b ht with h|h|h
   ·exact(m.xd b hb).2 h
   ·exact(m.mu _ R hR b h).2.2 hb
   ·exact(m.xd b hb).1 h)
 ·rcases bQ h Q hQ with ⟨rfl,rfl⟩| ⟨h1,h2⟩
  ·exact row
  ·exact(m.row h Q h2).ext e (fun x hx ht=>by
    rcases hT x ht with h3|h3|h3
    ·exact(m.mu h Q h2 x hx).1 h3
    ·exact m.oR h g Q R h2 hR h1 x hx h3
    ·exact(m.mu h Q h2 x hx).2.1 h3)
 ·rcases bQ h Q hQ with ⟨rfl,rfl⟩| ⟨h1,h2⟩
  ·rcases hRS x hx with h3|h3
   ·exact m.mu _ R hR x h3
   ·refine⟨fun hc=>?_,fun hc=>?_,fun hc=>?_⟩
    ·have:=eW x (.inl hc);omega
    ·have:=eW n (.inr (.inl rfl));omega
    ·have:=eW x (.inr (.inr (.inl hc)));omega
  ·exact m.mu h Q h2 x hx
 ·rcases bQ h Q hQ with ⟨rfl,rfl⟩| ⟨h1,h2⟩
  ·rcases bQ h' Q' hQ' with ⟨rfl,rfl⟩| ⟨h3,h4⟩
   ·exact aQ rfl
   ·rcases hRS x hx with h5|h5
    ·exact m.oR _ h' R Q' hR h4 aQ x h5 uC
    ·have:=eW x (.inr (.inr (.inr ⟨h',Q',h4,uC⟩)));omega
  ·rcases bQ h' Q' hQ' with ⟨rfl,rfl⟩| ⟨h3,h4⟩
   ·rcases hRS x uC with h5|h5
    ·exact m.oR h _ Q R h2 hR aQ x hx h5
    ·have:=eW x (.inr (.inr (.inr ⟨h,Q,h2,hx⟩)));omega
   ·exact m.oR h h' Q Q' h2 h4 aQ x hx uC
theorem Va(lt:Int→Int→Bool){d:Int}(hf:cQ d)(x:Int){m:Nat}(l:List Int)(pl:Int→Option Int){i:Int}(hi:1≤i)(hm:i.toNat≤m):0< (fA lt d x m l pl i).asked:=by
 obtain⟨q,rfl⟩:∃q,m=q+1:=⟨m - 1,by omega⟩
 have hp:aW d i=some ((i - 1) / d):=by unfold aW;rw[if_pos ⟨hf,hi⟩]
 simp only[fA,hp]
 split<;>simp
theorem C6{H:Hp}{n:Nat}{S:Nat→Prop}{d st:Int}{w:Nw}(h:c9 H n S d st w)(g x k s:Int):af Tryz.prog mJ [ptr n,i64 g,i64 x,tu k s] H fun v H'=>ar (
  (¬ (w.has g∧(0≤x∧x<w.cs.length)∧¬cU w.cs x)∧v= .bool false∧c9 H' n S d st w∧ag S H H')∨
  ((w.has g∧(0≤x∧x<w.cs.length)∧¬cU w.cs x)∧v= .bool true∧∃ (S':Nat→Prop) (q:Nat),(q:Int)≤kG d (w.len g).toNat∧(0<w.len g→0<q)∧c9 H' n S' d (min (st+q) 4611686018427387904) (w.put x (g,k,s))∧ag S H H'∧∀z,S' z→S z∨H.size≤z)):=by
 obtain⟨c,C,rv,fp,rs,m,l,hS⟩:=h
 refine aZ yI ?_
 refine vs ?_
 have f0:am H (H.new 182 [i64 k,u64 s]):=(ag.refl _ _).new _ _
 have b0:(H.new 182 [i64 k,u64 s]).own H.size=some [i64 k,u64 s]:=aD _ _ _
 have m0:=m.ext f0 (fun _ _ h=>h)
 generalize H.new 182 [i64 k,u64 s]=H0 at*
 refine v2 (ae m0.own) (ae b0) ?_
 refine(lh m0.cells g x k s).mono ?_
 rintro _ H1 (⟨bS,rfl,c1,e1⟩| ⟨qf,rfl,c1,e1⟩)
 ·refine vs ?_
  refine .inl ⟨bS,rfl,⟨c,C,rv,fp,rs,?_,l,hS⟩,(f0.mono fun _ _ h=>h.elim).trans (e1.mono fun z _ hz=>(hS z).1 (.inl hz))⟩
  exact⟨e1.own m0.own m.nC,c1,m0.sl.ext e1 (fun b hb h=>(m.xd b hb).2 h),fun i R hR=>(m0.row i R hR).ext e1 (fun x hx=>(m.mu i R hR x hx).1),m.nC,m.xd,m.mu,m.oR⟩
 ·obtain⟨hh,⟨fL,kD⟩,bE⟩:=id qf
  obtain⟨R,hR⟩:=l.fi hh
  have h1:=hh.1
  have zy:((g.toNat:Nat):Int)=g:=by omega
  have bF:=l.mem _ R hR
  have aR:=l.len _ R hR
  rw[zy]at bF aR
  obtain⟨c0,nE⟩:∃c0,w.cs[x.toNat]? =some c0:=⟨_,aop (by omega)⟩
  have AW:¬0<c0.1:=fun h=>bE ⟨fL,c0,nE,h⟩
  have cG:(w.put x (g,k,s)).cs[x.toNat]? =some (g,k,s):=aox (by omega)
  have kO:∀y:Nat,y≠x.toNat→(w.put x (g,k,s)).cs[y]? =w.cs[y]? :=fun y hy=>aov (Ne.symm hy)
  have Qx:∀ (i:Nat) Q,rs[i]? =some (some Q)→x∉Q.l:=fun i Q hQ hm=>by
   obtain⟨_,e,he⟩:=(l.mem i Q hQ x).1 hm
   rw[nE]at he
   injection he with he
   subst he
   rcases aqb i with hi|hi
   ·subst hi;rw[l.h0]at hQ;cases hQ
   ·exact AW (by simp only;omega)
  have aQ:∀ (i:Nat) Q,rs[i]? =some (some Q)→∀y∈Q.l,0≤y∧y.toNat≠x.toNat:=fun i Q hQ y hy=>by
   have h2:=((l.mem i Q hQ y).1 hy).1
   exact⟨h2,fun e=>Qx i Q hQ (by rw[show x=y by omega];exact hy)⟩
  have Yh:∀ (i:Nat) Q,rs[i]? =some (some Q)→bX (aN (w.put x (g,k,s))) d Q.l Q.pl:=fun i Q hQ=>
   bX.congr l.zk (l.ok i Q hQ) fun z hz y hy=>(gL w x _ (aQ i Q hQ z hz).2 (aQ i Q hQ y hy).2).symm
  have Gn:∀z∈R.l,cU (w.put x (g,k,s)).cs z:=fun z hz=>by
   obtain⟨z0,e,he⟩:=(bF z).1 hz
   exact⟨z0,_,by rw[kO _ (aQ _ R hR z hz).2];exact he,by simp only;omega⟩
  have Yi:cU (w.put x (g,k,s)).cs x:=⟨fL,_,cG,by simp only;omega⟩
  have o1:=e1.own m0.own m.nC
  have ace:=m.cells.st
  have m1:sw H1 n c C rv fp d st (w.put x (g,k,s)) rs:=⟨o1,c1,m0.sl.ext e1 (fun b hb h=>(m.xd b hb).2 h),fun i R hR=>(m0.row i R hR).ext e1 (fun x hx=>(m.mu i R hR x hx).1),m.nC,m.xd,m.mu,m.oR⟩
  have aK:=(aoq.1 hR).1
  obtain⟨b,o,c',lb,q1,q2,q3,q4⟩:=cK.get m1.sl.rd (i:=g.toNat) (j:=0) (x:=ptr R.r) (by omega) (by simp[hR,Wr])
  subst q1
  refine v1 (ae o1) ?_
  refine⟨by omega,?_⟩
  refine v2 q2 (show lb[o+g.toNat*1]? =some (ptr R.r)from q4) ?_
  have wY:=m.cells.Er
  have jx:R.l.length≤65536:=by have:=(w.zf g).2;omega
  refine(HP (Gp (c:=c) (rv:=.slice (some ⟨b,o,none⟩) rs.length c') (d:=d) (st:=st) (w:=w.put x (g,k,s)) m.nC) (m1.row _ R hR) (fun z hz ht=>?_) (n:=0) ⟨by rw[show min (st+((0:Nat):Int)) 4611686018427387904=st by omega];exact c1,o1⟩ x (by omega) Yi Gn).mono ?_
  ·rcases ht with ht|ht
   ·exact(m.mu _ R hR z hz).1 ht
   ·exact(m.mu _ R hR z hz).2.1 ht
  rintro _ H2 (⟨hp,_,_⟩| ⟨hp,rfl,S',r2,⟨c2,o2⟩,e2,ZP⟩)
  ·exact absurd ((bX.mem (l.ok _ R hR) x).2 hp) (Qx _ R hR)
  obtain⟨p1,p2,p3,p4⟩:=bX.add (ap (w.put x (g,k,s))) l.zk (Yh _ R hR) hp
  have hq:0<R.l.length→0< (fA (aN (w.put x (g,k,s))) d x R.l.length (R.l++[x]) R.pl R.l.length).asked:=fun h=>Va _ l.zk x _ _ (by omega) (by omega)
  generalize hU:fA (aN (w.put x (g,k,s))) d x R.l.length (R.l++[x]) R.pl R.l.length=U at*
  rw[aor]at c2
  refine vs ?_
  have rG:∀z,(R.S z∨C z∨z=n)→S z:=fun z hz=>(hS z).1 (by
   rcases hz with hz|hz|hz
   ·exact .inr (.inr (.inr ⟨_,R,hR,hz⟩))
   ·exact .inl hz
   ·exact .inr (.inl hz))
  have bQ:∀ (h:Nat) Q,(rs.set g.toNat (some (⟨R.r,S',U.l,U.pl⟩:Rw)))[h]? =some (some Q)→(h=g.toNat∧Q=⟨R.r,S',U.l,U.pl⟩)∨(h≠g.toNat∧rs[h]? =some (some Q)):=fun h Q hQ=>by
   by_cases hh:h=g.toNat
   ·subst hh
    rw[aox aK]at hQ
    simp only[aoz]at hQ
    exact .inl ⟨rfl,hQ.symm⟩
   ·rw[aov (Ne.symm hh)]at hQ
    exact .inr ⟨hh,hQ⟩
  refine .inr ⟨qf,rfl,DI n C fp (rs.set g.toNat (some ⟨R.r,S',U.l,U.pl⟩)),U.asked,?_,fun h=>hq (by omega),
   ⟨c,C,_,fp,rs.set g.toNat (some ⟨R.r,S',U.l,U.pl⟩),m1.setRow hR (R':=⟨R.r,S',U.l,U.pl⟩) rfl r2 ZP e2 (fun z hz=>?_) c2 o2,
    ⟨l.zk,by rw[aot];exact l.hl,fun h=>?_,?_,fun h Q hQ=>?_,fun h Q hQ y=>?_,fun h Q hQ=>?_⟩,fun z=>Iff.rfl⟩,?_,fun z hz=>?_⟩
  ·rw[show((w.len g).toNat:Int)=(R.l.length:Int) by omega]
   exact Int.ofNat_le.2 p4
  ·rcases hz with hz|hz|hz
   ·exact .inr (.inl hz)
   ·exact .inl hz
   ·exact .inr (.inr hz)
  ·show w.hs[h]? =some true↔_
   rw[l.hs h]
   by_cases Mj:h=g.toNat
   ·subst Mj
    rw[aox aK]
    exact⟨fun _=>⟨_,rfl⟩,fun _=>⟨R,hR⟩⟩
   ·rw[aov (Ne.symm Mj)]
  ·rw[aov (by omega)];exact l.h0
  ·rcases bQ h Q hQ with ⟨rfl,rfl⟩| ⟨h5,h6⟩
   ·exact p1
   ·exact Yh h Q h6
  ·rcases bQ h Q hQ with ⟨rfl,rfl⟩| ⟨h5,h6⟩
   ·rw[zy]
    show y∈U.l↔_
    rw[p2 y]
    constructor
    ·rintro(rfl|hy)
     ·exact⟨fL,_,cG⟩
     ·obtain⟨y0,e,he⟩:=(bF y).1 hy
      exact⟨y0,e,by rw[kO _ (aQ _ R hR y hy).2];exact he⟩
    ·rintro⟨y0,e,he⟩
     by_cases nM:y.toNat=x.toNat
     ·exact .inl (by omega)
     ·rw[kO _ nM]at he
      exact .inr ((bF y).2 ⟨y0,e,he⟩)
   ·rw[l.mem h Q h6 y]
    by_cases nM:y.toNat=x.toNat
    ·rw[nM,cG,nE]
     constructor
     ·rintro⟨y0,e,he⟩
      injection he with he
      subst he
      rcases aqb h with hi|hi
      ·subst hi;rw[l.h0]at h6;cases h6
      ·exact absurd (show(0:Int)< ((h:Nat):Int) by omega) AW
     ·rintro⟨y0,e,he⟩
      injection he with he
      injection he with Yj he2
      omega
    ·rw[kO _ nM]
  ·rcases bQ h Q hQ with ⟨rfl,rfl⟩| ⟨h5,h6⟩
   ·rw[zy,Nw.fW nE g,if_neg (fun hc=>by omega),if_pos ⟨by omega,rfl⟩]
    show(U.l.length:Int)=_
    omega
   ·rw[l.len h Q h6,Nw.fW nE h,if_neg (fun hc=>by omega),if_neg (fun hc=>by omega)]
    omega
  ·exact(f0.mono fun _ _ h=>h.elim).trans ((e1.mono fun z _ hz=>rG z (.inr (.inl hz))).trans (e2.mono fun z _ hz=>rG z hz))
  ·have z0:=f0.size
   have z1:=e1.size
   rcases hz with hz|rfl|hz| ⟨i,Q,hQ,hz⟩
   ·exact .inl (rG z (.inr (.inl hz)))
   ·exact .inl (rG z (.inr (.inr rfl)))
   ·exact .inl ((hS z).1 (.inr (.inr (.inl hz))))
   ·rcases bQ i Q hQ with ⟨rfl,rfl⟩| ⟨h5,h6⟩
    ·rcases ZP z hz with h|h
     ·exact .inl (rG z (.inl h))
     ·exact .inr (by omega)
    ·exact .inl ((hS z).1 (.inr (.inr (.inr ⟨i,Q,h6,hz⟩))))
theorem C7{H:Hp}{n:Nat}{S:Nat→Prop}{d st:Int}{w:Nw}(h:c9 H n S d st w)(x:Int):af Tryz.prog ye [ptr n,i64 x] H fun v H'=>ar (
  (¬cU w.cs x∧v= .bool false∧H=H')∨
  (cU w.cs x∧v= .bool true∧∃ (c0:Ce) (q:Nat),w.cs[x.toNat]? =some c0∧(q:Int)≤d*(kG d (w.len c0.1 - 1):Nat)+1∧∃S',c9 H' n S' d (min (st+q) 4611686018427387904) (w.put x (0,0,0))∧ag S H H'∧∀z,S' z→S z∨H.size≤z)):=by
 obtain⟨c,C,rv,fp,rs,m,l,hS⟩:=h
 refine aZ yG ?_
 refine v1 (ae m.own) ?_
 refine(eB m.cells x).mono ?_
 rintro _ H1 (⟨bS,rfl,rfl⟩| ⟨bE,c0,nE,rfl,c1,e1⟩)
 ·refine vs ?_
  exact .inl ⟨bS,rfl,rfl⟩
 obtain⟨fL,c0',J3,fC⟩:=id bE
 rw[nE]at J3
 injection J3 with J3
 subst J3
 obtain⟨R,hR⟩:=(l.hs c0.1.toNat).1 (m.cells.live _ (aow nE) fC)
 have zy:((c0.1.toNat:Nat):Int)=c0.1:=by omega
 have bF:=l.mem _ R hR
 have aR:=l.len _ R hR
 rw[zy]at bF aR
 have cG:(w.put x (0,0,0)).cs[x.toNat]? =some (0,0,0):=aox (aoq.1 nE).1
 have kO:∀y:Nat,y≠x.toNat→(w.put x (0,0,0)).cs[y]? =w.cs[y]? :=fun y hy=>aov (Ne.symm hy)
 have o1:=e1.own m.own m.nC
 have m1:sw H1 n c C rv fp d st w rs:=⟨o1,c1,m.sl.ext e1 (fun b hb h=>(m.xd b hb).2 h),fun i R hR=>(m.row i R hR).ext e1 (fun x hx=>(m.mu i R hR x hx).1),m.nC,m.xd,m.mu,m.oR⟩
 have aK:=(aoq.1 hR).1
 have hxR:x∈R.l:=(bF x).2 ⟨fL,c0.2,nE⟩
 have Gn:∀z∈R.l,cU w.cs z:=fun z hz=>by
  obtain⟨z0,e,he⟩:=(bF z).1 hz
  exact⟨z0,_,he,fC⟩
 obtain⟨b,o,c',lb,q1,q2,q3,q4⟩:=cK.get m1.sl.rd (i:=c0.1.toNat) (j:=0) (x:=ptr R.r) (by omega) (by simp[hR,Wr])
 subst q1
 have ace:=m.cells.st
 have wY:=m.cells.Er
 have jx:R.l.length≤65536:=by have:=(w.zf c0.1).2;omega
 refine v1 (ae o1) ?_
 refine⟨by omega,?_⟩
 refine v2 q2 (show lb[o+c0.1.toNat*1]? =some (ptr R.r)from q4) ?_
 refine(C5 (Gp (c:=c) (rv:=.slice (some ⟨b,o,none⟩) rs.length c') (d:=d) (st:=st) (w:=w) m.nC) (m1.row _ R hR) (fun z hz ht=>?_) (n:=0) ⟨by rw[show min (st+((0:Nat):Int)) 4611686018427387904=st by omega];exact c1,o1⟩ l.zk x (by omega) (l.ok _ R hR).pl Gn).mono ?_
 ·rcases ht with ht|ht
  ·exact(m.mu _ R hR z hz).1 ht
  ·exact(m.mu _ R hR z hz).2.1 ht
 rintro _ H2 (⟨hp,_,_⟩| ⟨i,hp,rfl,r2,⟨c2,o2⟩,e2⟩)
 ·exact absurd hp ((bX.mem (l.ok _ R hR) x).1 hxR)
 obtain⟨p1,p2,p3,p4⟩:=bX.Yo (ap w) l.zk (l.ok _ R hR) hp
 generalize hU:cO (aN w) d x R.l R.pl i=U at*
 rw[aor]at c2
 refine v1 (ae o2) ?_
 refine(jH c2 x).mono ?_
 rintro _ H3 (⟨bS,_,_⟩| ⟨_,rfl,c3,e3⟩)
 ·exact absurd bE bS
 refine vs ?_
 have o3:=e3.own o2 m.nC
 have G1:ag (fun z=>R.S z∨C z∨z=n) H1 H3:=e2.trans (e3.mono fun z _ hz=>.inr (.inl hz))
 have r3:=r2.ext e3 (fun z hz=>(m.mu _ R hR z hz).1)
 have rG:∀z,(R.S z∨C z∨z=n)→S z:=fun z hz=>(hS z).1 (by
  rcases hz with hz|hz|hz
  ·exact .inr (.inr (.inr ⟨_,R,hR,hz⟩))
  ·exact .inl hz
  ·exact .inr (.inl hz))
 have bQ:∀ (h:Nat) Q,(rs.set c0.1.toNat (some (⟨R.r,R.S,U.1,U.2.1⟩:Rw)))[h]? =some (some Q)→(h=c0.1.toNat∧Q=⟨R.r,R.S,U.1,U.2.1⟩)∨(h≠c0.1.toNat∧rs[h]? =some (some Q)):=fun h Q hQ=>by
  by_cases hh:h=c0.1.toNat
  ·subst hh
   rw[aox aK]at hQ
   simp only[aoz]at hQ
   exact .inl ⟨rfl,hQ.symm⟩
  ·rw[aov (Ne.symm hh)]at hQ
   exact .inr ⟨hh,hQ⟩
 have CD:∀ (h:Nat) Q,rs[h]? =some (some Q)→0<h:=fun h Q hQ=>by
  rcases aqb h with hi|hi
  ·subst hi;rw[l.h0]at hQ;cases hQ
  ·exact hi
 have aQ:∀ (h:Nat) Q,h≠c0.1.toNat→rs[h]? =some (some Q)→∀y∈Q.l,y.toNat≠x.toNat:=fun h Q hh hQ y hy e=>by
  obtain⟨y0,e',he⟩:=(l.mem h Q hQ y).1 hy
  rw[e,nE]at he
  injection he with he
  rw[he]at hh
  simp only[Int.toNat_natCast]at hh
  exact hh rfl
 have NX:∀y∈U.1,y.toNat≠x.toNat:=fun y hy e=>by
  obtain⟨h1,h2⟩:=(p3 y).1 hy
  have:=((bF y).1 h1).1
  omega
 refine .inr ⟨bE,rfl,c0,U.2.2,nE,?_,DI n C fp (rs.set c0.1.toNat (some ⟨R.r,R.S,U.1,U.2.1⟩)),
  ⟨c,C,_,fp,rs.set c0.1.toNat (some ⟨R.r,R.S,U.1,U.2.1⟩),m1.setRow hR (R':=⟨R.r,R.S,U.1,U.2.1⟩) rfl r3 (fun z hz=>.inl hz) G1 (fun z hz=>?_) c3 o3,
   ⟨l.zk,by rw[aot];exact l.hl,fun h=>?_,?_,fun h Q hQ=>?_,fun h Q hQ y=>?_,fun h Q hQ=>?_⟩,fun z=>Iff.rfl⟩,?_,fun z hz=>?_⟩
 ·rw[←aR];exact p4
 ·rcases hz with hz|hz|hz
  ·exact .inr (.inl hz)
  ·exact .inl hz
  ·exact .inr (.inr hz)
 ·show w.hs[h]? =some true↔_
  rw[l.hs h]
  by_cases Mj:h=c0.1.toNat
  ·subst Mj
   rw[aox aK]
   exact⟨fun _=>⟨_,rfl⟩,fun _=>⟨R,hR⟩⟩
  ·rw[aov (Ne.symm Mj)]
 ·rw[aov (by omega)];exact l.h0
 ·rcases bQ h Q hQ with ⟨rfl,rfl⟩| ⟨h5,h6⟩
  ·exact bX.congr l.zk p1 fun z hz y hy=>(gL w x _ (NX z hz) (NX y hy)).symm
  ·exact bX.congr l.zk (l.ok h Q h6) fun z hz y hy=>(gL w x _ (aQ h Q h5 h6 z hz) (aQ h Q h5 h6 y hy)).symm
 ·by_cases nM:y.toNat=x.toNat
  ·rw[nM,cG]
   have h0:=bQ h Q hQ
   constructor
   ·intro hy
    rcases h0 with ⟨rfl,rfl⟩| ⟨h5,h6⟩
    ·exact absurd nM (NX y hy)
    ·exact absurd nM (aQ h Q h5 h6 y hy)
   ·rintro⟨_,e,he⟩
    injection he with he
    injection he with Yj _
    rcases h0 with ⟨rfl,rfl⟩| ⟨h5,h6⟩
    ·omega
    ·have:=CD h Q h6;omega
  ·rw[kO _ nM]
   rcases bQ h Q hQ with ⟨rfl,rfl⟩| ⟨h5,h6⟩
   ·rw[zy]
    show y∈U.1↔_
    rw[p3 y,bF y]
    constructor
    ·exact fun h=>h.1
    ·exact fun h=>⟨h,fun e=>nM (by rw[e])⟩
   ·exact l.mem h Q h6 y
 ·rcases bQ h Q hQ with ⟨rfl,rfl⟩| ⟨h5,h6⟩
  ·rw[zy,Nw.fW nE c0.1,if_pos ⟨fC,rfl⟩,if_neg (fun hc=>by omega)]
   show(U.1.length:Int)=_
   have:=List.length_pos_of_mem hxR
   omega
  ·have:=CD h Q h6
   rw[l.len h Q h6,Nw.fW nE h,if_neg (fun hc=>by omega),if_neg (fun hc=>by omega)]
   omega
 ·exact(e1.mono fun z _ hz=>rG z (.inr (.inl hz))).trans (G1.mono fun z _ hz=>rG z hz)
 ·rcases hz with hz|rfl|hz| ⟨i,Q,hQ,hz⟩
  ·exact .inl (rG z (.inr (.inl hz)))
  ·exact .inl (rG z (.inr (.inr rfl)))
  ·exact .inl ((hS z).1 (.inr (.inr (.inl hz))))
  ·rcases bQ i Q hQ with ⟨rfl,rfl⟩| ⟨h5,h6⟩
   ·exact .inl (rG z (.inl hz))
   ·exact .inl ((hS z).1 (.inr (.inr (.inr ⟨i,Q,h6,hz⟩))))
theorem Bm{H:Hp}{n:Nat}{S:Nat→Prop}{d st:Int}{w:Nw}(h:c9 H n S d st w)(g:Int):af Tryz.prog lD [ptr n,i64 g] H fun v H'=>ar (
  ((¬w.has g∨(w.has g∧w.len g=0))∧v= .tuple [i64 0,.bool false].toArray∧H=H')∨
  (w.has g∧∃x,cU w.cs x∧(∃e,w.cs[x.toNat]? =some (g,e))∧(∀y,0≤y→(∃e,w.cs[y.toNat]? =some (g,e))→y≠x→aN w x y=true)∧v= .tuple [i64 x,.bool true].toArray∧
   ∃q:Nat,(q:Int)≤d*(kG d (w.len g - 1):Nat)+1∧∃S',c9 H' n S' d (min (st+q) 4611686018427387904) (w.put x (0,0,0))∧ag S H H'∧∀z,S' z→S z∨H.size≤z)):=by
 refine aZ wu ?_
 refine vs ?_
 refine(xz h g).mono ?_
 rintro _ _ ⟨⟨bS,rfl⟩| ⟨hh,h0,rfl⟩| ⟨hh,x,hx,he,rfl,rB⟩,rfl⟩
 ·refine vs ?_
  exact .inl ⟨.inl bS,rfl,rfl⟩
 ·refine vs ?_
  exact .inl ⟨.inr ⟨hh,h0⟩,rfl,rfl⟩
 ·refine vs ?_
  refine(C7 h x).mono ?_
  rintro _ H1 (⟨bS,_,_⟩| ⟨_,rfl,c0,q,nE,hq,S',d1,e1,ZP⟩)
  ·exact absurd hx bS
  refine vs ?_
  obtain⟨e,kY⟩:=id he
  rw[nE]at kY
  injection kY with kY
  subst kY
  exact .inr ⟨hh,x,hx,he,rB,rfl,q,hq,S',d1,e1,ZP⟩
theorem Qy(w:Nw){x:Int}{y:Ce}{k s:Int}(hy:w.cs[x.toNat]? =some y)(hl:¬fN y.2.1 y.2.2 k s){z:Int}(hz:z.toNat≠x.toNat)(h:aN w z x=false):aN (w.put x (y.1,k,s)) z x=false:=by
 have k1:w.key x=y.2.1:=by unfold Nw.key;rw[aou,hy];rfl
 have k2:w.seq x=y.2.2:=by unfold Nw.seq;rw[aou,hy];rfl
 have hs:=aox (l:=w.cs) (a:=(y.1,k,s)) (aoq.1 hy).1
 have k3:(w.put x (y.1,k,s)).key x=k:=by unfold Nw.key Nw.put;simp only[aou];rw[hs];rfl
 have k4:(w.put x (y.1,k,s)).seq x=s:=by unfold Nw.seq Nw.put;simp only[aou];rw[hs];rfl
 have k5:(w.put x (y.1,k,s)).key z=w.key z:=by unfold Nw.key Nw.put;simp only[aou];rw[aov (Ne.symm hz)]
 have k6:(w.put x (y.1,k,s)).seq z=w.seq z:=by unfold Nw.seq Nw.put;simp only[aou];rw[aov (Ne.symm hz)]
 unfold aN at h ⊢
 rw[k3,k4,k5,k6]
 rw[k1,k2]at h
 simp only[decide_eq_false_iff_not,fN]at*
 omega
theorem zm{H:Hp}{n:Nat}{S:Nat→Prop}{d st:Int}{w:Nw}(h:c9 H n S d st w)(x k s:Int):af Tryz.prog j0 [ptr n,i64 x,tu k s] H fun v H'=>ar (
  (¬ (cU w.cs x∧∀y,w.cs[x.toNat]? =some y→¬fN y.2.1 y.2.2 k s)∧v= .bool false∧c9 H' n S d st w∧am H H')∨
  (cU w.cs x∧∃y,w.cs[x.toNat]? =some y∧¬fN y.2.1 y.2.2 k s∧v= .bool true∧∃q:Nat,(q:Int)≤kG d (w.len y.1 - 1)∧∃S',c9 H' n S' d (min (st+q) 4611686018427387904) (w.put x (y.1,k,s))∧ag S H H'∧∀z,S' z→S z∨H.size≤z)):=by
 obtain⟨c,C,rv,fp,rs,m,l,hS⟩:=h
 refine aZ ud ?_
 refine vs ?_
 have f0:am H (H.new 182 [i64 k,u64 s]):=(ag.refl _ _).new _ _
 have b0:(H.new 182 [i64 k,u64 s]).own H.size=some [i64 k,u64 s]:=aD _ _ _
 have m0:=m.ext f0 (fun _ _ h=>h)
 generalize H.new 182 [i64 k,u64 s]=H0 at*
 refine v2 (ae m0.own) (ae b0) ?_
 refine(iQ m0.cells x k s).mono ?_
 rintro _ H1 (⟨bS,rfl,c1,e1⟩| ⟨bE,rfl,y,hy,fz,c1,e1⟩)
 ·refine vs ?_
  exact .inl ⟨bS,rfl,⟨c,C,rv,fp,rs,m0.ext e1 (fun _ _ h=>h),l,hS⟩,f0.trans e1⟩
 have o1:=e1.own m0.own m.nC
 refine v1 (ae o1) ?_
 obtain⟨fL,y',MI,fC⟩:=id bE
 rw[hy]at MI
 injection MI with MI
 subst MI
 have cG:(w.put x (y.1,k,s)).cs[x.toNat]? =some (y.1,k,s):=aox (aoq.1 hy).1
 have kO:∀z:Nat,z≠x.toNat→(w.put x (y.1,k,s)).cs[z]? =w.cs[z]? :=fun z hz=>aov (Ne.symm hz)
 have J1:cU (w.put x (y.1,k,s)).cs x:=⟨fL,_,cG,fC⟩
 refine(eB c1 x).mono ?_
 rintro _ H2 (⟨bS,_,_⟩| ⟨_,y2,vF,rfl,c2,e2⟩)
 ·exact absurd J1 bS
 rw[cG]at vF
 injection vF with vF
 subst vF
 have oZ:=e1.trans e2
 obtain⟨R,hR⟩:=(l.hs y.1.toNat).1 (m.cells.live _ (aow hy) fC)
 have zy:((y.1.toNat:Nat):Int)=y.1:=by omega
 have Mk:∀ (h:Nat) Q,rs[h]? =some (some Q)→∀z:Int,z∈Q.l↔0≤z∧∃e,(w.put x (y.1,k,s)).cs[z.toNat]? =some (((h:Nat):Int),e):=fun h Q hQ z=>by
  rw[l.mem h Q hQ z]
  by_cases U8:z.toNat=x.toNat
  ·rw[U8,cG,hy]
   constructor
   ·rintro⟨z0,e,he⟩
    injection he with he
    exact⟨z0,(k,s),by rw[he]⟩
   ·rintro⟨z0,e,he⟩
    injection he with he
    injection he with Yj _
    exact⟨z0,y.2,by rw[←Yj]⟩
  ·rw[kO _ U8]
 have bF:=Mk _ R hR
 have aR:=l.len _ R hR
 rw[zy]at bF aR
 have hxR:x∈R.l:=(bF x).2 ⟨fL,_,cG⟩
 have Gn:∀z∈R.l,cU (w.put x (y.1,k,s)).cs z:=fun z hz=>by
  obtain⟨z0,e,he⟩:=(bF z).1 hz
  exact⟨z0,_,he,fC⟩
 have o2:=e2.own o1 m.nC
 have m2:sw H2 n c C rv fp d st (w.put x (y.1,k,s)) rs:=⟨o2,c2,m0.sl.ext oZ (fun b hb h=>(m.xd b hb).2 h),fun i R hR=>(m0.row i R hR).ext oZ (fun x hx=>(m.mu i R hR x hx).1),m.nC,m.xd,m.mu,m.oR⟩
 have aK:=(aoq.1 hR).1
 obtain⟨b,o,c',lb,q1,q2,q3,q4⟩:=cK.get m2.sl.rd (i:=y.1.toNat) (j:=0) (x:=ptr R.r) (by omega) (by simp[hR,Wr])
 subst q1
 have ace:=m.cells.st
 have wY:=m.cells.Er
 have jx:R.l.length≤65536:=by have:=(w.zf y.1).2;omega
 refine v1 (ae o2) ?_
 refine⟨by omega,?_⟩
 refine v2 q2 (show lb[o+y.1.toNat*1]? =some (ptr R.r)from q4) ?_
 refine(Eu (Gp (c:=c) (rv:=.slice (some ⟨b,o,none⟩) rs.length c') (d:=d) (st:=st) (w:=w.put x (y.1,k,s)) m.nC) (m2.row _ R hR) (fun z hz ht=>?_) (n:=0) ⟨by rw[show min (st+((0:Nat):Int)) 4611686018427387904=st by omega];exact c2,o2⟩ x (by omega) (fun i hi=>by
  obtain⟨h1,h2⟩:=((l.ok _ R hR).pl x i).1 hi
  have:=(aoq.1 h2).1
  exact⟨h1,by omega⟩) J1 Gn).mono ?_
 ·rcases ht with ht|ht
  ·exact(m.mu _ R hR z hz).1 ht
  ·exact(m.mu _ R hR z hz).2.1 ht
 rintro _ H3 (⟨hp,_,_⟩| ⟨i,hp,rfl,r3,⟨c3,o3⟩,e3⟩)
 ·exact absurd hp ((bX.mem (l.ok _ R hR) x).1 hxR)
 have IB:∀z∈R.l,z≠x→z.toNat≠x.toNat:=fun z hz aQ e=>by have:=((bF z).1 hz).1;omega
 obtain⟨p1,p2,p3,p4⟩:=bX.raise (ap w) (ap (w.put x (y.1,k,s))) l.zk (l.ok _ R hR) hp (fun a ha b hb qA lV=>gL w x _ (IB a ha qA) (IB b hb lV)) (fun z hz U8 hl=>Qy w hy fz (IB z hz U8) hl)
 generalize hU:fA (aN (w.put x (y.1,k,s))) d x i.toNat R.l R.pl i=U at*
 rw[aor]at c3
 refine vs ?_
 have rG:∀z,(R.S z∨C z∨z=n)→S z:=fun z hz=>(hS z).1 (by
  rcases hz with hz|hz|hz
  ·exact .inr (.inr (.inr ⟨_,R,hR,hz⟩))
  ·exact .inl hz
  ·exact .inr (.inl hz))
 have bQ:∀ (h:Nat) Q,(rs.set y.1.toNat (some (⟨R.r,R.S,U.l,U.pl⟩:Rw)))[h]? =some (some Q)→(h=y.1.toNat∧Q=⟨R.r,R.S,U.l,U.pl⟩)∨(h≠y.1.toNat∧rs[h]? =some (some Q)):=fun h Q hQ=>by
  by_cases hh:h=y.1.toNat
  ·subst hh
   rw[aox aK]at hQ
   simp only[aoz]at hQ
   exact .inl ⟨rfl,hQ.symm⟩
  ·rw[aov (Ne.symm hh)]at hQ
   exact .inr ⟨hh,hQ⟩
 have aQ:∀ (h:Nat) Q,h≠y.1.toNat→rs[h]? =some (some Q)→∀z∈Q.l,z.toNat≠x.toNat:=fun h Q hh hQ z hz e=>by
  obtain⟨z0,e',he⟩:=(l.mem h Q hQ z).1 hz
  rw[e,hy]at he
  injection he with he
  rw[he]at hh
  simp only[Int.toNat_natCast]at hh
  exact hh rfl
 have TT:∀h:Int,(w.put x (y.1,k,s)).len h=w.len h:=fun h=>by
  rw[Nw.fW hy h]
  simp only
  split<;>omega
 refine .inr ⟨bE,y,hy,fz,rfl,U.asked,by rw[←aR];exact Int.ofNat_le.2 p4,DI n C fp (rs.set y.1.toNat (some ⟨R.r,R.S,U.l,U.pl⟩)),
  ⟨c,C,_,fp,rs.set y.1.toNat (some ⟨R.r,R.S,U.l,U.pl⟩),m2.setRow hR (R':=⟨R.r,R.S,U.l,U.pl⟩) rfl r3 (fun z hz=>.inl hz) e3 (fun z hz=>?_) c3 o3,
   ⟨l.zk,by rw[aot];exact l.hl,fun h=>?_,?_,fun h Q hQ=>?_,fun h Q hQ z=>?_,fun h Q hQ=>?_⟩,fun z=>Iff.rfl⟩,?_,fun z hz=>?_⟩
 ·rcases hz with hz|hz|hz
  ·exact .inr (.inl hz)
  ·exact .inl hz
  ·exact .inr (.inr hz)
 ·show w.hs[h]? =some true↔_
  rw[l.hs h]
  by_cases Mj:h=y.1.toNat
  ·subst Mj
   rw[aox aK]
   exact⟨fun _=>⟨_,rfl⟩,fun _=>⟨R,hR⟩⟩
  ·rw[aov (Ne.symm Mj)]
 ·rw[aov (by omega)];exact l.h0
 ·rcases bQ h Q hQ with ⟨rfl,rfl⟩| ⟨h5,h6⟩
  ·exact p1
  ·exact bX.congr l.zk (l.ok h Q h6) fun z hz v hv=>(gL w x _ (aQ h Q h5 h6 z hz) (aQ h Q h5 h6 v hv)).symm
 ·rcases bQ h Q hQ with ⟨rfl,rfl⟩| ⟨h5,h6⟩
  ·rw[zy]
   show z∈U.l↔_
   rw[p2 z,bF z]
  ·exact Mk h Q h6 z
 ·rw[TT]
  rcases bQ h Q hQ with ⟨rfl,rfl⟩| ⟨h5,h6⟩
  ·rw[zy]
   show(U.l.length:Int)=_
   omega
  ·exact l.len h Q h6
 ·exact(f0.mono fun _ _ h=>h.elim).trans ((oZ.mono fun z _ hz=>rG z (.inr (.inl hz))).trans (e3.mono fun z _ hz=>rG z hz))
 ·rcases hz with hz|rfl|hz| ⟨j,Q,hQ,hz⟩
  ·exact .inl (rG z (.inr (.inl hz)))
  ·exact .inl (rG z (.inr (.inr rfl)))
  ·exact .inl ((hS z).1 (.inr (.inr (.inl hz))))
  ·rcases bQ j Q hQ with ⟨rfl,rfl⟩| ⟨h5,h6⟩
   ·exact .inl (rG z (.inl hz))
   ·exact .inl ((hS z).1 (.inr (.inr (.inr ⟨j,Q,h6,hz⟩))))
end Go.Proofs.YthpjfeolagohkaaGreat
