/- Texts put behind each other. -/
import Derived.Test.YthpjfeolagohkaaGreatK98
import Derived.Test.YthpjfeolagohkaaGreatK24
import Derived.Test.YthpjfeolagohkaaGreatK26
import Derived.Test.YthpjfeolagohkaaGreatK31
set_option maxRecDepth 100000
set_option maxHeartbeats 8000000
set_option linter.unusedVariables false
set_option linter.unusedSimpArgs false
namespace Go.Proofs.YthpjfeolagohkaaGreat
open Go Go.Vc
structure Pl where
 r:Nat
 fp:Option Nat
 l:List Int
def Pl.S(P:Pl)(x:Nat):Prop:=x=P.r∨P.fp=some x
def T0:Option Pl→Value
 |none=>.pointer none
 |some P=>ptr P.r
structure lX(H:Hp)(n c:Nat)(C:Nat→Prop)(rv:Value)(fr fa:Option Nat)(st:Int)(w:Nw)(ps:List (Option Pl))(at_:List Int):Prop where
 own:∃av,H.own n=some [ptr c,rv,av]∧Sl H 1 av at_.length (at_.map i64) fa
 cells:bi H c C st w
 sl:Sl H 1 rv ps.length (ps.map T0) fr
 je:∀ (h:Nat) P,ps[h]? =some (some P)→∃sv,H.own P.r=some [ptr n,sv]∧Sl H 1 sv P.l.length (P.l.map i64) P.fp
 nC:¬C n
 O7:∀b,fr=some b→¬C b∧b≠n∧fa≠some b
 JY:∀b,fa=some b→¬C b∧b≠n
 pd:∀ (h:Nat) P,ps[h]? =some (some P)→∀x,P.S x→¬C x∧x≠n∧fr≠some x∧fa≠some x
 pr:∀ (h:Nat) P,ps[h]? =some (some P)→P.fp≠some P.r∧P.l.length≤65536
 pp:∀ (h h':Nat) P P',ps[h]? =some (some P)→ps[h']? =some (some P')→h≠h'→∀x,P.S x→¬P'.S x
def DH(n:Nat)(C:Nat→Prop)(fr fa:Option Nat)(ps:List (Option Pl))(z:Nat):Prop:=C z∨z=n∨fr=some z∨fa=some z∨∃ (h:Nat) (P:Pl),ps[h]? =some (some P)∧P.S z
structure Gl(w:Nw)(ps:List (Option Pl))(at_:List Int):Prop where
 hl:ps.length=w.hs.length
 hs:∀h:Nat,w.hs[h]? =some true↔∃P,ps[h]? =some (some P)
 h0:ps[0]? =some none
 ok:∀ (h:Nat) P,ps[h]? =some (some P)→eI (aN w) 2 P.l
 T3:∀ (h:Nat) P,ps[h]? =some (some P)→mr P.l at_
 mem:∀ (h:Nat) P,ps[h]? =some (some P)→∀x:Int,x∈P.l↔0≤x∧∃e,w.cs[x.toNat]? =some (((h:Nat):Int),e)
 len:∀ (h:Nat) P,ps[h]? =some (some P)→(P.l.length:Int)=w.len h
 Mi:at_.length=w.cs.length
def dE(H:Hp)(n:Nat)(S:Nat→Prop)(st:Int)(w:Nw):Prop:=∃c C rv fr fa ps at_,lX H n c C rv fr fa st w ps at_∧Gl w ps at_∧(∀z,DH n C fr fa ps z↔S z)
section
variable {H H' : Hp} {n c : Nat} {C T : Nat → Prop} {rv : Value} {fr fa : Option Nat} {st Ye : Int} {w w' : Nw} {ps : List (Option Pl)} {at_ lW : List Int} {S : Nat → Prop}
theorem lX.slt(h:lX H n c C rv fr fa st w ps at_):∀z,DH n C fr fa ps z→z<H.size:=by
 obtain⟨av,ho,ha⟩:=h.own
 rintro z (hz|rfl|hz|hz| ⟨i,P,hP,hz⟩)
 ·exact h.cells.slt z hz
 ·exact aB ho
 ·exact Sl.lt (hz▸h.sl)
 ·exact Sl.lt (hz▸ha)
 ·obtain⟨sv,h1,h2⟩:=h.je i P hP
  rcases hz with rfl|hz
  ·exact aB h1
  ·exact Sl.lt (hz▸h2)
theorem lX.ext(h:lX H n c C rv fr fa st w ps at_)(e:ag T H H')(hd:∀z,DH n C fr fa ps z→¬T z):lX H' n c C rv fr fa st w ps at_:=by
 obtain⟨av,ho,ha⟩:=h.own
 refine⟨⟨av,e.own ho (hd n (.inr (.inl rfl))),ha.ext e (fun b hb=>hd b (.inr (.inr (.inr (.inl hb)))))⟩,h.cells.ext e (fun x hx=>hd x (.inl hx)),h.sl.ext e (fun b hb=>hd b (.inr (.inr (.inl hb)))),fun i P hP=>?_,h.nC,h.O7,h.JY,h.pd,h.pr,h.pp⟩
 obtain⟨sv,h1,h2⟩:=h.je i P hP
 exact⟨sv,e.own h1 (hd _ (.inr (.inr (.inr (.inr ⟨i,P,hP,.inl rfl⟩))))),h2.ext e (fun b hb=>hd b (.inr (.inr (.inr (.inr ⟨i,P,hP,.inr hb⟩)))))⟩
theorem lX.aH(h:lX H n c C rv fr fa st w ps at_)(c1:bi H' c C Ye w')(e:ag C H H'):lX H' n c C rv fr fa Ye w' ps at_:=by
 obtain⟨av,ho,ha⟩:=h.own
 refine⟨⟨av,e.own ho h.nC,ha.ext e (fun b hb=>(h.JY b hb).1)⟩,c1,h.sl.ext e (fun b hb=>(h.O7 b hb).1),fun i P hP=>?_,h.nC,h.O7,h.JY,h.pd,h.pr,h.pp⟩
 obtain⟨sv,h1,h2⟩:=h.je i P hP
 exact⟨sv,e.own h1 (h.pd i P hP _ (.inl rfl)).1,h2.ext e (fun b hb=>(h.pd i P hP b (.inr hb)).1)⟩
theorem dE.slt(h:dE H n S st w):∀z,S z→z<H.size:=by
 obtain⟨c,C,rv,fr,fa,ps,at_,m,l,hS⟩:=h
 exact fun z hz=>m.slt z ((hS z).2 hz)
theorem dE.ext(h:dE H n S st w)(e:ag T H H')(hd:∀z,S z→¬T z):dE H' n S st w:=by
 obtain⟨c,C,rv,fr,fa,ps,at_,m,l,hS⟩:=h
 exact⟨c,C,rv,fr,fa,ps,at_,m.ext e (fun z hz=>hd z ((hS z).1 hz)),l,hS⟩
theorem dE.fresh(h:dE H n S st w)(e:am H H'):dE H' n S st w:=h.ext e fun _ _ h=>h
theorem lX.NU(m:lX H n c C rv fr fa st w ps at_){g:Nat}{P:Pl}(hP:ps[g]? =some (some P)):gE H n c C rv P.r P.fp fa st w P.l at_:=by
 have hd:=m.pd g P hP
 refine⟨m.own,m.cells,m.je g P hP,m.nC,(hd P.r (.inl rfl)).1,(hd P.r (.inl rfl)).2.1,fun b hb=>⟨(hd b (.inr hb)).1,(hd b (.inr hb)).2.1,fun h=>(m.pr g P hP).1 (by rw[hb,h]),(hd b (.inr hb)).2.2.2⟩,fun b hb=>⟨(m.JY b hb).1,(m.JY b hb).2,fun h=>(hd P.r (.inl rfl)).2.2.2 (by rw[hb,h])⟩,(m.pr g P hP).2⟩
theorem lX.J2(m:lX H n c C rv fr fa st w ps at_){g:Nat}{P P':Pl}(hP:ps[g]? =some (some P))(hr:P'.r=P.r)(pm:gE H' n c C rv P'.r P'.fp fa Ye w' P'.l lW)(fU:P'.fp=P.fp∨∃z,P'.fp=some z∧H.size≤z)
  (e:ag T H H')(hT:∀z,T z→C z∨P.S z∨fa=some z):lX H' n c C rv fr fa Ye w' (ps.set g (some P')) lW:=by
 have eW:=m.slt
 have hg:=(aoq.1 hP).1
 have hPS:∀x,P'.S x→P.S x∨H.size≤x:=fun x hx=>by
  rcases hx with rfl|hx
  ·exact .inl (.inl hr)
  ·rcases fU with h| ⟨z,h,h5⟩
   ·exact .inl (.inr (h▸hx))
   ·rw[h]at hx;injection hx with hx;exact .inr (by omega)
 have bQ:∀ (h:Nat) Q,(ps.set g (some P'))[h]? =some (some Q)→(h=g∧Q=P')∨(h≠g∧ps[h]? =some (some Q)):=fun h Q hQ=>by
  by_cases hh:h=g
  ·subst hh
   rw[aox hg]at hQ
   simp only[aoz]at hQ
   exact .inl ⟨rfl,hQ.symm⟩
  ·rw[aov (Ne.symm hh)]at hQ
   exact .inr ⟨hh,hQ⟩
 have hd:=m.pd g P hP
 refine⟨pm.own,pm.cells,?_,fun h Q hQ=>?_,m.nC,m.O7,m.JY,fun h Q hQ x hx=>?_,fun h Q hQ=>?_,fun h h' Q Q' hQ hQ' aQ x hx uC=>?_⟩
 ·have h1:(ps.set g (some P')).map T0=ps.map T0:=by
   rw[ao9]
   refine ao7 fun i=>?_
   by_cases hi:i=g
   ·subst hi
    rw[aox (by rw[aoA];exact hg),aoG,hP]
    simp[T0,hr]
   ·rw[aov (Ne.symm hi)]
  rw[h1,aot]
  exact m.sl.ext e (fun b hb ht=>by
   rcases hT b ht with h|h|h
   ·exact(m.O7 b hb).1 h
   ·exact(hd b h).2.2.1 hb
   ·exact(m.O7 b hb).2.2 h)
 ·rcases bQ h Q hQ with ⟨rfl,rfl⟩| ⟨h1,h2⟩
  ·exact pm.je
  ·obtain⟨sv,q1,q2⟩:=m.je h Q h2
   have bS:∀x,Q.S x→¬T x:=fun x hx ht=>by
    rcases hT x ht with h3|h3|h3
    ·exact(m.pd h Q h2 x hx).1 h3
    ·exact m.pp h g Q P h2 hP h1 x hx h3
    ·exact(m.pd h Q h2 x hx).2.2.2 h3
   exact⟨sv,e.own q1 (bS _ (.inl rfl)),q2.ext e (fun b hb=>bS b (.inr hb))⟩
 ·rcases bQ h Q hQ with ⟨rfl,rfl⟩| ⟨h1,h2⟩
  ·rcases hPS x hx with h3|h3
   ·exact hd x h3
   ·refine⟨fun hc=>?_,fun hc=>?_,fun hc=>?_,fun hc=>?_⟩
    ·have:=eW x (.inl hc);omega
    ·have:=eW n (.inr (.inl rfl));omega
    ·have:=eW x (.inr (.inr (.inl hc)));omega
    ·have:=eW x (.inr (.inr (.inr (.inl hc))));omega
  ·exact m.pd h Q h2 x hx
 ·rcases bQ h Q hQ with ⟨rfl,rfl⟩| ⟨h1,h2⟩
  ·refine⟨fun hc=>?_,pm.ll⟩
   exact(pm.xd _ hc).2.2.1 rfl
  ·exact m.pr h Q h2
 ·rcases bQ h Q hQ with ⟨rfl,rfl⟩| ⟨h1,h2⟩
  ·rcases bQ h' Q' hQ' with ⟨rfl,rfl⟩| ⟨h3,h4⟩
   ·exact aQ rfl
   ·rcases hPS x hx with h5|h5
    ·exact m.pp _ h' P Q' hP h4 aQ x h5 uC
    ·have:=eW x (.inr (.inr (.inr (.inr ⟨h',Q',h4,uC⟩))));omega
  ·rcases bQ h' Q' hQ' with ⟨rfl,rfl⟩| ⟨h3,h4⟩
   ·rcases hPS x uC with h5|h5
    ·exact m.pp h _ Q P h2 hP aQ x hx h5
    ·have:=eW x (.inr (.inr (.inr (.inr ⟨h,Q,h2,hx⟩))));omega
   ·exact m.pp h h' Q Q' h2 h4 aQ x hx uC
theorem lX.atp(m:lX H n c C rv fr fa st w ps at_){i:Nat}{o:Option Pl}(h:ps[i]? =some o):∃f cc lb,rv= .slice (some ⟨f,0,none⟩) ps.length cc∧fr=some f∧H.own f=some lb∧lb[i]? =some (T0 o)∧i<ps.length:=by
 obtain⟨b,cc,lb,h1,h2,h3,h4,h5,_⟩:=Sl.at_ m.sl (i:=i) (x:=T0 o) (by simp[h])
 exact⟨b,cc,lb,h1,h2,h3,h4,h5⟩
theorem Gl.fi(l:Gl w ps at_){g:Int}(h:w.has g):∃P,ps[g.toNat]? =some (some P):=(l.hs g.toNat).1 h.2
end
theorem HX(cap:Int)(H:Hp):af Tryz.prog No [i64 cap] H fun v H'=>ar (
  am H H'∧((¬ (0≤cap∧cap≤65536)∧v= .tuple [.pointer none,i64 31].toArray)∨
   ((0≤cap∧cap≤65536)∧∃n S,v= .tuple [ptr n,i64 0].toArray∧dE H' n S 0 ⟨[false],List.replicate cap.toNat (0,0,0)⟩∧∀x,S x→H.size≤x))):=by
 refine aZ Nu ?_
 refine vs ?_
 refine(lf cap H).mono ?_
 rintro _ H1 ⟨f1,⟨hb,rfl⟩| ⟨hb,c,C,rfl,c1,hC⟩⟩
 ·refine vs ?_
  exact⟨f1,.inl ⟨hb,rfl⟩⟩
 refine v1 aoW ?_
 refine⟨by omega,?_⟩
 refine vs ?_
 have agl:∀k:Nat,ce [Value.int .i64 0] k=(List.replicate k (0:Int)).map i64:=fun k=>by
  induction k with
  |zero=>rfl
  |succ k ih=>simp only[ce,aoZ,apr,apg]at*;rw[ih];rfl
 rw[agl]
 have xp:=c1.slt
 have z1:=f1.size
 have f3:am H1 (((H1.new 338 [.pointer none]).new 3 ((List.replicate cap.toNat (0:Int)).map i64)).new 247 [ptr c,.slice (some ⟨H1.size,0,none⟩) 1 1,.slice (some ⟨H1.size+1,0,none⟩) cap.toNat cap.toNat]):=(((ag.refl _ _).new _ _).new _ _).new _ _
 have e2:ag (fun _=>False) ((H1.new 338 [.pointer none]).new 3 ((List.replicate cap.toNat (0:Int)).map i64)) (((H1.new 338 [.pointer none]).new 3 ((List.replicate cap.toNat (0:Int)).map i64)).new 247 [ptr c,.slice (some ⟨H1.size,0,none⟩) 1 1,.slice (some ⟨H1.size+1,0,none⟩) cap.toNat cap.toNat]):=(ag.refl _ _).new _ _
 have e1:ag (fun _=>False) (H1.new 338 [.pointer none]) ((H1.new 338 [.pointer none]).new 3 ((List.replicate cap.toNat (0:Int)).map i64)):=(ag.refl _ _).new _ _
 have bS:∀ (h:Nat) (P:Pl),([none]:List (Option Pl))[h]? ≠some (some P):=fun h P hP=>by rcases h with _|h<;>simp at hP
 refine⟨f1.trans f3,.inr ⟨hb,H1.size+1+1,DH (H1.size+1+1) C (some H1.size) (some (H1.size+1)) [none],rfl,⟨c,C,_,some H1.size,some (H1.size+1),[none],List.replicate cap.toNat 0,
  ⟨⟨_,be (by simp only[aq]),?_⟩,c1.fresh f3,?_,fun h P hP=>absurd hP (bS h P),fun h=>by have:=xp _ h;omega,fun b hb=>?_,fun b hb=>?_,fun h P hP=>absurd hP (bS h P),fun h P hP=>absurd hP (bS h P),fun h h' P P' hP=>absurd hP (bS h P)⟩,
  ⟨rfl,fun h=>?_,rfl,fun h P hP=>absurd hP (bS h P),fun h P hP=>absurd hP (bS h P),fun h P hP=>absurd hP (bS h P),fun h P hP=>absurd hP (bS h P),by simp⟩,fun z=>Iff.rfl⟩,fun x hx=>?_⟩⟩
 ·rw[aoY]
  exact(Sl.cB (size:=1) (n:=cap.toNat) (xs:=(List.replicate cap.toNat (0:Int)).map i64) (by simp) (by simp only[aq])).ext e2 (fun _ _ h=>h)
 ·exact((Sl.cB (size:=1) (n:=1) (xs:=[.pointer none]) rfl rfl).ext e1 (fun _ _ h=>h)).ext e2 (fun _ _ h=>h)
 ·injection hb with hb
  subst hb
  exact⟨fun h=>by have:=xp _ h;omega,by omega,fun h=>by injection h with h;omega⟩
 ·injection hb with hb
  subst hb
  exact⟨fun h=>by have:=xp _ h;omega,by omega⟩
 ·rcases h with _|h<;>simp
 ·rcases hx with hx|rfl|hx|hx| ⟨i,P,hP,hx⟩
  ·exact hC x hx
  ·omega
  ·injection hx with hx;omega
  ·injection hx with hx;omega
  ·exact absurd hP (bS i P)
theorem Gm{H:Hp}{n:Nat}{S:Nat→Prop}{st:Int}{w:Nw}(h:dE H n S st w):af Tryz.prog pC [ptr n] H fun v H'=>ar (
  (w.hs.length=65537∧v=i64 0∧H=H')∨
  (w.hs.length≠65537∧v=i64 w.hs.length∧∃S',dE H' n S' st w.make∧ag S H H'∧∀x,S' x→S x∨H.size≤x)):=by
 obtain⟨c,C,rv,fr,fa,ps,at_,m,l,hS⟩:=h
 obtain⟨av,ho,ha⟩:=m.own
 refine aZ Cx ?_
 refine v1 (ae ho) ?_
 refine(jG m.cells).mono ?_
 rintro _ H1 (⟨h1,rfl,rfl⟩| ⟨h1,rfl,C',c1,e1,zi⟩)
 ·refine vs ?_
  exact .inl ⟨h1,rfl,rfl⟩
 have fC:0<ps.length:=(aoq.1 l.h0).1
 have jx:=l.hl
 have o1:=e1.own ho m.nC
 refine vs ?_
 refine ai.bI (aoE (by omega)) ?_
 refine v1 (ae o1) ?_
 have FL:=m.cells.FL
 have eW:=m.slt
 have S7:=c1.slt
 have z1:=e1.size
 have e2:ag (fun _=>False) H1 (H1.new 342 [ptr n,.slice none 0 0]):=(ag.refl _ _).new _ _
 have OA:(H1.new 342 [ptr n,.slice none 0 0]).own H1.size=some [ptr n,.slice none 0 0]:=aD _ _ _
 have z2:(H1.new 342 [ptr n,.slice none 0 0]).size=H1.size+1:=by simp only[aq]
 generalize (H1.new 342 [ptr n,.slice none 0 0])=H2 at*
 have e0:ag (fun _=>False) H2 (H2.new 338 [ptr H1.size]):=(ag.refl _ _).new _ _
 have sl2:=(m.sl.ext e1 (fun b hb h=>(m.O7 b hb).1 h)).ext e2 (fun _ _ h=>h)
 have o2:=e2.own o1 (fun h=>h)
 refine Sl.append (sl2.ext e0 (fun _ _ h=>h)) (Sl.cB (size:=1) (n:=1) (xs:=[ptr H1.size]) rfl z2.symm).rd rfl (by intro v hv;simp only[aoH]at hv;subst hv;rfl) (by omega) ?_
 intro v' H3 fr' s3 e3 Ss
 have NV:ag (fun z=>fr=some z) H2 H3:=(e0.mono fun _ _ h=>h.elim).k9 e3 (fun z _ h=>h)
 have o3:=NV.own o2 (fun h=>(m.O7 n h).2.1 rfl)
 obtain⟨a',Ux,KS⟩:=cK.SE s3.rd
 subst KS
 refine v1 o3 ?_
 generalize KS:Value.slice a' (ps.length+1) Ux=v' at*
 have e4:ag (fun z=>z=n) H3 (H3.wr n [ptr c,v',av]):=(ag.refl (fun z=>z=n) _).wr (fun _=>rfl) _
 have hn:=aB ho
 have U7:∀b,fr=some b→b<H.size:=fun b hb=>eW b (.inr (.inr (.inl hb)))
 have Yf:∀b,fa=some b→b<H.size:=fun b hb=>eW b (.inr (.inr (.inr (.inl hb))))
 have NW:∀b,fr'=some b→fr=some b∨H2.size≤b:=fun b hb=>by
  rcases Ss with h| ⟨z,h,h5,_⟩
  ·exact .inl (h▸hb)
  ·rw[h]at hb;injection hb with hb;subst hb;rw[aq]at h5;exact .inr (by omega)
 have bQ:∀ (h:Nat) P,(ps++[some (⟨H1.size,none,[]⟩:Pl)])[h]? =some (some P)→ps[h]? =some (some P)∨(h=ps.length∧P=⟨H1.size,none,[]⟩):=fun h P hP=>by
  rcases ap6 h ps.length with h5|h5|h5
  ·rw[aoF h5]at hP;exact .inl hP
  ·subst h5
   rw[aoP (aoB _),apq]at hP
   simp only[ao2,aoz]at hP
   exact .inr ⟨rfl,hP.symm⟩
  ·rw[aoC (by rw[aoy,aoV];omega)]at hP
   cases hP
 have hold:∀ (h:Nat) P,ps[h]? =some (some P)→∀x,P.S x→x<H.size:=fun h P hP x hx=>eW x (.inr (.inr (.inr (.inr ⟨h,P,hP,hx⟩))))
 have ph:∀x,(⟨H1.size,none,[]⟩:Pl).S x→x=H1.size:=fun x hx=>by rcases hx with h|h;exact h;cases h
 have TZ:∀ (x:Nat) (e:Int×Int),w.cs[x]? ≠some (((ps.length:Nat):Int),e):=fun x e hx=>by
  have:=(m.cells.home _ (aow hx)).2
  simp only at this
  omega
 refine .inr ⟨h1,rfl,DH n C' fr' fa (ps++[some ⟨H1.size,none,[]⟩]),⟨c,C',v',fr',fa,ps++[some ⟨H1.size,none,[]⟩],at_,
  ⟨⟨av,ah o3,?_⟩,?_,?_,fun h P hP=>?_,fun h=>?_,fun b hb=>⟨fun h=>?_,?_,fun h=>?_⟩,fun b hb=>⟨fun h=>?_,(m.JY b hb).2⟩,fun h P hP x hx=>⟨fun h=>?_,?_,fun h=>?_,fun h=>?_⟩,fun h P hP=>?_,fun h h' P P' hP hP' aQ x hx uC=>?_⟩,
  ⟨?_,fun h=>?_,?_,fun h P hP=>?_,fun h P hP=>?_,fun h P hP x=>?_,fun h P hP=>?_,l.Mi⟩,fun z=>Iff.rfl⟩,?_,fun x hx=>?_⟩
 ·exact(((ha.ext e1 (fun b hb h=>(m.JY b hb).1 h)).ext e2 (fun _ _ h=>h)).ext NV (fun b hb h=>(m.O7 b h).2.2 hb)).ext e4 (fun b hb h=>(m.JY b hb).2 h)
 ·exact((c1.ext e2 (fun _ _ h=>h)).ext NV (fun x hx e=>by
   rcases zi x hx with h|h
   ·exact(m.O7 x e).1 h
   ·have:=U7 x e;omega)).ext e4 (fun x hx e=>by
   rcases zi x hx with h|h
   ·exact m.nC (e▸h)
   ·omega)
 ·have:=s3.ext e4 (fun b hb e=>by
   rcases NW b hb with h|h
   ·exact(m.O7 b h).2.1 e
   ·omega)
  rw[aoy,ao5]
  exact this
 ·rcases bQ h P hP with h5| ⟨rfl,rfl⟩
  ·obtain⟨sv,q1,q2⟩:=m.je h P h5
   have hd:=m.pd h P h5
   exact⟨sv,e4.own (NV.own (e2.own (e1.own q1 (hd _ (.inl rfl)).1) (fun h=>h)) (hd _ (.inl rfl)).2.2.1) (hd _ (.inl rfl)).2.1,
    (((q2.ext e1 (fun b hb=>(hd b (.inr hb)).1)).ext e2 (fun _ _ h=>h)).ext NV (fun b hb=>(hd b (.inr hb)).2.2.1)).ext e4 (fun b hb=>(hd b (.inr hb)).2.1)⟩
  ·exact⟨_,e4.own (NV.own OA (fun e=>by have:=U7 H1.size e;omega)) (fun e=>by have h9:H1.size=n:=e;omega),Sl.nil _ _⟩
 ·rcases zi n h with h|h
  ·exact m.nC h
  ·omega
 ·rcases NW b hb with h5|h5
  ·rcases zi b h with h6|h6
   ·exact(m.O7 b h5).1 h6
   ·have:=U7 b h5;omega
  ·have:=S7 b h;omega
 ·rcases NW b hb with h|h
  ·exact(m.O7 b h).2.1
  ·omega
 ·rcases NW b hb with h5|h5
  ·exact(m.O7 b h5).2.2 h
  ·have:=Yf b h;omega
 ·rcases zi b h with h6|h6
  ·exact(m.JY b hb).1 h6
  ·have:=Yf b hb;omega
 ·rcases bQ _ P hP with h5| ⟨_,rfl⟩
  ·rcases zi x h with h6|h6
   ·exact(m.pd _ P h5 x hx).1 h6
   ·have:=hold _ P h5 x hx;omega
  ·have:=ph x hx;have:=S7 x h;omega
 ·rcases bQ _ P hP with h5| ⟨_,rfl⟩
  ·exact(m.pd _ P h5 x hx).2.1
  ·have:=ph x hx;omega
 ·rcases bQ _ P hP with h5| ⟨_,rfl⟩
  ·rcases NW x h with h6|h6
   ·exact(m.pd _ P h5 x hx).2.2.1 h6
   ·have:=hold _ P h5 x hx;omega
  ·have:=ph x hx
   rcases NW x h with h6|h6
   ·have:=U7 x h6;omega
   ·omega
 ·rcases bQ _ P hP with h5| ⟨_,rfl⟩
  ·exact(m.pd _ P h5 x hx).2.2.2 h
  ·have:=ph x hx;have:=Yf x h;omega
 ·rcases bQ h P hP with h5| ⟨_,rfl⟩
  ·exact m.pr h P h5
  ·exact⟨(fun h=>by cases h),by simp⟩
 ·rcases bQ _ P hP with h5| ⟨h5,rfl⟩
  ·rcases bQ _ P' hP' with h6| ⟨h6,rfl⟩
   ·exact m.pp h h' P P' h5 h6 aQ x hx uC
   ·have:=ph x uC;have:=hold _ P h5 x hx;omega
  ·rcases bQ _ P' hP' with h6| ⟨h6,rfl⟩
   ·have:=ph x hx;have:=hold _ P' h6 x uC;omega
   ·omega
 ·simp[Nw.make,jx]
 ·show(w.hs++[true])[h]? =some true↔_
  rcases ap6 h ps.length with h5|h5|h5
  ·rw[aoF h5,aoF (by omega)]
   exact l.hs h
  ·subst h5
   rw[aoP (aoB _),aoP (by omega),apq,jx,apq]
   simp
  ·rw[aoC (by rw[aoy,aoV];omega),aoC (by rw[aoy,aoV];omega)]
   simp
 ·rw[aoF fC];exact l.h0
 ·rcases bQ h P hP with h5| ⟨rfl,rfl⟩
  ·exact l.ok h P h5
  ·exact fun j _ hj=>by simp at hj
 ·rcases bQ h P hP with h5| ⟨rfl,rfl⟩
  ·exact l.T3 h P h5
  ·exact fun i x hx=>by simp at hx
 ·rcases bQ h P hP with h5| ⟨rfl,rfl⟩
  ·exact l.mem h P h5 x
  ·simp only[List.not_mem_nil,false_iff]
   rintro⟨_,e,he⟩
   exact TZ _ _ he
 ·rcases bQ h P hP with h5| ⟨rfl,rfl⟩
  ·exact l.len h P h5
  ·show((0:Nat):Int)=w.len _
   unfold Nw.len
   rw[if_pos (by omega),ap7.2 (fun x hx=>by
    have:=(m.cells.home x hx).2
    simp only[ao0]
    omega)]
 ·exact((e1.mono fun z _ hz=>(hS z).1 (.inl hz)).trans ((e2.mono fun _ _ h=>h.elim).trans (NV.mono fun z _ hz=>(hS z).1 (.inr (.inr (.inl hz)))))).trans (e4.mono fun z _ hz=>(hS z).1 (.inr (.inl hz)))
 ·rcases hx with hx|rfl|hx|hx| ⟨i,P,hP,hx⟩
  ·rcases zi x hx with h|h
   ·exact .inl ((hS x).1 (.inl h))
   ·exact .inr h
  ·exact .inl ((hS x).1 (.inr (.inl rfl)))
  ·rcases NW x hx with h|h
   ·exact .inl ((hS x).1 (.inr (.inr (.inl h))))
   ·exact .inr (by omega)
  ·exact .inl ((hS x).1 (.inr (.inr (.inr (.inl hx)))))
  ·rcases bQ i P hP with h5| ⟨_,rfl⟩
   ·exact .inl ((hS x).1 (.inr (.inr (.inr (.inr ⟨i,P,h5,hx⟩)))))
   ·have:=ph x hx;exact .inr (by omega)
end Go.Proofs.YthpjfeolagohkaaGreat

namespace Go.Proofs.YthpjfeolagohkaaGreat
open Go Go.Vc
theorem mr.Yg{l at_ lW:List Int}(h:mr l at_)(ho:∀z∈l,0≤z→lW[z.toNat]? =at_[z.toNat]?):mr l lW:=fun i x hx=>by
 obtain⟨a,b⟩:=h i x hx
 exact⟨a,by rw[ho x (aow hx) a];exact b⟩
theorem gv{ps:List (Option Pl)}{g:Nat}{P':Pl}(hg:g<ps.length){h:Nat}{Q:Pl}(hQ:(ps.set g (some P'))[h]? =some (some Q)):(h=g∧Q=P')∨(h≠g∧ps[h]? =some (some Q)):=by
 by_cases hh:h=g
 ·subst hh
  rw[aox hg]at hQ
  simp only[aoz]at hQ
  exact .inl ⟨rfl,hQ.symm⟩
 ·rw[aov (Ne.symm hh)]at hQ
  exact .inr ⟨hh,hQ⟩
theorem Gl.apart{w:Nw}{ps:List (Option Pl)}{at_:List Int}(l:Gl w ps at_){h h':Nat}{P Q:Pl}(hP:ps[h]? =some (some P))(hQ:ps[h']? =some (some Q))(aQ:h≠h'){z:Int}(hz:z∈P.l):z∉Q.l:=fun hz'=>by
 obtain⟨_,e1,h1⟩:=(l.mem h P hP z).1 hz
 obtain⟨_,e2,h2⟩:=(l.mem h' Q hQ z).1 hz'
 rw[h1]at h2
 injection h2 with h2
 injection h2 with h2 _
 omega
theorem Gl.pos{w:Nw}{ps:List (Option Pl)}{at_:List Int}(l:Gl w ps at_){h:Nat}{P:Pl}(hP:ps[h]? =some (some P)):0<h:=by
 rcases aqb h with hi|hi
 ·subst hi;rw[l.h0]at hP;cases hP
 ·exact hi
theorem C3{H:Hp}{n:Nat}{S:Nat→Prop}{st:Int}{w:Nw}(h:dE H n S st w)(g x k s:Int):af Tryz.prog mO [ptr n,i64 g,i64 x,tu k s] H fun v H'=>ar (
  (¬ (w.has g∧(0≤x∧x<w.cs.length)∧¬cU w.cs x)∧v= .bool false∧dE H' n S st w∧ag S H H')∨
  ((w.has g∧(0≤x∧x<w.cs.length)∧¬cU w.cs x)∧v= .bool true∧∃ (S':Nat→Prop) (q:Nat),(q:Int)≤kG 2 (w.len g)∧(0<w.len g→0<q)∧dE H' n S' (min (st+q) 4611686018427387904) (w.put x (g,k,s))∧ag S H H'∧∀z,S' z→S z∨H.size≤z)):=by
 obtain⟨c,C,rv,fr,fa,ps,at_,m,l,hS⟩:=h
 refine aZ yX ?_
 refine vs ?_
 have f0:am H (H.new 182 [i64 k,u64 s]):=(ag.refl _ _).new _ _
 have b0:(H.new 182 [i64 k,u64 s]).own H.size=some [i64 k,u64 s]:=aD _ _ _
 have m0:=m.ext f0 (fun _ _ h=>h)
 generalize H.new 182 [i64 k,u64 s]=H0 at*
 obtain⟨av,IY,Sz⟩:=m0.own
 refine v2 (ae IY) (ae b0) ?_
 refine(lh m0.cells g x k s).mono ?_
 rintro _ H1 (⟨bS,rfl,c1,e1⟩| ⟨qf,rfl,c1,e1⟩)
 ·refine vs ?_
  exact .inl ⟨bS,rfl,⟨c,C,rv,fr,fa,ps,at_,m0.aH c1 e1,l,hS⟩,(f0.mono fun _ _ h=>h.elim).trans (e1.mono fun z _ hz=>(hS z).1 (.inl hz))⟩
 obtain⟨hh,⟨fL,kD⟩,bE⟩:=id qf
 obtain⟨P,hP⟩:=l.fi hh
 have h1:=hh.1
 have zy:((g.toNat:Nat):Int)=g:=by omega
 have bF:=l.mem _ P hP
 have aR:=l.len _ P hP
 rw[zy]at bF aR
 obtain⟨c0,nE⟩:∃c0,w.cs[x.toNat]? =some c0:=⟨_,aop (by omega)⟩
 have AW:¬0<c0.1:=fun h=>bE ⟨fL,c0,nE,h⟩
 have cG:(w.put x (g,k,s)).cs[x.toNat]? =some (g,k,s):=aox (by omega)
 have kO:∀y:Nat,y≠x.toNat→(w.put x (g,k,s)).cs[y]? =w.cs[y]? :=fun y hy=>aov (Ne.symm hy)
 have Qx:∀ (i:Nat) Q,ps[i]? =some (some Q)→x∉Q.l:=fun i Q hQ hm=>by
  obtain⟨_,e,he⟩:=(l.mem i Q hQ x).1 hm
  rw[nE]at he
  injection he with he
  subst he
  have:=l.pos hQ
  exact AW (by simp only;omega)
 have aQ:∀ (i:Nat) Q,ps[i]? =some (some Q)→∀y∈Q.l,0≤y∧y.toNat≠x.toNat:=fun i Q hQ y hy=>by
  have h2:=((l.mem i Q hQ y).1 hy).1
  exact⟨h2,fun e=>Qx i Q hQ (by rw[show x=y by omega];exact hy)⟩
 have Yh:∀ (i:Nat) Q,ps[i]? =some (some Q)→eI (aN (w.put x (g,k,s))) 2 Q.l:=fun i Q hQ=>
  (l.ok i Q hQ).JZ fun z hz y hy=>(gL w x _ (aQ i Q hQ z hz).2 (aQ i Q hQ y hy).2).symm
 have Gn:∀z∈P.l,cU (w.put x (g,k,s)).cs z:=fun z hz=>by
  obtain⟨z0,e,he⟩:=(bF z).1 hz
  exact⟨z0,_,by rw[kO _ (aQ _ P hP z hz).2];exact he,by simp only;omega⟩
 have Yi:cU (w.put x (g,k,s)).cs x:=⟨fL,_,cG,by simp only;omega⟩
 have hlp:(w.put x (g,k,s)).len g=w.len g+1:=by rw[Nw.fW nE g,if_neg (fun hc=>by omega),if_pos ⟨by omega,rfl⟩];omega
 have tD:=m.cells.Er
 have jx:P.l.length<65536:=by
  have:=((w.put x (g,k,s)).zf g).2
  have h5:(w.put x (g,k,s)).cs.length=w.cs.length:=aot ..
  omega
 have m1:=m0.aH c1 e1
 obtain⟨av1,Qw,_⟩:=m1.own
 obtain⟨f,cc,lb,rfl,rfl,hf,U6,dq⟩:=m1.atp hP
 refine v1 (ae Qw) ?_
 refine⟨by omega,?_⟩
 simp(disch:=(first|omega| (simp only[Zs]<;>omega)|fail)) only[go_sem, ↓reduceIte,Zv,ae hf,aos,U6,T0]
 refine(Gk (m1.NU hP) (l.T3 _ P hP) jx ⟨fL,by rw[l.Mi];omega⟩ (Qx _ P hP) Yi Gn (Yh _ P hP)).mono ?_
 rintro _ H2 ⟨rfl,dT,l',lW,q,pm,agn,fy,aca,aiy,ago,agp,hq,Wl,e2,iN⟩
 refine vs ?_
 have z0:=f0.size
 have z1:=e1.size
 have hT:∀z,(C z∨P.fp=some z∨fa=some z∨z=P.r)→C z∨P.S z∨fa=some z:=fun z hz=>by
  rcases hz with hz|hz|hz|hz
  ·exact .inl hz
  ·exact .inr (.inl (.inr hz))
  ·exact .inr (.inr hz)
  ·exact .inr (.inl (.inl hz))
 have rG:∀z,(C z∨P.fp=some z∨fa=some z∨z=P.r)→S z:=fun z hz=>(hS z).1 (by
  rcases hT z hz with hz|hz|hz
  ·exact .inl hz
  ·exact .inr (.inr (.inr (.inr ⟨_,P,hP,hz⟩)))
  ·exact .inr (.inr (.inr (.inl hz))))
 refine .inr ⟨qf,rfl,DH n C (some f) fa (ps.set g.toNat (some ⟨P.r,dT,l'⟩)),q,by rw[←aR];exact Int.ofNat_le.2 hq,fun h=>Wl (by omega),
  ⟨c,C,_,some f,fa,_,lW,m1.J2 hP (P':=⟨P.r,dT,l'⟩) rfl pm iN e2 hT,
   ⟨by rw[aot];exact l.hl,fun h=>?_,?_,fun h Q hQ=>?_,fun h Q hQ=>?_,fun h Q hQ y=>?_,fun h Q hQ=>?_,?_⟩,fun z=>Iff.rfl⟩,?_,fun z hz=>?_⟩
 ·show w.hs[h]? =some true↔_
  rw[l.hs h]
  by_cases Mj:h=g.toNat
  ·subst Mj
   rw[aox dq]
   exact⟨fun _=>⟨_,rfl⟩,fun _=>⟨P,hP⟩⟩
  ·rw[aov (Ne.symm Mj)]
 ·rw[aov (by omega)];exact l.h0
 ·rcases gv dq hQ with ⟨rfl,rfl⟩| ⟨h5,h6⟩
  ·exact fy
  ·exact Yh h Q h6
 ·rcases gv dq hQ with ⟨rfl,rfl⟩| ⟨h5,h6⟩
  ·exact agn
  ·exact(l.T3 h Q h6).Yg fun z hz z0=>agp z z0 (fun e=>Qx h Q h6 (e▸hz)) (l.apart h6 hP h5 hz)
 ·rcases gv dq hQ with ⟨rfl,rfl⟩| ⟨h5,h6⟩
  ·rw[zy]
   show y∈l'↔_
   rw[aca y]
   constructor
   ·rintro(rfl|hy)
    ·exact⟨fL,_,cG⟩
    ·obtain⟨y0,e,he⟩:=(bF y).1 hy
     exact⟨y0,e,by rw[kO _ (aQ _ P hP y hy).2];exact he⟩
   ·rintro⟨y0,e,he⟩
    by_cases nM:y.toNat=x.toNat
    ·exact .inl (by omega)
    ·rw[kO _ nM]at he
     exact .inr ((bF y).2 ⟨y0,e,he⟩)
  ·rw[l.mem h Q h6 y]
   by_cases nM:y.toNat=x.toNat
   ·rw[nM,cG,nE]
    constructor
    ·rintro⟨y0,e,he⟩
     injection he with he
     subst he
     have:=l.pos h6
     exact absurd (show(0:Int)< ((h:Nat):Int) by omega) AW
    ·rintro⟨y0,e,he⟩
     injection he with he
     injection he with Yj he2
     omega
   ·rw[kO _ nM]
 ·rcases gv dq hQ with ⟨rfl,rfl⟩| ⟨h5,h6⟩
  ·rw[zy,hlp]
   show(l'.length:Int)=_
   omega
  ·rw[l.len h Q h6,Nw.fW nE h,if_neg (fun hc=>by omega),if_neg (fun hc=>by omega)]
   omega
 ·rw[ago,l.Mi];exact(aot ..).symm
 ·exact(f0.mono fun _ _ h=>h.elim).trans ((e1.mono fun z _ hz=>rG z (.inl hz)).trans (e2.mono fun z _ hz=>rG z hz))
 ·rcases hz with hz|rfl|hz|hz| ⟨i,Q,hQ,hz⟩
  ·exact .inl (rG z (.inl hz))
  ·exact .inl ((hS z).1 (.inr (.inl rfl)))
  ·exact .inl ((hS z).1 (.inr (.inr (.inl hz))))
  ·exact .inl (rG z (.inr (.inr (.inl hz))))
  ·rcases gv dq hQ with ⟨rfl,rfl⟩| ⟨h5,h6⟩
   ·rcases hz with rfl|hz
    ·exact .inl (rG _ (.inr (.inr (.inr rfl))))
    ·rcases iN with h| ⟨y,h,h7⟩
     ·exact .inl (rG z (.inr (.inl (h▸hz))))
     ·simp only at hz
      rw[h]at hz;injection hz with hz;exact .inr (by omega)
   ·exact .inl ((hS z).1 (.inr (.inr (.inr (.inr ⟨i,Q,h6,hz⟩)))))
theorem xx{H:Hp}{n:Nat}{S:Nat→Prop}{st:Int}{w:Nw}(h:dE H n S st w)(g:Int):af Tryz.prog rX [ptr n,i64 g] H fun v H'=>ar (
  ((w.len g=0∧v= .tuple [i64 0,.bool false].toArray)∨∃x,w.first g x∧v= .tuple [i64 x,.bool true].toArray)∧H=H'):=by
 obtain⟨c,C,rv,fr,fa,ps,at_,m,l,hS⟩:=h
 obtain⟨av,ho,ha⟩:=m.own
 refine aZ Ea ?_
 refine v1 (ae ho) ?_
 refine(sj m.cells g).mono ?_
 rintro _ _ ⟨rfl,rfl⟩
 refine vs ?_
 refine ai.dec (fun h0=>?_) (fun h0=>?_)
 ·refine vs ?_
  exact⟨.inl ⟨h0,rfl⟩,rfl⟩
 have hg:0<g:=by
  by_cases hg:0<g
  ·exact hg
  ·exact absurd (Nw.HQ.2 (.inl (by omega))) h0
 have agq:w.has g:=by
  refine⟨by omega,?_⟩
  by_cases hx:w.hs[g.toNat]? =some true
  ·exact hx
  ·refine absurd (Nw.HQ.2 (.inr fun i c hc e=>hx ?_)) h0
   have:=m.cells.live c (aow hc) (by omega)
   rwa[e]at this
 obtain⟨P,hP⟩:=l.fi agq
 have zy:((g.toNat:Nat):Int)=g:=by omega
 have bF:=l.mem _ P hP
 have aR:=l.len _ P hP
 rw[zy]at bF aR
 have jx:=(w.zf g).1
 obtain⟨f,cc,lb,rfl,rfl,hf,U6,dq⟩:=m.atp hP
 obtain⟨sv,hr,hs⟩:=m.je _ P hP
 obtain⟨x,hx⟩:∃x,P.l[0]? =some x:=⟨_,aop (by omega)⟩
 obtain⟨b,c2,l2,rfl,fU,hb,lV,_,Dt⟩:=Sl.at_ hs (i:=0) (x:=i64 x) (by simp[hx])
 refine v1 (ae ho) ?_
 refine⟨by omega,?_⟩
 simp(disch:=(first|omega| (simp only[Zs]<;>omega)|fail)) only[go_sem, ↓reduceIte,Zv,ae hf,aos,U6,T0,ae hr]
 refine⟨by omega,?_⟩
 refine v2 (ae hb) (show l2[Int.toNat 0*1]? =some (i64 x)from lV) ?_
 have hxP:=aow hx
 obtain⟨fL,e,he⟩:=(bF x).1 hxP
 refine⟨.inr ⟨x,⟨hg,fL,⟨e,he⟩,fun y hy ⟨e',kY⟩ aQ=>?_⟩,rfl⟩,rfl⟩
 have hyP:=(bF y).2 ⟨hy,e',kY⟩
 obtain⟨j,hj⟩:=aoN hyP
 have hjl:=(aoq.1 hj).1
 have h5:=F5 (ap w) dL (l.ok _ P hP) j j (aoB _) hjl
 rw[rH hj,rH hx]at h5
 rcases(ap w).OQ x y (Ne.symm aQ)with h6|h6
 ·exact h6
 ·rw[h5]at h6;cases h6
theorem C4{H:Hp}{n:Nat}{S:Nat→Prop}{st:Int}{w:Nw}(h:dE H n S st w)(x:Int):af Tryz.prog yq [ptr n,i64 x] H fun v H'=>ar (
  (¬cU w.cs x∧v= .bool false∧H=H')∨
  (cU w.cs x∧v= .bool true∧∃ (c0:Ce) (q:Nat),w.cs[x.toNat]? =some c0∧q≤2*kG 2 (w.len c0.1 - 1)∧∃S',dE H' n S' (min (st+q) 4611686018427387904) (w.put x (0,0,0))∧ag S H H'∧∀z,S' z→S z∨H.size≤z)):=by
 obtain⟨c,C,rv,fr,fa,ps,at_,m,l,hS⟩:=h
 obtain⟨av,ho,ha⟩:=m.own
 refine aZ yW ?_
 refine v1 (ae ho) ?_
 refine(eB m.cells x).mono ?_
 rintro _ H1 (⟨bS,rfl,rfl⟩| ⟨bE,c0,nE,rfl,c1,e1⟩)
 ·refine vs ?_
  exact .inl ⟨bS,rfl,rfl⟩
 obtain⟨fL,c0',J3,fC⟩:=id bE
 rw[nE]at J3
 injection J3 with J3
 subst J3
 obtain⟨P,hP⟩:=(l.hs c0.1.toNat).1 (m.cells.live _ (aow nE) fC)
 have zy:((c0.1.toNat:Nat):Int)=c0.1:=by omega
 have bF:=l.mem _ P hP
 have aR:=l.len _ P hP
 rw[zy]at bF aR
 have cG:(w.put x (0,0,0)).cs[x.toNat]? =some (0,0,0):=aox (aoq.1 nE).1
 have kO:∀y:Nat,y≠x.toNat→(w.put x (0,0,0)).cs[y]? =w.cs[y]? :=fun y hy=>aov (Ne.symm hy)
 have m1:=m.aH c1 e1
 obtain⟨av1,Qw,V9⟩:=m1.own
 have hxP:x∈P.l:=(bF x).2 ⟨fL,c0.2,nE⟩
 have Gn:∀z∈P.l,cU w.cs z:=fun z hz=>by
  obtain⟨z0,e,he⟩:=(bF z).1 hz
  exact⟨z0,_,he,fC⟩
 obtain⟨i,hi⟩:=aoN hxP
 have qw:=(aoq.1 hi).1
 obtain⟨_,ZE⟩:=l.T3 _ P hP i x hi
 obtain⟨f,cc,lb,rfl,rfl,hf,U6,dq⟩:=m1.atp hP
 obtain⟨fa',ac,la,rfl,hfa,Yk,Yl,_,_⟩:=Sl.at_ V9 (i:=x.toNat) (x:=i64 i) (by simp[ZE])
 have Yd:=(aoq.1 ZE).1
 refine v1 (ae Qw) ?_
 refine⟨by omega,?_⟩
 simp(disch:=(first|omega| (simp only[Zs]<;>omega)|fail)) only[go_sem, ↓reduceIte,Zv,ae hf,aos,U6,T0,ae Qw]
 refine⟨by omega,?_⟩
 refine v3 (ae Yk) aos Yl ?_
 refine(C2 (m1.NU hP) (l.T3 _ P hP) qw Gn (l.ok _ P hP)).mono ?_
 rintro _ H2 ⟨l',lW,q,o,hq⟩
 rw[rH hi]at o
 have hT:∀z,(C z∨P.fp=some z∨fa=some z∨z=P.r)→C z∨P.S z∨fa=some z:=fun z hz=>by
  rcases hz with hz|hz|hz|hz
  ·exact .inl hz
  ·exact .inr (.inl (.inr hz))
  ·exact .inr (.inr hz)
  ·exact .inr (.inl (.inl hz))
 have rG:∀z,(C z∨P.fp=some z∨fa=some z∨z=P.r)→S z:=fun z hz=>(hS z).1 (by
  rcases hT z hz with hz|hz|hz
  ·exact .inl hz
  ·exact .inr (.inr (.inr (.inr ⟨_,P,hP,hz⟩)))
  ·exact .inr (.inr (.inr (.inl hz))))
 have m2:=m1.J2 hP (P':=⟨P.r,P.fp,l'⟩) rfl o.je (.inl rfl) o.ext hT
 obtain⟨av2,ho2,_⟩:=m2.own
 refine v1 (ae ho2) ?_
 refine(jH m2.cells x).mono ?_
 rintro _ H3 (⟨bS,_,_⟩| ⟨_,rfl,c3,e3⟩)
 ·exact absurd bE bS
 refine vs ?_
 have m3:=m2.aH c3 e3
 have aQ:∀ (h:Nat) Q,h≠c0.1.toNat→ps[h]? =some (some Q)→∀y∈Q.l,y.toNat≠x.toNat:=fun h Q hh hQ y hy e=>by
  obtain⟨y0,e',he⟩:=(l.mem h Q hQ y).1 hy
  rw[e,nE]at he
  injection he with he
  rw[he]at hh
  simp only[Int.toNat_natCast]at hh
  exact hh rfl
 have NX:∀y∈l',y.toNat≠x.toNat:=fun y hy e=>by
  obtain⟨h1,h2⟩:=(o.mem y).1 hy
  have:=((bF y).1 h1).1
  omega
 refine .inr ⟨bE,rfl,c0,q,nE,by rw[←aR];exact hq,DH n C (some f) fa (ps.set c0.1.toNat (some ⟨P.r,P.fp,l'⟩)),
  ⟨c,C,_,some f,fa,_,lW,m3,⟨by rw[aot];exact l.hl,fun h=>?_,?_,fun h Q hQ=>?_,fun h Q hQ=>?_,fun h Q hQ y=>?_,fun h Q hQ=>?_,?_⟩,fun z=>Iff.rfl⟩,?_,fun z hz=>?_⟩
 ·show w.hs[h]? =some true↔_
  rw[l.hs h]
  by_cases Mj:h=c0.1.toNat
  ·subst Mj
   rw[aox dq]
   exact⟨fun _=>⟨_,rfl⟩,fun _=>⟨P,hP⟩⟩
  ·rw[aov (Ne.symm Mj)]
 ·rw[aov (by omega)];exact l.h0
 ·rcases gv dq hQ with ⟨rfl,rfl⟩| ⟨h5,h6⟩
  ·exact o.heap.JZ fun z hz y hy=>(gL w x _ (NX z hz) (NX y hy)).symm
  ·exact(l.ok h Q h6).JZ fun z hz y hy=>(gL w x _ (aQ h Q h5 h6 z hz) (aQ h Q h5 h6 y hy)).symm
 ·rcases gv dq hQ with ⟨rfl,rfl⟩| ⟨h5,h6⟩
  ·exact o.ok
  ·exact(l.T3 h Q h6).Yg fun z hz z0=>o.off z z0 (l.apart h6 hP h5 hz)
 ·by_cases nM:y.toNat=x.toNat
  ·rw[nM,cG]
   have h0:=gv dq hQ
   constructor
   ·intro hy
    rcases h0 with ⟨rfl,rfl⟩| ⟨h5,h6⟩
    ·exact absurd nM (NX y hy)
    ·exact absurd nM (aQ h Q h5 h6 y hy)
   ·rintro⟨_,e,he⟩
    injection he with he
    injection he with Yj _
    rcases h0 with ⟨rfl,rfl⟩| ⟨h5,h6⟩
    ·omega
    ·have:=l.pos h6;omega
  ·rw[kO _ nM]
   rcases gv dq hQ with ⟨rfl,rfl⟩| ⟨h5,h6⟩
   ·rw[zy]
    show y∈l'↔_
    rw[o.mem y,bF y]
    constructor
    ·exact fun h=>h.1
    ·exact fun h=>⟨h,fun e=>nM (by rw[e])⟩
   ·exact l.mem h Q h6 y
 ·rcases gv dq hQ with ⟨rfl,rfl⟩| ⟨h5,h6⟩
  ·rw[zy,Nw.fW nE c0.1,if_pos ⟨fC,rfl⟩,if_neg (fun hc=>by omega)]
   show(l'.length:Int)=_
   have:=o.len
   omega
  ·have:=l.pos h6
   rw[l.len h Q h6,Nw.fW nE h,if_neg (fun hc=>by omega),if_neg (fun hc=>by omega)]
   omega
 ·rw[o.Mi,l.Mi];exact(aot ..).symm
 ·exact(e1.mono fun z _ hz=>rG z (.inl hz)).trans ((o.ext.mono fun z _ hz=>rG z hz).trans (e3.mono fun z _ hz=>rG z (.inl hz)))
 ·rcases hz with hz|rfl|hz|hz| ⟨i,Q,hQ,hz⟩
  ·exact .inl (rG z (.inl hz))
  ·exact .inl ((hS z).1 (.inr (.inl rfl)))
  ·exact .inl ((hS z).1 (.inr (.inr (.inl hz))))
  ·exact .inl (rG z (.inr (.inr (.inl hz))))
  ·rcases gv dq hQ with ⟨rfl,rfl⟩| ⟨h5,h6⟩
   ·rcases hz with rfl|hz
    ·exact .inl (rG _ (.inr (.inr (.inr rfl))))
    ·exact .inl (rG z (.inr (.inl hz)))
   ·exact .inl ((hS z).1 (.inr (.inr (.inr (.inr ⟨i,Q,h6,hz⟩)))))
theorem Bl{H:Hp}{n:Nat}{S:Nat→Prop}{st:Int}{w:Nw}(h:dE H n S st w)(g:Int):af Tryz.prog lK [ptr n,i64 g] H fun v H'=>ar (
  (w.len g=0∧v= .tuple [i64 0,.bool false].toArray∧H=H')∨
  (∃x,w.first g x∧v= .tuple [i64 x,.bool true].toArray∧∃q:Nat,q≤2*kG 2 (w.len g - 1)∧∃S',dE H' n S' (min (st+q) 4611686018427387904) (w.put x (0,0,0))∧ag S H H'∧∀z,S' z→S z∨H.size≤z)):=by
 refine aZ wU ?_
 refine vs ?_
 refine(xx h g).mono ?_
 rintro _ _ ⟨⟨h0,rfl⟩| ⟨x,hx,rfl⟩,rfl⟩
 ·refine vs ?_
  exact .inl ⟨h0,rfl,rfl⟩
 ·refine vs ?_
  refine(C4 h x).mono ?_
  rintro _ H1 (⟨bS,_,_⟩| ⟨_,rfl,c0,q,nE,hq,S',d1,e1,ZP⟩)
  ·exact absurd hx.MH bS
  refine vs ?_
  obtain⟨e,kY⟩:=hx.2.2.1
  rw[nE]at kY
  injection kY with kY
  subst kY
  exact .inr ⟨x,hx,rfl,q,hq,S',d1,e1,ZP⟩
theorem zj{H:Hp}{n:Nat}{S:Nat→Prop}{st:Int}{w:Nw}(h:dE H n S st w)(x k s:Int):af Tryz.prog ke [ptr n,i64 x,tu k s] H fun v H'=>ar (
  (¬ (cU w.cs x∧∀y,w.cs[x.toNat]? =some y→¬fN y.2.1 y.2.2 k s)∧v= .bool false∧dE H' n S st w∧am H H')∨
  (cU w.cs x∧∃y,w.cs[x.toNat]? =some y∧¬fN y.2.1 y.2.2 k s∧v= .bool true∧∃q:Nat,q≤2*kG 2 (w.len y.1 - 1)∧∃S',dE H' n S' (min (st+q) 4611686018427387904) (w.put x (y.1,k,s))∧ag S H H'∧∀z,S' z→S z∨H.size≤z)):=by
 obtain⟨c,C,rv,fr,fa,ps,at_,m,l,hS⟩:=h
 refine aZ us ?_
 refine vs ?_
 have f0:am H (H.new 182 [i64 k,u64 s]):=(ag.refl _ _).new _ _
 have b0:(H.new 182 [i64 k,u64 s]).own H.size=some [i64 k,u64 s]:=aD _ _ _
 have m0:=m.ext f0 (fun _ _ h=>h)
 generalize H.new 182 [i64 k,u64 s]=H0 at*
 obtain⟨av,IY,Sz⟩:=m0.own
 refine v2 (ae IY) (ae b0) ?_
 refine(iQ m0.cells x k s).mono ?_
 rintro _ H1 (⟨bS,rfl,c1,e1⟩| ⟨bE,rfl,y,hy,fz,c1,e1⟩)
 ·refine vs ?_
  exact .inl ⟨bS,rfl,⟨c,C,rv,fr,fa,ps,at_,m0.ext e1 (fun _ _ h=>h),l,hS⟩,f0.trans e1⟩
 have m1:=m0.aH c1 e1
 obtain⟨av1,Qw,V9⟩:=m1.own
 refine v1 (ae Qw) ?_
 obtain⟨fL,y',MI,fC⟩:=id bE
 rw[hy]at MI
 injection MI with MI
 subst MI
 have cG:(w.put x (y.1,k,s)).cs[x.toNat]? =some (y.1,k,s):=aox (aoq.1 hy).1
 have kO:∀z:Nat,z≠x.toNat→(w.put x (y.1,k,s)).cs[z]? =w.cs[z]? :=fun z hz=>aov (Ne.symm hz)
 have J1:cU (w.put x (y.1,k,s)).cs x:=⟨fL,_,cG,fC⟩
 refine(eB c1 x).mono ?_
 rintro _ H2 (⟨bS,_,_⟩| ⟨_,y2,vF,rfl,c2,e2⟩)
 ·exact absurd J1 bS
 rw[cG]at vF
 injection vF with vF
 subst vF
 have m2:=m1.aH c2 e2
 obtain⟨av2,ho2,ha2⟩:=m2.own
 obtain⟨P,hP⟩:=(l.hs y.1.toNat).1 (m.cells.live _ (aow hy) fC)
 have zy:((y.1.toNat:Nat):Int)=y.1:=by omega
 have Mk:∀ (h:Nat) Q,ps[h]? =some (some Q)→∀z:Int,z∈Q.l↔0≤z∧∃e,(w.put x (y.1,k,s)).cs[z.toNat]? =some (((h:Nat):Int),e):=fun h Q hQ z=>by
  rw[l.mem h Q hQ z]
  by_cases U8:z.toNat=x.toNat
  ·rw[U8,cG,hy]
   constructor
   ·rintro⟨z0,e,he⟩
    injection he with he
    exact⟨z0,(k,s),by rw[he]⟩
   ·rintro⟨z0,e,he⟩
    injection he with he
    injection he with Yj _
    exact⟨z0,y.2,by rw[←Yj]⟩
  ·rw[kO _ U8]
 have bF:=Mk _ P hP
 have aR:=l.len _ P hP
 rw[zy]at bF aR
 have hxP:x∈P.l:=(bF x).2 ⟨fL,_,cG⟩
 have Gn:∀z∈P.l,cU (w.put x (y.1,k,s)).cs z:=fun z hz=>by
  obtain⟨z0,e,he⟩:=(bF z).1 hz
  exact⟨z0,_,he,fC⟩
 obtain⟨i,hi⟩:=aoN hxP
 have qw:=(aoq.1 hi).1
 obtain⟨_,ZE⟩:=l.T3 _ P hP i x hi
 have Yd:=(aoq.1 ZE).1
 obtain⟨f,cc,lb,rfl,rfl,hf,U6,dq⟩:=m2.atp hP
 obtain⟨fa',ac,la,rfl,hfa,Yk,Yl,_,_⟩:=Sl.at_ ha2 (i:=x.toNat) (x:=i64 i) (by simp[ZE])
 have IB:∀j,j<P.l.length→j≠i→(P.l.getD j 0).toNat≠x.toNat:=fun j hj aQ e=>by
  have hgj:P.l[j]? =some (P.l.getD j 0):=by rw[aou,aop hj];rfl
  have h0:=((bF _).1 (aow hgj)).1
  rw[show P.l.getD j 0=x by omega]at hgj
  exact aQ ((l.T3 _ P hP).F3 hgj hi)
 have hA:dG (aN (w.put x (y.1,k,s))) 2 P.l i:=by
  have hb:=(l.ok _ P hP).but (ap w) dL i
  refine⟨fun j h1 h2 h3 h4=>?_,fun j h1 h2 h3 h4=>?_⟩
  ·have:=cH dL h1
   rw[gL w x _ (IB j h2 h3) (IB _ (by omega) h4)]
   exact hb.1 j h1 h2 h3 h4
  ·have:=cH dL h1
   have:=cH dL h4
   rw[gL w x _ (IB j h2 (by omega)) (IB _ (by omega) (by omega))]
   exact hb.2 j h1 h2 h3 h4
 refine v1 (ae ho2) ?_
 refine⟨by omega,?_⟩
 simp(disch:=(first|omega| (simp only[Zs]<;>omega)|fail)) only[go_sem, ↓reduceIte,Zv,ae hf,aos,U6,T0,ae ho2]
 refine⟨by omega,?_⟩
 refine v3 (ae Yk) aos Yl ?_
 refine(HW (m2.NU hP) (l.T3 _ P hP) qw Gn hA).mono ?_
 rintro _ H3 ⟨rfl,l',lW,q,o,fy,hq⟩
 refine vs ?_
 have oZ:=e1.trans e2
 have hT:∀z,(C z∨P.fp=some z∨fa=some z)→C z∨P.S z∨fa=some z:=fun z hz=>by
  rcases hz with hz|hz|hz
  ·exact .inl hz
  ·exact .inr (.inl (.inr hz))
  ·exact .inr (.inr hz)
 have rG:∀z,(C z∨P.fp=some z∨fa=some z)→S z:=fun z hz=>(hS z).1 (by
  rcases hT z hz with hz|hz|hz
  ·exact .inl hz
  ·exact .inr (.inr (.inr (.inr ⟨_,P,hP,hz⟩)))
  ·exact .inr (.inr (.inr (.inl hz))))
 have aQ:∀ (h:Nat) Q,h≠y.1.toNat→ps[h]? =some (some Q)→∀z∈Q.l,z.toNat≠x.toNat:=fun h Q hh hQ z hz e=>by
  obtain⟨z0,e',he⟩:=(l.mem h Q hQ z).1 hz
  rw[e,hy]at he
  injection he with he
  rw[he]at hh
  simp only[Int.toNat_natCast]at hh
  exact hh rfl
 have TT:∀h:Int,(w.put x (y.1,k,s)).len h=w.len h:=fun h=>by
  rw[Nw.fW hy h]
  simp only
  split<;>omega
 have hol:=o.len
 refine .inr ⟨bE,y,hy,fz,rfl,q,by rw[←aR];exact hq,DH n C (some f) fa (ps.set y.1.toNat (some ⟨P.r,P.fp,l'⟩)),
  ⟨c,C,_,some f,fa,_,lW,m2.J2 hP (P':=⟨P.r,P.fp,l'⟩) rfl o.je (.inl rfl) o.ext hT,
   ⟨by rw[aot];exact l.hl,fun h=>?_,?_,fun h Q hQ=>?_,fun h Q hQ=>?_,fun h Q hQ z=>?_,fun h Q hQ=>?_,?_⟩,fun z=>Iff.rfl⟩,?_,fun z hz=>?_⟩
 ·show w.hs[h]? =some true↔_
  rw[l.hs h]
  by_cases Mj:h=y.1.toNat
  ·subst Mj
   rw[aox dq]
   exact⟨fun _=>⟨_,rfl⟩,fun _=>⟨P,hP⟩⟩
  ·rw[aov (Ne.symm Mj)]
 ·rw[aov (by omega)];exact l.h0
 ·rcases gv dq hQ with ⟨rfl,rfl⟩| ⟨h5,h6⟩
  ·exact fy
  ·exact(l.ok h Q h6).JZ fun z hz v hv=>(gL w x _ (aQ h Q h5 h6 z hz) (aQ h Q h5 h6 v hv)).symm
 ·rcases gv dq hQ with ⟨rfl,rfl⟩| ⟨h5,h6⟩
  ·exact o.ok
  ·exact(l.T3 h Q h6).Yg fun z hz z0=>o.off z z0 (l.apart h6 hP h5 hz)
 ·rcases gv dq hQ with ⟨rfl,rfl⟩| ⟨h5,h6⟩
  ·rw[zy]
   show z∈l'↔_
   rw[o.mem z,bF z]
  ·exact Mk h Q h6 z
 ·rw[TT]
  rcases gv dq hQ with ⟨rfl,rfl⟩| ⟨h5,h6⟩
  ·rw[zy]
   show(l'.length:Int)=_
   omega
  ·exact l.len h Q h6
 ·rw[o.Mi,l.Mi];exact(aot ..).symm
 ·exact(f0.mono fun _ _ h=>h.elim).trans ((oZ.mono fun z _ hz=>rG z (.inl hz)).trans (o.ext.mono fun z _ hz=>rG z hz))
 ·rcases hz with hz|rfl|hz|hz| ⟨j,Q,hQ,hz⟩
  ·exact .inl (rG z (.inl hz))
  ·exact .inl ((hS z).1 (.inr (.inl rfl)))
  ·exact .inl ((hS z).1 (.inr (.inr (.inl hz))))
  ·exact .inl (rG z (.inr (.inr hz)))
  ·rcases gv dq hQ with ⟨rfl,rfl⟩| ⟨h5,h6⟩
   ·rcases hz with rfl|hz
    ·exact .inl ((hS _).1 (.inr (.inr (.inr (.inr ⟨_,P,hP,.inl rfl⟩)))))
    ·exact .inl (rG z (.inr (.inl hz)))
   ·exact .inl ((hS z).1 (.inr (.inr (.inr (.inr ⟨j,Q,h6,hz⟩)))))
theorem C5{ov:Value}{I:Hp→Nat→Prop}{T:Nat→Prop}{lt:Int→Int→Bool}{D:Int→Prop}(ho:NJ ov I T lt D){H:Hp}{r:Nat}{S:Nat→Prop}{d:Int}{l:List Int}{pl:Int→Option Int}
  (h:di H r S d l pl)(hd:∀x,S x→¬T x){n:Nat}(hI:I H n)(hf:cQ d)(x:Int)(hl:l.length≤1000000)(hp:CP l pl)(hD:∀z∈l,D z:=by intros;trivial):
  af Tryz.prog Ah [ptr r,ov,i64 x] H fun v H'=>ar (
   (pl x=none∧v= .bool false∧H=H')∨
   (∃i,pl x=some i∧v= .bool true∧di H' r S d (cO lt d x l pl i).1 (cO lt d x l pl i).2.1∧I H' (n+(cO lt d x l pl i).2.2)∧ag (fun z=>S z∨T z) H H')):=by
 obtain⟨⟨sv,fp,mb,a1,a2,a3,s1,s2,s3,s4⟩,h2⟩:=id h
 have key:gH true (Value.int .i64 0) ((pl x).map i64)= .tuple [i64 ((pl x).getD 0),.bool (pl x).isSome].toArray:=by cases pl x<;>rfl
 refine aZ AD ?_
 refine v3 (ae a1) a3.look key ?_
 cases hx:pl x with
 |none=>
  simp(disch:=(first|omega| (simp only[Zs]<;>omega)|fail)) only[go_sem, ↓reduceIte,Zv,Option.isSome_none]
  exact .inl ⟨rfl,rfl,rfl⟩
 |some i=>
  obtain⟨i0,Ym⟩:=(hp x i).1 hx
  have qw:i.toNat<l.length:=(aoq.1 Ym).1
  obtain⟨f,rfl⟩:∃f,fp=some f:=by
   cases fp with
   |none=>obtain⟨_,e,_⟩:=a2;omega
   |some f=>exact⟨f,rfl⟩
  have XE:=a2
  obtain⟨_,l1,c,rfl,g2,a5,a6,a7⟩:=XE
  have g3:∀ (i:Nat) (x:Int),l[i]? =some x→l1[i]? =some (i64 x):=fun i x h=>by
   have aK:=(aoq.1 h).1
   have h1:(l.map i64)[i]? =some (i64 x):=by simp[h]
   rw[←a7,aoT (by omega)]at h1
   exact h1
  have eT:l[l.length - 1]? =some (l.getD (l.length - 1) 0):=by
   rw[aou,aop (by omega)];rfl
  have Yn:=g3 _ _ eT
  have e1:IntKind.i64.wrap ((l.length:Int) - 1)=((l.length - 1:Nat):Int):=by rw[wrap64 (by omega) (by omega)];omega
  simp(disch:=(first|omega| (simp only[Zs]<;>omega)|fail)) only[go_sem, ↓reduceIte,Zv,Option.isSome_some,Option.getD_some,ae a1,e1,Int.toNat_natCast]
  refine⟨by omega,?_⟩
  refine v5 (ae g2) (ae a1) aos Yn e1 ?_
  refine⟨by omega,?_⟩
  obtain⟨FU,qv,Q9⟩:=s4 f rfl
  have IL:Value.slice (if(c:Int)=((0:Nat):Int)then some (⟨f,0,none⟩:Addr)else Option.map (fun(x:Addr)=>x.add (((0:Nat):Int).toNat*1)) (some (⟨f,0,none⟩:Addr))) (((l.length - 1:Nat):Int).toNat - ((0:Nat):Int).toNat) ((c:Int).toNat - ((0:Nat):Int).toNat)= .slice (some ⟨f,0,none⟩) (l.length - 1) c:=by
   split<;>rfl
  refine v2 (ae a1) a1 ?_
  rw[IL]
  have ew:ag (fun z=>z=r) H (H.wr r [i64 d,.slice (some ⟨f,0,none⟩) (l.length - 1) c,.map (some mb)]):=(ag.refl (fun z=>z=r) _).wr (fun _=>rfl) _
  have b1:(H.wr r [i64 d,.slice (some ⟨f,0,none⟩) (l.length - 1) c,.map (some mb)]).own r=some [i64 d,.slice (some ⟨f,0,none⟩) (l.length - 1) c,.map (some mb)]:=ah a1
  have b3:=a3.ext ew (Ne.symm s3)
  refine v1 (ae b1) ?_
  refine b3.del fun H2 m2 e2=>?_
  rw[LS]at m2
  have e02:ag S H H2:=(ew.mono fun z _ hz=>hz▸s1).trans (e2.mono fun z _ hz=>hz▸s2)
  have hr:di H2 r S d l.dropLast (rz pl x):=by
   refine⟨⟨.slice (some ⟨f,0,none⟩) (l.length - 1) c,some f,mb,e2.own b1 s3,⟨by simp,l1,c,by rw[ao1],(e2.own ((ew.own g2 qv)) Q9),by rw[ao1];omega,a6,?_⟩,m2,s1,s2,s3,s4⟩,
    fun z hz=>aoO (h2 z hz) e02.size⟩
   have hx7:((l.map i64).length)=l.length:=by simp
   rw[ao1,List.map_dropLast,ap2,hx7,←a7,aqu]
   congr 1
   omega
  have Ra:=ho.aG _ _ _ _ hI e02 (fun z hz hs=>hd z hs hz)
  refine vs ?_
  have jx:l.dropLast.length=l.length - 1:=ao1
  refine ai.dec (fun he=>?_) (fun he=>?_)<;>refine vs ?_
  ·refine .inr ⟨i,rfl,rfl,?_,?_,e02.mono fun z _ hz=>.inl hz⟩
   ·unfold cO;rw[if_pos he];exact hr
   ·unfold cO;rw[if_pos he];exact Ra
  ·have S8:l.getD (l.length - 1) 0∈l:=aow eT
   have jB:i.toNat≠l.length - 1:=fun e=>by rw[e,eT]at Ym;injection Ym with Ym;exact he Ym
   refine(rA ho hr hd Ra i (l.getD (l.length - 1) 0) ⟨i0,by omega⟩ (by omega) (hD _ S8) (fun z hz=>hD z ((aqv _).subset hz))).mono ?_
   rintro _ H3 ⟨rfl,r3,i3,e3⟩
   have NV:=(e02.mono fun z _ hz=>Or.inl hz).trans e3
   refine vs ?_
   refine ai.dec (fun ma=>?_) (fun ma=>?_)<;>refine vs ?_
   ·have hul:=vu lt d (l.getD (l.length - 1) 0) i.toNat l.dropLast (rz pl x) i
    refine(F1 ho r3 hd i3 hf i (l.getD (l.length - 1) 0) ⟨i0,by omega⟩ (by omega) (hD _ S8) (fun z hz=>by
     rcases UO lt d _ _ _ _ _ i0 (by omega) z hz with h|h
     ·rw[h];exact hD _ S8
     ·exact hD z ((aqv _).subset h))).mono ?_
    rintro _ H4 ⟨r4,i4,e4⟩
    refine vs ?_
    refine .inr ⟨i,rfl,rfl,?_,?_,NV.trans e4⟩
    ·unfold cO;rw[if_neg he];simp only;rw[if_pos ma];exact r4
    ·unfold cO;rw[if_neg he];simp only;rw[if_pos ma,←aqE];exact i4
   ·refine .inr ⟨i,rfl,rfl,?_,?_,NV⟩
    ·unfold cO;rw[if_neg he];simp only;rw[if_neg ma];exact r3
    ·unfold cO;rw[if_neg he];simp only;rw[if_neg ma];exact i3
end Go.Proofs.YthpjfeolagohkaaGreat
