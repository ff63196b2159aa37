/- Texts put behind each other. -/
import Derived.Test.YthpjfeolagohkaaGreatK98
import Derived.Test.YthpjfeolagohkaaGreatK26
import Derived.Test.YthpjfeolagohkaaGreatK28
import Derived.Test.YthpjfeolagohkaaGreatK33
set_option maxRecDepth 100000
set_option maxHeartbeats 8000000
set_option linter.unusedVariables false
set_option linter.unusedSimpArgs false
namespace Go.Proofs.YthpjfeolagohkaaGreat
open Go Go.Vc
structure Pl where
 r:Nat
 fp:Option Nat
 l:List Int
def Pl.S(P:Pl)(x:Nat):Prop:=x=P.r∨P.fp=some x
def Uq:Option Pl→Value
 |none=>.pointer none
 |some P=>ptr P.r
structure mK(H:Hp)(n c:Nat)(C:Nat→Prop)(rv:Value)(fr fa:Option Nat)(st:Int)(w:Nw)(ps:List (Option Pl))(at_:List Int):Prop where
 own:∃av,H.own n=some [ptr c,rv,av]∧Sl H 1 av at_.length (at_.map i64) fa
 cells:ba H c C st w
 sl:Sl H 1 rv ps.length (ps.map Uq) fr
 jG:∀ (h:Nat) P,ps[h]? =some (some P)→∃sv,H.own P.r=some [ptr n,sv]∧Sl H 1 sv P.l.length (P.l.map i64) P.fp
 nC:¬C n
 PT:∀b,fr=some b→¬C b∧b≠n∧fa≠some b
 KQ:∀b,fa=some b→¬C b∧b≠n
 pd:∀ (h:Nat) P,ps[h]? =some (some P)→∀x,P.S x→¬C x∧x≠n∧fr≠some x∧fa≠some x
 pr:∀ (h:Nat) P,ps[h]? =some (some P)→P.fp≠some P.r∧P.l.length≤65536
 pp:∀ (h h':Nat) P P',ps[h]? =some (some P)→ps[h']? =some (some P')→h≠h'→∀x,P.S x→¬P'.S x
def Ez(n:Nat)(C:Nat→Prop)(fr fa:Option Nat)(ps:List (Option Pl))(z:Nat):Prop:=C z∨z=n∨fr=some z∨fa=some z∨∃ (h:Nat) (P:Pl),ps[h]? =some (some P)∧P.S z
structure Hf(w:Nw)(ps:List (Option Pl))(at_:List Int):Prop where
 hl:ps.length=w.hs.length
 hs:∀h:Nat,w.hs[h]? =some true↔∃P,ps[h]? =some (some P)
 h0:ps[0]? =some none
 ok:∀ (h:Nat) P,ps[h]? =some (some P)→fk (aQ w) 2 P.l
 Ur:∀ (h:Nat) P,ps[h]? =some (some P)→mX P.l at_
 mem:∀ (h:Nat) P,ps[h]? =some (some P)→∀x:Int,x∈P.l↔0≤x∧∃e,w.cs[x.toNat]? =some (((h:Nat):Int),e)
 len:∀ (h:Nat) P,ps[h]? =some (some P)→(P.l.length:Int)=w.len h
 M5:at_.length=w.cs.length
def dW(H:Hp)(n:Nat)(S:Nat→Prop)(st:Int)(w:Nw):Prop:=∃c C rv fr fa ps at_,mK H n c C rv fr fa st w ps at_∧Hf w ps at_∧(∀z,Ez n C fr fa ps z↔S z)
section
variable {H H' : Hp} {n c : Nat} {C T : Nat → Prop} {rv : Value} {fr fa : Option Nat} {st YS : Int} {w w' : Nw} {ps : List (Option Pl)} {at_ mJ : List Int} {S : Nat → Prop}
theorem mK.slt(h:mK H n c C rv fr fa st w ps at_):∀z,Ez n C fr fa ps z→z<H.size:=by
 obtain⟨av,ho,ha⟩:=h.own
 rintro z (hz|rfl|hz|hz| ⟨i,P,hP,hz⟩)
 ·exact h.cells.slt z hz
 ·exact aB ho
 ·exact Sl.lt (hz▸h.sl)
 ·exact Sl.lt (hz▸ha)
 ·obtain⟨sv,h1,h2⟩:=h.jG i P hP
  rcases hz with rfl|hz
  ·exact aB h1
  ·exact Sl.lt (hz▸h2)
theorem mK.ext(h:mK H n c C rv fr fa st w ps at_)(e:ag T H H')(hd:∀z,Ez n C fr fa ps z→¬T z):mK H' n c C rv fr fa st w ps at_:=by
 obtain⟨av,ho,ha⟩:=h.own
 refine⟨⟨av,e.own ho (hd n (.inr (.inl rfl))),ha.ext e (fun b hb=>hd b (.inr (.inr (.inr (.inl hb)))))⟩,h.cells.ext e (fun x hx=>hd x (.inl hx)),h.sl.ext e (fun b hb=>hd b (.inr (.inr (.inl hb)))),fun i P hP=>?_,h.nC,h.PT,h.KQ,h.pd,h.pr,h.pp⟩
 obtain⟨sv,h1,h2⟩:=h.jG i P hP
 exact⟨sv,e.own h1 (hd _ (.inr (.inr (.inr (.inr ⟨i,P,hP,.inl rfl⟩))))),h2.ext e (fun b hb=>hd b (.inr (.inr (.inr (.inr ⟨i,P,hP,.inr hb⟩)))))⟩
theorem mK.aI(h:mK H n c C rv fr fa st w ps at_)(c1:ba H' c C YS w')(e:ag C H H'):mK H' n c C rv fr fa YS w' ps at_:=by
 obtain⟨av,ho,ha⟩:=h.own
 refine⟨⟨av,e.own ho h.nC,ha.ext e (fun b hb=>(h.KQ b hb).1)⟩,c1,h.sl.ext e (fun b hb=>(h.PT b hb).1),fun i P hP=>?_,h.nC,h.PT,h.KQ,h.pd,h.pr,h.pp⟩
 obtain⟨sv,h1,h2⟩:=h.jG i P hP
 exact⟨sv,e.own h1 (h.pd i P hP _ (.inl rfl)).1,h2.ext e (fun b hb=>(h.pd i P hP b (.inr hb)).1)⟩
theorem dW.slt(h:dW H n S st w):∀z,S z→z<H.size:=by
 obtain⟨c,C,rv,fr,fa,ps,at_,m,l,hS⟩:=h
 exact fun z hz=>m.slt z ((hS z).2 hz)
theorem dW.ext(h:dW H n S st w)(e:ag T H H')(hd:∀z,S z→¬T z):dW H' n S st w:=by
 obtain⟨c,C,rv,fr,fa,ps,at_,m,l,hS⟩:=h
 exact⟨c,C,rv,fr,fa,ps,at_,m.ext e (fun z hz=>hd z ((hS z).1 hz)),l,hS⟩
theorem dW.fresh(h:dW H n S st w)(e:ah H H'):dW H' n S st w:=h.ext e fun _ _ h=>h
theorem mK.OQ(m:mK H n c C rv fr fa st w ps at_){g:Nat}{P:Pl}(hP:ps[g]? =some (some P)):gY H n c C rv P.r P.fp fa st w P.l at_:=by
 have hd:=m.pd g P hP
 refine⟨m.own,m.cells,m.jG g P hP,m.nC,(hd P.r (.inl rfl)).1,(hd P.r (.inl rfl)).2.1,fun b hb=>⟨(hd b (.inr hb)).1,(hd b (.inr hb)).2.1,fun h=>(m.pr g P hP).1 (by rw[hb,h]),(hd b (.inr hb)).2.2.2⟩,fun b hb=>⟨(m.KQ b hb).1,(m.KQ b hb).2,fun h=>(hd P.r (.inl rfl)).2.2.2 (by rw[hb,h])⟩,(m.pr g P hP).2⟩
theorem mK.KT(m:mK H n c C rv fr fa st w ps at_){g:Nat}{P P':Pl}(hP:ps[g]? =some (some P))(hr:P'.r=P.r)(pm:gY H' n c C rv P'.r P'.fp fa YS w' P'.l mJ)(eB:P'.fp=P.fp∨∃z,P'.fp=some z∧H.size≤z)
  (e:ag T H H')(hT:∀z,T z→C z∨P.S z∨fa=some z):mK H' n c C rv fr fa YS w' (ps.set g (some P')) mJ:=by
 have fD:=m.slt
 have hg:=(aqc.1 hP).1
 have hPS:∀x,P'.S x→P.S x∨H.size≤x:=fun x hx=>by
  rcases hx with rfl|hx
  ·exact .inl (.inl hr)
  ·rcases eB with h| ⟨z,h,h5⟩
   ·exact .inl (.inr (h▸hx))
   ·rw[h]at hx;injection hx with hx;exact .inr (by omega)
 have ci:∀ (h:Nat) Q,(ps.set g (some P'))[h]? =some (some Q)→(h=g∧Q=P')∨(h≠g∧ps[h]? =some (some Q)):=fun h Q hQ=>by
  by_cases hh:h=g
  ·subst hh
   rw[aqi hg]at hQ
   simp only[aqk]at hQ
   exact .inl ⟨rfl,hQ.symm⟩
  ·rw[aqh (Ne.symm hh)]at hQ
   exact .inr ⟨hh,hQ⟩
 have hd:=m.pd g P hP
 refine⟨pm.own,pm.cells,?_,fun h Q hQ=>?_,m.nC,m.PT,m.KQ,fun h Q hQ x hx=>?_,fun h Q hQ=>?_,fun h h' Q Q' hQ hQ' aR x hx xX=>?_⟩
 ·have h1:(ps.set g (some P')).map Uq=ps.map Uq:=by
   rw[aqP]
   refine aqX fun i=>?_
   by_cases hi:i=g
   ·subst hi
    rw[aqi (by rw[aqr];exact hg),aqz,hP]
    simp[Uq,hr]
   ·rw[aqh (Ne.symm hi)]
  rw[h1,aqe]
  exact m.sl.ext e (fun b hb ht=>by
   rcases hT b ht with h|h|h
   ·exact(m.PT b hb).1 h
   ·exact(hd b h).2.2.1 hb
   ·exact(m.PT b hb).2.2 h)
 ·rcases ci h Q hQ with ⟨rfl,rfl⟩| ⟨h1,h2⟩
  ·exact pm.jG
  ·obtain⟨sv,q1,q2⟩:=m.jG h Q h2
   have bO:∀x,Q.S x→¬T x:=fun x hx ht=>by
    rcases hT x ht with h3|h3|h3
    ·exact(m.pd h Q h2 x hx).1 h3
    ·exact m.pp h g Q P h2 hP h1 x hx h3
    ·exact(m.pd h Q h2 x hx).2.2.2 h3
   exact⟨sv,e.own q1 (bO _ (.inl rfl)),q2.ext e (fun b hb=>bO b (.inr hb))⟩
 ·rcases ci h Q hQ with ⟨rfl,rfl⟩| ⟨h1,h2⟩
  ·rcases hPS x hx with h3|h3
   ·exact hd x h3
   ·refine⟨fun hc=>?_,fun hc=>?_,fun hc=>?_,fun hc=>?_⟩
    ·have:=fD x (.inl hc);omega
    ·have:=fD n (.inr (.inl rfl));omega
    ·have:=fD x (.inr (.inr (.inl hc)));omega
    ·have:=fD x (.inr (.inr (.inr (.inl hc))));omega
  ·exact m.pd h Q h2 x hx
 ·rcases ci h Q hQ with ⟨rfl,rfl⟩| ⟨h1,h2⟩
  ·refine⟨fun hc=>?_,pm.ll⟩
   exact(pm.ya _ hc).2.2.1 rfl
  ·exact m.pr h Q h2
 ·rcases ci h Q hQ with ⟨rfl,rfl⟩| ⟨h1,h2⟩
  ·rcases ci h' Q' hQ' with ⟨rfl,rfl⟩| ⟨h3,h4⟩
   ·exact aR rfl
   ·rcases hPS x hx with h5|h5
    ·exact m.pp _ h' P Q' hP h4 aR x h5 xX
    ·have:=fD x (.inr (.inr (.inr (.inr ⟨h',Q',h4,xX⟩))));omega
  ·rcases ci h' Q' hQ' with ⟨rfl,rfl⟩| ⟨h3,h4⟩
   ·rcases hPS x xX with h5|h5
    ·exact m.pp h _ Q P h2 hP aR x hx h5
    ·have:=fD x (.inr (.inr (.inr (.inr ⟨h,Q,h2,hx⟩))));omega
   ·exact m.pp h h' Q Q' h2 h4 aR x hx xX
theorem mK.atp(m:mK H n c C rv fr fa st w ps at_){i:Nat}{o:Option Pl}(h:ps[i]? =some o):∃f cc lb,rv= .slice (some ⟨f,0,none⟩) ps.length cc∧fr=some f∧H.own f=some lb∧lb[i]? =some (Uq o)∧i<ps.length:=by
 obtain⟨b,cc,lb,h1,h2,h3,h4,h5,_⟩:=Sl.at_ m.sl (i:=i) (x:=Uq o) (by simp[h])
 exact⟨b,cc,lb,h1,h2,h3,h4,h5⟩
theorem Hf.fN(l:Hf w ps at_){g:Int}(h:w.has g):∃P,ps[g.toNat]? =some (some P):=(l.hs g.toNat).1 h.2
end
theorem IW(cap:Int)(H:Hp):af Tryz.prog NZ [i64 cap] H fun v H'=>ax (
  ah H H'∧((¬ (0≤cap∧cap≤65536)∧v= .tuple [.pointer none,i64 31].toArray)∨
   ((0≤cap∧cap≤65536)∧∃n S,v= .tuple [ptr n,i64 0].toArray∧dW H' n S 0 ⟨[false],List.replicate cap.toNat (0,0,0)⟩∧∀x,S x→H.size≤x))):=by
 refine bm Oc ?_
 refine vs ?_
 refine(lO cap H).mono ?_
 rintro _ H1 ⟨f1,⟨hb,rfl⟩| ⟨hb,c,C,rfl,c1,hC⟩⟩
 ·refine vs ?_
  exact⟨f1,.inl ⟨hb,rfl⟩⟩
 refine v1 aqZ ?_
 refine⟨by omega,?_⟩
 refine vs ?_
 have ahQ:∀k:Nat,aV [Value.int .i64 0] k=(List.replicate k (0:Int)).map i64:=fun k=>by
  induction k with
  |zero=>rfl
  |succ k ih=>simp only[aV,aqQ,aq4,aqY]at*;rw[ih];rfl
 rw[ahQ]
 have yJ:=c1.slt
 have z1:=f1.size
 have f3:ah H1 (((H1.new 338 [.pointer none]).new 3 ((List.replicate cap.toNat (0:Int)).map i64)).new 247 [ptr c,.slice (some ⟨H1.size,0,none⟩) 1 1,.slice (some ⟨H1.size+1,0,none⟩) cap.toNat cap.toNat]):=(((ag.refl _ _).new _ _).new _ _).new _ _
 have e2:ag (fun _=>False) ((H1.new 338 [.pointer none]).new 3 ((List.replicate cap.toNat (0:Int)).map i64)) (((H1.new 338 [.pointer none]).new 3 ((List.replicate cap.toNat (0:Int)).map i64)).new 247 [ptr c,.slice (some ⟨H1.size,0,none⟩) 1 1,.slice (some ⟨H1.size+1,0,none⟩) cap.toNat cap.toNat]):=(ag.refl _ _).new _ _
 have e1:ag (fun _=>False) (H1.new 338 [.pointer none]) ((H1.new 338 [.pointer none]).new 3 ((List.replicate cap.toNat (0:Int)).map i64)):=(ag.refl _ _).new _ _
 have bO:∀ (h:Nat) (P:Pl),([none]:List (Option Pl))[h]? ≠some (some P):=fun h P hP=>by rcases h with _|h<;>simp at hP
 refine⟨f1.trans f3,.inr ⟨hb,H1.size+1+1,Ez (H1.size+1+1) C (some H1.size) (some (H1.size+1)) [none],rfl,⟨c,C,_,some H1.size,some (H1.size+1),[none],List.replicate cap.toNat 0,
  ⟨⟨_,bz (by simp only[am]),?_⟩,c1.fresh f3,?_,fun h P hP=>absurd hP (bO h P),fun h=>by have:=yJ _ h;omega,fun b hb=>?_,fun b hb=>?_,fun h P hP=>absurd hP (bO h P),fun h P hP=>absurd hP (bO h P),fun h h' P P' hP=>absurd hP (bO h P)⟩,
  ⟨rfl,fun h=>?_,rfl,fun h P hP=>absurd hP (bO h P),fun h P hP=>absurd hP (bO h P),fun h P hP=>absurd hP (bO h P),fun h P hP=>absurd hP (bO h P),by simp⟩,fun z=>Iff.rfl⟩,fun x hx=>?_⟩⟩
 ·rw[aqV]
  exact(Sl.bU (size:=1) (n:=cap.toNat) (xs:=(List.replicate cap.toNat (0:Int)).map i64) (by simp) (by simp only[am])).ext e2 (fun _ _ h=>h)
 ·exact((Sl.bU (size:=1) (n:=1) (xs:=[.pointer none]) rfl rfl).ext e1 (fun _ _ h=>h)).ext e2 (fun _ _ h=>h)
 ·injection hb with hb
  subst hb
  exact⟨fun h=>by have:=yJ _ h;omega,by omega,fun h=>by injection h with h;omega⟩
 ·injection hb with hb
  subst hb
  exact⟨fun h=>by have:=yJ _ h;omega,by omega⟩
 ·rcases h with _|h<;>simp
 ·rcases hx with hx|rfl|hx|hx| ⟨i,P,hP,hx⟩
  ·exact hC x hx
  ·omega
  ·injection hx with hx;omega
  ·injection hx with hx;omega
  ·exact absurd hP (bO i P)
theorem Hg{H:Hp}{n:Nat}{S:Nat→Prop}{st:Int}{w:Nw}(h:dW H n S st w):af Tryz.prog qu [ptr n] H fun v H'=>ax (
  (w.hs.length=65537∧v=i64 0∧H=H')∨
  (w.hs.length≠65537∧v=i64 w.hs.length∧∃S',dW H' n S' st w.make∧ag S H H'∧∀x,S' x→S x∨H.size≤x)):=by
 obtain⟨c,C,rv,fr,fa,ps,at_,m,l,hS⟩:=h
 obtain⟨av,ho,ha⟩:=m.own
 refine bm Do ?_
 refine v1 (ae ho) ?_
 refine(j9 m.cells).mono ?_
 rintro _ H1 (⟨h1,rfl,rfl⟩| ⟨h1,rfl,C',c1,e1,Au⟩)
 ·refine vs ?_
  exact .inl ⟨h1,rfl,rfl⟩
 have gA:0<ps.length:=(aqc.1 l.h0).1
 have o8:=l.hl
 have o1:=e1.own ho m.nC
 refine vs ?_
 refine ar.cP (aqp (by omega)) ?_
 refine v1 (ae o1) ?_
 have AL:=m.cells.AL
 have fD:=m.slt
 have Tp:=c1.slt
 have z1:=e1.size
 have e2:ag (fun _=>False) H1 (H1.new 342 [ptr n,.slice none 0 0]):=(ag.refl _ _).new _ _
 have hq2:(H1.new 342 [ptr n,.slice none 0 0]).own H1.size=some [ptr n,.slice none 0 0]:=az _ _ _
 have z2:(H1.new 342 [ptr n,.slice none 0 0]).size=H1.size+1:=by simp only[am]
 generalize (H1.new 342 [ptr n,.slice none 0 0])=H2 at*
 have e0:ag (fun _=>False) H2 (H2.new 338 [ptr H1.size]):=(ag.refl _ _).new _ _
 have JK:=(m.sl.ext e1 (fun b hb h=>(m.PT b hb).1 h)).ext e2 (fun _ _ h=>h)
 have o2:=e2.own o1 (fun h=>h)
 refine Sl.append (JK.ext e0 (fun _ _ h=>h)) (Sl.bU (size:=1) (n:=1) (xs:=[ptr H1.size]) rfl z2.symm).rd rfl (by intro v hv;simp only[aql]at hv;subst hv;rfl) (by omega) ?_
 intro v' H3 fr' s3 e3 X9
 have OR:ag (fun z=>fr=some z) H2 H3:=(e0.mono fun _ _ h=>h.elim).pL e3 (fun z _ h=>h)
 have o3:=OR.own o2 (fun h=>(m.PT n h).2.1 rfl)
 obtain⟨a',YR,Pp⟩:=db.SR s3.rd
 subst Pp
 refine v1 o3 ?_
 generalize Pp:Value.slice a' (ps.length+1) YR=v' at*
 have e4:ag (fun z=>z=n) H3 (H3.wr n [ptr c,v',av]):=(ag.refl (fun z=>z=n) _).wr (fun _=>rfl) _
 have hn:=aB ho
 have VF:∀b,fr=some b→b<H.size:=fun b hb=>fD b (.inr (.inr (.inl hb)))
 have YT:∀b,fa=some b→b<H.size:=fun b hb=>fD b (.inr (.inr (.inr (.inl hb))))
 have OS:∀b,fr'=some b→fr=some b∨H2.size≤b:=fun b hb=>by
  rcases X9 with h| ⟨z,h,h5,_⟩
  ·exact .inl (h▸hb)
  ·rw[h]at hb;injection hb with hb;subst hb;rw[am]at h5;exact .inr (by omega)
 have ci:∀ (h:Nat) P,(ps++[some (⟨H1.size,none,[]⟩:Pl)])[h]? =some (some P)→ps[h]? =some (some P)∨(h=ps.length∧P=⟨H1.size,none,[]⟩):=fun h P hP=>by
  rcases arA h ps.length with h5|h5|h5
  ·rw[aqs h5]at hP;exact .inl hP
  ·subst h5
   rw[aqD (aqm _),ari]at hP
   simp only[aqE,aqk]at hP
   exact .inr ⟨rfl,hP.symm⟩
  ·rw[aqo (by rw[aqj,aqn];omega)]at hP
   cases hP
 have hold:∀ (h:Nat) P,ps[h]? =some (some P)→∀x,P.S x→x<H.size:=fun h P hP x hx=>fD x (.inr (.inr (.inr (.inr ⟨h,P,hP,hx⟩))))
 have rL:∀x,(⟨H1.size,none,[]⟩:Pl).S x→x=H1.size:=fun x hx=>by rcases hx with h|h;exact h;cases h
 have Un:∀ (x:Nat) (e:Int×Int),w.cs[x]? ≠some (((ps.length:Nat):Int),e):=fun x e hx=>by
  have:=(m.cells.home _ (aqg hx)).2
  simp only at this
  omega
 refine .inr ⟨h1,rfl,Ez n C' fr' fa (ps++[some ⟨H1.size,none,[]⟩]),⟨c,C',v',fr',fa,ps++[some ⟨H1.size,none,[]⟩],at_,
  ⟨⟨av,ai o3,?_⟩,?_,?_,fun h P hP=>?_,fun h=>?_,fun b hb=>⟨fun h=>?_,?_,fun h=>?_⟩,fun b hb=>⟨fun h=>?_,(m.KQ b hb).2⟩,fun h P hP x hx=>⟨fun h=>?_,?_,fun h=>?_,fun h=>?_⟩,fun h P hP=>?_,fun h h' P P' hP hP' aR x hx xX=>?_⟩,
  ⟨?_,fun h=>?_,?_,fun h P hP=>?_,fun h P hP=>?_,fun h P hP x=>?_,fun h P hP=>?_,l.M5⟩,fun z=>Iff.rfl⟩,?_,fun x hx=>?_⟩
 ·exact(((ha.ext e1 (fun b hb h=>(m.KQ b hb).1 h)).ext e2 (fun _ _ h=>h)).ext OR (fun b hb h=>(m.PT b h).2.2 hb)).ext e4 (fun b hb h=>(m.KQ b hb).2 h)
 ·exact((c1.ext e2 (fun _ _ h=>h)).ext OR (fun x hx e=>by
   rcases Au x hx with h|h
   ·exact(m.PT x e).1 h
   ·have:=VF x e;omega)).ext e4 (fun x hx e=>by
   rcases Au x hx with h|h
   ·exact m.nC (e▸h)
   ·omega)
 ·have:=s3.ext e4 (fun b hb e=>by
   rcases OS b hb with h|h
   ·exact(m.PT b h).2.1 e
   ·omega)
  rw[aqj,aqy]
  exact this
 ·rcases ci h P hP with h5| ⟨rfl,rfl⟩
  ·obtain⟨sv,q1,q2⟩:=m.jG h P h5
   have hd:=m.pd h P h5
   exact⟨sv,e4.own (OR.own (e2.own (e1.own q1 (hd _ (.inl rfl)).1) (fun h=>h)) (hd _ (.inl rfl)).2.2.1) (hd _ (.inl rfl)).2.1,
    (((q2.ext e1 (fun b hb=>(hd b (.inr hb)).1)).ext e2 (fun _ _ h=>h)).ext OR (fun b hb=>(hd b (.inr hb)).2.2.1)).ext e4 (fun b hb=>(hd b (.inr hb)).2.1)⟩
  ·exact⟨_,e4.own (OR.own hq2 (fun e=>by have:=VF H1.size e;omega)) (fun e=>by have h9:H1.size=n:=e;omega),Sl.nil _ _⟩
 ·rcases Au n h with h|h
  ·exact m.nC h
  ·omega
 ·rcases OS b hb with h5|h5
  ·rcases Au b h with h6|h6
   ·exact(m.PT b h5).1 h6
   ·have:=VF b h5;omega
  ·have:=Tp b h;omega
 ·rcases OS b hb with h|h
  ·exact(m.PT b h).2.1
  ·omega
 ·rcases OS b hb with h5|h5
  ·exact(m.PT b h5).2.2 h
  ·have:=YT b h;omega
 ·rcases Au b h with h6|h6
  ·exact(m.KQ b hb).1 h6
  ·have:=YT b hb;omega
 ·rcases ci _ P hP with h5| ⟨_,rfl⟩
  ·rcases Au x h with h6|h6
   ·exact(m.pd _ P h5 x hx).1 h6
   ·have:=hold _ P h5 x hx;omega
  ·have:=rL x hx;have:=Tp x h;omega
 ·rcases ci _ P hP with h5| ⟨_,rfl⟩
  ·exact(m.pd _ P h5 x hx).2.1
  ·have:=rL x hx;omega
 ·rcases ci _ P hP with h5| ⟨_,rfl⟩
  ·rcases OS x h with h6|h6
   ·exact(m.pd _ P h5 x hx).2.2.1 h6
   ·have:=hold _ P h5 x hx;omega
  ·have:=rL x hx
   rcases OS x h with h6|h6
   ·have:=VF x h6;omega
   ·omega
 ·rcases ci _ P hP with h5| ⟨_,rfl⟩
  ·exact(m.pd _ P h5 x hx).2.2.2 h
  ·have:=rL x hx;have:=YT x h;omega
 ·rcases ci h P hP with h5| ⟨_,rfl⟩
  ·exact m.pr h P h5
  ·exact⟨(fun h=>by cases h),by simp⟩
 ·rcases ci _ P hP with h5| ⟨h5,rfl⟩
  ·rcases ci _ P' hP' with h6| ⟨h6,rfl⟩
   ·exact m.pp h h' P P' h5 h6 aR x hx xX
   ·have:=rL x xX;have:=hold _ P h5 x hx;omega
  ·rcases ci _ P' hP' with h6| ⟨h6,rfl⟩
   ·have:=rL x hx;have:=hold _ P' h6 x xX;omega
   ·omega
 ·simp[Nw.make,o8]
 ·show(w.hs++[true])[h]? =some true↔_
  rcases arA h ps.length with h5|h5|h5
  ·rw[aqs h5,aqs (by omega)]
   exact l.hs h
  ·subst h5
   rw[aqD (aqm _),aqD (by omega),ari,o8,ari]
   simp
  ·rw[aqo (by rw[aqj,aqn];omega),aqo (by rw[aqj,aqn];omega)]
   simp
 ·rw[aqs gA];exact l.h0
 ·rcases ci h P hP with h5| ⟨rfl,rfl⟩
  ·exact l.ok h P h5
  ·exact fun j _ hj=>by simp at hj
 ·rcases ci h P hP with h5| ⟨rfl,rfl⟩
  ·exact l.Ur h P h5
  ·exact fun i x hx=>by simp at hx
 ·rcases ci h P hP with h5| ⟨rfl,rfl⟩
  ·exact l.mem h P h5 x
  ·simp only[arR,false_iff]
   rintro⟨_,e,he⟩
   exact Un _ _ he
 ·rcases ci h P hP with h5| ⟨rfl,rfl⟩
  ·exact l.len h P h5
  ·show((0:Nat):Int)=w.len _
   unfold Nw.len
   rw[if_pos (by omega),arB.2 (fun x hx=>by
    have:=(m.cells.home x hx).2
    simp only[aqI]
    omega)]
 ·exact((e1.mono fun z _ hz=>(hS z).1 (.inl hz)).trans ((e2.mono fun _ _ h=>h.elim).trans (OR.mono fun z _ hz=>(hS z).1 (.inr (.inr (.inl hz)))))).trans (e4.mono fun z _ hz=>(hS z).1 (.inr (.inl hz)))
 ·rcases hx with hx|rfl|hx|hx| ⟨i,P,hP,hx⟩
  ·rcases Au x hx with h|h
   ·exact .inl ((hS x).1 (.inl h))
   ·exact .inr h
  ·exact .inl ((hS x).1 (.inr (.inl rfl)))
  ·rcases OS x hx with h|h
   ·exact .inl ((hS x).1 (.inr (.inr (.inl h))))
   ·exact .inr (by omega)
  ·exact .inl ((hS x).1 (.inr (.inr (.inr (.inl hx)))))
  ·rcases ci i P hP with h5| ⟨_,rfl⟩
   ·exact .inl ((hS x).1 (.inr (.inr (.inr (.inr ⟨i,P,h5,hx⟩)))))
   ·have:=rL x hx;exact .inr (by omega)
end Go.Proofs.YthpjfeolagohkaaGreat

namespace Go.Proofs.YthpjfeolagohkaaGreat
open Go Go.Vc
theorem mX.YU{l at_ mJ:List Int}(h:mX l at_)(ho:∀z∈l,0≤z→mJ[z.toNat]? =at_[z.toNat]?):mX l mJ:=fun i x hx=>by
 obtain⟨a,b⟩:=h i x hx
 exact⟨a,by rw[ho x (aqg hx) a];exact b⟩
theorem gO{ps:List (Option Pl)}{g:Nat}{P':Pl}(hg:g<ps.length){h:Nat}{Q:Pl}(hQ:(ps.set g (some P'))[h]? =some (some Q)):(h=g∧Q=P')∨(h≠g∧ps[h]? =some (some Q)):=by
 by_cases hh:h=g
 ·subst hh
  rw[aqi hg]at hQ
  simp only[aqk]at hQ
  exact .inl ⟨rfl,hQ.symm⟩
 ·rw[aqh (Ne.symm hh)]at hQ
  exact .inr ⟨hh,hQ⟩
theorem Hf.apart{w:Nw}{ps:List (Option Pl)}{at_:List Int}(l:Hf w ps at_){h h':Nat}{P Q:Pl}(hP:ps[h]? =some (some P))(hQ:ps[h']? =some (some Q))(aR:h≠h'){z:Int}(hz:z∈P.l):z∉Q.l:=fun hz'=>by
 obtain⟨_,e1,h1⟩:=(l.mem h P hP z).1 hz
 obtain⟨_,e2,h2⟩:=(l.mem h' Q hQ z).1 hz'
 rw[h1]at h2
 injection h2 with h2
 injection h2 with h2 _
 omega
theorem Hf.pos{w:Nw}{ps:List (Option Pl)}{at_:List Int}(l:Hf w ps at_){h:Nat}{P:Pl}(hP:ps[h]? =some (some P)):0<h:=by
 rcases arH h with hi|hi
 ·subst hi;rw[l.h0]at hP;cases hP
 ·exact hi
theorem DU{H:Hp}{n:Nat}{S:Nat→Prop}{st:Int}{w:Nw}(h:dW H n S st w)(g x k s:Int):af Tryz.prog nH [ptr n,i64 g,i64 x,uw k s] H fun v H'=>ax (
  (¬ (w.has g∧(0≤x∧x<w.cs.length)∧¬df w.cs x)∧v= .bool false∧dW H' n S st w∧ag S H H')∨
  ((w.has g∧(0≤x∧x<w.cs.length)∧¬df w.cs x)∧v= .bool true∧∃ (S':Nat→Prop) (q:Nat),(q:Int)≤lw 2 (w.len g)∧(0<w.len g→0<q)∧dW H' n S' (min (st+q) 4611686018427387904) (w.put x (g,k,s))∧ag S H H'∧∀z,S' z→S z∨H.size≤z)):=by
 obtain⟨c,C,rv,fr,fa,ps,at_,m,l,hS⟩:=h
 refine bm Ah ?_
 refine vs ?_
 have f0:ah H (H.new 182 [i64 k,u64 s]):=(ag.refl _ _).new _ _
 have b0:(H.new 182 [i64 k,u64 s]).own H.size=some [i64 k,u64 s]:=az _ _ _
 have m0:=m.ext f0 (fun _ _ h=>h)
 generalize H.new 182 [i64 k,u64 s]=H0 at*
 obtain⟨av,IS,Sp⟩:=m0.own
 refine v2 (ae IS) (ae b0) ?_
 refine(lP m0.cells g x k s).mono ?_
 rintro _ H1 (⟨bO,rfl,c1,e1⟩| ⟨rq,rfl,c1,e1⟩)
 ·refine vs ?_
  exact .inl ⟨bO,rfl,⟨c,C,rv,fr,fa,ps,at_,m0.aI c1 e1,l,hS⟩,(f0.mono fun _ _ h=>h.elim).trans (e1.mono fun z _ hz=>(hS z).1 (.inl hz))⟩
 obtain⟨hh,⟨gB,qd⟩,bH⟩:=id rq
 obtain⟨P,hP⟩:=l.fN hh
 have h1:=hh.1
 have AJ:((g.toNat:Nat):Int)=g:=by omega
 have bq:=l.mem _ P hP
 have bf:=l.len _ P hP
 rw[AJ]at bq bf
 obtain⟨c0,jW⟩:∃c0,w.cs[x.toNat]? =some c0:=⟨_,aqb (by omega)⟩
 have sI:¬0<c0.1:=fun h=>bH ⟨gB,c0,jW,h⟩
 have cU:(w.put x (g,k,s)).cs[x.toNat]? =some (g,k,s):=aqi (by omega)
 have lF:∀y:Nat,y≠x.toNat→(w.put x (g,k,s)).cs[y]? =w.cs[y]? :=fun y hy=>aqh (Ne.symm hy)
 have Q5:∀ (i:Nat) Q,ps[i]? =some (some Q)→x∉Q.l:=fun i Q hQ hm=>by
  obtain⟨_,e,he⟩:=(l.mem i Q hQ x).1 hm
  rw[jW]at he
  injection he with he
  subst he
  have:=l.pos hQ
  exact sI (by simp only;omega)
 have aR:∀ (i:Nat) Q,ps[i]? =some (some Q)→∀y∈Q.l,0≤y∧y.toNat≠x.toNat:=fun i Q hQ y hy=>by
  have h2:=((l.mem i Q hQ y).1 hy).1
  exact⟨h2,fun e=>Q5 i Q hQ (by rw[show x=y by omega];exact hy)⟩
 have YV:∀ (i:Nat) Q,ps[i]? =some (some Q)→fk (aQ (w.put x (g,k,s))) 2 Q.l:=fun i Q hQ=>
  (l.ok i Q hQ).KR fun z hz y hy=>(im w x _ (aR i Q hQ z hz).2 (aR i Q hQ y hy).2).symm
 have Hi:∀z∈P.l,df (w.put x (g,k,s)).cs z:=fun z hz=>by
  obtain⟨z0,e,he⟩:=(bq z).1 hz
  exact⟨z0,_,by rw[lF _ (aR _ P hP z hz).2];exact he,by simp only;omega⟩
 have YW:df (w.put x (g,k,s)).cs x:=⟨gB,_,cU,by simp only;omega⟩
 have hlp:(w.put x (g,k,s)).len g=w.len g+1:=by rw[Nw.gC jW g,if_neg (fun hc=>by omega),if_pos ⟨by omega,rfl⟩];omega
 have tQ:=m.cells.Fe
 have o8:P.l.length<65536:=by
  have:=((w.put x (g,k,s)).An g).2
  have h5:(w.put x (g,k,s)).cs.length=w.cs.length:=aqe ..
  omega
 have m1:=m0.aI c1 e1
 obtain⟨av1,Q4,_⟩:=m1.own
 obtain⟨f,cc,lb,rfl,rfl,hf,VE,dI⟩:=m1.atp hP
 refine v1 (ae Q4) ?_
 refine⟨by omega,?_⟩
 simp(disch:=(first|omega| (simp only[Zs]<;>omega)|fail)) only[go_sem, ↓reduceIte,Zv,ae hf,aqd,VE,Uq]
 refine(He (m1.OQ hP) (l.Ur _ P hP) o8 ⟨gB,by rw[l.M5];omega⟩ (Q5 _ P hP) YW Hi (YV _ P hP)).mono ?_
 rintro _ H2 ⟨rfl,bI,l',mJ,q,pm,ahS,iK,adf,ajZ,ahT,YX,hq,WN,e2,ix⟩
 refine vs ?_
 have z0:=f0.size
 have z1:=e1.size
 have hT:∀z,(C z∨P.fp=some z∨fa=some z∨z=P.r)→C z∨P.S z∨fa=some z:=fun z hz=>by
  rcases hz with hz|hz|hz|hz
  ·exact .inl hz
  ·exact .inr (.inl (.inr hz))
  ·exact .inr (.inr hz)
  ·exact .inr (.inl (.inl hz))
 have sS:∀z,(C z∨P.fp=some z∨fa=some z∨z=P.r)→S z:=fun z hz=>(hS z).1 (by
  rcases hT z hz with hz|hz|hz
  ·exact .inl hz
  ·exact .inr (.inr (.inr (.inr ⟨_,P,hP,hz⟩)))
  ·exact .inr (.inr (.inr (.inl hz))))
 refine .inr ⟨rq,rfl,Ez n C (some f) fa (ps.set g.toNat (some ⟨P.r,bI,l'⟩)),q,by rw[←bf];exact Int.ofNat_le.2 hq,fun h=>WN (by omega),
  ⟨c,C,_,some f,fa,_,mJ,m1.KT hP (P':=⟨P.r,bI,l'⟩) rfl pm ix e2 hT,
   ⟨by rw[aqe];exact l.hl,fun h=>?_,?_,fun h Q hQ=>?_,fun h Q hQ=>?_,fun h Q hQ y=>?_,fun h Q hQ=>?_,?_⟩,fun z=>Iff.rfl⟩,?_,fun z hz=>?_⟩
 ·show w.hs[h]? =some true↔_
  rw[l.hs h]
  by_cases M6:h=g.toNat
  ·subst M6
   rw[aqi dI]
   exact⟨fun _=>⟨_,rfl⟩,fun _=>⟨P,hP⟩⟩
  ·rw[aqh (Ne.symm M6)]
 ·rw[aqh (by omega)];exact l.h0
 ·rcases gO dI hQ with ⟨rfl,rfl⟩| ⟨h5,h6⟩
  ·exact iK
  ·exact YV h Q h6
 ·rcases gO dI hQ with ⟨rfl,rfl⟩| ⟨h5,h6⟩
  ·exact ahS
  ·exact(l.Ur h Q h6).YU fun z hz z0=>YX z z0 (fun e=>Q5 h Q h6 (e▸hz)) (l.apart h6 hP h5 hz)
 ·rcases gO dI hQ with ⟨rfl,rfl⟩| ⟨h5,h6⟩
  ·rw[AJ]
   show y∈l'↔_
   rw[adf y]
   constructor
   ·rintro(rfl|hy)
    ·exact⟨gB,_,cU⟩
    ·obtain⟨y0,e,he⟩:=(bq y).1 hy
     exact⟨y0,e,by rw[lF _ (aR _ P hP y hy).2];exact he⟩
   ·rintro⟨y0,e,he⟩
    by_cases oJ:y.toNat=x.toNat
    ·exact .inl (by omega)
    ·rw[lF _ oJ]at he
     exact .inr ((bq y).2 ⟨y0,e,he⟩)
  ·rw[l.mem h Q h6 y]
   by_cases oJ:y.toNat=x.toNat
   ·rw[oJ,cU,jW]
    constructor
    ·rintro⟨y0,e,he⟩
     injection he with he
     subst he
     have:=l.pos h6
     exact absurd (show(0:Int)< ((h:Nat):Int) by omega) sI
    ·rintro⟨y0,e,he⟩
     injection he with he
     injection he with YY he2
     omega
   ·rw[lF _ oJ]
 ·rcases gO dI hQ with ⟨rfl,rfl⟩| ⟨h5,h6⟩
  ·rw[AJ,hlp]
   show(l'.length:Int)=_
   omega
  ·rw[l.len h Q h6,Nw.gC jW h,if_neg (fun hc=>by omega),if_neg (fun hc=>by omega)]
   omega
 ·rw[ahT,l.M5];exact(aqe ..).symm
 ·exact(f0.mono fun _ _ h=>h.elim).trans ((e1.mono fun z _ hz=>sS z (.inl hz)).trans (e2.mono fun z _ hz=>sS z hz))
 ·rcases hz with hz|rfl|hz|hz| ⟨i,Q,hQ,hz⟩
  ·exact .inl (sS z (.inl hz))
  ·exact .inl ((hS z).1 (.inr (.inl rfl)))
  ·exact .inl ((hS z).1 (.inr (.inr (.inl hz))))
  ·exact .inl (sS z (.inr (.inr (.inl hz))))
  ·rcases gO dI hQ with ⟨rfl,rfl⟩| ⟨h5,h6⟩
   ·rcases hz with rfl|hz
    ·exact .inl (sS _ (.inr (.inr (.inr rfl))))
    ·rcases ix with h| ⟨y,h,h7⟩
     ·exact .inl (sS z (.inr (.inl (h▸hz))))
     ·simp only at hz
      rw[h]at hz;injection hz with hz;exact .inr (by omega)
   ·exact .inl ((hS z).1 (.inr (.inr (.inr (.inr ⟨i,Q,h6,hz⟩)))))
theorem yS{H:Hp}{n:Nat}{S:Nat→Prop}{st:Int}{w:Nw}(h:dW H n S st w)(g:Int):af Tryz.prog tq [ptr n,i64 g] H fun v H'=>ax (
  ((w.len g=0∧v= .tuple [i64 0,.bool false].toArray)∨∃x,w.first g x∧v= .tuple [i64 x,.bool true].toArray)∧H=H'):=by
 obtain⟨c,C,rv,fr,fa,ps,at_,m,l,hS⟩:=h
 obtain⟨av,ho,ha⟩:=m.own
 refine bm EY ?_
 refine v1 (ae ho) ?_
 refine(tH m.cells g).mono ?_
 rintro _ _ ⟨rfl,rfl⟩
 refine vs ?_
 refine ar.dec (fun h0=>?_) (fun h0=>?_)
 ·refine vs ?_
  exact⟨.inl ⟨h0,rfl⟩,rfl⟩
 have hg:0<g:=by
  by_cases hg:0<g
  ·exact hg
  ·exact absurd (Nw.IN.2 (.inl (by omega))) h0
 have ahU:w.has g:=by
  refine⟨by omega,?_⟩
  by_cases hx:w.hs[g.toNat]? =some true
  ·exact hx
  ·refine absurd (Nw.IN.2 (.inr fun i c hc e=>hx ?_)) h0
   have:=m.cells.live c (aqg hc) (by omega)
   rwa[e]at this
 obtain⟨P,hP⟩:=l.fN ahU
 have AJ:((g.toNat:Nat):Int)=g:=by omega
 have bq:=l.mem _ P hP
 have bf:=l.len _ P hP
 rw[AJ]at bq bf
 have o8:=(w.An g).1
 obtain⟨f,cc,lb,rfl,rfl,hf,VE,dI⟩:=m.atp hP
 obtain⟨sv,hr,hs⟩:=m.jG _ P hP
 obtain⟨x,hx⟩:∃x,P.l[0]? =some x:=⟨_,aqb (by omega)⟩
 obtain⟨b,c2,l2,rfl,eB,hb,mI,_,FX⟩:=Sl.at_ hs (i:=0) (x:=i64 x) (by simp[hx])
 refine v1 (ae ho) ?_
 refine⟨by omega,?_⟩
 simp(disch:=(first|omega| (simp only[Zs]<;>omega)|fail)) only[go_sem, ↓reduceIte,Zv,ae hf,aqd,VE,Uq,ae hr]
 refine⟨by omega,?_⟩
 refine v2 (ae hb) (show l2[Int.toNat 0*1]? =some (i64 x)from mI) ?_
 have hxP:=aqg hx
 obtain⟨gB,e,he⟩:=(bq x).1 hxP
 refine⟨.inr ⟨x,⟨hg,gB,⟨e,he⟩,fun y hy ⟨e',gz⟩ aR=>?_⟩,rfl⟩,rfl⟩
 have hyP:=(bq y).2 ⟨hy,e',gz⟩
 obtain⟨j,hj⟩:=aqB hyP
 have hjl:=(aqc.1 hj).1
 have h5:=GY (aw w) eo (l.ok _ P hP) j j (aqm _) hjl
 rw[sT hj,sT hx]at h5
 rcases(aw w).PA x y (Ne.symm aR)with h6|h6
 ·exact h6
 ·rw[h5]at h6;cases h6
theorem DV{H:Hp}{n:Nat}{S:Nat→Prop}{st:Int}{w:Nw}(h:dW H n S st w)(x:Int):af Tryz.prog zF [ptr n,i64 x] H fun v H'=>ax (
  (¬df w.cs x∧v= .bool false∧H=H')∨
  (df w.cs x∧v= .bool true∧∃ (c0:Ce) (q:Nat),w.cs[x.toNat]? =some c0∧q≤2*lw 2 (w.len c0.1 - 1)∧∃S',dW H' n S' (min (st+q) 4611686018427387904) (w.put x (0,0,0))∧ag S H H'∧∀z,S' z→S z∨H.size≤z)):=by
 obtain⟨c,C,rv,fr,fa,ps,at_,m,l,hS⟩:=h
 obtain⟨av,ho,ha⟩:=m.own
 refine bm Ag ?_
 refine v1 (ae ho) ?_
 refine(eY m.cells x).mono ?_
 rintro _ H1 (⟨bO,rfl,rfl⟩| ⟨bH,c0,jW,rfl,c1,e1⟩)
 ·refine vs ?_
  exact .inl ⟨bO,rfl,rfl⟩
 obtain⟨gB,c0',KU,gA⟩:=id bH
 rw[jW]at KU
 injection KU with KU
 subst KU
 obtain⟨P,hP⟩:=(l.hs c0.1.toNat).1 (m.cells.live _ (aqg jW) gA)
 have AJ:((c0.1.toNat:Nat):Int)=c0.1:=by omega
 have bq:=l.mem _ P hP
 have bf:=l.len _ P hP
 rw[AJ]at bq bf
 have cU:(w.put x (0,0,0)).cs[x.toNat]? =some (0,0,0):=aqi (aqc.1 jW).1
 have lF:∀y:Nat,y≠x.toNat→(w.put x (0,0,0)).cs[y]? =w.cs[y]? :=fun y hy=>aqh (Ne.symm hy)
 have m1:=m.aI c1 e1
 obtain⟨av1,Q4,R1⟩:=m1.own
 have hxP:x∈P.l:=(bq x).2 ⟨gB,c0.2,jW⟩
 have Hi:∀z∈P.l,df w.cs z:=fun z hz=>by
  obtain⟨z0,e,he⟩:=(bq z).1 hz
  exact⟨z0,_,he,gA⟩
 obtain⟨i,hi⟩:=aqB hxP
 have qR:=(aqc.1 hi).1
 obtain⟨_,Wu⟩:=l.Ur _ P hP i x hi
 obtain⟨f,cc,lb,rfl,rfl,hf,VE,dI⟩:=m1.atp hP
 obtain⟨fa',ac,la,rfl,hfa,YZ,Y0,_,_⟩:=Sl.at_ R1 (i:=x.toNat) (x:=i64 i) (by simp[Wu])
 have XD:=(aqc.1 Wu).1
 refine v1 (ae Q4) ?_
 refine⟨by omega,?_⟩
 simp(disch:=(first|omega| (simp only[Zs]<;>omega)|fail)) only[go_sem, ↓reduceIte,Zv,ae hf,aqd,VE,Uq,ae Q4]
 refine⟨by omega,?_⟩
 refine v3 (ae YZ) aqd Y0 ?_
 refine(DT (m1.OQ hP) (l.Ur _ P hP) qR Hi (l.ok _ P hP)).mono ?_
 rintro _ H2 ⟨l',mJ,q,o,hq⟩
 rw[sT hi]at o
 have hT:∀z,(C z∨P.fp=some z∨fa=some z∨z=P.r)→C z∨P.S z∨fa=some z:=fun z hz=>by
  rcases hz with hz|hz|hz|hz
  ·exact .inl hz
  ·exact .inr (.inl (.inr hz))
  ·exact .inr (.inr hz)
  ·exact .inr (.inl (.inl hz))
 have sS:∀z,(C z∨P.fp=some z∨fa=some z∨z=P.r)→S z:=fun z hz=>(hS z).1 (by
  rcases hT z hz with hz|hz|hz
  ·exact .inl hz
  ·exact .inr (.inr (.inr (.inr ⟨_,P,hP,hz⟩)))
  ·exact .inr (.inr (.inr (.inl hz))))
 have m2:=m1.KT hP (P':=⟨P.r,P.fp,l'⟩) rfl o.jG (.inl rfl) o.ext hT
 obtain⟨av2,ho2,_⟩:=m2.own
 refine v1 (ae ho2) ?_
 refine(ke m2.cells x).mono ?_
 rintro _ H3 (⟨bO,_,_⟩| ⟨_,rfl,c3,e3⟩)
 ·exact absurd bH bO
 refine vs ?_
 have m3:=m2.aI c3 e3
 have aR:∀ (h:Nat) Q,h≠c0.1.toNat→ps[h]? =some (some Q)→∀y∈Q.l,y.toNat≠x.toNat:=fun h Q hh hQ y hy e=>by
  obtain⟨y0,e',he⟩:=(l.mem h Q hQ y).1 hy
  rw[e,jW]at he
  injection he with he
  rw[he]at hh
  simp only[Int.toNat_natCast]at hh
  exact hh rfl
 have OT:∀y∈l',y.toNat≠x.toNat:=fun y hy e=>by
  obtain⟨h1,h2⟩:=(o.mem y).1 hy
  have:=((bq y).1 h1).1
  omega
 refine .inr ⟨bH,rfl,c0,q,jW,by rw[←bf];exact hq,Ez n C (some f) fa (ps.set c0.1.toNat (some ⟨P.r,P.fp,l'⟩)),
  ⟨c,C,_,some f,fa,_,mJ,m3,⟨by rw[aqe];exact l.hl,fun h=>?_,?_,fun h Q hQ=>?_,fun h Q hQ=>?_,fun h Q hQ y=>?_,fun h Q hQ=>?_,?_⟩,fun z=>Iff.rfl⟩,?_,fun z hz=>?_⟩
 ·show w.hs[h]? =some true↔_
  rw[l.hs h]
  by_cases M6:h=c0.1.toNat
  ·subst M6
   rw[aqi dI]
   exact⟨fun _=>⟨_,rfl⟩,fun _=>⟨P,hP⟩⟩
  ·rw[aqh (Ne.symm M6)]
 ·rw[aqh (by omega)];exact l.h0
 ·rcases gO dI hQ with ⟨rfl,rfl⟩| ⟨h5,h6⟩
  ·exact o.heap.KR fun z hz y hy=>(im w x _ (OT z hz) (OT y hy)).symm
  ·exact(l.ok h Q h6).KR fun z hz y hy=>(im w x _ (aR h Q h5 h6 z hz) (aR h Q h5 h6 y hy)).symm
 ·rcases gO dI hQ with ⟨rfl,rfl⟩| ⟨h5,h6⟩
  ·exact o.ok
  ·exact(l.Ur h Q h6).YU fun z hz z0=>o.off z z0 (l.apart h6 hP h5 hz)
 ·by_cases oJ:y.toNat=x.toNat
  ·rw[oJ,cU]
   have h0:=gO dI hQ
   constructor
   ·intro hy
    rcases h0 with ⟨rfl,rfl⟩| ⟨h5,h6⟩
    ·exact absurd oJ (OT y hy)
    ·exact absurd oJ (aR h Q h5 h6 y hy)
   ·rintro⟨_,e,he⟩
    injection he with he
    injection he with YY _
    rcases h0 with ⟨rfl,rfl⟩| ⟨h5,h6⟩
    ·omega
    ·have:=l.pos h6;omega
  ·rw[lF _ oJ]
   rcases gO dI hQ with ⟨rfl,rfl⟩| ⟨h5,h6⟩
   ·rw[AJ]
    show y∈l'↔_
    rw[o.mem y,bq y]
    constructor
    ·exact fun h=>h.1
    ·exact fun h=>⟨h,fun e=>oJ (by rw[e])⟩
   ·exact l.mem h Q h6 y
 ·rcases gO dI hQ with ⟨rfl,rfl⟩| ⟨h5,h6⟩
  ·rw[AJ,Nw.gC jW c0.1,if_pos ⟨gA,rfl⟩,if_neg (fun hc=>by omega)]
   show(l'.length:Int)=_
   have:=o.len
   omega
  ·have:=l.pos h6
   rw[l.len h Q h6,Nw.gC jW h,if_neg (fun hc=>by omega),if_neg (fun hc=>by omega)]
   omega
 ·rw[o.M5,l.M5];exact(aqe ..).symm
 ·exact(e1.mono fun z _ hz=>sS z (.inl hz)).trans ((o.ext.mono fun z _ hz=>sS z hz).trans (e3.mono fun z _ hz=>sS z (.inl hz)))
 ·rcases hz with hz|rfl|hz|hz| ⟨i,Q,hQ,hz⟩
  ·exact .inl (sS z (.inl hz))
  ·exact .inl ((hS z).1 (.inr (.inl rfl)))
  ·exact .inl ((hS z).1 (.inr (.inr (.inl hz))))
  ·exact .inl (sS z (.inr (.inr (.inl hz))))
  ·rcases gO dI hQ with ⟨rfl,rfl⟩| ⟨h5,h6⟩
   ·rcases hz with rfl|hz
    ·exact .inl (sS _ (.inr (.inr (.inr rfl))))
    ·exact .inl (sS z (.inr (.inl hz)))
   ·exact .inl ((hS z).1 (.inr (.inr (.inr (.inr ⟨i,Q,h6,hz⟩)))))
theorem Ch{H:Hp}{n:Nat}{S:Nat→Prop}{st:Int}{w:Nw}(h:dW H n S st w)(g:Int):af Tryz.prog mu [ptr n,i64 g] H fun v H'=>ax (
  (w.len g=0∧v= .tuple [i64 0,.bool false].toArray∧H=H')∨
  (∃x,w.first g x∧v= .tuple [i64 x,.bool true].toArray∧∃q:Nat,q≤2*lw 2 (w.len g - 1)∧∃S',dW H' n S' (min (st+q) 4611686018427387904) (w.put x (0,0,0))∧ag S H H'∧∀z,S' z→S z∨H.size≤z)):=by
 refine bm xR ?_
 refine vs ?_
 refine(yS h g).mono ?_
 rintro _ _ ⟨⟨h0,rfl⟩| ⟨x,hx,rfl⟩,rfl⟩
 ·refine vs ?_
  exact .inl ⟨h0,rfl,rfl⟩
 ·refine vs ?_
  refine(DV h x).mono ?_
  rintro _ H1 (⟨bO,_,_⟩| ⟨_,rfl,c0,q,jW,hq,S',d1,e1,hS'⟩)
  ·exact absurd hx.Nr bO
  refine vs ?_
  obtain⟨e,gz⟩:=hx.2.2.1
  rw[jW]at gz
  injection gz with gz
  subst gz
  exact .inr ⟨x,hx,rfl,q,hq,S',d1,e1,hS'⟩
theorem Av{H:Hp}{n:Nat}{S:Nat→Prop}{st:Int}{w:Nw}(h:dW H n S st w)(x k s:Int):af Tryz.prog kY [ptr n,i64 x,uw k s] H fun v H'=>ax (
  (¬ (df w.cs x∧∀y,w.cs[x.toNat]? =some y→¬fQ y.2.1 y.2.2 k s)∧v= .bool false∧dW H' n S st w∧ah H H')∨
  (df w.cs x∧∃y,w.cs[x.toNat]? =some y∧¬fQ y.2.1 y.2.2 k s∧v= .bool true∧∃q:Nat,q≤2*lw 2 (w.len y.1 - 1)∧∃S',dW H' n S' (min (st+q) 4611686018427387904) (w.put x (y.1,k,s))∧ag S H H'∧∀z,S' z→S z∨H.size≤z)):=by
 obtain⟨c,C,rv,fr,fa,ps,at_,m,l,hS⟩:=h
 refine bm vy ?_
 refine vs ?_
 have f0:ah H (H.new 182 [i64 k,u64 s]):=(ag.refl _ _).new _ _
 have b0:(H.new 182 [i64 k,u64 s]).own H.size=some [i64 k,u64 s]:=az _ _ _
 have m0:=m.ext f0 (fun _ _ h=>h)
 generalize H.new 182 [i64 k,u64 s]=H0 at*
 obtain⟨av,IS,Sp⟩:=m0.own
 refine v2 (ae IS) (ae b0) ?_
 refine(jq m0.cells x k s).mono ?_
 rintro _ H1 (⟨bO,rfl,c1,e1⟩| ⟨bH,rfl,y,hy,fR,c1,e1⟩)
 ·refine vs ?_
  exact .inl ⟨bO,rfl,⟨c,C,rv,fr,fa,ps,at_,m0.ext e1 (fun _ _ h=>h),l,hS⟩,f0.trans e1⟩
 have m1:=m0.aI c1 e1
 obtain⟨av1,Q4,R1⟩:=m1.own
 refine v1 (ae Q4) ?_
 obtain⟨gB,y',GS,gA⟩:=id bH
 rw[hy]at GS
 injection GS with GS
 subst GS
 have cU:(w.put x (y.1,k,s)).cs[x.toNat]? =some (y.1,k,s):=aqi (aqc.1 hy).1
 have lF:∀z:Nat,z≠x.toNat→(w.put x (y.1,k,s)).cs[z]? =w.cs[z]? :=fun z hz=>aqh (Ne.symm hz)
 have OP:df (w.put x (y.1,k,s)).cs x:=⟨gB,_,cU,gA⟩
 refine(eY c1 x).mono ?_
 rintro _ H2 (⟨bO,_,_⟩| ⟨_,y2,FY,rfl,c2,e2⟩)
 ·exact absurd OP bO
 rw[cU]at FY
 injection FY with FY
 subst FY
 have m2:=m1.aI c2 e2
 obtain⟨av2,ho2,Z5⟩:=m2.own
 obtain⟨P,hP⟩:=(l.hs y.1.toNat).1 (m.cells.live _ (aqg hy) gA)
 have AJ:((y.1.toNat:Nat):Int)=y.1:=by omega
 have M7:∀ (h:Nat) Q,ps[h]? =some (some Q)→∀z:Int,z∈Q.l↔0≤z∧∃e,(w.put x (y.1,k,s)).cs[z.toNat]? =some (((h:Nat):Int),e):=fun h Q hQ z=>by
  rw[l.mem h Q hQ z]
  by_cases Y1:z.toNat=x.toNat
  ·rw[Y1,cU,hy]
   constructor
   ·rintro⟨z0,e,he⟩
    injection he with he
    exact⟨z0,(k,s),by rw[he]⟩
   ·rintro⟨z0,e,he⟩
    injection he with he
    injection he with YY _
    exact⟨z0,y.2,by rw[←YY]⟩
  ·rw[lF _ Y1]
 have bq:=M7 _ P hP
 have bf:=l.len _ P hP
 rw[AJ]at bq bf
 have hxP:x∈P.l:=(bq x).2 ⟨gB,_,cU⟩
 have Hi:∀z∈P.l,df (w.put x (y.1,k,s)).cs z:=fun z hz=>by
  obtain⟨z0,e,he⟩:=(bq z).1 hz
  exact⟨z0,_,he,gA⟩
 obtain⟨i,hi⟩:=aqB hxP
 have qR:=(aqc.1 hi).1
 obtain⟨_,Wu⟩:=l.Ur _ P hP i x hi
 have XD:=(aqc.1 Wu).1
 obtain⟨f,cc,lb,rfl,rfl,hf,VE,dI⟩:=m2.atp hP
 obtain⟨fa',ac,la,rfl,hfa,YZ,Y0,_,_⟩:=Sl.at_ Z5 (i:=x.toNat) (x:=i64 i) (by simp[Wu])
 have LC:∀j,j<P.l.length→j≠i→(P.l.getD j 0).toNat≠x.toNat:=fun j hj aR e=>by
  have hgj:P.l[j]? =some (P.l.getD j 0):=by rw[aqf,aqb hj];rfl
  have h0:=((bq _).1 (aqg hgj)).1
  rw[show P.l.getD j 0=x by omega]at hgj
  exact aR ((l.Ur _ P hP).GW hgj hi)
 have hA:dY (aQ (w.put x (y.1,k,s))) 2 P.l i:=by
  have hb:=(l.ok _ P hP).but (aw w) eo i
  refine⟨fun j h1 h2 h3 h4=>?_,fun j h1 h2 h3 h4=>?_⟩
  ·have:=cQ eo h1
   rw[im w x _ (LC j h2 h3) (LC _ (by omega) h4)]
   exact hb.1 j h1 h2 h3 h4
  ·have:=cQ eo h1
   have:=cQ eo h4
   rw[im w x _ (LC j h2 (by omega)) (LC _ (by omega) (by omega))]
   exact hb.2 j h1 h2 h3 h4
 refine v1 (ae ho2) ?_
 refine⟨by omega,?_⟩
 simp(disch:=(first|omega| (simp only[Zs]<;>omega)|fail)) only[go_sem, ↓reduceIte,Zv,ae hf,aqd,VE,Uq,ae ho2]
 refine⟨by omega,?_⟩
 refine v3 (ae YZ) aqd Y0 ?_
 refine(IV (m2.OQ hP) (l.Ur _ P hP) qR Hi hA).mono ?_
 rintro _ H3 ⟨rfl,l',mJ,q,o,iK,hq⟩
 refine vs ?_
 have pg:=e1.trans e2
 have hT:∀z,(C z∨P.fp=some z∨fa=some z)→C z∨P.S z∨fa=some z:=fun z hz=>by
  rcases hz with hz|hz|hz
  ·exact .inl hz
  ·exact .inr (.inl (.inr hz))
  ·exact .inr (.inr hz)
 have sS:∀z,(C z∨P.fp=some z∨fa=some z)→S z:=fun z hz=>(hS z).1 (by
  rcases hT z hz with hz|hz|hz
  ·exact .inl hz
  ·exact .inr (.inr (.inr (.inr ⟨_,P,hP,hz⟩)))
  ·exact .inr (.inr (.inr (.inl hz))))
 have aR:∀ (h:Nat) Q,h≠y.1.toNat→ps[h]? =some (some Q)→∀z∈Q.l,z.toNat≠x.toNat:=fun h Q hh hQ z hz e=>by
  obtain⟨z0,e',he⟩:=(l.mem h Q hQ z).1 hz
  rw[e,hy]at he
  injection he with he
  rw[he]at hh
  simp only[Int.toNat_natCast]at hh
  exact hh rfl
 have hwl:∀h:Int,(w.put x (y.1,k,s)).len h=w.len h:=fun h=>by
  rw[Nw.gC hy h]
  simp only
  split<;>omega
 have hol:=o.len
 refine .inr ⟨bH,y,hy,fR,rfl,q,by rw[←bf];exact hq,Ez n C (some f) fa (ps.set y.1.toNat (some ⟨P.r,P.fp,l'⟩)),
  ⟨c,C,_,some f,fa,_,mJ,m2.KT hP (P':=⟨P.r,P.fp,l'⟩) rfl o.jG (.inl rfl) o.ext hT,
   ⟨by rw[aqe];exact l.hl,fun h=>?_,?_,fun h Q hQ=>?_,fun h Q hQ=>?_,fun h Q hQ z=>?_,fun h Q hQ=>?_,?_⟩,fun z=>Iff.rfl⟩,?_,fun z hz=>?_⟩
 ·show w.hs[h]? =some true↔_
  rw[l.hs h]
  by_cases M6:h=y.1.toNat
  ·subst M6
   rw[aqi dI]
   exact⟨fun _=>⟨_,rfl⟩,fun _=>⟨P,hP⟩⟩
  ·rw[aqh (Ne.symm M6)]
 ·rw[aqh (by omega)];exact l.h0
 ·rcases gO dI hQ with ⟨rfl,rfl⟩| ⟨h5,h6⟩
  ·exact iK
  ·exact(l.ok h Q h6).KR fun z hz v hv=>(im w x _ (aR h Q h5 h6 z hz) (aR h Q h5 h6 v hv)).symm
 ·rcases gO dI hQ with ⟨rfl,rfl⟩| ⟨h5,h6⟩
  ·exact o.ok
  ·exact(l.Ur h Q h6).YU fun z hz z0=>o.off z z0 (l.apart h6 hP h5 hz)
 ·rcases gO dI hQ with ⟨rfl,rfl⟩| ⟨h5,h6⟩
  ·rw[AJ]
   show z∈l'↔_
   rw[o.mem z,bq z]
  ·exact M7 h Q h6 z
 ·rw[hwl]
  rcases gO dI hQ with ⟨rfl,rfl⟩| ⟨h5,h6⟩
  ·rw[AJ]
   show(l'.length:Int)=_
   omega
  ·exact l.len h Q h6
 ·rw[o.M5,l.M5];exact(aqe ..).symm
 ·exact(f0.mono fun _ _ h=>h.elim).trans ((pg.mono fun z _ hz=>sS z (.inl hz)).trans (o.ext.mono fun z _ hz=>sS z hz))
 ·rcases hz with hz|rfl|hz|hz| ⟨j,Q,hQ,hz⟩
  ·exact .inl (sS z (.inl hz))
  ·exact .inl ((hS z).1 (.inr (.inl rfl)))
  ·exact .inl ((hS z).1 (.inr (.inr (.inl hz))))
  ·exact .inl (sS z (.inr (.inr hz)))
  ·rcases gO dI hQ with ⟨rfl,rfl⟩| ⟨h5,h6⟩
   ·rcases hz with rfl|hz
    ·exact .inl ((hS _).1 (.inr (.inr (.inr (.inr ⟨_,P,hP,.inl rfl⟩)))))
    ·exact .inl (sS z (.inr (.inl hz)))
   ·exact .inl ((hS z).1 (.inr (.inr (.inr (.inr ⟨j,Q,h6,hz⟩)))))
theorem DW{ov:Value}{I:Hp→Nat→Prop}{T:Nat→Prop}{lt:Int→Int→Bool}{D:Int→Prop}(ho:OD ov I T lt D){H:Hp}{r:Nat}{S:Nat→Prop}{d:Int}{l:List Int}{pl:Int→Option Int}
  (h:dK H r S d l pl)(hd:∀x,S x→¬T x){n:Nat}(hI:I H n)(hf:cY d)(x:Int)(hl:l.length≤1000000)(hp:DI l pl)(hD:∀z∈l,D z:=by intros;trivial):
  af Tryz.prog Bf [ptr r,ov,i64 x] H fun v H'=>ax (
   (pl x=none∧v= .bool false∧H=H')∨
   (∃i,pl x=some i∧v= .bool true∧dK H' r S d (cW lt d x l pl i).1 (cW lt d x l pl i).2.1∧I H' (n+(cW lt d x l pl i).2.2)∧ag (fun z=>S z∨T z) H H')):=by
 obtain⟨⟨sv,fp,mb,a1,a2,a3,s1,s2,s3,s4⟩,h2⟩:=id h
 have key:hX true (Value.int .i64 0) ((pl x).map i64)= .tuple [i64 ((pl x).getD 0),.bool (pl x).isSome].toArray:=by cases pl x<;>rfl
 refine bm BB ?_
 refine v3 (ae a1) a3.look key ?_
 cases hx:pl x with
 |none=>
  simp(disch:=(first|omega| (simp only[Zs]<;>omega)|fail)) only[go_sem, ↓reduceIte,Zv,Option.isSome_none]
  exact .inl ⟨rfl,rfl,rfl⟩
 |some i=>
  obtain⟨i0,Y2⟩:=(hp x i).1 hx
  have qR:i.toNat<l.length:=(aqc.1 Y2).1
  obtain⟨f,rfl⟩:∃f,fp=some f:=by
   cases fp with
   |none=>obtain⟨_,e,_⟩:=a2;omega
   |some f=>exact⟨f,rfl⟩
  have XY:=a2
  obtain⟨_,l1,c,rfl,g2,a5,a6,a7⟩:=XY
  have g3:∀ (i:Nat) (x:Int),l[i]? =some x→l1[i]? =some (i64 x):=fun i x h=>by
   have aN:=(aqc.1 h).1
   have h1:(l.map i64)[i]? =some (i64 x):=by simp[h]
   rw[←a7,aqF (by omega)]at h1
   exact h1
  have jk:l[l.length - 1]? =some (l.getD (l.length - 1) 0):=by
   rw[aqf,aqb (by omega)];rfl
  have Y3:=g3 _ _ jk
  have e1:IntKind.i64.wrap ((l.length:Int) - 1)=((l.length - 1:Nat):Int):=by rw[wrap64 (by omega) (by omega)];omega
  simp(disch:=(first|omega| (simp only[Zs]<;>omega)|fail)) only[go_sem, ↓reduceIte,Zv,Option.isSome_some,Option.getD_some,ae a1,e1,Int.toNat_natCast]
  refine⟨by omega,?_⟩
  refine v5 (ae g2) (ae a1) aqd Y3 e1 ?_
  refine⟨by omega,?_⟩
  obtain⟨Nq,oG,SP⟩:=s4 f rfl
  have pO:Value.slice (if(c:Int)=((0:Nat):Int)then some (⟨f,0,none⟩:Addr)else Option.map (fun(x:Addr)=>x.add (((0:Nat):Int).toNat*1)) (some (⟨f,0,none⟩:Addr))) (((l.length - 1:Nat):Int).toNat - ((0:Nat):Int).toNat) ((c:Int).toNat - ((0:Nat):Int).toNat)= .slice (some ⟨f,0,none⟩) (l.length - 1) c:=by
   split<;>rfl
  refine v2 (ae a1) a1 ?_
  rw[pO]
  have ew:ag (fun z=>z=r) H (H.wr r [i64 d,.slice (some ⟨f,0,none⟩) (l.length - 1) c,.map (some mb)]):=(ag.refl (fun z=>z=r) _).wr (fun _=>rfl) _
  have b1:(H.wr r [i64 d,.slice (some ⟨f,0,none⟩) (l.length - 1) c,.map (some mb)]).own r=some [i64 d,.slice (some ⟨f,0,none⟩) (l.length - 1) c,.map (some mb)]:=ai a1
  have b3:=a3.ext ew (Ne.symm s3)
  refine v1 (ae b1) ?_
  refine b3.del fun H2 m2 e2=>?_
  rw[MM]at m2
  have e02:ag S H H2:=(ew.mono fun z _ hz=>hz▸s1).trans (e2.mono fun z _ hz=>hz▸s2)
  have hr:dK H2 r S d l.dropLast (sM pl x):=by
   refine⟨⟨.slice (some ⟨f,0,none⟩) (l.length - 1) c,some f,mb,e2.own b1 s3,⟨by simp,l1,c,by rw[aqL],(e2.own ((ew.own g2 oG)) SP),by rw[aqL];omega,a6,?_⟩,m2,s1,s2,s3,s4⟩,
    fun z hz=>aqw (h2 z hz) e02.size⟩
   have hx7:((l.map i64).length)=l.length:=by simp
   rw[aqL,List.map_dropLast,arI,hx7,←a7,ar4]
   congr 1
   omega
  have RI:=ho.aM _ _ _ _ hI e02 (fun z hz hs=>hd z hs hz)
  refine vs ?_
  have o8:l.dropLast.length=l.length - 1:=aqL
  refine ar.dec (fun he=>?_) (fun he=>?_)<;>refine vs ?_
  ·refine .inr ⟨i,rfl,rfl,?_,?_,e02.mono fun z _ hz=>.inl hz⟩
   ·unfold cW;rw[if_pos he];exact hr
   ·unfold cW;rw[if_pos he];exact RI
  ·have Y4:l.getD (l.length - 1) 0∈l:=aqg jk
   have ni:i.toNat≠l.length - 1:=fun e=>by rw[e,jk]at Y2;injection Y2 with Y2;exact he Y2
   refine(sN ho hr hd RI i (l.getD (l.length - 1) 0) ⟨i0,by omega⟩ (by omega) (hD _ Y4) (fun z hz=>hD z ((asb _).subset hz))).mono ?_
   rintro _ H3 ⟨rfl,r3,i3,e3⟩
   have OR:=(e02.mono fun z _ hz=>Or.inl hz).trans e3
   refine vs ?_
   refine ar.dec (fun uO=>?_) (fun uO=>?_)<;>refine vs ?_
   ·have Us:=wC lt d (l.getD (l.length - 1) 0) i.toNat l.dropLast (sM pl x) i
    refine(GU ho r3 hd i3 hf i (l.getD (l.length - 1) 0) ⟨i0,by omega⟩ (by omega) (hD _ Y4) (fun z hz=>by
     rcases Vr lt d _ _ _ _ _ i0 (by omega) z hz with h|h
     ·rw[h];exact hD _ Y4
     ·exact hD z ((asb _).subset h))).mono ?_
    rintro _ H4 ⟨r4,i4,e4⟩
    refine vs ?_
    refine .inr ⟨i,rfl,rfl,?_,?_,OR.trans e4⟩
    ·unfold cW;rw[if_neg he];simp only;rw[if_pos uO];exact r4
    ·unfold cW;rw[if_neg he];simp only;rw[if_pos uO,←asj];exact i4
   ·refine .inr ⟨i,rfl,rfl,?_,?_,OR⟩
    ·unfold cW;rw[if_neg he];simp only;rw[if_neg uO];exact r3
    ·unfold cW;rw[if_neg he];simp only;rw[if_neg uO];exact i3
end Go.Proofs.YthpjfeolagohkaaGreat
