/- Texts put behind each other. -/
import Derived.Test.YtjlnnljohemifaaGreatK98
import Derived.Test.YtjlnnljohemifaaGreatK25
import Derived.Test.YtjlnnljohemifaaGreatK26
import Derived.Test.YtjlnnljohemifaaGreatK31
set_option maxRecDepth 100000
set_option maxHeartbeats 8000000
set_option linter.unusedVariables false
set_option linter.unusedSimpArgs false
namespace Go.Proofs.YtjlnnljohemifaaGreat
open Go Go.Vc
structure Pl where
 r:Nat
 fp:Option Nat
 l:List Int
def Pl.S(P:Pl)(x:Nat):Prop:=x=P.r∨P.fp=some x
def SV:Option Pl→Value
 |none=>.pointer none
 |some P=>ptr P.r
structure mh(H:Hp)(n c:Nat)(C:Nat→Prop)(rv:Value)(fr fa:Option Nat)(st:Int)(w:Nw)(ps:List (Option Pl))(at_:List Int):Prop where
 own:∃av,H.own n=some [ptr c,rv,av]∧Sl H 1 av at_.length (at_.map i64) fa
 cells:ba H c C st w
 sl:Sl H 1 rv ps.length (ps.map SV) fr
 jx:∀ (h:Nat) P,ps[h]? =some (some P)→∃sv,H.own P.r=some [ptr n,sv]∧Sl H 1 sv P.l.length (P.l.map i64) P.fp
 nC:¬C n
 Ou:∀b,fr=some b→¬C b∧b≠n∧fa≠some b
 Ju:∀b,fa=some b→¬C b∧b≠n
 pd:∀ (h:Nat) P,ps[h]? =some (some P)→∀x,P.S x→¬C x∧x≠n∧fr≠some x∧fa≠some x
 pr:∀ (h:Nat) P,ps[h]? =some (some P)→P.fp≠some P.r∧P.l.length≤65536
 pp:∀ (h h':Nat) P P',ps[h]? =some (some P)→ps[h']? =some (some P')→h≠h'→∀x,P.S x→¬P'.S x
def Do(n:Nat)(C:Nat→Prop)(fr fa:Option Nat)(ps:List (Option Pl))(z:Nat):Prop:=C z∨z=n∨fr=some z∨fa=some z∨∃ (h:Nat) (P:Pl),ps[h]? =some (some P)∧P.S z
structure FV(w:Nw)(ps:List (Option Pl))(at_:List Int):Prop where
 hl:ps.length=w.hs.length
 hs:∀h:Nat,w.hs[h]? =some true↔∃P,ps[h]? =some (some P)
 h0:ps[0]? =some none
 ok:∀ (h:Nat) P,ps[h]? =some (some P)→eE (aQ w) 2 P.l
 SW:∀ (h:Nat) P,ps[h]? =some (some P)→mB P.l at_
 mem:∀ (h:Nat) P,ps[h]? =some (some P)→∀x:Int,x∈P.l↔0≤x∧∃e,w.cs[x.toNat]? =some (((h:Nat):Int),e)
 len:∀ (h:Nat) P,ps[h]? =some (some P)→(P.l.length:Int)=w.len h
 Ly:at_.length=w.cs.length
def dw(H:Hp)(n:Nat)(S:Nat→Prop)(st:Int)(w:Nw):Prop:=∃c C rv fr fa ps at_,mh H n c C rv fr fa st w ps at_∧FV w ps at_∧(∀z,Do n C fr fa ps z↔S z)
section
variable {H H' : Hp} {n c : Nat} {C T : Nat → Prop} {rv : Value} {fr fa : Option Nat} {st WN : Int} {w w' : Nw} {ps : List (Option Pl)} {at_ mf : List Int} {S : Nat → Prop}
theorem mh.slt(h:mh H n c C rv fr fa st w ps at_):∀z,Do n C fr fa ps z→z<H.size:=by
 obtain⟨av,ho,ha⟩:=h.own
 rintro z (hz|rfl|hz|hz| ⟨i,P,hP,hz⟩)
 ·exact h.cells.slt z hz
 ·exact aA ho
 ·exact Sl.lt (hz▸h.sl)
 ·exact Sl.lt (hz▸ha)
 ·obtain⟨sv,h1,h2⟩:=h.jx i P hP
  rcases hz with rfl|hz
  ·exact aA h1
  ·exact Sl.lt (hz▸h2)
theorem mh.ext(h:mh H n c C rv fr fa st w ps at_)(e:ag T H H')(hd:∀z,Do n C fr fa ps z→¬T z):mh H' n c C rv fr fa st w ps at_:=by
 obtain⟨av,ho,ha⟩:=h.own
 refine⟨⟨av,e.own ho (hd n (.inr (.inl rfl))),ha.ext e (fun b hb=>hd b (.inr (.inr (.inr (.inl hb)))))⟩,h.cells.ext e (fun x hx=>hd x (.inl hx)),h.sl.ext e (fun b hb=>hd b (.inr (.inr (.inl hb)))),fun i P hP=>?_,h.nC,h.Ou,h.Ju,h.pd,h.pr,h.pp⟩
 obtain⟨sv,h1,h2⟩:=h.jx i P hP
 exact⟨sv,e.own h1 (hd _ (.inr (.inr (.inr (.inr ⟨i,P,hP,.inl rfl⟩))))),h2.ext e (fun b hb=>hd b (.inr (.inr (.inr (.inr ⟨i,P,hP,.inr hb⟩)))))⟩
theorem mh.aJ(h:mh H n c C rv fr fa st w ps at_)(c1:ba H' c C WN w')(e:ag C H H'):mh H' n c C rv fr fa WN w' ps at_:=by
 obtain⟨av,ho,ha⟩:=h.own
 refine⟨⟨av,e.own ho h.nC,ha.ext e (fun b hb=>(h.Ju b hb).1)⟩,c1,h.sl.ext e (fun b hb=>(h.Ou b hb).1),fun i P hP=>?_,h.nC,h.Ou,h.Ju,h.pd,h.pr,h.pp⟩
 obtain⟨sv,h1,h2⟩:=h.jx i P hP
 exact⟨sv,e.own h1 (h.pd i P hP _ (.inl rfl)).1,h2.ext e (fun b hb=>(h.pd i P hP b (.inr hb)).1)⟩
theorem dw.slt(h:dw H n S st w):∀z,S z→z<H.size:=by
 obtain⟨c,C,rv,fr,fa,ps,at_,m,l,hS⟩:=h
 exact fun z hz=>m.slt z ((hS z).2 hz)
theorem dw.ext(h:dw H n S st w)(e:ag T H H')(hd:∀z,S z→¬T z):dw H' n S st w:=by
 obtain⟨c,C,rv,fr,fa,ps,at_,m,l,hS⟩:=h
 exact⟨c,C,rv,fr,fa,ps,at_,m.ext e (fun z hz=>hd z ((hS z).1 hz)),l,hS⟩
theorem dw.fresh(h:dw H n S st w)(e:ai H H'):dw H' n S st w:=h.ext e fun _ _ h=>h
theorem mh.Nh(m:mh H n c C rv fr fa st w ps at_){g:Nat}{P:Pl}(hP:ps[g]? =some (some P)):gO H n c C rv P.r P.fp fa st w P.l at_:=by
 have hd:=m.pd g P hP
 refine⟨m.own,m.cells,m.jx g P hP,m.nC,(hd P.r (.inl rfl)).1,(hd P.r (.inl rfl)).2.1,fun b hb=>⟨(hd b (.inr hb)).1,(hd b (.inr hb)).2.1,fun h=>(m.pr g P hP).1 (by rw[hb,h]),(hd b (.inr hb)).2.2.2⟩,fun b hb=>⟨(m.Ju b hb).1,(m.Ju b hb).2,fun h=>(hd P.r (.inl rfl)).2.2.2 (by rw[hb,h])⟩,(m.pr g P hP).2⟩
theorem mh.Jx(m:mh H n c C rv fr fa st w ps at_){g:Nat}{P P':Pl}(hP:ps[g]? =some (some P))(hr:P'.r=P.r)(pm:gO H' n c C rv P'.r P'.fp fa WN w' P'.l mf)(gu:P'.fp=P.fp∨∃z,P'.fp=some z∧H.size≤z)
  (e:ag T H H')(hT:∀z,T z→C z∨P.S z∨fa=some z):mh H' n c C rv fr fa WN w' (ps.set g (some P')) mf:=by
 have eQ:=m.slt
 have hg:=(anu.1 hP).1
 have hPS:∀x,P'.S x→P.S x∨H.size≤x:=fun x hx=>by
  rcases hx with rfl|hx
  ·exact .inl (.inl hr)
  ·rcases gu with h| ⟨z,h,h5⟩
   ·exact .inl (.inr (h▸hx))
   ·rw[h]at hx;injection hx with hx;exact .inr (by omega)
 have bW:∀ (h:Nat) Q,(ps.set g (some P'))[h]? =some (some Q)→(h=g∧Q=P')∨(h≠g∧ps[h]? =some (some Q)):=fun h Q hQ=>by
  by_cases hh:h=g
  ·subst hh
   rw[anB hg]at hQ
   simp only[anE]at hQ
   exact .inl ⟨rfl,hQ.symm⟩
  ·rw[anA (Ne.symm hh)]at hQ
   exact .inr ⟨hh,hQ⟩
 have hd:=m.pd g P hP
 refine⟨pm.own,pm.cells,?_,fun h Q hQ=>?_,m.nC,m.Ou,m.Ju,fun h Q hQ x hx=>?_,fun h Q hQ=>?_,fun h h' Q Q' hQ hQ' aP x hx wZ=>?_⟩
 ·have h1:(ps.set g (some P')).map SV=ps.map SV:=by
   rw[aoh]
   refine aoo fun i=>?_
   by_cases hi:i=g
   ·subst hi
    rw[anB (by rw[anQ];exact hg),anR,hP]
    simp[SV,hr]
   ·rw[anA (Ne.symm hi)]
  rw[h1,anv]
  exact m.sl.ext e (fun b hb ht=>by
   rcases hT b ht with h|h|h
   ·exact(m.Ou b hb).1 h
   ·exact(hd b h).2.2.1 hb
   ·exact(m.Ou b hb).2.2 h)
 ·rcases bW h Q hQ with ⟨rfl,rfl⟩| ⟨h1,h2⟩
  ·exact pm.jx
  ·obtain⟨sv,q1,q2⟩:=m.jx h Q h2
   have bK:∀x,Q.S x→¬T x:=fun x hx ht=>by
    rcases hT x ht with h3|h3|h3
    ·exact(m.pd h Q h2 x hx).1 h3
    ·exact m.pp h g Q P h2 hP h1 x hx h3
    ·exact(m.pd h Q h2 x hx).2.2.2 h3
   exact⟨sv,e.own q1 (bK _ (.inl rfl)),q2.ext e (fun b hb=>bK b (.inr hb))⟩
 ·rcases bW h Q hQ with ⟨rfl,rfl⟩| ⟨h1,h2⟩
  ·rcases hPS x hx with h3|h3
   ·exact hd x h3
   ·refine⟨fun hc=>?_,fun hc=>?_,fun hc=>?_,fun hc=>?_⟩
    ·have:=eQ x (.inl hc);omega
    ·have:=eQ n (.inr (.inl rfl));omega
    ·have:=eQ x (.inr (.inr (.inl hc)));omega
    ·have:=eQ x (.inr (.inr (.inr (.inl hc))));omega
  ·exact m.pd h Q h2 x hx
 ·rcases bW h Q hQ with ⟨rfl,rfl⟩| ⟨h1,h2⟩
  ·refine⟨fun hc=>?_,pm.ll⟩
   exact(pm.xd _ hc).2.2.1 rfl
  ·exact m.pr h Q h2
 ·rcases bW h Q hQ with ⟨rfl,rfl⟩| ⟨h1,h2⟩
  ·rcases bW h' Q' hQ' with ⟨rfl,rfl⟩| ⟨h3,h4⟩
   ·exact aP rfl
   ·rcases hPS x hx with h5|h5
    ·exact m.pp _ h' P Q' hP h4 aP x h5 wZ
    ·have:=eQ x (.inr (.inr (.inr (.inr ⟨h',Q',h4,wZ⟩))));omega
  ·rcases bW h' Q' hQ' with ⟨rfl,rfl⟩| ⟨h3,h4⟩
   ·rcases hPS x wZ with h5|h5
    ·exact m.pp h _ Q P h2 hP aP x hx h5
    ·have:=eQ x (.inr (.inr (.inr (.inr ⟨h,Q,h2,hx⟩))));omega
   ·exact m.pp h h' Q Q' h2 h4 aP x hx wZ
theorem mh.atp(m:mh H n c C rv fr fa st w ps at_){i:Nat}{o:Option Pl}(h:ps[i]? =some o):∃f cc lb,rv= .slice (some ⟨f,0,none⟩) ps.length cc∧fr=some f∧H.own f=some lb∧lb[i]? =some (SV o)∧i<ps.length:=by
 obtain⟨b,cc,lb,h1,h2,h3,h4,h5,_⟩:=Sl.at_ m.sl (i:=i) (x:=SV o) (by simp[h])
 exact⟨b,cc,lb,h1,h2,h3,h4,h5⟩
theorem FV.eZ(l:FV w ps at_){g:Int}(h:w.has g):∃P,ps[g.toNat]? =some (some P):=(l.hs g.toNat).1 h.2
end
theorem HC(cap:Int)(H:Hp):af Tryz.prog MM [i64 cap] H fun v H'=>aw (
  ai H H'∧((¬ (0≤cap∧cap≤65536)∧v= .tuple [.pointer none,i64 31].toArray)∨
   ((0≤cap∧cap≤65536)∧∃n S,v= .tuple [ptr n,i64 0].toArray∧dw H' n S 0 ⟨[false],List.replicate cap.toNat (0,0,0)⟩∧∀x,S x→H.size≤x))):=by
 refine bm MR ?_
 refine vs ?_
 refine(lC cap H).mono ?_
 rintro _ H1 ⟨f1,⟨hb,rfl⟩| ⟨hb,c,C,rfl,c1,hC⟩⟩
 ·refine vs ?_
  exact⟨f1,.inl ⟨hb,rfl⟩⟩
 refine v1 aoi ?_
 refine⟨by omega,?_⟩
 refine vs ?_
 have afk:∀k:Nat,cA [Value.int .i64 0] k=(List.replicate k (0:Int)).map i64:=fun k=>by
  induction k with
  |zero=>rfl
  |succ k ih=>simp only[cA,aoc,aos,aom]at*;rw[ih];rfl
 rw[afk]
 have xE:=c1.slt
 have z1:=f1.size
 have f3:ai H1 (((H1.new 370 [.pointer none]).new 3 ((List.replicate cap.toNat (0:Int)).map i64)).new 285 [ptr c,.slice (some ⟨H1.size,0,none⟩) 1 1,.slice (some ⟨H1.size+1,0,none⟩) cap.toNat cap.toNat]):=(((ag.refl _ _).new _ _).new _ _).new _ _
 have e2:ag (fun _=>False) ((H1.new 370 [.pointer none]).new 3 ((List.replicate cap.toNat (0:Int)).map i64)) (((H1.new 370 [.pointer none]).new 3 ((List.replicate cap.toNat (0:Int)).map i64)).new 285 [ptr c,.slice (some ⟨H1.size,0,none⟩) 1 1,.slice (some ⟨H1.size+1,0,none⟩) cap.toNat cap.toNat]):=(ag.refl _ _).new _ _
 have e1:ag (fun _=>False) (H1.new 370 [.pointer none]) ((H1.new 370 [.pointer none]).new 3 ((List.replicate cap.toNat (0:Int)).map i64)):=(ag.refl _ _).new _ _
 have bK:∀ (h:Nat) (P:Pl),([none]:List (Option Pl))[h]? ≠some (some P):=fun h P hP=>by rcases h with _|h<;>simp at hP
 refine⟨f1.trans f3,.inr ⟨hb,H1.size+1+1,Do (H1.size+1+1) C (some H1.size) (some (H1.size+1)) [none],rfl,⟨c,C,_,some H1.size,some (H1.size+1),[none],List.replicate cap.toNat 0,
  ⟨⟨_,aV (by simp only[aq]),?_⟩,c1.fresh f3,?_,fun h P hP=>absurd hP (bK h P),fun h=>by have:=xE _ h;omega,fun b hb=>?_,fun b hb=>?_,fun h P hP=>absurd hP (bK h P),fun h P hP=>absurd hP (bK h P),fun h h' P P' hP=>absurd hP (bK h P)⟩,
  ⟨rfl,fun h=>?_,rfl,fun h P hP=>absurd hP (bK h P),fun h P hP=>absurd hP (bK h P),fun h P hP=>absurd hP (bK h P),fun h P hP=>absurd hP (bK h P),by simp⟩,fun z=>Iff.rfl⟩,fun x hx=>?_⟩⟩
 ·rw[aog]
  exact(Sl.cf (size:=1) (n:=cap.toNat) (xs:=(List.replicate cap.toNat (0:Int)).map i64) (by simp) (by simp only[aq])).ext e2 (fun _ _ h=>h)
 ·exact((Sl.cf (size:=1) (n:=1) (xs:=[.pointer none]) rfl rfl).ext e1 (fun _ _ h=>h)).ext e2 (fun _ _ h=>h)
 ·injection hb with hb
  subst hb
  exact⟨fun h=>by have:=xE _ h;omega,by omega,fun h=>by injection h with h;omega⟩
 ·injection hb with hb
  subst hb
  exact⟨fun h=>by have:=xE _ h;omega,by omega⟩
 ·rcases h with _|h<;>simp
 ·rcases hx with hx|rfl|hx|hx| ⟨i,P,hP,hx⟩
  ·exact hC x hx
  ·omega
  ·injection hx with hx;omega
  ·injection hx with hx;omega
  ·exact absurd hP (bK i P)
theorem FW{H:Hp}{n:Nat}{S:Nat→Prop}{st:Int}{w:Nw}(h:dw H n S st w):af Tryz.prog pH [ptr n] H fun v H'=>aw (
  (w.hs.length=65537∧v=i64 0∧H=H')∨
  (w.hs.length≠65537∧v=i64 w.hs.length∧∃S',dw H' n S' st w.make∧ag S H H'∧∀x,S' x→S x∨H.size≤x)):=by
 obtain⟨c,C,rv,fr,fa,ps,at_,m,l,hS⟩:=h
 obtain⟨av,ho,ha⟩:=m.own
 refine bm Ch ?_
 refine v1 (ae ho) ?_
 refine(jY m.cells).mono ?_
 rintro _ H1 (⟨h1,rfl,rfl⟩| ⟨h1,rfl,C',c1,e1,zk⟩)
 ·refine vs ?_
  exact .inl ⟨h1,rfl,rfl⟩
 have fY:0<ps.length:=(anu.1 l.h0).1
 have oK:=l.hl
 have o1:=e1.own ho m.nC
 refine vs ?_
 refine am.cF (anI (by omega)) ?_
 refine v1 (ae o1) ?_
 have zH:=m.cells.zH
 have eQ:=m.slt
 have RT:=c1.slt
 have z1:=e1.size
 have e2:ag (fun _=>False) H1 (H1.new 374 [ptr n,.slice none 0 0]):=(ag.refl _ _).new _ _
 have hq2:(H1.new 374 [ptr n,.slice none 0 0]).own H1.size=some [ptr n,.slice none 0 0]:=aB _ _ _
 have z2:(H1.new 374 [ptr n,.slice none 0 0]).size=H1.size+1:=by simp only[aq]
 generalize (H1.new 374 [ptr n,.slice none 0 0])=H2 at*
 have e0:ag (fun _=>False) H2 (H2.new 370 [ptr H1.size]):=(ag.refl _ _).new _ _
 have It:=(m.sl.ext e1 (fun b hb h=>(m.Ou b hb).1 h)).ext e2 (fun _ _ h=>h)
 have o2:=e2.own o1 (fun h=>h)
 refine Sl.append (It.ext e0 (fun _ _ h=>h)) (Sl.cf (size:=1) (n:=1) (xs:=[ptr H1.size]) rfl z2.symm).rd rfl (by intro v hv;simp only[anC]at hv;subst hv;rfl) (by omega) ?_
 intro v' H3 fr' s3 e3 Wm
 have Ni:ag (fun z=>fr=some z) H2 H3:=(e0.mono fun _ _ h=>h.elim).oJ e3 (fun z _ h=>h)
 have o3:=Ni.own o2 (fun h=>(m.Ou n h).2.1 rfl)
 obtain⟨a',WM,NU⟩:=dc.Rp s3.rd
 subst NU
 refine v1 o3 ?_
 generalize NU:Value.slice a' (ps.length+1) WM=v' at*
 have e4:ag (fun z=>z=n) H3 (H3.wr n [ptr c,v',av]):=(ag.refl (fun z=>z=n) _).wr (fun _=>rfl) _
 have hn:=aA ho
 have TU:∀b,fr=some b→b<H.size:=fun b hb=>eQ b (.inr (.inr (.inl hb)))
 have WO:∀b,fa=some b→b<H.size:=fun b hb=>eQ b (.inr (.inr (.inr (.inl hb))))
 have Nj:∀b,fr'=some b→fr=some b∨H2.size≤b:=fun b hb=>by
  rcases Wm with h| ⟨z,h,h5,_⟩
  ·exact .inl (h▸hb)
  ·rw[h]at hb;injection hb with hb;subst hb;rw[aq]at h5;exact .inr (by omega)
 have bW:∀ (h:Nat) P,(ps++[some (⟨H1.size,none,[]⟩:Pl)])[h]? =some (some P)→ps[h]? =some (some P)∨(h=ps.length∧P=⟨H1.size,none,[]⟩):=fun h P hP=>by
  rcases aoU h ps.length with h5|h5|h5
  ·rw[anJ h5]at hP;exact .inl hP
  ·subst h5
   rw[anX (anG _),aoI]at hP
   simp only[anY,anE]at hP
   exact .inr ⟨rfl,hP.symm⟩
  ·rw[anK (by rw[anD,anM];omega)]at hP
   cases hP
 have hold:∀ (h:Nat) P,ps[h]? =some (some P)→∀x,P.S x→x<H.size:=fun h P hP x hx=>eQ x (.inr (.inr (.inr (.inr ⟨h,P,hP,hx⟩))))
 have qH:∀x,(⟨H1.size,none,[]⟩:Pl).S x→x=H1.size:=fun x hx=>by rcases hx with h|h;exact h;cases h
 have Jy:∀ (x:Nat) (e:Int×Int),w.cs[x]? ≠some (((ps.length:Nat):Int),e):=fun x e hx=>by
  have:=(m.cells.home _ (anz hx)).2
  simp only at this
  omega
 refine .inr ⟨h1,rfl,Do n C' fr' fa (ps++[some ⟨H1.size,none,[]⟩]),⟨c,C',v',fr',fa,ps++[some ⟨H1.size,none,[]⟩],at_,
  ⟨⟨av,ah o3,?_⟩,?_,?_,fun h P hP=>?_,fun h=>?_,fun b hb=>⟨fun h=>?_,?_,fun h=>?_⟩,fun b hb=>⟨fun h=>?_,(m.Ju b hb).2⟩,fun h P hP x hx=>⟨fun h=>?_,?_,fun h=>?_,fun h=>?_⟩,fun h P hP=>?_,fun h h' P P' hP hP' aP x hx wZ=>?_⟩,
  ⟨?_,fun h=>?_,?_,fun h P hP=>?_,fun h P hP=>?_,fun h P hP x=>?_,fun h P hP=>?_,l.Ly⟩,fun z=>Iff.rfl⟩,?_,fun x hx=>?_⟩
 ·exact(((ha.ext e1 (fun b hb h=>(m.Ju b hb).1 h)).ext e2 (fun _ _ h=>h)).ext Ni (fun b hb h=>(m.Ou b h).2.2 hb)).ext e4 (fun b hb h=>(m.Ju b hb).2 h)
 ·exact((c1.ext e2 (fun _ _ h=>h)).ext Ni (fun x hx e=>by
   rcases zk x hx with h|h
   ·exact(m.Ou x e).1 h
   ·have:=TU x e;omega)).ext e4 (fun x hx e=>by
   rcases zk x hx with h|h
   ·exact m.nC (e▸h)
   ·omega)
 ·have:=s3.ext e4 (fun b hb e=>by
   rcases Nj b hb with h|h
   ·exact(m.Ou b h).2.1 e
   ·omega)
  rw[anD,an8]
  exact this
 ·rcases bW h P hP with h5| ⟨rfl,rfl⟩
  ·obtain⟨sv,q1,q2⟩:=m.jx h P h5
   have hd:=m.pd h P h5
   exact⟨sv,e4.own (Ni.own (e2.own (e1.own q1 (hd _ (.inl rfl)).1) (fun h=>h)) (hd _ (.inl rfl)).2.2.1) (hd _ (.inl rfl)).2.1,
    (((q2.ext e1 (fun b hb=>(hd b (.inr hb)).1)).ext e2 (fun _ _ h=>h)).ext Ni (fun b hb=>(hd b (.inr hb)).2.2.1)).ext e4 (fun b hb=>(hd b (.inr hb)).2.1)⟩
  ·exact⟨_,e4.own (Ni.own hq2 (fun e=>by have:=TU H1.size e;omega)) (fun e=>by have h9:H1.size=n:=e;omega),Sl.nil _ _⟩
 ·rcases zk n h with h|h
  ·exact m.nC h
  ·omega
 ·rcases Nj b hb with h5|h5
  ·rcases zk b h with h6|h6
   ·exact(m.Ou b h5).1 h6
   ·have:=TU b h5;omega
  ·have:=RT b h;omega
 ·rcases Nj b hb with h|h
  ·exact(m.Ou b h).2.1
  ·omega
 ·rcases Nj b hb with h5|h5
  ·exact(m.Ou b h5).2.2 h
  ·have:=WO b h;omega
 ·rcases zk b h with h6|h6
  ·exact(m.Ju b hb).1 h6
  ·have:=WO b hb;omega
 ·rcases bW _ P hP with h5| ⟨_,rfl⟩
  ·rcases zk x h with h6|h6
   ·exact(m.pd _ P h5 x hx).1 h6
   ·have:=hold _ P h5 x hx;omega
  ·have:=qH x hx;have:=RT x h;omega
 ·rcases bW _ P hP with h5| ⟨_,rfl⟩
  ·exact(m.pd _ P h5 x hx).2.1
  ·have:=qH x hx;omega
 ·rcases bW _ P hP with h5| ⟨_,rfl⟩
  ·rcases Nj x h with h6|h6
   ·exact(m.pd _ P h5 x hx).2.2.1 h6
   ·have:=hold _ P h5 x hx;omega
  ·have:=qH x hx
   rcases Nj x h with h6|h6
   ·have:=TU x h6;omega
   ·omega
 ·rcases bW _ P hP with h5| ⟨_,rfl⟩
  ·exact(m.pd _ P h5 x hx).2.2.2 h
  ·have:=qH x hx;have:=WO x h;omega
 ·rcases bW h P hP with h5| ⟨_,rfl⟩
  ·exact m.pr h P h5
  ·exact⟨(fun h=>by cases h),by simp⟩
 ·rcases bW _ P hP with h5| ⟨h5,rfl⟩
  ·rcases bW _ P' hP' with h6| ⟨h6,rfl⟩
   ·exact m.pp h h' P P' h5 h6 aP x hx wZ
   ·have:=qH x wZ;have:=hold _ P h5 x hx;omega
  ·rcases bW _ P' hP' with h6| ⟨h6,rfl⟩
   ·have:=qH x hx;have:=hold _ P' h6 x wZ;omega
   ·omega
 ·simp[Nw.make,oK]
 ·show(w.hs++[true])[h]? =some true↔_
  rcases aoU h ps.length with h5|h5|h5
  ·rw[anJ h5,anJ (by omega)]
   exact l.hs h
  ·subst h5
   rw[anX (anG _),anX (by omega),aoI,oK,aoI]
   simp
  ·rw[anK (by rw[anD,anM];omega),anK (by rw[anD,anM];omega)]
   simp
 ·rw[anJ fY];exact l.h0
 ·rcases bW h P hP with h5| ⟨rfl,rfl⟩
  ·exact l.ok h P h5
  ·exact fun j _ hj=>by simp at hj
 ·rcases bW h P hP with h5| ⟨rfl,rfl⟩
  ·exact l.SW h P h5
  ·exact fun i x hx=>by simp at hx
 ·rcases bW h P hP with h5| ⟨rfl,rfl⟩
  ·exact l.mem h P h5 x
  ·simp only[apy,false_iff]
   rintro⟨_,e,he⟩
   exact Jy _ _ he
 ·rcases bW h P hP with h5| ⟨rfl,rfl⟩
  ·exact l.len h P h5
  ·show((0:Nat):Int)=w.len _
   unfold Nw.len
   rw[if_pos (by omega),aoW.2 (fun x hx=>by
    have:=(m.cells.home x hx).2
    simp only[anU]
    omega)]
 ·exact((e1.mono fun z _ hz=>(hS z).1 (.inl hz)).trans ((e2.mono fun _ _ h=>h.elim).trans (Ni.mono fun z _ hz=>(hS z).1 (.inr (.inr (.inl hz)))))).trans (e4.mono fun z _ hz=>(hS z).1 (.inr (.inl hz)))
 ·rcases hx with hx|rfl|hx|hx| ⟨i,P,hP,hx⟩
  ·rcases zk x hx with h|h
   ·exact .inl ((hS x).1 (.inl h))
   ·exact .inr h
  ·exact .inl ((hS x).1 (.inr (.inl rfl)))
  ·rcases Nj x hx with h|h
   ·exact .inl ((hS x).1 (.inr (.inr (.inl h))))
   ·exact .inr (by omega)
  ·exact .inl ((hS x).1 (.inr (.inr (.inr (.inl hx)))))
  ·rcases bW i P hP with h5| ⟨_,rfl⟩
   ·exact .inl ((hS x).1 (.inr (.inr (.inr (.inr ⟨i,P,h5,hx⟩)))))
   ·have:=qH x hx;exact .inr (by omega)
end Go.Proofs.YtjlnnljohemifaaGreat

namespace Go.Proofs.YtjlnnljohemifaaGreat
open Go Go.Vc
theorem mB.WP{l at_ mf:List Int}(h:mB l at_)(ho:∀z∈l,0≤z→mf[z.toNat]? =at_[z.toNat]?):mB l mf:=fun i x hx=>by
 obtain⟨a,b⟩:=h i x hx
 exact⟨a,by rw[ho x (anz hx) a];exact b⟩
theorem gH{ps:List (Option Pl)}{g:Nat}{P':Pl}(hg:g<ps.length){h:Nat}{Q:Pl}(hQ:(ps.set g (some P'))[h]? =some (some Q)):(h=g∧Q=P')∨(h≠g∧ps[h]? =some (some Q)):=by
 by_cases hh:h=g
 ·subst hh
  rw[anB hg]at hQ
  simp only[anE]at hQ
  exact .inl ⟨rfl,hQ.symm⟩
 ·rw[anA (Ne.symm hh)]at hQ
  exact .inr ⟨hh,hQ⟩
theorem FV.apart{w:Nw}{ps:List (Option Pl)}{at_:List Int}(l:FV w ps at_){h h':Nat}{P Q:Pl}(hP:ps[h]? =some (some P))(hQ:ps[h']? =some (some Q))(aP:h≠h'){z:Int}(hz:z∈P.l):z∉Q.l:=fun hz'=>by
 obtain⟨_,e1,h1⟩:=(l.mem h P hP z).1 hz
 obtain⟨_,e2,h2⟩:=(l.mem h' Q hQ z).1 hz'
 rw[h1]at h2
 injection h2 with h2
 injection h2 with h2 _
 omega
theorem FV.pos{w:Nw}{ps:List (Option Pl)}{at_:List Int}(l:FV w ps at_){h:Nat}{P:Pl}(hP:ps[h]? =some (some P)):0<h:=by
 rcases apc h with hi|hi
 ·subst hi;rw[l.h0]at hP;cases hP
 ·exact hi
theorem CF{H:Hp}{n:Nat}{S:Nat→Prop}{st:Int}{w:Nw}(h:dw H n S st w)(g x k s:Int):af Tryz.prog mZ [ptr n,i64 g,i64 x,tz k s] H fun v H'=>aw (
  (¬ (w.has g∧(0≤x∧x<w.cs.length)∧¬cT w.cs x)∧v= .bool false∧dw H' n S st w∧ag S H H')∨
  ((w.has g∧(0≤x∧x<w.cs.length)∧¬cT w.cs x)∧v= .bool true∧∃ (S':Nat→Prop) (q:Nat),(q:Int)≤kX 2 (w.len g)∧(0<w.len g→0<q)∧dw H' n S' (min (st+q) 4611686018427387904) (w.put x (g,k,s))∧ag S H H'∧∀z,S' z→S z∨H.size≤z)):=by
 obtain⟨c,C,rv,fr,fa,ps,at_,m,l,hS⟩:=h
 refine bm zd ?_
 refine vs ?_
 have f0:ai H (H.new 224 [i64 k,u64 s]):=(ag.refl _ _).new _ _
 have b0:(H.new 224 [i64 k,u64 s]).own H.size=some [i64 k,u64 s]:=aB _ _ _
 have m0:=m.ext f0 (fun _ _ h=>h)
 generalize H.new 224 [i64 k,u64 s]=H0 at*
 obtain⟨av,Hy,TH⟩:=m0.own
 refine v2 (ae Hy) (ae b0) ?_
 refine(lD m0.cells g x k s).mono ?_
 rintro _ H1 (⟨bK,rfl,c1,e1⟩| ⟨qm,rfl,c1,e1⟩)
 ·refine vs ?_
  exact .inl ⟨bK,rfl,⟨c,C,rv,fr,fa,ps,at_,m0.aJ c1 e1,l,hS⟩,(f0.mono fun _ _ h=>h.elim).trans (e1.mono fun z _ hz=>(hS z).1 (.inl hz))⟩
 obtain⟨hh,⟨fZ,kU⟩,bJ⟩:=id qm
 obtain⟨P,hP⟩:=l.eZ hh
 have h1:=hh.1
 have zF:((g.toNat:Nat):Int)=g:=by omega
 have bL:=l.mem _ P hP
 have aX:=l.len _ P hP
 rw[zF]at bL aX
 obtain⟨c0,lu⟩:∃c0,w.cs[x.toNat]? =some c0:=⟨_,ans (by omega)⟩
 have xF:¬0<c0.1:=fun h=>bJ ⟨fZ,c0,lu,h⟩
 have cK:(w.put x (g,k,s)).cs[x.toNat]? =some (g,k,s):=anB (by omega)
 have lh:∀y:Nat,y≠x.toNat→(w.put x (g,k,s)).cs[y]? =w.cs[y]? :=fun y hy=>anA (Ne.symm hy)
 have PJ:∀ (i:Nat) Q,ps[i]? =some (some Q)→x∉Q.l:=fun i Q hQ hm=>by
  obtain⟨_,e,he⟩:=(l.mem i Q hQ x).1 hm
  rw[lu]at he
  injection he with he
  subst he
  have:=l.pos hQ
  exact xF (by simp only;omega)
 have aP:∀ (i:Nat) Q,ps[i]? =some (some Q)→∀y∈Q.l,0≤y∧y.toNat≠x.toNat:=fun i Q hQ y hy=>by
  have h2:=((l.mem i Q hQ y).1 hy).1
  exact⟨h2,fun e=>PJ i Q hQ (by rw[show x=y by omega];exact hy)⟩
 have WQ:∀ (i:Nat) Q,ps[i]? =some (some Q)→eE (aQ (w.put x (g,k,s))) 2 Q.l:=fun i Q hQ=>
  (l.ok i Q hQ).Jv fun z hz y hy=>(gW w x _ (aP i Q hQ z hz).2 (aP i Q hQ y hy).2).symm
 have FX:∀z∈P.l,cT (w.put x (g,k,s)).cs z:=fun z hz=>by
  obtain⟨z0,e,he⟩:=(bL z).1 hz
  exact⟨z0,_,by rw[lh _ (aP _ P hP z hz).2];exact he,by simp only;omega⟩
 have WR:cT (w.put x (g,k,s)).cs x:=⟨fZ,_,cK,by simp only;omega⟩
 have hlp:(w.put x (g,k,s)).len g=w.len g+1:=by rw[Nw.gf lu g,if_neg (fun hc=>by omega),if_pos ⟨by omega,rfl⟩];omega
 have nO:=m.cells.DY
 have oK:P.l.length<65536:=by
  have:=((w.put x (g,k,s)).zf g).2
  have h5:(w.put x (g,k,s)).cs.length=w.cs.length:=anv ..
  omega
 have m1:=m0.aJ c1 e1
 obtain⟨av1,PI,_⟩:=m1.own
 obtain⟨f,cc,lb,rfl,rfl,hf,TT,di⟩:=m1.atp hP
 refine v1 (ae PI) ?_
 refine⟨by omega,?_⟩
 simp(disch:=(first|omega| (simp only[Zs]<;>omega)|fail)) only[go_sem, ↓reduceIte,Zv,ae hf,anw,TT,SV]
 refine(FU (m1.Nh hP) (l.SW _ P hP) oK ⟨fZ,by rw[l.Ly];omega⟩ (PJ _ P hP) WR FX (WQ _ P hP)).mono ?_
 rintro _ H2 ⟨rfl,cO,l',mf,q,pm,afm,iB,aaO,ahC,afn,WS,hq,Vb,e2,jj⟩
 refine vs ?_
 have z0:=f0.size
 have z1:=e1.size
 have hT:∀z,(C z∨P.fp=some z∨fa=some z∨z=P.r)→C z∨P.S z∨fa=some z:=fun z hz=>by
  rcases hz with hz|hz|hz|hz
  ·exact .inl hz
  ·exact .inr (.inl (.inr hz))
  ·exact .inr (.inr hz)
  ·exact .inr (.inl (.inl hz))
 have nN:∀z,(C z∨P.fp=some z∨fa=some z∨z=P.r)→S z:=fun z hz=>(hS z).1 (by
  rcases hT z hz with hz|hz|hz
  ·exact .inl hz
  ·exact .inr (.inr (.inr (.inr ⟨_,P,hP,hz⟩)))
  ·exact .inr (.inr (.inr (.inl hz))))
 refine .inr ⟨qm,rfl,Do n C (some f) fa (ps.set g.toNat (some ⟨P.r,cO,l'⟩)),q,by rw[←aX];exact Int.ofNat_le.2 hq,fun h=>Vb (by omega),
  ⟨c,C,_,some f,fa,_,mf,m1.Jx hP (P':=⟨P.r,cO,l'⟩) rfl pm jj e2 hT,
   ⟨by rw[anv];exact l.hl,fun h=>?_,?_,fun h Q hQ=>?_,fun h Q hQ=>?_,fun h Q hQ y=>?_,fun h Q hQ=>?_,?_⟩,fun z=>Iff.rfl⟩,?_,fun z hz=>?_⟩
 ·show w.hs[h]? =some true↔_
  rw[l.hs h]
  by_cases Lz:h=g.toNat
  ·subst Lz
   rw[anB di]
   exact⟨fun _=>⟨_,rfl⟩,fun _=>⟨P,hP⟩⟩
  ·rw[anA (Ne.symm Lz)]
 ·rw[anA (by omega)];exact l.h0
 ·rcases gH di hQ with ⟨rfl,rfl⟩| ⟨h5,h6⟩
  ·exact iB
  ·exact WQ h Q h6
 ·rcases gH di hQ with ⟨rfl,rfl⟩| ⟨h5,h6⟩
  ·exact afm
  ·exact(l.SW h Q h6).WP fun z hz z0=>WS z z0 (fun e=>PJ h Q h6 (e▸hz)) (l.apart h6 hP h5 hz)
 ·rcases gH di hQ with ⟨rfl,rfl⟩| ⟨h5,h6⟩
  ·rw[zF]
   show y∈l'↔_
   rw[aaO y]
   constructor
   ·rintro(rfl|hy)
    ·exact⟨fZ,_,cK⟩
    ·obtain⟨y0,e,he⟩:=(bL y).1 hy
     exact⟨y0,e,by rw[lh _ (aP _ P hP y hy).2];exact he⟩
   ·rintro⟨y0,e,he⟩
    by_cases mJ:y.toNat=x.toNat
    ·exact .inl (by omega)
    ·rw[lh _ mJ]at he
     exact .inr ((bL y).2 ⟨y0,e,he⟩)
  ·rw[l.mem h Q h6 y]
   by_cases mJ:y.toNat=x.toNat
   ·rw[mJ,cK,lu]
    constructor
    ·rintro⟨y0,e,he⟩
     injection he with he
     subst he
     have:=l.pos h6
     exact absurd (show(0:Int)< ((h:Nat):Int) by omega) xF
    ·rintro⟨y0,e,he⟩
     injection he with he
     injection he with WT he2
     omega
   ·rw[lh _ mJ]
 ·rcases gH di hQ with ⟨rfl,rfl⟩| ⟨h5,h6⟩
  ·rw[zF,hlp]
   show(l'.length:Int)=_
   omega
  ·rw[l.len h Q h6,Nw.gf lu h,if_neg (fun hc=>by omega),if_neg (fun hc=>by omega)]
   omega
 ·rw[afn,l.Ly];exact(anv ..).symm
 ·exact(f0.mono fun _ _ h=>h.elim).trans ((e1.mono fun z _ hz=>nN z (.inl hz)).trans (e2.mono fun z _ hz=>nN z hz))
 ·rcases hz with hz|rfl|hz|hz| ⟨i,Q,hQ,hz⟩
  ·exact .inl (nN z (.inl hz))
  ·exact .inl ((hS z).1 (.inr (.inl rfl)))
  ·exact .inl ((hS z).1 (.inr (.inr (.inl hz))))
  ·exact .inl (nN z (.inr (.inr (.inl hz))))
  ·rcases gH di hQ with ⟨rfl,rfl⟩| ⟨h5,h6⟩
   ·rcases hz with rfl|hz
    ·exact .inl (nN _ (.inr (.inr (.inr rfl))))
    ·rcases jj with h| ⟨y,h,h7⟩
     ·exact .inl (nN z (.inr (.inl (h▸hz))))
     ·simp only at hz
      rw[h]at hz;injection hz with hz;exact .inr (by omega)
   ·exact .inl ((hS z).1 (.inr (.inr (.inr (.inr ⟨i,Q,h6,hz⟩)))))
theorem xN{H:Hp}{n:Nat}{S:Nat→Prop}{st:Int}{w:Nw}(h:dw H n S st w)(g:Int):af Tryz.prog sw [ptr n,i64 g] H fun v H'=>aw (
  ((w.len g=0∧v= .tuple [i64 0,.bool false].toArray)∨∃x,w.first g x∧v= .tuple [i64 x,.bool true].toArray)∧H=H'):=by
 obtain⟨c,C,rv,fr,fa,ps,at_,m,l,hS⟩:=h
 obtain⟨av,ho,ha⟩:=m.own
 refine bm DQ ?_
 refine v1 (ae ho) ?_
 refine(sH m.cells g).mono ?_
 rintro _ _ ⟨rfl,rfl⟩
 refine vs ?_
 refine am.dec (fun h0=>?_) (fun h0=>?_)
 ·refine vs ?_
  exact⟨.inl ⟨h0,rfl⟩,rfl⟩
 have hg:0<g:=by
  by_cases hg:0<g
  ·exact hg
  ·exact absurd (Nw.Hs.2 (.inl (by omega))) h0
 have afo:w.has g:=by
  refine⟨by omega,?_⟩
  by_cases hx:w.hs[g.toNat]? =some true
  ·exact hx
  ·refine absurd (Nw.Hs.2 (.inr fun i c hc e=>hx ?_)) h0
   have:=m.cells.live c (anz hc) (by omega)
   rwa[e]at this
 obtain⟨P,hP⟩:=l.eZ afo
 have zF:((g.toNat:Nat):Int)=g:=by omega
 have bL:=l.mem _ P hP
 have aX:=l.len _ P hP
 rw[zF]at bL aX
 have oK:=(w.zf g).1
 obtain⟨f,cc,lb,rfl,rfl,hf,TT,di⟩:=m.atp hP
 obtain⟨sv,hr,hs⟩:=m.jx _ P hP
 obtain⟨x,hx⟩:∃x,P.l[0]? =some x:=⟨_,ans (by omega)⟩
 obtain⟨b,c2,l2,rfl,gu,hb,me,_,Dc⟩:=Sl.at_ hs (i:=0) (x:=i64 x) (by simp[hx])
 refine v1 (ae ho) ?_
 refine⟨by omega,?_⟩
 simp(disch:=(first|omega| (simp only[Zs]<;>omega)|fail)) only[go_sem, ↓reduceIte,Zv,ae hf,anw,TT,SV,ae hr]
 refine⟨by omega,?_⟩
 refine v2 (ae hb) (show l2[Int.toNat 0*1]? =some (i64 x)from me) ?_
 have hxP:=anz hx
 obtain⟨fZ,e,he⟩:=(bL x).1 hxP
 refine⟨.inr ⟨x,⟨hg,fZ,⟨e,he⟩,fun y hy ⟨e',ir⟩ aP=>?_⟩,rfl⟩,rfl⟩
 have hyP:=(bL y).2 ⟨hy,e',ir⟩
 obtain⟨j,hj⟩:=an6 hyP
 have YC:=(anu.1 hj).1
 have h5:=FI (ar w) dH (l.ok _ P hP) j j (anG _) YC
 rw[rY hj,rY hx]at h5
 rcases(ar w).Ob x y (Ne.symm aP)with h6|h6
 ·exact h6
 ·rw[h5]at h6;cases h6
theorem CG{H:Hp}{n:Nat}{S:Nat→Prop}{st:Int}{w:Nw}(h:dw H n S st w)(x:Int):af Tryz.prog yC [ptr n,i64 x] H fun v H'=>aw (
  (¬cT w.cs x∧v= .bool false∧H=H')∨
  (cT w.cs x∧v= .bool true∧∃ (c0:Ce) (q:Nat),w.cs[x.toNat]? =some c0∧q≤2*kX 2 (w.len c0.1 - 1)∧∃S',dw H' n S' (min (st+q) 4611686018427387904) (w.put x (0,0,0))∧ag S H H'∧∀z,S' z→S z∨H.size≤z)):=by
 obtain⟨c,C,rv,fr,fa,ps,at_,m,l,hS⟩:=h
 obtain⟨av,ho,ha⟩:=m.own
 refine bm zc ?_
 refine v1 (ae ho) ?_
 refine(et m.cells x).mono ?_
 rintro _ H1 (⟨bK,rfl,rfl⟩| ⟨bJ,c0,lu,rfl,c1,e1⟩)
 ·refine vs ?_
  exact .inl ⟨bK,rfl,rfl⟩
 obtain⟨fZ,c0',Jz,fY⟩:=id bJ
 rw[lu]at Jz
 injection Jz with Jz
 subst Jz
 obtain⟨P,hP⟩:=(l.hs c0.1.toNat).1 (m.cells.live _ (anz lu) fY)
 have zF:((c0.1.toNat:Nat):Int)=c0.1:=by omega
 have bL:=l.mem _ P hP
 have aX:=l.len _ P hP
 rw[zF]at bL aX
 have cK:(w.put x (0,0,0)).cs[x.toNat]? =some (0,0,0):=anB (anu.1 lu).1
 have lh:∀y:Nat,y≠x.toNat→(w.put x (0,0,0)).cs[y]? =w.cs[y]? :=fun y hy=>anA (Ne.symm hy)
 have m1:=m.aJ c1 e1
 obtain⟨av1,PI,Qp⟩:=m1.own
 have hxP:x∈P.l:=(bL x).2 ⟨fZ,c0.2,lu⟩
 have FX:∀z∈P.l,cT w.cs z:=fun z hz=>by
  obtain⟨z0,e,he⟩:=(bL z).1 hz
  exact⟨z0,_,he,fY⟩
 obtain⟨i,hi⟩:=an6 hxP
 have oZ:=(anu.1 hi).1
 obtain⟨_,YE⟩:=l.SW _ P hP i x hi
 obtain⟨f,cc,lb,rfl,rfl,hf,TT,di⟩:=m1.atp hP
 obtain⟨fa',ac,la,rfl,hfa,WU,WV,_,_⟩:=Sl.at_ Qp (i:=x.toNat) (x:=i64 i) (by simp[YE])
 have UN:=(anu.1 YE).1
 refine v1 (ae PI) ?_
 refine⟨by omega,?_⟩
 simp(disch:=(first|omega| (simp only[Zs]<;>omega)|fail)) only[go_sem, ↓reduceIte,Zv,ae hf,anw,TT,SV,ae PI]
 refine⟨by omega,?_⟩
 refine v3 (ae WU) anw WV ?_
 refine(CE (m1.Nh hP) (l.SW _ P hP) oZ FX (l.ok _ P hP)).mono ?_
 rintro _ H2 ⟨l',mf,q,o,hq⟩
 rw[rY hi]at o
 have hT:∀z,(C z∨P.fp=some z∨fa=some z∨z=P.r)→C z∨P.S z∨fa=some z:=fun z hz=>by
  rcases hz with hz|hz|hz|hz
  ·exact .inl hz
  ·exact .inr (.inl (.inr hz))
  ·exact .inr (.inr hz)
  ·exact .inr (.inl (.inl hz))
 have nN:∀z,(C z∨P.fp=some z∨fa=some z∨z=P.r)→S z:=fun z hz=>(hS z).1 (by
  rcases hT z hz with hz|hz|hz
  ·exact .inl hz
  ·exact .inr (.inr (.inr (.inr ⟨_,P,hP,hz⟩)))
  ·exact .inr (.inr (.inr (.inl hz))))
 have m2:=m1.Jx hP (P':=⟨P.r,P.fp,l'⟩) rfl o.jx (.inl rfl) o.ext hT
 obtain⟨av2,ho2,_⟩:=m2.own
 refine v1 (ae ho2) ?_
 refine(jZ m2.cells x).mono ?_
 rintro _ H3 (⟨bK,_,_⟩| ⟨_,rfl,c3,e3⟩)
 ·exact absurd bJ bK
 refine vs ?_
 have m3:=m2.aJ c3 e3
 have aP:∀ (h:Nat) Q,h≠c0.1.toNat→ps[h]? =some (some Q)→∀y∈Q.l,y.toNat≠x.toNat:=fun h Q hh hQ y hy e=>by
  obtain⟨y0,e',he⟩:=(l.mem h Q hQ y).1 hy
  rw[e,lu]at he
  injection he with he
  rw[he]at hh
  simp only[Int.toNat_natCast]at hh
  exact hh rfl
 have Nk:∀y∈l',y.toNat≠x.toNat:=fun y hy e=>by
  obtain⟨h1,h2⟩:=(o.mem y).1 hy
  have:=((bL y).1 h1).1
  omega
 refine .inr ⟨bJ,rfl,c0,q,lu,by rw[←aX];exact hq,Do n C (some f) fa (ps.set c0.1.toNat (some ⟨P.r,P.fp,l'⟩)),
  ⟨c,C,_,some f,fa,_,mf,m3,⟨by rw[anv];exact l.hl,fun h=>?_,?_,fun h Q hQ=>?_,fun h Q hQ=>?_,fun h Q hQ y=>?_,fun h Q hQ=>?_,?_⟩,fun z=>Iff.rfl⟩,?_,fun z hz=>?_⟩
 ·show w.hs[h]? =some true↔_
  rw[l.hs h]
  by_cases Lz:h=c0.1.toNat
  ·subst Lz
   rw[anB di]
   exact⟨fun _=>⟨_,rfl⟩,fun _=>⟨P,hP⟩⟩
  ·rw[anA (Ne.symm Lz)]
 ·rw[anA (by omega)];exact l.h0
 ·rcases gH di hQ with ⟨rfl,rfl⟩| ⟨h5,h6⟩
  ·exact o.heap.Jv fun z hz y hy=>(gW w x _ (Nk z hz) (Nk y hy)).symm
  ·exact(l.ok h Q h6).Jv fun z hz y hy=>(gW w x _ (aP h Q h5 h6 z hz) (aP h Q h5 h6 y hy)).symm
 ·rcases gH di hQ with ⟨rfl,rfl⟩| ⟨h5,h6⟩
  ·exact o.ok
  ·exact(l.SW h Q h6).WP fun z hz z0=>o.off z z0 (l.apart h6 hP h5 hz)
 ·by_cases mJ:y.toNat=x.toNat
  ·rw[mJ,cK]
   have h0:=gH di hQ
   constructor
   ·intro hy
    rcases h0 with ⟨rfl,rfl⟩| ⟨h5,h6⟩
    ·exact absurd mJ (Nk y hy)
    ·exact absurd mJ (aP h Q h5 h6 y hy)
   ·rintro⟨_,e,he⟩
    injection he with he
    injection he with WT _
    rcases h0 with ⟨rfl,rfl⟩| ⟨h5,h6⟩
    ·omega
    ·have:=l.pos h6;omega
  ·rw[lh _ mJ]
   rcases gH di hQ with ⟨rfl,rfl⟩| ⟨h5,h6⟩
   ·rw[zF]
    show y∈l'↔_
    rw[o.mem y,bL y]
    constructor
    ·exact fun h=>h.1
    ·exact fun h=>⟨h,fun e=>mJ (by rw[e])⟩
   ·exact l.mem h Q h6 y
 ·rcases gH di hQ with ⟨rfl,rfl⟩| ⟨h5,h6⟩
  ·rw[zF,Nw.gf lu c0.1,if_pos ⟨fY,rfl⟩,if_neg (fun hc=>by omega)]
   show(l'.length:Int)=_
   have:=o.len
   omega
  ·have:=l.pos h6
   rw[l.len h Q h6,Nw.gf lu h,if_neg (fun hc=>by omega),if_neg (fun hc=>by omega)]
   omega
 ·rw[o.Ly,l.Ly];exact(anv ..).symm
 ·exact(e1.mono fun z _ hz=>nN z (.inl hz)).trans ((o.ext.mono fun z _ hz=>nN z hz).trans (e3.mono fun z _ hz=>nN z (.inl hz)))
 ·rcases hz with hz|rfl|hz|hz| ⟨i,Q,hQ,hz⟩
  ·exact .inl (nN z (.inl hz))
  ·exact .inl ((hS z).1 (.inr (.inl rfl)))
  ·exact .inl ((hS z).1 (.inr (.inr (.inl hz))))
  ·exact .inl (nN z (.inr (.inr (.inl hz))))
  ·rcases gH di hQ with ⟨rfl,rfl⟩| ⟨h5,h6⟩
   ·rcases hz with rfl|hz
    ·exact .inl (nN _ (.inr (.inr (.inr rfl))))
    ·exact .inl (nN z (.inr (.inl hz)))
   ·exact .inl ((hS z).1 (.inr (.inr (.inr (.inr ⟨i,Q,h6,hz⟩)))))
theorem A6{H:Hp}{n:Nat}{S:Nat→Prop}{st:Int}{w:Nw}(h:dw H n S st w)(g:Int):af Tryz.prog lT [ptr n,i64 g] H fun v H'=>aw (
  (w.len g=0∧v= .tuple [i64 0,.bool false].toArray∧H=H')∨
  (∃x,w.first g x∧v= .tuple [i64 x,.bool true].toArray∧∃q:Nat,q≤2*kX 2 (w.len g - 1)∧∃S',dw H' n S' (min (st+q) 4611686018427387904) (w.put x (0,0,0))∧ag S H H'∧∀z,S' z→S z∨H.size≤z)):=by
 refine bm wW ?_
 refine vs ?_
 refine(xN h g).mono ?_
 rintro _ _ ⟨⟨h0,rfl⟩| ⟨x,hx,rfl⟩,rfl⟩
 ·refine vs ?_
  exact .inl ⟨h0,rfl,rfl⟩
 ·refine vs ?_
  refine(CG h x).mono ?_
  rintro _ H1 (⟨bK,_,_⟩| ⟨_,rfl,c0,q,lu,hq,S',d1,e1,YP⟩)
  ·exact absurd hx.Mb bK
  refine vs ?_
  obtain⟨e,ir⟩:=hx.2.2.1
  rw[lu]at ir
  injection ir with ir
  subst ir
  exact .inr ⟨x,hx,rfl,q,hq,S',d1,e1,YP⟩
theorem zm{H:Hp}{n:Nat}{S:Nat→Prop}{st:Int}{w:Nw}(h:dw H n S st w)(x k s:Int):af Tryz.prog kM [ptr n,i64 x,tz k s] H fun v H'=>aw (
  (¬ (cT w.cs x∧∀y,w.cs[x.toNat]? =some y→¬ep y.2.1 y.2.2 k s)∧v= .bool false∧dw H' n S st w∧ai H H')∨
  (cT w.cs x∧∃y,w.cs[x.toNat]? =some y∧¬ep y.2.1 y.2.2 k s∧v= .bool true∧∃q:Nat,q≤2*kX 2 (w.len y.1 - 1)∧∃S',dw H' n S' (min (st+q) 4611686018427387904) (w.put x (y.1,k,s))∧ag S H H'∧∀z,S' z→S z∨H.size≤z)):=by
 obtain⟨c,C,rv,fr,fa,ps,at_,m,l,hS⟩:=h
 refine bm uv ?_
 refine vs ?_
 have f0:ai H (H.new 224 [i64 k,u64 s]):=(ag.refl _ _).new _ _
 have b0:(H.new 224 [i64 k,u64 s]).own H.size=some [i64 k,u64 s]:=aB _ _ _
 have m0:=m.ext f0 (fun _ _ h=>h)
 generalize H.new 224 [i64 k,u64 s]=H0 at*
 obtain⟨av,Hy,TH⟩:=m0.own
 refine v2 (ae Hy) (ae b0) ?_
 refine(jd m0.cells x k s).mono ?_
 rintro _ H1 (⟨bK,rfl,c1,e1⟩| ⟨bJ,rfl,y,hy,fh,c1,e1⟩)
 ·refine vs ?_
  exact .inl ⟨bK,rfl,⟨c,C,rv,fr,fa,ps,at_,m0.ext e1 (fun _ _ h=>h),l,hS⟩,f0.trans e1⟩
 have m1:=m0.aJ c1 e1
 obtain⟨av1,PI,Qp⟩:=m1.own
 refine v1 (ae PI) ?_
 obtain⟨fZ,y',FD,fY⟩:=id bJ
 rw[hy]at FD
 injection FD with FD
 subst FD
 have cK:(w.put x (y.1,k,s)).cs[x.toNat]? =some (y.1,k,s):=anB (anu.1 hy).1
 have lh:∀z:Nat,z≠x.toNat→(w.put x (y.1,k,s)).cs[z]? =w.cs[z]? :=fun z hz=>anA (Ne.symm hz)
 have Ng:cT (w.put x (y.1,k,s)).cs x:=⟨fZ,_,cK,fY⟩
 refine(et c1 x).mono ?_
 rintro _ H2 (⟨bK,_,_⟩| ⟨_,y2,DO,rfl,c2,e2⟩)
 ·exact absurd Ng bK
 rw[cK]at DO
 injection DO with DO
 subst DO
 have m2:=m1.aJ c2 e2
 obtain⟨av2,ho2,VP⟩:=m2.own
 obtain⟨P,hP⟩:=(l.hs y.1.toNat).1 (m.cells.live _ (anz hy) fY)
 have zF:((y.1.toNat:Nat):Int)=y.1:=by omega
 have LA:∀ (h:Nat) Q,ps[h]? =some (some Q)→∀z:Int,z∈Q.l↔0≤z∧∃e,(w.put x (y.1,k,s)).cs[z.toNat]? =some (((h:Nat):Int),e):=fun h Q hQ z=>by
  rw[l.mem h Q hQ z]
  by_cases WW:z.toNat=x.toNat
  ·rw[WW,cK,hy]
   constructor
   ·rintro⟨z0,e,he⟩
    injection he with he
    exact⟨z0,(k,s),by rw[he]⟩
   ·rintro⟨z0,e,he⟩
    injection he with he
    injection he with WT _
    exact⟨z0,y.2,by rw[←WT]⟩
  ·rw[lh _ WW]
 have bL:=LA _ P hP
 have aX:=l.len _ P hP
 rw[zF]at bL aX
 have hxP:x∈P.l:=(bL x).2 ⟨fZ,_,cK⟩
 have FX:∀z∈P.l,cT (w.put x (y.1,k,s)).cs z:=fun z hz=>by
  obtain⟨z0,e,he⟩:=(bL z).1 hz
  exact⟨z0,_,he,fY⟩
 obtain⟨i,hi⟩:=an6 hxP
 have oZ:=(anu.1 hi).1
 obtain⟨_,YE⟩:=l.SW _ P hP i x hi
 have UN:=(anu.1 YE).1
 obtain⟨f,cc,lb,rfl,rfl,hf,TT,di⟩:=m2.atp hP
 obtain⟨fa',ac,la,rfl,hfa,WU,WV,_,_⟩:=Sl.at_ VP (i:=x.toNat) (x:=i64 i) (by simp[YE])
 have Ib:∀j,j<P.l.length→j≠i→(P.l.getD j 0).toNat≠x.toNat:=fun j hj aP e=>by
  have hgj:P.l[j]? =some (P.l.getD j 0):=by rw[anx,ans hj];rfl
  have h0:=((bL _).1 (anz hgj)).1
  rw[show P.l.getD j 0=x by omega]at hgj
  exact aP ((l.SW _ P hP).FG hgj hi)
 have hA:dB (aQ (w.put x (y.1,k,s))) 2 P.l i:=by
  have hb:=(l.ok _ P hP).but (ar w) dH i
  refine⟨fun j h1 h2 h3 h4=>?_,fun j h1 h2 h3 h4=>?_⟩
  ·have:=cG dH h1
   rw[gW w x _ (Ib j h2 h3) (Ib _ (by omega) h4)]
   exact hb.1 j h1 h2 h3 h4
  ·have:=cG dH h1
   have:=cG dH h4
   rw[gW w x _ (Ib j h2 (by omega)) (Ib _ (by omega) (by omega))]
   exact hb.2 j h1 h2 h3 h4
 refine v1 (ae ho2) ?_
 refine⟨by omega,?_⟩
 simp(disch:=(first|omega| (simp only[Zs]<;>omega)|fail)) only[go_sem, ↓reduceIte,Zv,ae hf,anw,TT,SV,ae ho2]
 refine⟨by omega,?_⟩
 refine v3 (ae WU) anw WV ?_
 refine(HB (m2.Nh hP) (l.SW _ P hP) oZ FX hA).mono ?_
 rintro _ H3 ⟨rfl,l',mf,q,o,iB,hq⟩
 refine vs ?_
 have o8:=e1.trans e2
 have hT:∀z,(C z∨P.fp=some z∨fa=some z)→C z∨P.S z∨fa=some z:=fun z hz=>by
  rcases hz with hz|hz|hz
  ·exact .inl hz
  ·exact .inr (.inl (.inr hz))
  ·exact .inr (.inr hz)
 have nN:∀z,(C z∨P.fp=some z∨fa=some z)→S z:=fun z hz=>(hS z).1 (by
  rcases hT z hz with hz|hz|hz
  ·exact .inl hz
  ·exact .inr (.inr (.inr (.inr ⟨_,P,hP,hz⟩)))
  ·exact .inr (.inr (.inr (.inl hz))))
 have aP:∀ (h:Nat) Q,h≠y.1.toNat→ps[h]? =some (some Q)→∀z∈Q.l,z.toNat≠x.toNat:=fun h Q hh hQ z hz e=>by
  obtain⟨z0,e',he⟩:=(l.mem h Q hQ z).1 hz
  rw[e,hy]at he
  injection he with he
  rw[he]at hh
  simp only[Int.toNat_natCast]at hh
  exact hh rfl
 have hwl:∀h:Int,(w.put x (y.1,k,s)).len h=w.len h:=fun h=>by
  rw[Nw.gf hy h]
  simp only
  split<;>omega
 have ZN:=o.len
 refine .inr ⟨bJ,y,hy,fh,rfl,q,by rw[←aX];exact hq,Do n C (some f) fa (ps.set y.1.toNat (some ⟨P.r,P.fp,l'⟩)),
  ⟨c,C,_,some f,fa,_,mf,m2.Jx hP (P':=⟨P.r,P.fp,l'⟩) rfl o.jx (.inl rfl) o.ext hT,
   ⟨by rw[anv];exact l.hl,fun h=>?_,?_,fun h Q hQ=>?_,fun h Q hQ=>?_,fun h Q hQ z=>?_,fun h Q hQ=>?_,?_⟩,fun z=>Iff.rfl⟩,?_,fun z hz=>?_⟩
 ·show w.hs[h]? =some true↔_
  rw[l.hs h]
  by_cases Lz:h=y.1.toNat
  ·subst Lz
   rw[anB di]
   exact⟨fun _=>⟨_,rfl⟩,fun _=>⟨P,hP⟩⟩
  ·rw[anA (Ne.symm Lz)]
 ·rw[anA (by omega)];exact l.h0
 ·rcases gH di hQ with ⟨rfl,rfl⟩| ⟨h5,h6⟩
  ·exact iB
  ·exact(l.ok h Q h6).Jv fun z hz v hv=>(gW w x _ (aP h Q h5 h6 z hz) (aP h Q h5 h6 v hv)).symm
 ·rcases gH di hQ with ⟨rfl,rfl⟩| ⟨h5,h6⟩
  ·exact o.ok
  ·exact(l.SW h Q h6).WP fun z hz z0=>o.off z z0 (l.apart h6 hP h5 hz)
 ·rcases gH di hQ with ⟨rfl,rfl⟩| ⟨h5,h6⟩
  ·rw[zF]
   show z∈l'↔_
   rw[o.mem z,bL z]
  ·exact LA h Q h6 z
 ·rw[hwl]
  rcases gH di hQ with ⟨rfl,rfl⟩| ⟨h5,h6⟩
  ·rw[zF]
   show(l'.length:Int)=_
   omega
  ·exact l.len h Q h6
 ·rw[o.Ly,l.Ly];exact(anv ..).symm
 ·exact(f0.mono fun _ _ h=>h.elim).trans ((o8.mono fun z _ hz=>nN z (.inl hz)).trans (o.ext.mono fun z _ hz=>nN z hz))
 ·rcases hz with hz|rfl|hz|hz| ⟨j,Q,hQ,hz⟩
  ·exact .inl (nN z (.inl hz))
  ·exact .inl ((hS z).1 (.inr (.inl rfl)))
  ·exact .inl ((hS z).1 (.inr (.inr (.inl hz))))
  ·exact .inl (nN z (.inr (.inr hz)))
  ·rcases gH di hQ with ⟨rfl,rfl⟩| ⟨h5,h6⟩
   ·rcases hz with rfl|hz
    ·exact .inl ((hS _).1 (.inr (.inr (.inr (.inr ⟨_,P,hP,.inl rfl⟩)))))
    ·exact .inl (nN z (.inr (.inl hz)))
   ·exact .inl ((hS z).1 (.inr (.inr (.inr (.inr ⟨j,Q,h6,hz⟩)))))
theorem CH{ov:Value}{I:Hp→Nat→Prop}{T:Nat→Prop}{lt:Int→Int→Bool}{D:Int→Prop}(ho:M4 ov I T lt D){H:Hp}{r:Nat}{S:Nat→Prop}{d:Int}{l:List Int}{pl:Int→Option Int}
  (h:df H r S d l pl)(hd:∀x,S x→¬T x){n:Nat}(hI:I H n)(hf:cQ d)(x:Int)(hl:l.length≤1000000)(hp:Cr l pl)(hD:∀z∈l,D z:=by intros;trivial):
  af Tryz.prog Ad [ptr r,ov,i64 x] H fun v H'=>aw (
   (pl x=none∧v= .bool false∧H=H')∨
   (∃i,pl x=some i∧v= .bool true∧df H' r S d (cM lt d x l pl i).1 (cM lt d x l pl i).2.1∧I H' (n+(cM lt d x l pl i).2.2)∧ag (fun z=>S z∨T z) H H')):=by
 obtain⟨⟨sv,fp,mb,a1,a2,a3,s1,s2,s3,s4⟩,h2⟩:=id h
 have key:gR true (Value.int .i64 0) ((pl x).map i64)= .tuple [i64 ((pl x).getD 0),.bool (pl x).isSome].toArray:=by cases pl x<;>rfl
 refine bm Az ?_
 refine v3 (ae a1) a3.look key ?_
 cases hx:pl x with
 |none=>
  simp(disch:=(first|omega| (simp only[Zs]<;>omega)|fail)) only[go_sem, ↓reduceIte,Zv,Option.isSome_none]
  exact .inl ⟨rfl,rfl,rfl⟩
 |some i=>
  obtain⟨i0,TV⟩:=(hp x i).1 hx
  have oZ:i.toNat<l.length:=(anu.1 TV).1
  obtain⟨f,rfl⟩:∃f,fp=some f:=by
   cases fp with
   |none=>obtain⟨_,e,_⟩:=a2;omega
   |some f=>exact⟨f,rfl⟩
  have Wd:=a2
  obtain⟨_,l1,c,rfl,g2,a5,a6,a7⟩:=Wd
  have g3:∀ (i:Nat) (x:Int),l[i]? =some x→l1[i]? =some (i64 x):=fun i x h=>by
   have aO:=(anu.1 h).1
   have h1:(l.map i64)[i]? =some (i64 x):=by simp[h]
   rw[←a7,an3 (by omega)]at h1
   exact h1
  have iY:l[l.length - 1]? =some (l.getD (l.length - 1) 0):=by
   rw[anx,ans (by omega)];rfl
  have WX:=g3 _ _ iY
  have e1:IntKind.i64.wrap ((l.length:Int) - 1)=((l.length - 1:Nat):Int):=by rw[wrap64 (by omega) (by omega)];omega
  simp(disch:=(first|omega| (simp only[Zs]<;>omega)|fail)) only[go_sem, ↓reduceIte,Zv,Option.isSome_some,Option.getD_some,ae a1,e1,Int.toNat_natCast]
  refine⟨by omega,?_⟩
  refine v5 (ae g2) (ae a1) anw WX e1 ?_
  refine⟨by omega,?_⟩
  obtain⟨Py,rR,TI⟩:=s4 f rfl
  have xJ:Value.slice (if(c:Int)=((0:Nat):Int)then some (⟨f,0,none⟩:Addr)else Option.map (fun(x:Addr)=>x.add (((0:Nat):Int).toNat*1)) (some (⟨f,0,none⟩:Addr))) (((l.length - 1:Nat):Int).toNat - ((0:Nat):Int).toNat) ((c:Int).toNat - ((0:Nat):Int).toNat)= .slice (some ⟨f,0,none⟩) (l.length - 1) c:=by
   split<;>rfl
  refine v2 (ae a1) a1 ?_
  rw[xJ]
  have ew:ag (fun z=>z=r) H (H.wr r [i64 d,.slice (some ⟨f,0,none⟩) (l.length - 1) c,.map (some mb)]):=(ag.refl (fun z=>z=r) _).wr (fun _=>rfl) _
  have b1:(H.wr r [i64 d,.slice (some ⟨f,0,none⟩) (l.length - 1) c,.map (some mb)]).own r=some [i64 d,.slice (some ⟨f,0,none⟩) (l.length - 1) c,.map (some mb)]:=ah a1
  have b3:=a3.ext ew (Ne.symm s3)
  refine v1 (ae b1) ?_
  refine b3.del fun H2 m2 e2=>?_
  rw[Lf]at m2
  have e02:ag S H H2:=(ew.mono fun z _ hz=>hz▸s1).trans (e2.mono fun z _ hz=>hz▸s2)
  have hr:df H2 r S d l.dropLast (rQ pl x):=by
   refine⟨⟨.slice (some ⟨f,0,none⟩) (l.length - 1) c,some f,mb,e2.own b1 s3,⟨by simp,l1,c,by rw[an7],(e2.own ((ew.own g2 rR)) TI),by rw[an7];omega,a6,?_⟩,m2,s1,s2,s3,s4⟩,
    fun z hz=>anT (h2 z hz) e02.size⟩
   have hx7:((l.map i64).length)=l.length:=by simp
   rw[an7,List.map_dropLast,ao0,hx7,←a7,apu]
   congr 1
   omega
  have Qw:=ho.aM _ _ _ _ hI e02 (fun z hz hs=>hd z hs hz)
  refine vs ?_
  have oK:l.dropLast.length=l.length - 1:=an7
  refine am.dec (fun he=>?_) (fun he=>?_)<;>refine vs ?_
  ·refine .inr ⟨i,rfl,rfl,?_,?_,e02.mono fun z _ hz=>.inl hz⟩
   ·unfold cM;rw[if_pos he];exact hr
   ·unfold cM;rw[if_pos he];exact Qw
  ·have WY:l.getD (l.length - 1) 0∈l:=anz iY
   have mI:i.toNat≠l.length - 1:=fun e=>by rw[e,iY]at TV;injection TV with TV;exact he TV
   refine(rS ho hr hd Qw i (l.getD (l.length - 1) 0) ⟨i0,by omega⟩ (by omega) (hD _ WY) (fun z hz=>hD z ((apv _).subset hz))).mono ?_
   rintro _ H3 ⟨rfl,r3,i3,e3⟩
   have Ni:=(e02.mono fun z _ hz=>Or.inl hz).trans e3
   refine vs ?_
   refine am.dec (fun tK=>?_) (fun tK=>?_)<;>refine vs ?_
   ·have SX:=vp lt d (l.getD (l.length - 1) 0) i.toNat l.dropLast (rQ pl x) i
    refine(FE ho r3 hd i3 hf i (l.getD (l.length - 1) 0) ⟨i0,by omega⟩ (by omega) (hD _ WY) (fun z hz=>by
     rcases TJ lt d _ _ _ _ _ i0 (by omega) z hz with h|h
     ·rw[h];exact hD _ WY
     ·exact hD z ((apv _).subset h))).mono ?_
    rintro _ H4 ⟨r4,i4,e4⟩
    refine vs ?_
    refine .inr ⟨i,rfl,rfl,?_,?_,Ni.trans e4⟩
    ·unfold cM;rw[if_neg he];simp only;rw[if_pos tK];exact r4
    ·unfold cM;rw[if_neg he];simp only;rw[if_pos tK,←apD];exact i4
   ·refine .inr ⟨i,rfl,rfl,?_,?_,Ni⟩
    ·unfold cM;rw[if_neg he];simp only;rw[if_neg tK];exact r3
    ·unfold cM;rw[if_neg he];simp only;rw[if_neg tK];exact i3
end Go.Proofs.YtjlnnljohemifaaGreat
