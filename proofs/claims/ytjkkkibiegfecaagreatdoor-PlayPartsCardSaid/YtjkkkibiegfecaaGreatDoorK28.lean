/- Texts put behind each other. -/
import Derived.Test.YtjkkkibiegfecaaGreatDoorK98
import Derived.Test.YtjkkkibiegfecaaGreatDoorK24
import Derived.Test.YtjkkkibiegfecaaGreatDoorK25
import Derived.Test.YtjkkkibiegfecaaGreatDoorK27
set_option maxRecDepth 100000
set_option maxHeartbeats 8000000
set_option linter.unusedVariables false
set_option linter.unusedSimpArgs false
namespace Go.Proofs.YtjkkkibiegfecaaGreatDoor
open Go Go.Vc
theorem eA.Dz{lt lt':Int→Int→Bool}{l:List Int}(h:eA lt 2 l)(hfg:∀z∈l,∀y∈l,lt z y=lt' z y):eA lt' 2 l:=by
 intro j h1 h2
 have hp:=dc fg h1
 have e:∀k,k<l.length→l.getD k 0∈l:=by grind
 rw[←hfg _ (e j h2) _ (by grind)]
 exact h j h1 h2
theorem KS{l at_:List Int}(h:j0 l at_){x:Int}(hx:l[l.length - 1]? =some x)(z:Int):z∈l.dropLast↔z∈l∧z≠x:=by
 have hl:=(aoj.1 hx).1
 rw[aph]
 constructor
 ·intro hz
  obtain⟨k,hk⟩:=aoC hz
  grind [j0.Dm]
 ·rintro⟨hz,bN⟩
  obtain⟨k,hk⟩:=aoC hz
  have hkl:=(aoj.1 hk).1
  have:k≠l.length - 1:=by grind
  exact aou (i:=k) (by grind)
theorem j0.dropLast{l at_:List Int}(h:j0 l at_):j0 l.dropLast at_:=fun i x hx=>by
 rw[aph,aoZ]at hx
 split at hx
 ·exact h i x hx
 grind
section
variable {H : Hp} {n c : Nat} {C : Nat → Prop} {rv : Value} {r : Nat} {fp fa : Option Nat} {st : Int} {w : Nw} {l at_ : List Int}
structure Out(n c:Nat)(C:Nat→Prop)(rv:Value)(r:Nat)(fp fa:Option Nat)(st:Int)(w:Nw)(l at_:List Int)(x:Int)(H H':Hp)(l' at':List Int)(q:Nat):Prop where
 j9:ii H' n c C rv r fp fa (min (st+q) 4611686018427387904) w l' at'
 ok:j0 l' at'
 heap:eA (aP w) 2 l'
 mem:∀z,z∈l'↔z∈l∧z≠x
 len:l'.length+1=l.length
 KR:at'.length=at_.length
 off:∀z:Int,0≤z→z∉l→at'[z.toNat]? =at_[z.toNat]?
 ext:ah (fun z=>C z∨fp=some z∨fa=some z∨z=r) H H'
theorem PT{H1:Hp}{l1 IS:List Int}{mm q:Nat}{x:Int}(h:oQ n c C rv r fp fa st w l at_ mm H H1 l1 IS q)(hl:0<l.length)(hx:l1[l1.length - 1]? =some x)(hh:eA (aP w) 2 (l1.take (l.length - 1))):
  fW Tryz.prog (pv r) "Pop" [] H1 fun v H'=>∃l' at',Out n c C rv r fp fa st w l at_ x H H' l' at' q:=by
 have bu:=h.len
 refine⟨_,_,tB,ptr r,rfl,aS (by kernel_rfl),(IT h.j9 (by omega)).mono ?_⟩
 rintro v H2 ⟨_,m2,e2⟩
 refine⟨l1.dropLast,IS,m2,h.ok.dropLast,?_,fun z=>by rw[KS h.ok hx z,h.mem z],by rw[ao0];omega,h.KR,h.off,(h.ext.mono fun z _ hz=>?_).trans (e2.mono fun z _ hz=>.inr (.inr (.inr hz)))⟩
 ·rw[aph,bu];exact hh
 ·rcases hz with hz|hz|hz
  ·exact .inl hz
  ·exact .inr (.inl hz)
  ·exact .inr (.inr (.inl hz))
theorem DA(m:ii H n c C rv r fp fa st w l at_)(yo:j0 l at_){i:Nat}(hi:i<l.length)(ci:∀z∈l,cI w.cs z)(hh:eA (aP w) 2 l):
  ag Tryz.prog qL [pv r,i64 i] H fun v H'=>ap (∃ (l' at':List Int) (q:Nat),Out n c C rv r fp fa st w l at_ (l.getD i 0) H H' l' at' q∧q≤2*jj 2 ((l.length:Int) - 1)):=by
 have rl:=m.ll
 refine aU re ?_
 refine vs ?_
 refine fW.mono (K:=fun v H'=>v=i64 l.length∧H=H') ⟨_,_,is,ptr r,rfl,aS (by kernel_rfl),ij m⟩ ?_
 rintro _ _ ⟨rfl,rfl⟩
 refine vs ?_
 rw[show IntKind.i64.wrap ((l.length:Int) - 1)=((l.length - 1:Nat):Int) by rw[wrap64 (by omega) (by omega)];omega]
 have h0:=oQ.refl m yo l.length
 have hgi:l[i]? =some (l.getD i 0):=by rw[aon,aol hi];rfl
 refine ar.dec (fun he=>?_) (fun he=>?_)
 ·refine vs ?_
  have xY:i=l.length - 1:=by omega
  refine fW.mono (PT h0 (by omega) (x:=l.getD i 0) (by rw[←xY];exact hgi) (fun j h1 h2=>by
   rw[ao1]at h2
   have:=dc fg h1
   rw[getD_take (by omega),getD_take (by omega)]
   exact hh j h1 (by omega))) ?_
  rintro v H2 ⟨l',at',o⟩
  refine vs ?_
  exact⟨l',at',0,o,by omega⟩
 ·refine vs ?_
  have E3:i<l.length - 1:=by omega
  refine fW.mono (h0.swap (aox _) (i:=i) (j:=l.length - 1) hi (by omega) (by omega)) ?_
  rintro _ H1 ⟨rfl,h1⟩
  refine vs ?_
  have hg:=G7 (l:=l) (i:=i) (j:=l.length - 1) hi (by omega)
  have Ay:=h1.len
  have hA1:dQ (aP w) 2 ((swp l i (l.length - 1)).take (l.length - 1)) i:=by
   have hb:=hh.but (aw w) fg i
   refine⟨fun j h2 h3 h4 h5=>?_,fun j h2 h3 h4 h5=>?_⟩
   ·rw[ao1]at h3
    have:=dc fg h2
    rw[getD_take (by omega),getD_take (by omega),hg,hg,if_neg (by omega),if_neg h4,if_neg (by omega),if_neg h5]
    exact hb.1 j h2 (by omega) h4 h5
   ·rw[ao1]at h3
    have:=dc fg h2
    have:=dc fg h5
    rw[getD_take (by omega),getD_take (by omega),hg,hg,if_neg (by omega),if_neg (by omega),if_neg (by omega),if_neg (by omega)]
    exact hb.2 j h2 (by omega) h4 h5
  have OV:∀z∈swp l i (l.length - 1),cI w.cs z:=fun z hz=>ci z ((h1.mem z).1 hz)
  have nO:(swp l i (l.length - 1))[l.length - 1]? =some (l.getD i 0):=by rw[sY hi (by omega),if_pos rfl];exact hgi
  have fin:∀ {H2:Hp} {l2 Ws:List Int} {q:Nat},oQ n c C rv r fp fa (min (st+((0:Nat):Int)) 4611686018427387904) w (swp l i (l.length - 1)) (B4 l at_ i (l.length - 1)) (l.length - 1) H1 H2 l2 Ws q→eA (aP w) 2 (l2.take (l.length - 1))→
    fW Tryz.prog (pv r) "Pop" [] H2 fun v H'=>∃l' at',Out n c C rv r fp fa st w l at_ (l.getD i 0) H H' l' at' q:=by
   intro H2 l2 Ws q g pG
   have yQ:=m.cells.st
   have g':oQ n c C rv r fp fa st w l at_ l.length H H2 l2 Ws q:=by
    refine⟨?_,g.ok,fun z=>by rw[g.mem z,h1.mem z],g.len.trans Ay,?_,g.KR.trans h1.KR,fun z hz hm=>?_,h1.ext.trans g.ext⟩
    ·cases g;grind
    ·cases g;grind
    ·cases h1;cases g;grind
   refine PT g' (by omega) ?_ pG
   have hd:=g.drop
   have h2:(l2.drop (l.length - 1))[0]? =((swp l i (l.length - 1)).drop (l.length - 1))[0]? :=by rw[hd]
   rw[aoT,aoT,Nat.add_zero,nO]at h2
   rw[g.len,Ay]
   exact h2
  have SG:=lX fg ((l.length:Int) - 1).toNat (((l.length - 1:Nat):Int) - 1) ((l.length:Int) - 1) (aox _) (by omega)
  refine(vX h1.j9 h1.ok (i0:=i) (mm:=l.length - 1) E3 (by omega) OV hA1).mono ?_
  rintro _ H2 ⟨b,l2,Ws,q1,rfl,g2,V0,hT,hF⟩
  cases b with
  |true=>
   refine vs ?_
   refine fW.mono (fin g2 (hT rfl)) ?_
   rintro v H3 ⟨l',at',o⟩
   refine vs ?_
   exact⟨l',at',q1,o,by omega⟩
  |false=>
   obtain⟨e1,e2,hB⟩:=hF rfl
   subst e1 e2
   have hmi:=by omega
   refine vs ?_
   refine(te g2.j9 g2.ok (j:=i) (mm:=l.length - 1) E3 (by omega) OV hA1 hB).mono ?_
   rintro _ H3 ⟨rfl,l3,at3,q2,g3,pG,hq2,_⟩
   refine vs ?_
   have g23:oQ n c C rv r fp fa (min (st+((0:Nat):Int)) 4611686018427387904) w (swp l i (l.length - 1)) (B4 l at_ i (l.length - 1)) (l.length - 1) H1 H3 l3 at3 (q1+q2):=by
    refine⟨?_,g3.ok,g3.mem,g3.len,g3.drop,g3.KR,g3.off,g2.ext.trans g3.ext⟩
    have:=g3.j9
    rw[show min (min (min (st+((0:Nat):Int)) 4611686018427387904+(q1:Int)) 4611686018427387904+(q2:Int)) 4611686018427387904=min (min (st+((0:Nat):Int)) 4611686018427387904+((q1+q2:Nat):Int)) 4611686018427387904 by omega]at this
    exact this
   refine fW.mono (fin g23 pG) ?_
   rintro v H4 ⟨l',at',o⟩
   refine vs ?_
   exact⟨l',at',q1+q2,o,by omega⟩
end
end Go.Proofs.YtjkkkibiegfecaaGreatDoor

namespace Go.Proofs.YtjkkkibiegfecaaGreatDoor
open Go Go.Vc
structure Pl where
 r:Nat
 fp:Option Nat
 l:List Int
def Pl.S(P:Pl)(x:Nat):Prop:=x=P.r∨P.fp=some x
def RP:Option Pl→Value
 |none=>.pointer none
 |some P=>ptr P.r
structure jc(H:Hp)(n c:Nat)(C:Nat→Prop)(rv:Value)(fr fa:Option Nat)(st:Int)(w:Nw)(ps:List (Option Pl))(at_:List Int):Prop where
 own:∃av,H.own n=some [ptr c,rv,av]∧Sl H 1 av at_.length (at_.map i64) fa
 cells:aZ H c C st w
 sl:Sl H 1 rv ps.length (ps.map RP) fr
 j9:∀ (h:Nat) P,ps[h]? =some (some P)→∃sv,H.own P.r=some [ptr n,sv]∧Sl H 1 sv P.l.length (P.l.map i64) P.fp
 nC:¬C n
 S9:∀b,fr=some b→¬C b∧b≠n∧fa≠some b
 KQ:∀b,fa=some b→¬C b∧b≠n
 pd:∀ (h:Nat) P,ps[h]? =some (some P)→∀x,P.S x→¬C x∧x≠n∧fr≠some x∧fa≠some x
 pr:∀ (h:Nat) P,ps[h]? =some (some P)→P.fp≠some P.r∧P.l.length≤65536
 pp:∀ (h h':Nat) P P',ps[h]? =some (some P)→ps[h']? =some (some P')→h≠h'→∀x,P.S x→¬P'.S x
def B5(n:Nat)(C:Nat→Prop)(fr fa:Option Nat)(ps:List (Option Pl))(z:Nat):Prop:=C z∨z=n∨fr=some z∨fa=some z∨∃ (h:Nat) (P:Pl),ps[h]? =some (some P)∧P.S z
structure yD(w:Nw)(ps:List (Option Pl))(at_:List Int):Prop where
 hl:ps.length=w.hs.length
 hs:∀h:Nat,w.hs[h]? =some true↔∃P,ps[h]? =some (some P)
 h0:ps[0]? =some none
 ok:∀ (h:Nat) P,ps[h]? =some (some P)→eA (aP w) 2 P.l
 RQ:∀ (h:Nat) P,ps[h]? =some (some P)→j0 P.l at_
 mem:∀ (h:Nat) P,ps[h]? =some (some P)→∀x:Int,x∈P.l↔0≤x∧∃e,w.cs[x.toNat]? =some (((h:Nat):Int),e)
 len:∀ (h:Nat) P,ps[h]? =some (some P)→(P.l.length:Int)=w.len h
 KR:at_.length=w.cs.length
def dF(H:Hp)(n:Nat)(S:Nat→Prop)(st:Int)(w:Nw):Prop:=∃c C rv fr fa ps at_,jc H n c C rv fr fa st w ps at_∧yD w ps at_∧(∀z,B5 n C fr fa ps z↔S z)
section
variable {H H' : Hp} {n c : Nat} {C T : Nat → Prop} {rv : Value} {fr fa : Option Nat} {st Uj : Int} {w w' : Nw} {ps : List (Option Pl)} {at_ at' : List Int} {S : Nat → Prop}
theorem jc.slt(h:jc H n c C rv fr fa st w ps at_):∀z,B5 n C fr fa ps z→z<H.size:=by
 obtain⟨av,ho,ha⟩:=h.own
 rintro z (hz|rfl|hz|hz| ⟨i,P,hP,hz⟩)
 ·exact h.cells.slt z hz
 ·exact aE ho
 ·exact Sl.lt (hz▸h.sl)
 ·exact Sl.lt (hz▸ha)
 ·obtain⟨sv,h1,h2⟩:=h.j9 i P hP
  rcases hz with rfl|hz
  ·exact aE h1
  ·exact Sl.lt (hz▸h2)
theorem jc.ext(h:jc H n c C rv fr fa st w ps at_)(e:ah T H H')(hd:∀z,B5 n C fr fa ps z→¬T z):jc H' n c C rv fr fa st w ps at_:=by
 obtain⟨av,ho,ha⟩:=h.own
 refine⟨⟨av,e.own ho (hd n (.inr (.inl rfl))),ha.ext e (fun b hb=>hd b (.inr (by grind)))⟩,h.cells.ext e (fun x hx=>hd x (.inl hx)),h.sl.ext e (fun b hb=>hd b (.inr (.inr (.inl hb)))),fun i P hP=>?_,h.nC,h.S9,h.KQ,h.pd,h.pr,h.pp⟩
 obtain⟨sv,h1,h2⟩:=h.j9 i P hP
 exact⟨sv,e.own h1 (hd _ (.inr (.inr (.inr (.inr ⟨i,P,hP,.inl rfl⟩))))),h2.ext e (fun b hb=>hd b (.inr (.inr (.inr (.inr ⟨i,P,hP,.inr hb⟩)))))⟩
theorem jc.aC(h:jc H n c C rv fr fa st w ps at_)(c1:aZ H' c C Uj w')(e:ah C H H'):jc H' n c C rv fr fa Uj w' ps at_:=by
 obtain⟨av,ho,ha⟩:=h.own
 refine⟨⟨av,e.own ho h.nC,ha.ext e (fun b hb=>(h.KQ b hb).1)⟩,c1,h.sl.ext e (fun b hb=>(h.S9 b hb).1),fun i P hP=>?_,h.nC,h.S9,h.KQ,h.pd,h.pr,h.pp⟩
 obtain⟨sv,h1,h2⟩:=h.j9 i P hP
 exact⟨sv,e.own h1 (h.pd i P hP _ (.inl rfl)).1,h2.ext e (fun b hb=>(h.pd i P hP b (.inr hb)).1)⟩
theorem dF.slt(h:dF H n S st w):∀z,S z→z<H.size:=by
 obtain⟨c,C,rv,fr,fa,ps,at_,m,l,hS⟩:=h
 exact fun z hz=>m.slt z ((hS z).2 hz)
theorem dF.ext(h:dF H n S st w)(e:ah T H H')(hd:∀z,S z→¬T z):dF H' n S st w:=by
 obtain⟨c,C,rv,fr,fa,ps,at_,m,l,hS⟩:=h
 exact⟨c,C,rv,fr,fa,ps,at_,m.ext e (by grind),l,hS⟩
theorem dF.fresh(h:dF H n S st w)(e:ai H H'):dF H' n S st w:=h.ext e fun _ _ h=>h
theorem jc.DB(m:jc H n c C rv fr fa st w ps at_){g:Nat}{P:Pl}(hP:ps[g]? =some (some P)):ii H n c C rv P.r P.fp fa st w P.l at_:=by
 have hd:=m.pd g P hP
 refine⟨m.own,m.cells,m.j9 g P hP,m.nC,(hd P.r (.inl rfl)).1,(hd P.r (.inl rfl)).2.1,fun b hb=>⟨(hd b (.inr hb)).1,(hd b (.inr hb)).2.1,fun h=>(m.pr g P hP).1 (by grind),(hd b (.inr hb)).2.2.2⟩,fun b hb=>⟨(m.KQ b hb).1,(m.KQ b hb).2,fun h=>(hd P.r (.inl rfl)).2.2.2 (by grind)⟩,(m.pr g P hP).2⟩
theorem jc.FG(m:jc H n c C rv fr fa st w ps at_){g:Nat}{P P':Pl}(hP:ps[g]? =some (some P))(hr:P'.r=P.r)(pm:ii H' n c C rv P'.r P'.fp fa Uj w' P'.l at')(jg:P'.fp=P.fp∨∃z,P'.fp=some z∧H.size≤z)
  (e:ah T H H')(hT:∀z,T z→C z∨P.S z∨fa=some z):jc H' n c C rv fr fa Uj w' (ps.set g (some P')) at':=by
 have bL:=m.slt
 have hg:=(aoj.1 hP).1
 have hPS:∀x,P'.S x→P.S x∨H.size≤x:=fun x hx=>by
  rcases hx with rfl|hx
  ·exact .inl (.inl hr)
  ·rcases jg with h| ⟨z,h,h5⟩
   ·exact .inl (.inr (h▸hx))
   grind
 have dL:∀ (h:Nat) Q,(ps.set g (some P'))[h]? =some (some Q)→(h=g∧Q=P')∨(h≠g∧ps[h]? =some (some Q)):=by grind
 have hd:=m.pd g P hP
 refine⟨pm.own,pm.cells,?_,fun h Q hQ=>?_,m.nC,m.S9,m.KQ,fun h Q hQ x hx=>?_,fun h Q hQ=>?_,fun h h' Q Q' hQ Vi bN x hx BP=>?_⟩
 ·have h1:(ps.set g (some P')).map RP=ps.map RP:=by
   rw[aoN]
   refine aoM fun i=>?_
   by_cases hi:i=g
   ·subst hi
    rw[aot (by grind),aoF,hP]
    simp[RP,hr]
   ·grind
  rw[h1,aom]
  exact m.sl.ext e (fun b hb ht=>by
   rcases hT b ht with h|h|h
   ·exact(m.S9 b hb).1 h
   ·grind
   ·exact(m.S9 b hb).2.2 h)
 ·rcases dL h Q hQ with ⟨rfl,rfl⟩| ⟨h1,h2⟩
  ·exact pm.j9
  ·obtain⟨sv,q1,q2⟩:=m.j9 h Q h2
   have bU:∀x,Q.S x→¬T x:=fun x hx ht=>by
    cases m;grind
   exact⟨sv,e.own q1 (bU _ (.inl rfl)),q2.ext e (fun b hb=>bU b (.inr hb))⟩
 ·rcases dL h Q hQ with ⟨rfl,rfl⟩| ⟨h1,h2⟩
  ·rcases hPS x hx with h3|h3
   ·grind
   ·refine⟨fun hc=>?_,fun hc=>?_,fun hc=>?_,fun hc=>?_⟩
    ·have:=bL x (.inl hc);omega
    ·have:=bL n (.inr (.inl rfl));omega
    ·have:=bL x (.inr (.inr (.inl hc)));omega
    ·have:=bL x (.inr (by grind));omega
  ·exact m.pd h Q h2 x hx
 ·rcases dL h Q hQ with ⟨rfl,rfl⟩| ⟨h1,h2⟩
  ·refine⟨fun hc=>?_,pm.ll⟩
   exact(pm.ye _ hc).2.2.1 rfl
  ·exact m.pr h Q h2
 ·rcases dL h Q hQ with ⟨rfl,rfl⟩| ⟨h1,h2⟩
  ·rcases dL h' Q' Vi with ⟨rfl,rfl⟩| ⟨h3,h4⟩
   ·omega
   ·rcases hPS x hx with h5|h5
    ·exact m.pp _ h' P Q' hP h4 bN x h5 BP
    ·have:=bL x (.inr (by grind));omega
  ·rcases dL h' Q' Vi with ⟨rfl,rfl⟩| ⟨h3,h4⟩
   ·rcases hPS x BP with h5|h5
    ·exact m.pp h _ Q P h2 hP bN x hx h5
    ·have:=bL x (.inr (by grind));omega
   ·exact m.pp h h' Q Q' h2 h4 bN x hx BP
theorem jc.ZI(m:jc H n c C rv fr fa st w ps at_){i:Nat}{o:Option Pl}(h:ps[i]? =some o):∃f cc lb,rv= .slice (some ⟨f,0,none⟩) ps.length cc∧fr=some f∧H.own f=some lb∧lb[i]? =some (RP o)∧i<ps.length:=by
 obtain⟨b,cc,lb,h1,h2,h3,h4,h5,_⟩:=Sl.at_ m.sl (i:=i) (x:=RP o) (by simp[h])
 grind
theorem yD.ed(l:yD w ps at_){g:Int}(h:w.has g):∃P,ps[g.toNat]? =some (some P):=(l.hs g.toNat).1 h.2
end
theorem IV(cap:Int)(H:Hp):ag Tryz.prog N9 [i64 cap] H fun v H'=>ap (
  ai H H'∧((¬ (0≤cap∧cap≤65536)∧v= .tuple [.pointer none,i64 31].toArray)∨
   ((0≤cap∧cap≤65536)∧∃n S,v= .tuple [ptr n,i64 0].toArray∧dF H' n S 0 ⟨[false],List.replicate cap.toNat (0,0,0)⟩∧∀x,S x→H.size≤x))):=by
 refine aU Of ?_
 refine vs ?_
 refine(mr cap H).mono ?_
 rintro _ H1 ⟨f1,⟨hb,rfl⟩| ⟨hb,c,C,rfl,c1,hC⟩⟩
 ·refine vs ?_
  exact⟨f1,.inl ⟨hb,rfl⟩⟩
 refine v1 aoE ?_
 refine⟨by omega,?_⟩
 refine vs ?_
 have afO:∀k:Nat,dE [Value.int .i64 0] k=(List.replicate k (0:Int)).map i64:=fun k=>by
  induction k with
  |zero=>rfl
  |succ k ih=>simp only[dE,ao2,aps,apd]at*;grind
 rw[afO]
 have GF:=c1.slt
 have z1:=f1.size
 have f3:ai H1 (((H1.new 399 [.pointer none]).new 3 ((List.replicate cap.toNat (0:Int)).map i64)).new 241 [ptr c,.slice (some ⟨H1.size,0,none⟩) 1 1,.slice (some ⟨H1.size+1,0,none⟩) cap.toNat cap.toNat]):=(((ah.refl _ _).new _ _).new _ _).new _ _
 have e2:ah (fun _=>False) ((H1.new 399 [.pointer none]).new 3 ((List.replicate cap.toNat (0:Int)).map i64)) (((H1.new 399 [.pointer none]).new 3 ((List.replicate cap.toNat (0:Int)).map i64)).new 241 [ptr c,.slice (some ⟨H1.size,0,none⟩) 1 1,.slice (some ⟨H1.size+1,0,none⟩) cap.toNat cap.toNat]):=(ah.refl _ _).new _ _
 have e1:ah (fun _=>False) (H1.new 399 [.pointer none]) ((H1.new 399 [.pointer none]).new 3 ((List.replicate cap.toNat (0:Int)).map i64)):=(ah.refl _ _).new _ _
 have bU:∀ (h:Nat) (P:Pl),([none]:List (Option Pl))[h]? ≠some (some P):=by grind
 refine⟨f1.trans f3,.inr ⟨hb,H1.size+1+1,B5 (H1.size+1+1) C (some H1.size) (some (H1.size+1)) [none],rfl,⟨c,C,_,some H1.size,some (H1.size+1),[none],List.replicate cap.toNat 0,
  ⟨⟨_,aR (by simp only[ak]),?_⟩,c1.fresh f3,?_,by grind,by grind,fun b hb=>?_,fun b hb=>?_,by grind,by grind,by grind⟩,
  ⟨rfl,fun h=>?_,rfl,by grind,by grind,by grind,by grind,by simp⟩,fun z=>Iff.rfl⟩,fun x hx=>?_⟩⟩
 ·rw[ao5]
  exact(Sl.dM (size:=1) (n:=cap.toNat) (xs:=(List.replicate cap.toNat (0:Int)).map i64) (by simp) (by simp only[ak])).ext e2 (fun _ _ h=>h)
 ·exact((Sl.dM (size:=1) (n:=1) (xs:=[.pointer none]) rfl rfl).ext e1 (fun _ _ h=>h)).ext e2 (fun _ _ h=>h)
 ·grind
 ·grind
 ·grind
 ·rcases hx with hx|rfl|hx|hx| ⟨i,P,hP,hx⟩
  ·grind
  ·omega
  ·grind
  ·grind
  grind
theorem Hc{H:Hp}{n:Nat}{S:Nat→Prop}{st:Int}{w:Nw}(h:dF H n S st w):ag Tryz.prog qJ [ptr n] H fun v H'=>ap (
  (w.hs.length=65537∧v=i64 0∧H=H')∨
  (w.hs.length≠65537∧v=i64 w.hs.length∧∃S',dF H' n S' st w.make∧ah S H H'∧∀x,S' x→S x∨H.size≤x)):=by
 obtain⟨c,C,rv,fr,fa,ps,at_,m,l,hS⟩:=h
 obtain⟨av,ho,ha⟩:=m.own
 refine aU Db ?_
 refine v1 (ae ho) ?_
 refine(kU m.cells).mono ?_
 rintro _ H1 (⟨h1,rfl,rfl⟩| ⟨h1,rfl,C',c1,e1,Q2⟩)
 ·refine vs ?_
  exact .inl ⟨h1,rfl,rfl⟩
 have gI:0<ps.length:=(aoj.1 l.h0).1
 have rl:=l.hl
 have o1:=e1.own ho m.nC
 refine vs ?_
 refine ar.dl (by grind) ?_
 refine v1 (ae o1) ?_
 have EW:=m.cells.EW
 have bL:=m.slt
 have afP:=c1.slt
 have z1:=e1.size
 have e2:ah (fun _=>False) H1 (H1.new 403 [ptr n,.slice none 0 0]):=(ah.refl _ _).new _ _
 have hq2:(H1.new 403 [ptr n,.slice none 0 0]).own H1.size=some [ptr n,.slice none 0 0]:=aA _ _ _
 have z2:(H1.new 403 [ptr n,.slice none 0 0]).size=H1.size+1:=by simp only[ak]
 generalize (H1.new 403 [ptr n,.slice none 0 0])=H2 at*
 have e0:ah (fun _=>False) H2 (H2.new 399 [ptr H1.size]):=(ah.refl _ _).new _ _
 have sl2:=(m.sl.ext e1 (fun b hb h=>(m.S9 b hb).1 h)).ext e2 (fun _ _ h=>h)
 have o2:=e2.own o1 (fun h=>h)
 refine Sl.append (sl2.ext e0 (fun _ _ h=>h)) (Sl.dM (size:=1) (n:=1) (xs:=[ptr H1.size]) rfl z2.symm).rd rfl (by intro v hv;simp only[aoB]at hv;subst hv;rfl) (by omega) ?_
 intro v' H3 fr' s3 e3 Xk
 have OW:ah (fun z=>fr=some z) H2 H3:=(e0.mono fun _ _ h=>h.elim).oz e3 (fun z _ h=>h)
 have o3:=OW.own o2 (fun h=>(m.S9 n h).2.1 rfl)
 obtain⟨a',Uh,Lr⟩:=fh.Oz s3.rd
 subst Lr
 refine v1 o3 ?_
 generalize Lr:Value.slice a' (ps.length+1) Uh=v' at*
 have e4:ah (fun z=>z=n) H3 (H3.wr n [ptr c,v',av]):=(ah.refl (fun z=>z=n) _).wr (fun _=>rfl) _
 have hn:=aE ho
 have akF:∀b,fr=some b→b<H.size:=fun b hb=>bL b (.inr (.inr (.inl hb)))
 have akG:∀b,fa=some b→b<H.size:=fun b hb=>bL b (.inr (by grind))
 have afQ:∀b,fr'=some b→fr=some b∨H2.size≤b:=fun b hb=>by
  grind [ak]
 have dL:∀ (h:Nat) P,(ps++[some (⟨H1.size,none,[]⟩:Pl)])[h]? =some (some P)→ps[h]? =some (some P)∨(h=ps.length∧P=⟨H1.size,none,[]⟩):=by grind
 have hold:∀ (h:Nat) P,ps[h]? =some (some P)→∀x,P.S x→x<H.size:=fun h P hP x hx=>bL x (.inr (by grind))
 have ND:∀x,(⟨H1.size,none,[]⟩:Pl).S x→x=H1.size:=fun x hx=>by rcases hx with h|h;exact h;cases h
 have T9:∀ (x:Nat) (e:Int×Int),w.cs[x]? ≠some (((ps.length:Nat):Int),e):=fun x e hx=>by
  have:=(m.cells.home _ (aou hx)).2
  omega
 refine .inr ⟨h1,rfl,B5 n C' fr' fa (ps++[some ⟨H1.size,none,[]⟩]),⟨c,C',v',fr',fa,ps++[some ⟨H1.size,none,[]⟩],at_,
  ⟨⟨av,af o3,?_⟩,?_,?_,fun h P hP=>?_,fun h=>?_,fun b hb=>⟨fun h=>?_,?_,fun h=>?_⟩,fun b hb=>⟨fun h=>?_,(m.KQ b hb).2⟩,fun h P hP x hx=>⟨fun h=>?_,?_,fun h=>?_,fun h=>?_⟩,fun h P hP=>?_,fun h h' P P' hP hP' bN x hx BP=>?_⟩,
  ⟨?_,fun h=>?_,?_,fun h P hP=>?_,fun h P hP=>?_,fun h P hP x=>?_,fun h P hP=>?_,l.KR⟩,fun z=>Iff.rfl⟩,?_,fun x hx=>?_⟩
 ·exact(((ha.ext e1 (fun b hb h=>(m.KQ b hb).1 h)).ext e2 (fun _ _ h=>h)).ext OW (fun b hb h=>(m.S9 b h).2.2 hb)).ext e4 (fun b hb h=>(m.KQ b hb).2 h)
 ·exact((c1.ext e2 (fun _ _ h=>h)).ext OW (fun x hx e=>by
   cases m;grind)).ext e4 (fun x hx e=>by
   cases m;grind)
 ·have:=s3.ext e4 (fun b hb e=>by
   cases m;grind)
  rw[aos,ape]
  exact this
 ·rcases dL h P hP with h5| ⟨rfl,rfl⟩
  ·obtain⟨sv,q1,q2⟩:=m.j9 h P h5
   have hd:=m.pd h P h5
   exact⟨sv,e4.own (OW.own (e2.own (e1.own q1 (hd _ (.inl rfl)).1) (fun h=>h)) (hd _ (.inl rfl)).2.2.1) (by grind),
    (((q2.ext e1 (fun b hb=>(hd b (.inr hb)).1)).ext e2 (fun _ _ h=>h)).ext OW (fun b hb=>(hd b (.inr hb)).2.2.1)).ext e4 (fun b hb=>(hd b (.inr hb)).2.1)⟩
  ·exact⟨_,e4.own (OW.own hq2 (by grind)) (by grind),Sl.nil _ _⟩
 ·cases m;grind
 ·cases m;grind
 ·cases m;grind
 ·cases m;grind
 ·cases m;grind
 ·cases m;grind
 ·cases m;grind
 ·cases m;grind
 ·cases m;grind
 ·cases m;grind
 ·cases m;grind
 ·simp[Nw.make,rl]
 ·show(w.hs++[true])[h]? =some true↔_
  cases l;grind
 ·cases l;grind
 ·rcases dL h P hP with h5| ⟨rfl,rfl⟩
  ·exact l.ok h P h5
  ·exact fun j _ hj=>by grind
 ·rcases dL h P hP with h5| ⟨rfl,rfl⟩
  ·exact l.RQ h P h5
  ·exact fun i x hx=>by grind
 ·rcases dL h P hP with h5| ⟨rfl,rfl⟩
  ·exact l.mem h P h5 x
  ·simp only[List.not_mem_nil,false_iff]
   rintro⟨_,e,he⟩
   exact T9 _ _ he
 ·rcases dL h P hP with h5| ⟨rfl,rfl⟩
  ·exact l.len h P h5
  ·show((0:Nat):Int)=w.len _
   unfold Nw.len
   rw[if_pos (by omega),apE.2 (fun x hx=>by
    have:=(m.cells.home x hx).2
    grind)]
 ·exact((e1.mono fun z _ hz=>(hS z).1 (.inl hz)).trans ((e2.mono fun _ _ h=>h.elim).trans (OW.mono fun z _ hz=>(hS z).1 (.inr (.inr (.inl hz)))))).trans (e4.mono fun z _ hz=>(hS z).1 (.inr (.inl hz)))
 ·rcases hx with hx|rfl|hx|hx| ⟨i,P,hP,hx⟩
  ·rcases Q2 x hx with h|h
   ·exact .inl ((hS x).1 (.inl h))
   omega
  ·exact .inl ((hS x).1 (.inr (.inl rfl)))
  ·rcases afQ x hx with h|h
   ·exact .inl ((hS x).1 (.inr (.inr (.inl h))))
   omega
  ·exact .inl ((hS x).1 (.inr (by grind)))
  ·rcases dL i P hP with h5| ⟨_,rfl⟩
   ·exact .inl ((hS x).1 (.inr (by grind)))
   grind
end Go.Proofs.YtjkkkibiegfecaaGreatDoor

namespace Go.Proofs.YtjkkkibiegfecaaGreatDoor
open Go Go.Vc
theorem j0.Vj{l at_ at':List Int}(h:j0 l at_)(ho:∀z∈l,0≤z→at'[z.toNat]? =at_[z.toNat]?):j0 l at':=fun i x hx=>by
 obtain⟨a,b⟩:=h i x hx
 grind
theorem iL{ps:List (Option Pl)}{g:Nat}{P':Pl}(hg:g<ps.length){h:Nat}{Q:Pl}(hQ:(ps.set g (some P'))[h]? =some (some Q)):(h=g∧Q=P')∨(h≠g∧ps[h]? =some (some Q)):=by
 grind
theorem yD.apart{w:Nw}{ps:List (Option Pl)}{at_:List Int}(l:yD w ps at_){h h':Nat}{P Q:Pl}(hP:ps[h]? =some (some P))(hQ:ps[h']? =some (some Q))(bN:h≠h'){z:Int}(hz:z∈P.l):z∉Q.l:=fun hz'=>by
 obtain⟨_,e1,h1⟩:=(l.mem h P hP z).1 hz
 obtain⟨_,e2,h2⟩:=(l.mem h' Q hQ z).1 hz'
 grind
theorem yD.pos{w:Nw}{ps:List (Option Pl)}{at_:List Int}(l:yD w ps at_){h:Nat}{P:Pl}(hP:ps[h]? =some (some P)):0<h:=by
 cases l;grind
theorem DC{H:Hp}{n:Nat}{S:Nat→Prop}{st:Int}{w:Nw}(h:dF H n S st w)(g x k s:Int):ag Tryz.prog og [ptr n,i64 g,i64 x,tE k s] H fun v H'=>ap (
  (¬ (w.has g∧(0≤x∧x<w.cs.length)∧¬cI w.cs x)∧v= .bool false∧dF H' n S st w∧ah S H H')∨
  ((w.has g∧(0≤x∧x<w.cs.length)∧¬cI w.cs x)∧v= .bool true∧∃ (S':Nat→Prop) (q:Nat),(q:Int)≤jj 2 (w.len g)∧(0<w.len g→0<q)∧dF H' n S' (min (st+q) 4611686018427387904) (w.put x (g,k,s))∧ah S H H'∧∀z,S' z→S z∨H.size≤z)):=by
 obtain⟨c,C,rv,fr,fa,ps,at_,m,l,hS⟩:=h
 refine aU zY ?_
 refine vs ?_
 have f0:ai H (H.new 190 [i64 k,u64 s]):=(ah.refl _ _).new _ _
 have b0:(H.new 190 [i64 k,u64 s]).own H.size=some [i64 k,u64 s]:=aA _ _ _
 have m0:=m.ext f0 (fun _ _ h=>h)
 generalize H.new 190 [i64 k,u64 s]=H0 at*
 obtain⟨av,KN,Wh⟩:=m0.own
 refine v2 (ae KN) (ae b0) ?_
 refine(mu m0.cells g x k s).mono ?_
 rintro _ H1 (⟨bU,rfl,c1,e1⟩| ⟨fX,rfl,c1,e1⟩)
 ·refine vs ?_
  exact .inl ⟨bU,rfl,⟨c,C,rv,fr,fa,ps,at_,m0.aC c1 e1,l,hS⟩,(f0.mono fun _ _ h=>h.elim).trans (e1.mono fun z _ hz=>(hS z).1 (.inl hz))⟩
 obtain⟨hh,⟨im,nO⟩,ci⟩:=id fX
 obtain⟨P,hP⟩:=l.ed hh
 have h1:=hh.1
 have Nq:((g.toNat:Nat):Int)=g:=by omega
 have dW:=l.mem _ P hP
 have bu:=l.len _ P hP
 rw[Nq]at dW bu
 obtain⟨c0,DZ⟩:∃c0,w.cs[x.toNat]? =some c0:=by grind
 have AA:¬0<c0.1:=fun h=>ci ⟨im,c0,DZ,h⟩
 have jh:(w.put x (g,k,s)).cs[x.toNat]? =some (g,k,s):=aot (by omega)
 have B6:∀y:Nat,y≠x.toNat→(w.put x (g,k,s)).cs[y]? =w.cs[y]? :=fun y hy=>aor (Ne.symm hy)
 have XL:∀ (i:Nat) Q,ps[i]? =some (some Q)→x∉Q.l:=fun i Q hQ hm=>by
  cases l;grind
 have bN:∀ (i:Nat) Q,ps[i]? =some (some Q)→∀y∈Q.l,0≤y∧y.toNat≠x.toNat:=fun i Q hQ y hy=>by
  cases l;grind
 have hlc:∀ (i:Nat) Q,ps[i]? =some (some Q)→eA (aP (w.put x (g,k,s))) 2 Q.l:=fun i Q hQ=>
  (l.ok i Q hQ).Dz fun z hz y hy=>(iw w x _ (bN i Q hQ z hz).2 (bN i Q hQ y hy).2).symm
 have Hd:∀z∈P.l,cI (w.put x (g,k,s)).cs z:=fun z hz=>by
  obtain⟨z0,e,he⟩:=(dW z).1 hz
  exact⟨z0,_,by rw[B6 _ (bN _ P hP z hz).2];exact he,by omega⟩
 have XM:cI (w.put x (g,k,s)).cs x:=⟨im,_,jh,by omega⟩
 have hlp:(w.put x (g,k,s)).len g=w.len g+1:=by rw[Nw.gK DZ g,if_neg (by omega),if_pos ⟨by omega,rfl⟩];omega
 have rV:=m.cells.CI
 have rl:P.l.length<65536:=by
  have:=((w.put x (g,k,s)).kT g).2
  have h5:(w.put x (g,k,s)).cs.length=w.cs.length:=aom ..
  omega
 have m1:=m0.aC c1 e1
 obtain⟨av1,Q4,_⟩:=m1.own
 obtain⟨f,cc,lb,rfl,rfl,hf,Vg,eC⟩:=m1.ZI hP
 refine v1 (ae Q4) ?_
 refine⟨by omega,?_⟩
 simp(disch:=(first|omega| (simp only[Zs]<;>omega)|fail)) only[go_sem, ↓reduceIte,Zv,ae hf,aok,Vg,RP]
 refine(vY (m1.DB hP) (l.RQ _ P hP) rl ⟨im,by rw[l.KR];omega⟩ (XL _ P hP) XM Hd (hlc _ P hP)).mono ?_
 rintro _ H2 ⟨rfl,di,l',at',q,pm,akH,pG,aig,aih,Q5,Q6,hq,hq0,e2,mC⟩
 refine vs ?_
 have z0:=f0.size
 have z1:=e1.size
 have hT:∀z,(C z∨P.fp=some z∨fa=some z∨z=P.r)→C z∨P.S z∨fa=some z:=fun z hz=>by
  rcases hz with hz|hz|hz|hz
  ·grind
  ·exact .inr (.inl (.inr hz))
  ·grind
  ·exact .inr (.inl (.inl hz))
 have Nu:∀z,(C z∨P.fp=some z∨fa=some z∨z=P.r)→S z:=fun z hz=>(hS z).1 (by
  rcases hT z hz with hz|hz|hz
  ·exact .inl hz
  ·exact .inr (by grind)
  ·exact .inr (by grind))
 refine .inr ⟨fX,rfl,B5 n C (some f) fa (ps.set g.toNat (some ⟨P.r,di,l'⟩)),q,by grind,by omega,
  ⟨c,C,_,some f,fa,_,at',m1.FG hP (P':=⟨P.r,di,l'⟩) rfl pm mC e2 hT,
   ⟨by rw[aom];exact l.hl,fun h=>?_,?_,fun h Q hQ=>?_,fun h Q hQ=>?_,fun h Q hQ y=>?_,fun h Q hQ=>?_,?_⟩,fun z=>Iff.rfl⟩,?_,fun z hz=>?_⟩
 ·show w.hs[h]? =some true↔_
  cases l;grind
 ·cases l;grind
 ·grind
 ·rcases iL eC hQ with ⟨rfl,rfl⟩| ⟨h5,h6⟩
  ·omega
  ·exact(l.RQ h Q h6).Vj fun z hz z0=>Q6 z z0 (by grind) (l.apart h6 hP h5 hz)
 ·rcases iL eC hQ with ⟨rfl,rfl⟩| ⟨h5,h6⟩
  ·grind
  cases l;grind
 ·rcases iL eC hQ with ⟨rfl,rfl⟩| ⟨h5,h6⟩
  ·grind
  cases l;grind [Nw.gK]
 ·rw[Q5,l.KR];exact(aom ..).symm
 ·exact(f0.mono fun _ _ h=>h.elim).trans ((e1.mono (by grind)).trans (e2.mono (by grind)))
 ·rcases hz with hz|rfl|hz|hz| ⟨i,Q,hQ,hz⟩
  ·grind
  ·exact .inl ((hS z).1 (.inr (.inl rfl)))
  ·exact .inl ((hS z).1 (.inr (.inr (.inl hz))))
  ·grind
  ·rcases iL eC hQ with ⟨rfl,rfl⟩| ⟨h5,h6⟩
   ·rcases hz with rfl|hz
    ·grind
    grind
   ·exact .inl ((hS z).1 (.inr (by grind)))
theorem yE{H:Hp}{n:Nat}{S:Nat→Prop}{st:Int}{w:Nw}(h:dF H n S st w)(g:Int):ag Tryz.prog tA [ptr n,i64 g] H fun v H'=>ap (
  ((w.len g=0∧v= .tuple [i64 0,.bool false].toArray)∨∃x,w.first g x∧v= .tuple [i64 x,.bool true].toArray)∧H=H'):=by
 obtain⟨c,C,rv,fr,fa,ps,at_,m,l,hS⟩:=h
 obtain⟨av,ho,ha⟩:=m.own
 refine aU EH ?_
 refine v1 (ae ho) ?_
 refine(iu m.cells g).mono ?_
 rintro _ _ ⟨rfl,rfl⟩
 refine vs ?_
 refine ar.dec (fun h0=>?_) (fun h0=>?_)
 ·refine vs ?_
  exact⟨.inl ⟨h0,rfl⟩,rfl⟩
 have hg:0<g:=by
  by_cases hg:0<g
  ·exact hg
  ·grind [Nw.Aa]
 have afT:w.has g:=by
  refine⟨by omega,?_⟩
  by_cases hx:w.hs[g.toNat]? =some true
  ·exact hx
  ·refine absurd (Nw.Aa.2 (.inr fun i c hc e=>hx ?_)) h0
   have:=m.cells.live c (by grind) (by omega)
   grind
 obtain⟨P,hP⟩:=l.ed afT
 have Nq:((g.toNat:Nat):Int)=g:=by omega
 have dW:=l.mem _ P hP
 have bu:=l.len _ P hP
 rw[Nq]at dW bu
 have rl:=(w.kT g).1
 obtain⟨f,cc,lb,rfl,rfl,hf,Vg,eC⟩:=m.ZI hP
 obtain⟨sv,hr,hs⟩:=m.j9 _ P hP
 obtain⟨x,hx⟩:∃x,P.l[0]? =some x:=⟨_,aol (by omega)⟩
 obtain⟨b,c2,l2,rfl,jg,hb,lq,_,uF⟩:=Sl.at_ hs (i:=0) (x:=i64 x) (by simp[hx])
 refine v1 (ae ho) ?_
 refine⟨by omega,?_⟩
 simp(disch:=(first|omega| (simp only[Zs]<;>omega)|fail)) only[go_sem, ↓reduceIte,Zv,ae hf,aok,Vg,RP,ae hr]
 refine⟨by omega,?_⟩
 refine v2 (ae hb) (show l2[Int.toNat 0*1]? =some (i64 x)from lq) ?_
 have hxP:=aou hx
 obtain⟨im,e,he⟩:=(dW x).1 hxP
 refine⟨.inr ⟨x,⟨hg,im,⟨e,he⟩,fun y hy ⟨e',FE⟩ bN=>?_⟩,rfl⟩,rfl⟩
 have hyP:=(dW y).2 ⟨hy,e',FE⟩
 obtain⟨j,hj⟩:=aoC hyP
 have Zq:=(aoj.1 hj).1
 have h5:=GS (aw w) fg (l.ok _ P hP) j j (aox _) Zq
 rw[sZ hj,sZ hx]at h5
 rcases(aw w).WR x y (Ne.symm bN)with h6|h6
 ·exact h6
 grind
theorem rH{H:Hp}{n:Nat}{S:Nat→Prop}{st:Int}{w:Nw}(h:dF H n S st w)(x:Int):ag Tryz.prog od [ptr n,i64 x] H fun v H'=>ap (
  (¬cI w.cs x∧v= .bool false∧H=H')∨
  (cI w.cs x∧v= .bool true∧∃ (c0:Ce) (q:Nat),w.cs[x.toNat]? =some c0∧q≤2*jj 2 (w.len c0.1 - 1)∧∃S',dF H' n S' (min (st+q) 4611686018427387904) (w.put x (0,0,0))∧ah S H H'∧∀z,S' z→S z∨H.size≤z)):=by
 obtain⟨c,C,rv,fr,fa,ps,at_,m,l,hS⟩:=h
 obtain⟨av,ho,ha⟩:=m.own
 refine aU zX ?_
 refine v1 (ae ho) ?_
 refine(cY m.cells x).mono ?_
 rintro _ H1 (⟨bU,rfl,rfl⟩| ⟨ci,c0,DZ,rfl,c1,e1⟩)
 ·refine vs ?_
  exact .inl ⟨bU,rfl,rfl⟩
 obtain⟨im,c0',KT,gI⟩:=id ci
 rw[DZ]at KT
 injection KT with KT
 subst KT
 obtain⟨P,hP⟩:=(l.hs c0.1.toNat).1 (m.cells.live _ (by grind) gI)
 have Nq:((c0.1.toNat:Nat):Int)=c0.1:=by omega
 have dW:=l.mem _ P hP
 have bu:=l.len _ P hP
 rw[Nq]at dW bu
 have jh:(w.put x (0,0,0)).cs[x.toNat]? =some (0,0,0):=aot (by grind)
 have B6:∀y:Nat,y≠x.toNat→(w.put x (0,0,0)).cs[y]? =w.cs[y]? :=fun y hy=>aor (Ne.symm hy)
 have m1:=m.aC c1 e1
 obtain⟨av1,Q4,Uc⟩:=m1.own
 have hxP:x∈P.l:=by grind
 have Hd:∀z∈P.l,cI w.cs z:=fun z hz=>by
  obtain⟨z0,e,he⟩:=(dW z).1 hz
  exact⟨z0,_,he,gI⟩
 obtain⟨i,hi⟩:=aoC hxP
 have xY:=(aoj.1 hi).1
 obtain⟨_,hai⟩:=l.RQ _ P hP i x hi
 obtain⟨f,cc,lb,rfl,rfl,hf,Vg,eC⟩:=m1.ZI hP
 obtain⟨fa',ac,la,rfl,hfa,XN,XO,_,_⟩:=Sl.at_ Uc (i:=x.toNat) (x:=i64 i) (by grind)
 have Q3:=by omega
 refine v1 (ae Q4) ?_
 refine⟨by omega,?_⟩
 simp(disch:=(first|omega| (simp only[Zs]<;>omega)|fail)) only[go_sem, ↓reduceIte,Zv,ae hf,aok,Vg,RP,ae Q4]
 refine⟨by omega,?_⟩
 refine v3 (ae XN) aok XO ?_
 refine(DA (m1.DB hP) (l.RQ _ P hP) xY Hd (l.ok _ P hP)).mono ?_
 rintro _ H2 ⟨l',at',q,o,hq⟩
 rw[sZ hi]at o
 have hT:∀z,(C z∨P.fp=some z∨fa=some z∨z=P.r)→C z∨P.S z∨fa=some z:=fun z hz=>by
  rcases hz with hz|hz|hz|hz
  ·grind
  ·exact .inr (.inl (.inr hz))
  ·grind
  ·exact .inr (.inl (.inl hz))
 have Nu:∀z,(C z∨P.fp=some z∨fa=some z∨z=P.r)→S z:=fun z hz=>(hS z).1 (by
  rcases hT z hz with hz|hz|hz
  ·exact .inl hz
  ·exact .inr (by grind)
  ·exact .inr (by grind))
 have m2:=m1.FG hP (P':=⟨P.r,P.fp,l'⟩) rfl o.j9 (.inl rfl) o.ext hT
 obtain⟨av2,ho2,_⟩:=m2.own
 refine v1 (ae ho2) ?_
 refine(kV m2.cells x).mono ?_
 rintro _ H3 (⟨bU,_,_⟩| ⟨_,rfl,c3,e3⟩)
 ·exact absurd ci bU
 refine vs ?_
 have m3:=m2.aC c3 e3
 have bN:∀ (h:Nat) Q,h≠c0.1.toNat→ps[h]? =some (some Q)→∀y∈Q.l,y.toNat≠x.toNat:=fun h Q hh hQ y hy e=>by
  obtain⟨y0,e',he⟩:=(l.mem h Q hQ y).1 hy
  grind
 have XP:∀y∈l',y.toNat≠x.toNat:=fun y hy e=>by
  cases o;grind
 refine .inr ⟨ci,rfl,c0,q,DZ,by grind,B5 n C (some f) fa (ps.set c0.1.toNat (some ⟨P.r,P.fp,l'⟩)),
  ⟨c,C,_,some f,fa,_,at',m3,⟨by rw[aom];exact l.hl,fun h=>?_,?_,fun h Q hQ=>?_,fun h Q hQ=>?_,fun h Q hQ y=>?_,fun h Q hQ=>?_,?_⟩,fun z=>Iff.rfl⟩,?_,fun z hz=>?_⟩
 ·show w.hs[h]? =some true↔_
  rw[l.hs h]
  grind
 ·rw[aor (by omega)];exact l.h0
 ·rcases iL eC hQ with ⟨rfl,rfl⟩| ⟨h5,h6⟩
  ·cases o;grind [eA.Dz,iw]
  ·exact(l.ok h Q h6).Dz fun z hz y hy=>(iw w x _ (by grind) (by grind)).symm
 ·rcases iL eC hQ with ⟨rfl,rfl⟩| ⟨h5,h6⟩
  ·exact o.ok
  ·exact(l.RQ h Q h6).Vj fun z hz z0=>o.off z z0 (l.apart h6 hP h5 hz)
 ·by_cases FD:y.toNat=x.toNat
  ·rw[FD,jh]
   have h0:=iL eC hQ
   constructor
   ·grind
   ·rintro⟨_,e,he⟩
    injection he with he
    injection he with Ta _
    rcases h0 with ⟨rfl,rfl⟩| ⟨h5,h6⟩
    ·omega
    ·have:=l.pos h6;omega
  ·rw[B6 _ FD]
   rcases iL eC hQ with ⟨rfl,rfl⟩| ⟨h5,h6⟩
   ·cases o;grind
   ·exact l.mem h Q h6 y
 ·rcases iL eC hQ with ⟨rfl,rfl⟩| ⟨h5,h6⟩
  ·cases o;grind [Nw.gK]
  ·have:=l.pos h6
   rw[l.len h Q h6,Nw.gK DZ h,if_neg (by omega),if_neg (by omega)]
   omega
 ·rw[o.KR,l.KR];exact(aom ..).symm
 ·exact(e1.mono (by grind)).trans ((o.ext.mono (by grind)).trans (e3.mono (by grind)))
 ·rcases hz with hz|rfl|hz|hz| ⟨i,Q,hQ,hz⟩
  ·grind
  ·exact .inl ((hS z).1 (.inr (.inl rfl)))
  ·exact .inl ((hS z).1 (.inr (.inr (.inl hz))))
  ·grind
  ·rcases iL eC hQ with ⟨rfl,rfl⟩| ⟨h5,h6⟩
   ·rcases hz with rfl|hz
    ·grind
    grind
   ·exact .inl ((hS z).1 (.inr (by grind)))
theorem B7{H:Hp}{n:Nat}{S:Nat→Prop}{st:Int}{w:Nw}(h:dF H n S st w)(g:Int):ag Tryz.prog mQ [ptr n,i64 g] H fun v H'=>ap (
  (w.len g=0∧v= .tuple [i64 0,.bool false].toArray∧H=H')∨
  (∃x,w.first g x∧v= .tuple [i64 x,.bool true].toArray∧∃q:Nat,q≤2*jj 2 (w.len g - 1)∧∃S',dF H' n S' (min (st+q) 4611686018427387904) (w.put x (0,0,0))∧ah S H H'∧∀z,S' z→S z∨H.size≤z)):=by
 refine aU xW ?_
 refine vs ?_
 refine(yE h g).mono ?_
 rintro _ _ ⟨⟨h0,rfl⟩| ⟨x,hx,rfl⟩,rfl⟩
 ·refine vs ?_
  exact .inl ⟨h0,rfl,rfl⟩
 ·refine vs ?_
  refine(rH h x).mono ?_
  rintro _ H1 (⟨bU,_,_⟩| ⟨_,rfl,c0,q,DZ,hq,S',d1,e1,Vk⟩)
  ·exact absurd hx.Nn bU
  refine vs ?_
  obtain⟨e,FE⟩:=hx.2.2.1
  rw[DZ]at FE
  injection FE with FE
  subst FE
  exact .inr ⟨x,hx,rfl,q,hq,S',d1,e1,Vk⟩
theorem Af{H:Hp}{n:Nat}{S:Nat→Prop}{st:Int}{w:Nw}(h:dF H n S st w)(x k s:Int):ag Tryz.prog lM [ptr n,i64 x,tE k s] H fun v H'=>ap (
  (¬ (cI w.cs x∧∀y,w.cs[x.toNat]? =some y→¬fQ y.2.1 y.2.2 k s)∧v= .bool false∧dF H' n S st w∧ai H H')∨
  (cI w.cs x∧∃y,w.cs[x.toNat]? =some y∧¬fQ y.2.1 y.2.2 k s∧v= .bool true∧∃q:Nat,q≤2*jj 2 (w.len y.1 - 1)∧∃S',dF H' n S' (min (st+q) 4611686018427387904) (w.put x (y.1,k,s))∧ah S H H'∧∀z,S' z→S z∨H.size≤z)):=by
 obtain⟨c,C,rv,fr,fa,ps,at_,m,l,hS⟩:=h
 refine aU vG ?_
 refine vs ?_
 have f0:ai H (H.new 190 [i64 k,u64 s]):=(ah.refl _ _).new _ _
 have b0:(H.new 190 [i64 k,u64 s]).own H.size=some [i64 k,u64 s]:=aA _ _ _
 have m0:=m.ext f0 (fun _ _ h=>h)
 generalize H.new 190 [i64 k,u64 s]=H0 at*
 obtain⟨av,KN,Wh⟩:=m0.own
 refine v2 (ae KN) (ae b0) ?_
 refine(jK m0.cells x k s).mono ?_
 rintro _ H1 (⟨bU,rfl,c1,e1⟩| ⟨ci,rfl,y,hy,jI,c1,e1⟩)
 ·refine vs ?_
  exact .inl ⟨bU,rfl,⟨c,C,rv,fr,fa,ps,at_,m0.ext e1 (fun _ _ h=>h),l,hS⟩,f0.trans e1⟩
 have m1:=m0.aC c1 e1
 obtain⟨av1,Q4,Uc⟩:=m1.own
 refine v1 (ae Q4) ?_
 obtain⟨im,y',nL,gI⟩:=id ci
 rw[hy]at nL
 injection nL with nL
 subst nL
 have jh:(w.put x (y.1,k,s)).cs[x.toNat]? =some (y.1,k,s):=aot (by grind)
 have B6:∀z:Nat,z≠x.toNat→(w.put x (y.1,k,s)).cs[z]? =w.cs[z]? :=fun z hz=>aor (Ne.symm hz)
 have OV:cI (w.put x (y.1,k,s)).cs x:=⟨im,_,jh,gI⟩
 refine(cY c1 x).mono ?_
 rintro _ H2 (⟨bU,_,_⟩| ⟨_,y2,HV,rfl,c2,e2⟩)
 ·exact absurd OV bU
 rw[jh]at HV
 injection HV with HV
 subst HV
 have m2:=m1.aC c2 e2
 obtain⟨av2,ho2,ha2⟩:=m2.own
 obtain⟨P,hP⟩:=(l.hs y.1.toNat).1 (m.cells.live _ (by grind) gI)
 have Nq:((y.1.toNat:Nat):Int)=y.1:=by omega
 have Tb:∀ (h:Nat) Q,ps[h]? =some (some Q)→∀z:Int,z∈Q.l↔0≤z∧∃e,(w.put x (y.1,k,s)).cs[z.toNat]? =some (((h:Nat):Int),e):=fun h Q hQ z=>by
  cases l;grind
 have dW:=Tb _ P hP
 have bu:=l.len _ P hP
 rw[Nq]at dW bu
 have hxP:x∈P.l:=by grind
 have Hd:∀z∈P.l,cI (w.put x (y.1,k,s)).cs z:=fun z hz=>by
  obtain⟨z0,e,he⟩:=(dW z).1 hz
  exact⟨z0,_,he,gI⟩
 obtain⟨i,hi⟩:=aoC hxP
 have xY:=(aoj.1 hi).1
 obtain⟨_,hai⟩:=l.RQ _ P hP i x hi
 have Q3:=(aoj.1 hai).1
 obtain⟨f,cc,lb,rfl,rfl,hf,Vg,eC⟩:=m2.ZI hP
 obtain⟨fa',ac,la,rfl,hfa,XN,XO,_,_⟩:=Sl.at_ ha2 (i:=x.toNat) (x:=i64 i) (by grind)
 have UF:∀j,j<P.l.length→j≠i→(P.l.getD j 0).toNat≠x.toNat:=fun j hj bN e=>by
  have hgj:P.l[j]? =some (P.l.getD j 0):=by rw[aon,aol hj];rfl
  have h0:=((dW _).1 (aou hgj)).1
  cases l;grind [j0.Dm]
 have hA:dQ (aP (w.put x (y.1,k,s))) 2 P.l i:=by
  have hb:=(l.ok _ P hP).but (aw w) fg i
  refine⟨fun j h1 h2 h3 h4=>?_,fun j h1 h2 h3 h4=>?_⟩
  ·have:=dc fg h1
   rw[iw w x _ (UF j h2 h3) (by grind)]
   exact hb.1 j h1 h2 h3 h4
  ·have:=dc fg h1
   have:=dc fg h4
   rw[iw w x _ (by grind) (by grind)]
   exact hb.2 j h1 h2 h3 h4
 refine v1 (ae ho2) ?_
 refine⟨by omega,?_⟩
 simp(disch:=(first|omega| (simp only[Zs]<;>omega)|fail)) only[go_sem, ↓reduceIte,Zv,ae hf,aok,Vg,RP,ae ho2]
 refine⟨by omega,?_⟩
 refine v3 (ae XN) aok XO ?_
 refine(IU (m2.DB hP) (l.RQ _ P hP) xY Hd hA).mono ?_
 rintro _ H3 ⟨rfl,l',at',q,o,pG,hq⟩
 refine vs ?_
 have oY:=e1.trans e2
 have hT:∀z,(C z∨P.fp=some z∨fa=some z)→C z∨P.S z∨fa=some z:=fun z hz=>by
  rcases hz with hz|hz|hz
  ·grind
  ·exact .inr (.inl (.inr hz))
  grind
 have Nu:∀z,(C z∨P.fp=some z∨fa=some z)→S z:=fun z hz=>(hS z).1 (by
  rcases hT z hz with hz|hz|hz
  ·exact .inl hz
  ·exact .inr (by grind)
  ·exact .inr (by grind))
 have bN:∀ (h:Nat) Q,h≠y.1.toNat→ps[h]? =some (some Q)→∀z∈Q.l,z.toNat≠x.toNat:=by grind
 have hwl:∀h:Int,(w.put x (y.1,k,s)).len h=w.len h:=fun h=>by
  grind [Nw.gK]
 have hol:=o.len
 refine .inr ⟨ci,y,hy,jI,rfl,q,by grind,B5 n C (some f) fa (ps.set y.1.toNat (some ⟨P.r,P.fp,l'⟩)),
  ⟨c,C,_,some f,fa,_,at',m2.FG hP (P':=⟨P.r,P.fp,l'⟩) rfl o.j9 (.inl rfl) o.ext hT,
   ⟨by rw[aom];exact l.hl,fun h=>?_,?_,fun h Q hQ=>?_,fun h Q hQ=>?_,fun h Q hQ z=>?_,fun h Q hQ=>?_,?_⟩,fun z=>Iff.rfl⟩,?_,fun z hz=>?_⟩
 ·show w.hs[h]? =some true↔_
  rw[l.hs h]
  grind
 ·rw[aor (by omega)];exact l.h0
 ·rcases iL eC hQ with ⟨rfl,rfl⟩| ⟨h5,h6⟩
  ·omega
  ·exact(l.ok h Q h6).Dz fun z hz v hv=>(iw w x _ (by grind) (by grind)).symm
 ·rcases iL eC hQ with ⟨rfl,rfl⟩| ⟨h5,h6⟩
  ·exact o.ok
  ·exact(l.RQ h Q h6).Vj fun z hz z0=>o.off z z0 (by grind)
 ·rcases iL eC hQ with ⟨rfl,rfl⟩| ⟨h5,h6⟩
  ·cases o;grind
  grind
 ·rw[hwl]
  rcases iL eC hQ with ⟨rfl,rfl⟩| ⟨h5,h6⟩
  ·grind
  ·exact l.len h Q h6
 ·rw[o.KR,l.KR];exact(aom ..).symm
 ·exact(f0.mono fun _ _ h=>h.elim).trans ((oY.mono (by grind)).trans (o.ext.mono (by grind)))
 ·rcases hz with hz|rfl|hz|hz| ⟨j,Q,hQ,hz⟩
  ·grind
  ·exact .inl ((hS z).1 (.inr (.inl rfl)))
  ·exact .inl ((hS z).1 (.inr (.inr (.inl hz))))
  ·grind
  ·rcases iL eC hQ with ⟨rfl,rfl⟩| ⟨h5,h6⟩
   ·rcases hz with rfl|hz
    ·exact .inl ((hS _).1 (.inr (.inr (.inr (.inr ⟨_,P,hP,.inl rfl⟩)))))
    grind
   ·exact .inl ((hS z).1 (.inr (by grind)))
theorem B8{ps:List (Option Pl)}{a b:Nat}{T:Pl}(ha:a<ps.length)(hb:b<ps.length)(eJ:a≠b){h:Nat}{Q:Pl}(hQ:((ps.set a (some T)).set b none)[h]? =some (some Q)):
  (h=a∧Q=T)∨(h≠a∧h≠b∧ps[h]? =some (some Q)):=by
 grind
theorem jc.two{H:Hp}{n c f cc:Nat}{C:Nat→Prop}{fa:Option Nat}{st:Int}{w:Nw}{ps:List (Option Pl)}{at_:List Int}(m:jc H n c C (.slice (some ⟨f,0,none⟩) ps.length cc) (some f) fa st w ps at_){a b:Nat}(eJ:a≠b){T:Pl}(hT:ps[a]? =some (some T)∨ps[b]? =some (some T))
  (ha:a<ps.length)(hb:b<ps.length){lb:List Value}(hf:H.own f=some lb):
  jc (H.wr f ((lb.set a (ptr T.r)).set b (.pointer none))) n c C (.slice (some ⟨f,0,none⟩) ps.length cc) (some f) fa st w ((ps.set a (some T)).set b none) at_∧
   ah (fun z=>z=f) H (H.wr f ((lb.set a (ptr T.r)).set b (.pointer none))):=by
 have e:ah (fun z=>z=f) H (H.wr f ((lb.set a (ptr T.r)).set b (.pointer none))):=(ah.refl (fun z=>z=f) _).wr (fun _=>rfl) _
 have jg:=m.S9 f rfl
 obtain⟨av,ho,Zk⟩:=m.own
 have Uk:∀ (h:Nat) Q,((ps.set a (some T)).set b none)[h]? =some (some Q)→∃h',ps[h']? =some (some Q)∧((h'=h∧h≠a∧h≠b)∨(h=a∧(h'=a∨h'=b))):=by grind
 refine⟨⟨⟨av,e.own ho (Ne.symm jg.2.1),Zk.ext e (by grind)⟩,m.cells.ext e (by grind),?_,fun h Q hQ=>?_,m.nC,m.S9,m.KQ,fun h Q hQ x hx=>?_,fun h Q hQ=>?_,fun h h' Q Q' hQ Vi bN x hx BP=>?_⟩,e⟩
 ·have h1:=(m.sl.sf hf a (ptr T.r)).sf (af hf) b (.pointer none)
  rw[MU]at h1
  rw[aom,aom,aoN,aoN]
  exact h1
 ·obtain⟨h',h1,_⟩:=Uk h Q hQ
  obtain⟨sv,q1,q2⟩:=m.j9 h' Q h1
  have bU:∀x,Q.S x→x≠f:=fun x hx hz=>(m.pd h' Q h1 x hx).2.2.1 (by grind)
  exact⟨sv,e.own q1 (bU _ (.inl rfl)),q2.ext e (fun x hx=>bU x (.inr hx))⟩
 ·obtain⟨h',h1,_⟩:=Uk h Q hQ
  exact m.pd h' Q h1 x hx
 ·obtain⟨h',h1,_⟩:=Uk h Q hQ
  exact m.pr h' Q h1
 ·obtain⟨g,h1,h2⟩:=Uk h Q hQ
  obtain⟨g',h3,h4⟩:=Uk h' Q' Vi
  exact m.pp g g' Q Q' h1 h3 (by omega) x hx BP
theorem yD.join{w:Nw}{ps:List (Option Pl)}{at_ at':List Int}(l:yD w ps at_){a b:Int}(ha:w.has a)(hb:w.has b)(eJ:a≠b){Ra Rb T:Pl}(E4:ps[a.toNat]? =some (some Ra))(E5:ps[b.toNat]? =some (some Rb))
  (pR:eA (aP (w.join a b)) 2 T.l)(XQ:j0 T.l at')(dW:∀z,z∈T.l↔z∈Ra.l∨z∈Rb.l)(bu:T.l.length=Ra.l.length+Rb.l.length)(Q5:at'.length=at_.length)
  (Q6:∀z:Int,0≤z→z∉Ra.l→z∉Rb.l→at'[z.toNat]? =at_[z.toNat]?):yD (w.join a b) ((ps.set a.toNat (some T)).set b.toNat none) at':=by
 have Uc:=ha.1
 have Mz:=hb.1
 have IR:=(aoj.1 E4).1
 have uF:=(aoj.1 E5).1
 have bN:a.toNat≠b.toNat:=by omega
 have Wt:((a.toNat:Nat):Int)=a:=by omega
 have Wu:((b.toNat:Nat):Int)=b:=by omega
 refine⟨by rw[aom,aom,l.hl];simp[Nw.join],fun h=>?_,?_,fun h Q hQ=>?_,fun h Q hQ=>?_,fun h Q hQ z=>?_,fun h Q hQ=>?_,by rw[Q5,l.KR];simp[Nw.join]⟩
 ·show(w.hs.set b.toNat false)[h]? =some true↔_
  by_cases h1:h=b.toNat
  ·grind
  ·rw[aor (Ne.symm h1),aor (Ne.symm h1)]
   by_cases h2:h=a.toNat
   ·subst h2
    rw[aot IR]
    exact⟨by grind,fun _=>ha.2⟩
   ·rw[aor (Ne.symm h2)]
    exact l.hs h
 ·cases l;grind
 ·rcases B8 IR uF bN hQ with ⟨rfl,rfl⟩| ⟨h1,h2,h3⟩
  ·exact pR
  ·exact(l.ok h Q h3).Dz fun z _ y _=>(vN w a b z y).symm
 ·rcases B8 IR uF bN hQ with ⟨rfl,rfl⟩| ⟨h1,h2,h3⟩
  ·omega
  ·exact(l.RQ h Q h3).Vj fun z hz z0=>Q6 z z0 (l.apart h3 E4 h1 hz) (l.apart h3 E5 h2 hz)
 ·rw[vM]
  rcases B8 IR uF bN hQ with ⟨rfl,rfl⟩| ⟨h1,h2,h3⟩
  ·rw[dW z,l.mem _ Ra E4 z,l.mem _ Rb E5 z,Wt,Wu]
   cases w.cs[z.toNat]? with
   |none=>simp
   |some c=>
    obtain⟨c1,c2⟩:=c
    simp only[Option.map_some,aoq,Prod.mk.injEq]
    constructor
    ·rintro(⟨z0,e,rfl,rfl⟩| ⟨z0,e,rfl,rfl⟩)
     ·simp_all
     grind
    grind
  ·rw[l.mem h Q h3 z]
   grind
 ·rw[Nw.GU w eJ (by omega) (by omega)]
  rcases B8 IR uF bN hQ with ⟨rfl,rfl⟩| ⟨h1,h2,h3⟩
  ·rw[if_pos Wt]
   have e1:=l.len _ Ra E4
   have e2:=l.len _ Rb E5
   grind
  ·rw[if_neg (by omega),if_neg (by omega)]
   exact l.len h Q h3
theorem He{H:Hp}{n:Nat}{S:Nat→Prop}{st:Int}{w:Nw}(h:dF H n S st w)(a b:Int):ag Tryz.prog qK [ptr n,i64 a,i64 b] H fun v H'=>ap (
  (¬ (w.has a∧w.has b∧a≠b)∧v= .bool false∧H=H')∨
  ((w.has a∧w.has b∧a≠b)∧v= .bool true∧∃q:Nat,(q:Int)≤min (w.len a) (w.len b)*(jj 2 (w.len a+w.len b):Nat)∧∃S',dF H' n S' (min (st+q) 4611686018427387904) (w.join a b)∧ah S H H'∧∀z,S' z→S z∨H.size≤z)):=by
 obtain⟨c,C,rv,fr,fa,ps,at_,m,l,hS⟩:=h
 obtain⟨av,ho,Zk⟩:=m.own
 refine Fz Dc ⟨rfl,?_⟩
 refine v2 qZ.eq_1 (ae ho) ?_
 refine(kW m.cells a b).mono ?_
 rintro _ H1 (⟨bU,rfl,rfl⟩| ⟨⟨ha,hb,eJ⟩,rfl,c1,e1⟩)
 ·refine vs ?_
  exact .inl ⟨bU,rfl,rfl⟩
 obtain⟨Ra,E4⟩:=l.ed ha
 obtain⟨Rb,E5⟩:=l.ed hb
 have Uc:=ha.1
 have Mz:=hb.1
 have IR:=(aoj.1 E4).1
 have uF:=(aoj.1 E5).1
 have m1:=m.aC c1 e1
 obtain⟨av1,o1,akP⟩:=m1.own
 obtain⟨f,cc,lb,rfl,rfl,of,ga,la⟩:=m1.ZI E4
 obtain⟨f',Uh,Wp,hv,JC,Vl,gb,lb2⟩:=m1.ZI E5
 injection JC with JC
 subst JC
 rw[of]at Vl
 injection Vl with Vl
 subst Vl
 refine v1 (ae o1) ?_
 refine⟨by omega,?_⟩
 simp(disch:=(first|omega| (simp only[Zs]<;>omega)|fail)) only[go_sem, ↓reduceIte,Zv,ae of,ae o1,aok,ga,RP]
 refine⟨by omega,?_⟩
 simp(disch:=(first|omega| (simp only[Zs]<;>omega)|fail)) only[go_sem, ↓reduceIte,Zv,ae of,aok,gb,RP]
 refine iD (fun e H'=>e.find 0=some (ptr n)∧e.find 1=some (i64 a)∧e.find 2=some (i64 b)∧H'=H1∧∃T F:Pl,e.find 7=some (ptr T.r)∧e.find 8=some (ptr F.r)∧
  ((T=Ra∧F=Rb∧Rb.l.length≤Ra.l.length)∨(T=Rb∧F=Ra∧Ra.l.length<Rb.l.length))) ?_ ?_
 ·refine vs ?_
  refine(ij (m1.DB E4)).mono ?_
  rintro _ _ ⟨rfl,rfl⟩
  refine vs ?_
  refine(ij (m1.DB E5)).mono ?_
  rintro _ _ ⟨rfl,rfl⟩
  refine vs ?_
  refine ar.dec (fun bf=>?_) (fun bf=>?_)<;>refine vs ?_
  ·exact⟨trivial,trivial,trivial,trivial,Rb,Ra,rfl,rfl,.inr ⟨rfl,rfl,by omega⟩⟩
  ·exact⟨trivial,trivial,trivial,trivial,Ra,Rb,rfl,rfl,.inl ⟨rfl,rfl,by omega⟩⟩
 rintro e H1' ⟨e0,ea,eb,hH1,T,F,eT,eF,Tc⟩
 obtain rfl:=hH1.symm
 have Wt:((a.toNat:Nat):Int)=a:=by omega
 have Wu:((b.toNat:Nat):Int)=b:=by omega
 have bN:a.toNat≠b.toNat:=by omega
 have hT:ps[a.toNat]? =some (some T)∨ps[b.toNat]? =some (some T):=by
  rcases Tc with ⟨rfl,rfl,_⟩| ⟨rfl,rfl,_⟩
  ·exact .inl E4
  ·exact .inr E5
 obtain⟨iT,iF,Q7,hF,XR,gI⟩:∃iT iF:Nat,ps[iT]? =some (some T)∧ps[iF]? =some (some F)∧iT≠iF∧0<iF:=by
  rcases Tc with ⟨rfl,rfl,_⟩| ⟨rfl,rfl,_⟩
  ·exact⟨_,_,E4,E5,bN,by omega⟩
  ·exact⟨_,_,E5,E4,Ne.symm bN,by omega⟩
 have DD:∀z,(z∈T.l∨z∈F.l)↔(z∈Ra.l∨z∈Rb.l):=fun z=>by
  rcases Tc with ⟨rfl,rfl,_⟩| ⟨rfl,rfl,_⟩
  ·exact Iff.rfl
  ·exact Or.comm
 have eLa:=l.len _ Ra E4
 have eLb:=l.len _ Rb E5
 rw[Wt]at eLa
 rw[Wu]at eLb
 have bu:T.l.length+F.l.length=Ra.l.length+Rb.l.length∧((F.l.length:Nat):Int)=min (w.len a) (w.len b):=by
  rcases Tc with ⟨rfl,rfl,_⟩| ⟨rfl,rfl,_⟩<;>omega
 clear Tc
 have Td:∀z∈F.l,z∉T.l:=fun z hz=>l.apart hF Q7 (Ne.symm XR) hz
 have OX:∀ (i:Nat) Q,ps[i]? =some (some Q)→∀z∈Q.l,cI (w.join a b).cs z:=fun i Q hQ z hz=>by
  obtain⟨z0,e,he⟩:=(l.mem i Q hQ z).1 hz
  have:=l.pos hQ
  exact(GV w (by omega) (by omega) z).2 ⟨z0,_,he,by simp only;omega⟩
 have sT:=m.cells.CI
 have rl:Ra.l.length+Rb.l.length≤65536:=by
  have h1:=((w.join a b).kT a).2
  rw[Nw.GU w eJ (by omega) (by omega),if_pos rfl]at h1
  have h2:(w.join a b).cs.length=w.cs.length:=by simp[Nw.join]
  omega
 have Vm:=m.cells.st
 obtain⟨m2,e2⟩:=m1.two bN hT IR uF of
 obtain⟨sF,oF1,sF1⟩:=m1.j9 iF F hF
 have abD:∀x,F.S x→x≠f:=fun x hx hz=>(m.pd iF F hF x hx).2.2.1 (aoo some hz.symm)
 have oF2:=e2.own oF1 (abD _ (.inl rfl))
 have sF2:=sF1.ext e2 (fun x hx=>abD x (.inr hx))
 have of1:(H1.wr f (lb.set a.toNat (ptr T.r))).own f=some (lb.set a.toNat (ptr T.r)):=af of
 have afY:lb.length=(lb.set a.toNat (ptr T.r)).length:=(aom ..).symm
 have Oy:=(aoj.1 gb).1
 have Q3:=(aoj.1 ga).1
 refine v6 e0 ea eb eT eF (ae o1) ?_
 refine⟨by omega,?_⟩
 refine v7 e0 ea eb eT eF of aok ?_
 refine⟨by omega,?_⟩
 refine v1 aoi ?_
 refine⟨by omega,?_⟩
 refine v2 of1 aok ?_
 refine⟨by rw[aom];omega,?_⟩
 refine v1 aoi ?_
 generalize H1.wr f ((lb.set a.toNat (ptr T.r)).set b.toNat (.pointer none))=H2 at*
 obtain⟨a3,c3,rfl⟩:=fh.Oz sF2.rd
 refine v6 e0 ea eb eT eF (ae oF2) ?_
 have bL:=m1.slt
 have z1:=e1.size
 have z2:=e2.size
 have hU:∀j:Nat,j≤F.l.length→jj 2 ((T.l.length+j:Nat):Int)≤jj 2 (w.len a+w.len b):=fun j hj=>lX fg (w.len a+w.len b).toNat _ _ (aox _) (by omega)
 generalize jj 2 (w.len a+w.len b)=U at*
 have hFd:∀x,F.fp=some x→¬ (C x∨T.S x∨fa=some x):=fun x hx hc=>by
  have h1:=m.pd iF F hF x (.inr hx)
  rcases hc with hc|hc|hc
  ·exact h1.1 hc
  ·exact m.pp iT iF T F Q7 hF XR x hc (.inr hx)
  ·exact h1.2.2.2 hc
 have PS:∀ (T':Pl),((ps.set a.toNat (some T')).set b.toNat none)[a.toNat]? =some (some T'):=fun T'=>by
  rw[aor (Ne.symm bN),aot IR]
 refine bX.intro (fun k env H'=>∃ (j:Nat) (T':Pl) (q:Nat) (at':List Int),env=[(7,ptr T.r),(56,.slice a3 F.l.length c3),(57,i64 F.l.length),(58,i64 j)]∧k=F.l.length - j∧j≤F.l.length∧T'.r=T.r∧
   jc H' n c C (.slice (some ⟨f,0,none⟩) ps.length cc) (some f) fa (min (st+q) 4611686018427387904) (w.join a b) ((ps.set a.toNat (some T')).set b.toNat none) at'∧eA (aP (w.join a b)) 2 T'.l∧j0 T'.l at'∧at'.length=at_.length∧
   (∀z:Int,0≤z→z∉Ra.l→z∉Rb.l→at'[z.toNat]? =at_[z.toNat]?)∧
   (∀z,z∈T'.l↔z∈T.l∨z∈F.l.take j)∧T'.l.length=T.l.length+j∧q≤j*U∧(∀z,T'.S z→T.S z∨H2.size≤z)∧ah (fun z=>C z∨T.S z∨fa=some z) H2 H') F.l.length
  ⟨0,T,0,at_,rfl,by omega,by omega,rfl,by rw[show min (st+((0:Nat):Int)) 4611686018427387904=st by omega];exact m2,(l.ok iT T Q7).Dz fun z _ y _=>(vN w a b z y).symm,l.RQ iT T Q7,rfl,fun _ _ _ _=>rfl,
   fun z=>by simp,rfl,by omega,fun z hz=>.inl hz,ah.refl _ _⟩ ?_
 rintro k env H4 ⟨j,T',q,at',rfl,rfl,hj,hr,m4,pR,XQ,Q5,Q6,dW,Te,hq,Wv,e4⟩
 refine vs ?_
 have XS:=PS T'
 refine ar.dec (fun bf=>?_) (fun bf=>?_)<;>refine vs ?_
 ·obtain⟨x,hx⟩:∃x,F.l[j]? =some x:=⟨_,aol (by omega)⟩
  have ZJ:=aou hx
  have sF4:=sF2.ext e4 (fun x hx=>hFd x hx)
  obtain⟨bb,bo,bc,bl,q1,q2,q3,q4⟩:=fh.get sF4.rd (i:=j) (j:=0) (x:=i64 x) (by omega) (by simp[hx])
  injection q1 with q1 _ q1'
  subst q1 q1'
  refine⟨by omega,?_⟩
  refine v3 q2 Int.toNat_natCast (show bl[bo+j*1]? =some (i64 x)from q4) ?_
  rw[←hr]
  have hxT:x∉T'.l:=fun hm=>by
   rcases(dW x).1 hm with h|h
   ·exact Td x ZJ h
   ·obtain⟨i,hi⟩:=aoC h
    rw[aoZ]at hi
    split at hi
    ·have:=(l.RQ iF F hF).Dm hi hx
     omega
    ·cases hi
  have XT:∀z∈T'.l,cI (w.join a b).cs z:=fun z hz=>by
   rcases(dW z).1 hz with h|h
   ·exact OX iT T Q7 z h
   ·exact OX iF F hF z (List.mem_of_mem_take h)
  have XK:=OX iF F hF x ZJ
  obtain⟨im,xe,hxe,_⟩:=id XK
  have rS:=(aoj.1 hxe).1
  have Zq:(w.join a b).cs.length=w.cs.length:=by simp[Nw.join]
  refine(vY (m4.DB XS) XQ (by omega) ⟨im,by rw[Q5,l.KR];omega⟩ hxT XK XT pR).mono ?_
  rintro _ H5 ⟨rfl,di,l',Ws,q5,pm,af1,XU,abF,aij,aik,abG,hq5,akX,e5,abH⟩
  refine vs ?_
  have hT5:∀z,(C z∨T'.fp=some z∨fa=some z∨z=T'.r)→C z∨T'.S z∨fa=some z:=fun z hz=>by
   rcases hz with hz|hz|hz|hz
   ·exact .inl hz
   ·exact .inr (.inl (.inr hz))
   ·exact .inr (.inr hz)
   ·exact .inr (.inl (.inl hz))
  have m5:=m4.FG XS (P':=⟨T'.r,di,l'⟩) rfl pm abH e5 hT5
  rw[List.set_comm _ _ (Ne.symm bN),List.set_set,show min (min (st+(q:Int)) 4611686018427387904+((q5:Nat):Int)) 4611686018427387904=min (st+((q+q5:Nat):Int)) 4611686018427387904 by omega]at m5
  have z4:=e4.size
  have PN:=(DD x).1 (.inr ZJ)
  have hU5:=hU j hj
  rw[←Te]at hU5
  rw[wrap64 (n:=(j:Int)+1) (by omega) (by omega),hr]
  refine⟨F.l.length - (j+1),by omega,j+1,⟨T'.r,di,l'⟩,q+q5,Ws,rfl,rfl,by omega,hr,m5,XU,af1,by omega,fun z z0 h1 h2=>?_,fun z=>?_,by show l'.length=_;omega,?_,fun z hz=>?_,e4.oz e5 (fun z WT hz=>?_)⟩
  ·rw[abG z z0 (fun e=>by rw[e]at h1 h2;exact PN.elim h1 h2) (fun hm=>?_),Q6 z z0 h1 h2]
   rcases(dW z).1 hm with h3|h3
   ·exact((DD z).1 (.inl h3)).elim h1 h2
   ·exact((DD z).1 (.inr (List.mem_of_mem_take h3))).elim h1 h2
  ·show z∈l'↔_
   rw[abF z,dW z,aoL,hx]
   simp only[Option.toList_some,aoD,aoB]
   constructor
   ·rintro(h|h|h)
    ·exact .inr (.inr h)
    ·exact .inl h
    ·exact .inr (.inl h)
   ·rintro(h|h|h)
    ·exact .inr (.inl h)
    ·exact .inr (.inr h)
    ·exact .inl h
  ·rw[api,apL];omega
  ·rcases hz with hz|hz
   ·exact Wv z (.inl hz)
   ·rcases abH with h| ⟨y,h,h7⟩
    ·exact Wv z (.inr (h▸hz))
    ·simp only at hz
     rw[h]at hz;injection hz with hz;exact .inr (by omega)
  ·rcases hT5 z hz with hz|hz|hz
   ·exact .inl hz
   ·rcases Wv z hz with h|h
    ·exact .inr (.inl h)
    ·exact absurd WT (by omega)
   ·exact .inr (.inr hz)
 ·have hjL:j=F.l.length:=by omega
  subst hjL
  have Nu:∀z,(C z∨T.S z∨fa=some z)→S z:=fun z hz=>(hS z).1 (by
   rcases hz with hz|hz|hz
   ·exact .inl hz
   ·exact .inr (.inr (.inr (.inr ⟨_,T,Q7,hz⟩)))
   ·exact .inr (.inr (.inr (.inl hz))))
  refine .inr ⟨⟨ha,hb,eJ⟩,rfl,q,?_,B5 n C (some f) fa ((ps.set a.toNat (some T')).set b.toNat none),⟨c,C,_,some f,fa,_,at',m4,l.join ha hb eJ E4 E5 pR XQ (fun z=>?_) (by omega) Q5 Q6,fun z=>Iff.rfl⟩,?_,fun z hz=>?_⟩
  ·rw[←bu.2,←Int.natCast_mul]
   exact Int.ofNat_le.2 hq
  ·rw[dW z,aoP,DD z]
  ·exact(e1.mono fun z _ hz=>Nu z (.inl hz)).trans ((e2.mono fun z _ hz=>(hS z).1 (.inr (.inr (.inl (by rw[hz]))))).trans (e4.mono fun z _ hz=>Nu z hz))
  ·rcases hz with hz|rfl|hz|hz| ⟨i,Q,hQ,hz⟩
   ·exact .inl ((hS z).1 (.inl hz))
   ·exact .inl ((hS z).1 (.inr (.inl rfl)))
   ·exact .inl ((hS z).1 (.inr (.inr (.inl hz))))
   ·exact .inl (Nu z (.inr (.inr hz)))
   ·rcases B8 IR uF bN hQ with ⟨rfl,rfl⟩| ⟨h5,h6,h7⟩
    ·rcases Wv z hz with h|h
     ·exact .inl (Nu z (.inr (.inl h)))
     ·exact .inr (by omega)
    ·exact .inl ((hS z).1 (.inr (.inr (.inr (.inr ⟨i,Q,h7,hz⟩)))))
theorem DE{ov:Value}{I:Hp→Nat→Prop}{T:Nat→Prop}{lt:Int→Int→Bool}{D:Int→Prop}(ho:OB ov I T lt D){H:Hp}{r:Nat}{S:Nat→Prop}{d:Int}{l:List Int}{pl:Int→Option Int}
  (h:dq H r S d l pl)(hd:∀x,S x→¬T x){n:Nat}(hI:I H n)(hf:cW d)(x:Int)(hl:l.length≤1000000)(hp:vL l pl)(hD:∀z∈l,D z:=by intros;trivial):
  ag Tryz.prog A5 [ptr r,ov,i64 x] H fun v H'=>ap (
   (pl x=none∧v= .bool false∧H=H')∨
   (∃i,pl x=some i∧v= .bool true∧dq H' r S d (cU lt d x l pl i).1 (cU lt d x l pl i).2.1∧I H' (n+(cU lt d x l pl i).2.2)∧ah (fun z=>S z∨T z) H H')):=by
 obtain⟨⟨sv,fp,mb,a1,a2,a3,s1,s2,s3,s4⟩,h2⟩:=id h
 have key:iq true (Value.int .i64 0) ((pl x).map i64)= .tuple [i64 ((pl x).getD 0),.bool (pl x).isSome].toArray:=by cases pl x<;>rfl
 refine aU By ?_
 refine v3 (ae a1) a3.look key ?_
 cases hx:pl x with
 |none=>
  simp(disch:=(first|omega| (simp only[Zs]<;>omega)|fail)) only[go_sem, ↓reduceIte,Zv,Option.isSome_none]
  exact .inl ⟨rfl,rfl,rfl⟩
 |some i=>
  obtain⟨i0,hxi⟩:=(hp x i).1 hx
  have xY:i.toNat<l.length:=by grind
  obtain⟨f,rfl⟩:∃f,fp=some f:=by
   cases fp with
   |none=>obtain⟨_,e,_⟩:=a2;omega
   |some f=>grind
  have Xd:=a2
  obtain⟨_,l1,c,rfl,g2,a5,a6,a7⟩:=Xd
  have g3:∀ (i:Nat) (x:Int),l[i]? =some x→l1[i]? =some (i64 x):=fun i x h=>by
   have bf:=(aoj.1 h).1
   have h1:(l.map i64)[i]? =some (i64 x):=by simp[h]
   grind
  have BN:l[l.length - 1]? =some (l.getD (l.length - 1) 0):=by
   rw[aon,aol (by omega)];rfl
  have XV:=g3 _ _ BN
  have e1:IntKind.i64.wrap ((l.length:Int) - 1)=((l.length - 1:Nat):Int):=by rw[wrap64 (by omega) (by omega)];omega
  simp(disch:=(first|omega| (simp only[Zs]<;>omega)|fail)) only[go_sem, ↓reduceIte,Zv,Option.isSome_some,Option.getD_some,ae a1,e1,Int.toNat_natCast]
  refine⟨by omega,?_⟩
  refine v5 (ae g2) (ae a1) aok XV e1 ?_
  refine⟨by omega,?_⟩
  obtain⟨Mz,yt,Ud⟩:=s4 f rfl
  have Q0:Value.slice (if(c:Int)=((0:Nat):Int)then some (⟨f,0,none⟩:Addr)else Option.map (fun(x:Addr)=>x.add (((0:Nat):Int).toNat*1)) (some (⟨f,0,none⟩:Addr))) (((l.length - 1:Nat):Int).toNat - ((0:Nat):Int).toNat) ((c:Int).toNat - ((0:Nat):Int).toNat)= .slice (some ⟨f,0,none⟩) (l.length - 1) c:=by
   split<;>rfl
  refine v2 (ae a1) a1 ?_
  rw[Q0]
  have ew:ah (fun z=>z=r) H (H.wr r [i64 d,.slice (some ⟨f,0,none⟩) (l.length - 1) c,.map (some mb)]):=(ah.refl (fun z=>z=r) _).wr (fun _=>rfl) _
  have b1:(H.wr r [i64 d,.slice (some ⟨f,0,none⟩) (l.length - 1) c,.map (some mb)]).own r=some [i64 d,.slice (some ⟨f,0,none⟩) (l.length - 1) c,.map (some mb)]:=af a1
  have b3:=a3.ext ew (Ne.symm s3)
  refine v1 (ae b1) ?_
  refine b3.del fun H2 m2 e2=>?_
  rw[GP]at m2
  have e02:ah S H H2:=(ew.mono (by grind)).trans (e2.mono (by grind))
  have hr:dq H2 r S d l.dropLast (oF pl x):=by
   refine⟨⟨.slice (some ⟨f,0,none⟩) (l.length - 1) c,some f,mb,e2.own b1 s3,⟨by simp,l1,c,by grind,(e2.own ((ew.own g2 yt)) Ud),by grind,a6,?_⟩,m2,s1,s2,s3,s4⟩,
    fun z hz=>aoz (h2 z hz) e02.size⟩
   have hx7:((l.map i64).length)=l.length:=by simp
   rw[ao0,List.map_dropLast,aph,hx7,←a7,apB]
   congr 1
   omega
  have SD:=ho.aO _ _ _ _ hI e02 (by grind)
  refine vs ?_
  have rl:l.dropLast.length=l.length - 1:=by grind
  refine ar.dec (fun he=>?_) (fun he=>?_)<;>refine vs ?_
  ·refine .inr ⟨i,rfl,rfl,?_,?_,e02.mono (by grind)⟩
   ·unfold cU;grind
   ·unfold cU;grind
  ·have hlm:l.getD (l.length - 1) 0∈l:=by grind
   have xZ:i.toNat≠l.length - 1:=by grind
   refine(sU ho hr hd SD i (l.getD (l.length - 1) 0) ⟨i0,by omega⟩ (by omega) (hD _ hlm) (fun z hz=>hD z ((List.dropLast_sublist _).subset hz))).mono ?_
   rintro _ H3 ⟨rfl,r3,i3,e3⟩
   have OW:=(e02.mono (by grind)).trans e3
   refine vs ?_
   refine ar.dec (fun yQ=>?_) (fun yQ=>?_)<;>refine vs ?_
   ·have hul:=wN lt d (l.getD (l.length - 1) 0) i.toNat l.dropLast (oF pl x) i
    refine(GQ ho r3 hd i3 hf i (l.getD (l.length - 1) 0) ⟨i0,by omega⟩ (by omega) (hD _ hlm) (fun z hz=>by
     rcases U7 lt d _ _ _ _ _ i0 (by omega) z hz with h|h
     ·grind
     ·exact hD z ((List.dropLast_sublist _).subset h))).mono ?_
    rintro _ H4 ⟨r4,i4,e4⟩
    refine vs ?_
    refine .inr ⟨i,rfl,rfl,?_,?_,OW.trans e4⟩
    ·unfold cU;grind
    ·unfold cU;grind
   ·refine .inr ⟨i,rfl,rfl,?_,?_,OW⟩
    ·unfold cU;grind
    ·unfold cU;grind
structure bP(lt:Int→Int→Bool)(d:Int)(l:List Int)(pl:Int→Option Int):Prop where
 heap:eA lt d l
 pl:vL l pl
theorem bP.nil(lt:Int→Int→Bool)(d:Int):bP lt d [] (fun _=>none):=
 ⟨fun j _ h=>by simp at h,fun z k=>by simp⟩
theorem bP.congr{lt lt':Int→Int→Bool}{d:Int}(hf:cW d){l:List Int}{pl:Int→Option Int}(h:bP lt d l pl)(hfg:∀z∈l,∀y∈l,lt z y=lt' z y):bP lt' d l pl:=by
 refine⟨fun j h1 h2=>?_,h.pl⟩
 have hp:=dc hf h1
 have e:∀k,k<l.length→l.getD k 0∈l:=by grind
 rw[←hfg _ (e j h2) _ (by grind)]
 exact h.heap j h1 h2
theorem bP.add{lt:Int→Int→Bool}(ho:bF lt){d:Int}(hf:cW d){l:List Int}{pl:Int→Option Int}(h:bP lt d l pl){x:Int}(hx:pl x=none):
  bP lt d (fM lt d x l.length (l++[x]) pl l.length).l (fM lt d x l.length (l++[x]) pl l.length).pl∧
   (∀z,z∈(fM lt d x l.length (l++[x]) pl l.length).l↔z=x∨z∈l)∧(fM lt d x l.length (l++[x]) pl l.length).l.length=l.length+1∧
   (fM lt d x l.length (l++[x]) pl l.length).asked≤jj d l.length:=by
 have Xt:=hf.1
 have dL:∀k,k<l.length→(l++[x]).getD k 0=l.getD k 0:=by grind
 have Zx:∀j:Nat,1≤j→j<l.length+1→pa d j≠l.length:=fun j h1 h2=>by have:=dc hf h1;omega
 have hP:RL (l++[x]) pl l.length x:=by
  intro z hz k
  rw[h.pl z k]
  constructor
  ·grind
  ·grind
 have rS:x∉l:=fun hm=>by
  obtain⟨k,hk⟩:=aoC hm
  have:=(h.pl x k).2 (by grind)
  grind
 have U9:∀z,JI (l++[x]) l.length z↔z∈l:=by
  intro z
  constructor
  ·rintro⟨k,k1,k2⟩
   grind
  ·intro hm
   obtain⟨k,hk⟩:=aoC hm
   have:=(aoj.1 hk).1
   exact⟨k,by omega,by grind⟩
 obtain⟨p1,p2⟩:=Dn (lt:=lt) (d:=d) x l.length (l++[x]) pl l.length (by simp) (by omega) (by grind) hP (by grind)
 refine⟨⟨KJ ho hf x _ _ _ _ (by simp) (by omega) (by grind) ⟨fun j h1 h2 h3 h4=>?_,fun j h1 h2 h3 h4=>?_⟩ (fun j h1 h2 h3=>?_),p1⟩,fun z=>by rw[p2 z,U9 z],by rw[wN];simp,?_⟩
 ·simp only[Int.toNat_natCast]at h3 h4
  have:j<l.length:=by simp at h2;omega
  have hp:=dc hf h1
  rw[dL j this,dL _ (by omega)]
  exact h.heap j h1 this
 ·simp only[Int.toNat_natCast]at h3
  exact absurd h3 (Zx j h1 (by simpa using h2))
 ·simp only[Int.toNat_natCast]at h3
  exact absurd h3 (Zx j h1 (by simpa using h2))
 ·have:=GR lt d x l.length (l++[x]) pl l.length
  unfold jj
  grind
theorem bP.XW{lt:Int→Int→Bool}(ho:bF lt){d:Int}(hf:cW d){l:List Int}{pl:Int→Option Int}(h:bP lt d l pl){x i:Int}(hx:pl x=some i):
  bP lt d (cU lt d x l pl i).1 (cU lt d x l pl i).2.1∧(cU lt d x l pl i).1.length=l.length - 1∧
   (∀z,z∈(cU lt d x l pl i).1↔z∈l∧z≠x)∧((cU lt d x l pl i).2.2:Int)≤d*(jj d ((l.length:Int) - 1):Nat)+1:=by
 obtain⟨a,b,c,e,g⟩:=MI ho hf h.heap h.pl hx
 exact⟨⟨a,b⟩,c,e,g⟩
theorem bP.mem{lt:Int→Int→Bool}{d:Int}{l:List Int}{pl:Int→Option Int}(h:bP lt d l pl)(z:Int):z∈l↔pl z≠none:=by
 constructor
 ·intro hm
  obtain⟨k,hk⟩:=aoC hm
  rw[(h.pl z k).2 (by grind)]
  simp
 ·intro hn
  obtain⟨k,hk⟩:=Option.ne_none_iff_exists'.1 hn
  exact aou ((h.pl z k).1 hk).2
theorem bP.least{lt:Int→Int→Bool}(ho:bF lt){d:Int}(hf:cW d){l:List Int}{pl:Int→Option Int}(h:bP lt d l pl){x:Int}(hx:l[0]? =some x):∀z∈l,z≠x→lt x z=true:=by
 intro z hz bN
 obtain⟨k,hk⟩:=aoC hz
 have hkl:=(aoj.1 hk).1
 have:=GS ho hf h.heap k k (aox _) hkl
 cases ho;grind
theorem bP.raise{lt lt':Int→Int→Bool}(ho:bF lt)(ho':bF lt'){d:Int}(hf:cW d){l:List Int}{pl:Int→Option Int}(h:bP lt d l pl){x i:Int}(hx:pl x=some i)(bf:∀a∈l,∀b∈l,a≠x→b≠x→lt' a b=lt a b)(hdn:∀z∈l,z≠x→lt z x=false→lt' z x=false):
  bP lt' d (fM lt' d x i.toNat l pl i).l (fM lt' d x i.toNat l pl i).pl∧(∀z,z∈(fM lt' d x i.toNat l pl i).l↔z∈l)∧(fM lt' d x i.toNat l pl i).l.length=l.length∧
   (fM lt' d x i.toNat l pl i).asked≤jj d ((l.length:Int) - 1):=by
 obtain⟨i0,hi⟩:=(h.pl x i).1 hx
 have xY:i.toNat<l.length:=(aoj.1 hi).1
 have yo:∀j,j<l.length→j≠i.toNat→l.getD j 0≠x:=fun j hj bN e=>by
  have:l[j]? =some x:=by rw[aol hj,←e,aon,aol hj];rfl
  exact bN (h.pl.Dm this hi)
 have ci:∀j,j<l.length→l.getD j 0∈l:=fun j hj=>by rw[aon,aol hj];exact List.getElem_mem hj
 have OF:=h.heap.but ho hf i.toNat
 have hO:¬JI l i x:=by
  rintro⟨k,k1,k2⟩
  have:=h.pl.Dm k2 hi
  omega
 obtain⟨p1,p2⟩:=Dn (lt:=lt') (d:=d) x i.toNat l pl i (aox _) i0 (by omega) (h.pl.ae6 hi i0) hO
 refine⟨⟨KJ ho' hf x _ _ _ _ (aox _) i0 (by omega) ⟨fun j h1 h2 h3 h4=>?_,fun j h1 h2 h3 h4=>?_⟩ (fun j h1 h2 h3=>?_),p1⟩,fun z=>?_,wN _ _ _ _ _ _ _,?_⟩
 ·have:=dc hf h1
  rw[bf _ (ci j h2) _ (ci _ (by omega)) (yo j h2 h3) (yo _ (by omega) h4)]
  exact OF.1 j h1 h2 h3 h4
 ·have:=dc hf h1
  have:=dc hf h4
  rw[bf _ (ci j h2) _ (ci _ (by omega)) (yo j h2 (by omega)) (yo _ (by omega) (by omega))]
  exact OF.2 j h1 h2 h3 h4
 ·have Xu:=dc hf h1
  have bN:=yo j h2 (by omega)
  have:=h.heap j h1 h2
  rw[h3,show l.getD i.toNat 0=x by rw[aon,hi];rfl]at this
  exact hdn _ (ci j h2) bN this
 ·rw[p2 z]
  constructor
  ·rintro(rfl| ⟨k,_,k2⟩)
   ·exact aou hi
   ·exact aou k2
  ·intro hm
   obtain⟨k,hk⟩:=aoC hm
   by_cases e:(k:Int)=i
   ·rw[show k=i.toNat by omega,hi]at hk;injection hk with hk;exact .inl hk.symm
   ·exact .inr ⟨k,e,hk⟩
 ·have e1:=GR lt' d x i.toNat l pl i
  have e2:=lX hf ((l.length:Int) - 1).toNat i ((l.length:Int) - 1) (aox _) (by omega)
  unfold jj at e2 ⊢
  omega
structure Rw where
 r:Nat
 S:Nat→Prop
 l:List Int
 pl:Int→Option Int
def Q8:Option Rw→Value
 |none=>.pointer none
 |some R=>ptr R.r
structure gR(H:Hp)(n c:Nat)(C:Nat→Prop)(rv:Value)(fp:Option Nat)(d st:Int)(w:Nw)(rs:List (Option Rw)):Prop where
 own:H.own n=some [ptr c,i64 d,rv]
 cells:aZ H c C st w
 sl:Sl H 1 rv rs.length (rs.map Q8) fp
 row:∀ (h:Nat) R,rs[h]? =some (some R)→dq H R.r R.S d R.l R.pl
 nC:¬C n
 ye:∀b,fp=some b→b≠n∧¬C b
 nE:∀ (h:Nat) R,rs[h]? =some (some R)→∀x,R.S x→¬C x∧x≠n∧fp≠some x
 vZ:∀ (h h':Nat) R R',rs[h]? =some (some R)→rs[h']? =some (some R')→h≠h'→∀x,R.S x→¬R'.S x
def B9(n:Nat)(C:Nat→Prop)(fp:Option Nat)(rs:List (Option Rw))(z:Nat):Prop:=C z∨z=n∨fp=some z∨∃ (h:Nat) (R:Rw),rs[h]? =some (some R)∧R.S z
structure JO(d:Int)(w:Nw)(rs:List (Option Rw)):Prop where
 tf:cW d
 hl:rs.length=w.hs.length
 hs:∀h:Nat,w.hs[h]? =some true↔∃R,rs[h]? =some (some R)
 h0:rs[0]? =some none
 ok:∀ (h:Nat) R,rs[h]? =some (some R)→bP (aP w) d R.l R.pl
 mem:∀ (h:Nat) R,rs[h]? =some (some R)→∀x:Int,x∈R.l↔0≤x∧∃e,w.cs[x.toNat]? =some (((h:Nat):Int),e)
 len:∀ (h:Nat) R,rs[h]? =some (some R)→(R.l.length:Int)=w.len h
def cZ(H:Hp)(n:Nat)(S:Nat→Prop)(d st:Int)(w:Nw):Prop:=∃c C rv fp rs,gR H n c C rv fp d st w rs∧JO d w rs∧(∀z,B9 n C fp rs z↔S z)
theorem gR.slt{H:Hp}{n c:Nat}{C:Nat→Prop}{rv:Value}{fp:Option Nat}{d st:Int}{w:Nw}{rs:List (Option Rw)}(h:gR H n c C rv fp d st w rs):∀z,B9 n C fp rs z→z<H.size:=by
 rintro z (hz|rfl|hz| ⟨i,R,hR,hz⟩)
 ·exact h.cells.slt z hz
 ·exact aE h.own
 ·exact Sl.lt (hz▸h.sl)
 ·exact(h.row i R hR).slt z hz
theorem gR.ext{H H':Hp}{n c:Nat}{C T:Nat→Prop}{rv:Value}{fp:Option Nat}{d st:Int}{w:Nw}{rs:List (Option Rw)}(h:gR H n c C rv fp d st w rs)(e:ah T H H')(hd:∀z,B9 n C fp rs z→¬T z):gR H' n c C rv fp d st w rs:=
 ⟨e.own h.own (hd n (.inr (.inl rfl))),h.cells.ext e (fun x hx=>hd x (.inl hx)),h.sl.ext e (fun b hb=>hd b (.inr (.inr (.inl hb)))),fun i R hR=>(h.row i R hR).ext e (fun x hx=>hd x (.inr (by grind))),h.nC,h.ye,h.nE,h.vZ⟩
theorem cZ.slt{H:Hp}{n:Nat}{S:Nat→Prop}{d st:Int}{w:Nw}(h:cZ H n S d st w):∀z,S z→z<H.size:=by
 obtain⟨c,C,rv,fp,rs,m,l,hS⟩:=h
 exact fun z hz=>m.slt z ((hS z).2 hz)
theorem cZ.ext{H H':Hp}{n:Nat}{S T:Nat→Prop}{d st:Int}{w:Nw}(h:cZ H n S d st w)(e:ah T H H')(hd:∀z,S z→¬T z):cZ H' n S d st w:=by
 obtain⟨c,C,rv,fp,rs,m,l,hS⟩:=h
 exact⟨c,C,rv,fp,rs,m.ext e (by grind),l,hS⟩
theorem cZ.fresh{H H':Hp}{n:Nat}{S:Nat→Prop}{d st:Int}{w:Nw}(h:cZ H n S d st w)(e:ai H H'):cZ H' n S d st w:=h.ext e fun _ _ h=>h
theorem yF(cap d:Int)(H:Hp):ag Tryz.prog NZ [i64 cap,i64 d] H fun v H'=>ap (
  ai H H'∧((¬ (0≤cap∧cap≤65536)∧v= .tuple [.pointer none,i64 31].toArray)∨((0≤cap∧cap≤65536)∧¬cW d∧v= .tuple [.pointer none,i64 22].toArray)∨
   ((0≤cap∧cap≤65536)∧cW d∧∃n S,v= .tuple [ptr n,i64 0].toArray∧cZ H' n S d 0 ⟨[false],List.replicate cap.toNat (0,0,0)⟩∧∀x,S x→H.size≤x))):=by
 refine aU Od ?_
 refine vs ?_
 refine(mr cap H).mono ?_
 rintro _ H1 ⟨f1,⟨hb,rfl⟩| ⟨hb,c,C,rfl,c1,hC⟩⟩
 ·refine vs ?_
  exact⟨f1,.inl ⟨hb,rfl⟩⟩
 refine vs ?_
 refine(yy d H1).mono ?_
 rintro _ H2 ⟨f2,⟨hf,rfl⟩| ⟨hf,r,S,rfl,r2,hS⟩⟩
 ·refine vs ?_
  exact⟨f1.trans f2,.inr (.inl ⟨hb,hf,rfl⟩)⟩
 refine v1 aoE ?_
 have f3:ai H2 ((H2.new 205 [.pointer none]).new 210 [ptr c,i64 d,.slice (some ⟨H2.size,0,none⟩) 1 1]):=((ah.refl _ _).new _ _).new _ _
 have z1:=f1.size
 have z2:=f2.size
 have GF:=c1.slt
 refine⟨(f1.trans f2).trans f3,.inr (.inr ⟨hb,hf,H2.size+1,B9 (H2.size+1) C (some H2.size) [none],rfl,⟨c,C,.slice (some ⟨H2.size,0,none⟩) 1 1,some H2.size,[none],
  ⟨aR (by simp only[ak]),(c1.fresh f2).fresh f3,?_,fun h R hR=>?_,by grind,fun b hb=>?_,fun h R hR=>?_,fun h h' R R' hR=>?_⟩,
  ⟨hf,rfl,fun h=>?_,rfl,fun h R hR=>?_,fun h R hR=>?_,fun h R hR=>?_⟩,fun z=>Iff.rfl⟩,fun x hx=>?_⟩)⟩
 ·exact(Sl.dM (size:=1) (n:=1) (xs:=[.pointer none]) rfl rfl).ext ((ah.refl (fun _=>False) _).new _ _) (fun _ _ h=>h)
 ·rcases h with _|h<;>simp at hR
 ·injection hb with hb
  subst hb
  exact⟨by omega,fun h=>by have:=GF _ h;omega⟩
 ·rcases h with _|h<;>simp at hR
 ·rcases h with _|h<;>simp at hR
 ·rcases h with _|h<;>simp
 ·rcases h with _|h<;>simp at hR
 ·rcases h with _|h<;>simp at hR
 ·rcases h with _|h<;>simp at hR
 ·rcases hx with hx|rfl|hx| ⟨i,R,hR,hx⟩
  ·grind
  ·omega
  ·grind
  grind
theorem Ca{n c:Nat}{C:Nat→Prop}{rv:Value}{d st:Int}{w:Nw}(hn:¬C n):OB (.iface 144 (ptr n)) (fun H k=>aZ H c C (min (st+k) 4611686018427387904) w∧H.own n=some [ptr c,i64 d,rv])
  (fun x=>C x∨x=n) (aP w) (cI w.cs):=by
 refine⟨fun H k a b ha hb h=>⟨_,_,cP,ptr c,rfl,cD (off:=0) (by kernel_rfl) (ae h.2) rfl,(jL h.1 a b).mono ?_⟩,aa4 (x:=(0,cP)) (by kernel_rfl),fun H H' k U h e hd=>?_,fun H k h x hx=>?_⟩
 ·rintro v H' ⟨rfl,h1,e⟩
  rw[if_pos ⟨ha,hb⟩]at h1
  have hs:gu (min (st+(k:Nat)) 4611686018427387904) 1=min (st+((k+1:Nat):Int)) 4611686018427387904:=by
   unfold gu
   rw[if_neg (by omega)]
   omega
  rw[hs]at h1
  exact⟨by rw[Dp ha hb],⟨h1,e.own h.2 hn⟩,e.mono (by grind)⟩
 ·exact⟨h.1.ext e (by grind),e.own h.2 (hd n (.inr rfl))⟩
 ·rcases hx with hx|rfl
  ·exact h.1.slt x hx
  ·exact aE h.2
theorem Hf{H:Hp}{n:Nat}{S:Nat→Prop}{d st:Int}{w:Nw}(h:cZ H n S d st w):ag Tryz.prog qF [ptr n] H fun v H'=>ap (
  (w.hs.length=65537∧v=i64 0∧H=H')∨
  (w.hs.length≠65537∧v=i64 w.hs.length∧∃S',cZ H' n S' d st w.make∧ah S H H'∧∀x,S' x→S x∨H.size≤x)):=by
 obtain⟨c,C,rv,fp,rs,m,l,hS⟩:=h
 refine aU C2 ?_
 refine v1 (ae m.own) ?_
 refine(kU m.cells).mono ?_
 rintro _ H1 (⟨h1,rfl,rfl⟩| ⟨h1,rfl,C',c1,e1,Q2⟩)
 ·refine vs ?_
  exact .inl ⟨h1,rfl,rfl⟩
 have gI:0<rs.length:=(aoj.1 l.h0).1
 have rl:=l.hl
 have o1:=e1.own m.own m.nC
 refine vs ?_
 refine ar.dl (by grind) ?_
 refine v1 (ae o1) ?_
 refine(yy d H1).mono ?_
 rintro _ H2 ⟨f2,⟨hf,_⟩| ⟨_,r,Sr,rfl,r2,hSr⟩⟩
 ·exact absurd l.tf hf
 have o2:=f2.own o1 (fun h=>h)
 refine v1 (ae o2) ?_
 have EW:=m.cells.EW
 have bL:=m.slt
 have afP:=c1.slt
 have JK:=r2.slt
 have z1:=e1.size
 have z2:=f2.size
 have e0:ah (fun _=>False) H2 (H2.new 205 [ptr r]):=(ah.refl _ _).new _ _
 have sl2:=(m.sl.ext e1 (fun b hb h=>(m.ye b hb).2 h)).ext f2 (fun _ _ h=>h)
 refine Sl.append (sl2.ext e0 (fun _ _ h=>h)) (Sl.dM (size:=1) (xs:=[ptr r]) rfl rfl).rd rfl (by intro v hv;simp only[aoB]at hv;subst hv;rfl) (by omega) ?_
 intro v' H3 di s3 e3 jg
 have o3:=e3.own (e0.own o2 (fun h=>h)) (fun e=>(m.ye n e).1 rfl)
 obtain⟨a',Uh,Lr⟩:=fh.Oz s3.rd
 subst Lr
 refine v1 o3 ?_
 generalize Lr:Value.slice a' (rs.length+1) Uh=v' at*
 have e4:ah (fun z=>z=n) H3 (H3.wr n [ptr c,i64 d,v']):=(ah.refl (fun z=>z=n) _).wr (fun _=>rfl) _
 have hn:=aE m.own
 have ak0:∀b,fp=some b→b<H.size:=fun b hb=>bL b (.inr (.inr (.inl hb)))
 have hCl:∀z,C z→z<H.size:=fun z hz=>bL z (.inl hz)
 have OU:∀b,di=some b→fp=some b∨H2.size≤b:=fun b hb=>by
  grind [ak]
 have hC1:∀z,C' z→C z∨H.size≤z:=Q2
 have OW:ah (fun z=>fp=some z) H2 H3:=(e0.mono fun _ _ h=>h.elim).oz e3 (fun z _ h=>h)
 have dL:∀ (h:Nat) R,(rs++[some (⟨r,Sr,[],fun _=>none⟩:Rw)])[h]? =some (some R)→rs[h]? =some (some R)∨(h=rs.length∧R=⟨r,Sr,[],fun _=>none⟩):=by grind
 have hold:∀ (h:Nat) R,rs[h]? =some (some R)→∀x,R.S x→¬C x∧x≠n∧fp≠some x∧x<H.size:=fun h R hR x hx=>
  ⟨(m.nE h R hR x hx).1,(m.nE h R hR x hx).2.1,(m.nE h R hR x hx).2.2,bL x (.inr (by grind))⟩
 have T9:∀ (x:Nat) (e:Int×Int),w.cs[x]? ≠some (((rs.length:Nat):Int),e):=fun x e hx=>by
  have:=(m.cells.home _ (aou hx)).2
  omega
 refine .inr ⟨h1,rfl,B9 n C' di (rs++[some ⟨r,Sr,[],fun _=>none⟩]),⟨c,C',v',di,rs++[some ⟨r,Sr,[],fun _=>none⟩],
  ⟨af o3,?_,?_,fun h R hR=>?_,fun h=>?_,fun b hb=>⟨?_,fun h=>?_⟩,fun h R hR x hx=>⟨fun h=>?_,?_,fun h=>?_⟩,fun h h' R R' hR hR' bN x hx BP=>?_⟩,
  ⟨l.tf,?_,fun h=>?_,?_,fun h R hR=>?_,fun h R hR x=>?_,fun h R hR=>?_⟩,fun z=>Iff.rfl⟩,?_,fun x hx=>?_⟩
 ·exact(((c1.ext f2 (fun _ _ h=>h)).ext OW (fun x hx e=>by
   cases m;grind)).ext e4 (fun x hx e=>by
   cases m;grind))
 ·have:=s3.ext e4 (fun b hb e=>by
   cases m;grind)
  rw[aos,ape]
  exact this
 ·rcases dL h R hR with h5| ⟨rfl,rfl⟩
  ·exact((((m.row h R h5).ext e1 (by grind)).ext f2 (fun _ _ h=>h)).ext OW (by grind)).ext e4 (by grind)
  ·exact(r2.ext OW (by grind)).ext e4 (by grind)
 ·cases m;grind
 ·cases m;grind
 ·cases m;grind
 ·rcases dL _ R hR with h5| ⟨_,rfl⟩
  ·grind
  grind
 ·rcases dL _ R hR with h5| ⟨_,rfl⟩
  ·grind
  grind
 ·rcases dL _ R hR with h5| ⟨_,rfl⟩
  ·grind
  grind
 ·cases m;grind
 ·simp[Nw.make,rl]
 ·show(w.hs++[true])[h]? =some true↔_
  cases l;grind
 ·cases l;grind
 ·rcases dL h R hR with h5| ⟨rfl,rfl⟩
  ·exact l.ok h R h5
  ·exact bP.nil _ _
 ·rcases dL h R hR with h5| ⟨rfl,rfl⟩
  ·exact l.mem h R h5 x
  ·simp only[List.not_mem_nil,false_iff]
   rintro⟨_,e,he⟩
   exact T9 _ _ he
 ·rcases dL h R hR with h5| ⟨rfl,rfl⟩
  ·exact l.len h R h5
  ·show((0:Nat):Int)=w.len _
   unfold Nw.len
   rw[if_pos (by omega),apE.2 (fun x hx=>by
    have:=(m.cells.home x hx).2
    grind)]
 ·exact((e1.mono fun z _ hz=>(hS z).1 (.inl hz)).trans ((f2.mono fun _ _ h=>h.elim).trans (OW.mono fun z _ hz=>(hS z).1 (.inr (.inr (.inl hz)))))).trans (e4.mono fun z _ hz=>(hS z).1 (.inr (.inl hz)))
 ·rcases hx with hx|rfl|hx| ⟨i,R,hR,hx⟩
  ·rcases hC1 x hx with h|h
   ·exact .inl ((hS x).1 (.inl h))
   omega
  ·exact .inl ((hS x).1 (.inr (.inl rfl)))
  ·rcases OU x hx with h|h
   ·exact .inl ((hS x).1 (.inr (.inr (.inl h))))
   omega
  ·rcases dL _ R hR with h5| ⟨_,rfl⟩
   ·exact .inl ((hS x).1 (.inr (by grind)))
   grind
theorem JO.ed{d:Int}{w:Nw}{rs:List (Option Rw)}(l:JO d w rs){g:Int}(h:w.has g):∃R,rs[g.toNat]? =some (some R):=(l.hs g.toNat).1 h.2
theorem yG{H:Hp}{n:Nat}{S:Nat→Prop}{d st:Int}{w:Nw}(h:cZ H n S d st w)(g:Int):ag Tryz.prog tw [ptr n,i64 g] H fun v H'=>ap (
  ((¬w.has g∧v= .tuple [i64 0,.bool false].toArray)∨(w.has g∧w.len g=0∧v= .tuple [i64 0,.bool false].toArray)∨
   (w.has g∧∃x,cI w.cs x∧(∃e,w.cs[x.toNat]? =some (g,e))∧v= .tuple [i64 x,.bool true].toArray∧∀y,0≤y→(∃e,w.cs[y.toNat]? =some (g,e))→y≠x→aP w x y=true))∧H=H'):=by
 obtain⟨c,C,rv,fp,rs,m,l,hS⟩:=h
 refine aU ED ?_
 refine v1 (ae m.own) ?_
 refine(it m.cells g).mono ?_
 rintro _ _ ⟨rfl,rfl⟩
 refine vs ?_
 refine ar.dec (fun hh=>?_) (fun hh=>?_)
 ·obtain⟨R,hR⟩:=l.ed hh
  have h1:=hh.1
  have bf:=(aoj.1 hR).1
  obtain⟨b,o,c',lb,e1,e2,e3,e4⟩:=fh.get m.sl.rd (i:=g.toNat) (j:=0) (x:=ptr R.r) (by omega) (by simp[hR,Q8])
  subst e1
  have Nq:((g.toNat:Nat):Int)=g:=by omega
  refine v1 (ae m.own) ?_
  refine⟨by omega,?_⟩
  refine v2 e2 (show lb[o+g.toNat*1]? =some (ptr R.r)from e4) ?_
  refine(KI (m.row _ R hR) 0).mono ?_
  rintro _ _ ⟨rfl,rfl⟩
  have dW:=l.mem _ R hR
  rw[Nq]at dW
  have bu:=l.len _ R hR
  rw[Nq]at bu
  rw[show(if(0:Int)≤0 then R.l[Int.toNat 0]? else none)=R.l[0]? from rfl,UZ]
  cases h0:R.l[0]? with
  |none=>
   have:R.l.length=0:=by
    rcases Nat.eq_zero_or_pos R.l.length with h|h
    ·exact h
    ·grind
   simp(disch:=(first|omega| (simp only[Zs]<;>omega)|fail)) only[go_sem, ↓reduceIte,Zv,Option.isSome_none,Option.getD_none]
   exact⟨.inr (.inl ⟨hh,by omega,rfl⟩),rfl⟩
  |some x=>
   simp(disch:=(first|omega| (simp only[Zs]<;>omega)|fail)) only[go_sem, ↓reduceIte,Zv,Option.isSome_some,Option.getD_some]
   obtain⟨x0,e,he⟩:=(dW x).1 (by grind)
   refine⟨.inr (.inr ⟨hh,x,⟨x0,_,he,by omega⟩,⟨e,he⟩,rfl,fun y hy0 hy bN=>?_⟩),rfl⟩
   cases l;grind [bP.least,aw]
 ·refine vs ?_
  exact⟨.inl ⟨hh,rfl⟩,rfl⟩
theorem gR.setRow{H H':Hp}{n c:Nat}{C T:Nat→Prop}{rv:Value}{fp:Option Nat}{d st Uj:Int}{w w':Nw}{rs:List (Option Rw)}(m:gR H n c C rv fp d st w rs){g:Nat}{R R':Rw}(hR:rs[g]? =some (some R))(hr:R'.r=R.r)
  (row:dq H' R'.r R'.S d R'.l R'.pl)(hRS:∀z,R'.S z→R.S z∨H.size≤z)(e:ah T H H')(hT:∀z,T z→C z∨R.S z∨z=n)(cells:aZ H' c C Uj w')(own:H'.own n=some [ptr c,i64 d,rv]):
  gR H' n c C rv fp d Uj w' (rs.set g (some R')):=by
 have bL:=m.slt
 have hg:=(aoj.1 hR).1
 have dL:∀ (h:Nat) Q,(rs.set g (some R'))[h]? =some (some Q)→(h=g∧Q=R')∨(h≠g∧rs[h]? =some (some Q)):=by grind
 refine⟨own,cells,?_,fun h Q hQ=>?_,m.nC,m.ye,fun h Q hQ x hx=>?_,fun h h' Q Q' hQ Vi bN x hx BP=>?_⟩
 ·have h1:(rs.set g (some R')).map Q8=rs.map Q8:=by
   rw[aoN]
   refine aoM fun i=>?_
   by_cases hi:i=g
   ·subst hi
    rw[aot (by grind),aoF,hR]
    simp[Q8,hr]
   ·grind
  rw[h1,aom]
  exact m.sl.ext e (fun b hb ht=>by
   cases m;grind)
 ·rcases dL h Q hQ with ⟨rfl,rfl⟩| ⟨h1,h2⟩
  ·exact row
  ·exact(m.row h Q h2).ext e (fun x hx ht=>by
    cases m;grind)
 ·rcases dL h Q hQ with ⟨rfl,rfl⟩| ⟨h1,h2⟩
  ·rcases hRS x hx with h3|h3
   ·exact m.nE _ R hR x h3
   ·refine⟨fun hc=>?_,fun hc=>?_,fun hc=>?_⟩
    ·have:=bL x (.inl hc);omega
    ·have:=bL n (.inr (.inl rfl));omega
    ·have:=bL x (.inr (.inr (.inl hc)));omega
  ·exact m.nE h Q h2 x hx
 ·rcases dL h Q hQ with ⟨rfl,rfl⟩| ⟨h1,h2⟩
  ·rcases dL h' Q' Vi with ⟨rfl,rfl⟩| ⟨h3,h4⟩
   ·omega
   ·rcases hRS x hx with h5|h5
    ·cases m;grind
    ·have:=bL x (.inr (by grind));omega
  ·rcases dL h' Q' Vi with ⟨rfl,rfl⟩| ⟨h3,h4⟩
   ·rcases hRS x BP with h5|h5
    ·cases m;grind
    ·have:=bL x (.inr (by grind));omega
   cases m;grind
theorem Vn(lt:Int→Int→Bool){d:Int}(hf:cW d)(x:Int){m:Nat}(l:List Int)(pl:Int→Option Int){i:Int}(hi:1≤i)(hm:i.toNat≤m):0< (fM lt d x m l pl i).asked:=by
 obtain⟨q,rfl⟩:∃q,m=q+1:=⟨m - 1,by omega⟩
 have hp:bz d i=some ((i - 1) / d):=by unfold bz;grind
 simp only[fM,hp]
 split<;>simp
theorem DF{H:Hp}{n:Nat}{S:Nat→Prop}{d st:Int}{w:Nw}(h:cZ H n S d st w)(g x k s:Int):ag Tryz.prog nV [ptr n,i64 g,i64 x,tE k s] H fun v H'=>ap (
  (¬ (w.has g∧(0≤x∧x<w.cs.length)∧¬cI w.cs x)∧v= .bool false∧cZ H' n S d st w∧ah S H H')∨
  ((w.has g∧(0≤x∧x<w.cs.length)∧¬cI w.cs x)∧v= .bool true∧∃ (S':Nat→Prop) (q:Nat),(q:Int)≤jj d (w.len g).toNat∧(0<w.len g→0<q)∧cZ H' n S' d (min (st+q) 4611686018427387904) (w.put x (g,k,s))∧ah S H H'∧∀z,S' z→S z∨H.size≤z)):=by
 obtain⟨c,C,rv,fp,rs,m,l,hS⟩:=h
 refine aU zD ?_
 refine vs ?_
 have f0:ai H (H.new 190 [i64 k,u64 s]):=(ah.refl _ _).new _ _
 have b0:(H.new 190 [i64 k,u64 s]).own H.size=some [i64 k,u64 s]:=aA _ _ _
 have m0:=m.ext f0 (fun _ _ h=>h)
 generalize H.new 190 [i64 k,u64 s]=H0 at*
 refine v2 (ae m0.own) (ae b0) ?_
 refine(mu m0.cells g x k s).mono ?_
 rintro _ H1 (⟨bU,rfl,c1,e1⟩| ⟨fX,rfl,c1,e1⟩)
 ·refine vs ?_
  refine .inl ⟨bU,rfl,⟨c,C,rv,fp,rs,?_,l,hS⟩,(f0.mono fun _ _ h=>h.elim).trans (e1.mono fun z _ hz=>(hS z).1 (.inl hz))⟩
  exact⟨e1.own m0.own m.nC,c1,m0.sl.ext e1 (fun b hb h=>(m.ye b hb).2 h),fun i R hR=>(m0.row i R hR).ext e1 (fun x hx=>(m.nE i R hR x hx).1),m.nC,m.ye,m.nE,m.vZ⟩
 ·obtain⟨hh,⟨im,nO⟩,ci⟩:=id fX
  obtain⟨R,hR⟩:=l.ed hh
  have h1:=hh.1
  have Nq:((g.toNat:Nat):Int)=g:=by omega
  have dW:=l.mem _ R hR
  have bu:=l.len _ R hR
  rw[Nq]at dW bu
  obtain⟨c0,DZ⟩:∃c0,w.cs[x.toNat]? =some c0:=by grind
  have AA:¬0<c0.1:=fun h=>ci ⟨im,c0,DZ,h⟩
  have jh:(w.put x (g,k,s)).cs[x.toNat]? =some (g,k,s):=aot (by omega)
  have B6:∀y:Nat,y≠x.toNat→(w.put x (g,k,s)).cs[y]? =w.cs[y]? :=fun y hy=>aor (Ne.symm hy)
  have XL:∀ (i:Nat) Q,rs[i]? =some (some Q)→x∉Q.l:=fun i Q hQ hm=>by
   cases l;grind
  have bN:∀ (i:Nat) Q,rs[i]? =some (some Q)→∀y∈Q.l,0≤y∧y.toNat≠x.toNat:=fun i Q hQ y hy=>by
   cases l;grind
  have hlc:∀ (i:Nat) Q,rs[i]? =some (some Q)→bP (aP (w.put x (g,k,s))) d Q.l Q.pl:=fun i Q hQ=>
   bP.congr l.tf (l.ok i Q hQ) fun z hz y hy=>(iw w x _ (bN i Q hQ z hz).2 (bN i Q hQ y hy).2).symm
  have Hd:∀z∈R.l,cI (w.put x (g,k,s)).cs z:=fun z hz=>by
   obtain⟨z0,e,he⟩:=(dW z).1 hz
   exact⟨z0,_,by rw[B6 _ (bN _ R hR z hz).2];exact he,by omega⟩
  have XM:cI (w.put x (g,k,s)).cs x:=⟨im,_,jh,by omega⟩
  have o1:=e1.own m0.own m.nC
  have Vm:=m.cells.st
  have m1:gR H1 n c C rv fp d st (w.put x (g,k,s)) rs:=⟨o1,c1,m0.sl.ext e1 (fun b hb h=>(m.ye b hb).2 h),fun i R hR=>(m0.row i R hR).ext e1 (fun x hx=>(m.nE i R hR x hx).1),m.nC,m.ye,m.nE,m.vZ⟩
  have bf:=(aoj.1 hR).1
  obtain⟨b,o,c',lb,q1,q2,q3,q4⟩:=fh.get m1.sl.rd (i:=g.toNat) (j:=0) (x:=ptr R.r) (by omega) (by simp[hR,Q8])
  subst q1
  refine v1 (ae o1) ?_
  refine⟨by omega,?_⟩
  refine v2 q2 (show lb[o+g.toNat*1]? =some (ptr R.r)from q4) ?_
  have sT:=m.cells.CI
  have rl:R.l.length≤65536:=by have:=(w.kT g).2;omega
  refine(yA (Ca (c:=c) (rv:=.slice (some ⟨b,o,none⟩) rs.length c') (d:=d) (st:=st) (w:=w.put x (g,k,s)) m.nC) (m1.row _ R hR) (fun z hz ht=>?_) (n:=0) (by grind) x (by omega) XM Hd).mono ?_
  ·cases m;grind
  rintro _ H2 (⟨hp,_,_⟩| ⟨hp,rfl,S',r2,⟨c2,o2⟩,e2,Vk⟩)
  ·exact absurd ((bP.mem (l.ok _ R hR) x).2 hp) (XL _ R hR)
  obtain⟨p1,p2,p3,p4⟩:=bP.add (aw (w.put x (g,k,s))) l.tf (hlc _ R hR) hp
  have hq:0<R.l.length→0< (fM (aP (w.put x (g,k,s))) d x R.l.length (R.l++[x]) R.pl R.l.length).asked:=fun h=>Vn _ l.tf x _ _ (by omega) (by omega)
  generalize hU:fM (aP (w.put x (g,k,s))) d x R.l.length (R.l++[x]) R.pl R.l.length=U at*
  rw[aoi]at c2
  refine vs ?_
  have Nu:∀z,(R.S z∨C z∨z=n)→S z:=fun z hz=>(hS z).1 (by
   rcases hz with hz|hz|hz
   ·exact .inr (by grind)
   ·exact .inl hz
   ·exact .inr (.inl hz))
  have dL:∀ (h:Nat) Q,(rs.set g.toNat (some (⟨R.r,S',U.l,U.pl⟩:Rw)))[h]? =some (some Q)→(h=g.toNat∧Q=⟨R.r,S',U.l,U.pl⟩)∨(h≠g.toNat∧rs[h]? =some (some Q)):=by grind
  refine .inr ⟨fX,rfl,B9 n C fp (rs.set g.toNat (some ⟨R.r,S',U.l,U.pl⟩)),U.asked,?_,by omega,
   ⟨c,C,_,fp,rs.set g.toNat (some ⟨R.r,S',U.l,U.pl⟩),m1.setRow hR (R':=⟨R.r,S',U.l,U.pl⟩) rfl r2 Vk e2 (fun z hz=>?_) c2 o2,
    ⟨l.tf,by rw[aom];exact l.hl,fun h=>?_,?_,fun h Q hQ=>?_,fun h Q hQ y=>?_,fun h Q hQ=>?_⟩,fun z=>Iff.rfl⟩,?_,fun z hz=>?_⟩
  ·grind
  ·grind
  ·show w.hs[h]? =some true↔_
   rw[l.hs h]
   grind
  ·cases l;grind
  ·grind
  ·rcases dL h Q hQ with ⟨rfl,rfl⟩| ⟨h5,h6⟩
   ·grind
   cases l;grind
  ·rcases dL h Q hQ with ⟨rfl,rfl⟩| ⟨h5,h6⟩
   ·grind [Nw.gK]
   cases l;grind [Nw.gK]
  ·exact(f0.mono fun _ _ h=>h.elim).trans ((e1.mono (by grind)).trans (e2.mono (by grind)))
  ·have z0:=f0.size
   have z1:=e1.size
   rcases hz with hz|rfl|hz| ⟨i,Q,hQ,hz⟩
   ·grind
   ·grind
   ·exact .inl ((hS z).1 (.inr (.inr (.inl hz))))
   ·rcases dL i Q hQ with ⟨rfl,rfl⟩| ⟨h5,h6⟩
    ·grind
    ·exact .inl ((hS z).1 (.inr (by grind)))
theorem gR.aC{H H1:Hp}{n c:Nat}{C:Nat→Prop}{rv:Value}{fp:Option Nat}{d st Uj:Int}{w:Nw}{rs:List (Option Rw)}(m:gR H n c C rv fp d st w rs)(c1:aZ H1 c C Uj w)(e1:ah C H H1):gR H1 n c C rv fp d Uj w rs:=
 ⟨e1.own m.own m.nC,c1,m.sl.ext e1 (fun b hb h=>(m.ye b hb).2 h),fun i R hR=>(m.row i R hR).ext e1 (fun x hx=>(m.nE i R hR x hx).1),m.nC,m.ye,m.nE,m.vZ⟩
end Go.Proofs.YtjkkkibiegfecaaGreatDoor
