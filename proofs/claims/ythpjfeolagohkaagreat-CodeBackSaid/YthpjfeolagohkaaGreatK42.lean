/- Texts put behind each other. -/
import Derived.Test.YthpjfeolagohkaaGreatK98
import Derived.Test.YthpjfeolagohkaaGreatK3
import Derived.Test.YthpjfeolagohkaaGreatK35
import Derived.Test.YthpjfeolagohkaaGreatK41
set_option maxRecDepth 100000
set_option maxHeartbeats 8000000
set_option linter.unusedVariables false
set_option linter.unusedSimpArgs false
namespace Go.Proofs.YthpjfeolagohkaaGreat
open Go Go.Vc
structure Z5 where
 n:Nat
 c:Nat
 fb:Nat
 tb:Nat
 rp:Nat
structure tB(H:Hp)(ro:Nat→Rl)(B:Z5)(C:Nat→Prop)(w:Nw)(l:List Value)(V:Int→Value)(ch:Int→List Int)(par:Int→Int)(kb:Int→Option Nat)(eF:List Value)(rows:Int→List Int)(rb:Int→Option Nat):Prop where
 own:∃tv,H.own B.n=some [ptr B.c,ptr B.fb,tv]∧Sl H 1 tv eF.length eF (some B.rp)
 row:∀g:Int,0≤g→g<eF.length→∃sv,eF[g.toNat]? =some sv∧Sl H 1 sv (rows g).length ((rows g).map i64) (rb g)
 cells:CQ H B.c C w
 fo:ForM H ro B.fb B.tb w.cs.length l V ch par kb
 hC:∀z,C z→ro z= .cell
 rn:ro B.n= .SN
 rr:ro B.rp= .L0
 mz:∀ (g:Int) b,0≤g→g<eF.length→rb g=some b→ro b= .row g
 hz:∀z,H.size≤z→ro z= .no
def dh(ro:Nat→Rl)(z:Nat):Prop:=ro z≠ .no
section
variable {H H' : Hp} {ro ro' : Nat → Rl} {B : Z5} {C T : Nat → Prop} {w w' : Nw} {l l' : List Value} {V V' : Int → Value} {ch dA : Int → List Int} {par bm : Int → Int} {kb qa : Int → Option Nat} {eF : List Value} {rows : Int → List Int} {rb : Int → Option Nat} {lt : Int → Int → Bool} {W W0 L : List Int}
theorem tB.slt(m:tB H ro B C w l V ch par kb eF rows rb):∀z,dh ro z→z<H.size:=fun z hz=>by
 apply aoJ
 intro h
 exact hz (m.hz z (by omega))
theorem fi{ro:Nat→Rl}{z:Nat}{r:Rl}(h:ro z=r)(hr:r≠ .no):dh ro z:=fun e=>hr (by rw[←h,e])
theorem tB.ext(m:tB H ro B C w l V ch par kb eF rows rb)(e:ag T H H')(hd:∀z,dh ro z→¬T z):tB H' ro B C w l V ch par kb eF rows rb:=by
 obtain⟨tv,h1,h2⟩:=m.own
 have hs:=e.size
 refine⟨⟨tv,e.own h1 (hd _ (fi m.rn nofun)),h2.ext e (fun b hb=>by injection hb with hb;subst hb;exact hd _ (fi m.rr nofun))⟩,fun g h0 h1=>?_,m.cells.ext e (fun z hz=>hd z (fi (m.hC z hz) nofun)),m.fo.ext e (fun z hz=>?_),m.hC,m.rn,m.rr,m.mz,fun z hz=>m.hz z (by omega)⟩
 ·obtain⟨sv,q1,q2⟩:=m.row g h0 h1
  exact⟨sv,q1,q2.ext e (fun b hb=>hd b (fi (m.mz g b h0 h1 hb) nofun))⟩
 ·rcases hz with h|h| ⟨x,h⟩<;>exact hd z (fi h nofun)
theorem tB.fresh(m:tB H ro B C w l V ch par kb eF rows rb)(e:am H H'):tB H' ro B C w l V ch par kb eF rows rb:=m.ext e fun _ _ h=>h
theorem tB.aH(m:tB H ro B C w l V ch par kb eF rows rb)(c1:CQ H' B.c C w')(e:ag C H H')(hl:w'.cs.length=w.cs.length):tB H' ro B C w' l V ch par kb eF rows rb:=by
 obtain⟨tv,h1,h2⟩:=m.own
 have hs:=e.size
 have hd:∀z r,ro z=r→r≠ .cell→¬C z:=fun z r h1 h2 hc=>h2 (by rw[←h1,m.hC z hc])
 refine⟨⟨tv,e.own h1 (hd _ _ m.rn nofun),h2.ext e (fun b hb=>by injection hb with hb;subst hb;exact hd _ _ m.rr nofun)⟩,fun g h0 h1=>?_,c1,?_,m.hC,m.rn,m.rr,m.mz,fun z hz=>m.hz z (by omega)⟩
 ·obtain⟨sv,q1,q2⟩:=m.row g h0 h1
  exact⟨sv,q1,q2.ext e (fun b hb=>hd b _ (m.mz g b h0 h1 hb) nofun)⟩
 ·rw[hl]
  refine m.fo.ext e (fun z hz=>?_)
  rcases hz with h|h| ⟨x,h⟩<;>exact hd z _ h nofun
theorem tB.Tv(m:tB H ro B C w l V ch par kb eF rows rb)(f:ForM H' ro' B.fb B.tb w.cs.length l' V' dA bm qa)(c1:CQ H' B.c C w)(r:RK H.size ro ro')(hz:∀z,H'.size≤z→ro' z= .no)(e:ag (KC ro) H H'):tB H' ro' B C w l' V' dA bm qa eF rows rb:=by
 obtain⟨tv,h1,h2⟩:=m.own
 have hd:∀z q,ro z=q→(∀x,q≠ .qz x)→q≠ .table→q≠ .cell→¬KC ro z:=fun z q h1 h2 h3 h4 hc=>by
  rcases hc with (hc| ⟨x,hc⟩)|hc
  ·exact h3 (by rw[←h1,hc])
  ·exact h2 x (by rw[←h1,hc])
  ·exact h4 (by rw[←h1,hc])
 have hk:∀z q,ro z=q→q≠ .no→(∀x,q≠ .qz x)→ro' z=q:=fun z q h1 h2 h3=>by
  rw[r.o z (m.slt z (fi h1 h2)) (fun x e=>h3 x (by rw[←h1,e])),h1]
 refine⟨⟨tv,e.own h1 (hd _ _ m.rn nofun nofun nofun),h2.ext e (fun b hb=>by injection hb with hb;subst hb;exact hd _ _ m.rr nofun nofun nofun)⟩,fun g h0 h1=>?_,c1,f,fun z hz=>hk z _ (m.hC z hz) nofun nofun,hk _ _ m.rn nofun nofun,hk _ _ m.rr nofun nofun,fun g b h0 h1 hb=>hk b _ (m.mz g b h0 h1 hb) nofun nofun,hz⟩
 obtain⟨sv,q1,q2⟩:=m.row g h0 h1
 exact⟨sv,q1,q2.ext e (fun b hb=>hd b _ (m.mz g b h0 h1 hb) nofun nofun nofun)⟩
theorem tB.Wz(m:tB H ro B C w l V ch par kb eF rows rb){g:Int}(hg:0≤g∧g<eF.length){H1:Hp}(e0:ag (fun z=>rb g=some z) H H1){lb:List Value}(Dt:H1.own B.rp=some lb){sv:Value}{L':List Int}{o:Option Nat}(s:Sl H1 1 sv L'.length (L'.map i64) o)(ho:∀b,o=some b→ro b= .no∨ro b= .row g):
  tB (H1.wr B.rp (lb.set g.toNat sv)) (fun z=>if o=some z then .row g else ro z) B C w l V ch par kb (eF.set g.toNat sv) (ax rows g L') (fun k=>if k=g then o else rb k)∧ag (dh ro) H (H1.wr B.rp (lb.set g.toNat sv))∧
   (∀z,dh (fun z=>if o=some z then .row g else ro z) z→dh ro z∨o=some z):=by
 obtain⟨tv,h1,h2⟩:=m.own
 have e:ag (fun z=>z=B.rp) H1 (H1.wr B.rp (lb.set g.toNat sv)):=(ag.refl (fun z=>z=B.rp) _).wr (fun _=>rfl) _
 have HG:(H1.wr B.rp (lb.set g.toNat sv)).size=H1.size:=fu _ _ _
 have Z6:=e0.size
 have Kt:∀z q,ro z=q→q≠ .no→q≠ .row g→(if o=some z then Rl.row g else ro z)=q:=fun z q h1 h2 h3=>by
  rw[if_neg (fun e=>by rcases ho z e with h|h;exact h2 (by rw[←h1,h]);exact h3 (by rw[←h1,h])),h1]
 have ne:∀z q,ro z=q→q≠ .L0→z≠B.rp:=fun z q h1 h2 e=>h2 (by rw[←h1,e,m.rr])
 have n0:∀z q,ro z=q→q≠ .row g→¬rb g=some z:=fun z q h1 h2 h3=>h2 (by rw[←h1,m.mz g z hg.1 hg.2 h3])
 have hob:∀b,o=some b→b≠B.rp:=fun b hb e=>by rcases ho b hb with h|h<;>(rw[e,m.rr]at h;cases h)
 obtain⟨ta,tc,rfl⟩:=Sl.shape h2
 have hta:ta=some ⟨B.rp,0,none⟩:=by
  obtain⟨_,_,_,hh,_⟩:=h2
  injection hh with hh
 subst hta
 have h3:=h2.ext e0 (fun b hb=>by injection hb with hb;subst hb;exact n0 _ _ m.rr nofun)
 refine⟨⟨⟨_,e.own (e0.own h1 (n0 _ _ m.rn nofun)) (ne _ _ m.rn nofun),?_⟩,fun k h0 h1=>?_,(m.cells.ext e0 (fun z hz=>n0 z _ (m.hC z hz) nofun)).ext e (fun z hz=>ne z _ (m.hC z hz) nofun),?_,fun z hz=>Kt z _ (m.hC z hz) nofun nofun,Kt _ _ m.rn nofun nofun,Kt _ _ m.rr nofun nofun,fun k b h0 h1 hb=>?_,fun z hz=>?_⟩,
  (e0.mono fun z _ h=>fi (m.mz g z hg.1 hg.2 h) nofun).trans (e.mono fun z _ h=>by rw[h];exact fi m.rr nofun),fun z hz=>?_⟩
 ·rw[aot]
  exact h3.sI Dt g.toNat sv
 ·rw[aot]at h1
  by_cases hk:k=g
  ·subst hk
   refine⟨sv,by rw[aox (by omega)],?_⟩
   unfold ax
   rw[if_pos rfl,if_pos rfl]
   exact s.ext e (fun b hb=>hob b hb)
  ·obtain⟨sv',q1,q2⟩:=m.row k h0 h1
   refine⟨sv',by rw[aov (by omega)];exact q1,?_⟩
   unfold ax
   rw[if_neg hk,if_neg hk]
   exact(q2.ext e0 (fun b hb=>n0 b _ (m.mz k b h0 h1 hb) (fun e=>hk (by injection e)))).ext e (fun b hb=>ne b _ (m.mz k b h0 h1 hb) nofun)
 ·have f1:=(m.fo.ext e0 (fun z hz=>by rcases hz with h|h| ⟨x,h⟩<;>exact n0 z _ h nofun)).ext e (fun z hz=>by rcases hz with h|h| ⟨x,h⟩<;>exact ne z _ h nofun)
  exact⟨f1.t,f1.kd,Kt _ _ f1.rf nofun nofun,Kt _ _ f1.rt nofun nofun,fun x b h0 h1 hb=>Kt _ _ (f1.rk x b h0 h1 hb) nofun nofun,f1.G2,f1.no⟩
 ·rw[aot]at h1
  by_cases hk:k=g
  ·rw[if_pos hk]at hb
   rw[if_pos hb,hk]
  ·rw[if_neg hk]at hb
   have:=m.mz k b h0 h1 hb
   exact Kt b _ this nofun (fun e=>hk (by injection e))
 ·rw[HG]at hz
  rw[if_neg (fun e=>?_),m.hz z (by omega)]
  cases o with
  |none=>cases e
  |some b=>
   injection e with e
   have:=Sl.lt s
   omega
 ·by_cases h:o=some z
  ·exact .inr h
  ·refine .inl fun h2=>hz ?_
   simp only[if_neg h]
   exact h2
theorem tB.Mp(m:tB H ro B C w l V ch par kb eF rows rb){g:Int}(hg:0≤g∧g<eF.length):∃lb tc sv,H.own B.n=some [ptr B.c,ptr B.fb,.slice (some ⟨B.rp,0,none⟩) eF.length tc]∧H.own B.rp=some lb∧lb[g.toNat]? =some sv∧g.toNat<lb.length∧eF[g.toNat]? =some sv∧
  Sl H 1 sv (rows g).length ((rows g).map i64) (rb g):=by
 obtain⟨tv,h1,h2⟩:=m.own
 obtain⟨sv,q1,q2⟩:=m.row g hg.1 hg.2
 obtain⟨_,lb,tc,rfl,ho,hc,hl,ht⟩:=h2
 refine⟨lb,tc,sv,h1,ho,?_,by omega,q1,q2⟩
 have h7:=q1
 rw[←ht,aoU]at h7
 split at h7
 ·exact h7
 ·cases h7
theorem Sl.rdB{sv:Value}{L:List Int}{fp:Option Nat}{Bd:Nat}(s:Sl H 1 sv L.length (L.map i64) fp)(hf:∀b,fp=some b→b<Bd∧¬KC ro b):E7 H ro Bd sv L:=by
 cases fp with
 |none=>
  obtain⟨_,h2,rfl⟩:=s
  exact⟨none,0,by rw[h2],by omega,.inl (ao4.1 h2)⟩
 |some b=>
  obtain⟨_,lb,c,rfl,ho,hc,hl,ht⟩:=s
  obtain⟨h1,h2⟩:=hf b rfl
  refine⟨_,c,rfl,hc,.inr ⟨b,0,lb,rfl,h1,h2,ae ho,by omega,?_⟩⟩
  rw[apO]
  rw[aos]at ht
  exact ht
theorem Im(m:tB H ro B C w l V ch par kb eF rows rb){g:Int}{lv:Value}{I4:Int→List Int}(h12:I4 g=rows g)(T6:E7 H ro H.size lv L)(aK:∀a b,aN w a b=true→lt a b=true)(f:it (aE w) lt ch par I4 (L++W0))(hL:E4 ch L)(hg:∀c∈L,aE w c=g)(vz:0≤g∧g<eF.length):
  af Tryz.prog lF [ptr B.n,i64 g,lv] H fun v H'=>ar (∃ro' l' V' dA bm qa Io out YP,tB H' ro' B C w l' V' dA bm qa Io (ax rows g out) YP∧it (aE w) lt dA bm (ax I4 g out) W0∧Io.length=eF.length∧(∀z∈W0,dA z=ch z)∧
   (∀z,dh ro' z→dh ro z∨H.size≤z)∧ag (dh ro) H H'):=by
 obtain⟨lb,tc,sv,o1,q1,q2,Dt,_,s2⟩:=m.Mp vz
 obtain⟨va,vc,rfl⟩:=Sl.shape s2
 obtain⟨aL,cL,rfl,hcL⟩:=T6.cap
 have hra:E7 H ro H.size (.slice va (rows g).length vc) (rows g):=Sl.rdB s2 (fun b hb=>by
  have h5:=m.mz g b vz.1 vz.2 hb
  refine⟨m.slt b (fi h5 nofun),fun hc=>?_⟩
  rcases hc with (hc| ⟨x,hc⟩)|hc<;>(rw[h5]at hc;cases hc))
 have h0:oU H ro B.n B.fb B.tb B.c C w H ro l V ch par kb (.slice va (rows g).length vc) (.slice aL L.length cL) (rows g) L:=⟨m.fo,m.cells,m.hC,⟨_,o1⟩,m.rn,m.hz,RK.refl m.hz,hra,T6,ag.refl _ _⟩
 have f1:=f.loose g
 have QC:∀c∈rows g,aE w c=g:=fun c hc=>(f.rm g c (by rw[h12];exact hc)).1
 have frr:=f.rr g
 rw[h12]at f1 frr
 refine Kw wE ⟨rfl,?_⟩
 refine v1 lP.eq_1 ?_
 refine oC.intro (fun H'=>H'.own B.n=some [ptr B.c,ptr B.fb,.slice (some ⟨B.rp,0,none⟩) eF.length tc]) o1 ?_
 refine vs ?_
 refine oB.intro (.slice (some ⟨B.rp,0,none⟩) eF.length tc) (fun H' hI=>by refine v1 (ae hI) ?_;trivial) ?_
 refine vs ?_
 have hgi:0≤g∧g< (eF.length:Int):=vz
 have key:∀K:Value→Hp→Prop,(∀out ro' l' V' dA bm qa vo fo H',oU H ro B.n B.fb B.tb B.c C w H' ro' l' V' dA bm qa (.slice none 0 0) (.slice none 0 0) [] []→Sl H' 1 vo out.length (out.map i64) fo→(∀z,fo=some z→H.size≤z∧ro' z= .no)→it (aE w) lt dA bm (ax I4 g []) (out++W0)→E4 dA out→(∀c∈out,aE w c=g)→(∀z∈W0,dA z=ch z)→K (.tuple [vo,.bool true].toArray) H')→
   af Tryz.prog j7 [ptr B.fb,.iface 154 (ptr B.n),.slice va (rows g).length vc,.slice aL L.length cL] H K:=fun K hK=>by
  refine(Dj h0 aK f1 frr hL (fun c hc=>by rcases hc with h|h;exact QC c h;exact hg c h)).mono ?_
  rintro _ H' ⟨out,ro',l',V',dA,bm,qa,vo,fo,rfl,h1,h2,h3,h4,h5,h6,h7⟩
  exact hK out ro' l' V' dA bm qa vo fo H' h1 h2 h3 h4 h5 h6 h7
 refine II.intro ?A ?B
 case' A=>
  refine v1 (ae o1) ?_
  refine And.intro o1 ?_
  refine v1 (ae o1) ?_
  refine And.intro o1 ?_
  refine vs ?_
  refine⟨⟨by omega,by omega⟩,?_⟩
  refine v4 (ae q1) aor aos q2 ?_
  refine And.intro o1 ?_
  refine vs ?_
 case' B=>
  refine v1 (ae o1) ?_
  refine And.intro o1 ?_
  refine vs ?_
  refine⟨⟨by omega,by omega⟩,?_⟩
  refine vs ?_
  refine II.intro ?C ?D
  case' C=>
   refine v1 (ae o1) ?_
   refine And.intro o1 ?_
   refine v4 (ae q1) aor aos q2 ?_
   refine And.intro o1 ?_
   refine vs ?_
  case' D=>
   refine v4 (ae q1) aor aos q2 ?_
   refine And.intro o1 ?_
   refine v1 (ae o1) ?_
   refine And.intro o1 ?_
   refine vs ?_
 all_goals
  refine key _ fun out nP l2 V2 kU iW DL vo fo2 H2 h2 DN Re f2 r2 g2 w2=>?_
  obtain⟨vb,vc2,rfl⟩:=Sl.shape DN
  have m2:=m.Tv h2.m h2.cq h2.rk h2.hz h2.e
  obtain⟨lb2,tc2,sv2,o2,q3,q4,al4,_,_⟩:=m2.Mp vz
  have o2':H2.own B.n=some [ptr B.c,ptr B.fb,.slice (some ⟨B.rp,0,none⟩) eF.length tc]:=h2.e.own o1 (fun hc=>by
   rcases hc with (hc| ⟨x,hc⟩)|hc<;>(rw[m.rn]at hc;cases hc))
  refine And.intro o2' ?_
  refine vs ?_
  refine⟨⟨by omega,by omega⟩,?_⟩
  refine v3 q3 aor aos ?_
  refine⟨by omega,?_⟩
  obtain⟨m3,e3,Xh⟩:=m2.Wz vz (ag.refl _ _) q3 DN (fun b hb=>.inl (Re b hb).2)
  refine vs ?_
  have hnr:B.n≠B.rp:=fun e=>by have:=m2.rn;rw[e,m2.rr]at this;cases this
  refine And.intro (((ag.refl (fun z=>z=B.rp) _).wr (fun _=>rfl) _:ag (fun z=>z=B.rp) H2 _).own o2' hnr) ?_
  refine vs ?_
  have f3:=f2.row (g:=g) (by unfold ax;rw[if_pos rfl]) r2 g2
  rw[eD]at f3
  have Ol:∀z,dh nP z→dh ro z∨H.size≤z:=fun z hz=>by
   by_cases OG:z<H.size
   ·refine .inl fun h=>hz ?_
    exact h2.rk.none OG h
   ·exact .inr (by omega)
  refine⟨_,l2,V2,kU,iW,DL,_,_,_,m3,f3,aot ..,w2,fun z hz=>?_,?_⟩
  ·rcases Xh z hz with h|h
   ·exact Ol z h
   ·exact .inr (Re z h).1
  ·have e2:ag (dh ro) H H2:=h2.e.mono fun z _ h=>by
    rcases h with (h| ⟨x,h⟩)|h<;>exact fi h nofun
   exact⟨apc e2.size e3.size,fun z hz hn=>by
    rw[e3.aG z (aoO hz e2.size) (fun h=>by
     rcases Ol z h with h|h
     ·exact hn h
     ·omega),e2.aG z hz hn]⟩
theorem BB(m:tB H ro B C w l V ch par kb eF rows rb){g:Int}{lv:Value}(T6:E7 H ro H.size lv L)(aK:∀a b,aN w a b=true→lt a b=true)(f:it (aE w) lt ch par rows (L++W0))(hL:E4 ch L)(hg:∀c∈L,aE w c=g)(vz:0≤g∧g<eF.length):
  af Tryz.prog lF [ptr B.n,i64 g,lv] H fun v H'=>ar (∃ro' l' V' dA bm qa Io jz YP,tB H' ro' B C w l' V' dA bm qa Io jz YP∧it (aE w) lt dA bm jz W0∧Io.length=eF.length∧(∀z∈W0,dA z=ch z)∧
   (∀z,dh ro' z→dh ro z∨H.size≤z)∧ag (dh ro) H H'):=
 (Im m rfl T6 aK f hL hg vz).mono fun _ _ ⟨ro',l',V',dA,bm,qa,Io,_,YP,h⟩=>⟨ro',l',V',dA,bm,qa,Io,_,YP,h⟩
end
end Go.Proofs.YthpjfeolagohkaaGreat

namespace Go.Proofs.YthpjfeolagohkaaGreat
open Go Go.Vc
def gh(n:Nat)(H:Hp)(S:Nat→Prop)(w:Nw):Prop:=∃ (B:Z5) (ro:Nat→Rl) (C:Nat→Prop) (l:List Value) (V:Int→Value) (ch:Int→List Int) (par:Int→Int) (kb:Int→Option Nat) (eF:List Value) (rows:Int→List Int) (rb:Int→Option Nat),
 B.n=n∧tB H ro B C w l V ch par kb eF rows rb∧it (aE w) (aN w) ch par rows []∧eF.length=w.hs.length∧∀z,S z↔dh ro z
theorem gh.slt{n:Nat}{H:Hp}{S:Nat→Prop}{w:Nw}(h:gh n H S w):∀z,S z→z<H.size:=by
 obtain⟨B,ro,C,l,V,ch,par,kb,eF,rows,rb,rfl,m,f,hl,hS⟩:=h
 exact fun z hz=>m.slt z ((hS z).1 hz)
theorem gh.ext{n:Nat}{H H':Hp}{S T:Nat→Prop}{w:Nw}(h:gh n H S w)(e:ag T H H')(hd:∀z,S z→¬T z):gh n H' S w:=by
 obtain⟨B,ro,C,l,V,ch,par,kb,eF,rows,rb,rfl,m,f,hl,hS⟩:=h
 exact⟨B,ro,C,l,V,ch,par,kb,eF,rows,rb,rfl,m.ext e (fun z hz=>hd z ((hS z).2 hz)),f,hl,hS⟩
section
variable {H H' : Hp} {ro ro' : Nat → Rl} {B : Z5} {C T : Nat → Prop} {w w' : Nw} {l l' : List Value} {V V' : Int → Value} {ch dA : Int → List Int} {par bm : Int → Int} {kb qa : Int → Option Nat} {eF : List Value} {rows : Int → List Int} {rb : Int → Option Nat} {lt : Int → Int → Bool} {W W0 L : List Int}
theorem tB.Tw(m:tB H ro B C w l V ch par kb eF rows rb)(hl:eF.length=w.hs.length){g:Int}(h:w.has g):0≤g∧g<eF.length:=by
 have h1:=h.1
 have:=(aoq.1 h.2).1
 omega
theorem Kh(m:tB H ro B C w l V ch par kb eF rows rb)(f:it (aE w) lt ch par rows W)(hl:eF.length=w.hs.length)(g:Int):af Tryz.prog vO [ptr B.n,i64 g] H fun v H'=>ar ((∃o,Sl H 1 v (rows g).length ((rows g).map i64) o∧∀b,o=some b→b<H.size∧¬KC ro b)∧H'=H):=by
 obtain⟨tv,ho,_⟩:=m.own
 refine aZ wF ?_
 refine v1 (ae ho) ?_
 refine(ik m.cells g).mono ?_
 rintro _ _ ⟨rfl,rfl⟩
 refine vs ?_
 by_cases hg:w.has g
 ·rw[aoE hg]
  have vz:=m.Tw hl hg
  obtain⟨lb,tc,sv,o1,q1,q2,Dt,_,s2⟩:=m.Mp vz
  refine v1 (ae o1) ?_
  refine⟨⟨by omega,by omega⟩,?_⟩
  refine v4 (ae q1) aor aos q2 ?_
  refine⟨⟨rb g,s2,fun b hb=>?_⟩,rfl⟩
  have h5:=m.mz g b vz.1 vz.2 hb
  refine⟨m.slt b (fi h5 nofun),fun hc=>?_⟩
  rcases hc with (hc| ⟨x,hc⟩)|hc<;>(rw[h5]at hc;cases hc)
 ·rw[aoK hg]
  refine vs ?_
  have hr:rows g=[]:=by
   cases hc:rows g with
   |nil=>rfl
   |cons c r=>
    obtain⟨h1,_,h2,_⟩:=f.rm g c (by rw[hc];simp)
    have:=((m.cells.hm c).2 (by omega)).1
    rw[h1]at this
    exact absurd this hg
  rw[hr]
  exact⟨⟨none,Sl.nil _ _,nofun⟩,rfl⟩
theorem it.root(f:it (aE w) (aN w) ch par rows []){y g:Int}(hg:0<g)(hy:aE w y=g):∃r∈rows g,r=y∨aN w r y=true:=by
 obtain⟨r,h1,h2,h3⟩:=f.pr.root (ap w) (n:=w.cs.length) (fun x h=>uV x h) _ (aoB _) (x:=y) (by omega)
 rcases f.Eh r (by omega) h2 with h|h
 ·rw[h1,hy]at h
  exact⟨r,h,h3⟩
 ·cases h
theorem BC{n:Nat}{H:Hp}{S:Nat→Prop}{w:Nw}(h:gh n H S w)(g:Int):af Tryz.prog lE [ptr n,i64 g] H fun v H'=>ar (
  (w.len g=0∧v= .tuple [i64 0,.bool false].toArray∧gh n H' S w∧ag S H H')∨(∃x,w.first g x∧v= .tuple [i64 x,.bool true].toArray∧gh n H' S w∧ag S H H')):=by
 obtain⟨B,ro,C,l,V,ch,par,kb,eF,rows,rb,rfl,m,f,hl,hS⟩:=id h
 have wY:=m.cells.Er
 refine aZ wC ?_
 refine vs ?_
 refine(Kh m f hl g).mono ?_
 rintro _ H' ⟨⟨o,s,hso⟩,e⟩
 obtain rfl:=e.symm
 obtain⟨va,vc,rfl⟩:=Sl.shape s
 refine vs ?_
 refine ai.dec (fun h0=>?_) (fun h0=>?_)<;>refine vs ?_
 ·refine .inl ⟨?_,rfl,h,ag.refl _ _⟩
  have hr:rows g=[]:=ao4.1 (by omega)
  by_cases hg:0<g
  ·rw[uE hg]
   intro x hx
   obtain⟨r,zx,_⟩:=f.root hg hx
   rw[hr]at zx
   cases zx
  ·exact Nw.HQ.2 (.inl (by omega))
 obtain⟨x,R,hr⟩:∃x R,rows g=x::R:=apN (fun e=>h0 (by rw[e];rfl))
 have T4:∀c∈rows g,aE w c=g∧0<g:=fun c hc=>by
  obtain⟨h1,_,h2,_⟩:=f.rm g c hc
  exact⟨h1,h2⟩
 have SR:=(T4 x (by rw[hr];simp)).2
 rw[hr]at s T4
 have hlr:(rows g).length=(x::R).length:=by rw[hr]
 rw[hlr]
 have jx:(x::R).length=R.length+1:=aoI
 have hsB:=s
 have aR:=bU (f.rr g).nodup fun c hc=>uV (w:=w) c (by have:=T4 c (by rw[←hr];exact hc);omega)
 rw[hr]at aR
 obtain⟨b,lb,c,IL,rfl,qb,qc,_,Dt,_⟩:=Sl.Vo s (i:=0) (x:=x) rfl
 injection IL with h1 h2 h3
 subst h1 h3
 have fw:=ae qb
 obtain⟨_,Wd,c',et,q2,G0,Rc,TX⟩:=id s
 injection et with _ _ et
 subst et
 rw[qb]at q2
 injection q2 with q2
 subst q2
 rw[aos]at Rc TX
 refine⟨⟨by omega,by omega⟩,?_⟩
 refine v5 fw qc Int.toNat_zero ao6 Nat.add_zero ?_
 refine⟨⟨by omega,by omega,by omega,by omega⟩,?_⟩
 refine vs ?_
 have vz:=m.Tw hl ((m.cells.hm x).2 (by have:=T4 x (by simp);omega)).1
 rw[(T4 x (by simp)).1]at vz
 have hrB:E7 H ro H.size (.slice (some ⟨b,0,none⟩) (x::R).length vc) (x::R):=Sl.rdB s hso
 obtain⟨a',hv,_,_,_⟩:=SC s.rd (lo:=1) (hi:=R.length+1) (lo':=1) (hi':=((R.length+1:Nat):Int)) rfl rfl (by omega) (by omega) (by omega)
 have hB:E7 H ro H.size (.slice a' R.length (vc - 1)) R:=by
  rw[show R.length=R.length+1 - 1 by omega,←hv]
  exact hrB.tail _
 rw[hv,show((R.length+1:Nat):Int).toNat - Int.toNat 1=R.length by simp,aql]
 refine aS.intro (fun mm env H'=>∃ (j:Nat) (bO:Int),mm=R.length - j∧j≤R.length∧CQ H' B.c C w∧ag C H H'∧bO∈x::R.take j∧(∀c∈x::R.take j,c≠bO→aN w bO c=true)∧
  env=[(0,ptr B.n),(7,i64 bO),(20,.slice a' R.length (vc - 1)),(21,i64 R.length),(22,i64 j)]) R.length ⟨0,x,rfl,by omega,m.cells,ag.refl _ _,by simp,by simp,rfl⟩ ?_
 rintro mm env H1 ⟨j,bO,rfl,hj,c1,e1,FU,qv,rfl⟩
 have m1:=m.aH c1 e1 rfl
 obtain⟨CW,o1,_⟩:=m1.own
 refine vs ?_
 refine ai.dec (fun aK=>?_) (fun aK=>?_)<;>refine vs ?_
 ·have gf:j<R.length:=by omega
  obtain⟨y,hy⟩:∃y,R[j]? =some y:=⟨_,aop gf⟩
  have hB1:=hB.ext e1 (fun z _ hk hc=>hk (.inr (m.hC z hc))) (ro':=ro) (fun _ _ h=>h)
  obtain⟨_,b2,o2,lb2,rfl,q2,q3⟩:=cK.num hB1.rd hy
  refine⟨⟨by omega,by omega⟩,?_⟩
  refine v5 q2 aos Int.toNat_natCast q3 (ae o1) ?_
  refine(cE c1 y bO).mono ?_
  rintro _ H2 ⟨rfl,c2,e2⟩
  have hym:y∈x::R:=apd _ (aow hy)
  have BW:bO∈x::R:=by
   rcases apa.1 FU with h|h
   ·rw[h];simp
   ·exact apd _ (List.mem_of_mem_take h)
  have vF:=T4 y hym
  have hbb:=T4 bO BW
  rw[gD (w:=w) (a:=y) (b:=bO) (by omega) (by omega)]
  have tk:R.take (j+1)=R.take j++[y]:=by rw[aoM,hy];rfl
  cases hyb:aN w y bO
  ·refine vs ?_
   rw[wrap64 (n:=(j:Int)+1) (by omega) (by omega)]
   refine⟨R.length - (j+1),by omega,j+1,bO,rfl,by omega,c2,e1.trans e2,?_,fun c hc aQ=>?_,rfl⟩
   ·rw[tk,←apL];exact ape _ FU
   ·rw[tk,←apL]at hc
    rcases aoL.1 hc with hc|hc
    ·exact qv c hc aQ
    ·rw[aoH.1 hc]at aQ ⊢
     exact((ap w).OQ bO y (Ne.symm aQ)).resolve_right (by rw[hyb];simp)
  ·refine vs ?_
   rw[wrap64 (n:=(j:Int)+1) (by omega) (by omega)]
   refine⟨R.length - (j+1),by omega,j+1,y,rfl,by omega,c2,e1.trans e2,?_,fun c hc aQ=>?_,rfl⟩
   ·rw[tk];simp
   ·rw[tk,←apL]at hc
    rcases aoL.1 hc with hc|hc
    ·by_cases e:c=bO
     ·rw[e];exact hyb
     ·exact(ap w).tr _ _ _ hyb (qv c hc e)
    ·exact absurd (aoH.1 hc) aQ
 ·obtain rfl:j=R.length:=by omega
  rw[aoQ]at FU qv
  refine .inr ⟨bO,?_,rfl,⟨B,ro,C,l,V,ch,par,kb,eF,rows,rb,rfl,m1,f,hl,hS⟩,e1.mono fun z _ hz=>(hS z).2 (fi (m.hC z hz) nofun)⟩
  rw[bH]
  refine⟨SR,(T4 bO FU).1,fun y hy aQ=>?_⟩
  obtain⟨r,G5,zx⟩:=f.root SR hy
  rw[hr]at G5
  by_cases e:r=bO
  ·rw[e]at zx
   exact zx.resolve_left (fun e2=>aQ e2.symm)
  ·have h5:=qv r G5 e
   rcases zx with h6|h6
   ·rw[←h6];exact h5
   ·exact(ap w).tr _ _ _ h5 h6
end
end Go.Proofs.YthpjfeolagohkaaGreat

namespace Go.Proofs.YthpjfeolagohkaaGreat
open Go Go.Vc
section
variable {H H' : Hp} {ro ro' : Nat → Rl} {B : Z5} {C T : Nat → Prop} {w w' : Nw} {l l' : List Value} {V V' : Int → Value} {ch dA : Int → List Int} {par bm : Int → Int} {kb qa : Int → Option Nat} {eF : List Value} {rows : Int → List Int} {rb : Int → Option Nat} {lt : Int → Int → Bool} {W W0 L : List Int}
theorem EP{n:Nat}{H:Hp}{S:Nat→Prop}{w:Nw}(h:gh n H S w)(g x k s:Int):af Tryz.prog iC [ptr n,i64 g,i64 x,tu k s] H fun v H'=>ar (
  (¬w.lq g x∧v= .bool false∧cA (gh n) S H H' w)∨(w.lq g x∧v= .bool true∧cA (gh n) S H H' (w.put x (g,k,s)))):=by
 obtain⟨B,ro,C,l,V,ch,par,kb,eF,rows,rb,rfl,m,f,hl,hS⟩:=h
 have hC:∀z,C z→S z:=fun z h=>(hS z).2 (fi (m.hC z h) nofun)
 refine aZ qR ?_
 refine vs ?_
 have f0:am H (H.new 182 [i64 k,u64 s]):=(ag.refl _ _).new _ _
 have b0:(H.new 182 [i64 k,u64 s]).own H.size=some [i64 k,u64 s]:=aD _ _ _
 have m0:=m.fresh f0
 generalize H.new 182 [i64 k,u64 s]=H0 at*
 have ff:ag S H H0:=f0.mono fun _ _ h=>h.elim
 obtain⟨tv,IY,_⟩:=m0.own
 refine v2 (ae IY) (ae b0) ?_
 refine(kI m0.cells g x k s).mono ?_
 rintro _ H1 (⟨bS,rfl,c1,e1⟩| ⟨qf,rfl,c1,e1⟩)
 ·refine vs ?_
  exact .inl ⟨bS,rfl,cA.same ⟨B,ro,C,l,V,ch,par,kb,eF,rows,rb,rfl,m0.aH c1 e1 rfl,f,hl,hS⟩ (ff.trans (e1.mono fun z _ hz=>hC z hz))⟩
 obtain⟨hh,hx,bE⟩:=id qf
 have m1:=m0.aH c1 e1 (by simp[Nw.put])
 have hg:=hh.1
 have dq:=m.Tw hl hh
 have cG:=fun y=>ed hx (g,k,s) y
 have fL:aE w x≤0:=Int.not_lt.1 fun h=>bE (bC.1 h)
 have el:∀a b,0<aE w a→0<aE w b→a≠x→b≠x→aN (w.put x (g,k,s)) a b=aN w a b:=fun a b ha hb qA lV=>dC hx _ ha hb qA lV
 obtain⟨f1,_⟩:=f.put (hm':=aE (w.put x (g,k,s))) (lt':=aN (w.put x (g,k,s))) (g:=g) rfl fL (by omega) (by omega) (by rw[cG,if_pos rfl]) (fun y hy=>by rw[cG,if_neg hy]) el
 refine vs ?_
 have f2:am H1 (H1.new 3 [i64 x]):=(ag.refl _ _).new _ _
 have m2:=m1.fresh f2
 have s2:Sl (H1.new 3 [i64 x]) 1 (.slice (some ⟨H1.size,0,none⟩) 1 1) [x].length ([x].map i64) (some H1.size):=Sl.cB (size:=1) (n:=1) (xs:=[i64 x]) rfl rfl
 have z2:(H1.new 3 [i64 x]).size=H1.size+1:=aq _ _ _
 have T6:E7 (H1.new 3 [i64 x]) ro (H1.new 3 [i64 x]).size (.slice (some ⟨H1.size,0,none⟩) 1 1) [x]:=Sl.rdB s2 fun b hb=>by
  injection hb with hb
  subst hb
  refine⟨by omega,fun hc=>?_⟩
  have:=m1.hz H1.size (aoB _)
  rcases hc with (hc| ⟨x,hc⟩)|hc<;>(rw[this]at hc;cases hc)
 generalize H1.new 3 [i64 x]=H2 at*
 refine(BB m2 T6 (fun _ _ h=>h) (W0:=[]) f1 (List.pairwise_singleton _ _) (fun c hc=>by rw[aoH.1 hc,cG,if_pos rfl]) dq).mono ?_
 rintro _ H3 ⟨QT,l3,V3,ML,oT,YO,ahf,BD,rb3,m3,f3,Pp,_,Xh,e3⟩
 refine vs ?_
 have eS:ag S H H2:=(ff.trans (e1.mono fun z _ h=>hC z h)).trans (f2.mono fun _ _ h=>h.elim)
 have z1:=eS.size
 refine .inr ⟨qf,rfl,dh QT,⟨B,QT,C,l3,V3,ML,oT,YO,ahf,BD,rb3,rfl,m3,f3,by rw[Pp,hl];rfl,fun z=>Iff.rfl⟩,eS.trans (e3.mono fun z _ h=>(hS z).2 h),fun z hz=>?_⟩
 rcases Xh z hz with h|h
 ·exact .inl ((hS z).2 h)
 ·exact .inr (by omega)
theorem it.Vr{hm:Int→Int}(f:it hm lt ch par rows W)(x:Int):E4 ch (ch x):=by
 unfold E4
 rw[apl]
 intro i j hi hj Hd
 rw[f.dg x i _ (aop hi),f.dg x j _ (aop hj)]
 exact Hd
theorem it.Vs{hm:Int→Int}(f:it hm lt ch par rows []){x g:Int}(hx:x∈rows g):it hm lt ch par (ax rows g ((rows g).filter fun y=> !decide (x=y))) [x]:=by
 have hn:=(f.rr g).nodup
 have hp:(rows g++[]).Perm (((rows g).filter fun y=> !decide (x=y))++[x]):=by
  rw[ao3]
  refine(List.perm_ext_iff_of_nodup hn ?_).2 fun y=>?_
  ·rw[aph]
   refine⟨hn.filter _,by simp,fun u hu v hv e=>?_⟩
   rw[ap3]at hu
   rw[aoH.1 hv]at e
   simp[e]at hu
  ·rw[aoL,ap3,aoH]
   by_cases h:x=y
   ·simp[←h,hx]
   ·simp[h,Ne.symm h]
 have f2:=((f.loose g).perm hp).row (g:=g) (by unfold ax;rw[if_pos rfl]) ((f.rr g).sub List.filter_sublist) (fun c hc=>(f.rm g c (ap3.1 hc).1).1)
 rwa[eD]at f2
theorem EQ{H:Hp}{bx:Nat}{x:Int}(hb:H.own bx=some [i64 x])(y:Int):af Tryz.prog iD [i64 y,ptr bx] H fun v H'=>ar (v= .bool (decide (x=y))∧H'=H):=by
 refine vr mixed (an:=qT) (by conv=>lhs;cbv) (nt:=7) (by kernel_rfl) (by simp) ?_
 refine v1 (ae hb) ?_
 exact⟨rfl,rfl⟩
theorem Ip(m:tB H ro B C w l V ch par kb eF rows rb)(aK:∀a b,aN w a b=true→lt a b=true)(f:it (aE w) lt ch par rows []){x g:Int}(uN:x∈rows g)(vz:0≤g∧g<eF.length)(acS:∀a b,0<aE w a→0<aE w b→a≠x→b≠x→lt a b=true→aN (w.put x (0,0,0)) a b=true):
  af Tryz.prog tW [ptr B.n,i64 g,i64 x] H fun v H'=>ar (v= .bool true∧∃ro' l' V' dA bm qa Io jz YP,tB H' ro' B C (w.put x (0,0,0)) l' V' dA bm qa Io jz YP∧it (aE (w.put x (0,0,0))) (aN (w.put x (0,0,0))) dA bm jz []∧Io.length=eF.length∧
   (∀z,dh ro' z→dh ro z∨H.size≤z)∧ag (dh ro) H H'):=by
 obtain⟨OZ,KG,SR,_⟩:=f.rm g x uN
 have fL:=uV (w:=w) x (by omega)
 have wY:=m.cells.Er
 have aR:=bU (f.rr g).nodup fun c hc=>uV (w:=w) c (by have:=f.rm g c hc;omega)
 refine Kw uh ⟨rfl,?_⟩
 refine v1 kj.eq_1 ?_
 have f0:am H (H.new 3 [i64 x]):=(ag.refl _ _).new _ _
 have b0:(H.new 3 [i64 x]).own H.size=some [i64 x]:=aD _ _ _
 have z0:(H.new 3 [i64 x]).size=H.size+1:=aq _ _ _
 have m0:=m.fresh f0
 generalize H.new 3 [i64 x]=H0 at*
 obtain⟨lb,tc,sv,o1,q1,q2,Dt,_,s2⟩:=m0.Mp vz
 obtain⟨va,vc,rfl⟩:=Sl.shape s2
 refine oC.intro (fun H'=>H'.own B.n=some [ptr B.c,ptr B.fb,.slice (some ⟨B.rp,0,none⟩) eF.length tc]) o1 ?_
 refine vs ?_
 refine oB.intro (.slice (some ⟨B.rp,0,none⟩) eF.length tc) (fun H' hI=>by refine v1 (ae hI) ?_;trivial) ?_
 refine v1 (ae o1) ?_
 refine And.intro o1 ?_
 refine vs ?_
 refine⟨⟨by omega,by omega⟩,?_⟩
 refine v4 (ae q1) aor aos q2 ?_
 refine And.intro o1 ?_
 refine vs ?_
 have QU:∀b,rb g=some b→ro b= .row g:=fun b hb=>m.mz g b vz.1 vz.2 hb
 refine(CY s2 iD [ptr H.size] (fun y=>decide (x=y)) (by kernel_rfl) (fun H' e' y=>EQ (e'.own b0 (fun hh=>by have:=m.slt _ (fi (QU _ hh) nofun);omega)) y) (by omega)).mono ?_
 rintro _ H1 ⟨s3,e1⟩
 obtain⟨va',vc',rfl⟩:=Sl.shape s3
 have acT:∀z q,ro z=q→q≠ .row g→¬rb g=some z:=fun z q h1 h2 h3=>h2 (by rw[←h1,QU z h3])
 have o2:=e1.own o1 (acT _ _ m.rn nofun)
 have q3:=e1.own q1 (acT _ _ m.rr nofun)
 refine And.intro o2 ?_
 refine vs ?_
 refine⟨⟨by omega,by omega⟩,?_⟩
 refine v3 q3 aor aos ?_
 refine⟨by omega,?_⟩
 obtain⟨m2,e2,zx⟩:=m0.Wz vz e1 q3 s3 (fun b hb=>.inr (QU b hb))
 have hnr:B.n≠B.rp:=fun e=>by have:=m.rn;rw[e,m.rr]at this;cases this
 refine vs ?_
 refine And.intro o2 ?_
 have YQ:¬dh ro H.size:=fun h=>by have:=m.slt _ h;omega
 have b2:=e2.own b0 YQ
 have z2:=e2.size
 have f2:=f.Vs uN
 generalize H1.wr B.rp (lb.set g.toNat (Value.slice va' ((rows g).filter fun y=> !decide (x=y)).length vc'))=H2 at*
 obtain⟨nP,ahg⟩:∃nP:Nat→Rl,nP=fun z=>if rb g=some z then Rl.row g else ro z:=⟨_,rfl⟩
 rw[←ahg]at m2 zx
 have YR:∀z,dh nP z→dh ro z:=fun z hz=>(zx z hz).elim id fun h=>fi (QU z h) nofun
 obtain⟨NR,o3,_⟩:=m2.own
 refine v2 (ae o3) (ae b2) ?_
 have tD:(ch x).length≤w.cs.length:=bU (f.pr.nd x) fun c hc=>m.fo.G2 x c hc
 refine(Dh m2.fo m2.hz fL KG (by omega)).mono ?_
 rintro sv H3 ⟨QT,l3,V3,YO,fp3,fo3,r3,X9,e3,s4,fU⟩
 have z3:=e3.size
 have m3:=m2.Tv fo3 (m2.cells.ext e3 (fun z hz hk=>by
  have:=m2.hC z hz
  rcases hk with hk| ⟨_,hk⟩<;>(rw[this]at hk;cases hk))) r3 X9 (e3.mono fun z _ h=>.inl h)
 have f3:=f2.split.perm (show(x::(ch x++[])).Perm (ch x++[x]) by
  rw[ao3]
  exact apZ (l₁:=[x]) (l₂:=ch x))
 have ET:x∉ch x:=fun h=>by have:=f.less h;omega
 have T6:E7 H3 QT H3.size sv (ch x):=Sl.rdB s4 fun b hb=>by
  rw[hb]at s4
  refine⟨Sl.lt s4,fun hc=>?_⟩
  have:=(fU b hb).2
  rcases hc with (hc| ⟨x,hc⟩)|hc<;>(rw[this]at hc;cases hc)
 have ahh:0≤g∧g< ((eF.set g.toNat (Value.slice va' ((rows g).filter fun y=> !decide (x=y)).length vc')).length:Int):=by rw[aot];exact vz
 refine(BB m3 T6 aK f3 ((f.Vr x).frame fun c hc=>by unfold ax;rw[if_neg (fun e=>ET (by have h7:=hc;rw[e]at h7;exact h7))]) (fun c hc=>by
  have:=(f.pr.dn x c hc).2.2.1
  omega) ahh).mono ?_
 rintro _ H4 ⟨ro4,l4,V4,Vl,J8,kb4,ahj,acU,rb4,m4,f4,Yt,w4,hr4,e4⟩
 have YS:∀z,dh QT z→dh ro z∨H.size+1≤z:=fun z hz=>by
  by_cases OG:z<H2.size
  ·refine .inl (YR z fun h=>hz ?_)
   exact r3.none OG h
  ·exact .inr (by omega)
 have Q9:¬dh QT H.size:=fun h=>by
  rcases YS _ h with h|h
  ·exact YQ h
  ·omega
 have ahk:¬KB nP H.size:=fun h=>YQ (YR _ (by rcases h with h| ⟨_,h⟩<;>exact fi h nofun))
 have b4:=e4.own (e3.own b2 ahk) Q9
 obtain⟨tv4,o5,_⟩:=m4.own
 refine v2 (ae o5) (ae b4) ?_
 refine(bY m4.cells x).mono ?_
 have bE:cU w.cs x:=bC.1 (by omega)
 rintro _ H5 (⟨bS,_,_⟩| ⟨_,rfl,c5,e5⟩)
 ·exact absurd bE bS
 have m5:=m4.aH c5 e5 (by simp[Nw.put])
 refine vs ?_
 have cG:=fun y=>ed (w:=w) fL (0,0,0) y
 have f5:=f4.drop (hm':=aE (w.put x (0,0,0))) (lt':=aN (w.put x (0,0,0))) (by
  rw[w4 x (by simp)]
  unfold ax
  rw[if_pos rfl]) rfl (by rw[cG,if_pos rfl]) (fun y hy=>by rw[cG,if_neg hy]) acS
 have z4:=e4.size
 have acV:∀z,dh ro4 z→dh ro z∨H.size+1≤z:=fun z hz=>by
  rcases hr4 z hz with h|h
  ·exact YS z h
  ·exact .inr (by omega)
 refine⟨rfl,ro4,l4,V4,Vl,J8,kb4,ahj,acU,rb4,m5,f5,by rw[Yt,aot],fun z hz=>?_,?_⟩
 ·rcases acV z hz with h|h
  ·exact .inl h
  ·exact .inr (by omega)
 ·refine⟨by have:=e5.size;omega,fun z hz hn=>?_⟩
  rw[e5.aG z (by omega) (fun h=>by
   rcases acV z (fi (m4.hC z h) nofun)with h|h
   ·exact hn h
   ·omega),e4.aG z (by omega) (fun h=>by
   rcases YS z h with h|h
   ·exact hn h
   ·omega),e3.aG z (by omega) (fun h=>hn (YR z (by rcases h with h| ⟨_,h⟩<;>exact fi h nofun))),e2.aG z (by omega) (fun h=>hn h),f0.aG z hz (fun h=>h)]
theorem Dm{n:Nat}{H:Hp}{S:Nat→Prop}{w:Nw}(h:gh n H S w)(g:Int):af Tryz.prog hG [ptr n,i64 g] H fun v H'=>ar (
  (w.len g=0∧v= .tuple [i64 0,.bool false].toArray∧cA (gh n) S H H' w)∨(∃x,w.first g x∧v= .tuple [i64 x,.bool true].toArray∧cA (gh n) S H H' (w.put x (0,0,0)))):=by
 refine aZ pJ ?_
 refine vs ?_
 refine(BC h g).mono ?_
 rintro _ H1 (⟨h0,rfl,h1,e1⟩| ⟨x,hx,rfl,h1,e1⟩)
 ·refine vs ?_
  exact .inl ⟨h0,rfl,cA.same h1 e1⟩
 refine vs ?_
 obtain⟨B,ro,C,l,V,ch,par,kb,eF,rows,rb,rfl,m,f,hl,hS⟩:=h1
 obtain⟨hg,OZ,nL⟩:=bH.1 hx
 have uN:x∈rows g:=by
  obtain⟨r,G5,zx⟩:=f.root hg OZ
  rcases zx with h|h
  ·rw[←h];exact G5
  ·by_cases e:r=x
   ·rw[←e];exact G5
   ·have h2:=nL r (f.rm g r G5).1 e
    rw[(ap w).asym h2]at h
    cases h
 have fL:=uV (w:=w) x (by omega)
 have vz:=m.Tw hl ((m.cells.hm x).2 (by omega)).1
 rw[OZ]at vz
 refine(Ip m (fun _ _ h=>h) f uN vz (fun a b ha hb qA lV h=>by rw[dC fL _ ha hb qA lV];exact h)).mono ?_
 rintro _ H2 ⟨rfl,nP,l2,V2,kU,iW,DL,ahl,I4,rb2,m2,f2,sE,zx,e2⟩
 refine vs ?_
 have z1:=e1.size
 refine .inr ⟨x,hx,rfl,dh nP,⟨B,nP,C,l2,V2,kU,iW,DL,ahl,I4,rb2,rfl,m2,f2,by rw[sE,hl];rfl,fun z=>Iff.rfl⟩,e1.trans (e2.mono fun z _ h=>(hS z).2 h),fun z hz=>?_⟩
 rcases zx z hz with h|h
 ·exact .inl ((hS z).2 h)
 ·exact .inr (by omega)
end
end Go.Proofs.YthpjfeolagohkaaGreat

namespace Go.Proofs.YthpjfeolagohkaaGreat
open Go Go.Vc
section
variable {H H' : Hp} {ro ro' : Nat → Rl} {B : Z5} {C T : Nat → Prop} {w w' : Nw} {l l' : List Value} {V V' : Int → Value} {ch dA : Int → List Int} {par bm : Int → Int} {kb qa : Int → Option Nat} {eF : List Value} {rows : Int → List Int} {rb : Int → Option Nat} {lt : Int → Int → Bool} {W W0 L : List Int}
theorem tB.acW(m:tB H ro B C w l V ch par kb eF rows rb){g:Int}(hg:0≤g∧g<eF.length){H1:Hp}(e:ag (fun z=>rb g=some z) H H1){sv:Value}(IL:eF[g.toNat]? =some sv){L':List Int}(s:Sl H1 1 sv L'.length (L'.map i64) (rb g)):
  tB H1 ro B C w l V ch par kb eF (ax rows g L') rb:=by
 obtain⟨tv,h1,h2⟩:=m.own
 have hs:=e.size
 have n0:∀z q,ro z=q→q≠ .row g→¬rb g=some z:=fun z q h1 h2 h3=>h2 (by rw[←h1,m.mz g z hg.1 hg.2 h3])
 refine⟨⟨tv,e.own h1 (n0 _ _ m.rn nofun),h2.ext e (fun b hb=>by injection hb with hb;subst hb;exact n0 _ _ m.rr nofun)⟩,fun k h0 h1=>?_,m.cells.ext e (fun z hz=>n0 z _ (m.hC z hz) nofun),m.fo.ext e (fun z hz=>by rcases hz with h|h| ⟨x,h⟩<;>exact n0 z _ h nofun),m.hC,m.rn,m.rr,m.mz,fun z hz=>m.hz z (by omega)⟩
 by_cases hk:k=g
 ·subst hk
  refine⟨sv,IL,?_⟩
  unfold ax
  rw[if_pos rfl]
  exact s
 ·obtain⟨sv',q1,q2⟩:=m.row k h0 h1
  refine⟨sv',q1,?_⟩
  unfold ax
  rw[if_neg hk]
  exact q2.ext e (fun b hb=>n0 b _ (m.mz k b h0 h1 hb) (fun e=>hk (by injection e)))
theorem Iq(m:tB H ro B C w l V ch par kb eF rows rb){x g:Int}(f:MK (aE w) (aN w) ch par rows [] x)(OZ:aE w x=g)(SR:0<g)(vz:0≤g∧g<eF.length)(fid:FuncId)(pY:List Value)(q:Int→Bool)(J:Hp→Prop)(E:(Int→List Int)→Prop)(hJ:J H)
  (ma:∀H' Dx,J H'→ag (fun z=>dh ro z∧z≠B.n) H' Dx→J Dx)(vG:dv Tryz.prog fid=true)
  (hq:∀H' p,J H'→CQ H' B.c C w→0<aE w p→af Tryz.prog fid (i64 p::pY) H' fun v Dx=>ar (v= .bool (q p)∧CQ Dx B.c C w∧ag C H' Dx))(hE:E ch)
  (hEs:∀ (ch:Int→List Int) (par:Int→Int) (rows:Int→List Int) p,MK (aE w) (aN w) ch par rows [] x→x∈ch p→q p=true→E ch→E (Ge ch x p)):
  af Tryz.prog tV [ptr B.n,i64 g,i64 x,.func (.func fid) #[] pY.toArray] H fun v H'=>ar (∃ro' l' V' dA bm qa jz,tB H' ro' B C w l' V' dA bm qa eF jz rb∧MK (aE w) (aN w) dA bm jz [] x∧E dA∧(bm x= -1∨q (bm x)=false)∧
   (∀z,dh ro' z→dh ro z)∧ag (dh ro) H H'):=by
 have ls:=ap w
 have fL:=uV (w:=w) x (by omega)
 have wY:=m.cells.Er
 refine aZ ug ?_
 refine vs ?_
 refine aS.intro (fun mm env H'=>∃ (ro':Nat→Rl) (l':List Value) (V':Int→Value) (dA:Int→List Int) (bm:Int→Int) (qa:Int→Option Nat) (jz:Int→List Int),mm=w.cs.length - (dA x).length∧tB H' ro' B C w l' V' dA bm qa eF jz rb∧MK (aE w) (aN w) dA bm jz [] x∧E dA∧J H'∧
  (∀z,dh ro' z→dh ro z)∧ag (dh ro) H H'∧env=[(0,ptr B.n),(1,i64 g),(2,i64 x),(3,.func (.func fid) #[] pY.toArray)]) _ ⟨ro,l,V,ch,par,kb,rows,rfl,m,f,hE,hJ,fun _ h=>h,ag.refl _ _,rfl⟩ ?_
 clear m f hE hJ
 rintro mm env H1 ⟨YG,l1,V1,Pa,xe,Z1,om,rfl,m1,f1,hE1,hJ1,G5,e1,rfl⟩
 obtain⟨CW,o1,_⟩:=m1.own
 refine v1 (ae o1) ?_
 refine(oP m1.fo.t fL).mono ?_
 rintro _ H' ⟨⟨hp,rfl⟩| ⟨hp,rfl⟩,e⟩
 ·obtain rfl:=e.symm
  refine vs ?_
  exact⟨YG,l1,V1,Pa,xe,Z1,om,m1,f1,hE1,.inl hp,G5,e1⟩
 obtain rfl:=e.symm
 obtain⟨p,hpd⟩:∃p,p=xe x:=⟨_,rfl⟩
 rw[←hpd]at hp ⊢
 have KG:=f1.w.pr.up x p hpd.symm hp
 obtain⟨_,_,V5,HH,_⟩:=f1.w.pr.dn p x KG
 have fz:=f1.w.less KG
 have hp0:=uV (w:=w) p (by omega)
 have aR:∀z,(Pa z).length≤w.cs.length:=fun z=>bU (f1.w.pr.nd z) fun c hc=>m1.fo.G2 z c hc
 refine vs ?_
 refine⟨vG,?_⟩
 refine af.mono (by simpa using hq H1 p hJ1 m1.cells (by omega)) ?_
 rintro _ H2 ⟨rfl,c2,e2⟩
 have m2:=m1.aH c2 e2 rfl
 have e2':ag (dh ro) H1 H2:=e2.mono fun z _ h=>G5 z (fi (m1.hC z h) nofun)
 have hJ2:=ma _ _ hJ1 (e2.mono fun z _ h=>⟨G5 z (fi (m1.hC z h) nofun),fun e=>by have:=m1.hC z h;rw[e,m1.rn]at this;cases this⟩)
 have oZ:=e1.trans e2'
 cases hqp:q p
 ·refine vs ?_
  exact⟨YG,l1,V1,Pa,xe,Z1,om,m2,f1,hE1,.inr (by rw[←hpd];exact hqp),G5,oZ⟩
 obtain⟨NR,o2,_⟩:=m2.own
 refine v1 (ae o2) ?_
 refine(oP m2.fo.t hp0).mono ?_
 have YT:∀h,x∉om h:=fun h hh=>hp (by rw[hpd];exact(f1.w.rm h x hh).2.1)
 have SX:xe p≠ -1→0≤xe p∧xe p<w.cs.length:=fun h=>by
  have:=(f1.w.pr.dn _ _ (f1.w.pr.up p _ rfl h)).2.2
  exact uV (w:=w) _ (by omega)
 have fin:∀ (H3:Hp) (BD:Int→List Int),tB H3 YG B C w l1 V1 Pa xe Z1 eF BD rb→(∀h,BD h=(om h).map (gu x p))→J H3→ag (dh ro) H H3→∀ (K:Value→Hp→Prop),(∀H4,(∃m',m'<w.cs.length - (Pa x).length∧∃ (ro':Nat→Rl) (l':List Value) (V':Int→Value) (dA:Int→List Int) (bm:Int→Int) (qa:Int→Option Nat) (jz:Int→List Int),m'=w.cs.length - (dA x).length∧tB H4 ro' B C w l' V' dA bm qa eF jz rb∧MK (aE w) (aN w) dA bm jz [] x∧E dA∧J H4∧
  (∀z,dh ro' z→dh ro z)∧ag (dh ro) H H4)→K (.bool true) H4)→af Tryz.prog lG [ptr B.fb,i64 x] H3 K:=fun H3 BD m3 IN hJ3 e3 K hK=>by
  refine(EM m3.fo m3.hz f1.w fL hp0 KG SX wY).mono ?_
  rintro _ H4 ⟨rfl,ro4,l4,V4,kb4,fo4,r4,hz4,e4,ahn⟩
  have m4:=m3.Tv fo4 (m3.cells.ext e4 (fun z hz hk=>by
   have:=m3.hC z hz
   rcases hk with hk| ⟨_,hk⟩<;>(rw[this]at hk;cases hk))) r4 hz4 (e4.mono fun z _ h=>.inl h)
  have e4':ag (dh ro) H3 H4:=e4.mono fun z _ h=>G5 z (by rcases h with h| ⟨_,h⟩<;>exact fi h nofun)
  have f4:=f1.up ls KG
  have YU:(fun h=>(om h).map (gu x p))=BD:=by funext h;exact(IN h).symm
  rw[YU,List.map_nil]at f4
  have Yt:(Ge Pa x p x).length=(Pa p).length:=by unfold Ge;rw[nu,aoA]
  have:=aR p
  have amf:=e4.size
  refine hK H4 ⟨w.cs.length - (Ge Pa x p x).length,by omega,ro4,l4,V4,_,_,kb4,BD,rfl,m4,f4,hEs _ _ _ p f1 KG hqp hE1,ma _ _ hJ3 (e4.mono fun z _ h=>⟨G5 z (by rcases h with h| ⟨_,h⟩<;>exact fi h nofun),fun e=>by rw[e]at h;rcases h with h| ⟨_,h⟩<;>(rw[m3.rn]at h;cases h)⟩),fun z hz=>?_,e3.trans e4'⟩
  exact G5 z fun h=>hz (ahn z h)
 rintro _ H' ⟨⟨Qq,rfl⟩| ⟨Qq,rfl⟩,e⟩
 ·obtain rfl:=e.symm
  have hpr:p∈om g:=by
   rcases f1.w.Eh p (by omega) Qq with h|h
   ·rw[V5,OZ]at h;exact h
   ·cases h
  obtain⟨lb,tc,sv,o3,q1,q2,Dt,IL,s3⟩:=m2.Mp vz
  obtain⟨k0,hk0,ek0⟩:=aqh.1 hpr
  obtain⟨b,lr,rc,rfl,YL,qb,qk0,amg,UG,_⟩:=Sl.Vo s3 (i:=k0) (x:=p) (by rw[aop hk0,ek0])
  have hlr:=bU (f1.w.rr g).nodup fun c hc=>uV (w:=w) c (by have:=f1.w.rm g c hc;omega)
  refine v1 (ae o3) ?_
  refine⟨⟨by omega,by omega⟩,?_⟩
  refine v5 (ae q1) aor aos q2 (ae o3) ?_
  refine⟨⟨by omega,by omega⟩,?_⟩
  refine v4 (ae q1) aor aos q2 ?_
  have gU:=(f1.w.rr g).nodup
  have acX:(om g)[k0]? =some p:=by rw[aop hk0,ek0]
  refine⟨i64 (k0:Int),(fB s3.rd p (by omega)).mono ?_,?_⟩
  ·rintro _ H' ⟨⟨j,rfl,hj⟩,e⟩
   obtain⟨Z2,hj⟩:=hj.resolve_left (fun h=>h.2 hpr)
   have hjl:=(aoq.1 hj).1
   have:=(List.getElem?_inj hjl gU).1 (hj.trans acX.symm)
   exact⟨by rw[show j=(k0:Int) by omega],e⟩
  refine vs ?_
  refine⟨⟨by omega,by omega⟩,?_⟩
  refine v4 qb aor aos Int.toNat_natCast ?_
  refine⟨by omega,?_⟩
  rw[YL]at s3
  have s4:=s3.sI qb k0 (i64 x)
  have e3:ag (fun z=>rb g=some z) H2 (H2.wr b (lr.set k0 (i64 x))):=(ag.refl (fun z=>rb g=some z) _).wr (fun _=>YL) _
  have To:(om g).map (gu p x)=(om g).map (gu x p):=apu fun c _=>by
   unfold gu
   by_cases e1:c=x
   ·by_cases e2:c=p
    ·rw[if_pos e2,if_pos e1];exact e1▸e2▸rfl
    ·rw[if_neg e2,if_pos e1,if_pos e1]
   ·by_cases e2:c=p
    ·rw[if_pos e2,if_neg e1,if_pos e2]
    ·rw[if_neg e2,if_neg e1,if_neg e1,if_neg e2]
  rw[←ao9,Kf gU (YT g) acX,To]at s4
  have S8:((om g).map (gu x p)).length=(om g).length:=aoA ..
  have m3:=m2.acW vz e3 IL (L':=(om g).map (gu x p)) (by rw[YL,S8];exact s4)
  have ZH:ag (dh ro) H2 (H2.wr b (lr.set k0 (i64 x))):=e3.mono fun z _ h=>G5 z (fi (m2.mz g z vz.1 vz.2 h) nofun)
  obtain⟨XC,o4,_⟩:=m3.own
  refine v1 (ae o4) ?_
  refine fin _ _ m3 (fun h=>?_) (ma _ _ hJ2 (e3.mono fun z _ h=>⟨G5 z (fi (m2.mz g z vz.1 vz.2 h) nofun),fun e=>by have:=m2.mz g z vz.1 vz.2 h;rw[e,m2.rn]at this;cases this⟩)) (oZ.trans ZH) _ fun H4 hh=>?_
  ·unfold ax
   split
   ·rename_i e;rw[e]
   ·rename_i e
    exact(Bc (YT h) (fun hh=>e (by rw[← (f1.w.rm h p hh).1,V5,OZ]))).symm
  obtain⟨m',hm',ro',l',V',dA,bm,qa,jz,h1,h2,h3,h4,h5,h6,h7⟩:=hh
  refine vs ?_
  exact⟨m',hm',ro',l',V',dA,bm,qa,jz,h1,h2,h3,h4,h5,h6,h7,trivial⟩
 ·obtain rfl:=e.symm
  have aho:∀h,p∉om h:=fun h hh=>Qq (f1.w.rm h p hh).2.1
  refine v1 (ae o2) ?_
  refine fin H2 om m2 (fun h=>(Bc (YT h) (aho h)).symm) hJ2 oZ _ fun H4 hh=>?_
  obtain⟨m',hm',ro',l',V',dA,bm,qa,jz,h1,h2,h3,h4,h5,h6,h7⟩:=hh
  refine vs ?_
  exact⟨m',hm',ro',l',V',dA,bm,qa,jz,h1,h2,h3,h4,h5,h6,h7,trivial⟩
end
end Go.Proofs.YthpjfeolagohkaaGreat
