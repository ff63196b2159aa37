/- Texts put behind each other. -/
import Derived.Test.YtjlnnljohemifaaGreatK98
import Derived.Test.YtjlnnljohemifaaGreatK1
import Derived.Test.YtjlnnljohemifaaGreatK21
import Derived.Test.YtjlnnljohemifaaGreatK22
import Derived.Test.YtjlnnljohemifaaGreatK23
set_option linter.unusedVariables false
set_option linter.unusedSimpArgs false
namespace Go.Proofs.YtjlnnljohemifaaGreat
open Go Go.Vc
structure Y1 where
 n:Nat
 c:Nat
 fb:Nat
 tb:Nat
 rp:Nat
structure xJ(H:Hp)(ro:Nat→Rl)(B:Y1)(C:Nat→Prop)(w:Nw)(l:List Value)(V:Int→Value)(ch:Int→List Int)(par:Int→Int)(kb:Int→Option Nat)(fF:List Value)(rows:Int→List Int)(rb:Int→Option Nat):Prop where
 own:∃tv,H.own B.n=some [ptr B.c,ptr B.fb,tv]∧Sl H 1 tv fF.length fF (some B.rp)
 row:∀g:Int,0≤g→g<fF.length→∃sv,fF[g.toNat]? =some sv∧Sl H 1 sv (rows g).length ((rows g).map i64) (rb g)
 cells:CQ H B.c C w
 fo:ForM H ro B.fb B.tb w.cs.length l V ch par kb
 hC:∀z,C z→ro z= .cell
 rn:ro B.n= .Sa
 rr:ro B.rp= .LQ
 pQ:∀ (g:Int) b,0≤g→g<fF.length→rb g=some b→ro b= .row g
 hz:∀z,H.size≤z→ro z= .no
def dM(ro:Nat→Rl)(z:Nat):Prop:=ro z≠ .no
section
variable {H H' : Hp} {ro ro' : Nat → Rl} {B : Y1} {C T : Nat → Prop} {w w' : Nw} {l l' : List Value} {V V' : Int → Value} {ch dT : Int → List Int} {par bH : Int → Int} {kb vY : Int → Option Nat} {fF : List Value} {rows : Int → List Int} {rb : Int → Option Nat} {lt : Int → Int → Bool} {W W0 L : List Int}
theorem xJ.slt(m:xJ H ro B C w l V ch par kb fF rows rb):∀z,dM ro z→z<H.size:=fun z hz=>by
 apply amr
 intro h
 exact hz (m.hz z (by omega))
theorem gf{ro:Nat→Rl}{z:Nat}{r:Rl}(h:ro z=r)(hr:r≠ .no):dM ro z:=fun e=>hr (by rw[←h,e])
theorem xJ.ext(m:xJ H ro B C w l V ch par kb fF rows rb)(e:ai T H H')(hd:∀z,dM ro z→¬T z):xJ H' ro B C w l V ch par kb fF rows rb:=by
 obtain⟨tv,h1,h2⟩:=m.own
 have hs:=e.size
 refine⟨⟨tv,e.own h1 (hd _ (gf m.rn nofun)),h2.ext e (fun b hb=>by injection hb with hb;subst hb;exact hd _ (gf m.rr nofun))⟩,fun g h0 h1=>?_,m.cells.ext e (fun z hz=>hd z (gf (m.hC z hz) nofun)),m.fo.ext e (fun z hz=>?_),m.hC,m.rn,m.rr,m.pQ,fun z hz=>m.hz z (by omega)⟩
 ·obtain⟨sv,q1,q2⟩:=m.row g h0 h1
  exact⟨sv,q1,q2.ext e (fun b hb=>hd b (gf (m.pQ g b h0 h1 hb) nofun))⟩
 ·rcases hz with h|h| ⟨x,h⟩<;>exact hd z (gf h nofun)
theorem xJ.fresh(m:xJ H ro B C w l V ch par kb fF rows rb)(e:ax H H'):xJ H' ro B C w l V ch par kb fF rows rb:=m.ext e fun _ _ h=>h
theorem xJ.aK(m:xJ H ro B C w l V ch par kb fF rows rb)(c1:CQ H' B.c C w')(e:ai C H H')(hl:w'.cs.length=w.cs.length):xJ H' ro B C w' l V ch par kb fF rows rb:=by
 obtain⟨tv,h1,h2⟩:=m.own
 have hs:=e.size
 have hd:∀z r,ro z=r→r≠ .cell→¬C z:=fun z r h1 h2 hc=>h2 (by rw[←h1,m.hC z hc])
 refine⟨⟨tv,e.own h1 (hd _ _ m.rn nofun),h2.ext e (fun b hb=>by injection hb with hb;subst hb;exact hd _ _ m.rr nofun)⟩,fun g h0 h1=>?_,c1,?_,m.hC,m.rn,m.rr,m.pQ,fun z hz=>m.hz z (by omega)⟩
 ·obtain⟨sv,q1,q2⟩:=m.row g h0 h1
  exact⟨sv,q1,q2.ext e (fun b hb=>hd b _ (m.pQ g b h0 h1 hb) nofun)⟩
 ·rw[hl]
  refine m.fo.ext e (fun z hz=>?_)
  rcases hz with h|h| ⟨x,h⟩<;>exact hd z _ h nofun
theorem xJ.SR(m:xJ H ro B C w l V ch par kb fF rows rb)(f:ForM H' ro' B.fb B.tb w.cs.length l' V' dT bH vY)(c1:CQ H' B.c C w)(r:RK H.size ro ro')(hz:∀z,H'.size≤z→ro' z= .no)(e:ai (KC ro) H H'):xJ H' ro' B C w l' V' dT bH vY fF rows rb:=by
 obtain⟨tv,h1,h2⟩:=m.own
 have hd:∀z q,ro z=q→(∀x,q≠ .sH x)→q≠ .table→q≠ .cell→¬KC ro z:=fun z q h1 h2 h3 h4 hc=>by
  rcases hc with (hc| ⟨x,hc⟩)|hc
  ·exact h3 (by rw[←h1,hc])
  ·exact h2 x (by rw[←h1,hc])
  ·exact h4 (by rw[←h1,hc])
 have hk:∀z q,ro z=q→q≠ .no→(∀x,q≠ .sH x)→ro' z=q:=fun z q h1 h2 h3=>by
  rw[r.o z (m.slt z (gf h1 h2)) (fun x e=>h3 x (by rw[←h1,e])),h1]
 refine⟨⟨tv,e.own h1 (hd _ _ m.rn nofun nofun nofun),h2.ext e (fun b hb=>by injection hb with hb;subst hb;exact hd _ _ m.rr nofun nofun nofun)⟩,fun g h0 h1=>?_,c1,f,fun z hz=>hk z _ (m.hC z hz) nofun nofun,hk _ _ m.rn nofun nofun,hk _ _ m.rr nofun nofun,fun g b h0 h1 hb=>hk b _ (m.pQ g b h0 h1 hb) nofun nofun,hz⟩
 obtain⟨sv,q1,q2⟩:=m.row g h0 h1
 exact⟨sv,q1,q2.ext e (fun b hb=>hd b _ (m.pQ g b h0 h1 hb) nofun nofun nofun)⟩
theorem xJ.VE(m:xJ H ro B C w l V ch par kb fF rows rb){g:Int}(hg:0≤g∧g<fF.length){H1:Hp}(e0:ai (fun z=>rb g=some z) H H1){lb:List Value}(HS:H1.own B.rp=some lb){sv:Value}{L':List Int}{o:Option Nat}(s:Sl H1 1 sv L'.length (L'.map i64) o)(ho:∀b,o=some b→ro b= .no∨ro b= .row g):
  xJ (H1.wr B.rp (lb.set g.toNat sv)) (fun z=>if o=some z then .row g else ro z) B C w l V ch par kb (fF.set g.toNat sv) (aA rows g L') (fun k=>if k=g then o else rb k)∧ai (dM ro) H (H1.wr B.rp (lb.set g.toNat sv))∧
   (∀z,dM (fun z=>if o=some z then .row g else ro z) z→dM ro z∨o=some z):=by
 obtain⟨tv,h1,h2⟩:=m.own
 have e:ai (fun z=>z=B.rp) H1 (H1.wr B.rp (lb.set g.toNat sv)):=(ai.refl (fun z=>z=B.rp) _).wr (fun _=>rfl) _
 have PE:(H1.wr B.rp (lb.set g.toNat sv)).size=H1.size:=gm _ _ _
 have hs0:=e0.size
 have KY:∀z q,ro z=q→q≠ .no→q≠ .row g→(if o=some z then Rl.row g else ro z)=q:=fun z q h1 h2 h3=>by
  rw[if_neg (fun e=>by rcases ho z e with h|h;exact h2 (by rw[←h1,h]);exact h3 (by rw[←h1,h])),h1]
 have ne:∀z q,ro z=q→q≠ .LQ→z≠B.rp:=fun z q h1 h2 e=>h2 (by rw[←h1,e,m.rr])
 have n0:∀z q,ro z=q→q≠ .row g→¬rb g=some z:=fun z q h1 h2 h3=>h2 (by rw[←h1,m.pQ g z hg.1 hg.2 h3])
 have hob:∀b,o=some b→b≠B.rp:=fun b hb e=>by rcases ho b hb with h|h<;>(rw[e,m.rr]at h;cases h)
 obtain⟨ta,tc,rfl⟩:=Sl.shape h2
 have hta:ta=some ⟨B.rp,0,none⟩:=by
  obtain⟨_,_,_,hh,_⟩:=h2
  injection hh with hh
 subst hta
 have h3:=h2.ext e0 (fun b hb=>by injection hb with hb;subst hb;exact n0 _ _ m.rr nofun)
 refine⟨⟨⟨_,e.own (e0.own h1 (n0 _ _ m.rn nofun)) (ne _ _ m.rn nofun),?_⟩,fun k h0 h1=>?_,(m.cells.ext e0 (fun z hz=>n0 z _ (m.hC z hz) nofun)).ext e (fun z hz=>ne z _ (m.hC z hz) nofun),?_,fun z hz=>KY z _ (m.hC z hz) nofun nofun,KY _ _ m.rn nofun nofun,KY _ _ m.rr nofun nofun,fun k b h0 h1 hb=>?_,fun z hz=>?_⟩,
  (e0.mono fun z _ h=>gf (m.pQ g z hg.1 hg.2 h) nofun).trans (e.mono fun z _ h=>by rw[h];exact gf m.rr nofun),fun z hz=>?_⟩
 ·rw[al8]
  exact h3.vX HS g.toNat sv
 ·rw[al8]at h1
  by_cases hk:k=g
  ·subst hk
   refine⟨sv,by rw[amd (by omega)],?_⟩
   unfold aA
   rw[if_pos rfl,if_pos rfl]
   exact s.ext e (fun b hb=>hob b hb)
  ·obtain⟨sv',q1,q2⟩:=m.row k h0 h1
   refine⟨sv',by rw[amc (by omega)];exact q1,?_⟩
   unfold aA
   rw[if_neg hk,if_neg hk]
   exact(q2.ext e0 (fun b hb=>n0 b _ (m.pQ k b h0 h1 hb) (fun e=>hk (by injection e)))).ext e (fun b hb=>ne b _ (m.pQ k b h0 h1 hb) nofun)
 ·have f1:=(m.fo.ext e0 (fun z hz=>by rcases hz with h|h| ⟨x,h⟩<;>exact n0 z _ h nofun)).ext e (fun z hz=>by rcases hz with h|h| ⟨x,h⟩<;>exact ne z _ h nofun)
  exact⟨f1.t,f1.kd,KY _ _ f1.rf nofun nofun,KY _ _ f1.rt nofun nofun,fun x b h0 h1 hb=>KY _ _ (f1.rk x b h0 h1 hb) nofun nofun,f1.HR,f1.no⟩
 ·rw[al8]at h1
  by_cases hk:k=g
  ·rw[if_pos hk]at hb
   rw[if_pos hb,hk]
  ·rw[if_neg hk]at hb
   have:=m.pQ k b h0 h1 hb
   exact KY b _ this nofun (fun e=>hk (by injection e))
 ·rw[PE]at hz
  rw[if_neg (fun e=>?_),m.hz z (by omega)]
  cases o with
  |none=>cases e
  |some b=>
   injection e with e
   have:=Sl.lt s
   omega
 ·by_cases h:o=some z
  ·exact .inr h
  ·refine .inl fun h2=>hz ?_
   simp only[if_neg h]
   exact h2
theorem xJ.Mf(m:xJ H ro B C w l V ch par kb fF rows rb){g:Int}(hg:0≤g∧g<fF.length):∃lb tc sv,H.own B.n=some [ptr B.c,ptr B.fb,.slice (some ⟨B.rp,0,none⟩) fF.length tc]∧H.own B.rp=some lb∧lb[g.toNat]? =some sv∧g.toNat<lb.length∧fF[g.toNat]? =some sv∧
  Sl H 1 sv (rows g).length ((rows g).map i64) (rb g):=by
 obtain⟨tv,h1,h2⟩:=m.own
 obtain⟨sv,q1,q2⟩:=m.row g hg.1 hg.2
 obtain⟨_,lb,tc,rfl,ho,hc,hl,ht⟩:=h2
 refine⟨lb,tc,sv,h1,ho,?_,by omega,q1,q2⟩
 have h7:=q1
 rw[←ht,amE]at h7
 split at h7
 ·exact h7
 ·cases h7
theorem Sl.rdB{sv:Value}{L:List Int}{fp:Option Nat}{Bd:Nat}(s:Sl H 1 sv L.length (L.map i64) fp)(hf:∀b,fp=some b→b<Bd∧¬KC ro b):Hq H ro Bd sv L:=by
 cases fp with
 |none=>
  obtain⟨_,h2,rfl⟩:=s
  exact⟨none,0,by rw[h2],by omega,.inl (amD.1 h2)⟩
 |some b=>
  obtain⟨_,lb,c,rfl,ho,hc,hl,ht⟩:=s
  obtain⟨h1,h2⟩:=hf b rfl
  refine⟨_,c,rfl,hc,.inr ⟨b,0,lb,rfl,h1,h2,ae ho,by omega,?_⟩⟩
  rw[List.drop_zero]
  rw[ama]at ht
  exact ht
set_option maxHeartbeats 1000000 in
theorem CU(m:xJ H ro B C w l V ch par kb fF rows rb){g:Int}{lv:Value}(Vy:Hq H ro H.size lv L)(aR:∀a b,aV w a b=true→lt a b=true)(f:mq (aH w) lt ch par rows (L++W0))(hL:Gg ch L)(hg:∀c∈L,aH w c=g)(zP:0≤g∧g<fF.length):
  ah Tryz.prog yw [ptr B.n,i64 g,lv] H fun v H'=>ay (∃ro' l' V' dT bH vY SS mI rb',xJ H' ro' B C w l' V' dT bH vY SS mI rb'∧mq (aH w) lt dT bH mI W0∧SS.length=fF.length∧(∀z∈W0,dT z=ch z)∧
   (∀z,dM ro' z→dM ro z∨H.size≤z)∧ai (dM ro) H H'):=by
 obtain⟨lb,tc,sv,o1,q1,q2,HS,_,s2⟩:=m.Mf zP
 obtain⟨va,vc,rfl⟩:=Sl.shape s2
 obtain⟨aL,cL,rfl,hcL⟩:=Vy.cap
 have hra:Hq H ro H.size (.slice va (rows g).length vc) (rows g):=Sl.rdB s2 (fun b hb=>by
  have h5:=m.pQ g b zP.1 zP.2 hb
  refine⟨m.slt b (gf h5 nofun),fun hc=>?_⟩
  rcases hc with (hc| ⟨x,hc⟩)|hc<;>(rw[h5]at hc;cases hc))
 have h0:sA H ro B.n B.fb B.tb B.c C w H ro l V ch par kb (.slice va (rows g).length vc) (.slice aL L.length cL) (rows g) L:=⟨m.fo,m.cells,m.hC,⟨_,o1⟩,m.rn,m.hz,RK.refl m.hz,hra,Vy,ai.refl _ _⟩
 have f1:=f.loose g
 have Qf:∀c∈rows g,aH w c=g:=fun c hc=>(f.rm g c hc).1
 refine be yV ⟨rfl,?_⟩
 refine v1 pk.eq_1 ?_
 refine qZ.intro (fun H'=>H'.own B.n=some [ptr B.c,ptr B.fb,.slice (some ⟨B.rp,0,none⟩) fF.length tc]) o1 ?_
 refine vs ?_
 refine qF.intro (.slice (some ⟨B.rp,0,none⟩) fF.length tc) (fun H' hI=>by refine v1 (ae hI) ?_;trivial) ?_
 refine vs ?_
 have hgi:0≤g∧g< (fF.length:Int):=zP
 have key:∀K:Value→Hp→Prop,(∀out ro' l' V' dT bH vY vo fo H',sA H ro B.n B.fb B.tb B.c C w H' ro' l' V' dT bH vY (.slice none 0 0) (.slice none 0 0) [] []→Sl H' 1 vo out.length (out.map i64) fo→(∀z,fo=some z→H.size≤z∧ro' z= .no)→mq (aH w) lt dT bH (aA rows g []) (out++W0)→Gg dT out→(∀c∈out,aH w c=g)→(∀z∈W0,dT z=ch z)→K (.tuple [vo,.bool true].toArray) H')→
   ah Tryz.prog nG [ptr B.fb,.iface 198 (ptr B.n),.slice va (rows g).length vc,.slice aL L.length cL] H K:=fun K hK=>by
  refine(Et h0 aR f1 (f.rr g) hL (fun c hc=>by rcases hc with h|h;exact Qf c h;exact hg c h)).mono ?_
  rintro _ H' ⟨out,ro',l',V',dT,bH,vY,vo,fo,rfl,h1,h2,h3,h4,h5,h6,h7⟩
  exact hK out ro' l' V' dT bH vY vo fo H' h1 h2 h3 h4 h5 h6 h7
 refine IQ.intro ?A ?B
 case' A=>
  refine v1 (ae o1) ?_
  refine And.intro o1 ?_
  refine v1 (ae o1) ?_
  refine And.intro o1 ?_
  refine vs ?_
  refine⟨⟨by omega,by omega⟩,?_⟩
  refine v4 (ae q1) al6 ama q2 ?_
  refine And.intro o1 ?_
  refine vs ?_
 case' B=>
  refine v1 (ae o1) ?_
  refine And.intro o1 ?_
  refine vs ?_
  refine⟨⟨by omega,by omega⟩,?_⟩
  refine vs ?_
  refine IQ.intro ?C ?D
  case' C=>
   refine v1 (ae o1) ?_
   refine And.intro o1 ?_
   refine v4 (ae q1) al6 ama q2 ?_
   refine And.intro o1 ?_
   refine vs ?_
  case' D=>
   refine v4 (ae q1) al6 ama q2 ?_
   refine And.intro o1 ?_
   refine v1 (ae o1) ?_
   refine And.intro o1 ?_
   refine vs ?_
 all_goals
  refine key _ fun out re l2 V2 oo me ES vo fo2 H2 h2 EW Q6 f2 r2 g2 w2=>?_
  obtain⟨vb,vc2,rfl⟩:=Sl.shape EW
  have m2:=m.SR h2.m h2.cq h2.rk h2.hz h2.e
  obtain⟨lb2,tc2,sv2,o2,q3,q4,akc,_,_⟩:=m2.Mf zP
  have o2':H2.own B.n=some [ptr B.c,ptr B.fb,.slice (some ⟨B.rp,0,none⟩) fF.length tc]:=h2.e.own o1 (fun hc=>by
   rcases hc with (hc| ⟨x,hc⟩)|hc<;>(rw[m.rn]at hc;cases hc))
  refine And.intro o2' ?_
  refine vs ?_
  refine⟨⟨by omega,by omega⟩,?_⟩
  refine v3 q3 al6 ama ?_
  refine⟨by omega,?_⟩
  obtain⟨m3,e3,QY⟩:=m2.VE zP (ai.refl _ _) q3 EW (fun b hb=>.inl (Q6 b hb).2)
  refine vs ?_
  have hnr:B.n≠B.rp:=fun e=>by have:=m2.rn;rw[e,m2.rr]at this;cases this
  refine And.intro (((ai.refl (fun z=>z=B.rp) _).wr (fun _=>rfl) _:ai (fun z=>z=B.rp) H2 _).own o2' hnr) ?_
  refine vs ?_
  have f3:=f2.row (g:=g) (by unfold aA;rw[if_pos rfl]) r2 g2
  rw[eI]at f3
  have NV:∀z,dM re z→dM ro z∨H.size≤z:=fun z hz=>by
   by_cases OO:z<H.size
   ·refine .inl fun h=>hz ?_
    exact h2.rk.none OO h
   ·exact .inr (by omega)
  refine⟨_,l2,V2,oo,me,ES,_,_,_,m3,f3,al8 ..,w2,fun z hz=>?_,?_⟩
  ·rcases QY z hz with h|h
   ·exact NV z h
   ·exact .inr (Q6 z h).1
  ·have e2:ai (dM ro) H H2:=h2.e.mono fun z _ h=>by
    rcases h with (h| ⟨x,h⟩)|h<;>exact gf h nofun
   exact⟨amM e2.size e3.size,fun z hz hn=>by
    rw[e3.aN z (amv hz e2.size) (fun h=>by
     rcases NV z h with h|h
     ·exact hn h
     ·omega),e2.aN z hz hn]⟩
end
end Go.Proofs.YtjlnnljohemifaaGreat

namespace Go.Proofs.YtjlnnljohemifaaGreat
open Go Go.Vc
def iy(n:Nat)(H:Hp)(S:Nat→Prop)(w:Nw):Prop:=∃ (B:Y1) (ro:Nat→Rl) (C:Nat→Prop) (l:List Value) (V:Int→Value) (ch:Int→List Int) (par:Int→Int) (kb:Int→Option Nat) (fF:List Value) (rows:Int→List Int) (rb:Int→Option Nat),
 B.n=n∧xJ H ro B C w l V ch par kb fF rows rb∧mq (aH w) (aV w) ch par rows []∧fF.length=w.hs.length∧∀z,S z↔dM ro z
theorem iy.slt{n:Nat}{H:Hp}{S:Nat→Prop}{w:Nw}(h:iy n H S w):∀z,S z→z<H.size:=by
 obtain⟨B,ro,C,l,V,ch,par,kb,fF,rows,rb,rfl,m,f,hl,hS⟩:=h
 exact fun z hz=>m.slt z ((hS z).1 hz)
theorem iy.ext{n:Nat}{H H':Hp}{S T:Nat→Prop}{w:Nw}(h:iy n H S w)(e:ai T H H')(hd:∀z,S z→¬T z):iy n H' S w:=by
 obtain⟨B,ro,C,l,V,ch,par,kb,fF,rows,rb,rfl,m,f,hl,hS⟩:=h
 exact⟨B,ro,C,l,V,ch,par,kb,fF,rows,rb,rfl,m.ext e (fun z hz=>hd z ((hS z).2 hz)),f,hl,hS⟩
section
variable {H H' : Hp} {ro ro' : Nat → Rl} {B : Y1} {C T : Nat → Prop} {w w' : Nw} {l l' : List Value} {V V' : Int → Value} {ch dT : Int → List Int} {par bH : Int → Int} {kb vY : Int → Option Nat} {fF : List Value} {rows : Int → List Int} {rb : Int → Option Nat} {lt : Int → Int → Bool} {W W0 L : List Int}
theorem xJ.ST(m:xJ H ro B C w l V ch par kb fF rows rb)(hl:fF.length=w.hs.length){g:Int}(h:w.has g):0≤g∧g<fF.length:=by
 have h1:=h.1
 have:=(al7.1 h.2).1
 omega
theorem KE(m:xJ H ro B C w l V ch par kb fF rows rb)(f:mq (aH w) lt ch par rows W)(hl:fF.length=w.hs.length)(g:Int):ah Tryz.prog yx [ptr B.n,i64 g] H fun v H'=>ay ((∃o,Sl H 1 v (rows g).length ((rows g).map i64) o∧∀b,o=some b→b<H.size∧¬KC ro b)∧H'=H):=by
 obtain⟨tv,ho,_⟩:=m.own
 refine be yW ⟨rfl,?_⟩
 refine v2 iL.eq_1 (ae ho) ?_
 refine(kH m.cells g).mono ?_
 rintro _ _ ⟨rfl,rfl⟩
 refine vs ?_
 by_cases hg:w.has g
 ·rw[amj hg]
  have zP:=m.ST hl hg
  obtain⟨lb,tc,sv,o1,q1,q2,HS,_,s2⟩:=m.Mf zP
  refine v1 (ae o1) ?_
  refine⟨⟨by omega,by omega⟩,?_⟩
  refine v4 (ae q1) al6 ama q2 ?_
  refine⟨⟨rb g,s2,fun b hb=>?_⟩,rfl⟩
  have h5:=m.pQ g b zP.1 zP.2 hb
  refine⟨m.slt b (gf h5 nofun),fun hc=>?_⟩
  rcases hc with (hc| ⟨x,hc⟩)|hc<;>(rw[h5]at hc;cases hc)
 ·rw[amm hg]
  refine vs ?_
  have hr:rows g=[]:=by
   cases hc:rows g with
   |nil=>rfl
   |cons c r=>
    obtain⟨h1,_,h2,_⟩:=f.rm g c (by rw[hc];simp)
    have:=((m.cells.hm c).2 (by omega)).1
    rw[h1]at this
    exact absurd this hg
  rw[hr]
  exact⟨⟨none,Sl.nil _ _,nofun⟩,rfl⟩
theorem mq.root(f:mq (aH w) (aV w) ch par rows []){y g:Int}(hg:0<g)(hy:aH w y=g):∃r∈rows g,r=y∨aV w r y=true:=by
 obtain⟨r,h1,h2,h3⟩:=f.pr.root (aq w) (n:=w.cs.length) (fun x h=>xE x h) _ (ami _) (x:=y) (by omega)
 rcases f.ml r (by omega) h2 with h|h
 ·rw[h1,hy]at h
  exact⟨r,h,h3⟩
 ·cases h
set_option maxHeartbeats 1000000 in
theorem CV{n:Nat}{H:Hp}{S:Nat→Prop}{w:Nw}(h:iy n H S w)(g:Int):ah Tryz.prog oY [ptr n,i64 g] H fun v H'=>ay (
  (w.len g=0∧v= .tuple [i64 0,.bool false].toArray∧iy n H' S w∧ai S H H')∨(∃x,w.first g x∧v= .tuple [i64 x,.bool true].toArray∧iy n H' S w∧ai S H H')):=by
 obtain⟨B,ro,C,l,V,ch,par,kb,fF,rows,rb,rfl,m,f,hl,hS⟩:=id h
 have zp:=m.cells.Fu
 refine be yT ⟨rfl,?_⟩
 refine v1 iJ.eq_1 ?_
 refine(KE m f hl g).mono ?_
 rintro _ H' ⟨⟨o,s,hso⟩,e⟩
 obtain rfl:=e.symm
 obtain⟨va,vc,rfl⟩:=Sl.shape s
 refine vs ?_
 refine ak.dec (fun h0=>?_) (fun h0=>?_)<;>refine vs ?_
 ·refine .inl ⟨?_,rfl,h,ai.refl _ _⟩
  have hr:rows g=[]:=amD.1 (by omega)
  by_cases hg:0<g
  ·rw[xk hg]
   intro x hx
   obtain⟨r,Bu,_⟩:=f.root hg hx
   rw[hr]at Bu
   cases Bu
  ·exact Nw.IP.2 (.inl (by omega))
 obtain⟨x,R,hr⟩:∃x R,rows g=x::R:=ann (fun e=>h0 (by rw[e];rfl))
 have TE:∀c∈rows g,aH w c=g∧0<g:=fun c hc=>by
  obtain⟨h1,_,h2,_⟩:=f.rm g c hc
  exact⟨h1,h2⟩
 have Sf:=(TE x (by rw[hr];simp)).2
 rw[hr]at s TE
 have hlr:(rows g).length=(x::R).length:=by rw[hr]
 rw[hlr]
 have pJ:(x::R).length=R.length+1:=ams
 have hsB:=s
 have bm:=bY (f.rr g).nodup fun c hc=>xE (w:=w) c (by have:=TE c (by rw[←hr];exact hc);omega)
 rw[hr]at bm
 obtain⟨b,lb,c,PY,rfl,qb,qc,_,HS,_⟩:=Sl.Uy s (i:=0) (x:=x) rfl
 injection PY with h1 h2 h3
 subst h1 h3
 have mu:=ae qb
 obtain⟨_,Vr,c',eR,q2,IL,Q5,Sd⟩:=id s
 injection eR with _ _ eR
 subst eR
 rw[qb]at q2
 injection q2 with q2
 subst q2
 rw[ama]at Q5 Sd
 refine⟨⟨by omega,by omega⟩,?_⟩
 refine v5 mu qc Int.toNat_zero amH Nat.add_zero ?_
 refine⟨⟨by omega,by omega,by omega,by omega⟩,?_⟩
 refine vs ?_
 have zP:=m.ST hl ((m.cells.hm x).2 (by have:=TE x (by simp);omega)).1
 rw[(TE x (by simp)).1]at zP
 have hrB:Hq H ro H.size (.slice (some ⟨b,0,none⟩) (x::R).length vc) (x::R):=Sl.rdB s hso
 obtain⟨a',hv,_,_,_⟩:=SL s.rd (lo:=1) (hi:=R.length+1) (lo':=1) (hi':=((R.length+1:Nat):Int)) rfl rfl (by omega) (by omega) (by omega)
 have hB:Hq H ro H.size (.slice a' R.length (vc - 1)) R:=by
  rw[show R.length=R.length+1 - 1 by omega,←hv]
  exact hrB.tail _
 rw[hv,show((R.length+1:Nat):Int).toNat - Int.toNat 1=R.length by simp,Nat.add_sub_cancel]
 refine bA.intro (fun mm env H'=>∃ (j:Nat) (bU:Int),mm=R.length - j∧j≤R.length∧CQ H' B.c C w∧ai C H H'∧bU∈x::R.take j∧(∀c∈x::R.take j,c≠bU→aV w bU c=true)∧
  env=[(0,ptr B.n),(7,i64 bU),(20,.slice a' R.length (vc - 1)),(21,i64 R.length),(22,i64 j)]) R.length ⟨0,x,rfl,by omega,m.cells,ai.refl _ _,by simp,by simp,rfl⟩ ?_
 rintro mm env H1 ⟨j,bU,rfl,hj,c1,e1,PS,GN,rfl⟩
 have m1:=m.aK c1 e1 rfl
 obtain⟨D2,o1,_⟩:=m1.own
 refine vs ?_
 refine ak.dec (fun aR=>?_) (fun aR=>?_)<;>refine vs ?_
 ·have kJ:j<R.length:=by omega
  obtain⟨y,hy⟩:∃y,R[j]? =some y:=⟨_,al5 kJ⟩
  have hB1:=hB.ext e1 (fun z _ hk hc=>hk (.inr (m.hC z hc))) (ro':=ro) (fun _ _ h=>h)
  obtain⟨_,b2,o2,lb2,rfl,q2,q3⟩:=ep.num hB1.rd hy
  refine⟨⟨by omega,by omega⟩,?_⟩
  refine v5 q2 ama Int.toNat_natCast q3 (ae o1) ?_
  refine(cJ c1 y bU).mono ?_
  rintro _ H2 ⟨rfl,c2,e2⟩
  have hym:y∈x::R:=amK _ (amb hy)
  have Dj:bU∈x::R:=by
   rcases amf.1 PS with h|h
   ·rw[h];simp
   ·exact amK _ (List.mem_of_mem_take h)
  have zV:=TE y hym
  have hbb:=TE bU Dj
  rw[jn (w:=w) (a:=y) (b:=bU) (by omega) (by omega)]
  have tk:R.take (j+1)=R.take j++[y]:=by rw[amG,hy];rfl
  cases hyb:aV w y bU
  ·refine vs ?_
   rw[wrap64 (n:=(j:Int)+1) (by omega) (by omega)]
   refine⟨R.length - (j+1),by omega,j+1,bU,rfl,by omega,c2,e1.trans e2,?_,fun c hc aT=>?_,rfl⟩
   ·rw[tk,←anm];exact amI _ PS
   ·rw[tk,←anm]at hc
    rcases aml.1 hc with hc|hc
    ·exact GN c hc aT
    ·rw[amg.1 hc]at aT ⊢
     exact((aq w).OI bU y (Ne.symm aT)).resolve_right (by rw[hyb];simp)
  ·refine vs ?_
   rw[wrap64 (n:=(j:Int)+1) (by omega) (by omega)]
   refine⟨R.length - (j+1),by omega,j+1,y,rfl,by omega,c2,e1.trans e2,?_,fun c hc aT=>?_,rfl⟩
   ·rw[tk];simp
   ·rw[tk,←anm]at hc
    rcases aml.1 hc with hc|hc
    ·by_cases e:c=bU
     ·rw[e];exact hyb
     ·exact(aq w).tr _ _ _ hyb (GN c hc e)
    ·exact absurd (amg.1 hc) aT
 ·obtain rfl:j=R.length:=by omega
  rw[amB]at PS GN
  refine .inr ⟨bU,?_,rfl,⟨B,ro,C,l,V,ch,par,kb,fF,rows,rb,rfl,m1,f,hl,hS⟩,e1.mono fun z _ hz=>(hS z).2 (gf (m.hC z hz) nofun)⟩
  rw[bN]
  refine⟨Sf,(TE bU PS).1,fun y hy aT=>?_⟩
  obtain⟨r,Jz,Bu⟩:=f.root Sf hy
  rw[hr]at Jz
  by_cases e:r=bU
  ·rw[e]at Bu
   exact Bu.resolve_left (fun e2=>aT e2.symm)
  ·have h5:=GN r Jz e
   rcases Bu with h6|h6
   ·rw[←h6];exact h5
   ·exact(aq w).tr _ _ _ h5 h6
end
end Go.Proofs.YtjlnnljohemifaaGreat

namespace Go.Proofs.YtjlnnljohemifaaGreat
open Go Go.Vc
section
variable {H H' : Hp} {ro ro' : Nat → Rl} {B : Y1} {C T : Nat → Prop} {w w' : Nw} {l l' : List Value} {V V' : Int → Value} {ch dT : Int → List Int} {par bH : Int → Int} {kb vY : Int → Option Nat} {fF : List Value} {rows : Int → List Int} {rb : Int → Option Nat} {lt : Int → Int → Bool} {W W0 L : List Int}
theorem FT{n:Nat}{H:Hp}{S:Nat→Prop}{w:Nw}(h:iy n H S w)(g x k s:Int):ah Tryz.prog k9 [ptr n,i64 g,i64 x,vV k s] H fun v H'=>ay (
  (¬w.oP g x∧v= .bool false∧cC (iy n) S H H' w)∨(w.oP g x∧v= .bool true∧cC (iy n) S H H' (w.put x (g,k,s)))):=by
 obtain⟨B,ro,C,l,V,ch,par,kb,fF,rows,rb,rfl,m,f,hl,hS⟩:=h
 have hC:∀z,C z→S z:=fun z h=>(hS z).2 (gf (m.hC z h) nofun)
 refine be ud ⟨rfl,?_⟩
 refine v1 fi.eq_1 ?_
 have f0:ax H (H.new 224 [i64 k,u64 s]):=(ai.refl _ _).new _ _
 have b0:(H.new 224 [i64 k,u64 s]).own H.size=some [i64 k,u64 s]:=aG _ _ _
 have m0:=m.fresh f0
 generalize H.new 224 [i64 k,u64 s]=H0 at*
 have ff:ai S H H0:=f0.mono fun _ _ h=>h.elim
 obtain⟨tv,Ki,_⟩:=m0.own
 refine v2 (ae Ki) (ae b0) ?_
 refine(nS m0.cells g x k s).mono ?_
 rintro _ H1 (⟨cr,rfl,c1,e1⟩| ⟨tw,rfl,c1,e1⟩)
 ·refine vs ?_
  exact .inl ⟨cr,rfl,cC.same ⟨B,ro,C,l,V,ch,par,kb,fF,rows,rb,rfl,m0.aK c1 e1 rfl,f,hl,hS⟩ (ff.trans (e1.mono fun z _ hz=>hC z hz))⟩
 obtain⟨hh,hx,bS⟩:=id tw
 have m1:=m0.aK c1 e1 (by simp[Nw.put])
 have hg:=hh.1
 have dw:=m.ST hl hh
 have cU:=fun y=>eC hx (g,k,s) y
 have iq:aH w x≤0:=Int.not_lt.1 fun h=>bS (bK.1 h)
 have el:∀a b,0<aH w a→0<aH w b→a≠x→b≠x→aV (w.put x (g,k,s)) a b=aV w a b:=fun a b ha hb tM pt=>dG hx _ ha hb tM pt
 obtain⟨f1,_⟩:=f.put (hm':=aH (w.put x (g,k,s))) (lt':=aV (w.put x (g,k,s))) (g:=g) rfl iq (by omega) (by omega) (by rw[cU,if_pos rfl]) (fun y hy=>by rw[cU,if_neg hy]) el
 refine vs ?_
 have f2:ax H1 (H1.new 3 [i64 x]):=(ai.refl _ _).new _ _
 have m2:=m1.fresh f2
 have s2:Sl (H1.new 3 [i64 x]) 1 (.slice (some ⟨H1.size,0,none⟩) 1 1) [x].length ([x].map i64) (some H1.size):=Sl.dE (size:=1) (n:=1) (xs:=[i64 x]) rfl rfl
 have z2:(H1.new 3 [i64 x]).size=H1.size+1:=au _ _ _
 have Vy:Hq (H1.new 3 [i64 x]) ro (H1.new 3 [i64 x]).size (.slice (some ⟨H1.size,0,none⟩) 1 1) [x]:=Sl.rdB s2 fun b hb=>by
  injection hb with hb
  subst hb
  refine⟨by omega,fun hc=>?_⟩
  have:=m1.hz H1.size (ami _)
  rcases hc with (hc| ⟨x,hc⟩)|hc<;>(rw[this]at hc;cases hc)
 generalize H1.new 3 [i64 x]=H2 at*
 refine(CU m2 Vy (fun _ _ h=>h) (W0:=[]) f1 (List.pairwise_singleton _ _) (fun c hc=>by rw[amg.1 hc,cU,if_pos rfl]) dw).mono ?_
 rintro _ H3 ⟨Qu,l3,V3,MV,sz,Xp,afN,CW,rb3,m3,f3,TB,_,QY,e3⟩
 refine vs ?_
 have eS:ai S H H2:=(ff.trans (e1.mono fun z _ h=>hC z h)).trans (f2.mono fun _ _ h=>h.elim)
 have z1:=eS.size
 refine .inr ⟨tw,rfl,dM Qu,⟨B,Qu,C,l3,V3,MV,sz,Xp,afN,CW,rb3,rfl,m3,f3,by rw[TB,hl];rfl,fun z=>Iff.rfl⟩,eS.trans (e3.mono fun z _ h=>(hS z).2 h),fun z hz=>?_⟩
 rcases QY z hz with h|h
 ·exact .inl ((hS z).2 h)
 ·exact .inr (by omega)
theorem mq.UC{hm:Int→Int}(f:mq hm lt ch par rows W)(x:Int):Gg ch (ch x):=by
 unfold Gg
 rw[anx]
 intro i j hi hj KZ
 rw[f.dg x i _ (al5 hi),f.dg x j _ (al5 hj)]
 exact KZ
theorem mq.UD{hm:Int→Int}(f:mq hm lt ch par rows []){x g:Int}(hx:x∈rows g):mq hm lt ch par (aA rows g ((rows g).filter fun y=> !decide (x=y))) [x]:=by
 have hn:=(f.rr g).nodup
 have hp:(rows g++[]).Perm (((rows g).filter fun y=> !decide (x=y))++[x]):=by
  rw[amW]
  refine(List.perm_ext_iff_of_nodup hn ?_).2 fun y=>?_
  ·rw[amT]
   refine⟨hn.filter _,by simp,fun u hu v hv e=>?_⟩
   rw[anZ]at hu
   rw[amg.1 hv]at e
   simp[e]at hu
  ·rw[aml,anZ,amg]
   by_cases h:x=y
   ·simp[←h,hx]
   ·simp[h,Ne.symm h]
 have f2:=((f.loose g).perm hp).row (g:=g) (by unfold aA;rw[if_pos rfl]) ((f.rr g).sub List.filter_sublist) (fun c hc=>(f.rm g c (anZ.1 hc).1).1)
 rwa[eI]at f2
theorem FU{H:Hp}{bx:Nat}{x:Int}(hb:H.own bx=some [i64 x])(y:Int):ah Tryz.prog lc [i64 y,ptr bx] H fun v H'=>ay (v= .bool (decide (x=y))∧H'=H):=by
 refine xU mixed uf (nt:=7) (by kernel_rfl) (by simp) ?_
 refine v2 fk.eq_1 (ae hb) ?_
 exact⟨rfl,rfl⟩
set_option maxHeartbeats 2000000 in
theorem Ja(m:xJ H ro B C w l V ch par kb fF rows rb)(aR:∀a b,aV w a b=true→lt a b=true)(f:mq (aH w) lt ch par rows []){x g:Int}(xx:x∈rows g)(zP:0≤g∧g<fF.length)(abb:∀a b,0<aH w a→0<aH w b→a≠x→b≠x→lt a b=true→aV (w.put x (0,0,0)) a b=true):
  ah Tryz.prog wD [ptr B.n,i64 g,i64 x] H fun v H'=>ay (v= .bool true∧∃ro' l' V' dT bH vY SS mI rb',xJ H' ro' B C (w.put x (0,0,0)) l' V' dT bH vY SS mI rb'∧mq (aH (w.put x (0,0,0))) (aV (w.put x (0,0,0))) dT bH mI []∧SS.length=fF.length∧
   (∀z,dM ro' z→dM ro z∨H.size≤z)∧ai (dM ro) H H'):=by
 obtain⟨OW,K8,Sf,_⟩:=f.rm g x xx
 have iq:=xE (w:=w) x (by omega)
 have zp:=m.cells.Fu
 have bm:=bY (f.rr g).nodup fun c hc=>xE (w:=w) c (by have:=f.rm g c hc;omega)
 refine be wV ⟨rfl,?_⟩
 refine v1 nL.eq_1 ?_
 have f0:ax H (H.new 3 [i64 x]):=(ai.refl _ _).new _ _
 have b0:(H.new 3 [i64 x]).own H.size=some [i64 x]:=aG _ _ _
 have z0:(H.new 3 [i64 x]).size=H.size+1:=au _ _ _
 have m0:=m.fresh f0
 generalize H.new 3 [i64 x]=H0 at*
 obtain⟨lb,tc,sv,o1,q1,q2,HS,_,s2⟩:=m0.Mf zP
 obtain⟨va,vc,rfl⟩:=Sl.shape s2
 refine qZ.intro (fun H'=>H'.own B.n=some [ptr B.c,ptr B.fb,.slice (some ⟨B.rp,0,none⟩) fF.length tc]) o1 ?_
 refine vs ?_
 refine qF.intro (.slice (some ⟨B.rp,0,none⟩) fF.length tc) (fun H' hI=>by refine v1 (ae hI) ?_;trivial) ?_
 refine v1 (ae o1) ?_
 refine And.intro o1 ?_
 refine vs ?_
 refine⟨⟨by omega,by omega⟩,?_⟩
 refine v4 (ae q1) al6 ama q2 ?_
 refine And.intro o1 ?_
 refine vs ?_
 have Qv:∀b,rb g=some b→ro b= .row g:=fun b hb=>m.pQ g b zP.1 zP.2 hb
 refine(D5 s2 lc [ptr H.size] (fun y=>decide (x=y)) (by kernel_rfl) (fun H' e' y=>FU (e'.own b0 (fun hh=>by have:=m.slt _ (gf (Qv _ hh) nofun);omega)) y) (by omega)).mono ?_
 rintro _ H1 ⟨s3,e1⟩
 obtain⟨va',vc',rfl⟩:=Sl.shape s3
 have abc:∀z q,ro z=q→q≠ .row g→¬rb g=some z:=fun z q h1 h2 h3=>h2 (by rw[←h1,Qv z h3])
 have o2:=e1.own o1 (abc _ _ m.rn nofun)
 have q3:=e1.own q1 (abc _ _ m.rr nofun)
 refine And.intro o2 ?_
 refine vs ?_
 refine⟨⟨by omega,by omega⟩,?_⟩
 refine v3 q3 al6 ama ?_
 refine⟨by omega,?_⟩
 obtain⟨m2,e2,Bu⟩:=m0.VE zP e1 q3 s3 (fun b hb=>.inr (Qv b hb))
 have hnr:B.n≠B.rp:=fun e=>by have:=m.rn;rw[e,m.rr]at this;cases this
 refine vs ?_
 refine And.intro o2 ?_
 have Xq:¬dM ro H.size:=fun h=>by have:=m.slt _ h;omega
 have b2:=e2.own b0 Xq
 have z2:=e2.size
 have f2:=f.UD xx
 generalize H1.wr B.rp (lb.set g.toNat (Value.slice va' ((rows g).filter fun y=> !decide (x=y)).length vc'))=H2 at*
 obtain⟨re,afO⟩:∃re:Nat→Rl,re=fun z=>if rb g=some z then Rl.row g else ro z:=⟨_,rfl⟩
 rw[←afO]at m2 Bu
 have Xr:∀z,dM re z→dM ro z:=fun z hz=>(Bu z hz).elim id fun h=>gf (Qv z h) nofun
 obtain⟨Nz,o3,_⟩:=m2.own
 refine v2 (ae o3) (ae b2) ?_
 have rq:(ch x).length≤w.cs.length:=bY (f.pr.nd x) fun c hc=>m.fo.HR x c hc
 refine(Er m2.fo m2.hz iq K8 (by omega)).mono ?_
 rintro sv H3 ⟨Qu,l3,V3,Xp,fp3,fo3,r3,WH,e3,s4,mr⟩
 have z3:=e3.size
 have m3:=m2.SR fo3 (m2.cells.ext e3 (fun z hz hk=>by
  have:=m2.hC z hz
  rcases hk with hk| ⟨_,hk⟩<;>(rw[this]at hk;cases hk))) r3 WH (e3.mono fun z _ h=>.inl h)
 have f3:=f2.split.perm (show(x::(ch x++[])).Perm (ch x++[x]) by
  rw[amW]
  exact am1 (l₁:=[x]) (l₂:=ch x))
 have IS:x∉ch x:=fun h=>by have:=f.less h;omega
 have Vy:Hq H3 Qu H3.size sv (ch x):=Sl.rdB s4 fun b hb=>by
  rw[hb]at s4
  refine⟨Sl.lt s4,fun hc=>?_⟩
  have:=(mr b hb).2
  rcases hc with (hc| ⟨x,hc⟩)|hc<;>(rw[this]at hc;cases hc)
 have afP:0≤g∧g< ((fF.set g.toNat (Value.slice va' ((rows g).filter fun y=> !decide (x=y)).length vc')).length:Int):=by rw[al8];exact zP
 refine(CU m3 Vy aR f3 ((f.UC x).frame fun c hc=>by unfold aA;rw[if_neg (fun e=>IS (by have h7:=hc;rw[e]at h7;exact h7))]) (fun c hc=>by
  have:=(f.pr.dn x c hc).2.2.1
  omega) afP).mono ?_
 rintro _ H4 ⟨ro4,l4,V4,Ux,Kw,kb4,afR,abd,rb4,m4,f4,W3,w4,ZD,e4⟩
 have Xs:∀z,dM Qu z→dM ro z∨H.size+1≤z:=fun z hz=>by
  by_cases OO:z<H2.size
  ·refine .inl (Xr z fun h=>hz ?_)
   exact r3.none OO h
  ·exact .inr (by omega)
 have T9:¬dM Qu H.size:=fun h=>by
  rcases Xs _ h with h|h
  ·exact Xq h
  ·omega
 have afS:¬KB re H.size:=fun h=>Xq (Xr _ (by rcases h with h| ⟨_,h⟩<;>exact gf h nofun))
 have b4:=e4.own (e3.own b2 afS) T9
 obtain⟨tv4,o5,_⟩:=m4.own
 refine v2 (ae o5) (ae b4) ?_
 refine(cj m4.cells x).mono ?_
 have bS:cZ w.cs x:=bK.1 (by omega)
 rintro _ H5 (⟨cr,_,_⟩| ⟨_,rfl,c5,e5⟩)
 ·exact absurd bS cr
 have m5:=m4.aK c5 e5 (by simp[Nw.put])
 refine vs ?_
 have cU:=fun y=>eC (w:=w) iq (0,0,0) y
 have f5:=f4.drop (hm':=aH (w.put x (0,0,0))) (lt':=aV (w.put x (0,0,0))) (by
  rw[w4 x (by simp)]
  unfold aA
  rw[if_pos rfl]) rfl (by rw[cU,if_pos rfl]) (fun y hy=>by rw[cU,if_neg hy]) abb
 have z4:=e4.size
 have abe:∀z,dM ro4 z→dM ro z∨H.size+1≤z:=fun z hz=>by
  rcases ZD z hz with h|h
  ·exact Xs z h
  ·exact .inr (by omega)
 refine⟨rfl,ro4,l4,V4,Ux,Kw,kb4,afR,abd,rb4,m5,f5,by rw[W3,al8],fun z hz=>?_,?_⟩
 ·rcases abe z hz with h|h
  ·exact .inl h
  ·exact .inr (by omega)
 ·refine⟨by have:=e5.size;omega,fun z hz hn=>?_⟩
  rw[e5.aN z (by omega) (fun h=>by
   rcases abe z (gf (m4.hC z h) nofun)with h|h
   ·exact hn h
   ·omega),e4.aN z (by omega) (fun h=>by
   rcases Xs z h with h|h
   ·exact hn h
   ·omega),e3.aN z (by omega) (fun h=>hn (Xr z (by rcases h with h| ⟨_,h⟩<;>exact gf h nofun))),e2.aN z (by omega) (fun h=>hn h),f0.aN z hz (fun h=>h)]
theorem Ex{n:Nat}{H:Hp}{S:Nat→Prop}{w:Nw}(h:iy n H S w)(g:Int):ah Tryz.prog kg [ptr n,i64 g] H fun v H'=>ay (
  (w.len g=0∧v= .tuple [i64 0,.bool false].toArray∧cC (iy n) S H H' w)∨(∃x,w.first g x∧v= .tuple [i64 x,.bool true].toArray∧cC (iy n) S H H' (w.put x (0,0,0)))):=by
 refine be sX ⟨rfl,?_⟩
 refine v1 eK.eq_1 ?_
 refine(CV h g).mono ?_
 rintro _ H1 (⟨h0,rfl,h1,e1⟩| ⟨x,hx,rfl,h1,e1⟩)
 ·refine vs ?_
  exact .inl ⟨h0,rfl,cC.same h1 e1⟩
 refine vs ?_
 obtain⟨B,ro,C,l,V,ch,par,kb,fF,rows,rb,rfl,m,f,hl,hS⟩:=h1
 obtain⟨hg,OW,rB⟩:=bN.1 hx
 have xx:x∈rows g:=by
  obtain⟨r,Jz,Bu⟩:=f.root hg OW
  rcases Bu with h|h
  ·rw[←h];exact Jz
  ·by_cases e:r=x
   ·rw[←e];exact Jz
   ·have h2:=rB r (f.rm g r Jz).1 e
    rw[(aq w).asym h2]at h
    cases h
 have iq:=xE (w:=w) x (by omega)
 have zP:=m.ST hl ((m.cells.hm x).2 (by omega)).1
 rw[OW]at zP
 refine(Ja m (fun _ _ h=>h) f xx zP (fun a b ha hb tM pt h=>by rw[dG iq _ ha hb tM pt];exact h)).mono ?_
 rintro _ H2 ⟨rfl,re,l2,V2,oo,me,ES,afT,abf,rb2,m2,f2,wh,Bu,e2⟩
 refine vs ?_
 have z1:=e1.size
 refine .inr ⟨x,hx,rfl,dM re,⟨B,re,C,l2,V2,oo,me,ES,afT,abf,rb2,rfl,m2,f2,by rw[wh,hl];rfl,fun z=>Iff.rfl⟩,e1.trans (e2.mono fun z _ h=>(hS z).2 h),fun z hz=>?_⟩
 rcases Bu z hz with h|h
 ·exact .inl ((hS z).2 h)
 ·exact .inr (by omega)
end
end Go.Proofs.YtjlnnljohemifaaGreat

namespace Go.Proofs.YtjlnnljohemifaaGreat
open Go Go.Vc
section
variable {H H' : Hp} {ro ro' : Nat → Rl} {B : Y1} {C T : Nat → Prop} {w w' : Nw} {l l' : List Value} {V V' : Int → Value} {ch dT : Int → List Int} {par bH : Int → Int} {kb vY : Int → Option Nat} {fF : List Value} {rows : Int → List Int} {rb : Int → Option Nat} {lt : Int → Int → Bool} {W W0 L : List Int}
theorem xJ.abg(m:xJ H ro B C w l V ch par kb fF rows rb){g:Int}(hg:0≤g∧g<fF.length){H1:Hp}(e:ai (fun z=>rb g=some z) H H1){sv:Value}(PY:fF[g.toNat]? =some sv){L':List Int}(s:Sl H1 1 sv L'.length (L'.map i64) (rb g)):
  xJ H1 ro B C w l V ch par kb fF (aA rows g L') rb:=by
 obtain⟨tv,h1,h2⟩:=m.own
 have hs:=e.size
 have n0:∀z q,ro z=q→q≠ .row g→¬rb g=some z:=fun z q h1 h2 h3=>h2 (by rw[←h1,m.pQ g z hg.1 hg.2 h3])
 refine⟨⟨tv,e.own h1 (n0 _ _ m.rn nofun),h2.ext e (fun b hb=>by injection hb with hb;subst hb;exact n0 _ _ m.rr nofun)⟩,fun k h0 h1=>?_,m.cells.ext e (fun z hz=>n0 z _ (m.hC z hz) nofun),m.fo.ext e (fun z hz=>by rcases hz with h|h| ⟨x,h⟩<;>exact n0 z _ h nofun),m.hC,m.rn,m.rr,m.pQ,fun z hz=>m.hz z (by omega)⟩
 by_cases hk:k=g
 ·subst hk
  refine⟨sv,PY,?_⟩
  unfold aA
  rw[if_pos rfl]
  exact s
 ·obtain⟨sv',q1,q2⟩:=m.row k h0 h1
  refine⟨sv',q1,?_⟩
  unfold aA
  rw[if_neg hk]
  exact q2.ext e (fun b hb=>n0 b _ (m.pQ k b h0 h1 hb) (fun e=>hk (by injection e)))
set_option maxRecDepth 100000 in
set_option maxHeartbeats 2000000 in
theorem Jb(m:xJ H ro B C w l V ch par kb fF rows rb){x g:Int}(f:MM (aH w) (aV w) ch par rows [] x)(OW:aH w x=g)(Sf:0<g)(zP:0≤g∧g<fF.length)(fid:FuncId)(tu:List Value)(q:Int→Bool)(J:Hp→Prop)(E:(Int→List Int)→Prop)(hJ:J H)
  (uB:∀H' GF,J H'→ai (fun z=>dM ro z∧z≠B.n) H' GF→J GF)(FD:eV Tryz.prog fid=true)
  (hq:∀H' p,J H'→CQ H' B.c C w→0<aH w p→ah Tryz.prog fid (i64 p::tu) H' fun v GF=>ay (v= .bool (q p)∧CQ GF B.c C w∧ai C H' GF))(hE:E ch)
  (hEs:∀ (ch:Int→List Int) (par:Int→Int) (rows:Int→List Int) p,MM (aH w) (aV w) ch par rows [] x→x∈ch p→q p=true→E ch→E (HP ch x p)):
  ah Tryz.prog wC [ptr B.n,i64 g,i64 x,.func (.func fid) #[] tu.toArray] H fun v H'=>ay (∃ro' l' V' dT bH vY mI,xJ H' ro' B C w l' V' dT bH vY fF mI rb∧MM (aH w) (aV w) dT bH mI [] x∧E dT∧(bH x= -1∨q (bH x)=false)∧
   (∀z,dM ro' z→dM ro z)∧ai (dM ro) H H'):=by
 have ls:=aq w
 have iq:=xE (w:=w) x (by omega)
 have zp:=m.cells.Fu
 refine be wU ⟨rfl,?_⟩
 refine v1 gO.eq_1 ?_
 refine bA.intro (fun mm env H'=>∃ (ro':Nat→Rl) (l':List Value) (V':Int→Value) (dT:Int→List Int) (bH:Int→Int) (vY:Int→Option Nat) (mI:Int→List Int),mm=w.cs.length - (dT x).length∧xJ H' ro' B C w l' V' dT bH vY fF mI rb∧MM (aH w) (aV w) dT bH mI [] x∧E dT∧J H'∧
  (∀z,dM ro' z→dM ro z)∧ai (dM ro) H H'∧env=[(0,ptr B.n),(1,i64 g),(2,i64 x),(3,.func (.func fid) #[] tu.toArray)]) _ ⟨ro,l,V,ch,par,kb,rows,rfl,m,f,hE,hJ,fun _ h=>h,ai.refl _ _,rfl⟩ ?_
 clear m f hE hJ
 rintro mm env H1 ⟨Xe,l1,V1,O6,zv,YY,rF,rfl,m1,f1,hE1,hJ1,Jz,e1,rfl⟩
 obtain⟨D2,o1,_⟩:=m1.own
 refine v1 (ae o1) ?_
 refine(sj m1.fo.t iq).mono ?_
 rintro _ H' ⟨⟨hp,rfl⟩| ⟨hp,rfl⟩,e⟩
 ·obtain rfl:=e.symm
  refine vs ?_
  exact⟨Xe,l1,V1,O6,zv,YY,rF,m1,f1,hE1,.inl hp,Jz,e1⟩
 obtain rfl:=e.symm
 obtain⟨p,ZC⟩:∃p,p=zv x:=⟨_,rfl⟩
 rw[←ZC]at hp ⊢
 have K8:=f1.w.pr.up x p ZC.symm hp
 obtain⟨_,_,hpg,HX,_⟩:=f1.w.pr.dn p x K8
 have gv:=f1.w.less K8
 have hp0:=xE (w:=w) p (by omega)
 have bm:∀z,(O6 z).length≤w.cs.length:=fun z=>bY (f1.w.pr.nd z) fun c hc=>m1.fo.HR z c hc
 refine vs ?_
 refine⟨FD,?_⟩
 refine ah.mono (by simpa using hq H1 p hJ1 m1.cells (by omega)) ?_
 rintro _ H2 ⟨rfl,c2,e2⟩
 have m2:=m1.aK c2 e2 rfl
 have e2':ai (dM ro) H1 H2:=e2.mono fun z _ h=>Jz z (gf (m1.hC z h) nofun)
 have hJ2:=uB _ _ hJ1 (e2.mono fun z _ h=>⟨Jz z (gf (m1.hC z h) nofun),fun e=>by have:=m1.hC z h;rw[e,m1.rn]at this;cases this⟩)
 have sJ:=e1.trans e2'
 cases hqp:q p
 ·refine vs ?_
  exact⟨Xe,l1,V1,O6,zv,YY,rF,m2,f1,hE1,.inr (by rw[←ZC];exact hqp),Jz,sJ⟩
 obtain⟨Nz,o2,_⟩:=m2.own
 refine v1 (ae o2) ?_
 refine(sj m2.fo.t hp0).mono ?_
 have Xt:∀h,x∉rF h:=fun h hh=>hp (by rw[ZC];exact(f1.w.rm h x hh).2.1)
 have RD:zv p≠ -1→0≤zv p∧zv p<w.cs.length:=fun h=>by
  have:=(f1.w.pr.dn _ _ (f1.w.pr.up p _ rfl h)).2.2
  exact xE (w:=w) _ (by omega)
 have fin:∀ (H3:Hp) (CW:Int→List Int),xJ H3 Xe B C w l1 V1 O6 zv YY fF CW rb→(∀h,CW h=(rF h).map (jr x p))→J H3→ai (dM ro) H H3→∀ (K:Value→Hp→Prop),(∀H4,(∃m',m'<w.cs.length - (O6 x).length∧∃ (ro':Nat→Rl) (l':List Value) (V':Int→Value) (dT:Int→List Int) (bH:Int→Int) (vY:Int→Option Nat) (mI:Int→List Int),m'=w.cs.length - (dT x).length∧xJ H4 ro' B C w l' V' dT bH vY fF mI rb∧MM (aH w) (aV w) dT bH mI [] x∧E dT∧J H4∧
  (∀z,dM ro' z→dM ro z)∧ai (dM ro) H H4)→K (.bool true) H4)→ah Tryz.prog oZ [ptr B.fb,i64 x] H3 K:=fun H3 CW m3 Js hJ3 e3 K hK=>by
  refine(FQ m3.fo m3.hz f1.w iq hp0 K8 RD zp).mono ?_
  rintro _ H4 ⟨rfl,ro4,l4,V4,kb4,fo4,r4,hz4,e4,afV⟩
  have m4:=m3.SR fo4 (m3.cells.ext e4 (fun z hz hk=>by
   have:=m3.hC z hz
   rcases hk with hk| ⟨_,hk⟩<;>(rw[this]at hk;cases hk))) r4 hz4 (e4.mono fun z _ h=>.inl h)
  have e4':ai (dM ro) H3 H4:=e4.mono fun z _ h=>Jz z (by rcases h with h| ⟨_,h⟩<;>exact gf h nofun)
  have f4:=f1.up ls K8
  have Xu:(fun h=>(rF h).map (jr x p))=CW:=by funext h;exact(Js h).symm
  rw[Xu,List.map_nil]at f4
  have W3:(HP O6 x p x).length=(O6 p).length:=by unfold HP;rw[nA,amu]
  have:=bm p
  have akn:=e4.size
  refine hK H4 ⟨w.cs.length - (HP O6 x p x).length,by omega,ro4,l4,V4,_,_,kb4,CW,rfl,m4,f4,hEs _ _ _ p f1 K8 hqp hE1,uB _ _ hJ3 (e4.mono fun z _ h=>⟨Jz z (by rcases h with h| ⟨_,h⟩<;>exact gf h nofun),fun e=>by rw[e]at h;rcases h with h| ⟨_,h⟩<;>(rw[m3.rn]at h;cases h)⟩),fun z hz=>?_,e3.trans e4'⟩
  exact Jz z fun h=>hz (afV z h)
 rintro _ H' ⟨⟨Pu,rfl⟩| ⟨Pu,rfl⟩,e⟩
 ·obtain rfl:=e.symm
  have hpr:p∈rF g:=by
   rcases f1.w.ml p (by omega) Pu with h|h
   ·rw[hpg,OW]at h;exact h
   ·cases h
  obtain⟨lb,tc,sv,o3,q1,q2,HS,PY,s3⟩:=m2.Mf zP
  obtain⟨k0,Y2,ek0⟩:=anQ.1 hpr
  obtain⟨b,lr,rc,rfl,Xj,qb,qk0,ako,Wg,_⟩:=Sl.Uy s3 (i:=k0) (x:=p) (by rw[al5 Y2,ek0])
  have hlr:=bY (f1.w.rr g).nodup fun c hc=>xE (w:=w) c (by have:=f1.w.rm g c hc;omega)
  refine v1 (ae o3) ?_
  refine⟨⟨by omega,by omega⟩,?_⟩
  refine v5 (ae q1) al6 ama q2 (ae o3) ?_
  refine⟨⟨by omega,by omega⟩,?_⟩
  refine v4 (ae q1) al6 ama q2 ?_
  have kU:=(f1.w.rr g).nodup
  have abh:(rF g)[k0]? =some p:=by rw[al5 Y2,ek0]
  refine⟨i64 (k0:Int),(gz s3.rd p (by omega)).mono ?_,?_⟩
  ·rintro _ H' ⟨⟨j,rfl,hj⟩,e⟩
   obtain⟨hj0,hj⟩:=hj.resolve_left (fun h=>h.2 hpr)
   have ZV:=(al7.1 hj).1
   have:=(List.getElem?_inj ZV kU).1 (hj.trans abh.symm)
   exact⟨by rw[show j=(k0:Int) by omega],e⟩
  refine vs ?_
  refine⟨⟨by omega,by omega⟩,?_⟩
  refine v4 qb al6 ama Int.toNat_natCast ?_
  refine⟨by omega,?_⟩
  rw[Xj]at s3
  have s4:=s3.vX qb k0 (i64 x)
  have e3:ai (fun z=>rb g=some z) H2 (H2.wr b (lr.set k0 (i64 x))):=(ai.refl (fun z=>rb g=some z) _).wr (fun _=>Xj) _
  have SJ:(rF g).map (jr p x)=(rF g).map (jr x p):=anE fun c _=>by
   unfold jr
   by_cases e1:c=x
   ·by_cases e2:c=p
    ·rw[if_pos e2,if_pos e1];exact e1▸e2▸rfl
    ·rw[if_neg e2,if_pos e1,if_pos e1]
   ·by_cases e2:c=p
    ·rw[if_pos e2,if_neg e1,if_pos e2]
    ·rw[if_neg e2,if_neg e1,if_neg e1,if_neg e2]
  rw[←amO,Kz kU (Xt g) abh,SJ]at s4
  have Ss:((rF g).map (jr x p)).length=(rF g).length:=amu ..
  have m3:=m2.abg zP e3 PY (L':=(rF g).map (jr x p)) (by rw[Xj,Ss];exact s4)
  have YI:ai (dM ro) H2 (H2.wr b (lr.set k0 (i64 x))):=e3.mono fun z _ h=>Jz z (gf (m2.pQ g z zP.1 zP.2 h) nofun)
  obtain⟨YF,o4,_⟩:=m3.own
  refine v1 (ae o4) ?_
  refine fin _ _ m3 (fun h=>?_) (uB _ _ hJ2 (e3.mono fun z _ h=>⟨Jz z (gf (m2.pQ g z zP.1 zP.2 h) nofun),fun e=>by have:=m2.pQ g z zP.1 zP.2 h;rw[e,m2.rn]at this;cases this⟩)) (sJ.trans YI) _ fun H4 hh=>?_
  ·unfold aA
   split
   ·rename_i e;rw[e]
   ·rename_i e
    exact(BG (Xt h) (fun hh=>e (by rw[← (f1.w.rm h p hh).1,hpg,OW]))).symm
  obtain⟨m',hm',ro',l',V',dT,bH,vY,mI,h1,h2,h3,h4,h5,h6,h7⟩:=hh
  refine vs ?_
  exact⟨m',hm',ro',l',V',dT,bH,vY,mI,h1,h2,h3,h4,h5,h6,h7,trivial⟩
 ·obtain rfl:=e.symm
  have afW:∀h,p∉rF h:=fun h hh=>Pu (f1.w.rm h p hh).2.1
  refine v1 (ae o2) ?_
  refine fin H2 rF m2 (fun h=>(BG (Xt h) (afW h)).symm) hJ2 sJ _ fun H4 hh=>?_
  obtain⟨m',hm',ro',l',V',dT,bH,vY,mI,h1,h2,h3,h4,h5,h6,h7⟩:=hh
  refine vs ?_
  exact⟨m',hm',ro',l',V',dT,bH,vY,mI,h1,h2,h3,h4,h5,h6,h7,trivial⟩
end
end Go.Proofs.YtjlnnljohemifaaGreat

namespace Go.Proofs.YtjlnnljohemifaaGreat
open Go Go.Vc
theorem zA{H:Hp}{C:Nat→Prop}{w:Nw}{b3 b4 n c:Nat}{x:Int}{rest:List Value}(h3:H.own b3=some [ptr n])(h4:H.own b4=some [i64 x])(hn:H.own n=some (ptr c::rest))(cq:CQ H c C w){p:Int}(hx:0<aH w x)(hp:0<aH w p):
  ah Tryz.prog gI [i64 p,ptr b3,ptr b4] H fun v H'=>ay (v= .bool (aV w x p)∧CQ H' c C w∧ai C H H'):=by
 refine xU mixed qq (nt:=12) (by kernel_rfl) (by simp) ?_
 refine v4 dD.eq_1 (ae h3) (ae h4) (ae hn) ?_
 refine(cJ cq x p).mono ?_
 rintro _ H1 ⟨rfl,c1,e1⟩
 rw[jn (w:=w) (a:=x) (b:=p) hx hp]
 refine vs ?_
 exact⟨rfl,c1,e1⟩
set_option maxHeartbeats 1000000 in
theorem CX{n:Nat}{H:Hp}{S:Nat→Prop}{w:Nw}(h:iy n H S w)(x k s:Int):ah Tryz.prog jg [ptr n,i64 x,vV k s] H fun v H'=>ay (
  (¬w.dc x k s∧v= .bool false∧cC (iy n) S H H' w)∨(w.dc x k s∧v= .bool true∧∃y,w.cs[x.toNat]? =some y∧cC (iy n) S H H' (w.put x (y.1,k,s)))):=by
 obtain⟨B,ro,C,l,V,ch,par,kb,fF,rows,rb,rfl,m,f,hl,hS⟩:=h
 have hC:∀z,C z→S z:=fun z h=>(hS z).2 (gf (m.hC z h) nofun)
 have hSR:∀z,S z→z<H.size:=fun z hz=>m.slt z ((hS z).1 hz)
 refine be rZ ⟨rfl,?_⟩
 refine v1 ee.eq_1 ?_
 have f0:ax H (((H.new 198 [ptr B.n]).new 3 [i64 x]).new 224 [i64 k,u64 s]):=(((ai.refl _ _).new _ _).new _ _).new _ _
 have b3:(((H.new 198 [ptr B.n]).new 3 [i64 x]).new 224 [i64 k,u64 s]).own H.size=some [ptr B.n]:=by
  rw[cw (by simp only[au];omega),cw (by simp only[au];omega),aG]
 have b4:(((H.new 198 [ptr B.n]).new 3 [i64 x]).new 224 [i64 k,u64 s]).own (H.size+1)=some [i64 x]:=by
  rw[cw (by simp only[au];omega)]
  exact bD (by simp only[au])
 have b5:(((H.new 198 [ptr B.n]).new 3 [i64 x]).new 224 [i64 k,u64 s]).own (H.size+1+1)=some [i64 k,u64 s]:=bD (by simp only[au])
 have m0:=m.fresh f0
 generalize ((H.new 198 [ptr B.n]).new 3 [i64 x]).new 224 [i64 k,u64 s]=H0 at*
 have ff:ai S H H0:=f0.mono fun _ _ h=>h.elim
 obtain⟨tv,Ki,_⟩:=m0.own
 refine v4 (ae b3) (ae b4) (ae Ki) (ae b5) ?_
 refine(jm m0.cells x k s).mono ?_
 rintro _ H1 (⟨cr,rfl,c1,e1⟩| ⟨bS,rfl,y,hy,gv,c1,e1⟩)
 ·refine vs ?_
  exact .inl ⟨cr,rfl,cC.same ⟨B,ro,C,l,V,ch,par,kb,fF,rows,rb,rfl,m0.ext e1 (fun _ _ h=>h),f,hl,hS⟩ (ff.trans (e1.mono fun _ _ h=>h.elim))⟩
 have rB:(w.put x (y.1,k,s)).cs.length=w.cs.length:=by simp[Nw.put]
 have m1:=m0.aK c1 e1 rB
 have CC:w.dc x k s:=⟨bS,fun z hz=>by rw[hy]at hz;injection hz with hz;rw[←hz];exact gv⟩
 have hx:0≤x∧x<w.cs.length:=⟨bS.1,by have:=(al7.1 hy).1;have:=bS.1;omega⟩
 have Q3:aH w x=y.1:=ng bS.1 hy
 have dZ:=bK.2 bS
 have hw:aH (w.put x (y.1,k,s))=aH w:=by
  funext z
  rw[eC hx]
  split
  ·rename_i e;rw[e,Q3]
  ·rfl
 have FJ:cZ (w.put x (y.1,k,s)).cs x:=bK.1 (by rw[hw];exact dZ)
 have el:∀a b,0<aH w a→0<aH w b→a≠x→b≠x→aV (w.put x (y.1,k,s)) a b=aV w a b:=fun a b ha hb tM pt=>dG hx _ ha hb tM pt
 have ex:∀b,0<aH w b→b≠x→aV w x b=true→aV (w.put x (y.1,k,s)) x b=true:=fun b hb pt h=>Ct bS hy gv hb pt h
 have ls:=aq w
 have TF:=aq (w.put x (y.1,k,s))
 have nC:∀z,H.size≤z→¬C z:=fun z hz hc=>by have:=hSR z (hC z hc);omega
 have b31:=e1.own b3 (nC _ (ami _))
 have b41:=e1.own b4 (nC _ (by omega))
 obtain⟨D2,o1,_⟩:=m1.own
 have zP:=m.ST hl ((m.cells.hm x).2 dZ).1
 have hhl:(w.put x (y.1,k,s)).hs.length=w.hs.length:=by simp[Nw.put]
 refine v3 (ae b31) (ae b41) (ae o1) ?_
 refine(dt m1.cells x).mono ?_
 rintro _ H2 (⟨cr,_,_⟩| ⟨_,rfl,c2,e2⟩)
 ·exact absurd FJ cr
 have m2:=m1.aK c2 e2 rfl
 have sJ:ai S H H2:=(ff.trans (e1.mono fun z _ h=>hC z h)).trans (e2.mono fun z _ h=>hC z h)
 have b32:=e2.own b31 (nC _ (ami _))
 have b42:=e2.own b41 (nC _ (by omega))
 rw[hw]
 refine v2 (ae b32) (ae b42) ?_
 have f2:MM (aH (w.put x (y.1,k,s))) (aV (w.put x (y.1,k,s))) ch par rows [] x:=by
  rw[hw]
  exact MM.start ls f el
 have hE0:∀d∈ch x,aV (w.put x (y.1,k,s)) x d=true:=fun d hd=>by
  obtain⟨_,_,_,h4,h5⟩:=f.pr.dn x d hd
  exact ex d h4 (fun e=>by have:=f.less hd;rw[e]at this;omega) h5
 have hsR:∀z,dM ro z→z<H.size:=m.slt
 refine(Jb m2 f2 (g:=aH w x) (by rw[hw]) dZ zP gI [ptr H.size,ptr (H.size+1)] (fun p=>aV (w.put x (y.1,k,s)) x p) (fun H'=>H'.own H.size=some [ptr B.n]∧H'.own (H.size+1)=some [i64 x]∧∃tv,H'.own B.n=some [ptr B.c,ptr B.fb,tv])
  (fun ch=>∀d∈ch x,aV (w.put x (y.1,k,s)) x d=true) ?_ (fun H' GF hJ e=>?_) (by kernel_rfl) (fun H' p hJ cq hp=>?_) hE0 (fun ch par rows p cx K8 hq _=>cx.low TF K8 hq)).mono ?_
 ·obtain⟨Nz,o2,_⟩:=m2.own
  exact⟨b32,b42,Nz,o2⟩
 ·obtain⟨j1,j2,Nz,o2⟩:=hJ
  exact⟨e.own j1 (fun h=>by have:=hsR _ h.1;omega),e.own j2 (fun h=>by have:=hsR _ h.1;omega),Nz,e.own o2 (fun h=>h.2 rfl)⟩
 ·obtain⟨j1,j2,Nz,o2⟩:=hJ
  exact zA j1 j2 o2 cq (by rw[hw];exact dZ) hp
 rintro _ H3 ⟨Qu,l3,V3,MV,sz,Xp,CW,m3,f3,hE3,hq3,QY,e3⟩
 refine vs ?_
 have f4:=f3.done hE3 (fun hp=>by
  rcases hq3 with h|h
  ·exact absurd h hp
  ·have hxc:=f3.w.pr.up x _ rfl hp
   have Xv:=f3.w.less hxc
   exact(TF.OI (sz x) x (fun e=>by rw[e]at Xv;omega)).resolve_right (by rw[h];simp))
 have z2:=sJ.size
 refine .inr ⟨CC,rfl,y,hy,dM Qu,⟨B,Qu,C,l3,V3,MV,sz,Xp,fF,CW,rb,rfl,m3,f4,by rw[hl,hhl],fun z=>Iff.rfl⟩,sJ.trans (e3.mono fun z _ h=>(hS z).2 h),fun z hz=>.inl ((hS z).2 (QY z hz))⟩
theorem KF(cap:Int)(H:Hp):ah Tryz.prog Gl [i64 cap] H fun v H'=>ay (
  ax H H'∧((¬ (0≤cap∧cap≤65536)∧v= .tuple [.pointer none,i64 31].toArray)∨
   ((0≤cap∧cap≤65536)∧∃n S,v= .tuple [ptr n,i64 0].toArray∧iy n H' S (CA cap)∧∀x,S x→H.size≤x))):=by
 refine be Gr ⟨rfl,?_⟩
 refine v1 qm.eq_1 ?_
 refine(nT cap H).mono ?_
 rintro _ H1 ⟨f1,⟨hb,rfl⟩| ⟨hb,c,C,rfl,c1,hC⟩⟩
 ·refine vs ?_
  exact⟨f1,.inl ⟨hb,rfl⟩⟩
 refine vs ?_
 refine(Ho H1 hb).mono ?_
 rintro _ H2 ⟨fb,tb,l,rfl,t2,f2,hfb,Vg⟩
 have c2:=c1.fresh f2
 refine vs ?_
 have zF:=c1.slt
 have z1:=f1.size
 have z2:=f2.size
 have Vz:=t2.Sb
 have aT:=t2.ne
 have f3:ax H2 ((H2.new 24 [.slice none 0 0]).new 260 [ptr c,ptr fb,.slice (some ⟨H2.size,0,none⟩) 1 1]):=((ai.refl _ _).new _ _).new _ _
 have e2:ai (fun _=>False) (H2.new 24 [.slice none 0 0]) ((H2.new 24 [.slice none 0 0]).new 260 [ptr c,ptr fb,.slice (some ⟨H2.size,0,none⟩) 1 1]):=(ai.refl _ _).new _ _
 have z3:((H2.new 24 [.slice none 0 0]).new 260 [ptr c,ptr fb,.slice (some ⟨H2.size,0,none⟩) 1 1]).size=H2.size+1+1:=by simp only[au]
 obtain⟨ro,NV⟩:∃ro:Nat→Rl,ro=fun z=>if z=H2.size+1 then Rl.Sa else if z=H2.size then Rl.LQ else if z=fb then Rl.GV else if z=tb then Rl.table else @ite _ (C z) (Classical.propDecidable _) Rl.cell Rl.no:=⟨_,rfl⟩
 have r1:ro (H2.size+1)= .Sa:=by rw[NV];simp
 have r2:ro H2.size= .LQ:=by rw[NV];simp
 have r3:ro fb= .GV:=by rw[NV];show(if fb=H2.size+1 then _ else _)=_;rw[if_neg (by omega),if_neg (by omega),if_pos rfl]
 have r4:ro tb= .table:=by rw[NV];show(if tb=H2.size+1 then _ else _)=_;rw[if_neg (by omega),if_neg (by omega),if_neg (by omega),if_pos rfl]
 have r5:∀z,C z→ro z= .cell:=fun z hz=>by
  have:=zF z hz
  rw[NV];show(if z=H2.size+1 then _ else _)=_;rw[if_neg (by omega),if_neg (by omega),if_neg (by omega),if_neg (by omega),if_pos hz]
 have r6:∀z,ro z≠ .no→H.size≤z∧z<H2.size+1+1:=fun z hz=>by
  rw[NV]at hz
  simp only at hz
  split at hz
  ·omega
  ·split at hz
   ·omega
   ·split at hz
    ·omega
    ·split at hz
     ·omega
     ·split at hz
      ·rename_i h
       have:=hC z h
       have:=zF z h
       omega
      ·exact absurd rfl hz
 have rq:(CA cap).cs.length=cap.toNat:=by simp[CA]
 refine⟨(f1.trans f2).trans f3,.inr ⟨hb,H2.size+1,dM ro,rfl,⟨⟨H2.size+1,c,fb,tb,H2.size⟩,ro,C,l,fun _=>.slice none 0 0,fun _=>[],fun _=> -1,fun _=>none,[.slice none 0 0],fun _=>[],fun _=>none,rfl,⟨⟨.slice (some ⟨H2.size,0,none⟩) 1 1,bD (by simp only[au]),?_⟩,fun g h0 h1=>?_,c2.fresh f3,?_,r5,r1,r2,fun g b _ _ h=>(by cases h),fun z hz=>?_⟩,
  ⟨⟨rfl,fun x c hc=>absurd hc (by simp),fun c x h hx=>absurd (Eq.symm h) hx,fun x=>ani⟩,fun x i c hc=>by simp at hc,fun h=>List.Pairwise.nil,fun h c hc=>absurd hc (by simp),ani,fun c hc=>absurd hc (by simp),fun c hc=>absurd hc (nX cap c)⟩,rfl,fun z=>Iff.rfl⟩,fun z hz=>(r6 z hz).1⟩⟩
 ·exact(Sl.dE (size:=1) (n:=1) (xs:=[.slice none 0 0]) rfl rfl).ext e2 (fun _ _ h=>h)
 ·have h1:g<1:=h1
  have hg:g=0:=by omega
  subst hg
  exact⟨.slice none 0 0,rfl,Sl.nil _ _⟩
 ·rw[rq]
  exact⟨t2.ext f3 (fun h=>h) (fun h=>h),fun x h0 h1=>Sl.nil _ _,r3,r4,fun x b _ _ h=>(by cases h),fun x c hc=>absurd hc (by simp),fun _ _=>rfl⟩
 ·apply amr
  intro h
  have:=(r6 z h).2
  have hz':H2.size+1+1≤z:=by rw[←z3];exact hz
  omega
set_option maxHeartbeats 1000000 in
theorem Jc{n:Nat}{H:Hp}{S:Nat→Prop}{w:Nw}(h:iy n H S w):ah Tryz.prog nF [ptr n] H fun v H'=>ay (
  (w.hs.length=65537∧v=i64 0∧cC (iy n) S H H' w)∨(w.hs.length≠65537∧v=i64 w.hs.length∧cC (iy n) S H H' w.make)):=by
 obtain⟨B,ro,C,l,V,ch,par,kb,fF,rows,rb,rfl,m,f,hl,hS⟩:=id h
 obtain⟨tv,ho,EM⟩:=m.own
 refine be wT ⟨rfl,?_⟩
 refine v2 gN.eq_1 (ae ho) ?_
 refine(lX m.cells).mono ?_
 rintro _ H1 (⟨h1,rfl,rfl⟩| ⟨h1,rfl,C',c1,e1,Ba⟩)
 ·refine vs ?_
  exact .inl ⟨h1,rfl,cC.same h (ai.refl _ _)⟩
 have gD:=m.cells.pos
 have hhs:=m.cells.EM
 have slt:=m.slt
 have LW:=c1.slt
 have z1:=e1.size
 have nc:∀z q,ro z=q→q≠ .cell→¬C z:=fun z q h1 h2 hc=>h2 (by rw[←h1,m.hC z hc])
 have o1:=e1.own ho (nc _ _ m.rn nofun)
 refine vs ?_
 refine ak.cE (amj (by omega)) ?_
 refine v1 (ae o1) ?_
 have s1:=EM.ext e1 (fun b hb=>by injection hb with hb;subst hb;exact nc _ _ m.rr nofun)
 have fl:ax H1 (H1.new 24 [.slice none 0 0]):=(ai.refl _ _).new _ _
 have zl:(H1.new 24 [.slice none 0 0]).size=H1.size+1:=au _ _ _
 refine Sl.append (s1.ext fl (fun _ _ h=>h)) (Sl.dE (size:=1) (n:=1) (xs:=[.slice none 0 0]) rfl rfl).rd rfl (fun v hv=>by rw[amg.1 hv];rfl) (by omega) ?_
 intro w' H2 fL s2 e2' mr
 have e2:ai (fun z=>z=B.rp) H1 H2:=⟨amM fl.size e2'.size,fun z hz hn=>by
  rw[e2'.aN z (amv hz fl.size) (fun h=>hn (by injection h with h;exact h.symm)),fl.aN z hz (fun h=>h)]⟩
 obtain⟨b',rfl,wx⟩:∃b',fL=some b'∧(b'=B.rp∨H1.size≤b'∧b'<H2.size):=by
  rcases mr with rfl| ⟨b',rfl,h2,h3⟩
  ·exact⟨_,rfl,.inl rfl⟩
  ·exact⟨b',rfl,.inr ⟨by omega,h3⟩⟩
 have hnr:B.n≠B.rp:=fun e=>by have:=m.rn;rw[e,m.rr]at this;cases this
 have o2:=e2.own o1 hnr
 obtain⟨wa,wc,ND⟩:=Sl.shape s2
 subst ND
 refine v1 o2 ?_
 have hln:B.n<H.size:=slt _ (gf m.rn nofun)
 have hlr:B.rp<H.size:=slt _ (gf m.rr nofun)
 have e3:∀v,ai (fun z=>z=B.n) H2 (H2.wr B.n [ptr B.c,ptr B.fb,v]):=fun v=>(ai.refl (fun z=>z=B.n) _).wr (fun _=>rfl) _
 obtain⟨re,NV⟩:∃re:Nat→Rl,re=fun z=>if z=b' then Rl.LQ else if z<H.size then ro z else @ite _ (C' z) (Classical.propDecidable _) Rl.cell Rl.no:=⟨_,rfl⟩
 have r1:re b'= .LQ:=by rw[NV];show(if b'=b' then _ else _)=_;rw[if_pos rfl]
 have r2:∀z q,ro z=q→q≠ .no→q≠ .LQ→re z=q:=fun z q h1 h2 h3=>by
  have hz:=slt z (gf h1 h2)
  rw[NV]
  show(if z=b' then _ else _)=_
  rw[if_neg (fun e=>?_),if_pos hz,h1]
  rcases wx with h|h
  ·exact h3 (by rw[←h1,e,h,m.rr])
  ·omega
 have r3:∀z,C' z→re z= .cell:=fun z hz=>by
  have ZH:=LW z hz
  by_cases ez:z<H.size
  ·rcases Ba z hz with h|h
   ·exact r2 z _ (m.hC z h) nofun nofun
   ·omega
  ·rw[NV]
   show(if z=b' then _ else _)=_
   rw[if_neg (by omega),if_neg ez,if_pos hz]
 have r4:∀z,dM re z→dM ro z∨H.size≤z:=fun z hz=>by
  by_cases ez:z<H.size
  ·refine .inl fun h=>hz ?_
   rw[NV]
   show(if z=b' then _ else _)=_
   rw[if_neg (fun e=>?_),if_pos ez,h]
   rcases wx with h'|h'
   ·rw[e,h',m.rr]at h;cases h
   ·omega
  ·exact .inr (by omega)
 have r5:∀z,H2.size≤z→re z= .no:=fun z hz=>by
  have h2:=e2.size
  rw[NV]
  show(if z=b' then _ else _)=_
  rw[if_neg (by omega),if_neg (by omega),if_neg (fun h=>by have:=LW z h;omega)]
 have aaU:∀v,(H2.wr B.n [ptr B.c,ptr B.fb,v]).size=H2.size:=fun v=>gm _ _ _
 have Xw:∀z q,ro z=q→q≠ .LQ→z≠B.rp:=fun z q h1 h2 e=>h2 (by rw[←h1,e,m.rr])
 have HU:∀z q,ro z=q→q≠ .Sa→z≠B.n:=fun z q h1 h2 e=>h2 (by rw[←h1,e,m.rn])
 have akt:b'≠B.n:=by rcases wx with h|h<;>omega
 refine .inr ⟨h1,rfl,dM re,⟨⟨B.n,B.c,B.fb,B.tb,b'⟩,re,C',l,V,ch,par,kb,fF++[.slice none 0 0],rows,(fun k=>if k< (fF.length:Int)then rb k else none),rfl,⟨⟨_,aj o2,?_⟩,fun g h0 hg=>?_,?_,?_,r3,r2 _ _ m.rn nofun nofun,r1,fun g b h0 hg hb=>?_,fun z hz=>r5 z (by rw[aaU]at hz;exact hz)⟩,f,by rw[amh,hl];simp[Nw.make],fun z=>Iff.rfl⟩,?_,fun z hz=>(r4 z hz).imp_left fun h=>(hS z).2 h⟩
 ·rw[amh]
  exact s2.ext (e3 _) (fun b hb=>by injection hb with hb;omega)
 ·rw[amh,amx]at hg
  by_cases dw:g<fF.length
  ·obtain⟨sv,q1,q2⟩:=m.row g h0 dw
   refine⟨sv,by rw[amn (by omega)];exact q1,?_⟩
   rw[if_pos dw]
   exact((q2.ext e1 (fun b hb=>nc b _ (m.pQ g b h0 dw hb) nofun)).ext e2 (fun b hb=>Xw b _ (m.pQ g b h0 dw hb) nofun)).ext (e3 _) (fun b hb=>HU b _ (m.pQ g b h0 dw hb) nofun)
  ·have Sp:g=(fF.length:Int):=by omega
   have hre:rows g=[]:=by
    cases hc:rows g with
    |nil=>rfl
    |cons c r=>
     obtain⟨h5,_,h6,_⟩:=f.rm g c (by rw[hc];simp)
     have:=((m.cells.hm c).2 (by omega)).2
     omega
   refine⟨.slice none 0 0,by rw[Sp,Int.toNat_natCast,amw (ami _)];simp,?_⟩
   rw[hre,if_neg dw]
   exact Sl.nil _ _
 ·exact(c1.ext e2 (fun z hz e=>by
   rcases Ba z hz with h|h
   ·exact Xw z _ (m.hC z h) nofun e
   ·omega)).ext (e3 _) (fun z hz e=>by
   rcases Ba z hz with h|h
   ·exact HU z _ (m.hC z h) nofun e
   ·omega)
 ·have hft:∀z,(ro z= .GV∨KB ro z)→(¬C z∧z≠B.rp)∧z≠B.n:=fun z hz=>by
   rcases hz with h|h| ⟨x,h⟩<;>exact⟨⟨nc z _ h nofun,Xw z _ h nofun⟩,HU z _ h nofun⟩
  have f1:=((m.fo.ext e1 (fun z hz=>(hft z hz).1.1)).ext e2 (fun z hz=>(hft z hz).1.2)).ext (e3 (.slice wa (fF.length+1) wc)) (fun z hz=>(hft z hz).2)
  exact⟨f1.t,f1.kd,r2 _ _ f1.rf nofun nofun,r2 _ _ f1.rt nofun nofun,fun x b h0 h1 hb=>r2 _ _ (f1.rk x b h0 h1 hb) nofun nofun,f1.HR,f1.no⟩
 ·rw[amh,amx]at hg
  by_cases dw:g<fF.length
  ·rw[if_pos dw]at hb
   exact r2 _ _ (m.pQ g b h0 dw hb) nofun nofun
  ·rw[if_neg dw]at hb
   cases hb
 ·refine(((e1.mono fun z _ h=>?_).trans (e2.mono fun z _ h=>?_)).trans ((e3 _).mono fun z _ h=>?_):ai S H _)
  ·exact(hS z).2 (gf (m.hC z h) nofun)
  ·exact(hS z).2 (by rw[h];exact gf m.rr nofun)
  ·exact(hS z).2 (by rw[h];exact gf m.rn nofun)
theorem SU(n:Nat):zI (.iface 198 (ptr n)) (iy n) where
 slt h:=h.slt
 ext h e hd:=h.ext e hd
 cells:=by
  rintro H S w ⟨B,ro,C,l,V,ch,par,kb,fF,rows,rb,rfl,m,f,hl,hS⟩
  exact⟨B.c,C,m.cells⟩
 has:=by
  rintro H S w g ⟨B,ro,C,l,V,ch,par,kb,fF,rows,rb,rfl,m,f,hl,hS⟩
  obtain⟨tv,ho,_⟩:=m.own
  exact⟨_,_,bG,ptr B.c,rfl,ic (off:=0) (by kernel_rfl) (ae ho) rfl,(kH m.cells g).mono fun v H' hp=>hp⟩
 make:=by
  intro H S w h
  exact⟨_,_,nF,ptr n,rfl,bF (by kernel_rfl),(Jc h).mono fun v H' hp=>hp⟩
 insert:=by
  intro H S w g x k s h
  exact⟨_,_,k9,ptr n,rfl,bF (by kernel_rfl),(FT h g x k s).mono fun v H' hp=>hp⟩
 min:=by
  intro H S w g h
  refine⟨_,_,oY,ptr n,rfl,bF (by kernel_rfl),(CV h g).mono ?_⟩
  rintro v H' (⟨h1,rfl,h2,h3⟩| ⟨x,h1,rfl,h2,h3⟩)
  ·exact .inl ⟨h1,rfl,cC.same h2 h3⟩
  ·exact .inr ⟨x,h1,rfl,cC.same h2 h3⟩
 extract:=by
  intro H S w g h
  exact⟨_,_,kg,ptr n,rfl,bF (by kernel_rfl),(Ex h g).mono fun v H' hp=>hp⟩
 qH:=by
  intro H S w x k s h
  exact⟨_,_,jg,ptr n,rfl,bF (by kernel_rfl),(CX h x k s).mono fun v H' hp=>hp⟩
 entry:=by
  rintro H S w x ⟨B,ro,C,l,V,ch,par,kb,fF,rows,rb,rfl,m,f,hl,hS⟩
  obtain⟨tv,ho,_⟩:=m.own
  refine⟨_,_,bk,ptr B.c,rfl,ic (off:=0) (by kernel_rfl) (ae ho) rfl,(jk m.cells x).mono ?_⟩
  rintro v H' ⟨c1,f1,hv⟩
  exact⟨⟨B,ro,C,l,V,ch,par,kb,fF,rows,rb,rfl,m.fresh f1,f,hl,hS⟩,f1,hv⟩
theorem Bj(n:Nat)(H:Hp):ah Tryz.prog sM [ptr n,i64 0] H fun v H'=>ay (v= .tuple [.iface 198 (ptr n),i64 0].toArray∧H'=H):=by
 refine be sV ⟨rfl,?_⟩
 refine v2 eJ.eq_1 amp ?_
 exact⟨rfl,rfl⟩
theorem CY(n:Nat)(H:Hp):ah Tryz.prog tQ [ptr n,i64 0] H fun v H'=>ay (v= .tuple [.iface 202 (ptr n),i64 0].toArray∧H'=H):=by
 refine be tY ⟨rfl,?_⟩
 refine v2 fg.eq_1 amp ?_
 exact⟨rfl,rfl⟩
theorem CZ(n:Nat)(H:Hp):ah Tryz.prog tR [ptr n,i64 0] H fun v H'=>ay (v= .tuple [.iface 210 (ptr n),i64 0].toArray∧H'=H):=by
 refine be tZ ⟨rfl,?_⟩
 refine v2 fh.eq_1 amp ?_
 exact⟨rfl,rfl⟩
theorem Hr(n:Nat)(H:Hp):ah Tryz.prog yp [ptr n,i64 0] H fun v H'=>ay (v= .tuple [.iface 214 (ptr n),i64 0].toArray∧H'=H):=by
 refine be yM ⟨rfl,?_⟩
 refine v2 iC.eq_1 amp ?_
 exact⟨rfl,rfl⟩
theorem Hs(n:Nat)(H:Hp):ah Tryz.prog yq [ptr n,i64 0] H fun v H'=>ay (v= .tuple [.iface 218 (ptr n),i64 0].toArray∧H'=H):=by
 refine be yN ⟨rfl,?_⟩
 refine v2 iD.eq_1 amp ?_
 exact⟨rfl,rfl⟩
theorem KG{kd dd cap:Int}(hf:l9 kd dd)(hc:0≤cap∧cap≤65536)(H:Hp):ah Tryz.prog Jp [NB kd dd,i64 cap] H fun v H'=>ay (∃t vv I Sn,v= .tuple [.iface t vv,i64 0].toArray∧zI (.iface t vv) I∧I H' Sn (CA cap)∧ax H H'∧∀z,Sn z→H.size≤z):=by
 refine be Dx ⟨rfl,?_⟩
 refine v1 sU.eq_1 ?_
 have f0:ax H (H.new 23 [i64 kd,i64 dd]):=(ai.refl _ _).new _ _
 have o0:(H.new 23 [i64 kd,i64 dd]).own H.size=some [i64 kd,i64 dd]:=aG _ _ _
 have z0:(H.new 23 [i64 kd,i64 dd]).size=H.size+1:=au _ _ _
 generalize H.new 23 [i64 kd,i64 dd]=H0 at*
 obtain rfl|rfl|rfl|rfl|rfl|rfl|rfl|rfl:kd=1∨kd=2∨kd=3∨kd=4∨kd=5∨kd=6∨kd=7∨kd=8:=by have:=hf.1;omega
 ·refine ak.cE (by decide) ?_
  refine v1 (ae o0) ?_
  refine ak.cE (by decide) ?_
  refine v1 (ae o0) ?_
  refine(mc hf (by decide) H0).mono ?_
  rintro _ H1 ⟨rfl,f1⟩
  refine vs ?_
  refine(sr cap _ H1).mono ?_
  rintro _ H2 ⟨f2,⟨hb,rfl⟩| ⟨_,hd,rfl⟩| ⟨_,hd,n,Sn,rfl,h2,Ks⟩⟩
  ·exact absurd hc hb
  ·refine absurd ?_ hd
   obtain⟨_,h|h⟩:=hf
   ·first|exact⟨h.2.1,h.2.2⟩|exact absurd h.1 (by decide)
   ·first|exact⟨by decide,by decide⟩|exact absurd rfl h.1
  ·refine vs ?_
   refine(qN n H2).mono ?_
   rintro _ _ ⟨rfl,rfl⟩
   have z1:=f1.size
   refine vs ?_
   exact⟨_,_,_,Sn,rfl,Bf n _,⟨0,h2⟩,(f0.trans f1).trans f2,fun z hz=>by have:=Ks z hz;omega⟩
 ·refine ak.aX (by decide) ?_
  refine vs ?_
  refine ak.cE (by decide) ?_
  refine v1 (ae o0) ?_
  refine(mc hf (by decide) H0).mono ?_
  rintro _ H1 ⟨rfl,f1⟩
  refine vs ?_
  refine(sr cap _ H1).mono ?_
  rintro _ H2 ⟨f2,⟨hb,rfl⟩| ⟨_,hd,rfl⟩| ⟨_,hd,n,Sn,rfl,h2,Ks⟩⟩
  ·exact absurd hc hb
  ·refine absurd ?_ hd
   obtain⟨_,h|h⟩:=hf
   ·first|exact⟨h.2.1,h.2.2⟩|exact absurd h.1 (by decide)
   ·first|exact⟨by decide,by decide⟩|exact absurd rfl h.1
  ·refine vs ?_
   refine(qN n H2).mono ?_
   rintro _ _ ⟨rfl,rfl⟩
   have z1:=f1.size
   refine vs ?_
   exact⟨_,_,_,Sn,rfl,Bf n _,⟨0,h2⟩,(f0.trans f1).trans f2,fun z hz=>by have:=Ks z hz;omega⟩
 ·refine ak.aX (by decide) ?_
  refine vs ?_
  refine ak.aX (by decide) ?_
  refine vs ?_
  refine ak.cE (by decide) ?_
  refine vs ?_
  refine(KF cap H0).mono ?_
  rintro _ H2 ⟨f2,⟨hb,rfl⟩| ⟨_,n,Sn,rfl,h2,Ks⟩⟩
  ·exact absurd hc hb
  ·refine vs ?_
   refine(Bj n H2).mono ?_
   rintro _ _ ⟨rfl,rfl⟩
   refine vs ?_
   exact⟨_,_,_,Sn,rfl,SU n,h2,f0.trans f2,fun z hz=>by have:=Ks z hz;omega⟩
 ·refine ak.aX (by decide) ?_
  refine vs ?_
  refine ak.aX (by decide) ?_
  refine vs ?_
  refine ak.aX (by decide) ?_
  refine vs ?_
  refine ak.cE (by decide) ?_
  refine vs ?_
  refine(Ep cap H0).mono ?_
  rintro _ H2 ⟨f2,⟨hb,rfl⟩| ⟨_,n,Sn,rfl,h2,Ks⟩⟩
  ·exact absurd hc hb
  ·refine vs ?_
   refine(CY n H2).mono ?_
   rintro _ _ ⟨rfl,rfl⟩
   refine vs ?_
   exact⟨_,_,_,Sn,rfl,Ky n,h2,f0.trans f2,fun z hz=>by have:=Ks z hz;omega⟩
 ·refine ak.aX (by decide) ?_
  refine vs ?_
  refine ak.aX (by decide) ?_
  refine vs ?_
  refine ak.aX (by decide) ?_
  refine vs ?_
  refine ak.aX (by decide) ?_
  refine vs ?_
  refine ak.cE (by decide) ?_
  refine vs ?_
  refine(CL cap H0).mono ?_
  rintro _ H2 ⟨f2,⟨hb,rfl⟩| ⟨_,n,Sn,rfl,h2,Ks⟩⟩
  ·exact absurd hc hb
  ·refine vs ?_
   refine(pC n H2).mono ?_
   rintro _ _ ⟨rfl,rfl⟩
   refine vs ?_
   exact⟨_,_,_,Sn,rfl,L9 n,h2,f0.trans f2,fun z hz=>by have:=Ks z hz;omega⟩
 ·refine ak.aX (by decide) ?_
  refine vs ?_
  refine ak.aX (by decide) ?_
  refine vs ?_
  refine ak.aX (by decide) ?_
  refine vs ?_
  refine ak.aX (by decide) ?_
  refine vs ?_
  refine ak.aX (by decide) ?_
  refine vs ?_
  refine ak.cE (by decide) ?_
  refine vs ?_
  refine(D8 cap H0).mono ?_
  rintro _ H2 ⟨f2,⟨hb,rfl⟩| ⟨_,n,Sn,rfl,h2,Ks⟩⟩
  ·exact absurd hc hb
  ·refine vs ?_
   refine(CZ n H2).mono ?_
   rintro _ _ ⟨rfl,rfl⟩
   refine vs ?_
   exact⟨_,_,_,Sn,rfl,Kj n,h2,f0.trans f2,fun z hz=>by have:=Ks z hz;omega⟩
 ·refine ak.aX (by decide) ?_
  refine vs ?_
  refine ak.aX (by decide) ?_
  refine vs ?_
  refine ak.aX (by decide) ?_
  refine vs ?_
  refine ak.aX (by decide) ?_
  refine vs ?_
  refine ak.aX (by decide) ?_
  refine vs ?_
  refine ak.aX (by decide) ?_
  refine vs ?_
  refine ak.cE (by decide) ?_
  refine vs ?_
  refine(I5 cap H0).mono ?_
  rintro _ H2 ⟨f2,⟨hb,rfl⟩| ⟨_,n,Sn,rfl,h2,Ks⟩⟩
  ·exact absurd hc hb
  ·refine vs ?_
   refine(Hr n H2).mono ?_
   rintro _ _ ⟨rfl,rfl⟩
   refine vs ?_
   exact⟨_,_,_,Sn,rfl,Qo n,h2,f0.trans f2,fun z hz=>by have:=Ks z hz;omega⟩
 ·refine ak.aX (by decide) ?_
  refine vs ?_
  refine ak.aX (by decide) ?_
  refine vs ?_
  refine ak.aX (by decide) ?_
  refine vs ?_
  refine ak.aX (by decide) ?_
  refine vs ?_
  refine ak.aX (by decide) ?_
  refine vs ?_
  refine ak.aX (by decide) ?_
  refine vs ?_
  refine ak.aX (by decide) ?_
  refine vs ?_
  refine(IY cap H0).mono ?_
  rintro _ H2 ⟨f2,⟨hb,rfl⟩| ⟨_,n,Sn,rfl,h2,Ks⟩⟩
  ·exact absurd hc hb
  ·refine vs ?_
   refine(Hs n H2).mono ?_
   rintro _ _ ⟨rfl,rfl⟩
   refine vs ?_
   exact⟨_,_,_,Sn,rfl,NK n,⟨0,h2⟩,f0.trans f2,fun z hz=>by have:=Ks z hz;omega⟩
theorem SV{kd dd:Int}(hf:l9 kd dd):EP kd dd:=fun _ hc H=>KG hf hc H
end Go.Proofs.YtjlnnljohemifaaGreat
