/-
  Texts put behind each other by a program: Bin4, Bin5, Bin6, Bin7, Bin8, Bin9, Pq4.
-/
import Derived.Test.YtjlnnljohemifaaGreatK1
import Derived.Test.YtjlnnljohemifaaGreatK21
import Derived.Test.YtjlnnljohemifaaGreatK22
import Derived.Test.YtjlnnljohemifaaGreatK23
set_option linter.unusedVariables false
set_option linter.unusedSimpArgs false
namespace Go.Proofs.YtjlnnljohemifaaGreat
open Go Go.Vc
structure YD where
 n:Nat
 c:Nat
 fb:Nat
 tb:Nat
 rp:Nat
structure xD(H:Hp)(ro:Nat→Rl)(B:YD)(C:Nat→Prop)(w:Nw)(l:List Value)(V:Int→Value)(ch:Int→List Int)(par:Int→Int)(kb:Int→Option Nat)(fD:List Value)(rows:Int→List Int)(rb:Int→Option Nat):Prop where
 own:∃tv,H.own B.n=some [ptr B.c,ptr B.fb,tv]∧Sl H 1 tv fD.length fD (some B.rp)
 row:∀g:Int,0≤g→g<fD.length→∃sv,fD[g.toNat]? =some sv∧Sl H 1 sv (rows g).length ((rows g).map i64) (rb g)
 cells:CQ H B.c C w
 fo:ForM H ro B.fb B.tb w.cs.length l V ch par kb
 hC:∀z,C z→ro z= .cell
 rn:ro B.n= .RM
 rr:ro B.rp= .LC
 pG:∀ (g:Int) b,0≤g→g<fD.length→rb g=some b→ro b= .row g
 hz:∀z,H.size≤z→ro z= .no
def dK(ro:Nat→Rl)(z:Nat):Prop:=ro z≠ .no
section
variable {H H' : Hp} {ro ro' : Nat → Rl} {B : YD} {C T : Nat → Prop} {w w' : Nw} {l l' : List Value} {V V' : Int → Value} {ch dT : Int → List Int} {par bG : Int → Int} {kb vQ : Int → Option Nat} {fD : List Value} {rows : Int → List Int} {rb : Int → Option Nat} {lt : Int → Int → Bool} {W W0 L : List Int}
theorem xD.slt(m:xD H ro B C w l V ch par kb fD rows rb):∀z,dK ro z→z<H.size:=fun z hz=>by
 apply Classical.byContradiction
 intro h
 exact hz (m.hz z (by omega))
theorem fZ{ro:Nat→Rl}{z:Nat}{r:Rl}(h:ro z=r)(hr:r≠ .no):dK ro z:=fun e=>hr (by rw[←h,e])
theorem xD.ext(m:xD H ro B C w l V ch par kb fD rows rb)(e:ai T H H')(hd:∀z,dK ro z→¬T z):xD H' ro B C w l V ch par kb fD rows rb:=by
 obtain⟨tv,h1,h2⟩:=m.own
 have hs:=e.size
 refine⟨⟨tv,e.own h1 (hd _ (fZ m.rn nofun)),h2.ext e (fun b hb=>by injection hb with hb;subst hb;exact hd _ (fZ m.rr nofun))⟩,fun g h0 h1=>?_,m.cells.ext e (fun z hz=>hd z (fZ (m.hC z hz) nofun)),m.fo.ext e (fun z hz=>?_),m.hC,m.rn,m.rr,m.pG,fun z hz=>m.hz z (by omega)⟩
 ·obtain⟨sv,q1,q2⟩:=m.row g h0 h1
  exact⟨sv,q1,q2.ext e (fun b hb=>hd b (fZ (m.pG g b h0 h1 hb) nofun))⟩
 ·rcases hz with h|h| ⟨x,h⟩<;>exact hd z (fZ h nofun)
theorem xD.fresh(m:xD H ro B C w l V ch par kb fD rows rb)(e:ay H H'):xD H' ro B C w l V ch par kb fD rows rb:=m.ext e fun _ _ h=>h
theorem xD.aK(m:xD H ro B C w l V ch par kb fD rows rb)(c1:CQ H' B.c C w')(e:ai C H H')(hl:w'.cs.length=w.cs.length):xD H' ro B C w' l V ch par kb fD rows rb:=by
 obtain⟨tv,h1,h2⟩:=m.own
 have hs:=e.size
 have hd:∀z r,ro z=r→r≠ .cell→¬C z:=fun z r h1 h2 hc=>h2 (by rw[←h1,m.hC z hc])
 refine⟨⟨tv,e.own h1 (hd _ _ m.rn nofun),h2.ext e (fun b hb=>by injection hb with hb;subst hb;exact hd _ _ m.rr nofun)⟩,fun g h0 h1=>?_,c1,?_,m.hC,m.rn,m.rr,m.pG,fun z hz=>m.hz z (by omega)⟩
 ·obtain⟨sv,q1,q2⟩:=m.row g h0 h1
  exact⟨sv,q1,q2.ext e (fun b hb=>hd b _ (m.pG g b h0 h1 hb) nofun)⟩
 ·rw[hl]
  refine m.fo.ext e (fun z hz=>?_)
  rcases hz with h|h| ⟨x,h⟩<;>exact hd z _ h nofun
theorem xD.Sx(m:xD H ro B C w l V ch par kb fD rows rb)(f:ForM H' ro' B.fb B.tb w.cs.length l' V' dT bG vQ)(c1:CQ H' B.c C w)(r:RK H.size ro ro')(hz:∀z,H'.size≤z→ro' z= .no)(e:ai (KC ro) H H'):xD H' ro' B C w l' V' dT bG vQ fD rows rb:=by
 obtain⟨tv,h1,h2⟩:=m.own
 have hd:∀z q,ro z=q→(∀x,q≠ .sz x)→q≠ .table→q≠ .cell→¬KC ro z:=fun z q h1 h2 h3 h4 hc=>by
  rcases hc with (hc| ⟨x,hc⟩)|hc
  ·exact h3 (by rw[←h1,hc])
  ·exact h2 x (by rw[←h1,hc])
  ·exact h4 (by rw[←h1,hc])
 have hk:∀z q,ro z=q→q≠ .no→(∀x,q≠ .sz x)→ro' z=q:=fun z q h1 h2 h3=>by
  rw[r.o z (m.slt z (fZ h1 h2)) (fun x e=>h3 x (by rw[←h1,e])),h1]
 refine⟨⟨tv,e.own h1 (hd _ _ m.rn nofun nofun nofun),h2.ext e (fun b hb=>by injection hb with hb;subst hb;exact hd _ _ m.rr nofun nofun nofun)⟩,fun g h0 h1=>?_,c1,f,fun z hz=>hk z _ (m.hC z hz) nofun nofun,hk _ _ m.rn nofun nofun,hk _ _ m.rr nofun nofun,fun g b h0 h1 hb=>hk b _ (m.pG g b h0 h1 hb) nofun nofun,hz⟩
 obtain⟨sv,q1,q2⟩:=m.row g h0 h1
 exact⟨sv,q1,q2.ext e (fun b hb=>hd b _ (m.pG g b h0 h1 hb) nofun nofun nofun)⟩
theorem xD.Vh(m:xD H ro B C w l V ch par kb fD rows rb){g:Int}(hg:0≤g∧g<fD.length){H1:Hp}(e0:ai (fun z=>rb g=some z) H H1){lb:List Value}(Hx:H1.own B.rp=some lb){sv:Value}{L':List Int}{o:Option Nat}(s:Sl H1 1 sv L'.length (L'.map i64) o)(ho:∀b,o=some b→ro b= .no∨ro b= .row g):
  xD (H1.wr B.rp (lb.set g.toNat sv)) (fun z=>if o=some z then .row g else ro z) B C w l V ch par kb (fD.set g.toNat sv) (aA rows g L') (fun k=>if k=g then o else rb k)∧ai (dK ro) H (H1.wr B.rp (lb.set g.toNat sv))∧
   (∀z,dK (fun z=>if o=some z then .row g else ro z) z→dK ro z∨o=some z):=by
 obtain⟨tv,h1,h2⟩:=m.own
 have e:ai (fun z=>z=B.rp) H1 (H1.wr B.rp (lb.set g.toNat sv)):=(ai.refl (fun z=>z=B.rp) _).wr (fun _=>rfl) _
 have Pm:(H1.wr B.rp (lb.set g.toNat sv)).size=H1.size:=gh _ _ _
 have hs0:=e0.size
 have KI:∀z q,ro z=q→q≠ .no→q≠ .row g→(if o=some z then Rl.row g else ro z)=q:=fun z q h1 h2 h3=>by
  rw[if_neg (fun e=>by rcases ho z e with h|h;exact h2 (by rw[←h1,h]);exact h3 (by rw[←h1,h])),h1]
 have ne:∀z q,ro z=q→q≠ .LC→z≠B.rp:=fun z q h1 h2 e=>h2 (by rw[←h1,e,m.rr])
 have n0:∀z q,ro z=q→q≠ .row g→¬rb g=some z:=fun z q h1 h2 h3=>h2 (by rw[←h1,m.pG g z hg.1 hg.2 h3])
 have hob:∀b,o=some b→b≠B.rp:=fun b hb e=>by rcases ho b hb with h|h<;>(rw[e,m.rr]at h;cases h)
 obtain⟨ta,tc,rfl⟩:=Sl.shape h2
 have hta:ta=some ⟨B.rp,0,none⟩:=by
  obtain⟨_,_,_,hh,_⟩:=h2
  injection hh with hh
 subst hta
 have h3:=h2.ext e0 (fun b hb=>by injection hb with hb;subst hb;exact n0 _ _ m.rr nofun)
 refine⟨⟨⟨_,e.own (e0.own h1 (n0 _ _ m.rn nofun)) (ne _ _ m.rn nofun),?_⟩,fun k h0 h1=>?_,(m.cells.ext e0 (fun z hz=>n0 z _ (m.hC z hz) nofun)).ext e (fun z hz=>ne z _ (m.hC z hz) nofun),?_,fun z hz=>KI z _ (m.hC z hz) nofun nofun,KI _ _ m.rn nofun nofun,KI _ _ m.rr nofun nofun,fun k b h0 h1 hb=>?_,fun z hz=>?_⟩,
  (e0.mono fun z _ h=>fZ (m.pG g z hg.1 hg.2 h) nofun).trans (e.mono fun z _ h=>by rw[h];exact fZ m.rr nofun),fun z hz=>?_⟩
 ·rw[List.length_set]
  exact h3.vP Hx g.toNat sv
 ·rw[List.length_set]at h1
  by_cases hk:k=g
  ·subst hk
   refine⟨sv,by rw[List.getElem?_set_self (by omega)],?_⟩
   unfold aA
   rw[if_pos rfl,if_pos rfl]
   exact s.ext e (fun b hb=>hob b hb)
  ·obtain⟨sv',q1,q2⟩:=m.row k h0 h1
   refine⟨sv',by rw[List.getElem?_set_ne (by omega)];exact q1,?_⟩
   unfold aA
   rw[if_neg hk,if_neg hk]
   exact(q2.ext e0 (fun b hb=>n0 b _ (m.pG k b h0 h1 hb) (fun e=>hk (by injection e)))).ext e (fun b hb=>ne b _ (m.pG k b h0 h1 hb) nofun)
 ·have f1:=(m.fo.ext e0 (fun z hz=>by rcases hz with h|h| ⟨x,h⟩<;>exact n0 z _ h nofun)).ext e (fun z hz=>by rcases hz with h|h| ⟨x,h⟩<;>exact ne z _ h nofun)
  exact⟨f1.t,f1.kd,KI _ _ f1.rf nofun nofun,KI _ _ f1.rt nofun nofun,fun x b h0 h1 hb=>KI _ _ (f1.rk x b h0 h1 hb) nofun nofun,f1.Hw,f1.no⟩
 ·rw[List.length_set]at h1
  by_cases hk:k=g
  ·rw[if_pos hk]at hb
   rw[if_pos hb,hk]
  ·rw[if_neg hk]at hb
   have:=m.pG k b h0 h1 hb
   exact KI b _ this nofun (fun e=>hk (by injection e))
 ·rw[Pm]at hz
  rw[if_neg (fun e=>?_),m.hz z (by omega)]
  cases o with
  |none=>cases e
  |some b=>
   injection e with e
   have:=Sl.lt s
   omega
 ·by_cases h:o=some z
  ·exact .inr h
  ·refine .inl fun h2=>hz ?_
   simp only[if_neg h]
   exact h2
theorem xD.LS(m:xD H ro B C w l V ch par kb fD rows rb){g:Int}(hg:0≤g∧g<fD.length):∃lb tc sv,H.own B.n=some [ptr B.c,ptr B.fb,.slice (some ⟨B.rp,0,none⟩) fD.length tc]∧H.own B.rp=some lb∧lb[g.toNat]? =some sv∧g.toNat<lb.length∧fD[g.toNat]? =some sv∧
  Sl H 1 sv (rows g).length ((rows g).map i64) (rb g):=by
 obtain⟨tv,h1,h2⟩:=m.own
 obtain⟨sv,q1,q2⟩:=m.row g hg.1 hg.2
 obtain⟨_,lb,tc,rfl,ho,hc,hl,ht⟩:=h2
 refine⟨lb,tc,sv,h1,ho,?_,by omega,q1,q2⟩
 have h7:=q1
 rw[←ht,List.getElem?_take]at h7
 split at h7
 ·exact h7
 ·cases h7
theorem Sl.rdB{sv:Value}{L:List Int}{fp:Option Nat}{Bd:Nat}(s:Sl H 1 sv L.length (L.map i64) fp)(hf:∀b,fp=some b→b<Bd∧¬KC ro b):G3 H ro Bd sv L:=by
 cases fp with
 |none=>
  obtain⟨_,h2,rfl⟩:=s
  exact⟨none,0,by rw[h2],by omega,.inl (List.length_eq_zero_iff.1 h2)⟩
 |some b=>
  obtain⟨_,lb,c,rfl,ho,hc,hl,ht⟩:=s
  obtain⟨h1,h2⟩:=hf b rfl
  refine⟨_,c,rfl,hc,.inr ⟨b,0,lb,rfl,h1,h2,ae ho,by omega,?_⟩⟩
  rw[List.drop_zero]
  rw[Nat.mul_one]at ht
  exact ht
set_option maxHeartbeats 1000000 in
theorem CN(m:xD H ro B C w l V ch par kb fD rows rb){g:Int}{lv:Value}(Vb:G3 H ro H.size lv L)(aR:∀a b,aT w a b=true→lt a b=true)(f:lY (aH w) lt ch par rows (L++W0))(hL:FW ch L)(hg:∀c∈L,aH w c=g)(zI:0≤g∧g<fD.length):
  ah Tryz.prog yo [ptr B.n,i64 g,lv] H fun v H'=>ax (∃ro' l' V' dT bG vQ Sy mB rb',xD H' ro' B C w l' V' dT bG vQ Sy mB rb'∧lY (aH w) lt dT bG mB W0∧Sy.length=fD.length∧(∀z∈W0,dT z=ch z)∧
   (∀z,dK ro' z→dK ro z∨H.size≤z)∧ai (dK ro) H H'):=by
 obtain⟨lb,tc,sv,o1,q1,q2,Hx,_,s2⟩:=m.LS zI
 obtain⟨va,vc,rfl⟩:=Sl.shape s2
 obtain⟨aL,cL,rfl,hcL⟩:=Vb.cap
 have hra:G3 H ro H.size (.slice va (rows g).length vc) (rows g):=Sl.rdB s2 (fun b hb=>by
  have h5:=m.pG g b zI.1 zI.2 hb
  refine⟨m.slt b (fZ h5 nofun),fun hc=>?_⟩
  rcases hc with (hc| ⟨x,hc⟩)|hc<;>(rw[h5]at hc;cases hc))
 have h0:se H ro B.n B.fb B.tb B.c C w H ro l V ch par kb (.slice va (rows g).length vc) (.slice aL L.length cL) (rows g) L:=⟨m.fo,m.cells,m.hC,⟨_,o1⟩,m.rn,m.hz,RK.refl m.hz,hra,Vb,ai.refl _ _⟩
 have f1:=f.loose g
 have PP:∀c∈rows g,aH w c=g:=fun c hc=>(f.rm g c hc).1
 refine bc yP ⟨rfl,?_⟩
 refine v1 oW.eq_1 ?_
 refine rV.intro (fun H'=>H'.own B.n=some [ptr B.c,ptr B.fb,.slice (some ⟨B.rp,0,none⟩) fD.length tc]) o1 ?_
 refine vs ?_
 refine rW.intro (.slice (some ⟨B.rp,0,none⟩) fD.length tc) (fun H' hI=>by refine v1 (ae hI) ?_;trivial) ?_
 refine vs ?_
 have hgi:0≤g∧g< (fD.length:Int):=zI
 have key:∀K:Value→Hp→Prop,(∀out ro' l' V' dT bG vQ vo fo H',se H ro B.n B.fb B.tb B.c C w H' ro' l' V' dT bG vQ (.slice none 0 0) (.slice none 0 0) [] []→Sl H' 1 vo out.length (out.map i64) fo→(∀z,fo=some z→H.size≤z∧ro' z= .no)→lY (aH w) lt dT bG (aA rows g []) (out++W0)→FW dT out→(∀c∈out,aH w c=g)→(∀z∈W0,dT z=ch z)→K (.tuple [vo,.bool true].toArray) H')→
   ah Tryz.prog nw [ptr B.fb,.iface 198 (ptr B.n),.slice va (rows g).length vc,.slice aL L.length cL] H K:=fun K hK=>by
  refine(Ek h0 aR f1 (f.rr g) hL (fun c hc=>by rcases hc with h|h;exact PP c h;exact hg c h)).mono ?_
  rintro _ H' ⟨out,ro',l',V',dT,bG,vQ,vo,fo,rfl,h1,h2,h3,h4,h5,h6,h7⟩
  exact hK out ro' l' V' dT bG vQ vo fo H' h1 h2 h3 h4 h5 h6 h7
 refine Jd.intro ?A ?B
 case' A=>
  refine v1 (ae o1) ?_
  refine And.intro o1 ?_
  refine v1 (ae o1) ?_
  refine And.intro o1 ?_
  refine vs ?_
  refine⟨⟨by omega,by omega⟩,?_⟩
  refine v4 (ae q1) Nat.zero_add Nat.mul_one q2 ?_
  refine And.intro o1 ?_
  refine vs ?_
 case' B=>
  refine v1 (ae o1) ?_
  refine And.intro o1 ?_
  refine vs ?_
  refine⟨⟨by omega,by omega⟩,?_⟩
  refine vs ?_
  refine Jd.intro ?C ?D
  case' C=>
   refine v1 (ae o1) ?_
   refine And.intro o1 ?_
   refine v4 (ae q1) Nat.zero_add Nat.mul_one q2 ?_
   refine And.intro o1 ?_
   refine vs ?_
  case' D=>
   refine v4 (ae q1) Nat.zero_add Nat.mul_one q2 ?_
   refine And.intro o1 ?_
   refine v1 (ae o1) ?_
   refine And.intro o1 ?_
   refine vs ?_
 all_goals
  refine key _ fun out qO l2 V2 n7 lS EH vo fo2 H2 h2 EL QL f2 r2 g2 w2=>?_
  obtain⟨vb,vc2,rfl⟩:=Sl.shape EL
  have m2:=m.Sx h2.m h2.cq h2.rk h2.hz h2.e
  obtain⟨lb2,tc2,sv2,o2,q3,q4,ajI,_,_⟩:=m2.LS zI
  have o2':H2.own B.n=some [ptr B.c,ptr B.fb,.slice (some ⟨B.rp,0,none⟩) fD.length tc]:=h2.e.own o1 (fun hc=>by
   rcases hc with (hc| ⟨x,hc⟩)|hc<;>(rw[m.rn]at hc;cases hc))
  refine And.intro o2' ?_
  refine vs ?_
  refine⟨⟨by omega,by omega⟩,?_⟩
  refine v3 q3 Nat.zero_add Nat.mul_one ?_
  refine⟨by omega,?_⟩
  obtain⟨m3,e3,QD⟩:=m2.Vh zI (ai.refl _ _) q3 EL (fun b hb=>.inl (QL b hb).2)
  refine vs ?_
  have hnr:B.n≠B.rp:=fun e=>by have:=m2.rn;rw[e,m2.rr]at this;cases this
  refine And.intro (((ai.refl (fun z=>z=B.rp) _).wr (fun _=>rfl) _:ai (fun z=>z=B.rp) H2 _).own o2' hnr) ?_
  refine vs ?_
  have f3:=f2.row (g:=g) (by unfold aA;rw[if_pos rfl]) r2 g2
  rw[eJ]at f3
  have NH:∀z,dK qO z→dK ro z∨H.size≤z:=fun z hz=>by
   by_cases Oy:z<H.size
   ·refine .inl fun h=>hz ?_
    exact h2.rk.none Oy h
   ·exact .inr (by omega)
  refine⟨_,l2,V2,n7,lS,EH,_,_,_,m3,f3,List.length_set ..,w2,fun z hz=>?_,?_⟩
  ·rcases QD z hz with h|h
   ·exact NH z h
   ·exact .inr (QL z h).1
  ·have e2:ai (dK ro) H H2:=h2.e.mono fun z _ h=>by
    rcases h with (h| ⟨x,h⟩)|h<;>exact fZ h nofun
   exact⟨Nat.le_trans e2.size e3.size,fun z hz hn=>by
    rw[e3.aN z (Nat.lt_of_lt_of_le hz e2.size) (fun h=>by
     rcases NH z h with h|h
     ·exact hn h
     ·omega),e2.aN z hz hn]⟩
end
end Go.Proofs.YtjlnnljohemifaaGreat

namespace Go.Proofs.YtjlnnljohemifaaGreat
open Go Go.Vc
def iu(n:Nat)(H:Hp)(S:Nat→Prop)(w:Nw):Prop:=∃ (B:YD) (ro:Nat→Rl) (C:Nat→Prop) (l:List Value) (V:Int→Value) (ch:Int→List Int) (par:Int→Int) (kb:Int→Option Nat) (fD:List Value) (rows:Int→List Int) (rb:Int→Option Nat),
 B.n=n∧xD H ro B C w l V ch par kb fD rows rb∧lY (aH w) (aT w) ch par rows []∧fD.length=w.hs.length∧∀z,S z↔dK ro z
theorem iu.slt{n:Nat}{H:Hp}{S:Nat→Prop}{w:Nw}(h:iu n H S w):∀z,S z→z<H.size:=by
 obtain⟨B,ro,C,l,V,ch,par,kb,fD,rows,rb,rfl,m,f,hl,hS⟩:=h
 exact fun z hz=>m.slt z ((hS z).1 hz)
theorem iu.ext{n:Nat}{H H':Hp}{S T:Nat→Prop}{w:Nw}(h:iu n H S w)(e:ai T H H')(hd:∀z,S z→¬T z):iu n H' S w:=by
 obtain⟨B,ro,C,l,V,ch,par,kb,fD,rows,rb,rfl,m,f,hl,hS⟩:=h
 exact⟨B,ro,C,l,V,ch,par,kb,fD,rows,rb,rfl,m.ext e (fun z hz=>hd z ((hS z).2 hz)),f,hl,hS⟩
section
variable {H H' : Hp} {ro ro' : Nat → Rl} {B : YD} {C T : Nat → Prop} {w w' : Nw} {l l' : List Value} {V V' : Int → Value} {ch dT : Int → List Int} {par bG : Int → Int} {kb vQ : Int → Option Nat} {fD : List Value} {rows : Int → List Int} {rb : Int → Option Nat} {lt : Int → Int → Bool} {W W0 L : List Int}
theorem xD.Sz(m:xD H ro B C w l V ch par kb fD rows rb)(hl:fD.length=w.hs.length){g:Int}(h:w.has g):0≤g∧g<fD.length:=by
 have h1:=h.1
 have:=(List.getElem?_eq_some_iff.1 h.2).1
 omega
theorem Ki(m:xD H ro B C w l V ch par kb fD rows rb)(f:lY (aH w) lt ch par rows W)(hl:fD.length=w.hs.length)(g:Int):ah Tryz.prog yp [ptr B.n,i64 g] H fun v H'=>ax ((∃o,Sl H 1 v (rows g).length ((rows g).map i64) o∧∀b,o=some b→b<H.size∧¬KC ro b)∧H'=H):=by
 obtain⟨tv,ho,_⟩:=m.own
 refine bc yQ ⟨rfl,?_⟩
 refine v2 iJ.eq_1 (ae ho) ?_
 refine(kC m.cells g).mono ?_
 rintro _ _ ⟨rfl,rfl⟩
 refine vs ?_
 by_cases hg:w.has g
 ·rw[decide_eq_true hg]
  have zI:=m.Sz hl hg
  obtain⟨lb,tc,sv,o1,q1,q2,Hx,_,s2⟩:=m.LS zI
  refine v1 (ae o1) ?_
  refine⟨⟨by omega,by omega⟩,?_⟩
  refine v4 (ae q1) Nat.zero_add Nat.mul_one q2 ?_
  refine⟨⟨rb g,s2,fun b hb=>?_⟩,rfl⟩
  have h5:=m.pG g b zI.1 zI.2 hb
  refine⟨m.slt b (fZ h5 nofun),fun hc=>?_⟩
  rcases hc with (hc| ⟨x,hc⟩)|hc<;>(rw[h5]at hc;cases hc)
 ·rw[decide_eq_false hg]
  refine vs ?_
  have hr:rows g=[]:=by
   cases hc:rows g with
   |nil=>rfl
   |cons c r=>
    obtain⟨h1,_,h2,_⟩:=f.rm g c (by rw[hc];simp)
    have:=((m.cells.hm c).2 (by omega)).1
    rw[h1]at this
    exact absurd this hg
  rw[hr]
  exact⟨⟨none,Sl.nil _ _,nofun⟩,rfl⟩
theorem lY.root(f:lY (aH w) (aT w) ch par rows []){y g:Int}(hg:0<g)(hy:aH w y=g):∃r∈rows g,r=y∨aT w r y=true:=by
 obtain⟨r,h1,h2,h3⟩:=f.pr.root (aq w) (n:=w.cs.length) (fun x h=>xy x h) _ (Nat.le_refl _) (x:=y) (by omega)
 rcases f.lX r (by omega) h2 with h|h
 ·rw[h1,hy]at h
  exact⟨r,h,h3⟩
 ·cases h
set_option maxHeartbeats 1000000 in
theorem CO{n:Nat}{H:Hp}{S:Nat→Prop}{w:Nw}(h:iu n H S w)(g:Int):ah Tryz.prog oQ [ptr n,i64 g] H fun v H'=>ax (
  (w.len g=0∧v= .tuple [i64 0,.bool false].toArray∧iu n H' S w∧ai S H H')∨(∃x,w.first g x∧v= .tuple [i64 x,.bool true].toArray∧iu n H' S w∧ai S H H')):=by
 obtain⟨B,ro,C,l,V,ch,par,kb,fD,rows,rb,rfl,m,f,hl,hS⟩:=id h
 have zh:=m.cells.Fc
 refine bc yN ⟨rfl,?_⟩
 refine v1 iH.eq_1 ?_
 refine(Ki m f hl g).mono ?_
 rintro _ H' ⟨⟨o,s,hso⟩,e⟩
 obtain rfl:=e.symm
 obtain⟨va,vc,rfl⟩:=Sl.shape s
 refine vs ?_
 refine am.dec (fun h0=>?_) (fun h0=>?_)<;>refine vs ?_
 ·refine .inl ⟨?_,rfl,h,ai.refl _ _⟩
  have hr:rows g=[]:=List.length_eq_zero_iff.1 (by omega)
  by_cases hg:0<g
  ·rw[xd hg]
   intro x hx
   obtain⟨r,Bl,_⟩:=f.root hg hx
   rw[hr]at Bl
   cases Bl
  ·exact Nw.Ir.2 (.inl (by omega))
 obtain⟨x,R,hr⟩:∃x R,rows g=x::R:=List.exists_cons_of_ne_nil (fun e=>h0 (by rw[e];rfl))
 have Tj:∀c∈rows g,aH w c=g∧0<g:=fun c hc=>by
  obtain⟨h1,_,h2,_⟩:=f.rm g c hc
  exact⟨h1,h2⟩
 have RQ:=(Tj x (by rw[hr];simp)).2
 rw[hr]at s Tj
 have hlr:(rows g).length=(x::R).length:=by rw[hr]
 rw[hlr]
 have pt:(x::R).length=R.length+1:=List.length_cons
 have hsB:=s
 have bm:=bY (f.rr g).nodup fun c hc=>xy (w:=w) c (by have:=Tj c (by rw[←hr];exact hc);omega)
 rw[hr]at bm
 obtain⟨b,lb,c,PG,rfl,qb,qc,_,Hx,_⟩:=Sl.Uc s (i:=0) (x:=x) rfl
 injection PG with h1 h2 h3
 subst h1 h3
 have mw:=ae qb
 obtain⟨_,TS,c',fK,q2,Io,QK,Tg⟩:=id s
 injection fK with _ _ fK
 subst fK
 rw[qb]at q2
 injection q2 with q2
 subst q2
 rw[Nat.mul_one]at QK Tg
 refine⟨⟨by omega,by omega⟩,?_⟩
 refine v5 mw qc Int.toNat_zero Nat.zero_mul Nat.add_zero ?_
 refine⟨⟨by omega,by omega,by omega,by omega⟩,?_⟩
 refine vs ?_
 have zI:=m.Sz hl ((m.cells.hm x).2 (by have:=Tj x (by simp);omega)).1
 rw[(Tj x (by simp)).1]at zI
 have hrB:G3 H ro H.size (.slice (some ⟨b,0,none⟩) (x::R).length vc) (x::R):=Sl.rdB s hso
 obtain⟨a',hv,_,_,_⟩:=Sq s.rd (lo:=1) (hi:=R.length+1) (lo':=1) (hi':=((R.length+1:Nat):Int)) rfl rfl (by omega) (by omega) (by omega)
 have hB:G3 H ro H.size (.slice a' R.length (vc - 1)) R:=by
  rw[show R.length=R.length+1 - 1 by omega,←hv]
  exact hrB.tail _
 rw[hv,show((R.length+1:Nat):Int).toNat - Int.toNat 1=R.length by simp,Nat.add_sub_cancel]
 refine bD.intro (fun mm env H'=>∃ (j:Nat) (bU:Int),mm=R.length - j∧j≤R.length∧CQ H' B.c C w∧ai C H H'∧bU∈x::R.take j∧(∀c∈x::R.take j,c≠bU→aT w bU c=true)∧
  env=[(0,ptr B.n),(7,i64 bU),(20,.slice a' R.length (vc - 1)),(21,i64 R.length),(22,i64 j)]) R.length ⟨0,x,rfl,by omega,m.cells,ai.refl _ _,by simp,by simp,rfl⟩ ?_
 rintro mm env H1 ⟨j,bU,rfl,hj,c1,e1,Lt,DN,rfl⟩
 have m1:=m.aK c1 e1 rfl
 obtain⟨DU,o1,_⟩:=m1.own
 refine vs ?_
 refine am.dec (fun aR=>?_) (fun aR=>?_)<;>refine vs ?_
 ·have mA:j<R.length:=by omega
  obtain⟨y,hy⟩:∃y,R[j]? =some y:=⟨_,List.getElem?_eq_getElem mA⟩
  have hB1:=hB.ext e1 (fun z _ hk hc=>hk (.inr (m.hC z hc))) (ro':=ro) (fun _ _ h=>h)
  obtain⟨_,b2,o2,lb2,rfl,q2,q3⟩:=ez.num hB1.rd hy
  refine⟨⟨by omega,by omega⟩,?_⟩
  refine v5 q2 Nat.mul_one Int.toNat_natCast q3 (ae o1) ?_
  refine(cI c1 y bU).mono ?_
  rintro _ H2 ⟨rfl,c2,e2⟩
  have hym:y∈x::R:=List.mem_cons_of_mem _ (List.mem_of_getElem? hy)
  have Da:bU∈x::R:=by
   rcases List.mem_cons.1 Lt with h|h
   ·rw[h];simp
   ·exact List.mem_cons_of_mem _ (List.mem_of_mem_take h)
  have zN:=Tj y hym
  have Vi:=Tj bU Da
  rw[jj (w:=w) (a:=y) (b:=bU) (by omega) (by omega)]
  have tk:R.take (j+1)=R.take j++[y]:=by rw[List.take_add_one,hy];rfl
  cases hyb:aT w y bU
  ·refine vs ?_
   rw[wrap64 (n:=(j:Int)+1) (by omega) (by omega)]
   refine⟨R.length - (j+1),by omega,j+1,bU,rfl,by omega,c2,e1.trans e2,?_,fun c hc aS=>?_,rfl⟩
   ·rw[tk,←List.cons_append];exact List.mem_append_left _ Lt
   ·rw[tk,←List.cons_append]at hc
    rcases List.mem_append.1 hc with hc|hc
    ·exact DN c hc aS
    ·rw[List.mem_singleton.1 hc]at aS ⊢
     exact((aq w).Oo bU y (Ne.symm aS)).resolve_right (by rw[hyb];simp)
  ·refine vs ?_
   rw[wrap64 (n:=(j:Int)+1) (by omega) (by omega)]
   refine⟨R.length - (j+1),by omega,j+1,y,rfl,by omega,c2,e1.trans e2,?_,fun c hc aS=>?_,rfl⟩
   ·rw[tk];simp
   ·rw[tk,←List.cons_append]at hc
    rcases List.mem_append.1 hc with hc|hc
    ·by_cases e:c=bU
     ·rw[e];exact hyb
     ·exact(aq w).tr _ _ _ hyb (DN c hc e)
    ·exact absurd (List.mem_singleton.1 hc) aS
 ·obtain rfl:j=R.length:=by omega
  rw[List.take_length]at Lt DN
  refine .inr ⟨bU,?_,rfl,⟨B,ro,C,l,V,ch,par,kb,fD,rows,rb,rfl,m1,f,hl,hS⟩,e1.mono fun z _ hz=>(hS z).2 (fZ (m.hC z hz) nofun)⟩
  rw[bN]
  refine⟨RQ,(Tj bU Lt).1,fun y hy aS=>?_⟩
  obtain⟨r,Je,Bl⟩:=f.root RQ hy
  rw[hr]at Je
  by_cases e:r=bU
  ·rw[e]at Bl
   exact Bl.resolve_left (fun e2=>aS e2.symm)
  ·have h5:=DN r Je e
   rcases Bl with h6|h6
   ·rw[←h6];exact h5
   ·exact(aq w).tr _ _ _ h5 h6
end
end Go.Proofs.YtjlnnljohemifaaGreat

namespace Go.Proofs.YtjlnnljohemifaaGreat
open Go Go.Vc
section
variable {H H' : Hp} {ro ro' : Nat → Rl} {B : YD} {C T : Nat → Prop} {w w' : Nw} {l l' : List Value} {V V' : Int → Value} {ch dT : Int → List Int} {par bG : Int → Int} {kb vQ : Int → Option Nat} {fD : List Value} {rows : Int → List Int} {rb : Int → Option Nat} {lt : Int → Int → Bool} {W W0 L : List Int}
theorem FD{n:Nat}{H:Hp}{S:Nat→Prop}{w:Nw}(h:iu n H S w)(g x k s:Int):ah Tryz.prog kR [ptr n,i64 g,i64 x,vN k s] H fun v H'=>ax (
  (¬w.oG g x∧v= .bool false∧cD (iu n) S H H' w)∨(w.oG g x∧v= .bool true∧cD (iu n) S H H' (w.put x (g,k,s)))):=by
 obtain⟨B,ro,C,l,V,ch,par,kb,fD,rows,rb,rfl,m,f,hl,hS⟩:=h
 have hC:∀z,C z→S z:=fun z h=>(hS z).2 (fZ (m.hC z h) nofun)
 refine bc tV ⟨rfl,?_⟩
 refine v1 fh.eq_1 ?_
 have f0:ay H (H.new 224 [i64 k,u64 s]):=(ai.refl _ _).new _ _
 have b0:(H.new 224 [i64 k,u64 s]).own H.size=some [i64 k,u64 s]:=aG _ _ _
 have m0:=m.fresh f0
 generalize H.new 224 [i64 k,u64 s]=H0 at*
 have ff:ai S H H0:=f0.mono fun _ _ h=>h.elim
 obtain⟨tv,J0,_⟩:=m0.own
 refine v2 (ae J0) (ae b0) ?_
 refine(nL m0.cells g x k s).mono ?_
 rintro _ H1 (⟨cw,rfl,c1,e1⟩| ⟨th,rfl,c1,e1⟩)
 ·refine vs ?_
  exact .inl ⟨cw,rfl,cD.same ⟨B,ro,C,l,V,ch,par,kb,fD,rows,rb,rfl,m0.aK c1 e1 rfl,f,hl,hS⟩ (ff.trans (e1.mono fun z _ hz=>hC z hz))⟩
 obtain⟨hh,hx,bS⟩:=id th
 have m1:=m0.aK c1 e1 (by simp[Nw.put])
 have hg:=hh.1
 have dv:=m.Sz hl hh
 have cU:=fun y=>eD hx (g,k,s) y
 have ie:aH w x≤0:=Int.not_lt.1 fun h=>bS (bJ.1 h)
 have el:∀a b,0<aH w a→0<aH w b→a≠x→b≠x→aT (w.put x (g,k,s)) a b=aT w a b:=fun a b ha hb tE oY=>dE hx _ ha hb tE oY
 obtain⟨f1,_⟩:=f.put (hm':=aH (w.put x (g,k,s))) (lt':=aT (w.put x (g,k,s))) (g:=g) rfl ie (by omega) (by omega) (by rw[cU,if_pos rfl]) (fun y hy=>by rw[cU,if_neg hy]) el
 refine vs ?_
 have f2:ay H1 (H1.new 3 [i64 x]):=(ai.refl _ _).new _ _
 have m2:=m1.fresh f2
 have s2:Sl (H1.new 3 [i64 x]) 1 (.slice (some ⟨H1.size,0,none⟩) 1 1) [x].length ([x].map i64) (some H1.size):=Sl.dQ (size:=1) (n:=1) (xs:=[i64 x]) rfl rfl
 have z2:(H1.new 3 [i64 x]).size=H1.size+1:=au _ _ _
 have Vb:G3 (H1.new 3 [i64 x]) ro (H1.new 3 [i64 x]).size (.slice (some ⟨H1.size,0,none⟩) 1 1) [x]:=Sl.rdB s2 fun b hb=>by
  injection hb with hb
  subst hb
  refine⟨by omega,fun hc=>?_⟩
  have:=m1.hz H1.size (Nat.le_refl _)
  rcases hc with (hc| ⟨x,hc⟩)|hc<;>(rw[this]at hc;cases hc)
 generalize H1.new 3 [i64 x]=H2 at*
 refine(CN m2 Vb (fun _ _ h=>h) (W0:=[]) f1 (List.pairwise_singleton _ _) (fun c hc=>by rw[List.mem_singleton.1 hc,cU,if_pos rfl]) dv).mono ?_
 rintro _ H3 ⟨Qc,l3,V3,MG,r9,WY,afh,CP,rb3,m3,f3,Tf,_,QD,e3⟩
 refine vs ?_
 have eS:ai S H H2:=(ff.trans (e1.mono fun z _ h=>hC z h)).trans (f2.mono fun _ _ h=>h.elim)
 have z1:=eS.size
 refine .inr ⟨th,rfl,dK Qc,⟨B,Qc,C,l3,V3,MG,r9,WY,afh,CP,rb3,rfl,m3,f3,by rw[Tf,hl];rfl,fun z=>Iff.rfl⟩,eS.trans (e3.mono fun z _ h=>(hS z).2 h),fun z hz=>?_⟩
 rcases QD z hz with h|h
 ·exact .inl ((hS z).2 h)
 ·exact .inr (by omega)
theorem lY.Ug{hm:Int→Int}(f:lY hm lt ch par rows W)(x:Int):FW ch (ch x):=by
 unfold FW
 rw[List.pairwise_iff_getElem]
 intro i j hi hj KJ
 rw[f.dg x i _ (List.getElem?_eq_getElem hi),f.dg x j _ (List.getElem?_eq_getElem hj)]
 exact KJ
theorem lY.Uh{hm:Int→Int}(f:lY hm lt ch par rows []){x g:Int}(hx:x∈rows g):lY hm lt ch par (aA rows g ((rows g).filter fun y=> !decide (x=y))) [x]:=by
 have hn:=(f.rr g).nodup
 have hp:(rows g++[]).Perm (((rows g).filter fun y=> !decide (x=y))++[x]):=by
  rw[List.append_nil]
  refine(List.perm_ext_iff_of_nodup hn ?_).2 fun y=>?_
  ·rw[List.nodup_append]
   refine⟨hn.filter _,by simp,fun u hu v hv e=>?_⟩
   rw[List.mem_filter]at hu
   rw[List.mem_singleton.1 hv]at e
   simp[e]at hu
  ·rw[List.mem_append,List.mem_filter,List.mem_singleton]
   by_cases h:x=y
   ·simp[←h,hx]
   ·simp[h,Ne.symm h]
 have f2:=((f.loose g).perm hp).row (g:=g) (by unfold aA;rw[if_pos rfl]) ((f.rr g).sub List.filter_sublist) (fun c hc=>(f.rm g c (List.mem_filter.1 hc).1).1)
 rwa[eJ]at f2
theorem FE{H:Hp}{bx:Nat}{x:Int}(hb:H.own bx=some [i64 x])(y:Int):ah Tryz.prog kT [i64 y,ptr bx] H fun v H'=>ax (v= .bool (decide (x=y))∧H'=H):=by
 refine xP mixed tX (nt:=7) (by kernel_rfl) (by simp) ?_
 refine v2 fj.eq_1 (ae hb) ?_
 exact⟨rfl,rfl⟩
set_option maxHeartbeats 2000000 in
theorem IK(m:xD H ro B C w l V ch par kb fD rows rb)(aR:∀a b,aT w a b=true→lt a b=true)(f:lY (aH w) lt ch par rows []){x g:Int}(xm:x∈rows g)(zI:0≤g∧g<fD.length)(aaG:∀a b,0<aH w a→0<aH w b→a≠x→b≠x→lt a b=true→aT (w.put x (0,0,0)) a b=true):
  ah Tryz.prog wq [ptr B.n,i64 g,i64 x] H fun v H'=>ax (v= .bool true∧∃ro' l' V' dT bG vQ Sy mB rb',xD H' ro' B C (w.put x (0,0,0)) l' V' dT bG vQ Sy mB rb'∧lY (aH (w.put x (0,0,0))) (aT (w.put x (0,0,0))) dT bG mB []∧Sy.length=fD.length∧
   (∀z,dK ro' z→dK ro z∨H.size≤z)∧ai (dK ro) H H'):=by
 obtain⟨OH,KO,RQ,_⟩:=f.rm g x xm
 have ie:=xy (w:=w) x (by omega)
 have zh:=m.cells.Fc
 have bm:=bY (f.rr g).nodup fun c hc=>xy (w:=w) c (by have:=f.rm g c hc;omega)
 refine bc wO ⟨rfl,?_⟩
 refine v1 nE.eq_1 ?_
 have f0:ay H (H.new 3 [i64 x]):=(ai.refl _ _).new _ _
 have b0:(H.new 3 [i64 x]).own H.size=some [i64 x]:=aG _ _ _
 have z0:(H.new 3 [i64 x]).size=H.size+1:=au _ _ _
 have m0:=m.fresh f0
 generalize H.new 3 [i64 x]=H0 at*
 obtain⟨lb,tc,sv,o1,q1,q2,Hx,_,s2⟩:=m0.LS zI
 obtain⟨va,vc,rfl⟩:=Sl.shape s2
 refine rV.intro (fun H'=>H'.own B.n=some [ptr B.c,ptr B.fb,.slice (some ⟨B.rp,0,none⟩) fD.length tc]) o1 ?_
 refine vs ?_
 refine rW.intro (.slice (some ⟨B.rp,0,none⟩) fD.length tc) (fun H' hI=>by refine v1 (ae hI) ?_;trivial) ?_
 refine v1 (ae o1) ?_
 refine And.intro o1 ?_
 refine vs ?_
 refine⟨⟨by omega,by omega⟩,?_⟩
 refine v4 (ae q1) Nat.zero_add Nat.mul_one q2 ?_
 refine And.intro o1 ?_
 refine vs ?_
 have Qd:∀b,rb g=some b→ro b= .row g:=fun b hb=>m.pG g b zI.1 zI.2 hb
 refine(DX s2 kT [ptr H.size] (fun y=>decide (x=y)) (by kernel_rfl) (fun H' e' y=>FE (e'.own b0 (fun hh=>by have:=m.slt _ (fZ (Qd _ hh) nofun);omega)) y) (by omega)).mono ?_
 rintro _ H1 ⟨s3,e1⟩
 obtain⟨va',vc',rfl⟩:=Sl.shape s3
 have aaH:∀z q,ro z=q→q≠ .row g→¬rb g=some z:=fun z q h1 h2 h3=>h2 (by rw[←h1,Qd z h3])
 have o2:=e1.own o1 (aaH _ _ m.rn nofun)
 have q3:=e1.own q1 (aaH _ _ m.rr nofun)
 refine And.intro o2 ?_
 refine vs ?_
 refine⟨⟨by omega,by omega⟩,?_⟩
 refine v3 q3 Nat.zero_add Nat.mul_one ?_
 refine⟨by omega,?_⟩
 obtain⟨m2,e2,Bl⟩:=m0.Vh zI e1 q3 s3 (fun b hb=>.inr (Qd b hb))
 have hnr:B.n≠B.rp:=fun e=>by have:=m.rn;rw[e,m.rr]at this;cases this
 refine vs ?_
 refine And.intro o2 ?_
 have WZ:¬dK ro H.size:=fun h=>by have:=m.slt _ h;omega
 have b2:=e2.own b0 WZ
 have z2:=e2.size
 have f2:=f.Uh xm
 generalize H1.wr B.rp (lb.set g.toNat (Value.slice va' ((rows g).filter fun y=> !decide (x=y)).length vc'))=H2 at*
 obtain⟨qO,afi⟩:∃qO:Nat→Rl,qO=fun z=>if rb g=some z then Rl.row g else ro z:=⟨_,rfl⟩
 rw[←afi]at m2 Bl
 have W1:∀z,dK qO z→dK ro z:=fun z hz=>(Bl z hz).elim id fun h=>fZ (Qd z h) nofun
 obtain⟨Nk,o3,_⟩:=m2.own
 refine v2 (ae o3) (ae b2) ?_
 have qQ:(ch x).length≤w.cs.length:=bY (f.pr.nd x) fun c hc=>m.fo.Hw x c hc
 refine(Ei m2.fo m2.hz ie KO (by omega)).mono ?_
 rintro sv H3 ⟨Qc,l3,V3,WY,fp3,fo3,r3,Wi,e3,s4,l9⟩
 have z3:=e3.size
 have m3:=m2.Sx fo3 (m2.cells.ext e3 (fun z hz hk=>by
  have:=m2.hC z hz
  rcases hk with hk| ⟨_,hk⟩<;>(rw[this]at hk;cases hk))) r3 Wi (e3.mono fun z _ h=>.inl h)
 have f3:=f2.split.perm (show(x::(ch x++[])).Perm (ch x++[x]) by
  rw[List.append_nil]
  exact List.perm_append_comm (l₁:=[x]) (l₂:=ch x))
 have JZ:x∉ch x:=fun h=>by have:=f.less h;omega
 have Vb:G3 H3 Qc H3.size sv (ch x):=Sl.rdB s4 fun b hb=>by
  rw[hb]at s4
  refine⟨Sl.lt s4,fun hc=>?_⟩
  have:=(l9 b hb).2
  rcases hc with (hc| ⟨x,hc⟩)|hc<;>(rw[this]at hc;cases hc)
 have afj:0≤g∧g< ((fD.set g.toNat (Value.slice va' ((rows g).filter fun y=> !decide (x=y)).length vc')).length:Int):=by rw[List.length_set];exact zI
 refine(CN m3 Vb aR f3 ((f.Ug x).frame fun c hc=>by unfold aA;rw[if_neg (fun e=>JZ (by have h7:=hc;rw[e]at h7;exact h7))]) (fun c hc=>by
  have:=(f.pr.dn x c hc).2.2.1
  omega) afj).mono ?_
 rintro _ H4 ⟨ro4,l4,V4,Ub,Kc,kb4,afl,aaI,rb4,m4,f4,WC,w4,Zb,e4⟩
 have W2:∀z,dK Qc z→dK ro z∨H.size+1≤z:=fun z hz=>by
  by_cases Oy:z<H2.size
  ·refine .inl (W1 z fun h=>hz ?_)
   exact r3.none Oy h
  ·exact .inr (by omega)
 have TL:¬dK Qc H.size:=fun h=>by
  rcases W2 _ h with h|h
  ·exact WZ h
  ·omega
 have afm:¬KB qO H.size:=fun h=>WZ (W1 _ (by rcases h with h| ⟨_,h⟩<;>exact fZ h nofun))
 have b4:=e4.own (e3.own b2 afm) TL
 obtain⟨Z4,o5,_⟩:=m4.own
 refine v2 (ae o5) (ae b4) ?_
 refine(ck m4.cells x).mono ?_
 have bS:cY w.cs x:=bJ.1 (by omega)
 rintro _ H5 (⟨cw,_,_⟩| ⟨_,rfl,c5,e5⟩)
 ·exact absurd bS cw
 have m5:=m4.aK c5 e5 (by simp[Nw.put])
 refine vs ?_
 have cU:=fun y=>eD (w:=w) ie (0,0,0) y
 have f5:=f4.drop (hm':=aH (w.put x (0,0,0))) (lt':=aT (w.put x (0,0,0))) (by
  rw[w4 x (by simp)]
  unfold aA
  rw[if_pos rfl]) rfl (by rw[cU,if_pos rfl]) (fun y hy=>by rw[cU,if_neg hy]) aaG
 have z4:=e4.size
 have aaJ:∀z,dK ro4 z→dK ro z∨H.size+1≤z:=fun z hz=>by
  rcases Zb z hz with h|h
  ·exact W2 z h
  ·exact .inr (by omega)
 refine⟨rfl,ro4,l4,V4,Ub,Kc,kb4,afl,aaI,rb4,m5,f5,by rw[WC,List.length_set],fun z hz=>?_,?_⟩
 ·rcases aaJ z hz with h|h
  ·exact .inl h
  ·exact .inr (by omega)
 ·refine⟨by have:=e5.size;omega,fun z hz hn=>?_⟩
  rw[e5.aN z (by omega) (fun h=>by
   rcases aaJ z (fZ (m4.hC z h) nofun)with h|h
   ·exact hn h
   ·omega),e4.aN z (by omega) (fun h=>by
   rcases W2 z h with h|h
   ·exact hn h
   ·omega),e3.aN z (by omega) (fun h=>hn (W1 z (by rcases h with h| ⟨_,h⟩<;>exact fZ h nofun))),e2.aN z (by omega) (fun h=>hn h),f0.aN z hz (fun h=>h)]
theorem En{n:Nat}{H:Hp}{S:Nat→Prop}{w:Nw}(h:iu n H S w)(g:Int):ah Tryz.prog j7 [ptr n,i64 g] H fun v H'=>ax (
  (w.len g=0∧v= .tuple [i64 0,.bool false].toArray∧cD (iu n) S H H' w)∨(∃x,w.first g x∧v= .tuple [i64 x,.bool true].toArray∧cD (iu n) S H H' (w.put x (0,0,0)))):=by
 refine bc sP ⟨rfl,?_⟩
 refine v1 eM.eq_1 ?_
 refine(CO h g).mono ?_
 rintro _ H1 (⟨h0,rfl,h1,e1⟩| ⟨x,hx,rfl,h1,e1⟩)
 ·refine vs ?_
  exact .inl ⟨h0,rfl,cD.same h1 e1⟩
 refine vs ?_
 obtain⟨B,ro,C,l,V,ch,par,kb,fD,rows,rb,rfl,m,f,hl,hS⟩:=h1
 obtain⟨hg,OH,qV⟩:=bN.1 hx
 have xm:x∈rows g:=by
  obtain⟨r,Je,Bl⟩:=f.root hg OH
  rcases Bl with h|h
  ·rw[←h];exact Je
  ·by_cases e:r=x
   ·rw[←e];exact Je
   ·have h2:=qV r (f.rm g r Je).1 e
    rw[(aq w).asym h2]at h
    cases h
 have ie:=xy (w:=w) x (by omega)
 have zI:=m.Sz hl ((m.cells.hm x).2 (by omega)).1
 rw[OH]at zI
 refine(IK m (fun _ _ h=>h) f xm zI (fun a b ha hb tE oY h=>by rw[dE ie _ ha hb tE oY];exact h)).mono ?_
 rintro _ H2 ⟨rfl,qO,l2,V2,n7,lS,EH,afn,aaK,rb2,m2,f2,vU,Bl,e2⟩
 refine vs ?_
 have z1:=e1.size
 refine .inr ⟨x,hx,rfl,dK qO,⟨B,qO,C,l2,V2,n7,lS,EH,afn,aaK,rb2,rfl,m2,f2,by rw[vU,hl];rfl,fun z=>Iff.rfl⟩,e1.trans (e2.mono fun z _ h=>(hS z).2 h),fun z hz=>?_⟩
 rcases Bl z hz with h|h
 ·exact .inl ((hS z).2 h)
 ·exact .inr (by omega)
end
end Go.Proofs.YtjlnnljohemifaaGreat

namespace Go.Proofs.YtjlnnljohemifaaGreat
open Go Go.Vc
section
variable {H H' : Hp} {ro ro' : Nat → Rl} {B : YD} {C T : Nat → Prop} {w w' : Nw} {l l' : List Value} {V V' : Int → Value} {ch dT : Int → List Int} {par bG : Int → Int} {kb vQ : Int → Option Nat} {fD : List Value} {rows : Int → List Int} {rb : Int → Option Nat} {lt : Int → Int → Bool} {W W0 L : List Int}
theorem xD.aaL(m:xD H ro B C w l V ch par kb fD rows rb){g:Int}(hg:0≤g∧g<fD.length){H1:Hp}(e:ai (fun z=>rb g=some z) H H1){sv:Value}(PG:fD[g.toNat]? =some sv){L':List Int}(s:Sl H1 1 sv L'.length (L'.map i64) (rb g)):
  xD H1 ro B C w l V ch par kb fD (aA rows g L') rb:=by
 obtain⟨tv,h1,h2⟩:=m.own
 have hs:=e.size
 have n0:∀z q,ro z=q→q≠ .row g→¬rb g=some z:=fun z q h1 h2 h3=>h2 (by rw[←h1,m.pG g z hg.1 hg.2 h3])
 refine⟨⟨tv,e.own h1 (n0 _ _ m.rn nofun),h2.ext e (fun b hb=>by injection hb with hb;subst hb;exact n0 _ _ m.rr nofun)⟩,fun k h0 h1=>?_,m.cells.ext e (fun z hz=>n0 z _ (m.hC z hz) nofun),m.fo.ext e (fun z hz=>by rcases hz with h|h| ⟨x,h⟩<;>exact n0 z _ h nofun),m.hC,m.rn,m.rr,m.pG,fun z hz=>m.hz z (by omega)⟩
 by_cases hk:k=g
 ·subst hk
  refine⟨sv,PG,?_⟩
  unfold aA
  rw[if_pos rfl]
  exact s
 ·obtain⟨sv',q1,q2⟩:=m.row k h0 h1
  refine⟨sv',q1,?_⟩
  unfold aA
  rw[if_neg hk]
  exact q2.ext e (fun b hb=>n0 b _ (m.pG k b h0 h1 hb) (fun e=>hk (by injection e)))
set_option maxRecDepth 100000 in
set_option maxHeartbeats 2000000 in
theorem IL(m:xD H ro B C w l V ch par kb fD rows rb){x g:Int}(f:Mz (aH w) (aT w) ch par rows [] x)(OH:aH w x=g)(RQ:0<g)(zI:0≤g∧g<fD.length)(fid:FuncId)(tg:List Value)(q:Int→Bool)(J:Hp→Prop)(E:(Int→List Int)→Prop)(hJ:J H)
  (w8:∀H' Gk,J H'→ai (fun z=>dK ro z∧z≠B.n) H' Gk→J Gk)(Fl:eV Tryz.prog fid=true)
  (hq:∀H' p,J H'→CQ H' B.c C w→0<aH w p→ah Tryz.prog fid (i64 p::tg) H' fun v Gk=>ax (v= .bool (q p)∧CQ Gk B.c C w∧ai C H' Gk))(hE:E ch)
  (hEs:∀ (ch:Int→List Int) (par:Int→Int) (rows:Int→List Int) p,Mz (aH w) (aT w) ch par rows [] x→x∈ch p→q p=true→E ch→E (Ht ch x p)):
  ah Tryz.prog wk [ptr B.n,i64 g,i64 x,.func (.func fid) #[] tg.toArray] H fun v H'=>ax (∃ro' l' V' dT bG vQ mB,xD H' ro' B C w l' V' dT bG vQ fD mB rb∧Mz (aH w) (aT w) dT bG mB [] x∧E dT∧(bG x= -1∨q (bG x)=false)∧
   (∀z,dK ro' z→dK ro z)∧ai (dK ro) H H'):=by
 have ls:=aq w
 have ie:=xy (w:=w) x (by omega)
 have zh:=m.cells.Fc
 refine bc wN ⟨rfl,?_⟩
 refine v1 gL.eq_1 ?_
 refine bD.intro (fun mm env H'=>∃ (ro':Nat→Rl) (l':List Value) (V':Int→Value) (dT:Int→List Int) (bG:Int→Int) (vQ:Int→Option Nat) (mB:Int→List Int),mm=w.cs.length - (dT x).length∧xD H' ro' B C w l' V' dT bG vQ fD mB rb∧Mz (aH w) (aT w) dT bG mB [] x∧E dT∧J H'∧
  (∀z,dK ro' z→dK ro z)∧ai (dK ro) H H'∧env=[(0,ptr B.n),(1,i64 g),(2,i64 x),(3,.func (.func fid) #[] tg.toArray)]) _ ⟨ro,l,V,ch,par,kb,rows,rfl,m,f,hE,hJ,fun _ h=>h,ai.refl _ _,rfl⟩ ?_
 clear m f hE hJ
 rintro mm env H1 ⟨WN,l1,V1,OR,zo,YA,qY,rfl,m1,f1,hE1,hJ1,Je,e1,rfl⟩
 obtain⟨DU,o1,_⟩:=m1.own
 refine v1 (ae o1) ?_
 refine(rU m1.fo.t ie).mono ?_
 rintro _ H' ⟨⟨hp,rfl⟩| ⟨hp,rfl⟩,e⟩
 ·obtain rfl:=e.symm
  refine vs ?_
  exact⟨WN,l1,V1,OR,zo,YA,qY,m1,f1,hE1,.inl hp,Je,e1⟩
 obtain rfl:=e.symm
 obtain⟨p,Za⟩:∃p,p=zo x:=⟨_,rfl⟩
 rw[←Za]at hp ⊢
 have KO:=f1.w.pr.up x p Za.symm hp
 obtain⟨_,_,hpg,HC,_⟩:=f1.w.pr.dn p x KO
 have gm:=f1.w.less KO
 have hp0:=xy (w:=w) p (by omega)
 have bm:∀z,(OR z).length≤w.cs.length:=fun z=>bY (f1.w.pr.nd z) fun c hc=>m1.fo.Hw z c hc
 refine vs ?_
 refine⟨Fl,?_⟩
 refine ah.mono (by simpa using hq H1 p hJ1 m1.cells (by omega)) ?_
 rintro _ H2 ⟨rfl,c2,e2⟩
 have m2:=m1.aK c2 e2 rfl
 have e2':ai (dK ro) H1 H2:=e2.mono fun z _ h=>Je z (fZ (m1.hC z h) nofun)
 have hJ2:=w8 _ _ hJ1 (e2.mono fun z _ h=>⟨Je z (fZ (m1.hC z h) nofun),fun e=>by have:=m1.hC z h;rw[e,m1.rn]at this;cases this⟩)
 have sA:=e1.trans e2'
 cases hqp:q p
 ·refine vs ?_
  exact⟨WN,l1,V1,OR,zo,YA,qY,m2,f1,hE1,.inr (by rw[←Za];exact hqp),Je,sA⟩
 obtain⟨Nk,o2,_⟩:=m2.own
 refine v1 (ae o2) ?_
 refine(rU m2.fo.t hp0).mono ?_
 have W3:∀h,x∉qY h:=fun h hh=>hp (by rw[Za];exact(f1.w.rm h x hh).2.1)
 have Rh:zo p≠ -1→0≤zo p∧zo p<w.cs.length:=fun h=>by
  have:=(f1.w.pr.dn _ _ (f1.w.pr.up p _ rfl h)).2.2
  exact xy (w:=w) _ (by omega)
 have fin:∀ (H3:Hp) (CP:Int→List Int),xD H3 WN B C w l1 V1 OR zo YA fD CP rb→(∀h,CP h=(qY h).map (jn x p))→J H3→ai (dK ro) H H3→∀ (K:Value→Hp→Prop),(∀H4,(∃m',m'<w.cs.length - (OR x).length∧∃ (ro':Nat→Rl) (l':List Value) (V':Int→Value) (dT:Int→List Int) (bG:Int→Int) (vQ:Int→Option Nat) (mB:Int→List Int),m'=w.cs.length - (dT x).length∧xD H4 ro' B C w l' V' dT bG vQ fD mB rb∧Mz (aH w) (aT w) dT bG mB [] x∧E dT∧J H4∧
  (∀z,dK ro' z→dK ro z)∧ai (dK ro) H H4)→K (.bool true) H4)→ah Tryz.prog oR [ptr B.fb,i64 x] H3 K:=fun H3 CP m3 I6 hJ3 e3 K hK=>by
  refine(Fz m3.fo m3.hz f1.w ie hp0 KO Rh zh).mono ?_
  rintro _ H4 ⟨rfl,ro4,l4,V4,kb4,fo4,r4,hz4,e4,afp⟩
  have m4:=m3.Sx fo4 (m3.cells.ext e4 (fun z hz hk=>by
   have:=m3.hC z hz
   rcases hk with hk| ⟨_,hk⟩<;>(rw[this]at hk;cases hk))) r4 hz4 (e4.mono fun z _ h=>.inl h)
  have e4':ai (dK ro) H3 H4:=e4.mono fun z _ h=>Je z (by rcases h with h| ⟨_,h⟩<;>exact fZ h nofun)
  have f4:=f1.up ls KO
  have W4:(fun h=>(qY h).map (jn x p))=CP:=by funext h;exact(I6 h).symm
  rw[W4,List.map_nil]at f4
  have WC:(Ht OR x p x).length=(OR p).length:=by unfold Ht;rw[nk,List.length_map]
  have:=bm p
  have ajU:=e4.size
  refine hK H4 ⟨w.cs.length - (Ht OR x p x).length,by omega,ro4,l4,V4,_,_,kb4,CP,rfl,m4,f4,hEs _ _ _ p f1 KO hqp hE1,w8 _ _ hJ3 (e4.mono fun z _ h=>⟨Je z (by rcases h with h| ⟨_,h⟩<;>exact fZ h nofun),fun e=>by rw[e]at h;rcases h with h| ⟨_,h⟩<;>(rw[m3.rn]at h;cases h)⟩),fun z hz=>?_,e3.trans e4'⟩
  exact Je z fun h=>hz (afp z h)
 rintro _ H' ⟨⟨O9,rfl⟩| ⟨O9,rfl⟩,e⟩
 ·obtain rfl:=e.symm
  have hpr:p∈qY g:=by
   rcases f1.w.lX p (by omega) O9 with h|h
   ·rw[hpg,OH]at h;exact h
   ·cases h
  obtain⟨lb,tc,sv,o3,q1,q2,Hx,PG,s3⟩:=m2.LS zI
  obtain⟨k0,hk0,ek0⟩:=List.mem_iff_getElem.1 hpr
  obtain⟨b,lr,rc,rfl,WS,qb,qk0,ajV,VO,_⟩:=Sl.Uc s3 (i:=k0) (x:=p) (by rw[List.getElem?_eq_getElem hk0,ek0])
  have hlr:=bY (f1.w.rr g).nodup fun c hc=>xy (w:=w) c (by have:=f1.w.rm g c hc;omega)
  refine v1 (ae o3) ?_
  refine⟨⟨by omega,by omega⟩,?_⟩
  refine v5 (ae q1) Nat.zero_add Nat.mul_one q2 (ae o3) ?_
  refine⟨⟨by omega,by omega⟩,?_⟩
  refine v4 (ae q1) Nat.zero_add Nat.mul_one q2 ?_
  have kM:=(f1.w.rr g).nodup
  have aaM:(qY g)[k0]? =some p:=by rw[List.getElem?_eq_getElem hk0,ek0]
  refine⟨i64 (k0:Int),(gv s3.rd p (by omega)).mono ?_,?_⟩
  ·rintro _ H' ⟨⟨j,rfl,hj⟩,e⟩
   obtain⟨hj0,hj⟩:=hj.resolve_left (fun h=>h.2 hpr)
   have Zt:=(List.getElem?_eq_some_iff.1 hj).1
   have:=(List.getElem?_inj Zt kM).1 (hj.trans aaM.symm)
   exact⟨by rw[show j=(k0:Int) by omega],e⟩
  refine vs ?_
  refine⟨⟨by omega,by omega⟩,?_⟩
  refine v4 qb Nat.zero_add Nat.mul_one Int.toNat_natCast ?_
  refine⟨by omega,?_⟩
  rw[WS]at s3
  have s4:=s3.vP qb k0 (i64 x)
  have e3:ai (fun z=>rb g=some z) H2 (H2.wr b (lr.set k0 (i64 x))):=(ai.refl (fun z=>rb g=some z) _).wr (fun _=>WS) _
  have Sm:(qY g).map (jn p x)=(qY g).map (jn x p):=List.map_congr_left fun c _=>by
   unfold jn
   by_cases e1:c=x
   ·by_cases e2:c=p
    ·rw[if_pos e2,if_pos e1];exact e1▸e2▸rfl
    ·rw[if_neg e2,if_pos e1,if_pos e1]
   ·by_cases e2:c=p
    ·rw[if_pos e2,if_neg e1,if_pos e2]
    ·rw[if_neg e2,if_neg e1,if_neg e1,if_neg e2]
  rw[←List.map_set,Kf kM (W3 g) aaM,Sm]at s4
  have RZ:((qY g).map (jn x p)).length=(qY g).length:=List.length_map ..
  have m3:=m2.aaL zI e3 PG (L':=(qY g).map (jn x p)) (by rw[WS,RZ];exact s4)
  have Yj:ai (dK ro) H2 (H2.wr b (lr.set k0 (i64 x))):=e3.mono fun z _ h=>Je z (fZ (m2.pG g z zI.1 zI.2 h) nofun)
  obtain⟨Yg,o4,_⟩:=m3.own
  refine v1 (ae o4) ?_
  refine fin _ _ m3 (fun h=>?_) (w8 _ _ hJ2 (e3.mono fun z _ h=>⟨Je z (fZ (m2.pG g z zI.1 zI.2 h) nofun),fun e=>by have:=m2.pG g z zI.1 zI.2 h;rw[e,m2.rn]at this;cases this⟩)) (sA.trans Yj) _ fun H4 hh=>?_
  ·unfold aA
   split
   ·rename_i e;rw[e]
   ·rename_i e
    exact(BB (W3 h) (fun hh=>e (by rw[← (f1.w.rm h p hh).1,hpg,OH]))).symm
  obtain⟨m',hm',ro',l',V',dT,bG,vQ,mB,h1,h2,h3,h4,h5,h6,h7⟩:=hh
  refine vs ?_
  exact⟨m',hm',ro',l',V',dT,bG,vQ,mB,h1,h2,h3,h4,h5,h6,h7,trivial⟩
 ·obtain rfl:=e.symm
  have afq:∀h,p∉qY h:=fun h hh=>O9 (f1.w.rm h p hh).2.1
  refine v1 (ae o2) ?_
  refine fin H2 qY m2 (fun h=>(BB (W3 h) (afq h)).symm) hJ2 sA _ fun H4 hh=>?_
  obtain⟨m',hm',ro',l',V',dT,bG,vQ,mB,h1,h2,h3,h4,h5,h6,h7⟩:=hh
  refine vs ?_
  exact⟨m',hm',ro',l',V',dT,bG,vQ,mB,h1,h2,h3,h4,h5,h6,h7,trivial⟩
end
end Go.Proofs.YtjlnnljohemifaaGreat

namespace Go.Proofs.YtjlnnljohemifaaGreat
open Go Go.Vc
theorem zu{H:Hp}{C:Nat→Prop}{w:Nw}{b3 b4 n c:Nat}{x:Int}{rest:List Value}(h3:H.own b3=some [ptr n])(h4:H.own b4=some [i64 x])(hn:H.own n=some (ptr c::rest))(cq:CQ H c C w){p:Int}(hx:0<aH w x)(hp:0<aH w p):
  ah Tryz.prog gE [i64 p,ptr b3,ptr b4] H fun v H'=>ax (v= .bool (aT w x p)∧CQ H' c C w∧ai C H H'):=by
 refine xP mixed p9 (nt:=12) (by kernel_rfl) (by simp) ?_
 refine v4 dC.eq_1 (ae h3) (ae h4) (ae hn) ?_
 refine(cI cq x p).mono ?_
 rintro _ H1 ⟨rfl,c1,e1⟩
 rw[jj (w:=w) (a:=x) (b:=p) hx hp]
 refine vs ?_
 exact⟨rfl,c1,e1⟩
set_option maxHeartbeats 1000000 in
theorem CR{n:Nat}{H:Hp}{S:Nat→Prop}{w:Nw}(h:iu n H S w)(x k s:Int):ah Tryz.prog jd [ptr n,i64 x,vN k s] H fun v H'=>ax (
  (¬w.da x k s∧v= .bool false∧cD (iu n) S H H' w)∨(w.da x k s∧v= .bool true∧∃y,w.cs[x.toNat]? =some y∧cD (iu n) S H H' (w.put x (y.1,k,s)))):=by
 obtain⟨B,ro,C,l,V,ch,par,kb,fD,rows,rb,rfl,m,f,hl,hS⟩:=h
 have hC:∀z,C z→S z:=fun z h=>(hS z).2 (fZ (m.hC z h) nofun)
 have hSR:∀z,S z→z<H.size:=fun z hz=>m.slt z ((hS z).1 hz)
 refine bc rO ⟨rfl,?_⟩
 refine v1 ef.eq_1 ?_
 have f0:ay H (((H.new 198 [ptr B.n]).new 3 [i64 x]).new 224 [i64 k,u64 s]):=(((ai.refl _ _).new _ _).new _ _).new _ _
 have b3:(((H.new 198 [ptr B.n]).new 3 [i64 x]).new 224 [i64 k,u64 s]).own H.size=some [ptr B.n]:=by
  rw[cz (by simp only[au];omega),cz (by simp only[au];omega),aG]
 have b4:(((H.new 198 [ptr B.n]).new 3 [i64 x]).new 224 [i64 k,u64 s]).own (H.size+1)=some [i64 x]:=by
  rw[cz (by simp only[au];omega)]
  exact bC (by simp only[au])
 have b5:(((H.new 198 [ptr B.n]).new 3 [i64 x]).new 224 [i64 k,u64 s]).own (H.size+1+1)=some [i64 k,u64 s]:=bC (by simp only[au])
 have m0:=m.fresh f0
 generalize ((H.new 198 [ptr B.n]).new 3 [i64 x]).new 224 [i64 k,u64 s]=H0 at*
 have ff:ai S H H0:=f0.mono fun _ _ h=>h.elim
 obtain⟨tv,J0,_⟩:=m0.own
 refine v4 (ae b3) (ae b4) (ae J0) (ae b5) ?_
 refine(jh m0.cells x k s).mono ?_
 rintro _ H1 (⟨cw,rfl,c1,e1⟩| ⟨bS,rfl,y,hy,gm,c1,e1⟩)
 ·refine vs ?_
  exact .inl ⟨cw,rfl,cD.same ⟨B,ro,C,l,V,ch,par,kb,fD,rows,rb,rfl,m0.ext e1 (fun _ _ h=>h),f,hl,hS⟩ (ff.trans (e1.mono fun _ _ h=>h.elim))⟩
 have qV:(w.put x (y.1,k,s)).cs.length=w.cs.length:=by simp[Nw.put]
 have m1:=m0.aK c1 e1 qV
 have Cy:w.da x k s:=⟨bS,fun z hz=>by rw[hy]at hz;injection hz with hz;rw[←hz];exact gm⟩
 have hx:0≤x∧x<w.cs.length:=⟨bS.1,by have:=(List.getElem?_eq_some_iff.1 hy).1;have:=bS.1;omega⟩
 have QH:aH w x=y.1:=mT bS.1 hy
 have ec:=bJ.2 bS
 have hw:aH (w.put x (y.1,k,s))=aH w:=by
  funext z
  rw[eD hx]
  split
  ·rename_i e;rw[e,QH]
  ·rfl
 have Ft:cY (w.put x (y.1,k,s)).cs x:=bJ.1 (by rw[hw];exact ec)
 have el:∀a b,0<aH w a→0<aH w b→a≠x→b≠x→aT (w.put x (y.1,k,s)) a b=aT w a b:=fun a b ha hb tE oY=>dE hx _ ha hb tE oY
 have ex:∀b,0<aH w b→b≠x→aT w x b=true→aT (w.put x (y.1,k,s)) x b=true:=fun b hb oY h=>Cp bS hy gm hb oY h
 have ls:=aq w
 have Tk:=aq (w.put x (y.1,k,s))
 have nC:∀z,H.size≤z→¬C z:=fun z hz hc=>by have:=hSR z (hC z hc);omega
 have b31:=e1.own b3 (nC _ (Nat.le_refl _))
 have b41:=e1.own b4 (nC _ (by omega))
 obtain⟨DU,o1,_⟩:=m1.own
 have zI:=m.Sz hl ((m.cells.hm x).2 ec).1
 have hhl:(w.put x (y.1,k,s)).hs.length=w.hs.length:=by simp[Nw.put]
 refine v3 (ae b31) (ae b41) (ae o1) ?_
 refine(dm m1.cells x).mono ?_
 rintro _ H2 (⟨cw,_,_⟩| ⟨_,rfl,c2,e2⟩)
 ·exact absurd Ft cw
 have m2:=m1.aK c2 e2 rfl
 have sA:ai S H H2:=(ff.trans (e1.mono fun z _ h=>hC z h)).trans (e2.mono fun z _ h=>hC z h)
 have b32:=e2.own b31 (nC _ (Nat.le_refl _))
 have b42:=e2.own b41 (nC _ (by omega))
 rw[hw]
 refine v2 (ae b32) (ae b42) ?_
 have f2:Mz (aH (w.put x (y.1,k,s))) (aT (w.put x (y.1,k,s))) ch par rows [] x:=by
  rw[hw]
  exact Mz.start ls f el
 have hE0:∀d∈ch x,aT (w.put x (y.1,k,s)) x d=true:=fun d hd=>by
  obtain⟨_,_,_,h4,h5⟩:=f.pr.dn x d hd
  exact ex d h4 (fun e=>by have:=f.less hd;rw[e]at this;omega) h5
 have hsR:∀z,dK ro z→z<H.size:=m.slt
 refine(IL m2 f2 (g:=aH w x) (by rw[hw]) ec zI gE [ptr H.size,ptr (H.size+1)] (fun p=>aT (w.put x (y.1,k,s)) x p) (fun H'=>H'.own H.size=some [ptr B.n]∧H'.own (H.size+1)=some [i64 x]∧∃tv,H'.own B.n=some [ptr B.c,ptr B.fb,tv])
  (fun ch=>∀d∈ch x,aT (w.put x (y.1,k,s)) x d=true) ?_ (fun H' Gk hJ e=>?_) (by kernel_rfl) (fun H' p hJ cq hp=>?_) hE0 (fun ch par rows p cx KO hq _=>cx.low Tk KO hq)).mono ?_
 ·obtain⟨Nk,o2,_⟩:=m2.own
  exact⟨b32,b42,Nk,o2⟩
 ·obtain⟨j1,j2,Nk,o2⟩:=hJ
  exact⟨e.own j1 (fun h=>by have:=hsR _ h.1;omega),e.own j2 (fun h=>by have:=hsR _ h.1;omega),Nk,e.own o2 (fun h=>h.2 rfl)⟩
 ·obtain⟨j1,j2,Nk,o2⟩:=hJ
  exact zu j1 j2 o2 cq (by rw[hw];exact ec) hp
 rintro _ H3 ⟨Qc,l3,V3,MG,r9,WY,CP,m3,f3,hE3,hq3,QD,e3⟩
 refine vs ?_
 have f4:=f3.done hE3 (fun hp=>by
  rcases hq3 with h|h
  ·exact absurd h hp
  ·have hxc:=f3.w.pr.up x _ rfl hp
   have W5:=f3.w.less hxc
   exact(Tk.Oo (r9 x) x (fun e=>by rw[e]at W5;omega)).resolve_right (by rw[h];simp))
 have z2:=sA.size
 refine .inr ⟨Cy,rfl,y,hy,dK Qc,⟨B,Qc,C,l3,V3,MG,r9,WY,fD,CP,rb,rfl,m3,f4,by rw[hl,hhl],fun z=>Iff.rfl⟩,sA.trans (e3.mono fun z _ h=>(hS z).2 h),fun z hz=>.inl ((hS z).2 (QD z hz))⟩
theorem Kj(cap:Int)(H:Hp):ah Tryz.prog F1 [i64 cap] H fun v H'=>ax (
  ay H H'∧((¬ (0≤cap∧cap≤65536)∧v= .tuple [.pointer none,i64 31].toArray)∨
   ((0≤cap∧cap≤65536)∧∃n S,v= .tuple [ptr n,i64 0].toArray∧iu n H' S (Cw cap)∧∀x,S x→H.size≤x))):=by
 refine bc F6 ⟨rfl,?_⟩
 refine v1 pZ.eq_1 ?_
 refine(nM cap H).mono ?_
 rintro _ H1 ⟨f1,⟨hb,rfl⟩| ⟨hb,c,C,rfl,c1,hC⟩⟩
 ·refine vs ?_
  exact⟨f1,.inl ⟨hb,rfl⟩⟩
 refine vs ?_
 refine(G2 H1 hb).mono ?_
 rintro _ H2 ⟨fb,tb,l,rfl,t2,f2,hfb,UQ⟩
 have c2:=c1.fresh f2
 refine vs ?_
 have zx:=c1.slt
 have z1:=f1.size
 have z2:=f2.size
 have Vd:=t2.RN
 have aS:=t2.ne
 have f3:ay H2 ((H2.new 24 [.slice none 0 0]).new 260 [ptr c,ptr fb,.slice (some ⟨H2.size,0,none⟩) 1 1]):=((ai.refl _ _).new _ _).new _ _
 have e2:ai (fun _=>False) (H2.new 24 [.slice none 0 0]) ((H2.new 24 [.slice none 0 0]).new 260 [ptr c,ptr fb,.slice (some ⟨H2.size,0,none⟩) 1 1]):=(ai.refl _ _).new _ _
 have z3:((H2.new 24 [.slice none 0 0]).new 260 [ptr c,ptr fb,.slice (some ⟨H2.size,0,none⟩) 1 1]).size=H2.size+1+1:=by simp only[au]
 obtain⟨ro,NH⟩:∃ro:Nat→Rl,ro=fun z=>if z=H2.size+1 then Rl.RM else if z=H2.size then Rl.LC else if z=fb then Rl.Gy else if z=tb then Rl.table else @ite _ (C z) (Classical.propDecidable _) Rl.cell Rl.no:=⟨_,rfl⟩
 have r1:ro (H2.size+1)= .RM:=by rw[NH];simp
 have r2:ro H2.size= .LC:=by rw[NH];simp
 have r3:ro fb= .Gy:=by rw[NH];show(if fb=H2.size+1 then _ else _)=_;rw[if_neg (by omega),if_neg (by omega),if_pos rfl]
 have r4:ro tb= .table:=by rw[NH];show(if tb=H2.size+1 then _ else _)=_;rw[if_neg (by omega),if_neg (by omega),if_neg (by omega),if_pos rfl]
 have r5:∀z,C z→ro z= .cell:=fun z hz=>by
  have:=zx z hz
  rw[NH];show(if z=H2.size+1 then _ else _)=_;rw[if_neg (by omega),if_neg (by omega),if_neg (by omega),if_neg (by omega),if_pos hz]
 have r6:∀z,ro z≠ .no→H.size≤z∧z<H2.size+1+1:=fun z hz=>by
  rw[NH]at hz
  simp only at hz
  split at hz
  ·omega
  ·split at hz
   ·omega
   ·split at hz
    ·omega
    ·split at hz
     ·omega
     ·split at hz
      ·rename_i h
       have:=hC z h
       have:=zx z h
       omega
      ·exact absurd rfl hz
 have qQ:(Cw cap).cs.length=cap.toNat:=by simp[Cw]
 refine⟨(f1.trans f2).trans f3,.inr ⟨hb,H2.size+1,dK ro,rfl,⟨⟨H2.size+1,c,fb,tb,H2.size⟩,ro,C,l,fun _=>.slice none 0 0,fun _=>[],fun _=> -1,fun _=>none,[.slice none 0 0],fun _=>[],fun _=>none,rfl,⟨⟨.slice (some ⟨H2.size,0,none⟩) 1 1,bC (by simp only[au]),?_⟩,fun g h0 h1=>?_,c2.fresh f3,?_,r5,r1,r2,fun g b _ _ h=>(by cases h),fun z hz=>?_⟩,
  ⟨⟨rfl,fun x c hc=>absurd hc (by simp),fun c x h hx=>absurd (Eq.symm h) hx,fun x=>List.nodup_nil⟩,fun x i c hc=>by simp at hc,fun h=>List.Pairwise.nil,fun h c hc=>absurd hc (by simp),List.nodup_nil,fun c hc=>absurd hc (by simp),fun c hc=>absurd hc (nP cap c)⟩,rfl,fun z=>Iff.rfl⟩,fun z hz=>(r6 z hz).1⟩⟩
 ·exact(Sl.dQ (size:=1) (n:=1) (xs:=[.slice none 0 0]) rfl rfl).ext e2 (fun _ _ h=>h)
 ·have h1:g<1:=h1
  have hg:g=0:=by omega
  subst hg
  exact⟨.slice none 0 0,rfl,Sl.nil _ _⟩
 ·rw[qQ]
  exact⟨t2.ext f3 (fun h=>h) (fun h=>h),fun x h0 h1=>Sl.nil _ _,r3,r4,fun x b _ _ h=>(by cases h),fun x c hc=>absurd hc (by simp),fun _ _=>rfl⟩
 ·apply Classical.byContradiction
  intro h
  have:=(r6 z h).2
  have hz':H2.size+1+1≤z:=by rw[←z3];exact hz
  omega
set_option maxHeartbeats 1000000 in
theorem IM{n:Nat}{H:Hp}{S:Nat→Prop}{w:Nw}(h:iu n H S w):ah Tryz.prog nu [ptr n] H fun v H'=>ax (
  (w.hs.length=65537∧v=i64 0∧cD (iu n) S H H' w)∨(w.hs.length≠65537∧v=i64 w.hs.length∧cD (iu n) S H H' w.make)):=by
 obtain⟨B,ro,C,l,V,ch,par,kb,fD,rows,rb,rfl,m,f,hl,hS⟩:=id h
 obtain⟨tv,ho,Hv⟩:=m.own
 refine bc wM ⟨rfl,?_⟩
 refine v2 gK.eq_1 (ae ho) ?_
 refine(lN m.cells).mono ?_
 rintro _ H1 (⟨h1,rfl,rfl⟩| ⟨h1,rfl,C',c1,e1,AX⟩)
 ·refine vs ?_
  exact .inl ⟨h1,rfl,cD.same h (ai.refl _ _)⟩
 have iw:=m.cells.pos
 have hhs:=m.cells.Hv
 have slt:=m.slt
 have LH:=c1.slt
 have z1:=e1.size
 have nc:∀z q,ro z=q→q≠ .cell→¬C z:=fun z q h1 h2 hc=>h2 (by rw[←h1,m.hC z hc])
 have o1:=e1.own ho (nc _ _ m.rn nofun)
 refine vs ?_
 refine am.cj (decide_eq_true (by omega)) ?_
 refine v1 (ae o1) ?_
 have s1:=Hv.ext e1 (fun b hb=>by injection hb with hb;subst hb;exact nc _ _ m.rr nofun)
 have fl:ay H1 (H1.new 24 [.slice none 0 0]):=(ai.refl _ _).new _ _
 have zl:(H1.new 24 [.slice none 0 0]).size=H1.size+1:=au _ _ _
 refine Sl.append (s1.ext fl (fun _ _ h=>h)) (Sl.dQ (size:=1) (n:=1) (xs:=[.slice none 0 0]) rfl rfl).rd rfl (fun v hv=>by rw[List.mem_singleton.1 hv];rfl) (by omega) ?_
 intro w' H2 fJ s2 e2' l9
 have e2:ai (fun z=>z=B.rp) H1 H2:=⟨Nat.le_trans fl.size e2'.size,fun z hz hn=>by
  rw[e2'.aN z (Nat.lt_of_lt_of_le hz fl.size) (fun h=>hn (by injection h with h;exact h.symm)),fl.aN z hz (fun h=>h)]⟩
 obtain⟨b',rfl,vY⟩:∃b',fJ=some b'∧(b'=B.rp∨H1.size≤b'∧b'<H2.size):=by
  rcases l9 with rfl| ⟨b',rfl,h2,h3⟩
  ·exact⟨_,rfl,.inl rfl⟩
  ·exact⟨b',rfl,.inr ⟨by omega,h3⟩⟩
 have hnr:B.n≠B.rp:=fun e=>by have:=m.rn;rw[e,m.rr]at this;cases this
 have o2:=e2.own o1 hnr
 obtain⟨wa,wc,OJ⟩:=Sl.shape s2
 subst OJ
 refine v1 o2 ?_
 have hln:B.n<H.size:=slt _ (fZ m.rn nofun)
 have hlr:B.rp<H.size:=slt _ (fZ m.rr nofun)
 have e3:∀v,ai (fun z=>z=B.n) H2 (H2.wr B.n [ptr B.c,ptr B.fb,v]):=fun v=>(ai.refl (fun z=>z=B.n) _).wr (fun _=>rfl) _
 obtain⟨qO,NH⟩:∃qO:Nat→Rl,qO=fun z=>if z=b' then Rl.LC else if z<H.size then ro z else @ite _ (C' z) (Classical.propDecidable _) Rl.cell Rl.no:=⟨_,rfl⟩
 have r1:qO b'= .LC:=by rw[NH];show(if b'=b' then _ else _)=_;rw[if_pos rfl]
 have r2:∀z q,ro z=q→q≠ .no→q≠ .LC→qO z=q:=fun z q h1 h2 h3=>by
  have hz:=slt z (fZ h1 h2)
  rw[NH]
  show(if z=b' then _ else _)=_
  rw[if_neg (fun e=>?_),if_pos hz,h1]
  rcases vY with h|h
  ·exact h3 (by rw[←h1,e,h,m.rr])
  ·omega
 have r3:∀z,C' z→qO z= .cell:=fun z hz=>by
  have Ze:=LH z hz
  by_cases eA:z<H.size
  ·rcases AX z hz with h|h
   ·exact r2 z _ (m.hC z h) nofun nofun
   ·omega
  ·rw[NH]
   show(if z=b' then _ else _)=_
   rw[if_neg (by omega),if_neg eA,if_pos hz]
 have r4:∀z,dK qO z→dK ro z∨H.size≤z:=fun z hz=>by
  by_cases eA:z<H.size
  ·refine .inl fun h=>hz ?_
   rw[NH]
   show(if z=b' then _ else _)=_
   rw[if_neg (fun e=>?_),if_pos eA,h]
   rcases vY with h'|h'
   ·rw[e,h',m.rr]at h;cases h
   ·omega
  ·exact .inr (by omega)
 have r5:∀z,H2.size≤z→qO z= .no:=fun z hz=>by
  have h2:=e2.size
  rw[NH]
  show(if z=b' then _ else _)=_
  rw[if_neg (by omega),if_neg (by omega),if_neg (fun h=>by have:=LH z h;omega)]
 have aaq:∀v,(H2.wr B.n [ptr B.c,ptr B.fb,v]).size=H2.size:=fun v=>gh _ _ _
 have W6:∀z q,ro z=q→q≠ .LC→z≠B.rp:=fun z q h1 h2 e=>h2 (by rw[←h1,e,m.rr])
 have Hz:∀z q,ro z=q→q≠ .RM→z≠B.n:=fun z q h1 h2 e=>h2 (by rw[←h1,e,m.rn])
 have aj0:b'≠B.n:=by rcases vY with h|h<;>omega
 refine .inr ⟨h1,rfl,dK qO,⟨⟨B.n,B.c,B.fb,B.tb,b'⟩,qO,C',l,V,ch,par,kb,fD++[.slice none 0 0],rows,(fun k=>if k< (fD.length:Int)then rb k else none),rfl,⟨⟨_,aj o2,?_⟩,fun g h0 hg=>?_,?_,?_,r3,r2 _ _ m.rn nofun nofun,r1,fun g b h0 hg hb=>?_,fun z hz=>r5 z (by rw[aaq]at hz;exact hz)⟩,f,by rw[List.length_append,hl];simp[Nw.make],fun z=>Iff.rfl⟩,?_,fun z hz=>(r4 z hz).imp_left fun h=>(hS z).2 h⟩
 ·rw[List.length_append]
  exact s2.ext (e3 _) (fun b hb=>by injection hb with hb;omega)
 ·rw[List.length_append,List.length_singleton]at hg
  by_cases dv:g<fD.length
  ·obtain⟨sv,q1,q2⟩:=m.row g h0 dv
   refine⟨sv,by rw[List.getElem?_append_left (by omega)];exact q1,?_⟩
   rw[if_pos dv]
   exact((q2.ext e1 (fun b hb=>nc b _ (m.pG g b h0 dv hb) nofun)).ext e2 (fun b hb=>W6 b _ (m.pG g b h0 dv hb) nofun)).ext (e3 _) (fun b hb=>Hz b _ (m.pG g b h0 dv hb) nofun)
  ·have RX:g=(fD.length:Int):=by omega
   have ZJ:rows g=[]:=by
    cases hc:rows g with
    |nil=>rfl
    |cons c r=>
     obtain⟨h5,_,h6,_⟩:=f.rm g c (by rw[hc];simp)
     have:=((m.cells.hm c).2 (by omega)).2
     omega
   refine⟨.slice none 0 0,by rw[RX,Int.toNat_natCast,List.getElem?_append_right (Nat.le_refl _)];simp,?_⟩
   rw[ZJ,if_neg dv]
   exact Sl.nil _ _
 ·exact(c1.ext e2 (fun z hz e=>by
   rcases AX z hz with h|h
   ·exact W6 z _ (m.hC z h) nofun e
   ·omega)).ext (e3 _) (fun z hz e=>by
   rcases AX z hz with h|h
   ·exact Hz z _ (m.hC z h) nofun e
   ·omega)
 ·have hft:∀z,(ro z= .Gy∨KB ro z)→(¬C z∧z≠B.rp)∧z≠B.n:=fun z hz=>by
   rcases hz with h|h| ⟨x,h⟩<;>exact⟨⟨nc z _ h nofun,W6 z _ h nofun⟩,Hz z _ h nofun⟩
  have f1:=((m.fo.ext e1 (fun z hz=>(hft z hz).1.1)).ext e2 (fun z hz=>(hft z hz).1.2)).ext (e3 (.slice wa (fD.length+1) wc)) (fun z hz=>(hft z hz).2)
  exact⟨f1.t,f1.kd,r2 _ _ f1.rf nofun nofun,r2 _ _ f1.rt nofun nofun,fun x b h0 h1 hb=>r2 _ _ (f1.rk x b h0 h1 hb) nofun nofun,f1.Hw,f1.no⟩
 ·rw[List.length_append,List.length_singleton]at hg
  by_cases dv:g<fD.length
  ·rw[if_pos dv]at hb
   exact r2 _ _ (m.pG g b h0 dv hb) nofun nofun
  ·rw[if_neg dv]at hb
   cases hb
 ·refine(((e1.mono fun z _ h=>?_).trans (e2.mono fun z _ h=>?_)).trans ((e3 _).mono fun z _ h=>?_):ai S H _)
  ·exact(hS z).2 (fZ (m.hC z h) nofun)
  ·exact(hS z).2 (by rw[h];exact fZ m.rr nofun)
  ·exact(hS z).2 (by rw[h];exact fZ m.rn nofun)
theorem SA(n:Nat):zB (.iface 198 (ptr n)) (iu n) where
 slt h:=h.slt
 ext h e hd:=h.ext e hd
 cells:=by
  rintro H S w ⟨B,ro,C,l,V,ch,par,kb,fD,rows,rb,rfl,m,f,hl,hS⟩
  exact⟨B.c,C,m.cells⟩
 has:=by
  rintro H S w g ⟨B,ro,C,l,V,ch,par,kb,fD,rows,rb,rfl,m,f,hl,hS⟩
  obtain⟨tv,ho,_⟩:=m.own
  exact⟨_,_,bF,ptr B.c,rfl,hX (off:=0) (by kernel_rfl) (ae ho) rfl,(kC m.cells g).mono fun v H' hp=>hp⟩
 make:=by
  intro H S w h
  exact⟨_,_,nu,ptr n,rfl,bE (by kernel_rfl),(IM h).mono fun v H' hp=>hp⟩
 insert:=by
  intro H S w g x k s h
  exact⟨_,_,kR,ptr n,rfl,bE (by kernel_rfl),(FD h g x k s).mono fun v H' hp=>hp⟩
 min:=by
  intro H S w g h
  refine⟨_,_,oQ,ptr n,rfl,bE (by kernel_rfl),(CO h g).mono ?_⟩
  rintro v H' (⟨h1,rfl,h2,h3⟩| ⟨x,h1,rfl,h2,h3⟩)
  ·exact .inl ⟨h1,rfl,cD.same h2 h3⟩
  ·exact .inr ⟨x,h1,rfl,cD.same h2 h3⟩
 extract:=by
  intro H S w g h
  exact⟨_,_,j7,ptr n,rfl,bE (by kernel_rfl),(En h g).mono fun v H' hp=>hp⟩
 qt:=by
  intro H S w x k s h
  exact⟨_,_,jd,ptr n,rfl,bE (by kernel_rfl),(CR h x k s).mono fun v H' hp=>hp⟩
 entry:=by
  rintro H S w x ⟨B,ro,C,l,V,ch,par,kb,fD,rows,rb,rfl,m,f,hl,hS⟩
  obtain⟨tv,ho,_⟩:=m.own
  refine⟨_,_,bk,ptr B.c,rfl,hX (off:=0) (by kernel_rfl) (ae ho) rfl,(jg m.cells x).mono ?_⟩
  rintro v H' ⟨c1,f1,hv⟩
  exact⟨⟨B,ro,C,l,V,ch,par,kb,fD,rows,rb,rfl,m.fresh f1,f,hl,hS⟩,f1,hv⟩
theorem Ba(n:Nat)(H:Hp):ah Tryz.prog sE [ptr n,i64 0] H fun v H'=>ax (v= .tuple [.iface 198 (ptr n),i64 0].toArray∧H'=H):=by
 refine bc sN ⟨rfl,?_⟩
 refine v2 eK.eq_1 decide_true ?_
 exact⟨rfl,rfl⟩
theorem CS(n:Nat)(H:Hp):ah Tryz.prog tJ [ptr n,i64 0] H fun v H'=>ax (v= .tuple [.iface 202 (ptr n),i64 0].toArray∧H'=H):=by
 refine bc tR ⟨rfl,?_⟩
 refine v2 fe.eq_1 decide_true ?_
 exact⟨rfl,rfl⟩
theorem CT(n:Nat)(H:Hp):ah Tryz.prog tK [ptr n,i64 0] H fun v H'=>ax (v= .tuple [.iface 210 (ptr n),i64 0].toArray∧H'=H):=by
 refine bc tS ⟨rfl,?_⟩
 refine v2 fg.eq_1 decide_true ?_
 exact⟨rfl,rfl⟩
theorem G4(n:Nat)(H:Hp):ah Tryz.prog yi [ptr n,i64 0] H fun v H'=>ax (v= .tuple [.iface 214 (ptr n),i64 0].toArray∧H'=H):=by
 refine bc yG ⟨rfl,?_⟩
 refine v2 iA.eq_1 decide_true ?_
 exact⟨rfl,rfl⟩
theorem G5(n:Nat)(H:Hp):ah Tryz.prog yj [ptr n,i64 0] H fun v H'=>ax (v= .tuple [.iface 218 (ptr n),i64 0].toArray∧H'=H):=by
 refine bc yH ⟨rfl,?_⟩
 refine v2 iB.eq_1 decide_true ?_
 exact⟨rfl,rfl⟩
theorem Kk{kd dd cap:Int}(hf:lQ kd dd)(hc:0≤cap∧cap≤65536)(H:Hp):ah Tryz.prog I3 [Nn kd dd,i64 cap] H fun v H'=>ax (∃t vv I Sn,v= .tuple [.iface t vv,i64 0].toArray∧zB (.iface t vv) I∧I H' Sn (Cw cap)∧ay H H'∧∀z,Sn z→H.size≤z):=by
 refine bc Do ⟨rfl,?_⟩
 refine v1 sM.eq_1 ?_
 have f0:ay H (H.new 23 [i64 kd,i64 dd]):=(ai.refl _ _).new _ _
 have o0:(H.new 23 [i64 kd,i64 dd]).own H.size=some [i64 kd,i64 dd]:=aG _ _ _
 have z0:(H.new 23 [i64 kd,i64 dd]).size=H.size+1:=au _ _ _
 generalize H.new 23 [i64 kd,i64 dd]=H0 at*
 obtain rfl|rfl|rfl|rfl|rfl|rfl|rfl|rfl:kd=1∨kd=2∨kd=3∨kd=4∨kd=5∨kd=6∨kd=7∨kd=8:=by have:=hf.1;omega
 ·refine am.cj (by decide) ?_
  refine v1 (ae o0) ?_
  refine am.cj (by decide) ?_
  refine v1 (ae o0) ?_
  refine(lR hf (by decide) H0).mono ?_
  rintro _ H1 ⟨rfl,f1⟩
  refine vs ?_
  refine(rZ cap _ H1).mono ?_
  rintro _ H2 ⟨f2,⟨hb,rfl⟩| ⟨_,hd,rfl⟩| ⟨_,hd,n,Sn,rfl,h2,J8⟩⟩
  ·exact absurd hc hb
  ·refine absurd ?_ hd
   obtain⟨_,h|h⟩:=hf
   ·first|exact⟨h.2.1,h.2.2⟩|exact absurd h.1 (by decide)
   ·first|exact⟨by decide,by decide⟩|exact absurd rfl h.1
  ·refine vs ?_
   refine(qB n H2).mono ?_
   rintro _ _ ⟨rfl,rfl⟩
   have z1:=f1.size
   refine vs ?_
   exact⟨_,_,_,Sn,rfl,A5 n _,⟨0,h2⟩,(f0.trans f1).trans f2,fun z hz=>by have:=J8 z hz;omega⟩
 ·refine am.aW (by decide) ?_
  refine vs ?_
  refine am.cj (by decide) ?_
  refine v1 (ae o0) ?_
  refine(lR hf (by decide) H0).mono ?_
  rintro _ H1 ⟨rfl,f1⟩
  refine vs ?_
  refine(rZ cap _ H1).mono ?_
  rintro _ H2 ⟨f2,⟨hb,rfl⟩| ⟨_,hd,rfl⟩| ⟨_,hd,n,Sn,rfl,h2,J8⟩⟩
  ·exact absurd hc hb
  ·refine absurd ?_ hd
   obtain⟨_,h|h⟩:=hf
   ·first|exact⟨h.2.1,h.2.2⟩|exact absurd h.1 (by decide)
   ·first|exact⟨by decide,by decide⟩|exact absurd rfl h.1
  ·refine vs ?_
   refine(qB n H2).mono ?_
   rintro _ _ ⟨rfl,rfl⟩
   have z1:=f1.size
   refine vs ?_
   exact⟨_,_,_,Sn,rfl,A5 n _,⟨0,h2⟩,(f0.trans f1).trans f2,fun z hz=>by have:=J8 z hz;omega⟩
 ·refine am.aW (by decide) ?_
  refine vs ?_
  refine am.aW (by decide) ?_
  refine vs ?_
  refine am.cj (by decide) ?_
  refine vs ?_
  refine(Kj cap H0).mono ?_
  rintro _ H2 ⟨f2,⟨hb,rfl⟩| ⟨_,n,Sn,rfl,h2,J8⟩⟩
  ·exact absurd hc hb
  ·refine vs ?_
   refine(Ba n H2).mono ?_
   rintro _ _ ⟨rfl,rfl⟩
   refine vs ?_
   exact⟨_,_,_,Sn,rfl,SA n,h2,f0.trans f2,fun z hz=>by have:=J8 z hz;omega⟩
 ·refine am.aW (by decide) ?_
  refine vs ?_
  refine am.aW (by decide) ?_
  refine vs ?_
  refine am.aW (by decide) ?_
  refine vs ?_
  refine am.cj (by decide) ?_
  refine vs ?_
  refine(Eh cap H0).mono ?_
  rintro _ H2 ⟨f2,⟨hb,rfl⟩| ⟨_,n,Sn,rfl,h2,J8⟩⟩
  ·exact absurd hc hb
  ·refine vs ?_
   refine(CS n H2).mono ?_
   rintro _ _ ⟨rfl,rfl⟩
   refine vs ?_
   exact⟨_,_,_,Sn,rfl,Ke n,h2,f0.trans f2,fun z hz=>by have:=J8 z hz;omega⟩
 ·refine am.aW (by decide) ?_
  refine vs ?_
  refine am.aW (by decide) ?_
  refine vs ?_
  refine am.aW (by decide) ?_
  refine vs ?_
  refine am.aW (by decide) ?_
  refine vs ?_
  refine am.cj (by decide) ?_
  refine vs ?_
  refine(CH cap H0).mono ?_
  rintro _ H2 ⟨f2,⟨hb,rfl⟩| ⟨_,n,Sn,rfl,h2,J8⟩⟩
  ·exact absurd hc hb
  ·refine vs ?_
   refine(pe n H2).mono ?_
   rintro _ _ ⟨rfl,rfl⟩
   refine vs ?_
   exact⟨_,_,_,Sn,rfl,LN n,h2,f0.trans f2,fun z hz=>by have:=J8 z hz;omega⟩
 ·refine am.aW (by decide) ?_
  refine vs ?_
  refine am.aW (by decide) ?_
  refine vs ?_
  refine am.aW (by decide) ?_
  refine vs ?_
  refine am.aW (by decide) ?_
  refine vs ?_
  refine am.aW (by decide) ?_
  refine vs ?_
  refine am.cj (by decide) ?_
  refine vs ?_
  refine(D0 cap H0).mono ?_
  rintro _ H2 ⟨f2,⟨hb,rfl⟩| ⟨_,n,Sn,rfl,h2,J8⟩⟩
  ·exact absurd hc hb
  ·refine vs ?_
   refine(CT n H2).mono ?_
   rintro _ _ ⟨rfl,rfl⟩
   refine vs ?_
   exact⟨_,_,_,Sn,rfl,J1 n,h2,f0.trans f2,fun z hz=>by have:=J8 z hz;omega⟩
 ·refine am.aW (by decide) ?_
  refine vs ?_
  refine am.aW (by decide) ?_
  refine vs ?_
  refine am.aW (by decide) ?_
  refine vs ?_
  refine am.aW (by decide) ?_
  refine vs ?_
  refine am.aW (by decide) ?_
  refine vs ?_
  refine am.aW (by decide) ?_
  refine vs ?_
  refine am.cj (by decide) ?_
  refine vs ?_
  refine(IF cap H0).mono ?_
  rintro _ H2 ⟨f2,⟨hb,rfl⟩| ⟨_,n,Sn,rfl,h2,J8⟩⟩
  ·exact absurd hc hb
  ·refine vs ?_
   refine(G4 n H2).mono ?_
   rintro _ _ ⟨rfl,rfl⟩
   refine vs ?_
   exact⟨_,_,_,Sn,rfl,PY n,h2,f0.trans f2,fun z hz=>by have:=J8 z hz;omega⟩
 ·refine am.aW (by decide) ?_
  refine vs ?_
  refine am.aW (by decide) ?_
  refine vs ?_
  refine am.aW (by decide) ?_
  refine vs ?_
  refine am.aW (by decide) ?_
  refine vs ?_
  refine am.aW (by decide) ?_
  refine vs ?_
  refine am.aW (by decide) ?_
  refine vs ?_
  refine am.aW (by decide) ?_
  refine vs ?_
  refine(Iy cap H0).mono ?_
  rintro _ H2 ⟨f2,⟨hb,rfl⟩| ⟨_,n,Sn,rfl,h2,J8⟩⟩
  ·exact absurd hc hb
  ·refine vs ?_
   refine(G5 n H2).mono ?_
   rintro _ _ ⟨rfl,rfl⟩
   refine vs ?_
   exact⟨_,_,_,Sn,rfl,Nv n,⟨0,h2⟩,f0.trans f2,fun z hz=>by have:=J8 z hz;omega⟩
theorem LU{kd dd:Int}(hf:lQ kd dd):EF kd dd:=fun _ hc H=>Kk hf hc H
end Go.Proofs.YtjlnnljohemifaaGreat
