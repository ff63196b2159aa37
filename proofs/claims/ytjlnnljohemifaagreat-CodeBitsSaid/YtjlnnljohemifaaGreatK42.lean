/- Texts put behind each other. -/
import Derived.Test.YtjlnnljohemifaaGreatK98
import Derived.Test.YtjlnnljohemifaaGreatK4
import Derived.Test.YtjlnnljohemifaaGreatK35
import Derived.Test.YtjlnnljohemifaaGreatK41
set_option maxRecDepth 100000
set_option maxHeartbeats 8000000
set_option linter.unusedVariables false
set_option linter.unusedSimpArgs false
namespace Go.Proofs.YtjlnnljohemifaaGreat
open Go Go.Vc
structure Y9 where
 n:Nat
 c:Nat
 fb:Nat
 tb:Nat
 rp:Nat
structure uT(H:Hp)(ro:Nat→Rl)(B:Y9)(C:Nat→Prop)(w:Nw)(l:List Value)(V:Int→Value)(ch:Int→List Int)(par:Int→Int)(kb:Int→Option Nat)(cN:List Value)(rows:Int→List Int)(rb:Int→Option Nat):Prop where
 own:∃tv,H.own B.n=some [ptr B.c,ptr B.fb,tv]∧Sl H 1 tv cN.length cN (some B.rp)
 row:∀g:Int,0≤g→g<cN.length→∃sv,cN[g.toNat]? =some sv∧Sl H 1 sv (rows g).length ((rows g).map i64) (rb g)
 cells:CQ H B.c C w
 fo:ForM H ro B.fb B.tb w.cs.length l V ch par kb
 hC:∀z,C z→ro z= .cell
 rn:ro B.n= .RB
 rr:ro B.rp= .Lo
 mF:∀ (g:Int) b,0≤g→g<cN.length→rb g=some b→ro b= .row g
 hz:∀z,H.size≤z→ro z= .no
def dE(ro:Nat→Rl)(z:Nat):Prop:=ro z≠ .no
section
variable {H H' : Hp} {ro ro' : Nat → Rl} {B : Y9} {C T : Nat → Prop} {w w' : Nw} {l l' : List Value} {V V' : Int → Value} {ch dU : Int → List Int} {par bF : Int → Int} {kb tA : Int → Option Nat} {cN : List Value} {rows : Int → List Int} {rb : Int → Option Nat} {lt : Int → Int → Bool} {W W0 L : List Int}
theorem uT.slt(m:uT H ro B C w l V ch par kb cN rows rb):∀z,dE ro z→z<H.size:=fun z hz=>by
 apply anW
 intro h
 exact hz (m.hz z (by omega))
theorem eZ{ro:Nat→Rl}{z:Nat}{r:Rl}(h:ro z=r)(hr:r≠ .no):dE ro z:=fun e=>hr (by rw[←h,e])
theorem uT.ext(m:uT H ro B C w l V ch par kb cN rows rb)(e:ag T H H')(hd:∀z,dE ro z→¬T z):uT H' ro B C w l V ch par kb cN rows rb:=by
 obtain⟨tv,h1,h2⟩:=m.own
 have hs:=e.size
 refine⟨⟨tv,e.own h1 (hd _ (eZ m.rn nofun)),h2.ext e (fun b hb=>by injection hb with hb;subst hb;exact hd _ (eZ m.rr nofun))⟩,fun g h0 h1=>?_,m.cells.ext e (fun z hz=>hd z (eZ (m.hC z hz) nofun)),m.fo.ext e (fun z hz=>?_),m.hC,m.rn,m.rr,m.mF,fun z hz=>m.hz z (by omega)⟩
 ·obtain⟨sv,q1,q2⟩:=m.row g h0 h1
  exact⟨sv,q1,q2.ext e (fun b hb=>hd b (eZ (m.mF g b h0 h1 hb) nofun))⟩
 ·rcases hz with h|h| ⟨x,h⟩<;>exact hd z (eZ h nofun)
theorem uT.fresh(m:uT H ro B C w l V ch par kb cN rows rb)(e:ai H H'):uT H' ro B C w l V ch par kb cN rows rb:=m.ext e fun _ _ h=>h
theorem uT.aJ(m:uT H ro B C w l V ch par kb cN rows rb)(c1:CQ H' B.c C w')(e:ag C H H')(hl:w'.cs.length=w.cs.length):uT H' ro B C w' l V ch par kb cN rows rb:=by
 obtain⟨tv,h1,h2⟩:=m.own
 have hs:=e.size
 have hd:∀z r,ro z=r→r≠ .cell→¬C z:=fun z r h1 h2 hc=>h2 (by rw[←h1,m.hC z hc])
 refine⟨⟨tv,e.own h1 (hd _ _ m.rn nofun),h2.ext e (fun b hb=>by injection hb with hb;subst hb;exact hd _ _ m.rr nofun)⟩,fun g h0 h1=>?_,c1,?_,m.hC,m.rn,m.rr,m.mF,fun z hz=>m.hz z (by omega)⟩
 ·obtain⟨sv,q1,q2⟩:=m.row g h0 h1
  exact⟨sv,q1,q2.ext e (fun b hb=>hd b _ (m.mF g b h0 h1 hb) nofun)⟩
 ·rw[hl]
  refine m.fo.ext e (fun z hz=>?_)
  rcases hz with h|h| ⟨x,h⟩<;>exact hd z _ h nofun
theorem uT.Sp(m:uT H ro B C w l V ch par kb cN rows rb)(f:ForM H' ro' B.fb B.tb w.cs.length l' V' dU bF tA)(c1:CQ H' B.c C w)(r:RK H.size ro ro')(hz:∀z,H'.size≤z→ro' z= .no)(e:ag (KC ro) H H'):uT H' ro' B C w l' V' dU bF tA cN rows rb:=by
 obtain⟨tv,h1,h2⟩:=m.own
 have hd:∀z q,ro z=q→(∀x,q≠ .pe x)→q≠ .table→q≠ .cell→¬KC ro z:=fun z q h1 h2 h3 h4 hc=>by
  rcases hc with (hc| ⟨x,hc⟩)|hc
  ·exact h3 (by rw[←h1,hc])
  ·exact h2 x (by rw[←h1,hc])
  ·exact h4 (by rw[←h1,hc])
 have hk:∀z q,ro z=q→q≠ .no→(∀x,q≠ .pe x)→ro' z=q:=fun z q h1 h2 h3=>by
  rw[r.o z (m.slt z (eZ h1 h2)) (fun x e=>h3 x (by rw[←h1,e])),h1]
 refine⟨⟨tv,e.own h1 (hd _ _ m.rn nofun nofun nofun),h2.ext e (fun b hb=>by injection hb with hb;subst hb;exact hd _ _ m.rr nofun nofun nofun)⟩,fun g h0 h1=>?_,c1,f,fun z hz=>hk z _ (m.hC z hz) nofun nofun,hk _ _ m.rn nofun nofun,hk _ _ m.rr nofun nofun,fun g b h0 h1 hb=>hk b _ (m.mF g b h0 h1 hb) nofun nofun,hz⟩
 obtain⟨sv,q1,q2⟩:=m.row g h0 h1
 exact⟨sv,q1,q2.ext e (fun b hb=>hd b _ (m.mF g b h0 h1 hb) nofun nofun nofun)⟩
theorem uT.Vw(m:uT H ro B C w l V ch par kb cN rows rb){g:Int}(hg:0≤g∧g<cN.length){H1:Hp}(e0:ag (fun z=>rb g=some z) H H1){lb:List Value}(Dc:H1.own B.rp=some lb){sv:Value}{L':List Int}{o:Option Nat}(s:Sl H1 1 sv L'.length (L'.map i64) o)(ho:∀b,o=some b→ro b= .no∨ro b= .row g):
  uT (H1.wr B.rp (lb.set g.toNat sv)) (fun z=>if o=some z then .row g else ro z) B C w l V ch par kb (cN.set g.toNat sv) (ay rows g L') (fun k=>if k=g then o else rb k)∧ag (dE ro) H (H1.wr B.rp (lb.set g.toNat sv))∧
   (∀z,dE (fun z=>if o=some z then .row g else ro z) z→dE ro z∨o=some z):=by
 obtain⟨tv,h1,h2⟩:=m.own
 have e:ag (fun z=>z=B.rp) H1 (H1.wr B.rp (lb.set g.toNat sv)):=(ag.refl (fun z=>z=B.rp) _).wr (fun _=>rfl) _
 have Pp:(H1.wr B.rp (lb.set g.toNat sv)).size=H1.size:=ec _ _ _
 have hs0:=e0.size
 have JV:∀z q,ro z=q→q≠ .no→q≠ .row g→(if o=some z then Rl.row g else ro z)=q:=fun z q h1 h2 h3=>by
  rw[if_neg (fun e=>by rcases ho z e with h|h;exact h2 (by rw[←h1,h]);exact h3 (by rw[←h1,h])),h1]
 have ne:∀z q,ro z=q→q≠ .Lo→z≠B.rp:=fun z q h1 h2 e=>h2 (by rw[←h1,e,m.rr])
 have n0:∀z q,ro z=q→q≠ .row g→¬rb g=some z:=fun z q h1 h2 h3=>h2 (by rw[←h1,m.mF g z hg.1 hg.2 h3])
 have hob:∀b,o=some b→b≠B.rp:=fun b hb e=>by rcases ho b hb with h|h<;>(rw[e,m.rr]at h;cases h)
 obtain⟨ta,tc,rfl⟩:=Sl.shape h2
 have hta:ta=some ⟨B.rp,0,none⟩:=by
  obtain⟨_,_,_,hh,_⟩:=h2
  injection hh with hh
 subst hta
 have h3:=h2.ext e0 (fun b hb=>by injection hb with hb;subst hb;exact n0 _ _ m.rr nofun)
 refine⟨⟨⟨_,e.own (e0.own h1 (n0 _ _ m.rn nofun)) (ne _ _ m.rn nofun),?_⟩,fun k h0 h1=>?_,(m.cells.ext e0 (fun z hz=>n0 z _ (m.hC z hz) nofun)).ext e (fun z hz=>ne z _ (m.hC z hz) nofun),?_,fun z hz=>JV z _ (m.hC z hz) nofun nofun,JV _ _ m.rn nofun nofun,JV _ _ m.rr nofun nofun,fun k b h0 h1 hb=>?_,fun z hz=>?_⟩,
  (e0.mono fun z _ h=>eZ (m.mF g z hg.1 hg.2 h) nofun).trans (e.mono fun z _ h=>by rw[h];exact eZ m.rr nofun),fun z hz=>?_⟩
 ·rw[anv]
  exact h3.tQ Dc g.toNat sv
 ·rw[anv]at h1
  by_cases hk:k=g
  ·subst hk
   refine⟨sv,by rw[anB (by omega)],?_⟩
   unfold ay
   rw[if_pos rfl,if_pos rfl]
   exact s.ext e (fun b hb=>hob b hb)
  ·obtain⟨Vi,q1,q2⟩:=m.row k h0 h1
   refine⟨Vi,by rw[anA (by omega)];exact q1,?_⟩
   unfold ay
   rw[if_neg hk,if_neg hk]
   exact(q2.ext e0 (fun b hb=>n0 b _ (m.mF k b h0 h1 hb) (fun e=>hk (by injection e)))).ext e (fun b hb=>ne b _ (m.mF k b h0 h1 hb) nofun)
 ·have f1:=(m.fo.ext e0 (fun z hz=>by rcases hz with h|h| ⟨x,h⟩<;>exact n0 z _ h nofun)).ext e (fun z hz=>by rcases hz with h|h| ⟨x,h⟩<;>exact ne z _ h nofun)
  exact⟨f1.t,f1.kd,JV _ _ f1.rf nofun nofun,JV _ _ f1.rt nofun nofun,fun x b h0 h1 hb=>JV _ _ (f1.rk x b h0 h1 hb) nofun nofun,f1.GA,f1.no⟩
 ·rw[anv]at h1
  by_cases hk:k=g
  ·rw[if_pos hk]at hb
   rw[if_pos hb,hk]
  ·rw[if_neg hk]at hb
   have:=m.mF k b h0 h1 hb
   exact JV b _ this nofun (fun e=>hk (by injection e))
 ·rw[Pp]at hz
  rw[if_neg (fun e=>?_),m.hz z (by omega)]
  cases o with
  |none=>cases e
  |some b=>
   injection e with e
   have:=Sl.lt s
   omega
 ·by_cases h:o=some z
  ·exact .inr h
  ·refine .inl fun h2=>hz ?_
   simp only[if_neg h]
   exact h2
theorem uT.LO(m:uT H ro B C w l V ch par kb cN rows rb){g:Int}(hg:0≤g∧g<cN.length):∃lb tc sv,H.own B.n=some [ptr B.c,ptr B.fb,.slice (some ⟨B.rp,0,none⟩) cN.length tc]∧H.own B.rp=some lb∧lb[g.toNat]? =some sv∧g.toNat<lb.length∧cN[g.toNat]? =some sv∧
  Sl H 1 sv (rows g).length ((rows g).map i64) (rb g):=by
 obtain⟨tv,h1,h2⟩:=m.own
 obtain⟨sv,q1,q2⟩:=m.row g hg.1 hg.2
 obtain⟨_,lb,tc,rfl,ho,hc,hl,ht⟩:=h2
 refine⟨lb,tc,sv,h1,ho,?_,by omega,q1,q2⟩
 have h7:=q1
 rw[←ht,an9]at h7
 split at h7
 ·exact h7
 ·cases h7
theorem Sl.rdB{sv:Value}{L:List Int}{fp:Option Nat}{Bd:Nat}(s:Sl H 1 sv L.length (L.map i64) fp)(hf:∀b,fp=some b→b<Bd∧¬KC ro b):Ge H ro Bd sv L:=by
 cases fp with
 |none=>
  obtain⟨_,h2,rfl⟩:=s
  exact⟨none,0,by rw[h2],by omega,.inl (an5.1 h2)⟩
 |some b=>
  obtain⟨_,lb,c,rfl,ho,hc,hl,ht⟩:=s
  obtain⟨h1,h2⟩:=hf b rfl
  refine⟨_,c,rfl,hc,.inr ⟨b,0,lb,rfl,h1,h2,ae ho,by omega,?_⟩⟩
  rw[List.drop_zero]
  rw[anw]at ht
  exact ht
theorem Br(m:uT H ro B C w l V ch par kb cN rows rb){g:Int}{lv:Value}(S0:Ge H ro H.size lv L)(aO:∀a b,aQ w a b=true→lt a b=true)(f:ju (aG w) lt ch par rows (L++W0))(hL:Gc ch L)(hg:∀c∈L,aG w c=g)(xS:0≤g∧g<cN.length):
  af Tryz.prog vN [ptr B.n,i64 g,lv] H fun v H'=>aw (∃ro' l' V' dU bF tA Nv jS rb',uT H' ro' B C w l' V' dU bF tA Nv jS rb'∧ju (aG w) lt dU bF jS W0∧Nv.length=cN.length∧(∀z∈W0,dU z=ch z)∧
   (∀z,dE ro' z→dE ro z∨H.size≤z)∧ag (dE ro) H H'):=by
 obtain⟨lb,tc,sv,o1,q1,q2,Dc,_,s2⟩:=m.LO xS
 obtain⟨va,vc,rfl⟩:=Sl.shape s2
 obtain⟨aL,cL,rfl,hcL⟩:=S0.cap
 have hra:Ge H ro H.size (.slice va (rows g).length vc) (rows g):=Sl.rdB s2 (fun b hb=>by
  have h5:=m.mF g b xS.1 xS.2 hb
  refine⟨m.slt b (eZ h5 nofun),fun hc=>?_⟩
  rcases hc with (hc| ⟨x,hc⟩)|hc<;>(rw[h5]at hc;cases hc))
 have h0:oU H ro B.n B.fb B.tb B.c C w H ro l V ch par kb (.slice va (rows g).length vc) (.slice aL L.length cL) (rows g) L:=⟨m.fo,m.cells,m.hC,⟨_,o1⟩,m.rn,m.hz,RK.refl m.hz,hra,S0,ag.refl _ _⟩
 have f1:=f.loose g
 have qB:∀c∈rows g,aG w c=g:=fun c hc=>(f.rm g c hc).1
 refine Gv wF ⟨rfl,?_⟩
 refine v1 lY.eq_1 ?_
 refine jX.intro (fun H'=>H'.own B.n=some [ptr B.c,ptr B.fb,.slice (some ⟨B.rp,0,none⟩) cN.length tc]) o1 ?_
 refine vs ?_
 refine fV.intro (.slice (some ⟨B.rp,0,none⟩) cN.length tc) (fun H' hI=>by refine v1 (ae hI) ?_;trivial) ?_
 refine vs ?_
 have hgi:0≤g∧g< (cN.length:Int):=xS
 have key:∀K:Value→Hp→Prop,(∀out ro' l' V' dU bF tA vo fo H',oU H ro B.n B.fb B.tb B.c C w H' ro' l' V' dU bF tA (.slice none 0 0) (.slice none 0 0) [] []→Sl H' 1 vo out.length (out.map i64) fo→(∀z,fo=some z→H.size≤z∧ro' z= .no)→ju (aG w) lt dU bF (ay rows g []) (out++W0)→Gc dU out→(∀c∈out,aG w c=g)→(∀z∈W0,dU z=ch z)→K (.tuple [vo,.bool true].toArray) H')→
   af Tryz.prog kJ [ptr B.fb,.iface 198 (ptr B.n),.slice va (rows g).length vc,.slice aL L.length cL] H K:=fun K hK=>by
  refine(CV h0 aO f1 (f.rr g) hL (fun c hc=>by rcases hc with h|h;exact qB c h;exact hg c h)).mono ?_
  rintro _ H' ⟨out,ro',l',V',dU,bF,tA,vo,fo,rfl,h1,h2,h3,h4,h5,h6,h7⟩
  exact hK out ro' l' V' dU bF tA vo fo H' h1 h2 h3 h4 h5 h6 h7
 refine EB.intro ?A ?B
 case' A=>
  refine v1 (ae o1) ?_
  refine And.intro o1 ?_
  refine v1 (ae o1) ?_
  refine And.intro o1 ?_
  refine vs ?_
  refine⟨⟨by omega,by omega⟩,?_⟩
  refine v4 (ae q1) ant anw q2 ?_
  refine And.intro o1 ?_
  refine vs ?_
 case' B=>
  refine v1 (ae o1) ?_
  refine And.intro o1 ?_
  refine vs ?_
  refine⟨⟨by omega,by omega⟩,?_⟩
  refine vs ?_
  refine EB.intro ?C ?D
  case' C=>
   refine v1 (ae o1) ?_
   refine And.intro o1 ?_
   refine v4 (ae q1) ant anw q2 ?_
   refine And.intro o1 ?_
   refine vs ?_
  case' D=>
   refine v4 (ae q1) ant anw q2 ?_
   refine And.intro o1 ?_
   refine v1 (ae o1) ?_
   refine And.intro o1 ?_
   refine vs ?_
 all_goals
  refine key _ fun out nU l2 V2 lq jm Dq vo fo2 H2 h2 Ds Qy f2 r2 g2 w2=>?_
  obtain⟨vb,vc2,rfl⟩:=Sl.shape Ds
  have m2:=m.Sp h2.m h2.cq h2.rk h2.hz h2.e
  obtain⟨lb2,tc2,sv2,o2,q3,q4,ak9,_,_⟩:=m2.LO xS
  have o2':H2.own B.n=some [ptr B.c,ptr B.fb,.slice (some ⟨B.rp,0,none⟩) cN.length tc]:=h2.e.own o1 (fun hc=>by
   rcases hc with (hc| ⟨x,hc⟩)|hc<;>(rw[m.rn]at hc;cases hc))
  refine And.intro o2' ?_
  refine vs ?_
  refine⟨⟨by omega,by omega⟩,?_⟩
  refine v3 q3 ant anw ?_
  refine⟨by omega,?_⟩
  obtain⟨m3,e3,Td⟩:=m2.Vw xS (ag.refl _ _) q3 Ds (fun b hb=>.inl (Qy b hb).2)
  refine vs ?_
  have hnr:B.n≠B.rp:=fun e=>by have:=m2.rn;rw[e,m2.rr]at this;cases this
  refine And.intro (((ag.refl (fun z=>z=B.rp) _).wr (fun _=>rfl) _:ag (fun z=>z=B.rp) H2 _).own o2' hnr) ?_
  refine vs ?_
  have f3:=f2.row (g:=g) (by unfold ay;rw[if_pos rfl]) r2 g2
  rw[eB]at f3
  have NB:∀z,dE nU z→dE ro z∨H.size≤z:=fun z hz=>by
   by_cases NT:z<H.size
   ·refine .inl fun h=>hz ?_
    exact h2.rk.none NT h
   ·exact .inr (by omega)
  refine⟨_,l2,V2,lq,jm,Dq,_,_,_,m3,f3,anv ..,w2,fun z hz=>?_,?_⟩
  ·rcases Td z hz with h|h
   ·exact NB z h
   ·exact .inr (Qy z h).1
  ·have e2:ag (dE ro) H H2:=h2.e.mono fun z _ h=>by
    rcases h with (h| ⟨x,h⟩)|h<;>exact eZ h nofun
   exact⟨aor e2.size e3.size,fun z hz hn=>by
    rw[e3.aM z (anT hz e2.size) (fun h=>by
     rcases NB z h with h|h
     ·exact hn h
     ·omega),e2.aM z hz hn]⟩
end
end Go.Proofs.YtjlnnljohemifaaGreat

namespace Go.Proofs.YtjlnnljohemifaaGreat
open Go Go.Vc
def gw(n:Nat)(H:Hp)(S:Nat→Prop)(w:Nw):Prop:=∃ (B:Y9) (ro:Nat→Rl) (C:Nat→Prop) (l:List Value) (V:Int→Value) (ch:Int→List Int) (par:Int→Int) (kb:Int→Option Nat) (cN:List Value) (rows:Int→List Int) (rb:Int→Option Nat),
 B.n=n∧uT H ro B C w l V ch par kb cN rows rb∧ju (aG w) (aQ w) ch par rows []∧cN.length=w.hs.length∧∀z,S z↔dE ro z
theorem gw.slt{n:Nat}{H:Hp}{S:Nat→Prop}{w:Nw}(h:gw n H S w):∀z,S z→z<H.size:=by
 obtain⟨B,ro,C,l,V,ch,par,kb,cN,rows,rb,rfl,m,f,hl,hS⟩:=h
 exact fun z hz=>m.slt z ((hS z).1 hz)
theorem gw.ext{n:Nat}{H H':Hp}{S T:Nat→Prop}{w:Nw}(h:gw n H S w)(e:ag T H H')(hd:∀z,S z→¬T z):gw n H' S w:=by
 obtain⟨B,ro,C,l,V,ch,par,kb,cN,rows,rb,rfl,m,f,hl,hS⟩:=h
 exact⟨B,ro,C,l,V,ch,par,kb,cN,rows,rb,rfl,m.ext e (fun z hz=>hd z ((hS z).2 hz)),f,hl,hS⟩
section
variable {H H' : Hp} {ro ro' : Nat → Rl} {B : Y9} {C T : Nat → Prop} {w w' : Nw} {l l' : List Value} {V V' : Int → Value} {ch dU : Int → List Int} {par bF : Int → Int} {kb tA : Int → Option Nat} {cN : List Value} {rows : Int → List Int} {rb : Int → Option Nat} {lt : Int → Int → Bool} {W W0 L : List Int}
theorem uT.Sq(m:uT H ro B C w l V ch par kb cN rows rb)(hl:cN.length=w.hs.length){g:Int}(h:w.has g):0≤g∧g<cN.length:=by
 have h1:=h.1
 have:=(anu.1 h.2).1
 omega
theorem JL(m:uT H ro B C w l V ch par kb cN rows rb)(f:ju (aG w) lt ch par rows W)(hl:cN.length=w.hs.length)(g:Int):af Tryz.prog vO [ptr B.n,i64 g] H fun v H'=>aw ((∃o,Sl H 1 v (rows g).length ((rows g).map i64) o∧∀b,o=some b→b<H.size∧¬KC ro b)∧H'=H):=by
 obtain⟨tv,ho,_⟩:=m.own
 refine bm wG ?_
 refine v1 (ae ho) ?_
 refine(iD m.cells g).mono ?_
 rintro _ _ ⟨rfl,rfl⟩
 refine vs ?_
 by_cases hg:w.has g
 ·rw[anI hg]
  have xS:=m.Sq hl hg
  obtain⟨lb,tc,sv,o1,q1,q2,Dc,_,s2⟩:=m.LO xS
  refine v1 (ae o1) ?_
  refine⟨⟨by omega,by omega⟩,?_⟩
  refine v4 (ae q1) ant anw q2 ?_
  refine⟨⟨rb g,s2,fun b hb=>?_⟩,rfl⟩
  have h5:=m.mF g b xS.1 xS.2 hb
  refine⟨m.slt b (eZ h5 nofun),fun hc=>?_⟩
  rcases hc with (hc| ⟨x,hc⟩)|hc<;>(rw[h5]at hc;cases hc)
 ·rw[anV hg]
  refine vs ?_
  have hr:rows g=[]:=by
   cases hc:rows g with
   |nil=>rfl
   |cons c r=>
    obtain⟨h1,_,h2,_⟩:=f.rm g c (by rw[hc];simp)
    have:=((m.cells.hm c).2 (by omega)).1
    rw[h1]at this
    exact absurd this hg
  rw[hr]
  exact⟨⟨none,Sl.nil _ _,nofun⟩,rfl⟩
theorem ju.root(f:ju (aG w) (aQ w) ch par rows []){y g:Int}(hg:0<g)(hy:aG w y=g):∃r∈rows g,r=y∨aQ w r y=true:=by
 obtain⟨r,h1,h2,h3⟩:=f.pr.root (ar w) (n:=w.cs.length) (fun x h=>uP x h) _ (anG _) (x:=y) (by omega)
 rcases f.jt r (by omega) h2 with h|h
 ·rw[h1,hy]at h
  exact⟨r,h,h3⟩
 ·cases h
theorem Bs{n:Nat}{H:Hp}{S:Nat→Prop}{w:Nw}(h:gw n H S w)(g:Int):af Tryz.prog lO [ptr n,i64 g] H fun v H'=>aw (
  (w.len g=0∧v= .tuple [i64 0,.bool false].toArray∧gw n H' S w∧ag S H H')∨(∃x,w.first g x∧v= .tuple [i64 x,.bool true].toArray∧gw n H' S w∧ag S H H')):=by
 obtain⟨B,ro,C,l,V,ch,par,kb,cN,rows,rb,rfl,m,f,hl,hS⟩:=id h
 have wY:=m.cells.DY
 refine bm wC ?_
 refine vs ?_
 refine(JL m f hl g).mono ?_
 rintro _ H' ⟨⟨o,s,hso⟩,e⟩
 obtain rfl:=e.symm
 obtain⟨va,vc,rfl⟩:=Sl.shape s
 refine vs ?_
 refine am.dec (fun h0=>?_) (fun h0=>?_)<;>refine vs ?_
 ·refine .inl ⟨?_,rfl,h,ag.refl _ _⟩
  have hr:rows g=[]:=an5.1 (by omega)
  by_cases hg:0<g
  ·rw[uC hg]
   intro x hx
   obtain⟨r,zD,_⟩:=f.root hg hx
   rw[hr]at zD
   cases zD
  ·exact Nw.Hs.2 (.inl (by omega))
 obtain⟨x,R,hr⟩:∃x R,rows g=x::R:=aoP (fun e=>h0 (by rw[e];rfl))
 have SY:∀c∈rows g,aG w c=g∧0<g:=fun c hc=>by
  obtain⟨h1,_,h2,_⟩:=f.rm g c hc
  exact⟨h1,h2⟩
 have RL:=(SY x (by rw[hr];simp)).2
 rw[hr]at s SY
 have Y1:(rows g).length=(x::R).length:=by rw[hr]
 rw[Y1]
 have oK:(x::R).length=R.length+1:=anO
 have hsB:=s
 have aX:=bV (f.rr g).nodup fun c hc=>uP (w:=w) c (by have:=SY c (by rw[←hr];exact hc);omega)
 rw[hr]at aX
 obtain⟨b,lb,c,xJ,rfl,qb,qc,_,Dc,_⟩:=Sl.Ue s (i:=0) (x:=x) rfl
 injection xJ with h1 h2 h3
 subst h1 h3
 have fA:=ae qb
 obtain⟨_,Ve,c',eM,q2,Gx,WB,PE⟩:=id s
 injection eM with _ _ eM
 subst eM
 rw[qb]at q2
 injection q2 with q2
 subst q2
 rw[anw]at WB PE
 refine⟨⟨by omega,by omega⟩,?_⟩
 refine v5 fA qc Int.toNat_zero aod Nat.add_zero ?_
 refine⟨⟨by omega,by omega,by omega,by omega⟩,?_⟩
 refine vs ?_
 have xS:=m.Sq hl ((m.cells.hm x).2 (by have:=SY x (by simp);omega)).1
 rw[(SY x (by simp)).1]at xS
 have hrB:Ge H ro H.size (.slice (some ⟨b,0,none⟩) (x::R).length vc) (x::R):=Sl.rdB s hso
 obtain⟨a',hv,_,_,_⟩:=Sg s.rd (lo:=1) (hi:=R.length+1) (lo':=1) (hi':=((R.length+1:Nat):Int)) rfl rfl (by omega) (by omega) (by omega)
 have hB:Ge H ro H.size (.slice a' R.length (vc - 1)) R:=by
  rw[show R.length=R.length+1 - 1 by omega,←hv]
  exact hrB.tail _
 rw[hv,show((R.length+1:Nat):Int).toNat - Int.toNat 1=R.length by simp,Nat.add_sub_cancel]
 refine bk.intro (fun mm env H'=>∃ (j:Nat) (bQ:Int),mm=R.length - j∧j≤R.length∧CQ H' B.c C w∧ag C H H'∧bQ∈x::R.take j∧(∀c∈x::R.take j,c≠bQ→aQ w bQ c=true)∧
  env=[(0,ptr B.n),(7,i64 bQ),(20,.slice a' R.length (vc - 1)),(21,i64 R.length),(22,i64 j)]) R.length ⟨0,x,rfl,by omega,m.cells,ag.refl _ _,by simp,by simp,rfl⟩ ?_
 rintro mm env H1 ⟨j,bQ,rfl,hj,c1,e1,Py,rR,rfl⟩
 have m1:=m.aJ c1 e1 rfl
 obtain⟨Cx,o1,_⟩:=m1.own
 refine vs ?_
 refine am.dec (fun aO=>?_) (fun aO=>?_)<;>refine vs ?_
 ·have gD:j<R.length:=by omega
  obtain⟨y,hy⟩:∃y,R[j]? =some y:=⟨_,ans gD⟩
  have hB1:=hB.ext e1 (fun z _ hk hc=>hk (.inr (m.hC z hc))) (ro':=ro) (fun _ _ h=>h)
  obtain⟨_,b2,o2,lb2,rfl,q2,q3⟩:=dc.num hB1.rd hy
  refine⟨⟨by omega,by omega⟩,?_⟩
  refine v5 q2 anw Int.toNat_natCast q3 (ae o1) ?_
  refine(cD c1 y bQ).mono ?_
  rintro _ H2 ⟨rfl,c2,e2⟩
  have hym:y∈x::R:=anZ _ (anz hy)
  have EN:bQ∈x::R:=by
   rcases anF.1 Py with h|h
   ·rw[h];simp
   ·exact anZ _ (List.mem_of_mem_take h)
  have DO:=SY y hym
  have hbb:=SY bQ EN
  rw[gN (w:=w) (a:=y) (b:=bQ) (by omega) (by omega)]
  have tk:R.take (j+1)=R.take j++[y]:=by rw[aoa,hy];rfl
  cases hyb:aQ w y bQ
  ·refine vs ?_
   rw[wrap64 (n:=(j:Int)+1) (by omega) (by omega)]
   refine⟨R.length - (j+1),by omega,j+1,bQ,rfl,by omega,c2,e1.trans e2,?_,fun c hc aP=>?_,rfl⟩
   ·rw[tk,←aoD];exact anL _ Py
   ·rw[tk,←aoD]at hc
    rcases anH.1 hc with hc|hc
    ·exact rR c hc aP
    ·rw[anC.1 hc]at aP ⊢
     exact((ar w).Ob bQ y (Ne.symm aP)).resolve_right (by rw[hyb];simp)
  ·refine vs ?_
   rw[wrap64 (n:=(j:Int)+1) (by omega) (by omega)]
   refine⟨R.length - (j+1),by omega,j+1,y,rfl,by omega,c2,e1.trans e2,?_,fun c hc aP=>?_,rfl⟩
   ·rw[tk];simp
   ·rw[tk,←aoD]at hc
    rcases anH.1 hc with hc|hc
    ·by_cases e:c=bQ
     ·rw[e];exact hyb
     ·exact(ar w).tr _ _ _ hyb (rR c hc e)
    ·exact absurd (anC.1 hc) aP
 ·obtain rfl:j=R.length:=by omega
  rw[an4]at Py rR
  refine .inr ⟨bQ,?_,rfl,⟨B,ro,C,l,V,ch,par,kb,cN,rows,rb,rfl,m1,f,hl,hS⟩,e1.mono fun z _ hz=>(hS z).2 (eZ (m.hC z hz) nofun)⟩
  rw[bN]
  refine⟨RL,(SY bQ Py).1,fun y hy aP=>?_⟩
  obtain⟨r,HF,zD⟩:=f.root RL hy
  rw[hr]at HF
  by_cases e:r=bQ
  ·rw[e]at zD
   exact zD.resolve_left (fun e2=>aP e2.symm)
  ·have h5:=rR r HF e
   rcases zD with h6|h6
   ·rw[←h6];exact h5
   ·exact(ar w).tr _ _ _ h5 h6
end
end Go.Proofs.YtjlnnljohemifaaGreat

namespace Go.Proofs.YtjlnnljohemifaaGreat
open Go Go.Vc
section
variable {H H' : Hp} {ro ro' : Nat → Rl} {B : Y9} {C T : Nat → Prop} {w w' : Nw} {l l' : List Value} {V V' : Int → Value} {ch dU : Int → List Int} {par bF : Int → Int} {kb tA : Int → Option Nat} {cN : List Value} {rows : Int → List Int} {rb : Int → Option Nat} {lt : Int → Int → Bool} {W W0 L : List Int}
theorem Es{n:Nat}{H:Hp}{S:Nat→Prop}{w:Nw}(h:gw n H S w)(g x k s:Int):af Tryz.prog iQ [ptr n,i64 g,i64 x,tz k s] H fun v H'=>aw (
  (¬w.lI g x∧v= .bool false∧cz (gw n) S H H' w)∨(w.lI g x∧v= .bool true∧cz (gw n) S H H' (w.put x (g,k,s)))):=by
 obtain⟨B,ro,C,l,V,ch,par,kb,cN,rows,rb,rfl,m,f,hl,hS⟩:=h
 have hC:∀z,C z→S z:=fun z h=>(hS z).2 (eZ (m.hC z h) nofun)
 refine bm rA ?_
 refine vs ?_
 have f0:ai H (H.new 224 [i64 k,u64 s]):=(ag.refl _ _).new _ _
 have b0:(H.new 224 [i64 k,u64 s]).own H.size=some [i64 k,u64 s]:=aB _ _ _
 have m0:=m.fresh f0
 generalize H.new 224 [i64 k,u64 s]=H0 at*
 have ff:ag S H H0:=f0.mono fun _ _ h=>h.elim
 obtain⟨tv,Hy,_⟩:=m0.own
 refine v2 (ae Hy) (ae b0) ?_
 refine(kZ m0.cells g x k s).mono ?_
 rintro _ H1 (⟨bK,rfl,c1,e1⟩| ⟨qm,rfl,c1,e1⟩)
 ·refine vs ?_
  exact .inl ⟨bK,rfl,cz.same ⟨B,ro,C,l,V,ch,par,kb,cN,rows,rb,rfl,m0.aJ c1 e1 rfl,f,hl,hS⟩ (ff.trans (e1.mono fun z _ hz=>hC z hz))⟩
 obtain⟨hh,hx,bJ⟩:=id qm
 have m1:=m0.aJ c1 e1 (by simp[Nw.put])
 have hg:=hh.1
 have di:=m.Sq hl hh
 have cK:=fun y=>dS hx (g,k,s) y
 have fZ:aG w x≤0:=Int.not_lt.1 fun h=>bJ (bq.1 h)
 have el:∀a b,0<aG w a→0<aG w b→a≠x→b≠x→aQ (w.put x (g,k,s)) a b=aQ w a b:=fun a b ha hb tG me=>du hx _ ha hb tG me
 obtain⟨f1,_⟩:=f.put (hm':=aG (w.put x (g,k,s))) (lt':=aQ (w.put x (g,k,s))) (g:=g) rfl fZ (by omega) (by omega) (by rw[cK,if_pos rfl]) (fun y hy=>by rw[cK,if_neg hy]) el
 refine vs ?_
 have f2:ai H1 (H1.new 3 [i64 x]):=(ag.refl _ _).new _ _
 have m2:=m1.fresh f2
 have s2:Sl (H1.new 3 [i64 x]) 1 (.slice (some ⟨H1.size,0,none⟩) 1 1) [x].length ([x].map i64) (some H1.size):=Sl.cf (size:=1) (n:=1) (xs:=[i64 x]) rfl rfl
 have z2:(H1.new 3 [i64 x]).size=H1.size+1:=aq _ _ _
 have S0:Ge (H1.new 3 [i64 x]) ro (H1.new 3 [i64 x]).size (.slice (some ⟨H1.size,0,none⟩) 1 1) [x]:=Sl.rdB s2 fun b hb=>by
  injection hb with hb
  subst hb
  refine⟨by omega,fun hc=>?_⟩
  have:=m1.hz H1.size (anG _)
  rcases hc with (hc| ⟨x,hc⟩)|hc<;>(rw[this]at hc;cases hc)
 generalize H1.new 3 [i64 x]=H2 at*
 refine(Br m2 S0 (fun _ _ h=>h) (W0:=[]) f1 (List.pairwise_singleton _ _) (fun c hc=>by rw[anC.1 hc,cK,if_pos rfl]) di).mono ?_
 rintro _ H3 ⟨Qb,l3,V3,Me,oR,Xr,af3,Bu,rb3,m3,f3,RE,_,Td,e3⟩
 refine vs ?_
 have eS:ag S H H2:=(ff.trans (e1.mono fun z _ h=>hC z h)).trans (f2.mono fun _ _ h=>h.elim)
 have z1:=eS.size
 refine .inr ⟨qm,rfl,dE Qb,⟨B,Qb,C,l3,V3,Me,oR,Xr,af3,Bu,rb3,rfl,m3,f3,by rw[RE,hl];rfl,fun z=>Iff.rfl⟩,eS.trans (e3.mono fun z _ h=>(hS z).2 h),fun z hz=>?_⟩
 rcases Td z hz with h|h
 ·exact .inl ((hS z).2 h)
 ·exact .inr (by omega)
theorem ju.Uh{hm:Int→Int}(f:ju hm lt ch par rows W)(x:Int):Gc ch (ch x):=by
 unfold Gc
 rw[List.pairwise_iff_getElem]
 intro i j hi hj JT
 rw[f.dg x i _ (ans hi),f.dg x j _ (ans hj)]
 exact JT
theorem ju.Ui{hm:Int→Int}(f:ju hm lt ch par rows []){x g:Int}(hx:x∈rows g):ju hm lt ch par (ay rows g ((rows g).filter fun y=> !decide (x=y))) [x]:=by
 have hn:=(f.rr g).nodup
 have hp:(rows g++[]).Perm (((rows g).filter fun y=> !decide (x=y))++[x]):=by
  rw[aon]
  refine(List.perm_ext_iff_of_nodup hn ?_).2 fun y=>?_
  ·rw[aof]
   refine⟨hn.filter _,by simp,fun u hu v hv e=>?_⟩
   rw[aop]at hu
   rw[anC.1 hv]at e
   simp[e]at hu
  ·rw[anH,aop,anC]
   by_cases h:x=y
   ·simp[←h,hx]
   ·simp[h,Ne.symm h]
 have f2:=((f.loose g).perm hp).row (g:=g) (by unfold ay;rw[if_pos rfl]) ((f.rr g).sub List.filter_sublist) (fun c hc=>(f.rm g c (aop.1 hc).1).1)
 rwa[eB]at f2
theorem Et{H:Hp}{bx:Nat}{x:Int}(hb:H.own bx=some [i64 x])(y:Int):af Tryz.prog iR [i64 y,ptr bx] H fun v H'=>aw (v= .bool (decide (x=y))∧H'=H):=by
 refine vl mixed (an:=rD) (by conv=>lhs;cbv) (nt:=7) (by kernel_rfl) (by simp) ?_
 refine v1 (ae hb) ?_
 exact⟨rfl,rfl⟩
theorem HN(m:uT H ro B C w l V ch par kb cN rows rb)(aO:∀a b,aQ w a b=true→lt a b=true)(f:ju (aG w) lt ch par rows []){x g:Int}(uJ:x∈rows g)(xS:0≤g∧g<cN.length)(abu:∀a b,0<aG w a→0<aG w b→a≠x→b≠x→lt a b=true→aQ (w.put x (0,0,0)) a b=true):
  af Tryz.prog tW [ptr B.n,i64 g,i64 x] H fun v H'=>aw (v= .bool true∧∃ro' l' V' dU bF tA Nv jS rb',uT H' ro' B C (w.put x (0,0,0)) l' V' dU bF tA Nv jS rb'∧ju (aG (w.put x (0,0,0))) (aQ (w.put x (0,0,0))) dU bF jS []∧Nv.length=cN.length∧
   (∀z,dE ro' z→dE ro z∨H.size≤z)∧ag (dE ro) H H'):=by
 obtain⟨Om,JZ,RL,_⟩:=f.rm g x uJ
 have fZ:=uP (w:=w) x (by omega)
 have wY:=m.cells.DY
 have aX:=bV (f.rr g).nodup fun c hc=>uP (w:=w) c (by have:=f.rm g c hc;omega)
 refine Gv ui ⟨rfl,?_⟩
 refine v1 kO.eq_1 ?_
 have f0:ai H (H.new 3 [i64 x]):=(ag.refl _ _).new _ _
 have b0:(H.new 3 [i64 x]).own H.size=some [i64 x]:=aB _ _ _
 have z0:(H.new 3 [i64 x]).size=H.size+1:=aq _ _ _
 have m0:=m.fresh f0
 generalize H.new 3 [i64 x]=H0 at*
 obtain⟨lb,tc,sv,o1,q1,q2,Dc,_,s2⟩:=m0.LO xS
 obtain⟨va,vc,rfl⟩:=Sl.shape s2
 refine jX.intro (fun H'=>H'.own B.n=some [ptr B.c,ptr B.fb,.slice (some ⟨B.rp,0,none⟩) cN.length tc]) o1 ?_
 refine vs ?_
 refine fV.intro (.slice (some ⟨B.rp,0,none⟩) cN.length tc) (fun H' hI=>by refine v1 (ae hI) ?_;trivial) ?_
 refine v1 (ae o1) ?_
 refine And.intro o1 ?_
 refine vs ?_
 refine⟨⟨by omega,by omega⟩,?_⟩
 refine v4 (ae q1) ant anw q2 ?_
 refine And.intro o1 ?_
 refine vs ?_
 have IQ:∀b,rb g=some b→ro b= .row g:=fun b hb=>m.mF g b xS.1 xS.2 hb
 refine(CA s2 iR [ptr H.size] (fun y=>decide (x=y)) (by kernel_rfl) (fun H' e' y=>Et (e'.own b0 (fun hh=>by have:=m.slt _ (eZ (IQ _ hh) nofun);omega)) y) (by omega)).mono ?_
 rintro _ H1 ⟨s3,e1⟩
 obtain⟨va',Xc,rfl⟩:=Sl.shape s3
 have abv:∀z q,ro z=q→q≠ .row g→¬rb g=some z:=fun z q h1 h2 h3=>h2 (by rw[←h1,IQ z h3])
 have o2:=e1.own o1 (abv _ _ m.rn nofun)
 have q3:=e1.own q1 (abv _ _ m.rr nofun)
 refine And.intro o2 ?_
 refine vs ?_
 refine⟨⟨by omega,by omega⟩,?_⟩
 refine v3 q3 ant anw ?_
 refine⟨by omega,?_⟩
 obtain⟨m2,e2,zD⟩:=m0.Vw xS e1 q3 s3 (fun b hb=>.inr (IQ b hb))
 have hnr:B.n≠B.rp:=fun e=>by have:=m.rn;rw[e,m.rr]at this;cases this
 refine vs ?_
 refine And.intro o2 ?_
 have Xs:¬dE ro H.size:=fun h=>by have:=m.slt _ h;omega
 have b2:=e2.own b0 Xs
 have z2:=e2.size
 have f2:=f.Ui uJ
 generalize H1.wr B.rp (lb.set g.toNat (Value.slice va' ((rows g).filter fun y=> !decide (x=y)).length Xc))=H2 at*
 obtain⟨nU,af4⟩:∃nU:Nat→Rl,nU=fun z=>if rb g=some z then Rl.row g else ro z:=⟨_,rfl⟩
 rw[←af4]at m2 zD
 have Xt:∀z,dE nU z→dE ro z:=fun z hz=>(zD z hz).elim id fun h=>eZ (IQ z h) nofun
 obtain⟨Nb,o3,_⟩:=m2.own
 refine v2 (ae o3) (ae b2) ?_
 have nO:(ch x).length≤w.cs.length:=bV (f.pr.nd x) fun c hc=>m.fo.GA x c hc
 refine(CT m2.fo m2.hz fZ JZ (by omega)).mono ?_
 rintro sv H3 ⟨Qb,l3,V3,Xr,fp3,fo3,r3,QB,e3,s4,gu⟩
 have z3:=e3.size
 have m3:=m2.Sp fo3 (m2.cells.ext e3 (fun z hz hk=>by
  have:=m2.hC z hz
  rcases hk with hk| ⟨_,hk⟩<;>(rw[this]at hk;cases hk))) r3 QB (e3.mono fun z _ h=>.inl h)
 have f3:=f2.split.perm (show(x::(ch x++[])).Perm (ch x++[x]) by
  rw[aon]
  exact aou (l₁:=[x]) (l₂:=ch x))
 have JU:x∉ch x:=fun h=>by have:=f.less h;omega
 have S0:Ge H3 Qb H3.size sv (ch x):=Sl.rdB s4 fun b hb=>by
  rw[hb]at s4
  refine⟨Sl.lt s4,fun hc=>?_⟩
  have:=(gu b hb).2
  rcases hc with (hc| ⟨x,hc⟩)|hc<;>(rw[this]at hc;cases hc)
 have af6:0≤g∧g< ((cN.set g.toNat (Value.slice va' ((rows g).filter fun y=> !decide (x=y)).length Xc)).length:Int):=by rw[anv];exact xS
 refine(Br m3 S0 aO f3 ((f.Uh x).frame fun c hc=>by unfold ay;rw[if_neg (fun e=>JU (by have h7:=hc;rw[e]at h7;exact h7))]) (fun c hc=>by
  have:=(f.pr.dn x c hc).2.2.1
  omega) af6).mono ?_
 rintro _ H4 ⟨ro4,l4,V4,Ua,JE,kb4,af8,abw,rb4,m4,f4,T1,w4,ZH,e4⟩
 have Xu:∀z,dE Qb z→dE ro z∨H.size+1≤z:=fun z hz=>by
  by_cases NT:z<H2.size
  ·refine .inl (Xt z fun h=>hz ?_)
   exact r3.none NT h
  ·exact .inr (by omega)
 have TI:¬dE Qb H.size:=fun h=>by
  rcases Xu _ h with h|h
  ·exact Xs h
  ·omega
 have af9:¬KB nU H.size:=fun h=>Xs (Xt _ (by rcases h with h| ⟨_,h⟩<;>exact eZ h nofun))
 have b4:=e4.own (e3.own b2 af9) TI
 obtain⟨tv4,o5,_⟩:=m4.own
 refine v2 (ae o5) (ae b4) ?_
 refine(cd m4.cells x).mono ?_
 have bJ:cT w.cs x:=bq.1 (by omega)
 rintro _ H5 (⟨bK,_,_⟩| ⟨_,rfl,c5,e5⟩)
 ·exact absurd bJ bK
 have m5:=m4.aJ c5 e5 (by simp[Nw.put])
 refine vs ?_
 have cK:=fun y=>dS (w:=w) fZ (0,0,0) y
 have f5:=f4.drop (hm':=aG (w.put x (0,0,0))) (lt':=aQ (w.put x (0,0,0))) (by
  rw[w4 x (by simp)]
  unfold ay
  rw[if_pos rfl]) rfl (by rw[cK,if_pos rfl]) (fun y hy=>by rw[cK,if_neg hy]) abu
 have z4:=e4.size
 have abx:∀z,dE ro4 z→dE ro z∨H.size+1≤z:=fun z hz=>by
  rcases ZH z hz with h|h
  ·exact Xu z h
  ·exact .inr (by omega)
 refine⟨rfl,ro4,l4,V4,Ua,JE,kb4,af8,abw,rb4,m5,f5,by rw[T1,anv],fun z hz=>?_,?_⟩
 ·rcases abx z hz with h|h
  ·exact .inl h
  ·exact .inr (by omega)
 ·refine⟨by have:=e5.size;omega,fun z hz hn=>?_⟩
  rw[e5.aM z (by omega) (fun h=>by
   rcases abx z (eZ (m4.hC z h) nofun)with h|h
   ·exact hn h
   ·omega),e4.aM z (by omega) (fun h=>by
   rcases Xu z h with h|h
   ·exact hn h
   ·omega),e3.aM z (by omega) (fun h=>hn (Xt z (by rcases h with h| ⟨_,h⟩<;>exact eZ h nofun))),e2.aM z (by omega) (fun h=>hn h),f0.aM z hz (fun h=>h)]
theorem CY{n:Nat}{H:Hp}{S:Nat→Prop}{w:Nw}(h:gw n H S w)(g:Int):af Tryz.prog is [ptr n,i64 g] H fun v H'=>aw (
  (w.len g=0∧v= .tuple [i64 0,.bool false].toArray∧cz (gw n) S H H' w)∨(∃x,w.first g x∧v= .tuple [i64 x,.bool true].toArray∧cz (gw n) S H H' (w.put x (0,0,0)))):=by
 refine bm pR ?_
 refine vs ?_
 refine(Bs h g).mono ?_
 rintro _ H1 (⟨h0,rfl,h1,e1⟩| ⟨x,hx,rfl,h1,e1⟩)
 ·refine vs ?_
  exact .inl ⟨h0,rfl,cz.same h1 e1⟩
 refine vs ?_
 obtain⟨B,ro,C,l,V,ch,par,kb,cN,rows,rb,rfl,m,f,hl,hS⟩:=h1
 obtain⟨hg,Om,my⟩:=bN.1 hx
 have uJ:x∈rows g:=by
  obtain⟨r,HF,zD⟩:=f.root hg Om
  rcases zD with h|h
  ·rw[←h];exact HF
  ·by_cases e:r=x
   ·rw[←e];exact HF
   ·have h2:=my r (f.rm g r HF).1 e
    rw[(ar w).asym h2]at h
    cases h
 have fZ:=uP (w:=w) x (by omega)
 have xS:=m.Sq hl ((m.cells.hm x).2 (by omega)).1
 rw[Om]at xS
 refine(HN m (fun _ _ h=>h) f uJ xS (fun a b ha hb tG me h=>by rw[du fZ _ ha hb tG me];exact h)).mono ?_
 rintro _ H2 ⟨rfl,nU,l2,V2,lq,jm,Dq,aga,aby,rb2,m2,f2,rU,zD,e2⟩
 refine vs ?_
 have z1:=e1.size
 refine .inr ⟨x,hx,rfl,dE nU,⟨B,nU,C,l2,V2,lq,jm,Dq,aga,aby,rb2,rfl,m2,f2,by rw[rU,hl];rfl,fun z=>Iff.rfl⟩,e1.trans (e2.mono fun z _ h=>(hS z).2 h),fun z hz=>?_⟩
 rcases zD z hz with h|h
 ·exact .inl ((hS z).2 h)
 ·exact .inr (by omega)
end
end Go.Proofs.YtjlnnljohemifaaGreat

namespace Go.Proofs.YtjlnnljohemifaaGreat
open Go Go.Vc
section
variable {H H' : Hp} {ro ro' : Nat → Rl} {B : Y9} {C T : Nat → Prop} {w w' : Nw} {l l' : List Value} {V V' : Int → Value} {ch dU : Int → List Int} {par bF : Int → Int} {kb tA : Int → Option Nat} {cN : List Value} {rows : Int → List Int} {rb : Int → Option Nat} {lt : Int → Int → Bool} {W W0 L : List Int}
theorem uT.abz(m:uT H ro B C w l V ch par kb cN rows rb){g:Int}(hg:0≤g∧g<cN.length){H1:Hp}(e:ag (fun z=>rb g=some z) H H1){sv:Value}(xJ:cN[g.toNat]? =some sv){L':List Int}(s:Sl H1 1 sv L'.length (L'.map i64) (rb g)):
  uT H1 ro B C w l V ch par kb cN (ay rows g L') rb:=by
 obtain⟨tv,h1,h2⟩:=m.own
 have hs:=e.size
 have n0:∀z q,ro z=q→q≠ .row g→¬rb g=some z:=fun z q h1 h2 h3=>h2 (by rw[←h1,m.mF g z hg.1 hg.2 h3])
 refine⟨⟨tv,e.own h1 (n0 _ _ m.rn nofun),h2.ext e (fun b hb=>by injection hb with hb;subst hb;exact n0 _ _ m.rr nofun)⟩,fun k h0 h1=>?_,m.cells.ext e (fun z hz=>n0 z _ (m.hC z hz) nofun),m.fo.ext e (fun z hz=>by rcases hz with h|h| ⟨x,h⟩<;>exact n0 z _ h nofun),m.hC,m.rn,m.rr,m.mF,fun z hz=>m.hz z (by omega)⟩
 by_cases hk:k=g
 ·subst hk
  refine⟨sv,xJ,?_⟩
  unfold ay
  rw[if_pos rfl]
  exact s
 ·obtain⟨Vi,q1,q2⟩:=m.row k h0 h1
  refine⟨Vi,q1,?_⟩
  unfold ay
  rw[if_neg hk]
  exact q2.ext e (fun b hb=>n0 b _ (m.mF k b h0 h1 hb) (fun e=>hk (by injection e)))
theorem HO(m:uT H ro B C w l V ch par kb cN rows rb){x g:Int}(f:Mf (aG w) (aQ w) ch par rows [] x)(Om:aG w x=g)(RL:0<g)(xS:0≤g∧g<cN.length)(fid:FuncId)(qj:List Value)(q:Int→Bool)(J:Hp→Prop)(E:(Int→List Int)→Prop)(hJ:J H)
  (tK:∀H' Gu,J H'→ag (fun z=>dE ro z∧z≠B.n) H' Gu→J Gu)(Dx:ef Tryz.prog fid=true)
  (hq:∀H' p,J H'→CQ H' B.c C w→0<aG w p→af Tryz.prog fid (i64 p::qj) H' fun v Gu=>aw (v= .bool (q p)∧CQ Gu B.c C w∧ag C H' Gu))(hE:E ch)
  (hEs:∀ (ch:Int→List Int) (par:Int→Int) (rows:Int→List Int) p,Mf (aG w) (aQ w) ch par rows [] x→x∈ch p→q p=true→E ch→E (GB ch x p)):
  af Tryz.prog tV [ptr B.n,i64 g,i64 x,.func (.func fid) #[] qj.toArray] H fun v H'=>aw (∃ro' l' V' dU bF tA jS,uT H' ro' B C w l' V' dU bF tA cN jS rb∧Mf (aG w) (aQ w) dU bF jS [] x∧E dU∧(bF x= -1∨q (bF x)=false)∧
   (∀z,dE ro' z→dE ro z)∧ag (dE ro) H H'):=by
 have ls:=ar w
 have fZ:=uP (w:=w) x (by omega)
 have wY:=m.cells.DY
 refine bm uh ?_
 refine vs ?_
 refine bk.intro (fun mm env H'=>∃ (ro':Nat→Rl) (l':List Value) (V':Int→Value) (dU:Int→List Int) (bF:Int→Int) (tA:Int→Option Nat) (jS:Int→List Int),mm=w.cs.length - (dU x).length∧uT H' ro' B C w l' V' dU bF tA cN jS rb∧Mf (aG w) (aQ w) dU bF jS [] x∧E dU∧J H'∧
  (∀z,dE ro' z→dE ro z)∧ag (dE ro) H H'∧env=[(0,ptr B.n),(1,i64 g),(2,i64 x),(3,.func (.func fid) #[] qj.toArray)]) _ ⟨ro,l,V,ch,par,kb,rows,rfl,m,f,hE,hJ,fun _ h=>h,ag.refl _ _,rfl⟩ ?_
 clear m f hE hJ
 rintro mm env H1 ⟨Xk,l1,V1,Ox,xe,Y6,oq,rfl,m1,f1,hE1,hJ1,HF,e1,rfl⟩
 obtain⟨Cx,o1,_⟩:=m1.own
 refine v1 (ae o1) ?_
 refine(oN m1.fo.t fZ).mono ?_
 rintro _ H' ⟨⟨hp,rfl⟩| ⟨hp,rfl⟩,e⟩
 ·obtain rfl:=e.symm
  refine vs ?_
  exact⟨Xk,l1,V1,Ox,xe,Y6,oq,m1,f1,hE1,.inl hp,HF,e1⟩
 obtain rfl:=e.symm
 obtain⟨p,hpd⟩:∃p,p=xe x:=⟨_,rfl⟩
 rw[←hpd]at hp ⊢
 have JZ:=f1.w.pr.up x p hpd.symm hp
 obtain⟨_,_,hpg,DN,_⟩:=f1.w.pr.dn p x JZ
 have fh:=f1.w.less JZ
 have hp0:=uP (w:=w) p (by omega)
 have aX:∀z,(Ox z).length≤w.cs.length:=fun z=>bV (f1.w.pr.nd z) fun c hc=>m1.fo.GA z c hc
 refine vs ?_
 refine⟨Dx,?_⟩
 refine af.mono (by simpa using hq H1 p hJ1 m1.cells (by omega)) ?_
 rintro _ H2 ⟨rfl,c2,e2⟩
 have m2:=m1.aJ c2 e2 rfl
 have e2':ag (dE ro) H1 H2:=e2.mono fun z _ h=>HF z (eZ (m1.hC z h) nofun)
 have hJ2:=tK _ _ hJ1 (e2.mono fun z _ h=>⟨HF z (eZ (m1.hC z h) nofun),fun e=>by have:=m1.hC z h;rw[e,m1.rn]at this;cases this⟩)
 have o8:=e1.trans e2'
 cases hqp:q p
 ·refine vs ?_
  exact⟨Xk,l1,V1,Ox,xe,Y6,oq,m2,f1,hE1,.inr (by rw[←hpd];exact hqp),HF,o8⟩
 obtain⟨Nb,o2,_⟩:=m2.own
 refine v1 (ae o2) ?_
 refine(oN m2.fo.t hp0).mono ?_
 have Xv:∀h,x∉oq h:=fun h hh=>hp (by rw[hpd];exact(f1.w.rm h x hh).2.1)
 have RY:xe p≠ -1→0≤xe p∧xe p<w.cs.length:=fun h=>by
  have:=(f1.w.pr.dn _ _ (f1.w.pr.up p _ rfl h)).2.2
  exact uP (w:=w) _ (by omega)
 have fin:∀ (H3:Hp) (Bu:Int→List Int),uT H3 Xk B C w l1 V1 Ox xe Y6 cN Bu rb→(∀h,Bu h=(oq h).map (gY x p))→J H3→ag (dE ro) H H3→∀ (K:Value→Hp→Prop),(∀H4,(∃m',m'<w.cs.length - (Ox x).length∧∃ (ro':Nat→Rl) (l':List Value) (V':Int→Value) (dU:Int→List Int) (bF:Int→Int) (tA:Int→Option Nat) (jS:Int→List Int),m'=w.cs.length - (dU x).length∧uT H4 ro' B C w l' V' dU bF tA cN jS rb∧Mf (aG w) (aQ w) dU bF jS [] x∧E dU∧J H4∧
  (∀z,dE ro' z→dE ro z)∧ag (dE ro) H H4)→K (.bool true) H4)→af Tryz.prog lP [ptr B.fb,i64 x] H3 K:=fun H3 Bu m3 Dj hJ3 e3 K hK=>by
  refine(Em m3.fo m3.hz f1.w fZ hp0 JZ RY wY).mono ?_
  rintro _ H4 ⟨rfl,ro4,l4,V4,kb4,fo4,r4,hz4,e4,agc⟩
  have m4:=m3.Sp fo4 (m3.cells.ext e4 (fun z hz hk=>by
   have:=m3.hC z hz
   rcases hk with hk| ⟨_,hk⟩<;>(rw[this]at hk;cases hk))) r4 hz4 (e4.mono fun z _ h=>.inl h)
  have e4':ag (dE ro) H3 H4:=e4.mono fun z _ h=>HF z (by rcases h with h| ⟨_,h⟩<;>exact eZ h nofun)
  have f4:=f1.up ls JZ
  have Xw:(fun h=>(oq h).map (gY x p))=Bu:=by funext h;exact(Dj h).symm
  rw[Xw,List.map_nil]at f4
  have T1:(GB Ox x p x).length=(Ox p).length:=by unfold GB;rw[lj,anQ]
  have:=aX p
  have aln:=e4.size
  refine hK H4 ⟨w.cs.length - (GB Ox x p x).length,by omega,ro4,l4,V4,_,_,kb4,Bu,rfl,m4,f4,hEs _ _ _ p f1 JZ hqp hE1,tK _ _ hJ3 (e4.mono fun z _ h=>⟨HF z (by rcases h with h| ⟨_,h⟩<;>exact eZ h nofun),fun e=>by rw[e]at h;rcases h with h| ⟨_,h⟩<;>(rw[m3.rn]at h;cases h)⟩),fun z hz=>?_,e3.trans e4'⟩
  exact HF z fun h=>hz (agc z h)
 rintro _ H' ⟨⟨Pz,rfl⟩| ⟨Pz,rfl⟩,e⟩
 ·obtain rfl:=e.symm
  have hpr:p∈oq g:=by
   rcases f1.w.jt p (by omega) Pz with h|h
   ·rw[hpg,Om]at h;exact h
   ·cases h
  obtain⟨lb,tc,sv,o3,q1,q2,Dc,xJ,s3⟩:=m2.LO xS
  obtain⟨k0,Uj,ek0⟩:=apl.1 hpr
  obtain⟨b,lr,rc,rfl,Vv,qb,qk0,alo,Wj,_⟩:=Sl.Ue s3 (i:=k0) (x:=p) (by rw[ans Uj,ek0])
  have Y1:=bV (f1.w.rr g).nodup fun c hc=>uP (w:=w) c (by have:=f1.w.rm g c hc;omega)
  refine v1 (ae o3) ?_
  refine⟨⟨by omega,by omega⟩,?_⟩
  refine v5 (ae q1) ant anw q2 (ae o3) ?_
  refine⟨⟨by omega,by omega⟩,?_⟩
  refine v4 (ae q1) ant anw q2 ?_
  have gk:=(f1.w.rr g).nodup
  have abA:(oq g)[k0]? =some p:=by rw[ans Uj,ek0]
  refine⟨i64 (k0:Int),(fj s3.rd p (by omega)).mono ?_,?_⟩
  ·rintro _ H' ⟨⟨j,rfl,hj⟩,e⟩
   obtain⟨hj0,hj⟩:=hj.resolve_left (fun h=>h.2 hpr)
   have YC:=(anu.1 hj).1
   have:=(List.getElem?_inj YC gk).1 (hj.trans abA.symm)
   exact⟨by rw[show j=(k0:Int) by omega],e⟩
  refine vs ?_
  refine⟨⟨by omega,by omega⟩,?_⟩
  refine v4 qb ant anw Int.toNat_natCast ?_
  refine⟨by omega,?_⟩
  rw[Vv]at s3
  have s4:=s3.tQ qb k0 (i64 x)
  have e3:ag (fun z=>rb g=some z) H2 (H2.wr b (lr.set k0 (i64 x))):=(ag.refl (fun z=>rb g=some z) _).wr (fun _=>Vv) _
  have Sf:(oq g).map (gY p x)=(oq g).map (gY x p):=apn fun c _=>by
   unfold gY
   by_cases e1:c=x
   ·by_cases e2:c=p
    ·rw[if_pos e2,if_pos e1];exact e1▸e2▸rfl
    ·rw[if_neg e2,if_pos e1,if_pos e1]
   ·by_cases e2:c=p
    ·rw[if_pos e2,if_neg e1,if_pos e2]
    ·rw[if_neg e2,if_neg e1,if_neg e1,if_neg e2]
  rw[←aoh,JJ gk (Xv g) abA,Sf]at s4
  have WY:((oq g).map (gY x p)).length=(oq g).length:=anQ ..
  have m3:=m2.abz xS e3 xJ (L':=(oq g).map (gY x p)) (by rw[Vv,WY];exact s4)
  have YK:ag (dE ro) H2 (H2.wr b (lr.set k0 (i64 x))):=e3.mono fun z _ h=>HF z (eZ (m2.mF g z xS.1 xS.2 h) nofun)
  obtain⟨YH,o4,_⟩:=m3.own
  refine v1 (ae o4) ?_
  refine fin _ _ m3 (fun h=>?_) (tK _ _ hJ2 (e3.mono fun z _ h=>⟨HF z (eZ (m2.mF g z xS.1 xS.2 h) nofun),fun e=>by have:=m2.mF g z xS.1 xS.2 h;rw[e,m2.rn]at this;cases this⟩)) (o8.trans YK) _ fun H4 hh=>?_
  ·unfold ay
   split
   ·rename_i e;rw[e]
   ·rename_i e
    exact(Bq (Xv h) (fun hh=>e (by rw[← (f1.w.rm h p hh).1,hpg,Om]))).symm
  obtain⟨m',hm',ro',l',V',dU,bF,tA,jS,h1,h2,h3,h4,h5,h6,h7⟩:=hh
  refine vs ?_
  exact⟨m',hm',ro',l',V',dU,bF,tA,jS,h1,h2,h3,h4,h5,h6,h7,trivial⟩
 ·obtain rfl:=e.symm
  have agd:∀h,p∉oq h:=fun h hh=>Pz (f1.w.rm h p hh).2.1
  refine v1 (ae o2) ?_
  refine fin H2 oq m2 (fun h=>(Bq (Xv h) (agd h)).symm) hJ2 o8 _ fun H4 hh=>?_
  obtain⟨m',hm',ro',l',V',dU,bF,tA,jS,h1,h2,h3,h4,h5,h6,h7⟩:=hh
  refine vs ?_
  exact⟨m',hm',ro',l',V',dU,bF,tA,jS,h1,h2,h3,h4,h5,h6,h7,trivial⟩
end
end Go.Proofs.YtjlnnljohemifaaGreat
