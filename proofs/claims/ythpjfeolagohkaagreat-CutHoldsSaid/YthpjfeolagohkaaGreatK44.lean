/- Texts put behind each other. -/
import Derived.Test.YthpjfeolagohkaaGreatK98
import Derived.Test.YthpjfeolagohkaaGreatK19
import Derived.Test.YthpjfeolagohkaaGreatK20
import Derived.Test.YthpjfeolagohkaaGreatK31
import Derived.Test.YthpjfeolagohkaaGreatK32
import Derived.Test.YthpjfeolagohkaaGreatK36
import Derived.Test.YthpjfeolagohkaaGreatK38
import Derived.Test.YthpjfeolagohkaaGreatK40
import Derived.Test.YthpjfeolagohkaaGreatK41
import Derived.Test.YthpjfeolagohkaaGreatK43
set_option maxRecDepth 100000
set_option maxHeartbeats 8000000
set_option linter.unusedVariables false
set_option linter.unusedSimpArgs false
namespace Go.Proofs.YthpjfeolagohkaaGreat
open Go Go.Vc
section
variable {H H' : Hp} {ro ro' : Nat → Rl} {B : BnB} {C T : Nat → Prop} {w w' : Nw} {l l' : List Value} {V V' : Int → Value} {ch dS : Int → List Int} {par bD : Int → Int} {kb ri : Int → Option Nat} {bX : List Value} {rows : Int → List Int} {rb : Int → Option Nat} {lt : Int → Int → Bool} {W W0 L : List Int}
theorem FC{n:Nat}{H:Hp}{S:Nat→Prop}{w:Nw}(h:gH n H S w)(g x k s:Int):af Tryz.prog iZ [ptr n,i64 g,i64 x,uw k s] H fun v H'=>ax (
  (¬w.lU g x∧v= .bool false∧cF (gH n) S H H' w)∨(w.lU g x∧v= .bool true∧cF (gH n) S H H' (w.put x (g,k,s)))):=by
 obtain⟨B,ro,C,l,V,ch,par,kb,bX,rows,rb,rfl,m,f,hl,hS⟩:=h
 have hC:∀z,C z→S z:=fun z h=>(hS z).2 (fN (m.hC z h) nofun)
 refine bm sm ?_
 refine vs ?_
 have f0:ah H (H.new 182 [i64 k,u64 s]):=(ag.refl _ _).new _ _
 have b0:(H.new 182 [i64 k,u64 s]).own H.size=some [i64 k,u64 s]:=az _ _ _
 have m0:=m.fresh f0
 generalize H.new 182 [i64 k,u64 s]=H0 at*
 have ff:ag S H H0:=f0.mono fun _ _ h=>h.elim
 obtain⟨tv,IS,_⟩:=m0.own
 refine v2 (ae IS) (ae b0) ?_
 refine(lz m0.cells g x k s).mono ?_
 rintro _ H1 (⟨bO,rfl,c1,e1⟩| ⟨rq,rfl,c1,e1⟩)
 ·refine vs ?_
  exact .inl ⟨bO,rfl,cF.same ⟨B,ro,C,l,V,ch,par,kb,bX,rows,rb,rfl,m0.aI c1 e1 rfl,f,hl,hS⟩ (ff.trans (e1.mono fun z _ hz=>hC z hz))⟩
 obtain⟨hh,hx,bH⟩:=id rq
 have m1:=m0.aI c1 e1 (by simp[Nw.put])
 have hg:=hh.1
 have dI:=m.TN hl hh
 have cU:=fun y=>eI hx (g,k,s) y
 have gB:aG w x≤0:=Int.not_lt.1 fun h=>bH (bA.1 h)
 have el:∀a b,0<aG w a→0<aG w b→a≠x→b≠x→aQ (w.put x (g,k,s)) a b=aQ w a b:=fun a b ha hb uH mI=>dU hx _ ha hb uH mI
 obtain⟨f1,_⟩:=f.put (hm':=aG (w.put x (g,k,s))) (lt':=aQ (w.put x (g,k,s))) (g:=g) rfl gB (by omega) (by omega) (by rw[cU,if_pos rfl]) (fun y hy=>by rw[cU,if_neg hy]) el
 refine vs ?_
 have f2:ah H1 (H1.new 3 [i64 x]):=(ag.refl _ _).new _ _
 have m2:=m1.fresh f2
 have s2:Sl (H1.new 3 [i64 x]) 1 (.slice (some ⟨H1.size,0,none⟩) 1 1) [x].length ([x].map i64) (some H1.size):=Sl.bU (size:=1) (n:=1) (xs:=[i64 x]) rfl rfl
 have z2:(H1.new 3 [i64 x]).size=H1.size+1:=am _ _ _
 have Uv:FT (H1.new 3 [i64 x]) ro (H1.new 3 [i64 x]).size (.slice (some ⟨H1.size,0,none⟩) 1 1) [x]:=Sl.rdB s2 fun b hb=>by
  injection hb with hb
  subst hb
  refine⟨by omega,fun hc=>?_⟩
  have:=m1.hz H1.size (aqm _)
  rcases hc with (hc| ⟨x,hc⟩)|hc<;>(rw[this]at hc;cases hc)
 generalize H1.new 3 [i64 x]=H2 at*
 refine(Cw m2 Uv (fun _ _ h=>h) (W0:=[]) f1 (List.pairwise_singleton _ _) (fun c hc=>by rw[aql.1 hc,cU,if_pos rfl]) dI).mono ?_
 rintro _ H3 ⟨Ro,l3,V3,Nu,pV,Zw,aiy,Cy,rb3,m3,f3,Q0,_,UE,e3⟩
 refine vs ?_
 have eS:ag S H H2:=(ff.trans (e1.mono fun z _ h=>hC z h)).trans (f2.mono fun _ _ h=>h.elim)
 have z1:=eS.size
 refine .inr ⟨rq,rfl,dJ Ro,⟨B,Ro,C,l3,V3,Nu,pV,Zw,aiy,Cy,rb3,rfl,m3,f3,by rw[Q0,hl];rfl,fun z=>Iff.rfl⟩,eS.trans (e3.mono fun z _ h=>(hS z).2 h),fun z hz=>?_⟩
 rcases UE z hz with h|h
 ·exact .inl ((hS z).2 h)
 ·exact .inr (by omega)
theorem iS.VX{hm:Int→Int}(f:iS hm lt ch par rows W)(x:Int):FO ch (ch x):=by
 unfold FO
 rw[List.pairwise_iff_getElem]
 intro i j hi hj Ll
 rw[f.dg x i _ (aqb hi),f.dg x j _ (aqb hj)]
 exact Ll
theorem iS.VY{hm:Int→Int}(f:iS hm lt ch par rows []){x g:Int}(hx:x∈rows g):iS hm lt ch par (aA rows g ((rows g).filter fun y=> !decide (x=y))) [x]:=by
 have hn:=(f.rr g).nodup
 have hp:(rows g++[]).Perm (((rows g).filter fun y=> !decide (x=y))++[x]):=by
  rw[aq2]
  refine(List.perm_ext_iff_of_nodup hn ?_).2 fun y=>?_
  ·rw[aqR]
   refine⟨hn.filter _,by simp,fun u hu v hv e=>?_⟩
   rw[arK]at hu
   rw[aql.1 hv]at e
   simp[e]at hu
  ·rw[aqq,arK,aql]
   by_cases h:x=y
   ·simp[←h,hx]
   ·simp[h,Ne.symm h]
 have f2:=((f.loose g).perm hp).row (g:=g) (by unfold aA;rw[if_pos rfl]) ((f.rr g).sub List.filter_sublist) (fun c hc=>(f.rm g c (arK.1 hc).1).1)
 rwa[fg]at f2
theorem FD{H:Hp}{bx:Nat}{x:Int}(hb:H.own bx=some [i64 x])(y:Int):af Tryz.prog ja [i64 y,ptr bx] H fun v H'=>ax (v= .bool (decide (x=y))∧H'=H):=by
 refine j6 mixed (an:=sr) (by conv=>lhs;cbv) (nt:=7) (by kernel_rfl) (by simp) ?_
 refine v1 (ae hb) ?_
 exact⟨rfl,rfl⟩
theorem Jc(m:uE H ro B C w l V ch par kb bX rows rb)(aN:∀a b,aQ w a b=true→lt a b=true)(f:iS (aG w) lt ch par rows []){x g:Int}(vO:x∈rows g)(wI:0≤g∧g<bX.length)(adN:∀a b,0<aG w a→0<aG w b→a≠x→b≠x→lt a b=true→aQ (w.put x (0,0,0)) a b=true):
  af Tryz.prog uZ [ptr B.n,i64 g,i64 x] H fun v H'=>ax (v= .bool true∧∃ro' l' V' dS bD ri E9 jY Zx,uE H' ro' B C (w.put x (0,0,0)) l' V' dS bD ri E9 jY Zx∧iS (aG (w.put x (0,0,0))) (aQ (w.put x (0,0,0))) dS bD jY []∧E9.length=bX.length∧
   (∀z,dJ ro' z→dJ ro z∨H.size≤z)∧ag (dJ ro) H H'):=by
 obtain⟨PP,Lq,Tg,_⟩:=f.rm g x vO
 have gB:=vU (w:=w) x (by omega)
 have xW:=m.cells.Fe
 have bf:=cf (f.rr g).nodup fun c hc=>vU (w:=w) c (by have:=f.rm g c hc;omega)
 refine EL vm ⟨rfl,?_⟩
 refine v1 lc.eq_1 ?_
 have f0:ah H (H.new 3 [i64 x]):=(ag.refl _ _).new _ _
 have b0:(H.new 3 [i64 x]).own H.size=some [i64 x]:=az _ _ _
 have z0:(H.new 3 [i64 x]).size=H.size+1:=am _ _ _
 have m0:=m.fresh f0
 generalize H.new 3 [i64 x]=H0 at*
 obtain⟨lb,tc,sv,o1,q1,q2,FX,_,s2⟩:=m0.Nc wI
 obtain⟨va,vc,rfl⟩:=Sl.shape s2
 refine gP.intro (fun H'=>H'.own B.n=some [ptr B.c,ptr B.fb,.slice (some ⟨B.rp,0,none⟩) bX.length tc]) o1 ?_
 refine vs ?_
 refine dP.intro (.slice (some ⟨B.rp,0,none⟩) bX.length tc) (fun H' hI=>by refine v1 (ae hI) ?_;trivial) ?_
 refine v1 (ae o1) ?_
 refine And.intro o1 ?_
 refine vs ?_
 refine⟨⟨by omega,by omega⟩,?_⟩
 refine v4 (ae q1) aqa aqd q2 ?_
 refine And.intro o1 ?_
 refine vs ?_
 have xU:∀b,rb g=some b→ro b= .row g:=fun b hb=>m.nh g b wI.1 wI.2 hb
 refine(DQ s2 ja [ptr H.size] (fun y=>decide (x=y)) (by kernel_rfl) (fun H' e' y=>FD (e'.own b0 (fun hh=>by have:=m.slt _ (fN (xU _ hh) nofun);omega)) y) (by omega)).mono ?_
 rintro _ H1 ⟨s3,e1⟩
 obtain⟨va',SI,rfl⟩:=Sl.shape s3
 have adO:∀z q,ro z=q→q≠ .row g→¬rb g=some z:=fun z q h1 h2 h3=>h2 (by rw[←h1,xU z h3])
 have o2:=e1.own o1 (adO _ _ m.rn nofun)
 have q3:=e1.own q1 (adO _ _ m.rr nofun)
 refine And.intro o2 ?_
 refine vs ?_
 refine⟨⟨by omega,by omega⟩,?_⟩
 refine v3 q3 aqa aqd ?_
 refine⟨by omega,?_⟩
 obtain⟨m2,e2,AH⟩:=m0.WV wI e1 q3 s3 (fun b hb=>.inr (xU b hb))
 have hnr:B.n≠B.rp:=fun e=>by have:=m.rn;rw[e,m.rr]at this;cases this
 refine vs ?_
 refine And.intro o2 ?_
 have Zy:¬dJ ro H.size:=fun h=>by have:=m.slt _ h;omega
 have b2:=e2.own b0 Zy
 have z2:=e2.size
 have f2:=f.VY vO
 generalize H1.wr B.rp (lb.set g.toNat (Value.slice va' ((rows g).filter fun y=> !decide (x=y)).length SI))=H2 at*
 obtain⟨oL,aiz⟩:∃oL:Nat→Rl,oL=fun z=>if rb g=some z then Rl.row g else ro z:=⟨_,rfl⟩
 rw[←aiz]at m2 AH
 have Zz:∀z,dJ oL z→dJ ro z:=fun z hz=>(AH z hz).elim id fun h=>fN (xU z h) nofun
 obtain⟨OK,o3,_⟩:=m2.own
 refine v2 (ae o3) (ae b2) ?_
 have tQ:(ch x).length≤w.cs.length:=cf (f.pr.nd x) fun c hc=>m.fo.HU x c hc
 refine(D7 m2.fo m2.hz gB Lq (by omega)).mono ?_
 rintro sv H3 ⟨Ro,l3,V3,Zw,fp3,fo3,r3,SC,e3,s4,eB⟩
 have z3:=e3.size
 have m3:=m2.TM fo3 (m2.cells.ext e3 (fun z hz hk=>by
  have:=m2.hC z hz
  rcases hk with hk| ⟨_,hk⟩<;>(rw[this]at hk;cases hk))) r3 SC (e3.mono fun z _ h=>.inl h)
 have f3:=f2.split.perm (show(x::(ch x++[])).Perm (ch x++[x]) by
  rw[aq2]
  exact aru (l₁:=[x]) (l₂:=ch x))
 have Li:x∉ch x:=fun h=>by have:=f.less h;omega
 have Uv:FT H3 Ro H3.size sv (ch x):=Sl.rdB s4 fun b hb=>by
  rw[hb]at s4
  refine⟨Sl.lt s4,fun hc=>?_⟩
  have:=(eB b hb).2
  rcases hc with (hc| ⟨x,hc⟩)|hc<;>(rw[this]at hc;cases hc)
 have aiA:0≤g∧g< ((bX.set g.toNat (Value.slice va' ((rows g).filter fun y=> !decide (x=y)).length SI)).length:Int):=by rw[aqe];exact wI
 refine(Cw m3 Uv aN f3 ((f.VX x).frame fun c hc=>by unfold aA;rw[if_neg (fun e=>Li (by have h7:=hc;rw[e]at h7;exact h7))]) (fun c hc=>by
  have:=(f.pr.dn x c hc).2.2.1
  omega) aiA).mono ?_
 rintro _ H4 ⟨ro4,l4,V4,VT,K6,kb4,aiC,adQ,rb4,m4,f4,PX,w4,hr4,e4⟩
 have ZA:∀z,dJ Ro z→dJ ro z∨H.size+1≤z:=fun z hz=>by
  by_cases Ps:z<H2.size
  ·refine .inl (Zz z fun h=>hz ?_)
   exact r3.none Ps h
  ·exact .inr (by omega)
 have SP:¬dJ Ro H.size:=fun h=>by
  rcases ZA _ h with h|h
  ·exact Zy h
  ·omega
 have aiD:¬KB oL H.size:=fun h=>Zy (Zz _ (by rcases h with h| ⟨_,h⟩<;>exact fN h nofun))
 have b4:=e4.own (e3.own b2 aiD) SP
 obtain⟨tv4,o5,_⟩:=m4.own
 refine v2 (ae o5) (ae b4) ?_
 refine(cw m4.cells x).mono ?_
 have bH:df w.cs x:=bA.1 (by omega)
 rintro _ H5 (⟨bO,_,_⟩| ⟨_,rfl,c5,e5⟩)
 ·exact absurd bH bO
 have m5:=m4.aI c5 e5 (by simp[Nw.put])
 refine vs ?_
 have cU:=fun y=>eI (w:=w) gB (0,0,0) y
 have f5:=f4.drop (hm':=aG (w.put x (0,0,0))) (lt':=aQ (w.put x (0,0,0))) (by
  rw[w4 x (by simp)]
  unfold aA
  rw[if_pos rfl]) rfl (by rw[cU,if_pos rfl]) (fun y hy=>by rw[cU,if_neg hy]) adN
 have z4:=e4.size
 have adR:∀z,dJ ro4 z→dJ ro z∨H.size+1≤z:=fun z hz=>by
  rcases hr4 z hz with h|h
  ·exact ZA z h
  ·exact .inr (by omega)
 refine⟨rfl,ro4,l4,V4,VT,K6,kb4,aiC,adQ,rb4,m5,f5,by rw[PX,aqe],fun z hz=>?_,?_⟩
 ·rcases adR z hz with h|h
  ·exact .inl h
  ·exact .inr (by omega)
 ·refine⟨by have:=e5.size;omega,fun z hz hn=>?_⟩
  rw[e5.aM z (by omega) (fun h=>by
   rcases adR z (fN (m4.hC z h) nofun)with h|h
   ·exact hn h
   ·omega),e4.aM z (by omega) (fun h=>by
   rcases ZA z h with h|h
   ·exact hn h
   ·omega),e3.aM z (by omega) (fun h=>hn (Zz z (by rcases h with h| ⟨_,h⟩<;>exact fN h nofun))),e2.aM z (by omega) (fun h=>hn h),f0.aM z hz (fun h=>h)]
theorem Ee{n:Nat}{H:Hp}{S:Nat→Prop}{w:Nw}(h:gH n H S w)(g:Int):af Tryz.prog iD [ptr n,i64 g] H fun v H'=>ax (
  (w.len g=0∧v= .tuple [i64 0,.bool false].toArray∧cF (gH n) S H H' w)∨(∃x,w.first g x∧v= .tuple [i64 x,.bool true].toArray∧cF (gH n) S H H' (w.put x (0,0,0)))):=by
 refine bm qI ?_
 refine vs ?_
 refine(Cx h g).mono ?_
 rintro _ H1 (⟨h0,rfl,h1,e1⟩| ⟨x,hx,rfl,h1,e1⟩)
 ·refine vs ?_
  exact .inl ⟨h0,rfl,cF.same h1 e1⟩
 refine vs ?_
 obtain⟨B,ro,C,l,V,ch,par,kb,bX,rows,rb,rfl,m,f,hl,hS⟩:=h1
 obtain⟨hg,PP,lJ⟩:=bQ.1 hx
 have vO:x∈rows g:=by
  obtain⟨r,IZ,AH⟩:=f.root hg PP
  rcases AH with h|h
  ·rw[←h];exact IZ
  ·by_cases e:r=x
   ·rw[←e];exact IZ
   ·have h2:=lJ r (f.rm g r IZ).1 e
    rw[(aw w).asym h2]at h
    cases h
 have gB:=vU (w:=w) x (by omega)
 have wI:=m.TN hl ((m.cells.hm x).2 (by omega)).1
 rw[PP]at wI
 refine(Jc m (fun _ _ h=>h) f vO wI (fun a b ha hb uH mI h=>by rw[dU gB _ ha hb uH mI];exact h)).mono ?_
 rintro _ H2 ⟨rfl,oL,l2,V2,lK,jx,EB,aiE,JR,rb2,m2,f2,tP,AH,e2⟩
 refine vs ?_
 have z1:=e1.size
 refine .inr ⟨x,hx,rfl,dJ oL,⟨B,oL,C,l2,V2,lK,jx,EB,aiE,JR,rb2,rfl,m2,f2,by rw[tP,hl];rfl,fun z=>Iff.rfl⟩,e1.trans (e2.mono fun z _ h=>(hS z).2 h),fun z hz=>?_⟩
 rcases AH z hz with h|h
 ·exact .inl ((hS z).2 h)
 ·exact .inr (by omega)
end
end Go.Proofs.YthpjfeolagohkaaGreat

namespace Go.Proofs.YthpjfeolagohkaaGreat
open Go Go.Vc
section
variable {H H' : Hp} {ro ro' : Nat → Rl} {B : BnB} {C T : Nat → Prop} {w w' : Nw} {l l' : List Value} {V V' : Int → Value} {ch dS : Int → List Int} {par bD : Int → Int} {kb ri : Int → Option Nat} {bX : List Value} {rows : Int → List Int} {rb : Int → Option Nat} {lt : Int → Int → Bool} {W W0 L : List Int}
theorem uE.adS(m:uE H ro B C w l V ch par kb bX rows rb){g:Int}(hg:0≤g∧g<bX.length){H1:Hp}(e:ag (fun z=>rb g=some z) H H1){sv:Value}(pO:bX[g.toNat]? =some sv){L':List Int}(s:Sl H1 1 sv L'.length (L'.map i64) (rb g)):
  uE H1 ro B C w l V ch par kb bX (aA rows g L') rb:=by
 obtain⟨tv,h1,h2⟩:=m.own
 have hs:=e.size
 have n0:∀z q,ro z=q→q≠ .row g→¬rb g=some z:=fun z q h1 h2 h3=>h2 (by rw[←h1,m.nh g z hg.1 hg.2 h3])
 refine⟨⟨tv,e.own h1 (n0 _ _ m.rn nofun),h2.ext e (fun b hb=>by injection hb with hb;subst hb;exact n0 _ _ m.rr nofun)⟩,fun k h0 h1=>?_,m.cells.ext e (fun z hz=>n0 z _ (m.hC z hz) nofun),m.fo.ext e (fun z hz=>by rcases hz with h|h| ⟨x,h⟩<;>exact n0 z _ h nofun),m.hC,m.rn,m.rr,m.nh,fun z hz=>m.hz z (by omega)⟩
 by_cases hk:k=g
 ·subst hk
  refine⟨sv,pO,?_⟩
  unfold aA
  rw[if_pos rfl]
  exact s
 ·obtain⟨WB,q1,q2⟩:=m.row k h0 h1
  refine⟨WB,q1,?_⟩
  unfold aA
  rw[if_neg hk]
  exact q2.ext e (fun b hb=>n0 b _ (m.nh k b h0 h1 hb) (fun e=>hk (by injection e)))
theorem Jd(m:uE H ro B C w l V ch par kb bX rows rb){x g:Int}(f:Ns (aG w) (aQ w) ch par rows [] x)(PP:aG w x=g)(Tg:0<g)(wI:0≤g∧g<bX.length)(fid:FuncId)(jD:List Value)(q:Int→Bool)(J:Hp→Prop)(E:(Int→List Int)→Prop)(hJ:J H)
  (uO:∀H' zh,J H'→ag (fun z=>dJ ro z∧z≠B.n) H' zh→J zh)(wP:dN Tryz.prog fid=true)
  (hq:∀H' p,J H'→CQ H' B.c C w→0<aG w p→af Tryz.prog fid (i64 p::jD) H' fun v zh=>ax (v= .bool (q p)∧CQ zh B.c C w∧ag C H' zh))(hE:E ch)
  (hEs:∀ (ch:Int→List Int) (par:Int→Int) (rows:Int→List Int) p,Ns (aG w) (aQ w) ch par rows [] x→x∈ch p→q p=true→E ch→E (G1 ch x p)):
  af Tryz.prog uY [ptr B.n,i64 g,i64 x,.func (.func fid) #[] jD.toArray] H fun v H'=>ax (∃ro' l' V' dS bD ri jY,uE H' ro' B C w l' V' dS bD ri bX jY rb∧Ns (aG w) (aQ w) dS bD jY [] x∧E dS∧(bD x= -1∨q (bD x)=false)∧
   (∀z,dJ ro' z→dJ ro z)∧ag (dJ ro) H H'):=by
 have ls:=aw w
 have gB:=vU (w:=w) x (by omega)
 have xW:=m.cells.Fe
 refine bm vl ?_
 refine vs ?_
 refine aY.intro (fun mm env H'=>∃ (ro':Nat→Rl) (l':List Value) (V':Int→Value) (dS:Int→List Int) (bD:Int→Int) (ri:Int→Option Nat) (jY:Int→List Int),mm=w.cs.length - (dS x).length∧uE H' ro' B C w l' V' dS bD ri bX jY rb∧Ns (aG w) (aQ w) dS bD jY [] x∧E dS∧J H'∧
  (∀z,dJ ro' z→dJ ro z)∧ag (dJ ro) H H'∧env=[(0,ptr B.n),(1,i64 g),(2,i64 x),(3,.func (.func fid) #[] jD.toArray)]) _ ⟨ro,l,V,ch,par,kb,rows,rfl,m,f,hE,hJ,fun _ h=>h,ag.refl _ _,rfl⟩ ?_
 clear m f hE hJ
 rintro mm env H1 ⟨Zm,l1,V1,PW,yb,kb1,pk,rfl,m1,f1,hE1,hJ1,IZ,e1,rfl⟩
 obtain⟨DO,o1,_⟩:=m1.own
 refine v1 (ae o1) ?_
 refine(pR m1.fo.t gB).mono ?_
 rintro _ H' ⟨⟨hp,rfl⟩| ⟨hp,rfl⟩,e⟩
 ·obtain rfl:=e.symm
  refine vs ?_
  exact⟨Zm,l1,V1,PW,yb,kb1,pk,m1,f1,hE1,.inl hp,IZ,e1⟩
 obtain rfl:=e.symm
 obtain⟨p,hpd⟩:∃p,p=yb x:=⟨_,rfl⟩
 rw[←hpd]at hp ⊢
 have Lq:=f1.w.pr.up x p hpd.symm hp
 obtain⟨_,_,hpg,No,_⟩:=f1.w.pr.dn p x Lq
 have fR:=f1.w.less Lq
 have hp0:=vU (w:=w) p (by omega)
 have bf:∀z,(PW z).length≤w.cs.length:=fun z=>cf (f1.w.pr.nd z) fun c hc=>m1.fo.HU z c hc
 refine vs ?_
 refine⟨wP,?_⟩
 refine af.mono (by simpa using hq H1 p hJ1 m1.cells (by omega)) ?_
 rintro _ H2 ⟨rfl,c2,e2⟩
 have m2:=m1.aI c2 e2 rfl
 have e2':ag (dJ ro) H1 H2:=e2.mono fun z _ h=>IZ z (fN (m1.hC z h) nofun)
 have hJ2:=uO _ _ hJ1 (e2.mono fun z _ h=>⟨IZ z (fN (m1.hC z h) nofun),fun e=>by have:=m1.hC z h;rw[e,m1.rn]at this;cases this⟩)
 have pg:=e1.trans e2'
 cases hqp:q p
 ·refine vs ?_
  exact⟨Zm,l1,V1,PW,yb,kb1,pk,m2,f1,hE1,.inr (by rw[←hpd];exact hqp),IZ,pg⟩
 obtain⟨OK,o2,_⟩:=m2.own
 refine v1 (ae o2) ?_
 refine(pR m2.fo.t hp0).mono ?_
 have ZB:∀h,x∉pk h:=fun h hh=>hp (by rw[hpd];exact(f1.w.rm h x hh).2.1)
 have Tb:yb p≠ -1→0≤yb p∧yb p<w.cs.length:=fun h=>by
  have:=(f1.w.pr.dn _ _ (f1.w.pr.up p _ rfl h)).2.2
  exact vU (w:=w) _ (by omega)
 have fin:∀ (H3:Hp) (Cy:Int→List Int),uE H3 Zm B C w l1 V1 PW yb kb1 bX Cy rb→(∀h,Cy h=(pk h).map (gN x p))→J H3→ag (dJ ro) H H3→∀ (K:Value→Hp→Prop),(∀H4,(∃m',m'<w.cs.length - (PW x).length∧∃ (ro':Nat→Rl) (l':List Value) (V':Int→Value) (dS:Int→List Int) (bD:Int→Int) (ri:Int→Option Nat) (jY:Int→List Int),m'=w.cs.length - (dS x).length∧uE H4 ro' B C w l' V' dS bD ri bX jY rb∧Ns (aG w) (aQ w) dS bD jY [] x∧E dS∧J H4∧
  (∀z,dJ ro' z→dJ ro z)∧ag (dJ ro) H H4)→K (.bool true) H4)→af Tryz.prog mi [ptr B.fb,i64 x] H3 K:=fun H3 Cy m3 Ex hJ3 e3 K hK=>by
  refine(Fy m3.fo m3.hz f1.w gB hp0 Lq Tb xW).mono ?_
  rintro _ H4 ⟨rfl,ro4,l4,V4,kb4,fo4,r4,hz4,e4,aiG⟩
  have m4:=m3.TM fo4 (m3.cells.ext e4 (fun z hz hk=>by
   have:=m3.hC z hz
   rcases hk with hk| ⟨_,hk⟩<;>(rw[this]at hk;cases hk))) r4 hz4 (e4.mono fun z _ h=>.inl h)
  have e4':ag (dJ ro) H3 H4:=e4.mono fun z _ h=>IZ z (by rcases h with h| ⟨_,h⟩<;>exact fN h nofun)
  have f4:=f1.up ls Lq
  have ZC:(fun h=>(pk h).map (gN x p))=Cy:=by funext h;exact(Ex h).symm
  rw[ZC,ase]at f4
  have PX:(G1 PW x p x).length=(PW p).length:=by unfold G1;rw[ol,aqr]
  have:=bf p
  have aoc:=e4.size
  refine hK H4 ⟨w.cs.length - (G1 PW x p x).length,by omega,ro4,l4,V4,_,_,kb4,Cy,rfl,m4,f4,hEs _ _ _ p f1 Lq hqp hE1,uO _ _ hJ3 (e4.mono fun z _ h=>⟨IZ z (by rcases h with h| ⟨_,h⟩<;>exact fN h nofun),fun e=>by rw[e]at h;rcases h with h| ⟨_,h⟩<;>(rw[m3.rn]at h;cases h)⟩),fun z hz=>?_,e3.trans e4'⟩
  exact IZ z fun h=>hz (aiG z h)
 rintro _ H' ⟨⟨Oy,rfl⟩| ⟨Oy,rfl⟩,e⟩
 ·obtain rfl:=e.symm
  have hpr:p∈pk g:=by
   rcases f1.w.E5 p (by omega) Oy with h|h
   ·rw[hpg,PP]at h;exact h
   ·cases h
  obtain⟨lb,tc,sv,o3,q1,q2,FX,pO,s3⟩:=m2.Nc wI
  obtain⟨k0,hk0,ek0⟩:=ar2.1 hpr
  obtain⟨b,lr,rc,rfl,Zr,qb,qk0,aod,X6,_⟩:=Sl.VU s3 (i:=k0) (x:=p) (by rw[aqb hk0,ek0])
  have WC:=cf (f1.w.rr g).nodup fun c hc=>vU (w:=w) c (by have:=f1.w.rm g c hc;omega)
  refine v1 (ae o3) ?_
  refine⟨⟨by omega,by omega⟩,?_⟩
  refine v5 (ae q1) aqa aqd q2 (ae o3) ?_
  refine⟨⟨by omega,by omega⟩,?_⟩
  refine v4 (ae q1) aqa aqd q2 ?_
  have gI:=(f1.w.rr g).nodup
  have adT:(pk g)[k0]? =some p:=by rw[aqb hk0,ek0]
  refine⟨i64 (k0:Int),(fT s3.rd p (by omega)).mono ?_,?_⟩
  ·rintro _ H' ⟨⟨j,rfl,hj⟩,e⟩
   obtain⟨hj0,hj⟩:=hj.resolve_left (fun h=>h.2 hpr)
   have hjl:=(aqc.1 hj).1
   have:=(List.getElem?_inj hjl gI).1 (hj.trans adT.symm)
   exact⟨by rw[show j=(k0:Int) by omega],e⟩
  refine vs ?_
  refine⟨⟨by omega,by omega⟩,?_⟩
  refine v4 qb aqa aqd Int.toNat_natCast ?_
  refine⟨by omega,?_⟩
  rw[Zr]at s3
  have s4:=s3.qn qb k0 (i64 x)
  have e3:ag (fun z=>rb g=some z) H2 (H2.wr b (lr.set k0 (i64 x))):=(ag.refl (fun z=>rb g=some z) _).wr (fun _=>Zr) _
  have TG:(pk g).map (gN p x)=(pk g).map (gN x p):=ar7 fun c _=>by
   unfold gN
   by_cases e1:c=x
   ·by_cases e2:c=p
    ·rw[if_pos e2,if_pos e1];exact e1▸e2▸rfl
    ·rw[if_neg e2,if_pos e1,if_pos e1]
   ·by_cases e2:c=p
    ·rw[if_pos e2,if_neg e1,if_pos e2]
    ·rw[if_neg e2,if_neg e1,if_neg e1,if_neg e2]
  rw[←aqP,K8 gI (ZB g) adT,TG]at s4
  have Y4:((pk g).map (gN x p)).length=(pk g).length:=aqr ..
  have m3:=m2.adS wI e3 pO (L':=(pk g).map (gN x p)) (by rw[Zr,Y4];exact s4)
  have e3':ag (dJ ro) H2 (H2.wr b (lr.set k0 (i64 x))):=e3.mono fun z _ h=>IZ z (fN (m2.nh g z wI.1 wI.2 h) nofun)
  obtain⟨tv3,o4,_⟩:=m3.own
  refine v1 (ae o4) ?_
  refine fin _ _ m3 (fun h=>?_) (uO _ _ hJ2 (e3.mono fun z _ h=>⟨IZ z (fN (m2.nh g z wI.1 wI.2 h) nofun),fun e=>by have:=m2.nh g z wI.1 wI.2 h;rw[e,m2.rn]at this;cases this⟩)) (pg.trans e3') _ fun H4 hh=>?_
  ·unfold aA
   split
   ·rename_i e;rw[e]
   ·rename_i e
    exact(B9 (ZB h) (fun hh=>e (by rw[← (f1.w.rm h p hh).1,hpg,PP]))).symm
  obtain⟨m',hm',ro',l',V',dS,bD,ri,jY,h1,h2,h3,h4,h5,h6,h7⟩:=hh
  refine vs ?_
  exact⟨m',hm',ro',l',V',dS,bD,ri,jY,h1,h2,h3,h4,h5,h6,h7,trivial⟩
 ·obtain rfl:=e.symm
  have aiH:∀h,p∉pk h:=fun h hh=>Oy (f1.w.rm h p hh).2.1
  refine v1 (ae o2) ?_
  refine fin H2 pk m2 (fun h=>(B9 (ZB h) (aiH h)).symm) hJ2 pg _ fun H4 hh=>?_
  obtain⟨m',hm',ro',l',V',dS,bD,ri,jY,h1,h2,h3,h4,h5,h6,h7⟩:=hh
  refine vs ?_
  exact⟨m',hm',ro',l',V',dS,bD,ri,jY,h1,h2,h3,h4,h5,h6,h7,trivial⟩
end
end Go.Proofs.YthpjfeolagohkaaGreat

namespace Go.Proofs.YthpjfeolagohkaaGreat
open Go Go.Vc
theorem yj{H:Hp}{C:Nat→Prop}{w:Nw}{b3 b4 n c:Nat}{x:Int}{rest:List Value}(h3:H.own b3=some [ptr n])(h4:H.own b4=some [i64 x])(hn:H.own n=some (ptr c::rest))(cq:CQ H c C w){p:Int}(hx:0<aG w x)(hp:0<aG w p):
  af Tryz.prog fY [i64 p,ptr b3,ptr b4] H fun v H'=>ax (v= .bool (aQ w x p)∧CQ H' c C w∧ag C H H'):=by
 refine j6 mixed (an:=nL) (by conv=>lhs;cbv) (nt:=12) (by kernel_rfl) (by simp) ?_
 refine v3 (ae h3) (ae h4) (ae hn) ?_
 refine(cN cq x p).mono ?_
 rintro _ H1 ⟨rfl,c1,e1⟩
 rw[gX (w:=w) (a:=x) (b:=p) hx hp]
 refine vs ?_
 exact⟨rfl,c1,e1⟩
theorem Cz{n:Nat}{H:Hp}{S:Nat→Prop}{w:Nw}(h:gH n H S w)(x k s:Int):af Tryz.prog gR [ptr n,i64 x,uw k s] H fun v H'=>ax (
  (¬w.dm x k s∧v= .bool false∧cF (gH n) S H H' w)∨(w.dm x k s∧v= .bool true∧∃y,w.cs[x.toNat]? =some y∧cF (gH n) S H H' (w.put x (y.1,k,s)))):=by
 obtain⟨B,ro,C,l,V,ch,par,kb,bX,rows,rb,rfl,m,f,hl,hS⟩:=h
 have hC:∀z,C z→S z:=fun z h=>(hS z).2 (fN (m.hC z h) nofun)
 have hSR:∀z,S z→z<H.size:=fun z hz=>m.slt z ((hS z).1 hz)
 refine bm pI ?_
 refine vs ?_
 have f0:ah H (((H.new 154 [ptr B.n]).new 3 [i64 x]).new 182 [i64 k,u64 s]):=(((ag.refl _ _).new _ _).new _ _).new _ _
 have b3:(((H.new 154 [ptr B.n]).new 3 [i64 x]).new 182 [i64 k,u64 s]).own H.size=some [ptr B.n]:=by
  rw[cA (by simp only[am];omega),cA (by simp only[am];omega),az]
 have b4:(((H.new 154 [ptr B.n]).new 3 [i64 x]).new 182 [i64 k,u64 s]).own (H.size+1)=some [i64 x]:=by
  rw[cA (by simp only[am];omega)]
  exact bz (by simp only[am])
 have b5:(((H.new 154 [ptr B.n]).new 3 [i64 x]).new 182 [i64 k,u64 s]).own (H.size+1+1)=some [i64 k,u64 s]:=bz (by simp only[am])
 have m0:=m.fresh f0
 generalize ((H.new 154 [ptr B.n]).new 3 [i64 x]).new 182 [i64 k,u64 s]=H0 at*
 have ff:ag S H H0:=f0.mono fun _ _ h=>h.elim
 obtain⟨tv,IS,_⟩:=m0.own
 refine v4 (ae b3) (ae b4) (ae IS) (ae b5) ?_
 refine(gW m0.cells x k s).mono ?_
 rintro _ H1 (⟨bO,rfl,c1,e1⟩| ⟨bH,rfl,y,hy,fR,c1,e1⟩)
 ·refine vs ?_
  exact .inl ⟨bO,rfl,cF.same ⟨B,ro,C,l,V,ch,par,kb,bX,rows,rb,rfl,m0.ext e1 (fun _ _ h=>h),f,hl,hS⟩ (ff.trans (e1.mono fun _ _ h=>h.elim))⟩
 have lJ:(w.put x (y.1,k,s)).cs.length=w.cs.length:=by simp[Nw.put]
 have m1:=m0.aI c1 e1 lJ
 have Cd:w.dm x k s:=⟨bH,fun z hz=>by rw[hy]at hz;injection hz with hz;rw[←hz];exact fR⟩
 have hx:0≤x∧x<w.cs.length:=⟨bH.1,by have:=(aqc.1 hy).1;have:=bH.1;omega⟩
 have RH:aG w x=y.1:=kg bH.1 hy
 have ep:=bA.2 bH
 have hw:aG (w.put x (y.1,k,s))=aG w:=by
  funext z
  rw[eI hx]
  split
  ·rename_i e;rw[e,RH]
  ·rfl
 have Fu:df (w.put x (y.1,k,s)).cs x:=bA.1 (by rw[hw];exact ep)
 have el:∀a b,0<aG w a→0<aG w b→a≠x→b≠x→aQ (w.put x (y.1,k,s)) a b=aQ w a b:=fun a b ha hb uH mI=>dU hx _ ha hb uH mI
 have ex:∀b,0<aG w b→b≠x→aQ w x b=true→aQ (w.put x (y.1,k,s)) x b=true:=fun b hb mI h=>B4 bH hy fR hb mI h
 have ls:=aw w
 have Uu:=aw (w.put x (y.1,k,s))
 have nC:∀z,H.size≤z→¬C z:=fun z hz hc=>by have:=hSR z (hC z hc);omega
 have b31:=e1.own b3 (nC _ (aqm _))
 have b41:=e1.own b4 (nC _ (by omega))
 obtain⟨DO,o1,_⟩:=m1.own
 have wI:=m.TN hl ((m.cells.hm x).2 ep).1
 have hhl:(w.put x (y.1,k,s)).hs.length=w.hs.length:=by simp[Nw.put]
 refine v3 (ae b31) (ae b41) (ae o1) ?_
 refine(dH m1.cells x).mono ?_
 rintro _ H2 (⟨bO,_,_⟩| ⟨_,rfl,c2,e2⟩)
 ·exact absurd Fu bO
 have m2:=m1.aI c2 e2 rfl
 have pg:ag S H H2:=(ff.trans (e1.mono fun z _ h=>hC z h)).trans (e2.mono fun z _ h=>hC z h)
 have b32:=e2.own b31 (nC _ (aqm _))
 have b42:=e2.own b41 (nC _ (by omega))
 rw[hw]
 refine v2 (ae b32) (ae b42) ?_
 have f2:Ns (aG (w.put x (y.1,k,s))) (aQ (w.put x (y.1,k,s))) ch par rows [] x:=by
  rw[hw]
  exact Ns.start ls f el
 have hE0:∀d∈ch x,aQ (w.put x (y.1,k,s)) x d=true:=fun d hd=>by
  obtain⟨_,_,_,h4,h5⟩:=f.pr.dn x d hd
  exact ex d h4 (fun e=>by have:=f.less hd;rw[e]at this;omega) h5
 have hsR:∀z,dJ ro z→z<H.size:=m.slt
 refine(Jd m2 f2 (g:=aG w x) (by rw[hw]) ep wI fY [ptr H.size,ptr (H.size+1)] (fun p=>aQ (w.put x (y.1,k,s)) x p) (fun H'=>H'.own H.size=some [ptr B.n]∧H'.own (H.size+1)=some [i64 x]∧∃tv,H'.own B.n=some [ptr B.c,ptr B.fb,tv])
  (fun ch=>∀d∈ch x,aQ (w.put x (y.1,k,s)) x d=true) ?_ (fun H' zh hJ e=>?_) (by kernel_rfl) (fun H' p hJ cq hp=>?_) hE0 (fun ch par rows p cx Lq hq _=>cx.low Uu Lq hq)).mono ?_
 ·obtain⟨OK,o2,_⟩:=m2.own
  exact⟨b32,b42,OK,o2⟩
 ·obtain⟨j1,j2,OK,o2⟩:=hJ
  exact⟨e.own j1 (fun h=>by have:=hsR _ h.1;omega),e.own j2 (fun h=>by have:=hsR _ h.1;omega),OK,e.own o2 (fun h=>h.2 rfl)⟩
 ·obtain⟨j1,j2,OK,o2⟩:=hJ
  exact yj j1 j2 o2 cq (by rw[hw];exact ep) hp
 rintro _ H3 ⟨Ro,l3,V3,Nu,pV,Zw,Cy,m3,f3,hE3,hq3,UE,e3⟩
 refine vs ?_
 have f4:=f3.done hE3 (fun hp=>by
  rcases hq3 with h|h
  ·exact absurd h hp
  ·have hxc:=f3.w.pr.up x _ rfl hp
   have ZD:=f3.w.less hxc
   exact(Uu.PA (pV x) x (fun e=>by rw[e]at ZD;omega)).resolve_right (by rw[h];simp))
 have z2:=pg.size
 refine .inr ⟨Cd,rfl,y,hy,dJ Ro,⟨B,Ro,C,l3,V3,Nu,pV,Zw,bX,Cy,rb,rfl,m3,f4,by rw[hl,hhl],fun z=>Iff.rfl⟩,pg.trans (e3.mono fun z _ h=>(hS z).2 h),fun z hz=>.inl ((hS z).2 (UE z hz))⟩
theorem Lb(cap:Int)(H:Hp):af Tryz.prog Gt [i64 cap] H fun v H'=>ax (
  ah H H'∧((¬ (0≤cap∧cap≤65536)∧v= .tuple [.pointer none,i64 31].toArray)∨
   ((0≤cap∧cap≤65536)∧∃n S,v= .tuple [ptr n,i64 0].toArray∧gH n H' S (As cap)∧∀x,S x→H.size≤x))):=by
 refine bm Gz ?_
 refine vs ?_
 refine(lA cap H).mono ?_
 rintro _ H1 ⟨f1,⟨hb,rfl⟩| ⟨hb,c,C,rfl,c1,hC⟩⟩
 ·refine vs ?_
  exact⟨f1,.inl ⟨hb,rfl⟩⟩
 refine vs ?_
 refine(HC H1 hb).mono ?_
 rintro _ H2 ⟨fb,tb,l,rfl,t2,f2,hfb,Wy⟩
 have c2:=c1.fresh f2
 refine vs ?_
 have yJ:=c1.slt
 have z1:=f1.size
 have z2:=f2.size
 have hts:=t2.Td
 have aR:=t2.ne
 have f3:ah H2 ((H2.new 30 [.slice none 0 0]).new 222 [ptr c,ptr fb,.slice (some ⟨H2.size,0,none⟩) 1 1]):=((ag.refl _ _).new _ _).new _ _
 have e2:ag (fun _=>False) (H2.new 30 [.slice none 0 0]) ((H2.new 30 [.slice none 0 0]).new 222 [ptr c,ptr fb,.slice (some ⟨H2.size,0,none⟩) 1 1]):=(ag.refl _ _).new _ _
 have z3:((H2.new 30 [.slice none 0 0]).new 222 [ptr c,ptr fb,.slice (some ⟨H2.size,0,none⟩) 1 1]).size=H2.size+1+1:=by simp only[am]
 obtain⟨ro,O7⟩:∃ro:Nat→Rl,ro=fun z=>if z=H2.size+1 then Rl.Tc else if z=H2.size then Rl.MX else if z=fb then Rl.G2 else if z=tb then Rl.table else @ite _ (C z) (Classical.propDecidable _) Rl.cell Rl.no:=⟨_,rfl⟩
 have r1:ro (H2.size+1)= .Tc:=by rw[O7];simp
 have r2:ro H2.size= .MX:=by rw[O7];simp
 have r3:ro fb= .G2:=by rw[O7];show(if fb=H2.size+1 then _ else _)=_;rw[if_neg (by omega),if_neg (by omega),if_pos rfl]
 have r4:ro tb= .table:=by rw[O7];show(if tb=H2.size+1 then _ else _)=_;rw[if_neg (by omega),if_neg (by omega),if_neg (by omega),if_pos rfl]
 have r5:∀z,C z→ro z= .cell:=fun z hz=>by
  have:=yJ z hz
  rw[O7];show(if z=H2.size+1 then _ else _)=_;rw[if_neg (by omega),if_neg (by omega),if_neg (by omega),if_neg (by omega),if_pos hz]
 have r6:∀z,ro z≠ .no→H.size≤z∧z<H2.size+1+1:=fun z hz=>by
  rw[O7]at hz
  simp only at hz
  split at hz
  ·omega
  ·split at hz
   ·omega
   ·split at hz
    ·omega
    ·split at hz
     ·omega
     ·split at hz
      ·rename_i h
       have:=hC z h
       have:=yJ z h
       omega
      ·exact absurd rfl hz
 have tQ:(As cap).cs.length=cap.toNat:=by simp[As]
 refine⟨(f1.trans f2).trans f3,.inr ⟨hb,H2.size+1,dJ ro,rfl,⟨⟨H2.size+1,c,fb,tb,H2.size⟩,ro,C,l,fun _=>.slice none 0 0,fun _=>[],fun _=> -1,fun _=>none,[.slice none 0 0],fun _=>[],fun _=>none,rfl,⟨⟨.slice (some ⟨H2.size,0,none⟩) 1 1,bz (by simp only[am]),?_⟩,fun g h0 h1=>?_,c2.fresh f3,?_,r5,r1,r2,fun g b _ _ h=>(by cases h),fun z hz=>?_⟩,
  ⟨⟨rfl,fun x c hc=>absurd hc (by simp),fun c x h hx=>absurd (Eq.symm h) hx,fun x=>art⟩,fun x i c hc=>by simp at hc,fun h=>List.Pairwise.nil,fun h c hc=>absurd hc (by simp),art,fun c hc=>absurd hc (by simp),fun c hc=>absurd hc (lE cap c)⟩,rfl,fun z=>Iff.rfl⟩,fun z hz=>(r6 z hz).1⟩⟩
 ·exact(Sl.bU (size:=1) (n:=1) (xs:=[.slice none 0 0]) rfl rfl).ext e2 (fun _ _ h=>h)
 ·have h1:g<1:=h1
  have hg:g=0:=by omega
  subst hg
  exact⟨.slice none 0 0,rfl,Sl.nil _ _⟩
 ·rw[tQ]
  exact⟨t2.ext f3 (fun h=>h) (fun h=>h),fun x h0 h1=>Sl.nil _ _,r3,r4,fun x b _ _ h=>(by cases h),fun x c hc=>absurd hc (by simp),fun _ _=>rfl⟩
 ·apply aqt
  intro h
  have:=(r6 z h).2
  have hz':H2.size+1+1≤z:=by rw[←z3];exact hz
  omega
theorem Je{n:Nat}{H:Hp}{S:Nat→Prop}{w:Nw}(h:gH n H S w):af Tryz.prog kU [ptr n] H fun v H'=>ax (
  (w.hs.length=65537∧v=i64 0∧cF (gH n) S H H' w)∨(w.hs.length≠65537∧v=i64 w.hs.length∧cF (gH n) S H H' w.make)):=by
 obtain⟨B,ro,C,l,V,ch,par,kb,bX,rows,rb,rfl,m,f,hl,hS⟩:=id h
 obtain⟨tv,ho,AL⟩:=m.own
 refine bm vk ?_
 refine v1 (ae ho) ?_
 refine(js m.cells).mono ?_
 rintro _ H1 (⟨h1,rfl,rfl⟩| ⟨h1,rfl,C',c1,e1,Au⟩)
 ·refine vs ?_
  exact .inl ⟨h1,rfl,cF.same h (ag.refl _ _)⟩
 have gA:=m.cells.pos
 have hhs:=m.cells.AL
 have slt:=m.slt
 have M3:=c1.slt
 have z1:=e1.size
 have nc:∀z q,ro z=q→q≠ .cell→¬C z:=fun z q h1 h2 hc=>h2 (by rw[←h1,m.hC z hc])
 have o1:=e1.own ho (nc _ _ m.rn nofun)
 refine vs ?_
 refine ar.cP (aqp (by omega)) ?_
 refine v1 (ae o1) ?_
 have s1:=AL.ext e1 (fun b hb=>by injection hb with hb;subst hb;exact nc _ _ m.rr nofun)
 have fl:ah H1 (H1.new 30 [.slice none 0 0]):=(ag.refl _ _).new _ _
 have zl:(H1.new 30 [.slice none 0 0]).size=H1.size+1:=am _ _ _
 refine Sl.append (s1.ext fl (fun _ _ h=>h)) (Sl.bU (size:=1) (n:=1) (xs:=[.slice none 0 0]) rfl rfl).rd rfl (fun v hv=>by rw[aql.1 hv];rfl) (by omega) ?_
 intro w' H2 bI s2 e2' eB
 have e2:ag (fun z=>z=B.rp) H1 H2:=⟨aqW fl.size e2'.size,fun z hz hn=>by
  rw[e2'.aM z (aqw hz fl.size) (fun h=>hn (by injection h with h;exact h.symm)),fl.aM z hz (fun h=>h)]⟩
 obtain⟨b',rfl,lI⟩:∃b',bI=some b'∧(b'=B.rp∨H1.size≤b'∧b'<H2.size):=by
  rcases eB with rfl| ⟨b',rfl,h2,h3⟩
  ·exact⟨_,rfl,.inl rfl⟩
  ·exact⟨b',rfl,.inr ⟨by omega,h3⟩⟩
 have hnr:B.n≠B.rp:=fun e=>by have:=m.rn;rw[e,m.rr]at this;cases this
 have o2:=e2.own o1 hnr
 obtain⟨wa,wc,PR⟩:=Sl.shape s2
 subst PR
 refine v1 o2 ?_
 have hln:B.n<H.size:=slt _ (fN m.rn nofun)
 have WC:B.rp<H.size:=slt _ (fN m.rr nofun)
 have e3:∀v,ag (fun z=>z=B.n) H2 (H2.wr B.n [ptr B.c,ptr B.fb,v]):=fun v=>(ag.refl (fun z=>z=B.n) _).wr (fun _=>rfl) _
 obtain⟨oL,O7⟩:∃oL:Nat→Rl,oL=fun z=>if z=b' then Rl.MX else if z<H.size then ro z else @ite _ (C' z) (Classical.propDecidable _) Rl.cell Rl.no:=⟨_,rfl⟩
 have r1:oL b'= .MX:=by rw[O7];show(if b'=b' then _ else _)=_;rw[if_pos rfl]
 have r2:∀z q,ro z=q→q≠ .no→q≠ .MX→oL z=q:=fun z q h1 h2 h3=>by
  have hz:=slt z (fN h1 h2)
  rw[O7]
  show(if z=b' then _ else _)=_
  rw[if_neg (fun e=>?_),if_pos hz,h1]
  rcases lI with h|h
  ·exact h3 (by rw[←h1,e,h,m.rr])
  ·omega
 have r3:∀z,C' z→oL z= .cell:=fun z hz=>by
  have hzl:=M3 z hz
  by_cases ed:z<H.size
  ·rcases Au z hz with h|h
   ·exact r2 z _ (m.hC z h) nofun nofun
   ·omega
  ·rw[O7]
   show(if z=b' then _ else _)=_
   rw[if_neg (by omega),if_neg ed,if_pos hz]
 have r4:∀z,dJ oL z→dJ ro z∨H.size≤z:=fun z hz=>by
  by_cases ed:z<H.size
  ·refine .inl fun h=>hz ?_
   rw[O7]
   show(if z=b' then _ else _)=_
   rw[if_neg (fun e=>?_),if_pos ed,h]
   rcases lI with h'|h'
   ·rw[e,h',m.rr]at h;cases h
   ·omega
  ·exact .inr (by omega)
 have r5:∀z,H2.size≤z→oL z= .no:=fun z hz=>by
  have h2:=e2.size
  rw[O7]
  show(if z=b' then _ else _)=_
  rw[if_neg (by omega),if_neg (by omega),if_neg (fun h=>by have:=M3 z h;omega)]
 have aiI:∀v,(H2.wr B.n [ptr B.c,ptr B.fb,v]).size=H2.size:=fun v=>cG _ _ _
 have ZE:∀z q,ro z=q→q≠ .MX→z≠B.rp:=fun z q h1 h2 e=>h2 (by rw[←h1,e,m.rr])
 have IK:∀z q,ro z=q→q≠ .Tc→z≠B.n:=fun z q h1 h2 e=>h2 (by rw[←h1,e,m.rn])
 have aoi:b'≠B.n:=by rcases lI with h|h<;>omega
 refine .inr ⟨h1,rfl,dJ oL,⟨⟨B.n,B.c,B.fb,B.tb,b'⟩,oL,C',l,V,ch,par,kb,bX++[.slice none 0 0],rows,(fun k=>if k< (bX.length:Int)then rb k else none),rfl,⟨⟨_,ai o2,?_⟩,fun g h0 hg=>?_,?_,?_,r3,r2 _ _ m.rn nofun nofun,r1,fun g b h0 hg hb=>?_,fun z hz=>r5 z (by rw[aiI]at hz;exact hz)⟩,f,by rw[aqj,hl];simp[Nw.make],fun z=>Iff.rfl⟩,?_,fun z hz=>(r4 z hz).imp_left fun h=>(hS z).2 h⟩
 ·rw[aqj]
  exact s2.ext (e3 _) (fun b hb=>by injection hb with hb;omega)
 ·rw[aqj,aqn]at hg
  by_cases dI:g<bX.length
  ·obtain⟨sv,q1,q2⟩:=m.row g h0 dI
   refine⟨sv,by rw[aqs (by omega)];exact q1,?_⟩
   rw[if_pos dI]
   exact((q2.ext e1 (fun b hb=>nc b _ (m.nh g b h0 dI hb) nofun)).ext e2 (fun b hb=>ZE b _ (m.nh g b h0 dI hb) nofun)).ext (e3 _) (fun b hb=>IK b _ (m.nh g b h0 dI hb) nofun)
  ·have Nv:g=(bX.length:Int):=by omega
   have hre:rows g=[]:=by
    cases hc:rows g with
    |nil=>rfl
    |cons c r=>
     obtain⟨h5,_,h6,_⟩:=f.rm g c (by rw[hc];simp)
     have:=((m.cells.hm c).2 (by omega)).2
     omega
   refine⟨.slice none 0 0,by rw[Nv,Int.toNat_natCast,aqD (aqm _)];simp,?_⟩
   rw[hre,if_neg dI]
   exact Sl.nil _ _
 ·exact(c1.ext e2 (fun z hz e=>by
   rcases Au z hz with h|h
   ·exact ZE z _ (m.hC z h) nofun e
   ·omega)).ext (e3 _) (fun z hz e=>by
   rcases Au z hz with h|h
   ·exact IK z _ (m.hC z h) nofun e
   ·omega)
 ·have ZF:∀z,(ro z= .G2∨KB ro z)→(¬C z∧z≠B.rp)∧z≠B.n:=fun z hz=>by
   rcases hz with h|h| ⟨x,h⟩<;>exact⟨⟨nc z _ h nofun,ZE z _ h nofun⟩,IK z _ h nofun⟩
  have f1:=((m.fo.ext e1 (fun z hz=>(ZF z hz).1.1)).ext e2 (fun z hz=>(ZF z hz).1.2)).ext (e3 (.slice wa (bX.length+1) wc)) (fun z hz=>(ZF z hz).2)
  exact⟨f1.t,f1.kd,r2 _ _ f1.rf nofun nofun,r2 _ _ f1.rt nofun nofun,fun x b h0 h1 hb=>r2 _ _ (f1.rk x b h0 h1 hb) nofun nofun,f1.HU,f1.no⟩
 ·rw[aqj,aqn]at hg
  by_cases dI:g<bX.length
  ·rw[if_pos dI]at hb
   exact r2 _ _ (m.nh g b h0 dI hb) nofun nofun
  ·rw[if_neg dI]at hb
   cases hb
 ·refine(((e1.mono fun z _ h=>?_).trans (e2.mono fun z _ h=>?_)).trans ((e3 _).mono fun z _ h=>?_):ag S H _)
  ·exact(hS z).2 (fN (m.hC z h) nofun)
  ·exact(hS z).2 (by rw[h];exact fN m.rr nofun)
  ·exact(hS z).2 (by rw[h];exact fN m.rn nofun)
theorem TO(n:Nat):yQ (.iface 154 (ptr n)) (gH n) where
 slt h:=h.slt
 ext h e hd:=h.ext e hd
 cells:=by
  rintro H S w ⟨B,ro,C,l,V,ch,par,kb,bX,rows,rb,rfl,m,f,hl,hS⟩
  exact⟨B.c,C,m.cells⟩
 has:=by
  rintro H S w g ⟨B,ro,C,l,V,ch,par,kb,bX,rows,rb,rfl,m,f,hl,hS⟩
  obtain⟨tv,ho,_⟩:=m.own
  exact⟨_,_,bG,ptr B.c,rfl,fW (off:=0) (by kernel_rfl) (ae ho) rfl,(iM m.cells g).mono fun v H' hp=>hp⟩
 make:=by
  intro H S w h
  exact⟨_,_,kU,ptr n,rfl,bF (by kernel_rfl),(Je h).mono fun v H' hp=>hp⟩
 insert:=by
  intro H S w g x k s h
  exact⟨_,_,iZ,ptr n,rfl,bF (by kernel_rfl),(FC h g x k s).mono fun v H' hp=>hp⟩
 min:=by
  intro H S w g h
  refine⟨_,_,mf,ptr n,rfl,bF (by kernel_rfl),(Cx h g).mono ?_⟩
  rintro v H' (⟨h1,rfl,h2,h3⟩| ⟨x,h1,rfl,h2,h3⟩)
  ·exact .inl ⟨h1,rfl,cF.same h2 h3⟩
  ·exact .inr ⟨x,h1,rfl,cF.same h2 h3⟩
 extract:=by
  intro H S w g h
  exact⟨_,_,iD,ptr n,rfl,bF (by kernel_rfl),(Ee h g).mono fun v H' hp=>hp⟩
 lD:=by
  intro H S w x k s h
  exact⟨_,_,gR,ptr n,rfl,bF (by kernel_rfl),(Cz h x k s).mono fun v H' hp=>hp⟩
 entry:=by
  rintro H S w x ⟨B,ro,C,l,V,ch,par,kb,bX,rows,rb,rfl,m,f,hl,hS⟩
  obtain⟨tv,ho,_⟩:=m.own
  refine⟨_,_,bb,ptr B.c,rfl,fW (off:=0) (by kernel_rfl) (ae ho) rfl,(gU m.cells x).mono ?_⟩
  rintro v H' ⟨c1,f1,hv⟩
  exact⟨⟨B,ro,C,l,V,ch,par,kb,bX,rows,rb,rfl,m.fresh f1,f,hl,hS⟩,f1,hv⟩
theorem AC(n:Nat)(H:Hp):af Tryz.prog qo [ptr n,i64 0] H fun v H'=>ax (v= .tuple [.iface 154 (ptr n),i64 0].toArray∧H'=H):=by
 refine bm qG ?_
 refine v1 aqZ ?_
 exact⟨rfl,rfl⟩
theorem CA(n:Nat)(H:Hp):af Tryz.prog rR [ptr n,i64 0] H fun v H'=>ax (v= .tuple [.iface 158 (ptr n),i64 0].toArray∧H'=H):=by
 refine bm sf ?_
 refine v1 aqZ ?_
 exact⟨rfl,rfl⟩
theorem CB(n:Nat)(H:Hp):af Tryz.prog rS [ptr n,i64 0] H fun v H'=>ax (v= .tuple [.iface 166 (ptr n),i64 0].toArray∧H'=H):=by
 refine bm si ?_
 refine v1 aqZ ?_
 exact⟨rfl,rfl⟩
theorem HE(n:Nat)(H:Hp):af Tryz.prog wU [ptr n,i64 0] H fun v H'=>ax (v= .tuple [.iface 170 (ptr n),i64 0].toArray∧H'=H):=by
 refine bm xo ?_
 refine v1 aqZ ?_
 exact⟨rfl,rfl⟩
theorem HF(n:Nat)(H:Hp):af Tryz.prog wV [ptr n,i64 0] H fun v H'=>ax (v= .tuple [.iface 174 (ptr n),i64 0].toArray∧H'=H):=by
 refine bm xp ?_
 refine v1 aqZ ?_
 exact⟨rfl,rfl⟩
theorem Lc{kd dd cap:Int}(hf:jw kd dd)(hc:0≤cap∧cap≤65536)(H:Hp):af Tryz.prog Jt [OO kd dd,i64 cap] H fun v H'=>ax (∃t vv I Sn,v= .tuple [.iface t vv,i64 0].toArray∧yQ (.iface t vv) I∧I H' Sn (As cap)∧ah H H'∧∀z,Sn z→H.size≤z):=by
 refine bm QD ?_
 refine vs ?_
 have f0:ah H (H.new 23 [i64 kd,i64 dd]):=(ag.refl _ _).new _ _
 have o0:(H.new 23 [i64 kd,i64 dd]).own H.size=some [i64 kd,i64 dd]:=az _ _ _
 have z0:(H.new 23 [i64 kd,i64 dd]).size=H.size+1:=am _ _ _
 generalize H.new 23 [i64 kd,i64 dd]=H0 at*
 obtain rfl|rfl|rfl|rfl|rfl|rfl|rfl|rfl:kd=1∨kd=2∨kd=3∨kd=4∨kd=5∨kd=6∨kd=7∨kd=8:=by have:=hf.1;omega
 ·refine ar.cP (by decide) ?_
  refine v1 (ae o0) ?_
  refine ar.cP (by decide) ?_
  refine v1 (ae o0) ?_
  refine(ph hf (by decide) H0).mono ?_
  rintro _ H1 ⟨rfl,f1⟩
  refine vs ?_
  refine(yT cap _ H1).mono ?_
  rintro _ H2 ⟨f2,⟨hb,rfl⟩| ⟨_,hd,rfl⟩| ⟨_,hd,n,Sn,rfl,h2,O8⟩⟩
  ·exact absurd hc hb
  ·refine absurd ?_ hd
   obtain⟨_,h|h⟩:=hf
   ·first|exact⟨h.2.1,h.2.2⟩|exact absurd h.1 (by decide)
   ·first|exact⟨by decide,by decide⟩|exact absurd rfl h.1
  ·refine vs ?_
   refine(vV n H2).mono ?_
   rintro _ _ ⟨rfl,rfl⟩
   have z1:=f1.size
   refine vs ?_
   exact⟨_,_,_,Sn,rfl,Hm n _,⟨0,h2⟩,(f0.trans f1).trans f2,fun z hz=>by have:=O8 z hz;omega⟩
 ·refine ar.aW (by decide) ?_
  refine vs ?_
  refine ar.cP (by decide) ?_
  refine v1 (ae o0) ?_
  refine(ph hf (by decide) H0).mono ?_
  rintro _ H1 ⟨rfl,f1⟩
  refine vs ?_
  refine(yT cap _ H1).mono ?_
  rintro _ H2 ⟨f2,⟨hb,rfl⟩| ⟨_,hd,rfl⟩| ⟨_,hd,n,Sn,rfl,h2,O8⟩⟩
  ·exact absurd hc hb
  ·refine absurd ?_ hd
   obtain⟨_,h|h⟩:=hf
   ·first|exact⟨h.2.1,h.2.2⟩|exact absurd h.1 (by decide)
   ·first|exact⟨by decide,by decide⟩|exact absurd rfl h.1
  ·refine vs ?_
   refine(vV n H2).mono ?_
   rintro _ _ ⟨rfl,rfl⟩
   have z1:=f1.size
   refine vs ?_
   exact⟨_,_,_,Sn,rfl,Hm n _,⟨0,h2⟩,(f0.trans f1).trans f2,fun z hz=>by have:=O8 z hz;omega⟩
 ·refine ar.aW (by decide) ?_
  refine vs ?_
  refine ar.aW (by decide) ?_
  refine vs ?_
  refine ar.cP (by decide) ?_
  refine vs ?_
  refine(Lb cap H0).mono ?_
  rintro _ H2 ⟨f2,⟨hb,rfl⟩| ⟨_,n,Sn,rfl,h2,O8⟩⟩
  ·exact absurd hc hb
  ·refine vs ?_
   refine(AC n H2).mono ?_
   rintro _ _ ⟨rfl,rfl⟩
   refine vs ?_
   exact⟨_,_,_,Sn,rfl,TO n,h2,f0.trans f2,fun z hz=>by have:=O8 z hz;omega⟩
 ·refine ar.aW (by decide) ?_
  refine vs ?_
  refine ar.aW (by decide) ?_
  refine vs ?_
  refine ar.aW (by decide) ?_
  refine vs ?_
  refine ar.cP (by decide) ?_
  refine vs ?_
  refine(D6 cap H0).mono ?_
  rintro _ H2 ⟨f2,⟨hb,rfl⟩| ⟨_,n,Sn,rfl,h2,O8⟩⟩
  ·exact absurd hc hb
  ·refine vs ?_
   refine(CA n H2).mono ?_
   rintro _ _ ⟨rfl,rfl⟩
   refine vs ?_
   exact⟨_,_,_,Sn,rfl,K7 n,h2,f0.trans f2,fun z hz=>by have:=O8 z hz;omega⟩
 ·refine ar.aW (by decide) ?_
  refine vs ?_
  refine ar.aW (by decide) ?_
  refine vs ?_
  refine ar.aW (by decide) ?_
  refine vs ?_
  refine ar.aW (by decide) ?_
  refine vs ?_
  refine ar.cP (by decide) ?_
  refine vs ?_
  refine(KW cap H0).mono ?_
  rintro _ H2 ⟨f2,⟨hb,rfl⟩| ⟨_,n,Sn,rfl,h2,O8⟩⟩
  ·exact absurd hc hb
  ·refine vs ?_
   refine(yd n H2).mono ?_
   rintro _ _ ⟨rfl,rfl⟩
   refine vs ?_
   exact⟨_,_,_,Sn,rfl,Tx n,h2,f0.trans f2,fun z hz=>by have:=O8 z hz;omega⟩
 ·refine ar.aW (by decide) ?_
  refine vs ?_
  refine ar.aW (by decide) ?_
  refine vs ?_
  refine ar.aW (by decide) ?_
  refine vs ?_
  refine ar.aW (by decide) ?_
  refine vs ?_
  refine ar.aW (by decide) ?_
  refine vs ?_
  refine ar.cP (by decide) ?_
  refine vs ?_
  refine(DS cap H0).mono ?_
  rintro _ H2 ⟨f2,⟨hb,rfl⟩| ⟨_,n,Sn,rfl,h2,O8⟩⟩
  ·exact absurd hc hb
  ·refine vs ?_
   refine(CB n H2).mono ?_
   rintro _ _ ⟨rfl,rfl⟩
   refine vs ?_
   exact⟨_,_,_,Sn,rfl,KP n,h2,f0.trans f2,fun z hz=>by have:=O8 z hz;omega⟩
 ·refine ar.aW (by decide) ?_
  refine vs ?_
  refine ar.aW (by decide) ?_
  refine vs ?_
  refine ar.aW (by decide) ?_
  refine vs ?_
  refine ar.aW (by decide) ?_
  refine vs ?_
  refine ar.aW (by decide) ?_
  refine vs ?_
  refine ar.aW (by decide) ?_
  refine vs ?_
  refine ar.cP (by decide) ?_
  refine vs ?_
  refine(I2 cap H0).mono ?_
  rintro _ H2 ⟨f2,⟨hb,rfl⟩| ⟨_,n,Sn,rfl,h2,O8⟩⟩
  ·exact absurd hc hb
  ·refine vs ?_
   refine(HE n H2).mono ?_
   rintro _ _ ⟨rfl,rfl⟩
   refine vs ?_
   exact⟨_,_,_,Sn,rfl,Rh n,h2,f0.trans f2,fun z hz=>by have:=O8 z hz;omega⟩
 ·refine ar.aW (by decide) ?_
  refine vs ?_
  refine ar.aW (by decide) ?_
  refine vs ?_
  refine ar.aW (by decide) ?_
  refine vs ?_
  refine ar.aW (by decide) ?_
  refine vs ?_
  refine ar.aW (by decide) ?_
  refine vs ?_
  refine ar.aW (by decide) ?_
  refine vs ?_
  refine ar.aW (by decide) ?_
  refine vs ?_
  refine(IW cap H0).mono ?_
  rintro _ H2 ⟨f2,⟨hb,rfl⟩| ⟨_,n,Sn,rfl,h2,O8⟩⟩
  ·exact absurd hc hb
  ·refine vs ?_
   refine(HF n H2).mono ?_
   rintro _ _ ⟨rfl,rfl⟩
   refine vs ?_
   exact⟨_,_,_,Sn,rfl,OU n,⟨0,h2⟩,f0.trans f2,fun z hz=>by have:=O8 z hz;omega⟩
theorem TP{kd dd:Int}(hf:jw kd dd):Ty kd dd:=fun _ hc H=>Lc hf hc H
theorem O9{H:Hp}{v:Value}(h:EG H (true,[.k (.i .i64),.k (.i .i64)]) v):∃x y:Int,v= .agg #[i64 x,i64 y]:=by
 obtain⟨cs,rfl,_,_,rfl,⟨x,rfl,hx⟩,_,_,rfl,⟨y,rfl,hy⟩,rfl⟩:=h
 exact⟨x,y,rfl⟩
end Go.Proofs.YthpjfeolagohkaaGreat
