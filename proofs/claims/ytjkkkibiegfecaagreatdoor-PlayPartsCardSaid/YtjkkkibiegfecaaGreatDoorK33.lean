/- Texts put behind each other. -/
import Derived.Test.YtjkkkibiegfecaaGreatDoorK98
import Derived.Test.YtjkkkibiegfecaaGreatDoorK1
import Derived.Test.YtjkkkibiegfecaaGreatDoorK21
import Derived.Test.YtjkkkibiegfecaaGreatDoorK25
import Derived.Test.YtjkkkibiegfecaaGreatDoorK26
import Derived.Test.YtjkkkibiegfecaaGreatDoorK27
import Derived.Test.YtjkkkibiegfecaaGreatDoorK29
import Derived.Test.YtjkkkibiegfecaaGreatDoorK30
import Derived.Test.YtjkkkibiegfecaaGreatDoorK31
import Derived.Test.YtjkkkibiegfecaaGreatDoorK32
set_option maxRecDepth 100000
set_option maxHeartbeats 8000000
set_option linter.unusedVariables false
set_option linter.unusedSimpArgs false
namespace Go.Proofs.YtjkkkibiegfecaaGreatDoor
open Go Go.Vc
section
variable {H H' : Hp} {ro ro' : Nat → Rl} {B : ZU} {C T : Nat → Prop} {w w' : Nw} {l l' : List Value} {V V' : Int → Value} {ch dK : Int → List Int} {ay bG : Int → Int} {kb tK : Int → Option Nat} {eQ : List Value} {rows : Int → List Int} {rb : Int → Option Nat} {lt : Int → Int → Bool} {W W0 L : List Int}
theorem Ff{n:Nat}{H:Hp}{S:Nat→Prop}{w:Nw}(h:eM n H S w)(g x k s:Int):ag Tryz.prog jA [ptr n,i64 g,i64 x,tE k s] H fun v H'=>ap (
  (¬w.mw g x∧v= .bool false∧bq (eM n) S H H' w)∨(w.mw g x∧v= .bool true∧bq (eM n) S H H' (w.put x (g,k,s)))):=by
 obtain⟨B,ro,C,l,V,ch,ay,kb,eQ,rows,rb,rfl,m,f,hl,hS⟩:=h
 have hC:∀z,C z→S z:=fun z h=>(hS z).2 (ed (m.hC z h) nofun)
 refine aU sD ?_
 refine vs ?_
 have f0:ai H (H.new 190 [i64 k,u64 s]):=(ah.refl _ _).new _ _
 have b0:(H.new 190 [i64 k,u64 s]).own H.size=some [i64 k,u64 s]:=aA _ _ _
 have m0:=m.fresh f0
 generalize H.new 190 [i64 k,u64 s]=H0 at*
 have ff:ah S H H0:=f0.mono fun _ _ h=>h.elim
 obtain⟨tv,KN,_⟩:=m0.own
 refine v2 (ae KN) (ae b0) ?_
 refine(lY m0.cells g x k s).mono ?_
 rintro _ H1 (⟨bU,rfl,c1,e1⟩| ⟨fX,rfl,c1,e1⟩)
 ·refine vs ?_
  exact .inl ⟨bU,rfl,bq.same ⟨B,ro,C,l,V,ch,ay,kb,eQ,rows,rb,rfl,m0.aC c1 e1 rfl,f,hl,hS⟩ (ff.trans (e1.mono (by grind)))⟩
 obtain⟨hh,hx,ci⟩:=id fX
 have m1:=m0.aC c1 e1 (by simp[Nw.put])
 have hg:=hh.1
 have eC:=m.M0 hl hh
 have jh:=fun y=>dR hx (g,k,s) y
 have im:aF w x≤0:=Int.not_lt.1 fun h=>ci (bB.1 h)
 have el:∀a b,0<aF w a→0<aF w b→a≠x→b≠x→aP (w.put x (g,k,s)) a b=aP w a b:=fun a b ha hb uv lq=>dt hx _ ha hb uv lq
 obtain⟨f1,_⟩:=f.put (hm':=aF (w.put x (g,k,s))) (lt':=aP (w.put x (g,k,s))) (g:=g) rfl im (by omega) (by omega) (by grind) (by grind) el
 refine vs ?_
 have f2:ai H1 (H1.new 3 [i64 x]):=(ah.refl _ _).new _ _
 have m2:=m1.fresh f2
 have s2:Sl (H1.new 3 [i64 x]) 1 (.slice (some ⟨H1.size,0,none⟩) 1 1) [x].length ([x].map i64) (some H1.size):=Sl.dM (size:=1) (n:=1) (xs:=[i64 x]) rfl rfl
 have z2:(H1.new 3 [i64 x]).size=H1.size+1:=ak _ _ _
 have Un:Fa (H1.new 3 [i64 x]) ro (H1.new 3 [i64 x]).size (.slice (some ⟨H1.size,0,none⟩) 1 1) [x]:=Sl.rdB s2 fun b hb=>by
  injection hb with hb
  subst hb
  refine⟨by omega,fun hc=>?_⟩
  have:=m1.hz H1.size (aox _)
  rcases hc with (hc| ⟨x,hc⟩)|hc<;>grind
 generalize H1.new 3 [i64 x]=H2 at*
 refine(Cm m2 Un (fun _ _ h=>h) (W0:=[]) f1 (List.pairwise_singleton _ _) (by grind) eC).mono ?_
 rintro _ H3 ⟨PY,l3,V3,KV,nF,WE,agD,yK,rb3,m3,f3,SS,_,Wz,e3⟩
 refine vs ?_
 have eS:ah S H H2:=(ff.trans (e1.mono fun z _ h=>hC z h)).trans (f2.mono fun _ _ h=>h.elim)
 have z1:=eS.size
 refine .inr ⟨fX,rfl,dH PY,⟨B,PY,C,l3,V3,KV,nF,WE,agD,yK,rb3,rfl,m3,f3,by rw[SS,hl];rfl,fun z=>Iff.rfl⟩,eS.trans (e3.mono (by grind)),fun z hz=>?_⟩
 grind
theorem iA.Vy{hm:Int→Int}(f:iA hm lt ch ay rows W)(x:Int):Fu ch (ch x):=by
 unfold Fu
 rw[List.pairwise_iff_getElem]
 intro i j hi hj NT
 rw[f.dg x i _ (by grind),f.dg x j _ (by grind)]
 exact NT
theorem iA.Vz{hm:Int→Int}(f:iA hm lt ch ay rows []){x g:Int}(hx:x∈rows g):iA hm lt ch ay (az rows g ((rows g).filter fun y=> !decide (x=y))) [x]:=by
 have hn:=(f.rr g).nodup
 have hp:(rows g++[]).Perm (((rows g).filter fun y=> !decide (x=y))++[x]):=by
  rw[aoO]
  refine(List.perm_ext_iff_of_nodup hn ?_).2 fun y=>?_
  ·grind
  ·grind
 have f2:=((f.loose g).perm hp).row (g:=g) (by unfold az;grind) ((f.rr g).sub List.filter_sublist) (fun c hc=>(f.rm g c (by grind)).1)
 rwa[cO]at f2
theorem Fg{H:Hp}{bx:Nat}{x:Int}(hb:H.own bx=some [i64 x])(y:Int):ag Tryz.prog jB [i64 y,ptr bx] H fun v H'=>ap (v= .bool (decide (x=y))∧H'=H):=by
 refine wM mixed (an:=sG) (by conv=>lhs;cbv) (nt:=7) (by kernel_rfl) (by simp) ?_
 refine v1 (ae hb) ?_
 exact⟨rfl,rfl⟩
theorem yL(m:uC H ro B C w l V ch ay kb eQ rows rb)(bf:∀a b,aP w a b=true→lt a b=true)(f:iA (aF w) lt ch ay rows []){x g:Int}(ut:x∈rows g)(wq:0≤g∧g<eQ.length)(ab5:∀a b,0<aF w a→0<aF w b→a≠x→b≠x→lt a b=true→aP (w.put x (0,0,0)) a b=true):
  ag Tryz.prog uZ [ptr B.n,i64 g,i64 x] H fun v H'=>ap (v= .bool true∧∃ro' l' V' dK bG tK I7 ni Yh,uC H' ro' B C (w.put x (0,0,0)) l' V' dK bG tK I7 ni Yh∧iA (aF (w.put x (0,0,0))) (aP (w.put x (0,0,0))) dK bG ni []∧I7.length=eQ.length∧
   (∀z,dH ro' z→dH ro z∨H.size≤z)∧ah (dH ro) H H'):=by
 obtain⟨Vq,KU,PS,_⟩:=f.rm g x ut
 have im:=rJ (w:=w) x (by omega)
 have sT:=m.cells.CI
 have bu:=cu (f.rr g).nodup fun c hc=>rJ (w:=w) c (by have:=f.rm g c hc;omega)
 refine Fz vy ⟨rfl,?_⟩
 refine v1 lO.eq_1 ?_
 have f0:ai H (H.new 3 [i64 x]):=(ah.refl _ _).new _ _
 have b0:(H.new 3 [i64 x]).own H.size=some [i64 x]:=aA _ _ _
 have z0:(H.new 3 [i64 x]).size=H.size+1:=ak _ _ _
 have m0:=m.fresh f0
 generalize H.new 3 [i64 x]=H0 at*
 obtain⟨lb,tc,sv,o1,q1,q2,uF,_,s2⟩:=m0.Hu wq
 obtain⟨va,vc,rfl⟩:=Sl.shape s2
 refine fV.intro (fun H'=>H'.own B.n=some [ptr B.c,ptr B.fb,.slice (some ⟨B.rp,0,none⟩) eQ.length tc]) o1 ?_
 refine vs ?_
 refine dV.intro (.slice (some ⟨B.rp,0,none⟩) eQ.length tc) (fun H' hI=>by refine v1 (ae hI) ?_;trivial) ?_
 refine v1 (ae o1) ?_
 refine And.intro o1 ?_
 refine vs ?_
 refine⟨by omega,?_⟩
 refine v4 (ae q1) aoi aok q2 ?_
 refine And.intro o1 ?_
 refine vs ?_
 have VA:∀b,rb g=some b→ro b= .row g:=fun b hb=>m.uD g b wq.1 wq.2 hb
 refine(Dv s2 jB [ptr H.size] (fun y=>decide (x=y)) (by kernel_rfl) (fun H' e' y=>Fg (e'.own b0 (fun hh=>by have:=m.slt _ (ed (VA _ hh) nofun);omega)) y) (by omega)).mono ?_
 rintro _ H1 ⟨s3,e1⟩
 obtain⟨va',vc',rfl⟩:=Sl.shape s3
 have ab6:∀z q,ro z=q→q≠ .row g→¬rb g=some z:=by grind
 have o2:=e1.own o1 (ab6 _ _ m.rn nofun)
 have q3:=e1.own q1 (ab6 _ _ m.rr nofun)
 refine And.intro o2 ?_
 refine vs ?_
 refine⟨by omega,?_⟩
 refine v3 q3 aoi aok ?_
 refine⟨by omega,?_⟩
 obtain⟨m2,e2,JK⟩:=m0.Tw wq e1 q3 s3 (by grind)
 have hnr:B.n≠B.rp:=fun e=>by cases m;grind
 refine vs ?_
 refine And.intro o2 ?_
 have ab7:¬dH ro H.size:=fun h=>by have:=m.slt _ h;omega
 have b2:=e2.own b0 ab7
 have z2:=e2.size
 have f2:=f.Vz ut
 generalize H1.wr B.rp (lb.set g.toNat (Value.slice va' ((rows g).filter fun y=> !decide (x=y)).length vc'))=H2 at*
 obtain⟨oT,agE⟩:∃oT:Nat→Rl,oT=fun z=>if rb g=some z then Rl.row g else ro z:=⟨_,rfl⟩
 rw[←agE]at m2 JK
 have Yi:∀z,dH oT z→dH ro z:=fun z hz=>(JK z hz).elim id fun h=>ed (VA z h) nofun
 obtain⟨QY,o3,_⟩:=m2.own
 refine v2 (ae o3) (ae b2) ?_
 have rV:(ch x).length≤w.cs.length:=cu (f.pr.nd x) fun c hc=>m.fo.HT x c hc
 refine(DK m2.fo m2.hz im KU (by omega)).mono ?_
 rintro sv H3 ⟨PY,l3,V3,WE,fp3,fo3,r3,ZE,e3,s4,jg⟩
 have z3:=e3.size
 have m3:=m2.Tv fo3 (m2.cells.ext e3 (fun z hz hk=>by
  have:=m2.hC z hz
  rcases hk with hk| ⟨_,hk⟩<;>grind)) r3 ZE (e3.mono fun z _ h=>.inl h)
 have f3:=f2.split.perm (show(x::(ch x++[])).Perm (ch x++[x]) by
  rw[aoO]
  exact aoY (l₁:=[x]) (l₂:=ch x))
 have Ns:x∉ch x:=fun h=>by have:=f.less h;omega
 have Un:Fa H3 PY H3.size sv (ch x):=Sl.rdB s4 fun b hb=>by
  rw[hb]at s4
  refine⟨Sl.lt s4,fun hc=>?_⟩
  have:=(jg b hb).2
  rcases hc with (hc| ⟨x,hc⟩)|hc<;>grind
 have agF:0≤g∧g< ((eQ.set g.toNat (Value.slice va' ((rows g).filter fun y=> !decide (x=y)).length vc')).length:Int):=by rw[aom];exact wq
 refine(Cm m3 Un bf f3 ((f.Vy x).frame (by grind [az])) (fun c hc=>by
  have:=(f.pr.dn x c hc).2.2.1
  omega) agF).mono ?_
 rintro _ H4 ⟨Yj,l4,V4,Tm,Hs,kb4,Yk,Tx,rb4,m4,f4,Vr,w4,hr4,e4⟩
 have alZ:∀z,dH PY z→dH ro z∨H.size+1≤z:=fun z hz=>by
  by_cases UM:z<H2.size
  ·refine .inl (Yi z fun h=>hz ?_)
   exact r3.none UM h
  omega
 have Ud:¬dH PY H.size:=by grind
 have agH:¬KB oT H.size:=fun h=>ab7 (Yi _ (by rcases h with h| ⟨_,h⟩<;>exact ed h nofun))
 have b4:=e4.own (e3.own b2 agH) Ud
 obtain⟨ZG,o5,_⟩:=m4.own
 refine v2 (ae o5) (ae b4) ?_
 refine(ce m4.cells x).mono ?_
 have ci:cI w.cs x:=bB.1 (by omega)
 rintro _ H5 (⟨bU,_,_⟩| ⟨_,rfl,c5,e5⟩)
 ·exact absurd ci bU
 have m5:=m4.aC c5 e5 (by simp[Nw.put])
 refine vs ?_
 have jh:=fun y=>dR (w:=w) im (0,0,0) y
 have f5:=f4.drop (hm':=aF (w.put x (0,0,0))) (lt':=aP (w.put x (0,0,0))) (by
  rw[w4 x (by simp)]
  unfold az
  grind) rfl (by grind) (by grind) ab5
 have z4:=e4.size
 have agI:∀z,dH Yj z→dH ro z∨H.size+1≤z:=by grind
 refine⟨rfl,Yj,l4,V4,Tm,Hs,kb4,Yk,Tx,rb4,m5,f5,by grind,fun z hz=>?_,?_⟩
 ·grind
 ·refine⟨by have:=e5.size;omega,fun z hz hn=>?_⟩
  rw[e5.aO z (by omega) (fun h=>by
   rcases agI z (ed (m4.hC z h) nofun)with h|h
   ·grind
   ·omega),e4.aO z (by omega) (by grind),e3.aO z (by omega) (fun h=>hn (Yi z (by rcases h with h| ⟨_,h⟩<;>exact ed h nofun))),e2.aO z (by omega) (fun h=>hn h),f0.aO z hz (fun h=>h)]
theorem DP{n:Nat}{H:Hp}{S:Nat→Prop}{w:Nw}(h:eM n H S w)(g:Int):ag Tryz.prog iQ [ptr n,i64 g] H fun v H'=>ap (
  (w.len g=0∧v= .tuple [i64 0,.bool false].toArray∧bq (eM n) S H H' w)∨(∃x,w.first g x∧v= .tuple [i64 x,.bool true].toArray∧bq (eM n) S H H' (w.put x (0,0,0)))):=by
 refine aU qT ?_
 refine vs ?_
 refine(Cn h g).mono ?_
 rintro _ H1 (⟨h0,rfl,h1,e1⟩| ⟨x,hx,rfl,h1,e1⟩)
 ·refine vs ?_
  exact .inl ⟨h0,rfl,bq.same h1 e1⟩
 refine vs ?_
 obtain⟨B,ro,C,l,V,ch,ay,kb,eQ,rows,rb,rfl,m,f,hl,hS⟩:=h1
 obtain⟨hg,Vq,rS⟩:=bD.1 hx
 have ut:x∈rows g:=by
  obtain⟨r,FI,JK⟩:=f.root hg Vq
  rcases JK with h|h
  ·grind
  ·by_cases e:r=x
   ·grind
   ·have h2:=rS r (f.rm g r FI).1 e
    rw[(aw w).yN h2]at h
    cases h
 have im:=rJ (w:=w) x (by omega)
 have wq:=m.M0 hl ((m.cells.hm x).2 (by omega)).1
 rw[Vq]at wq
 refine(yL m (fun _ _ h=>h) f ut wq (fun a b ha hb uv lq h=>by grind [dt])).mono ?_
 rintro _ H2 ⟨rfl,oT,l2,V2,mf,gX,CK,Yl,JV,rb2,m2,f2,uG,JK,e2⟩
 refine vs ?_
 have z1:=e1.size
 refine .inr ⟨x,hx,rfl,dH oT,⟨B,oT,C,l2,V2,mf,gX,CK,Yl,JV,rb2,rfl,m2,f2,by rw[uG,hl];rfl,fun z=>Iff.rfl⟩,e1.trans (e2.mono (by grind)),fun z hz=>?_⟩
 grind
end
end Go.Proofs.YtjkkkibiegfecaaGreatDoor

namespace Go.Proofs.YtjkkkibiegfecaaGreatDoor
open Go Go.Vc
section
variable {H H' : Hp} {ro ro' : Nat → Rl} {B : ZU} {C T : Nat → Prop} {w w' : Nw} {l l' : List Value} {V V' : Int → Value} {ch dK : Int → List Int} {ay bG : Int → Int} {kb tK : Int → Option Nat} {eQ : List Value} {rows : Int → List Int} {rb : Int → Option Nat} {lt : Int → Int → Bool} {W W0 L : List Int}
theorem uC.ab9(m:uC H ro B C w l V ch ay kb eQ rows rb){g:Int}(hg:0≤g∧g<eQ.length){H1:Hp}(e:ah (fun z=>rb g=some z) H H1){sv:Value}(Q0:eQ[g.toNat]? =some sv){L':List Int}(s:Sl H1 1 sv L'.length (L'.map i64) (rb g)):
  uC H1 ro B C w l V ch ay kb eQ (az rows g L') rb:=by
 obtain⟨tv,h1,h2⟩:=m.own
 have hs:=e.size
 have n0:∀z q,ro z=q→q≠ .row g→¬rb g=some z:=fun z q h1 h2 h3=>h2 (by cases m;grind)
 refine⟨⟨tv,e.own h1 (n0 _ _ m.rn nofun),h2.ext e (fun b hb=>by cases m;grind)⟩,fun k h0 h1=>?_,m.cells.ext e (fun z hz=>n0 z _ (m.hC z hz) nofun),m.fo.ext e (fun z hz=>by rcases hz with h|h| ⟨x,h⟩<;>grind),m.hC,m.rn,m.rr,m.uD,fun z hz=>m.hz z (by omega)⟩
 by_cases hk:k=g
 ·subst hk
  refine⟨sv,Q0,?_⟩
  unfold az
  grind
 ·obtain⟨sv',q1,q2⟩:=m.row k h0 h1
  refine⟨sv',q1,?_⟩
  unfold az
  rw[if_neg hk]
  exact q2.ext e (fun b hb=>n0 b _ (m.uD k b h0 h1 hb) (by grind))
theorem yM(m:uC H ro B C w l V ch ay kb eQ rows rb){x g:Int}(f:LC (aF w) (aP w) ch ay rows [] x)(Vq:aF w x=g)(PS:0<g)(wq:0≤g∧g<eQ.length)(fid:FuncId)(rF:List Value)(q:Int→Bool)(J:Hp→Prop)(E:(Int→List Int)→Prop)(hJ:J H)
  (yQ:∀H' FY,J H'→ah (fun z=>dH ro z∧z≠B.n) H' FY→J FY)(Ep:eZ Tryz.prog fid=true)
  (hq:∀H' p,J H'→CQ H' B.c C w→0<aF w p→ag Tryz.prog fid (i64 p::rF) H' fun v FY=>ap (v= .bool (q p)∧CQ FY B.c C w∧ah C H' FY))(hE:E ch)
  (hEs:∀ (ch:Int→List Int) (ay:Int→Int) (rows:Int→List Int) p,LC (aF w) (aP w) ch ay rows [] x→x∈ch p→q p=true→E ch→E (FL ch x p)):
  ag Tryz.prog uY [ptr B.n,i64 g,i64 x,.func (.func fid) #[] rF.toArray] H fun v H'=>ap (∃ro' l' V' dK bG tK ni,uC H' ro' B C w l' V' dK bG tK eQ ni rb∧LC (aF w) (aP w) dK bG ni [] x∧E dK∧(bG x= -1∨q (bG x)=false)∧
   (∀z,dH ro' z→dH ro z)∧ah (dH ro) H H'):=by
 have ls:=aw w
 have im:=rJ (w:=w) x (by omega)
 have sT:=m.cells.CI
 refine aU vx ?_
 refine vs ?_
 refine bX.intro (fun mm env H'=>∃ (ro':Nat→Rl) (l':List Value) (V':Int→Value) (dK:Int→List Int) (bG:Int→Int) (tK:Int→Option Nat) (ni:Int→List Int),mm=w.cs.length - (dK x).length∧uC H' ro' B C w l' V' dK bG tK eQ ni rb∧LC (aF w) (aP w) dK bG ni [] x∧E dK∧J H'∧
  (∀z,dH ro' z→dH ro z)∧ah (dH ro) H H'∧env=[(0,ptr B.n),(1,i64 g),(2,i64 x),(3,.func (.func fid) #[] rF.toArray)]) _ ⟨ro,l,V,ch,ay,kb,rows,rfl,m,f,hE,hJ,fun _ h=>h,ah.refl _ _,rfl⟩ ?_
 clear m f hE hJ
 rintro mm env H1 ⟨Ya,l1,V1,PV,yf,ZT,pJ,rfl,m1,f1,hE1,hJ1,FI,e1,rfl⟩
 obtain⟨Dt,o1,_⟩:=m1.own
 refine v1 (ae o1) ?_
 refine(p9 m1.fo.t im).mono ?_
 rintro _ H' ⟨⟨hp,rfl⟩| ⟨hp,rfl⟩,e⟩
 ·obtain rfl:=e.symm
  refine vs ?_
  exact⟨Ya,l1,V1,PV,yf,ZT,pJ,m1,f1,hE1,.inl hp,FI,e1⟩
 obtain rfl:=e.symm
 obtain⟨p,hpd⟩:∃p,p=yf x:=⟨_,rfl⟩
 rw[←hpd]at hp ⊢
 have KU:=f1.w.pr.up x p hpd.symm hp
 obtain⟨_,_,hpg,T7,_⟩:=f1.w.pr.dn p x KU
 have jI:=f1.w.less KU
 have hp0:=rJ (w:=w) p (by omega)
 have bu:∀z,(PV z).length≤w.cs.length:=fun z=>cu (f1.w.pr.nd z) fun c hc=>m1.fo.HT z c hc
 refine vs ?_
 refine⟨Ep,?_⟩
 refine ag.mono (by simpa using hq H1 p hJ1 m1.cells (by omega)) ?_
 rintro _ H2 ⟨rfl,c2,e2⟩
 have m2:=m1.aC c2 e2 rfl
 have e2':ah (dH ro) H1 H2:=e2.mono fun z _ h=>FI z (ed (m1.hC z h) nofun)
 have hJ2:=yQ _ _ hJ1 (e2.mono fun z _ h=>⟨FI z (ed (m1.hC z h) nofun),fun e=>by cases m1;grind⟩)
 have oY:=e1.trans e2'
 cases hqp:q p
 ·refine vs ?_
  exact⟨Ya,l1,V1,PV,yf,ZT,pJ,m2,f1,hE1,by grind,FI,oY⟩
 obtain⟨QY,o2,_⟩:=m2.own
 refine v1 (ae o2) ?_
 refine(p9 m2.fo.t hp0).mono ?_
 have Ym:∀h,x∉pJ h:=fun h hh=>hp (by rw[hpd];exact(f1.w.rm h x hh).2.1)
 have R2:yf p≠ -1→0≤yf p∧yf p<w.cs.length:=fun h=>by
  have:=(f1.w.pr.dn _ _ (f1.w.pr.up p _ rfl h)).2.2
  exact rJ (w:=w) _ (by omega)
 have fin:∀ (H3:Hp) (yK:Int→List Int),uC H3 Ya B C w l1 V1 PV yf ZT eQ yK rb→(∀h,yK h=(pJ h).map (gF x p))→J H3→ah (dH ro) H H3→∀ (K:Value→Hp→Prop),(∀H4,(∃m',m'<w.cs.length - (PV x).length∧∃ (ro':Nat→Rl) (l':List Value) (V':Int→Value) (dK:Int→List Int) (bG:Int→Int) (tK:Int→Option Nat) (ni:Int→List Int),m'=w.cs.length - (dK x).length∧uC H4 ro' B C w l' V' dK bG tK eQ ni rb∧LC (aF w) (aP w) dK bG ni [] x∧E dK∧J H4∧
  (∀z,dH ro' z→dH ro z)∧ah (dH ro) H H4)→K (.bool true) H4)→ag Tryz.prog mK [ptr B.fb,i64 x] H3 K:=fun H3 yK m3 PM hJ3 e3 K hK=>by
  refine(E8 m3.fo m3.hz f1.w im hp0 KU R2 sT).mono ?_
  rintro _ H4 ⟨rfl,Yj,l4,V4,kb4,fo4,r4,hz4,e4,Yn⟩
  have m4:=m3.Tv fo4 (m3.cells.ext e4 (fun z hz hk=>by
   have:=m3.hC z hz
   rcases hk with hk| ⟨_,hk⟩<;>grind)) r4 hz4 (e4.mono fun z _ h=>.inl h)
  have e4':ah (dH ro) H3 H4:=e4.mono fun z _ h=>FI z (by rcases h with h| ⟨_,h⟩<;>exact ed h nofun)
  have f4:=f1.up ls KU
  have Yo:(fun h=>(pJ h).map (gF x p))=yK:=by funext h;exact(PM h).symm
  rw[Yo,List.map_nil]at f4
  have Vr:(FL PV x p x).length=(PV p).length:=by unfold FL;rw[qv,aoJ]
  have:=bu p
  have al2:=e4.size
  refine hK H4 ⟨w.cs.length - (FL PV x p x).length,by omega,Yj,l4,V4,_,_,kb4,yK,rfl,m4,f4,by grind,yQ _ _ hJ3 (e4.mono fun z _ h=>⟨FI z (by rcases h with h| ⟨_,h⟩<;>exact ed h nofun),fun e=>by rw[e]at h;rcases h with h| ⟨_,h⟩<;>(rw[m3.rn]at h;cases h)⟩),fun z hz=>?_,e3.trans e4'⟩
  exact FI z fun h=>hz (Yn z h)
 rintro _ H' ⟨⟨Qg,rfl⟩| ⟨Qg,rfl⟩,e⟩
 ·obtain rfl:=e.symm
  have hpr:p∈pJ g:=by
   rcases f1.w.Ax p (by omega) Qg with h|h
   ·grind
   ·cases h
  obtain⟨lb,tc,sv,o3,q1,q2,uF,Q0,s3⟩:=m2.Hu wq
  obtain⟨k0,hk0,ek0⟩:=apu.1 hpr
  obtain⟨b,lr,rc,rfl,WD,qb,qk0,al3,hrl,_⟩:=Sl.Vv s3 (i:=k0) (x:=p) (by grind)
  have hlr:=cu (f1.w.rr g).nodup fun c hc=>rJ (w:=w) c (by have:=f1.w.rm g c hc;omega)
  refine v1 (ae o3) ?_
  refine⟨by omega,?_⟩
  refine v5 (ae q1) aoi aok q2 (ae o3) ?_
  refine⟨by omega,?_⟩
  refine v4 (ae q1) aoi aok q2 ?_
  have jk:=(f1.w.rr g).nodup
  have aca:(pJ g)[k0]? =some p:=by grind
  refine⟨i64 (k0:Int),(fS s3.rd p (by omega)).mono ?_,?_⟩
  ·rintro _ H' ⟨⟨j,rfl,hj⟩,e⟩
   obtain⟨hj0,hj⟩:=hj.resolve_left (fun h=>h.2 hpr)
   have Zq:=(aoj.1 hj).1
   have:=(List.getElem?_inj Zq jk).1 (hj.trans aca.symm)
   grind
  refine vs ?_
  refine⟨by omega,?_⟩
  refine v4 qb aoi aok Int.toNat_natCast ?_
  refine⟨by omega,?_⟩
  rw[WD]at s3
  have s4:=s3.sf qb k0 (i64 x)
  have e3:ah (fun z=>rb g=some z) H2 (H2.wr b (lr.set k0 (i64 x))):=(ah.refl (fun z=>rb g=some z) _).wr (fun _=>WD) _
  have To:(pJ g).map (gF p x)=(pJ g).map (gF x p):=ao9 (by grind [gF])
  rw[←aoN,K5 jk (Ym g) aca,To]at s4
  have hlm:((pJ g).map (gF x p)).length=(pJ g).length:=aoJ ..
  have m3:=m2.ab9 wq e3 Q0 (L':=(pJ g).map (gF x p)) (by grind)
  have ZC:ah (dH ro) H2 (H2.wr b (lr.set k0 (i64 x))):=e3.mono fun z _ h=>FI z (ed (m2.uD g z wq.1 wq.2 h) nofun)
  obtain⟨Xy,o4,_⟩:=m3.own
  refine v1 (ae o4) ?_
  refine fin _ _ m3 (fun h=>?_) (yQ _ _ hJ2 (e3.mono fun z _ h=>⟨FI z (ed (m2.uD g z wq.1 wq.2 h) nofun),by grind⟩)) (oY.trans ZC) _ fun H4 hh=>?_
  ·unfold az
   split
   ·grind
   ·rename_i e
    exact(AH (Ym h) (fun hh=>e (by rw[← (f1.w.rm h p hh).1,hpg,Vq]))).symm
  obtain⟨m',hm',ro',l',V',dK,bG,tK,ni,h1,h2,h3,h4,h5,h6,h7⟩:=hh
  refine vs ?_
  grind
 ·obtain rfl:=e.symm
  have agK:∀h,p∉pJ h:=fun h hh=>Qg (f1.w.rm h p hh).2.1
  refine v1 (ae o2) ?_
  refine fin H2 pJ m2 (fun h=>(AH (Ym h) (agK h)).symm) hJ2 oY _ fun H4 hh=>?_
  obtain⟨m',hm',ro',l',V',dK,bG,tK,ni,h1,h2,h3,h4,h5,h6,h7⟩:=hh
  refine vs ?_
  grind
end
end Go.Proofs.YtjkkkibiegfecaaGreatDoor

namespace Go.Proofs.YtjkkkibiegfecaaGreatDoor
open Go Go.Vc
theorem yj{H:Hp}{C:Nat→Prop}{w:Nw}{b3 b4 n c:Nat}{x:Int}{rest:List Value}(h3:H.own b3=some [ptr n])(h4:H.own b4=some [i64 x])(hn:H.own n=some (ptr c::rest))(cq:CQ H c C w){p:Int}(hx:0<aF w x)(hp:0<aF w p):
  ag Tryz.prog gh [i64 p,ptr b3,ptr b4] H fun v H'=>ap (v= .bool (aP w x p)∧CQ H' c C w∧ah C H H'):=by
 refine wM mixed (an:=oo) (by conv=>lhs;cbv) (nt:=12) (by kernel_rfl) (by simp) ?_
 refine v3 (ae h3) (ae h4) (ae hn) ?_
 refine(cA cq x p).mono ?_
 rintro _ H1 ⟨rfl,c1,e1⟩
 rw[gw (w:=w) (a:=x) (b:=p) hx hp]
 refine vs ?_
 exact⟨rfl,c1,e1⟩
theorem Co{n:Nat}{H:Hp}{S:Nat→Prop}{w:Nw}(h:eM n H S w)(x k s:Int):ag Tryz.prog hG [ptr n,i64 x,tE k s] H fun v H'=>ap (
  (¬w.du x k s∧v= .bool false∧bq (eM n) S H H' w)∨(w.du x k s∧v= .bool true∧∃y,w.cs[x.toNat]? =some y∧bq (eM n) S H H' (w.put x (y.1,k,s)))):=by
 obtain⟨B,ro,C,l,V,ch,ay,kb,eQ,rows,rb,rfl,m,f,hl,hS⟩:=h
 have hC:∀z,C z→S z:=fun z h=>(hS z).2 (ed (m.hC z h) nofun)
 have hSR:∀z,S z→z<H.size:=fun z hz=>m.slt z ((hS z).1 hz)
 refine aU pV ?_
 refine vs ?_
 have f0:ai H (((H.new 148 [ptr B.n]).new 3 [i64 x]).new 190 [i64 k,u64 s]):=(((ah.refl _ _).new _ _).new _ _).new _ _
 have b3:(((H.new 148 [ptr B.n]).new 3 [i64 x]).new 190 [i64 k,u64 s]).own H.size=some [ptr B.n]:=by
  grind [bm,ak,aA]
 have b4:(((H.new 148 [ptr B.n]).new 3 [i64 x]).new 190 [i64 k,u64 s]).own (H.size+1)=some [i64 x]:=by
  rw[bm (by simp only[ak];omega)]
  exact aR (by simp only[ak])
 have b5:(((H.new 148 [ptr B.n]).new 3 [i64 x]).new 190 [i64 k,u64 s]).own (H.size+1+1)=some [i64 k,u64 s]:=aR (by simp only[ak])
 have m0:=m.fresh f0
 generalize ((H.new 148 [ptr B.n]).new 3 [i64 x]).new 190 [i64 k,u64 s]=H0 at*
 have ff:ah S H H0:=f0.mono fun _ _ h=>h.elim
 obtain⟨tv,KN,_⟩:=m0.own
 refine v4 (ae b3) (ae b4) (ae KN) (ae b5) ?_
 refine(ie m0.cells x k s).mono ?_
 rintro _ H1 (⟨bU,rfl,c1,e1⟩| ⟨ci,rfl,y,hy,jI,c1,e1⟩)
 ·refine vs ?_
  exact .inl ⟨bU,rfl,bq.same ⟨B,ro,C,l,V,ch,ay,kb,eQ,rows,rb,rfl,m0.ext e1 (fun _ _ h=>h),f,hl,hS⟩ (ff.trans (e1.mono fun _ _ h=>h.elim))⟩
 have rS:(w.put x (y.1,k,s)).cs.length=w.cs.length:=by simp[Nw.put]
 have m1:=m0.aC c1 e1 rS
 have B1:w.du x k s:=⟨ci,by grind⟩
 have hx:0≤x∧x<w.cs.length:=⟨ci.1,by grind⟩
 have Xp:aF w x=y.1:=kX ci.1 hy
 have gE:=bB.2 ci
 have hw:aF (w.put x (y.1,k,s))=aF w:=by
  funext z
  rw[dR hx]
  split
  ·grind
  ·rfl
 have E3:cI (w.put x (y.1,k,s)).cs x:=bB.1 (by simp_all)
 have el:∀a b,0<aF w a→0<aF w b→a≠x→b≠x→aP (w.put x (y.1,k,s)) a b=aP w a b:=fun a b ha hb uv lq=>dt hx _ ha hb uv lq
 have ex:∀b,0<aF w b→b≠x→aP w x b=true→aP (w.put x (y.1,k,s)) x b=true:=fun b hb lq h=>BT ci hy jI hb lq h
 have ls:=aw w
 have Vt:=aw (w.put x (y.1,k,s))
 have nC:∀z,H.size≤z→¬C z:=by grind
 have b31:=e1.own b3 (by grind)
 have b41:=e1.own b4 (nC _ (by omega))
 obtain⟨Dt,o1,_⟩:=m1.own
 have wq:=m.M0 hl ((m.cells.hm x).2 gE).1
 have hhl:(w.put x (y.1,k,s)).hs.length=w.hs.length:=by simp[Nw.put]
 refine v3 (ae b31) (ae b41) (ae o1) ?_
 refine(bI m1.cells x).mono ?_
 rintro _ H2 (⟨bU,_,_⟩| ⟨_,rfl,c2,e2⟩)
 ·exact absurd E3 bU
 have m2:=m1.aC c2 e2 rfl
 have oY:ah S H H2:=(ff.trans (e1.mono fun z _ h=>hC z h)).trans (e2.mono fun z _ h=>hC z h)
 have b32:=e2.own b31 (by grind)
 have b42:=e2.own b41 (nC _ (by omega))
 rw[hw]
 refine v2 (ae b32) (ae b42) ?_
 have f2:LC (aF (w.put x (y.1,k,s))) (aP (w.put x (y.1,k,s))) ch ay rows [] x:=by
  rw[hw]
  exact LC.start ls f el
 have hE0:∀d∈ch x,aP (w.put x (y.1,k,s)) x d=true:=fun d hd=>by
  obtain⟨_,_,_,h4,h5⟩:=f.pr.dn x d hd
  exact ex d h4 (fun e=>by have:=f.less hd;grind) h5
 have hsR:∀z,dH ro z→z<H.size:=m.slt
 refine(yM m2 f2 (g:=aF w x) (by rw[hw]) gE wq gh [ptr H.size,ptr (H.size+1)] (fun p=>aP (w.put x (y.1,k,s)) x p) (fun H'=>H'.own H.size=some [ptr B.n]∧H'.own (H.size+1)=some [i64 x]∧∃tv,H'.own B.n=some [ptr B.c,ptr B.fb,tv])
  (fun ch=>∀d∈ch x,aP (w.put x (y.1,k,s)) x d=true) ?_ (fun H' FY hJ e=>?_) (by kernel_rfl) (fun H' p hJ cq hp=>?_) hE0 (fun ch ay rows p cx KU hq _=>cx.low Vt KU hq)).mono ?_
 ·cases m2;grind
 ·obtain⟨j1,j2,QY,o2⟩:=hJ
  exact⟨e.own j1 (by grind),e.own j2 (by grind),QY,e.own o2 (fun h=>h.2 rfl)⟩
 ·obtain⟨j1,j2,QY,o2⟩:=hJ
  exact yj j1 j2 o2 cq (by simp_all) hp
 rintro _ H3 ⟨PY,l3,V3,KV,nF,WE,yK,m3,f3,hE3,hq3,Wz,e3⟩
 refine vs ?_
 have f4:=f3.done hE3 (fun hp=>by
  rcases hq3 with h|h
  ·omega
  ·have hxc:=f3.w.pr.up x _ rfl hp
   have agM:=f3.w.less hxc
   cases Vt;grind)
 have z2:=oY.size
 refine .inr ⟨B1,rfl,y,hy,dH PY,⟨B,PY,C,l3,V3,KV,nF,WE,eQ,yK,rb,rfl,m3,f4,by omega,fun z=>Iff.rfl⟩,oY.trans (e3.mono (by grind)),by grind⟩
theorem K9(cap:Int)(H:Hp):ag Tryz.prog Ge [i64 cap] H fun v H'=>ap (
  ai H H'∧((¬ (0≤cap∧cap≤65536)∧v= .tuple [.pointer none,i64 31].toArray)∨
   ((0≤cap∧cap≤65536)∧∃n S,v= .tuple [ptr n,i64 0].toArray∧eM n H' S (yd cap)∧∀x,S x→H.size≤x))):=by
 refine aU Gs ?_
 refine vs ?_
 refine(lZ cap H).mono ?_
 rintro _ H1 ⟨f1,⟨hb,rfl⟩| ⟨hb,c,C,rfl,c1,hC⟩⟩
 ·refine vs ?_
  exact⟨f1,.inl ⟨hb,rfl⟩⟩
 refine vs ?_
 refine(Ht H1 hb).mono ?_
 rintro _ H2 ⟨fb,tb,l,rfl,t2,f2,hfb,Sx⟩
 have c2:=c1.fresh f2
 refine vs ?_
 have GF:=c1.slt
 have z1:=f1.size
 have z2:=f2.size
 have hts:=t2.SQ
 have bN:=t2.ne
 have f3:ai H2 ((H2.new 140 [.slice none 0 0]).new 216 [ptr c,ptr fb,.slice (some ⟨H2.size,0,none⟩) 1 1]):=((ah.refl _ _).new _ _).new _ _
 have e2:ah (fun _=>False) (H2.new 140 [.slice none 0 0]) ((H2.new 140 [.slice none 0 0]).new 216 [ptr c,ptr fb,.slice (some ⟨H2.size,0,none⟩) 1 1]):=(ah.refl _ _).new _ _
 have z3:((H2.new 140 [.slice none 0 0]).new 216 [ptr c,ptr fb,.slice (some ⟨H2.size,0,none⟩) 1 1]).size=H2.size+1+1:=by simp only[ak]
 obtain⟨ro,Uo⟩:∃ro:Nat→Rl,ro=fun z=>if z=H2.size+1 then Rl.SP else if z=H2.size then Rl.MK else if z=fb then Rl.GY else if z=tb then Rl.table else @ite _ (C z) (Classical.propDecidable _) Rl.cell Rl.no:=⟨_,rfl⟩
 have r1:ro (H2.size+1)= .SP:=by rw[Uo];simp
 have r2:ro H2.size= .MK:=by rw[Uo];simp
 have r3:ro fb= .GY:=by rw[Uo];show(if fb=H2.size+1 then _ else _)=_;grind
 have r4:ro tb= .table:=by rw[Uo];show(if tb=H2.size+1 then _ else _)=_;grind
 have r5:∀z,C z→ro z= .cell:=by grind
 have r6:∀z,ro z≠ .no→H.size≤z∧z<H2.size+1+1:=fun z hz=>by
  constructor<;>grind
 have rV:(yd cap).cs.length=cap.toNat:=by simp[yd]
 refine⟨(f1.trans f2).trans f3,.inr ⟨hb,H2.size+1,dH ro,rfl,⟨⟨H2.size+1,c,fb,tb,H2.size⟩,ro,C,l,fun _=>.slice none 0 0,fun _=>[],fun _=> -1,fun _=>none,[.slice none 0 0],fun _=>[],fun _=>none,rfl,⟨⟨.slice (some ⟨H2.size,0,none⟩) 1 1,aR (by simp only[ak]),?_⟩,fun g h0 h1=>?_,c2.fresh f3,?_,r5,r1,r2,by grind,fun z hz=>?_⟩,
  ⟨⟨rfl,by grind,by omega,by grind⟩,by grind,fun h=>List.Pairwise.nil,by grind,apJ,by grind,fun c hc=>absurd hc (oP cap c)⟩,rfl,fun z=>Iff.rfl⟩,fun z hz=>(r6 z hz).1⟩⟩
 ·exact(Sl.dM (size:=1) (n:=1) (xs:=[.slice none 0 0]) rfl rfl).ext e2 (fun _ _ h=>h)
 ·have h1:g<1:=h1
  have hg:g=0:=by omega
  subst hg
  exact⟨.slice none 0 0,rfl,Sl.nil _ _⟩
 ·rw[rV]
  exact⟨t2.ext f3 (fun h=>h) (fun h=>h),fun x h0 h1=>Sl.nil _ _,r3,r4,by grind,by grind,fun _ _=>rfl⟩
 grind
theorem Cp(H:Hp)(p:Int):ag Tryz.prog hY [i64 p] H fun v H'=>ap (v= .bool true∧H'=H):=by
 refine wM mixed (an:=pW) (by conv=>lhs;cbv) (nt:=3) (by kernel_rfl) (by simp) ?_
 refine vs ?_
 exact⟨rfl,rfl⟩
theorem Fh{n:Nat}{H:Hp}{S:Nat→Prop}{w:Nw}(h:eM n H S w)(x:Int):ag Tryz.prog jz [ptr n,i64 x] H fun v H'=>ap (
  (¬cI w.cs x∧v= .bool false∧bq (eM n) S H H' w)∨(cI w.cs x∧v= .bool true∧bq (eM n) S H H' (w.put x (0,0,0)))):=by
 obtain⟨B,ro,C,l,V,ch,ay,kb,eQ,rows,rb,rfl,m,f,hl,hS⟩:=id h
 have hC:∀z,C z→S z:=fun z h=>(hS z).2 (ed (m.hC z h) nofun)
 obtain⟨tv,o0,_⟩:=m.own
 refine aU sC ?_
 refine v1 (ae o0) ?_
 refine(bI m.cells x).mono ?_
 rintro _ H1 (⟨bU,rfl,rfl⟩| ⟨ci,rfl,c1,e1⟩)
 ·refine vs ?_
  exact .inl ⟨bU,rfl,bq.same h (ah.refl _ _)⟩
 have m1:=m.aC c1 e1 rfl
 have ls:=aw w
 have gE:=bB.2 ci
 obtain⟨im,nO,_⟩:=aG gE
 have wq:=m.M0 hl ((m.cells.hm x).2 gE).1
 have Ul:ah S H H1:=e1.mono fun z _ h=>hC z h
 refine vs ?_
 refine(yM m1 (LC.start ls f (fun _ _ _ _ _ _=>rfl)) rfl gE wq hY [] (fun _=>true) (fun _=>True) (fun _=>True) trivial (fun _ _ _ _=>trivial) (by kernel_rfl) (fun H' p _ cq hp=>(Cp H' p).mono fun v FY hh=>?_) trivial (fun _ _ _ _ _ _ _ _=>trivial)).mono ?_
 ·obtain⟨rfl,rfl⟩:=hh
  exact⟨rfl,cq,ah.refl _ _⟩
 rintro _ H3 ⟨PY,l3,V3,KV,nF,WE,yK,m3,f3,_,hq3,Wz,e3⟩
 refine vs ?_
 have hp3:nF x= -1:=hq3.resolve_right (by simp)
 refine(yL m3 (fun a b h=>R1 h) f3.w ((f3.w.Ax x gE hp3).resolve_right (by simp)) wq (fun a b ha hb uv lq h=>by rw[dt ⟨im,nO⟩ _ ha hb uv lq];exact FM h uv lq)).mono ?_
 rintro _ H4 ⟨rfl,Yj,l4,V4,Tm,Hs,kb4,Yk,Tx,rb4,m4,f4,Vr,hr4,e4⟩
 refine vs ?_
 have z8:ah S H H3:=Ul.trans (e3.mono fun z _ h=>(hS z).2 h)
 have z3:=z8.size
 exact .inr ⟨ci,rfl,dH Yj,⟨B,Yj,C,l4,V4,Tm,Hs,kb4,Yk,Tx,rb4,rfl,m4,f4,by rw[Vr,hl];rfl,fun z=>Iff.rfl⟩,z8.trans (e4.mono fun z _ h=>(hS z).2 (Wz z h)),fun z hz=>by
  rcases hr4 z hz with h|h
  ·exact .inl ((hS z).2 (Wz z h))
  ·exact .inr (by omega)⟩
theorem I8{n:Nat}{H:Hp}{S:Nat→Prop}{w:Nw}(h:eM n H S w)(a b:Int):ag Tryz.prog lH [ptr n,i64 a,i64 b] H fun v H'=>ap (
  (¬ (w.has a∧w.has b∧a≠b)∧v= .bool false∧bq (eM n) S H H' w)∨((w.has a∧w.has b∧a≠b)∧v= .bool true∧bq (eM n) S H H' (w.join a b))):=by
 obtain⟨B,ro,C,l,V,ch,ay,kb,eQ,rows,rb,rfl,m,f,hl,hS⟩:=id h
 have hC:∀z,C z→S z:=fun z h=>(hS z).2 (ed (m.hC z h) nofun)
 obtain⟨tv,o0,_⟩:=m.own
 refine aU vw ?_
 refine v1 (ae o0) ?_
 refine(jN m.cells a b).mono ?_
 rintro _ H1 (⟨bU,rfl,rfl⟩| ⟨fX,rfl,c1,e1⟩)
 ·refine vs ?_
  exact .inl ⟨bU,rfl,bq.same h (ah.refl _ _)⟩
 have m1:=m.aC c1 e1 (by simp[Nw.join])
 obtain⟨ha,hb,eJ⟩:=id fX
 have har:=m.M0 hl ha
 have hbr:=m.M0 hl hb
 have hj:=oJ (w:=w) (a:=a) (b:=b) (by have:=hb.1;omega)
 have f1:=f.yP (hm':=aF (w.join a b)) rfl eJ (by have:=ha.1;omega) (by have:=hb.1;omega) hj
 rw[←jb w a b]at f1
 obtain⟨lb,tc,sv,o1,q1,q2,uF,q3,s2⟩:=m1.Hu hbr
 have Ul:ah S H H1:=e1.mono fun z _ h=>hC z h
 refine v1 (ae o1) ?_
 refine⟨⟨by omega,by omega⟩,?_⟩
 refine v4 (ae q1) aoi aok q2 ?_
 have Un:Fa H1 ro H1.size sv (rows b):=Sl.rdB s2 (fun z hz=>by
  have h5:=m1.uD b z hbr.1 hbr.2 hz
  refine⟨m1.slt z (ed h5 nofun),fun hc=>?_⟩
  rcases hc with (hc| ⟨x,hc⟩)|hc<;>(rw[h5]at hc;cases hc))
 have h12:az rows b [] a=rows a:=by unfold az;rw[if_neg eJ]
 refine(yJ m1 h12 Un (fun _ _ h=>h) f1 (f.rr b) (fun c hc=>by rw[hj,(f.rm b c hc).1,if_pos rfl]) har).mono ?_
 rintro _ H2 ⟨oT,l2,V2,mf,gX,CK,Yl,out,rb2,m2,f2,uG,_,JK,e2⟩
 refine vs ?_
 have acb:0≤b∧b<Yl.length:=by rw[uG];exact hbr
 obtain⟨lb2,tc2,sv2,o2,q4,q5,agA,q6,_⟩:=m2.Hu acb
 refine v1 (ae o2) ?_
 refine⟨⟨by omega,by omega⟩,?_⟩
 refine v3 q4 aoi aok ?_
 refine⟨by omega,?_⟩
 obtain⟨m3,e3,Wz⟩:=m2.Tw acb (ah.refl _ _) q4 (L':=[]) (Sl.nil _ _) nofun
 refine vs ?_
 have z1:=Ul.size
 have Uo:∀z,dH oT z→S z∨H.size≤z:=fun z hz=>by
  rcases JK z hz with h|h
  ·exact .inl ((hS z).2 h)
  ·exact .inr (by omega)
 refine .inr ⟨fX,rfl,_,⟨B,_,C,l2,V2,mf,gX,CK,_,_,_,rfl,m3,?_,?_,fun z=>Iff.rfl⟩,?_,fun z hz=>?_⟩
 ·have e:az (az rows a out) b []=az (az rows b []) a out:=by
   funext z
   unfold az
   grind
  rw[e]
  exact f2
 ·rw[aom,uG,hl]
  simp[Nw.join]
 ·have oY:ah S H H2:=Ul.trans (e2.mono fun z _ h=>(hS z).2 h)
  exact⟨aoK oY.size e3.size,fun z hz hn=>by
   rw[e3.aO z (aoz hz oY.size) (fun h=>by
    rcases Uo z h with h|h
    ·exact hn h
    ·omega),oY.aO z hz hn]⟩
 ·rcases Wz z hz with h|h
  ·exact Uo z h
  ·cases h
theorem I9{n:Nat}{H:Hp}{S:Nat→Prop}{w:Nw}(h:eM n H S w):ag Tryz.prog lG [ptr n] H fun v H'=>ap (
  (w.hs.length=65537∧v=i64 0∧bq (eM n) S H H' w)∨(w.hs.length≠65537∧v=i64 w.hs.length∧bq (eM n) S H H' w.make)):=by
 obtain⟨B,ro,C,l,V,ch,ay,kb,eQ,rows,rb,rfl,m,f,hl,hS⟩:=id h
 obtain⟨tv,ho,EW⟩:=m.own
 refine aU vu ?_
 refine v1 (ae ho) ?_
 refine(jM m.cells).mono ?_
 rintro _ H1 (⟨h1,rfl,rfl⟩| ⟨h1,rfl,C',c1,e1,Q2⟩)
 ·refine vs ?_
  exact .inl ⟨h1,rfl,bq.same h (ah.refl _ _)⟩
 have gI:=m.cells.pos
 have hhs:=m.cells.EW
 have slt:=m.slt
 have XI:=c1.slt
 have z1:=e1.size
 have nc:∀z q,ro z=q→q≠ .cell→¬C z:=fun z q h1 h2 hc=>h2 (by rw[←h1,m.hC z hc])
 have o1:=e1.own ho (nc _ _ m.rn nofun)
 refine vs ?_
 refine ar.dl (by grind) ?_
 refine v1 (ae o1) ?_
 have s1:=EW.ext e1 (fun b hb=>by cases m;grind)
 have fl:ai H1 (H1.new 140 [.slice none 0 0]):=(ah.refl _ _).new _ _
 have zl:(H1.new 140 [.slice none 0 0]).size=H1.size+1:=ak _ _ _
 refine Sl.append (s1.ext fl (fun _ _ h=>h)) (Sl.dM (size:=1) (n:=1) (xs:=[.slice none 0 0]) rfl rfl).rd rfl (fun v hv=>by rw[aoB.1 hv];rfl) (by omega) ?_
 intro w' H2 di s2 e2' jg
 have e2:ah (fun z=>z=B.rp) H1 H2:=⟨aoK fl.size e2'.size,fun z hz hn=>by
  rw[e2'.aO z (by omega) (by grind),fl.aO z hz (fun h=>h)]⟩
 obtain⟨b',rfl,AD⟩:∃b',di=some b'∧(b'=B.rp∨H1.size≤b'∧b'<H2.size):=by
  grind
 have hnr:B.n≠B.rp:=fun e=>by cases m;grind
 have o2:=e2.own o1 hnr
 obtain⟨wa,wc,JE⟩:=Sl.shape s2
 subst JE
 refine v1 o2 ?_
 have hln:B.n<H.size:=slt _ (ed m.rn nofun)
 have hlr:B.rp<H.size:=slt _ (ed m.rr nofun)
 have e3:∀v,ah (fun z=>z=B.n) H2 (H2.wr B.n [ptr B.c,ptr B.fb,v]):=fun v=>(ah.refl (fun z=>z=B.n) _).wr (fun _=>rfl) _
 obtain⟨oT,Uo⟩:∃oT:Nat→Rl,oT=fun z=>if z=b' then Rl.MK else if z<H.size then ro z else @ite _ (C' z) (Classical.propDecidable _) Rl.cell Rl.no:=⟨_,rfl⟩
 have r1:oT b'= .MK:=by rw[Uo];show(if b'=b' then _ else _)=_;grind
 have r2:∀z q,ro z=q→q≠ .no→q≠ .MK→oT z=q:=fun z q h1 h2 h3=>by
  have hz:=slt z (ed h1 h2)
  cases m;grind
 have r3:∀z,C' z→oT z= .cell:=by grind
 have r4:∀z,dH oT z→dH ro z∨H.size≤z:=fun z hz=>by
  by_cases jH:z<H.size
  ·refine .inl fun h=>hz ?_
   cases m;grind
  omega
 have r5:∀z,H2.size≤z→oT z= .no:=fun z hz=>by
  cases e2;grind
 have ama:∀v,(H2.wr B.n [ptr B.c,ptr B.fb,v]).size=H2.size:=fun v=>eR _ _ _
 have agN:∀z q,ro z=q→q≠ .MK→z≠B.rp:=fun z q h1 h2 e=>h2 (by rw[←h1,e,m.rr])
 have Ve:∀z q,ro z=q→q≠ .SP→z≠B.n:=fun z q h1 h2 e=>h2 (by rw[←h1,e,m.rn])
 have amb:b'≠B.n:=by omega
 refine .inr ⟨h1,rfl,dH oT,⟨⟨B.n,B.c,B.fb,B.tb,b'⟩,oT,C',l,V,ch,ay,kb,eQ++[.slice none 0 0],rows,(fun k=>if k< (eQ.length:Int)then rb k else none),rfl,⟨⟨_,af o2,?_⟩,fun g h0 hg=>?_,?_,?_,r3,by grind,r1,fun g b h0 hg hb=>?_,by grind⟩,f,by rw[aos,hl];simp[Nw.make],fun z=>Iff.rfl⟩,?_,by grind⟩
 ·grind [Sl.ext]
 ·rw[aos,aoV]at hg
  by_cases eC:g<eQ.length
  ·obtain⟨sv,q1,q2⟩:=m.row g h0 eC
   refine⟨sv,by grind,?_⟩
   rw[if_pos eC]
   exact((q2.ext e1 (fun b hb=>nc b _ (m.uD g b h0 eC hb) nofun)).ext e2 (fun b hb=>agN b _ (m.uD g b h0 eC hb) nofun)).ext (e3 _) (fun b hb=>Ve b _ (m.uD g b h0 eC hb) nofun)
  ·have Wa:g=(eQ.length:Int):=by omega
   have hre:rows g=[]:=by
    cases hc:rows g with
    |nil=>rfl
    |cons c r=>
     obtain⟨h5,_,h6,_⟩:=f.rm g c (by grind)
     cases m;grind [CQ.hm]
   refine⟨.slice none 0 0,by grind,?_⟩
   grind [Sl.nil]
 ·exact(c1.ext e2 (by grind)).ext (e3 _) (by grind)
 ·have hft:∀z,(ro z= .GY∨KB ro z)→(¬C z∧z≠B.rp)∧z≠B.n:=fun z hz=>by
   rcases hz with h|h| ⟨x,h⟩<;>grind
  have f1:=((m.fo.ext e1 (by grind)).ext e2 (by grind)).ext (e3 (.slice wa (eQ.length+1) wc)) (by grind)
  exact⟨f1.t,f1.kd,r2 _ _ f1.rf nofun nofun,r2 _ _ f1.rt nofun nofun,fun x b h0 h1 hb=>r2 _ _ (f1.rk x b h0 h1 hb) nofun nofun,f1.HT,f1.no⟩
 ·cases m;grind
 ·refine(((e1.mono fun z _ h=>?_).trans (e2.mono fun z _ h=>?_)).trans ((e3 _).mono fun z _ h=>?_):ah S H _)
  ·exact(hS z).2 (ed (m.hC z h) nofun)
  ·exact(hS z).2 (by rw[h];exact ed m.rr nofun)
  ·exact(hS z).2 (by rw[h];exact ed m.rn nofun)
theorem Ty(n:Nat):tN (.iface 148 (ptr n)) (eM n) where
 slt h:=h.slt
 ext h e hd:=h.ext e hd
 cells:=by
  rintro H S w ⟨B,ro,C,l,V,ch,ay,kb,eQ,rows,rb,rfl,m,f,hl,hS⟩
  exact⟨B.c,C,m.cells⟩
 has:=by
  rintro H S w g ⟨B,ro,C,l,V,ch,ay,kb,eQ,rows,rb,rfl,m,f,hl,hS⟩
  obtain⟨tv,ho,_⟩:=m.own
  exact⟨_,_,bJ,ptr B.c,rfl,cD (off:=0) (by kernel_rfl) (ae ho) rfl,(iZ m.cells g).mono fun v H' hp=>hp⟩
 make:=by
  intro H S w h
  exact⟨_,_,lG,ptr n,rfl,aS (by kernel_rfl),(I9 h).mono fun v H' hp=>hp⟩
 insert:=by
  intro H S w g x k s h
  exact⟨_,_,jA,ptr n,rfl,aS (by kernel_rfl),(Ff h g x k s).mono fun v H' hp=>hp⟩
 min:=by
  intro H S w g h
  refine⟨_,_,mI,ptr n,rfl,aS (by kernel_rfl),(Cn h g).mono ?_⟩
  rintro v H' (⟨h1,rfl,h2,h3⟩| ⟨x,h1,rfl,h2,h3⟩)
  ·exact .inl ⟨h1,rfl,bq.same h2 h3⟩
  ·exact .inr ⟨x,h1,rfl,bq.same h2 h3⟩
 extract:=by
  intro H S w g h
  exact⟨_,_,iQ,ptr n,rfl,aS (by kernel_rfl),(DP h g).mono fun v H' hp=>hp⟩
 mc:=by
  intro H S w x k s h
  exact⟨_,_,hG,ptr n,rfl,aS (by kernel_rfl),(Co h x k s).mono fun v H' hp=>hp⟩
 entry:=by
  rintro H S w x ⟨B,ro,C,l,V,ch,ay,kb,eQ,rows,rb,rfl,m,f,hl,hS⟩
  obtain⟨tv,ho,_⟩:=m.own
  refine⟨_,_,bj,ptr B.c,rfl,cD (off:=0) (by kernel_rfl) (ae ho) rfl,(ic m.cells x).mono ?_⟩
  rintro v H' ⟨c1,f1,hv⟩
  exact⟨⟨B,ro,C,l,V,ch,ay,kb,eQ,rows,rb,rfl,m.fresh f1,f,hl,hS⟩,f1,hv⟩
 len:=by
  rintro H S w g ⟨B,ro,C,l,V,ch,ay,kb,eQ,rows,rb,rfl,m,f,hl,hS⟩
  obtain⟨tv,ho,_⟩:=m.own
  exact⟨_,_,bK,ptr B.c,rfl,cD (off:=0) (by kernel_rfl) (ae ho) rfl,(fe m.cells g).mono fun v H' hp=>hp⟩
 home:=by
  rintro H S w x h
  obtain⟨B,ro,C,l,V,ch,ay,kb,eQ,rows,rb,rfl,m,f,hl,hS⟩:=id h
  obtain⟨tv,ho,_⟩:=m.own
  refine⟨_,_,bC,ptr B.c,rfl,cD (off:=0) (by kernel_rfl) (ae ho) rfl,(bI m.cells x).mono ?_⟩
  rintro v H' (⟨h1,rfl,rfl⟩| ⟨h1,rfl,c1,e1⟩)
  ·exact .inl ⟨h1,rfl,bq.same h (ah.refl _ _)⟩
  ·exact .inr ⟨h1,rfl,bq.same ⟨B,ro,C,l,V,ch,ay,kb,eQ,rows,rb,rfl,m.aC c1 e1 rfl,f,hl,hS⟩ (e1.mono fun z _ hz=>(hS z).2 (ed (m.hC z hz) nofun))⟩
 delete:=by
  intro H S w x h
  exact⟨_,_,jz,ptr n,rfl,aS (by kernel_rfl),(Fh h x).mono fun v H' hp=>hp⟩
 yP:=by
  intro H S w a b h
  exact⟨_,_,lH,ptr n,rfl,aS (by kernel_rfl),(I8 h a b).mono fun v H' hp=>hp⟩
theorem Ak(n:Nat)(H:Hp):ag Tryz.prog qC [ptr n,i64 0] H fun v H'=>ap (v= .tuple [.iface 148 (ptr n),i64 0].toArray∧H'=H):=by
 refine aU qP ?_
 refine v1 aoE ?_
 exact⟨rfl,rfl⟩
theorem Cq(n:Nat)(H:Hp):ag Tryz.prog si [ptr n,i64 0] H fun v H'=>ap (v= .tuple [.iface 152 (ptr n),i64 0].toArray∧H'=H):=by
 refine aU sw ?_
 refine v1 aoE ?_
 exact⟨rfl,rfl⟩
theorem Cr(n:Nat)(H:Hp):ag Tryz.prog sj [ptr n,i64 0] H fun v H'=>ap (v= .tuple [.iface 160 (ptr n),i64 0].toArray∧H'=H):=by
 refine aU sz ?_
 refine v1 aoE ?_
 exact⟨rfl,rfl⟩
theorem Hv(n:Nat)(H:Hp):ag Tryz.prog wY [ptr n,i64 0] H fun v H'=>ap (v= .tuple [.iface 164 (ptr n),i64 0].toArray∧H'=H):=by
 refine aU xp ?_
 refine v1 aoE ?_
 exact⟨rfl,rfl⟩
theorem Hw(n:Nat)(H:Hp):ag Tryz.prog wZ [ptr n,i64 0] H fun v H'=>ap (v= .tuple [.iface 168 (ptr n),i64 0].toArray∧H'=H):=by
 refine aU xq ?_
 refine v1 aoE ?_
 exact⟨rfl,rfl⟩
theorem La{kd dd cap:Int}(hf:pH kd dd)(hc:0≤cap∧cap≤65536)(H:Hp):ag Tryz.prog Jy [IQ kd dd,i64 cap] H fun v H'=>ap (∃t vv I Sn,v= .tuple [.iface t vv,i64 0].toArray∧tN (.iface t vv) I∧I H' Sn (yd cap)∧ai H H'∧∀z,Sn z→H.size≤z):=by
 refine aU QA ?_
 refine vs ?_
 have f0:ai H (H.new 23 [i64 kd,i64 dd]):=(ah.refl _ _).new _ _
 have o0:(H.new 23 [i64 kd,i64 dd]).own H.size=some [i64 kd,i64 dd]:=aA _ _ _
 have z0:(H.new 23 [i64 kd,i64 dd]).size=H.size+1:=ak _ _ _
 generalize H.new 23 [i64 kd,i64 dd]=H0 at*
 obtain rfl|rfl|rfl|rfl|rfl|rfl|rfl|rfl:kd=1∨kd=2∨kd=3∨kd=4∨kd=5∨kd=6∨kd=7∨kd=8:=by have:=hf.1;omega
 ·refine ar.dl (by decide) ?_
  refine v1 (ae o0) ?_
  refine ar.dl (by decide) ?_
  refine v1 (ae o0) ?_
  refine(pI hf (by decide) H0).mono ?_
  rintro _ H1 ⟨rfl,f1⟩
  refine vs ?_
  refine(yF cap _ H1).mono ?_
  rintro _ H2 ⟨f2,⟨hb,rfl⟩| ⟨_,hd,rfl⟩| ⟨_,hd,n,Sn,rfl,h2,Yp⟩⟩
  ·exact absurd hc hb
  ·refine absurd ?_ hd
   obtain⟨_,h|h⟩:=hf
   ·omega
   ·first|exact⟨by decide,by decide⟩|exact absurd rfl h.1
  ·refine vs ?_
   refine(wh n H2).mono ?_
   rintro _ _ ⟨rfl,rfl⟩
   have z1:=f1.size
   refine vs ?_
   exact⟨_,_,_,Sn,rfl,Hi n _,⟨0,h2⟩,(f0.trans f1).trans f2,by grind⟩
 ·refine ar.be (by decide) ?_
  refine vs ?_
  refine ar.dl (by decide) ?_
  refine v1 (ae o0) ?_
  refine(pI hf (by decide) H0).mono ?_
  rintro _ H1 ⟨rfl,f1⟩
  refine vs ?_
  refine(yF cap _ H1).mono ?_
  rintro _ H2 ⟨f2,⟨hb,rfl⟩| ⟨_,hd,rfl⟩| ⟨_,hd,n,Sn,rfl,h2,Yp⟩⟩
  ·exact absurd hc hb
  ·refine absurd ?_ hd
   obtain⟨_,h|h⟩:=hf
   ·first|exact⟨h.2.1,h.2.2⟩|exact absurd h.1 (by decide)
   omega
  ·refine vs ?_
   refine(wh n H2).mono ?_
   rintro _ _ ⟨rfl,rfl⟩
   have z1:=f1.size
   refine vs ?_
   exact⟨_,_,_,Sn,rfl,Hi n _,⟨0,h2⟩,(f0.trans f1).trans f2,by grind⟩
 ·refine ar.be (by decide) ?_
  refine vs ?_
  refine ar.be (by decide) ?_
  refine vs ?_
  refine ar.dl (by decide) ?_
  refine vs ?_
  refine(K9 cap H0).mono ?_
  rintro _ H2 ⟨f2,⟨hb,rfl⟩| ⟨_,n,Sn,rfl,h2,Yp⟩⟩
  ·exact absurd hc hb
  ·refine vs ?_
   refine(Ak n H2).mono ?_
   rintro _ _ ⟨rfl,rfl⟩
   refine vs ?_
   exact⟨_,_,_,Sn,rfl,Ty n,h2,f0.trans f2,by grind⟩
 ·refine ar.be (by decide) ?_
  refine vs ?_
  refine ar.be (by decide) ?_
  refine vs ?_
  refine ar.be (by decide) ?_
  refine vs ?_
  refine ar.dl (by decide) ?_
  refine vs ?_
  refine(DJ cap H0).mono ?_
  rintro _ H2 ⟨f2,⟨hb,rfl⟩| ⟨_,n,Sn,rfl,h2,Yp⟩⟩
  ·exact absurd hc hb
  ·refine vs ?_
   refine(Cq n H2).mono ?_
   rintro _ _ ⟨rfl,rfl⟩
   refine vs ?_
   exact⟨_,_,_,Sn,rfl,K4 n,h2,f0.trans f2,by grind⟩
 ·refine ar.be (by decide) ?_
  refine vs ?_
  refine ar.be (by decide) ?_
  refine vs ?_
  refine ar.be (by decide) ?_
  refine vs ?_
  refine ar.be (by decide) ?_
  refine vs ?_
  refine ar.dl (by decide) ?_
  refine vs ?_
  refine(KY cap H0).mono ?_
  rintro _ H2 ⟨f2,⟨hb,rfl⟩| ⟨_,n,Sn,rfl,h2,Yp⟩⟩
  ·exact absurd hc hb
  ·refine vs ?_
   refine(yg n H2).mono ?_
   rintro _ _ ⟨rfl,rfl⟩
   refine vs ?_
   exact⟨_,_,_,Sn,rfl,Tk n,h2,f0.trans f2,by grind⟩
 ·refine ar.be (by decide) ?_
  refine vs ?_
  refine ar.be (by decide) ?_
  refine vs ?_
  refine ar.be (by decide) ?_
  refine vs ?_
  refine ar.be (by decide) ?_
  refine vs ?_
  refine ar.be (by decide) ?_
  refine vs ?_
  refine ar.dl (by decide) ?_
  refine vs ?_
  refine(Dy cap H0).mono ?_
  rintro _ H2 ⟨f2,⟨hb,rfl⟩| ⟨_,n,Sn,rfl,h2,Yp⟩⟩
  ·exact absurd hc hb
  ·refine vs ?_
   refine(Cr n H2).mono ?_
   rintro _ _ ⟨rfl,rfl⟩
   refine vs ?_
   exact⟨_,_,_,Sn,rfl,KP n,h2,f0.trans f2,by grind⟩
 ·refine ar.be (by decide) ?_
  refine vs ?_
  refine ar.be (by decide) ?_
  refine vs ?_
  refine ar.be (by decide) ?_
  refine vs ?_
  refine ar.be (by decide) ?_
  refine vs ?_
  refine ar.be (by decide) ?_
  refine vs ?_
  refine ar.be (by decide) ?_
  refine vs ?_
  refine ar.dl (by decide) ?_
  refine vs ?_
  refine(I2 cap H0).mono ?_
  rintro _ H2 ⟨f2,⟨hb,rfl⟩| ⟨_,n,Sn,rfl,h2,Yp⟩⟩
  ·exact absurd hc hb
  ·refine vs ?_
   refine(Hv n H2).mono ?_
   rintro _ _ ⟨rfl,rfl⟩
   refine vs ?_
   exact⟨_,_,_,Sn,rfl,Rk n,h2,f0.trans f2,by grind⟩
 ·refine ar.be (by decide) ?_
  refine vs ?_
  refine ar.be (by decide) ?_
  refine vs ?_
  refine ar.be (by decide) ?_
  refine vs ?_
  refine ar.be (by decide) ?_
  refine vs ?_
  refine ar.be (by decide) ?_
  refine vs ?_
  refine ar.be (by decide) ?_
  refine vs ?_
  refine ar.be (by decide) ?_
  refine vs ?_
  refine(IV cap H0).mono ?_
  rintro _ H2 ⟨f2,⟨hb,rfl⟩| ⟨_,n,Sn,rfl,h2,Yp⟩⟩
  ·exact absurd hc hb
  ·refine vs ?_
   refine(Hw n H2).mono ?_
   rintro _ _ ⟨rfl,rfl⟩
   refine vs ?_
   exact⟨_,_,_,Sn,rfl,OZ n,⟨0,h2⟩,f0.trans f2,by grind⟩
theorem Tz{kd dd:Int}(hf:pH kd dd):WA kd dd:=fun _ hc H=>La hf hc H
def PZ(cap:Int)(mo:Nat):Ar:=⟨List.replicate cap.toNat (0,false),[],0,0,mo⟩
theorem Lb{kd dd cap:Int}{mo:Nat}(hf:pH kd dd)(Ic:WA kd dd)(hc:0≤cap∧cap≤65536)(hm:0<mo∧mo≤4294967295)(H:Hp):ag Tryz.prog Jx [IQ kd dd,i64 cap,.int .u32 (mo:Int)] H fun v H'=>ap (∃s S,v= .tuple [ptr s,i64 0].toArray∧nD H' s S (yd cap) (PZ cap mo) 0∧ai H H'∧∀z,S z→H.size≤z):=by
 refine aU Jz ?_
 refine vs ?_
 have f0:ai H (H.new 23 [i64 kd,i64 dd]):=(ah.refl _ _).new _ _
 have o0:(H.new 23 [i64 kd,i64 dd]).own H.size=some [i64 kd,i64 dd]:=aA _ _ _
 have z0:(H.new 23 [i64 kd,i64 dd]).size=H.size+1:=ak _ _ _
 generalize H.new 23 [i64 kd,i64 dd]=H0 at*
 refine(oO kd dd H0).mono ?_
 rintro _ H1 ⟨rfl,f1⟩
 rw[SY hf]
 have o1:=f1.own o0 (fun h=>h)
 have z1:=f1.size
 refine vs ?_
 refine ar.dec (fun _=>?_) (fun hh=>absurd trivial hh)
 refine vs ?_
 refine(GZ H1 hc hm).mono ?_
 rintro _ H2 ⟨B,rfl,m2,f2,hB⟩
 have o2:=f2.own o1 (fun h=>h)
 have z2:=f2.size
 refine vs ?_
 refine ar.dec (fun _=>?_) (fun hh=>absurd trivial hh)
 refine v1 (ae o2) ?_
 refine(Ic _ hc H2).mono ?_
 rintro _ H3 ⟨t,vv,I,Sn,rfl,n,hi,f3,hSn⟩
 have o3:=f3.own o2 (fun h=>h)
 have z3:=f3.size
 refine vs ?_
 refine ar.dec (fun _=>?_) (fun hh=>absurd trivial hh)
 refine v1 (ae o3) ?_
 have hsB:=m2.slt
 have hsN:=fun z hz=>n.slt hi z hz
 have f4:ai H3 (H3.new 103 [i64 kd,i64 dd,ptr B.a,.iface t vv,u64 0]):=(ah.refl _ _).new _ _
 have b4:(H3.new 103 [i64 kd,i64 dd,ptr B.a,.iface t vv,u64 0]).own H3.size=some [i64 kd,i64 dd,ptr B.a,.iface t vv,u64 0]:=aA _ _ _
 refine⟨H3.size,fun z=>Sn z∨B.S z∨z=H3.size,rfl,⟨t,vv,I,Sn,B,kd,dd,n,n.ext hi f4 (fun _ _ h=>h),(m2.ext f3 (fun _ _ h=>h)).ext f4 (fun _ _ h=>h),b4,fun z hz=>⟨fun h=>?_,?_⟩,fun h=>?_,fun z=>Iff.rfl,⟨by simp[yd,PZ],fun x=>?_⟩⟩,(((f0.trans f1).trans f2).trans f3).trans f4,fun z hz=>?_⟩
 ·have:=hsB z h
  have:=hSn z hz
  omega
 ·have:=hsN z hz
  omega
 ·have:=hsB _ h
  omega
 ·constructor
  ·intro h
   exact absurd (bB.2 h) (oP cap x)
  ·rintro⟨h0,h1⟩
   simp only[PZ,List.getElem?_replicate]at h1
   grind
 grind
structure Bd(t:kY)(n:Nat):Prop where
 h0:0<t.w.hs.length
 h1:t.w.hs.length≤n+1
 g:∀x,t.A.cB x≤n
 q0:0≤t.q
 q1:t.q≤n
variable {t : kY} {n : Nat}
theorem Bd.up(h:Bd t n):Bd t (n+1):=⟨h.h0,by have:=h.h1;omega,fun x=>by have:=h.g x;omega,h.q0,by have:=h.q1;omega⟩
theorem P0(A:Ar)(x:Int)(v:Nat)(b:Bool)(wt:List Int)(nx:Nat)(ct:Int)(mo:Nat)(y:Int):(Ar.mk (A.g.set x.toNat (v,b)) wt nx ct mo).cB y=v∨(Ar.mk (A.g.set x.toNat (v,b)) wt nx ct mo).cB y=A.cB y:=by
 unfold Ar.cB
 simp only[aon]
 grind
theorem TA{A A':Ar}{x:Int}(h:A.pick=some (x,A')):A'.g=A.g:=by
 unfold Ar.pick at h
 grind
theorem TB(h:Bd t n)(x:Int):Bd (Xv t x) n:=by
 refine⟨h.h0,h.h1,fun y=>?_,h.q0,h.q1⟩
 rcases P0 t.A x (t.A.cB x) false (if t.A.cB x<t.A.mo then t.A.wt++[x]else t.A.wt) t.A.nx (t.A.ct - 1) t.A.mo y with e|e
 ·exact aoK (Nat.le_of_eq e) (h.g x)
 ·exact aoK (Nat.le_of_eq e) (h.g y)
theorem acd(h:Bd t n)(op a b:Nat)(k:Int):Bd (SN t op a b k).1 (n+1):=by
 unfold SN
 split
 ·unfold MJ
  split
  ·exact h.up
  ·refine⟨?_,?_,h.up.g,h.q0,h.up.q1⟩
   ·show 0< (t.w.hs++[true]).length
    simp
   ·show(t.w.hs++[true]).length≤_
    have:=h.h1
    simp
    omega
 ·unfold OJ
  split
  ·exact h.up
  ·cases hp:t.A.pick with
   |none=>exact h.up
   |some xA=>
    obtain⟨x,A'⟩:=xA
    refine⟨h.h0,h.up.h1,fun y=>?_,by have:=h.q0;show 0≤t.q+1;omega,by have:=h.q1;show t.q+1≤((n+1:Nat):Int);omega⟩
    have e1:∀z,A'.cB z=t.A.cB z:=fun z=>by unfold Ar.cB;rw[TA hp]
    rcases P0 A' x (A'.cB x+1) true A'.wt A'.nx (A'.ct+1) A'.mo y with e|e
    ·refine aoK (Nat.le_of_eq e) ?_
     rw[e1]
     have:=h.g x
     omega
    ·refine aoK (Nat.le_of_eq e) ?_
     rw[e1]
     have:=h.g y
     omega
 ·exact h.up
 ·unfold GW
  dsimp only
  split
  ·exact(TB h _).up
  ·exact h.up
 ·unfold OK
  split
  ·exact h.up
  ·split
   ·exact h.up
   ·exact⟨h.h0,h.up.h1,h.up.g,h.q0,h.up.q1⟩
 ·unfold OL
  split
  ·exact h.up
  ·exact(TB h _).up
 ·unfold OM
  split
  ·exact h.up
  ·split
   ·exact h.up
   ·refine⟨?_,?_,h.up.g,h.q0,h.up.q1⟩
    ·show 0< (t.w.hs.set _ _).length
     rw[aom];exact h.h0
    ·show(t.w.hs.set _ _).length≤_
     rw[aom];exact h.up.h1
 ·exact h.up
 ·exact h.up
 ·exact h.up
 ·exact h.up
end Go.Proofs.YtjkkkibiegfecaaGreatDoor

namespace Go.Proofs.YtjkkkibiegfecaaGreatDoor
open Go Go.Vc
theorem fh.str{H:Hp}{a:Option Addr}{n c:Nat}{ws:List (List UInt8)}(h:fh H 1 (.slice a n c) n (ws.map aW)){i:Nat}{x:List UInt8}(hx:ws[i]? =some x):
  i<n∧∃b o lb,a=some ⟨b,o,none⟩∧H.rd b=some lb∧lb[o+i]? =some (aW x):=by
 obtain⟨hl,hv⟩:=h
 rw[aoJ,aok]at hl
 have hi:i<ws.length:=by
  rcases ao3 i ws.length with h|h
  ·exact h
  ·grind
 refine⟨by omega,?_⟩
 rcases hv with ⟨hn,_⟩| ⟨b,o,c2,l,hs,li,AB,ht⟩
 ·omega
 ·injection hs with iY PJ No
  refine⟨b,o,l,iY,li,?_⟩
  have h7:(ws.map aW)[i]? =some (aW x):=by rw[aoF,hx];rfl
  grind
theorem fh.off{H H':Hp}{a:Option Addr}{n c:Nat}{xs:List Value}{S:Nat→Prop}(h:fh H 1 (.slice a n c) n xs)(e:ah S H H')(hs:n≠0→∀x,a=some x→¬S x.block):fh H' 1 (.slice a n c) n xs:=by
 obtain⟨hl,h| ⟨b,o,c2,l,hv,li,h3⟩⟩:=h
 ·exact⟨hl,.inl h⟩
 ·by_cases hn:n=0
  ·exact⟨hl,by grind⟩
  ·have Lr:=hv
   injection Lr with Fe
   exact⟨hl,.inr ⟨b,o,c2,l,hv,e.rd li (hs hn _ Fe),h3⟩⟩
end Go.Proofs.YtjkkkibiegfecaaGreatDoor
