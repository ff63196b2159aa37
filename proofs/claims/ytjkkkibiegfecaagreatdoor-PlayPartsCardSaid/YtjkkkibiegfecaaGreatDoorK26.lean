/- Texts put behind each other. -/
import Derived.Test.YtjkkkibiegfecaaGreatDoorK98
import Derived.Test.YtjkkkibiegfecaaGreatDoorK0
import Derived.Test.YtjkkkibiegfecaaGreatDoorK1
import Derived.Test.YtjkkkibiegfecaaGreatDoorK12
import Derived.Test.YtjkkkibiegfecaaGreatDoorK21
import Derived.Test.YtjkkkibiegfecaaGreatDoorK22
import Derived.Test.YtjkkkibiegfecaaGreatDoorK24
import Derived.Test.YtjkkkibiegfecaaGreatDoorK25
set_option maxRecDepth 100000
set_option maxHeartbeats 8000000
set_option linter.unusedVariables false
set_option linter.unusedSimpArgs false
namespace Go.Proofs.YtjkkkibiegfecaaGreatDoor
open Go Go.Vc
inductive Rl where
 |no
 |SP
 |cell
 |MK
 |GY
 |table
 |row(g:Int)
 |uM(x:Int)
def vR(V:Int→Value)(x:Int)(v:Value):Int→Value:=fun z=>if z=x then v else V z
theorem XB(V:Int→Value)(x:Int)(v:Value):vR V x v x=v:=by unfold vR;grind
theorem XC{V:Int→Value}{x z:Int}{v:Value}(h:z≠x):vR V x v z=V z:=by unfold vR;grind
theorem XD(U:Int→Int)(x v:Int):aJ U x v x=v:=by unfold aJ;omega
theorem XE{U:Int→Int}{x z v:Int}(h:z≠x):aJ U x v z=U z:=by unfold aJ;omega
structure oK(H:Hp)(fb tb n:Nat)(l:List Value)(V:Int→Value)(U:Int→Int):Prop where
 own:H.own fb=some [.slice (some ⟨tb,0,none⟩) n n]
 wP:H.own tb=some l
 len:l.length=n*2
 at_:∀x:Int,0≤x→x<n→l[x.toNat*2]? =some (V x)∧l[x.toNat*2+1]? =some (i64 (U x))
 ne:fb≠tb
section
variable {H H' : Hp} {fb tb n : Nat} {l : List Value} {V : Int → Value} {U : Int → Int} {T : Nat → Prop}
theorem oK.ext(h:oK H fb tb n l V U)(e:ah T H H')(h1:¬T fb)(h2:¬T tb):oK H' fb tb n l V U:=⟨e.own h.own h1,e.own h.wP h2,h.len,h.at_,h.ne⟩
theorem oK.vR(h:oK H fb tb n l V U){x:Int}(hx:0≤x∧x<n)(v:Value):oK (H.wr tb (l.set (x.toNat*2) v)) fb tb n (l.set (x.toNat*2) v) (vR V x v) U∧ah (fun z=>z=tb) H (H.wr tb (l.set (x.toNat*2) v)):=by
 have e:ah (fun z=>z=tb) H (H.wr tb (l.set (x.toNat*2) v)):=(ah.refl (fun z=>z=tb) _).wr (fun _=>rfl) _
 have hl:=h.len
 refine⟨⟨e.own h.own h.ne,af h.wP,by grind,fun z h0 h1=>?_,h.ne⟩,e⟩
 obtain⟨a1,a2⟩:=h.at_ z h0 h1
 refine⟨?_,by grind⟩
 by_cases hz:z=x
 ·rw[hz,XB,aot (by omega)]
 ·rw[XC hz,aor (by omega)];exact a1
theorem oK.aJ(h:oK H fb tb n l V U){x:Int}(hx:0≤x∧x<n)(u:Int):oK (H.wr tb (l.set (x.toNat*2+1) (i64 u))) fb tb n (l.set (x.toNat*2+1) (i64 u)) V (aJ U x u)∧ah (fun z=>z=tb) H (H.wr tb (l.set (x.toNat*2+1) (i64 u))):=by
 have e:ah (fun z=>z=tb) H (H.wr tb (l.set (x.toNat*2+1) (i64 u))):=(ah.refl (fun z=>z=tb) _).wr (fun _=>rfl) _
 have hl:=h.len
 refine⟨⟨e.own h.own h.ne,af h.wP,by grind,fun z h0 h1=>?_,h.ne⟩,e⟩
 obtain⟨a1,a2⟩:=h.at_ z h0 h1
 refine⟨by grind,?_⟩
 by_cases hz:z=x
 ·rw[hz,XD,aot (by omega)]
 ·rw[XE hz,aor (by omega)];exact a2
theorem oK.SQ(h:oK H fb tb n l V U):fb<H.size∧tb<H.size:=⟨aE h.own,aE h.wP⟩
end
structure ForM(H:Hp)(ro:Nat→Rl)(fb tb n:Nat)(l:List Value)(V:Int→Value)(ch:Int→List Int)(ay:Int→Int)(kb:Int→Option Nat):Prop where
 t:oK H fb tb n l V ay
 kd:∀x:Int,0≤x→x<n→Sl H 1 (V x) (ch x).length ((ch x).map i64) (kb x)
 rf:ro fb= .GY
 rt:ro tb= .table
 rk:∀ (x:Int) b,0≤x→x<n→kb x=some b→ro b= .uM x
 HT:∀x c,c∈ch x→0≤c∧c<n
 no:∀x:Int,¬ (0≤x∧x<n)→ch x=[]
structure RK(s:Nat)(ro ro':Nat→Rl):Prop where
 o:∀z,z<s→(∀x,ro z≠ .uM x)→ro' z=ro z
 k:∀z x,z<s→ro z= .uM x→∃y,ro' z= .uM y
 n:∀z,s≤z→ro' z= .no∨∃y,ro' z= .uM y
theorem RK.refl{s:Nat}{ro:Nat→Rl}(h:∀z,s≤z→ro z= .no):RK s ro ro:=⟨fun _ _ _=>rfl,by grind,by grind⟩
theorem RK.trans{s s':Nat}{r1 r2 r3:Nat→Rl}(h:RK s r1 r2)(h':RK s' r2 r3)(hs:s≤s'):RK s r1 r3:=by
 refine⟨fun z hz hk=>?_,fun z x hz hx=>?_,fun z hz=>?_⟩
 ·cases h;cases h';grind
 ·cases h;cases h';grind
 cases h;cases h';grind
def KB(ro:Nat→Rl)(z:Nat):Prop:=ro z= .table∨∃x,ro z= .uM x
section
variable {H H' : Hp} {ro ro' : Nat → Rl} {fb tb n : Nat} {l : List Value} {V : Int → Value} {ch : Int → List Int} {ay : Int → Int} {kb : Int → Option Nat} {T : Nat → Prop}
theorem ForM.ext(m:ForM H ro fb tb n l V ch ay kb)(e:ah T H H')(hd:∀z,(ro z= .GY∨KB ro z)→¬T z):ForM H' ro fb tb n l V ch ay kb:=
 ⟨m.t.ext e (hd _ (.inl m.rf)) (hd _ (.inr (.inl m.rt))),fun x h0 h1=>(m.kd x h0 h1).ext e (fun b hb=>hd _ (.inr (.inr ⟨x,m.rk x b h0 h1 hb⟩))),m.rf,m.rt,m.rk,m.HT,m.no⟩
theorem ForM.fresh(m:ForM H ro fb tb n l V ch ay kb)(e:ai H H'):ForM H' ro fb tb n l V ch ay kb:=m.ext e fun _ _ h=>h
theorem ForM.shape(m:ForM H ro fb tb n l V ch ay kb){x:Int}(hx:0≤x∧x<n):∃a c,V x= .slice a (ch x).length c:=Sl.shape (m.kd x hx.1 hx.2)
theorem oL(t:oK H fb tb n l V ay)(x:Int):ag Tryz.prog zm [ptr fb,i64 x] H fun v H'=>ap (v= .bool (decide (0≤x∧x<n))∧H'=H):=by
 refine aU zN ?_
 refine vs ?_
 refine ar.dec (fun h0=>?_) (fun h0=>?_)<;>refine v1 (ae t.own) ?_
 ·refine⟨?_,rfl⟩
  rw[show(decide (0≤x∧x< (n:Int)))=decide (x< (n:Int)) by simp[h0]]
  rfl
 ·refine⟨?_,rfl⟩
  rw[aow (fun h=>h0 h.1)]
  rfl
theorem ix(t:oK H fb tb n l V ay)(x:Int):ag Tryz.prog xb [ptr fb,i64 x] H fun v H'=>ap (v= .bool (decide (0≤x∧x<n) && decide (ay x= -1))∧H'=H):=by
 refine aU xH ?_
 refine vs ?_
 refine(oL t x).mono ?_
 rintro _ H' ⟨rfl,e⟩
 obtain rfl:=e.symm
 by_cases hx:0≤x∧x<n
 ·rw[aov hx]
  have hl:=t.len
  obtain⟨a1,a2⟩:=t.at_ x hx.1 hx.2
  refine v1 (ae t.own) ?_
  refine⟨by omega,?_⟩
  refine v3 (ae t.wP) aoi a2 ?_
  exact⟨rfl,rfl⟩
 ·rw[aow hx]
  refine vs ?_
  exact⟨rfl,rfl⟩
theorem dC(m:ForM H ro fb tb n l V ch ay kb)(x:Int):ag Tryz.prog tX [ptr fb,i64 x] H fun v H'=>ap (v=i64 (ch x).length∧H'=H):=by
 refine aU ue ?_
 refine vs ?_
 refine(oL m.t x).mono ?_
 rintro _ H' ⟨rfl,e⟩
 obtain rfl:=e.symm
 by_cases hx:0≤x∧x<n
 ·rw[aov hx]
  have hl:=m.t.len
  obtain⟨a1,a2⟩:=m.t.at_ x hx.1 hx.2
  obtain⟨a,c,hv⟩:=m.shape hx
  rw[hv]at a1
  refine v1 (ae m.t.own) ?_
  refine⟨by omega,?_⟩
  refine v4 (ae m.t.wP) aoi Nat.add_zero a1 ?_
  exact⟨rfl,rfl⟩
 ·rw[aow hx,m.no x hx]
  refine vs ?_
  exact⟨rfl,rfl⟩
theorem p9(t:oK H fb tb n l V ay){x:Int}(hx:0≤x∧x<n):ag Tryz.prog Ba [ptr fb,i64 x] H fun v H'=>ap (((ay x= -1∧v= .tuple [i64 0,.bool false].toArray)∨(ay x≠ -1∧v= .tuple [i64 (ay x),.bool true].toArray))∧H'=H):=by
 refine aU BC ?_
 refine vs ?_
 refine(oL t x).mono ?_
 rintro _ H' ⟨rfl,e⟩
 obtain rfl:=e.symm
 rw[aov hx]
 have hl:=t.len
 obtain⟨a1,a2⟩:=t.at_ x hx.1 hx.2
 refine v1 (ae t.own) ?_
 refine⟨by omega,?_⟩
 refine v3 (ae t.wP) aoi a2 ?_
 refine ar.dec (fun h0=>?_) (fun h0=>?_)<;>refine vs ?_
 ·exact⟨.inl ⟨h0,rfl⟩,rfl⟩
 refine v1 (ae t.own) ?_
 refine⟨by omega,?_⟩
 refine v3 (ae t.wP) aoi a2 ?_
 exact⟨.inr ⟨h0,rfl⟩,rfl⟩
theorem SR{H:Hp}{T:TypeId}{w:Value}{xs:List Int}{fp:Option Nat}{K:Value→Hp→Prop}(s:Sl H 1 w xs.length (xs.map i64) fp)(x:Int)(hl:xs.length≤1000000000000)
  (hk:∀w' H' di,(di=fp∨∃b,di=some b∧H.size≤b∧b<H'.size)→Sl H' 1 w' (xs++[x]).length ((xs++[x]).map i64) di→ah (fun z=>fp=some z) H H'→K w' H'):
  gH T 1 8 [i64 0] w (.slice (some ⟨H.size,0,none⟩) 1 1) (H.new T [i64 x]) K:=by
 have fl:ai H (H.new T [i64 x]):=(ah.refl _ _).new _ _
 refine Sl.append (s.ext fl (fun _ _ h=>h)) (Sl.dM (size:=1) (n:=1) (xs:=[i64 x]) rfl rfl).rd rfl (BR [x]) (by omega) ?_
 intro v' H' di s' e' JC
 refine hk v' H' di (JC.imp_right fun⟨b,h1,h2,h3⟩=>⟨b,h1,by rw[ak]at h2;omega,h3⟩) (by grind) ⟨aoK fl.size e'.size,fun z hz hn=>?_⟩
 rw[e'.aO z (aoz hz fl.size) hn,fl.aO z hz (fun h=>h)]
theorem ForM.put(m:ForM H ro fb tb n l V ch ay kb)(hz:∀z,H.size≤z→ro z= .no){a:Int}(ha:0≤a∧a<n){H2:Hp}(e:ah (fun z=>kb a=some z) H H2){w':Value}{L':List Int}{di:Option Nat}(s:Sl H2 1 w' L'.length (L'.map i64) di)
  (hf:di=kb a∨di=none∨∃b,di=some b∧H.size≤b∧b<H2.size)(hL:∀c∈L',0≤c∧c<n):
  ∃ro' tK,ForM (H2.wr tb (l.set (a.toNat*2) w')) ro' fb tb n (l.set (a.toNat*2) w') (vR V a w') (az ch a L') ay tK∧RK H.size ro ro'∧(∀z,(H2.wr tb (l.set (a.toNat*2) w')).size≤z→ro' z= .no)∧ah (KB ro) H (H2.wr tb (l.set (a.toNat*2) w')):=by
 have ZB:∀z,kb a=some z→ro z= .uM a:=fun z h=>m.rk a z ha.1 ha.2 h
 have hfb:¬kb a=some fb:=fun h=>by have:=ZB _ h;rw[m.rf]at this;grind
 have Sx:¬kb a=some tb:=fun h=>by have:=ZB _ h;rw[m.rt]at this;grind
 obtain⟨z1,z2⟩:=m.t.SQ
 have t2:=m.t.ext e hfb Sx
 obtain⟨t3,e3⟩:=t2.vR ha w'
 have hs:=e.size
 have QJ:(H2.wr tb (l.set (a.toNat*2) w')).size=H2.size:=eR _ _ _
 have hr:∃ro':Nat→Rl,(∀b,di=some b→ro' b= .uM a)∧(∀z,z<H.size→ro' z=ro z)∧RK H.size ro ro'∧∀z,H2.size≤z→ro' z= .no:=by
  rcases hf with h|h| ⟨b,h,Mz,yt⟩
  ·exact⟨ro,by grind,fun _ _=>rfl,RK.refl hz,by grind⟩
  ·refine⟨ro,fun b hb=>?_,fun _ _=>rfl,RK.refl hz,by grind⟩
   grind
  ·refine⟨fun z=>if z=b then .uM a else ro z,fun b' AD=>?_,fun z jH=>?_,⟨fun z jH _=>?_,fun z x jH hx=>⟨x,?_⟩,fun z jH=>?_⟩,fun z jH=>?_⟩
   ·rw[h]at AD
    injection AD with AD
    simp[AD]
   ·show(if z=b then Rl.uM a else ro z)=_
    rw[if_neg (by omega)]
   ·show(if z=b then Rl.uM a else ro z)=_
    rw[if_neg (by omega)]
   ·show(if z=b then Rl.uM a else ro z)=_
    rw[if_neg (by omega)];exact hx
   ·show(if z=b then Rl.uM a else ro z)=_∨∃y,(if z=b then Rl.uM a else ro z)=_
    split
    ·exact .inr ⟨a,rfl⟩
    ·exact .inl (hz z jH)
   ·show(if z=b then Rl.uM a else ro z)=_
    rw[if_neg (by omega)];exact hz z (by omega)
 obtain⟨ro',r1,r2,r3,r4⟩:=hr
 have hfl:∀b,di=some b→b≠tb:=by grind
 refine⟨ro',fun z=>if z=a then di else kb z,⟨t3,fun x h0 h1=>?_,by rw[r2 _ z1];exact m.rf,by rw[r2 _ z2];exact m.rt,fun x b h0 h1 hb=>?_,fun x c hc=>?_,fun x hx=>?_⟩,r3,by grind,(e.mono fun z _ h=>.inr ⟨a,ZB z h⟩).trans (e3.mono fun z _ h=>.inl (by rw[h];exact m.rt))⟩
 ·unfold vR az
  by_cases hxa:x=a
  ·simp only[hxa,if_true]
   exact s.ext e3 (by omega)
  ·simp only[if_neg hxa]
   refine((m.kd x h0 h1).ext e (fun b hb yt=>?_)).ext e3 (fun b hb e=>?_)
   ·have h5:=m.rk x b h0 h1 hb
    grind
   ·have h5:=m.rk x b h0 h1 hb
    rw[e,m.rt]at h5
    cases h5
 ·split at hb
  ·grind
  ·have h5:=m.rk x b h0 h1 hb
   grind
 ·unfold az at hc
  split at hc
  ·grind
  ·exact m.HT x c hc
 ·unfold az
  rw[if_neg (by omega)]
  exact m.no x hx
theorem ForM.aJ(m:ForM H ro fb tb n l V ch ay kb){x:Int}(hx:0≤x∧x<n)(u:Int):ForM (H.wr tb (l.set (x.toNat*2+1) (i64 u))) ro fb tb n (l.set (x.toNat*2+1) (i64 u)) V ch (aJ ay x u) kb∧ah (KB ro) H (H.wr tb (l.set (x.toNat*2+1) (i64 u))):=by
 obtain⟨t3,e3⟩:=m.t.aJ hx u
 refine⟨⟨t3,fun x h0 h1=>(m.kd x h0 h1).ext e3 (fun b hb e=>?_),m.rf,m.rt,m.rk,m.HT,m.no⟩,e3.mono fun z _ h=>.inl (by rw[h];exact m.rt)⟩
 have h5:=m.rk x b h0 h1 hb
 rw[e,m.rt]at h5
 cases h5
theorem tL(m:ForM H ro fb tb n l V ch ay kb)(hz:∀z,H.size≤z→ro z= .no){a b:Int}(ha:0≤a∧a<n)(hb:0≤b∧b<n)(pa:ay a= -1)(pb:ay b= -1)(eJ:a≠b)(hd:(ch a).length=(ch b).length)(hl:(ch a).length≤65536):
  ag Tryz.prog xf [ptr fb,i64 a,i64 b] H fun v H'=>ap (v= .bool true∧∃ro' l' V' tK,ForM H' ro' fb tb n l' V' (az ch a (ch a++[b])) (aJ ay b a) tK∧RK H.size ro ro'∧(∀z,H'.size≤z→ro' z= .no)∧ah (KB ro) H H'):=by
 have ht:=m.t.len
 obtain⟨a1,a2⟩:=m.t.at_ a ha.1 ha.2
 have ka:=m.kd a ha.1 ha.2
 have hcL:∀c∈ch a++[b],0≤c∧c<n:=fun c hc=>by
  rcases aoD.1 hc with hc|hc
  ·exact m.HT a c hc
  grind
 have ZB:∀z,kb a=some z→ro z= .uM a:=fun z h=>m.rk a z ha.1 ha.2 h
 have hfb:¬kb a=some fb:=fun h=>by have:=ZB _ h;rw[m.rf]at this;grind
 have Sx:¬kb a=some tb:=fun h=>by have:=ZB _ h;rw[m.rt]at this;grind
 refine Fz xJ ⟨rfl,?_⟩
 refine v1 mW.eq_1 ?_
 refine(ix m.t a).mono ?_
 rintro _ H' ⟨rfl,e⟩
 obtain rfl:=e.symm
 rw[aov ha,aov pa]
 refine vs ?_
 refine(ix m.t b).mono ?_
 rintro _ H' ⟨rfl,e⟩
 obtain rfl:=e.symm
 rw[aov hb,aov pb]
 refine vs ?_
 refine ar.dec (fun h=>absurd h eJ) (fun _=>?_)
 refine vs ?_
 refine(dC m a).mono ?_
 rintro _ H' ⟨rfl,e⟩
 obtain rfl:=e.symm
 refine vs ?_
 refine(dC m b).mono ?_
 rintro _ H' ⟨rfl,e⟩
 obtain rfl:=e.symm
 rw[hd]
 refine vs ?_
 refine ar.dl (by simp) ?_
 refine vs ?_
 refine fV.intro (fun H'=>H'.own fb=some [.slice (some ⟨tb,0,none⟩) n n]) m.t.own ?_
 refine vs ?_
 refine dV.intro (.slice (some ⟨tb,0,none⟩) n n) (fun H' hI=>by refine v1 (ae hI) ?_;trivial) ?_
 refine vs ?_
 refine dV.intro (.slice (some ⟨tb,0,none⟩) n n) (fun H' hI=>by refine v1 (ae hI) ?_;trivial) ?_
 refine vs ?_
 refine⟨by omega,?_⟩
 refine vs ?_
 obtain⟨z1,z2⟩:=m.t.SQ
 have f1:ai H (H.new 3 [i64 b]):=(ah.refl _ _).new _ _
 have o1:=f1.own m.t.own (fun h=>h)
 have q1:=f1.own m.t.wP (fun h=>h)
 refine Fy.intro ?A ?B
 case' A=>
  refine v4 (ae m.t.wP) aoi Nat.add_zero a1 ?_
  refine And.intro m.t.own ?_
  refine vs ?_
  refine And.intro m.t.own ?_
  refine vs ?_
 case' B=>
  refine vs ?_
  refine And.intro m.t.own ?_
  refine v5 (ae q1) (ae m.t.wP) aoi Nat.add_zero a1 ?_
  refine And.intro m.t.own ?_
  refine vs ?_
 all_goals
  refine SR ka b (by omega) fun w' H2 di jg s2 e2=>?_
  obtain⟨wa,wc,rfl⟩:=Sl.shape s2
  have t2:=m.t.ext e2 hfb Sx
  refine And.intro t2.own ?_
  refine vs ?_
  refine⟨by omega,?_⟩
  refine v3 t2.wP aoi Nat.add_zero ?_
  refine⟨by omega,?_⟩
  obtain⟨ro',tK,m3,r3,r4,e3⟩:=m.put hz ha e2 s2 (by grind) hcL
  refine vs ?_
  refine And.intro m3.t.own ?_
  refine vs ?_
  have SS:=m3.t.len
  generalize H2.wr tb (l.set (a.toNat*2) (Value.slice wa (ch a++[b]).length wc))=H3 at*
  refine v1 (ae m3.t.own) ?_
  refine⟨by omega,?_⟩
  refine v3 m3.t.wP aoi Nat.add_zero ?_
  refine⟨by omega,?_⟩
  obtain⟨m4,e4⟩:=m3.aJ hb a
  refine vs ?_
  refine⟨rfl,ro',_,_,tK,m4,r3,fun z jH=>r4 z (by rw[eR]at jH;exact jH),?_⟩
  refine⟨aoK e3.size e4.size,fun z jH hn=>?_⟩
  rw[e4.aO z (aoz jH e3.size) (fun h=>hn ?_),e3.aO z jH hn]
  rcases h with h| ⟨x,h⟩
  ·refine .inl ?_
   cases r3;grind
  ·refine .inr ?_
   cases r3;grind
end
end Go.Proofs.YtjkkkibiegfecaaGreatDoor

namespace Go.Proofs.YtjkkkibiegfecaaGreatDoor
open Go Go.Vc
abbrev jk(x:Int)(g:Nat):Value:=.agg #[i64 x,.int .u32 (g:Int)]
def eB(L:List (Nat×Bool)):List Value:=L.flatMap fun y=>[.int .u32 (y.1:Int),.bool y.2]
theorem rD(L:List (Nat×Bool)):(eB L).length=L.length*2:=by
 induction L with
 |nil=>rfl
 |cons c r ih=>grind [eB]
theorem vS{L:List (Nat×Bool)}{i:Nat}{y:Nat×Bool}(hi:L[i]? =some y):(eB L)[i*2]? =some (.int .u32 (y.1:Int))∧(eB L)[i*2+1]? =some (.bool y.2):=by
 induction L generalizing i with
 |nil=>grind
 |cons a r ih=>
  cases a;grind [eB]
theorem Du{L:List (Nat×Bool)}{i:Nat}{y:Nat×Bool}(hi:L[i]? =some y):(∀v:Nat,(eB L).set (i*2) (.int .u32 (v:Int))=eB (L.set i (v,y.2)))∧(∀b,(eB L).set (i*2+1) (.bool b)=eB (L.set i (y.1,b))):=by
 induction L generalizing i with
 |nil=>grind
 |cons a r ih=>
  have e:eB (a::r)= .int .u32 (a.1:Int):: .bool a.2::eB r:=rfl
  cases i with
  |zero=>grind [eB]
  |succ i=>
   grind [eB]
structure QZ where
 a:Nat
 sb:Nat
 fo:Option Nat
def QZ.S(B:QZ)(z:Nat):Prop:=z=B.a∨z=B.sb∨B.fo=some z
structure HU(H:Hp)(B:QZ)(A:Ar):Prop where
 own:∃tv,H.own B.a=some [.slice (some ⟨B.sb,0,none⟩) A.g.length A.g.length,tv,i64 A.nx,i64 A.ct,.int .u32 (A.mo:Int)]∧Sl H 1 tv A.wt.length (A.wt.map i64) B.fo
 sl:H.own B.sb=some (eB A.g)
 ne:B.a≠B.sb∧B.fo≠some B.a∧B.fo≠some B.sb
 len:A.g.length≤65536
 ok:CL A
 gs:∀y∈A.g,y.1≤4294967295
 mo:A.mo≤4294967295
section
variable {H H' : Hp} {B : QZ} {A : Ar} {T : Nat → Prop}
theorem HU.slt(m:HU H B A):∀z,B.S z→z<H.size:=by
 obtain⟨tv,h1,h2⟩:=m.own
 rintro z (rfl|rfl|h)
 ·exact aE h1
 ·exact aE m.sl
 ·rw[h]at h2;exact Sl.lt h2
theorem HU.ext(m:HU H B A)(e:ah T H H')(hd:∀z,B.S z→¬T z):HU H' B A:=by
 obtain⟨tv,h1,h2⟩:=m.own
 exact⟨⟨tv,e.own h1 (hd _ (.inl rfl)),h2.ext e (fun b hb=>hd b (.inr (.inr hb)))⟩,e.own m.sl (hd _ (.inr (.inl rfl))),m.ne,m.len,m.ok,m.gs,m.mo⟩
theorem HU.wtl(m:HU H B A):A.wt.length≤65536∧∀x∈A.wt,0≤x∧x<A.g.length:=by
 have h1:∀x∈A.wt,0≤x∧x<A.g.length:=fun x hx=>by
  have:=m.ok.wl x hx
  have:=m.ok.nx
  omega
 exact⟨aoK (cu m.ok.wd h1) m.len,h1⟩
theorem OR(k:Nat):dE [Value.int .u32 0,Value.bool false] k=eB (List.replicate k (0,false)):=by
 unfold dE eB
 induction k with
 |zero=>rfl
 |succ k ih=>grind
theorem GZ(H:Hp){n:Int}{mo:Nat}(hn:0≤n∧n≤65536)(hm:0<mo∧mo≤4294967295):ag Tryz.prog D6 [i64 n,.int .u32 (mo:Int)] H fun v H'=>ap (∃B,v= .tuple [ptr B.a,i64 0].toArray∧HU H' B ⟨List.replicate n.toNat (0,false),[],0,0,mo⟩∧ai H H'∧∀z,B.S z→H.size≤z):=by
 refine aU D7 ?_
 refine vs ?_
 refine ar.dec (fun g=>absurd g (by omega)) (fun _=>?_)
 refine vs ?_
 refine ar.dec (fun g=>absurd g (by omega)) (fun _=>?_)
 refine vs ?_
 refine ar.dec (fun g=>absurd g (by omega)) (fun _=>?_)
 refine vs ?_
 refine⟨by omega,?_⟩
 refine vs ?_
 rw[OR]
 refine⟨⟨H.size+1,H.size,none⟩,rfl,⟨⟨.slice none 0 0,?_,Sl.nil _ _⟩,?_,by grind,by grind,⟨by simp,apJ,fun x _ hx=>?_,by simp[Ar.aQ,List.countP_replicate],Nat.zero_le _⟩,by grind,hm.2⟩,((ah.refl _ _).new _ _).new _ _,fun z hz=>?_⟩
 ·grind [aR,ak]
 rotate_left
 ·obtain⟨h0,h1⟩:=hx
  grind
 rotate_left
 ·simp only
  rw[bm (by simp only[ak];omega),aA]
 ·rcases hz with h|h|h
  ·grind
  ·grind
  grind
theorem iy(m:HU H B A)(x:Int)(g:Nat):ag Tryz.prog zd [ptr B.a,jk x g] H fun v H'=>ap (v= .bool (decide (A.live x∧A.cB x=g))∧ai H H'):=by
 obtain⟨tv,o1,_⟩:=m.own
 refine Fz zy ⟨rfl,?_⟩
 refine v1 om.eq_1 ?_
 have f0:ai H (H.new 29 [i64 x,.int .u32 (g:Int)]):=(ah.refl _ _).new _ _
 have b0:(H.new 29 [i64 x,.int .u32 (g:Int)]).own H.size=some [i64 x,.int .u32 (g:Int)]:=aA _ _ _
 have m0:=m.ext f0 (fun _ _ h=>h)
 generalize H.new 29 [i64 x,.int .u32 (g:Int)]=H0 at*
 obtain⟨tv0,o0,_⟩:=m0.own
 refine ar.dec (fun h0=>?_) (fun h0=>?_)<;>refine v2 (ae b0) (ae o0) ?_
 rotate_left
 ·rw[aow (fun h=>h0 h.1.1)]
  exact⟨rfl,f0⟩
 refine ar.dec (fun h1=>?_) (fun h1=>?_)<;>refine v2 (ae b0) (ae o0) ?_
 rotate_left
 ·rw[aow (fun h=>h1 (Ar.rT h.1).2)]
  exact⟨rfl,f0⟩
 obtain⟨b,hb,BW⟩:=Ar.get (A:=A) (x:=x) ⟨h0,h1⟩
 obtain⟨c1,c2⟩:=vS hb
 have hl:=rD A.g
 refine⟨⟨by omega,by omega⟩,?_⟩
 refine v2 (ae m0.sl) aoi ?_
 have hdt:((eB A.g).drop (x.toNat*2)).take 2=[.int .u32 (A.cB x:Int),.bool b]:=by
  apply aoM
  intro k
  match k with
  |0=>rw[aoX (by omega),aoT,Nat.add_zero];exact c1
  |1=>rw[aoX (by omega),aoT];exact c2
  |k+2=>rw[List.getElem?_eq_none (by simp;omega)];rfl
 rw[hdt]
 refine⟨by omega,?_⟩
 refine v1 (ae b0) ?_
 have heq:BX [(0,none,Shape.int),(1,none,Shape.bool)] [Value.int IntKind.u32 (A.cB x:Int),Value.bool b] [Value.int IntKind.u32 (g:Int),Value.bool true]=some (decide (A.cB x=g) && b):=by
  by_cases hg:A.cB x=g
  ·cases b<;>simp[BX,CH,dI,hg,Vc.rE]
  ·have:¬ (A.cB x:Int)=(g:Int):=by omega
   cases b<;>simp[BX,CH,dI,hg,Vc.rE,this]
 rw[heq]
 simp(disch:=(first|omega| (simp only[Zs]<;>omega)|fail)) only[go_sem, ↓reduceIte,Zv,Option.map_some]
 refine⟨aoo Value.bool ?_,f0⟩
 by_cases hg:A.cB x=g
 ·rw[aov hg,Bool.true_and]
  cases yt:b
  ·exact(aow (fun h=>by have:=BW.1 h.1;rw[yt]at this;cases this)).symm
  ·exact(aov ⟨BW.2 yt,hg⟩).symm
 ·rw[aow hg,aow (fun h=>hg h.2)]
  rfl
theorem IM(m:HU H B A){x:Int}(hx:A.live x):ag Tryz.prog CU [ptr B.a,i64 x] H fun v H'=>ap (v= .tuple [jk x (A.cB x),.bool true].toArray∧ai H H'):=by
 obtain⟨tv,o1,_⟩:=m.own
 have ut:=Ar.rT hx
 obtain⟨b,hb,BW⟩:=Ar.get (A:=A) (x:=x) ut
 obtain rfl:=BW.1 hx
 obtain⟨c1,c2⟩:=vS hb
 have hl:=rD A.g
 refine aU C1 ?_
 refine vs ?_
 have f0:ai H (H.new 29 [Value.int .i64 0,Value.int .u32 0]):=(ah.refl _ _).new _ _
 have b0:(H.new 29 [Value.int .i64 0,Value.int .u32 0]).own H.size=some [Value.int .i64 0,Value.int .u32 0]:=aA _ _ _
 have m0:=m.ext f0 (fun _ _ h=>h)
 have z0:(H.new 29 [Value.int .i64 0,Value.int .u32 0]).size=H.size+1:=ak _ _ _
 generalize H.new 29 [Value.int .i64 0,Value.int .u32 0]=H0 at*
 obtain⟨tv0,o0,_⟩:=m0.own
 refine ar.dec (fun h=>absurd h (by omega)) (fun _=>?_)
 refine v1 (ae o0) ?_
 refine ar.dec (fun h=>absurd h (by omega)) (fun _=>?_)
 refine v1 (ae o0) ?_
 refine⟨by omega,?_⟩
 refine v4 (ae m0.sl) aoi c2 (ae o0) ?_
 refine⟨by omega,?_⟩
 refine v5 (ae m0.sl) aoi Nat.add_zero c1 b0 ?_
 have e1:ah (fun z=>z=H.size) H0 (H0.wr H.size [Value.int .i64 x,Value.int .u32 (A.cB x:Int)]):=(ah.refl (fun z=>z=H.size) _).wr (fun _=>rfl) _
 have b1:(H0.wr H.size [Value.int .i64 x,Value.int .u32 (A.cB x:Int)]).own H.size=some [Value.int .i64 x,Value.int .u32 (A.cB x:Int)]:=af b0
 refine v1 (ae b1) ?_
 exact⟨rfl,f0.then e1 (by omega)⟩
end
end Go.Proofs.YtjkkkibiegfecaaGreatDoor

namespace Go.Proofs.YtjkkkibiegfecaaGreatDoor
open Go Go.Vc
theorem fh.num{H:Hp}{a:Option Addr}{n c:Nat}{xs:List Int}(h:fh H 1 (.slice a n c) n (xs.map i64)){i:Nat}{x:Int}(hx:xs[i]? =some x):
  i<n∧∃b o lb,a=some ⟨b,o,none⟩∧H.rd b=some lb∧lb[o+i]? =some (i64 x):=by
 obtain⟨hl,hv⟩:=h
 rw[aoJ,aok]at hl
 have hi:=(aoj.1 hx).1
 refine⟨by omega,?_⟩
 rcases hv with ⟨hn,_⟩| ⟨b,o,c2,l,hs,li,AB,ht⟩
 ·omega
 ·injection hs with iY PJ No
  refine⟨b,o,l,iY,li,?_⟩
  have h7:(xs.map i64)[i]? =some (i64 x):=by rw[aoF,hx];rfl
  rw[←ht,aoZ,if_pos (by omega),aoT]at h7
  exact h7
theorem fS{H:Hp}{a:Option Addr}{c:Nat}{xs:List Int}(h:fh H 1 (.slice a xs.length c) xs.length (xs.map i64))(x:Int)(hm:xs.length≤1000000000):
  ag Tryz.prog sn [.slice a xs.length c,i64 x] H fun v H'=>ap ((∃i:Int,v=i64 i∧((i= -1∧x∉xs)∨(0≤i∧xs[i.toNat]? =some x)))∧H'=H):=by
 refine aU sE ?_
 refine vs ?_
 refine bX.intro (fun m env H'=>H'=H∧∃j:Nat,m=xs.length - j∧j≤xs.length∧(∀e∈xs.take j,x≠e)∧env=[(0,.slice a xs.length c),(1,i64 x),(7,i64 xs.length),(8,i64 j)]) xs.length (by grind) ?_
 rintro m env H1 ⟨e1,j,hmj,hj,jZ,rfl⟩
 obtain rfl:=e1.symm
 refine vs ?_
 refine ar.dec (fun bf=>?_) (fun bf=>?_)<;>refine vs ?_
 ·have FF:j<xs.length:=by omega
  obtain⟨e,he⟩:∃e,xs[j]? =some e:=⟨_,aol FF⟩
  obtain⟨_,b,o,lb,rfl,OS,dv⟩:=fh.num h he
  refine⟨by omega,?_⟩
  refine v4 OS Int.toNat_natCast aok dv ?_
  refine ar.dec (fun hx=>?_) (fun hx=>?_)<;>refine vs ?_
  ·exact⟨⟨j,rfl,by grind⟩,rfl⟩
  ·rw[wrap64 (n:=(j:Int)+1) (by omega) (by omega)]
   refine⟨xs.length - (j+1),by omega,trivial,j+1,rfl,by omega,?_,rfl⟩
   intro e' FE
   rw[aoL,he]at FE
   grind
 ·have FF:j=xs.length:=by omega
  subst FF
  rw[aoP]at jZ
  exact⟨⟨-1,rfl,by grind⟩,rfl⟩
theorem vT{H:Hp}{a:Option Addr}{c:Nat}{xs:List Int}(h:fh H 1 (.slice a xs.length c) xs.length (xs.map i64))(x:Int)(hm:xs.length≤1000000000):
  ag Tryz.prog oZ [.slice a xs.length c,i64 x] H fun v H'=>ap (v= .bool (decide (x∈xs))∧H'=H):=by
 refine aU pe ?_
 refine vs ?_
 refine(fS h x hm).mono ?_
 rintro _ H1 ⟨⟨i,rfl,hi⟩,e⟩
 obtain rfl:=e.symm
 refine vs ?_
 refine⟨aoo Value.bool ?_,rfl⟩
 grind
theorem EZ{H:Hp}{a:Option Addr}{c:Nat}{xs:List Int}(f:FuncId)(rF:List Value)(q:Int→Bool)(h:fh H 1 (.slice a xs.length c) xs.length (xs.map i64))(Ep:eZ Tryz.prog f=true)
  (hf:∀x,ag Tryz.prog f (i64 x::rF) H fun v FY=>ap (v= .bool (q x)∧FY=H))(hm:xs.length≤1000000000):
  ag Tryz.prog gk [.slice a xs.length c,.func (.func f) #[] rF.toArray] H fun v H'=>ap ((∃i:Int,v=i64 i∧((i= -1∧∀x∈xs,q x=false)∨(0≤i∧(∀x∈xs.take i.toNat,q x=false)∧∃x,xs[i.toNat]? =some x∧q x=true)))∧H'=H):=by
 refine aU gm ?_
 refine vs ?_
 refine bX.intro (fun m env H'=>H'=H∧∃j:Nat,m=xs.length - j∧j≤xs.length∧(∀e∈xs.take j,q e=false)∧env=[(0,.slice a xs.length c),(1,.func (.func f) #[] rF.toArray),(7,i64 xs.length),(8,i64 j)]) xs.length (by grind) ?_
 rintro m env H1 ⟨e1,j,hmj,hj,jZ,rfl⟩
 obtain rfl:=e1.symm
 refine vs ?_
 refine ar.dec (fun bf=>?_) (fun bf=>?_)<;>refine vs ?_
 ·have FF:j<xs.length:=by omega
  obtain⟨e,he⟩:∃e,xs[j]? =some e:=⟨_,aol FF⟩
  obtain⟨_,b,o,lb,rfl,OS,dv⟩:=fh.num h he
  refine⟨by omega,?_⟩
  refine v4 OS Int.toNat_natCast aok dv ?_
  refine⟨Ep,?_⟩
  refine ag.mono (by simpa using hf e) ?_
  rintro _ H2 ⟨rfl,e2⟩
  obtain rfl:=e2.symm
  refine vs ?_
  cases hx:q e
  ·refine vs ?_
   rw[wrap64 (n:=(j:Int)+1) (by omega) (by omega)]
   refine⟨xs.length - (j+1),by omega,trivial,j+1,rfl,by omega,?_,rfl⟩
   intro e' FE
   rw[aoL,he]at FE
   grind
  ·refine vs ?_
   exact⟨⟨j,rfl,by grind⟩,rfl⟩
 ·have FF:j=xs.length:=by omega
  subst FF
  rw[aoP]at jZ
  exact⟨⟨-1,rfl,by grind⟩,rfl⟩
theorem ML(k:Nat):dE [Value.int .i64 0] k=(List.replicate k (0:Int)).map i64:=by
 unfold dE
 simp_all
theorem G0(l new:List Value)(i:Nat)(h:i+new.length≤l.length):(aX l i new).take i=l.take i:=by
 apply aoM
 grind [getElem?_splice]
theorem Dv{H:Hp}{v:Value}{xs:List Int}{fp:Option Nat}(s:Sl H 1 v xs.length (xs.map i64) fp)(f:FuncId)(rF:List Value)(q:Int→Bool)(Ep:eZ Tryz.prog f=true)
  (hf:∀H',ah (fun z=>fp=some z) H H'→∀x,ag Tryz.prog f (i64 x::rF) H' fun v FY=>ap (v= .bool (q x)∧FY=H'))(hm:xs.length≤1000000000):
  ag Tryz.prog nw [v,.func (.func f) #[] rF.toArray] H fun v' H'=>ap (Sl H' 1 v' (xs.filter fun x=> !q x).length ((xs.filter fun x=> !q x).map i64) fp∧ah (fun z=>fp=some z) H H'):=by
 obtain⟨a,c,rfl⟩:=Sl.shape s
 refine aU nA ?_
 refine vs ?_
 refine(EZ f rF q s.rd Ep (hf H (ah.refl _ _)) hm).mono ?_
 rintro _ H1 ⟨⟨i0,rfl,FC⟩,e⟩
 obtain rfl:=e.symm
 refine vs ?_
 rcases FC with ⟨rfl,jZ⟩| ⟨h0,jZ,x0,im,hq0⟩
 ·refine ar.dl (by simp) ?_
  refine vs ?_
  have:xs.filter (fun x=> !q x)=xs:=by
   rw[List.filter_eq_self]
   intro x hx
   rw[jZ x hx];rfl
  rw[this]
  exact⟨s,ah.refl _ _⟩
 obtain⟨i,rfl⟩:∃i:Nat,i0=(i:Int):=by grind
 rw[Int.toNat_natCast]at jZ im
 have hi:=(aoj.1 im).1
 refine ar.dec (fun h=>by omega) (fun _=>?_)
 refine vs ?_
 obtain⟨_,b,lb0,rfl,_,_⟩:=Sl.Ab s im
 have jg:fp=some b:=by
  cases fp with
  |none=>have:=s.2.2;grind
  |some b'=>obtain⟨_,_,h1,_⟩:=s.2;grind
 subst jg
 have f0:(xs.take (i+1)).filter (fun x=> !q x)=xs.take i:=by
  rw[aoL,im,List.filter_append]
  have h1:(xs.take i).filter (fun x=> !q x)=xs.take i:=by
   rw[List.filter_eq_self]
   intro x hx
   rw[jZ x hx];rfl
  rw[h1]
  simp[hq0]
 rw[wrap64 (by omega) (by omega)]
 refine bX.intro (fun m env H'=>∃ (i j:Nat) (ys:List Int),m=xs.length - j∧j≤xs.length∧i<j∧i=((xs.take j).filter fun x=> !q x).length∧ys.length=xs.length∧ys.take i=(xs.take j).filter (fun x=> !q x)∧ys.drop j=xs.drop j∧
  Sl H' 1 (.slice (some ⟨b,0,none⟩) xs.length c) xs.length (ys.map i64) (some b)∧ah (fun z=>some b=some z) H H'∧env=[(0,.slice (some ⟨b,0,none⟩) xs.length c),(1,.func (.func f) #[] rF.toArray),(5,i64 i),(6,i64 j)]) _
  ⟨i,i+1,xs,rfl,by omega,by omega,by grind,rfl,f0.symm,rfl,s,ah.refl _ _,rfl⟩ ?_
 clear jZ im hq0 f0 hi h0
 rintro m env H2 ⟨i,j,ys,rfl,hj,NT,xY,hyl,hyt,hyd,s2,e2,rfl⟩
 obtain⟨_,lb,c2,iY,q2,No,XF,Ug⟩:=id s2
 injection iY with _ _ iY
 subst iY
 rw[aok]at XF Ug
 refine vs ?_
 refine ar.dec (fun bf=>?_) (fun bf=>?_)<;>refine vs ?_
 ·have FF:j<xs.length:=by omega
  obtain⟨x,hx⟩:∃x,xs[j]? =some x:=⟨_,aol FF⟩
  have FD:ys[j]? =some x:=by
   have h1:(ys.drop j)[0]? =(xs.drop j)[0]? :=by rw[hyd]
   grind
  have dv:lb[j]? =some (i64 x):=s2.get q2 (by grind)
  have tk:xs.take (j+1)=xs.take j++[x]:=by rw[aoL,hx];rfl
  have dj:∀zs:List Int,zs.length=xs.length→(∀k,j<k→zs[k]? =ys[k]?)→zs.drop (j+1)=xs.drop (j+1):=fun zs hz hk=>by
   apply aoM
   intro k
   have h1:(ys.drop j)[k+1]? =(xs.drop j)[k+1]? :=by rw[hyd]
   grind
  refine⟨by omega,?_⟩
  refine v5 (ae q2) aoi aok Int.toNat_natCast dv ?_
  refine⟨Ep,?_⟩
  refine ag.mono (by simpa using hf H2 e2 x) ?_
  rintro _ H3 ⟨rfl,e⟩
  obtain rfl:=e.symm
  refine vs ?_
  cases hq:q x
  ·refine vs ?_
   refine⟨by omega,?_⟩
   refine v4 q2 aoi aok Int.toNat_natCast ?_
   refine⟨by omega,?_⟩
   have s3:=s2.sf q2 i (i64 x)
   have e3:ah (fun z=>some b=some z) H2 (H2.wr b (lb.set i (i64 x))):=(ah.refl (fun z=>some b=some z) _).wr (fun _=>rfl) _
   refine vs ?_
   rw[wrap64 (n:=(i:Int)+1) (by omega) (by omega),wrap64 (n:=(j:Int)+1) (by omega) (by omega)]
   have ff:(xs.take (j+1)).filter (fun x=> !q x)=(xs.take j).filter (fun x=> !q x)++[x]:=by
    rw[tk,List.filter_append]
    simp[hq]
   refine⟨xs.length - (j+1),by omega,i+1,j+1,ys.set i x,rfl,by omega,by omega,by grind,by grind,?_,by grind,?_,e2.trans e3,rfl⟩
   ·rw[ff,←hyt,aoL,aot (by omega),List.take_set_of_le (by omega)]
    rfl
   simp_all
  ·refine vs ?_
   rw[wrap64 (n:=(j:Int)+1) (by omega) (by omega)]
   have ff:(xs.take (j+1)).filter (fun x=> !q x)=(xs.take j).filter (fun x=> !q x):=by
    rw[tk,List.filter_append]
    simp[hq]
   grind
 ·obtain rfl:j=xs.length:=by omega
  rw[aoP]at hyt xY
  refine⟨by omega,?_⟩
  refine vs ?_
  have hic:¬ (c:Int)=(i:Int):=by omega
  have hlz:(dE [Value.int .i64 0] (xs.length - i)).length=xs.length - i:=by rw[ML];simp
  rw[if_neg hic]
  refine .inr ⟨by omega,b,i,lb,?_,by rw[q2];rfl,?_,?_,?_⟩
  ·simp[Addr.add]
   omega
  ·grind [ML,BR]
  ·grind
  ·rw[Int.toNat_natCast,Int.toNat_natCast]
   have e3:ah (fun z=>some b=some z) H2 (H2.wr b (aX lb i (dE [Value.int .i64 0] (xs.length - i)))):=(ah.refl (fun z=>some b=some z) _).wr (fun _=>rfl) _
   have q3:(H2.wr b (aX lb i (dE [Value.int .i64 0] (xs.length - i)))).own b=some (aX lb i (dE [Value.int .i64 0] (xs.length - i))):=af q2
   refine vs ?_
   refine⟨by omega,?_⟩
   have DZ:¬ (c:Int)=((0:Nat):Int):=by omega
   refine vs ?_
   rw[if_neg DZ]
   rw[←hyt]
   refine⟨⟨by simp,aX lb i (dE [Value.int .i64 0] (xs.length - i)),c,?_,q3,?_,?_,?_⟩,e2.trans e3⟩
   ·have h1:(ys.take i).length=i:=by rw[ao1];omega
    rw[h1]
    rfl
   ·grind
   ·rw[gZ];omega
   ·rw[aok,ao1,Nat.min_eq_left (by omega),G0 _ _ _ (by omega),List.map_take,←Ug,apB,Nat.min_eq_left (by omega)]
section
variable {H H' : Hp} {B : QZ} {A A' : Ar} {T : Nat → Prop} {x : Int}
theorem E0(m:HU H B A):ag Tryz.prog ze [ptr B.a] H fun v H'=>ap (
  (A.pick=none∧v= .tuple [i64 0,.bool false].toArray∧H'=H)∨(∃x A',A.pick=some (x,A')∧v= .tuple [i64 x,.bool true].toArray∧HU H' B A'∧ah (fun z=>z=B.a) H H')):=by
 obtain⟨tv,o1,s1⟩:=m.own
 obtain⟨wa,wc,rfl⟩:=Sl.shape s1
 have hwl:=m.wtl.1
 have eC:=m.len
 have Ns:=m.ok.nx
 refine aU zA ?_
 refine v1 (ae o1) ?_
 refine ar.dec (fun h0=>?_) (fun h0=>?_)
 ·have bN:A.wt≠[]:=by grind
  obtain⟨k,hk⟩:∃k,A.wt.length=k+1:=⟨A.wt.length - 1,by omega⟩
  obtain⟨x,hx⟩:∃x,A.wt[k]? =some x:=⟨_,aol (by omega)⟩
  have BN:A.wt.getLastD 0=x:=by
   rw[apt,List.getLast?_eq_getElem?,hk,Nat.add_sub_cancel,hx]
   rfl
  have hdl:A.wt.dropLast=A.wt.take k:=by rw[aph,hk,Nat.add_sub_cancel]
  have hpk:A.pick=some (x,{A with wt:=A.wt.take k}):=by
   unfold Ar.pick
   grind
  obtain⟨b,lb,c,Q0,ST,qb,qk,_,_,_⟩:∃b lb c,Value.slice wa A.wt.length wc= .slice (some ⟨b,0,none⟩) A.wt.length c∧B.fo=some b∧H.own b=some lb∧lb[k]? =some (i64 x)∧k<A.wt.length∧A.wt.length≤lb.length∧True:=by
   obtain⟨h1,b,lb,rfl,q2,q3⟩:=Sl.Ab s1 hx
   have Ay:=s1
   revert Ay
   cases ST:B.fo with
   |none=>intro Ay;have:=Ay.2.2;grind
   |some b'=>
    intro Ay
    obtain⟨_,Wp,c',hs,ho,hc,AB,_⟩:=Ay
    grind
  injection Q0 with iY PJ No
  subst iY No
  obtain⟨_,Wp,c',hs,ho,hc,AB,ht⟩:(A.wt.map i64).length=A.wt.length*1∧∃l c',Value.slice (some ⟨b,0,none⟩) A.wt.length wc= .slice (some ⟨b,0,none⟩) A.wt.length c'∧H.own b=some l∧A.wt.length≤c'∧c'*1≤l.length∧l.take (A.wt.length*1)=A.wt.map i64:=by
   have:=s1
   rw[ST]at this
   exact this
  injection hs with _ _ hs
  subst hs
  rw[qb]at ho
  injection ho with ho
  subst ho
  rw[aok]at AB ht
  refine v1 (ae o1) ?_
  rw[wrap64 (n:=(A.wt.length:Int) - 1) (by omega) (by omega)]
  refine⟨by omega,?_⟩
  rw[show((A.wt.length:Int) - 1).toNat=k by omega]
  refine v5 (ae qb) aoi aok qk (ae o1) ?_
  rw[wrap64 (n:=(A.wt.length:Int) - 1) (by omega) (by omega)]
  refine⟨by omega,?_⟩
  refine v1 o1 ?_
  rw[if_neg (by omega)]
  have e1:∀l,ah (fun z=>z=B.a) H (H.wr B.a l):=fun l=>(ah.refl (fun z=>z=B.a) _).wr (fun _=>rfl) _
  have Np:(A.wt.take k).length=k:=by rw[ao1];omega
  refine .inr ⟨x,_,hpk,rfl,⟨⟨_,af o1,?_⟩,(e1 _).own m.sl (Ne.symm m.ne.1),m.ne,m.len,⟨fun y hy=>m.ok.wl y (by grind),m.ok.wd.sublist (by grind),m.ok.fr,m.ok.ct,m.ok.nx⟩,m.gs,m.mo⟩,e1 _⟩
  have hb:b≠B.a:=fun e=>m.ne.2.1 (by grind)
  refine⟨by simp,?_⟩
  rw[ST]
  refine⟨lb,wc,?_,(e1 _).own qb hb,by grind,by omega,?_⟩
  ·rw[Np,show((A.wt.length:Int) - 1).toNat - ((0:Nat):Int).toNat=k by omega]
   rfl
  ·rw[aok,List.map_take,←ht,apB]
   grind
 ·refine v1 (ae o1) ?_
  have he:A.wt=[]:=aoI.1 (by omega)
  refine ar.dec (fun h1=>?_) (fun h1=>?_)
  ·refine vs ?_
   refine .inl ⟨?_,rfl,rfl⟩
   unfold Ar.pick
   grind
  ·refine v2 (ae o1) o1 ?_
   rw[wrap64 (n:=(A.nx:Int)+1) (by omega) (by omega)]
   have e1:∀l,ah (fun z=>z=B.a) H (H.wr B.a l):=fun l=>(ah.refl (fun z=>z=B.a) _).wr (fun _=>rfl) _
   have q1:∀l,(H.wr B.a l).own B.a=some l:=fun l=>af o1
   simp(disch:=(first|omega| (simp only[Zs]<;>omega)|fail)) only[go_sem, ↓reduceIte,Zv,ae (q1 _)]
   rw[wrap64 (n:=(A.nx:Int)+1 - 1) (by omega) (by omega)]
   have hpk:A.pick=some ((A.nx:Int),{A with nx:=A.nx+1}):=by
    unfold Ar.pick
    grind
   rw[show(A.nx:Int)+1 - 1=(A.nx:Int) by omega]
   refine .inr ⟨_,_,hpk,rfl,⟨⟨.slice wa A.wt.length wc,q1 _,s1.ext (e1 _) (fun b hb e=>m.ne.2.1 (by grind))⟩,(e1 _).own m.sl (Ne.symm m.ne.1),m.ne,m.len,⟨by grind,m.ok.wd,fun y hy=>m.ok.fr y (by grind),m.ok.ct,by grind⟩,m.gs,m.mo⟩,e1 _⟩
theorem E1(m:HU H B A)(OT:∀x:Int,0≤x→x<A.g.length→A.cB x<4294967295):ag Tryz.prog zb [ptr B.a] H fun v H'=>ap (
  (A.pick=none∧v= .tuple [jk 0 0,i64 32].toArray∧HU H' B A∧ai H H')∨(∃x A',A.pick=some (x,A')∧v= .tuple [jk x (A.cB x+1),i64 0].toArray∧HU H' B (A'.out x)∧ah B.S H H')):=by
 have bL:=m.slt
 refine aU zw ?_
 refine vs ?_
 have f0:ai H (H.new 29 [Value.int .i64 0,Value.int .u32 0]):=(ah.refl _ _).new _ _
 have b0:(H.new 29 [Value.int .i64 0,Value.int .u32 0]).own H.size=some [Value.int .i64 0,Value.int .u32 0]:=aA _ _ _
 have m0:=m.ext f0 (fun _ _ h=>h)
 generalize H.new 29 [Value.int .i64 0,Value.int .u32 0]=H0 at*
 have MM:∀z,B.S z→z≠H.size:=by grind
 refine(E0 m0).mono ?_
 rintro _ H1 (⟨hp,rfl,e⟩| ⟨x,A',hp,rfl,m1,e1⟩)
 ·obtain rfl:=e.symm
  refine v1 b0 ?_
  have e1:ah (fun z=>z=H.size) H0 (H0.wr H.size [Value.int .i64 0,Value.int .u32 0]):=(ah.refl (fun z=>z=H.size) _).wr (fun _=>rfl) _
  have b1:(H0.wr H.size [Value.int .i64 0,Value.int .u32 0]).own H.size=some [Value.int .i64 0,Value.int .u32 0]:=af b0
  refine v1 (ae b1) ?_
  exact .inl ⟨hp,rfl,m0.ext e1 (by omega),f0.then e1 (by omega)⟩
 obtain⟨ut,rS,hxw,Lx,hg,hct,hmo⟩:=Ar.JZ hp m.ok
 have b1:=e1.own b0 (fun e=>MM B.a (.inl rfl) e.symm)
 obtain⟨Dt,o1,s1⟩:=m1.own
 have eC:=m1.len
 have abr:0≤x∧x<A'.g.length:=by rw[hg];exact ut
 obtain⟨b,hb,uF⟩:=Ar.get (A:=A') abr
 have hgx:A'.cB x=A.cB x:=by unfold Ar.cB;rw[hg]
 have hgb:=OT x ut.1 ut.2
 obtain⟨c1,c2⟩:=vS hb
 obtain⟨w1,_⟩:=Du hb
 have hl:=rD A'.g
 refine v1 (ae o1) ?_
 refine⟨by omega,?_⟩
 refine v5 (ae m1.sl) m1.sl aoi Nat.add_zero c1 ?_
 refine⟨by omega,?_⟩
 rw[PD (n:=(A'.cB x:Int)+1) (by omega) (by omega),show(A'.cB x:Int)+1=((A'.cB x+1:Nat):Int) by omega]
 refine v1 w1 ?_
 have e2:ah (fun z=>z=B.sb) H1 (H1.wr B.sb (eB (A'.g.set x.toNat (A'.cB x+1,b)))):=(ah.refl (fun z=>z=B.sb) _).wr (fun _=>rfl) _
 have q2:(H1.wr B.sb (eB (A'.g.set x.toNat (A'.cB x+1,b)))).own B.sb=some (eB (A'.g.set x.toNat (A'.cB x+1,b))):=af m1.sl
 generalize H1.wr B.sb (eB (A'.g.set x.toNat (A'.cB x+1,b)))=H2 at*
 have yt:(A'.g.set x.toNat (A'.cB x+1,b))[x.toNat]? =some (A'.cB x+1,b):=by grind
 obtain⟨d1,_⟩:=vS yt
 have w2:=(Du yt).2 true
 rw[List.set_set]at w2
 have uG:=rD (A'.g.set x.toNat (A'.cB x+1,b))
 rw[aom]at uG
 refine v3 q2 aoi Nat.add_zero ?_
 refine⟨by omega,?_⟩
 refine v1 w2 ?_
 have e3:ah (fun z=>z=B.sb) H2 (H2.wr B.sb (eB (A'.g.set x.toNat (A'.cB x+1,true)))):=(ah.refl (fun z=>z=B.sb) _).wr (fun _=>rfl) _
 have q3:(H2.wr B.sb (eB (A'.g.set x.toNat (A'.cB x+1,true)))).own B.sb=some (eB (A'.g.set x.toNat (A'.cB x+1,true))):=af q2
 generalize H2.wr B.sb (eB (A'.g.set x.toNat (A'.cB x+1,true)))=H3 at*
 have z8:=e2.trans e3
 have o3:=z8.own o1 m.ne.1
 have afn:=m1.ok.ct
 have abt:=Ar.Ps A'
 refine v2 (ae o3) o3 ?_
 rw[wrap64 (n:=A'.ct+1) (by omega) (by omega)]
 have e4:∀l,ah (fun z=>z=B.a) H3 (H3.wr B.a l):=fun l=>(ah.refl (fun z=>z=B.a) _).wr (fun _=>rfl) _
 have q4:∀l,(H3.wr B.a l).own B.a=some l:=fun l=>af o3
 have RM:=(e4 [.slice (some ⟨B.sb,0,none⟩) A'.g.length A'.g.length,Dt,i64 A'.nx,i64 (A'.ct+1),.int .u32 (A'.mo:Int)]).own q3 (Ne.symm m.ne.1)
 have b3:=(e4 [.slice (some ⟨B.sb,0,none⟩) A'.g.length A'.g.length,Dt,i64 A'.nx,i64 (A'.ct+1),.int .u32 (A'.mo:Int)]).own (z8.own b1 (fun e=>MM B.sb (.inr (.inl rfl)) e.symm)) (by grind)
 have Ud:(A'.g.set x.toNat (A'.cB x+1,true))[x.toNat]? =some (A'.cB x+1,true):=by grind
 obtain⟨d3,_⟩:=vS Ud
 have s4:=(s1.ext z8 (fun b hb e=>m.ne.2.2 (by grind))).ext (e4 [.slice (some ⟨B.sb,0,none⟩) A'.g.length A'.g.length,Dt,i64 A'.nx,i64 (A'.ct+1),.int .u32 (A'.mo:Int)]) (fun b hb e=>m.ne.2.1 (by grind))
 have m4:HU (H3.wr B.a [.slice (some ⟨B.sb,0,none⟩) A'.g.length A'.g.length,Dt,i64 A'.nx,i64 (A'.ct+1),.int .u32 (A'.mo:Int)]) B (A'.out x):=by
  refine⟨⟨Dt,?_,s4⟩,RM,m.ne,?_,m1.ok.out hg abr (fun h=>rS (by unfold Ar.live at h ⊢;grind)) hxw Lx,fun y hy=>?_,m1.mo⟩
  ·show _=some [.slice (some ⟨B.sb,0,none⟩) (A'.g.set x.toNat (A'.cB x+1,true)).length (A'.g.set x.toNat (A'.cB x+1,true)).length,Dt,i64 A'.nx,i64 (A'.ct+1),.int .u32 (A'.mo:Int)]
   grind
  ·show(A'.g.set x.toNat (A'.cB x+1,true)).length≤_
   grind
  ·rcases apa hy with h|h
   ·exact m1.gs y h
   grind
 have e4':=e4 [.slice (some ⟨B.sb,0,none⟩) A'.g.length A'.g.length,Dt,i64 A'.nx,i64 (A'.ct+1),.int .u32 (A'.mo:Int)]
 generalize H3.wr B.a [.slice (some ⟨B.sb,0,none⟩) A'.g.length A'.g.length,Dt,i64 A'.nx,i64 (A'.ct+1),.int .u32 (A'.mo:Int)]=H4 at*
 have Ac:ah B.S H H4:=((f0.mono fun _ _ h=>h.elim).trans (e1.mono fun z _ h=>.inl h)).trans ((z8.mono fun z _ h=>.inr (.inl h)).trans (e4'.mono fun z _ h=>.inl h))
 refine v5 (ae RM) aoi Nat.add_zero d3 b3 ?_
 have e5:ah (fun z=>z=H.size) H4 (H4.wr H.size [Value.int .i64 x,Value.int .u32 ((A'.cB x+1:Nat):Int)]):=(ah.refl (fun z=>z=H.size) _).wr (fun _=>rfl) _
 have b5:(H4.wr H.size [Value.int .i64 x,Value.int .u32 ((A'.cB x+1:Nat):Int)]).own H.size=some [Value.int .i64 x,Value.int .u32 ((A'.cB x+1:Nat):Int)]:=af b3
 refine v1 (ae b5) ?_
 refine .inr ⟨x,A',hp,by rw[hgx];rfl,m4.ext e5 (by omega),⟨aoK Ac.size e5.size,fun z hz hn=>?_⟩⟩
 cases Ac;cases e5;grind
theorem tM(m:HU H B A){x:Int}(hx:A.live x):ag Tryz.prog zc [ptr B.a,jk x (A.cB x)] H fun v H'=>ap (v=i64 0∧∃Lt,HU H' ⟨B.a,B.sb,Lt⟩ (A.back x)∧ah B.S H H'∧∀z,Lt=some z→B.fo=some z∨H.size≤z):=by
 have bL:=m.slt
 have ut:=Ar.rT hx
 obtain⟨b,hb,uF⟩:=Ar.get (A:=A) ut
 obtain rfl:=uF.1 hx
 have hl:=rD A.g
 have w1:=(Du hb).2 false
 have eC:=m.len
 have afn:=m.ok.ct
 have abt:=Ar.Ps A
 refine Fz zx ⟨rfl,?_⟩
 refine v1 ol.eq_1 ?_
 have f0:ai H (H.new 29 [i64 x,.int .u32 (A.cB x:Int)]):=(ah.refl _ _).new _ _
 have b0:(H.new 29 [i64 x,.int .u32 (A.cB x:Int)]).own H.size=some [i64 x,.int .u32 (A.cB x:Int)]:=aA _ _ _
 have m0:=m.ext f0 (fun _ _ h=>h)
 generalize H.new 29 [i64 x,.int .u32 (A.cB x:Int)]=H0 at*
 have MM:∀z,B.S z→z≠H.size:=by grind
 refine(iy m0 x (A.cB x)).mono ?_
 rintro _ H1 ⟨rfl,f1⟩
 rw[aov ⟨hx,rfl⟩]
 have m1:=m0.ext f1 (fun _ _ h=>h)
 have b1:=f1.own b0 (fun h=>h)
 obtain⟨Dt,o1,s1⟩:=m1.own
 refine v2 (ae o1) (ae b1) ?_
 refine⟨by omega,?_⟩
 refine v2 m1.sl aoi ?_
 refine⟨by omega,?_⟩
 refine v1 w1 ?_
 have e2:ah (fun z=>z=B.sb) H1 (H1.wr B.sb (eB (A.g.set x.toNat (A.cB x,false)))):=(ah.refl (fun z=>z=B.sb) _).wr (fun _=>rfl) _
 have q2:(H1.wr B.sb (eB (A.g.set x.toNat (A.cB x,false)))).own B.sb=some (eB (A.g.set x.toNat (A.cB x,false))):=af m1.sl
 generalize H1.wr B.sb (eB (A.g.set x.toNat (A.cB x,false)))=H2 at*
 have o2:=e2.own o1 m.ne.1
 have b2:=e2.own b1 (fun e=>MM B.sb (.inr (.inl rfl)) e.symm)
 refine v2 (ae o2) o2 ?_
 rw[wrap64 (n:=A.ct - 1) (by omega) (by omega)]
 have e3:∀l,ah (fun z=>z=B.a) H2 (H2.wr B.a l):=fun l=>(ah.refl (fun z=>z=B.a) _).wr (fun _=>rfl) _
 have q3:∀l,(H2.wr B.a l).own B.a=some l:=fun l=>af o2
 have b3:=fun l=>(e3 l).own b2 (by grind)
 have q2':=fun l=>(e3 l).own q2 (Ne.symm m.ne.1)
 have s3:=fun l=>(s1.ext e2 (fun b hb e=>m.ne.2.2 (by grind))).ext (e3 l) (fun b hb e=>m.ne.2.1 (by grind))
 obtain⟨l3,SS⟩:∃l3,l3=[.slice (some ⟨B.sb,0,none⟩) A.g.length A.g.length,Dt,i64 A.nx,i64 (A.ct - 1),.int .u32 (A.mo:Int)]:=⟨_,rfl⟩
 have RM:=q3 l3
 have XG:=b3 l3
 have Vd:=q2' l3
 have s3':=s3 l3
 have ZC:=e3 l3
 rw[SS]at RM XG Vd s3' ZC
 generalize H2.wr B.a [.slice (some ⟨B.sb,0,none⟩) A.g.length A.g.length,Dt,i64 A.nx,i64 (A.ct - 1),.int .u32 (A.mo:Int)]=H3 at*
 have z8:ah B.S H H3:=((f0.mono fun _ _ h=>h.elim).trans (f1.mono fun _ _ h=>h.elim)).trans ((e2.mono fun z _ h=>.inr (.inl h)).trans (ZC.mono fun z _ h=>.inl h))
 have pR:=m.ok.back hx
 have hgs:∀y∈(A.back x).g,y.1≤4294967295:=fun y hy=>by
  rcases apa hy with h|h
  ·exact m.gs y h
  cases m;grind
 have bu:(A.back x).g.length=A.g.length:=aom ..
 refine v2 (ae XG) (ae RM) ?_
 refine ar.dec (fun hm=>?_) (fun hm=>?_)
 rotate_left
 ·refine vs ?_
  have hwt:(A.back x).wt=A.wt:=by show(if A.cB x<A.mo then _ else _)=_;grind
  refine⟨rfl,B.fo,⟨⟨Dt,by rw[bu];exact RM,by grind⟩,Vd,m.ne,by omega,pR,hgs,m.mo⟩,z8,fun z hz=>.inl hz⟩
 have hwt:(A.back x).wt=A.wt++[x]:=by show(if A.cB x<A.mo then _ else _)=_;grind
 have hwl:=m.wtl.1
 obtain⟨ta,tc,rfl⟩:=Sl.shape s3'
 refine vs ?_
 refine fV.intro (fun H'=>True) trivial ?_
 refine vs ?_
 have hbs:H.size<H3.size:=aE XG
 have has:B.a<H3.size:=aE RM
 have fin:∀ (K:Value→Hp→Prop),(∀w' H4 di,Sl H4 1 w' (A.wt++[x]).length ((A.wt++[x]).map i64) di→(di=B.fo∨∃z,di=some z∧H3.size≤z∧z<H4.size)→ah (fun z=>B.fo=some z) H3 H4→K w' H4)→
   gH 3 1 8 [i64 0] (.slice ta A.wt.length tc) (.slice (some ⟨H3.size,0,none⟩) 1 1) (H3.new 3 [i64 x]) K:=fun K hK=>by
  grind [SR]
 refine Fy.intro ?C ?D
 case' C=>
  refine v2 (ae RM) (ae XG) ?_
 case' D=>
  refine v2 (ae RM) (ae XG) ?_
  refine Fy.intro ?E ?F
  case' E=>
   refine v2 (ae RM) (ae XG) ?_
  case' F=>
   refine v2 (ae RM) (ae XG) ?_
 all_goals
  refine fin _ fun w' H4 di s4 jg e4=>?_
  obtain⟨wa,wc,rfl⟩:=Sl.shape s4
  have o4:=e4.own RM (fun e=>m.ne.2.1 e)
  have q4:=e4.own Vd (fun e=>m.ne.2.2 e)
  refine v1 o4 ?_
  have e5:∀l,ah (fun z=>z=B.a) H4 (H4.wr B.a l):=fun l=>(ah.refl (fun z=>z=B.a) _).wr (fun _=>rfl) _
  have aki:=z8.size
  refine⟨rfl,di,⟨⟨_,by rw[bu];exact af o4,?_⟩,(e5 _).own q4 (Ne.symm m.ne.1),⟨m.ne.1,fun h=>?_,fun h=>?_⟩,by omega,pR,hgs,m.mo⟩,?_,fun z hz=>?_⟩
  ·cases m;grind [Sl.ext]
  ·cases m;grind
  ·rcases jg with h2| ⟨y,h2,h3,_⟩
   ·cases m;grind
   ·have:=aE Vd
    grind
  ·exact(z8.trans (e4.mono fun z _ h=>.inr (.inr h))).trans ((e5 _).mono fun z _ h=>.inl h)
  grind
end
end Go.Proofs.YtjkkkibiegfecaaGreatDoor

namespace Go.Proofs.YtjkkkibiegfecaaGreatDoor
open Go Go.Vc
structure tN(ov:Value)(I:Hp→(Nat→Prop)→Nw→Prop):Prop where
 slt:∀ {H S w},I H S w→∀z,S z→z<H.size
 ext:∀ {H H' S w} {T:Nat→Prop},I H S w→ah T H H'→(∀z,S z→¬T z)→I H' S w
 cells:∀ {H S w},I H S w→∃c C,CQ H c C w
 has:∀ {H S w} (g:Int),I H S w→fW Tryz.prog ov "Has" [i64 g] H fun v H'=>v= .bool (decide (w.has g))∧H=H'
 make:∀ {H S w},I H S w→fW Tryz.prog ov "Make" [] H fun v H'=>
  (w.hs.length=65537∧v=i64 0∧bq I S H H' w)∨(w.hs.length≠65537∧v=i64 w.hs.length∧bq I S H H' w.make)
 insert:∀ {H S w} (g x k s:Int),I H S w→fW Tryz.prog ov "Insert" [i64 g,i64 x,tE k s] H fun v H'=>
  (¬w.mw g x∧v= .bool false∧bq I S H H' w)∨(w.mw g x∧v= .bool true∧bq I S H H' (w.put x (g,k,s)))
 min:∀ {H S w} (g:Int),I H S w→fW Tryz.prog ov "Min" [i64 g] H fun v H'=>
  (w.len g=0∧v= .tuple [i64 0,.bool false].toArray∧bq I S H H' w)∨(∃x,w.first g x∧v= .tuple [i64 x,.bool true].toArray∧bq I S H H' w)
 extract:∀ {H S w} (g:Int),I H S w→fW Tryz.prog ov "Extract" [i64 g] H fun v H'=>
  (w.len g=0∧v= .tuple [i64 0,.bool false].toArray∧bq I S H H' w)∨(∃x,w.first g x∧v= .tuple [i64 x,.bool true].toArray∧bq I S H H' (w.put x (0,0,0)))
 mc:∀ {H S w} (x k s:Int),I H S w→fW Tryz.prog ov "Decrease" [i64 x,tE k s] H fun v H'=>
  (¬w.du x k s∧v= .bool false∧bq I S H H' w)∨(w.du x k s∧v= .bool true∧∃y,w.cs[x.toNat]? =some y∧bq I S H H' (w.put x (y.1,k,s)))
 entry:∀ {H S w} (x:Int),I H S w→fW Tryz.prog ov "Entry" [i64 x] H fun v H'=>I H' S w∧ai H H'∧
  ((¬cI w.cs x∧v= .tuple [tE 0 0,.bool false].toArray)∨(cI w.cs x∧∃y,w.cs[x.toNat]? =some y∧v= .tuple [tE y.2.1 y.2.2,.bool true].toArray))
 len:∀ {H S w} (g:Int),I H S w→fW Tryz.prog ov "Len" [i64 g] H fun v H'=>v=i64 (w.len g)∧H=H'
 home:∀ {H S w} (x:Int),I H S w→fW Tryz.prog ov "Home" [i64 x] H fun v H'=>
  (¬cI w.cs x∧v= .tuple [i64 0,.bool false].toArray∧bq I S H H' w)∨(cI w.cs x∧v= .tuple [i64 (aF w x),.bool true].toArray∧bq I S H H' w)
 delete:∀ {H S w} (x:Int),I H S w→fW Tryz.prog ov "Delete" [i64 x] H fun v H'=>
  (¬cI w.cs x∧v= .bool false∧bq I S H H' w)∨(cI w.cs x∧v= .bool true∧bq I S H H' (w.put x (0,0,0)))
 yP:∀ {H S w} (a b:Int),I H S w→fW Tryz.prog ov "Meld" [i64 a,i64 b] H fun v H'=>
  (¬ (w.has a∧w.has b∧a≠b)∧v= .bool false∧bq I S H H' w)∨((w.has a∧w.has b∧a≠b)∧v= .bool true∧bq I S H H' (w.join a b))
structure IN(w:Nw)(A:Ar):Prop where
 len:w.cs.length=A.g.length
 live:∀x,cI w.cs x↔A.live x
def nD(H:Hp)(s:Nat)(S:Nat→Prop)(w:Nw)(A:Ar)(q:Int):Prop:=∃ (t:TypeId) (vv:Value) (I:Hp→(Nat→Prop)→Nw→Prop) (Sn:Nat→Prop) (B:QZ) (k d:Int),
 tN (.iface t vv) I∧I H Sn w∧HU H B A∧H.own s=some [i64 k,i64 d,ptr B.a,.iface t vv,u64 q]∧(∀z,Sn z→¬B.S z∧z≠s)∧¬B.S s∧(∀z,S z↔Sn z∨B.S z∨z=s)∧IN w A
theorem nD.slt{H:Hp}{s:Nat}{S:Nat→Prop}{w:Nw}{A:Ar}{q:Int}(h:nD H s S w A q):∀z,S z→z<H.size:=by
 obtain⟨t,vv,I,Sn,B,k,d,n,hi,m,ho,d1,d2,hS,hl⟩:=h
 intro z hz
 rcases(hS z).1 hz with h|h|h
 ·exact n.slt hi z h
 ·exact m.slt z h
 ·rw[h];exact aE ho
theorem nD.ext{H H':Hp}{s:Nat}{S T:Nat→Prop}{w:Nw}{A:Ar}{q:Int}(h:nD H s S w A q)(e:ah T H H')(hd:∀z,S z→¬T z):nD H' s S w A q:=by
 obtain⟨t,vv,I,Sn,B,k,d,n,hi,m,ho,d1,d2,hS,hl⟩:=h
 exact⟨t,vv,I,Sn,B,k,d,n,n.ext hi e (by grind),m.ext e (by grind),e.own ho (by grind),d1,d2,hS,hl⟩
theorem nD.RN{H:Hp}{s:Nat}{S:Nat→Prop}{w:Nw}{A:Ar}{q:Int}(h:nD H s S w A q):IN w A∧CL A∧A.g.length≤65536:=by
 obtain⟨t,vv,I,Sn,B,k,d,n,hi,m,ho,d1,d2,hS,hl⟩:=h
 exact⟨hl,m.ok,m.len⟩
def oM(s:Nat)(S:Nat→Prop)(H H':Hp)(w':Nw)(A':Ar)(q':Int):Prop:=∃S',nD H' s S' w' A' q'∧ah S H H'∧∀z,S' z→S z∨H.size≤z
section
variable {H H' : Hp} {s : Nat} {S : Nat → Prop} {w : Nw} {A : Ar} {q : Int}
theorem JL(H:Hp)(T:TypeId)(z l:List Value):ai H ((H.new T z).wr H.size l)∧((H.new T z).wr H.size l).own H.size=some l∧((H.new T z).wr H.size l).size=H.size+1:=by
 have f0:ai H (H.new T z):=(ah.refl _ _).new _ _
 have e1:ah (fun x=>x=H.size) (H.new T z) ((H.new T z).wr H.size l):=(ah.refl (fun x=>x=H.size) _).wr (fun _=>rfl) _
 exact⟨f0.then e1 (by omega),af (aA _ _ _),by rw[eR,ak]⟩
theorem MN{H:Hp}{b:Nat}{l0:List Value}(h:H.own b=some l0)(l:List Value):ah (fun x=>x=b) H (H.wr b l)∧(H.wr b l).own b=some l:=⟨(ah.refl (fun x=>x=b) _).wr (fun _=>rfl) _,af h⟩
theorem E2(h:nD H s S w A q)(hl:w.hs.length<65537):ag Tryz.prog za [ptr s] H fun v H'=>ap (v= .tuple [i64 w.hs.length,i64 0].toArray∧oM s S H H' w.make A q):=by
 obtain⟨t,vv,I,Sn,B,k,d,n,hi,m,ho,d1,d2,hS,qn⟩:=h
 obtain⟨c,C,cq⟩:=n.cells hi
 have gI:=cq.pos
 refine aU zv ?_
 refine v1 (ae ho) ?_
 refine(n.make hi).mono ?_
 rintro _ H1 (⟨h1,_⟩| ⟨_,rfl,yC,hi',e1,iY⟩)
 ·omega
 refine vs ?_
 refine ar.dec (fun hh=>by omega) (fun _=>?_)
 refine vs ?_
 have EW:=m.slt
 have ZD:=aE ho
 refine⟨rfl,fun z=>yC z∨B.S z∨z=s,⟨t,vv,I,yC,B,k,d,n,hi',m.ext e1 (by grind),e1.own ho (by grind),fun z hz=>?_,d2,fun z=>Iff.rfl,⟨qn.len,qn.live⟩⟩,e1.mono (by grind),fun z hz=>?_⟩
 ·grind
 grind
theorem IN.put{w:Nw}{A A':Ar}(l:IN w A){x:Int}(hx:0≤x∧x<A.g.length){y:Ce}{v:Nat}(hg:A'.g=A.g.set x.toNat (v,decide (0<y.1))):IN (w.put x y) A':=by
 have PN:0≤x∧x<w.cs.length:=by rw[l.len];exact hx
 refine⟨by rw[hg,aom];simp[Nw.put,l.len],fun z=>?_⟩
 by_cases h0:0≤z
 ·rw[Ar.uK hx hg h0,←bB,dR PN]
  by_cases e:z=x
  ·grind
  ·rw[if_neg e,if_neg e,bB]
   exact l.live z
 ·exact⟨fun h=>absurd h.1 h0,fun h=>absurd h.1 h0⟩
theorem G1(h:nD H s S w A q){g key:Int}(hg:w.has g)(OT:∀x:Int,0≤x→x<A.g.length→A.cB x<4294967295)(hq:0≤q∧q<18446744073709551615):ag Tryz.prog pt [ptr s,i64 g,i64 key] H fun v H'=>ap (
  (A.pick=none∧v= .tuple [jk 0 0,i64 32].toArray∧oM s S H H' w A q)∨(∃x A',A.pick=some (x,A')∧v= .tuple [jk x (A.cB x+1),i64 0].toArray∧oM s S H H' (w.put x (g,key,q+1)) (A'.out x) (q+1))):=by
 have bL:=h.slt
 obtain⟨t,vv,I,Sn,B,k,d,n,hi,m,ho,d1,d2,hS,qn⟩:=h
 refine aU pA ?_
 refine vs ?_
 have f0:ai H (H.new 29 [Value.int .i64 0,Value.int .u32 0]):=(ah.refl _ _).new _ _
 have b0:(H.new 29 [Value.int .i64 0,Value.int .u32 0]).own H.size=some [Value.int .i64 0,Value.int .u32 0]:=aA _ _ _
 have z0:(H.new 29 [Value.int .i64 0,Value.int .u32 0]).size=H.size+1:=ak _ _ _
 generalize H.new 29 [Value.int .i64 0,Value.int .u32 0]=H0 at*
 have m0:=m.ext f0 (fun _ _ h=>h)
 have FC:=n.ext hi f0 (fun _ _ h=>h)
 have o0:=f0.own ho (fun h=>h)
 have bN:∀z,S z→z≠H.size:=by grind
 refine v1 (ae o0) ?_
 refine(n.has g FC).mono ?_
 rintro _ _ ⟨rfl,rfl⟩
 rw[aov hg]
 refine v1 (ae o0) ?_
 refine(E1 m0 OT).mono ?_
 rintro _ H1 (⟨hp,rfl,m1,f1⟩| ⟨x,A',hp,rfl,m1,e1⟩)
 ·have b1:=f1.own b0 (fun h=>h)
  refine vs ?_
  obtain⟨f2,b2,z2⟩:=JL H1 29 [Value.int .i64 0,Value.int .u32 0] [i64 0,Value.int .u32 ((0:Nat):Int)]
  generalize (H1.new 29 [Value.int .i64 0,Value.int .u32 0]).wr H1.size [i64 0,Value.int .u32 ((0:Nat):Int)]=H2 at*
  have b3:=f2.own b1 (fun h=>h)
  refine ar.dec (fun hh=>by omega) (fun _=>?_)
  refine v1 b3 ?_
  obtain⟨e4,b4⟩:=MN b3 [Value.int .i64 0,Value.int .u32 0]
  refine v1 (ae b4) ?_
  have hse:ah S H (H2.wr H.size [Value.int .i64 0,Value.int .u32 0]):=by
   have h1:=(f0.trans f1).trans f2
   exact(h1.then e4 (by omega)).mono fun _ _ h=>h.elim
  refine .inl ⟨hp,rfl,S,⟨t,vv,I,Sn,B,k,d,n,?_,?_,?_,d1,d2,hS,qn⟩,hse,fun z hz=>.inl hz⟩
  ·exact n.ext (n.ext (n.ext FC f1 (fun _ _ h=>h)) f2 (fun _ _ h=>h)) e4 (by grind)
  ·exact(m1.ext f2 (fun _ _ h=>h)).ext e4 (by grind)
  ·exact e4.own (f2.own (f1.own o0 (fun h=>h)) (fun h=>h)) (by grind)
 ·obtain⟨ut,rS,_,_,hAg,_,_⟩:=Ar.JZ hp m.ok
  have b1:=e1.own b0 (by grind)
  have o1:=e1.own o0 d2
  have OG:=n.ext FC e1 (by grind)
  refine vs ?_
  obtain⟨f2,b2,z2⟩:=JL H1 29 [Value.int .i64 0,Value.int .u32 0] [i64 x,Value.int .u32 ((A.cB x+1:Nat):Int)]
  generalize (H1.new 29 [Value.int .i64 0,Value.int .u32 0]).wr H1.size [i64 x,Value.int .u32 ((A.cB x+1:Nat):Int)]=H2 at*
  have b3:=f2.own b1 (fun h=>h)
  have o2:=f2.own o1 (fun h=>h)
  have xZ:=n.ext OG f2 (fun _ _ h=>h)
  have m2:=m1.ext f2 (fun _ _ h=>h)
  refine ar.dec (fun _=>?_) (fun hh=>absurd trivial hh)
  refine v2 (ae o2) o2 ?_
  rw[UT (n:=q+1) (by omega) (by omega)]
  obtain⟨e4,o3⟩:=MN o2 [i64 k,i64 d,ptr B.a,.iface t vv,u64 (q+1)]
  have QJ:=aE o2
  have RJ:=e1.size
  have akk:=aE ho
  have b5:=e4.own b3 (by omega)
  have b6:=e4.own b2 (fun e=>by omega)
  have PQ:=n.ext xZ e4 (by grind)
  have m3:=m2.ext e4 (by grind)
  generalize H2.wr s [i64 k,i64 d,ptr B.a,.iface t vv,u64 (q+1)]=H3 at*
  refine v2 (ae o3) (ae b6) ?_
  refine(n.insert g x key (q+1) PQ).mono ?_
  obtain⟨c,C,cq⟩:=n.cells PQ
  have Lx:¬cI w.cs x:=fun h=>rS ((qn.live x).1 h)
  rintro _ H4 (⟨bU,_⟩| ⟨_,rfl,yC,hi4,e5,Ug⟩)
  ·exact absurd ⟨hg,by rw[qn.len];exact ut,Lx⟩ bU
  have hz4:=e4.size
  have Ve:∀z,H.size≤z→¬Sn z:=by grind
  have b7:=e5.own b6 (Ve _ (by omega))
  have b8:=e5.own b5 (by grind)
  refine v2 (ae b7) b8 ?_
  obtain⟨e9,b9⟩:=MN b8 [i64 x,Value.int .u32 ((A.cB x+1:Nat):Int)]
  refine v1 (ae b9) ?_
  have o4:=e5.own o3 (by grind)
  have m4:=m3.ext e5 (by grind)
  have EW:=m.slt
  have hz5:=e5.size
  have MM:∀z,B.S z→z<H.size:=EW
  have afp:∀z,yC z→Sn z∨H.size<z:=by grind
  refine .inr ⟨x,A',hp,rfl,fun z=>yC z∨B.S z∨z=s,⟨t,vv,I,yC,B,k,d,n,n.ext hi4 e9 (fun z hz e=>?_),m4.ext e9 (fun z hz e=>?_),e9.own o4 (by omega),fun z hz=>?_,d2,fun z=>Iff.rfl,?_⟩,?_,fun z hz=>?_⟩
  ·grind
  ·grind
  ·grind
  ·refine qn.put ut (v:=A.cB x+1) ?_
   have hgx:A'.cB x=A.cB x:=by unfold Ar.cB;rw[hAg]
   show A'.g.set x.toNat (A'.cB x+1,true)=_
   rw[hgx,hAg]
   exact aoo (fun b=>A.g.set x.toNat (A.cB x+1,b)) (aov hg.1).symm
  ·have h1:ah S H H3:=((f0.mono fun _ _ h=>h.elim).trans (e1.mono (by grind))).trans ((f2.mono fun _ _ h=>h.elim).trans (e4.mono (by grind)))
   have h2:=h1.trans (e5.mono (by grind))
   exact⟨aoK h2.size e9.size,fun z hz hn=>by cases e9;cases h2;grind⟩
  grind
end
end Go.Proofs.YtjkkkibiegfecaaGreatDoor

namespace Go.Proofs.YtjkkkibiegfecaaGreatDoor
open Go Go.Vc
def Wq(L:List (Int×Nat)):List Value:=L.flatMap fun h=>[i64 h.1,.int .u32 (h.2:Int)]
def ArV(H:Hp)(l:List Value)(A:Ar)(T G:List (Int×Nat))(Bs:Nat→Prop)(N:Nat):Prop:=
 ∃ta tc ga gc,l=[i64 A.g.length,.int .u32 (A.mo:Int),.slice ta T.length tc,.slice ga G.length gc]∧fh H 2 (.slice ta T.length tc) T.length (Wq T)∧fh H 2 (.slice ga G.length gc) G.length (Wq G)∧
  (∀x,ta=some x→Bs x.block)∧(∀x,ga=some x→Bs x.block)∧ArR A T G∧CL A∧T.length≤N∧G.length≤N
section
variable {H : Hp} {l : List Value} {A : Ar} {T G : List (Int × Nat)} {Bs Q : Nat → Prop} {N : Nat}
theorem ArV.mono{B2:Nat→Prop}(h:ArV H l A T G Bs N)(hb:∀b,Bs b→B2 b):ArV H l A T G B2 N:=by
 obtain⟨ta,tc,ga,gc,rfl,h1,h2,h3,h4,h5⟩:=h
 exact⟨ta,tc,ga,gc,rfl,h1,h2,fun x hx=>hb _ (h3 x hx),fun x hx=>hb _ (h4 x hx),h5⟩
end
end Go.Proofs.YtjkkkibiegfecaaGreatDoor

namespace Go.Proofs.YtjkkkibiegfecaaGreatDoor
open Go Go.Vc
section
variable {H H' H1 H2 : Hp} {s : Nat} {S S1 : Nat → Prop} {w w2 : Nw} {A A2 : Ar} {q q2 : Int}
theorem oM.same(h:nD H' s S w A q)(e:ah S H H'):oM s S H H' w A q:=⟨S,h,e,fun z hz=>.inl hz⟩
theorem JM(e1:ah S H H1)(h1:∀z,S1 z→S z∨H.size≤z)(h2:oM s S1 H1 H2 w2 A2 q2):oM s S H H2 w2 A2 q2:=by
 obtain⟨S2,h3,e2,h4⟩:=h2
 have hz:=e1.size
 refine⟨S2,h3,⟨aoK e1.size e2.size,fun z jH hn=>?_⟩,fun z jH=>?_⟩
 ·rw[e2.aO z (by omega) (by grind),e1.aO z jH hn]
 grind
theorem oN(l:IN w A){g x:Int}(h:w.first g x):A.live x:=by
 cases l;grind [bD,bB]
theorem IP(h:nD H s S w A q){g:Int}(hg:w.has g):ag Tryz.prog qD [ptr s,i64 g] H fun v H'=>ap (
  (w.len g=0∧v= .tuple [jk 0 0,i64 172].toArray∧oM s S H H' w A q)∨(∃x,w.first g x∧v= .tuple [jk x (A.cB x),i64 0].toArray∧oM s S H H' w A q)):=by
 have bL:=h.slt
 obtain⟨t,vv,I,Sn,B,k,d,n,hi,m,ho,d1,d2,hS,qn⟩:=h
 refine aU qQ ?_
 refine vs ?_
 have f0:ai H (H.new 29 [Value.int .i64 0,Value.int .u32 0]):=(ah.refl _ _).new _ _
 have b0:(H.new 29 [Value.int .i64 0,Value.int .u32 0]).own H.size=some [Value.int .i64 0,Value.int .u32 0]:=aA _ _ _
 have z0:(H.new 29 [Value.int .i64 0,Value.int .u32 0]).size=H.size+1:=ak _ _ _
 generalize H.new 29 [Value.int .i64 0,Value.int .u32 0]=H0 at*
 have m0:=m.ext f0 (fun _ _ h=>h)
 have FC:=n.ext hi f0 (fun _ _ h=>h)
 have o0:=f0.own ho (fun h=>h)
 have Ve:∀z,H.size≤z→¬Sn z:=by grind
 have MM:∀z,B.S z→z<H.size:=m.slt
 have ZD:=aE ho
 refine v1 (ae o0) ?_
 refine(n.has g FC).mono ?_
 rintro _ _ ⟨rfl,rfl⟩
 rw[aov hg]
 refine v1 (ae o0) ?_
 refine(n.min g FC).mono ?_
 have fin:∀ (H1 H2:Hp) (yC:Nat→Prop),I H1 yC w→ah Sn H0 H1→(∀z,yC z→Sn z∨H0.size≤z)→ah (fun z=>z=H.size∨H1.size≤z) H1 H2→oM s S H H2 w A q:=fun H1 H2 yC OG e1 iY e2=>by
  have RJ:=e1.size
  have jH:=e2.size
  refine⟨fun z=>yC z∨B.S z∨z=s,⟨t,vv,I,yC,B,k,d,n,n.ext OG e2 (fun z hz e=>?_),(m0.ext e1 (by grind)).ext e2 (fun z hz e=>?_),e2.own (e1.own o0 (by grind)) (fun e=>by omega),fun z hz=>?_,d2,fun z=>Iff.rfl,qn⟩,?_,fun z hz=>?_⟩
  ·rcases e with e|e
   ·grind
   ·have:=n.slt OG z hz;omega
  ·grind
  ·grind
  ·have h1:ah S H H1:=(f0.mono fun _ _ h=>h.elim).trans (e1.mono (by grind))
   exact⟨by omega,fun z hz hn=>by rw[e2.aO z (by omega) (by omega),h1.aO z hz hn]⟩
  grind
 rintro _ H1 (⟨h0,rfl,yC,OG,e1,iY⟩| ⟨x,hx,rfl,yC,OG,e1,iY⟩)
 ·have b1:=e1.own b0 (by grind)
  refine v1 b1 ?_
  obtain⟨e4,b4⟩:=MN b1 [Value.int .i64 0,Value.int .u32 0]
  refine v1 (ae b4) ?_
  exact .inl ⟨h0,rfl,fin H1 _ yC OG e1 iY (e4.mono fun z _ h=>.inl h)⟩
 ·have b1:=e1.own b0 (by grind)
  have o1:=e1.own o0 (by grind)
  have m1:=m0.ext e1 (by grind)
  refine v1 (ae o1) ?_
  refine(IM m1 (oN qn hx)).mono ?_
  rintro _ H2 ⟨rfl,f2⟩
  have b2:=f2.own b1 (fun h=>h)
  refine vs ?_
  obtain⟨f3,b3,z3⟩:=JL H2 29 [Value.int .i64 0,Value.int .u32 0] [i64 x,Value.int .u32 ((A.cB x:Nat):Int)]
  generalize (H2.new 29 [Value.int .i64 0,Value.int .u32 0]).wr H2.size [i64 x,Value.int .u32 ((A.cB x:Nat):Int)]=H3 at*
  have b5:=f3.own b2 (fun h=>h)
  refine v2 (ae b3) b5 ?_
  obtain⟨e4,b4⟩:=MN b5 [i64 x,Value.int .u32 ((A.cB x:Nat):Int)]
  refine v1 (ae b4) ?_
  exact .inr ⟨x,hx,rfl,fin H1 _ yC OG e1 iY (((f2.trans f3).mono fun _ _ h=>h.elim).trans (e4.mono fun z _ h=>.inl h))⟩
theorem lm(h:nD H s S w A q){x:Int}(hx:A.live x):ag Tryz.prog qE [ptr s,jk x (A.cB x)] H fun v H'=>ap (∃y,w.cs[x.toNat]? =some y∧v= .tuple [tE y.2.1 y.2.2,i64 0].toArray∧oM s S H H' w A q):=by
 have bL:=h.slt
 obtain⟨t,vv,I,Sn,B,k,d,n,hi,m,ho,d1,d2,hS,qn⟩:=h
 refine Fz qR ⟨rfl,?_⟩
 refine v1 kR.eq_1 ?_
 have f0:ai H ((H.new 29 [i64 x,.int .u32 (A.cB x:Int)]).new 190 [Value.int .i64 0,Value.int .u64 0]):=((ah.refl _ _).new _ _).new _ _
 have b0:((H.new 29 [i64 x,.int .u32 (A.cB x:Int)]).new 190 [Value.int .i64 0,Value.int .u64 0]).own H.size=some [i64 x,.int .u32 (A.cB x:Int)]:=by
  rw[bm (by simp only[ak];omega),aA]
 have c0:((H.new 29 [i64 x,.int .u32 (A.cB x:Int)]).new 190 [Value.int .i64 0,Value.int .u64 0]).own (H.size+1)=some [Value.int .i64 0,Value.int .u64 0]:=aR (by simp only[ak])
 have z0:((H.new 29 [i64 x,.int .u32 (A.cB x:Int)]).new 190 [Value.int .i64 0,Value.int .u64 0]).size=H.size+1+1:=by simp only[ak]
 generalize (H.new 29 [i64 x,.int .u32 (A.cB x:Int)]).new 190 [Value.int .i64 0,Value.int .u64 0]=H0 at*
 have m0:=m.ext f0 (fun _ _ h=>h)
 have FC:=n.ext hi f0 (fun _ _ h=>h)
 have o0:=f0.own ho (fun h=>h)
 have Ve:∀z,H.size≤z→¬Sn z:=by grind
 have MM:∀z,B.S z→z<H.size:=m.slt
 have ZD:=aE ho
 refine v2 (ae o0) (ae b0) ?_
 refine(iy m0 x (A.cB x)).mono ?_
 rintro _ H1 ⟨rfl,f1⟩
 rw[aov ⟨hx,rfl⟩]
 have m1:=m0.ext f1 (fun _ _ h=>h)
 have OG:=n.ext FC f1 (fun _ _ h=>h)
 have o1:=f1.own o0 (fun h=>h)
 have b1:=f1.own b0 (fun h=>h)
 have c1:=f1.own c0 (fun h=>h)
 have z1:=f1.size
 have ci:cI w.cs x:=(qn.live x).2 hx
 have fin:∀H2,I H2 Sn w→ah (fun z=>z=H.size+1∨H1.size≤z) H1 H2→oM s S H H2 w A q:=fun H2 xZ e2=>by
  have h1:ah S H H1:=(f0.trans f1).mono fun _ _ h=>h.elim
  refine⟨S,⟨t,vv,I,Sn,B,k,d,n,xZ,m1.ext e2 (by grind),e2.own o1 (fun e=>by omega),d1,d2,hS,qn⟩,⟨aoK h1.size e2.size,fun z hz hn=>by rw[e2.aO z (by omega) (by omega),h1.aO z hz hn]⟩,fun z hz=>.inl hz⟩
 refine vs ?_
 refine fV.intro (fun H'=>H'.own s=some [i64 k,i64 d,ptr B.a,.iface t vv,u64 q]∧H'.own H.size=some [i64 x,.int .u32 (A.cB x:Int)]) ⟨o1,b1⟩ ?_
 refine vs ?_
 refine dV.intro (.iface t vv) (fun H' hI=>by refine v1 (ae hI.1) ?_;trivial) ?_
 refine vs ?_
 refine dV.intro (i64 x) (fun H' hI=>by refine v1 (ae hI.2) ?_;trivial) ?_
 refine vs ?_
 refine Fy.intro ?_ ?_
 ·refine vs ?_
  refine(n.entry x OG).mono ?_
  rintro _ H2 ⟨xZ,f2,⟨bU,_⟩| ⟨_,y,hy,rfl⟩⟩
  ·exact absurd ci bU
  have o2:=f2.own o1 (fun h=>h)
  have b2:=f2.own b1 (fun h=>h)
  have c2:=f2.own c1 (fun h=>h)
  have z2:=f2.size
  refine And.intro ⟨o2,b2⟩ ?_
  refine vs ?_
  refine And.intro ⟨o2,b2⟩ ?_
  refine vs ?_
  refine And.intro ⟨o2,b2⟩ ?_
  refine vs ?_
  obtain⟨f3,b3,z3⟩:=JL H2 190 [Value.int .i64 0,Value.int .u64 0] [i64 y.2.1,u64 y.2.2]
  generalize (H2.new 190 [Value.int .i64 0,Value.int .u64 0]).wr H2.size [i64 y.2.1,u64 y.2.2]=H3 at*
  have c3:=f3.own c2 (fun h=>h)
  refine v2 (ae b3) c3 ?_
  obtain⟨e4,b4⟩:=MN c3 [i64 y.2.1,u64 y.2.2]
  refine v1 (ae b4) ?_
  exact⟨y,hy,rfl,fin _ (n.ext (n.ext xZ f3 (fun _ _ h=>h)) e4 (by grind)) (((f2.trans f3).mono fun _ _ h=>h.elim).trans (e4.mono fun z _ h=>.inl h))⟩
 ·refine vs ?_
  refine And.intro ⟨o1,b1⟩ ?_
  have f4:ai H1 (H1.new 190 [Value.int .i64 0,Value.int .u64 0]):=(ah.refl _ _).new _ _
  have b4:(H1.new 190 [Value.int .i64 0,Value.int .u64 0]).own H1.size=some [Value.int .i64 0,Value.int .u64 0]:=aA _ _ _
  have z4:(H1.new 190 [Value.int .i64 0,Value.int .u64 0]).size=H1.size+1:=ak _ _ _
  generalize H1.new 190 [Value.int .i64 0,Value.int .u64 0]=H4 at*
  refine vs ?_
  refine(n.entry x (n.ext OG f4 (fun _ _ h=>h))).mono ?_
  rintro _ H2 ⟨xZ,f2,⟨bU,_⟩| ⟨_,y,hy,rfl⟩⟩
  ·exact absurd ci bU
  have o2:=f2.own (f4.own o1 (fun h=>h)) (fun h=>h)
  have b2:=f2.own (f4.own b1 (fun h=>h)) (fun h=>h)
  have c2:=f2.own (f4.own c1 (fun h=>h)) (fun h=>h)
  have b5:=f2.own b4 (fun h=>h)
  have z2:=f2.size
  refine And.intro ⟨o2,b2⟩ ?_
  refine v1 b5 ?_
  obtain⟨e6,b6⟩:=MN b5 [i64 y.2.1,u64 y.2.2]
  have o6:=e6.own o2 (fun e=>by omega)
  have b26:=e6.own b2 (fun e=>by omega)
  have c6:=e6.own c2 (fun e=>by omega)
  have hn6:=n.ext xZ e6 (by grind)
  have e26:ah (fun z=>z=H.size+1∨H1.size≤z) H1 (H2.wr H1.size [i64 y.2.1,u64 y.2.2]):=((f4.trans f2).mono fun _ _ h=>h.elim).trans (e6.mono (by omega))
  generalize H2.wr H1.size [i64 y.2.1,u64 y.2.2]=H6 at*
  first
   |refine And.intro ⟨o6,b26⟩ ?_
   |refine And.intro ⟨o2,b2⟩ ?_
  refine v2 (ae b6) c6 ?_
  obtain⟨e7,b7⟩:=MN c6 [i64 y.2.1,u64 y.2.2]
  refine v1 (ae b7) ?_
  exact⟨y,hy,rfl,fin _ (n.ext hn6 e7 (by grind)) (e26.trans (e7.mono fun z _ h=>.inl h))⟩
end
end Go.Proofs.YtjkkkibiegfecaaGreatDoor

namespace Go.Proofs.YtjkkkibiegfecaaGreatDoor
open Go Go.Vc
section
variable {H H' H1 H2 : Hp} {s : Nat} {S S1 : Nat → Prop} {w w2 : Nw} {A A2 : Ar} {q q2 : Int}
theorem nD.tmp{b:Nat}{l:List Value}(h:nD H1 s S1 w A q)(hb:¬S1 b):nD (H1.wr b l) s S1 w A q:=h.ext ((ah.refl (fun x=>x=b) _).wr (fun _=>rfl) _:ah (fun x=>x=b) H1 _) (by grind)
theorem jQ(h:nD H2 s S1 w A q)(e:ah S H H2)(hs:∀z,S1 z→S z∨H.size≤z):oM s S H H2 w A q:=⟨S1,h,e,hs⟩
theorem wQ{b:Nat}{l:List Value}(e:ah S H H1)(hb:H.size≤b):ah S H (H1.wr b l):=by
 have e2:ah (fun x=>x=b) H1 (H1.wr b l):=(ah.refl (fun x=>x=b) _).wr (fun _=>rfl) _
 exact⟨aoK e.size e2.size,fun z hz hn=>by rw[e2.aO z (aoz hz e.size) (by omega),e.aO z hz hn]⟩
theorem Ef(h:nD H s S w A q){g:Int}(hg:w.has g):ag Tryz.prog uW [ptr s,i64 g] H fun v H'=>ap (
  (w.len g=0∧v= .tuple [jk 0 0,i64 0,i64 172].toArray∧oM s S H H' w A q)∨(∃x y,w.first g x∧w.cs[x.toNat]? =some y∧v= .tuple [jk x (A.cB x),i64 y.2.1,i64 0].toArray∧oM s S H H' w A q)):=by
 have bL:=h.slt
 have qn:=h.RN.1
 refine aU vq ?_
 refine vs ?_
 have f0:ai H (H.new 29 [Value.int .i64 0,Value.int .u32 0]):=(ah.refl _ _).new _ _
 have b0:(H.new 29 [Value.int .i64 0,Value.int .u32 0]).own H.size=some [Value.int .i64 0,Value.int .u32 0]:=aA _ _ _
 have z0:(H.new 29 [Value.int .i64 0,Value.int .u32 0]).size=H.size+1:=ak _ _ _
 generalize H.new 29 [Value.int .i64 0,Value.int .u32 0]=H0 at*
 have h0:=h.ext f0 (fun _ _ h=>h)
 have hSn:∀z,H.size≤z→¬S z:=by grind
 refine(IP h0 hg).mono ?_
 rintro _ H1 (⟨Xg,rfl,S1,h1,e1,iY⟩| ⟨x,hx,rfl,S1,h1,e1,iY⟩)
 ·have b1:=e1.own b0 (by grind)
  have RJ:=e1.size
  refine vs ?_
  obtain⟨f2,b2,z2⟩:=JL H1 29 [Value.int .i64 0,Value.int .u32 0] [i64 0,Value.int .u32 ((0:Nat):Int)]
  generalize (H1.new 29 [Value.int .i64 0,Value.int .u32 0]).wr H1.size [i64 0,Value.int .u32 ((0:Nat):Int)]=H2 at*
  have b3:=f2.own b1 (fun h=>h)
  refine ar.dec (fun hh=>by omega) (fun _=>?_)
  refine v1 b3 ?_
  obtain⟨e4,b4⟩:=MN b3 [Value.int .i64 0,Value.int .u32 0]
  have e2:ah S H H2:=((f0.mono fun _ _ h=>h.elim).trans e1).trans (f2.mono fun _ _ h=>h.elim)
  have oX:¬S1 H.size:=by grind
  have h3:=((h1.ext f2 (fun _ _ h=>h)).tmp oX (l:=[Value.int .i64 0,Value.int .u32 0]))
  have e5:=wQ (l:=[Value.int .i64 0,Value.int .u32 0]) e2 (aox H.size)
  refine v1 (ae b4) ?_
  exact .inl ⟨Xg,rfl,jQ h3 e5 (by grind)⟩
 ·have b1:=e1.own b0 (by grind)
  have RJ:=e1.size
  have BW:=oN qn hx
  refine vs ?_
  obtain⟨f2,b2,z2⟩:=JL H1 29 [Value.int .i64 0,Value.int .u32 0] [i64 x,Value.int .u32 ((A.cB x:Nat):Int)]
  generalize (H1.new 29 [Value.int .i64 0,Value.int .u32 0]).wr H1.size [i64 x,Value.int .u32 ((A.cB x:Nat):Int)]=H2 at*
  have b3:=f2.own b1 (fun h=>h)
  have h2:=h1.ext f2 (fun _ _ h=>h)
  refine ar.dec (fun _=>?_) (fun hh=>absurd trivial hh)
  refine v1 (ae b2) ?_
  have SU:=h1.slt
  refine(lm h2 BW).mono ?_
  rintro _ H3 ⟨y,hy,rfl,S3,h3,e3,No⟩
  have oX:¬S1 H.size:=by grind
  have Pt:¬S1 H1.size:=by grind
  have b4:=e3.own b3 oX
  have c4:=e3.own b2 Pt
  have ZE:=e3.size
  refine vs ?_
  obtain⟨f5,b5,z5⟩:=JL H3 190 [Value.int .i64 0,Value.int .u64 0] [i64 y.2.1,u64 y.2.2]
  generalize (H3.new 190 [Value.int .i64 0,Value.int .u64 0]).wr H3.size [i64 y.2.1,u64 y.2.2]=H5 at*
  have b6:=f5.own b4 (fun h=>h)
  have c6:=f5.own c4 (fun h=>h)
  have h5:=h3.ext f5 (fun _ _ h=>h)
  have hn3:∀b,¬S1 b→b<H2.size→¬S3 b:=by grind
  have e5:ah S H H5:=by
   have e2:ah S H H2:=((f0.mono fun _ _ h=>h.elim).trans e1).trans (f2.mono fun _ _ h=>h.elim)
   have ZC:ah S H H3:=⟨by omega,fun z hz hn=>by rw[e3.aO z (by omega) (by grind),e2.aO z hz hn]⟩
   exact ZC.trans (f5.mono fun _ _ h=>h.elim)
  refine fV.intro (fun H'=>H'.own H3.size=some [i64 y.2.1,u64 y.2.2]) b5 ?_
  refine vs ?_
  refine dV.intro (i64 y.2.1) (fun H' hI=>by refine v1 (ae hI) ?_;trivial) ?_
  refine v1 (ae c6) ?_
  refine And.intro b5 ?_
  refine v1 b6 ?_
  obtain⟨e7,b7⟩:=MN b6 [i64 x,Value.int .u32 ((A.cB x:Nat):Int)]
  have b57:=e7.own b5 (fun e=>by omega)
  first
   |refine And.intro b57 ?_
   |refine And.intro b5 ?_
  have h7:=h5.tmp (hn3 _ oX (by omega)) (l:=[i64 x,Value.int .u32 ((A.cB x:Nat):Int)])
  have e8:=wQ (l:=[i64 x,Value.int .u32 ((A.cB x:Nat):Int)]) e5 (aox H.size)
  refine v1 (ae b7) ?_
  refine .inr ⟨x,y,hx,hy,rfl,jQ h7 e8 (fun z hz=>?_)⟩
  grind
theorem Q1{g x x':Int}(h:w.first g x)(h':w.first g x'):x'=x:=by
 obtain⟨_,h2,h3⟩:=bD.1 h
 obtain⟨_,h5,h6⟩:=bD.1 h'
 apply aoA
 intro bN
 have:=(aw w).yN (h3 x' h5 bN)
 grind
theorem Ad(h:nD H s S w A q){g:Int}(hg:w.has g):ag Tryz.prog kg [ptr s,i64 g] H fun v H'=>ap (
  (w.len g=0∧v= .tuple [jk 0 0,i64 0,i64 172].toArray∧oM s S H H' w A q)∨(∃x y,w.first g x∧w.cs[x.toNat]? =some y∧v= .tuple [jk x (A.cB x),i64 y.2.1,i64 0].toArray∧oM s S H H' (w.put x (0,0,0)) (A.back x) q)):=by
 have bL:=h.slt
 have qn:=h.RN.1
 refine aU kD ?_
 refine vs ?_
 have f0:ai H (H.new 29 [Value.int .i64 0,Value.int .u32 0]):=(ah.refl _ _).new _ _
 have b0:(H.new 29 [Value.int .i64 0,Value.int .u32 0]).own H.size=some [Value.int .i64 0,Value.int .u32 0]:=aA _ _ _
 have z0:(H.new 29 [Value.int .i64 0,Value.int .u32 0]).size=H.size+1:=ak _ _ _
 generalize H.new 29 [Value.int .i64 0,Value.int .u32 0]=H0 at*
 have h0:=h.ext f0 (fun _ _ h=>h)
 have hSn:∀z,H.size≤z→¬S z:=by grind
 refine(Ef h0 hg).mono ?_
 rintro _ H1 (⟨Xg,rfl,S1,h1,e1,iY⟩| ⟨x,y,hx,hy,rfl,S1,h1,e1,iY⟩)
 ·have b1:=e1.own b0 (by grind)
  have RJ:=e1.size
  refine vs ?_
  obtain⟨f2,b2,z2⟩:=JL H1 29 [Value.int .i64 0,Value.int .u32 0] [i64 0,Value.int .u32 ((0:Nat):Int)]
  generalize (H1.new 29 [Value.int .i64 0,Value.int .u32 0]).wr H1.size [i64 0,Value.int .u32 ((0:Nat):Int)]=H2 at*
  have b3:=f2.own b1 (fun h=>h)
  refine ar.dec (fun hh=>by omega) (fun _=>?_)
  refine v1 b3 ?_
  obtain⟨e4,b4⟩:=MN b3 [Value.int .i64 0,Value.int .u32 0]
  have e2:ah S H H2:=((f0.mono fun _ _ h=>h.elim).trans e1).trans (f2.mono fun _ _ h=>h.elim)
  have oX:¬S1 H.size:=by grind
  have h3:=((h1.ext f2 (fun _ _ h=>h)).tmp oX (l:=[Value.int .i64 0,Value.int .u32 0]))
  have e5:=wQ (l:=[Value.int .i64 0,Value.int .u32 0]) e2 (aox H.size)
  refine v1 (ae b4) ?_
  exact .inl ⟨Xg,rfl,jQ h3 e5 (by grind)⟩
 ·have b1:=e1.own b0 (by grind)
  have RJ:=e1.size
  have BW:=oN qn hx
  refine vs ?_
  obtain⟨f2,b2,z2⟩:=JL H1 29 [Value.int .i64 0,Value.int .u32 0] [i64 x,Value.int .u32 ((A.cB x:Nat):Int)]
  generalize (H1.new 29 [Value.int .i64 0,Value.int .u32 0]).wr H1.size [i64 x,Value.int .u32 ((A.cB x:Nat):Int)]=H2 at*
  have b3:=f2.own b1 (fun h=>h)
  have SU:=h1.slt
  have h2:=h1.ext f2 (fun _ _ h=>h)
  have oX:¬S1 H.size:=by grind
  have Pt:¬S1 H1.size:=by grind
  obtain⟨t,vv,I,Sn,B,k,d,n,hi,m,ho,d1,d2,hS,_⟩:=h2
  refine ar.dec (fun _=>?_) (fun hh=>absurd trivial hh)
  refine v1 (ae ho) ?_
  refine(n.extract g hi).mono ?_
  have MM:∀z,B.S z→z<H2.size:=m.slt
  have ZD:=aE ho
  rintro _ H3 (⟨Xg,_⟩| ⟨x',BP,rfl,yC,PQ,e3,No⟩)
  ·exfalso
   grind [bD,rB]
  obtain rfl:=Q1 hx BP
  have XH:=e3.own ho (by grind)
  have b4:=e3.own b3 (by grind)
  have c4:=e3.own b2 (by grind)
  have m3:=m.ext e3 (by grind)
  have ZE:=e3.size
  refine v2 (ae XH) (ae c4) ?_
  refine(tM m3 BW).mono ?_
  rintro _ H4 ⟨rfl,Lt,m4,e4,ST⟩
  have nB1:¬B.S H.size:=by grind
  have nB2:¬B.S H1.size:=by grind
  have b5:=e4.own b4 nB1
  have c5:=e4.own c4 nB2
  have ho4:=e4.own XH d2
  have hz4:=e4.size
  refine v2 (ae c5) b5 ?_
  obtain⟨e6,b6⟩:=MN b5 [i64 x',Value.int .u32 ((A.cB x':Nat):Int)]
  refine v1 (ae b6) ?_
  have afp:∀z,yC z→Sn z∨H2.size≤z:=No
  have hB':∀z,(QZ.mk B.a B.sb Lt).S z→B.S z∨H3.size≤z:=fun z hz=>by
   rcases hz with h|h|h
   ·exact .inl (.inl h)
   ·exact .inl (.inr (.inl h))
   ·exact(ST z h).imp_left fun h=>.inr (.inr h)
  have hiT:I H4 yC (w.put x' (0,0,0)):=n.ext PQ e4 (by grind)
  have akt:=fun z hz=>n.slt PQ z hz
  have nn1:∀b,¬S1 b→b<H2.size→¬yC b∧¬ (QZ.mk B.a B.sb Lt).S b:=by grind
  have aku:H.size≠s:=by grind
  have ut:=Ar.rT BW
  have yQ:nD H4 s (fun z=>yC z∨(QZ.mk B.a B.sb Lt).S z∨z=s) (w.put x' (0,0,0)) (A.back x') q:=by
   refine⟨t,vv,I,yC,⟨B.a,B.sb,Lt⟩,k,d,n,hiT,m4,ho4,fun z hz=>?_,fun h=>?_,fun z=>Iff.rfl,qn.put ut rfl⟩
   ·grind
   ·grind
  have aft:=yQ.tmp (b:=H.size) (l:=[i64 x',Value.int .u32 ((A.cB x':Nat):Int)]) (by grind)
  have e04:ah S H H4:=by
   have e2:ah S H H2:=((f0.mono fun _ _ h=>h.elim).trans e1).trans (f2.mono fun _ _ h=>h.elim)
   exact⟨by omega,fun z hz hn=>by
    cases e3;cases e4;cases e2;grind⟩
  have jH:=f2.size
  refine .inr ⟨x',y,hx,hy,rfl,jQ aft (wQ e04 (aox _)) (fun z hz=>?_)⟩
  grind
end
end Go.Proofs.YtjkkkibiegfecaaGreatDoor

namespace Go.Proofs.YtjkkkibiegfecaaGreatDoor
open Go Go.Vc
section
variable {H : Hp} {s : Nat} {S : Nat → Prop} {w : Nw} {A : Ar} {q : Int}
theorem IN.key(l:IN w A){x k s:Int}{y:Ce}(hx:A.live x)(hy:w.cs[x.toNat]? =some y):IN (w.put x (y.1,k,s)) A:=by
 have h1:=(l.live x).2 hx
 have h0:=h1.1
 have bf:=(aoj.1 hy).1
 have PN:0≤x∧x<w.cs.length:=by omega
 refine⟨by simp[Nw.put,l.len],fun z=>?_⟩
 rw[←l.live z,←bB,←bB,dR PN]
 by_cases e:z=x
 ·rw[if_pos e,e]
  obtain⟨_,c,hc,gI⟩:=h1
  rw[hy]at hc
  injection hc with hc
  subst hc
  have h2:=bB.2 ((l.live x).2 hx)
  omega
 omega
theorem ya(h:nD H s S w A q){x:Int}(hx:A.live x)(key:Int):ag Tryz.prog jx [ptr s,jk x (A.cB x),i64 key] H fun v H'=>ap (
  ∃y,w.cs[x.toNat]? =some y∧((y.2.1<key∧v=i64 173∧oM s S H H' w A q)∨(key≤y.2.1∧v=i64 0∧oM s S H H' (w.put x (y.1,key,y.2.2)) A q))):=by
 have bL:=h.slt
 refine aU jF ?_
 refine vs ?_
 have f0:ai H (H.new 29 [i64 x,.int .u32 (A.cB x:Int)]):=(ah.refl _ _).new _ _
 have b0:(H.new 29 [i64 x,.int .u32 (A.cB x:Int)]).own H.size=some [i64 x,.int .u32 (A.cB x:Int)]:=aA _ _ _
 have z0:(H.new 29 [i64 x,.int .u32 (A.cB x:Int)]).size=H.size+1:=ak _ _ _
 generalize H.new 29 [i64 x,.int .u32 (A.cB x:Int)]=H0 at*
 have h0:=h.ext f0 (fun _ _ h=>h)
 refine v1 (ae b0) ?_
 refine(lm h0 hx).mono ?_
 rintro _ H1 ⟨y,hy,rfl,S1,h1,e1,iY⟩
 have hS1:∀z,S1 z→z≠H.size:=by grind
 have b1:=e1.own b0 (by grind)
 refine vs ?_
 obtain⟨f2,c2,z2⟩:=JL H1 190 [i64 0,u64 0] [i64 y.2.1,u64 y.2.2]
 have RJ:=e1.size
 generalize Nj:H1.size=cc at*
 generalize (H1.new 190 [i64 0,u64 0]).wr cc [i64 y.2.1,u64 y.2.2]=H2 at*
 have h2:=h1.ext f2 (fun _ _ h=>h)
 have b2:=f2.own b1 (fun h=>h)
 have eS:ah S H H2:=(f0.mono fun _ _ h=>h.elim).trans (e1.trans (f2.mono fun _ _ h=>h.elim))
 have hsS:∀z,S1 z→S z∨H.size≤z:=by grind
 refine v2 aoE (ae c2) ?_
 refine ar.dec (fun hk=>?_) (fun hk=>?_)<;>refine v1 aoE ?_
 ·exact⟨y,hy,.inl ⟨by omega,rfl,S1,h2,eS,hsS⟩⟩
 obtain⟨t,vv,I,Sn,B,k,d,n,hi,m,ho,d1,d2,hS,qn⟩:=h2
 refine v3 (ae ho) (ae b2) (ae c2) ?_
 refine(n.mc x key y.2.2 hi).mono ?_
 rintro _ H3 (⟨bU,_⟩| ⟨_,rfl,y',nL,yC,PQ,e3,No⟩)
 ·refine absurd ⟨(qn.live x).2 hx,fun y' nL=>?_⟩ bU
  rw[hy]at nL
  injection nL with nL
  subst nL
  unfold fQ
  omega
 rw[hy]at nL
 injection nL with nL
 subst nL
 refine vs ?_
 have hBl:=m.slt
 have jH:=eS.size
 have ZE:=e3.size
 have ZD:=aE ho
 refine⟨y,hy,.inr ⟨by omega,rfl,fun z=>yC z∨B.S z∨z=s,⟨t,vv,I,yC,B,k,d,n,PQ,m.ext e3 (by grind),e3.own ho (by grind),fun z hz=>?_,d2,fun z=>Iff.rfl,qn.key hx hy⟩,?_,fun z hz=>?_⟩⟩
 ·grind
 ·refine⟨by omega,fun z hz hn=>?_⟩
  cases eS;cases e3;grind
 grind
end
end Go.Proofs.YtjkkkibiegfecaaGreatDoor
