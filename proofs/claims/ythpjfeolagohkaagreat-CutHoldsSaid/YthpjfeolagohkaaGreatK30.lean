/- Texts put behind each other. -/
import Derived.Test.YthpjfeolagohkaaGreatK98
import Derived.Test.YthpjfeolagohkaaGreatK0
import Derived.Test.YthpjfeolagohkaaGreatK3
import Derived.Test.YthpjfeolagohkaaGreatK19
import Derived.Test.YthpjfeolagohkaaGreatK20
import Derived.Test.YthpjfeolagohkaaGreatK22
import Derived.Test.YthpjfeolagohkaaGreatK29
set_option maxRecDepth 100000
set_option maxHeartbeats 8000000
set_option linter.unusedVariables false
set_option linter.unusedSimpArgs false
namespace Go.Proofs.YthpjfeolagohkaaGreat
open Go Go.Vc
inductive Rl where
 |no
 |Tc
 |cell
 |MX
 |G2
 |table
 |row(g:Int)
 |rH(x:Int)
def vM(V:Int→Value)(x:Int)(v:Value):Int→Value:=fun z=>if z=x then v else V z
theorem YF(V:Int→Value)(x:Int)(v:Value):vM V x v x=v:=by unfold vM;rw[if_pos rfl]
theorem YG{V:Int→Value}{x z:Int}{v:Value}(h:z≠x):vM V x v z=V z:=by unfold vM;rw[if_neg h]
theorem YH(U:Int→Int)(x v:Int):aK U x v x=v:=by unfold aK;rw[if_pos rfl]
theorem YI{U:Int→Int}{x z v:Int}(h:z≠x):aK U x v z=U z:=by unfold aK;rw[if_neg h]
structure oo(H:Hp)(fb tb n:Nat)(l:List Value)(V:Int→Value)(U:Int→Int):Prop where
 own:H.own fb=some [.slice (some ⟨tb,0,none⟩) n n]
 FP:H.own tb=some l
 len:l.length=n*2
 at_:∀x:Int,0≤x→x<n→l[x.toNat*2]? =some (V x)∧l[x.toNat*2+1]? =some (i64 (U x))
 ne:fb≠tb
section
variable {H H' : Hp} {fb tb n : Nat} {l : List Value} {V : Int → Value} {U : Int → Int} {T : Nat → Prop}
theorem oo.ext(h:oo H fb tb n l V U)(e:ag T H H')(h1:¬T fb)(h2:¬T tb):oo H' fb tb n l V U:=⟨e.own h.own h1,e.own h.FP h2,h.len,h.at_,h.ne⟩
theorem oo.vM(h:oo H fb tb n l V U){x:Int}(hx:0≤x∧x<n)(v:Value):oo (H.wr tb (l.set (x.toNat*2) v)) fb tb n (l.set (x.toNat*2) v) (vM V x v) U∧ag (fun z=>z=tb) H (H.wr tb (l.set (x.toNat*2) v)):=by
 have e:ag (fun z=>z=tb) H (H.wr tb (l.set (x.toNat*2) v)):=(ag.refl (fun z=>z=tb) _).wr (fun _=>rfl) _
 have hl:=h.len
 refine⟨⟨e.own h.own h.ne,ai h.FP,by rw[aqe];exact hl,fun z h0 h1=>?_,h.ne⟩,e⟩
 obtain⟨a1,a2⟩:=h.at_ z h0 h1
 refine⟨?_,by rw[aqh (by omega)];exact a2⟩
 by_cases hz:z=x
 ·rw[hz,YF,aqi (by omega)]
 ·rw[YG hz,aqh (by omega)];exact a1
theorem oo.aK(h:oo H fb tb n l V U){x:Int}(hx:0≤x∧x<n)(u:Int):oo (H.wr tb (l.set (x.toNat*2+1) (i64 u))) fb tb n (l.set (x.toNat*2+1) (i64 u)) V (aK U x u)∧ag (fun z=>z=tb) H (H.wr tb (l.set (x.toNat*2+1) (i64 u))):=by
 have e:ag (fun z=>z=tb) H (H.wr tb (l.set (x.toNat*2+1) (i64 u))):=(ag.refl (fun z=>z=tb) _).wr (fun _=>rfl) _
 have hl:=h.len
 refine⟨⟨e.own h.own h.ne,ai h.FP,by rw[aqe];exact hl,fun z h0 h1=>?_,h.ne⟩,e⟩
 obtain⟨a1,a2⟩:=h.at_ z h0 h1
 refine⟨by rw[aqh (by omega)];exact a1,?_⟩
 by_cases hz:z=x
 ·rw[hz,YH,aqi (by omega)]
 ·rw[YI hz,aqh (by omega)];exact a2
theorem oo.Td(h:oo H fb tb n l V U):fb<H.size∧tb<H.size:=⟨aB h.own,aB h.FP⟩
end
structure ForM(H:Hp)(ro:Nat→Rl)(fb tb n:Nat)(l:List Value)(V:Int→Value)(ch:Int→List Int)(par:Int→Int)(kb:Int→Option Nat):Prop where
 t:oo H fb tb n l V par
 kd:∀x:Int,0≤x→x<n→Sl H 1 (V x) (ch x).length ((ch x).map i64) (kb x)
 rf:ro fb= .G2
 rt:ro tb= .table
 rk:∀ (x:Int) b,0≤x→x<n→kb x=some b→ro b= .rH x
 HU:∀x c,c∈ch x→0≤c∧c<n
 no:∀x:Int,¬ (0≤x∧x<n)→ch x=[]
structure RK(s:Nat)(ro ro':Nat→Rl):Prop where
 o:∀z,z<s→(∀x,ro z≠ .rH x)→ro' z=ro z
 k:∀z x,z<s→ro z= .rH x→∃y,ro' z= .rH y
 n:∀z,s≤z→ro' z= .no∨∃y,ro' z= .rH y
theorem RK.refl{s:Nat}{ro:Nat→Rl}(h:∀z,s≤z→ro z= .no):RK s ro ro:=⟨fun _ _ _=>rfl,fun z x _ h=>⟨x,h⟩,fun z hz=>.inl (h z hz)⟩
theorem RK.trans{s s':Nat}{r1 r2 r3:Nat→Rl}(h:RK s r1 r2)(h':RK s' r2 r3)(hs:s≤s'):RK s r1 r3:=by
 refine⟨fun z hz hk=>?_,fun z x hz hx=>?_,fun z hz=>?_⟩
 ·have h1:=h.o z hz hk
  rw[h'.o z (by omega) (fun x=>by rw[h1];exact hk x),h1]
 ·obtain⟨y,hy⟩:=h.k z x hz hx
  exact h'.k z y (by omega) hy
 ·by_cases h1:z<s'
  ·rcases h.n z hz with h2| ⟨y,h2⟩
   ·rw[h'.o z h1 (fun x=>by rw[h2];intro e;cases e)]
    exact .inl h2
   ·exact .inr (h'.k z y h1 h2)
  ·exact h'.n z (by omega)
def KB(ro:Nat→Rl)(z:Nat):Prop:=ro z= .table∨∃x,ro z= .rH x
section
variable {H H' : Hp} {ro ro' : Nat → Rl} {fb tb n : Nat} {l : List Value} {V : Int → Value} {ch : Int → List Int} {par : Int → Int} {kb : Int → Option Nat} {T : Nat → Prop}
theorem ForM.ext(m:ForM H ro fb tb n l V ch par kb)(e:ag T H H')(hd:∀z,(ro z= .G2∨KB ro z)→¬T z):ForM H' ro fb tb n l V ch par kb:=
 ⟨m.t.ext e (hd _ (.inl m.rf)) (hd _ (.inr (.inl m.rt))),fun x h0 h1=>(m.kd x h0 h1).ext e (fun b hb=>hd _ (.inr (.inr ⟨x,m.rk x b h0 h1 hb⟩))),m.rf,m.rt,m.rk,m.HU,m.no⟩
theorem ForM.fresh(m:ForM H ro fb tb n l V ch par kb)(e:ah H H'):ForM H' ro fb tb n l V ch par kb:=m.ext e fun _ _ h=>h
theorem ForM.shape(m:ForM H ro fb tb n l V ch par kb){x:Int}(hx:0≤x∧x<n):∃a c,V x= .slice a (ch x).length c:=Sl.shape (m.kd x hx.1 hx.2)
theorem oq(t:oo H fb tb n l V par)(x:Int):af Tryz.prog zx [ptr fb,i64 x] H fun v H'=>ax (v= .bool (decide (0≤x∧x<n))∧H'=H):=by
 refine bm zW ?_
 refine vs ?_
 refine ar.dec (fun h0=>?_) (fun h0=>?_)<;>refine v1 (ae t.own) ?_
 ·refine⟨?_,rfl⟩
  rw[show(decide (0≤x∧x< (n:Int)))=decide (x< (n:Int)) by simp[h0]]
  rfl
 ·refine⟨?_,rfl⟩
  rw[aqA (fun h=>h0 h.1)]
  rfl
theorem iq(t:oo H fb tb n l V par)(x:Int):af Tryz.prog w7 [ptr fb,i64 x] H fun v H'=>ax (v= .bool (decide (0≤x∧x<n) && decide (par x= -1))∧H'=H):=by
 refine bm xE ?_
 refine vs ?_
 refine(oq t x).mono ?_
 rintro _ H' ⟨rfl,e⟩
 obtain rfl:=e.symm
 by_cases hx:0≤x∧x<n
 ·rw[aqp hx]
  have hl:=t.len
  obtain⟨a1,a2⟩:=t.at_ x hx.1 hx.2
  refine v1 (ae t.own) ?_
  refine⟨⟨by omega,by omega⟩,?_⟩
  refine v3 (ae t.FP) aqa a2 ?_
  exact⟨rfl,rfl⟩
 ·rw[aqA hx]
  refine vs ?_
  exact⟨rfl,rfl⟩
theorem dq(m:ForM H ro fb tb n l V ch par kb)(x:Int):af Tryz.prog tW [ptr fb,i64 x] H fun v H'=>ax (v=i64 (ch x).length∧H'=H):=by
 refine bm ug ?_
 refine vs ?_
 refine(oq m.t x).mono ?_
 rintro _ H' ⟨rfl,e⟩
 obtain rfl:=e.symm
 by_cases hx:0≤x∧x<n
 ·rw[aqp hx]
  have hl:=m.t.len
  obtain⟨a1,a2⟩:=m.t.at_ x hx.1 hx.2
  obtain⟨a,c,hv⟩:=m.shape hx
  rw[hv]at a1
  refine v1 (ae m.t.own) ?_
  refine⟨⟨by omega,by omega⟩,?_⟩
  refine v4 (ae m.t.FP) aqa Nat.add_zero a1 ?_
  exact⟨rfl,rfl⟩
 ·rw[aqA hx,m.no x hx]
  refine vs ?_
  exact⟨rfl,rfl⟩
theorem pR(t:oo H fb tb n l V par){x:Int}(hx:0≤x∧x<n):af Tryz.prog Bh [ptr fb,i64 x] H fun v H'=>ax (((par x= -1∧v= .tuple [i64 0,.bool false].toArray)∨(par x≠ -1∧v= .tuple [i64 (par x),.bool true].toArray))∧H'=H):=by
 refine bm BE ?_
 refine vs ?_
 refine(oq t x).mono ?_
 rintro _ H' ⟨rfl,e⟩
 obtain rfl:=e.symm
 rw[aqp hx]
 have hl:=t.len
 obtain⟨a1,a2⟩:=t.at_ x hx.1 hx.2
 refine v1 (ae t.own) ?_
 refine⟨⟨by omega,by omega⟩,?_⟩
 refine v3 (ae t.FP) aqa a2 ?_
 refine ar.dec (fun h0=>?_) (fun h0=>?_)<;>refine vs ?_
 ·exact⟨.inl ⟨h0,rfl⟩,rfl⟩
 refine v1 (ae t.own) ?_
 refine⟨⟨by omega,by omega⟩,?_⟩
 refine v3 (ae t.FP) aqa a2 ?_
 exact⟨.inr ⟨h0,rfl⟩,rfl⟩
theorem Te{H:Hp}{T:TypeId}{w:Value}{xs:List Int}{fp:Option Nat}{K:Value→Hp→Prop}(s:Sl H 1 w xs.length (xs.map i64) fp)(x:Int)(hl:xs.length≤1000000000000)
  (hk:∀w' H' bI,(bI=fp∨∃b,bI=some b∧H.size≤b∧b<H'.size)→Sl H' 1 w' (xs++[x]).length ((xs++[x]).map i64) bI→ag (fun z=>fp=some z) H H'→K w' H'):
  fA T 1 8 [i64 0] w (.slice (some ⟨H.size,0,none⟩) 1 1) (H.new T [i64 x]) K:=by
 have fl:ah H (H.new T [i64 x]):=(ag.refl _ _).new _ _
 refine Sl.append (s.ext fl (fun _ _ h=>h)) (Sl.bU (size:=1) (n:=1) (xs:=[i64 x]) rfl rfl).rd rfl (mS [x]) (by omega) ?_
 intro v' H' bI s' e' Lm
 refine hk v' H' bI (Lm.imp_right fun⟨b,h1,h2,h3⟩=>⟨b,h1,by rw[am]at h2;omega,h3⟩) (by rw[aqj,aqy];exact s') ⟨aqW fl.size e'.size,fun z hz hn=>?_⟩
 rw[e'.aM z (aqw hz fl.size) hn,fl.aM z hz (fun h=>h)]
theorem ForM.put(m:ForM H ro fb tb n l V ch par kb)(hz:∀z,H.size≤z→ro z= .no){a:Int}(ha:0≤a∧a<n){H2:Hp}(e:ag (fun z=>kb a=some z) H H2){w':Value}{L':List Int}{bI:Option Nat}(s:Sl H2 1 w' L'.length (L'.map i64) bI)
  (hf:bI=kb a∨bI=none∨∃b,bI=some b∧H.size≤b∧b<H2.size)(hL:∀c∈L',0≤c∧c<n):
  ∃ro' ri,ForM (H2.wr tb (l.set (a.toNat*2) w')) ro' fb tb n (l.set (a.toNat*2) w') (vM V a w') (aA ch a L') par ri∧RK H.size ro ro'∧(∀z,(H2.wr tb (l.set (a.toNat*2) w')).size≤z→ro' z= .no)∧ag (KB ro) H (H2.wr tb (l.set (a.toNat*2) w')):=by
 have Ua:∀z,kb a=some z→ro z= .rH a:=fun z h=>m.rk a z ha.1 ha.2 h
 have hfb:¬kb a=some fb:=fun h=>by have:=Ua _ h;rw[m.rf]at this;cases this
 have Wy:¬kb a=some tb:=fun h=>by have:=Ua _ h;rw[m.rt]at this;cases this
 obtain⟨z1,z2⟩:=m.t.Td
 have t2:=m.t.ext e hfb Wy
 obtain⟨t3,e3⟩:=t2.vM ha w'
 have hs:=e.size
 have QJ:(H2.wr tb (l.set (a.toNat*2) w')).size=H2.size:=cG _ _ _
 have hr:∃ro':Nat→Rl,(∀b,bI=some b→ro' b= .rH a)∧(∀z,z<H.size→ro' z=ro z)∧RK H.size ro ro'∧∀z,H2.size≤z→ro' z= .no:=by
  rcases hf with h|h| ⟨b,h,Nq,oG⟩
  ·exact⟨ro,fun b hb=>Ua b (by rw[←h];exact hb),fun _ _=>rfl,RK.refl hz,fun z ed=>hz z (by omega)⟩
  ·refine⟨ro,fun b hb=>?_,fun _ _=>rfl,RK.refl hz,fun z ed=>hz z (by omega)⟩
   rw[h]at hb
   cases hb
  ·refine⟨fun z=>if z=b then .rH a else ro z,fun b' lI=>?_,fun z ed=>?_,⟨fun z ed _=>?_,fun z x ed hx=>⟨x,?_⟩,fun z ed=>?_⟩,fun z ed=>?_⟩
   ·rw[h]at lI
    injection lI with lI
    simp[lI]
   ·show(if z=b then Rl.rH a else ro z)=_
    rw[if_neg (by omega)]
   ·show(if z=b then Rl.rH a else ro z)=_
    rw[if_neg (by omega)]
   ·show(if z=b then Rl.rH a else ro z)=_
    rw[if_neg (by omega)];exact hx
   ·show(if z=b then Rl.rH a else ro z)=_∨∃y,(if z=b then Rl.rH a else ro z)=_
    split
    ·exact .inr ⟨a,rfl⟩
    ·exact .inl (hz z ed)
   ·show(if z=b then Rl.rH a else ro z)=_
    rw[if_neg (by omega)];exact hz z (by omega)
 obtain⟨ro',r1,r2,r3,r4⟩:=hr
 have Wx:∀b,bI=some b→b≠tb:=fun b hb e=>by
  have:=r1 b hb
  rw[e,r2 tb (by omega),m.rt]at this
  cases this
 refine⟨ro',fun z=>if z=a then bI else kb z,⟨t3,fun x h0 h1=>?_,by rw[r2 _ z1];exact m.rf,by rw[r2 _ z2];exact m.rt,fun x b h0 h1 hb=>?_,fun x c hc=>?_,fun x hx=>?_⟩,r3,fun z ed=>r4 z (by omega),(e.mono fun z _ h=>.inr ⟨a,Ua z h⟩).trans (e3.mono fun z _ h=>.inl (by rw[h];exact m.rt))⟩
 ·unfold vM aA
  by_cases hxa:x=a
  ·simp only[hxa,if_true]
   exact s.ext e3 (fun b hb=>Wx b hb)
  ·simp only[if_neg hxa]
   refine((m.kd x h0 h1).ext e (fun b hb oG=>?_)).ext e3 (fun b hb e=>?_)
   ·have h5:=m.rk x b h0 h1 hb
    rw[Ua b oG]at h5
    injection h5 with h5
    exact hxa h5.symm
   ·have h5:=m.rk x b h0 h1 hb
    rw[e,m.rt]at h5
    cases h5
 ·split at hb
  ·rename_i e;rw[e];exact r1 b hb
  ·have h5:=m.rk x b h0 h1 hb
   have h6:=Sl.lt (b:=b) (by have:=m.kd x h0 h1;rw[hb]at this;exact this)
   rw[r2 b h6];exact h5
 ·unfold aA at hc
  split at hc
  ·exact hL c hc
  ·exact m.HU x c hc
 ·unfold aA
  rw[if_neg (fun e=>hx (by rw[e];exact ha))]
  exact m.no x hx
theorem ForM.aK(m:ForM H ro fb tb n l V ch par kb){x:Int}(hx:0≤x∧x<n)(u:Int):ForM (H.wr tb (l.set (x.toNat*2+1) (i64 u))) ro fb tb n (l.set (x.toNat*2+1) (i64 u)) V ch (aK par x u) kb∧ag (KB ro) H (H.wr tb (l.set (x.toNat*2+1) (i64 u))):=by
 obtain⟨t3,e3⟩:=m.t.aK hx u
 refine⟨⟨t3,fun x h0 h1=>(m.kd x h0 h1).ext e3 (fun b hb e=>?_),m.rf,m.rt,m.rk,m.HU,m.no⟩,e3.mono fun z _ h=>.inl (by rw[h];exact m.rt)⟩
 have h5:=m.rk x b h0 h1 hb
 rw[e,m.rt]at h5
 cases h5
theorem tK(m:ForM H ro fb tb n l V ch par kb)(hz:∀z,H.size≤z→ro z= .no){a b:Int}(ha:0≤a∧a<n)(hb:0≤b∧b<n)(pa:par a= -1)(pb:par b= -1)(AG:a≠b)(hd:(ch a).length=(ch b).length)(hl:(ch a).length≤65536):
  af Tryz.prog xb [ptr fb,i64 a,i64 b] H fun v H'=>ax (v= .bool true∧∃ro' l' V' ri,ForM H' ro' fb tb n l' V' (aA ch a (ch a++[b])) (aK par b a) ri∧RK H.size ro ro'∧(∀z,H'.size≤z→ro' z= .no)∧ag (KB ro) H H'):=by
 have ht:=m.t.len
 obtain⟨a1,a2⟩:=m.t.at_ a ha.1 ha.2
 have ka:=m.kd a ha.1 ha.2
 have hcL:∀c∈ch a++[b],0≤c∧c<n:=fun c hc=>by
  rcases aqq.1 hc with hc|hc
  ·exact m.HU a c hc
  ·rw[aql.1 hc];exact hb
 have Ua:∀z,kb a=some z→ro z= .rH a:=fun z h=>m.rk a z ha.1 ha.2 h
 have hfb:¬kb a=some fb:=fun h=>by have:=Ua _ h;rw[m.rf]at this;cases this
 have Wy:¬kb a=some tb:=fun h=>by have:=Ua _ h;rw[m.rt]at this;cases this
 refine EL xG ⟨rfl,?_⟩
 refine v1 mD.eq_1 ?_
 refine(iq m.t a).mono ?_
 rintro _ H' ⟨rfl,e⟩
 obtain rfl:=e.symm
 rw[aqp ha,aqp pa]
 refine vs ?_
 refine(iq m.t b).mono ?_
 rintro _ H' ⟨rfl,e⟩
 obtain rfl:=e.symm
 rw[aqp hb,aqp pb]
 refine vs ?_
 refine ar.dec (fun h=>absurd h AG) (fun _=>?_)
 refine vs ?_
 refine(dq m a).mono ?_
 rintro _ H' ⟨rfl,e⟩
 obtain rfl:=e.symm
 refine vs ?_
 refine(dq m b).mono ?_
 rintro _ H' ⟨rfl,e⟩
 obtain rfl:=e.symm
 rw[hd]
 refine vs ?_
 refine ar.cP (by simp) ?_
 refine vs ?_
 refine gP.intro (fun H'=>H'.own fb=some [.slice (some ⟨tb,0,none⟩) n n]) m.t.own ?_
 refine vs ?_
 refine dP.intro (.slice (some ⟨tb,0,none⟩) n n) (fun H' hI=>by refine v1 (ae hI) ?_;trivial) ?_
 refine vs ?_
 refine dP.intro (.slice (some ⟨tb,0,none⟩) n n) (fun H' hI=>by refine v1 (ae hI) ?_;trivial) ?_
 refine vs ?_
 refine⟨⟨by omega,by omega⟩,?_⟩
 refine vs ?_
 obtain⟨z1,z2⟩:=m.t.Td
 have f1:ah H (H.new 3 [i64 b]):=(ag.refl _ _).new _ _
 have o1:=f1.own m.t.own (fun h=>h)
 have q1:=f1.own m.t.FP (fun h=>h)
 refine zg.intro ?A ?B
 case' A=>
  refine v4 (ae m.t.FP) aqa Nat.add_zero a1 ?_
  refine And.intro m.t.own ?_
  refine vs ?_
  refine And.intro m.t.own ?_
  refine vs ?_
 case' B=>
  refine vs ?_
  refine And.intro m.t.own ?_
  refine v5 (ae q1) (ae m.t.FP) aqa Nat.add_zero a1 ?_
  refine And.intro m.t.own ?_
  refine vs ?_
 all_goals
  refine Te ka b (by omega) fun w' H2 bI eB s2 e2=>?_
  obtain⟨wa,wc,rfl⟩:=Sl.shape s2
  have t2:=m.t.ext e2 hfb Wy
  refine And.intro t2.own ?_
  refine vs ?_
  refine⟨⟨by omega,by omega⟩,?_⟩
  refine v3 t2.FP aqa Nat.add_zero ?_
  refine⟨by omega,?_⟩
  obtain⟨ro',ri,m3,r3,r4,e3⟩:=m.put hz ha e2 s2 (eB.imp_right .inr) hcL
  refine vs ?_
  refine And.intro m3.t.own ?_
  refine vs ?_
  have Q0:=m3.t.len
  generalize H2.wr tb (l.set (a.toNat*2) (Value.slice wa (ch a++[b]).length wc))=H3 at*
  refine v1 (ae m3.t.own) ?_
  refine⟨⟨by omega,by omega⟩,?_⟩
  refine v3 m3.t.FP aqa Nat.add_zero ?_
  refine⟨by omega,?_⟩
  obtain⟨m4,e4⟩:=m3.aK hb a
  refine vs ?_
  refine⟨rfl,ro',_,_,ri,m4,r3,fun z ed=>r4 z (by rw[cG]at ed;exact ed),?_⟩
  refine⟨aqW e3.size e4.size,fun z ed hn=>?_⟩
  rw[e4.aM z (aqw ed e3.size) (fun h=>hn ?_),e3.aM z ed hn]
  rcases h with h| ⟨x,h⟩
  ·refine .inl ?_
   by_cases hk:∃x,ro z= .rH x
   ·obtain⟨x,hx⟩:=hk
    obtain⟨y,hy⟩:=r3.k z x ed hx
    rw[hy]at h;cases h
   ·rw[←r3.o z ed (fun x hx=>hk ⟨x,hx⟩)];exact h
  ·refine .inr ?_
   apply aqt
   intro hk
   rw[r3.o z ed (fun x hx=>hk ⟨x,hx⟩)]at h
   exact hk ⟨x,h⟩
end
end Go.Proofs.YthpjfeolagohkaaGreat

namespace Go.Proofs.YthpjfeolagohkaaGreat
open Go Go.Vc
abbrev gI(x:Int)(g:Nat):Value:=.agg #[i64 x,.int .u32 (g:Int)]
def dL(L:List (Nat×Bool)):List Value:=L.flatMap fun y=>[.int .u32 (y.1:Int),.bool y.2]
theorem rj(L:List (Nat×Bool)):(dL L).length=L.length*2:=by
 induction L with
 |nil=>rfl
 |cons c r ih=>simp only[dL,arN,aqj,aqx,arh]at*;omega
theorem vN{L:List (Nat×Bool)}{i:Nat}{y:Nat×Bool}(hi:L[i]? =some y):(dL L)[i*2]? =some (.int .u32 (y.1:Int))∧(dL L)[i*2+1]? =some (.bool y.2):=by
 induction L generalizing i with
 |nil=>simp at hi
 |cons a r ih=>
  have e:dL (a::r)= .int .u32 (a.1:Int):: .bool a.2::dL r:=rfl
  rw[e]
  cases i with
  |zero=>simp at hi;subst hi;exact⟨rfl,rfl⟩
  |succ i=>
   have:=ih (by simpa using hi)
   rw[show(i+1)*2=i*2+2 by omega]
   exact this
theorem DP{L:List (Nat×Bool)}{i:Nat}{y:Nat×Bool}(hi:L[i]? =some y):(∀v:Nat,(dL L).set (i*2) (.int .u32 (v:Int))=dL (L.set i (v,y.2)))∧(∀b,(dL L).set (i*2+1) (.bool b)=dL (L.set i (y.1,b))):=by
 induction L generalizing i with
 |nil=>simp at hi
 |cons a r ih=>
  have e:dL (a::r)= .int .u32 (a.1:Int):: .bool a.2::dL r:=rfl
  cases i with
  |zero=>simp at hi;subst hi;exact⟨fun _=>rfl,fun _=>rfl⟩
  |succ i=>
   obtain⟨h1,h2⟩:=ih (by simpa using hi)
   refine⟨fun v=>?_,fun b=>?_⟩
   ·have e2:dL ((a::r).set (i+1) (v,y.2))= .int .u32 (a.1:Int):: .bool a.2::dL (r.set i (v,y.2)):=rfl
    rw[e,e2,show(i+1)*2=i*2+1+1 by omega]
    simp only[aqU]
    rw[h1]
   ·have e2:dL ((a::r).set (i+1) (y.1,b))= .int .u32 (a.1:Int):: .bool a.2::dL (r.set i (y.1,b)):=rfl
    rw[e,e2,show(i+1)*2+1=i*2+1+1+1 by omega]
    simp only[aqU]
    rw[h2]
structure VA where
 a:Nat
 sb:Nat
 fo:Option Nat
def VA.S(B:VA)(z:Nat):Prop:=z=B.a∨z=B.sb∨B.fo=some z
structure KO(H:Hp)(B:VA)(A:Ar):Prop where
 own:∃tv,H.own B.a=some [.slice (some ⟨B.sb,0,none⟩) A.g.length A.g.length,tv,i64 A.nx,i64 A.ct,.int .u32 (A.mo:Int)]∧Sl H 1 tv A.wt.length (A.wt.map i64) B.fo
 sl:H.own B.sb=some (dL A.g)
 ne:B.a≠B.sb∧B.fo≠some B.a∧B.fo≠some B.sb
 len:A.g.length≤65536
 ok:CJ A
 gs:∀y∈A.g,y.1≤4294967295
 mo:A.mo≤4294967295
section
variable {H H' : Hp} {B : VA} {A : Ar} {T : Nat → Prop}
theorem KO.slt(m:KO H B A):∀z,B.S z→z<H.size:=by
 obtain⟨tv,h1,h2⟩:=m.own
 rintro z (rfl|rfl|h)
 ·exact aB h1
 ·exact aB m.sl
 ·rw[h]at h2;exact Sl.lt h2
theorem KO.ext(m:KO H B A)(e:ag T H H')(hd:∀z,B.S z→¬T z):KO H' B A:=by
 obtain⟨tv,h1,h2⟩:=m.own
 exact⟨⟨tv,e.own h1 (hd _ (.inl rfl)),h2.ext e (fun b hb=>hd b (.inr (.inr hb)))⟩,e.own m.sl (hd _ (.inr (.inl rfl))),m.ne,m.len,m.ok,m.gs,m.mo⟩
theorem KO.wtl(m:KO H B A):A.wt.length≤65536∧∀x∈A.wt,0≤x∧x<A.g.length:=by
 have h1:∀x∈A.wt,0≤x∧x<A.g.length:=fun x hx=>by
  have:=m.ok.wl x hx
  have:=m.ok.nx
  omega
 exact⟨aqW (cf m.ok.wd h1) m.len,h1⟩
theorem OM(k:Nat):aV [Value.int .u32 0,Value.bool false] k=dL (List.replicate k (0,false)):=by
 unfold aV dL
 induction k with
 |zero=>rfl
 |succ k ih=>rw[aqQ,aqQ,aq4,arN,ih];rfl
theorem G3(H:Hp){n:Int}{mo:Nat}(hn:0≤n∧n≤65536)(hm:0<mo∧mo≤4294967295):af Tryz.prog Mj [i64 n,.int .u32 (mo:Int)] H fun v H'=>ax (∃B,v= .tuple [ptr B.a,i64 0].toArray∧KO H' B ⟨List.replicate n.toNat (0,false),[],0,0,mo⟩∧ah H H'∧∀z,B.S z→H.size≤z):=by
 refine bm Ms ?_
 refine vs ?_
 refine ar.dec (fun g=>absurd g (by omega)) (fun _=>?_)
 refine vs ?_
 refine ar.dec (fun g=>absurd g (by omega)) (fun _=>?_)
 refine vs ?_
 refine ar.dec (fun g=>absurd g (by omega)) (fun _=>?_)
 refine vs ?_
 refine⟨⟨by omega,by omega,by omega,by omega⟩,?_⟩
 refine vs ?_
 rw[OM]
 refine⟨⟨H.size+1,H.size,none⟩,rfl,⟨⟨.slice none 0 0,?_,Sl.nil _ _⟩,?_,⟨by simp only;omega,by simp,by simp⟩,by rw[aqV];omega,⟨by simp,art,fun x _ hx=>?_,by simp[Ar.aS,List.countP_replicate],arU _⟩,fun y hy=>by rw[(List.mem_replicate.1 hy).2];simp,hm.2⟩,((ag.refl _ _).new _ _).new _ _,fun z hz=>?_⟩
 ·rw[aqV]
  exact bz (by simp only[am])
 rotate_left
 ·obtain⟨h0,h1⟩:=hx
  simp only[arp]at h1
  split at h1<;>simp at h1
 rotate_left
 ·simp only
  rw[cA (by simp only[am];omega),az]
 ·rcases hz with h|h|h
  ·simp only at h;omega
  ·simp only at h;omega
  ·cases h
theorem tL(m:KO H B A)(x:Int)(g:Nat):af Tryz.prog zp [ptr B.a,gI x g] H fun v H'=>ax (v= .bool (decide (A.live x∧A.bM x=g))∧ah H H'):=by
 obtain⟨tv,o1,_⟩:=m.own
 refine EL zL ⟨rfl,?_⟩
 refine v1 nK.eq_1 ?_
 have f0:ah H (H.new 71 [i64 x,.int .u32 (g:Int)]):=(ag.refl _ _).new _ _
 have b0:(H.new 71 [i64 x,.int .u32 (g:Int)]).own H.size=some [i64 x,.int .u32 (g:Int)]:=az _ _ _
 have m0:=m.ext f0 (fun _ _ h=>h)
 generalize H.new 71 [i64 x,.int .u32 (g:Int)]=H0 at*
 obtain⟨tv0,o0,_⟩:=m0.own
 refine ar.dec (fun h0=>?_) (fun h0=>?_)<;>refine v2 (ae b0) (ae o0) ?_
 rotate_left
 ·rw[aqA (fun h=>h0 h.1.1)]
  exact⟨rfl,f0⟩
 refine ar.dec (fun h1=>?_) (fun h1=>?_)<;>refine v2 (ae b0) (ae o0) ?_
 rotate_left
 ·rw[aqA (fun h=>h1 (Ar.AN h.1).2)]
  exact⟨rfl,f0⟩
 obtain⟨b,hb,mH⟩:=Ar.get (A:=A) (x:=x) ⟨h0,h1⟩
 obtain⟨c1,c2⟩:=vN hb
 have hl:=rj A.g
 refine⟨⟨by omega,by omega⟩,?_⟩
 refine v2 (ae m0.sl) aqa ?_
 have hdt:((dL A.g).drop (x.toNat*2)).take 2=[.int .u32 (A.bM x:Int),.bool b]:=by
  apply aqX
  intro k
  match k with
  |0=>rw[aqF (by omega),aqJ,Nat.add_zero];exact c1
  |1=>rw[aqF (by omega),aqJ];exact c2
  |k+2=>rw[aqo (by simp;omega)];rfl
 rw[hdt]
 refine⟨by omega,?_⟩
 refine v1 (ae b0) ?_
 have heq:Fj [(0,none,Shape.int),(1,none,Shape.bool)] [Value.int IntKind.u32 (A.bM x:Int),Value.bool b] [Value.int IntKind.u32 (g:Int),Value.bool true]=some (decide (A.bM x=g) && b):=by
  by_cases hg:A.bM x=g
  ·cases b<;>simp[Fj,rG,bE,hg,Vc.tE]
  ·have:¬ (A.bM x:Int)=(g:Int):=by omega
   cases b<;>simp[Fj,rG,bE,hg,Vc.tE,this]
 rw[heq]
 simp(disch:=(first|omega| (simp only[Zs]<;>omega)|fail)) only[go_sem, ↓reduceIte,Zv,Option.map_some]
 refine⟨aqv Value.bool ?_,f0⟩
 by_cases hg:A.bM x=g
 ·rw[aqp hg,arx]
  cases oG:b
  ·exact(aqA (fun h=>by have:=mH.1 h.1;rw[oG]at this;cases this)).symm
  ·exact(aqp ⟨mH.2 oG,hg⟩).symm
 ·rw[aqA hg,aqA (fun h=>hg h.2)]
  rfl
theorem IP(m:KO H B A){x:Int}(hx:A.live x):af Tryz.prog C3 [ptr B.a,i64 x] H fun v H'=>ax (v= .tuple [gI x (A.bM x),.bool true].toArray∧ah H H'):=by
 obtain⟨tv,o1,_⟩:=m.own
 have vO:=Ar.AN hx
 obtain⟨b,hb,mH⟩:=Ar.get (A:=A) (x:=x) vO
 obtain rfl:=mH.1 hx
 obtain⟨c1,c2⟩:=vN hb
 have hl:=rj A.g
 refine bm Dg ?_
 refine vs ?_
 have f0:ah H (H.new 71 [Value.int .i64 0,Value.int .u32 0]):=(ag.refl _ _).new _ _
 have b0:(H.new 71 [Value.int .i64 0,Value.int .u32 0]).own H.size=some [Value.int .i64 0,Value.int .u32 0]:=az _ _ _
 have m0:=m.ext f0 (fun _ _ h=>h)
 have z0:(H.new 71 [Value.int .i64 0,Value.int .u32 0]).size=H.size+1:=am _ _ _
 generalize H.new 71 [Value.int .i64 0,Value.int .u32 0]=H0 at*
 obtain⟨tv0,o0,_⟩:=m0.own
 refine ar.dec (fun h=>absurd h (by omega)) (fun _=>?_)
 refine v1 (ae o0) ?_
 refine ar.dec (fun h=>absurd h (by omega)) (fun _=>?_)
 refine v1 (ae o0) ?_
 refine⟨⟨by omega,by omega⟩,?_⟩
 refine v4 (ae m0.sl) aqa c2 (ae o0) ?_
 refine⟨⟨by omega,by omega⟩,?_⟩
 refine v5 (ae m0.sl) aqa Nat.add_zero c1 b0 ?_
 have e1:ag (fun z=>z=H.size) H0 (H0.wr H.size [Value.int .i64 x,Value.int .u32 (A.bM x:Int)]):=(ag.refl (fun z=>z=H.size) _).wr (fun _=>rfl) _
 have b1:(H0.wr H.size [Value.int .i64 x,Value.int .u32 (A.bM x:Int)]).own H.size=some [Value.int .i64 x,Value.int .u32 (A.bM x:Int)]:=ai b0
 refine v1 (ae b1) ?_
 exact⟨rfl,f0.then e1 (fun z hz=>by omega)⟩
end
end Go.Proofs.YthpjfeolagohkaaGreat

namespace Go.Proofs.YthpjfeolagohkaaGreat
open Go Go.Vc
theorem fT{H:Hp}{a:Option Addr}{c:Nat}{xs:List Int}(h:db H 1 (.slice a xs.length c) xs.length (xs.map i64))(x:Int)(hm:xs.length≤1000000000):
  af Tryz.prog rV [.slice a xs.length c,i64 x] H fun v H'=>ax ((∃i:Int,v=i64 i∧((i= -1∧x∉xs)∨(0≤i∧xs[i.toNat]? =some x)))∧H'=H):=by
 refine bm sn ?_
 refine vs ?_
 refine aY.intro (fun m env H'=>H'=H∧∃j:Nat,m=xs.length - j∧j≤xs.length∧(∀e∈xs.take j,x≠e)∧env=[(0,.slice a xs.length c),(1,i64 x),(7,i64 xs.length),(8,i64 j)]) xs.length ⟨rfl,0,by omega,by omega,by simp,rfl⟩ ?_
 rintro m env H1 ⟨e1,j,Vd,hj,cM,rfl⟩
 obtain rfl:=e1.symm
 refine vs ?_
 refine ar.dec (fun aN=>?_) (fun aN=>?_)<;>refine vs ?_
 ·have ie:j<xs.length:=by omega
  obtain⟨e,he⟩:∃e,xs[j]? =some e:=⟨_,aqb ie⟩
  obtain⟨_,b,o,lb,rfl,KD,cj⟩:=db.num h he
  refine⟨⟨by omega,by omega⟩,?_⟩
  refine v4 KD Int.toNat_natCast aqd cj ?_
  refine ar.dec (fun hx=>?_) (fun hx=>?_)<;>refine vs ?_
  ·exact⟨⟨j,rfl,.inr ⟨by omega,by rw[Int.toNat_natCast,he,hx]⟩⟩,rfl⟩
  ·rw[wrap64 (n:=(j:Int)+1) (by omega) (by omega)]
   refine⟨xs.length - (j+1),by omega,trivial,j+1,rfl,by omega,?_,rfl⟩
   intro e' gz
   rw[aqS,he]at gz
   rcases aqq.1 gz with gz|gz
   ·exact cM e' gz
   ·have:e'=e:=by simpa using gz
    rw[this];exact hx
 ·have ie:j=xs.length:=by omega
  subst ie
  rw[aqM]at cM
  exact⟨⟨-1,rfl,.inl ⟨rfl,fun hm=>cM x hm rfl⟩⟩,rfl⟩
theorem vP{H:Hp}{a:Option Addr}{c:Nat}{xs:List Int}(h:db H 1 (.slice a xs.length c) xs.length (xs.map i64))(x:Int)(hm:xs.length≤1000000000):
  af Tryz.prog oD [.slice a xs.length c,i64 x] H fun v H'=>ax (v= .bool (decide (x∈xs))∧H'=H):=by
 refine bm oE ?_
 refine vs ?_
 refine(fT h x hm).mono ?_
 rintro _ H1 ⟨⟨i,rfl,hi⟩,e⟩
 obtain rfl:=e.symm
 refine vs ?_
 refine⟨aqv Value.bool ?_,rfl⟩
 rcases hi with ⟨rfl,h1⟩| ⟨h0,h1⟩
 ·rw[aqA h1];rfl
 ·rw[aqp (aqg h1)]
  exact aqp (by omega)
theorem Fk{H:Hp}{a:Option Addr}{c:Nat}{xs:List Int}(f:FuncId)(jD:List Value)(q:Int→Bool)(h:db H 1 (.slice a xs.length c) xs.length (xs.map i64))(wP:dN Tryz.prog f=true)
  (hf:∀x,af Tryz.prog f (i64 x::jD) H fun v zh=>ax (v= .bool (q x)∧zh=H))(hm:xs.length≤1000000000):
  af Tryz.prog fX [.slice a xs.length c,.func (.func f) #[] jD.toArray] H fun v H'=>ax ((∃i:Int,v=i64 i∧((i= -1∧∀x∈xs,q x=false)∨(0≤i∧(∀x∈xs.take i.toNat,q x=false)∧∃x,xs[i.toNat]? =some x∧q x=true)))∧H'=H):=by
 refine bm fZ ?_
 refine vs ?_
 refine aY.intro (fun m env H'=>H'=H∧∃j:Nat,m=xs.length - j∧j≤xs.length∧(∀e∈xs.take j,q e=false)∧env=[(0,.slice a xs.length c),(1,.func (.func f) #[] jD.toArray),(7,i64 xs.length),(8,i64 j)]) xs.length ⟨rfl,0,by omega,by omega,by simp,rfl⟩ ?_
 rintro m env H1 ⟨e1,j,Vd,hj,cM,rfl⟩
 obtain rfl:=e1.symm
 refine vs ?_
 refine ar.dec (fun aN=>?_) (fun aN=>?_)<;>refine vs ?_
 ·have ie:j<xs.length:=by omega
  obtain⟨e,he⟩:∃e,xs[j]? =some e:=⟨_,aqb ie⟩
  obtain⟨_,b,o,lb,rfl,KD,cj⟩:=db.num h he
  refine⟨⟨by omega,by omega⟩,?_⟩
  refine v4 KD Int.toNat_natCast aqd cj ?_
  refine⟨wP,?_⟩
  refine af.mono (by simpa using hf e) ?_
  rintro _ H2 ⟨rfl,e2⟩
  obtain rfl:=e2.symm
  refine vs ?_
  cases hx:q e
  ·refine vs ?_
   rw[wrap64 (n:=(j:Int)+1) (by omega) (by omega)]
   refine⟨xs.length - (j+1),by omega,trivial,j+1,rfl,by omega,?_,rfl⟩
   intro e' gz
   rw[aqS,he]at gz
   rcases aqq.1 gz with gz|gz
   ·exact cM e' gz
   ·have:e'=e:=by simpa using gz
    rw[this];exact hx
  ·refine vs ?_
   exact⟨⟨j,rfl,.inr ⟨by omega,by rw[Int.toNat_natCast];exact cM,e,by rw[Int.toNat_natCast];exact he,hx⟩⟩,rfl⟩
 ·have ie:j=xs.length:=by omega
  subst ie
  rw[aqM]at cM
  exact⟨⟨-1,rfl,.inl ⟨rfl,cM⟩⟩,rfl⟩
theorem MY(k:Nat):aV [Value.int .i64 0] k=(List.replicate k (0:Int)).map i64:=by
 unfold aV
 induction k with
 |zero=>rfl
 |succ k ih=>rw[aqQ,aqQ,aq4,aqY,ih];rfl
theorem G4(l new:List Value)(i:Nat)(h:i+new.length≤l.length):(bh l i new).take i=l.take i:=by
 apply aqX
 intro k
 by_cases hk:k<i
 ·rw[aqF hk,aqF hk,getElem?_splice new l i k h,if_neg (by omega)]
 ·rw[aqo (by simp;omega),aqo (by simp;omega)]
theorem DQ{H:Hp}{v:Value}{xs:List Int}{fp:Option Nat}(s:Sl H 1 v xs.length (xs.map i64) fp)(f:FuncId)(jD:List Value)(q:Int→Bool)(wP:dN Tryz.prog f=true)
  (hf:∀H',ag (fun z=>fp=some z) H H'→∀x,af Tryz.prog f (i64 x::jD) H' fun v zh=>ax (v= .bool (q x)∧zh=H'))(hm:xs.length≤1000000000):
  af Tryz.prog mO [v,.func (.func f) #[] jD.toArray] H fun v' H'=>ax (Sl H' 1 v' (xs.filter fun x=> !q x).length ((xs.filter fun x=> !q x).map i64) fp∧ag (fun z=>fp=some z) H H'):=by
 obtain⟨a,c,rfl⟩:=Sl.shape s
 refine bm mQ ?_
 refine vs ?_
 refine(Fk f jD q s.rd wP (hf H (ag.refl _ _)) hm).mono ?_
 rintro _ H1 ⟨⟨i0,rfl,GR⟩,e⟩
 obtain rfl:=e.symm
 refine vs ?_
 rcases GR with ⟨rfl,cM⟩| ⟨h0,cM,x0,gB,WN⟩
 ·refine ar.cP (by simp) ?_
  refine vs ?_
  have:xs.filter (fun x=> !q x)=xs:=by
   rw[ar6]
   intro x hx
   rw[cM x hx];rfl
  rw[this]
  exact⟨s,ag.refl _ _⟩
 obtain⟨i,rfl⟩:∃i:Nat,i0=(i:Int):=⟨i0.toNat,by omega⟩
 rw[Int.toNat_natCast]at cM gB
 have hi:=(aqc.1 gB).1
 refine ar.dec (fun h=>by omega) (fun _=>?_)
 refine vs ?_
 obtain⟨_,b,lb0,rfl,_,_⟩:=Sl.Ao s gB
 have eB:fp=some b:=by
  cases fp with
  |none=>have:=s.2.2;injection this with h1;cases h1
  |some b'=>obtain⟨_,_,h1,_⟩:=s.2;injection h1 with h1;injection h1 with h1;injection h1 with h1;rw[h1]
 subst eB
 have f0:(xs.take (i+1)).filter (fun x=> !q x)=xs.take i:=by
  rw[aqS,gB,asg]
  have h1:(xs.take i).filter (fun x=> !q x)=xs.take i:=by
   rw[ar6]
   intro x hx
   rw[cM x hx];rfl
  rw[h1]
  simp[WN]
 rw[wrap64 (by omega) (by omega)]
 refine aY.intro (fun m env H'=>∃ (i j:Nat) (ys:List Int),m=xs.length - j∧j≤xs.length∧i<j∧i=((xs.take j).filter fun x=> !q x).length∧ys.length=xs.length∧ys.take i=(xs.take j).filter (fun x=> !q x)∧ys.drop j=xs.drop j∧
  Sl H' 1 (.slice (some ⟨b,0,none⟩) xs.length c) xs.length (ys.map i64) (some b)∧ag (fun z=>some b=some z) H H'∧env=[(0,.slice (some ⟨b,0,none⟩) xs.length c),(1,.func (.func f) #[] jD.toArray),(5,i64 i),(6,i64 j)]) _
  ⟨i,i+1,xs,rfl,by omega,by omega,by rw[f0,aqO];omega,rfl,f0.symm,rfl,s,ag.refl _ _,rfl⟩ ?_
 clear cM gB WN f0 hi h0
 rintro m env H2 ⟨i,j,ys,rfl,hj,Ll,qR,hyl,hyt,hyd,s2,e2,rfl⟩
 obtain⟨_,lb,c2,fh,q2,E6,YJ,Q1⟩:=id s2
 injection fh with _ _ fh
 subst fh
 rw[aqd]at YJ Q1
 refine vs ?_
 refine ar.dec (fun aN=>?_) (fun aN=>?_)<;>refine vs ?_
 ·have ie:j<xs.length:=by omega
  obtain⟨x,hx⟩:∃x,xs[j]? =some x:=⟨_,aqb ie⟩
  have oJ:ys[j]? =some x:=by
   have h1:(ys.drop j)[0]? =(xs.drop j)[0]? :=by rw[hyd]
   rwa[aqJ,aqJ,Nat.add_zero,hx]at h1
  have cj:lb[j]? =some (i64 x):=s2.get q2 (by rw[aqz,oJ];rfl)
  have tk:xs.take (j+1)=xs.take j++[x]:=by rw[aqS,hx];rfl
  have dj:∀zs:List Int,zs.length=xs.length→(∀k,j<k→zs[k]? =ys[k]?)→zs.drop (j+1)=xs.drop (j+1):=fun zs hz hk=>by
   apply aqX
   intro k
   have h1:(ys.drop j)[k+1]? =(xs.drop j)[k+1]? :=by rw[hyd]
   rw[aqJ,aqJ]at h1 ⊢
   rw[hk _ (by omega),show j+1+k=j+(k+1) by omega]
   exact h1
  refine⟨⟨by omega,by omega⟩,?_⟩
  refine v5 (ae q2) aqa aqd Int.toNat_natCast cj ?_
  refine⟨wP,?_⟩
  refine af.mono (by simpa using hf H2 e2 x) ?_
  rintro _ H3 ⟨rfl,e⟩
  obtain rfl:=e.symm
  refine vs ?_
  cases hq:q x
  ·refine vs ?_
   refine⟨⟨by omega,by omega⟩,?_⟩
   refine v4 q2 aqa aqd Int.toNat_natCast ?_
   refine⟨by omega,?_⟩
   have s3:=s2.qn q2 i (i64 x)
   have e3:ag (fun z=>some b=some z) H2 (H2.wr b (lb.set i (i64 x))):=(ag.refl (fun z=>some b=some z) _).wr (fun _=>rfl) _
   refine vs ?_
   rw[wrap64 (n:=(i:Int)+1) (by omega) (by omega),wrap64 (n:=(j:Int)+1) (by omega) (by omega)]
   have ff:(xs.take (j+1)).filter (fun x=> !q x)=(xs.take j).filter (fun x=> !q x)++[x]:=by
    rw[tk,asg]
    simp[hq]
   refine⟨xs.length - (j+1),by omega,i+1,j+1,ys.set i x,rfl,by omega,by omega,by rw[ff,aqj,←qR];rfl,by rw[aqe];exact hyl,?_,dj _ (by rw[aqe];exact hyl) (fun k hk=>by rw[aqh (by omega)]),?_,e2.trans e3,rfl⟩
   ·rw[ff,←hyt,aqS,aqi (by omega),List.take_set_of_le (by omega)]
    rfl
   ·rw[aqP];exact s3
  ·refine vs ?_
   rw[wrap64 (n:=(j:Int)+1) (by omega) (by omega)]
   have ff:(xs.take (j+1)).filter (fun x=> !q x)=(xs.take j).filter (fun x=> !q x):=by
    rw[tk,asg]
    simp[hq]
   exact⟨xs.length - (j+1),by omega,i,j+1,ys,rfl,by omega,by omega,by rw[ff];exact qR,hyl,by rw[ff];exact hyt,dj ys hyl (fun k _=>rfl),s2,e2,rfl⟩
 ·obtain rfl:j=xs.length:=by omega
  rw[aqM]at hyt qR
  refine⟨⟨by omega,by omega,by omega,by omega⟩,?_⟩
  refine vs ?_
  have hic:¬ (c:Int)=(i:Int):=by omega
  have hlz:(aV [Value.int .i64 0] (xs.length - i)).length=xs.length - i:=by rw[MY];simp
  rw[if_neg hic]
  refine .inr ⟨by simp only[Int.toNat_natCast];omega,b,i,lb,?_,by rw[q2];rfl,?_,?_,?_⟩
  ·simp[Addr.add]
   exact fun h=>h.symm
  ·rw[Int.toNat_natCast,Int.toNat_natCast,MY]
   exact mS _
  ·rw[Int.toNat_natCast,Int.toNat_natCast]
   show i+(xs.length - i)*1≤lb.length
   omega
  ·rw[Int.toNat_natCast,Int.toNat_natCast]
   have e3:ag (fun z=>some b=some z) H2 (H2.wr b (bh lb i (aV [Value.int .i64 0] (xs.length - i)))):=(ag.refl (fun z=>some b=some z) _).wr (fun _=>rfl) _
   have q3:(H2.wr b (bh lb i (aV [Value.int .i64 0] (xs.length - i)))).own b=some (bh lb i (aV [Value.int .i64 0] (xs.length - i))):=ai q2
   refine vs ?_
   refine⟨⟨by omega,by omega,by omega,by omega⟩,?_⟩
   have jW:¬ (c:Int)=((0:Nat):Int):=by omega
   refine vs ?_
   rw[if_neg jW]
   rw[←hyt]
   refine⟨⟨by simp,bh lb i (aV [Value.int .i64 0] (xs.length - i)),c,?_,q3,?_,?_,?_⟩,e2.trans e3⟩
   ·have h1:(ys.take i).length=i:=by rw[aqO];omega
    rw[h1]
    simp[LZ,Addr.add]
   ·rw[aqO];omega
   ·rw[kA];omega
   ·rw[aqd,aqO,arJ (by omega),G4 _ _ _ (by rw[hlz];omega),List.map_take,←Q1,ar4,arJ (by omega)]
end Go.Proofs.YthpjfeolagohkaaGreat
