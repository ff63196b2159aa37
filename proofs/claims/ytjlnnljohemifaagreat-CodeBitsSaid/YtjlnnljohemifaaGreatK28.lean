/- Texts put behind each other. -/
import Derived.Test.YtjlnnljohemifaaGreatK98
import Derived.Test.YtjlnnljohemifaaGreatK4
import Derived.Test.YtjlnnljohemifaaGreatK21
import Derived.Test.YtjlnnljohemifaaGreatK22
import Derived.Test.YtjlnnljohemifaaGreatK24
import Derived.Test.YtjlnnljohemifaaGreatK27
set_option maxRecDepth 100000
set_option maxHeartbeats 8000000
set_option linter.unusedVariables false
set_option linter.unusedSimpArgs false
namespace Go.Proofs.YtjlnnljohemifaaGreat
open Go Go.Vc
inductive Rl where
 |no
 |RB
 |cell
 |Lo
 |FK
 |table
 |row(g:Int)
 |pe(x:Int)
def uH(V:Int→Value)(x:Int)(v:Value):Int→Value:=fun z=>if z=x then v else V z
theorem Wx(V:Int→Value)(x:Int)(v:Value):uH V x v x=v:=by unfold uH;rw[if_pos rfl]
theorem Wy{V:Int→Value}{x z:Int}{v:Value}(h:z≠x):uH V x v z=V z:=by unfold uH;rw[if_neg h]
theorem Wz(U:Int→Int)(x v:Int):aI U x v x=v:=by unfold aI;rw[if_pos rfl]
theorem WA{U:Int→Int}{x z v:Int}(h:z≠x):aI U x v z=U z:=by unfold aI;rw[if_neg h]
structure nB(H:Hp)(fb tb n:Nat)(l:List Value)(V:Int→Value)(U:Int→Int):Prop where
 own:H.own fb=some [.slice (some ⟨tb,0,none⟩) n n]
 EE:H.own tb=some l
 len:l.length=n*2
 at_:∀x:Int,0≤x→x<n→l[x.toNat*2]? =some (V x)∧l[x.toNat*2+1]? =some (i64 (U x))
 ne:fb≠tb
section
variable {H H' : Hp} {fb tb n : Nat} {l : List Value} {V : Int → Value} {U : Int → Int} {T : Nat → Prop}
theorem nB.ext(h:nB H fb tb n l V U)(e:ag T H H')(h1:¬T fb)(h2:¬T tb):nB H' fb tb n l V U:=⟨e.own h.own h1,e.own h.EE h2,h.len,h.at_,h.ne⟩
theorem nB.uH(h:nB H fb tb n l V U){x:Int}(hx:0≤x∧x<n)(v:Value):nB (H.wr tb (l.set (x.toNat*2) v)) fb tb n (l.set (x.toNat*2) v) (uH V x v) U∧ag (fun z=>z=tb) H (H.wr tb (l.set (x.toNat*2) v)):=by
 have e:ag (fun z=>z=tb) H (H.wr tb (l.set (x.toNat*2) v)):=(ag.refl (fun z=>z=tb) _).wr (fun _=>rfl) _
 have hl:=h.len
 refine⟨⟨e.own h.own h.ne,ah h.EE,by rw[anv];exact hl,fun z h0 h1=>?_,h.ne⟩,e⟩
 obtain⟨a1,a2⟩:=h.at_ z h0 h1
 refine⟨?_,by rw[anA (by omega)];exact a2⟩
 by_cases hz:z=x
 ·rw[hz,Wx,anB (by omega)]
 ·rw[Wy hz,anA (by omega)];exact a1
theorem nB.aI(h:nB H fb tb n l V U){x:Int}(hx:0≤x∧x<n)(u:Int):nB (H.wr tb (l.set (x.toNat*2+1) (i64 u))) fb tb n (l.set (x.toNat*2+1) (i64 u)) V (aI U x u)∧ag (fun z=>z=tb) H (H.wr tb (l.set (x.toNat*2+1) (i64 u))):=by
 have e:ag (fun z=>z=tb) H (H.wr tb (l.set (x.toNat*2+1) (i64 u))):=(ag.refl (fun z=>z=tb) _).wr (fun _=>rfl) _
 have hl:=h.len
 refine⟨⟨e.own h.own h.ne,ah h.EE,by rw[anv];exact hl,fun z h0 h1=>?_,h.ne⟩,e⟩
 obtain⟨a1,a2⟩:=h.at_ z h0 h1
 refine⟨by rw[anA (by omega)];exact a1,?_⟩
 by_cases hz:z=x
 ·rw[hz,Wz,anB (by omega)]
 ·rw[WA hz,anA (by omega)];exact a2
theorem nB.RC(h:nB H fb tb n l V U):fb<H.size∧tb<H.size:=⟨aA h.own,aA h.EE⟩
end
structure ForM(H:Hp)(ro:Nat→Rl)(fb tb n:Nat)(l:List Value)(V:Int→Value)(ch:Int→List Int)(par:Int→Int)(kb:Int→Option Nat):Prop where
 t:nB H fb tb n l V par
 kd:∀x:Int,0≤x→x<n→Sl H 1 (V x) (ch x).length ((ch x).map i64) (kb x)
 rf:ro fb= .FK
 rt:ro tb= .table
 rk:∀ (x:Int) b,0≤x→x<n→kb x=some b→ro b= .pe x
 GA:∀x c,c∈ch x→0≤c∧c<n
 no:∀x:Int,¬ (0≤x∧x<n)→ch x=[]
structure RK(s:Nat)(ro ro':Nat→Rl):Prop where
 o:∀z,z<s→(∀x,ro z≠ .pe x)→ro' z=ro z
 k:∀z x,z<s→ro z= .pe x→∃y,ro' z= .pe y
 n:∀z,s≤z→ro' z= .no∨∃y,ro' z= .pe y
theorem RK.refl{s:Nat}{ro:Nat→Rl}(h:∀z,s≤z→ro z= .no):RK s ro ro:=⟨fun _ _ _=>rfl,fun z x _ h=>⟨x,h⟩,fun z hz=>.inl (h z hz)⟩
theorem RK.trans{s s':Nat}{r1 r2 r3:Nat→Rl}(h:RK s r1 r2)(h':RK s' r2 r3)(hs:s≤s'):RK s r1 r3:=by
 refine⟨fun z hz hk=>?_,fun z x hz hx=>?_,fun z hz=>?_⟩
 ·have h1:=h.o z hz hk
  rw[h'.o z (by omega) (fun x=>by rw[h1];exact hk x),h1]
 ·obtain⟨y,hy⟩:=h.k z x hz hx
  exact h'.k z y (by omega) hy
 ·by_cases h1:z<s'
  ·rcases h.n z hz with h2| ⟨y,h2⟩
   ·rw[h'.o z h1 (fun x=>by rw[h2];intro e;cases e)]
    exact .inl h2
   ·exact .inr (h'.k z y h1 h2)
  ·exact h'.n z (by omega)
def KB(ro:Nat→Rl)(z:Nat):Prop:=ro z= .table∨∃x,ro z= .pe x
section
variable {H H' : Hp} {ro ro' : Nat → Rl} {fb tb n : Nat} {l : List Value} {V : Int → Value} {ch : Int → List Int} {par : Int → Int} {kb : Int → Option Nat} {T : Nat → Prop}
theorem ForM.ext(m:ForM H ro fb tb n l V ch par kb)(e:ag T H H')(hd:∀z,(ro z= .FK∨KB ro z)→¬T z):ForM H' ro fb tb n l V ch par kb:=
 ⟨m.t.ext e (hd _ (.inl m.rf)) (hd _ (.inr (.inl m.rt))),fun x h0 h1=>(m.kd x h0 h1).ext e (fun b hb=>hd _ (.inr (.inr ⟨x,m.rk x b h0 h1 hb⟩))),m.rf,m.rt,m.rk,m.GA,m.no⟩
theorem ForM.fresh(m:ForM H ro fb tb n l V ch par kb)(e:ai H H'):ForM H' ro fb tb n l V ch par kb:=m.ext e fun _ _ h=>h
theorem ForM.shape(m:ForM H ro fb tb n l V ch par kb){x:Int}(hx:0≤x∧x<n):∃a c,V x= .slice a (ch x).length c:=Sl.shape (m.kd x hx.1 hx.2)
theorem nD(t:nB H fb tb n l V par)(x:Int):af Tryz.prog yu [ptr fb,i64 x] H fun v H'=>aw (v= .bool (decide (0≤x∧x<n))∧H'=H):=by
 refine bm yS ?_
 refine vs ?_
 refine am.dec (fun h0=>?_) (fun h0=>?_)<;>refine v1 (ae t.own) ?_
 ·refine⟨?_,rfl⟩
  rw[show(decide (0≤x∧x< (n:Int)))=decide (x< (n:Int)) by simp[h0]]
  rfl
 ·refine⟨?_,rfl⟩
  rw[anV (fun h=>h0 h.1)]
  rfl
theorem gX(t:nB H fb tb n l V par)(x:Int):af Tryz.prog vP [ptr fb,i64 x] H fun v H'=>aw (v= .bool (decide (0≤x∧x<n) && decide (par x= -1))∧H'=H):=by
 refine bm wI ?_
 refine vs ?_
 refine(nD t x).mono ?_
 rintro _ H' ⟨rfl,e⟩
 obtain rfl:=e.symm
 by_cases hx:0≤x∧x<n
 ·rw[anI hx]
  have hl:=t.len
  obtain⟨a1,a2⟩:=t.at_ x hx.1 hx.2
  refine v1 (ae t.own) ?_
  refine⟨⟨by omega,by omega⟩,?_⟩
  refine v3 (ae t.EE) ant a2 ?_
  exact⟨rfl,rfl⟩
 ·rw[anV hx]
  refine vs ?_
  exact⟨rfl,rfl⟩
theorem cY(m:ForM H ro fb tb n l V ch par kb)(x:Int):af Tryz.prog sP [ptr fb,i64 x] H fun v H'=>aw (v=i64 (ch x).length∧H'=H):=by
 refine bm sZ ?_
 refine vs ?_
 refine(nD m.t x).mono ?_
 rintro _ H' ⟨rfl,e⟩
 obtain rfl:=e.symm
 by_cases hx:0≤x∧x<n
 ·rw[anI hx]
  have hl:=m.t.len
  obtain⟨a1,a2⟩:=m.t.at_ x hx.1 hx.2
  obtain⟨a,c,hv⟩:=m.shape hx
  rw[hv]at a1
  refine v1 (ae m.t.own) ?_
  refine⟨⟨by omega,by omega⟩,?_⟩
  refine v4 (ae m.t.EE) ant Nat.add_zero a1 ?_
  exact⟨rfl,rfl⟩
 ·rw[anV hx,m.no x hx]
  refine vs ?_
  exact⟨rfl,rfl⟩
theorem oN(t:nB H fb tb n l V par){x:Int}(hx:0≤x∧x<n):af Tryz.prog Ae [ptr fb,i64 x] H fun v H'=>aw (((par x= -1∧v= .tuple [i64 0,.bool false].toArray)∨(par x≠ -1∧v= .tuple [i64 (par x),.bool true].toArray))∧H'=H):=by
 refine bm AB ?_
 refine vs ?_
 refine(nD t x).mono ?_
 rintro _ H' ⟨rfl,e⟩
 obtain rfl:=e.symm
 rw[anI hx]
 have hl:=t.len
 obtain⟨a1,a2⟩:=t.at_ x hx.1 hx.2
 refine v1 (ae t.own) ?_
 refine⟨⟨by omega,by omega⟩,?_⟩
 refine v3 (ae t.EE) ant a2 ?_
 refine am.dec (fun h0=>?_) (fun h0=>?_)<;>refine vs ?_
 ·exact⟨.inl ⟨h0,rfl⟩,rfl⟩
 refine v1 (ae t.own) ?_
 refine⟨⟨by omega,by omega⟩,?_⟩
 refine v3 (ae t.EE) ant a2 ?_
 exact⟨.inr ⟨h0,rfl⟩,rfl⟩
theorem RD{H:Hp}{T:TypeId}{w:Value}{xs:List Int}{fp:Option Nat}{K:Value→Hp→Prop}(s:Sl H 1 w xs.length (xs.map i64) fp)(x:Int)(hl:xs.length≤1000000000000)
  (hk:∀w' H' cO,(cO=fp∨∃b,cO=some b∧H.size≤b∧b<H'.size)→Sl H' 1 w' (xs++[x]).length ((xs++[x]).map i64) cO→ag (fun z=>fp=some z) H H'→K w' H'):
  fW T 1 8 [i64 0] w (.slice (some ⟨H.size,0,none⟩) 1 1) (H.new T [i64 x]) K:=by
 have fl:ai H (H.new T [i64 x]):=(ag.refl _ _).new _ _
 refine Sl.append (s.ext fl (fun _ _ h=>h)) (Sl.cf (size:=1) (n:=1) (xs:=[i64 x]) rfl rfl).rd rfl (rP [x]) (by omega) ?_
 intro v' H' cO s' e' Oe
 refine hk v' H' cO (Oe.imp_right fun⟨b,h1,h2,h3⟩=>⟨b,h1,by rw[aq]at h2;omega,h3⟩) (by rw[anD,an8];exact s') ⟨aor fl.size e'.size,fun z hz hn=>?_⟩
 rw[e'.aM z (anT hz fl.size) hn,fl.aM z hz (fun h=>h)]
theorem ForM.put(m:ForM H ro fb tb n l V ch par kb)(hz:∀z,H.size≤z→ro z= .no){a:Int}(ha:0≤a∧a<n){H2:Hp}(e:ag (fun z=>kb a=some z) H H2){w':Value}{L':List Int}{cO:Option Nat}(s:Sl H2 1 w' L'.length (L'.map i64) cO)
  (hf:cO=kb a∨cO=none∨∃b,cO=some b∧H.size≤b∧b<H2.size)(hL:∀c∈L',0≤c∧c<n):
  ∃ro' tA,ForM (H2.wr tb (l.set (a.toNat*2) w')) ro' fb tb n (l.set (a.toNat*2) w') (uH V a w') (ay ch a L') par tA∧RK H.size ro ro'∧(∀z,(H2.wr tb (l.set (a.toNat*2) w')).size≤z→ro' z= .no)∧ag (KB ro) H (H2.wr tb (l.set (a.toNat*2) w')):=by
 have QQ:∀z,kb a=some z→ro z= .pe a:=fun z h=>m.rk a z ha.1 ha.2 h
 have SS:¬kb a=some fb:=fun h=>by have:=QQ _ h;rw[m.rf]at this;cases this
 have UY:¬kb a=some tb:=fun h=>by have:=QQ _ h;rw[m.rt]at this;cases this
 obtain⟨z1,z2⟩:=m.t.RC
 have t2:=m.t.ext e SS UY
 obtain⟨t3,e3⟩:=t2.uH ha w'
 have hs:=e.size
 have Pp:(H2.wr tb (l.set (a.toNat*2) w')).size=H2.size:=ec _ _ _
 have hr:∃ro':Nat→Rl,(∀b,cO=some b→ro' b= .pe a)∧(∀z,z<H.size→ro' z=ro z)∧RK H.size ro ro'∧∀z,H2.size≤z→ro' z= .no:=by
  rcases hf with h|h| ⟨b,h,Py,rR⟩
  ·exact⟨ro,fun b hb=>QQ b (by rw[←h];exact hb),fun _ _=>rfl,RK.refl hz,fun z dM=>hz z (by omega)⟩
  ·refine⟨ro,fun b hb=>?_,fun _ _=>rfl,RK.refl hz,fun z dM=>hz z (by omega)⟩
   rw[h]at hb
   cases hb
  ·refine⟨fun z=>if z=b then .pe a else ro z,fun b' jy=>?_,fun z dM=>?_,⟨fun z dM _=>?_,fun z x dM hx=>⟨x,?_⟩,fun z dM=>?_⟩,fun z dM=>?_⟩
   ·rw[h]at jy
    injection jy with jy
    simp[jy]
   ·show(if z=b then Rl.pe a else ro z)=_
    rw[if_neg (by omega)]
   ·show(if z=b then Rl.pe a else ro z)=_
    rw[if_neg (by omega)]
   ·show(if z=b then Rl.pe a else ro z)=_
    rw[if_neg (by omega)];exact hx
   ·show(if z=b then Rl.pe a else ro z)=_∨∃y,(if z=b then Rl.pe a else ro z)=_
    split
    ·exact .inr ⟨a,rfl⟩
    ·exact .inl (hz z dM)
   ·show(if z=b then Rl.pe a else ro z)=_
    rw[if_neg (by omega)];exact hz z (by omega)
 obtain⟨ro',r1,r2,r3,r4⟩:=hr
 have hfl:∀b,cO=some b→b≠tb:=fun b hb e=>by
  have:=r1 b hb
  rw[e,r2 tb (by omega),m.rt]at this
  cases this
 refine⟨ro',fun z=>if z=a then cO else kb z,⟨t3,fun x h0 h1=>?_,by rw[r2 _ z1];exact m.rf,by rw[r2 _ z2];exact m.rt,fun x b h0 h1 hb=>?_,fun x c hc=>?_,fun x hx=>?_⟩,r3,fun z dM=>r4 z (by omega),(e.mono fun z _ h=>.inr ⟨a,QQ z h⟩).trans (e3.mono fun z _ h=>.inl (by rw[h];exact m.rt))⟩
 ·unfold uH ay
  by_cases hxa:x=a
  ·simp only[hxa,if_true]
   exact s.ext e3 (fun b hb=>hfl b hb)
  ·simp only[if_neg hxa]
   refine((m.kd x h0 h1).ext e (fun b hb rR=>?_)).ext e3 (fun b hb e=>?_)
   ·have h5:=m.rk x b h0 h1 hb
    rw[QQ b rR]at h5
    injection h5 with h5
    exact hxa h5.symm
   ·have h5:=m.rk x b h0 h1 hb
    rw[e,m.rt]at h5
    cases h5
 ·split at hb
  ·rename_i e;rw[e];exact r1 b hb
  ·have h5:=m.rk x b h0 h1 hb
   have h6:=Sl.lt (b:=b) (by have:=m.kd x h0 h1;rw[hb]at this;exact this)
   rw[r2 b h6];exact h5
 ·unfold ay at hc
  split at hc
  ·exact hL c hc
  ·exact m.GA x c hc
 ·unfold ay
  rw[if_neg (fun e=>hx (by rw[e];exact ha))]
  exact m.no x hx
theorem ForM.aI(m:ForM H ro fb tb n l V ch par kb){x:Int}(hx:0≤x∧x<n)(u:Int):ForM (H.wr tb (l.set (x.toNat*2+1) (i64 u))) ro fb tb n (l.set (x.toNat*2+1) (i64 u)) V ch (aI par x u) kb∧ag (KB ro) H (H.wr tb (l.set (x.toNat*2+1) (i64 u))):=by
 obtain⟨t3,e3⟩:=m.t.aI hx u
 refine⟨⟨t3,fun x h0 h1=>(m.kd x h0 h1).ext e3 (fun b hb e=>?_),m.rf,m.rt,m.rk,m.GA,m.no⟩,e3.mono fun z _ h=>.inl (by rw[h];exact m.rt)⟩
 have h5:=m.rk x b h0 h1 hb
 rw[e,m.rt]at h5
 cases h5
theorem sI(m:ForM H ro fb tb n l V ch par kb)(hz:∀z,H.size≤z→ro z= .no){a b:Int}(ha:0≤a∧a<n)(hb:0≤b∧b<n)(pa:par a= -1)(pb:par b= -1)(zI:a≠b)(hd:(ch a).length=(ch b).length)(hl:(ch a).length≤65536):
  af Tryz.prog vR [ptr fb,i64 a,i64 b] H fun v H'=>aw (v= .bool true∧∃ro' l' V' tA,ForM H' ro' fb tb n l' V' (ay ch a (ch a++[b])) (aI par b a) tA∧RK H.size ro ro'∧(∀z,H'.size≤z→ro' z= .no)∧ag (KB ro) H H'):=by
 have ht:=m.t.len
 obtain⟨a1,a2⟩:=m.t.at_ a ha.1 ha.2
 have ka:=m.kd a ha.1 ha.2
 have hcL:∀c∈ch a++[b],0≤c∧c<n:=fun c hc=>by
  rcases anH.1 hc with hc|hc
  ·exact m.GA a c hc
  ·rw[anC.1 hc];exact hb
 have QQ:∀z,kb a=some z→ro z= .pe a:=fun z h=>m.rk a z ha.1 ha.2 h
 have SS:¬kb a=some fb:=fun h=>by have:=QQ _ h;rw[m.rf]at this;cases this
 have UY:¬kb a=some tb:=fun h=>by have:=QQ _ h;rw[m.rt]at this;cases this
 refine Gv wK ⟨rfl,?_⟩
 refine v1 l9.eq_1 ?_
 refine(gX m.t a).mono ?_
 rintro _ H' ⟨rfl,e⟩
 obtain rfl:=e.symm
 rw[anI ha,anI pa]
 refine vs ?_
 refine(gX m.t b).mono ?_
 rintro _ H' ⟨rfl,e⟩
 obtain rfl:=e.symm
 rw[anI hb,anI pb]
 refine vs ?_
 refine am.dec (fun h=>absurd h zI) (fun _=>?_)
 refine vs ?_
 refine(cY m a).mono ?_
 rintro _ H' ⟨rfl,e⟩
 obtain rfl:=e.symm
 refine vs ?_
 refine(cY m b).mono ?_
 rintro _ H' ⟨rfl,e⟩
 obtain rfl:=e.symm
 rw[hd]
 refine vs ?_
 refine am.cF (by simp) ?_
 refine vs ?_
 refine jX.intro (fun H'=>H'.own fb=some [.slice (some ⟨tb,0,none⟩) n n]) m.t.own ?_
 refine vs ?_
 refine fV.intro (.slice (some ⟨tb,0,none⟩) n n) (fun H' hI=>by refine v1 (ae hI) ?_;trivial) ?_
 refine vs ?_
 refine fV.intro (.slice (some ⟨tb,0,none⟩) n n) (fun H' hI=>by refine v1 (ae hI) ?_;trivial) ?_
 refine vs ?_
 refine⟨⟨by omega,by omega⟩,?_⟩
 refine vs ?_
 obtain⟨z1,z2⟩:=m.t.RC
 have f1:ai H (H.new 3 [i64 b]):=(ag.refl _ _).new _ _
 have o1:=f1.own m.t.own (fun h=>h)
 have q1:=f1.own m.t.EE (fun h=>h)
 refine EB.intro ?A ?B
 case' A=>
  refine v4 (ae m.t.EE) ant Nat.add_zero a1 ?_
  refine And.intro m.t.own ?_
  refine vs ?_
  refine And.intro m.t.own ?_
  refine vs ?_
 case' B=>
  refine vs ?_
  refine And.intro m.t.own ?_
  refine v5 (ae q1) (ae m.t.EE) ant Nat.add_zero a1 ?_
  refine And.intro m.t.own ?_
  refine vs ?_
 all_goals
  refine RD ka b (by omega) fun w' H2 cO gu s2 e2=>?_
  obtain⟨wa,wc,rfl⟩:=Sl.shape s2
  have t2:=m.t.ext e2 SS UY
  refine And.intro t2.own ?_
  refine vs ?_
  refine⟨⟨by omega,by omega⟩,?_⟩
  refine v3 t2.EE ant Nat.add_zero ?_
  refine⟨by omega,?_⟩
  obtain⟨ro',tA,m3,r3,r4,e3⟩:=m.put hz ha e2 s2 (gu.imp_right .inr) hcL
  refine vs ?_
  refine And.intro m3.t.own ?_
  refine vs ?_
  have RE:=m3.t.len
  generalize H2.wr tb (l.set (a.toNat*2) (Value.slice wa (ch a++[b]).length wc))=H3 at*
  refine v1 (ae m3.t.own) ?_
  refine⟨⟨by omega,by omega⟩,?_⟩
  refine v3 m3.t.EE ant Nat.add_zero ?_
  refine⟨by omega,?_⟩
  obtain⟨m4,e4⟩:=m3.aI hb a
  refine vs ?_
  refine⟨rfl,ro',_,_,tA,m4,r3,fun z dM=>r4 z (by rw[ec]at dM;exact dM),?_⟩
  refine⟨aor e3.size e4.size,fun z dM hn=>?_⟩
  rw[e4.aM z (anT dM e3.size) (fun h=>hn ?_),e3.aM z dM hn]
  rcases h with h| ⟨x,h⟩
  ·refine .inl ?_
   by_cases hk:∃x,ro z= .pe x
   ·obtain⟨x,hx⟩:=hk
    obtain⟨y,hy⟩:=r3.k z x dM hx
    rw[hy]at h;cases h
   ·rw[←r3.o z dM (fun x hx=>hk ⟨x,hx⟩)];exact h
  ·refine .inr ?_
   apply anW
   intro hk
   rw[r3.o z dM (fun x hx=>hk ⟨x,hx⟩)]at h
   exact hk ⟨x,h⟩
end
end Go.Proofs.YtjlnnljohemifaaGreat

namespace Go.Proofs.YtjlnnljohemifaaGreat
open Go Go.Vc
abbrev gk(x:Int)(g:Nat):Value:=.agg #[i64 x,.int .u32 (g:Int)]
structure Ar where
 g:List (Nat×Bool)
 wt:List Int
 nx:Nat
 ct:Int
 mo:Nat
def dh(L:List (Nat×Bool)):List Value:=L.flatMap fun y=>[.int .u32 (y.1:Int),.bool y.2]
theorem qi(L:List (Nat×Bool)):(dh L).length=L.length*2:=by
 induction L with
 |nil=>rfl
 |cons c r ih=>simp only[dh,ao6,anD,anO,aoH]at*;omega
theorem uI{L:List (Nat×Bool)}{i:Nat}{y:Nat×Bool}(hi:L[i]? =some y):(dh L)[i*2]? =some (.int .u32 (y.1:Int))∧(dh L)[i*2+1]? =some (.bool y.2):=by
 induction L generalizing i with
 |nil=>simp at hi
 |cons a r ih=>
  have e:dh (a::r)= .int .u32 (a.1:Int):: .bool a.2::dh r:=rfl
  rw[e]
  cases i with
  |zero=>simp at hi;subst hi;exact⟨rfl,rfl⟩
  |succ i=>
   have:=ih (by simpa using hi)
   rw[show(i+1)*2=i*2+2 by omega]
   exact this
theorem Cy{L:List (Nat×Bool)}{i:Nat}{y:Nat×Bool}(hi:L[i]? =some y):(∀v:Nat,(dh L).set (i*2) (.int .u32 (v:Int))=dh (L.set i (v,y.2)))∧(∀b,(dh L).set (i*2+1) (.bool b)=dh (L.set i (y.1,b))):=by
 induction L generalizing i with
 |nil=>simp at hi
 |cons a r ih=>
  have e:dh (a::r)= .int .u32 (a.1:Int):: .bool a.2::dh r:=rfl
  cases i with
  |zero=>simp at hi;subst hi;exact⟨fun _=>rfl,fun _=>rfl⟩
  |succ i=>
   obtain⟨h1,h2⟩:=ih (by simpa using hi)
   refine⟨fun v=>?_,fun b=>?_⟩
   ·have e2:dh ((a::r).set (i+1) (v,y.2))= .int .u32 (a.1:Int):: .bool a.2::dh (r.set i (v,y.2)):=rfl
    rw[e,e2,show(i+1)*2=i*2+1+1 by omega]
    simp only[aoe]
    rw[h1]
   ·have e2:dh ((a::r).set (i+1) (y.1,b))= .int .u32 (a.1:Int):: .bool a.2::dh (r.set i (y.1,b)):=rfl
    rw[e,e2,show(i+1)*2+1=i*2+1+1+1 by omega]
    simp only[aoe]
    rw[h2]
def Ar.bz(A:Ar)(x:Int):Nat:=(A.g.getD x.toNat (0,false)).1
def Ar.live(A:Ar)(x:Int):Prop:=0≤x∧(A.g[x.toNat]?).map (·.2)=some true
instance(A:Ar)(x:Int):Decidable (A.live x):=by unfold Ar.live;exact inferInstance
def Ar.pick(A:Ar):Option (Int×Ar):=
 if A.wt≠[]then some (A.wt.getLastD 0,{A with wt:=A.wt.dropLast})else if A.nx=A.g.length then none else some ((A.nx:Int),{A with nx:=A.nx+1})
def Ar.out(A:Ar)(x:Int):Ar:={A with g:=A.g.set x.toNat (A.bz x+1,true),ct:=A.ct+1}
def Ar.back(A:Ar)(x:Int):Ar:={A with g:=A.g.set x.toNat (A.bz x,false),ct:=A.ct - 1,wt:=if A.bz x<A.mo then A.wt++[x]else A.wt}
def Ar.aR(A:Ar):Nat:=A.g.countP (·.2)
theorem count_set{L:List (Nat×Bool)}{i:Nat}{y:Nat×Bool}(h:L[i]? =some y)(v:Nat)(b:Bool):(L.set i (v,b)).countP (·.2)+y.2.toNat=L.countP (·.2)+b.toNat:=by
 induction L generalizing i with
 |nil=>simp at h
 |cons a r ih=>
  cases i with
  |zero=>
   simp at h
   subst h
   rw[aoS,aoE,aoE]
   cases a.2<;>cases b<;>simp
  |succ i=>
   have:=ih (i:=i) (by simpa using h)
   rw[aoe,aoE,aoE]
   omega
structure w7(A:Ar):Prop where
 wl:∀x∈A.wt,¬A.live x∧x<A.nx∧0≤x
 wd:A.wt.Nodup
 fr:∀x:Int,A.nx≤x→¬A.live x
 ct:A.ct=A.aR
 nx:A.nx≤A.g.length
structure TN where
 a:Nat
 sb:Nat
 fo:Option Nat
def TN.S(B:TN)(z:Nat):Prop:=z=B.a∨z=B.sb∨B.fo=some z
structure Jp(H:Hp)(B:TN)(A:Ar):Prop where
 own:∃tv,H.own B.a=some [.slice (some ⟨B.sb,0,none⟩) A.g.length A.g.length,tv,i64 A.nx,i64 A.ct,.int .u32 (A.mo:Int)]∧Sl H 1 tv A.wt.length (A.wt.map i64) B.fo
 sl:H.own B.sb=some (dh A.g)
 ne:B.a≠B.sb∧B.fo≠some B.a∧B.fo≠some B.sb
 len:A.g.length≤65536
 ok:w7 A
 gs:∀y∈A.g,y.1≤4294967295
 mo:A.mo≤4294967295
section
variable {H H' : Hp} {B : TN} {A : Ar} {T : Nat → Prop}
theorem Jp.slt(m:Jp H B A):∀z,B.S z→z<H.size:=by
 obtain⟨tv,h1,h2⟩:=m.own
 rintro z (rfl|rfl|h)
 ·exact aA h1
 ·exact aA m.sl
 ·rw[h]at h2;exact Sl.lt h2
theorem Jp.ext(m:Jp H B A)(e:ag T H H')(hd:∀z,B.S z→¬T z):Jp H' B A:=by
 obtain⟨tv,h1,h2⟩:=m.own
 exact⟨⟨tv,e.own h1 (hd _ (.inl rfl)),h2.ext e (fun b hb=>hd b (.inr (.inr hb)))⟩,e.own m.sl (hd _ (.inr (.inl rfl))),m.ne,m.len,m.ok,m.gs,m.mo⟩
theorem Ar.get{A:Ar}{x:Int}(hx:0≤x∧x<A.g.length):∃b,A.g[x.toNat]? =some (A.bz x,b)∧(A.live x↔b=true):=by
 obtain⟨y,hy⟩:∃y,A.g[x.toNat]? =some y:=⟨_,ans (by omega)⟩
 refine⟨y.2,?_,?_⟩
 ·unfold Ar.bz
  rw[anx,hy];rfl
 ·unfold Ar.live
  rw[hy]
  simp[hx.1]
theorem Ar.AU{A:Ar}{x:Int}(h:A.live x):0≤x∧x<A.g.length:=by
 obtain⟨h0,h1⟩:=h
 cases hy:A.g[x.toNat]? with
 |none=>rw[hy]at h1;cases h1
 |some y=>
  have:=(anu.1 hy).1
  omega
theorem Jp.wtl(m:Jp H B A):A.wt.length≤65536∧∀x∈A.wt,0≤x∧x<A.g.length:=by
 have h1:∀x∈A.wt,0≤x∧x<A.g.length:=fun x hx=>by
  have:=m.ok.wl x hx
  have:=m.ok.nx
  omega
 exact⟨aor (bV m.ok.wd h1) m.len,h1⟩
theorem Nc(k:Nat):cA [Value.int .u32 0,Value.bool false] k=dh (List.replicate k (0,false)):=by
 unfold cA dh
 induction k with
 |zero=>rfl
 |succ k ih=>rw[aoc,aoc,aos,ao6,ih];rfl
theorem FL(H:Hp){n:Int}{mo:Nat}(hn:0≤n∧n≤65536)(hm:0<mo∧mo≤4294967295):af Tryz.prog KO [i64 n,.int .u32 (mo:Int)] H fun v H'=>aw (∃B,v= .tuple [ptr B.a,i64 0].toArray∧Jp H' B ⟨List.replicate n.toNat (0,false),[],0,0,mo⟩∧ai H H'∧∀z,B.S z→H.size≤z):=by
 refine bm KV ?_
 refine vs ?_
 refine am.dec (fun g=>absurd g (by omega)) (fun _=>?_)
 refine vs ?_
 refine am.dec (fun g=>absurd g (by omega)) (fun _=>?_)
 refine vs ?_
 refine am.dec (fun g=>absurd g (by omega)) (fun _=>?_)
 refine vs ?_
 refine⟨⟨by omega,by omega,by omega,by omega⟩,?_⟩
 refine vs ?_
 rw[Nc]
 refine⟨⟨H.size+1,H.size,none⟩,rfl,⟨⟨.slice none 0 0,?_,Sl.nil _ _⟩,?_,⟨by simp only;omega,by simp,by simp⟩,by rw[aog];omega,⟨by simp,aoG,fun x _ hx=>?_,by simp[Ar.aR,List.countP_replicate],ao2 _⟩,fun y hy=>by rw[(List.mem_replicate.1 hy).2];simp,hm.2⟩,((ag.refl _ _).new _ _).new _ _,fun z hz=>?_⟩
 ·rw[aog]
  exact aV (by simp only[aq])
 rotate_left
 ·obtain⟨h0,h1⟩:=hx
  simp only[aoN]at h1
  split at h1<;>simp at h1
 rotate_left
 ·simp only
  rw[ci (by simp only[aq];omega),aB]
 ·rcases hz with h|h|h
  ·simp only at h;omega
  ·simp only at h;omega
  ·cases h
theorem sJ(m:Jp H B A)(x:Int)(g:Nat):af Tryz.prog yp [ptr B.a,gk x g] H fun v H'=>aw (v= .bool (decide (A.live x∧A.bz x=g))∧ai H H'):=by
 obtain⟨tv,o1,_⟩:=m.own
 refine Gv yL ⟨rfl,?_⟩
 refine v1 nh.eq_1 ?_
 have f0:ai H (H.new 114 [i64 x,.int .u32 (g:Int)]):=(ag.refl _ _).new _ _
 have b0:(H.new 114 [i64 x,.int .u32 (g:Int)]).own H.size=some [i64 x,.int .u32 (g:Int)]:=aB _ _ _
 have m0:=m.ext f0 (fun _ _ h=>h)
 generalize H.new 114 [i64 x,.int .u32 (g:Int)]=H0 at*
 obtain⟨tv0,o0,_⟩:=m0.own
 refine am.dec (fun h0=>?_) (fun h0=>?_)<;>refine v2 (ae b0) (ae o0) ?_
 rotate_left
 ·rw[anV (fun h=>h0 h.1.1)]
  exact⟨rfl,f0⟩
 refine am.dec (fun h1=>?_) (fun h1=>?_)<;>refine v2 (ae b0) (ae o0) ?_
 rotate_left
 ·rw[anV (fun h=>h1 (Ar.AU h.1).2)]
  exact⟨rfl,f0⟩
 obtain⟨b,hb,jQ⟩:=Ar.get (A:=A) (x:=x) ⟨h0,h1⟩
 obtain⟨c1,c2⟩:=uI hb
 have hl:=qi A.g
 refine⟨⟨by omega,by omega⟩,?_⟩
 refine v2 (ae m0.sl) ant ?_
 have hdt:((dh A.g).drop (x.toNat*2)).take 2=[.int .u32 (A.bz x:Int),.bool b]:=by
  apply aoo
  intro k
  match k with
  |0=>rw[an3 (by omega),aob,Nat.add_zero];exact c1
  |1=>rw[an3 (by omega),aob];exact c2
  |k+2=>rw[anK (by simp;omega)];rfl
 rw[hdt]
 refine⟨by omega,?_⟩
 refine v1 (ae b0) ?_
 have heq:D5 [(0,none,Shape.int),(1,none,Shape.bool)] [Value.int IntKind.u32 (A.bz x:Int),Value.bool b] [Value.int IntKind.u32 (g:Int),Value.bool true]=some (decide (A.bz x=g) && b):=by
  by_cases hg:A.bz x=g
  ·cases b<;>simp[D5,qA,bB,hg,eU]
  ·have:¬ (A.bz x:Int)=(g:Int):=by omega
   cases b<;>simp[D5,qA,bB,hg,eU,this]
 rw[heq]
 simp(disch:=(first|omega| (simp only[Zs]<;>omega)|fail)) only[go_sem, ↓reduceIte,Zv,Option.map_some]
 refine⟨anP Value.bool ?_,f0⟩
 by_cases hg:A.bz x=g
 ·rw[anI hg,aoO]
  cases rR:b
  ·exact(anV (fun h=>by have:=jQ.1 h.1;rw[rR]at this;cases this)).symm
  ·exact(anI ⟨jQ.2 rR,hg⟩).symm
 ·rw[anV hg,anV (fun h=>hg h.2)]
  rfl
theorem Hu(m:Jp H B A){x:Int}(hx:A.live x):af Tryz.prog BW [ptr B.a,i64 x] H fun v H'=>aw (v= .tuple [gk x (A.bz x),.bool true].toArray∧ai H H'):=by
 obtain⟨tv,o1,_⟩:=m.own
 have uJ:=Ar.AU hx
 obtain⟨b,hb,jQ⟩:=Ar.get (A:=A) (x:=x) uJ
 obtain rfl:=jQ.1 hx
 obtain⟨c1,c2⟩:=uI hb
 have hl:=qi A.g
 refine bm B8 ?_
 refine vs ?_
 have f0:ai H (H.new 114 [Value.int .i64 0,Value.int .u32 0]):=(ag.refl _ _).new _ _
 have b0:(H.new 114 [Value.int .i64 0,Value.int .u32 0]).own H.size=some [Value.int .i64 0,Value.int .u32 0]:=aB _ _ _
 have m0:=m.ext f0 (fun _ _ h=>h)
 have z0:(H.new 114 [Value.int .i64 0,Value.int .u32 0]).size=H.size+1:=aq _ _ _
 generalize H.new 114 [Value.int .i64 0,Value.int .u32 0]=H0 at*
 obtain⟨tv0,o0,_⟩:=m0.own
 refine am.dec (fun h=>absurd h (by omega)) (fun _=>?_)
 refine v1 (ae o0) ?_
 refine am.dec (fun h=>absurd h (by omega)) (fun _=>?_)
 refine v1 (ae o0) ?_
 refine⟨⟨by omega,by omega⟩,?_⟩
 refine v4 (ae m0.sl) ant c2 (ae o0) ?_
 refine⟨⟨by omega,by omega⟩,?_⟩
 refine v5 (ae m0.sl) ant Nat.add_zero c1 b0 ?_
 have e1:ag (fun z=>z=H.size) H0 (H0.wr H.size [Value.int .i64 x,Value.int .u32 (A.bz x:Int)]):=(ag.refl (fun z=>z=H.size) _).wr (fun _=>rfl) _
 have b1:(H0.wr H.size [Value.int .i64 x,Value.int .u32 (A.bz x:Int)]).own H.size=some [Value.int .i64 x,Value.int .u32 (A.bz x:Int)]:=ah b0
 refine v1 (ae b1) ?_
 exact⟨rfl,f0.then e1 (fun z hz=>by omega)⟩
end
end Go.Proofs.YtjlnnljohemifaaGreat

namespace Go.Proofs.YtjlnnljohemifaaGreat
open Go Go.Vc
structure Ed where
 f:Int
 t:Int
 w:Int
 deriving DecidableEq
structure gF(n:Int)(es:List Ed):Prop where
 n0:0≤n
 n1:n≤4096
 len:es.length≤65536
 ends:∀e∈es,0≤e.f∧e.f<n∧0≤e.t∧e.t<n
def gG(e:Ed):List Value:=[i64 e.f,i64 e.t,i64 e.w]
def eF(es:List Ed):List Value:=es.flatMap gG
theorem rX(e:Ed)(es:List Ed):eF (e::es)=gG e++eF es:=rfl
theorem PD(es:List Ed):(eF es).length=es.length*3:=by
 induction es with
 |nil=>rfl
 |cons r rs ih=>rw[rX,anD,ih,anO];show 3+_=_;omega
theorem RF:∀ (rs:List Ed) (i:Nat) (r:Ed),rs[i]? =some r→((eF rs).drop (i*3)).take 3=gG r:=by
 intro rs
 induction rs with
 |nil=>intro i r h;simp at h
 |cons x rs ih=>
  intro i r h
  cases i with
  |zero=>
   simp only[anY,anE]at h
   subst h
   rw[rX,aod,List.drop_zero]
   exact List.take_left' rfl
  |succ i=>
   rw[rX,show(i+1)*3=3+i*3 by omega,←apm,List.drop_left' (by rfl)]
   exact ih i r (by simpa using h)
theorem dc.Dv{H:Hp}{a:Option Addr}{n c:Nat}{rs:List Ed}(h:dc H 3 (.slice a n c) n (eF rs)){i:Nat}{r:Ed}(hx:rs[i]? =some r):
  i<n∧∃b o lb,a=some ⟨b,o,none⟩∧H.rd b=some lb∧o+i*3+3≤lb.length∧(lb.drop (o+i*3)).take 3=gG r:=by
 obtain⟨hl,hv⟩:=h
 rw[PD]at hl
 have hi:i<rs.length:=by
  rcases aoL i rs.length with h|h
  ·exact h
  ·rw[anK h]at hx;cases hx
 refine⟨by omega,?_⟩
 rcases hv with ⟨hn,_⟩| ⟨b,o,c2,l,hs,fA,oY,ht⟩
 ·omega
 ·injection hs with eM K7 Gx
  refine⟨b,o,l,eM,fA,by omega,?_⟩
  have h7:=RF rs i r hx
  rw[←ht,List.drop_take,apu,apm,aoQ (by omega)]at h7
  exact h7
theorem dD{H:Hp}{v:Value}{size n:Nat}{xs:List Value}{fp:Option Nat}(h:Sl H size v n xs fp):∃a c,v= .slice a n c∧n≤c:=by
 obtain⟨_,h⟩:=h
 cases fp with
 |none=>obtain⟨rfl,rfl⟩:=h;exact⟨_,_,rfl,anG _⟩
 |some b=>obtain⟨l,c,rfl,_,hc,_⟩:=h;exact⟨_,_,rfl,hc⟩
theorem dc.num{H:Hp}{a:Option Addr}{n c:Nat}{xs:List Int}(h:dc H 1 (.slice a n c) n (xs.map i64)){i:Nat}{x:Int}(hx:xs[i]? =some x):
  i<n∧∃b o lb,a=some ⟨b,o,none⟩∧H.rd b=some lb∧lb[o+i]? =some (i64 x):=by
 obtain⟨hl,hv⟩:=h
 rw[anQ,anw]at hl
 have hi:=(anu.1 hx).1
 refine⟨by omega,?_⟩
 rcases hv with ⟨hn,_⟩| ⟨b,o,c2,l,hs,fA,oY,ht⟩
 ·omega
 ·injection hs with eM K7 Gx
  refine⟨b,o,l,eM,fA,?_⟩
  have h7:(xs.map i64)[i]? =some (i64 x):=by rw[anR,hx];rfl
  rw[←ht,an9,if_pos (by omega),aob]at h7
  exact h7
theorem dc.Cz{H:Hp}{a:Option Addr}{n c:Nat}{rs:List Ed}(h:dc H 3 (.slice a n c) n (eF rs)){i:Nat}{r:Ed}(hx:rs[i]? =some r):
  i<n∧∃b o lb,a=some ⟨b,o,none⟩∧H.rd b=some lb∧o+i*3+3≤lb.length∧(lb.drop (o+i*3)).take 3=gG r∧lb[o+i*3]? =some (i64 r.f)∧lb[o+i*3+1]? =some (i64 r.t)∧lb[o+i*3+2]? =some (i64 r.w):=by
 obtain⟨h1,b,o,lb,h2,h3,h4,h5⟩:=dc.Dv h hx
 have key:∀k v,(gG r)[k]? =some v→lb[o+i*3+k]? =some v:=fun k v hv=>by
  rw[←h5,an9]at hv
  split at hv
  ·rw[aob]at hv;exact hv
  ·cases hv
 exact⟨h1,b,o,lb,h2,h3,h4,h5,by simpa using key 0 _ rfl,key 1 _ rfl,key 2 _ rfl⟩
theorem fj{H:Hp}{a:Option Addr}{c:Nat}{xs:List Int}(h:dc H 1 (.slice a xs.length c) xs.length (xs.map i64))(x:Int)(hm:xs.length≤1000000000):
  af Tryz.prog qU [.slice a xs.length c,i64 x] H fun v H'=>aw ((∃i:Int,v=i64 i∧((i= -1∧x∉xs)∨(0≤i∧xs[i.toNat]? =some x)))∧H'=H):=by
 refine bm rB ?_
 refine vs ?_
 refine bk.intro (fun m env H'=>H'=H∧∃j:Nat,m=xs.length - j∧j≤xs.length∧(∀e∈xs.take j,x≠e)∧env=[(0,.slice a xs.length c),(1,i64 x),(7,i64 xs.length),(8,i64 j)]) xs.length ⟨rfl,0,by omega,by omega,by simp,rfl⟩ ?_
 rintro m env H1 ⟨e1,j,Va,hj,db,rfl⟩
 obtain rfl:=e1.symm
 refine vs ?_
 refine am.dec (fun aO=>?_) (fun aO=>?_)<;>refine vs ?_
 ·have gD:j<xs.length:=by omega
  obtain⟨e,he⟩:∃e,xs[j]? =some e:=⟨_,ans gD⟩
  obtain⟨_,b,o,lb,rfl,Jq,bX⟩:=dc.num h he
  refine⟨⟨by omega,by omega⟩,?_⟩
  refine v4 Jq Int.toNat_natCast anw bX ?_
  refine am.dec (fun hx=>?_) (fun hx=>?_)<;>refine vs ?_
  ·exact⟨⟨j,rfl,.inr ⟨by omega,by rw[Int.toNat_natCast,he,hx]⟩⟩,rfl⟩
  ·rw[wrap64 (n:=(j:Int)+1) (by omega) (by omega)]
   refine⟨xs.length - (j+1),by omega,trivial,j+1,rfl,by omega,?_,rfl⟩
   intro e' ir
   rw[aoa,he]at ir
   rcases anH.1 ir with ir|ir
   ·exact db e' ir
   ·have:e'=e:=by simpa using ir
    rw[this];exact hx
 ·have gD:j=xs.length:=by omega
  subst gD
  rw[an4]at db
  exact⟨⟨-1,rfl,.inl ⟨rfl,fun hm=>db x hm rfl⟩⟩,rfl⟩
theorem uK{H:Hp}{a:Option Addr}{c:Nat}{xs:List Int}(h:dc H 1 (.slice a xs.length c) xs.length (xs.map i64))(x:Int)(hm:xs.length≤1000000000):
  af Tryz.prog nQ [.slice a xs.length c,i64 x] H fun v H'=>aw (v= .bool (decide (x∈xs))∧H'=H):=by
 refine bm nR ?_
 refine vs ?_
 refine(fj h x hm).mono ?_
 rintro _ H1 ⟨⟨i,rfl,hi⟩,e⟩
 obtain rfl:=e.symm
 refine vs ?_
 refine⟨anP Value.bool ?_,rfl⟩
 rcases hi with ⟨rfl,h1⟩| ⟨h0,h1⟩
 ·rw[anV h1];rfl
 ·rw[anI (anz h1)]
  exact anI (by omega)
theorem D6{H:Hp}{a:Option Addr}{c:Nat}{xs:List Int}(f:FuncId)(qj:List Value)(q:Int→Bool)(h:dc H 1 (.slice a xs.length c) xs.length (xs.map i64))(Dx:ef Tryz.prog f=true)
  (hf:∀x,af Tryz.prog f (i64 x::qj) H fun v Gu=>aw (v= .bool (q x)∧Gu=H))(hm:xs.length≤1000000000):
  af Tryz.prog fF [.slice a xs.length c,.func (.func f) #[] qj.toArray] H fun v H'=>aw ((∃i:Int,v=i64 i∧((i= -1∧∀x∈xs,q x=false)∨(0≤i∧(∀x∈xs.take i.toNat,q x=false)∧∃x,xs[i.toNat]? =some x∧q x=true)))∧H'=H):=by
 refine bm fI ?_
 refine vs ?_
 refine bk.intro (fun m env H'=>H'=H∧∃j:Nat,m=xs.length - j∧j≤xs.length∧(∀e∈xs.take j,q e=false)∧env=[(0,.slice a xs.length c),(1,.func (.func f) #[] qj.toArray),(7,i64 xs.length),(8,i64 j)]) xs.length ⟨rfl,0,by omega,by omega,by simp,rfl⟩ ?_
 rintro m env H1 ⟨e1,j,Va,hj,db,rfl⟩
 obtain rfl:=e1.symm
 refine vs ?_
 refine am.dec (fun aO=>?_) (fun aO=>?_)<;>refine vs ?_
 ·have gD:j<xs.length:=by omega
  obtain⟨e,he⟩:∃e,xs[j]? =some e:=⟨_,ans gD⟩
  obtain⟨_,b,o,lb,rfl,Jq,bX⟩:=dc.num h he
  refine⟨⟨by omega,by omega⟩,?_⟩
  refine v4 Jq Int.toNat_natCast anw bX ?_
  refine⟨Dx,?_⟩
  refine af.mono (by simpa using hf e) ?_
  rintro _ H2 ⟨rfl,e2⟩
  obtain rfl:=e2.symm
  refine vs ?_
  cases hx:q e
  ·refine vs ?_
   rw[wrap64 (n:=(j:Int)+1) (by omega) (by omega)]
   refine⟨xs.length - (j+1),by omega,trivial,j+1,rfl,by omega,?_,rfl⟩
   intro e' ir
   rw[aoa,he]at ir
   rcases anH.1 ir with ir|ir
   ·exact db e' ir
   ·have:e'=e:=by simpa using ir
    rw[this];exact hx
  ·refine vs ?_
   exact⟨⟨j,rfl,.inr ⟨by omega,by rw[Int.toNat_natCast];exact db,e,by rw[Int.toNat_natCast];exact he,hx⟩⟩,rfl⟩
 ·have gD:j=xs.length:=by omega
  subst gD
  rw[an4]at db
  exact⟨⟨-1,rfl,.inl ⟨rfl,db⟩⟩,rfl⟩
theorem Lp(k:Nat):cA [Value.int .i64 0] k=(List.replicate k (0:Int)).map i64:=by
 unfold cA
 induction k with
 |zero=>rfl
 |succ k ih=>rw[aoc,aoc,aos,aom,ih];rfl
theorem FM(l new:List Value)(i:Nat)(h:i+new.length≤l.length):(bh l i new).take i=l.take i:=by
 apply aoo
 intro k
 by_cases hk:k<i
 ·rw[an3 hk,an3 hk,getElem?_splice new l i k h,if_neg (by omega)]
 ·rw[anK (by simp;omega),anK (by simp;omega)]
theorem CA{H:Hp}{v:Value}{xs:List Int}{fp:Option Nat}(s:Sl H 1 v xs.length (xs.map i64) fp)(f:FuncId)(qj:List Value)(q:Int→Bool)(Dx:ef Tryz.prog f=true)
  (hf:∀H',ag (fun z=>fp=some z) H H'→∀x,af Tryz.prog f (i64 x::qj) H' fun v Gu=>aw (v= .bool (q x)∧Gu=H'))(hm:xs.length≤1000000000):
  af Tryz.prog mr [v,.func (.func f) #[] qj.toArray] H fun v' H'=>aw (Sl H' 1 v' (xs.filter fun x=> !q x).length ((xs.filter fun x=> !q x).map i64) fp∧ag (fun z=>fp=some z) H H'):=by
 obtain⟨a,c,rfl⟩:=Sl.shape s
 refine bm mw ?_
 refine vs ?_
 refine(D6 f qj q s.rd Dx (hf H (ag.refl _ _)) hm).mono ?_
 rintro _ H1 ⟨⟨i0,rfl,FC⟩,e⟩
 obtain rfl:=e.symm
 refine vs ?_
 rcases FC with ⟨rfl,db⟩| ⟨h0,db,x0,fZ,Vb⟩
 ·refine am.cF (by simp) ?_
  refine vs ?_
  have:xs.filter (fun x=> !q x)=xs:=by
   rw[aoV]
   intro x hx
   rw[db x hx];rfl
  rw[this]
  exact⟨s,ag.refl _ _⟩
 obtain⟨i,rfl⟩:∃i:Nat,i0=(i:Int):=⟨i0.toNat,by omega⟩
 rw[Int.toNat_natCast]at db fZ
 have hi:=(anu.1 fZ).1
 refine am.dec (fun h=>by omega) (fun _=>?_)
 refine vs ?_
 obtain⟨_,b,lb0,rfl,_,_⟩:=Sl.zg s fZ
 have gu:fp=some b:=by
  cases fp with
  |none=>have:=s.2.2;injection this with h1;cases h1
  |some b'=>obtain⟨_,_,h1,_⟩:=s.2;injection h1 with h1;injection h1 with h1;injection h1 with h1;rw[h1]
 subst gu
 have f0:(xs.take (i+1)).filter (fun x=> !q x)=xs.take i:=by
  rw[aoa,fZ,apd]
  have h1:(xs.take i).filter (fun x=> !q x)=xs.take i:=by
   rw[aoV]
   intro x hx
   rw[db x hx];rfl
  rw[h1]
  simp[Vb]
 rw[wrap64 (by omega) (by omega)]
 refine bk.intro (fun m env H'=>∃ (i j:Nat) (ys:List Int),m=xs.length - j∧j≤xs.length∧i<j∧i=((xs.take j).filter fun x=> !q x).length∧ys.length=xs.length∧ys.take i=(xs.take j).filter (fun x=> !q x)∧ys.drop j=xs.drop j∧
  Sl H' 1 (.slice (some ⟨b,0,none⟩) xs.length c) xs.length (ys.map i64) (some b)∧ag (fun z=>some b=some z) H H'∧env=[(0,.slice (some ⟨b,0,none⟩) xs.length c),(1,.func (.func f) #[] qj.toArray),(5,i64 i),(6,i64 j)]) _
  ⟨i,i+1,xs,rfl,by omega,by omega,by rw[f0,aoj];omega,rfl,f0.symm,rfl,s,ag.refl _ _,rfl⟩ ?_
 clear db fZ Vb f0 hi h0
 rintro m env H2 ⟨i,j,ys,rfl,hj,JT,oZ,YI,hyt,hyd,s2,e2,rfl⟩
 obtain⟨_,lb,c2,eM,q2,Gx,WB,PE⟩:=id s2
 injection eM with _ _ eM
 subst eM
 rw[anw]at WB PE
 refine vs ?_
 refine am.dec (fun aO=>?_) (fun aO=>?_)<;>refine vs ?_
 ·have gD:j<xs.length:=by omega
  obtain⟨x,hx⟩:∃x,xs[j]? =some x:=⟨_,ans gD⟩
  have mJ:ys[j]? =some x:=by
   have h1:(ys.drop j)[0]? =(xs.drop j)[0]? :=by rw[hyd]
   rwa[aob,aob,Nat.add_zero,hx]at h1
  have bX:lb[j]? =some (i64 x):=s2.get q2 (by rw[anR,mJ];rfl)
  have tk:xs.take (j+1)=xs.take j++[x]:=by rw[aoa,hx];rfl
  have dj:∀zs:List Int,zs.length=xs.length→(∀k,j<k→zs[k]? =ys[k]?)→zs.drop (j+1)=xs.drop (j+1):=fun zs hz hk=>by
   apply aoo
   intro k
   have h1:(ys.drop j)[k+1]? =(xs.drop j)[k+1]? :=by rw[hyd]
   rw[aob,aob]at h1 ⊢
   rw[hk _ (by omega),show j+1+k=j+(k+1) by omega]
   exact h1
  refine⟨⟨by omega,by omega⟩,?_⟩
  refine v5 (ae q2) ant anw Int.toNat_natCast bX ?_
  refine⟨Dx,?_⟩
  refine af.mono (by simpa using hf H2 e2 x) ?_
  rintro _ H3 ⟨rfl,e⟩
  obtain rfl:=e.symm
  refine vs ?_
  cases hq:q x
  ·refine vs ?_
   refine⟨⟨by omega,by omega⟩,?_⟩
   refine v4 q2 ant anw Int.toNat_natCast ?_
   refine⟨by omega,?_⟩
   have s3:=s2.tQ q2 i (i64 x)
   have e3:ag (fun z=>some b=some z) H2 (H2.wr b (lb.set i (i64 x))):=(ag.refl (fun z=>some b=some z) _).wr (fun _=>rfl) _
   refine vs ?_
   rw[wrap64 (n:=(i:Int)+1) (by omega) (by omega),wrap64 (n:=(j:Int)+1) (by omega) (by omega)]
   have ff:(xs.take (j+1)).filter (fun x=> !q x)=(xs.take j).filter (fun x=> !q x)++[x]:=by
    rw[tk,apd]
    simp[hq]
   refine⟨xs.length - (j+1),by omega,i+1,j+1,ys.set i x,rfl,by omega,by omega,by rw[ff,anD,←oZ];rfl,by rw[anv];exact YI,?_,dj _ (by rw[anv];exact YI) (fun k hk=>by rw[anA (by omega)]),?_,e2.trans e3,rfl⟩
   ·rw[ff,←hyt,aoa,anB (by omega),List.take_set_of_le (by omega)]
    rfl
   ·rw[aoh];exact s3
  ·refine vs ?_
   rw[wrap64 (n:=(j:Int)+1) (by omega) (by omega)]
   have ff:(xs.take (j+1)).filter (fun x=> !q x)=(xs.take j).filter (fun x=> !q x):=by
    rw[tk,apd]
    simp[hq]
   exact⟨xs.length - (j+1),by omega,i,j+1,ys,rfl,by omega,by omega,by rw[ff];exact oZ,YI,by rw[ff];exact hyt,dj ys YI (fun k _=>rfl),s2,e2,rfl⟩
 ·obtain rfl:j=xs.length:=by omega
  rw[an4]at hyt oZ
  refine⟨⟨by omega,by omega,by omega,by omega⟩,?_⟩
  refine vs ?_
  have hic:¬ (c:Int)=(i:Int):=by omega
  have hlz:(cA [Value.int .i64 0] (xs.length - i)).length=xs.length - i:=by rw[Lp];simp
  rw[if_neg hic]
  refine .inr ⟨by simp only[Int.toNat_natCast];omega,b,i,lb,?_,by rw[q2];rfl,?_,?_,?_⟩
  ·simp[Addr.add]
   exact fun h=>h.symm
  ·rw[Int.toNat_natCast,Int.toNat_natCast,Lp]
   exact rP _
  ·rw[Int.toNat_natCast,Int.toNat_natCast]
   show i+(xs.length - i)*1≤lb.length
   omega
  ·rw[Int.toNat_natCast,Int.toNat_natCast]
   have e3:ag (fun z=>some b=some z) H2 (H2.wr b (bh lb i (cA [Value.int .i64 0] (xs.length - i)))):=(ag.refl (fun z=>some b=some z) _).wr (fun _=>rfl) _
   have q3:(H2.wr b (bh lb i (cA [Value.int .i64 0] (xs.length - i)))).own b=some (bh lb i (cA [Value.int .i64 0] (xs.length - i))):=ah q2
   refine vs ?_
   refine⟨⟨by omega,by omega,by omega,by omega⟩,?_⟩
   have lu:¬ (c:Int)=((0:Nat):Int):=by omega
   refine vs ?_
   rw[if_neg lu]
   rw[←hyt]
   refine⟨⟨by simp,bh lb i (cA [Value.int .i64 0] (xs.length - i)),c,?_,q3,?_,?_,?_⟩,e2.trans e3⟩
   ·have h1:(ys.take i).length=i:=by rw[aoj];omega
    rw[h1]
    simp[KE,Addr.add]
   ·rw[aoj];omega
   ·rw[ke];omega
   ·rw[anw,aoj,aoQ (by omega),FM _ _ _ (by rw[hlz];omega),List.map_take,←PE,apu,aoQ (by omega)]
end Go.Proofs.YtjlnnljohemifaaGreat
