/- Texts put behind each other. -/
import Derived.Test.YtjlnnljohemifaaGreatK98
import Derived.Test.YtjlnnljohemifaaGreatK1
import Derived.Test.YtjlnnljohemifaaGreatK9
import Derived.Test.YtjlnnljohemifaaGreatK17
import Derived.Test.YtjlnnljohemifaaGreatK19
import Derived.Test.YtjlnnljohemifaaGreatK20
set_option linter.unusedVariables false
set_option linter.unusedSimpArgs false
namespace Go.Proofs.YtjlnnljohemifaaGreat
open Go Go.Vc
inductive Rl where
 |no
 |SJ
 |cell
 |Mp
 |Hd
 |table
 |row(g:Int)
 |sM(x:Int)
def xF(V:Int→Value)(x:Int)(v:Value):Int→Value:=fun z=>if z=x then v else V z
theorem W8(V:Int→Value)(x:Int)(v:Value):xF V x v x=v:=by unfold xF;rw[if_pos rfl]
theorem W9{V:Int→Value}{x z:Int}{v:Value}(h:z≠x):xF V x v z=V z:=by unfold xF;rw[if_neg h]
theorem Xa(U:Int→Int)(x v:Int):aK U x v x=v:=by unfold aK;rw[if_pos rfl]
theorem Xb{U:Int→Int}{x z v:Int}(h:z≠x):aK U x v z=U z:=by unfold aK;rw[if_neg h]
structure qD(H:Hp)(fb tb n:Nat)(l:List Value)(V:Int→Value)(U:Int→Int):Prop where
 own:H.own fb=some [.slice (some ⟨tb,0,none⟩) n n]
 Gg:H.own tb=some l
 len:l.length=n*2
 at_:∀x:Int,0≤x→x<n→l[x.toNat*2]? =some (V x)∧l[x.toNat*2+1]? =some (i64 (U x))
 ne:fb≠tb
section
variable {H H' : Hp} {fb tb n : Nat} {l : List Value} {V : Int → Value} {U : Int → Int} {T : Nat → Prop}
theorem qD.ext(h:qD H fb tb n l V U)(e:ah T H H')(h1:¬T fb)(h2:¬T tb):qD H' fb tb n l V U:=⟨e.own h.own h1,e.own h.Gg h2,h.len,h.at_,h.ne⟩
theorem qD.xF(h:qD H fb tb n l V U){x:Int}(hx:0≤x∧x<n)(v:Value):qD (H.wr tb (l.set (x.toNat*2) v)) fb tb n (l.set (x.toNat*2) v) (xF V x v) U∧ah (fun z=>z=tb) H (H.wr tb (l.set (x.toNat*2) v)):=by
 have e:ah (fun z=>z=tb) H (H.wr tb (l.set (x.toNat*2) v)):=(ah.refl (fun z=>z=tb) _).wr (fun _=>rfl) _
 have hl:=h.len
 refine⟨⟨e.own h.own h.ne,aj h.Gg,by rw[anC];exact hl,fun z h0 h1=>?_,h.ne⟩,e⟩
 obtain⟨a1,a2⟩:=h.at_ z h0 h1
 refine⟨?_,by rw[anH (by omega)];exact a2⟩
 by_cases hz:z=x
 ·rw[hz,W8,anI (by omega)]
 ·rw[W9 hz,anH (by omega)];exact a1
theorem qD.aK(h:qD H fb tb n l V U){x:Int}(hx:0≤x∧x<n)(u:Int):qD (H.wr tb (l.set (x.toNat*2+1) (i64 u))) fb tb n (l.set (x.toNat*2+1) (i64 u)) V (aK U x u)∧ah (fun z=>z=tb) H (H.wr tb (l.set (x.toNat*2+1) (i64 u))):=by
 have e:ah (fun z=>z=tb) H (H.wr tb (l.set (x.toNat*2+1) (i64 u))):=(ah.refl (fun z=>z=tb) _).wr (fun _=>rfl) _
 have hl:=h.len
 refine⟨⟨e.own h.own h.ne,aj h.Gg,by rw[anC];exact hl,fun z h0 h1=>?_,h.ne⟩,e⟩
 obtain⟨a1,a2⟩:=h.at_ z h0 h1
 refine⟨by rw[anH (by omega)];exact a1,?_⟩
 by_cases hz:z=x
 ·rw[hz,Xa,anI (by omega)]
 ·rw[Xb hz,anH (by omega)];exact a2
theorem qD.SK(h:qD H fb tb n l V U):fb<H.size∧tb<H.size:=⟨aG h.own,aG h.Gg⟩
end
structure ForM(H:Hp)(ro:Nat→Rl)(fb tb n:Nat)(l:List Value)(V:Int→Value)(ch:Int→List Int)(par:Int→Int)(kb:Int→Option Nat):Prop where
 t:qD H fb tb n l V par
 kd:∀x:Int,0≤x→x<n→Sl H 1 (V x) (ch x).length ((ch x).map i64) (kb x)
 rf:ro fb= .Hd
 rt:ro tb= .table
 rk:∀ (x:Int) b,0≤x→x<n→kb x=some b→ro b= .sM x
 Iq:∀x c,c∈ch x→0≤c∧c<n
 no:∀x:Int,¬ (0≤x∧x<n)→ch x=[]
structure RK(s:Nat)(ro ro':Nat→Rl):Prop where
 o:∀z,z<s→(∀x,ro z≠ .sM x)→ro' z=ro z
 k:∀z x,z<s→ro z= .sM x→∃y,ro' z= .sM y
 n:∀z,s≤z→ro' z= .no∨∃y,ro' z= .sM y
theorem RK.refl{s:Nat}{ro:Nat→Rl}(h:∀z,s≤z→ro z= .no):RK s ro ro:=⟨fun _ _ _=>rfl,fun z x _ h=>⟨x,h⟩,fun z hz=>.inl (h z hz)⟩
theorem RK.trans{s s':Nat}{r1 r2 r3:Nat→Rl}(h:RK s r1 r2)(h':RK s' r2 r3)(hs:s≤s'):RK s r1 r3:=by
 refine⟨fun z hz hk=>?_,fun z x hz hx=>?_,fun z hz=>?_⟩
 ·have h1:=h.o z hz hk
  rw[h'.o z (by omega) (fun x=>by rw[h1];exact hk x),h1]
 ·obtain⟨y,hy⟩:=h.k z x hz hx
  exact h'.k z y (by omega) hy
 ·by_cases h1:z<s'
  ·rcases h.n z hz with h2| ⟨y,h2⟩
   ·rw[h'.o z h1 (fun x=>by rw[h2];intro e;cases e)]
    exact .inl h2
   ·exact .inr (h'.k z y h1 h2)
  ·exact h'.n z (by omega)
def KB(ro:Nat→Rl)(z:Nat):Prop:=ro z= .table∨∃x,ro z= .sM x
section
variable {H H' : Hp} {ro ro' : Nat → Rl} {fb tb n : Nat} {l : List Value} {V : Int → Value} {ch : Int → List Int} {par : Int → Int} {kb : Int → Option Nat} {T : Nat → Prop}
theorem ForM.ext(m:ForM H ro fb tb n l V ch par kb)(e:ah T H H')(hd:∀z,(ro z= .Hd∨KB ro z)→¬T z):ForM H' ro fb tb n l V ch par kb:=
 ⟨m.t.ext e (hd _ (.inl m.rf)) (hd _ (.inr (.inl m.rt))),fun x h0 h1=>(m.kd x h0 h1).ext e (fun b hb=>hd _ (.inr (.inr ⟨x,m.rk x b h0 h1 hb⟩))),m.rf,m.rt,m.rk,m.Iq,m.no⟩
theorem ForM.fresh(m:ForM H ro fb tb n l V ch par kb)(e:aq H H'):ForM H' ro fb tb n l V ch par kb:=m.ext e fun _ _ h=>h
theorem ForM.shape(m:ForM H ro fb tb n l V ch par kb){x:Int}(hx:0≤x∧x<n):∃a c,V x= .slice a (ch x).length c:=Sl.shape (m.kd x hx.1 hx.2)
theorem qE(t:qD H fb tb n l V par)(x:Int):ai Tryz.prog Au [ptr fb,i64 x] H fun v H'=>ay (v= .bool (decide (0≤x∧x<n))∧H'=H):=by
 refine ba AX ⟨rfl,?_⟩
 refine v1 jT.eq_1 ?_
 refine am.dec (fun h0=>?_) (fun h0=>?_)<;>refine v1 (ae t.own) ?_
 ·refine⟨?_,rfl⟩
  rw[show(decide (0≤x∧x< (n:Int)))=decide (x< (n:Int)) by simp[h0]]
  rfl
 ·refine⟨?_,rfl⟩
  rw[anU (fun h=>h0 h.1)]
  rfl
theorem jz(t:qD H fb tb n l V par)(x:Int):ai Tryz.prog yK [ptr fb,i64 x] H fun v H'=>ay (v= .bool (decide (0≤x∧x<n) && decide (par x= -1))∧H'=H):=by
 refine ba zk ⟨rfl,?_⟩
 refine v1 iN.eq_1 ?_
 refine(qE t x).mono ?_
 rintro _ H' ⟨rfl,e⟩
 obtain rfl:=e.symm
 by_cases hx:0≤x∧x<n
 ·rw[anQ hx]
  have hl:=t.len
  obtain⟨a1,a2⟩:=t.at_ x hx.1 hx.2
  refine v1 (ae t.own) ?_
  refine⟨⟨by omega,by omega⟩,?_⟩
  refine v3 (ae t.Gg) anB a2 ?_
  exact⟨rfl,rfl⟩
 ·rw[anU hx]
  refine vs ?_
  exact⟨rfl,rfl⟩
theorem dh(m:ForM H ro fb tb n l V ch par kb)(x:Int):ai Tryz.prog vI [ptr fb,i64 x] H fun v H'=>ay (v=i64 (ch x).length∧H'=H):=by
 refine ba vS ⟨rfl,?_⟩
 refine v1 fO.eq_1 ?_
 refine(qE m.t x).mono ?_
 rintro _ H' ⟨rfl,e⟩
 obtain rfl:=e.symm
 by_cases hx:0≤x∧x<n
 ·rw[anQ hx]
  have hl:=m.t.len
  obtain⟨a1,a2⟩:=m.t.at_ x hx.1 hx.2
  obtain⟨a,c,hv⟩:=m.shape hx
  rw[hv]at a1
  refine v1 (ae m.t.own) ?_
  refine⟨⟨by omega,by omega⟩,?_⟩
  refine v4 (ae m.t.Gg) anB Nat.add_zero a1 ?_
  exact⟨rfl,rfl⟩
 ·rw[anU hx,m.no x hx]
  refine vs ?_
  exact⟨rfl,rfl⟩
theorem sz(t:qD H fb tb n l V par){x:Int}(hx:0≤x∧x<n):ai Tryz.prog B3 [ptr fb,i64 x] H fun v H'=>ay (((par x= -1∧v= .tuple [i64 0,.bool false].toArray)∨(par x≠ -1∧v= .tuple [i64 (par x),.bool true].toArray))∧H'=H):=by
 refine ba Co ⟨rfl,?_⟩
 refine v1 lD.eq_1 ?_
 refine(qE t x).mono ?_
 rintro _ H' ⟨rfl,e⟩
 obtain rfl:=e.symm
 rw[anQ hx]
 have hl:=t.len
 obtain⟨a1,a2⟩:=t.at_ x hx.1 hx.2
 refine v1 (ae t.own) ?_
 refine⟨⟨by omega,by omega⟩,?_⟩
 refine v3 (ae t.Gg) anB a2 ?_
 refine am.dec (fun h0=>?_) (fun h0=>?_)<;>refine vs ?_
 ·exact⟨.inl ⟨h0,rfl⟩,rfl⟩
 refine v1 (ae t.own) ?_
 refine⟨⟨by omega,by omega⟩,?_⟩
 refine v3 (ae t.Gg) anB a2 ?_
 exact⟨.inr ⟨h0,rfl⟩,rfl⟩
theorem SL{H:Hp}{T:TypeId}{w:Value}{xs:List Int}{fp:Option Nat}{K:Value→Hp→Prop}(s:Sl H 1 w xs.length (xs.map i64) fp)(x:Int)(hl:xs.length≤1000000000000)
  (hk:∀w' H' dv,(dv=fp∨∃b,dv=some b∧H.size≤b∧b<H'.size)→Sl H' 1 w' (xs++[x]).length ((xs++[x]).map i64) dv→ah (fun z=>fp=some z) H H'→K w' H'):
  im T 1 8 [i64 0] w (.slice (some ⟨H.size,0,none⟩) 1 1) (H.new T [i64 x]) K:=by
 have fl:aq H (H.new T [i64 x]):=(ah.refl _ _).new _ _
 refine Sl.append (s.ext fl (fun _ _ h=>h)) (Sl.dw (size:=1) (n:=1) (xs:=[i64 x]) rfl rfl).rd rfl (CH [x]) (by omega) ?_
 intro v' H' dv s' e' Nk
 refine hk v' H' dv (Nk.imp_right fun⟨b,h1,h2,h3⟩=>⟨b,h1,by rw[ar]at h2;omega,h3⟩) (by rw[anL,aos];exact s') ⟨aok fl.size e'.size,fun z hz hn=>?_⟩
 rw[e'.aP z (an3 hz fl.size) hn,fl.aP z hz (fun h=>h)]
theorem ForM.put(m:ForM H ro fb tb n l V ch par kb)(hz:∀z,H.size≤z→ro z= .no){a:Int}(ha:0≤a∧a<n){H2:Hp}(e:ah (fun z=>kb a=some z) H H2){w':Value}{L':List Int}{dv:Option Nat}(s:Sl H2 1 w' L'.length (L'.map i64) dv)
  (hf:dv=kb a∨dv=none∨∃b,dv=some b∧H.size≤b∧b<H2.size)(hL:∀c∈L',0≤c∧c<n):
  ∃ro' wx,ForM (H2.wr tb (l.set (a.toNat*2) w')) ro' fb tb n (l.set (a.toNat*2) w') (xF V a w') (aA ch a L') par wx∧RK H.size ro ro'∧(∀z,(H2.wr tb (l.set (a.toNat*2) w')).size≤z→ro' z= .no)∧ah (KB ro) H (H2.wr tb (l.set (a.toNat*2) w')):=by
 have V8:∀z,kb a=some z→ro z= .sM a:=fun z h=>m.rk a z ha.1 ha.2 h
 have hfb:¬kb a=some fb:=fun h=>by have:=V8 _ h;rw[m.rf]at this;cases this
 have Rx:¬kb a=some tb:=fun h=>by have:=V8 _ h;rw[m.rt]at this;cases this
 obtain⟨z1,z2⟩:=m.t.SK
 have t2:=m.t.ext e hfb Rx
 obtain⟨t3,e3⟩:=t2.xF ha w'
 have hs:=e.size
 have NN:(H2.wr tb (l.set (a.toNat*2) w')).size=H2.size:=gh _ _ _
 have hr:∃ro':Nat→Rl,(∀b,dv=some b→ro' b= .sM a)∧(∀z,z<H.size→ro' z=ro z)∧RK H.size ro ro'∧∀z,H2.size≤z→ro' z= .no:=by
  rcases hf with h|h| ⟨b,h,Qz,G3⟩
  ·exact⟨ro,fun b hb=>V8 b (by rw[←h];exact hb),fun _ _=>rfl,RK.refl hz,fun z ez=>hz z (by omega)⟩
  ·refine⟨ro,fun b hb=>?_,fun _ _=>rfl,RK.refl hz,fun z ez=>hz z (by omega)⟩
   rw[h]at hb
   cases hb
  ·refine⟨fun z=>if z=b then .sM a else ro z,fun b' rR=>?_,fun z ez=>?_,⟨fun z ez _=>?_,fun z x ez hx=>⟨x,?_⟩,fun z ez=>?_⟩,fun z ez=>?_⟩
   ·rw[h]at rR
    injection rR with rR
    simp[rR]
   ·show(if z=b then Rl.sM a else ro z)=_
    rw[if_neg (by omega)]
   ·show(if z=b then Rl.sM a else ro z)=_
    rw[if_neg (by omega)]
   ·show(if z=b then Rl.sM a else ro z)=_
    rw[if_neg (by omega)];exact hx
   ·show(if z=b then Rl.sM a else ro z)=_∨∃y,(if z=b then Rl.sM a else ro z)=_
    split
    ·exact .inr ⟨a,rfl⟩
    ·exact .inl (hz z ez)
   ·show(if z=b then Rl.sM a else ro z)=_
    rw[if_neg (by omega)];exact hz z (by omega)
 obtain⟨ro',r1,r2,r3,r4⟩:=hr
 have hfl:∀b,dv=some b→b≠tb:=fun b hb e=>by
  have:=r1 b hb
  rw[e,r2 tb (by omega),m.rt]at this
  cases this
 refine⟨ro',fun z=>if z=a then dv else kb z,⟨t3,fun x h0 h1=>?_,by rw[r2 _ z1];exact m.rf,by rw[r2 _ z2];exact m.rt,fun x b h0 h1 hb=>?_,fun x c hc=>?_,fun x hx=>?_⟩,r3,fun z ez=>r4 z (by omega),(e.mono fun z _ h=>.inr ⟨a,V8 z h⟩).trans (e3.mono fun z _ h=>.inl (by rw[h];exact m.rt))⟩
 ·unfold xF aA
  by_cases hxa:x=a
  ·simp only[hxa,if_true]
   exact s.ext e3 (fun b hb=>hfl b hb)
  ·simp only[if_neg hxa]
   refine((m.kd x h0 h1).ext e (fun b hb G3=>?_)).ext e3 (fun b hb e=>?_)
   ·have h5:=m.rk x b h0 h1 hb
    rw[V8 b G3]at h5
    injection h5 with h5
    exact hxa h5.symm
   ·have h5:=m.rk x b h0 h1 hb
    rw[e,m.rt]at h5
    cases h5
 ·split at hb
  ·rename_i e;rw[e];exact r1 b hb
  ·have h5:=m.rk x b h0 h1 hb
   have h6:=Sl.lt (b:=b) (by have:=m.kd x h0 h1;rw[hb]at this;exact this)
   rw[r2 b h6];exact h5
 ·unfold aA at hc
  split at hc
  ·exact hL c hc
  ·exact m.Iq x c hc
 ·unfold aA
  rw[if_neg (fun e=>hx (by rw[e];exact ha))]
  exact m.no x hx
theorem ForM.aK(m:ForM H ro fb tb n l V ch par kb){x:Int}(hx:0≤x∧x<n)(u:Int):ForM (H.wr tb (l.set (x.toNat*2+1) (i64 u))) ro fb tb n (l.set (x.toNat*2+1) (i64 u)) V ch (aK par x u) kb∧ah (KB ro) H (H.wr tb (l.set (x.toNat*2+1) (i64 u))):=by
 obtain⟨t3,e3⟩:=m.t.aK hx u
 refine⟨⟨t3,fun x h0 h1=>(m.kd x h0 h1).ext e3 (fun b hb e=>?_),m.rf,m.rt,m.rk,m.Iq,m.no⟩,e3.mono fun z _ h=>.inl (by rw[h];exact m.rt)⟩
 have h5:=m.rk x b h0 h1 hb
 rw[e,m.rt]at h5
 cases h5
set_option maxHeartbeats 1000000 in
theorem vy(m:ForM H ro fb tb n l V ch par kb)(hz:∀z,H.size≤z→ro z= .no){a b:Int}(ha:0≤a∧a<n)(hb:0≤b∧b<n)(pa:par a= -1)(pb:par b= -1)(ye:a≠b)(hd:(ch a).length=(ch b).length)(hl:(ch a).length≤65536):
  ai Tryz.prog yM [ptr fb,i64 a,i64 b] H fun v H'=>ay (v= .bool true∧∃ro' l' V' wx,ForM H' ro' fb tb n l' V' (aA ch a (ch a++[b])) (aK par b a) wx∧RK H.size ro ro'∧(∀z,H'.size≤z→ro' z= .no)∧ah (KB ro) H H'):=by
 have ht:=m.t.len
 obtain⟨a1,a2⟩:=m.t.at_ a ha.1 ha.2
 have ka:=m.kd a ha.1 ha.2
 have hcL:∀c∈ch a++[b],0≤c∧c<n:=fun c hc=>by
  rcases anR.1 hc with hc|hc
  ·exact m.Iq a c hc
  ·rw[anM.1 hc];exact hb
 have V8:∀z,kb a=some z→ro z= .sM a:=fun z h=>m.rk a z ha.1 ha.2 h
 have hfb:¬kb a=some fb:=fun h=>by have:=V8 _ h;rw[m.rf]at this;cases this
 have Rx:¬kb a=some tb:=fun h=>by have:=V8 _ h;rw[m.rt]at this;cases this
 refine ba zo ⟨rfl,?_⟩
 refine v1 pA.eq_1 ?_
 refine(jz m.t a).mono ?_
 rintro _ H' ⟨rfl,e⟩
 obtain rfl:=e.symm
 rw[anQ ha,anQ pa]
 refine vs ?_
 refine(jz m.t b).mono ?_
 rintro _ H' ⟨rfl,e⟩
 obtain rfl:=e.symm
 rw[anQ hb,anQ pb]
 refine vs ?_
 refine am.dec (fun h=>absurd h ye) (fun _=>?_)
 refine vs ?_
 refine(dh m a).mono ?_
 rintro _ H' ⟨rfl,e⟩
 obtain rfl:=e.symm
 refine vs ?_
 refine(dh m b).mono ?_
 rintro _ H' ⟨rfl,e⟩
 obtain rfl:=e.symm
 rw[hd]
 refine vs ?_
 refine am.cF (by simp) ?_
 refine vs ?_
 refine rq.intro (fun H'=>H'.own fb=some [.slice (some ⟨tb,0,none⟩) n n]) m.t.own ?_
 refine vs ?_
 refine oQ.intro (.slice (some ⟨tb,0,none⟩) n n) (fun H' hI=>by refine v1 (ae hI) ?_;trivial) ?_
 refine vs ?_
 refine oQ.intro (.slice (some ⟨tb,0,none⟩) n n) (fun H' hI=>by refine v1 (ae hI) ?_;trivial) ?_
 refine vs ?_
 refine⟨⟨by omega,by omega⟩,?_⟩
 refine vs ?_
 obtain⟨z1,z2⟩:=m.t.SK
 have f1:aq H (H.new 3 [i64 b]):=(ah.refl _ _).new _ _
 have o1:=f1.own m.t.own (fun h=>h)
 have q1:=f1.own m.t.Gg (fun h=>h)
 refine He.intro ?A ?B
 case' A=>
  refine v4 (ae m.t.Gg) anB Nat.add_zero a1 ?_
  refine And.intro m.t.own ?_
  refine vs ?_
  refine And.intro m.t.own ?_
  refine vs ?_
 case' B=>
  refine vs ?_
  refine And.intro m.t.own ?_
  refine v5 (ae q1) (ae m.t.Gg) anB Nat.add_zero a1 ?_
  refine And.intro m.t.own ?_
  refine vs ?_
 all_goals
  refine SL ka b (by omega) fun w' H2 dv jv s2 e2=>?_
  obtain⟨wa,wc,rfl⟩:=Sl.shape s2
  have t2:=m.t.ext e2 hfb Rx
  refine And.intro t2.own ?_
  refine vs ?_
  refine⟨⟨by omega,by omega⟩,?_⟩
  refine v3 t2.Gg anB Nat.add_zero ?_
  refine⟨by omega,?_⟩
  obtain⟨ro',wx,m3,r3,r4,e3⟩:=m.put hz ha e2 s2 (jv.imp_right .inr) hcL
  refine vs ?_
  refine And.intro m3.t.own ?_
  refine vs ?_
  have Ua:=m3.t.len
  generalize H2.wr tb (l.set (a.toNat*2) (Value.slice wa (ch a++[b]).length wc))=H3 at*
  refine v1 (ae m3.t.own) ?_
  refine⟨⟨by omega,by omega⟩,?_⟩
  refine v3 m3.t.Gg anB Nat.add_zero ?_
  refine⟨by omega,?_⟩
  obtain⟨m4,e4⟩:=m3.aK hb a
  refine vs ?_
  refine⟨rfl,ro',_,_,wx,m4,r3,fun z ez=>r4 z (by rw[gh]at ez;exact ez),?_⟩
  refine⟨aok e3.size e4.size,fun z ez hn=>?_⟩
  rw[e4.aP z (an3 ez e3.size) (fun h=>hn ?_),e3.aP z ez hn]
  rcases h with h| ⟨x,h⟩
  ·refine .inl ?_
   by_cases hk:∃x,ro z= .sM x
   ·obtain⟨x,hx⟩:=hk
    obtain⟨y,hy⟩:=r3.k z x ez hx
    rw[hy]at h;cases h
   ·rw[←r3.o z ez (fun x hx=>hk ⟨x,hx⟩)];exact h
  ·refine .inr ?_
   apply anX
   intro hk
   rw[r3.o z ez (fun x hx=>hk ⟨x,hx⟩)]at h
   exact hk ⟨x,h⟩
end
end Go.Proofs.YtjlnnljohemifaaGreat

namespace Go.Proofs.YtjlnnljohemifaaGreat
open Go Go.Vc
abbrev jd(x:Int)(g:Nat):Value:=.agg #[i64 x,.int .u32 (g:Int)]
structure Ar where
 g:List (Nat×Bool)
 wt:List Int
 nx:Nat
 ct:Int
 mo:Nat
def dC(L:List (Nat×Bool)):List Value:=L.flatMap fun y=>[.int .u32 (y.1:Int),.bool y.2]
theorem tA(L:List (Nat×Bool)):(dC L).length=L.length*2:=by
 induction L with
 |nil=>rfl
 |cons c r ih=>simp only[dC,aps,anL,anY,aoF]at*;omega
theorem xG{L:List (Nat×Bool)}{i:Nat}{y:Nat×Bool}(hi:L[i]? =some y):(dC L)[i*2]? =some (.int .u32 (y.1:Int))∧(dC L)[i*2+1]? =some (.bool y.2):=by
 induction L generalizing i with
 |nil=>simp at hi
 |cons a r ih=>
  have e:dC (a::r)= .int .u32 (a.1:Int):: .bool a.2::dC r:=rfl
  rw[e]
  cases i with
  |zero=>simp at hi;subst hi;exact⟨rfl,rfl⟩
  |succ i=>
   have:=ih (by simpa using hi)
   rw[show(i+1)*2=i*2+2 by omega]
   exact this
theorem Eh{L:List (Nat×Bool)}{i:Nat}{y:Nat×Bool}(hi:L[i]? =some y):(∀v:Nat,(dC L).set (i*2) (.int .u32 (v:Int))=dC (L.set i (v,y.2)))∧(∀b,(dC L).set (i*2+1) (.bool b)=dC (L.set i (y.1,b))):=by
 induction L generalizing i with
 |nil=>simp at hi
 |cons a r ih=>
  have e:dC (a::r)= .int .u32 (a.1:Int):: .bool a.2::dC r:=rfl
  cases i with
  |zero=>simp at hi;subst hi;exact⟨fun _=>rfl,fun _=>rfl⟩
  |succ i=>
   obtain⟨h1,h2⟩:=ih (by simpa using hi)
   refine⟨fun v=>?_,fun b=>?_⟩
   ·have e2:dC ((a::r).set (i+1) (v,y.2))= .int .u32 (a.1:Int):: .bool a.2::dC (r.set i (v,y.2)):=rfl
    rw[e,e2,show(i+1)*2=i*2+1+1 by omega]
    simp only[aop]
    rw[h1]
   ·have e2:dC ((a::r).set (i+1) (y.1,b))= .int .u32 (a.1:Int):: .bool a.2::dC (r.set i (y.1,b)):=rfl
    rw[e,e2,show(i+1)*2+1=i*2+1+1+1 by omega]
    simp only[aop]
    rw[h2]
def Ar.cf(A:Ar)(x:Int):Nat:=(A.g.getD x.toNat (0,false)).1
def Ar.live(A:Ar)(x:Int):Prop:=0≤x∧(A.g[x.toNat]?).map (·.2)=some true
instance(A:Ar)(x:Int):Decidable (A.live x):=by unfold Ar.live;exact inferInstance
def Ar.pick(A:Ar):Option (Int×Ar):=
 if A.wt≠[]then some (A.wt.getLastD 0,{A with wt:=A.wt.dropLast})else if A.nx=A.g.length then none else some ((A.nx:Int),{A with nx:=A.nx+1})
def Ar.out(A:Ar)(x:Int):Ar:={A with g:=A.g.set x.toNat (A.cf x+1,true),ct:=A.ct+1}
def Ar.back(A:Ar)(x:Int):Ar:={A with g:=A.g.set x.toNat (A.cf x,false),ct:=A.ct - 1,wt:=if A.cf x<A.mo then A.wt++[x]else A.wt}
def Ar.aX(A:Ar):Nat:=A.g.countP (·.2)
theorem count_set{L:List (Nat×Bool)}{i:Nat}{y:Nat×Bool}(h:L[i]? =some y)(v:Nat)(b:Bool):(L.set i (v,b)).countP (·.2)+y.2.toNat=L.countP (·.2)+b.toNat:=by
 induction L generalizing i with
 |nil=>simp at h
 |cons a r ih=>
  cases i with
  |zero=>
   simp at h
   subst h
   rw[ao1,ao6,ao6]
   cases a.2<;>cases b<;>simp
  |succ i=>
   have:=ih (i:=i) (by simpa using h)
   rw[aop,ao6,ao6]
   omega
structure Bm(A:Ar):Prop where
 wl:∀x∈A.wt,¬A.live x∧x<A.nx∧0≤x
 wd:A.wt.Nodup
 fr:∀x:Int,A.nx≤x→¬A.live x
 ct:A.ct=A.aX
 nx:A.nx≤A.g.length
structure UQ where
 a:Nat
 sb:Nat
 fo:Option Nat
def UQ.S(B:UQ)(z:Nat):Prop:=z=B.a∨z=B.sb∨B.fo=some z
structure KF(H:Hp)(B:UQ)(A:Ar):Prop where
 own:∃tv,H.own B.a=some [.slice (some ⟨B.sb,0,none⟩) A.g.length A.g.length,tv,i64 A.nx,i64 A.ct,.int .u32 (A.mo:Int)]∧Sl H 1 tv A.wt.length (A.wt.map i64) B.fo
 sl:H.own B.sb=some (dC A.g)
 ne:B.a≠B.sb∧B.fo≠some B.a∧B.fo≠some B.sb
 len:A.g.length≤65536
 ok:Bm A
 gs:∀y∈A.g,y.1≤4294967295
 mo:A.mo≤4294967295
section
variable {H H' : Hp} {B : UQ} {A : Ar} {T : Nat → Prop}
theorem KF.slt(m:KF H B A):∀z,B.S z→z<H.size:=by
 obtain⟨tv,h1,h2⟩:=m.own
 rintro z (rfl|rfl|h)
 ·exact aG h1
 ·exact aG m.sl
 ·rw[h]at h2;exact Sl.lt h2
theorem KF.ext(m:KF H B A)(e:ah T H H')(hd:∀z,B.S z→¬T z):KF H' B A:=by
 obtain⟨tv,h1,h2⟩:=m.own
 exact⟨⟨tv,e.own h1 (hd _ (.inl rfl)),h2.ext e (fun b hb=>hd b (.inr (.inr hb)))⟩,e.own m.sl (hd _ (.inr (.inl rfl))),m.ne,m.len,m.ok,m.gs,m.mo⟩
theorem Ar.get{A:Ar}{x:Int}(hx:0≤x∧x<A.g.length):∃b,A.g[x.toNat]? =some (A.cf x,b)∧(A.live x↔b=true):=by
 obtain⟨y,hy⟩:∃y,A.g[x.toNat]? =some y:=⟨_,anx (by omega)⟩
 refine⟨y.2,?_,?_⟩
 ·unfold Ar.cf
  rw[anE,hy];rfl
 ·unfold Ar.live
  rw[hy]
  simp[hx.1]
theorem Ar.CN{A:Ar}{x:Int}(h:A.live x):0≤x∧x<A.g.length:=by
 obtain⟨h0,h1⟩:=h
 cases hy:A.g[x.toNat]? with
 |none=>rw[hy]at h1;cases h1
 |some y=>
  have:=(anA.1 hy).1
  omega
theorem KF.wtl(m:KF H B A):A.wt.length≤65536∧∀x∈A.wt,0≤x∧x<A.g.length:=by
 have h1:∀x∈A.wt,0≤x∧x<A.g.length:=fun x hx=>by
  have:=m.ok.wl x hx
  have:=m.ok.nx
  omega
 exact⟨aok (bV m.ok.wd h1) m.len,h1⟩
theorem Oh(k:Nat):cN [Value.int .u32 0,Value.bool false] k=dC (List.replicate k (0,false)):=by
 unfold cN dC
 induction k with
 |zero=>rfl
 |succ k ih=>rw[aor,aor,aoI,aps,ih];rfl
theorem Hf(H:Hp){n:Int}{mo:Nat}(hn:0≤n∧n≤65536)(hm:0<mo∧mo≤4294967295):ai Tryz.prog LJ [i64 n,.int .u32 (mo:Int)] H fun v H'=>ay (∃B,v= .tuple [ptr B.a,i64 0].toArray∧KF H' B ⟨List.replicate n.toNat (0,false),[],0,0,mo⟩∧aq H H'∧∀z,B.S z→H.size≤z):=by
 refine ba LO ⟨rfl,?_⟩
 refine v1 wX.eq_1 ?_
 refine am.dec (fun g=>absurd g (by omega)) (fun _=>?_)
 refine vs ?_
 refine am.dec (fun g=>absurd g (by omega)) (fun _=>?_)
 refine vs ?_
 refine am.dec (fun g=>absurd g (by omega)) (fun _=>?_)
 refine vs ?_
 refine⟨⟨by omega,by omega,by omega,by omega⟩,?_⟩
 refine vs ?_
 rw[Oh]
 refine⟨⟨H.size+1,H.size,none⟩,rfl,⟨⟨.slice none 0 0,?_,Sl.nil _ _⟩,?_,⟨by simp only;omega,by simp,by simp⟩,by rw[aov];omega,⟨by simp,aoU,fun x _ hx=>?_,by simp[Ar.aX,List.countP_replicate],apv _⟩,fun y hy=>by rw[(List.mem_replicate.1 hy).2];simp,hm.2⟩,((ah.refl _ _).new _ _).new _ _,fun z hz=>?_⟩
 ·rw[aov]
  exact bD (by simp only[ar])
 rotate_left
 ·obtain⟨h0,h1⟩:=hx
  simp only[aoH]at h1
  split at h1<;>simp at h1
 rotate_left
 ·simp only
  rw[cz (by simp only[ar];omega),aE]
 ·rcases hz with h|h|h
  ·simp only at h;omega
  ·simp only at h;omega
  ·cases h
theorem vz(m:KF H B A)(x:Int)(g:Nat):ai Tryz.prog Ap [ptr B.a,jd x g] H fun v H'=>ay (v= .bool (decide (A.live x∧A.cf x=g))∧aq H H'):=by
 obtain⟨tv,o1,_⟩:=m.own
 refine ba AP ⟨rfl,?_⟩
 refine v1 jM.eq_1 ?_
 have f0:aq H (H.new 114 [i64 x,.int .u32 (g:Int)]):=(ah.refl _ _).new _ _
 have b0:(H.new 114 [i64 x,.int .u32 (g:Int)]).own H.size=some [i64 x,.int .u32 (g:Int)]:=aE _ _ _
 have m0:=m.ext f0 (fun _ _ h=>h)
 generalize H.new 114 [i64 x,.int .u32 (g:Int)]=H0 at*
 obtain⟨tv0,o0,_⟩:=m0.own
 refine am.dec (fun h0=>?_) (fun h0=>?_)<;>refine v2 (ae b0) (ae o0) ?_
 rotate_left
 ·rw[anU (fun h=>h0 h.1.1)]
  exact⟨rfl,f0⟩
 refine am.dec (fun h1=>?_) (fun h1=>?_)<;>refine v2 (ae b0) (ae o0) ?_
 rotate_left
 ·rw[anU (fun h=>h1 (Ar.CN h.1).2)]
  exact⟨rfl,f0⟩
 obtain⟨b,hb,xH⟩:=Ar.get (A:=A) (x:=x) ⟨h0,h1⟩
 obtain⟨c1,c2⟩:=xG hb
 have hl:=tA A.g
 refine⟨⟨by omega,by omega⟩,?_⟩
 refine v2 (ae m0.sl) anB ?_
 have hdt:((dC A.g).drop (x.toNat*2)).take 2=[.int .u32 (A.cf x:Int),.bool b]:=by
  apply aoj
  intro k
  match k with
  |0=>rw[an9 (by omega),aoc,Nat.add_zero];exact c1
  |1=>rw[an9 (by omega),aoc];exact c2
  |k+2=>rw[anP (by simp;omega)];rfl
 rw[hdt]
 refine⟨by omega,?_⟩
 refine v1 (ae b0) ?_
 have heq:CO [(0,none,Shape.int),(1,none,Shape.bool)] [Value.int IntKind.u32 (A.cf x:Int),Value.bool b] [Value.int IntKind.u32 (g:Int),Value.bool true]=some (decide (A.cf x=g) && b):=by
  by_cases hg:A.cf x=g
  ·cases b<;>simp[CO,tB,bB,hg,xI]
  ·have:¬ (A.cf x:Int)=(g:Int):=by omega
   cases b<;>simp[CO,tB,bB,hg,xI,this]
 rw[heq]
 simp(disch:=(first|omega| (simp only[Zs]<;>omega)|fail)) only[go_sem, ↓reduceIte,Zv,Option.map_some]
 refine⟨an4 Value.bool ?_,f0⟩
 by_cases hg:A.cf x=g
 ·rw[anQ hg,apY]
  cases G3:b
  ·exact(anU (fun h=>by have:=xH.1 h.1;rw[G3]at this;cases this)).symm
  ·exact(anQ ⟨xH.2 G3,hg⟩).symm
 ·rw[anU hg,anU (fun h=>hg h.2)]
  rfl
theorem Ja(m:KF H B A){x:Int}(hx:A.live x):ai Tryz.prog DA [ptr B.a,i64 x] H fun v H'=>ay (v= .tuple [jd x (A.cf x),.bool true].toArray∧aq H H'):=by
 obtain⟨tv,o1,_⟩:=m.own
 have xJ:=Ar.CN hx
 obtain⟨b,hb,xH⟩:=Ar.get (A:=A) (x:=x) xJ
 obtain rfl:=xH.1 hx
 obtain⟨c1,c2⟩:=xG hb
 have hl:=tA A.g
 refine ba DN ⟨rfl,?_⟩
 refine v1 mK.eq_1 ?_
 have f0:aq H (H.new 114 [Value.int .i64 0,Value.int .u32 0]):=(ah.refl _ _).new _ _
 have b0:(H.new 114 [Value.int .i64 0,Value.int .u32 0]).own H.size=some [Value.int .i64 0,Value.int .u32 0]:=aE _ _ _
 have m0:=m.ext f0 (fun _ _ h=>h)
 have z0:(H.new 114 [Value.int .i64 0,Value.int .u32 0]).size=H.size+1:=ar _ _ _
 generalize H.new 114 [Value.int .i64 0,Value.int .u32 0]=H0 at*
 obtain⟨tv0,o0,_⟩:=m0.own
 refine am.dec (fun h=>absurd h (by omega)) (fun _=>?_)
 refine v1 (ae o0) ?_
 refine am.dec (fun h=>absurd h (by omega)) (fun _=>?_)
 refine v1 (ae o0) ?_
 refine⟨⟨by omega,by omega⟩,?_⟩
 refine v4 (ae m0.sl) anB c2 (ae o0) ?_
 refine⟨⟨by omega,by omega⟩,?_⟩
 refine v5 (ae m0.sl) anB Nat.add_zero c1 b0 ?_
 have e1:ah (fun z=>z=H.size) H0 (H0.wr H.size [Value.int .i64 x,Value.int .u32 (A.cf x:Int)]):=(ah.refl (fun z=>z=H.size) _).wr (fun _=>rfl) _
 have b1:(H0.wr H.size [Value.int .i64 x,Value.int .u32 (A.cf x:Int)]).own H.size=some [Value.int .i64 x,Value.int .u32 (A.cf x:Int)]:=aj b0
 refine v1 (ae b1) ?_
 exact⟨rfl,f0.then e1 (fun z hz=>by omega)⟩
end
end Go.Proofs.YtjlnnljohemifaaGreat

namespace Go.Proofs.YtjlnnljohemifaaGreat
open Go Go.Vc
theorem lY{H:Hp}{v:Value}{size n:Nat}{xs:List Value}{fp:Option Nat}(h:Sl H size v n xs fp):∃a c,v= .slice a n c∧n≤c:=by
 obtain⟨_,h⟩:=h
 cases fp with
 |none=>obtain⟨rfl,rfl⟩:=h;exact⟨_,_,rfl,anO _⟩
 |some b=>obtain⟨l,c,rfl,_,hc,_⟩:=h;exact⟨_,_,rfl,hc⟩
theorem da.num{H:Hp}{a:Option Addr}{n c:Nat}{xs:List Int}(h:da H 1 (.slice a n c) n (xs.map i64)){i:Nat}{x:Int}(hx:xs[i]? =some x):
  i<n∧∃b o lb,a=some ⟨b,o,none⟩∧H.rd b=some lb∧lb[o+i]? =some (i64 x):=by
 obtain⟨hl,hv⟩:=h
 rw[anW,anD]at hl
 have hi:=(anA.1 hx).1
 refine⟨by omega,?_⟩
 rcases hv with ⟨hn,_⟩| ⟨b,o,c2,l,hs,kG,vf,ht⟩
 ·omega
 ·injection hs with fE NO Io
  refine⟨b,o,l,fE,kG,?_⟩
  have h7:(xs.map i64)[i]? =some (i64 x):=by rw[anT,hx];rfl
  rw[←ht,aob,if_pos (by omega),aoc]at h7
  exact h7
theorem gu{H:Hp}{a:Option Addr}{c:Nat}{xs:List Int}(h:da H 1 (.slice a xs.length c) xs.length (xs.map i64))(x:Int)(hm:xs.length≤1000000000):
  ai Tryz.prog tY [.slice a xs.length c,i64 x] H fun v H'=>ay ((∃i:Int,v=i64 i∧((i= -1∧x∉xs)∨(0≤i∧xs[i.toNat]? =some x)))∧H'=H):=by
 refine ba um ⟨rfl,?_⟩
 refine v1 fj.eq_1 ?_
 refine bA.intro (fun m env H'=>H'=H∧∃j:Nat,m=xs.length - j∧j≤xs.length∧(∀e∈xs.take j,x≠e)∧env=[(0,.slice a xs.length c),(1,i64 x),(7,i64 xs.length),(8,i64 j)]) xs.length ⟨rfl,0,by omega,by omega,by simp,rfl⟩ ?_
 rintro m env H1 ⟨e1,j,hmj,hj,fY,rfl⟩
 obtain rfl:=e1.symm
 refine vs ?_
 refine am.dec (fun aR=>?_) (fun aR=>?_)<;>refine vs ?_
 ·have jk:j<xs.length:=by omega
  obtain⟨e,he⟩:∃e,xs[j]? =some e:=⟨_,anx jk⟩
  obtain⟨_,b,o,lb,rfl,Bn,bM⟩:=da.num h he
  refine⟨⟨by omega,by omega⟩,?_⟩
  refine v4 Bn Int.toNat_natCast anD bM ?_
  refine am.dec (fun hx=>?_) (fun hx=>?_)<;>refine vs ?_
  ·exact⟨⟨j,rfl,.inr ⟨by omega,by rw[Int.toNat_natCast,he,hx]⟩⟩,rfl⟩
  ·rw[wrap64 (n:=(j:Int)+1) (by omega) (by omega)]
   refine⟨xs.length - (j+1),by omega,trivial,j+1,rfl,by omega,?_,rfl⟩
   intro e' tS
   rw[aoi,he]at tS
   rcases anR.1 tS with tS|tS
   ·exact fY e' tS
   ·have:e'=e:=by simpa using tS
    rw[this];exact hx
 ·have jk:j=xs.length:=by omega
  subst jk
  rw[aod]at fY
  exact⟨⟨-1,rfl,.inl ⟨rfl,fun hm=>fY x hm rfl⟩⟩,rfl⟩
theorem xK{H:Hp}{a:Option Addr}{c:Nat}{xs:List Int}(h:da H 1 (.slice a xs.length c) xs.length (xs.map i64))(x:Int)(hm:xs.length≤1000000000):
  ai Tryz.prog qW [.slice a xs.length c,i64 x] H fun v H'=>ay (v= .bool (decide (x∈xs))∧H'=H):=by
 refine ba qY ⟨rfl,?_⟩
 refine v1 dS.eq_1 ?_
 refine(gu h x hm).mono ?_
 rintro _ H1 ⟨⟨i,rfl,hi⟩,e⟩
 obtain rfl:=e.symm
 refine vs ?_
 refine⟨an4 Value.bool ?_,rfl⟩
 rcases hi with ⟨rfl,h1⟩| ⟨h0,h1⟩
 ·rw[anU h1];rfl
 ·rw[anQ (anG h1)]
  exact anQ (by omega)
theorem FS{H:Hp}{a:Option Addr}{c:Nat}{xs:List Int}(f:FuncId)(tC:List Value)(q:Int→Bool)(h:da H 1 (.slice a xs.length c) xs.length (xs.map i64))(FT:eW Tryz.prog f=true)
  (hf:∀x,ai Tryz.prog f (i64 x::tC) H fun v GU=>ay (v= .bool (q x)∧GU=H))(hm:xs.length≤1000000000):
  ai Tryz.prog gB [.slice a xs.length c,.func (.func f) #[] tC.toArray] H fun v H'=>ay ((∃i:Int,v=i64 i∧((i= -1∧∀x∈xs,q x=false)∨(0≤i∧(∀x∈xs.take i.toNat,q x=false)∧∃x,xs[i.toNat]? =some x∧q x=true)))∧H'=H):=by
 refine ba gG ⟨rfl,?_⟩
 refine v1 cM.eq_1 ?_
 refine bA.intro (fun m env H'=>H'=H∧∃j:Nat,m=xs.length - j∧j≤xs.length∧(∀e∈xs.take j,q e=false)∧env=[(0,.slice a xs.length c),(1,.func (.func f) #[] tC.toArray),(7,i64 xs.length),(8,i64 j)]) xs.length ⟨rfl,0,by omega,by omega,by simp,rfl⟩ ?_
 rintro m env H1 ⟨e1,j,hmj,hj,fY,rfl⟩
 obtain rfl:=e1.symm
 refine vs ?_
 refine am.dec (fun aR=>?_) (fun aR=>?_)<;>refine vs ?_
 ·have jk:j<xs.length:=by omega
  obtain⟨e,he⟩:∃e,xs[j]? =some e:=⟨_,anx jk⟩
  obtain⟨_,b,o,lb,rfl,Bn,bM⟩:=da.num h he
  refine⟨⟨by omega,by omega⟩,?_⟩
  refine v4 Bn Int.toNat_natCast anD bM ?_
  refine⟨FT,?_⟩
  refine ai.mono (by simpa using hf e) ?_
  rintro _ H2 ⟨rfl,e2⟩
  obtain rfl:=e2.symm
  refine vs ?_
  cases hx:q e
  ·refine vs ?_
   rw[wrap64 (n:=(j:Int)+1) (by omega) (by omega)]
   refine⟨xs.length - (j+1),by omega,trivial,j+1,rfl,by omega,?_,rfl⟩
   intro e' tS
   rw[aoi,he]at tS
   rcases anR.1 tS with tS|tS
   ·exact fY e' tS
   ·have:e'=e:=by simpa using tS
    rw[this];exact hx
  ·refine vs ?_
   exact⟨⟨j,rfl,.inr ⟨by omega,by rw[Int.toNat_natCast];exact fY,e,by rw[Int.toNat_natCast];exact he,hx⟩⟩,rfl⟩
 ·have jk:j=xs.length:=by omega
  subst jk
  rw[aod]at fY
  exact⟨⟨-1,rfl,.inl ⟨rfl,fY⟩⟩,rfl⟩
theorem Mq(k:Nat):cN [Value.int .i64 0] k=(List.replicate k (0:Int)).map i64:=by
 unfold cN
 induction k with
 |zero=>rfl
 |succ k ih=>rw[aor,aor,aoI,aoy,ih];rfl
theorem Hg(l new:List Value)(i:Nat)(h:i+new.length≤l.length):(bk l i new).take i=l.take i:=by
 apply aoj
 intro k
 by_cases hk:k<i
 ·rw[an9 hk,an9 hk,getElem?_splice new l i k h,if_neg (by omega)]
 ·rw[anP (by simp;omega),anP (by simp;omega)]
set_option maxRecDepth 100000 in
theorem Ei{H:Hp}{v:Value}{xs:List Int}{fp:Option Nat}(s:Sl H 1 v xs.length (xs.map i64) fp)(f:FuncId)(tC:List Value)(q:Int→Bool)(FT:eW Tryz.prog f=true)
  (hf:∀H',ah (fun z=>fp=some z) H H'→∀x,ai Tryz.prog f (i64 x::tC) H' fun v GU=>ay (v= .bool (q x)∧GU=H'))(hm:xs.length≤1000000000):
  ai Tryz.prog pJ [v,.func (.func f) #[] tC.toArray] H fun v' H'=>ay (Sl H' 1 v' (xs.filter fun x=> !q x).length ((xs.filter fun x=> !q x).map i64) fp∧ah (fun z=>fp=some z) H H'):=by
 obtain⟨a,c,rfl⟩:=Sl.shape s
 refine ba pK ⟨rfl,?_⟩
 refine v1 du.eq_1 ?_
 refine(FS f tC q s.rd FT (hf H (ah.refl _ _)) hm).mono ?_
 rintro _ H1 ⟨⟨i0,rfl,FO⟩,e⟩
 obtain rfl:=e.symm
 refine vs ?_
 rcases FO with ⟨rfl,fY⟩| ⟨h0,fY,x0,ik,V9⟩
 ·refine am.cF (by simp) ?_
  refine vs ?_
  have:xs.filter (fun x=> !q x)=xs:=by
   rw[apO]
   intro x hx
   rw[fY x hx];rfl
  rw[this]
  exact⟨s,ah.refl _ _⟩
 obtain⟨i,rfl⟩:∃i:Nat,i0=(i:Int):=⟨i0.toNat,by omega⟩
 rw[Int.toNat_natCast]at fY ik
 have hi:=(anA.1 ik).1
 refine am.dec (fun h=>by omega) (fun _=>?_)
 refine vs ?_
 obtain⟨_,b,lb0,rfl,_,_⟩:=Sl.Bl s ik
 have jv:fp=some b:=by
  cases fp with
  |none=>have:=s.2.2;injection this with h1;cases h1
  |some b'=>obtain⟨_,_,h1,_⟩:=s.2;injection h1 with h1;injection h1 with h1;injection h1 with h1;rw[h1]
 subst jv
 have f0:(xs.take (i+1)).filter (fun x=> !q x)=xs.take i:=by
  rw[aoi,ik,apE]
  have h1:(xs.take i).filter (fun x=> !q x)=xs.take i:=by
   rw[apO]
   intro x hx
   rw[fY x hx];rfl
  rw[h1]
  simp[V9]
 rw[wrap64 (by omega) (by omega)]
 refine bA.intro (fun m env H'=>∃ (i j:Nat) (ys:List Int),m=xs.length - j∧j≤xs.length∧i<j∧i=((xs.take j).filter fun x=> !q x).length∧ys.length=xs.length∧ys.take i=(xs.take j).filter (fun x=> !q x)∧ys.drop j=xs.drop j∧
  Sl H' 1 (.slice (some ⟨b,0,none⟩) xs.length c) xs.length (ys.map i64) (some b)∧ah (fun z=>some b=some z) H H'∧env=[(0,.slice (some ⟨b,0,none⟩) xs.length c),(1,.func (.func f) #[] tC.toArray),(5,i64 i),(6,i64 j)]) _
  ⟨i,i+1,xs,rfl,by omega,by omega,by rw[f0,aot];omega,rfl,f0.symm,rfl,s,ah.refl _ _,rfl⟩ ?_
 clear fY ik V9 f0 hi h0
 rintro m env H2 ⟨i,j,ys,rfl,hj,JE,tR,hyl,hyt,Wa,s2,e2,rfl⟩
 obtain⟨_,lb,c2,fE,q2,Io,RE,Ub⟩:=id s2
 injection fE with _ _ fE
 subst fE
 rw[anD]at RE Ub
 refine vs ?_
 refine am.dec (fun aR=>?_) (fun aR=>?_)<;>refine vs ?_
 ·have jk:j<xs.length:=by omega
  obtain⟨x,hx⟩:∃x,xs[j]? =some x:=⟨_,anx jk⟩
  have rj:ys[j]? =some x:=by
   have h1:(ys.drop j)[0]? =(xs.drop j)[0]? :=by rw[Wa]
   rwa[aoc,aoc,Nat.add_zero,hx]at h1
  have bM:lb[j]? =some (i64 x):=s2.get q2 (by rw[anT,rj];rfl)
  have tk:xs.take (j+1)=xs.take j++[x]:=by rw[aoi,hx];rfl
  have dj:∀zs:List Int,zs.length=xs.length→(∀k,j<k→zs[k]? =ys[k]?)→zs.drop (j+1)=xs.drop (j+1):=fun zs hz hk=>by
   apply aoj
   intro k
   have h1:(ys.drop j)[k+1]? =(xs.drop j)[k+1]? :=by rw[Wa]
   rw[aoc,aoc]at h1 ⊢
   rw[hk _ (by omega),show j+1+k=j+(k+1) by omega]
   exact h1
  refine⟨⟨by omega,by omega⟩,?_⟩
  refine v5 (ae q2) anB anD Int.toNat_natCast bM ?_
  refine⟨FT,?_⟩
  refine ai.mono (by simpa using hf H2 e2 x) ?_
  rintro _ H3 ⟨rfl,e⟩
  obtain rfl:=e.symm
  refine vs ?_
  cases hq:q x
  ·refine vs ?_
   refine⟨⟨by omega,by omega⟩,?_⟩
   refine v4 q2 anB anD Int.toNat_natCast ?_
   refine⟨by omega,?_⟩
   have s3:=s2.ww q2 i (i64 x)
   have e3:ah (fun z=>some b=some z) H2 (H2.wr b (lb.set i (i64 x))):=(ah.refl (fun z=>some b=some z) _).wr (fun _=>rfl) _
   refine vs ?_
   rw[wrap64 (n:=(i:Int)+1) (by omega) (by omega),wrap64 (n:=(j:Int)+1) (by omega) (by omega)]
   have ff:(xs.take (j+1)).filter (fun x=> !q x)=(xs.take j).filter (fun x=> !q x)++[x]:=by
    rw[tk,apE]
    simp[hq]
   refine⟨xs.length - (j+1),by omega,i+1,j+1,ys.set i x,rfl,by omega,by omega,by rw[ff,anL,←tR];rfl,by rw[anC];exact hyl,?_,dj _ (by rw[anC];exact hyl) (fun k hk=>by rw[anH (by omega)]),?_,e2.trans e3,rfl⟩
   ·rw[ff,←hyt,aoi,anI (by omega),List.take_set_of_le (by omega)]
    rfl
   ·rw[aoo];exact s3
  ·refine vs ?_
   rw[wrap64 (n:=(j:Int)+1) (by omega) (by omega)]
   have ff:(xs.take (j+1)).filter (fun x=> !q x)=(xs.take j).filter (fun x=> !q x):=by
    rw[tk,apE]
    simp[hq]
   exact⟨xs.length - (j+1),by omega,i,j+1,ys,rfl,by omega,by omega,by rw[ff];exact tR,hyl,by rw[ff];exact hyt,dj ys hyl (fun k _=>rfl),s2,e2,rfl⟩
 ·obtain rfl:j=xs.length:=by omega
  rw[aod]at hyt tR
  refine⟨⟨by omega,by omega,by omega,by omega⟩,?_⟩
  refine vs ?_
  have hic:¬ (c:Int)=(i:Int):=by omega
  have hlz:(cN [Value.int .i64 0] (xs.length - i)).length=xs.length - i:=by rw[Mq];simp
  rw[if_neg hic]
  refine .inr ⟨by simp only[Int.toNat_natCast];omega,b,i,lb,?_,by rw[q2];rfl,?_,?_,?_⟩
  ·simp[Addr.add]
   exact fun h=>h.symm
  ·rw[Int.toNat_natCast,Int.toNat_natCast,Mq]
   exact CH _
  ·rw[Int.toNat_natCast,Int.toNat_natCast]
   show i+(xs.length - i)*1≤lb.length
   omega
  ·rw[Int.toNat_natCast,Int.toNat_natCast]
   have e3:ah (fun z=>some b=some z) H2 (H2.wr b (bk lb i (cN [Value.int .i64 0] (xs.length - i)))):=(ah.refl (fun z=>some b=some z) _).wr (fun _=>rfl) _
   have q3:(H2.wr b (bk lb i (cN [Value.int .i64 0] (xs.length - i)))).own b=some (bk lb i (cN [Value.int .i64 0] (xs.length - i))):=aj q2
   refine vs ?_
   refine⟨⟨by omega,by omega,by omega,by omega⟩,?_⟩
   have rA:¬ (c:Int)=((0:Nat):Int):=by omega
   refine vs ?_
   rw[if_neg rA]
   rw[←hyt]
   refine⟨⟨by simp,bk lb i (cN [Value.int .i64 0] (xs.length - i)),c,?_,q3,?_,?_,?_⟩,e2.trans e3⟩
   ·have h1:(ys.take i).length=i:=by rw[aot];omega
    rw[h1]
    simp[NQ,Addr.add]
   ·rw[aot];omega
   ·rw[nl];omega
   ·rw[anD,aot,apq (by omega),Hg _ _ _ (by rw[hlz];omega),List.map_take,←Ub,apx,apq (by omega)]
section
variable {H H' : Hp} {B : UQ} {A A' : Ar} {T : Nat → Prop} {x : Int}
theorem Ar.CP{A A':Ar}{x:Int}(h:A.pick=some (x,A'))(ok:Bm A):(0≤x∧x<A.g.length)∧¬A.live x∧x∉A'.wt∧x<A'.nx∧A'.g=A.g∧A'.ct=A.ct∧A'.mo=A.mo:=by
 have KG:=ok.nx
 unfold Ar.pick at h
 split at h
 ·rename_i aS
  injection h with h
  injection h with h1 h2
  subst h1 h2
  have hw:A.wt=A.wt.dropLast++[A.wt.getLastD 0]:=by
   conv=>lhs;rw[←List.dropLast_concat_getLast aS]
   rw[apb,List.getLast?_eq_some_getLast aS]
   rfl
  have hm:A.wt.getLastD 0∈A.wt:=by rw[hw];simp
  have h5:=ok.wl _ hm
  refine⟨by omega,h5.1,fun hd=>?_,h5.2.1,rfl,rfl,rfl⟩
  have jd:=ok.wd
  rw[hw,aon]at jd
  exact jd.2.2 _ hd _ (by simp) rfl
 ·split at h
  ·cases h
  ·rename_i h1 h2
   injection h with h
   injection h with h3 h4
   subst h3 h4
   refine⟨by omega,ok.fr _ (apF _),fun hm=>?_,by simp only;omega,rfl,rfl,rfl⟩
   have:=ok.wl _ hm
   omega
theorem Ar.qF{A A':Ar}{x y:Int}{v:Nat}{b:Bool}(hx:0≤x∧x<A.g.length)(h:A'.g=A.g.set x.toNat (v,b))(hy:0≤y):A'.live y↔if y=x then b=true else A.live y:=by
 unfold Ar.live
 rw[h]
 by_cases e:y=x
 ·rw[if_pos e,e,anI (by omega)]
  simp[hx.1]
 ·rw[if_neg e,anH (by omega)]
theorem Ar.Py{A A':Ar}{x y:Int}{v:Nat}{b:Bool}(hx:0≤x∧x<A.g.length)(h:A'.g=A.g.set x.toNat (v,b))(hy:0≤y):A'.cf y=if y=x then v else A.cf y:=by
 unfold Ar.cf
 rw[h,anE,anE]
 by_cases e:y=x
 ·rw[if_pos e,e,anI (by omega)];rfl
 ·rw[if_neg e,anH (by omega)]
theorem Bm.out{A A':Ar}{x:Int}(ok:Bm A')(hg:A'.g=A.g)(hx:0≤x∧x<A'.g.length)(hl:¬A'.live x)(hw:x∉A'.wt)(hn:x<A'.nx):Bm (A'.out x):=by
 obtain⟨b,hb,Ir⟩:=Ar.get hx
 have Xc:b=false:=by cases b;rfl;exact absurd (Ir.2 rfl) hl
 refine⟨fun y hy=>?_,ok.wd,fun y hy wC=>?_,?_,?_⟩
 ·obtain⟨h1,h2,h3⟩:=ok.wl y hy
  refine⟨fun h=>?_,h2,h3⟩
  rw[Ar.qF (A:=A') hx rfl h3,if_neg (fun e=>hw (by rw[←e];exact hy))]at h
  exact h1 h
 ·have hy0:=wC.1
  have Af:(A'.nx:Int)≤y:=hy
  rw[Ar.qF (A:=A') hx rfl hy0,if_neg (by omega)]at wC
  exact ok.fr y Af wC
 ·have:=count_set hb (A'.cf x+1) true
  rw[Xc]at this
  have h2:=ok.ct
  show A'.ct+1=(((A'.g.set x.toNat (A'.cf x+1,true)).countP (·.2):Nat):Int)
  unfold Ar.aX at h2
  simp at this
  omega
 ·show A'.nx≤(A'.g.set x.toNat _).length
  rw[anC];exact ok.nx
theorem Bm.back{A:Ar}{x:Int}(ok:Bm A)(hl:A.live x):Bm (A.back x):=by
 have hx:=Ar.CN hl
 obtain⟨b,hb,Ir⟩:=Ar.get hx
 have hbt:=Ir.1 hl
 have Ge:x<A.nx:=anX fun h=>ok.fr x (by omega) hl
 have Zi:x∉A.wt:=fun h=>(ok.wl x h).1 hl
 have Zj:¬ (A.back x).live x:=fun h=>by
  rw[Ar.qF (A:=A) hx rfl hx.1,if_pos rfl]at h
  cases h
 have Ej:∀y,0≤y→(A.back x).live y→A.live y:=fun y h0 h=>by
  rw[Ar.qF (A:=A) hx rfl h0]at h
  split at h
  ·cases h
  ·exact h
 refine⟨fun y hy=>?_,?_,fun y hy wC=>ok.fr y hy (Ej y wC.1 wC),?_,?_⟩
 ·have Af:y∈(if A.cf x<A.mo then A.wt++[x]else A.wt):=hy
  have Ls:y∈A.wt∨y=x:=by
   split at Af
   ·rcases anR.1 Af with h|h
    ·exact .inl h
    ·exact .inr (anM.1 h)
   ·exact .inl Af
  rcases Ls with h|h
  ·obtain⟨h1,h2,h3⟩:=ok.wl y h
   exact⟨fun h4=>h1 (Ej y h3 h4),h2,h3⟩
  ·rw[h];exact⟨Zj,Ge,hx.1⟩
 ·show(if A.cf x<A.mo then A.wt++[x]else A.wt).Nodup
  split
  ·rw[aon]
   refine⟨ok.wd,by simp,fun u hu v hv e=>Zi ?_⟩
   rw[anM.1 hv]at e
   rw[←e];exact hu
  ·exact ok.wd
 ·have:=count_set hb (A.cf x) false
  rw[hbt]at this
  have h2:=ok.ct
  show A.ct - 1=(((A.g.set x.toNat (A.cf x,false)).countP (·.2):Nat):Int)
  unfold Ar.aX at h2
  simp at this
  omega
 ·show A.nx≤(A.g.set x.toNat _).length
  rw[anC];exact ok.nx
set_option maxRecDepth 100000 in
theorem FU(m:KF H B A):ai Tryz.prog Aq [ptr B.a] H fun v H'=>ay (
  (A.pick=none∧v= .tuple [i64 0,.bool false].toArray∧H'=H)∨(∃x A',A.pick=some (x,A')∧v= .tuple [i64 x,.bool true].toArray∧KF H' B A'∧ah (fun z=>z=B.a) H H')):=by
 obtain⟨tv,o1,s1⟩:=m.own
 obtain⟨wa,wc,rfl⟩:=Sl.shape s1
 have hwl:=m.wtl.1
 have dD:=m.len
 have KG:=m.ok.nx
 refine ba AR ⟨rfl,?_⟩
 refine v2 jN.eq_1 (ae o1) ?_
 refine am.dec (fun h0=>?_) (fun h0=>?_)
 ·have aS:A.wt≠[]:=fun h=>by rw[h]at h0;simp at h0
  obtain⟨k,hk⟩:∃k,A.wt.length=k+1:=⟨A.wt.length - 1,by omega⟩
  obtain⟨x,hx⟩:∃x,A.wt[k]? =some x:=⟨_,anx (by omega)⟩
  have nK:A.wt.getLastD 0=x:=by
   rw[apb,List.getLast?_eq_getElem?,hk,Nat.add_sub_cancel,hx]
   rfl
  have hdl:A.wt.dropLast=A.wt.take k:=by rw[apa,hk,Nat.add_sub_cancel]
  have Wb:A.pick=some (x,{A with wt:=A.wt.take k}):=by
   unfold Ar.pick
   rw[if_pos aS,nK,hdl]
  obtain⟨b,lb,c,Oi,RF,qb,qk,_,_,_⟩:∃b lb c,Value.slice wa A.wt.length wc= .slice (some ⟨b,0,none⟩) A.wt.length c∧B.fo=some b∧H.own b=some lb∧lb[k]? =some (i64 x)∧k<A.wt.length∧A.wt.length≤lb.length∧True:=by
   obtain⟨h1,b,lb,rfl,q2,q3⟩:=Sl.Bl s1 hx
   have vF:=s1
   revert vF
   cases RF:B.fo with
   |none=>intro vF;have:=vF.2.2;injection this with h1;cases h1
   |some b'=>
    intro vF
    obtain⟨_,UJ,c',hs,ho,hc,vf,_⟩:=vF
    injection hs with fE NO Io
    injection fE with fE
    injection fE with fE
    subst fE Io
    rw[q2]at ho
    injection ho with ho
    subst ho
    exact⟨b,lb,wc,rfl,rfl,q2,q3,h1,by omega,trivial⟩
  injection Oi with fE NO Io
  subst fE Io
  obtain⟨_,UJ,c',hs,ho,hc,vf,ht⟩:(A.wt.map i64).length=A.wt.length*1∧∃l c',Value.slice (some ⟨b,0,none⟩) A.wt.length wc= .slice (some ⟨b,0,none⟩) A.wt.length c'∧H.own b=some l∧A.wt.length≤c'∧c'*1≤l.length∧l.take (A.wt.length*1)=A.wt.map i64:=by
   have:=s1
   rw[RF]at this
   exact this
  injection hs with _ _ hs
  subst hs
  rw[qb]at ho
  injection ho with ho
  subst ho
  rw[anD]at vf ht
  refine v1 (ae o1) ?_
  rw[wrap64 (n:=(A.wt.length:Int) - 1) (by omega) (by omega)]
  refine⟨⟨by omega,by omega⟩,?_⟩
  rw[show((A.wt.length:Int) - 1).toNat=k by omega]
  refine v5 (ae qb) anB anD qk (ae o1) ?_
  rw[wrap64 (n:=(A.wt.length:Int) - 1) (by omega) (by omega)]
  refine⟨⟨by omega,by omega,by omega,by omega⟩,?_⟩
  refine v1 o1 ?_
  rw[if_neg (show¬ (wc:Int)=((0:Nat):Int) by omega)]
  have e1:∀l,ah (fun z=>z=B.a) H (H.wr B.a l):=fun l=>(ah.refl (fun z=>z=B.a) _).wr (fun _=>rfl) _
  have Mr:(A.wt.take k).length=k:=by rw[aot];omega
  refine .inr ⟨x,_,Wb,rfl,⟨⟨_,aj o1,?_⟩,(e1 _).own m.sl (Ne.symm m.ne.1),m.ne,m.len,⟨fun y hy=>m.ok.wl y (apM hy),m.ok.wd.sublist (List.take_sublist _ _),m.ok.fr,m.ok.ct,m.ok.nx⟩,m.gs,m.mo⟩,e1 _⟩
  have hb:b≠B.a:=fun e=>m.ne.2.1 (by rw[RF,e])
  refine⟨by simp,?_⟩
  rw[RF]
  refine⟨lb,wc,?_,(e1 _).own qb hb,by rw[Mr];omega,by rw[anD];exact vf,?_⟩
  ·rw[Mr,show((A.wt.length:Int) - 1).toNat - ((0:Nat):Int).toNat=k by omega]
   simp[Addr.add]
  ·rw[anD,List.map_take,←ht,apx]
   congr 1
   rw[Mr]
   omega
 ·refine v1 (ae o1) ?_
  have he:A.wt=[]:=aoe.1 (by omega)
  refine am.dec (fun h1=>?_) (fun h1=>?_)
  ·refine vs ?_
   refine .inl ⟨?_,rfl,rfl⟩
   unfold Ar.pick
   rw[if_neg (by simp[he]),if_pos (by omega)]
  ·refine v2 (ae o1) o1 ?_
   rw[wrap64 (n:=(A.nx:Int)+1) (by omega) (by omega)]
   have e1:∀l,ah (fun z=>z=B.a) H (H.wr B.a l):=fun l=>(ah.refl (fun z=>z=B.a) _).wr (fun _=>rfl) _
   have q1:∀l,(H.wr B.a l).own B.a=some l:=fun l=>aj o1
   simp(disch:=(first|omega| (simp only[Zs]<;>omega)|fail)) only[go_sem, ↓reduceIte,Zv,ae (q1 _)]
   rw[wrap64 (n:=(A.nx:Int)+1 - 1) (by omega) (by omega)]
   have Wb:A.pick=some ((A.nx:Int),{A with nx:=A.nx+1}):=by
    unfold Ar.pick
    rw[if_neg (by simp[he]),if_neg (by omega)]
   rw[show(A.nx:Int)+1 - 1=(A.nx:Int) by omega]
   refine .inr ⟨_,_,Wb,rfl,⟨⟨.slice wa A.wt.length wc,q1 _,s1.ext (e1 _) (fun b hb e=>m.ne.2.1 (by rw[hb,e]))⟩,(e1 _).own m.sl (Ne.symm m.ne.1),m.ne,m.len,⟨fun y hy=>by have:=m.ok.wl y hy;exact⟨this.1,by simp only;omega,this.2.2⟩,m.ok.wd,fun y hy=>m.ok.fr y (by simp only at hy;omega),m.ok.ct,by simp only;omega⟩,m.gs,m.mo⟩,e1 _⟩
theorem Ar.Pz(A:Ar):A.aX≤A.g.length:=List.countP_le_length
set_option maxRecDepth 100000 in
set_option maxHeartbeats 1000000 in
theorem FV(m:KF H B A)(Xd:∀x:Int,0≤x→x<A.g.length→A.cf x<4294967295):ai Tryz.prog Ao [ptr B.a] H fun v H'=>ay (
  (A.pick=none∧v= .tuple [jd 0 0,i64 32].toArray∧KF H' B A∧aq H H')∨(∃x A',A.pick=some (x,A')∧v= .tuple [jd x (A.cf x+1),i64 0].toArray∧KF H' B (A'.out x)∧ah B.S H H')):=by
 have fH:=m.slt
 refine ba AO ⟨rfl,?_⟩
 refine v1 jL.eq_1 ?_
 have f0:aq H (H.new 114 [Value.int .i64 0,Value.int .u32 0]):=(ah.refl _ _).new _ _
 have b0:(H.new 114 [Value.int .i64 0,Value.int .u32 0]).own H.size=some [Value.int .i64 0,Value.int .u32 0]:=aE _ _ _
 have m0:=m.ext f0 (fun _ _ h=>h)
 generalize H.new 114 [Value.int .i64 0,Value.int .u32 0]=H0 at*
 have FW:∀z,B.S z→z≠H.size:=fun z hz=>by have:=fH z hz;omega
 refine(FU m0).mono ?_
 rintro _ H1 (⟨hp,rfl,e⟩| ⟨x,A',hp,rfl,m1,e1⟩)
 ·obtain rfl:=e.symm
  refine v1 b0 ?_
  have e1:ah (fun z=>z=H.size) H0 (H0.wr H.size [Value.int .i64 0,Value.int .u32 0]):=(ah.refl (fun z=>z=H.size) _).wr (fun _=>rfl) _
  have b1:(H0.wr H.size [Value.int .i64 0,Value.int .u32 0]).own H.size=some [Value.int .i64 0,Value.int .u32 0]:=aj b0
  refine v1 (ae b1) ?_
  exact .inl ⟨hp,rfl,m0.ext e1 (fun z hz e=>FW z hz e),f0.then e1 (fun z hz=>by omega)⟩
 obtain⟨xJ,rG,Zi,Ge,hg,hct,hmo⟩:=Ar.CP hp m.ok
 have b1:=e1.own b0 (fun e=>FW B.a (.inl rfl) e.symm)
 obtain⟨Eg,o1,s1⟩:=m1.own
 have dD:=m1.len
 have aaY:0≤x∧x<A'.g.length:=by rw[hg];exact xJ
 obtain⟨b,hb,Ir⟩:=Ar.get (A:=A') aaY
 have Xe:A'.cf x=A.cf x:=by unfold Ar.cf;rw[hg]
 have hgb:=Xd x xJ.1 xJ.2
 obtain⟨c1,c2⟩:=xG hb
 obtain⟨w1,_⟩:=Eh hb
 have hl:=tA A'.g
 refine v1 (ae o1) ?_
 refine⟨⟨by omega,by omega⟩,?_⟩
 refine v5 (ae m1.sl) m1.sl anB Nat.add_zero c1 ?_
 refine⟨by omega,?_⟩
 rw[UR (n:=(A'.cf x:Int)+1) (by omega) (by omega),show(A'.cf x:Int)+1=((A'.cf x+1:Nat):Int) by omega]
 refine v1 w1 ?_
 have e2:ah (fun z=>z=B.sb) H1 (H1.wr B.sb (dC (A'.g.set x.toNat (A'.cf x+1,b)))):=(ah.refl (fun z=>z=B.sb) _).wr (fun _=>rfl) _
 have q2:(H1.wr B.sb (dC (A'.g.set x.toNat (A'.cf x+1,b)))).own B.sb=some (dC (A'.g.set x.toNat (A'.cf x+1,b))):=aj m1.sl
 generalize H1.wr B.sb (dC (A'.g.set x.toNat (A'.cf x+1,b)))=H2 at*
 have G3:(A'.g.set x.toNat (A'.cf x+1,b))[x.toNat]? =some (A'.cf x+1,b):=anI (by omega)
 obtain⟨d1,_⟩:=xG G3
 have w2:=(Eh G3).2 true
 rw[List.set_set]at w2
 have wC:=tA (A'.g.set x.toNat (A'.cf x+1,b))
 rw[anC]at wC
 refine v3 q2 anB Nat.add_zero ?_
 refine⟨by omega,?_⟩
 refine v1 w2 ?_
 have e3:ah (fun z=>z=B.sb) H2 (H2.wr B.sb (dC (A'.g.set x.toNat (A'.cf x+1,true)))):=(ah.refl (fun z=>z=B.sb) _).wr (fun _=>rfl) _
 have q3:(H2.wr B.sb (dC (A'.g.set x.toNat (A'.cf x+1,true)))).own B.sb=some (dC (A'.g.set x.toNat (A'.cf x+1,true))):=aj q2
 generalize H2.wr B.sb (dC (A'.g.set x.toNat (A'.cf x+1,true)))=H3 at*
 have zU:=e2.trans e3
 have o3:=zU.own o1 m.ne.1
 have afh:=m1.ok.ct
 have aaZ:=Ar.Pz A'
 refine v2 (ae o3) o3 ?_
 rw[wrap64 (n:=A'.ct+1) (by omega) (by omega)]
 have e4:∀l,ah (fun z=>z=B.a) H3 (H3.wr B.a l):=fun l=>(ah.refl (fun z=>z=B.a) _).wr (fun _=>rfl) _
 have q4:∀l,(H3.wr B.a l).own B.a=some l:=fun l=>aj o3
 have RG:=(e4 [.slice (some ⟨B.sb,0,none⟩) A'.g.length A'.g.length,Eg,i64 A'.nx,i64 (A'.ct+1),.int .u32 (A'.mo:Int)]).own q3 (Ne.symm m.ne.1)
 have b3:=(e4 [.slice (some ⟨B.sb,0,none⟩) A'.g.length A'.g.length,Eg,i64 A'.nx,i64 (A'.ct+1),.int .u32 (A'.mo:Int)]).own (zU.own b1 (fun e=>FW B.sb (.inr (.inl rfl)) e.symm)) (fun e=>FW B.a (.inl rfl) e.symm)
 have UL:(A'.g.set x.toNat (A'.cf x+1,true))[x.toNat]? =some (A'.cf x+1,true):=anI (by omega)
 obtain⟨d3,_⟩:=xG UL
 have s4:=(s1.ext zU (fun b hb e=>m.ne.2.2 (by rw[hb,e]))).ext (e4 [.slice (some ⟨B.sb,0,none⟩) A'.g.length A'.g.length,Eg,i64 A'.nx,i64 (A'.ct+1),.int .u32 (A'.mo:Int)]) (fun b hb e=>m.ne.2.1 (by rw[hb,e]))
 have m4:KF (H3.wr B.a [.slice (some ⟨B.sb,0,none⟩) A'.g.length A'.g.length,Eg,i64 A'.nx,i64 (A'.ct+1),.int .u32 (A'.mo:Int)]) B (A'.out x):=by
  refine⟨⟨Eg,?_,s4⟩,RG,m.ne,?_,m1.ok.out hg aaY (fun h=>rG (by unfold Ar.live at h ⊢;rw[hg]at h;exact h)) Zi Ge,fun y hy=>?_,m1.mo⟩
  ·show _=some [.slice (some ⟨B.sb,0,none⟩) (A'.g.set x.toNat (A'.cf x+1,true)).length (A'.g.set x.toNat (A'.cf x+1,true)).length,Eg,i64 A'.nx,i64 (A'.ct+1),.int .u32 (A'.mo:Int)]
   rw[anC]
   exact q4 _
  ·show(A'.g.set x.toNat (A'.cf x+1,true)).length≤_
   rw[anC];exact dD
  ·rcases ao0 hy with h|h
   ·exact m1.gs y h
   ·rw[h];simp only;omega
 have e4':=e4 [.slice (some ⟨B.sb,0,none⟩) A'.g.length A'.g.length,Eg,i64 A'.nx,i64 (A'.ct+1),.int .u32 (A'.mo:Int)]
 generalize H3.wr B.a [.slice (some ⟨B.sb,0,none⟩) A'.g.length A'.g.length,Eg,i64 A'.nx,i64 (A'.ct+1),.int .u32 (A'.mo:Int)]=H4 at*
 have zE:ah B.S H H4:=((f0.mono fun _ _ h=>h.elim).trans (e1.mono fun z _ h=>.inl h)).trans ((zU.mono fun z _ h=>.inr (.inl h)).trans (e4'.mono fun z _ h=>.inl h))
 refine v5 (ae RG) anB Nat.add_zero d3 b3 ?_
 have e5:ah (fun z=>z=H.size) H4 (H4.wr H.size [Value.int .i64 x,Value.int .u32 ((A'.cf x+1:Nat):Int)]):=(ah.refl (fun z=>z=H.size) _).wr (fun _=>rfl) _
 have b5:(H4.wr H.size [Value.int .i64 x,Value.int .u32 ((A'.cf x+1:Nat):Int)]).own H.size=some [Value.int .i64 x,Value.int .u32 ((A'.cf x+1:Nat):Int)]:=aj b3
 refine v1 (ae b5) ?_
 refine .inr ⟨x,A',hp,by rw[Xe];rfl,m4.ext e5 (fun z hz e=>FW z hz e),⟨aok zE.size e5.size,fun z hz hn=>?_⟩⟩
 rw[e5.aP z (an3 hz zE.size) (fun e=>by omega),zE.aP z hz hn]
set_option maxRecDepth 100000 in
set_option maxHeartbeats 1000000 in
theorem FX(m:KF H B A){x:Int}(hx:A.live x):ai Tryz.prog Al [ptr B.a,jd x (A.cf x)] H fun v H'=>ay (v=i64 0∧∃SM,KF H' ⟨B.a,B.sb,SM⟩ (A.back x)∧ah B.S H H'∧∀z,SM=some z→B.fo=some z∨H.size≤z):=by
 have fH:=m.slt
 have xJ:=Ar.CN hx
 obtain⟨b,hb,Ir⟩:=Ar.get (A:=A) xJ
 obtain rfl:=Ir.1 hx
 have hl:=tA A.g
 have w1:=(Eh hb).2 false
 have dD:=m.len
 have afh:=m.ok.ct
 have aaZ:=Ar.Pz A
 refine ba AI ⟨rfl,?_⟩
 refine v1 qi.eq_1 ?_
 have f0:aq H (H.new 114 [i64 x,.int .u32 (A.cf x:Int)]):=(ah.refl _ _).new _ _
 have b0:(H.new 114 [i64 x,.int .u32 (A.cf x:Int)]).own H.size=some [i64 x,.int .u32 (A.cf x:Int)]:=aE _ _ _
 have m0:=m.ext f0 (fun _ _ h=>h)
 generalize H.new 114 [i64 x,.int .u32 (A.cf x:Int)]=H0 at*
 have FW:∀z,B.S z→z≠H.size:=fun z hz=>by have:=fH z hz;omega
 refine(vz m0 x (A.cf x)).mono ?_
 rintro _ H1 ⟨rfl,f1⟩
 rw[anQ ⟨hx,rfl⟩]
 have m1:=m0.ext f1 (fun _ _ h=>h)
 have b1:=f1.own b0 (fun h=>h)
 obtain⟨Eg,o1,s1⟩:=m1.own
 refine v2 (ae o1) (ae b1) ?_
 refine⟨⟨by omega,by omega⟩,?_⟩
 refine v2 m1.sl anB ?_
 refine⟨by omega,?_⟩
 refine v1 w1 ?_
 have e2:ah (fun z=>z=B.sb) H1 (H1.wr B.sb (dC (A.g.set x.toNat (A.cf x,false)))):=(ah.refl (fun z=>z=B.sb) _).wr (fun _=>rfl) _
 have q2:(H1.wr B.sb (dC (A.g.set x.toNat (A.cf x,false)))).own B.sb=some (dC (A.g.set x.toNat (A.cf x,false))):=aj m1.sl
 generalize H1.wr B.sb (dC (A.g.set x.toNat (A.cf x,false)))=H2 at*
 have o2:=e2.own o1 m.ne.1
 have b2:=e2.own b1 (fun e=>FW B.sb (.inr (.inl rfl)) e.symm)
 refine v2 (ae o2) o2 ?_
 rw[wrap64 (n:=A.ct - 1) (by omega) (by omega)]
 have e3:∀l,ah (fun z=>z=B.a) H2 (H2.wr B.a l):=fun l=>(ah.refl (fun z=>z=B.a) _).wr (fun _=>rfl) _
 have q3:∀l,(H2.wr B.a l).own B.a=some l:=fun l=>aj o2
 have b3:=fun l=>(e3 l).own b2 (fun e=>FW B.a (.inl rfl) e.symm)
 have q2':=fun l=>(e3 l).own q2 (Ne.symm m.ne.1)
 have s3:=fun l=>(s1.ext e2 (fun b hb e=>m.ne.2.2 (by rw[hb,e]))).ext (e3 l) (fun b hb e=>m.ne.2.1 (by rw[hb,e]))
 obtain⟨l3,Ua⟩:∃l3,l3=[.slice (some ⟨B.sb,0,none⟩) A.g.length A.g.length,Eg,i64 A.nx,i64 (A.ct - 1),.int .u32 (A.mo:Int)]:=⟨_,rfl⟩
 have RG:=q3 l3
 have Oj:=b3 l3
 have US:=q2' l3
 have s3':=s3 l3
 have Zk:=e3 l3
 rw[Ua]at RG Oj US s3' Zk
 generalize H2.wr B.a [.slice (some ⟨B.sb,0,none⟩) A.g.length A.g.length,Eg,i64 A.nx,i64 (A.ct - 1),.int .u32 (A.mo:Int)]=H3 at*
 have zU:ah B.S H H3:=((f0.mono fun _ _ h=>h.elim).trans (f1.mono fun _ _ h=>h.elim)).trans ((e2.mono fun z _ h=>.inr (.inl h)).trans (Zk.mono fun z _ h=>.inl h))
 have vh:=m.ok.back hx
 have hgs:∀y∈(A.back x).g,y.1≤4294967295:=fun y hy=>by
  rcases ao0 hy with h|h
  ·exact m.gs y h
  ·rw[h]
   exact m.gs (A.cf x,true) (anG hb)
 have bv:(A.back x).g.length=A.g.length:=anC ..
 refine v2 (ae Oj) (ae RG) ?_
 refine am.dec (fun hm=>?_) (fun hm=>?_)
 rotate_left
 ·refine vs ?_
  have Zl:(A.back x).wt=A.wt:=by show(if A.cf x<A.mo then _ else _)=_;rw[if_neg (by omega)]
  refine⟨rfl,B.fo,⟨⟨Eg,by rw[bv];exact RG,by rw[Zl];exact s3'⟩,US,m.ne,by rw[bv];exact dD,vh,hgs,m.mo⟩,zU,fun z hz=>.inl hz⟩
 have Zl:(A.back x).wt=A.wt++[x]:=by show(if A.cf x<A.mo then _ else _)=_;rw[if_pos (by omega)]
 have hwl:=m.wtl.1
 obtain⟨ta,tc,rfl⟩:=Sl.shape s3'
 refine vs ?_
 refine rq.intro (fun H'=>True) trivial ?_
 refine vs ?_
 have WO:H.size<H3.size:=aG Oj
 have has:B.a<H3.size:=aG RG
 have fin:∀ (K:Value→Hp→Prop),(∀w' H4 dv,Sl H4 1 w' (A.wt++[x]).length ((A.wt++[x]).map i64) dv→(dv=B.fo∨∃z,dv=some z∧H3.size≤z∧z<H4.size)→ah (fun z=>B.fo=some z) H3 H4→K w' H4)→
   im 3 1 8 [i64 0] (.slice ta A.wt.length tc) (.slice (some ⟨H3.size,0,none⟩) 1 1) (H3.new 3 [i64 x]) K:=fun K hK=>by
  exact SL s3' x (by omega) fun w' H' dv h1 h2 h3=>hK w' H' dv h2 h1 h3
 refine He.intro ?C ?D
 case' C=>
  refine v2 (ae RG) (ae Oj) ?_
 case' D=>
  refine v2 (ae RG) (ae Oj) ?_
  refine He.intro ?E ?F
  case' E=>
   refine v2 (ae RG) (ae Oj) ?_
  case' F=>
   refine v2 (ae RG) (ae Oj) ?_
 all_goals
  refine fin _ fun w' H4 dv s4 jv e4=>?_
  obtain⟨wa,wc,rfl⟩:=Sl.shape s4
  have o4:=e4.own RG (fun e=>m.ne.2.1 e)
  have q4:=e4.own US (fun e=>m.ne.2.2 e)
  refine v1 o4 ?_
  have e5:∀l,ah (fun z=>z=B.a) H4 (H4.wr B.a l):=fun l=>(ah.refl (fun z=>z=B.a) _).wr (fun _=>rfl) _
  have ajz:=zU.size
  refine⟨rfl,dv,⟨⟨_,by rw[bv];exact aj o4,?_⟩,(e5 _).own q4 (Ne.symm m.ne.1),⟨m.ne.1,fun h=>?_,fun h=>?_⟩,by rw[bv];exact dD,vh,hgs,m.mo⟩,?_,fun z hz=>?_⟩
  ·rw[Zl]
   refine s4.ext (e5 _) (fun b hb e=>?_)
   rcases jv with h| ⟨y,h,h2,_⟩
   ·exact m.ne.2.1 (by rw[←h,hb,e])
   ·rw[h]at hb;injection hb with hb;omega
  ·rcases jv with h2| ⟨y,h2,h3,_⟩
   ·exact m.ne.2.1 (by rw[←h2];exact h)
   ·rw[h2]at h;injection h with h;simp only at h;omega
  ·rcases jv with h2| ⟨y,h2,h3,_⟩
   ·exact m.ne.2.2 (by rw[←h2];exact h)
   ·have:=aG US
    rw[h2]at h;injection h with h;simp only at h;omega
  ·exact(zU.trans (e4.mono fun z _ h=>.inr (.inr h))).trans ((e5 _).mono fun z _ h=>.inl h)
  ·rcases jv with h2| ⟨y,h2,h3,_⟩
   ·exact .inl (by rw[←h2];exact hz)
   ·rw[h2]at hz;injection hz with hz;exact .inr (by omega)
end
end Go.Proofs.YtjlnnljohemifaaGreat

namespace Go.Proofs.YtjlnnljohemifaaGreat
open Go Go.Vc
def Nw.oR(w:Nw)(g x:Int):Prop:=w.has g∧(0≤x∧x<w.cs.length)∧¬cZ w.cs x
def Nw.de(w:Nw)(x k s:Int):Prop:=cZ w.cs x∧∀y,w.cs[x.toNat]? =some y→¬gW y.2.1 y.2.2 k s
def cD(I:Hp→(Nat→Prop)→Nw→Prop)(S:Nat→Prop)(H H':Hp)(w':Nw):Prop:=
 ∃S':Nat→Prop,I H' S' w'∧ah S H H'∧∀z,S' z→S z∨H.size≤z
theorem cD.same{I:Hp→(Nat→Prop)→Nw→Prop}{S:Nat→Prop}{H H':Hp}{w':Nw}(h:I H' S w')(e:ah S H H'):cD I S H H' w':=⟨S,h,e,fun z hz=>.inl hz⟩
structure zW(ov:Value)(I:Hp→(Nat→Prop)→Nw→Prop):Prop where
 slt:∀ {H S w},I H S w→∀z,S z→z<H.size
 ext:∀ {H H' S w} {T:Nat→Prop},I H S w→ah T H H'→(∀z,S z→¬T z)→I H' S w
 cells:∀ {H S w},I H S w→∃c C,CQ H c C w
 has:∀ {H S w} (g:Int),I H S w→jm Tryz.prog ov "Has" [i64 g] H fun v H'=>v= .bool (decide (w.has g))∧H=H'
 make:∀ {H S w},I H S w→jm Tryz.prog ov "Make" [] H fun v H'=>
  (w.hs.length=65537∧v=i64 0∧cD I S H H' w)∨(w.hs.length≠65537∧v=i64 w.hs.length∧cD I S H H' w.make)
 insert:∀ {H S w} (g x k s:Int),I H S w→jm Tryz.prog ov "Insert" [i64 g,i64 x,wq k s] H fun v H'=>
  (¬w.oR g x∧v= .bool false∧cD I S H H' w)∨(w.oR g x∧v= .bool true∧cD I S H H' (w.put x (g,k,s)))
 min:∀ {H S w} (g:Int),I H S w→jm Tryz.prog ov "Min" [i64 g] H fun v H'=>
  (w.len g=0∧v= .tuple [i64 0,.bool false].toArray∧cD I S H H' w)∨(∃x,w.first g x∧v= .tuple [i64 x,.bool true].toArray∧cD I S H H' w)
 extract:∀ {H S w} (g:Int),I H S w→jm Tryz.prog ov "Extract" [i64 g] H fun v H'=>
  (w.len g=0∧v= .tuple [i64 0,.bool false].toArray∧cD I S H H' w)∨(∃x,w.first g x∧v= .tuple [i64 x,.bool true].toArray∧cD I S H H' (w.put x (0,0,0)))
 qG:∀ {H S w} (x k s:Int),I H S w→jm Tryz.prog ov "Decrease" [i64 x,wq k s] H fun v H'=>
  (¬w.de x k s∧v= .bool false∧cD I S H H' w)∨(w.de x k s∧v= .bool true∧∃y,w.cs[x.toNat]? =some y∧cD I S H H' (w.put x (y.1,k,s)))
 entry:∀ {H S w} (x:Int),I H S w→jm Tryz.prog ov "Entry" [i64 x] H fun v H'=>I H' S w∧aq H H'∧
  ((¬cZ w.cs x∧v= .tuple [wq 0 0,.bool false].toArray)∨(cZ w.cs x∧∃y,w.cs[x.toNat]? =some y∧v= .tuple [wq y.2.1 y.2.2,.bool true].toArray))
structure Xf(w:Nw)(A:Ar):Prop where
 len:w.cs.length=A.g.length
 live:∀x,cZ w.cs x↔A.live x
def Gh(H:Hp)(s:Nat)(S:Nat→Prop)(w:Nw)(A:Ar)(q:Int):Prop:=∃ (t:TypeId) (vv:Value) (I:Hp→(Nat→Prop)→Nw→Prop) (Sn:Nat→Prop) (B:UQ) (k d:Int),
 zW (.iface t vv) I∧I H Sn w∧KF H B A∧H.own s=some [i64 k,i64 d,ptr B.a,.iface t vv,u64 q]∧(∀z,Sn z→¬B.S z∧z≠s)∧¬B.S s∧(∀z,S z↔Sn z∨B.S z∨z=s)∧Xf w A
theorem Gh.slt{H:Hp}{s:Nat}{S:Nat→Prop}{w:Nw}{A:Ar}{q:Int}(h:Gh H s S w A q):∀z,S z→z<H.size:=by
 obtain⟨t,vv,I,Sn,B,k,d,n,hi,m,ho,d1,d2,hS,hl⟩:=h
 intro z hz
 rcases(hS z).1 hz with h|h|h
 ·exact n.slt hi z h
 ·exact m.slt z h
 ·rw[h];exact aG ho
theorem Gh.ext{H H':Hp}{s:Nat}{S T:Nat→Prop}{w:Nw}{A:Ar}{q:Int}(h:Gh H s S w A q)(e:ah T H H')(hd:∀z,S z→¬T z):Gh H' s S w A q:=by
 obtain⟨t,vv,I,Sn,B,k,d,n,hi,m,ho,d1,d2,hS,hl⟩:=h
 exact⟨t,vv,I,Sn,B,k,d,n,n.ext hi e (fun z hz=>hd z ((hS z).2 (.inl hz))),m.ext e (fun z hz=>hd z ((hS z).2 (.inr (.inl hz)))),e.own ho (hd _ ((hS _).2 (.inr (.inr rfl)))),d1,d2,hS,hl⟩
theorem Gh.lnk{H:Hp}{s:Nat}{S:Nat→Prop}{w:Nw}{A:Ar}{q:Int}(h:Gh H s S w A q):Xf w A∧Bm A∧A.g.length≤65536:=by
 obtain⟨t,vv,I,Sn,B,k,d,n,hi,m,ho,d1,d2,hS,hl⟩:=h
 exact⟨hl,m.ok,m.len⟩
def QE(s:Nat)(S:Nat→Prop)(H H':Hp)(w':Nw)(A':Ar)(q':Int):Prop:=∃S',Gh H' s S' w' A' q'∧ah S H H'∧∀z,S' z→S z∨H.size≤z
section
variable {H H' : Hp} {s : Nat} {S : Nat → Prop} {w : Nw} {A : Ar} {q : Int}
theorem Np(H:Hp)(T:TypeId)(z l:List Value):aq H ((H.new T z).wr H.size l)∧((H.new T z).wr H.size l).own H.size=some l∧((H.new T z).wr H.size l).size=H.size+1:=by
 have f0:aq H (H.new T z):=(ah.refl _ _).new _ _
 have e1:ah (fun x=>x=H.size) (H.new T z) ((H.new T z).wr H.size l):=(ah.refl (fun x=>x=H.size) _).wr (fun _=>rfl) _
 exact⟨f0.then e1 (fun z hz=>by omega),aj (aE _ _ _),by rw[gh,ar]⟩
theorem RH{H:Hp}{b:Nat}{l0:List Value}(h:H.own b=some l0)(l:List Value):ah (fun x=>x=b) H (H.wr b l)∧(H.wr b l).own b=some l:=⟨(ah.refl (fun x=>x=b) _).wr (fun _=>rfl) _,aj h⟩
theorem FY(h:Gh H s S w A q)(hl:w.hs.length<65537):ai Tryz.prog Ah [ptr s] H fun v H'=>ay (v= .tuple [i64 w.hs.length,i64 0].toArray∧QE s S H H' w.make A q):=by
 obtain⟨t,vv,I,Sn,B,k,d,n,hi,m,ho,d1,d2,hS,Lu⟩:=h
 obtain⟨c,C,cq⟩:=n.cells hi
 have jj:=cq.pos
 refine ba AD ⟨rfl,?_⟩
 refine v2 jE.eq_1 (ae ho) ?_
 refine(n.make hi).mono ?_
 rintro _ H1 (⟨h1,_⟩| ⟨_,rfl,Is,hi',e1,fE⟩)
 ·omega
 refine vs ?_
 refine am.dec (fun hh=>by omega) (fun _=>?_)
 refine vs ?_
 have Gf:=m.slt
 have hos:=aG ho
 refine⟨rfl,fun z=>Is z∨B.S z∨z=s,⟨t,vv,I,Is,B,k,d,n,hi',m.ext e1 (fun z hz h=>(d1 z h).1 hz),e1.own ho (fun h=>(d1 _ h).2 rfl),fun z hz=>?_,d2,fun z=>Iff.rfl,⟨Lu.len,Lu.live⟩⟩,e1.mono fun z _ h=>(hS z).2 (.inl h),fun z hz=>?_⟩
 ·rcases fE z hz with h|h
  ·exact d1 z h
  ·exact⟨fun h2=>by have:=Gf z h2;omega,by omega⟩
 ·rcases hz with h|h
  ·rcases fE z h with h|h
   ·exact .inl ((hS z).2 (.inl h))
   ·exact .inr h
  ·exact .inl ((hS z).2 (.inr h))
theorem Xf.put{w:Nw}{A A':Ar}(l:Xf w A){x:Int}(hx:0≤x∧x<A.g.length){y:Ce}{v:Nat}(hg:A'.g=A.g.set x.toNat (v,decide (0<y.1))):Xf (w.put x y) A':=by
 have G2:0≤x∧x<w.cs.length:=by rw[l.len];exact hx
 refine⟨by rw[hg,anC];simp[Nw.put,l.len],fun z=>?_⟩
 by_cases h0:0≤z
 ·rw[Ar.qF hx hg h0,←bK,eC G2]
  by_cases e:z=x
  ·rw[if_pos e,if_pos e];simp
  ·rw[if_neg e,if_neg e,bK]
   exact l.live z
 ·exact⟨fun h=>absurd h.1 h0,fun h=>absurd h.1 h0⟩
set_option maxRecDepth 100000 in
set_option maxHeartbeats 1000000 in
theorem Hi(h:Gh H s S w A q){g key:Int}(hg:w.has g)(Xd:∀x:Int,0≤x→x<A.g.length→A.cf x<4294967295)(hq:0≤q∧q<18446744073709551615):ai Tryz.prog BX [ptr s,i64 g,i64 key] H fun v H'=>ay (
  (A.pick=none∧v= .tuple [jd 0 0,i64 32].toArray∧QE s S H H' w A q)∨(∃x A',A.pick=some (x,A')∧v= .tuple [jd x (A.cf x+1),i64 0].toArray∧QE s S H H' (w.put x (g,key,q+1)) (A'.out x) (q+1))):=by
 have fH:=h.slt
 obtain⟨t,vv,I,Sn,B,k,d,n,hi,m,ho,d1,d2,hS,Lu⟩:=h
 refine ba Cg ⟨rfl,?_⟩
 refine v1 ln.eq_1 ?_
 have f0:aq H (H.new 114 [Value.int .i64 0,Value.int .u32 0]):=(ah.refl _ _).new _ _
 have b0:(H.new 114 [Value.int .i64 0,Value.int .u32 0]).own H.size=some [Value.int .i64 0,Value.int .u32 0]:=aE _ _ _
 have z0:(H.new 114 [Value.int .i64 0,Value.int .u32 0]).size=H.size+1:=ar _ _ _
 generalize H.new 114 [Value.int .i64 0,Value.int .u32 0]=H0 at*
 have m0:=m.ext f0 (fun _ _ h=>h)
 have FO:=n.ext hi f0 (fun _ _ h=>h)
 have o0:=f0.own ho (fun h=>h)
 have aS:∀z,S z→z≠H.size:=fun z hz=>by have:=fH z hz;omega
 refine v1 (ae o0) ?_
 refine(n.has g FO).mono ?_
 rintro _ _ ⟨rfl,rfl⟩
 rw[anQ hg]
 refine v1 (ae o0) ?_
 refine(FV m0 Xd).mono ?_
 rintro _ H1 (⟨hp,rfl,m1,f1⟩| ⟨x,A',hp,rfl,m1,e1⟩)
 ·have b1:=f1.own b0 (fun h=>h)
  refine vs ?_
  obtain⟨f2,b2,z2⟩:=Np H1 114 [Value.int .i64 0,Value.int .u32 0] [i64 0,Value.int .u32 ((0:Nat):Int)]
  generalize (H1.new 114 [Value.int .i64 0,Value.int .u32 0]).wr H1.size [i64 0,Value.int .u32 ((0:Nat):Int)]=H2 at*
  have b3:=f2.own b1 (fun h=>h)
  refine am.dec (fun hh=>by omega) (fun _=>?_)
  refine v1 b3 ?_
  obtain⟨e4,b4⟩:=RH b3 [Value.int .i64 0,Value.int .u32 0]
  refine v1 (ae b4) ?_
  have hse:ah S H (H2.wr H.size [Value.int .i64 0,Value.int .u32 0]):=by
   have h1:=(f0.trans f1).trans f2
   exact(h1.then e4 (fun z hz=>by omega)).mono fun _ _ h=>h.elim
  refine .inl ⟨hp,rfl,S,⟨t,vv,I,Sn,B,k,d,n,?_,?_,?_,d1,d2,hS,Lu⟩,hse,fun z hz=>.inl hz⟩
  ·exact n.ext (n.ext (n.ext FO f1 (fun _ _ h=>h)) f2 (fun _ _ h=>h)) e4 (fun z hz=>aS z ((hS z).2 (.inl hz)))
  ·exact(m1.ext f2 (fun _ _ h=>h)).ext e4 (fun z hz=>aS z ((hS z).2 (.inr (.inl hz))))
  ·exact e4.own (f2.own (f1.own o0 (fun h=>h)) (fun h=>h)) (aS s ((hS s).2 (.inr (.inr rfl))))
 ·obtain⟨xJ,rG,_,_,hAg,_,_⟩:=Ar.CP hp m.ok
  have b1:=e1.own b0 (fun h=>aS _ ((hS _).2 (.inr (.inl h))) rfl)
  have o1:=e1.own o0 d2
  have RD:=n.ext FO e1 (fun z hz=>(d1 z hz).1)
  refine vs ?_
  obtain⟨f2,b2,z2⟩:=Np H1 114 [Value.int .i64 0,Value.int .u32 0] [i64 x,Value.int .u32 ((A.cf x+1:Nat):Int)]
  generalize (H1.new 114 [Value.int .i64 0,Value.int .u32 0]).wr H1.size [i64 x,Value.int .u32 ((A.cf x+1:Nat):Int)]=H2 at*
  have b3:=f2.own b1 (fun h=>h)
  have o2:=f2.own o1 (fun h=>h)
  have oq:=n.ext RD f2 (fun _ _ h=>h)
  have m2:=m1.ext f2 (fun _ _ h=>h)
  refine am.dec (fun _=>?_) (fun hh=>absurd trivial hh)
  refine v2 (ae o2) o2 ?_
  rw[Gi (n:=q+1) (by omega) (by omega)]
  obtain⟨e4,o3⟩:=RH o2 [i64 k,i64 d,ptr B.a,.iface t vv,u64 (q+1)]
  have NN:=aG o2
  have Wc:=e1.size
  have ajB:=aG ho
  have b5:=e4.own b3 (fun e=>aS s ((hS s).2 (.inr (.inr rfl))) e.symm)
  have b6:=e4.own b2 (fun e=>by omega)
  have ve:=n.ext oq e4 (fun z hz=>(d1 z hz).2)
  have m3:=m2.ext e4 (fun z hz e=>d2 (by rw[←e];exact hz))
  generalize H2.wr s [i64 k,i64 d,ptr B.a,.iface t vv,u64 (q+1)]=H3 at*
  refine v2 (ae o3) (ae b6) ?_
  refine(n.insert g x key (q+1) ve).mono ?_
  obtain⟨c,C,cq⟩:=n.cells ve
  have Ge:¬cZ w.cs x:=fun h=>rG ((Lu.live x).1 h)
  rintro _ H4 (⟨cw,_⟩| ⟨_,rfl,Is,hi4,e5,Ub⟩)
  ·exact absurd ⟨hg,by rw[Lu.len];exact xJ,Ge⟩ cw
  have hz4:=e4.size
  have It:∀z,H.size≤z→¬Sn z:=fun z hz h=>by have:=fH z ((hS z).2 (.inl h));omega
  have b7:=e5.own b6 (It _ (by omega))
  have b8:=e5.own b5 (It _ (anO _))
  refine v2 (ae b7) b8 ?_
  obtain⟨e9,b9⟩:=RH b8 [i64 x,Value.int .u32 ((A.cf x+1:Nat):Int)]
  refine v1 (ae b9) ?_
  have o4:=e5.own o3 (fun h=>(d1 _ h).2 rfl)
  have m4:=m3.ext e5 (fun z hz h=>(d1 z h).1 hz)
  have Gf:=m.slt
  have hz5:=e5.size
  have FW:∀z,B.S z→z<H.size:=Gf
  have Ms:∀z,Is z→Sn z∨H.size<z:=fun z hz=>(Ub z hz).imp_right fun h=>by omega
  refine .inr ⟨x,A',hp,rfl,fun z=>Is z∨B.S z∨z=s,⟨t,vv,I,Is,B,k,d,n,n.ext hi4 e9 (fun z hz e=>?_),m4.ext e9 (fun z hz e=>?_),e9.own o4 (aS s ((hS s).2 (.inr (.inr rfl)))),fun z hz=>?_,d2,fun z=>Iff.rfl,?_⟩,?_,fun z hz=>?_⟩
  ·rcases Ms z hz with h|h
   ·exact It z (by omega) h
   ·omega
  ·have:=FW z hz;omega
  ·rcases Ms z hz with h|h
   ·exact d1 z h
   ·exact⟨fun h2=>by have:=FW z h2;omega,by omega⟩
  ·refine Lu.put xJ (v:=A.cf x+1) ?_
   have Xe:A'.cf x=A.cf x:=by unfold Ar.cf;rw[hAg]
   show A'.g.set x.toNat (A'.cf x+1,true)=_
   rw[Xe,hAg]
   exact an4 (fun b=>A.g.set x.toNat (A.cf x+1,b)) (anQ hg.1).symm
  ·have h1:ah S H H3:=((f0.mono fun _ _ h=>h.elim).trans (e1.mono fun z _ h=>(hS z).2 (.inr (.inl h)))).trans ((f2.mono fun _ _ h=>h.elim).trans (e4.mono fun z _ h=>(hS z).2 (.inr (.inr h))))
   have h2:=h1.trans (e5.mono fun z _ h=>(hS z).2 (.inl h))
   exact⟨aok h2.size e9.size,fun z hz hn=>by rw[e9.aP z (an3 hz h2.size) (by omega),h2.aP z hz hn]⟩
  ·rcases hz with h|h
   ·rcases Ms z h with h|h
    ·exact .inl ((hS z).2 (.inl h))
    ·exact .inr (by omega)
   ·exact .inl ((hS z).2 (.inr h))
end
end Go.Proofs.YtjlnnljohemifaaGreat

namespace Go.Proofs.YtjlnnljohemifaaGreat
open Go Go.Vc
section
variable {H H' H1 H2 : Hp} {s : Nat} {S S1 : Nat → Prop} {w w2 : Nw} {A A2 : Ar} {q q2 : Int}
theorem Bo(l:Xf w A){g x:Int}(h:w.first g x):A.live x:=by
 obtain⟨h1,h2,_⟩:=bO.1 h
 exact(l.live x).1 (bK.1 (by omega))
set_option maxRecDepth 100000 in
theorem Jb(h:Gh H s S w A q){g:Int}(hg:w.has g):ai Tryz.prog Dy [ptr s,i64 g] H fun v H'=>ay (
  (w.len g=0∧v= .tuple [jd 0 0,i64 172].toArray∧QE s S H H' w A q)∨(∃x,w.first g x∧v= .tuple [jd x (A.cf x),i64 0].toArray∧QE s S H H' w A q)):=by
 have fH:=h.slt
 obtain⟨t,vv,I,Sn,B,k,d,n,hi,m,ho,d1,d2,hS,Lu⟩:=h
 refine ba DL ⟨rfl,?_⟩
 refine v1 mJ.eq_1 ?_
 have f0:aq H (H.new 114 [Value.int .i64 0,Value.int .u32 0]):=(ah.refl _ _).new _ _
 have b0:(H.new 114 [Value.int .i64 0,Value.int .u32 0]).own H.size=some [Value.int .i64 0,Value.int .u32 0]:=aE _ _ _
 have z0:(H.new 114 [Value.int .i64 0,Value.int .u32 0]).size=H.size+1:=ar _ _ _
 generalize H.new 114 [Value.int .i64 0,Value.int .u32 0]=H0 at*
 have m0:=m.ext f0 (fun _ _ h=>h)
 have FO:=n.ext hi f0 (fun _ _ h=>h)
 have o0:=f0.own ho (fun h=>h)
 have It:∀z,H.size≤z→¬Sn z:=fun z hz h=>by have:=fH z ((hS z).2 (.inl h));omega
 have FW:∀z,B.S z→z<H.size:=m.slt
 have hos:=aG ho
 refine v1 (ae o0) ?_
 refine(n.has g FO).mono ?_
 rintro _ _ ⟨rfl,rfl⟩
 rw[anQ hg]
 refine v1 (ae o0) ?_
 refine(n.min g FO).mono ?_
 have fin:∀ (H1 H2:Hp) (Is:Nat→Prop),I H1 Is w→ah Sn H0 H1→(∀z,Is z→Sn z∨H0.size≤z)→ah (fun z=>z=H.size∨H1.size≤z) H1 H2→QE s S H H2 w A q:=fun H1 H2 Is RD e1 fE e2=>by
  have Wc:=e1.size
  have ez:=e2.size
  refine⟨fun z=>Is z∨B.S z∨z=s,⟨t,vv,I,Is,B,k,d,n,n.ext RD e2 (fun z hz e=>?_),(m0.ext e1 (fun z hz h=>(d1 z h).1 hz)).ext e2 (fun z hz e=>?_),e2.own (e1.own o0 (fun h=>(d1 _ h).2 rfl)) (fun e=>by omega),fun z hz=>?_,d2,fun z=>Iff.rfl,Lu⟩,?_,fun z hz=>?_⟩
  ·rcases e with e|e
   ·rcases fE z hz with h|h
    ·exact It z (by omega) h
    ·omega
   ·have:=n.slt RD z hz;omega
  ·have:=FW z hz;omega
  ·rcases fE z hz with h|h
   ·exact d1 z h
   ·exact⟨fun h2=>by have:=FW z h2;omega,by omega⟩
  ·have h1:ah S H H1:=(f0.mono fun _ _ h=>h.elim).trans (e1.mono fun z _ h=>(hS z).2 (.inl h))
   exact⟨aok h1.size e2.size,fun z hz hn=>by rw[e2.aP z (an3 hz h1.size) (by omega),h1.aP z hz hn]⟩
  ·rcases hz with h|h
   ·rcases fE z h with h|h
    ·exact .inl ((hS z).2 (.inl h))
    ·exact .inr (by omega)
   ·exact .inl ((hS z).2 (.inr h))
 rintro _ H1 (⟨h0,rfl,Is,RD,e1,fE⟩| ⟨x,hx,rfl,Is,RD,e1,fE⟩)
 ·have b1:=e1.own b0 (It _ (anO _))
  refine v1 b1 ?_
  obtain⟨e4,b4⟩:=RH b1 [Value.int .i64 0,Value.int .u32 0]
  refine v1 (ae b4) ?_
  exact .inl ⟨h0,rfl,fin H1 _ Is RD e1 fE (e4.mono fun z _ h=>.inl h)⟩
 ·have b1:=e1.own b0 (It _ (anO _))
  have o1:=e1.own o0 (fun h=>(d1 _ h).2 rfl)
  have m1:=m0.ext e1 (fun z hz h=>(d1 z h).1 hz)
  refine v1 (ae o1) ?_
  refine(Ja m1 (Bo Lu hx)).mono ?_
  rintro _ H2 ⟨rfl,f2⟩
  have b2:=f2.own b1 (fun h=>h)
  refine vs ?_
  obtain⟨f3,b3,z3⟩:=Np H2 114 [Value.int .i64 0,Value.int .u32 0] [i64 x,Value.int .u32 ((A.cf x:Nat):Int)]
  generalize (H2.new 114 [Value.int .i64 0,Value.int .u32 0]).wr H2.size [i64 x,Value.int .u32 ((A.cf x:Nat):Int)]=H3 at*
  have b5:=f3.own b2 (fun h=>h)
  refine v2 (ae b3) b5 ?_
  obtain⟨e4,b4⟩:=RH b5 [i64 x,Value.int .u32 ((A.cf x:Nat):Int)]
  refine v1 (ae b4) ?_
  exact .inr ⟨x,hx,rfl,fin H1 _ Is RD e1 fE (((f2.trans f3).mono fun _ _ h=>h.elim).trans (e4.mono fun z _ h=>.inl h))⟩
set_option maxRecDepth 100000 in
theorem Jc(h:Gh H s S w A q){x:Int}(hx:A.live x):ai Tryz.prog Dz [ptr s,jd x (A.cf x)] H fun v H'=>ay (∃y,w.cs[x.toNat]? =some y∧v= .tuple [wq y.2.1 y.2.2,i64 0].toArray∧QE s S H H' w A q):=by
 have fH:=h.slt
 obtain⟨t,vv,I,Sn,B,k,d,n,hi,m,ho,d1,d2,hS,Lu⟩:=h
 refine ba DM ⟨rfl,?_⟩
 refine v1 te.eq_1 ?_
 have f0:aq H ((H.new 114 [i64 x,.int .u32 (A.cf x:Int)]).new 224 [Value.int .i64 0,Value.int .u64 0]):=((ah.refl _ _).new _ _).new _ _
 have b0:((H.new 114 [i64 x,.int .u32 (A.cf x:Int)]).new 224 [Value.int .i64 0,Value.int .u64 0]).own H.size=some [i64 x,.int .u32 (A.cf x:Int)]:=by
  rw[cz (by simp only[ar];omega),aE]
 have c0:((H.new 114 [i64 x,.int .u32 (A.cf x:Int)]).new 224 [Value.int .i64 0,Value.int .u64 0]).own (H.size+1)=some [Value.int .i64 0,Value.int .u64 0]:=bD (by simp only[ar])
 have z0:((H.new 114 [i64 x,.int .u32 (A.cf x:Int)]).new 224 [Value.int .i64 0,Value.int .u64 0]).size=H.size+1+1:=by simp only[ar]
 generalize (H.new 114 [i64 x,.int .u32 (A.cf x:Int)]).new 224 [Value.int .i64 0,Value.int .u64 0]=H0 at*
 have m0:=m.ext f0 (fun _ _ h=>h)
 have FO:=n.ext hi f0 (fun _ _ h=>h)
 have o0:=f0.own ho (fun h=>h)
 have It:∀z,H.size≤z→¬Sn z:=fun z hz h=>by have:=fH z ((hS z).2 (.inl h));omega
 have FW:∀z,B.S z→z<H.size:=m.slt
 have hos:=aG ho
 refine v2 (ae o0) (ae b0) ?_
 refine(vz m0 x (A.cf x)).mono ?_
 rintro _ H1 ⟨rfl,f1⟩
 rw[anQ ⟨hx,rfl⟩]
 have m1:=m0.ext f1 (fun _ _ h=>h)
 have RD:=n.ext FO f1 (fun _ _ h=>h)
 have o1:=f1.own o0 (fun h=>h)
 have b1:=f1.own b0 (fun h=>h)
 have c1:=f1.own c0 (fun h=>h)
 have z1:=f1.size
 have bQ:cZ w.cs x:=(Lu.live x).2 hx
 have fin:∀H2,I H2 Sn w→ah (fun z=>z=H.size+1∨H1.size≤z) H1 H2→QE s S H H2 w A q:=fun H2 oq e2=>by
  have h1:ah S H H1:=(f0.trans f1).mono fun _ _ h=>h.elim
  refine⟨S,⟨t,vv,I,Sn,B,k,d,n,oq,m1.ext e2 (fun z hz e=>by have:=FW z hz;omega),e2.own o1 (fun e=>by omega),d1,d2,hS,Lu⟩,⟨aok h1.size e2.size,fun z hz hn=>by rw[e2.aP z (an3 hz h1.size) (by omega),h1.aP z hz hn]⟩,fun z hz=>.inl hz⟩
 refine vs ?_
 refine rq.intro (fun H'=>H'.own s=some [i64 k,i64 d,ptr B.a,.iface t vv,u64 q]∧H'.own H.size=some [i64 x,.int .u32 (A.cf x:Int)]) ⟨o1,b1⟩ ?_
 refine vs ?_
 refine oQ.intro (.iface t vv) (fun H' hI=>by refine v1 (ae hI.1) ?_;trivial) ?_
 refine vs ?_
 refine oQ.intro (i64 x) (fun H' hI=>by refine v1 (ae hI.2) ?_;trivial) ?_
 refine vs ?_
 refine He.intro ?_ ?_
 ·refine vs ?_
  refine(n.entry x RD).mono ?_
  rintro _ H2 ⟨oq,f2,⟨cw,_⟩| ⟨_,y,hy,rfl⟩⟩
  ·exact absurd bQ cw
  have o2:=f2.own o1 (fun h=>h)
  have b2:=f2.own b1 (fun h=>h)
  have c2:=f2.own c1 (fun h=>h)
  have z2:=f2.size
  refine And.intro ⟨o2,b2⟩ ?_
  refine vs ?_
  refine And.intro ⟨o2,b2⟩ ?_
  refine vs ?_
  refine And.intro ⟨o2,b2⟩ ?_
  refine vs ?_
  obtain⟨f3,b3,z3⟩:=Np H2 224 [Value.int .i64 0,Value.int .u64 0] [i64 y.2.1,u64 y.2.2]
  generalize (H2.new 224 [Value.int .i64 0,Value.int .u64 0]).wr H2.size [i64 y.2.1,u64 y.2.2]=H3 at*
  have c3:=f3.own c2 (fun h=>h)
  refine v2 (ae b3) c3 ?_
  obtain⟨e4,b4⟩:=RH c3 [i64 y.2.1,u64 y.2.2]
  refine v1 (ae b4) ?_
  exact⟨y,hy,rfl,fin _ (n.ext (n.ext oq f3 (fun _ _ h=>h)) e4 (fun z hz e=>It z (by omega) hz)) (((f2.trans f3).mono fun _ _ h=>h.elim).trans (e4.mono fun z _ h=>.inl h))⟩
 ·refine vs ?_
  refine And.intro ⟨o1,b1⟩ ?_
  have f4:aq H1 (H1.new 224 [Value.int .i64 0,Value.int .u64 0]):=(ah.refl _ _).new _ _
  have b4:(H1.new 224 [Value.int .i64 0,Value.int .u64 0]).own H1.size=some [Value.int .i64 0,Value.int .u64 0]:=aE _ _ _
  have z4:(H1.new 224 [Value.int .i64 0,Value.int .u64 0]).size=H1.size+1:=ar _ _ _
  generalize H1.new 224 [Value.int .i64 0,Value.int .u64 0]=H4 at*
  refine vs ?_
  refine(n.entry x (n.ext RD f4 (fun _ _ h=>h))).mono ?_
  rintro _ H2 ⟨oq,f2,⟨cw,_⟩| ⟨_,y,hy,rfl⟩⟩
  ·exact absurd bQ cw
  have o2:=f2.own (f4.own o1 (fun h=>h)) (fun h=>h)
  have b2:=f2.own (f4.own b1 (fun h=>h)) (fun h=>h)
  have c2:=f2.own (f4.own c1 (fun h=>h)) (fun h=>h)
  have b5:=f2.own b4 (fun h=>h)
  have z2:=f2.size
  refine And.intro ⟨o2,b2⟩ ?_
  refine v1 b5 ?_
  obtain⟨e6,b6⟩:=RH b5 [i64 y.2.1,u64 y.2.2]
  have o6:=e6.own o2 (fun e=>by omega)
  have b26:=e6.own b2 (fun e=>by omega)
  have c6:=e6.own c2 (fun e=>by omega)
  have hn6:=n.ext oq e6 (fun z hz e=>It z (by omega) hz)
  have e26:ah (fun z=>z=H.size+1∨H1.size≤z) H1 (H2.wr H1.size [i64 y.2.1,u64 y.2.2]):=((f4.trans f2).mono fun _ _ h=>h.elim).trans (e6.mono fun z _ h=>.inr (by omega))
  generalize H2.wr H1.size [i64 y.2.1,u64 y.2.2]=H6 at*
  first
   |refine And.intro ⟨o6,b26⟩ ?_
   |refine And.intro ⟨o2,b2⟩ ?_
  refine v2 (ae b6) c6 ?_
  obtain⟨e7,b7⟩:=RH c6 [i64 y.2.1,u64 y.2.2]
  refine v1 (ae b7) ?_
  exact⟨y,hy,rfl,fin _ (n.ext hn6 e7 (fun z hz e=>It z (by omega) hz)) (e26.trans (e7.mono fun z _ h=>.inl h))⟩
end
end Go.Proofs.YtjlnnljohemifaaGreat

namespace Go.Proofs.YtjlnnljohemifaaGreat
open Go Go.Vc
section
variable {H H' H1 H2 : Hp} {s : Nat} {S S1 : Nat → Prop} {w w2 : Nw} {A A2 : Ar} {q q2 : Int}
theorem Gh.tmp{b:Nat}{l:List Value}(h:Gh H1 s S1 w A q)(hb:¬S1 b):Gh (H1.wr b l) s S1 w A q:=h.ext ((ah.refl (fun x=>x=b) _).wr (fun _=>rfl) _:ah (fun x=>x=b) H1 _) (fun z hz e=>hb (by rw[←e];exact hz))
theorem Gj(h:Gh H2 s S1 w A q)(e:ah S H H2)(hs:∀z,S1 z→S z∨H.size≤z):QE s S H H2 w A q:=⟨S1,h,e,hs⟩
theorem Gk{b:Nat}{l:List Value}(e:ah S H H1)(hb:H.size≤b):ah S H (H1.wr b l):=by
 have e2:ah (fun x=>x=b) H1 (H1.wr b l):=(ah.refl (fun x=>x=b) _).wr (fun _=>rfl) _
 exact⟨aok e.size e2.size,fun z hz hn=>by rw[e2.aP z (an3 hz e.size) (by omega),e.aP z hz hn]⟩
set_option maxRecDepth 100000 in
set_option maxHeartbeats 1000000 in
theorem Mt(h:Gh H s S w A q){g:Int}(hg:w.has g):ai Tryz.prog Gy [ptr s,i64 g] H fun v H'=>ay (
  (w.len g=0∧v= .tuple [jd 0 0,i64 0,i64 172].toArray∧QE s S H H' w A q)∨(∃x y,w.first g x∧w.cs[x.toNat]? =some y∧v= .tuple [jd x (A.cf x),i64 y.2.1,i64 0].toArray∧QE s S H H' w A q)):=by
 have fH:=h.slt
 have Lu:=h.lnk.1
 refine ba GD ⟨rfl,?_⟩
 refine v1 wY.eq_1 ?_
 have f0:aq H (H.new 114 [Value.int .i64 0,Value.int .u32 0]):=(ah.refl _ _).new _ _
 have b0:(H.new 114 [Value.int .i64 0,Value.int .u32 0]).own H.size=some [Value.int .i64 0,Value.int .u32 0]:=aE _ _ _
 have z0:(H.new 114 [Value.int .i64 0,Value.int .u32 0]).size=H.size+1:=ar _ _ _
 generalize H.new 114 [Value.int .i64 0,Value.int .u32 0]=H0 at*
 have h0:=h.ext f0 (fun _ _ h=>h)
 have RI:∀z,H.size≤z→¬S z:=fun z hz h=>by have:=fH z h;omega
 refine(Jb h0 hg).mono ?_
 rintro _ H1 (⟨Y9,rfl,S1,h1,e1,fE⟩| ⟨x,hx,rfl,S1,h1,e1,fE⟩)
 ·have b1:=e1.own b0 (RI _ (anO _))
  have Wc:=e1.size
  refine vs ?_
  obtain⟨f2,b2,z2⟩:=Np H1 114 [Value.int .i64 0,Value.int .u32 0] [i64 0,Value.int .u32 ((0:Nat):Int)]
  generalize (H1.new 114 [Value.int .i64 0,Value.int .u32 0]).wr H1.size [i64 0,Value.int .u32 ((0:Nat):Int)]=H2 at*
  have b3:=f2.own b1 (fun h=>h)
  refine am.dec (fun hh=>by omega) (fun _=>?_)
  refine v1 b3 ?_
  obtain⟨e4,b4⟩:=RH b3 [Value.int .i64 0,Value.int .u32 0]
  have e2:ah S H H2:=((f0.mono fun _ _ h=>h.elim).trans e1).trans (f2.mono fun _ _ h=>h.elim)
  have Ds:¬S1 H.size:=fun h=>by rcases fE _ h with h|h;exact RI _ (anO _) h;omega
  have h3:=((h1.ext f2 (fun _ _ h=>h)).tmp Ds (l:=[Value.int .i64 0,Value.int .u32 0]))
  have e5:=Gk (l:=[Value.int .i64 0,Value.int .u32 0]) e2 (anO H.size)
  refine v1 (ae b4) ?_
  exact .inl ⟨Y9,rfl,Gj h3 e5 (fun z hz=>(fE z hz).imp_right fun h=>by omega)⟩
 ·have b1:=e1.own b0 (RI _ (anO _))
  have Wc:=e1.size
  have xH:=Bo Lu hx
  refine vs ?_
  obtain⟨f2,b2,z2⟩:=Np H1 114 [Value.int .i64 0,Value.int .u32 0] [i64 x,Value.int .u32 ((A.cf x:Nat):Int)]
  generalize (H1.new 114 [Value.int .i64 0,Value.int .u32 0]).wr H1.size [i64 x,Value.int .u32 ((A.cf x:Nat):Int)]=H2 at*
  have b3:=f2.own b1 (fun h=>h)
  have h2:=h1.ext f2 (fun _ _ h=>h)
  refine am.dec (fun _=>?_) (fun hh=>absurd trivial hh)
  refine v1 (ae b2) ?_
  have Xg:=h1.slt
  refine(Jc h2 xH).mono ?_
  rintro _ H3 ⟨y,hy,rfl,S3,h3,e3,Io⟩
  have Ds:¬S1 H.size:=fun h=>by rcases fE _ h with h|h;exact RI _ (anO _) h;omega
  have BI:¬S1 H1.size:=fun h=>by have:=Xg _ h;omega
  have b4:=e3.own b3 Ds
  have c4:=e3.own b2 BI
  have Xh:=e3.size
  refine vs ?_
  obtain⟨f5,b5,z5⟩:=Np H3 224 [Value.int .i64 0,Value.int .u64 0] [i64 y.2.1,u64 y.2.2]
  generalize (H3.new 224 [Value.int .i64 0,Value.int .u64 0]).wr H3.size [i64 y.2.1,u64 y.2.2]=H5 at*
  have b6:=f5.own b4 (fun h=>h)
  have c6:=f5.own c4 (fun h=>h)
  have h5:=h3.ext f5 (fun _ _ h=>h)
  have hn3:∀b,¬S1 b→b<H2.size→¬S3 b:=fun b hb G3 h=>by rcases Io _ h with h|h;exact hb h;omega
  have e5:ah S H H5:=by
   have e2:ah S H H2:=((f0.mono fun _ _ h=>h.elim).trans e1).trans (f2.mono fun _ _ h=>h.elim)
   have Zk:ah S H H3:=⟨aok e2.size e3.size,fun z hz hn=>by rw[e3.aP z (an3 hz e2.size) (fun h=>by rcases fE z h with h|h;exact hn h;omega),e2.aP z hz hn]⟩
   exact Zk.trans (f5.mono fun _ _ h=>h.elim)
  refine rq.intro (fun H'=>H'.own H3.size=some [i64 y.2.1,u64 y.2.2]) b5 ?_
  refine vs ?_
  refine oQ.intro (i64 y.2.1) (fun H' hI=>by refine v1 (ae hI) ?_;trivial) ?_
  refine v1 (ae c6) ?_
  refine And.intro b5 ?_
  refine v1 b6 ?_
  obtain⟨e7,b7⟩:=RH b6 [i64 x,Value.int .u32 ((A.cf x:Nat):Int)]
  have b57:=e7.own b5 (fun e=>by omega)
  first
   |refine And.intro b57 ?_
   |refine And.intro b5 ?_
  have h7:=h5.tmp (hn3 _ Ds (by omega)) (l:=[i64 x,Value.int .u32 ((A.cf x:Nat):Int)])
  have e8:=Gk (l:=[i64 x,Value.int .u32 ((A.cf x:Nat):Int)]) e5 (anO H.size)
  refine v1 (ae b7) ?_
  refine .inr ⟨x,y,hx,hy,rfl,Gj h7 e8 (fun z hz=>?_)⟩
  rcases Io z hz with h|h
  ·exact(fE z h).imp_right fun h=>by omega
  ·exact .inr (by omega)
theorem QF{g x x':Int}(h:w.first g x)(h':w.first g x'):x'=x:=by
 obtain⟨_,h2,h3⟩:=bO.1 h
 obtain⟨_,h5,h6⟩:=bO.1 h'
 apply anX
 intro aS
 have:=(au w).asym (h3 x' h5 aS)
 rw[h6 x h2 (Ne.symm aS)]at this
 cases this
set_option maxRecDepth 100000 in
set_option maxHeartbeats 1000000 in
theorem qH(h:Gh H s S w A q){g:Int}(hg:w.has g):ai Tryz.prog vH [ptr s,i64 g] H fun v H'=>ay (
  (w.len g=0∧v= .tuple [jd 0 0,i64 0,i64 172].toArray∧QE s S H H' w A q)∨(∃x y,w.first g x∧w.cs[x.toNat]? =some y∧v= .tuple [jd x (A.cf x),i64 y.2.1,i64 0].toArray∧QE s S H H' (w.put x (0,0,0)) (A.back x) q)):=by
 have fH:=h.slt
 have Lu:=h.lnk.1
 refine ba vR ⟨rfl,?_⟩
 refine v1 fN.eq_1 ?_
 have f0:aq H (H.new 114 [Value.int .i64 0,Value.int .u32 0]):=(ah.refl _ _).new _ _
 have b0:(H.new 114 [Value.int .i64 0,Value.int .u32 0]).own H.size=some [Value.int .i64 0,Value.int .u32 0]:=aE _ _ _
 have z0:(H.new 114 [Value.int .i64 0,Value.int .u32 0]).size=H.size+1:=ar _ _ _
 generalize H.new 114 [Value.int .i64 0,Value.int .u32 0]=H0 at*
 have h0:=h.ext f0 (fun _ _ h=>h)
 have RI:∀z,H.size≤z→¬S z:=fun z hz h=>by have:=fH z h;omega
 refine(Mt h0 hg).mono ?_
 rintro _ H1 (⟨Y9,rfl,S1,h1,e1,fE⟩| ⟨x,y,hx,hy,rfl,S1,h1,e1,fE⟩)
 ·have b1:=e1.own b0 (RI _ (anO _))
  have Wc:=e1.size
  refine vs ?_
  obtain⟨f2,b2,z2⟩:=Np H1 114 [Value.int .i64 0,Value.int .u32 0] [i64 0,Value.int .u32 ((0:Nat):Int)]
  generalize (H1.new 114 [Value.int .i64 0,Value.int .u32 0]).wr H1.size [i64 0,Value.int .u32 ((0:Nat):Int)]=H2 at*
  have b3:=f2.own b1 (fun h=>h)
  refine am.dec (fun hh=>by omega) (fun _=>?_)
  refine v1 b3 ?_
  obtain⟨e4,b4⟩:=RH b3 [Value.int .i64 0,Value.int .u32 0]
  have e2:ah S H H2:=((f0.mono fun _ _ h=>h.elim).trans e1).trans (f2.mono fun _ _ h=>h.elim)
  have Ds:¬S1 H.size:=fun h=>by rcases fE _ h with h|h;exact RI _ (anO _) h;omega
  have h3:=((h1.ext f2 (fun _ _ h=>h)).tmp Ds (l:=[Value.int .i64 0,Value.int .u32 0]))
  have e5:=Gk (l:=[Value.int .i64 0,Value.int .u32 0]) e2 (anO H.size)
  refine v1 (ae b4) ?_
  exact .inl ⟨Y9,rfl,Gj h3 e5 (fun z hz=>(fE z hz).imp_right fun h=>by omega)⟩
 ·have b1:=e1.own b0 (RI _ (anO _))
  have Wc:=e1.size
  have xH:=Bo Lu hx
  refine vs ?_
  obtain⟨f2,b2,z2⟩:=Np H1 114 [Value.int .i64 0,Value.int .u32 0] [i64 x,Value.int .u32 ((A.cf x:Nat):Int)]
  generalize (H1.new 114 [Value.int .i64 0,Value.int .u32 0]).wr H1.size [i64 x,Value.int .u32 ((A.cf x:Nat):Int)]=H2 at*
  have b3:=f2.own b1 (fun h=>h)
  have Xg:=h1.slt
  have h2:=h1.ext f2 (fun _ _ h=>h)
  have Ds:¬S1 H.size:=fun h=>by rcases fE _ h with h|h;exact RI _ (anO _) h;omega
  have BI:¬S1 H1.size:=fun h=>by have:=Xg _ h;omega
  obtain⟨t,vv,I,Sn,B,k,d,n,hi,m,ho,d1,d2,hS,_⟩:=h2
  refine am.dec (fun _=>?_) (fun hh=>absurd trivial hh)
  refine v1 (ae ho) ?_
  refine(n.extract g hi).mono ?_
  have FW:∀z,B.S z→z<H2.size:=m.slt
  have hos:=aG ho
  rintro _ H3 (⟨Y9,_⟩| ⟨x',xy,rfl,Is,ve,e3,Io⟩)
  ·exfalso
   obtain⟨SN,PA,_⟩:=bO.1 hx
   exact(xA SN).1 Y9 x PA
  obtain rfl:=QF hx xy
  have ho3:=e3.own ho (fun h=>(d1 _ h).2 rfl)
  have b4:=e3.own b3 (fun h=>Ds ((hS _).2 (.inl h)))
  have c4:=e3.own b2 (fun h=>BI ((hS _).2 (.inl h)))
  have m3:=m.ext e3 (fun z hz h=>(d1 z h).1 hz)
  have Xh:=e3.size
  refine v2 (ae ho3) (ae c4) ?_
  refine(FX m3 xH).mono ?_
  rintro _ H4 ⟨rfl,SM,m4,e4,RF⟩
  have nB1:¬B.S H.size:=fun h=>Ds ((hS _).2 (.inr (.inl h)))
  have nB2:¬B.S H1.size:=fun h=>BI ((hS _).2 (.inr (.inl h)))
  have b5:=e4.own b4 nB1
  have c5:=e4.own c4 nB2
  have ho4:=e4.own ho3 d2
  have hz4:=e4.size
  refine v2 (ae c5) b5 ?_
  obtain⟨e6,b6⟩:=RH b5 [i64 x',Value.int .u32 ((A.cf x':Nat):Int)]
  refine v1 (ae b6) ?_
  have Ms:∀z,Is z→Sn z∨H2.size≤z:=Io
  have hB':∀z,(UQ.mk B.a B.sb SM).S z→B.S z∨H3.size≤z:=fun z hz=>by
   rcases hz with h|h|h
   ·exact .inl (.inl h)
   ·exact .inl (.inr (.inl h))
   ·exact(RF z h).imp_left fun h=>.inr (.inr h)
  have hiT:I H4 Is (w.put x' (0,0,0)):=n.ext ve e4 (fun z hz hb=>by
   rcases Ms z hz with h|h
   ·exact(d1 z h).1 hb
   ·have:=FW z hb;omega)
  have aa3:=fun z hz=>n.slt ve z hz
  have nn1:∀b,¬S1 b→b<H2.size→¬Is b∧¬ (UQ.mk B.a B.sb SM).S b:=fun b hb G3=>by
   refine⟨fun h=>?_,fun h=>?_⟩
   ·rcases Ms b h with h|h
    ·exact hb ((hS b).2 (.inl h))
    ·omega
   ·rcases hB' b h with h|h
    ·exact hb ((hS b).2 (.inr (.inl h)))
    ·omega
  have afl:H.size≠s:=fun e=>Ds ((hS _).2 (.inr (.inr e)))
  have xJ:=Ar.CN xH
  have vu:Gh H4 s (fun z=>Is z∨(UQ.mk B.a B.sb SM).S z∨z=s) (w.put x' (0,0,0)) (A.back x') q:=by
   refine⟨t,vv,I,Is,⟨B.a,B.sb,SM⟩,k,d,n,hiT,m4,ho4,fun z hz=>?_,fun h=>?_,fun z=>Iff.rfl,Lu.put xJ rfl⟩
   ·rcases Ms z hz with h|h
    ·refine⟨fun hb=>?_,(d1 z h).2⟩
     rcases hB' z hb with h2|h2
     ·exact(d1 z h).1 h2
     ·have:=aa3 z hz;omega
    ·refine⟨fun hb=>?_,fun e=>by omega⟩
     rcases hB' z hb with h2|h2
     ·have:=FW z h2;omega
     ·have:=aa3 z hz;omega
   ·rcases hB' _ h with h2|h2
    ·exact d2 h2
    ·omega
  have afm:=vu.tmp (b:=H.size) (l:=[i64 x',Value.int .u32 ((A.cf x':Nat):Int)]) (fun h=>by
   obtain⟨q1,q2⟩:=nn1 _ Ds (by omega)
   rcases h with h|h|h
   ·exact q1 h
   ·exact q2 h
   ·exact afl h)
  have e04:ah S H H4:=by
   have e2:ah S H H2:=((f0.mono fun _ _ h=>h.elim).trans e1).trans (f2.mono fun _ _ h=>h.elim)
   exact⟨by have:=e2.size;omega,fun z hz hn=>by
    have ez:=e2.size
    have PC:¬S1 z:=fun h=>by rcases fE z h with h|h;exact hn h;omega
    rw[e4.aP z (by omega) (fun h=>PC ((hS z).2 (.inr (.inl h)))),e3.aP z (by omega) (fun h=>PC ((hS z).2 (.inl h))),e2.aP z hz hn]⟩
  have ez:=f2.size
  refine .inr ⟨x',y,hx,hy,rfl,Gj afm (Gk e04 (anO _)) (fun z hz=>?_)⟩
  have Ls:S1 z∨H2.size≤z:=by
   rcases hz with h|h|h
   ·rcases Ms z h with h|h
    ·exact .inl ((hS z).2 (.inl h))
    ·exact .inr h
   ·rcases hB' z h with h|h
    ·exact .inl ((hS z).2 (.inr (.inl h)))
    ·exact .inr (by omega)
   ·exact .inl ((hS z).2 (.inr (.inr h)))
  rcases Ls with h|h
  ·exact(fE z h).imp_right fun h=>by omega
  ·exact .inr (by omega)
end
end Go.Proofs.YtjlnnljohemifaaGreat

namespace Go.Proofs.YtjlnnljohemifaaGreat
open Go Go.Vc
abbrev Mu(kd dd:Int):Value:=.agg [i64 kd,i64 dd].toArray
def lZ(kd dd:Int):Prop:=(1≤kd∧kd≤8)∧((kd=2∧2≤dd∧dd≤16)∨(kd≠2∧dd=0))
instance(kd dd:Int):Decidable (lZ kd dd):=by unfold lZ;exact inferInstance
def QG(kd dd:Int):Int:=if kd<1∨8<kd then 21 else if lZ kd dd then 0 else 22
theorem SO{kd dd:Int}(h:kd<1∨8<kd):QG kd dd=21:=by unfold QG;rw[if_pos h]
theorem Ol{kd dd:Int}(h:lZ kd dd):QG kd dd=0:=by
 have:=h.1
 unfold QG
 rw[if_neg (by omega),if_pos h]
theorem SP{kd dd:Int}(h1:¬ (kd<1∨8<kd))(h:¬lZ kd dd):QG kd dd=22:=by unfold QG;rw[if_neg h1,if_neg h]
theorem Mv{kd dd:Int}:QG kd dd=0↔lZ kd dd:=by
 constructor
 ·intro h
  apply anX
  intro hn
  by_cases h1:kd<1∨8<kd
  ·rw[SO h1]at h;cases h
  ·rw[SP h1 hn]at h;cases h
 ·exact Ol
theorem qI(kd dd:Int)(H:Hp):ai Tryz.prog ID [Mu kd dd] H fun v H'=>ay (v=i64 (QG kd dd)∧aq H H'):=by
 refine ba IN ⟨rfl,?_⟩
 refine v1 rW.eq_1 ?_
 have f0:aq H (H.new 23 [i64 kd,i64 dd]):=(ah.refl _ _).new _ _
 repeat' (refine am.dec (fun _=>?_) (fun _=>?_)<;>try(refine v1 anZ ?_))
 all_goals
  first
   | (exfalso;omega)
   | (refine⟨?_,f0⟩;exact(an4 i64 (SO (by omega))).symm)
   | (refine⟨?_,f0⟩;exact(an4 i64 (Ol (by unfold lZ;omega))).symm)
   | (refine⟨?_,f0⟩;exact(an4 i64 (SP (by omega) (by unfold lZ;omega))).symm)
theorem Hj(kd dd:Int)(H:Hp):ai Tryz.prog IB [Mu kd dd] H fun v H'=>ay (v=i64 (QG kd dd)∧aq H H'):=by
 refine ba IL ⟨rfl,?_⟩
 refine v1 rU.eq_1 ?_
 have f0:aq H (H.new 23 [i64 kd,i64 dd]):=(ah.refl _ _).new _ _
 repeat' (refine am.dec (fun _=>?_) (fun _=>?_)<;>try(refine v1 anZ ?_))
 all_goals
  first
   | (exfalso;omega)
   | (refine⟨?_,f0⟩;exact(an4 i64 (SO (by omega))).symm)
   | (refine⟨?_,f0⟩;exact(an4 i64 (Ol (by unfold lZ;omega))).symm)
   | (refine⟨?_,f0⟩;exact(an4 i64 (SP (by omega) (by unfold lZ;omega))).symm)
theorem l9{kd dd:Int}(hf:lZ kd dd)(hk:kd=1∨kd=2)(H:Hp):ai Tryz.prog IE [Mu kd dd] H fun v H'=>ay (v=i64 (if kd=1 then 2 else dd)∧aq H H'):=by
 refine ba IP ⟨rfl,?_⟩
 refine v1 rX.eq_1 ?_
 have f0:aq H (H.new 23 [i64 kd,i64 dd]):=(ah.refl _ _).new _ _
 have o0:(H.new 23 [i64 kd,i64 dd]).own H.size=some [i64 kd,i64 dd]:=aE _ _ _
 generalize H.new 23 [i64 kd,i64 dd]=H0 at*
 refine(qI kd dd H0).mono ?_
 rintro _ H1 ⟨rfl,f1⟩
 have o1:=f1.own o0 (fun h=>h)
 rw[Ol hf]
 refine v2 (ae o1) anZ ?_
 rcases hk with rfl|rfl
 ·refine am.cF (by decide) ?_
  refine v2 (ae o1) anZ ?_
  exact⟨rfl,f0.trans f1⟩
 ·refine am.aW (by decide) ?_
  refine v2 (ae o1) anZ ?_
  exact⟨rfl,f0.trans f1⟩
structure SQ(w:Nw)(L:List Lk)(tops:List Int):Prop where
 bt:BP (aI w) (aU w) (bi L) (bq L) (bm tops)
 tl:tops.length=w.hs.length
def dJ(n:Nat)(H:Hp)(S:Nat→Prop)(w:Nw):Prop:=∃ (B:LB) (C:Nat→Prop) (L:List Lk) (rs tops:List Int),B.n=n∧c7 H B C w L rs tops∧SQ w L tops∧∀z,S z↔B.S C z
theorem dJ.slt{n:Nat}{H:Hp}{S:Nat→Prop}{w:Nw}(h:dJ n H S w):∀z,S z→z<H.size:=by
 obtain⟨B,C,L,rs,tops,rfl,m,l,hS⟩:=h
 exact fun z hz=>m.slt z ((hS z).1 hz)
theorem dJ.ext{n:Nat}{H H':Hp}{S T:Nat→Prop}{w:Nw}(h:dJ n H S w)(e:ah T H H')(hd:∀z,S z→¬T z):dJ n H' S w:=by
 obtain⟨B,C,L,rs,tops,rfl,m,l,hS⟩:=h
 exact⟨B,C,L,rs,tops,rfl,m.ext e (fun z hz=>hd z ((hS z).2 hz)),l,hS⟩
set_option maxRecDepth 100000 in
theorem zF{n:Nat}{H:Hp}{S:Nat→Prop}{w:Nw}(h:dJ n H S w)(g x k s:Int):ai Tryz.prog mz [ptr n,i64 g,i64 x,wq k s] H fun v H'=>ay (
  (¬w.oR g x∧v= .bool false∧cD (dJ n) S H H' w)∨(w.oR g x∧v= .bool true∧cD (dJ n) S H H' (w.put x (g,k,s)))):=by
 obtain⟨B,C,L,rs,tops,rfl,m,l,hS⟩:=h
 refine ba vZ ⟨rfl,?_⟩
 refine v1 mC.eq_1 ?_
 have f0:aq H (H.new 224 [i64 k,u64 s]):=(ah.refl _ _).new _ _
 have b0:(H.new 224 [i64 k,u64 s]).own H.size=some [i64 k,u64 s]:=aE _ _ _
 have m0:=m.fresh f0
 generalize H.new 224 [i64 k,u64 s]=H0 at*
 obtain⟨tv,KH,_⟩:=m0.own
 refine v2 (ae KH) (ae b0) ?_
 refine(nP m0.cells g x k s).mono ?_
 rintro _ H1 (⟨cw,rfl,c1,e1⟩| ⟨tD,rfl,c1,e1⟩)
 ·refine vs ?_
  exact .inl ⟨cw,rfl,cD.same ⟨B,C,L,rs,tops,rfl,m0.aN c1 e1 rfl,l,hS⟩ ((f0.mono fun _ _ h=>h.elim).trans (e1.mono fun z _ hz=>(hS z).2 (.inl hz)))⟩
 obtain⟨hh,hx,bQ⟩:=id tD
 have m1:=m0.aN c1 e1 (by simp[Nw.put])
 have bv:=m1.len
 have rG:(w.put x (g,k,s)).cs.length=w.cs.length:=by simp[Nw.put]
 obtain⟨Eg,o1,_⟩:=m1.own
 refine v1 (ae o1) ?_
 refine⟨⟨by omega,by omega⟩,?_⟩
 refine v3 m1.Ef anB anD ?_
 refine⟨by rw[anW];omega,?_⟩
 refine vs ?_
 obtain⟨m2,e2⟩:c7 (H1.wr B.rk ((rs.map i64).set x.toNat (Value.int .i64 1))) B C _ L (rs.set x.toNat 1) tops∧ah (fun z=>z=B.rk) H1 (H1.wr B.rk ((rs.map i64).set x.toNat (Value.int .i64 1))):=m1.Of x.toNat 1
 generalize H1.wr B.rk ((rs.map i64).set x.toNat (Value.int .i64 1))=H2 at*
 obtain⟨cc,lt,o2,q2,Cz,yz,Nq⟩:=m2.hG
 refine rq.intro (fun H'=>H'.own B.n=some [ptr B.c,ptr B.t,.slice (some ⟨B.rk,0,none⟩) (rs.set x.toNat 1).length (rs.set x.toNat 1).length,.slice (some ⟨B.tp,0,none⟩) tops.length cc]) o2 ?_
 refine vs ?_
 refine oQ.intro (.slice (some ⟨B.tp,0,none⟩) tops.length cc) (fun H' hI=>by refine v1 (ae hI) ?_;trivial) ?_
 refine v1 (ae o2) ?_
 have hg:=hh.1
 have dD:g<tops.length:=by
  have:=(anA.1 hh.2).1
  have:=l.tl
  omega
 have q3:=m2.fB q2 (dY (tops:=tops) (h:=g) (by omega) dD)
 have cV:=fun y=>eC hx (g,k,s) y
 have bo:Uq (aI (w.put x (g,k,s))) (aU (w.put x (g,k,s))) (bi L) (bq L) (bm tops) g x:=by
  refine l.bt.ins rfl (Int.not_lt.1 fun h=>bQ (bK.1 h)) (by omega) (by omega) (by rw[cV,if_pos rfl]) (fun y hy=>by rw[cV,if_neg hy]) (fun a b ha hb tT oS=>dI hx _ ha hb tT oS)
 refine And.intro o2 ?_
 refine vs ?_
 refine⟨⟨by omega,by omega⟩,?_⟩
 refine v4 (ae q2) anB anD q3 ?_
 refine And.intro o2 ?_
 refine vs ?_
 refine(j9 m2 bo.mg).mono ?_
 rintro _ H3 ⟨r,L3,rs3,rfl,m3,g3,_,e3⟩
 have bn:=bo.done g3
 obtain⟨d1,d2,d3,d4⟩:=m2.rl.1
 have no:¬ (C B.n∨B.n=B.tl∨B.n=B.rk):=by rintro(h|h|h);exact m2.out.1 h;omega;omega
 refine And.intro (e3.own o2 no) ?_
 have q4:=e3.own q2 (by obtain⟨_,⟨_,_,d7⟩,⟨_,d9⟩,d10⟩:=m2.rl;rintro(h|h|h);exact m2.out.2.2.2.2 h;omega;omega)
 refine vs ?_
 refine⟨⟨by omega,by omega⟩,?_⟩
 refine v3 q4 anB anD ?_
 refine⟨by omega,?_⟩
 obtain⟨m4,e4⟩:=m3.nS q4 g.toNat r
 refine And.intro (e4.own (e3.own o2 no) d4) ?_
 refine vs ?_
 refine .inr ⟨tD,rfl,B.S C,⟨B,C,L3,rs3,_,rfl,m4,⟨?_,by rw[anC];exact l.tl⟩,fun z=>Iff.rfl⟩,?_,fun z hz=>.inl ((hS z).2 hz)⟩
 ·rw[eV (by omega) dD]
  exact bn
 ·have hC:∀z,C z→S z:=fun z h=>(hS z).2 (.inl h)
  have h1:S B.tl:=(hS _).2 (.inr (.inr (.inr (.inl rfl))))
  have h2:S B.rk:=(hS _).2 (.inr (.inr (.inr (.inr (.inl rfl)))))
  have h3:S B.tp:=(hS _).2 (.inr (.inr (.inr (.inr (.inr rfl)))))
  exact(((((f0.mono fun _ _ h=>h.elim).trans (e1.mono fun z _ h=>hC z h)).trans (e2.mono fun z _ h=>h▸h2)).trans (e3.mono fun z _ h=>by rcases h with h|rfl|rfl;exact hC z h;exact h1;exact h2)).trans (e4.mono fun z _ h=>h▸h3))
theorem BP.none{hm:Int→Int}{lt:Int→Int→Bool}{K:Int→Bool→Int}{U T:Int→Int}(h0:hm (-1)=0)(hh:∀x,¬0<hm x)(hk:∀x c,K x c= -1)(hu:∀x,U x= -1)(ht:∀g,T g= -1):BP hm lt K U T:=
 ⟨⟨h0,fun p c x h hx=>absurd (h.symm.trans (hk p c)) hx,fun x p h hp=>absurd (h.symm.trans (hu x)) hp,fun p _=>hk p _⟩,fun g h=>absurd (ht g) h,fun x hx=>absurd hx (hh x)⟩
theorem CR(n:Nat)(x:Int)(c:Bool):bi (List.replicate n mq) x c= -1:=by
 by_cases h:0≤x∧x< (List.replicate n mq).length
 ·have h2:=h.2
  rw[aov]at h2
  rw[sr (y:=mq) h.1 (by rw[aoH,if_pos (by omega)])]
  cases c<;>rfl
 ·exact SH h c
theorem Hk(n:Nat)(x:Int):bq (List.replicate n mq) x= -1:=by
 by_cases h:0≤x∧x< (List.replicate n mq).length
 ·have h2:=h.2
  rw[aov]at h2
  rw[xD (y:=mq) h.1 (by rw[aoH,if_pos (by omega)])]
  rfl
 ·exact Od h
def CS(cap:Int):Nw:=⟨[false],List.replicate cap.toNat (0,0,0)⟩
theorem nT(cap:Int)(x:Int):¬0<aI (CS cap) x:=by
 intro h
 obtain⟨h1,h2,e,he⟩:=aH h
 have h3:(List.replicate cap.toNat ((0,0,0):Ce))[x.toNat]? =some (aI (CS cap) x,e):=he
 have:=apA (anG h3)
 injection this with h4 h5
 omega
theorem Ek(g:Int):bm [-1] g= -1:=by
 unfold bm
 split
 ·rw[anE]
  rcases hg:g.toNat with _|k
  ·rfl
  ·rfl
 ·rfl
theorem tE(k:Nat):cN [Value.int .i64 0] k=(List.replicate k (0:Int)).map i64:=by
 induction k with
 |zero=>rfl
 |succ k ih=>simp only[cN,aor,aoI,aoy]at*;rw[ih];rfl
theorem El(cap:Int)(H:Hp):ai Tryz.prog IG [i64 cap] H fun v H'=>ay (
  aq H H'∧((¬ (0≤cap∧cap≤65536)∧v= .tuple [.pointer none,i64 31].toArray)∨
   ((0≤cap∧cap≤65536)∧∃n S,v= .tuple [ptr n,i64 0].toArray∧dJ n H' S (CS cap)∧∀x,S x→H.size≤x))):=by
 refine ba IR ⟨rfl,?_⟩
 refine v1 r7.eq_1 ?_
 refine(nQ cap H).mono ?_
 rintro _ H1 ⟨f1,⟨hb,rfl⟩| ⟨hb,c,C,rfl,c1,hC⟩⟩
 ·refine vs ?_
  exact⟨f1,.inl ⟨hb,rfl⟩⟩
 refine v1 anZ ?_
 refine(xE H1 hb).mono ?_
 rintro _ H2 ⟨t,tl,rfl,t2,f2,ht,Mr⟩
 refine vs ?_
 refine⟨⟨by omega,by omega,by omega,by omega⟩,?_⟩
 refine vs ?_
 rw[tE]
 have zS:=c1.slt
 have z1:=f1.size
 have z2:=f2.size
 have Iu:=aG t2.own
 have Xi:=aG t2.nR
 have f3:aq H2 (((H2.new 3 ((List.replicate cap.toNat (0:Int)).map i64)).new 3 [Value.int .i64 (-1)]).new 279 [ptr c,ptr t,.slice (some ⟨H2.size,0,none⟩) cap.toNat cap.toNat,.slice (some ⟨H2.size+1,0,none⟩) 1 1]):=(((ah.refl _ _).new _ _).new _ _).new _ _
 have e1:ah (fun _=>False) (H2.new 3 ((List.replicate cap.toNat (0:Int)).map i64)) (((H2.new 3 ((List.replicate cap.toNat (0:Int)).map i64)).new 3 [Value.int .i64 (-1)]).new 279 [ptr c,ptr t,.slice (some ⟨H2.size,0,none⟩) cap.toNat cap.toNat,.slice (some ⟨H2.size+1,0,none⟩) 1 1]):=((ah.refl _ _).new _ _).new _ _
 have e2:ah (fun _=>False) ((H2.new 3 ((List.replicate cap.toNat (0:Int)).map i64)).new 3 [Value.int .i64 (-1)]) (((H2.new 3 ((List.replicate cap.toNat (0:Int)).map i64)).new 3 [Value.int .i64 (-1)]).new 279 [ptr c,ptr t,.slice (some ⟨H2.size,0,none⟩) cap.toNat cap.toNat,.slice (some ⟨H2.size+1,0,none⟩) 1 1]):=(ah.refl _ _).new _ _
 have ft:=f1.trans (f2.trans f3)
 refine⟨ft,.inr ⟨hb,H2.size+1+1,(LB.mk (H2.size+1+1) c t tl H2.size (H2.size+1)).S C,rfl,⟨⟨H2.size+1+1,c,t,tl,H2.size,H2.size+1⟩,C,_,List.replicate cap.toNat 0,[-1],rfl,
  ⟨⟨.slice (some ⟨H2.size+1,0,none⟩) 1 1,?_,?_⟩,c1.fresh (f2.trans f3),t2.fresh f3,?_,?_,?_,?_⟩,⟨BP.none rfl (nT cap) (CR _) (Hk _) Ek,rfl⟩,fun z=>Iff.rfl⟩,fun z hz=>?_⟩⟩
 ·rw[aov]
  exact bD (by simp only[ar])
 ·exact(Sl.dw (size:=1) (n:=1) (xs:=[i64 (-1)]) rfl (by simp only[ar])).ext e2 (fun _ _ h=>h)
 ·exact e1.own (aE _ _ _) (fun h=>h)
 ·simp[CS]
 ·have:=t2.ne
  refine⟨⟨?_,?_,?_,?_⟩,⟨?_,?_,?_⟩,⟨?_,?_⟩,?_⟩<;>simp only<;>omega
 ·refine⟨fun h=>?_,fun h=>?_,fun h=>?_,fun h=>?_,fun h=>?_⟩<;>(have h2:=zS _ h;first|omega| (simp only at h2;omega))
 ·rcases hz with hz|rfl|rfl|rfl|rfl|rfl
  ·exact hC z hz
  all_goals first|omega| (simp only;omega)
theorem CT{n:Nat}{H:Hp}{S:Nat→Prop}{w:Nw}(h:dJ n H S w):ai Tryz.prog pj [ptr n] H fun v H'=>ay (
  (w.hs.length=65537∧v=i64 0∧cD (dJ n) S H H' w)∨(w.hs.length≠65537∧v=i64 w.hs.length∧cD (dJ n) S H H' w.make)):=by
 obtain⟨B,C,L,rs,tops,rfl,m,l,hS⟩:=id h
 obtain⟨tv,ho,Gf⟩:=m.own
 refine ba zv ⟨rfl,?_⟩
 refine v2 iU.eq_1 (ae ho) ?_
 refine(lV m.cells).mono ?_
 rintro _ H1 (⟨h1,rfl,rfl⟩| ⟨h1,rfl,C',c1,e1,Bp⟩)
 ·refine vs ?_
  exact .inl ⟨h1,rfl,cD.same h (ah.refl _ _)⟩
 have jj:=m.cells.pos
 have hhs:=m.cells.Gf
 have Mr:=l.tl
 have slt:=m.slt
 have Mw:=c1.slt
 obtain⟨n1,n2,n3,n4,n5⟩:=m.out
 obtain⟨⟨d1,d2,d3,d4⟩,⟨d5,d6,d7⟩,⟨d8,d9⟩,d10⟩:=m.rl
 have o1:=e1.own ho n1
 refine vs ?_
 refine am.cF (anQ (by omega)) ?_
 refine v1 (ae o1) ?_
 have s1:=Gf.ext e1 (fun b hb=>by injection hb with hb;exact hb▸n5)
 refine Sw s1 (-1) (by omega) fun w' H2 b' rR s2 e2=>?_
 have o2:=e2.own o1 d4
 obtain⟨wa,wc,PD⟩:=Sl.shape s2
 subst PD
 refine v1 o2 ?_
 generalize PD:Value.slice wa (tops++[-1]).length wc=w' at*
 have e3:ah (fun z=>z=B.n) H2 (H2.wr B.n [ptr B.c,ptr B.t,.slice (some ⟨B.rk,0,none⟩) rs.length rs.length,w']):=(ah.refl (fun z=>z=B.n) _).wr (fun _=>rfl) _
 have z1:=e1.size
 have sl:∀z,z=B.n∨z=B.t∨z=B.tl∨z=B.rk∨z=B.tp→z<H.size:=fun z hz=>slt z (.inr hz)
 have hn:=sl _ (.inl rfl)
 have ht:=sl _ (.inr (.inl rfl))
 have Xi:=sl _ (.inr (.inr (.inl rfl)))
 have hrk:=sl _ (.inr (.inr (.inr (.inl rfl))))
 have htp:=sl _ (.inr (.inr (.inr (.inr rfl))))
 have Hl:∀z,C' z→z≠b'∧(z<H.size→C z):=fun z hz=>by
  have h5:=Mw z hz
  rcases Bp z hz with h6|h6
  ·refine⟨fun e=>?_,fun _=>h6⟩
   rcases rR with h7|h7
   ·exact n5 (by rw[←h7,←e];exact h6)
   ·omega
  ·exact⟨by omega,fun h=>by omega⟩
 refine .inr ⟨h1,rfl,(LB.mk B.n B.c B.t B.tl B.rk b').S C',⟨⟨B.n,B.c,B.t,B.tl,B.rk,b'⟩,C',L,rs,tops++[-1],rfl,⟨⟨w',aj o2,s2.ext e3 (fun b hb=>by injection hb with hb;omega)⟩,?_,?_,?_,m.len,?_,?_⟩,⟨by rw[CL];exact l.bt,?_⟩,fun z=>Iff.rfl⟩,?_,fun z hz=>?_⟩
 ·exact(c1.ext e2 (fun x hx e=>by
   rcases Bp x hx with h6|h6
   ·exact n5 (e▸h6)
   ·omega)).ext e3 (fun x hx e=>by
   rcases Bp x hx with h6|h6
   ·exact n1 (e▸h6)
   ·omega)
 ·exact((m.bY.ext e1 n2 n3).ext e2 d7 d9).ext e3 (Ne.symm d1) (Ne.symm d2)
 ·exact e3.own (e2.own (e1.own m.Ef n4) d10) (Ne.symm d3)
 ·refine⟨⟨d1,d2,d3,?_⟩,⟨d5,d6,?_⟩,⟨d8,?_⟩,?_⟩<;>simp only<;>omega
 ·refine⟨fun h=>?_,fun h=>?_,fun h=>?_,fun h=>?_,fun h=>?_⟩
  ·exact n1 ((Hl _ h).2 hn)
  ·exact n2 ((Hl _ h).2 ht)
  ·exact n3 ((Hl _ h).2 Xi)
  ·exact n4 ((Hl _ h).2 hrk)
  ·exact(Hl _ h).1 rfl
 ·simp[Nw.make,Mr]
 ·exact((e1.mono fun z _ h=>(hS z).2 (.inl h)).trans (e2.mono fun z _ h=>(hS z).2 (.inr (.inr (.inr (.inr (.inr h))))))).trans (e3.mono fun z _ h=>(hS z).2 (.inr (.inl h)))
 ·rcases hz with hz|rfl|rfl|rfl|rfl|rfl
  ·rcases Bp z hz with h6|h6
   ·exact .inl ((hS z).2 (.inl h6))
   ·exact .inr h6
  ·exact .inl ((hS _).2 (.inr (.inl rfl)))
  ·exact .inl ((hS _).2 (.inr (.inr (.inl rfl))))
  ·exact .inl ((hS _).2 (.inr (.inr (.inr (.inl rfl)))))
  ·exact .inl ((hS _).2 (.inr (.inr (.inr (.inr (.inl rfl))))))
  ·rcases rR with rfl|h7
   ·exact .inl ((hS _).2 (.inr (.inr (.inr (.inr (.inr rfl))))))
   ·exact .inr (by first|omega| (simp only;omega))
theorem SQ.first{w:Nw}{L:List Lk}{tops:List Int}(l:SQ w L tops){g x:Int}(h:w.first g x):bm tops g=x:=by
 obtain⟨h1,h2,h3⟩:=bO.1 h
 have:=l.bt.first (x:=x) (by omega) (fun y hy aS=>h3 y (by omega) aS) (au w)
 rwa[h2]at this
theorem tF{n:Nat}{H:Hp}{S:Nat→Prop}{w:Nw}(h:dJ n H S w)(g:Int):ai Tryz.prog p9 [ptr n,i64 g] H fun v H'=>ay (
  ((w.len g=0∧v= .tuple [i64 0,.bool false].toArray)∨∃x,w.first g x∧v= .tuple [i64 x,.bool true].toArray)∧H'=H):=by
 obtain⟨B,C,L,rs,tops,rfl,m,l,hS⟩:=h
 obtain⟨cc,lt,ho,q2,Cz,yz,Nq⟩:=m.hG
 refine ba A5 ⟨rfl,?_⟩
 refine v2 jX.eq_1 (ae ho) ?_
 refine(xC m.cells g).mono ?_
 rintro _ _ ⟨rfl,rfl⟩
 refine vs ?_
 refine am.dec (fun h0=>?_) (fun h0=>?_)
 ·refine vs ?_
  exact⟨.inl ⟨h0,rfl⟩,rfl⟩
 have hg:0<g:=anX fun hg=>h0 (Nw.I9.2 (.inl (by omega)))
 obtain⟨x,hx⟩:=xB hg h0
 have hh:=(bO.1 hx).2.1
 have dD:=((m.cells.hm x).2 (by omega)).2
 rw[hh,←l.tl]at dD
 have q3:=m.fB q2 (dY (tops:=tops) (h:=g) (by omega) dD)
 rw[l.first hx]at q3
 refine v1 (ae ho) ?_
 refine⟨⟨by omega,by omega⟩,?_⟩
 refine v4 (ae q2) anB anD q3 ?_
 exact⟨.inr ⟨x,hx,rfl⟩,rfl⟩
set_option maxRecDepth 100000 in
theorem wz{n:Nat}{H:Hp}{S:Nat→Prop}{w:Nw}(h:dJ n H S w)(x k s:Int):ai Tryz.prog kB [ptr n,i64 x,wq k s] H fun v H'=>ay (
  (¬w.de x k s∧v= .bool false∧cD (dJ n) S H H' w)∨(w.de x k s∧v= .bool true∧∃y,w.cs[x.toNat]? =some y∧cD (dJ n) S H H' (w.put x (y.1,k,s)))):=by
 obtain⟨B,C,L,rs,tops,rfl,m,l,hS⟩:=h
 refine ba tj ⟨rfl,?_⟩
 refine v1 kD.eq_1 ?_
 have f0:aq H (H.new 224 [i64 k,u64 s]):=(ah.refl _ _).new _ _
 have b0:(H.new 224 [i64 k,u64 s]).own H.size=some [i64 k,u64 s]:=aE _ _ _
 have m0:=m.fresh f0
 generalize H.new 224 [i64 k,u64 s]=H0 at*
 obtain⟨tv,KH,_⟩:=m0.own
 refine v2 (ae KH) (ae b0) ?_
 refine(jo m0.cells x k s).mono ?_
 have hC:∀z,C z→S z:=fun z h=>(hS z).2 (.inl h)
 have ff:ah S H H0:=f0.mono fun _ _ h=>h.elim
 rintro _ H1 (⟨cw,rfl,c1,e1⟩| ⟨bQ,rfl,y,hy,gk,c1,e1⟩)
 ·refine vs ?_
  exact .inl ⟨cw,rfl,cD.same ⟨B,C,L,rs,tops,rfl,m0.ext e1 (fun _ _ h=>h),l,hS⟩ (ff.trans (e1.mono fun _ _ h=>h.elim))⟩
 have rG:(w.put x (y.1,k,s)).cs.length=w.cs.length:=by simp[Nw.put]
 have m1:=m0.aN c1 e1 rG
 have CU:w.de x k s:=⟨bQ,fun z hz=>by rw[hy]at hz;injection hz with hz;rw[←hz];exact gk⟩
 have hx:0≤x∧x<w.cs.length:=⟨bQ.1,by have:=(anA.1 hy).1;have:=bQ.1;omega⟩
 have Rz:aI w x=y.1:=mZ bQ.1 hy
 have ec:=bK.2 bQ
 have hw:aI (w.put x (y.1,k,s))=aI w:=by
  funext z
  rw[eC hx]
  split
  ·rename_i e;rw[e,Rz]
  ·rfl
 have FZ:cZ (w.put x (y.1,k,s)).cs x:=bK.1 (by rw[hw];exact ec)
 obtain⟨Eg,o1,_⟩:=m1.own
 refine v1 (ae o1) ?_
 refine(dA m1.cells x).mono ?_
 rintro _ H2 (⟨cw,_,_⟩| ⟨_,rfl,c2,e2⟩)
 ·exact absurd FZ cw
 have m2:=m1.aN c2 e2 rfl
 obtain⟨Og,o2,_⟩:=m2.own
 have re:ah S H H2:=(ff.trans (e1.mono fun z _ h=>hC z h)).trans (e2.mono fun z _ h=>hC z h)
 have el:∀a b,0<aI w a→0<aI w b→a≠x→b≠x→aU (w.put x (y.1,k,s)) a b=aU w a b:=fun a b ha hb tT oS=>dI hx _ ha hb tT oS
 have ex:∀b,0<aI w b→b≠x→aU w x b=true→aU (w.put x (y.1,k,s)) x b=true:=fun b hb oS h=>CK bQ hy gk hb oS h
 refine v1 (ae o2) ?_
 refine(cP m2.bY (x:=x) (fun hu=>by have:=CM.up l.bt.bt hu;have:=m2.len.1;omega)).mono ?_
 rintro _ H3 ⟨rfl,L3,t3,l3,k3,u3,e3⟩
 have m3:=m2.dN t3 e3 l3
 have h1:S B.tl:=(hS _).2 (.inr (.inr (.inr (.inl rfl))))
 have h2:S B.rk:=(hS _).2 (.inr (.inr (.inr (.inr (.inl rfl)))))
 have h3:S B.tp:=(hS _).2 (.inr (.inr (.inr (.inr (.inr rfl)))))
 have zU:ah S H H3:=re.trans (e3.mono fun z _ h=>h▸h1)
 unfold iw
 by_cases hu:bq L x= -1
 ·rw[if_pos hu]
  refine vs ?_
  have kk:bi L3=bi L:=by rw[k3];unfold kP;rw[if_pos hu]
  have uu:bq L3=bq L:=by
   rw[u3]
   funext z
   unfold c9 aK
   split
   ·rename_i e;rw[e,hu]
   ·rfl
  refine .inr ⟨CU,rfl,y,hy,cD.same ⟨B,C,L3,rs,tops,rfl,m3,⟨?_,l.tl⟩,hS⟩ zU⟩
  rw[hw,kk,uu]
  exact l.bt.Ur ec hu el ex (au w)
 rw[if_neg hu]
 refine vs ?_
 have bo:=l.bt.low ec hu el ex (au w)
 rw[←hw,←k3,←u3]at bo
 have Fh:=CM.up l.bt.bt hu
 refine(lX m3 bo.bt (x:=bq L x) (fun _=>by rw[hw,Fh.2.2.2];exact ec)).mono ?_
 rintro _ H4 ⟨L4,V7,m4,b4,u4,e4⟩
 have bo4:Uq (aI (w.put x (y.1,k,s))) (aU (w.put x (y.1,k,s))) (bi L4) (bq L4) (bm tops) (aI (w.put x (y.1,k,s)) x) x:=⟨b4,by rw[u4];exact bo.t1,by rw[u4];exact bo.t2,by rw[u4];exact bo.ox,bo.nx,bo.g0⟩
 have zE:ah S H H4:=zU.trans (e4.mono fun z _ h=>by rcases h with rfl|rfl;exact h1;exact h2)
 obtain⟨cc,lt,o4,q2,Cz,yz,Nq⟩:=m4.hG
 have dD:aI (w.put x (y.1,k,s)) x<tops.length:=by
  have:=((m4.cells.hm x).2 bo.g0).2
  have e5:(w.put x (y.1,k,s)).hs=w.hs:=rfl
  rw[e5]at this
  have:=l.tl
  omega
 have SN:=bo.g0
 generalize hg:aI (w.put x (y.1,k,s)) x=g at*
 have q3:=m4.fB q2 (dY (tops:=tops) (h:=g) (by omega) dD)
 refine vs ?_
 refine rq.intro (fun H'=>H'.own B.n=some [ptr B.c,ptr B.t,.slice (some ⟨B.rk,0,none⟩) V7.length V7.length,.slice (some ⟨B.tp,0,none⟩) tops.length cc]) o4 ?_
 refine vs ?_
 refine oQ.intro (.slice (some ⟨B.tp,0,none⟩) tops.length cc) (fun H' hI=>by refine v1 (ae hI) ?_;trivial) ?_
 refine v1 (ae o4) ?_
 refine And.intro o4 ?_
 refine vs ?_
 refine⟨⟨by omega,by omega⟩,?_⟩
 refine v4 (ae q2) anB anD q3 ?_
 refine And.intro o4 ?_
 refine vs ?_
 refine(j9 m4 bo4.mg).mono ?_
 rintro _ H5 ⟨r,L5,rs5,rfl,m5,g5,_,e5⟩
 have bn:=bo4.done g5
 obtain⟨d1,d2,d3,d4⟩:=m4.rl.1
 have no:¬ (C B.n∨B.n=B.tl∨B.n=B.rk):=by rintro(h|h|h);exact m4.out.1 h;omega;omega
 refine And.intro (e5.own o4 no) ?_
 have q4:=e5.own q2 (by obtain⟨_,⟨_,_,d7⟩,⟨_,d9⟩,d10⟩:=m4.rl;rintro(h|h|h);exact m4.out.2.2.2.2 h;omega;omega)
 refine vs ?_
 refine⟨⟨by omega,by omega⟩,?_⟩
 refine v3 q4 anB anD ?_
 refine⟨by omega,?_⟩
 obtain⟨m6,e6⟩:=m5.nS q4 g.toNat r
 refine And.intro (e6.own (e5.own o4 no) d4) ?_
 refine vs ?_
 refine .inr ⟨CU,rfl,y,hy,cD.same ⟨B,C,L5,rs5,_,rfl,m6,⟨?_,by rw[anC];exact l.tl⟩,hS⟩ ?_⟩
 ·rw[eV (by omega) dD]
  exact bn
 ·exact(zE.trans (e5.mono fun z _ h=>by rcases h with h|rfl|rfl;exact hC z h;exact h1;exact h2)).trans (e6.mono fun z _ h=>h▸h3)
set_option maxRecDepth 100000 in
set_option maxHeartbeats 1000000 in
theorem zG{n:Nat}{H:Hp}{S:Nat→Prop}{w:Nw}(h:dJ n H S w)(x:Int):ai Tryz.prog vM [ptr n,i64 x] H fun v H'=>ay (
  (¬cZ w.cs x∧v= .bool false∧cD (dJ n) S H H' w)∨(cZ w.cs x∧v= .bool true∧cD (dJ n) S H H' (w.put x (0,0,0)))):=by
 obtain⟨B,C,L,rs,tops,rfl,m,l,hS⟩:=id h
 have hC:∀z,C z→S z:=fun z h=>(hS z).2 (.inl h)
 have s1:S B.tl:=(hS _).2 (.inr (.inr (.inr (.inl rfl))))
 have s2:S B.rk:=(hS _).2 (.inr (.inr (.inr (.inr (.inl rfl)))))
 have s3:S B.tp:=(hS _).2 (.inr (.inr (.inr (.inr (.inr rfl)))))
 obtain⟨tv,o0,_⟩:=m.own
 refine ba vY ⟨rfl,?_⟩
 refine v2 fS.eq_1 (ae o0) ?_
 refine(dA m.cells x).mono ?_
 rintro _ H1 (⟨cw,rfl,rfl⟩| ⟨bQ,rfl,c1,e1⟩)
 ·refine vs ?_
  exact .inl ⟨cw,rfl,cD.same h (ah.refl _ _)⟩
 have m1:=m.aN c1 e1 rfl
 obtain⟨Eg,o1,_⟩:=m1.own
 have ec:=bK.2 bQ
 obtain⟨ik,kj,_⟩:=aH ec
 have Ge:x≠ -1:=by omega
 have ls:=au w
 have t:=l.bt
 refine v1 (ae o1) ?_
 obtain⟨a1,b1,ea1⟩:=cQ (bi L x false)
 obtain⟨a2,b2,ea2⟩:=cQ (bi L x true)
 refine⟨.tuple [i64 a1,.bool b1].toArray,(oO m1.bY x).mono (by rintro v H' ⟨rfl,rfl⟩;exact⟨ea1,rfl⟩),?_⟩
 refine vs ?_
 refine⟨_,cC H1 _ a1 b1 ea1,?_⟩
 refine v1 (ae o1) ?_
 refine(cB m1.bY x).mono ?_
 rintro _ H' ⟨rfl,e⟩
 obtain rfl:=e.symm
 rw[ea2]
 refine vs ?_
 refine(cC H1 _ a2 b2 ea2).mono ?_
 rintro _ H' ⟨rfl,e⟩
 obtain rfl:=e.symm
 refine v1 (ae o1) ?_
 refine(cP m1.bY (x:=bi L x false) (fun hu=>by have:=CM.up t.bt hu;have:=m1.len.1;omega)).mono ?_
 rintro _ H2 ⟨rfl,L2,t2,l2,k2,u2,e2⟩
 have m2:=m1.dN t2 e2 l2
 have bt2:CM w L2:=by
  show Bt _ _ _ _
  rw[k2,u2];exact t.bt.Up _
 obtain⟨Og,o2,_⟩:=m2.own
 refine v1 (ae o2) ?_
 refine(cP m2.bY (x:=bi L x true) (fun hu=>by have:=CM.up bt2 hu;have:=m2.len.1;omega)).mono ?_
 rintro _ H3 ⟨rfl,L3,t3,l3,k3,u3,e3⟩
 rw[k2,u2]at k3
 rw[u2]at u3
 have m3:=m2.dN t3 e3 l3
 obtain⟨w1,w2,w3,w4⟩:=t.bt.bare x
 have hk:∀c,bi L x c= -1∨(aI w (bi L x c)=aI w x∧bq L3 (bi L x c)= -1):=fun c=>by
  by_cases hk:bi L x c= -1
  ·exact .inl hk
  ·refine .inr ⟨(t.bt.home hk).2.2.1,?_⟩
   rw[u3,w4,if_pos]
   cases c
   ·exact .inl rfl
   ·exact .inr rfl
 rw[←k3,←u3]at w1
 have mg:=Mg.start w1 ec (hk false) (hk true) (fun e=>t.bt.two x e)
 refine vs ?_
 refine(j9 m3 mg).mono ?_
 rintro _ H4 ⟨r,L4,V7,rfl,m4,g4,f4,e4⟩
 have f4:=f4 x (yB.start (fun hk=>(t.bt.home hk).2.2.2.2) (fun hk=>(t.bt.home hk).2.2.2.2))
 have d:=t.VQ ls ec k3 u3 g4 f4
 have zE:ah S H H4:=(((e1.mono fun z _ h=>hC z h).trans (e2.mono fun z _ h=>h▸s1)).trans (e3.mono fun z _ h=>h▸s1)).trans (e4.mono fun z _ h=>by rcases h with h|rfl|rfl;exact hC z h;exact s1;exact s2)
 obtain⟨tv4,o4,_⟩:=m4.own
 have cV:=fun y=>eC (w:=w) ⟨ik,kj⟩ (0,0,0) y
 have p0:aI (w.put x (0,0,0)) (-1)=0:=rfl
 have p1:aI (w.put x (0,0,0)) x=0:=by rw[cV,if_pos rfl]
 have p2:∀y,y≠x→aI (w.put x (0,0,0)) y=aI w y:=fun y hy=>by rw[cV,if_neg hy]
 have el:∀a b,0<aI w a→0<aI w b→a≠x→b≠x→aU (w.put x (0,0,0)) a b=aU w a b:=fun a b ha hb tT oS=>dI ⟨ik,kj⟩ _ ha hb tT oS
 have rG:(w.put x (0,0,0)).cs.length=w.cs.length:=by simp[Nw.put]
 refine v1 (ae o4) ?_
 refine(sw m4.bY x).mono ?_
 rintro _ H' ⟨rfl,e⟩
 obtain rfl:=e.symm
 rw[d.ux]
 unfold iw
 by_cases hu:bq L x= -1
 ·rw[if_pos hu]
  obtain⟨cc,lt,o5,q5,Cz,yz,Nq⟩:=m4.hG
  have dD:aI w x<tops.length:=by
   have:=((m4.cells.hm x).2 ec).2
   have:=l.tl
   omega
  refine v1 (ae o5) ?_
  refine⟨⟨by omega,by omega⟩,?_⟩
  refine v3 q5 anB anD ?_
  refine⟨by omega,?_⟩
  obtain⟨m5,e5⟩:=m4.nS q5 (aI w x).toNat r
  obtain⟨tv6,o6,_⟩:=m5.own
  refine v1 (ae o6) ?_
  refine(ck m5.cells x).mono ?_
  rintro _ H6 (⟨cw,_,_⟩| ⟨_,rfl,c6,e6⟩)
  ·exact absurd bQ cw
  have m6:=m5.aN c6 e6 rG
  refine vs ?_
  refine .inr ⟨bQ,rfl,cD.same ⟨B,C,L4,V7,_,rfl,m6,⟨?_,by rw[anC];exact l.tl⟩,hS⟩ ((zE.trans (e5.mono fun z _ h=>h▸s3)).trans (e6.mono fun z _ h=>hC z h))⟩
  rw[eV (by omega) dD]
  exact d.PZ t ec hu p0 p1 p2 el
 ·rw[if_neg hu]
  have Fh:=CM.up t.bt hu
  obtain⟨w5,w6⟩:=d.cut t ls ec hu
  obtain⟨a3,b3,Zm⟩:=cQ (bi L4 (bq L x) true)
  refine v1 (ae o4) ?_
  refine(cB m4.bY (bq L x)).mono ?_
  rintro _ H' ⟨rfl,e⟩
  obtain rfl:=e.symm
  rw[Zm]
  refine vs ?_
  refine(cC _ _ a3 b3 Zm).mono ?_
  rintro _ H' ⟨rfl,e⟩
  obtain rfl:=e.symm
  rw[d.kp _ true rfl hu]
  refine v1 (ae o4) ?_
  refine(cP m4.bY (x:=x) (fun Xj=>by have:=CM.up d.bt Xj;have:=m4.len.1;omega)).mono ?_
  rintro _ H5 ⟨rfl,L5,t5,l5,k5,u5,e5⟩
  have m5:=m4.dN t5 e5 l5
  obtain⟨tv5,o5,_⟩:=m5.own
  refine vs ?_
  have Wd:=zE.trans (e5.mono fun z _ h=>h▸s1)
  refine am.dec (fun g=>?_) (fun g=>?_)<;>refine vs ?_
  ·have m6:=m5
   have RJ:=Wd
   have b6:CM w L5:=by
    show Bt _ _ _ _
    rw[k5,u5];exact w5 g
   have u6:bq L5=if r= -1 then c9 (bq L4) x else aK (c9 (bq L4) x) r (bq L x):=by rw[if_pos g];exact u5
   refine(lX m6 b6 (x:=bq L x) (fun _=>by rw[Fh.2.2.2];exact ec)).mono ?_
   rintro _ H7 ⟨L7,rs7,m7,b7,u7,e7⟩
   have e17:=RJ.trans (e7.mono fun z _ h=>by rcases h with rfl|rfl;exact s1;exact s2)
   obtain⟨tv7,o7,_⟩:=m7.own
   refine v1 (ae o7) ?_
   refine(ck m7.cells x).mono ?_
   rintro _ H8 (⟨cw,_,_⟩| ⟨_,rfl,c8,e8⟩)
   ·exact absurd bQ cw
   have m8:=m7.aN c8 e8 rG
   refine vs ?_
   refine .inr ⟨bQ,rfl,cD.same ⟨B,C,L7,rs7,tops,rfl,m8,⟨?_,l.tl⟩,hS⟩ (e17.trans (e8.mono fun z _ h=>hC z h))⟩
   exact d.below t ls (n:=w.cs.length) (fun y hy=>by obtain⟨y0,y1,_⟩:=aH hy;exact⟨y0,y1⟩) ec hu b7 (by rw[u7,u6]) p0 p1 p2 el
  ·obtain⟨y1,y2,y3,y4⟩:=w6 g
   obtain⟨r1,r2,r3,r4⟩:=d.rx g
   obtain⟨q1,q2,_⟩:=aH (w:=w) (x:=r) (by omega)
   have hl5:=m5.len
   refine v1 (ae o5) ?_
   refine(fG m5.bY (p:=bq L x) (x:=r) (c:=(bi L (bq L x) true==x)) ⟨Fh.1,by omega⟩ ⟨q1,by omega⟩ y3 (by rw[u5];exact y2) (by rw[k5];exact y1)).mono ?_
   rintro _ H6 ⟨rfl,L6,t6,l6,k6,SR,e6⟩
   have m6:=m5.dN t6 e6 l6
   have RJ:=Wd.trans (e6.mono fun z _ h=>h▸s1)
   rw[k5]at k6
   rw[u5]at SR
   have b6:CM w L6:=by
    show Bt _ _ _ _
    rw[k6,SR];exact y4
   have u6:bq L6=if r= -1 then c9 (bq L4) x else aK (c9 (bq L4) x) r (bq L x):=by rw[if_neg g];exact SR
   refine vs ?_
   refine(lX m6 b6 (x:=bq L x) (fun _=>by rw[Fh.2.2.2];exact ec)).mono ?_
   rintro _ H7 ⟨L7,rs7,m7,b7,u7,e7⟩
   have e17:=RJ.trans (e7.mono fun z _ h=>by rcases h with rfl|rfl;exact s1;exact s2)
   obtain⟨tv7,o7,_⟩:=m7.own
   refine v1 (ae o7) ?_
   refine(ck m7.cells x).mono ?_
   rintro _ H8 (⟨cw,_,_⟩| ⟨_,rfl,c8,e8⟩)
   ·exact absurd bQ cw
   have m8:=m7.aN c8 e8 rG
   refine vs ?_
   refine .inr ⟨bQ,rfl,cD.same ⟨B,C,L7,rs7,tops,rfl,m8,⟨?_,l.tl⟩,hS⟩ (e17.trans (e8.mono fun z _ h=>hC z h))⟩
   exact d.below t ls (n:=w.cs.length) (fun y hy=>by obtain⟨y0,y1,_⟩:=aH hy;exact⟨y0,y1⟩) ec hu b7 (by rw[u7,u6]) p0 p1 p2 el
theorem xL{n:Nat}{H:Hp}{S:Nat→Prop}{w:Nw}(h:dJ n H S w)(g:Int):ai Tryz.prog li [ptr n,i64 g] H fun v H'=>ay (
  (w.len g=0∧v= .tuple [i64 0,.bool false].toArray∧cD (dJ n) S H H' w)∨(∃x,w.first g x∧v= .tuple [i64 x,.bool true].toArray∧cD (dJ n) S H H' (w.put x (0,0,0)))):=by
 refine ba uw ⟨rfl,?_⟩
 refine v1 fy.eq_1 ?_
 refine(tF h g).mono ?_
 rintro _ _ ⟨⟨h0,rfl⟩| ⟨x,hx,rfl⟩,rfl⟩
 ·refine vs ?_
  exact .inl ⟨h0,rfl,cD.same h (ah.refl _ _)⟩
 ·refine vs ?_
  refine(zG h x).mono ?_
  rintro _ H1 (⟨cw,_,_⟩| ⟨_,rfl,h1⟩)
  ·exact absurd (bK.1 (by have:=bO.1 hx;omega)) cw
  refine vs ?_
  exact .inr ⟨x,hx,rfl,h1⟩
theorem KI(n:Nat):zW (.iface 210 (ptr n)) (dJ n) where
 slt h:=h.slt
 ext h e hd:=h.ext e hd
 cells:=by
  rintro H S w ⟨B,C,L,rs,tops,rfl,m,l,hS⟩
  exact⟨B.c,C,m.cells⟩
 has:=by
  rintro H S w g ⟨B,C,L,rs,tops,rfl,m,l,hS⟩
  obtain⟨tv,ho,_⟩:=m.own
  exact⟨_,_,bF,ptr B.c,rfl,hX (off:=0) (by kernel_rfl) (ae ho) rfl,(kJ m.cells g).mono fun v H' hp=>hp⟩
 make:=by
  intro H S w h
  exact⟨_,_,pj,ptr n,rfl,bE (by kernel_rfl),(CT h).mono fun v H' hp=>hp⟩
 insert:=by
  intro H S w g x k s h
  exact⟨_,_,mz,ptr n,rfl,bE (by kernel_rfl),(zF h g x k s).mono fun v H' hp=>hp⟩
 min:=by
  intro H S w g h
  refine⟨_,_,p9,ptr n,rfl,bE (by kernel_rfl),(tF h g).mono ?_⟩
  rintro v H' ⟨⟨h1,rfl⟩| ⟨x,h1,rfl⟩,rfl⟩
  ·exact .inl ⟨h1,rfl,cD.same h (ah.refl _ _)⟩
  ·exact .inr ⟨x,h1,rfl,cD.same h (ah.refl _ _)⟩
 extract:=by
  intro H S w g h
  exact⟨_,_,li,ptr n,rfl,bE (by kernel_rfl),(xL h g).mono fun v H' hp=>hp⟩
 qG:=by
  intro H S w x k s h
  exact⟨_,_,kB,ptr n,rfl,bE (by kernel_rfl),(wz h x k s).mono fun v H' hp=>hp⟩
 entry:=by
  rintro H S w x ⟨B,C,L,rs,tops,rfl,m,l,hS⟩
  obtain⟨tv,ho,_⟩:=m.own
  refine⟨_,_,bj,ptr B.c,rfl,hX (off:=0) (by kernel_rfl) (ae ho) rfl,(jn m.cells x).mono ?_⟩
  rintro v H' ⟨c1,f,hv⟩
  exact⟨⟨B,C,L,rs,tops,rfl,m.fresh f,l,hS⟩,f,hv⟩
theorem dQ:cU 2:=⟨by omega,by omega⟩
def swp(l:List Int)(i j:Nat):List Int:=(l.set i (l.getD j 0)).set j (l.getD i 0)
theorem hY(l:List Int)(i j:Nat):(swp l i j).length=l.length:=by unfold swp;simp
theorem CV{l:List Int}{i j:Nat}(hi:i<l.length)(hj:j<l.length)(k:Nat):(swp l i j).getD k 0=if k=j then l.getD i 0 else if k=i then l.getD j 0 else l.getD k 0:=by
 unfold swp
 rw[dH _ _ _ _ (by simpa using hj),dH _ _ _ _ hi]
 by_cases h1:j=k
 ·subst h1;simp
 ·rw[if_neg h1,if_neg (Ne.symm h1)]
  by_cases h2:i=k
  ·subst h2;simp
  ·rw[if_neg h2,if_neg (Ne.symm h2)]
theorem pN{l:List Int}{i j:Nat}(hi:i<l.length)(hj:j<l.length)(k:Nat):(swp l i j)[k]? =if k=j then l[i]? else if k=i then l[j]? else l[k]? :=by
 have hl:=hY l i j
 have hg:=CV hi hj k
 by_cases hk:k<l.length
 ·rw[anx (by omega)]
  rw[anE,anx (by omega)]at hg
  simp only[Option.getD_some]at hg
  rw[hg]
  have e:∀q,q<l.length→l[q]? =some (l.getD q 0):=fun q hq=>by rw[anE,anx hq];rfl
  split
  ·rw[e i hi]
  ·split
   ·rw[e j hj]
   ·rw[e k hk]
 ·rw[anP (by omega),if_neg (by omega),if_neg (by omega),anP (by omega)]
theorem UT{l:List Int}{i j:Nat}(hi:i<l.length)(hj:j<l.length)(z:Int):z∈swp l i j↔z∈l:=by
 constructor
 ·intro h
  obtain⟨k,hk⟩:=an8 h
  rw[pN hi hj]at hk
  split at hk
  ·exact anG hk
  ·split at hk
   ·exact anG hk
   ·exact anG hk
 ·intro h
  obtain⟨k,hk⟩:=an8 h
  by_cases h1:k=i
  ·subst h1
   refine anG (i:=j) ?_
   rw[pN hi hj,if_pos rfl,hk]
  ·by_cases h2:k=j
   ·subst h2
    refine anG (i:=i) ?_
    rw[pN hi hj]
    by_cases h3:i=k
    ·exact absurd h3.symm h1
    ·rw[if_neg h3,if_pos rfl,hk]
   ·refine anG (i:=k) ?_
    rw[pN hi hj,if_neg h2,if_neg h1,hk]
theorem Mx{l:List Int}{i j m:Nat}(hi:i<m)(hj:j<m)(hm:m≤l.length):(swp l i j).take m=swp (l.take m) i j:=by
 apply aoj
 intro k
 rw[pN (by rw[aot];omega) (by rw[aot];omega),aob,pN (by omega) (by omega),aob,aob,aob]
 rw[if_pos hi,if_pos hj]
 by_cases hk:k<m
 ·simp only[if_pos hk]
 ·simp only[if_neg hk,if_neg (show k≠j by omega),if_neg (show k≠i by omega)]
theorem SS{l:List Int}{i j m:Nat}(hi:i<m)(hj:j<m)(hm:m≤l.length):(swp l i j).drop m=l.drop m:=by
 apply aoj
 intro k
 rw[aoc,aoc,pN (by omega) (by omega),if_neg (by omega),if_neg (by omega)]
theorem dM.heap{lt:Int→Int→Bool}{l:List Int}{i:Nat}(h:dM lt 2 l i)(hB:∀j,1≤j→j<l.length→pa 2 j=i→lt (l.getD j 0) (l.getD i 0)=false)
  (hD:1≤i→i<l.length→lt (l.getD i 0) (l.getD (pa 2 i) 0)=false):eZ lt 2 l:=by
 intro j h1 h2
 by_cases e1:j=i
 ·subst e1;exact hD h1 h2
 ·by_cases e2:pa 2 j=i
  ·rw[e2];exact hB j h1 h2 e2
  ·exact h.1 j h1 h2 e1 e2
theorem Xk{lt:Int→Int→Bool}(ho:bC lt){l:List Int}{i:Nat}(hi:1≤i)(hl:i<l.length)(hA:dM lt 2 l i)(hB:∀j,1≤j→j<l.length→pa 2 j=i→lt (l.getD j 0) (l.getD i 0)=false)
  (aR:lt (l.getD i 0) (l.getD (pa 2 i) 0)=true):dM lt 2 (swp l (pa 2 i) i) (pa 2 i)∧∀j,1≤j→j< (swp l (pa 2 i) i).length→pa 2 j=pa 2 i→lt ((swp l (pa 2 i) i).getD j 0) ((swp l (pa 2 i) i).getD (pa 2 i) 0)=false:=by
 have hp:=cO dQ hi
 have g:=CV (l:=l) (i:=pa 2 i) (j:=i) (by omega) hl
 rw[hY]
 have afr:∀j,1≤j→j<l.length→pa 2 j=pa 2 i→j≠i→lt (l.getD j 0) (l.getD i 0)=false:=fun j h1 h2 h3 h4=>by
  have e4:=hA.1 j h1 h2 h4 (by omega)
  rw[h3]at e4
  cases hx:lt (l.getD j 0) (l.getD i 0)with
  |false=>rfl
  |true=>have:=ho.tr _ _ _ hx aR;rw[this]at e4;cases e4
 refine⟨⟨fun j h1 h2 h3 h4=>?_,fun j h1 h2 h3 h4=>?_⟩,fun j h1 h2 h3=>?_⟩
 ·rw[hY]at h2
  have Pv:=cO dQ h1
  rw[g,g,if_neg h4]
  by_cases e1:j=i
  ·subst e1;exact absurd rfl h4
  ·rw[if_neg e1,if_neg h3]
   by_cases e2:pa 2 j=i
   ·rw[if_pos e2]
    exact hA.2 j h1 h2 e2 (by omega)
   ·rw[if_neg e2];exact hA.1 j h1 h2 e1 e2
 ·rw[hY]at h2
  have Qa:=cO dQ h4
  rw[g,g,if_neg (show pa 2 (pa 2 i)≠i by omega),if_neg (show pa 2 (pa 2 i)≠pa 2 i by omega)]
  have e3:=hA.1 (pa 2 i) h4 (by omega) (by omega) (by omega)
  by_cases e1:j=i
  ·rw[if_pos e1];exact e3
  ·have Pv:=cO dQ h1
   rw[if_neg e1,if_neg (by omega)]
   have e4:=hA.1 j h1 h2 e1 (by omega)
   rw[h3]at e4
   exact ho.nt _ _ _ e4 e3
 ·have Pv:=cO dQ h1
  rw[g,g,if_neg (show pa 2 i≠i by omega),if_pos rfl]
  by_cases e1:j=i
  ·rw[if_pos e1];exact ho.asym aR
  ·rw[if_neg e1,if_neg (by omega)]
   exact afr j h1 h2 h3 e1
theorem ST{lt:Int→Int→Bool}(ho:bC lt){l:List Int}{i b:Nat}(hb:1≤b)(hl:b<l.length)(hp:pa 2 b=i)(hA:dM lt 2 l i)(uN:∀j,1≤j→j<l.length→pa 2 j=i→lt (l.getD j 0) (l.getD b 0)=false)
  (aR:lt (l.getD b 0) (l.getD i 0)=true):dM lt 2 (swp l i b) b∧lt ((swp l i b).getD b 0) ((swp l i b).getD (pa 2 b) 0)=false:=by
 have Lt:=cO dQ hb
 have g:=CV (l:=l) (i:=i) (j:=b) (by omega) hl
 refine⟨⟨fun j h1 h2 h3 h4=>?_,fun j h1 h2 h3 h4=>?_⟩,?_⟩
 ·rw[hY]at h2
  have Pv:=cO dQ h1
  rw[g,g,if_neg h3,if_neg h4]
  by_cases e1:j=i
  ·subst e1
   rw[if_pos rfl,if_neg (by omega)]
   exact hA.2 b hb hl hp h1
  ·rw[if_neg e1]
   by_cases e2:pa 2 j=i
   ·rw[if_pos e2];exact uN j h1 h2 e2
   ·rw[if_neg e2];exact hA.1 j h1 h2 e1 e2
 ·rw[hY]at h2
  have Pv:=cO dQ h1
  rw[g,g,if_neg (show j≠b by omega),if_neg (show j≠i by omega),if_neg (show pa 2 b≠b by omega),if_pos hp]
  have:=hA.1 j h1 h2 (by omega) (by omega)
  rw[h3]at this
  exact this
 ·rw[g,g,if_pos rfl,hp,if_neg (show i≠b by omega),if_pos rfl]
  exact ho.asym aR
def pO(l at_:List Int):Prop:=∀ (i:Nat) (x:Int),l[i]? =some x→0≤x∧at_[x.toNat]? =some (i:Int)
theorem pO.G6{l at_:List Int}(h:pO l at_){i j:Nat}{x:Int}(hi:l[i]? =some x)(hj:l[j]? =some x):i=j:=by
 have h1:=(h i x hi).2
 have h2:=(h j x hj).2
 rw[h1]at h2
 injection h2 with h2
 omega
def CW(l at_:List Int)(i j:Nat):List Int:=(at_.set (l.getD j 0).toNat i).set (l.getD i 0).toNat j
theorem pO.swp{l at_:List Int}(h:pO l at_){i j:Nat}(hi:i<l.length)(hj:j<l.length)(JE:i≠j):pO (swp l i j) (CW l at_ i j)∧(CW l at_ i j).length=at_.length∧∀z:Int,0≤z→z∉l→(CW l at_ i j)[z.toNat]? =at_[z.toNat]? :=by
 have e:∀q,q<l.length→l[q]? =some (l.getD q 0):=fun q hq=>by rw[anE,anx hq];rfl
 obtain⟨a0,a1⟩:=h i _ (e i hi)
 obtain⟨b0,b1⟩:=h j _ (e j hj)
 have hal:=(anA.1 a1).1
 have hbl:=(anA.1 b1).1
 have aS:(l.getD i 0).toNat≠(l.getD j 0).toNat:=fun h0=>by
  rw[h0,b1]at a1
  injection a1 with a1
  omega
 unfold CW
 refine⟨fun k x hk=>?_,by simp,fun z hz hm=>?_⟩
 ·rw[pN hi hj]at hk
  split at hk
  ·rename_i Za
   rw[e i hi]at hk
   injection hk with hk
   subst hk
   rw[anI (by simpa using hal),Za]
   exact⟨a0,rfl⟩
  ·split at hk
   ·rename_i Za hki
    rw[e j hj]at hk
    injection hk with hk
    subst hk
    rw[anH aS,anI hbl,hki]
    exact⟨b0,rfl⟩
   ·rename_i Za hki
    obtain⟨c0,c1⟩:=h k x hk
    have n1:(l.getD i 0).toNat≠x.toNat:=fun h0=>by
     rw[h0,c1]at a1;injection a1 with a1;omega
    have n2:(l.getD j 0).toNat≠x.toNat:=fun h0=>by
     rw[h0,c1]at b1;injection b1 with b1;omega
    rw[anH n1,anH n2]
    exact⟨c0,c1⟩
 ·have n1:(l.getD i 0).toNat≠z.toNat:=fun h0=>hm (by rw[show z=l.getD i 0 by omega];exact anG (e i hi))
  have n2:(l.getD j 0).toNat≠z.toNat:=fun h0=>hm (by rw[show z=l.getD j 0 by omega];exact anG (e j hj))
  rw[anH n1,anH n2]
theorem pa2(j:Nat):((pa 2 j:Nat):Int)=if j=0 then 0 else((j:Int) - 1) / 2:=by
 unfold pa
 split
 ·rename_i h;subst h;rfl
 ·omega
theorem Sl.at_{H:Hp}{v:Value}{n:Nat}{xs:List Value}{fp:Option Nat}(h:Sl H 1 v n xs fp){i:Nat}{x:Value}(hx:xs[i]? =some x):∃b cc lb,v= .slice (some ⟨b,0,none⟩) n cc∧fp=some b∧H.own b=some lb∧lb[i]? =some x∧i<n∧n≤lb.length:=by
 have hi:=(anA.1 hx).1
 obtain⟨hl,hm⟩:=id h
 cases fp with
 |none=>obtain⟨e,_⟩:=hm;omega
 |some f=>
  obtain⟨lb,cc,hv,ho,h1,h2,h3⟩:=hm
  refine⟨f,cc,lb,hv,rfl,ho,?_,by omega,by omega⟩
  rw[←h3,an9 (by omega)]at hx
  exact hx
structure jq(H:Hp)(n c:Nat)(C:Nat→Prop)(rv:Value)(r:Nat)(fp fa:Option Nat)(st:Int)(w:Nw)(l at_:List Int):Prop where
 own:∃av,H.own n=some [ptr c,rv,av]∧Sl H 1 av at_.length (at_.map i64) fa
 cells:bz H c C st w
 mu:∃sv,H.own r=some [ptr n,sv]∧Sl H 1 sv l.length (l.map i64) fp
 nC:¬C n
 rC:¬C r
 rn:r≠n
 zH:∀b,fp=some b→¬C b∧b≠n∧b≠r∧fa≠some b
 KJ:∀b,fa=some b→¬C b∧b≠n∧b≠r
 ll:l.length≤65536
abbrev pv(r:Nat):Value:=.iface 370 (ptr r)
theorem uQ{l:List Int}{i:Nat}{x:Int}(h:l[i]? =some x):l.getD i 0=x:=by rw[anE,h];rfl
theorem getD_take{l:List Int}{k m:Nat}(h:k<m):(l.take m).getD k 0=l.getD k 0:=by rw[anE,anE,an9 h]
section
variable {H : Hp} {n c : Nat} {C : Nat → Prop} {rv : Value} {r : Nat} {fp fa : Option Nat} {st : Int} {w : Nw} {l at_ : List Int}
theorem sA(m:jq H n c C rv r fp fa st w l at_):ai Tryz.prog ju [ptr r] H fun v H'=>ay (v=i64 l.length∧H=H'):=by
 obtain⟨sv,ho,hs⟩:=m.mu
 obtain⟨a,cc,rfl⟩:=da.Sz hs.rd
 refine ba FE ⟨rfl,?_⟩
 refine v2 oH.eq_1 (ae ho) ?_
 exact⟨rfl,rfl⟩
theorem Hm(m:jq H n c C rv r fp fa st w l at_){i j:Nat}(hi:i<l.length)(hj:j<l.length)(bQ:∀z∈l,cZ w.cs z):ai Tryz.prog sV [ptr r,i64 i,i64 j] H fun v H'=>ay (
  v= .bool (aU w (l.getD i 0) (l.getD j 0))∧jq H' n c C rv r fp fa (min (st+1) 4611686018427387904) w l at_∧ah C H H'):=by
 obtain⟨av,hn,ha⟩:=m.own
 obtain⟨sv,ho,hs⟩:=m.mu
 obtain⟨x,hx⟩:∃x,l[i]? =some x:=⟨_,anx hi⟩
 obtain⟨y,hy⟩:∃y,l[j]? =some y:=⟨_,anx hj⟩
 obtain⟨b,cc,lb,rfl,jv,hb,oS,_,_⟩:=Sl.at_ hs (i:=i) (x:=i64 x) (by simp[hx])
 obtain⟨b',Xl,UJ,hv,mr,rR,hby,_,_⟩:=Sl.at_ hs (i:=j) (x:=i64 y) (by simp[hy])
 rw[jv]at mr
 injection mr with mr
 subst mr
 rw[hb]at rR
 injection rR with rR
 subst rR
 have ol:=m.ll
 refine ba DW ⟨rfl,?_⟩
 refine v3 mT.eq_1 (ae ho) (ae hn) ?_
 refine⟨by omega,?_⟩
 refine v5 (ae hb) anD oS (ae ho) Int.toNat_natCast ?_
 refine⟨by omega,?_⟩
 refine v4 (ae hb) anD hby Int.toNat_natCast ?_
 have h1:=bQ x (anG hx)
 have h2:=bQ y (anG hy)
 refine(lU m.cells x y).mono ?_
 rintro _ H1 ⟨rfl,c1,e1⟩
 refine vs ?_
 have vu:=m.cells.st
 rw[if_pos ⟨h1,h2⟩,show gX st 1=min (st+1) 4611686018427387904 by unfold gX;rw[if_neg (by omega)];split<;>omega]at c1
 refine⟨by rw[uQ hx,uQ hy,Ec h1 h2];rfl,⟨⟨av,e1.own hn m.nC,ha.ext e1 (fun b hb=>(m.KJ b hb).1)⟩,c1,⟨_,e1.own ho m.rC,hs.ext e1 (fun b hb=>(m.zH b hb).1)⟩,m.nC,m.rC,m.rn,m.zH,m.KJ,m.ll⟩,e1⟩
theorem Hn(m:jq H n c C rv r fp fa st w l at_)(rP:pO l at_){i j:Nat}(hi:i<l.length)(hj:j<l.length)(JE:i≠j):ai Tryz.prog sX [ptr r,i64 i,i64 j] H fun v H'=>ay (
  v= .tuple [].toArray∧jq H' n c C rv r fp fa st w (swp l i j) (CW l at_ i j)∧ah (fun z=>fp=some z∨fa=some z) H H'):=by
 obtain⟨av,hn,ha⟩:=m.own
 obtain⟨sv,ho,hs⟩:=m.mu
 obtain⟨x,hx⟩:∃x,l[i]? =some x:=⟨_,anx hi⟩
 obtain⟨y,hy⟩:∃y,l[j]? =some y:=⟨_,anx hj⟩
 obtain⟨b,cc,lb,rfl,rfl,hb,oS,_,Ir⟩:=Sl.at_ hs (i:=i) (x:=i64 x) (by simp[hx])
 obtain⟨b',Xl,UJ,hv,mr,rR,hby,_,_⟩:=Sl.at_ hs (i:=j) (x:=i64 y) (by simp[hy])
 injection mr with mr
 subst mr
 rw[hb]at rR
 injection rR with rR
 subst rR
 obtain⟨ik,tT⟩:=rP i x hx
 obtain⟨hy0,hay⟩:=rP j y hy
 have hal:=(anA.1 tT).1
 have hyl:=(anA.1 hay).1
 obtain⟨f,fc,la,rfl,rfl,hf,UU,_,hla⟩:=Sl.at_ ha (i:=x.toNat) (x:=i64 i) (by simp[tT])
 have ol:=m.ll
 obtain⟨d1,d2,d3,d4⟩:=m.zH b rfl
 obtain⟨g1,g2,g3⟩:=m.KJ f rfl
 have Xc:b≠f:=fun e=>d4 (by rw[e])
 refine ba DY ⟨rfl,?_⟩
 refine v2 mV.eq_1 (ae ho) ?_
 refine⟨by omega,?_⟩
 refine v5 (ae hb) anD hby (ae ho) Int.toNat_natCast ?_
 refine⟨by omega,?_⟩
 refine v4 (ae hb) anD oS Int.toNat_natCast ?_
 refine⟨by omega,?_⟩
 refine v3 hb anD Int.toNat_natCast ?_
 refine⟨by omega,?_⟩
 refine v1 anB ?_
 refine⟨by omega,?_⟩
 simp(disch:=(first|omega| (simp only[Zs]<;>omega)|fail)) only[go_sem, ↓reduceIte,Zv,aj hb,anD,Int.toNat_natCast]
 refine⟨by rw[anC];omega,?_⟩
 refine v1 anB ?_
 have e1:ah (fun z=>z=b) H (H.wr b ((lb.set i (i64 y)).set j (i64 x))):=(ah.refl (fun z=>z=b) _).wr (fun _=>rfl) _
 have ob:(H.wr b ((lb.set i (i64 y)).set j (i64 x))).own b=some ((lb.set i (i64 y)).set j (i64 x)):=aj hb
 have s1:=(hs.ww hb i (i64 y)).ww (aj hb) j (i64 x)
 rw[PE]at s1
 generalize H.wr b ((lb.set i (i64 y)).set j (i64 x))=H1 at*
 have QH:=e1.own ho (Ne.symm d3)
 have Ds:=e1.own hn (Ne.symm d2)
 have T8:=e1.own hf (Ne.symm Xc)
 have VW:=ha.ext e1 (fun z hz h=>by injection hz with hz;exact Xc (h.symm.trans hz.symm))
 have c1:=m.cells.ext e1 (fun z hz h=>d1 (h▸hz))
 have gi:((lb.set i (i64 y)).set j (i64 x))[i]? =some (i64 y):=by rw[anH (Ne.symm JE),anI (by omega)]
 have gj:((lb.set i (i64 y)).set j (i64 x))[j]? =some (i64 x):=by rw[anI (by rw[anC];omega)]
 refine v4 (ae ho) (ae hn) (ae QH) (ae Ds) ?_
 refine⟨by omega,?_⟩
 refine v6 (ae ob) anD gi (ae QH) (ae Ds) Int.toNat_natCast ?_
 refine⟨by omega,?_⟩
 refine v4 (ae ob) anD gj Int.toNat_natCast ?_
 refine⟨by omega,?_⟩
 refine v3 T8 anD anB ?_
 refine⟨by omega,?_⟩
 refine v1 anB ?_
 refine⟨by omega,?_⟩
 simp(disch:=(first|omega| (simp only[Zs]<;>omega)|fail)) only[go_sem, ↓reduceIte,Zv,aj T8,anD,anB]
 refine⟨by rw[anC];omega,?_⟩
 refine v1 anB ?_
 have e2:ah (fun z=>z=f) H1 (H1.wr f ((la.set y.toNat (i64 i)).set x.toNat (i64 j))):=(ah.refl (fun z=>z=f) _).wr (fun _=>rfl) _
 have s2:=(VW.ww T8 y.toNat (i64 i)).ww (aj T8) x.toNat (i64 j)
 rw[PE]at s2
 have ex:=uQ hx
 have ey:=uQ hy
 refine⟨rfl,⟨⟨_,e2.own Ds (Ne.symm g2),?_⟩,c1.ext e2 (fun z hz h=>g1 (h▸hz)),⟨_,e2.own QH (Ne.symm g3),?_⟩,m.nC,m.rC,m.rn,m.zH,m.KJ,by rw[hY];exact m.ll⟩,(e1.mono fun z _ hz=>.inl (by rw[hz])).trans (e2.mono fun z _ hz=>.inr (by rw[hz]))⟩
 ·unfold CW
  rw[ex,ey,anC,anC,aoo,aoo]
  exact s2
 ·have:=s1.ext e2 (fun z hz h=>by injection hz with hz;exact Xc (hz.trans h))
  unfold swp
  rw[ex,ey,anC,anC,aoo,aoo]
  exact this
end
structure qJ(n c:Nat)(C:Nat→Prop)(rv:Value)(r:Nat)(fp fa:Option Nat)(st:Int)(w:Nw)(l at_:List Int)(mm:Nat)(H H':Hp)(l' pC:List Int)(q:Nat):Prop where
 mu:jq H' n c C rv r fp fa (min (st+q) 4611686018427387904) w l' pC
 ok:pO l' pC
 mem:∀z,z∈l'↔z∈l
 len:l'.length=l.length
 drop:l'.drop mm=l.drop mm
 My:pC.length=at_.length
 off:∀z:Int,0≤z→z∉l→pC[z.toNat]? =at_[z.toNat]?
 ext:ah (fun z=>C z∨fp=some z∨fa=some z) H H'
section
variable {H H1 : Hp} {n c : Nat} {C : Nat → Prop} {rv : Value} {r : Nat} {fp fa : Option Nat} {st : Int} {w : Nw} {l at_ l1 Jd : List Int} {mm q : Nat}
theorem qJ.refl(m:jq H n c C rv r fp fa st w l at_)(rP:pO l at_)(mm:Nat):qJ n c C rv r fp fa st w l at_ mm H H l at_ 0:=
 ⟨by have:=m.cells.st;rw[show min (st+((0:Nat):Int)) 4611686018427387904=st by omega];exact m,rP,fun _=>Iff.rfl,rfl,rfl,rfl,fun _ _ _=>rfl,ah.refl _ _⟩
theorem qJ.less(h:qJ n c C rv r fp fa st w l at_ mm H H1 l1 Jd q)(bQ:∀z∈l,cZ w.cs z){i j:Nat}(hi:i<l.length)(hj:j<l.length):jm Tryz.prog (pv r) "Less" [i64 i,i64 j] H1 fun v H2=>
  v= .bool (aU w (l1.getD i 0) (l1.getD j 0))∧qJ n c C rv r fp fa st w l at_ mm H H2 l1 Jd (q+1):=by
 have hl:=h.len
 refine⟨_,_,sV,ptr r,rfl,bE (by kernel_rfl),(Hm h.mu (by omega) (by omega) (fun z hz=>bQ z ((h.mem z).1 hz))).mono ?_⟩
 rintro v H2 ⟨hv,m2,e2⟩
 refine⟨hv,?_,h.ok,h.mem,h.len,h.drop,h.My,h.off,h.ext.trans (e2.mono fun z _ hz=>.inl hz)⟩
 rw[show min (st+((q+1:Nat):Int)) 4611686018427387904=min (min (st+(q:Int)) 4611686018427387904+1) 4611686018427387904 by omega]
 exact m2
theorem qJ.swap(h:qJ n c C rv r fp fa st w l at_ mm H H1 l1 Jd q)(hm:mm≤l.length){i j:Nat}(hi:i<mm)(hj:j<mm)(JE:i≠j):jm Tryz.prog (pv r) "Swap" [i64 i,i64 j] H1 fun v H2=>
  v= .tuple [].toArray∧qJ n c C rv r fp fa st w l at_ mm H H2 (swp l1 i j) (CW l1 Jd i j) q:=by
 have hl:=h.len
 refine⟨_,_,sX,ptr r,rfl,bE (by kernel_rfl),(Hn h.mu h.ok (i:=i) (j:=j) (by omega) (by omega) JE).mono ?_⟩
 rintro v H2 ⟨hv,m2,e2⟩
 obtain⟨a1,a2,a3⟩:=h.ok.swp (i:=i) (j:=j) (by omega) (by omega) JE
 refine⟨hv,m2,a1,fun z=>by rw[UT (by omega) (by omega),h.mem z],by rw[hY];exact h.len,by rw[SS hi hj (by omega)];exact h.drop,a2.trans h.My,fun z hz hm=>?_,h.ext.trans (e2.mono fun z _ hz=>.inr hz)⟩
 rw[a3 z hz (fun h2=>hm ((h.mem z).1 h2))]
 exact h.off z hz hm
set_option maxHeartbeats 1000000 in
theorem uR(m:jq H n c C rv r fp fa st w l at_)(rP:pO l at_){j mm:Nat}(hj:j<mm)(hm:mm≤l.length)(bQ:∀z∈l,cZ w.cs z)(hA:dM (aU w) 2 (l.take mm) j)
  (hB:∀k,1≤k→k< (l.take mm).length→pa 2 k=j→aU w ((l.take mm).getD k 0) ((l.take mm).getD j 0)=false):
  ai Tryz.prog yU [pv r,i64 j] H fun v H'=>ay (v= .tuple [].toArray∧∃ (l' pC:List Int) (q:Nat),qJ n c C rv r fp fa st w l at_ mm H H' l' pC q∧eZ (aU w) 2 (l'.take mm)∧q≤nN 2 j∧(1≤j→0<q)):=by
 have ho:=au w
 have ol:=m.ll
 refine ba zC ⟨rfl,?_⟩
 refine v1 ja.eq_1 ?_
 refine bA.intro (fun k env H'=>∃ (j':Nat) (l1 Jd:List Int) (q:Nat),env=[(0,pv r),(1,i64 j')]∧k=j'∧j'<mm∧qJ n c C rv r fp fa st w l at_ mm H H' l1 Jd q∧dM (aU w) 2 (l1.take mm) j'∧
   (∀k,1≤k→k< (l1.take mm).length→pa 2 k=j'→aU w ((l1.take mm).getD k 0) ((l1.take mm).getD j' 0)=false)∧q+nN 2 j'≤nN 2 j∧(j'≠j→0<q)) j
  ⟨j,l,at_,0,rfl,rfl,hj,qJ.refl m rP mm,hA,hB,by omega,fun h=>absurd rfl h⟩ ?_
 clear hA hB
 rintro j' env H1 ⟨_,l1,Jd,q,rfl,rfl,hj',h1,hA,hB,hq,V9⟩
 have vF:=h1.len
 have wG:=pa2 j'
 have aft:IntKind.i64.wrap ((IntKind.i64.wrap ((j':Int) - 1)).tdiv 2)=((pa 2 j':Nat):Int):=by
  rw[wrap64 (n:=(j':Int) - 1) (by omega) (by omega),wG]
  split
  ·rename_i h;subst h;rfl
  ·rw[Int.tdiv_eq_ediv_of_nonneg (by omega),wrap64 (by omega) (by omega)]
 simp(disch:=(first|omega| (simp only[Zs]<;>omega)|fail)) only[go_sem, ↓reduceIte,Zv,if_neg (show¬ ((2:Int)=0) by decide)]
 rw[aft]
 have Mr:(l1.take mm).length=mm:=by rw[aot];omega
 by_cases h0:j'=0
 ·refine am.cF (anQ (by rw[wG,if_pos h0,h0];rfl)) ?_
  refine vs ?_
  exact⟨rfl,l1,Jd,q,h1,hA.heap hB (fun h=>by omega),by omega,fun h=>V9 (by omega)⟩
 ·have Ng:=cO dQ (j:=j') (by omega)
  refine am.aW (anU (by omega)) ?_
  refine vs ?_
  refine jm.mono (h1.less bQ (i:=j') (j:=pa 2 j') (by omega) (by omega)) ?_
  rintro _ H2 ⟨rfl,h2⟩
  have Fh:nN 2 (j':Int)=nN 2 ((pa 2 j':Nat):Int)+1:=by
   obtain⟨p,hp,Nh,p0,p1⟩:=qC dQ (i:=(j':Int)) (by omega)
   rw[Int.toNat_natCast]at Nh
   rw[tz hp,show p=((pa 2 j':Nat):Int) by omega]
  refine vs ?_
  cases aR:aU w (l1.getD j' 0) (l1.getD (pa 2 j') 0)with
  |false=>
   refine vs ?_
   refine⟨rfl,l1,Jd,q+1,h2,hA.heap hB (fun _ _=>?_),by omega,fun _=>by omega⟩
   rw[getD_take hj',getD_take (by omega)]
   exact aR
  |true=>
   refine vs ?_
   refine jm.mono (h2.swap hm (i:=pa 2 j') (j:=j') (by omega) hj' (by omega)) ?_
   rintro _ H3 ⟨rfl,h3⟩
   refine vs ?_
   obtain⟨g1,g2⟩:=Xk ho (l:=l1.take mm) (i:=j') (by omega) (by omega) hA hB (by rw[getD_take hj',getD_take (by omega)];exact aR)
   have ht:(swp l1 (pa 2 j') j').take mm=swp (l1.take mm) (pa 2 j') j':=Mx (by omega) hj' (by omega)
   exact⟨pa 2 j',by omega,pa 2 j',_,_,q+1,rfl,rfl,by omega,h3,by rw[ht];exact g1,by rw[ht];exact g2,by omega,fun _=>by omega⟩
set_option maxHeartbeats 2000000 in
theorem xM(m:jq H n c C rv r fp fa st w l at_)(rP:pO l at_){i0 mm:Nat}(hi:i0<mm)(hm:mm≤l.length)(bQ:∀z∈l,cZ w.cs z)(hA:dM (aU w) 2 (l.take mm) i0):
  ai Tryz.prog vQ [pv r,i64 i0,i64 mm] H fun v H'=>ay (∃ (b:Bool) (l' pC:List Int) (q:Nat),v= .bool b∧qJ n c C rv r fp fa st w l at_ mm H H' l' pC q∧q+2*nN 2 i0≤2*nN 2 ((mm:Int) - 1)∧
   (b=true→eZ (aU w) 2 (l'.take mm))∧(b=false→l'=l∧pC=at_∧∀k,1≤k→k< (l.take mm).length→pa 2 k=i0→aU w ((l.take mm).getD k 0) ((l.take mm).getD i0 0)=false)):=by
 have ho:=au w
 have ol:=m.ll
 refine ba wk ⟨rfl,?_⟩
 refine v1 fW.eq_1 ?_
 have G7:∀k:Nat,k<mm→nN 2 (k:Int)≤nN 2 ((mm:Int) - 1):=fun k hk=>nO dQ ((mm:Int) - 1).toNat _ _ (anO _) (by omega)
 refine bA.intro (fun k env H'=>∃ (i:Nat) (l1 Jd:List Int) (q:Nat),env=[(0,pv r),(1,i64 i0),(2,i64 mm),(7,i64 i)]∧k=mm - i∧i<mm∧i0≤i∧qJ n c C rv r fp fa st w l at_ mm H H' l1 Jd q∧dM (aU w) 2 (l1.take mm) i∧
   q+2*nN 2 i0≤2*nN 2 i∧(i0<i→aU w ((l1.take mm).getD i 0) ((l1.take mm).getD (pa 2 i) 0)=false)∧(i=i0→l1=l∧Jd=at_)) (mm - i0)
  ⟨i0,l,at_,0,rfl,rfl,hi,anO _,qJ.refl m rP mm,hA,by omega,fun h=>by omega,fun _=>⟨rfl,rfl⟩⟩ ?_
 clear hA
 rintro k env H1 ⟨i,l1,Jd,q,rfl,rfl,him,FO,h1,hA,hq,hD,PF⟩
 have vF:=h1.len
 have Mr:(l1.take mm).length=mm:=by rw[aot];omega
 have stay:∀ (H2:Hp) (q':Nat),qJ n c C rv r fp fa st w l at_ mm H H2 l1 Jd q'→q'+2*nN 2 i0≤2*nN 2 ((mm:Int) - 1)→(∀k,1≤k→k< (l1.take mm).length→pa 2 k=i→aU w ((l1.take mm).getD k 0) ((l1.take mm).getD i 0)=false)→
   ∃ (b:Bool) (l' pC:List Int) (q:Nat),Value.bool (decide ((i:Int)>i0))= .bool b∧qJ n c C rv r fp fa st w l at_ mm H H2 l' pC q∧q+2*nN 2 i0≤2*nN 2 ((mm:Int) - 1)∧
    (b=true→eZ (aU w) 2 (l'.take mm))∧(b=false→l'=l∧pC=at_∧∀k,1≤k→k< (l.take mm).length→pa 2 k=i0→aU w ((l.take mm).getD k 0) ((l.take mm).getD i0 0)=false):=by
  intro H2 q' h2 hq' hB
  refine⟨_,l1,Jd,q',rfl,h2,hq',fun h=>?_,fun h=>?_⟩
  ·have:=of_decide_eq_true h
   exact hA.heap hB (fun _ _=>hD (by omega))
  ·have:=of_decide_eq_false h
   have e:i=i0:=by omega
   obtain⟨e1,e2⟩:=PF e
   subst e1 e2 e
   exact⟨rfl,rfl,hB⟩
 have QD:∀k:Nat,1≤k→(pa 2 k=i↔(2*i+1≤k∧k≤2*i+2)):=fun k hk=>by
  have:=SC dQ (i:=i) hk
  rw[this]
  omega
 refine vs ?_
 have hj1:IntKind.i64.wrap (IntKind.i64.wrap (2*(i:Int))+1)=((2*i+1:Nat):Int):=by
  rw[wrap64 (n:=2*(i:Int)) (by omega) (by omega),wrap64 (by omega) (by omega)];omega
 rw[hj1]
 refine am.dec (fun SU=>?_) (fun SU=>?_)
 ·refine vs ?_
  exact stay H1 q h1 (by have:=G7 i him;omega) (fun k h2 h3 h4=>by have:=(QD k h2).1 h4;omega)
 refine vs ?_
 refine am.aW (anU (by omega)) ?_
 refine vs ?_
 have Cz:2*i+1<mm:=by omega
 refine SV (fun e H2=>e.find 0=some (pv r)∧e.find 1=some (i64 i0)∧e.find 2=some (i64 mm)∧e.find 7=some (i64 i)∧∃ (b:Nat) (q':Nat),e.find 9=some (i64 b)∧qJ n c C rv r fp fa st w l at_ mm H H2 l1 Jd q'∧q'≤q+1∧1≤b∧b<mm∧pa 2 b=i∧
   ∀k,1≤k→k< (l1.take mm).length→pa 2 k=i→aU w ((l1.take mm).getD k 0) ((l1.take mm).getD b 0)=false) ?_ ?_
 ·have EU:pa 2 (2*i+1)=i:=(QD _ (by omega)).2 ⟨by omega,by omega⟩
  refine vs ?_
  have jk:IntKind.i64.wrap (((2*i+1:Nat):Int)+1)=((2*i+2:Nat):Int):=by rw[wrap64 (by omega) (by omega)];omega
  rw[jk]
  refine am.dec (fun h2=>?_) (fun h2=>?_)
  ·have wG:pa 2 (2*i+2)=i:=(QD _ (by omega)).2 ⟨by omega,by omega⟩
   refine vs ?_
   refine jm.mono (h1.less bQ (i:=2*i+2) (j:=2*i+1) (by omega) (by omega)) ?_
   rintro _ H2 ⟨rfl,g2⟩
   refine vs ?_
   cases aR:aU w (l1.getD (2*i+2) 0) (l1.getD (2*i+1) 0)with
   |false=>
    refine vs ?_
    refine⟨trivial,trivial,trivial,trivial,2*i+1,q+1,rfl,g2,by omega,by omega,Cz,EU,fun k h3 h4 h5=>?_⟩
    have h6:=(QD k h3).1 h5
    rw[getD_take (by omega),getD_take (by omega)]
    by_cases h7:k=2*i+1
    ·rw[h7];exact ho.yf _
    ·rw[show k=2*i+2 by omega];exact aR
   |true=>
    refine vs ?_
    refine⟨trivial,trivial,trivial,trivial,2*i+2,q+1,rfl,g2,by omega,by omega,by omega,wG,fun k h3 h4 h5=>?_⟩
    have h6:=(QD k h3).1 h5
    rw[getD_take (by omega),getD_take (by omega)]
    by_cases h7:k=2*i+2
    ·rw[h7];exact ho.yf _
    ·rw[show k=2*i+1 by omega];exact ho.asym aR
  ·refine vs ?_
   refine⟨trivial,trivial,trivial,trivial,2*i+1,q,rfl,h1,by omega,by omega,Cz,EU,fun k h3 h4 h5=>?_⟩
   have h6:=(QD k h3).1 h5
   rw[show k=2*i+1 by omega]
   exact ho.yf _
 rintro e H2 ⟨e0,e1,e2,e7,b,q',e9,h2,hq',Qz,Dr,Lt,uN⟩
 refine v5 e0 e1 e2 e7 e9 ?_
 refine jm.mono (h2.less bQ (i:=b) (j:=i) (by omega) (by omega)) ?_
 rintro _ H3 ⟨rfl,h3⟩
 have Fh:nN 2 (b:Int)=nN 2 (i:Int)+1:=by
  obtain⟨p,hp,Nh,p0,p1⟩:=qC dQ (i:=(b:Int)) (by omega)
  rw[Int.toNat_natCast,Lt]at Nh
  rw[tz hp,show p=(i:Int) by omega]
 have hib:=cO dQ Qz
 refine v5 e0 e1 e2 e7 e9 ?_
 cases aR:aU w (l1.getD b 0) (l1.getD i 0)with
 |false=>
  refine v5 e0 e1 e2 e7 e9 ?_
  refine stay H3 (q'+1) h3 (by have:=G7 b Dr;omega) (fun k h4 h5 h6=>?_)
  have h7:=uN k h4 h5 h6
  have h8:aU w ((l1.take mm).getD b 0) ((l1.take mm).getD i 0)=false:=by rw[getD_take Dr,getD_take him];exact aR
  exact ho.nt _ _ _ h7 h8
 |true=>
  refine v5 e0 e1 e2 e7 e9 ?_
  refine jm.mono (h3.swap hm (i:=i) (j:=b) him Dr (by omega)) ?_
  rintro _ H4 ⟨rfl,h4⟩
  refine v5 e0 e1 e2 e7 e9 ?_
  obtain⟨g1,g2⟩:=ST ho (l:=l1.take mm) (i:=i) (b:=b) Qz (by omega) Lt hA uN (by rw[getD_take Dr,getD_take him];exact aR)
  have ht:(swp l1 i b).take mm=swp (l1.take mm) i b:=Mx him Dr (by omega)
  exact⟨mm - b,by omega,b,_,_,q'+1,rfl,rfl,Dr,by omega,h4,by rw[ht];exact g1,by omega,fun _=>by rw[ht];exact g2,fun h=>by omega⟩
end
end Go.Proofs.YtjlnnljohemifaaGreat

namespace Go.Proofs.YtjlnnljohemifaaGreat
open Go Go.Vc
section
variable {H : Hp} {n c : Nat} {C : Nat → Prop} {rv : Value} {r : Nat} {fp fa : Option Nat} {st : Int} {w : Nw} {l at_ : List Int}
theorem Ho(m:jq H n c C rv r fp fa st w l at_)(hl:l.length<65536){x:Int}(hx:0≤x∧x.toNat<at_.length):ai Tryz.prog sW [ptr r,.iface 3 (i64 x)] H fun v H'=>ay (
  v= .tuple [].toArray∧∃dv,jq H' n c C rv r dv fa st w (l++[x]) (at_.set x.toNat l.length)∧ah (fun z=>fp=some z∨fa=some z∨z=r) H H'∧(dv=fp∨∃z,dv=some z∧H.size≤z)):=by
 obtain⟨av,hn,ha⟩:=m.own
 obtain⟨sv,ho,hs⟩:=m.mu
 obtain⟨y,hy⟩:∃y,at_[x.toNat]? =some y:=⟨_,anx hx.2⟩
 obtain⟨f,fc,la,rfl,rfl,hf,UU,_,hla⟩:=Sl.at_ ha (i:=x.toNat) (x:=i64 y) (by simp[hy])
 obtain⟨g1,g2,g3⟩:=m.KJ f rfl
 obtain⟨sa,sc,Oi⟩:=da.Sz hs.rd
 refine ba DX ⟨rfl,?_⟩
 refine v1 mU.eq_1 ?_
 refine v3 (ae ho) (ae hn) Oi ?_
 refine⟨by omega,?_⟩
 refine v3 hf anD anB ?_
 refine⟨by omega,?_⟩
 refine v1 anB ?_
 have e1:ah (fun z=>z=f) H (H.wr f (la.set x.toNat (i64 l.length))):=(ah.refl (fun z=>z=f) _).wr (fun _=>rfl) _
 have s1:=ha.ww hf x.toNat (i64 l.length)
 have Ds:=e1.own hn (Ne.symm g2)
 have QH:=e1.own ho (Ne.symm g3)
 have fE:=hs.ext e1 (fun z hz h=>(m.zH z hz).2.2.2 (by rw[h]))
 have c1:=m.cells.ext e1 (fun z hz h=>g1 (h▸hz))
 generalize H.wr f (la.set x.toNat (i64 l.length))=H1 at*
 have e2:ah (fun _=>False) H1 (H1.new 3 [i64 x]):=(ah.refl _ _).new _ _
 refine v1 (ae ho) ?_
 refine Sl.append (fE.ext e2 (fun _ _ h=>h)) (Sl.dw (size:=1) (xs:=[i64 x]) rfl rfl).rd rfl (by intro v hv;simp only[anM]at hv;subst hv;rfl) (by omega) ?_
 intro Xm H3 dv s3 e3 jv
 have z1:=e1.size
 have hrs:=aG QH
 have PC:=aG Ds
 have Ip:ah (fun z=>fp=some z) H1 H3:=(e2.mono fun _ _ h=>h.elim).uF e3 (fun z _ h=>h)
 have ho3:=Ip.own QH (fun h=>(m.zH r h).2.2.1 rfl)
 have hn3:=Ip.own Ds (fun h=>(m.zH n h).2.1 rfl)
 obtain⟨a',Xl,PG⟩:=da.Sz s3.rd
 subst PG
 refine v1 ho3 ?_
 generalize PG:Value.slice a' (l.length+1) Xl=v' at*
 have e4:ah (fun z=>z=r) H3 (H3.wr r [ptr n,v']):=(ah.refl (fun z=>z=r) _).wr (fun _=>rfl) _
 have hfs:=aG hf
 have F0:∀b,dv=some b→fp=some b∨H1.size≤b:=fun b hb=>by
  rcases jv with h| ⟨z,h,h5,_⟩
  ·exact .inl (h▸hb)
  ·rw[h]at hb;injection hb with hb;subst hb;rw[ar]at h5;exact .inr (by omega)
 have zS:=c1.slt
 refine⟨rfl,dv,⟨⟨_,e4.own hn3 (Ne.symm m.rn),?_⟩,(c1.ext Ip (fun z hz h=>(m.zH z h).1 hz)).ext e4 (fun z hz h=>m.rC (h▸hz)),⟨_,aj ho3,?_⟩,m.nC,m.rC,m.rn,fun b hb=>?_,m.KJ,by rw[anL,an6];omega⟩,
  (e1.mono fun z _ hz=>.inr (.inl (by rw[hz]))).trans ((Ip.mono fun z _ hz=>.inl hz).trans (e4.mono fun z _ hz=>.inr (.inr hz))),?_⟩
 ·have:=((s1.ext Ip (fun z hz h=>(m.zH z h).2.2.2 hz)).ext e4 (fun z hz h=>by injection hz with hz;exact g3 (hz.trans h)))
  rw[anC,aoo]
  exact this
 ·have:=s3.ext e4 (fun b hb h=>by
   rcases F0 b hb with h5|h5
   ·exact(m.zH b h5).2.2.1 h
   ·omega)
  rw[anL,aos]
  exact this
 ·rcases F0 b hb with h5|h5
  ·exact m.zH b h5
  ·refine⟨fun h=>?_,by omega,by omega,fun h=>?_⟩
   ·have:=zS b h;omega
   ·injection h with h;omega
 ·rcases jv with h| ⟨z,h,h5,_⟩
  ·exact .inl h
  ·exact .inr ⟨z,h,by rw[ar]at h5;omega⟩
theorem Je(m:jq H n c C rv r fp fa st w l at_)(hl:0<l.length):ai Tryz.prog vl [ptr r] H fun v H'=>ay (
  (∃x,v= .iface 3 (i64 x))∧jq H' n c C rv r fp fa st w l.dropLast at_∧ah (fun z=>z=r) H H'):=by
 obtain⟨av,hn,ha⟩:=m.own
 obtain⟨sv,ho,hs⟩:=m.mu
 have ol:=m.ll
 obtain⟨x,hx⟩:∃x,l[l.length - 1]? =some x:=⟨_,anx (by omega)⟩
 obtain⟨f,cc,lb,rfl,rfl,hb,oS,_,Ir⟩:=Sl.at_ hs (i:=l.length - 1) (x:=i64 x) (by simp[hx])
 have e1:IntKind.i64.wrap ((l.length:Int) - 1)=((l.length - 1:Nat):Int):=by rw[wrap64 (by omega) (by omega)];omega
 obtain⟨_,l2,c2,Em,g2,a5,a6,a7⟩:=id hs
 injection Em with _ _ Em
 subst Em
 rw[hb]at g2
 injection g2 with g2
 subst g2
 refine ba FF ⟨rfl,?_⟩
 simp(disch:=(first|omega| (simp only[Zs]<;>omega)|fail)) only[go_sem, ↓reduceIte,Zv,oI,ae ho,e1,Int.toNat_natCast]
 refine⟨by omega,?_⟩
 simp(disch:=(first|omega| (simp only[Zs]<;>omega)|fail)) only[go_sem, ↓reduceIte,Zv,ae hb,ae ho,anD,oS,e1]
 refine⟨by omega,?_⟩
 have Oi:Value.slice (if(cc:Int)=((0:Nat):Int)then some (⟨f,0,none⟩:Addr)else Option.map (fun(x:Addr)=>x.add (((0:Nat):Int).toNat*1)) (some (⟨f,0,none⟩:Addr))) (((l.length - 1:Nat):Int).toNat - ((0:Nat):Int).toNat) ((cc:Int).toNat - ((0:Nat):Int).toNat)= .slice (some ⟨f,0,none⟩) (l.length - 1) cc:=by
  split<;>rfl
 refine v2 (ae ho) ho ?_
 rw[Oi]
 have ew:ah (fun z=>z=r) H (H.wr r [ptr n,.slice (some ⟨f,0,none⟩) (l.length - 1) cc]):=(ah.refl (fun z=>z=r) _).wr (fun _=>rfl) _
 obtain⟨d1,d2,d3,d4⟩:=m.zH f rfl
 refine⟨⟨_,rfl⟩,⟨⟨_,ew.own hn (Ne.symm m.rn),ha.ext ew (fun z hz h=>(m.KJ z hz).2.2 h)⟩,m.cells.ext ew (fun z hz h=>m.rC (h▸hz)),⟨_,aj ho,?_⟩,m.nC,m.rC,m.rn,m.zH,m.KJ,by rw[aoa];omega⟩,ew⟩
 refine⟨by simp,lb,cc,by rw[aoa],ew.own hb d3,by rw[aoa];omega,a6,?_⟩
 have hx7:((l.map i64).length)=l.length:=by simp
 rw[aoa,List.map_dropLast,apa,hx7,←a7,apx]
 congr 1
 omega
theorem Hq(m:jq H n c C rv r fp fa st w l at_)(rP:pO l at_)(hl:l.length<65536){x:Int}(hx:0≤x∧x.toNat<at_.length)(rG:x∉l)(afv:cZ w.cs x)(bQ:∀z∈l,cZ w.cs z)(hh:eZ (aU w) 2 l):
  ai Tryz.prog vP [pv r,.iface 3 (i64 x)] H fun v H'=>ay (v= .tuple [].toArray∧∃ (dv:Option Nat) (l' pC:List Int) (q:Nat),jq H' n c C rv r dv fa (min (st+q) 4611686018427387904) w l' pC∧pO l' pC∧eZ (aU w) 2 l'∧(∀z,z∈l'↔z=x∨z∈l)∧l'.length=l.length+1∧
   pC.length=at_.length∧(∀z:Int,0≤z→z≠x→z∉l→pC[z.toNat]? =at_[z.toNat]?)∧q≤nN 2 l.length∧(0<l.length→0<q)∧ah (fun z=>C z∨fp=some z∨fa=some z∨z=r) H H'∧(dv=fp∨∃z,dv=some z∧H.size≤z)):=by
 refine ba wh ⟨rfl,?_⟩
 refine v1 fV.eq_1 ?_
 refine jm.mono (K:=fun v H'=>v= .tuple [].toArray∧∃dv,jq H' n c C rv r dv fa st w (l++[x]) (at_.set x.toNat l.length)∧ah (fun z=>fp=some z∨fa=some z∨z=r) H H'∧(dv=fp∨∃z,dv=some z∧H.size≤z)) ⟨_,_,sW,ptr r,rfl,bE (by kernel_rfl),Ho m hl hx⟩ ?_
 rintro _ H1 ⟨rfl,dv,m1,e1,mr⟩
 refine vs ?_
 refine jm.mono (K:=fun v H'=>v=i64 (l++[x]).length∧H1=H') ⟨_,_,ju,ptr r,rfl,bE (by kernel_rfl),sA m1⟩ ?_
 rintro _ _ ⟨rfl,rfl⟩
 refine vs ?_
 have bv:(l++[x]).length=l.length+1:=by simp
 rw[show IntKind.i64.wrap (((l++[x]).length:Int) - 1)=((l.length:Nat):Int) by rw[bv,wrap64 (by omega) (by omega)];omega]
 have afw:pO (l++[x]) (at_.set x.toNat l.length):=fun i z hz=>by
  rcases ao3 i l.length with h|h|h
  ·rw[anS h]at hz
   obtain⟨a,b⟩:=rP i z hz
   have aS:x.toNat≠z.toNat:=fun e=>rG (by rw[show x=z by omega];exact anG hz)
   rw[anH aS]
   exact⟨a,b⟩
  ·subst h
   rw[an5 (anO _),aoJ]at hz
   simp only[an7,anK]at hz
   subst hz
   rw[anI hx.2]
   exact⟨hx.1,rfl⟩
  ·rw[anP (by omega)]at hz;cases hz
 have ht:(l++[x]).take (l++[x]).length=l++[x]:=aod
 have SU:∀k,k<l.length→(l++[x]).getD k 0=l.getD k 0:=fun k hk=>by rw[anE,anS hk,anE]
 have Ng:∀k:Nat,1≤k→k<l.length+1→pa 2 k≠l.length:=fun k h1 h2=>by have:=cO dQ h1;omega
 refine(uR m1 afw (j:=l.length) (mm:=(l++[x]).length) (by omega) (anO _) (fun z hz=>?_) (by
  rw[ht]
  refine⟨fun k h1 h2 h3 h4=>?_,fun k h1 h2 h3 h4=>absurd h3 (Ng k h1 (by omega))⟩
  have:=cO dQ h1
  rw[SU k (by omega),SU _ (by omega)]
  exact hh k h1 (by omega)) (fun k h1 h2 h3=>absurd h3 (Ng k h1 (by rw[ht]at h2;omega)))).mono ?_
 ·rcases anR.1 hz with h|h
  ·exact bQ z h
  ·rw[anM]at h;rw[h];exact afv
 rintro _ H2 ⟨rfl,l',pC,q,g,kF,hq,V9⟩
 have Om:=g.len
 rw[←Om,aod]at kF
 refine vs ?_
 refine⟨rfl,dv,l',pC,q,g.mu,g.ok,kF,fun z=>?_,by omega,by rw[g.My,anC],fun z hz h1 h2=>?_,hq,fun h=>V9 (by omega),(e1.mono fun z _ hz=>.inr hz).uF g.ext (fun z hzl hz=>?_),mr⟩
 ·rw[g.mem z,anR,anM]
  exact Or.comm
 ·rw[g.off z hz (fun h=>by rcases anR.1 h with h|h;exact h2 h;exact h1 (anM.1 h)),anH (by omega)]
 ·rcases hz with hz|hz|hz
  ·exact .inl hz
  ·rcases mr with h| ⟨y,h,h5⟩
   ·exact .inr (.inl (h▸hz))
   ·rw[h]at hz;injection hz with hz;omega
  ·exact .inr (.inr (.inl hz))
theorem Jf(m:jq H n c C rv r fp fa st w l at_)(rP:pO l at_){i:Nat}(hi:i<l.length)(bQ:∀z∈l,cZ w.cs z)(hA:dM (aU w) 2 l i):
  ai Tryz.prog wS [pv r,i64 i] H fun v H'=>ay (v= .tuple [].toArray∧∃ (l' pC:List Int) (q:Nat),qJ n c C rv r fp fa st w l at_ l.length H H' l' pC q∧eZ (aU w) 2 l'∧q≤2*nN 2 ((l.length:Int) - 1)):=by
 have ol:=m.ll
 have ht:l.take l.length=l:=aod
 refine ba xq ⟨rfl,?_⟩
 refine v1 gS.eq_1 ?_
 refine jm.mono (K:=fun v H'=>v=i64 l.length∧H=H') ⟨_,_,ju,ptr r,rfl,bE (by kernel_rfl),sA m⟩ ?_
 rintro _ _ ⟨rfl,rfl⟩
 refine vs ?_
 refine(xM m rP hi (anO _) bQ (by rw[ht];exact hA)).mono ?_
 rintro _ H1 ⟨b,l1,Jd,q1,rfl,g1,Ru,hT,hF⟩
 have vF:=g1.len
 cases b with
 |true=>
  have h:=hT rfl
  rw[←vF,aod]at h
  refine vs ?_
  exact⟨rfl,l1,Jd,q1,g1,h,by omega⟩
 |false=>
  obtain⟨e1,e2,hB⟩:=hF rfl
  subst e1 e2
  refine vs ?_
  have hm:=(nO dQ ((l1.length:Int) - 1).toNat (i:Int) ((l1.length:Int) - 1) (anO _) (by omega))
  refine(uR g1.mu g1.ok (j:=i) (mm:=l1.length) hi (anO _) bQ (by rw[ht];exact hA) hB).mono ?_
  rintro _ H2 ⟨rfl,l2,Zn,q2,g2,kF,hq2,_⟩
  have wC:=g2.len
  rw[←wC,aod]at kF
  refine vs ?_
  refine⟨rfl,l2,Zn,q1+q2,⟨?_,g2.ok,g2.mem,g2.len,g2.drop,g2.My,g2.off,g1.ext.trans g2.ext⟩,kF,by omega⟩
  rw[show min (st+((q1+q2:Nat):Int)) 4611686018427387904=min (min (st+(q1:Int)) 4611686018427387904+(q2:Int)) 4611686018427387904 by omega]
  exact g2.mu
end
end Go.Proofs.YtjlnnljohemifaaGreat

namespace Go.Proofs.YtjlnnljohemifaaGreat
open Go Go.Vc
theorem eZ.KK{lt lt':Int→Int→Bool}{l:List Int}(h:eZ lt 2 l)(hfg:∀z∈l,∀y∈l,lt z y=lt' z y):eZ lt' 2 l:=by
 intro j h1 h2
 have hp:=cO dQ h1
 have e:∀k,k<l.length→l.getD k 0∈l:=fun k hk=>by
  rw[anE,anx hk];exact api hk
 rw[←hfg _ (e j h2) _ (e _ (show pa 2 j<l.length by omega))]
 exact h j h1 h2
theorem KL{l at_:List Int}(h:pO l at_){x:Int}(hx:l[l.length - 1]? =some x)(z:Int):z∈l.dropLast↔z∈l∧z≠x:=by
 have hl:=(anA.1 hx).1
 rw[apa]
 constructor
 ·intro hz
  obtain⟨k,hk⟩:=an8 hz
  rw[aob]at hk
  split at hk
  ·refine⟨anG hk,fun e=>?_⟩
   subst e
   have:=h.G6 hk hx
   omega
  ·cases hk
 ·rintro⟨hz,aS⟩
  obtain⟨k,hk⟩:=an8 hz
  have hkl:=(anA.1 hk).1
  have:k≠l.length - 1:=fun e=>by rw[e,hx]at hk;injection hk with hk;exact aS hk.symm
  exact anG (i:=k) (by rw[an9 (by omega)];exact hk)
theorem pO.dropLast{l at_:List Int}(h:pO l at_):pO l.dropLast at_:=fun i x hx=>by
 rw[apa,aob]at hx
 split at hx
 ·exact h i x hx
 ·cases hx
section
variable {H : Hp} {n c : Nat} {C : Nat → Prop} {rv : Value} {r : Nat} {fp fa : Option Nat} {st : Int} {w : Nw} {l at_ : List Int}
structure Out(n c:Nat)(C:Nat→Prop)(rv:Value)(r:Nat)(fp fa:Option Nat)(st:Int)(w:Nw)(l at_:List Int)(x:Int)(H H':Hp)(l' pC:List Int)(q:Nat):Prop where
 mu:jq H' n c C rv r fp fa (min (st+q) 4611686018427387904) w l' pC
 ok:pO l' pC
 heap:eZ (aU w) 2 l'
 mem:∀z,z∈l'↔z∈l∧z≠x
 len:l'.length+1=l.length
 My:pC.length=at_.length
 off:∀z:Int,0≤z→z∉l→pC[z.toNat]? =at_[z.toNat]?
 ext:ah (fun z=>C z∨fp=some z∨fa=some z∨z=r) H H'
theorem PH{H1:Hp}{l1 Jd:List Int}{mm q:Nat}{x:Int}(h:qJ n c C rv r fp fa st w l at_ mm H H1 l1 Jd q)(hl:0<l.length)(hx:l1[l1.length - 1]? =some x)(hh:eZ (aU w) 2 (l1.take (l.length - 1))):
  jm Tryz.prog (pv r) "Pop" [] H1 fun v H'=>∃l' pC,Out n c C rv r fp fa st w l at_ x H H' l' pC q:=by
 have bv:=h.len
 refine⟨_,_,vl,ptr r,rfl,bE (by kernel_rfl),(Je h.mu (by omega)).mono ?_⟩
 rintro v H2 ⟨_,m2,e2⟩
 refine⟨l1.dropLast,Jd,m2,h.ok.dropLast,?_,fun z=>by rw[KL h.ok hx z,h.mem z],by rw[aoa];omega,h.My,h.off,(h.ext.mono fun z _ hz=>?_).trans (e2.mono fun z _ hz=>.inr (.inr (.inr hz)))⟩
 ·rw[apa,bv];exact hh
 ·rcases hz with hz|hz|hz
  ·exact .inl hz
  ·exact .inr (.inl hz)
  ·exact .inr (.inr (.inl hz))
theorem En(m:jq H n c C rv r fp fa st w l at_)(rP:pO l at_){i:Nat}(hi:i<l.length)(bQ:∀z∈l,cZ w.cs z)(hh:eZ (aU w) 2 l):
  ai Tryz.prog sU [pv r,i64 i] H fun v H'=>ay (∃ (l' pC:List Int) (q:Nat),Out n c C rv r fp fa st w l at_ (l.getD i 0) H H' l' pC q∧q≤2*nN 2 ((l.length:Int) - 1)):=by
 have ol:=m.ll
 refine ba tm ⟨rfl,?_⟩
 refine v1 eT.eq_1 ?_
 refine jm.mono (K:=fun v H'=>v=i64 l.length∧H=H') ⟨_,_,ju,ptr r,rfl,bE (by kernel_rfl),sA m⟩ ?_
 rintro _ _ ⟨rfl,rfl⟩
 refine vs ?_
 rw[show IntKind.i64.wrap ((l.length:Int) - 1)=((l.length - 1:Nat):Int) by rw[wrap64 (by omega) (by omega)];omega]
 have h0:=qJ.refl m rP l.length
 have hgi:l[i]? =some (l.getD i 0):=by rw[anE,anx hi];rfl
 refine am.dec (fun he=>?_) (fun he=>?_)
 ·refine vs ?_
  have tR:i=l.length - 1:=by omega
  refine jm.mono (PH h0 (by omega) (x:=l.getD i 0) (by rw[←tR];exact hgi) (fun j h1 h2=>by
   rw[aot]at h2
   have:=cO dQ h1
   rw[getD_take (by omega),getD_take (by omega)]
   exact hh j h1 (by omega))) ?_
  rintro v H2 ⟨l',pC,o⟩
  refine vs ?_
  exact⟨l',pC,0,o,by omega⟩
 ·refine vs ?_
  have FZ:i<l.length - 1:=by omega
  refine jm.mono (h0.swap (anO _) (i:=i) (j:=l.length - 1) hi (by omega) (by omega)) ?_
  rintro _ H1 ⟨rfl,h1⟩
  refine vs ?_
  have hg:=CV (l:=l) (i:=i) (j:=l.length - 1) hi (by omega)
  have vF:=h1.len
  have hA1:dM (aU w) 2 ((swp l i (l.length - 1)).take (l.length - 1)) i:=by
   have hb:=hh.but (au w) dQ i
   refine⟨fun j h2 h3 h4 h5=>?_,fun j h2 h3 h4 h5=>?_⟩
   ·rw[aot]at h3
    have:=cO dQ h2
    rw[getD_take (by omega),getD_take (by omega),hg,hg,if_neg (by omega),if_neg h4,if_neg (by omega),if_neg h5]
    exact hb.1 j h2 (by omega) h4 h5
   ·rw[aot]at h3
    have:=cO dQ h2
    have:=cO dQ h5
    rw[getD_take (by omega),getD_take (by omega),hg,hg,if_neg (by omega),if_neg (by omega),if_neg (by omega),if_neg (by omega)]
    exact hb.2 j h2 (by omega) h4 h5
  have On:∀z∈swp l i (l.length - 1),cZ w.cs z:=fun z hz=>bQ z ((h1.mem z).1 hz)
  have kj:(swp l i (l.length - 1))[l.length - 1]? =some (l.getD i 0):=by rw[pN hi (by omega),if_pos rfl];exact hgi
  have fin:∀ {H2:Hp} {l2 Zn:List Int} {q:Nat},qJ n c C rv r fp fa (min (st+((0:Nat):Int)) 4611686018427387904) w (swp l i (l.length - 1)) (CW l at_ i (l.length - 1)) (l.length - 1) H1 H2 l2 Zn q→eZ (aU w) 2 (l2.take (l.length - 1))→
    jm Tryz.prog (pv r) "Pop" [] H2 fun v H'=>∃l' pC,Out n c C rv r fp fa st w l at_ (l.getD i 0) H H' l' pC q:=by
   intro H2 l2 Zn q g kF
   have vu:=m.cells.st
   have g':qJ n c C rv r fp fa st w l at_ l.length H H2 l2 Zn q:=by
    refine⟨?_,g.ok,fun z=>by rw[g.mem z,h1.mem z],g.len.trans vF,?_,g.My.trans h1.My,fun z hz hm=>?_,h1.ext.trans g.ext⟩
    ·have:=g.mu
     rw[show min (min (st+((0:Nat):Int)) 4611686018427387904+(q:Int)) 4611686018427387904=min (st+(q:Int)) 4611686018427387904 by omega]at this
     exact this
    ·rw[apk (by rw[g.len];omega),apk (anO _)]
    ·rw[g.off z hz (fun h=>hm ((h1.mem z).1 h))];exact h1.off z hz hm
   refine PH g' (by omega) ?_ kF
   have hd:=g.drop
   have h2:(l2.drop (l.length - 1))[0]? =((swp l i (l.length - 1)).drop (l.length - 1))[0]? :=by rw[hd]
   rw[aoc,aoc,Nat.add_zero,kj]at h2
   rw[g.len,vF]
   exact h2
  have G7:=nO dQ ((l.length:Int) - 1).toNat (((l.length - 1:Nat):Int) - 1) ((l.length:Int) - 1) (anO _) (by omega)
  refine(xM h1.mu h1.ok (i0:=i) (mm:=l.length - 1) FZ (by rw[vF];omega) On hA1).mono ?_
  rintro _ H2 ⟨b,l2,Zn,q1,rfl,g2,Ru,hT,hF⟩
  cases b with
  |true=>
   refine vs ?_
   refine jm.mono (fin g2 (hT rfl)) ?_
   rintro v H3 ⟨l',pC,o⟩
   refine vs ?_
   exact⟨l',pC,q1,o,by omega⟩
  |false=>
   obtain⟨e1,e2,hB⟩:=hF rfl
   subst e1 e2
   have hmi:=nO dQ (((l.length - 1:Nat):Int) - 1).toNat (i:Int) (((l.length - 1:Nat):Int) - 1) (anO _) (by omega)
   refine vs ?_
   refine(uR g2.mu g2.ok (j:=i) (mm:=l.length - 1) FZ (by rw[vF];omega) On hA1 hB).mono ?_
   rintro _ H3 ⟨rfl,l3,at3,q2,g3,kF,hq2,_⟩
   refine vs ?_
   have g23:qJ n c C rv r fp fa (min (st+((0:Nat):Int)) 4611686018427387904) w (swp l i (l.length - 1)) (CW l at_ i (l.length - 1)) (l.length - 1) H1 H3 l3 at3 (q1+q2):=by
    refine⟨?_,g3.ok,g3.mem,g3.len,g3.drop,g3.My,g3.off,g2.ext.trans g3.ext⟩
    have:=g3.mu
    rw[show min (min (min (st+((0:Nat):Int)) 4611686018427387904+(q1:Int)) 4611686018427387904+(q2:Int)) 4611686018427387904=min (min (st+((0:Nat):Int)) 4611686018427387904+((q1+q2:Nat):Int)) 4611686018427387904 by omega]at this
    exact this
   refine jm.mono (fin g23 kF) ?_
   rintro v H4 ⟨l',pC,o⟩
   refine vs ?_
   exact⟨l',pC,q1+q2,o,by omega⟩
end
end Go.Proofs.YtjlnnljohemifaaGreat

namespace Go.Proofs.YtjlnnljohemifaaGreat
open Go Go.Vc
structure Pl where
 r:Nat
 fp:Option Nat
 l:List Int
def Pl.S(P:Pl)(x:Nat):Prop:=x=P.r∨P.fp=some x
def Uc:Option Pl→Value
 |none=>.pointer none
 |some P=>ptr P.r
structure pD(H:Hp)(n c:Nat)(C:Nat→Prop)(rv:Value)(fr fa:Option Nat)(st:Int)(w:Nw)(ps:List (Option Pl))(at_:List Int):Prop where
 own:∃av,H.own n=some [ptr c,rv,av]∧Sl H 1 av at_.length (at_.map i64) fa
 cells:bz H c C st w
 sl:Sl H 1 rv ps.length (ps.map Uc) fr
 mu:∀ (h:Nat) P,ps[h]? =some (some P)→∃sv,H.own P.r=some [ptr n,sv]∧Sl H 1 sv P.l.length (P.l.map i64) P.fp
 nC:¬C n
 PI:∀b,fr=some b→¬C b∧b≠n∧fa≠some b
 KJ:∀b,fa=some b→¬C b∧b≠n
 pd:∀ (h:Nat) P,ps[h]? =some (some P)→∀x,P.S x→¬C x∧x≠n∧fr≠some x∧fa≠some x
 pr:∀ (h:Nat) P,ps[h]? =some (some P)→P.fp≠some P.r∧P.l.length≤65536
 pp:∀ (h h':Nat) P P',ps[h]? =some (some P)→ps[h']? =some (some P')→h≠h'→∀x,P.S x→¬P'.S x
def E1(n:Nat)(C:Nat→Prop)(fr fa:Option Nat)(ps:List (Option Pl))(z:Nat):Prop:=C z∨z=n∨fr=some z∨fa=some z∨∃ (h:Nat) (P:Pl),ps[h]? =some (some P)∧P.S z
structure Hr(w:Nw)(ps:List (Option Pl))(at_:List Int):Prop where
 hl:ps.length=w.hs.length
 hs:∀h:Nat,w.hs[h]? =some true↔∃P,ps[h]? =some (some P)
 h0:ps[0]? =some none
 ok:∀ (h:Nat) P,ps[h]? =some (some P)→eZ (aU w) 2 P.l
 Ud:∀ (h:Nat) P,ps[h]? =some (some P)→pO P.l at_
 mem:∀ (h:Nat) P,ps[h]? =some (some P)→∀x:Int,x∈P.l↔0≤x∧∃e,w.cs[x.toNat]? =some (((h:Nat):Int),e)
 len:∀ (h:Nat) P,ps[h]? =some (some P)→(P.l.length:Int)=w.len h
 My:at_.length=w.cs.length
def dK(H:Hp)(n:Nat)(S:Nat→Prop)(st:Int)(w:Nw):Prop:=∃c C rv fr fa ps at_,pD H n c C rv fr fa st w ps at_∧Hr w ps at_∧(∀z,E1 n C fr fa ps z↔S z)
section
variable {H H' : Hp} {n c : Nat} {C T : Nat → Prop} {rv : Value} {fr fa : Option Nat} {st Xn : Int} {w w' : Nw} {ps : List (Option Pl)} {at_ pC : List Int} {S : Nat → Prop}
theorem pD.slt(h:pD H n c C rv fr fa st w ps at_):∀z,E1 n C fr fa ps z→z<H.size:=by
 obtain⟨av,ho,ha⟩:=h.own
 rintro z (hz|rfl|hz|hz| ⟨i,P,hP,hz⟩)
 ·exact h.cells.slt z hz
 ·exact aG ho
 ·exact Sl.lt (hz▸h.sl)
 ·exact Sl.lt (hz▸ha)
 ·obtain⟨sv,h1,h2⟩:=h.mu i P hP
  rcases hz with rfl|hz
  ·exact aG h1
  ·exact Sl.lt (hz▸h2)
theorem pD.ext(h:pD H n c C rv fr fa st w ps at_)(e:ah T H H')(hd:∀z,E1 n C fr fa ps z→¬T z):pD H' n c C rv fr fa st w ps at_:=by
 obtain⟨av,ho,ha⟩:=h.own
 refine⟨⟨av,e.own ho (hd n (.inr (.inl rfl))),ha.ext e (fun b hb=>hd b (.inr (.inr (.inr (.inl hb)))))⟩,h.cells.ext e (fun x hx=>hd x (.inl hx)),h.sl.ext e (fun b hb=>hd b (.inr (.inr (.inl hb)))),fun i P hP=>?_,h.nC,h.PI,h.KJ,h.pd,h.pr,h.pp⟩
 obtain⟨sv,h1,h2⟩:=h.mu i P hP
 exact⟨sv,e.own h1 (hd _ (.inr (.inr (.inr (.inr ⟨i,P,hP,.inl rfl⟩))))),h2.ext e (fun b hb=>hd b (.inr (.inr (.inr (.inr ⟨i,P,hP,.inr hb⟩)))))⟩
theorem pD.aN(h:pD H n c C rv fr fa st w ps at_)(c1:bz H' c C Xn w')(e:ah C H H'):pD H' n c C rv fr fa Xn w' ps at_:=by
 obtain⟨av,ho,ha⟩:=h.own
 refine⟨⟨av,e.own ho h.nC,ha.ext e (fun b hb=>(h.KJ b hb).1)⟩,c1,h.sl.ext e (fun b hb=>(h.PI b hb).1),fun i P hP=>?_,h.nC,h.PI,h.KJ,h.pd,h.pr,h.pp⟩
 obtain⟨sv,h1,h2⟩:=h.mu i P hP
 exact⟨sv,e.own h1 (h.pd i P hP _ (.inl rfl)).1,h2.ext e (fun b hb=>(h.pd i P hP b (.inr hb)).1)⟩
theorem dK.slt(h:dK H n S st w):∀z,S z→z<H.size:=by
 obtain⟨c,C,rv,fr,fa,ps,at_,m,l,hS⟩:=h
 exact fun z hz=>m.slt z ((hS z).2 hz)
theorem dK.ext(h:dK H n S st w)(e:ah T H H')(hd:∀z,S z→¬T z):dK H' n S st w:=by
 obtain⟨c,C,rv,fr,fa,ps,at_,m,l,hS⟩:=h
 exact⟨c,C,rv,fr,fa,ps,at_,m.ext e (fun z hz=>hd z ((hS z).1 hz)),l,hS⟩
theorem dK.fresh(h:dK H n S st w)(e:aq H H'):dK H' n S st w:=h.ext e fun _ _ h=>h
theorem pD.Oo(m:pD H n c C rv fr fa st w ps at_){g:Nat}{P:Pl}(hP:ps[g]? =some (some P)):jq H n c C rv P.r P.fp fa st w P.l at_:=by
 have hd:=m.pd g P hP
 refine⟨m.own,m.cells,m.mu g P hP,m.nC,(hd P.r (.inl rfl)).1,(hd P.r (.inl rfl)).2.1,fun b hb=>⟨(hd b (.inr hb)).1,(hd b (.inr hb)).2.1,fun h=>(m.pr g P hP).1 (by rw[hb,h]),(hd b (.inr hb)).2.2.2⟩,fun b hb=>⟨(m.KJ b hb).1,(m.KJ b hb).2,fun h=>(hd P.r (.inl rfl)).2.2.2 (by rw[hb,h])⟩,(m.pr g P hP).2⟩
theorem pD.KM(m:pD H n c C rv fr fa st w ps at_){g:Nat}{P P':Pl}(hP:ps[g]? =some (some P))(hr:P'.r=P.r)(pm:jq H' n c C rv P'.r P'.fp fa Xn w' P'.l pC)(jv:P'.fp=P.fp∨∃z,P'.fp=some z∧H.size≤z)
  (e:ah T H H')(hT:∀z,T z→C z∨P.S z∨fa=some z):pD H' n c C rv fr fa Xn w' (ps.set g (some P')) pC:=by
 have fH:=m.slt
 have hg:=(anA.1 hP).1
 have hPS:∀x,P'.S x→P.S x∨H.size≤x:=fun x hx=>by
  rcases hx with rfl|hx
  ·exact .inl (.inl hr)
  ·rcases jv with h| ⟨z,h,h5⟩
   ·exact .inl (.inr (h▸hx))
   ·rw[h]at hx;injection hx with hx;exact .inr (by omega)
 have ce:∀ (h:Nat) Q,(ps.set g (some P'))[h]? =some (some Q)→(h=g∧Q=P')∨(h≠g∧ps[h]? =some (some Q)):=fun h Q hQ=>by
  by_cases hh:h=g
  ·subst hh
   rw[anI hg]at hQ
   simp only[anK]at hQ
   exact .inl ⟨rfl,hQ.symm⟩
  ·rw[anH (Ne.symm hh)]at hQ
   exact .inr ⟨hh,hQ⟩
 have hd:=m.pd g P hP
 refine⟨pm.own,pm.cells,?_,fun h Q hQ=>?_,m.nC,m.PI,m.KJ,fun h Q hQ x hx=>?_,fun h Q hQ=>?_,fun h h' Q Q' hQ hQ' aS x hx xy=>?_⟩
 ·have h1:(ps.set g (some P')).map Uc=ps.map Uc:=by
   rw[aoo]
   refine aoj fun i=>?_
   by_cases hi:i=g
   ·subst hi
    rw[anI (by rw[anW];exact hg),anT,hP]
    simp[Uc,hr]
   ·rw[anH (Ne.symm hi)]
  rw[h1,anC]
  exact m.sl.ext e (fun b hb ht=>by
   rcases hT b ht with h|h|h
   ·exact(m.PI b hb).1 h
   ·exact(hd b h).2.2.1 hb
   ·exact(m.PI b hb).2.2 h)
 ·rcases ce h Q hQ with ⟨rfl,rfl⟩| ⟨h1,h2⟩
  ·exact pm.mu
  ·obtain⟨sv,q1,q2⟩:=m.mu h Q h2
   have cw:∀x,Q.S x→¬T x:=fun x hx ht=>by
    rcases hT x ht with h3|h3|h3
    ·exact(m.pd h Q h2 x hx).1 h3
    ·exact m.pp h g Q P h2 hP h1 x hx h3
    ·exact(m.pd h Q h2 x hx).2.2.2 h3
   exact⟨sv,e.own q1 (cw _ (.inl rfl)),q2.ext e (fun b hb=>cw b (.inr hb))⟩
 ·rcases ce h Q hQ with ⟨rfl,rfl⟩| ⟨h1,h2⟩
  ·rcases hPS x hx with h3|h3
   ·exact hd x h3
   ·refine⟨fun hc=>?_,fun hc=>?_,fun hc=>?_,fun hc=>?_⟩
    ·have:=fH x (.inl hc);omega
    ·have:=fH n (.inr (.inl rfl));omega
    ·have:=fH x (.inr (.inr (.inl hc)));omega
    ·have:=fH x (.inr (.inr (.inr (.inl hc))));omega
  ·exact m.pd h Q h2 x hx
 ·rcases ce h Q hQ with ⟨rfl,rfl⟩| ⟨h1,h2⟩
  ·refine⟨fun hc=>?_,pm.ll⟩
   exact(pm.zH _ hc).2.2.1 rfl
  ·exact m.pr h Q h2
 ·rcases ce h Q hQ with ⟨rfl,rfl⟩| ⟨h1,h2⟩
  ·rcases ce h' Q' hQ' with ⟨rfl,rfl⟩| ⟨h3,h4⟩
   ·exact aS rfl
   ·rcases hPS x hx with h5|h5
    ·exact m.pp _ h' P Q' hP h4 aS x h5 xy
    ·have:=fH x (.inr (.inr (.inr (.inr ⟨h',Q',h4,xy⟩))));omega
  ·rcases ce h' Q' hQ' with ⟨rfl,rfl⟩| ⟨h3,h4⟩
   ·rcases hPS x xy with h5|h5
    ·exact m.pp h _ Q P h2 hP aS x hx h5
    ·have:=fH x (.inr (.inr (.inr (.inr ⟨h,Q,h2,hx⟩))));omega
   ·exact m.pp h h' Q Q' h2 h4 aS x hx xy
theorem pD.atp(m:pD H n c C rv fr fa st w ps at_){i:Nat}{o:Option Pl}(h:ps[i]? =some o):∃f cc lb,rv= .slice (some ⟨f,0,none⟩) ps.length cc∧fr=some f∧H.own f=some lb∧lb[i]? =some (Uc o)∧i<ps.length:=by
 obtain⟨b,cc,lb,h1,h2,h3,h4,h5,_⟩:=Sl.at_ m.sl (i:=i) (x:=Uc o) (by simp[h])
 exact⟨b,cc,lb,h1,h2,h3,h4,h5⟩
theorem Hr.fZ(l:Hr w ps at_){g:Int}(h:w.has g):∃P,ps[g.toNat]? =some (some P):=(l.hs g.toNat).1 h.2
end
theorem Jg(cap:Int)(H:Hp):ai Tryz.prog NB [i64 cap] H fun v H'=>ay (
  aq H H'∧((¬ (0≤cap∧cap≤65536)∧v= .tuple [.pointer none,i64 31].toArray)∨
   ((0≤cap∧cap≤65536)∧∃n S,v= .tuple [ptr n,i64 0].toArray∧dK H' n S 0 ⟨[false],List.replicate cap.toNat (0,0,0)⟩∧∀x,S x→H.size≤x))):=by
 refine ba NG ⟨rfl,?_⟩
 refine v1 AN.eq_1 ?_
 refine(oK cap H).mono ?_
 rintro _ H1 ⟨f1,⟨hb,rfl⟩| ⟨hb,c,C,rfl,c1,hC⟩⟩
 ·refine vs ?_
  exact⟨f1,.inl ⟨hb,rfl⟩⟩
 refine v1 anZ ?_
 refine⟨by omega,?_⟩
 refine vs ?_
 have afB:∀k:Nat,cN [Value.int .i64 0] k=(List.replicate k (0:Int)).map i64:=fun k=>by
  induction k with
  |zero=>rfl
  |succ k ih=>simp only[cN,aor,aoI,aoy]at*;rw[ih];rfl
 rw[afB]
 have zS:=c1.slt
 have z1:=f1.size
 have f3:aq H1 (((H1.new 370 [.pointer none]).new 3 ((List.replicate cap.toNat (0:Int)).map i64)).new 285 [ptr c,.slice (some ⟨H1.size,0,none⟩) 1 1,.slice (some ⟨H1.size+1,0,none⟩) cap.toNat cap.toNat]):=(((ah.refl _ _).new _ _).new _ _).new _ _
 have e2:ah (fun _=>False) ((H1.new 370 [.pointer none]).new 3 ((List.replicate cap.toNat (0:Int)).map i64)) (((H1.new 370 [.pointer none]).new 3 ((List.replicate cap.toNat (0:Int)).map i64)).new 285 [ptr c,.slice (some ⟨H1.size,0,none⟩) 1 1,.slice (some ⟨H1.size+1,0,none⟩) cap.toNat cap.toNat]):=(ah.refl _ _).new _ _
 have e1:ah (fun _=>False) (H1.new 370 [.pointer none]) ((H1.new 370 [.pointer none]).new 3 ((List.replicate cap.toNat (0:Int)).map i64)):=(ah.refl _ _).new _ _
 have cw:∀ (h:Nat) (P:Pl),([none]:List (Option Pl))[h]? ≠some (some P):=fun h P hP=>by rcases h with _|h<;>simp at hP
 refine⟨f1.trans f3,.inr ⟨hb,H1.size+1+1,E1 (H1.size+1+1) C (some H1.size) (some (H1.size+1)) [none],rfl,⟨c,C,_,some H1.size,some (H1.size+1),[none],List.replicate cap.toNat 0,
  ⟨⟨_,bD (by simp only[ar]),?_⟩,c1.fresh f3,?_,fun h P hP=>absurd hP (cw h P),fun h=>by have:=zS _ h;omega,fun b hb=>?_,fun b hb=>?_,fun h P hP=>absurd hP (cw h P),fun h P hP=>absurd hP (cw h P),fun h h' P P' hP=>absurd hP (cw h P)⟩,
  ⟨rfl,fun h=>?_,rfl,fun h P hP=>absurd hP (cw h P),fun h P hP=>absurd hP (cw h P),fun h P hP=>absurd hP (cw h P),fun h P hP=>absurd hP (cw h P),by simp⟩,fun z=>Iff.rfl⟩,fun x hx=>?_⟩⟩
 ·rw[aov]
  exact(Sl.dw (size:=1) (n:=cap.toNat) (xs:=(List.replicate cap.toNat (0:Int)).map i64) (by simp) (by simp only[ar])).ext e2 (fun _ _ h=>h)
 ·exact((Sl.dw (size:=1) (n:=1) (xs:=[.pointer none]) rfl rfl).ext e1 (fun _ _ h=>h)).ext e2 (fun _ _ h=>h)
 ·injection hb with hb
  subst hb
  exact⟨fun h=>by have:=zS _ h;omega,by omega,fun h=>by injection h with h;omega⟩
 ·injection hb with hb
  subst hb
  exact⟨fun h=>by have:=zS _ h;omega,by omega⟩
 ·rcases h with _|h<;>simp
 ·rcases hx with hx|rfl|hx|hx| ⟨i,P,hP,hx⟩
  ·exact hC x hx
  ·omega
  ·injection hx with hx;omega
  ·injection hx with hx;omega
  ·exact absurd hP (cw i P)
theorem Hs{H:Hp}{n:Nat}{S:Nat→Prop}{st:Int}{w:Nw}(h:dK H n S st w):ai Tryz.prog sT [ptr n] H fun v H'=>ay (
  (w.hs.length=65537∧v=i64 0∧H=H')∨
  (w.hs.length≠65537∧v=i64 w.hs.length∧∃S',dK H' n S' st w.make∧ah S H H'∧∀x,S' x→S x∨H.size≤x)):=by
 obtain⟨c,C,rv,fr,fa,ps,at_,m,l,hS⟩:=h
 obtain⟨av,ho,ha⟩:=m.own
 refine ba DV ⟨rfl,?_⟩
 refine v2 mS.eq_1 (ae ho) ?_
 refine(mX m.cells).mono ?_
 rintro _ H1 (⟨h1,rfl,rfl⟩| ⟨h1,rfl,C',c1,e1,Bp⟩)
 ·refine vs ?_
  exact .inl ⟨h1,rfl,rfl⟩
 have jj:0<ps.length:=(anA.1 l.h0).1
 have ol:=l.hl
 have o1:=e1.own ho m.nC
 refine vs ?_
 refine am.cF (anQ (by omega)) ?_
 refine v1 (ae o1) ?_
 have Gf:=m.cells.Gf
 have fH:=m.slt
 have SW:=c1.slt
 have z1:=e1.size
 have e2:ah (fun _=>False) H1 (H1.new 374 [ptr n,.slice none 0 0]):=(ah.refl _ _).new _ _
 have hq2:(H1.new 374 [ptr n,.slice none 0 0]).own H1.size=some [ptr n,.slice none 0 0]:=aE _ _ _
 have z2:(H1.new 374 [ptr n,.slice none 0 0]).size=H1.size+1:=by simp only[ar]
 generalize (H1.new 374 [ptr n,.slice none 0 0])=H2 at*
 have e0:ah (fun _=>False) H2 (H2.new 370 [ptr H1.size]):=(ah.refl _ _).new _ _
 have sl2:=(m.sl.ext e1 (fun b hb h=>(m.PI b hb).1 h)).ext e2 (fun _ _ h=>h)
 have o2:=e2.own o1 (fun h=>h)
 refine Sl.append (sl2.ext e0 (fun _ _ h=>h)) (Sl.dw (size:=1) (n:=1) (xs:=[ptr H1.size]) rfl z2.symm).rd rfl (by intro v hv;simp only[anM]at hv;subst hv;rfl) (by omega) ?_
 intro v' H3 fr' s3 e3 Ry
 have Oq:ah (fun z=>fr=some z) H2 H3:=(e0.mono fun _ _ h=>h.elim).uF e3 (fun z _ h=>h)
 have o3:=Oq.own o2 (fun h=>(m.PI n h).2.1 rfl)
 obtain⟨a',Xl,PG⟩:=da.Sz s3.rd
 subst PG
 refine v1 o3 ?_
 generalize PG:Value.slice a' (ps.length+1) Xl=v' at*
 have e4:ah (fun z=>z=n) H3 (H3.wr n [ptr c,v',av]):=(ah.refl (fun z=>z=n) _).wr (fun _=>rfl) _
 have hn:=aG ho
 have UV:∀b,fr=some b→b<H.size:=fun b hb=>fH b (.inr (.inr (.inl hb)))
 have Xo:∀b,fa=some b→b<H.size:=fun b hb=>fH b (.inr (.inr (.inr (.inl hb))))
 have Ou:∀b,fr'=some b→fr=some b∨H2.size≤b:=fun b hb=>by
  rcases Ry with h| ⟨z,h,h5,_⟩
  ·exact .inl (h▸hb)
  ·rw[h]at hb;injection hb with hb;subst hb;rw[ar]at h5;exact .inr (by omega)
 have ce:∀ (h:Nat) P,(ps++[some (⟨H1.size,none,[]⟩:Pl)])[h]? =some (some P)→ps[h]? =some (some P)∨(h=ps.length∧P=⟨H1.size,none,[]⟩):=fun h P hP=>by
  rcases ao3 h ps.length with h5|h5|h5
  ·rw[anS h5]at hP;exact .inl hP
  ·subst h5
   rw[an5 (anO _),aoJ]at hP
   simp only[an7,anK]at hP
   exact .inr ⟨rfl,hP.symm⟩
  ·rw[anP (by rw[anL,an6];omega)]at hP
   cases hP
 have hold:∀ (h:Nat) P,ps[h]? =some (some P)→∀x,P.S x→x<H.size:=fun h P hP x hx=>fH x (.inr (.inr (.inr (.inr ⟨h,P,hP,hx⟩))))
 have zI:∀x,(⟨H1.size,none,[]⟩:Pl).S x→x=H1.size:=fun x hx=>by rcases hx with h|h;exact h;cases h
 have Ka:∀ (x:Nat) (e:Int×Int),w.cs[x]? ≠some (((ps.length:Nat):Int),e):=fun x e hx=>by
  have:=(m.cells.home _ (anG hx)).2
  simp only at this
  omega
 refine .inr ⟨h1,rfl,E1 n C' fr' fa (ps++[some ⟨H1.size,none,[]⟩]),⟨c,C',v',fr',fa,ps++[some ⟨H1.size,none,[]⟩],at_,
  ⟨⟨av,aj o3,?_⟩,?_,?_,fun h P hP=>?_,fun h=>?_,fun b hb=>⟨fun h=>?_,?_,fun h=>?_⟩,fun b hb=>⟨fun h=>?_,(m.KJ b hb).2⟩,fun h P hP x hx=>⟨fun h=>?_,?_,fun h=>?_,fun h=>?_⟩,fun h P hP=>?_,fun h h' P P' hP hP' aS x hx xy=>?_⟩,
  ⟨?_,fun h=>?_,?_,fun h P hP=>?_,fun h P hP=>?_,fun h P hP x=>?_,fun h P hP=>?_,l.My⟩,fun z=>Iff.rfl⟩,?_,fun x hx=>?_⟩
 ·exact(((ha.ext e1 (fun b hb h=>(m.KJ b hb).1 h)).ext e2 (fun _ _ h=>h)).ext Oq (fun b hb h=>(m.PI b h).2.2 hb)).ext e4 (fun b hb h=>(m.KJ b hb).2 h)
 ·exact((c1.ext e2 (fun _ _ h=>h)).ext Oq (fun x hx e=>by
   rcases Bp x hx with h|h
   ·exact(m.PI x e).1 h
   ·have:=UV x e;omega)).ext e4 (fun x hx e=>by
   rcases Bp x hx with h|h
   ·exact m.nC (e▸h)
   ·omega)
 ·have:=s3.ext e4 (fun b hb e=>by
   rcases Ou b hb with h|h
   ·exact(m.PI b h).2.1 e
   ·omega)
  rw[anL,aos]
  exact this
 ·rcases ce h P hP with h5| ⟨rfl,rfl⟩
  ·obtain⟨sv,q1,q2⟩:=m.mu h P h5
   have hd:=m.pd h P h5
   exact⟨sv,e4.own (Oq.own (e2.own (e1.own q1 (hd _ (.inl rfl)).1) (fun h=>h)) (hd _ (.inl rfl)).2.2.1) (hd _ (.inl rfl)).2.1,
    (((q2.ext e1 (fun b hb=>(hd b (.inr hb)).1)).ext e2 (fun _ _ h=>h)).ext Oq (fun b hb=>(hd b (.inr hb)).2.2.1)).ext e4 (fun b hb=>(hd b (.inr hb)).2.1)⟩
  ·exact⟨_,e4.own (Oq.own hq2 (fun e=>by have:=UV H1.size e;omega)) (fun e=>by have h9:H1.size=n:=e;omega),Sl.nil _ _⟩
 ·rcases Bp n h with h|h
  ·exact m.nC h
  ·omega
 ·rcases Ou b hb with h5|h5
  ·rcases Bp b h with h6|h6
   ·exact(m.PI b h5).1 h6
   ·have:=UV b h5;omega
  ·have:=SW b h;omega
 ·rcases Ou b hb with h|h
  ·exact(m.PI b h).2.1
  ·omega
 ·rcases Ou b hb with h5|h5
  ·exact(m.PI b h5).2.2 h
  ·have:=Xo b h;omega
 ·rcases Bp b h with h6|h6
  ·exact(m.KJ b hb).1 h6
  ·have:=Xo b hb;omega
 ·rcases ce _ P hP with h5| ⟨_,rfl⟩
  ·rcases Bp x h with h6|h6
   ·exact(m.pd _ P h5 x hx).1 h6
   ·have:=hold _ P h5 x hx;omega
  ·have:=zI x hx;have:=SW x h;omega
 ·rcases ce _ P hP with h5| ⟨_,rfl⟩
  ·exact(m.pd _ P h5 x hx).2.1
  ·have:=zI x hx;omega
 ·rcases ce _ P hP with h5| ⟨_,rfl⟩
  ·rcases Ou x h with h6|h6
   ·exact(m.pd _ P h5 x hx).2.2.1 h6
   ·have:=hold _ P h5 x hx;omega
  ·have:=zI x hx
   rcases Ou x h with h6|h6
   ·have:=UV x h6;omega
   ·omega
 ·rcases ce _ P hP with h5| ⟨_,rfl⟩
  ·exact(m.pd _ P h5 x hx).2.2.2 h
  ·have:=zI x hx;have:=Xo x h;omega
 ·rcases ce h P hP with h5| ⟨_,rfl⟩
  ·exact m.pr h P h5
  ·exact⟨(fun h=>by cases h),by simp⟩
 ·rcases ce _ P hP with h5| ⟨h5,rfl⟩
  ·rcases ce _ P' hP' with h6| ⟨h6,rfl⟩
   ·exact m.pp h h' P P' h5 h6 aS x hx xy
   ·have:=zI x xy;have:=hold _ P h5 x hx;omega
  ·rcases ce _ P' hP' with h6| ⟨h6,rfl⟩
   ·have:=zI x hx;have:=hold _ P' h6 x xy;omega
   ·omega
 ·simp[Nw.make,ol]
 ·show(w.hs++[true])[h]? =some true↔_
  rcases ao3 h ps.length with h5|h5|h5
  ·rw[anS h5,anS (by omega)]
   exact l.hs h
  ·subst h5
   rw[an5 (anO _),an5 (by omega),aoJ,ol,aoJ]
   simp
  ·rw[anP (by rw[anL,an6];omega),anP (by rw[anL,an6];omega)]
   simp
 ·rw[anS jj];exact l.h0
 ·rcases ce h P hP with h5| ⟨rfl,rfl⟩
  ·exact l.ok h P h5
  ·exact fun j _ hj=>by simp at hj
 ·rcases ce h P hP with h5| ⟨rfl,rfl⟩
  ·exact l.Ud h P h5
  ·exact fun i x hx=>by simp at hx
 ·rcases ce h P hP with h5| ⟨rfl,rfl⟩
  ·exact l.mem h P h5 x
  ·simp only[apz,false_iff]
   rintro⟨_,e,he⟩
   exact Ka _ _ he
 ·rcases ce h P hP with h5| ⟨rfl,rfl⟩
  ·exact l.len h P h5
  ·show((0:Nat):Int)=w.len _
   unfold Nw.len
   rw[if_pos (by omega),apg.2 (fun x hx=>by
    have:=(m.cells.home x hx).2
    simp only[aoq]
    omega)]
 ·exact((e1.mono fun z _ hz=>(hS z).1 (.inl hz)).trans ((e2.mono fun _ _ h=>h.elim).trans (Oq.mono fun z _ hz=>(hS z).1 (.inr (.inr (.inl hz)))))).trans (e4.mono fun z _ hz=>(hS z).1 (.inr (.inl hz)))
 ·rcases hx with hx|rfl|hx|hx| ⟨i,P,hP,hx⟩
  ·rcases Bp x hx with h|h
   ·exact .inl ((hS x).1 (.inl h))
   ·exact .inr h
  ·exact .inl ((hS x).1 (.inr (.inl rfl)))
  ·rcases Ou x hx with h|h
   ·exact .inl ((hS x).1 (.inr (.inr (.inl h))))
   ·exact .inr (by omega)
  ·exact .inl ((hS x).1 (.inr (.inr (.inr (.inl hx)))))
  ·rcases ce i P hP with h5| ⟨_,rfl⟩
   ·exact .inl ((hS x).1 (.inr (.inr (.inr (.inr ⟨i,P,h5,hx⟩)))))
   ·have:=zI x hx;exact .inr (by omega)
end Go.Proofs.YtjlnnljohemifaaGreat

namespace Go.Proofs.YtjlnnljohemifaaGreat
open Go Go.Vc
theorem pO.Xp{l at_ pC:List Int}(h:pO l at_)(ho:∀z∈l,0≤z→pC[z.toNat]? =at_[z.toNat]?):pO l pC:=fun i x hx=>by
 obtain⟨a,b⟩:=h i x hx
 exact⟨a,by rw[ho x (anG hx) a];exact b⟩
theorem jc{ps:List (Option Pl)}{g:Nat}{P':Pl}(hg:g<ps.length){h:Nat}{Q:Pl}(hQ:(ps.set g (some P'))[h]? =some (some Q)):(h=g∧Q=P')∨(h≠g∧ps[h]? =some (some Q)):=by
 by_cases hh:h=g
 ·subst hh
  rw[anI hg]at hQ
  simp only[anK]at hQ
  exact .inl ⟨rfl,hQ.symm⟩
 ·rw[anH (Ne.symm hh)]at hQ
  exact .inr ⟨hh,hQ⟩
theorem Hr.apart{w:Nw}{ps:List (Option Pl)}{at_:List Int}(l:Hr w ps at_){h h':Nat}{P Q:Pl}(hP:ps[h]? =some (some P))(hQ:ps[h']? =some (some Q))(aS:h≠h'){z:Int}(hz:z∈P.l):z∉Q.l:=fun hz'=>by
 obtain⟨_,e1,h1⟩:=(l.mem h P hP z).1 hz
 obtain⟨_,e2,h2⟩:=(l.mem h' Q hQ z).1 hz'
 rw[h1]at h2
 injection h2 with h2
 injection h2 with h2 _
 omega
theorem Hr.pos{w:Nw}{ps:List (Option Pl)}{at_:List Int}(l:Hr w ps at_){h:Nat}{P:Pl}(hP:ps[h]? =some (some P)):0<h:=by
 rcases apl h with hi|hi
 ·subst hi;rw[l.h0]at hP;cases hP
 ·exact hi
theorem Eo{H:Hp}{n:Nat}{S:Nat→Prop}{st:Int}{w:Nw}(h:dK H n S st w)(g x k s:Int):ai Tryz.prog qe [ptr n,i64 g,i64 x,wq k s] H fun v H'=>ay (
  (¬ (w.has g∧(0≤x∧x<w.cs.length)∧¬cZ w.cs x)∧v= .bool false∧dK H' n S st w∧ah S H H')∨
  ((w.has g∧(0≤x∧x<w.cs.length)∧¬cZ w.cs x)∧v= .bool true∧∃ (S':Nat→Prop) (q:Nat),(q:Int)≤nN 2 (w.len g)∧(0<w.len g→0<q)∧dK H' n S' (min (st+q) 4611686018427387904) (w.put x (g,k,s))∧ah S H H'∧∀z,S' z→S z∨H.size≤z)):=by
 obtain⟨c,C,rv,fr,fa,ps,at_,m,l,hS⟩:=h
 refine ba Be ⟨rfl,?_⟩
 refine v1 j8.eq_1 ?_
 have f0:aq H (H.new 224 [i64 k,u64 s]):=(ah.refl _ _).new _ _
 have b0:(H.new 224 [i64 k,u64 s]).own H.size=some [i64 k,u64 s]:=aE _ _ _
 have m0:=m.ext f0 (fun _ _ h=>h)
 generalize H.new 224 [i64 k,u64 s]=H0 at*
 obtain⟨av,KH,UK⟩:=m0.own
 refine v2 (ae KH) (ae b0) ?_
 refine(oL m0.cells g x k s).mono ?_
 rintro _ H1 (⟨cw,rfl,c1,e1⟩| ⟨tD,rfl,c1,e1⟩)
 ·refine vs ?_
  exact .inl ⟨cw,rfl,⟨c,C,rv,fr,fa,ps,at_,m0.aN c1 e1,l,hS⟩,(f0.mono fun _ _ h=>h.elim).trans (e1.mono fun z _ hz=>(hS z).1 (.inl hz))⟩
 obtain⟨hh,⟨ik,kj⟩,bQ⟩:=id tD
 obtain⟨P,hP⟩:=l.fZ hh
 have h1:=hh.1
 have BK:((g.toNat:Nat):Int)=g:=by omega
 have cj:=l.mem _ P hP
 have bv:=l.len _ P hP
 rw[BK]at cj bv
 obtain⟨c0,rA⟩:∃c0,w.cs[x.toNat]? =some c0:=⟨_,anx (by omega)⟩
 have Cz:¬0<c0.1:=fun h=>bQ ⟨ik,c0,rA,h⟩
 have cV:(w.put x (g,k,s)).cs[x.toNat]? =some (g,k,s):=anI (by omega)
 have nU:∀y:Nat,y≠x.toNat→(w.put x (g,k,s)).cs[y]? =w.cs[y]? :=fun y hy=>anH (Ne.symm hy)
 have QI:∀ (i:Nat) Q,ps[i]? =some (some Q)→x∉Q.l:=fun i Q hQ hm=>by
  obtain⟨_,e,he⟩:=(l.mem i Q hQ x).1 hm
  rw[rA]at he
  injection he with he
  subst he
  have:=l.pos hQ
  exact Cz (by simp only;omega)
 have aS:∀ (i:Nat) Q,ps[i]? =some (some Q)→∀y∈Q.l,0≤y∧y.toNat≠x.toNat:=fun i Q hQ y hy=>by
  have h2:=((l.mem i Q hQ y).1 hy).1
  exact⟨h2,fun e=>QI i Q hQ (by rw[show x=y by omega];exact hy)⟩
 have UW:∀ (i:Nat) Q,ps[i]? =some (some Q)→eZ (aU (w.put x (g,k,s))) 2 Q.l:=fun i Q hQ=>
  (l.ok i Q hQ).KK fun z hz y hy=>(jy w x _ (aS i Q hQ z hz).2 (aS i Q hQ y hy).2).symm
 have Ht:∀z∈P.l,cZ (w.put x (g,k,s)).cs z:=fun z hz=>by
  obtain⟨z0,e,he⟩:=(cj z).1 hz
  exact⟨z0,_,by rw[nU _ (aS _ P hP z hz).2];exact he,by simp only;omega⟩
 have Xq:cZ (w.put x (g,k,s)).cs x:=⟨ik,_,cV,by simp only;omega⟩
 have hlp:(w.put x (g,k,s)).len g=w.len g+1:=by rw[Nw.iq rA g,if_neg (fun hc=>by omega),if_pos ⟨by omega,rfl⟩];omega
 have rB:=m.cells.FM
 have ol:P.l.length<65536:=by
  have:=((w.put x (g,k,s)).Bj g).2
  have h5:(w.put x (g,k,s)).cs.length=w.cs.length:=anC ..
  omega
 have m1:=m0.aN c1 e1
 obtain⟨av1,QH,_⟩:=m1.own
 obtain⟨f,cc,lb,rfl,rfl,hf,UU,dD⟩:=m1.atp hP
 refine v1 (ae QH) ?_
 refine⟨by omega,?_⟩
 simp(disch:=(first|omega| (simp only[Zs]<;>omega)|fail)) only[go_sem, ↓reduceIte,Zv,ae hf,anD,UU,Uc]
 refine(Hq (m1.Oo hP) (l.Ud _ P hP) ol ⟨ik,by rw[l.My];omega⟩ (QI _ P hP) Xq Ht (UW _ P hP)).mono ?_
 rintro _ H2 ⟨rfl,dv,l',pC,q,pm,afD,kF,abb,ahU,afE,afF,hq,V9,e2,mr⟩
 refine vs ?_
 have z0:=f0.size
 have z1:=e1.size
 have hT:∀z,(C z∨P.fp=some z∨fa=some z∨z=P.r)→C z∨P.S z∨fa=some z:=fun z hz=>by
  rcases hz with hz|hz|hz|hz
  ·exact .inl hz
  ·exact .inr (.inl (.inr hz))
  ·exact .inr (.inr hz)
  ·exact .inr (.inl (.inl hz))
 have qU:∀z,(C z∨P.fp=some z∨fa=some z∨z=P.r)→S z:=fun z hz=>(hS z).1 (by
  rcases hT z hz with hz|hz|hz
  ·exact .inl hz
  ·exact .inr (.inr (.inr (.inr ⟨_,P,hP,hz⟩)))
  ·exact .inr (.inr (.inr (.inl hz))))
 refine .inr ⟨tD,rfl,E1 n C (some f) fa (ps.set g.toNat (some ⟨P.r,dv,l'⟩)),q,by rw[←bv];exact Int.ofNat_le.2 hq,fun h=>V9 (by omega),
  ⟨c,C,_,some f,fa,_,pC,m1.KM hP (P':=⟨P.r,dv,l'⟩) rfl pm mr e2 hT,
   ⟨by rw[anC];exact l.hl,fun h=>?_,?_,fun h Q hQ=>?_,fun h Q hQ=>?_,fun h Q hQ y=>?_,fun h Q hQ=>?_,?_⟩,fun z=>Iff.rfl⟩,?_,fun z hz=>?_⟩
 ·show w.hs[h]? =some true↔_
  rw[l.hs h]
  by_cases Mz:h=g.toNat
  ·subst Mz
   rw[anI dD]
   exact⟨fun _=>⟨_,rfl⟩,fun _=>⟨P,hP⟩⟩
  ·rw[anH (Ne.symm Mz)]
 ·rw[anH (by omega)];exact l.h0
 ·rcases jc dD hQ with ⟨rfl,rfl⟩| ⟨h5,h6⟩
  ·exact kF
  ·exact UW h Q h6
 ·rcases jc dD hQ with ⟨rfl,rfl⟩| ⟨h5,h6⟩
  ·exact afD
  ·exact(l.Ud h Q h6).Xp fun z hz z0=>afF z z0 (fun e=>QI h Q h6 (e▸hz)) (l.apart h6 hP h5 hz)
 ·rcases jc dD hQ with ⟨rfl,rfl⟩| ⟨h5,h6⟩
  ·rw[BK]
   show y∈l'↔_
   rw[abb y]
   constructor
   ·rintro(rfl|hy)
    ·exact⟨ik,_,cV⟩
    ·obtain⟨y0,e,he⟩:=(cj y).1 hy
     exact⟨y0,e,by rw[nU _ (aS _ P hP y hy).2];exact he⟩
   ·rintro⟨y0,e,he⟩
    by_cases rj:y.toNat=x.toNat
    ·exact .inl (by omega)
    ·rw[nU _ rj]at he
     exact .inr ((cj y).2 ⟨y0,e,he⟩)
  ·rw[l.mem h Q h6 y]
   by_cases rj:y.toNat=x.toNat
   ·rw[rj,cV,rA]
    constructor
    ·rintro⟨y0,e,he⟩
     injection he with he
     subst he
     have:=l.pos h6
     exact absurd (show(0:Int)< ((h:Nat):Int) by omega) Cz
    ·rintro⟨y0,e,he⟩
     injection he with he
     injection he with Xr he2
     omega
   ·rw[nU _ rj]
 ·rcases jc dD hQ with ⟨rfl,rfl⟩| ⟨h5,h6⟩
  ·rw[BK,hlp]
   show(l'.length:Int)=_
   omega
  ·rw[l.len h Q h6,Nw.iq rA h,if_neg (fun hc=>by omega),if_neg (fun hc=>by omega)]
   omega
 ·rw[afE,l.My];exact(anC ..).symm
 ·exact(f0.mono fun _ _ h=>h.elim).trans ((e1.mono fun z _ hz=>qU z (.inl hz)).trans (e2.mono fun z _ hz=>qU z hz))
 ·rcases hz with hz|rfl|hz|hz| ⟨i,Q,hQ,hz⟩
  ·exact .inl (qU z (.inl hz))
  ·exact .inl ((hS z).1 (.inr (.inl rfl)))
  ·exact .inl ((hS z).1 (.inr (.inr (.inl hz))))
  ·exact .inl (qU z (.inr (.inr (.inl hz))))
  ·rcases jc dD hQ with ⟨rfl,rfl⟩| ⟨h5,h6⟩
   ·rcases hz with rfl|hz
    ·exact .inl (qU _ (.inr (.inr (.inr rfl))))
    ·rcases mr with h| ⟨y,h,h7⟩
     ·exact .inl (qU z (.inr (.inl (h▸hz))))
     ·simp only at hz
      rw[h]at hz;injection hz with hz;exact .inr (by omega)
   ·exact .inl ((hS z).1 (.inr (.inr (.inr (.inr ⟨i,Q,h6,hz⟩)))))
theorem zX{H:Hp}{n:Nat}{S:Nat→Prop}{st:Int}{w:Nw}(h:dK H n S st w)(g:Int):ai Tryz.prog vk [ptr n,i64 g] H fun v H'=>ay (
  ((w.len g=0∧v= .tuple [i64 0,.bool false].toArray)∨∃x,w.first g x∧v= .tuple [i64 x,.bool true].toArray)∧H=H'):=by
 obtain⟨c,C,rv,fr,fa,ps,at_,m,l,hS⟩:=h
 obtain⟨av,ho,ha⟩:=m.own
 refine ba FD ⟨rfl,?_⟩
 refine v2 oG.eq_1 (ae ho) ?_
 refine(vx m.cells g).mono ?_
 rintro _ _ ⟨rfl,rfl⟩
 refine vs ?_
 refine am.dec (fun h0=>?_) (fun h0=>?_)
 ·refine vs ?_
  exact⟨.inl ⟨h0,rfl⟩,rfl⟩
 have hg:0<g:=by
  by_cases hg:0<g
  ·exact hg
  ·exact absurd (Nw.I9.2 (.inl (by omega))) h0
 have afG:w.has g:=by
  refine⟨by omega,?_⟩
  by_cases hx:w.hs[g.toNat]? =some true
  ·exact hx
  ·refine absurd (Nw.I9.2 (.inr fun i c hc e=>hx ?_)) h0
   have:=m.cells.live c (anG hc) (by omega)
   rwa[e]at this
 obtain⟨P,hP⟩:=l.fZ afG
 have BK:((g.toNat:Nat):Int)=g:=by omega
 have cj:=l.mem _ P hP
 have bv:=l.len _ P hP
 rw[BK]at cj bv
 have ol:=(w.Bj g).1
 obtain⟨f,cc,lb,rfl,rfl,hf,UU,dD⟩:=m.atp hP
 obtain⟨sv,hr,hs⟩:=m.mu _ P hP
 obtain⟨x,hx⟩:∃x,P.l[0]? =some x:=⟨_,anx (by omega)⟩
 obtain⟨b,c2,l2,rfl,jv,hb,oS,_,Ir⟩:=Sl.at_ hs (i:=0) (x:=i64 x) (by simp[hx])
 refine v1 (ae ho) ?_
 refine⟨by omega,?_⟩
 simp(disch:=(first|omega| (simp only[Zs]<;>omega)|fail)) only[go_sem, ↓reduceIte,Zv,ae hf,anD,UU,Uc,ae hr]
 refine⟨by omega,?_⟩
 refine v2 (ae hb) (show l2[Int.toNat 0*1]? =some (i64 x)from oS) ?_
 have hxP:=anG hx
 obtain⟨ik,e,he⟩:=(cj x).1 hxP
 refine⟨.inr ⟨x,⟨hg,ik,⟨e,he⟩,fun y hy ⟨e',tS⟩ aS=>?_⟩,rfl⟩,rfl⟩
 have hyP:=(cj y).2 ⟨hy,e',tS⟩
 obtain⟨j,hj⟩:=an8 hyP
 have hjl:=(anA.1 hj).1
 have h5:=G8 (au w) dQ (l.ok _ P hP) j j (anO _) hjl
 rw[uQ hj,uQ hx]at h5
 rcases(au w).Pj x y (Ne.symm aS)with h6|h6
 ·exact h6
 ·rw[h5]at h6;cases h6
end Go.Proofs.YtjlnnljohemifaaGreat
