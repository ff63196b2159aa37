/- Texts put behind each other. -/
import Derived.Test.YtjlnnljohemifaaGreatK98
import Derived.Test.YtjlnnljohemifaaGreatK1
import Derived.Test.YtjlnnljohemifaaGreatK17
import Derived.Test.YtjlnnljohemifaaGreatK20
import Derived.Test.YtjlnnljohemifaaGreatK21
import Derived.Test.YtjlnnljohemifaaGreatK22
import Derived.Test.YtjlnnljohemifaaGreatK23
set_option linter.unusedVariables false
set_option linter.unusedSimpArgs false
namespace Go.Proofs.YtjlnnljohemifaaGreat
open Go Go.Vc
theorem KY:∀ {l:List Int} {i:Nat} {x p:Int},l.Nodup→p∉l→l[i]? =some x→l.set i p=l.map (jt x p):=by
 intro l
 induction l with
 |nil=>intro i x p _ _ h;simp at h
 |cons a r ih=>
  intro i x p hn hp h
  have BI:=anV.1 hn
  have hpr:p∉r:=fun h=>hp (by simp[h])
  cases i with
  |zero=>
   simp only[an7,anK]at h
   subst h
   rw[ao1,aoy,nu,BU BI.1 hpr]
  |succ i=>
   have hx:r[i]? =some x:=by simpa using h
   have tT:a≠x:=fun e=>BI.1 (by rw[e];exact anG hx)
   have UE:a≠p:=fun e=>hp (by rw[e];simp)
   rw[aop,aoy,gg tT UE,ih BI.2 hpr hx]
def Tk(x p:Int):Rl→Rl
 | .sM y=>.sM (jt x p y)
 |r=>r
section
variable {H H' : Hp} {ro ro' : Nat → Rl} {fb tb n : Nat} {l : List Value} {V : Int → Value} {ch : Int → List Int} {par : Int → Int} {kb : Int → Option Nat} {T : Nat → Prop}
variable {hm : Int → Int} {lt : Int → Int → Bool} {rows : Int → List Int} {W : List Int}
theorem Sl.Vk{H:Hp}{v:Value}{m:Nat}{xs:List Int}{fp:Option Nat}(s:Sl H 1 v m (xs.map i64) fp){i:Nat}{x:Int}(hx:xs[i]? =some x):∃b lb c,v= .slice (some ⟨b,0,none⟩) m c∧fp=some b∧H.own b=some lb∧lb[i]? =some (i64 x)∧i<m∧m≤lb.length∧m=xs.length:=by
 obtain⟨a,c,rfl⟩:=Sl.shape s
 have hl:=s.1
 rw[anW,anD]at hl
 obtain⟨h1,b,lb,rfl,q2,q3⟩:=Sl.Bl s hx
 cases fp with
 |none=>have:=s.2.2;injection this with h1;cases h1
 |some b'=>
  obtain⟨_,UJ,c',hs,ho,hc,vf,_⟩:=s
  injection hs with fE NO Io
  injection fE with fE
  injection fE with fE
  subst fE
  rw[q2]at ho
  injection ho with ho
  subst ho
  exact⟨b,lb,c,rfl,rfl,q2,q3,h1,by omega,hl.symm⟩
theorem qD.agq{H:Hp}{fb tb n:Nat}{l:List Value}{V V':Int→Value}{U U':Int→Int}(t:qD H fb tb n l V U)(h:∀x:Int,0≤x→x<n→V' x=V x∧U' x=U x):qD H fb tb n l V' U':=
 ⟨t.own,t.Gg,t.len,fun x h0 h1=>by obtain⟨e1,e2⟩:=h x h0 h1;rw[e1,e2];exact t.at_ x h0 h1,t.ne⟩
set_option maxRecDepth 100000 in
set_option maxHeartbeats 1000000 in
theorem F5(m:ForM H ro fb tb n l V ch par kb)(hz:∀z,H.size≤z→ro z= .no)(w:ml hm lt ch par rows W){x p:Int}(hx:0≤x∧x<n)(hp:0≤p∧p<n)(Ly:x∈ch p)(Sb:par p≠ -1→0≤par p∧par p<n)(hn:n≤65536):
  ai Tryz.prog pg [ptr fb,i64 x] H fun v H'=>ay (v= .bool true∧∃ro' l' V' wx,ForM H' ro' fb tb n l' V' (Im ch x p) (Kb par x p) wx∧RK H.size ro ro'∧(∀z,H'.size≤z→ro' z= .no)∧ah (KB ro) H H'∧∀z,ro z= .no→ro' z= .no):=by
 obtain⟨d1,d2,d3,d4,d5⟩:=w.pr.dn p x Ly
 have aR:=w.less Ly
 have ec:p≠x:=fun e=>by rw[e]at aR;omega
 have npp:p∉ch p:=fun h=>by have:=w.less h;omega
 have npx:p∉ch x:=fun h=>by have:=w.less h;omega
 have nxx:x∉ch x:=fun h=>by have:=w.less h;omega
 have rB:∀z,(ch z).length≤n:=fun z=>bV (w.pr.nd z) fun c hc=>m.Iq z c hc
 have alw:=rB x
 have alx:=rB p
 have ol:=m.t.len
 obtain⟨x1,x2⟩:=m.t.at_ x hx.1 hx.2
 obtain⟨p1,p2⟩:=m.t.at_ p hp.1 hp.2
 have sx:=m.kd x hx.1 hx.2
 have sp:=m.kd p hp.1 hp.2
 obtain⟨oa,oc,ZA⟩:=Sl.shape sx
 obtain⟨i,hi,e⟩:=apu.1 Ly
 obtain⟨bp,lp,cp,V6,hkp,qp,qpi,tR,Ng,_⟩:=Sl.Vk sp (i:=i) (x:=x) (by rw[anx hi,e])
 have Wl:=m.rk p bp hp.1 hp.2 hkp
 have hbt:bp≠tb:=fun e=>by rw[e,m.rt]at Wl;cases Wl
 have Xc:bp≠fb:=fun e=>by rw[e,m.rf]at Wl;cases Wl
 have R7:∀b,kb x=some b→b≠tb∧b≠bp:=fun b hb=>by
  have:=m.rk x b hx.1 hx.2 hb
  refine⟨fun e=>(by rw[e,m.rt]at this;cases this),fun e=>?_⟩
  rw[e,Wl]at this
  injection this with this
  exact ec this
 rw[ZA]at x1
 rw[V6]at p1
 refine ba zj ⟨rfl,?_⟩
 refine v1 iM.eq_1 ?_
 refine(sz m.t hx).mono ?_
 rintro _ H' ⟨⟨h,_⟩| ⟨_,rfl⟩,e⟩
 ·rw[d1]at h;exact absurd h d2
 obtain rfl:=e.symm
 rw[d1]
 refine v1 (ae m.t.own) ?_
 refine⟨⟨by omega,by omega⟩,?_⟩
 refine v5 (ae m.t.own) (ae m.t.Gg) anB Nat.add_zero x1 ?_
 refine⟨⟨by omega,by omega⟩,?_⟩
 refine v5 (ae m.t.own) (ae m.t.Gg) anB Nat.add_zero p1 ?_
 refine⟨⟨by omega,by omega⟩,?_⟩
 refine v5 (ae m.t.own) (ae m.t.Gg) anB Nat.add_zero p2 ?_
 rw[V6]at sp
 refine(gu sp.rd x (by omega)).mono ?_
 rintro _ H' ⟨⟨j,rfl,hj⟩,e⟩
 obtain rfl:=e.symm
 obtain⟨hj0,hj⟩:=hj.resolve_left (fun h=>h.2 Ly)
 obtain⟨k,rfl⟩:∃k:Nat,j=(k:Int):=⟨j.toNat,by omega⟩
 rw[Int.toNat_natCast]at hj
 have hkl:=(anA.1 hj).1
 refine vs ?_
 refine⟨⟨by omega,by omega⟩,?_⟩
 refine v4 qp anB anD Int.toNat_natCast ?_
 refine⟨by omega,?_⟩
 refine vs ?_
 rw[hkp]at sp
 have sp1:=sp.ww qp k (i64 p)
 have XS:ah (fun z=>z=bp) H (H.wr bp (lp.set k (i64 p))):=(ah.refl (fun z=>z=bp) _).wr (fun _=>rfl) _
 rw[←aoo,KY (w.pr.nd p) npp hj]at sp1
 have t1:=m.t.ext XS (Ne.symm Xc) (Ne.symm hbt)
 have sx1:=sx.ext XS (fun b hb=>(R7 b hb).2)
 generalize H.wr bp (lp.set k (i64 p))=H1 at*
 have SX:((ch p).map (jt x p)).length=(ch p).length:=anW ..
 have cj:∀z,z∈(ch p).map (jt x p)↔(z=p∨(z∈ch p∧z≠x)):=fun z=>by
  rw[kV]
  by_cases h1:z=x
  ·rw[h1,nu]
   exact⟨fun h=>absurd h npp,fun h=>by rcases h with h|h;exact absurd h.symm ec;exact absurd rfl h.2⟩
  ·by_cases h2:z=p
   ·rw[h2,vg];simp[Ly]
   ·rw[gg h1 h2];simp[h1,h2]
 refine(tK t1 hx sp1 (fun h=>by injection h with h;exact hbt h) (fun c hc=>?_) (by omega)).mono ?_
 ·rcases(cj c).1 hc with h|h
  ·rw[h];exact hp
  ·exact m.Iq p c h.1
 rintro _ H2 ⟨l2,t2,e2⟩
 refine vs ?_
 have sx2:=sx1.ext e2 (fun b hb=>(R7 b hb).1)
 rw[ZA]at sx2
 refine(tK t2 hp sx2 (fun h=>(R7 tb h).1 rfl) (fun c hc=>m.Iq x c hc) (by omega)).mono ?_
 rintro _ H3 ⟨l3,t3,e3⟩
 have Ua:=t3.len
 refine v1 (ae t3.own) ?_
 refine⟨⟨by omega,by omega⟩,?_⟩
 refine v3 t3.Gg anB Nat.add_zero ?_
 refine⟨by omega,?_⟩
 obtain⟨t4,e4⟩:=t3.aK hx (par p)
 refine vs ?_
 have XB:=t4.len
 generalize H3.wr tb (l3.set (x.toNat*2+1) (i64 (par p)))=H4 at*
 generalize l3.set (x.toNat*2+1) (i64 (par p))=l4 at*
 have zE:ah (fun z=>z=tb) H1 H4:=(e2.trans e3).trans e4
 have ZC:x≠ -1:=w.pr.ne Ly
 have gx:par p≠x:=fun e=>by
  by_cases hq:par p= -1
  ·exact ZC (by rw[←e,hq])
  ·have:=w.less (w.pr.up p _ rfl hq)
   rw[e]at this;omega
 have ZD:par p≠p:=fun e=>by
  have:=w.less (w.pr.up p p e d2)
  omega
 have t5:qD H4 fb tb n l4 (fun z=>V (jt x p z)) (Kb par x p):=by
  refine t4.agq fun z h0 h1=>⟨?_,?_⟩
  ·by_cases e1:z=x
   ·rw[e1,nu];unfold xF;rw[if_neg ec.symm,if_pos rfl,V6]
   ·by_cases e2:z=p
    ·rw[e2,vg];unfold xF;rw[if_pos rfl,ZA]
    ·rw[gg e1 e2];unfold xF;rw[if_neg e2,if_neg e1]
  ·show jt x p (par (jt x p z))=(if z=x then par p else if z∈ch x then p else if z∈(ch p).map (jt x p)then x else par z)
   by_cases e1:z=x
   ·rw[if_pos e1,e1,nu,gg gx ZD]
   ·rw[if_neg e1]
    by_cases e2:z=p
    ·rw[e2,vg,d1,vg,if_neg npx,if_pos ((cj p).2 (.inl rfl))]
    ·rw[gg e1 e2]
     by_cases e3:z∈ch x
     ·rw[if_pos e3,(w.pr.dn x z e3).1,nu]
     ·rw[if_neg e3]
      by_cases e4:z∈ch p
      ·rw[if_pos ((cj z).2 (.inr ⟨e4,e1⟩)),(w.pr.dn p z e4).1,vg]
      ·rw[if_neg (fun h=>by rcases(cj z).1 h with h|h;exact e2 h;exact e4 h.1)]
       rw[gg (fun h=>e3 (w.pr.up z x h ZC)) (fun h=>e4 (w.pr.up z p h d2))]
 have hRK:∀H5:Hp,ah (fun z=>z=bp∨z=tb∨kb (par p)=some z∧par p≠ -1) H H5→RK H.size ro (fun z=>Tk x p (ro z))∧(∀z,H5.size≤z→Tk x p (ro z)= .no)∧ah (KB ro) H H5:=fun H5 e5=>by
  refine⟨⟨fun z ez hk=>?_,fun z y ez hy=>⟨jt x p y,by rw[hy];rfl⟩,fun z ez=>.inl (by rw[hz z ez];rfl)⟩,fun z ez=>?_,e5.mono fun z _ h=>?_⟩
  ·cases hr:ro z with
   |sM y=>exact absurd hr (hk y)
   |_=>rfl
  ·have:=e5.size
   rw[hz z (by omega)];rfl
  ·rcases h with h|h| ⟨h,hq⟩
   ·exact .inr ⟨p,by rw[h];exact Wl⟩
   ·exact .inl (by rw[h];exact m.rt)
   ·obtain⟨h0,h1⟩:=Sb hq
    exact .inr ⟨par p,m.rk _ z h0 h1 h⟩
 have abN:∀z:Int,¬ (0≤z∧z<n)→Im ch x p z=[]:=fun z ez=>by
  unfold Im
  rw[gg (fun e=>ez (by rw[e];exact hx)) (fun e=>ez (by rw[e];exact hp)),m.no z ez]
  rfl
 have hrS:∀z:Int,(0≤z∧z<n)→0≤jt x p z∧jt x p z<n:=fun z ez=>by
  by_cases e1:z=x
  ·rw[e1,nu];exact hp
  ·by_cases e2:z=p
   ·rw[e2,vg];exact hx
   ·rw[gg e1 e2];exact ez
 have Wm:∀z c,c∈Im ch x p z→0≤c∧c<n:=fun z c hc=>by
  have:=hrS _ (m.Iq _ _ (kV.1 hc))
  rwa[kU]at this
 have hkd:∀z:Int,0≤z→z<n→z≠par p→Sl H4 1 (V (jt x p z)) (Im ch x p z).length ((Im ch x p z).map i64) (kb (jt x p z)):=fun z h0 h1 hzg=>by
  by_cases e1:z=x
  ·unfold Im
   rw[e1,nu,hkp,V6]
   rw[SX]
   exact sp1.ext zE (fun b hb=>by injection hb with hb;omega)
  ·by_cases e2:z=p
   ·unfold Im
    rw[e2,vg,ZA,BU nxx npx]
    exact(sx2.ext e3 (fun b hb=>(R7 b hb).1)).ext e4 (fun b hb=>(R7 b hb).1)
   ·unfold Im
    rw[gg e1 e2]
    have nx:x∉ch z:=fun h=>e2 (by rw[← (w.pr.dn z x h).1,d1])
    have np:p∉ch z:=fun h=>hzg (w.pr.dn z p h).1.symm
    rw[BU nx np]
    refine((m.kd z h0 h1).ext XS (fun b hb e=>?_)).ext zE (fun b hb e=>?_)
    ·have:=m.rk z b h0 h1 hb
     rw[e,Wl]at this
     injection this with this
     exact e2 this.symm
    ·have:=m.rk z b h0 h1 hb
     rw[e,m.rt]at this
     cases this
 have XT:∀ (z:Int) b,0≤z→z<n→kb (jt x p z)=some b→Tk x p (ro b)= .sM z:=fun z b h0 h1 hb=>by
  obtain⟨g0,g1⟩:=hrS z ⟨h0,h1⟩
  rw[m.rk _ b g0 g1 hb]
  show Rl.sM (jt x p (jt x p z))=_
  rw[kU]
 refine am.dec (fun h0=>?_) (fun h0=>?_)<;>refine vs ?_
 ·obtain⟨r1,r2,r3⟩:=hRK H4 ((XS.mono fun z _ h=>.inl h).trans (zE.mono fun z _ h=>.inr (.inl h)))
  refine⟨rfl,_,l4,_,fun z=>kb (jt x p z),⟨t5,fun z g0 g1=>hkd z g0 g1 (by omega),by rw[m.rf];rfl,by rw[m.rt];rfl,XT,Wm,abN⟩,r1,r2,r3,fun z h=>by show Tk x p (ro z)=_;rw[h];rfl⟩
 ·obtain⟨g0,g1⟩:=Sb h0
  have tQ:=w.pr.up p _ rfl h0
  obtain⟨ig,hig,eg⟩:=apu.1 tQ
  have sg:=m.kd (par p) g0 g1
  obtain⟨bg,lg,cg,hvg,hkg,qg,qgi,alA,dD,_⟩:=Sl.Vk sg (i:=ig) (x:=p) (by rw[anx hig,eg])
  have QN:=m.rk _ bg g0 g1 hkg
  have hgt:bg≠tb:=fun e=>by rw[e,m.rt]at QN;cases QN
  have hgb:bg≠bp:=fun e=>by rw[e,Wl]at QN;injection QN with QN;exact ZD QN.symm
  have hgf:bg≠fb:=fun e=>by rw[e,m.rf]at QN;cases QN
  obtain⟨a1,a2⟩:=t5.at_ _ g0 g1
  rw[gg gx ZD,hvg]at a1
  refine v1 (ae t5.own) ?_
  refine⟨⟨by omega,by omega⟩,?_⟩
  refine v4 (ae t5.Gg) anB Nat.add_zero a1 ?_
  have qg4:=zE.own (XS.own qg hgb) hgt
  have sg4:Sl H4 1 (.slice (some ⟨bg,0,none⟩) (ch (par p)).length cg) (ch (par p)).length ((ch (par p)).map i64) (some bg):=by
   rw[hvg,hkg]at sg
   exact(sg.ext XS (fun b hb=>by injection hb with hb;omega)).ext zE (fun b hb=>by injection hb with hb;omega)
  have alC:=rB (par p)
  refine(gu sg4.rd p (by omega)).mono ?_
  rintro _ H' ⟨⟨j,rfl,hj⟩,e⟩
  obtain rfl:=e.symm
  obtain⟨hj0,hj⟩:=hj.resolve_left (fun h=>h.2 tQ)
  obtain⟨k,rfl⟩:∃k:Nat,j=(k:Int):=⟨j.toNat,by omega⟩
  rw[Int.toNat_natCast]at hj
  have hkl:=(anA.1 hj).1
  refine vs ?_
  refine⟨⟨by omega,by omega⟩,?_⟩
  refine v4 qg4 anB anD Int.toNat_natCast ?_
  refine⟨by omega,?_⟩
  refine vs ?_
  have sg5:=sg4.ww qg4 k (i64 x)
  have e5:ah (fun z=>z=bg) H4 (H4.wr bg (lg.set k (i64 x))):=(ah.refl (fun z=>z=bg) _).wr (fun _=>rfl) _
  have nxg:x∉ch (par p):=fun h=>ZD (by rw[← (w.pr.dn _ x h).1,d1])
  have Tl:(ch (par p)).map (jt p x)=(ch (par p)).map (jt x p):=ao4 fun c _=>by
   unfold jt
   by_cases e1:c=x
   ·rw[if_neg (fun e=>ec (by rw[←e,e1])),if_pos e1,if_pos e1]
   ·by_cases e2:c=p
    ·rw[if_pos e2,if_neg e1,if_pos e2]
    ·rw[if_neg e2,if_neg e1,if_neg e1,if_neg e2]
  rw[←aoo,KY (w.pr.nd _) nxg hj,Tl]at sg5
  obtain⟨r1,r2,r3⟩:=hRK _ (((XS.mono fun z _ h=>.inl h).trans (zE.mono fun z _ h=>.inr (.inl h))).trans (e5.mono fun z _ h=>.inr (.inr ⟨by rw[h];exact hkg,h0⟩)))
  refine⟨rfl,_,l4,_,fun z=>kb (jt x p z),⟨t5.ext e5 (fun e=>hgf e.symm) (fun e=>hgt e.symm),fun z q0 q1=>?_,by rw[m.rf];rfl,by rw[m.rt];rfl,XT,Wm,abN⟩,r1,r2,r3,fun z h=>by show Tk x p (ro z)=_;rw[h];rfl⟩
  by_cases hzg:z=par p
  ·unfold Im
   rw[hzg,gg gx ZD,hvg,hkg,anW]
   exact sg5
  ·refine(hkd z q0 q1 hzg).ext e5 (fun b hb e=>?_)
   have h7:=XT z b q0 q1 hb
   rw[e,QN]at h7
   have h8:Rl.sM (jt x p (par p))= .sM z:=h7
   injection h8 with h8
   rw[gg gx ZD]at h8
   exact hzg h8.symm
end
end Go.Proofs.YtjlnnljohemifaaGreat

namespace Go.Proofs.YtjlnnljohemifaaGreat
open Go Go.Vc
def Jo(H:Hp)(v:Value)(xs:List Int)(nb:Option Nat):Prop:=
 ∃a c,v= .slice a xs.length c∧xs.length≤c∧(c=0∨∃b o l,a=some ⟨b,o,none⟩∧nb=some b∧H.own b=some l∧o+c≤l.length∧(l.drop o).take xs.length=xs.map i64)
section
variable {H H' : Hp} {ro ro' : Nat → Rl} {B : Nat} {v : Value} {xs : List Int} {T : Nat → Prop} {nb : Option Nat}
theorem Jo.nil(H:Hp)(nb:Option Nat):Jo H (.slice none 0 0) [] nb:=⟨none,0,rfl,anO _,.inl rfl⟩
theorem Jo.rd(h:Jo H v xs nb):da H 1 v xs.length (xs.map i64):=by
 obtain⟨a,c,rfl,hc,h⟩:=h
 refine⟨by simp,?_⟩
 rcases h with rfl| ⟨b,o,l,rfl,_,h1,h2,h3⟩
 ·exact .inl ⟨by omega,a,0,by rw[show xs.length=0 by omega]⟩
 ·exact .inr ⟨b,o,c,l,rfl,ae h1,by omega,by rw[anD];exact h3⟩
theorem Jo.ext(h:Jo H v xs nb)(e:ah T H H')(hT:∀z,nb=some z→¬T z):Jo H' v xs nb:=by
 obtain⟨a,c,hv,hc,h⟩:=h
 exact⟨a,c,hv,hc,h.imp_right fun⟨b,o,l,h1,h2,h3,h4⟩=>⟨b,o,l,h1,h2,e.own h3 (hT b h2),h4⟩⟩
theorem Jo.cap(h:Jo H v xs nb):∃a c,v= .slice a xs.length c∧xs.length≤c:=by
 obtain⟨a,c,hv,hc,_⟩:=h
 exact⟨a,c,hv,hc⟩
theorem Jo.lit{T:TypeId}(x:Int):Jo (H.new T [i64 x]) (.slice (some ⟨H.size,0,none⟩) 1 1) [x] (some H.size):=
 ⟨_,1,rfl,anO _,.inr ⟨H.size,0,[i64 x],rfl,rfl,aE _ _ _,by simp,rfl⟩⟩
theorem Jo.tail{x:Int}{a:Option Addr}{c:Nat}(h:Jo H (.slice a (x::xs).length c) (x::xs) nb)(QM:Decidable ((c:Int)=1)):
  Jo H (.slice (@ite (Option Addr) ((c:Int)=1) QM a (Option.map (fun(y:Addr)=>y.add (Int.toNat 1*1)) a)) (((xs.length+1:Nat):Int).toNat - Int.toNat 1) ((c:Int).toNat - Int.toNat 1)) xs nb:=by
 rw[show((xs.length+1:Nat):Int).toNat - Int.toNat 1=xs.length by simp,show(c:Int).toNat - Int.toNat 1=c - 1 by simp]
 obtain⟨a',c',hv,hc,h⟩:=h
 injection hv with e1 e2 e3
 subst e1 e3
 rw[anY]at hc
 refine⟨_,c - 1,rfl,by omega,?_⟩
 by_cases h1:(c:Int)=1
 ·exact .inl (by omega)
 ·rw[if_neg h1]
  rcases h with h| ⟨b,o,l,rfl,h2,h3,h4,h5⟩
  ·omega
  ·refine .inr ⟨b,o+1,l,rfl,h2,h3,by omega,?_⟩
   rw[anY,aoy]at h5
   have h6:(l.drop (o+1))=(l.drop o).drop 1:=by rw[apw]
   rw[h6,List.take_drop,Nat.add_comm,h5]
   rfl
theorem Jo.push{K:Value→Hp→Prop}{T:TypeId}(h:Jo H v xs nb)(x:Int)(hl:xs.length≤1000000)
  (hk:∀w' H' JY,(JY=nb∨∃z,JY=some z∧H.size≤z∧z<H'.size)→Jo H' w' (xs++[x]) JY→ah (fun z=>nb=some z) H H'→K w' H'):
  im T 1 8 [i64 0] v (.slice (some ⟨H.size,0,none⟩) 1 1) (H.new T [i64 x]) K:=by
 have fl:aq H (H.new T [i64 x]):=(ah.refl _ _).new _ _
 have h1:=h.rd.fresh fl
 obtain⟨a,c,rfl,hc,h⟩:=h
 have hx:da (H.new T [i64 x]) 1 (.slice (some ⟨H.size,0,none⟩) 1 1) 1 [i64 x]:=(Sl.dw (size:=1) (n:=1) (xs:=[i64 x]) rfl rfl).rd
 refine da.rowOf hx (F:=fun m new=>(xs.length+m≤c→m=0→K (.slice a xs.length c) (H.new T [i64 x]))∧
  (xs.length+m≤c→m≠0→xT a fun b o=>aF (KZ ((H.new T [i64 x]).own b) ((H.new T [i64 x]).Du b)) fun l=>eB (o+(xs.length+m)*1≤l.length∧gU new) (K (.slice a (xs.length+m) c) ((H.new T [i64 x]).wr b (bk l (o+xs.length*1) new))))∧
  (c<xs.length+m→Builtin.nextslicecap (xs.length+m) c*8≤2^48∧
   rowOf (H.new T [i64 x]) 1 (.slice a xs.length c) fun _ Tm=>∀c',xs.length+m≤c'→K (.slice (some ⟨(H.new T [i64 x]).size,0,none⟩) (xs.length+m) c') ((H.new T [i64 x]).new T (Tm++new++cN [i64 0] (c' - (xs.length+m)))))) ?_
 refine⟨fun _ h=>absurd h (by omega),fun vf _=>?_,fun aR=>⟨?_,?_⟩⟩
 ·rcases h with rfl| ⟨b,o,l,rfl,h2,h3,h4,h5⟩
  ·omega
  ·have Wn:=fl.own h3 (fun h=>h)
   show aF (KZ ((H.new T [i64 x]).own b) ((H.new T [i64 x]).Du b)) _
   rw[Wn]
   refine⟨⟨by omega,fun v hv=>by rw[anM.1 hv];rfl⟩,?_⟩
   have ol:(xs++[x]).length=xs.length+1:=by simp
   have e2:ah (fun z=>z=b) (H.new T [i64 x]) ((H.new T [i64 x]).wr b (bk l (o+xs.length*1) [i64 x])):=(ah.refl (fun z=>z=b) _).wr (fun _=>rfl) _
   refine hk _ _ nb (.inl rfl) ⟨some ⟨b,o,none⟩,c,by rw[ol],by rw[ol];exact vf,.inr ⟨b,o,bk l (o+xs.length*1) [i64 x],rfl,h2,aj Wn,by rw[nl];exact h4,?_⟩⟩ ((fl.mono fun _ _ h=>h.elim).trans (e2.mono fun z _ e=>by rw[e];exact h2))
   rw[anD]
   apply aoj
   intro k
   rw[aos,ol]
   by_cases hk:k<xs.length+1
   ·rw[an9 hk,aoc,getElem?_splice [i64 x] l _ _ (by simp;omega)]
    by_cases Lq:k<xs.length
    ·rw[if_neg (by omega),anS (by simpa using Lq),←h5,an9 Lq,aoc]
    ·have:k=xs.length:=by omega
     rw[if_pos (by simp;omega),an5 (by simp;omega),this]
     simp
   ·rw[anP (by simp;omega),anP (by simp;omega)]
 ·have h2:Builtin.nextslicecap (xs.length+1) c≤2*(xs.length+1):=nextslicecap_le aR
  have h3:=aoW 8 h2
  omega
 ·refine da.rowOf (n:=xs.length) (xs:=xs.map i64) h1 ?_
  intro c' LD
  have NN:(H.new T [i64 x]).size=H.size+1:=ar _ _ _
  refine hk _ _ (some (H.new T [i64 x]).size) (.inr ⟨_,rfl,by omega,by simp only[ar];omega⟩) ⟨_,c',by simp,by simpa using LD,.inr ⟨(H.new T [i64 x]).size,0,_,rfl,rfl,aE _ _ _,?_,?_⟩⟩ ((fl.mono fun _ _ h=>h.elim).trans ((ah.refl _ _).new _ _))
  ·simp only[anL,anW,E9,an6,anD]
   omega
  ·rw[apI,aos]
   exact List.take_left' (by simp)
theorem RK.low{s s':Nat}(r:RK s' ro ro')(hs:s≤s')(hz:∀z,s≤z→ro z= .no):RK s ro ro':=(RK.refl hz).trans r hs
theorem RK.none{s:Nat}(r:RK s ro ro'){z:Nat}(hz:z<s)(h:ro z= .no):ro' z= .no:=by
 rw[r.o z hz (fun x e=>by rw[h]at e;cases e),h]
end
section
variable {H H' : Hp} {ro ro' : Nat → Rl} {fb tb nn c : Nat} {l : List Value} {V : Int → Value} {ch : Int → List Int} {par : Int → Int} {kb : Int → Option Nat} {C : Nat → Prop} {w : Nw} {lt : Int → Int → Bool} {rows : Int → List Int} {W : List Int}
theorem ml.S0{hm:Int→Int}(f:ml (aI w) lt ch par rows W){x:Int}(hx:x∈W):0≤x∧x<w.cs.length:=by
 obtain⟨a,b,_⟩:=aH (f.wm x hx).2
 exact⟨a,b⟩
def KC(ro:Nat→Rl)(z:Nat):Prop:=KB ro z∨ro z= .cell
theorem F6(m:ForM H ro fb tb w.cs.length l V ch par kb)(hz:∀z,H.size≤z→ro z= .no)(hn:∃rest,H.own nn=some (ptr c::rest))(cq:CQ H c C w)(hC:∀z,C z→ro z= .cell)(aR:∀a b,aU w a b=true→lt a b=true)
  {x y:Int}(f:ml (aI w) lt ch par rows (x::y::W))(hh:aI w x=aI w y)(hd:(ch x).length=(ch y).length):
  ai Tryz.prog yL [ptr fb,.iface 198 (ptr nn),i64 x,i64 y] H fun v H'=>ay (∃p q ro' l' V' wx,v=i64 p∧((p=x∧q=y)∨(p=y∧q=x))∧ForM H' ro' fb tb w.cs.length l' V' (aA ch p (ch p++[q])) (aK par q p) wx∧
   ml (aI w) lt (aA ch p (ch p++[q])) (aK par q p) rows (p::W)∧CQ H' c C w∧RK H.size ro ro'∧(∀z,H'.size≤z→ro' z= .no)∧ah (KC ro) H H'):=by
 have xJ:=f.S0 (hm:=aI w) (x:=x) (by simp)
 have T3:=f.S0 (hm:=aI w) (x:=y) (by simp)
 obtain⟨x1,x2⟩:=f.wm x (by simp)
 obtain⟨y1,y2⟩:=f.wm y (by simp)
 have RL:x≠y:=fun e=>by have:=f.wn;rw[e]at this;simp at this
 have zD:=cq.FM
 have VX:(ch x).length≤w.cs.length:=bV (f.pr.nd x) fun c hc=>m.Iq x c hc
 obtain⟨rest,ho⟩:=hn
 refine ba zm ⟨rfl,?_⟩
 refine v1 iO.eq_1 ?_
 refine⟨_,_,cS,ptr c,rfl,hX (off:=0) (by kernel_rfl) (ae ho) rfl,(cK cq y x).mono ?_⟩
 rintro _ H1 ⟨rfl,c1,e1⟩
 have m1:=m.ext e1 (fun z ez h=>by
  have:=hC z h
  rcases ez with h2|h2| ⟨_,h2⟩<;>(rw[this]at h2;cases h2))
 have z1:=e1.size
 have Wc:∀z,H1.size≤z→ro z= .no:=fun z h=>hz z (by omega)
 rw[jp (w:=w) (a:=y) (b:=x) y2 x2]
 cases rj:aU w y x
 ·refine vs ?_
  have hl:=aR _ _ (((au w).Pj x y RL).resolve_right (by rw[rj];simp))
  refine(vy m1 Wc xJ T3 x1 y1 RL hd (by omega)).mono ?_
  rintro _ H2 ⟨rfl,rz,l2,V2,E8,m2,r2,ez,e2⟩
  refine vs ?_
  refine⟨x,y,rz,l2,V2,E8,rfl,.inl ⟨rfl,rfl⟩,m2,f.link hh hd hl,c1.ext e2 (fun z h hk=>?_),r2.low z1 hz,ez,(e1.mono fun z _ h=>.inr (hC z h)).trans (e2.mono fun z _ h=>.inl h)⟩
  have:=hC z h
  rcases hk with h2| ⟨_,h2⟩<;>(rw[this]at h2;cases h2)
 ·refine vs ?_
  have hl:=aR _ _ rj
  refine(vy m1 Wc T3 xJ y1 x1 RL.symm hd.symm (by omega)).mono ?_
  rintro _ H2 ⟨rfl,rz,l2,V2,E8,m2,r2,ez,e2⟩
  refine vs ?_
  refine⟨y,x,rz,l2,V2,E8,rfl,.inr ⟨rfl,rfl⟩,m2,(f.perm (List.Perm.swap ..)).link hh.symm hd.symm hl,c1.ext e2 (fun z h hk=>?_),r2.low z1 hz,ez,(e1.mono fun z _ h=>.inr (hC z h)).trans (e2.mono fun z _ h=>.inl h)⟩
  have:=hC z h
  rcases hk with h2| ⟨_,h2⟩<;>(rw[this]at h2;cases h2)
end
end Go.Proofs.YtjlnnljohemifaaGreat

namespace Go.Proofs.YtjlnnljohemifaaGreat
open Go Go.Vc
def HM(H:Hp)(ro:Nat→Rl)(B:Nat)(v:Value)(xs:List Int):Prop:=
 ∃a c,v= .slice a xs.length c∧xs.length≤c∧(xs=[]∨∃b o l,a=some ⟨b,o,none⟩∧b<B∧¬KC ro b∧H.rd b=some l∧o+xs.length≤l.length∧(l.drop o).take xs.length=xs.map i64)
section
variable {H H' H0 : Hp} {ro ro' XU : Nat → Rl} {B : Nat} {v : Value} {xs : List Int} {T : Nat → Prop}
theorem HM.rd(h:HM H ro B v xs):da H 1 v xs.length (xs.map i64):=by
 obtain⟨a,c,rfl,hc,h⟩:=h
 refine⟨by simp,?_⟩
 rcases h with rfl| ⟨b,o,l,rfl,_,_,h1,h2,h3⟩
 ·exact .inl ⟨rfl,a,c,rfl⟩
 ·exact .inr ⟨b,o,c,l,rfl,h1,by omega,by rw[anD];exact h3⟩
theorem HM.ext(h:HM H ro B v xs)(e:ah T H H')(hT:∀z,z<B→¬KC ro z→¬T z)(hr:∀z,z<H.size→KC ro' z→KC ro z):HM H' ro' B v xs:=by
 obtain⟨a,c,hv,hc,h⟩:=h
 exact⟨a,c,hv,hc,h.imp_right fun⟨b,o,l,h1,h2,h3,h4,h5⟩=>⟨b,o,l,h1,h2,fun h=>h3 (hr b (PP h4) h),e.rd h4 (hT b h2 h3),h5⟩⟩
theorem HM.tail{x:Int}{a:Option Addr}{c:Nat}(h:HM H ro B (.slice a (x::xs).length c) (x::xs))(QM:Decidable ((c:Int)=1)):
  HM H ro B (.slice (@ite (Option Addr) ((c:Int)=1) QM a (Option.map (fun(y:Addr)=>y.add (Int.toNat 1*1)) a)) (((xs.length+1:Nat):Int).toNat - Int.toNat 1) ((c:Int).toNat - Int.toNat 1)) xs:=by
 rw[show((xs.length+1:Nat):Int).toNat - Int.toNat 1=xs.length by simp,show(c:Int).toNat - Int.toNat 1=c - 1 by simp]
 obtain⟨a',c',hv,hc,h⟩:=h
 injection hv with e1 e2 e3
 subst e1 e3
 rw[anY]at hc
 refine⟨_,c - 1,rfl,by omega,?_⟩
 by_cases h1:(c:Int)=1
 ·exact .inl (aoe.1 (by omega))
 ·rw[if_neg h1]
  rcases h with h| ⟨b,o,l,rfl,h2,h3,h4,h5,h6⟩
  ·cases h
  ·rw[anY]at h5 h6
   refine .inr ⟨b,o+1,l,rfl,h2,h3,h4,by omega,?_⟩
   rw[aoy]at h6
   have h7:(l.drop (o+1))=(l.drop o).drop 1:=by rw[apw]
   rw[h7,List.take_drop,Nat.add_comm,h6]
   rfl
theorem HM.head{x:Int}(h:HM H ro B v (x::xs)):∃b o l c,v= .slice (some ⟨b,o,none⟩) (x::xs).length c∧H.rd b=some l∧b<H.size∧l[o]? =some (i64 x)∧(x::xs).length≤c:=by
 obtain⟨a,c,hv,hc,h⟩:=h
 rcases h with h| ⟨b,o,l,rfl,h2,h3,h4,h5,h6⟩
 ·cases h
 ·refine⟨b,o,l,c,hv,h4,PP h4,?_,hc⟩
  have h7:((x::xs).map i64)[0]? =some (i64 x):=rfl
  rw[←h6,aob,if_pos (by simp),aoc]at h7
  exact h7
theorem HM.cap(h:HM H ro B v xs):∃a c,v= .slice a xs.length c∧xs.length≤c:=by
 obtain⟨a,c,hv,hc,_⟩:=h
 exact⟨a,c,hv,hc⟩
theorem RK.kcs{s:Nat}(r:RK s ro ro'){z:Nat}(hz:z<s)(h:KC ro' z):KC ro z:=by
 rcases h with h|h
 ·exact .inl (r.kbs hz h)
 ·refine .inr ?_
  by_cases hk:∃x,ro z= .sM x
  ·obtain⟨x,hx⟩:=hk
   obtain⟨y,hy⟩:=r.k z x hz hx
   rw[hy]at h;cases h
  ·rw[←r.o z hz (fun x hx=>hk ⟨x,hx⟩)];exact h
structure sF(H0:Hp)(XU:Nat→Rl)(nn fb tb c:Nat)(C:Nat→Prop)(w:Nw)(H:Hp)(ro:Nat→Rl)(l:List Value)(V:Int→Value)(ch:Int→List Int)(par:Int→Int)(kb:Int→Option Nat)(va vb:Value)(a b:List Int):Prop where
 m:ForM H ro fb tb w.cs.length l V ch par kb
 cq:CQ H c C w
 hC:∀z,C z→ro z= .cell
 own:∃rest,H.own nn=some (ptr c::rest)
 hn:ro nn= .SJ
 hz:∀z,H.size≤z→ro z= .no
 rk:RK H0.size XU ro
 ra:HM H ro H0.size va a
 rb:HM H ro H0.size vb b
 e:ah (KC XU) H0 H
variable {nn fb tb c : Nat} {C : Nat → Prop} {w : Nw} {l : List Value} {V : Int → Value} {ch : Int → List Int} {par : Int → Int} {kb : Int → Option Nat} {va vb : Value} {a b : List Int}
theorem sF.Vl(h:sF H0 XU nn fb tb c C w H ro l V ch par kb va vb a b)(e:ah T H H')(hT:∀z,T z→H0.size≤z∧ro z= .no):sF H0 XU nn fb tb c C w H' ro l V ch par kb va vb a b:=by
 have cw:∀z r,ro z=r→r≠ .no→¬T z:=fun z r h1 h2 ht=>h2 (by rw[←h1,(hT z ht).2])
 obtain⟨rest,ho⟩:=h.own
 have hs:=e.size
 refine⟨h.m.ext e (fun z hz=>?_),h.cq.ext e (fun z hz=>cw z _ (h.hC z hz) (by intro h;cases h)),h.hC,⟨rest,e.own ho (cw nn _ h.hn (by intro h;cases h))⟩,h.hn,fun z hz=>h.hz z (by omega),h.rk,
  h.ra.ext e (fun z hz _ ht=>by have:=(hT z ht).1;omega) (fun _ _ h=>h),h.rb.ext e (fun z hz _ ht=>by have:=(hT z ht).1;omega) (fun _ _ h=>h),?_⟩
 ·rcases hz with h1|h1| ⟨x,h1⟩<;>exact cw z _ h1 (by intro h;cases h)
 ·exact⟨aok h.e.size e.size,fun z hz hn=>by
   rw[e.aP z (an3 hz h.e.size) (fun ht=>by have:=(hT z ht).1;omega),h.e.aP z hz hn]⟩
end
end Go.Proofs.YtjlnnljohemifaaGreat

namespace Go.Proofs.YtjlnnljohemifaaGreat
open Go Go.Vc
theorem By{H:Hp}{bx:Nat}{a:Option Addr}{c:Nat}{xs:List Int}(hb:H.own bx=some [.slice a xs.length c])(h:da H 1 (.slice a xs.length c) xs.length (xs.map i64))(hm:xs.length≤1000000)(x:Int):
  ai Tryz.prog lf [i64 x,ptr bx] H fun v H'=>ay (v= .bool (decide (x∈xs))∧H'=H):=by
 refine yi mixed uq (nt:=7) (by kernel_rfl) (by simp) ?_
 refine v2 fu.eq_1 (ae hb) ?_
 refine(xK h x (by omega)).mono ?_
 rintro _ H' ⟨rfl,e⟩
 obtain rfl:=e.symm
 refine vs ?_
 exact⟨rfl,rfl⟩
section
variable {H H' : Hp} {ro ro' : Nat → Rl} {nn fb tb c : Nat} {C : Nat → Prop} {w : Nw} {l : List Value} {V : Int → Value} {ch : Int → List Int} {par : Int → Int} {kb : Int → Option Nat} {va vb : Value} {a b W0 : List Int} {lt : Int → Int → Bool} {rows : Int → List Int} {g : Int}
def XV(e:Env)(fb nn bx:Nat)(va vo vn:Value)(k:Nat):Prop:=
 e.find 0=some (ptr fb)∧e.find 1=some (.iface 198 (ptr nn))∧e.find 2=some va∧e.find 7=some (ptr bx)∧e.find 10=some vo∧e.find 11=some vn∧e.find 12=some (i64 k)
theorem K4{P:Program}{A B:S}{env:Env}{H:Hp}{Kn:Env→Hp→Prop}{Kx:Nat→Env→Hp→Prop}{Kr:Env→Hp→Prop}(I:Env→Hp→Prop)(h:vc P A env H I Kx Kr)(k:∀e h,I e h→vc P B e h Kn Kx Kr):vc P (.seq A B) env H Kn Kx Kr:=
 Fa A env H _ _ _ _ _ _ k (fun _ _ _ h=>h) (fun _ _ h=>h) h
theorem sF.agw(h:sF H ro nn fb tb c C w H' ro' l V ch par kb va vb a b):sF H ro nn fb tb c C w H' ro' l V ch par kb (.slice none 0 0) (.slice none 0 0) [] []:=
 ⟨h.m,h.cq,h.hC,h.own,h.hn,h.hz,h.rk,⟨none,0,rfl,anO _,.inl rfl⟩,⟨none,0,rfl,anO _,.inl rfl⟩,h.e⟩
theorem sF.agx{va':Value}{a':List Int}(h:sF H ro nn fb tb c C w H' ro' l V ch par kb va vb a b)(r:HM H' ro' H.size va' a'):sF H ro nn fb tb c C w H' ro' l V ch par kb va' vb a' b:=
 ⟨h.m,h.cq,h.hC,h.own,h.hn,h.hz,h.rk,r,h.rb,h.e⟩
theorem sF.Tn{vb':Value}{b':List Int}(h:sF H ro nn fb tb c C w H' ro' l V ch par kb va vb a b)(r:HM H' ro' H.size vb' b'):sF H ro nn fb tb c C w H' ro' l V ch par kb va vb' a b':=
 ⟨h.m,h.cq,h.hC,h.own,h.hn,h.hz,h.rk,h.ra,r,h.e⟩
theorem sF.EH{H3:Hp}{vo:Value}{out:List Int}{nb JY fo:Option Nat}(h:sF H ro nn fb tb c C w H' ro' l V ch par kb va vb a b)(bx:H'.own H.size=some [vb])(so:Sl H' 1 vo out.length (out.map i64) fo)
  (hd:∀z,nb=some z∨fo=some z→H.size<z∧z<H'.size∧ro' z= .no)(UN:∀z,nb=some z→fo=some z→False)(e3:ah (fun z=>nb=some z) H' H3)(Fi:JY=nb∨∃z,JY=some z∧H'.size≤z∧z<H3.size):
  sF H ro nn fb tb c C w H3 ro' l V ch par kb va vb a b∧H3.own H.size=some [vb]∧Sl H3 1 vo out.length (out.map i64) fo∧(∀z,JY=some z∨fo=some z→H.size<z∧z<H3.size∧ro' z= .no)∧(∀z,JY=some z→fo=some z→False):=by
 have oS:=aG bx
 have hs:=e3.size
 refine⟨h.Vl e3 (fun z hz=>by have:=hd z (.inl hz);exact⟨by omega,this.2.2⟩),e3.own bx (fun hz=>by have:=hd _ (.inl hz);omega),so.ext e3 (fun z h1 h2=>UN z h2 h1),fun z hz=>?_,fun z h1 h2=>?_⟩
 ·rcases hz with hz|hz
  ·rcases Fi with h1| ⟨y,h1,h2,h3⟩
   ·rw[h1]at hz
    have:=hd z (.inl hz)
    exact⟨this.1,by omega,this.2.2⟩
   ·rw[h1]at hz
    injection hz with hz
    subst hz
    exact⟨by omega,h3,h.hz _ h2⟩
  ·have:=hd z (.inr hz)
   exact⟨this.1,by omega,this.2.2⟩
 ·rcases Fi with h3| ⟨y,h3,h4,h5⟩
  ·exact UN z (by rw[←h3];exact h1) h2
  ·rw[h3]at h1
   injection h1 with h1
   have:=hd z (.inr h2)
   omega
def To(H0:Hp)(XU:Nat→Rl)(nn fb tb c:Nat)(C:Nat→Prop)(w:Nw)(lt:Int→Int→Bool)(rows:Int→List Int)(W0:List Int)(g:Int)(Iz:Int→List Int)(k ia ib io:Nat)(pn:Nat→Prop)(H:Hp)(va vb vn vo:Value):Prop:=
 ∃ (a b now out:List Int) (nb fo:Option Nat) (ro:Nat→Rl) (l:List Value) (V:Int→Value) (ch:Int→List Int) (par:Int→Int) (kb:Int→Option Nat),
  sF H0 XU nn fb tb c C w H ro l V ch par kb va vb a b∧ml (aI w) lt ch par rows (now++(a++(b++(out++W0))))∧pY (aI w) ch g k ia ib io a b now out∧pn now.length∧
  H.own H0.size=some [vb]∧ro H0.size= .no∧Jo H vn now nb∧Sl H 1 vo out.length (out.map i64) fo∧(∀z,nb=some z∨fo=some z→H0.size<z∧z<H.size∧ro z= .no)∧(∀z,nb=some z→fo=some z→False)∧(∀z∈W0,ch z=Iz z)
set_option maxRecDepth 100000 in
set_option maxHeartbeats 8000000 in
theorem EI(h0:sF H ro nn fb tb c C w H ro l V ch par kb va vb a b)(aR:∀a b,aU w a b=true→lt a b=true)(f0:ml (aI w) lt ch par rows (a++(b++W0)))(hra:Gu ch a)(XW:Gu ch b)(hg:∀c,c∈a∨c∈b→aI w c=g):
  ai Tryz.prog nD [ptr fb,.iface 198 (ptr nn),va,vb] H fun v H'=>ay (∃out ro' l' V' dV bH wx vo fo,v= .tuple [vo,.bool true].toArray∧sF H ro nn fb tb c C w H' ro' l' V' dV bH wx (.slice none 0 0) (.slice none 0 0) [] []∧
   Sl H' 1 vo out.length (out.map i64) fo∧(∀z,fo=some z→H.size≤z∧ro' z= .no)∧ml (aI w) lt dV bH rows (out++W0)∧Gu dV out∧(∀c∈out,aI w c=g)∧∀z∈W0,dV z=ch z):=by
 have zD:=h0.cq.FM
 obtain⟨aa,ca,rfl,hca⟩:=h0.ra.cap
 obtain⟨ab,cb,rfl,Gt⟩:=h0.rb.cap
 obtain⟨n1,n2,n3⟩:=aon.1 f0.wn
 have bQ:∀x∈a++(b++W0),(0≤x∧x<w.cs.length)∧par x= -1:=fun x hx=>⟨f0.S0 (hm:=aI w) hx,(f0.wm x hx).1⟩
 have hla:=bV n1 fun c hc=>(bQ c (aoh _ hc)).1
 have Ir:=bV (aon.1 n2).1 fun c hc=>(bQ c (aoE _ (aoh _ hc))).1
 refine ba xi ⟨rfl,?_⟩
 refine v1 nJ.eq_1 ?_
 have e1:ah (fun z=>H.size≤z) H (H.new 24 [.slice ab b.length cb]):=((ah.refl _ _).new _ _:aq H _).mono fun _ _ h=>h.elim
 have bx1:(H.new 24 [.slice ab b.length cb]).own H.size=some [.slice ab b.length cb]:=aE _ _ _
 have z1:(H.new 24 [.slice ab b.length cb]).size=H.size+1:=ar _ _ _
 have h1:=h0.Vl e1 (fun z hz=>⟨hz,h0.hz z hz⟩)
 generalize H.new 24 [.slice ab b.length cb]=H1 at*
 refine(xS h1.m h1.ra.rd (fun x hx=>bQ x (aoh _ hx)) hra (by omega)).mono ?_
 rintro _ H' ⟨rfl,e⟩
 obtain rfl:=e.symm
 refine v1 (ae bx1) ?_
 refine(xS h1.m h1.rb.rd (fun x hx=>bQ x (aoE _ (aoh _ hx))) XW (by omega)).mono ?_
 rintro _ H' ⟨rfl,e⟩
 obtain rfl:=e.symm
 refine vs ?_
 refine(qQ (H:=H1) lf [ptr H.size] (fun x=>decide (x∈b)) (fun H'=>H'=H1) rfl (fun H' hI=>by rw[hI];exact h1.ra.rd) (by kernel_rfl) (fun H' x hx hI=>?_) (by omega)).mono ?_
 ·rw[hI]
  exact By bx1 h1.rb.rd (by omega) x
 rintro _ H' ⟨rfl,e⟩
 obtain rfl:=e.symm
 have Jp:(a.any fun x=>decide (x∈b))=false:=apV.2 fun x hx=>by
  simp only[aoq]
  exact fun hb=>n3 x hx x (aoh _ hb) rfl
 rw[Jp]
 refine vs ?_
 have i0:pY (aI w) ch g 0 0 0 0 a b [] []:=⟨hra,XW,List.Pairwise.nil,fun _ _=>apv _,fun _ _=>apv _,by simp,by simp,fun c hc=>hg c (by simpa using hc)⟩
 have d0:∀z,((none:Option Nat)=some z∨(none:Option Nat)=some z)→H.size<z∧z<H1.size∧ro z= .no:=fun z hz=>by rcases hz with h|h<;>cases h
 have d00:∀z,(none:Option Nat)=some z→(none:Option Nat)=some z→False:=fun z h=>by cases h
 have cz0:To H ro nn fb tb c C w lt rows W0 g ch 0 0 0 0 (fun n=>n≤1) H1 (.slice aa a.length ca) (.slice ab b.length cb) (.slice none 0 0) (.slice none 0 0):=
  ⟨a,b,[],[],none,none,ro,l,V,ch,par,kb,h1,f0,i0,apv _,bx1,h0.hz _ (anO _),Jo.nil _ _,Sl.nil _ _,d0,d00,fun _ _=>rfl⟩
 refine bA.intro (fun mm env H'=>∃ (k:Nat) (va vb vn vo:Value),mm=w.cs.length+1 - k∧To H ro nn fb tb c C w lt rows W0 g ch k k k k (fun n=>n≤1) H' va vb vn vo∧
  env=[(0,ptr fb),(1,.iface 198 (ptr nn)),(2,va),(7,ptr H.size),(10,vo),(11,vn),(12,i64 k)]) _ ⟨0,_,_,_,_,rfl,cz0,rfl⟩ ?_
 clear h1 i0 bx1 f0 hra XW hg bQ n1 n2 n3 hla Ir Jp h0 e1 d0 d00 cz0 hca Gt
 rintro mm env H2 ⟨k,va,vb,vn,vo,rfl,Uh,rfl⟩
 obtain⟨a,b,now,out,nb,fo,rz,l2,V2,om,mc,E8,h2,f2,i2,Q1,sO,Fb,F7,Fc,oZ,tL,Jq⟩:=id Uh
 obtain⟨aa,ca,rfl,hca⟩:=h2.ra.cap
 obtain⟨ab,cb,rfl,Gt⟩:=h2.rb.cap
 obtain⟨an,cn,rfl,QK⟩:=F7.cap
 obtain⟨ao,co,rfl⟩:=Sl.shape Fc
 have OH:=aG sO
 have jd:=f2.wn
 have fY:=bV jd fun c hc=>f2.S0 (hm:=aI w) hc
 simp only[anL]at fY
 refine v1 (ae sO) ?_
 rw[wrap64 (n:=(a.length:Int)+b.length) (by omega) (by omega),wrap64 (n:=(a.length:Int)+b.length+now.length) (by omega) (by omega)]
 refine am.dec (fun WQ=>?_) (fun WQ=>?_)
 rotate_left
 ·refine vs ?_
  have UK:a=[]:=aoe.1 (by omega)
  have Qy:b=[]:=aoe.1 (by omega)
  have QB:now=[]:=aoe.1 (by omega)
  subst UK Qy QB
  refine⟨out,rz,l2,V2,om,mc,E8,_,fo,rfl,h2.agw,Fc,fun z hz=>⟨by have:=oZ z (.inr hz);omega,(oZ z (.inr hz)).2.2⟩,f2,i2.ro,fun c hc=>i2.hg c (.inr (.inr (.inr hc))),Jq⟩
 have bv:∀z,(om z).length≤w.cs.length:=fun z=>bV (f2.pr.nd z) fun c hc=>h2.m.Iq z c hc
 have hk:k≤w.cs.length:=by
  by_cases UK:a=[]
  ·by_cases Qy:b=[]
   ·obtain⟨x,hx⟩:∃x,x∈now:=by
     cases now with
     |nil=>subst UK Qy;simp at WQ
     |cons x r=>exact⟨x,by simp⟩
    have:=i2.kn x hx
    have:=bv x
    omega
   ·obtain⟨x,r,rfl⟩:=aoY Qy
    have:=i2.kb x (by simp)
    have:=bv x
    omega
  ·obtain⟨x,r,rfl⟩:=aoY UK
   have:=i2.ka x (by simp)
   have:=bv x
   omega
 clear WQ bv fY jd
 rw[Tp,Vm,XX,XY]
 refine K4 (fun e h=>∃va vb vn vo,To H ro nn fb tb c C w lt rows W0 g ch k (k+1) k k (fun n=>n≤2) h va vb vn vo∧XV e fb nn H.size va vo vn k) ?_ ?_
 ·refine vs ?_
  refine am.dec (fun ga=>?_) (fun ga=>?_)
  ·obtain⟨x,r,rfl⟩:∃x r,a=x::r:=aoY (fun h=>by rw[h]at ga;simp at ga)
   obtain⟨pb,po,pl,pc,hv,kG,Lt,bM,hpc⟩:=h2.ra.head
   injection hv with Gm Em hv3
   subst Gm hv3
   refine vs ?_
   refine⟨⟨by omega,by omega⟩,?_⟩
   refine v5 kG bM Int.toNat_zero aol Nat.add_zero ?_
   refine(dh h2.m x).mono ?_
   rintro _ H' ⟨rfl,e⟩
   obtain rfl:=e.symm
   refine vs ?_
   refine am.dec (fun gd=>?_) (fun gd=>?_)
   ·refine vs ?_
    refine⟨⟨by omega,by omega⟩,?_⟩
    refine v5 kG bM Int.toNat_zero aol Nat.add_zero ?_
    refine F7.push x (by omega) fun w' H3 JY Fi Q2 e3=>?_
    obtain⟨h3,EJ,OI,F3,EK⟩:=h2.EH sO Fc oZ tL e3 Fi
    refine vs ?_
    have xJ:(x::r).length=r.length+1:=anY
    refine⟨⟨by omega,by omega,by omega,by omega⟩,?_⟩
    refine vs ?_
    have fp:now++(x::r++(b++(out++W0)))=now++[x]++(r++(b++(out++W0))):=by simp
    rw[fp]at f2
    exact⟨_,_,_,_,⟨r,b,now++[x],out,JY,fo,rz,l2,V2,om,mc,E8,h3.agx (h3.ra.tail _),f2,i2.aas (by omega),by rw[anL,an6];omega,EJ,Fb,Q2,OI,F3,EK,Jq⟩,rfl,rfl,rfl,rfl,rfl,rfl,rfl⟩
   ·refine vs ?_
    exact⟨_,_,_,_,⟨x::r,b,now,out,nb,fo,rz,l2,V2,om,mc,E8,h2,f2,i2.VU (fun c hc=>by injection hc with hc;rw[←hc];omega),by omega,sO,Fb,F7,Fc,oZ,tL,Jq⟩,rfl,rfl,rfl,rfl,rfl,rfl,rfl⟩
  ·refine vs ?_
   have UK:a=[]:=aoe.1 (by omega)
   exact⟨_,_,_,_,⟨a,b,now,out,nb,fo,rz,l2,V2,om,mc,E8,h2,f2,i2.VU (fun c hc=>by rw[UK]at hc;cases hc),by omega,sO,Fb,F7,Fc,oZ,tL,Jq⟩,rfl,rfl,rfl,rfl,rfl,rfl,rfl⟩
 clear Uh h2 f2 i2 Q1 sO Fb F7 Fc oZ tL Jq OH hca Gt QK
 rintro e2 H2 ⟨va,vb,vn,vo,Uh,hv⟩
 obtain⟨a,b,now,out,nb,fo,rz,l2,V2,om,mc,E8,h2,f2,i2,Q1,sO,Fb,F7,Fc,oZ,tL,Jq⟩:=id Uh
 obtain⟨ab,cb,rfl,Gt⟩:=h2.rb.cap
 obtain⟨an,cn,rfl,QK⟩:=F7.cap
 have OH:=aG sO
 obtain⟨Jr,Gm,Em,Js,sG,sH,sI⟩:=hv
 refine K4 (fun e h=>∃va vb vn vo,To H ro nn fb tb c C w lt rows W0 g ch k (k+1) (k+1) k (fun n=>n≤3) h va vb vn vo∧XV e fb nn H.size va vo vn k) ?_ ?_
 ·refine v8 Jr Gm Em Js sG sH sI (ae sO) ?_
  refine am.dec (fun gb=>?_) (fun gb=>?_)
  ·obtain⟨x,r,rfl⟩:∃x r,b=x::r:=aoY (fun h=>by rw[h]at gb;simp at gb)
   obtain⟨pb,po,pl,pc,hv,kG,Lt,bM,hpc⟩:=h2.rb.head
   injection hv with Tq abR Tr
   subst Tq Tr
   refine v8 Jr Gm Em Js sG sH sI (ae sO) ?_
   refine⟨⟨by omega,by omega⟩,?_⟩
   refine v12 kG bM Int.toNat_zero aol Nat.add_zero Jr Gm Em Js sG sH sI ?_
   refine(dh h2.m x).mono ?_
   rintro _ H' ⟨rfl,e⟩
   obtain rfl:=e.symm
   refine v7 Jr Gm Em Js sG sH sI ?_
   have xJ:(x::r).length=r.length+1:=anY
   have fp:(now++(a++(x::r++(out++W0)))).Perm (now++[x]++(a++(r++(out++W0)))):=by
    rw[aph]
    intro z
    simp only[apt,apr,aoX,List.count_nil]
    omega
   refine am.dec (fun gd=>?_) (fun gd=>?_)
   ·refine vs ?_
    replace f2:=f2.perm fp
    refine rq.intro (fun _=>True) trivial ?_
    refine vs ?_
    refine He.intro ?_ ?_
    ·refine v6 (ae sO) kG bM Int.toNat_zero aol Nat.add_zero ?_
     refine⟨⟨by omega,by omega⟩,?_⟩
     refine v6 (ae sO) kG bM Int.toNat_zero aol Nat.add_zero ?_
     refine He.intro ?_ ?_
     ·refine v6 (ae sO) kG bM Int.toNat_zero aol Nat.add_zero ?_
      refine He.intro ?_ ?_
      ·refine v6 (ae sO) kG bM Int.toNat_zero aol Nat.add_zero ?_
       refine He.intro ?_ ?_
       ·refine vs ?_
        refine F7.push x (by omega) fun w' H3 JY Fi Q2 e3=>?_
        obtain⟨h3,EJ,OI,F3,EK⟩:=h2.EH sO Fc oZ tL e3 Fi
        refine v8 (ae EJ) EJ kG bM Int.toNat_zero aol Nat.add_zero anB ?_
        refine⟨⟨by omega,by omega,by omega,by omega⟩,?_⟩
        refine v8 (ae EJ) EJ kG bM Int.toNat_zero aol Nat.add_zero anB ?_
        have e4:∀v,ah (fun z=>z=H.size) H3 (H3.wr H.size [v]):=fun v=>(ah.refl (fun z=>z=H.size) _).wr (fun _=>rfl) _
        have Vn:∀v,(H3.wr H.size [v]).own H.size=some [v]:=fun v=>aj EJ
        have h4:=fun v=>h3.Vl (e4 v) (fun z hz=>by rw[hz];exact⟨anO _,Fb⟩)
        exact⟨_,_,_,_,⟨a,r,now++[x],out,JY,fo,rz,l2,V2,om,mc,E8,(h4 _).Tn ((h4 _).rb.tail _),f2,i2.LG (by omega),by rw[anL,an6];omega,Vn _,Fb,Q2.ext (e4 _) (fun z hz e=>by have:=F3 z (.inl hz);omega),OI.ext (e4 _) (fun z hz e=>by have:=F3 z (.inr hz);omega),fun z hz=>by rw[gh];exact F3 z hz,EK,Jq⟩,rfl,rfl,rfl,rfl,rfl,rfl,rfl⟩
       ·refine v6 (ae sO) kG bM Int.toNat_zero aol Nat.add_zero ?_
        refine⟨⟨by omega,by omega,by omega,by omega⟩,?_⟩
        refine v6 (ae sO) kG bM Int.toNat_zero aol Nat.add_zero ?_
        refine F7.push x (by omega) fun w' H3 JY Fi Q2 e3=>?_
        obtain⟨h3,EJ,OI,F3,EK⟩:=h2.EH sO Fc oZ tL e3 Fi
        refine v8 (ae EJ) EJ kG bM Int.toNat_zero aol Nat.add_zero anB ?_
        have e4:∀v,ah (fun z=>z=H.size) H3 (H3.wr H.size [v]):=fun v=>(ah.refl (fun z=>z=H.size) _).wr (fun _=>rfl) _
        have Vn:∀v,(H3.wr H.size [v]).own H.size=some [v]:=fun v=>aj EJ
        have h4:=fun v=>h3.Vl (e4 v) (fun z hz=>by rw[hz];exact⟨anO _,Fb⟩)
        exact⟨_,_,_,_,⟨a,r,now++[x],out,JY,fo,rz,l2,V2,om,mc,E8,(h4 _).Tn ((h4 _).rb.tail _),f2,i2.LG (by omega),by rw[anL,an6];omega,Vn _,Fb,Q2.ext (e4 _) (fun z hz e=>by have:=F3 z (.inl hz);omega),OI.ext (e4 _) (fun z hz e=>by have:=F3 z (.inr hz);omega),fun z hz=>by rw[gh];exact F3 z hz,EK,Jq⟩,rfl,rfl,rfl,rfl,rfl,rfl,rfl⟩
      ·refine v6 (ae sO) kG bM Int.toNat_zero aol Nat.add_zero ?_
       refine⟨⟨by omega,by omega,by omega,by omega⟩,?_⟩
       refine v6 (ae sO) kG bM Int.toNat_zero aol Nat.add_zero ?_
       refine F7.push x (by omega) fun w' H3 JY Fi Q2 e3=>?_
       obtain⟨h3,EJ,OI,F3,EK⟩:=h2.EH sO Fc oZ tL e3 Fi
       refine v8 (ae EJ) EJ kG bM Int.toNat_zero aol Nat.add_zero anB ?_
       have e4:∀v,ah (fun z=>z=H.size) H3 (H3.wr H.size [v]):=fun v=>(ah.refl (fun z=>z=H.size) _).wr (fun _=>rfl) _
       have Vn:∀v,(H3.wr H.size [v]).own H.size=some [v]:=fun v=>aj EJ
       have h4:=fun v=>h3.Vl (e4 v) (fun z hz=>by rw[hz];exact⟨anO _,Fb⟩)
       exact⟨_,_,_,_,⟨a,r,now++[x],out,JY,fo,rz,l2,V2,om,mc,E8,(h4 _).Tn ((h4 _).rb.tail _),f2,i2.LG (by omega),by rw[anL,an6];omega,Vn _,Fb,Q2.ext (e4 _) (fun z hz e=>by have:=F3 z (.inl hz);omega),OI.ext (e4 _) (fun z hz e=>by have:=F3 z (.inr hz);omega),fun z hz=>by rw[gh];exact F3 z hz,EK,Jq⟩,rfl,rfl,rfl,rfl,rfl,rfl,rfl⟩
     ·refine v6 (ae sO) kG bM Int.toNat_zero aol Nat.add_zero ?_
      refine⟨⟨by omega,by omega,by omega,by omega⟩,?_⟩
      refine v6 (ae sO) kG bM Int.toNat_zero aol Nat.add_zero ?_
      refine F7.push x (by omega) fun w' H3 JY Fi Q2 e3=>?_
      obtain⟨h3,EJ,OI,F3,EK⟩:=h2.EH sO Fc oZ tL e3 Fi
      refine v8 (ae EJ) EJ kG bM Int.toNat_zero aol Nat.add_zero anB ?_
      have e4:∀v,ah (fun z=>z=H.size) H3 (H3.wr H.size [v]):=fun v=>(ah.refl (fun z=>z=H.size) _).wr (fun _=>rfl) _
      have Vn:∀v,(H3.wr H.size [v]).own H.size=some [v]:=fun v=>aj EJ
      have h4:=fun v=>h3.Vl (e4 v) (fun z hz=>by rw[hz];exact⟨anO _,Fb⟩)
      exact⟨_,_,_,_,⟨a,r,now++[x],out,JY,fo,rz,l2,V2,om,mc,E8,(h4 _).Tn ((h4 _).rb.tail _),f2,i2.LG (by omega),by rw[anL,an6];omega,Vn _,Fb,Q2.ext (e4 _) (fun z hz e=>by have:=F3 z (.inl hz);omega),OI.ext (e4 _) (fun z hz e=>by have:=F3 z (.inr hz);omega),fun z hz=>by rw[gh];exact F3 z hz,EK,Jq⟩,rfl,rfl,rfl,rfl,rfl,rfl,rfl⟩
    ·refine v6 (ae sO) kG bM Int.toNat_zero aol Nat.add_zero ?_
     refine⟨⟨by omega,by omega,by omega,by omega⟩,?_⟩
     refine v6 (ae sO) kG bM Int.toNat_zero aol Nat.add_zero ?_
     refine⟨⟨by omega,by omega⟩,?_⟩
     refine v6 (ae sO) kG bM Int.toNat_zero aol Nat.add_zero ?_
     refine F7.push x (by omega) fun w' H3 JY Fi Q2 e3=>?_
     obtain⟨h3,EJ,OI,F3,EK⟩:=h2.EH sO Fc oZ tL e3 Fi
     refine v8 (ae EJ) EJ kG bM Int.toNat_zero aol Nat.add_zero anB ?_
     have e4:∀v,ah (fun z=>z=H.size) H3 (H3.wr H.size [v]):=fun v=>(ah.refl (fun z=>z=H.size) _).wr (fun _=>rfl) _
     have Vn:∀v,(H3.wr H.size [v]).own H.size=some [v]:=fun v=>aj EJ
     have h4:=fun v=>h3.Vl (e4 v) (fun z hz=>by rw[hz];exact⟨anO _,Fb⟩)
     exact⟨_,_,_,_,⟨a,r,now++[x],out,JY,fo,rz,l2,V2,om,mc,E8,(h4 _).Tn ((h4 _).rb.tail _),f2,i2.LG (by omega),by rw[anL,an6];omega,Vn _,Fb,Q2.ext (e4 _) (fun z hz e=>by have:=F3 z (.inl hz);omega),OI.ext (e4 _) (fun z hz e=>by have:=F3 z (.inr hz);omega),fun z hz=>by rw[gh];exact F3 z hz,EK,Jq⟩,rfl,rfl,rfl,rfl,rfl,rfl,rfl⟩
   ·refine vs ?_
    exact⟨_,_,_,_,⟨a,x::r,now,out,nb,fo,rz,l2,V2,om,mc,E8,h2,f2,i2.VV (fun c hc=>by injection hc with hc;rw[←hc];omega),by omega,sO,Fb,F7,Fc,oZ,tL,Jq⟩,rfl,rfl,rfl,rfl,rfl,rfl,rfl⟩
  ·refine v7 Jr Gm Em Js sG sH sI ?_
   have Qy:b=[]:=aoe.1 (by omega)
   exact⟨_,_,_,_,⟨a,b,now,out,nb,fo,rz,l2,V2,om,mc,E8,h2,f2,i2.VV (fun c hc=>by rw[Qy]at hc;cases hc),by omega,sO,Fb,F7,Fc,oZ,tL,Jq⟩,rfl,rfl,rfl,rfl,rfl,rfl,rfl⟩
 clear Uh h2 f2 i2 Q1 sO Fb F7 Fc oZ tL Jq OH Gt QK Jr Gm Em Js sG sH sI
 rintro e3 H2 ⟨va,vb,vn,vo,Uh,hv⟩
 obtain⟨a,b,now,out,nb,fo,rz,l2,V2,om,mc,E8,h2,f2,i2,Q1,sO,Fb,F7,Fc,oZ,tL,Jq⟩:=id Uh
 obtain⟨an,cn,rfl,QK⟩:=F7.cap
 obtain⟨ao,co,rfl⟩:=Sl.shape Fc
 have OH:=aG sO
 have fY:=bV f2.wn fun c hc=>f2.S0 (hm:=aI w) hc
 simp only[anL]at fY
 obtain⟨Jr,Gm,Em,Js,sG,sH,sI⟩:=hv
 refine K4 (fun e h=>∃va vb vn vo,To H ro nn fb tb c C w lt rows W0 g ch k (k+1) (k+1) (k+1) (fun n=>n=0∨n=2) h va vb vn vo∧XV e fb nn H.size va vo vn k) ?_ ?_
 ·refine v8 Jr Gm Em Js sG sH sI (ae sO) ?_
  rw[if_neg (by decide:¬ (2:Int)=0),Int.tmod_eq_emod_of_nonneg (by omega)]
  refine v7 Jr Gm Em Js sG sH sI ?_
  refine am.dec (fun gp=>?_) (fun gp=>?_)
  ·obtain⟨x,r,rfl⟩:∃x r,now=x::r:=aoY (fun h=>by rw[h]at gp;simp at gp)
   have xJ:(x::r).length=r.length+1:=anY
   obtain⟨a',c',PG,LD,hn'⟩:=id F7
   injection PG with Tq abR Tr
   subst Tq Tr
   obtain⟨pb,po,pl,rfl,ZC,XZ,Ng,hpt⟩:=hn'.resolve_left (by omega)
   have bM:pl[po]? =some (i64 x):=by
    have h7:((x::r).map i64)[0]? =some (i64 x):=rfl
    rw[←hpt,aob,if_pos (by simp),aoc]at h7
    exact h7
   have kG:=ae XZ
   refine v7 Jr Gm Em Js sG sH sI ?_
   refine⟨⟨by omega,by omega⟩,?_⟩
   refine v5 kG bM Int.toNat_zero aol Nat.add_zero ?_
   refine SL Fc x (by omega) fun w' H3 SM RF OI e3=>?_
   have h3:=h2.Vl e3 (fun z hz=>by have:=oZ z (.inr hz);exact⟨by omega,this.2.2⟩)
   have EJ:=e3.own sO (fun hz=>by have:=oZ _ (.inr hz);omega)
   have Q2:=F7.ext e3 (fun z h1 h2=>tL z h1 h2)
   have Io:=e3.size
   refine v7 Jr Gm Em Js sG sH sI ?_
   refine⟨⟨by omega,by omega,by omega,by omega⟩,?_⟩
   refine v7 Jr Gm Em Js sG sH sI ?_
   have fp:(x::r++(a++(b++(out++W0)))).Perm (r++(a++(b++(out++[x]++W0)))):=by
    rw[aph]
    intro z
    simp only[apt,apr,aoX,List.count_nil]
    omega
   have F3:∀z,nb=some z∨SM=some z→H.size<z∧z<H3.size∧rz z= .no:=fun z hz=>by
    rcases hz with hz|hz
    ·have:=oZ z (.inl hz)
     exact⟨this.1,by omega,this.2.2⟩
    ·rcases RF with h1| ⟨y,h1,N9,Wn⟩
     ·rw[h1]at hz
      have:=oZ z (.inr hz)
      exact⟨this.1,by omega,this.2.2⟩
     ·rw[h1]at hz
      injection hz with hz
      subst hz
      exact⟨by omega,Wn,h2.hz _ N9⟩
   have EK:∀z,nb=some z→SM=some z→False:=fun z h1 N9=>by
    rcases RF with Wn| ⟨y,Wn,h4',h5'⟩
    ·exact tL z h1 (by rw[←Wn];exact N9)
    ·rw[Wn]at N9
     injection N9 with N9
     have:=oZ z (.inl h1)
     omega
   exact⟨_,_,_,_,⟨a,b,r,out++[x],nb,SM,rz,l2,V2,om,mc,E8,h3,f2.perm fp,i2.aeO,by omega,EJ,Fb,Q2.tail _,OI,F3,EK,Jq⟩,rfl,rfl,rfl,rfl,rfl,rfl,rfl⟩
  ·refine v7 Jr Gm Em Js sG sH sI ?_
   exact⟨_,_,_,_,⟨a,b,now,out,nb,fo,rz,l2,V2,om,mc,E8,h2,f2,⟨i2.ra,i2.rb,i2.ro,i2.ka,i2.kb,i2.kn,fun c hc=>by have:=i2.ko c hc;omega,i2.hg⟩,by omega,sO,Fb,F7,Fc,oZ,tL,Jq⟩,rfl,rfl,rfl,rfl,rfl,rfl,rfl⟩
 clear Uh h2 f2 i2 Q1 sO Fb F7 Fc oZ tL Jq OH QK Jr Gm Em Js sG sH sI fY
 rintro e4 H2 ⟨va,vb,vn,vo,Uh,hv⟩
 obtain⟨a,b,now,out,nb,fo,rz,l2,V2,om,mc,E8,h2,f2,i2,Q1,sO,Fb,F7,Fc,oZ,tL,Jq⟩:=id Uh
 obtain⟨an,cn,rfl,QK⟩:=F7.cap
 have OH:=aG sO
 obtain⟨Jr,Gm,Em,Js,sG,sH,sI⟩:=hv
 refine v8 Jr Gm Em Js sG sH sI (ae sO) ?_
 refine am.dec (fun gp=>?_) (fun gp=>?_)
 ·obtain⟨x,y,rfl⟩:∃x y,now=[x,y]:=by
   match now,gp with
   | [x,y],_=>exact⟨x,y,rfl⟩
   | [],gp=>simp at gp
   | [_],gp=>simp at gp
   |_::_::_::_,gp=>simp at gp;omega
  obtain⟨a',c',PG,LD,hn'⟩:=id F7
  injection PG with Tq abR Tr
  subst Tq Tr
  have wC:([x,y]:List Int).length=2:=rfl
  obtain⟨pb,po,pl,rfl,ZC,XZ,Ng,hpt⟩:=hn'.resolve_left (by omega)
  have X0:pl[po]? =some (i64 x):=by
   have h7:(([x,y]:List Int).map i64)[0]? =some (i64 x):=rfl
   rw[←hpt,aob,if_pos (by simp),aoc]at h7
   exact h7
  have X1:pl[po+1]? =some (i64 y):=by
   have h7:(([x,y]:List Int).map i64)[1]? =some (i64 y):=rfl
   rw[←hpt,aob,if_pos (by simp),aoc]at h7
   exact h7
  have kG:=ae XZ
  refine v7 Jr Gm Em Js sG sH sI ?_
  refine⟨⟨by omega,by omega⟩,?_⟩
  refine v12 kG X0 Int.toNat_zero aol Nat.add_zero Jr Gm Em Js sG sH sI ?_
  refine⟨⟨by omega,by omega⟩,?_⟩
  refine Y8 kG X1 Int.toNat_one Nat.one_mul Jr Gm Em Js sG sH sI ?_
  have Ge:=i2.kn x (by simp)
  have hyn:=i2.kn y (by simp)
  have PA:=i2.hg x (.inr (.inr (.inl (by simp))))
  have hyg:=i2.hg y (.inr (.inr (.inl (by simp))))
  refine(F6 h2.m h2.hz h2.own h2.cq h2.hC aR (W:=a++(b++(out++W0))) f2 (by omega) (by omega)).mono ?_
  rintro _ H3 ⟨p,q,Q3,l3,V3,X2,rfl,Pf,m3,f3,c3,r3,Xh,e3⟩
  have abT:∀z,rz z= .no→¬KC rz z:=fun z h1 h2=>by
   rcases h2 with (h2| ⟨_,h2⟩)|h2<;>(rw[h1]at h2;cases h2)
  have Io:=e3.size
  obtain⟨rest,ho⟩:=h2.own
  have agy:¬KC rz nn:=fun h=>by
   have:=h2.hn
   rcases h with (h| ⟨_,h⟩)|h<;>(rw[this]at h;cases h)
  have h3:sF H ro nn fb tb c C w H3 Q3 l3 V3 (aA om p (om p++[q])) (aK mc q p) X2 va vb a b:=by
   refine⟨m3,c3,fun z hz=>?_,⟨rest,e3.own ho agy⟩,?_,Xh,h2.rk.trans r3 h2.e.size,h2.ra.ext e3 (fun z _ h=>h) (fun z hz h=>r3.kcs hz h),h2.rb.ext e3 (fun z _ h=>h) (fun z hz h=>r3.kcs hz h),?_⟩
   ·have h5:=h2.hC z hz
    rw[r3.o z (h2.cq.slt z hz) (fun x e=>by rw[h5]at e;cases e),h5]
   ·rw[r3.o nn (aG ho) (fun x e=>by rw[h2.hn]at e;cases e),h2.hn]
   ·exact⟨aok h2.e.size e3.size,fun z hz hn=>by
     rw[e3.aP z (an3 hz h2.e.size) (fun h=>hn (h2.rk.kcs hz h)),h2.e.aP z hz hn]⟩
  have EJ:=e3.own sO (abT _ Fb)
  have OI:=Fc.ext e3 (fun z hz=>abT z (oZ z (.inr hz)).2.2)
  have f4:aq H3 (H3.new 3 [i64 p]):=(ah.refl _ _).new _ _
  have f4':ah (fun _=>False) H3 (H3.new 3 [i64 p]):=f4
  have h4:=h3.Vl f4' (fun z hz=>hz.elim)
  have nw4:Jo (H3.new 3 [i64 p]) (.slice (some ⟨H3.size,0,none⟩) 1 1) [p] (some H3.size):=Jo.lit p
  have ZC:=anV.1 f3.wn
  have tQ:p∉a∧p∉b∧p∉out∧p∉W0:=by
   have:=ZC.1
   simp only[anR,not_or]at this
   exact⟨this.1,this.2.1,this.2.2.1,this.2.2.2⟩
  have i4:=i2.aau (p:=p) (q:=q) (anO _) (Pf.imp (fun h=>h.1) (fun h=>h.1)) ⟨tQ.1,tQ.2.1,tQ.2.2.1⟩
  have hz4:(H3.new 3 [i64 p]).size=H3.size+1:=ar _ _ _
  have hd4:∀z,some H3.size=some z∨fo=some z→H.size<z∧z< (H3.new 3 [i64 p]).size∧Q3 z= .no:=fun z hz=>by
   rcases hz with hz|hz
   ·injection hz with hz
    subst hz
    exact⟨by omega,by omega,Xh _ (anO _)⟩
   ·have:=oZ z (.inr hz)
    exact⟨this.1,by omega,r3.none this.2.1 this.2.2⟩
  have agz:∀z,some H3.size=some z→fo=some z→False:=fun z h1 N9=>by
   injection h1 with h1
   have:=oZ z (.inr N9)
   omega
  refine v7 Jr Gm Em Js sG sH sI ?_
  rw[wrap64 (n:=(k:Int)+1) (by omega) (by omega)]
  refine⟨w.cs.length+1 - (k+1),by omega,k+1,va,vb,_,vo,rfl,⟨a,b,[p],out,some H3.size,fo,Q3,l3,V3,_,_,X2,h4,f3,i4,by simp,f4.own EJ (fun h=>h),r3.none OH Fb,nw4,OI.ext f4 (fun _ _ h=>h),hd4,agz,fun z hz=>?_⟩,rfl⟩
  unfold aA
  rw[if_neg (fun e=>tQ.2.2.2 (by rw[←e];exact hz))]
  exact Jq z hz
 ·refine v7 Jr Gm Em Js sG sH sI ?_
  have QB:now=[]:=aoe.1 (by omega)
  subst QB
  rw[wrap64 (n:=(k:Int)+1) (by omega) (by omega)]
  exact⟨w.cs.length+1 - (k+1),by omega,k+1,va,vb,_,vo,rfl,⟨a,b,[],out,nb,fo,rz,l2,V2,om,mc,E8,h2,f2,i2.aat (anO _),by simp,sO,Fb,F7,Fc,oZ,tL,Jq⟩,rfl⟩
end
end Go.Proofs.YtjlnnljohemifaaGreat

namespace Go.Proofs.YtjlnnljohemifaaGreat
open Go Go.Vc
structure ZE where
 n:Nat
 c:Nat
 fb:Nat
 tb:Nat
 rp:Nat
structure xU(H:Hp)(ro:Nat→Rl)(B:ZE)(C:Nat→Prop)(w:Nw)(l:List Value)(V:Int→Value)(ch:Int→List Int)(par:Int→Int)(kb:Int→Option Nat)(fF:List Value)(rows:Int→List Int)(rb:Int→Option Nat):Prop where
 own:∃tv,H.own B.n=some [ptr B.c,ptr B.fb,tv]∧Sl H 1 tv fF.length fF (some B.rp)
 row:∀g:Int,0≤g→g<fF.length→∃sv,fF[g.toNat]? =some sv∧Sl H 1 sv (rows g).length ((rows g).map i64) (rb g)
 cells:CQ H B.c C w
 fo:ForM H ro B.fb B.tb w.cs.length l V ch par kb
 hC:∀z,C z→ro z= .cell
 rn:ro B.n= .SJ
 rr:ro B.rp= .Mp
 pR:∀ (g:Int) b,0≤g→g<fF.length→rb g=some b→ro b= .row g
 hz:∀z,H.size≤z→ro z= .no
def dO(ro:Nat→Rl)(z:Nat):Prop:=ro z≠ .no
section
variable {H H' : Hp} {ro ro' : Nat → Rl} {B : ZE} {C T : Nat → Prop} {w w' : Nw} {l l' : List Value} {V V' : Int → Value} {ch dV : Int → List Int} {par bH : Int → Int} {kb wx : Int → Option Nat} {fF : List Value} {rows : Int → List Int} {rb : Int → Option Nat} {lt : Int → Int → Bool} {W W0 L : List Int}
theorem xU.slt(m:xU H ro B C w l V ch par kb fF rows rb):∀z,dO ro z→z<H.size:=fun z hz=>by
 apply anX
 intro h
 exact hz (m.hz z (by omega))
theorem fZ{ro:Nat→Rl}{z:Nat}{r:Rl}(h:ro z=r)(hr:r≠ .no):dO ro z:=fun e=>hr (by rw[←h,e])
theorem xU.ext(m:xU H ro B C w l V ch par kb fF rows rb)(e:ah T H H')(hd:∀z,dO ro z→¬T z):xU H' ro B C w l V ch par kb fF rows rb:=by
 obtain⟨tv,h1,h2⟩:=m.own
 have hs:=e.size
 refine⟨⟨tv,e.own h1 (hd _ (fZ m.rn nofun)),h2.ext e (fun b hb=>by injection hb with hb;subst hb;exact hd _ (fZ m.rr nofun))⟩,fun g h0 h1=>?_,m.cells.ext e (fun z hz=>hd z (fZ (m.hC z hz) nofun)),m.fo.ext e (fun z hz=>?_),m.hC,m.rn,m.rr,m.pR,fun z hz=>m.hz z (by omega)⟩
 ·obtain⟨sv,q1,q2⟩:=m.row g h0 h1
  exact⟨sv,q1,q2.ext e (fun b hb=>hd b (fZ (m.pR g b h0 h1 hb) nofun))⟩
 ·rcases hz with h|h| ⟨x,h⟩<;>exact hd z (fZ h nofun)
theorem xU.fresh(m:xU H ro B C w l V ch par kb fF rows rb)(e:aq H H'):xU H' ro B C w l V ch par kb fF rows rb:=m.ext e fun _ _ h=>h
theorem xU.aN(m:xU H ro B C w l V ch par kb fF rows rb)(c1:CQ H' B.c C w')(e:ah C H H')(hl:w'.cs.length=w.cs.length):xU H' ro B C w' l V ch par kb fF rows rb:=by
 obtain⟨tv,h1,h2⟩:=m.own
 have hs:=e.size
 have hd:∀z r,ro z=r→r≠ .cell→¬C z:=fun z r h1 h2 hc=>h2 (by rw[←h1,m.hC z hc])
 refine⟨⟨tv,e.own h1 (hd _ _ m.rn nofun),h2.ext e (fun b hb=>by injection hb with hb;subst hb;exact hd _ _ m.rr nofun)⟩,fun g h0 h1=>?_,c1,?_,m.hC,m.rn,m.rr,m.pR,fun z hz=>m.hz z (by omega)⟩
 ·obtain⟨sv,q1,q2⟩:=m.row g h0 h1
  exact⟨sv,q1,q2.ext e (fun b hb=>hd b _ (m.pR g b h0 h1 hb) nofun)⟩
 ·rw[hl]
  refine m.fo.ext e (fun z hz=>?_)
  rcases hz with h|h| ⟨x,h⟩<;>exact hd z _ h nofun
theorem xU.Ts(m:xU H ro B C w l V ch par kb fF rows rb)(f:ForM H' ro' B.fb B.tb w.cs.length l' V' dV bH wx)(c1:CQ H' B.c C w)(r:RK H.size ro ro')(hz:∀z,H'.size≤z→ro' z= .no)(e:ah (KC ro) H H'):xU H' ro' B C w l' V' dV bH wx fF rows rb:=by
 obtain⟨tv,h1,h2⟩:=m.own
 have hd:∀z q,ro z=q→(∀x,q≠ .sM x)→q≠ .table→q≠ .cell→¬KC ro z:=fun z q h1 h2 h3 h4 hc=>by
  rcases hc with (hc| ⟨x,hc⟩)|hc
  ·exact h3 (by rw[←h1,hc])
  ·exact h2 x (by rw[←h1,hc])
  ·exact h4 (by rw[←h1,hc])
 have hk:∀z q,ro z=q→q≠ .no→(∀x,q≠ .sM x)→ro' z=q:=fun z q h1 h2 h3=>by
  rw[r.o z (m.slt z (fZ h1 h2)) (fun x e=>h3 x (by rw[←h1,e])),h1]
 refine⟨⟨tv,e.own h1 (hd _ _ m.rn nofun nofun nofun),h2.ext e (fun b hb=>by injection hb with hb;subst hb;exact hd _ _ m.rr nofun nofun nofun)⟩,fun g h0 h1=>?_,c1,f,fun z hz=>hk z _ (m.hC z hz) nofun nofun,hk _ _ m.rn nofun nofun,hk _ _ m.rr nofun nofun,fun g b h0 h1 hb=>hk b _ (m.pR g b h0 h1 hb) nofun nofun,hz⟩
 obtain⟨sv,q1,q2⟩:=m.row g h0 h1
 exact⟨sv,q1,q2.ext e (fun b hb=>hd b _ (m.pR g b h0 h1 hb) nofun nofun nofun)⟩
theorem xU.Wo(m:xU H ro B C w l V ch par kb fF rows rb){g:Int}(hg:0≤g∧g<fF.length){H1:Hp}(e0:ah (fun z=>rb g=some z) H H1){lb:List Value}(Ir:H1.own B.rp=some lb){sv:Value}{L':List Int}{o:Option Nat}(s:Sl H1 1 sv L'.length (L'.map i64) o)(ho:∀b,o=some b→ro b= .no∨ro b= .row g):
  xU (H1.wr B.rp (lb.set g.toNat sv)) (fun z=>if o=some z then .row g else ro z) B C w l V ch par kb (fF.set g.toNat sv) (aA rows g L') (fun k=>if k=g then o else rb k)∧ah (dO ro) H (H1.wr B.rp (lb.set g.toNat sv))∧
   (∀z,dO (fun z=>if o=some z then .row g else ro z) z→dO ro z∨o=some z):=by
 obtain⟨tv,h1,h2⟩:=m.own
 have e:ah (fun z=>z=B.rp) H1 (H1.wr B.rp (lb.set g.toNat sv)):=(ah.refl (fun z=>z=B.rp) _).wr (fun _=>rfl) _
 have NN:(H1.wr B.rp (lb.set g.toNat sv)).size=H1.size:=gh _ _ _
 have hs0:=e0.size
 have Ls:∀z q,ro z=q→q≠ .no→q≠ .row g→(if o=some z then Rl.row g else ro z)=q:=fun z q h1 h2 h3=>by
  rw[if_neg (fun e=>by rcases ho z e with h|h;exact h2 (by rw[←h1,h]);exact h3 (by rw[←h1,h])),h1]
 have ne:∀z q,ro z=q→q≠ .Mp→z≠B.rp:=fun z q h1 h2 e=>h2 (by rw[←h1,e,m.rr])
 have n0:∀z q,ro z=q→q≠ .row g→¬rb g=some z:=fun z q h1 h2 h3=>h2 (by rw[←h1,m.pR g z hg.1 hg.2 h3])
 have hob:∀b,o=some b→b≠B.rp:=fun b hb e=>by rcases ho b hb with h|h<;>(rw[e,m.rr]at h;cases h)
 obtain⟨ta,tc,rfl⟩:=Sl.shape h2
 have hta:ta=some ⟨B.rp,0,none⟩:=by
  obtain⟨_,_,_,hh,_⟩:=h2
  injection hh with hh
 subst hta
 have h3:=h2.ext e0 (fun b hb=>by injection hb with hb;subst hb;exact n0 _ _ m.rr nofun)
 refine⟨⟨⟨_,e.own (e0.own h1 (n0 _ _ m.rn nofun)) (ne _ _ m.rn nofun),?_⟩,fun k h0 h1=>?_,(m.cells.ext e0 (fun z hz=>n0 z _ (m.hC z hz) nofun)).ext e (fun z hz=>ne z _ (m.hC z hz) nofun),?_,fun z hz=>Ls z _ (m.hC z hz) nofun nofun,Ls _ _ m.rn nofun nofun,Ls _ _ m.rr nofun nofun,fun k b h0 h1 hb=>?_,fun z hz=>?_⟩,
  (e0.mono fun z _ h=>fZ (m.pR g z hg.1 hg.2 h) nofun).trans (e.mono fun z _ h=>by rw[h];exact fZ m.rr nofun),fun z hz=>?_⟩
 ·rw[anC]
  exact h3.ww Ir g.toNat sv
 ·rw[anC]at h1
  by_cases hk:k=g
  ·subst hk
   refine⟨sv,by rw[anI (by omega)],?_⟩
   unfold aA
   rw[if_pos rfl,if_pos rfl]
   exact s.ext e (fun b hb=>hob b hb)
  ·obtain⟨Xm,q1,q2⟩:=m.row k h0 h1
   refine⟨Xm,by rw[anH (by omega)];exact q1,?_⟩
   unfold aA
   rw[if_neg hk,if_neg hk]
   exact(q2.ext e0 (fun b hb=>n0 b _ (m.pR k b h0 h1 hb) (fun e=>hk (by injection e)))).ext e (fun b hb=>ne b _ (m.pR k b h0 h1 hb) nofun)
 ·have f1:=(m.fo.ext e0 (fun z hz=>by rcases hz with h|h| ⟨x,h⟩<;>exact n0 z _ h nofun)).ext e (fun z hz=>by rcases hz with h|h| ⟨x,h⟩<;>exact ne z _ h nofun)
  exact⟨f1.t,f1.kd,Ls _ _ f1.rf nofun nofun,Ls _ _ f1.rt nofun nofun,fun x b h0 h1 hb=>Ls _ _ (f1.rk x b h0 h1 hb) nofun nofun,f1.Iq,f1.no⟩
 ·rw[anC]at h1
  by_cases hk:k=g
  ·rw[if_pos hk]at hb
   rw[if_pos hb,hk]
  ·rw[if_neg hk]at hb
   have:=m.pR k b h0 h1 hb
   exact Ls b _ this nofun (fun e=>hk (by injection e))
 ·rw[NN]at hz
  rw[if_neg (fun e=>?_),m.hz z (by omega)]
  cases o with
  |none=>cases e
  |some b=>
   injection e with e
   have:=Sl.lt s
   omega
 ·by_cases h:o=some z
  ·exact .inr h
  ·refine .inl fun h2=>hz ?_
   simp only[if_neg h]
   exact h2
theorem xU.MJ(m:xU H ro B C w l V ch par kb fF rows rb){g:Int}(hg:0≤g∧g<fF.length):∃lb tc sv,H.own B.n=some [ptr B.c,ptr B.fb,.slice (some ⟨B.rp,0,none⟩) fF.length tc]∧H.own B.rp=some lb∧lb[g.toNat]? =some sv∧g.toNat<lb.length∧fF[g.toNat]? =some sv∧
  Sl H 1 sv (rows g).length ((rows g).map i64) (rb g):=by
 obtain⟨tv,h1,h2⟩:=m.own
 obtain⟨sv,q1,q2⟩:=m.row g hg.1 hg.2
 obtain⟨_,lb,tc,rfl,ho,hc,hl,ht⟩:=h2
 refine⟨lb,tc,sv,h1,ho,?_,by omega,q1,q2⟩
 have h7:=q1
 rw[←ht,aob]at h7
 split at h7
 ·exact h7
 ·cases h7
theorem Sl.rdB{sv:Value}{L:List Int}{fp:Option Nat}{Bd:Nat}(s:Sl H 1 sv L.length (L.map i64) fp)(hf:∀b,fp=some b→b<Bd∧¬KC ro b):HM H ro Bd sv L:=by
 cases fp with
 |none=>
  obtain⟨_,h2,rfl⟩:=s
  exact⟨none,0,by rw[h2],by omega,.inl (aoe.1 h2)⟩
 |some b=>
  obtain⟨_,lb,c,rfl,ho,hc,hl,ht⟩:=s
  obtain⟨h1,h2⟩:=hf b rfl
  refine⟨_,c,rfl,hc,.inr ⟨b,0,lb,rfl,h1,h2,ae ho,by omega,?_⟩⟩
  rw[apI]
  rw[anD]at ht
  exact ht
set_option maxHeartbeats 1000000 in
theorem C8(m:xU H ro B C w l V ch par kb fF rows rb){g:Int}{lv:Value}(Tb:HM H ro H.size lv L)(aR:∀a b,aU w a b=true→lt a b=true)(f:ml (aI w) lt ch par rows (L++W0))(hL:Gu ch L)(hg:∀c∈L,aI w c=g)(Ac:0≤g∧g<fF.length):
  ai Tryz.prog yI [ptr B.n,i64 g,lv] H fun v H'=>ay (∃ro' l' V' dV bH wx Tt mF rb',xU H' ro' B C w l' V' dV bH wx Tt mF rb'∧ml (aI w) lt dV bH mF W0∧Tt.length=fF.length∧(∀z∈W0,dV z=ch z)∧
   (∀z,dO ro' z→dO ro z∨H.size≤z)∧ah (dO ro) H H'):=by
 obtain⟨lb,tc,sv,o1,q1,q2,Ir,_,s2⟩:=m.MJ Ac
 obtain⟨va,vc,rfl⟩:=Sl.shape s2
 obtain⟨aL,cL,rfl,hcL⟩:=Tb.cap
 have hra:HM H ro H.size (.slice va (rows g).length vc) (rows g):=Sl.rdB s2 (fun b hb=>by
  have h5:=m.pR g b Ac.1 Ac.2 hb
  refine⟨m.slt b (fZ h5 nofun),fun hc=>?_⟩
  rcases hc with (hc| ⟨x,hc⟩)|hc<;>(rw[h5]at hc;cases hc))
 have h0:sF H ro B.n B.fb B.tb B.c C w H ro l V ch par kb (.slice va (rows g).length vc) (.slice aL L.length cL) (rows g) L:=⟨m.fo,m.cells,m.hC,⟨_,o1⟩,m.rn,m.hz,RK.refl m.hz,hra,Tb,ah.refl _ _⟩
 have f1:=f.loose g
 have QN:∀c∈rows g,aI w c=g:=fun c hc=>(f.rm g c hc).1
 refine ba zh ⟨rfl,?_⟩
 refine v1 pt.eq_1 ?_
 refine rq.intro (fun H'=>H'.own B.n=some [ptr B.c,ptr B.fb,.slice (some ⟨B.rp,0,none⟩) fF.length tc]) o1 ?_
 refine vs ?_
 refine oQ.intro (.slice (some ⟨B.rp,0,none⟩) fF.length tc) (fun H' hI=>by refine v1 (ae hI) ?_;trivial) ?_
 refine vs ?_
 have hgi:0≤g∧g< (fF.length:Int):=Ac
 have key:∀K:Value→Hp→Prop,(∀out ro' l' V' dV bH wx vo fo H',sF H ro B.n B.fb B.tb B.c C w H' ro' l' V' dV bH wx (.slice none 0 0) (.slice none 0 0) [] []→Sl H' 1 vo out.length (out.map i64) fo→(∀z,fo=some z→H.size≤z∧ro' z= .no)→ml (aI w) lt dV bH (aA rows g []) (out++W0)→Gu dV out→(∀c∈out,aI w c=g)→(∀z∈W0,dV z=ch z)→K (.tuple [vo,.bool true].toArray) H')→
   ai Tryz.prog nD [ptr B.fb,.iface 198 (ptr B.n),.slice va (rows g).length vc,.slice aL L.length cL] H K:=fun K hK=>by
  refine(EI h0 aR f1 (f.rr g) hL (fun c hc=>by rcases hc with h|h;exact QN c h;exact hg c h)).mono ?_
  rintro _ H' ⟨out,ro',l',V',dV,bH,wx,vo,fo,rfl,h1,h2,h3,h4,h5,h6,h7⟩
  exact hK out ro' l' V' dV bH wx vo fo H' h1 h2 h3 h4 h5 h6 h7
 refine He.intro ?A ?B
 case' A=>
  refine v1 (ae o1) ?_
  refine And.intro o1 ?_
  refine v1 (ae o1) ?_
  refine And.intro o1 ?_
  refine vs ?_
  refine⟨⟨by omega,by omega⟩,?_⟩
  refine v4 (ae q1) anB anD q2 ?_
  refine And.intro o1 ?_
  refine vs ?_
 case' B=>
  refine v1 (ae o1) ?_
  refine And.intro o1 ?_
  refine vs ?_
  refine⟨⟨by omega,by omega⟩,?_⟩
  refine vs ?_
  refine He.intro ?C ?D
  case' C=>
   refine v1 (ae o1) ?_
   refine And.intro o1 ?_
   refine v4 (ae q1) anB anD q2 ?_
   refine And.intro o1 ?_
   refine vs ?_
  case' D=>
   refine v4 (ae q1) anB anD q2 ?_
   refine And.intro o1 ?_
   refine v1 (ae o1) ?_
   refine And.intro o1 ?_
   refine vs ?_
 all_goals
  refine key _ fun out rz l2 V2 om mc E8 vo fo2 H2 h2 Fc RF f2 r2 g2 w2=>?_
  obtain⟨vb,vc2,rfl⟩:=Sl.shape Fc
  have m2:=m.Ts h2.m h2.cq h2.rk h2.hz h2.e
  obtain⟨lb2,tc2,sv2,o2,q3,q4,alH,_,_⟩:=m2.MJ Ac
  have o2':H2.own B.n=some [ptr B.c,ptr B.fb,.slice (some ⟨B.rp,0,none⟩) fF.length tc]:=h2.e.own o1 (fun hc=>by
   rcases hc with (hc| ⟨x,hc⟩)|hc<;>(rw[m.rn]at hc;cases hc))
  refine And.intro o2' ?_
  refine vs ?_
  refine⟨⟨by omega,by omega⟩,?_⟩
  refine v3 q3 anB anD ?_
  refine⟨by omega,?_⟩
  obtain⟨m3,e3,Rt⟩:=m2.Wo Ac (ah.refl _ _) q3 Fc (fun b hb=>.inl (RF b hb).2)
  refine vs ?_
  have hnr:B.n≠B.rp:=fun e=>by have:=m2.rn;rw[e,m2.rr]at this;cases this
  refine And.intro (((ah.refl (fun z=>z=B.rp) _).wr (fun _=>rfl) _:ah (fun z=>z=B.rp) H2 _).own o2' hnr) ?_
  refine vs ?_
  have f3:=f2.row (g:=g) (by unfold aA;rw[if_pos rfl]) r2 g2
  rw[eJ]at f3
  have OJ:∀z,dO rz z→dO ro z∨H.size≤z:=fun z hz=>by
   by_cases Pp:z<H.size
   ·refine .inl fun h=>hz ?_
    exact h2.rk.none Pp h
   ·exact .inr (by omega)
  refine⟨_,l2,V2,om,mc,E8,_,_,_,m3,f3,anC ..,w2,fun z hz=>?_,?_⟩
  ·rcases Rt z hz with h|h
   ·exact OJ z h
   ·exact .inr (RF z h).1
  ·have e2:ah (dO ro) H H2:=h2.e.mono fun z _ h=>by
    rcases h with (h| ⟨x,h⟩)|h<;>exact fZ h nofun
   exact⟨aok e2.size e3.size,fun z hz hn=>by
    rw[e3.aP z (an3 hz e2.size) (fun h=>by
     rcases OJ z h with h|h
     ·exact hn h
     ·omega),e2.aP z hz hn]⟩
end
end Go.Proofs.YtjlnnljohemifaaGreat

namespace Go.Proofs.YtjlnnljohemifaaGreat
open Go Go.Vc
def ix(n:Nat)(H:Hp)(S:Nat→Prop)(w:Nw):Prop:=∃ (B:ZE) (ro:Nat→Rl) (C:Nat→Prop) (l:List Value) (V:Int→Value) (ch:Int→List Int) (par:Int→Int) (kb:Int→Option Nat) (fF:List Value) (rows:Int→List Int) (rb:Int→Option Nat),
 B.n=n∧xU H ro B C w l V ch par kb fF rows rb∧ml (aI w) (aU w) ch par rows []∧fF.length=w.hs.length∧∀z,S z↔dO ro z
theorem ix.slt{n:Nat}{H:Hp}{S:Nat→Prop}{w:Nw}(h:ix n H S w):∀z,S z→z<H.size:=by
 obtain⟨B,ro,C,l,V,ch,par,kb,fF,rows,rb,rfl,m,f,hl,hS⟩:=h
 exact fun z hz=>m.slt z ((hS z).1 hz)
theorem ix.ext{n:Nat}{H H':Hp}{S T:Nat→Prop}{w:Nw}(h:ix n H S w)(e:ah T H H')(hd:∀z,S z→¬T z):ix n H' S w:=by
 obtain⟨B,ro,C,l,V,ch,par,kb,fF,rows,rb,rfl,m,f,hl,hS⟩:=h
 exact⟨B,ro,C,l,V,ch,par,kb,fF,rows,rb,rfl,m.ext e (fun z hz=>hd z ((hS z).2 hz)),f,hl,hS⟩
section
variable {H H' : Hp} {ro ro' : Nat → Rl} {B : ZE} {C T : Nat → Prop} {w w' : Nw} {l l' : List Value} {V V' : Int → Value} {ch dV : Int → List Int} {par bH : Int → Int} {kb wx : Int → Option Nat} {fF : List Value} {rows : Int → List Int} {rb : Int → Option Nat} {lt : Int → Int → Bool} {W W0 L : List Int}
theorem xU.Tu(m:xU H ro B C w l V ch par kb fF rows rb)(hl:fF.length=w.hs.length){g:Int}(h:w.has g):0≤g∧g<fF.length:=by
 have h1:=h.1
 have:=(anA.1 h.2).1
 omega
theorem K5(m:xU H ro B C w l V ch par kb fF rows rb)(f:ml (aI w) lt ch par rows W)(hl:fF.length=w.hs.length)(g:Int):ai Tryz.prog yJ [ptr B.n,i64 g] H fun v H'=>ay ((∃o,Sl H 1 v (rows g).length ((rows g).map i64) o∧∀b,o=some b→b<H.size∧¬KC ro b)∧H'=H):=by
 obtain⟨tv,ho,_⟩:=m.own
 refine ba zi ⟨rfl,?_⟩
 refine v2 iL.eq_1 (ae ho) ?_
 refine(kJ m.cells g).mono ?_
 rintro _ _ ⟨rfl,rfl⟩
 refine vs ?_
 by_cases hg:w.has g
 ·rw[anQ hg]
  have Ac:=m.Tu hl hg
  obtain⟨lb,tc,sv,o1,q1,q2,Ir,_,s2⟩:=m.MJ Ac
  refine v1 (ae o1) ?_
  refine⟨⟨by omega,by omega⟩,?_⟩
  refine v4 (ae q1) anB anD q2 ?_
  refine⟨⟨rb g,s2,fun b hb=>?_⟩,rfl⟩
  have h5:=m.pR g b Ac.1 Ac.2 hb
  refine⟨m.slt b (fZ h5 nofun),fun hc=>?_⟩
  rcases hc with (hc| ⟨x,hc⟩)|hc<;>(rw[h5]at hc;cases hc)
 ·rw[anU hg]
  refine vs ?_
  have hr:rows g=[]:=by
   cases hc:rows g with
   |nil=>rfl
   |cons c r=>
    obtain⟨h1,_,h2,_⟩:=f.rm g c (by rw[hc];simp)
    have:=((m.cells.hm c).2 (by omega)).1
    rw[h1]at this
    exact absurd this hg
  rw[hr]
  exact⟨⟨none,Sl.nil _ _,nofun⟩,rfl⟩
theorem ml.root(f:ml (aI w) (aU w) ch par rows []){y g:Int}(hg:0<g)(hy:aI w y=g):∃r∈rows g,r=y∨aU w r y=true:=by
 obtain⟨r,h1,h2,h3⟩:=f.pr.root (au w) (n:=w.cs.length) (fun x h=>xP x h) _ (anO _) (x:=y) (by omega)
 rcases f.mj r (by omega) h2 with h|h
 ·rw[h1,hy]at h
  exact⟨r,h,h3⟩
 ·cases h
set_option maxHeartbeats 1000000 in
theorem C9{n:Nat}{H:Hp}{S:Nat→Prop}{w:Nw}(h:ix n H S w)(g:Int):ai Tryz.prog pe [ptr n,i64 g] H fun v H'=>ay (
  (w.len g=0∧v= .tuple [i64 0,.bool false].toArray∧ix n H' S w∧ah S H H')∨(∃x,w.first g x∧v= .tuple [i64 x,.bool true].toArray∧ix n H' S w∧ah S H H')):=by
 obtain⟨B,ro,C,l,V,ch,par,kb,fF,rows,rb,rfl,m,f,hl,hS⟩:=id h
 have zD:=m.cells.FM
 refine ba zf ⟨rfl,?_⟩
 refine v1 iJ.eq_1 ?_
 refine(K5 m f hl g).mono ?_
 rintro _ H' ⟨⟨o,s,hso⟩,e⟩
 obtain rfl:=e.symm
 obtain⟨va,vc,rfl⟩:=Sl.shape s
 refine vs ?_
 refine am.dec (fun h0=>?_) (fun h0=>?_)<;>refine vs ?_
 ·refine .inl ⟨?_,rfl,h,ah.refl _ _⟩
  have hr:rows g=[]:=aoe.1 (by omega)
  by_cases hg:0<g
  ·rw[xA hg]
   intro x hx
   obtain⟨r,zP,_⟩:=f.root hg hx
   rw[hr]at zP
   cases zP
  ·exact Nw.I9.2 (.inl (by omega))
 obtain⟨x,R,hr⟩:∃x R,rows g=x::R:=aoY (fun e=>h0 (by rw[e];rfl))
 have Ue:∀c∈rows g,aI w c=g∧0<g:=fun c hc=>by
  obtain⟨h1,_,h2,_⟩:=f.rm g c hc
  exact⟨h1,h2⟩
 have SN:=(Ue x (by rw[hr];simp)).2
 rw[hr]at s Ue
 have hlr:(rows g).length=(x::R).length:=by rw[hr]
 rw[hlr]
 have ol:(x::R).length=R.length+1:=anY
 have hsB:=s
 have bv:=bV (f.rr g).nodup fun c hc=>xP (w:=w) c (by have:=Ue c (by rw[←hr];exact hc);omega)
 rw[hr]at bv
 obtain⟨b,lb,c,Oi,rfl,qb,qc,_,Ir,_⟩:=Sl.Vk s (i:=0) (x:=x) rfl
 injection Oi with h1 h2 h3
 subst h1 h3
 have kG:=ae qb
 obtain⟨_,UJ,c',fE,q2,Io,RE,Ub⟩:=id s
 injection fE with _ _ fE
 subst fE
 rw[qb]at q2
 injection q2 with q2
 subst q2
 rw[anD]at RE Ub
 refine⟨⟨by omega,by omega⟩,?_⟩
 refine v5 kG qc Int.toNat_zero aol Nat.add_zero ?_
 refine⟨⟨by omega,by omega,by omega,by omega⟩,?_⟩
 refine vs ?_
 have Ac:=m.Tu hl ((m.cells.hm x).2 (by have:=Ue x (by simp);omega)).1
 rw[(Ue x (by simp)).1]at Ac
 have hrB:HM H ro H.size (.slice (some ⟨b,0,none⟩) (x::R).length vc) (x::R):=Sl.rdB s hso
 obtain⟨a',hv,_,_,_⟩:=Sv s.rd (lo:=1) (hi:=R.length+1) (lo':=1) (hi':=((R.length+1:Nat):Int)) rfl rfl (by omega) (by omega) (by omega)
 have hB:HM H ro H.size (.slice a' R.length (vc - 1)) R:=by
  rw[show R.length=R.length+1 - 1 by omega,←hv]
  exact hrB.tail _
 rw[hv,show((R.length+1:Nat):Int).toNat - Int.toNat 1=R.length by simp,Nat.add_sub_cancel]
 refine bA.intro (fun mm env H'=>∃ (j:Nat) (bW:Int),mm=R.length - j∧j≤R.length∧CQ H' B.c C w∧ah C H H'∧bW∈x::R.take j∧(∀c∈x::R.take j,c≠bW→aU w bW c=true)∧
  env=[(0,ptr B.n),(7,i64 bW),(20,.slice a' R.length (vc - 1)),(21,i64 R.length),(22,i64 j)]) R.length ⟨0,x,rfl,by omega,m.cells,ah.refl _ _,by simp,by simp,rfl⟩ ?_
 rintro mm env H1 ⟨j,bW,rfl,hj,c1,e1,Qz,G3,rfl⟩
 have m1:=m.aN c1 e1 rfl
 obtain⟨Eg,o1,_⟩:=m1.own
 refine vs ?_
 refine am.dec (fun aR=>?_) (fun aR=>?_)<;>refine vs ?_
 ·have jk:j<R.length:=by omega
  obtain⟨y,hy⟩:∃y,R[j]? =some y:=⟨_,anx jk⟩
  have hB1:=hB.ext e1 (fun z _ hk hc=>hk (.inr (m.hC z hc))) (ro':=ro) (fun _ _ h=>h)
  obtain⟨_,b2,o2,lb2,rfl,q2,q3⟩:=da.num hB1.rd hy
  refine⟨⟨by omega,by omega⟩,?_⟩
  refine v5 q2 anD Int.toNat_natCast q3 (ae o1) ?_
  refine(cK c1 y bW).mono ?_
  rintro _ H2 ⟨rfl,c2,e2⟩
  have hym:y∈x::R:=aom _ (anG hy)
  have Dr:bW∈x::R:=by
   rcases anN.1 Qz with h|h
   ·rw[h];simp
   ·exact aom _ (apM h)
  have Af:=Ue y hym
  have hbb:=Ue bW Dr
  rw[jp (w:=w) (a:=y) (b:=bW) (by omega) (by omega)]
  have tk:R.take (j+1)=R.take j++[y]:=by rw[aoi,hy];rfl
  cases hyb:aU w y bW
  ·refine vs ?_
   rw[wrap64 (n:=(j:Int)+1) (by omega) (by omega)]
   refine⟨R.length - (j+1),by omega,j+1,bW,rfl,by omega,c2,e1.trans e2,?_,fun c hc aS=>?_,rfl⟩
   ·rw[tk,←aoX];exact aoh _ Qz
   ·rw[tk,←aoX]at hc
    rcases anR.1 hc with hc|hc
    ·exact G3 c hc aS
    ·rw[anM.1 hc]at aS ⊢
     exact((au w).Pj bW y (Ne.symm aS)).resolve_right (by rw[hyb];simp)
  ·refine vs ?_
   rw[wrap64 (n:=(j:Int)+1) (by omega) (by omega)]
   refine⟨R.length - (j+1),by omega,j+1,y,rfl,by omega,c2,e1.trans e2,?_,fun c hc aS=>?_,rfl⟩
   ·rw[tk];simp
   ·rw[tk,←aoX]at hc
    rcases anR.1 hc with hc|hc
    ·by_cases e:c=bW
     ·rw[e];exact hyb
     ·exact(au w).tr _ _ _ hyb (G3 c hc e)
    ·exact absurd (anM.1 hc) aS
 ·obtain rfl:j=R.length:=by omega
  rw[aod]at Qz G3
  refine .inr ⟨bW,?_,rfl,⟨B,ro,C,l,V,ch,par,kb,fF,rows,rb,rfl,m1,f,hl,hS⟩,e1.mono fun z _ hz=>(hS z).2 (fZ (m.hC z hz) nofun)⟩
  rw[bO]
  refine⟨SN,(Ue bW Qz).1,fun y hy aS=>?_⟩
  obtain⟨r,Gs,zP⟩:=f.root SN hy
  rw[hr]at Gs
  by_cases e:r=bW
  ·rw[e]at zP
   exact zP.resolve_left (fun e2=>aS e2.symm)
  ·have h5:=G3 r Gs e
   rcases zP with h6|h6
   ·rw[←h6];exact h5
   ·exact(au w).tr _ _ _ h5 h6
end
end Go.Proofs.YtjlnnljohemifaaGreat

namespace Go.Proofs.YtjlnnljohemifaaGreat
open Go Go.Vc
section
variable {H H' : Hp} {ro ro' : Nat → Rl} {B : ZE} {C T : Nat → Prop} {w w' : Nw} {l l' : List Value} {V V' : Int → Value} {ch dV : Int → List Int} {par bH : Int → Int} {kb wx : Int → Option Nat} {fF : List Value} {rows : Int → List Int} {rb : Int → Option Nat} {lt : Int → Int → Bool} {W W0 L : List Int}
theorem F8{n:Nat}{H:Hp}{S:Nat→Prop}{w:Nw}(h:ix n H S w)(g x k s:Int):ai Tryz.prog k8 [ptr n,i64 g,i64 x,wq k s] H fun v H'=>ay (
  (¬w.oR g x∧v= .bool false∧cD (ix n) S H H' w)∨(w.oR g x∧v= .bool true∧cD (ix n) S H H' (w.put x (g,k,s)))):=by
 obtain⟨B,ro,C,l,V,ch,par,kb,fF,rows,rb,rfl,m,f,hl,hS⟩:=h
 have hC:∀z,C z→S z:=fun z h=>(hS z).2 (fZ (m.hC z h) nofun)
 refine ba ul ⟨rfl,?_⟩
 refine v1 fi.eq_1 ?_
 have f0:aq H (H.new 224 [i64 k,u64 s]):=(ah.refl _ _).new _ _
 have b0:(H.new 224 [i64 k,u64 s]).own H.size=some [i64 k,u64 s]:=aE _ _ _
 have m0:=m.fresh f0
 generalize H.new 224 [i64 k,u64 s]=H0 at*
 have ff:ah S H H0:=f0.mono fun _ _ h=>h.elim
 obtain⟨tv,KH,_⟩:=m0.own
 refine v2 (ae KH) (ae b0) ?_
 refine(nP m0.cells g x k s).mono ?_
 rintro _ H1 (⟨cw,rfl,c1,e1⟩| ⟨tD,rfl,c1,e1⟩)
 ·refine vs ?_
  exact .inl ⟨cw,rfl,cD.same ⟨B,ro,C,l,V,ch,par,kb,fF,rows,rb,rfl,m0.aN c1 e1 rfl,f,hl,hS⟩ (ff.trans (e1.mono fun z _ hz=>hC z hz))⟩
 obtain⟨hh,hx,bQ⟩:=id tD
 have m1:=m0.aN c1 e1 (by simp[Nw.put])
 have hg:=hh.1
 have dD:=m.Tu hl hh
 have cV:=fun y=>eC hx (g,k,s) y
 have ik:aI w x≤0:=Int.not_lt.1 fun h=>bQ (bK.1 h)
 have el:∀a b,0<aI w a→0<aI w b→a≠x→b≠x→aU (w.put x (g,k,s)) a b=aU w a b:=fun a b ha hb tT oS=>dI hx _ ha hb tT oS
 obtain⟨f1,_⟩:=f.put (hm':=aI (w.put x (g,k,s))) (lt':=aU (w.put x (g,k,s))) (g:=g) rfl ik (by omega) (by omega) (by rw[cV,if_pos rfl]) (fun y hy=>by rw[cV,if_neg hy]) el
 refine vs ?_
 have f2:aq H1 (H1.new 3 [i64 x]):=(ah.refl _ _).new _ _
 have m2:=m1.fresh f2
 have s2:Sl (H1.new 3 [i64 x]) 1 (.slice (some ⟨H1.size,0,none⟩) 1 1) [x].length ([x].map i64) (some H1.size):=Sl.dw (size:=1) (n:=1) (xs:=[i64 x]) rfl rfl
 have z2:(H1.new 3 [i64 x]).size=H1.size+1:=ar _ _ _
 have Tb:HM (H1.new 3 [i64 x]) ro (H1.new 3 [i64 x]).size (.slice (some ⟨H1.size,0,none⟩) 1 1) [x]:=Sl.rdB s2 fun b hb=>by
  injection hb with hb
  subst hb
  refine⟨by omega,fun hc=>?_⟩
  have:=m1.hz H1.size (anO _)
  rcases hc with (hc| ⟨x,hc⟩)|hc<;>(rw[this]at hc;cases hc)
 generalize H1.new 3 [i64 x]=H2 at*
 refine(C8 m2 Tb (fun _ _ h=>h) (W0:=[]) f1 (List.pairwise_singleton _ _) (fun c hc=>by rw[anM.1 hc,cV,if_pos rfl]) dD).mono ?_
 rintro _ H3 ⟨Q3,l3,V3,Nr,sE,X2,agD,Da,rb3,m3,f3,Ua,_,Rt,e3⟩
 refine vs ?_
 have eS:ah S H H2:=(ff.trans (e1.mono fun z _ h=>hC z h)).trans (f2.mono fun _ _ h=>h.elim)
 have z1:=eS.size
 refine .inr ⟨tD,rfl,dO Q3,⟨B,Q3,C,l3,V3,Nr,sE,X2,agD,Da,rb3,rfl,m3,f3,by rw[Ua,hl];rfl,fun z=>Iff.rfl⟩,eS.trans (e3.mono fun z _ h=>(hS z).2 h),fun z hz=>?_⟩
 rcases Rt z hz with h|h
 ·exact .inl ((hS z).2 h)
 ·exact .inr (by omega)
theorem ml.Vo{hm:Int→Int}(f:ml hm lt ch par rows W)(x:Int):Gu ch (ch x):=by
 unfold Gu
 rw[aoZ]
 intro i j hi hj JE
 rw[f.dg x i _ (anx hi),f.dg x j _ (anx hj)]
 exact JE
theorem ml.Vp{hm:Int→Int}(f:ml hm lt ch par rows []){x g:Int}(hx:x∈rows g):ml hm lt ch par (aA rows g ((rows g).filter fun y=> !decide (x=y))) [x]:=by
 have hn:=(f.rr g).nodup
 have hp:(rows g++[]).Perm (((rows g).filter fun y=> !decide (x=y))++[x]):=by
  rw[aow]
  refine(List.perm_ext_iff_of_nodup hn ?_).2 fun y=>?_
  ·rw[aon]
   refine⟨hn.filter _,by simp,fun u hu v hv e=>?_⟩
   rw[apD]at hu
   rw[anM.1 hv]at e
   simp[e]at hu
  ·rw[anR,apD,anM]
   by_cases h:x=y
   ·simp[←h,hx]
   ·simp[h,Ne.symm h]
 have f2:=((f.loose g).perm hp).row (g:=g) (by unfold aA;rw[if_pos rfl]) ((f.rr g).sub List.filter_sublist) (fun c hc=>(f.rm g c (apD.1 hc).1).1)
 rwa[eJ]at f2
theorem F9{H:Hp}{bx:Nat}{x:Int}(hb:H.own bx=some [i64 x])(y:Int):ai Tryz.prog k9 [i64 y,ptr bx] H fun v H'=>ay (v= .bool (decide (x=y))∧H'=H):=by
 refine yi mixed uo (nt:=7) (by kernel_rfl) (by simp) ?_
 refine v2 fk.eq_1 (ae hb) ?_
 exact⟨rfl,rfl⟩
set_option maxHeartbeats 2000000 in
theorem Jt(m:xU H ro B C w l V ch par kb fF rows rb)(aR:∀a b,aU w a b=true→lt a b=true)(f:ml (aI w) lt ch par rows []){x g:Int}(xJ:x∈rows g)(Ac:0≤g∧g<fF.length)(abU:∀a b,0<aI w a→0<aI w b→a≠x→b≠x→lt a b=true→aU (w.put x (0,0,0)) a b=true):
  ai Tryz.prog wN [ptr B.n,i64 g,i64 x] H fun v H'=>ay (v= .bool true∧∃ro' l' V' dV bH wx Tt mF rb',xU H' ro' B C (w.put x (0,0,0)) l' V' dV bH wx Tt mF rb'∧ml (aI (w.put x (0,0,0))) (aU (w.put x (0,0,0))) dV bH mF []∧Tt.length=fF.length∧
   (∀z,dO ro' z→dO ro z∨H.size≤z)∧ah (dO ro) H H'):=by
 obtain⟨PA,Ly,SN,_⟩:=f.rm g x xJ
 have ik:=xP (w:=w) x (by omega)
 have zD:=m.cells.FM
 have bv:=bV (f.rr g).nodup fun c hc=>xP (w:=w) c (by have:=f.rm g c hc;omega)
 refine ba xg ⟨rfl,?_⟩
 refine v1 nI.eq_1 ?_
 have f0:aq H (H.new 3 [i64 x]):=(ah.refl _ _).new _ _
 have b0:(H.new 3 [i64 x]).own H.size=some [i64 x]:=aE _ _ _
 have z0:(H.new 3 [i64 x]).size=H.size+1:=ar _ _ _
 have m0:=m.fresh f0
 generalize H.new 3 [i64 x]=H0 at*
 obtain⟨lb,tc,sv,o1,q1,q2,Ir,_,s2⟩:=m0.MJ Ac
 obtain⟨va,vc,rfl⟩:=Sl.shape s2
 refine rq.intro (fun H'=>H'.own B.n=some [ptr B.c,ptr B.fb,.slice (some ⟨B.rp,0,none⟩) fF.length tc]) o1 ?_
 refine vs ?_
 refine oQ.intro (.slice (some ⟨B.rp,0,none⟩) fF.length tc) (fun H' hI=>by refine v1 (ae hI) ?_;trivial) ?_
 refine v1 (ae o1) ?_
 refine And.intro o1 ?_
 refine vs ?_
 refine⟨⟨by omega,by omega⟩,?_⟩
 refine v4 (ae q1) anB anD q2 ?_
 refine And.intro o1 ?_
 refine vs ?_
 have KU:∀b,rb g=some b→ro b= .row g:=fun b hb=>m.pR g b Ac.1 Ac.2 hb
 refine(Ei s2 k9 [ptr H.size] (fun y=>decide (x=y)) (by kernel_rfl) (fun H' e' y=>F9 (e'.own b0 (fun hh=>by have:=m.slt _ (fZ (KU _ hh) nofun);omega)) y) (by omega)).mono ?_
 rintro _ H1 ⟨s3,e1⟩
 obtain⟨va',vc',rfl⟩:=Sl.shape s3
 have abV:∀z q,ro z=q→q≠ .row g→¬rb g=some z:=fun z q h1 h2 h3=>h2 (by rw[←h1,KU z h3])
 have o2:=e1.own o1 (abV _ _ m.rn nofun)
 have q3:=e1.own q1 (abV _ _ m.rr nofun)
 refine And.intro o2 ?_
 refine vs ?_
 refine⟨⟨by omega,by omega⟩,?_⟩
 refine v3 q3 anB anD ?_
 refine⟨by omega,?_⟩
 obtain⟨m2,e2,zP⟩:=m0.Wo Ac e1 q3 s3 (fun b hb=>.inr (KU b hb))
 have hnr:B.n≠B.rp:=fun e=>by have:=m.rn;rw[e,m.rr]at this;cases this
 refine vs ?_
 refine And.intro o2 ?_
 have X3:¬dO ro H.size:=fun h=>by have:=m.slt _ h;omega
 have b2:=e2.own b0 X3
 have z2:=e2.size
 have f2:=f.Vp xJ
 generalize H1.wr B.rp (lb.set g.toNat (Value.slice va' ((rows g).filter fun y=> !decide (x=y)).length vc'))=H2 at*
 obtain⟨rz,agE⟩:∃rz:Nat→Rl,rz=fun z=>if rb g=some z then Rl.row g else ro z:=⟨_,rfl⟩
 rw[←agE]at m2 zP
 have X4:∀z,dO rz z→dO ro z:=fun z hz=>(zP z hz).elim id fun h=>fZ (KU z h) nofun
 obtain⟨Og,o3,_⟩:=m2.own
 refine v2 (ae o3) (ae b2) ?_
 have rB:(ch x).length≤w.cs.length:=bV (f.pr.nd x) fun c hc=>m.fo.Iq x c hc
 refine(EG m2.fo m2.hz ik Ly (by omega)).mono ?_
 rintro sv H3 ⟨Q3,l3,V3,X2,fp3,fo3,r3,Xh,e3,s4,jv⟩
 have z3:=e3.size
 have m3:=m2.Ts fo3 (m2.cells.ext e3 (fun z hz hk=>by
  have:=m2.hC z hz
  rcases hk with hk| ⟨_,hk⟩<;>(rw[this]at hk;cases hk))) r3 Xh (e3.mono fun z _ h=>.inl h)
 have f3:=f2.split.perm (show(x::(ch x++[])).Perm (ch x++[x]) by
  rw[aow]
  exact aoC (l₁:=[x]) (l₂:=ch x))
 have KG:x∉ch x:=fun h=>by have:=f.less h;omega
 have Tb:HM H3 Q3 H3.size sv (ch x):=Sl.rdB s4 fun b hb=>by
  rw[hb]at s4
  refine⟨Sl.lt s4,fun hc=>?_⟩
  have:=(jv b hb).2
  rcases hc with (hc| ⟨x,hc⟩)|hc<;>(rw[this]at hc;cases hc)
 have agF:0≤g∧g< ((fF.set g.toNat (Value.slice va' ((rows g).filter fun y=> !decide (x=y)).length vc')).length:Int):=by rw[anC];exact Ac
 refine(C8 m3 Tb aR f3 ((f.Vo x).frame fun c hc=>by unfold aA;rw[if_neg (fun e=>KG (by have h7:=hc;rw[e]at h7;exact h7))]) (fun c hc=>by
  have:=(f.pr.dn x c hc).2.2.1
  omega) agF).mono ?_
 rintro _ H4 ⟨ro4,l4,V4,Vj,KW,kb4,agH,abW,rb4,m4,f4,XB,w4,hr4,e4⟩
 have X5:∀z,dO Q3 z→dO ro z∨H.size+1≤z:=fun z hz=>by
  by_cases Pp:z<H2.size
  ·refine .inl (X4 z fun h=>hz ?_)
   exact r3.none Pp h
  ·exact .inr (by omega)
 have UL:¬dO Q3 H.size:=fun h=>by
  rcases X5 _ h with h|h
  ·exact X3 h
  ·omega
 have agI:¬KB rz H.size:=fun h=>X3 (X4 _ (by rcases h with h| ⟨_,h⟩<;>exact fZ h nofun))
 have b4:=e4.own (e3.own b2 agI) UL
 obtain⟨tv4,o5,_⟩:=m4.own
 refine v2 (ae o5) (ae b4) ?_
 refine(ck m4.cells x).mono ?_
 have bQ:cZ w.cs x:=bK.1 (by omega)
 rintro _ H5 (⟨cw,_,_⟩| ⟨_,rfl,c5,e5⟩)
 ·exact absurd bQ cw
 have m5:=m4.aN c5 e5 (by simp[Nw.put])
 refine vs ?_
 have cV:=fun y=>eC (w:=w) ik (0,0,0) y
 have f5:=f4.drop (hm':=aI (w.put x (0,0,0))) (lt':=aU (w.put x (0,0,0))) (by
  rw[w4 x (by simp)]
  unfold aA
  rw[if_pos rfl]) rfl (by rw[cV,if_pos rfl]) (fun y hy=>by rw[cV,if_neg hy]) abU
 have z4:=e4.size
 have abX:∀z,dO ro4 z→dO ro z∨H.size+1≤z:=fun z hz=>by
  rcases hr4 z hz with h|h
  ·exact X5 z h
  ·exact .inr (by omega)
 refine⟨rfl,ro4,l4,V4,Vj,KW,kb4,agH,abW,rb4,m5,f5,by rw[XB,anC],fun z hz=>?_,?_⟩
 ·rcases abX z hz with h|h
  ·exact .inl h
  ·exact .inr (by omega)
 ·refine⟨by have:=e5.size;omega,fun z hz hn=>?_⟩
  rw[e5.aP z (by omega) (fun h=>by
   rcases abX z (fZ (m4.hC z h) nofun)with h|h
   ·exact hn h
   ·omega),e4.aP z (by omega) (fun h=>by
   rcases X5 z h with h|h
   ·exact hn h
   ·omega),e3.aP z (by omega) (fun h=>hn (X4 z (by rcases h with h| ⟨_,h⟩<;>exact fZ h nofun))),e2.aP z (by omega) (fun h=>hn h),f0.aP z hz (fun h=>h)]
theorem EL{n:Nat}{H:Hp}{S:Nat→Prop}{w:Nw}(h:ix n H S w)(g:Int):ai Tryz.prog kq [ptr n,i64 g] H fun v H'=>ay (
  (w.len g=0∧v= .tuple [i64 0,.bool false].toArray∧cD (ix n) S H H' w)∨(∃x,w.first g x∧v= .tuple [i64 x,.bool true].toArray∧cD (ix n) S H H' (w.put x (0,0,0)))):=by
 refine ba tf ⟨rfl,?_⟩
 refine v1 eO.eq_1 ?_
 refine(C9 h g).mono ?_
 rintro _ H1 (⟨h0,rfl,h1,e1⟩| ⟨x,hx,rfl,h1,e1⟩)
 ·refine vs ?_
  exact .inl ⟨h0,rfl,cD.same h1 e1⟩
 refine vs ?_
 obtain⟨B,ro,C,l,V,ch,par,kb,fF,rows,rb,rfl,m,f,hl,hS⟩:=h1
 obtain⟨hg,PA,rG⟩:=bO.1 hx
 have xJ:x∈rows g:=by
  obtain⟨r,Gs,zP⟩:=f.root hg PA
  rcases zP with h|h
  ·rw[←h];exact Gs
  ·by_cases e:r=x
   ·rw[←e];exact Gs
   ·have h2:=rG r (f.rm g r Gs).1 e
    rw[(au w).asym h2]at h
    cases h
 have ik:=xP (w:=w) x (by omega)
 have Ac:=m.Tu hl ((m.cells.hm x).2 (by omega)).1
 rw[PA]at Ac
 refine(Jt m (fun _ _ h=>h) f xJ Ac (fun a b ha hb tT oS h=>by rw[dI ik _ ha hb tT oS];exact h)).mono ?_
 rintro _ H2 ⟨rfl,rz,l2,V2,om,mc,E8,agJ,abY,rb2,m2,f2,wC,zP,e2⟩
 refine vs ?_
 have z1:=e1.size
 refine .inr ⟨x,hx,rfl,dO rz,⟨B,rz,C,l2,V2,om,mc,E8,agJ,abY,rb2,rfl,m2,f2,by rw[wC,hl];rfl,fun z=>Iff.rfl⟩,e1.trans (e2.mono fun z _ h=>(hS z).2 h),fun z hz=>?_⟩
 rcases zP z hz with h|h
 ·exact .inl ((hS z).2 h)
 ·exact .inr (by omega)
end
end Go.Proofs.YtjlnnljohemifaaGreat

namespace Go.Proofs.YtjlnnljohemifaaGreat
open Go Go.Vc
section
variable {H H' : Hp} {ro ro' : Nat → Rl} {B : ZE} {C T : Nat → Prop} {w w' : Nw} {l l' : List Value} {V V' : Int → Value} {ch dV : Int → List Int} {par bH : Int → Int} {kb wx : Int → Option Nat} {fF : List Value} {rows : Int → List Int} {rb : Int → Option Nat} {lt : Int → Int → Bool} {W W0 L : List Int}
theorem xU.abZ(m:xU H ro B C w l V ch par kb fF rows rb){g:Int}(hg:0≤g∧g<fF.length){H1:Hp}(e:ah (fun z=>rb g=some z) H H1){sv:Value}(Oi:fF[g.toNat]? =some sv){L':List Int}(s:Sl H1 1 sv L'.length (L'.map i64) (rb g)):
  xU H1 ro B C w l V ch par kb fF (aA rows g L') rb:=by
 obtain⟨tv,h1,h2⟩:=m.own
 have hs:=e.size
 have n0:∀z q,ro z=q→q≠ .row g→¬rb g=some z:=fun z q h1 h2 h3=>h2 (by rw[←h1,m.pR g z hg.1 hg.2 h3])
 refine⟨⟨tv,e.own h1 (n0 _ _ m.rn nofun),h2.ext e (fun b hb=>by injection hb with hb;subst hb;exact n0 _ _ m.rr nofun)⟩,fun k h0 h1=>?_,m.cells.ext e (fun z hz=>n0 z _ (m.hC z hz) nofun),m.fo.ext e (fun z hz=>by rcases hz with h|h| ⟨x,h⟩<;>exact n0 z _ h nofun),m.hC,m.rn,m.rr,m.pR,fun z hz=>m.hz z (by omega)⟩
 by_cases hk:k=g
 ·subst hk
  refine⟨sv,Oi,?_⟩
  unfold aA
  rw[if_pos rfl]
  exact s
 ·obtain⟨Xm,q1,q2⟩:=m.row k h0 h1
  refine⟨Xm,q1,?_⟩
  unfold aA
  rw[if_neg hk]
  exact q2.ext e (fun b hb=>n0 b _ (m.pR k b h0 h1 hb) (fun e=>hk (by injection e)))
set_option maxRecDepth 100000 in
set_option maxHeartbeats 2000000 in
theorem Ju(m:xU H ro B C w l V ch par kb fF rows rb){x g:Int}(f:Ni (aI w) (aU w) ch par rows [] x)(PA:aI w x=g)(SN:0<g)(Ac:0≤g∧g<fF.length)(fid:FuncId)(tC:List Value)(q:Int→Bool)(J:Hp→Prop)(E:(Int→List Int)→Prop)(hJ:J H)
  (vu:∀H' GU,J H'→ah (fun z=>dO ro z∧z≠B.n) H' GU→J GU)(FT:eW Tryz.prog fid=true)
  (hq:∀H' p,J H'→CQ H' B.c C w→0<aI w p→ai Tryz.prog fid (i64 p::tC) H' fun v GU=>ay (v= .bool (q p)∧CQ GU B.c C w∧ah C H' GU))(hE:E ch)
  (hEs:∀ (ch:Int→List Int) (par:Int→Int) (rows:Int→List Int) p,Ni (aI w) (aU w) ch par rows [] x→x∈ch p→q p=true→E ch→E (Im ch x p)):
  ai Tryz.prog wM [ptr B.n,i64 g,i64 x,.func (.func fid) #[] tC.toArray] H fun v H'=>ay (∃ro' l' V' dV bH wx mF,xU H' ro' B C w l' V' dV bH wx fF mF rb∧Ni (aI w) (aU w) dV bH mF [] x∧E dV∧(bH x= -1∨q (bH x)=false)∧
   (∀z,dO ro' z→dO ro z)∧ah (dO ro) H H'):=by
 have ls:=au w
 have ik:=xP (w:=w) x (by omega)
 have zD:=m.cells.FM
 refine ba xf ⟨rfl,?_⟩
 refine v1 gJ.eq_1 ?_
 refine bA.intro (fun mm env H'=>∃ (ro':Nat→Rl) (l':List Value) (V':Int→Value) (dV:Int→List Int) (bH:Int→Int) (wx:Int→Option Nat) (mF:Int→List Int),mm=w.cs.length - (dV x).length∧xU H' ro' B C w l' V' dV bH wx fF mF rb∧Ni (aI w) (aU w) dV bH mF [] x∧E dV∧J H'∧
  (∀z,dO ro' z→dO ro z)∧ah (dO ro) H H'∧env=[(0,ptr B.n),(1,i64 g),(2,i64 x),(3,.func (.func fid) #[] tC.toArray)]) _ ⟨ro,l,V,ch,par,kb,rows,rfl,m,f,hE,hJ,fun _ h=>h,ah.refl _ _,rfl⟩ ?_
 clear m f hE hJ
 rintro mm env H1 ⟨XR,l1,V1,PL,zJ,ZB,rJ,rfl,m1,f1,hE1,hJ1,Gs,e1,rfl⟩
 obtain⟨Eg,o1,_⟩:=m1.own
 refine v1 (ae o1) ?_
 refine(sz m1.fo.t ik).mono ?_
 rintro _ H' ⟨⟨hp,rfl⟩| ⟨hp,rfl⟩,e⟩
 ·obtain rfl:=e.symm
  refine vs ?_
  exact⟨XR,l1,V1,PL,zJ,ZB,rJ,m1,f1,hE1,.inl hp,Gs,e1⟩
 obtain rfl:=e.symm
 obtain⟨p,hpd⟩:∃p,p=zJ x:=⟨_,rfl⟩
 rw[←hpd]at hp ⊢
 have Ly:=f1.w.pr.up x p hpd.symm hp
 obtain⟨_,_,hpg,EU,_⟩:=f1.w.pr.dn p x Ly
 have gk:=f1.w.less Ly
 have hp0:=xP (w:=w) p (by omega)
 have bv:∀z,(PL z).length≤w.cs.length:=fun z=>bV (f1.w.pr.nd z) fun c hc=>m1.fo.Iq z c hc
 refine vs ?_
 refine⟨FT,?_⟩
 refine ai.mono (by simpa using hq H1 p hJ1 m1.cells (by omega)) ?_
 rintro _ H2 ⟨rfl,c2,e2⟩
 have m2:=m1.aN c2 e2 rfl
 have e2':ah (dO ro) H1 H2:=e2.mono fun z _ h=>Gs z (fZ (m1.hC z h) nofun)
 have hJ2:=vu _ _ hJ1 (e2.mono fun z _ h=>⟨Gs z (fZ (m1.hC z h) nofun),fun e=>by have:=m1.hC z h;rw[e,m1.rn]at this;cases this⟩)
 have re:=e1.trans e2'
 cases hqp:q p
 ·refine vs ?_
  exact⟨XR,l1,V1,PL,zJ,ZB,rJ,m2,f1,hE1,.inr (by rw[←hpd];exact hqp),Gs,re⟩
 obtain⟨Og,o2,_⟩:=m2.own
 refine v1 (ae o2) ?_
 refine(sz m2.fo.t hp0).mono ?_
 have X6:∀h,x∉rJ h:=fun h hh=>hp (by rw[hpd];exact(f1.w.rm h x hh).2.1)
 have Sb:zJ p≠ -1→0≤zJ p∧zJ p<w.cs.length:=fun h=>by
  have:=(f1.w.pr.dn _ _ (f1.w.pr.up p _ rfl h)).2.2
  exact xP (w:=w) _ (by omega)
 have fin:∀ (H3:Hp) (Da:Int→List Int),xU H3 XR B C w l1 V1 PL zJ ZB fF Da rb→(∀h,Da h=(rJ h).map (jt x p))→J H3→ah (dO ro) H H3→∀ (K:Value→Hp→Prop),(∀H4,(∃m',m'<w.cs.length - (PL x).length∧∃ (ro':Nat→Rl) (l':List Value) (V':Int→Value) (dV:Int→List Int) (bH:Int→Int) (wx:Int→Option Nat) (mF:Int→List Int),m'=w.cs.length - (dV x).length∧xU H4 ro' B C w l' V' dV bH wx fF mF rb∧Ni (aI w) (aU w) dV bH mF [] x∧E dV∧J H4∧
  (∀z,dO ro' z→dO ro z)∧ah (dO ro) H H4)→K (.bool true) H4)→ai Tryz.prog pg [ptr B.fb,i64 x] H3 K:=fun H3 Da m3 JK hJ3 e3 K hK=>by
  refine(F5 m3.fo m3.hz f1.w ik hp0 Ly Sb zD).mono ?_
  rintro _ H4 ⟨rfl,ro4,l4,V4,kb4,fo4,r4,hz4,e4,agL⟩
  have m4:=m3.Ts fo4 (m3.cells.ext e4 (fun z hz hk=>by
   have:=m3.hC z hz
   rcases hk with hk| ⟨_,hk⟩<;>(rw[this]at hk;cases hk))) r4 hz4 (e4.mono fun z _ h=>.inl h)
  have e4':ah (dO ro) H3 H4:=e4.mono fun z _ h=>Gs z (by rcases h with h| ⟨_,h⟩<;>exact fZ h nofun)
  have f4:=f1.up ls Ly
  have X7:(fun h=>(rJ h).map (jt x p))=Da:=by funext h;exact(JK h).symm
  rw[X7,List.map_nil]at f4
  have XB:(Im PL x p x).length=(PL p).length:=by unfold Im;rw[nu,anW]
  have:=bv p
  have alT:=e4.size
  refine hK H4 ⟨w.cs.length - (Im PL x p x).length,by omega,ro4,l4,V4,_,_,kb4,Da,rfl,m4,f4,hEs _ _ _ p f1 Ly hqp hE1,vu _ _ hJ3 (e4.mono fun z _ h=>⟨Gs z (by rcases h with h| ⟨_,h⟩<;>exact fZ h nofun),fun e=>by rw[e]at h;rcases h with h| ⟨_,h⟩<;>(rw[m3.rn]at h;cases h)⟩),fun z hz=>?_,e3.trans e4'⟩
  exact Gs z fun h=>hz (agL z h)
 rintro _ H' ⟨⟨Qa,rfl⟩| ⟨Qa,rfl⟩,e⟩
 ·obtain rfl:=e.symm
  have hpr:p∈rJ g:=by
   rcases f1.w.mj p (by omega) Qa with h|h
   ·rw[hpg,PA]at h;exact h
   ·cases h
  obtain⟨lb,tc,sv,o3,q1,q2,Ir,Oi,s3⟩:=m2.MJ Ac
  obtain⟨k0,hk0,ek0⟩:=apu.1 hpr
  obtain⟨b,lr,rc,rfl,XW,qb,qk0,alU,WS,_⟩:=Sl.Vk s3 (i:=k0) (x:=p) (by rw[anx hk0,ek0])
  have hlr:=bV (f1.w.rr g).nodup fun c hc=>xP (w:=w) c (by have:=f1.w.rm g c hc;omega)
  refine v1 (ae o3) ?_
  refine⟨⟨by omega,by omega⟩,?_⟩
  refine v5 (ae q1) anB anD q2 (ae o3) ?_
  refine⟨⟨by omega,by omega⟩,?_⟩
  refine v4 (ae q1) anB anD q2 ?_
  have jd:=(f1.w.rr g).nodup
  have ab0:(rJ g)[k0]? =some p:=by rw[anx hk0,ek0]
  refine⟨i64 (k0:Int),(gu s3.rd p (by omega)).mono ?_,?_⟩
  ·rintro _ H' ⟨⟨j,rfl,hj⟩,e⟩
   obtain⟨hj0,hj⟩:=hj.resolve_left (fun h=>h.2 hpr)
   have hjl:=(anA.1 hj).1
   have:=(List.getElem?_inj hjl jd).1 (hj.trans ab0.symm)
   exact⟨by rw[show j=(k0:Int) by omega],e⟩
  refine vs ?_
  refine⟨⟨by omega,by omega⟩,?_⟩
  refine v4 qb anB anD Int.toNat_natCast ?_
  refine⟨by omega,?_⟩
  rw[XW]at s3
  have s4:=s3.ww qb k0 (i64 x)
  have e3:ah (fun z=>rb g=some z) H2 (H2.wr b (lr.set k0 (i64 x))):=(ah.refl (fun z=>rb g=some z) _).wr (fun _=>XW) _
  have Tl:(rJ g).map (jt p x)=(rJ g).map (jt x p):=ao4 fun c _=>by
   unfold jt
   by_cases e1:c=x
   ·by_cases e2:c=p
    ·rw[if_pos e2,if_pos e1];exact e1▸e2▸rfl
    ·rw[if_neg e2,if_pos e1,if_pos e1]
   ·by_cases e2:c=p
    ·rw[if_pos e2,if_neg e1,if_pos e2]
    ·rw[if_neg e2,if_neg e1,if_neg e1,if_neg e2]
  rw[←aoo,KY jd (X6 g) ab0,Tl]at s4
  have SX:((rJ g).map (jt x p)).length=(rJ g).length:=anW ..
  have m3:=m2.abZ Ac e3 Oi (L':=(rJ g).map (jt x p)) (by rw[XW,SX];exact s4)
  have Zk:ah (dO ro) H2 (H2.wr b (lr.set k0 (i64 x))):=e3.mono fun z _ h=>Gs z (fZ (m2.pR g z Ac.1 Ac.2 h) nofun)
  obtain⟨Zh,o4,_⟩:=m3.own
  refine v1 (ae o4) ?_
  refine fin _ _ m3 (fun h=>?_) (vu _ _ hJ2 (e3.mono fun z _ h=>⟨Gs z (fZ (m2.pR g z Ac.1 Ac.2 h) nofun),fun e=>by have:=m2.pR g z Ac.1 Ac.2 h;rw[e,m2.rn]at this;cases this⟩)) (re.trans Zk) _ fun H4 hh=>?_
  ·unfold aA
   split
   ·rename_i e;rw[e]
   ·rename_i e
    exact(BU (X6 h) (fun hh=>e (by rw[← (f1.w.rm h p hh).1,hpg,PA]))).symm
  obtain⟨m',hm',ro',l',V',dV,bH,wx,mF,h1,h2,h3,h4,h5,h6,h7⟩:=hh
  refine vs ?_
  exact⟨m',hm',ro',l',V',dV,bH,wx,mF,h1,h2,h3,h4,h5,h6,h7,trivial⟩
 ·obtain rfl:=e.symm
  have agM:∀h,p∉rJ h:=fun h hh=>Qa (f1.w.rm h p hh).2.1
  refine v1 (ae o2) ?_
  refine fin H2 rJ m2 (fun h=>(BU (X6 h) (agM h)).symm) hJ2 re _ fun H4 hh=>?_
  obtain⟨m',hm',ro',l',V',dV,bH,wx,mF,h1,h2,h3,h4,h5,h6,h7⟩:=hh
  refine vs ?_
  exact⟨m',hm',ro',l',V',dV,bH,wx,mF,h1,h2,h3,h4,h5,h6,h7,trivial⟩
end
end Go.Proofs.YtjlnnljohemifaaGreat

namespace Go.Proofs.YtjlnnljohemifaaGreat
open Go Go.Vc
theorem zN{H:Hp}{C:Nat→Prop}{w:Nw}{b3 b4 n c:Nat}{x:Int}{rest:List Value}(h3:H.own b3=some [ptr n])(h4:H.own b4=some [i64 x])(hn:H.own n=some (ptr c::rest))(cq:CQ H c C w){p:Int}(hx:0<aI w x)(hp:0<aI w p):
  ai Tryz.prog gC [i64 p,ptr b3,ptr b4] H fun v H'=>ay (v= .bool (aU w x p)∧CQ H' c C w∧ah C H H'):=by
 refine yi mixed qo (nt:=12) (by kernel_rfl) (by simp) ?_
 refine v4 dG.eq_1 (ae h3) (ae h4) (ae hn) ?_
 refine(cK cq x p).mono ?_
 rintro _ H1 ⟨rfl,c1,e1⟩
 rw[jp (w:=w) (a:=x) (b:=p) hx hp]
 refine vs ?_
 exact⟨rfl,c1,e1⟩
set_option maxHeartbeats 1000000 in
theorem Db{n:Nat}{H:Hp}{S:Nat→Prop}{w:Nw}(h:ix n H S w)(x k s:Int):ai Tryz.prog jg [ptr n,i64 x,wq k s] H fun v H'=>ay (
  (¬w.de x k s∧v= .bool false∧cD (ix n) S H H' w)∨(w.de x k s∧v= .bool true∧∃y,w.cs[x.toNat]? =some y∧cD (ix n) S H H' (w.put x (y.1,k,s)))):=by
 obtain⟨B,ro,C,l,V,ch,par,kb,fF,rows,rb,rfl,m,f,hl,hS⟩:=h
 have hC:∀z,C z→S z:=fun z h=>(hS z).2 (fZ (m.hC z h) nofun)
 have hSR:∀z,S z→z<H.size:=fun z hz=>m.slt z ((hS z).1 hz)
 refine ba si ⟨rfl,?_⟩
 refine v1 ef.eq_1 ?_
 have f0:aq H (((H.new 198 [ptr B.n]).new 3 [i64 x]).new 224 [i64 k,u64 s]):=(((ah.refl _ _).new _ _).new _ _).new _ _
 have b3:(((H.new 198 [ptr B.n]).new 3 [i64 x]).new 224 [i64 k,u64 s]).own H.size=some [ptr B.n]:=by
  rw[cz (by simp only[ar];omega),cz (by simp only[ar];omega),aE]
 have b4:(((H.new 198 [ptr B.n]).new 3 [i64 x]).new 224 [i64 k,u64 s]).own (H.size+1)=some [i64 x]:=by
  rw[cz (by simp only[ar];omega)]
  exact bD (by simp only[ar])
 have b5:(((H.new 198 [ptr B.n]).new 3 [i64 x]).new 224 [i64 k,u64 s]).own (H.size+1+1)=some [i64 k,u64 s]:=bD (by simp only[ar])
 have m0:=m.fresh f0
 generalize ((H.new 198 [ptr B.n]).new 3 [i64 x]).new 224 [i64 k,u64 s]=H0 at*
 have ff:ah S H H0:=f0.mono fun _ _ h=>h.elim
 obtain⟨tv,KH,_⟩:=m0.own
 refine v4 (ae b3) (ae b4) (ae KH) (ae b5) ?_
 refine(jo m0.cells x k s).mono ?_
 rintro _ H1 (⟨cw,rfl,c1,e1⟩| ⟨bQ,rfl,y,hy,gk,c1,e1⟩)
 ·refine vs ?_
  exact .inl ⟨cw,rfl,cD.same ⟨B,ro,C,l,V,ch,par,kb,fF,rows,rb,rfl,m0.ext e1 (fun _ _ h=>h),f,hl,hS⟩ (ff.trans (e1.mono fun _ _ h=>h.elim))⟩
 have rG:(w.put x (y.1,k,s)).cs.length=w.cs.length:=by simp[Nw.put]
 have m1:=m0.aN c1 e1 rG
 have CU:w.de x k s:=⟨bQ,fun z hz=>by rw[hy]at hz;injection hz with hz;rw[←hz];exact gk⟩
 have hx:0≤x∧x<w.cs.length:=⟨bQ.1,by have:=(anA.1 hy).1;have:=bQ.1;omega⟩
 have Rz:aI w x=y.1:=mZ bQ.1 hy
 have ec:=bK.2 bQ
 have hw:aI (w.put x (y.1,k,s))=aI w:=by
  funext z
  rw[eC hx]
  split
  ·rename_i e;rw[e,Rz]
  ·rfl
 have FZ:cZ (w.put x (y.1,k,s)).cs x:=bK.1 (by rw[hw];exact ec)
 have el:∀a b,0<aI w a→0<aI w b→a≠x→b≠x→aU (w.put x (y.1,k,s)) a b=aU w a b:=fun a b ha hb tT oS=>dI hx _ ha hb tT oS
 have ex:∀b,0<aI w b→b≠x→aU w x b=true→aU (w.put x (y.1,k,s)) x b=true:=fun b hb oS h=>CK bQ hy gk hb oS h
 have ls:=au w
 have Uf:=au (w.put x (y.1,k,s))
 have nC:∀z,H.size≤z→¬C z:=fun z hz hc=>by have:=hSR z (hC z hc);omega
 have b31:=e1.own b3 (nC _ (anO _))
 have b41:=e1.own b4 (nC _ (by omega))
 obtain⟨Eg,o1,_⟩:=m1.own
 have Ac:=m.Tu hl ((m.cells.hm x).2 ec).1
 have hhl:(w.put x (y.1,k,s)).hs.length=w.hs.length:=by simp[Nw.put]
 refine v3 (ae b31) (ae b41) (ae o1) ?_
 refine(dA m1.cells x).mono ?_
 rintro _ H2 (⟨cw,_,_⟩| ⟨_,rfl,c2,e2⟩)
 ·exact absurd FZ cw
 have m2:=m1.aN c2 e2 rfl
 have re:ah S H H2:=(ff.trans (e1.mono fun z _ h=>hC z h)).trans (e2.mono fun z _ h=>hC z h)
 have b32:=e2.own b31 (nC _ (anO _))
 have b42:=e2.own b41 (nC _ (by omega))
 rw[hw]
 refine v2 (ae b32) (ae b42) ?_
 have f2:Ni (aI (w.put x (y.1,k,s))) (aU (w.put x (y.1,k,s))) ch par rows [] x:=by
  rw[hw]
  exact Ni.start ls f el
 have hE0:∀d∈ch x,aU (w.put x (y.1,k,s)) x d=true:=fun d hd=>by
  obtain⟨_,_,_,h4,h5⟩:=f.pr.dn x d hd
  exact ex d h4 (fun e=>by have:=f.less hd;rw[e]at this;omega) h5
 have hsR:∀z,dO ro z→z<H.size:=m.slt
 refine(Ju m2 f2 (g:=aI w x) (by rw[hw]) ec Ac gC [ptr H.size,ptr (H.size+1)] (fun p=>aU (w.put x (y.1,k,s)) x p) (fun H'=>H'.own H.size=some [ptr B.n]∧H'.own (H.size+1)=some [i64 x]∧∃tv,H'.own B.n=some [ptr B.c,ptr B.fb,tv])
  (fun ch=>∀d∈ch x,aU (w.put x (y.1,k,s)) x d=true) ?_ (fun H' GU hJ e=>?_) (by kernel_rfl) (fun H' p hJ cq hp=>?_) hE0 (fun ch par rows p cx Ly hq _=>cx.low Uf Ly hq)).mono ?_
 ·obtain⟨Og,o2,_⟩:=m2.own
  exact⟨b32,b42,Og,o2⟩
 ·obtain⟨j1,j2,Og,o2⟩:=hJ
  exact⟨e.own j1 (fun h=>by have:=hsR _ h.1;omega),e.own j2 (fun h=>by have:=hsR _ h.1;omega),Og,e.own o2 (fun h=>h.2 rfl)⟩
 ·obtain⟨j1,j2,Og,o2⟩:=hJ
  exact zN j1 j2 o2 cq (by rw[hw];exact ec) hp
 rintro _ H3 ⟨Q3,l3,V3,Nr,sE,X2,Da,m3,f3,hE3,hq3,Rt,e3⟩
 refine vs ?_
 have f4:=f3.done hE3 (fun hp=>by
  rcases hq3 with h|h
  ·exact absurd h hp
  ·have hxc:=f3.w.pr.up x _ rfl hp
   have X8:=f3.w.less hxc
   exact(Uf.Pj (sE x) x (fun e=>by rw[e]at X8;omega)).resolve_right (by rw[h];simp))
 have z2:=re.size
 refine .inr ⟨CU,rfl,y,hy,dO Q3,⟨B,Q3,C,l3,V3,Nr,sE,X2,fF,Da,rb,rfl,m3,f4,by rw[hl,hhl],fun z=>Iff.rfl⟩,re.trans (e3.mono fun z _ h=>(hS z).2 h),fun z hz=>.inl ((hS z).2 (Rt z hz))⟩
theorem K6(cap:Int)(H:Hp):ai Tryz.prog Gz [i64 cap] H fun v H'=>ay (
  aq H H'∧((¬ (0≤cap∧cap≤65536)∧v= .tuple [.pointer none,i64 31].toArray)∨
   ((0≤cap∧cap≤65536)∧∃n S,v= .tuple [ptr n,i64 0].toArray∧ix n H' S (CS cap)∧∀x,S x→H.size≤x))):=by
 refine ba GF ⟨rfl,?_⟩
 refine v1 qj.eq_1 ?_
 refine(nQ cap H).mono ?_
 rintro _ H1 ⟨f1,⟨hb,rfl⟩| ⟨hb,c,C,rfl,c1,hC⟩⟩
 ·refine vs ?_
  exact⟨f1,.inl ⟨hb,rfl⟩⟩
 refine vs ?_
 refine(HL H1 hb).mono ?_
 rintro _ H2 ⟨fb,tb,l,rfl,t2,f2,hfb,Rx⟩
 have c2:=c1.fresh f2
 refine vs ?_
 have zS:=c1.slt
 have z1:=f1.size
 have z2:=f2.size
 have Wi:=t2.SK
 have aS:=t2.ne
 have f3:aq H2 ((H2.new 24 [.slice none 0 0]).new 260 [ptr c,ptr fb,.slice (some ⟨H2.size,0,none⟩) 1 1]):=((ah.refl _ _).new _ _).new _ _
 have e2:ah (fun _=>False) (H2.new 24 [.slice none 0 0]) ((H2.new 24 [.slice none 0 0]).new 260 [ptr c,ptr fb,.slice (some ⟨H2.size,0,none⟩) 1 1]):=(ah.refl _ _).new _ _
 have z3:((H2.new 24 [.slice none 0 0]).new 260 [ptr c,ptr fb,.slice (some ⟨H2.size,0,none⟩) 1 1]).size=H2.size+1+1:=by simp only[ar]
 obtain⟨ro,OJ⟩:∃ro:Nat→Rl,ro=fun z=>if z=H2.size+1 then Rl.SJ else if z=H2.size then Rl.Mp else if z=fb then Rl.Hd else if z=tb then Rl.table else @ite _ (C z) (Classical.propDecidable _) Rl.cell Rl.no:=⟨_,rfl⟩
 have r1:ro (H2.size+1)= .SJ:=by rw[OJ];simp
 have r2:ro H2.size= .Mp:=by rw[OJ];simp
 have r3:ro fb= .Hd:=by rw[OJ];show(if fb=H2.size+1 then _ else _)=_;rw[if_neg (by omega),if_neg (by omega),if_pos rfl]
 have r4:ro tb= .table:=by rw[OJ];show(if tb=H2.size+1 then _ else _)=_;rw[if_neg (by omega),if_neg (by omega),if_neg (by omega),if_pos rfl]
 have r5:∀z,C z→ro z= .cell:=fun z hz=>by
  have:=zS z hz
  rw[OJ];show(if z=H2.size+1 then _ else _)=_;rw[if_neg (by omega),if_neg (by omega),if_neg (by omega),if_neg (by omega),if_pos hz]
 have r6:∀z,ro z≠ .no→H.size≤z∧z<H2.size+1+1:=fun z hz=>by
  rw[OJ]at hz
  simp only at hz
  split at hz
  ·omega
  ·split at hz
   ·omega
   ·split at hz
    ·omega
    ·split at hz
     ·omega
     ·split at hz
      ·rename_i h
       have:=hC z h
       have:=zS z h
       omega
      ·exact absurd rfl hz
 have rB:(CS cap).cs.length=cap.toNat:=by simp[CS]
 refine⟨(f1.trans f2).trans f3,.inr ⟨hb,H2.size+1,dO ro,rfl,⟨⟨H2.size+1,c,fb,tb,H2.size⟩,ro,C,l,fun _=>.slice none 0 0,fun _=>[],fun _=> -1,fun _=>none,[.slice none 0 0],fun _=>[],fun _=>none,rfl,⟨⟨.slice (some ⟨H2.size,0,none⟩) 1 1,bD (by simp only[ar]),?_⟩,fun g h0 h1=>?_,c2.fresh f3,?_,r5,r1,r2,fun g b _ _ h=>(by cases h),fun z hz=>?_⟩,
  ⟨⟨rfl,fun x c hc=>absurd hc (by simp),fun c x h hx=>absurd (Eq.symm h) hx,fun x=>aoU⟩,fun x i c hc=>by simp at hc,fun h=>List.Pairwise.nil,fun h c hc=>absurd hc (by simp),aoU,fun c hc=>absurd hc (by simp),fun c hc=>absurd hc (nT cap c)⟩,rfl,fun z=>Iff.rfl⟩,fun z hz=>(r6 z hz).1⟩⟩
 ·exact(Sl.dw (size:=1) (n:=1) (xs:=[.slice none 0 0]) rfl rfl).ext e2 (fun _ _ h=>h)
 ·have h1:g<1:=h1
  have hg:g=0:=by omega
  subst hg
  exact⟨.slice none 0 0,rfl,Sl.nil _ _⟩
 ·rw[rB]
  exact⟨t2.ext f3 (fun h=>h) (fun h=>h),fun x h0 h1=>Sl.nil _ _,r3,r4,fun x b _ _ h=>(by cases h),fun x c hc=>absurd hc (by simp),fun _ _=>rfl⟩
 ·apply anX
  intro h
  have:=(r6 z h).2
  have hz':H2.size+1+1≤z:=by rw[←z3];exact hz
  omega
set_option maxHeartbeats 1000000 in
theorem Jv{n:Nat}{H:Hp}{S:Nat→Prop}{w:Nw}(h:ix n H S w):ai Tryz.prog nB [ptr n] H fun v H'=>ay (
  (w.hs.length=65537∧v=i64 0∧cD (ix n) S H H' w)∨(w.hs.length≠65537∧v=i64 w.hs.length∧cD (ix n) S H H' w.make)):=by
 obtain⟨B,ro,C,l,V,ch,par,kb,fF,rows,rb,rfl,m,f,hl,hS⟩:=id h
 obtain⟨tv,ho,Gf⟩:=m.own
 refine ba xe ⟨rfl,?_⟩
 refine v2 gI.eq_1 (ae ho) ?_
 refine(lV m.cells).mono ?_
 rintro _ H1 (⟨h1,rfl,rfl⟩| ⟨h1,rfl,C',c1,e1,Bp⟩)
 ·refine vs ?_
  exact .inl ⟨h1,rfl,cD.same h (ah.refl _ _)⟩
 have jj:=m.cells.pos
 have hhs:=m.cells.Gf
 have slt:=m.slt
 have Mw:=c1.slt
 have z1:=e1.size
 have nc:∀z q,ro z=q→q≠ .cell→¬C z:=fun z q h1 h2 hc=>h2 (by rw[←h1,m.hC z hc])
 have o1:=e1.own ho (nc _ _ m.rn nofun)
 refine vs ?_
 refine am.cF (anQ (by omega)) ?_
 refine v1 (ae o1) ?_
 have s1:=Gf.ext e1 (fun b hb=>by injection hb with hb;subst hb;exact nc _ _ m.rr nofun)
 have fl:aq H1 (H1.new 24 [.slice none 0 0]):=(ah.refl _ _).new _ _
 have zl:(H1.new 24 [.slice none 0 0]).size=H1.size+1:=ar _ _ _
 refine Sl.append (s1.ext fl (fun _ _ h=>h)) (Sl.dw (size:=1) (n:=1) (xs:=[.slice none 0 0]) rfl rfl).rd rfl (fun v hv=>by rw[anM.1 hv];rfl) (by omega) ?_
 intro w' H2 dv s2 e2' jv
 have e2:ah (fun z=>z=B.rp) H1 H2:=⟨aok fl.size e2'.size,fun z hz hn=>by
  rw[e2'.aP z (an3 hz fl.size) (fun h=>hn (by injection h with h;exact h.symm)),fl.aP z hz (fun h=>h)]⟩
 obtain⟨b',rfl,rR⟩:∃b',dv=some b'∧(b'=B.rp∨H1.size≤b'∧b'<H2.size):=by
  rcases jv with rfl| ⟨b',rfl,h2,h3⟩
  ·exact⟨_,rfl,.inl rfl⟩
  ·exact⟨b',rfl,.inr ⟨by omega,h3⟩⟩
 have hnr:B.n≠B.rp:=fun e=>by have:=m.rn;rw[e,m.rr]at this;cases this
 have o2:=e2.own o1 hnr
 obtain⟨wa,wc,PD⟩:=Sl.shape s2
 subst PD
 refine v1 o2 ?_
 have hln:B.n<H.size:=slt _ (fZ m.rn nofun)
 have hlr:B.rp<H.size:=slt _ (fZ m.rr nofun)
 have e3:∀v,ah (fun z=>z=B.n) H2 (H2.wr B.n [ptr B.c,ptr B.fb,v]):=fun v=>(ah.refl (fun z=>z=B.n) _).wr (fun _=>rfl) _
 obtain⟨rz,OJ⟩:∃rz:Nat→Rl,rz=fun z=>if z=b' then Rl.Mp else if z<H.size then ro z else @ite _ (C' z) (Classical.propDecidable _) Rl.cell Rl.no:=⟨_,rfl⟩
 have r1:rz b'= .Mp:=by rw[OJ];show(if b'=b' then _ else _)=_;rw[if_pos rfl]
 have r2:∀z q,ro z=q→q≠ .no→q≠ .Mp→rz z=q:=fun z q h1 h2 h3=>by
  have hz:=slt z (fZ h1 h2)
  rw[OJ]
  show(if z=b' then _ else _)=_
  rw[if_neg (fun e=>?_),if_pos hz,h1]
  rcases rR with h|h
  ·exact h3 (by rw[←h1,e,h,m.rr])
  ·omega
 have r3:∀z,C' z→rz z= .cell:=fun z hz=>by
  have hzl:=Mw z hz
  by_cases ez:z<H.size
  ·rcases Bp z hz with h|h
   ·exact r2 z _ (m.hC z h) nofun nofun
   ·omega
  ·rw[OJ]
   show(if z=b' then _ else _)=_
   rw[if_neg (by omega),if_neg ez,if_pos hz]
 have r4:∀z,dO rz z→dO ro z∨H.size≤z:=fun z hz=>by
  by_cases ez:z<H.size
  ·refine .inl fun h=>hz ?_
   rw[OJ]
   show(if z=b' then _ else _)=_
   rw[if_neg (fun e=>?_),if_pos ez,h]
   rcases rR with h'|h'
   ·rw[e,h',m.rr]at h;cases h
   ·omega
  ·exact .inr (by omega)
 have r5:∀z,H2.size≤z→rz z= .no:=fun z hz=>by
  have h2:=e2.size
  rw[OJ]
  show(if z=b' then _ else _)=_
  rw[if_neg (by omega),if_neg (by omega),if_neg (fun h=>by have:=Mw z h;omega)]
 have abv:∀v,(H2.wr B.n [ptr B.c,ptr B.fb,v]).size=H2.size:=fun v=>gh _ _ _
 have X9:∀z q,ro z=q→q≠ .Mp→z≠B.rp:=fun z q h1 h2 e=>h2 (by rw[←h1,e,m.rr])
 have It:∀z q,ro z=q→q≠ .SJ→z≠B.n:=fun z q h1 h2 e=>h2 (by rw[←h1,e,m.rn])
 have alZ:b'≠B.n:=by rcases rR with h|h<;>omega
 refine .inr ⟨h1,rfl,dO rz,⟨⟨B.n,B.c,B.fb,B.tb,b'⟩,rz,C',l,V,ch,par,kb,fF++[.slice none 0 0],rows,(fun k=>if k< (fF.length:Int)then rb k else none),rfl,⟨⟨_,aj o2,?_⟩,fun g h0 hg=>?_,?_,?_,r3,r2 _ _ m.rn nofun nofun,r1,fun g b h0 hg hb=>?_,fun z hz=>r5 z (by rw[abv]at hz;exact hz)⟩,f,by rw[anL,hl];simp[Nw.make],fun z=>Iff.rfl⟩,?_,fun z hz=>(r4 z hz).imp_left fun h=>(hS z).2 h⟩
 ·rw[anL]
  exact s2.ext (e3 _) (fun b hb=>by injection hb with hb;omega)
 ·rw[anL,an6]at hg
  by_cases dD:g<fF.length
  ·obtain⟨sv,q1,q2⟩:=m.row g h0 dD
   refine⟨sv,by rw[anS (by omega)];exact q1,?_⟩
   rw[if_pos dD]
   exact((q2.ext e1 (fun b hb=>nc b _ (m.pR g b h0 dD hb) nofun)).ext e2 (fun b hb=>X9 b _ (m.pR g b h0 dD hb) nofun)).ext (e3 _) (fun b hb=>It b _ (m.pR g b h0 dD hb) nofun)
  ·have SU:g=(fF.length:Int):=by omega
   have hre:rows g=[]:=by
    cases hc:rows g with
    |nil=>rfl
    |cons c r=>
     obtain⟨h5,_,h6,_⟩:=f.rm g c (by rw[hc];simp)
     have:=((m.cells.hm c).2 (by omega)).2
     omega
   refine⟨.slice none 0 0,by rw[SU,Int.toNat_natCast,an5 (anO _)];simp,?_⟩
   rw[hre,if_neg dD]
   exact Sl.nil _ _
 ·exact(c1.ext e2 (fun z hz e=>by
   rcases Bp z hz with h|h
   ·exact X9 z _ (m.hC z h) nofun e
   ·omega)).ext (e3 _) (fun z hz e=>by
   rcases Bp z hz with h|h
   ·exact It z _ (m.hC z h) nofun e
   ·omega)
 ·have hft:∀z,(ro z= .Hd∨KB ro z)→(¬C z∧z≠B.rp)∧z≠B.n:=fun z hz=>by
   rcases hz with h|h| ⟨x,h⟩<;>exact⟨⟨nc z _ h nofun,X9 z _ h nofun⟩,It z _ h nofun⟩
  have f1:=((m.fo.ext e1 (fun z hz=>(hft z hz).1.1)).ext e2 (fun z hz=>(hft z hz).1.2)).ext (e3 (.slice wa (fF.length+1) wc)) (fun z hz=>(hft z hz).2)
  exact⟨f1.t,f1.kd,r2 _ _ f1.rf nofun nofun,r2 _ _ f1.rt nofun nofun,fun x b h0 h1 hb=>r2 _ _ (f1.rk x b h0 h1 hb) nofun nofun,f1.Iq,f1.no⟩
 ·rw[anL,an6]at hg
  by_cases dD:g<fF.length
  ·rw[if_pos dD]at hb
   exact r2 _ _ (m.pR g b h0 dD hb) nofun nofun
  ·rw[if_neg dD]at hb
   cases hb
 ·refine(((e1.mono fun z _ h=>?_).trans (e2.mono fun z _ h=>?_)).trans ((e3 _).mono fun z _ h=>?_):ah S H _)
  ·exact(hS z).2 (fZ (m.hC z h) nofun)
  ·exact(hS z).2 (by rw[h];exact fZ m.rr nofun)
  ·exact(hS z).2 (by rw[h];exact fZ m.rn nofun)
theorem Tv(n:Nat):zW (.iface 198 (ptr n)) (ix n) where
 slt h:=h.slt
 ext h e hd:=h.ext e hd
 cells:=by
  rintro H S w ⟨B,ro,C,l,V,ch,par,kb,fF,rows,rb,rfl,m,f,hl,hS⟩
  exact⟨B.c,C,m.cells⟩
 has:=by
  rintro H S w g ⟨B,ro,C,l,V,ch,par,kb,fF,rows,rb,rfl,m,f,hl,hS⟩
  obtain⟨tv,ho,_⟩:=m.own
  exact⟨_,_,bF,ptr B.c,rfl,hX (off:=0) (by kernel_rfl) (ae ho) rfl,(kJ m.cells g).mono fun v H' hp=>hp⟩
 make:=by
  intro H S w h
  exact⟨_,_,nB,ptr n,rfl,bE (by kernel_rfl),(Jv h).mono fun v H' hp=>hp⟩
 insert:=by
  intro H S w g x k s h
  exact⟨_,_,k8,ptr n,rfl,bE (by kernel_rfl),(F8 h g x k s).mono fun v H' hp=>hp⟩
 min:=by
  intro H S w g h
  refine⟨_,_,pe,ptr n,rfl,bE (by kernel_rfl),(C9 h g).mono ?_⟩
  rintro v H' (⟨h1,rfl,h2,h3⟩| ⟨x,h1,rfl,h2,h3⟩)
  ·exact .inl ⟨h1,rfl,cD.same h2 h3⟩
  ·exact .inr ⟨x,h1,rfl,cD.same h2 h3⟩
 extract:=by
  intro H S w g h
  exact⟨_,_,kq,ptr n,rfl,bE (by kernel_rfl),(EL h g).mono fun v H' hp=>hp⟩
 qG:=by
  intro H S w x k s h
  exact⟨_,_,jg,ptr n,rfl,bE (by kernel_rfl),(Db h x k s).mono fun v H' hp=>hp⟩
 entry:=by
  rintro H S w x ⟨B,ro,C,l,V,ch,par,kb,fF,rows,rb,rfl,m,f,hl,hS⟩
  obtain⟨tv,ho,_⟩:=m.own
  refine⟨_,_,bj,ptr B.c,rfl,hX (off:=0) (by kernel_rfl) (ae ho) rfl,(jn m.cells x).mono ?_⟩
  rintro v H' ⟨c1,f1,hv⟩
  exact⟨⟨B,ro,C,l,V,ch,par,kb,fF,rows,rb,rfl,m.fresh f1,f,hl,hS⟩,f1,hv⟩
theorem Bz(n:Nat)(H:Hp):ai Tryz.prog sQ [ptr n,i64 0] H fun v H'=>ay (v= .tuple [.iface 198 (ptr n),i64 0].toArray∧H'=H):=by
 refine ba sZ ⟨rfl,?_⟩
 refine v2 eM.eq_1 anZ ?_
 exact⟨rfl,rfl⟩
theorem Dc(n:Nat)(H:Hp):ai Tryz.prog tW [ptr n,i64 0] H fun v H'=>ay (v= .tuple [.iface 202 (ptr n),i64 0].toArray∧H'=H):=by
 refine ba ug ⟨rfl,?_⟩
 refine v2 fg.eq_1 anZ ?_
 exact⟨rfl,rfl⟩
theorem Dd(n:Nat)(H:Hp):ai Tryz.prog tX [ptr n,i64 0] H fun v H'=>ay (v= .tuple [.iface 210 (ptr n),i64 0].toArray∧H'=H):=by
 refine ba uh ⟨rfl,?_⟩
 refine v2 fh.eq_1 anZ ?_
 exact⟨rfl,rfl⟩
theorem HN(n:Nat)(H:Hp):ai Tryz.prog yE [ptr n,i64 0] H fun v H'=>ay (v= .tuple [.iface 214 (ptr n),i64 0].toArray∧H'=H):=by
 refine ba yX ⟨rfl,?_⟩
 refine v2 iC.eq_1 anZ ?_
 exact⟨rfl,rfl⟩
theorem HO(n:Nat)(H:Hp):ai Tryz.prog yF [ptr n,i64 0] H fun v H'=>ay (v= .tuple [.iface 218 (ptr n),i64 0].toArray∧H'=H):=by
 refine ba yY ⟨rfl,?_⟩
 refine v2 iD.eq_1 anZ ?_
 exact⟨rfl,rfl⟩
theorem K7{kd dd cap:Int}(hf:lZ kd dd)(hc:0≤cap∧cap≤65536)(H:Hp):ai Tryz.prog JI [Mu kd dd,i64 cap] H fun v H'=>ay (∃t vv I Sn,v= .tuple [.iface t vv,i64 0].toArray∧zW (.iface t vv) I∧I H' Sn (CS cap)∧aq H H'∧∀z,Sn z→H.size≤z):=by
 refine ba DK ⟨rfl,?_⟩
 refine v1 sY.eq_1 ?_
 have f0:aq H (H.new 23 [i64 kd,i64 dd]):=(ah.refl _ _).new _ _
 have o0:(H.new 23 [i64 kd,i64 dd]).own H.size=some [i64 kd,i64 dd]:=aE _ _ _
 have z0:(H.new 23 [i64 kd,i64 dd]).size=H.size+1:=ar _ _ _
 generalize H.new 23 [i64 kd,i64 dd]=H0 at*
 obtain rfl|rfl|rfl|rfl|rfl|rfl|rfl|rfl:kd=1∨kd=2∨kd=3∨kd=4∨kd=5∨kd=6∨kd=7∨kd=8:=by have:=hf.1;omega
 ·refine am.cF (by decide) ?_
  refine v1 (ae o0) ?_
  refine am.cF (by decide) ?_
  refine v1 (ae o0) ?_
  refine(l9 hf (by decide) H0).mono ?_
  rintro _ H1 ⟨rfl,f1⟩
  refine vs ?_
  refine(sC cap _ H1).mono ?_
  rintro _ H2 ⟨f2,⟨hb,rfl⟩| ⟨_,hd,rfl⟩| ⟨_,hd,n,Sn,rfl,h2,KP⟩⟩
  ·exact absurd hc hb
  ·refine absurd ?_ hd
   obtain⟨_,h|h⟩:=hf
   ·first|exact⟨h.2.1,h.2.2⟩|exact absurd h.1 (by decide)
   ·first|exact⟨by decide,by decide⟩|exact absurd rfl h.1
  ·refine vs ?_
   refine(qM n H2).mono ?_
   rintro _ _ ⟨rfl,rfl⟩
   have z1:=f1.size
   refine vs ?_
   exact⟨_,_,_,Sn,rfl,Bu n _,⟨0,h2⟩,(f0.trans f1).trans f2,fun z hz=>by have:=KP z hz;omega⟩
 ·refine am.aW (by decide) ?_
  refine vs ?_
  refine am.cF (by decide) ?_
  refine v1 (ae o0) ?_
  refine(l9 hf (by decide) H0).mono ?_
  rintro _ H1 ⟨rfl,f1⟩
  refine vs ?_
  refine(sC cap _ H1).mono ?_
  rintro _ H2 ⟨f2,⟨hb,rfl⟩| ⟨_,hd,rfl⟩| ⟨_,hd,n,Sn,rfl,h2,KP⟩⟩
  ·exact absurd hc hb
  ·refine absurd ?_ hd
   obtain⟨_,h|h⟩:=hf
   ·first|exact⟨h.2.1,h.2.2⟩|exact absurd h.1 (by decide)
   ·first|exact⟨by decide,by decide⟩|exact absurd rfl h.1
  ·refine vs ?_
   refine(qM n H2).mono ?_
   rintro _ _ ⟨rfl,rfl⟩
   have z1:=f1.size
   refine vs ?_
   exact⟨_,_,_,Sn,rfl,Bu n _,⟨0,h2⟩,(f0.trans f1).trans f2,fun z hz=>by have:=KP z hz;omega⟩
 ·refine am.aW (by decide) ?_
  refine vs ?_
  refine am.aW (by decide) ?_
  refine vs ?_
  refine am.cF (by decide) ?_
  refine vs ?_
  refine(K6 cap H0).mono ?_
  rintro _ H2 ⟨f2,⟨hb,rfl⟩| ⟨_,n,Sn,rfl,h2,KP⟩⟩
  ·exact absurd hc hb
  ·refine vs ?_
   refine(Bz n H2).mono ?_
   rintro _ _ ⟨rfl,rfl⟩
   refine vs ?_
   exact⟨_,_,_,Sn,rfl,Tv n,h2,f0.trans f2,fun z hz=>by have:=KP z hz;omega⟩
 ·refine am.aW (by decide) ?_
  refine vs ?_
  refine am.aW (by decide) ?_
  refine vs ?_
  refine am.aW (by decide) ?_
  refine vs ?_
  refine am.cF (by decide) ?_
  refine vs ?_
  refine(EF cap H0).mono ?_
  rintro _ H2 ⟨f2,⟨hb,rfl⟩| ⟨_,n,Sn,rfl,h2,KP⟩⟩
  ·exact absurd hc hb
  ·refine vs ?_
   refine(Dc n H2).mono ?_
   rintro _ _ ⟨rfl,rfl⟩
   refine vs ?_
   exact⟨_,_,_,Sn,rfl,KX n,h2,f0.trans f2,fun z hz=>by have:=KP z hz;omega⟩
 ·refine am.aW (by decide) ?_
  refine vs ?_
  refine am.aW (by decide) ?_
  refine vs ?_
  refine am.aW (by decide) ?_
  refine vs ?_
  refine am.aW (by decide) ?_
  refine vs ?_
  refine am.cF (by decide) ?_
  refine vs ?_
  refine(C3 cap H0).mono ?_
  rintro _ H2 ⟨f2,⟨hb,rfl⟩| ⟨_,n,Sn,rfl,h2,KP⟩⟩
  ·exact absurd hc hb
  ·refine vs ?_
   refine(pE n H2).mono ?_
   rintro _ _ ⟨rfl,rfl⟩
   refine vs ?_
   exact⟨_,_,_,Sn,rfl,MC n,h2,f0.trans f2,fun z hz=>by have:=KP z hz;omega⟩
 ·refine am.aW (by decide) ?_
  refine vs ?_
  refine am.aW (by decide) ?_
  refine vs ?_
  refine am.aW (by decide) ?_
  refine vs ?_
  refine am.aW (by decide) ?_
  refine vs ?_
  refine am.aW (by decide) ?_
  refine vs ?_
  refine am.cF (by decide) ?_
  refine vs ?_
  refine(El cap H0).mono ?_
  rintro _ H2 ⟨f2,⟨hb,rfl⟩| ⟨_,n,Sn,rfl,h2,KP⟩⟩
  ·exact absurd hc hb
  ·refine vs ?_
   refine(Dd n H2).mono ?_
   rintro _ _ ⟨rfl,rfl⟩
   refine vs ?_
   exact⟨_,_,_,Sn,rfl,KI n,h2,f0.trans f2,fun z hz=>by have:=KP z hz;omega⟩
 ·refine am.aW (by decide) ?_
  refine vs ?_
  refine am.aW (by decide) ?_
  refine vs ?_
  refine am.aW (by decide) ?_
  refine vs ?_
  refine am.aW (by decide) ?_
  refine vs ?_
  refine am.aW (by decide) ?_
  refine vs ?_
  refine am.aW (by decide) ?_
  refine vs ?_
  refine am.cF (by decide) ?_
  refine vs ?_
  refine(Jn cap H0).mono ?_
  rintro _ H2 ⟨f2,⟨hb,rfl⟩| ⟨_,n,Sn,rfl,h2,KP⟩⟩
  ·exact absurd hc hb
  ·refine vs ?_
   refine(HN n H2).mono ?_
   rintro _ _ ⟨rfl,rfl⟩
   refine vs ?_
   exact⟨_,_,_,Sn,rfl,QX n,h2,f0.trans f2,fun z hz=>by have:=KP z hz;omega⟩
 ·refine am.aW (by decide) ?_
  refine vs ?_
  refine am.aW (by decide) ?_
  refine vs ?_
  refine am.aW (by decide) ?_
  refine vs ?_
  refine am.aW (by decide) ?_
  refine vs ?_
  refine am.aW (by decide) ?_
  refine vs ?_
  refine am.aW (by decide) ?_
  refine vs ?_
  refine am.aW (by decide) ?_
  refine vs ?_
  refine(Jg cap H0).mono ?_
  rintro _ H2 ⟨f2,⟨hb,rfl⟩| ⟨_,n,Sn,rfl,h2,KP⟩⟩
  ·exact absurd hc hb
  ·refine vs ?_
   refine(HO n H2).mono ?_
   rintro _ _ ⟨rfl,rfl⟩
   refine vs ?_
   exact⟨_,_,_,Sn,rfl,Ow n,⟨0,h2⟩,f0.trans f2,fun z hz=>by have:=KP z hz;omega⟩
theorem Tw{kd dd:Int}(hf:lZ kd dd):E6 kd dd:=fun _ hc H=>K7 hf hc H
end Go.Proofs.YtjlnnljohemifaaGreat
