/- Texts put behind each other. -/
import Derived.Test.YthpjfeolagohkaaGreatK98
import Derived.Test.YthpjfeolagohkaaGreatK3
import Derived.Test.YthpjfeolagohkaaGreatK22
import Derived.Test.YthpjfeolagohkaaGreatK31
import Derived.Test.YthpjfeolagohkaaGreatK41
set_option maxRecDepth 100000
set_option maxHeartbeats 8000000
set_option linter.unusedVariables false
set_option linter.unusedSimpArgs false
namespace Go.Proofs.YthpjfeolagohkaaGreat
open Go Go.Vc
theorem K8:∀ {l:List Int} {i:Nat} {x p:Int},l.Nodup→p∉l→l[i]? =some x→l.set i p=l.map (gN x p):=by
 intro l
 induction l with
 |nil=>intro i x p _ _ h;simp at h
 |cons a r ih=>
  intro i x p hn hp h
  have GD:=aqu.1 hn
  have hpr:p∉r:=fun h=>hp (by simp[h])
  cases i with
  |zero=>
   simp only[aqE,aqk]at h
   subst h
   rw[arv,aqY,ol,B9 GD.1 hpr]
  |succ i=>
   have hx:r[i]? =some x:=by simpa using h
   have uH:a≠x:=fun e=>GD.1 (by rw[e];exact aqg hx)
   have VO:a≠p:=fun e=>hp (by rw[e];simp)
   rw[aqU,aqY,jv uH VO,ih GD.2 hpr hx]
def TF(x p:Int):Rl→Rl
 | .rH y=>.rH (gN x p y)
 |r=>r
section
variable {H H' : Hp} {ro ro' : Nat → Rl} {fb tb n : Nat} {l : List Value} {V : Int → Value} {ch : Int → List Int} {par : Int → Int} {kb : Int → Option Nat} {T : Nat → Prop}
variable {hm : Int → Int} {lt : Int → Int → Bool} {rows : Int → List Int} {W : List Int}
theorem Sl.VU{H:Hp}{v:Value}{m:Nat}{xs:List Int}{fp:Option Nat}(s:Sl H 1 v m (xs.map i64) fp){i:Nat}{x:Int}(hx:xs[i]? =some x):∃b lb c,v= .slice (some ⟨b,0,none⟩) m c∧fp=some b∧H.own b=some lb∧lb[i]? =some (i64 x)∧i<m∧m≤lb.length∧m=xs.length:=by
 obtain⟨a,c,rfl⟩:=Sl.shape s
 have hl:=s.1
 rw[aqr,aqd]at hl
 obtain⟨h1,b,lb,rfl,q2,q3⟩:=Sl.Ao s hx
 cases fp with
 |none=>have:=s.2.2;injection this with h1;cases h1
 |some b'=>
  obtain⟨_,Ys,c',hs,ho,hc,oP,_⟩:=s
  injection hs with fh Jv E6
  injection fh with fh
  injection fh with fh
  subst fh
  rw[q2]at ho
  injection ho with ho
  subst ho
  exact⟨b,lb,c,rfl,rfl,q2,q3,h1,by omega,hl.symm⟩
theorem oo.ail{H:Hp}{fb tb n:Nat}{l:List Value}{V V':Int→Value}{U U':Int→Int}(t:oo H fb tb n l V U)(h:∀x:Int,0≤x→x<n→V' x=V x∧U' x=U x):oo H fb tb n l V' U':=
 ⟨t.own,t.FP,t.len,fun x h0 h1=>by obtain⟨e1,e2⟩:=h x h0 h1;rw[e1,e2];exact t.at_ x h0 h1,t.ne⟩
theorem Fy(m:ForM H ro fb tb n l V ch par kb)(hz:∀z,H.size≤z→ro z= .no)(w:iS hm lt ch par rows W){x p:Int}(hx:0≤x∧x<n)(hp:0≤p∧p<n)(Lq:x∈ch p)(Tb:par p≠ -1→0≤par p∧par p<n)(hn:n≤65536):
  af Tryz.prog mi [ptr fb,i64 x] H fun v H'=>ax (v= .bool true∧∃ro' l' V' ri,ForM H' ro' fb tb n l' V' (G1 ch x p) (KM par x p) ri∧RK H.size ro ro'∧(∀z,H'.size≤z→ro' z= .no)∧ag (KB ro) H H'∧∀z,ro z= .no→ro' z= .no):=by
 obtain⟨d1,d2,d3,d4,d5⟩:=w.pr.dn p x Lq
 have aN:=w.less Lq
 have ep:p≠x:=fun e=>by rw[e]at aN;omega
 have npp:p∉ch p:=fun h=>by have:=w.less h;omega
 have npx:p∉ch x:=fun h=>by have:=w.less h;omega
 have nxx:x∉ch x:=fun h=>by have:=w.less h;omega
 have tQ:∀z,(ch z).length≤n:=fun z=>cf (w.pr.nd z) fun c hc=>m.HU z c hc
 have anL:=tQ x
 have anM:=tQ p
 have o8:=m.t.len
 obtain⟨x1,x2⟩:=m.t.at_ x hx.1 hx.2
 obtain⟨p1,p2⟩:=m.t.at_ p hp.1 hp.2
 have sx:=m.kd x hx.1 hx.2
 have sp:=m.kd p hp.1 hp.2
 obtain⟨oa,oc,hvx⟩:=Sl.shape sx
 obtain⟨i,hi,e⟩:=ar2.1 Lq
 obtain⟨bp,lp,cp,WI,hkp,qp,qpi,qR,RO,_⟩:=Sl.VU sp (i:=i) (x:=x) (by rw[aqb hi,e])
 have WT:=m.rk p bp hp.1 hp.2 hkp
 have Qc:bp≠tb:=fun e=>by rw[e,m.rt]at WT;cases WT
 have XA:bp≠fb:=fun e=>by rw[e,m.rf]at WT;cases WT
 have X1:∀b,kb x=some b→b≠tb∧b≠bp:=fun b hb=>by
  have:=m.rk x b hx.1 hx.2 hb
  refine⟨fun e=>(by rw[e,m.rt]at this;cases this),fun e=>?_⟩
  rw[e,WT]at this
  injection this with this
  exact ep this
 rw[hvx]at x1
 rw[WI]at p1
 refine EL xD ⟨rfl,?_⟩
 refine v1 mC.eq_1 ?_
 refine(pR m.t hx).mono ?_
 rintro _ H' ⟨⟨h,_⟩| ⟨_,rfl⟩,e⟩
 ·rw[d1]at h;exact absurd h d2
 obtain rfl:=e.symm
 rw[d1]
 refine v1 (ae m.t.own) ?_
 refine⟨⟨by omega,by omega⟩,?_⟩
 refine v5 (ae m.t.own) (ae m.t.FP) aqa Nat.add_zero x1 ?_
 refine⟨⟨by omega,by omega⟩,?_⟩
 refine v5 (ae m.t.own) (ae m.t.FP) aqa Nat.add_zero p1 ?_
 refine⟨⟨by omega,by omega⟩,?_⟩
 refine v5 (ae m.t.own) (ae m.t.FP) aqa Nat.add_zero p2 ?_
 rw[WI]at sp
 refine(fT sp.rd x (by omega)).mono ?_
 rintro _ H' ⟨⟨j,rfl,hj⟩,e⟩
 obtain rfl:=e.symm
 obtain⟨hj0,hj⟩:=hj.resolve_left (fun h=>h.2 Lq)
 obtain⟨k,rfl⟩:∃k:Nat,j=(k:Int):=⟨j.toNat,by omega⟩
 rw[Int.toNat_natCast]at hj
 have hkl:=(aqc.1 hj).1
 refine vs ?_
 refine⟨⟨by omega,by omega⟩,?_⟩
 refine v4 qp aqa aqd Int.toNat_natCast ?_
 refine⟨by omega,?_⟩
 refine vs ?_
 rw[hkp]at sp
 have sp1:=sp.qn qp k (i64 p)
 have Zn:ag (fun z=>z=bp) H (H.wr bp (lp.set k (i64 p))):=(ag.refl (fun z=>z=bp) _).wr (fun _=>rfl) _
 rw[←aqP,K8 (w.pr.nd p) npp hj]at sp1
 have t1:=m.t.ext Zn (Ne.symm XA) (Ne.symm Qc)
 have sx1:=sx.ext Zn (fun b hb=>(X1 b hb).2)
 generalize H.wr bp (lp.set k (i64 p))=H1 at*
 have Y4:((ch p).map (gN x p)).length=(ch p).length:=aqr ..
 have bq:∀z,z∈(ch p).map (gN x p)↔(z=p∨(z∈ch p∧z≠x)):=fun z=>by
  rw[mV]
  by_cases h1:z=x
  ·rw[h1,ol]
   exact⟨fun h=>absurd h npp,fun h=>by rcases h with h|h;exact absurd h.symm ep;exact absurd rfl h.2⟩
  ·by_cases h2:z=p
   ·rw[h2,yP];simp[Lq]
   ·rw[jv h1 h2];simp[h1,h2]
 refine(rB t1 hx sp1 (fun h=>by injection h with h;exact Qc h) (fun c hc=>?_) (by omega)).mono ?_
 ·rcases(bq c).1 hc with h|h
  ·rw[h];exact hp
  ·exact m.HU p c h.1
 rintro _ H2 ⟨l2,t2,e2⟩
 refine vs ?_
 have sx2:=sx1.ext e2 (fun b hb=>(X1 b hb).1)
 rw[hvx]at sx2
 refine(rB t2 hp sx2 (fun h=>(X1 tb h).1 rfl) (fun c hc=>m.HU x c hc) (by omega)).mono ?_
 rintro _ H3 ⟨l3,t3,e3⟩
 have Q0:=t3.len
 refine v1 (ae t3.own) ?_
 refine⟨⟨by omega,by omega⟩,?_⟩
 refine v3 t3.FP aqa Nat.add_zero ?_
 refine⟨by omega,?_⟩
 obtain⟨t4,e4⟩:=t3.aK hx (par p)
 refine vs ?_
 have PX:=t4.len
 generalize H3.wr tb (l3.set (x.toNat*2+1) (i64 (par p)))=H4 at*
 generalize l3.set (x.toNat*2+1) (i64 (par p))=l4 at*
 have wF:ag (fun z=>z=tb) H1 H4:=(e2.trans e3).trans e4
 have hpn:x≠ -1:=w.pr.ne Lq
 have gx:par p≠x:=fun e=>by
  by_cases hq:par p= -1
  ·exact hpn (by rw[←e,hq])
  ·have:=w.less (w.pr.up p _ rfl hq)
   rw[e]at this;omega
 have gpp:par p≠p:=fun e=>by
  have:=w.less (w.pr.up p p e d2)
  omega
 have t5:oo H4 fb tb n l4 (fun z=>V (gN x p z)) (KM par x p):=by
  refine t4.ail fun z h0 h1=>⟨?_,?_⟩
  ·by_cases e1:z=x
   ·rw[e1,ol];unfold vM;rw[if_neg ep.symm,if_pos rfl,WI]
   ·by_cases e2:z=p
    ·rw[e2,yP];unfold vM;rw[if_pos rfl,hvx]
    ·rw[jv e1 e2];unfold vM;rw[if_neg e2,if_neg e1]
  ·show gN x p (par (gN x p z))=(if z=x then par p else if z∈ch x then p else if z∈(ch p).map (gN x p)then x else par z)
   by_cases e1:z=x
   ·rw[if_pos e1,e1,ol,jv gx gpp]
   ·rw[if_neg e1]
    by_cases e2:z=p
    ·rw[e2,yP,d1,yP,if_neg npx,if_pos ((bq p).2 (.inl rfl))]
    ·rw[jv e1 e2]
     by_cases e3:z∈ch x
     ·rw[if_pos e3,(w.pr.dn x z e3).1,ol]
     ·rw[if_neg e3]
      by_cases e4:z∈ch p
      ·rw[if_pos ((bq z).2 (.inr ⟨e4,e1⟩)),(w.pr.dn p z e4).1,yP]
      ·rw[if_neg (fun h=>by rcases(bq z).1 h with h|h;exact e2 h;exact e4 h.1)]
       rw[jv (fun h=>e3 (w.pr.up z x h hpn)) (fun h=>e4 (w.pr.up z p h d2))]
 have hRK:∀H5:Hp,ag (fun z=>z=bp∨z=tb∨kb (par p)=some z∧par p≠ -1) H H5→RK H.size ro (fun z=>TF x p (ro z))∧(∀z,H5.size≤z→TF x p (ro z)= .no)∧ag (KB ro) H H5:=fun H5 e5=>by
  refine⟨⟨fun z ed hk=>?_,fun z y ed hy=>⟨gN x p y,by rw[hy];rfl⟩,fun z ed=>.inl (by rw[hz z ed];rfl)⟩,fun z ed=>?_,e5.mono fun z _ h=>?_⟩
  ·cases hr:ro z with
   |rH y=>exact absurd hr (hk y)
   |_=>rfl
  ·have:=e5.size
   rw[hz z (by omega)];rfl
  ·rcases h with h|h| ⟨h,hq⟩
   ·exact .inr ⟨p,by rw[h];exact WT⟩
   ·exact .inl (by rw[h];exact m.rt)
   ·obtain⟨h0,h1⟩:=Tb hq
    exact .inr ⟨par p,m.rk _ z h0 h1 h⟩
 have adG:∀z:Int,¬ (0≤z∧z<n)→G1 ch x p z=[]:=fun z ed=>by
  unfold G1
  rw[jv (fun e=>ed (by rw[e];exact hx)) (fun e=>ed (by rw[e];exact hp)),m.no z ed]
  rfl
 have hrS:∀z:Int,(0≤z∧z<n)→0≤gN x p z∧gN x p z<n:=fun z ed=>by
  by_cases e1:z=x
  ·rw[e1,ol];exact hp
  ·by_cases e2:z=p
   ·rw[e2,yP];exact hx
   ·rw[jv e1 e2];exact ed
 have WU:∀z c,c∈G1 ch x p z→0≤c∧c<n:=fun z c hc=>by
  have:=hrS _ (m.HU _ _ (mV.1 hc))
  rwa[sR]at this
 have hkd:∀z:Int,0≤z→z<n→z≠par p→Sl H4 1 (V (gN x p z)) (G1 ch x p z).length ((G1 ch x p z).map i64) (kb (gN x p z)):=fun z h0 h1 hzg=>by
  by_cases e1:z=x
  ·unfold G1
   rw[e1,ol,hkp,WI]
   rw[Y4]
   exact sp1.ext wF (fun b hb=>by injection hb with hb;omega)
  ·by_cases e2:z=p
   ·unfold G1
    rw[e2,yP,hvx,B9 nxx npx]
    exact(sx2.ext e3 (fun b hb=>(X1 b hb).1)).ext e4 (fun b hb=>(X1 b hb).1)
   ·unfold G1
    rw[jv e1 e2]
    have nx:x∉ch z:=fun h=>e2 (by rw[← (w.pr.dn z x h).1,d1])
    have np:p∉ch z:=fun h=>hzg (w.pr.dn z p h).1.symm
    rw[B9 nx np]
    refine((m.kd z h0 h1).ext Zn (fun b hb e=>?_)).ext wF (fun b hb e=>?_)
    ·have:=m.rk z b h0 h1 hb
     rw[e,WT]at this
     injection this with this
     exact e2 this.symm
    ·have:=m.rk z b h0 h1 hb
     rw[e,m.rt]at this
     cases this
 have Zo:∀ (z:Int) b,0≤z→z<n→kb (gN x p z)=some b→TF x p (ro b)= .rH z:=fun z b h0 h1 hb=>by
  obtain⟨g0,g1⟩:=hrS z ⟨h0,h1⟩
  rw[m.rk _ b g0 g1 hb]
  show Rl.rH (gN x p (gN x p z))=_
  rw[sR]
 refine ar.dec (fun h0=>?_) (fun h0=>?_)<;>refine vs ?_
 ·obtain⟨r1,r2,r3⟩:=hRK H4 ((Zn.mono fun z _ h=>.inl h).trans (wF.mono fun z _ h=>.inr (.inl h)))
  refine⟨rfl,_,l4,_,fun z=>kb (gN x p z),⟨t5,fun z g0 g1=>hkd z g0 g1 (by omega),by rw[m.rf];rfl,by rw[m.rt];rfl,Zo,WU,adG⟩,r1,r2,r3,fun z h=>by show TF x p (ro z)=_;rw[h];rfl⟩
 ·obtain⟨g0,g1⟩:=Tb h0
  have B8:=w.pr.up p _ rfl h0
  obtain⟨ig,hig,eg⟩:=ar2.1 B8
  have sg:=m.kd (par p) g0 g1
  obtain⟨bg,lg,cg,hvg,hkg,qg,qgi,anP,dI,_⟩:=Sl.VU sg (i:=ig) (x:=p) (by rw[aqb hig,eg])
  have tM:=m.rk _ bg g0 g1 hkg
  have hgt:bg≠tb:=fun e=>by rw[e,m.rt]at tM;cases tM
  have hgb:bg≠bp:=fun e=>by rw[e,WT]at tM;injection tM with tM;exact gpp tM.symm
  have hgf:bg≠fb:=fun e=>by rw[e,m.rf]at tM;cases tM
  obtain⟨a1,a2⟩:=t5.at_ _ g0 g1
  rw[jv gx gpp,hvg]at a1
  refine v1 (ae t5.own) ?_
  refine⟨⟨by omega,by omega⟩,?_⟩
  refine v4 (ae t5.FP) aqa Nat.add_zero a1 ?_
  have qg4:=wF.own (Zn.own qg hgb) hgt
  have sg4:Sl H4 1 (.slice (some ⟨bg,0,none⟩) (ch (par p)).length cg) (ch (par p)).length ((ch (par p)).map i64) (some bg):=by
   rw[hvg,hkg]at sg
   exact(sg.ext Zn (fun b hb=>by injection hb with hb;omega)).ext wF (fun b hb=>by injection hb with hb;omega)
  have anR:=tQ (par p)
  refine(fT sg4.rd p (by omega)).mono ?_
  rintro _ H' ⟨⟨j,rfl,hj⟩,e⟩
  obtain rfl:=e.symm
  obtain⟨hj0,hj⟩:=hj.resolve_left (fun h=>h.2 B8)
  obtain⟨k,rfl⟩:∃k:Nat,j=(k:Int):=⟨j.toNat,by omega⟩
  rw[Int.toNat_natCast]at hj
  have hkl:=(aqc.1 hj).1
  refine vs ?_
  refine⟨⟨by omega,by omega⟩,?_⟩
  refine v4 qg4 aqa aqd Int.toNat_natCast ?_
  refine⟨by omega,?_⟩
  refine vs ?_
  have sg5:=sg4.qn qg4 k (i64 x)
  have e5:ag (fun z=>z=bg) H4 (H4.wr bg (lg.set k (i64 x))):=(ag.refl (fun z=>z=bg) _).wr (fun _=>rfl) _
  have nxg:x∉ch (par p):=fun h=>gpp (by rw[← (w.pr.dn _ x h).1,d1])
  have TG:(ch (par p)).map (gN p x)=(ch (par p)).map (gN x p):=ar7 fun c _=>by
   unfold gN
   by_cases e1:c=x
   ·rw[if_neg (fun e=>ep (by rw[←e,e1])),if_pos e1,if_pos e1]
   ·by_cases e2:c=p
    ·rw[if_pos e2,if_neg e1,if_pos e2]
    ·rw[if_neg e2,if_neg e1,if_neg e1,if_neg e2]
  rw[←aqP,K8 (w.pr.nd _) nxg hj,TG]at sg5
  obtain⟨r1,r2,r3⟩:=hRK _ (((Zn.mono fun z _ h=>.inl h).trans (wF.mono fun z _ h=>.inr (.inl h))).trans (e5.mono fun z _ h=>.inr (.inr ⟨by rw[h];exact hkg,h0⟩)))
  refine⟨rfl,_,l4,_,fun z=>kb (gN x p z),⟨t5.ext e5 (fun e=>hgf e.symm) (fun e=>hgt e.symm),fun z q0 q1=>?_,by rw[m.rf];rfl,by rw[m.rt];rfl,Zo,WU,adG⟩,r1,r2,r3,fun z h=>by show TF x p (ro z)=_;rw[h];rfl⟩
  by_cases hzg:z=par p
  ·unfold G1
   rw[hzg,jv gx gpp,hvg,hkg,aqr]
   exact sg5
  ·refine(hkd z q0 q1 hzg).ext e5 (fun b hb e=>?_)
   have h7:=Zo z b q0 q1 hb
   rw[e,tM]at h7
   have h8:Rl.rH (gN x p (par p))= .rH z:=h7
   injection h8 with h8
   rw[jv gx gpp]at h8
   exact hzg h8.symm
end
end Go.Proofs.YthpjfeolagohkaaGreat

namespace Go.Proofs.YthpjfeolagohkaaGreat
open Go Go.Vc
def I8(H:Hp)(v:Value)(xs:List Int)(nb:Option Nat):Prop:=
 ∃a c,v= .slice a xs.length c∧xs.length≤c∧(c=0∨∃b o l,a=some ⟨b,o,none⟩∧nb=some b∧H.own b=some l∧o+c≤l.length∧(l.drop o).take xs.length=xs.map i64)
section
variable {H H' : Hp} {ro ro' : Nat → Rl} {B : Nat} {v : Value} {xs : List Int} {T : Nat → Prop} {nb : Option Nat}
theorem I8.nil(H:Hp)(nb:Option Nat):I8 H (.slice none 0 0) [] nb:=⟨none,0,rfl,aqm _,.inl rfl⟩
theorem I8.rd(h:I8 H v xs nb):db H 1 v xs.length (xs.map i64):=by
 obtain⟨a,c,rfl,hc,h⟩:=h
 refine⟨by simp,?_⟩
 rcases h with rfl| ⟨b,o,l,rfl,_,h1,h2,h3⟩
 ·exact .inl ⟨by omega,a,0,by rw[show xs.length=0 by omega]⟩
 ·exact .inr ⟨b,o,c,l,rfl,ae h1,by omega,by rw[aqd];exact h3⟩
theorem I8.ext(h:I8 H v xs nb)(e:ag T H H')(hT:∀z,nb=some z→¬T z):I8 H' v xs nb:=by
 obtain⟨a,c,hv,hc,h⟩:=h
 exact⟨a,c,hv,hc,h.imp_right fun⟨b,o,l,h1,h2,h3,h4⟩=>⟨b,o,l,h1,h2,e.own h3 (hT b h2),h4⟩⟩
theorem I8.cap(h:I8 H v xs nb):∃a c,v= .slice a xs.length c∧xs.length≤c:=by
 obtain⟨a,c,hv,hc,_⟩:=h
 exact⟨a,c,hv,hc⟩
theorem I8.lit{T:TypeId}(x:Int):I8 (H.new T [i64 x]) (.slice (some ⟨H.size,0,none⟩) 1 1) [x] (some H.size):=
 ⟨_,1,rfl,aqm _,.inr ⟨H.size,0,[i64 x],rfl,rfl,az _ _ _,by simp,rfl⟩⟩
theorem I8.tail{x:Int}{a:Option Addr}{c:Nat}(h:I8 H (.slice a (x::xs).length c) (x::xs) nb)(Q9:Decidable ((c:Int)=1)):
  I8 H (.slice (@ite (Option Addr) ((c:Int)=1) Q9 a (Option.map (fun(y:Addr)=>y.add (Int.toNat 1*1)) a)) (((xs.length+1:Nat):Int).toNat - Int.toNat 1) ((c:Int).toNat - Int.toNat 1)) xs nb:=by
 rw[show((xs.length+1:Nat):Int).toNat - Int.toNat 1=xs.length by simp,show(c:Int).toNat - Int.toNat 1=c - 1 by simp]
 obtain⟨a',c',hv,hc,h⟩:=h
 injection hv with e1 e2 e3
 subst e1 e3
 rw[aqx]at hc
 refine⟨_,c - 1,rfl,by omega,?_⟩
 by_cases h1:(c:Int)=1
 ·exact .inl (by omega)
 ·rw[if_neg h1]
  rcases h with h| ⟨b,o,l,rfl,h2,h3,h4,h5⟩
  ·omega
  ·refine .inr ⟨b,o+1,l,rfl,h2,h3,by omega,?_⟩
   rw[aqx,aqY]at h5
   have h6:(l.drop (o+1))=(l.drop o).drop 1:=by rw[ar3]
   rw[h6,List.take_drop,Nat.add_comm,h5]
   rfl
theorem I8.push{K:Value→Hp→Prop}{T:TypeId}(h:I8 H v xs nb)(x:Int)(hl:xs.length≤1000000)
  (hk:∀w' H' JQ,(JQ=nb∨∃z,JQ=some z∧H.size≤z∧z<H'.size)→I8 H' w' (xs++[x]) JQ→ag (fun z=>nb=some z) H H'→K w' H'):
  fA T 1 8 [i64 0] v (.slice (some ⟨H.size,0,none⟩) 1 1) (H.new T [i64 x]) K:=by
 have fl:ah H (H.new T [i64 x]):=(ag.refl _ _).new _ _
 have h1:=h.rd.fresh fl
 obtain⟨a,c,rfl,hc,h⟩:=h
 have hx:db (H.new T [i64 x]) 1 (.slice (some ⟨H.size,0,none⟩) 1 1) 1 [i64 x]:=(Sl.bU (size:=1) (n:=1) (xs:=[i64 x]) rfl rfl).rd
 refine db.rowOf hx (F:=fun m new=>(xs.length+m≤c→m=0→K (.slice a xs.length c) (H.new T [i64 x]))∧
  (xs.length+m≤c→m≠0→uQ a fun b o=>aE (Kb ((H.new T [i64 x]).own b) ((H.new T [i64 x]).CG b)) fun l=>dO (o+(xs.length+m)*1≤l.length∧gJ new) (K (.slice a (xs.length+m) c) ((H.new T [i64 x]).wr b (bh l (o+xs.length*1) new))))∧
  (c<xs.length+m→Builtin.nextslicecap (xs.length+m) c*8≤2^48∧
   rowOf (H.new T [i64 x]) 1 (.slice a xs.length c) fun _ R6=>∀c',xs.length+m≤c'→K (.slice (some ⟨(H.new T [i64 x]).size,0,none⟩) (xs.length+m) c') ((H.new T [i64 x]).new T (R6++new++aV [i64 0] (c' - (xs.length+m)))))) ?_
 refine⟨fun _ h=>absurd h (by omega),fun oP _=>?_,fun aN=>⟨?_,?_⟩⟩
 ·rcases h with rfl| ⟨b,o,l,rfl,h2,h3,h4,h5⟩
  ·omega
  ·have Uf:=fl.own h3 (fun h=>h)
   show aE (Kb ((H.new T [i64 x]).own b) ((H.new T [i64 x]).CG b)) _
   rw[Uf]
   refine⟨⟨by omega,fun v hv=>by rw[aql.1 hv];rfl⟩,?_⟩
   have o8:(xs++[x]).length=xs.length+1:=by simp
   have e2:ag (fun z=>z=b) (H.new T [i64 x]) ((H.new T [i64 x]).wr b (bh l (o+xs.length*1) [i64 x])):=(ag.refl (fun z=>z=b) _).wr (fun _=>rfl) _
   refine hk _ _ nb (.inl rfl) ⟨some ⟨b,o,none⟩,c,by rw[o8],by rw[o8];exact oP,.inr ⟨b,o,bh l (o+xs.length*1) [i64 x],rfl,h2,ai Uf,by rw[kA];exact h4,?_⟩⟩ ((fl.mono fun _ _ h=>h.elim).trans (e2.mono fun z _ e=>by rw[e];exact h2))
   rw[aqd]
   apply aqX
   intro k
   rw[aqy,o8]
   by_cases hk:k<xs.length+1
   ·rw[aqF hk,aqJ,getElem?_splice [i64 x] l _ _ (by simp;omega)]
    by_cases J0:k<xs.length
    ·rw[if_neg (by omega),aqs (by simpa using J0),←h5,aqF J0,aqJ]
    ·have:k=xs.length:=by omega
     rw[if_pos (by simp;omega),aqD (by simp;omega),this]
     simp
   ·rw[aqo (by simp;omega),aqo (by simp;omega)]
 ·have h2:Builtin.nextslicecap (xs.length+1) c≤2*(xs.length+1):=nextslicecap_le aN
  have h3:=ary 8 h2
  omega
 ·refine db.rowOf (n:=xs.length) (xs:=xs.map i64) h1 ?_
  intro c' NF
  have QJ:(H.new T [i64 x]).size=H.size+1:=am _ _ _
  refine hk _ _ (some (H.new T [i64 x]).size) (.inr ⟨_,rfl,by omega,by simp only[am];omega⟩) ⟨_,c',by simp,by simpa using NF,.inr ⟨(H.new T [i64 x]).size,0,_,rfl,rfl,az _ _ _,?_,?_⟩⟩ ((fl.mono fun _ _ h=>h.elim).trans ((ag.refl _ _).new _ _))
  ·simp only[aqj,aqr,Em,aqn,aqd]
   omega
  ·rw[asi,aqy]
   exact List.take_left' (by simp)
theorem RK.low{s s':Nat}(r:RK s' ro ro')(hs:s≤s')(hz:∀z,s≤z→ro z= .no):RK s ro ro':=(RK.refl hz).trans r hs
theorem RK.none{s:Nat}(r:RK s ro ro'){z:Nat}(hz:z<s)(h:ro z= .no):ro' z= .no:=by
 rw[r.o z hz (fun x e=>by rw[h]at e;cases e),h]
end
section
variable {H H' : Hp} {ro ro' : Nat → Rl} {fb tb nn c : Nat} {l : List Value} {V : Int → Value} {ch : Int → List Int} {par : Int → Int} {kb : Int → Option Nat} {C : Nat → Prop} {w : Nw} {lt : Int → Int → Bool} {rows : Int → List Int} {W : List Int}
theorem iS.Tt{hm:Int→Int}(f:iS (aG w) lt ch par rows W){x:Int}(hx:x∈W):0≤x∧x<w.cs.length:=by
 obtain⟨a,b,_⟩:=aF (f.wm x hx).2
 exact⟨a,b⟩
def KC(ro:Nat→Rl)(z:Nat):Prop:=KB ro z∨ro z= .cell
theorem Fz(m:ForM H ro fb tb w.cs.length l V ch par kb)(hz:∀z,H.size≤z→ro z= .no)(hn:∃rest,H.own nn=some (ptr c::rest))(cq:CQ H c C w)(hC:∀z,C z→ro z= .cell)(aN:∀a b,aQ w a b=true→lt a b=true)
  {x y:Int}(f:iS (aG w) lt ch par rows (x::y::W))(hh:aG w x=aG w y)(hd:(ch x).length=(ch y).length):
  af Tryz.prog xa [ptr fb,.iface 154 (ptr nn),i64 x,i64 y] H fun v H'=>ax (∃p q ro' l' V' ri,v=i64 p∧((p=x∧q=y)∨(p=y∧q=x))∧ForM H' ro' fb tb w.cs.length l' V' (aA ch p (ch p++[q])) (aK par q p) ri∧
   iS (aG w) lt (aA ch p (ch p++[q])) (aK par q p) rows (p::W)∧CQ H' c C w∧RK H.size ro ro'∧(∀z,H'.size≤z→ro' z= .no)∧ag (KC ro) H H'):=by
 have vO:=f.Tt (hm:=aG w) (x:=x) (by simp)
 have hyr:=f.Tt (hm:=aG w) (x:=y) (by simp)
 obtain⟨x1,x2⟩:=f.wm x (by simp)
 obtain⟨y1,y2⟩:=f.wm y (by simp)
 have Lh:x≠y:=fun e=>by have:=f.wn;rw[e]at this;simp at this
 have xW:=cq.Fe
 have UH:(ch x).length≤w.cs.length:=cf (f.pr.nd x) fun c hc=>m.HU x c hc
 obtain⟨rest,ho⟩:=hn
 refine bm xF ?_
 refine vs ?_
 refine⟨_,_,cT,ptr c,rfl,fW (off:=0) (by kernel_rfl) (ae ho) rfl,(cN cq y x).mono ?_⟩
 rintro _ H1 ⟨rfl,c1,e1⟩
 have m1:=m.ext e1 (fun z ed h=>by
  have:=hC z h
  rcases ed with h2|h2| ⟨_,h2⟩<;>(rw[this]at h2;cases h2))
 have z1:=e1.size
 have Np:∀z,H1.size≤z→ro z= .no:=fun z h=>hz z (by omega)
 rw[gX (w:=w) (a:=y) (b:=x) y2 x2]
 cases oJ:aQ w y x
 ·refine vs ?_
  have hl:=aN _ _ (((aw w).PA x y Lh).resolve_right (by rw[oJ];simp))
  refine(tK m1 Np vO hyr x1 y1 Lh hd (by omega)).mono ?_
  rintro _ H2 ⟨rfl,oL,l2,V2,EB,m2,r2,ed,e2⟩
  refine vs ?_
  refine⟨x,y,oL,l2,V2,EB,rfl,.inl ⟨rfl,rfl⟩,m2,f.link hh hd hl,c1.ext e2 (fun z h hk=>?_),r2.low z1 hz,ed,(e1.mono fun z _ h=>.inr (hC z h)).trans (e2.mono fun z _ h=>.inl h)⟩
  have:=hC z h
  rcases hk with h2| ⟨_,h2⟩<;>(rw[this]at h2;cases h2)
 ·refine vs ?_
  have hl:=aN _ _ oJ
  refine(tK m1 Np hyr vO y1 x1 Lh.symm hd.symm (by omega)).mono ?_
  rintro _ H2 ⟨rfl,oL,l2,V2,EB,m2,r2,ed,e2⟩
  refine vs ?_
  refine⟨y,x,oL,l2,V2,EB,rfl,.inr ⟨rfl,rfl⟩,m2,(f.perm (List.Perm.swap ..)).link hh.symm hd.symm hl,c1.ext e2 (fun z h hk=>?_),r2.low z1 hz,ed,(e1.mono fun z _ h=>.inr (hC z h)).trans (e2.mono fun z _ h=>.inl h)⟩
  have:=hC z h
  rcases hk with h2| ⟨_,h2⟩<;>(rw[this]at h2;cases h2)
end
end Go.Proofs.YthpjfeolagohkaaGreat

namespace Go.Proofs.YthpjfeolagohkaaGreat
open Go Go.Vc
def FT(H:Hp)(ro:Nat→Rl)(B:Nat)(v:Value)(xs:List Int):Prop:=
 ∃a c,v= .slice a xs.length c∧xs.length≤c∧(xs=[]∨∃b o l,a=some ⟨b,o,none⟩∧b<B∧¬KC ro b∧H.rd b=some l∧o+xs.length≤l.length∧(l.drop o).take xs.length=xs.map i64)
section
variable {H H' H0 : Hp} {ro ro' Zp : Nat → Rl} {B : Nat} {v : Value} {xs : List Int} {T : Nat → Prop}
theorem FT.rd(h:FT H ro B v xs):db H 1 v xs.length (xs.map i64):=by
 obtain⟨a,c,rfl,hc,h⟩:=h
 refine⟨by simp,?_⟩
 rcases h with rfl| ⟨b,o,l,rfl,_,_,h1,h2,h3⟩
 ·exact .inl ⟨rfl,a,c,rfl⟩
 ·exact .inr ⟨b,o,c,l,rfl,h1,by omega,by rw[aqd];exact h3⟩
theorem FT.ext(h:FT H ro B v xs)(e:ag T H H')(hT:∀z,z<B→¬KC ro z→¬T z)(hr:∀z,z<H.size→KC ro' z→KC ro z):FT H' ro' B v xs:=by
 obtain⟨a,c,hv,hc,h⟩:=h
 exact⟨a,c,hv,hc,h.imp_right fun⟨b,o,l,h1,h2,h3,h4,h5⟩=>⟨b,o,l,h1,h2,fun h=>h3 (hr b (Pv h4) h),e.rd h4 (hT b h2 h3),h5⟩⟩
theorem FT.tail{x:Int}{a:Option Addr}{c:Nat}(h:FT H ro B (.slice a (x::xs).length c) (x::xs))(Q9:Decidable ((c:Int)=1)):
  FT H ro B (.slice (@ite (Option Addr) ((c:Int)=1) Q9 a (Option.map (fun(y:Addr)=>y.add (Int.toNat 1*1)) a)) (((xs.length+1:Nat):Int).toNat - Int.toNat 1) ((c:Int).toNat - Int.toNat 1)) xs:=by
 rw[show((xs.length+1:Nat):Int).toNat - Int.toNat 1=xs.length by simp,show(c:Int).toNat - Int.toNat 1=c - 1 by simp]
 obtain⟨a',c',hv,hc,h⟩:=h
 injection hv with e1 e2 e3
 subst e1 e3
 rw[aqx]at hc
 refine⟨_,c - 1,rfl,by omega,?_⟩
 by_cases h1:(c:Int)=1
 ·exact .inl (aqN.1 (by omega))
 ·rw[if_neg h1]
  rcases h with h| ⟨b,o,l,rfl,h2,h3,h4,h5,h6⟩
  ·cases h
  ·rw[aqx]at h5 h6
   refine .inr ⟨b,o+1,l,rfl,h2,h3,h4,by omega,?_⟩
   rw[aqY]at h6
   have h7:(l.drop (o+1))=(l.drop o).drop 1:=by rw[ar3]
   rw[h7,List.take_drop,Nat.add_comm,h6]
   rfl
theorem FT.head{x:Int}(h:FT H ro B v (x::xs)):∃b o l c,v= .slice (some ⟨b,o,none⟩) (x::xs).length c∧H.rd b=some l∧b<H.size∧l[o]? =some (i64 x)∧(x::xs).length≤c:=by
 obtain⟨a,c,hv,hc,h⟩:=h
 rcases h with h| ⟨b,o,l,rfl,h2,h3,h4,h5,h6⟩
 ·cases h
 ·refine⟨b,o,l,c,hv,h4,Pv h4,?_,hc⟩
  have h7:((x::xs).map i64)[0]? =some (i64 x):=rfl
  rw[←h6,aqG,if_pos (by simp),aqJ]at h7
  exact h7
theorem FT.cap(h:FT H ro B v xs):∃a c,v= .slice a xs.length c∧xs.length≤c:=by
 obtain⟨a,c,hv,hc,_⟩:=h
 exact⟨a,c,hv,hc⟩
theorem RK.kcs{s:Nat}(r:RK s ro ro'){z:Nat}(hz:z<s)(h:KC ro' z):KC ro z:=by
 rcases h with h|h
 ·exact .inl (r.kbs hz h)
 ·refine .inr ?_
  by_cases hk:∃x,ro z= .rH x
  ·obtain⟨x,hx⟩:=hk
   obtain⟨y,hy⟩:=r.k z x hz hx
   rw[hy]at h;cases h
  ·rw[←r.o z hz (fun x hx=>hk ⟨x,hx⟩)];exact h
structure pW(H0:Hp)(Zp:Nat→Rl)(nn fb tb c:Nat)(C:Nat→Prop)(w:Nw)(H:Hp)(ro:Nat→Rl)(l:List Value)(V:Int→Value)(ch:Int→List Int)(par:Int→Int)(kb:Int→Option Nat)(va vb:Value)(a b:List Int):Prop where
 m:ForM H ro fb tb w.cs.length l V ch par kb
 cq:CQ H c C w
 hC:∀z,C z→ro z= .cell
 own:∃rest,H.own nn=some (ptr c::rest)
 hn:ro nn= .Tc
 hz:∀z,H.size≤z→ro z= .no
 rk:RK H0.size Zp ro
 ra:FT H ro H0.size va a
 rb:FT H ro H0.size vb b
 e:ag (KC Zp) H0 H
variable {nn fb tb c : Nat} {C : Nat → Prop} {w : Nw} {l : List Value} {V : Int → Value} {ch : Int → List Int} {par : Int → Int} {kb : Int → Option Nat} {va vb : Value} {a b : List Int}
theorem pW.VV(h:pW H0 Zp nn fb tb c C w H ro l V ch par kb va vb a b)(e:ag T H H')(hT:∀z,T z→H0.size≤z∧ro z= .no):pW H0 Zp nn fb tb c C w H' ro l V ch par kb va vb a b:=by
 have bO:∀z r,ro z=r→r≠ .no→¬T z:=fun z r h1 h2 ht=>h2 (by rw[←h1,(hT z ht).2])
 obtain⟨rest,ho⟩:=h.own
 have hs:=e.size
 refine⟨h.m.ext e (fun z hz=>?_),h.cq.ext e (fun z hz=>bO z _ (h.hC z hz) (by intro h;cases h)),h.hC,⟨rest,e.own ho (bO nn _ h.hn (by intro h;cases h))⟩,h.hn,fun z hz=>h.hz z (by omega),h.rk,
  h.ra.ext e (fun z hz _ ht=>by have:=(hT z ht).1;omega) (fun _ _ h=>h),h.rb.ext e (fun z hz _ ht=>by have:=(hT z ht).1;omega) (fun _ _ h=>h),?_⟩
 ·rcases hz with h1|h1| ⟨x,h1⟩<;>exact bO z _ h1 (by intro h;cases h)
 ·exact⟨aqW h.e.size e.size,fun z hz hn=>by
   rw[e.aM z (aqw hz h.e.size) (fun ht=>by have:=(hT z ht).1;omega),h.e.aM z hz hn]⟩
end
end Go.Proofs.YthpjfeolagohkaaGreat
