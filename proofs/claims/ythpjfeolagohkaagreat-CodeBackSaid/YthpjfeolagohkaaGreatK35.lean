/- Texts put behind each other. -/
import Derived.Test.YthpjfeolagohkaaGreatK98
import Derived.Test.YthpjfeolagohkaaGreatK3
import Derived.Test.YthpjfeolagohkaaGreatK29
import Derived.Test.YthpjfeolagohkaaGreatK34
set_option maxRecDepth 100000
set_option maxHeartbeats 8000000
set_option linter.unusedVariables false
set_option linter.unusedSimpArgs false
namespace Go.Proofs.YthpjfeolagohkaaGreat
open Go Go.Vc
section
variable {H H' : Hp} {B : FB} {C V : Nat → Prop} {w : Nw} {N P : List Int} {L : List Pc} {tops : List Int} {ch : Int → List Int} {par : Int → Int} {au : Int → List Int} {W : List Int}
theorem Bo(m:bP H B C w N P L tops){lt:Int→Int→Bool}(hs:bk lt){x p g t:Int}{A:List Int}(f:dV (aE w) lt (bZ N) ch par au W)(hp:KE (eE L) ch par)(hx:x∈ch p)(hg:aE w x=g)(dq:g<tops.length)(hr:au g=t::A)(ht:bf tops g=t):
  af Tryz.prog tZ [ptr B.n,i64 g,i64 x] H fun v H'=>ar (∃N' P' L' l,bP H' B C w N' P' L' tops∧dV (aE w) lt (bZ N') (ax ch p l) (aJ par x (-1)) (ax au g (t::x::A)) W∧KE (eE L') (ax ch p l) (aJ par x (-1))∧(ch p).Perm (x::l)∧
   ag (fun z=>z=B.nb∨z=B.pb∨z=B.tb) H H'):=by
 obtain⟨x1,x2,x3,x4,x5⟩:=f.pr.dn p x hx
 have dZ:p≠x:=fun e=>by rw[e,hs.BT]at x5;cases x5
 have uN:=f.G2 hx
 obtain⟨p0,p1,_⟩:=aC (w:=w) (x:=p) (by omega)
 have aR:=m.len
 have wY:=m.cells.Er
 have tD:(ch p).length≤w.cs.length:=bU (f.pr.nd p) fun c hc=>f.G2 hc
 obtain⟨l,tC,KD⟩:=(f.cy p).from hx
 have gU:=tC.nodup_iff.1 (f.pr.nd p)
 have jx:(ch p).length=l.length+1:=by rw[tC.length_eq,aoI]
 have f1:=f.ab0 tC KD
 have AW:ax ch p (x::l) p=x::l:=by unfold ax;rw[if_pos rfl]
 obtain⟨ux,_,_⟩:=hp x
 obtain⟨up,kp,dp⟩:=hp p
 rw[x1]at ux
 have htr:=f.rin (g:=g) (x:=t) (by rw[hr];simp)
 have SX:=(f.rm g t (by rw[hr];simp)).2.2.1
 obtain⟨cc,ltp,o1,q1,_⟩:=m.fR
 obtain⟨a0,a1,a2,a3,a4⟩:=m.rd uN
 obtain⟨b0,b1,b2,b3,b4⟩:=m.rd (x:=p) ⟨p0,p1⟩
 rw[ux]at a1
 rw[dp]at b3
 refine aZ uo ?_
 refine v1 (ae o1) ?_
 refine⟨⟨by omega,by omega⟩,?_⟩
 refine v4 (ae m.places) aor Nat.add_zero a1 ?_
 refine⟨⟨by omega,by omega⟩,?_⟩
 refine v4 (ae m.places) m.places aor b3 ?_
 rw[wrap64 (by omega) (by omega)]
 obtain⟨L2,k2,m2,e2⟩:=m.Yr (x:=p) ⟨p0,p1⟩ (((ch p).length:Int) - 1)
 refine⟨by omega,?_⟩
 refine vs ?_
 generalize H.wr B.tb ((aI L).set (p.toNat*4+2) (i64 (((ch p).length:Int) - 1)))=H2 at*
 obtain⟨c0,_⟩:=m2.rd (x:=p) ⟨p0,p1⟩
 obtain⟨L3,k3,m3,e3⟩:=m2.ez (x:=p) ⟨p0,p1⟩ (-1)
 refine v2 m2.places aor ?_
 refine⟨by omega,?_⟩
 refine vs ?_
 generalize H2.wr B.tb ((aI L2).set (p.toNat*4+1) (Value.int .i64 (-1)))=H3 at*
 obtain⟨cc3,lt3,o3,q3,_⟩:=m3.fR
 refine v1 (ae o3) ?_
 refine(Gt m3.ring (x:=x) (by omega)).mono ?_
 rintro _ H' ⟨rfl,e⟩
 obtain rfl:=e.symm
 refine vs ?_
 have Ex:ag (fun z=>z=B.nb∨z=B.pb∨z=B.tb) H H3:=(e2.mono fun z _ h=>.inr (.inr h)).trans (e3.mono fun z _ h=>.inr (.inr h))
 have Yh:l=[]∨∃A0 y,l=A0++[y]:=by
  rcases List.eq_nil_or_concat l with h| ⟨A0,y,h⟩
  ·exact .inl h
  ·exact .inr ⟨A0,y,by rw[h,List.concat_eq_append]⟩
 rcases Yh with rfl| ⟨A0,y,rfl⟩
 ·have ET:bZ N x=x:=KD
  rw[ET]
  refine ai.bI (by simp) ?_
  refine vs ?_
  have m4:=m3
  have zB:=Ex
  obtain⟨L4,eL⟩:∃L4,L4=L3:=⟨_,rfl⟩
  rw[←eL]at m4 k3
  have k4x:eE L4 x=eE L x:=by rw[k3,k2];unfold mw;rw[if_neg dZ.symm,if_neg dZ.symm]
  have k4p:eE L4 p=⟨(eE L p).u, -1,((ch p).length:Int) - 1,(eE L p).m⟩:=by rw[k3,k2];unfold mw;rw[if_pos rfl,if_pos rfl]
  have k4o:∀z,z≠p→eE L4 z=eE L z:=fun z hz=>by rw[k3,k2];unfold mw;rw[if_neg hz,if_neg hz]
  have UJ:∀ {N5:List Int},bZ N5=uP (bZ N) x (bZ P x)→dV (aE w) lt (bZ N5) (ax ch p []) (aJ par x (-1)) au (x::W):=fun h=>by
   rw[h]
   have hpv:bZ P x=x:=by
    have:=m.inv.pn x
    rwa[ET]at this
   rw[hpv,Md]
   have f2:=f1.af2 AW
   rwa[eD]at f2
  obtain⟨cc4,lt4,o4,q4,_⟩:=m4.fR
  refine v1 (ae o4) ?_
  refine(nB m4.ring m4.inv (x:=x) (by omega)).mono ?_
  rintro _ H5 ⟨rfl,N5,P5,r5,l5,n5,i5,e5⟩
  have m5:=m4.uT r5 i5 e5 l5
  have f5:=UJ n5
  obtain⟨cc5,lt5,o5,q5,_⟩:=m5.fR
  have hl5:=m5.len
  refine v1 (ae o5) ?_
  refine⟨⟨by omega,by omega⟩,?_⟩
  obtain⟨d0,_⟩:=m5.rd uN
  obtain⟨L6,k6,m6,e6⟩:=m5.aJ uN (-1)
  refine v3 m5.places aor Nat.add_zero ?_
  refine⟨by omega,?_⟩
  refine vs ?_
  generalize H5.wr B.tb ((aI L4).set (x.toNat*4) (Value.int .i64 (-1)))=H6 at*
  have hl6:=m6.len
  refine⟨⟨by omega,by omega⟩,?_⟩
  obtain⟨g0,_⟩:=m6.rd uN
  obtain⟨L7,k7,m7,e7⟩:=m6.cT uN false
  refine v3 m6.places aor Nat.add_zero ?_
  refine⟨by omega,?_⟩
  refine vs ?_
  generalize H6.wr B.tb ((aI L6).set (x.toNat*4+3) (Value.bool false))=H7 at*
  obtain⟨cc7,lt7,o7,q7,_⟩:=m7.fR
  have q8:=m7.eR q7 (dU (tops:=tops) (h:=g) (by omega) dq)
  rw[ht]at q8
  have hl7:=m7.len
  refine v1 (ae o7) ?_
  refine⟨⟨by omega,by omega⟩,?_⟩
  refine v4 (ae q7) aor aos q8 ?_
  refine(dt m7.ring m7.inv (x:=t) (y:=x) (by omega) (by omega)).mono ?_
  rintro _ H8 ⟨rfl,N8,P8,r8,l8,n8,i8,e8⟩
  have m8:=m7.uT r8 i8 e8 l8
  have f8:=f5.SU (t:=t) (A:=A) (by rw[hg];exact hr)
  rw[hg,←n8]at f8
  refine vs ?_
  refine⟨N8,P8,L7,[],m8,f8,fun z=>?_,tC,(((zB.trans (e5.mono fun z _ h=>h.elim .inl fun h=>.inr (.inl h))).trans (e6.mono fun z _ h=>.inr (.inr h))).trans (e7.mono fun z _ h=>.inr (.inr h))).trans (e8.mono fun z _ h=>h.elim .inl fun h=>.inr (.inl h))⟩
  rw[k7,k6]
  obtain⟨uz,kz,dz⟩:=hp z
  by_cases h1:z=x
  ·rw[h1]
   rw[h1]at kz dz
   unfold mw aJ ax
   simp only[if_true,if_neg dZ.symm,k4x]
   exact⟨trivial,kz,dz⟩
  ·unfold mw aJ ax
   simp only[if_neg h1]
   by_cases h2:z=p
   ·rw[h2]
    simp only[if_true,if_neg dZ,k4p]
    refine⟨up,rfl,?_⟩
    rw[jx];simp
   ·simp only[if_neg h2,k4o z h2]
    exact⟨uz,kz,dz⟩
 ·have Vb:bZ N x=(A0++[y]).headD (-1):=by
   cases A0 with
   |nil=>exact KD.1
   |cons a A0=>exact KD.1
  have ET:bZ N x≠x:=fun e=>by
   have h1:=(aoR.1 gU).1
   apply h1
   rw[e]at Vb
   cases A0 with
   |nil=>rw[Vb];simp
   |cons a A0=>rw[Vb];simp
  refine ai.dec (fun h=>absurd h ET) (fun _=>?_)
  obtain⟨r0,_⟩:=m3.rd (x:=p) ⟨p0,p1⟩
  obtain⟨L4,k4,m4,e4⟩:=m3.ez (x:=p) ⟨p0,p1⟩ (bZ N x)
  refine v2 m3.places aor ?_
  refine⟨by omega,?_⟩
  refine vs ?_
  generalize H3.wr B.tb ((aI L3).set (p.toNat*4+1) (i64 (bZ N x)))=H4 at*
  have zB:=Ex.trans (e4.mono fun z _ h=>.inr (.inr h))
  have k4x:eE L4 x=eE L x:=by rw[k4,k3,k2];unfold mw;rw[if_neg dZ.symm,if_neg dZ.symm,if_neg dZ.symm]
  have k4p:eE L4 p=⟨(eE L p).u,bZ N x,((ch p).length:Int) - 1,(eE L p).m⟩:=by rw[k4,k3,k2];unfold mw;rw[if_pos rfl,if_pos rfl,if_pos rfl]
  have k4o:∀z,z≠p→eE L4 z=eE L z:=fun z hz=>by rw[k4,k3,k2];unfold mw;rw[if_neg hz,if_neg hz,if_neg hz]
  have UJ:∀ {N5:List Int},bZ N5=uP (bZ N) x (bZ P x)→dV (aE w) lt (bZ N5) (ax ch p (A0++[y])) (aJ par x (-1)) au (x::W):=fun h=>by
   rw[h]
   have hpv:bZ P x=y:=qe.last (A:=A0) m.inv KD
   rw[hpv]
   have f2:=f1.off (A:=A0) (y:=y) AW
   rwa[eD]at f2
  obtain⟨cc4,lt4,o4,q4,_⟩:=m4.fR
  refine v1 (ae o4) ?_
  refine(nB m4.ring m4.inv (x:=x) (by omega)).mono ?_
  rintro _ H5 ⟨rfl,N5,P5,r5,l5,n5,i5,e5⟩
  have m5:=m4.uT r5 i5 e5 l5
  have f5:=UJ n5
  obtain⟨cc5,lt5,o5,q5,_⟩:=m5.fR
  have hl5:=m5.len
  refine v1 (ae o5) ?_
  refine⟨⟨by omega,by omega⟩,?_⟩
  obtain⟨d0,_⟩:=m5.rd uN
  obtain⟨L6,k6,m6,e6⟩:=m5.aJ uN (-1)
  refine v3 m5.places aor Nat.add_zero ?_
  refine⟨by omega,?_⟩
  refine vs ?_
  generalize H5.wr B.tb ((aI L4).set (x.toNat*4) (Value.int .i64 (-1)))=H6 at*
  have hl6:=m6.len
  refine⟨⟨by omega,by omega⟩,?_⟩
  obtain⟨g0,_⟩:=m6.rd uN
  obtain⟨L7,k7,m7,e7⟩:=m6.cT uN false
  refine v3 m6.places aor Nat.add_zero ?_
  refine⟨by omega,?_⟩
  refine vs ?_
  generalize H6.wr B.tb ((aI L6).set (x.toNat*4+3) (Value.bool false))=H7 at*
  obtain⟨cc7,lt7,o7,q7,_⟩:=m7.fR
  have q8:=m7.eR q7 (dU (tops:=tops) (h:=g) (by omega) dq)
  rw[ht]at q8
  have hl7:=m7.len
  refine v1 (ae o7) ?_
  refine⟨⟨by omega,by omega⟩,?_⟩
  refine v4 (ae q7) aor aos q8 ?_
  refine(dt m7.ring m7.inv (x:=t) (y:=x) (by omega) (by omega)).mono ?_
  rintro _ H8 ⟨rfl,N8,P8,r8,l8,n8,i8,e8⟩
  have m8:=m7.uT r8 i8 e8 l8
  have f8:=f5.SU (t:=t) (A:=A) (by rw[hg];exact hr)
  rw[hg,←n8]at f8
  refine vs ?_
  refine⟨N8,P8,L7,(A0++[y]),m8,f8,fun z=>?_,tC,(((zB.trans (e5.mono fun z _ h=>h.elim .inl fun h=>.inr (.inl h))).trans (e6.mono fun z _ h=>.inr (.inr h))).trans (e7.mono fun z _ h=>.inr (.inr h))).trans (e8.mono fun z _ h=>h.elim .inl fun h=>.inr (.inl h))⟩
  rw[k7,k6]
  obtain⟨uz,kz,dz⟩:=hp z
  by_cases h1:z=x
  ·rw[h1]
   rw[h1]at kz dz
   unfold mw aJ ax
   simp only[if_true,if_neg dZ.symm,k4x]
   exact⟨trivial,kz,dz⟩
  ·unfold mw aJ ax
   simp only[if_neg h1]
   by_cases h2:z=p
   ·rw[h2]
    simp only[if_true,if_neg dZ,k4p]
    refine⟨up,Vb,?_⟩
    rw[jx];simp
   ·simp only[if_neg h2,k4o z h2]
    exact⟨uz,kz,dz⟩
end
end Go.Proofs.YthpjfeolagohkaaGreat

namespace Go.Proofs.YthpjfeolagohkaaGreat
open Go Go.Vc
section
variable {H H' : Hp} {B : FB} {C V : Nat → Prop} {w : Nw} {N P : List Int} {L : List Pc} {tops : List Int} {ch : Int → List Int} {par : Int → Int} {au : Int → List Int} {W : List Int}
theorem C8(m:bP H B C w N P L tops){lt:Int→Int→Bool}(hs:bk lt){x g t:Int}{A:List Int}(f:dV (aE w) lt (bZ N) ch par au W)(hp:KE (eE L) ch par)(hg:aE w x=g)(SR:0<g)(dq:g<tops.length)(hr:au g=t::A)(ht:bf tops g=t):
  af Tryz.prog oF [ptr B.n,i64 g,i64 x] H fun v H'=>ar (∃N' P' L' dA bm A',bP H' B C w N' P' L' tops∧dV (aE w) lt (bZ N') dA bm (ax au g (t::A')) W∧KE (eE L') dA bm∧(∀z,par z= -1→bm z= -1)∧
   ag (fun z=>z=B.nb∨z=B.pb∨z=B.tb) H H'):=by
 have e0:ax au g (t::A)=au:=by
  funext z
  unfold ax
  split
  ·rename_i e;rw[e,hr]
  ·rfl
 refine aZ oK ?_
 refine vs ?_
 refine aS.intro (fun mm env H'=>∃ (x:Int) (N' P':List Int) (L':List Pc) (dA:Int→List Int) (bm:Int→Int) (A':List Int),mm=ND lt w.cs.length x∧aE w x=g∧bP H' B C w N' P' L' tops∧dV (aE w) lt (bZ N') dA bm (ax au g (t::A')) W∧KE (eE L') dA bm∧(∀z,par z= -1→bm z= -1)∧
   ag (fun z=>z=B.nb∨z=B.pb∨z=B.tb) H H'∧env=[(0,ptr B.n),(1,i64 g),(2,i64 x)]) _ ⟨x,N,P,L,ch,par,A,rfl,hg,m,by rw[e0];exact f,hp,fun _ h=>h,ag.refl _ _,rfl⟩ ?_
 rintro mm env H1 ⟨y,N1,P1,L1,Pa,xe,A1,rfl,hy,m1,f1,p1,u1,e1,rfl⟩
 obtain⟨y0,y1,_⟩:=aC (w:=w) (x:=y) (by omega)
 obtain⟨tv,o1,_⟩:=m1.own
 obtain⟨a0,a1,a2,a3,a4⟩:=m1.rd ⟨y0,y1⟩
 obtain⟨uy,_,_⟩:=p1 y
 have hl:=m1.len
 rw[uy]at a1
 refine v1 (ae o1) ?_
 refine⟨⟨by omega,by omega⟩,?_⟩
 refine v4 (ae m1.places) aor Nat.add_zero a1 ?_
 refine ai.dec (fun h0=>?_) (fun h0=>?_)<;>refine v1 (ae o1) ?_
 ·exact⟨N1,P1,L1,Pa,xe,A1,m1,f1,p1,u1,e1⟩
 refine⟨⟨by omega,by omega⟩,?_⟩
 refine v3 (ae m1.places) aor a4 ?_
 have hyc:=f1.pr.up y _ rfl h0
 obtain⟨_,_,h3,h4,h5⟩:=f1.pr.dn _ _ hyc
 cases hm:(eE L1 y).m
 ·refine v1 (ae o1) ?_
  refine⟨⟨by omega,by omega⟩,?_⟩
  obtain⟨L2,k2,m2,e2⟩:=m1.cT ⟨y0,y1⟩ true
  refine v2 m1.places aor ?_
  refine⟨by omega,?_⟩
  refine vs ?_
  refine⟨N1,P1,L2,Pa,xe,A1,m2,f1,fun z=>?_,u1,e1.trans (e2.mono fun z _ h=>.inr (.inr h))⟩
  rw[k2]
  unfold mw
  split
  ·rename_i e;rw[e];exact p1 y
  ·exact p1 z
 ·refine v1 (ae o1) ?_
  refine⟨⟨by omega,by omega⟩,?_⟩
  refine v4 (ae m1.places) aor Nat.add_zero a1 ?_
  refine(Bo m1 hs f1 p1 hyc hy dq (A:=A1) (by unfold ax;rw[if_pos rfl]) ht).mono ?_
  rintro _ H2 ⟨N2,P2,L2,l,m2,f2,p2,tC,e2⟩
  rw[eD]at f2
  refine vs ?_
  obtain⟨z0,z1,_⟩:=aC (w:=w) (x:=xe y) (by omega)
  refine⟨ND lt w.cs.length (xe y),EY hs ⟨z0,by omega⟩ h5,xe y,N2,P2,L2,_,_,y::A1,rfl,by omega,m2,f2,p2,fun z hz=>?_,e1.trans e2,rfl⟩
  unfold aJ
  split
  ·rfl
  ·exact u1 z hz
theorem EI(m:bP H B C w N P L tops){lt:Int→Int→Bool}(hs:bk lt){x g t:Int}{A:List Int}(f:dV (aE w) lt (bZ N) ch par au W)(hp:KE (eE L) ch par)(hg:aE w x=g)(SR:0<g)(dq:g<tops.length)(hr:au g=t::A)(ht:bf tops g=t):
  af Tryz.prog pB [ptr B.n,i64 g,i64 x] H fun v H'=>ar (∃N' P' L' dA bm A',bP H' B C w N' P' L' tops∧dV (aE w) lt (bZ N') dA bm (ax au g (t::A')) W∧KE (eE L') dA bm∧bm x= -1∧(∀z,par z= -1→bm z= -1)∧
   ag (fun z=>z=B.nb∨z=B.pb∨z=B.tb) H H'):=by
 obtain⟨y0,y1,_⟩:=aC (w:=w) (x:=x) (by omega)
 obtain⟨tv,o1,_⟩:=m.own
 obtain⟨a0,a1,a2,a3,a4⟩:=m.rd ⟨y0,y1⟩
 obtain⟨uy,_,_⟩:=hp x
 have hl:=m.len
 rw[uy]at a1
 refine aZ pM ?_
 refine v1 (ae o1) ?_
 refine⟨⟨by omega,by omega⟩,?_⟩
 refine v4 (ae m.places) aor Nat.add_zero a1 ?_
 refine ai.dec (fun h0=>?_) (fun h0=>?_)<;>refine vs ?_
 ·have e0:ax au g (t::A)=au:=by
   funext z
   unfold ax
   split
   ·rename_i e;rw[e,hr]
   ·rfl
  exact⟨N,P,L,ch,par,A,m,by rw[e0];exact f,hp,h0,fun _ h=>h,ag.refl _ _⟩
 have hxc:=f.pr.up x _ rfl h0
 obtain⟨_,_,h3,h4,h5⟩:=f.pr.dn _ _ hxc
 refine(Bo m hs f hp hxc hg dq hr ht).mono ?_
 rintro _ H2 ⟨N2,P2,L2,l,m2,f2,p2,tC,e2⟩
 refine vs ?_
 refine(C8 m2 hs (x:=par x) (A:=x::A) f2 p2 (by omega) SR dq (by unfold ax;rw[if_pos rfl]) ht).mono ?_
 rintro _ H3 ⟨N3,P3,L3,ML,oT,A3,m3,f3,p3,u3,e3⟩
 rw[eD]at f3
 refine vs ?_
 exact⟨N3,P3,L3,ML,oT,A3,m3,f3,p3,u3 x (by unfold aJ;rw[if_pos rfl]),fun z hz=>u3 z (by unfold aJ;split;rfl;exact hz),e2.trans e3⟩
end
end Go.Proofs.YthpjfeolagohkaaGreat

namespace Go.Proofs.YthpjfeolagohkaaGreat
open Go Go.Vc
theorem J4(a b:List Int):ws (a++b)=ws a++ws b:=by unfold ws;rw[aqo]
theorem Tc{l:List Int}{d:Nat}{y v:Int}(h:l[d]? =some y):(ws [y]++ws (l.set d v)).Perm (ws [v]++ws l):=by
 have hd:=(aoq.1 h).1
 have e1:l=l.take d++y::l.drop (d+1):=by
  rw[aop hd]at h
  injection h with h
  rw[←h,←apm hd,apt]
 have e2:l.set d v=l.take d++v::l.drop (d+1):=by
  rw[List.set_eq_take_append_cons_drop,if_pos hd]
 rw[e2]
 generalize ha:l.take d=a at*
 generalize hb:l.drop (d+1)=b at*
 rw[e1,J4,J4,mi v b,mi y b,ap8]
 intro z
 simp only[aqg]
 omega
section
variable {H H' : Hp} {B : FB} {C V : Nat → Prop} {w : Nw} {N P : List Int} {L : List Pc} {tops : List Int} {ch : Int → List Int} {par : Int → Int} {au : Int → List Int} {W : List Int}
structure QA(w:Nw)(g:Int)(nx:Int→Int)(HI ch:Int→List Int)(par:Int→Int)(au:Int→List Int)(o9 rest W0:List Int):Prop where
 f:dV (aE w) (aN w) nx ch par au (ws o9++(rest++W0))
 td:∀ (d:Nat) y,o9[d]? =some y→y≠ -1→(ch y).length=d∧aE w y=g
 rh:∀y∈rest,aE w y=g
 c0:∀z∈W0,ch z=HI z
 tl:o9.length≤w.cs.length+1
theorem HY(m:bP H B C w N P L tops){roots W0:List Int}{g:Int}{b o rc:Nat}{lb:List Value}(hb:H.own b=some lb)(fw:∀ (i:Nat) y,roots[i]? =some y→lb[o+i]? =some (i64 y))(Uy:¬B.S C b)(t0:QA w g (bZ N) ch ch par au [] roots W0)(hp:KE (eE L) ch par)(UG:roots.length≤65536):
  af Tryz.prog sN [ptr B.n,.slice (some ⟨b,o,none⟩) roots.length rc] H fun v H'=>ar (∃N' P' L' dA bm o9 fq,bP H' B C w N' P' L' tops∧QA w g (bZ N') ch dA bm au o9 [] W0∧KE (eE L') dA bm∧
   Sl H' 1 v o9.length (o9.map i64) fq∧(∀z,fq=some z→H.size≤z)∧ag (fun z=>C z∨z=B.nb∨z=B.pb∨z=B.tb) H H'):=by
 have wY:=m.cells.Er
 have TW:=aB hb
 have hS:=m.slt
 have ls:=ap w
 have hTb:∀ {z:Nat},(C z∨z=B.nb∨z=B.pb∨z=B.tb)→B.S C z:=fun h=>by
  rcases h with h|h|h|h
  ·exact .inl h
  ·exact .inr (.inr (.inr (.inl h)))
  ·exact .inr (.inr (.inr (.inr (.inl h))))
  ·exact .inr (.inr (.inr (.inr (.inr (.inl h)))))
 refine aZ te ?_
 refine vs ?_
 refine aS.intro (fun mm env H'=>∃ (i:Nat) (N' P':List Int) (L':List Pc) (dA:Int→List Int) (bm:Int→Int) (o9:List Int) (wv:Value) (fq:Option Nat),mm=roots.length - i∧i≤roots.length∧bP H' B C w N' P' L' tops∧QA w g (bZ N') ch dA bm au o9 (roots.drop i) W0∧KE (eE L') dA bm∧
   Sl H' 1 wv o9.length (o9.map i64) fq∧(∀z,fq=some z→H.size≤z)∧ag (fun z=>C z∨z=B.nb∨z=B.pb∨z=B.tb∨H.size≤z) H H'∧
   env=[(0,ptr B.n),(5,wv),(10,.slice (some ⟨b,o,none⟩) roots.length rc),(11,i64 roots.length),(12,i64 i)]) _ ⟨0,N,P,L,ch,par,[],_,none,rfl,by omega,m,t0,hp,Sl.nil _ _,(fun z h=>by cases h),ag.refl _ _,rfl⟩ ?_
 rintro mm env H1 ⟨i,N1,P1,L1,Pa,xe,o9,wv,fq,rfl,hi,m1,t1,p1,s1,KF,e1,rfl⟩
 refine vs ?_
 refine ai.dec (fun gi=>?_) (fun gi=>?_)<;>refine vs ?_
 rotate_left
 ·obtain rfl:i=roots.length:=by omega
  rw[aqy]at t1
  exact⟨N1,P1,L1,Pa,xe,o9,fq,m1,t1,p1,s1,KF,e1.mono fun z hz h=>by
   rcases h with h|h|h|h|h
   ·exact .inl h
   ·exact .inr (.inl h)
   ·exact .inr (.inr (.inl h))
   ·exact .inr (.inr (.inr h))
   ·omega⟩
 have jB:i<roots.length:=by omega
 obtain⟨x,hx⟩:∃x,roots[i]? =some x:=⟨_,aop jB⟩
 have dr:roots.drop i=x::roots.drop (i+1):=by
  rw[apm jB]
  congr 1
  rw[aop jB]at hx
  injection hx
 have ob:H1.own b=some lb:=e1.own hb (fun h=>by
  rcases h with h|h|h|h|h
  ·exact Uy (hTb (.inl h))
  ·exact Uy (hTb (.inr (.inl h)))
  ·exact Uy (hTb (.inr (.inr (.inl h))))
  ·exact Uy (hTb (.inr (.inr (.inr h))))
  ·omega)
 refine⟨⟨by omega,by omega⟩,?_⟩
 refine v4 (ae ob) aos Int.toNat_natCast (fw i x hx) ?_
 rw[dr]at t1
 have agx:x∈ws o9++(x::roots.drop (i+1)++W0):=by simp
 refine aS.intro (fun mm env H'=>∃ (x:Int) (N' P':List Int) (L':List Pc) (dA:Int→List Int) (bm:Int→Int) (o9:List Int) (wv:Value) (fq:Option Nat),mm=(ws o9).length∧bP H' B C w N' P' L' tops∧QA w g (bZ N') ch dA bm au o9 (x::roots.drop (i+1)) W0∧KE (eE L') dA bm∧
   Sl H' 1 wv o9.length (o9.map i64) fq∧(∀z,fq=some z→H.size≤z)∧ag (fun z=>C z∨z=B.nb∨z=B.pb∨z=B.tb∨H.size≤z) H H'∧
   env=[(0,ptr B.n),(5,wv),(7,i64 x),(10,.slice (some ⟨b,o,none⟩) roots.length rc),(11,i64 roots.length),(12,i64 i)]) _ ⟨x,N1,P1,L1,Pa,xe,o9,wv,fq,rfl,m1,t1,p1,s1,KF,e1,rfl⟩ ?_
 clear hx dr agx m1 t1 p1 s1 KF e1 ob
 rintro mm env H2 ⟨x,N2,P2,L2,kU,iW,o9,wv,fq,rfl,m2,t2,p2,s2,KF,e2,rfl⟩
 have uN:=t2.f.Tb (x:=x) (by simp)
 have OZ:=t2.rh x (by simp)
 have sE:=m2.len
 obtain⟨tv,o2,_⟩:=m2.own
 obtain⟨a0,a1,a2,a3,a4⟩:=m2.rd uN
 rw[(p2 x).2.2]at a3
 have nL:(kU x).length≤w.cs.length:=bU (t2.f.pr.nd x) fun c hc=>t2.f.G2 hc
 refine v1 (ae o2) ?_
 refine⟨⟨by omega,by omega⟩,?_⟩
 refine v3 (ae m2.places) aor a3 ?_
 refine aS.intro (fun mm env H'=>∃ (tb:List Int) (wv:Value) (fq:Option Nat),mm=(kU x).length+1 - tb.length∧ws tb=ws o9∧bP H' B C w N2 P2 L2 tops∧QA w g (bZ N2) ch kU iW au tb (x::roots.drop (i+1)) W0∧
   Sl H' 1 wv tb.length (tb.map i64) fq∧(∀z,fq=some z→H.size≤z)∧ag (fun z=>C z∨z=B.nb∨z=B.pb∨z=B.tb∨H.size≤z) H H'∧
   env=[(0,ptr B.n),(5,wv),(7,i64 x),(8,i64 (kU x).length),(10,.slice (some ⟨b,o,none⟩) roots.length rc),(11,i64 roots.length),(12,i64 i)]) _ ⟨o9,wv,fq,rfl,rfl,m2,t2,s2,KF,e2,rfl⟩ ?_
 have ZI:(ws o9).length≤w.cs.length:=by
  have h1:=bU t2.f.wn fun c hc=>t2.f.Tb hc
  rw[aoy]at h1
  omega
 clear t2 m2 s2 KF e2 o2 a1 a2 a3 a4
 rintro mm env H3 ⟨tb,wv,fq,rfl,hws,m3,t3,s3,KF,e3,rfl⟩
 have z3:=e3.size
 have HF:=t3.tl
 obtain⟨wa,wc,rfl⟩:=Sl.shape s3
 refine vs ?_
 refine ai.dec (fun gd=>?_) (fun gd=>?_)<;>refine vs ?_
 ·refine AZ (B:=H.size) KF z3 s3 (-1) (by omega) fun w' H4 fq' Td s4 e4=>?_
  refine vs ?_
  refine⟨(kU x).length+1 - (tb.length+1),by omega,tb++[-1],w',fq',by simp,by rw[J4,dY,if_pos rfl,ao3,hws],m3.ext e4 (fun z hz dP=>by have:=hS z hz;omega),⟨?_,fun d y hd hy=>?_,t3.rh,t3.c0,?_⟩,s4,Td,e3.trans (e4.mono fun z _ h=>.inr (.inr (.inr (.inr h)))),rfl⟩
  ·rw[J4,dY,if_pos rfl,ao3];exact t3.f
  ·rcases ap6 d tb.length with h|h|h
   ·rw[aoF h]at hd;exact t3.td d y hd hy
   ·subst h
    rw[aoP (aoB _),apq]at hd
    simp at hd
    exact absurd hd.symm hy
   ·rw[aoC (by simp;omega)]at hd;cases hd
  ·rw[aoy,aoV];omega
 have lU:(kU x).length<tb.length:=by omega
 obtain⟨y,hy⟩:∃y,tb[(kU x).length]? =some y:=⟨_,aop lU⟩
 obtain⟨_,qb,ql,rfl,q2,q3⟩:=Sl.zg s3 hy
 have hqb:fq=some qb:=by
  cases fq with
  |none=>have:=s3.2.2;injection this with h1;cases h1
  |some b'=>obtain⟨_,_,h1,_⟩:=s3.2;injection h1 with h1;injection h1 with h1;injection h1 with h1;rw[h1]
 subst hqb
 have hqs:=KF qb rfl
 have ak3:=aB q2
 have hql:=(aoq.1 q3).1
 have hMq:∀z,B.S C z→z≠qb:=fun z hz e=>by have:=hS z hz;omega
 refine⟨⟨by omega,by omega⟩,?_⟩
 refine v5 (ae q2) aor aos Int.toNat_natCast q3 ?_
 refine ai.dec (fun gy=>?_) (fun gy=>?_)<;>refine vs ?_
 ·refine⟨⟨by omega,by omega⟩,?_⟩
  refine v4 q2 aor aos Int.toNat_natCast ?_
  refine⟨by omega,?_⟩
  have s4:=s3.sI q2 (kU x).length (i64 x)
  have e4:ag (fun z=>z=qb) H3 (H3.wr qb (ql.set (kU x).length (i64 x))):=(ag.refl (fun z=>z=qb) _).wr (fun _=>rfl) _
  refine vs ?_
  have tC:=Tc (v:=x) hy
  rw[dY y,if_pos gy,dY x,if_neg (t3.f.ZK (c:=x) (by simp)),apD]at tC
  have m4:=m3.ext e4 (fun z hz dP=>hMq z hz dP)
  have s5:Sl (H3.wr qb (ql.set (kU x).length (i64 x))) 1 (.slice (some ⟨qb,0,none⟩) (tb.set (kU x).length x).length wc) (tb.set (kU x).length x).length ((tb.set (kU x).length x).map i64) (some qb):=by
   rw[aot,ao9];exact s4
  refine⟨roots.length - (i+1),by omega,i+1,N2,P2,L2,kU,iW,tb.set (kU x).length x,_,some qb,rfl,by omega,m4,⟨?_,fun d z hd hz=>?_,fun z hz=>t3.rh z (by simp[hz]),t3.c0,by rw[aot];exact t3.tl⟩,p2,s5,KF,e3.trans (e4.mono fun z _ h=>.inr (.inr (.inr (.inr (by omega))))),?_⟩
  ·refine t3.f.perm ?_
   rw[ap8]at tC ⊢
   intro z
   have:=tC z
   simp only[aqg,apL,aqe]at this ⊢
   simp only[List.count_nil]at this
   omega
  ·by_cases h:d=(kU x).length
   ·rw[h,aox lU]at hd
    injection hd with hd
    subst hd
    exact⟨h.symm,OZ⟩
   ·rw[aov (Ne.symm h)]at hd
    exact t3.td d z hd hz
  ·rw[wrap64 (by omega) (by omega),aot]
   rfl
 ·obtain⟨hyd,hyg⟩:=t3.td _ y hy gy
  have tC:=Tc (v:= -1) hy
  rw[dY y,if_neg gy,dY (-1),if_pos rfl,apD]at tC
  obtain⟨HZ,Te⟩:∃HZ,HZ=tb.set (kU x).length (-1):=⟨_,rfl⟩
  have f4:dV (aE w) (aN w) (bZ N2) kU iW au (y::x::(ws HZ++(roots.drop (i+1)++W0))):=by
   refine t3.f.perm ?_
   rw[←Te]at tC
   rw[ap8]at tC ⊢
   intro z
   have:=tC z
   simp only[aqg,apL,apD,aqe,List.count_nil]at this ⊢
   omega
  have aiF:(ws tb).length=(ws HZ).length+1:=by
   rw[←Te]at tC
   have:=tC.length_eq
   simp only[apL,apD,aoI]at this
   omega
  have htd:∀ (d:Nat) z,HZ[d]? =some z→z≠ -1→(kU z).length=d∧aE w z=g:=fun d z hd hz=>by
   rw[Te]at hd
   by_cases h:d=(kU x).length
   ·rw[h,aox lU]at hd
    injection hd with hd
    exact absurd hd.symm hz
   ·rw[aov (Ne.symm h)]at hd
    exact t3.td d z hd hz
  refine⟨⟨by omega,by omega⟩,?_⟩
  refine v4 q2 aor aos Int.toNat_natCast ?_
  refine⟨by omega,?_⟩
  have s4:=s3.sI q2 (kU x).length (i64 (-1))
  have e4:ag (fun z=>z=qb) H3 (H3.wr qb (ql.set (kU x).length (i64 (-1)))):=(ag.refl (fun z=>z=qb) _).wr (fun _=>rfl) _
  have s5:Sl (H3.wr qb (ql.set (kU x).length (i64 (-1)))) 1 (.slice (some ⟨qb,0,none⟩) HZ.length wc) HZ.length (HZ.map i64) (some qb):=by
   rw[Te,aot,ao9];exact s4
  have tw:HZ.length=tb.length:=by rw[Te,aot]
  refine vs ?_
  have m4:=m3.ext e4 (fun z hz dP=>hMq z hz dP)
  generalize H3.wr qb (ql.set (kU x).length (Value.int .i64 (-1)))=H4 at*
  obtain⟨tv4,o4,_⟩:=m4.own
  refine v1 (ae o4) ?_
  refine(cE m4.cells y x).mono ?_
  rintro _ H5 ⟨rfl,c5,e5⟩
  have m5:=m4.aH c5 e5 rfl
  have nM:y≠x:=fun e=>by have:=f4.wn;rw[e]at this;simp at this
  have SX:0<aE w x:=(f4.wm x (by simp)).2.2
  rw[gD (w:=w) (a:=y) (b:=x) (by omega) SX]
  have s6:=s5.ext e5 (fun z hz dP=>by injection hz with hz;exact hMq z (.inl dP) hz.symm)
  obtain⟨p,q,Q4,hl,f5,V5⟩:∃p q,(if aN w y x=true then(p=y∧q=x)else(p=x∧q=y))∧aN w p q=true∧dV (aE w) (aN w) (bZ N2) kU iW au (p::q::(ws HZ++(roots.drop (i+1)++W0)))∧aE w p=g∧aE w q=g:=by
   cases aK:aN w y x
   ·exact⟨x,y,by simp,(ls.OQ x y nM.symm).resolve_right (by rw[aK];simp),f4.perm (List.Perm.swap ..),OZ,hyg⟩
   ·exact⟨y,x,by simp,aK,f4,hyg,OZ⟩
  cases aK:aN w y x<;>simp only[aK,if_true,if_false,apJ]at Q4<;>obtain⟨rfl,rfl⟩:=Q4<;>refine vs ?_
  all_goals
   refine(Gw m5 (x:=p) (y:=q) f5 p2 (by omega) hl).mono ?_
   rintro _ H6 ⟨N6,P6,L6,ZR,Oa,m6,f6,p6,hc6,ho6,e6⟩
   have hn6:=f6.wn
   rw[aoR]at hn6
   have s7:=s6.ext e6 (fun z hz dP=>by injection hz with hz;exact hMq z (hTb (.inr dP)) hz.symm)
   refine vs ?_
   refine⟨(ws HZ).length,by rw[←hws];omega,p,N6,P6,L6,ZR,Oa,HZ,_,some qb,rfl,m6,⟨?_,fun d z hd hz=>?_,fun z hz=>?_,fun z hz=>?_,by rw[tw];exact t3.tl⟩,p6,s7,KF,((e3.trans (e4.mono fun z _ h=>.inr (.inr (.inr (.inr (by omega)))))).trans (e5.mono fun z _ h=>.inl h)).trans (e6.mono fun z _ h=>by
    rcases h with h|h|h
    ·exact .inr (.inl h)
    ·exact .inr (.inr (.inl h))
    ·exact .inr (.inr (.inr (.inl h)))),by rw[tw]⟩
   ·refine f6.perm ?_
    rw[ap8]
    intro z
    simp only[aqg,apL,aqe]
    omega
   ·have hzp:z≠p:=fun e=>hn6.1 (by
     rw[←e]
     refine ape _ ?_
     unfold ws
     exact ap3.2 ⟨aow hd,by simp[hz]⟩)
    rw[ho6 z hzp]
    exact htd d z hd hz
   ·rcases apa.1 hz with h|h
    ·rw[h];exact V5.1
    ·exact t3.rh z (by simp[h])
   ·have hzp:z≠p:=fun e=>hn6.1 (by rw[←e];simp[hz])
    rw[ho6 z hzp]
    exact t3.c0 z hz
end
end Go.Proofs.YthpjfeolagohkaaGreat

namespace Go.Proofs.YthpjfeolagohkaaGreat
open Go Go.Vc
structure Ys(w:Nw)(N:List Int)(L:List Pc)(tops:List Int)(ch:Int→List Int)(par:Int→Int)(au:Int→List Int):Prop where
 f:dV (aE w) (aN w) (bZ N) ch par au []
 pc:KE (eE L) ch par
 tp:∀g,bf tops g=(au g).headD (-1)
 ls:∀g y,0<g→aE w y=g→bf tops g≠ -1∧(y≠bf tops g→aN w (bf tops g) y=true)
 tl:tops.length=w.hs.length
def iq(n:Nat)(H:Hp)(S:Nat→Prop)(w:Nw):Prop:=∃ (B:FB) (C:Nat→Prop) (N P:List Int) (L:List Pc) (tops:List Int) (ch:Int→List Int) (par:Int→Int) (au:Int→List Int),B.n=n∧bP H B C w N P L tops∧Ys w N L tops ch par au∧∀z,S z↔B.S C z
theorem iq.slt{n:Nat}{H:Hp}{S:Nat→Prop}{w:Nw}(h:iq n H S w):∀z,S z→z<H.size:=by
 obtain⟨B,C,N,P,L,tops,ch,par,au,rfl,m,l,hS⟩:=h
 exact fun z hz=>m.slt z ((hS z).1 hz)
theorem iq.ext{n:Nat}{H H':Hp}{S V:Nat→Prop}{w:Nw}(h:iq n H S w)(e:ag V H H')(hd:∀z,S z→¬V z):iq n H' S w:=by
 obtain⟨B,C,N,P,L,tops,ch,par,au,rfl,m,l,hS⟩:=h
 exact⟨B,C,N,P,L,tops,ch,par,au,rfl,m.ext e (fun z hz=>hd z ((hS z).2 hz)),l,hS⟩
theorem Ys.first{w:Nw}{N:List Int}{L:List Pc}{tops:List Int}{ch:Int→List Int}{par:Int→Int}{au:Int→List Int}(l:Ys w N L tops ch par au){g x:Int}(h:w.first g x):bf tops g=x:=by
 obtain⟨h1,h2,h3⟩:=bH.1 h
 obtain⟨h4,h5⟩:=l.ls g x h1 h2
 apply aoJ
 intro aQ
 have h6:=h5 (Ne.symm aQ)
 have ht:aE w (bf tops g)=g:=by
  have hm:bf tops g∈au g:=by
   have:=l.tp g
   rw[this]at h4 ⊢
   exact eA h4
  exact(l.f.rm g _ hm).1
 have h7:=h3 _ ht aQ
 rw[(ap w).asym h6]at h7
 cases h7
theorem Bp{n:Nat}{H:Hp}{S:Nat→Prop}{w:Nw}(h:iq n H S w)(g:Int):af Tryz.prog j8 [ptr n,i64 g] H fun v H'=>ar (
  ((w.len g=0∧v= .tuple [i64 0,.bool false].toArray)∨∃x,w.first g x∧v= .tuple [i64 x,.bool true].toArray)∧H'=H):=by
 obtain⟨B,C,N,P,L,tops,ch,par,au,rfl,m,l,hS⟩:=h
 obtain⟨cc,lt,ho,q2,AW,Fe,O2⟩:=m.fR
 refine aZ um ?_
 refine v1 (ae ho) ?_
 refine(uG m.cells g).mono ?_
 rintro _ _ ⟨rfl,rfl⟩
 refine vs ?_
 refine ai.dec (fun h0=>?_) (fun h0=>?_)
 ·refine vs ?_
  exact⟨.inl ⟨h0,rfl⟩,rfl⟩
 have hg:0<g:=aoJ fun hg=>h0 (Nw.HQ.2 (.inl (by omega)))
 obtain⟨x,hx⟩:=uF hg h0
 have hh:=(bH.1 hx).2.1
 have dq:=((m.cells.hm x).2 (by omega)).2
 rw[hh,←l.tl]at dq
 have q3:=m.eR q2 (dU (tops:=tops) (h:=g) (by omega) dq)
 rw[l.first hx]at q3
 refine v1 (ae ho) ?_
 refine⟨⟨by omega,by omega⟩,?_⟩
 refine v4 (ae q2) aor aos q3 ?_
 exact⟨.inr ⟨x,hx,rfl⟩,rfl⟩
theorem EJ{n:Nat}{H:Hp}{S:Nat→Prop}{w:Nw}(h:iq n H S w)(g x k s:Int):af Tryz.prog hY [ptr n,i64 g,i64 x,tu k s] H fun v H'=>ar (
  (¬w.lq g x∧v= .bool false∧cA (iq n) S H H' w)∨(w.lq g x∧v= .bool true∧cA (iq n) S H H' (w.put x (g,k,s)))):=by
 obtain⟨B,C,N,P,L,tops,ch,par,au,rfl,m,l,hS⟩:=h
 have hC:∀z,C z→S z:=fun z h=>(hS z).2 (.inl h)
 refine aZ pL ?_
 refine vs ?_
 have f0:am H (H.new 182 [i64 k,u64 s]):=(ag.refl _ _).new _ _
 have b0:(H.new 182 [i64 k,u64 s]).own H.size=some [i64 k,u64 s]:=aD _ _ _
 have m0:=m.fresh f0
 generalize H.new 182 [i64 k,u64 s]=H0 at*
 have ff:ag S H H0:=f0.mono fun _ _ h=>h.elim
 obtain⟨tv,IY,_⟩:=m0.own
 refine v2 (ae IY) (ae b0) ?_
 refine(kI m0.cells g x k s).mono ?_
 rintro _ H1 (⟨bS,rfl,c1,e1⟩| ⟨qf,rfl,c1,e1⟩)
 ·refine vs ?_
  exact .inl ⟨bS,rfl,cA.same ⟨B,C,N,P,L,tops,ch,par,au,rfl,m0.aH c1 e1 rfl,l,hS⟩ (ff.trans (e1.mono fun z _ hz=>hC z hz))⟩
 obtain⟨hh,hx,bE⟩:=id qf
 have m2:=m0.aH c1 e1 (by simp[Nw.put])
 have hg:=hh.1
 have dq:g<tops.length:=by
  have:=(aoq.1 hh.2).1
  have:=l.tl
  omega
 have cG:=fun y=>ed hx (g,k,s) y
 have fL:aE w x≤0:=Int.not_lt.1 fun h=>bE (bC.1 h)
 have el:∀a b,0<aE w a→0<aE w b→a≠x→b≠x→aN (w.put x (g,k,s)) a b=aN w a b:=fun a b ha hb qA lV=>dC hx _ ha hb qA lV
 have f2:dV (aE (w.put x (g,k,s))) (aN (w.put x (g,k,s))) (bZ N) ch par au (x::[]):=l.f.put (g:=g) rfl fL (by omega) (by omega) (by rw[cG,if_pos rfl]) (fun y hy=>by rw[cG,if_neg hy]) el
 refine vs ?_
 refine(xA m2 f2 (by rw[cG,if_pos rfl]) dq (l.tp g)).mono ?_
 rintro _ H3 ⟨N3,P3,aci,ll,m3,Pp,ht3,f3,Kt,E1,Wu,hlT,e3⟩
 refine vs ?_
 have hhm:∀y,aE w y=g→y≠x:=fun y hy e=>by rw[e]at hy;omega
 have hTg:bf tops g≠ -1→aE w (bf tops g)=g:=fun h=>by
  have hm:bf tops g∈au g:=by
   have:=l.tp g
   rw[this]at h ⊢
   exact eA h
  exact(l.f.rm g _ hm).1
 refine .inr ⟨qf,rfl,cA.same ⟨B,C,N3,P3,L,aci,ch,par,_,rfl,m3,⟨f3,l.pc,fun g2=>?_,fun g2 y B1 hy=>?_,by rw[Pp];exact l.tl⟩,hS⟩ ((ff.trans (e1.mono fun z _ h=>hC z h)).trans (e3.mono fun z _ h=>by
  rcases h with h|h|h|h
  ·exact hC z h
  ·exact(hS z).2 (.inr (.inr (.inr (.inl h))))
  ·exact(hS z).2 (.inr (.inr (.inr (.inr (.inl h)))))
  ·exact(hS z).2 (.inr (.inr (.inr (.inr (.inr (.inr h))))))))⟩
 ·rw[ht3]
  unfold iL ax
  split
  ·rfl
  ·exact l.tp g2
 ·rw[ht3]
  unfold iL
  rw[cG]at hy
  by_cases h2:g2=g
  ·rw[if_pos h2]
   refine⟨E1,fun aQ=>?_⟩
   by_cases nM:y=x
   ·rw[nM]at aQ ⊢
    exact Wu aQ
   ·rw[if_neg nM]at hy
    obtain⟨h3,h4⟩:=l.ls g y (by omega) (by omega)
    have hTx:=hhm _ (hTg h3)
    rcases Kt with h5| ⟨h5,_⟩
    ·rw[h5]at aQ hlT ⊢
     have h6:=hlT h3 hTx
     by_cases hyT:y=bf tops g
     ·rw[hyT];exact h6
     ·have h7:=h4 hyT
      rw[←el _ _ (by rw[hTg h3];omega) (by omega) hTx nM]at h7
      exact(ap _).tr _ _ _ h6 h7
    ·rw[h5]at aQ ⊢
     rw[el _ _ (by rw[hTg h3];omega) (by omega) hTx nM]
     exact h4 aQ
  ·rw[if_neg h2]
   have nM:y≠x:=fun e=>by rw[if_pos e]at hy;exact h2 hy.symm
   rw[if_neg nM]at hy
   obtain⟨h3,h4⟩:=l.ls g2 y B1 hy
   refine⟨h3,fun aQ=>?_⟩
   have hTx:bf tops g2≠x:=fun e=>by
    have hm:bf tops g2∈au g2:=by
     have:=l.tp g2
     rw[this]at h3 ⊢
     exact eA h3
    have h5:=(l.f.rm g2 _ hm).1
    rw[e]at h5
    omega
   have hT2:aE w (bf tops g2)=g2:=by
    have hm:bf tops g2∈au g2:=by
     have:=l.tp g2
     rw[this]at h3 ⊢
     exact eA h3
    exact(l.f.rm g2 _ hm).1
   rw[el _ _ (by omega) (by omega) hTx nM]
   exact h4 aQ
theorem bP.bounds{H:Hp}{B:FB}{C:Nat→Prop}{w:Nw}{N P:List Int}{L:List Pc}{tops:List Int}(m:bP H B C w N P L tops):w.cs.length≤65536∧N.length=w.cs.length:=⟨m.cells.Er,m.len.2⟩
theorem uV{w:Nw}:∀x,0<aE w x→0≤x∧x<w.cs.length:=fun x h=>by
 obtain⟨a,b,_⟩:=aC h
 exact⟨a,b⟩
theorem C9{n:Nat}{H:Hp}{S:Nat→Prop}{w:Nw}(h:iq n H S w)(g:Int):af Tryz.prog gA [ptr n,i64 g] H fun v H'=>ar (
  (w.len g=0∧v= .tuple [i64 0,.bool false].toArray∧cA (iq n) S H H' w)∨(∃x,w.first g x∧v= .tuple [i64 x,.bool true].toArray∧cA (iq n) S H H' (w.put x (0,0,0)))):=by
 refine aZ oJ ?_
 refine vs ?_
 refine(Bp h g).mono ?_
 rintro _ H' ⟨⟨h0,rfl⟩| ⟨x,hx,rfl⟩,e⟩
 ·obtain rfl:=e.symm
  refine vs ?_
  exact .inl ⟨h0,rfl,cA.same h (ag.refl _ _)⟩
 obtain rfl:=e.symm
 refine vs ?_
 obtain⟨B,C,N,P,L,tops,ch,par,au,rfl,m,l,hS⟩:=h
 obtain⟨hg,OZ,nL⟩:=bH.1 hx
 have htx:=l.first hx
 have fL:=uV (w:=w) x (by omega)
 have ls:=ap w
 obtain⟨A,hr⟩:∃A,au g=x::A:=by
  have h1:=l.tp g
  rw[htx]at h1
  cases hc:au g with
  |nil=>rw[hc]at h1;exact absurd h1 (by show¬x= -1;omega)
  |cons c r=>rw[hc]at h1;exact⟨r,by rw[show x=c from h1]⟩
 have dq:g<tops.length:=by
  have:=((m.cells.hm x).2 (by omega)).2
  have:=l.tl
  omega
 refine(Gx m l.f l.pc hr).mono ?_
 rintro _ H1 ⟨N1,P1,L1,A1,m1,f1,p1,e1⟩
 have G5:ax au g (x::A1) g=x::A1:=by unfold ax;rw[if_pos rfl]
 obtain⟨CW,o1,_⟩:=m1.own
 obtain⟨xp,hN1⟩:=m1.bounds
 have KD:=f1.rc g
 have gU:=f1.rn g
 rw[G5]at KD gU
 have bE:∀c∈x::A1,0≤c∧c<w.cs.length:=fun c hc=>f1.rin (g:=g) (by rw[G5];exact hc)
 have T4:∀c∈x::A1,aE w c=g:=fun c hc=>(f1.rm g c (by rw[G5];exact hc)).1
 have aR:=bU gU bE
 rw[aoI]at aR
 refine v1 (ae o1) ?_
 refine(oS m1.ring KD gU (fun c hc=>by have:=bE c hc;omega) (by omega)).mono ?_
 rintro rv H2 ⟨b2,s2,qv,f2⟩
 obtain⟨ra,rc,rfl⟩:=Sl.shape s2
 have m2:=m1.fresh f2
 have z2:=f2.size
 obtain⟨NR,o2,_⟩:=m2.own
 have hS1:=m1.slt
 have agB:¬B.S C b2:=fun h=>by have:=hS1 _ h;omega
 obtain⟨_,l2,c2,et,q2,G0,Rc,TX⟩:=id s2
 injection et with et ak6 acl
 subst et acl
 rw[aos]at Rc TX
 have jx:(x::A1).length=A1.length+1:=aoI
 refine vs ?_
 refine⟨⟨by omega,by omega,by omega,by omega⟩,?_⟩
 refine vs ?_
 obtain⟨o,fw,Rt⟩:∃o,(∀ (i:Nat) y,A1[i]? =some y→l2[o+i]? =some (i64 y))∧(Value.slice (if(rc:Int)=1 then some ⟨b2,0,none⟩else some ⟨b2,1,none⟩) A1.length (rc - 1))= .slice (some ⟨b2,o,none⟩) A1.length (rc - 1):=by
  rw[aoI]at G0 TX
  by_cases h1:(rc:Int)=1
  ·refine⟨0,fun i y hy=>?_,by rw[if_pos h1]⟩
   have:=(aoq.1 hy).1
   omega
  ·refine⟨1,fun i y hy=>?_,by rw[if_neg h1]⟩
   have hi:=(aoq.1 hy).1
   have h7:((x::A1).map i64)[1+i]? =some (i64 y):=by rw[Nat.add_comm,apg,api,aoG,hy];rfl
   rw[←TX,aoU,if_pos (by omega)]at h7
   exact h7
 have hv8:∀ (QB:Decidable ((rc:Int)=1)),Value.slice (@ite (Option Addr) ((rc:Int)=1) QB (some (⟨b2,0,none⟩:Addr)) (Option.map (fun(x:Addr)=>x.add (Int.toNat 1*1)) (some (⟨b2,0,none⟩:Addr)))) (((A1.length+1:Nat):Int).toNat - Int.toNat 1) ((rc:Int).toNat - Int.toNat 1)=Value.slice (some ⟨b2,o,none⟩) A1.length (rc - 1):=fun QB=>by
  rw[show((A1.length+1:Nat):Int).toNat - Int.toNat 1=A1.length by simp,show(rc:Int).toNat - Int.toNat 1=rc - 1 by simp,←Rt]
  by_cases h1:(rc:Int)=1
  ·rw[if_pos h1,if_pos h1]
  ·rw[if_neg h1,if_neg h1];rfl
 rw[hv8]
 generalize hR8:Value.slice (some ⟨b2,o,none⟩) A1.length (rc - 1)=R8 at*
 have Wv:S B.nb:=(hS _).2 (.inr (.inr (.inr (.inl rfl))))
 have HZ:S B.pb:=(hS _).2 (.inr (.inr (.inr (.inr (.inl rfl)))))
 have tb3:S B.tb:=(hS _).2 (.inr (.inr (.inr (.inr (.inr (.inl rfl))))))
 have tb4:S B.tp:=(hS _).2 (.inr (.inr (.inr (.inr (.inr (.inr rfl))))))
 have hC:∀z,C z→S z:=fun z h=>(hS z).2 (.inl h)
 have oZ:ag S H H2:=(e1.mono fun z _ h=>by
  rcases h with h|h|h
  ·exact h▸Wv
  ·exact h▸HZ
  ·exact h▸tb3).trans (f2.mono fun _ _ h=>h.elim)
 refine v1 (ae o2) ?_
 refine(oS m2.ring KD gU (fun c hc=>by have:=bE c hc;omega) (by omega)).mono ?_
 rintro rv H3 ⟨b3,s3,Q9,f3⟩
 obtain⟨ka,kc,rfl⟩:=Sl.shape s3
 have m3:=m2.fresh f3
 have q3:=f3.own q2 (fun h=>h)
 have z3:=f3.size
 have Ex:ag S H H3:=oZ.trans (f3.mono fun _ _ h=>h.elim)
 have ak9:¬B.S C b3:=fun h=>by have:=hS1 _ h;omega
 have Vd:∀z,S z→z<H1.size:=fun z hz=>hS1 z ((hS z).1 hz)
 refine vs ?_
 refine aS.intro (fun mm env H'=>∃ (i:Nat) (N' P':List Int),mm=(x::A1).length - i∧i≤(x::A1).length∧bP H' B C w N' P' L1 tops∧dV (aE w) (aN w) (bZ N') (ax ch x []) (fx ch par x) (ax au g ((x::A1).drop i)) ((x::A1).take i).reverse∧
  Sl H' 1 (.slice ka (x::A1).length kc) (x::A1).length ((x::A1).map i64) (some b3)∧ag (fun z=>z=B.nb∨z=B.pb) H3 H'∧
  env=[(0,ptr B.n),(1,i64 g),(6,i64 x),(8,R8),(36,.slice ka (x::A1).length kc),(37,i64 (x::A1).length),(38,i64 i)]) _ ⟨0,N1,P1,rfl,by omega,m3,f1,s3,ag.refl _ _,rfl⟩ ?_
 rintro mm env H4 ⟨i,N4,P4,rfl,hi,m4,f4,s4,e4,rfl⟩
 obtain⟨tv4,o4,_⟩:=m4.own
 refine vs ?_
 refine ai.dec (fun gi=>?_) (fun gi=>?_)<;>refine vs ?_
 ·have jB:i< (x::A1).length:=by omega
  obtain⟨c,CE⟩:∃c,(x::A1)[i]? =some c:=⟨_,aop jB⟩
  have IP:=bE c (aow CE)
  obtain⟨_,kb,lb,rfl,qb,qc⟩:=Sl.zg s4 CE
  have hkb:kb=b3:=by
   obtain⟨_,_,_,hh,_⟩:=s4
   injection hh with hh
   injection hh with hh
   injection hh with hh
  have dr:(x::A1).drop i=c::(x::A1).drop (i+1):=by
   rw[apm jB]
   congr 1
   rw[aop jB]at CE
   injection CE
  have tk:(x::A1).take (i+1)=(x::A1).take i++[c]:=by rw[aoM,CE];rfl
  have Yt:=m4.len
  refine⟨⟨by omega,by omega⟩,?_⟩
  refine v6 (ae qb) aor aos Int.toNat_natCast qc (ae o4) ?_
  refine(nB m4.ring m4.inv (x:=c) (by omega)).mono ?_
  rintro _ H5 ⟨rfl,N5,P5,r5,l5,n5,i5,e5⟩
  have m5:=m4.uT r5 i5 e5 l5
  have f5:=f4.ab1 (x:=c) (g:=g) (A:=(x::A1).drop (i+1)) m4.inv (by unfold ax;rw[if_pos rfl];exact dr)
  rw[eD,←n5]at f5
  refine vs ?_
  refine⟨(x::A1).length - (i+1),by omega,i+1,N5,P5,rfl,by omega,m5,?_,s4.ext e5 (fun z hz h=>by
   injection hz with hz
   subst hz
   have h1:=Vd _ Wv
   have h2:=Vd _ HZ
   omega),e4.trans e5,?_⟩
  ·rw[tk,List.reverse_append]
   exact f5
  ·rw[wrap64 (by omega) (by omega)]
   rfl
 obtain rfl:i=(x::A1).length:=by omega
 rw[aqy,aoQ]at f4
 have zB:ag S H H4:=Ex.trans (e4.mono fun z _ h=>by
  rcases h with h|h
  ·exact h▸Wv
  ·exact h▸HZ)
 have z4:=e4.size
 have q4:=e4.own q3 (fun h=>by
  have h1:=Vd _ Wv
  have h2:=Vd _ HZ
  omega)
 obtain⟨cc,lt4,o4',q5,AW,Fe,O2⟩:=m4.fR
 refine v1 (ae o4') ?_
 refine⟨⟨by omega,by omega⟩,?_⟩
 refine v3 q5 aor aos ?_
 refine⟨by omega,?_⟩
 obtain⟨m5,e5⟩:=m4.kL q5 g.toNat (-1)
 refine vs ?_
 have q6:=e5.own q4 (fun h=>by
  have h1:=Vd _ tb4
  omega)
 have Wq:=zB.trans (e5.mono fun z _ h=>h▸tb4)
 have z5:=e5.size
 generalize H4.wr B.tp (lt4.set g.toNat (Value.int .i64 (-1)))=H5 at*
 have t0:QA w g (bZ N4) (ax ch x []) (ax ch x []) (fx ch par x) (ax au g []) [] A1 [x]:=by
  refine⟨f4.perm ?_,fun d y hd=>by simp at hd,fun y hy=>T4 y (by simp[hy]),fun _ _=>rfl,by simp⟩
  show List.Perm _ (A1++[x])
  exact(List.reverse_perm _).trans (apZ (l₁:=[x]) (l₂:=A1))
 have agD:¬B.S C b2:=agB
 subst hR8
 refine(HY m5 q6 fw agD t0 p1 (by omega)).mono ?_
 rintro tv H6 ⟨N6,P6,L6,ZR,Oa,o9,fq,m6,t6,p6,s6,KF,e6⟩
 obtain⟨ta,tc,rfl⟩:=Sl.shape s6
 have HF:=t6.tl
 have Rk:ag S H H6:=Wq.trans (e6.mono fun z _ h=>by
  rcases h with h|h|h|h
  ·exact hC z h
  ·exact h▸Wv
  ·exact h▸HZ
  ·exact h▸tb3)
 refine vs ?_
 have hf6:=t6.f
 rw[apD]at hf6
 have Yu:bf (tops.set g.toNat (-1))=iL (bf tops) g (([]:List Int).headD (-1)):=eC (by omega) dq (-1)
 refine aS.intro (fun mm env H'=>∃ (i:Nat) (N' P' Gv l':List Int),mm=o9.length - i∧i≤o9.length∧bP H' B C w N' P' L6 Gv∧Gv.length=tops.length∧bf Gv=iL (bf tops) g (l'.headD (-1))∧
  dV (aE w) (aN w) (bZ N') ZR Oa (ax au g l') (ws (o9.drop i)++[x])∧
  (∀c,aE w c=g→Oa c= -1→c∉ws (o9.drop i)++[x]→l'.headD (-1)≠ -1∧(c≠l'.headD (-1)→aN w (l'.headD (-1)) c=true))∧
  Sl H' 1 (.slice ta o9.length tc) o9.length (o9.map i64) fq∧ag S H6 H'∧
  env=[(0,ptr B.n),(1,i64 g),(6,i64 x),(57,.slice ta o9.length tc),(58,i64 o9.length),(59,i64 i)]) _ ⟨0,N6,P6,_,[],rfl,by omega,m6,by rw[aot],Yu,hf6,fun c h1 h2 h3=>?_,s6,ag.refl _ _,rfl⟩ ?_
 ·exfalso
  rcases hf6.Eh c (by omega) h2 with h4|h4
  ·rw[h1]at h4
   unfold ax at h4
   rw[if_pos rfl]at h4
   cases h4
  ·exact h3 h4
 rintro mm env H7 ⟨i,N7,P7,Ml,l7,rfl,hi7,m7,hl7,ZS,f7,d7,s7,e7,rfl⟩
 have alb:o9.length≤65537:=by omega
 refine vs ?_
 refine ai.dec (fun gi=>?_) (fun gi=>?_)<;>refine vs ?_
 ·have jB:i<o9.length:=by omega
  obtain⟨r,hrr⟩:∃r,o9[i]? =some r:=⟨_,aop jB⟩
  obtain⟨_,kb,lb,rfl,qb,qc⟩:=Sl.zg s7 hrr
  have hkb:fq=some kb:=by
   cases fq with
   |none=>have:=s7.2.2;injection this with h1;cases h1
   |some b'=>obtain⟨_,_,h1,_⟩:=s7.2;injection h1 with h1;injection h1 with h1;injection h1 with h1;rw[h1]
  have alc:=KF kb hkb
  have dr:o9.drop i=r::o9.drop (i+1):=by
   rw[apm jB]
   congr 1
   rw[aop jB]at hrr
   injection hrr
  refine⟨⟨by omega,by omega⟩,?_⟩
  refine v5 (ae qb) aor aos Int.toNat_natCast qc ?_
  rw[dr,mi,dY]at f7 d7
  refine ai.dec (fun gr=>?_) (fun gr=>?_)<;>refine vs ?_
  rotate_left
  ·rw[if_neg gr]at f7 d7
   simp only[apL,apD]at f7 d7
   obtain⟨_,QC⟩:=t6.td i r hrr gr
   have ZT:bf Ml g=l7.headD (-1):=by rw[ZS];unfold iL;rw[if_pos rfl]
   refine(xA m7 f7 QC (by omega) (by rw[ZT];unfold ax;rw[if_pos rfl])).mono ?_
   rintro _ H8 ⟨N8,P8,acn,l8,m8,hl8,ht8,f8,Kt,E1,Wu,hlT,e8⟩
   rw[eD]at f8
   rw[ZT]at hlT
   have e8':ag S H7 H8:=e8.mono fun z _ h=>by
    rcases h with h|h|h|h
    ·exact hC z h
    ·exact h▸Wv
    ·exact h▸HZ
    ·exact h▸tb4
   refine vs ?_
   refine⟨o9.length - (i+1),by omega,i+1,N8,P8,acn,l8,rfl,by omega,m8,by omega,?_,f8,fun c h1 h2 h3=>⟨E1,fun aQ=>?_⟩,s7.ext e8' (fun z hz h=>by
    rw[hkb]at hz
    injection hz with hz
    subst hz
    have:=Vd _ h
    omega),e7.trans e8',?_⟩
   ·rw[ht8,ZS]
    funext z
    unfold iL
    split<;>rfl
   ·by_cases hcr:c=r
    ·rw[hcr]at aQ ⊢
     exact Wu aQ
    ·obtain⟨h4,h5⟩:=d7 c h1 h2 (by
      simp only[apa,not_or]
      exact⟨hcr,h3⟩)
     by_cases h6:l7.headD (-1)=l8.headD (-1)
     ·rw[←h6]at aQ ⊢
      exact h5 aQ
     ·have h7:=hlT h4 h6
      by_cases h8:c=l7.headD (-1)
      ·rw[h8];exact h7
      ·exact ls.tr _ _ _ h7 (h5 h8)
   ·rw[wrap64 (by omega) (by omega)]
    rfl
  ·rw[if_pos gr]at f7 d7
   rw[apD]at f7 d7
   refine⟨o9.length - (i+1),by omega,i+1,N7,P7,Ml,l7,rfl,by omega,m7,hl7,ZS,f7,d7,s7,e7,?_⟩
   rw[wrap64 (by omega) (by omega)]
   rfl
 obtain rfl:i=o9.length:=by omega
 rw[aqy]at f7 d7
 have hw0:ws ([]:List Int)++[x]=[x]:=rfl
 rw[hw0]at f7 d7
 obtain⟨tv7,o7,_⟩:=m7.own
 refine v1 (ae o7) ?_
 refine(bY m7.cells x).mono ?_
 have agF:cU w.cs x:=bC.1 (by omega)
 rintro _ H8 (⟨bS,_,_⟩| ⟨_,rfl,c8,e8⟩)
 ·exact absurd agF bS
 have m8:=m7.aH c8 e8 (by simp[Nw.put])
 refine vs ?_
 have cG:=fun y=>ed (w:=w) fL (0,0,0) y
 have w0:aE (w.put x (0,0,0)) (-1)=0:=rfl
 have w1:aE (w.put x (0,0,0)) x=0:=by rw[cG,if_pos rfl]
 have w2:∀y,y≠x→aE (w.put x (0,0,0)) y=aE w y:=fun y hy=>by rw[cG,if_neg hy]
 have el:∀a b,0<aE w a→0<aE w b→a≠x→b≠x→aN (w.put x (0,0,0)) a b=aN w a b:=fun a b ha hb qA lV=>dC fL _ ha hb qA lV
 have f8:=f7.drop (hm':=aE (w.put x (0,0,0))) (lt':=aN (w.put x (0,0,0))) (by
  rw[t6.c0 x (by simp)]
  unfold ax
  rw[if_pos rfl]) w0 w1 w2 el
 have hrm:∀g2 c,c∈ax au g l7 g2→aE w c=g2∧c≠x:=fun g2 c hc=>by
  obtain⟨h1,_,_,h4⟩:=f7.rm g2 c hc
  exact⟨h1,fun e=>h4 (by simp[e])⟩
 refine .inr ⟨x,hx,rfl,cA.same ⟨B,C,N7,P7,L6,Ml,ZR,Oa,_,rfl,m8,⟨f8,p6,fun g2=>?_,fun g2 y B1 hy=>?_,by rw[hl7];exact l.tl⟩,hS⟩ ((Rk.trans e7).trans (e8.mono fun z _ h=>hC z h))⟩
 ·rw[ZS]
  unfold iL ax
  split
  ·rfl
  ·exact l.tp g2
 ·by_cases h2:g2=g
  ·have ZT:bf Ml g2=l7.headD (-1):=by rw[ZS,h2];unfold iL;rw[if_pos rfl]
   rw[ZT]
   refine f8.pr.lead (ap _) (fun z hz=>uV z hz) B1 (fun c hc hcp=>?_) hy
   have Ei:c≠x:=fun e=>by rw[e,w1]at hc;omega
   rw[w2 c Ei]at hc
   obtain⟨h3,h4⟩:=d7 c (by omega) hcp (by simp[Ei])
   refine⟨h3,fun aQ=>?_⟩
   obtain⟨h5,h6⟩:=hrm g _ (show l7.headD (-1)∈ax au g l7 g by unfold ax;rw[if_pos rfl];exact eA h3)
   rw[el _ _ (by omega) (by omega) h6 Ei]
   exact h4 aQ
  ·have ZT:bf Ml g2=bf tops g2:=by rw[ZS];unfold iL;rw[if_neg h2]
   rw[ZT]
   have nM:y≠x:=fun e=>by rw[e,w1]at hy;omega
   rw[w2 y nM]at hy
   obtain⟨h3,h4⟩:=l.ls g2 y B1 hy
   refine⟨h3,fun aQ=>?_⟩
   have h5:aE w (bf tops g2)=g2:=by
    have hm:bf tops g2∈au g2:=by
     have:=l.tp g2
     rw[this]at h3 ⊢
     exact eA h3
    exact(l.f.rm g2 _ hm).1
   rw[el _ _ (by omega) (by omega) (fun e=>by rw[e]at h5;omega) nM]
   exact h4 aQ
end Go.Proofs.YthpjfeolagohkaaGreat
