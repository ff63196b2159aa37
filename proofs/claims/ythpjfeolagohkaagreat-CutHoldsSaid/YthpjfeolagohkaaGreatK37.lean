/- Texts put behind each other. -/
import Derived.Test.YthpjfeolagohkaaGreatK98
import Derived.Test.YthpjfeolagohkaaGreatK3
import Derived.Test.YthpjfeolagohkaaGreatK31
import Derived.Test.YthpjfeolagohkaaGreatK36
set_option maxRecDepth 100000
set_option maxHeartbeats 8000000
set_option linter.unusedVariables false
set_option linter.unusedSimpArgs false
namespace Go.Proofs.YthpjfeolagohkaaGreat
open Go Go.Vc
section
variable {H H' : Hp} {B : FB} {C V : Nat → Prop} {w : Nw} {N P : List Int} {L : List Pc} {tops : List Int} {ch : Int → List Int} {par : Int → Int} {ay : Int → List Int} {W : List Int}
theorem Ck(m:cd H B C w N P L tops){lt:Int→Int→Bool}(hs:bC lt){x p g t:Int}{A:List Int}(f:eK (aG w) lt (cz N) ch par ay W)(hp:Lo (fi L) ch par)(hx:x∈ch p)(hg:aG w x=g)(dI:g<tops.length)(hr:ay g=t::A)(ht:bi tops g=t):
  af Tryz.prog ve [ptr B.n,i64 g,i64 x] H fun v H'=>ax (∃N' P' L' l,cd H' B C w N' P' L' tops∧eK (aG w) lt (cz N') (aA ch p l) (aK par x (-1)) (aA ay g (t::x::A)) W∧Lo (fi L') (aA ch p l) (aK par x (-1))∧(ch p).Perm (x::l)∧
   ag (fun z=>z=B.nb∨z=B.pb∨z=B.tb) H H'):=by
 obtain⟨x1,x2,x3,x4,x5⟩:=f.pr.dn p x hx
 have ep:p≠x:=fun e=>by rw[e,hs.Es]at x5;cases x5
 have vO:=f.HU hx
 obtain⟨p0,p1,_⟩:=aF (w:=w) (x:=p) (by omega)
 have bf:=m.len
 have xW:=m.cells.Fe
 have tQ:(ch p).length≤w.cs.length:=cf (f.pr.nd p) fun c hc=>f.HU hc
 obtain⟨l,B8,Ln⟩:=(f.cy p).from hx
 have gI:=B8.nodup_iff.1 (f.pr.nd p)
 have o8:(ch p).length=l.length+1:=by rw[B8.length_eq,aqx]
 have f1:=f.acW B8 Ln
 have sI:aA ch p (x::l) p=x::l:=by unfold aA;rw[if_pos rfl]
 obtain⟨ux,_,_⟩:=hp x
 obtain⟨up,kp,dp⟩:=hp p
 rw[x1]at ux
 have Yi:=f.rin (g:=g) (x:=t) (by rw[hr];simp)
 have Tb:=(f.rm g t (by rw[hr];simp)).2.2.1
 obtain⟨cc,ltp,o1,q1,_⟩:=m.gm
 obtain⟨a0,a1,a2,a3,a4⟩:=m.rd vO
 obtain⟨b0,b1,b2,b3,b4⟩:=m.rd (x:=p) ⟨p0,p1⟩
 rw[ux]at a1
 rw[dp]at b3
 refine bm vu ?_
 refine v1 (ae o1) ?_
 refine⟨⟨by omega,by omega⟩,?_⟩
 refine v4 (ae m.places) aqa Nat.add_zero a1 ?_
 refine⟨⟨by omega,by omega⟩,?_⟩
 refine v4 (ae m.places) m.places aqa b3 ?_
 rw[wrap64 (by omega) (by omega)]
 obtain⟨L2,k2,m2,e2⟩:=m.Y7 (x:=p) ⟨p0,p1⟩ (((ch p).length:Int) - 1)
 refine⟨by omega,?_⟩
 refine vs ?_
 generalize H.wr B.tb ((aJ L).set (p.toNat*4+2) (i64 (((ch p).length:Int) - 1)))=H2 at*
 obtain⟨c0,_⟩:=m2.rd (x:=p) ⟨p0,p1⟩
 obtain⟨L3,k3,m3,e3⟩:=m2.eV (x:=p) ⟨p0,p1⟩ (-1)
 refine v2 m2.places aqa ?_
 refine⟨by omega,?_⟩
 refine vs ?_
 generalize H2.wr B.tb ((aJ L2).set (p.toNat*4+1) (Value.int .i64 (-1)))=H3 at*
 obtain⟨cc3,lt3,o3,q3,_⟩:=m3.gm
 refine v1 (ae o3) ?_
 refine(Ho m3.ring (x:=x) (by omega)).mono ?_
 rintro _ H' ⟨rfl,e⟩
 obtain rfl:=e.symm
 refine vs ?_
 have Dz:ag (fun z=>z=B.nb∨z=B.pb∨z=B.tb) H H3:=(e2.mono fun z _ h=>.inr (.inr h)).trans (e3.mono fun z _ h=>.inr (.inr h))
 have YV:l=[]∨∃A0 y,l=A0++[y]:=by
  rcases List.eq_nil_or_concat l with h| ⟨A0,y,h⟩
  ·exact .inl h
  ·exact .inr ⟨A0,y,by rw[h,List.concat_eq_append]⟩
 rcases YV with rfl| ⟨A0,y,rfl⟩
 ·have Li:cz N x=x:=Ln
  rw[Li]
  refine ar.cP (by simp) ?_
  refine vs ?_
  have m4:=m3
  have wF:=Dz
  obtain⟨L4,eL⟩:∃L4,L4=L3:=⟨_,rfl⟩
  rw[←eL]at m4 k3
  have k4x:fi L4 x=fi L x:=by rw[k3,k2];unfold mZ;rw[if_neg ep.symm,if_neg ep.symm]
  have k4p:fi L4 p=⟨(fi L p).u, -1,((ch p).length:Int) - 1,(fi L p).m⟩:=by rw[k3,k2];unfold mZ;rw[if_pos rfl,if_pos rfl]
  have k4o:∀z,z≠p→fi L4 z=fi L z:=fun z hz=>by rw[k3,k2];unfold mZ;rw[if_neg hz,if_neg hz]
  have AK:∀ {N5:List Int},cz N5=vL (cz N) x (cz P x)→eK (aG w) lt (cz N5) (aA ch p []) (aK par x (-1)) ay (x::W):=fun h=>by
   rw[h]
   have hpv:cz P x=x:=by
    have:=m.inv.pn x
    rwa[Li]at this
   rw[hpv,MV]
   have f2:=f1.aht sI
   rwa[fg]at f2
  obtain⟨cc4,lt4,o4,q4,_⟩:=m4.gm
  refine v1 (ae o4) ?_
  refine(oz m4.ring m4.inv (x:=x) (by omega)).mono ?_
  rintro _ H5 ⟨rfl,N5,P5,r5,l5,n5,i5,e5⟩
  have m5:=m4.vS r5 i5 e5 l5
  have f5:=AK n5
  obtain⟨cc5,lt5,o5,q5,_⟩:=m5.gm
  have hl5:=m5.len
  refine v1 (ae o5) ?_
  refine⟨⟨by omega,by omega⟩,?_⟩
  obtain⟨d0,_⟩:=m5.rd vO
  obtain⟨L6,k6,m6,e6⟩:=m5.aK vO (-1)
  refine v3 m5.places aqa Nat.add_zero ?_
  refine⟨by omega,?_⟩
  refine vs ?_
  generalize H5.wr B.tb ((aJ L4).set (x.toNat*4) (Value.int .i64 (-1)))=H6 at*
  have hl6:=m6.len
  refine⟨⟨by omega,by omega⟩,?_⟩
  obtain⟨g0,_⟩:=m6.rd vO
  obtain⟨L7,k7,m7,e7⟩:=m6.da vO false
  refine v3 m6.places aqa Nat.add_zero ?_
  refine⟨by omega,?_⟩
  refine vs ?_
  generalize H6.wr B.tb ((aJ L6).set (x.toNat*4+3) (Value.bool false))=H7 at*
  obtain⟨cc7,lt7,o7,q7,_⟩:=m7.gm
  have q8:=m7.fC q7 (eJ (tops:=tops) (h:=g) (by omega) dI)
  rw[ht]at q8
  have hl7:=m7.len
  refine v1 (ae o7) ?_
  refine⟨⟨by omega,by omega⟩,?_⟩
  refine v4 (ae q7) aqa aqd q8 ?_
  refine(dM m7.ring m7.inv (x:=t) (y:=x) (by omega) (by omega)).mono ?_
  rintro _ H8 ⟨rfl,N8,P8,r8,l8,n8,i8,e8⟩
  have m8:=m7.vS r8 i8 e8 l8
  have f8:=f5.S7 (t:=t) (A:=A) (by rw[hg];exact hr)
  rw[hg,←n8]at f8
  refine vs ?_
  refine⟨N8,P8,L7,[],m8,f8,fun z=>?_,B8,(((wF.trans (e5.mono fun z _ h=>h.elim .inl fun h=>.inr (.inl h))).trans (e6.mono fun z _ h=>.inr (.inr h))).trans (e7.mono fun z _ h=>.inr (.inr h))).trans (e8.mono fun z _ h=>h.elim .inl fun h=>.inr (.inl h))⟩
  rw[k7,k6]
  obtain⟨uz,kz,dz⟩:=hp z
  by_cases h1:z=x
  ·rw[h1]
   rw[h1]at kz dz
   unfold mZ aK aA
   simp only[if_true,if_neg ep.symm,k4x]
   exact⟨trivial,kz,dz⟩
  ·unfold mZ aK aA
   simp only[if_neg h1]
   by_cases h2:z=p
   ·rw[h2]
    simp only[if_true,if_neg ep,k4p]
    refine⟨up,rfl,?_⟩
    rw[o8];simp
   ·simp only[if_neg h2,k4o z h2]
    exact⟨uz,kz,dz⟩
 ·have VI:cz N x=(A0++[y]).headD (-1):=by
   cases A0 with
   |nil=>exact Ln.1
   |cons a A0=>exact Ln.1
  have Li:cz N x≠x:=fun e=>by
   have h1:=(aqu.1 gI).1
   apply h1
   rw[e]at VI
   cases A0 with
   |nil=>rw[VI];simp
   |cons a A0=>rw[VI];simp
  refine ar.dec (fun h=>absurd h Li) (fun _=>?_)
  obtain⟨r0,_⟩:=m3.rd (x:=p) ⟨p0,p1⟩
  obtain⟨L4,k4,m4,e4⟩:=m3.eV (x:=p) ⟨p0,p1⟩ (cz N x)
  refine v2 m3.places aqa ?_
  refine⟨by omega,?_⟩
  refine vs ?_
  generalize H3.wr B.tb ((aJ L3).set (p.toNat*4+1) (i64 (cz N x)))=H4 at*
  have wF:=Dz.trans (e4.mono fun z _ h=>.inr (.inr h))
  have k4x:fi L4 x=fi L x:=by rw[k4,k3,k2];unfold mZ;rw[if_neg ep.symm,if_neg ep.symm,if_neg ep.symm]
  have k4p:fi L4 p=⟨(fi L p).u,cz N x,((ch p).length:Int) - 1,(fi L p).m⟩:=by rw[k4,k3,k2];unfold mZ;rw[if_pos rfl,if_pos rfl,if_pos rfl]
  have k4o:∀z,z≠p→fi L4 z=fi L z:=fun z hz=>by rw[k4,k3,k2];unfold mZ;rw[if_neg hz,if_neg hz,if_neg hz]
  have AK:∀ {N5:List Int},cz N5=vL (cz N) x (cz P x)→eK (aG w) lt (cz N5) (aA ch p (A0++[y])) (aK par x (-1)) ay (x::W):=fun h=>by
   rw[h]
   have hpv:cz P x=y:=q9.last (A:=A0) m.inv Ln
   rw[hpv]
   have f2:=f1.off (A:=A0) (y:=y) sI
   rwa[fg]at f2
  obtain⟨cc4,lt4,o4,q4,_⟩:=m4.gm
  refine v1 (ae o4) ?_
  refine(oz m4.ring m4.inv (x:=x) (by omega)).mono ?_
  rintro _ H5 ⟨rfl,N5,P5,r5,l5,n5,i5,e5⟩
  have m5:=m4.vS r5 i5 e5 l5
  have f5:=AK n5
  obtain⟨cc5,lt5,o5,q5,_⟩:=m5.gm
  have hl5:=m5.len
  refine v1 (ae o5) ?_
  refine⟨⟨by omega,by omega⟩,?_⟩
  obtain⟨d0,_⟩:=m5.rd vO
  obtain⟨L6,k6,m6,e6⟩:=m5.aK vO (-1)
  refine v3 m5.places aqa Nat.add_zero ?_
  refine⟨by omega,?_⟩
  refine vs ?_
  generalize H5.wr B.tb ((aJ L4).set (x.toNat*4) (Value.int .i64 (-1)))=H6 at*
  have hl6:=m6.len
  refine⟨⟨by omega,by omega⟩,?_⟩
  obtain⟨g0,_⟩:=m6.rd vO
  obtain⟨L7,k7,m7,e7⟩:=m6.da vO false
  refine v3 m6.places aqa Nat.add_zero ?_
  refine⟨by omega,?_⟩
  refine vs ?_
  generalize H6.wr B.tb ((aJ L6).set (x.toNat*4+3) (Value.bool false))=H7 at*
  obtain⟨cc7,lt7,o7,q7,_⟩:=m7.gm
  have q8:=m7.fC q7 (eJ (tops:=tops) (h:=g) (by omega) dI)
  rw[ht]at q8
  have hl7:=m7.len
  refine v1 (ae o7) ?_
  refine⟨⟨by omega,by omega⟩,?_⟩
  refine v4 (ae q7) aqa aqd q8 ?_
  refine(dM m7.ring m7.inv (x:=t) (y:=x) (by omega) (by omega)).mono ?_
  rintro _ H8 ⟨rfl,N8,P8,r8,l8,n8,i8,e8⟩
  have m8:=m7.vS r8 i8 e8 l8
  have f8:=f5.S7 (t:=t) (A:=A) (by rw[hg];exact hr)
  rw[hg,←n8]at f8
  refine vs ?_
  refine⟨N8,P8,L7,(A0++[y]),m8,f8,fun z=>?_,B8,(((wF.trans (e5.mono fun z _ h=>h.elim .inl fun h=>.inr (.inl h))).trans (e6.mono fun z _ h=>.inr (.inr h))).trans (e7.mono fun z _ h=>.inr (.inr h))).trans (e8.mono fun z _ h=>h.elim .inl fun h=>.inr (.inl h))⟩
  rw[k7,k6]
  obtain⟨uz,kz,dz⟩:=hp z
  by_cases h1:z=x
  ·rw[h1]
   rw[h1]at kz dz
   unfold mZ aK aA
   simp only[if_true,if_neg ep.symm,k4x]
   exact⟨trivial,kz,dz⟩
  ·unfold mZ aK aA
   simp only[if_neg h1]
   by_cases h2:z=p
   ·rw[h2]
    simp only[if_true,if_neg ep,k4p]
    refine⟨up,VI,?_⟩
    rw[o8];simp
   ·simp only[if_neg h2,k4o z h2]
    exact⟨uz,kz,dz⟩
end
end Go.Proofs.YthpjfeolagohkaaGreat

namespace Go.Proofs.YthpjfeolagohkaaGreat
open Go Go.Vc
section
variable {H H' : Hp} {B : FB} {C V : Nat → Prop} {w : Nw} {N P : List Int} {L : List Pc} {tops : List Int} {ch : Int → List Int} {par : Int → Int} {ay : Int → List Int} {W : List Int}
theorem DZ(m:cd H B C w N P L tops){lt:Int→Int→Bool}(hs:bC lt){x g t:Int}{A:List Int}(f:eK (aG w) lt (cz N) ch par ay W)(hp:Lo (fi L) ch par)(hg:aG w x=g)(Tg:0<g)(dI:g<tops.length)(hr:ay g=t::A)(ht:bi tops g=t):
  af Tryz.prog pE [ptr B.n,i64 g,i64 x] H fun v H'=>ax (∃N' P' L' dS bD A',cd H' B C w N' P' L' tops∧eK (aG w) lt (cz N') dS bD (aA ay g (t::A')) W∧Lo (fi L') dS bD∧(∀z,par z= -1→bD z= -1)∧
   ag (fun z=>z=B.nb∨z=B.pb∨z=B.tb) H H'):=by
 have e0:aA ay g (t::A)=ay:=by
  funext z
  unfold aA
  split
  ·rename_i e;rw[e,hr]
  ·rfl
 refine bm pK ?_
 refine vs ?_
 refine aY.intro (fun mm env H'=>∃ (x:Int) (N' P':List Int) (L':List Pc) (dS:Int→List Int) (bD:Int→Int) (A':List Int),mm=Ol lt w.cs.length x∧aG w x=g∧cd H' B C w N' P' L' tops∧eK (aG w) lt (cz N') dS bD (aA ay g (t::A')) W∧Lo (fi L') dS bD∧(∀z,par z= -1→bD z= -1)∧
   ag (fun z=>z=B.nb∨z=B.pb∨z=B.tb) H H'∧env=[(0,ptr B.n),(1,i64 g),(2,i64 x)]) _ ⟨x,N,P,L,ch,par,A,rfl,hg,m,by rw[e0];exact f,hp,fun _ h=>h,ag.refl _ _,rfl⟩ ?_
 rintro mm env H1 ⟨y,N1,P1,L1,PW,yb,A1,rfl,hy,m1,f1,p1,u1,e1,rfl⟩
 obtain⟨y0,y1,_⟩:=aF (w:=w) (x:=y) (by omega)
 obtain⟨tv,o1,_⟩:=m1.own
 obtain⟨a0,a1,a2,a3,a4⟩:=m1.rd ⟨y0,y1⟩
 obtain⟨uy,_,_⟩:=p1 y
 have hl:=m1.len
 rw[uy]at a1
 refine v1 (ae o1) ?_
 refine⟨⟨by omega,by omega⟩,?_⟩
 refine v4 (ae m1.places) aqa Nat.add_zero a1 ?_
 refine ar.dec (fun h0=>?_) (fun h0=>?_)<;>refine v1 (ae o1) ?_
 ·exact⟨N1,P1,L1,PW,yb,A1,m1,f1,p1,u1,e1⟩
 refine⟨⟨by omega,by omega⟩,?_⟩
 refine v3 (ae m1.places) aqa a4 ?_
 have hyc:=f1.pr.up y _ rfl h0
 obtain⟨_,_,h3,h4,h5⟩:=f1.pr.dn _ _ hyc
 cases hm:(fi L1 y).m
 ·refine v1 (ae o1) ?_
  refine⟨⟨by omega,by omega⟩,?_⟩
  obtain⟨L2,k2,m2,e2⟩:=m1.da ⟨y0,y1⟩ true
  refine v2 m1.places aqa ?_
  refine⟨by omega,?_⟩
  refine vs ?_
  refine⟨N1,P1,L2,PW,yb,A1,m2,f1,fun z=>?_,u1,e1.trans (e2.mono fun z _ h=>.inr (.inr h))⟩
  rw[k2]
  unfold mZ
  split
  ·rename_i e;rw[e];exact p1 y
  ·exact p1 z
 ·refine v1 (ae o1) ?_
  refine⟨⟨by omega,by omega⟩,?_⟩
  refine v4 (ae m1.places) aqa Nat.add_zero a1 ?_
  refine(Ck m1 hs f1 p1 hyc hy dI (A:=A1) (by unfold aA;rw[if_pos rfl]) ht).mono ?_
  rintro _ H2 ⟨N2,P2,L2,l,m2,f2,p2,B8,e2⟩
  rw[fg]at f2
  refine vs ?_
  obtain⟨z0,z1,_⟩:=aF (w:=w) (x:=yb y) (by omega)
  refine⟨Ol lt w.cs.length (yb y),FM hs ⟨z0,by omega⟩ h5,yb y,N2,P2,L2,_,_,y::A1,rfl,by omega,m2,f2,p2,fun z hz=>?_,e1.trans e2,rfl⟩
  unfold aK
  split
  ·rfl
  ·exact u1 z hz
theorem Fw(m:cd H B C w N P L tops){lt:Int→Int→Bool}(hs:bC lt){x g t:Int}{A:List Int}(f:eK (aG w) lt (cz N) ch par ay W)(hp:Lo (fi L) ch par)(hg:aG w x=g)(Tg:0<g)(dI:g<tops.length)(hr:ay g=t::A)(ht:bi tops g=t):
  af Tryz.prog qt [ptr B.n,i64 g,i64 x] H fun v H'=>ax (∃N' P' L' dS bD A',cd H' B C w N' P' L' tops∧eK (aG w) lt (cz N') dS bD (aA ay g (t::A')) W∧Lo (fi L') dS bD∧bD x= -1∧(∀z,par z= -1→bD z= -1)∧
   ag (fun z=>z=B.nb∨z=B.pb∨z=B.tb) H H'):=by
 obtain⟨y0,y1,_⟩:=aF (w:=w) (x:=x) (by omega)
 obtain⟨tv,o1,_⟩:=m.own
 obtain⟨a0,a1,a2,a3,a4⟩:=m.rd ⟨y0,y1⟩
 obtain⟨uy,_,_⟩:=hp x
 have hl:=m.len
 rw[uy]at a1
 refine bm qN ?_
 refine v1 (ae o1) ?_
 refine⟨⟨by omega,by omega⟩,?_⟩
 refine v4 (ae m.places) aqa Nat.add_zero a1 ?_
 refine ar.dec (fun h0=>?_) (fun h0=>?_)<;>refine vs ?_
 ·have e0:aA ay g (t::A)=ay:=by
   funext z
   unfold aA
   split
   ·rename_i e;rw[e,hr]
   ·rfl
  exact⟨N,P,L,ch,par,A,m,by rw[e0];exact f,hp,h0,fun _ h=>h,ag.refl _ _⟩
 have hxc:=f.pr.up x _ rfl h0
 obtain⟨_,_,h3,h4,h5⟩:=f.pr.dn _ _ hxc
 refine(Ck m hs f hp hxc hg dI hr ht).mono ?_
 rintro _ H2 ⟨N2,P2,L2,l,m2,f2,p2,B8,e2⟩
 refine vs ?_
 refine(DZ m2 hs (x:=par x) (A:=x::A) f2 p2 (by omega) Tg dI (by unfold aA;rw[if_pos rfl]) ht).mono ?_
 rintro _ H3 ⟨N3,P3,L3,Nu,pV,A3,m3,f3,p3,u3,e3⟩
 rw[fg]at f3
 refine vs ?_
 exact⟨N3,P3,L3,Nu,pV,A3,m3,f3,p3,u3 x (by unfold aK;rw[if_pos rfl]),fun z hz=>u3 z (by unfold aK;split;rfl;exact hz),e2.trans e3⟩
end
end Go.Proofs.YthpjfeolagohkaaGreat

namespace Go.Proofs.YthpjfeolagohkaaGreat
open Go Go.Vc
theorem KV(a b:List Int):ws (a++b)=ws a++ws b:=by unfold ws;rw[asg]
theorem Tu{l:List Int}{d:Nat}{y v:Int}(h:l[d]? =some y):(ws [y]++ws (l.set d v)).Perm (ws [v]++ws l):=by
 have hd:=(aqc.1 h).1
 have e1:l=l.take d++y::l.drop (d+1):=by
  rw[aqb hd]at h
  injection h with h
  rw[←h,←aq7 hd,arF]
 have e2:l.set d v=l.take d++v::l.drop (d+1):=by
  rw[List.set_eq_take_append_cons_drop,if_pos hd]
 rw[e2]
 generalize ha:l.take d=a at*
 generalize hb:l.drop (d+1)=b at*
 rw[e1,KV,KV,mR v b,mR y b,arP]
 intro z
 simp only[arZ]
 omega
section
variable {H H' : Hp} {B : FB} {C V : Nat → Prop} {w : Nw} {N P : List Int} {L : List Pc} {tops : List Int} {ch : Int → List Int} {par : Int → Int} {ay : Int → List Int} {W : List Int}
structure Q8(w:Nw)(g:Int)(nx:Int→Int)(IF ch:Int→List Int)(par:Int→Int)(ay:Int→List Int)(qe rest W0:List Int):Prop where
 f:eK (aG w) (aQ w) nx ch par ay (ws qe++(rest++W0))
 td:∀ (d:Nat) y,qe[d]? =some y→y≠ -1→(ch y).length=d∧aG w y=g
 rh:∀y∈rest,aG w y=g
 c0:∀z∈W0,ch z=IF z
 tl:qe.length≤w.cs.length+1
theorem IX(m:cd H B C w N P L tops){roots W0:List Int}{g:Int}{b o rc:Nat}{lb:List Value}(hb:H.own b=some lb)(fU:∀ (i:Nat) y,roots[i]? =some y→lb[o+i]? =some (i64 y))(XZ:¬B.S C b)(t0:Q8 w g (cz N) ch ch par ay [] roots W0)(hp:Lo (fi L) ch par)(X6:roots.length≤65536):
  af Tryz.prog tY [ptr B.n,.slice (some ⟨b,o,none⟩) roots.length rc] H fun v H'=>ax (∃N' P' L' dS bD qe fq,cd H' B C w N' P' L' tops∧Q8 w g (cz N') ch dS bD ay qe [] W0∧Lo (fi L') dS bD∧
   Sl H' 1 v qe.length (qe.map i64) fq∧(∀z,fq=some z→H.size≤z)∧ag (fun z=>C z∨z=B.nb∨z=B.pb∨z=B.tb) H H'):=by
 have xW:=m.cells.Fe
 have Vo:=aB hb
 have hS:=m.slt
 have ls:=aw w
 have hTb:∀ {z:Nat},(C z∨z=B.nb∨z=B.pb∨z=B.tb)→B.S C z:=fun h=>by
  rcases h with h|h|h|h
  ·exact .inl h
  ·exact .inr (.inr (.inr (.inl h)))
  ·exact .inr (.inr (.inr (.inr (.inl h))))
  ·exact .inr (.inr (.inr (.inr (.inr (.inl h)))))
 refine bm ul ?_
 refine vs ?_
 refine aY.intro (fun mm env H'=>∃ (i:Nat) (N' P':List Int) (L':List Pc) (dS:Int→List Int) (bD:Int→Int) (qe:List Int) (wv:Value) (fq:Option Nat),mm=roots.length - i∧i≤roots.length∧cd H' B C w N' P' L' tops∧Q8 w g (cz N') ch dS bD ay qe (roots.drop i) W0∧Lo (fi L') dS bD∧
   Sl H' 1 wv qe.length (qe.map i64) fq∧(∀z,fq=some z→H.size≤z)∧ag (fun z=>C z∨z=B.nb∨z=B.pb∨z=B.tb∨H.size≤z) H H'∧
   env=[(0,ptr B.n),(5,wv),(10,.slice (some ⟨b,o,none⟩) roots.length rc),(11,i64 roots.length),(12,i64 i)]) _ ⟨0,N,P,L,ch,par,[],_,none,rfl,by omega,m,t0,hp,Sl.nil _ _,(fun z h=>by cases h),ag.refl _ _,rfl⟩ ?_
 rintro mm env H1 ⟨i,N1,P1,L1,PW,yb,qe,wv,fq,rfl,hi,m1,t1,p1,s1,Lp,e1,rfl⟩
 refine vs ?_
 refine ar.dec (fun gi=>?_) (fun gi=>?_)<;>refine vs ?_
 rotate_left
 ·obtain rfl:i=roots.length:=by omega
  rw[asc]at t1
  exact⟨N1,P1,L1,PW,yb,qe,fq,m1,t1,p1,s1,Lp,e1.mono fun z hz h=>by
   rcases h with h|h|h|h|h
   ·exact .inl h
   ·exact .inr (.inl h)
   ·exact .inr (.inr (.inl h))
   ·exact .inr (.inr (.inr h))
   ·omega⟩
 have ni:i<roots.length:=by omega
 obtain⟨x,hx⟩:∃x,roots[i]? =some x:=⟨_,aqb ni⟩
 have dr:roots.drop i=x::roots.drop (i+1):=by
  rw[aq7 ni]
  congr 1
  rw[aqb ni]at hx
  injection hx
 have ob:H1.own b=some lb:=e1.own hb (fun h=>by
  rcases h with h|h|h|h|h
  ·exact XZ (hTb (.inl h))
  ·exact XZ (hTb (.inr (.inl h)))
  ·exact XZ (hTb (.inr (.inr (.inl h))))
  ·exact XZ (hTb (.inr (.inr (.inr h))))
  ·omega)
 refine⟨⟨by omega,by omega⟩,?_⟩
 refine v4 (ae ob) aqd Int.toNat_natCast (fU i x hx) ?_
 rw[dr]at t1
 have ah0:x∈ws qe++(x::roots.drop (i+1)++W0):=by simp
 refine aY.intro (fun mm env H'=>∃ (x:Int) (N' P':List Int) (L':List Pc) (dS:Int→List Int) (bD:Int→Int) (qe:List Int) (wv:Value) (fq:Option Nat),mm=(ws qe).length∧cd H' B C w N' P' L' tops∧Q8 w g (cz N') ch dS bD ay qe (x::roots.drop (i+1)) W0∧Lo (fi L') dS bD∧
   Sl H' 1 wv qe.length (qe.map i64) fq∧(∀z,fq=some z→H.size≤z)∧ag (fun z=>C z∨z=B.nb∨z=B.pb∨z=B.tb∨H.size≤z) H H'∧
   env=[(0,ptr B.n),(5,wv),(7,i64 x),(10,.slice (some ⟨b,o,none⟩) roots.length rc),(11,i64 roots.length),(12,i64 i)]) _ ⟨x,N1,P1,L1,PW,yb,qe,wv,fq,rfl,m1,t1,p1,s1,Lp,e1,rfl⟩ ?_
 clear hx dr ah0 m1 t1 p1 s1 Lp e1 ob
 rintro mm env H2 ⟨x,N2,P2,L2,lK,jx,qe,wv,fq,rfl,m2,t2,p2,s2,Lp,e2,rfl⟩
 have vO:=t2.f.Tt (x:=x) (by simp)
 have PP:=t2.rh x (by simp)
 have tP:=m2.len
 obtain⟨tv,o2,_⟩:=m2.own
 obtain⟨a0,a1,a2,a3,a4⟩:=m2.rd vO
 rw[(p2 x).2.2]at a3
 have lJ:(lK x).length≤w.cs.length:=cf (t2.f.pr.nd x) fun c hc=>t2.f.HU hc
 refine v1 (ae o2) ?_
 refine⟨⟨by omega,by omega⟩,?_⟩
 refine v3 (ae m2.places) aqa a3 ?_
 refine aY.intro (fun mm env H'=>∃ (tb:List Int) (wv:Value) (fq:Option Nat),mm=(lK x).length+1 - tb.length∧ws tb=ws qe∧cd H' B C w N2 P2 L2 tops∧Q8 w g (cz N2) ch lK jx ay tb (x::roots.drop (i+1)) W0∧
   Sl H' 1 wv tb.length (tb.map i64) fq∧(∀z,fq=some z→H.size≤z)∧ag (fun z=>C z∨z=B.nb∨z=B.pb∨z=B.tb∨H.size≤z) H H'∧
   env=[(0,ptr B.n),(5,wv),(7,i64 x),(8,i64 (lK x).length),(10,.slice (some ⟨b,o,none⟩) roots.length rc),(11,i64 roots.length),(12,i64 i)]) _ ⟨qe,wv,fq,rfl,rfl,m2,t2,s2,Lp,e2,rfl⟩ ?_
 have XE:(ws qe).length≤w.cs.length:=by
  have h1:=cf t2.f.wn fun c hc=>t2.f.Tt hc
  rw[aqj]at h1
  omega
 clear t2 m2 s2 Lp e2 o2 a1 a2 a3 a4
 rintro mm env H3 ⟨tb,wv,fq,rfl,hws,m3,t3,s3,Lp,e3,rfl⟩
 have z3:=e3.size
 have Nt:=t3.tl
 obtain⟨wa,wc,rfl⟩:=Sl.shape s3
 refine vs ?_
 refine ar.dec (fun gd=>?_) (fun gd=>?_)<;>refine vs ?_
 ·refine BS (B:=H.size) Lp z3 s3 (-1) (by omega) fun w' H4 fq' Tv s4 e4=>?_
  refine vs ?_
  refine⟨(lK x).length+1 - (tb.length+1),by omega,tb++[-1],w',fq',by simp,by rw[KV,eO,if_pos rfl,aq2,hws],m3.ext e4 (fun z hz ed=>by have:=hS z hz;omega),⟨?_,fun d y hd hy=>?_,t3.rh,t3.c0,?_⟩,s4,Tv,e3.trans (e4.mono fun z _ h=>.inr (.inr (.inr (.inr h)))),rfl⟩
  ·rw[KV,eO,if_pos rfl,aq2];exact t3.f
  ·rcases arA d tb.length with h|h|h
   ·rw[aqs h]at hd;exact t3.td d y hd hy
   ·subst h
    rw[aqD (aqm _),ari]at hd
    simp at hd
    exact absurd hd.symm hy
   ·rw[aqo (by simp;omega)]at hd;cases hd
  ·rw[aqj,aqn];omega
 have kJ:(lK x).length<tb.length:=by omega
 obtain⟨y,hy⟩:∃y,tb[(lK x).length]? =some y:=⟨_,aqb kJ⟩
 obtain⟨_,qb,ql,rfl,q2,q3⟩:=Sl.Ao s3 hy
 have hqb:fq=some qb:=by
  cases fq with
  |none=>have:=s3.2.2;injection this with h1;cases h1
  |some b'=>obtain⟨_,_,h1,_⟩:=s3.2;injection h1 with h1;injection h1 with h1;injection h1 with h1;rw[h1]
 subst hqb
 have hqs:=Lp qb rfl
 have ana:=aB q2
 have hql:=(aqc.1 q3).1
 have hMq:∀z,B.S C z→z≠qb:=fun z hz e=>by have:=hS z hz;omega
 refine⟨⟨by omega,by omega⟩,?_⟩
 refine v5 (ae q2) aqa aqd Int.toNat_natCast q3 ?_
 refine ar.dec (fun gy=>?_) (fun gy=>?_)<;>refine vs ?_
 ·refine⟨⟨by omega,by omega⟩,?_⟩
  refine v4 q2 aqa aqd Int.toNat_natCast ?_
  refine⟨by omega,?_⟩
  have s4:=s3.qn q2 (lK x).length (i64 x)
  have e4:ag (fun z=>z=qb) H3 (H3.wr qb (ql.set (lK x).length (i64 x))):=(ag.refl (fun z=>z=qb) _).wr (fun _=>rfl) _
  refine vs ?_
  have B8:=Tu (v:=x) hy
  rw[eO y,if_pos gy,eO x,if_neg (t3.f.wne (c:=x) (by simp)),aq3]at B8
  have m4:=m3.ext e4 (fun z hz ed=>hMq z hz ed)
  have s5:Sl (H3.wr qb (ql.set (lK x).length (i64 x))) 1 (.slice (some ⟨qb,0,none⟩) (tb.set (lK x).length x).length wc) (tb.set (lK x).length x).length ((tb.set (lK x).length x).map i64) (some qb):=by
   rw[aqe,aqP];exact s4
  refine⟨roots.length - (i+1),by omega,i+1,N2,P2,L2,lK,jx,tb.set (lK x).length x,_,some qb,rfl,by omega,m4,⟨?_,fun d z hd hz=>?_,fun z hz=>t3.rh z (by simp[hz]),t3.c0,by rw[aqe];exact t3.tl⟩,p2,s5,Lp,e3.trans (e4.mono fun z _ h=>.inr (.inr (.inr (.inr (by omega))))),?_⟩
  ·refine t3.f.perm ?_
   rw[arP]at B8 ⊢
   intro z
   have:=B8 z
   simp only[arZ,are,arX]at this ⊢
   simp only[List.count_nil]at this
   omega
  ·by_cases h:d=(lK x).length
   ·rw[h,aqi kJ]at hd
    injection hd with hd
    subst hd
    exact⟨h.symm,PP⟩
   ·rw[aqh (Ne.symm h)]at hd
    exact t3.td d z hd hz
  ·rw[wrap64 (by omega) (by omega),aqe]
   rfl
 ·obtain⟨hyd,hyg⟩:=t3.td _ y hy gy
  have B8:=Tu (v:= -1) hy
  rw[eO y,if_neg gy,eO (-1),if_pos rfl,aq3]at B8
  obtain⟨IY,Tw⟩:∃IY,IY=tb.set (lK x).length (-1):=⟨_,rfl⟩
  have f4:eK (aG w) (aQ w) (cz N2) lK jx ay (y::x::(ws IY++(roots.drop (i+1)++W0))):=by
   refine t3.f.perm ?_
   rw[←Tw]at B8
   rw[arP]at B8 ⊢
   intro z
   have:=B8 z
   simp only[arZ,are,aq3,arX,List.count_nil]at this ⊢
   omega
  have aj6:(ws tb).length=(ws IY).length+1:=by
   rw[←Tw]at B8
   have:=B8.length_eq
   simp only[are,aq3,aqx]at this
   omega
  have htd:∀ (d:Nat) z,IY[d]? =some z→z≠ -1→(lK z).length=d∧aG w z=g:=fun d z hd hz=>by
   rw[Tw]at hd
   by_cases h:d=(lK x).length
   ·rw[h,aqi kJ]at hd
    injection hd with hd
    exact absurd hd.symm hz
   ·rw[aqh (Ne.symm h)]at hd
    exact t3.td d z hd hz
  refine⟨⟨by omega,by omega⟩,?_⟩
  refine v4 q2 aqa aqd Int.toNat_natCast ?_
  refine⟨by omega,?_⟩
  have s4:=s3.qn q2 (lK x).length (i64 (-1))
  have e4:ag (fun z=>z=qb) H3 (H3.wr qb (ql.set (lK x).length (i64 (-1)))):=(ag.refl (fun z=>z=qb) _).wr (fun _=>rfl) _
  have s5:Sl (H3.wr qb (ql.set (lK x).length (i64 (-1)))) 1 (.slice (some ⟨qb,0,none⟩) IY.length wc) IY.length (IY.map i64) (some qb):=by
   rw[Tw,aqe,aqP];exact s4
  have BU:IY.length=tb.length:=by rw[Tw,aqe]
  refine vs ?_
  have m4:=m3.ext e4 (fun z hz ed=>hMq z hz ed)
  generalize H3.wr qb (ql.set (lK x).length (Value.int .i64 (-1)))=H4 at*
  obtain⟨tv4,o4,_⟩:=m4.own
  refine v1 (ae o4) ?_
  refine(cN m4.cells y x).mono ?_
  rintro _ H5 ⟨rfl,c5,e5⟩
  have m5:=m4.aI c5 e5 rfl
  have oJ:y≠x:=fun e=>by have:=f4.wn;rw[e]at this;simp at this
  have Tb:0<aG w x:=(f4.wm x (by simp)).2.2
  rw[gX (w:=w) (a:=y) (b:=x) (by omega) Tb]
  have s6:=s5.ext e5 (fun z hz ed=>by injection hz with hz;exact hMq z (.inl ed) hz.symm)
  obtain⟨p,q,Rx,hl,f5,hpg⟩:∃p q,(if aQ w y x=true then(p=y∧q=x)else(p=x∧q=y))∧aQ w p q=true∧eK (aG w) (aQ w) (cz N2) lK jx ay (p::q::(ws IY++(roots.drop (i+1)++W0)))∧aG w p=g∧aG w q=g:=by
   cases aN:aQ w y x
   ·exact⟨x,y,by simp,(ls.PA x y oJ.symm).resolve_right (by rw[aN];simp),f4.perm (List.Perm.swap ..),PP,hyg⟩
   ·exact⟨y,x,by simp,aN,f4,hyg,PP⟩
  cases aN:aQ w y x<;>simp only[aN,if_true,if_false,ara]at Rx<;>obtain⟨rfl,rfl⟩:=Rx<;>refine vs ?_
  all_goals
   refine(Ht m5 (x:=p) (y:=q) f5 p2 (by omega) hl).mono ?_
   rintro _ H6 ⟨N6,P6,L6,ch6,OY,m6,f6,p6,hc6,ho6,e6⟩
   have hn6:=f6.wn
   rw[aqu]at hn6
   have s7:=s6.ext e6 (fun z hz ed=>by injection hz with hz;exact hMq z (hTb (.inr ed)) hz.symm)
   refine vs ?_
   refine⟨(ws IY).length,by rw[←hws];omega,p,N6,P6,L6,ch6,OY,IY,_,some qb,rfl,m6,⟨?_,fun d z hd hz=>?_,fun z hz=>?_,fun z hz=>?_,by rw[BU];exact t3.tl⟩,p6,s7,Lp,((e3.trans (e4.mono fun z _ h=>.inr (.inr (.inr (.inr (by omega)))))).trans (e5.mono fun z _ h=>.inl h)).trans (e6.mono fun z _ h=>by
    rcases h with h|h|h
    ·exact .inr (.inl h)
    ·exact .inr (.inr (.inl h))
    ·exact .inr (.inr (.inr (.inl h)))),by rw[BU]⟩
   ·refine f6.perm ?_
    rw[arP]
    intro z
    simp only[arZ,are,arX]
    omega
   ·have hzp:z≠p:=fun e=>hn6.1 (by
     rw[←e]
     refine aqH _ ?_
     unfold ws
     exact arK.2 ⟨aqg hd,by simp[hz]⟩)
    rw[ho6 z hzp]
    exact htd d z hd hz
   ·rcases aqC.1 hz with h|h
    ·rw[h];exact hpg.1
    ·exact t3.rh z (by simp[h])
   ·have hzp:z≠p:=fun e=>hn6.1 (by rw[←e];simp[hz])
    rw[ho6 z hzp]
    exact t3.c0 z hz
end
end Go.Proofs.YthpjfeolagohkaaGreat

namespace Go.Proofs.YthpjfeolagohkaaGreat
open Go Go.Vc
structure Y8(w:Nw)(N:List Int)(L:List Pc)(tops:List Int)(ch:Int→List Int)(par:Int→Int)(ay:Int→List Int):Prop where
 f:eK (aG w) (aQ w) (cz N) ch par ay []
 pc:Lo (fi L) ch par
 tp:∀g,bi tops g=(ay g).headD (-1)
 ls:∀g y,0<g→aG w y=g→bi tops g≠ -1∧(y≠bi tops g→aQ w (bi tops g) y=true)
 tl:tops.length=w.hs.length
def iO(n:Nat)(H:Hp)(S:Nat→Prop)(w:Nw):Prop:=∃ (B:FB) (C:Nat→Prop) (N P:List Int) (L:List Pc) (tops:List Int) (ch:Int→List Int) (par:Int→Int) (ay:Int→List Int),B.n=n∧cd H B C w N P L tops∧Y8 w N L tops ch par ay∧∀z,S z↔B.S C z
theorem iO.slt{n:Nat}{H:Hp}{S:Nat→Prop}{w:Nw}(h:iO n H S w):∀z,S z→z<H.size:=by
 obtain⟨B,C,N,P,L,tops,ch,par,ay,rfl,m,l,hS⟩:=h
 exact fun z hz=>m.slt z ((hS z).1 hz)
theorem iO.ext{n:Nat}{H H':Hp}{S V:Nat→Prop}{w:Nw}(h:iO n H S w)(e:ag V H H')(hd:∀z,S z→¬V z):iO n H' S w:=by
 obtain⟨B,C,N,P,L,tops,ch,par,ay,rfl,m,l,hS⟩:=h
 exact⟨B,C,N,P,L,tops,ch,par,ay,rfl,m.ext e (fun z hz=>hd z ((hS z).2 hz)),l,hS⟩
theorem Y8.first{w:Nw}{N:List Int}{L:List Pc}{tops:List Int}{ch:Int→List Int}{par:Int→Int}{ay:Int→List Int}(l:Y8 w N L tops ch par ay){g x:Int}(h:w.first g x):bi tops g=x:=by
 obtain⟨h1,h2,h3⟩:=bQ.1 h
 obtain⟨h4,h5⟩:=l.ls g x h1 h2
 apply aqt
 intro aR
 have h6:=h5 (Ne.symm aR)
 have ht:aG w (bi tops g)=g:=by
  have hm:bi tops g∈ay g:=by
   have:=l.tp g
   rw[this]at h4 ⊢
   exact eW h4
  exact(l.f.rm g _ hm).1
 have h7:=h3 _ ht aR
 rw[(aw w).asym h6]at h7
 cases h7
theorem Cl{n:Nat}{H:Hp}{S:Nat→Prop}{w:Nw}(h:iO n H S w)(g:Int):af Tryz.prog kW [ptr n,i64 g] H fun v H'=>ax (
  ((w.len g=0∧v= .tuple [i64 0,.bool false].toArray)∨∃x,w.first g x∧v= .tuple [i64 x,.bool true].toArray)∧H'=H):=by
 obtain⟨B,C,N,P,L,tops,ch,par,ay,rfl,m,l,hS⟩:=h
 obtain⟨cc,lt,ho,q2,sI,ww,PQ⟩:=m.gm
 refine bm vt ?_
 refine v1 (ae ho) ?_
 refine(vI m.cells g).mono ?_
 rintro _ _ ⟨rfl,rfl⟩
 refine vs ?_
 refine ar.dec (fun h0=>?_) (fun h0=>?_)
 ·refine vs ?_
  exact⟨.inl ⟨h0,rfl⟩,rfl⟩
 have hg:0<g:=aqt fun hg=>h0 (Nw.IN.2 (.inl (by omega)))
 obtain⟨x,hx⟩:=vH hg h0
 have hh:=(bQ.1 hx).2.1
 have dI:=((m.cells.hm x).2 (by omega)).2
 rw[hh,←l.tl]at dI
 have q3:=m.fC q2 (eJ (tops:=tops) (h:=g) (by omega) dI)
 rw[l.first hx]at q3
 refine v1 (ae ho) ?_
 refine⟨⟨by omega,by omega⟩,?_⟩
 refine v4 (ae q2) aqa aqd q3 ?_
 exact⟨.inr ⟨x,hx,rfl⟩,rfl⟩
theorem Fx{n:Nat}{H:Hp}{S:Nat→Prop}{w:Nw}(h:iO n H S w)(g x k s:Int):af Tryz.prog iF [ptr n,i64 g,i64 x,uw k s] H fun v H'=>ax (
  (¬w.lU g x∧v= .bool false∧cF (iO n) S H H' w)∨(w.lU g x∧v= .bool true∧cF (iO n) S H H' (w.put x (g,k,s)))):=by
 obtain⟨B,C,N,P,L,tops,ch,par,ay,rfl,m,l,hS⟩:=h
 have hC:∀z,C z→S z:=fun z h=>(hS z).2 (.inl h)
 refine bm qK ?_
 refine vs ?_
 have f0:ah H (H.new 182 [i64 k,u64 s]):=(ag.refl _ _).new _ _
 have b0:(H.new 182 [i64 k,u64 s]).own H.size=some [i64 k,u64 s]:=az _ _ _
 have m0:=m.fresh f0
 generalize H.new 182 [i64 k,u64 s]=H0 at*
 have ff:ag S H H0:=f0.mono fun _ _ h=>h.elim
 obtain⟨tv,IS,_⟩:=m0.own
 refine v2 (ae IS) (ae b0) ?_
 refine(lz m0.cells g x k s).mono ?_
 rintro _ H1 (⟨bO,rfl,c1,e1⟩| ⟨rq,rfl,c1,e1⟩)
 ·refine vs ?_
  exact .inl ⟨bO,rfl,cF.same ⟨B,C,N,P,L,tops,ch,par,ay,rfl,m0.aI c1 e1 rfl,l,hS⟩ (ff.trans (e1.mono fun z _ hz=>hC z hz))⟩
 obtain⟨hh,hx,bH⟩:=id rq
 have m2:=m0.aI c1 e1 (by simp[Nw.put])
 have hg:=hh.1
 have dI:g<tops.length:=by
  have:=(aqc.1 hh.2).1
  have:=l.tl
  omega
 have cU:=fun y=>eI hx (g,k,s) y
 have gB:aG w x≤0:=Int.not_lt.1 fun h=>bH (bA.1 h)
 have el:∀a b,0<aG w a→0<aG w b→a≠x→b≠x→aQ (w.put x (g,k,s)) a b=aQ w a b:=fun a b ha hb uH mI=>dU hx _ ha hb uH mI
 have f2:eK (aG (w.put x (g,k,s))) (aQ (w.put x (g,k,s))) (cz N) ch par ay (x::[]):=l.f.put (g:=g) rfl gB (by omega) (by omega) (by rw[cU,if_pos rfl]) (fun y hy=>by rw[cU,if_neg hy]) el
 refine vs ?_
 refine(yV m2 f2 (by rw[cU,if_pos rfl]) dI (l.tp g)).mono ?_
 rintro _ H3 ⟨N3,P3,adl,ll,m3,Q0,ht3,f3,Lj,IK,UH,hlT,e3⟩
 refine vs ?_
 have hhm:∀y,aG w y=g→y≠x:=fun y hy e=>by rw[e]at hy;omega
 have hTg:bi tops g≠ -1→aG w (bi tops g)=g:=fun h=>by
  have hm:bi tops g∈ay g:=by
   have:=l.tp g
   rw[this]at h ⊢
   exact eW h
  exact(l.f.rm g _ hm).1
 refine .inr ⟨rq,rfl,cF.same ⟨B,C,N3,P3,L,adl,ch,par,_,rfl,m3,⟨f3,l.pc,fun g2=>?_,fun g2 y CR hy=>?_,by rw[Q0];exact l.tl⟩,hS⟩ ((ff.trans (e1.mono fun z _ h=>hC z h)).trans (e3.mono fun z _ h=>by
  rcases h with h|h|h|h
  ·exact hC z h
  ·exact(hS z).2 (.inr (.inr (.inr (.inl h))))
  ·exact(hS z).2 (.inr (.inr (.inr (.inr (.inl h)))))
  ·exact(hS z).2 (.inr (.inr (.inr (.inr (.inr (.inr h))))))))⟩
 ·rw[ht3]
  unfold jj aA
  split
  ·rfl
  ·exact l.tp g2
 ·rw[ht3]
  unfold jj
  rw[cU]at hy
  by_cases h2:g2=g
  ·rw[if_pos h2]
   refine⟨IK,fun aR=>?_⟩
   by_cases oJ:y=x
   ·rw[oJ]at aR ⊢
    exact UH aR
   ·rw[if_neg oJ]at hy
    obtain⟨h3,h4⟩:=l.ls g y (by omega) (by omega)
    have hTx:=hhm _ (hTg h3)
    rcases Lj with h5| ⟨h5,_⟩
    ·rw[h5]at aR hlT ⊢
     have h6:=hlT h3 hTx
     by_cases hyT:y=bi tops g
     ·rw[hyT];exact h6
     ·have h7:=h4 hyT
      rw[←el _ _ (by rw[hTg h3];omega) (by omega) hTx oJ]at h7
      exact(aw _).tr _ _ _ h6 h7
    ·rw[h5]at aR ⊢
     rw[el _ _ (by rw[hTg h3];omega) (by omega) hTx oJ]
     exact h4 aR
  ·rw[if_neg h2]
   have oJ:y≠x:=fun e=>by rw[if_pos e]at hy;exact h2 hy.symm
   rw[if_neg oJ]at hy
   obtain⟨h3,h4⟩:=l.ls g2 y CR hy
   refine⟨h3,fun aR=>?_⟩
   have hTx:bi tops g2≠x:=fun e=>by
    have hm:bi tops g2∈ay g2:=by
     have:=l.tp g2
     rw[this]at h3 ⊢
     exact eW h3
    have h5:=(l.f.rm g2 _ hm).1
    rw[e]at h5
    omega
   have hT2:aG w (bi tops g2)=g2:=by
    have hm:bi tops g2∈ay g2:=by
     have:=l.tp g2
     rw[this]at h3 ⊢
     exact eW h3
    exact(l.f.rm g2 _ hm).1
   rw[el _ _ (by omega) (by omega) hTx oJ]
   exact h4 aR
theorem cd.bounds{H:Hp}{B:FB}{C:Nat→Prop}{w:Nw}{N P:List Int}{L:List Pc}{tops:List Int}(m:cd H B C w N P L tops):w.cs.length≤65536∧N.length=w.cs.length:=⟨m.cells.Fe,m.len.2⟩
theorem vU{w:Nw}:∀x,0<aG w x→0≤x∧x<w.cs.length:=fun x h=>by
 obtain⟨a,b,_⟩:=aF h
 exact⟨a,b⟩
theorem D1{n:Nat}{H:Hp}{S:Nat→Prop}{w:Nw}(h:iO n H S w)(g:Int):af Tryz.prog gS [ptr n,i64 g] H fun v H'=>ax (
  (w.len g=0∧v= .tuple [i64 0,.bool false].toArray∧cF (iO n) S H H' w)∨(∃x,w.first g x∧v= .tuple [i64 x,.bool true].toArray∧cF (iO n) S H H' (w.put x (0,0,0)))):=by
 refine bm pJ ?_
 refine vs ?_
 refine(Cl h g).mono ?_
 rintro _ H' ⟨⟨h0,rfl⟩| ⟨x,hx,rfl⟩,e⟩
 ·obtain rfl:=e.symm
  refine vs ?_
  exact .inl ⟨h0,rfl,cF.same h (ag.refl _ _)⟩
 obtain rfl:=e.symm
 refine vs ?_
 obtain⟨B,C,N,P,L,tops,ch,par,ay,rfl,m,l,hS⟩:=h
 obtain⟨hg,PP,lJ⟩:=bQ.1 hx
 have htx:=l.first hx
 have gB:=vU (w:=w) x (by omega)
 have ls:=aw w
 obtain⟨A,hr⟩:∃A,ay g=x::A:=by
  have h1:=l.tp g
  rw[htx]at h1
  cases hc:ay g with
  |nil=>rw[hc]at h1;exact absurd h1 (by show¬x= -1;omega)
  |cons c r=>rw[hc]at h1;exact⟨r,by rw[show x=c from h1]⟩
 have dI:g<tops.length:=by
  have:=((m.cells.hm x).2 (by omega)).2
  have:=l.tl
  omega
 refine(Hu m l.f l.pc hr).mono ?_
 rintro _ H1 ⟨N1,P1,L1,A1,m1,f1,p1,e1⟩
 have IZ:aA ay g (x::A1) g=x::A1:=by unfold aA;rw[if_pos rfl]
 obtain⟨DO,o1,_⟩:=m1.own
 obtain⟨yJ,hN1⟩:=m1.bounds
 have Ln:=f1.rc g
 have gI:=f1.rn g
 rw[IZ]at Ln gI
 have bH:∀c∈x::A1,0≤c∧c<w.cs.length:=fun c hc=>f1.rin (g:=g) (by rw[IZ];exact hc)
 have Ut:∀c∈x::A1,aG w c=g:=fun c hc=>(f1.rm g c (by rw[IZ];exact hc)).1
 have bf:=cf gI bH
 rw[aqx]at bf
 refine v1 (ae o1) ?_
 refine(pU m1.ring Ln gI (fun c hc=>by have:=bH c hc;omega) (by omega)).mono ?_
 rintro rv H2 ⟨b2,s2,oG,f2⟩
 obtain⟨ra,rc,rfl⟩:=Sl.shape s2
 have m2:=m1.fresh f2
 have z2:=f2.size
 obtain⟨OK,o2,_⟩:=m2.own
 have hS1:=m1.slt
 have ah3:¬B.S C b2:=fun h=>by have:=hS1 _ h;omega
 obtain⟨_,l2,c2,fh,q2,E6,YJ,Q1⟩:=id s2
 injection fh with fh anf ado
 subst fh ado
 rw[aqd]at YJ Q1
 have o8:(x::A1).length=A1.length+1:=aqx
 refine vs ?_
 refine⟨⟨by omega,by omega,by omega,by omega⟩,?_⟩
 refine vs ?_
 obtain⟨o,fU,RU⟩:∃o,(∀ (i:Nat) y,A1[i]? =some y→l2[o+i]? =some (i64 y))∧(Value.slice (if(rc:Int)=1 then some ⟨b2,0,none⟩else some ⟨b2,1,none⟩) A1.length (rc - 1))= .slice (some ⟨b2,o,none⟩) A1.length (rc - 1):=by
  rw[aqx]at E6 Q1
  by_cases h1:(rc:Int)=1
  ·refine⟨0,fun i y hy=>?_,by rw[if_pos h1]⟩
   have:=(aqc.1 hy).1
   omega
  ·refine⟨1,fun i y hy=>?_,by rw[if_neg h1]⟩
   have hi:=(aqc.1 hy).1
   have h7:((x::A1).map i64)[1+i]? =some (i64 y):=by rw[Nat.add_comm,aqY,aq6,aqz,hy];rfl
   rw[←Q1,aqG,if_pos (by omega)]at h7
   exact h7
 have hv8:∀ (Q9:Decidable ((rc:Int)=1)),Value.slice (@ite (Option Addr) ((rc:Int)=1) Q9 (some (⟨b2,0,none⟩:Addr)) (Option.map (fun(x:Addr)=>x.add (Int.toNat 1*1)) (some (⟨b2,0,none⟩:Addr)))) (((A1.length+1:Nat):Int).toNat - Int.toNat 1) ((rc:Int).toNat - Int.toNat 1)=Value.slice (some ⟨b2,o,none⟩) A1.length (rc - 1):=fun Q9=>by
  rw[show((A1.length+1:Nat):Int).toNat - Int.toNat 1=A1.length by simp,show(rc:Int).toNat - Int.toNat 1=rc - 1 by simp,←RU]
  by_cases h1:(rc:Int)=1
  ·rw[if_pos h1,if_pos h1]
  ·rw[if_neg h1,if_neg h1];rfl
 rw[hv8]
 generalize hR8:Value.slice (some ⟨b2,o,none⟩) A1.length (rc - 1)=R8 at*
 have WQ:S B.nb:=(hS _).2 (.inr (.inr (.inr (.inl rfl))))
 have IY:S B.pb:=(hS _).2 (.inr (.inr (.inr (.inr (.inl rfl)))))
 have tb3:S B.tb:=(hS _).2 (.inr (.inr (.inr (.inr (.inr (.inl rfl))))))
 have tb4:S B.tp:=(hS _).2 (.inr (.inr (.inr (.inr (.inr (.inr rfl))))))
 have hC:∀z,C z→S z:=fun z h=>(hS z).2 (.inl h)
 have pg:ag S H H2:=(e1.mono fun z _ h=>by
  rcases h with h|h|h
  ·exact h▸WQ
  ·exact h▸IY
  ·exact h▸tb3).trans (f2.mono fun _ _ h=>h.elim)
 refine v1 (ae o2) ?_
 refine(pU m2.ring Ln gI (fun c hc=>by have:=bH c hc;omega) (by omega)).mono ?_
 rintro rv H3 ⟨b3,s3,SP,f3⟩
 obtain⟨ka,kc,rfl⟩:=Sl.shape s3
 have m3:=m2.fresh f3
 have q3:=f3.own q2 (fun h=>h)
 have z3:=f3.size
 have Dz:ag S H H3:=pg.trans (f3.mono fun _ _ h=>h.elim)
 have ani:¬B.S C b3:=fun h=>by have:=hS1 _ h;omega
 have hSz:∀z,S z→z<H1.size:=fun z hz=>hS1 z ((hS z).1 hz)
 refine vs ?_
 refine aY.intro (fun mm env H'=>∃ (i:Nat) (N' P':List Int),mm=(x::A1).length - i∧i≤(x::A1).length∧cd H' B C w N' P' L1 tops∧eK (aG w) (aQ w) (cz N') (aA ch x []) (fP ch par x) (aA ay g ((x::A1).drop i)) ((x::A1).take i).reverse∧
  Sl H' 1 (.slice ka (x::A1).length kc) (x::A1).length ((x::A1).map i64) (some b3)∧ag (fun z=>z=B.nb∨z=B.pb) H3 H'∧
  env=[(0,ptr B.n),(1,i64 g),(6,i64 x),(8,R8),(36,.slice ka (x::A1).length kc),(37,i64 (x::A1).length),(38,i64 i)]) _ ⟨0,N1,P1,rfl,by omega,m3,f1,s3,ag.refl _ _,rfl⟩ ?_
 rintro mm env H4 ⟨i,N4,P4,rfl,hi,m4,f4,s4,e4,rfl⟩
 obtain⟨tv4,o4,_⟩:=m4.own
 refine vs ?_
 refine ar.dec (fun gi=>?_) (fun gi=>?_)<;>refine vs ?_
 ·have ni:i< (x::A1).length:=by omega
  obtain⟨c,MU⟩:∃c,(x::A1)[i]? =some c:=⟨_,aqb ni⟩
  have GH:=bH c (aqg MU)
  obtain⟨_,kb,lb,rfl,qb,qc⟩:=Sl.Ao s4 MU
  have hkb:kb=b3:=by
   obtain⟨_,_,_,hh,_⟩:=s4
   injection hh with hh
   injection hh with hh
   injection hh with hh
  have dr:(x::A1).drop i=c::(x::A1).drop (i+1):=by
   rw[aq7 ni]
   congr 1
   rw[aqb ni]at MU
   injection MU
  have tk:(x::A1).take (i+1)=(x::A1).take i++[c]:=by rw[aqS,MU];rfl
  have PX:=m4.len
  refine⟨⟨by omega,by omega⟩,?_⟩
  refine v6 (ae qb) aqa aqd Int.toNat_natCast qc (ae o4) ?_
  refine(oz m4.ring m4.inv (x:=c) (by omega)).mono ?_
  rintro _ H5 ⟨rfl,N5,P5,r5,l5,n5,i5,e5⟩
  have m5:=m4.vS r5 i5 e5 l5
  have f5:=f4.bj (x:=c) (g:=g) (A:=(x::A1).drop (i+1)) m4.inv (by unfold aA;rw[if_pos rfl];exact dr)
  rw[fg,←n5]at f5
  refine vs ?_
  refine⟨(x::A1).length - (i+1),by omega,i+1,N5,P5,rfl,by omega,m5,?_,s4.ext e5 (fun z hz h=>by
   injection hz with hz
   subst hz
   have h1:=hSz _ WQ
   have h2:=hSz _ IY
   omega),e4.trans e5,?_⟩
  ·rw[tk,List.reverse_append]
   exact f5
  ·rw[wrap64 (by omega) (by omega)]
   rfl
 obtain rfl:i=(x::A1).length:=by omega
 rw[asc,aqM]at f4
 have wF:ag S H H4:=Dz.trans (e4.mono fun z _ h=>by
  rcases h with h|h
  ·exact h▸WQ
  ·exact h▸IY)
 have z4:=e4.size
 have q4:=e4.own q3 (fun h=>by
  have h1:=hSz _ WQ
  have h2:=hSz _ IY
  omega)
 obtain⟨cc,lt4,o4',q5,sI,ww,PQ⟩:=m4.gm
 refine v1 (ae o4') ?_
 refine⟨⟨by omega,by omega⟩,?_⟩
 refine v3 q5 aqa aqd ?_
 refine⟨by omega,?_⟩
 obtain⟨m5,e5⟩:=m4.lC q5 g.toNat (-1)
 refine vs ?_
 have q6:=e5.own q4 (fun h=>by
  have h1:=hSz _ tb4
  omega)
 have Tk:=wF.trans (e5.mono fun z _ h=>h▸tb4)
 have z5:=e5.size
 generalize H4.wr B.tp (lt4.set g.toNat (Value.int .i64 (-1)))=H5 at*
 have t0:Q8 w g (cz N4) (aA ch x []) (aA ch x []) (fP ch par x) (aA ay g []) [] A1 [x]:=by
  refine⟨f4.perm ?_,fun d y hd=>by simp at hd,fun y hy=>Ut y (by simp[hy]),fun _ _=>rfl,by simp⟩
  show List.Perm _ (A1++[x])
  exact(List.reverse_perm _).trans (aru (l₁:=[x]) (l₂:=A1))
 have ah5:¬B.S C b2:=ah3
 subst hR8
 refine(IX m5 q6 fU ah5 t0 p1 (by omega)).mono ?_
 rintro tv H6 ⟨N6,P6,L6,ch6,OY,qe,fq,m6,t6,p6,s6,Lp,e6⟩
 obtain⟨ta,tc,rfl⟩:=Sl.shape s6
 have Nt:=t6.tl
 have JD:ag S H H6:=Tk.trans (e6.mono fun z _ h=>by
  rcases h with h|h|h|h
  ·exact hC z h
  ·exact h▸WQ
  ·exact h▸IY
  ·exact h▸tb3)
 refine vs ?_
 have hf6:=t6.f
 rw[aq3]at hf6
 have Y9:bi (tops.set g.toNat (-1))=jj (bi tops) g (([]:List Int).headD (-1)):=eZ (by omega) dI (-1)
 refine aY.intro (fun mm env H'=>∃ (i:Nat) (N' P' Hs l':List Int),mm=qe.length - i∧i≤qe.length∧cd H' B C w N' P' L6 Hs∧Hs.length=tops.length∧bi Hs=jj (bi tops) g (l'.headD (-1))∧
  eK (aG w) (aQ w) (cz N') ch6 OY (aA ay g l') (ws (qe.drop i)++[x])∧
  (∀c,aG w c=g→OY c= -1→c∉ws (qe.drop i)++[x]→l'.headD (-1)≠ -1∧(c≠l'.headD (-1)→aQ w (l'.headD (-1)) c=true))∧
  Sl H' 1 (.slice ta qe.length tc) qe.length (qe.map i64) fq∧ag S H6 H'∧
  env=[(0,ptr B.n),(1,i64 g),(6,i64 x),(57,.slice ta qe.length tc),(58,i64 qe.length),(59,i64 i)]) _ ⟨0,N6,P6,_,[],rfl,by omega,m6,by rw[aqe],Y9,hf6,fun c h1 h2 h3=>?_,s6,ag.refl _ _,rfl⟩ ?_
 ·exfalso
  rcases hf6.E5 c (by omega) h2 with h4|h4
  ·rw[h1]at h4
   unfold aA at h4
   rw[if_pos rfl]at h4
   cases h4
  ·exact h3 h4
 rintro mm env H7 ⟨i,N7,P7,M8,l7,rfl,hi7,m7,hl7,ht7,f7,d7,s7,e7,rfl⟩
 have ank:qe.length≤65537:=by omega
 refine vs ?_
 refine ar.dec (fun gi=>?_) (fun gi=>?_)<;>refine vs ?_
 ·have ni:i<qe.length:=by omega
  obtain⟨r,hrr⟩:∃r,qe[i]? =some r:=⟨_,aqb ni⟩
  obtain⟨_,kb,lb,rfl,qb,qc⟩:=Sl.Ao s7 hrr
  have hkb:fq=some kb:=by
   cases fq with
   |none=>have:=s7.2.2;injection this with h1;cases h1
   |some b'=>obtain⟨_,_,h1,_⟩:=s7.2;injection h1 with h1;injection h1 with h1;injection h1 with h1;rw[h1]
  have anl:=Lp kb hkb
  have dr:qe.drop i=r::qe.drop (i+1):=by
   rw[aq7 ni]
   congr 1
   rw[aqb ni]at hrr
   injection hrr
  refine⟨⟨by omega,by omega⟩,?_⟩
  refine v5 (ae qb) aqa aqd Int.toNat_natCast qc ?_
  rw[dr,mR,eO]at f7 d7
  refine ar.dec (fun gr=>?_) (fun gr=>?_)<;>refine vs ?_
  rotate_left
  ·rw[if_neg gr]at f7 d7
   simp only[are,aq3]at f7 d7
   obtain⟨_,tM⟩:=t6.td i r hrr gr
   have htg:bi M8 g=l7.headD (-1):=by rw[ht7];unfold jj;rw[if_pos rfl]
   refine(yV m7 f7 tM (by omega) (by rw[htg];unfold aA;rw[if_pos rfl])).mono ?_
   rintro _ H8 ⟨N8,P8,adq,l8,m8,hl8,ht8,f8,Lj,IK,UH,hlT,e8⟩
   rw[fg]at f8
   rw[htg]at hlT
   have e8':ag S H7 H8:=e8.mono fun z _ h=>by
    rcases h with h|h|h|h
    ·exact hC z h
    ·exact h▸WQ
    ·exact h▸IY
    ·exact h▸tb4
   refine vs ?_
   refine⟨qe.length - (i+1),by omega,i+1,N8,P8,adq,l8,rfl,by omega,m8,by omega,?_,f8,fun c h1 h2 h3=>⟨IK,fun aR=>?_⟩,s7.ext e8' (fun z hz h=>by
    rw[hkb]at hz
    injection hz with hz
    subst hz
    have:=hSz _ h
    omega),e7.trans e8',?_⟩
   ·rw[ht8,ht7]
    funext z
    unfold jj
    split<;>rfl
   ·by_cases hcr:c=r
    ·rw[hcr]at aR ⊢
     exact UH aR
    ·obtain⟨h4,h5⟩:=d7 c h1 h2 (by
      simp only[aqC,not_or]
      exact⟨hcr,h3⟩)
     by_cases h6:l7.headD (-1)=l8.headD (-1)
     ·rw[←h6]at aR ⊢
      exact h5 aR
     ·have h7:=hlT h4 h6
      by_cases h8:c=l7.headD (-1)
      ·rw[h8];exact h7
      ·exact ls.tr _ _ _ h7 (h5 h8)
   ·rw[wrap64 (by omega) (by omega)]
    rfl
  ·rw[if_pos gr]at f7 d7
   rw[aq3]at f7 d7
   refine⟨qe.length - (i+1),by omega,i+1,N7,P7,M8,l7,rfl,by omega,m7,hl7,ht7,f7,d7,s7,e7,?_⟩
   rw[wrap64 (by omega) (by omega)]
   rfl
 obtain rfl:i=qe.length:=by omega
 rw[asc]at f7 d7
 have hw0:ws ([]:List Int)++[x]=[x]:=rfl
 rw[hw0]at f7 d7
 obtain⟨tv7,o7,_⟩:=m7.own
 refine v1 (ae o7) ?_
 refine(cw m7.cells x).mono ?_
 have ah7:df w.cs x:=bA.1 (by omega)
 rintro _ H8 (⟨bO,_,_⟩| ⟨_,rfl,c8,e8⟩)
 ·exact absurd ah7 bO
 have m8:=m7.aI c8 e8 (by simp[Nw.put])
 refine vs ?_
 have cU:=fun y=>eI (w:=w) gB (0,0,0) y
 have w0:aG (w.put x (0,0,0)) (-1)=0:=rfl
 have w1:aG (w.put x (0,0,0)) x=0:=by rw[cU,if_pos rfl]
 have w2:∀y,y≠x→aG (w.put x (0,0,0)) y=aG w y:=fun y hy=>by rw[cU,if_neg hy]
 have el:∀a b,0<aG w a→0<aG w b→a≠x→b≠x→aQ (w.put x (0,0,0)) a b=aQ w a b:=fun a b ha hb uH mI=>dU gB _ ha hb uH mI
 have f8:=f7.drop (hm':=aG (w.put x (0,0,0))) (lt':=aQ (w.put x (0,0,0))) (by
  rw[t6.c0 x (by simp)]
  unfold aA
  rw[if_pos rfl]) w0 w1 w2 el
 have hrm:∀g2 c,c∈aA ay g l7 g2→aG w c=g2∧c≠x:=fun g2 c hc=>by
  obtain⟨h1,_,_,h4⟩:=f7.rm g2 c hc
  exact⟨h1,fun e=>h4 (by simp[e])⟩
 refine .inr ⟨x,hx,rfl,cF.same ⟨B,C,N7,P7,L6,M8,ch6,OY,_,rfl,m8,⟨f8,p6,fun g2=>?_,fun g2 y CR hy=>?_,by rw[hl7];exact l.tl⟩,hS⟩ ((JD.trans e7).trans (e8.mono fun z _ h=>hC z h))⟩
 ·rw[ht7]
  unfold jj aA
  split
  ·rfl
  ·exact l.tp g2
 ·by_cases h2:g2=g
  ·have htg:bi M8 g2=l7.headD (-1):=by rw[ht7,h2];unfold jj;rw[if_pos rfl]
   rw[htg]
   refine f8.pr.lead (aw _) (fun z hz=>vU z hz) CR (fun c hc hcp=>?_) hy
   have AI:c≠x:=fun e=>by rw[e,w1]at hc;omega
   rw[w2 c AI]at hc
   obtain⟨h3,h4⟩:=d7 c (by omega) hcp (by simp[AI])
   refine⟨h3,fun aR=>?_⟩
   obtain⟨h5,h6⟩:=hrm g _ (show l7.headD (-1)∈aA ay g l7 g by unfold aA;rw[if_pos rfl];exact eW h3)
   rw[el _ _ (by omega) (by omega) h6 AI]
   exact h4 aR
  ·have htg:bi M8 g2=bi tops g2:=by rw[ht7];unfold jj;rw[if_neg h2]
   rw[htg]
   have oJ:y≠x:=fun e=>by rw[e,w1]at hy;omega
   rw[w2 y oJ]at hy
   obtain⟨h3,h4⟩:=l.ls g2 y CR hy
   refine⟨h3,fun aR=>?_⟩
   have h5:aG w (bi tops g2)=g2:=by
    have hm:bi tops g2∈ay g2:=by
     have:=l.tp g2
     rw[this]at h3 ⊢
     exact eW h3
    exact(l.f.rm g2 _ hm).1
   rw[el _ _ (by omega) (by omega) (fun e=>by rw[e]at h5;omega) oJ]
   exact h4 aR
end Go.Proofs.YthpjfeolagohkaaGreat
