/- Texts put behind each other. -/
import Derived.Test.YtjlnnljohemifaaGreatK98
import Derived.Test.YtjlnnljohemifaaGreatK4
import Derived.Test.YtjlnnljohemifaaGreatK29
import Derived.Test.YtjlnnljohemifaaGreatK34
set_option maxRecDepth 100000
set_option maxHeartbeats 8000000
set_option linter.unusedVariables false
set_option linter.unusedSimpArgs false
namespace Go.Proofs.YtjlnnljohemifaaGreat
open Go Go.Vc
section
variable {H H' : Hp} {B : FB} {C V : Nat → Prop} {w : Nw} {N P : List Int} {L : List Pc} {tops : List Int} {ch : Int → List Int} {par : Int → Int} {ax : Int → List Int} {W : List Int}
theorem Bf(m:bT H B C w N P L tops){lt:Int→Int→Bool}(hs:bv lt){x p g t:Int}{A:List Int}(f:dV (aG w) lt (ce N) ch par ax W)(hp:JX (eC L) ch par)(hx:x∈ch p)(hg:aG w x=g)(di:g<tops.length)(hr:ax g=t::A)(ht:bi tops g=t):
  af Tryz.prog tZ [ptr B.n,i64 g,i64 x] H fun v H'=>aw (∃N' P' L' l,bT H' B C w N' P' L' tops∧dV (aG w) lt (ce N') (ay ch p l) (aI par x (-1)) (ay ax g (t::x::A)) W∧JX (eC L') (ay ch p l) (aI par x (-1))∧(ch p).Perm (x::l)∧
   ag (fun z=>z=B.nb∨z=B.pb∨z=B.tb) H H'):=by
 obtain⟨x1,x2,x3,x4,x5⟩:=f.pr.dn p x hx
 have dF:p≠x:=fun e=>by rw[e,hs.vk]at x5;cases x5
 have uJ:=f.GA hx
 obtain⟨p0,p1,_⟩:=aD (w:=w) (x:=p) (by omega)
 have aX:=m.len
 have wY:=m.cells.DY
 have nO:(ch p).length≤w.cs.length:=bV (f.pr.nd p) fun c hc=>f.GA hc
 obtain⟨l,vw,Be⟩:=(f.cy p).from hx
 have gk:=vw.nodup_iff.1 (f.pr.nd p)
 have oK:(ch p).length=l.length+1:=by rw[vw.length_eq,anO]
 have f1:=f.aaV vw Be
 have xF:ay ch p (x::l) p=x::l:=by unfold ay;rw[if_pos rfl]
 obtain⟨ux,_,_⟩:=hp x
 obtain⟨up,kp,dp⟩:=hp p
 rw[x1]at ux
 have htr:=f.rin (g:=g) (x:=t) (by rw[hr];simp)
 have RY:=(f.rm g t (by rw[hr];simp)).2.2.1
 obtain⟨cc,ltp,o1,q1,_⟩:=m.fN
 obtain⟨a0,a1,a2,a3,a4⟩:=m.rd uJ
 obtain⟨b0,b1,b2,b3,b4⟩:=m.rd (x:=p) ⟨p0,p1⟩
 rw[ux]at a1
 rw[dp]at b3
 refine bm ur ?_
 refine v1 (ae o1) ?_
 refine⟨⟨by omega,by omega⟩,?_⟩
 refine v4 (ae m.places) ant Nat.add_zero a1 ?_
 refine⟨⟨by omega,by omega⟩,?_⟩
 refine v4 (ae m.places) m.places ant b3 ?_
 rw[wrap64 (by omega) (by omega)]
 obtain⟨L2,k2,m2,e2⟩:=m.W3 (x:=p) ⟨p0,p1⟩ (((ch p).length:Int) - 1)
 refine⟨by omega,?_⟩
 refine vs ?_
 generalize H.wr B.tb ((aK L).set (p.toNat*4+2) (i64 (((ch p).length:Int) - 1)))=H2 at*
 obtain⟨c0,_⟩:=m2.rd (x:=p) ⟨p0,p1⟩
 obtain⟨L3,k3,m3,e3⟩:=m2.eo (x:=p) ⟨p0,p1⟩ (-1)
 refine v2 m2.places ant ?_
 refine⟨by omega,?_⟩
 refine vs ?_
 generalize H2.wr B.tb ((aK L2).set (p.toNat*4+1) (Value.int .i64 (-1)))=H3 at*
 obtain⟨cc3,lt3,o3,q3,_⟩:=m3.fN
 refine v1 (ae o3) ?_
 refine(F2 m3.ring (x:=x) (by omega)).mono ?_
 rintro _ H' ⟨rfl,e⟩
 obtain rfl:=e.symm
 refine vs ?_
 have D4:ag (fun z=>z=B.nb∨z=B.pb∨z=B.tb) H H3:=(e2.mono fun z _ h=>.inr (.inr h)).trans (e3.mono fun z _ h=>.inr (.inr h))
 have WQ:l=[]∨∃A0 y,l=A0++[y]:=by
  rcases List.eq_nil_or_concat l with h| ⟨A0,y,h⟩
  ·exact .inl h
  ·exact .inr ⟨A0,y,by rw[h,List.concat_eq_append]⟩
 rcases WQ with rfl| ⟨A0,y,rfl⟩
 ·have JU:ce N x=x:=Be
  rw[JU]
  refine am.cF (by simp) ?_
  refine vs ?_
  have m4:=m3
  have vt:=D4
  obtain⟨L4,eL⟩:∃L4,L4=L3:=⟨_,rfl⟩
  rw[←eL]at m4 k3
  have k4x:eC L4 x=eC L x:=by rw[k3,k2];unfold mE;rw[if_neg dF.symm,if_neg dF.symm]
  have k4p:eC L4 p=⟨(eC L p).u, -1,((ch p).length:Int) - 1,(eC L p).m⟩:=by rw[k3,k2];unfold mE;rw[if_pos rfl,if_pos rfl]
  have k4o:∀z,z≠p→eC L4 z=eC L z:=fun z hz=>by rw[k3,k2];unfold mE;rw[if_neg hz,if_neg hz]
  have Gw:∀ {N5:List Int},ce N5=zq (ce N) x (ce P x)→dV (aG w) lt (ce N5) (ay ch p []) (aI par x (-1)) ax (x::W):=fun h=>by
   rw[h]
   have hpv:ce P x=x:=by
    have:=m.inv.pn x
    rwa[JU]at this
   rw[hpv,LC]
   have f2:=f1.afw xF
   rwa[eB]at f2
  obtain⟨cc4,lt4,o4,q4,_⟩:=m4.fN
  refine v1 (ae o4) ?_
  refine(nI m4.ring m4.inv (x:=x) (by omega)).mono ?_
  rintro _ H5 ⟨rfl,N5,P5,r5,l5,n5,i5,e5⟩
  have m5:=m4.uN r5 i5 e5 l5
  have f5:=Gw n5
  obtain⟨cc5,lt5,o5,q5,_⟩:=m5.fN
  have hl5:=m5.len
  refine v1 (ae o5) ?_
  refine⟨⟨by omega,by omega⟩,?_⟩
  obtain⟨d0,_⟩:=m5.rd uJ
  obtain⟨L6,k6,m6,e6⟩:=m5.aI uJ (-1)
  refine v3 m5.places ant Nat.add_zero ?_
  refine⟨by omega,?_⟩
  refine vs ?_
  generalize H5.wr B.tb ((aK L4).set (x.toNat*4) (Value.int .i64 (-1)))=H6 at*
  have hl6:=m6.len
  refine⟨⟨by omega,by omega⟩,?_⟩
  obtain⟨g0,_⟩:=m6.rd uJ
  obtain⟨L7,k7,m7,e7⟩:=m6.cU uJ false
  refine v3 m6.places ant Nat.add_zero ?_
  refine⟨by omega,?_⟩
  refine vs ?_
  generalize H6.wr B.tb ((aK L6).set (x.toNat*4+3) (Value.bool false))=H7 at*
  obtain⟨cc7,lt7,o7,q7,_⟩:=m7.fN
  have q8:=m7.eO q7 (dT (tops:=tops) (h:=g) (by omega) di)
  rw[ht]at q8
  have hl7:=m7.len
  refine v1 (ae o7) ?_
  refine⟨⟨by omega,by omega⟩,?_⟩
  refine v4 (ae q7) ant anw q8 ?_
  refine(dk m7.ring m7.inv (x:=t) (y:=x) (by omega) (by omega)).mono ?_
  rintro _ H8 ⟨rfl,N8,P8,r8,l8,n8,i8,e8⟩
  have m8:=m7.uN r8 i8 e8 l8
  have f8:=f5.RZ (t:=t) (A:=A) (by rw[hg];exact hr)
  rw[hg,←n8]at f8
  refine vs ?_
  refine⟨N8,P8,L7,[],m8,f8,fun z=>?_,vw,(((vt.trans (e5.mono fun z _ h=>h.elim .inl fun h=>.inr (.inl h))).trans (e6.mono fun z _ h=>.inr (.inr h))).trans (e7.mono fun z _ h=>.inr (.inr h))).trans (e8.mono fun z _ h=>h.elim .inl fun h=>.inr (.inl h))⟩
  rw[k7,k6]
  obtain⟨uz,kz,dz⟩:=hp z
  by_cases h1:z=x
  ·rw[h1]
   rw[h1]at kz dz
   unfold mE aI ay
   simp only[if_true,if_neg dF.symm,k4x]
   exact⟨trivial,kz,dz⟩
  ·unfold mE aI ay
   simp only[if_neg h1]
   by_cases h2:z=p
   ·rw[h2]
    simp only[if_true,if_neg dF,k4p]
    refine⟨up,rfl,?_⟩
    rw[oK];simp
   ·simp only[if_neg h2,k4o z h2]
    exact⟨uz,kz,dz⟩
 ·have TZ:ce N x=(A0++[y]).headD (-1):=by
   cases A0 with
   |nil=>exact Be.1
   |cons a A0=>exact Be.1
  have JU:ce N x≠x:=fun e=>by
   have h1:=(anN.1 gk).1
   apply h1
   rw[e]at TZ
   cases A0 with
   |nil=>rw[TZ];simp
   |cons a A0=>rw[TZ];simp
  refine am.dec (fun h=>absurd h JU) (fun _=>?_)
  obtain⟨r0,_⟩:=m3.rd (x:=p) ⟨p0,p1⟩
  obtain⟨L4,k4,m4,e4⟩:=m3.eo (x:=p) ⟨p0,p1⟩ (ce N x)
  refine v2 m3.places ant ?_
  refine⟨by omega,?_⟩
  refine vs ?_
  generalize H3.wr B.tb ((aK L3).set (p.toNat*4+1) (i64 (ce N x)))=H4 at*
  have vt:=D4.trans (e4.mono fun z _ h=>.inr (.inr h))
  have k4x:eC L4 x=eC L x:=by rw[k4,k3,k2];unfold mE;rw[if_neg dF.symm,if_neg dF.symm,if_neg dF.symm]
  have k4p:eC L4 p=⟨(eC L p).u,ce N x,((ch p).length:Int) - 1,(eC L p).m⟩:=by rw[k4,k3,k2];unfold mE;rw[if_pos rfl,if_pos rfl,if_pos rfl]
  have k4o:∀z,z≠p→eC L4 z=eC L z:=fun z hz=>by rw[k4,k3,k2];unfold mE;rw[if_neg hz,if_neg hz,if_neg hz]
  have Gw:∀ {N5:List Int},ce N5=zq (ce N) x (ce P x)→dV (aG w) lt (ce N5) (ay ch p (A0++[y])) (aI par x (-1)) ax (x::W):=fun h=>by
   rw[h]
   have hpv:ce P x=y:=vu.last (A:=A0) m.inv Be
   rw[hpv]
   have f2:=f1.off (A:=A0) (y:=y) xF
   rwa[eB]at f2
  obtain⟨cc4,lt4,o4,q4,_⟩:=m4.fN
  refine v1 (ae o4) ?_
  refine(nI m4.ring m4.inv (x:=x) (by omega)).mono ?_
  rintro _ H5 ⟨rfl,N5,P5,r5,l5,n5,i5,e5⟩
  have m5:=m4.uN r5 i5 e5 l5
  have f5:=Gw n5
  obtain⟨cc5,lt5,o5,q5,_⟩:=m5.fN
  have hl5:=m5.len
  refine v1 (ae o5) ?_
  refine⟨⟨by omega,by omega⟩,?_⟩
  obtain⟨d0,_⟩:=m5.rd uJ
  obtain⟨L6,k6,m6,e6⟩:=m5.aI uJ (-1)
  refine v3 m5.places ant Nat.add_zero ?_
  refine⟨by omega,?_⟩
  refine vs ?_
  generalize H5.wr B.tb ((aK L4).set (x.toNat*4) (Value.int .i64 (-1)))=H6 at*
  have hl6:=m6.len
  refine⟨⟨by omega,by omega⟩,?_⟩
  obtain⟨g0,_⟩:=m6.rd uJ
  obtain⟨L7,k7,m7,e7⟩:=m6.cU uJ false
  refine v3 m6.places ant Nat.add_zero ?_
  refine⟨by omega,?_⟩
  refine vs ?_
  generalize H6.wr B.tb ((aK L6).set (x.toNat*4+3) (Value.bool false))=H7 at*
  obtain⟨cc7,lt7,o7,q7,_⟩:=m7.fN
  have q8:=m7.eO q7 (dT (tops:=tops) (h:=g) (by omega) di)
  rw[ht]at q8
  have hl7:=m7.len
  refine v1 (ae o7) ?_
  refine⟨⟨by omega,by omega⟩,?_⟩
  refine v4 (ae q7) ant anw q8 ?_
  refine(dk m7.ring m7.inv (x:=t) (y:=x) (by omega) (by omega)).mono ?_
  rintro _ H8 ⟨rfl,N8,P8,r8,l8,n8,i8,e8⟩
  have m8:=m7.uN r8 i8 e8 l8
  have f8:=f5.RZ (t:=t) (A:=A) (by rw[hg];exact hr)
  rw[hg,←n8]at f8
  refine vs ?_
  refine⟨N8,P8,L7,(A0++[y]),m8,f8,fun z=>?_,vw,(((vt.trans (e5.mono fun z _ h=>h.elim .inl fun h=>.inr (.inl h))).trans (e6.mono fun z _ h=>.inr (.inr h))).trans (e7.mono fun z _ h=>.inr (.inr h))).trans (e8.mono fun z _ h=>h.elim .inl fun h=>.inr (.inl h))⟩
  rw[k7,k6]
  obtain⟨uz,kz,dz⟩:=hp z
  by_cases h1:z=x
  ·rw[h1]
   rw[h1]at kz dz
   unfold mE aI ay
   simp only[if_true,if_neg dF.symm,k4x]
   exact⟨trivial,kz,dz⟩
  ·unfold mE aI ay
   simp only[if_neg h1]
   by_cases h2:z=p
   ·rw[h2]
    simp only[if_true,if_neg dF,k4p]
    refine⟨up,TZ,?_⟩
    rw[oK];simp
   ·simp only[if_neg h2,k4o z h2]
    exact⟨uz,kz,dz⟩
end
end Go.Proofs.YtjlnnljohemifaaGreat

namespace Go.Proofs.YtjlnnljohemifaaGreat
open Go Go.Vc
section
variable {H H' : Hp} {B : FB} {C V : Nat → Prop} {w : Nw} {N P : List Int} {L : List Pc} {tops : List Int} {ch : Int → List Int} {par : Int → Int} {ax : Int → List Int} {W : List Int}
theorem CK(m:bT H B C w N P L tops){lt:Int→Int→Bool}(hs:bv lt){x g t:Int}{A:List Int}(f:dV (aG w) lt (ce N) ch par ax W)(hp:JX (eC L) ch par)(hg:aG w x=g)(RL:0<g)(di:g<tops.length)(hr:ax g=t::A)(ht:bi tops g=t):
  af Tryz.prog oD [ptr B.n,i64 g,i64 x] H fun v H'=>aw (∃N' P' L' dU bF A',bT H' B C w N' P' L' tops∧dV (aG w) lt (ce N') dU bF (ay ax g (t::A')) W∧JX (eC L') dU bF∧(∀z,par z= -1→bF z= -1)∧
   ag (fun z=>z=B.nb∨z=B.pb∨z=B.tb) H H'):=by
 have e0:ay ax g (t::A)=ax:=by
  funext z
  unfold ay
  split
  ·rename_i e;rw[e,hr]
  ·rfl
 refine bm oI ?_
 refine vs ?_
 refine bk.intro (fun mm env H'=>∃ (x:Int) (N' P':List Int) (L':List Pc) (dU:Int→List Int) (bF:Int→Int) (A':List Int),mm=MU lt w.cs.length x∧aG w x=g∧bT H' B C w N' P' L' tops∧dV (aG w) lt (ce N') dU bF (ay ax g (t::A')) W∧JX (eC L') dU bF∧(∀z,par z= -1→bF z= -1)∧
   ag (fun z=>z=B.nb∨z=B.pb∨z=B.tb) H H'∧env=[(0,ptr B.n),(1,i64 g),(2,i64 x)]) _ ⟨x,N,P,L,ch,par,A,rfl,hg,m,by rw[e0];exact f,hp,fun _ h=>h,ag.refl _ _,rfl⟩ ?_
 rintro mm env H1 ⟨y,N1,P1,L1,Ox,xe,A1,rfl,hy,m1,f1,p1,u1,e1,rfl⟩
 obtain⟨y0,y1,_⟩:=aD (w:=w) (x:=y) (by omega)
 obtain⟨tv,o1,_⟩:=m1.own
 obtain⟨a0,a1,a2,a3,a4⟩:=m1.rd ⟨y0,y1⟩
 obtain⟨uy,_,_⟩:=p1 y
 have hl:=m1.len
 rw[uy]at a1
 refine v1 (ae o1) ?_
 refine⟨⟨by omega,by omega⟩,?_⟩
 refine v4 (ae m1.places) ant Nat.add_zero a1 ?_
 refine am.dec (fun h0=>?_) (fun h0=>?_)<;>refine v1 (ae o1) ?_
 ·exact⟨N1,P1,L1,Ox,xe,A1,m1,f1,p1,u1,e1⟩
 refine⟨⟨by omega,by omega⟩,?_⟩
 refine v3 (ae m1.places) ant a4 ?_
 have hyc:=f1.pr.up y _ rfl h0
 obtain⟨_,_,h3,h4,h5⟩:=f1.pr.dn _ _ hyc
 cases hm:(eC L1 y).m
 ·refine v1 (ae o1) ?_
  refine⟨⟨by omega,by omega⟩,?_⟩
  obtain⟨L2,k2,m2,e2⟩:=m1.cU ⟨y0,y1⟩ true
  refine v2 m1.places ant ?_
  refine⟨by omega,?_⟩
  refine vs ?_
  refine⟨N1,P1,L2,Ox,xe,A1,m2,f1,fun z=>?_,u1,e1.trans (e2.mono fun z _ h=>.inr (.inr h))⟩
  rw[k2]
  unfold mE
  split
  ·rename_i e;rw[e];exact p1 y
  ·exact p1 z
 ·refine v1 (ae o1) ?_
  refine⟨⟨by omega,by omega⟩,?_⟩
  refine v4 (ae m1.places) ant Nat.add_zero a1 ?_
  refine(Bf m1 hs f1 p1 hyc hy di (A:=A1) (by unfold ay;rw[if_pos rfl]) ht).mono ?_
  rintro _ H2 ⟨N2,P2,L2,l,m2,f2,p2,vw,e2⟩
  rw[eB]at f2
  refine vs ?_
  obtain⟨z0,z1,_⟩:=aD (w:=w) (x:=xe y) (by omega)
  refine⟨MU lt w.cs.length (xe y),ED hs ⟨z0,by omega⟩ h5,xe y,N2,P2,L2,_,_,y::A1,rfl,by omega,m2,f2,p2,fun z hz=>?_,e1.trans e2,rfl⟩
  unfold aI
  split
  ·rfl
  ·exact u1 z hz
theorem Ej(m:bT H B C w N P L tops){lt:Int→Int→Bool}(hs:bv lt){x g t:Int}{A:List Int}(f:dV (aG w) lt (ce N) ch par ax W)(hp:JX (eC L) ch par)(hg:aG w x=g)(RL:0<g)(di:g<tops.length)(hr:ax g=t::A)(ht:bi tops g=t):
  af Tryz.prog pG [ptr B.n,i64 g,i64 x] H fun v H'=>aw (∃N' P' L' dU bF A',bT H' B C w N' P' L' tops∧dV (aG w) lt (ce N') dU bF (ay ax g (t::A')) W∧JX (eC L') dU bF∧bF x= -1∧(∀z,par z= -1→bF z= -1)∧
   ag (fun z=>z=B.nb∨z=B.pb∨z=B.tb) H H'):=by
 obtain⟨y0,y1,_⟩:=aD (w:=w) (x:=x) (by omega)
 obtain⟨tv,o1,_⟩:=m.own
 obtain⟨a0,a1,a2,a3,a4⟩:=m.rd ⟨y0,y1⟩
 obtain⟨uy,_,_⟩:=hp x
 have hl:=m.len
 rw[uy]at a1
 refine bm pU ?_
 refine v1 (ae o1) ?_
 refine⟨⟨by omega,by omega⟩,?_⟩
 refine v4 (ae m.places) ant Nat.add_zero a1 ?_
 refine am.dec (fun h0=>?_) (fun h0=>?_)<;>refine vs ?_
 ·have e0:ay ax g (t::A)=ax:=by
   funext z
   unfold ay
   split
   ·rename_i e;rw[e,hr]
   ·rfl
  exact⟨N,P,L,ch,par,A,m,by rw[e0];exact f,hp,h0,fun _ h=>h,ag.refl _ _⟩
 have hxc:=f.pr.up x _ rfl h0
 obtain⟨_,_,h3,h4,h5⟩:=f.pr.dn _ _ hxc
 refine(Bf m hs f hp hxc hg di hr ht).mono ?_
 rintro _ H2 ⟨N2,P2,L2,l,m2,f2,p2,vw,e2⟩
 refine vs ?_
 refine(CK m2 hs (x:=par x) (A:=x::A) f2 p2 (by omega) RL di (by unfold ay;rw[if_pos rfl]) ht).mono ?_
 rintro _ H3 ⟨N3,P3,L3,Me,oR,A3,m3,f3,p3,u3,e3⟩
 rw[eB]at f3
 refine vs ?_
 exact⟨N3,P3,L3,Me,oR,A3,m3,f3,p3,u3 x (by unfold aI;rw[if_pos rfl]),fun z hz=>u3 z (by unfold aI;split;rfl;exact hz),e2.trans e3⟩
end
end Go.Proofs.YtjlnnljohemifaaGreat

namespace Go.Proofs.YtjlnnljohemifaaGreat
open Go Go.Vc
theorem JA(a b:List Int):ws (a++b)=ws a++ws b:=by unfold ws;rw[apd]
theorem R0{l:List Int}{d:Nat}{y v:Int}(h:l[d]? =some y):(ws [y]++ws (l.set d v)).Perm (ws [v]++ws l):=by
 have hd:=(anu.1 h).1
 have e1:l=l.take d++y::l.drop (d+1):=by
  rw[ans hd]at h
  injection h with h
  rw[←h,←aoK hd,List.take_append_drop]
 have e2:l.set d v=l.take d++v::l.drop (d+1):=by
  rw[List.set_eq_take_append_cons_drop,if_pos hd]
 rw[e2]
 generalize ha:l.take d=a at*
 generalize hb:l.drop (d+1)=b at*
 rw[e1,JA,JA,mz v b,mz y b,ao7]
 intro z
 simp only[apj]
 omega
section
variable {H H' : Hp} {B : FB} {C V : Nat → Prop} {w : Nw} {N P : List Int} {L : List Pc} {tops : List Int} {ch : Int → List Int} {par : Int → Int} {ax : Int → List Int} {W : List Int}
structure PM(w:Nw)(g:Int)(nx:Int→Int)(Hx ch:Int→List Int)(par:Int→Int)(ax:Int→List Int)(pg rest W0:List Int):Prop where
 f:dV (aG w) (aQ w) nx ch par ax (ws pg++(rest++W0))
 td:∀ (d:Nat) y,pg[d]? =some y→y≠ -1→(ch y).length=d∧aG w y=g
 rh:∀y∈rest,aG w y=g
 c0:∀z∈W0,ch z=Hx z
 tl:pg.length≤w.cs.length+1
theorem HD(m:bT H B C w N P L tops){roots W0:List Int}{g:Int}{b o rc:Nat}{lb:List Value}(hb:H.own b=some lb)(fA:∀ (i:Nat) y,roots[i]? =some y→lb[o+i]? =some (i64 y))(We:¬B.S C b)(t0:PM w g (ce N) ch ch par ax [] roots W0)(hp:JX (eC L) ch par)(Wj:roots.length≤65536):
  af Tryz.prog sR [ptr B.n,.slice (some ⟨b,o,none⟩) roots.length rc] H fun v H'=>aw (∃N' P' L' dU bF pg fq,bT H' B C w N' P' L' tops∧PM w g (ce N') ch dU bF ax pg [] W0∧JX (eC L') dU bF∧
   Sl H' 1 v pg.length (pg.map i64) fq∧(∀z,fq=some z→H.size≤z)∧ag (fun z=>C z∨z=B.nb∨z=B.pb∨z=B.tb) H H'):=by
 have wY:=m.cells.DY
 have U5:=aA hb
 have hS:=m.slt
 have ls:=ar w
 have hTb:∀ {z:Nat},(C z∨z=B.nb∨z=B.pb∨z=B.tb)→B.S C z:=fun h=>by
  rcases h with h|h|h|h
  ·exact .inl h
  ·exact .inr (.inr (.inr (.inl h)))
  ·exact .inr (.inr (.inr (.inr (.inl h))))
  ·exact .inr (.inr (.inr (.inr (.inr (.inl h)))))
 refine bm th ?_
 refine vs ?_
 refine bk.intro (fun mm env H'=>∃ (i:Nat) (N' P':List Int) (L':List Pc) (dU:Int→List Int) (bF:Int→Int) (pg:List Int) (wv:Value) (fq:Option Nat),mm=roots.length - i∧i≤roots.length∧bT H' B C w N' P' L' tops∧PM w g (ce N') ch dU bF ax pg (roots.drop i) W0∧JX (eC L') dU bF∧
   Sl H' 1 wv pg.length (pg.map i64) fq∧(∀z,fq=some z→H.size≤z)∧ag (fun z=>C z∨z=B.nb∨z=B.pb∨z=B.tb∨H.size≤z) H H'∧
   env=[(0,ptr B.n),(5,wv),(10,.slice (some ⟨b,o,none⟩) roots.length rc),(11,i64 roots.length),(12,i64 i)]) _ ⟨0,N,P,L,ch,par,[],_,none,rfl,by omega,m,t0,hp,Sl.nil _ _,(fun z h=>by cases h),ag.refl _ _,rfl⟩ ?_
 rintro mm env H1 ⟨i,N1,P1,L1,Ox,xe,pg,wv,fq,rfl,hi,m1,t1,p1,s1,JY,e1,rfl⟩
 refine vs ?_
 refine am.dec (fun gi=>?_) (fun gi=>?_)<;>refine vs ?_
 rotate_left
 ·obtain rfl:i=roots.length:=by omega
  rw[List.drop_length]at t1
  exact⟨N1,P1,L1,Ox,xe,pg,fq,m1,t1,p1,s1,JY,e1.mono fun z hz h=>by
   rcases h with h|h|h|h|h
   ·exact .inl h
   ·exact .inr (.inl h)
   ·exact .inr (.inr (.inl h))
   ·exact .inr (.inr (.inr h))
   ·omega⟩
 have mI:i<roots.length:=by omega
 obtain⟨x,hx⟩:∃x,roots[i]? =some x:=⟨_,ans mI⟩
 have dr:roots.drop i=x::roots.drop (i+1):=by
  rw[aoK mI]
  congr 1
  rw[ans mI]at hx
  injection hx
 have ob:H1.own b=some lb:=e1.own hb (fun h=>by
  rcases h with h|h|h|h|h
  ·exact We (hTb (.inl h))
  ·exact We (hTb (.inr (.inl h)))
  ·exact We (hTb (.inr (.inr (.inl h))))
  ·exact We (hTb (.inr (.inr (.inr h))))
  ·omega)
 refine⟨⟨by omega,by omega⟩,?_⟩
 refine v4 (ae ob) anw Int.toNat_natCast (fA i x hx) ?_
 rw[dr]at t1
 have afx:x∈ws pg++(x::roots.drop (i+1)++W0):=by simp
 refine bk.intro (fun mm env H'=>∃ (x:Int) (N' P':List Int) (L':List Pc) (dU:Int→List Int) (bF:Int→Int) (pg:List Int) (wv:Value) (fq:Option Nat),mm=(ws pg).length∧bT H' B C w N' P' L' tops∧PM w g (ce N') ch dU bF ax pg (x::roots.drop (i+1)) W0∧JX (eC L') dU bF∧
   Sl H' 1 wv pg.length (pg.map i64) fq∧(∀z,fq=some z→H.size≤z)∧ag (fun z=>C z∨z=B.nb∨z=B.pb∨z=B.tb∨H.size≤z) H H'∧
   env=[(0,ptr B.n),(5,wv),(7,i64 x),(10,.slice (some ⟨b,o,none⟩) roots.length rc),(11,i64 roots.length),(12,i64 i)]) _ ⟨x,N1,P1,L1,Ox,xe,pg,wv,fq,rfl,m1,t1,p1,s1,JY,e1,rfl⟩ ?_
 clear hx dr afx m1 t1 p1 s1 JY e1 ob
 rintro mm env H2 ⟨x,N2,P2,L2,lq,jm,pg,wv,fq,rfl,m2,t2,p2,s2,JY,e2,rfl⟩
 have uJ:=t2.f.RX (x:=x) (by simp)
 have Om:=t2.rh x (by simp)
 have rU:=m2.len
 obtain⟨tv,o2,_⟩:=m2.own
 obtain⟨a0,a1,a2,a3,a4⟩:=m2.rd uJ
 rw[(p2 x).2.2]at a3
 have my:(lq x).length≤w.cs.length:=bV (t2.f.pr.nd x) fun c hc=>t2.f.GA hc
 refine v1 (ae o2) ?_
 refine⟨⟨by omega,by omega⟩,?_⟩
 refine v3 (ae m2.places) ant a3 ?_
 refine bk.intro (fun mm env H'=>∃ (tb:List Int) (wv:Value) (fq:Option Nat),mm=(lq x).length+1 - tb.length∧ws tb=ws pg∧bT H' B C w N2 P2 L2 tops∧PM w g (ce N2) ch lq jm ax tb (x::roots.drop (i+1)) W0∧
   Sl H' 1 wv tb.length (tb.map i64) fq∧(∀z,fq=some z→H.size≤z)∧ag (fun z=>C z∨z=B.nb∨z=B.pb∨z=B.tb∨H.size≤z) H H'∧
   env=[(0,ptr B.n),(5,wv),(7,i64 x),(8,i64 (lq x).length),(10,.slice (some ⟨b,o,none⟩) roots.length rc),(11,i64 roots.length),(12,i64 i)]) _ ⟨pg,wv,fq,rfl,rfl,m2,t2,s2,JY,e2,rfl⟩ ?_
 have VO:(ws pg).length≤w.cs.length:=by
  have h1:=bV t2.f.wn fun c hc=>t2.f.RX hc
  rw[anD]at h1
  omega
 clear t2 m2 s2 JY e2 o2 a1 a2 a3 a4
 rintro mm env H3 ⟨tb,wv,fq,rfl,hws,m3,t3,s3,JY,e3,rfl⟩
 have z3:=e3.size
 have Mc:=t3.tl
 obtain⟨wa,wc,rfl⟩:=Sl.shape s3
 refine vs ?_
 refine am.dec (fun gd=>?_) (fun gd=>?_)<;>refine vs ?_
 ·refine AO (B:=H.size) JY z3 s3 (-1) (by omega) fun w' H4 fq' R1 s4 e4=>?_
  refine vs ?_
  refine⟨(lq x).length+1 - (tb.length+1),by omega,tb++[-1],w',fq',by simp,by rw[JA,dX,if_pos rfl,aon,hws],m3.ext e4 (fun z hz dM=>by have:=hS z hz;omega),⟨?_,fun d y hd hy=>?_,t3.rh,t3.c0,?_⟩,s4,R1,e3.trans (e4.mono fun z _ h=>.inr (.inr (.inr (.inr h)))),rfl⟩
  ·rw[JA,dX,if_pos rfl,aon];exact t3.f
  ·rcases aoU d tb.length with h|h|h
   ·rw[anJ h]at hd;exact t3.td d y hd hy
   ·subst h
    rw[anX (anG _),aoI]at hd
    simp at hd
    exact absurd hd.symm hy
   ·rw[anK (by simp;omega)]at hd;cases hd
  ·rw[anD,anM];omega
 have jv:(lq x).length<tb.length:=by omega
 obtain⟨y,hy⟩:∃y,tb[(lq x).length]? =some y:=⟨_,ans jv⟩
 obtain⟨_,qb,ql,rfl,q2,q3⟩:=Sl.zg s3 hy
 have hqb:fq=some qb:=by
  cases fq with
  |none=>have:=s3.2.2;injection this with h1;cases h1
  |some b'=>obtain⟨_,_,h1,_⟩:=s3.2;injection h1 with h1;injection h1 with h1;injection h1 with h1;rw[h1]
 subst hqb
 have hqs:=JY qb rfl
 have akp:=aA q2
 have hql:=(anu.1 q3).1
 have hMq:∀z,B.S C z→z≠qb:=fun z hz e=>by have:=hS z hz;omega
 refine⟨⟨by omega,by omega⟩,?_⟩
 refine v5 (ae q2) ant anw Int.toNat_natCast q3 ?_
 refine am.dec (fun gy=>?_) (fun gy=>?_)<;>refine vs ?_
 ·refine⟨⟨by omega,by omega⟩,?_⟩
  refine v4 q2 ant anw Int.toNat_natCast ?_
  refine⟨by omega,?_⟩
  have s4:=s3.tQ q2 (lq x).length (i64 x)
  have e4:ag (fun z=>z=qb) H3 (H3.wr qb (ql.set (lq x).length (i64 x))):=(ag.refl (fun z=>z=qb) _).wr (fun _=>rfl) _
  refine vs ?_
  have vw:=R0 (v:=x) hy
  rw[dX y,if_pos gy,dX x,if_neg (t3.f.YS (c:=x) (by simp)),aoB]at vw
  have m4:=m3.ext e4 (fun z hz dM=>hMq z hz dM)
  have s5:Sl (H3.wr qb (ql.set (lq x).length (i64 x))) 1 (.slice (some ⟨qb,0,none⟩) (tb.set (lq x).length x).length wc) (tb.set (lq x).length x).length ((tb.set (lq x).length x).map i64) (some qb):=by
   rw[anv,aoh];exact s4
  refine⟨roots.length - (i+1),by omega,i+1,N2,P2,L2,lq,jm,tb.set (lq x).length x,_,some qb,rfl,by omega,m4,⟨?_,fun d z hd hz=>?_,fun z hz=>t3.rh z (by simp[hz]),t3.c0,by rw[anv];exact t3.tl⟩,p2,s5,JY,e3.trans (e4.mono fun z _ h=>.inr (.inr (.inr (.inr (by omega))))),?_⟩
  ·refine t3.f.perm ?_
   rw[ao7]at vw ⊢
   intro z
   have:=vw z
   simp only[apj,aoD,apg]at this ⊢
   simp only[List.count_nil]at this
   omega
  ·by_cases h:d=(lq x).length
   ·rw[h,anB jv]at hd
    injection hd with hd
    subst hd
    exact⟨h.symm,Om⟩
   ·rw[anA (Ne.symm h)]at hd
    exact t3.td d z hd hz
  ·rw[wrap64 (by omega) (by omega),anv]
   rfl
 ·obtain⟨hyd,hyg⟩:=t3.td _ y hy gy
  have vw:=R0 (v:= -1) hy
  rw[dX y,if_neg gy,dX (-1),if_pos rfl,aoB]at vw
  obtain⟨HE,R2⟩:∃HE,HE=tb.set (lq x).length (-1):=⟨_,rfl⟩
  have f4:dV (aG w) (aQ w) (ce N2) lq jm ax (y::x::(ws HE++(roots.drop (i+1)++W0))):=by
   refine t3.f.perm ?_
   rw[←R2]at vw
   rw[ao7]at vw ⊢
   intro z
   have:=vw z
   simp only[apj,aoD,aoB,apg,List.count_nil]at this ⊢
   omega
  have ahL:(ws tb).length=(ws HE).length+1:=by
   rw[←R2]at vw
   have:=vw.length_eq
   simp only[aoD,aoB,anO]at this
   omega
  have htd:∀ (d:Nat) z,HE[d]? =some z→z≠ -1→(lq z).length=d∧aG w z=g:=fun d z hd hz=>by
   rw[R2]at hd
   by_cases h:d=(lq x).length
   ·rw[h,anB jv]at hd
    injection hd with hd
    exact absurd hd.symm hz
   ·rw[anA (Ne.symm h)]at hd
    exact t3.td d z hd hz
  refine⟨⟨by omega,by omega⟩,?_⟩
  refine v4 q2 ant anw Int.toNat_natCast ?_
  refine⟨by omega,?_⟩
  have s4:=s3.tQ q2 (lq x).length (i64 (-1))
  have e4:ag (fun z=>z=qb) H3 (H3.wr qb (ql.set (lq x).length (i64 (-1)))):=(ag.refl (fun z=>z=qb) _).wr (fun _=>rfl) _
  have s5:Sl (H3.wr qb (ql.set (lq x).length (i64 (-1)))) 1 (.slice (some ⟨qb,0,none⟩) HE.length wc) HE.length (HE.map i64) (some qb):=by
   rw[R2,anv,aoh];exact s4
  have CL:HE.length=tb.length:=by rw[R2,anv]
  refine vs ?_
  have m4:=m3.ext e4 (fun z hz dM=>hMq z hz dM)
  generalize H3.wr qb (ql.set (lq x).length (Value.int .i64 (-1)))=H4 at*
  obtain⟨tv4,o4,_⟩:=m4.own
  refine v1 (ae o4) ?_
  refine(cD m4.cells y x).mono ?_
  rintro _ H5 ⟨rfl,c5,e5⟩
  have m5:=m4.aJ c5 e5 rfl
  have mJ:y≠x:=fun e=>by have:=f4.wn;rw[e]at this;simp at this
  have RY:0<aG w x:=(f4.wm x (by simp)).2.2
  rw[gN (w:=w) (a:=y) (b:=x) (by omega) RY]
  have s6:=s5.ext e5 (fun z hz dM=>by injection hz with hz;exact hMq z (.inl dM) hz.symm)
  obtain⟨p,q,NP,hl,f5,hpg⟩:∃p q,(if aQ w y x=true then(p=y∧q=x)else(p=x∧q=y))∧aQ w p q=true∧dV (aG w) (aQ w) (ce N2) lq jm ax (p::q::(ws HE++(roots.drop (i+1)++W0)))∧aG w p=g∧aG w q=g:=by
   cases aO:aQ w y x
   ·exact⟨x,y,by simp,(ls.Ob x y mJ.symm).resolve_right (by rw[aO];simp),f4.perm (List.Perm.swap ..),Om,hyg⟩
   ·exact⟨y,x,by simp,aO,f4,hyg,Om⟩
  cases aO:aQ w y x<;>simp only[aO,if_true,if_false,aox]at NP<;>obtain⟨rfl,rfl⟩:=NP<;>refine vs ?_
  all_goals
   refine(F5 m5 (x:=p) (y:=q) f5 p2 (by omega) hl).mono ?_
   rintro _ H6 ⟨N6,P6,L6,YU,Nr,m6,f6,p6,hc6,ho6,e6⟩
   have hn6:=f6.wn
   rw[anN]at hn6
   have s7:=s6.ext e6 (fun z hz dM=>by injection hz with hz;exact hMq z (hTb (.inr dM)) hz.symm)
   refine vs ?_
   refine⟨(ws HE).length,by rw[←hws];omega,p,N6,P6,L6,YU,Nr,HE,_,some qb,rfl,m6,⟨?_,fun d z hd hz=>?_,fun z hz=>?_,fun z hz=>?_,by rw[CL];exact t3.tl⟩,p6,s7,JY,((e3.trans (e4.mono fun z _ h=>.inr (.inr (.inr (.inr (by omega)))))).trans (e5.mono fun z _ h=>.inl h)).trans (e6.mono fun z _ h=>by
    rcases h with h|h|h
    ·exact .inr (.inl h)
    ·exact .inr (.inr (.inl h))
    ·exact .inr (.inr (.inr (.inl h)))),by rw[CL]⟩
   ·refine f6.perm ?_
    rw[ao7]
    intro z
    simp only[apj,aoD,apg]
    omega
   ·have hzp:z≠p:=fun e=>hn6.1 (by
     rw[←e]
     refine anL _ ?_
     unfold ws
     exact aop.2 ⟨anz hd,by simp[hz]⟩)
    rw[ho6 z hzp]
    exact htd d z hd hz
   ·rcases anF.1 hz with h|h
    ·rw[h];exact hpg.1
    ·exact t3.rh z (by simp[h])
   ·have hzp:z≠p:=fun e=>hn6.1 (by rw[←e];simp[hz])
    rw[ho6 z hzp]
    exact t3.c0 z hz
end
end Go.Proofs.YtjlnnljohemifaaGreat

namespace Go.Proofs.YtjlnnljohemifaaGreat
open Go Go.Vc
structure W5(w:Nw)(N:List Int)(L:List Pc)(tops:List Int)(ch:Int→List Int)(par:Int→Int)(ax:Int→List Int):Prop where
 f:dV (aG w) (aQ w) (ce N) ch par ax []
 pc:JX (eC L) ch par
 tp:∀g,bi tops g=(ax g).headD (-1)
 ls:∀g y,0<g→aG w y=g→bi tops g≠ -1∧(y≠bi tops g→aQ w (bi tops g) y=true)
 tl:tops.length=w.hs.length
def iF(n:Nat)(H:Hp)(S:Nat→Prop)(w:Nw):Prop:=∃ (B:FB) (C:Nat→Prop) (N P:List Int) (L:List Pc) (tops:List Int) (ch:Int→List Int) (par:Int→Int) (ax:Int→List Int),B.n=n∧bT H B C w N P L tops∧W5 w N L tops ch par ax∧∀z,S z↔B.S C z
theorem iF.slt{n:Nat}{H:Hp}{S:Nat→Prop}{w:Nw}(h:iF n H S w):∀z,S z→z<H.size:=by
 obtain⟨B,C,N,P,L,tops,ch,par,ax,rfl,m,l,hS⟩:=h
 exact fun z hz=>m.slt z ((hS z).1 hz)
theorem iF.ext{n:Nat}{H H':Hp}{S V:Nat→Prop}{w:Nw}(h:iF n H S w)(e:ag V H H')(hd:∀z,S z→¬V z):iF n H' S w:=by
 obtain⟨B,C,N,P,L,tops,ch,par,ax,rfl,m,l,hS⟩:=h
 exact⟨B,C,N,P,L,tops,ch,par,ax,rfl,m.ext e (fun z hz=>hd z ((hS z).2 hz)),l,hS⟩
theorem W5.first{w:Nw}{N:List Int}{L:List Pc}{tops:List Int}{ch:Int→List Int}{par:Int→Int}{ax:Int→List Int}(l:W5 w N L tops ch par ax){g x:Int}(h:w.first g x):bi tops g=x:=by
 obtain⟨h1,h2,h3⟩:=bN.1 h
 obtain⟨h4,h5⟩:=l.ls g x h1 h2
 apply anW
 intro aP
 have h6:=h5 (Ne.symm aP)
 have ht:aG w (bi tops g)=g:=by
  have hm:bi tops g∈ax g:=by
   have:=l.tp g
   rw[this]at h4 ⊢
   exact eA h4
  exact(l.f.rm g _ hm).1
 have h7:=h3 _ ht aP
 rw[(ar w).asym h6]at h7
 cases h7
theorem Bg{n:Nat}{H:Hp}{S:Nat→Prop}{w:Nw}(h:iF n H S w)(g:Int):af Tryz.prog kK [ptr n,i64 g] H fun v H'=>aw (
  ((w.len g=0∧v= .tuple [i64 0,.bool false].toArray)∨∃x,w.first g x∧v= .tuple [i64 x,.bool true].toArray)∧H'=H):=by
 obtain⟨B,C,N,P,L,tops,ch,par,ax,rfl,m,l,hS⟩:=h
 obtain⟨cc,lt,ho,q2,xF,tF,On⟩:=m.fN
 refine bm uo ?_
 refine v1 (ae ho) ?_
 refine(uE m.cells g).mono ?_
 rintro _ _ ⟨rfl,rfl⟩
 refine vs ?_
 refine am.dec (fun h0=>?_) (fun h0=>?_)
 ·refine vs ?_
  exact⟨.inl ⟨h0,rfl⟩,rfl⟩
 have hg:0<g:=anW fun hg=>h0 (Nw.Hs.2 (.inl (by omega)))
 obtain⟨x,hx⟩:=uD hg h0
 have hh:=(bN.1 hx).2.1
 have di:=((m.cells.hm x).2 (by omega)).2
 rw[hh,←l.tl]at di
 have q3:=m.eO q2 (dT (tops:=tops) (h:=g) (by omega) di)
 rw[l.first hx]at q3
 refine v1 (ae ho) ?_
 refine⟨⟨by omega,by omega⟩,?_⟩
 refine v4 (ae q2) ant anw q3 ?_
 exact⟨.inr ⟨x,hx,rfl⟩,rfl⟩
theorem Ek{n:Nat}{H:Hp}{S:Nat→Prop}{w:Nw}(h:iF n H S w)(g x k s:Int):af Tryz.prog iu [ptr n,i64 g,i64 x,tz k s] H fun v H'=>aw (
  (¬w.lI g x∧v= .bool false∧cz (iF n) S H H' w)∨(w.lI g x∧v= .bool true∧cz (iF n) S H H' (w.put x (g,k,s)))):=by
 obtain⟨B,C,N,P,L,tops,ch,par,ax,rfl,m,l,hS⟩:=h
 have hC:∀z,C z→S z:=fun z h=>(hS z).2 (.inl h)
 refine bm pT ?_
 refine vs ?_
 have f0:ai H (H.new 224 [i64 k,u64 s]):=(ag.refl _ _).new _ _
 have b0:(H.new 224 [i64 k,u64 s]).own H.size=some [i64 k,u64 s]:=aB _ _ _
 have m0:=m.fresh f0
 generalize H.new 224 [i64 k,u64 s]=H0 at*
 have ff:ag S H H0:=f0.mono fun _ _ h=>h.elim
 obtain⟨tv,Hy,_⟩:=m0.own
 refine v2 (ae Hy) (ae b0) ?_
 refine(kZ m0.cells g x k s).mono ?_
 rintro _ H1 (⟨bK,rfl,c1,e1⟩| ⟨qm,rfl,c1,e1⟩)
 ·refine vs ?_
  exact .inl ⟨bK,rfl,cz.same ⟨B,C,N,P,L,tops,ch,par,ax,rfl,m0.aJ c1 e1 rfl,l,hS⟩ (ff.trans (e1.mono fun z _ hz=>hC z hz))⟩
 obtain⟨hh,hx,bJ⟩:=id qm
 have m2:=m0.aJ c1 e1 (by simp[Nw.put])
 have hg:=hh.1
 have di:g<tops.length:=by
  have:=(anu.1 hh.2).1
  have:=l.tl
  omega
 have cK:=fun y=>dS hx (g,k,s) y
 have fZ:aG w x≤0:=Int.not_lt.1 fun h=>bJ (bq.1 h)
 have el:∀a b,0<aG w a→0<aG w b→a≠x→b≠x→aQ (w.put x (g,k,s)) a b=aQ w a b:=fun a b ha hb tG me=>du hx _ ha hb tG me
 have f2:dV (aG (w.put x (g,k,s))) (aQ (w.put x (g,k,s))) (ce N) ch par ax (x::[]):=l.f.put (g:=g) rfl fZ (by omega) (by omega) (by rw[cK,if_pos rfl]) (fun y hy=>by rw[cK,if_neg hy]) el
 refine vs ?_
 refine(xQ m2 f2 (by rw[cK,if_pos rfl]) di (l.tp g)).mono ?_
 rintro _ H3 ⟨N3,P3,aaY,ll,m3,RE,ht3,f3,JV,Jr,Tg,hlT,e3⟩
 refine vs ?_
 have hhm:∀y,aG w y=g→y≠x:=fun y hy e=>by rw[e]at hy;omega
 have hTg:bi tops g≠ -1→aG w (bi tops g)=g:=fun h=>by
  have hm:bi tops g∈ax g:=by
   have:=l.tp g
   rw[this]at h ⊢
   exact eA h
  exact(l.f.rm g _ hm).1
 refine .inr ⟨qm,rfl,cz.same ⟨B,C,N3,P3,L,aaY,ch,par,_,rfl,m3,⟨f3,l.pc,fun g2=>?_,fun g2 y BN hy=>?_,by rw[RE];exact l.tl⟩,hS⟩ ((ff.trans (e1.mono fun z _ h=>hC z h)).trans (e3.mono fun z _ h=>by
  rcases h with h|h|h|h
  ·exact hC z h
  ·exact(hS z).2 (.inr (.inr (.inr (.inl h))))
  ·exact(hS z).2 (.inr (.inr (.inr (.inr (.inl h)))))
  ·exact(hS z).2 (.inr (.inr (.inr (.inr (.inr (.inr h))))))))⟩
 ·rw[ht3]
  unfold iX ay
  split
  ·rfl
  ·exact l.tp g2
 ·rw[ht3]
  unfold iX
  rw[cK]at hy
  by_cases h2:g2=g
  ·rw[if_pos h2]
   refine⟨Jr,fun aP=>?_⟩
   by_cases mJ:y=x
   ·rw[mJ]at aP ⊢
    exact Tg aP
   ·rw[if_neg mJ]at hy
    obtain⟨h3,h4⟩:=l.ls g y (by omega) (by omega)
    have hTx:=hhm _ (hTg h3)
    rcases JV with h5| ⟨h5,_⟩
    ·rw[h5]at aP hlT ⊢
     have h6:=hlT h3 hTx
     by_cases hyT:y=bi tops g
     ·rw[hyT];exact h6
     ·have h7:=h4 hyT
      rw[←el _ _ (by rw[hTg h3];omega) (by omega) hTx mJ]at h7
      exact(ar _).tr _ _ _ h6 h7
    ·rw[h5]at aP ⊢
     rw[el _ _ (by rw[hTg h3];omega) (by omega) hTx mJ]
     exact h4 aP
  ·rw[if_neg h2]
   have mJ:y≠x:=fun e=>by rw[if_pos e]at hy;exact h2 hy.symm
   rw[if_neg mJ]at hy
   obtain⟨h3,h4⟩:=l.ls g2 y BN hy
   refine⟨h3,fun aP=>?_⟩
   have hTx:bi tops g2≠x:=fun e=>by
    have hm:bi tops g2∈ax g2:=by
     have:=l.tp g2
     rw[this]at h3 ⊢
     exact eA h3
    have h5:=(l.f.rm g2 _ hm).1
    rw[e]at h5
    omega
   have hT2:aG w (bi tops g2)=g2:=by
    have hm:bi tops g2∈ax g2:=by
     have:=l.tp g2
     rw[this]at h3 ⊢
     exact eA h3
    exact(l.f.rm g2 _ hm).1
   rw[el _ _ (by omega) (by omega) hTx mJ]
   exact h4 aP
theorem bT.bounds{H:Hp}{B:FB}{C:Nat→Prop}{w:Nw}{N P:List Int}{L:List Pc}{tops:List Int}(m:bT H B C w N P L tops):w.cs.length≤65536∧N.length=w.cs.length:=⟨m.cells.DY,m.len.2⟩
theorem uP{w:Nw}:∀x,0<aG w x→0≤x∧x<w.cs.length:=fun x h=>by
 obtain⟨a,b,_⟩:=aD h
 exact⟨a,b⟩
theorem CM{n:Nat}{H:Hp}{S:Nat→Prop}{w:Nw}(h:iF n H S w)(g:Int):af Tryz.prog gK [ptr n,i64 g] H fun v H'=>aw (
  (w.len g=0∧v= .tuple [i64 0,.bool false].toArray∧cz (iF n) S H H' w)∨(∃x,w.first g x∧v= .tuple [i64 x,.bool true].toArray∧cz (iF n) S H H' (w.put x (0,0,0)))):=by
 refine bm oG ?_
 refine vs ?_
 refine(Bg h g).mono ?_
 rintro _ H' ⟨⟨h0,rfl⟩| ⟨x,hx,rfl⟩,e⟩
 ·obtain rfl:=e.symm
  refine vs ?_
  exact .inl ⟨h0,rfl,cz.same h (ag.refl _ _)⟩
 obtain rfl:=e.symm
 refine vs ?_
 obtain⟨B,C,N,P,L,tops,ch,par,ax,rfl,m,l,hS⟩:=h
 obtain⟨hg,Om,my⟩:=bN.1 hx
 have htx:=l.first hx
 have fZ:=uP (w:=w) x (by omega)
 have ls:=ar w
 obtain⟨A,hr⟩:∃A,ax g=x::A:=by
  have h1:=l.tp g
  rw[htx]at h1
  cases hc:ax g with
  |nil=>rw[hc]at h1;exact absurd h1 (by show¬x= -1;omega)
  |cons c r=>rw[hc]at h1;exact⟨r,by rw[show x=c from h1]⟩
 have di:g<tops.length:=by
  have:=((m.cells.hm x).2 (by omega)).2
  have:=l.tl
  omega
 refine(F6 m l.f l.pc hr).mono ?_
 rintro _ H1 ⟨N1,P1,L1,A1,m1,f1,p1,e1⟩
 have HF:ay ax g (x::A1) g=x::A1:=by unfold ay;rw[if_pos rfl]
 obtain⟨Cx,o1,_⟩:=m1.own
 obtain⟨xE,hN1⟩:=m1.bounds
 have Be:=f1.rc g
 have gk:=f1.rn g
 rw[HF]at Be gk
 have bJ:∀c∈x::A1,0≤c∧c<w.cs.length:=fun c hc=>f1.rin (g:=g) (by rw[HF];exact hc)
 have SY:∀c∈x::A1,aG w c=g:=fun c hc=>(f1.rm g c (by rw[HF];exact hc)).1
 have aX:=bV gk bJ
 rw[anO]at aX
 refine v1 (ae o1) ?_
 refine(oQ m1.ring Be gk (fun c hc=>by have:=bJ c hc;omega) (by omega)).mono ?_
 rintro rv H2 ⟨b2,s2,rR,f2⟩
 obtain⟨ra,rc,rfl⟩:=Sl.shape s2
 have m2:=m1.fresh f2
 have z2:=f2.size
 obtain⟨Nb,o2,_⟩:=m2.own
 have hS1:=m1.slt
 have afA:¬B.S C b2:=fun h=>by have:=hS1 _ h;omega
 obtain⟨_,l2,c2,eM,q2,Gx,WB,PE⟩:=id s2
 injection eM with eM aks aa1
 subst eM aa1
 rw[anw]at WB PE
 have oK:(x::A1).length=A1.length+1:=anO
 refine vs ?_
 refine⟨⟨by omega,by omega,by omega,by omega⟩,?_⟩
 refine vs ?_
 obtain⟨o,fA,Rm⟩:∃o,(∀ (i:Nat) y,A1[i]? =some y→l2[o+i]? =some (i64 y))∧(Value.slice (if(rc:Int)=1 then some ⟨b2,0,none⟩else some ⟨b2,1,none⟩) A1.length (rc - 1))= .slice (some ⟨b2,o,none⟩) A1.length (rc - 1):=by
  rw[anO]at Gx PE
  by_cases h1:(rc:Int)=1
  ·refine⟨0,fun i y hy=>?_,by rw[if_pos h1]⟩
   have:=(anu.1 hy).1
   omega
  ·refine⟨1,fun i y hy=>?_,by rw[if_neg h1]⟩
   have hi:=(anu.1 hy).1
   have h7:((x::A1).map i64)[1+i]? =some (i64 y):=by rw[Nat.add_comm,aom,aov,anR,hy];rfl
   rw[←PE,an9,if_pos (by omega)]at h7
   exact h7
 have hv8:∀ (PN:Decidable ((rc:Int)=1)),Value.slice (@ite (Option Addr) ((rc:Int)=1) PN (some (⟨b2,0,none⟩:Addr)) (Option.map (fun(x:Addr)=>x.add (Int.toNat 1*1)) (some (⟨b2,0,none⟩:Addr)))) (((A1.length+1:Nat):Int).toNat - Int.toNat 1) ((rc:Int).toNat - Int.toNat 1)=Value.slice (some ⟨b2,o,none⟩) A1.length (rc - 1):=fun PN=>by
  rw[show((A1.length+1:Nat):Int).toNat - Int.toNat 1=A1.length by simp,show(rc:Int).toNat - Int.toNat 1=rc - 1 by simp,←Rm]
  by_cases h1:(rc:Int)=1
  ·rw[if_pos h1,if_pos h1]
  ·rw[if_neg h1,if_neg h1];rfl
 rw[hv8]
 generalize hR8:Value.slice (some ⟨b2,o,none⟩) A1.length (rc - 1)=R8 at*
 have Vl:S B.nb:=(hS _).2 (.inr (.inr (.inr (.inl rfl))))
 have HE:S B.pb:=(hS _).2 (.inr (.inr (.inr (.inr (.inl rfl)))))
 have tb3:S B.tb:=(hS _).2 (.inr (.inr (.inr (.inr (.inr (.inl rfl))))))
 have tb4:S B.tp:=(hS _).2 (.inr (.inr (.inr (.inr (.inr (.inr rfl))))))
 have hC:∀z,C z→S z:=fun z h=>(hS z).2 (.inl h)
 have o8:ag S H H2:=(e1.mono fun z _ h=>by
  rcases h with h|h|h
  ·exact h▸Vl
  ·exact h▸HE
  ·exact h▸tb3).trans (f2.mono fun _ _ h=>h.elim)
 refine v1 (ae o2) ?_
 refine(oQ m2.ring Be gk (fun c hc=>by have:=bJ c hc;omega) (by omega)).mono ?_
 rintro rv H3 ⟨b3,s3,TI,f3⟩
 obtain⟨ka,kc,rfl⟩:=Sl.shape s3
 have m3:=m2.fresh f3
 have q3:=f3.own q2 (fun h=>h)
 have z3:=f3.size
 have D4:ag S H H3:=o8.trans (f3.mono fun _ _ h=>h.elim)
 have akv:¬B.S C b3:=fun h=>by have:=hS1 _ h;omega
 have YV:∀z,S z→z<H1.size:=fun z hz=>hS1 z ((hS z).1 hz)
 refine vs ?_
 refine bk.intro (fun mm env H'=>∃ (i:Nat) (N' P':List Int),mm=(x::A1).length - i∧i≤(x::A1).length∧bT H' B C w N' P' L1 tops∧dV (aG w) (aQ w) (ce N') (ay ch x []) (fk ch par x) (ay ax g ((x::A1).drop i)) ((x::A1).take i).reverse∧
  Sl H' 1 (.slice ka (x::A1).length kc) (x::A1).length ((x::A1).map i64) (some b3)∧ag (fun z=>z=B.nb∨z=B.pb) H3 H'∧
  env=[(0,ptr B.n),(1,i64 g),(6,i64 x),(8,R8),(36,.slice ka (x::A1).length kc),(37,i64 (x::A1).length),(38,i64 i)]) _ ⟨0,N1,P1,rfl,by omega,m3,f1,s3,ag.refl _ _,rfl⟩ ?_
 rintro mm env H4 ⟨i,N4,P4,rfl,hi,m4,f4,s4,e4,rfl⟩
 obtain⟨tv4,o4,_⟩:=m4.own
 refine vs ?_
 refine am.dec (fun gi=>?_) (fun gi=>?_)<;>refine vs ?_
 ·have mI:i< (x::A1).length:=by omega
  obtain⟨c,Ht⟩:∃c,(x::A1)[i]? =some c:=⟨_,ans mI⟩
  have Fx:=bJ c (anz Ht)
  obtain⟨_,kb,lb,rfl,qb,qc⟩:=Sl.zg s4 Ht
  have hkb:kb=b3:=by
   obtain⟨_,_,_,hh,_⟩:=s4
   injection hh with hh
   injection hh with hh
   injection hh with hh
  have dr:(x::A1).drop i=c::(x::A1).drop (i+1):=by
   rw[aoK mI]
   congr 1
   rw[ans mI]at Ht
   injection Ht
  have tk:(x::A1).take (i+1)=(x::A1).take i++[c]:=by rw[aoa,Ht];rfl
  have T1:=m4.len
  refine⟨⟨by omega,by omega⟩,?_⟩
  refine v6 (ae qb) ant anw Int.toNat_natCast qc (ae o4) ?_
  refine(nI m4.ring m4.inv (x:=c) (by omega)).mono ?_
  rintro _ H5 ⟨rfl,N5,P5,r5,l5,n5,i5,e5⟩
  have m5:=m4.uN r5 i5 e5 l5
  have f5:=f4.aF (x:=c) (g:=g) (A:=(x::A1).drop (i+1)) m4.inv (by unfold ay;rw[if_pos rfl];exact dr)
  rw[eB,←n5]at f5
  refine vs ?_
  refine⟨(x::A1).length - (i+1),by omega,i+1,N5,P5,rfl,by omega,m5,?_,s4.ext e5 (fun z hz h=>by
   injection hz with hz
   subst hz
   have h1:=YV _ Vl
   have h2:=YV _ HE
   omega),e4.trans e5,?_⟩
  ·rw[tk,List.reverse_append]
   exact f5
  ·rw[wrap64 (by omega) (by omega)]
   rfl
 obtain rfl:i=(x::A1).length:=by omega
 rw[List.drop_length,an4]at f4
 have vt:ag S H H4:=D4.trans (e4.mono fun z _ h=>by
  rcases h with h|h
  ·exact h▸Vl
  ·exact h▸HE)
 have z4:=e4.size
 have q4:=e4.own q3 (fun h=>by
  have h1:=YV _ Vl
  have h2:=YV _ HE
  omega)
 obtain⟨cc,lt4,o4',q5,xF,tF,On⟩:=m4.fN
 refine v1 (ae o4') ?_
 refine⟨⟨by omega,by omega⟩,?_⟩
 refine v3 q5 ant anw ?_
 refine⟨by omega,?_⟩
 obtain⟨m5,e5⟩:=m4.lc q5 g.toNat (-1)
 refine vs ?_
 have q6:=e5.own q4 (fun h=>by
  have h1:=YV _ tb4
  omega)
 have Vh:=vt.trans (e5.mono fun z _ h=>h▸tb4)
 have z5:=e5.size
 generalize H4.wr B.tp (lt4.set g.toNat (Value.int .i64 (-1)))=H5 at*
 have t0:PM w g (ce N4) (ay ch x []) (ay ch x []) (fk ch par x) (ay ax g []) [] A1 [x]:=by
  refine⟨f4.perm ?_,fun d y hd=>by simp at hd,fun y hy=>SY y (by simp[hy]),fun _ _=>rfl,by simp⟩
  show List.Perm _ (A1++[x])
  exact(List.reverse_perm _).trans (aou (l₁:=[x]) (l₂:=A1))
 have afC:¬B.S C b2:=afA
 subst hR8
 refine(HD m5 q6 fA afC t0 p1 (by omega)).mono ?_
 rintro tv H6 ⟨N6,P6,L6,YU,Nr,pg,fq,m6,t6,p6,s6,JY,e6⟩
 obtain⟨ta,tc,rfl⟩:=Sl.shape s6
 have Mc:=t6.tl
 have Lw:ag S H H6:=Vh.trans (e6.mono fun z _ h=>by
  rcases h with h|h|h|h
  ·exact hC z h
  ·exact h▸Vl
  ·exact h▸HE
  ·exact h▸tb3)
 refine vs ?_
 have hf6:=t6.f
 rw[aoB]at hf6
 have W6:bi (tops.set g.toNat (-1))=iX (bi tops) g (([]:List Int).headD (-1)):=ez (by omega) di (-1)
 refine bk.intro (fun mm env H'=>∃ (i:Nat) (N' P' F4 l':List Int),mm=pg.length - i∧i≤pg.length∧bT H' B C w N' P' L6 F4∧F4.length=tops.length∧bi F4=iX (bi tops) g (l'.headD (-1))∧
  dV (aG w) (aQ w) (ce N') YU Nr (ay ax g l') (ws (pg.drop i)++[x])∧
  (∀c,aG w c=g→Nr c= -1→c∉ws (pg.drop i)++[x]→l'.headD (-1)≠ -1∧(c≠l'.headD (-1)→aQ w (l'.headD (-1)) c=true))∧
  Sl H' 1 (.slice ta pg.length tc) pg.length (pg.map i64) fq∧ag S H6 H'∧
  env=[(0,ptr B.n),(1,i64 g),(6,i64 x),(57,.slice ta pg.length tc),(58,i64 pg.length),(59,i64 i)]) _ ⟨0,N6,P6,_,[],rfl,by omega,m6,by rw[anv],W6,hf6,fun c h1 h2 h3=>?_,s6,ag.refl _ _,rfl⟩ ?_
 ·exfalso
  rcases hf6.jt c (by omega) h2 with h4|h4
  ·rw[h1]at h4
   unfold ay at h4
   rw[if_pos rfl]at h4
   cases h4
  ·exact h3 h4
 rintro mm env H7 ⟨i,N7,P7,LD,l7,rfl,hi7,m7,hl7,YW,f7,d7,s7,e7,rfl⟩
 have akx:pg.length≤65537:=by omega
 refine vs ?_
 refine am.dec (fun gi=>?_) (fun gi=>?_)<;>refine vs ?_
 ·have mI:i<pg.length:=by omega
  obtain⟨r,hrr⟩:∃r,pg[i]? =some r:=⟨_,ans mI⟩
  obtain⟨_,kb,lb,rfl,qb,qc⟩:=Sl.zg s7 hrr
  have hkb:fq=some kb:=by
   cases fq with
   |none=>have:=s7.2.2;injection this with h1;cases h1
   |some b'=>obtain⟨_,_,h1,_⟩:=s7.2;injection h1 with h1;injection h1 with h1;injection h1 with h1;rw[h1]
  have aky:=JY kb hkb
  have dr:pg.drop i=r::pg.drop (i+1):=by
   rw[aoK mI]
   congr 1
   rw[ans mI]at hrr
   injection hrr
  refine⟨⟨by omega,by omega⟩,?_⟩
  refine v5 (ae qb) ant anw Int.toNat_natCast qc ?_
  rw[dr,mz,dX]at f7 d7
  refine am.dec (fun gr=>?_) (fun gr=>?_)<;>refine vs ?_
  rotate_left
  ·rw[if_neg gr]at f7 d7
   simp only[aoD,aoB]at f7 d7
   obtain⟨_,qB⟩:=t6.td i r hrr gr
   have YX:bi LD g=l7.headD (-1):=by rw[YW];unfold iX;rw[if_pos rfl]
   refine(xQ m7 f7 qB (by omega) (by rw[YX];unfold ay;rw[if_pos rfl])).mono ?_
   rintro _ H8 ⟨N8,P8,aa3,l8,m8,hl8,ht8,f8,JV,Jr,Tg,hlT,e8⟩
   rw[eB]at f8
   rw[YX]at hlT
   have e8':ag S H7 H8:=e8.mono fun z _ h=>by
    rcases h with h|h|h|h
    ·exact hC z h
    ·exact h▸Vl
    ·exact h▸HE
    ·exact h▸tb4
   refine vs ?_
   refine⟨pg.length - (i+1),by omega,i+1,N8,P8,aa3,l8,rfl,by omega,m8,by omega,?_,f8,fun c h1 h2 h3=>⟨Jr,fun aP=>?_⟩,s7.ext e8' (fun z hz h=>by
    rw[hkb]at hz
    injection hz with hz
    subst hz
    have:=YV _ h
    omega),e7.trans e8',?_⟩
   ·rw[ht8,YW]
    funext z
    unfold iX
    split<;>rfl
   ·by_cases YD:c=r
    ·rw[YD]at aP ⊢
     exact Tg aP
    ·obtain⟨h4,h5⟩:=d7 c h1 h2 (by
      simp only[anF,not_or]
      exact⟨YD,h3⟩)
     by_cases h6:l7.headD (-1)=l8.headD (-1)
     ·rw[←h6]at aP ⊢
      exact h5 aP
     ·have h7:=hlT h4 h6
      by_cases h8:c=l7.headD (-1)
      ·rw[h8];exact h7
      ·exact ls.tr _ _ _ h7 (h5 h8)
   ·rw[wrap64 (by omega) (by omega)]
    rfl
  ·rw[if_pos gr]at f7 d7
   rw[aoB]at f7 d7
   refine⟨pg.length - (i+1),by omega,i+1,N7,P7,LD,l7,rfl,by omega,m7,hl7,YW,f7,d7,s7,e7,?_⟩
   rw[wrap64 (by omega) (by omega)]
   rfl
 obtain rfl:i=pg.length:=by omega
 rw[List.drop_length]at f7 d7
 have hw0:ws ([]:List Int)++[x]=[x]:=rfl
 rw[hw0]at f7 d7
 obtain⟨tv7,o7,_⟩:=m7.own
 refine v1 (ae o7) ?_
 refine(cd m7.cells x).mono ?_
 have afE:cT w.cs x:=bq.1 (by omega)
 rintro _ H8 (⟨bK,_,_⟩| ⟨_,rfl,c8,e8⟩)
 ·exact absurd afE bK
 have m8:=m7.aJ c8 e8 (by simp[Nw.put])
 refine vs ?_
 have cK:=fun y=>dS (w:=w) fZ (0,0,0) y
 have w0:aG (w.put x (0,0,0)) (-1)=0:=rfl
 have w1:aG (w.put x (0,0,0)) x=0:=by rw[cK,if_pos rfl]
 have w2:∀y,y≠x→aG (w.put x (0,0,0)) y=aG w y:=fun y hy=>by rw[cK,if_neg hy]
 have el:∀a b,0<aG w a→0<aG w b→a≠x→b≠x→aQ (w.put x (0,0,0)) a b=aQ w a b:=fun a b ha hb tG me=>du fZ _ ha hb tG me
 have f8:=f7.drop (hm':=aG (w.put x (0,0,0))) (lt':=aQ (w.put x (0,0,0))) (by
  rw[t6.c0 x (by simp)]
  unfold ay
  rw[if_pos rfl]) w0 w1 w2 el
 have hrm:∀g2 c,c∈ay ax g l7 g2→aG w c=g2∧c≠x:=fun g2 c hc=>by
  obtain⟨h1,_,_,h4⟩:=f7.rm g2 c hc
  exact⟨h1,fun e=>h4 (by simp[e])⟩
 refine .inr ⟨x,hx,rfl,cz.same ⟨B,C,N7,P7,L6,LD,YU,Nr,_,rfl,m8,⟨f8,p6,fun g2=>?_,fun g2 y BN hy=>?_,by rw[hl7];exact l.tl⟩,hS⟩ ((Lw.trans e7).trans (e8.mono fun z _ h=>hC z h))⟩
 ·rw[YW]
  unfold iX ay
  split
  ·rfl
  ·exact l.tp g2
 ·by_cases h2:g2=g
  ·have YX:bi LD g2=l7.headD (-1):=by rw[YW,h2];unfold iX;rw[if_pos rfl]
   rw[YX]
   refine f8.pr.lead (ar _) (fun z hz=>uP z hz) BN (fun c hc Vg=>?_) hy
   have fS:c≠x:=fun e=>by rw[e,w1]at hc;omega
   rw[w2 c fS]at hc
   obtain⟨h3,h4⟩:=d7 c (by omega) Vg (by simp[fS])
   refine⟨h3,fun aP=>?_⟩
   obtain⟨h5,h6⟩:=hrm g _ (show l7.headD (-1)∈ay ax g l7 g by unfold ay;rw[if_pos rfl];exact eA h3)
   rw[el _ _ (by omega) (by omega) h6 fS]
   exact h4 aP
  ·have YX:bi LD g2=bi tops g2:=by rw[YW];unfold iX;rw[if_neg h2]
   rw[YX]
   have mJ:y≠x:=fun e=>by rw[e,w1]at hy;omega
   rw[w2 y mJ]at hy
   obtain⟨h3,h4⟩:=l.ls g2 y BN hy
   refine⟨h3,fun aP=>?_⟩
   have h5:aG w (bi tops g2)=g2:=by
    have hm:bi tops g2∈ax g2:=by
     have:=l.tp g2
     rw[this]at h3 ⊢
     exact eA h3
    exact(l.f.rm g2 _ hm).1
   rw[el _ _ (by omega) (by omega) (fun e=>by rw[e]at h5;omega) mJ]
   exact h4 aP
end Go.Proofs.YtjlnnljohemifaaGreat
