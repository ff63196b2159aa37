/- Texts put behind each other. -/
import Derived.Test.YtjlnnljohemifaaGreatK98
import Derived.Test.YtjlnnljohemifaaGreatK0
import Derived.Test.YtjlnnljohemifaaGreatK1
import Derived.Test.YtjlnnljohemifaaGreatK2
import Derived.Test.YtjlnnljohemifaaGreatK3
import Derived.Test.YtjlnnljohemifaaGreatK4
import Derived.Test.YtjlnnljohemifaaGreatK5
import Derived.Test.YtjlnnljohemifaaGreatK6
import Derived.Test.YtjlnnljohemifaaGreatK7
import Derived.Test.YtjlnnljohemifaaGreatK8
import Derived.Test.YtjlnnljohemifaaGreatK9
import Derived.Test.YtjlnnljohemifaaGreatK10
import Derived.Test.YtjlnnljohemifaaGreatK11
import Derived.Test.YtjlnnljohemifaaGreatK12
import Derived.Test.YtjlnnljohemifaaGreatK13
import Derived.Test.YtjlnnljohemifaaGreatK14
import Derived.Test.YtjlnnljohemifaaGreatK15
import Derived.Test.YtjlnnljohemifaaGreatK16
import Derived.Test.YtjlnnljohemifaaGreatK17
import Derived.Test.YtjlnnljohemifaaGreatK18
import Derived.Test.YtjlnnljohemifaaGreatK19
import Derived.Test.YtjlnnljohemifaaGreatK20
import Derived.Test.YtjlnnljohemifaaGreatK21
import Derived.Test.YtjlnnljohemifaaGreatK22
import Derived.Test.YtjlnnljohemifaaGreatK23
import Derived.Test.YtjlnnljohemifaaGreatK24
import Derived.Test.YtjlnnljohemifaaGreatK25
import Derived.Test.YtjlnnljohemifaaGreatK26
import Derived.Test.YtjlnnljohemifaaGreatK27
import Derived.Test.YtjlnnljohemifaaGreatK28
import Derived.Test.YtjlnnljohemifaaGreatK29
import Derived.Test.YtjlnnljohemifaaGreatK30
import Derived.Test.YtjlnnljohemifaaGreatK31
import Derived.Test.YtjlnnljohemifaaGreatK32
import Derived.Test.YtjlnnljohemifaaGreatK33
import Derived.Test.YtjlnnljohemifaaGreatK34
import Derived.Test.YtjlnnljohemifaaGreatK35
import Derived.Test.YtjlnnljohemifaaGreatK36
import Derived.Test.YtjlnnljohemifaaGreatK37
import Derived.Test.YtjlnnljohemifaaGreatK38
import Derived.Test.YtjlnnljohemifaaGreatK39
import Derived.Test.YtjlnnljohemifaaGreatK40
import Derived.Test.YtjlnnljohemifaaGreatK41
import Derived.Test.YtjlnnljohemifaaGreatK42
import Derived.Test.YtjlnnljohemifaaGreatK43
import Derived.Test.YtjlnnljohemifaaGreatK44
import Derived.Test.YtjlnnljohemifaaGreatK45
import Derived.Test.YtjlnnljohemifaaGreatK46
import Derived.Test.YtjlnnljohemifaaGreatK48
import Derived.Test.YtjlnnljohemifaaGreatK49
import Derived.Test.YtjlnnljohemifaaGreatK50
import Derived.Test.YtjlnnljohemifaaGreatK51
set_option maxRecDepth 100000
set_option maxHeartbeats 8000000
set_option linter.unusedVariables false
set_option linter.unusedSimpArgs false
namespace Go.Proofs.YtjlnnljohemifaaGreat
open Go Go.Vc
theorem aaP{k s k' s':Int}(h:¬ep k' s' k s):DW k s k' s'≤0:=by
 unfold ep at h
 unfold DW Wo uA
 by_cases h1:k<k'
 ·simp[h1]
 ·by_cases h2:k'<k
  ·exfalso;omega
  ·by_cases h3:s<s'
   ·simp[h1,h2,h3]
   ·by_cases h4:s'<s
    ·exfalso;omega
    ·simp[h1,h2,h3,h4]
theorem aaT{s t:Int}(h:s≤t):DW (mG s).1 (mG s).2 (mG t).1 (mG t).2≤0:=aaP (by unfold ep mG;simp only;omega)
theorem aaL{H:Hp}{v:Value}(h:Cm H (true,[.k (.i .i64),.k (.i .i64),.k (.i .i64)]) v):∃m:Ed,v= .agg #[i64 m.f,i64 m.t,i64 m.w]∧abD m:=by
 obtain⟨cs,rfl,_,_,rfl,⟨x,rfl,hx⟩,_,_,rfl,⟨y,rfl,hy⟩,_,_,rfl,⟨z,rfl,hz⟩,rfl⟩:=h
 exact⟨⟨x,y,z⟩,rfl,wf_i64 hx,wf_i64 hy,wf_i64 hz⟩
theorem aat{Hh:Hp}{v0 v1 v2:Value}(h0:Cm Hh (true,[.k (.i .i64),.k (.i .i64),.k (.i .i64),.k (.i .i64)]) v0)(h1:Cm Hh (true,[.k (.i .i64),.sl [.i .i64,.i .i64,.i .i64]]) v1)(h2:Cm Hh (true,[.k (.i .i64),.k (.i .i64),.k (.i .i64)]) v2):af Tryz.prog aaw [v0,v1,v2] Hh fun v H'=>aw (v= .bool true∧ai Hh H'):=by
 obtain⟨k1,d1,k2,d2,rfl⟩:=aaK h0
 obtain⟨n,es,a,c,rfl,hr,Yt,XA,hn,Tz⟩:=ND h1
 obtain⟨m,rfl,hm⟩:=aaL h2
 clear h0 h1 h2
 have hw:∀e∈es, -9223372036854775808≤e.w∧e.w≤9223372036854775807:=fun e he=>(Tz e he).2.2
 refine Gv aax ⟨rfl,?_⟩
 simp(disch:=(first|omega| (simp only[Zs]<;>omega)|fail)) only[go_sem, ↓reduceIte,Zv,aar,F8]
 have f0:ai Hh (Hh.new 44 [i64 k1,i64 d1,i64 k2,i64 d2]):=(ag.refl _ _).new _ _
 have a0:(Hh.new 44 [i64 k1,i64 d1,i64 k2,i64 d2]).own Hh.size=some [i64 k1,i64 d1,i64 k2,i64 d2]:=aB _ _ _
 have z0:(Hh.new 44 [i64 k1,i64 d1,i64 k2,i64 d2]).size=Hh.size+1:=aq _ _ _
 generalize Hh.new 44 [i64 k1,i64 d1,i64 k2,i64 d2]=H0 at*
 have f1:ai H0 (H0.new 52 [i64 n,.slice a es.length c]):=(ag.refl _ _).new _ _
 have b1:(H0.new 52 [i64 n,.slice a es.length c]).own H0.size=some [i64 n,.slice a es.length c]:=aB _ _ _
 have a1:=f1.own a0 (fun h=>h)
 have z1:(H0.new 52 [i64 n,.slice a es.length c]).size=H0.size+1:=aq _ _ _
 rw[z0]at b1 z1
 generalize H0.new 52 [i64 n,.slice a es.length c]=H1 at*
 have f2:ai H1 (H1.new 61 [i64 m.f,i64 m.t,i64 m.w]):=(ag.refl _ _).new _ _
 have m2:(H1.new 61 [i64 m.f,i64 m.t,i64 m.w]).own H1.size=some [i64 m.f,i64 m.t,i64 m.w]:=aB _ _ _
 have a2:=f2.own a1 (fun h=>h)
 have b2:=f2.own b1 (fun h=>h)
 rw[z1]at m2
 generalize H1.new 61 [i64 m.f,i64 m.t,i64 m.w]=H2 at*
 refine(uV H2).mono ?_
 rintro _ H3 ⟨rfl,f3⟩
 have g3:=((f0.trans f1).trans f2).trans f3
 have a3:=f3.own a2 (fun h=>h)
 have b3:=f3.own b2 (fun h=>h)
 have m3:=f3.own m2 (fun h=>h)
 refine v1 (ae b3) ?_
 refine(C2 H3 n a es.length c).mono ?_
 rintro _ H4 ⟨rfl,f4⟩
 have g4:=g3.trans f4
 have a4:=f4.own a3 (fun h=>h)
 have b4:=f4.own b3 (fun h=>h)
 have m4:=f4.own m3 (fun h=>h)
 refine vs ?_
 refine am.dec (fun c1=>?_) (fun c1=>?_)<;>refine v2 (ae a4) (ae b4) ?_
 ·exact⟨rfl,g4⟩
 refine⟨by decide,?_⟩
 refine v1 (ae a4) ?_
 refine⟨by decide,?_⟩
 refine vs ?_
 refine(FO k1 d1 H4).mono ?_
 rintro _ H5 ⟨rfl,f5⟩
 have g5:=g4.trans f5
 have a5:=f5.own a4 (fun h=>h)
 have b5:=f5.own b4 (fun h=>h)
 have m5:=f5.own m4 (fun h=>h)
 refine vs ?_
 refine am.dec (fun c2=>?_) (fun c2=>?_)<;>refine v1 (ae a5) ?_
 rotate_left
 ·exact⟨rfl,g5⟩
 refine⟨by decide,?_⟩
 refine v1 (ae a5) ?_
 refine⟨by decide,?_⟩
 refine vs ?_
 refine(FO k2 d2 H5).mono ?_
 rintro _ H6 ⟨rfl,f6⟩
 have g6:=g5.trans f6
 have a6:=f6.own a5 (fun h=>h)
 have b6:=f6.own b5 (fun h=>h)
 have m6:=f6.own m5 (fun h=>h)
 refine vs ?_
 refine am.dec (fun c3=>?_) (fun c3=>?_)<;>refine v1 (ae b6) ?_
 rotate_left
 ·exact⟨rfl,g6⟩
 have hK1:=Lu.1 c2
 have hK2:=Lu.1 c3
 refine(CN (n:=n) (hr.fresh g6) (by omega)).mono ?_
 rintro _ H7 ⟨rfl,f7⟩
 have g7:=g6.trans f7
 have a7:=f7.own a6 (fun h=>h)
 have b7:=f7.own b6 (fun h=>h)
 have m7:=f7.own m6 (fun h=>h)
 by_cases hR:dJ n es=true
 rotate_left
 ·rw[show dJ n es=false by simpa using hR]
  refine v1 ao8 ?_
  exact⟨rfl,g7⟩
 rw[hR]
 have qB:=(fQ n es).1 hR
 have L0:=qB.n0
 have xM:=qB.n1
 refine v1 api ?_
 refine⟨by decide,?_⟩
 refine v1 (ae a7) ?_
 refine⟨by decide,?_⟩
 refine v1 (ae b7) ?_
 refine(uU k1 d1 (fun h=>LP h) (n:=n) (hr.fresh g7) (by omega)).mono ?_
 rintro _ H8 ⟨f8,⟨bK,_⟩| ⟨_,bK,_⟩| ⟨_,_,T,sv,fp,rfl,s8,gu,Gw,NF,hpw⟩⟩
 ·exact absurd hK1 bK
 ·rw[hR]at bK;cases bK
 have g8:=g7.trans f8
 have a8:=f8.own a7 (fun h=>h)
 have b8:=f8.own b7 (fun h=>h)
 have m8:=f8.own m7 (fun h=>h)
 obtain⟨sa,sc,rfl,hsc⟩:=dD s8
 refine vs ?_
 refine⟨by decide,?_⟩
 refine v1 (ae a8) ?_
 refine⟨by decide,?_⟩
 refine v1 (ae b8) ?_
 refine(uU k2 d2 (fun h=>LP h) (n:=n) (hr.fresh g8) (by omega)).mono ?_
 rintro _ H9 ⟨f9,⟨bK,_⟩| ⟨_,bK,_⟩| ⟨_,_,T',Vi,cO,rfl,s9,jj,aan,ahO,am5⟩⟩
 ·exact absurd hK2 bK
 ·rw[hR]at bK;cases bK
 have g9:=g8.trans f9
 have a9:=f9.own a8 (fun h=>h)
 have b9:=f9.own b8 (fun h=>h)
 have m9:=f9.own m8 (fun h=>h)
 obtain⟨ta,tc,rfl,htc⟩:=dD s9
 have hTl:=nM qB Gw.xV Gw.sub
 have am6:=nM qB aan.xV aan.sub
 have r9:=s8.rd.fresh f9
 refine v1 (ae b9) ?_
 refine(qv (n:=n) (hr.fresh g9) r9 hR Gw.ins (by omega) hw (by omega)).mono ?_
 rintro _ H10 ⟨rfl,f10⟩
 have g10:=g9.trans f10
 have b10:=f10.own b9 (fun h=>h)
 simp(disch:=(first|omega| (simp only[Zs]<;>omega)|fail)) only[go_sem, ↓reduceIte,Zv,LR]
 obtain⟨f11,x11,z11⟩:=Lq H10 36 [i64 0,u64 0] [i64 (mG (T.map (wE es)).sum).1,u64 ((mG (T.map (wE es)).sum).2:Int)]
 generalize hxb:H10.size=xb at*
 generalize (H10.new 36 [i64 0,u64 0]).wr xb [i64 (mG (T.map (wE es)).sum).1,u64 ((mG (T.map (wE es)).sum).2:Int)]=H11 at*
 have Zb:=f11.own b10 (fun h=>h)
 have g11:=g10.trans f11
 refine v1 (ae Zb) ?_
 refine(qv (n:=n) (hr.fresh g11) (s9.rd.fresh (f10.trans f11)) hR aan.ins (by omega) hw (by omega)).mono ?_
 rintro _ XC ⟨rfl,f12⟩
 have g12:=g11.trans f12
 have x12:=f12.own x11 (fun h=>h)
 rw[aan.alike qB ahO Gw NF]
 have oK:=Gw.Sa qB aan
 simp(disch:=(first|omega| (simp only[Zs]<;>omega)|fail)) only[go_sem, ↓reduceIte,Zv,LR]
 obtain⟨f13,y13,z13⟩:=Lq XC 36 [i64 0,u64 0] [i64 (mG (T.map (wE es)).sum).1,u64 ((mG (T.map (wE es)).sum).2:Int)]
 generalize hyb:XC.size=yb at*
 generalize (XC.new 36 [i64 0,u64 0]).wr yb [i64 (mG (T.map (wE es)).sum).1,u64 ((mG (T.map (wE es)).sum).2:Int)]=H13 at*
 have g13:=g12.trans f13
 have x13:=f13.own x12 (fun h=>h)
 have aaX:=((f10.trans f11).trans f12).trans f13
 have a13:=aaX.own a9 (fun h=>h)
 have Uv:=aaX.own b9 (fun h=>h)
 have m13:=aaX.own m9 (fun h=>h)
 have r13:=r9.fresh aaX
 refine v4 aoi api (ae x13) (ae y13) ?_
 simp(disch:=(first|omega| (simp only[Zs]<;>omega)|fail)) only[go_sem, ↓reduceIte,Zv,aaN,Option.map_some,api]
 refine am.cF (by rw[oK];simp) ?_
 refine v1 (ae Uv) ?_
 refine(aaB (n:=n) (hr.fresh g13) hR).mono ?_
 rintro _ Zd ⟨f14,P,fpP,hPl,s14,hP⟩
 obtain⟨pa,pc,rfl,hpc⟩:=dD s14
 have g14:=g13.trans f14
 have a14:=f14.own a13 (fun h=>h)
 have b14:=f14.own Uv (fun h=>h)
 have m14:=f14.own m13 (fun h=>h)
 have x14:=f14.own x13 (fun h=>h)
 have r14:=r13.fresh f14
 refine v1 (ae b14) ?_
 refine am.cF (anI (by omega)) ?_
 refine v2 (ae m14) (ae b14) ?_
 refine am.dec (fun q1=>?_) (fun q1=>?_)<;>refine v2 (ae m14) (ae b14) ?_
 ·exact⟨rfl,g14⟩
 refine am.dec (fun q2=>?_) (fun q2=>?_)<;>refine v2 (ae m14) (ae b14) ?_
 ·exact⟨rfl,g14⟩
 refine am.dec (fun q3=>?_) (fun q3=>?_)<;>refine v2 (ae m14) (ae b14) ?_
 ·exact⟨rfl,g14⟩
 refine am.dec (fun q4=>?_) (fun q4=>?_)<;>refine v2 (ae m14) (ae b14) ?_
 ·exact⟨rfl,g14⟩
 obtain⟨pu,hpu⟩:∃x,P[m.f.toNat]? =some x:=⟨_,ans (by omega)⟩
 obtain⟨pw,ady⟩:∃x,P[m.t.toNat]? =some x:=⟨_,ans (by omega)⟩
 obtain⟨_,pb,po,pl,rfl,fA,xF⟩:=dc.num s14.rd hpu
 obtain⟨_,pb',po',pl',hbb,PV,tF⟩:=dc.num s14.rd ady
 injection hbb with hbb
 injection hbb with Py rR
 subst Py rR
 rw[fA]at PV
 injection PV with PV
 subst PV
 refine⟨⟨by omega,by omega⟩,?_⟩
 refine v4 fA anw xF (ae m14) ?_
 refine⟨⟨by omega,by omega⟩,?_⟩
 refine v3 fA anw tF ?_
 refine am.dec (fun q5=>?_) (fun q5=>?_)<;>refine vs ?_
 rotate_left
 ·exact⟨rfl,g14⟩
 have hH:bH ((allI es.length).map (fE es)) m.f.toNat m.t.toNat:=(hP _ _ (by omega) (by omega)).1 (by rw[hpu,ady,q5])
 have hgz:=aA m14
 refine ahN (fun e H'=>∃ (gb:Nat) (a':Option Addr) (c':Nat),e.aM [3,7,11,16]=[(3,ptr Hh.size),(7,.slice sa T.length sc),(11,ptr xb),(16,ptr gb)]∧ai Zd H'∧H'.own gb=some [i64 n,.slice a' (es++[m]).length c']∧dc H' 3 (.slice a' (es++[m]).length c') (es++[m]).length (eF (es++[m]))) ?_ ?_
 ·refine jX.intro (fun H'=>H'.own (Hh.size+1)=some [i64 n,.slice a es.length c]∧H'.own (Hh.size+1+1)=some [i64 m.f,i64 m.t,i64 m.w]) ⟨b14,m14⟩ ?_
  refine vs ?_
  refine fV.intro (i64 n) (fun H' hI=>by refine v1 (ae hI.1) ?_;exact⟨trivial,trivial⟩) ?_
  refine vs ?_
  refine fV.intro (.slice a es.length c) (fun H' hI=>by refine v1 (ae hI.1) ?_;exact⟨trivial,trivial⟩) ?_
  refine vs ?_
  refine fV.intro (.agg #[i64 m.f,i64 m.t,i64 m.w]) (fun H' hI=>by refine v1 (ae hI.2) ?_;exact⟨trivial,trivial⟩) ?_
  refine vs ?_
  have hJ:=Jr.zero Zd es m
  have hI:Zd.own (Hh.size+1)=some [i64 n,.slice a es.length c]∧Zd.own (Hh.size+1+1)=some [i64 m.f,i64 m.t,i64 m.w]:=⟨b14,m14⟩
  have ahQ:=hr.fresh g14
  have Wh:es.length≤1000000:=by omega
  have anh:Hh.size+1+1<Zd.size:=hgz
  iterate 34
   all_goals try
    first
    |with_reducible refine EB.intro ?_ ?_
    |with_reducible refine dm.mk hI ?_
    | (with_reducible refine dm.mk ⟨(ag.refl (fun _=>False) _).new _ _|>.own hI.1 (fun h=>h),(ag.refl (fun _=>False) _).new _ _|>.own hI.2 (fun h=>h)⟩ ?_)
    | ((with_reducible refine hJ.s1 (fun Hd hJ hF=>?_));replace hI:=And.intro (hF.own hI.1 (fun h=>h)) (hF.own hI.2 (fun h=>h)))
    | ((with_reducible refine hJ.s3 (fun Hd hJ hF=>?_));replace hI:=And.intro (hF.own hI.1 (fun h=>h)) (hF.own hI.2 (fun h=>h)))
    | ((with_reducible refine hJ.s5 (fun Hd hJ hF=>?_));replace hI:=And.intro (hF.own hI.1 (fun h=>h)) (hF.own hI.2 (fun h=>h)))
    | ((with_reducible refine hJ.s2 ahQ Wh (fun a' c' Hd hJ hF=>?_));replace hI:=And.intro (hF _ _ (by omega) hI.1) (hF _ _ (by omega) hI.2))
    | ((with_reducible refine hJ.s4 Wh (fun a' c' Hd hJ hF=>?_));replace hI:=And.intro (hF _ _ (by omega) hI.1) (hF _ _ (by omega) hI.2))
    |refine vs ?_
  all_goals
   obtain⟨q1,q2⟩:=hJ.p4 _ rfl
   obtain⟨fq,sq,hq⟩:=hJ.p2 _ rfl
   obtain⟨ew,ow⟩:=Lr q1 [i64 n,.slice a' (es++[m]).length c']
   refine v1 q1 ?_
   refine And.intro hI ?_
   refine vs ?_
   exact⟨_,a',c',rfl,hJ.f.then ew (fun z hz=>by omega),ow,(sq.ext ew (fun b hb e=>(hq b hb).2.1 (by rw[e]))).rd⟩
 rintro e H15 ⟨gb,a',c',he,f15,o15,r15⟩
 refine v1 he ?_
 have g15:=g14.trans f15
 have a15:=f15.own a14 (fun h=>h)
 have x15:=f15.own x14 (fun h=>h)
 obtain⟨adz,ahR⟩:=aaJ (m:=m) Gw hH
 have aaZ:gF n (es++[m]):=aaF qB (by omega) (by omega) (by omega)
 have hRm:dJ n (es++[m])=true:=(fQ n _).2 aaZ
 have hwm:∀e∈es++[m], -9223372036854775808≤e.w∧e.w≤9223372036854775807:=fun e he=>by
  rcases anH.1 he with he|he
  ·exact hw e he
  ·rw[anC.1 he];exact hm.2.2
 have WY:(es++[m]).length≤1000000:=by rw[anD];simp;omega
 refine⟨by decide,?_⟩
 refine v1 (ae a15) ?_
 refine⟨by decide,?_⟩
 refine v1 (ae o15) ?_
 refine(uU k1 d1 (fun h=>LP h) (n:=n) (es:=es++[m]) r15 (by omega)).mono ?_
 rintro _ H16 ⟨f16,⟨bK,_⟩| ⟨_,bK,_⟩| ⟨_,_,U,sv3,fp3,rfl,s16,anl,aaU,ahS,anm⟩⟩
 ·exact absurd hK1 bK
 ·rw[hRm]at bK;cases bK
 have g16:=g15.trans f16
 have o16:=f16.own o15 (fun h=>h)
 have x16:=f16.own x15 (fun h=>h)
 obtain⟨va,Xc,rfl,hvc⟩:=dD s16
 have hUl:=nM aaZ aaU.xV aaU.sub
 have hUT:=aaU.Sa aaZ adz
 have aa2:=aaU.bQ aaZ ahS adz
 rw[ahR]at aa2
 refine v1 (ae o16) ?_
 refine(qv (n:=n) (es:=es++[m]) (r15.fresh f16) s16.rd hRm aaU.ins (by omega) hwm (by omega)).mono ?_
 rintro _ H17 ⟨rfl,f17⟩
 have g17:=g16.trans f17
 have x17:=f17.own x16 (fun h=>h)
 simp(disch:=(first|omega| (simp only[Zs]<;>omega)|fail)) only[go_sem, ↓reduceIte,Zv,LR]
 obtain⟨f18,w18,z18⟩:=Lq H17 36 [i64 0,u64 0] [i64 (mG (U.map (wE (es++[m]))).sum).1,u64 ((mG (U.map (wE (es++[m]))).sum).2:Int)]
 generalize hwb:H17.size=wb at*
 generalize (H17.new 36 [i64 0,u64 0]).wr wb [i64 (mG (U.map (wE (es++[m]))).sum).1,u64 ((mG (U.map (wE (es++[m]))).sum).2:Int)]=H18 at*
 have x18:=f18.own x17 (fun h=>h)
 have g18:=g17.trans f18
 refine v1 aoi ?_
 refine am.cF (by rw[hUT];simp) ?_
 refine v2 (ae w18) (ae x18) ?_
 refine(zy (mG (U.map (wE (es++[m]))).sum) (mG (T.map (wE es)).sum) H18).mono ?_
 rintro _ H19 ⟨rfl,f19⟩
 refine vs ?_
 exact⟨anP Value.bool (anI (aaT aa2)),g18.trans f19⟩
end Go.Proofs.YtjlnnljohemifaaGreat
