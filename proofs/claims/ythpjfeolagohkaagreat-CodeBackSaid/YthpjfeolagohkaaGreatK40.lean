/- Texts put behind each other. -/
import Derived.Test.YthpjfeolagohkaaGreatK98
import Derived.Test.YthpjfeolagohkaaGreatK23
import Derived.Test.YthpjfeolagohkaaGreatK28
import Derived.Test.YthpjfeolagohkaaGreatK39
set_option maxRecDepth 100000
set_option maxHeartbeats 8000000
set_option linter.unusedVariables false
set_option linter.unusedSimpArgs false
namespace Go.Proofs.YthpjfeolagohkaaGreat
open Go Go.Vc
theorem Mo.below{w:Nw}{L:List Lk}{tops:List Int}{ch:Int→List Int}{par:Int→Int}(l:Mo w L tops ch par){x:Int}(hx:0<aE w x)(ht:bf tops (aE w x)≠x):∃p l1 l2,ch p=l1++x::l2:=by
 have hp:par x≠ -1:=fun h=>ht (l.t.tp.t2 x hx h)
 obtain⟨l1,l2,h⟩:=List.append_of_mem (l.t.pr.up x _ rfl hp)
 exact⟨par x,l1,l2,h⟩
theorem tA{n:Nat}{H:Hp}{S:Nat→Prop}{w:Nw}(h:dF n H S w)(x k s:Int):af Tryz.prog hX [ptr n,i64 x,tu k s] H fun v H'=>ar (
  (¬w.cX x k s∧v= .bool false∧cA (dF n) S H H' w)∨(w.cX x k s∧v= .bool true∧∃y,w.cs[x.toNat]? =some y∧cA (dF n) S H H' (w.put x (y.1,k,s)))):=by
 obtain⟨B,C,L,tops,ch,par,rfl,m,l,hS⟩:=h
 have hC:∀z,C z→S z:=fun z h=>(hS z).2 (.inl h)
 have t1:S B.tb:=(hS _).2 (.inr (.inr (.inl rfl)))
 have t2:S B.tp:=(hS _).2 (.inr (.inr (.inr rfl)))
 refine Kw pK ⟨rfl,?_⟩
 refine v1 ic.eq_1 ?_
 have f0:am H (H.new 182 [i64 k,u64 s]):=(ag.refl _ _).new _ _
 have b0:(H.new 182 [i64 k,u64 s]).own H.size=some [i64 k,u64 s]:=aD _ _ _
 have m0:=m.fresh f0
 generalize H.new 182 [i64 k,u64 s]=H0 at*
 have ff:ag S H H0:=f0.mono fun _ _ h=>h.elim
 obtain⟨tv,IY,_⟩:=m0.own
 refine v2 (ae IY) (ae b0) ?_
 refine(gC m0.cells x k s).mono ?_
 rintro _ H1 (⟨bS,rfl,c1,e1⟩| ⟨bE,rfl,y,hy,fz,c1,e1⟩)
 ·refine vs ?_
  exact .inl ⟨bS,rfl,cA.same ⟨B,C,L,tops,ch,par,rfl,m0.ext e1 (fun _ _ h=>h),l,hS⟩ (ff.trans (e1.mono fun _ _ h=>h.elim))⟩
 have nL:(w.put x (y.1,k,s)).cs.length=w.cs.length:=by simp[Nw.put]
 have m1:=m0.aH c1 e1 nL
 have Bh:w.cX x k s:=⟨bE,fun z hz=>by rw[hy]at hz;injection hz with hz;rw[←hz];exact fz⟩
 have hx:0≤x∧x<w.cs.length:=⟨bE.1,by have:=(aoq.1 hy).1;have:=bE.1;omega⟩
 have OV:aE w x=y.1:=jI bE.1 hy
 have dZ:=bC.2 bE
 have hw:aE (w.put x (y.1,k,s))=aE w:=by
  funext z
  rw[ed hx]
  split
  ·rename_i e;rw[e,OV]
  ·rfl
 have EG:cU (w.put x (y.1,k,s)).cs x:=bC.1 (by rw[hw];exact dZ)
 obtain⟨CW,o1,_⟩:=m1.own
 refine v1 (ae o1) ?_
 refine(df m1.cells x).mono ?_
 rintro _ H2 (⟨bS,_,_⟩| ⟨_,rfl,c2,e2⟩)
 ·exact absurd EG bS
 have m2:=m1.aH c2 e2 rfl
 have oZ:ag S H H2:=(ff.trans (e1.mono fun z _ h=>hC z h)).trans (e2.mono fun z _ h=>hC z h)
 have el:∀a b,0<aE w a→0<aE w b→a≠x→b≠x→aN (w.put x (y.1,k,s)) a b=aN w a b:=fun a b ha hb qA lV=>dC hx _ ha hb qA lV
 have ex:∀b,0<aE w b→b≠x→aN w x b=true→aN (w.put x (y.1,k,s)) x b=true:=fun b hb lV h=>A8 bE hy fz hb lV h
 have dq:aE w x<tops.length:=by
  have:=((m.cells.hm x).2 dZ).2
  have:=l.tl
  omega
 obtain⟨cc,lt,o2,q2,AW,Fe,O2⟩:=m2.fR
 have q3:=m2.eR q2 (dU (tops:=tops) (h:=aE w x) (by omega) dq)
 rw[hw]
 refine v1 (ae o2) ?_
 refine⟨⟨by omega,by omega⟩,?_⟩
 refine v4 (ae q2) aor aos q3 ?_
 refine ai.dec (fun gt=>?_) (fun gt=>?_)<;>refine vs ?_
 ·have hu:par x= -1:=by
   have:=(l.t.tp.t1 (aE w x) (by rw[gt];omega)).2.2
   rwa[gt]at this
  refine .inr ⟨Bh,rfl,y,hy,cA.same ⟨B,C,L,tops,ch,par,rfl,m2,⟨?_,l.pl,l.tl⟩,hS⟩ oZ⟩
  rw[hw]
  exact l.t.UB hu el ex
 obtain⟨p,l1,l2,hp⟩:=l.below dZ gt
 have po:=(l.t.off hp).low el ex
 refine(qj m2 (ap w) (by rw[hw];exact l.t.pr) l.pl hp).mono ?_
 rintro _ H4 ⟨L4,m4,p4,e4⟩
 have zB:ag S H H4:=oZ.trans (e4.mono fun z _ h=>h▸t1)
 rw[←hw]at po
 have dq:aE (w.put x (y.1,k,s)) x<tops.length:=by rw[hw];exact dq
 have SR:=po.g0
 refine vs ?_
 generalize hg:aE (w.put x (y.1,k,s)) x=g at*
 rw[←hw,hg]
 obtain⟨cc,lt,o4,q2,AW,Fe,O2⟩:=m4.fR
 have q3:=m4.eR q2 (dU (tops:=tops) (h:=g) (by omega) dq)
 refine oC.intro (fun H'=>H'.own B.n=some [ptr B.c,.slice (some ⟨B.tb,0,none⟩) L4.length L4.length,.slice (some ⟨B.tp,0,none⟩) tops.length cc]) o4 ?_
 refine vs ?_
 refine oB.intro (.slice (some ⟨B.tp,0,none⟩) tops.length cc) (fun H' hI=>by refine v1 (ae hI) ?_;trivial) ?_
 refine v1 (ae o4) ?_
 refine And.intro o4 ?_
 refine vs ?_
 refine⟨⟨by omega,by omega⟩,?_⟩
 refine v4 (ae q2) aor aos q3 ?_
 refine And.intro o4 ?_
 refine vs ?_
 have bw:=po.w
 rw[show ws [bf tops g,x]=ws [bf tops g,x]++[] by simp]at bw
 refine(cZ m4 bw p4).mono ?_
 rintro _ H5 ⟨r,L5,ZY,QL,rfl,_,m5,w5,p5,e5⟩
 rw[ao3]at w5
 have bn:=po.done w5
 obtain⟨d1,d2,d3⟩:=m4.nN
 have no:¬ (C B.n∨B.n=B.tb):=by rintro(h|h);exact m4.out.1 h;omega
 refine And.intro (e5.own o4 no) ?_
 have q4:=e5.own q2 (by rintro(h|h);exact m4.out.2.2 h;omega)
 refine vs ?_
 refine⟨⟨by omega,by omega⟩,?_⟩
 refine v3 q4 aor aos ?_
 refine⟨by omega,?_⟩
 obtain⟨m6,e6⟩:=m5.kL q4 g.toNat r
 refine And.intro (e6.own (e5.own o4 no) d2) ?_
 refine vs ?_
 refine .inr ⟨Bh,rfl,y,hy,cA.same ⟨B,C,L5,_,ZY,QL,rfl,m6,⟨?_,p5,by rw[aot];exact l.tl⟩,hS⟩ ((zB.trans (e5.mono fun z _ h=>by rcases h with h|rfl;exact hC z h;exact t1)).trans (e6.mono fun z _ h=>h▸t2))⟩
 rw[eC (by omega) dq]
 exact bn
theorem xi{n:Nat}{H:Hp}{S:Nat→Prop}{w:Nw}(h:dF n H S w)(x:Int):af Tryz.prog sM [ptr n,i64 x] H fun v H'=>ar (
  (¬cU w.cs x∧v= .bool false∧cA (dF n) S H H' w)∨(cU w.cs x∧v= .bool true∧cA (dF n) S H H' (w.put x (0,0,0)))):=by
 obtain⟨B,C,L,tops,ch,par,rfl,m,l,hS⟩:=id h
 have hC:∀z,C z→S z:=fun z h=>(hS z).2 (.inl h)
 have t1:S B.tb:=(hS _).2 (.inr (.inr (.inl rfl)))
 have t2:S B.tp:=(hS _).2 (.inr (.inr (.inr rfl)))
 obtain⟨tv,o0,_⟩:=m.own
 refine Kw sX ⟨rfl,?_⟩
 refine v2 jt.eq_1 (ae o0) ?_
 refine(df m.cells x).mono ?_
 rintro _ H1 (⟨bS,rfl,rfl⟩| ⟨bE,rfl,c1,e1⟩)
 ·refine vs ?_
  exact .inl ⟨bS,rfl,cA.same h (ag.refl _ _)⟩
 have m1:=m.aH c1 e1 rfl
 have dZ:=bC.2 bE
 obtain⟨fL,kD,_⟩:=aC dZ
 have G6:x≠ -1:=by omega
 have ls:=ap w
 have cG:=fun y=>ed (w:=w) ⟨fL,kD⟩ (0,0,0) y
 have p0:aE (w.put x (0,0,0)) (-1)=0:=rfl
 have p1:aE (w.put x (0,0,0)) x=0:=by rw[cG,if_pos rfl]
 have p2:∀y,y≠x→aE (w.put x (0,0,0)) y=aE w y:=fun y hy=>by rw[cG,if_neg hy]
 have el:∀a b,0<aE w a→0<aE w b→a≠x→b≠x→aN (w.put x (0,0,0)) a b=aN w a b:=fun a b ha hb qA lV=>dC ⟨fL,kD⟩ _ ha hb qA lV
 have nL:(w.put x (0,0,0)).cs.length=w.cs.length:=by simp[Nw.put]
 have dq:aE w x<tops.length:=by
  have:=((m.cells.hm x).2 dZ).2
  have:=l.tl
  omega
 have e11:ag S H H1:=e1.mono fun z _ h=>hC z h
 obtain⟨cc,lt,o1,q2,AW,Fe,O2⟩:=m1.fR
 have q3:=m1.eR q2 (dU (tops:=tops) (h:=aE w x) (by omega) dq)
 obtain⟨d1,d2,d3⟩:=m1.nN
 have no:¬ (C B.n∨B.n=B.tb):=by rintro(h|h);exact m1.out.1 h;omega
 have no2:¬ (C B.tp∨B.tp=B.tb):=by rintro(h|h);exact m1.out.2.2 h;omega
 refine v1 (ae o1) ?_
 refine⟨⟨by omega,by omega⟩,?_⟩
 refine v4 (ae q2) aor aos q3 ?_
 refine ai.dec (fun gt=>?_) (fun gt=>?_)<;>refine vs ?_
 ·have hu:par x= -1:=by
   have:=(l.t.tp.t1 (aE w x) (by rw[gt];omega)).2.2
   rwa[gt]at this
  refine oC.intro (fun H'=>H'.own B.n=some [ptr B.c,.slice (some ⟨B.tb,0,none⟩) L.length L.length,.slice (some ⟨B.tp,0,none⟩) tops.length cc]) o1 ?_
  refine vs ?_
  refine oB.intro (.slice (some ⟨B.tp,0,none⟩) tops.length cc) (fun H' hI=>by refine v1 (ae hI) ?_;trivial) ?_
  refine vs ?_
  refine(iX m1 l.t.pr l.pl dZ).mono ?_
  rintro _ H2 ⟨r,L2,kU,iW,rfl,m2,pl2,w2,e2⟩
  refine And.intro (e2.own o1 no) ?_
  have q4:=e2.own q2 no2
  refine vs ?_
  refine⟨⟨by omega,by omega⟩,?_⟩
  refine v3 q4 aor aos ?_
  refine⟨by omega,?_⟩
  obtain⟨m3,e3⟩:=m2.kL q4 (aE w x).toNat r
  refine And.intro (e3.own (e2.own o1 no) d2) ?_
  obtain⟨XC,o3,_⟩:=m3.own
  refine v1 (ae o3) ?_
  refine(bY m3.cells x).mono ?_
  rintro _ H4 (⟨bS,_,_⟩| ⟨_,rfl,c4,e4⟩)
  ·exact absurd bE bS
  have m4:=m3.aH c4 e4 nL
  refine vs ?_
  have w3:=w2.drop (x:=x) ⟨dZ,hu⟩ (by rw[w2.fr x ⟨dZ,hu⟩];unfold ax;rw[if_pos rfl]) ((w2.Eh x dZ).2 (.inr ⟨dZ,hu⟩)) p0 p1 p2 el
  refine .inr ⟨bE,rfl,cA.same ⟨B,C,L2,_,kU,iW,rfl,m4,⟨?_,pl2,by rw[aot];exact l.tl⟩,hS⟩ (((e11.trans (e2.mono fun z _ h=>by rcases h with h|rfl;exact hC z h;exact t1)).trans (e3.mono fun z _ h=>h▸t2)).trans (e4.mono fun z _ h=>hC z h))⟩
  rw[eC (by omega) dq]
  refine⟨w3.pr,w3.done (fun h aQ hh=>?_) (fun y hy=>?_)⟩
  ·obtain⟨g1,g2,g3⟩:=l.t.tp.t1 h hh
   have hn:bf tops h≠x:=fun e=>aQ (by rw[←g1,e])
   exact⟨by rw[p2 _ hn];exact g1,g2,⟨by omega,g3⟩,hn⟩
  ·have h5:=l.t.tp.t2 y hy.1.1 hy.1.2
   rw[p2 _ hy.2]
   exact⟨fun e=>by rw[e,gt]at h5;exact hy.2 h5.symm,h5⟩
 obtain⟨p,l1,l2,hp⟩:=l.below dZ gt
 have po:=l.t.off hp
 refine(qj m1 ls l.t.pr l.pl hp).mono ?_
 rintro _ H2 ⟨L2,m2,pl2,e2⟩
 have oZ:ag S H H2:=e11.trans (e2.mono fun z _ h=>h▸t1)
 have hu:=po.ox.2.2
 obtain⟨cc,lt,o2,q2,AW,Fe,O2⟩:=m2.fR
 have q3:=m2.eR q2 (dU (tops:=tops) (h:=aE w x) (by omega) dq)
 refine vs ?_
 refine oC.intro (fun H'=>H'.own B.n=some [ptr B.c,.slice (some ⟨B.tb,0,none⟩) L2.length L2.length,.slice (some ⟨B.tp,0,none⟩) tops.length cc]) o2 ?_
 refine vs ?_
 refine oB.intro (.slice (some ⟨B.tp,0,none⟩) tops.length cc) (fun H' hI=>by refine v1 (ae hI) ?_;trivial) ?_
 refine vs ?_
 refine oB.intro (.slice (some ⟨B.tp,0,none⟩) tops.length cc) (fun H' hI=>by refine v1 (ae hI) ?_;trivial) ?_
 refine vs ?_
 refine⟨⟨by omega,by omega⟩,?_⟩
 refine vs ?_
 refine II.intro ?_ ?_
 ·refine v4 (ae q2) aor aos q3 ?_
  refine And.intro o2 ?_
  refine vs ?_
  refine(iX m2 po.pr pl2 dZ).mono ?_
  rintro _ H3 ⟨r,L3,ML,oT,rfl,m3,T7,w3,e3⟩
  refine And.intro (e3.own o2 no) ?_
  have q4:=e3.own q2 no2
  refine vs ?_
  have w4:=w3.cC (t:=bf tops (aE w x)) (fun hh=>by
   obtain⟨g1,g2,g3⟩:=po.t1 _ hh
   exact⟨⟨by omega,g3⟩,g1⟩)
  rw[←mi,show ws [bf tops (aE w x),r]=ws [bf tops (aE w x),r]++[] by simp]at w4
  refine(cZ m3 w4 T7).mono ?_
  rintro _ H4 ⟨r2,L4,Vl,J8,rfl,_,m4,w5,YA,e4⟩
  rw[ao3]at w5
  refine And.intro (e4.own (e3.own o2 no) no) ?_
  have q5:=e4.own q4 no2
  refine vs ?_
  refine⟨⟨by omega,by omega⟩,?_⟩
  refine v3 q5 aor aos ?_
  refine⟨by omega,?_⟩
  obtain⟨m5,e5⟩:=m4.kL q5 (aE w x).toNat r2
  refine And.intro (e5.own (e4.own (e3.own o2 no) no) d2) ?_
  obtain⟨tv5,o5,_⟩:=m5.own
  refine v1 (ae o5) ?_
  refine(bY m5.cells x).mono ?_
  rintro _ H6 (⟨bS,_,_⟩| ⟨_,rfl,c6,e6⟩)
  ·exact absurd bE bS
  have m6:=m5.aH c6 e6 nL
  refine vs ?_
  have hR:(0<aE w x∧aJ par x (-1) x= -1)∧x≠bf tops (aE w x):=⟨⟨dZ,hu⟩,fun e=>po.nx e.symm⟩
  have Ei:ax (ax ch p (l1++l2)) x [] x=[]:=by unfold ax;rw[if_pos rfl]
  have w6:=w5.drop (x:=x) hR (by rw[w5.fr x hR];exact Ei) ((w5.Eh x dZ).2 (.inr hR)) p0 p1 p2 el
  refine .inr ⟨bE,rfl,cA.same ⟨B,C,L4,_,Vl,J8,rfl,m6,⟨?_,YA,by rw[aot];exact l.tl⟩,hS⟩ ((((oZ.trans (e3.mono fun z _ h=>by rcases h with h|rfl;exact hC z h;exact t1)).trans (e4.mono fun z _ h=>by rcases h with h|rfl;exact hC z h;exact t1)).trans (e5.mono fun z _ h=>h▸t2)).trans (e6.mono fun z _ h=>hC z h))⟩
  rw[eC (by omega) dq]
  refine⟨w6.pr,w6.done (fun h aQ hh=>?_) (fun y hy=>?_)⟩
  ·obtain⟨g1,g2,g3⟩:=po.t1 h hh
   have hn:bf tops h≠x:=fun e=>aQ (by rw[←g1,e])
   have CG:bf tops h≠bf tops (aE w x):=fun e=>by
    by_cases h4:bf tops (aE w x)= -1
    ·rw[e]at hh;exact hh h4
    ·have:=(po.t1 _ h4).1
     rw[←e,g1]at this
     exact aQ this
   exact⟨by rw[p2 _ hn];exact g1,g2,⟨⟨by omega,g3⟩,CG⟩,hn⟩
  ·have h5:=po.t2 y hy.1.1.1 hy.1.1.2 hy.2
   rw[p2 _ hy.2]
   exact⟨fun e=>by rw[e]at h5;exact hy.1.2 h5.symm,h5⟩
 ·refine vs ?_
  refine(iX m2 po.pr pl2 dZ).mono ?_
  rintro _ H3 ⟨r,L3,ML,oT,rfl,m3,T7,w3,e3⟩
  refine And.intro (e3.own o2 no) ?_
  have q4:=e3.own q2 no2
  refine vs ?_
  have q6:=m3.eR q4 (dU (tops:=tops) (h:=aE w x) (by omega) dq)
  refine v4 (ae q4) aor aos q6 ?_
  refine And.intro (e3.own o2 no) ?_
  refine vs ?_
  have w4:=w3.cC (t:=bf tops (aE w x)) (fun hh=>by
   obtain⟨g1,g2,g3⟩:=po.t1 _ hh
   exact⟨⟨by omega,g3⟩,g1⟩)
  rw[←mi,show ws [bf tops (aE w x),r]=ws [bf tops (aE w x),r]++[] by simp]at w4
  refine(cZ m3 w4 T7).mono ?_
  rintro _ H4 ⟨r2,L4,Vl,J8,rfl,_,m4,w5,YA,e4⟩
  rw[ao3]at w5
  refine And.intro (e4.own (e3.own o2 no) no) ?_
  have q5:=e4.own q4 no2
  refine vs ?_
  refine⟨⟨by omega,by omega⟩,?_⟩
  refine v3 q5 aor aos ?_
  refine⟨by omega,?_⟩
  obtain⟨m5,e5⟩:=m4.kL q5 (aE w x).toNat r2
  refine And.intro (e5.own (e4.own (e3.own o2 no) no) d2) ?_
  obtain⟨tv5,o5,_⟩:=m5.own
  refine v1 (ae o5) ?_
  refine(bY m5.cells x).mono ?_
  rintro _ H6 (⟨bS,_,_⟩| ⟨_,rfl,c6,e6⟩)
  ·exact absurd bE bS
  have m6:=m5.aH c6 e6 nL
  refine vs ?_
  have hR:(0<aE w x∧aJ par x (-1) x= -1)∧x≠bf tops (aE w x):=⟨⟨dZ,hu⟩,fun e=>po.nx e.symm⟩
  have Ei:ax (ax ch p (l1++l2)) x [] x=[]:=by unfold ax;rw[if_pos rfl]
  have w6:=w5.drop (x:=x) hR (by rw[w5.fr x hR];exact Ei) ((w5.Eh x dZ).2 (.inr hR)) p0 p1 p2 el
  refine .inr ⟨bE,rfl,cA.same ⟨B,C,L4,_,Vl,J8,rfl,m6,⟨?_,YA,by rw[aot];exact l.tl⟩,hS⟩ ((((oZ.trans (e3.mono fun z _ h=>by rcases h with h|rfl;exact hC z h;exact t1)).trans (e4.mono fun z _ h=>by rcases h with h|rfl;exact hC z h;exact t1)).trans (e5.mono fun z _ h=>h▸t2)).trans (e6.mono fun z _ h=>hC z h))⟩
  rw[eC (by omega) dq]
  refine⟨w6.pr,w6.done (fun h aQ hh=>?_) (fun y hy=>?_)⟩
  ·obtain⟨g1,g2,g3⟩:=po.t1 h hh
   have hn:bf tops h≠x:=fun e=>aQ (by rw[←g1,e])
   have CG:bf tops h≠bf tops (aE w x):=fun e=>by
    by_cases h4:bf tops (aE w x)= -1
    ·rw[e]at hh;exact hh h4
    ·have:=(po.t1 _ h4).1
     rw[←e,g1]at this
     exact aQ this
   exact⟨by rw[p2 _ hn];exact g1,g2,⟨⟨by omega,g3⟩,CG⟩,hn⟩
  ·have h5:=po.t2 y hy.1.1.1 hy.1.1.2 hy.2
   rw[p2 _ hy.2]
   exact⟨fun e=>by rw[e]at h5;exact hy.1.2 h5.symm,h5⟩
theorem u0{n:Nat}{H:Hp}{S:Nat→Prop}{w:Nw}(h:dF n H S w)(g:Int):af Tryz.prog iF [ptr n,i64 g] H fun v H'=>ar (
  (w.len g=0∧v= .tuple [i64 0,.bool false].toArray∧cA (dF n) S H H' w)∨(∃x,w.first g x∧v= .tuple [i64 x,.bool true].toArray∧cA (dF n) S H H' (w.put x (0,0,0)))):=by
 refine aZ qV ?_
 refine vs ?_
 refine(qm h g).mono ?_
 rintro _ _ ⟨⟨h0,rfl⟩| ⟨x,hx,rfl⟩,rfl⟩
 ·refine vs ?_
  exact .inl ⟨h0,rfl,cA.same h (ag.refl _ _)⟩
 ·refine vs ?_
  refine(xi h x).mono ?_
  rintro _ H1 (⟨bS,_,_⟩| ⟨_,rfl,h1⟩)
  ·exact absurd (bC.1 (by have:=bH.1 hx;omega)) bS
  refine vs ?_
  exact .inr ⟨x,hx,rfl,h1⟩
theorem Ke(n:Nat):xu (.iface 158 (ptr n)) (dF n) where
 slt h:=h.slt
 ext h e hd:=h.ext e hd
 cells:=by
  rintro H S w ⟨B,C,L,tops,ch,par,rfl,m,l,hS⟩
  exact⟨B.c,C,m.cells⟩
 has:=by
  rintro H S w g ⟨B,C,L,tops,ch,par,rfl,m,l,hS⟩
  obtain⟨tv,ho,_⟩:=m.own
  exact⟨_,_,bu,ptr B.c,rfl,fG (off:=0) (by kernel_rfl) (ae ho) rfl,(ik m.cells g).mono fun v H' hp=>hp⟩
 make:=by
  intro H S w h
  exact⟨_,_,lH,ptr n,rfl,br (by kernel_rfl),(Bx h).mono fun v H' hp=>hp⟩
 insert:=by
  intro H S w g x k s h
  exact⟨_,_,jj,ptr n,rfl,br (by kernel_rfl),(xh h g x k s).mono fun v H' hp=>hp⟩
 min:=by
  intro H S w g h
  refine⟨_,_,mL,ptr n,rfl,br (by kernel_rfl),(qm h g).mono ?_⟩
  rintro v H' ⟨⟨h1,rfl⟩| ⟨x,h1,rfl⟩,rfl⟩
  ·exact .inl ⟨h1,rfl,cA.same h (ag.refl _ _)⟩
  ·exact .inr ⟨x,h1,rfl,cA.same h (ag.refl _ _)⟩
 extract:=by
  intro H S w g h
  exact⟨_,_,iF,ptr n,rfl,br (by kernel_rfl),(u0 h g).mono fun v H' hp=>hp⟩
 nl:=by
  intro H S w x k s h
  exact⟨_,_,hX,ptr n,rfl,br (by kernel_rfl),(tA h x k s).mono fun v H' hp=>hp⟩
 entry:=by
  rintro H S w x ⟨B,C,L,tops,ch,par,rfl,m,l,hS⟩
  obtain⟨tv,ho,_⟩:=m.own
  refine⟨_,_,ba,ptr B.c,rfl,fG (off:=0) (by kernel_rfl) (ae ho) rfl,(gB m.cells x).mono ?_⟩
  rintro v H' ⟨c1,f,hv⟩
  exact⟨⟨B,C,L,tops,ch,par,rfl,m.fresh f,l,hS⟩,f,hv⟩
section
variable {H H' : Hp} {ro ro' : Nat → Rl} {fb tb n : Nat} {l : List Value} {V : Int → Value} {ch : Int → List Int} {par : Int → Int} {kb : Int → Option Nat} {T : Nat → Prop}
theorem vd(m:ForM H ro fb tb n l V ch par kb){a:Option Addr}{c:Nat}{xs:List Int}(h:cK H 1 (.slice a xs.length c) xs.length (xs.map i64))(hr:∀x∈xs,(0≤x∧x<n)∧par x= -1)(hR:E4 ch xs)(hm:xs.length≤1000000):
  af Tryz.prog yi [ptr fb,.slice a xs.length c] H fun v H'=>ar (v= .bool true∧H'=H):=by
 refine aZ yN ?_
 refine vs ?_
 refine aS.intro (fun m env H'=>H'=H∧∃j:Nat,m=xs.length - j∧j≤xs.length∧env=[(0,ptr fb),(1,.slice a xs.length c),(7,.slice a xs.length c),(8,i64 xs.length),(9,i64 j)]) xs.length ⟨rfl,0,by omega,by omega,rfl⟩ ?_
 rintro mm env H1 ⟨e1,j,rfl,hj,rfl⟩
 obtain rfl:=e1.symm
 refine vs ?_
 refine ai.dec (fun aK=>?_) (fun aK=>?_)<;>refine vs ?_
 ·have gf:j<xs.length:=by omega
  obtain⟨x,hx⟩:∃x,xs[j]? =some x:=⟨_,aop gf⟩
  obtain⟨_,b,o,lb,rfl,uA,aV⟩:=cK.num h hx
  obtain⟨kD,DG⟩:=hr x (aow hx)
  refine⟨⟨by omega,by omega⟩,?_⟩
  refine v4 uA Int.toNat_natCast aos aV ?_
  refine(gM m.t x).mono ?_
  rintro _ H' ⟨rfl,e⟩
  obtain rfl:=e.symm
  rw[aoE kD,aoE DG]
  refine vs ?_
  refine ai.dec (fun h0=>?_) (fun h0=>?_)
  ·obtain⟨k,rfl⟩:∃k,j=k+1:=⟨j - 1,by omega⟩
   obtain⟨y,hy⟩:∃y,xs[k]? =some y:=⟨_,aop (by omega)⟩
   obtain⟨_,b',o',Wd,BP,ag0,YF⟩:=cK.num h hy
   injection BP with BP
   injection BP with ag1 KL
   subst ag1 KL
   have tw:(ch y).length< (ch x).length:=by
    have:=apl.1 hR k (k+1) (by omega) (by omega) (by omega)
    rw[aop (by omega)]at hx hy
    injection hx with hx
    injection hy with hy
    rw[hx,hy]at this
    exact this
   refine vs ?_
   rw[wrap64 (n:=((k+1:Nat):Int) - 1) (by omega) (by omega),show((k+1:Nat):Int) - 1=(k:Int) by omega]
   refine⟨⟨by omega,by omega⟩,?_⟩
   refine v4 ag0 Int.toNat_natCast aos YF ?_
   refine(cY m y).mono ?_
   rintro _ H' ⟨rfl,e⟩
   obtain rfl:=e.symm
   refine vs ?_
   refine(cY m x).mono ?_
   rintro _ H' ⟨rfl,e⟩
   obtain rfl:=e.symm
   refine vs ?_
   refine ai.dec (fun MZ=>by omega) (fun _=>?_)
   refine vs ?_
   rw[wrap64 (n:=((k+1:Nat):Int)+1) (by omega) (by omega)]
   exact⟨xs.length - (k+1+1),by omega,trivial,k+1+1,rfl,by omega,rfl⟩
  ·refine vs ?_
   rw[wrap64 (n:=(j:Int)+1) (by omega) (by omega)]
   exact⟨xs.length - (j+1),by omega,trivial,j+1,rfl,by omega,rfl⟩
 ·exact⟨rfl,rfl⟩
theorem qn(t:nj H fb tb n l V par){x:Int}(hx:0≤x∧x<n){kv:Value}{m:Nat}{ks:List Int}{fp:Option Nat}(s:Sl H 1 kv m (ks.map i64) fp)(fU:fp≠some tb)(bE:∀k∈ks,0≤k∧k<n)(hl:ks.length≤1000000):
  af Tryz.prog tY [ptr fb,i64 x,kv] H fun v H'=>ar (∃l',nj H' fb tb n l' (uJ V x kv) (fun z=>if z∈ks then x else par z)∧ag (fun z=>z=tb) H H'):=by
 obtain rfl:m=ks.length:=by
  have:=s.1
  rw[aoA,aos]at this
  exact this.symm
 obtain⟨ka,kc,rfl⟩:=Sl.shape s
 have jx:=t.len
 refine aZ ul ?_
 refine v1 (ae t.own) ?_
 refine⟨⟨by omega,by omega⟩,?_⟩
 refine v3 t.EZ aor Nat.add_zero ?_
 refine⟨by omega,?_⟩
 obtain⟨t1,e1⟩:=t.uJ hx (.slice ka ks.length kc)
 refine vs ?_
 have s1:=s.ext e1 (fun b hb e=>fU (by rw[hb,e]))
 have rQ:=t1.len
 generalize H.wr tb (l.set (x.toNat*2) (.slice ka ks.length kc))=H1 at*
 refine aS.intro (fun mm env H'=>∃ (j:Nat) (l':List Value),mm=ks.length - j∧j≤ks.length∧nj H' fb tb n l' (uJ V x (.slice ka ks.length kc)) (fun z=>if z∈ks.take j then x else par z)∧ag (fun z=>z=tb) H1 H'∧
  env=[(0,ptr fb),(1,i64 x),(16,.slice ka ks.length kc),(17,i64 ks.length),(18,i64 j)]) ks.length ⟨0,_,by omega,by omega,by simpa using t1,ag.refl _ _,rfl⟩ ?_
 rintro mm env H2 ⟨j,l2,rfl,hj,t2,e2,rfl⟩
 have s2:=s1.ext e2 (fun b hb e=>fU (by rw[hb,e]))
 have sE:=t2.len
 refine vs ?_
 refine ai.dec (fun aK=>?_) (fun aK=>?_)<;>refine vs ?_
 ·have gf:j<ks.length:=by omega
  obtain⟨k,hk⟩:∃k,ks[j]? =some k:=⟨_,aop gf⟩
  obtain⟨_,b,lb,rfl,q2,q3⟩:=Sl.zg s2 hk
  have ZQ:=bE k (aow hk)
  refine⟨⟨by omega,by omega⟩,?_⟩
  refine v6 (ae q2) aor aos Int.toNat_natCast q3 (ae t2.own) ?_
  refine⟨⟨by omega,by omega⟩,?_⟩
  refine v3 t2.EZ aor Nat.add_zero ?_
  refine⟨by omega,?_⟩
  obtain⟨t3,e3⟩:=t2.aJ ZQ x
  refine vs ?_
  rw[wrap64 (n:=(j:Int)+1) (by omega) (by omega)]
  refine⟨ks.length - (j+1),by omega,j+1,l2.set (k.toNat*2+1) (i64 x),rfl,by omega,?_,e2.trans e3,rfl⟩
  have tk:ks.take (j+1)=ks.take j++[k]:=by rw[aoM,hk];rfl
  have:(fun z=>if z∈ks.take (j+1)then x else par z)=aJ (fun z=>if z∈ks.take j then x else par z) k x:=by
   funext z
   unfold aJ
   rw[tk]
   by_cases hz:z=k
   ·rw[if_pos (by simp[hz]),if_pos hz]
   ·rw[if_neg hz]
    by_cases h2:z∈ks.take j
    ·rw[if_pos (ape _ h2)]
     exact(if_pos h2).symm
    ·rw[if_neg (by simp[h2,hz])]
     exact(if_neg h2).symm
  rw[this]
  exact t3
 ·obtain rfl:j=ks.length:=by omega
  rw[aoQ]at t2
  exact⟨l2,t2,e1.trans e2⟩
theorem RK.kbs{s:Nat}(r:RK s ro ro'){z:Nat}(hz:z<s)(h:KB ro' z):KB ro z:=by
 rcases h with h| ⟨x,h⟩
 ·refine .inl ?_
  by_cases hk:∃x,ro z= .qz x
  ·obtain⟨x,hx⟩:=hk
   obtain⟨y,hy⟩:=r.k z x hz hx
   rw[hy]at h;cases h
  ·rw[←r.o z hz (fun x hx=>hk ⟨x,hx⟩)];exact h
 ·refine .inr ?_
  apply aoJ
  intro hk
  rw[r.o z hz (fun x hx=>hk ⟨x,hx⟩)]at h
  exact hk ⟨x,h⟩
theorem Dh(m:ForM H ro fb tb n l V ch par kb)(hz:∀z,H.size≤z→ro z= .no){x:Int}(hx:0≤x∧x<n)(px:par x= -1)(hl:(ch x).length≤65536):
  af Tryz.prog tX [ptr fb,i64 x] H fun v H'=>ar (∃ro' l' V' qa fp,ForM H' ro' fb tb n l' V' (ax ch x []) (fx ch par x) qa∧RK H.size ro ro'∧(∀z,H'.size≤z→ro' z= .no)∧ag (KB ro) H H'∧
   Sl H' 1 v (ch x).length ((ch x).map i64) fp∧∀b,fp=some b→H.size≤b∧ro' b= .no):=by
 have ht:=m.t.len
 obtain⟨a1,a2⟩:=m.t.at_ x hx.1 hx.2
 have kx:=m.kd x hx.1 hx.2
 obtain⟨ka,kc,Z0⟩:=Sl.shape kx
 rw[Z0]at a1 kx
 refine aZ ui ?_
 refine vs ?_
 refine(gM m.t x).mono ?_
 rintro _ H' ⟨rfl,e⟩
 obtain rfl:=e.symm
 rw[aoE hx,aoE px]
 refine v1 (ae m.t.own) ?_
 refine⟨⟨by omega,by omega⟩,?_⟩
 refine v5 (ae m.t.own) (ae m.t.EZ) aor Nat.add_zero a1 ?_
 refine⟨⟨by omega,by omega⟩,?_⟩
 refine v3 m.t.EZ aor Nat.add_zero ?_
 refine⟨by omega,?_⟩
 obtain⟨YG,Z1,m1,r1,n1,e1⟩:=m.put hz hx (ag.refl _ H) (Sl.nil H 1) (w':=.slice none 0 0) (L':=[]) (.inr (.inl rfl)) (by simp)
 refine vs ?_
 have acK:∀b,kb x=some b→b≠tb:=fun b hb e=>by
  have:=m.rk x b hx.1 hx.2 hb
  rw[e,m.rt]at this
  cases this
 have s1:=kx.ext (m.t.uJ hx (.slice none 0 0)).2 (fun b hb=>acK b hb)
 generalize H.wr tb (l.set (x.toNat*2) (.slice none 0 0))=H1 at*
 refine aS.intro (fun mm env H'=>∃ (j:Nat) (l':List Value),mm=(ch x).length - j∧j≤(ch x).length∧ForM H' YG fb tb n l' (uJ V x (.slice none 0 0)) (ax ch x []) (fun z=>if z∈(ch x).take j then -1 else par z) Z1∧ag (fun z=>z=tb) H1 H'∧
  env=[(0,ptr fb),(5,.slice ka (ch x).length kc),(27,.slice ka (ch x).length kc),(28,i64 (ch x).length),(29,i64 j)]) (ch x).length ⟨0,_,by omega,by omega,by simpa using m1,ag.refl _ _,rfl⟩ ?_
 rintro mm env H2 ⟨j,l2,rfl,hj,m2,e2,rfl⟩
 have s2:=s1.ext e2 (fun b hb=>acK b hb)
 have sE:=m2.t.len
 have hrt:YG tb= .table:=m2.rt
 refine vs ?_
 refine ai.dec (fun aK=>?_) (fun aK=>?_)<;>refine vs ?_
 ·have gf:j< (ch x).length:=by omega
  obtain⟨k,hk⟩:∃k,(ch x)[j]? =some k:=⟨_,aop gf⟩
  obtain⟨_,b,lb,rfl,q2,q3⟩:=Sl.zg s2 hk
  have ZQ:=m.G2 x k (aow hk)
  refine⟨⟨by omega,by omega⟩,?_⟩
  refine v6 (ae q2) aor aos Int.toNat_natCast q3 (ae m2.t.own) ?_
  refine⟨⟨by omega,by omega⟩,?_⟩
  refine v3 m2.t.EZ aor Nat.add_zero ?_
  refine⟨by omega,?_⟩
  obtain⟨m3,_⟩:=m2.aJ ZQ (-1)
  obtain⟨_,e3⟩:=m2.t.aJ ZQ (-1)
  refine vs ?_
  rw[wrap64 (n:=(j:Int)+1) (by omega) (by omega)]
  refine⟨(ch x).length - (j+1),by omega,j+1,l2.set (k.toNat*2+1) (i64 (-1)),rfl,by omega,?_,e2.trans e3,rfl⟩
  have tk:(ch x).take (j+1)=(ch x).take j++[k]:=by rw[aoM,hk];rfl
  have:(fun z=>if z∈(ch x).take (j+1)then(-1:Int)else par z)=aJ (fun z=>if z∈(ch x).take j then -1 else par z) k (-1):=by
   funext z
   unfold aJ
   rw[tk]
   by_cases hz:z=k
   ·rw[if_pos (by simp[hz]),if_pos hz]
   ·rw[if_neg hz]
    by_cases h2:z∈(ch x).take j
    ·rw[if_pos (ape _ h2)]
     exact(if_pos h2).symm
    ·rw[if_neg (by simp[h2,hz])]
     exact(if_neg h2).symm
  rw[this]
  exact m3
 ·obtain rfl:j=(ch x).length:=by omega
  rw[aoQ]at m2
  refine(oh s2.rd (by omega)).mono ?_
  rintro v H3 ⟨f3,fp,s3,fU⟩
  have z2:=e2.size
  have z1:=e1.size
  have z3:=f3.size
  refine vs ?_
  refine⟨YG,l2,_,Z1,fp,m2.fresh f3,r1,fun z dP=>n1 z (by omega),?_,s3,fun b hb=>⟨by have:=fU b hb;omega,n1 b (by have:=fU b hb;omega)⟩⟩
  exact(e1.trans (e2.mono fun z dP h=>.inl (by rw[h];exact m.rt))).trans (f3.mono fun _ _ h=>h.elim)
def lY(j k:Nat):List Value:=(List.replicate j [Value.slice none 0 0,Value.int .i64 (-1)]).flatten++(List.replicate k [Value.slice none 0 0,Value.int .i64 0]).flatten
theorem vy(j:Nat)(a b:Value):((List.replicate j [a,b]).flatten).length=j*2:=by
 induction j with
 |zero=>rfl
 |succ j ih=>rw[aoZ,apr,aoy,ih];simp;omega
theorem Tm{j i:Nat}(a b:Value)(hi:i<j):((List.replicate j [a,b]).flatten)[i*2]? =some a∧((List.replicate j [a,b]).flatten)[i*2+1]? =some b:=by
 induction j generalizing i with
 |zero=>omega
 |succ j ih=>
  rw[aoZ,apr]
  cases i with
  |zero=>exact⟨rfl,rfl⟩
  |succ i=>
   have:=ih (i:=i) (by omega)
   rw[show(i+1)*2=i*2+1+1 by omega]
   exact this
theorem QP(j k:Nat):(lY j k).length=(j+k)*2:=by unfold lY;rw[aoy,vy,vy];omega
theorem QQ(j k:Nat):(lY j (k+1)).set (j*2+1) (Value.int .i64 (-1))=lY (j+1) k:=by
 unfold lY
 rw[apS _ _ (by rw[vy];omega),vy,show j*2+1 - j*2=1 by omega,aoZ,apr,apv,List.flatten_append]
 simp
theorem GF(H:Hp){n:Int}(hn:0≤n∧n≤65536):af Tryz.prog Lq [i64 n] H fun v H'=>ar (∃fb tb l,v= .tuple [ptr fb,i64 0].toArray∧nj H' fb tb n.toNat l (fun _=>.slice none 0 0) (fun _=> -1)∧am H H'∧H.size≤fb∧H.size≤tb):=by
 refine aZ Ly ?_
 refine vs ?_
 refine ai.dec (fun g=>absurd g (by omega)) (fun _=>?_)
 refine vs ?_
 refine ai.dec (fun g=>absurd g (by omega)) (fun _=>?_)
 refine vs ?_
 refine⟨⟨by omega,by omega,by omega,by omega⟩,?_⟩
 refine vs ?_
 rw[show ce [Value.slice none 0 0,Value.int .i64 0] n.toNat=lY 0 n.toNat from rfl]
 obtain⟨N,hN⟩:∃N:Nat,n=(N:Int):=⟨n.toNat,by omega⟩
 subst hN
 rw[Int.toNat_natCast]
 have f0:am H ((H.new 278 (lY 0 N)).new 276 [.slice (some ⟨H.size,0,none⟩) N N]):=((ag.refl _ _).new _ _).new _ _
 have t0:((H.new 278 (lY 0 N)).new 276 [.slice (some ⟨H.size,0,none⟩) N N]).own (H.size+1)=some [.slice (some ⟨H.size,0,none⟩) N N]:=be (by simp only[aq])
 have t1:((H.new 278 (lY 0 N)).new 276 [.slice (some ⟨H.size,0,none⟩) N N]).own H.size=some (lY 0 N):=by
  rw[bL (by simp only[aq];omega),aD]
 generalize (H.new 278 (lY 0 N)).new 276 [.slice (some ⟨H.size,0,none⟩) N N]=H0 at*
 refine aS.intro (fun m env H'=>∃j:Nat,m=N - j∧j≤N∧ag (fun z=>z=H.size) H0 H'∧H'.own H.size=some (lY j (N - j))∧
  env=[(4,ptr (H.size+1)),(20,i64 N),(21,i64 j)]) N ⟨0,by omega,by omega,ag.refl _ _,t1,rfl⟩ ?_
 rintro m env H1 ⟨j,rfl,hj,e1,h1,rfl⟩
 have o1:=e1.own t0 (by omega)
 have rQ:=QP j (N - j)
 refine vs ?_
 refine ai.dec (fun aK=>?_) (fun aK=>?_)<;>refine vs ?_
 ·refine v1 (ae o1) ?_
  refine⟨⟨by omega,by omega⟩,?_⟩
  refine v4 h1 aor Nat.add_zero Int.toNat_natCast ?_
  refine⟨by omega,?_⟩
  refine vs ?_
  have e2:ag (fun z=>z=H.size) H1 (H1.wr H.size ((lY j (N - j)).set (j*2+1) (Value.int .i64 (-1)))):=(ag.refl (fun z=>z=H.size) _).wr (fun _=>rfl) _
  have q2:(H1.wr H.size ((lY j (N - j)).set (j*2+1) (Value.int .i64 (-1)))).own H.size=some ((lY j (N - j)).set (j*2+1) (Value.int .i64 (-1))):=ah h1
  rw[wrap64 (n:=(j:Int)+1) (by omega) (by omega)]
  refine⟨N - (j+1),by omega,j+1,rfl,by omega,e1.trans e2,?_,rfl⟩
  rw[q2,show N - j=(N - (j+1))+1 by omega,QQ]
 ·obtain rfl:j=N:=by omega
  refine⟨H.size+1,H.size,_,rfl,⟨o1,h1,by rw[rQ];omega,fun x h0 hx=>?_,by omega⟩,f0.then e1 (fun z hz=>by omega),by omega,by omega⟩
  unfold lY
  rw[apq,apQ,List.flatten_nil,ao3]
  exact Tm _ _ (by omega)
end
end Go.Proofs.YthpjfeolagohkaaGreat

namespace Go.Proofs.YthpjfeolagohkaaGreat
open Go Go.Vc
theorem Kf:∀ {l:List Int} {i:Nat} {x p:Int},l.Nodup→p∉l→l[i]? =some x→l.set i p=l.map (gu x p):=by
 intro l
 induction l with
 |nil=>intro i x p _ _ h;simp at h
 |cons a r ih=>
  intro i x p hn hp h
  have CG:=aoR.1 hn
  have hpr:p∉r:=fun h=>hp (by simp[h])
  cases i with
  |zero=>
   simp only[ao2,aoz]at h
   subst h
   rw[apM,apg,nu,Bc CG.1 hpr]
  |succ i=>
   have hx:r[i]? =some x:=by simpa using h
   have qA:a≠x:=fun e=>CG.1 (by rw[e];exact aow hx)
   have Vm:a≠p:=fun e=>hp (by rw[e];simp)
   rw[apb,apg,iV qA Vm,ih CG.2 hpr hx]
def Tn(x p:Int):Rl→Rl
 | .qz y=>.qz (gu x p y)
 |r=>r
section
variable {H H' : Hp} {ro ro' : Nat → Rl} {fb tb n : Nat} {l : List Value} {V : Int → Value} {ch : Int → List Int} {par : Int → Int} {kb : Int → Option Nat} {T : Nat → Prop}
variable {hm : Int → Int} {lt : Int → Int → Bool} {rows : Int → List Int} {W : List Int}
theorem Sl.Vo{H:Hp}{v:Value}{m:Nat}{xs:List Int}{fp:Option Nat}(s:Sl H 1 v m (xs.map i64) fp){i:Nat}{x:Int}(hx:xs[i]? =some x):∃b lb c,v= .slice (some ⟨b,0,none⟩) m c∧fp=some b∧H.own b=some lb∧lb[i]? =some (i64 x)∧i<m∧m≤lb.length∧m=xs.length:=by
 obtain⟨a,c,rfl⟩:=Sl.shape s
 have hl:=s.1
 rw[aoA,aos]at hl
 obtain⟨h1,b,lb,rfl,q2,q3⟩:=Sl.zg s hx
 cases fp with
 |none=>have:=s.2.2;injection this with h1;cases h1
 |some b'=>
  obtain⟨_,Wd,c',hs,ho,hc,rS,_⟩:=s
  injection hs with et ME G0
  injection et with et
  injection et with et
  subst et
  rw[q2]at ho
  injection ho with ho
  subst ho
  exact⟨b,lb,c,rfl,rfl,q2,q3,h1,by omega,hl.symm⟩
theorem nj.ag2{H:Hp}{fb tb n:Nat}{l:List Value}{V V':Int→Value}{U U':Int→Int}(t:nj H fb tb n l V U)(h:∀x:Int,0≤x→x<n→V' x=V x∧U' x=U x):nj H fb tb n l V' U':=
 ⟨t.own,t.EZ,t.len,fun x h0 h1=>by obtain⟨e1,e2⟩:=h x h0 h1;rw[e1,e2];exact t.at_ x h0 h1,t.ne⟩
theorem EM(m:ForM H ro fb tb n l V ch par kb)(hz:∀z,H.size≤z→ro z= .no)(w:it hm lt ch par rows W){x p:Int}(hx:0≤x∧x<n)(hp:0≤p∧p<n)(KG:x∈ch p)(SX:par p≠ -1→0≤par p∧par p<n)(hn:n≤65536):
  af Tryz.prog lG [ptr fb,i64 x] H fun v H'=>ar (v= .bool true∧∃ro' l' V' qa,ForM H' ro' fb tb n l' V' (Ge ch x p) (JV par x p) qa∧RK H.size ro ro'∧(∀z,H'.size≤z→ro' z= .no)∧ag (KB ro) H H'∧∀z,ro z= .no→ro' z= .no):=by
 obtain⟨d1,d2,d3,d4,d5⟩:=w.pr.dn p x KG
 have aK:=w.less KG
 have dZ:p≠x:=fun e=>by rw[e]at aK;omega
 have npp:p∉ch p:=fun h=>by have:=w.less h;omega
 have npx:p∉ch x:=fun h=>by have:=w.less h;omega
 have nxx:x∉ch x:=fun h=>by have:=w.less h;omega
 have tD:∀z,(ch z).length≤n:=fun z=>bU (w.pr.nd z) fun c hc=>m.G2 z c hc
 have alR:=tD x
 have alS:=tD p
 have jx:=m.t.len
 obtain⟨x1,x2⟩:=m.t.at_ x hx.1 hx.2
 obtain⟨p1,p2⟩:=m.t.at_ p hp.1 hp.2
 have sx:=m.kd x hx.1 hx.2
 have sp:=m.kd p hp.1 hp.2
 obtain⟨oa,oc,Z0⟩:=Sl.shape sx
 obtain⟨i,hi,e⟩:=aqh.1 KG
 obtain⟨bp,lp,cp,Wi,hkp,qp,qpi,qw,MU,_⟩:=Sl.Vo sp (i:=i) (x:=x) (by rw[aop hi,e])
 have Ww:=m.rk p bp hp.1 hp.2 hkp
 have Zo:bp≠tb:=fun e=>by rw[e,m.rt]at Ww;cases Ww
 have Xe:bp≠fb:=fun e=>by rw[e,m.rf]at Ww;cases Ww
 have XG:∀b,kb x=some b→b≠tb∧b≠bp:=fun b hb=>by
  have:=m.rk x b hx.1 hx.2 hb
  refine⟨fun e=>(by rw[e,m.rt]at this;cases this),fun e=>?_⟩
  rw[e,Ww]at this
  injection this with this
  exact dZ this
 rw[Z0]at x1
 rw[Wi]at p1
 refine Kw wG ⟨rfl,?_⟩
 refine v1 lQ.eq_1 ?_
 refine(oP m.t hx).mono ?_
 rintro _ H' ⟨⟨h,_⟩| ⟨_,rfl⟩,e⟩
 ·rw[d1]at h;exact absurd h d2
 obtain rfl:=e.symm
 rw[d1]
 refine v1 (ae m.t.own) ?_
 refine⟨⟨by omega,by omega⟩,?_⟩
 refine v5 (ae m.t.own) (ae m.t.EZ) aor Nat.add_zero x1 ?_
 refine⟨⟨by omega,by omega⟩,?_⟩
 refine v5 (ae m.t.own) (ae m.t.EZ) aor Nat.add_zero p1 ?_
 refine⟨⟨by omega,by omega⟩,?_⟩
 refine v5 (ae m.t.own) (ae m.t.EZ) aor Nat.add_zero p2 ?_
 rw[Wi]at sp
 refine(fB sp.rd x (by omega)).mono ?_
 rintro _ H' ⟨⟨j,rfl,hj⟩,e⟩
 obtain rfl:=e.symm
 obtain⟨Z2,hj⟩:=hj.resolve_left (fun h=>h.2 KG)
 obtain⟨k,rfl⟩:∃k:Nat,j=(k:Int):=⟨j.toNat,by omega⟩
 rw[Int.toNat_natCast]at hj
 have ZO:=(aoq.1 hj).1
 refine vs ?_
 refine⟨⟨by omega,by omega⟩,?_⟩
 refine v4 qp aor aos Int.toNat_natCast ?_
 refine⟨by omega,?_⟩
 refine vs ?_
 rw[hkp]at sp
 have sp1:=sp.sI qp k (i64 p)
 have YH:ag (fun z=>z=bp) H (H.wr bp (lp.set k (i64 p))):=(ag.refl (fun z=>z=bp) _).wr (fun _=>rfl) _
 rw[←ao9,Kf (w.pr.nd p) npp hj]at sp1
 have t1:=m.t.ext YH (Ne.symm Xe) (Ne.symm Zo)
 have sx1:=sx.ext YH (fun b hb=>(XG b hb).2)
 generalize H.wr bp (lp.set k (i64 p))=H1 at*
 have S8:((ch p).map (gu x p)).length=(ch p).length:=aoA ..
 have bF:∀z,z∈(ch p).map (gu x p)↔(z=p∨(z∈ch p∧z≠x)):=fun z=>by
  rw[ml]
  by_cases h1:z=x
  ·rw[h1,nu]
   exact⟨fun h=>absurd h npp,fun h=>by rcases h with h|h;exact absurd h.symm dZ;exact absurd rfl h.2⟩
  ·by_cases h2:z=p
   ·rw[h2,xw];simp[KG]
   ·rw[iV h1 h2];simp[h1,h2]
 refine(qn t1 hx sp1 (fun h=>by injection h with h;exact Zo h) (fun c hc=>?_) (by omega)).mono ?_
 ·rcases(bF c).1 hc with h|h
  ·rw[h];exact hp
  ·exact m.G2 p c h.1
 rintro _ H2 ⟨l2,t2,e2⟩
 refine vs ?_
 have sx2:=sx1.ext e2 (fun b hb=>(XG b hb).1)
 rw[Z0]at sx2
 refine(qn t2 hp sx2 (fun h=>(XG tb h).1 rfl) (fun c hc=>m.G2 x c hc) (by omega)).mono ?_
 rintro _ H3 ⟨l3,t3,e3⟩
 have Pp:=t3.len
 refine v1 (ae t3.own) ?_
 refine⟨⟨by omega,by omega⟩,?_⟩
 refine v3 t3.EZ aor Nat.add_zero ?_
 refine⟨by omega,?_⟩
 obtain⟨t4,e4⟩:=t3.aJ hx (par p)
 refine vs ?_
 have Yt:=t4.len
 generalize H3.wr tb (l3.set (x.toNat*2+1) (i64 (par p)))=H4 at*
 generalize l3.set (x.toNat*2+1) (i64 (par p))=l4 at*
 have zB:ag (fun z=>z=tb) H1 H4:=(e2.trans e3).trans e4
 have Z3:x≠ -1:=w.pr.ne KG
 have gx:par p≠x:=fun e=>by
  by_cases hq:par p= -1
  ·exact Z3 (by rw[←e,hq])
  ·have:=w.less (w.pr.up p _ rfl hq)
   rw[e]at this;omega
 have Z4:par p≠p:=fun e=>by
  have:=w.less (w.pr.up p p e d2)
  omega
 have t5:nj H4 fb tb n l4 (fun z=>V (gu x p z)) (JV par x p):=by
  refine t4.ag2 fun z h0 h1=>⟨?_,?_⟩
  ·by_cases e1:z=x
   ·rw[e1,nu];unfold uJ;rw[if_neg dZ.symm,if_pos rfl,Wi]
   ·by_cases e2:z=p
    ·rw[e2,xw];unfold uJ;rw[if_pos rfl,Z0]
    ·rw[iV e1 e2];unfold uJ;rw[if_neg e2,if_neg e1]
  ·show gu x p (par (gu x p z))=(if z=x then par p else if z∈ch x then p else if z∈(ch p).map (gu x p)then x else par z)
   by_cases e1:z=x
   ·rw[if_pos e1,e1,nu,iV gx Z4]
   ·rw[if_neg e1]
    by_cases e2:z=p
    ·rw[e2,xw,d1,xw,if_neg npx,if_pos ((bF p).2 (.inl rfl))]
    ·rw[iV e1 e2]
     by_cases e3:z∈ch x
     ·rw[if_pos e3,(w.pr.dn x z e3).1,nu]
     ·rw[if_neg e3]
      by_cases e4:z∈ch p
      ·rw[if_pos ((bF z).2 (.inr ⟨e4,e1⟩)),(w.pr.dn p z e4).1,xw]
      ·rw[if_neg (fun h=>by rcases(bF z).1 h with h|h;exact e2 h;exact e4 h.1)]
       rw[iV (fun h=>e3 (w.pr.up z x h Z3)) (fun h=>e4 (w.pr.up z p h d2))]
 have hRK:∀H5:Hp,ag (fun z=>z=bp∨z=tb∨kb (par p)=some z∧par p≠ -1) H H5→RK H.size ro (fun z=>Tn x p (ro z))∧(∀z,H5.size≤z→Tn x p (ro z)= .no)∧ag (KB ro) H H5:=fun H5 e5=>by
  refine⟨⟨fun z dP hk=>?_,fun z y dP hy=>⟨gu x p y,by rw[hy];rfl⟩,fun z dP=>.inl (by rw[hz z dP];rfl)⟩,fun z dP=>?_,e5.mono fun z _ h=>?_⟩
  ·cases hr:ro z with
   |qz y=>exact absurd hr (hk y)
   |_=>rfl
  ·have:=e5.size
   rw[hz z (by omega)];rfl
  ·rcases h with h|h| ⟨h,hq⟩
   ·exact .inr ⟨p,by rw[h];exact Ww⟩
   ·exact .inl (by rw[h];exact m.rt)
   ·obtain⟨h0,h1⟩:=SX hq
    exact .inr ⟨par p,m.rk _ z h0 h1 h⟩
 have acM:∀z:Int,¬ (0≤z∧z<n)→Ge ch x p z=[]:=fun z dP=>by
  unfold Ge
  rw[iV (fun e=>dP (by rw[e];exact hx)) (fun e=>dP (by rw[e];exact hp)),m.no z dP]
  rfl
 have hrS:∀z:Int,(0≤z∧z<n)→0≤gu x p z∧gu x p z<n:=fun z dP=>by
  by_cases e1:z=x
  ·rw[e1,nu];exact hp
  ·by_cases e2:z=p
   ·rw[e2,xw];exact hx
   ·rw[iV e1 e2];exact dP
 have Wx:∀z c,c∈Ge ch x p z→0≤c∧c<n:=fun z c hc=>by
  have:=hrS _ (m.G2 _ _ (ml.1 hc))
  rwa[rF]at this
 have hkd:∀z:Int,0≤z→z<n→z≠par p→Sl H4 1 (V (gu x p z)) (Ge ch x p z).length ((Ge ch x p z).map i64) (kb (gu x p z)):=fun z h0 h1 hzg=>by
  by_cases e1:z=x
  ·unfold Ge
   rw[e1,nu,hkp,Wi]
   rw[S8]
   exact sp1.ext zB (fun b hb=>by injection hb with hb;omega)
  ·by_cases e2:z=p
   ·unfold Ge
    rw[e2,xw,Z0,Bc nxx npx]
    exact(sx2.ext e3 (fun b hb=>(XG b hb).1)).ext e4 (fun b hb=>(XG b hb).1)
   ·unfold Ge
    rw[iV e1 e2]
    have nx:x∉ch z:=fun h=>e2 (by rw[← (w.pr.dn z x h).1,d1])
    have np:p∉ch z:=fun h=>hzg (w.pr.dn z p h).1.symm
    rw[Bc nx np]
    refine((m.kd z h0 h1).ext YH (fun b hb e=>?_)).ext zB (fun b hb e=>?_)
    ·have:=m.rk z b h0 h1 hb
     rw[e,Ww]at this
     injection this with this
     exact e2 this.symm
    ·have:=m.rk z b h0 h1 hb
     rw[e,m.rt]at this
     cases this
 have YI:∀ (z:Int) b,0≤z→z<n→kb (gu x p z)=some b→Tn x p (ro b)= .qz z:=fun z b h0 h1 hb=>by
  obtain⟨g0,g1⟩:=hrS z ⟨h0,h1⟩
  rw[m.rk _ b g0 g1 hb]
  show Rl.qz (gu x p (gu x p z))=_
  rw[rF]
 refine ai.dec (fun h0=>?_) (fun h0=>?_)<;>refine vs ?_
 ·obtain⟨r1,r2,r3⟩:=hRK H4 ((YH.mono fun z _ h=>.inl h).trans (zB.mono fun z _ h=>.inr (.inl h)))
  refine⟨rfl,_,l4,_,fun z=>kb (gu x p z),⟨t5,fun z g0 g1=>hkd z g0 g1 (by omega),by rw[m.rf];rfl,by rw[m.rt];rfl,YI,Wx,acM⟩,r1,r2,r3,fun z h=>by show Tn x p (ro z)=_;rw[h];rfl⟩
 ·obtain⟨g0,g1⟩:=SX h0
  have tC:=w.pr.up p _ rfl h0
  obtain⟨ig,hig,eg⟩:=aqh.1 tC
  have sg:=m.kd (par p) g0 g1
  obtain⟨bg,lg,cg,hvg,hkg,qg,qgi,alV,dq,_⟩:=Sl.Vo sg (i:=ig) (x:=p) (by rw[aop hig,eg])
  have QC:=m.rk _ bg g0 g1 hkg
  have hgt:bg≠tb:=fun e=>by rw[e,m.rt]at QC;cases QC
  have hgb:bg≠bp:=fun e=>by rw[e,Ww]at QC;injection QC with QC;exact Z4 QC.symm
  have hgf:bg≠fb:=fun e=>by rw[e,m.rf]at QC;cases QC
  obtain⟨a1,a2⟩:=t5.at_ _ g0 g1
  rw[iV gx Z4,hvg]at a1
  refine v1 (ae t5.own) ?_
  refine⟨⟨by omega,by omega⟩,?_⟩
  refine v4 (ae t5.EZ) aor Nat.add_zero a1 ?_
  have qg4:=zB.own (YH.own qg hgb) hgt
  have sg4:Sl H4 1 (.slice (some ⟨bg,0,none⟩) (ch (par p)).length cg) (ch (par p)).length ((ch (par p)).map i64) (some bg):=by
   rw[hvg,hkg]at sg
   exact(sg.ext YH (fun b hb=>by injection hb with hb;omega)).ext zB (fun b hb=>by injection hb with hb;omega)
  have alX:=tD (par p)
  refine(fB sg4.rd p (by omega)).mono ?_
  rintro _ H' ⟨⟨j,rfl,hj⟩,e⟩
  obtain rfl:=e.symm
  obtain⟨Z2,hj⟩:=hj.resolve_left (fun h=>h.2 tC)
  obtain⟨k,rfl⟩:∃k:Nat,j=(k:Int):=⟨j.toNat,by omega⟩
  rw[Int.toNat_natCast]at hj
  have ZO:=(aoq.1 hj).1
  refine vs ?_
  refine⟨⟨by omega,by omega⟩,?_⟩
  refine v4 qg4 aor aos Int.toNat_natCast ?_
  refine⟨by omega,?_⟩
  refine vs ?_
  have sg5:=sg4.sI qg4 k (i64 x)
  have e5:ag (fun z=>z=bg) H4 (H4.wr bg (lg.set k (i64 x))):=(ag.refl (fun z=>z=bg) _).wr (fun _=>rfl) _
  have nxg:x∉ch (par p):=fun h=>Z4 (by rw[← (w.pr.dn _ x h).1,d1])
  have To:(ch (par p)).map (gu p x)=(ch (par p)).map (gu x p):=apu fun c _=>by
   unfold gu
   by_cases e1:c=x
   ·rw[if_neg (fun e=>dZ (by rw[←e,e1])),if_pos e1,if_pos e1]
   ·by_cases e2:c=p
    ·rw[if_pos e2,if_neg e1,if_pos e2]
    ·rw[if_neg e2,if_neg e1,if_neg e1,if_neg e2]
  rw[←ao9,Kf (w.pr.nd _) nxg hj,To]at sg5
  obtain⟨r1,r2,r3⟩:=hRK _ (((YH.mono fun z _ h=>.inl h).trans (zB.mono fun z _ h=>.inr (.inl h))).trans (e5.mono fun z _ h=>.inr (.inr ⟨by rw[h];exact hkg,h0⟩)))
  refine⟨rfl,_,l4,_,fun z=>kb (gu x p z),⟨t5.ext e5 (fun e=>hgf e.symm) (fun e=>hgt e.symm),fun z q0 q1=>?_,by rw[m.rf];rfl,by rw[m.rt];rfl,YI,Wx,acM⟩,r1,r2,r3,fun z h=>by show Tn x p (ro z)=_;rw[h];rfl⟩
  by_cases hzg:z=par p
  ·unfold Ge
   rw[hzg,iV gx Z4,hvg,hkg,aoA]
   exact sg5
  ·refine(hkd z q0 q1 hzg).ext e5 (fun b hb e=>?_)
   have h7:=YI z b q0 q1 hb
   rw[e,QC]at h7
   have h8:Rl.qz (gu x p (par p))= .qz z:=h7
   injection h8 with h8
   rw[iV gx Z4]at h8
   exact hzg h8.symm
end
end Go.Proofs.YthpjfeolagohkaaGreat
