/- Texts put behind each other. -/
import Derived.Test.YtjlnnljohemifaaGreatK98
import Derived.Test.YtjlnnljohemifaaGreatK25
import Derived.Test.YtjlnnljohemifaaGreatK28
import Derived.Test.YtjlnnljohemifaaGreatK39
set_option maxRecDepth 100000
set_option maxHeartbeats 8000000
set_option linter.unusedVariables false
set_option linter.unusedSimpArgs false
namespace Go.Proofs.YtjlnnljohemifaaGreat
open Go Go.Vc
theorem LM.below{w:Nw}{L:List Lk}{tops:List Int}{ch:Int→List Int}{par:Int→Int}(l:LM w L tops ch par){x:Int}(hx:0<aG w x)(ht:bi tops (aG w x)≠x):∃p l1 l2,ch p=l1++x::l2:=by
 have hp:par x≠ -1:=fun h=>ht (l.t.tp.t2 x hx h)
 obtain⟨l1,l2,h⟩:=List.append_of_mem (l.t.pr.up x _ rfl hp)
 exact⟨par x,l1,l2,h⟩
theorem tE{n:Nat}{H:Hp}{S:Nat→Prop}{w:Nw}(h:dA n H S w)(x k s:Int):af Tryz.prog it [ptr n,i64 x,tz k s] H fun v H'=>aw (
  (¬w.cX x k s∧v= .bool false∧cz (dA n) S H H' w)∨(w.cX x k s∧v= .bool true∧∃y,w.cs[x.toNat]? =some y∧cz (dA n) S H H' (w.put x (y.1,k,s)))):=by
 obtain⟨B,C,L,tops,ch,par,rfl,m,l,hS⟩:=h
 have hC:∀z,C z→S z:=fun z h=>(hS z).2 (.inl h)
 have t1:S B.tb:=(hS _).2 (.inr (.inr (.inl rfl)))
 have t2:S B.tp:=(hS _).2 (.inr (.inr (.inr rfl)))
 refine Gv pS ⟨rfl,?_⟩
 refine v1 iy.eq_1 ?_
 have f0:ai H (H.new 224 [i64 k,u64 s]):=(ag.refl _ _).new _ _
 have b0:(H.new 224 [i64 k,u64 s]).own H.size=some [i64 k,u64 s]:=aB _ _ _
 have m0:=m.fresh f0
 generalize H.new 224 [i64 k,u64 s]=H0 at*
 have ff:ag S H H0:=f0.mono fun _ _ h=>h.elim
 obtain⟨tv,Hy,_⟩:=m0.own
 refine v2 (ae Hy) (ae b0) ?_
 refine(gM m0.cells x k s).mono ?_
 rintro _ H1 (⟨bK,rfl,c1,e1⟩| ⟨bJ,rfl,y,hy,fh,c1,e1⟩)
 ·refine vs ?_
  exact .inl ⟨bK,rfl,cz.same ⟨B,C,L,tops,ch,par,rfl,m0.ext e1 (fun _ _ h=>h),l,hS⟩ (ff.trans (e1.mono fun _ _ h=>h.elim))⟩
 have my:(w.put x (y.1,k,s)).cs.length=w.cs.length:=by simp[Nw.put]
 have m1:=m0.aJ c1 e1 my
 have AY:w.cX x k s:=⟨bJ,fun z hz=>by rw[hy]at hz;injection hz with hz;rw[←hz];exact fh⟩
 have hx:0≤x∧x<w.cs.length:=⟨bJ.1,by have:=(anu.1 hy).1;have:=bJ.1;omega⟩
 have Qv:aG w x=y.1:=j0 bJ.1 hy
 have dF:=bq.2 bJ
 have hw:aG (w.put x (y.1,k,s))=aG w:=by
  funext z
  rw[dS hx]
  split
  ·rename_i e;rw[e,Qv]
  ·rfl
 have Eh:cT (w.put x (y.1,k,s)).cs x:=bq.1 (by rw[hw];exact dF)
 obtain⟨Cx,o1,_⟩:=m1.own
 refine v1 (ae o1) ?_
 refine(de m1.cells x).mono ?_
 rintro _ H2 (⟨bK,_,_⟩| ⟨_,rfl,c2,e2⟩)
 ·exact absurd Eh bK
 have m2:=m1.aJ c2 e2 rfl
 have o8:ag S H H2:=(ff.trans (e1.mono fun z _ h=>hC z h)).trans (e2.mono fun z _ h=>hC z h)
 have el:∀a b,0<aG w a→0<aG w b→a≠x→b≠x→aQ (w.put x (y.1,k,s)) a b=aQ w a b:=fun a b ha hb tG me=>du hx _ ha hb tG me
 have ex:∀b,0<aG w b→b≠x→aQ w x b=true→aQ (w.put x (y.1,k,s)) x b=true:=fun b hb me h=>AR bJ hy fh hb me h
 have di:aG w x<tops.length:=by
  have:=((m.cells.hm x).2 dF).2
  have:=l.tl
  omega
 obtain⟨cc,lt,o2,q2,xF,tF,On⟩:=m2.fN
 have q3:=m2.eO q2 (dT (tops:=tops) (h:=aG w x) (by omega) di)
 rw[hw]
 refine v1 (ae o2) ?_
 refine⟨⟨by omega,by omega⟩,?_⟩
 refine v4 (ae q2) ant anw q3 ?_
 refine am.dec (fun gt=>?_) (fun gt=>?_)<;>refine vs ?_
 ·have hu:par x= -1:=by
   have:=(l.t.tp.t1 (aG w x) (by rw[gt];omega)).2.2
   rwa[gt]at this
  refine .inr ⟨AY,rfl,y,hy,cz.same ⟨B,C,L,tops,ch,par,rfl,m2,⟨?_,l.pl,l.tl⟩,hS⟩ o8⟩
  rw[hw]
  exact l.t.TD hu el ex
 obtain⟨p,l1,l2,hp⟩:=l.below dF gt
 have po:=(l.t.off hp).low el ex
 refine(qo m2 (ar w) (by rw[hw];exact l.t.pr) l.pl hp).mono ?_
 rintro _ H4 ⟨L4,m4,p4,e4⟩
 have vt:ag S H H4:=o8.trans (e4.mono fun z _ h=>h▸t1)
 rw[←hw]at po
 have di:aG (w.put x (y.1,k,s)) x<tops.length:=by rw[hw];exact di
 have RL:=po.g0
 refine vs ?_
 generalize hg:aG (w.put x (y.1,k,s)) x=g at*
 rw[←hw,hg]
 obtain⟨cc,lt,o4,q2,xF,tF,On⟩:=m4.fN
 have q3:=m4.eO q2 (dT (tops:=tops) (h:=g) (by omega) di)
 refine jX.intro (fun H'=>H'.own B.n=some [ptr B.c,.slice (some ⟨B.tb,0,none⟩) L4.length L4.length,.slice (some ⟨B.tp,0,none⟩) tops.length cc]) o4 ?_
 refine vs ?_
 refine fV.intro (.slice (some ⟨B.tp,0,none⟩) tops.length cc) (fun H' hI=>by refine v1 (ae hI) ?_;trivial) ?_
 refine v1 (ae o4) ?_
 refine And.intro o4 ?_
 refine vs ?_
 refine⟨⟨by omega,by omega⟩,?_⟩
 refine v4 (ae q2) ant anw q3 ?_
 refine And.intro o4 ?_
 refine vs ?_
 have bw:=po.w
 rw[show ws [bi tops g,x]=ws [bi tops g,x]++[] by simp]at bw
 refine(cZ m4 bw p4).mono ?_
 rintro _ H5 ⟨r,L5,Y4,PY,rfl,_,m5,w5,p5,e5⟩
 rw[aon]at w5
 have bn:=po.done w5
 obtain⟨d1,d2,d3⟩:=m4.mc
 have no:¬ (C B.n∨B.n=B.tb):=by rintro(h|h);exact m4.out.1 h;omega
 refine And.intro (e5.own o4 no) ?_
 have q4:=e5.own q2 (by rintro(h|h);exact m4.out.2.2 h;omega)
 refine vs ?_
 refine⟨⟨by omega,by omega⟩,?_⟩
 refine v3 q4 ant anw ?_
 refine⟨by omega,?_⟩
 obtain⟨m6,e6⟩:=m5.lc q4 g.toNat r
 refine And.intro (e6.own (e5.own o4 no) d2) ?_
 refine vs ?_
 refine .inr ⟨AY,rfl,y,hy,cz.same ⟨B,C,L5,_,Y4,PY,rfl,m6,⟨?_,p5,by rw[anv];exact l.tl⟩,hS⟩ ((vt.trans (e5.mono fun z _ h=>by rcases h with h|rfl;exact hC z h;exact t1)).trans (e6.mono fun z _ h=>h▸t2))⟩
 rw[ez (by omega) di]
 exact bn
theorem xj{n:Nat}{H:Hp}{S:Nat→Prop}{w:Nw}(h:dA n H S w)(x:Int):af Tryz.prog sQ [ptr n,i64 x] H fun v H'=>aw (
  (¬cT w.cs x∧v= .bool false∧cz (dA n) S H H' w)∨(cT w.cs x∧v= .bool true∧cz (dA n) S H H' (w.put x (0,0,0)))):=by
 obtain⟨B,C,L,tops,ch,par,rfl,m,l,hS⟩:=id h
 have hC:∀z,C z→S z:=fun z h=>(hS z).2 (.inl h)
 have t1:S B.tb:=(hS _).2 (.inr (.inr (.inl rfl)))
 have t2:S B.tp:=(hS _).2 (.inr (.inr (.inr rfl)))
 obtain⟨tv,o0,_⟩:=m.own
 refine Gv s8 ⟨rfl,?_⟩
 refine v2 jL.eq_1 (ae o0) ?_
 refine(de m.cells x).mono ?_
 rintro _ H1 (⟨bK,rfl,rfl⟩| ⟨bJ,rfl,c1,e1⟩)
 ·refine vs ?_
  exact .inl ⟨bK,rfl,cz.same h (ag.refl _ _)⟩
 have m1:=m.aJ c1 e1 rfl
 have dF:=bq.2 bJ
 obtain⟨fZ,kU,_⟩:=aD dF
 have Dl:x≠ -1:=by omega
 have ls:=ar w
 have cK:=fun y=>dS (w:=w) ⟨fZ,kU⟩ (0,0,0) y
 have p0:aG (w.put x (0,0,0)) (-1)=0:=rfl
 have p1:aG (w.put x (0,0,0)) x=0:=by rw[cK,if_pos rfl]
 have p2:∀y,y≠x→aG (w.put x (0,0,0)) y=aG w y:=fun y hy=>by rw[cK,if_neg hy]
 have el:∀a b,0<aG w a→0<aG w b→a≠x→b≠x→aQ (w.put x (0,0,0)) a b=aQ w a b:=fun a b ha hb tG me=>du ⟨fZ,kU⟩ _ ha hb tG me
 have my:(w.put x (0,0,0)).cs.length=w.cs.length:=by simp[Nw.put]
 have di:aG w x<tops.length:=by
  have:=((m.cells.hm x).2 dF).2
  have:=l.tl
  omega
 have Vs:ag S H H1:=e1.mono fun z _ h=>hC z h
 obtain⟨cc,lt,o1,q2,xF,tF,On⟩:=m1.fN
 have q3:=m1.eO q2 (dT (tops:=tops) (h:=aG w x) (by omega) di)
 obtain⟨d1,d2,d3⟩:=m1.mc
 have no:¬ (C B.n∨B.n=B.tb):=by rintro(h|h);exact m1.out.1 h;omega
 have no2:¬ (C B.tp∨B.tp=B.tb):=by rintro(h|h);exact m1.out.2.2 h;omega
 refine v1 (ae o1) ?_
 refine⟨⟨by omega,by omega⟩,?_⟩
 refine v4 (ae q2) ant anw q3 ?_
 refine am.dec (fun gt=>?_) (fun gt=>?_)<;>refine vs ?_
 ·have hu:par x= -1:=by
   have:=(l.t.tp.t1 (aG w x) (by rw[gt];omega)).2.2
   rwa[gt]at this
  refine jX.intro (fun H'=>H'.own B.n=some [ptr B.c,.slice (some ⟨B.tb,0,none⟩) L.length L.length,.slice (some ⟨B.tp,0,none⟩) tops.length cc]) o1 ?_
  refine vs ?_
  refine fV.intro (.slice (some ⟨B.tp,0,none⟩) tops.length cc) (fun H' hI=>by refine v1 (ae hI) ?_;trivial) ?_
  refine vs ?_
  refine(jn m1 l.t.pr l.pl dF).mono ?_
  rintro _ H2 ⟨r,L2,lq,jm,rfl,m2,pl2,w2,e2⟩
  refine And.intro (e2.own o1 no) ?_
  have q4:=e2.own q2 no2
  refine vs ?_
  refine⟨⟨by omega,by omega⟩,?_⟩
  refine v3 q4 ant anw ?_
  refine⟨by omega,?_⟩
  obtain⟨m3,e3⟩:=m2.lc q4 (aG w x).toNat r
  refine And.intro (e3.own (e2.own o1 no) d2) ?_
  obtain⟨YH,o3,_⟩:=m3.own
  refine v1 (ae o3) ?_
  refine(cd m3.cells x).mono ?_
  rintro _ H4 (⟨bK,_,_⟩| ⟨_,rfl,c4,e4⟩)
  ·exact absurd bJ bK
  have m4:=m3.aJ c4 e4 my
  refine vs ?_
  have w3:=w2.drop (x:=x) ⟨dF,hu⟩ (by rw[w2.fr x ⟨dF,hu⟩];unfold ay;rw[if_pos rfl]) ((w2.jt x dF).2 (.inr ⟨dF,hu⟩)) p0 p1 p2 el
  refine .inr ⟨bJ,rfl,cz.same ⟨B,C,L2,_,lq,jm,rfl,m4,⟨?_,pl2,by rw[anv];exact l.tl⟩,hS⟩ (((Vs.trans (e2.mono fun z _ h=>by rcases h with h|rfl;exact hC z h;exact t1)).trans (e3.mono fun z _ h=>h▸t2)).trans (e4.mono fun z _ h=>hC z h))⟩
  rw[ez (by omega) di]
  refine⟨w3.pr,w3.done (fun h aP hh=>?_) (fun y hy=>?_)⟩
  ·obtain⟨g1,g2,g3⟩:=l.t.tp.t1 h hh
   have hn:bi tops h≠x:=fun e=>aP (by rw[←g1,e])
   exact⟨by rw[p2 _ hn];exact g1,g2,⟨by omega,g3⟩,hn⟩
  ·have h5:=l.t.tp.t2 y hy.1.1 hy.1.2
   rw[p2 _ hy.2]
   exact⟨fun e=>by rw[e,gt]at h5;exact hy.2 h5.symm,h5⟩
 obtain⟨p,l1,l2,hp⟩:=l.below dF gt
 have po:=l.t.off hp
 refine(qo m1 ls l.t.pr l.pl hp).mono ?_
 rintro _ H2 ⟨L2,m2,pl2,e2⟩
 have o8:ag S H H2:=Vs.trans (e2.mono fun z _ h=>h▸t1)
 have hu:=po.ox.2.2
 obtain⟨cc,lt,o2,q2,xF,tF,On⟩:=m2.fN
 have q3:=m2.eO q2 (dT (tops:=tops) (h:=aG w x) (by omega) di)
 refine vs ?_
 refine jX.intro (fun H'=>H'.own B.n=some [ptr B.c,.slice (some ⟨B.tb,0,none⟩) L2.length L2.length,.slice (some ⟨B.tp,0,none⟩) tops.length cc]) o2 ?_
 refine vs ?_
 refine fV.intro (.slice (some ⟨B.tp,0,none⟩) tops.length cc) (fun H' hI=>by refine v1 (ae hI) ?_;trivial) ?_
 refine vs ?_
 refine fV.intro (.slice (some ⟨B.tp,0,none⟩) tops.length cc) (fun H' hI=>by refine v1 (ae hI) ?_;trivial) ?_
 refine vs ?_
 refine⟨⟨by omega,by omega⟩,?_⟩
 refine vs ?_
 refine EB.intro ?_ ?_
 ·refine v4 (ae q2) ant anw q3 ?_
  refine And.intro o2 ?_
  refine vs ?_
  refine(jn m2 po.pr pl2 dF).mono ?_
  rintro _ H3 ⟨r,L3,Me,oR,rfl,m3,S6,w3,e3⟩
  refine And.intro (e3.own o2 no) ?_
  have q4:=e3.own q2 no2
  refine vs ?_
  have w4:=w3.cB (t:=bi tops (aG w x)) (fun hh=>by
   obtain⟨g1,g2,g3⟩:=po.t1 _ hh
   exact⟨⟨by omega,g3⟩,g1⟩)
  rw[←mz,show ws [bi tops (aG w x),r]=ws [bi tops (aG w x),r]++[] by simp]at w4
  refine(cZ m3 w4 S6).mono ?_
  rintro _ H4 ⟨r2,L4,Ua,JE,rfl,_,m4,w5,Xh,e4⟩
  rw[aon]at w5
  refine And.intro (e4.own (e3.own o2 no) no) ?_
  have q5:=e4.own q4 no2
  refine vs ?_
  refine⟨⟨by omega,by omega⟩,?_⟩
  refine v3 q5 ant anw ?_
  refine⟨by omega,?_⟩
  obtain⟨m5,e5⟩:=m4.lc q5 (aG w x).toNat r2
  refine And.intro (e5.own (e4.own (e3.own o2 no) no) d2) ?_
  obtain⟨tv5,o5,_⟩:=m5.own
  refine v1 (ae o5) ?_
  refine(cd m5.cells x).mono ?_
  rintro _ H6 (⟨bK,_,_⟩| ⟨_,rfl,c6,e6⟩)
  ·exact absurd bJ bK
  have m6:=m5.aJ c6 e6 my
  refine vs ?_
  have hR:(0<aG w x∧aI par x (-1) x= -1)∧x≠bi tops (aG w x):=⟨⟨dF,hu⟩,fun e=>po.nx e.symm⟩
  have fS:ay (ay ch p (l1++l2)) x [] x=[]:=by unfold ay;rw[if_pos rfl]
  have w6:=w5.drop (x:=x) hR (by rw[w5.fr x hR];exact fS) ((w5.jt x dF).2 (.inr hR)) p0 p1 p2 el
  refine .inr ⟨bJ,rfl,cz.same ⟨B,C,L4,_,Ua,JE,rfl,m6,⟨?_,Xh,by rw[anv];exact l.tl⟩,hS⟩ ((((o8.trans (e3.mono fun z _ h=>by rcases h with h|rfl;exact hC z h;exact t1)).trans (e4.mono fun z _ h=>by rcases h with h|rfl;exact hC z h;exact t1)).trans (e5.mono fun z _ h=>h▸t2)).trans (e6.mono fun z _ h=>hC z h))⟩
  rw[ez (by omega) di]
  refine⟨w6.pr,w6.done (fun h aP hh=>?_) (fun y hy=>?_)⟩
  ·obtain⟨g1,g2,g3⟩:=po.t1 h hh
   have hn:bi tops h≠x:=fun e=>aP (by rw[←g1,e])
   have Dg:bi tops h≠bi tops (aG w x):=fun e=>by
    by_cases h4:bi tops (aG w x)= -1
    ·rw[e]at hh;exact hh h4
    ·have:=(po.t1 _ h4).1
     rw[←e,g1]at this
     exact aP this
   exact⟨by rw[p2 _ hn];exact g1,g2,⟨⟨by omega,g3⟩,Dg⟩,hn⟩
  ·have h5:=po.t2 y hy.1.1.1 hy.1.1.2 hy.2
   rw[p2 _ hy.2]
   exact⟨fun e=>by rw[e]at h5;exact hy.1.2 h5.symm,h5⟩
 ·refine vs ?_
  refine(jn m2 po.pr pl2 dF).mono ?_
  rintro _ H3 ⟨r,L3,Me,oR,rfl,m3,S6,w3,e3⟩
  refine And.intro (e3.own o2 no) ?_
  have q4:=e3.own q2 no2
  refine vs ?_
  have q6:=m3.eO q4 (dT (tops:=tops) (h:=aG w x) (by omega) di)
  refine v4 (ae q4) ant anw q6 ?_
  refine And.intro (e3.own o2 no) ?_
  refine vs ?_
  have w4:=w3.cB (t:=bi tops (aG w x)) (fun hh=>by
   obtain⟨g1,g2,g3⟩:=po.t1 _ hh
   exact⟨⟨by omega,g3⟩,g1⟩)
  rw[←mz,show ws [bi tops (aG w x),r]=ws [bi tops (aG w x),r]++[] by simp]at w4
  refine(cZ m3 w4 S6).mono ?_
  rintro _ H4 ⟨r2,L4,Ua,JE,rfl,_,m4,w5,Xh,e4⟩
  rw[aon]at w5
  refine And.intro (e4.own (e3.own o2 no) no) ?_
  have q5:=e4.own q4 no2
  refine vs ?_
  refine⟨⟨by omega,by omega⟩,?_⟩
  refine v3 q5 ant anw ?_
  refine⟨by omega,?_⟩
  obtain⟨m5,e5⟩:=m4.lc q5 (aG w x).toNat r2
  refine And.intro (e5.own (e4.own (e3.own o2 no) no) d2) ?_
  obtain⟨tv5,o5,_⟩:=m5.own
  refine v1 (ae o5) ?_
  refine(cd m5.cells x).mono ?_
  rintro _ H6 (⟨bK,_,_⟩| ⟨_,rfl,c6,e6⟩)
  ·exact absurd bJ bK
  have m6:=m5.aJ c6 e6 my
  refine vs ?_
  have hR:(0<aG w x∧aI par x (-1) x= -1)∧x≠bi tops (aG w x):=⟨⟨dF,hu⟩,fun e=>po.nx e.symm⟩
  have fS:ay (ay ch p (l1++l2)) x [] x=[]:=by unfold ay;rw[if_pos rfl]
  have w6:=w5.drop (x:=x) hR (by rw[w5.fr x hR];exact fS) ((w5.jt x dF).2 (.inr hR)) p0 p1 p2 el
  refine .inr ⟨bJ,rfl,cz.same ⟨B,C,L4,_,Ua,JE,rfl,m6,⟨?_,Xh,by rw[anv];exact l.tl⟩,hS⟩ ((((o8.trans (e3.mono fun z _ h=>by rcases h with h|rfl;exact hC z h;exact t1)).trans (e4.mono fun z _ h=>by rcases h with h|rfl;exact hC z h;exact t1)).trans (e5.mono fun z _ h=>h▸t2)).trans (e6.mono fun z _ h=>hC z h))⟩
  rw[ez (by omega) di]
  refine⟨w6.pr,w6.done (fun h aP hh=>?_) (fun y hy=>?_)⟩
  ·obtain⟨g1,g2,g3⟩:=po.t1 h hh
   have hn:bi tops h≠x:=fun e=>aP (by rw[←g1,e])
   have Dg:bi tops h≠bi tops (aG w x):=fun e=>by
    by_cases h4:bi tops (aG w x)= -1
    ·rw[e]at hh;exact hh h4
    ·have:=(po.t1 _ h4).1
     rw[←e,g1]at this
     exact aP this
   exact⟨by rw[p2 _ hn];exact g1,g2,⟨⟨by omega,g3⟩,Dg⟩,hn⟩
  ·have h5:=po.t2 y hy.1.1.1 hy.1.1.2 hy.2
   rw[p2 _ hy.2]
   exact⟨fun e=>by rw[e]at h5;exact hy.1.2 h5.symm,h5⟩
theorem uR{n:Nat}{H:Hp}{S:Nat→Prop}{w:Nw}(h:dA n H S w)(g:Int):af Tryz.prog iT [ptr n,i64 g] H fun v H'=>aw (
  (w.len g=0∧v= .tuple [i64 0,.bool false].toArray∧cz (dA n) S H H' w)∨(∃x,w.first g x∧v= .tuple [i64 x,.bool true].toArray∧cz (dA n) S H H' (w.put x (0,0,0)))):=by
 refine bm rF ?_
 refine vs ?_
 refine(qq h g).mono ?_
 rintro _ _ ⟨⟨h0,rfl⟩| ⟨x,hx,rfl⟩,rfl⟩
 ·refine vs ?_
  exact .inl ⟨h0,rfl,cz.same h (ag.refl _ _)⟩
 ·refine vs ?_
  refine(xj h x).mono ?_
  rintro _ H1 (⟨bK,_,_⟩| ⟨_,rfl,h1⟩)
  ·exact absurd (bq.1 (by have:=bN.1 hx;omega)) bK
  refine vs ?_
  exact .inr ⟨x,hx,rfl,h1⟩
theorem JI(n:Nat):xK (.iface 202 (ptr n)) (dA n) where
 slt h:=h.slt
 ext h e hd:=h.ext e hd
 cells:=by
  rintro H S w ⟨B,C,L,tops,ch,par,rfl,m,l,hS⟩
  exact⟨B.c,C,m.cells⟩
 has:=by
  rintro H S w g ⟨B,C,L,tops,ch,par,rfl,m,l,hS⟩
  obtain⟨tv,ho,_⟩:=m.own
  exact⟨_,_,bD,ptr B.c,rfl,fD (off:=0) (by kernel_rfl) (ae ho) rfl,(iD m.cells g).mono fun v H' hp=>hp⟩
 make:=by
  intro H S w h
  exact⟨_,_,lQ,ptr n,rfl,bC (by kernel_rfl),(Bp h).mono fun v H' hp=>hp⟩
 insert:=by
  intro H S w g x k s h
  exact⟨_,_,jC,ptr n,rfl,bC (by kernel_rfl),(xi h g x k s).mono fun v H' hp=>hp⟩
 min:=by
  intro H S w g h
  refine⟨_,_,mW,ptr n,rfl,bC (by kernel_rfl),(qq h g).mono ?_⟩
  rintro v H' ⟨⟨h1,rfl⟩| ⟨x,h1,rfl⟩,rfl⟩
  ·exact .inl ⟨h1,rfl,cz.same h (ag.refl _ _)⟩
  ·exact .inr ⟨x,h1,rfl,cz.same h (ag.refl _ _)⟩
 extract:=by
  intro H S w g h
  exact⟨_,_,iT,ptr n,rfl,bC (by kernel_rfl),(uR h g).mono fun v H' hp=>hp⟩
 ld:=by
  intro H S w x k s h
  exact⟨_,_,it,ptr n,rfl,bC (by kernel_rfl),(tE h x k s).mono fun v H' hp=>hp⟩
 entry:=by
  rintro H S w x ⟨B,C,L,tops,ch,par,rfl,m,l,hS⟩
  obtain⟨tv,ho,_⟩:=m.own
  refine⟨_,_,bc,ptr B.c,rfl,fD (off:=0) (by kernel_rfl) (ae ho) rfl,(gL m.cells x).mono ?_⟩
  rintro v H' ⟨c1,f,hv⟩
  exact⟨⟨B,C,L,tops,ch,par,rfl,m.fresh f,l,hS⟩,f,hv⟩
section
variable {H H' : Hp} {ro ro' : Nat → Rl} {fb tb n : Nat} {l : List Value} {V : Int → Value} {ch : Int → List Int} {par : Int → Int} {kb : Int → Option Nat} {T : Nat → Prop}
theorem uS(m:ForM H ro fb tb n l V ch par kb){a:Option Addr}{c:Nat}{xs:List Int}(h:dc H 1 (.slice a xs.length c) xs.length (xs.map i64))(hr:∀x∈xs,(0≤x∧x<n)∧par x= -1)(hR:Gc ch xs)(hm:xs.length≤1000000):
  af Tryz.prog yw [ptr fb,.slice a xs.length c] H fun v H'=>aw (v= .bool true∧H'=H):=by
 refine bm yT ?_
 refine vs ?_
 refine bk.intro (fun m env H'=>H'=H∧∃j:Nat,m=xs.length - j∧j≤xs.length∧env=[(0,ptr fb),(1,.slice a xs.length c),(7,.slice a xs.length c),(8,i64 xs.length),(9,i64 j)]) xs.length ⟨rfl,0,by omega,by omega,rfl⟩ ?_
 rintro mm env H1 ⟨e1,j,rfl,hj,rfl⟩
 obtain rfl:=e1.symm
 refine vs ?_
 refine am.dec (fun aO=>?_) (fun aO=>?_)<;>refine vs ?_
 ·have gD:j<xs.length:=by omega
  obtain⟨x,hx⟩:∃x,xs[j]? =some x:=⟨_,ans gD⟩
  obtain⟨_,b,o,lb,rfl,Jq,bX⟩:=dc.num h hx
  obtain⟨kU,Iq⟩:=hr x (anz hx)
  refine⟨⟨by omega,by omega⟩,?_⟩
  refine v4 Jq Int.toNat_natCast anw bX ?_
  refine(gX m.t x).mono ?_
  rintro _ H' ⟨rfl,e⟩
  obtain rfl:=e.symm
  rw[anI kU,anI Iq]
  refine vs ?_
  refine am.dec (fun h0=>?_) (fun h0=>?_)
  ·obtain⟨k,rfl⟩:∃k,j=k+1:=⟨j - 1,by omega⟩
   obtain⟨y,hy⟩:∃y,xs[k]? =some y:=⟨_,ans (by omega)⟩
   obtain⟨_,b',o',Ve,zI,afO,Xj⟩:=dc.num h hy
   injection zI with zI
   injection zI with afP J1
   subst afP J1
   have CL:(ch y).length< (ch x).length:=by
    have:=List.pairwise_iff_getElem.1 hR k (k+1) (by omega) (by omega) (by omega)
    rw[ans (by omega)]at hx hy
    injection hx with hx
    injection hy with hy
    rw[hx,hy]at this
    exact this
   refine vs ?_
   rw[wrap64 (n:=((k+1:Nat):Int) - 1) (by omega) (by omega),show((k+1:Nat):Int) - 1=(k:Int) by omega]
   refine⟨⟨by omega,by omega⟩,?_⟩
   refine v4 afO Int.toNat_natCast anw Xj ?_
   refine(cY m y).mono ?_
   rintro _ H' ⟨rfl,e⟩
   obtain rfl:=e.symm
   refine vs ?_
   refine(cY m x).mono ?_
   rintro _ H' ⟨rfl,e⟩
   obtain rfl:=e.symm
   refine vs ?_
   refine am.dec (fun OP=>by omega) (fun _=>?_)
   refine vs ?_
   rw[wrap64 (n:=((k+1:Nat):Int)+1) (by omega) (by omega)]
   exact⟨xs.length - (k+1+1),by omega,trivial,k+1+1,rfl,by omega,rfl⟩
  ·refine vs ?_
   rw[wrap64 (n:=(j:Int)+1) (by omega) (by omega)]
   exact⟨xs.length - (j+1),by omega,trivial,j+1,rfl,by omega,rfl⟩
 ·exact⟨rfl,rfl⟩
theorem qt(t:nB H fb tb n l V par){x:Int}(hx:0≤x∧x<n){kv:Value}{m:Nat}{ks:List Int}{fp:Option Nat}(s:Sl H 1 kv m (ks.map i64) fp)(gu:fp≠some tb)(bJ:∀k∈ks,0≤k∧k<n)(hl:ks.length≤1000000):
  af Tryz.prog tY [ptr fb,i64 x,kv] H fun v H'=>aw (∃l',nB H' fb tb n l' (uH V x kv) (fun z=>if z∈ks then x else par z)∧ag (fun z=>z=tb) H H'):=by
 obtain rfl:m=ks.length:=by
  have:=s.1
  rw[anQ,anw]at this
  exact this.symm
 obtain⟨ka,kc,rfl⟩:=Sl.shape s
 have oK:=t.len
 refine bm um ?_
 refine v1 (ae t.own) ?_
 refine⟨⟨by omega,by omega⟩,?_⟩
 refine v3 t.EE ant Nat.add_zero ?_
 refine⟨by omega,?_⟩
 obtain⟨t1,e1⟩:=t.uH hx (.slice ka ks.length kc)
 refine vs ?_
 have s1:=s.ext e1 (fun b hb e=>gu (by rw[hb,e]))
 have sE:=t1.len
 generalize H.wr tb (l.set (x.toNat*2) (.slice ka ks.length kc))=H1 at*
 refine bk.intro (fun mm env H'=>∃ (j:Nat) (l':List Value),mm=ks.length - j∧j≤ks.length∧nB H' fb tb n l' (uH V x (.slice ka ks.length kc)) (fun z=>if z∈ks.take j then x else par z)∧ag (fun z=>z=tb) H1 H'∧
  env=[(0,ptr fb),(1,i64 x),(16,.slice ka ks.length kc),(17,i64 ks.length),(18,i64 j)]) ks.length ⟨0,_,by omega,by omega,by simpa using t1,ag.refl _ _,rfl⟩ ?_
 rintro mm env H2 ⟨j,l2,rfl,hj,t2,e2,rfl⟩
 have s2:=s1.ext e2 (fun b hb e=>gu (by rw[hb,e]))
 have rU:=t2.len
 refine vs ?_
 refine am.dec (fun aO=>?_) (fun aO=>?_)<;>refine vs ?_
 ·have gD:j<ks.length:=by omega
  obtain⟨k,hk⟩:∃k,ks[j]? =some k:=⟨_,ans gD⟩
  obtain⟨_,b,lb,rfl,q2,q3⟩:=Sl.zg s2 hk
  have YT:=bJ k (anz hk)
  refine⟨⟨by omega,by omega⟩,?_⟩
  refine v6 (ae q2) ant anw Int.toNat_natCast q3 (ae t2.own) ?_
  refine⟨⟨by omega,by omega⟩,?_⟩
  refine v3 t2.EE ant Nat.add_zero ?_
  refine⟨by omega,?_⟩
  obtain⟨t3,e3⟩:=t2.aI YT x
  refine vs ?_
  rw[wrap64 (n:=(j:Int)+1) (by omega) (by omega)]
  refine⟨ks.length - (j+1),by omega,j+1,l2.set (k.toNat*2+1) (i64 x),rfl,by omega,?_,e2.trans e3,rfl⟩
  have tk:ks.take (j+1)=ks.take j++[k]:=by rw[aoa,hk];rfl
  have:(fun z=>if z∈ks.take (j+1)then x else par z)=aI (fun z=>if z∈ks.take j then x else par z) k x:=by
   funext z
   unfold aI
   rw[tk]
   by_cases hz:z=k
   ·rw[if_pos (by simp[hz]),if_pos hz]
   ·rw[if_neg hz]
    by_cases h2:z∈ks.take j
    ·rw[if_pos (anL _ h2)]
     exact(if_pos h2).symm
    ·rw[if_neg (by simp[h2,hz])]
     exact(if_neg h2).symm
  rw[this]
  exact t3
 ·obtain rfl:j=ks.length:=by omega
  rw[an4]at t2
  exact⟨l2,t2,e1.trans e2⟩
theorem RK.kbs{s:Nat}(r:RK s ro ro'){z:Nat}(hz:z<s)(h:KB ro' z):KB ro z:=by
 rcases h with h| ⟨x,h⟩
 ·refine .inl ?_
  by_cases hk:∃x,ro z= .pe x
  ·obtain⟨x,hx⟩:=hk
   obtain⟨y,hy⟩:=r.k z x hz hx
   rw[hy]at h;cases h
  ·rw[←r.o z hz (fun x hx=>hk ⟨x,hx⟩)];exact h
 ·refine .inr ?_
  apply anW
  intro hk
  rw[r.o z hz (fun x hx=>hk ⟨x,hx⟩)]at h
  exact hk ⟨x,h⟩
theorem CT(m:ForM H ro fb tb n l V ch par kb)(hz:∀z,H.size≤z→ro z= .no){x:Int}(hx:0≤x∧x<n)(px:par x= -1)(hl:(ch x).length≤65536):
  af Tryz.prog tX [ptr fb,i64 x] H fun v H'=>aw (∃ro' l' V' tA fp,ForM H' ro' fb tb n l' V' (ay ch x []) (fk ch par x) tA∧RK H.size ro ro'∧(∀z,H'.size≤z→ro' z= .no)∧ag (KB ro) H H'∧
   Sl H' 1 v (ch x).length ((ch x).map i64) fp∧∀b,fp=some b→H.size≤b∧ro' b= .no):=by
 have ht:=m.t.len
 obtain⟨a1,a2⟩:=m.t.at_ x hx.1 hx.2
 have kx:=m.kd x hx.1 hx.2
 obtain⟨ka,kc,Y5⟩:=Sl.shape kx
 rw[Y5]at a1 kx
 refine bm uj ?_
 refine vs ?_
 refine(gX m.t x).mono ?_
 rintro _ H' ⟨rfl,e⟩
 obtain rfl:=e.symm
 rw[anI hx,anI px]
 refine v1 (ae m.t.own) ?_
 refine⟨⟨by omega,by omega⟩,?_⟩
 refine v5 (ae m.t.own) (ae m.t.EE) ant Nat.add_zero a1 ?_
 refine⟨⟨by omega,by omega⟩,?_⟩
 refine v3 m.t.EE ant Nat.add_zero ?_
 refine⟨by omega,?_⟩
 obtain⟨Xk,Y6,m1,r1,n1,e1⟩:=m.put hz hx (ag.refl _ H) (Sl.nil H 1) (w':=.slice none 0 0) (L':=[]) (.inr (.inl rfl)) (by simp)
 refine vs ?_
 have abk:∀b,kb x=some b→b≠tb:=fun b hb e=>by
  have:=m.rk x b hx.1 hx.2 hb
  rw[e,m.rt]at this
  cases this
 have s1:=kx.ext (m.t.uH hx (.slice none 0 0)).2 (fun b hb=>abk b hb)
 generalize H.wr tb (l.set (x.toNat*2) (.slice none 0 0))=H1 at*
 refine bk.intro (fun mm env H'=>∃ (j:Nat) (l':List Value),mm=(ch x).length - j∧j≤(ch x).length∧ForM H' Xk fb tb n l' (uH V x (.slice none 0 0)) (ay ch x []) (fun z=>if z∈(ch x).take j then -1 else par z) Y6∧ag (fun z=>z=tb) H1 H'∧
  env=[(0,ptr fb),(5,.slice ka (ch x).length kc),(27,.slice ka (ch x).length kc),(28,i64 (ch x).length),(29,i64 j)]) (ch x).length ⟨0,_,by omega,by omega,by simpa using m1,ag.refl _ _,rfl⟩ ?_
 rintro mm env H2 ⟨j,l2,rfl,hj,m2,e2,rfl⟩
 have s2:=s1.ext e2 (fun b hb=>abk b hb)
 have rU:=m2.t.len
 have hrt:Xk tb= .table:=m2.rt
 refine vs ?_
 refine am.dec (fun aO=>?_) (fun aO=>?_)<;>refine vs ?_
 ·have gD:j< (ch x).length:=by omega
  obtain⟨k,hk⟩:∃k,(ch x)[j]? =some k:=⟨_,ans gD⟩
  obtain⟨_,b,lb,rfl,q2,q3⟩:=Sl.zg s2 hk
  have YT:=m.GA x k (anz hk)
  refine⟨⟨by omega,by omega⟩,?_⟩
  refine v6 (ae q2) ant anw Int.toNat_natCast q3 (ae m2.t.own) ?_
  refine⟨⟨by omega,by omega⟩,?_⟩
  refine v3 m2.t.EE ant Nat.add_zero ?_
  refine⟨by omega,?_⟩
  obtain⟨m3,_⟩:=m2.aI YT (-1)
  obtain⟨_,e3⟩:=m2.t.aI YT (-1)
  refine vs ?_
  rw[wrap64 (n:=(j:Int)+1) (by omega) (by omega)]
  refine⟨(ch x).length - (j+1),by omega,j+1,l2.set (k.toNat*2+1) (i64 (-1)),rfl,by omega,?_,e2.trans e3,rfl⟩
  have tk:(ch x).take (j+1)=(ch x).take j++[k]:=by rw[aoa,hk];rfl
  have:(fun z=>if z∈(ch x).take (j+1)then(-1:Int)else par z)=aI (fun z=>if z∈(ch x).take j then -1 else par z) k (-1):=by
   funext z
   unfold aI
   rw[tk]
   by_cases hz:z=k
   ·rw[if_pos (by simp[hz]),if_pos hz]
   ·rw[if_neg hz]
    by_cases h2:z∈(ch x).take j
    ·rw[if_pos (anL _ h2)]
     exact(if_pos h2).symm
    ·rw[if_neg (by simp[h2,hz])]
     exact(if_neg h2).symm
  rw[this]
  exact m3
 ·obtain rfl:j=(ch x).length:=by omega
  rw[an4]at m2
  refine(AQ s2.rd (by omega)).mono ?_
  rintro v H3 ⟨f3,fp,s3,gu⟩
  have z2:=e2.size
  have z1:=e1.size
  have z3:=f3.size
  refine vs ?_
  refine⟨Xk,l2,_,Y6,fp,m2.fresh f3,r1,fun z dM=>n1 z (by omega),?_,s3,fun b hb=>⟨by have:=gu b hb;omega,n1 b (by have:=gu b hb;omega)⟩⟩
  exact(e1.trans (e2.mono fun z dM h=>.inl (by rw[h];exact m.rt))).trans (f3.mono fun _ _ h=>h.elim)
def mj(j k:Nat):List Value:=(List.replicate j [Value.slice none 0 0,Value.int .i64 (-1)]).flatten++(List.replicate k [Value.slice none 0 0,Value.int .i64 0]).flatten
theorem vA(j:Nat)(a b:Value):((List.replicate j [a,b]).flatten).length=j*2:=by
 induction j with
 |zero=>rfl
 |succ j ih=>rw[aoc,aos,anD,ih];simp;omega
theorem Sd{j i:Nat}(a b:Value)(hi:i<j):((List.replicate j [a,b]).flatten)[i*2]? =some a∧((List.replicate j [a,b]).flatten)[i*2+1]? =some b:=by
 induction j generalizing i with
 |zero=>omega
 |succ j ih=>
  rw[aoc,aos]
  cases i with
  |zero=>exact⟨rfl,rfl⟩
  |succ i=>
   have:=ih (i:=i) (by omega)
   rw[show(i+1)*2=i*2+1+1 by omega]
   exact this
theorem PZ(j k:Nat):(mj j k).length=(j+k)*2:=by unfold mj;rw[anD,vA,vA];omega
theorem P0(j k:Nat):(mj j (k+1)).set (j*2+1) (Value.int .i64 (-1))=mj (j+1) k:=by
 unfold mj
 rw[apt _ _ (by rw[vA];omega),vA,show j*2+1 - j*2=1 by omega,aoc,aos,apx,List.flatten_append]
 simp
theorem Gd(H:Hp){n:Int}(hn:0≤n∧n≤65536):af Tryz.prog KP [i64 n] H fun v H'=>aw (∃fb tb l,v= .tuple [ptr fb,i64 0].toArray∧nB H' fb tb n.toNat l (fun _=>.slice none 0 0) (fun _=> -1)∧ai H H'∧H.size≤fb∧H.size≤tb):=by
 refine bm KX ?_
 refine vs ?_
 refine am.dec (fun g=>absurd g (by omega)) (fun _=>?_)
 refine vs ?_
 refine am.dec (fun g=>absurd g (by omega)) (fun _=>?_)
 refine vs ?_
 refine⟨⟨by omega,by omega,by omega,by omega⟩,?_⟩
 refine vs ?_
 rw[show cA [Value.slice none 0 0,Value.int .i64 0] n.toNat=mj 0 n.toNat from rfl]
 obtain⟨N,hN⟩:∃N:Nat,n=(N:Int):=⟨n.toNat,by omega⟩
 subst hN
 rw[Int.toNat_natCast]
 have f0:ai H ((H.new 315 (mj 0 N)).new 313 [.slice (some ⟨H.size,0,none⟩) N N]):=((ag.refl _ _).new _ _).new _ _
 have t0:((H.new 315 (mj 0 N)).new 313 [.slice (some ⟨H.size,0,none⟩) N N]).own (H.size+1)=some [.slice (some ⟨H.size,0,none⟩) N N]:=aV (by simp only[aq])
 have t1:((H.new 315 (mj 0 N)).new 313 [.slice (some ⟨H.size,0,none⟩) N N]).own H.size=some (mj 0 N):=by
  rw[ci (by simp only[aq];omega),aB]
 generalize (H.new 315 (mj 0 N)).new 313 [.slice (some ⟨H.size,0,none⟩) N N]=H0 at*
 refine bk.intro (fun m env H'=>∃j:Nat,m=N - j∧j≤N∧ag (fun z=>z=H.size) H0 H'∧H'.own H.size=some (mj j (N - j))∧
  env=[(4,ptr (H.size+1)),(20,i64 N),(21,i64 j)]) N ⟨0,by omega,by omega,ag.refl _ _,t1,rfl⟩ ?_
 rintro m env H1 ⟨j,rfl,hj,e1,h1,rfl⟩
 have o1:=e1.own t0 (by omega)
 have sE:=PZ j (N - j)
 refine vs ?_
 refine am.dec (fun aO=>?_) (fun aO=>?_)<;>refine vs ?_
 ·refine v1 (ae o1) ?_
  refine⟨⟨by omega,by omega⟩,?_⟩
  refine v4 h1 ant Nat.add_zero Int.toNat_natCast ?_
  refine⟨by omega,?_⟩
  refine vs ?_
  have e2:ag (fun z=>z=H.size) H1 (H1.wr H.size ((mj j (N - j)).set (j*2+1) (Value.int .i64 (-1)))):=(ag.refl (fun z=>z=H.size) _).wr (fun _=>rfl) _
  have q2:(H1.wr H.size ((mj j (N - j)).set (j*2+1) (Value.int .i64 (-1)))).own H.size=some ((mj j (N - j)).set (j*2+1) (Value.int .i64 (-1))):=ah h1
  rw[wrap64 (n:=(j:Int)+1) (by omega) (by omega)]
  refine⟨N - (j+1),by omega,j+1,rfl,by omega,e1.trans e2,?_,rfl⟩
  rw[q2,show N - j=(N - (j+1))+1 by omega,P0]
 ·obtain rfl:j=N:=by omega
  refine⟨H.size+1,H.size,_,rfl,⟨o1,h1,by rw[sE];omega,fun x h0 hx=>?_,by omega⟩,f0.then e1 (fun z hz=>by omega),by omega,by omega⟩
  unfold mj
  rw[aoI,apz,List.flatten_nil,aon]
  exact Sd _ _ (by omega)
end
end Go.Proofs.YtjlnnljohemifaaGreat

namespace Go.Proofs.YtjlnnljohemifaaGreat
open Go Go.Vc
theorem JJ:∀ {l:List Int} {i:Nat} {x p:Int},l.Nodup→p∉l→l[i]? =some x→l.set i p=l.map (gY x p):=by
 intro l
 induction l with
 |nil=>intro i x p _ _ h;simp at h
 |cons a r ih=>
  intro i x p hn hp h
  have Dg:=anN.1 hn
  have hpr:p∉r:=fun h=>hp (by simp[h])
  cases i with
  |zero=>
   simp only[anY,anE]at h
   subst h
   rw[aoS,aom,lj,Bq Dg.1 hpr]
  |succ i=>
   have hx:r[i]? =some x:=by simpa using h
   have tG:a≠x:=fun e=>Dg.1 (by rw[e];exact anz hx)
   have Ud:a≠p:=fun e=>hp (by rw[e];simp)
   rw[aoe,aom,fu tG Ud,ih Dg.2 hpr hx]
def Se(x p:Int):Rl→Rl
 | .pe y=>.pe (gY x p y)
 |r=>r
section
variable {H H' : Hp} {ro ro' : Nat → Rl} {fb tb n : Nat} {l : List Value} {V : Int → Value} {ch : Int → List Int} {par : Int → Int} {kb : Int → Option Nat} {T : Nat → Prop}
variable {hm : Int → Int} {lt : Int → Int → Bool} {rows : Int → List Int} {W : List Int}
theorem Sl.Ue{H:Hp}{v:Value}{m:Nat}{xs:List Int}{fp:Option Nat}(s:Sl H 1 v m (xs.map i64) fp){i:Nat}{x:Int}(hx:xs[i]? =some x):∃b lb c,v= .slice (some ⟨b,0,none⟩) m c∧fp=some b∧H.own b=some lb∧lb[i]? =some (i64 x)∧i<m∧m≤lb.length∧m=xs.length:=by
 obtain⟨a,c,rfl⟩:=Sl.shape s
 have hl:=s.1
 rw[anQ,anw]at hl
 obtain⟨h1,b,lb,rfl,q2,q3⟩:=Sl.zg s hx
 cases fp with
 |none=>have:=s.2.2;injection this with h1;cases h1
 |some b'=>
  obtain⟨_,Ve,c',hs,ho,hc,oY,_⟩:=s
  injection hs with eM K7 Gx
  injection eM with eM
  injection eM with eM
  subst eM
  rw[q2]at ho
  injection ho with ho
  subst ho
  exact⟨b,lb,c,rfl,rfl,q2,q3,h1,by omega,hl.symm⟩
theorem nB.afQ{H:Hp}{fb tb n:Nat}{l:List Value}{V V':Int→Value}{U U':Int→Int}(t:nB H fb tb n l V U)(h:∀x:Int,0≤x→x<n→V' x=V x∧U' x=U x):nB H fb tb n l V' U':=
 ⟨t.own,t.EE,t.len,fun x h0 h1=>by obtain⟨e1,e2⟩:=h x h0 h1;rw[e1,e2];exact t.at_ x h0 h1,t.ne⟩
theorem Em(m:ForM H ro fb tb n l V ch par kb)(hz:∀z,H.size≤z→ro z= .no)(w:ju hm lt ch par rows W){x p:Int}(hx:0≤x∧x<n)(hp:0≤p∧p<n)(JZ:x∈ch p)(RY:par p≠ -1→0≤par p∧par p<n)(hn:n≤65536):
  af Tryz.prog lP [ptr fb,i64 x] H fun v H'=>aw (v= .bool true∧∃ro' l' V' tA,ForM H' ro' fb tb n l' V' (GB ch x p) (JF par x p) tA∧RK H.size ro ro'∧(∀z,H'.size≤z→ro' z= .no)∧ag (KB ro) H H'∧∀z,ro z= .no→ro' z= .no):=by
 obtain⟨d1,d2,d3,d4,d5⟩:=w.pr.dn p x JZ
 have aO:=w.less JZ
 have dF:p≠x:=fun e=>by rw[e]at aO;omega
 have npp:p∉ch p:=fun h=>by have:=w.less h;omega
 have npx:p∉ch x:=fun h=>by have:=w.less h;omega
 have nxx:x∉ch x:=fun h=>by have:=w.less h;omega
 have nO:∀z,(ch z).length≤n:=fun z=>bV (w.pr.nd z) fun c hc=>m.GA z c hc
 have akW:=nO x
 have akX:=nO p
 have oK:=m.t.len
 obtain⟨x1,x2⟩:=m.t.at_ x hx.1 hx.2
 obtain⟨p1,p2⟩:=m.t.at_ p hp.1 hp.2
 have sx:=m.kd x hx.1 hx.2
 have sp:=m.kd p hp.1 hp.2
 obtain⟨oa,oc,Y5⟩:=Sl.shape sx
 obtain⟨i,hi,e⟩:=apl.1 JZ
 obtain⟨bp,lp,cp,U8,hkp,qp,qpi,oZ,NS,_⟩:=Sl.Ue sp (i:=i) (x:=x) (by rw[ans hi,e])
 have Vt:=m.rk p bp hp.1 hp.2 hkp
 have hbt:bp≠tb:=fun e=>by rw[e,m.rt]at Vt;cases Vt
 have WC:bp≠fb:=fun e=>by rw[e,m.rf]at Vt;cases Vt
 have RJ:∀b,kb x=some b→b≠tb∧b≠bp:=fun b hb=>by
  have:=m.rk x b hx.1 hx.2 hb
  refine⟨fun e=>(by rw[e,m.rt]at this;cases this),fun e=>?_⟩
  rw[e,Vt]at this
  injection this with this
  exact dF this
 rw[Y5]at x1
 rw[U8]at p1
 refine Gv wH ⟨rfl,?_⟩
 refine v1 lZ.eq_1 ?_
 refine(oN m.t hx).mono ?_
 rintro _ H' ⟨⟨h,_⟩| ⟨_,rfl⟩,e⟩
 ·rw[d1]at h;exact absurd h d2
 obtain rfl:=e.symm
 rw[d1]
 refine v1 (ae m.t.own) ?_
 refine⟨⟨by omega,by omega⟩,?_⟩
 refine v5 (ae m.t.own) (ae m.t.EE) ant Nat.add_zero x1 ?_
 refine⟨⟨by omega,by omega⟩,?_⟩
 refine v5 (ae m.t.own) (ae m.t.EE) ant Nat.add_zero p1 ?_
 refine⟨⟨by omega,by omega⟩,?_⟩
 refine v5 (ae m.t.own) (ae m.t.EE) ant Nat.add_zero p2 ?_
 rw[U8]at sp
 refine(fj sp.rd x (by omega)).mono ?_
 rintro _ H' ⟨⟨j,rfl,hj⟩,e⟩
 obtain rfl:=e.symm
 obtain⟨hj0,hj⟩:=hj.resolve_left (fun h=>h.2 JZ)
 obtain⟨k,rfl⟩:∃k:Nat,j=(k:Int):=⟨j.toNat,by omega⟩
 rw[Int.toNat_natCast]at hj
 have YO:=(anu.1 hj).1
 refine vs ?_
 refine⟨⟨by omega,by omega⟩,?_⟩
 refine v4 qp ant anw Int.toNat_natCast ?_
 refine⟨by omega,?_⟩
 refine vs ?_
 rw[hkp]at sp
 have sp1:=sp.tQ qp k (i64 p)
 have Xl:ag (fun z=>z=bp) H (H.wr bp (lp.set k (i64 p))):=(ag.refl (fun z=>z=bp) _).wr (fun _=>rfl) _
 rw[←aoh,JJ (w.pr.nd p) npp hj]at sp1
 have t1:=m.t.ext Xl (Ne.symm WC) (Ne.symm hbt)
 have sx1:=sx.ext Xl (fun b hb=>(RJ b hb).2)
 generalize H.wr bp (lp.set k (i64 p))=H1 at*
 have WY:((ch p).map (gY x p)).length=(ch p).length:=anQ ..
 have bL:∀z,z∈(ch p).map (gY x p)↔(z=p∨(z∈ch p∧z≠x)):=fun z=>by
  rw[jp]
  by_cases h1:z=x
  ·rw[h1,lj]
   exact⟨fun h=>absurd h npp,fun h=>by rcases h with h|h;exact absurd h.symm dF;exact absurd rfl h.2⟩
  ·by_cases h2:z=p
   ·rw[h2,sK];simp[JZ]
   ·rw[fu h1 h2];simp[h1,h2]
 refine(qt t1 hx sp1 (fun h=>by injection h with h;exact hbt h) (fun c hc=>?_) (by omega)).mono ?_
 ·rcases(bL c).1 hc with h|h
  ·rw[h];exact hp
  ·exact m.GA p c h.1
 rintro _ H2 ⟨l2,t2,e2⟩
 refine vs ?_
 have sx2:=sx1.ext e2 (fun b hb=>(RJ b hb).1)
 rw[Y5]at sx2
 refine(qt t2 hp sx2 (fun h=>(RJ tb h).1 rfl) (fun c hc=>m.GA x c hc) (by omega)).mono ?_
 rintro _ H3 ⟨l3,t3,e3⟩
 have RE:=t3.len
 refine v1 (ae t3.own) ?_
 refine⟨⟨by omega,by omega⟩,?_⟩
 refine v3 t3.EE ant Nat.add_zero ?_
 refine⟨by omega,?_⟩
 obtain⟨t4,e4⟩:=t3.aI hx (par p)
 refine vs ?_
 have T1:=t4.len
 generalize H3.wr tb (l3.set (x.toNat*2+1) (i64 (par p)))=H4 at*
 generalize l3.set (x.toNat*2+1) (i64 (par p))=l4 at*
 have vt:ag (fun z=>z=tb) H1 H4:=(e2.trans e3).trans e4
 have Y7:x≠ -1:=w.pr.ne JZ
 have gx:par p≠x:=fun e=>by
  by_cases hq:par p= -1
  ·exact Y7 (by rw[←e,hq])
  ·have:=w.less (w.pr.up p _ rfl hq)
   rw[e]at this;omega
 have Y8:par p≠p:=fun e=>by
  have:=w.less (w.pr.up p p e d2)
  omega
 have t5:nB H4 fb tb n l4 (fun z=>V (gY x p z)) (JF par x p):=by
  refine t4.afQ fun z h0 h1=>⟨?_,?_⟩
  ·by_cases e1:z=x
   ·rw[e1,lj];unfold uH;rw[if_neg dF.symm,if_pos rfl,U8]
   ·by_cases e2:z=p
    ·rw[e2,sK];unfold uH;rw[if_pos rfl,Y5]
    ·rw[fu e1 e2];unfold uH;rw[if_neg e2,if_neg e1]
  ·show gY x p (par (gY x p z))=(if z=x then par p else if z∈ch x then p else if z∈(ch p).map (gY x p)then x else par z)
   by_cases e1:z=x
   ·rw[if_pos e1,e1,lj,fu gx Y8]
   ·rw[if_neg e1]
    by_cases e2:z=p
    ·rw[e2,sK,d1,sK,if_neg npx,if_pos ((bL p).2 (.inl rfl))]
    ·rw[fu e1 e2]
     by_cases e3:z∈ch x
     ·rw[if_pos e3,(w.pr.dn x z e3).1,lj]
     ·rw[if_neg e3]
      by_cases e4:z∈ch p
      ·rw[if_pos ((bL z).2 (.inr ⟨e4,e1⟩)),(w.pr.dn p z e4).1,sK]
      ·rw[if_neg (fun h=>by rcases(bL z).1 h with h|h;exact e2 h;exact e4 h.1)]
       rw[fu (fun h=>e3 (w.pr.up z x h Y7)) (fun h=>e4 (w.pr.up z p h d2))]
 have hRK:∀H5:Hp,ag (fun z=>z=bp∨z=tb∨kb (par p)=some z∧par p≠ -1) H H5→RK H.size ro (fun z=>Se x p (ro z))∧(∀z,H5.size≤z→Se x p (ro z)= .no)∧ag (KB ro) H H5:=fun H5 e5=>by
  refine⟨⟨fun z dM hk=>?_,fun z y dM hy=>⟨gY x p y,by rw[hy];rfl⟩,fun z dM=>.inl (by rw[hz z dM];rfl)⟩,fun z dM=>?_,e5.mono fun z _ h=>?_⟩
  ·cases hr:ro z with
   |pe y=>exact absurd hr (hk y)
   |_=>rfl
  ·have:=e5.size
   rw[hz z (by omega)];rfl
  ·rcases h with h|h| ⟨h,hq⟩
   ·exact .inr ⟨p,by rw[h];exact Vt⟩
   ·exact .inl (by rw[h];exact m.rt)
   ·obtain⟨h0,h1⟩:=RY hq
    exact .inr ⟨par p,m.rk _ z h0 h1 h⟩
 have abm:∀z:Int,¬ (0≤z∧z<n)→GB ch x p z=[]:=fun z dM=>by
  unfold GB
  rw[fu (fun e=>dM (by rw[e];exact hx)) (fun e=>dM (by rw[e];exact hp)),m.no z dM]
  rfl
 have hrS:∀z:Int,(0≤z∧z<n)→0≤gY x p z∧gY x p z<n:=fun z dM=>by
  by_cases e1:z=x
  ·rw[e1,lj];exact hp
  ·by_cases e2:z=p
   ·rw[e2,sK];exact hx
   ·rw[fu e1 e2];exact dM
 have Vu:∀z c,c∈GB ch x p z→0≤c∧c<n:=fun z c hc=>by
  have:=hrS _ (m.GA _ _ (jp.1 hc))
  rwa[jo]at this
 have hkd:∀z:Int,0≤z→z<n→z≠par p→Sl H4 1 (V (gY x p z)) (GB ch x p z).length ((GB ch x p z).map i64) (kb (gY x p z)):=fun z h0 h1 hzg=>by
  by_cases e1:z=x
  ·unfold GB
   rw[e1,lj,hkp,U8]
   rw[WY]
   exact sp1.ext vt (fun b hb=>by injection hb with hb;omega)
  ·by_cases e2:z=p
   ·unfold GB
    rw[e2,sK,Y5,Bq nxx npx]
    exact(sx2.ext e3 (fun b hb=>(RJ b hb).1)).ext e4 (fun b hb=>(RJ b hb).1)
   ·unfold GB
    rw[fu e1 e2]
    have nx:x∉ch z:=fun h=>e2 (by rw[← (w.pr.dn z x h).1,d1])
    have np:p∉ch z:=fun h=>hzg (w.pr.dn z p h).1.symm
    rw[Bq nx np]
    refine((m.kd z h0 h1).ext Xl (fun b hb e=>?_)).ext vt (fun b hb e=>?_)
    ·have:=m.rk z b h0 h1 hb
     rw[e,Vt]at this
     injection this with this
     exact e2 this.symm
    ·have:=m.rk z b h0 h1 hb
     rw[e,m.rt]at this
     cases this
 have Xm:∀ (z:Int) b,0≤z→z<n→kb (gY x p z)=some b→Se x p (ro b)= .pe z:=fun z b h0 h1 hb=>by
  obtain⟨g0,g1⟩:=hrS z ⟨h0,h1⟩
  rw[m.rk _ b g0 g1 hb]
  show Rl.pe (gY x p (gY x p z))=_
  rw[jo]
 refine am.dec (fun h0=>?_) (fun h0=>?_)<;>refine vs ?_
 ·obtain⟨r1,r2,r3⟩:=hRK H4 ((Xl.mono fun z _ h=>.inl h).trans (vt.mono fun z _ h=>.inr (.inl h)))
  refine⟨rfl,_,l4,_,fun z=>kb (gY x p z),⟨t5,fun z g0 g1=>hkd z g0 g1 (by omega),by rw[m.rf];rfl,by rw[m.rt];rfl,Xm,Vu,abm⟩,r1,r2,r3,fun z h=>by show Se x p (ro z)=_;rw[h];rfl⟩
 ·obtain⟨g0,g1⟩:=RY h0
  have vw:=w.pr.up p _ rfl h0
  obtain⟨ig,hig,eg⟩:=apl.1 vw
  have sg:=m.kd (par p) g0 g1
  obtain⟨bg,lg,cg,hvg,hkg,qg,qgi,ak0,di,_⟩:=Sl.Ue sg (i:=ig) (x:=p) (by rw[ans hig,eg])
  have qB:=m.rk _ bg g0 g1 hkg
  have hgt:bg≠tb:=fun e=>by rw[e,m.rt]at qB;cases qB
  have hgb:bg≠bp:=fun e=>by rw[e,Vt]at qB;injection qB with qB;exact Y8 qB.symm
  have hgf:bg≠fb:=fun e=>by rw[e,m.rf]at qB;cases qB
  obtain⟨a1,a2⟩:=t5.at_ _ g0 g1
  rw[fu gx Y8,hvg]at a1
  refine v1 (ae t5.own) ?_
  refine⟨⟨by omega,by omega⟩,?_⟩
  refine v4 (ae t5.EE) ant Nat.add_zero a1 ?_
  have qg4:=vt.own (Xl.own qg hgb) hgt
  have sg4:Sl H4 1 (.slice (some ⟨bg,0,none⟩) (ch (par p)).length cg) (ch (par p)).length ((ch (par p)).map i64) (some bg):=by
   rw[hvg,hkg]at sg
   exact(sg.ext Xl (fun b hb=>by injection hb with hb;omega)).ext vt (fun b hb=>by injection hb with hb;omega)
  have ak2:=nO (par p)
  refine(fj sg4.rd p (by omega)).mono ?_
  rintro _ H' ⟨⟨j,rfl,hj⟩,e⟩
  obtain rfl:=e.symm
  obtain⟨hj0,hj⟩:=hj.resolve_left (fun h=>h.2 vw)
  obtain⟨k,rfl⟩:∃k:Nat,j=(k:Int):=⟨j.toNat,by omega⟩
  rw[Int.toNat_natCast]at hj
  have YO:=(anu.1 hj).1
  refine vs ?_
  refine⟨⟨by omega,by omega⟩,?_⟩
  refine v4 qg4 ant anw Int.toNat_natCast ?_
  refine⟨by omega,?_⟩
  refine vs ?_
  have sg5:=sg4.tQ qg4 k (i64 x)
  have e5:ag (fun z=>z=bg) H4 (H4.wr bg (lg.set k (i64 x))):=(ag.refl (fun z=>z=bg) _).wr (fun _=>rfl) _
  have nxg:x∉ch (par p):=fun h=>Y8 (by rw[← (w.pr.dn _ x h).1,d1])
  have Sf:(ch (par p)).map (gY p x)=(ch (par p)).map (gY x p):=apn fun c _=>by
   unfold gY
   by_cases e1:c=x
   ·rw[if_neg (fun e=>dF (by rw[←e,e1])),if_pos e1,if_pos e1]
   ·by_cases e2:c=p
    ·rw[if_pos e2,if_neg e1,if_pos e2]
    ·rw[if_neg e2,if_neg e1,if_neg e1,if_neg e2]
  rw[←aoh,JJ (w.pr.nd _) nxg hj,Sf]at sg5
  obtain⟨r1,r2,r3⟩:=hRK _ (((Xl.mono fun z _ h=>.inl h).trans (vt.mono fun z _ h=>.inr (.inl h))).trans (e5.mono fun z _ h=>.inr (.inr ⟨by rw[h];exact hkg,h0⟩)))
  refine⟨rfl,_,l4,_,fun z=>kb (gY x p z),⟨t5.ext e5 (fun e=>hgf e.symm) (fun e=>hgt e.symm),fun z q0 q1=>?_,by rw[m.rf];rfl,by rw[m.rt];rfl,Xm,Vu,abm⟩,r1,r2,r3,fun z h=>by show Se x p (ro z)=_;rw[h];rfl⟩
  by_cases hzg:z=par p
  ·unfold GB
   rw[hzg,fu gx Y8,hvg,hkg,anQ]
   exact sg5
  ·refine(hkd z q0 q1 hzg).ext e5 (fun b hb e=>?_)
   have h7:=Xm z b q0 q1 hb
   rw[e,qB]at h7
   have h8:Rl.pe (gY x p (par p))= .pe z:=h7
   injection h8 with h8
   rw[fu gx Y8]at h8
   exact hzg h8.symm
end
end Go.Proofs.YtjlnnljohemifaaGreat
