/- Texts put behind each other. -/
import Derived.Test.YthpjfeolagohkaaGreatK98
import Derived.Test.YthpjfeolagohkaaGreatK12
import Derived.Test.YthpjfeolagohkaaGreatK19
import Derived.Test.YthpjfeolagohkaaGreatK20
import Derived.Test.YthpjfeolagohkaaGreatK26
import Derived.Test.YthpjfeolagohkaaGreatK28
import Derived.Test.YthpjfeolagohkaaGreatK30
set_option maxRecDepth 100000
set_option maxHeartbeats 8000000
set_option linter.unusedVariables false
set_option linter.unusedSimpArgs false
namespace Go.Proofs.YthpjfeolagohkaaGreat
open Go Go.Vc
section
variable {H H' : Hp} {B : VA} {A A' : Ar} {T : Nat → Prop} {x : Int}
theorem Fl(m:KO H B A):af Tryz.prog zu [ptr B.a] H fun v H'=>ax (
  (A.pick=none∧v= .tuple [i64 0,.bool false].toArray∧H'=H)∨(∃x A',A.pick=some (x,A')∧v= .tuple [i64 x,.bool true].toArray∧KO H' B A'∧ag (fun z=>z=B.a) H H')):=by
 obtain⟨tv,o1,s1⟩:=m.own
 obtain⟨wa,wc,rfl⟩:=Sl.shape s1
 have hwl:=m.wtl.1
 have dI:=m.len
 have Li:=m.ok.nx
 refine bm zP ?_
 refine v1 (ae o1) ?_
 refine ar.dec (fun h0=>?_) (fun h0=>?_)
 ·have aR:A.wt≠[]:=fun h=>by rw[h]at h0;simp at h0
  obtain⟨k,hk⟩:∃k,A.wt.length=k+1:=⟨A.wt.length - 1,by omega⟩
  obtain⟨x,hx⟩:∃x,A.wt[k]? =some x:=⟨_,aqb (by omega)⟩
  have jk:A.wt.getLastD 0=x:=by
   rw[List.getLastD_eq_getLast?,List.getLast?_eq_getElem?,hk,Nat.add_sub_cancel,hx]
   rfl
  have hdl:A.wt.dropLast=A.wt.take k:=by rw[arI,hk,Nat.add_sub_cancel]
  have RE:A.pick=some (x,{A with wt:=A.wt.take k}):=by
   unfold Ar.pick
   rw[if_pos aR,jk,hdl]
  obtain⟨b,lb,c,pO,RL,qb,qk,_,_,_⟩:∃b lb c,Value.slice wa A.wt.length wc= .slice (some ⟨b,0,none⟩) A.wt.length c∧B.fo=some b∧H.own b=some lb∧lb[k]? =some (i64 x)∧k<A.wt.length∧A.wt.length≤lb.length∧True:=by
   obtain⟨h1,b,lb,rfl,q2,q3⟩:=Sl.Ao s1 hx
   have uF:=s1
   revert uF
   cases RL:B.fo with
   |none=>intro uF;have:=uF.2.2;injection this with h1;cases h1
   |some b'=>
    intro uF
    obtain⟨_,Ys,c',hs,ho,hc,oP,_⟩:=uF
    injection hs with fh Jv E6
    injection fh with fh
    injection fh with fh
    subst fh E6
    rw[q2]at ho
    injection ho with ho
    subst ho
    exact⟨b,lb,wc,rfl,rfl,q2,q3,h1,by omega,trivial⟩
  injection pO with fh Jv E6
  subst fh E6
  obtain⟨_,Ys,c',hs,ho,hc,oP,ht⟩:(A.wt.map i64).length=A.wt.length*1∧∃l c',Value.slice (some ⟨b,0,none⟩) A.wt.length wc= .slice (some ⟨b,0,none⟩) A.wt.length c'∧H.own b=some l∧A.wt.length≤c'∧c'*1≤l.length∧l.take (A.wt.length*1)=A.wt.map i64:=by
   have:=s1
   rw[RL]at this
   exact this
  injection hs with _ _ hs
  subst hs
  rw[qb]at ho
  injection ho with ho
  subst ho
  rw[aqd]at oP ht
  refine v1 (ae o1) ?_
  rw[wrap64 (n:=(A.wt.length:Int) - 1) (by omega) (by omega)]
  refine⟨⟨by omega,by omega⟩,?_⟩
  rw[show((A.wt.length:Int) - 1).toNat=k by omega]
  refine v5 (ae qb) aqa aqd qk (ae o1) ?_
  rw[wrap64 (n:=(A.wt.length:Int) - 1) (by omega) (by omega)]
  refine⟨⟨by omega,by omega,by omega,by omega⟩,?_⟩
  refine v1 o1 ?_
  rw[if_neg (show¬ (wc:Int)=((0:Nat):Int) by omega)]
  have e1:∀l,ag (fun z=>z=B.a) H (H.wr B.a l):=fun l=>(ag.refl (fun z=>z=B.a) _).wr (fun _=>rfl) _
  have Nt:(A.wt.take k).length=k:=by rw[aqO];omega
  refine .inr ⟨x,_,RE,rfl,⟨⟨_,ai o1,?_⟩,(e1 _).own m.sl (Ne.symm m.ne.1),m.ne,m.len,⟨fun y hy=>m.ok.wl y (List.mem_of_mem_take hy),m.ok.wd.sublist (List.take_sublist _ _),m.ok.fr,m.ok.ct,m.ok.nx⟩,m.gs,m.mo⟩,e1 _⟩
  have hb:b≠B.a:=fun e=>m.ne.2.1 (by rw[RL,e])
  refine⟨by simp,?_⟩
  rw[RL]
  refine⟨lb,wc,?_,(e1 _).own qb hb,by rw[Nt];omega,by rw[aqd];exact oP,?_⟩
  ·rw[Nt,show((A.wt.length:Int) - 1).toNat - ((0:Nat):Int).toNat=k by omega]
   simp[Addr.add]
  ·rw[aqd,List.map_take,←ht,ar4]
   congr 1
   rw[Nt]
   omega
 ·refine v1 (ae o1) ?_
  have he:A.wt=[]:=aqN.1 (by omega)
  refine ar.dec (fun h1=>?_) (fun h1=>?_)
  ·refine vs ?_
   refine .inl ⟨?_,rfl,rfl⟩
   unfold Ar.pick
   rw[if_neg (by simp[he]),if_pos (by omega)]
  ·refine v2 (ae o1) o1 ?_
   rw[wrap64 (n:=(A.nx:Int)+1) (by omega) (by omega)]
   have e1:∀l,ag (fun z=>z=B.a) H (H.wr B.a l):=fun l=>(ag.refl (fun z=>z=B.a) _).wr (fun _=>rfl) _
   have q1:∀l,(H.wr B.a l).own B.a=some l:=fun l=>ai o1
   simp(disch:=(first|omega| (simp only[Zs]<;>omega)|fail)) only[go_sem, ↓reduceIte,Zv,ae (q1 _)]
   rw[wrap64 (n:=(A.nx:Int)+1 - 1) (by omega) (by omega)]
   have RE:A.pick=some ((A.nx:Int),{A with nx:=A.nx+1}):=by
    unfold Ar.pick
    rw[if_neg (by simp[he]),if_neg (by omega)]
   rw[show(A.nx:Int)+1 - 1=(A.nx:Int) by omega]
   refine .inr ⟨_,_,RE,rfl,⟨⟨.slice wa A.wt.length wc,q1 _,s1.ext (e1 _) (fun b hb e=>m.ne.2.1 (by rw[hb,e]))⟩,(e1 _).own m.sl (Ne.symm m.ne.1),m.ne,m.len,⟨fun y hy=>by have:=m.ok.wl y hy;exact⟨this.1,by simp only;omega,this.2.2⟩,m.ok.wd,fun y hy=>m.ok.fr y (by simp only at hy;omega),m.ok.ct,by simp only;omega⟩,m.gs,m.mo⟩,e1 _⟩
theorem Fm(m:KO H B A)(YK:∀x:Int,0≤x→x<A.g.length→A.bM x<4294967295):af Tryz.prog zt [ptr B.a] H fun v H'=>ax (
  (A.pick=none∧v= .tuple [gI 0 0,i64 32].toArray∧KO H' B A∧ah H H')∨(∃x A',A.pick=some (x,A')∧v= .tuple [gI x (A.bM x+1),i64 0].toArray∧KO H' B (A'.out x)∧ag B.S H H')):=by
 have fD:=m.slt
 refine bm zO ?_
 refine vs ?_
 have f0:ah H (H.new 71 [Value.int .i64 0,Value.int .u32 0]):=(ag.refl _ _).new _ _
 have b0:(H.new 71 [Value.int .i64 0,Value.int .u32 0]).own H.size=some [Value.int .i64 0,Value.int .u32 0]:=az _ _ _
 have m0:=m.ext f0 (fun _ _ h=>h)
 generalize H.new 71 [Value.int .i64 0,Value.int .u32 0]=H0 at*
 have Fo:∀z,B.S z→z≠H.size:=fun z hz=>by have:=fD z hz;omega
 refine(Fl m0).mono ?_
 rintro _ H1 (⟨hp,rfl,e⟩| ⟨x,A',hp,rfl,m1,e1⟩)
 ·obtain rfl:=e.symm
  refine v1 b0 ?_
  have e1:ag (fun z=>z=H.size) H0 (H0.wr H.size [Value.int .i64 0,Value.int .u32 0]):=(ag.refl (fun z=>z=H.size) _).wr (fun _=>rfl) _
  have b1:(H0.wr H.size [Value.int .i64 0,Value.int .u32 0]).own H.size=some [Value.int .i64 0,Value.int .u32 0]:=ai b0
  refine v1 (ae b1) ?_
  exact .inl ⟨hp,rfl,m0.ext e1 (fun z hz e=>Fo z hz e),f0.then e1 (fun z hz=>by omega)⟩
 obtain⟨vO,lJ,Lu,Jl,hg,hct,hmo⟩:=Ar.FG hp m.ok
 have b1:=e1.own b0 (fun e=>Fo B.a (.inl rfl) e.symm)
 obtain⟨DO,o1,s1⟩:=m1.own
 have dI:=m1.len
 have ac1:0≤x∧x<A'.g.length:=by rw[hg];exact vO
 obtain⟨b,hb,FX⟩:=Ar.get (A:=A') ac1
 have VB:A'.bM x=A.bM x:=by unfold Ar.bM;rw[hg]
 have hgb:=YK x vO.1 vO.2
 obtain⟨c1,c2⟩:=vN hb
 obtain⟨w1,_⟩:=DP hb
 have hl:=rj A'.g
 refine v1 (ae o1) ?_
 refine⟨⟨by omega,by omega⟩,?_⟩
 refine v5 (ae m1.sl) m1.sl aqa Nat.add_zero c1 ?_
 refine⟨by omega,?_⟩
 rw[UX (n:=(A'.bM x:Int)+1) (by omega) (by omega),show(A'.bM x:Int)+1=((A'.bM x+1:Nat):Int) by omega]
 refine v1 w1 ?_
 have e2:ag (fun z=>z=B.sb) H1 (H1.wr B.sb (dL (A'.g.set x.toNat (A'.bM x+1,b)))):=(ag.refl (fun z=>z=B.sb) _).wr (fun _=>rfl) _
 have q2:(H1.wr B.sb (dL (A'.g.set x.toNat (A'.bM x+1,b)))).own B.sb=some (dL (A'.g.set x.toNat (A'.bM x+1,b))):=ai m1.sl
 generalize H1.wr B.sb (dL (A'.g.set x.toNat (A'.bM x+1,b)))=H2 at*
 have oG:(A'.g.set x.toNat (A'.bM x+1,b))[x.toNat]? =some (A'.bM x+1,b):=aqi (by omega)
 obtain⟨d1,_⟩:=vN oG
 have w2:=(DP oG).2 true
 rw[List.set_set]at w2
 have tP:=rj (A'.g.set x.toNat (A'.bM x+1,b))
 rw[aqe]at tP
 refine v3 q2 aqa Nat.add_zero ?_
 refine⟨by omega,?_⟩
 refine v1 w2 ?_
 have e3:ag (fun z=>z=B.sb) H2 (H2.wr B.sb (dL (A'.g.set x.toNat (A'.bM x+1,true)))):=(ag.refl (fun z=>z=B.sb) _).wr (fun _=>rfl) _
 have q3:(H2.wr B.sb (dL (A'.g.set x.toNat (A'.bM x+1,true)))).own B.sb=some (dL (A'.g.set x.toNat (A'.bM x+1,true))):=ai q2
 generalize H2.wr B.sb (dL (A'.g.set x.toNat (A'.bM x+1,true)))=H3 at*
 have Dz:=e2.trans e3
 have o3:=Dz.own o1 m.ne.1
 have ahx:=m1.ok.ct
 have ac2:=Ar.Pk A'
 refine v2 (ae o3) o3 ?_
 rw[wrap64 (n:=A'.ct+1) (by omega) (by omega)]
 have e4:∀l,ag (fun z=>z=B.a) H3 (H3.wr B.a l):=fun l=>(ag.refl (fun z=>z=B.a) _).wr (fun _=>rfl) _
 have q4:∀l,(H3.wr B.a l).own B.a=some l:=fun l=>ai o3
 have RM:=(e4 [.slice (some ⟨B.sb,0,none⟩) A'.g.length A'.g.length,DO,i64 A'.nx,i64 (A'.ct+1),.int .u32 (A'.mo:Int)]).own q3 (Ne.symm m.ne.1)
 have b3:=(e4 [.slice (some ⟨B.sb,0,none⟩) A'.g.length A'.g.length,DO,i64 A'.nx,i64 (A'.ct+1),.int .u32 (A'.mo:Int)]).own (Dz.own b1 (fun e=>Fo B.sb (.inr (.inl rfl)) e.symm)) (fun e=>Fo B.a (.inl rfl) e.symm)
 have SP:(A'.g.set x.toNat (A'.bM x+1,true))[x.toNat]? =some (A'.bM x+1,true):=aqi (by omega)
 obtain⟨d3,_⟩:=vN SP
 have s4:=(s1.ext Dz (fun b hb e=>m.ne.2.2 (by rw[hb,e]))).ext (e4 [.slice (some ⟨B.sb,0,none⟩) A'.g.length A'.g.length,DO,i64 A'.nx,i64 (A'.ct+1),.int .u32 (A'.mo:Int)]) (fun b hb e=>m.ne.2.1 (by rw[hb,e]))
 have m4:KO (H3.wr B.a [.slice (some ⟨B.sb,0,none⟩) A'.g.length A'.g.length,DO,i64 A'.nx,i64 (A'.ct+1),.int .u32 (A'.mo:Int)]) B (A'.out x):=by
  refine⟨⟨DO,?_,s4⟩,RM,m.ne,?_,m1.ok.out hg ac1 (fun h=>lJ (by unfold Ar.live at h ⊢;rw[hg]at h;exact h)) Lu Jl,fun y hy=>?_,m1.mo⟩
  ·show _=some [.slice (some ⟨B.sb,0,none⟩) (A'.g.set x.toNat (A'.bM x+1,true)).length (A'.g.set x.toNat (A'.bM x+1,true)).length,DO,i64 A'.nx,i64 (A'.ct+1),.int .u32 (A'.mo:Int)]
   rw[aqe]
   exact q4 _
  ·show(A'.g.set x.toNat (A'.bM x+1,true)).length≤_
   rw[aqe];exact dI
  ·rcases aq8 hy with h|h
   ·exact m1.gs y h
   ·rw[h];simp only;omega
 have e4':=e4 [.slice (some ⟨B.sb,0,none⟩) A'.g.length A'.g.length,DO,i64 A'.nx,i64 (A'.ct+1),.int .u32 (A'.mo:Int)]
 generalize H3.wr B.a [.slice (some ⟨B.sb,0,none⟩) A'.g.length A'.g.length,DO,i64 A'.nx,i64 (A'.ct+1),.int .u32 (A'.mo:Int)]=H4 at*
 have wF:ag B.S H H4:=((f0.mono fun _ _ h=>h.elim).trans (e1.mono fun z _ h=>.inl h)).trans ((Dz.mono fun z _ h=>.inr (.inl h)).trans (e4'.mono fun z _ h=>.inl h))
 refine v5 (ae RM) aqa Nat.add_zero d3 b3 ?_
 have e5:ag (fun z=>z=H.size) H4 (H4.wr H.size [Value.int .i64 x,Value.int .u32 ((A'.bM x+1:Nat):Int)]):=(ag.refl (fun z=>z=H.size) _).wr (fun _=>rfl) _
 have b5:(H4.wr H.size [Value.int .i64 x,Value.int .u32 ((A'.bM x+1:Nat):Int)]).own H.size=some [Value.int .i64 x,Value.int .u32 ((A'.bM x+1:Nat):Int)]:=ai b3
 refine v1 (ae b5) ?_
 refine .inr ⟨x,A',hp,by rw[VB];rfl,m4.ext e5 (fun z hz e=>Fo z hz e),⟨aqW wF.size e5.size,fun z hz hn=>?_⟩⟩
 rw[e5.aM z (aqw hz wF.size) (fun e=>by omega),wF.aM z hz hn]
theorem Fp(m:KO H B A){x:Int}(hx:A.live x):af Tryz.prog zk [ptr B.a,gI x (A.bM x)] H fun v H'=>ax (v=i64 0∧∃Tf,KO H' ⟨B.a,B.sb,Tf⟩ (A.back x)∧ag B.S H H'∧∀z,Tf=some z→B.fo=some z∨H.size≤z):=by
 have fD:=m.slt
 have vO:=Ar.AN hx
 obtain⟨b,hb,FX⟩:=Ar.get (A:=A) vO
 obtain rfl:=FX.1 hx
 have hl:=rj A.g
 have w1:=(DP hb).2 false
 have dI:=m.len
 have ahx:=m.ok.ct
 have ac2:=Ar.Pk A
 refine EL zH ⟨rfl,?_⟩
 refine v1 nJ.eq_1 ?_
 have f0:ah H (H.new 71 [i64 x,.int .u32 (A.bM x:Int)]):=(ag.refl _ _).new _ _
 have b0:(H.new 71 [i64 x,.int .u32 (A.bM x:Int)]).own H.size=some [i64 x,.int .u32 (A.bM x:Int)]:=az _ _ _
 have m0:=m.ext f0 (fun _ _ h=>h)
 generalize H.new 71 [i64 x,.int .u32 (A.bM x:Int)]=H0 at*
 have Fo:∀z,B.S z→z≠H.size:=fun z hz=>by have:=fD z hz;omega
 refine(tL m0 x (A.bM x)).mono ?_
 rintro _ H1 ⟨rfl,f1⟩
 rw[aqp ⟨hx,rfl⟩]
 have m1:=m0.ext f1 (fun _ _ h=>h)
 have b1:=f1.own b0 (fun h=>h)
 obtain⟨DO,o1,s1⟩:=m1.own
 refine v2 (ae o1) (ae b1) ?_
 refine⟨⟨by omega,by omega⟩,?_⟩
 refine v2 m1.sl aqa ?_
 refine⟨by omega,?_⟩
 refine v1 w1 ?_
 have e2:ag (fun z=>z=B.sb) H1 (H1.wr B.sb (dL (A.g.set x.toNat (A.bM x,false)))):=(ag.refl (fun z=>z=B.sb) _).wr (fun _=>rfl) _
 have q2:(H1.wr B.sb (dL (A.g.set x.toNat (A.bM x,false)))).own B.sb=some (dL (A.g.set x.toNat (A.bM x,false))):=ai m1.sl
 generalize H1.wr B.sb (dL (A.g.set x.toNat (A.bM x,false)))=H2 at*
 have o2:=e2.own o1 m.ne.1
 have b2:=e2.own b1 (fun e=>Fo B.sb (.inr (.inl rfl)) e.symm)
 refine v2 (ae o2) o2 ?_
 rw[wrap64 (n:=A.ct - 1) (by omega) (by omega)]
 have e3:∀l,ag (fun z=>z=B.a) H2 (H2.wr B.a l):=fun l=>(ag.refl (fun z=>z=B.a) _).wr (fun _=>rfl) _
 have q3:∀l,(H2.wr B.a l).own B.a=some l:=fun l=>ai o2
 have b3:=fun l=>(e3 l).own b2 (fun e=>Fo B.a (.inl rfl) e.symm)
 have q2':=fun l=>(e3 l).own q2 (Ne.symm m.ne.1)
 have s3:=fun l=>(s1.ext e2 (fun b hb e=>m.ne.2.2 (by rw[hb,e]))).ext (e3 l) (fun b hb e=>m.ne.2.1 (by rw[hb,e]))
 obtain⟨l3,Q0⟩:∃l3,l3=[.slice (some ⟨B.sb,0,none⟩) A.g.length A.g.length,DO,i64 A.nx,i64 (A.ct - 1),.int .u32 (A.mo:Int)]:=⟨_,rfl⟩
 have RM:=q3 l3
 have YL:=b3 l3
 have VC:=q2' l3
 have Ui:=s3 l3
 have e3':=e3 l3
 rw[Q0]at RM YL VC Ui e3'
 generalize H2.wr B.a [.slice (some ⟨B.sb,0,none⟩) A.g.length A.g.length,DO,i64 A.nx,i64 (A.ct - 1),.int .u32 (A.mo:Int)]=H3 at*
 have Dz:ag B.S H H3:=((f0.mono fun _ _ h=>h.elim).trans (f1.mono fun _ _ h=>h.elim)).trans ((e2.mono fun z _ h=>.inr (.inl h)).trans (e3'.mono fun z _ h=>.inl h))
 have tU:=m.ok.back hx
 have hgs:∀y∈(A.back x).g,y.1≤4294967295:=fun y hy=>by
  rcases aq8 hy with h|h
  ·exact m.gs y h
  ·rw[h]
   exact m.gs (A.bM x,true) (aqg hb)
 have bf:(A.back x).g.length=A.g.length:=aqe ..
 refine v2 (ae YL) (ae RM) ?_
 refine ar.dec (fun hm=>?_) (fun hm=>?_)
 rotate_left
 ·refine vs ?_
  have XE:(A.back x).wt=A.wt:=by show(if A.bM x<A.mo then _ else _)=_;rw[if_neg (by omega)]
  refine⟨rfl,B.fo,⟨⟨DO,by rw[bf];exact RM,by rw[XE];exact Ui⟩,VC,m.ne,by rw[bf];exact dI,tU,hgs,m.mo⟩,Dz,fun z hz=>.inl hz⟩
 have XE:(A.back x).wt=A.wt++[x]:=by show(if A.bM x<A.mo then _ else _)=_;rw[if_pos (by omega)]
 have hwl:=m.wtl.1
 obtain⟨ta,tc,rfl⟩:=Sl.shape Ui
 refine vs ?_
 refine gP.intro (fun H'=>True) trivial ?_
 refine vs ?_
 have XZ:H.size<H3.size:=aB YL
 have has:B.a<H3.size:=aB RM
 have fin:∀ (K:Value→Hp→Prop),(∀w' H4 bI,Sl H4 1 w' (A.wt++[x]).length ((A.wt++[x]).map i64) bI→(bI=B.fo∨∃z,bI=some z∧H3.size≤z∧z<H4.size)→ag (fun z=>B.fo=some z) H3 H4→K w' H4)→
   fA 3 1 8 [i64 0] (.slice ta A.wt.length tc) (.slice (some ⟨H3.size,0,none⟩) 1 1) (H3.new 3 [i64 x]) K:=fun K hK=>by
  exact Te Ui x (by omega) fun w' H' bI h1 h2 h3=>hK w' H' bI h2 h1 h3
 refine zg.intro ?C ?D
 case' C=>
  refine v2 (ae RM) (ae YL) ?_
 case' D=>
  refine v2 (ae RM) (ae YL) ?_
  refine zg.intro ?E ?F
  case' E=>
   refine v2 (ae RM) (ae YL) ?_
  case' F=>
   refine v2 (ae RM) (ae YL) ?_
 all_goals
  refine fin _ fun w' H4 bI s4 eB e4=>?_
  obtain⟨wa,wc,rfl⟩:=Sl.shape s4
  have o4:=e4.own RM (fun e=>m.ne.2.1 e)
  have q4:=e4.own VC (fun e=>m.ne.2.2 e)
  refine v1 o4 ?_
  have e5:∀l,ag (fun z=>z=B.a) H4 (H4.wr B.a l):=fun l=>(ag.refl (fun z=>z=B.a) _).wr (fun _=>rfl) _
  have amB:=Dz.size
  refine⟨rfl,bI,⟨⟨_,by rw[bf];exact ai o4,?_⟩,(e5 _).own q4 (Ne.symm m.ne.1),⟨m.ne.1,fun h=>?_,fun h=>?_⟩,by rw[bf];exact dI,tU,hgs,m.mo⟩,?_,fun z hz=>?_⟩
  ·rw[XE]
   refine s4.ext (e5 _) (fun b hb e=>?_)
   rcases eB with h| ⟨y,h,h2,_⟩
   ·exact m.ne.2.1 (by rw[←h,hb,e])
   ·rw[h]at hb;injection hb with hb;omega
  ·rcases eB with h2| ⟨y,h2,h3,_⟩
   ·exact m.ne.2.1 (by rw[←h2];exact h)
   ·rw[h2]at h;injection h with h;simp only at h;omega
  ·rcases eB with h2| ⟨y,h2,h3,_⟩
   ·exact m.ne.2.2 (by rw[←h2];exact h)
   ·have:=aB VC
    rw[h2]at h;injection h with h;simp only at h;omega
  ·exact(Dz.trans (e4.mono fun z _ h=>.inr (.inr h))).trans ((e5 _).mono fun z _ h=>.inl h)
  ·rcases eB with h2| ⟨y,h2,h3,_⟩
   ·exact .inl (by rw[←h2];exact hz)
   ·rw[h2]at hz;injection hz with hz;exact .inr (by omega)
end
end Go.Proofs.YthpjfeolagohkaaGreat

namespace Go.Proofs.YthpjfeolagohkaaGreat
open Go Go.Vc
def Nw.lU(w:Nw)(g x:Int):Prop:=w.has g∧(0≤x∧x<w.cs.length)∧¬df w.cs x
def Nw.dm(w:Nw)(x k s:Int):Prop:=df w.cs x∧∀y,w.cs[x.toNat]? =some y→¬fQ y.2.1 y.2.2 k s
def cF(I:Hp→(Nat→Prop)→Nw→Prop)(S:Nat→Prop)(H H':Hp)(w':Nw):Prop:=
 ∃S':Nat→Prop,I H' S' w'∧ag S H H'∧∀z,S' z→S z∨H.size≤z
theorem cF.same{I:Hp→(Nat→Prop)→Nw→Prop}{S:Nat→Prop}{H H':Hp}{w':Nw}(h:I H' S w')(e:ag S H H'):cF I S H H' w':=⟨S,h,e,fun z hz=>.inl hz⟩
structure yQ(ov:Value)(I:Hp→(Nat→Prop)→Nw→Prop):Prop where
 slt:∀ {H S w},I H S w→∀z,S z→z<H.size
 ext:∀ {H H' S w} {T:Nat→Prop},I H S w→ag T H H'→(∀z,S z→¬T z)→I H' S w
 cells:∀ {H S w},I H S w→∃c C,CQ H c C w
 has:∀ {H S w} (g:Int),I H S w→gQ Tryz.prog ov "Has" [i64 g] H fun v H'=>v= .bool (decide (w.has g))∧H=H'
 make:∀ {H S w},I H S w→gQ Tryz.prog ov "Make" [] H fun v H'=>
  (w.hs.length=65537∧v=i64 0∧cF I S H H' w)∨(w.hs.length≠65537∧v=i64 w.hs.length∧cF I S H H' w.make)
 insert:∀ {H S w} (g x k s:Int),I H S w→gQ Tryz.prog ov "Insert" [i64 g,i64 x,uw k s] H fun v H'=>
  (¬w.lU g x∧v= .bool false∧cF I S H H' w)∨(w.lU g x∧v= .bool true∧cF I S H H' (w.put x (g,k,s)))
 min:∀ {H S w} (g:Int),I H S w→gQ Tryz.prog ov "Min" [i64 g] H fun v H'=>
  (w.len g=0∧v= .tuple [i64 0,.bool false].toArray∧cF I S H H' w)∨(∃x,w.first g x∧v= .tuple [i64 x,.bool true].toArray∧cF I S H H' w)
 extract:∀ {H S w} (g:Int),I H S w→gQ Tryz.prog ov "Extract" [i64 g] H fun v H'=>
  (w.len g=0∧v= .tuple [i64 0,.bool false].toArray∧cF I S H H' w)∨(∃x,w.first g x∧v= .tuple [i64 x,.bool true].toArray∧cF I S H H' (w.put x (0,0,0)))
 lD:∀ {H S w} (x k s:Int),I H S w→gQ Tryz.prog ov "Decrease" [i64 x,uw k s] H fun v H'=>
  (¬w.dm x k s∧v= .bool false∧cF I S H H' w)∨(w.dm x k s∧v= .bool true∧∃y,w.cs[x.toNat]? =some y∧cF I S H H' (w.put x (y.1,k,s)))
 entry:∀ {H S w} (x:Int),I H S w→gQ Tryz.prog ov "Entry" [i64 x] H fun v H'=>I H' S w∧ah H H'∧
  ((¬df w.cs x∧v= .tuple [uw 0 0,.bool false].toArray)∨(df w.cs x∧∃y,w.cs[x.toNat]? =some y∧v= .tuple [uw y.2.1 y.2.2,.bool true].toArray))
structure Uo(w:Nw)(A:Ar):Prop where
 len:w.cs.length=A.g.length
 live:∀x,df w.cs x↔A.live x
def Fq(H:Hp)(s:Nat)(S:Nat→Prop)(w:Nw)(A:Ar)(q:Int):Prop:=∃ (t:TypeId) (vv:Value) (I:Hp→(Nat→Prop)→Nw→Prop) (Sn:Nat→Prop) (B:VA) (k d:Int),
 yQ (.iface t vv) I∧I H Sn w∧KO H B A∧H.own s=some [i64 k,i64 d,ptr B.a,.iface t vv,u64 q]∧(∀z,Sn z→¬B.S z∧z≠s)∧¬B.S s∧(∀z,S z↔Sn z∨B.S z∨z=s)∧Uo w A
theorem Fq.slt{H:Hp}{s:Nat}{S:Nat→Prop}{w:Nw}{A:Ar}{q:Int}(h:Fq H s S w A q):∀z,S z→z<H.size:=by
 obtain⟨t,vv,I,Sn,B,k,d,n,hi,m,ho,d1,d2,hS,hl⟩:=h
 intro z hz
 rcases(hS z).1 hz with h|h|h
 ·exact n.slt hi z h
 ·exact m.slt z h
 ·rw[h];exact aB ho
theorem Fq.ext{H H':Hp}{s:Nat}{S T:Nat→Prop}{w:Nw}{A:Ar}{q:Int}(h:Fq H s S w A q)(e:ag T H H')(hd:∀z,S z→¬T z):Fq H' s S w A q:=by
 obtain⟨t,vv,I,Sn,B,k,d,n,hi,m,ho,d1,d2,hS,hl⟩:=h
 exact⟨t,vv,I,Sn,B,k,d,n,n.ext hi e (fun z hz=>hd z ((hS z).2 (.inl hz))),m.ext e (fun z hz=>hd z ((hS z).2 (.inr (.inl hz)))),e.own ho (hd _ ((hS _).2 (.inr (.inr rfl)))),d1,d2,hS,hl⟩
theorem Fq.lnk{H:Hp}{s:Nat}{S:Nat→Prop}{w:Nw}{A:Ar}{q:Int}(h:Fq H s S w A q):Uo w A∧CJ A∧A.g.length≤65536:=by
 obtain⟨t,vv,I,Sn,B,k,d,n,hi,m,ho,d1,d2,hS,hl⟩:=h
 exact⟨hl,m.ok,m.len⟩
def ON(s:Nat)(S:Nat→Prop)(H H':Hp)(w':Nw)(A':Ar)(q':Int):Prop:=∃S',Fq H' s S' w' A' q'∧ag S H H'∧∀z,S' z→S z∨H.size≤z
section
variable {H H' : Hp} {s : Nat} {S : Nat → Prop} {w : Nw} {A : Ar} {q : Int}
theorem PO(H:Hp)(T:TypeId)(z l:List Value):ah H ((H.new T z).wr H.size l)∧((H.new T z).wr H.size l).own H.size=some l∧((H.new T z).wr H.size l).size=H.size+1:=by
 have f0:ah H (H.new T z):=(ag.refl _ _).new _ _
 have e1:ag (fun x=>x=H.size) (H.new T z) ((H.new T z).wr H.size l):=(ag.refl (fun x=>x=H.size) _).wr (fun _=>rfl) _
 exact⟨f0.then e1 (fun z hz=>by omega),ai (az _ _ _),by rw[cG,am]⟩
theorem MZ{H:Hp}{b:Nat}{l0:List Value}(h:H.own b=some l0)(l:List Value):ag (fun x=>x=b) H (H.wr b l)∧(H.wr b l).own b=some l:=⟨(ag.refl (fun x=>x=b) _).wr (fun _=>rfl) _,ai h⟩
theorem Fs(h:Fq H s S w A q)(hl:w.hs.length<65537):af Tryz.prog zj [ptr s] H fun v H'=>ax (v= .tuple [i64 w.hs.length,i64 0].toArray∧ON s S H H' w.make A q):=by
 obtain⟨t,vv,I,Sn,B,k,d,n,hi,m,ho,d1,d2,hS,IQ⟩:=h
 obtain⟨c,C,cq⟩:=n.cells hi
 have gA:=cq.pos
 refine bm zG ?_
 refine v1 (ae ho) ?_
 refine(n.make hi).mono ?_
 rintro _ H1 (⟨h1,_⟩| ⟨_,rfl,Ft,hi',e1,fh⟩)
 ·omega
 refine vs ?_
 refine ar.dec (fun hh=>by omega) (fun _=>?_)
 refine vs ?_
 have AL:=m.slt
 have hos:=aB ho
 refine⟨rfl,fun z=>Ft z∨B.S z∨z=s,⟨t,vv,I,Ft,B,k,d,n,hi',m.ext e1 (fun z hz h=>(d1 z h).1 hz),e1.own ho (fun h=>(d1 _ h).2 rfl),fun z hz=>?_,d2,fun z=>Iff.rfl,⟨IQ.len,IQ.live⟩⟩,e1.mono fun z _ h=>(hS z).2 (.inl h),fun z hz=>?_⟩
 ·rcases fh z hz with h|h
  ·exact d1 z h
  ·exact⟨fun h2=>by have:=AL z h2;omega,by omega⟩
 ·rcases hz with h|h
  ·rcases fh z h with h|h
   ·exact .inl ((hS z).2 (.inl h))
   ·exact .inr h
  ·exact .inl ((hS z).2 (.inr h))
theorem Uo.put{w:Nw}{A A':Ar}(l:Uo w A){x:Int}(hx:0≤x∧x<A.g.length){y:Ce}{v:Nat}(hg:A'.g=A.g.set x.toNat (v,decide (0<y.1))):Uo (w.put x y) A':=by
 have OC:0≤x∧x<w.cs.length:=by rw[l.len];exact hx
 refine⟨by rw[hg,aqe];simp[Nw.put,l.len],fun z=>?_⟩
 by_cases h0:0≤z
 ·rw[Ar.uL hx hg h0,←bA,eI OC]
  by_cases e:z=x
  ·rw[if_pos e,if_pos e];simp
  ·rw[if_neg e,if_neg e,bA]
   exact l.live z
 ·exact⟨fun h=>absurd h.1 h0,fun h=>absurd h.1 h0⟩
theorem G5(h:Fq H s S w A q){g key:Int}(hg:w.has g)(YK:∀x:Int,0≤x→x<A.g.length→A.bM x<4294967295)(hq:0≤q∧q<18446744073709551615):af Tryz.prog Bb [ptr s,i64 g,i64 key] H fun v H'=>ax (
  (A.pick=none∧v= .tuple [gI 0 0,i64 32].toArray∧ON s S H H' w A q)∨(∃x A',A.pick=some (x,A')∧v= .tuple [gI x (A.bM x+1),i64 0].toArray∧ON s S H H' (w.put x (g,key,q+1)) (A'.out x) (q+1))):=by
 have fD:=h.slt
 obtain⟨t,vv,I,Sn,B,k,d,n,hi,m,ho,d1,d2,hS,IQ⟩:=h
 refine bm Bw ?_
 refine vs ?_
 have f0:ah H (H.new 71 [Value.int .i64 0,Value.int .u32 0]):=(ag.refl _ _).new _ _
 have b0:(H.new 71 [Value.int .i64 0,Value.int .u32 0]).own H.size=some [Value.int .i64 0,Value.int .u32 0]:=az _ _ _
 have z0:(H.new 71 [Value.int .i64 0,Value.int .u32 0]).size=H.size+1:=am _ _ _
 generalize H.new 71 [Value.int .i64 0,Value.int .u32 0]=H0 at*
 have m0:=m.ext f0 (fun _ _ h=>h)
 have GR:=n.ext hi f0 (fun _ _ h=>h)
 have o0:=f0.own ho (fun h=>h)
 have aR:∀z,S z→z≠H.size:=fun z hz=>by have:=fD z hz;omega
 refine v1 (ae o0) ?_
 refine(n.has g GR).mono ?_
 rintro _ _ ⟨rfl,rfl⟩
 rw[aqp hg]
 refine v1 (ae o0) ?_
 refine(Fm m0 YK).mono ?_
 rintro _ H1 (⟨hp,rfl,m1,f1⟩| ⟨x,A',hp,rfl,m1,e1⟩)
 ·have b1:=f1.own b0 (fun h=>h)
  refine vs ?_
  obtain⟨f2,b2,z2⟩:=PO H1 71 [Value.int .i64 0,Value.int .u32 0] [i64 0,Value.int .u32 ((0:Nat):Int)]
  generalize (H1.new 71 [Value.int .i64 0,Value.int .u32 0]).wr H1.size [i64 0,Value.int .u32 ((0:Nat):Int)]=H2 at*
  have b3:=f2.own b1 (fun h=>h)
  refine ar.dec (fun hh=>by omega) (fun _=>?_)
  refine v1 b3 ?_
  obtain⟨e4,b4⟩:=MZ b3 [Value.int .i64 0,Value.int .u32 0]
  refine v1 (ae b4) ?_
  have hse:ag S H (H2.wr H.size [Value.int .i64 0,Value.int .u32 0]):=by
   have h1:=(f0.trans f1).trans f2
   exact(h1.then e4 (fun z hz=>by omega)).mono fun _ _ h=>h.elim
  refine .inl ⟨hp,rfl,S,⟨t,vv,I,Sn,B,k,d,n,?_,?_,?_,d1,d2,hS,IQ⟩,hse,fun z hz=>.inl hz⟩
  ·exact n.ext (n.ext (n.ext GR f1 (fun _ _ h=>h)) f2 (fun _ _ h=>h)) e4 (fun z hz=>aR z ((hS z).2 (.inl hz)))
  ·exact(m1.ext f2 (fun _ _ h=>h)).ext e4 (fun z hz=>aR z ((hS z).2 (.inr (.inl hz))))
  ·exact e4.own (f2.own (f1.own o0 (fun h=>h)) (fun h=>h)) (aR s ((hS s).2 (.inr (.inr rfl))))
 ·obtain⟨vO,lJ,_,_,hAg,_,_⟩:=Ar.FG hp m.ok
  have b1:=e1.own b0 (fun h=>aR _ ((hS _).2 (.inr (.inl h))) rfl)
  have o1:=e1.own o0 d2
  have RJ:=n.ext GR e1 (fun z hz=>(d1 z hz).1)
  refine vs ?_
  obtain⟨f2,b2,z2⟩:=PO H1 71 [Value.int .i64 0,Value.int .u32 0] [i64 x,Value.int .u32 ((A.bM x+1:Nat):Int)]
  generalize (H1.new 71 [Value.int .i64 0,Value.int .u32 0]).wr H1.size [i64 x,Value.int .u32 ((A.bM x+1:Nat):Int)]=H2 at*
  have b3:=f2.own b1 (fun h=>h)
  have o2:=f2.own o1 (fun h=>h)
  have ni:=n.ext RJ f2 (fun _ _ h=>h)
  have m2:=m1.ext f2 (fun _ _ h=>h)
  refine ar.dec (fun _=>?_) (fun hh=>absurd trivial hh)
  refine v2 (ae o2) o2 ?_
  rw[UW (n:=q+1) (by omega) (by omega)]
  obtain⟨e4,o3⟩:=MZ o2 [i64 k,i64 d,ptr B.a,.iface t vv,u64 (q+1)]
  have QJ:=aB o2
  have Np:=e1.size
  have amD:=aB ho
  have b5:=e4.own b3 (fun e=>aR s ((hS s).2 (.inr (.inr rfl))) e.symm)
  have b6:=e4.own b2 (fun e=>by omega)
  have rF:=n.ext ni e4 (fun z hz=>(d1 z hz).2)
  have m3:=m2.ext e4 (fun z hz e=>d2 (by rw[←e];exact hz))
  generalize H2.wr s [i64 k,i64 d,ptr B.a,.iface t vv,u64 (q+1)]=H3 at*
  refine v2 (ae o3) (ae b6) ?_
  refine(n.insert g x key (q+1) rF).mono ?_
  obtain⟨c,C,cq⟩:=n.cells rF
  have Jl:¬df w.cs x:=fun h=>lJ ((IQ.live x).1 h)
  rintro _ H4 (⟨bO,_⟩| ⟨_,rfl,Ft,hi4,e5,Q1⟩)
  ·exact absurd ⟨hg,by rw[IQ.len];exact vO,Jl⟩ bO
  have hz4:=e4.size
  have IK:∀z,H.size≤z→¬Sn z:=fun z hz h=>by have:=fD z ((hS z).2 (.inl h));omega
  have b7:=e5.own b6 (IK _ (by omega))
  have b8:=e5.own b5 (IK _ (aqm _))
  refine v2 (ae b7) b8 ?_
  obtain⟨e9,b9⟩:=MZ b8 [i64 x,Value.int .u32 ((A.bM x+1:Nat):Int)]
  refine v1 (ae b9) ?_
  have o4:=e5.own o3 (fun h=>(d1 _ h).2 rfl)
  have m4:=m3.ext e5 (fun z hz h=>(d1 z h).1 hz)
  have AL:=m.slt
  have hz5:=e5.size
  have Fo:∀z,B.S z→z<H.size:=AL
  have M0:∀z,Ft z→Sn z∨H.size<z:=fun z hz=>(Q1 z hz).imp_right fun h=>by omega
  refine .inr ⟨x,A',hp,rfl,fun z=>Ft z∨B.S z∨z=s,⟨t,vv,I,Ft,B,k,d,n,n.ext hi4 e9 (fun z hz e=>?_),m4.ext e9 (fun z hz e=>?_),e9.own o4 (aR s ((hS s).2 (.inr (.inr rfl)))),fun z hz=>?_,d2,fun z=>Iff.rfl,?_⟩,?_,fun z hz=>?_⟩
  ·rcases M0 z hz with h|h
   ·exact IK z (by omega) h
   ·omega
  ·have:=Fo z hz;omega
  ·rcases M0 z hz with h|h
   ·exact d1 z h
   ·exact⟨fun h2=>by have:=Fo z h2;omega,by omega⟩
  ·refine IQ.put vO (v:=A.bM x+1) ?_
   have VB:A'.bM x=A.bM x:=by unfold Ar.bM;rw[hAg]
   show A'.g.set x.toNat (A'.bM x+1,true)=_
   rw[VB,hAg]
   exact aqv (fun b=>A.g.set x.toNat (A.bM x+1,b)) (aqp hg.1).symm
  ·have h1:ag S H H3:=((f0.mono fun _ _ h=>h.elim).trans (e1.mono fun z _ h=>(hS z).2 (.inr (.inl h)))).trans ((f2.mono fun _ _ h=>h.elim).trans (e4.mono fun z _ h=>(hS z).2 (.inr (.inr h))))
   have h2:=h1.trans (e5.mono fun z _ h=>(hS z).2 (.inl h))
   exact⟨aqW h2.size e9.size,fun z hz hn=>by rw[e9.aM z (aqw hz h2.size) (by omega),h2.aM z hz hn]⟩
  ·rcases hz with h|h
   ·rcases M0 z h with h|h
    ·exact .inl ((hS z).2 (.inl h))
    ·exact .inr (by omega)
   ·exact .inl ((hS z).2 (.inr h))
end
end Go.Proofs.YthpjfeolagohkaaGreat

namespace Go.Proofs.YthpjfeolagohkaaGreat
open Go Go.Vc
section
variable {H H' H1 H2 : Hp} {s : Nat} {S S1 : Nat → Prop} {w w2 : Nw} {A A2 : Ar} {q q2 : Int}
theorem Ap(l:Uo w A){g x:Int}(h:w.first g x):A.live x:=by
 obtain⟨h1,h2,_⟩:=bQ.1 h
 exact(l.live x).1 (bA.1 (by omega))
theorem IR(h:Fq H s S w A q){g:Int}(hg:w.has g):af Tryz.prog C1 [ptr s,i64 g] H fun v H'=>ax (
  (w.len g=0∧v= .tuple [gI 0 0,i64 172].toArray∧ON s S H H' w A q)∨(∃x,w.first g x∧v= .tuple [gI x (A.bM x),i64 0].toArray∧ON s S H H' w A q)):=by
 have fD:=h.slt
 obtain⟨t,vv,I,Sn,B,k,d,n,hi,m,ho,d1,d2,hS,IQ⟩:=h
 refine bm De ?_
 refine vs ?_
 have f0:ah H (H.new 71 [Value.int .i64 0,Value.int .u32 0]):=(ag.refl _ _).new _ _
 have b0:(H.new 71 [Value.int .i64 0,Value.int .u32 0]).own H.size=some [Value.int .i64 0,Value.int .u32 0]:=az _ _ _
 have z0:(H.new 71 [Value.int .i64 0,Value.int .u32 0]).size=H.size+1:=am _ _ _
 generalize H.new 71 [Value.int .i64 0,Value.int .u32 0]=H0 at*
 have m0:=m.ext f0 (fun _ _ h=>h)
 have GR:=n.ext hi f0 (fun _ _ h=>h)
 have o0:=f0.own ho (fun h=>h)
 have IK:∀z,H.size≤z→¬Sn z:=fun z hz h=>by have:=fD z ((hS z).2 (.inl h));omega
 have Fo:∀z,B.S z→z<H.size:=m.slt
 have hos:=aB ho
 refine v1 (ae o0) ?_
 refine(n.has g GR).mono ?_
 rintro _ _ ⟨rfl,rfl⟩
 rw[aqp hg]
 refine v1 (ae o0) ?_
 refine(n.min g GR).mono ?_
 have fin:∀ (H1 H2:Hp) (Ft:Nat→Prop),I H1 Ft w→ag Sn H0 H1→(∀z,Ft z→Sn z∨H0.size≤z)→ag (fun z=>z=H.size∨H1.size≤z) H1 H2→ON s S H H2 w A q:=fun H1 H2 Ft RJ e1 fh e2=>by
  have Np:=e1.size
  have ed:=e2.size
  refine⟨fun z=>Ft z∨B.S z∨z=s,⟨t,vv,I,Ft,B,k,d,n,n.ext RJ e2 (fun z hz e=>?_),(m0.ext e1 (fun z hz h=>(d1 z h).1 hz)).ext e2 (fun z hz e=>?_),e2.own (e1.own o0 (fun h=>(d1 _ h).2 rfl)) (fun e=>by omega),fun z hz=>?_,d2,fun z=>Iff.rfl,IQ⟩,?_,fun z hz=>?_⟩
  ·rcases e with e|e
   ·rcases fh z hz with h|h
    ·exact IK z (by omega) h
    ·omega
   ·have:=n.slt RJ z hz;omega
  ·have:=Fo z hz;omega
  ·rcases fh z hz with h|h
   ·exact d1 z h
   ·exact⟨fun h2=>by have:=Fo z h2;omega,by omega⟩
  ·have h1:ag S H H1:=(f0.mono fun _ _ h=>h.elim).trans (e1.mono fun z _ h=>(hS z).2 (.inl h))
   exact⟨aqW h1.size e2.size,fun z hz hn=>by rw[e2.aM z (aqw hz h1.size) (by omega),h1.aM z hz hn]⟩
  ·rcases hz with h|h
   ·rcases fh z h with h|h
    ·exact .inl ((hS z).2 (.inl h))
    ·exact .inr (by omega)
   ·exact .inl ((hS z).2 (.inr h))
 rintro _ H1 (⟨h0,rfl,Ft,RJ,e1,fh⟩| ⟨x,hx,rfl,Ft,RJ,e1,fh⟩)
 ·have b1:=e1.own b0 (IK _ (aqm _))
  refine v1 b1 ?_
  obtain⟨e4,b4⟩:=MZ b1 [Value.int .i64 0,Value.int .u32 0]
  refine v1 (ae b4) ?_
  exact .inl ⟨h0,rfl,fin H1 _ Ft RJ e1 fh (e4.mono fun z _ h=>.inl h)⟩
 ·have b1:=e1.own b0 (IK _ (aqm _))
  have o1:=e1.own o0 (fun h=>(d1 _ h).2 rfl)
  have m1:=m0.ext e1 (fun z hz h=>(d1 z h).1 hz)
  refine v1 (ae o1) ?_
  refine(IP m1 (Ap IQ hx)).mono ?_
  rintro _ H2 ⟨rfl,f2⟩
  have b2:=f2.own b1 (fun h=>h)
  refine vs ?_
  obtain⟨f3,b3,z3⟩:=PO H2 71 [Value.int .i64 0,Value.int .u32 0] [i64 x,Value.int .u32 ((A.bM x:Nat):Int)]
  generalize (H2.new 71 [Value.int .i64 0,Value.int .u32 0]).wr H2.size [i64 x,Value.int .u32 ((A.bM x:Nat):Int)]=H3 at*
  have b5:=f3.own b2 (fun h=>h)
  refine v2 (ae b3) b5 ?_
  obtain⟨e4,b4⟩:=MZ b5 [i64 x,Value.int .u32 ((A.bM x:Nat):Int)]
  refine v1 (ae b4) ?_
  exact .inr ⟨x,hx,rfl,fin H1 _ Ft RJ e1 fh (((f2.trans f3).mono fun _ _ h=>h.elim).trans (e4.mono fun z _ h=>.inl h))⟩
theorem yR(h:Fq H s S w A q){x:Int}(hx:A.live x):af Tryz.prog C2 [ptr s,gI x (A.bM x)] H fun v H'=>ax (∃y,w.cs[x.toNat]? =some y∧v= .tuple [uw y.2.1 y.2.2,i64 0].toArray∧ON s S H H' w A q):=by
 have fD:=h.slt
 obtain⟨t,vv,I,Sn,B,k,d,n,hi,m,ho,d1,d2,hS,IQ⟩:=h
 refine EL Df ⟨rfl,?_⟩
 refine v1 qH.eq_1 ?_
 have f0:ah H ((H.new 71 [i64 x,.int .u32 (A.bM x:Int)]).new 182 [Value.int .i64 0,Value.int .u64 0]):=((ag.refl _ _).new _ _).new _ _
 have b0:((H.new 71 [i64 x,.int .u32 (A.bM x:Int)]).new 182 [Value.int .i64 0,Value.int .u64 0]).own H.size=some [i64 x,.int .u32 (A.bM x:Int)]:=by
  rw[cA (by simp only[am];omega),az]
 have c0:((H.new 71 [i64 x,.int .u32 (A.bM x:Int)]).new 182 [Value.int .i64 0,Value.int .u64 0]).own (H.size+1)=some [Value.int .i64 0,Value.int .u64 0]:=bz (by simp only[am])
 have z0:((H.new 71 [i64 x,.int .u32 (A.bM x:Int)]).new 182 [Value.int .i64 0,Value.int .u64 0]).size=H.size+1+1:=by simp only[am]
 generalize (H.new 71 [i64 x,.int .u32 (A.bM x:Int)]).new 182 [Value.int .i64 0,Value.int .u64 0]=H0 at*
 have m0:=m.ext f0 (fun _ _ h=>h)
 have GR:=n.ext hi f0 (fun _ _ h=>h)
 have o0:=f0.own ho (fun h=>h)
 have IK:∀z,H.size≤z→¬Sn z:=fun z hz h=>by have:=fD z ((hS z).2 (.inl h));omega
 have Fo:∀z,B.S z→z<H.size:=m.slt
 have hos:=aB ho
 refine v2 (ae o0) (ae b0) ?_
 refine(tL m0 x (A.bM x)).mono ?_
 rintro _ H1 ⟨rfl,f1⟩
 rw[aqp ⟨hx,rfl⟩]
 have m1:=m0.ext f1 (fun _ _ h=>h)
 have RJ:=n.ext GR f1 (fun _ _ h=>h)
 have o1:=f1.own o0 (fun h=>h)
 have b1:=f1.own b0 (fun h=>h)
 have c1:=f1.own c0 (fun h=>h)
 have z1:=f1.size
 have bH:df w.cs x:=(IQ.live x).2 hx
 have fin:∀H2,I H2 Sn w→ag (fun z=>z=H.size+1∨H1.size≤z) H1 H2→ON s S H H2 w A q:=fun H2 ni e2=>by
  have h1:ag S H H1:=(f0.trans f1).mono fun _ _ h=>h.elim
  refine⟨S,⟨t,vv,I,Sn,B,k,d,n,ni,m1.ext e2 (fun z hz e=>by have:=Fo z hz;omega),e2.own o1 (fun e=>by omega),d1,d2,hS,IQ⟩,⟨aqW h1.size e2.size,fun z hz hn=>by rw[e2.aM z (aqw hz h1.size) (by omega),h1.aM z hz hn]⟩,fun z hz=>.inl hz⟩
 refine vs ?_
 refine gP.intro (fun H'=>H'.own s=some [i64 k,i64 d,ptr B.a,.iface t vv,u64 q]∧H'.own H.size=some [i64 x,.int .u32 (A.bM x:Int)]) ⟨o1,b1⟩ ?_
 refine vs ?_
 refine dP.intro (.iface t vv) (fun H' hI=>by refine v1 (ae hI.1) ?_;trivial) ?_
 refine vs ?_
 refine dP.intro (i64 x) (fun H' hI=>by refine v1 (ae hI.2) ?_;trivial) ?_
 refine vs ?_
 refine zg.intro ?_ ?_
 ·refine vs ?_
  refine(n.entry x RJ).mono ?_
  rintro _ H2 ⟨ni,f2,⟨bO,_⟩| ⟨_,y,hy,rfl⟩⟩
  ·exact absurd bH bO
  have o2:=f2.own o1 (fun h=>h)
  have b2:=f2.own b1 (fun h=>h)
  have c2:=f2.own c1 (fun h=>h)
  have z2:=f2.size
  refine And.intro ⟨o2,b2⟩ ?_
  refine vs ?_
  refine And.intro ⟨o2,b2⟩ ?_
  refine vs ?_
  refine And.intro ⟨o2,b2⟩ ?_
  refine vs ?_
  obtain⟨f3,b3,z3⟩:=PO H2 182 [Value.int .i64 0,Value.int .u64 0] [i64 y.2.1,u64 y.2.2]
  generalize (H2.new 182 [Value.int .i64 0,Value.int .u64 0]).wr H2.size [i64 y.2.1,u64 y.2.2]=H3 at*
  have c3:=f3.own c2 (fun h=>h)
  refine v2 (ae b3) c3 ?_
  obtain⟨e4,b4⟩:=MZ c3 [i64 y.2.1,u64 y.2.2]
  refine v1 (ae b4) ?_
  exact⟨y,hy,rfl,fin _ (n.ext (n.ext ni f3 (fun _ _ h=>h)) e4 (fun z hz e=>IK z (by omega) hz)) (((f2.trans f3).mono fun _ _ h=>h.elim).trans (e4.mono fun z _ h=>.inl h))⟩
 ·refine vs ?_
  refine And.intro ⟨o1,b1⟩ ?_
  have f4:ah H1 (H1.new 182 [Value.int .i64 0,Value.int .u64 0]):=(ag.refl _ _).new _ _
  have b4:(H1.new 182 [Value.int .i64 0,Value.int .u64 0]).own H1.size=some [Value.int .i64 0,Value.int .u64 0]:=az _ _ _
  have z4:(H1.new 182 [Value.int .i64 0,Value.int .u64 0]).size=H1.size+1:=am _ _ _
  generalize H1.new 182 [Value.int .i64 0,Value.int .u64 0]=H4 at*
  refine vs ?_
  refine(n.entry x (n.ext RJ f4 (fun _ _ h=>h))).mono ?_
  rintro _ H2 ⟨ni,f2,⟨bO,_⟩| ⟨_,y,hy,rfl⟩⟩
  ·exact absurd bH bO
  have o2:=f2.own (f4.own o1 (fun h=>h)) (fun h=>h)
  have b2:=f2.own (f4.own b1 (fun h=>h)) (fun h=>h)
  have c2:=f2.own (f4.own c1 (fun h=>h)) (fun h=>h)
  have b5:=f2.own b4 (fun h=>h)
  have z2:=f2.size
  refine And.intro ⟨o2,b2⟩ ?_
  refine v1 b5 ?_
  obtain⟨e6,b6⟩:=MZ b5 [i64 y.2.1,u64 y.2.2]
  have o6:=e6.own o2 (fun e=>by omega)
  have b26:=e6.own b2 (fun e=>by omega)
  have c6:=e6.own c2 (fun e=>by omega)
  have hn6:=n.ext ni e6 (fun z hz e=>IK z (by omega) hz)
  have e26:ag (fun z=>z=H.size+1∨H1.size≤z) H1 (H2.wr H1.size [i64 y.2.1,u64 y.2.2]):=((f4.trans f2).mono fun _ _ h=>h.elim).trans (e6.mono fun z _ h=>.inr (by omega))
  generalize H2.wr H1.size [i64 y.2.1,u64 y.2.2]=H6 at*
  first
   |refine And.intro ⟨o6,b26⟩ ?_
   |refine And.intro ⟨o2,b2⟩ ?_
  refine v2 (ae b6) c6 ?_
  obtain⟨e7,b7⟩:=MZ c6 [i64 y.2.1,u64 y.2.2]
  refine v1 (ae b7) ?_
  exact⟨y,hy,rfl,fin _ (n.ext hn6 e7 (fun z hz e=>IK z (by omega) hz)) (e26.trans (e7.mono fun z _ h=>.inl h))⟩
end
end Go.Proofs.YthpjfeolagohkaaGreat

namespace Go.Proofs.YthpjfeolagohkaaGreat
open Go Go.Vc
section
variable {H H' H1 H2 : Hp} {s : Nat} {S S1 : Nat → Prop} {w w2 : Nw} {A A2 : Ar} {q q2 : Int}
theorem Fq.tmp{b:Nat}{l:List Value}(h:Fq H1 s S1 w A q)(hb:¬S1 b):Fq (H1.wr b l) s S1 w A q:=h.ext ((ag.refl (fun x=>x=b) _).wr (fun _=>rfl) _:ag (fun x=>x=b) H1 _) (fun z hz e=>hb (by rw[←e];exact hz))
theorem FQ(h:Fq H2 s S1 w A q)(e:ag S H H2)(hs:∀z,S1 z→S z∨H.size≤z):ON s S H H2 w A q:=⟨S1,h,e,hs⟩
theorem FR{b:Nat}{l:List Value}(e:ag S H H1)(hb:H.size≤b):ag S H (H1.wr b l):=by
 have e2:ag (fun x=>x=b) H1 (H1.wr b l):=(ag.refl (fun x=>x=b) _).wr (fun _=>rfl) _
 exact⟨aqW e.size e2.size,fun z hz hn=>by rw[e2.aM z (aqw hz e.size) (by omega),e.aM z hz hn]⟩
theorem M1(h:Fq H s S w A q){g:Int}(hg:w.has g):af Tryz.prog Gs [ptr s,i64 g] H fun v H'=>ax (
  (w.len g=0∧v= .tuple [gI 0 0,i64 0,i64 172].toArray∧ON s S H H' w A q)∨(∃x y,w.first g x∧w.cs[x.toNat]? =some y∧v= .tuple [gI x (A.bM x),i64 y.2.1,i64 0].toArray∧ON s S H H' w A q)):=by
 have fD:=h.slt
 have IQ:=h.lnk.1
 refine bm Gy ?_
 refine vs ?_
 have f0:ah H (H.new 71 [Value.int .i64 0,Value.int .u32 0]):=(ag.refl _ _).new _ _
 have b0:(H.new 71 [Value.int .i64 0,Value.int .u32 0]).own H.size=some [Value.int .i64 0,Value.int .u32 0]:=az _ _ _
 have z0:(H.new 71 [Value.int .i64 0,Value.int .u32 0]).size=H.size+1:=am _ _ _
 generalize H.new 71 [Value.int .i64 0,Value.int .u32 0]=H0 at*
 have h0:=h.ext f0 (fun _ _ h=>h)
 have RN:∀z,H.size≤z→¬S z:=fun z hz h=>by have:=fD z h;omega
 refine(IR h0 hg).mono ?_
 rintro _ H1 (⟨Ww,rfl,S1,h1,e1,fh⟩| ⟨x,hx,rfl,S1,h1,e1,fh⟩)
 ·have b1:=e1.own b0 (RN _ (aqm _))
  have Np:=e1.size
  refine vs ?_
  obtain⟨f2,b2,z2⟩:=PO H1 71 [Value.int .i64 0,Value.int .u32 0] [i64 0,Value.int .u32 ((0:Nat):Int)]
  generalize (H1.new 71 [Value.int .i64 0,Value.int .u32 0]).wr H1.size [i64 0,Value.int .u32 ((0:Nat):Int)]=H2 at*
  have b3:=f2.own b1 (fun h=>h)
  refine ar.dec (fun hh=>by omega) (fun _=>?_)
  refine v1 b3 ?_
  obtain⟨e4,b4⟩:=MZ b3 [Value.int .i64 0,Value.int .u32 0]
  have e2:ag S H H2:=((f0.mono fun _ _ h=>h.elim).trans e1).trans (f2.mono fun _ _ h=>h.elim)
  have yL:¬S1 H.size:=fun h=>by rcases fh _ h with h|h;exact RN _ (aqm _) h;omega
  have h3:=((h1.ext f2 (fun _ _ h=>h)).tmp yL (l:=[Value.int .i64 0,Value.int .u32 0]))
  have e5:=FR (l:=[Value.int .i64 0,Value.int .u32 0]) e2 (aqm H.size)
  refine v1 (ae b4) ?_
  exact .inl ⟨Ww,rfl,FQ h3 e5 (fun z hz=>(fh z hz).imp_right fun h=>by omega)⟩
 ·have b1:=e1.own b0 (RN _ (aqm _))
  have Np:=e1.size
  have mH:=Ap IQ hx
  refine vs ?_
  obtain⟨f2,b2,z2⟩:=PO H1 71 [Value.int .i64 0,Value.int .u32 0] [i64 x,Value.int .u32 ((A.bM x:Nat):Int)]
  generalize (H1.new 71 [Value.int .i64 0,Value.int .u32 0]).wr H1.size [i64 x,Value.int .u32 ((A.bM x:Nat):Int)]=H2 at*
  have b3:=f2.own b1 (fun h=>h)
  have h2:=h1.ext f2 (fun _ _ h=>h)
  refine ar.dec (fun _=>?_) (fun hh=>absurd trivial hh)
  refine v1 (ae b2) ?_
  have YM:=h1.slt
  refine(yR h2 mH).mono ?_
  rintro _ H3 ⟨y,hy,rfl,S3,h3,e3,E6⟩
  have yL:¬S1 H.size:=fun h=>by rcases fh _ h with h|h;exact RN _ (aqm _) h;omega
  have GD:¬S1 H1.size:=fun h=>by have:=YM _ h;omega
  have b4:=e3.own b3 yL
  have c4:=e3.own b2 GD
  have SC:=e3.size
  refine vs ?_
  obtain⟨f5,b5,z5⟩:=PO H3 182 [Value.int .i64 0,Value.int .u64 0] [i64 y.2.1,u64 y.2.2]
  generalize (H3.new 182 [Value.int .i64 0,Value.int .u64 0]).wr H3.size [i64 y.2.1,u64 y.2.2]=H5 at*
  have b6:=f5.own b4 (fun h=>h)
  have c6:=f5.own c4 (fun h=>h)
  have h5:=h3.ext f5 (fun _ _ h=>h)
  have hn3:∀b,¬S1 b→b<H2.size→¬S3 b:=fun b hb oG h=>by rcases E6 _ h with h|h;exact hb h;omega
  have e5:ag S H H5:=by
   have e2:ag S H H2:=((f0.mono fun _ _ h=>h.elim).trans e1).trans (f2.mono fun _ _ h=>h.elim)
   have e3':ag S H H3:=⟨aqW e2.size e3.size,fun z hz hn=>by rw[e3.aM z (aqw hz e2.size) (fun h=>by rcases fh z h with h|h;exact hn h;omega),e2.aM z hz hn]⟩
   exact e3'.trans (f5.mono fun _ _ h=>h.elim)
  refine gP.intro (fun H'=>H'.own H3.size=some [i64 y.2.1,u64 y.2.2]) b5 ?_
  refine vs ?_
  refine dP.intro (i64 y.2.1) (fun H' hI=>by refine v1 (ae hI) ?_;trivial) ?_
  refine v1 (ae c6) ?_
  refine And.intro b5 ?_
  refine v1 b6 ?_
  obtain⟨e7,b7⟩:=MZ b6 [i64 x,Value.int .u32 ((A.bM x:Nat):Int)]
  have b57:=e7.own b5 (fun e=>by omega)
  first
   |refine And.intro b57 ?_
   |refine And.intro b5 ?_
  have h7:=h5.tmp (hn3 _ yL (by omega)) (l:=[i64 x,Value.int .u32 ((A.bM x:Nat):Int)])
  have e8:=FR (l:=[i64 x,Value.int .u32 ((A.bM x:Nat):Int)]) e5 (aqm H.size)
  refine v1 (ae b7) ?_
  refine .inr ⟨x,y,hx,hy,rfl,FQ h7 e8 (fun z hz=>?_)⟩
  rcases E6 z hz with h|h
  ·exact(fh z h).imp_right fun h=>by omega
  ·exact .inr (by omega)
theorem Q2{g x x':Int}(h:w.first g x)(h':w.first g x'):x'=x:=by
 obtain⟨_,h2,h3⟩:=bQ.1 h
 obtain⟨_,h5,h6⟩:=bQ.1 h'
 apply aqt
 intro aR
 have:=(aw w).asym (h3 x' h5 aR)
 rw[h6 x h2 (Ne.symm aR)]at this
 cases this
theorem Aq(h:Fq H s S w A q){g:Int}(hg:w.has g):af Tryz.prog jI [ptr s,i64 g] H fun v H'=>ax (
  (w.len g=0∧v= .tuple [gI 0 0,i64 0,i64 172].toArray∧ON s S H H' w A q)∨(∃x y,w.first g x∧w.cs[x.toNat]? =some y∧v= .tuple [gI x (A.bM x),i64 y.2.1,i64 0].toArray∧ON s S H H' (w.put x (0,0,0)) (A.back x) q)):=by
 have fD:=h.slt
 have IQ:=h.lnk.1
 refine bm uf ?_
 refine vs ?_
 have f0:ah H (H.new 71 [Value.int .i64 0,Value.int .u32 0]):=(ag.refl _ _).new _ _
 have b0:(H.new 71 [Value.int .i64 0,Value.int .u32 0]).own H.size=some [Value.int .i64 0,Value.int .u32 0]:=az _ _ _
 have z0:(H.new 71 [Value.int .i64 0,Value.int .u32 0]).size=H.size+1:=am _ _ _
 generalize H.new 71 [Value.int .i64 0,Value.int .u32 0]=H0 at*
 have h0:=h.ext f0 (fun _ _ h=>h)
 have RN:∀z,H.size≤z→¬S z:=fun z hz h=>by have:=fD z h;omega
 refine(M1 h0 hg).mono ?_
 rintro _ H1 (⟨Ww,rfl,S1,h1,e1,fh⟩| ⟨x,y,hx,hy,rfl,S1,h1,e1,fh⟩)
 ·have b1:=e1.own b0 (RN _ (aqm _))
  have Np:=e1.size
  refine vs ?_
  obtain⟨f2,b2,z2⟩:=PO H1 71 [Value.int .i64 0,Value.int .u32 0] [i64 0,Value.int .u32 ((0:Nat):Int)]
  generalize (H1.new 71 [Value.int .i64 0,Value.int .u32 0]).wr H1.size [i64 0,Value.int .u32 ((0:Nat):Int)]=H2 at*
  have b3:=f2.own b1 (fun h=>h)
  refine ar.dec (fun hh=>by omega) (fun _=>?_)
  refine v1 b3 ?_
  obtain⟨e4,b4⟩:=MZ b3 [Value.int .i64 0,Value.int .u32 0]
  have e2:ag S H H2:=((f0.mono fun _ _ h=>h.elim).trans e1).trans (f2.mono fun _ _ h=>h.elim)
  have yL:¬S1 H.size:=fun h=>by rcases fh _ h with h|h;exact RN _ (aqm _) h;omega
  have h3:=((h1.ext f2 (fun _ _ h=>h)).tmp yL (l:=[Value.int .i64 0,Value.int .u32 0]))
  have e5:=FR (l:=[Value.int .i64 0,Value.int .u32 0]) e2 (aqm H.size)
  refine v1 (ae b4) ?_
  exact .inl ⟨Ww,rfl,FQ h3 e5 (fun z hz=>(fh z hz).imp_right fun h=>by omega)⟩
 ·have b1:=e1.own b0 (RN _ (aqm _))
  have Np:=e1.size
  have mH:=Ap IQ hx
  refine vs ?_
  obtain⟨f2,b2,z2⟩:=PO H1 71 [Value.int .i64 0,Value.int .u32 0] [i64 x,Value.int .u32 ((A.bM x:Nat):Int)]
  generalize (H1.new 71 [Value.int .i64 0,Value.int .u32 0]).wr H1.size [i64 x,Value.int .u32 ((A.bM x:Nat):Int)]=H2 at*
  have b3:=f2.own b1 (fun h=>h)
  have YM:=h1.slt
  have h2:=h1.ext f2 (fun _ _ h=>h)
  have yL:¬S1 H.size:=fun h=>by rcases fh _ h with h|h;exact RN _ (aqm _) h;omega
  have GD:¬S1 H1.size:=fun h=>by have:=YM _ h;omega
  obtain⟨t,vv,I,Sn,B,k,d,n,hi,m,ho,d1,d2,hS,_⟩:=h2
  refine ar.dec (fun _=>?_) (fun hh=>absurd trivial hh)
  refine v1 (ae ho) ?_
  refine(n.extract g hi).mono ?_
  have Fo:∀z,B.S z→z<H2.size:=m.slt
  have hos:=aB ho
  rintro _ H3 (⟨Ww,_⟩| ⟨x',xX,rfl,Ft,rF,e3,E6⟩)
  ·exfalso
   obtain⟨Tg,PP,_⟩:=bQ.1 hx
   exact(vG Tg).1 Ww x PP
  obtain rfl:=Q2 hx xX
  have Dx:=e3.own ho (fun h=>(d1 _ h).2 rfl)
  have b4:=e3.own b3 (fun h=>yL ((hS _).2 (.inl h)))
  have c4:=e3.own b2 (fun h=>GD ((hS _).2 (.inl h)))
  have m3:=m.ext e3 (fun z hz h=>(d1 z h).1 hz)
  have SC:=e3.size
  refine v2 (ae Dx) (ae c4) ?_
  refine(Fp m3 mH).mono ?_
  rintro _ H4 ⟨rfl,Tf,m4,e4,RL⟩
  have nB1:¬B.S H.size:=fun h=>yL ((hS _).2 (.inr (.inl h)))
  have nB2:¬B.S H1.size:=fun h=>GD ((hS _).2 (.inr (.inl h)))
  have b5:=e4.own b4 nB1
  have c5:=e4.own c4 nB2
  have Yh:=e4.own Dx d2
  have hz4:=e4.size
  refine v2 (ae c5) b5 ?_
  obtain⟨e6,b6⟩:=MZ b5 [i64 x',Value.int .u32 ((A.bM x':Nat):Int)]
  refine v1 (ae b6) ?_
  have M0:∀z,Ft z→Sn z∨H2.size≤z:=E6
  have hB':∀z,(VA.mk B.a B.sb Tf).S z→B.S z∨H3.size≤z:=fun z hz=>by
   rcases hz with h|h|h
   ·exact .inl (.inl h)
   ·exact .inl (.inr (.inl h))
   ·exact(RL z h).imp_left fun h=>.inr (.inr h)
  have hiT:I H4 Ft (w.put x' (0,0,0)):=n.ext rF e4 (fun z hz hb=>by
   rcases M0 z hz with h|h
   ·exact(d1 z h).1 hb
   ·have:=Fo z hb;omega)
  have ac6:=fun z hz=>n.slt rF z hz
  have nn1:∀b,¬S1 b→b<H2.size→¬Ft b∧¬ (VA.mk B.a B.sb Tf).S b:=fun b hb oG=>by
   refine⟨fun h=>?_,fun h=>?_⟩
   ·rcases M0 b h with h|h
    ·exact hb ((hS b).2 (.inl h))
    ·omega
   ·rcases hB' b h with h|h
    ·exact hb ((hS b).2 (.inr (.inl h)))
    ·omega
  have ahA:H.size≠s:=fun e=>yL ((hS _).2 (.inr (.inr e)))
  have vO:=Ar.AN mH
  have uO:Fq H4 s (fun z=>Ft z∨(VA.mk B.a B.sb Tf).S z∨z=s) (w.put x' (0,0,0)) (A.back x') q:=by
   refine⟨t,vv,I,Ft,⟨B.a,B.sb,Tf⟩,k,d,n,hiT,m4,Yh,fun z hz=>?_,fun h=>?_,fun z=>Iff.rfl,IQ.put vO rfl⟩
   ·rcases M0 z hz with h|h
    ·refine⟨fun hb=>?_,(d1 z h).2⟩
     rcases hB' z hb with h2|h2
     ·exact(d1 z h).1 h2
     ·have:=ac6 z hz;omega
    ·refine⟨fun hb=>?_,fun e=>by omega⟩
     rcases hB' z hb with h2|h2
     ·have:=Fo z h2;omega
     ·have:=ac6 z hz;omega
   ·rcases hB' _ h with h2|h2
    ·exact d2 h2
    ·omega
  have ahB:=uO.tmp (b:=H.size) (l:=[i64 x',Value.int .u32 ((A.bM x':Nat):Int)]) (fun h=>by
   obtain⟨q1,q2⟩:=nn1 _ yL (by omega)
   rcases h with h|h|h
   ·exact q1 h
   ·exact q2 h
   ·exact ahA h)
  have e04:ag S H H4:=by
   have e2:ag S H H2:=((f0.mono fun _ _ h=>h.elim).trans e1).trans (f2.mono fun _ _ h=>h.elim)
   exact⟨by have:=e2.size;omega,fun z hz hn=>by
    have ed:=e2.size
    have YN:¬S1 z:=fun h=>by rcases fh z h with h|h;exact hn h;omega
    rw[e4.aM z (by omega) (fun h=>YN ((hS z).2 (.inr (.inl h)))),e3.aM z (by omega) (fun h=>YN ((hS z).2 (.inl h))),e2.aM z hz hn]⟩
  have ed:=f2.size
  refine .inr ⟨x',y,hx,hy,rfl,FQ ahB (FR e04 (aqm _)) (fun z hz=>?_)⟩
  have Lj:S1 z∨H2.size≤z:=by
   rcases hz with h|h|h
   ·rcases M0 z h with h|h
    ·exact .inl ((hS z).2 (.inl h))
    ·exact .inr h
   ·rcases hB' z h with h|h
    ·exact .inl ((hS z).2 (.inr (.inl h)))
    ·exact .inr (by omega)
   ·exact .inl ((hS z).2 (.inr (.inr h)))
  rcases Lj with h|h
  ·exact(fh z h).imp_right fun h=>by omega
  ·exact .inr (by omega)
end
end Go.Proofs.YthpjfeolagohkaaGreat

namespace Go.Proofs.YthpjfeolagohkaaGreat
open Go Go.Vc
abbrev OO(kd dd:Int):Value:=.agg [i64 kd,i64 dd].toArray
def jw(kd dd:Int):Prop:=(1≤kd∧kd≤8)∧((kd=2∧2≤dd∧dd≤16)∨(kd≠2∧dd=0))
instance(kd dd:Int):Decidable (jw kd dd):=by unfold jw;exact inferInstance
def Up(kd dd:Int):Int:=if kd<1∨8<kd then 21 else if jw kd dd then 0 else 22
theorem Th{kd dd:Int}(h:kd<1∨8<kd):Up kd dd=21:=by unfold Up;rw[if_pos h]
theorem Q3{kd dd:Int}(h:jw kd dd):Up kd dd=0:=by
 have:=h.1
 unfold Up
 rw[if_neg (by omega),if_pos h]
theorem Ti{kd dd:Int}(h1:¬ (kd<1∨8<kd))(h:¬jw kd dd):Up kd dd=22:=by unfold Up;rw[if_neg h1,if_neg h]
theorem M2{kd dd:Int}:Up kd dd=0↔jw kd dd:=by
 constructor
 ·intro h
  apply aqt
  intro hn
  by_cases h1:kd<1∨8<kd
  ·rw[Th h1]at h;cases h
  ·rw[Ti h1 hn]at h;cases h
 ·exact Q3
theorem ot(kd dd:Int)(H:Hp):af Tryz.prog Ig [OO kd dd] H fun v H'=>ax (v=i64 (Up kd dd)∧ah H H'):=by
 refine bm It ?_
 refine vs ?_
 have f0:ah H (H.new 23 [i64 kd,i64 dd]):=(ag.refl _ _).new _ _
 repeat' (refine ar.dec (fun _=>?_) (fun _=>?_)<;>try(refine v1 aqZ ?_))
 all_goals
  first
   | (exfalso;omega)
   | (refine⟨?_,f0⟩;exact(aqv i64 (Th (by omega))).symm)
   | (refine⟨?_,f0⟩;exact(aqv i64 (Q3 (by unfold jw;omega))).symm)
   | (refine⟨?_,f0⟩;exact(aqv i64 (Ti (by omega) (by unfold jw;omega))).symm)
theorem G6(kd dd:Int)(H:Hp):af Tryz.prog Ie [OO kd dd] H fun v H'=>ax (v=i64 (Up kd dd)∧ah H H'):=by
 refine bm Ir ?_
 refine vs ?_
 have f0:ah H (H.new 23 [i64 kd,i64 dd]):=(ag.refl _ _).new _ _
 repeat' (refine ar.dec (fun _=>?_) (fun _=>?_)<;>try(refine v1 aqZ ?_))
 all_goals
  first
   | (exfalso;omega)
   | (refine⟨?_,f0⟩;exact(aqv i64 (Th (by omega))).symm)
   | (refine⟨?_,f0⟩;exact(aqv i64 (Q3 (by unfold jw;omega))).symm)
   | (refine⟨?_,f0⟩;exact(aqv i64 (Ti (by omega) (by unfold jw;omega))).symm)
theorem ph{kd dd:Int}(hf:jw kd dd)(hk:kd=1∨kd=2)(H:Hp):af Tryz.prog Ii [OO kd dd] H fun v H'=>ax (v=i64 (if kd=1 then 2 else dd)∧ah H H'):=by
 refine bm Ix ?_
 refine vs ?_
 have f0:ah H (H.new 23 [i64 kd,i64 dd]):=(ag.refl _ _).new _ _
 have o0:(H.new 23 [i64 kd,i64 dd]).own H.size=some [i64 kd,i64 dd]:=az _ _ _
 generalize H.new 23 [i64 kd,i64 dd]=H0 at*
 refine(ot kd dd H0).mono ?_
 rintro _ H1 ⟨rfl,f1⟩
 have o1:=f1.own o0 (fun h=>h)
 rw[Q3 hf]
 refine v2 (ae o1) aqZ ?_
 rcases hk with rfl|rfl
 ·refine ar.cP (by decide) ?_
  refine v2 (ae o1) aqZ ?_
  exact⟨rfl,f0.trans f1⟩
 ·refine ar.aW (by decide) ?_
  refine v2 (ae o1) aqZ ?_
  exact⟨rfl,f0.trans f1⟩
end Go.Proofs.YthpjfeolagohkaaGreat
