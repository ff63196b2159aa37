/- Texts put behind each other. -/
import Derived.Test.YthpjfeolagohkaaGreatK98
import Derived.Test.YthpjfeolagohkaaGreatK12
import Derived.Test.YthpjfeolagohkaaGreatK19
import Derived.Test.YthpjfeolagohkaaGreatK21
import Derived.Test.YthpjfeolagohkaaGreatK24
import Derived.Test.YthpjfeolagohkaaGreatK26
import Derived.Test.YthpjfeolagohkaaGreatK28
set_option maxRecDepth 100000
set_option maxHeartbeats 8000000
set_option linter.unusedVariables false
set_option linter.unusedSimpArgs false
namespace Go.Proofs.YthpjfeolagohkaaGreat
open Go Go.Vc
section
variable {H H' : Hp} {B : US} {A A' : Ar} {T : Nat → Prop} {x : Int}
theorem EA(m:JU H B A):af Tryz.prog yd [ptr B.a] H fun v H'=>ar (
  (A.pick=none∧v= .tuple [i64 0,.bool false].toArray∧H'=H)∨(∃x A',A.pick=some (x,A')∧v= .tuple [i64 x,.bool true].toArray∧JU H' B A'∧ag (fun z=>z=B.a) H H')):=by
 obtain⟨tv,o1,s1⟩:=m.own
 obtain⟨wa,wc,rfl⟩:=Sl.shape s1
 have TT:=m.wtl.1
 have dq:=m.len
 have ET:=m.ok.nx
 refine aZ yF ?_
 refine v1 (ae o1) ?_
 refine ai.dec (fun h0=>?_) (fun h0=>?_)
 ·have aQ:A.wt≠[]:=fun h=>by rw[h]at h0;simp at h0
  obtain⟨k,hk⟩:∃k,A.wt.length=k+1:=⟨A.wt.length - 1,by omega⟩
  obtain⟨x,hx⟩:∃x,A.wt[k]? =some x:=⟨_,aop (by omega)⟩
  have eT:A.wt.getLastD 0=x:=by
   rw[List.getLastD_eq_getLast?,List.getLast?_eq_getElem?,hk,aql,hx]
   rfl
  have hdl:A.wt.dropLast=A.wt.take k:=by rw[ap2,hk,aql]
  have UT:A.pick=some (x,{A with wt:=A.wt.take k}):=by
   unfold Ar.pick
   rw[if_pos aQ,eT,hdl]
  obtain⟨b,lb,c,IL,Re,qb,qk,_,_,_⟩:∃b lb c,Value.slice wa A.wt.length wc= .slice (some ⟨b,0,none⟩) A.wt.length c∧B.fo=some b∧H.own b=some lb∧lb[k]? =some (i64 x)∧k<A.wt.length∧A.wt.length≤lb.length∧True:=by
   obtain⟨h1,b,lb,rfl,q2,q3⟩:=Sl.zg s1 hx
   have rQ:=s1
   revert rQ
   cases Re:B.fo with
   |none=>intro rQ;have:=rQ.2.2;injection this with h1;cases h1
   |some b'=>
    intro rQ
    obtain⟨_,Wd,c',hs,ho,hc,rS,_⟩:=rQ
    injection hs with et ME G0
    injection et with et
    injection et with et
    subst et G0
    rw[q2]at ho
    injection ho with ho
    subst ho
    exact⟨b,lb,wc,rfl,rfl,q2,q3,h1,by omega,trivial⟩
  injection IL with et ME G0
  subst et G0
  obtain⟨_,Wd,c',hs,ho,hc,rS,ht⟩:(A.wt.map i64).length=A.wt.length*1∧∃l c',Value.slice (some ⟨b,0,none⟩) A.wt.length wc= .slice (some ⟨b,0,none⟩) A.wt.length c'∧H.own b=some l∧A.wt.length≤c'∧c'*1≤l.length∧l.take (A.wt.length*1)=A.wt.map i64:=by
   have:=s1
   rw[Re]at this
   exact this
  injection hs with _ _ hs
  subst hs
  rw[qb]at ho
  injection ho with ho
  subst ho
  rw[aos]at rS ht
  refine v1 (ae o1) ?_
  rw[wrap64 (n:=(A.wt.length:Int) - 1) (by omega) (by omega)]
  refine⟨⟨by omega,by omega⟩,?_⟩
  rw[show((A.wt.length:Int) - 1).toNat=k by omega]
  refine v5 (ae qb) aor aos qk (ae o1) ?_
  rw[wrap64 (n:=(A.wt.length:Int) - 1) (by omega) (by omega)]
  refine⟨⟨by omega,by omega,by omega,by omega⟩,?_⟩
  refine v1 o1 ?_
  rw[if_neg (show¬ (wc:Int)=((0:Nat):Int) by omega)]
  have e1:∀l,ag (fun z=>z=B.a) H (H.wr B.a l):=fun l=>(ag.refl (fun z=>z=B.a) _).wr (fun _=>rfl) _
  have HF:(A.wt.take k).length=k:=by rw[aoS];omega
  refine .inr ⟨x,_,UT,rfl,⟨⟨_,ah o1,?_⟩,(e1 _).own m.sl (Ne.symm m.ne.1),m.ne,m.len,⟨fun y hy=>m.ok.wl y (List.mem_of_mem_take hy),m.ok.wd.sublist (List.take_sublist _ _),m.ok.fr,m.ok.ct,m.ok.nx⟩,m.gs,m.mo⟩,e1 _⟩
  have hb:b≠B.a:=fun e=>m.ne.2.1 (by rw[Re,e])
  refine⟨by simp,?_⟩
  rw[Re]
  refine⟨lb,wc,?_,(e1 _).own qb hb,by rw[HF];omega,by rw[aos];exact rS,?_⟩
  ·rw[HF,show((A.wt.length:Int) - 1).toNat - ((0:Nat):Int).toNat=k by omega]
   simp[Addr.add]
  ·rw[aos,aqz,←ht,aqu]
   congr 1
   rw[HF]
   omega
 ·refine v1 (ae o1) ?_
  have he:A.wt=[]:=ao4.1 (by omega)
  refine ai.dec (fun h1=>?_) (fun h1=>?_)
  ·refine vs ?_
   refine .inl ⟨?_,rfl,rfl⟩
   unfold Ar.pick
   rw[if_neg (by simp[he]),if_pos (by omega)]
  ·refine v2 (ae o1) o1 ?_
   rw[wrap64 (n:=(A.nx:Int)+1) (by omega) (by omega)]
   have e1:∀l,ag (fun z=>z=B.a) H (H.wr B.a l):=fun l=>(ag.refl (fun z=>z=B.a) _).wr (fun _=>rfl) _
   have q1:∀l,(H.wr B.a l).own B.a=some l:=fun l=>ah o1
   simp(disch:=(first|omega| (simp only[Zs]<;>omega)|fail)) only[go_sem, ↓reduceIte,Zv,ae (q1 _)]
   rw[wrap64 (n:=(A.nx:Int)+1 - 1) (by omega) (by omega)]
   have UT:A.pick=some ((A.nx:Int),{A with nx:=A.nx+1}):=by
    unfold Ar.pick
    rw[if_neg (by simp[he]),if_neg (by omega)]
   rw[show(A.nx:Int)+1 - 1=(A.nx:Int) by omega]
   refine .inr ⟨_,_,UT,rfl,⟨⟨.slice wa A.wt.length wc,q1 _,s1.ext (e1 _) (fun b hb e=>m.ne.2.1 (by rw[hb,e]))⟩,(e1 _).own m.sl (Ne.symm m.ne.1),m.ne,m.len,⟨fun y hy=>by have:=m.ok.wl y hy;exact⟨this.1,by simp only;omega,this.2.2⟩,m.ok.wd,fun y hy=>m.ok.fr y (by simp only at hy;omega),m.ok.ct,by simp only;omega⟩,m.gs,m.mo⟩,e1 _⟩
theorem EB(m:JU H B A)(X5:∀x:Int,0≤x→x<A.g.length→A.bV x<4294967295):af Tryz.prog yb [ptr B.a] H fun v H'=>ar (
  (A.pick=none∧v= .tuple [gU 0 0,i64 32].toArray∧JU H' B A∧am H H')∨(∃x A',A.pick=some (x,A')∧v= .tuple [gU x (A.bV x+1),i64 0].toArray∧JU H' B (A'.out x)∧ag B.S H H')):=by
 have eW:=m.slt
 refine aZ yE ?_
 refine vs ?_
 have f0:am H (H.new 71 [Value.int .i64 0,Value.int .u32 0]):=(ag.refl _ _).new _ _
 have b0:(H.new 71 [Value.int .i64 0,Value.int .u32 0]).own H.size=some [Value.int .i64 0,Value.int .u32 0]:=aD _ _ _
 have m0:=m.ext f0 (fun _ _ h=>h)
 generalize H.new 71 [Value.int .i64 0,Value.int .u32 0]=H0 at*
 have EC:∀z,B.S z→z≠H.size:=fun z hz=>by have:=eW z hz;omega
 refine(EA m0).mono ?_
 rintro _ H1 (⟨hp,rfl,e⟩| ⟨x,A',hp,rfl,m1,e1⟩)
 ·obtain rfl:=e.symm
  refine v1 b0 ?_
  have e1:ag (fun z=>z=H.size) H0 (H0.wr H.size [Value.int .i64 0,Value.int .u32 0]):=(ag.refl (fun z=>z=H.size) _).wr (fun _=>rfl) _
  have b1:(H0.wr H.size [Value.int .i64 0,Value.int .u32 0]).own H.size=some [Value.int .i64 0,Value.int .u32 0]:=ah b0
  refine v1 (ae b1) ?_
  exact .inl ⟨hp,rfl,m0.ext e1 (fun z hz e=>EC z hz e),f0.then e1 (fun z hz=>by omega)⟩
 obtain⟨uN,nL,Zp,G6,hg,hct,hmo⟩:=Ar.zI hp m.ok
 have b1:=e1.own b0 (fun e=>EC B.a (.inl rfl) e.symm)
 obtain⟨CW,o1,s1⟩:=m1.own
 have dq:=m1.len
 have abQ:0≤x∧x<A'.g.length:=by rw[hg];exact uN
 obtain⟨b,hb,Dt⟩:=Ar.get (A:=A') abQ
 have UU:A'.bV x=A.bV x:=by unfold Ar.bV;rw[hg]
 have hgb:=X5 x uN.1 uN.2
 obtain⟨c1,c2⟩:=uK hb
 obtain⟨w1,_⟩:=CX hb
 have hl:=qd A'.g
 refine v1 (ae o1) ?_
 refine⟨⟨by omega,by omega⟩,?_⟩
 refine v5 (ae m1.sl) m1.sl aor Nat.add_zero c1 ?_
 refine⟨by omega,?_⟩
 rw[Ut (n:=(A'.bV x:Int)+1) (by omega) (by omega),show(A'.bV x:Int)+1=((A'.bV x+1:Nat):Int) by omega]
 refine v1 w1 ?_
 have e2:ag (fun z=>z=B.sb) H1 (H1.wr B.sb (dm (A'.g.set x.toNat (A'.bV x+1,b)))):=(ag.refl (fun z=>z=B.sb) _).wr (fun _=>rfl) _
 have q2:(H1.wr B.sb (dm (A'.g.set x.toNat (A'.bV x+1,b)))).own B.sb=some (dm (A'.g.set x.toNat (A'.bV x+1,b))):=ah m1.sl
 generalize H1.wr B.sb (dm (A'.g.set x.toNat (A'.bV x+1,b)))=H2 at*
 have qv:(A'.g.set x.toNat (A'.bV x+1,b))[x.toNat]? =some (A'.bV x+1,b):=aox (by omega)
 obtain⟨d1,_⟩:=uK qv
 have w2:=(CX qv).2 true
 rw[List.set_set]at w2
 have sE:=qd (A'.g.set x.toNat (A'.bV x+1,b))
 rw[aot]at sE
 refine v3 q2 aor Nat.add_zero ?_
 refine⟨by omega,?_⟩
 refine v1 w2 ?_
 have e3:ag (fun z=>z=B.sb) H2 (H2.wr B.sb (dm (A'.g.set x.toNat (A'.bV x+1,true)))):=(ag.refl (fun z=>z=B.sb) _).wr (fun _=>rfl) _
 have q3:(H2.wr B.sb (dm (A'.g.set x.toNat (A'.bV x+1,true)))).own B.sb=some (dm (A'.g.set x.toNat (A'.bV x+1,true))):=ah q2
 generalize H2.wr B.sb (dm (A'.g.set x.toNat (A'.bV x+1,true)))=H3 at*
 have Ex:=e2.trans e3
 have o3:=Ex.own o1 m.ne.1
 have afV:=m1.ok.ct
 have abR:=Ar.OC A'
 refine v2 (ae o3) o3 ?_
 rw[wrap64 (n:=A'.ct+1) (by omega) (by omega)]
 have e4:∀l,ag (fun z=>z=B.a) H3 (H3.wr B.a l):=fun l=>(ag.refl (fun z=>z=B.a) _).wr (fun _=>rfl) _
 have q4:∀l,(H3.wr B.a l).own B.a=some l:=fun l=>ah o3
 have Rf:=(e4 [.slice (some ⟨B.sb,0,none⟩) A'.g.length A'.g.length,CW,i64 A'.nx,i64 (A'.ct+1),.int .u32 (A'.mo:Int)]).own q3 (Ne.symm m.ne.1)
 have b3:=(e4 [.slice (some ⟨B.sb,0,none⟩) A'.g.length A'.g.length,CW,i64 A'.nx,i64 (A'.ct+1),.int .u32 (A'.mo:Int)]).own (Ex.own b1 (fun e=>EC B.sb (.inr (.inl rfl)) e.symm)) (fun e=>EC B.a (.inl rfl) e.symm)
 have Q9:(A'.g.set x.toNat (A'.bV x+1,true))[x.toNat]? =some (A'.bV x+1,true):=aox (by omega)
 obtain⟨d3,_⟩:=uK Q9
 have s4:=(s1.ext Ex (fun b hb e=>m.ne.2.2 (by rw[hb,e]))).ext (e4 [.slice (some ⟨B.sb,0,none⟩) A'.g.length A'.g.length,CW,i64 A'.nx,i64 (A'.ct+1),.int .u32 (A'.mo:Int)]) (fun b hb e=>m.ne.2.1 (by rw[hb,e]))
 have m4:JU (H3.wr B.a [.slice (some ⟨B.sb,0,none⟩) A'.g.length A'.g.length,CW,i64 A'.nx,i64 (A'.ct+1),.int .u32 (A'.mo:Int)]) B (A'.out x):=by
  refine⟨⟨CW,?_,s4⟩,Rf,m.ne,?_,m1.ok.out hg abQ (fun h=>nL (by unfold Ar.live at h ⊢;rw[hg]at h;exact h)) Zp G6,fun y hy=>?_,m1.mo⟩
  ·show _=some [.slice (some ⟨B.sb,0,none⟩) (A'.g.set x.toNat (A'.bV x+1,true)).length (A'.g.set x.toNat (A'.bV x+1,true)).length,CW,i64 A'.nx,i64 (A'.ct+1),.int .u32 (A'.mo:Int)]
   rw[aot]
   exact q4 _
  ·show(A'.g.set x.toNat (A'.bV x+1,true)).length≤_
   rw[aot];exact dq
  ·rcases apR hy with h|h
   ·exact m1.gs y h
   ·rw[h];simp only;omega
 have e4':=e4 [.slice (some ⟨B.sb,0,none⟩) A'.g.length A'.g.length,CW,i64 A'.nx,i64 (A'.ct+1),.int .u32 (A'.mo:Int)]
 generalize H3.wr B.a [.slice (some ⟨B.sb,0,none⟩) A'.g.length A'.g.length,CW,i64 A'.nx,i64 (A'.ct+1),.int .u32 (A'.mo:Int)]=H4 at*
 have zB:ag B.S H H4:=((f0.mono fun _ _ h=>h.elim).trans (e1.mono fun z _ h=>.inl h)).trans ((Ex.mono fun z _ h=>.inr (.inl h)).trans (e4'.mono fun z _ h=>.inl h))
 refine v5 (ae Rf) aor Nat.add_zero d3 b3 ?_
 have e5:ag (fun z=>z=H.size) H4 (H4.wr H.size [Value.int .i64 x,Value.int .u32 ((A'.bV x+1:Nat):Int)]):=(ag.refl (fun z=>z=H.size) _).wr (fun _=>rfl) _
 have b5:(H4.wr H.size [Value.int .i64 x,Value.int .u32 ((A'.bV x+1:Nat):Int)]).own H.size=some [Value.int .i64 x,Value.int .u32 ((A'.bV x+1:Nat):Int)]:=ah b3
 refine v1 (ae b5) ?_
 refine .inr ⟨x,A',hp,by rw[UU];rfl,m4.ext e5 (fun z hz e=>EC z hz e),⟨apc zB.size e5.size,fun z hz hn=>?_⟩⟩
 rw[e5.aG z (aoO hz zB.size) (fun e=>by omega),zB.aG z hz hn]
theorem ED(m:JU H B A){x:Int}(hx:A.live x):af Tryz.prog xV [ptr B.a,gU x (A.bV x)] H fun v H'=>ar (v=i64 0∧∃SQ,JU H' ⟨B.a,B.sb,SQ⟩ (A.back x)∧ag B.S H H'∧∀z,SQ=some z→B.fo=some z∨H.size≤z):=by
 have eW:=m.slt
 have uN:=Ar.zH hx
 obtain⟨b,hb,Dt⟩:=Ar.get (A:=A) uN
 obtain rfl:=Dt.1 hx
 have hl:=qd A.g
 have w1:=(CX hb).2 false
 have dq:=m.len
 have afV:=m.ok.ct
 have abR:=Ar.OC A
 refine Kw yx ⟨rfl,?_⟩
 refine v1 mP.eq_1 ?_
 have f0:am H (H.new 71 [i64 x,.int .u32 (A.bV x:Int)]):=(ag.refl _ _).new _ _
 have b0:(H.new 71 [i64 x,.int .u32 (A.bV x:Int)]).own H.size=some [i64 x,.int .u32 (A.bV x:Int)]:=aD _ _ _
 have m0:=m.ext f0 (fun _ _ h=>h)
 generalize H.new 71 [i64 x,.int .u32 (A.bV x:Int)]=H0 at*
 have EC:∀z,B.S z→z≠H.size:=fun z hz=>by have:=eW z hz;omega
 refine(sm m0 x (A.bV x)).mono ?_
 rintro _ H1 ⟨rfl,f1⟩
 rw[aoE ⟨hx,rfl⟩]
 have m1:=m0.ext f1 (fun _ _ h=>h)
 have b1:=f1.own b0 (fun h=>h)
 obtain⟨CW,o1,s1⟩:=m1.own
 refine v2 (ae o1) (ae b1) ?_
 refine⟨⟨by omega,by omega⟩,?_⟩
 refine v2 m1.sl aor ?_
 refine⟨by omega,?_⟩
 refine v1 w1 ?_
 have e2:ag (fun z=>z=B.sb) H1 (H1.wr B.sb (dm (A.g.set x.toNat (A.bV x,false)))):=(ag.refl (fun z=>z=B.sb) _).wr (fun _=>rfl) _
 have q2:(H1.wr B.sb (dm (A.g.set x.toNat (A.bV x,false)))).own B.sb=some (dm (A.g.set x.toNat (A.bV x,false))):=ah m1.sl
 generalize H1.wr B.sb (dm (A.g.set x.toNat (A.bV x,false)))=H2 at*
 have o2:=e2.own o1 m.ne.1
 have b2:=e2.own b1 (fun e=>EC B.sb (.inr (.inl rfl)) e.symm)
 refine v2 (ae o2) o2 ?_
 rw[wrap64 (n:=A.ct - 1) (by omega) (by omega)]
 have e3:∀l,ag (fun z=>z=B.a) H2 (H2.wr B.a l):=fun l=>(ag.refl (fun z=>z=B.a) _).wr (fun _=>rfl) _
 have q3:∀l,(H2.wr B.a l).own B.a=some l:=fun l=>ah o2
 have b3:=fun l=>(e3 l).own b2 (fun e=>EC B.a (.inl rfl) e.symm)
 have q2':=fun l=>(e3 l).own q2 (Ne.symm m.ne.1)
 have s3:=fun l=>(s1.ext e2 (fun b hb e=>m.ne.2.2 (by rw[hb,e]))).ext (e3 l) (fun b hb e=>m.ne.2.1 (by rw[hb,e]))
 obtain⟨l3,Pp⟩:∃l3,l3=[.slice (some ⟨B.sb,0,none⟩) A.g.length A.g.length,CW,i64 A.nx,i64 (A.ct - 1),.int .u32 (A.mo:Int)]:=⟨_,rfl⟩
 have Rf:=q3 l3
 have X6:=b3 l3
 have UV:=q2' l3
 have s3':=s3 l3
 have ZH:=e3 l3
 rw[Pp]at Rf X6 UV s3' ZH
 generalize H2.wr B.a [.slice (some ⟨B.sb,0,none⟩) A.g.length A.g.length,CW,i64 A.nx,i64 (A.ct - 1),.int .u32 (A.mo:Int)]=H3 at*
 have Ex:ag B.S H H3:=((f0.mono fun _ _ h=>h.elim).trans (f1.mono fun _ _ h=>h.elim)).trans ((e2.mono fun z _ h=>.inr (.inl h)).trans (ZH.mono fun z _ h=>.inl h))
 have tR:=m.ok.back hx
 have hgs:∀y∈(A.back x).g,y.1≤4294967295:=fun y hy=>by
  rcases apR hy with h|h
  ·exact m.gs y h
  ·rw[h]
   exact m.gs (A.bV x,true) (aow hb)
 have aR:(A.back x).g.length=A.g.length:=aot ..
 refine v2 (ae X6) (ae Rf) ?_
 refine ai.dec (fun hm=>?_) (fun hm=>?_)
 rotate_left
 ·refine vs ?_
  have ZI:(A.back x).wt=A.wt:=by show(if A.bV x<A.mo then _ else _)=_;rw[if_neg (by omega)]
  refine⟨rfl,B.fo,⟨⟨CW,by rw[aR];exact Rf,by rw[ZI];exact s3'⟩,UV,m.ne,by rw[aR];exact dq,tR,hgs,m.mo⟩,Ex,fun z hz=>.inl hz⟩
 have ZI:(A.back x).wt=A.wt++[x]:=by show(if A.bV x<A.mo then _ else _)=_;rw[if_pos (by omega)]
 have TT:=m.wtl.1
 obtain⟨ta,tc,rfl⟩:=Sl.shape s3'
 refine vs ?_
 refine oC.intro (fun H'=>True) trivial ?_
 refine vs ?_
 have Uy:H.size<H3.size:=aB X6
 have has:B.a<H3.size:=aB Rf
 have fin:∀ (K:Value→Hp→Prop),(∀w' H4 dT,Sl H4 1 w' (A.wt++[x]).length ((A.wt++[x]).map i64) dT→(dT=B.fo∨∃z,dT=some z∧H3.size≤z∧z<H4.size)→ag (fun z=>B.fo=some z) H3 H4→K w' H4)→
   eM 3 1 8 [i64 0] (.slice ta A.wt.length tc) (.slice (some ⟨H3.size,0,none⟩) 1 1) (H3.new 3 [i64 x]) K:=fun K hK=>by
  exact SP s3' x (by omega) fun w' H' dT h1 h2 h3=>hK w' H' dT h2 h1 h3
 refine II.intro ?C ?D
 case' C=>
  refine v2 (ae Rf) (ae X6) ?_
 case' D=>
  refine v2 (ae Rf) (ae X6) ?_
  refine II.intro ?E ?F
  case' E=>
   refine v2 (ae Rf) (ae X6) ?_
  case' F=>
   refine v2 (ae Rf) (ae X6) ?_
 all_goals
  refine fin _ fun w' H4 dT s4 fU e4=>?_
  obtain⟨wa,wc,rfl⟩:=Sl.shape s4
  have o4:=e4.own Rf (fun e=>m.ne.2.1 e)
  have q4:=e4.own UV (fun e=>m.ne.2.2 e)
  refine v1 o4 ?_
  have e5:∀l,ag (fun z=>z=B.a) H4 (H4.wr B.a l):=fun l=>(ag.refl (fun z=>z=B.a) _).wr (fun _=>rfl) _
  have akl:=Ex.size
  refine⟨rfl,dT,⟨⟨_,by rw[aR];exact ah o4,?_⟩,(e5 _).own q4 (Ne.symm m.ne.1),⟨m.ne.1,fun h=>?_,fun h=>?_⟩,by rw[aR];exact dq,tR,hgs,m.mo⟩,?_,fun z hz=>?_⟩
  ·rw[ZI]
   refine s4.ext (e5 _) (fun b hb e=>?_)
   rcases fU with h| ⟨y,h,h2,_⟩
   ·exact m.ne.2.1 (by rw[←h,hb,e])
   ·rw[h]at hb;injection hb with hb;omega
  ·rcases fU with h2| ⟨y,h2,h3,_⟩
   ·exact m.ne.2.1 (by rw[←h2];exact h)
   ·rw[h2]at h;injection h with h;simp only at h;omega
  ·rcases fU with h2| ⟨y,h2,h3,_⟩
   ·exact m.ne.2.2 (by rw[←h2];exact h)
   ·have:=aB UV
    rw[h2]at h;injection h with h;simp only at h;omega
  ·exact(Ex.trans (e4.mono fun z _ h=>.inr (.inr h))).trans ((e5 _).mono fun z _ h=>.inl h)
  ·rcases fU with h2| ⟨y,h2,h3,_⟩
   ·exact .inl (by rw[←h2];exact hz)
   ·rw[h2]at hz;injection hz with hz;exact .inr (by omega)
end
end Go.Proofs.YthpjfeolagohkaaGreat

namespace Go.Proofs.YthpjfeolagohkaaGreat
open Go Go.Vc
def Nw.lq(w:Nw)(g x:Int):Prop:=w.has g∧(0≤x∧x<w.cs.length)∧¬cU w.cs x
def Nw.cX(w:Nw)(x k s:Int):Prop:=cU w.cs x∧∀y,w.cs[x.toNat]? =some y→¬fN y.2.1 y.2.2 k s
def cA(I:Hp→(Nat→Prop)→Nw→Prop)(S:Nat→Prop)(H H':Hp)(w':Nw):Prop:=
 ∃S':Nat→Prop,I H' S' w'∧ag S H H'∧∀z,S' z→S z∨H.size≤z
theorem cA.same{I:Hp→(Nat→Prop)→Nw→Prop}{S:Nat→Prop}{H H':Hp}{w':Nw}(h:I H' S w')(e:ag S H H'):cA I S H H' w':=⟨S,h,e,fun z hz=>.inl hz⟩
structure xu(ov:Value)(I:Hp→(Nat→Prop)→Nw→Prop):Prop where
 slt:∀ {H S w},I H S w→∀z,S z→z<H.size
 ext:∀ {H H' S w} {T:Nat→Prop},I H S w→ag T H H'→(∀z,S z→¬T z)→I H' S w
 cells:∀ {H S w},I H S w→∃c C,CQ H c C w
 has:∀ {H S w} (g:Int),I H S w→gw Tryz.prog ov "Has" [i64 g] H fun v H'=>v= .bool (decide (w.has g))∧H=H'
 make:∀ {H S w},I H S w→gw Tryz.prog ov "Make" [] H fun v H'=>
  (w.hs.length=65537∧v=i64 0∧cA I S H H' w)∨(w.hs.length≠65537∧v=i64 w.hs.length∧cA I S H H' w.make)
 insert:∀ {H S w} (g x k s:Int),I H S w→gw Tryz.prog ov "Insert" [i64 g,i64 x,tu k s] H fun v H'=>
  (¬w.lq g x∧v= .bool false∧cA I S H H' w)∨(w.lq g x∧v= .bool true∧cA I S H H' (w.put x (g,k,s)))
 min:∀ {H S w} (g:Int),I H S w→gw Tryz.prog ov "Min" [i64 g] H fun v H'=>
  (w.len g=0∧v= .tuple [i64 0,.bool false].toArray∧cA I S H H' w)∨(∃x,w.first g x∧v= .tuple [i64 x,.bool true].toArray∧cA I S H H' w)
 extract:∀ {H S w} (g:Int),I H S w→gw Tryz.prog ov "Extract" [i64 g] H fun v H'=>
  (w.len g=0∧v= .tuple [i64 0,.bool false].toArray∧cA I S H H' w)∨(∃x,w.first g x∧v= .tuple [i64 x,.bool true].toArray∧cA I S H H' (w.put x (0,0,0)))
 nl:∀ {H S w} (x k s:Int),I H S w→gw Tryz.prog ov "Decrease" [i64 x,tu k s] H fun v H'=>
  (¬w.cX x k s∧v= .bool false∧cA I S H H' w)∨(w.cX x k s∧v= .bool true∧∃y,w.cs[x.toNat]? =some y∧cA I S H H' (w.put x (y.1,k,s)))
 entry:∀ {H S w} (x:Int),I H S w→gw Tryz.prog ov "Entry" [i64 x] H fun v H'=>I H' S w∧am H H'∧
  ((¬cU w.cs x∧v= .tuple [tu 0 0,.bool false].toArray)∨(cU w.cs x∧∃y,w.cs[x.toNat]? =some y∧v= .tuple [tu y.2.1 y.2.2,.bool true].toArray))
structure X7(w:Nw)(A:Ar):Prop where
 len:w.cs.length=A.g.length
 live:∀x,cU w.cs x↔A.live x
def E0(H:Hp)(s:Nat)(S:Nat→Prop)(w:Nw)(A:Ar)(q:Int):Prop:=∃ (t:TypeId) (vv:Value) (I:Hp→(Nat→Prop)→Nw→Prop) (Sn:Nat→Prop) (B:US) (k d:Int),
 xu (.iface t vv) I∧I H Sn w∧JU H B A∧H.own s=some [i64 k,i64 d,ptr B.a,.iface t vv,u64 q]∧(∀z,Sn z→¬B.S z∧z≠s)∧¬B.S s∧(∀z,S z↔Sn z∨B.S z∨z=s)∧X7 w A
theorem E0.slt{H:Hp}{s:Nat}{S:Nat→Prop}{w:Nw}{A:Ar}{q:Int}(h:E0 H s S w A q):∀z,S z→z<H.size:=by
 obtain⟨t,vv,I,Sn,B,k,d,n,hi,m,ho,d1,d2,hS,hl⟩:=h
 intro z hz
 rcases(hS z).1 hz with h|h|h
 ·exact n.slt hi z h
 ·exact m.slt z h
 ·rw[h];exact aB ho
theorem E0.ext{H H':Hp}{s:Nat}{S T:Nat→Prop}{w:Nw}{A:Ar}{q:Int}(h:E0 H s S w A q)(e:ag T H H')(hd:∀z,S z→¬T z):E0 H' s S w A q:=by
 obtain⟨t,vv,I,Sn,B,k,d,n,hi,m,ho,d1,d2,hS,hl⟩:=h
 exact⟨t,vv,I,Sn,B,k,d,n,n.ext hi e (fun z hz=>hd z ((hS z).2 (.inl hz))),m.ext e (fun z hz=>hd z ((hS z).2 (.inr (.inl hz)))),e.own ho (hd _ ((hS _).2 (.inr (.inr rfl)))),d1,d2,hS,hl⟩
theorem E0.lnk{H:Hp}{s:Nat}{S:Nat→Prop}{w:Nw}{A:Ar}{q:Int}(h:E0 H s S w A q):X7 w A∧xH A∧A.g.length≤65536:=by
 obtain⟨t,vv,I,Sn,B,k,d,n,hi,m,ho,d1,d2,hS,hl⟩:=h
 exact⟨hl,m.ok,m.len⟩
def Qt(s:Nat)(S:Nat→Prop)(H H':Hp)(w':Nw)(A':Ar)(q':Int):Prop:=∃S',E0 H' s S' w' A' q'∧ag S H H'∧∀z,S' z→S z∨H.size≤z
section
variable {H H' : Hp} {s : Nat} {S : Nat → Prop} {w : Nw} {A : Ar} {q : Int}
theorem Rg(H:Hp)(T:TypeId)(z l:List Value):am H ((H.new T z).wr H.size l)∧((H.new T z).wr H.size l).own H.size=some l∧((H.new T z).wr H.size l).size=H.size+1:=by
 have f0:am H (H.new T z):=(ag.refl _ _).new _ _
 have e1:ag (fun x=>x=H.size) (H.new T z) ((H.new T z).wr H.size l):=(ag.refl (fun x=>x=H.size) _).wr (fun _=>rfl) _
 exact⟨f0.then e1 (fun z hz=>by omega),ah (aD _ _ _),by rw[fu,aq]⟩
theorem Rh{H:Hp}{b:Nat}{l0:List Value}(h:H.own b=some l0)(l:List Value):ag (fun x=>x=b) H (H.wr b l)∧(H.wr b l).own b=some l:=⟨(ag.refl (fun x=>x=b) _).wr (fun _=>rfl) _,ah h⟩
theorem EE(h:E0 H s S w A q)(hl:w.hs.length<65537):af Tryz.prog xU [ptr s] H fun v H'=>ar (v= .tuple [i64 w.hs.length,i64 0].toArray∧Qt s S H H' w.make A q):=by
 obtain⟨t,vv,I,Sn,B,k,d,n,hi,m,ho,d1,d2,hS,KA⟩:=h
 obtain⟨c,C,cq⟩:=n.cells hi
 have fC:=cq.pos
 refine aZ yw ?_
 refine v1 (ae ho) ?_
 refine(n.make hi).mono ?_
 rintro _ H1 (⟨h1,_⟩| ⟨_,rfl,G3,hi',e1,et⟩)
 ·omega
 refine vs ?_
 refine ai.dec (fun hh=>by omega) (fun _=>?_)
 refine vs ?_
 have FL:=m.slt
 have hos:=aB ho
 refine⟨rfl,fun z=>G3 z∨B.S z∨z=s,⟨t,vv,I,G3,B,k,d,n,hi',m.ext e1 (fun z hz h=>(d1 z h).1 hz),e1.own ho (fun h=>(d1 _ h).2 rfl),fun z hz=>?_,d2,fun z=>Iff.rfl,⟨KA.len,KA.live⟩⟩,e1.mono fun z _ h=>(hS z).2 (.inl h),fun z hz=>?_⟩
 ·rcases et z hz with h|h
  ·exact d1 z h
  ·exact⟨fun h2=>by have:=FL z h2;omega,by omega⟩
 ·rcases hz with h|h
  ·rcases et z h with h|h
   ·exact .inl ((hS z).2 (.inl h))
   ·exact .inr h
  ·exact .inl ((hS z).2 (.inr h))
theorem X7.put{w:Nw}{A A':Ar}(l:X7 w A){x:Int}(hx:0≤x∧x<A.g.length){y:Ce}{v:Nat}(hg:A'.g=A.g.set x.toNat (v,decide (0<y.1))):X7 (w.put x y) A':=by
 have DG:0≤x∧x<w.cs.length:=by rw[l.len];exact hx
 refine⟨by rw[hg,aot];simp[Nw.put,l.len],fun z=>?_⟩
 by_cases h0:0≤z
 ·rw[Ar.mD hx hg h0,←bC,ed DG]
  by_cases e:z=x
  ·rw[if_pos e,if_pos e];simp
  ·rw[if_neg e,if_neg e,bC]
   exact l.live z
 ·exact⟨fun h=>absurd h.1 h0,fun h=>absurd h.1 h0⟩
theorem Gc(h:E0 H s S w A q){g key:Int}(hg:w.has g)(X5:∀x:Int,0≤x→x<A.g.length→A.bV x<4294967295)(hq:0≤q∧q<18446744073709551615):af Tryz.prog Ae [ptr s,i64 g,i64 key] H fun v H'=>ar (
  (A.pick=none∧v= .tuple [gU 0 0,i64 32].toArray∧Qt s S H H' w A q)∨(∃x A',A.pick=some (x,A')∧v= .tuple [gU x (A.bV x+1),i64 0].toArray∧Qt s S H H' (w.put x (g,key,q+1)) (A'.out x) (q+1))):=by
 have eW:=h.slt
 obtain⟨t,vv,I,Sn,B,k,d,n,hi,m,ho,d1,d2,hS,KA⟩:=h
 refine aZ Ay ?_
 refine vs ?_
 have f0:am H (H.new 71 [Value.int .i64 0,Value.int .u32 0]):=(ag.refl _ _).new _ _
 have b0:(H.new 71 [Value.int .i64 0,Value.int .u32 0]).own H.size=some [Value.int .i64 0,Value.int .u32 0]:=aD _ _ _
 have z0:(H.new 71 [Value.int .i64 0,Value.int .u32 0]).size=H.size+1:=aq _ _ _
 generalize H.new 71 [Value.int .i64 0,Value.int .u32 0]=H0 at*
 have m0:=m.ext f0 (fun _ _ h=>h)
 have CD:=n.ext hi f0 (fun _ _ h=>h)
 have o0:=f0.own ho (fun h=>h)
 have aQ:∀z,S z→z≠H.size:=fun z hz=>by have:=eW z hz;omega
 refine v1 (ae o0) ?_
 refine(n.has g CD).mono ?_
 rintro _ _ ⟨rfl,rfl⟩
 rw[aoE hg]
 refine v1 (ae o0) ?_
 refine(EB m0 X5).mono ?_
 rintro _ H1 (⟨hp,rfl,m1,f1⟩| ⟨x,A',hp,rfl,m1,e1⟩)
 ·have b1:=f1.own b0 (fun h=>h)
  refine vs ?_
  obtain⟨f2,b2,z2⟩:=Rg H1 71 [Value.int .i64 0,Value.int .u32 0] [i64 0,Value.int .u32 ((0:Nat):Int)]
  generalize (H1.new 71 [Value.int .i64 0,Value.int .u32 0]).wr H1.size [i64 0,Value.int .u32 ((0:Nat):Int)]=H2 at*
  have b3:=f2.own b1 (fun h=>h)
  refine ai.dec (fun hh=>by omega) (fun _=>?_)
  refine v1 b3 ?_
  obtain⟨e4,b4⟩:=Rh b3 [Value.int .i64 0,Value.int .u32 0]
  refine v1 (ae b4) ?_
  have hse:ag S H (H2.wr H.size [Value.int .i64 0,Value.int .u32 0]):=by
   have h1:=(f0.trans f1).trans f2
   exact(h1.then e4 (fun z hz=>by omega)).mono fun _ _ h=>h.elim
  refine .inl ⟨hp,rfl,S,⟨t,vv,I,Sn,B,k,d,n,?_,?_,?_,d1,d2,hS,KA⟩,hse,fun z hz=>.inl hz⟩
  ·exact n.ext (n.ext (n.ext CD f1 (fun _ _ h=>h)) f2 (fun _ _ h=>h)) e4 (fun z hz=>aQ z ((hS z).2 (.inl hz)))
  ·exact(m1.ext f2 (fun _ _ h=>h)).ext e4 (fun z hz=>aQ z ((hS z).2 (.inr (.inl hz))))
  ·exact e4.own (f2.own (f1.own o0 (fun h=>h)) (fun h=>h)) (aQ s ((hS s).2 (.inr (.inr rfl))))
 ·obtain⟨uN,nL,_,_,hAg,_,_⟩:=Ar.zI hp m.ok
  have b1:=e1.own b0 (fun h=>aQ _ ((hS _).2 (.inr (.inl h))) rfl)
  have o1:=e1.own o0 d2
  have Rb:=n.ext CD e1 (fun z hz=>(d1 z hz).1)
  refine vs ?_
  obtain⟨f2,b2,z2⟩:=Rg H1 71 [Value.int .i64 0,Value.int .u32 0] [i64 x,Value.int .u32 ((A.bV x+1:Nat):Int)]
  generalize (H1.new 71 [Value.int .i64 0,Value.int .u32 0]).wr H1.size [i64 x,Value.int .u32 ((A.bV x+1:Nat):Int)]=H2 at*
  have b3:=f2.own b1 (fun h=>h)
  have o2:=f2.own o1 (fun h=>h)
  have jB:=n.ext Rb f2 (fun _ _ h=>h)
  have m2:=m1.ext f2 (fun _ _ h=>h)
  refine ai.dec (fun _=>?_) (fun hh=>absurd trivial hh)
  refine v2 (ae o2) o2 ?_
  rw[Us (n:=q+1) (by omega) (by omega)]
  obtain⟨e4,o3⟩:=Rh o2 [i64 k,i64 d,ptr B.a,.iface t vv,u64 (q+1)]
  have HG:=aB o2
  have El:=e1.size
  have akn:=aB ho
  have b5:=e4.own b3 (fun e=>aQ s ((hS s).2 (.inr (.inr rfl))) e.symm)
  have b6:=e4.own b2 (fun e=>by omega)
  have rR:=n.ext jB e4 (fun z hz=>(d1 z hz).2)
  have m3:=m2.ext e4 (fun z hz e=>d2 (by rw[←e];exact hz))
  generalize H2.wr s [i64 k,i64 d,ptr B.a,.iface t vv,u64 (q+1)]=H3 at*
  refine v2 (ae o3) (ae b6) ?_
  refine(n.insert g x key (q+1) rR).mono ?_
  obtain⟨c,C,cq⟩:=n.cells rR
  have G6:¬cU w.cs x:=fun h=>nL ((KA.live x).1 h)
  rintro _ H4 (⟨bS,_⟩| ⟨_,rfl,G3,hi4,e5,TX⟩)
  ·exact absurd ⟨hg,by rw[KA.len];exact uN,G6⟩ bS
  have hz4:=e4.size
  have E1:∀z,H.size≤z→¬Sn z:=fun z hz h=>by have:=eW z ((hS z).2 (.inl h));omega
  have b7:=e5.own b6 (E1 _ (by omega))
  have b8:=e5.own b5 (E1 _ (aoB _))
  refine v2 (ae b7) b8 ?_
  obtain⟨e9,b9⟩:=Rh b8 [i64 x,Value.int .u32 ((A.bV x+1:Nat):Int)]
  refine v1 (ae b9) ?_
  have o4:=e5.own o3 (fun h=>(d1 _ h).2 rfl)
  have m4:=m3.ext e5 (fun z hz h=>(d1 z h).1 hz)
  have FL:=m.slt
  have hz5:=e5.size
  have EC:∀z,B.S z→z<H.size:=FL
  have L9:∀z,G3 z→Sn z∨H.size<z:=fun z hz=>(TX z hz).imp_right fun h=>by omega
  refine .inr ⟨x,A',hp,rfl,fun z=>G3 z∨B.S z∨z=s,⟨t,vv,I,G3,B,k,d,n,n.ext hi4 e9 (fun z hz e=>?_),m4.ext e9 (fun z hz e=>?_),e9.own o4 (aQ s ((hS s).2 (.inr (.inr rfl)))),fun z hz=>?_,d2,fun z=>Iff.rfl,?_⟩,?_,fun z hz=>?_⟩
  ·rcases L9 z hz with h|h
   ·exact E1 z (by omega) h
   ·omega
  ·have:=EC z hz;omega
  ·rcases L9 z hz with h|h
   ·exact d1 z h
   ·exact⟨fun h2=>by have:=EC z h2;omega,by omega⟩
  ·refine KA.put uN (v:=A.bV x+1) ?_
   have UU:A'.bV x=A.bV x:=by unfold Ar.bV;rw[hAg]
   show A'.g.set x.toNat (A'.bV x+1,true)=_
   rw[UU,hAg]
   exact aoD (fun b=>A.g.set x.toNat (A.bV x+1,b)) (aoE hg.1).symm
  ·have h1:ag S H H3:=((f0.mono fun _ _ h=>h.elim).trans (e1.mono fun z _ h=>(hS z).2 (.inr (.inl h)))).trans ((f2.mono fun _ _ h=>h.elim).trans (e4.mono fun z _ h=>(hS z).2 (.inr (.inr h))))
   have h2:=h1.trans (e5.mono fun z _ h=>(hS z).2 (.inl h))
   exact⟨apc h2.size e9.size,fun z hz hn=>by rw[e9.aG z (aoO hz h2.size) (by omega),h2.aG z hz hn]⟩
  ·rcases hz with h|h
   ·rcases L9 z h with h|h
    ·exact .inl ((hS z).2 (.inl h))
    ·exact .inr (by omega)
   ·exact .inl ((hS z).2 (.inr h))
end
end Go.Proofs.YthpjfeolagohkaaGreat

namespace Go.Proofs.YthpjfeolagohkaaGreat
open Go Go.Vc
section
variable {H H' H1 H2 : Hp} {s : Nat} {S S1 : Nat → Prop} {w w2 : Nw} {A A2 : Ar} {q q2 : Int}
theorem zh(l:X7 w A){g x:Int}(h:w.first g x):A.live x:=by
 obtain⟨h1,h2,_⟩:=bH.1 h
 exact(l.live x).1 (bC.1 (by omega))
theorem HS(h:E0 H s S w A q){g:Int}(hg:w.has g):af Tryz.prog Ca [ptr s,i64 g] H fun v H'=>ar (
  (w.len g=0∧v= .tuple [gU 0 0,i64 172].toArray∧Qt s S H H' w A q)∨(∃x,w.first g x∧v= .tuple [gU x (A.bV x),i64 0].toArray∧Qt s S H H' w A q)):=by
 have eW:=h.slt
 obtain⟨t,vv,I,Sn,B,k,d,n,hi,m,ho,d1,d2,hS,KA⟩:=h
 refine aZ Cn ?_
 refine vs ?_
 have f0:am H (H.new 71 [Value.int .i64 0,Value.int .u32 0]):=(ag.refl _ _).new _ _
 have b0:(H.new 71 [Value.int .i64 0,Value.int .u32 0]).own H.size=some [Value.int .i64 0,Value.int .u32 0]:=aD _ _ _
 have z0:(H.new 71 [Value.int .i64 0,Value.int .u32 0]).size=H.size+1:=aq _ _ _
 generalize H.new 71 [Value.int .i64 0,Value.int .u32 0]=H0 at*
 have m0:=m.ext f0 (fun _ _ h=>h)
 have CD:=n.ext hi f0 (fun _ _ h=>h)
 have o0:=f0.own ho (fun h=>h)
 have E1:∀z,H.size≤z→¬Sn z:=fun z hz h=>by have:=eW z ((hS z).2 (.inl h));omega
 have EC:∀z,B.S z→z<H.size:=m.slt
 have hos:=aB ho
 refine v1 (ae o0) ?_
 refine(n.has g CD).mono ?_
 rintro _ _ ⟨rfl,rfl⟩
 rw[aoE hg]
 refine v1 (ae o0) ?_
 refine(n.min g CD).mono ?_
 have fin:∀ (H1 H2:Hp) (G3:Nat→Prop),I H1 G3 w→ag Sn H0 H1→(∀z,G3 z→Sn z∨H0.size≤z)→ag (fun z=>z=H.size∨H1.size≤z) H1 H2→Qt s S H H2 w A q:=fun H1 H2 G3 Rb e1 et e2=>by
  have El:=e1.size
  have dP:=e2.size
  refine⟨fun z=>G3 z∨B.S z∨z=s,⟨t,vv,I,G3,B,k,d,n,n.ext Rb e2 (fun z hz e=>?_),(m0.ext e1 (fun z hz h=>(d1 z h).1 hz)).ext e2 (fun z hz e=>?_),e2.own (e1.own o0 (fun h=>(d1 _ h).2 rfl)) (fun e=>by omega),fun z hz=>?_,d2,fun z=>Iff.rfl,KA⟩,?_,fun z hz=>?_⟩
  ·rcases e with e|e
   ·rcases et z hz with h|h
    ·exact E1 z (by omega) h
    ·omega
   ·have:=n.slt Rb z hz;omega
  ·have:=EC z hz;omega
  ·rcases et z hz with h|h
   ·exact d1 z h
   ·exact⟨fun h2=>by have:=EC z h2;omega,by omega⟩
  ·have h1:ag S H H1:=(f0.mono fun _ _ h=>h.elim).trans (e1.mono fun z _ h=>(hS z).2 (.inl h))
   exact⟨apc h1.size e2.size,fun z hz hn=>by rw[e2.aG z (aoO hz h1.size) (by omega),h1.aG z hz hn]⟩
  ·rcases hz with h|h
   ·rcases et z h with h|h
    ·exact .inl ((hS z).2 (.inl h))
    ·exact .inr (by omega)
   ·exact .inl ((hS z).2 (.inr h))
 rintro _ H1 (⟨h0,rfl,G3,Rb,e1,et⟩| ⟨x,hx,rfl,G3,Rb,e1,et⟩)
 ·have b1:=e1.own b0 (E1 _ (aoB _))
  refine v1 b1 ?_
  obtain⟨e4,b4⟩:=Rh b1 [Value.int .i64 0,Value.int .u32 0]
  refine v1 (ae b4) ?_
  exact .inl ⟨h0,rfl,fin H1 _ G3 Rb e1 et (e4.mono fun z _ h=>.inl h)⟩
 ·have b1:=e1.own b0 (E1 _ (aoB _))
  have o1:=e1.own o0 (fun h=>(d1 _ h).2 rfl)
  have m1:=m0.ext e1 (fun z hz h=>(d1 z h).1 hz)
  refine v1 (ae o1) ?_
  refine(HR m1 (zh KA hx)).mono ?_
  rintro _ H2 ⟨rfl,f2⟩
  have b2:=f2.own b1 (fun h=>h)
  refine vs ?_
  obtain⟨f3,b3,z3⟩:=Rg H2 71 [Value.int .i64 0,Value.int .u32 0] [i64 x,Value.int .u32 ((A.bV x:Nat):Int)]
  generalize (H2.new 71 [Value.int .i64 0,Value.int .u32 0]).wr H2.size [i64 x,Value.int .u32 ((A.bV x:Nat):Int)]=H3 at*
  have b5:=f3.own b2 (fun h=>h)
  refine v2 (ae b3) b5 ?_
  obtain⟨e4,b4⟩:=Rh b5 [i64 x,Value.int .u32 ((A.bV x:Nat):Int)]
  refine v1 (ae b4) ?_
  exact .inr ⟨x,hx,rfl,fin H1 _ G3 Rb e1 et (((f2.trans f3).mono fun _ _ h=>h.elim).trans (e4.mono fun z _ h=>.inl h))⟩
theorem HT(h:E0 H s S w A q){x:Int}(hx:A.live x):af Tryz.prog Cb [ptr s,gU x (A.bV x)] H fun v H'=>ar (∃y,w.cs[x.toNat]? =some y∧v= .tuple [tu y.2.1 y.2.2,i64 0].toArray∧Qt s S H H' w A q):=by
 have eW:=h.slt
 obtain⟨t,vv,I,Sn,B,k,d,n,hi,m,ho,d1,d2,hS,KA⟩:=h
 refine Kw Co ⟨rfl,?_⟩
 refine v1 pI.eq_1 ?_
 have f0:am H ((H.new 71 [i64 x,.int .u32 (A.bV x:Int)]).new 182 [Value.int .i64 0,Value.int .u64 0]):=((ag.refl _ _).new _ _).new _ _
 have b0:((H.new 71 [i64 x,.int .u32 (A.bV x:Int)]).new 182 [Value.int .i64 0,Value.int .u64 0]).own H.size=some [i64 x,.int .u32 (A.bV x:Int)]:=by
  rw[bL (by simp only[aq];omega),aD]
 have c0:((H.new 71 [i64 x,.int .u32 (A.bV x:Int)]).new 182 [Value.int .i64 0,Value.int .u64 0]).own (H.size+1)=some [Value.int .i64 0,Value.int .u64 0]:=be (by simp only[aq])
 have z0:((H.new 71 [i64 x,.int .u32 (A.bV x:Int)]).new 182 [Value.int .i64 0,Value.int .u64 0]).size=H.size+1+1:=by simp only[aq]
 generalize (H.new 71 [i64 x,.int .u32 (A.bV x:Int)]).new 182 [Value.int .i64 0,Value.int .u64 0]=H0 at*
 have m0:=m.ext f0 (fun _ _ h=>h)
 have CD:=n.ext hi f0 (fun _ _ h=>h)
 have o0:=f0.own ho (fun h=>h)
 have E1:∀z,H.size≤z→¬Sn z:=fun z hz h=>by have:=eW z ((hS z).2 (.inl h));omega
 have EC:∀z,B.S z→z<H.size:=m.slt
 have hos:=aB ho
 refine v2 (ae o0) (ae b0) ?_
 refine(sm m0 x (A.bV x)).mono ?_
 rintro _ H1 ⟨rfl,f1⟩
 rw[aoE ⟨hx,rfl⟩]
 have m1:=m0.ext f1 (fun _ _ h=>h)
 have Rb:=n.ext CD f1 (fun _ _ h=>h)
 have o1:=f1.own o0 (fun h=>h)
 have b1:=f1.own b0 (fun h=>h)
 have c1:=f1.own c0 (fun h=>h)
 have z1:=f1.size
 have bE:cU w.cs x:=(KA.live x).2 hx
 have fin:∀H2,I H2 Sn w→ag (fun z=>z=H.size+1∨H1.size≤z) H1 H2→Qt s S H H2 w A q:=fun H2 jB e2=>by
  have h1:ag S H H1:=(f0.trans f1).mono fun _ _ h=>h.elim
  refine⟨S,⟨t,vv,I,Sn,B,k,d,n,jB,m1.ext e2 (fun z hz e=>by have:=EC z hz;omega),e2.own o1 (fun e=>by omega),d1,d2,hS,KA⟩,⟨apc h1.size e2.size,fun z hz hn=>by rw[e2.aG z (aoO hz h1.size) (by omega),h1.aG z hz hn]⟩,fun z hz=>.inl hz⟩
 refine vs ?_
 refine oC.intro (fun H'=>H'.own s=some [i64 k,i64 d,ptr B.a,.iface t vv,u64 q]∧H'.own H.size=some [i64 x,.int .u32 (A.bV x:Int)]) ⟨o1,b1⟩ ?_
 refine vs ?_
 refine oB.intro (.iface t vv) (fun H' hI=>by refine v1 (ae hI.1) ?_;trivial) ?_
 refine vs ?_
 refine oB.intro (i64 x) (fun H' hI=>by refine v1 (ae hI.2) ?_;trivial) ?_
 refine vs ?_
 refine II.intro ?_ ?_
 ·refine vs ?_
  refine(n.entry x Rb).mono ?_
  rintro _ H2 ⟨jB,f2,⟨bS,_⟩| ⟨_,y,hy,rfl⟩⟩
  ·exact absurd bE bS
  have o2:=f2.own o1 (fun h=>h)
  have b2:=f2.own b1 (fun h=>h)
  have c2:=f2.own c1 (fun h=>h)
  have z2:=f2.size
  refine And.intro ⟨o2,b2⟩ ?_
  refine vs ?_
  refine And.intro ⟨o2,b2⟩ ?_
  refine vs ?_
  refine And.intro ⟨o2,b2⟩ ?_
  refine vs ?_
  obtain⟨f3,b3,z3⟩:=Rg H2 182 [Value.int .i64 0,Value.int .u64 0] [i64 y.2.1,u64 y.2.2]
  generalize (H2.new 182 [Value.int .i64 0,Value.int .u64 0]).wr H2.size [i64 y.2.1,u64 y.2.2]=H3 at*
  have c3:=f3.own c2 (fun h=>h)
  refine v2 (ae b3) c3 ?_
  obtain⟨e4,b4⟩:=Rh c3 [i64 y.2.1,u64 y.2.2]
  refine v1 (ae b4) ?_
  exact⟨y,hy,rfl,fin _ (n.ext (n.ext jB f3 (fun _ _ h=>h)) e4 (fun z hz e=>E1 z (by omega) hz)) (((f2.trans f3).mono fun _ _ h=>h.elim).trans (e4.mono fun z _ h=>.inl h))⟩
 ·refine vs ?_
  refine And.intro ⟨o1,b1⟩ ?_
  have f4:am H1 (H1.new 182 [Value.int .i64 0,Value.int .u64 0]):=(ag.refl _ _).new _ _
  have b4:(H1.new 182 [Value.int .i64 0,Value.int .u64 0]).own H1.size=some [Value.int .i64 0,Value.int .u64 0]:=aD _ _ _
  have z4:(H1.new 182 [Value.int .i64 0,Value.int .u64 0]).size=H1.size+1:=aq _ _ _
  generalize H1.new 182 [Value.int .i64 0,Value.int .u64 0]=H4 at*
  refine vs ?_
  refine(n.entry x (n.ext Rb f4 (fun _ _ h=>h))).mono ?_
  rintro _ H2 ⟨jB,f2,⟨bS,_⟩| ⟨_,y,hy,rfl⟩⟩
  ·exact absurd bE bS
  have o2:=f2.own (f4.own o1 (fun h=>h)) (fun h=>h)
  have b2:=f2.own (f4.own b1 (fun h=>h)) (fun h=>h)
  have c2:=f2.own (f4.own c1 (fun h=>h)) (fun h=>h)
  have b5:=f2.own b4 (fun h=>h)
  have z2:=f2.size
  refine And.intro ⟨o2,b2⟩ ?_
  refine v1 b5 ?_
  obtain⟨e6,b6⟩:=Rh b5 [i64 y.2.1,u64 y.2.2]
  have o6:=e6.own o2 (fun e=>by omega)
  have b26:=e6.own b2 (fun e=>by omega)
  have c6:=e6.own c2 (fun e=>by omega)
  have hn6:=n.ext jB e6 (fun z hz e=>E1 z (by omega) hz)
  have e26:ag (fun z=>z=H.size+1∨H1.size≤z) H1 (H2.wr H1.size [i64 y.2.1,u64 y.2.2]):=((f4.trans f2).mono fun _ _ h=>h.elim).trans (e6.mono fun z _ h=>.inr (by omega))
  generalize H2.wr H1.size [i64 y.2.1,u64 y.2.2]=H6 at*
  first
   |refine And.intro ⟨o6,b26⟩ ?_
   |refine And.intro ⟨o2,b2⟩ ?_
  refine v2 (ae b6) c6 ?_
  obtain⟨e7,b7⟩:=Rh c6 [i64 y.2.1,u64 y.2.2]
  refine v1 (ae b7) ?_
  exact⟨y,hy,rfl,fin _ (n.ext hn6 e7 (fun z hz e=>E1 z (by omega) hz)) (e26.trans (e7.mono fun z _ h=>.inl h))⟩
end
end Go.Proofs.YthpjfeolagohkaaGreat

namespace Go.Proofs.YthpjfeolagohkaaGreat
open Go Go.Vc
section
variable {H H' H1 H2 : Hp} {s : Nat} {S S1 : Nat → Prop} {w w2 : Nw} {A A2 : Ar} {q q2 : Int}
theorem E0.tmp{b:Nat}{l:List Value}(h:E0 H1 s S1 w A q)(hb:¬S1 b):E0 (H1.wr b l) s S1 w A q:=h.ext ((ag.refl (fun x=>x=b) _).wr (fun _=>rfl) _:ag (fun x=>x=b) H1 _) (fun z hz e=>hb (by rw[←e];exact hz))
theorem E2(h:E0 H2 s S1 w A q)(e:ag S H H2)(hs:∀z,S1 z→S z∨H.size≤z):Qt s S H H2 w A q:=⟨S1,h,e,hs⟩
theorem E3{b:Nat}{l:List Value}(e:ag S H H1)(hb:H.size≤b):ag S H (H1.wr b l):=by
 have e2:ag (fun x=>x=b) H1 (H1.wr b l):=(ag.refl (fun x=>x=b) _).wr (fun _=>rfl) _
 exact⟨apc e.size e2.size,fun z hz hn=>by rw[e2.aG z (aoO hz e.size) (by omega),e.aG z hz hn]⟩
theorem Ma(h:E0 H s S w A q){g:Int}(hg:w.has g):af Tryz.prog Fz [ptr s,i64 g] H fun v H'=>ar (
  (w.len g=0∧v= .tuple [gU 0 0,i64 0,i64 172].toArray∧Qt s S H H' w A q)∨(∃x y,w.first g x∧w.cs[x.toNat]? =some y∧v= .tuple [gU x (A.bV x),i64 y.2.1,i64 0].toArray∧Qt s S H H' w A q)):=by
 have eW:=h.slt
 have KA:=h.lnk.1
 refine aZ FE ?_
 refine vs ?_
 have f0:am H (H.new 71 [Value.int .i64 0,Value.int .u32 0]):=(ag.refl _ _).new _ _
 have b0:(H.new 71 [Value.int .i64 0,Value.int .u32 0]).own H.size=some [Value.int .i64 0,Value.int .u32 0]:=aD _ _ _
 have z0:(H.new 71 [Value.int .i64 0,Value.int .u32 0]).size=H.size+1:=aq _ _ _
 generalize H.new 71 [Value.int .i64 0,Value.int .u32 0]=H0 at*
 have h0:=h.ext f0 (fun _ _ h=>h)
 have Ri:∀z,H.size≤z→¬S z:=fun z hz h=>by have:=eW z h;omega
 refine(HS h0 hg).mono ?_
 rintro _ H1 (⟨ZA,rfl,S1,h1,e1,et⟩| ⟨x,hx,rfl,S1,h1,e1,et⟩)
 ·have b1:=e1.own b0 (Ri _ (aoB _))
  have El:=e1.size
  refine vs ?_
  obtain⟨f2,b2,z2⟩:=Rg H1 71 [Value.int .i64 0,Value.int .u32 0] [i64 0,Value.int .u32 ((0:Nat):Int)]
  generalize (H1.new 71 [Value.int .i64 0,Value.int .u32 0]).wr H1.size [i64 0,Value.int .u32 ((0:Nat):Int)]=H2 at*
  have b3:=f2.own b1 (fun h=>h)
  refine ai.dec (fun hh=>by omega) (fun _=>?_)
  refine v1 b3 ?_
  obtain⟨e4,b4⟩:=Rh b3 [Value.int .i64 0,Value.int .u32 0]
  have e2:ag S H H2:=((f0.mono fun _ _ h=>h.elim).trans e1).trans (f2.mono fun _ _ h=>h.elim)
  have EF:¬S1 H.size:=fun h=>by rcases et _ h with h|h;exact Ri _ (aoB _) h;omega
  have h3:=((h1.ext f2 (fun _ _ h=>h)).tmp EF (l:=[Value.int .i64 0,Value.int .u32 0]))
  have e5:=E3 (l:=[Value.int .i64 0,Value.int .u32 0]) e2 (aoB H.size)
  refine v1 (ae b4) ?_
  exact .inl ⟨ZA,rfl,E2 h3 e5 (fun z hz=>(et z hz).imp_right fun h=>by omega)⟩
 ·have b1:=e1.own b0 (Ri _ (aoB _))
  have El:=e1.size
  have uL:=zh KA hx
  refine vs ?_
  obtain⟨f2,b2,z2⟩:=Rg H1 71 [Value.int .i64 0,Value.int .u32 0] [i64 x,Value.int .u32 ((A.bV x:Nat):Int)]
  generalize (H1.new 71 [Value.int .i64 0,Value.int .u32 0]).wr H1.size [i64 x,Value.int .u32 ((A.bV x:Nat):Int)]=H2 at*
  have b3:=f2.own b1 (fun h=>h)
  have h2:=h1.ext f2 (fun _ _ h=>h)
  refine ai.dec (fun _=>?_) (fun hh=>absurd trivial hh)
  refine v1 (ae b2) ?_
  have X8:=h1.slt
  refine(HT h2 uL).mono ?_
  rintro _ H3 ⟨y,hy,rfl,S3,h3,e3,G0⟩
  have EF:¬S1 H.size:=fun h=>by rcases et _ h with h|h;exact Ri _ (aoB _) h;omega
  have CG:¬S1 H1.size:=fun h=>by have:=X8 _ h;omega
  have b4:=e3.own b3 EF
  have c4:=e3.own b2 CG
  have X9:=e3.size
  refine vs ?_
  obtain⟨f5,b5,z5⟩:=Rg H3 182 [Value.int .i64 0,Value.int .u64 0] [i64 y.2.1,u64 y.2.2]
  generalize (H3.new 182 [Value.int .i64 0,Value.int .u64 0]).wr H3.size [i64 y.2.1,u64 y.2.2]=H5 at*
  have b6:=f5.own b4 (fun h=>h)
  have c6:=f5.own c4 (fun h=>h)
  have h5:=h3.ext f5 (fun _ _ h=>h)
  have hn3:∀b,¬S1 b→b<H2.size→¬S3 b:=fun b hb qv h=>by rcases G0 _ h with h|h;exact hb h;omega
  have e5:ag S H H5:=by
   have e2:ag S H H2:=((f0.mono fun _ _ h=>h.elim).trans e1).trans (f2.mono fun _ _ h=>h.elim)
   have ZH:ag S H H3:=⟨apc e2.size e3.size,fun z hz hn=>by rw[e3.aG z (aoO hz e2.size) (fun h=>by rcases et z h with h|h;exact hn h;omega),e2.aG z hz hn]⟩
   exact ZH.trans (f5.mono fun _ _ h=>h.elim)
  refine oC.intro (fun H'=>H'.own H3.size=some [i64 y.2.1,u64 y.2.2]) b5 ?_
  refine vs ?_
  refine oB.intro (i64 y.2.1) (fun H' hI=>by refine v1 (ae hI) ?_;trivial) ?_
  refine v1 (ae c6) ?_
  refine And.intro b5 ?_
  refine v1 b6 ?_
  obtain⟨e7,b7⟩:=Rh b6 [i64 x,Value.int .u32 ((A.bV x:Nat):Int)]
  have b57:=e7.own b5 (fun e=>by omega)
  first
   |refine And.intro b57 ?_
   |refine And.intro b5 ?_
  have h7:=h5.tmp (hn3 _ EF (by omega)) (l:=[i64 x,Value.int .u32 ((A.bV x:Nat):Int)])
  have e8:=E3 (l:=[i64 x,Value.int .u32 ((A.bV x:Nat):Int)]) e5 (aoB H.size)
  refine v1 (ae b7) ?_
  refine .inr ⟨x,y,hx,hy,rfl,E2 h7 e8 (fun z hz=>?_)⟩
  rcases G0 z hz with h|h
  ·exact(et z h).imp_right fun h=>by omega
  ·exact .inr (by omega)
theorem Qu{g x x':Int}(h:w.first g x)(h':w.first g x'):x'=x:=by
 obtain⟨_,h2,h3⟩:=bH.1 h
 obtain⟨_,h5,h6⟩:=bH.1 h'
 apply aoJ
 intro aQ
 have:=(ap w).asym (h3 x' h5 aQ)
 rw[h6 x h2 (Ne.symm aQ)]at this
 cases this
theorem nm(h:E0 H s S w A q){g:Int}(hg:w.has g):af Tryz.prog sJ [ptr s,i64 g] H fun v H'=>ar (
  (w.len g=0∧v= .tuple [gU 0 0,i64 0,i64 172].toArray∧Qt s S H H' w A q)∨(∃x y,w.first g x∧w.cs[x.toNat]? =some y∧v= .tuple [gU x (A.bV x),i64 y.2.1,i64 0].toArray∧Qt s S H H' (w.put x (0,0,0)) (A.back x) q)):=by
 have eW:=h.slt
 have KA:=h.lnk.1
 refine aZ sU ?_
 refine vs ?_
 have f0:am H (H.new 71 [Value.int .i64 0,Value.int .u32 0]):=(ag.refl _ _).new _ _
 have b0:(H.new 71 [Value.int .i64 0,Value.int .u32 0]).own H.size=some [Value.int .i64 0,Value.int .u32 0]:=aD _ _ _
 have z0:(H.new 71 [Value.int .i64 0,Value.int .u32 0]).size=H.size+1:=aq _ _ _
 generalize H.new 71 [Value.int .i64 0,Value.int .u32 0]=H0 at*
 have h0:=h.ext f0 (fun _ _ h=>h)
 have Ri:∀z,H.size≤z→¬S z:=fun z hz h=>by have:=eW z h;omega
 refine(Ma h0 hg).mono ?_
 rintro _ H1 (⟨ZA,rfl,S1,h1,e1,et⟩| ⟨x,y,hx,hy,rfl,S1,h1,e1,et⟩)
 ·have b1:=e1.own b0 (Ri _ (aoB _))
  have El:=e1.size
  refine vs ?_
  obtain⟨f2,b2,z2⟩:=Rg H1 71 [Value.int .i64 0,Value.int .u32 0] [i64 0,Value.int .u32 ((0:Nat):Int)]
  generalize (H1.new 71 [Value.int .i64 0,Value.int .u32 0]).wr H1.size [i64 0,Value.int .u32 ((0:Nat):Int)]=H2 at*
  have b3:=f2.own b1 (fun h=>h)
  refine ai.dec (fun hh=>by omega) (fun _=>?_)
  refine v1 b3 ?_
  obtain⟨e4,b4⟩:=Rh b3 [Value.int .i64 0,Value.int .u32 0]
  have e2:ag S H H2:=((f0.mono fun _ _ h=>h.elim).trans e1).trans (f2.mono fun _ _ h=>h.elim)
  have EF:¬S1 H.size:=fun h=>by rcases et _ h with h|h;exact Ri _ (aoB _) h;omega
  have h3:=((h1.ext f2 (fun _ _ h=>h)).tmp EF (l:=[Value.int .i64 0,Value.int .u32 0]))
  have e5:=E3 (l:=[Value.int .i64 0,Value.int .u32 0]) e2 (aoB H.size)
  refine v1 (ae b4) ?_
  exact .inl ⟨ZA,rfl,E2 h3 e5 (fun z hz=>(et z hz).imp_right fun h=>by omega)⟩
 ·have b1:=e1.own b0 (Ri _ (aoB _))
  have El:=e1.size
  have uL:=zh KA hx
  refine vs ?_
  obtain⟨f2,b2,z2⟩:=Rg H1 71 [Value.int .i64 0,Value.int .u32 0] [i64 x,Value.int .u32 ((A.bV x:Nat):Int)]
  generalize (H1.new 71 [Value.int .i64 0,Value.int .u32 0]).wr H1.size [i64 x,Value.int .u32 ((A.bV x:Nat):Int)]=H2 at*
  have b3:=f2.own b1 (fun h=>h)
  have X8:=h1.slt
  have h2:=h1.ext f2 (fun _ _ h=>h)
  have EF:¬S1 H.size:=fun h=>by rcases et _ h with h|h;exact Ri _ (aoB _) h;omega
  have CG:¬S1 H1.size:=fun h=>by have:=X8 _ h;omega
  obtain⟨t,vv,I,Sn,B,k,d,n,hi,m,ho,d1,d2,hS,_⟩:=h2
  refine ai.dec (fun _=>?_) (fun hh=>absurd trivial hh)
  refine v1 (ae ho) ?_
  refine(n.extract g hi).mono ?_
  have EC:∀z,B.S z→z<H2.size:=m.slt
  have hos:=aB ho
  rintro _ H3 (⟨ZA,_⟩| ⟨x',uC,rfl,G3,rR,e3,G0⟩)
  ·exfalso
   obtain⟨SR,OZ,_⟩:=bH.1 hx
   exact(uE SR).1 ZA x OZ
  obtain rfl:=Qu hx uC
  have ho3:=e3.own ho (fun h=>(d1 _ h).2 rfl)
  have b4:=e3.own b3 (fun h=>EF ((hS _).2 (.inl h)))
  have c4:=e3.own b2 (fun h=>CG ((hS _).2 (.inl h)))
  have m3:=m.ext e3 (fun z hz h=>(d1 z h).1 hz)
  have X9:=e3.size
  refine v2 (ae ho3) (ae c4) ?_
  refine(ED m3 uL).mono ?_
  rintro _ H4 ⟨rfl,SQ,m4,e4,Re⟩
  have nB1:¬B.S H.size:=fun h=>EF ((hS _).2 (.inr (.inl h)))
  have nB2:¬B.S H1.size:=fun h=>CG ((hS _).2 (.inr (.inl h)))
  have b5:=e4.own b4 nB1
  have c5:=e4.own c4 nB2
  have ho4:=e4.own ho3 d2
  have hz4:=e4.size
  refine v2 (ae c5) b5 ?_
  obtain⟨e6,b6⟩:=Rh b5 [i64 x',Value.int .u32 ((A.bV x':Nat):Int)]
  refine v1 (ae b6) ?_
  have L9:∀z,G3 z→Sn z∨H2.size≤z:=G0
  have hB':∀z,(US.mk B.a B.sb SQ).S z→B.S z∨H3.size≤z:=fun z hz=>by
   rcases hz with h|h|h
   ·exact .inl (.inl h)
   ·exact .inl (.inr (.inl h))
   ·exact(Re z h).imp_left fun h=>.inr (.inr h)
  have hiT:I H4 G3 (w.put x' (0,0,0)):=n.ext rR e4 (fun z hz hb=>by
   rcases L9 z hz with h|h
   ·exact(d1 z h).1 hb
   ·have:=EC z hb;omega)
  have abV:=fun z hz=>n.slt rR z hz
  have nn1:∀b,¬S1 b→b<H2.size→¬G3 b∧¬ (US.mk B.a B.sb SQ).S b:=fun b hb qv=>by
   refine⟨fun h=>?_,fun h=>?_⟩
   ·rcases L9 b h with h|h
    ·exact hb ((hS b).2 (.inl h))
    ·omega
   ·rcases hB' b h with h|h
    ·exact hb ((hS b).2 (.inr (.inl h)))
    ·omega
  have afZ:H.size≠s:=fun e=>EF ((hS _).2 (.inr (.inr e)))
  have uN:=Ar.zH uL
  have ma:E0 H4 s (fun z=>G3 z∨(US.mk B.a B.sb SQ).S z∨z=s) (w.put x' (0,0,0)) (A.back x') q:=by
   refine⟨t,vv,I,G3,⟨B.a,B.sb,SQ⟩,k,d,n,hiT,m4,ho4,fun z hz=>?_,fun h=>?_,fun z=>Iff.rfl,KA.put uN rfl⟩
   ·rcases L9 z hz with h|h
    ·refine⟨fun hb=>?_,(d1 z h).2⟩
     rcases hB' z hb with h2|h2
     ·exact(d1 z h).1 h2
     ·have:=abV z hz;omega
    ·refine⟨fun hb=>?_,fun e=>by omega⟩
     rcases hB' z hb with h2|h2
     ·have:=EC z h2;omega
     ·have:=abV z hz;omega
   ·rcases hB' _ h with h2|h2
    ·exact d2 h2
    ·omega
  have af0:=ma.tmp (b:=H.size) (l:=[i64 x',Value.int .u32 ((A.bV x':Nat):Int)]) (fun h=>by
   obtain⟨q1,q2⟩:=nn1 _ EF (by omega)
   rcases h with h|h|h
   ·exact q1 h
   ·exact q2 h
   ·exact afZ h)
  have e04:ag S H H4:=by
   have e2:ag S H H2:=((f0.mono fun _ _ h=>h.elim).trans e1).trans (f2.mono fun _ _ h=>h.elim)
   exact⟨by have:=e2.size;omega,fun z hz hn=>by
    have dP:=e2.size
    have G4:¬S1 z:=fun h=>by rcases et z h with h|h;exact hn h;omega
    rw[e4.aG z (by omega) (fun h=>G4 ((hS z).2 (.inr (.inl h)))),e3.aG z (by omega) (fun h=>G4 ((hS z).2 (.inl h))),e2.aG z hz hn]⟩
  have dP:=f2.size
  refine .inr ⟨x',y,hx,hy,rfl,E2 af0 (E3 e04 (aoB _)) (fun z hz=>?_)⟩
  have Kt:S1 z∨H2.size≤z:=by
   rcases hz with h|h|h
   ·rcases L9 z h with h|h
    ·exact .inl ((hS z).2 (.inl h))
    ·exact .inr h
   ·rcases hB' z h with h|h
    ·exact .inl ((hS z).2 (.inr (.inl h)))
    ·exact .inr (by omega)
   ·exact .inl ((hS z).2 (.inr (.inr h)))
  rcases Kt with h|h
  ·exact(et z h).imp_right fun h=>by omega
  ·exact .inr (by omega)
end
end Go.Proofs.YthpjfeolagohkaaGreat

namespace Go.Proofs.YthpjfeolagohkaaGreat
open Go Go.Vc
abbrev Mb(kd dd:Int):Value:=.agg [i64 kd,i64 dd].toArray
def kM(kd dd:Int):Prop:=(1≤kd∧kd≤8)∧((kd=2∧2≤dd∧dd≤16)∨(kd≠2∧dd=0))
instance(kd dd:Int):Decidable (kM kd dd):=by unfold kM;exact inferInstance
def Rj(kd dd:Int):Int:=if kd<1∨8<kd then 21 else if kM kd dd then 0 else 22
theorem SS{kd dd:Int}(h:kd<1∨8<kd):Rj kd dd=21:=by unfold Rj;rw[if_pos h]
theorem Qv{kd dd:Int}(h:kM kd dd):Rj kd dd=0:=by
 have:=h.1
 unfold Rj
 rw[if_neg (by omega),if_pos h]
theorem ST{kd dd:Int}(h1:¬ (kd<1∨8<kd))(h:¬kM kd dd):Rj kd dd=22:=by unfold Rj;rw[if_neg h1,if_neg h]
theorem Mc{kd dd:Int}:Rj kd dd=0↔kM kd dd:=by
 constructor
 ·intro h
  apply aoJ
  intro hn
  by_cases h1:kd<1∨8<kd
  ·rw[SS h1]at h;cases h
  ·rw[ST h1 hn]at h;cases h
 ·exact Qv
theorem nq(kd dd:Int)(H:Hp):af Tryz.prog Hj [Mb kd dd] H fun v H'=>ar (v=i64 (Rj kd dd)∧am H H'):=by
 refine aZ Hw ?_
 refine vs ?_
 have f0:am H (H.new 23 [i64 kd,i64 dd]):=(ag.refl _ _).new _ _
 repeat' (refine ai.dec (fun _=>?_) (fun _=>?_)<;>try(refine v1 aoW ?_))
 all_goals
  first
   | (exfalso;omega)
   | (refine⟨?_,f0⟩;exact(aoD i64 (SS (by omega))).symm)
   | (refine⟨?_,f0⟩;exact(aoD i64 (Qv (by unfold kM;omega))).symm)
   | (refine⟨?_,f0⟩;exact(aoD i64 (ST (by omega) (by unfold kM;omega))).symm)
theorem Gd(kd dd:Int)(H:Hp):af Tryz.prog Hf [Mb kd dd] H fun v H'=>ar (v=i64 (Rj kd dd)∧am H H'):=by
 refine aZ Ht ?_
 refine vs ?_
 have f0:am H (H.new 23 [i64 kd,i64 dd]):=(ag.refl _ _).new _ _
 repeat' (refine ai.dec (fun _=>?_) (fun _=>?_)<;>try(refine v1 aoW ?_))
 all_goals
  first
   | (exfalso;omega)
   | (refine⟨?_,f0⟩;exact(aoD i64 (SS (by omega))).symm)
   | (refine⟨?_,f0⟩;exact(aoD i64 (Qv (by unfold kM;omega))).symm)
   | (refine⟨?_,f0⟩;exact(aoD i64 (ST (by omega) (by unfold kM;omega))).symm)
theorem ol{kd dd:Int}(hf:kM kd dd)(hk:kd=1∨kd=2)(H:Hp):af Tryz.prog Hl [Mb kd dd] H fun v H'=>ar (v=i64 (if kd=1 then 2 else dd)∧am H H'):=by
 refine aZ Hy ?_
 refine vs ?_
 have f0:am H (H.new 23 [i64 kd,i64 dd]):=(ag.refl _ _).new _ _
 have o0:(H.new 23 [i64 kd,i64 dd]).own H.size=some [i64 kd,i64 dd]:=aD _ _ _
 generalize H.new 23 [i64 kd,i64 dd]=H0 at*
 refine(nq kd dd H0).mono ?_
 rintro _ H1 ⟨rfl,f1⟩
 have o1:=f1.own o0 (fun h=>h)
 rw[Qv hf]
 refine v2 (ae o1) aoW ?_
 rcases hk with rfl|rfl
 ·refine ai.bI (by decide) ?_
  refine v2 (ae o1) aoW ?_
  exact⟨rfl,f0.trans f1⟩
 ·refine ai.aP (by decide) ?_
  refine v2 (ae o1) aoW ?_
  exact⟨rfl,f0.trans f1⟩
end Go.Proofs.YthpjfeolagohkaaGreat
