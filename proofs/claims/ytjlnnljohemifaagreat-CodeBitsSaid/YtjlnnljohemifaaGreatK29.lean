/- Texts put behind each other. -/
import Derived.Test.YtjlnnljohemifaaGreatK98
import Derived.Test.YtjlnnljohemifaaGreatK13
import Derived.Test.YtjlnnljohemifaaGreatK25
import Derived.Test.YtjlnnljohemifaaGreatK26
import Derived.Test.YtjlnnljohemifaaGreatK28
set_option maxRecDepth 100000
set_option maxHeartbeats 8000000
set_option linter.unusedVariables false
set_option linter.unusedSimpArgs false
namespace Go.Proofs.YtjlnnljohemifaaGreat
open Go Go.Vc
section
variable {H H' : Hp} {B : TN} {A A' : Ar} {T : Nat → Prop} {x : Int}
theorem Ar.vr{A A':Ar}{x:Int}(h:A.pick=some (x,A'))(ok:w7 A):(0≤x∧x<A.g.length)∧¬A.live x∧x∉A'.wt∧x<A'.nx∧A'.g=A.g∧A'.ct=A.ct∧A'.mo=A.mo:=by
 have JU:=ok.nx
 unfold Ar.pick at h
 split at h
 ·rename_i aP
  injection h with h
  injection h with h1 h2
  subst h1 h2
  have hw:A.wt=A.wt.dropLast++[A.wt.getLastD 0]:=by
   conv=>lhs;rw[←List.dropLast_concat_getLast aP]
   rw[ao1,List.getLast?_eq_some_getLast aP]
   rfl
  have hm:A.wt.getLastD 0∈A.wt:=by rw[hw];simp
  have h5:=ok.wl _ hm
  refine⟨by omega,h5.1,fun hd=>?_,h5.2.1,rfl,rfl,rfl⟩
  have gk:=ok.wd
  rw[hw,aof]at gk
  exact gk.2.2 _ hd _ (by simp) rfl
 ·split at h
  ·cases h
  ·rename_i h1 h2
   injection h with h
   injection h with h3 h4
   subst h3 h4
   refine⟨by omega,ok.fr _ (aoX _),fun hm=>?_,by simp only;omega,rfl,rfl,rfl⟩
   have:=ok.wl _ hm
   omega
theorem Ar.nE{A A':Ar}{x y:Int}{v:Nat}{b:Bool}(hx:0≤x∧x<A.g.length)(h:A'.g=A.g.set x.toNat (v,b))(hy:0≤y):A'.live y↔if y=x then b=true else A.live y:=by
 unfold Ar.live
 rw[h]
 by_cases e:y=x
 ·rw[if_pos e,e,anB (by omega)]
  simp[hx.1]
 ·rw[if_neg e,anA (by omega)]
theorem Ar.EF{A A':Ar}{x y:Int}{v:Nat}{b:Bool}(hx:0≤x∧x<A.g.length)(h:A'.g=A.g.set x.toNat (v,b))(hy:0≤y):A'.bz y=if y=x then v else A.bz y:=by
 unfold Ar.bz
 rw[h,anx,anx]
 by_cases e:y=x
 ·rw[if_pos e,e,anB (by omega)];rfl
 ·rw[if_neg e,anA (by omega)]
theorem w7.out{A A':Ar}{x:Int}(ok:w7 A')(hg:A'.g=A.g)(hx:0≤x∧x<A'.g.length)(hl:¬A'.live x)(hw:x∉A'.wt)(hn:x<A'.nx):w7 (A'.out x):=by
 obtain⟨b,hb,Dc⟩:=Ar.get hx
 have WC:b=false:=by cases b;rfl;exact absurd (Dc.2 rfl) hl
 refine⟨fun y hy=>?_,ok.wd,fun y hy rU=>?_,?_,?_⟩
 ·obtain⟨h1,h2,h3⟩:=ok.wl y hy
  refine⟨fun h=>?_,h2,h3⟩
  rw[Ar.nE (A:=A') hx rfl h3,if_neg (fun e=>hw (by rw[←e];exact hy))]at h
  exact h1 h
 ·have Wp:=rU.1
  have DO:(A'.nx:Int)≤y:=hy
  rw[Ar.nE (A:=A') hx rfl Wp,if_neg (by omega)]at rU
  exact ok.fr y DO rU
 ·have:=count_set hb (A'.bz x+1) true
  rw[WC]at this
  have h2:=ok.ct
  show A'.ct+1=(((A'.g.set x.toNat (A'.bz x+1,true)).countP (·.2):Nat):Int)
  unfold Ar.aR at h2
  simp at this
  omega
 ·show A'.nx≤(A'.g.set x.toNat _).length
  rw[anv];exact ok.nx
theorem w7.back{A:Ar}{x:Int}(ok:w7 A)(hl:A.live x):w7 (A.back x):=by
 have hx:=Ar.AU hl
 obtain⟨b,hb,Dc⟩:=Ar.get hx
 have hbt:=Dc.1 hl
 have Dl:x<A.nx:=anW fun h=>ok.fr x (by omega) hl
 have Vd:x∉A.wt:=fun h=>(ok.wl x h).1 hl
 have hnl:¬ (A.back x).live x:=fun h=>by
  rw[Ar.nE (A:=A) hx rfl hx.1,if_pos rfl]at h
  cases h
 have CB:∀y,0≤y→(A.back x).live y→A.live y:=fun y h0 h=>by
  rw[Ar.nE (A:=A) hx rfl h0]at h
  split at h
  ·cases h
  ·exact h
 refine⟨fun y hy=>?_,?_,fun y hy rU=>ok.fr y hy (CB y rU.1 rU),?_,?_⟩
 ·have DO:y∈(if A.bz x<A.mo then A.wt++[x]else A.wt):=hy
  have JV:y∈A.wt∨y=x:=by
   split at DO
   ·rcases anH.1 DO with h|h
    ·exact .inl h
    ·exact .inr (anC.1 h)
   ·exact .inl DO
  rcases JV with h|h
  ·obtain⟨h1,h2,h3⟩:=ok.wl y h
   exact⟨fun h4=>h1 (CB y h3 h4),h2,h3⟩
  ·rw[h];exact⟨hnl,Dl,hx.1⟩
 ·show(if A.bz x<A.mo then A.wt++[x]else A.wt).Nodup
  split
  ·rw[aof]
   refine⟨ok.wd,by simp,fun u hu v hv e=>Vd ?_⟩
   rw[anC.1 hv]at e
   rw[←e];exact hu
  ·exact ok.wd
 ·have:=count_set hb (A.bz x) false
  rw[hbt]at this
  have h2:=ok.ct
  show A.ct - 1=(((A.g.set x.toNat (A.bz x,false)).countP (·.2):Nat):Int)
  unfold Ar.aR at h2
  simp at this
  omega
 ·show A.nx≤(A.g.set x.toNat _).length
  rw[anv];exact ok.nx
theorem D7(m:Jp H B A):af Tryz.prog yq [ptr B.a] H fun v H'=>aw (
  (A.pick=none∧v= .tuple [i64 0,.bool false].toArray∧H'=H)∨(∃x A',A.pick=some (x,A')∧v= .tuple [i64 x,.bool true].toArray∧Jp H' B A'∧ag (fun z=>z=B.a) H H')):=by
 obtain⟨tv,o1,s1⟩:=m.own
 obtain⟨wa,wc,rfl⟩:=Sl.shape s1
 have hwl:=m.wtl.1
 have di:=m.len
 have JU:=m.ok.nx
 refine bm yM ?_
 refine v1 (ae o1) ?_
 refine am.dec (fun h0=>?_) (fun h0=>?_)
 ·have aP:A.wt≠[]:=fun h=>by rw[h]at h0;simp at h0
  obtain⟨k,hk⟩:∃k,A.wt.length=k+1:=⟨A.wt.length - 1,by omega⟩
  obtain⟨x,hx⟩:∃x,A.wt[k]? =some x:=⟨_,ans (by omega)⟩
  have iY:A.wt.getLastD 0=x:=by
   rw[ao1,List.getLast?_eq_getElem?,hk,Nat.add_sub_cancel,hx]
   rfl
  have hdl:A.wt.dropLast=A.wt.take k:=by rw[ao0,hk,Nat.add_sub_cancel]
  have YJ:A.pick=some (x,{A with wt:=A.wt.take k}):=by
   unfold Ar.pick
   rw[if_pos aP,iY,hdl]
  obtain⟨b,lb,c,xJ,Qy,qb,qk,_,_,_⟩:∃b lb c,Value.slice wa A.wt.length wc= .slice (some ⟨b,0,none⟩) A.wt.length c∧B.fo=some b∧H.own b=some lb∧lb[k]? =some (i64 x)∧k<A.wt.length∧A.wt.length≤lb.length∧True:=by
   obtain⟨h1,b,lb,rfl,q2,q3⟩:=Sl.zg s1 hx
   have sE:=s1
   revert sE
   cases Qy:B.fo with
   |none=>intro sE;have:=sE.2.2;injection this with h1;cases h1
   |some b'=>
    intro sE
    obtain⟨_,Ve,c',hs,ho,hc,oY,_⟩:=sE
    injection hs with eM K7 Gx
    injection eM with eM
    injection eM with eM
    subst eM Gx
    rw[q2]at ho
    injection ho with ho
    subst ho
    exact⟨b,lb,wc,rfl,rfl,q2,q3,h1,by omega,trivial⟩
  injection xJ with eM K7 Gx
  subst eM Gx
  obtain⟨_,Ve,c',hs,ho,hc,oY,ht⟩:(A.wt.map i64).length=A.wt.length*1∧∃l c',Value.slice (some ⟨b,0,none⟩) A.wt.length wc= .slice (some ⟨b,0,none⟩) A.wt.length c'∧H.own b=some l∧A.wt.length≤c'∧c'*1≤l.length∧l.take (A.wt.length*1)=A.wt.map i64:=by
   have:=s1
   rw[Qy]at this
   exact this
  injection hs with _ _ hs
  subst hs
  rw[qb]at ho
  injection ho with ho
  subst ho
  rw[anw]at oY ht
  refine v1 (ae o1) ?_
  rw[wrap64 (n:=(A.wt.length:Int) - 1) (by omega) (by omega)]
  refine⟨⟨by omega,by omega⟩,?_⟩
  rw[show((A.wt.length:Int) - 1).toNat=k by omega]
  refine v5 (ae qb) ant anw qk (ae o1) ?_
  rw[wrap64 (n:=(A.wt.length:Int) - 1) (by omega) (by omega)]
  refine⟨⟨by omega,by omega,by omega,by omega⟩,?_⟩
  refine v1 o1 ?_
  rw[if_neg (show¬ (wc:Int)=((0:Nat):Int) by omega)]
  have e1:∀l,ag (fun z=>z=B.a) H (H.wr B.a l):=fun l=>(ag.refl (fun z=>z=B.a) _).wr (fun _=>rfl) _
  have Mc:(A.wt.take k).length=k:=by rw[aoj];omega
  refine .inr ⟨x,_,YJ,rfl,⟨⟨_,ah o1,?_⟩,(e1 _).own m.sl (Ne.symm m.ne.1),m.ne,m.len,⟨fun y hy=>m.ok.wl y (List.mem_of_mem_take hy),m.ok.wd.sublist (List.take_sublist _ _),m.ok.fr,m.ok.ct,m.ok.nx⟩,m.gs,m.mo⟩,e1 _⟩
  have hb:b≠B.a:=fun e=>m.ne.2.1 (by rw[Qy,e])
  refine⟨by simp,?_⟩
  rw[Qy]
  refine⟨lb,wc,?_,(e1 _).own qb hb,by rw[Mc];omega,by rw[anw];exact oY,?_⟩
  ·rw[Mc,show((A.wt.length:Int) - 1).toNat - ((0:Nat):Int).toNat=k by omega]
   simp[Addr.add]
  ·rw[anw,List.map_take,←ht,apu]
   congr 1
   rw[Mc]
   omega
 ·refine v1 (ae o1) ?_
  have he:A.wt=[]:=an5.1 (by omega)
  refine am.dec (fun h1=>?_) (fun h1=>?_)
  ·refine vs ?_
   refine .inl ⟨?_,rfl,rfl⟩
   unfold Ar.pick
   rw[if_neg (by simp[he]),if_pos (by omega)]
  ·refine v2 (ae o1) o1 ?_
   rw[wrap64 (n:=(A.nx:Int)+1) (by omega) (by omega)]
   have e1:∀l,ag (fun z=>z=B.a) H (H.wr B.a l):=fun l=>(ag.refl (fun z=>z=B.a) _).wr (fun _=>rfl) _
   have q1:∀l,(H.wr B.a l).own B.a=some l:=fun l=>ah o1
   simp(disch:=(first|omega| (simp only[Zs]<;>omega)|fail)) only[go_sem, ↓reduceIte,Zv,ae (q1 _)]
   rw[wrap64 (n:=(A.nx:Int)+1 - 1) (by omega) (by omega)]
   have YJ:A.pick=some ((A.nx:Int),{A with nx:=A.nx+1}):=by
    unfold Ar.pick
    rw[if_neg (by simp[he]),if_neg (by omega)]
   rw[show(A.nx:Int)+1 - 1=(A.nx:Int) by omega]
   refine .inr ⟨_,_,YJ,rfl,⟨⟨.slice wa A.wt.length wc,q1 _,s1.ext (e1 _) (fun b hb e=>m.ne.2.1 (by rw[hb,e]))⟩,(e1 _).own m.sl (Ne.symm m.ne.1),m.ne,m.len,⟨fun y hy=>by have:=m.ok.wl y hy;exact⟨this.1,by simp only;omega,this.2.2⟩,m.ok.wd,fun y hy=>m.ok.fr y (by simp only at hy;omega),m.ok.ct,by simp only;omega⟩,m.gs,m.mo⟩,e1 _⟩
theorem Ar.Oj(A:Ar):A.aR≤A.g.length:=aps
theorem D9(m:Jp H B A)(WD:∀x:Int,0≤x→x<A.g.length→A.bz x<4294967295):af Tryz.prog yo [ptr B.a] H fun v H'=>aw (
  (A.pick=none∧v= .tuple [gk 0 0,i64 32].toArray∧Jp H' B A∧ai H H')∨(∃x A',A.pick=some (x,A')∧v= .tuple [gk x (A.bz x+1),i64 0].toArray∧Jp H' B (A'.out x)∧ag B.S H H')):=by
 have eQ:=m.slt
 refine bm yK ?_
 refine vs ?_
 have f0:ai H (H.new 114 [Value.int .i64 0,Value.int .u32 0]):=(ag.refl _ _).new _ _
 have b0:(H.new 114 [Value.int .i64 0,Value.int .u32 0]).own H.size=some [Value.int .i64 0,Value.int .u32 0]:=aB _ _ _
 have m0:=m.ext f0 (fun _ _ h=>h)
 generalize H.new 114 [Value.int .i64 0,Value.int .u32 0]=H0 at*
 have Ea:∀z,B.S z→z≠H.size:=fun z hz=>by have:=eQ z hz;omega
 refine(D7 m0).mono ?_
 rintro _ H1 (⟨hp,rfl,e⟩| ⟨x,A',hp,rfl,m1,e1⟩)
 ·obtain rfl:=e.symm
  refine v1 b0 ?_
  have e1:ag (fun z=>z=H.size) H0 (H0.wr H.size [Value.int .i64 0,Value.int .u32 0]):=(ag.refl (fun z=>z=H.size) _).wr (fun _=>rfl) _
  have b1:(H0.wr H.size [Value.int .i64 0,Value.int .u32 0]).own H.size=some [Value.int .i64 0,Value.int .u32 0]:=ah b0
  refine v1 (ae b1) ?_
  exact .inl ⟨hp,rfl,m0.ext e1 (fun z hz e=>Ea z hz e),f0.then e1 (fun z hz=>by omega)⟩
 obtain⟨uJ,my,Vd,Dl,hg,hct,hmo⟩:=Ar.vr hp m.ok
 have b1:=e1.own b0 (fun e=>Ea B.a (.inl rfl) e.symm)
 obtain⟨Cx,o1,s1⟩:=m1.own
 have di:=m1.len
 have aaz:0≤x∧x<A'.g.length:=by rw[hg];exact uJ
 obtain⟨b,hb,Dc⟩:=Ar.get (A:=A') aaz
 have PF:A'.bz x=A.bz x:=by unfold Ar.bz;rw[hg]
 have hgb:=WD x uJ.1 uJ.2
 obtain⟨c1,c2⟩:=uI hb
 obtain⟨w1,_⟩:=Cy hb
 have hl:=qi A'.g
 refine v1 (ae o1) ?_
 refine⟨⟨by omega,by omega⟩,?_⟩
 refine v5 (ae m1.sl) m1.sl ant Nat.add_zero c1 ?_
 refine⟨by omega,?_⟩
 rw[Ty (n:=(A'.bz x:Int)+1) (by omega) (by omega),show(A'.bz x:Int)+1=((A'.bz x+1:Nat):Int) by omega]
 refine v1 w1 ?_
 have e2:ag (fun z=>z=B.sb) H1 (H1.wr B.sb (dh (A'.g.set x.toNat (A'.bz x+1,b)))):=(ag.refl (fun z=>z=B.sb) _).wr (fun _=>rfl) _
 have q2:(H1.wr B.sb (dh (A'.g.set x.toNat (A'.bz x+1,b)))).own B.sb=some (dh (A'.g.set x.toNat (A'.bz x+1,b))):=ah m1.sl
 generalize H1.wr B.sb (dh (A'.g.set x.toNat (A'.bz x+1,b)))=H2 at*
 have rR:(A'.g.set x.toNat (A'.bz x+1,b))[x.toNat]? =some (A'.bz x+1,b):=anB (by omega)
 obtain⟨d1,_⟩:=uI rR
 have w2:=(Cy rR).2 true
 rw[List.set_set]at w2
 have rU:=qi (A'.g.set x.toNat (A'.bz x+1,b))
 rw[anv]at rU
 refine v3 q2 ant Nat.add_zero ?_
 refine⟨by omega,?_⟩
 refine v1 w2 ?_
 have e3:ag (fun z=>z=B.sb) H2 (H2.wr B.sb (dh (A'.g.set x.toNat (A'.bz x+1,true)))):=(ag.refl (fun z=>z=B.sb) _).wr (fun _=>rfl) _
 have q3:(H2.wr B.sb (dh (A'.g.set x.toNat (A'.bz x+1,true)))).own B.sb=some (dh (A'.g.set x.toNat (A'.bz x+1,true))):=ah q2
 generalize H2.wr B.sb (dh (A'.g.set x.toNat (A'.bz x+1,true)))=H3 at*
 have D4:=e2.trans e3
 have o3:=D4.own o1 m.ne.1
 have aeZ:=m1.ok.ct
 have aaA:=Ar.Oj A'
 refine v2 (ae o3) o3 ?_
 rw[wrap64 (n:=A'.ct+1) (by omega) (by omega)]
 have e4:∀l,ag (fun z=>z=B.a) H3 (H3.wr B.a l):=fun l=>(ag.refl (fun z=>z=B.a) _).wr (fun _=>rfl) _
 have q4:∀l,(H3.wr B.a l).own B.a=some l:=fun l=>ah o3
 have Qz:=(e4 [.slice (some ⟨B.sb,0,none⟩) A'.g.length A'.g.length,Cx,i64 A'.nx,i64 (A'.ct+1),.int .u32 (A'.mo:Int)]).own q3 (Ne.symm m.ne.1)
 have b3:=(e4 [.slice (some ⟨B.sb,0,none⟩) A'.g.length A'.g.length,Cx,i64 A'.nx,i64 (A'.ct+1),.int .u32 (A'.mo:Int)]).own (D4.own b1 (fun e=>Ea B.sb (.inr (.inl rfl)) e.symm)) (fun e=>Ea B.a (.inl rfl) e.symm)
 have TI:(A'.g.set x.toNat (A'.bz x+1,true))[x.toNat]? =some (A'.bz x+1,true):=anB (by omega)
 obtain⟨d3,_⟩:=uI TI
 have s4:=(s1.ext D4 (fun b hb e=>m.ne.2.2 (by rw[hb,e]))).ext (e4 [.slice (some ⟨B.sb,0,none⟩) A'.g.length A'.g.length,Cx,i64 A'.nx,i64 (A'.ct+1),.int .u32 (A'.mo:Int)]) (fun b hb e=>m.ne.2.1 (by rw[hb,e]))
 have m4:Jp (H3.wr B.a [.slice (some ⟨B.sb,0,none⟩) A'.g.length A'.g.length,Cx,i64 A'.nx,i64 (A'.ct+1),.int .u32 (A'.mo:Int)]) B (A'.out x):=by
  refine⟨⟨Cx,?_,s4⟩,Qz,m.ne,?_,m1.ok.out hg aaz (fun h=>my (by unfold Ar.live at h ⊢;rw[hg]at h;exact h)) Vd Dl,fun y hy=>?_,m1.mo⟩
  ·show _=some [.slice (some ⟨B.sb,0,none⟩) (A'.g.set x.toNat (A'.bz x+1,true)).length (A'.g.set x.toNat (A'.bz x+1,true)).length,Cx,i64 A'.nx,i64 (A'.ct+1),.int .u32 (A'.mo:Int)]
   rw[anv]
   exact q4 _
  ·show(A'.g.set x.toNat (A'.bz x+1,true)).length≤_
   rw[anv];exact di
  ·rcases aow hy with h|h
   ·exact m1.gs y h
   ·rw[h];simp only;omega
 have e4':=e4 [.slice (some ⟨B.sb,0,none⟩) A'.g.length A'.g.length,Cx,i64 A'.nx,i64 (A'.ct+1),.int .u32 (A'.mo:Int)]
 generalize H3.wr B.a [.slice (some ⟨B.sb,0,none⟩) A'.g.length A'.g.length,Cx,i64 A'.nx,i64 (A'.ct+1),.int .u32 (A'.mo:Int)]=H4 at*
 have vt:ag B.S H H4:=((f0.mono fun _ _ h=>h.elim).trans (e1.mono fun z _ h=>.inl h)).trans ((D4.mono fun z _ h=>.inr (.inl h)).trans (e4'.mono fun z _ h=>.inl h))
 refine v5 (ae Qz) ant Nat.add_zero d3 b3 ?_
 have e5:ag (fun z=>z=H.size) H4 (H4.wr H.size [Value.int .i64 x,Value.int .u32 ((A'.bz x+1:Nat):Int)]):=(ag.refl (fun z=>z=H.size) _).wr (fun _=>rfl) _
 have b5:(H4.wr H.size [Value.int .i64 x,Value.int .u32 ((A'.bz x+1:Nat):Int)]).own H.size=some [Value.int .i64 x,Value.int .u32 ((A'.bz x+1:Nat):Int)]:=ah b3
 refine v1 (ae b5) ?_
 refine .inr ⟨x,A',hp,by rw[PF];rfl,m4.ext e5 (fun z hz e=>Ea z hz e),⟨aor vt.size e5.size,fun z hz hn=>?_⟩⟩
 rw[e5.aM z (anT hz vt.size) (fun e=>by omega),vt.aM z hz hn]
theorem Eb(m:Jp H B A){x:Int}(hx:A.live x):af Tryz.prog yj [ptr B.a,gk x (A.bz x)] H fun v H'=>aw (v=i64 0∧∃RG,Jp H' ⟨B.a,B.sb,RG⟩ (A.back x)∧ag B.S H H'∧∀z,RG=some z→B.fo=some z∨H.size≤z):=by
 have eQ:=m.slt
 have uJ:=Ar.AU hx
 obtain⟨b,hb,Dc⟩:=Ar.get (A:=A) uJ
 obtain rfl:=Dc.1 hx
 have hl:=qi A.g
 have w1:=(Cy hb).2 false
 have di:=m.len
 have aeZ:=m.ok.ct
 have aaA:=Ar.Oj A
 refine Gv yH ⟨rfl,?_⟩
 refine v1 ng.eq_1 ?_
 have f0:ai H (H.new 114 [i64 x,.int .u32 (A.bz x:Int)]):=(ag.refl _ _).new _ _
 have b0:(H.new 114 [i64 x,.int .u32 (A.bz x:Int)]).own H.size=some [i64 x,.int .u32 (A.bz x:Int)]:=aB _ _ _
 have m0:=m.ext f0 (fun _ _ h=>h)
 generalize H.new 114 [i64 x,.int .u32 (A.bz x:Int)]=H0 at*
 have Ea:∀z,B.S z→z≠H.size:=fun z hz=>by have:=eQ z hz;omega
 refine(sJ m0 x (A.bz x)).mono ?_
 rintro _ H1 ⟨rfl,f1⟩
 rw[anI ⟨hx,rfl⟩]
 have m1:=m0.ext f1 (fun _ _ h=>h)
 have b1:=f1.own b0 (fun h=>h)
 obtain⟨Cx,o1,s1⟩:=m1.own
 refine v2 (ae o1) (ae b1) ?_
 refine⟨⟨by omega,by omega⟩,?_⟩
 refine v2 m1.sl ant ?_
 refine⟨by omega,?_⟩
 refine v1 w1 ?_
 have e2:ag (fun z=>z=B.sb) H1 (H1.wr B.sb (dh (A.g.set x.toNat (A.bz x,false)))):=(ag.refl (fun z=>z=B.sb) _).wr (fun _=>rfl) _
 have q2:(H1.wr B.sb (dh (A.g.set x.toNat (A.bz x,false)))).own B.sb=some (dh (A.g.set x.toNat (A.bz x,false))):=ah m1.sl
 generalize H1.wr B.sb (dh (A.g.set x.toNat (A.bz x,false)))=H2 at*
 have o2:=e2.own o1 m.ne.1
 have b2:=e2.own b1 (fun e=>Ea B.sb (.inr (.inl rfl)) e.symm)
 refine v2 (ae o2) o2 ?_
 rw[wrap64 (n:=A.ct - 1) (by omega) (by omega)]
 have e3:∀l,ag (fun z=>z=B.a) H2 (H2.wr B.a l):=fun l=>(ag.refl (fun z=>z=B.a) _).wr (fun _=>rfl) _
 have q3:∀l,(H2.wr B.a l).own B.a=some l:=fun l=>ah o2
 have b3:=fun l=>(e3 l).own b2 (fun e=>Ea B.a (.inl rfl) e.symm)
 have q2':=fun l=>(e3 l).own q2 (Ne.symm m.ne.1)
 have s3:=fun l=>(s1.ext e2 (fun b hb e=>m.ne.2.2 (by rw[hb,e]))).ext (e3 l) (fun b hb e=>m.ne.2.1 (by rw[hb,e]))
 obtain⟨l3,RE⟩:∃l3,l3=[.slice (some ⟨B.sb,0,none⟩) A.g.length A.g.length,Cx,i64 A.nx,i64 (A.ct - 1),.int .u32 (A.mo:Int)]:=⟨_,rfl⟩
 have Qz:=q3 l3
 have WE:=b3 l3
 have TO:=q2' l3
 have s3':=s3 l3
 have YK:=e3 l3
 rw[RE]at Qz WE TO s3' YK
 generalize H2.wr B.a [.slice (some ⟨B.sb,0,none⟩) A.g.length A.g.length,Cx,i64 A.nx,i64 (A.ct - 1),.int .u32 (A.mo:Int)]=H3 at*
 have D4:ag B.S H H3:=((f0.mono fun _ _ h=>h.elim).trans (f1.mono fun _ _ h=>h.elim)).trans ((e2.mono fun z _ h=>.inr (.inl h)).trans (YK.mono fun z _ h=>.inl h))
 have tS:=m.ok.back hx
 have Vf:∀y∈(A.back x).g,y.1≤4294967295:=fun y hy=>by
  rcases aow hy with h|h
  ·exact m.gs y h
  ·rw[h]
   exact m.gs (A.bz x,true) (anz hb)
 have aX:(A.back x).g.length=A.g.length:=anv ..
 refine v2 (ae WE) (ae Qz) ?_
 refine am.dec (fun hm=>?_) (fun hm=>?_)
 rotate_left
 ·refine vs ?_
  have VO:(A.back x).wt=A.wt:=by show(if A.bz x<A.mo then _ else _)=_;rw[if_neg (by omega)]
  refine⟨rfl,B.fo,⟨⟨Cx,by rw[aX];exact Qz,by rw[VO];exact s3'⟩,TO,m.ne,by rw[aX];exact di,tS,Vf,m.mo⟩,D4,fun z hz=>.inl hz⟩
 have VO:(A.back x).wt=A.wt++[x]:=by show(if A.bz x<A.mo then _ else _)=_;rw[if_pos (by omega)]
 have hwl:=m.wtl.1
 obtain⟨ta,tc,rfl⟩:=Sl.shape s3'
 refine vs ?_
 refine jX.intro (fun H'=>True) trivial ?_
 refine vs ?_
 have We:H.size<H3.size:=aA WE
 have has:B.a<H3.size:=aA Qz
 have fin:∀ (K:Value→Hp→Prop),(∀w' H4 cO,Sl H4 1 w' (A.wt++[x]).length ((A.wt++[x]).map i64) cO→(cO=B.fo∨∃z,cO=some z∧H3.size≤z∧z<H4.size)→ag (fun z=>B.fo=some z) H3 H4→K w' H4)→
   fW 3 1 8 [i64 0] (.slice ta A.wt.length tc) (.slice (some ⟨H3.size,0,none⟩) 1 1) (H3.new 3 [i64 x]) K:=fun K hK=>by
  exact RD s3' x (by omega) fun w' H' cO h1 h2 h3=>hK w' H' cO h2 h1 h3
 refine EB.intro ?C ?D
 case' C=>
  refine v2 (ae Qz) (ae WE) ?_
 case' D=>
  refine v2 (ae Qz) (ae WE) ?_
  refine EB.intro ?E ?F
  case' E=>
   refine v2 (ae Qz) (ae WE) ?_
  case' F=>
   refine v2 (ae Qz) (ae WE) ?_
 all_goals
  refine fin _ fun w' H4 cO s4 gu e4=>?_
  obtain⟨wa,wc,rfl⟩:=Sl.shape s4
  have o4:=e4.own Qz (fun e=>m.ne.2.1 e)
  have q4:=e4.own TO (fun e=>m.ne.2.2 e)
  refine v1 o4 ?_
  have e5:∀l,ag (fun z=>z=B.a) H4 (H4.wr B.a l):=fun l=>(ag.refl (fun z=>z=B.a) _).wr (fun _=>rfl) _
  have ajO:=D4.size
  refine⟨rfl,cO,⟨⟨_,by rw[aX];exact ah o4,?_⟩,(e5 _).own q4 (Ne.symm m.ne.1),⟨m.ne.1,fun h=>?_,fun h=>?_⟩,by rw[aX];exact di,tS,Vf,m.mo⟩,?_,fun z hz=>?_⟩
  ·rw[VO]
   refine s4.ext (e5 _) (fun b hb e=>?_)
   rcases gu with h| ⟨y,h,h2,_⟩
   ·exact m.ne.2.1 (by rw[←h,hb,e])
   ·rw[h]at hb;injection hb with hb;omega
  ·rcases gu with h2| ⟨y,h2,h3,_⟩
   ·exact m.ne.2.1 (by rw[←h2];exact h)
   ·rw[h2]at h;injection h with h;simp only at h;omega
  ·rcases gu with h2| ⟨y,h2,h3,_⟩
   ·exact m.ne.2.2 (by rw[←h2];exact h)
   ·have:=aA TO
    rw[h2]at h;injection h with h;simp only at h;omega
  ·exact(D4.trans (e4.mono fun z _ h=>.inr (.inr h))).trans ((e5 _).mono fun z _ h=>.inl h)
  ·rcases gu with h2| ⟨y,h2,h3,_⟩
   ·exact .inl (by rw[←h2];exact hz)
   ·rw[h2]at hz;injection hz with hz;exact .inr (by omega)
end
end Go.Proofs.YtjlnnljohemifaaGreat

namespace Go.Proofs.YtjlnnljohemifaaGreat
open Go Go.Vc
def Nw.lI(w:Nw)(g x:Int):Prop:=w.has g∧(0≤x∧x<w.cs.length)∧¬cT w.cs x
def Nw.cX(w:Nw)(x k s:Int):Prop:=cT w.cs x∧∀y,w.cs[x.toNat]? =some y→¬ep y.2.1 y.2.2 k s
def cz(I:Hp→(Nat→Prop)→Nw→Prop)(S:Nat→Prop)(H H':Hp)(w':Nw):Prop:=
 ∃S':Nat→Prop,I H' S' w'∧ag S H H'∧∀z,S' z→S z∨H.size≤z
theorem cz.same{I:Hp→(Nat→Prop)→Nw→Prop}{S:Nat→Prop}{H H':Hp}{w':Nw}(h:I H' S w')(e:ag S H H'):cz I S H H' w':=⟨S,h,e,fun z hz=>.inl hz⟩
structure xK(ov:Value)(I:Hp→(Nat→Prop)→Nw→Prop):Prop where
 slt:∀ {H S w},I H S w→∀z,S z→z<H.size
 ext:∀ {H H' S w} {T:Nat→Prop},I H S w→ag T H H'→(∀z,S z→¬T z)→I H' S w
 cells:∀ {H S w},I H S w→∃c C,CQ H c C w
 has:∀ {H S w} (g:Int),I H S w→gI Tryz.prog ov "Has" [i64 g] H fun v H'=>v= .bool (decide (w.has g))∧H=H'
 make:∀ {H S w},I H S w→gI Tryz.prog ov "Make" [] H fun v H'=>
  (w.hs.length=65537∧v=i64 0∧cz I S H H' w)∨(w.hs.length≠65537∧v=i64 w.hs.length∧cz I S H H' w.make)
 insert:∀ {H S w} (g x k s:Int),I H S w→gI Tryz.prog ov "Insert" [i64 g,i64 x,tz k s] H fun v H'=>
  (¬w.lI g x∧v= .bool false∧cz I S H H' w)∨(w.lI g x∧v= .bool true∧cz I S H H' (w.put x (g,k,s)))
 min:∀ {H S w} (g:Int),I H S w→gI Tryz.prog ov "Min" [i64 g] H fun v H'=>
  (w.len g=0∧v= .tuple [i64 0,.bool false].toArray∧cz I S H H' w)∨(∃x,w.first g x∧v= .tuple [i64 x,.bool true].toArray∧cz I S H H' w)
 extract:∀ {H S w} (g:Int),I H S w→gI Tryz.prog ov "Extract" [i64 g] H fun v H'=>
  (w.len g=0∧v= .tuple [i64 0,.bool false].toArray∧cz I S H H' w)∨(∃x,w.first g x∧v= .tuple [i64 x,.bool true].toArray∧cz I S H H' (w.put x (0,0,0)))
 ld:∀ {H S w} (x k s:Int),I H S w→gI Tryz.prog ov "Decrease" [i64 x,tz k s] H fun v H'=>
  (¬w.cX x k s∧v= .bool false∧cz I S H H' w)∨(w.cX x k s∧v= .bool true∧∃y,w.cs[x.toNat]? =some y∧cz I S H H' (w.put x (y.1,k,s)))
 entry:∀ {H S w} (x:Int),I H S w→gI Tryz.prog ov "Entry" [i64 x] H fun v H'=>I H' S w∧ai H H'∧
  ((¬cT w.cs x∧v= .tuple [tz 0 0,.bool false].toArray)∨(cT w.cs x∧∃y,w.cs[x.toNat]? =some y∧v= .tuple [tz y.2.1 y.2.2,.bool true].toArray))
structure RH(w:Nw)(A:Ar):Prop where
 len:w.cs.length=A.g.length
 live:∀x,cT w.cs x↔A.live x
def Ec(H:Hp)(s:Nat)(S:Nat→Prop)(w:Nw)(A:Ar)(q:Int):Prop:=∃ (t:TypeId) (vv:Value) (I:Hp→(Nat→Prop)→Nw→Prop) (Sn:Nat→Prop) (B:TN) (k d:Int),
 xK (.iface t vv) I∧I H Sn w∧Jp H B A∧H.own s=some [i64 k,i64 d,ptr B.a,.iface t vv,u64 q]∧(∀z,Sn z→¬B.S z∧z≠s)∧¬B.S s∧(∀z,S z↔Sn z∨B.S z∨z=s)∧RH w A
theorem Ec.slt{H:Hp}{s:Nat}{S:Nat→Prop}{w:Nw}{A:Ar}{q:Int}(h:Ec H s S w A q):∀z,S z→z<H.size:=by
 obtain⟨t,vv,I,Sn,B,k,d,n,hi,m,ho,d1,d2,hS,hl⟩:=h
 intro z hz
 rcases(hS z).1 hz with h|h|h
 ·exact n.slt hi z h
 ·exact m.slt z h
 ·rw[h];exact aA ho
theorem Ec.ext{H H':Hp}{s:Nat}{S T:Nat→Prop}{w:Nw}{A:Ar}{q:Int}(h:Ec H s S w A q)(e:ag T H H')(hd:∀z,S z→¬T z):Ec H' s S w A q:=by
 obtain⟨t,vv,I,Sn,B,k,d,n,hi,m,ho,d1,d2,hS,hl⟩:=h
 exact⟨t,vv,I,Sn,B,k,d,n,n.ext hi e (fun z hz=>hd z ((hS z).2 (.inl hz))),m.ext e (fun z hz=>hd z ((hS z).2 (.inr (.inl hz)))),e.own ho (hd _ ((hS _).2 (.inr (.inr rfl)))),d1,d2,hS,hl⟩
theorem Ec.lnk{H:Hp}{s:Nat}{S:Nat→Prop}{w:Nw}{A:Ar}{q:Int}(h:Ec H s S w A q):RH w A∧w7 A∧A.g.length≤65536:=by
 obtain⟨t,vv,I,Sn,B,k,d,n,hi,m,ho,d1,d2,hS,hl⟩:=h
 exact⟨hl,m.ok,m.len⟩
def Nd(s:Nat)(S:Nat→Prop)(H H':Hp)(w':Nw)(A':Ar)(q':Int):Prop:=∃S',Ec H' s S' w' A' q'∧ag S H H'∧∀z,S' z→S z∨H.size≤z
section
variable {H H' : Hp} {s : Nat} {S : Nat → Prop} {w : Nw} {A : Ar} {q : Int}
theorem Lq(H:Hp)(T:TypeId)(z l:List Value):ai H ((H.new T z).wr H.size l)∧((H.new T z).wr H.size l).own H.size=some l∧((H.new T z).wr H.size l).size=H.size+1:=by
 have f0:ai H (H.new T z):=(ag.refl _ _).new _ _
 have e1:ag (fun x=>x=H.size) (H.new T z) ((H.new T z).wr H.size l):=(ag.refl (fun x=>x=H.size) _).wr (fun _=>rfl) _
 exact⟨f0.then e1 (fun z hz=>by omega),ah (aB _ _ _),by rw[ec,aq]⟩
theorem Lr{H:Hp}{b:Nat}{l0:List Value}(h:H.own b=some l0)(l:List Value):ag (fun x=>x=b) H (H.wr b l)∧(H.wr b l).own b=some l:=⟨(ag.refl (fun x=>x=b) _).wr (fun _=>rfl) _,ah h⟩
theorem Ee(h:Ec H s S w A q)(hl:w.hs.length<65537):af Tryz.prog ye [ptr s] H fun v H'=>aw (v= .tuple [i64 w.hs.length,i64 0].toArray∧Nd s S H H' w.make A q):=by
 obtain⟨t,vv,I,Sn,B,k,d,n,hi,m,ho,d1,d2,hS,Hv⟩:=h
 obtain⟨c,C,cq⟩:=n.cells hi
 have fY:=cq.pos
 refine bm yD ?_
 refine v1 (ae ho) ?_
 refine(n.make hi).mono ?_
 rintro _ H1 (⟨h1,_⟩| ⟨_,rfl,Ef,hi',e1,eM⟩)
 ·omega
 refine vs ?_
 refine am.dec (fun hh=>by omega) (fun _=>?_)
 refine vs ?_
 have zH:=m.slt
 have hos:=aA ho
 refine⟨rfl,fun z=>Ef z∨B.S z∨z=s,⟨t,vv,I,Ef,B,k,d,n,hi',m.ext e1 (fun z hz h=>(d1 z h).1 hz),e1.own ho (fun h=>(d1 _ h).2 rfl),fun z hz=>?_,d2,fun z=>Iff.rfl,⟨Hv.len,Hv.live⟩⟩,e1.mono fun z _ h=>(hS z).2 (.inl h),fun z hz=>?_⟩
 ·rcases eM z hz with h|h
  ·exact d1 z h
  ·exact⟨fun h2=>by have:=zH z h2;omega,by omega⟩
 ·rcases hz with h|h
  ·rcases eM z h with h|h
   ·exact .inl ((hS z).2 (.inl h))
   ·exact .inr h
  ·exact .inl ((hS z).2 (.inr h))
theorem RH.put{w:Nw}{A A':Ar}(l:RH w A){x:Int}(hx:0≤x∧x<A.g.length){y:Ce}{v:Nat}(hg:A'.g=A.g.set x.toNat (v,decide (0<y.1))):RH (w.put x y) A':=by
 have Iq:0≤x∧x<w.cs.length:=by rw[l.len];exact hx
 refine⟨by rw[hg,anv];simp[Nw.put,l.len],fun z=>?_⟩
 by_cases h0:0≤z
 ·rw[Ar.nE hx hg h0,←bq,dS Iq]
  by_cases e:z=x
  ·rw[if_pos e,if_pos e];simp
  ·rw[if_neg e,if_neg e,bq]
   exact l.live z
 ·exact⟨fun h=>absurd h.1 h0,fun h=>absurd h.1 h0⟩
theorem FN(h:Ec H s S w A q){g key:Int}(hg:w.has g)(WD:∀x:Int,0≤x→x<A.g.length→A.bz x<4294967295)(hq:0≤q∧q<18446744073709551615):af Tryz.prog z7 [ptr s,i64 g,i64 key] H fun v H'=>aw (
  (A.pick=none∧v= .tuple [gk 0 0,i64 32].toArray∧Nd s S H H' w A q)∨(∃x A',A.pick=some (x,A')∧v= .tuple [gk x (A.bz x+1),i64 0].toArray∧Nd s S H H' (w.put x (g,key,q+1)) (A'.out x) (q+1))):=by
 have eQ:=h.slt
 obtain⟨t,vv,I,Sn,B,k,d,n,hi,m,ho,d1,d2,hS,Hv⟩:=h
 refine bm As ?_
 refine vs ?_
 have f0:ai H (H.new 114 [Value.int .i64 0,Value.int .u32 0]):=(ag.refl _ _).new _ _
 have b0:(H.new 114 [Value.int .i64 0,Value.int .u32 0]).own H.size=some [Value.int .i64 0,Value.int .u32 0]:=aB _ _ _
 have z0:(H.new 114 [Value.int .i64 0,Value.int .u32 0]).size=H.size+1:=aq _ _ _
 generalize H.new 114 [Value.int .i64 0,Value.int .u32 0]=H0 at*
 have m0:=m.ext f0 (fun _ _ h=>h)
 have FC:=n.ext hi f0 (fun _ _ h=>h)
 have o0:=f0.own ho (fun h=>h)
 have aP:∀z,S z→z≠H.size:=fun z hz=>by have:=eQ z hz;omega
 refine v1 (ae o0) ?_
 refine(n.has g FC).mono ?_
 rintro _ _ ⟨rfl,rfl⟩
 rw[anI hg]
 refine v1 (ae o0) ?_
 refine(D9 m0 WD).mono ?_
 rintro _ H1 (⟨hp,rfl,m1,f1⟩| ⟨x,A',hp,rfl,m1,e1⟩)
 ·have b1:=f1.own b0 (fun h=>h)
  refine vs ?_
  obtain⟨f2,b2,z2⟩:=Lq H1 114 [Value.int .i64 0,Value.int .u32 0] [i64 0,Value.int .u32 ((0:Nat):Int)]
  generalize (H1.new 114 [Value.int .i64 0,Value.int .u32 0]).wr H1.size [i64 0,Value.int .u32 ((0:Nat):Int)]=H2 at*
  have b3:=f2.own b1 (fun h=>h)
  refine am.dec (fun hh=>by omega) (fun _=>?_)
  refine v1 b3 ?_
  obtain⟨e4,b4⟩:=Lr b3 [Value.int .i64 0,Value.int .u32 0]
  refine v1 (ae b4) ?_
  have hse:ag S H (H2.wr H.size [Value.int .i64 0,Value.int .u32 0]):=by
   have h1:=(f0.trans f1).trans f2
   exact(h1.then e4 (fun z hz=>by omega)).mono fun _ _ h=>h.elim
  refine .inl ⟨hp,rfl,S,⟨t,vv,I,Sn,B,k,d,n,?_,?_,?_,d1,d2,hS,Hv⟩,hse,fun z hz=>.inl hz⟩
  ·exact n.ext (n.ext (n.ext FC f1 (fun _ _ h=>h)) f2 (fun _ _ h=>h)) e4 (fun z hz=>aP z ((hS z).2 (.inl hz)))
  ·exact(m1.ext f2 (fun _ _ h=>h)).ext e4 (fun z hz=>aP z ((hS z).2 (.inr (.inl hz))))
  ·exact e4.own (f2.own (f1.own o0 (fun h=>h)) (fun h=>h)) (aP s ((hS s).2 (.inr (.inr rfl))))
 ·obtain⟨uJ,my,_,_,hAg,_,_⟩:=Ar.vr hp m.ok
  have b1:=e1.own b0 (fun h=>aP _ ((hS _).2 (.inr (.inl h))) rfl)
  have o1:=e1.own o0 d2
  have Qx:=n.ext FC e1 (fun z hz=>(d1 z hz).1)
  refine vs ?_
  obtain⟨f2,b2,z2⟩:=Lq H1 114 [Value.int .i64 0,Value.int .u32 0] [i64 x,Value.int .u32 ((A.bz x+1:Nat):Int)]
  generalize (H1.new 114 [Value.int .i64 0,Value.int .u32 0]).wr H1.size [i64 x,Value.int .u32 ((A.bz x+1:Nat):Int)]=H2 at*
  have b3:=f2.own b1 (fun h=>h)
  have o2:=f2.own o1 (fun h=>h)
  have mI:=n.ext Qx f2 (fun _ _ h=>h)
  have m2:=m1.ext f2 (fun _ _ h=>h)
  refine am.dec (fun _=>?_) (fun hh=>absurd trivial hh)
  refine v2 (ae o2) o2 ?_
  rw[Tx (n:=q+1) (by omega) (by omega)]
  obtain⟨e4,o3⟩:=Lr o2 [i64 k,i64 d,ptr B.a,.iface t vv,u64 (q+1)]
  have Pp:=aA o2
  have Ol:=e1.size
  have ajQ:=aA ho
  have b5:=e4.own b3 (fun e=>aP s ((hS s).2 (.inr (.inr rfl))) e.symm)
  have b6:=e4.own b2 (fun e=>by omega)
  have qz:=n.ext mI e4 (fun z hz=>(d1 z hz).2)
  have m3:=m2.ext e4 (fun z hz e=>d2 (by rw[←e];exact hz))
  generalize H2.wr s [i64 k,i64 d,ptr B.a,.iface t vv,u64 (q+1)]=H3 at*
  refine v2 (ae o3) (ae b6) ?_
  refine(n.insert g x key (q+1) qz).mono ?_
  obtain⟨c,C,cq⟩:=n.cells qz
  have Dl:¬cT w.cs x:=fun h=>my ((Hv.live x).1 h)
  rintro _ H4 (⟨bK,_⟩| ⟨_,rfl,Ef,hi4,e5,PE⟩)
  ·exact absurd ⟨hg,by rw[Hv.len];exact uJ,Dl⟩ bK
  have hz4:=e4.size
  have Jr:∀z,H.size≤z→¬Sn z:=fun z hz h=>by have:=eQ z ((hS z).2 (.inl h));omega
  have b7:=e5.own b6 (Jr _ (by omega))
  have b8:=e5.own b5 (Jr _ (anG _))
  refine v2 (ae b7) b8 ?_
  obtain⟨e9,b9⟩:=Lr b8 [i64 x,Value.int .u32 ((A.bz x+1:Nat):Int)]
  refine v1 (ae b9) ?_
  have o4:=e5.own o3 (fun h=>(d1 _ h).2 rfl)
  have m4:=m3.ext e5 (fun z hz h=>(d1 z h).1 hz)
  have zH:=m.slt
  have hz5:=e5.size
  have Ea:∀z,B.S z→z<H.size:=zH
  have Ls:∀z,Ef z→Sn z∨H.size<z:=fun z hz=>(PE z hz).imp_right fun h=>by omega
  refine .inr ⟨x,A',hp,rfl,fun z=>Ef z∨B.S z∨z=s,⟨t,vv,I,Ef,B,k,d,n,n.ext hi4 e9 (fun z hz e=>?_),m4.ext e9 (fun z hz e=>?_),e9.own o4 (aP s ((hS s).2 (.inr (.inr rfl)))),fun z hz=>?_,d2,fun z=>Iff.rfl,?_⟩,?_,fun z hz=>?_⟩
  ·rcases Ls z hz with h|h
   ·exact Jr z (by omega) h
   ·omega
  ·have:=Ea z hz;omega
  ·rcases Ls z hz with h|h
   ·exact d1 z h
   ·exact⟨fun h2=>by have:=Ea z h2;omega,by omega⟩
  ·refine Hv.put uJ (v:=A.bz x+1) ?_
   have PF:A'.bz x=A.bz x:=by unfold Ar.bz;rw[hAg]
   show A'.g.set x.toNat (A'.bz x+1,true)=_
   rw[PF,hAg]
   exact anP (fun b=>A.g.set x.toNat (A.bz x+1,b)) (anI hg.1).symm
  ·have h1:ag S H H3:=((f0.mono fun _ _ h=>h.elim).trans (e1.mono fun z _ h=>(hS z).2 (.inr (.inl h)))).trans ((f2.mono fun _ _ h=>h.elim).trans (e4.mono fun z _ h=>(hS z).2 (.inr (.inr h))))
   have h2:=h1.trans (e5.mono fun z _ h=>(hS z).2 (.inl h))
   exact⟨aor h2.size e9.size,fun z hz hn=>by rw[e9.aM z (anT hz h2.size) (by omega),h2.aM z hz hn]⟩
  ·rcases hz with h|h
   ·rcases Ls z h with h|h
    ·exact .inl ((hS z).2 (.inl h))
    ·exact .inr (by omega)
   ·exact .inl ((hS z).2 (.inr h))
end
end Go.Proofs.YtjlnnljohemifaaGreat

namespace Go.Proofs.YtjlnnljohemifaaGreat
open Go Go.Vc
section
variable {H H' H1 H2 : Hp} {s : Nat} {S S1 : Nat → Prop} {w w2 : Nw} {A A2 : Ar} {q q2 : Int}
theorem zh(l:RH w A){g x:Int}(h:w.first g x):A.live x:=by
 obtain⟨h1,h2,_⟩:=bN.1 h
 exact(l.live x).1 (bq.1 (by omega))
theorem Hw(h:Ec H s S w A q){g:Int}(hg:w.has g):af Tryz.prog BU [ptr s,i64 g] H fun v H'=>aw (
  (w.len g=0∧v= .tuple [gk 0 0,i64 172].toArray∧Nd s S H H' w A q)∨(∃x,w.first g x∧v= .tuple [gk x (A.bz x),i64 0].toArray∧Nd s S H H' w A q)):=by
 have eQ:=h.slt
 obtain⟨t,vv,I,Sn,B,k,d,n,hi,m,ho,d1,d2,hS,Hv⟩:=h
 refine bm B6 ?_
 refine vs ?_
 have f0:ai H (H.new 114 [Value.int .i64 0,Value.int .u32 0]):=(ag.refl _ _).new _ _
 have b0:(H.new 114 [Value.int .i64 0,Value.int .u32 0]).own H.size=some [Value.int .i64 0,Value.int .u32 0]:=aB _ _ _
 have z0:(H.new 114 [Value.int .i64 0,Value.int .u32 0]).size=H.size+1:=aq _ _ _
 generalize H.new 114 [Value.int .i64 0,Value.int .u32 0]=H0 at*
 have m0:=m.ext f0 (fun _ _ h=>h)
 have FC:=n.ext hi f0 (fun _ _ h=>h)
 have o0:=f0.own ho (fun h=>h)
 have Jr:∀z,H.size≤z→¬Sn z:=fun z hz h=>by have:=eQ z ((hS z).2 (.inl h));omega
 have Ea:∀z,B.S z→z<H.size:=m.slt
 have hos:=aA ho
 refine v1 (ae o0) ?_
 refine(n.has g FC).mono ?_
 rintro _ _ ⟨rfl,rfl⟩
 rw[anI hg]
 refine v1 (ae o0) ?_
 refine(n.min g FC).mono ?_
 have fin:∀ (H1 H2:Hp) (Ef:Nat→Prop),I H1 Ef w→ag Sn H0 H1→(∀z,Ef z→Sn z∨H0.size≤z)→ag (fun z=>z=H.size∨H1.size≤z) H1 H2→Nd s S H H2 w A q:=fun H1 H2 Ef Qx e1 eM e2=>by
  have Ol:=e1.size
  have dM:=e2.size
  refine⟨fun z=>Ef z∨B.S z∨z=s,⟨t,vv,I,Ef,B,k,d,n,n.ext Qx e2 (fun z hz e=>?_),(m0.ext e1 (fun z hz h=>(d1 z h).1 hz)).ext e2 (fun z hz e=>?_),e2.own (e1.own o0 (fun h=>(d1 _ h).2 rfl)) (fun e=>by omega),fun z hz=>?_,d2,fun z=>Iff.rfl,Hv⟩,?_,fun z hz=>?_⟩
  ·rcases e with e|e
   ·rcases eM z hz with h|h
    ·exact Jr z (by omega) h
    ·omega
   ·have:=n.slt Qx z hz;omega
  ·have:=Ea z hz;omega
  ·rcases eM z hz with h|h
   ·exact d1 z h
   ·exact⟨fun h2=>by have:=Ea z h2;omega,by omega⟩
  ·have h1:ag S H H1:=(f0.mono fun _ _ h=>h.elim).trans (e1.mono fun z _ h=>(hS z).2 (.inl h))
   exact⟨aor h1.size e2.size,fun z hz hn=>by rw[e2.aM z (anT hz h1.size) (by omega),h1.aM z hz hn]⟩
  ·rcases hz with h|h
   ·rcases eM z h with h|h
    ·exact .inl ((hS z).2 (.inl h))
    ·exact .inr (by omega)
   ·exact .inl ((hS z).2 (.inr h))
 rintro _ H1 (⟨h0,rfl,Ef,Qx,e1,eM⟩| ⟨x,hx,rfl,Ef,Qx,e1,eM⟩)
 ·have b1:=e1.own b0 (Jr _ (anG _))
  refine v1 b1 ?_
  obtain⟨e4,b4⟩:=Lr b1 [Value.int .i64 0,Value.int .u32 0]
  refine v1 (ae b4) ?_
  exact .inl ⟨h0,rfl,fin H1 _ Ef Qx e1 eM (e4.mono fun z _ h=>.inl h)⟩
 ·have b1:=e1.own b0 (Jr _ (anG _))
  have o1:=e1.own o0 (fun h=>(d1 _ h).2 rfl)
  have m1:=m0.ext e1 (fun z hz h=>(d1 z h).1 hz)
  refine v1 (ae o1) ?_
  refine(Hu m1 (zh Hv hx)).mono ?_
  rintro _ H2 ⟨rfl,f2⟩
  have b2:=f2.own b1 (fun h=>h)
  refine vs ?_
  obtain⟨f3,b3,z3⟩:=Lq H2 114 [Value.int .i64 0,Value.int .u32 0] [i64 x,Value.int .u32 ((A.bz x:Nat):Int)]
  generalize (H2.new 114 [Value.int .i64 0,Value.int .u32 0]).wr H2.size [i64 x,Value.int .u32 ((A.bz x:Nat):Int)]=H3 at*
  have b5:=f3.own b2 (fun h=>h)
  refine v2 (ae b3) b5 ?_
  obtain⟨e4,b4⟩:=Lr b5 [i64 x,Value.int .u32 ((A.bz x:Nat):Int)]
  refine v1 (ae b4) ?_
  exact .inr ⟨x,hx,rfl,fin H1 _ Ef Qx e1 eM (((f2.trans f3).mono fun _ _ h=>h.elim).trans (e4.mono fun z _ h=>.inl h))⟩
theorem xL(h:Ec H s S w A q){x:Int}(hx:A.live x):af Tryz.prog BV [ptr s,gk x (A.bz x)] H fun v H'=>aw (∃y,w.cs[x.toNat]? =some y∧v= .tuple [tz y.2.1 y.2.2,i64 0].toArray∧Nd s S H H' w A q):=by
 have eQ:=h.slt
 obtain⟨t,vv,I,Sn,B,k,d,n,hi,m,ho,d1,d2,hS,Hv⟩:=h
 refine Gv B7 ⟨rfl,?_⟩
 refine v1 pQ.eq_1 ?_
 have f0:ai H ((H.new 114 [i64 x,.int .u32 (A.bz x:Int)]).new 224 [Value.int .i64 0,Value.int .u64 0]):=((ag.refl _ _).new _ _).new _ _
 have b0:((H.new 114 [i64 x,.int .u32 (A.bz x:Int)]).new 224 [Value.int .i64 0,Value.int .u64 0]).own H.size=some [i64 x,.int .u32 (A.bz x:Int)]:=by
  rw[ci (by simp only[aq];omega),aB]
 have c0:((H.new 114 [i64 x,.int .u32 (A.bz x:Int)]).new 224 [Value.int .i64 0,Value.int .u64 0]).own (H.size+1)=some [Value.int .i64 0,Value.int .u64 0]:=aV (by simp only[aq])
 have z0:((H.new 114 [i64 x,.int .u32 (A.bz x:Int)]).new 224 [Value.int .i64 0,Value.int .u64 0]).size=H.size+1+1:=by simp only[aq]
 generalize (H.new 114 [i64 x,.int .u32 (A.bz x:Int)]).new 224 [Value.int .i64 0,Value.int .u64 0]=H0 at*
 have m0:=m.ext f0 (fun _ _ h=>h)
 have FC:=n.ext hi f0 (fun _ _ h=>h)
 have o0:=f0.own ho (fun h=>h)
 have Jr:∀z,H.size≤z→¬Sn z:=fun z hz h=>by have:=eQ z ((hS z).2 (.inl h));omega
 have Ea:∀z,B.S z→z<H.size:=m.slt
 have hos:=aA ho
 refine v2 (ae o0) (ae b0) ?_
 refine(sJ m0 x (A.bz x)).mono ?_
 rintro _ H1 ⟨rfl,f1⟩
 rw[anI ⟨hx,rfl⟩]
 have m1:=m0.ext f1 (fun _ _ h=>h)
 have Qx:=n.ext FC f1 (fun _ _ h=>h)
 have o1:=f1.own o0 (fun h=>h)
 have b1:=f1.own b0 (fun h=>h)
 have c1:=f1.own c0 (fun h=>h)
 have z1:=f1.size
 have bJ:cT w.cs x:=(Hv.live x).2 hx
 have fin:∀H2,I H2 Sn w→ag (fun z=>z=H.size+1∨H1.size≤z) H1 H2→Nd s S H H2 w A q:=fun H2 mI e2=>by
  have h1:ag S H H1:=(f0.trans f1).mono fun _ _ h=>h.elim
  refine⟨S,⟨t,vv,I,Sn,B,k,d,n,mI,m1.ext e2 (fun z hz e=>by have:=Ea z hz;omega),e2.own o1 (fun e=>by omega),d1,d2,hS,Hv⟩,⟨aor h1.size e2.size,fun z hz hn=>by rw[e2.aM z (anT hz h1.size) (by omega),h1.aM z hz hn]⟩,fun z hz=>.inl hz⟩
 refine vs ?_
 refine jX.intro (fun H'=>H'.own s=some [i64 k,i64 d,ptr B.a,.iface t vv,u64 q]∧H'.own H.size=some [i64 x,.int .u32 (A.bz x:Int)]) ⟨o1,b1⟩ ?_
 refine vs ?_
 refine fV.intro (.iface t vv) (fun H' hI=>by refine v1 (ae hI.1) ?_;trivial) ?_
 refine vs ?_
 refine fV.intro (i64 x) (fun H' hI=>by refine v1 (ae hI.2) ?_;trivial) ?_
 refine vs ?_
 refine EB.intro ?_ ?_
 ·refine vs ?_
  refine(n.entry x Qx).mono ?_
  rintro _ H2 ⟨mI,f2,⟨bK,_⟩| ⟨_,y,hy,rfl⟩⟩
  ·exact absurd bJ bK
  have o2:=f2.own o1 (fun h=>h)
  have b2:=f2.own b1 (fun h=>h)
  have c2:=f2.own c1 (fun h=>h)
  have z2:=f2.size
  refine And.intro ⟨o2,b2⟩ ?_
  refine vs ?_
  refine And.intro ⟨o2,b2⟩ ?_
  refine vs ?_
  refine And.intro ⟨o2,b2⟩ ?_
  refine vs ?_
  obtain⟨f3,b3,z3⟩:=Lq H2 224 [Value.int .i64 0,Value.int .u64 0] [i64 y.2.1,u64 y.2.2]
  generalize (H2.new 224 [Value.int .i64 0,Value.int .u64 0]).wr H2.size [i64 y.2.1,u64 y.2.2]=H3 at*
  have c3:=f3.own c2 (fun h=>h)
  refine v2 (ae b3) c3 ?_
  obtain⟨e4,b4⟩:=Lr c3 [i64 y.2.1,u64 y.2.2]
  refine v1 (ae b4) ?_
  exact⟨y,hy,rfl,fin _ (n.ext (n.ext mI f3 (fun _ _ h=>h)) e4 (fun z hz e=>Jr z (by omega) hz)) (((f2.trans f3).mono fun _ _ h=>h.elim).trans (e4.mono fun z _ h=>.inl h))⟩
 ·refine vs ?_
  refine And.intro ⟨o1,b1⟩ ?_
  have f4:ai H1 (H1.new 224 [Value.int .i64 0,Value.int .u64 0]):=(ag.refl _ _).new _ _
  have b4:(H1.new 224 [Value.int .i64 0,Value.int .u64 0]).own H1.size=some [Value.int .i64 0,Value.int .u64 0]:=aB _ _ _
  have z4:(H1.new 224 [Value.int .i64 0,Value.int .u64 0]).size=H1.size+1:=aq _ _ _
  generalize H1.new 224 [Value.int .i64 0,Value.int .u64 0]=H4 at*
  refine vs ?_
  refine(n.entry x (n.ext Qx f4 (fun _ _ h=>h))).mono ?_
  rintro _ H2 ⟨mI,f2,⟨bK,_⟩| ⟨_,y,hy,rfl⟩⟩
  ·exact absurd bJ bK
  have o2:=f2.own (f4.own o1 (fun h=>h)) (fun h=>h)
  have b2:=f2.own (f4.own b1 (fun h=>h)) (fun h=>h)
  have c2:=f2.own (f4.own c1 (fun h=>h)) (fun h=>h)
  have b5:=f2.own b4 (fun h=>h)
  have z2:=f2.size
  refine And.intro ⟨o2,b2⟩ ?_
  refine v1 b5 ?_
  obtain⟨e6,b6⟩:=Lr b5 [i64 y.2.1,u64 y.2.2]
  have o6:=e6.own o2 (fun e=>by omega)
  have b26:=e6.own b2 (fun e=>by omega)
  have c6:=e6.own c2 (fun e=>by omega)
  have hn6:=n.ext mI e6 (fun z hz e=>Jr z (by omega) hz)
  have e26:ag (fun z=>z=H.size+1∨H1.size≤z) H1 (H2.wr H1.size [i64 y.2.1,u64 y.2.2]):=((f4.trans f2).mono fun _ _ h=>h.elim).trans (e6.mono fun z _ h=>.inr (by omega))
  generalize H2.wr H1.size [i64 y.2.1,u64 y.2.2]=H6 at*
  first
   |refine And.intro ⟨o6,b26⟩ ?_
   |refine And.intro ⟨o2,b2⟩ ?_
  refine v2 (ae b6) c6 ?_
  obtain⟨e7,b7⟩:=Lr c6 [i64 y.2.1,u64 y.2.2]
  refine v1 (ae b7) ?_
  exact⟨y,hy,rfl,fin _ (n.ext hn6 e7 (fun z hz e=>Jr z (by omega) hz)) (e26.trans (e7.mono fun z _ h=>.inl h))⟩
end
end Go.Proofs.YtjlnnljohemifaaGreat
