/- Texts put behind each other. -/
import Derived.Test.YtjkkkibiegfecaaGreatDoorK98
import Derived.Test.YtjkkkibiegfecaaGreatDoorK1
import Derived.Test.YtjkkkibiegfecaaGreatDoorK25
import Derived.Test.YtjkkkibiegfecaaGreatDoorK26
import Derived.Test.YtjkkkibiegfecaaGreatDoorK27
import Derived.Test.YtjkkkibiegfecaaGreatDoorK30
set_option maxRecDepth 100000
set_option maxHeartbeats 8000000
set_option linter.unusedVariables false
set_option linter.unusedSimpArgs false
namespace Go.Proofs.YtjkkkibiegfecaaGreatDoor
open Go Go.Vc
def dG(n:Nat)(H:Hp)(S:Nat→Prop)(w:Nw):Prop:=∃ (B:SB) (C:Nat→Prop) (L:List Lk) (T:Int→Int),B.n=n∧eK H B C w L T∧wF (aF w) (aP w) (bh L) (br L) T∧∀z,S z↔B.S C z
theorem dG.slt{n:Nat}{H:Hp}{S:Nat→Prop}{w:Nw}(h:dG n H S w):∀z,S z→z<H.size:=by
 obtain⟨B,C,L,T,rfl,m,l,hS⟩:=h
 exact fun z hz=>m.slt z ((hS z).1 hz)
theorem dG.ext{n:Nat}{H H':Hp}{S V:Nat→Prop}{w:Nw}(h:dG n H S w)(e:ah V H H')(hd:∀z,S z→¬V z):dG n H' S w:=by
 obtain⟨B,C,L,T,rfl,m,l,hS⟩:=h
 exact⟨B,C,L,T,rfl,m.ext e (by grind),l,hS⟩
theorem Rj:I1 (fun _=> -1)=fun _=>none:=by
 rfl
theorem I2(cap:Int)(H:Hp):ag Tryz.prog N0 [i64 cap] H fun v H'=>ap (
  ai H H'∧((¬ (0≤cap∧cap≤65536)∧v= .tuple [.pointer none,i64 31].toArray)∨
   ((0≤cap∧cap≤65536)∧∃n S,v= .tuple [ptr n,i64 0].toArray∧dG n H' S (yd cap)∧∀x,S x→H.size≤x))):=by
 refine aU Oe ?_
 refine vs ?_
 refine(lZ cap H).mono ?_
 rintro _ H1 ⟨f1,⟨hb,rfl⟩| ⟨hb,c,C,rfl,c1,hC⟩⟩
 ·refine vs ?_
  exact⟨f1,.inl ⟨hb,rfl⟩⟩
 refine v1 aoE ?_
 refine(vQ H1 hb).mono ?_
 rintro _ H2 ⟨t,tl,rfl,t2,f2,ht,Np⟩
 refine vs ?_
 have GF:=c1.slt
 have z1:=f1.size
 have z2:=f2.size
 have yR:=aE t2.own
 have abv:=aE t2.l9
 have f3:ai H2 (H2.js.new 238 [ptr c,ptr t,.map (some H2.size)]):=((ah.refl _ _).js).new _ _
 have e1:ah (fun _=>False) H2.js (H2.js.new 238 [ptr c,ptr t,.map (some H2.size)]):=(ah.refl _ _).new _ _
 have ft:=f1.trans (f2.trans f3)
 refine⟨ft,.inr ⟨hb,H2.size+1,(SB.mk (H2.size+1) c t tl H2.size).S C,rfl,⟨⟨H2.size+1,c,t,tl,H2.size⟩,C,_,fun _=> -1,rfl,
  ⟨?_,c1.fresh (f2.trans f3),t2.fresh f3,by rw[Rj];exact(mi.new H2).ext e1 (fun h=>h),?_,?_,?_⟩,wF.none rfl (oP cap) (BZ _) (G5 _) (fun _=>rfl),fun z=>Iff.rfl⟩,fun z hz=>?_⟩⟩
 ·exact aR (by simp only[kS])
 ·simp[yd]
 ·cases t2;grind
 ·grind
 ·rcases hz with hz|rfl|rfl|rfl|rfl
  ·grind
  all_goals grind
theorem Hq{n:Nat}{H:Hp}{B:SB}{C:Nat→Prop}{w:Nw}{L:List Lk}{T:Int→Int}{S:Nat→Prop}(m:eK H B C w L T)(l:wF (aF w) (aP w) (bh L) (br L) T)(hn:B.n=n)(hS:∀z,S z↔B.S C z):ag Tryz.prog dN [ptr B.c] H fun v H'=>ap (
  (w.hs.length=65537∧v=i64 0∧bq (dG n) S H H' w)∨(w.hs.length≠65537∧v=i64 w.hs.length∧bq (dG n) S H H' w.make)):=by
 subst hn
 refine(jM m.cells).mono ?_
 rintro _ H1 (⟨h1,rfl,rfl⟩| ⟨h1,rfl,C',c1,e1,Q2⟩)
 ·exact .inl ⟨h1,rfl,bq.same ⟨B,C,L,T,rfl,m,l,hS⟩ (ah.refl _ _)⟩
 obtain⟨n1,n2,n3,n4⟩:=m.out
 have slt:=m.slt
 have no:∀z,B.S (fun _=>False) z→¬C z→¬C' z:=fun z hz hn h=>by
  rcases Q2 z h with h6|h6
  ·grind
  ·have:=slt z (hz.elim (fun h=>h.elim) .inr)
   omega
 refine .inr ⟨h1,rfl,B.S C',⟨B,C',L,T,rfl,⟨e1.own m.own n1,c1,m.ck.ext e1 n2 n3,m.HW.ext e1 n4,m.len,m.mY,no _ (.inr (.inl rfl)) n1,no _ (.inr (.inr (.inl rfl))) n2,no _ (.inr (by omega)) n3,no _ (.inr (by omega)) n4⟩,l,fun z=>Iff.rfl⟩,
  e1.mono fun z _ h=>(hS z).2 (.inl h),fun z hz=>?_⟩
 rcases hz with hz|hz
 ·rcases Q2 z hz with h6|h6
  ·exact .inl ((hS z).2 (.inl h6))
  omega
 ·exact .inl ((hS z).2 (.inr hz))
theorem DI{n:Nat}{H:Hp}{S:Nat→Prop}{w:Nw}(h:dG n H S w)(g x k s:Int):ag Tryz.prog n9 [ptr n,i64 g,i64 x,tE k s] H fun v H'=>ap (
  (¬w.mw g x∧v= .bool false∧bq (dG n) S H H' w)∨(w.mw g x∧v= .bool true∧bq (dG n) S H H' (w.put x (g,k,s)))):=by
 obtain⟨B,C,L,T,rfl,m,l,hS⟩:=h
 have hC:∀z,C z→S z:=fun z h=>(hS z).2 (.inl h)
 have s1:S B.tl:=(hS _).2 (.inr (by omega))
 have s2:S B.mp:=(hS _).2 (.inr (by omega))
 refine aU zW ?_
 refine vs ?_
 have f0:ai H (H.new 190 [i64 k,u64 s]):=(ah.refl _ _).new _ _
 have b0:(H.new 190 [i64 k,u64 s]).own H.size=some [i64 k,u64 s]:=aA _ _ _
 have m0:=m.fresh f0
 generalize H.new 190 [i64 k,u64 s]=H0 at*
 have ff:ah S H H0:=f0.mono fun _ _ h=>h.elim
 refine v2 (ae m0.own) (ae b0) ?_
 refine(lY m0.cells g x k s).mono ?_
 rintro _ H1 (⟨bU,rfl,c1,e1⟩| ⟨fX,rfl,c1,e1⟩)
 ·refine vs ?_
  exact .inl ⟨bU,rfl,bq.same ⟨B,C,L,T,rfl,m0.aC c1 e1 rfl,l,hS⟩ (ff.trans (e1.mono (by grind)))⟩
 obtain⟨hh,hx,ci⟩:=id fX
 have m1:=m0.aC c1 e1 (by simp[Nw.put])
 have hg:=hh.1
 have jh:=fun y=>dR hx (g,k,s) y
 have bo:Ux (aF (w.put x (g,k,s))) (aP (w.put x (g,k,s))) (bh L) (br L) T g x:=by
  refine l.ins rfl (Int.not_lt.1 fun h=>ci (bB.1 h)) (by omega) (by omega) (by grind) (by grind) (fun a b ha hb uv lq=>dt hx _ ha hb uv lq)
 refine vs ?_
 refine(fC m1 g).mono ?_
 rintro _ H' ⟨rfl,e⟩
 obtain rfl:=e.symm
 refine vs ?_
 refine(iz m1 bo.mg).mono ?_
 rintro _ H2 ⟨r,L2,rfl,m2,g2,_,e2⟩
 refine vs ?_
 refine(fD m2 g r).mono ?_
 rintro _ H3 ⟨m3,e3⟩
 refine vs ?_
 exact .inr ⟨fX,rfl,bq.same ⟨B,C,L2,_,rfl,m3,bo.done g2,hS⟩ (((ff.trans (e1.mono fun z _ h=>hC z h)).trans (e2.mono (by grind))).trans (e3.mono (by grind)))⟩
theorem JR{w:Nw}{L:List Lk}{T:Int→Int}(l:wF (aF w) (aP w) (bh L) (br L) T){g x:Int}(h:w.first g x):T g=x:=by
 obtain⟨h1,h2,h3⟩:=bD.1 h
 have:=l.first (x:=x) (by omega) (by grind) (aw w)
 grind
theorem yI{n:Nat}{H:Hp}{S:Nat→Prop}{w:Nw}(h:dG n H S w)(g:Int):ag Tryz.prog tz [ptr n,i64 g] H fun v H'=>ap (
  ((w.len g=0∧v= .tuple [i64 0,.bool false].toArray)∨∃x,w.first g x∧v= .tuple [i64 x,.bool true].toArray)∧H'=H):=by
 obtain⟨B,C,L,T,rfl,m,l,hS⟩:=h
 refine aU EG ?_
 refine vs ?_
 refine(fC m g).mono ?_
 rintro _ H' ⟨rfl,e⟩
 obtain rfl:=e.symm
 refine vs ?_
 refine ar.dec (fun h0=>?_) (fun h0=>?_)<;>refine vs ?_
 ·refine⟨.inl ⟨?_,rfl⟩,rfl⟩
  by_cases hg:0<g
  ·refine aoA fun hl=>?_
   obtain⟨x,hx⟩:=vO hg hl
   have h2:=(bD.1 hx).2.1
   have:=JR l hx
   have:=(aG (w:=w) (x:=x) (by omega)).1
   omega
  ·exact Nw.Aa.2 (.inl (by omega))
 ·obtain⟨h1,h2,h3⟩:=l.t1 g h0
  have hl:w.len g≠0:=fun e=>(rB h2).1 e _ h1
  obtain⟨x,hx⟩:=vO h2 hl
  rw[JR l hx]
  exact⟨.inr ⟨x,hx,rfl⟩,rfl⟩
theorem Ah{n:Nat}{H:Hp}{S:Nat→Prop}{w:Nw}(h:dG n H S w)(x k s:Int):ag Tryz.prog lL [ptr n,i64 x,tE k s] H fun v H'=>ap (
  (¬w.du x k s∧v= .bool false∧bq (dG n) S H H' w)∨(w.du x k s∧v= .bool true∧∃y,w.cs[x.toNat]? =some y∧bq (dG n) S H H' (w.put x (y.1,k,s)))):=by
 obtain⟨B,C,L,T,rfl,m,l,hS⟩:=h
 have hC:∀z,C z→S z:=fun z h=>(hS z).2 (.inl h)
 have s1:S B.tl:=(hS _).2 (.inr (by omega))
 have s2:S B.mp:=(hS _).2 (.inr (by omega))
 refine aU vF ?_
 refine vs ?_
 have f0:ai H (H.new 190 [i64 k,u64 s]):=(ah.refl _ _).new _ _
 have b0:(H.new 190 [i64 k,u64 s]).own H.size=some [i64 k,u64 s]:=aA _ _ _
 have m0:=m.fresh f0
 generalize H.new 190 [i64 k,u64 s]=H0 at*
 have ff:ah S H H0:=f0.mono fun _ _ h=>h.elim
 refine v2 (ae m0.own) (ae b0) ?_
 refine(ie m0.cells x k s).mono ?_
 rintro _ H1 (⟨bU,rfl,c1,e1⟩| ⟨ci,rfl,y,hy,jI,c1,e1⟩)
 ·refine vs ?_
  exact .inl ⟨bU,rfl,bq.same ⟨B,C,L,T,rfl,m0.ext e1 (fun _ _ h=>h),l,hS⟩ (ff.trans (e1.mono fun _ _ h=>h.elim))⟩
 have rS:(w.put x (y.1,k,s)).cs.length=w.cs.length:=by simp[Nw.put]
 have m1:=m0.aC c1 e1 rS
 have B1:w.du x k s:=⟨ci,by grind⟩
 have hx:0≤x∧x<w.cs.length:=⟨ci.1,by grind⟩
 have Xp:aF w x=y.1:=kX ci.1 hy
 have gE:=bB.2 ci
 have hw:aF (w.put x (y.1,k,s))=aF w:=by
  funext z
  rw[dR hx]
  split
  ·grind
  ·rfl
 have E3:cI (w.put x (y.1,k,s)).cs x:=bB.1 (by simp_all)
 refine v1 (ae m1.own) ?_
 refine(bI m1.cells x).mono ?_
 rintro _ H2 (⟨bU,_,_⟩| ⟨_,rfl,c2,e2⟩)
 ·exact absurd E3 bU
 have m2:=m1.aC c2 e2 rfl
 have oY:ah S H H2:=(ff.trans (e1.mono fun z _ h=>hC z h)).trans (e2.mono fun z _ h=>hC z h)
 have el:∀a b,0<aF w a→0<aF w b→a≠x→b≠x→aP (w.put x (y.1,k,s)) a b=aP w a b:=fun a b ha hb uv lq=>dt hx _ ha hb uv lq
 have ex:∀b,0<aF w b→b≠x→aP w x b=true→aP (w.put x (y.1,k,s)) x b=true:=fun b hb lq h=>BT ci hy jI hb lq h
 refine v1 (ae m2.own) ?_
 refine(cK m2.ck (x:=x) (fun hu=>by have:=BV.up l.bt hu;have:=m2.len;omega)).mono ?_
 rintro _ H3 ⟨rfl,L3,t3,l3,k3,u3,e3⟩
 have m3:=m2.dS t3 e3 l3
 have z8:ah S H H3:=oY.trans (e3.mono (by grind))
 unfold gQ
 by_cases hu:br L x= -1
 ·rw[if_pos hu]
  refine vs ?_
  have kk:bh L3=bh L:=by rw[k3];unfold jm;grind
  have uu:br L3=br L:=by
   rw[u3]
   funext z
   unfold dh aJ
   split
   ·grind
   ·rfl
  refine .inr ⟨B1,rfl,y,hy,bq.same ⟨B,C,L3,T,rfl,m3,?_,hS⟩ z8⟩
  rw[hw,kk,uu]
  exact l.Uy gE hu el ex (aw w)
 rw[if_neg hu]
 refine vs ?_
 have bo:=l.low gE hu el ex (aw w)
 rw[←hw,←k3,←u3]at bo
 refine(fC m3 _).mono ?_
 rintro _ H' ⟨rfl,e⟩
 obtain rfl:=e.symm
 refine vs ?_
 refine(iz m3 bo.mg).mono ?_
 rintro _ H4 ⟨r,L4,rfl,m4,g4,_,e4⟩
 refine vs ?_
 refine(fD m4 _ r).mono ?_
 rintro _ H5 ⟨m5,e5⟩
 refine vs ?_
 exact .inr ⟨B1,rfl,y,hy,bq.same ⟨B,C,L4,_,rfl,m5,bo.done g4,hS⟩ ((z8.trans (e4.mono (by grind))).trans (e5.mono (by grind)))⟩
theorem Hr{n:Nat}{H:Hp}{S:Nat→Prop}{w:Nw}(h:dG n H S w)(a b:Int):ag Tryz.prog qI [ptr n,i64 a,i64 b] H fun v H'=>ap (
  (¬ (w.has a∧w.has b∧a≠b)∧v= .bool false∧bq (dG n) S H H' w)∨((w.has a∧w.has b∧a≠b)∧v= .bool true∧bq (dG n) S H H' (w.join a b))):=by
 obtain⟨B,C,L,T,rfl,m,t,hS⟩:=id h
 have hC:∀z,C z→S z:=fun z h=>(hS z).2 (.inl h)
 have s1:S B.tl:=(hS _).2 (.inr (.inr (.inr (.inl rfl))))
 have s2:S B.mp:=(hS _).2 (.inr (.inr (.inr (.inr rfl))))
 refine aU Da ?_
 refine v1 (ae m.own) ?_
 refine(jN m.cells a b).mono ?_
 rintro _ H1 (⟨bU,rfl,rfl⟩| ⟨fX,rfl,c1,e1⟩)
 ·refine vs ?_
  exact .inl ⟨bU,rfl,bq.same h (ah.refl _ _)⟩
 obtain⟨⟨ha,Q3⟩,⟨hb,Oy⟩,eJ⟩:=id fX
 have m1:=m.aC c1 e1 (by simp[Nw.join])
 have hj:=oJ (w:=w) (a:=a) (b:=b) (by omega)
 have mg:=t.join (hm':=aF (w.join a b)) rfl eJ (by omega) hj
 rw[←jb w a b]at mg t
 refine vs ?_
 refine(fC m1 a).mono ?_
 rintro _ H' ⟨rfl,e⟩
 obtain rfl:=e.symm
 refine vs ?_
 refine(fC m1 b).mono ?_
 rintro _ H' ⟨rfl,e⟩
 obtain rfl:=e.symm
 refine vs ?_
 refine(iz m1 mg).mono ?_
 rintro _ H2 ⟨r,L2,rfl,m2,g2,_,e2⟩
 refine vs ?_
 refine(fD m2 a r).mono ?_
 rintro _ H3 ⟨m3,e3⟩
 refine vs ?_
 refine(fD m3 b (-1)).mono ?_
 rintro _ H4 ⟨m4,e4⟩
 refine vs ?_
 exact .inr ⟨fX,rfl,bq.same ⟨B,C,L2,_,rfl,m4,t.J3 rfl eJ (by omega) (by omega) hj g2,hS⟩ ((((e1.mono fun z _ h=>hC z h).trans (e2.mono fun z _ h=>by rcases h with h|rfl;exact hC z h;exact s1)).trans (e3.mono fun z _ h=>h▸s2)).trans (e4.mono fun z _ h=>h▸s2))⟩
theorem rL{n:Nat}{H:Hp}{S:Nat→Prop}{w:Nw}(h:dG n H S w)(x:Int):ag Tryz.prog n7 [ptr n,i64 x] H fun v H'=>ap (
  (¬cI w.cs x∧v= .bool false∧bq (dG n) S H H' w)∨(cI w.cs x∧v= .bool true∧bq (dG n) S H H' (w.put x (0,0,0)))):=by
 obtain⟨B,C,L,T,rfl,m,t,hS⟩:=id h
 have hC:∀z,C z→S z:=fun z h=>(hS z).2 (.inl h)
 have s1:S B.tl:=(hS _).2 (.inr (by omega))
 have s2:S B.mp:=(hS _).2 (.inr (by omega))
 refine Fz zV ⟨rfl,?_⟩
 refine v2 ot.eq_1 (ae m.own) ?_
 refine(bI m.cells x).mono ?_
 rintro _ H1 (⟨bU,rfl,rfl⟩| ⟨ci,rfl,c1,e1⟩)
 ·refine vs ?_
  exact .inl ⟨bU,rfl,bq.same h (ah.refl _ _)⟩
 have m1:=m.aC c1 e1 rfl
 have gE:=bB.2 ci
 obtain⟨im,nO,_⟩:=aG gE
 have Lx:x≠ -1:=by omega
 have ls:=aw w
 obtain⟨⟨d1,d2,d3⟩,⟨d4,d5⟩,d6⟩:=m.mY
 refine vs ?_
 refine fV.intro (fun H'=>H'.own B.n=some [ptr B.c,ptr B.t,.map (some B.mp)]) m1.own ?_
 refine vs ?_
 refine dV.intro (ptr B.t) (fun H' hI=>by refine v1 (ae hI) ?_;trivial) ?_
 refine v1 (ae m1.own) ?_
 refine And.intro m1.own ?_
 refine vs ?_
 obtain⟨a1,b1,ea1⟩:=cM (bh L x false)
 refine(mA m1.ck x).mono ?_
 rintro _ H' ⟨rfl,e⟩
 obtain rfl:=e.symm
 rw[ea1]
 refine And.intro m1.own ?_
 refine vs ?_
 refine(mE m1 t.bt ea1).mono ?_
 rintro _ H2 ⟨rfl,L2,m2,k2,u2,e2⟩
 refine And.intro m2.own ?_
 refine vs ?_
 have bt2:BV w L2:=by
  show Bt _ _ _ _
  rw[k2,u2];exact t.bt.Uw _
 have er:bh L2 x true=bh L x true:=by
  rw[k2,qt t.bt,if_neg]
  rintro⟨h1,h2⟩
  exact h1 (t.bt.two x h2.symm)
 obtain⟨a2,b2,ea2⟩:=cM (bh L2 x true)
 refine(cG m2.ck x).mono ?_
 rintro _ H' ⟨rfl,e⟩
 obtain rfl:=e.symm
 rw[ea2]
 refine And.intro m2.own ?_
 refine vs ?_
 refine(mE m2 bt2 ea2).mono ?_
 rintro _ H3 ⟨rfl,L3,m3,k3,u3,e3⟩
 refine And.intro m3.own ?_
 rw[er]at k3 u3
 rw[k2,u2]at k3
 rw[u2]at u3
 obtain⟨w1,w2,w3,w4⟩:=t.bt.bare x
 have hk:∀c,bh L x c= -1∨(aF w (bh L x c)=aF w x∧br L3 (bh L x c)= -1):=fun c=>by
  by_cases hk:bh L x c= -1
  ·omega
  ·refine .inr ⟨(t.bt.home hk).2.2.1,?_⟩
   rw[u3,w4,if_pos]
   cases c
   ·omega
   omega
 rw[←k3,←u3]at w1
 have mg:=Mg.start w1 gE (hk false) (hk true) (fun e=>t.bt.two x e)
 rw[er]
 refine vs ?_
 refine(iz m3 mg).mono ?_
 rintro _ H4 ⟨r,L4,rfl,m4,g4,f4,e4⟩
 refine And.intro m4.own ?_
 refine vs ?_
 have f4:=f4 x (rR.start (fun hk=>(t.bt.home hk).2.2.2.2) (fun hk=>(t.bt.home hk).2.2.2.2))
 have d:=t.V5 ls gE k3 u3 g4 f4
 have Ac:ah S H H4:=(((e1.mono fun z _ h=>hC z h).trans (e2.mono (by grind))).trans (e3.mono (by grind))).trans (e4.mono (by grind))
 have jh:=fun y=>dR (w:=w) ⟨im,nO⟩ (0,0,0) y
 have p0:aF (w.put x (0,0,0)) (-1)=0:=rfl
 have p1:aF (w.put x (0,0,0)) x=0:=by grind
 have p2:∀y,y≠x→aF (w.put x (0,0,0)) y=aF w y:=by grind
 have el:∀a b,0<aF w a→0<aF w b→a≠x→b≠x→aP (w.put x (0,0,0)) a b=aP w a b:=fun a b ha hb uv lq=>dt ⟨im,nO⟩ _ ha hb uv lq
 have rS:(w.put x (0,0,0)).cs.length=w.cs.length:=by simp[Nw.put]
 refine v1 (ae m4.own) ?_
 refine(pZ m4.ck x).mono ?_
 rintro _ H' ⟨rfl,e⟩
 obtain rfl:=e.symm
 rw[d.ux]
 unfold gQ
 by_cases hu:br L x= -1
 ·rw[if_pos hu]
  refine vs ?_
  refine(fD m4 _ r).mono ?_
  rintro _ H5 ⟨m5,e5⟩
  refine v1 (ae m5.own) ?_
  refine(ce m5.cells x).mono ?_
  rintro _ H6 (⟨bU,_,_⟩| ⟨_,rfl,c6,e6⟩)
  ·exact absurd ci bU
  have m6:=m5.aC c6 e6 rS
  refine vs ?_
  exact .inr ⟨ci,rfl,bq.same ⟨B,C,L4,_,rfl,m6,d.HW t gE hu p0 p1 p2 el,hS⟩ ((Ac.trans (e5.mono (by grind))).trans (e6.mono fun z _ h=>hC z h))⟩
 ·rw[if_neg hu]
  have Wn:=BV.up t.bt hu
  obtain⟨w5,w6⟩:=d.cut t ls gE hu
  obtain⟨a3,b3,ZH⟩:=cM (bh L4 (br L x) true)
  refine v1 (ae m4.own) ?_
  refine(cG m4.ck (br L x)).mono ?_
  rintro _ H' ⟨rfl,e⟩
  obtain rfl:=e.symm
  rw[ZH]
  refine v1 (ae m4.own) ?_
  refine(cK m4.ck (x:=x) (fun hu2=>by have:=BV.up d.bt hu2;have:=m4.len;omega)).mono ?_
  rintro _ H5 ⟨rfl,L5,t5,l5,k5,u5,e5⟩
  have m5:=m4.dS t5 e5 l5
  refine vs ?_
  have Wr:=Ac.trans (e5.mono (by grind))
  refine ar.dec (fun g=>?_) (fun g=>?_)<;>refine vs ?_
  ·refine v1 (ae m5.own) ?_
   refine(ce m5.cells x).mono ?_
   rintro _ H8 (⟨bU,_,_⟩| ⟨_,rfl,c8,e8⟩)
   ·exact absurd ci bU
   have m8:=m5.aC c8 e8 rS
   refine vs ?_
   have b6:BV w L5:=by
    show Bt _ _ _ _
    rw[k5,u5];exact w5 g
   refine .inr ⟨ci,rfl,bq.same ⟨B,C,L5,T,rfl,m8,?_,hS⟩ (Wr.trans (e8.mono fun z _ h=>hC z h))⟩
   exact d.below t ls (n:=w.cs.length) (fun y hy=>by obtain⟨y0,y1,_⟩:=aG hy;omega) gE hu b6 (by grind) p0 p1 p2 el
  ·obtain⟨y1,y2,y3,y4⟩:=w6 g
   obtain⟨r1,r2,r3,r4⟩:=d.rx g
   obtain⟨q1,q2,_⟩:=aG (w:=w) (x:=r) (by omega)
   have hl5:=m5.len
   rw[d.kp _ true rfl hu]at ZH
   rcases MY ZH with ⟨rfl,h2⟩| ⟨rfl,rfl,h3⟩
   ·have Zy:false=(bh L (br L x) true==x):=by
     rw[h2]
     exact(by grind)
    refine v1 (ae m5.own) ?_
    refine(fA m5.ck (p:=br L x) (x:=r) (c:=false) (by omega) ⟨q1,by omega⟩ y3 (by simp_all) (by rw[k5,Zy];exact y1)).mono ?_
    rintro _ H6 ⟨rfl,L6,t6,l6,k6,S4,e6⟩
    have m6:=m5.dS t6 e6 l6
    have RO:=Wr.trans (e6.mono (by grind))
    rw[k5]at k6
    rw[u5]at S4
    rw[Zy]at k6
    have b6:BV w L6:=by
     show Bt _ _ _ _
     rw[k6,S4];exact y4
    have u6:br L6=if r= -1 then dh (br L4) x else aJ (dh (br L4) x) r (br L x):=by rw[if_neg g];exact S4
    refine v1 (ae m6.own) ?_
    refine(ce m6.cells x).mono ?_
    rintro _ H8 (⟨bU,_,_⟩| ⟨_,rfl,c8,e8⟩)
    ·exact absurd ci bU
    have m8:=m6.aC c8 e8 rS
    refine vs ?_
    refine .inr ⟨ci,rfl,bq.same ⟨B,C,L6,T,rfl,m8,?_,hS⟩ (RO.trans (e8.mono fun z _ h=>hC z h))⟩
    exact d.below t ls (n:=w.cs.length) (fun y hy=>by obtain⟨y0,y1,_⟩:=aG hy;omega) gE hu b6 u6 p0 p1 p2 el
   ·have Zy:decide (bh L (br L x) true=x)=(bh L (br L x) true==x):=by rw[Bool.eq_iff_iff];simp
    refine v1 (ae m5.own) ?_
    refine(fA m5.ck (p:=br L x) (x:=r) (c:=decide (bh L (br L x) true=x)) (by omega) ⟨q1,by omega⟩ y3 (by simp_all) (by simp_all)).mono ?_
    rintro _ H6 ⟨rfl,L6,t6,l6,k6,S4,e6⟩
    have m6:=m5.dS t6 e6 l6
    have RO:=Wr.trans (e6.mono (by grind))
    rw[k5]at k6
    rw[u5]at S4
    rw[Zy]at k6
    have b6:BV w L6:=by
     show Bt _ _ _ _
     rw[k6,S4];exact y4
    have u6:br L6=if r= -1 then dh (br L4) x else aJ (dh (br L4) x) r (br L x):=by rw[if_neg g];exact S4
    refine v1 (ae m6.own) ?_
    refine(ce m6.cells x).mono ?_
    rintro _ H8 (⟨bU,_,_⟩| ⟨_,rfl,c8,e8⟩)
    ·exact absurd ci bU
    have m8:=m6.aC c8 e8 rS
    refine vs ?_
    refine .inr ⟨ci,rfl,bq.same ⟨B,C,L6,T,rfl,m8,?_,hS⟩ (RO.trans (e8.mono fun z _ h=>hC z h))⟩
    exact d.below t ls (n:=w.cs.length) (fun y hy=>by obtain⟨y0,y1,_⟩:=aG hy;omega) gE hu b6 u6 p0 p1 p2 el
theorem Ci{n:Nat}{H:Hp}{S:Nat→Prop}{w:Nw}(h:dG n H S w)(g:Int):ag Tryz.prog mP [ptr n,i64 g] H fun v H'=>ap (
  (w.len g=0∧v= .tuple [i64 0,.bool false].toArray∧bq (dG n) S H H' w)∨(∃x,w.first g x∧v= .tuple [i64 x,.bool true].toArray∧bq (dG n) S H H' (w.put x (0,0,0)))):=by
 refine aU xV ?_
 refine vs ?_
 refine(yI h g).mono ?_
 rintro _ _ ⟨⟨h0,rfl⟩| ⟨x,hx,rfl⟩,rfl⟩
 ·refine vs ?_
  exact .inl ⟨h0,rfl,bq.same h (ah.refl _ _)⟩
 ·refine vs ?_
  refine(rL h x).mono ?_
  rintro _ H1 (⟨bU,_,_⟩| ⟨_,rfl,h1⟩)
  ·exact absurd (bB.1 (by have:=bD.1 hx;omega)) bU
  refine vs ?_
  exact .inr ⟨x,hx,rfl,h1⟩
theorem Rk(n:Nat):tN (.iface 164 (ptr n)) (dG n) where
 slt h:=h.slt
 ext h e hd:=h.ext e hd
 cells:=by
  rintro H S w ⟨B,C,L,T,rfl,m,l,hS⟩
  exact⟨B.c,C,m.cells⟩
 has:=by
  rintro H S w g ⟨B,C,L,T,rfl,m,l,hS⟩
  exact⟨_,_,bJ,ptr B.c,rfl,cD (off:=0) (by kernel_rfl) (ae m.own) rfl,(iZ m.cells g).mono fun v H' hp=>hp⟩
 make:=by
  rintro H S w ⟨B,C,L,T,rfl,m,l,hS⟩
  exact⟨_,_,dN,ptr B.c,rfl,cD (off:=0) (by kernel_rfl) (ae m.own) rfl,(Hq m l rfl hS).mono fun v H' hp=>hp⟩
 insert:=by
  intro H S w g x k s h
  exact⟨_,_,n9,ptr n,rfl,aS (by kernel_rfl),(DI h g x k s).mono fun v H' hp=>hp⟩
 min:=by
  intro H S w g h
  refine⟨_,_,tz,ptr n,rfl,aS (by kernel_rfl),(yI h g).mono ?_⟩
  rintro v H' ⟨⟨h1,rfl⟩| ⟨x,h1,rfl⟩,rfl⟩
  ·exact .inl ⟨h1,rfl,bq.same h (ah.refl _ _)⟩
  ·exact .inr ⟨x,h1,rfl,bq.same h (ah.refl _ _)⟩
 extract:=by
  intro H S w g h
  exact⟨_,_,mP,ptr n,rfl,aS (by kernel_rfl),(Ci h g).mono fun v H' hp=>hp⟩
 mc:=by
  intro H S w x k s h
  exact⟨_,_,lL,ptr n,rfl,aS (by kernel_rfl),(Ah h x k s).mono fun v H' hp=>hp⟩
 entry:=by
  rintro H S w x ⟨B,C,L,T,rfl,m,l,hS⟩
  refine⟨_,_,bj,ptr B.c,rfl,cD (off:=0) (by kernel_rfl) (ae m.own) rfl,(ic m.cells x).mono ?_⟩
  rintro v H' ⟨c1,f,hv⟩
  exact⟨⟨B,C,L,T,rfl,m.fresh f,l,hS⟩,f,hv⟩
 len:=by
  rintro H S w g ⟨B,C,L,T,rfl,m,l,hS⟩
  exact⟨_,_,bK,ptr B.c,rfl,cD (off:=0) (by kernel_rfl) (ae m.own) rfl,(fe m.cells g).mono fun v H' hp=>hp⟩
 home:=by
  rintro H S w x h
  obtain⟨B,C,L,T,rfl,m,l,hS⟩:=id h
  refine⟨_,_,bC,ptr B.c,rfl,cD (off:=0) (by kernel_rfl) (ae m.own) rfl,(bI m.cells x).mono ?_⟩
  rintro v H' (⟨h1,rfl,rfl⟩| ⟨h1,rfl,c1,e1⟩)
  ·exact .inl ⟨h1,rfl,bq.same h (ah.refl _ _)⟩
  ·exact .inr ⟨h1,rfl,bq.same ⟨B,C,L,T,rfl,m.aC c1 e1 rfl,l,hS⟩ (e1.mono fun z _ hz=>(hS z).2 (.inl hz))⟩
 delete:=by
  intro H S w x h
  exact⟨_,_,n7,ptr n,rfl,aS (by kernel_rfl),(rL h x).mono fun v H' hp=>hp⟩
 yP:=by
  intro H S w a b h
  exact⟨_,_,qI,ptr n,rfl,aS (by kernel_rfl),(Hr h a b).mono fun v H' hp=>hp⟩
structure PB where
 n:Nat
 c:Nat
 tb:Nat
 tp:Nat
structure bY(H:Hp)(B:PB)(C:Nat→Prop)(w:Nw)(L:List Lk)(tops:List Int):Prop where
 own:∃tv,H.own B.n=some [ptr B.c,.slice (some ⟨B.tb,0,none⟩) L.length L.length,tv]∧Sl H 1 tv tops.length (tops.map i64) (some B.tp)
 cells:CQ H B.c C w
 fE:H.own B.tb=some (aN L)
 len:L.length=w.cs.length
 mY:B.n≠B.tb∧B.n≠B.tp∧B.tb≠B.tp
 out:¬C B.n∧¬C B.tb∧¬C B.tp
def PB.S(B:PB)(C:Nat→Prop)(z:Nat):Prop:=C z∨z=B.n∨z=B.tb∨z=B.tp
section
variable {H H' : Hp} {B : PB} {C V : Nat → Prop} {w w' : Nw} {L L' : List Lk} {tops : List Int}
theorem bY.slt(h:bY H B C w L tops):∀z,B.S C z→z<H.size:=by
 obtain⟨tv,h1,h2⟩:=h.own
 rintro z (hz|rfl|rfl|rfl)
 ·exact h.cells.slt z hz
 ·exact aE h1
 ·exact aE h.fE
 ·exact h2.lt
theorem bY.ext(h:bY H B C w L tops)(e:ah V H H')(hd:∀z,B.S C z→¬V z):bY H' B C w L tops:=by
 obtain⟨tv,h1,h2⟩:=h.own
 exact⟨⟨tv,e.own h1 (hd _ (.inr (.inl rfl))),h2.ext e (fun b hb=>by injection hb with hb;exact hb▸hd _ (.inr (.inr (.inr rfl))))⟩,h.cells.ext e (fun x hx=>hd x (.inl hx)),
  e.own h.fE (hd _ (.inr (.inr (.inl rfl)))),h.len,h.mY,h.out⟩
theorem bY.fresh(h:bY H B C w L tops)(e:ai H H'):bY H' B C w L tops:=h.ext e fun _ _ h=>h
theorem bY.aC(h:bY H B C w L tops)(c1:CQ H' B.c C w')(e:ah C H H')(hl:w'.cs.length=w.cs.length):bY H' B C w' L tops:=by
 obtain⟨tv,h1,h2⟩:=h.own
 obtain⟨o1,o2,o3⟩:=h.out
 exact⟨⟨tv,e.own h1 o1,h2.ext e (by grind)⟩,c1,e.own h.fE o2,by rw[hl];exact h.len,h.mY,h.out⟩
theorem bY.PX(h:bY H B C w L tops)(hl:L'.length=L.length):bY (H.wr B.tb (aN L')) B C w L' tops∧ah (fun z=>z=B.tb) H (H.wr B.tb (aN L')):=by
 obtain⟨tv,h1,h2⟩:=h.own
 obtain⟨o1,o2,o3⟩:=h.out
 obtain⟨d1,d2,d3⟩:=h.mY
 have e:ah (fun z=>z=B.tb) H (H.wr B.tb (aN L')):=(ah.refl (fun z=>z=B.tb) _).wr (fun _=>rfl) _
 exact⟨⟨⟨tv,by rw[hl];exact e.own h1 d1,h2.ext e (by grind)⟩,h.cells.ext e (by grind),af h.fE,by rw[hl];exact h.len,h.mY,h.out⟩,e⟩
theorem bY.dZ(h:bY H B C w L tops):∃c l,H.own B.n=some [ptr B.c,.slice (some ⟨B.tb,0,none⟩) L.length L.length,.slice (some ⟨B.tp,0,none⟩) tops.length c]∧H.own B.tp=some l∧tops.length≤c∧c≤l.length∧l.take tops.length=tops.map i64:=by
 obtain⟨tv,h1,_,l,c,rfl,h3,h4,h5,h6⟩:=h.own
 grind
theorem bY.cT(h:bY H B C w L tops){l:List Value}(hl:H.own B.tp=some l){i:Nat}{x:Int}(hx:tops[i]? =some x):l[i]? =some (i64 x):=by
 obtain⟨c,l',_,h2,_,_,h5⟩:=h.dZ
 rw[hl]at h2
 injection h2 with h2
 subst h2
 have h7:(tops.map i64)[i]? =some (i64 x):=by rw[aoF,hx];rfl
 grind
theorem bY.fR(h:bY H B C w L tops){l:List Value}(hl:H.own B.tp=some l)(i:Nat)(v:Int):bY (H.wr B.tp (l.set i (i64 v))) B C w L (tops.set i v)∧ah (fun z=>z=B.tp) H (H.wr B.tp (l.set i (i64 v))):=by
 obtain⟨c,l',h1,h2,h3,h4,h5⟩:=h.dZ
 rw[hl]at h2
 injection h2 with h2
 subst h2
 obtain⟨o1,o2,o3⟩:=h.out
 obtain⟨d1,d2,d3⟩:=h.mY
 have e:ah (fun z=>z=B.tp) H (H.wr B.tp (l.set i (i64 v))):=(ah.refl (fun z=>z=B.tp) _).wr (fun _=>rfl) _
 refine⟨⟨⟨_,e.own h1 d2,?_⟩,h.cells.ext e (by grind),e.own h.fE d3,h.len,h.mY,h.out⟩,e⟩
 refine⟨by simp,l.set i (i64 v),c,by grind,af hl,by grind,by grind,?_⟩
 rw[aom,aok,wK,h5,aoN]
theorem bY.rd(h:bY H B C w L tops){x:Int}(hx:0≤x∧x<w.cs.length):x.toNat*3+2< (aN L).length∧(aN L)[x.toNat*3]? =some (i64 (bh L x false))∧(aN L)[x.toNat*3+1]? =some (i64 (bh L x true))∧(aN L)[x.toNat*3+2]? =some (i64 (br L x)):=by
 have hl:=h.len
 have hf:=ja L
 obtain⟨y,hy⟩:∃y,L[x.toNat]? =some y:=⟨_,aol (by omega)⟩
 obtain⟨h1,h2,h3⟩:=PO hy
 rw[sV hx.1 hy,sV hx.1 hy,vP hx.1 hy]
 exact⟨by omega,h1,h2,h3⟩
theorem bY.O1(h:bY H B C w L tops){x:Int}(hx:0≤x∧x<w.cs.length)(v:Int):∃L',bh L'=eV (bh L) x false v∧br L'=br L∧bY (H.wr B.tb ((aN L).set (x.toNat*3) (i64 v))) B C w L' tops∧ah (fun z=>z=B.tb) H (H.wr B.tb ((aN L).set (x.toNat*3) (i64 v))):=by
 have hl:=h.len
 obtain⟨y,hy⟩:∃y,L[x.toNat]? =some y:=⟨_,aol (by omega)⟩
 refine⟨L.set x.toNat (y.gz false v),sW hx.1 hy false v,sX hx.1 hy false v,?_⟩
 have:=wO hy false v
 rw[show x.toNat*3+false.toNat=x.toNat*3 from rfl]at this
 rw[this]
 exact h.PX (by grind)
theorem bY.O5(h:bY H B C w L tops){x:Int}(hx:0≤x∧x<w.cs.length)(v:Int):∃L',bh L'=eV (bh L) x true v∧br L'=br L∧bY (H.wr B.tb ((aN L).set (x.toNat*3+1) (i64 v))) B C w L' tops∧ah (fun z=>z=B.tb) H (H.wr B.tb ((aN L).set (x.toNat*3+1) (i64 v))):=by
 have hl:=h.len
 obtain⟨y,hy⟩:∃y,L[x.toNat]? =some y:=⟨_,aol (by omega)⟩
 refine⟨L.set x.toNat (y.gz true v),sW hx.1 hy true v,sX hx.1 hy true v,?_⟩
 have:=wO hy true v
 rw[show x.toNat*3+true.toNat=x.toNat*3+1 from rfl]at this
 rw[this]
 exact h.PX (by grind)
theorem bY.KZ(h:bY H B C w L tops){x:Int}(hx:0≤x∧x<w.cs.length)(v:Int):∃L',bh L'=bh L∧br L'=aJ (br L) x v∧bY (H.wr B.tb ((aN L).set (x.toNat*3+2) (i64 v))) B C w L' tops∧ah (fun z=>z=B.tb) H (H.wr B.tb ((aN L).set (x.toNat*3+2) (i64 v))):=by
 have hl:=h.len
 obtain⟨y,hy⟩:∃y,L[x.toNat]? =some y:=⟨_,aol (by omega)⟩
 refine⟨L.set x.toNat ⟨y.a,y.b,v⟩,Dq hx.1 hy v,Dr hx.1 hy v,?_⟩
 rw[GX hy v]
 exact h.PX (by grind)
variable {g : Int} {R : Int → Prop} {HX ch : Int → List Int} {ay : Int → Int} {W : List Int} {a b : Int}
theorem cN(m:bY H B C w L tops)(pw:AF (aF w) (aP w) g R HX ch ay (ws [a,b]++W))(pl:J1 (bh L) (br L) ch ay):
  ag Tryz.prog xg [ptr B.n,i64 a,i64 b] H fun v H'=>ap (∃r L' dK bG,v=i64 r∧(r= -1→a= -1∧b= -1)∧bY H' B C w L' tops∧AF (aF w) (aP w) g R HX dK bG (ws [r]++W)∧J1 (bh L') (br L') dK bG∧ah (fun z=>C z∨z=B.tb) H H'):=by
 refine aU xM ?_
 refine vs ?_
 rw[ph,eE a,eE b]at pw
 refine ar.dec (fun ga=>?_) (fun ga=>?_)<;>refine vs ?_
 ·rw[if_pos ga]at pw
  rw[←eE b]at pw
  exact⟨b,L,ch,ay,rfl,by omega,m,pw,pl,ah.refl _ _⟩
 rw[if_neg ga]at pw
 refine ar.dec (fun gb=>?_) (fun gb=>?_)<;>refine vs ?_
 ·rw[if_pos gb]at pw
  exact⟨a,L,ch,ay,rfl,by omega,m,by grind [eE],pl,ah.refl _ _⟩
 rw[if_neg gb]at pw
 obtain⟨tv,o1,_⟩:=m.own
 refine v1 (ae o1) ?_
 refine(cA m.cells b a).mono ?_
 rintro _ H2 ⟨rfl,c2,e2⟩
 have m2:=m.aC c2 e2 rfl
 have WB:AF (aF w) (aP w) g R HX ch ay (a::b::W):=pw
 obtain⟨a1,a2,a3⟩:=WB.wm a (by simp)
 obtain⟨b1,b2,b3⟩:=WB.wm b (by simp)
 have eJ:=gw (w:=w) (a:=b) (b:=a) (by rw[b2];exact WB.g0) (by rw[a2];exact WB.g0)
 rw[eJ]
 have bN:a≠b:=fun e=>by cases WB;grind
 obtain⟨p,q,T6,hl,pw2⟩:∃p q,(if aP w b a=true then(p=b∧q=a)else(p=a∧q=b))∧aP w p q=true∧AF (aF w) (aP w) g R HX ch ay (p::q::W):=by
  cases bf:aP w b a
  ·exact⟨a,b,by simp,by grind [aP,Nw.key,Nw.seq],WB⟩
  grind [AF.perm]
 obtain⟨p1,p2,p3⟩:=pw2.wm p (by simp)
 obtain⟨q1,q2,q3⟩:=pw2.wm q (by simp)
 have agh:p≠q:=by grind
 have pw3:=pw2.link hl
 have ZR:=pl.link pw2.pr p1 q3 agh
 obtain⟨px,py,_⟩:=aG (w:=w) (x:=p) (by rw[p2];exact WB.g0)
 obtain⟨qx,qy,_⟩:=aG (w:=w) (x:=q) (by rw[q2];exact WB.g0)
 have hold:bh L p false≠ -1→0≤bh L p false∧bh L p false<w.cs.length:=fun h=>by
  have h1:bh L p false∈ch p:=by rw[pl.hd]at h ⊢;exact eX h
  have h2:=(pw2.pr.dn p _ h1).2.2.2.1
  obtain⟨z0,z1,_⟩:=aG h2
  omega
 have bu:=m2.len
 have ws1:ws [p]=[p]:=by rw[eE,if_neg p1]
 cases bf:aP w b a<;>simp only[bf,if_true,if_false,ao6]at T6<;>obtain⟨rfl,rfl⟩:=T6<;>refine vs ?_
 all_goals
  obtain⟨QY,o2,_⟩:=m2.own
  obtain⟨r0,r1,r2,r3⟩:=m2.rd ⟨px,py⟩
  refine v1 (ae o2) ?_
  refine⟨by omega,?_⟩
  refine v4 (ae m2.fE) aoi Nat.add_zero r1 ?_
  refine v1 (ae o2) ?_
  refine⟨by omega,?_⟩
  obtain⟨L3,k3,u3,m3,e3⟩:=m2.O5 ⟨qx,qy⟩ (bh L p false)
  obtain⟨s0,_⟩:=m2.rd ⟨qx,qy⟩
  refine v3 m2.fE aoi Nat.add_zero ?_
  refine⟨by omega,?_⟩
  refine vs ?_
  generalize H2.wr B.tb ((aN L).set (q.toNat*3+1) (i64 (bh L p false)))=H3 at*
  obtain⟨L4,k4,u4,m4,e4⟩:=m3.KZ ⟨qx,qy⟩ p
  obtain⟨s4,_⟩:=m3.rd ⟨qx,qy⟩
  refine⟨by omega,?_⟩
  refine v3 m3.fE aoi Nat.add_zero ?_
  refine⟨by omega,?_⟩
  refine vs ?_
  generalize H3.wr B.tb ((aN L3).set (q.toNat*3+2) (i64 p))=H4 at*
  have e24:ah (fun z=>C z∨z=B.tb) H H4:=((e2.mono fun z _ h=>.inl h).trans (e3.mono fun z _ h=>.inr h)).trans (e4.mono fun z _ h=>.inr h)
  have Vr:=m4.len
  refine ar.dec (fun go=>?_) (fun go=>?_)<;>refine vs ?_
  ·obtain⟨ZG,o4,_⟩:=m4.own
   obtain⟨L5,k5,u5,m5,e5⟩:=m4.O1 ⟨px,py⟩ q
   obtain⟨s5,_⟩:=m4.rd ⟨px,py⟩
   refine v1 (ae o4) ?_
   refine⟨by omega,?_⟩
   refine v3 m4.fE aoi Nat.add_zero ?_
   refine⟨by omega,?_⟩
   refine vs ?_
   refine⟨p,L5,_,_,rfl,by omega,m5,by rw[ws1];exact pw3,?_,e24.trans (e5.mono fun z _ h=>.inr h)⟩
   grind
  ·obtain⟨ZG,o4,_⟩:=m4.own
   obtain⟨ox,oy⟩:=hold go
   obtain⟨L5,k5,u5,m5,e5⟩:=m4.KZ ⟨ox,oy⟩ q
   obtain⟨s5,_⟩:=m4.rd ⟨ox,oy⟩
   refine v1 (ae o4) ?_
   refine⟨by omega,?_⟩
   refine v3 m4.fE aoi Nat.add_zero ?_
   refine⟨by omega,?_⟩
   refine vs ?_
   generalize H4.wr B.tb ((aN L4).set ((bh L p false).toNat*3+2) (i64 q))=H5 at*
   obtain⟨tv5,o5,_⟩:=m5.own
   have hl5:=m5.len
   obtain⟨L6,k6,u6,m6,e6⟩:=m5.O1 ⟨px,py⟩ q
   obtain⟨s6,_⟩:=m5.rd ⟨px,py⟩
   refine v1 (ae o5) ?_
   refine⟨by omega,?_⟩
   refine v3 m5.fE aoi Nat.add_zero ?_
   refine⟨by omega,?_⟩
   refine vs ?_
   refine⟨p,L6,_,_,rfl,by omega,m6,by rw[ws1];exact pw3,?_,(e24.trans (e5.mono fun z _ h=>.inr h)).trans (e6.mono fun z _ h=>.inr h)⟩
   grind
theorem rM(m:bY H B C w L tops){lt:Int→Int→Bool}(hs:bF lt)(q:Pr (aF w) lt ch ay)(pl:J1 (bh L) (br L) ch ay){p x:Int}{l1 l2:List Int}(hp:ch p=l1++x::l2):
  ag Tryz.prog zo [ptr B.n,i64 x] H fun v H'=>ap (∃L',bY H' B C w L' tops∧J1 (bh L') (br L') (az ch p (l1++l2)) (aJ ay x (-1))∧ah (fun z=>z=B.tb) H H'):=by
 obtain⟨f1,f2,f7,f3,f4,f5,f6⟩:=pl.off q hs hp
 have hx:=(q.dn p x (by grind)).2.2.2.1
 obtain⟨x0,x1,_⟩:=aG hx
 obtain⟨y0,y1,_⟩:=aG (w:=w) (x:=br L x) (by omega)
 obtain⟨tv,o1,_⟩:=m.own
 obtain⟨r0,r1,r2,r3⟩:=m.rd ⟨x0,x1⟩
 obtain⟨t0,t1,t2,t3⟩:=m.rd ⟨y0,y1⟩
 have hl:=m.len
 refine Fz zQ ⟨rfl,?_⟩
 refine v2 oq.eq_1 (ae o1) ?_
 refine⟨by omega,?_⟩
 refine v5 (ae o1) (ae m.fE) aoi Nat.add_zero r3 ?_
 refine⟨by omega,?_⟩
 refine v4 (ae m.fE) aoi Nat.add_zero t1 ?_
 have bx:br L x≠x:=f7
 refine ar.dec (fun g=>?_) (fun g=>?_)<;>refine vs ?_
 ·have Ay:=f1.1 g
  rw[if_pos Ay]at f6
  refine v6 (ae o1) (ae m.fE) aoi Nat.add_zero r2 r3 ?_
  refine⟨by omega,?_⟩
  obtain⟨L1,k1,u1,m1,e1⟩:=m.O1 ⟨y0,y1⟩ (bh L x true)
  refine v3 m.fE aoi Nat.add_zero ?_
  refine⟨by omega,?_⟩
  refine vs ?_
  generalize H.wr B.tb ((aN L).set ((br L x).toNat*3) (i64 (bh L x true)))=H1 at*
  obtain⟨s0,s1,s2,s3⟩:=m1.rd ⟨x0,x1⟩
  have Ay:=m1.len
  obtain⟨Dt,o1,_⟩:=m1.own
  have en:bh L1 x true=bh L x true:=by
   rw[k1]
   unfold eV
   omega
  have eu:br L1 x=br L x:=by rw[u1]
  rw[en]at s2
  rw[eu]at s3
  refine v4 (ae m1.fE) aoi Nat.add_zero s2 ?_
  refine ar.dec (fun gn=>?_) (fun gn=>?_)<;>refine vs ?_
  ·obtain⟨L2,k2,u2,m2,e2⟩:=m1.O5 ⟨x0,x1⟩ (-1)
   refine v3 m1.fE aoi Nat.add_zero ?_
   refine⟨by omega,?_⟩
   obtain⟨v0,_⟩:=m2.rd ⟨x0,x1⟩
   obtain⟨L3,k3,u3,m3,e3⟩:=m2.KZ ⟨x0,x1⟩ (-1)
   refine vs ?_
   generalize H1.wr B.tb ((aN L1).set (x.toNat*3+1) (Value.int .i64 (-1)))=H2 at*
   refine v3 m2.fE aoi Nat.add_zero ?_
   refine⟨by omega,?_⟩
   refine vs ?_
   refine⟨L3,m3,?_,(e1.trans e2).trans e3⟩
   grind
  ·obtain⟨z0,z1,_⟩:=aG (w:=w) (x:=bh L x true) (by omega)
   obtain⟨v0,_⟩:=m1.rd ⟨z0,z1⟩
   refine v6 (ae o1) (ae m1.fE) aoi Nat.add_zero s2 s3 ?_
   refine⟨by omega,?_⟩
   obtain⟨L2,k2,u2,m2,e2⟩:=m1.KZ ⟨z0,z1⟩ (br L x)
   refine v3 m1.fE aoi Nat.add_zero ?_
   refine⟨by omega,?_⟩
   refine vs ?_
   generalize H1.wr B.tb ((aN L1).set ((bh L x true).toNat*3+2) (i64 (br L x)))=H2 at*
   obtain⟨v1,_⟩:=m2.rd ⟨x0,x1⟩
   obtain⟨L3,k3,u3,m3,e3⟩:=m2.O5 ⟨x0,x1⟩ (-1)
   refine v3 m2.fE aoi Nat.add_zero ?_
   refine⟨by omega,?_⟩
   obtain⟨v2,_⟩:=m3.rd ⟨x0,x1⟩
   obtain⟨L4,k4,u4,m4,e4⟩:=m3.KZ ⟨x0,x1⟩ (-1)
   refine vs ?_
   generalize H2.wr B.tb ((aN L2).set (x.toNat*3+1) (Value.int .i64 (-1)))=H3 at*
   refine v3 m3.fE aoi Nat.add_zero ?_
   refine⟨by omega,?_⟩
   refine vs ?_
   refine⟨L4,m4,?_,((e1.trans e2).trans e3).trans e4⟩
   grind
 ·have Ay:l1≠[]:=fun h=>g (f1.2 h)
  rw[if_neg Ay]at f6
  refine v6 (ae o1) (ae m.fE) aoi Nat.add_zero r2 r3 ?_
  refine⟨by omega,?_⟩
  obtain⟨L1,k1,u1,m1,e1⟩:=m.O5 ⟨y0,y1⟩ (bh L x true)
  refine v3 m.fE aoi Nat.add_zero ?_
  refine⟨by omega,?_⟩
  refine vs ?_
  generalize H.wr B.tb ((aN L).set ((br L x).toNat*3+1) (i64 (bh L x true)))=H1 at*
  obtain⟨s0,s1,s2,s3⟩:=m1.rd ⟨x0,x1⟩
  have Ay:=m1.len
  obtain⟨Dt,o1,_⟩:=m1.own
  have en:bh L1 x true=bh L x true:=by
   rw[k1]
   unfold eV
   omega
  have eu:br L1 x=br L x:=by rw[u1]
  rw[en]at s2
  rw[eu]at s3
  refine v4 (ae m1.fE) aoi Nat.add_zero s2 ?_
  refine ar.dec (fun gn=>?_) (fun gn=>?_)<;>refine vs ?_
  ·obtain⟨L2,k2,u2,m2,e2⟩:=m1.O5 ⟨x0,x1⟩ (-1)
   refine v3 m1.fE aoi Nat.add_zero ?_
   refine⟨by omega,?_⟩
   obtain⟨v0,_⟩:=m2.rd ⟨x0,x1⟩
   obtain⟨L3,k3,u3,m3,e3⟩:=m2.KZ ⟨x0,x1⟩ (-1)
   refine vs ?_
   generalize H1.wr B.tb ((aN L1).set (x.toNat*3+1) (Value.int .i64 (-1)))=H2 at*
   refine v3 m2.fE aoi Nat.add_zero ?_
   refine⟨by omega,?_⟩
   refine vs ?_
   refine⟨L3,m3,?_,(e1.trans e2).trans e3⟩
   grind
  ·obtain⟨z0,z1,_⟩:=aG (w:=w) (x:=bh L x true) (by omega)
   obtain⟨v0,_⟩:=m1.rd ⟨z0,z1⟩
   refine v6 (ae o1) (ae m1.fE) aoi Nat.add_zero s2 s3 ?_
   refine⟨by omega,?_⟩
   obtain⟨L2,k2,u2,m2,e2⟩:=m1.KZ ⟨z0,z1⟩ (br L x)
   refine v3 m1.fE aoi Nat.add_zero ?_
   refine⟨by omega,?_⟩
   refine vs ?_
   generalize H1.wr B.tb ((aN L1).set ((bh L x true).toNat*3+2) (i64 (br L x)))=H2 at*
   obtain⟨v1,_⟩:=m2.rd ⟨x0,x1⟩
   obtain⟨L3,k3,u3,m3,e3⟩:=m2.O5 ⟨x0,x1⟩ (-1)
   refine v3 m2.fE aoi Nat.add_zero ?_
   refine⟨by omega,?_⟩
   obtain⟨v2,_⟩:=m3.rd ⟨x0,x1⟩
   obtain⟨L4,k4,u4,m4,e4⟩:=m3.KZ ⟨x0,x1⟩ (-1)
   refine vs ?_
   generalize H2.wr B.tb ((aN L2).set (x.toNat*3+1) (Value.int .i64 (-1)))=H3 at*
   refine v3 m3.fE aoi Nat.add_zero ?_
   refine⟨by omega,?_⟩
   refine vs ?_
   refine⟨L4,m4,?_,((e1.trans e2).trans e3).trans e4⟩
   grind
end
end Go.Proofs.YtjkkkibiegfecaaGreatDoor

namespace Go.Proofs.YtjkkkibiegfecaaGreatDoor
open Go Go.Vc
section
variable {H : Hp} {B : PB} {C V : Nat → Prop} {w : Nw} {L : List Lk} {tops : List Int} {ch HX : Int → List Int} {ay : Int → Int}
theorem Pr.len(q:Pr (aF w) (aP w) ch ay)(x:Int):(ch x).length≤w.cs.length:=cu (q.nd x) fun c hc=>by
 obtain⟨z0,z1,_⟩:=aG (q.dn x c hc).2.2.2.1
 omega
theorem J0.next{K:Int→Bool→Int}{Bk:Int→Int}:∀ {l1:List Int} {p x:Int} {l2:List Int},J0 K Bk p (l1++x::l2)→K x true=l2.headD (-1):=fun h=>h.split.2.1
theorem Cj(m:bY H B C w L tops)(q:Pr (aF w) (aP w) ch ay)(pl:J1 (bh L) (br L) ch ay){x:Int}(hx:0<aF w x):
  ag Tryz.prog xi [ptr B.n,i64 x] H fun v H'=>ap (∃fp,bY H' B C w L tops∧ah C H H'∧Sl H' 1 v (ch x).length ((ch x).map i64) fp∧∀b,fp=some b→H.size≤b):=by
 obtain⟨x0,x1,_⟩:=aG hx
 have rV:=m.cells.CI
 have bu:=q.len x
 refine aU xO ?_
 obtain⟨tv,o1,_⟩:=m.own
 refine v1 (ae o1) ?_
 refine(bI m.cells x).mono ?_
 rintro _ H1 (⟨bU,_,_⟩| ⟨ci,rfl,c1,e1⟩)
 ·exact absurd (bB.1 hx) bU
 have m1:=m.aC c1 e1 rfl
 obtain⟨Dt,o1,_⟩:=m1.own
 obtain⟨r0,r1,r2,r3⟩:=m1.rd ⟨x0,x1⟩
 have hl:=m1.len
 have z1:=e1.size
 refine v1 (ae o1) ?_
 refine⟨by omega,?_⟩
 refine v4 (ae m1.fE) aoi Nat.add_zero r1 ?_
 refine bX.intro (fun mm env H'=>∃ (d r:List Int) (wv:Value) (fp:Option Nat),mm=r.length∧ch x=d++r∧bY H' B C w L tops∧(∀z,fp=some z→H.size≤z)∧Sl H' 1 wv d.length (d.map i64) fp∧ah (fun z=>C z∨H.size≤z) H H'∧
  env=[(0,ptr B.n),(7,wv),(8,i64 (r.headD (-1)))]) _ ⟨[],ch x,_,none,rfl,rfl,m1,by grind,Sl.nil _ _,e1.mono (by grind),by rw[pl.hd]⟩ ?_
 rintro mm env H2 ⟨d,r,wv,fp,rfl,hdr,m2,jg,s2,e2,rfl⟩
 have z2:=e2.size
 refine vs ?_
 cases r with
 |nil=>
  refine ar.dec (fun _=>?_) (fun h=>absurd rfl h)
  refine vs ?_
  rw[aoO]at hdr
  rw[hdr]
  exact⟨fp,m2,e2.mono (by grind),s2,jg⟩
 |cons c r=>
  have hc:=q.dn x c (by grind)
  obtain⟨c0,c1,_⟩:=aG hc.2.2.2.1
  have Ns:=pl.sg x
  rw[hdr]at Ns
  have Ns:=Ns.next
  have rl:d.length+(r.length+1)=(ch x).length:=by grind
  refine ar.dec (fun h=>absurd h (by grind)) (fun _=>?_)
  refine vs ?_
  refine Ee (B:=H.size) jg (by omega) s2 c (by omega) fun w' H3 di mC s3 e3=>?_
  refine vs ?_
  have m3:=m2.ext e3 (fun z hz jH=>by have:=m.slt z hz;omega)
  obtain⟨Xy,o3,_⟩:=m3.own
  obtain⟨t0,t1,t2,t3⟩:=m3.rd ⟨c0,c1⟩
  have SS:=m3.len
  simp(disch:=(first|omega| (simp only[Zs]<;>omega)|fail)) only[go_sem, ↓reduceIte,Zv,ae o3,List.headD_cons]
  refine⟨by omega,?_⟩
  refine v4 (ae m3.fE) aoi Nat.add_zero t2 ?_
  refine⟨r.length,by simp,d++[c],r,w',di,rfl,by grind,m3,mC,s3,e2.trans (e3.mono fun z _ h=>.inr h),by rw[Ns]⟩
theorem jS(m:bY H B C w L tops)(q:Pr (aF w) (aP w) ch ay)(pl:J1 (bh L) (br L) ch ay){x:Int}(hx:0<aF w x):
  ag Tryz.prog xh [ptr B.n,i64 x] H fun v H'=>ap (∃r L' dK bG,v=i64 r∧bY H' B C w L' tops∧J1 (bh L') (br L') dK bG∧
   AF (aF w) (aP w) (aF w x) (fun y=>0<aF w y∧ay y= -1) (az ch x []) dK bG (ws [r])∧ah (fun z=>C z∨z=B.tb) H H'):=by
 obtain⟨x0,x1,_⟩:=aG hx
 have rV:=m.cells.CI
 have bu:=q.len x
 refine aU xN ?_
 refine vs ?_
 refine(Cj m q pl hx).mono ?_
 rintro kv H1 ⟨fp,m1,e1,s1,jg⟩
 have z1:=e1.size
 obtain⟨Dt,o1,_⟩:=m1.own
 obtain⟨r0,_⟩:=m1.rd ⟨x0,x1⟩
 have hl:=m1.len
 refine v1 (ae o1) ?_
 refine⟨⟨by omega,by omega⟩,?_⟩
 obtain⟨L2,k2,u2,m2,e2⟩:=m1.O1 ⟨x0,x1⟩ (-1)
 refine v3 m1.fE aoi Nat.add_zero ?_
 refine⟨by omega,?_⟩
 refine vs ?_
 generalize H1.wr B.tb ((aN L).set (x.toNat*3) (Value.int .i64 (-1)))=H2 at*
 have hN:∀z,B.S C z→z<H.size:=m.slt
 have sl2:B.tb<H.size:=hN _ (.inr (.inr (.inl rfl)))
 have s2:=s1.ext e2 (fun z hz jH=>by have:=jg z hz;omega)
 obtain⟨ka,kc,rfl⟩:=Sl.shape s2
 have oY:ah (fun z=>C z∨z=B.tb∨H.size≤z) H H2:=(e1.mono fun z _ h=>.inl h).trans (e2.mono fun z _ h=>.inr (.inl h))
 refine vs ?_
 refine bX.intro (fun mm env H'=>∃ (i:Nat) (L':List Lk),mm=(ch x).length - i∧i≤(ch x).length∧bY H' B C w L' tops∧Sl H' 1 (.slice ka (ch x).length kc) (ch x).length ((ch x).map i64) fp∧ah (fun z=>C z∨z=B.tb∨H.size≤z) H H'∧
  (∀y,bh L' y false=if y=x then -1 else bh L y false)∧(∀c,(c∈(ch x).take i→bh L' c true= -1∧br L' c= -1)∧(c∉ (ch x).take i→bh L' c true=bh L c true∧br L' c=br L c))∧
  env=[(0,ptr B.n),(5,.slice ka (ch x).length kc),(22,.slice ka (ch x).length kc),(23,i64 (ch x).length),(24,i64 i)]) _ ⟨0,L2,rfl,by omega,m2,s2,oY,fun y=>?_,fun c=>⟨fun h=>by simp at h,fun _=>?_⟩,rfl⟩ ?_
 ·rw[k2]
  unfold eV
  by_cases hy:y=x
  ·rw[if_pos ⟨hy,rfl⟩,if_pos hy]
  ·rw[if_neg (by simp[hy]),if_neg hy]
 ·rw[k2,u2]
  unfold eV
  rw[if_neg (by simp)]
  exact⟨rfl,rfl⟩
 rintro mm env H3 ⟨i,L3,rfl,hi,m3,s3,e3,kf3,kt3,rfl⟩
 refine vs ?_
 refine ar.dec (fun gi=>?_) (fun gi=>?_)<;>refine vs ?_
 ·have xZ:i< (ch x).length:=by omega
  obtain⟨c,hc⟩:∃c,(ch x)[i]? =some c:=⟨_,aol xZ⟩
  have Nk:=aou hc
  obtain⟨c0,c1,_⟩:=aG (q.dn x c Nk).2.2.2.1
  obtain⟨_,kb,lb,rfl,q2,q3⟩:=Sl.Ab s3 hc
  refine⟨⟨by omega,by omega⟩,?_⟩
  refine v5 (ae q2) aoi aok Int.toNat_natCast q3 ?_
  obtain⟨Xy,o3,_⟩:=m3.own
  obtain⟨t0,_⟩:=m3.rd ⟨c0,c1⟩
  have SS:=m3.len
  refine v1 (ae o3) ?_
  refine⟨⟨by omega,by omega⟩,?_⟩
  obtain⟨L4,k4,u4,m4,e4⟩:=m3.O5 ⟨c0,c1⟩ (-1)
  refine v3 m3.fE aoi Nat.add_zero ?_
  refine⟨by omega,?_⟩
  obtain⟨t1,_⟩:=m4.rd ⟨c0,c1⟩
  have Vr:=m4.len
  obtain⟨L5,k5,u5,m5,e5⟩:=m4.KZ ⟨c0,c1⟩ (-1)
  refine vs ?_
  generalize H3.wr B.tb ((aN L3).set (c.toNat*3+1) (Value.int .i64 (-1)))=H4 at*
  refine⟨⟨by omega,by omega⟩,?_⟩
  refine v3 m4.fE aoi Nat.add_zero ?_
  refine⟨by omega,?_⟩
  refine vs ?_
  have s5:=(s3.ext e4 (fun z hz jH=>by have:=jg z hz;omega)).ext e5 (fun z hz jH=>by have:=jg z hz;omega)
  refine⟨(ch x).length - (i+1),by omega,i+1,L5,rfl,by omega,m5,s5,(e3.trans (e4.mono fun z _ h=>.inr (.inl h))).trans (e5.mono fun z _ h=>.inr (.inl h)),fun y=>?_,fun d=>?_,?_⟩
  ·rw[k5,k4]
   unfold eV
   rw[if_neg (by simp)]
   exact kf3 y
  ·have tk:(ch x).take (i+1)=(ch x).take i++[c]:=by rw[aoL,hc];rfl
   rw[tk,k5,k4,u5,u4]
   unfold eV aJ
   by_cases hd:d=c
   ·rw[if_pos ⟨hd,rfl⟩,if_pos hd]
    exact⟨fun _=>⟨rfl,rfl⟩,fun h=>absurd (show d∈(ch x).take i++[c] by simp[hd]) h⟩
   ·rw[if_neg (by simp[hd]),if_neg hd]
    refine⟨fun h=>(kt3 d).1 ?_,fun h=>(kt3 d).2 fun h2=>h (by simp[h2])⟩
    rcases aoD.1 h with h|h
    ·exact h
    ·exact absurd (aoB.1 h) hd
  ·rw[wrap64 (by omega) (by omega)]
   rfl
 obtain rfl:i=(ch x).length:=by omega
 rw[aoP]at kt3
 have ZR:=pl.bare q kf3 (fun c hc=>(kt3 c).1 hc) (fun c hc=>(kt3 c).2 hc)
 have pw3:=q.WU hx
 have OU:∀z,fp=some z→z<H3.size:=fun z hz=>by rw[hz]at s3;exact s3.lt
 have z3:=e3.size
 refine bX.intro (fun mm env H'=>∃ (i:Nat) (t:List Int) (wv:Value) (fq:Option Nat) (L':List Lk) (dK:Int→List Int) (bG:Int→Int),mm=(ch x).length+2 - i∧i≤(ch x).length+1∧t.length≤i∧bY H' B C w L' tops∧
  Sl H' 1 (.slice ka (ch x).length kc) (ch x).length ((ch x).map i64) fp∧(∀z,fq=some z→H3.size≤z)∧Sl H' 1 wv t.length (t.map i64) fq∧ah (fun z=>C z∨z=B.tb∨H.size≤z) H H'∧ah (fun z=>C z∨z=B.tb∨H3.size≤z) H3 H'∧
  AF (aF w) (aP w) (aF w x) (fun y=>0<aF w y∧ay y= -1) (az ch x []) dK bG (t++(ch x).drop i)∧J1 (bh L') (br L') dK bG∧
  env=[(0,ptr B.n),(5,.slice ka (ch x).length kc),(8,wv),(9,i64 i)]) _ ⟨0,[],_,none,L3,_,_,rfl,by omega,by simp,m3,s3,(fun z h=>by cases h),Sl.nil _ _,e3,ah.refl _ _,by simpa using pw3,ZR,rfl⟩ ?_
 rintro mm env H4 ⟨i,t,wv,fq,L4,Tm,Hs,rfl,hi,hti,m4,s4,Lv,t4,e4,XZ,X6,X7,rfl⟩
 have z4:=e4.size
 have z34:=XZ.size
 refine vs ?_
 refine ar.dec (fun gi=>?_) (fun gi=>?_)<;>refine vs ?_
 ·have xZ:i< (ch x).length:=by omega
  obtain⟨c,hc⟩:∃c,(ch x)[i]? =some c:=⟨_,aol xZ⟩
  have Nk:=aou hc
  have Rc:=q.ne Nk
  have dr:(ch x).drop i=c::(ch x).drop (i+1):=by
   rw[apb xZ]
   congr 1
   rw[aol xZ]at hc
   injection hc
  obtain⟨_,kb,lb,rfl,q2,q3⟩:=Sl.Ab s4 hc
  refine ar.dec (fun g1=>?_) (fun g1=>?_)<;>refine vs ?_
  ·rw[wrap64 (by omega) (by omega)]at g1
   refine⟨⟨by omega,by omega⟩,?_⟩
   refine v5 (ae q2) aoi aok Int.toNat_natCast q3 ?_
   refine Ee (B:=H3.size) Lv z34 t4 c (by omega) fun w' H5 fq' Ti t5 e5=>?_
   refine vs ?_
   have m5:=m4.ext e5 (fun z hz jH=>by have:=m.slt z hz;omega)
   have s5:=s4.ext e5 (fun z hz jH=>by have:=OU z hz;omega)
   refine⟨(ch x).length+2 - (i+2),by omega,i+2,t++[c],w',fq',L4,Tm,Hs,rfl,by omega,by simp;omega,m5,s5,Ti,t5,e4.trans (e5.mono fun z _ h=>.inr (.inr (by omega))),XZ.trans (e5.mono fun z _ h=>.inr (.inr h)),?_,X7,?_⟩
   ·rw[dr]at X6
    rw[List.drop_of_length_le (by omega)]
    rw[List.drop_of_length_le (by omega)]at X6
    simpa using X6
   ·rw[wrap64 (by omega) (by omega)];rfl
  ·rw[wrap64 (by omega) (by omega)]at g1
   have PQ:i+1< (ch x).length:=by omega
   obtain⟨d,hd⟩:∃d,(ch x)[i+1]? =some d:=⟨_,aol PQ⟩
   have UE:=aou hd
   have hdn:=q.ne UE
   have dr2:(ch x).drop (i+1)=d::(ch x).drop (i+2):=by
    rw[apb PQ]
    congr 1
    rw[aol PQ]at hd
    injection hd
   obtain⟨_,CK,lb2,ek,q5,q4⟩:=Sl.Ab s4 hd
   injection ek with ek
   injection ek with ek
   subst ek
   rw[q2]at q5
   injection q5 with q5
   subst q5
   refine⟨⟨by omega,by omega⟩,?_⟩
   refine v5 (ae q2) aoi aok Int.toNat_natCast q3 ?_
   rw[wrap64 (by omega) (by omega)]
   refine⟨⟨by omega,by omega⟩,?_⟩
   refine v5 (ae q2) aoi aok (show((i:Int)+1).toNat=i+1 by omega) q4 ?_
   have w2:ws [c,d]=[c,d]:=by rw[ph,eE,eE,if_neg Rc,if_neg hdn];rfl
   have X8:AF (aF w) (aP w) (aF w x) (fun y=>0<aF w y∧ay y= -1) (az ch x []) Tm Hs (ws [c,d]++(t++(ch x).drop (i+2))):=by
    rw[w2]
    rw[dr,dr2]at X6
    refine X6.perm ?_
    have h1:(t++c::d::(ch x).drop (i+2)).Perm (c::(t++d::(ch x).drop (i+2))):=apv
    have h2:(t++d::(ch x).drop (i+2)).Perm (d::(t++(ch x).drop (i+2))):=apv
    exact h1.trans (h2.cons c)
   refine(cN m4 X8 X7).mono ?_
   rintro _ H5 ⟨r,L5,ZS,Rm,rfl,hr,m5,pw6,pl5,e5⟩
   have hrn:r≠ -1:=fun h=>Rc (hr h).1
   have z5:=e5.size
   have t5:=t4.ext e5 (fun z hz jH=>by have:=Lv z hz;rcases jH with h|h;have:=m.slt z (.inl h);omega;omega)
   have s5:=s4.ext e5 (fun z hz jH=>by have:=jg z hz;rcases jH with h|h;have:=m.slt z (.inl h);omega;omega)
   refine vs ?_
   refine Ee (B:=H3.size) Lv (by omega) t5 r (by omega) fun w' H6 fq' Ti t6 e6=>?_
   refine vs ?_
   have m6:=m5.ext e6 (fun z hz jH=>by have:=m.slt z hz;omega)
   have s6:=s5.ext e6 (fun z hz jH=>by have:=OU z hz;omega)
   refine⟨(ch x).length+2 - (i+2),by omega,i+2,t++[r],w',fq',L5,ZS,Rm,rfl,by omega,by simp;omega,m6,s6,Ti,t6,(e4.trans (e5.mono fun z _ h=>h.elim .inl fun h=>.inr (.inl h))).trans (e6.mono fun z _ h=>.inr (.inr (by omega))),(XZ.trans (e5.mono fun z _ h=>h.elim .inl fun h=>.inr (.inl h))).trans (e6.mono fun z _ h=>.inr (.inr h)),?_,pl5,?_⟩
   ·rw[eE,if_neg hrn]at pw6
    refine pw6.perm ?_
    rw[List.append_assoc]
    exact(apv (l₁:=t) (a:=r) (l₂:=(ch x).drop (i+2))).symm
   ·rw[wrap64 (by omega) (by omega)];rfl
 rw[List.drop_of_length_le (by omega),aoO]at X6
 have Np:t.length≤65537:=by omega
 obtain⟨ta,tc,rfl⟩:=Sl.shape t4
 refine vs ?_
 refine bX.intro (fun mm env H'=>∃ (j:Nat) (r:Int) (L':List Lk) (dK:Int→List Int) (bG:Int→Int),mm=j∧j≤t.length∧bY H' B C w L' tops∧
  Sl H' 1 (.slice ta t.length tc) t.length (t.map i64) fq∧ah (fun z=>C z∨z=B.tb∨H.size≤z) H H'∧
  AF (aF w) (aP w) (aF w x) (fun y=>0<aF w y∧ay y= -1) (az ch x []) dK bG (ws [r]++t.take j)∧J1 (bh L') (br L') dK bG∧
  env=[(0,ptr B.n),(8,.slice ta t.length tc),(10,i64 r),(11,i64 ((j:Int) - 1))]) _ ⟨t.length, -1,L4,Tm,Hs,rfl,aox _,m4,t4,e4,by rw[eE,if_pos rfl,aoP];exact X6,X7,?_⟩ ?_
 ·rw[wrap64 (by omega) (by omega)]
 rintro mm env H5 ⟨j,r,L5,ZS,Rm,hmj,hj,m5,t5,e5,X8,pl5,rfl⟩
 obtain rfl:=hmj.symm
 refine vs ?_
 refine ar.dec (fun gj=>?_) (fun gj=>?_)<;>refine vs ?_
 ·obtain⟨k,rfl⟩:∃k,j=k+1:=⟨j - 1,by omega⟩
  obtain⟨c,hc⟩:∃c,t[k]? =some c:=⟨_,aol (by omega)⟩
  obtain⟨_,kb,lb,rfl,q2,q3⟩:=Sl.Ab t5 hc
  have ji:((((k+1:Nat):Int) - 1)).toNat=k:=by omega
  refine⟨⟨by omega,by omega⟩,?_⟩
  refine v5 (ae q2) aoi aok ji q3 ?_
  have tk:t.take (k+1)=t.take k++[c]:=by rw[aoL,hc];rfl
  have Rc:c≠ -1:=(X8.wm c (by rw[tk];simp)).1
  have pw6:AF (aF w) (aP w) (aF w x) (fun y=>0<aF w y∧ay y= -1) (az ch x []) ZS Rm (ws [c,r]++t.take k):=by
   rw[tk]at X8
   refine X8.perm ?_
   rw[ph c [r],eE c,if_neg Rc]
   have h1:(ws [r]++(t.take k++[c])).Perm ((ws [r]++t.take k)++[c]):=by rw[List.append_assoc]
   refine h1.trans (aoY.trans ?_)
   rw[List.append_assoc]
  refine(cN m5 pw6 pl5).mono ?_
  rintro _ H6 ⟨r2,L6,ZN,O4,rfl,hr,m6,pw7,pl6,e6⟩
  have t6:=t5.ext e6 (fun z hz jH=>by have:=Lv z hz;rcases jH with h|h;have:=m.slt z (.inl h);omega;omega)
  refine vs ?_
  refine⟨k,by omega,k,r2,L6,ZN,O4,rfl,by omega,m6,t6,e5.trans (e6.mono fun z _ h=>h.elim .inl fun h=>.inr (.inl h)),pw7,pl6,?_⟩
  rw[show((k+1:Nat):Int) - 1 - 1=(k:Int) - 1 by omega,wrap64 (by omega) (by omega)]
 ·obtain rfl:j=0:=by omega
  rw[List.take_zero,aoO]at X8
  exact⟨r,L5,ZS,Rm,rfl,m5,pl5,X8,e5.mono fun z hz h=>h.elim .inl fun h=>.inr (by omega)⟩
end
end Go.Proofs.YtjkkkibiegfecaaGreatDoor

namespace Go.Proofs.YtjkkkibiegfecaaGreatDoor
open Go Go.Vc
structure MZ(w:Nw)(L:List Lk)(tops:List Int)(ch:Int→List Int)(ay:Int→Int):Prop where
 t:Pu (aF w) (aP w) ch ay (aM tops)
 pl:J1 (bh L) (br L) ch ay
 tl:tops.length=w.hs.length
def dA(n:Nat)(H:Hp)(S:Nat→Prop)(w:Nw):Prop:=∃ (B:PB) (C:Nat→Prop) (L:List Lk) (tops:List Int) (ch:Int→List Int) (ay:Int→Int),B.n=n∧bY H B C w L tops∧MZ w L tops ch ay∧∀z,S z↔B.S C z
theorem dA.slt{n:Nat}{H:Hp}{S:Nat→Prop}{w:Nw}(h:dA n H S w):∀z,S z→z<H.size:=by
 obtain⟨B,C,L,tops,ch,ay,rfl,m,l,hS⟩:=h
 exact fun z hz=>m.slt z ((hS z).1 hz)
theorem dA.ext{n:Nat}{H H':Hp}{S V:Nat→Prop}{w:Nw}(h:dA n H S w)(e:ah V H H')(hd:∀z,S z→¬V z):dA n H' S w:=by
 obtain⟨B,C,L,tops,ch,ay,rfl,m,l,hS⟩:=h
 exact⟨B,C,L,tops,ch,ay,rfl,m.ext e (by grind),l,hS⟩
theorem DJ(cap:Int)(H:Hp):ag Tryz.prog Io [i64 cap] H fun v H'=>ap (
  ai H H'∧((¬ (0≤cap∧cap≤65536)∧v= .tuple [.pointer none,i64 31].toArray)∨
   ((0≤cap∧cap≤65536)∧∃n S,v= .tuple [ptr n,i64 0].toArray∧dA n H' S (yd cap)∧∀x,S x→H.size≤x))):=by
 refine aU IC ?_
 refine vs ?_
 refine(lZ cap H).mono ?_
 rintro _ H1 ⟨f1,⟨hb,rfl⟩| ⟨hb,c,C,rfl,c1,hC⟩⟩
 ·refine vs ?_
  exact⟨f1,.inl ⟨hb,rfl⟩⟩
 refine v1 aoE ?_
 refine⟨by omega,?_⟩
 refine vs ?_
 rw[PP]
 have GF:=c1.slt
 have z1:=f1.size
 have f3:ai H1 (((H1.new 221 (aN (List.replicate cap.toNat ⟨0,0,0⟩))).new 3 [Value.int .i64 (-1)]).new 219 [ptr c,.slice (some ⟨H1.size,0,none⟩) cap.toNat cap.toNat,.slice (some ⟨H1.size+1,0,none⟩) 1 1]):=(((ah.refl _ _).new _ _).new _ _).new _ _
 have e1:ah (fun _=>False) (H1.new 221 (aN (List.replicate cap.toNat ⟨0,0,0⟩))) (((H1.new 221 (aN (List.replicate cap.toNat ⟨0,0,0⟩))).new 3 [Value.int .i64 (-1)]).new 219 [ptr c,.slice (some ⟨H1.size,0,none⟩) cap.toNat cap.toNat,.slice (some ⟨H1.size+1,0,none⟩) 1 1]):=((ah.refl _ _).new _ _).new _ _
 have e2:ah (fun _=>False) ((H1.new 221 (aN (List.replicate cap.toNat ⟨0,0,0⟩))).new 3 [Value.int .i64 (-1)]) (((H1.new 221 (aN (List.replicate cap.toNat ⟨0,0,0⟩))).new 3 [Value.int .i64 (-1)]).new 219 [ptr c,.slice (some ⟨H1.size,0,none⟩) cap.toNat cap.toNat,.slice (some ⟨H1.size+1,0,none⟩) 1 1]):=(ah.refl _ _).new _ _
 obtain⟨B,hB⟩:∃B:PB,B=⟨H1.size+1+1,c,H1.size,H1.size+1⟩:=⟨_,rfl⟩
 have m0:bY (((H1.new 221 (aN (List.replicate cap.toNat ⟨0,0,0⟩))).new 3 [Value.int .i64 (-1)]).new 219 [ptr c,.slice (some ⟨H1.size,0,none⟩) cap.toNat cap.toNat,.slice (some ⟨H1.size+1,0,none⟩) 1 1]) B C (yd cap) (List.replicate cap.toNat ⟨0,0,0⟩) [-1]:=by
  subst hB
  refine⟨⟨.slice (some ⟨H1.size+1,0,none⟩) 1 1,?_,?_⟩,c1.fresh f3,?_,?_,?_,?_⟩
  ·grind [aR,ak]
  ·exact(Sl.dM (size:=1) (n:=1) (xs:=[i64 (-1)]) rfl (by simp only[ak])).ext e2 (fun _ _ h=>h)
  ·exact e1.own (aA _ _ _) (fun h=>h)
  ·simp[yd]
  ·grind
  ·grind
 have MM:B.n=H1.size+1+1:=by rw[hB]
 have hBs:∀z,B.S C z→H1.size≤z∨C z:=fun z hz=>by
  rcases hz with hz|rfl|rfl|rfl
  ·grind
  all_goals rw[hB];left;first|omega| (simp only;omega)
 have hBt:B.tb=H1.size:=by rw[hB]
 have ft:=f1.trans f3
 generalize ((H1.new 221 (aN (List.replicate cap.toNat ⟨0,0,0⟩))).new 3 [Value.int .i64 (-1)]).new 219 [ptr c,.slice (some ⟨H1.size,0,none⟩) cap.toNat cap.toNat,.slice (some ⟨H1.size+1,0,none⟩) 1 1]=H2 at*
 obtain⟨tv0,o0,_⟩:=m0.own
 rw[ao5,MM]at o0
 refine bX.intro (fun m env H'=>∃j:Nat,m=cap.toNat - j∧j≤cap.toNat∧ah (fun z=>z=B.tb) H2 H'∧bY H' B C (yd cap) (List.replicate j k8++List.replicate (cap.toNat - j) ⟨0,0,0⟩) [-1]∧
  env=[(6,ptr (H1.size+1+1)),(26,i64 (cap.toNat:Nat)),(27,i64 j)]) cap.toNat ⟨0,by omega,by omega,ah.refl _ _,by grind,rfl⟩ ?_
 rintro m env H3 ⟨j,rfl,hj,e3,m3,rfl⟩
 have rl:=ja (List.replicate j k8++List.replicate (cap.toNat - j) (⟨0,0,0⟩:Lk))
 have uG:(List.replicate j k8++List.replicate (cap.toNat - j) (⟨0,0,0⟩:Lk)).length=cap.toNat:=by simp;omega
 obtain⟨Xy,o3,_⟩:=m3.own
 rw[uG]at rl o3
 rw[MM]at o3
 refine vs ?_
 refine ar.dec (fun bf=>?_) (fun bf=>?_)<;>refine vs ?_
 ·refine v1 (ae o3) ?_
  refine⟨by omega,?_⟩
  refine v3 m3.fE aoi Int.toNat_natCast ?_
  refine⟨by omega,?_⟩
  have q3:=JJ (L:=List.replicate j k8++List.replicate (cap.toNat - j) (⟨0,0,0⟩:Lk)) (i:=j) (by omega) k8
  have q4:(List.replicate j k8++List.replicate (cap.toNat - j) (⟨0,0,0⟩:Lk)).set j k8=List.replicate (j+1) k8++List.replicate (cap.toNat - (j+1)) (⟨0,0,0⟩:Lk):=by
   rw[apA _ _ (by simp),ao5,apG,show cap.toNat - j=(cap.toNat - (j+1))+1 by omega,ao2,apH,apC]
   simp
  rw[q4]at q3
  obtain⟨m4,e4⟩:=m3.PX (L':=List.replicate (j+1) k8++List.replicate (cap.toNat - (j+1)) (⟨0,0,0⟩:Lk)) (by grind)
  rw[show aX (aN (List.replicate j k8++List.replicate (cap.toNat - j) (⟨0,0,0⟩:Lk))) (j*3) (aI (Value.agg #[Value.int .i64 (-1),Value.int .i64 (-1),Value.int .i64 (-1)]))=_ from q3]
  refine vs ?_
  rw[wrap64 (n:=(j:Int)+1) (by omega) (by omega)]
  exact⟨cap.toNat - (j+1),by omega,j+1,rfl,by omega,e3.trans e4,m4,rfl⟩
 ·obtain rfl:j=cap.toNat:=by omega
  rw[apG,List.replicate_zero,aoO]at m3
  rw[←MM]
  refine⟨ft.then e3 (by omega),.inr ⟨hb,B.n,B.S C,rfl,⟨B,C,_,[-1],fun _=>[],fun _=> -1,rfl,m3,⟨⟨⟨rfl,by grind,by omega,by grind⟩,
   ⟨by omega,fun g hg=>absurd (Dx g) hg,fun x hx=>absurd hx (oP cap x)⟩⟩,⟨fun x=>BZ _ _ _,fun x=>trivial,fun c _=>⟨BZ _ _ _,G5 _ _⟩⟩,rfl⟩,fun z=>Iff.rfl⟩,fun z hz=>?_⟩⟩
  grind
theorem Ck{n:Nat}{H:Hp}{S:Nat→Prop}{w:Nw}(h:dA n H S w):ag Tryz.prog mL [ptr n] H fun v H'=>ap (
  (w.hs.length=65537∧v=i64 0∧bq (dA n) S H H' w)∨(w.hs.length≠65537∧v=i64 w.hs.length∧bq (dA n) S H H' w.make)):=by
 obtain⟨B,C,L,tops,ch,ay,rfl,m,l,hS⟩:=id h
 obtain⟨tv,ho,EW⟩:=m.own
 refine aU xK ?_
 refine v1 (ae ho) ?_
 refine(jM m.cells).mono ?_
 rintro _ H1 (⟨h1,rfl,rfl⟩| ⟨h1,rfl,C',c1,e1,Q2⟩)
 ·refine vs ?_
  exact .inl ⟨h1,rfl,bq.same h (ah.refl _ _)⟩
 have gI:=m.cells.pos
 have hhs:=m.cells.EW
 have Np:=l.tl
 have slt:=m.slt
 have XI:=c1.slt
 obtain⟨n1,n2,n3⟩:=m.out
 obtain⟨d1,d2,d3⟩:=m.mY
 have o1:=e1.own ho n1
 refine vs ?_
 refine ar.dl (by grind) ?_
 refine v1 (ae o1) ?_
 have s1:=EW.ext e1 (by grind)
 refine SE s1 (-1) (by omega) fun w' H2 b' AD s2 e2=>?_
 have o2:=e2.own o1 d2
 obtain⟨wa,wc,JE⟩:=Sl.shape s2
 subst JE
 refine v1 o2 ?_
 generalize JE:Value.slice wa (tops++[-1]).length wc=w' at*
 have e3:ah (fun z=>z=B.n) H2 (H2.wr B.n [ptr B.c,.slice (some ⟨B.tb,0,none⟩) L.length L.length,w']):=(ah.refl (fun z=>z=B.n) _).wr (fun _=>rfl) _
 have z1:=e1.size
 have hn:=slt _ (.inr (.inl rfl))
 have ht:=slt _ (.inr (.inr (.inl rfl)))
 have ZF:=slt _ (.inr (.inr (.inr rfl)))
 have hC1:∀z,C' z→z≠b'∧(z<H.size→C z):=by grind
 refine .inr ⟨h1,rfl,(PB.mk B.n B.c B.tb b').S C',⟨⟨B.n,B.c,B.tb,b'⟩,C',L,tops++[-1],ch,ay,rfl,⟨⟨w',af o2,s2.ext e3 (by grind)⟩,?_,?_,m.len,?_,?_⟩,⟨by rw[BU];exact l.t,l.pl,?_⟩,fun z=>Iff.rfl⟩,?_,fun z hz=>?_⟩
 ·exact(c1.ext e2 (by grind)).ext e3 (by grind)
 ·exact e3.own (e2.own (e1.own m.fE n2) d3) (Ne.symm d1)
 ·grind
 ·grind
 ·simp[Nw.make,Np]
 ·exact((e1.mono fun z _ h=>(hS z).2 (.inl h)).trans (e2.mono fun z _ h=>(hS z).2 (.inr (.inr (.inr h))))).trans (e3.mono fun z _ h=>(hS z).2 (.inr (.inl h)))
 ·rcases hz with hz|rfl|rfl|rfl
  ·rcases Q2 z hz with h6|h6
   ·exact .inl ((hS z).2 (.inl h6))
   omega
  ·exact .inl ((hS _).2 (.inr (.inl rfl)))
  ·exact .inl ((hS _).2 (.inr (.inr (.inl rfl))))
  ·rcases AD with rfl|h7
   ·exact .inl ((hS _).2 (.inr (.inr (.inr rfl))))
   omega
theorem MZ.first{w:Nw}{L:List Lk}{tops:List Int}{ch:Int→List Int}{ay:Int→Int}(l:MZ w L tops ch ay){g x:Int}(h:w.first g x):aM tops g=x:=by
 obtain⟨h1,h2,h3⟩:=bD.1 h
 have:=l.t.tp.first (x:=x) (by omega) (by grind) (aw w)
 grind
theorem rN{n:Nat}{H:Hp}{S:Nat→Prop}{w:Nw}(h:dA n H S w)(g:Int):ag Tryz.prog nY [ptr n,i64 g] H fun v H'=>ap (
  ((w.len g=0∧v= .tuple [i64 0,.bool false].toArray)∨∃x,w.first g x∧v= .tuple [i64 x,.bool true].toArray)∧H'=H):=by
 obtain⟨B,C,L,tops,ch,ay,rfl,m,l,hS⟩:=h
 obtain⟨cc,lt,ho,q2,AA,yO,KO⟩:=m.dZ
 refine aU zP ?_
 refine v1 (ae ho) ?_
 refine(fe m.cells g).mono ?_
 rintro _ _ ⟨rfl,rfl⟩
 refine vs ?_
 refine ar.dec (fun h0=>?_) (fun h0=>?_)
 ·refine vs ?_
  exact⟨.inl ⟨h0,rfl⟩,rfl⟩
 have hg:0<g:=aoA fun hg=>h0 (Nw.Aa.2 (.inl (by omega)))
 obtain⟨x,hx⟩:=vO hg h0
 have hh:=(bD.1 hx).2.1
 have eC:=((m.cells.hm x).2 (by omega)).2
 rw[hh,←l.tl]at eC
 have q3:=m.cT q2 (cf (tops:=tops) (h:=g) (by omega) eC)
 rw[l.first hx]at q3
 refine v1 (ae ho) ?_
 refine⟨by omega,?_⟩
 refine v4 (ae q2) aoi aok q3 ?_
 exact⟨.inr ⟨x,hx,rfl⟩,rfl⟩
theorem yi{n:Nat}{H:Hp}{S:Nat→Prop}{w:Nw}(h:dA n H S w)(g x k s:Int):ag Tryz.prog kq [ptr n,i64 g,i64 x,tE k s] H fun v H'=>ap (
  (¬w.mw g x∧v= .bool false∧bq (dA n) S H H' w)∨(w.mw g x∧v= .bool true∧bq (dA n) S H H' (w.put x (g,k,s)))):=by
 obtain⟨B,C,L,tops,ch,ay,rfl,m,l,hS⟩:=h
 have hC:∀z,C z→S z:=fun z h=>(hS z).2 (.inl h)
 have t1:S B.tb:=(hS _).2 (.inr (.inr (.inl rfl)))
 have t2:S B.tp:=(hS _).2 (.inr (.inr (.inr rfl)))
 refine Fz ug ⟨rfl,?_⟩
 refine v1 kL.eq_1 ?_
 have f0:ai H (H.new 190 [i64 k,u64 s]):=(ah.refl _ _).new _ _
 have b0:(H.new 190 [i64 k,u64 s]).own H.size=some [i64 k,u64 s]:=aA _ _ _
 have m0:=m.fresh f0
 generalize H.new 190 [i64 k,u64 s]=H0 at*
 have ff:ah S H H0:=f0.mono fun _ _ h=>h.elim
 obtain⟨tv,KN,_⟩:=m0.own
 refine v2 (ae KN) (ae b0) ?_
 refine(lY m0.cells g x k s).mono ?_
 rintro _ H1 (⟨bU,rfl,c1,e1⟩| ⟨fX,rfl,c1,e1⟩)
 ·refine vs ?_
  exact .inl ⟨bU,rfl,bq.same ⟨B,C,L,tops,ch,ay,rfl,m0.aC c1 e1 rfl,l,hS⟩ (ff.trans (e1.mono (by grind)))⟩
 obtain⟨hh,hx,ci⟩:=id fX
 have m2:=m0.aC c1 e1 (by simp[Nw.put])
 have hg:=hh.1
 have eC:g<tops.length:=by
  have:=(aoj.1 hh.2).1
  have:=l.tl
  omega
 have jh:=fun y=>dR hx (g,k,s) y
 have bo:T8 (aF (w.put x (g,k,s))) (aP (w.put x (g,k,s))) ch ay (aM tops) g x:=by
  refine l.t.ins rfl (Int.not_lt.1 fun h=>ci (bB.1 h)) (by omega) (by omega) (by grind) (by grind) (fun a b ha hb uv lq=>dt hx _ ha hb uv lq)
 obtain⟨cc,lt,o2,q2,AA,yO,KO⟩:=m2.dZ
 have q3:=m2.cT q2 (cf (tops:=tops) (h:=g) (by omega) eC)
 refine vs ?_
 refine fV.intro (fun H'=>H'.own B.n=some [ptr B.c,.slice (some ⟨B.tb,0,none⟩) L.length L.length,.slice (some ⟨B.tp,0,none⟩) tops.length cc]) o2 ?_
 refine vs ?_
 refine dV.intro (.slice (some ⟨B.tp,0,none⟩) tops.length cc) (fun H' hI=>by refine v1 (ae hI) ?_;trivial) ?_
 refine v1 (ae o2) ?_
 refine And.intro o2 ?_
 refine vs ?_
 refine⟨⟨by omega,by omega⟩,?_⟩
 refine v4 (ae q2) aoi aok q3 ?_
 refine And.intro o2 ?_
 refine vs ?_
 have bw:=bo.w
 rw[show ws [aM tops g,x]=ws [aM tops g,x]++[] by simp]at bw
 refine(cN m2 bw l.pl).mono ?_
 rintro _ H3 ⟨r,L3,KV,nF,rfl,_,m3,w3,p3,e3⟩
 rw[aoO]at w3
 have bn:=bo.done w3
 obtain⟨d1,d2,d3⟩:=m2.mY
 have no:¬ (C B.n∨B.n=B.tb):=by rintro(h|h);exact m2.out.1 h;omega
 refine And.intro (e3.own o2 no) ?_
 have q4:=e3.own q2 (by cases m2;grind)
 refine vs ?_
 refine⟨by omega,?_⟩
 refine v3 q4 aoi aok ?_
 refine⟨by omega,?_⟩
 obtain⟨m4,e4⟩:=m3.fR q4 g.toNat r
 refine And.intro (e4.own (e3.own o2 no) d2) ?_
 refine vs ?_
 refine .inr ⟨fX,rfl,bq.same ⟨B,C,L3,_,KV,nF,rfl,m4,⟨?_,p3,by rw[aom];exact l.tl⟩,hS⟩ (((ff.trans (e1.mono fun z _ h=>hC z h)).trans (e3.mono (by grind))).trans (e4.mono (by grind)))⟩
 grind [cX]
def Wm:Vc.Fn:=⟨3,[(.tmp 6)],
 (.seq (.aY [s1 6 (.ax (kb false))] [0,1,2]) (.seq (.seq (.aY [s1 7 (.ax (tt 0)),s1 8 (.nilCheck (tt 7)),s1 9 (.fieldAddr 0 (tt 8)),s1 10 (.aq (tt 9)),s1 11 (.ax (tt 1)),s1 12 (.ax (tt 2)),s1 13 (.call 239 [(tt 10),(tt 11),(tt 12)]),s1 14 (.un .not (tt 13))] [0,1,2,14]) (.cond (tt 14) (.seq (.aY [s1 6 (.ax (kb false))] [6]) .ret) .skip)) (.seq (.qA (.bE (s1 15 (.ax (tt 0))) (.bE (s1 16 (.nilCheck (tt 15))) (.bE (s1 17 (.fieldAddr 2 (tt 16))) (.HS (sq 18 (.aq (tt 17))) (.bE (s1 19 (.ax (tt 1))) (.bE (s1 20 (.ax (tt 0))) (.bE (s1 21 (.ax (tt 0))) (.bE (s1 22 (.nilCheck (tt 21))) (.bE (s1 23 (.fieldAddr 2 (tt 22))) (.HS (sq 24 (.aq (tt 23))) (.bE (s1 25 (.ax (tt 1))) (.bE (s1 26 (.indexAddr 1 (tt 24) (tt 25))) (.bE (s1 28 (.ax (tt 0))) (.bE (s1 29 (.nilCheck (tt 28))) (.bE (s1 30 (.fieldAddr 2 (tt 29))) (.HS (sq 31 (.aq (tt 30))) (.bE (s1 32 (.ax (tt 2))) (.bE (s1 33 (.indexAddr 1 (tt 31) (tt 32))) (.HS (sq 34 (.aq (tt 33))) (.aT (s1 27 (.aq (tt 26))) (.aT (s1 35 (.call 303 [(tt 20),(tt 27),(tt 34)])) (.bE (s1 36 (.indexAddr 1 (tt 18) (tt 19))) (.aT (s0 (.store 1 (tt 36) (tt 35))) .done .stop)) .stop) .stop)))))))))))))))))))) [0,2]) (.seq (.aY [s1 37 (.ax (tt 0)),s1 38 (.nilCheck (tt 37)),s1 39 (.fieldAddr 2 (tt 38)),s1 40 (.aq (tt 39)),s1 41 (.ax (tt 2)),s1 42 (.indexAddr 1 (tt 40) (tt 41)),s0 (.store 1 (tt 42) (ki (-1)))] []) (.seq (.aY [s1 6 (.ax (kb true))] [6]) .ret)))))⟩
theorem aao:ep Tryz.prog 300 [([0,1,2],[],[]),([0,1,2,14],[],[]),([6],[],[]),([0,2],[3,9,16,19],[1,0,1,1,1,2,1,3,1,4,1,5,1,6,1,7,1,8,1,9,1,10,1,11,1,13,1,14,1,15,1,16,1,17,1,18,1,19,2,12,2,20,1,21,2,22,0,3,3,3]),([],[],[]),([6],[],[])]=some Wm:=by kernel_rfl
theorem Cl{n:Nat}{H:Hp}{S:Nat→Prop}{w:Nw}(h:dA n H S w)(a b:Int):ag Tryz.prog mM [ptr n,i64 a,i64 b] H fun v H'=>ap (
  (¬ (w.has a∧w.has b∧a≠b)∧v= .bool false∧bq (dA n) S H H' w)∨((w.has a∧w.has b∧a≠b)∧v= .bool true∧bq (dA n) S H H' (w.join a b))):=by
 obtain⟨B,C,L,tops,ch,ay,rfl,m,l,hS⟩:=id h
 have hC:∀z,C z→S z:=fun z h=>(hS z).2 (.inl h)
 have t1:S B.tb:=(hS _).2 (.inr (.inr (.inl rfl)))
 have t2:S B.tp:=(hS _).2 (.inr (.inr (.inr rfl)))
 obtain⟨tv,o0,_⟩:=m.own
 refine Fz aao ⟨rfl,?_⟩
 refine v2 Wm.eq_1 (ae o0) ?_
 refine(jN m.cells a b).mono ?_
 rintro _ H1 (⟨bU,rfl,rfl⟩| ⟨fX,rfl,c1,e1⟩)
 ·refine vs ?_
  exact .inl ⟨bU,rfl,bq.same h (ah.refl _ _)⟩
 obtain⟨⟨ha,Q3⟩,⟨hb,Oy⟩,eJ⟩:=id fX
 have m1:=m.aC c1 e1 (by simp[Nw.join])
 have hj:=oJ (w:=w) (a:=a) (b:=b) (by omega)
 have tt:=l.t
 have mg:=tt.join (hm':=aF (w.join a b)) rfl eJ (by omega) (by omega) hj
 rw[←jb w a b]at mg tt
 have al:a<tops.length:=by
  have:=(aoj.1 Q3).1
  have:=l.tl
  omega
 have bl:b<tops.length:=by
  have:=(aoj.1 Oy).1
  have:=l.tl
  omega
 obtain⟨cc,lt,o1,q1,AA,yO,KO⟩:=m1.dZ
 have qa:=m1.cT q1 (cf (tops:=tops) (h:=a) (by omega) al)
 have qb:=m1.cT q1 (cf (tops:=tops) (h:=b) (by omega) bl)
 refine vs ?_
 refine fV.intro (fun H'=>H'.own B.n=some [ptr B.c,.slice (some ⟨B.tb,0,none⟩) L.length L.length,.slice (some ⟨B.tp,0,none⟩) tops.length cc]∧∃l,H'.own B.tp=some l∧l[b.toNat]? =some (i64 (aM tops b))) ⟨o1,lt,q1,qb⟩ ?_
 refine vs ?_
 refine dV.intro (.slice (some ⟨B.tp,0,none⟩) tops.length cc) (fun H' hI=>by refine v1 (ae hI.1) ?_;trivial) ?_
 refine vs ?_
 refine dV.intro (.slice (some ⟨B.tp,0,none⟩) tops.length cc) (fun H' hI=>by refine v1 (ae hI.1) ?_;trivial) ?_
 refine vs ?_
 refine⟨⟨by omega,by omega⟩,?_⟩
 refine vs ?_
 refine dV.intro (.slice (some ⟨B.tp,0,none⟩) tops.length cc) (fun H' hI=>by refine v1 (ae hI.1) ?_;trivial) ?_
 refine vs ?_
 refine⟨⟨by omega,by omega⟩,?_⟩
 refine vs ?_
 refine dV.intro (i64 (aM tops b)) (fun H' hI=>by obtain⟨_,l,h1,h2⟩:=hI;refine v4 (ae h1) aoi aok h2 ?_;trivial) ?_
 refine v4 (ae q1) aoi aok qa ?_
 refine And.intro ⟨o1,lt,q1,qb⟩ ?_
 refine vs ?_
 rw[show ws [aM tops a,aM tops b]=ws [aM tops a,aM tops b]++[] by simp]at mg
 refine(cN m1 mg l.pl).mono ?_
 rintro _ H3 ⟨r,L3,KV,nF,rfl,_,m3,g3,p3,e3⟩
 rw[aoO]at g3
 have bn:=tt.J3 rfl eJ (by omega) (by omega) hj g3
 obtain⟨d1,d2,d3⟩:=m1.mY
 have no:¬ (C B.n∨B.n=B.tb):=by rintro(h|h);exact m1.out.1 h;omega
 have q4:=e3.own q1 (by rintro(h|h);exact m1.out.2.2 h;omega)
 refine And.intro ⟨e3.own o1 no,lt,q4,qb⟩ ?_
 refine vs ?_
 refine⟨⟨by omega,by omega⟩,?_⟩
 refine v3 q4 aoi aok ?_
 have ql:=(aoj.1 qa).1
 refine⟨by omega,?_⟩
 obtain⟨m4,e4⟩:=m3.fR q4 a.toNat r
 have o4:=e4.own (e3.own o1 no) d2
 have q4':(H3.wr B.tp (lt.set a.toNat (i64 r))).own B.tp=some (lt.set a.toNat (i64 r)):=af q4
 have qb':(lt.set a.toNat (i64 r))[b.toNat]? =some (i64 (aM tops b)):=by rw[aor (by omega)];exact qb
 rw[show aX lt a.toNat (aI (i64 r))=lt.set a.toNat (i64 r)from rfl]
 generalize H3.wr B.tp (lt.set a.toNat (i64 r))=H4 at*
 refine And.intro ⟨o4,_,q4',qb'⟩ ?_
 refine vs ?_
 obtain⟨cc5,lt5,o5,q5,Zw,rX,Ui⟩:=m4.dZ
 rw[aom]at o5 Zw
 refine v1 (ae o5) ?_
 refine⟨⟨by omega,by omega⟩,?_⟩
 refine v3 q5 aoi aok ?_
 refine⟨by omega,?_⟩
 obtain⟨m6,e6⟩:=m4.fR q5 b.toNat (-1)
 refine vs ?_
 refine .inr ⟨fX,rfl,bq.same ⟨B,C,L3,_,KV,nF,rfl,m6,⟨?_,p3,by rw[aom,aom,l.tl];simp[Nw.join]⟩,hS⟩ ?_⟩
 ·rw[cX (by omega) (by rw[aom];exact bl),cX (by omega) al]
  exact bn
 ·exact(((e1.mono fun z _ h=>hC z h).trans (e3.mono fun z _ h=>by rcases h with h|rfl;exact hC z h;exact t1)).trans (e4.mono fun z _ h=>h▸t2)).trans (e6.mono fun z _ h=>h▸t2)
theorem MZ.below{w:Nw}{L:List Lk}{tops:List Int}{ch:Int→List Int}{ay:Int→Int}(l:MZ w L tops ch ay){x:Int}(hx:0<aF w x)(ht:aM tops (aF w x)≠x):∃p l1 l2,ch p=l1++x::l2:=by
 have hp:ay x≠ -1:=fun h=>ht (l.t.tp.t2 x hx h)
 obtain⟨l1,l2,h⟩:=List.append_of_mem (l.t.pr.up x _ rfl hp)
 grind
theorem uA{n:Nat}{H:Hp}{S:Nat→Prop}{w:Nw}(h:dA n H S w)(x k s:Int):ag Tryz.prog iR [ptr n,i64 x,tE k s] H fun v H'=>ap (
  (¬w.du x k s∧v= .bool false∧bq (dA n) S H H' w)∨(w.du x k s∧v= .bool true∧∃y,w.cs[x.toNat]? =some y∧bq (dA n) S H H' (w.put x (y.1,k,s)))):=by
 obtain⟨B,C,L,tops,ch,ay,rfl,m,l,hS⟩:=h
 have hC:∀z,C z→S z:=fun z h=>(hS z).2 (.inl h)
 have t1:S B.tb:=(hS _).2 (.inr (.inr (.inl rfl)))
 have t2:S B.tp:=(hS _).2 (.inr (.inr (.inr rfl)))
 refine Fz qU ⟨rfl,?_⟩
 refine v1 iW.eq_1 ?_
 have f0:ai H (H.new 190 [i64 k,u64 s]):=(ah.refl _ _).new _ _
 have b0:(H.new 190 [i64 k,u64 s]).own H.size=some [i64 k,u64 s]:=aA _ _ _
 have m0:=m.fresh f0
 generalize H.new 190 [i64 k,u64 s]=H0 at*
 have ff:ah S H H0:=f0.mono fun _ _ h=>h.elim
 obtain⟨tv,KN,_⟩:=m0.own
 refine v2 (ae KN) (ae b0) ?_
 refine(ie m0.cells x k s).mono ?_
 rintro _ H1 (⟨bU,rfl,c1,e1⟩| ⟨ci,rfl,y,hy,jI,c1,e1⟩)
 ·refine vs ?_
  exact .inl ⟨bU,rfl,bq.same ⟨B,C,L,tops,ch,ay,rfl,m0.ext e1 (fun _ _ h=>h),l,hS⟩ (ff.trans (e1.mono fun _ _ h=>h.elim))⟩
 have rS:(w.put x (y.1,k,s)).cs.length=w.cs.length:=by simp[Nw.put]
 have m1:=m0.aC c1 e1 rS
 have B1:w.du x k s:=⟨ci,by grind⟩
 have hx:0≤x∧x<w.cs.length:=⟨ci.1,by grind⟩
 have Xp:aF w x=y.1:=kX ci.1 hy
 have gE:=bB.2 ci
 have hw:aF (w.put x (y.1,k,s))=aF w:=by
  funext z
  rw[dR hx]
  split
  ·grind
  ·rfl
 have E3:cI (w.put x (y.1,k,s)).cs x:=bB.1 (by simp_all)
 obtain⟨Dt,o1,_⟩:=m1.own
 refine v1 (ae o1) ?_
 refine(bI m1.cells x).mono ?_
 rintro _ H2 (⟨bU,_,_⟩| ⟨_,rfl,c2,e2⟩)
 ·exact absurd E3 bU
 have m2:=m1.aC c2 e2 rfl
 have oY:ah S H H2:=(ff.trans (e1.mono fun z _ h=>hC z h)).trans (e2.mono fun z _ h=>hC z h)
 have el:∀a b,0<aF w a→0<aF w b→a≠x→b≠x→aP (w.put x (y.1,k,s)) a b=aP w a b:=fun a b ha hb uv lq=>dt hx _ ha hb uv lq
 have ex:∀b,0<aF w b→b≠x→aP w x b=true→aP (w.put x (y.1,k,s)) x b=true:=fun b hb lq h=>BT ci hy jI hb lq h
 have eC:aF w x<tops.length:=by
  have:=((m.cells.hm x).2 gE).2
  have:=l.tl
  omega
 obtain⟨cc,lt,o2,q2,AA,yO,KO⟩:=m2.dZ
 have q3:=m2.cT q2 (cf (tops:=tops) (h:=aF w x) (by omega) eC)
 rw[hw]
 refine v1 (ae o2) ?_
 refine⟨by omega,?_⟩
 refine v4 (ae q2) aoi aok q3 ?_
 refine ar.dec (fun gt=>?_) (fun gt=>?_)<;>refine vs ?_
 ·have hu:ay x= -1:=by
   have:=(l.t.tp.t1 (aF w x) (by omega)).2.2
   grind
  refine .inr ⟨B1,rfl,y,hy,bq.same ⟨B,C,L,tops,ch,ay,rfl,m2,⟨?_,l.pl,l.tl⟩,hS⟩ oY⟩
  rw[hw]
  exact l.t.Uy hu el ex
 obtain⟨p,l1,l2,hp⟩:=l.below gE gt
 have po:=(l.t.off hp).low el ex
 refine(rM m2 (aw w) (by rw[hw];exact l.t.pr) l.pl hp).mono ?_
 rintro _ H4 ⟨L4,m4,p4,e4⟩
 have Ac:ah S H H4:=oY.trans (e4.mono (by grind))
 rw[←hw]at po
 have eC:aF (w.put x (y.1,k,s)) x<tops.length:=by rw[hw];exact eC
 have PS:=po.g0
 refine vs ?_
 generalize hg:aF (w.put x (y.1,k,s)) x=g at*
 rw[←hw,hg]
 obtain⟨cc,lt,o4,q2,AA,yO,KO⟩:=m4.dZ
 have q3:=m4.cT q2 (cf (tops:=tops) (h:=g) (by omega) eC)
 refine fV.intro (fun H'=>H'.own B.n=some [ptr B.c,.slice (some ⟨B.tb,0,none⟩) L4.length L4.length,.slice (some ⟨B.tp,0,none⟩) tops.length cc]) o4 ?_
 refine vs ?_
 refine dV.intro (.slice (some ⟨B.tp,0,none⟩) tops.length cc) (fun H' hI=>by refine v1 (ae hI) ?_;trivial) ?_
 refine v1 (ae o4) ?_
 refine And.intro o4 ?_
 refine vs ?_
 refine⟨⟨by omega,by omega⟩,?_⟩
 refine v4 (ae q2) aoi aok q3 ?_
 refine And.intro o4 ?_
 refine vs ?_
 have bw:=po.w
 rw[show ws [aM tops g,x]=ws [aM tops g,x]++[] by simp]at bw
 refine(cN m4 bw p4).mono ?_
 rintro _ H5 ⟨r,L5,ZS,Rm,rfl,_,m5,w5,p5,e5⟩
 rw[aoO]at w5
 have bn:=po.done w5
 obtain⟨d1,d2,d3⟩:=m4.mY
 have no:¬ (C B.n∨B.n=B.tb):=by rintro(h|h);exact m4.out.1 h;omega
 refine And.intro (e5.own o4 no) ?_
 have q4:=e5.own q2 (by cases m4;grind)
 refine vs ?_
 refine⟨by omega,?_⟩
 refine v3 q4 aoi aok ?_
 refine⟨by omega,?_⟩
 obtain⟨m6,e6⟩:=m5.fR q4 g.toNat r
 refine And.intro (e6.own (e5.own o4 no) d2) ?_
 refine vs ?_
 refine .inr ⟨B1,rfl,y,hy,bq.same ⟨B,C,L5,_,ZS,Rm,rfl,m6,⟨?_,p5,by rw[aom];exact l.tl⟩,hS⟩ ((Ac.trans (e5.mono (by grind))).trans (e6.mono (by grind)))⟩
 grind [cX]
theorem ng{n:Nat}{H:Hp}{S:Nat→Prop}{w:Nw}(h:dA n H S w)(x:Int):ag Tryz.prog kj [ptr n,i64 x] H fun v H'=>ap (
  (¬cI w.cs x∧v= .bool false∧bq (dA n) S H H' w)∨(cI w.cs x∧v= .bool true∧bq (dA n) S H H' (w.put x (0,0,0)))):=by
 obtain⟨B,C,L,tops,ch,ay,rfl,m,l,hS⟩:=id h
 have hC:∀z,C z→S z:=fun z h=>(hS z).2 (.inl h)
 have t1:S B.tb:=(hS _).2 (.inr (.inr (.inl rfl)))
 have t2:S B.tp:=(hS _).2 (.inr (.inr (.inr rfl)))
 obtain⟨tv,o0,_⟩:=m.own
 refine Fz uf ⟨rfl,?_⟩
 refine v2 kK.eq_1 (ae o0) ?_
 refine(bI m.cells x).mono ?_
 rintro _ H1 (⟨bU,rfl,rfl⟩| ⟨ci,rfl,c1,e1⟩)
 ·refine vs ?_
  exact .inl ⟨bU,rfl,bq.same h (ah.refl _ _)⟩
 have m1:=m.aC c1 e1 rfl
 have gE:=bB.2 ci
 obtain⟨im,nO,_⟩:=aG gE
 have Lx:x≠ -1:=by omega
 have ls:=aw w
 have jh:=fun y=>dR (w:=w) ⟨im,nO⟩ (0,0,0) y
 have p0:aF (w.put x (0,0,0)) (-1)=0:=rfl
 have p1:aF (w.put x (0,0,0)) x=0:=by grind
 have p2:∀y,y≠x→aF (w.put x (0,0,0)) y=aF w y:=by grind
 have el:∀a b,0<aF w a→0<aF w b→a≠x→b≠x→aP (w.put x (0,0,0)) a b=aP w a b:=fun a b ha hb uv lq=>dt ⟨im,nO⟩ _ ha hb uv lq
 have rS:(w.put x (0,0,0)).cs.length=w.cs.length:=by simp[Nw.put]
 have eC:aF w x<tops.length:=by
  have:=((m.cells.hm x).2 gE).2
  have:=l.tl
  omega
 have e11:ah S H H1:=e1.mono fun z _ h=>hC z h
 obtain⟨cc,lt,o1,q2,AA,yO,KO⟩:=m1.dZ
 have q3:=m1.cT q2 (cf (tops:=tops) (h:=aF w x) (by omega) eC)
 obtain⟨d1,d2,d3⟩:=m1.mY
 have no:¬ (C B.n∨B.n=B.tb):=by rintro(h|h);exact m1.out.1 h;omega
 have no2:¬ (C B.tp∨B.tp=B.tb):=by rintro(h|h);exact m1.out.2.2 h;omega
 refine v1 (ae o1) ?_
 refine⟨by omega,?_⟩
 refine v4 (ae q2) aoi aok q3 ?_
 refine ar.dec (fun gt=>?_) (fun gt=>?_)<;>refine vs ?_
 ·have hu:ay x= -1:=by
   have:=(l.t.tp.t1 (aF w x) (by omega)).2.2
   grind
  refine fV.intro (fun H'=>H'.own B.n=some [ptr B.c,.slice (some ⟨B.tb,0,none⟩) L.length L.length,.slice (some ⟨B.tp,0,none⟩) tops.length cc]) o1 ?_
  refine vs ?_
  refine dV.intro (.slice (some ⟨B.tp,0,none⟩) tops.length cc) (fun H' hI=>by refine v1 (ae hI) ?_;trivial) ?_
  refine vs ?_
  refine(jS m1 l.t.pr l.pl gE).mono ?_
  rintro _ H2 ⟨r,L2,mf,gX,rfl,m2,pl2,w2,e2⟩
  refine And.intro (e2.own o1 no) ?_
  have q4:=e2.own q2 no2
  refine vs ?_
  refine⟨by omega,?_⟩
  refine v3 q4 aoi aok ?_
  refine⟨by omega,?_⟩
  obtain⟨m3,e3⟩:=m2.fR q4 (aF w x).toNat r
  refine And.intro (e3.own (e2.own o1 no) d2) ?_
  obtain⟨Xy,o3,_⟩:=m3.own
  refine v1 (ae o3) ?_
  refine(ce m3.cells x).mono ?_
  rintro _ H4 (⟨bU,_,_⟩| ⟨_,rfl,c4,e4⟩)
  ·exact absurd ci bU
  have m4:=m3.aC c4 e4 rS
  refine vs ?_
  have w3:=w2.drop (x:=x) ⟨gE,hu⟩ (by rw[w2.fr x ⟨gE,hu⟩];unfold az;grind) ((w2.Ax x gE).2 (by omega)) p0 p1 p2 el
  refine .inr ⟨ci,rfl,bq.same ⟨B,C,L2,_,mf,gX,rfl,m4,⟨?_,pl2,by rw[aom];exact l.tl⟩,hS⟩ (((e11.trans (e2.mono (by grind))).trans (e3.mono (by grind))).trans (e4.mono fun z _ h=>hC z h))⟩
  rw[cX (by omega) eC]
  refine⟨w3.pr,w3.done (fun h bN hh=>?_) (fun y hy=>?_)⟩
  ·obtain⟨g1,g2,g3⟩:=l.t.tp.t1 h hh
   grind
  ·have h5:=l.t.tp.t2 y hy.1.1 hy.1.2
   grind
 obtain⟨p,l1,l2,hp⟩:=l.below gE gt
 have po:=l.t.off hp
 refine(rM m1 ls l.t.pr l.pl hp).mono ?_
 rintro _ H2 ⟨L2,m2,pl2,e2⟩
 have oY:ah S H H2:=e11.trans (e2.mono (by grind))
 have hu:=po.ox.2.2
 obtain⟨cc,lt,o2,q2,AA,yO,KO⟩:=m2.dZ
 have q3:=m2.cT q2 (cf (tops:=tops) (h:=aF w x) (by omega) eC)
 refine vs ?_
 refine fV.intro (fun H'=>H'.own B.n=some [ptr B.c,.slice (some ⟨B.tb,0,none⟩) L2.length L2.length,.slice (some ⟨B.tp,0,none⟩) tops.length cc]) o2 ?_
 refine vs ?_
 refine dV.intro (.slice (some ⟨B.tp,0,none⟩) tops.length cc) (fun H' hI=>by refine v1 (ae hI) ?_;trivial) ?_
 refine vs ?_
 refine dV.intro (.slice (some ⟨B.tp,0,none⟩) tops.length cc) (fun H' hI=>by refine v1 (ae hI) ?_;trivial) ?_
 refine vs ?_
 refine⟨by omega,?_⟩
 refine vs ?_
 refine Fy.intro ?_ ?_
 ·refine v4 (ae q2) aoi aok q3 ?_
  refine And.intro o2 ?_
  refine vs ?_
  refine(jS m2 po.pr pl2 gE).mono ?_
  rintro _ H3 ⟨r,L3,KV,nF,rfl,m3,ZR,w3,e3⟩
  refine And.intro (e3.own o2 no) ?_
  have q4:=e3.own q2 no2
  refine vs ?_
  have w4:=w3.cE (t:=aM tops (aF w x)) (fun hh=>by
   cases po;grind)
  rw[←ph,show ws [aM tops (aF w x),r]=ws [aM tops (aF w x),r]++[] by simp]at w4
  refine(cN m3 w4 ZR).mono ?_
  rintro _ H4 ⟨r2,L4,Tm,Hs,rfl,_,m4,w5,X7,e4⟩
  rw[aoO]at w5
  refine And.intro (e4.own (e3.own o2 no) no) ?_
  have q5:=e4.own q4 no2
  refine vs ?_
  refine⟨by omega,?_⟩
  refine v3 q5 aoi aok ?_
  refine⟨by omega,?_⟩
  obtain⟨m5,e5⟩:=m4.fR q5 (aF w x).toNat r2
  refine And.intro (e5.own (e4.own (e3.own o2 no) no) d2) ?_
  obtain⟨tv5,o5,_⟩:=m5.own
  refine v1 (ae o5) ?_
  refine(ce m5.cells x).mono ?_
  rintro _ H6 (⟨bU,_,_⟩| ⟨_,rfl,c6,e6⟩)
  ·exact absurd ci bU
  have m6:=m5.aC c6 e6 rS
  refine vs ?_
  have hR:(0<aF w x∧aJ ay x (-1) x= -1)∧x≠aM tops (aF w x):=by omega
  have Jo:az (az ch p (l1++l2)) x [] x=[]:=by unfold az;grind
  have w6:=w5.drop (x:=x) hR (by rw[w5.fr x hR];exact Jo) ((w5.Ax x gE).2 (.inr hR)) p0 p1 p2 el
  refine .inr ⟨ci,rfl,bq.same ⟨B,C,L4,_,Tm,Hs,rfl,m6,⟨?_,X7,by rw[aom];exact l.tl⟩,hS⟩ ((((oY.trans (e3.mono (by grind))).trans (e4.mono (by grind))).trans (e5.mono (by grind))).trans (e6.mono fun z _ h=>hC z h))⟩
  rw[cX (by omega) eC]
  refine⟨w6.pr,w6.done (fun h bN hh=>?_) (fun y hy=>?_)⟩
  ·cases po;grind
  cases po;grind
 ·refine vs ?_
  refine(jS m2 po.pr pl2 gE).mono ?_
  rintro _ H3 ⟨r,L3,KV,nF,rfl,m3,ZR,w3,e3⟩
  refine And.intro (e3.own o2 no) ?_
  have q4:=e3.own q2 no2
  refine vs ?_
  have q6:=m3.cT q4 (cf (tops:=tops) (h:=aF w x) (by omega) eC)
  refine v4 (ae q4) aoi aok q6 ?_
  refine And.intro (e3.own o2 no) ?_
  refine vs ?_
  have w4:=w3.cE (t:=aM tops (aF w x)) (fun hh=>by
   cases po;grind)
  rw[←ph,show ws [aM tops (aF w x),r]=ws [aM tops (aF w x),r]++[] by simp]at w4
  refine(cN m3 w4 ZR).mono ?_
  rintro _ H4 ⟨r2,L4,Tm,Hs,rfl,_,m4,w5,X7,e4⟩
  rw[aoO]at w5
  refine And.intro (e4.own (e3.own o2 no) no) ?_
  have q5:=e4.own q4 no2
  refine vs ?_
  refine⟨by omega,?_⟩
  refine v3 q5 aoi aok ?_
  refine⟨by omega,?_⟩
  obtain⟨m5,e5⟩:=m4.fR q5 (aF w x).toNat r2
  refine And.intro (e5.own (e4.own (e3.own o2 no) no) d2) ?_
  obtain⟨tv5,o5,_⟩:=m5.own
  refine v1 (ae o5) ?_
  refine(ce m5.cells x).mono ?_
  rintro _ H6 (⟨bU,_,_⟩| ⟨_,rfl,c6,e6⟩)
  ·exact absurd ci bU
  have m6:=m5.aC c6 e6 rS
  refine vs ?_
  have hR:(0<aF w x∧aJ ay x (-1) x= -1)∧x≠aM tops (aF w x):=by omega
  have Jo:az (az ch p (l1++l2)) x [] x=[]:=by unfold az;grind
  have w6:=w5.drop (x:=x) hR (by rw[w5.fr x hR];exact Jo) ((w5.Ax x gE).2 (.inr hR)) p0 p1 p2 el
  refine .inr ⟨ci,rfl,bq.same ⟨B,C,L4,_,Tm,Hs,rfl,m6,⟨?_,X7,by rw[aom];exact l.tl⟩,hS⟩ ((((oY.trans (e3.mono (by grind))).trans (e4.mono (by grind))).trans (e5.mono (by grind))).trans (e6.mono fun z _ h=>hC z h))⟩
  rw[cX (by omega) eC]
  refine⟨w6.pr,w6.done (fun h bN hh=>?_) (fun y hy=>?_)⟩
  ·cases po;grind
  cases po;grind
theorem wk{n:Nat}{H:Hp}{S:Nat→Prop}{w:Nw}(h:dA n H S w)(g:Int):ag Tryz.prog jD [ptr n,i64 g] H fun v H'=>ap (
  (w.len g=0∧v= .tuple [i64 0,.bool false].toArray∧bq (dA n) S H H' w)∨(∃x,w.first g x∧v= .tuple [i64 x,.bool true].toArray∧bq (dA n) S H H' (w.put x (0,0,0)))):=by
 refine aU sI ?_
 refine vs ?_
 refine(rN h g).mono ?_
 rintro _ _ ⟨⟨h0,rfl⟩| ⟨x,hx,rfl⟩,rfl⟩
 ·refine vs ?_
  exact .inl ⟨h0,rfl,bq.same h (ah.refl _ _)⟩
 ·refine vs ?_
  refine(ng h x).mono ?_
  rintro _ H1 (⟨bU,_,_⟩| ⟨_,rfl,h1⟩)
  ·exact absurd (bB.1 (by have:=bD.1 hx;omega)) bU
  refine vs ?_
  exact .inr ⟨x,hx,rfl,h1⟩
theorem K4(n:Nat):tN (.iface 152 (ptr n)) (dA n) where
 slt h:=h.slt
 ext h e hd:=h.ext e hd
 cells:=by
  rintro H S w ⟨B,C,L,tops,ch,ay,rfl,m,l,hS⟩
  exact⟨B.c,C,m.cells⟩
 has:=by
  rintro H S w g ⟨B,C,L,tops,ch,ay,rfl,m,l,hS⟩
  obtain⟨tv,ho,_⟩:=m.own
  exact⟨_,_,bJ,ptr B.c,rfl,cD (off:=0) (by kernel_rfl) (ae ho) rfl,(iZ m.cells g).mono fun v H' hp=>hp⟩
 make:=by
  intro H S w h
  exact⟨_,_,mL,ptr n,rfl,aS (by kernel_rfl),(Ck h).mono fun v H' hp=>hp⟩
 insert:=by
  intro H S w g x k s h
  exact⟨_,_,kq,ptr n,rfl,aS (by kernel_rfl),(yi h g x k s).mono fun v H' hp=>hp⟩
 min:=by
  intro H S w g h
  refine⟨_,_,nY,ptr n,rfl,aS (by kernel_rfl),(rN h g).mono ?_⟩
  rintro v H' ⟨⟨h1,rfl⟩| ⟨x,h1,rfl⟩,rfl⟩
  ·exact .inl ⟨h1,rfl,bq.same h (ah.refl _ _)⟩
  ·exact .inr ⟨x,h1,rfl,bq.same h (ah.refl _ _)⟩
 extract:=by
  intro H S w g h
  exact⟨_,_,jD,ptr n,rfl,aS (by kernel_rfl),(wk h g).mono fun v H' hp=>hp⟩
 mc:=by
  intro H S w x k s h
  exact⟨_,_,iR,ptr n,rfl,aS (by kernel_rfl),(uA h x k s).mono fun v H' hp=>hp⟩
 entry:=by
  rintro H S w x ⟨B,C,L,tops,ch,ay,rfl,m,l,hS⟩
  obtain⟨tv,ho,_⟩:=m.own
  refine⟨_,_,bj,ptr B.c,rfl,cD (off:=0) (by kernel_rfl) (ae ho) rfl,(ic m.cells x).mono ?_⟩
  rintro v H' ⟨c1,f,hv⟩
  exact⟨⟨B,C,L,tops,ch,ay,rfl,m.fresh f,l,hS⟩,f,hv⟩
 len:=by
  rintro H S w g ⟨B,C,L,tops,ch,ay,rfl,m,l,hS⟩
  obtain⟨tv,ho,_⟩:=m.own
  exact⟨_,_,bK,ptr B.c,rfl,cD (off:=0) (by kernel_rfl) (ae ho) rfl,(fe m.cells g).mono fun v H' hp=>hp⟩
 home:=by
  rintro H S w x h
  obtain⟨B,C,L,tops,ch,ay,rfl,m,l,hS⟩:=id h
  obtain⟨tv,ho,_⟩:=m.own
  refine⟨_,_,bC,ptr B.c,rfl,cD (off:=0) (by kernel_rfl) (ae ho) rfl,(bI m.cells x).mono ?_⟩
  rintro v H' (⟨h1,rfl,rfl⟩| ⟨h1,rfl,c1,e1⟩)
  ·exact .inl ⟨h1,rfl,bq.same h (ah.refl _ _)⟩
  ·exact .inr ⟨h1,rfl,bq.same ⟨B,C,L,tops,ch,ay,rfl,m.aC c1 e1 rfl,l,hS⟩ (e1.mono fun z _ hz=>(hS z).2 (.inl hz))⟩
 delete:=by
  intro H S w x h
  exact⟨_,_,kj,ptr n,rfl,aS (by kernel_rfl),(ng h x).mono fun v H' hp=>hp⟩
 yP:=by
  intro H S w a b h
  exact⟨_,_,mM,ptr n,rfl,aS (by kernel_rfl),(Cl h a b).mono fun v H' hp=>hp⟩
end Go.Proofs.YtjkkkibiegfecaaGreatDoor
