/- Texts put behind each other. -/
import Derived.Test.YthpjfeolagohkaaGreatK98
import Derived.Test.YthpjfeolagohkaaGreatK2
import Derived.Test.YthpjfeolagohkaaGreatK29
import Derived.Test.YthpjfeolagohkaaGreatK31
import Derived.Test.YthpjfeolagohkaaGreatK39
set_option maxRecDepth 100000
set_option maxHeartbeats 8000000
set_option linter.unusedVariables false
set_option linter.unusedSimpArgs false
namespace Go.Proofs.YthpjfeolagohkaaGreat
open Go Go.Vc
theorem D5{n:Nat}{H:Hp}{S:Nat→Prop}{w:Nw}(h:eA n H S w)(x:Int):af Tryz.prog zE [ptr n,i64 x] H fun v H'=>ax (
  (¬df w.cs x∧v= .bool false∧cF (eA n) S H H' w)∨(df w.cs x∧v= .bool true∧cF (eA n) S H H' (w.put x (0,0,0)))):=by
 obtain⟨B,C,L,T,rfl,m,t,hS⟩:=id h
 have hC:∀z,C z→S z:=fun z h=>(hS z).2 (.inl h)
 have s1:S B.tl:=(hS _).2 (.inr (.inr (.inr (.inl rfl))))
 have s2:S B.mp:=(hS _).2 (.inr (.inr (.inr (.inr rfl))))
 refine EL Ae ⟨rfl,?_⟩
 refine v2 nN.eq_1 (ae m.own) ?_
 refine(dH m.cells x).mono ?_
 rintro _ H1 (⟨bO,rfl,rfl⟩| ⟨bH,rfl,c1,e1⟩)
 ·refine vs ?_
  exact .inl ⟨bO,rfl,cF.same h (ag.refl _ _)⟩
 have m1:=m.aI c1 e1 rfl
 have ep:=bA.2 bH
 obtain⟨gB,qd,_⟩:=aF ep
 have Jl:x≠ -1:=by omega
 have ls:=aw w
 obtain⟨⟨d1,d2,d3⟩,⟨d4,d5⟩,d6⟩:=m.mG
 refine vs ?_
 refine gP.intro (fun H'=>H'.own B.n=some [ptr B.c,ptr B.t,.map (some B.mp)]) m1.own ?_
 refine vs ?_
 refine dP.intro (ptr B.t) (fun H' hI=>by refine v1 (ae hI) ?_;trivial) ?_
 refine v1 (ae m1.own) ?_
 refine And.intro m1.own ?_
 refine vs ?_
 obtain⟨a1,b1,ea1⟩:=cS (aZ L x false)
 refine(lS m1.ce x).mono ?_
 rintro _ H' ⟨rfl,e⟩
 obtain rfl:=e.symm
 rw[ea1]
 refine And.intro m1.own ?_
 refine vs ?_
 refine(lX m1 t.bt ea1).mono ?_
 rintro _ H2 ⟨rfl,L2,m2,k2,u2,e2⟩
 refine And.intro m2.own ?_
 refine vs ?_
 have bt2:B6 w L2:=by
  show Bt _ _ _ _
  rw[k2,u2];exact t.bt.U4 _
 have er:aZ L2 x true=aZ L x true:=by
  rw[k2,qS t.bt,if_neg]
  rintro⟨h1,h2⟩
  exact h1 (t.bt.two x h2.symm)
 obtain⟨a2,b2,ea2⟩:=cS (aZ L2 x true)
 refine(cD m2.ce x).mono ?_
 rintro _ H' ⟨rfl,e⟩
 obtain rfl:=e.symm
 rw[ea2]
 refine And.intro m2.own ?_
 refine vs ?_
 refine(lX m2 bt2 ea2).mono ?_
 rintro _ H3 ⟨rfl,L3,m3,k3,u3,e3⟩
 refine And.intro m3.own ?_
 rw[er]at k3 u3
 rw[k2,u2]at k3
 rw[u2]at u3
 obtain⟨w1,w2,w3,w4⟩:=t.bt.bare x
 have hk:∀c,aZ L x c= -1∨(aG w (aZ L x c)=aG w x∧bk L3 (aZ L x c)= -1):=fun c=>by
  by_cases hk:aZ L x c= -1
  ·exact .inl hk
  ·refine .inr ⟨(t.bt.home hk).2.2.1,?_⟩
   rw[u3,w4,if_pos]
   cases c
   ·exact .inl rfl
   ·exact .inr rfl
 rw[←k3,←u3]at w1
 have mg:=Mg.start w1 ep (hk false) (hk true) (fun e=>t.bt.two x e)
 rw[er]
 refine vs ?_
 refine(lY m3 mg).mono ?_
 rintro _ H4 ⟨r,L4,rfl,m4,g4,f4,e4⟩
 refine And.intro m4.own ?_
 refine vs ?_
 have f4:=f4 x (xT.start (fun hk=>(t.bt.home hk).2.2.2.2) (fun hk=>(t.bt.home hk).2.2.2.2))
 have d:=t.Wv ls ep k3 u3 g4 f4
 have wF:ag S H H4:=(((e1.mono fun z _ h=>hC z h).trans (e2.mono fun z _ h=>h▸s1)).trans (e3.mono fun z _ h=>h▸s1)).trans (e4.mono fun z _ h=>by rcases h with h|rfl;exact hC z h;exact s1)
 have cU:=fun y=>eI (w:=w) ⟨gB,qd⟩ (0,0,0) y
 have p0:aG (w.put x (0,0,0)) (-1)=0:=rfl
 have p1:aG (w.put x (0,0,0)) x=0:=by rw[cU,if_pos rfl]
 have p2:∀y,y≠x→aG (w.put x (0,0,0)) y=aG w y:=fun y hy=>by rw[cU,if_neg hy]
 have el:∀a b,0<aG w a→0<aG w b→a≠x→b≠x→aQ (w.put x (0,0,0)) a b=aQ w a b:=fun a b ha hb uH mI=>dU ⟨gB,qd⟩ _ ha hb uH mI
 have lJ:(w.put x (0,0,0)).cs.length=w.cs.length:=by simp[Nw.put]
 refine v1 (ae m4.own) ?_
 refine(pQ m4.ce x).mono ?_
 rintro _ H' ⟨rfl,e⟩
 obtain rfl:=e.symm
 rw[d.ux]
 unfold gG
 by_cases hu:bk L x= -1
 ·rw[if_pos hu]
  refine vs ?_
  refine(lW m4 _ r).mono ?_
  rintro _ H5 ⟨m5,e5⟩
  refine v1 (ae m5.own) ?_
  refine(cw m5.cells x).mono ?_
  rintro _ H6 (⟨bO,_,_⟩| ⟨_,rfl,c6,e6⟩)
  ·exact absurd bH bO
  have m6:=m5.aI c6 e6 lJ
  refine vs ?_
  exact .inr ⟨bH,rfl,cF.same ⟨B,C,L4,_,rfl,m6,d.Nk t ep hu p0 p1 p2 el,hS⟩ ((wF.trans (e5.mono fun z _ h=>h▸s2)).trans (e6.mono fun z _ h=>hC z h))⟩
 ·rw[if_neg hu]
  have CF:=B6.up t.bt hu
  obtain⟨w5,w6⟩:=d.cut t ls ep hu
  obtain⟨a3,b3,ea3⟩:=cS (aZ L4 (bk L x) true)
  refine v1 (ae m4.own) ?_
  refine(cD m4.ce (bk L x)).mono ?_
  rintro _ H' ⟨rfl,e⟩
  obtain rfl:=e.symm
  rw[ea3]
  refine v1 (ae m4.own) ?_
  refine(cR m4.ce (x:=x) (fun hu2=>by have:=B6.up d.bt hu2;have:=m4.len;omega)).mono ?_
  rintro _ H5 ⟨rfl,L5,t5,l5,k5,u5,e5⟩
  have m5:=m4.dZ t5 e5 l5
  refine vs ?_
  have Tk:=wF.trans (e5.mono fun z _ h=>h▸s1)
  refine ar.dec (fun g=>?_) (fun g=>?_)<;>refine vs ?_
  ·refine v1 (ae m5.own) ?_
   refine(cw m5.cells x).mono ?_
   rintro _ H8 (⟨bO,_,_⟩| ⟨_,rfl,c8,e8⟩)
   ·exact absurd bH bO
   have m8:=m5.aI c8 e8 lJ
   refine vs ?_
   have b6:B6 w L5:=by
    show Bt _ _ _ _
    rw[k5,u5];exact w5 g
   refine .inr ⟨bH,rfl,cF.same ⟨B,C,L5,T,rfl,m8,?_,hS⟩ (Tk.trans (e8.mono fun z _ h=>hC z h))⟩
   exact d.below t ls (n:=w.cs.length) (fun y hy=>by obtain⟨y0,y1,_⟩:=aF hy;exact⟨y0,y1⟩) ep hu b6 (by rw[if_pos g];exact u5) p0 p1 p2 el
  ·obtain⟨y1,y2,y3,y4⟩:=w6 g
   obtain⟨r1,r2,r3,r4⟩:=d.rx g
   obtain⟨q1,q2,_⟩:=aF (w:=w) (x:=r) (by omega)
   have hl5:=m5.len
   rw[d.kp _ true rfl hu]at ea3
   rcases Na ea3 with ⟨rfl,h2⟩| ⟨rfl,rfl,h3⟩
   ·have YB:false=(aZ L (bk L x) true==x):=by
     rw[h2]
     exact(beq_eq_false_iff_ne.2 (Ne.symm Jl)).symm
    refine v1 (ae m5.own) ?_
    refine(fI m5.ce (p:=bk L x) (x:=r) (c:=false) ⟨CF.1,by omega⟩ ⟨q1,by omega⟩ y3 (by rw[u5];exact y2) (by rw[k5,YB];exact y1)).mono ?_
    rintro _ H6 ⟨rfl,L6,t6,l6,k6,Tl,e6⟩
    have m6:=m5.dZ t6 e6 l6
    have JD:=Tk.trans (e6.mono fun z _ h=>h▸s1)
    rw[k5]at k6
    rw[u5]at Tl
    rw[YB]at k6
    have b6:B6 w L6:=by
     show Bt _ _ _ _
     rw[k6,Tl];exact y4
    have u6:bk L6=if r= -1 then di (bk L4) x else aK (di (bk L4) x) r (bk L x):=by rw[if_neg g];exact Tl
    refine v1 (ae m6.own) ?_
    refine(cw m6.cells x).mono ?_
    rintro _ H8 (⟨bO,_,_⟩| ⟨_,rfl,c8,e8⟩)
    ·exact absurd bH bO
    have m8:=m6.aI c8 e8 lJ
    refine vs ?_
    refine .inr ⟨bH,rfl,cF.same ⟨B,C,L6,T,rfl,m8,?_,hS⟩ (JD.trans (e8.mono fun z _ h=>hC z h))⟩
    exact d.below t ls (n:=w.cs.length) (fun y hy=>by obtain⟨y0,y1,_⟩:=aF hy;exact⟨y0,y1⟩) ep hu b6 u6 p0 p1 p2 el
   ·have YB:decide (aZ L (bk L x) true=x)=(aZ L (bk L x) true==x):=by rw[Bool.eq_iff_iff];simp
    refine v1 (ae m5.own) ?_
    refine(fI m5.ce (p:=bk L x) (x:=r) (c:=decide (aZ L (bk L x) true=x)) ⟨CF.1,by omega⟩ ⟨q1,by omega⟩ y3 (by rw[u5];exact y2) (by rw[k5,YB];exact y1)).mono ?_
    rintro _ H6 ⟨rfl,L6,t6,l6,k6,Tl,e6⟩
    have m6:=m5.dZ t6 e6 l6
    have JD:=Tk.trans (e6.mono fun z _ h=>h▸s1)
    rw[k5]at k6
    rw[u5]at Tl
    rw[YB]at k6
    have b6:B6 w L6:=by
     show Bt _ _ _ _
     rw[k6,Tl];exact y4
    have u6:bk L6=if r= -1 then di (bk L4) x else aK (di (bk L4) x) r (bk L x):=by rw[if_neg g];exact Tl
    refine v1 (ae m6.own) ?_
    refine(cw m6.cells x).mono ?_
    rintro _ H8 (⟨bO,_,_⟩| ⟨_,rfl,c8,e8⟩)
    ·exact absurd bH bO
    have m8:=m6.aI c8 e8 lJ
    refine vs ?_
    refine .inr ⟨bH,rfl,cF.same ⟨B,C,L6,T,rfl,m8,?_,hS⟩ (JD.trans (e8.mono fun z _ h=>hC z h))⟩
    exact d.below t ls (n:=w.cs.length) (fun y hy=>by obtain⟨y0,y1,_⟩:=aF hy;exact⟨y0,y1⟩) ep hu b6 u6 p0 p1 p2 el
theorem Ct{n:Nat}{H:Hp}{S:Nat→Prop}{w:Nw}(h:eA n H S w)(g:Int):af Tryz.prog mr [ptr n,i64 g] H fun v H'=>ax (
  (w.len g=0∧v= .tuple [i64 0,.bool false].toArray∧cF (eA n) S H H' w)∨(∃x,w.first g x∧v= .tuple [i64 x,.bool true].toArray∧cF (eA n) S H H' (w.put x (0,0,0)))):=by
 refine bm xQ ?_
 refine vs ?_
 refine(yW h g).mono ?_
 rintro _ _ ⟨⟨h0,rfl⟩| ⟨x,hx,rfl⟩,rfl⟩
 ·refine vs ?_
  exact .inl ⟨h0,rfl,cF.same h (ag.refl _ _)⟩
 ·refine vs ?_
  refine(D5 h x).mono ?_
  rintro _ H1 (⟨bO,_,_⟩| ⟨_,rfl,h1⟩)
  ·exact absurd (bA.1 (by have:=bQ.1 hx;omega)) bO
  refine vs ?_
  exact .inr ⟨x,hx,rfl,h1⟩
theorem Rh(n:Nat):yQ (.iface 170 (ptr n)) (eA n) where
 slt h:=h.slt
 ext h e hd:=h.ext e hd
 cells:=by
  rintro H S w ⟨B,C,L,T,rfl,m,l,hS⟩
  exact⟨B.c,C,m.cells⟩
 has:=by
  rintro H S w g ⟨B,C,L,T,rfl,m,l,hS⟩
  exact⟨_,_,bG,ptr B.c,rfl,fW (off:=0) (by kernel_rfl) (ae m.own) rfl,(iM m.cells g).mono fun v H' hp=>hp⟩
 make:=by
  rintro H S w ⟨B,C,L,T,rfl,m,l,hS⟩
  exact⟨_,_,dR,ptr B.c,rfl,fW (off:=0) (by kernel_rfl) (ae m.own) rfl,(Hy m l rfl hS).mono fun v H' hp=>hp⟩
 insert:=by
  intro H S w g x k s h
  exact⟨_,_,nG,ptr n,rfl,bF (by kernel_rfl),(D2 h g x k s).mono fun v H' hp=>hp⟩
 min:=by
  intro H S w g h
  refine⟨_,_,ti,ptr n,rfl,bF (by kernel_rfl),(yW h g).mono ?_⟩
  rintro v H' ⟨⟨h1,rfl⟩| ⟨x,h1,rfl⟩,rfl⟩
  ·exact .inl ⟨h1,rfl,cF.same h (ag.refl _ _)⟩
  ·exact .inr ⟨x,h1,rfl,cF.same h (ag.refl _ _)⟩
 extract:=by
  intro H S w g h
  exact⟨_,_,mr,ptr n,rfl,bF (by kernel_rfl),(Ct h g).mono fun v H' hp=>hp⟩
 lD:=by
  intro H S w x k s h
  exact⟨_,_,kX,ptr n,rfl,bF (by kernel_rfl),(Az h x k s).mono fun v H' hp=>hp⟩
 entry:=by
  rintro H S w x ⟨B,C,L,T,rfl,m,l,hS⟩
  refine⟨_,_,bb,ptr B.c,rfl,fW (off:=0) (by kernel_rfl) (ae m.own) rfl,(gU m.cells x).mono ?_⟩
  rintro v H' ⟨c1,f,hv⟩
  exact⟨⟨B,C,L,T,rfl,m.fresh f,l,hS⟩,f,hv⟩
structure PB where
 n:Nat
 c:Nat
 tb:Nat
 tp:Nat
structure bW(H:Hp)(B:PB)(C:Nat→Prop)(w:Nw)(L:List Lk)(tops:List Int):Prop where
 own:∃tv,H.own B.n=some [ptr B.c,.slice (some ⟨B.tb,0,none⟩) L.length L.length,tv]∧Sl H 1 tv tops.length (tops.map i64) (some B.tp)
 cells:CQ H B.c C w
 fJ:H.own B.tb=some (flatK L)
 len:L.length=w.cs.length
 mG:B.n≠B.tb∧B.n≠B.tp∧B.tb≠B.tp
 out:¬C B.n∧¬C B.tb∧¬C B.tp
def PB.S(B:PB)(C:Nat→Prop)(z:Nat):Prop:=C z∨z=B.n∨z=B.tb∨z=B.tp
section
variable {H H' : Hp} {B : PB} {C V : Nat → Prop} {w w' : Nw} {L L' : List Lk} {tops : List Int}
theorem bW.slt(h:bW H B C w L tops):∀z,B.S C z→z<H.size:=by
 obtain⟨tv,h1,h2⟩:=h.own
 rintro z (hz|rfl|rfl|rfl)
 ·exact h.cells.slt z hz
 ·exact aB h1
 ·exact aB h.fJ
 ·exact h2.lt
theorem bW.ext(h:bW H B C w L tops)(e:ag V H H')(hd:∀z,B.S C z→¬V z):bW H' B C w L tops:=by
 obtain⟨tv,h1,h2⟩:=h.own
 exact⟨⟨tv,e.own h1 (hd _ (.inr (.inl rfl))),h2.ext e (fun b hb=>by injection hb with hb;exact hb▸hd _ (.inr (.inr (.inr rfl))))⟩,h.cells.ext e (fun x hx=>hd x (.inl hx)),
  e.own h.fJ (hd _ (.inr (.inr (.inl rfl)))),h.len,h.mG,h.out⟩
theorem bW.fresh(h:bW H B C w L tops)(e:ah H H'):bW H' B C w L tops:=h.ext e fun _ _ h=>h
theorem bW.aI(h:bW H B C w L tops)(c1:CQ H' B.c C w')(e:ag C H H')(hl:w'.cs.length=w.cs.length):bW H' B C w' L tops:=by
 obtain⟨tv,h1,h2⟩:=h.own
 obtain⟨o1,o2,o3⟩:=h.out
 exact⟨⟨tv,e.own h1 o1,h2.ext e (fun b hb=>by injection hb with hb;exact hb▸o3)⟩,c1,e.own h.fJ o2,by rw[hl];exact h.len,h.mG,h.out⟩
theorem bW.PZ(h:bW H B C w L tops)(hl:L'.length=L.length):bW (H.wr B.tb (flatK L')) B C w L' tops∧ag (fun z=>z=B.tb) H (H.wr B.tb (flatK L')):=by
 obtain⟨tv,h1,h2⟩:=h.own
 obtain⟨o1,o2,o3⟩:=h.out
 obtain⟨d1,d2,d3⟩:=h.mG
 have e:ag (fun z=>z=B.tb) H (H.wr B.tb (flatK L')):=(ag.refl (fun z=>z=B.tb) _).wr (fun _=>rfl) _
 exact⟨⟨⟨tv,by rw[hl];exact e.own h1 d1,h2.ext e (fun b hb=>by injection hb with hb;omega)⟩,h.cells.ext e (fun x hx hz=>o2 (hz▸hx)),ai h.fJ,by rw[hl];exact h.len,h.mG,h.out⟩,e⟩
theorem bW.gm(h:bW H B C w L tops):∃c l,H.own B.n=some [ptr B.c,.slice (some ⟨B.tb,0,none⟩) L.length L.length,.slice (some ⟨B.tp,0,none⟩) tops.length c]∧H.own B.tp=some l∧tops.length≤c∧c≤l.length∧l.take tops.length=tops.map i64:=by
 obtain⟨tv,h1,_,l,c,rfl,h3,h4,h5,h6⟩:=h.own
 rw[aqd]at h5 h6
 exact⟨c,l,h1,h3,h4,h5,h6⟩
theorem bW.fC(h:bW H B C w L tops){l:List Value}(hl:H.own B.tp=some l){i:Nat}{x:Int}(hx:tops[i]? =some x):l[i]? =some (i64 x):=by
 obtain⟨c,l',_,h2,_,_,h5⟩:=h.gm
 rw[hl]at h2
 injection h2 with h2
 subst h2
 have h7:(tops.map i64)[i]? =some (i64 x):=by rw[aqz,hx];rfl
 rw[←h5,aqG]at h7
 split at h7
 ·exact h7
 ·cases h7
theorem bW.lC(h:bW H B C w L tops){l:List Value}(hl:H.own B.tp=some l)(i:Nat)(v:Int):bW (H.wr B.tp (l.set i (i64 v))) B C w L (tops.set i v)∧ag (fun z=>z=B.tp) H (H.wr B.tp (l.set i (i64 v))):=by
 obtain⟨c,l',h1,h2,h3,h4,h5⟩:=h.gm
 rw[hl]at h2
 injection h2 with h2
 subst h2
 obtain⟨o1,o2,o3⟩:=h.out
 obtain⟨d1,d2,d3⟩:=h.mG
 have e:ag (fun z=>z=B.tp) H (H.wr B.tp (l.set i (i64 v))):=(ag.refl (fun z=>z=B.tp) _).wr (fun _=>rfl) _
 refine⟨⟨⟨_,e.own h1 d2,?_⟩,h.cells.ext e (fun x hx hz=>o3 (hz▸hx)),e.own h.fJ d3,h.len,h.mG,h.out⟩,e⟩
 refine⟨by simp,l.set i (i64 v),c,by rw[aqe],ai hl,by rw[aqe];exact h3,by rw[aqe,aqd];exact h4,?_⟩
 rw[aqe,aqd,wA,h5,aqP]
theorem bW.rd(h:bW H B C w L tops){x:Int}(hx:0≤x∧x<w.cs.length):x.toNat*3+2< (flatK L).length∧(flatK L)[x.toNat*3]? =some (i64 (aZ L x false))∧(flatK L)[x.toNat*3+1]? =some (i64 (aZ L x true))∧(flatK L)[x.toNat*3+2]? =some (i64 (bk L x)):=by
 have hl:=h.len
 have hf:=iN L
 obtain⟨y,hy⟩:∃y,L[x.toNat]? =some y:=⟨_,aqb (by omega)⟩
 obtain⟨h1,h2,h3⟩:=PK hy
 rw[pP hx.1 hy,pP hx.1 hy,vJ hx.1 hy]
 exact⟨by omega,h1,h2,h3⟩
theorem bW.OX(h:bW H B C w L tops){x:Int}(hx:0≤x∧x<w.cs.length)(v:Int):∃L',aZ L'=eV (aZ L) x false v∧bk L'=bk L∧bW (H.wr B.tb ((flatK L).set (x.toNat*3) (i64 v))) B C w L' tops∧ag (fun z=>z=B.tb) H (H.wr B.tb ((flatK L).set (x.toNat*3) (i64 v))):=by
 have hl:=h.len
 obtain⟨y,hy⟩:∃y,L[x.toNat]? =some y:=⟨_,aqb (by omega)⟩
 refine⟨L.set x.toNat (y.gh false v),sP hx.1 hy false v,sQ hx.1 hy false v,?_⟩
 have:=wD hy false v
 rw[show x.toNat*3+false.toNat=x.toNat*3 from rfl]at this
 rw[this]
 exact h.PZ (aqe ..)
theorem bW.O4(h:bW H B C w L tops){x:Int}(hx:0≤x∧x<w.cs.length)(v:Int):∃L',aZ L'=eV (aZ L) x true v∧bk L'=bk L∧bW (H.wr B.tb ((flatK L).set (x.toNat*3+1) (i64 v))) B C w L' tops∧ag (fun z=>z=B.tb) H (H.wr B.tb ((flatK L).set (x.toNat*3+1) (i64 v))):=by
 have hl:=h.len
 obtain⟨y,hy⟩:∃y,L[x.toNat]? =some y:=⟨_,aqb (by omega)⟩
 refine⟨L.set x.toNat (y.gh true v),sP hx.1 hy true v,sQ hx.1 hy true v,?_⟩
 have:=wD hy true v
 rw[show x.toNat*3+true.toNat=x.toNat*3+1 from rfl]at this
 rw[this]
 exact h.PZ (aqe ..)
theorem bW.K5(h:bW H B C w L tops){x:Int}(hx:0≤x∧x<w.cs.length)(v:Int):∃L',aZ L'=aZ L∧bk L'=aK (bk L) x v∧bW (H.wr B.tb ((flatK L).set (x.toNat*3+2) (i64 v))) B C w L' tops∧ag (fun z=>z=B.tb) H (H.wr B.tb ((flatK L).set (x.toNat*3+2) (i64 v))):=by
 have hl:=h.len
 obtain⟨y,hy⟩:∃y,L[x.toNat]? =some y:=⟨_,aqb (by omega)⟩
 refine⟨L.set x.toNat ⟨y.a,y.b,v⟩,DL hx.1 hy v,DM hx.1 hy v,?_⟩
 rw[GZ hy v]
 exact h.PZ (aqe ..)
variable {g : Int} {R : Int → Prop} {IF ch : Int → List Int} {par : Int → Int} {W : List Int} {a b : Int}
theorem dt(m:bW H B C w L tops)(pw:Et (aG w) (aQ w) g R IF ch par (ws [a,b]++W))(pl:Kz (aZ L) (bk L) ch par):
  af Tryz.prog xd [ptr B.n,i64 a,i64 b] H fun v H'=>ax (∃r L' dS bD,v=i64 r∧(r= -1→a= -1∧b= -1)∧bW H' B C w L' tops∧Et (aG w) (aQ w) g R IF dS bD (ws [r]++W)∧Kz (aZ L') (bk L') dS bD∧ag (fun z=>C z∨z=B.tb) H H'):=by
 refine bm xI ?_
 refine vs ?_
 rw[mR,eO a,eO b]at pw
 refine ar.dec (fun ga=>?_) (fun ga=>?_)<;>refine vs ?_
 ·rw[if_pos ga]at pw
  rw[←eO b]at pw
  exact⟨b,L,ch,par,rfl,fun h=>⟨ga,h⟩,m,pw,pl,ag.refl _ _⟩
 rw[if_neg ga]at pw
 refine ar.dec (fun gb=>?_) (fun gb=>?_)<;>refine vs ?_
 ·rw[if_pos gb]at pw
  exact⟨a,L,ch,par,rfl,fun h=>⟨h,gb⟩,m,by rw[eO,if_neg ga];exact pw,pl,ag.refl _ _⟩
 rw[if_neg gb]at pw
 obtain⟨tv,o1,_⟩:=m.own
 refine v1 (ae o1) ?_
 refine(cN m.cells b a).mono ?_
 rintro _ H2 ⟨rfl,c2,e2⟩
 have m2:=m.aI c2 e2 rfl
 have VS:Et (aG w) (aQ w) g R IF ch par (a::b::W):=pw
 obtain⟨a1,a2,a3⟩:=VS.wm a (by simp)
 obtain⟨b1,b2,b3⟩:=VS.wm b (by simp)
 have AG:=gX (w:=w) (a:=b) (b:=a) (by rw[b2];exact VS.g0) (by rw[a2];exact VS.g0)
 rw[AG]
 have aR:a≠b:=fun e=>by have:=VS.nd;rw[e]at this;simp at this
 obtain⟨p,q,Rx,hl,pw2⟩:∃p q,(if aQ w b a=true then(p=b∧q=a)else(p=a∧q=b))∧aQ w p q=true∧Et (aG w) (aQ w) g R IF ch par (p::q::W):=by
  cases aN:aQ w b a
  ·exact⟨a,b,by simp,((aw w).PA a b aR).resolve_right (by rw[aN];simp),VS⟩
  ·exact⟨b,a,by simp,aN,VS.perm (List.Perm.swap ..)⟩
 obtain⟨p1,p2,p3⟩:=pw2.wm p (by simp)
 obtain⟨q1,q2,q3⟩:=pw2.wm q (by simp)
 have aii:p≠q:=fun e=>by rw[e,(aw w).Es]at hl;cases hl
 have pw3:=pw2.link hl
 have Ux:=pl.link pw2.pr p1 q3 aii
 obtain⟨px,py,_⟩:=aF (w:=w) (x:=p) (by rw[p2];exact VS.g0)
 obtain⟨qx,qy,_⟩:=aF (w:=w) (x:=q) (by rw[q2];exact VS.g0)
 have hold:aZ L p false≠ -1→0≤aZ L p false∧aZ L p false<w.cs.length:=fun h=>by
  have h1:aZ L p false∈ch p:=by rw[pl.hd]at h ⊢;exact eW h
  have h2:=(pw2.pr.dn p _ h1).2.2.2.1
  obtain⟨z0,z1,_⟩:=aF h2
  exact⟨z0,z1⟩
 have bf:=m2.len
 have ws1:ws [p]=[p]:=by rw[eO,if_neg p1]
 cases aN:aQ w b a<;>simp only[aN,if_true,if_false,ara]at Rx<;>obtain⟨rfl,rfl⟩:=Rx<;>refine vs ?_
 all_goals
  obtain⟨OK,o2,_⟩:=m2.own
  obtain⟨r0,r1,r2,r3⟩:=m2.rd ⟨px,py⟩
  refine v1 (ae o2) ?_
  refine⟨⟨by omega,by omega⟩,?_⟩
  refine v4 (ae m2.fJ) aqa Nat.add_zero r1 ?_
  refine v1 (ae o2) ?_
  refine⟨⟨by omega,by omega⟩,?_⟩
  obtain⟨L3,k3,u3,m3,e3⟩:=m2.O4 ⟨qx,qy⟩ (aZ L p false)
  obtain⟨s0,_⟩:=m2.rd ⟨qx,qy⟩
  refine v3 m2.fJ aqa Nat.add_zero ?_
  refine⟨by omega,?_⟩
  refine vs ?_
  generalize H2.wr B.tb ((flatK L).set (q.toNat*3+1) (i64 (aZ L p false)))=H3 at*
  obtain⟨L4,k4,u4,m4,e4⟩:=m3.K5 ⟨qx,qy⟩ p
  obtain⟨s4,_⟩:=m3.rd ⟨qx,qy⟩
  refine⟨⟨by omega,by omega⟩,?_⟩
  refine v3 m3.fJ aqa Nat.add_zero ?_
  refine⟨by omega,?_⟩
  refine vs ?_
  generalize H3.wr B.tb ((flatK L3).set (q.toNat*3+2) (i64 p))=H4 at*
  have e24:ag (fun z=>C z∨z=B.tb) H H4:=((e2.mono fun z _ h=>.inl h).trans (e3.mono fun z _ h=>.inr h)).trans (e4.mono fun z _ h=>.inr h)
  have PX:=m4.len
  refine ar.dec (fun go=>?_) (fun go=>?_)<;>refine vs ?_
  ·obtain⟨tv4,o4,_⟩:=m4.own
   obtain⟨L5,k5,u5,m5,e5⟩:=m4.OX ⟨px,py⟩ q
   obtain⟨s5,_⟩:=m4.rd ⟨px,py⟩
   refine v1 (ae o4) ?_
   refine⟨⟨by omega,by omega⟩,?_⟩
   refine v3 m4.fJ aqa Nat.add_zero ?_
   refine⟨by omega,?_⟩
   refine vs ?_
   refine⟨p,L5,_,_,rfl,fun h=>absurd h p1,m5,by rw[ws1];exact pw3,?_,e24.trans (e5.mono fun z _ h=>.inr h)⟩
   rw[if_pos go]at Ux
   rw[k5,u5,k4,u4,k3,u3]
   exact Ux
  ·obtain⟨tv4,o4,_⟩:=m4.own
   obtain⟨ox,oy⟩:=hold go
   obtain⟨L5,k5,u5,m5,e5⟩:=m4.K5 ⟨ox,oy⟩ q
   obtain⟨s5,_⟩:=m4.rd ⟨ox,oy⟩
   refine v1 (ae o4) ?_
   refine⟨⟨by omega,by omega⟩,?_⟩
   refine v3 m4.fJ aqa Nat.add_zero ?_
   refine⟨by omega,?_⟩
   refine vs ?_
   generalize H4.wr B.tb ((flatK L4).set ((aZ L p false).toNat*3+2) (i64 q))=H5 at*
   obtain⟨tv5,o5,_⟩:=m5.own
   have hl5:=m5.len
   obtain⟨L6,k6,u6,m6,e6⟩:=m5.OX ⟨px,py⟩ q
   obtain⟨s6,_⟩:=m5.rd ⟨px,py⟩
   refine v1 (ae o5) ?_
   refine⟨⟨by omega,by omega⟩,?_⟩
   refine v3 m5.fJ aqa Nat.add_zero ?_
   refine⟨by omega,?_⟩
   refine vs ?_
   refine⟨p,L6,_,_,rfl,fun h=>absurd h p1,m6,by rw[ws1];exact pw3,?_,(e24.trans (e5.mono fun z _ h=>.inr h)).trans (e6.mono fun z _ h=>.inr h)⟩
   rw[if_neg go]at Ux
   rw[k6,u6,k5,u5,k4,u4,k3,u3]
   exact Ux
theorem rz(m:bW H B C w L tops){lt:Int→Int→Bool}(hs:bC lt)(q:Pr (aG w) lt ch par)(pl:Kz (aZ L) (bk L) ch par){p x:Int}{l1 l2:List Int}(hp:ch p=l1++x::l2):
  af Tryz.prog zA [ptr B.n,i64 x] H fun v H'=>ax (∃L',bW H' B C w L' tops∧Kz (aZ L') (bk L') (aA ch p (l1++l2)) (aK par x (-1))∧ag (fun z=>z=B.tb) H H'):=by
 obtain⟨f1,f2,f7,f3,f4,f5,f6⟩:=pl.off q hs hp
 have hx:=(q.dn p x (by rw[hp];simp)).2.2.2.1
 obtain⟨x0,x1,_⟩:=aF hx
 obtain⟨y0,y1,_⟩:=aF (w:=w) (x:=bk L x) (by omega)
 obtain⟨tv,o1,_⟩:=m.own
 obtain⟨r0,r1,r2,r3⟩:=m.rd ⟨x0,x1⟩
 obtain⟨t0,t1,t2,t3⟩:=m.rd ⟨y0,y1⟩
 have hl:=m.len
 refine EL zZ ⟨rfl,?_⟩
 refine v2 nM.eq_1 (ae o1) ?_
 refine⟨⟨by omega,by omega⟩,?_⟩
 refine v5 (ae o1) (ae m.fJ) aqa Nat.add_zero r3 ?_
 refine⟨⟨by omega,by omega⟩,?_⟩
 refine v4 (ae m.fJ) aqa Nat.add_zero t1 ?_
 have bx:bk L x≠x:=f7
 refine ar.dec (fun g=>?_) (fun g=>?_)<;>refine vs ?_
 ·have uF:=f1.1 g
  rw[if_pos uF]at f6
  refine v6 (ae o1) (ae m.fJ) aqa Nat.add_zero r2 r3 ?_
  refine⟨⟨by omega,by omega⟩,?_⟩
  obtain⟨L1,k1,u1,m1,e1⟩:=m.OX ⟨y0,y1⟩ (aZ L x true)
  refine v3 m.fJ aqa Nat.add_zero ?_
  refine⟨by omega,?_⟩
  refine vs ?_
  generalize H.wr B.tb ((flatK L).set ((bk L x).toNat*3) (i64 (aZ L x true)))=H1 at*
  obtain⟨s0,s1,s2,s3⟩:=m1.rd ⟨x0,x1⟩
  have uF:=m1.len
  obtain⟨DO,o1,_⟩:=m1.own
  have en:aZ L1 x true=aZ L x true:=by
   rw[k1]
   unfold eV
   rw[if_neg (by simp[bx.symm])]
  have eu:bk L1 x=bk L x:=by rw[u1]
  rw[en]at s2
  rw[eu]at s3
  refine v4 (ae m1.fJ) aqa Nat.add_zero s2 ?_
  refine ar.dec (fun gn=>?_) (fun gn=>?_)<;>refine vs ?_
  ·obtain⟨L2,k2,u2,m2,e2⟩:=m1.O4 ⟨x0,x1⟩ (-1)
   refine v3 m1.fJ aqa Nat.add_zero ?_
   refine⟨by omega,?_⟩
   obtain⟨v0,_⟩:=m2.rd ⟨x0,x1⟩
   obtain⟨L3,k3,u3,m3,e3⟩:=m2.K5 ⟨x0,x1⟩ (-1)
   refine vs ?_
   generalize H1.wr B.tb ((flatK L1).set (x.toNat*3+1) (Value.int .i64 (-1)))=H2 at*
   refine v3 m2.fJ aqa Nat.add_zero ?_
   refine⟨by omega,?_⟩
   refine vs ?_
   refine⟨L3,m3,?_,(e1.trans e2).trans e3⟩
   rw[if_pos gn]at f6
   rw[k3,u3,k2,u2,k1,u1]
   exact f6
  ·obtain⟨z0,z1,_⟩:=aF (w:=w) (x:=aZ L x true) (by rw[f5 gn];exact hx)
   obtain⟨v0,_⟩:=m1.rd ⟨z0,z1⟩
   refine v6 (ae o1) (ae m1.fJ) aqa Nat.add_zero s2 s3 ?_
   refine⟨⟨by omega,by omega⟩,?_⟩
   obtain⟨L2,k2,u2,m2,e2⟩:=m1.K5 ⟨z0,z1⟩ (bk L x)
   refine v3 m1.fJ aqa Nat.add_zero ?_
   refine⟨by omega,?_⟩
   refine vs ?_
   generalize H1.wr B.tb ((flatK L1).set ((aZ L x true).toNat*3+2) (i64 (bk L x)))=H2 at*
   obtain⟨v1,_⟩:=m2.rd ⟨x0,x1⟩
   obtain⟨L3,k3,u3,m3,e3⟩:=m2.O4 ⟨x0,x1⟩ (-1)
   refine v3 m2.fJ aqa Nat.add_zero ?_
   refine⟨by omega,?_⟩
   obtain⟨v2,_⟩:=m3.rd ⟨x0,x1⟩
   obtain⟨L4,k4,u4,m4,e4⟩:=m3.K5 ⟨x0,x1⟩ (-1)
   refine vs ?_
   generalize H2.wr B.tb ((flatK L2).set (x.toNat*3+1) (Value.int .i64 (-1)))=H3 at*
   refine v3 m3.fJ aqa Nat.add_zero ?_
   refine⟨by omega,?_⟩
   refine vs ?_
   refine⟨L4,m4,?_,((e1.trans e2).trans e3).trans e4⟩
   rw[if_neg gn]at f6
   rw[k4,u4,k3,u3,k2,u2,k1,u1]
   exact f6
 ·have uF:l1≠[]:=fun h=>g (f1.2 h)
  rw[if_neg uF]at f6
  refine v6 (ae o1) (ae m.fJ) aqa Nat.add_zero r2 r3 ?_
  refine⟨⟨by omega,by omega⟩,?_⟩
  obtain⟨L1,k1,u1,m1,e1⟩:=m.O4 ⟨y0,y1⟩ (aZ L x true)
  refine v3 m.fJ aqa Nat.add_zero ?_
  refine⟨by omega,?_⟩
  refine vs ?_
  generalize H.wr B.tb ((flatK L).set ((bk L x).toNat*3+1) (i64 (aZ L x true)))=H1 at*
  obtain⟨s0,s1,s2,s3⟩:=m1.rd ⟨x0,x1⟩
  have uF:=m1.len
  obtain⟨DO,o1,_⟩:=m1.own
  have en:aZ L1 x true=aZ L x true:=by
   rw[k1]
   unfold eV
   rw[if_neg (by simp[bx.symm])]
  have eu:bk L1 x=bk L x:=by rw[u1]
  rw[en]at s2
  rw[eu]at s3
  refine v4 (ae m1.fJ) aqa Nat.add_zero s2 ?_
  refine ar.dec (fun gn=>?_) (fun gn=>?_)<;>refine vs ?_
  ·obtain⟨L2,k2,u2,m2,e2⟩:=m1.O4 ⟨x0,x1⟩ (-1)
   refine v3 m1.fJ aqa Nat.add_zero ?_
   refine⟨by omega,?_⟩
   obtain⟨v0,_⟩:=m2.rd ⟨x0,x1⟩
   obtain⟨L3,k3,u3,m3,e3⟩:=m2.K5 ⟨x0,x1⟩ (-1)
   refine vs ?_
   generalize H1.wr B.tb ((flatK L1).set (x.toNat*3+1) (Value.int .i64 (-1)))=H2 at*
   refine v3 m2.fJ aqa Nat.add_zero ?_
   refine⟨by omega,?_⟩
   refine vs ?_
   refine⟨L3,m3,?_,(e1.trans e2).trans e3⟩
   rw[if_pos gn]at f6
   rw[k3,u3,k2,u2,k1,u1]
   exact f6
  ·obtain⟨z0,z1,_⟩:=aF (w:=w) (x:=aZ L x true) (by rw[f5 gn];exact hx)
   obtain⟨v0,_⟩:=m1.rd ⟨z0,z1⟩
   refine v6 (ae o1) (ae m1.fJ) aqa Nat.add_zero s2 s3 ?_
   refine⟨⟨by omega,by omega⟩,?_⟩
   obtain⟨L2,k2,u2,m2,e2⟩:=m1.K5 ⟨z0,z1⟩ (bk L x)
   refine v3 m1.fJ aqa Nat.add_zero ?_
   refine⟨by omega,?_⟩
   refine vs ?_
   generalize H1.wr B.tb ((flatK L1).set ((aZ L x true).toNat*3+2) (i64 (bk L x)))=H2 at*
   obtain⟨v1,_⟩:=m2.rd ⟨x0,x1⟩
   obtain⟨L3,k3,u3,m3,e3⟩:=m2.O4 ⟨x0,x1⟩ (-1)
   refine v3 m2.fJ aqa Nat.add_zero ?_
   refine⟨by omega,?_⟩
   obtain⟨v2,_⟩:=m3.rd ⟨x0,x1⟩
   obtain⟨L4,k4,u4,m4,e4⟩:=m3.K5 ⟨x0,x1⟩ (-1)
   refine vs ?_
   generalize H2.wr B.tb ((flatK L2).set (x.toNat*3+1) (Value.int .i64 (-1)))=H3 at*
   refine v3 m3.fJ aqa Nat.add_zero ?_
   refine⟨by omega,?_⟩
   refine vs ?_
   refine⟨L4,m4,?_,((e1.trans e2).trans e3).trans e4⟩
   rw[if_neg gn]at f6
   rw[k4,u4,k3,u3,k2,u2,k1,u1]
   exact f6
end
end Go.Proofs.YthpjfeolagohkaaGreat

namespace Go.Proofs.YthpjfeolagohkaaGreat
open Go Go.Vc
section
variable {H : Hp} {B : PB} {C V : Nat → Prop} {w : Nw} {L : List Lk} {tops : List Int} {ch IF : Int → List Int} {par : Int → Int}
theorem Pr.len(q:Pr (aG w) (aQ w) ch par)(x:Int):(ch x).length≤w.cs.length:=cf (q.nd x) fun c hc=>by
 obtain⟨z0,z1,_⟩:=aF (q.dn x c hc).2.2.2.1
 exact⟨z0,z1⟩
theorem Ky.next{K:Int→Bool→Int}{Bk:Int→Int}:∀ {l1:List Int} {p x:Int} {l2:List Int},Ky K Bk p (l1++x::l2)→K x true=l2.headD (-1):=fun h=>h.split.2.1
theorem Cu(m:bW H B C w L tops)(q:Pr (aG w) (aQ w) ch par)(pl:Kz (aZ L) (bk L) ch par){x:Int}(hx:0<aG w x):
  af Tryz.prog xf [ptr B.n,i64 x] H fun v H'=>ax (∃fp,bW H' B C w L tops∧ag C H H'∧Sl H' 1 v (ch x).length ((ch x).map i64) fp∧∀b,fp=some b→H.size≤b):=by
 obtain⟨x0,x1,_⟩:=aF hx
 have tQ:=m.cells.Fe
 have bf:=q.len x
 refine bm xK ?_
 obtain⟨tv,o1,_⟩:=m.own
 refine v1 (ae o1) ?_
 refine(dH m.cells x).mono ?_
 rintro _ H1 (⟨bO,_,_⟩| ⟨bH,rfl,c1,e1⟩)
 ·exact absurd (bA.1 hx) bO
 have m1:=m.aI c1 e1 rfl
 obtain⟨DO,o1,_⟩:=m1.own
 obtain⟨r0,r1,r2,r3⟩:=m1.rd ⟨x0,x1⟩
 have hl:=m1.len
 have z1:=e1.size
 refine v1 (ae o1) ?_
 refine⟨⟨by omega,by omega⟩,?_⟩
 refine v4 (ae m1.fJ) aqa Nat.add_zero r1 ?_
 refine aY.intro (fun mm env H'=>∃ (d r:List Int) (wv:Value) (fp:Option Nat),mm=r.length∧ch x=d++r∧bW H' B C w L tops∧(∀z,fp=some z→H.size≤z)∧Sl H' 1 wv d.length (d.map i64) fp∧ag (fun z=>C z∨H.size≤z) H H'∧
  env=[(0,ptr B.n),(7,wv),(8,i64 (r.headD (-1)))]) _ ⟨[],ch x,_,none,rfl,rfl,m1,(fun z h=>by cases h),Sl.nil _ _,e1.mono (fun z _ h=>.inl h),by rw[pl.hd]⟩ ?_
 rintro mm env H2 ⟨d,r,wv,fp,rfl,hdr,m2,eB,s2,e2,rfl⟩
 have z2:=e2.size
 refine vs ?_
 cases r with
 |nil=>
  refine ar.dec (fun _=>?_) (fun h=>absurd rfl h)
  refine vs ?_
  rw[aq2]at hdr
  rw[hdr]
  exact⟨fp,m2,e2.mono (fun z hz h=>h.elim id fun h=>by omega),s2,eB⟩
 |cons c r=>
  have hc:=q.dn x c (by rw[hdr];simp)
  obtain⟨c0,c1,_⟩:=aF hc.2.2.2.1
  have Li:=pl.sg x
  rw[hdr]at Li
  have Li:=Li.next
  have o8:d.length+(r.length+1)=(ch x).length:=by rw[hdr,aqj,aqx]
  refine ar.dec (fun h=>absurd h (by simp only[List.headD_cons];omega)) (fun _=>?_)
  refine vs ?_
  refine BS (B:=H.size) eB (by omega) s2 c (by omega) fun w' H3 bI ix s3 e3=>?_
  refine vs ?_
  have m3:=m2.ext e3 (fun z hz ed=>by have:=m.slt z hz;omega)
  obtain⟨tv3,o3,_⟩:=m3.own
  obtain⟨t0,t1,t2,t3⟩:=m3.rd ⟨c0,c1⟩
  have Q0:=m3.len
  simp(disch:=(first|omega| (simp only[Zs]<;>omega)|fail)) only[go_sem, ↓reduceIte,Zv,ae o3,List.headD_cons]
  refine⟨⟨by omega,by omega⟩,?_⟩
  refine v4 (ae m3.fJ) aqa Nat.add_zero t2 ?_
  refine⟨r.length,by simp,d++[c],r,w',bI,rfl,by rw[hdr];simp,m3,ix,s3,e2.trans (e3.mono fun z _ h=>.inr h),by rw[Li]⟩
theorem jA(m:bW H B C w L tops)(q:Pr (aG w) (aQ w) ch par)(pl:Kz (aZ L) (bk L) ch par){x:Int}(hx:0<aG w x):
  af Tryz.prog xe [ptr B.n,i64 x] H fun v H'=>ax (∃r L' dS bD,v=i64 r∧bW H' B C w L' tops∧Kz (aZ L') (bk L') dS bD∧
   Et (aG w) (aQ w) (aG w x) (fun y=>0<aG w y∧par y= -1) (aA ch x []) dS bD (ws [r])∧ag (fun z=>C z∨z=B.tb) H H'):=by
 obtain⟨x0,x1,_⟩:=aF hx
 have tQ:=m.cells.Fe
 have bf:=q.len x
 refine bm xJ ?_
 refine vs ?_
 refine(Cu m q pl hx).mono ?_
 rintro kv H1 ⟨fp,m1,e1,s1,eB⟩
 have z1:=e1.size
 obtain⟨DO,o1,_⟩:=m1.own
 obtain⟨r0,_⟩:=m1.rd ⟨x0,x1⟩
 have hl:=m1.len
 refine v1 (ae o1) ?_
 refine⟨⟨by omega,by omega⟩,?_⟩
 obtain⟨L2,k2,u2,m2,e2⟩:=m1.OX ⟨x0,x1⟩ (-1)
 refine v3 m1.fJ aqa Nat.add_zero ?_
 refine⟨by omega,?_⟩
 refine vs ?_
 generalize H1.wr B.tb ((flatK L).set (x.toNat*3) (Value.int .i64 (-1)))=H2 at*
 have hN:∀z,B.S C z→z<H.size:=m.slt
 have JK:B.tb<H.size:=hN _ (.inr (.inr (.inl rfl)))
 have s2:=s1.ext e2 (fun z hz ed=>by have:=eB z hz;omega)
 obtain⟨ka,kc,rfl⟩:=Sl.shape s2
 have pg:ag (fun z=>C z∨z=B.tb∨H.size≤z) H H2:=(e1.mono fun z _ h=>.inl h).trans (e2.mono fun z _ h=>.inr (.inl h))
 refine vs ?_
 refine aY.intro (fun mm env H'=>∃ (i:Nat) (L':List Lk),mm=(ch x).length - i∧i≤(ch x).length∧bW H' B C w L' tops∧Sl H' 1 (.slice ka (ch x).length kc) (ch x).length ((ch x).map i64) fp∧ag (fun z=>C z∨z=B.tb∨H.size≤z) H H'∧
  (∀y,aZ L' y false=if y=x then -1 else aZ L y false)∧(∀c,(c∈(ch x).take i→aZ L' c true= -1∧bk L' c= -1)∧(c∉ (ch x).take i→aZ L' c true=aZ L c true∧bk L' c=bk L c))∧
  env=[(0,ptr B.n),(5,.slice ka (ch x).length kc),(22,.slice ka (ch x).length kc),(23,i64 (ch x).length),(24,i64 i)]) _ ⟨0,L2,rfl,by omega,m2,s2,pg,fun y=>?_,fun c=>⟨fun h=>by simp at h,fun _=>?_⟩,rfl⟩ ?_
 ·rw[k2]
  unfold eV
  by_cases hy:y=x
  ·rw[if_pos ⟨hy,rfl⟩,if_pos hy]
  ·rw[if_neg (by simp[hy]),if_neg hy]
 ·rw[k2,u2]
  unfold eV
  rw[if_neg (by simp)]
  exact⟨rfl,rfl⟩
 rintro mm env H3 ⟨i,L3,rfl,hi,m3,s3,e3,kf3,kt3,rfl⟩
 refine vs ?_
 refine ar.dec (fun gi=>?_) (fun gi=>?_)<;>refine vs ?_
 ·have ni:i< (ch x).length:=by omega
  obtain⟨c,hc⟩:∃c,(ch x)[i]? =some c:=⟨_,aqb ni⟩
  have GH:=aqg hc
  obtain⟨c0,c1,_⟩:=aF (q.dn x c GH).2.2.2.1
  obtain⟨_,kb,lb,rfl,q2,q3⟩:=Sl.Ao s3 hc
  refine⟨⟨by omega,by omega⟩,?_⟩
  refine v5 (ae q2) aqa aqd Int.toNat_natCast q3 ?_
  obtain⟨tv3,o3,_⟩:=m3.own
  obtain⟨t0,_⟩:=m3.rd ⟨c0,c1⟩
  have Q0:=m3.len
  refine v1 (ae o3) ?_
  refine⟨⟨by omega,by omega⟩,?_⟩
  obtain⟨L4,k4,u4,m4,e4⟩:=m3.O4 ⟨c0,c1⟩ (-1)
  refine v3 m3.fJ aqa Nat.add_zero ?_
  refine⟨by omega,?_⟩
  obtain⟨t1,_⟩:=m4.rd ⟨c0,c1⟩
  have PX:=m4.len
  obtain⟨L5,k5,u5,m5,e5⟩:=m4.K5 ⟨c0,c1⟩ (-1)
  refine vs ?_
  generalize H3.wr B.tb ((flatK L3).set (c.toNat*3+1) (Value.int .i64 (-1)))=H4 at*
  refine⟨⟨by omega,by omega⟩,?_⟩
  refine v3 m4.fJ aqa Nat.add_zero ?_
  refine⟨by omega,?_⟩
  refine vs ?_
  have s5:=(s3.ext e4 (fun z hz ed=>by have:=eB z hz;omega)).ext e5 (fun z hz ed=>by have:=eB z hz;omega)
  refine⟨(ch x).length - (i+1),by omega,i+1,L5,rfl,by omega,m5,s5,(e3.trans (e4.mono fun z _ h=>.inr (.inl h))).trans (e5.mono fun z _ h=>.inr (.inl h)),fun y=>?_,fun d=>?_,?_⟩
  ·rw[k5,k4]
   unfold eV
   rw[if_neg (by simp)]
   exact kf3 y
  ·have tk:(ch x).take (i+1)=(ch x).take i++[c]:=by rw[aqS,hc];rfl
   rw[tk,k5,k4,u5,u4]
   unfold eV aK
   by_cases hd:d=c
   ·rw[if_pos ⟨hd,rfl⟩,if_pos hd]
    exact⟨fun _=>⟨rfl,rfl⟩,fun h=>absurd (show d∈(ch x).take i++[c] by simp[hd]) h⟩
   ·rw[if_neg (by simp[hd]),if_neg hd]
    refine⟨fun h=>(kt3 d).1 ?_,fun h=>(kt3 d).2 fun h2=>h (by simp[h2])⟩
    rcases aqq.1 h with h|h
    ·exact h
    ·exact absurd (aql.1 h) hd
  ·rw[wrap64 (by omega) (by omega)]
   rfl
 obtain rfl:i=(ch x).length:=by omega
 rw[aqM]at kt3
 have Ux:=pl.bare q kf3 (fun c hc=>(kt3 c).1 hc) (fun c hc=>(kt3 c).2 hc)
 have pw3:=q.X2 hx
 have Fv:∀z,fp=some z→z<H3.size:=fun z hz=>by rw[hz]at s3;exact s3.lt
 have z3:=e3.size
 refine aY.intro (fun mm env H'=>∃ (i:Nat) (t:List Int) (wv:Value) (fq:Option Nat) (L':List Lk) (dS:Int→List Int) (bD:Int→Int),mm=(ch x).length+2 - i∧i≤(ch x).length+1∧t.length≤i∧bW H' B C w L' tops∧
  Sl H' 1 (.slice ka (ch x).length kc) (ch x).length ((ch x).map i64) fp∧(∀z,fq=some z→H3.size≤z)∧Sl H' 1 wv t.length (t.map i64) fq∧ag (fun z=>C z∨z=B.tb∨H.size≤z) H H'∧ag (fun z=>C z∨z=B.tb∨H3.size≤z) H3 H'∧
  Et (aG w) (aQ w) (aG w x) (fun y=>0<aG w y∧par y= -1) (aA ch x []) dS bD (t++(ch x).drop i)∧Kz (aZ L') (bk L') dS bD∧
  env=[(0,ptr B.n),(5,.slice ka (ch x).length kc),(8,wv),(9,i64 i)]) _ ⟨0,[],_,none,L3,_,_,rfl,by omega,by simp,m3,s3,(fun z h=>by cases h),Sl.nil _ _,e3,ag.refl _ _,by simpa using pw3,Ux,rfl⟩ ?_
 rintro mm env H4 ⟨i,t,wv,fq,L4,VT,K6,rfl,hi,hti,m4,s4,Lp,t4,e4,Ak,Zi,Zj,rfl⟩
 have z4:=e4.size
 have z34:=Ak.size
 refine vs ?_
 refine ar.dec (fun gi=>?_) (fun gi=>?_)<;>refine vs ?_
 ·have ni:i< (ch x).length:=by omega
  obtain⟨c,hc⟩:∃c,(ch x)[i]? =some c:=⟨_,aqb ni⟩
  have GH:=aqg hc
  have Q7:=q.ne GH
  have dr:(ch x).drop i=c::(ch x).drop (i+1):=by
   rw[aq7 ni]
   congr 1
   rw[aqb ni]at hc
   injection hc
  obtain⟨_,kb,lb,rfl,q2,q3⟩:=Sl.Ao s4 hc
  refine ar.dec (fun g1=>?_) (fun g1=>?_)<;>refine vs ?_
  ·rw[wrap64 (by omega) (by omega)]at g1
   refine⟨⟨by omega,by omega⟩,?_⟩
   refine v5 (ae q2) aqa aqd Int.toNat_natCast q3 ?_
   refine BS (B:=H3.size) Lp z34 t4 c (by omega) fun w' H5 fq' Tv t5 e5=>?_
   refine vs ?_
   have m5:=m4.ext e5 (fun z hz ed=>by have:=m.slt z hz;omega)
   have s5:=s4.ext e5 (fun z hz ed=>by have:=Fv z hz;omega)
   refine⟨(ch x).length+2 - (i+2),by omega,i+2,t++[c],w',fq',L4,VT,K6,rfl,by omega,by simp;omega,m5,s5,Tv,t5,e4.trans (e5.mono fun z _ h=>.inr (.inr (by omega))),Ak.trans (e5.mono fun z _ h=>.inr (.inr h)),?_,Zj,?_⟩
   ·rw[dr]at Zi
    rw[arV (by omega)]
    rw[arV (by omega)]at Zi
    simpa using Zi
   ·rw[wrap64 (by omega) (by omega)];rfl
  ·rw[wrap64 (by omega) (by omega)]at g1
   have rF:i+1< (ch x).length:=by omega
   obtain⟨d,hd⟩:∃d,(ch x)[i+1]? =some d:=⟨_,aqb rF⟩
   have Vz:=aqg hd
   have Yy:=q.ne Vz
   have dr2:(ch x).drop (i+1)=d::(ch x).drop (i+2):=by
    rw[aq7 rF]
    congr 1
    rw[aqb rF]at hd
    injection hd
   obtain⟨_,EB,lb2,ek,q5,q4⟩:=Sl.Ao s4 hd
   injection ek with ek
   injection ek with ek
   subst ek
   rw[q2]at q5
   injection q5 with q5
   subst q5
   refine⟨⟨by omega,by omega⟩,?_⟩
   refine v5 (ae q2) aqa aqd Int.toNat_natCast q3 ?_
   rw[wrap64 (by omega) (by omega)]
   refine⟨⟨by omega,by omega⟩,?_⟩
   refine v5 (ae q2) aqa aqd (show((i:Int)+1).toNat=i+1 by omega) q4 ?_
   have w2:ws [c,d]=[c,d]:=by rw[mR,eO,eO,if_neg Q7,if_neg Yy];rfl
   have Zk:Et (aG w) (aQ w) (aG w x) (fun y=>0<aG w y∧par y= -1) (aA ch x []) VT K6 (ws [c,d]++(t++(ch x).drop (i+2))):=by
    rw[w2]
    rw[dr,dr2]at Zi
    refine Zi.perm ?_
    have h1:(t++c::d::(ch x).drop (i+2)).Perm (c::(t++d::(ch x).drop (i+2))):=ar5
    have h2:(t++d::(ch x).drop (i+2)).Perm (d::(t++(ch x).drop (i+2))):=ar5
    exact h1.trans (h2.cons c)
   refine(dt m4 Zk Zj).mono ?_
   rintro _ H5 ⟨r,L5,ch5,Ri,rfl,hr,m5,pw6,pl5,e5⟩
   have hrn:r≠ -1:=fun h=>Q7 (hr h).1
   have z5:=e5.size
   have t5:=t4.ext e5 (fun z hz ed=>by have:=Lp z hz;rcases ed with h|h;have:=m.slt z (.inl h);omega;omega)
   have s5:=s4.ext e5 (fun z hz ed=>by have:=eB z hz;rcases ed with h|h;have:=m.slt z (.inl h);omega;omega)
   refine vs ?_
   refine BS (B:=H3.size) Lp (by omega) t5 r (by omega) fun w' H6 fq' Tv t6 e6=>?_
   refine vs ?_
   have m6:=m5.ext e6 (fun z hz ed=>by have:=m.slt z hz;omega)
   have s6:=s5.ext e6 (fun z hz ed=>by have:=Fv z hz;omega)
   refine⟨(ch x).length+2 - (i+2),by omega,i+2,t++[r],w',fq',L5,ch5,Ri,rfl,by omega,by simp;omega,m6,s6,Tv,t6,(e4.trans (e5.mono fun z _ h=>h.elim .inl fun h=>.inr (.inl h))).trans (e6.mono fun z _ h=>.inr (.inr (by omega))),(Ak.trans (e5.mono fun z _ h=>h.elim .inl fun h=>.inr (.inl h))).trans (e6.mono fun z _ h=>.inr (.inr h)),?_,pl5,?_⟩
   ·rw[eO,if_neg hrn]at pw6
    refine pw6.perm ?_
    rw[arz]
    exact(ar5 (l₁:=t) (a:=r) (l₂:=(ch x).drop (i+2))).symm
   ·rw[wrap64 (by omega) (by omega)];rfl
 rw[arV (by omega),aq2]at Zi
 have Nt:t.length≤65537:=by omega
 obtain⟨ta,tc,rfl⟩:=Sl.shape t4
 refine vs ?_
 refine aY.intro (fun mm env H'=>∃ (j:Nat) (r:Int) (L':List Lk) (dS:Int→List Int) (bD:Int→Int),mm=j∧j≤t.length∧bW H' B C w L' tops∧
  Sl H' 1 (.slice ta t.length tc) t.length (t.map i64) fq∧ag (fun z=>C z∨z=B.tb∨H.size≤z) H H'∧
  Et (aG w) (aQ w) (aG w x) (fun y=>0<aG w y∧par y= -1) (aA ch x []) dS bD (ws [r]++t.take j)∧Kz (aZ L') (bk L') dS bD∧
  env=[(0,ptr B.n),(8,.slice ta t.length tc),(10,i64 r),(11,i64 ((j:Int) - 1))]) _ ⟨t.length, -1,L4,VT,K6,rfl,aqm _,m4,t4,e4,by rw[eO,if_pos rfl,aqM];exact Zi,Zj,?_⟩ ?_
 ·rw[wrap64 (by omega) (by omega)]
 rintro mm env H5 ⟨j,r,L5,ch5,Ri,Vd,hj,m5,t5,e5,Zk,pl5,rfl⟩
 obtain rfl:=Vd.symm
 refine vs ?_
 refine ar.dec (fun gj=>?_) (fun gj=>?_)<;>refine vs ?_
 ·obtain⟨k,rfl⟩:∃k,j=k+1:=⟨j - 1,by omega⟩
  obtain⟨c,hc⟩:∃c,t[k]? =some c:=⟨_,aqb (by omega)⟩
  obtain⟨_,kb,lb,rfl,q2,q3⟩:=Sl.Ao t5 hc
  have ji:((((k+1:Nat):Int) - 1)).toNat=k:=by omega
  refine⟨⟨by omega,by omega⟩,?_⟩
  refine v5 (ae q2) aqa aqd ji q3 ?_
  have tk:t.take (k+1)=t.take k++[c]:=by rw[aqS,hc];rfl
  have Q7:c≠ -1:=(Zk.wm c (by rw[tk];simp)).1
  have pw6:Et (aG w) (aQ w) (aG w x) (fun y=>0<aG w y∧par y= -1) (aA ch x []) ch5 Ri (ws [c,r]++t.take k):=by
   rw[tk]at Zk
   refine Zk.perm ?_
   rw[mR c [r],eO c,if_neg Q7]
   have h1:(ws [r]++(t.take k++[c])).Perm ((ws [r]++t.take k)++[c]):=by rw[arz]
   refine h1.trans (aru.trans ?_)
   rw[arz]
  refine(dt m5 pw6 pl5).mono ?_
  rintro _ H6 ⟨r2,L6,ch6,OY,rfl,hr,m6,pw7,pl6,e6⟩
  have t6:=t5.ext e6 (fun z hz ed=>by have:=Lp z hz;rcases ed with h|h;have:=m.slt z (.inl h);omega;omega)
  refine vs ?_
  refine⟨k,by omega,k,r2,L6,ch6,OY,rfl,by omega,m6,t6,e5.trans (e6.mono fun z _ h=>h.elim .inl fun h=>.inr (.inl h)),pw7,pl6,?_⟩
  rw[show((k+1:Nat):Int) - 1 - 1=(k:Int) - 1 by omega,wrap64 (by omega) (by omega)]
 ·obtain rfl:j=0:=by omega
  rw[List.take_zero,aq2]at Zk
  exact⟨r,L5,ch5,Ri,rfl,m5,pl5,Zk,e5.mono fun z hz h=>h.elim .inl fun h=>.inr (by omega)⟩
end
end Go.Proofs.YthpjfeolagohkaaGreat
