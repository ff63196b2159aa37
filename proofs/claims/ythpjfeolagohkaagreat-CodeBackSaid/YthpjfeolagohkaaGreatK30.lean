/- Texts put behind each other. -/
import Derived.Test.YthpjfeolagohkaaGreatK98
import Derived.Test.YthpjfeolagohkaaGreatK26
import Derived.Test.YthpjfeolagohkaaGreatK27
import Derived.Test.YthpjfeolagohkaaGreatK29
set_option maxRecDepth 100000
set_option maxHeartbeats 8000000
set_option linter.unusedVariables false
set_option linter.unusedSimpArgs false
namespace Go.Proofs.YthpjfeolagohkaaGreat
open Go Go.Vc
structure SY(w:Nw)(L:List Lk)(tops:List Int):Prop where
 bt:AT (aE w) (aN w) (aX L) (bh L) (bf tops)
 tl:tops.length=w.hs.length
def dD(n:Nat)(H:Hp)(S:Nat→Prop)(w:Nw):Prop:=∃ (B:LB) (C:Nat→Prop) (L:List Lk) (rs tops:List Int),B.n=n∧cV H B C w L rs tops∧SY w L tops∧∀z,S z↔B.S C z
theorem dD.slt{n:Nat}{H:Hp}{S:Nat→Prop}{w:Nw}(h:dD n H S w):∀z,S z→z<H.size:=by
 obtain⟨B,C,L,rs,tops,rfl,m,l,hS⟩:=h
 exact fun z hz=>m.slt z ((hS z).1 hz)
theorem dD.ext{n:Nat}{H H':Hp}{S T:Nat→Prop}{w:Nw}(h:dD n H S w)(e:ag T H H')(hd:∀z,S z→¬T z):dD n H' S w:=by
 obtain⟨B,C,L,rs,tops,rfl,m,l,hS⟩:=h
 exact⟨B,C,L,rs,tops,rfl,m.ext e (fun z hz=>hd z ((hS z).2 hz)),l,hS⟩
theorem wZ{n:Nat}{H:Hp}{S:Nat→Prop}{w:Nw}(h:dD n H S w)(g x k s:Int):af Tryz.prog jm [ptr n,i64 g,i64 x,tu k s] H fun v H'=>ar (
  (¬w.lq g x∧v= .bool false∧cA (dD n) S H H' w)∨(w.lq g x∧v= .bool true∧cA (dD n) S H H' (w.put x (g,k,s)))):=by
 obtain⟨B,C,L,rs,tops,rfl,m,l,hS⟩:=h
 refine Kw ti ⟨rfl,?_⟩
 refine v1 jv.eq_1 ?_
 have f0:am H (H.new 182 [i64 k,u64 s]):=(ag.refl _ _).new _ _
 have b0:(H.new 182 [i64 k,u64 s]).own H.size=some [i64 k,u64 s]:=aD _ _ _
 have m0:=m.fresh f0
 generalize H.new 182 [i64 k,u64 s]=H0 at*
 obtain⟨tv,IY,_⟩:=m0.own
 refine v2 (ae IY) (ae b0) ?_
 refine(kI m0.cells g x k s).mono ?_
 rintro _ H1 (⟨bS,rfl,c1,e1⟩| ⟨qf,rfl,c1,e1⟩)
 ·refine vs ?_
  exact .inl ⟨bS,rfl,cA.same ⟨B,C,L,rs,tops,rfl,m0.aH c1 e1 rfl,l,hS⟩ ((f0.mono fun _ _ h=>h.elim).trans (e1.mono fun z _ hz=>(hS z).2 (.inl hz)))⟩
 obtain⟨hh,hx,bE⟩:=id qf
 have m1:=m0.aH c1 e1 (by simp[Nw.put])
 have aR:=m1.len
 have nL:(w.put x (g,k,s)).cs.length=w.cs.length:=by simp[Nw.put]
 obtain⟨CW,o1,_⟩:=m1.own
 refine v1 (ae o1) ?_
 refine⟨⟨by omega,by omega⟩,?_⟩
 refine v3 m1.CV aor aos ?_
 refine⟨by rw[aoA];omega,?_⟩
 refine vs ?_
 obtain⟨m2,e2⟩:cV (H1.wr B.rk ((rs.map i64).set x.toNat (Value.int .i64 1))) B C _ L (rs.set x.toNat 1) tops∧ag (fun z=>z=B.rk) H1 (H1.wr B.rk ((rs.map i64).set x.toNat (Value.int .i64 1))):=m1.NQ x.toNat 1
 generalize H1.wr B.rk ((rs.map i64).set x.toNat (Value.int .i64 1))=H2 at*
 obtain⟨cc,lt,o2,q2,AW,Fe,O2⟩:=m2.fR
 refine oC.intro (fun H'=>H'.own B.n=some [ptr B.c,ptr B.t,.slice (some ⟨B.rk,0,none⟩) (rs.set x.toNat 1).length (rs.set x.toNat 1).length,.slice (some ⟨B.tp,0,none⟩) tops.length cc]) o2 ?_
 refine vs ?_
 refine oB.intro (.slice (some ⟨B.tp,0,none⟩) tops.length cc) (fun H' hI=>by refine v1 (ae hI) ?_;trivial) ?_
 refine v1 (ae o2) ?_
 have hg:=hh.1
 have dq:g<tops.length:=by
  have:=(aoq.1 hh.2).1
  have:=l.tl
  omega
 have q3:=m2.eR q2 (dU (tops:=tops) (h:=g) (by omega) dq)
 have cG:=fun y=>ed hx (g,k,s) y
 have bo:UA (aE (w.put x (g,k,s))) (aN (w.put x (g,k,s))) (aX L) (bh L) (bf tops) g x:=by
  refine l.bt.ins rfl (Int.not_lt.1 fun h=>bE (bC.1 h)) (by omega) (by omega) (by rw[cG,if_pos rfl]) (fun y hy=>by rw[cG,if_neg hy]) (fun a b ha hb qA lV=>dC hx _ ha hb qA lV)
 refine And.intro o2 ?_
 refine vs ?_
 refine⟨⟨by omega,by omega⟩,?_⟩
 refine v4 (ae q2) aor aos q3 ?_
 refine And.intro o2 ?_
 refine vs ?_
 refine(gT m2 bo.mg).mono ?_
 rintro _ H3 ⟨r,L3,rs3,rfl,m3,g3,_,e3⟩
 have bn:=bo.done g3
 obtain⟨d1,d2,d3,d4⟩:=m2.nN.1
 have no:¬ (C B.n∨B.n=B.tl∨B.n=B.rk):=by rintro(h|h|h);exact m2.out.1 h;omega;omega
 refine And.intro (e3.own o2 no) ?_
 have q4:=e3.own q2 (by obtain⟨_,⟨_,_,d7⟩,⟨_,d9⟩,d10⟩:=m2.nN;rintro(h|h|h);exact m2.out.2.2.2.2 h;omega;omega)
 refine vs ?_
 refine⟨⟨by omega,by omega⟩,?_⟩
 refine v3 q4 aor aos ?_
 refine⟨by omega,?_⟩
 obtain⟨m4,e4⟩:=m3.kL q4 g.toNat r
 refine And.intro (e4.own (e3.own o2 no) d4) ?_
 refine vs ?_
 refine .inr ⟨qf,rfl,B.S C,⟨B,C,L3,rs3,_,rfl,m4,⟨?_,by rw[aot];exact l.tl⟩,fun z=>Iff.rfl⟩,?_,fun z hz=>.inl ((hS z).2 hz)⟩
 ·rw[eC (by omega) dq]
  exact bn
 ·have hC:∀z,C z→S z:=fun z h=>(hS z).2 (.inl h)
  have h1:S B.tl:=(hS _).2 (.inr (.inr (.inr (.inl rfl))))
  have h2:S B.rk:=(hS _).2 (.inr (.inr (.inr (.inr (.inl rfl)))))
  have h3:S B.tp:=(hS _).2 (.inr (.inr (.inr (.inr (.inr rfl)))))
  exact(((((f0.mono fun _ _ h=>h.elim).trans (e1.mono fun z _ h=>hC z h)).trans (e2.mono fun z _ h=>h▸h2)).trans (e3.mono fun z _ h=>by rcases h with h|rfl|rfl;exact hC z h;exact h1;exact h2)).trans (e4.mono fun z _ h=>h▸h3))
theorem AT.none{hm:Int→Int}{lt:Int→Int→Bool}{K:Int→Bool→Int}{U T:Int→Int}(h0:hm (-1)=0)(hh:∀x,¬0<hm x)(hk:∀x c,K x c= -1)(hu:∀x,U x= -1)(ht:∀g,T g= -1):AT hm lt K U T:=
 ⟨⟨h0,fun p c x h hx=>absurd (h.symm.trans (hk p c)) hx,fun x p h hp=>absurd (h.symm.trans (hu x)) hp,fun p _=>hk p _⟩,fun g h=>absurd (ht g) h,fun x hx=>absurd hx (hh x)⟩
theorem Be(n:Nat)(x:Int)(c:Bool):aX (List.replicate n jd) x c= -1:=by
 by_cases h:0≤x∧x< (List.replicate n jd).length
 ·have h2:=h.2
  rw[aoY]at h2
  rw[oN (y:=jd) h.1 (by rw[apH,if_pos (by omega)])]
  cases c<;>rfl
 ·exact SL h c
theorem Gf(n:Nat)(x:Int):bh (List.replicate n jd) x= -1:=by
 by_cases h:0≤x∧x< (List.replicate n jd).length
 ·have h2:=h.2
  rw[aoY]at h2
  rw[uH (y:=jd) h.1 (by rw[apH,if_pos (by omega)])]
  rfl
 ·exact NO h
def Bf(cap:Int):Nw:=⟨[false],List.replicate cap.toNat (0,0,0)⟩
theorem kN(cap:Int)(x:Int):¬0<aE (Bf cap) x:=by
 intro h
 obtain⟨h1,h2,e,he⟩:=aC h
 have h3:(List.replicate cap.toNat ((0,0,0):Ce))[x.toNat]? =some (aE (Bf cap) x,e):=he
 have:=aqi (aow h3)
 injection this with h4 h5
 omega
theorem CZ(g:Int):bf [-1] g= -1:=by
 unfold bf
 split
 ·rw[aou]
  rcases hg:g.toNat with _|k
  ·rfl
  ·rfl
 ·rfl
theorem uQ(k:Nat):ce [Value.int .i64 0] k=(List.replicate k (0:Int)).map i64:=by
 induction k with
 |zero=>rfl
 |succ k ih=>simp only[ce,aoZ,apr,apg]at*;rw[ih];rfl
theorem C0(cap:Int)(H:Hp):af Tryz.prog Hn [i64 cap] H fun v H'=>ar (
  am H H'∧((¬ (0≤cap∧cap≤65536)∧v= .tuple [.pointer none,i64 31].toArray)∨
   ((0≤cap∧cap≤65536)∧∃n S,v= .tuple [ptr n,i64 0].toArray∧dD n H' S (Bf cap)∧∀x,S x→H.size≤x))):=by
 refine aZ HA ?_
 refine vs ?_
 refine(kJ cap H).mono ?_
 rintro _ H1 ⟨f1,⟨hb,rfl⟩| ⟨hb,c,C,rfl,c1,hC⟩⟩
 ·refine vs ?_
  exact⟨f1,.inl ⟨hb,rfl⟩⟩
 refine v1 aoW ?_
 refine(uI H1 hb).mono ?_
 rintro _ H2 ⟨t,tl,rfl,t2,f2,ht,HF⟩
 refine vs ?_
 refine⟨⟨by omega,by omega,by omega,by omega⟩,?_⟩
 refine vs ?_
 rw[uQ]
 have xp:=c1.slt
 have z1:=f1.size
 have z2:=f2.size
 have GX:=aB t2.own
 have Yb:=aB t2.kK
 have f3:am H2 (((H2.new 3 ((List.replicate cap.toNat (0:Int)).map i64)).new 3 [Value.int .i64 (-1)]).new 241 [ptr c,ptr t,.slice (some ⟨H2.size,0,none⟩) cap.toNat cap.toNat,.slice (some ⟨H2.size+1,0,none⟩) 1 1]):=(((ag.refl _ _).new _ _).new _ _).new _ _
 have e1:ag (fun _=>False) (H2.new 3 ((List.replicate cap.toNat (0:Int)).map i64)) (((H2.new 3 ((List.replicate cap.toNat (0:Int)).map i64)).new 3 [Value.int .i64 (-1)]).new 241 [ptr c,ptr t,.slice (some ⟨H2.size,0,none⟩) cap.toNat cap.toNat,.slice (some ⟨H2.size+1,0,none⟩) 1 1]):=((ag.refl _ _).new _ _).new _ _
 have e2:ag (fun _=>False) ((H2.new 3 ((List.replicate cap.toNat (0:Int)).map i64)).new 3 [Value.int .i64 (-1)]) (((H2.new 3 ((List.replicate cap.toNat (0:Int)).map i64)).new 3 [Value.int .i64 (-1)]).new 241 [ptr c,ptr t,.slice (some ⟨H2.size,0,none⟩) cap.toNat cap.toNat,.slice (some ⟨H2.size+1,0,none⟩) 1 1]):=(ag.refl _ _).new _ _
 have ft:=f1.trans (f2.trans f3)
 refine⟨ft,.inr ⟨hb,H2.size+1+1,(LB.mk (H2.size+1+1) c t tl H2.size (H2.size+1)).S C,rfl,⟨⟨H2.size+1+1,c,t,tl,H2.size,H2.size+1⟩,C,_,List.replicate cap.toNat 0,[-1],rfl,
  ⟨⟨.slice (some ⟨H2.size+1,0,none⟩) 1 1,?_,?_⟩,c1.fresh (f2.trans f3),t2.fresh f3,?_,?_,?_,?_⟩,⟨AT.none rfl (kN cap) (Be _) (Gf _) CZ,rfl⟩,fun z=>Iff.rfl⟩,fun z hz=>?_⟩⟩
 ·rw[aoY]
  exact be (by simp only[aq])
 ·exact(Sl.cB (size:=1) (n:=1) (xs:=[i64 (-1)]) rfl (by simp only[aq])).ext e2 (fun _ _ h=>h)
 ·exact e1.own (aD _ _ _) (fun h=>h)
 ·simp[Bf]
 ·have:=t2.ne
  refine⟨⟨?_,?_,?_,?_⟩,⟨?_,?_,?_⟩,⟨?_,?_⟩,?_⟩<;>simp only<;>omega
 ·refine⟨fun h=>?_,fun h=>?_,fun h=>?_,fun h=>?_,fun h=>?_⟩<;>(have h2:=xp _ h;first|omega| (simp only at h2;omega))
 ·rcases hz with hz|rfl|rfl|rfl|rfl|rfl
  ·exact hC z hz
  all_goals first|omega| (simp only;omega)
theorem Bg{n:Nat}{H:Hp}{S:Nat→Prop}{w:Nw}(h:dD n H S w):af Tryz.prog lI [ptr n] H fun v H'=>ar (
  (w.hs.length=65537∧v=i64 0∧cA (dD n) S H H' w)∨(w.hs.length≠65537∧v=i64 w.hs.length∧cA (dD n) S H H' w.make)):=by
 obtain⟨B,C,L,rs,tops,rfl,m,l,hS⟩:=id h
 obtain⟨tv,ho,FL⟩:=m.own
 refine aZ wP ?_
 refine v1 (ae ho) ?_
 refine(iS m.cells).mono ?_
 rintro _ H1 (⟨h1,rfl,rfl⟩| ⟨h1,rfl,C',c1,e1,zi⟩)
 ·refine vs ?_
  exact .inl ⟨h1,rfl,cA.same h (ag.refl _ _)⟩
 have fC:=m.cells.pos
 have hhs:=m.cells.FL
 have HF:=l.tl
 have slt:=m.slt
 have Mf:=c1.slt
 obtain⟨n1,n2,n3,n4,n5⟩:=m.out
 obtain⟨⟨d1,d2,d3,d4⟩,⟨d5,d6,d7⟩,⟨d8,d9⟩,d10⟩:=m.nN
 have o1:=e1.own ho n1
 refine vs ?_
 refine ai.bI (aoE (by omega)) ?_
 refine v1 (ae o1) ?_
 have s1:=FL.ext e1 (fun b hb=>by injection hb with hb;exact hb▸n5)
 refine Sv s1 (-1) (by omega) fun w' H2 b' mU s2 e2=>?_
 have o2:=e2.own o1 d4
 obtain⟨wa,wc,O3⟩:=Sl.shape s2
 subst O3
 refine v1 o2 ?_
 generalize O3:Value.slice wa (tops++[-1]).length wc=w' at*
 have e3:ag (fun z=>z=B.n) H2 (H2.wr B.n [ptr B.c,ptr B.t,.slice (some ⟨B.rk,0,none⟩) rs.length rs.length,w']):=(ag.refl (fun z=>z=B.n) _).wr (fun _=>rfl) _
 have z1:=e1.size
 have sl:∀z,z=B.n∨z=B.t∨z=B.tl∨z=B.rk∨z=B.tp→z<H.size:=fun z hz=>slt z (.inr hz)
 have hn:=sl _ (.inl rfl)
 have ht:=sl _ (.inr (.inl rfl))
 have Yb:=sl _ (.inr (.inr (.inl rfl)))
 have hrk:=sl _ (.inr (.inr (.inr (.inl rfl))))
 have htp:=sl _ (.inr (.inr (.inr (.inr rfl))))
 have Gg:∀z,C' z→z≠b'∧(z<H.size→C z):=fun z hz=>by
  have h5:=Mf z hz
  rcases zi z hz with h6|h6
  ·refine⟨fun e=>?_,fun _=>h6⟩
   rcases mU with h7|h7
   ·exact n5 (by rw[←h7,←e];exact h6)
   ·omega
  ·exact⟨by omega,fun h=>by omega⟩
 refine .inr ⟨h1,rfl,(LB.mk B.n B.c B.t B.tl B.rk b').S C',⟨⟨B.n,B.c,B.t,B.tl,B.rk,b'⟩,C',L,rs,tops++[-1],rfl,⟨⟨w',ah o2,s2.ext e3 (fun b hb=>by injection hb with hb;omega)⟩,?_,?_,?_,m.len,?_,?_⟩,⟨by rw[A9];exact l.bt,?_⟩,fun z=>Iff.rfl⟩,?_,fun z hz=>?_⟩
 ·exact(c1.ext e2 (fun x hx e=>by
   rcases zi x hx with h6|h6
   ·exact n5 (e▸h6)
   ·omega)).ext e3 (fun x hx e=>by
   rcases zi x hx with h6|h6
   ·exact n1 (e▸h6)
   ·omega)
 ·exact((m.bR.ext e1 n2 n3).ext e2 d7 d9).ext e3 (Ne.symm d1) (Ne.symm d2)
 ·exact e3.own (e2.own (e1.own m.CV n4) d10) (Ne.symm d3)
 ·refine⟨⟨d1,d2,d3,?_⟩,⟨d5,d6,?_⟩,⟨d8,?_⟩,?_⟩<;>simp only<;>omega
 ·refine⟨fun h=>?_,fun h=>?_,fun h=>?_,fun h=>?_,fun h=>?_⟩
  ·exact n1 ((Gg _ h).2 hn)
  ·exact n2 ((Gg _ h).2 ht)
  ·exact n3 ((Gg _ h).2 Yb)
  ·exact n4 ((Gg _ h).2 hrk)
  ·exact(Gg _ h).1 rfl
 ·simp[Nw.make,HF]
 ·exact((e1.mono fun z _ h=>(hS z).2 (.inl h)).trans (e2.mono fun z _ h=>(hS z).2 (.inr (.inr (.inr (.inr (.inr h))))))).trans (e3.mono fun z _ h=>(hS z).2 (.inr (.inl h)))
 ·rcases hz with hz|rfl|rfl|rfl|rfl|rfl
  ·rcases zi z hz with h6|h6
   ·exact .inl ((hS z).2 (.inl h6))
   ·exact .inr h6
  ·exact .inl ((hS _).2 (.inr (.inl rfl)))
  ·exact .inl ((hS _).2 (.inr (.inr (.inl rfl))))
  ·exact .inl ((hS _).2 (.inr (.inr (.inr (.inl rfl)))))
  ·exact .inl ((hS _).2 (.inr (.inr (.inr (.inr (.inl rfl))))))
  ·rcases mU with rfl|h7
   ·exact .inl ((hS _).2 (.inr (.inr (.inr (.inr (.inr rfl))))))
   ·exact .inr (by first|omega| (simp only;omega))
theorem SY.first{w:Nw}{L:List Lk}{tops:List Int}(l:SY w L tops){g x:Int}(h:w.first g x):bf tops g=x:=by
 obtain⟨h1,h2,h3⟩:=bH.1 h
 have:=l.bt.first (x:=x) (by omega) (fun y hy aQ=>h3 y (by omega) aQ) (ap w)
 rwa[h2]at this
theorem qh{n:Nat}{H:Hp}{S:Nat→Prop}{w:Nw}(h:dD n H S w)(g:Int):af Tryz.prog mM [ptr n,i64 g] H fun v H'=>ar (
  ((w.len g=0∧v= .tuple [i64 0,.bool false].toArray)∨∃x,w.first g x∧v= .tuple [i64 x,.bool true].toArray)∧H'=H):=by
 obtain⟨B,C,L,rs,tops,rfl,m,l,hS⟩:=h
 obtain⟨cc,lt,ho,q2,AW,Fe,O2⟩:=m.fR
 refine aZ yQ ?_
 refine v1 (ae ho) ?_
 refine(uG m.cells g).mono ?_
 rintro _ _ ⟨rfl,rfl⟩
 refine vs ?_
 refine ai.dec (fun h0=>?_) (fun h0=>?_)
 ·refine vs ?_
  exact⟨.inl ⟨h0,rfl⟩,rfl⟩
 have hg:0<g:=aoJ fun hg=>h0 (Nw.HQ.2 (.inl (by omega)))
 obtain⟨x,hx⟩:=uF hg h0
 have hh:=(bH.1 hx).2.1
 have dq:=((m.cells.hm x).2 (by omega)).2
 rw[hh,←l.tl]at dq
 have q3:=m.eR q2 (dU (tops:=tops) (h:=g) (by omega) dq)
 rw[l.first hx]at q3
 refine v1 (ae ho) ?_
 refine⟨⟨by omega,by omega⟩,?_⟩
 refine v4 (ae q2) aor aos q3 ?_
 exact⟨.inr ⟨x,hx,rfl⟩,rfl⟩
theorem tz{n:Nat}{H:Hp}{S:Nat→Prop}{w:Nw}(h:dD n H S w)(x k s:Int):af Tryz.prog hZ [ptr n,i64 x,tu k s] H fun v H'=>ar (
  (¬w.cX x k s∧v= .bool false∧cA (dD n) S H H' w)∨(w.cX x k s∧v= .bool true∧∃y,w.cs[x.toNat]? =some y∧cA (dD n) S H H' (w.put x (y.1,k,s)))):=by
 obtain⟨B,C,L,rs,tops,rfl,m,l,hS⟩:=h
 refine Kw pN ⟨rfl,?_⟩
 refine v1 ie.eq_1 ?_
 have f0:am H (H.new 182 [i64 k,u64 s]):=(ag.refl _ _).new _ _
 have b0:(H.new 182 [i64 k,u64 s]).own H.size=some [i64 k,u64 s]:=aD _ _ _
 have m0:=m.fresh f0
 generalize H.new 182 [i64 k,u64 s]=H0 at*
 obtain⟨tv,IY,_⟩:=m0.own
 refine v2 (ae IY) (ae b0) ?_
 refine(gC m0.cells x k s).mono ?_
 have hC:∀z,C z→S z:=fun z h=>(hS z).2 (.inl h)
 have ff:ag S H H0:=f0.mono fun _ _ h=>h.elim
 rintro _ H1 (⟨bS,rfl,c1,e1⟩| ⟨bE,rfl,y,hy,fz,c1,e1⟩)
 ·refine vs ?_
  exact .inl ⟨bS,rfl,cA.same ⟨B,C,L,rs,tops,rfl,m0.ext e1 (fun _ _ h=>h),l,hS⟩ (ff.trans (e1.mono fun _ _ h=>h.elim))⟩
 have nL:(w.put x (y.1,k,s)).cs.length=w.cs.length:=by simp[Nw.put]
 have m1:=m0.aH c1 e1 nL
 have Bh:w.cX x k s:=⟨bE,fun z hz=>by rw[hy]at hz;injection hz with hz;rw[←hz];exact fz⟩
 have hx:0≤x∧x<w.cs.length:=⟨bE.1,by have:=(aoq.1 hy).1;have:=bE.1;omega⟩
 have OV:aE w x=y.1:=jI bE.1 hy
 have dZ:=bC.2 bE
 have hw:aE (w.put x (y.1,k,s))=aE w:=by
  funext z
  rw[ed hx]
  split
  ·rename_i e;rw[e,OV]
  ·rfl
 have EG:cU (w.put x (y.1,k,s)).cs x:=bC.1 (by rw[hw];exact dZ)
 obtain⟨CW,o1,_⟩:=m1.own
 refine v1 (ae o1) ?_
 refine(df m1.cells x).mono ?_
 rintro _ H2 (⟨bS,_,_⟩| ⟨_,rfl,c2,e2⟩)
 ·exact absurd EG bS
 have m2:=m1.aH c2 e2 rfl
 obtain⟨NR,o2,_⟩:=m2.own
 have oZ:ag S H H2:=(ff.trans (e1.mono fun z _ h=>hC z h)).trans (e2.mono fun z _ h=>hC z h)
 have el:∀a b,0<aE w a→0<aE w b→a≠x→b≠x→aN (w.put x (y.1,k,s)) a b=aN w a b:=fun a b ha hb qA lV=>dC hx _ ha hb qA lV
 have ex:∀b,0<aE w b→b≠x→aN w x b=true→aN (w.put x (y.1,k,s)) x b=true:=fun b hb lV h=>A8 bE hy fz hb lV h
 refine v1 (ae o2) ?_
 refine(cI m2.bR (x:=x) (fun hu=>by have:=Ba.up l.bt.bt hu;have:=m2.len.1;omega)).mono ?_
 rintro _ H3 ⟨rfl,L3,t3,l3,k3,u3,e3⟩
 have m3:=m2.dH t3 e3 l3
 have h1:S B.tl:=(hS _).2 (.inr (.inr (.inr (.inl rfl))))
 have h2:S B.rk:=(hS _).2 (.inr (.inr (.inr (.inr (.inl rfl)))))
 have h3:S B.tp:=(hS _).2 (.inr (.inr (.inr (.inr (.inr rfl)))))
 have Ex:ag S H H3:=oZ.trans (e3.mono fun z _ h=>h▸h1)
 unfold gg
 by_cases hu:bh L x= -1
 ·rw[if_pos hu]
  refine vs ?_
  have kk:aX L3=aX L:=by rw[k3];unfold iJ;rw[if_pos hu]
  have uu:bh L3=bh L:=by
   rw[u3]
   funext z
   unfold cW aJ
   split
   ·rename_i e;rw[e,hu]
   ·rfl
  refine .inr ⟨Bh,rfl,y,hy,cA.same ⟨B,C,L3,rs,tops,rfl,m3,⟨?_,l.tl⟩,hS⟩ Ex⟩
  rw[hw,kk,uu]
  exact l.bt.UB dZ hu el ex (ap w)
 rw[if_neg hu]
 refine vs ?_
 have bo:=l.bt.low dZ hu el ex (ap w)
 rw[←hw,←k3,←u3]at bo
 have zL:=Ba.up l.bt.bt hu
 refine(iU m3 bo.bt (x:=bh L x) (fun _=>by rw[hw,zL.2.2.2];exact dZ)).mono ?_
 rintro _ H4 ⟨L4,Wj,m4,b4,u4,e4⟩
 have bo4:UA (aE (w.put x (y.1,k,s))) (aN (w.put x (y.1,k,s))) (aX L4) (bh L4) (bf tops) (aE (w.put x (y.1,k,s)) x) x:=⟨b4,by rw[u4];exact bo.t1,by rw[u4];exact bo.t2,by rw[u4];exact bo.ox,bo.nx,bo.g0⟩
 have zB:ag S H H4:=Ex.trans (e4.mono fun z _ h=>by rcases h with rfl|rfl;exact h1;exact h2)
 obtain⟨cc,lt,o4,q2,AW,Fe,O2⟩:=m4.fR
 have dq:aE (w.put x (y.1,k,s)) x<tops.length:=by
  have:=((m4.cells.hm x).2 bo.g0).2
  have e5:(w.put x (y.1,k,s)).hs=w.hs:=rfl
  rw[e5]at this
  have:=l.tl
  omega
 have SR:=bo.g0
 generalize hg:aE (w.put x (y.1,k,s)) x=g at*
 have q3:=m4.eR q2 (dU (tops:=tops) (h:=g) (by omega) dq)
 refine vs ?_
 refine oC.intro (fun H'=>H'.own B.n=some [ptr B.c,ptr B.t,.slice (some ⟨B.rk,0,none⟩) Wj.length Wj.length,.slice (some ⟨B.tp,0,none⟩) tops.length cc]) o4 ?_
 refine vs ?_
 refine oB.intro (.slice (some ⟨B.tp,0,none⟩) tops.length cc) (fun H' hI=>by refine v1 (ae hI) ?_;trivial) ?_
 refine v1 (ae o4) ?_
 refine And.intro o4 ?_
 refine vs ?_
 refine⟨⟨by omega,by omega⟩,?_⟩
 refine v4 (ae q2) aor aos q3 ?_
 refine And.intro o4 ?_
 refine vs ?_
 refine(gT m4 bo4.mg).mono ?_
 rintro _ H5 ⟨r,L5,rs5,rfl,m5,g5,_,e5⟩
 have bn:=bo4.done g5
 obtain⟨d1,d2,d3,d4⟩:=m4.nN.1
 have no:¬ (C B.n∨B.n=B.tl∨B.n=B.rk):=by rintro(h|h|h);exact m4.out.1 h;omega;omega
 refine And.intro (e5.own o4 no) ?_
 have q4:=e5.own q2 (by obtain⟨_,⟨_,_,d7⟩,⟨_,d9⟩,d10⟩:=m4.nN;rintro(h|h|h);exact m4.out.2.2.2.2 h;omega;omega)
 refine vs ?_
 refine⟨⟨by omega,by omega⟩,?_⟩
 refine v3 q4 aor aos ?_
 refine⟨by omega,?_⟩
 obtain⟨m6,e6⟩:=m5.kL q4 g.toNat r
 refine And.intro (e6.own (e5.own o4 no) d4) ?_
 refine vs ?_
 refine .inr ⟨Bh,rfl,y,hy,cA.same ⟨B,C,L5,rs5,_,rfl,m6,⟨?_,by rw[aot];exact l.tl⟩,hS⟩ ?_⟩
 ·rw[eC (by omega) dq]
  exact bn
 ·exact(zB.trans (e5.mono fun z _ h=>by rcases h with h|rfl|rfl;exact hC z h;exact h1;exact h2)).trans (e6.mono fun z _ h=>h▸h3)
theorem w9{n:Nat}{H:Hp}{S:Nat→Prop}{w:Nw}(h:dD n H S w)(x:Int):af Tryz.prog sP [ptr n,i64 x] H fun v H'=>ar (
  (¬cU w.cs x∧v= .bool false∧cA (dD n) S H H' w)∨(cU w.cs x∧v= .bool true∧cA (dD n) S H H' (w.put x (0,0,0)))):=by
 obtain⟨B,C,L,rs,tops,rfl,m,l,hS⟩:=id h
 have hC:∀z,C z→S z:=fun z h=>(hS z).2 (.inl h)
 have s1:S B.tl:=(hS _).2 (.inr (.inr (.inr (.inl rfl))))
 have s2:S B.rk:=(hS _).2 (.inr (.inr (.inr (.inr (.inl rfl)))))
 have s3:S B.tp:=(hS _).2 (.inr (.inr (.inr (.inr (.inr rfl)))))
 obtain⟨tv,o0,_⟩:=m.own
 refine aZ th ?_
 refine v1 (ae o0) ?_
 refine(df m.cells x).mono ?_
 rintro _ H1 (⟨bS,rfl,rfl⟩| ⟨bE,rfl,c1,e1⟩)
 ·refine vs ?_
  exact .inl ⟨bS,rfl,cA.same h (ag.refl _ _)⟩
 have m1:=m.aH c1 e1 rfl
 obtain⟨CW,o1,_⟩:=m1.own
 have dZ:=bC.2 bE
 obtain⟨fL,kD,_⟩:=aC dZ
 have G6:x≠ -1:=by omega
 have ls:=ap w
 have t:=l.bt
 refine v1 (ae o1) ?_
 obtain⟨a1,b1,ea1⟩:=cJ (aX L x false)
 obtain⟨a2,b2,ea2⟩:=cJ (aX L x true)
 refine⟨.tuple [i64 a1,.bool b1].toArray,(lm m1.bR x).mono (by rintro v H' ⟨rfl,rfl⟩;exact⟨ea1,rfl⟩),?_⟩
 refine vs ?_
 refine⟨_,cz H1 _ a1 b1 ea1,?_⟩
 refine v1 (ae o1) ?_
 refine(cr m1.bR x).mono ?_
 rintro _ H' ⟨rfl,e⟩
 obtain rfl:=e.symm
 rw[ea2]
 refine vs ?_
 refine(cz H1 _ a2 b2 ea2).mono ?_
 rintro _ H' ⟨rfl,e⟩
 obtain rfl:=e.symm
 refine v1 (ae o1) ?_
 refine(cI m1.bR (x:=aX L x false) (fun hu=>by have:=Ba.up t.bt hu;have:=m1.len.1;omega)).mono ?_
 rintro _ H2 ⟨rfl,L2,t2,l2,k2,u2,e2⟩
 have m2:=m1.dH t2 e2 l2
 have bt2:Ba w L2:=by
  show Bt _ _ _ _
  rw[k2,u2];exact t.bt.Uz _
 obtain⟨NR,o2,_⟩:=m2.own
 refine v1 (ae o2) ?_
 refine(cI m2.bR (x:=aX L x true) (fun hu=>by have:=Ba.up bt2 hu;have:=m2.len.1;omega)).mono ?_
 rintro _ H3 ⟨rfl,L3,t3,l3,k3,u3,e3⟩
 rw[k2,u2]at k3
 rw[u2]at u3
 have m3:=m2.dH t3 e3 l3
 obtain⟨w1,w2,w3,w4⟩:=t.bt.bare x
 have hk:∀c,aX L x c= -1∨(aE w (aX L x c)=aE w x∧bh L3 (aX L x c)= -1):=fun c=>by
  by_cases hk:aX L x c= -1
  ·exact .inl hk
  ·refine .inr ⟨(t.bt.home hk).2.2.1,?_⟩
   rw[u3,w4,if_pos]
   cases c
   ·exact .inl rfl
   ·exact .inr rfl
 rw[←k3,←u3]at w1
 have mg:=Mg.start w1 dZ (hk false) (hk true) (fun e=>t.bt.two x e)
 refine vs ?_
 refine(gT m3 mg).mono ?_
 rintro _ H4 ⟨r,L4,Wj,rfl,m4,g4,f4,e4⟩
 have f4:=f4 x (wX.start (fun hk=>(t.bt.home hk).2.2.2.2) (fun hk=>(t.bt.home hk).2.2.2.2))
 have d:=t.V8 ls dZ k3 u3 g4 f4
 have zB:ag S H H4:=(((e1.mono fun z _ h=>hC z h).trans (e2.mono fun z _ h=>h▸s1)).trans (e3.mono fun z _ h=>h▸s1)).trans (e4.mono fun z _ h=>by rcases h with h|rfl|rfl;exact hC z h;exact s1;exact s2)
 obtain⟨tv4,o4,_⟩:=m4.own
 have cG:=fun y=>ed (w:=w) ⟨fL,kD⟩ (0,0,0) y
 have p0:aE (w.put x (0,0,0)) (-1)=0:=rfl
 have p1:aE (w.put x (0,0,0)) x=0:=by rw[cG,if_pos rfl]
 have p2:∀y,y≠x→aE (w.put x (0,0,0)) y=aE w y:=fun y hy=>by rw[cG,if_neg hy]
 have el:∀a b,0<aE w a→0<aE w b→a≠x→b≠x→aN (w.put x (0,0,0)) a b=aN w a b:=fun a b ha hb qA lV=>dC ⟨fL,kD⟩ _ ha hb qA lV
 have nL:(w.put x (0,0,0)).cs.length=w.cs.length:=by simp[Nw.put]
 refine v1 (ae o4) ?_
 refine(oO m4.bR x).mono ?_
 rintro _ H' ⟨rfl,e⟩
 obtain rfl:=e.symm
 rw[d.ux]
 unfold gg
 by_cases hu:bh L x= -1
 ·rw[if_pos hu]
  obtain⟨cc,lt,o5,q5,AW,Fe,O2⟩:=m4.fR
  have dq:aE w x<tops.length:=by
   have:=((m4.cells.hm x).2 dZ).2
   have:=l.tl
   omega
  refine v1 (ae o5) ?_
  refine⟨⟨by omega,by omega⟩,?_⟩
  refine v3 q5 aor aos ?_
  refine⟨by omega,?_⟩
  obtain⟨m5,e5⟩:=m4.kL q5 (aE w x).toNat r
  obtain⟨tv6,o6,_⟩:=m5.own
  refine v1 (ae o6) ?_
  refine(bY m5.cells x).mono ?_
  rintro _ H6 (⟨bS,_,_⟩| ⟨_,rfl,c6,e6⟩)
  ·exact absurd bE bS
  have m6:=m5.aH c6 e6 nL
  refine vs ?_
  refine .inr ⟨bE,rfl,cA.same ⟨B,C,L4,Wj,_,rfl,m6,⟨?_,by rw[aot];exact l.tl⟩,hS⟩ ((zB.trans (e5.mono fun z _ h=>h▸s3)).trans (e6.mono fun z _ h=>hC z h))⟩
  rw[eC (by omega) dq]
  exact d.Pu t dZ hu p0 p1 p2 el
 ·rw[if_neg hu]
  have zL:=Ba.up t.bt hu
  obtain⟨w5,w6⟩:=d.cut t ls dZ hu
  obtain⟨a3,b3,ZL⟩:=cJ (aX L4 (bh L x) true)
  refine v1 (ae o4) ?_
  refine(cr m4.bR (bh L x)).mono ?_
  rintro _ H' ⟨rfl,e⟩
  obtain rfl:=e.symm
  rw[ZL]
  refine vs ?_
  refine(cz _ _ a3 b3 ZL).mono ?_
  rintro _ H' ⟨rfl,e⟩
  obtain rfl:=e.symm
  rw[d.kp _ true rfl hu]
  refine v1 (ae o4) ?_
  refine(cI m4.bR (x:=x) (fun hu2=>by have:=Ba.up d.bt hu2;have:=m4.len.1;omega)).mono ?_
  rintro _ H5 ⟨rfl,L5,t5,l5,k5,u5,e5⟩
  have m5:=m4.dH t5 e5 l5
  obtain⟨tv5,o5,_⟩:=m5.own
  refine vs ?_
  have Wq:=zB.trans (e5.mono fun z _ h=>h▸s1)
  refine ai.dec (fun g=>?_) (fun g=>?_)<;>refine vs ?_
  ·have m6:=m5
   have Rk:=Wq
   have b6:Ba w L5:=by
    show Bt _ _ _ _
    rw[k5,u5];exact w5 g
   have u6:bh L5=if r= -1 then cW (bh L4) x else aJ (cW (bh L4) x) r (bh L x):=by rw[if_pos g];exact u5
   refine(iU m6 b6 (x:=bh L x) (fun _=>by rw[zL.2.2.2];exact dZ)).mono ?_
   rintro _ H7 ⟨L7,rs7,m7,b7,u7,e7⟩
   have e17:=Rk.trans (e7.mono fun z _ h=>by rcases h with rfl|rfl;exact s1;exact s2)
   obtain⟨tv7,o7,_⟩:=m7.own
   refine v1 (ae o7) ?_
   refine(bY m7.cells x).mono ?_
   rintro _ H8 (⟨bS,_,_⟩| ⟨_,rfl,c8,e8⟩)
   ·exact absurd bE bS
   have m8:=m7.aH c8 e8 nL
   refine vs ?_
   refine .inr ⟨bE,rfl,cA.same ⟨B,C,L7,rs7,tops,rfl,m8,⟨?_,l.tl⟩,hS⟩ (e17.trans (e8.mono fun z _ h=>hC z h))⟩
   exact d.below t ls (n:=w.cs.length) (fun y hy=>by obtain⟨y0,y1,_⟩:=aC hy;exact⟨y0,y1⟩) dZ hu b7 (by rw[u7,u6]) p0 p1 p2 el
  ·obtain⟨y1,y2,y3,y4⟩:=w6 g
   obtain⟨r1,r2,r3,r4⟩:=d.rx g
   obtain⟨q1,q2,_⟩:=aC (w:=w) (x:=r) (by omega)
   have hl5:=m5.len
   refine v1 (ae o5) ?_
   refine(eV m5.bR (p:=bh L x) (x:=r) (c:=(aX L (bh L x) true==x)) ⟨zL.1,by omega⟩ ⟨q1,by omega⟩ y3 (by rw[u5];exact y2) (by rw[k5];exact y1)).mono ?_
   rintro _ H6 ⟨rfl,L6,t6,l6,k6,SZ,e6⟩
   have m6:=m5.dH t6 e6 l6
   have Rk:=Wq.trans (e6.mono fun z _ h=>h▸s1)
   rw[k5]at k6
   rw[u5]at SZ
   have b6:Ba w L6:=by
    show Bt _ _ _ _
    rw[k6,SZ];exact y4
   have u6:bh L6=if r= -1 then cW (bh L4) x else aJ (cW (bh L4) x) r (bh L x):=by rw[if_neg g];exact SZ
   refine vs ?_
   refine(iU m6 b6 (x:=bh L x) (fun _=>by rw[zL.2.2.2];exact dZ)).mono ?_
   rintro _ H7 ⟨L7,rs7,m7,b7,u7,e7⟩
   have e17:=Rk.trans (e7.mono fun z _ h=>by rcases h with rfl|rfl;exact s1;exact s2)
   obtain⟨tv7,o7,_⟩:=m7.own
   refine v1 (ae o7) ?_
   refine(bY m7.cells x).mono ?_
   rintro _ H8 (⟨bS,_,_⟩| ⟨_,rfl,c8,e8⟩)
   ·exact absurd bE bS
   have m8:=m7.aH c8 e8 nL
   refine vs ?_
   refine .inr ⟨bE,rfl,cA.same ⟨B,C,L7,rs7,tops,rfl,m8,⟨?_,l.tl⟩,hS⟩ (e17.trans (e8.mono fun z _ h=>hC z h))⟩
   exact d.below t ls (n:=w.cs.length) (fun y hy=>by obtain⟨y0,y1,_⟩:=aC hy;exact⟨y0,y1⟩) dZ hu b7 (by rw[u7,u6]) p0 p1 p2 el
theorem uR{n:Nat}{H:Hp}{S:Nat→Prop}{w:Nw}(h:dD n H S w)(g:Int):af Tryz.prog iG [ptr n,i64 g] H fun v H'=>ar (
  (w.len g=0∧v= .tuple [i64 0,.bool false].toArray∧cA (dD n) S H H' w)∨(∃x,w.first g x∧v= .tuple [i64 x,.bool true].toArray∧cA (dD n) S H H' (w.put x (0,0,0)))):=by
 refine aZ qY ?_
 refine vs ?_
 refine(qh h g).mono ?_
 rintro _ _ ⟨⟨h0,rfl⟩| ⟨x,hx,rfl⟩,rfl⟩
 ·refine vs ?_
  exact .inl ⟨h0,rfl,cA.same h (ag.refl _ _)⟩
 ·refine vs ?_
  refine(w9 h x).mono ?_
  rintro _ H1 (⟨bS,_,_⟩| ⟨_,rfl,h1⟩)
  ·exact absurd (bC.1 (by have:=bH.1 hx;omega)) bS
  refine vs ?_
  exact .inr ⟨x,hx,rfl,h1⟩
theorem JX(n:Nat):xu (.iface 166 (ptr n)) (dD n) where
 slt h:=h.slt
 ext h e hd:=h.ext e hd
 cells:=by
  rintro H S w ⟨B,C,L,rs,tops,rfl,m,l,hS⟩
  exact⟨B.c,C,m.cells⟩
 has:=by
  rintro H S w g ⟨B,C,L,rs,tops,rfl,m,l,hS⟩
  obtain⟨tv,ho,_⟩:=m.own
  exact⟨_,_,bu,ptr B.c,rfl,fG (off:=0) (by kernel_rfl) (ae ho) rfl,(ik m.cells g).mono fun v H' hp=>hp⟩
 make:=by
  intro H S w h
  exact⟨_,_,lI,ptr n,rfl,br (by kernel_rfl),(Bg h).mono fun v H' hp=>hp⟩
 insert:=by
  intro H S w g x k s h
  exact⟨_,_,jm,ptr n,rfl,br (by kernel_rfl),(wZ h g x k s).mono fun v H' hp=>hp⟩
 min:=by
  intro H S w g h
  refine⟨_,_,mM,ptr n,rfl,br (by kernel_rfl),(qh h g).mono ?_⟩
  rintro v H' ⟨⟨h1,rfl⟩| ⟨x,h1,rfl⟩,rfl⟩
  ·exact .inl ⟨h1,rfl,cA.same h (ag.refl _ _)⟩
  ·exact .inr ⟨x,h1,rfl,cA.same h (ag.refl _ _)⟩
 extract:=by
  intro H S w g h
  exact⟨_,_,iG,ptr n,rfl,br (by kernel_rfl),(uR h g).mono fun v H' hp=>hp⟩
 nl:=by
  intro H S w x k s h
  exact⟨_,_,hZ,ptr n,rfl,br (by kernel_rfl),(tz h x k s).mono fun v H' hp=>hp⟩
 entry:=by
  rintro H S w x ⟨B,C,L,rs,tops,rfl,m,l,hS⟩
  obtain⟨tv,ho,_⟩:=m.own
  refine⟨_,_,ba,ptr B.c,rfl,fG (off:=0) (by kernel_rfl) (ae ho) rfl,(gB m.cells x).mono ?_⟩
  rintro v H' ⟨c1,f,hv⟩
  exact⟨⟨B,C,L,rs,tops,rfl,m.fresh f,l,hS⟩,f,hv⟩
theorem dL:cQ 2:=⟨by omega,by omega⟩
def swp(l:List Int)(i j:Nat):List Int:=(l.set i (l.getD j 0)).set j (l.getD i 0)
theorem fS(l:List Int)(i j:Nat):(swp l i j).length=l.length:=by unfold swp;simp
theorem Bi{l:List Int}{i j:Nat}(hi:i<l.length)(hj:j<l.length)(k:Nat):(swp l i j).getD k 0=if k=j then l.getD i 0 else if k=i then l.getD j 0 else l.getD k 0:=by
 unfold swp
 rw[dB _ _ _ _ (by simpa using hj),dB _ _ _ _ hi]
 by_cases h1:j=k
 ·subst h1;simp
 ·rw[if_neg h1,if_neg (Ne.symm h1)]
  by_cases h2:i=k
  ·subst h2;simp
  ·rw[if_neg h2,if_neg (Ne.symm h2)]
theorem mq{l:List Int}{i j:Nat}(hi:i<l.length)(hj:j<l.length)(k:Nat):(swp l i j)[k]? =if k=j then l[i]? else if k=i then l[j]? else l[k]? :=by
 have hl:=fS l i j
 have hg:=Bi hi hj k
 by_cases hk:k<l.length
 ·rw[aop (by omega)]
  rw[aou,aop (by omega)]at hg
  simp only[Option.getD_some]at hg
  rw[hg]
  have e:∀q,q<l.length→l[q]? =some (l.getD q 0):=fun q hq=>by rw[aou,aop hq];rfl
  split
  ·rw[e i hi]
  ·split
   ·rw[e j hj]
   ·rw[e k hk]
 ·rw[aoC (by omega),if_neg (by omega),if_neg (by omega),aoC (by omega)]
theorem U5{l:List Int}{i j:Nat}(hi:i<l.length)(hj:j<l.length)(z:Int):z∈swp l i j↔z∈l:=by
 constructor
 ·intro h
  obtain⟨k,hk⟩:=aoN h
  rw[mq hi hj]at hk
  split at hk
  ·exact aow hk
  ·split at hk
   ·exact aow hk
   ·exact aow hk
 ·intro h
  obtain⟨k,hk⟩:=aoN h
  by_cases h1:k=i
  ·subst h1
   refine aow (i:=j) ?_
   rw[mq hi hj,if_pos rfl,hk]
  ·by_cases h2:k=j
   ·subst h2
    refine aow (i:=i) ?_
    rw[mq hi hj]
    by_cases h3:i=k
    ·exact absurd h3.symm h1
    ·rw[if_neg h3,if_pos rfl,hk]
   ·refine aow (i:=k) ?_
    rw[mq hi hj,if_neg h2,if_neg h1,hk]
theorem Mh{l:List Int}{i j m:Nat}(hi:i<m)(hj:j<m)(hm:m≤l.length):(swp l i j).take m=swp (l.take m) i j:=by
 apply ao7
 intro k
 rw[mq (by rw[aoS];omega) (by rw[aoS];omega),aoU,mq (by omega) (by omega),aoU,aoU,aoU]
 rw[if_pos hi,if_pos hj]
 by_cases hk:k<m
 ·simp only[if_pos hk]
 ·simp only[if_neg hk,if_neg (show k≠j by omega),if_neg (show k≠i by omega)]
theorem S0{l:List Int}{i j m:Nat}(hi:i<m)(hj:j<m)(hm:m≤l.length):(swp l i j).drop m=l.drop m:=by
 apply ao7
 intro k
 rw[aoX,aoX,mq (by omega) (by omega),if_neg (by omega),if_neg (by omega)]
theorem dG.heap{lt:Int→Int→Bool}{l:List Int}{i:Nat}(h:dG lt 2 l i)(hB:∀j,1≤j→j<l.length→pa 2 j=i→lt (l.getD j 0) (l.getD i 0)=false)
  (hD:1≤i→i<l.length→lt (l.getD i 0) (l.getD (pa 2 i) 0)=false):eI lt 2 l:=by
 intro j h1 h2
 by_cases e1:j=i
 ·subst e1;exact hD h1 h2
 ·by_cases e2:pa 2 j=i
  ·rw[e2];exact hB j h1 h2 e2
  ·exact h.1 j h1 h2 e1 e2
theorem Yc{lt:Int→Int→Bool}(ho:bk lt){l:List Int}{i:Nat}(hi:1≤i)(hl:i<l.length)(hA:dG lt 2 l i)(hB:∀j,1≤j→j<l.length→pa 2 j=i→lt (l.getD j 0) (l.getD i 0)=false)
  (aK:lt (l.getD i 0) (l.getD (pa 2 i) 0)=true):dG lt 2 (swp l (pa 2 i) i) (pa 2 i)∧∀j,1≤j→j< (swp l (pa 2 i) i).length→pa 2 j=pa 2 i→lt ((swp l (pa 2 i) i).getD j 0) ((swp l (pa 2 i) i).getD (pa 2 i) 0)=false:=by
 have hp:=cH dL hi
 have g:=Bi (l:=l) (i:=pa 2 i) (j:=i) (by omega) hl
 rw[fS]
 have aga:∀j,1≤j→j<l.length→pa 2 j=pa 2 i→j≠i→lt (l.getD j 0) (l.getD i 0)=false:=fun j h1 h2 h3 h4=>by
  have e4:=hA.1 j h1 h2 h4 (by omega)
  rw[h3]at e4
  cases hx:lt (l.getD j 0) (l.getD i 0)with
  |false=>rfl
  |true=>have:=ho.tr _ _ _ hx aK;rw[this]at e4;cases e4
 refine⟨⟨fun j h1 h2 h3 h4=>?_,fun j h1 h2 h3 h4=>?_⟩,fun j h1 h2 h3=>?_⟩
 ·rw[fS]at h2
  have XW:=cH dL h1
  rw[g,g,if_neg h4]
  by_cases e1:j=i
  ·subst e1;exact absurd rfl h4
  ·rw[if_neg e1,if_neg h3]
   by_cases e2:pa 2 j=i
   ·rw[if_pos e2]
    exact hA.2 j h1 h2 e2 (by omega)
   ·rw[if_neg e2];exact hA.1 j h1 h2 e1 e2
 ·rw[fS]at h2
  have Qq:=cH dL h4
  rw[g,g,if_neg (show pa 2 (pa 2 i)≠i by omega),if_neg (show pa 2 (pa 2 i)≠pa 2 i by omega)]
  have e3:=hA.1 (pa 2 i) h4 (by omega) (by omega) (by omega)
  by_cases e1:j=i
  ·rw[if_pos e1];exact e3
  ·have XW:=cH dL h1
   rw[if_neg e1,if_neg (by omega)]
   have e4:=hA.1 j h1 h2 e1 (by omega)
   rw[h3]at e4
   exact ho.nt _ _ _ e4 e3
 ·have XW:=cH dL h1
  rw[g,g,if_neg (show pa 2 i≠i by omega),if_pos rfl]
  by_cases e1:j=i
  ·rw[if_pos e1];exact ho.asym aK
  ·rw[if_neg e1,if_neg (by omega)]
   exact aga j h1 h2 h3 e1
theorem S5{lt:Int→Int→Bool}(ho:bk lt){l:List Int}{i b:Nat}(hb:1≤b)(hl:b<l.length)(hp:pa 2 b=i)(hA:dG lt 2 l i)(rB:∀j,1≤j→j<l.length→pa 2 j=i→lt (l.getD j 0) (l.getD b 0)=false)
  (aK:lt (l.getD b 0) (l.getD i 0)=true):dG lt 2 (swp l i b) b∧lt ((swp l i b).getD b 0) ((swp l i b).getD (pa 2 b) 0)=false:=by
 have NK:=cH dL hb
 have g:=Bi (l:=l) (i:=i) (j:=b) (by omega) hl
 refine⟨⟨fun j h1 h2 h3 h4=>?_,fun j h1 h2 h3 h4=>?_⟩,?_⟩
 ·rw[fS]at h2
  have XW:=cH dL h1
  rw[g,g,if_neg h3,if_neg h4]
  by_cases e1:j=i
  ·subst e1
   rw[if_pos rfl,if_neg (by omega)]
   exact hA.2 b hb hl hp h1
  ·rw[if_neg e1]
   by_cases e2:pa 2 j=i
   ·rw[if_pos e2];exact rB j h1 h2 e2
   ·rw[if_neg e2];exact hA.1 j h1 h2 e1 e2
 ·rw[fS]at h2
  have XW:=cH dL h1
  rw[g,g,if_neg (show j≠b by omega),if_neg (show j≠i by omega),if_neg (show pa 2 b≠b by omega),if_pos hp]
  have:=hA.1 j h1 h2 (by omega) (by omega)
  rw[h3]at this
  exact this
 ·rw[g,g,if_pos rfl,hp,if_neg (show i≠b by omega),if_pos rfl]
  exact ho.asym aK
def mr(l at_:List Int):Prop:=∀ (i:Nat) (x:Int),l[i]? =some x→0≤x∧at_[x.toNat]? =some (i:Int)
theorem mr.F3{l at_:List Int}(h:mr l at_){i j:Nat}{x:Int}(hi:l[i]? =some x)(hj:l[j]? =some x):i=j:=by
 have h1:=(h i x hi).2
 have h2:=(h j x hj).2
 rw[h1]at h2
 injection h2 with h2
 omega
def Bj(l at_:List Int)(i j:Nat):List Int:=(at_.set (l.getD j 0).toNat i).set (l.getD i 0).toNat j
theorem mr.swp{l at_:List Int}(h:mr l at_){i j:Nat}(hi:i<l.length)(hj:j<l.length)(Hd:i≠j):mr (swp l i j) (Bj l at_ i j)∧(Bj l at_ i j).length=at_.length∧∀z:Int,0≤z→z∉l→(Bj l at_ i j)[z.toNat]? =at_[z.toNat]? :=by
 have e:∀q,q<l.length→l[q]? =some (l.getD q 0):=fun q hq=>by rw[aou,aop hq];rfl
 obtain⟨a0,a1⟩:=h i _ (e i hi)
 obtain⟨b0,b1⟩:=h j _ (e j hj)
 have Yd:=(aoq.1 a1).1
 have TW:=(aoq.1 b1).1
 have aQ:(l.getD i 0).toNat≠(l.getD j 0).toNat:=fun h0=>by
  rw[h0,b1]at a1
  injection a1 with a1
  omega
 unfold Bj
 refine⟨fun k x hk=>?_,by simp,fun z hz hm=>?_⟩
 ·rw[mq hi hj]at hk
  split at hk
  ·rename_i ZM
   rw[e i hi]at hk
   injection hk with hk
   subst hk
   rw[aox (by simpa using Yd),ZM]
   exact⟨a0,rfl⟩
  ·split at hk
   ·rename_i ZM hki
    rw[e j hj]at hk
    injection hk with hk
    subst hk
    rw[aov aQ,aox TW,hki]
    exact⟨b0,rfl⟩
   ·rename_i ZM hki
    obtain⟨c0,c1⟩:=h k x hk
    have n1:(l.getD i 0).toNat≠x.toNat:=fun h0=>by
     rw[h0,c1]at a1;injection a1 with a1;omega
    have n2:(l.getD j 0).toNat≠x.toNat:=fun h0=>by
     rw[h0,c1]at b1;injection b1 with b1;omega
    rw[aov n1,aov n2]
    exact⟨c0,c1⟩
 ·have n1:(l.getD i 0).toNat≠z.toNat:=fun h0=>hm (by rw[show z=l.getD i 0 by omega];exact aow (e i hi))
  have n2:(l.getD j 0).toNat≠z.toNat:=fun h0=>hm (by rw[show z=l.getD j 0 by omega];exact aow (e j hj))
  rw[aov n1,aov n2]
theorem pa2(j:Nat):((pa 2 j:Nat):Int)=if j=0 then 0 else((j:Int) - 1) / 2:=by
 unfold pa
 split
 ·rename_i h;subst h;rfl
 ·omega
end Go.Proofs.YthpjfeolagohkaaGreat
