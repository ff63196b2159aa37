/- Texts put behind each other. -/
import Derived.Test.YthpjfeolagohkaaGreatK98
import Derived.Test.YthpjfeolagohkaaGreatK28
import Derived.Test.YthpjfeolagohkaaGreatK29
import Derived.Test.YthpjfeolagohkaaGreatK31
set_option maxRecDepth 100000
set_option maxHeartbeats 8000000
set_option linter.unusedVariables false
set_option linter.unusedSimpArgs false
namespace Go.Proofs.YthpjfeolagohkaaGreat
open Go Go.Vc
structure Tj(w:Nw)(L:List Lk)(tops:List Int):Prop where
 bt:BO (aG w) (aQ w) (aZ L) (bk L) (bi tops)
 tl:tops.length=w.hs.length
def dV(n:Nat)(H:Hp)(S:Nat→Prop)(w:Nw):Prop:=∃ (B:LB) (C:Nat→Prop) (L:List Lk) (rs tops:List Int),B.n=n∧dh H B C w L rs tops∧Tj w L tops∧∀z,S z↔B.S C z
theorem dV.slt{n:Nat}{H:Hp}{S:Nat→Prop}{w:Nw}(h:dV n H S w):∀z,S z→z<H.size:=by
 obtain⟨B,C,L,rs,tops,rfl,m,l,hS⟩:=h
 exact fun z hz=>m.slt z ((hS z).1 hz)
theorem dV.ext{n:Nat}{H H':Hp}{S T:Nat→Prop}{w:Nw}(h:dV n H S w)(e:ag T H H')(hd:∀z,S z→¬T z):dV n H' S w:=by
 obtain⟨B,C,L,rs,tops,rfl,m,l,hS⟩:=h
 exact⟨B,C,L,rs,tops,rfl,m.ext e (fun z hz=>hd z ((hS z).2 hz)),l,hS⟩
theorem xY{n:Nat}{H:Hp}{S:Nat→Prop}{w:Nw}(h:dV n H S w)(g x k s:Int):af Tryz.prog jL [ptr n,i64 g,i64 x,uw k s] H fun v H'=>ax (
  (¬w.lU g x∧v= .bool false∧cF (dV n) S H H' w)∨(w.lU g x∧v= .bool true∧cF (dV n) S H H' (w.put x (g,k,s)))):=by
 obtain⟨B,C,L,rs,tops,rfl,m,l,hS⟩:=h
 refine EL uq ⟨rfl,?_⟩
 refine v1 jU.eq_1 ?_
 have f0:ah H (H.new 182 [i64 k,u64 s]):=(ag.refl _ _).new _ _
 have b0:(H.new 182 [i64 k,u64 s]).own H.size=some [i64 k,u64 s]:=az _ _ _
 have m0:=m.fresh f0
 generalize H.new 182 [i64 k,u64 s]=H0 at*
 obtain⟨tv,IS,_⟩:=m0.own
 refine v2 (ae IS) (ae b0) ?_
 refine(lz m0.cells g x k s).mono ?_
 rintro _ H1 (⟨bO,rfl,c1,e1⟩| ⟨rq,rfl,c1,e1⟩)
 ·refine vs ?_
  exact .inl ⟨bO,rfl,cF.same ⟨B,C,L,rs,tops,rfl,m0.aI c1 e1 rfl,l,hS⟩ ((f0.mono fun _ _ h=>h.elim).trans (e1.mono fun z _ hz=>(hS z).2 (.inl hz)))⟩
 obtain⟨hh,hx,bH⟩:=id rq
 have m1:=m0.aI c1 e1 (by simp[Nw.put])
 have bf:=m1.len
 have lJ:(w.put x (g,k,s)).cs.length=w.cs.length:=by simp[Nw.put]
 obtain⟨DO,o1,_⟩:=m1.own
 refine v1 (ae o1) ?_
 refine⟨⟨by omega,by omega⟩,?_⟩
 refine v3 m1.DN aqa aqd ?_
 refine⟨by rw[aqr];omega,?_⟩
 refine vs ?_
 obtain⟨m2,e2⟩:dh (H1.wr B.rk ((rs.map i64).set x.toNat (Value.int .i64 1))) B C _ L (rs.set x.toNat 1) tops∧ag (fun z=>z=B.rk) H1 (H1.wr B.rk ((rs.map i64).set x.toNat (Value.int .i64 1))):=m1.OJ x.toNat 1
 generalize H1.wr B.rk ((rs.map i64).set x.toNat (Value.int .i64 1))=H2 at*
 obtain⟨cc,lt,o2,q2,sI,ww,PQ⟩:=m2.gm
 refine gP.intro (fun H'=>H'.own B.n=some [ptr B.c,ptr B.t,.slice (some ⟨B.rk,0,none⟩) (rs.set x.toNat 1).length (rs.set x.toNat 1).length,.slice (some ⟨B.tp,0,none⟩) tops.length cc]) o2 ?_
 refine vs ?_
 refine dP.intro (.slice (some ⟨B.tp,0,none⟩) tops.length cc) (fun H' hI=>by refine v1 (ae hI) ?_;trivial) ?_
 refine v1 (ae o2) ?_
 have hg:=hh.1
 have dI:g<tops.length:=by
  have:=(aqc.1 hh.2).1
  have:=l.tl
  omega
 have q3:=m2.fC q2 (eJ (tops:=tops) (h:=g) (by omega) dI)
 have cU:=fun y=>eI hx (g,k,s) y
 have bo:U5 (aG (w.put x (g,k,s))) (aQ (w.put x (g,k,s))) (aZ L) (bk L) (bi tops) g x:=by
  refine l.bt.ins rfl (Int.not_lt.1 fun h=>bH (bA.1 h)) (by omega) (by omega) (by rw[cU,if_pos rfl]) (fun y hy=>by rw[cU,if_neg hy]) (fun a b ha hb uH mI=>dU hx _ ha hb uH mI)
 refine And.intro o2 ?_
 refine vs ?_
 refine⟨⟨by omega,by omega⟩,?_⟩
 refine v4 (ae q2) aqa aqd q3 ?_
 refine And.intro o2 ?_
 refine vs ?_
 refine(iy m2 bo.mg).mono ?_
 rintro _ H3 ⟨r,L3,rs3,rfl,m3,g3,_,e3⟩
 have bn:=bo.done g3
 obtain⟨d1,d2,d3,d4⟩:=m2.mG.1
 have no:¬ (C B.n∨B.n=B.tl∨B.n=B.rk):=by rintro(h|h|h);exact m2.out.1 h;omega;omega
 refine And.intro (e3.own o2 no) ?_
 have q4:=e3.own q2 (by obtain⟨_,⟨_,_,d7⟩,⟨_,d9⟩,d10⟩:=m2.mG;rintro(h|h|h);exact m2.out.2.2.2.2 h;omega;omega)
 refine vs ?_
 refine⟨⟨by omega,by omega⟩,?_⟩
 refine v3 q4 aqa aqd ?_
 refine⟨by omega,?_⟩
 obtain⟨m4,e4⟩:=m3.lC q4 g.toNat r
 refine And.intro (e4.own (e3.own o2 no) d4) ?_
 refine vs ?_
 refine .inr ⟨rq,rfl,B.S C,⟨B,C,L3,rs3,_,rfl,m4,⟨?_,by rw[aqe];exact l.tl⟩,fun z=>Iff.rfl⟩,?_,fun z hz=>.inl ((hS z).2 hz)⟩
 ·rw[eZ (by omega) dI]
  exact bn
 ·have hC:∀z,C z→S z:=fun z h=>(hS z).2 (.inl h)
  have h1:S B.tl:=(hS _).2 (.inr (.inr (.inr (.inl rfl))))
  have h2:S B.rk:=(hS _).2 (.inr (.inr (.inr (.inr (.inl rfl)))))
  have h3:S B.tp:=(hS _).2 (.inr (.inr (.inr (.inr (.inr rfl)))))
  exact(((((f0.mono fun _ _ h=>h.elim).trans (e1.mono fun z _ h=>hC z h)).trans (e2.mono fun z _ h=>h▸h2)).trans (e3.mono fun z _ h=>by rcases h with h|rfl|rfl;exact hC z h;exact h1;exact h2)).trans (e4.mono fun z _ h=>h▸h3))
theorem BO.none{hm:Int→Int}{lt:Int→Int→Bool}{K:Int→Bool→Int}{U T:Int→Int}(h0:hm (-1)=0)(hh:∀x,¬0<hm x)(hk:∀x c,K x c= -1)(hu:∀x,U x= -1)(ht:∀g,T g= -1):BO hm lt K U T:=
 ⟨⟨h0,fun p c x h hx=>absurd (h.symm.trans (hk p c)) hx,fun x p h hp=>absurd (h.symm.trans (hu x)) hp,fun p _=>hk p _⟩,fun g h=>absurd (ht g) h,fun x hx=>absurd hx (hh x)⟩
theorem Ca(n:Nat)(x:Int)(c:Bool):aZ (List.replicate n jF) x c= -1:=by
 by_cases h:0≤x∧x< (List.replicate n jF).length
 ·have h2:=h.2
  rw[aqV]at h2
  rw[pP (y:=jF) h.1 (by rw[arp,if_pos (by omega)])]
  cases c<;>rfl
 ·exact S0 h c
theorem G7(n:Nat)(x:Int):bk (List.replicate n jF) x= -1:=by
 by_cases h:0≤x∧x< (List.replicate n jF).length
 ·have h2:=h.2
  rw[aqV]at h2
  rw[vJ (y:=jF) h.1 (by rw[arp,if_pos (by omega)])]
  rfl
 ·exact OH h
def As(cap:Int):Nw:=⟨[false],List.replicate cap.toNat (0,0,0)⟩
theorem lE(cap:Int)(x:Int):¬0<aG (As cap) x:=by
 intro h
 obtain⟨h1,h2,e,he⟩:=aF h
 have h3:(List.replicate cap.toNat ((0,0,0):Ce))[x.toNat]? =some (aG (As cap) x,e):=he
 have:=arf (aqg h3)
 injection this with h4 h5
 omega
theorem DR(g:Int):bi [-1] g= -1:=by
 unfold bi
 split
 ·rw[aqf]
  rcases hg:g.toNat with _|k
  ·rfl
  ·rfl
 ·rfl
theorem Cb(k:Nat):aV [Value.int .i64 0] k=(List.replicate k (0:Int)).map i64:=by
 induction k with
 |zero=>rfl
 |succ k ih=>simp only[aV,aqQ,aq4,aqY]at*;rw[ih];rfl
theorem DS(cap:Int)(H:Hp):af Tryz.prog Ik [i64 cap] H fun v H'=>ax (
  ah H H'∧((¬ (0≤cap∧cap≤65536)∧v= .tuple [.pointer none,i64 31].toArray)∨
   ((0≤cap∧cap≤65536)∧∃n S,v= .tuple [ptr n,i64 0].toArray∧dV n H' S (As cap)∧∀x,S x→H.size≤x))):=by
 refine bm Iz ?_
 refine vs ?_
 refine(lA cap H).mono ?_
 rintro _ H1 ⟨f1,⟨hb,rfl⟩| ⟨hb,c,C,rfl,c1,hC⟩⟩
 ·refine vs ?_
  exact⟨f1,.inl ⟨hb,rfl⟩⟩
 refine v1 aqZ ?_
 refine(vK H1 hb).mono ?_
 rintro _ H2 ⟨t,tl,rfl,t2,f2,ht,Nt⟩
 refine vs ?_
 refine⟨⟨by omega,by omega,by omega,by omega⟩,?_⟩
 refine vs ?_
 rw[Cb]
 have yJ:=c1.slt
 have z1:=f1.size
 have z2:=f2.size
 have HR:=aB t2.own
 have YO:=aB t2.lB
 have f3:ah H2 (((H2.new 3 ((List.replicate cap.toNat (0:Int)).map i64)).new 3 [Value.int .i64 (-1)]).new 241 [ptr c,ptr t,.slice (some ⟨H2.size,0,none⟩) cap.toNat cap.toNat,.slice (some ⟨H2.size+1,0,none⟩) 1 1]):=(((ag.refl _ _).new _ _).new _ _).new _ _
 have e1:ag (fun _=>False) (H2.new 3 ((List.replicate cap.toNat (0:Int)).map i64)) (((H2.new 3 ((List.replicate cap.toNat (0:Int)).map i64)).new 3 [Value.int .i64 (-1)]).new 241 [ptr c,ptr t,.slice (some ⟨H2.size,0,none⟩) cap.toNat cap.toNat,.slice (some ⟨H2.size+1,0,none⟩) 1 1]):=((ag.refl _ _).new _ _).new _ _
 have e2:ag (fun _=>False) ((H2.new 3 ((List.replicate cap.toNat (0:Int)).map i64)).new 3 [Value.int .i64 (-1)]) (((H2.new 3 ((List.replicate cap.toNat (0:Int)).map i64)).new 3 [Value.int .i64 (-1)]).new 241 [ptr c,ptr t,.slice (some ⟨H2.size,0,none⟩) cap.toNat cap.toNat,.slice (some ⟨H2.size+1,0,none⟩) 1 1]):=(ag.refl _ _).new _ _
 have ft:=f1.trans (f2.trans f3)
 refine⟨ft,.inr ⟨hb,H2.size+1+1,(LB.mk (H2.size+1+1) c t tl H2.size (H2.size+1)).S C,rfl,⟨⟨H2.size+1+1,c,t,tl,H2.size,H2.size+1⟩,C,_,List.replicate cap.toNat 0,[-1],rfl,
  ⟨⟨.slice (some ⟨H2.size+1,0,none⟩) 1 1,?_,?_⟩,c1.fresh (f2.trans f3),t2.fresh f3,?_,?_,?_,?_⟩,⟨BO.none rfl (lE cap) (Ca _) (G7 _) DR,rfl⟩,fun z=>Iff.rfl⟩,fun z hz=>?_⟩⟩
 ·rw[aqV]
  exact bz (by simp only[am])
 ·exact(Sl.bU (size:=1) (n:=1) (xs:=[i64 (-1)]) rfl (by simp only[am])).ext e2 (fun _ _ h=>h)
 ·exact e1.own (az _ _ _) (fun h=>h)
 ·simp[As]
 ·have:=t2.ne
  refine⟨⟨?_,?_,?_,?_⟩,⟨?_,?_,?_⟩,⟨?_,?_⟩,?_⟩<;>simp only<;>omega
 ·refine⟨fun h=>?_,fun h=>?_,fun h=>?_,fun h=>?_,fun h=>?_⟩<;>(have h2:=yJ _ h;first|omega| (simp only at h2;omega))
 ·rcases hz with hz|rfl|rfl|rfl|rfl|rfl
  ·exact hC z hz
  all_goals first|omega| (simp only;omega)
theorem Cc{n:Nat}{H:Hp}{S:Nat→Prop}{w:Nw}(h:dV n H S w):af Tryz.prog mq [ptr n] H fun v H'=>ax (
  (w.hs.length=65537∧v=i64 0∧cF (dV n) S H H' w)∨(w.hs.length≠65537∧v=i64 w.hs.length∧cF (dV n) S H H' w.make)):=by
 obtain⟨B,C,L,rs,tops,rfl,m,l,hS⟩:=id h
 obtain⟨tv,ho,AL⟩:=m.own
 refine bm xM ?_
 refine v1 (ae ho) ?_
 refine(js m.cells).mono ?_
 rintro _ H1 (⟨h1,rfl,rfl⟩| ⟨h1,rfl,C',c1,e1,Au⟩)
 ·refine vs ?_
  exact .inl ⟨h1,rfl,cF.same h (ag.refl _ _)⟩
 have gA:=m.cells.pos
 have hhs:=m.cells.AL
 have Nt:=l.tl
 have slt:=m.slt
 have M3:=c1.slt
 obtain⟨n1,n2,n3,n4,n5⟩:=m.out
 obtain⟨⟨d1,d2,d3,d4⟩,⟨d5,d6,d7⟩,⟨d8,d9⟩,d10⟩:=m.mG
 have o1:=e1.own ho n1
 refine vs ?_
 refine ar.cP (aqp (by omega)) ?_
 refine v1 (ae o1) ?_
 have s1:=AL.ext e1 (fun b hb=>by injection hb with hb;exact hb▸n5)
 refine SE s1 (-1) (by omega) fun w' H2 b' lI s2 e2=>?_
 have o2:=e2.own o1 d4
 obtain⟨wa,wc,PR⟩:=Sl.shape s2
 subst PR
 refine v1 o2 ?_
 generalize PR:Value.slice wa (tops++[-1]).length wc=w' at*
 have e3:ag (fun z=>z=B.n) H2 (H2.wr B.n [ptr B.c,ptr B.t,.slice (some ⟨B.rk,0,none⟩) rs.length rs.length,w']):=(ag.refl (fun z=>z=B.n) _).wr (fun _=>rfl) _
 have z1:=e1.size
 have sl:∀z,z=B.n∨z=B.t∨z=B.tl∨z=B.rk∨z=B.tp→z<H.size:=fun z hz=>slt z (.inr hz)
 have hn:=sl _ (.inl rfl)
 have ht:=sl _ (.inr (.inl rfl))
 have YO:=sl _ (.inr (.inr (.inl rfl)))
 have hrk:=sl _ (.inr (.inr (.inr (.inl rfl))))
 have htp:=sl _ (.inr (.inr (.inr (.inr rfl))))
 have Ha:∀z,C' z→z≠b'∧(z<H.size→C z):=fun z hz=>by
  have h5:=M3 z hz
  rcases Au z hz with h6|h6
  ·refine⟨fun e=>?_,fun _=>h6⟩
   rcases lI with h7|h7
   ·exact n5 (by rw[←h7,←e];exact h6)
   ·omega
  ·exact⟨by omega,fun h=>by omega⟩
 refine .inr ⟨h1,rfl,(LB.mk B.n B.c B.t B.tl B.rk b').S C',⟨⟨B.n,B.c,B.t,B.tl,B.rk,b'⟩,C',L,rs,tops++[-1],rfl,⟨⟨w',ai o2,s2.ext e3 (fun b hb=>by injection hb with hb;omega)⟩,?_,?_,?_,m.len,?_,?_⟩,⟨by rw[B5];exact l.bt,?_⟩,fun z=>Iff.rfl⟩,?_,fun z hz=>?_⟩
 ·exact(c1.ext e2 (fun x hx e=>by
   rcases Au x hx with h6|h6
   ·exact n5 (e▸h6)
   ·omega)).ext e3 (fun x hx e=>by
   rcases Au x hx with h6|h6
   ·exact n1 (e▸h6)
   ·omega)
 ·exact((m.ce.ext e1 n2 n3).ext e2 d7 d9).ext e3 (Ne.symm d1) (Ne.symm d2)
 ·exact e3.own (e2.own (e1.own m.DN n4) d10) (Ne.symm d3)
 ·refine⟨⟨d1,d2,d3,?_⟩,⟨d5,d6,?_⟩,⟨d8,?_⟩,?_⟩<;>simp only<;>omega
 ·refine⟨fun h=>?_,fun h=>?_,fun h=>?_,fun h=>?_,fun h=>?_⟩
  ·exact n1 ((Ha _ h).2 hn)
  ·exact n2 ((Ha _ h).2 ht)
  ·exact n3 ((Ha _ h).2 YO)
  ·exact n4 ((Ha _ h).2 hrk)
  ·exact(Ha _ h).1 rfl
 ·simp[Nw.make,Nt]
 ·exact((e1.mono fun z _ h=>(hS z).2 (.inl h)).trans (e2.mono fun z _ h=>(hS z).2 (.inr (.inr (.inr (.inr (.inr h))))))).trans (e3.mono fun z _ h=>(hS z).2 (.inr (.inl h)))
 ·rcases hz with hz|rfl|rfl|rfl|rfl|rfl
  ·rcases Au z hz with h6|h6
   ·exact .inl ((hS z).2 (.inl h6))
   ·exact .inr h6
  ·exact .inl ((hS _).2 (.inr (.inl rfl)))
  ·exact .inl ((hS _).2 (.inr (.inr (.inl rfl))))
  ·exact .inl ((hS _).2 (.inr (.inr (.inr (.inl rfl)))))
  ·exact .inl ((hS _).2 (.inr (.inr (.inr (.inr (.inl rfl))))))
  ·rcases lI with rfl|h7
   ·exact .inl ((hS _).2 (.inr (.inr (.inr (.inr (.inr rfl))))))
   ·exact .inr (by first|omega| (simp only;omega))
theorem Tj.first{w:Nw}{L:List Lk}{tops:List Int}(l:Tj w L tops){g x:Int}(h:w.first g x):bi tops g=x:=by
 obtain⟨h1,h2,h3⟩:=bQ.1 h
 have:=l.bt.first (x:=x) (by omega) (fun y hy aR=>h3 y (by omega) aR) (aw w)
 rwa[h2]at this
theorem ry{n:Nat}{H:Hp}{S:Nat→Prop}{w:Nw}(h:dV n H S w)(g:Int):af Tryz.prog nF [ptr n,i64 g] H fun v H'=>ax (
  ((w.len g=0∧v= .tuple [i64 0,.bool false].toArray)∨∃x,w.first g x∧v= .tuple [i64 x,.bool true].toArray)∧H'=H):=by
 obtain⟨B,C,L,rs,tops,rfl,m,l,hS⟩:=h
 obtain⟨cc,lt,ho,q2,sI,ww,PQ⟩:=m.gm
 refine bm Aa ?_
 refine v1 (ae ho) ?_
 refine(vI m.cells g).mono ?_
 rintro _ _ ⟨rfl,rfl⟩
 refine vs ?_
 refine ar.dec (fun h0=>?_) (fun h0=>?_)
 ·refine vs ?_
  exact⟨.inl ⟨h0,rfl⟩,rfl⟩
 have hg:0<g:=aqt fun hg=>h0 (Nw.IN.2 (.inl (by omega)))
 obtain⟨x,hx⟩:=vH hg h0
 have hh:=(bQ.1 hx).2.1
 have dI:=((m.cells.hm x).2 (by omega)).2
 rw[hh,←l.tl]at dI
 have q3:=m.fC q2 (eJ (tops:=tops) (h:=g) (by omega) dI)
 rw[l.first hx]at q3
 refine v1 (ae ho) ?_
 refine⟨⟨by omega,by omega⟩,?_⟩
 refine v4 (ae q2) aqa aqd q3 ?_
 exact⟨.inr ⟨x,hx,rfl⟩,rfl⟩
theorem uC{n:Nat}{H:Hp}{S:Nat→Prop}{w:Nw}(h:dV n H S w)(x k s:Int):af Tryz.prog iG [ptr n,i64 x,uw k s] H fun v H'=>ax (
  (¬w.dm x k s∧v= .bool false∧cF (dV n) S H H' w)∨(w.dm x k s∧v= .bool true∧∃y,w.cs[x.toNat]? =some y∧cF (dV n) S H H' (w.put x (y.1,k,s)))):=by
 obtain⟨B,C,L,rs,tops,rfl,m,l,hS⟩:=h
 refine EL qO ⟨rfl,?_⟩
 refine v1 iI.eq_1 ?_
 have f0:ah H (H.new 182 [i64 k,u64 s]):=(ag.refl _ _).new _ _
 have b0:(H.new 182 [i64 k,u64 s]).own H.size=some [i64 k,u64 s]:=az _ _ _
 have m0:=m.fresh f0
 generalize H.new 182 [i64 k,u64 s]=H0 at*
 obtain⟨tv,IS,_⟩:=m0.own
 refine v2 (ae IS) (ae b0) ?_
 refine(gW m0.cells x k s).mono ?_
 have hC:∀z,C z→S z:=fun z h=>(hS z).2 (.inl h)
 have ff:ag S H H0:=f0.mono fun _ _ h=>h.elim
 rintro _ H1 (⟨bO,rfl,c1,e1⟩| ⟨bH,rfl,y,hy,fR,c1,e1⟩)
 ·refine vs ?_
  exact .inl ⟨bO,rfl,cF.same ⟨B,C,L,rs,tops,rfl,m0.ext e1 (fun _ _ h=>h),l,hS⟩ (ff.trans (e1.mono fun _ _ h=>h.elim))⟩
 have lJ:(w.put x (y.1,k,s)).cs.length=w.cs.length:=by simp[Nw.put]
 have m1:=m0.aI c1 e1 lJ
 have Cd:w.dm x k s:=⟨bH,fun z hz=>by rw[hy]at hz;injection hz with hz;rw[←hz];exact fR⟩
 have hx:0≤x∧x<w.cs.length:=⟨bH.1,by have:=(aqc.1 hy).1;have:=bH.1;omega⟩
 have RH:aG w x=y.1:=kg bH.1 hy
 have ep:=bA.2 bH
 have hw:aG (w.put x (y.1,k,s))=aG w:=by
  funext z
  rw[eI hx]
  split
  ·rename_i e;rw[e,RH]
  ·rfl
 have Fu:df (w.put x (y.1,k,s)).cs x:=bA.1 (by rw[hw];exact ep)
 obtain⟨DO,o1,_⟩:=m1.own
 refine v1 (ae o1) ?_
 refine(dH m1.cells x).mono ?_
 rintro _ H2 (⟨bO,_,_⟩| ⟨_,rfl,c2,e2⟩)
 ·exact absurd Fu bO
 have m2:=m1.aI c2 e2 rfl
 obtain⟨OK,o2,_⟩:=m2.own
 have pg:ag S H H2:=(ff.trans (e1.mono fun z _ h=>hC z h)).trans (e2.mono fun z _ h=>hC z h)
 have el:∀a b,0<aG w a→0<aG w b→a≠x→b≠x→aQ (w.put x (y.1,k,s)) a b=aQ w a b:=fun a b ha hb uH mI=>dU hx _ ha hb uH mI
 have ex:∀b,0<aG w b→b≠x→aQ w x b=true→aQ (w.put x (y.1,k,s)) x b=true:=fun b hb mI h=>B4 bH hy fR hb mI h
 refine v1 (ae o2) ?_
 refine(cR m2.ce (x:=x) (fun hu=>by have:=B6.up l.bt.bt hu;have:=m2.len.1;omega)).mono ?_
 rintro _ H3 ⟨rfl,L3,t3,l3,k3,u3,e3⟩
 have m3:=m2.dZ t3 e3 l3
 have h1:S B.tl:=(hS _).2 (.inr (.inr (.inr (.inl rfl))))
 have h2:S B.rk:=(hS _).2 (.inr (.inr (.inr (.inr (.inl rfl)))))
 have h3:S B.tp:=(hS _).2 (.inr (.inr (.inr (.inr (.inr rfl)))))
 have Dz:ag S H H3:=pg.trans (e3.mono fun z _ h=>h▸h1)
 unfold gG
 by_cases hu:bk L x= -1
 ·rw[if_pos hu]
  refine vs ?_
  have kk:aZ L3=aZ L:=by rw[k3];unfold jg;rw[if_pos hu]
  have uu:bk L3=bk L:=by
   rw[u3]
   funext z
   unfold di aK
   split
   ·rename_i e;rw[e,hu]
   ·rfl
  refine .inr ⟨Cd,rfl,y,hy,cF.same ⟨B,C,L3,rs,tops,rfl,m3,⟨?_,l.tl⟩,hS⟩ Dz⟩
  rw[hw,kk,uu]
  exact l.bt.U6 ep hu el ex (aw w)
 rw[if_neg hu]
 refine vs ?_
 have bo:=l.bt.low ep hu el ex (aw w)
 rw[←hw,←k3,←u3]at bo
 have CF:=B6.up l.bt.bt hu
 refine(ju m3 bo.bt (x:=bk L x) (fun _=>by rw[hw,CF.2.2.2];exact ep)).mono ?_
 rintro _ H4 ⟨L4,WJ,m4,b4,u4,e4⟩
 have bo4:U5 (aG (w.put x (y.1,k,s))) (aQ (w.put x (y.1,k,s))) (aZ L4) (bk L4) (bi tops) (aG (w.put x (y.1,k,s)) x) x:=⟨b4,by rw[u4];exact bo.t1,by rw[u4];exact bo.t2,by rw[u4];exact bo.ox,bo.nx,bo.g0⟩
 have wF:ag S H H4:=Dz.trans (e4.mono fun z _ h=>by rcases h with rfl|rfl;exact h1;exact h2)
 obtain⟨cc,lt,o4,q2,sI,ww,PQ⟩:=m4.gm
 have dI:aG (w.put x (y.1,k,s)) x<tops.length:=by
  have:=((m4.cells.hm x).2 bo.g0).2
  have e5:(w.put x (y.1,k,s)).hs=w.hs:=rfl
  rw[e5]at this
  have:=l.tl
  omega
 have Tg:=bo.g0
 generalize hg:aG (w.put x (y.1,k,s)) x=g at*
 have q3:=m4.fC q2 (eJ (tops:=tops) (h:=g) (by omega) dI)
 refine vs ?_
 refine gP.intro (fun H'=>H'.own B.n=some [ptr B.c,ptr B.t,.slice (some ⟨B.rk,0,none⟩) WJ.length WJ.length,.slice (some ⟨B.tp,0,none⟩) tops.length cc]) o4 ?_
 refine vs ?_
 refine dP.intro (.slice (some ⟨B.tp,0,none⟩) tops.length cc) (fun H' hI=>by refine v1 (ae hI) ?_;trivial) ?_
 refine v1 (ae o4) ?_
 refine And.intro o4 ?_
 refine vs ?_
 refine⟨⟨by omega,by omega⟩,?_⟩
 refine v4 (ae q2) aqa aqd q3 ?_
 refine And.intro o4 ?_
 refine vs ?_
 refine(iy m4 bo4.mg).mono ?_
 rintro _ H5 ⟨r,L5,rs5,rfl,m5,g5,_,e5⟩
 have bn:=bo4.done g5
 obtain⟨d1,d2,d3,d4⟩:=m4.mG.1
 have no:¬ (C B.n∨B.n=B.tl∨B.n=B.rk):=by rintro(h|h|h);exact m4.out.1 h;omega;omega
 refine And.intro (e5.own o4 no) ?_
 have q4:=e5.own q2 (by obtain⟨_,⟨_,_,d7⟩,⟨_,d9⟩,d10⟩:=m4.mG;rintro(h|h|h);exact m4.out.2.2.2.2 h;omega;omega)
 refine vs ?_
 refine⟨⟨by omega,by omega⟩,?_⟩
 refine v3 q4 aqa aqd ?_
 refine⟨by omega,?_⟩
 obtain⟨m6,e6⟩:=m5.lC q4 g.toNat r
 refine And.intro (e6.own (e5.own o4 no) d4) ?_
 refine vs ?_
 refine .inr ⟨Cd,rfl,y,hy,cF.same ⟨B,C,L5,rs5,_,rfl,m6,⟨?_,by rw[aqe];exact l.tl⟩,hS⟩ ?_⟩
 ·rw[eZ (by omega) dI]
  exact bn
 ·exact(wF.trans (e5.mono fun z _ h=>by rcases h with h|rfl|rfl;exact hC z h;exact h1;exact h2)).trans (e6.mono fun z _ h=>h▸h3)
theorem xZ{n:Nat}{H:Hp}{S:Nat→Prop}{w:Nw}(h:dV n H S w)(x:Int):af Tryz.prog ua [ptr n,i64 x] H fun v H'=>ax (
  (¬df w.cs x∧v= .bool false∧cF (dV n) S H H' w)∨(df w.cs x∧v= .bool true∧cF (dV n) S H H' (w.put x (0,0,0)))):=by
 obtain⟨B,C,L,rs,tops,rfl,m,l,hS⟩:=id h
 have hC:∀z,C z→S z:=fun z h=>(hS z).2 (.inl h)
 have s1:S B.tl:=(hS _).2 (.inr (.inr (.inr (.inl rfl))))
 have s2:S B.rk:=(hS _).2 (.inr (.inr (.inr (.inr (.inl rfl)))))
 have s3:S B.tp:=(hS _).2 (.inr (.inr (.inr (.inr (.inr rfl)))))
 obtain⟨tv,o0,_⟩:=m.own
 refine bm uo ?_
 refine v1 (ae o0) ?_
 refine(dH m.cells x).mono ?_
 rintro _ H1 (⟨bO,rfl,rfl⟩| ⟨bH,rfl,c1,e1⟩)
 ·refine vs ?_
  exact .inl ⟨bO,rfl,cF.same h (ag.refl _ _)⟩
 have m1:=m.aI c1 e1 rfl
 obtain⟨DO,o1,_⟩:=m1.own
 have ep:=bA.2 bH
 obtain⟨gB,qd,_⟩:=aF ep
 have Jl:x≠ -1:=by omega
 have ls:=aw w
 have t:=l.bt
 refine v1 (ae o1) ?_
 obtain⟨a1,b1,ea1⟩:=cS (aZ L x false)
 obtain⟨a2,b2,ea2⟩:=cS (aZ L x true)
 refine⟨.tuple [i64 a1,.bool b1].toArray,(lS m1.ce x).mono (by rintro v H' ⟨rfl,rfl⟩;exact⟨ea1,rfl⟩),?_⟩
 refine vs ?_
 refine⟨_,cE H1 _ a1 b1 ea1,?_⟩
 refine v1 (ae o1) ?_
 refine(cD m1.ce x).mono ?_
 rintro _ H' ⟨rfl,e⟩
 obtain rfl:=e.symm
 rw[ea2]
 refine vs ?_
 refine(cE H1 _ a2 b2 ea2).mono ?_
 rintro _ H' ⟨rfl,e⟩
 obtain rfl:=e.symm
 refine v1 (ae o1) ?_
 refine(cR m1.ce (x:=aZ L x false) (fun hu=>by have:=B6.up t.bt hu;have:=m1.len.1;omega)).mono ?_
 rintro _ H2 ⟨rfl,L2,t2,l2,k2,u2,e2⟩
 have m2:=m1.dZ t2 e2 l2
 have bt2:B6 w L2:=by
  show Bt _ _ _ _
  rw[k2,u2];exact t.bt.U4 _
 obtain⟨OK,o2,_⟩:=m2.own
 refine v1 (ae o2) ?_
 refine(cR m2.ce (x:=aZ L x true) (fun hu=>by have:=B6.up bt2 hu;have:=m2.len.1;omega)).mono ?_
 rintro _ H3 ⟨rfl,L3,t3,l3,k3,u3,e3⟩
 rw[k2,u2]at k3
 rw[u2]at u3
 have m3:=m2.dZ t3 e3 l3
 obtain⟨w1,w2,w3,w4⟩:=t.bt.bare x
 have hk:∀c,aZ L x c= -1∨(aG w (aZ L x c)=aG w x∧bk L3 (aZ L x c)= -1):=fun c=>by
  by_cases hk:aZ L x c= -1
  ·exact .inl hk
  ·refine .inr ⟨(t.bt.home hk).2.2.1,?_⟩
   rw[u3,w4,if_pos]
   cases c
   ·exact .inl rfl
   ·exact .inr rfl
 rw[←k3,←u3]at w1
 have mg:=Mg.start w1 ep (hk false) (hk true) (fun e=>t.bt.two x e)
 refine vs ?_
 refine(iy m3 mg).mono ?_
 rintro _ H4 ⟨r,L4,WJ,rfl,m4,g4,f4,e4⟩
 have f4:=f4 x (xT.start (fun hk=>(t.bt.home hk).2.2.2.2) (fun hk=>(t.bt.home hk).2.2.2.2))
 have d:=t.Wv ls ep k3 u3 g4 f4
 have wF:ag S H H4:=(((e1.mono fun z _ h=>hC z h).trans (e2.mono fun z _ h=>h▸s1)).trans (e3.mono fun z _ h=>h▸s1)).trans (e4.mono fun z _ h=>by rcases h with h|rfl|rfl;exact hC z h;exact s1;exact s2)
 obtain⟨tv4,o4,_⟩:=m4.own
 have cU:=fun y=>eI (w:=w) ⟨gB,qd⟩ (0,0,0) y
 have p0:aG (w.put x (0,0,0)) (-1)=0:=rfl
 have p1:aG (w.put x (0,0,0)) x=0:=by rw[cU,if_pos rfl]
 have p2:∀y,y≠x→aG (w.put x (0,0,0)) y=aG w y:=fun y hy=>by rw[cU,if_neg hy]
 have el:∀a b,0<aG w a→0<aG w b→a≠x→b≠x→aQ (w.put x (0,0,0)) a b=aQ w a b:=fun a b ha hb uH mI=>dU ⟨gB,qd⟩ _ ha hb uH mI
 have lJ:(w.put x (0,0,0)).cs.length=w.cs.length:=by simp[Nw.put]
 refine v1 (ae o4) ?_
 refine(pQ m4.ce x).mono ?_
 rintro _ H' ⟨rfl,e⟩
 obtain rfl:=e.symm
 rw[d.ux]
 unfold gG
 by_cases hu:bk L x= -1
 ·rw[if_pos hu]
  obtain⟨cc,lt,o5,q5,sI,ww,PQ⟩:=m4.gm
  have dI:aG w x<tops.length:=by
   have:=((m4.cells.hm x).2 ep).2
   have:=l.tl
   omega
  refine v1 (ae o5) ?_
  refine⟨⟨by omega,by omega⟩,?_⟩
  refine v3 q5 aqa aqd ?_
  refine⟨by omega,?_⟩
  obtain⟨m5,e5⟩:=m4.lC q5 (aG w x).toNat r
  obtain⟨tv6,o6,_⟩:=m5.own
  refine v1 (ae o6) ?_
  refine(cw m5.cells x).mono ?_
  rintro _ H6 (⟨bO,_,_⟩| ⟨_,rfl,c6,e6⟩)
  ·exact absurd bH bO
  have m6:=m5.aI c6 e6 lJ
  refine vs ?_
  refine .inr ⟨bH,rfl,cF.same ⟨B,C,L4,WJ,_,rfl,m6,⟨?_,by rw[aqe];exact l.tl⟩,hS⟩ ((wF.trans (e5.mono fun z _ h=>h▸s3)).trans (e6.mono fun z _ h=>hC z h))⟩
  rw[eZ (by omega) dI]
  exact d.Nk t ep hu p0 p1 p2 el
 ·rw[if_neg hu]
  have CF:=B6.up t.bt hu
  obtain⟨w5,w6⟩:=d.cut t ls ep hu
  obtain⟨a3,b3,ea3⟩:=cS (aZ L4 (bk L x) true)
  refine v1 (ae o4) ?_
  refine(cD m4.ce (bk L x)).mono ?_
  rintro _ H' ⟨rfl,e⟩
  obtain rfl:=e.symm
  rw[ea3]
  refine vs ?_
  refine(cE _ _ a3 b3 ea3).mono ?_
  rintro _ H' ⟨rfl,e⟩
  obtain rfl:=e.symm
  rw[d.kp _ true rfl hu]
  refine v1 (ae o4) ?_
  refine(cR m4.ce (x:=x) (fun hu2=>by have:=B6.up d.bt hu2;have:=m4.len.1;omega)).mono ?_
  rintro _ H5 ⟨rfl,L5,t5,l5,k5,u5,e5⟩
  have m5:=m4.dZ t5 e5 l5
  obtain⟨tv5,o5,_⟩:=m5.own
  refine vs ?_
  have Tk:=wF.trans (e5.mono fun z _ h=>h▸s1)
  refine ar.dec (fun g=>?_) (fun g=>?_)<;>refine vs ?_
  ·have m6:=m5
   have JD:=Tk
   have b6:B6 w L5:=by
    show Bt _ _ _ _
    rw[k5,u5];exact w5 g
   have u6:bk L5=if r= -1 then di (bk L4) x else aK (di (bk L4) x) r (bk L x):=by rw[if_pos g];exact u5
   refine(ju m6 b6 (x:=bk L x) (fun _=>by rw[CF.2.2.2];exact ep)).mono ?_
   rintro _ H7 ⟨L7,rs7,m7,b7,u7,e7⟩
   have YP:=JD.trans (e7.mono fun z _ h=>by rcases h with rfl|rfl;exact s1;exact s2)
   obtain⟨tv7,o7,_⟩:=m7.own
   refine v1 (ae o7) ?_
   refine(cw m7.cells x).mono ?_
   rintro _ H8 (⟨bO,_,_⟩| ⟨_,rfl,c8,e8⟩)
   ·exact absurd bH bO
   have m8:=m7.aI c8 e8 lJ
   refine vs ?_
   refine .inr ⟨bH,rfl,cF.same ⟨B,C,L7,rs7,tops,rfl,m8,⟨?_,l.tl⟩,hS⟩ (YP.trans (e8.mono fun z _ h=>hC z h))⟩
   exact d.below t ls (n:=w.cs.length) (fun y hy=>by obtain⟨y0,y1,_⟩:=aF hy;exact⟨y0,y1⟩) ep hu b7 (by rw[u7,u6]) p0 p1 p2 el
  ·obtain⟨y1,y2,y3,y4⟩:=w6 g
   obtain⟨r1,r2,r3,r4⟩:=d.rx g
   obtain⟨q1,q2,_⟩:=aF (w:=w) (x:=r) (by omega)
   have hl5:=m5.len
   refine v1 (ae o5) ?_
   refine(fI m5.ce (p:=bk L x) (x:=r) (c:=(aZ L (bk L x) true==x)) ⟨CF.1,by omega⟩ ⟨q1,by omega⟩ y3 (by rw[u5];exact y2) (by rw[k5];exact y1)).mono ?_
   rintro _ H6 ⟨rfl,L6,t6,l6,k6,Tl,e6⟩
   have m6:=m5.dZ t6 e6 l6
   have JD:=Tk.trans (e6.mono fun z _ h=>h▸s1)
   rw[k5]at k6
   rw[u5]at Tl
   have b6:B6 w L6:=by
    show Bt _ _ _ _
    rw[k6,Tl];exact y4
   have u6:bk L6=if r= -1 then di (bk L4) x else aK (di (bk L4) x) r (bk L x):=by rw[if_neg g];exact Tl
   refine vs ?_
   refine(ju m6 b6 (x:=bk L x) (fun _=>by rw[CF.2.2.2];exact ep)).mono ?_
   rintro _ H7 ⟨L7,rs7,m7,b7,u7,e7⟩
   have YP:=JD.trans (e7.mono fun z _ h=>by rcases h with rfl|rfl;exact s1;exact s2)
   obtain⟨tv7,o7,_⟩:=m7.own
   refine v1 (ae o7) ?_
   refine(cw m7.cells x).mono ?_
   rintro _ H8 (⟨bO,_,_⟩| ⟨_,rfl,c8,e8⟩)
   ·exact absurd bH bO
   have m8:=m7.aI c8 e8 lJ
   refine vs ?_
   refine .inr ⟨bH,rfl,cF.same ⟨B,C,L7,rs7,tops,rfl,m8,⟨?_,l.tl⟩,hS⟩ (YP.trans (e8.mono fun z _ h=>hC z h))⟩
   exact d.below t ls (n:=w.cs.length) (fun y hy=>by obtain⟨y0,y1,_⟩:=aF hy;exact⟨y0,y1⟩) ep hu b7 (by rw[u7,u6]) p0 p1 p2 el
theorem vQ{n:Nat}{H:Hp}{S:Nat→Prop}{w:Nw}(h:dV n H S w)(g:Int):af Tryz.prog jd [ptr n,i64 g] H fun v H'=>ax (
  (w.len g=0∧v= .tuple [i64 0,.bool false].toArray∧cF (dV n) S H H' w)∨(∃x,w.first g x∧v= .tuple [i64 x,.bool true].toArray∧cF (dV n) S H H' (w.put x (0,0,0)))):=by
 refine bm sC ?_
 refine vs ?_
 refine(ry h g).mono ?_
 rintro _ _ ⟨⟨h0,rfl⟩| ⟨x,hx,rfl⟩,rfl⟩
 ·refine vs ?_
  exact .inl ⟨h0,rfl,cF.same h (ag.refl _ _)⟩
 ·refine vs ?_
  refine(xZ h x).mono ?_
  rintro _ H1 (⟨bO,_,_⟩| ⟨_,rfl,h1⟩)
  ·exact absurd (bA.1 (by have:=bQ.1 hx;omega)) bO
  refine vs ?_
  exact .inr ⟨x,hx,rfl,h1⟩
theorem KP(n:Nat):yQ (.iface 166 (ptr n)) (dV n) where
 slt h:=h.slt
 ext h e hd:=h.ext e hd
 cells:=by
  rintro H S w ⟨B,C,L,rs,tops,rfl,m,l,hS⟩
  exact⟨B.c,C,m.cells⟩
 has:=by
  rintro H S w g ⟨B,C,L,rs,tops,rfl,m,l,hS⟩
  obtain⟨tv,ho,_⟩:=m.own
  exact⟨_,_,bG,ptr B.c,rfl,fW (off:=0) (by kernel_rfl) (ae ho) rfl,(iM m.cells g).mono fun v H' hp=>hp⟩
 make:=by
  intro H S w h
  exact⟨_,_,mq,ptr n,rfl,bF (by kernel_rfl),(Cc h).mono fun v H' hp=>hp⟩
 insert:=by
  intro H S w g x k s h
  exact⟨_,_,jL,ptr n,rfl,bF (by kernel_rfl),(xY h g x k s).mono fun v H' hp=>hp⟩
 min:=by
  intro H S w g h
  refine⟨_,_,nF,ptr n,rfl,bF (by kernel_rfl),(ry h g).mono ?_⟩
  rintro v H' ⟨⟨h1,rfl⟩| ⟨x,h1,rfl⟩,rfl⟩
  ·exact .inl ⟨h1,rfl,cF.same h (ag.refl _ _)⟩
  ·exact .inr ⟨x,h1,rfl,cF.same h (ag.refl _ _)⟩
 extract:=by
  intro H S w g h
  exact⟨_,_,jd,ptr n,rfl,bF (by kernel_rfl),(vQ h g).mono fun v H' hp=>hp⟩
 lD:=by
  intro H S w x k s h
  exact⟨_,_,iG,ptr n,rfl,bF (by kernel_rfl),(uC h x k s).mono fun v H' hp=>hp⟩
 entry:=by
  rintro H S w x ⟨B,C,L,rs,tops,rfl,m,l,hS⟩
  obtain⟨tv,ho,_⟩:=m.own
  refine⟨_,_,bb,ptr B.c,rfl,fW (off:=0) (by kernel_rfl) (ae ho) rfl,(gU m.cells x).mono ?_⟩
  rintro v H' ⟨c1,f,hv⟩
  exact⟨⟨B,C,L,rs,tops,rfl,m.fresh f,l,hS⟩,f,hv⟩
theorem eo:cY 2:=⟨by omega,by omega⟩
def swp(l:List Int)(i j:Nat):List Int:=(l.set i (l.getD j 0)).set j (l.getD i 0)
theorem gu(l:List Int)(i j:Nat):(swp l i j).length=l.length:=by unfold swp;simp
theorem Cf{l:List Int}{i j:Nat}(hi:i<l.length)(hj:j<l.length)(k:Nat):(swp l i j).getD k 0=if k=j then l.getD i 0 else if k=i then l.getD j 0 else l.getD k 0:=by
 unfold swp
 rw[dT _ _ _ _ (by simpa using hj),dT _ _ _ _ hi]
 by_cases h1:j=k
 ·subst h1;simp
 ·rw[if_neg h1,if_neg (Ne.symm h1)]
  by_cases h2:i=k
  ·subst h2;simp
  ·rw[if_neg h2,if_neg (Ne.symm h2)]
theorem mW{l:List Int}{i j:Nat}(hi:i<l.length)(hj:j<l.length)(k:Nat):(swp l i j)[k]? =if k=j then l[i]? else if k=i then l[j]? else l[k]? :=by
 have hl:=gu l i j
 have hg:=Cf hi hj k
 by_cases hk:k<l.length
 ·rw[aqb (by omega)]
  rw[aqf,aqb (by omega)]at hg
  simp only[Option.getD_some]at hg
  rw[hg]
  have e:∀q,q<l.length→l[q]? =some (l.getD q 0):=fun q hq=>by rw[aqf,aqb hq];rfl
  split
  ·rw[e i hi]
  ·split
   ·rw[e j hj]
   ·rw[e k hk]
 ·rw[aqo (by omega),if_neg (by omega),if_neg (by omega),aqo (by omega)]
theorem VD{l:List Int}{i j:Nat}(hi:i<l.length)(hj:j<l.length)(z:Int):z∈swp l i j↔z∈l:=by
 constructor
 ·intro h
  obtain⟨k,hk⟩:=aqB h
  rw[mW hi hj]at hk
  split at hk
  ·exact aqg hk
  ·split at hk
   ·exact aqg hk
   ·exact aqg hk
 ·intro h
  obtain⟨k,hk⟩:=aqB h
  by_cases h1:k=i
  ·subst h1
   refine aqg (i:=j) ?_
   rw[mW hi hj,if_pos rfl,hk]
  ·by_cases h2:k=j
   ·subst h2
    refine aqg (i:=i) ?_
    rw[mW hi hj]
    by_cases h3:i=k
    ·exact absurd h3.symm h1
    ·rw[if_neg h3,if_pos rfl,hk]
   ·refine aqg (i:=k) ?_
    rw[mW hi hj,if_neg h2,if_neg h1,hk]
theorem M4{l:List Int}{i j m:Nat}(hi:i<m)(hj:j<m)(hm:m≤l.length):(swp l i j).take m=swp (l.take m) i j:=by
 apply aqX
 intro k
 rw[mW (by rw[aqO];omega) (by rw[aqO];omega),aqG,mW (by omega) (by omega),aqG,aqG,aqG]
 rw[if_pos hi,if_pos hj]
 by_cases hk:k<m
 ·simp only[if_pos hk]
 ·simp only[if_neg hk,if_neg (show k≠j by omega),if_neg (show k≠i by omega)]
theorem Tm{l:List Int}{i j m:Nat}(hi:i<m)(hj:j<m)(hm:m≤l.length):(swp l i j).drop m=l.drop m:=by
 apply aqX
 intro k
 rw[aqJ,aqJ,mW (by omega) (by omega),if_neg (by omega),if_neg (by omega)]
theorem dY.heap{lt:Int→Int→Bool}{l:List Int}{i:Nat}(h:dY lt 2 l i)(hB:∀j,1≤j→j<l.length→pa 2 j=i→lt (l.getD j 0) (l.getD i 0)=false)
  (hD:1≤i→i<l.length→lt (l.getD i 0) (l.getD (pa 2 i) 0)=false):fk lt 2 l:=by
 intro j h1 h2
 by_cases e1:j=i
 ·subst e1;exact hD h1 h2
 ·by_cases e2:pa 2 j=i
  ·rw[e2];exact hB j h1 h2 e2
  ·exact h.1 j h1 h2 e1 e2
theorem YQ{lt:Int→Int→Bool}(ho:bC lt){l:List Int}{i:Nat}(hi:1≤i)(hl:i<l.length)(hA:dY lt 2 l i)(hB:∀j,1≤j→j<l.length→pa 2 j=i→lt (l.getD j 0) (l.getD i 0)=false)
  (aN:lt (l.getD i 0) (l.getD (pa 2 i) 0)=true):dY lt 2 (swp l (pa 2 i) i) (pa 2 i)∧∀j,1≤j→j< (swp l (pa 2 i) i).length→pa 2 j=pa 2 i→lt ((swp l (pa 2 i) i).getD j 0) ((swp l (pa 2 i) i).getD (pa 2 i) 0)=false:=by
 have hp:=cQ eo hi
 have g:=Cf (l:=l) (i:=pa 2 i) (j:=i) (by omega) hl
 rw[gu]
 have ahH:∀j,1≤j→j<l.length→pa 2 j=pa 2 i→j≠i→lt (l.getD j 0) (l.getD i 0)=false:=fun j h1 h2 h3 h4=>by
  have e4:=hA.1 j h1 h2 h4 (by omega)
  rw[h3]at e4
  cases hx:lt (l.getD j 0) (l.getD i 0)with
  |false=>rfl
  |true=>have:=ho.tr _ _ _ hx aN;rw[this]at e4;cases e4
 refine⟨⟨fun j h1 h2 h3 h4=>?_,fun j h1 h2 h3 h4=>?_⟩,fun j h1 h2 h3=>?_⟩
 ·rw[gu]at h2
  have Yz:=cQ eo h1
  rw[g,g,if_neg h4]
  by_cases e1:j=i
  ·subst e1;exact absurd rfl h4
  ·rw[if_neg e1,if_neg h3]
   by_cases e2:pa 2 j=i
   ·rw[if_pos e2]
    exact hA.2 j h1 h2 e2 (by omega)
   ·rw[if_neg e2];exact hA.1 j h1 h2 e1 e2
 ·rw[gu]at h2
  have Oy:=cQ eo h4
  rw[g,g,if_neg (show pa 2 (pa 2 i)≠i by omega),if_neg (show pa 2 (pa 2 i)≠pa 2 i by omega)]
  have e3:=hA.1 (pa 2 i) h4 (by omega) (by omega) (by omega)
  by_cases e1:j=i
  ·rw[if_pos e1];exact e3
  ·have Yz:=cQ eo h1
   rw[if_neg e1,if_neg (by omega)]
   have e4:=hA.1 j h1 h2 e1 (by omega)
   rw[h3]at e4
   exact ho.nt _ _ _ e4 e3
 ·have Yz:=cQ eo h1
  rw[g,g,if_neg (show pa 2 i≠i by omega),if_pos rfl]
  by_cases e1:j=i
  ·rw[if_pos e1];exact ho.asym aN
  ·rw[if_neg e1,if_neg (by omega)]
   exact ahH j h1 h2 h3 e1
theorem Tn{lt:Int→Int→Bool}(ho:bC lt){l:List Int}{i b:Nat}(hb:1≤b)(hl:b<l.length)(hp:pa 2 b=i)(hA:dY lt 2 l i)(sO:∀j,1≤j→j<l.length→pa 2 j=i→lt (l.getD j 0) (l.getD b 0)=false)
  (aN:lt (l.getD b 0) (l.getD i 0)=true):dY lt 2 (swp l i b) b∧lt ((swp l i b).getD b 0) ((swp l i b).getD (pa 2 b) 0)=false:=by
 have QX:=cQ eo hb
 have g:=Cf (l:=l) (i:=i) (j:=b) (by omega) hl
 refine⟨⟨fun j h1 h2 h3 h4=>?_,fun j h1 h2 h3 h4=>?_⟩,?_⟩
 ·rw[gu]at h2
  have Yz:=cQ eo h1
  rw[g,g,if_neg h3,if_neg h4]
  by_cases e1:j=i
  ·subst e1
   rw[if_pos rfl,if_neg (by omega)]
   exact hA.2 b hb hl hp h1
  ·rw[if_neg e1]
   by_cases e2:pa 2 j=i
   ·rw[if_pos e2];exact sO j h1 h2 e2
   ·rw[if_neg e2];exact hA.1 j h1 h2 e1 e2
 ·rw[gu]at h2
  have Yz:=cQ eo h1
  rw[g,g,if_neg (show j≠b by omega),if_neg (show j≠i by omega),if_neg (show pa 2 b≠b by omega),if_pos hp]
  have:=hA.1 j h1 h2 (by omega) (by omega)
  rw[h3]at this
  exact this
 ·rw[g,g,if_pos rfl,hp,if_neg (show i≠b by omega),if_pos rfl]
  exact ho.asym aN
def mX(l at_:List Int):Prop:=∀ (i:Nat) (x:Int),l[i]? =some x→0≤x∧at_[x.toNat]? =some (i:Int)
theorem mX.GW{l at_:List Int}(h:mX l at_){i j:Nat}{x:Int}(hi:l[i]? =some x)(hj:l[j]? =some x):i=j:=by
 have h1:=(h i x hi).2
 have h2:=(h j x hj).2
 rw[h1]at h2
 injection h2 with h2
 omega
def Cg(l at_:List Int)(i j:Nat):List Int:=(at_.set (l.getD j 0).toNat i).set (l.getD i 0).toNat j
theorem mX.swp{l at_:List Int}(h:mX l at_){i j:Nat}(hi:i<l.length)(hj:j<l.length)(Ll:i≠j):mX (swp l i j) (Cg l at_ i j)∧(Cg l at_ i j).length=at_.length∧∀z:Int,0≤z→z∉l→(Cg l at_ i j)[z.toNat]? =at_[z.toNat]? :=by
 have e:∀q,q<l.length→l[q]? =some (l.getD q 0):=fun q hq=>by rw[aqf,aqb hq];rfl
 obtain⟨a0,a1⟩:=h i _ (e i hi)
 obtain⟨b0,b1⟩:=h j _ (e j hj)
 have XD:=(aqc.1 a1).1
 have Vo:=(aqc.1 b1).1
 have aR:(l.getD i 0).toNat≠(l.getD j 0).toNat:=fun h0=>by
  rw[h0,b1]at a1
  injection a1 with a1
  omega
 unfold Cg
 refine⟨fun k x hk=>?_,by simp,fun z hz hm=>?_⟩
 ·rw[mW hi hj]at hk
  split at hk
  ·rename_i hkj
   rw[e i hi]at hk
   injection hk with hk
   subst hk
   rw[aqi (by simpa using XD),hkj]
   exact⟨a0,rfl⟩
  ·split at hk
   ·rename_i hkj E3
    rw[e j hj]at hk
    injection hk with hk
    subst hk
    rw[aqh aR,aqi Vo,E3]
    exact⟨b0,rfl⟩
   ·rename_i hkj E3
    obtain⟨c0,c1⟩:=h k x hk
    have n1:(l.getD i 0).toNat≠x.toNat:=fun h0=>by
     rw[h0,c1]at a1;injection a1 with a1;omega
    have n2:(l.getD j 0).toNat≠x.toNat:=fun h0=>by
     rw[h0,c1]at b1;injection b1 with b1;omega
    rw[aqh n1,aqh n2]
    exact⟨c0,c1⟩
 ·have n1:(l.getD i 0).toNat≠z.toNat:=fun h0=>hm (by rw[show z=l.getD i 0 by omega];exact aqg (e i hi))
  have n2:(l.getD j 0).toNat≠z.toNat:=fun h0=>hm (by rw[show z=l.getD j 0 by omega];exact aqg (e j hj))
  rw[aqh n1,aqh n2]
theorem pa2(j:Nat):((pa 2 j:Nat):Int)=if j=0 then 0 else((j:Int) - 1) / 2:=by
 unfold pa
 split
 ·rename_i h;subst h;rfl
 ·omega
end Go.Proofs.YthpjfeolagohkaaGreat
