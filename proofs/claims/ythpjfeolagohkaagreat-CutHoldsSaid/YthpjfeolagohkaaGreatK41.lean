/- Texts put behind each other. -/
import Derived.Test.YthpjfeolagohkaaGreatK98
import Derived.Test.YthpjfeolagohkaaGreatK27
import Derived.Test.YthpjfeolagohkaaGreatK30
import Derived.Test.YthpjfeolagohkaaGreatK31
import Derived.Test.YthpjfeolagohkaaGreatK32
import Derived.Test.YthpjfeolagohkaaGreatK40
set_option maxRecDepth 100000
set_option maxHeartbeats 8000000
set_option linter.unusedVariables false
set_option linter.unusedSimpArgs false
namespace Go.Proofs.YthpjfeolagohkaaGreat
open Go Go.Vc
structure Nb(w:Nw)(L:List Lk)(tops:List Int)(ch:Int→List Int)(par:Int→Int):Prop where
 t:U8 (aG w) (aQ w) ch par (bi tops)
 pl:Kz (aZ L) (bk L) ch par
 tl:tops.length=w.hs.length
def dX(n:Nat)(H:Hp)(S:Nat→Prop)(w:Nw):Prop:=∃ (B:PB) (C:Nat→Prop) (L:List Lk) (tops:List Int) (ch:Int→List Int) (par:Int→Int),B.n=n∧bW H B C w L tops∧Nb w L tops ch par∧∀z,S z↔B.S C z
theorem dX.slt{n:Nat}{H:Hp}{S:Nat→Prop}{w:Nw}(h:dX n H S w):∀z,S z→z<H.size:=by
 obtain⟨B,C,L,tops,ch,par,rfl,m,l,hS⟩:=h
 exact fun z hz=>m.slt z ((hS z).1 hz)
theorem dX.ext{n:Nat}{H H':Hp}{S V:Nat→Prop}{w:Nw}(h:dX n H S w)(e:ag V H H')(hd:∀z,S z→¬V z):dX n H' S w:=by
 obtain⟨B,C,L,tops,ch,par,rfl,m,l,hS⟩:=h
 exact⟨B,C,L,tops,ch,par,rfl,m.ext e (fun z hz=>hd z ((hS z).2 hz)),l,hS⟩
theorem D6(cap:Int)(H:Hp):af Tryz.prog Ij [i64 cap] H fun v H'=>ax (
  ah H H'∧((¬ (0≤cap∧cap≤65536)∧v= .tuple [.pointer none,i64 31].toArray)∨
   ((0≤cap∧cap≤65536)∧∃n S,v= .tuple [ptr n,i64 0].toArray∧dX n H' S (As cap)∧∀x,S x→H.size≤x))):=by
 refine bm Iy ?_
 refine vs ?_
 refine(lA cap H).mono ?_
 rintro _ H1 ⟨f1,⟨hb,rfl⟩| ⟨hb,c,C,rfl,c1,hC⟩⟩
 ·refine vs ?_
  exact⟨f1,.inl ⟨hb,rfl⟩⟩
 refine v1 aqZ ?_
 refine⟨⟨by omega,by omega,by omega,by omega⟩,?_⟩
 refine vs ?_
 rw[PL]
 have yJ:=c1.slt
 have z1:=f1.size
 have f3:ah H1 (((H1.new 227 (flatK (List.replicate cap.toNat ⟨0,0,0⟩))).new 3 [Value.int .i64 (-1)]).new 225 [ptr c,.slice (some ⟨H1.size,0,none⟩) cap.toNat cap.toNat,.slice (some ⟨H1.size+1,0,none⟩) 1 1]):=(((ag.refl _ _).new _ _).new _ _).new _ _
 have e1:ag (fun _=>False) (H1.new 227 (flatK (List.replicate cap.toNat ⟨0,0,0⟩))) (((H1.new 227 (flatK (List.replicate cap.toNat ⟨0,0,0⟩))).new 3 [Value.int .i64 (-1)]).new 225 [ptr c,.slice (some ⟨H1.size,0,none⟩) cap.toNat cap.toNat,.slice (some ⟨H1.size+1,0,none⟩) 1 1]):=((ag.refl _ _).new _ _).new _ _
 have e2:ag (fun _=>False) ((H1.new 227 (flatK (List.replicate cap.toNat ⟨0,0,0⟩))).new 3 [Value.int .i64 (-1)]) (((H1.new 227 (flatK (List.replicate cap.toNat ⟨0,0,0⟩))).new 3 [Value.int .i64 (-1)]).new 225 [ptr c,.slice (some ⟨H1.size,0,none⟩) cap.toNat cap.toNat,.slice (some ⟨H1.size+1,0,none⟩) 1 1]):=(ag.refl _ _).new _ _
 obtain⟨B,hB⟩:∃B:PB,B=⟨H1.size+1+1,c,H1.size,H1.size+1⟩:=⟨_,rfl⟩
 have m0:bW (((H1.new 227 (flatK (List.replicate cap.toNat ⟨0,0,0⟩))).new 3 [Value.int .i64 (-1)]).new 225 [ptr c,.slice (some ⟨H1.size,0,none⟩) cap.toNat cap.toNat,.slice (some ⟨H1.size+1,0,none⟩) 1 1]) B C (As cap) (List.replicate cap.toNat ⟨0,0,0⟩) [-1]:=by
  subst hB
  refine⟨⟨.slice (some ⟨H1.size+1,0,none⟩) 1 1,?_,?_⟩,c1.fresh f3,?_,?_,?_,?_⟩
  ·rw[aqV]
   exact bz (by simp only[am])
  ·exact(Sl.bU (size:=1) (n:=1) (xs:=[i64 (-1)]) rfl (by simp only[am])).ext e2 (fun _ _ h=>h)
  ·exact e1.own (az _ _ _) (fun h=>h)
  ·simp[As]
  ·refine⟨?_,?_,?_⟩<;>simp only<;>omega
  ·refine⟨fun h=>?_,fun h=>?_,fun h=>?_⟩<;>(have h2:=yJ _ h;first|omega| (simp only at h2;omega))
 have Fo:B.n=H1.size+1+1:=by rw[hB]
 have hBs:∀z,B.S C z→H1.size≤z∨C z:=fun z hz=>by
  rcases hz with hz|rfl|rfl|rfl
  ·exact .inr hz
  all_goals rw[hB];left;first|omega| (simp only;omega)
 have hBt:B.tb=H1.size:=by rw[hB]
 have ft:=f1.trans f3
 generalize ((H1.new 227 (flatK (List.replicate cap.toNat ⟨0,0,0⟩))).new 3 [Value.int .i64 (-1)]).new 225 [ptr c,.slice (some ⟨H1.size,0,none⟩) cap.toNat cap.toNat,.slice (some ⟨H1.size+1,0,none⟩) 1 1]=H2 at*
 obtain⟨tv0,o0,_⟩:=m0.own
 rw[aqV,Fo]at o0
 refine aY.intro (fun m env H'=>∃j:Nat,m=cap.toNat - j∧j≤cap.toNat∧ag (fun z=>z=B.tb) H2 H'∧bW H' B C (As cap) (List.replicate j jF++List.replicate (cap.toNat - j) ⟨0,0,0⟩) [-1]∧
  env=[(6,ptr (H1.size+1+1)),(26,i64 (cap.toNat:Nat)),(27,i64 j)]) cap.toNat ⟨0,by omega,by omega,ag.refl _ _,by simpa using m0,rfl⟩ ?_
 rintro m env H3 ⟨j,rfl,hj,e3,m3,rfl⟩
 have o8:=iN (List.replicate j jF++List.replicate (cap.toNat - j) (⟨0,0,0⟩:Lk))
 have tP:(List.replicate j jF++List.replicate (cap.toNat - j) (⟨0,0,0⟩:Lk)).length=cap.toNat:=by simp;omega
 obtain⟨tv3,o3,_⟩:=m3.own
 rw[tP]at o8 o3
 rw[Fo]at o3
 refine vs ?_
 refine ar.dec (fun aN=>?_) (fun aN=>?_)<;>refine vs ?_
 ·refine v1 (ae o3) ?_
  refine⟨by omega,?_⟩
  refine v3 m3.fJ aqa Int.toNat_natCast ?_
  refine⟨by omega,?_⟩
  have q3:=JH (L:=List.replicate j jF++List.replicate (cap.toNat - j) (⟨0,0,0⟩:Lk)) (i:=j) (by omega) jF
  have q4:(List.replicate j jF++List.replicate (cap.toNat - j) (⟨0,0,0⟩:Lk)).set j jF=List.replicate (j+1) jF++List.replicate (cap.toNat - (j+1)) (⟨0,0,0⟩:Lk):=by
   rw[asa _ _ (by simp),aqV,ari,show cap.toNat - j=(cap.toNat - (j+1))+1 by omega,aqQ,arv,ar1]
   simp
  rw[q4]at q3
  obtain⟨m4,e4⟩:=m3.PZ (L':=List.replicate (j+1) jF++List.replicate (cap.toNat - (j+1)) (⟨0,0,0⟩:Lk)) (by simp;omega)
  rw[show bh (flatK (List.replicate j jF++List.replicate (cap.toNat - j) (⟨0,0,0⟩:Lk))) (j*3) (aH (Value.agg #[Value.int .i64 (-1),Value.int .i64 (-1),Value.int .i64 (-1)]))=_ from q3]
  refine vs ?_
  rw[wrap64 (n:=(j:Int)+1) (by omega) (by omega)]
  exact⟨cap.toNat - (j+1),by omega,j+1,rfl,by omega,e3.trans e4,m4,rfl⟩
 ·obtain rfl:j=cap.toNat:=by omega
  rw[ari,asd,aq2]at m3
  rw[←Fo]
  refine⟨ft.then e3 (fun z hz=>by omega),.inr ⟨hb,B.n,B.S C,rfl,⟨B,C,_,[-1],fun _=>[],fun _=> -1,rfl,m3,⟨⟨⟨rfl,fun x c hc=>absurd hc (by simp),fun c x h hx=>absurd (Eq.symm h) hx,fun x=>art⟩,
   ⟨fun x p h hp=>absurd (Eq.symm h) hp,fun g hg=>absurd (DR g) hg,fun x hx=>absurd hx (lE cap x)⟩⟩,⟨fun x=>Ca _ _ _,fun x=>trivial,fun c _=>⟨Ca _ _ _,G7 _ _⟩⟩,rfl⟩,fun z=>Iff.rfl⟩,fun z hz=>?_⟩⟩
  rcases hBs z hz with h|h
  ·omega
  ·exact hC z h
theorem Cv{n:Nat}{H:Hp}{S:Nat→Prop}{w:Nw}(h:dX n H S w):af Tryz.prog mj [ptr n] H fun v H'=>ax (
  (w.hs.length=65537∧v=i64 0∧cF (dX n) S H H' w)∨(w.hs.length≠65537∧v=i64 w.hs.length∧cF (dX n) S H H' w.make)):=by
 obtain⟨B,C,L,tops,ch,par,rfl,m,l,hS⟩:=id h
 obtain⟨tv,ho,AL⟩:=m.own
 refine bm xH ?_
 refine v1 (ae ho) ?_
 refine(js m.cells).mono ?_
 rintro _ H1 (⟨h1,rfl,rfl⟩| ⟨h1,rfl,C',c1,e1,Au⟩)
 ·refine vs ?_
  exact .inl ⟨h1,rfl,cF.same h (ag.refl _ _)⟩
 have gA:=m.cells.pos
 have hhs:=m.cells.AL
 have Nt:=l.tl
 have slt:=m.slt
 have M3:=c1.slt
 obtain⟨n1,n2,n3⟩:=m.out
 obtain⟨d1,d2,d3⟩:=m.mG
 have o1:=e1.own ho n1
 refine vs ?_
 refine ar.cP (aqp (by omega)) ?_
 refine v1 (ae o1) ?_
 have s1:=AL.ext e1 (fun b hb=>by injection hb with hb;exact hb▸n3)
 refine SE s1 (-1) (by omega) fun w' H2 b' lI s2 e2=>?_
 have o2:=e2.own o1 d2
 obtain⟨wa,wc,PR⟩:=Sl.shape s2
 subst PR
 refine v1 o2 ?_
 generalize PR:Value.slice wa (tops++[-1]).length wc=w' at*
 have e3:ag (fun z=>z=B.n) H2 (H2.wr B.n [ptr B.c,.slice (some ⟨B.tb,0,none⟩) L.length L.length,w']):=(ag.refl (fun z=>z=B.n) _).wr (fun _=>rfl) _
 have z1:=e1.size
 have hn:=slt _ (.inr (.inl rfl))
 have ht:=slt _ (.inr (.inr (.inl rfl)))
 have htp:=slt _ (.inr (.inr (.inr rfl)))
 have Ha:∀z,C' z→z≠b'∧(z<H.size→C z):=fun z hz=>by
  have h5:=M3 z hz
  rcases Au z hz with h6|h6
  ·refine⟨fun e=>?_,fun _=>h6⟩
   rcases lI with h7|h7
   ·exact n3 (by rw[←h7,←e];exact h6)
   ·omega
  ·exact⟨by omega,fun h=>by omega⟩
 refine .inr ⟨h1,rfl,(PB.mk B.n B.c B.tb b').S C',⟨⟨B.n,B.c,B.tb,b'⟩,C',L,tops++[-1],ch,par,rfl,⟨⟨w',ai o2,s2.ext e3 (fun b hb=>by injection hb with hb;omega)⟩,?_,?_,m.len,?_,?_⟩,⟨by rw[B5];exact l.t,l.pl,?_⟩,fun z=>Iff.rfl⟩,?_,fun z hz=>?_⟩
 ·exact(c1.ext e2 (fun x hx e=>by
   rcases Au x hx with h6|h6
   ·exact n3 (e▸h6)
   ·omega)).ext e3 (fun x hx e=>by
   rcases Au x hx with h6|h6
   ·exact n1 (e▸h6)
   ·omega)
 ·exact e3.own (e2.own (e1.own m.fJ n2) d3) (Ne.symm d1)
 ·refine⟨d1,?_,?_⟩<;>simp only<;>omega
 ·exact⟨fun h=>n1 ((Ha _ h).2 hn),fun h=>n2 ((Ha _ h).2 ht),fun h=>(Ha _ h).1 rfl⟩
 ·simp[Nw.make,Nt]
 ·exact((e1.mono fun z _ h=>(hS z).2 (.inl h)).trans (e2.mono fun z _ h=>(hS z).2 (.inr (.inr (.inr h))))).trans (e3.mono fun z _ h=>(hS z).2 (.inr (.inl h)))
 ·rcases hz with hz|rfl|rfl|rfl
  ·rcases Au z hz with h6|h6
   ·exact .inl ((hS z).2 (.inl h6))
   ·exact .inr h6
  ·exact .inl ((hS _).2 (.inr (.inl rfl)))
  ·exact .inl ((hS _).2 (.inr (.inr (.inl rfl))))
  ·rcases lI with rfl|h7
   ·exact .inl ((hS _).2 (.inr (.inr (.inr rfl))))
   ·exact .inr (by first|omega| (simp only;omega))
theorem Nb.first{w:Nw}{L:List Lk}{tops:List Int}{ch:Int→List Int}{par:Int→Int}(l:Nb w L tops ch par){g x:Int}(h:w.first g x):bi tops g=x:=by
 obtain⟨h1,h2,h3⟩:=bQ.1 h
 have:=l.t.tp.first (x:=x) (by omega) (fun y hy aR=>h3 y (by omega) aR) (aw w)
 rwa[h2]at this
theorem rA{n:Nat}{H:Hp}{S:Nat→Prop}{w:Nw}(h:dX n H S w)(g:Int):af Tryz.prog nE [ptr n,i64 g] H fun v H'=>ax (
  ((w.len g=0∧v= .tuple [i64 0,.bool false].toArray)∨∃x,w.first g x∧v= .tuple [i64 x,.bool true].toArray)∧H'=H):=by
 obtain⟨B,C,L,tops,ch,par,rfl,m,l,hS⟩:=h
 obtain⟨cc,lt,ho,q2,sI,ww,PQ⟩:=m.gm
 refine bm zY ?_
 refine v1 (ae ho) ?_
 refine(vI m.cells g).mono ?_
 rintro _ _ ⟨rfl,rfl⟩
 refine vs ?_
 refine ar.dec (fun h0=>?_) (fun h0=>?_)
 ·refine vs ?_
  exact⟨.inl ⟨h0,rfl⟩,rfl⟩
 have hg:0<g:=aqt fun hg=>h0 (Nw.IN.2 (.inl (by omega)))
 obtain⟨x,hx⟩:=vH hg h0
 have hh:=(bQ.1 hx).2.1
 have dI:=((m.cells.hm x).2 (by omega)).2
 rw[hh,←l.tl]at dI
 have q3:=m.fC q2 (eJ (tops:=tops) (h:=g) (by omega) dI)
 rw[l.first hx]at q3
 refine v1 (ae ho) ?_
 refine⟨⟨by omega,by omega⟩,?_⟩
 refine v4 (ae q2) aqa aqd q3 ?_
 exact⟨.inr ⟨x,hx,rfl⟩,rfl⟩
theorem yg{n:Nat}{H:Hp}{S:Nat→Prop}{w:Nw}(h:dX n H S w)(g x k s:Int):af Tryz.prog jJ [ptr n,i64 g,i64 x,uw k s] H fun v H'=>ax (
  (¬w.lU g x∧v= .bool false∧cF (dX n) S H H' w)∨(w.lU g x∧v= .bool true∧cF (dX n) S H H' (w.put x (g,k,s)))):=by
 obtain⟨B,C,L,tops,ch,par,rfl,m,l,hS⟩:=h
 have hC:∀z,C z→S z:=fun z h=>(hS z).2 (.inl h)
 have t1:S B.tb:=(hS _).2 (.inr (.inr (.inl rfl)))
 have t2:S B.tp:=(hS _).2 (.inr (.inr (.inr rfl)))
 refine EL ui ⟨rfl,?_⟩
 refine v1 jT.eq_1 ?_
 have f0:ah H (H.new 182 [i64 k,u64 s]):=(ag.refl _ _).new _ _
 have b0:(H.new 182 [i64 k,u64 s]).own H.size=some [i64 k,u64 s]:=az _ _ _
 have m0:=m.fresh f0
 generalize H.new 182 [i64 k,u64 s]=H0 at*
 have ff:ag S H H0:=f0.mono fun _ _ h=>h.elim
 obtain⟨tv,IS,_⟩:=m0.own
 refine v2 (ae IS) (ae b0) ?_
 refine(lz m0.cells g x k s).mono ?_
 rintro _ H1 (⟨bO,rfl,c1,e1⟩| ⟨rq,rfl,c1,e1⟩)
 ·refine vs ?_
  exact .inl ⟨bO,rfl,cF.same ⟨B,C,L,tops,ch,par,rfl,m0.aI c1 e1 rfl,l,hS⟩ (ff.trans (e1.mono fun z _ hz=>hC z hz))⟩
 obtain⟨hh,hx,bH⟩:=id rq
 have m2:=m0.aI c1 e1 (by simp[Nw.put])
 have hg:=hh.1
 have dI:g<tops.length:=by
  have:=(aqc.1 hh.2).1
  have:=l.tl
  omega
 have cU:=fun y=>eI hx (g,k,s) y
 have bo:Ue (aG (w.put x (g,k,s))) (aQ (w.put x (g,k,s))) ch par (bi tops) g x:=by
  refine l.t.ins rfl (Int.not_lt.1 fun h=>bH (bA.1 h)) (by omega) (by omega) (by rw[cU,if_pos rfl]) (fun y hy=>by rw[cU,if_neg hy]) (fun a b ha hb uH mI=>dU hx _ ha hb uH mI)
 obtain⟨cc,lt,o2,q2,sI,ww,PQ⟩:=m2.gm
 have q3:=m2.fC q2 (eJ (tops:=tops) (h:=g) (by omega) dI)
 refine vs ?_
 refine gP.intro (fun H'=>H'.own B.n=some [ptr B.c,.slice (some ⟨B.tb,0,none⟩) L.length L.length,.slice (some ⟨B.tp,0,none⟩) tops.length cc]) o2 ?_
 refine vs ?_
 refine dP.intro (.slice (some ⟨B.tp,0,none⟩) tops.length cc) (fun H' hI=>by refine v1 (ae hI) ?_;trivial) ?_
 refine v1 (ae o2) ?_
 refine And.intro o2 ?_
 refine vs ?_
 refine⟨⟨by omega,by omega⟩,?_⟩
 refine v4 (ae q2) aqa aqd q3 ?_
 refine And.intro o2 ?_
 refine vs ?_
 have bw:=bo.w
 rw[show ws [bi tops g,x]=ws [bi tops g,x]++[] by simp]at bw
 refine(dt m2 bw l.pl).mono ?_
 rintro _ H3 ⟨r,L3,Nu,pV,rfl,_,m3,w3,p3,e3⟩
 rw[aq2]at w3
 have bn:=bo.done w3
 obtain⟨d1,d2,d3⟩:=m2.mG
 have no:¬ (C B.n∨B.n=B.tb):=by rintro(h|h);exact m2.out.1 h;omega
 refine And.intro (e3.own o2 no) ?_
 have q4:=e3.own q2 (by rintro(h|h);exact m2.out.2.2 h;omega)
 refine vs ?_
 refine⟨⟨by omega,by omega⟩,?_⟩
 refine v3 q4 aqa aqd ?_
 refine⟨by omega,?_⟩
 obtain⟨m4,e4⟩:=m3.lC q4 g.toNat r
 refine And.intro (e4.own (e3.own o2 no) d2) ?_
 refine vs ?_
 refine .inr ⟨rq,rfl,cF.same ⟨B,C,L3,_,Nu,pV,rfl,m4,⟨?_,p3,by rw[aqe];exact l.tl⟩,hS⟩ (((ff.trans (e1.mono fun z _ h=>hC z h)).trans (e3.mono fun z _ h=>by rcases h with h|rfl;exact hC z h;exact t1)).trans (e4.mono fun z _ h=>h▸t2))⟩
 rw[eZ (by omega) dI]
 exact bn
theorem Nb.below{w:Nw}{L:List Lk}{tops:List Int}{ch:Int→List Int}{par:Int→Int}(l:Nb w L tops ch par){x:Int}(hx:0<aG w x)(ht:bi tops (aG w x)≠x):∃p l1 l2,ch p=l1++x::l2:=by
 have hp:par x≠ -1:=fun h=>ht (l.t.tp.t2 x hx h)
 obtain⟨l1,l2,h⟩:=List.append_of_mem (l.t.pr.up x _ rfl hp)
 exact⟨par x,l1,l2,h⟩
theorem uD{n:Nat}{H:Hp}{S:Nat→Prop}{w:Nw}(h:dX n H S w)(x k s:Int):af Tryz.prog iE [ptr n,i64 x,uw k s] H fun v H'=>ax (
  (¬w.dm x k s∧v= .bool false∧cF (dX n) S H H' w)∨(w.dm x k s∧v= .bool true∧∃y,w.cs[x.toNat]? =some y∧cF (dX n) S H H' (w.put x (y.1,k,s)))):=by
 obtain⟨B,C,L,tops,ch,par,rfl,m,l,hS⟩:=h
 have hC:∀z,C z→S z:=fun z h=>(hS z).2 (.inl h)
 have t1:S B.tb:=(hS _).2 (.inr (.inr (.inl rfl)))
 have t2:S B.tp:=(hS _).2 (.inr (.inr (.inr rfl)))
 refine EL qJ ⟨rfl,?_⟩
 refine v1 iH.eq_1 ?_
 have f0:ah H (H.new 182 [i64 k,u64 s]):=(ag.refl _ _).new _ _
 have b0:(H.new 182 [i64 k,u64 s]).own H.size=some [i64 k,u64 s]:=az _ _ _
 have m0:=m.fresh f0
 generalize H.new 182 [i64 k,u64 s]=H0 at*
 have ff:ag S H H0:=f0.mono fun _ _ h=>h.elim
 obtain⟨tv,IS,_⟩:=m0.own
 refine v2 (ae IS) (ae b0) ?_
 refine(gW m0.cells x k s).mono ?_
 rintro _ H1 (⟨bO,rfl,c1,e1⟩| ⟨bH,rfl,y,hy,fR,c1,e1⟩)
 ·refine vs ?_
  exact .inl ⟨bO,rfl,cF.same ⟨B,C,L,tops,ch,par,rfl,m0.ext e1 (fun _ _ h=>h),l,hS⟩ (ff.trans (e1.mono fun _ _ h=>h.elim))⟩
 have lJ:(w.put x (y.1,k,s)).cs.length=w.cs.length:=by simp[Nw.put]
 have m1:=m0.aI c1 e1 lJ
 have Cd:w.dm x k s:=⟨bH,fun z hz=>by rw[hy]at hz;injection hz with hz;rw[←hz];exact fR⟩
 have hx:0≤x∧x<w.cs.length:=⟨bH.1,by have:=(aqc.1 hy).1;have:=bH.1;omega⟩
 have RH:aG w x=y.1:=kg bH.1 hy
 have ep:=bA.2 bH
 have hw:aG (w.put x (y.1,k,s))=aG w:=by
  funext z
  rw[eI hx]
  split
  ·rename_i e;rw[e,RH]
  ·rfl
 have Fu:df (w.put x (y.1,k,s)).cs x:=bA.1 (by rw[hw];exact ep)
 obtain⟨DO,o1,_⟩:=m1.own
 refine v1 (ae o1) ?_
 refine(dH m1.cells x).mono ?_
 rintro _ H2 (⟨bO,_,_⟩| ⟨_,rfl,c2,e2⟩)
 ·exact absurd Fu bO
 have m2:=m1.aI c2 e2 rfl
 have pg:ag S H H2:=(ff.trans (e1.mono fun z _ h=>hC z h)).trans (e2.mono fun z _ h=>hC z h)
 have el:∀a b,0<aG w a→0<aG w b→a≠x→b≠x→aQ (w.put x (y.1,k,s)) a b=aQ w a b:=fun a b ha hb uH mI=>dU hx _ ha hb uH mI
 have ex:∀b,0<aG w b→b≠x→aQ w x b=true→aQ (w.put x (y.1,k,s)) x b=true:=fun b hb mI h=>B4 bH hy fR hb mI h
 have dI:aG w x<tops.length:=by
  have:=((m.cells.hm x).2 ep).2
  have:=l.tl
  omega
 obtain⟨cc,lt,o2,q2,sI,ww,PQ⟩:=m2.gm
 have q3:=m2.fC q2 (eJ (tops:=tops) (h:=aG w x) (by omega) dI)
 rw[hw]
 refine v1 (ae o2) ?_
 refine⟨⟨by omega,by omega⟩,?_⟩
 refine v4 (ae q2) aqa aqd q3 ?_
 refine ar.dec (fun gt=>?_) (fun gt=>?_)<;>refine vs ?_
 ·have hu:par x= -1:=by
   have:=(l.t.tp.t1 (aG w x) (by rw[gt];omega)).2.2
   rwa[gt]at this
  refine .inr ⟨Cd,rfl,y,hy,cF.same ⟨B,C,L,tops,ch,par,rfl,m2,⟨?_,l.pl,l.tl⟩,hS⟩ pg⟩
  rw[hw]
  exact l.t.U6 hu el ex
 obtain⟨p,l1,l2,hp⟩:=l.below ep gt
 have po:=(l.t.off hp).low el ex
 refine(rz m2 (aw w) (by rw[hw];exact l.t.pr) l.pl hp).mono ?_
 rintro _ H4 ⟨L4,m4,p4,e4⟩
 have wF:ag S H H4:=pg.trans (e4.mono fun z _ h=>h▸t1)
 rw[←hw]at po
 have dI:aG (w.put x (y.1,k,s)) x<tops.length:=by rw[hw];exact dI
 have Tg:=po.g0
 refine vs ?_
 generalize hg:aG (w.put x (y.1,k,s)) x=g at*
 rw[←hw,hg]
 obtain⟨cc,lt,o4,q2,sI,ww,PQ⟩:=m4.gm
 have q3:=m4.fC q2 (eJ (tops:=tops) (h:=g) (by omega) dI)
 refine gP.intro (fun H'=>H'.own B.n=some [ptr B.c,.slice (some ⟨B.tb,0,none⟩) L4.length L4.length,.slice (some ⟨B.tp,0,none⟩) tops.length cc]) o4 ?_
 refine vs ?_
 refine dP.intro (.slice (some ⟨B.tp,0,none⟩) tops.length cc) (fun H' hI=>by refine v1 (ae hI) ?_;trivial) ?_
 refine v1 (ae o4) ?_
 refine And.intro o4 ?_
 refine vs ?_
 refine⟨⟨by omega,by omega⟩,?_⟩
 refine v4 (ae q2) aqa aqd q3 ?_
 refine And.intro o4 ?_
 refine vs ?_
 have bw:=po.w
 rw[show ws [bi tops g,x]=ws [bi tops g,x]++[] by simp]at bw
 refine(dt m4 bw p4).mono ?_
 rintro _ H5 ⟨r,L5,ch5,Ri,rfl,_,m5,w5,p5,e5⟩
 rw[aq2]at w5
 have bn:=po.done w5
 obtain⟨d1,d2,d3⟩:=m4.mG
 have no:¬ (C B.n∨B.n=B.tb):=by rintro(h|h);exact m4.out.1 h;omega
 refine And.intro (e5.own o4 no) ?_
 have q4:=e5.own q2 (by rintro(h|h);exact m4.out.2.2 h;omega)
 refine vs ?_
 refine⟨⟨by omega,by omega⟩,?_⟩
 refine v3 q4 aqa aqd ?_
 refine⟨by omega,?_⟩
 obtain⟨m6,e6⟩:=m5.lC q4 g.toNat r
 refine And.intro (e6.own (e5.own o4 no) d2) ?_
 refine vs ?_
 refine .inr ⟨Cd,rfl,y,hy,cF.same ⟨B,C,L5,_,ch5,Ri,rfl,m6,⟨?_,p5,by rw[aqe];exact l.tl⟩,hS⟩ ((wF.trans (e5.mono fun z _ h=>by rcases h with h|rfl;exact hC z h;exact t1)).trans (e6.mono fun z _ h=>h▸t2))⟩
 rw[eZ (by omega) dI]
 exact bn
theorem yi{n:Nat}{H:Hp}{S:Nat→Prop}{w:Nw}(h:dX n H S w)(x:Int):af Tryz.prog tX [ptr n,i64 x] H fun v H'=>ax (
  (¬df w.cs x∧v= .bool false∧cF (dX n) S H H' w)∨(df w.cs x∧v= .bool true∧cF (dX n) S H H' (w.put x (0,0,0)))):=by
 obtain⟨B,C,L,tops,ch,par,rfl,m,l,hS⟩:=id h
 have hC:∀z,C z→S z:=fun z h=>(hS z).2 (.inl h)
 have t1:S B.tb:=(hS _).2 (.inr (.inr (.inl rfl)))
 have t2:S B.tp:=(hS _).2 (.inr (.inr (.inr rfl)))
 obtain⟨tv,o0,_⟩:=m.own
 refine EL uh ⟨rfl,?_⟩
 refine v2 jS.eq_1 (ae o0) ?_
 refine(dH m.cells x).mono ?_
 rintro _ H1 (⟨bO,rfl,rfl⟩| ⟨bH,rfl,c1,e1⟩)
 ·refine vs ?_
  exact .inl ⟨bO,rfl,cF.same h (ag.refl _ _)⟩
 have m1:=m.aI c1 e1 rfl
 have ep:=bA.2 bH
 obtain⟨gB,qd,_⟩:=aF ep
 have Jl:x≠ -1:=by omega
 have ls:=aw w
 have cU:=fun y=>eI (w:=w) ⟨gB,qd⟩ (0,0,0) y
 have p0:aG (w.put x (0,0,0)) (-1)=0:=rfl
 have p1:aG (w.put x (0,0,0)) x=0:=by rw[cU,if_pos rfl]
 have p2:∀y,y≠x→aG (w.put x (0,0,0)) y=aG w y:=fun y hy=>by rw[cU,if_neg hy]
 have el:∀a b,0<aG w a→0<aG w b→a≠x→b≠x→aQ (w.put x (0,0,0)) a b=aQ w a b:=fun a b ha hb uH mI=>dU ⟨gB,qd⟩ _ ha hb uH mI
 have lJ:(w.put x (0,0,0)).cs.length=w.cs.length:=by simp[Nw.put]
 have dI:aG w x<tops.length:=by
  have:=((m.cells.hm x).2 ep).2
  have:=l.tl
  omega
 have Yp:ag S H H1:=e1.mono fun z _ h=>hC z h
 obtain⟨cc,lt,o1,q2,sI,ww,PQ⟩:=m1.gm
 have q3:=m1.fC q2 (eJ (tops:=tops) (h:=aG w x) (by omega) dI)
 obtain⟨d1,d2,d3⟩:=m1.mG
 have no:¬ (C B.n∨B.n=B.tb):=by rintro(h|h);exact m1.out.1 h;omega
 have no2:¬ (C B.tp∨B.tp=B.tb):=by rintro(h|h);exact m1.out.2.2 h;omega
 refine v1 (ae o1) ?_
 refine⟨⟨by omega,by omega⟩,?_⟩
 refine v4 (ae q2) aqa aqd q3 ?_
 refine ar.dec (fun gt=>?_) (fun gt=>?_)<;>refine vs ?_
 ·have hu:par x= -1:=by
   have:=(l.t.tp.t1 (aG w x) (by rw[gt];omega)).2.2
   rwa[gt]at this
  refine gP.intro (fun H'=>H'.own B.n=some [ptr B.c,.slice (some ⟨B.tb,0,none⟩) L.length L.length,.slice (some ⟨B.tp,0,none⟩) tops.length cc]) o1 ?_
  refine vs ?_
  refine dP.intro (.slice (some ⟨B.tp,0,none⟩) tops.length cc) (fun H' hI=>by refine v1 (ae hI) ?_;trivial) ?_
  refine vs ?_
  refine(jA m1 l.t.pr l.pl ep).mono ?_
  rintro _ H2 ⟨r,L2,lK,jx,rfl,m2,pl2,w2,e2⟩
  refine And.intro (e2.own o1 no) ?_
  have q4:=e2.own q2 no2
  refine vs ?_
  refine⟨⟨by omega,by omega⟩,?_⟩
  refine v3 q4 aqa aqd ?_
  refine⟨by omega,?_⟩
  obtain⟨m3,e3⟩:=m2.lC q4 (aG w x).toNat r
  refine And.intro (e3.own (e2.own o1 no) d2) ?_
  obtain⟨tv3,o3,_⟩:=m3.own
  refine v1 (ae o3) ?_
  refine(cw m3.cells x).mono ?_
  rintro _ H4 (⟨bO,_,_⟩| ⟨_,rfl,c4,e4⟩)
  ·exact absurd bH bO
  have m4:=m3.aI c4 e4 lJ
  refine vs ?_
  have w3:=w2.drop (x:=x) ⟨ep,hu⟩ (by rw[w2.fr x ⟨ep,hu⟩];unfold aA;rw[if_pos rfl]) ((w2.E5 x ep).2 (.inr ⟨ep,hu⟩)) p0 p1 p2 el
  refine .inr ⟨bH,rfl,cF.same ⟨B,C,L2,_,lK,jx,rfl,m4,⟨?_,pl2,by rw[aqe];exact l.tl⟩,hS⟩ (((Yp.trans (e2.mono fun z _ h=>by rcases h with h|rfl;exact hC z h;exact t1)).trans (e3.mono fun z _ h=>h▸t2)).trans (e4.mono fun z _ h=>hC z h))⟩
  rw[eZ (by omega) dI]
  refine⟨w3.pr,w3.done (fun h aR hh=>?_) (fun y hy=>?_)⟩
  ·obtain⟨g1,g2,g3⟩:=l.t.tp.t1 h hh
   have hn:bi tops h≠x:=fun e=>aR (by rw[←g1,e])
   exact⟨by rw[p2 _ hn];exact g1,g2,⟨by omega,g3⟩,hn⟩
  ·have h5:=l.t.tp.t2 y hy.1.1 hy.1.2
   rw[p2 _ hy.2]
   exact⟨fun e=>by rw[e,gt]at h5;exact hy.2 h5.symm,h5⟩
 obtain⟨p,l1,l2,hp⟩:=l.below ep gt
 have po:=l.t.off hp
 refine(rz m1 ls l.t.pr l.pl hp).mono ?_
 rintro _ H2 ⟨L2,m2,pl2,e2⟩
 have pg:ag S H H2:=Yp.trans (e2.mono fun z _ h=>h▸t1)
 have hu:=po.ox.2.2
 obtain⟨cc,lt,o2,q2,sI,ww,PQ⟩:=m2.gm
 have q3:=m2.fC q2 (eJ (tops:=tops) (h:=aG w x) (by omega) dI)
 refine vs ?_
 refine gP.intro (fun H'=>H'.own B.n=some [ptr B.c,.slice (some ⟨B.tb,0,none⟩) L2.length L2.length,.slice (some ⟨B.tp,0,none⟩) tops.length cc]) o2 ?_
 refine vs ?_
 refine dP.intro (.slice (some ⟨B.tp,0,none⟩) tops.length cc) (fun H' hI=>by refine v1 (ae hI) ?_;trivial) ?_
 refine vs ?_
 refine dP.intro (.slice (some ⟨B.tp,0,none⟩) tops.length cc) (fun H' hI=>by refine v1 (ae hI) ?_;trivial) ?_
 refine vs ?_
 refine⟨⟨by omega,by omega⟩,?_⟩
 refine vs ?_
 refine zg.intro ?_ ?_
 ·refine v4 (ae q2) aqa aqd q3 ?_
  refine And.intro o2 ?_
  refine vs ?_
  refine(jA m2 po.pr pl2 ep).mono ?_
  rintro _ H3 ⟨r,L3,Nu,pV,rfl,m3,Ux,w3,e3⟩
  refine And.intro (e3.own o2 no) ?_
  have q4:=e3.own q2 no2
  refine vs ?_
  have w4:=w3.bV (t:=bi tops (aG w x)) (fun hh=>by
   obtain⟨g1,g2,g3⟩:=po.t1 _ hh
   exact⟨⟨by omega,g3⟩,g1⟩)
  rw[←mR,show ws [bi tops (aG w x),r]=ws [bi tops (aG w x),r]++[] by simp]at w4
  refine(dt m3 w4 Ux).mono ?_
  rintro _ H4 ⟨r2,L4,VT,K6,rfl,_,m4,w5,Zj,e4⟩
  rw[aq2]at w5
  refine And.intro (e4.own (e3.own o2 no) no) ?_
  have q5:=e4.own q4 no2
  refine vs ?_
  refine⟨⟨by omega,by omega⟩,?_⟩
  refine v3 q5 aqa aqd ?_
  refine⟨by omega,?_⟩
  obtain⟨m5,e5⟩:=m4.lC q5 (aG w x).toNat r2
  refine And.intro (e5.own (e4.own (e3.own o2 no) no) d2) ?_
  obtain⟨tv5,o5,_⟩:=m5.own
  refine v1 (ae o5) ?_
  refine(cw m5.cells x).mono ?_
  rintro _ H6 (⟨bO,_,_⟩| ⟨_,rfl,c6,e6⟩)
  ·exact absurd bH bO
  have m6:=m5.aI c6 e6 lJ
  refine vs ?_
  have hR:(0<aG w x∧aK par x (-1) x= -1)∧x≠bi tops (aG w x):=⟨⟨ep,hu⟩,fun e=>po.nx e.symm⟩
  have AI:aA (aA ch p (l1++l2)) x [] x=[]:=by unfold aA;rw[if_pos rfl]
  have w6:=w5.drop (x:=x) hR (by rw[w5.fr x hR];exact AI) ((w5.E5 x ep).2 (.inr hR)) p0 p1 p2 el
  refine .inr ⟨bH,rfl,cF.same ⟨B,C,L4,_,VT,K6,rfl,m6,⟨?_,Zj,by rw[aqe];exact l.tl⟩,hS⟩ ((((pg.trans (e3.mono fun z _ h=>by rcases h with h|rfl;exact hC z h;exact t1)).trans (e4.mono fun z _ h=>by rcases h with h|rfl;exact hC z h;exact t1)).trans (e5.mono fun z _ h=>h▸t2)).trans (e6.mono fun z _ h=>hC z h))⟩
  rw[eZ (by omega) dI]
  refine⟨w6.pr,w6.done (fun h aR hh=>?_) (fun y hy=>?_)⟩
  ·obtain⟨g1,g2,g3⟩:=po.t1 h hh
   have hn:bi tops h≠x:=fun e=>aR (by rw[←g1,e])
   have GD:bi tops h≠bi tops (aG w x):=fun e=>by
    by_cases h4:bi tops (aG w x)= -1
    ·rw[e]at hh;exact hh h4
    ·have:=(po.t1 _ h4).1
     rw[←e,g1]at this
     exact aR this
   exact⟨by rw[p2 _ hn];exact g1,g2,⟨⟨by omega,g3⟩,GD⟩,hn⟩
  ·have h5:=po.t2 y hy.1.1.1 hy.1.1.2 hy.2
   rw[p2 _ hy.2]
   exact⟨fun e=>by rw[e]at h5;exact hy.1.2 h5.symm,h5⟩
 ·refine vs ?_
  refine(jA m2 po.pr pl2 ep).mono ?_
  rintro _ H3 ⟨r,L3,Nu,pV,rfl,m3,Ux,w3,e3⟩
  refine And.intro (e3.own o2 no) ?_
  have q4:=e3.own q2 no2
  refine vs ?_
  have q6:=m3.fC q4 (eJ (tops:=tops) (h:=aG w x) (by omega) dI)
  refine v4 (ae q4) aqa aqd q6 ?_
  refine And.intro (e3.own o2 no) ?_
  refine vs ?_
  have w4:=w3.bV (t:=bi tops (aG w x)) (fun hh=>by
   obtain⟨g1,g2,g3⟩:=po.t1 _ hh
   exact⟨⟨by omega,g3⟩,g1⟩)
  rw[←mR,show ws [bi tops (aG w x),r]=ws [bi tops (aG w x),r]++[] by simp]at w4
  refine(dt m3 w4 Ux).mono ?_
  rintro _ H4 ⟨r2,L4,VT,K6,rfl,_,m4,w5,Zj,e4⟩
  rw[aq2]at w5
  refine And.intro (e4.own (e3.own o2 no) no) ?_
  have q5:=e4.own q4 no2
  refine vs ?_
  refine⟨⟨by omega,by omega⟩,?_⟩
  refine v3 q5 aqa aqd ?_
  refine⟨by omega,?_⟩
  obtain⟨m5,e5⟩:=m4.lC q5 (aG w x).toNat r2
  refine And.intro (e5.own (e4.own (e3.own o2 no) no) d2) ?_
  obtain⟨tv5,o5,_⟩:=m5.own
  refine v1 (ae o5) ?_
  refine(cw m5.cells x).mono ?_
  rintro _ H6 (⟨bO,_,_⟩| ⟨_,rfl,c6,e6⟩)
  ·exact absurd bH bO
  have m6:=m5.aI c6 e6 lJ
  refine vs ?_
  have hR:(0<aG w x∧aK par x (-1) x= -1)∧x≠bi tops (aG w x):=⟨⟨ep,hu⟩,fun e=>po.nx e.symm⟩
  have AI:aA (aA ch p (l1++l2)) x [] x=[]:=by unfold aA;rw[if_pos rfl]
  have w6:=w5.drop (x:=x) hR (by rw[w5.fr x hR];exact AI) ((w5.E5 x ep).2 (.inr hR)) p0 p1 p2 el
  refine .inr ⟨bH,rfl,cF.same ⟨B,C,L4,_,VT,K6,rfl,m6,⟨?_,Zj,by rw[aqe];exact l.tl⟩,hS⟩ ((((pg.trans (e3.mono fun z _ h=>by rcases h with h|rfl;exact hC z h;exact t1)).trans (e4.mono fun z _ h=>by rcases h with h|rfl;exact hC z h;exact t1)).trans (e5.mono fun z _ h=>h▸t2)).trans (e6.mono fun z _ h=>hC z h))⟩
  rw[eZ (by omega) dI]
  refine⟨w6.pr,w6.done (fun h aR hh=>?_) (fun y hy=>?_)⟩
  ·obtain⟨g1,g2,g3⟩:=po.t1 h hh
   have hn:bi tops h≠x:=fun e=>aR (by rw[←g1,e])
   have GD:bi tops h≠bi tops (aG w x):=fun e=>by
    by_cases h4:bi tops (aG w x)= -1
    ·rw[e]at hh;exact hh h4
    ·have:=(po.t1 _ h4).1
     rw[←e,g1]at this
     exact aR this
   exact⟨by rw[p2 _ hn];exact g1,g2,⟨⟨by omega,g3⟩,GD⟩,hn⟩
  ·have h5:=po.t2 y hy.1.1.1 hy.1.1.2 hy.2
   rw[p2 _ hy.2]
   exact⟨fun e=>by rw[e]at h5;exact hy.1.2 h5.symm,h5⟩
theorem vX{n:Nat}{H:Hp}{S:Nat→Prop}{w:Nw}(h:dX n H S w)(g:Int):af Tryz.prog jc [ptr n,i64 g] H fun v H'=>ax (
  (w.len g=0∧v= .tuple [i64 0,.bool false].toArray∧cF (dX n) S H H' w)∨(∃x,w.first g x∧v= .tuple [i64 x,.bool true].toArray∧cF (dX n) S H H' (w.put x (0,0,0)))):=by
 refine bm sw ?_
 refine vs ?_
 refine(rA h g).mono ?_
 rintro _ _ ⟨⟨h0,rfl⟩| ⟨x,hx,rfl⟩,rfl⟩
 ·refine vs ?_
  exact .inl ⟨h0,rfl,cF.same h (ag.refl _ _)⟩
 ·refine vs ?_
  refine(yi h x).mono ?_
  rintro _ H1 (⟨bO,_,_⟩| ⟨_,rfl,h1⟩)
  ·exact absurd (bA.1 (by have:=bQ.1 hx;omega)) bO
  refine vs ?_
  exact .inr ⟨x,hx,rfl,h1⟩
theorem K7(n:Nat):yQ (.iface 158 (ptr n)) (dX n) where
 slt h:=h.slt
 ext h e hd:=h.ext e hd
 cells:=by
  rintro H S w ⟨B,C,L,tops,ch,par,rfl,m,l,hS⟩
  exact⟨B.c,C,m.cells⟩
 has:=by
  rintro H S w g ⟨B,C,L,tops,ch,par,rfl,m,l,hS⟩
  obtain⟨tv,ho,_⟩:=m.own
  exact⟨_,_,bG,ptr B.c,rfl,fW (off:=0) (by kernel_rfl) (ae ho) rfl,(iM m.cells g).mono fun v H' hp=>hp⟩
 make:=by
  intro H S w h
  exact⟨_,_,mj,ptr n,rfl,bF (by kernel_rfl),(Cv h).mono fun v H' hp=>hp⟩
 insert:=by
  intro H S w g x k s h
  exact⟨_,_,jJ,ptr n,rfl,bF (by kernel_rfl),(yg h g x k s).mono fun v H' hp=>hp⟩
 min:=by
  intro H S w g h
  refine⟨_,_,nE,ptr n,rfl,bF (by kernel_rfl),(rA h g).mono ?_⟩
  rintro v H' ⟨⟨h1,rfl⟩| ⟨x,h1,rfl⟩,rfl⟩
  ·exact .inl ⟨h1,rfl,cF.same h (ag.refl _ _)⟩
  ·exact .inr ⟨x,h1,rfl,cF.same h (ag.refl _ _)⟩
 extract:=by
  intro H S w g h
  exact⟨_,_,jc,ptr n,rfl,bF (by kernel_rfl),(vX h g).mono fun v H' hp=>hp⟩
 lD:=by
  intro H S w x k s h
  exact⟨_,_,iE,ptr n,rfl,bF (by kernel_rfl),(uD h x k s).mono fun v H' hp=>hp⟩
 entry:=by
  rintro H S w x ⟨B,C,L,tops,ch,par,rfl,m,l,hS⟩
  obtain⟨tv,ho,_⟩:=m.own
  refine⟨_,_,bb,ptr B.c,rfl,fW (off:=0) (by kernel_rfl) (ae ho) rfl,(gU m.cells x).mono ?_⟩
  rintro v H' ⟨c1,f,hv⟩
  exact⟨⟨B,C,L,tops,ch,par,rfl,m.fresh f,l,hS⟩,f,hv⟩
section
variable {H H' : Hp} {ro ro' : Nat → Rl} {fb tb n : Nat} {l : List Value} {V : Int → Value} {ch : Int → List Int} {par : Int → Int} {kb : Int → Option Nat} {T : Nat → Prop}
theorem vY(m:ForM H ro fb tb n l V ch par kb){a:Option Addr}{c:Nat}{xs:List Int}(h:db H 1 (.slice a xs.length c) xs.length (xs.map i64))(hr:∀x∈xs,(0≤x∧x<n)∧par x= -1)(hR:FO ch xs)(hm:xs.length≤1000000):
  af Tryz.prog zy [ptr fb,.slice a xs.length c] H fun v H'=>ax (v= .bool true∧H'=H):=by
 refine bm zX ?_
 refine vs ?_
 refine aY.intro (fun m env H'=>H'=H∧∃j:Nat,m=xs.length - j∧j≤xs.length∧env=[(0,ptr fb),(1,.slice a xs.length c),(7,.slice a xs.length c),(8,i64 xs.length),(9,i64 j)]) xs.length ⟨rfl,0,by omega,by omega,rfl⟩ ?_
 rintro mm env H1 ⟨e1,j,rfl,hj,rfl⟩
 obtain rfl:=e1.symm
 refine vs ?_
 refine ar.dec (fun aN=>?_) (fun aN=>?_)<;>refine vs ?_
 ·have ie:j<xs.length:=by omega
  obtain⟨x,hx⟩:∃x,xs[j]? =some x:=⟨_,aqb ie⟩
  obtain⟨_,b,o,lb,rfl,KD,cj⟩:=db.num h hx
  obtain⟨qd,OC⟩:=hr x (aqg hx)
  refine⟨⟨by omega,by omega⟩,?_⟩
  refine v4 KD Int.toNat_natCast aqd cj ?_
  refine(iq m.t x).mono ?_
  rintro _ H' ⟨rfl,e⟩
  obtain rfl:=e.symm
  rw[aqp qd,aqp OC]
  refine vs ?_
  refine ar.dec (fun h0=>?_) (fun h0=>?_)
  ·obtain⟨k,rfl⟩:∃k,j=k+1:=⟨j - 1,by omega⟩
   obtain⟨y,hy⟩:∃y,xs[k]? =some y:=⟨_,aqb (by omega)⟩
   obtain⟨_,b',o',Ys,AG,aij,Zl⟩:=db.num h hy
   injection AG with AG
   injection AG with aik Lv
   subst aik Lv
   have BU:(ch y).length< (ch x).length:=by
    have:=List.pairwise_iff_getElem.1 hR k (k+1) (by omega) (by omega) (by omega)
    rw[aqb (by omega)]at hx hy
    injection hx with hx
    injection hy with hy
    rw[hx,hy]at this
    exact this
   refine vs ?_
   rw[wrap64 (n:=((k+1:Nat):Int) - 1) (by omega) (by omega),show((k+1:Nat):Int) - 1=(k:Int) by omega]
   refine⟨⟨by omega,by omega⟩,?_⟩
   refine v4 aij Int.toNat_natCast aqd Zl ?_
   refine(dq m y).mono ?_
   rintro _ H' ⟨rfl,e⟩
   obtain rfl:=e.symm
   refine vs ?_
   refine(dq m x).mono ?_
   rintro _ H' ⟨rfl,e⟩
   obtain rfl:=e.symm
   refine vs ?_
   refine ar.dec (fun Nv=>by omega) (fun _=>?_)
   refine vs ?_
   rw[wrap64 (n:=((k+1:Nat):Int)+1) (by omega) (by omega)]
   exact⟨xs.length - (k+1+1),by omega,trivial,k+1+1,rfl,by omega,rfl⟩
  ·refine vs ?_
   rw[wrap64 (n:=(j:Int)+1) (by omega) (by omega)]
   exact⟨xs.length - (j+1),by omega,trivial,j+1,rfl,by omega,rfl⟩
 ·exact⟨rfl,rfl⟩
theorem rB(t:oo H fb tb n l V par){x:Int}(hx:0≤x∧x<n){kv:Value}{m:Nat}{ks:List Int}{fp:Option Nat}(s:Sl H 1 kv m (ks.map i64) fp)(eB:fp≠some tb)(bH:∀k∈ks,0≤k∧k<n)(hl:ks.length≤1000000):
  af Tryz.prog u9 [ptr fb,i64 x,kv] H fun v H'=>ax (∃l',oo H' fb tb n l' (vM V x kv) (fun z=>if z∈ks then x else par z)∧ag (fun z=>z=tb) H H'):=by
 obtain rfl:m=ks.length:=by
  have:=s.1
  rw[aqr,aqd]at this
  exact this.symm
 obtain⟨ka,kc,rfl⟩:=Sl.shape s
 have o8:=t.len
 refine bm vr ?_
 refine v1 (ae t.own) ?_
 refine⟨⟨by omega,by omega⟩,?_⟩
 refine v3 t.FP aqa Nat.add_zero ?_
 refine⟨by omega,?_⟩
 obtain⟨t1,e1⟩:=t.vM hx (.slice ka ks.length kc)
 refine vs ?_
 have s1:=s.ext e1 (fun b hb e=>eB (by rw[hb,e]))
 have uF:=t1.len
 generalize H.wr tb (l.set (x.toNat*2) (.slice ka ks.length kc))=H1 at*
 refine aY.intro (fun mm env H'=>∃ (j:Nat) (l':List Value),mm=ks.length - j∧j≤ks.length∧oo H' fb tb n l' (vM V x (.slice ka ks.length kc)) (fun z=>if z∈ks.take j then x else par z)∧ag (fun z=>z=tb) H1 H'∧
  env=[(0,ptr fb),(1,i64 x),(16,.slice ka ks.length kc),(17,i64 ks.length),(18,i64 j)]) ks.length ⟨0,_,by omega,by omega,by simpa using t1,ag.refl _ _,rfl⟩ ?_
 rintro mm env H2 ⟨j,l2,rfl,hj,t2,e2,rfl⟩
 have s2:=s1.ext e2 (fun b hb e=>eB (by rw[hb,e]))
 have tP:=t2.len
 refine vs ?_
 refine ar.dec (fun aN=>?_) (fun aN=>?_)<;>refine vs ?_
 ·have ie:j<ks.length:=by omega
  obtain⟨k,hk⟩:∃k,ks[j]? =some k:=⟨_,aqb ie⟩
  obtain⟨_,b,lb,rfl,q2,q3⟩:=Sl.Ao s2 hk
  have hkr:=bH k (aqg hk)
  refine⟨⟨by omega,by omega⟩,?_⟩
  refine v6 (ae q2) aqa aqd Int.toNat_natCast q3 (ae t2.own) ?_
  refine⟨⟨by omega,by omega⟩,?_⟩
  refine v3 t2.FP aqa Nat.add_zero ?_
  refine⟨by omega,?_⟩
  obtain⟨t3,e3⟩:=t2.aK hkr x
  refine vs ?_
  rw[wrap64 (n:=(j:Int)+1) (by omega) (by omega)]
  refine⟨ks.length - (j+1),by omega,j+1,l2.set (k.toNat*2+1) (i64 x),rfl,by omega,?_,e2.trans e3,rfl⟩
  have tk:ks.take (j+1)=ks.take j++[k]:=by rw[aqS,hk];rfl
  have:(fun z=>if z∈ks.take (j+1)then x else par z)=aK (fun z=>if z∈ks.take j then x else par z) k x:=by
   funext z
   unfold aK
   rw[tk]
   by_cases hz:z=k
   ·rw[if_pos (by simp[hz]),if_pos hz]
   ·rw[if_neg hz]
    by_cases h2:z∈ks.take j
    ·rw[if_pos (aqH _ h2)]
     exact(if_pos h2).symm
    ·rw[if_neg (by simp[h2,hz])]
     exact(if_neg h2).symm
  rw[this]
  exact t3
 ·obtain rfl:j=ks.length:=by omega
  rw[aqM]at t2
  exact⟨l2,t2,e1.trans e2⟩
theorem RK.kbs{s:Nat}(r:RK s ro ro'){z:Nat}(hz:z<s)(h:KB ro' z):KB ro z:=by
 rcases h with h| ⟨x,h⟩
 ·refine .inl ?_
  by_cases hk:∃x,ro z= .rH x
  ·obtain⟨x,hx⟩:=hk
   obtain⟨y,hy⟩:=r.k z x hz hx
   rw[hy]at h;cases h
  ·rw[←r.o z hz (fun x hx=>hk ⟨x,hx⟩)];exact h
 ·refine .inr ?_
  apply aqt
  intro hk
  rw[r.o z hz (fun x hx=>hk ⟨x,hx⟩)]at h
  exact hk ⟨x,h⟩
theorem D7(m:ForM H ro fb tb n l V ch par kb)(hz:∀z,H.size≤z→ro z= .no){x:Int}(hx:0≤x∧x<n)(px:par x= -1)(hl:(ch x).length≤65536):
  af Tryz.prog u0 [ptr fb,i64 x] H fun v H'=>ax (∃ro' l' V' ri fp,ForM H' ro' fb tb n l' V' (aA ch x []) (fP ch par x) ri∧RK H.size ro ro'∧(∀z,H'.size≤z→ro' z= .no)∧ag (KB ro) H H'∧
   Sl H' 1 v (ch x).length ((ch x).map i64) fp∧∀b,fp=some b→H.size≤b∧ro' b= .no):=by
 have ht:=m.t.len
 obtain⟨a1,a2⟩:=m.t.at_ x hx.1 hx.2
 have kx:=m.kd x hx.1 hx.2
 obtain⟨ka,kc,hvx⟩:=Sl.shape kx
 rw[hvx]at a1 kx
 refine bm vp ?_
 refine vs ?_
 refine(iq m.t x).mono ?_
 rintro _ H' ⟨rfl,e⟩
 obtain rfl:=e.symm
 rw[aqp hx,aqp px]
 refine v1 (ae m.t.own) ?_
 refine⟨⟨by omega,by omega⟩,?_⟩
 refine v5 (ae m.t.own) (ae m.t.FP) aqa Nat.add_zero a1 ?_
 refine⟨⟨by omega,by omega⟩,?_⟩
 refine v3 m.t.FP aqa Nat.add_zero ?_
 refine⟨by omega,?_⟩
 obtain⟨Zm,kb1,m1,r1,n1,e1⟩:=m.put hz hx (ag.refl _ H) (Sl.nil H 1) (w':=.slice none 0 0) (L':=[]) (.inr (.inl rfl)) (by simp)
 refine vs ?_
 have adE:∀b,kb x=some b→b≠tb:=fun b hb e=>by
  have:=m.rk x b hx.1 hx.2 hb
  rw[e,m.rt]at this
  cases this
 have s1:=kx.ext (m.t.vM hx (.slice none 0 0)).2 (fun b hb=>adE b hb)
 generalize H.wr tb (l.set (x.toNat*2) (.slice none 0 0))=H1 at*
 refine aY.intro (fun mm env H'=>∃ (j:Nat) (l':List Value),mm=(ch x).length - j∧j≤(ch x).length∧ForM H' Zm fb tb n l' (vM V x (.slice none 0 0)) (aA ch x []) (fun z=>if z∈(ch x).take j then -1 else par z) kb1∧ag (fun z=>z=tb) H1 H'∧
  env=[(0,ptr fb),(5,.slice ka (ch x).length kc),(27,.slice ka (ch x).length kc),(28,i64 (ch x).length),(29,i64 j)]) (ch x).length ⟨0,_,by omega,by omega,by simpa using m1,ag.refl _ _,rfl⟩ ?_
 rintro mm env H2 ⟨j,l2,rfl,hj,m2,e2,rfl⟩
 have s2:=s1.ext e2 (fun b hb=>adE b hb)
 have tP:=m2.t.len
 have hrt:Zm tb= .table:=m2.rt
 refine vs ?_
 refine ar.dec (fun aN=>?_) (fun aN=>?_)<;>refine vs ?_
 ·have ie:j< (ch x).length:=by omega
  obtain⟨k,hk⟩:∃k,(ch x)[j]? =some k:=⟨_,aqb ie⟩
  obtain⟨_,b,lb,rfl,q2,q3⟩:=Sl.Ao s2 hk
  have hkr:=m.HU x k (aqg hk)
  refine⟨⟨by omega,by omega⟩,?_⟩
  refine v6 (ae q2) aqa aqd Int.toNat_natCast q3 (ae m2.t.own) ?_
  refine⟨⟨by omega,by omega⟩,?_⟩
  refine v3 m2.t.FP aqa Nat.add_zero ?_
  refine⟨by omega,?_⟩
  obtain⟨m3,_⟩:=m2.aK hkr (-1)
  obtain⟨_,e3⟩:=m2.t.aK hkr (-1)
  refine vs ?_
  rw[wrap64 (n:=(j:Int)+1) (by omega) (by omega)]
  refine⟨(ch x).length - (j+1),by omega,j+1,l2.set (k.toNat*2+1) (i64 (-1)),rfl,by omega,?_,e2.trans e3,rfl⟩
  have tk:(ch x).take (j+1)=(ch x).take j++[k]:=by rw[aqS,hk];rfl
  have:(fun z=>if z∈(ch x).take (j+1)then(-1:Int)else par z)=aK (fun z=>if z∈(ch x).take j then -1 else par z) k (-1):=by
   funext z
   unfold aK
   rw[tk]
   by_cases hz:z=k
   ·rw[if_pos (by simp[hz]),if_pos hz]
   ·rw[if_neg hz]
    by_cases h2:z∈(ch x).take j
    ·rw[if_pos (aqH _ h2)]
     exact(if_pos h2).symm
    ·rw[if_neg (by simp[h2,hz])]
     exact(if_neg h2).symm
  rw[this]
  exact m3
 ·obtain rfl:j=(ch x).length:=by omega
  rw[aqM]at m2
  refine(B3 s2.rd (by omega)).mono ?_
  rintro v H3 ⟨f3,fp,s3,eB⟩
  have z2:=e2.size
  have z1:=e1.size
  have z3:=f3.size
  refine vs ?_
  refine⟨Zm,l2,_,kb1,fp,m2.fresh f3,r1,fun z ed=>n1 z (by omega),?_,s3,fun b hb=>⟨by have:=eB b hb;omega,n1 b (by have:=eB b hb;omega)⟩⟩
  exact(e1.trans (e2.mono fun z ed h=>.inl (by rw[h];exact m.rt))).trans (f3.mono fun _ _ h=>h.elim)
def mL(j k:Nat):List Value:=(List.replicate j [Value.slice none 0 0,Value.int .i64 (-1)]).flatten++(List.replicate k [Value.slice none 0 0,Value.int .i64 0]).flatten
theorem wH(j:Nat)(a b:Value):((List.replicate j [a,b]).flatten).length=j*2:=by
 induction j with
 |zero=>rfl
 |succ j ih=>rw[aqQ,aq4,aqj,ih];simp;omega
theorem TE{j i:Nat}(a b:Value)(hi:i<j):((List.replicate j [a,b]).flatten)[i*2]? =some a∧((List.replicate j [a,b]).flatten)[i*2+1]? =some b:=by
 induction j generalizing i with
 |zero=>omega
 |succ j ih=>
  rw[aqQ,aq4]
  cases i with
  |zero=>exact⟨rfl,rfl⟩
  |succ i=>
   have:=ih (i:=i) (by omega)
   rw[show(i+1)*2=i*2+1+1 by omega]
   exact this
theorem Rj(j k:Nat):(mL j k).length=(j+k)*2:=by unfold mL;rw[aqj,wH,wH];omega
theorem Rk(j k:Nat):(mL j (k+1)).set (j*2+1) (Value.int .i64 (-1))=mL (j+1) k:=by
 unfold mL
 rw[asa _ _ (by rw[wH];omega),wH,show j*2+1 - j*2=1 by omega,aqQ,aq4,ar1,List.flatten_append]
 simp
theorem HC(H:Hp){n:Int}(hn:0≤n∧n≤65536):af Tryz.prog Ml [i64 n] H fun v H'=>ax (∃fb tb l,v= .tuple [ptr fb,i64 0].toArray∧oo H' fb tb n.toNat l (fun _=>.slice none 0 0) (fun _=> -1)∧ah H H'∧H.size≤fb∧H.size≤tb):=by
 refine bm Mv ?_
 refine vs ?_
 refine ar.dec (fun g=>absurd g (by omega)) (fun _=>?_)
 refine vs ?_
 refine ar.dec (fun g=>absurd g (by omega)) (fun _=>?_)
 refine vs ?_
 refine⟨⟨by omega,by omega,by omega,by omega⟩,?_⟩
 refine vs ?_
 rw[show aV [Value.slice none 0 0,Value.int .i64 0] n.toNat=mL 0 n.toNat from rfl]
 obtain⟨N,hN⟩:∃N:Nat,n=(N:Int):=⟨n.toNat,by omega⟩
 subst hN
 rw[Int.toNat_natCast]
 have f0:ah H ((H.new 278 (mL 0 N)).new 276 [.slice (some ⟨H.size,0,none⟩) N N]):=((ag.refl _ _).new _ _).new _ _
 have t0:((H.new 278 (mL 0 N)).new 276 [.slice (some ⟨H.size,0,none⟩) N N]).own (H.size+1)=some [.slice (some ⟨H.size,0,none⟩) N N]:=bz (by simp only[am])
 have t1:((H.new 278 (mL 0 N)).new 276 [.slice (some ⟨H.size,0,none⟩) N N]).own H.size=some (mL 0 N):=by
  rw[cA (by simp only[am];omega),az]
 generalize (H.new 278 (mL 0 N)).new 276 [.slice (some ⟨H.size,0,none⟩) N N]=H0 at*
 refine aY.intro (fun m env H'=>∃j:Nat,m=N - j∧j≤N∧ag (fun z=>z=H.size) H0 H'∧H'.own H.size=some (mL j (N - j))∧
  env=[(4,ptr (H.size+1)),(20,i64 N),(21,i64 j)]) N ⟨0,by omega,by omega,ag.refl _ _,t1,rfl⟩ ?_
 rintro m env H1 ⟨j,rfl,hj,e1,h1,rfl⟩
 have o1:=e1.own t0 (by omega)
 have uF:=Rj j (N - j)
 refine vs ?_
 refine ar.dec (fun aN=>?_) (fun aN=>?_)<;>refine vs ?_
 ·refine v1 (ae o1) ?_
  refine⟨⟨by omega,by omega⟩,?_⟩
  refine v4 h1 aqa Nat.add_zero Int.toNat_natCast ?_
  refine⟨by omega,?_⟩
  refine vs ?_
  have e2:ag (fun z=>z=H.size) H1 (H1.wr H.size ((mL j (N - j)).set (j*2+1) (Value.int .i64 (-1)))):=(ag.refl (fun z=>z=H.size) _).wr (fun _=>rfl) _
  have q2:(H1.wr H.size ((mL j (N - j)).set (j*2+1) (Value.int .i64 (-1)))).own H.size=some ((mL j (N - j)).set (j*2+1) (Value.int .i64 (-1))):=ai h1
  rw[wrap64 (n:=(j:Int)+1) (by omega) (by omega)]
  refine⟨N - (j+1),by omega,j+1,rfl,by omega,e1.trans e2,?_,rfl⟩
  rw[q2,show N - j=(N - (j+1))+1 by omega,Rk]
 ·obtain rfl:j=N:=by omega
  refine⟨H.size+1,H.size,_,rfl,⟨o1,h1,by rw[uF];omega,fun x h0 hx=>?_,by omega⟩,f0.then e1 (fun z hz=>by omega),by omega,by omega⟩
  unfold mL
  rw[ari,asd,List.flatten_nil,aq2]
  exact TE _ _ (by omega)
end
end Go.Proofs.YthpjfeolagohkaaGreat
