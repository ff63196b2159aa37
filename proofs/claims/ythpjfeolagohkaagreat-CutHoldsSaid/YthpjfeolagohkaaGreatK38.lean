/- Texts put behind each other. -/
import Derived.Test.YthpjfeolagohkaaGreatK98
import Derived.Test.YthpjfeolagohkaaGreatK0
import Derived.Test.YthpjfeolagohkaaGreatK1
import Derived.Test.YthpjfeolagohkaaGreatK22
import Derived.Test.YthpjfeolagohkaaGreatK30
import Derived.Test.YthpjfeolagohkaaGreatK31
import Derived.Test.YthpjfeolagohkaaGreatK32
import Derived.Test.YthpjfeolagohkaaGreatK36
import Derived.Test.YthpjfeolagohkaaGreatK37
set_option maxRecDepth 100000
set_option maxHeartbeats 8000000
set_option linter.unusedVariables false
set_option linter.unusedSimpArgs false
namespace Go.Proofs.YthpjfeolagohkaaGreat
open Go Go.Vc
theorem I0{n:Nat}{H:Hp}{S:Nat→Prop}{w:Nw}(h:iO n H S w):af Tryz.prog jK [ptr n] H fun v H'=>ax (
  (w.hs.length=65537∧v=i64 0∧cF (iO n) S H H' w)∨(w.hs.length≠65537∧v=i64 w.hs.length∧cF (iO n) S H H' w.make)):=by
 obtain⟨B,C,N,P,L,tops,ch,par,ay,rfl,m,l,hS⟩:=id h
 obtain⟨tv,ho,AL⟩:=m.own
 refine bm uj ?_
 refine v1 (ae ho) ?_
 refine(js m.cells).mono ?_
 rintro _ H1 (⟨h1,rfl,rfl⟩| ⟨h1,rfl,C',c1,e1,Au⟩)
 ·refine vs ?_
  exact .inl ⟨h1,rfl,cF.same h (ag.refl _ _)⟩
 have gA:=m.cells.pos
 have hhs:=m.cells.AL
 have Nt:=l.tl
 have slt:=m.slt
 have M3:=c1.slt
 obtain⟨n1,n2,n3,n4,n5,n6⟩:=m.out
 obtain⟨⟨d1,d2,d3,d4,d5⟩,⟨d6,d7,d8,d9⟩,⟨d10,d11,d12⟩⟩:=m.mG
 have o1:=e1.own ho n1
 refine vs ?_
 refine ar.cP (aqp (by omega)) ?_
 refine v1 (ae o1) ?_
 have s1:=AL.ext e1 (fun b hb=>by injection hb with hb;exact hb▸n6)
 refine SE s1 (-1) (by omega) fun w' H2 b' lI s2 e2=>?_
 have o2:=e2.own o1 d5
 obtain⟨wa,wc,PR⟩:=Sl.shape s2
 subst PR
 refine v1 o2 ?_
 generalize PR:Value.slice wa (tops++[-1]).length wc=w' at*
 have e3:ag (fun z=>z=B.n) H2 (H2.wr B.n [ptr B.c,ptr B.r,.slice (some ⟨B.tb,0,none⟩) L.length L.length,w']):=(ag.refl (fun z=>z=B.n) _).wr (fun _=>rfl) _
 have z1:=e1.size
 have q1:=slt _ (.inr (.inl rfl))
 have q2:=slt _ (.inr (.inr (.inl rfl)))
 have q3:=slt _ (.inr (.inr (.inr (.inl rfl))))
 have q4:=slt _ (.inr (.inr (.inr (.inr (.inl rfl)))))
 have q5:=slt _ (.inr (.inr (.inr (.inr (.inr (.inl rfl))))))
 have q6:=slt _ (.inr (.inr (.inr (.inr (.inr (.inr rfl))))))
 have Ha:∀z,C' z→z≠b'∧(z<H.size→C z):=fun z hz=>by
  have h5:=M3 z hz
  rcases Au z hz with h6|h6
  ·refine⟨fun e=>?_,fun _=>h6⟩
   rcases lI with h7|h7
   ·exact n6 (by rw[←h7,←e];exact h6)
   ·omega
  ·exact⟨by omega,fun h=>by omega⟩
 refine .inr ⟨h1,rfl,(FB.mk B.n B.c B.r B.nb B.pb B.tb b').S C',⟨⟨B.n,B.c,B.r,B.nb,B.pb,B.tb,b'⟩,C',N,P,L,tops++[-1],ch,par,ay,rfl,⟨⟨w',ai o2,s2.ext e3 (fun b hb=>by injection hb with hb;omega)⟩,?_,?_,m.inv,?_,m.len,?_,?_⟩,⟨l.f,l.pc,fun g=>by rw[B5];exact l.tp g,fun g y hg hy=>by rw[B5];exact l.ls g y hg hy,?_⟩,fun z=>Iff.rfl⟩,?_,fun z hz=>?_⟩
 ·exact(c1.ext e2 (fun x hx e=>by
   rcases Au x hx with h6|h6
   ·exact n6 (e▸h6)
   ·omega)).ext e3 (fun x hx e=>by
   rcases Au x hx with h6|h6
   ·exact n1 (e▸h6)
   ·omega)
 ·exact((m.ring.ext e1 n2 n3 n4).ext e2 (Ne.symm d10) (Ne.symm d11) (Ne.symm d12)).ext e3 (Ne.symm d1) (Ne.symm d2) (Ne.symm d3)
 ·exact e3.own (e2.own (e1.own m.places n5) d9) (Ne.symm d4)
 ·refine⟨⟨d1,d2,d3,d4,?_⟩,⟨d6,d7,d8,?_⟩,⟨?_,?_,?_⟩⟩<;>simp only<;>omega
 ·exact⟨fun h=>n1 ((Ha _ h).2 q1),fun h=>n2 ((Ha _ h).2 q2),fun h=>n3 ((Ha _ h).2 q3),fun h=>n4 ((Ha _ h).2 q4),fun h=>n5 ((Ha _ h).2 q5),fun h=>(Ha _ h).1 rfl⟩
 ·simp[Nw.make,Nt]
 ·exact((e1.mono fun z _ h=>(hS z).2 (.inl h)).trans (e2.mono fun z _ h=>(hS z).2 (.inr (.inr (.inr (.inr (.inr (.inr h)))))))).trans (e3.mono fun z _ h=>(hS z).2 (.inr (.inl h)))
 ·rcases hz with hz|hz|hz|hz|hz|hz|hz
  ·rcases Au z hz with h6|h6
   ·exact .inl ((hS z).2 (.inl h6))
   ·exact .inr h6
  ·exact .inl ((hS _).2 (.inr (.inl hz)))
  ·exact .inl ((hS _).2 (.inr (.inr (.inl hz))))
  ·exact .inl ((hS _).2 (.inr (.inr (.inr (.inl hz)))))
  ·exact .inl ((hS _).2 (.inr (.inr (.inr (.inr (.inl hz))))))
  ·exact .inl ((hS _).2 (.inr (.inr (.inr (.inr (.inr (.inl hz)))))))
  ·rcases lI with h7|h7
   ·exact .inl ((hS _).2 (.inr (.inr (.inr (.inr (.inr (.inr (hz.trans h7))))))))
   ·exact .inr (by have hz:z=b':=hz;omega)
def uI(n i:Nat):List Int:=(List.range i).map (fun(k:Nat)=>(k:Int))++List.replicate (n - i) 0
theorem wG{n i:Nat}(h:i≤n):(uI n i).length=n:=by unfold uI;simp;omega
theorem VJ{n i:Nat}(h:i<n):(uI n i).set i (i:Int)=uI n (i+1):=by
 unfold uI
 rw[asa _ _ (by simp),aqr,List.length_range,ari,show n - i=(n - (i+1))+1 by omega,aqQ,arv,List.range_succ,aqy]
 simp
theorem Hv(n:Nat)(x:Int):cz (uI n n) x=x:=by
 unfold cz
 split
 ·rename_i h
  rw[wG (aqm _)]at h
  unfold uI
  rw[ari,asd,aq2,aqf,aqz,List.getElem?_range (by omega)]
  simp
  omega
 ·rfl
theorem I1(H:Hp){n:Int}(hn:0≤n∧n≤65536):af Tryz.prog N9 [i64 n] H fun v H'=>ax (∃r nb pb N P,v= .tuple [ptr r,i64 0].toArray∧gv H' r nb pb N P∧N.length=n.toNat∧(∀x,cz N x=x)∧B7 (cz N) (cz P)∧ah H H'∧H.size≤r∧H.size≤nb∧H.size≤pb):=by
 refine bm Oe ?_
 refine vs ?_
 refine ar.dec (fun g=>absurd g (by omega)) (fun _=>?_)
 refine vs ?_
 refine ar.dec (fun g=>absurd g (by omega)) (fun _=>?_)
 refine vs ?_
 have hz:(List.replicate n.toNat (0:Int))=uI n.toNat 0:=by unfold uI;simp
 refine gP.intro (fun H'=>True) trivial ?_
 refine vs ?_
 refine zg.intro ?A ?B
 case' A=>
  refine vs ?_
  refine⟨⟨by omega,by omega,by omega,by omega⟩,?_⟩
  refine vs ?_
  refine⟨⟨by omega,by omega,by omega,by omega⟩,?_⟩
  refine vs ?_
  rw[Cb,hz]
  obtain⟨nb,GF⟩:∃nb,nb=H.size:=⟨_,rfl⟩
  obtain⟨pb,QX⟩:∃pb,pb=H.size+1:=⟨_,rfl⟩
  have f0:ah H (((H.new 3 ((uI n.toNat 0).map i64)).new 3 ((uI n.toNat 0).map i64)).new 280 [.slice (some ⟨H.size,0,none⟩) n.toNat n.toNat,.slice (some ⟨H.size+1,0,none⟩) n.toNat n.toNat]):=(((ag.refl _ _).new _ _).new _ _).new _ _
  have h0:gv (((H.new 3 ((uI n.toNat 0).map i64)).new 3 ((uI n.toNat 0).map i64)).new 280 [.slice (some ⟨H.size,0,none⟩) n.toNat n.toNat,.slice (some ⟨H.size+1,0,none⟩) n.toNat n.toNat]) (H.size+1+1) nb pb (uI n.toNat 0) (uI n.toNat 0):=by
   subst GF QX
   refine⟨?_,?_,?_,rfl,by omega,by omega,by omega⟩
   ·rw[wG (arU _)];exact bz (by simp only[am])
   ·rw[cA (by simp only[am];omega),cA (by simp only[am];omega),az]
   ·rw[cA (by simp only[am];omega)];exact bz (by simp only[am])
  generalize ((H.new 3 ((uI n.toNat 0).map i64)).new 3 ((uI n.toNat 0).map i64)).new 280 [.slice (some ⟨H.size,0,none⟩) n.toNat n.toNat,.slice (some ⟨H.size+1,0,none⟩) n.toNat n.toNat]=H0 at*
  have YN:H.size≤nb∧H.size≤pb:=⟨by omega,by omega⟩
 case' B=>
  refine vs ?_
  refine⟨⟨by omega,by omega,by omega,by omega⟩,?_⟩
  refine vs ?_
  refine⟨⟨by omega,by omega,by omega,by omega⟩,?_⟩
  refine vs ?_
  rw[Cb,hz]
  obtain⟨nb,GF⟩:∃nb,nb=H.size+1:=⟨_,rfl⟩
  obtain⟨pb,QX⟩:∃pb,pb=H.size:=⟨_,rfl⟩
  have f0:ah H (((H.new 3 ((uI n.toNat 0).map i64)).new 3 ((uI n.toNat 0).map i64)).new 280 [.slice (some ⟨H.size+1,0,none⟩) n.toNat n.toNat,.slice (some ⟨H.size,0,none⟩) n.toNat n.toNat]):=(((ag.refl _ _).new _ _).new _ _).new _ _
  have h0:gv (((H.new 3 ((uI n.toNat 0).map i64)).new 3 ((uI n.toNat 0).map i64)).new 280 [.slice (some ⟨H.size+1,0,none⟩) n.toNat n.toNat,.slice (some ⟨H.size,0,none⟩) n.toNat n.toNat]) (H.size+1+1) nb pb (uI n.toNat 0) (uI n.toNat 0):=by
   subst GF QX
   refine⟨?_,?_,?_,rfl,by omega,by omega,by omega⟩
   ·rw[wG (arU _)];exact bz (by simp only[am])
   ·rw[cA (by simp only[am];omega)];exact bz (by simp only[am])
   ·rw[cA (by simp only[am];omega),cA (by simp only[am];omega),az]
  generalize ((H.new 3 ((uI n.toNat 0).map i64)).new 3 ((uI n.toNat 0).map i64)).new 280 [.slice (some ⟨H.size+1,0,none⟩) n.toNat n.toNat,.slice (some ⟨H.size,0,none⟩) n.toNat n.toNat]=H0 at*
  have YN:H.size≤nb∧H.size≤pb:=⟨by omega,by omega⟩
 all_goals
  refine aY.intro (fun m env H'=>∃j:Nat,m=n.toNat - j∧j≤n.toNat∧ag (fun z=>z=nb∨z=pb) H0 H'∧gv H' (H.size+1+1) nb pb (uI n.toNat j) (uI n.toNat j)∧
   env=[(4,ptr (H.size+1+1)),(18,i64 n),(19,i64 j)]) n.toNat ⟨0,by omega,by omega,ag.refl _ _,h0,rfl⟩ ?_
  rintro m env H1 ⟨j,rfl,hj,e1,h1,rfl⟩
  have uF:=wG hj
  obtain⟨d1,d2,d3⟩:=h1.ne
  refine vs ?_
  refine ar.dec (fun aN=>?_) (fun aN=>?_)<;>refine vs ?_
  ·refine v1 (ae h1.own) ?_
   refine⟨⟨by omega,by omega⟩,?_⟩
   refine v4 h1.PU aqa aqd Int.toNat_natCast ?_
   refine⟨by rw[aqr];omega,?_⟩
   refine vs ?_
   have e2:ag (fun z=>z=nb) H1 (H1.wr nb (((uI n.toNat j).map i64).set j (i64 j))):=(ag.refl (fun z=>z=nb) _).wr (fun _=>rfl) _
   have q2:(H1.wr nb (((uI n.toNat j).map i64).set j (i64 j))).own nb=some (((uI n.toNat j).map i64).set j (i64 j)):=ai h1.PU
   generalize H1.wr nb (((uI n.toNat j).map i64).set j (i64 j))=H2 at*
   have p2:=e2.own h1.WP (Ne.symm d3)
   refine⟨⟨by omega,by omega⟩,?_⟩
   refine v5 p2 h1.WP aqa aqd Int.toNat_natCast ?_
   refine⟨by rw[aqr];omega,?_⟩
   refine vs ?_
   have e3:ag (fun z=>z=pb) H2 (H2.wr pb (((uI n.toNat j).map i64).set j (i64 j))):=(ag.refl (fun z=>z=pb) _).wr (fun _=>rfl) _
   have q3:(H2.wr pb (((uI n.toNat j).map i64).set j (i64 j))).own pb=some (((uI n.toNat j).map i64).set j (i64 j)):=ai p2
   have MT:((uI n.toNat j).map i64).set j (i64 j)=(uI n.toNat (j+1)).map i64:=by rw[←VJ (by omega),aqP]
   rw[wrap64 (n:=(j:Int)+1) (by omega) (by omega)]
   refine⟨n.toNat - (j+1),by omega,j+1,rfl,by omega,(e1.trans (e2.mono fun z _ h=>.inl h)).trans (e3.mono fun z _ h=>.inr h),⟨?_,?_,?_,rfl,h1.ne⟩,rfl⟩
   ·have ho:=e3.own (e2.own h1.own d1) d2
    rw[uF]at ho
    rw[wG (by omega)]
    exact ho
   ·rw[←MT];exact e3.own q2 d3
   ·rw[←MT];exact q3
  ·obtain rfl:j=n.toNat:=by omega
   exact⟨_,nb,pb,_,_,rfl,h1,wG (aqm _),Hv _,⟨fun x=>by rw[Hv,Hv],fun x=>by rw[Hv,Hv]⟩,f0.then e1 (fun z hz=>by rcases hz with h|h<;>omega),by omega,YN.1,YN.2⟩
theorem Cm{n:Nat}{H:Hp}{S:Nat→Prop}{w:Nw}(h:iO n H S w)(x k s:Int):af Tryz.prog gF [ptr n,i64 x,uw k s] H fun v H'=>ax (
  (¬w.dm x k s∧v= .bool false∧cF (iO n) S H H' w)∨(w.dm x k s∧v= .bool true∧∃y,w.cs[x.toNat]? =some y∧cF (iO n) S H H' (w.put x (y.1,k,s)))):=by
 obtain⟨B,C,N,P,L,tops,ch,par,ay,rfl,m,l,hS⟩:=h
 have hC:∀z,C z→S z:=fun z h=>(hS z).2 (.inl h)
 have WQ:S B.nb:=(hS _).2 (.inr (.inr (.inr (.inl rfl))))
 have IY:S B.pb:=(hS _).2 (.inr (.inr (.inr (.inr (.inl rfl)))))
 have tb3:S B.tb:=(hS _).2 (.inr (.inr (.inr (.inr (.inr (.inl rfl))))))
 have tb4:S B.tp:=(hS _).2 (.inr (.inr (.inr (.inr (.inr (.inr rfl))))))
 refine bm oF ?_
 refine vs ?_
 have f0:ah H (H.new 182 [i64 k,u64 s]):=(ag.refl _ _).new _ _
 have b0:(H.new 182 [i64 k,u64 s]).own H.size=some [i64 k,u64 s]:=az _ _ _
 have m0:=m.fresh f0
 generalize H.new 182 [i64 k,u64 s]=H0 at*
 have ff:ag S H H0:=f0.mono fun _ _ h=>h.elim
 obtain⟨tv,IS,_⟩:=m0.own
 refine v2 (ae IS) (ae b0) ?_
 refine(gW m0.cells x k s).mono ?_
 rintro _ H1 (⟨bO,rfl,c1,e1⟩| ⟨bH,rfl,y,hy,fR,c1,e1⟩)
 ·refine vs ?_
  exact .inl ⟨bO,rfl,cF.same ⟨B,C,N,P,L,tops,ch,par,ay,rfl,m0.ext e1 (fun _ _ h=>h),l,hS⟩ (ff.trans (e1.mono fun _ _ h=>h.elim))⟩
 have lJ:(w.put x (y.1,k,s)).cs.length=w.cs.length:=by simp[Nw.put]
 have m1:=m0.aI c1 e1 lJ
 have Cd:w.dm x k s:=⟨bH,fun z hz=>by rw[hy]at hz;injection hz with hz;rw[←hz];exact fR⟩
 have hx:0≤x∧x<w.cs.length:=⟨bH.1,by have:=(aqc.1 hy).1;have:=bH.1;omega⟩
 have RH:aG w x=y.1:=kg bH.1 hy
 have ep:=bA.2 bH
 have hw:aG (w.put x (y.1,k,s))=aG w:=by
  funext z
  rw[eI hx]
  split
  ·rename_i e;rw[e,RH]
  ·rfl
 have Fu:df (w.put x (y.1,k,s)).cs x:=bA.1 (by rw[hw];exact ep)
 have el:∀a b,0<aG w a→0<aG w b→a≠x→b≠x→aQ (w.put x (y.1,k,s)) a b=aQ w a b:=fun a b ha hb uH mI=>dU hx _ ha hb uH mI
 have ex:∀b,0<aG w b→b≠x→aQ w x b=true→aQ (w.put x (y.1,k,s)) x b=true:=fun b hb mI h=>B4 bH hy fR hb mI h
 have ls:=aw w
 have Uu:=aw (w.put x (y.1,k,s))
 obtain⟨g,hg⟩:∃g,g=aG w x:=⟨_,rfl⟩
 have dI:g<tops.length:=by
  have:=((m.cells.hm x).2 ep).2
  have:=l.tl
  omega
 have CN:∀z,aG w z=g→bi tops g≠ -1∧(z≠bi tops g→aQ w (bi tops g) z=true):=fun z hz=>l.ls g z (by omega) hz
 obtain⟨FJ,HR⟩:=CN x hg.symm
 obtain⟨T,hT⟩:∃T,T=bi tops g:=⟨_,rfl⟩
 rw[←hT]at FJ HR CN
 have Za:=ep
 have hhl:(w.put x (y.1,k,s)).hs.length=w.hs.length:=by simp[Nw.put]
 obtain⟨A,hr⟩:∃A,ay g=T::A:=by
  have h1:=l.tp g
  rw[←hT]at h1
  cases hc:ay g with
  |nil=>rw[hc]at h1;exact absurd h1 FJ
  |cons c r=>rw[hc]at h1;exact⟨r,by rw[show T=c from h1]⟩
 have hTg:=(l.f.rm g T (by rw[hr];simp)).1
 have hTp:=(l.f.rm g T (by rw[hr];simp)).2.1
 have hT0:0<aG w T:=by omega
 generalize PR:w.put x (y.1,k,s)=w' at*
 obtain⟨DO,o1,_⟩:=m1.own
 refine v1 (ae o1) ?_
 refine(dH m1.cells x).mono ?_
 rintro _ H2 (⟨bO,_,_⟩| ⟨_,rfl,c2,e2⟩)
 ·exact absurd Fu bO
 have m2:=m1.aI c2 e2 rfl
 have pg:ag S H H2:=(ff.trans (e1.mono fun z _ h=>hC z h)).trans (e2.mono fun z _ h=>hC z h)
 rw[hw,←hg]
 obtain⟨OK,o2,_⟩:=m2.own
 have tP:=m2.len
 have xX:0≤x∧x<w'.cs.length:=by rw[lJ];exact hx
 obtain⟨a0,a1,a2,a3,a4⟩:=m2.rd xX
 obtain⟨ux,_,_⟩:=l.pc x
 rw[ux]at a1
 refine v1 (ae o2) ?_
 refine⟨⟨by omega,by omega⟩,?_⟩
 refine v4 (ae m2.places) aqa Nat.add_zero a1 ?_
 have e0:aA ay g (T::A)=ay:=by
  funext z
  unfold aA
  split
  ·rename_i e;rw[e,hr]
  ·rfl
 have Lm:(par x= -1∨aQ w' (par x) x=true)→eK (aG w') (aQ w') (cz N) ch par (aA ay g (T::A)) []:=fun Lj=>by
  rw[e0,hw]
  refine l.f.other fun z c hc h1 h2 h3=>?_
  by_cases hz:z=x
  ·rw[hz]at h3 hc ⊢
   exact ex c h2 (fun e=>by rw[e,ls.Es]at h3;cases h3) h3
  ·by_cases AI:c=x
   ·rw[AI]at hc ⊢
    obtain⟨d1,d2,_⟩:=l.f.pr.dn z x hc
    rcases Lj with h|h
    ·rw[h]at d1;exact absurd d1.symm d2
    ·rw[←d1];exact h
   ·rw[el _ _ (by omega) h2 hz AI];exact h3
 refine ar.dec (fun h0=>?A) (fun h0=>?B)
 case' A=>
  refine vs ?_
  obtain⟨H3,eH⟩:∃H3,H3=H2:=⟨_,rfl⟩
  rw[←eH]at m2 pg ⊢
  obtain⟨N3,P3,L3,Nu,pV,A3,m3,f3,p3,e3⟩:∃N' P' L' dS bD A',cd H3 B C w' N' P' L' tops∧eK (aG w') (aQ w') (cz N') dS bD (aA ay g (T::A')) []∧Lo (fi L') dS bD∧ag S H H3:=⟨N,P,L,ch,par,A,m2,Lm (.inl h0),l.pc,pg⟩
 case' B=>
  have hpc:=l.f.pr.up x _ rfl h0
  obtain⟨_,_,hph,No,AO⟩:=l.f.pr.dn _ _ hpc
  have ep:par x≠x:=fun e=>by rw[e,ls.Es]at AO;cases AO
  refine v1 (ae o2) ?_
  refine(cN m2.cells x (par x)).mono ?_
  rintro _ H4 ⟨rfl,c4,e4⟩
  have m4:=m2.aI c4 e4 rfl
  have wF:=pg.trans (e4.mono fun z _ h=>hC z h)
  rw[gX (w:=w') (a:=x) (b:=par x) (by rw[hw];exact Za) (by rw[hw];omega)]
  cases aN:aQ w' x (par x)
  case' false=>
   refine vs ?_
   obtain⟨H3,eH⟩:∃H3,H3=H4:=⟨_,rfl⟩
   rw[←eH]at m4 wF ⊢
   obtain⟨N3,P3,L3,Nu,pV,A3,m3,f3,p3,e3⟩:∃N' P' L' dS bD A',cd H3 B C w' N' P' L' tops∧eK (aG w') (aQ w') (cz N') dS bD (aA ay g (T::A')) []∧Lo (fi L') dS bD∧ag S H H3:=⟨N,P,L,ch,par,A,m4,Lm (.inr ((Uu.PA (par x) x ep).resolve_right (by rw[aN];simp))),l.pc,wF⟩
  case' true=>
   refine vs ?_
   refine(Fw m4 ls (x:=x) (g:=g) (t:=T) (A:=A) (by rw[hw];exact l.f) l.pc (by rw[hw];exact hg.symm) (by omega) dI hr hT.symm).mono ?_
   rintro _ H3 ⟨N3,P3,L3,Nu,pV,A3,m3,f3',p3,u3,_,e5⟩
   have e3:=wF.trans (e5.mono fun z _ h=>by
    rcases h with h|h|h
    ·exact h▸WQ
    ·exact h▸IY
    ·exact h▸tb3)
   have f3:eK (aG w') (aQ w') (cz N3) Nu pV (aA ay g (T::A3)) []:=by
    refine f3'.other fun z c hc h1 h2 h3=>?_
    rw[hw]at h1 h2
    have AI:c≠x:=fun e=>by
     obtain⟨d1,d2,_⟩:=f3'.pr.dn z c hc
     rw[e,u3]at d1
     exact d2 d1.symm
    by_cases hz:z=x
    ·rw[hz]at h3 ⊢
     exact ex c h2 AI h3
    ·rw[el _ _ (by omega) h2 hz AI];exact h3
   refine vs ?_
 all_goals
  have UE:aA ay g (T::A3) g=T::A3:=by unfold aA;rw[if_pos rfl]
  obtain⟨cc,lt3,o3,q3,sI,ww,PQ⟩:=m3.gm
  have q4:=m3.fC q3 (eJ (tops:=tops) (h:=g) (by omega) dI)
  rw[←hT]at q4
  refine v1 (ae o3) ?_
  refine⟨⟨by omega,by omega⟩,?_⟩
  refine v4 (ae q3) aqa aqd q4 ?_
  have CK:∀g2 z,g2≠g→0<g2→aG w' z=g2→bi tops g2≠ -1∧(z≠bi tops g2→aQ w' (bi tops g2) z=true):=fun g2 z aR CR hz=>by
   rw[hw]at hz
   obtain⟨h1,h2⟩:=l.ls g2 z CR hz
   refine⟨h1,fun VK=>?_⟩
   have h5:aG w (bi tops g2)=g2:=by
    have hm:bi tops g2∈ay g2:=by
     have:=l.tp g2
     rw[this]at h1 ⊢
     exact eW h1
    exact(l.f.rm g2 _ hm).1
   rw[el _ _ (by omega) (by omega) (fun e=>by rw[e]at h5;omega) (fun e=>by rw[e]at hz;omega)]
   exact h2 VK
  have htp:∀g2,bi tops g2=(aA ay g (T::A3) g2).headD (-1):=fun g2=>by
   unfold aA
   split
   ·rename_i e;rw[e,←hT];rfl
   ·exact l.tp g2
  refine ar.dec (fun h5=>?_) (fun h5=>?_)
  ·refine vs ?_
   refine .inr ⟨Cd,rfl,y,hy,?_⟩
   rw[PR]
   refine cF.same ⟨B,C,N3,P3,L3,tops,Nu,pV,_,rfl,m3,⟨f3,p3,htp,fun g2 z CR hz=>?_,by rw[l.tl,hhl]⟩,hS⟩ e3
   by_cases h6:g2=g
   ·rw[h6,←hT]
    refine⟨FJ,fun VK=>?_⟩
    rw[hw,h6]at hz
    have h7:=(CN z hz).2 VK
    rw[h5]at h7 VK ⊢
    exact ex z (by omega) VK h7
   ·exact CK g2 z h6 CR hz
  refine v1 (ae o3) ?_
  refine⟨⟨by omega,by omega⟩,?_⟩
  refine v4 (ae q3) aqa aqd q4 ?_
  refine(cN m3.cells x T).mono ?_
  rintro _ H6 ⟨rfl,c6,e6⟩
  have m6:=m3.aI c6 e6 rfl
  have JD:=e3.trans (e6.mono fun z _ h=>hC z h)
  rw[gX (w:=w') (a:=x) (b:=T) (by rw[hw];exact Za) (by rw[hw];omega)]
  cases BU:aQ w' x T
  ·refine vs ?_
   refine .inr ⟨Cd,rfl,y,hy,?_⟩
   rw[PR]
   refine cF.same ⟨B,C,N3,P3,L3,tops,Nu,pV,_,rfl,m6,⟨f3,p3,htp,fun g2 z CR hz=>?_,by rw[l.tl,hhl]⟩,hS⟩ JD
   by_cases h6:g2=g
   ·rw[h6,←hT]
    refine⟨FJ,fun VK=>?_⟩
    rw[hw,h6]at hz
    by_cases h8:z=x
    ·rw[h8];exact(Uu.PA T x h5).resolve_right (by rw[BU];simp)
    ·rw[el _ _ (by omega) (by omega) h5 h8]
     exact(CN z hz).2 VK
   ·exact CK g2 z h6 CR hz
  ·obtain⟨cc,lt6,o6,q6,sI,ww,PQ⟩:=m6.gm
   refine v1 (ae o6) ?_
   refine⟨⟨by omega,by omega⟩,?_⟩
   refine v3 q6 aqa aqd ?_
   refine⟨by omega,?_⟩
   obtain⟨m7,e7⟩:=m6.lC q6 g.toNat x
   refine vs ?_
   have Lq:pV x= -1:=by
    apply aqt
    intro hp
    obtain⟨_,d2,d3,d4,d5⟩:=f3.pr.dn _ _ (f3.pr.up x _ rfl hp)
    rw[hw]at d3 d4
    by_cases e:pV x=T
    ·rw[e]at d5
     rw[Uu.asym d5]at BU;cases BU
    ·have h9:=(CN (pV x) (by omega)).2 e
     have ah8:pV x≠x:=fun e=>by rw[e,Uu.Es]at d5;cases d5
     rw[←el _ _ (by omega) (by omega) h5 ah8]at h9
     rw[Uu.asym (Uu.tr _ _ _ h9 d5)]at BU;cases BU
   have hxm:x∈aA ay g (T::A3) g:=by
    rcases f3.E5 x (by rw[hw];exact Za) Lq with h|h
    ·rw[hw,←hg]at h;exact h
    ·cases h
   obtain⟨A7,_,f7⟩:=f3.from_ hxm
   rw[fg]at f7
   refine .inr ⟨Cd,rfl,y,hy,?_⟩
   rw[PR]
   refine cF.same ⟨B,C,N3,P3,L3,_,Nu,pV,_,rfl,m7,⟨f7,p3,fun g2=>?_,fun g2 z CR hz=>?_,by rw[aqe,l.tl,hhl]⟩,hS⟩ (JD.trans (e7.mono fun z _ h=>h▸tb4))
   ·rw[eZ (by omega) dI]
    unfold jj aA
    split
    ·rfl
    ·exact l.tp g2
   ·rw[eZ (by omega) dI]
    unfold jj
    by_cases h6:g2=g
    ·rw[if_pos h6]
     refine⟨by omega,fun VK=>?_⟩
     rw[hw,h6]at hz
     by_cases h8:z=T
     ·rw[h8];exact BU
     ·have h9:=(CN z hz).2 h8
      rw[←el _ _ (by omega) (by omega) h5 VK]at h9
      exact Uu.tr _ _ _ BU h9
    ·rw[if_neg h6]
     exact CK g2 z h6 CR hz
theorem VL(k:Nat):aV [Value.int .i64 0,Value.int .i64 0,Value.int .i64 0,Value.bool false] k=aJ (List.replicate k ⟨0,0,0,false⟩):=by
 unfold aV aJ
 induction k with
 |zero=>rfl
 |succ k ih=>rw[aqQ,aqQ,aq4,arN,ih];rfl
theorem KW(cap:Int)(H:Hp):af Tryz.prog EN [i64 cap] H fun v H'=>ax (
  ah H H'∧((¬ (0≤cap∧cap≤65536)∧v= .tuple [.pointer none,i64 31].toArray)∨
   ((0≤cap∧cap≤65536)∧∃n S,v= .tuple [ptr n,i64 0].toArray∧iO n H' S (As cap)∧∀x,S x→H.size≤x))):=by
 refine bm ET ?_
 refine vs ?_
 refine(lA cap H).mono ?_
 rintro _ H1 ⟨f1,⟨hb,rfl⟩| ⟨hb,c,C,rfl,c1,hC⟩⟩
 ·refine vs ?_
  exact⟨f1,.inl ⟨hb,rfl⟩⟩
 refine vs ?_
 refine(I1 H1 hb).mono ?_
 rintro _ H2 ⟨r,nb,pb,N,P,rfl,r2,hN,hid,hinv,f2,hr,GF,QX⟩
 have c2:=c1.fresh f2
 refine v1 aqZ ?_
 refine⟨⟨by omega,by omega,by omega,by omega⟩,?_⟩
 refine vs ?_
 rw[VL]
 have yJ:=c1.slt
 have z1:=f1.size
 have z2:=f2.size
 have hrs:r<H2.size∧nb<H2.size∧pb<H2.size:=⟨aB r2.own,aB r2.PU,aB r2.WP⟩
 obtain⟨rn1,rn2,rn3⟩:=r2.ne
 have f3:ah H2 (((H2.new 235 (aJ (List.replicate cap.toNat ⟨0,0,0,false⟩))).new 3 [Value.int .i64 (-1)]).new 233 [ptr c,ptr r,.slice (some ⟨H2.size,0,none⟩) cap.toNat cap.toNat,.slice (some ⟨H2.size+1,0,none⟩) 1 1]):=(((ag.refl _ _).new _ _).new _ _).new _ _
 have e1:ag (fun _=>False) (H2.new 235 (aJ (List.replicate cap.toNat ⟨0,0,0,false⟩))) (((H2.new 235 (aJ (List.replicate cap.toNat ⟨0,0,0,false⟩))).new 3 [Value.int .i64 (-1)]).new 233 [ptr c,ptr r,.slice (some ⟨H2.size,0,none⟩) cap.toNat cap.toNat,.slice (some ⟨H2.size+1,0,none⟩) 1 1]):=((ag.refl _ _).new _ _).new _ _
 have e2:ag (fun _=>False) ((H2.new 235 (aJ (List.replicate cap.toNat ⟨0,0,0,false⟩))).new 3 [Value.int .i64 (-1)]) (((H2.new 235 (aJ (List.replicate cap.toNat ⟨0,0,0,false⟩))).new 3 [Value.int .i64 (-1)]).new 233 [ptr c,ptr r,.slice (some ⟨H2.size,0,none⟩) cap.toNat cap.toNat,.slice (some ⟨H2.size+1,0,none⟩) 1 1]):=(ag.refl _ _).new _ _
 obtain⟨B,hB⟩:∃B:FB,B=⟨H2.size+1+1,c,r,nb,pb,H2.size,H2.size+1⟩:=⟨_,rfl⟩
 have m0:cd (((H2.new 235 (aJ (List.replicate cap.toNat ⟨0,0,0,false⟩))).new 3 [Value.int .i64 (-1)]).new 233 [ptr c,ptr r,.slice (some ⟨H2.size,0,none⟩) cap.toNat cap.toNat,.slice (some ⟨H2.size+1,0,none⟩) 1 1]) B C (As cap) N P (List.replicate cap.toNat ⟨0,0,0,false⟩) [-1]:=by
  subst hB
  refine⟨⟨.slice (some ⟨H2.size+1,0,none⟩) 1 1,?_,?_⟩,c2.fresh f3,r2.ext f3 (fun h=>h) (fun h=>h) (fun h=>h),hinv,?_,?_,?_,?_⟩
  ·rw[aqV]
   exact bz (by simp only[am])
  ·exact(Sl.bU (size:=1) (n:=1) (xs:=[i64 (-1)]) rfl (by simp only[am])).ext e2 (fun _ _ h=>h)
  ·exact e1.own (az _ _ _) (fun h=>h)
  ·simp[As,hN]
  ·refine⟨⟨?_,?_,?_,?_,?_⟩,⟨?_,?_,?_,?_⟩,⟨?_,?_,?_⟩⟩<;>simp only<;>omega
  ·refine⟨fun h=>?_,fun h=>?_,fun h=>?_,fun h=>?_,fun h=>?_,fun h=>?_⟩<;>(have h2:=yJ _ h;first|omega| (simp only at h2;omega))
 have Fo:B.n=H2.size+1+1:=by rw[hB]
 have hBs:∀z,B.S C z→H1.size≤z∨C z:=fun z hz=>by
  rcases hz with hz|rfl|rfl|rfl|rfl|rfl|rfl
  ·exact .inr hz
  all_goals rw[hB];left;first|omega| (simp only;omega)
 have hBt:B.tb=H2.size:=by rw[hB]
 have ft:=(f1.trans f2).trans f3
 generalize ((H2.new 235 (aJ (List.replicate cap.toNat ⟨0,0,0,false⟩))).new 3 [Value.int .i64 (-1)]).new 233 [ptr c,ptr r,.slice (some ⟨H2.size,0,none⟩) cap.toNat cap.toNat,.slice (some ⟨H2.size+1,0,none⟩) 1 1]=H3 at*
 have tQ:(As cap).cs.length=cap.toNat:=by simp[As]
 rw[←Fo]
 refine aY.intro (fun m env H'=>∃ (j:Nat) (L':List Pc),m=cap.toNat - j∧j≤cap.toNat∧ag (fun z=>z=B.tb) H3 H'∧cd H' B C (As cap) N P L' [-1]∧(∀z:Int,0≤z→z<j→fi L' z=oK)∧
  env=[(5,i64 0),(7,ptr B.n),(33,i64 (cap.toNat:Nat)),(34,i64 j)]) cap.toNat ⟨0,_,by omega,by omega,ag.refl _ _,m0,fun z h0 h1=>by omega,rfl⟩ ?_
 rintro m env H4 ⟨j,L4,rfl,hj,e4,m4,g4,rfl⟩
 obtain⟨cc,lt4,o4,_⟩:=m4.gm
 have PX:=m4.len
 refine vs ?_
 refine ar.dec (fun aN=>?_) (fun aN=>?_)<;>refine vs ?_
 ·refine gP.intro (fun H'=>H'.own B.n=some [ptr B.c,ptr B.r,.slice (some ⟨B.tb,0,none⟩) L4.length L4.length,.slice (some ⟨B.tp,0,none⟩) [(-1:Int)].length cc]) o4 ?_
  refine vs ?_
  refine dP.intro (.slice (some ⟨B.tb,0,none⟩) L4.length L4.length) (fun H' hI=>by refine v1 (ae hI) ?_;trivial) ?_
  refine vs ?_
  refine(vT H4).mono ?_
  rintro _ H5 ⟨rfl,e5⟩
  have o5:=e5.own o4 (fun h=>h)
  refine And.intro o5 ?_
  have m5:=m4.fresh e5
  refine vs ?_
  refine⟨⟨by omega,by omega⟩,?_⟩
  obtain⟨b0,_⟩:=m5.rd (x:=(j:Int)) (by omega)
  obtain⟨L6,k6,m6,e6⟩:=m5.OX (x:=(j:Int)) (by omega) oK
  refine v2 m5.places aqa ?_
  refine⟨by omega,?_⟩
  rw[show bh (aJ L4) ((j:Int).toNat*4) (aH (Value.agg #[i64 (-1),i64 (-1),i64 0,Value.bool false]))=bh (aJ L4) ((j:Int).toNat*4) [i64 oK.u,i64 oK.k,i64 oK.d,.bool oK.m]from rfl]
  have yL:=m5.mG.1.2.2.2.1
  generalize H5.wr B.tb (bh (aJ L4) ((j:Int).toNat*4) [i64 oK.u,i64 oK.k,i64 oK.d,.bool oK.m])=H6 at*
  refine vs ?_
  refine And.intro (e6.own o5 yL) ?_
  refine vs ?_
  refine⟨cap.toNat - (j+1),by omega,j+1,L6,rfl,by omega,(e4.trans (e5.mono fun _ _ h=>h.elim)).trans e6,m6,fun z h0 h1=>?_,?_⟩
  ·rw[k6]
   unfold mZ
   split
   ·rfl
   ·exact g4 z h0 (by omega)
  ·rw[wrap64 (n:=(j:Int)+1) (by omega) (by omega)]
   rfl
 ·obtain rfl:j=cap.toNat:=by omega
  have hpc:∀z,fi L4 z=oK:=fun z=>by
   by_cases hz:0≤z∧z< (cap.toNat:Int)
   ·exact g4 z hz.1 hz.2
   ·unfold fi
    split
    ·rw[aqo (by omega)];rfl
    ·rfl
  refine⟨ft.then e4 (fun z hz=>by omega),.inr ⟨hb,B.n,B.S C,rfl,⟨B,C,N,P,L4,[-1],fun _=>[],fun _=> -1,fun _=>[],rfl,m4,⟨⟨⟨rfl,fun x c hc=>absurd hc (by simp),fun c x h hx=>absurd (Eq.symm h) hx,fun x=>art⟩,
   fun x=>trivial,fun h=>trivial,fun h=>art,fun h c hc=>absurd hc (by simp),art,fun c hc=>absurd hc (by simp),fun c hc=>absurd hc (lE cap c),fun c _=>hid c⟩,fun x=>by rw[hpc];exact⟨rfl,rfl,rfl⟩,
   fun g=>DR g,fun g y hg hy=>absurd (show 0<aG (As cap) y by omega) (lE cap y),rfl⟩,fun z=>Iff.rfl⟩,fun z hz=>?_⟩⟩
  rcases hBs z hz with h|h
  ·omega
  ·exact hC z h
theorem Tx(n:Nat):yQ (.iface 162 (ptr n)) (iO n) where
 slt h:=h.slt
 ext h e hd:=h.ext e hd
 cells:=by
  rintro H S w ⟨B,C,N,P,L,tops,ch,par,ay,rfl,m,l,hS⟩
  exact⟨B.c,C,m.cells⟩
 has:=by
  rintro H S w g ⟨B,C,N,P,L,tops,ch,par,ay,rfl,m,l,hS⟩
  obtain⟨tv,ho,_⟩:=m.own
  exact⟨_,_,bG,ptr B.c,rfl,fW (off:=0) (by kernel_rfl) (ae ho) rfl,(iM m.cells g).mono fun v H' hp=>hp⟩
 make:=by
  intro H S w h
  exact⟨_,_,jK,ptr n,rfl,bF (by kernel_rfl),(I0 h).mono fun v H' hp=>hp⟩
 insert:=by
  intro H S w g x k s h
  exact⟨_,_,iF,ptr n,rfl,bF (by kernel_rfl),(Fx h g x k s).mono fun v H' hp=>hp⟩
 min:=by
  intro H S w g h
  refine⟨_,_,kW,ptr n,rfl,bF (by kernel_rfl),(Cl h g).mono ?_⟩
  rintro v H' ⟨⟨h1,rfl⟩| ⟨x,h1,rfl⟩,rfl⟩
  ·exact .inl ⟨h1,rfl,cF.same h (ag.refl _ _)⟩
  ·exact .inr ⟨x,h1,rfl,cF.same h (ag.refl _ _)⟩
 extract:=by
  intro H S w g h
  exact⟨_,_,gS,ptr n,rfl,bF (by kernel_rfl),(D1 h g).mono fun v H' hp=>hp⟩
 lD:=by
  intro H S w x k s h
  exact⟨_,_,gF,ptr n,rfl,bF (by kernel_rfl),(Cm h x k s).mono fun v H' hp=>hp⟩
 entry:=by
  rintro H S w x ⟨B,C,N,P,L,tops,ch,par,ay,rfl,m,l,hS⟩
  obtain⟨tv,ho,_⟩:=m.own
  refine⟨_,_,bb,ptr B.c,rfl,fW (off:=0) (by kernel_rfl) (ae ho) rfl,(gU m.cells x).mono ?_⟩
  rintro v H' ⟨c1,f,hv⟩
  exact⟨⟨B,C,N,P,L,tops,ch,par,ay,rfl,m.fresh f,l,hS⟩,f,hv⟩
theorem vV(n:Nat)(H:Hp):af Tryz.prog wT [ptr n,i64 0] H fun v H'=>ax (v= .tuple [.iface 150 (ptr n),i64 0].toArray∧H'=H):=by
 refine bm xn ?_
 refine v1 aqZ ?_
 exact⟨rfl,rfl⟩
theorem yd(n:Nat)(H:Hp):af Tryz.prog pD [ptr n,i64 0] H fun v H'=>ax (v= .tuple [.iface 162 (ptr n),i64 0].toArray∧H'=H):=by
 refine bm pH ?_
 refine v1 aqZ ?_
 exact⟨rfl,rfl⟩
def Ty(kd dd:Int):Prop:=∀ (cap:Int),(0≤cap∧cap≤65536)→∀H:Hp,af Tryz.prog Jt [OO kd dd,i64 cap] H fun v H'=>ax (∃t vv I Sn,v= .tuple [.iface t vv,i64 0].toArray∧yQ (.iface t vv) I∧I H' Sn (As cap)∧ah H H'∧∀z,Sn z→H.size≤z)
def Ra(cap:Int)(mo:Nat):Ar:=⟨List.replicate cap.toNat (0,false),[],0,0,mo⟩
theorem KX{kd dd cap:Int}{mo:Nat}(hf:jw kd dd)(Ek:Ty kd dd)(hc:0≤cap∧cap≤65536)(hm:0<mo∧mo≤4294967295)(H:Hp):af Tryz.prog QB [OO kd dd,i64 cap,.int .u32 (mo:Int)] H fun v H'=>ax (∃s S,v= .tuple [ptr s,i64 0].toArray∧Fq H' s S (As cap) (Ra cap mo) 0∧ah H H'∧∀z,S z→H.size≤z):=by
 refine bm QC ?_
 refine vs ?_
 have f0:ah H (H.new 23 [i64 kd,i64 dd]):=(ag.refl _ _).new _ _
 have o0:(H.new 23 [i64 kd,i64 dd]).own H.size=some [i64 kd,i64 dd]:=az _ _ _
 have z0:(H.new 23 [i64 kd,i64 dd]).size=H.size+1:=am _ _ _
 generalize H.new 23 [i64 kd,i64 dd]=H0 at*
 refine(ot kd dd H0).mono ?_
 rintro _ H1 ⟨rfl,f1⟩
 rw[Q3 hf]
 have o1:=f1.own o0 (fun h=>h)
 have z1:=f1.size
 refine vs ?_
 refine ar.dec (fun _=>?_) (fun hh=>absurd trivial hh)
 refine vs ?_
 refine(G3 H1 hc hm).mono ?_
 rintro _ H2 ⟨B,rfl,m2,f2,hB⟩
 have o2:=f2.own o1 (fun h=>h)
 have z2:=f2.size
 refine vs ?_
 refine ar.dec (fun _=>?_) (fun hh=>absurd trivial hh)
 refine v1 (ae o2) ?_
 refine(Ek _ hc H2).mono ?_
 rintro _ H3 ⟨t,vv,I,Sn,rfl,n,hi,f3,RN⟩
 have o3:=f3.own o2 (fun h=>h)
 have z3:=f3.size
 refine vs ?_
 refine ar.dec (fun _=>?_) (fun hh=>absurd trivial hh)
 refine v1 (ae o3) ?_
 have hsB:=m2.slt
 have hsN:=fun z hz=>n.slt hi z hz
 have f4:ah H3 (H3.new 117 [i64 kd,i64 dd,ptr B.a,.iface t vv,u64 0]):=(ag.refl _ _).new _ _
 have b4:(H3.new 117 [i64 kd,i64 dd,ptr B.a,.iface t vv,u64 0]).own H3.size=some [i64 kd,i64 dd,ptr B.a,.iface t vv,u64 0]:=az _ _ _
 refine⟨H3.size,fun z=>Sn z∨B.S z∨z=H3.size,rfl,⟨t,vv,I,Sn,B,kd,dd,n,n.ext hi f4 (fun _ _ h=>h),(m2.ext f3 (fun _ _ h=>h)).ext f4 (fun _ _ h=>h),b4,fun z hz=>⟨fun h=>?_,?_⟩,fun h=>?_,fun z=>Iff.rfl,⟨by simp[As,Ra],fun x=>?_⟩⟩,(((f0.trans f1).trans f2).trans f3).trans f4,fun z hz=>?_⟩
 ·have:=hsB z h
  have:=RN z hz
  omega
 ·have:=hsN z hz
  omega
 ·have:=hsB _ h
  omega
 ·constructor
  ·intro h
   exact absurd (bA.2 h) (lE cap x)
  ·rintro⟨h0,h1⟩
   simp only[Ra,arp]at h1
   split at h1<;>simp at h1
 ·rcases hz with h|h|h
  ·have:=RN z h;omega
  ·have:=hB z h;omega
  ·omega
abbrev OZ:Shape:=.s [(0,(none,.int)),(1,(none,.int))]
def Cn(H:Hp)(b:Nat)(L:List ((Int×Nat)×Value)):Prop:=∃es k,H.mp b=some (es,k)∧es.map (fun e=>(e.key,e.val))=L.map (fun p=>(gI p.1.1 p.1.2,p.2))∧(L.map (·.1)).Nodup
theorem Cn.ext{H H':Hp}{b:Nat}{L:List ((Int×Nat)×Value)}{S:Nat→Prop}(h:Cn H b L)(e:ag S H H')(hs:¬S b):Cn H' b L:=by
 obtain⟨es,k,h1,h2⟩:=h
 exact⟨es,k,e.mp h1 hs,h2⟩
theorem Cn.lt{H:Hp}{b:Nat}{L:List ((Int×Nat)×Value)}(h:Cn H b L):b<H.size:=by
 obtain⟨es,k,h1,h2⟩:=h
 exact Px h1
theorem VM(a b:Int×Nat):rG OZ (gI a.1 a.2) (gI b.1 b.2)=some (decide (a=b)):=by
 obtain⟨x,g⟩:=a
 obtain⟨y,h⟩:=b
 simp only[rG,Fj,O0,aqE,aq6,bE,if_pos rfl]
 by_cases e:x=y
 ·by_cases e2:g=h
  ·simp[e,e2,bE]
  ·have:¬ ((g:Int)=(h:Int)):=by omega
   simp[e,e2,this,bE]
 ·simp[e,bE]
theorem JL(a:Int×Nat):∀ (es:List MapEntry) (L:List ((Int×Nat)×Value)),es.map (fun e=>(e.key,e.val))=L.map (fun p=>(gI p.1.1 p.1.2,p.2))→(L.map (·.1)).Nodup→∀n:Nat,
  (a∉L.map (·.1)→fV OZ (gI a.1 a.2) es n=some none)∧(∀v,(a,v)∈L→∃j,fV OZ (gI a.1 a.2) es n=some (some (j,v))):=by
 intro es
 induction es with
 |nil=>
  intro L hL _ n
  cases L with
  |nil=>exact⟨fun _=>rfl,fun v h=>by cases h⟩
  |cons p L=>simp at hL
 |cons e es ih=>
  intro L hL hd n
  cases L with
  |nil=>simp at hL
  |cons p L=>
   rw[aqY,aqY]at hL
   injection hL with h1 h2
   injection h1 with h1 h3
   rw[aqY,aqu]at hd
   have hq:rG OZ (gI a.1 a.2) e.key=some (decide (a=p.1)):=by rw[h1];exact VM a p.1
   obtain⟨i1,i2⟩:=ih L h2 hd.2 (n+1)
   refine⟨fun hn=>?_,fun v hv=>?_⟩
   ·rw[aqY,aqC,not_or]at hn
    rw[fV,hq,aqA hn.1]
    exact i1 hn.2
   ·by_cases e2:a=p.1
    ·rw[fV,hq,aqp e2]
     rcases aqC.1 hv with h|h
     ·refine⟨n,?_⟩
      simp only
      rw[h3,←h]
     ·exact absurd (aqK.2 ⟨(a,v),h,e2⟩) hd.1
    ·rw[fV,hq,aqA e2]
     rcases aqC.1 hv with h|h
     ·exact absurd (by rw[←h]) e2
     ·exact i2 v h
theorem JM(x:Int)(g:Nat):Co OZ (gI x g)=true:=rfl
theorem Cn.look{H:Hp}{b:Nat}{L:List ((Int×Nat)×Value)}(h:Cn H b L){a:Int×Nat}{v:Value}(hv:(a,v)∈L){F:Option Value→Prop}(hF:F (some v)):yo H OZ (some b) (gI a.1 a.2) F:=by
 obtain⟨es,k,h1,h2,h3⟩:=h
 unfold yo
 simp only[h1,nA]
 obtain⟨j,hj⟩:=(JL a es L h2 h3 0).2 v hv
 rw[hj]
 exact hF
theorem Cn.lZ{H:Hp}{b:Nat}{L:List ((Int×Nat)×Value)}(h:Cn H b L){a:Int×Nat}{v:Value}(hn:a∉L.map (·.1)){F:Hp→Prop}(hk:∀H',Cn H' b (L++[(a,v)])→ag (fun x=>x=b) H H'→F H'):Sg H OZ b (gI a.1 a.2) v F:=by
 obtain⟨es,k,h1,h2,h3⟩:=h
 unfold Sg
 simp only[h1,nA]
 rw[(JL a es L h2 h3 0).1 hn]
 refine⟨rfl,hk _ ⟨_,_,kR h1,by simp[Lz,h2],?_⟩ ((ag.refl (fun x=>x=b) H).Ei (fun _=>rfl) _ _)⟩
 rw[aqy,aro,aqR]
 refine⟨h3,by simp,fun x hx c hc e=>?_⟩
 rw[aql]at hc
 have e2:x=a:=e.trans hc;rw[e2]at hx;exact hn hx
theorem Rb{A A':Ar}{x:Int}(hp:A.pick=some (x,A'))(ok:CJ A):CJ A':=by
 have Li:=ok.nx
 unfold Ar.pick at hp
 split at hp
 ·rename_i aR
  injection hp with hp
  injection hp with No AO
  subst AO
  exact⟨fun y hy=>ok.wl y ((asb _).subset hy),List.Nodup.sublist (asb _) ok.wd,ok.fr,ok.ct,ok.nx⟩
 ·split at hp
  ·cases hp
  ·injection hp with hp
   injection hp with No AO
   subst AO
   exact⟨fun y hy=>by have:=ok.wl y hy;exact⟨this.1,by simp only;omega,this.2.2⟩,ok.wd,fun y hy=>ok.fr y (by simp only at hy;omega),ok.ct,by simp only;omega⟩
section
variable {H : Hp} {s : Nat} {S : Nat → Prop} {w : Nw} {A : Ar} {q : Int}
theorem Uo.key(l:Uo w A){x k s:Int}{y:Ce}(hx:A.live x)(hy:w.cs[x.toNat]? =some y):Uo (w.put x (y.1,k,s)) A:=by
 have h1:=(l.live x).2 hx
 have h0:=h1.1
 have aN:=(aqc.1 hy).1
 have OC:0≤x∧x<w.cs.length:=by omega
 refine⟨by simp[Nw.put,l.len],fun z=>?_⟩
 rw[←l.live z,←bA,←bA,eI OC]
 by_cases e:z=x
 ·rw[if_pos e,e]
  obtain⟨_,c,hc,gA⟩:=h1
  rw[hy]at hc
  injection hc with hc
  subst hc
  have h2:=bA.2 ((l.live x).2 hx)
  exact⟨fun _=>h2,fun _=>gA⟩
 ·rw[if_neg e]
theorem ye(h:Fq H s S w A q){x:Int}(hx:A.live x)(key:Int):af Tryz.prog rT [ptr s,gI x (A.bM x),i64 key] H fun v H'=>ax (
  ∃y,w.cs[x.toNat]? =some y∧((y.2.1<key∧v=i64 173∧ON s S H H' w A q)∨(key≤y.2.1∧v=i64 0∧ON s S H H' (w.put x (y.1,key,y.2.2)) A q))):=by
 have fD:=h.slt
 refine bm sj ?_
 refine vs ?_
 have f0:ah H (H.new 71 [i64 x,.int .u32 (A.bM x:Int)]):=(ag.refl _ _).new _ _
 have b0:(H.new 71 [i64 x,.int .u32 (A.bM x:Int)]).own H.size=some [i64 x,.int .u32 (A.bM x:Int)]:=az _ _ _
 have z0:(H.new 71 [i64 x,.int .u32 (A.bM x:Int)]).size=H.size+1:=am _ _ _
 generalize H.new 71 [i64 x,.int .u32 (A.bM x:Int)]=H0 at*
 have h0:=h.ext f0 (fun _ _ h=>h)
 refine v1 (ae b0) ?_
 refine(yR h0 hx).mono ?_
 rintro _ H1 ⟨y,hy,rfl,S1,h1,e1,fh⟩
 have hS1:∀z,S1 z→z≠H.size:=fun z hz=>by
  rcases fh z hz with hh|hh
  ·have:=fD z hh;omega
  ·omega
 have b1:=e1.own b0 (fun hh=>by have:=fD _ hh;omega)
 refine vs ?_
 obtain⟨f2,c2,z2⟩:=PO H1 182 [i64 0,u64 0] [i64 y.2.1,u64 y.2.2]
 have Np:=e1.size
 generalize MU:H1.size=cc at*
 generalize (H1.new 182 [i64 0,u64 0]).wr cc [i64 y.2.1,u64 y.2.2]=H2 at*
 have h2:=h1.ext f2 (fun _ _ h=>h)
 have b2:=f2.own b1 (fun h=>h)
 have eS:ag S H H2:=(f0.mono fun _ _ h=>h.elim).trans (e1.trans (f2.mono fun _ _ h=>h.elim))
 have hsS:∀z,S1 z→S z∨H.size≤z:=fun z hz=>(fh z hz).imp id fun h=>by omega
 refine v2 aqZ (ae c2) ?_
 refine ar.dec (fun hk=>?_) (fun hk=>?_)<;>refine v1 aqZ ?_
 ·exact⟨y,hy,.inl ⟨by omega,rfl,S1,h2,eS,hsS⟩⟩
 obtain⟨t,vv,I,Sn,B,k,d,n,hi,m,ho,d1,d2,hS,IQ⟩:=h2
 refine v3 (ae ho) (ae b2) (ae c2) ?_
 refine(n.lD x key y.2.2 hi).mono ?_
 rintro _ H3 (⟨bO,_⟩| ⟨_,rfl,y',GS,Ft,rF,e3,E6⟩)
 ·refine absurd ⟨(IQ.live x).2 hx,fun y' GS=>?_⟩ bO
  rw[hy]at GS
  injection GS with GS
  subst GS
  unfold fQ
  omega
 rw[hy]at GS
 injection GS with GS
 subst GS
 refine vs ?_
 have hBl:=m.slt
 have ed:=eS.size
 have SC:=e3.size
 have hos:=aB ho
 refine⟨y,hy,.inr ⟨by omega,rfl,fun z=>Ft z∨B.S z∨z=s,⟨t,vv,I,Ft,B,k,d,n,rF,m.ext e3 (fun z hz h=>(d1 z h).1 hz),e3.own ho (fun h=>(d1 _ h).2 rfl),fun z hz=>?_,d2,fun z=>Iff.rfl,IQ.key hx hy⟩,?_,fun z hz=>?_⟩⟩
 ·rcases E6 z hz with h|h
  ·exact d1 z h
  ·exact⟨fun h2=>by have:=hBl z h2;omega,by omega⟩
 ·refine⟨by omega,fun z hz hn=>?_⟩
  rw[e3.aM z (by omega) (fun h=>?_),eS.aM z hz hn]
  rcases hsS z ((hS z).2 (.inl h))with h|h
  ·exact hn h
  ·omega
 ·rcases hz with h|h
  ·rcases E6 z h with h|h
   ·exact hsS z ((hS z).2 (.inl h))
   ·exact .inr (by omega)
  ·exact hsS z ((hS z).2 (.inr h))
end
end Go.Proofs.YthpjfeolagohkaaGreat

namespace Go.Proofs.YthpjfeolagohkaaGreat
open Go Go.Vc
def qL(v:Nat)(e:Ed):Bool:=decide (e.f=(v:Int))
theorem Tz{q:Nat→Ed→Bool}{es:List Ed}{j k:Nat}{e:Ed}(he:es[j]? =some e)(hq:∀v,q v e=decide (v=k)):
  jE (fun v=>bc (q v) 0 (es.take j)) k (bc (q k) 0 (es.take j)++[(j:Int)])=fun v=>bc (q v) 0 (es.take (j+1)):=by
 funext v
 unfold jE
 rw[CM _ he,hq]
 by_cases h:v=k
 ·subst h;simp
 ·simp[h]
theorem Ay{H:Hp}{n:Int}{a:Option Addr}{c:Nat}{es:List Ed}(h:db H 3 (.slice a es.length c) es.length (dk es))(hm:es.length≤1000000000):
  af Tryz.prog EM [Dt n (.slice a es.length c)] H fun v H'=>ax (ah H H'∧((dG n es=false∧v= .slice none 0 0)∨
   (dG n es=true∧∃b fp,v= .slice (some ⟨b,0,none⟩) n.toNat n.toNat∧qV H' H.size b n.toNat (fun v=>bc (qL v) 0 es) fp))):=by
 refine EL ES ⟨rfl,?_⟩
 have f0:ah H (H.new 26 [i64 n,.slice a es.length c]):=(ag.refl _ _).new _ _
 have b0:=az H 26 [i64 n,.slice a es.length c]
 simp(disch:=(first|omega| (simp only[Zs]<;>omega)|fail)) only[go_sem, ↓reduceIte,Zv,tw,Dt]
 generalize H.new 26 [i64 n,.slice a es.length c]=H0 at*
 have h0:=h.fresh f0
 refine(j8 (n:=n) h0 hm).mono ?_
 rintro _ Hr ⟨rfl,fr⟩
 have br:=fr.own b0 (fun h=>h)
 by_cases hR:dG n es=true
 rotate_left
 ·rw[if_neg hR]
  refine vs ?_
  exact⟨f0.trans fr,.inl ⟨by simpa using hR,rfl⟩⟩
 rw[if_pos hR]
 have X7:=h0.fresh fr
 have Vf:=f0.trans fr
 obtain⟨LH,yL,hel,TA⟩:=(eQ n es).1 hR
 refine vs ?_
 refine ar.cP (by simp) ?_
 refine v1 (ae br) ?_
 refine⟨⟨by omega,by omega,by omega,by omega⟩,?_⟩
 have Ww:=qV.new (T:=30) (B:=H.size) (n:=n.toNat) Hr Vf.size (MI n.toNat)
 have fo:ah Hr (Hr.new 30 (aV [.slice none 0 0] n.toNat)):=(ag.refl _ _).new _ _
 have b1:=fo.own br (fun h=>h)
 have IZ:=X7.fresh fo
 have Np:(Hr.new 30 (aV [.slice none 0 0] n.toNat)).size=Hr.size+1:=by rw[am]
 generalize Hr.new 30 (aV [.slice none 0 0] n.toNat)=H1 at*
 have hbz:=aB br
 refine v1 (ae b1) ?_
 refine aY.intro (fun m env H'=>ah H H'∧∃ (j:Nat) (fp:Nat→Option Nat),m=es.length - j∧j≤es.length∧qV H' H.size Hr.size n.toNat (fun v=>bc (qL v) 0 (es.take j)) fp∧
  env=[(3,.slice (some ⟨Hr.size,0,none⟩) n.toNat n.toNat),(13,.slice a es.length c),(14,i64 es.length),(15,i64 j)]) es.length ⟨Vf.trans fo,0,_,by omega,by omega,Ww,rfl⟩ ?_
 rintro m env H2 ⟨f2,j,fp,Vd,hj,JK,rfl⟩
 have h2:=h.fresh f2
 refine vs ?_
 refine ar.dec (fun aN=>?_) (fun aN=>?_)<;>refine vs ?_
 ·have ie:j<es.length:=by omega
  obtain⟨e,he⟩:∃e,es[j]? =some e:=⟨_,aqb ie⟩
  obtain⟨_,b,o,lb,rfl,fU,oP,dA⟩:=db.wN h2 he
  refine⟨⟨by omega,by omega⟩,?_⟩
  have bq:=aqg he
  obtain⟨Yb,Yc,Yd,Ye⟩:=TA e bq
  simp(disch:=(first|omega| (simp only[Zs]<;>omega)|fail)) only[go_sem, ↓reduceIte,Zv,fU,Int.toNat_natCast,dA,cV]
  refine⟨by omega,?_⟩
  have q2:=az H2 53 [i64 0,i64 0,i64 0]
  simp(disch:=(first|omega| (simp only[Zs]<;>omega)|fail)) only[go_sem, ↓reduceIte,Zv,dA,cV,q2]
  have q3:=ai (l:=[i64 e.f,i64 e.t,i64 e.w]) q2
  have f3:ah H2 ((H2.new 53 [i64 0,i64 0,i64 0]).wr H2.size [i64 e.f,i64 e.t,i64 e.w]):=((ag.refl _ _).new _ _:ah H2 _).then ((ag.refl (fun z=>z=H2.size) _).wr (fun _=>rfl) _) (fun z hz=>by omega)
  have SC:((H2.new 53 [i64 0,i64 0,i64 0]).wr H2.size [i64 e.f,i64 e.t,i64 e.w]).size=H2.size+1:=by rw[cG,am]
  have hol:=JK.lt
  generalize (H2.new 53 [i64 0,i64 0,i64 0]).wr H2.size [i64 e.f,i64 e.t,i64 e.w]=H3 at*
  have M9:=JK.fresh f3
  have VN:e.f.toNat<n.toNat:=by omega
  obtain⟨bX,sv,Dx,AL,pO,gT⟩:=M9.get VN
  have WC:=qi (qL e.f.toNat) (es.take j) 0
  rw[aqO]at WC
  have f13:ah H H3:=f2.trans f3
  have hq:∀v,qL v e=decide (v=e.f.toNat):=fun v=>by unfold qL;rw[decide_eq_decide];omega
  have fin:∀ (H4:Hp) (v':Value) (H5:Hp) (bI:Option Nat),ah H3 H4→Sl H5 1 v' ((bc (qL e.f.toNat) 0 (es.take j)).length+1) ((bc (qL e.f.toNat) 0 (es.take j)).map i64++[i64 j]) bI→ag (fun z=>fp e.f.toNat=some z) H4 H5→
    (bI=fp e.f.toNat∨∃p,bI=some p∧H4.size≤p∧p<H5.size)→
    H5.own Hr.size=some bX∧H5.own H2.size=some [i64 e.f,i64 e.t,i64 e.w]∧(H5.wr Hr.size (bX.set e.f.toNat v')).own H2.size=some [i64 e.f,i64 e.t,i64 e.w]∧ah H (H5.wr Hr.size (bX.set e.f.toNat v'))∧
    qV (H5.wr Hr.size (bX.set e.f.toNat v')) H.size Hr.size n.toNat (fun v=>bc (qL v) 0 (es.take (j+1))) (Dw fp e.f.toNat bI):=by
   intro H4 v' H5 bI f4 s5 e5 ix
   have WR:=M9.fresh f4
   have nY:=M9.low e.f.toNat VN
   have Zb:∀z,fp e.f.toNat=some z→z<H2.size:=fun z hz=>by
    obtain⟨_,_,_,_,_,s0⟩:=JK.get VN
    rw[hz]at s0
    exact Sl.lt s0
   have Yh:=f4.own Dx (fun h=>h)
   have q4:=f4.own q3 (fun h=>h)
   have q5:H5.own H2.size=some [i64 e.f,i64 e.t,i64 e.w]:=e5.own q4 (fun hh=>by have:=Zb _ hh;omega)
   obtain⟨k1,k2⟩:=WR.put VN (l:=bc (qL e.f.toNat) 0 (es.take j)++[(j:Int)]) e5 (by rw[aqj,aqy];exact s5) ix Yh
   rw[Tz he hq]at k2
   refine⟨k1,q5,by rw[c7 (by omega)];exact q5,?_,k2⟩
   exact((f13.trans f4).then e5 (fun z hz=>(nY z hz).1)).then ((ag.refl (fun z=>z=Hr.size) _).wr (fun _=>rfl) _) (fun z hz=>by have:=Vf.size;omega)
  refine gP.intro (fun H'=>H'.own H2.size=some [i64 e.f,i64 e.t,i64 e.w]) q3 ?_
  refine vs ?_
  refine dP.intro (i64 e.f) (fun H' hI=>by refine v1 (ae hI) ?_;exact⟨trivial,trivial⟩) ?_
  refine vs ?_
  refine dP.intro (i64 e.f) (fun H' hI=>by refine v1 (ae hI) ?_;exact⟨trivial,trivial⟩) ?_
  refine vs ?_
  refine⟨⟨by omega,by omega⟩,?_⟩
  refine vs ?_
  have fl:ah H3 (H3.new 3 [i64 j]):=(ag.refl _ _).new _ _
  have ql:=fl.own q3 (fun h=>h)
  have Ov:=fl.own Dx (fun h=>h)
  obtain⟨ra,rc,rfl,hrc⟩:=cH gT
  refine zg.intro ?_ ?_
  ·refine v4 (ae Dx) aqd aqa pO ?_
   refine And.intro q3 ?_
   refine vs ?_
   refine And.intro (by first|exact ql|exact q3) ?_
   refine vs ?_
   refine Sl.append (gT.ext fl (fun _ _ h=>h)) (Sl.bU (size:=1) (n:=1) (xs:=[i64 j]) rfl rfl).rd rfl (iL [(j:Int)]) (by omega) ?_
   intro v' H5 bI s5 e5 eB
   obtain⟨k1,k2,k3,k4,k5⟩:=fin _ v' H5 bI fl s5 e5 eB
   obtain⟨va,SI,rfl,_⟩:=cH s5
   refine And.intro k2 ?_
   refine vs ?_
   refine⟨⟨by omega,by omega⟩,?_⟩
   refine v3 k1 aqd aqa ?_
   refine⟨by omega,?_⟩
   refine vs ?_
   refine And.intro (by first|exact k3|exact k2) ?_
   refine vs ?_
   rw[wrap64 (n:=(j:Int)+1) (by omega) (by omega)]
   exact⟨es.length - (j+1),by omega,k4,j+1,_,rfl,by omega,k5,rfl⟩
  ·refine vs ?_
   refine And.intro (by first|exact ql|exact q3) ?_
   refine v4 (ae Ov) aqd aqa pO ?_
   refine And.intro (by first|exact ql|exact q3) ?_
   refine vs ?_
   refine Sl.append (gT.ext fl (fun _ _ h=>h)) (Sl.bU (size:=1) (n:=1) (xs:=[i64 j]) rfl rfl).rd rfl (iL [(j:Int)]) (by omega) ?_
   intro v' H5 bI s5 e5 eB
   obtain⟨k1,k2,k3,k4,k5⟩:=fin _ v' H5 bI fl s5 e5 eB
   obtain⟨va,SI,rfl,_⟩:=cH s5
   refine And.intro k2 ?_
   refine vs ?_
   refine⟨⟨by omega,by omega⟩,?_⟩
   refine v3 k1 aqd aqa ?_
   refine⟨by omega,?_⟩
   refine vs ?_
   refine And.intro (by first|exact k3|exact k2) ?_
   refine vs ?_
   rw[wrap64 (n:=(j:Int)+1) (by omega) (by omega)]
   exact⟨es.length - (j+1),by omega,k4,j+1,_,rfl,by omega,k5,rfl⟩
 ·have ie:j=es.length:=by omega
  subst ie
  rw[aqM]at JK
  exact⟨f2,.inr ⟨hR,Hr.size,fp,rfl,JK⟩⟩
def qT(v:Nat)(e:Ed):Bool:=decide (e.f=(v:Int)) || decide (e.t=(v:Int))
end Go.Proofs.YthpjfeolagohkaaGreat
