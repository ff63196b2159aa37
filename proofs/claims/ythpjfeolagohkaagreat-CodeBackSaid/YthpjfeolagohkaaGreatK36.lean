/- Texts put behind each other. -/
import Derived.Test.YthpjfeolagohkaaGreatK98
import Derived.Test.YthpjfeolagohkaaGreatK1
import Derived.Test.YthpjfeolagohkaaGreatK28
import Derived.Test.YthpjfeolagohkaaGreatK29
import Derived.Test.YthpjfeolagohkaaGreatK30
import Derived.Test.YthpjfeolagohkaaGreatK34
import Derived.Test.YthpjfeolagohkaaGreatK35
set_option maxRecDepth 100000
set_option maxHeartbeats 8000000
set_option linter.unusedVariables false
set_option linter.unusedSimpArgs false
namespace Go.Proofs.YthpjfeolagohkaaGreat
open Go Go.Vc
theorem Ia{n:Nat}{H:Hp}{S:Nat→Prop}{w:Nw}(h:iq n H S w):af Tryz.prog jk [ptr n] H fun v H'=>ar (
  (w.hs.length=65537∧v=i64 0∧cA (iq n) S H H' w)∨(w.hs.length≠65537∧v=i64 w.hs.length∧cA (iq n) S H H' w.make)):=by
 obtain⟨B,C,N,P,L,tops,ch,par,au,rfl,m,l,hS⟩:=id h
 obtain⟨tv,ho,FL⟩:=m.own
 refine aZ sZ ?_
 refine v1 (ae ho) ?_
 refine(iS m.cells).mono ?_
 rintro _ H1 (⟨h1,rfl,rfl⟩| ⟨h1,rfl,C',c1,e1,zi⟩)
 ·refine vs ?_
  exact .inl ⟨h1,rfl,cA.same h (ag.refl _ _)⟩
 have fC:=m.cells.pos
 have hhs:=m.cells.FL
 have HF:=l.tl
 have slt:=m.slt
 have Mf:=c1.slt
 obtain⟨n1,n2,n3,n4,n5,n6⟩:=m.out
 obtain⟨⟨d1,d2,d3,d4,d5⟩,⟨d6,d7,d8,d9⟩,⟨d10,d11,d12⟩⟩:=m.nN
 have o1:=e1.own ho n1
 refine vs ?_
 refine ai.bI (aoE (by omega)) ?_
 refine v1 (ae o1) ?_
 have s1:=FL.ext e1 (fun b hb=>by injection hb with hb;exact hb▸n6)
 refine Sv s1 (-1) (by omega) fun w' H2 b' mU s2 e2=>?_
 have o2:=e2.own o1 d5
 obtain⟨wa,wc,O3⟩:=Sl.shape s2
 subst O3
 refine v1 o2 ?_
 generalize O3:Value.slice wa (tops++[-1]).length wc=w' at*
 have e3:ag (fun z=>z=B.n) H2 (H2.wr B.n [ptr B.c,ptr B.r,.slice (some ⟨B.tb,0,none⟩) L.length L.length,w']):=(ag.refl (fun z=>z=B.n) _).wr (fun _=>rfl) _
 have z1:=e1.size
 have q1:=slt _ (.inr (.inl rfl))
 have q2:=slt _ (.inr (.inr (.inl rfl)))
 have q3:=slt _ (.inr (.inr (.inr (.inl rfl))))
 have q4:=slt _ (.inr (.inr (.inr (.inr (.inl rfl)))))
 have q5:=slt _ (.inr (.inr (.inr (.inr (.inr (.inl rfl))))))
 have q6:=slt _ (.inr (.inr (.inr (.inr (.inr (.inr rfl))))))
 have Gg:∀z,C' z→z≠b'∧(z<H.size→C z):=fun z hz=>by
  have h5:=Mf z hz
  rcases zi z hz with h6|h6
  ·refine⟨fun e=>?_,fun _=>h6⟩
   rcases mU with h7|h7
   ·exact n6 (by rw[←h7,←e];exact h6)
   ·omega
  ·exact⟨by omega,fun h=>by omega⟩
 refine .inr ⟨h1,rfl,(FB.mk B.n B.c B.r B.nb B.pb B.tb b').S C',⟨⟨B.n,B.c,B.r,B.nb,B.pb,B.tb,b'⟩,C',N,P,L,tops++[-1],ch,par,au,rfl,⟨⟨w',ah o2,s2.ext e3 (fun b hb=>by injection hb with hb;omega)⟩,?_,?_,m.inv,?_,m.len,?_,?_⟩,⟨l.f,l.pc,fun g=>by rw[A9];exact l.tp g,fun g y hg hy=>by rw[A9];exact l.ls g y hg hy,?_⟩,fun z=>Iff.rfl⟩,?_,fun z hz=>?_⟩
 ·exact(c1.ext e2 (fun x hx e=>by
   rcases zi x hx with h6|h6
   ·exact n6 (e▸h6)
   ·omega)).ext e3 (fun x hx e=>by
   rcases zi x hx with h6|h6
   ·exact n1 (e▸h6)
   ·omega)
 ·exact((m.ring.ext e1 n2 n3 n4).ext e2 (Ne.symm d10) (Ne.symm d11) (Ne.symm d12)).ext e3 (Ne.symm d1) (Ne.symm d2) (Ne.symm d3)
 ·exact e3.own (e2.own (e1.own m.places n5) d9) (Ne.symm d4)
 ·refine⟨⟨d1,d2,d3,d4,?_⟩,⟨d6,d7,d8,?_⟩,⟨?_,?_,?_⟩⟩<;>simp only<;>omega
 ·exact⟨fun h=>n1 ((Gg _ h).2 q1),fun h=>n2 ((Gg _ h).2 q2),fun h=>n3 ((Gg _ h).2 q3),fun h=>n4 ((Gg _ h).2 q4),fun h=>n5 ((Gg _ h).2 q5),fun h=>(Gg _ h).1 rfl⟩
 ·simp[Nw.make,HF]
 ·exact((e1.mono fun z _ h=>(hS z).2 (.inl h)).trans (e2.mono fun z _ h=>(hS z).2 (.inr (.inr (.inr (.inr (.inr (.inr h)))))))).trans (e3.mono fun z _ h=>(hS z).2 (.inr (.inl h)))
 ·rcases hz with hz|hz|hz|hz|hz|hz|hz
  ·rcases zi z hz with h6|h6
   ·exact .inl ((hS z).2 (.inl h6))
   ·exact .inr h6
  ·exact .inl ((hS _).2 (.inr (.inl hz)))
  ·exact .inl ((hS _).2 (.inr (.inr (.inl hz))))
  ·exact .inl ((hS _).2 (.inr (.inr (.inr (.inl hz)))))
  ·exact .inl ((hS _).2 (.inr (.inr (.inr (.inr (.inl hz))))))
  ·exact .inl ((hS _).2 (.inr (.inr (.inr (.inr (.inr (.inl hz)))))))
  ·rcases mU with h7|h7
   ·exact .inl ((hS _).2 (.inr (.inr (.inr (.inr (.inr (.inr (hz.trans h7))))))))
   ·exact .inr (by have hz:z=b':=hz;omega)
def tE(n i:Nat):List Int:=(List.range i).map (fun(k:Nat)=>(k:Int))++List.replicate (n - i) 0
theorem vx{n i:Nat}(h:i≤n):(tE n i).length=n:=by unfold tE;simp;omega
theorem Ve{n i:Nat}(h:i<n):(tE n i).set i (i:Int)=tE n (i+1):=by
 unfold tE
 rw[apS _ _ (by simp),aoA,List.length_range,apq,show n - i=(n - (i+1))+1 by omega,aoZ,apM,aqc,ao5]
 simp
theorem Gy(n:Nat)(x:Int):bZ (tE n n) x=x:=by
 unfold bZ
 split
 ·rename_i h
  rw[vx (aoB _)]at h
  unfold tE
  rw[apq,apQ,ao3,aou,aoG,apz (by omega)]
  simp
  omega
 ·rfl
theorem Ib(H:Hp){n:Int}(hn:0≤n∧n≤65536):af Tryz.prog Nq [i64 n] H fun v H'=>ar (∃r nb pb N P,v= .tuple [ptr r,i64 0].toArray∧fT H' r nb pb N P∧N.length=n.toNat∧(∀x,bZ N x=x)∧Bb (bZ N) (bZ P)∧am H H'∧H.size≤r∧H.size≤nb∧H.size≤pb):=by
 refine aZ Nx ?_
 refine vs ?_
 refine ai.dec (fun g=>absurd g (by omega)) (fun _=>?_)
 refine vs ?_
 refine ai.dec (fun g=>absurd g (by omega)) (fun _=>?_)
 refine vs ?_
 have hz:(List.replicate n.toNat (0:Int))=tE n.toNat 0:=by unfold tE;simp
 refine oC.intro (fun H'=>True) trivial ?_
 refine vs ?_
 refine II.intro ?A ?B
 case' A=>
  refine vs ?_
  refine⟨⟨by omega,by omega,by omega,by omega⟩,?_⟩
  refine vs ?_
  refine⟨⟨by omega,by omega,by omega,by omega⟩,?_⟩
  refine vs ?_
  rw[uQ,hz]
  obtain⟨nb,FP⟩:∃nb,nb=H.size:=⟨_,rfl⟩
  obtain⟨pb,NK⟩:∃pb,pb=H.size+1:=⟨_,rfl⟩
  have f0:am H (((H.new 3 ((tE n.toNat 0).map i64)).new 3 ((tE n.toNat 0).map i64)).new 280 [.slice (some ⟨H.size,0,none⟩) n.toNat n.toNat,.slice (some ⟨H.size+1,0,none⟩) n.toNat n.toNat]):=(((ag.refl _ _).new _ _).new _ _).new _ _
  have h0:fT (((H.new 3 ((tE n.toNat 0).map i64)).new 3 ((tE n.toNat 0).map i64)).new 280 [.slice (some ⟨H.size,0,none⟩) n.toNat n.toNat,.slice (some ⟨H.size+1,0,none⟩) n.toNat n.toNat]) (H.size+1+1) nb pb (tE n.toNat 0) (tE n.toNat 0):=by
   subst FP NK
   refine⟨?_,?_,?_,rfl,by omega,by omega,by omega⟩
   ·rw[vx (apG _)];exact be (by simp only[aq])
   ·rw[bL (by simp only[aq];omega),bL (by simp only[aq];omega),aD]
   ·rw[bL (by simp only[aq];omega)];exact be (by simp only[aq])
  generalize ((H.new 3 ((tE n.toNat 0).map i64)).new 3 ((tE n.toNat 0).map i64)).new 280 [.slice (some ⟨H.size,0,none⟩) n.toNat n.toNat,.slice (some ⟨H.size+1,0,none⟩) n.toNat n.toNat]=H0 at*
  have G4:H.size≤nb∧H.size≤pb:=⟨by omega,by omega⟩
 case' B=>
  refine vs ?_
  refine⟨⟨by omega,by omega,by omega,by omega⟩,?_⟩
  refine vs ?_
  refine⟨⟨by omega,by omega,by omega,by omega⟩,?_⟩
  refine vs ?_
  rw[uQ,hz]
  obtain⟨nb,FP⟩:∃nb,nb=H.size+1:=⟨_,rfl⟩
  obtain⟨pb,NK⟩:∃pb,pb=H.size:=⟨_,rfl⟩
  have f0:am H (((H.new 3 ((tE n.toNat 0).map i64)).new 3 ((tE n.toNat 0).map i64)).new 280 [.slice (some ⟨H.size+1,0,none⟩) n.toNat n.toNat,.slice (some ⟨H.size,0,none⟩) n.toNat n.toNat]):=(((ag.refl _ _).new _ _).new _ _).new _ _
  have h0:fT (((H.new 3 ((tE n.toNat 0).map i64)).new 3 ((tE n.toNat 0).map i64)).new 280 [.slice (some ⟨H.size+1,0,none⟩) n.toNat n.toNat,.slice (some ⟨H.size,0,none⟩) n.toNat n.toNat]) (H.size+1+1) nb pb (tE n.toNat 0) (tE n.toNat 0):=by
   subst FP NK
   refine⟨?_,?_,?_,rfl,by omega,by omega,by omega⟩
   ·rw[vx (apG _)];exact be (by simp only[aq])
   ·rw[bL (by simp only[aq];omega)];exact be (by simp only[aq])
   ·rw[bL (by simp only[aq];omega),bL (by simp only[aq];omega),aD]
  generalize ((H.new 3 ((tE n.toNat 0).map i64)).new 3 ((tE n.toNat 0).map i64)).new 280 [.slice (some ⟨H.size+1,0,none⟩) n.toNat n.toNat,.slice (some ⟨H.size,0,none⟩) n.toNat n.toNat]=H0 at*
  have G4:H.size≤nb∧H.size≤pb:=⟨by omega,by omega⟩
 all_goals
  refine aS.intro (fun m env H'=>∃j:Nat,m=n.toNat - j∧j≤n.toNat∧ag (fun z=>z=nb∨z=pb) H0 H'∧fT H' (H.size+1+1) nb pb (tE n.toNat j) (tE n.toNat j)∧
   env=[(4,ptr (H.size+1+1)),(18,i64 n),(19,i64 j)]) n.toNat ⟨0,by omega,by omega,ag.refl _ _,h0,rfl⟩ ?_
  rintro m env H1 ⟨j,rfl,hj,e1,h1,rfl⟩
  have rQ:=vx hj
  obtain⟨d1,d2,d3⟩:=h1.ne
  refine vs ?_
  refine ai.dec (fun aK=>?_) (fun aK=>?_)<;>refine vs ?_
  ·refine v1 (ae h1.own) ?_
   refine⟨⟨by omega,by omega⟩,?_⟩
   refine v4 h1.DS aor aos Int.toNat_natCast ?_
   refine⟨by rw[aoA];omega,?_⟩
   refine vs ?_
   have e2:ag (fun z=>z=nb) H1 (H1.wr nb (((tE n.toNat j).map i64).set j (i64 j))):=(ag.refl (fun z=>z=nb) _).wr (fun _=>rfl) _
   have q2:(H1.wr nb (((tE n.toNat j).map i64).set j (i64 j))).own nb=some (((tE n.toNat j).map i64).set j (i64 j)):=ah h1.DS
   generalize H1.wr nb (((tE n.toNat j).map i64).set j (i64 j))=H2 at*
   have p2:=e2.own h1.Wt (Ne.symm d3)
   refine⟨⟨by omega,by omega⟩,?_⟩
   refine v5 p2 h1.Wt aor aos Int.toNat_natCast ?_
   refine⟨by rw[aoA];omega,?_⟩
   refine vs ?_
   have e3:ag (fun z=>z=pb) H2 (H2.wr pb (((tE n.toNat j).map i64).set j (i64 j))):=(ag.refl (fun z=>z=pb) _).wr (fun _=>rfl) _
   have q3:(H2.wr pb (((tE n.toNat j).map i64).set j (i64 j))).own pb=some (((tE n.toNat j).map i64).set j (i64 j)):=ah p2
   have AR:((tE n.toNat j).map i64).set j (i64 j)=(tE n.toNat (j+1)).map i64:=by rw[←Ve (by omega),ao9]
   rw[wrap64 (n:=(j:Int)+1) (by omega) (by omega)]
   refine⟨n.toNat - (j+1),by omega,j+1,rfl,by omega,(e1.trans (e2.mono fun z _ h=>.inl h)).trans (e3.mono fun z _ h=>.inr h),⟨?_,?_,?_,rfl,h1.ne⟩,rfl⟩
   ·have ho:=e3.own (e2.own h1.own d1) d2
    rw[rQ]at ho
    rw[vx (by omega)]
    exact ho
   ·rw[←AR];exact e3.own q2 d3
   ·rw[←AR];exact q3
  ·obtain rfl:j=n.toNat:=by omega
   exact⟨_,nb,pb,_,_,rfl,h1,vx (aoB _),Gy _,⟨fun x=>by rw[Gy,Gy],fun x=>by rw[Gy,Gy]⟩,f0.then e1 (fun z hz=>by rcases hz with h|h<;>omega),by omega,G4.1,G4.2⟩
theorem Bq{n:Nat}{H:Hp}{S:Nat→Prop}{w:Nw}(h:iq n H S w)(x k s:Int):af Tryz.prog fZ [ptr n,i64 x,tu k s] H fun v H'=>ar (
  (¬w.cX x k s∧v= .bool false∧cA (iq n) S H H' w)∨(w.cX x k s∧v= .bool true∧∃y,w.cs[x.toNat]? =some y∧cA (iq n) S H H' (w.put x (y.1,k,s)))):=by
 obtain⟨B,C,N,P,L,tops,ch,par,au,rfl,m,l,hS⟩:=h
 have hC:∀z,C z→S z:=fun z h=>(hS z).2 (.inl h)
 have Wv:S B.nb:=(hS _).2 (.inr (.inr (.inr (.inl rfl))))
 have HZ:S B.pb:=(hS _).2 (.inr (.inr (.inr (.inr (.inl rfl)))))
 have tb3:S B.tb:=(hS _).2 (.inr (.inr (.inr (.inr (.inr (.inl rfl))))))
 have tb4:S B.tp:=(hS _).2 (.inr (.inr (.inr (.inr (.inr (.inr rfl))))))
 refine aZ nI ?_
 refine vs ?_
 have f0:am H (H.new 182 [i64 k,u64 s]):=(ag.refl _ _).new _ _
 have b0:(H.new 182 [i64 k,u64 s]).own H.size=some [i64 k,u64 s]:=aD _ _ _
 have m0:=m.fresh f0
 generalize H.new 182 [i64 k,u64 s]=H0 at*
 have ff:ag S H H0:=f0.mono fun _ _ h=>h.elim
 obtain⟨tv,IY,_⟩:=m0.own
 refine v2 (ae IY) (ae b0) ?_
 refine(gC m0.cells x k s).mono ?_
 rintro _ H1 (⟨bS,rfl,c1,e1⟩| ⟨bE,rfl,y,hy,fz,c1,e1⟩)
 ·refine vs ?_
  exact .inl ⟨bS,rfl,cA.same ⟨B,C,N,P,L,tops,ch,par,au,rfl,m0.ext e1 (fun _ _ h=>h),l,hS⟩ (ff.trans (e1.mono fun _ _ h=>h.elim))⟩
 have nL:(w.put x (y.1,k,s)).cs.length=w.cs.length:=by simp[Nw.put]
 have m1:=m0.aH c1 e1 nL
 have Bh:w.cX x k s:=⟨bE,fun z hz=>by rw[hy]at hz;injection hz with hz;rw[←hz];exact fz⟩
 have hx:0≤x∧x<w.cs.length:=⟨bE.1,by have:=(aoq.1 hy).1;have:=bE.1;omega⟩
 have OV:aE w x=y.1:=jI bE.1 hy
 have dZ:=bC.2 bE
 have hw:aE (w.put x (y.1,k,s))=aE w:=by
  funext z
  rw[ed hx]
  split
  ·rename_i e;rw[e,OV]
  ·rfl
 have EG:cU (w.put x (y.1,k,s)).cs x:=bC.1 (by rw[hw];exact dZ)
 have el:∀a b,0<aE w a→0<aE w b→a≠x→b≠x→aN (w.put x (y.1,k,s)) a b=aN w a b:=fun a b ha hb qA lV=>dC hx _ ha hb qA lV
 have ex:∀b,0<aE w b→b≠x→aN w x b=true→aN (w.put x (y.1,k,s)) x b=true:=fun b hb lV h=>A8 bE hy fz hb lV h
 have ls:=ap w
 have T5:=ap (w.put x (y.1,k,s))
 obtain⟨g,hg⟩:∃g,g=aE w x:=⟨_,rfl⟩
 have dq:g<tops.length:=by
  have:=((m.cells.hm x).2 dZ).2
  have:=l.tl
  omega
 have BY:∀z,aE w z=g→bf tops g≠ -1∧(z≠bf tops g→aN w (bf tops g) z=true):=fun z hz=>l.ls g z (by omega) hz
 obtain⟨Ff,GX⟩:=BY x hg.symm
 obtain⟨T,hT⟩:∃T,T=bf tops g:=⟨_,rfl⟩
 rw[←hT]at Ff GX BY
 have Yv:=dZ
 have hhl:(w.put x (y.1,k,s)).hs.length=w.hs.length:=by simp[Nw.put]
 obtain⟨A,hr⟩:∃A,au g=T::A:=by
  have h1:=l.tp g
  rw[←hT]at h1
  cases hc:au g with
  |nil=>rw[hc]at h1;exact absurd h1 Ff
  |cons c r=>rw[hc]at h1;exact⟨r,by rw[show T=c from h1]⟩
 have hTg:=(l.f.rm g T (by rw[hr];simp)).1
 have hTp:=(l.f.rm g T (by rw[hr];simp)).2.1
 have hT0:0<aE w T:=by omega
 generalize O3:w.put x (y.1,k,s)=w' at*
 obtain⟨CW,o1,_⟩:=m1.own
 refine v1 (ae o1) ?_
 refine(df m1.cells x).mono ?_
 rintro _ H2 (⟨bS,_,_⟩| ⟨_,rfl,c2,e2⟩)
 ·exact absurd EG bS
 have m2:=m1.aH c2 e2 rfl
 have oZ:ag S H H2:=(ff.trans (e1.mono fun z _ h=>hC z h)).trans (e2.mono fun z _ h=>hC z h)
 rw[hw,←hg]
 obtain⟨NR,o2,_⟩:=m2.own
 have sE:=m2.len
 have uC:0≤x∧x<w'.cs.length:=by rw[nL];exact hx
 obtain⟨a0,a1,a2,a3,a4⟩:=m2.rd uC
 obtain⟨ux,_,_⟩:=l.pc x
 rw[ux]at a1
 refine v1 (ae o2) ?_
 refine⟨⟨by omega,by omega⟩,?_⟩
 refine v4 (ae m2.places) aor Nat.add_zero a1 ?_
 have e0:ax au g (T::A)=au:=by
  funext z
  unfold ax
  split
  ·rename_i e;rw[e,hr]
  ·rfl
 have MF:(par x= -1∨aN w' (par x) x=true)→dV (aE w') (aN w') (bZ N) ch par (ax au g (T::A)) []:=fun Kt=>by
  rw[e0,hw]
  refine l.f.other fun z c hc h1 h2 h3=>?_
  by_cases hz:z=x
  ·rw[hz]at h3 hc ⊢
   exact ex c h2 (fun e=>by rw[e,ls.BT]at h3;cases h3) h3
  ·by_cases Ei:c=x
   ·rw[Ei]at hc ⊢
    obtain⟨d1,d2,_⟩:=l.f.pr.dn z x hc
    rcases Kt with h|h
    ·rw[h]at d1;exact absurd d1.symm d2
    ·rw[←d1];exact h
   ·rw[el _ _ (by omega) h2 hz Ei];exact h3
 refine ai.dec (fun h0=>?A) (fun h0=>?B)
 case' A=>
  refine vs ?_
  obtain⟨H3,eH⟩:∃H3,H3=H2:=⟨_,rfl⟩
  rw[←eH]at m2 oZ ⊢
  obtain⟨N3,P3,L3,ML,oT,A3,m3,f3,p3,e3⟩:∃N' P' L' dA bm A',bP H3 B C w' N' P' L' tops∧dV (aE w') (aN w') (bZ N') dA bm (ax au g (T::A')) []∧KE (eE L') dA bm∧ag S H H3:=⟨N,P,L,ch,par,A,m2,MF (.inl h0),l.pc,oZ⟩
 case' B=>
  have hpc:=l.f.pr.up x _ rfl h0
  obtain⟨_,_,hph,HH,tJ⟩:=l.f.pr.dn _ _ hpc
  have dZ:par x≠x:=fun e=>by rw[e,ls.BT]at tJ;cases tJ
  refine v1 (ae o2) ?_
  refine(cE m2.cells x (par x)).mono ?_
  rintro _ H4 ⟨rfl,c4,e4⟩
  have m4:=m2.aH c4 e4 rfl
  have zB:=oZ.trans (e4.mono fun z _ h=>hC z h)
  rw[gD (w:=w') (a:=x) (b:=par x) (by rw[hw];exact Yv) (by rw[hw];omega)]
  cases aK:aN w' x (par x)
  case' false=>
   refine vs ?_
   obtain⟨H3,eH⟩:∃H3,H3=H4:=⟨_,rfl⟩
   rw[←eH]at m4 zB ⊢
   obtain⟨N3,P3,L3,ML,oT,A3,m3,f3,p3,e3⟩:∃N' P' L' dA bm A',bP H3 B C w' N' P' L' tops∧dV (aE w') (aN w') (bZ N') dA bm (ax au g (T::A')) []∧KE (eE L') dA bm∧ag S H H3:=⟨N,P,L,ch,par,A,m4,MF (.inr ((T5.OQ (par x) x dZ).resolve_right (by rw[aK];simp))),l.pc,zB⟩
  case' true=>
   refine vs ?_
   refine(EI m4 ls (x:=x) (g:=g) (t:=T) (A:=A) (by rw[hw];exact l.f) l.pc (by rw[hw];exact hg.symm) (by omega) dq hr hT.symm).mono ?_
   rintro _ H3 ⟨N3,P3,L3,ML,oT,A3,m3,f3',p3,u3,_,e5⟩
   have e3:=zB.trans (e5.mono fun z _ h=>by
    rcases h with h|h|h
    ·exact h▸Wv
    ·exact h▸HZ
    ·exact h▸tb3)
   have f3:dV (aE w') (aN w') (bZ N3) ML oT (ax au g (T::A3)) []:=by
    refine f3'.other fun z c hc h1 h2 h3=>?_
    rw[hw]at h1 h2
    have Ei:c≠x:=fun e=>by
     obtain⟨d1,d2,_⟩:=f3'.pr.dn z c hc
     rw[e,u3]at d1
     exact d2 d1.symm
    by_cases hz:z=x
    ·rw[hz]at h3 ⊢
     exact ex c h2 Ei h3
    ·rw[el _ _ (by omega) h2 hz Ei];exact h3
   refine vs ?_
 all_goals
  have Xh:ax au g (T::A3) g=T::A3:=by unfold ax;rw[if_pos rfl]
  obtain⟨cc,lt3,o3,q3,AW,Fe,O2⟩:=m3.fR
  have q4:=m3.eR q3 (dU (tops:=tops) (h:=g) (by omega) dq)
  rw[←hT]at q4
  refine v1 (ae o3) ?_
  refine⟨⟨by omega,by omega⟩,?_⟩
  refine v4 (ae q3) aor aos q4 ?_
  have BV:∀g2 z,g2≠g→0<g2→aE w' z=g2→bf tops g2≠ -1∧(z≠bf tops g2→aN w' (bf tops g2) z=true):=fun g2 z aQ B1 hz=>by
   rw[hw]at hz
   obtain⟨h1,h2⟩:=l.ls g2 z B1 hz
   refine⟨h1,fun Vf=>?_⟩
   have h5:aE w (bf tops g2)=g2:=by
    have hm:bf tops g2∈au g2:=by
     have:=l.tp g2
     rw[this]at h1 ⊢
     exact eA h1
    exact(l.f.rm g2 _ hm).1
   rw[el _ _ (by omega) (by omega) (fun e=>by rw[e]at h5;omega) (fun e=>by rw[e]at hz;omega)]
   exact h2 Vf
  have htp:∀g2,bf tops g2=(ax au g (T::A3) g2).headD (-1):=fun g2=>by
   unfold ax
   split
   ·rename_i e;rw[e,←hT];rfl
   ·exact l.tp g2
  refine ai.dec (fun h5=>?_) (fun h5=>?_)
  ·refine vs ?_
   refine .inr ⟨Bh,rfl,y,hy,?_⟩
   rw[O3]
   refine cA.same ⟨B,C,N3,P3,L3,tops,ML,oT,_,rfl,m3,⟨f3,p3,htp,fun g2 z B1 hz=>?_,by rw[l.tl,hhl]⟩,hS⟩ e3
   by_cases h6:g2=g
   ·rw[h6,←hT]
    refine⟨Ff,fun Vf=>?_⟩
    rw[hw,h6]at hz
    have h7:=(BY z hz).2 Vf
    rw[h5]at h7 Vf ⊢
    exact ex z (by omega) Vf h7
   ·exact BV g2 z h6 B1 hz
  refine v1 (ae o3) ?_
  refine⟨⟨by omega,by omega⟩,?_⟩
  refine v4 (ae q3) aor aos q4 ?_
  refine(cE m3.cells x T).mono ?_
  rintro _ H6 ⟨rfl,c6,e6⟩
  have m6:=m3.aH c6 e6 rfl
  have Rk:=e3.trans (e6.mono fun z _ h=>hC z h)
  rw[gD (w:=w') (a:=x) (b:=T) (by rw[hw];exact Yv) (by rw[hw];omega)]
  cases tw:aN w' x T
  ·refine vs ?_
   refine .inr ⟨Bh,rfl,y,hy,?_⟩
   rw[O3]
   refine cA.same ⟨B,C,N3,P3,L3,tops,ML,oT,_,rfl,m6,⟨f3,p3,htp,fun g2 z B1 hz=>?_,by rw[l.tl,hhl]⟩,hS⟩ Rk
   by_cases h6:g2=g
   ·rw[h6,←hT]
    refine⟨Ff,fun Vf=>?_⟩
    rw[hw,h6]at hz
    by_cases h8:z=x
    ·rw[h8];exact(T5.OQ T x h5).resolve_right (by rw[tw];simp)
    ·rw[el _ _ (by omega) (by omega) h5 h8]
     exact(BY z hz).2 Vf
   ·exact BV g2 z h6 B1 hz
  ·obtain⟨cc,lt6,o6,q6,AW,Fe,O2⟩:=m6.fR
   refine v1 (ae o6) ?_
   refine⟨⟨by omega,by omega⟩,?_⟩
   refine v3 q6 aor aos ?_
   refine⟨by omega,?_⟩
   obtain⟨m7,e7⟩:=m6.kL q6 g.toNat x
   refine vs ?_
   have KG:oT x= -1:=by
    apply aoJ
    intro hp
    obtain⟨_,d2,d3,d4,d5⟩:=f3.pr.dn _ _ (f3.pr.up x _ rfl hp)
    rw[hw]at d3 d4
    by_cases e:oT x=T
    ·rw[e]at d5
     rw[T5.asym d5]at tw;cases tw
    ·have h9:=(BY (oT x) (by omega)).2 e
     have agG:oT x≠x:=fun e=>by rw[e,T5.BT]at d5;cases d5
     rw[←el _ _ (by omega) (by omega) h5 agG]at h9
     rw[T5.asym (T5.tr _ _ _ h9 d5)]at tw;cases tw
   have UD:x∈ax au g (T::A3) g:=by
    rcases f3.Eh x (by rw[hw];exact Yv) KG with h|h
    ·rw[hw,←hg]at h;exact h
    ·cases h
   obtain⟨A7,_,f7⟩:=f3.from_ UD
   rw[eD]at f7
   refine .inr ⟨Bh,rfl,y,hy,?_⟩
   rw[O3]
   refine cA.same ⟨B,C,N3,P3,L3,_,ML,oT,_,rfl,m7,⟨f7,p3,fun g2=>?_,fun g2 z B1 hz=>?_,by rw[aot,l.tl,hhl]⟩,hS⟩ (Rk.trans (e7.mono fun z _ h=>h▸tb4))
   ·rw[eC (by omega) dq]
    unfold iL ax
    split
    ·rfl
    ·exact l.tp g2
   ·rw[eC (by omega) dq]
    unfold iL
    by_cases h6:g2=g
    ·rw[if_pos h6]
     refine⟨by omega,fun Vf=>?_⟩
     rw[hw,h6]at hz
     by_cases h8:z=T
     ·rw[h8];exact tw
     ·have h9:=(BY z hz).2 h8
      rw[←el _ _ (by omega) (by omega) h5 Vf]at h9
      exact T5.tr _ _ _ tw h9
    ·rw[if_neg h6]
     exact BV g2 z h6 B1 hz
theorem Vg(k:Nat):ce [Value.int .i64 0,Value.int .i64 0,Value.int .i64 0,Value.bool false] k=aI (List.replicate k ⟨0,0,0,false⟩):=by
 unfold ce aI
 induction k with
 |zero=>rfl
 |succ k ih=>rw[aoZ,aoZ,apr,apU,ih];rfl
theorem J5(cap:Int)(H:Hp):af Tryz.prog D0 [i64 cap] H fun v H'=>ar (
  am H H'∧((¬ (0≤cap∧cap≤65536)∧v= .tuple [.pointer none,i64 31].toArray)∨
   ((0≤cap∧cap≤65536)∧∃n S,v= .tuple [ptr n,i64 0].toArray∧iq n H' S (Bf cap)∧∀x,S x→H.size≤x))):=by
 refine aZ D5 ?_
 refine vs ?_
 refine(kJ cap H).mono ?_
 rintro _ H1 ⟨f1,⟨hb,rfl⟩| ⟨hb,c,C,rfl,c1,hC⟩⟩
 ·refine vs ?_
  exact⟨f1,.inl ⟨hb,rfl⟩⟩
 refine vs ?_
 refine(Ib H1 hb).mono ?_
 rintro _ H2 ⟨r,nb,pb,N,P,rfl,r2,hN,ZU,hinv,f2,hr,FP,NK⟩
 have c2:=c1.fresh f2
 refine v1 aoW ?_
 refine⟨⟨by omega,by omega,by omega,by omega⟩,?_⟩
 refine vs ?_
 rw[Vg]
 have xp:=c1.slt
 have z1:=f1.size
 have z2:=f2.size
 have hrs:r<H2.size∧nb<H2.size∧pb<H2.size:=⟨aB r2.own,aB r2.DS,aB r2.Wt⟩
 obtain⟨rn1,rn2,rn3⟩:=r2.ne
 have f3:am H2 (((H2.new 235 (aI (List.replicate cap.toNat ⟨0,0,0,false⟩))).new 3 [Value.int .i64 (-1)]).new 233 [ptr c,ptr r,.slice (some ⟨H2.size,0,none⟩) cap.toNat cap.toNat,.slice (some ⟨H2.size+1,0,none⟩) 1 1]):=(((ag.refl _ _).new _ _).new _ _).new _ _
 have e1:ag (fun _=>False) (H2.new 235 (aI (List.replicate cap.toNat ⟨0,0,0,false⟩))) (((H2.new 235 (aI (List.replicate cap.toNat ⟨0,0,0,false⟩))).new 3 [Value.int .i64 (-1)]).new 233 [ptr c,ptr r,.slice (some ⟨H2.size,0,none⟩) cap.toNat cap.toNat,.slice (some ⟨H2.size+1,0,none⟩) 1 1]):=((ag.refl _ _).new _ _).new _ _
 have e2:ag (fun _=>False) ((H2.new 235 (aI (List.replicate cap.toNat ⟨0,0,0,false⟩))).new 3 [Value.int .i64 (-1)]) (((H2.new 235 (aI (List.replicate cap.toNat ⟨0,0,0,false⟩))).new 3 [Value.int .i64 (-1)]).new 233 [ptr c,ptr r,.slice (some ⟨H2.size,0,none⟩) cap.toNat cap.toNat,.slice (some ⟨H2.size+1,0,none⟩) 1 1]):=(ag.refl _ _).new _ _
 obtain⟨B,hB⟩:∃B:FB,B=⟨H2.size+1+1,c,r,nb,pb,H2.size,H2.size+1⟩:=⟨_,rfl⟩
 have m0:bP (((H2.new 235 (aI (List.replicate cap.toNat ⟨0,0,0,false⟩))).new 3 [Value.int .i64 (-1)]).new 233 [ptr c,ptr r,.slice (some ⟨H2.size,0,none⟩) cap.toNat cap.toNat,.slice (some ⟨H2.size+1,0,none⟩) 1 1]) B C (Bf cap) N P (List.replicate cap.toNat ⟨0,0,0,false⟩) [-1]:=by
  subst hB
  refine⟨⟨.slice (some ⟨H2.size+1,0,none⟩) 1 1,?_,?_⟩,c2.fresh f3,r2.ext f3 (fun h=>h) (fun h=>h) (fun h=>h),hinv,?_,?_,?_,?_⟩
  ·rw[aoY]
   exact be (by simp only[aq])
  ·exact(Sl.cB (size:=1) (n:=1) (xs:=[i64 (-1)]) rfl (by simp only[aq])).ext e2 (fun _ _ h=>h)
  ·exact e1.own (aD _ _ _) (fun h=>h)
  ·simp[Bf,hN]
  ·refine⟨⟨?_,?_,?_,?_,?_⟩,⟨?_,?_,?_,?_⟩,⟨?_,?_,?_⟩⟩<;>simp only<;>omega
  ·refine⟨fun h=>?_,fun h=>?_,fun h=>?_,fun h=>?_,fun h=>?_,fun h=>?_⟩<;>(have h2:=xp _ h;first|omega| (simp only at h2;omega))
 have EC:B.n=H2.size+1+1:=by rw[hB]
 have hBs:∀z,B.S C z→H1.size≤z∨C z:=fun z hz=>by
  rcases hz with hz|rfl|rfl|rfl|rfl|rfl|rfl
  ·exact .inr hz
  all_goals rw[hB];left;first|omega| (simp only;omega)
 have hBt:B.tb=H2.size:=by rw[hB]
 have ft:=(f1.trans f2).trans f3
 generalize ((H2.new 235 (aI (List.replicate cap.toNat ⟨0,0,0,false⟩))).new 3 [Value.int .i64 (-1)]).new 233 [ptr c,ptr r,.slice (some ⟨H2.size,0,none⟩) cap.toNat cap.toNat,.slice (some ⟨H2.size+1,0,none⟩) 1 1]=H3 at*
 have tD:(Bf cap).cs.length=cap.toNat:=by simp[Bf]
 rw[←EC]
 refine aS.intro (fun m env H'=>∃ (j:Nat) (L':List Pc),m=cap.toNat - j∧j≤cap.toNat∧ag (fun z=>z=B.tb) H3 H'∧bP H' B C (Bf cap) N P L' [-1]∧(∀z:Int,0≤z→z<j→eE L' z=nO)∧
  env=[(5,i64 0),(7,ptr B.n),(33,i64 (cap.toNat:Nat)),(34,i64 j)]) cap.toNat ⟨0,_,by omega,by omega,ag.refl _ _,m0,fun z h0 h1=>by omega,rfl⟩ ?_
 rintro m env H4 ⟨j,L4,rfl,hj,e4,m4,g4,rfl⟩
 obtain⟨cc,lt4,o4,_⟩:=m4.fR
 have Yt:=m4.len
 refine vs ?_
 refine ai.dec (fun aK=>?_) (fun aK=>?_)<;>refine vs ?_
 ·refine oC.intro (fun H'=>H'.own B.n=some [ptr B.c,ptr B.r,.slice (some ⟨B.tb,0,none⟩) L4.length L4.length,.slice (some ⟨B.tp,0,none⟩) [(-1:Int)].length cc]) o4 ?_
  refine vs ?_
  refine oB.intro (.slice (some ⟨B.tb,0,none⟩) L4.length L4.length) (fun H' hI=>by refine v1 (ae hI) ?_;trivial) ?_
  refine vs ?_
  refine(uU H4).mono ?_
  rintro _ H5 ⟨rfl,e5⟩
  have o5:=e5.own o4 (fun h=>h)
  refine And.intro o5 ?_
  have m5:=m4.fresh e5
  refine vs ?_
  refine⟨⟨by omega,by omega⟩,?_⟩
  obtain⟨b0,_⟩:=m5.rd (x:=(j:Int)) (by omega)
  obtain⟨L6,k6,m6,e6⟩:=m5.N9 (x:=(j:Int)) (by omega) nO
  refine v2 m5.places aor ?_
  refine⟨by omega,?_⟩
  rw[show aY (aI L4) ((j:Int).toNat*4) (aF (Value.agg #[i64 (-1),i64 (-1),i64 0,Value.bool false]))=aY (aI L4) ((j:Int).toNat*4) [i64 nO.u,i64 nO.k,i64 nO.d,.bool nO.m]from rfl]
  have EF:=m5.nN.1.2.2.2.1
  generalize H5.wr B.tb (aY (aI L4) ((j:Int).toNat*4) [i64 nO.u,i64 nO.k,i64 nO.d,.bool nO.m])=H6 at*
  refine vs ?_
  refine And.intro (e6.own o5 EF) ?_
  refine vs ?_
  refine⟨cap.toNat - (j+1),by omega,j+1,L6,rfl,by omega,(e4.trans (e5.mono fun _ _ h=>h.elim)).trans e6,m6,fun z h0 h1=>?_,?_⟩
  ·rw[k6]
   unfold mw
   split
   ·rfl
   ·exact g4 z h0 (by omega)
  ·rw[wrap64 (n:=(j:Int)+1) (by omega) (by omega)]
   rfl
 ·obtain rfl:j=cap.toNat:=by omega
  have hpc:∀z,eE L4 z=nO:=fun z=>by
   by_cases hz:0≤z∧z< (cap.toNat:Int)
   ·exact g4 z hz.1 hz.2
   ·unfold eE
    split
    ·rw[aoC (by omega)];rfl
    ·rfl
  refine⟨ft.then e4 (fun z hz=>by omega),.inr ⟨hb,B.n,B.S C,rfl,⟨B,C,N,P,L4,[-1],fun _=>[],fun _=> -1,fun _=>[],rfl,m4,⟨⟨⟨rfl,fun x c hc=>absurd hc (by simp),fun c x h hx=>absurd (Eq.symm h) hx,fun x=>apT⟩,
   fun x=>trivial,fun h=>trivial,fun h=>apT,fun h c hc=>absurd hc (by simp),apT,fun c hc=>absurd hc (by simp),fun c hc=>absurd hc (kN cap c),fun c _=>ZU c⟩,fun x=>by rw[hpc];exact⟨rfl,rfl,rfl⟩,
   fun g=>CZ g,fun g y hg hy=>absurd (show 0<aE (Bf cap) y by omega) (kN cap y),rfl⟩,fun z=>Iff.rfl⟩,fun z hz=>?_⟩⟩
  rcases hBs z hz with h|h
  ·omega
  ·exact hC z h
theorem Tf(n:Nat):xu (.iface 162 (ptr n)) (iq n) where
 slt h:=h.slt
 ext h e hd:=h.ext e hd
 cells:=by
  rintro H S w ⟨B,C,N,P,L,tops,ch,par,au,rfl,m,l,hS⟩
  exact⟨B.c,C,m.cells⟩
 has:=by
  rintro H S w g ⟨B,C,N,P,L,tops,ch,par,au,rfl,m,l,hS⟩
  obtain⟨tv,ho,_⟩:=m.own
  exact⟨_,_,bu,ptr B.c,rfl,fG (off:=0) (by kernel_rfl) (ae ho) rfl,(ik m.cells g).mono fun v H' hp=>hp⟩
 make:=by
  intro H S w h
  exact⟨_,_,jk,ptr n,rfl,br (by kernel_rfl),(Ia h).mono fun v H' hp=>hp⟩
 insert:=by
  intro H S w g x k s h
  exact⟨_,_,hY,ptr n,rfl,br (by kernel_rfl),(EJ h g x k s).mono fun v H' hp=>hp⟩
 min:=by
  intro H S w g h
  refine⟨_,_,j8,ptr n,rfl,br (by kernel_rfl),(Bp h g).mono ?_⟩
  rintro v H' ⟨⟨h1,rfl⟩| ⟨x,h1,rfl⟩,rfl⟩
  ·exact .inl ⟨h1,rfl,cA.same h (ag.refl _ _)⟩
  ·exact .inr ⟨x,h1,rfl,cA.same h (ag.refl _ _)⟩
 extract:=by
  intro H S w g h
  exact⟨_,_,gA,ptr n,rfl,br (by kernel_rfl),(C9 h g).mono fun v H' hp=>hp⟩
 nl:=by
  intro H S w x k s h
  exact⟨_,_,fZ,ptr n,rfl,br (by kernel_rfl),(Bq h x k s).mono fun v H' hp=>hp⟩
 entry:=by
  rintro H S w x ⟨B,C,N,P,L,tops,ch,par,au,rfl,m,l,hS⟩
  obtain⟨tv,ho,_⟩:=m.own
  refine⟨_,_,ba,ptr B.c,rfl,fG (off:=0) (by kernel_rfl) (ae ho) rfl,(gB m.cells x).mono ?_⟩
  rintro v H' ⟨c1,f,hv⟩
  exact⟨⟨B,C,N,P,L,tops,ch,par,au,rfl,m.fresh f,l,hS⟩,f,hv⟩
theorem uW(n:Nat)(H:Hp):af Tryz.prog vI [ptr n,i64 0] H fun v H'=>ar (v= .tuple [.iface 150 (ptr n),i64 0].toArray∧H'=H):=by
 refine aZ we ?_
 refine v1 aoW ?_
 exact⟨rfl,rfl⟩
theorem xf(n:Nat)(H:Hp):af Tryz.prog oE [ptr n,i64 0] H fun v H'=>ar (v= .tuple [.iface 162 (ptr n),i64 0].toArray∧H'=H):=by
 refine aZ oH ?_
 refine v1 aoW ?_
 exact⟨rfl,rfl⟩
def Pb(kd dd:Int):Prop:=∀ (cap:Int),(0≤cap∧cap≤65536)→∀H:Hp,af Tryz.prog IK [Mb kd dd,i64 cap] H fun v H'=>ar (∃t vv I Sn,v= .tuple [.iface t vv,i64 0].toArray∧xu (.iface t vv) I∧I H' Sn (Bf cap)∧am H H'∧∀z,Sn z→H.size≤z)
def QD(cap:Int)(mo:Nat):Ar:=⟨List.replicate cap.toNat (0,false),[],0,0,mo⟩
theorem J6{kd dd cap:Int}{mo:Nat}(hf:kM kd dd)(BQ:Pb kd dd)(hc:0≤cap∧cap≤65536)(hm:0<mo∧mo≤4294967295)(H:Hp):af Tryz.prog PS [Mb kd dd,i64 cap,.int .u32 (mo:Int)] H fun v H'=>ar (∃s S,v= .tuple [ptr s,i64 0].toArray∧E0 H' s S (Bf cap) (QD cap mo) 0∧am H H'∧∀z,S z→H.size≤z):=by
 refine aZ PT ?_
 refine vs ?_
 have f0:am H (H.new 23 [i64 kd,i64 dd]):=(ag.refl _ _).new _ _
 have o0:(H.new 23 [i64 kd,i64 dd]).own H.size=some [i64 kd,i64 dd]:=aD _ _ _
 have z0:(H.new 23 [i64 kd,i64 dd]).size=H.size+1:=aq _ _ _
 generalize H.new 23 [i64 kd,i64 dd]=H0 at*
 refine(nq kd dd H0).mono ?_
 rintro _ H1 ⟨rfl,f1⟩
 rw[Qv hf]
 have o1:=f1.own o0 (fun h=>h)
 have z1:=f1.size
 refine vs ?_
 refine ai.dec (fun _=>?_) (fun hh=>absurd trivial hh)
 refine vs ?_
 refine(Ga H1 hc hm).mono ?_
 rintro _ H2 ⟨B,rfl,m2,f2,hB⟩
 have o2:=f2.own o1 (fun h=>h)
 have z2:=f2.size
 refine vs ?_
 refine ai.dec (fun _=>?_) (fun hh=>absurd trivial hh)
 refine v1 (ae o2) ?_
 refine(BQ _ hc H2).mono ?_
 rintro _ H3 ⟨t,vv,I,Sn,rfl,n,hi,f3,Ri⟩
 have o3:=f3.own o2 (fun h=>h)
 have z3:=f3.size
 refine vs ?_
 refine ai.dec (fun _=>?_) (fun hh=>absurd trivial hh)
 refine v1 (ae o3) ?_
 have hsB:=m2.slt
 have hsN:=fun z hz=>n.slt hi z hz
 have f4:am H3 (H3.new 117 [i64 kd,i64 dd,ptr B.a,.iface t vv,u64 0]):=(ag.refl _ _).new _ _
 have b4:(H3.new 117 [i64 kd,i64 dd,ptr B.a,.iface t vv,u64 0]).own H3.size=some [i64 kd,i64 dd,ptr B.a,.iface t vv,u64 0]:=aD _ _ _
 refine⟨H3.size,fun z=>Sn z∨B.S z∨z=H3.size,rfl,⟨t,vv,I,Sn,B,kd,dd,n,n.ext hi f4 (fun _ _ h=>h),(m2.ext f3 (fun _ _ h=>h)).ext f4 (fun _ _ h=>h),b4,fun z hz=>⟨fun h=>?_,?_⟩,fun h=>?_,fun z=>Iff.rfl,⟨by simp[Bf,QD],fun x=>?_⟩⟩,(((f0.trans f1).trans f2).trans f3).trans f4,fun z hz=>?_⟩
 ·have:=hsB z h
  have:=Ri z hz
  omega
 ·have:=hsN z hz
  omega
 ·have:=hsB _ h
  omega
 ·constructor
  ·intro h
   exact absurd (bC.2 h) (kN cap x)
  ·rintro⟨h0,h1⟩
   simp only[QD,apH]at h1
   split at h1<;>simp at h1
 ·rcases hz with h|h|h
  ·have:=Ri z h;omega
  ·have:=hB z h;omega
  ·omega
abbrev Ob:Shape:=.s [(0,(none,.int)),(1,(none,.int))]
def uX(H:Hp)(b:Nat)(L:List ((Int×Nat)×Value)):Prop:=∃es k,H.mp b=some (es,k)∧es.map (fun e=>(e.key,e.val))=L.map (fun p=>(gU p.1.1 p.1.2,p.2))∧(L.map (·.1)).Nodup
theorem uX.new(H:Hp):uX H.fh H.size []:=⟨[],0,Jm H,rfl,apT⟩
theorem uX.ext{H H':Hp}{b:Nat}{L:List ((Int×Nat)×Value)}{S:Nat→Prop}(h:uX H b L)(e:ag S H H')(hs:¬S b):uX H' b L:=by
 obtain⟨es,k,h1,h2⟩:=h
 exact⟨es,k,e.mp h1 hs,h2⟩
theorem uX.lt{H:Hp}{b:Nat}{L:List ((Int×Nat)×Value)}(h:uX H b L):b<H.size:=by
 obtain⟨es,k,h1,h2⟩:=h
 exact OJ h1
theorem Vh(a b:Int×Nat):qu Ob (gU a.1 a.2) (gU b.1 b.2)=some (decide (a=b)):=by
 obtain⟨x,g⟩:=a
 obtain⟨y,h⟩:=b
 simp only[qu,Ey,Oc,ao2,api,bq,if_pos rfl]
 by_cases e:x=y
 ·by_cases e2:g=h
  ·simp[e,e2,bq]
  ·have:¬ ((g:Int)=(h:Int)):=by omega
   simp[e,e2,this,bq]
 ·simp[e,bq]
theorem IZ(a:Int×Nat):∀ (es:List MapEntry) (L:List ((Int×Nat)×Value)),es.map (fun e=>(e.key,e.val))=L.map (fun p=>(gU p.1.1 p.1.2,p.2))→(L.map (·.1)).Nodup→∀n:Nat,
  (a∉L.map (·.1)→fF Ob (gU a.1 a.2) es n=some none)∧(∀v,(a,v)∈L→∃j,fF Ob (gU a.1 a.2) es n=some (some (j,v))):=by
 intro es
 induction es with
 |nil=>
  intro L hL _ n
  cases L with
  |nil=>exact⟨fun _=>rfl,fun v h=>by cases h⟩
  |cons p L=>simp at hL
 |cons e es ih=>
  intro L hL hd n
  cases L with
  |nil=>simp at hL
  |cons p L=>
   rw[apg,apg]at hL
   injection hL with h1 h2
   injection h1 with h1 h3
   rw[apg,aoR]at hd
   have hq:qu Ob (gU a.1 a.2) e.key=some (decide (a=p.1)):=by rw[h1];exact Vh a p.1
   obtain⟨i1,i2⟩:=ih L h2 hd.2 (n+1)
   refine⟨fun hn=>?_,fun v hv=>?_⟩
   ·rw[apg,apa,not_or]at hn
    rw[fF,hq,aoK hn.1]
    exact i1 hn.2
   ·by_cases e2:a=p.1
    ·rw[fF,hq,aoE e2]
     rcases apa.1 hv with h|h
     ·refine⟨n,?_⟩
      simp only
      rw[h3,←h]
     ·exact absurd (ao8.2 ⟨(a,v),h,e2⟩) hd.1
    ·rw[fF,hq,aoK e2]
     rcases apa.1 hv with h|h
     ·exact absurd (by rw[←h]) e2
     ·exact i2 v h
theorem Da(x:Int)(g:Nat):Br Ob (gU x g)=true:=rfl
theorem uX.look{H:Hp}{b:Nat}{L:List ((Int×Nat)×Value)}(h:uX H b L){a:Int×Nat}{v:Value}(hv:(a,v)∈L){F:Option Value→Prop}(hF:F (some v)):xm H Ob (some b) (gU a.1 a.2) F:=by
 obtain⟨es,k,h1,h2,h3⟩:=h
 unfold xm
 simp only[h1,mI]
 obtain⟨j,hj⟩:=(IZ a es L h2 h3 0).2 v hv
 rw[hj]
 exact hF
theorem uX.Zx{H:Hp}{b:Nat}{L:List ((Int×Nat)×Value)}(h:uX H b L){a:Int×Nat}{v:Value}(hn:a∉L.map (·.1)){F:Hp→Prop}(hk:∀H',uX H' b (L++[(a,v)])→ag (fun x=>x=b) H H'→F H'):R3 H Ob b (gU a.1 a.2) v F:=by
 obtain⟨es,k,h1,h2,h3⟩:=h
 unfold R3
 simp only[h1,mI]
 rw[(IZ a es L h2 h3 0).1 hn]
 refine⟨rfl,hk _ ⟨_,_,jX h1,by simp[KQ,h2],?_⟩ ((ag.refl (fun x=>x=b) H).Du (fun _=>rfl) _ _)⟩
 rw[ao5,aqm,aph]
 refine⟨h3,by simp,fun x hx c hc e=>?_⟩
 rw[aoH]at hc
 have e2:x=a:=e.trans hc;rw[e2]at hx;exact hn hx
structure Rn(n:Nat)(A:Ar):Prop where
 len:A.g.length=n
 mo:A.mo=4294967295
 free:∀x:Int,0≤x→x<A.nx→¬A.live x→x∈A.wt
theorem Rn.zero(n:Nat):Rn n (QD (n:Int) 4294967295):=⟨by simp[QD],rfl,fun x h0 h1=>by simp[QD]at h1;omega⟩
theorem Rn.room{n:Nat}{A:Ar}(h:Rn n A){x:Int}(h0:0≤x∧x<n)(hl:¬A.live x)(ok:xH A):A.pick≠none:=by
 have aR:=h.len
 have ET:=ok.nx
 unfold Ar.pick
 split
 ·simp
 ·rename_i hw
  rw[Classical.not_not]at hw
  split
  ·rename_i he
   have:=h.free x h0.1 (by omega) hl
   rw[hw]at this
   cases this
  ·simp
theorem Rn.out{n:Nat}{A A':Ar}{x:Int}(h:Rn n A)(ok:xH A)(hp:A.pick=some (x,A')):Rn n (A'.out x):=by
 obtain⟨hx,nL,Zp,G6,hg,hct,hmo⟩:=Ar.zI hp ok
 have DG:0≤x∧x<A'.g.length:=by rw[hg];exact hx
 refine⟨by show(A'.g.set _ _).length=n;rw[aot,hg];exact h.len,by show A'.mo=_;rw[hmo];exact h.mo,fun y h0 h1 hl=>?_⟩
 have h1:y< (A'.nx:Int):=h1
 rw[Ar.mD (A:=A') DG rfl h0]at hl
 by_cases e:y=x
 ·rw[if_pos e]at hl;exact absurd rfl hl
 ·rw[if_neg e]at hl
  have sE:¬A.live y:=by unfold Ar.live at hl ⊢;rw[hg]at hl;exact hl
  show y∈A'.wt
  unfold Ar.pick at hp
  split at hp
  ·rename_i aQ
   injection hp with hp
   injection hp with HH tJ
   subst tJ
   have hm:=h.free y h0 h1 sE
   have hw:A.wt=A.wt.dropLast++[A.wt.getLastD 0]:=by
    conv=>lhs;rw[←List.dropLast_concat_getLast aQ]
    rw[List.getLastD_eq_getLast?,List.getLast?_eq_some_getLast aQ]
    rfl
   rw[hw,aoL,aoH]at hm
   rcases hm with hm|hm
   ·exact hm
   ·exact absurd (hm.trans HH) e
  ·split at hp
   ·cases hp
   ·injection hp with hp
    injection hp with HH tJ
    subst tJ
    simp only at h1
    exact h.free y h0 (by omega) sE
theorem Rn.back{n:Nat}{A:Ar}{x:Int}(h:Rn n A)(hx:0≤x∧x<A.g.length)(hg:A.bV x<4294967295):Rn n (A.back x):=by
 refine⟨by show(A.g.set _ _).length=n;rw[aot];exact h.len,h.mo,fun y h0 h1 hl=>?_⟩
 rw[Ar.mD (A:=A) hx rfl h0]at hl
 show y∈(if A.bV x<A.mo then A.wt++[x]else A.wt)
 rw[h.mo,if_pos hg,aoL,aoH]
 by_cases e:y=x
 ·exact .inr e
 ·rw[if_neg e]at hl
  exact .inl (h.free y h0 h1 hl)
theorem QE{A A':Ar}{x:Int}(hp:A.pick=some (x,A'))(ok:xH A):xH A':=by
 have ET:=ok.nx
 unfold Ar.pick at hp
 split at hp
 ·rename_i aQ
  injection hp with hp
  injection hp with HH tJ
  subst tJ
  exact⟨fun y hy=>ok.wl y ((aqv _).subset hy),List.Nodup.sublist (aqv _) ok.wd,ok.fr,ok.ct,ok.nx⟩
 ·split at hp
  ·cases hp
  ·injection hp with hp
   injection hp with HH tJ
   subst tJ
   exact⟨fun y hy=>by have:=ok.wl y hy;exact⟨this.1,by simp only;omega,this.2.2⟩,ok.wd,fun y hy=>ok.fr y (by simp only at hy;omega),ok.ct,by simp only;omega⟩
structure Ic(n:Nat)(w:Nw)(A:Ar)(L:List ((Int×Nat)×Value))(bT:List (Int×Nat))(at_:Nat):Prop where
 hs:w.has 1
 Vi:Rn n A
 lk:X7 w A
 ok:xH A
 c1:∀ (x:Int) y,0≤x→w.cs[x.toNat]? =some y→y.1=0∨(y.1=1∧∃id:Nat,y.2.2=(id:Int)+1∧(y.2.1,id)∈bT∧((x,A.bV x),i64 id)∈L)
 c2:∀p∈bT,∃x:Int,0≤x∧w.cs[x.toNat]? =some (1,p.1,(p.2:Int)+1)
 ge:∀x:Int,0≤x→A.bV x≤at_
 ls:∀p∈L,0≤p.1.1∧p.1.2≤A.bV p.1.1
 ids:L.map (·.2)=(List.range at_).map fun(i:Nat)=>i64 i
 ri:xK bT
 lt:∀p∈bT,p.2<at_
 cn:A.ct=bT.length
theorem Ic.idx{n at_:Nat}{w:Nw}{A:Ar}{L:List ((Int×Nat)×Value)}{bT:List (Int×Nat)}(h:Ic n w A L bT at_){a b:Int×Nat}{id:Nat}(h1:(a,i64 id)∈L)(h2:(b,i64 id)∈L):a=b:=by
 obtain⟨i,hi⟩:=aoN h1
 obtain⟨j,hj⟩:=aoN h2
 have hk:∀ (k:Nat) (c:(Int×Nat)×Value),L[k]? =some c→c.2=i64 (k:Int):=by
  intro k c hc
  have e1:(L.map (·.2))[k]? =some c.2:=by rw[aoG,hc];rfl
  rw[h.ids,aoG]at e1
  have aK:=(aoq.1 hc).1
  have jx:L.length=at_:=by have:=aoD List.length h.ids;simpa using this
  rw[apz (by omega)]at e1
  simpa using e1.symm
 have e1:=hk i _ hi
 have e2:=hk j _ hj
 have e3:i=j:=by
  have:=e1.symm.trans e2
  injection this with _ this
  omega
 subst e3
 rw[hi]at hj
 injection hj with hj
 injection hj
theorem Ic.first{n at_:Nat}{w:Nw}{A:Ar}{L:List ((Int×Nat)×Value)}{bT:List (Int×Nat)}(h:Ic n w A L bT at_){x:Int}{y:Ce}(hf:w.first 1 x)(hy:w.cs[x.toNat]? =some y):0≤x∧x<n∧∃id:Nat,y=(1,y.2.1,(id:Int)+1)∧Q5 (y.2.1,id) bT∧((x,A.bV x),i64 id)∈L:=by
 obtain⟨_,f2,f3⟩:=bH.1 hf
 obtain⟨x0,x1,_⟩:=aC (w:=w) (x:=x) (by omega)
 have Kz:=jI x0 hy
 rw[f2]at Kz
 have aR:w.cs.length=n:=by rw[h.lk.len];exact h.Vi.len
 rcases h.c1 x y x0 hy with h0| ⟨_,id,e1,e2,e3⟩
 ·omega
 refine⟨x0,by omega,id,?_,⟨e2,fun q hq aQ=>?_⟩,e3⟩
 ·obtain⟨a,b,c⟩:=y
  simp only at Kz e1 ⊢
  rw[←Kz,e1]
 ·obtain⟨z,z0,hz⟩:=h.c2 q hq
  have U8:z≠x:=by
   intro e
   rw[e,hy]at hz
   injection hz with hz
   rw[hz]at e1
   simp only at e1
   omega
  have aK:=f3 z (jI z0 hz) U8
  unfold aN at aK
  have k1:w.key x=y.2.1∧w.seq x=y.2.2:=by
   unfold Nw.key Nw.seq
   simp only[aou,hy]
   exact⟨rfl,rfl⟩
  have k2:w.key z=q.1∧w.seq z=(q.2:Int)+1:=by
   unfold Nw.key Nw.seq
   simp only[aou,hz]
   exact⟨rfl,rfl⟩
  rw[k1.1,k1.2,k2.1,k2.2]at aK
  simp only[ao0]at aK
  simp only
  omega
theorem Ic.ne0{n at_:Nat}{w:Nw}{A:Ar}{L:List ((Int×Nat)×Value)}{bT:List (Int×Nat)}(h:Ic n w A L bT at_)(hp:bT≠[]):w.len 1≠0:=by
 intro h0
 cases bT with
 |nil=>exact hp rfl
 |cons p r=>
  obtain⟨x,x0,hx⟩:=h.c2 p (by simp)
  exact(uE (by omega)).1 h0 x (jI x0 hx)
theorem Ic.take{n at_:Nat}{w:Nw}{A:Ar}{L:List ((Int×Nat)×Value)}{bT:List (Int×Nat)}(h:Ic n w A L bT at_)(lC:at_<4294967295){x k:Int}{id:Nat}(hx:0≤x∧x<n)(hy:w.cs[x.toNat]? =some (1,k,(id:Int)+1))(hL:Q5 (k,id) bT)(hm:((x,A.bV x),i64 id)∈L):Ic n (w.put x (0,0,0)) (A.back x) L (wo bT (k,id)) at_:=by
 have aR:w.cs.length=n:=by rw[h.lk.len];exact h.Vi.len
 have hxA:0≤x∧x<A.g.length:=by rw[h.Vi.len];exact hx
 have hg:∀z:Int,0≤z→(A.back x).bV z=A.bV z:=by
  intro z hz
  rw[Ar.OB (A:=A) (A':=A.back x) hxA rfl hz]
  split
  ·rename_i e;rw[e]
  ·rfl
 have uL:A.live x:=(h.lk.live x).1 ⟨hx.1,_,hy,by simp⟩
 refine⟨h.hs,h.Vi.back hxA (by have:=h.ge x hx.1;omega),h.lk.put hxA (v:=A.bV x) rfl,h.ok.back uL,fun z y z0 Mm=>?_,fun p hp=>?_,fun z hz=>by rw[hg z hz];exact h.ge z hz,fun p hp=>by have:=h.ls p hp;exact⟨this.1,by rw[hg _ this.1];exact this.2⟩,h.ids,h.ri.wo _,fun p hp=>h.lt p (mE.1 hp).1,?_⟩
 rotate_right
 ·have h1:=(zK h.ri hL.m).length_eq
  have h2:=h.cn
  rw[aoI]at h1
  show A.ct - 1=_
  omega
 ·have Mm:(w.cs.set x.toNat (0,0,0))[z.toNat]? =some y:=Mm
  by_cases e:z=x
  ·subst e
   rw[aox (by omega)]at Mm
   injection Mm with Mm
   exact .inl (by rw[←Mm])
  ·rw[aov (by omega)]at Mm
   rcases h.c1 z y z0 Mm with h0| ⟨g1,id2,e1,e2,e3⟩
   ·exact .inl h0
   ·refine .inr ⟨g1,id2,e1,mE.2 ⟨e2,fun e4=>e ?_⟩,by rw[hg z z0];exact e3⟩
    simp only at e4
    rw[e4]at e3
    have:=h.idx e3 hm
    injection this
 ·obtain⟨HH,tJ⟩:=mE.1 hp
  obtain⟨z,z0,hz⟩:=h.c2 p HH
  refine⟨z,z0,?_⟩
  show(w.cs.set x.toNat (0,0,0))[z.toNat]? =_
  rw[aov ?_]
  ·exact hz
  ·intro e
   rw[←e,hy]at hz
   injection hz with hz
   injection hz with _ hz
   injection hz with _ hz
   simp only at tJ
   omega
theorem Ic.put{n at_:Nat}{w:Nw}{A A':Ar}{L:List ((Int×Nat)×Value)}{bT:List (Int×Nat)}(h:Ic n w A L bT at_){x:Int}(hp:A.pick=some (x,A'))(k:Int):(x,A.bV x+1)∉L.map (·.1)∧Ic n (w.put x (1,k,(at_:Int)+1)) (A'.out x) (L++[((x,A.bV x+1),i64 at_)]) (bT++[(k,at_)]) (at_+1):=by
 obtain⟨hx,nL,Zp,G6,hgA,hct,hmo⟩:=Ar.zI hp h.ok
 have aR:w.cs.length=n:=by rw[h.lk.len];exact h.Vi.len
 have hAn:=h.Vi.len
 have DG:0≤x∧x<A'.g.length:=by rw[hgA];exact hx
 have UU:∀z,A'.bV z=A.bV z:=fun z=>by unfold Ar.bV;rw[hgA]
 have hg:∀z:Int,0≤z→(A'.out x).bV z=if z=x then A.bV x+1 else A.bV z:=by
  intro z hz
  rw[Ar.OB (A:=A') (A':=A'.out x) DG rfl hz]
  rw[UU,UU]
 have T6:∀z,A'.live z↔A.live z:=fun z=>by unfold Ar.live;rw[hgA]
 have Ym:¬cU w.cs x:=fun hi=>nL ((h.lk.live x).1 hi)
 refine⟨fun hm=>?_,?_⟩
 ·obtain⟨p,HH,tJ⟩:=ao8.1 hm
  have:=(h.ls p HH).2
  rw[tJ]at this
  simp only at this
  omega
 ·refine⟨h.hs,h.Vi.out h.ok hp,h.lk.put hx (v:=A.bV x+1) ?_,?_,fun z y z0 Mm=>?_,fun p hp=>?_,fun z hz=>?_,fun p hp=>?_,?_,?_,fun p hp=>?_,by show A'.ct+1=_;rw[hct,h.cn,aoy];rfl⟩
  ·show A'.g.set x.toNat (A'.bV x+1,true)=_
   rw[UU,hgA]
   rfl
  ·refine xH.out (A:=A) ?_ hgA DG (fun hl=>nL ((T6 x).1 hl)) Zp G6
   exact QE hp h.ok
  ·have Mm:(w.cs.set x.toNat (1,k,(at_:Int)+1))[z.toNat]? =some y:=Mm
   by_cases e:z=x
   ·subst e
    rw[aox (by omega)]at Mm
    injection Mm with Mm
    subst Mm
    refine .inr ⟨rfl,at_,rfl,by simp,?_⟩
    rw[hg z z0,if_pos rfl]
    simp
   ·rw[aov (by omega)]at Mm
    rcases h.c1 z y z0 Mm with h0| ⟨g1,id2,e1,e2,e3⟩
    ·exact .inl h0
    ·exact .inr ⟨g1,id2,e1,ape _ e2,by rw[hg z z0,if_neg e];exact ape _ e3⟩
  ·rcases aoL.1 hp with hp|hp
   ·obtain⟨z,z0,hz⟩:=h.c2 p hp
    refine⟨z,z0,?_⟩
    show(w.cs.set x.toNat (1,k,(at_:Int)+1))[z.toNat]? =_
    rw[aov ?_]
    ·exact hz
    ·intro e
     exact Ym ⟨hx.1,_,by rw[e];exact hz,by simp⟩
   ·rw[aoH]at hp
    subst hp
    refine⟨x,hx.1,?_⟩
    show(w.cs.set x.toNat (1,k,(at_:Int)+1))[x.toNat]? =_
    rw[aox (by omega)]
  ·rw[hg z hz]
   have:=h.ge z hz
   have:=h.ge x hx.1
   split<;>omega
  ·rcases aoL.1 hp with hp|hp
   ·have:=h.ls p hp
    refine⟨this.1,?_⟩
    rw[hg _ this.1]
    split
    ·rename_i e;rw[e]at this;omega
    ·exact this.2
   ·rw[aoH]at hp
    subst hp
    exact⟨hx.1,by rw[hg _ hx.1,if_pos rfl];exact aoB _⟩
  ·rw[ao5,h.ids,aqc,ao5]
   rfl
  ·refine aqw.2 ⟨h.ri,by simp,fun a ha b hb=>?_⟩
   rw[aoH]at hb
   subst hb
   exact h.lt a ha
  ·rcases aoL.1 hp with hp|hp
   ·have:=h.lt p hp;omega
   ·rw[aoH]at hp
    subst hp
    exact Nat.lt_succ_self _
theorem Ic.zero(n:Nat):Ic n (Bf (n:Int)).make (QD (n:Int) 4294967295) [] [] 0:=by
 have hgz:∀x:Int,(QD (n:Int) 4294967295).bV x=0:=by
  intro x
  unfold Ar.bV QD
  simp only[aou,Int.toNat_natCast,apH]
  split<;>rfl
 have Wm:∀x,¬ (QD (n:Int) 4294967295).live x:=by
  rintro x ⟨_,hx⟩
  unfold QD at hx
  simp only[Int.toNat_natCast,apH]at hx
  split at hx<;>simp at hx
 have hiz:∀x,¬cU (Bf (n:Int)).make.cs x:=fun x hx=>kN (n:Int) x (bC.2 hx)
 refine⟨⟨by omega,rfl⟩,Rn.zero n,⟨by simp[Bf,QD,Nw.make],fun x=>⟨fun h=>absurd h (hiz x),fun h=>absurd h (Wm x)⟩⟩,⟨fun x hx=>(by cases hx),apT,fun x _=>Wm x,?_,apG _⟩,fun x y x0 hy=>?_,fun p hp=>(by cases hp),fun x _=>by rw[hgz];exact aoB _,fun p hp=>(by cases hp),rfl,List.Pairwise.nil,fun p hp=>(by cases hp),rfl⟩
 ·show(0:Int)=((List.replicate (n:Int).toNat ((0:Nat),false)).countP (·.2):Nat)
  rw[ap7.2]
  ·rfl
  ·intro a ha
   rw[aqi ha]
   simp
 ·have hy:(List.replicate (n:Int).toNat ((0,0,0):Ce))[x.toNat]? =some y:=hy
  exact .inl (by rw[aqi (aow hy)])
theorem Ic.room{n at_:Nat}{w:Nw}{A:Ar}{L:List ((Int×Nat)×Value)}{bT:List (Int×Nat)}(h:Ic n w A L bT at_)(hp:bT.length<n):A.pick≠none:=by
 have h1:=h.ok.ct
 have h2:=h.cn
 have h3:=h.Vi.len
 have h4:∃y∈A.g,y.2=false:=by
  apply aoJ
  intro bS
  have:A.aO=A.g.length:=by
   unfold Ar.aO
   rw[List.countP_eq_length]
   intro y hy
   cases hb:y.2
   ·exact absurd ⟨y,hy,hb⟩ bS
   ·rfl
  omega
 obtain⟨y,hy,hb⟩:=h4
 obtain⟨i,hi⟩:=aoN hy
 have qw:=(aoq.1 hi).1
 refine h.Vi.room (x:=(i:Int)) (by omega) (fun hl=>?_) h.ok
 have:=hl.2
 rw[Int.toNat_natCast,hi]at this
 simp[hb]at this
end Go.Proofs.YthpjfeolagohkaaGreat
