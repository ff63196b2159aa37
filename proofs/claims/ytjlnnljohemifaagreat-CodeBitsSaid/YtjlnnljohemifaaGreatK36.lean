import Derived.Test.YtjlnnljohemifaaGreatK98
import Derived.Test.YtjlnnljohemifaaGreatK0
import Derived.Test.YtjlnnljohemifaaGreatK28
import Derived.Test.YtjlnnljohemifaaGreatK29
import Derived.Test.YtjlnnljohemifaaGreatK30
import Derived.Test.YtjlnnljohemifaaGreatK34
import Derived.Test.YtjlnnljohemifaaGreatK35
set_option maxRecDepth 100000
set_option maxHeartbeats 8000000
set_option linter.unusedVariables false
set_option linter.unusedSimpArgs false
namespace Go.Proofs.YtjlnnljohemifaaGreat
open Go Go.Vc
theorem HG{n:Nat}{H:Hp}{S:Nat→Prop}{w:Nw}(h:iF n H S w):af Tryz.prog jD [ptr n] H fun v H'=>aw (
  (w.hs.length=65537∧v=i64 0∧cz (iF n) S H H' w)∨(w.hs.length≠65537∧v=i64 w.hs.length∧cz (iF n) S H H' w.make)):=by
 obtain⟨B,C,N,P,L,tops,ch,par,ax,rfl,m,l,hS⟩:=id h
 obtain⟨tv,ho,zH⟩:=m.own
 refine bm tf ?_
 refine v1 (ae ho) ?_
 refine(jf m.cells).mono ?_
 rintro _ H1 (⟨h1,rfl,rfl⟩| ⟨h1,rfl,C',c1,e1,zk⟩)
 ·refine vs ?_
  exact .inl ⟨h1,rfl,cz.same h (ag.refl _ _)⟩
 have fY:=m.cells.pos
 have hhs:=m.cells.zH
 have Mc:=l.tl
 have slt:=m.slt
 have Lv:=c1.slt
 obtain⟨n1,n2,n3,n4,n5,n6⟩:=m.out
 obtain⟨⟨d1,d2,d3,d4,d5⟩,⟨d6,d7,d8,d9⟩,⟨d10,d11,d12⟩⟩:=m.mc
 have o1:=e1.own ho n1
 refine vs ?_
 refine am.cF (anI (by omega)) ?_
 refine v1 (ae o1) ?_
 have s1:=zH.ext e1 (fun b hb=>by injection hb with hb;exact hb▸n6)
 refine Of s1 (-1) (by omega) fun w' H2 b' jy s2 e2=>?_
 have o2:=e2.own o1 d5
 obtain⟨wa,wc,Oo⟩:=Sl.shape s2
 subst Oo
 refine v1 o2 ?_
 generalize Oo:Value.slice wa (tops++[-1]).length wc=w' at*
 have e3:ag (fun z=>z=B.n) H2 (H2.wr B.n [ptr B.c,ptr B.r,.slice (some ⟨B.tb,0,none⟩) L.length L.length,w']):=(ag.refl (fun z=>z=B.n) _).wr (fun _=>rfl) _
 have z1:=e1.size
 have q1:=slt _ (.inr (.inl rfl))
 have q2:=slt _ (.inr (.inr (.inl rfl)))
 have q3:=slt _ (.inr (.inr (.inr (.inl rfl))))
 have q4:=slt _ (.inr (.inr (.inr (.inr (.inl rfl)))))
 have q5:=slt _ (.inr (.inr (.inr (.inr (.inr (.inl rfl))))))
 have q6:=slt _ (.inr (.inr (.inr (.inr (.inr (.inr rfl))))))
 have FQ:∀z,C' z→z≠b'∧(z<H.size→C z):=fun z hz=>by
  have h5:=Lv z hz
  rcases zk z hz with h6|h6
  ·refine⟨fun e=>?_,fun _=>h6⟩
   rcases jy with h7|h7
   ·exact n6 (by rw[←h7,←e];exact h6)
   ·omega
  ·exact⟨by omega,fun h=>by omega⟩
 refine .inr ⟨h1,rfl,(FB.mk B.n B.c B.r B.nb B.pb B.tb b').S C',⟨⟨B.n,B.c,B.r,B.nb,B.pb,B.tb,b'⟩,C',N,P,L,tops++[-1],ch,par,ax,rfl,⟨⟨w',ah o2,s2.ext e3 (fun b hb=>by injection hb with hb;omega)⟩,?_,?_,m.inv,?_,m.len,?_,?_⟩,⟨l.f,l.pc,fun g=>by rw[AS];exact l.tp g,fun g y hg hy=>by rw[AS];exact l.ls g y hg hy,?_⟩,fun z=>Iff.rfl⟩,?_,fun z hz=>?_⟩
 ·exact(c1.ext e2 (fun x hx e=>by
   rcases zk x hx with h6|h6
   ·exact n6 (e▸h6)
   ·omega)).ext e3 (fun x hx e=>by
   rcases zk x hx with h6|h6
   ·exact n1 (e▸h6)
   ·omega)
 ·exact((m.ring.ext e1 n2 n3 n4).ext e2 (Ne.symm d10) (Ne.symm d11) (Ne.symm d12)).ext e3 (Ne.symm d1) (Ne.symm d2) (Ne.symm d3)
 ·exact e3.own (e2.own (e1.own m.places n5) d9) (Ne.symm d4)
 ·refine⟨⟨d1,d2,d3,d4,?_⟩,⟨d6,d7,d8,?_⟩,⟨?_,?_,?_⟩⟩<;>simp only<;>omega
 ·exact⟨fun h=>n1 ((FQ _ h).2 q1),fun h=>n2 ((FQ _ h).2 q2),fun h=>n3 ((FQ _ h).2 q3),fun h=>n4 ((FQ _ h).2 q4),fun h=>n5 ((FQ _ h).2 q5),fun h=>(FQ _ h).1 rfl⟩
 ·simp[Nw.make,Mc]
 ·exact((e1.mono fun z _ h=>(hS z).2 (.inl h)).trans (e2.mono fun z _ h=>(hS z).2 (.inr (.inr (.inr (.inr (.inr (.inr h)))))))).trans (e3.mono fun z _ h=>(hS z).2 (.inr (.inl h)))
 ·rcases hz with hz|hz|hz|hz|hz|hz|hz
  ·rcases zk z hz with h6|h6
   ·exact .inl ((hS z).2 (.inl h6))
   ·exact .inr h6
  ·exact .inl ((hS _).2 (.inr (.inl hz)))
  ·exact .inl ((hS _).2 (.inr (.inr (.inl hz))))
  ·exact .inl ((hS _).2 (.inr (.inr (.inr (.inl hz)))))
  ·exact .inl ((hS _).2 (.inr (.inr (.inr (.inr (.inl hz))))))
  ·exact .inl ((hS _).2 (.inr (.inr (.inr (.inr (.inr (.inl hz)))))))
  ·rcases jy with h7|h7
   ·exact .inl ((hS _).2 (.inr (.inr (.inr (.inr (.inr (.inr (hz.trans h7))))))))
   ·exact .inr (by have hz:z=b':=hz;omega)
def tH(n i:Nat):List Int:=(List.range i).map (fun(k:Nat)=>(k:Int))++List.replicate (n - i) 0
theorem vx{n i:Nat}(h:i≤n):(tH n i).length=n:=by unfold tH;simp;omega
theorem T2{n i:Nat}(h:i<n):(tH n i).set i (i:Int)=tH n (i+1):=by
 unfold tH
 rw[apt _ _ (by simp),anQ,List.length_range,aoI,show n - i=(n - (i+1))+1 by omega,aoc,aoS,apA,an8]
 simp
theorem F7(n:Nat)(x:Int):ce (tH n n) x=x:=by
 unfold ce
 split
 ·rename_i h
  rw[vx (anG _)]at h
  unfold tH
  rw[aoI,apz,aon,anx,anR,List.getElem?_range (by omega)]
  simp
  omega
 ·rfl
theorem HH(H:Hp){n:Int}(hn:0≤n∧n≤65536):af Tryz.prog MO [i64 n] H fun v H'=>aw (∃r nb pb N P,v= .tuple [ptr r,i64 0].toArray∧fP H' r nb pb N P∧N.length=n.toNat∧(∀x,ce N x=x)∧Bb (ce N) (ce P)∧ai H H'∧H.size≤r∧H.size≤nb∧H.size≤pb):=by
 refine bm MT ?_
 refine vs ?_
 refine am.dec (fun g=>absurd g (by omega)) (fun _=>?_)
 refine vs ?_
 refine am.dec (fun g=>absurd g (by omega)) (fun _=>?_)
 refine vs ?_
 have hz:(List.replicate n.toNat (0:Int))=tH n.toNat 0:=by unfold tH;simp
 refine jX.intro (fun H'=>True) trivial ?_
 refine vs ?_
 refine EB.intro ?A ?B
 case' A=>
  refine vs ?_
  refine⟨⟨by omega,by omega,by omega,by omega⟩,?_⟩
  refine vs ?_
  refine⟨⟨by omega,by omega,by omega,by omega⟩,?_⟩
  refine vs ?_
  rw[AW,hz]
  obtain⟨nb,Eg⟩:∃nb,nb=H.size:=⟨_,rfl⟩
  obtain⟨pb,Og⟩:∃pb,pb=H.size+1:=⟨_,rfl⟩
  have f0:ai H (((H.new 3 ((tH n.toNat 0).map i64)).new 3 ((tH n.toNat 0).map i64)).new 317 [.slice (some ⟨H.size,0,none⟩) n.toNat n.toNat,.slice (some ⟨H.size+1,0,none⟩) n.toNat n.toNat]):=(((ag.refl _ _).new _ _).new _ _).new _ _
  have h0:fP (((H.new 3 ((tH n.toNat 0).map i64)).new 3 ((tH n.toNat 0).map i64)).new 317 [.slice (some ⟨H.size,0,none⟩) n.toNat n.toNat,.slice (some ⟨H.size+1,0,none⟩) n.toNat n.toNat]) (H.size+1+1) nb pb (tH n.toNat 0) (tH n.toNat 0):=by
   subst Eg Og
   refine⟨?_,?_,?_,rfl,by omega,by omega,by omega⟩
   ·rw[vx (ao2 _)];exact aV (by simp only[aq])
   ·rw[ci (by simp only[aq];omega),ci (by simp only[aq];omega),aB]
   ·rw[ci (by simp only[aq];omega)];exact aV (by simp only[aq])
  generalize ((H.new 3 ((tH n.toNat 0).map i64)).new 3 ((tH n.toNat 0).map i64)).new 317 [.slice (some ⟨H.size,0,none⟩) n.toNat n.toNat,.slice (some ⟨H.size+1,0,none⟩) n.toNat n.toNat]=H0 at*
  have WI:H.size≤nb∧H.size≤pb:=⟨by omega,by omega⟩
 case' B=>
  refine vs ?_
  refine⟨⟨by omega,by omega,by omega,by omega⟩,?_⟩
  refine vs ?_
  refine⟨⟨by omega,by omega,by omega,by omega⟩,?_⟩
  refine vs ?_
  rw[AW,hz]
  obtain⟨nb,Eg⟩:∃nb,nb=H.size+1:=⟨_,rfl⟩
  obtain⟨pb,Og⟩:∃pb,pb=H.size:=⟨_,rfl⟩
  have f0:ai H (((H.new 3 ((tH n.toNat 0).map i64)).new 3 ((tH n.toNat 0).map i64)).new 317 [.slice (some ⟨H.size+1,0,none⟩) n.toNat n.toNat,.slice (some ⟨H.size,0,none⟩) n.toNat n.toNat]):=(((ag.refl _ _).new _ _).new _ _).new _ _
  have h0:fP (((H.new 3 ((tH n.toNat 0).map i64)).new 3 ((tH n.toNat 0).map i64)).new 317 [.slice (some ⟨H.size+1,0,none⟩) n.toNat n.toNat,.slice (some ⟨H.size,0,none⟩) n.toNat n.toNat]) (H.size+1+1) nb pb (tH n.toNat 0) (tH n.toNat 0):=by
   subst Eg Og
   refine⟨?_,?_,?_,rfl,by omega,by omega,by omega⟩
   ·rw[vx (ao2 _)];exact aV (by simp only[aq])
   ·rw[ci (by simp only[aq];omega)];exact aV (by simp only[aq])
   ·rw[ci (by simp only[aq];omega),ci (by simp only[aq];omega),aB]
  generalize ((H.new 3 ((tH n.toNat 0).map i64)).new 3 ((tH n.toNat 0).map i64)).new 317 [.slice (some ⟨H.size+1,0,none⟩) n.toNat n.toNat,.slice (some ⟨H.size,0,none⟩) n.toNat n.toNat]=H0 at*
  have WI:H.size≤nb∧H.size≤pb:=⟨by omega,by omega⟩
 all_goals
  refine bk.intro (fun m env H'=>∃j:Nat,m=n.toNat - j∧j≤n.toNat∧ag (fun z=>z=nb∨z=pb) H0 H'∧fP H' (H.size+1+1) nb pb (tH n.toNat j) (tH n.toNat j)∧
   env=[(4,ptr (H.size+1+1)),(18,i64 n),(19,i64 j)]) n.toNat ⟨0,by omega,by omega,ag.refl _ _,h0,rfl⟩ ?_
  rintro m env H1 ⟨j,rfl,hj,e1,h1,rfl⟩
  have sE:=vx hj
  obtain⟨d1,d2,d3⟩:=h1.ne
  refine vs ?_
  refine am.dec (fun aO=>?_) (fun aO=>?_)<;>refine vs ?_
  ·refine v1 (ae h1.own) ?_
   refine⟨⟨by omega,by omega⟩,?_⟩
   refine v4 h1.Ov ant anw Int.toNat_natCast ?_
   refine⟨by rw[anQ];omega,?_⟩
   refine vs ?_
   have e2:ag (fun z=>z=nb) H1 (H1.wr nb (((tH n.toNat j).map i64).set j (i64 j))):=(ag.refl (fun z=>z=nb) _).wr (fun _=>rfl) _
   have q2:(H1.wr nb (((tH n.toNat j).map i64).set j (i64 j))).own nb=some (((tH n.toNat j).map i64).set j (i64 j)):=ah h1.Ov
   generalize H1.wr nb (((tH n.toNat j).map i64).set j (i64 j))=H2 at*
   have p2:=e2.own h1.Vk (Ne.symm d3)
   refine⟨⟨by omega,by omega⟩,?_⟩
   refine v5 p2 h1.Vk ant anw Int.toNat_natCast ?_
   refine⟨by rw[anQ];omega,?_⟩
   refine vs ?_
   have e3:ag (fun z=>z=pb) H2 (H2.wr pb (((tH n.toNat j).map i64).set j (i64 j))):=(ag.refl (fun z=>z=pb) _).wr (fun _=>rfl) _
   have q3:(H2.wr pb (((tH n.toNat j).map i64).set j (i64 j))).own pb=some (((tH n.toNat j).map i64).set j (i64 j)):=ah p2
   have Ln:((tH n.toNat j).map i64).set j (i64 j)=(tH n.toNat (j+1)).map i64:=by rw[←T2 (by omega),aoh]
   rw[wrap64 (n:=(j:Int)+1) (by omega) (by omega)]
   refine⟨n.toNat - (j+1),by omega,j+1,rfl,by omega,(e1.trans (e2.mono fun z _ h=>.inl h)).trans (e3.mono fun z _ h=>.inr h),⟨?_,?_,?_,rfl,h1.ne⟩,rfl⟩
   ·have ho:=e3.own (e2.own h1.own d1) d2
    rw[sE]at ho
    rw[vx (by omega)]
    exact ho
   ·rw[←Ln];exact e3.own q2 d3
   ·rw[←Ln];exact q3
  ·obtain rfl:j=n.toNat:=by omega
   exact⟨_,nb,pb,_,_,rfl,h1,vx (anG _),F7 _,⟨fun x=>by rw[F7,F7],fun x=>by rw[F7,F7]⟩,f0.then e1 (fun z hz=>by rcases hz with h|h<;>omega),by omega,WI.1,WI.2⟩
theorem Bh{n:Nat}{H:Hp}{S:Nat→Prop}{w:Nw}(h:iF n H S w)(x k s:Int):af Tryz.prog gm [ptr n,i64 x,tz k s] H fun v H'=>aw (
  (¬w.cX x k s∧v= .bool false∧cz (iF n) S H H' w)∨(w.cX x k s∧v= .bool true∧∃y,w.cs[x.toNat]? =some y∧cz (iF n) S H H' (w.put x (y.1,k,s)))):=by
 obtain⟨B,C,N,P,L,tops,ch,par,ax,rfl,m,l,hS⟩:=h
 have hC:∀z,C z→S z:=fun z h=>(hS z).2 (.inl h)
 have Vl:S B.nb:=(hS _).2 (.inr (.inr (.inr (.inl rfl))))
 have HE:S B.pb:=(hS _).2 (.inr (.inr (.inr (.inr (.inl rfl)))))
 have tb3:S B.tb:=(hS _).2 (.inr (.inr (.inr (.inr (.inr (.inl rfl))))))
 have tb4:S B.tp:=(hS _).2 (.inr (.inr (.inr (.inr (.inr (.inr rfl))))))
 refine bm nS ?_
 refine vs ?_
 have f0:ai H (H.new 224 [i64 k,u64 s]):=(ag.refl _ _).new _ _
 have b0:(H.new 224 [i64 k,u64 s]).own H.size=some [i64 k,u64 s]:=aB _ _ _
 have m0:=m.fresh f0
 generalize H.new 224 [i64 k,u64 s]=H0 at*
 have ff:ag S H H0:=f0.mono fun _ _ h=>h.elim
 obtain⟨tv,Hy,_⟩:=m0.own
 refine v2 (ae Hy) (ae b0) ?_
 refine(gM m0.cells x k s).mono ?_
 rintro _ H1 (⟨bK,rfl,c1,e1⟩| ⟨bJ,rfl,y,hy,fh,c1,e1⟩)
 ·refine vs ?_
  exact .inl ⟨bK,rfl,cz.same ⟨B,C,N,P,L,tops,ch,par,ax,rfl,m0.ext e1 (fun _ _ h=>h),l,hS⟩ (ff.trans (e1.mono fun _ _ h=>h.elim))⟩
 have my:(w.put x (y.1,k,s)).cs.length=w.cs.length:=by simp[Nw.put]
 have m1:=m0.aJ c1 e1 my
 have AY:w.cX x k s:=⟨bJ,fun z hz=>by rw[hy]at hz;injection hz with hz;rw[←hz];exact fh⟩
 have hx:0≤x∧x<w.cs.length:=⟨bJ.1,by have:=(anu.1 hy).1;have:=bJ.1;omega⟩
 have Qv:aG w x=y.1:=j0 bJ.1 hy
 have dF:=bq.2 bJ
 have hw:aG (w.put x (y.1,k,s))=aG w:=by
  funext z
  rw[dS hx]
  split
  ·rename_i e;rw[e,Qv]
  ·rfl
 have Eh:cT (w.put x (y.1,k,s)).cs x:=bq.1 (by rw[hw];exact dF)
 have el:∀a b,0<aG w a→0<aG w b→a≠x→b≠x→aQ (w.put x (y.1,k,s)) a b=aQ w a b:=fun a b ha hb tG me=>du hx _ ha hb tG me
 have ex:∀b,0<aG w b→b≠x→aQ w x b=true→aQ (w.put x (y.1,k,s)) x b=true:=fun b hb me h=>AR bJ hy fh hb me h
 have ls:=ar w
 have SZ:=ar (w.put x (y.1,k,s))
 obtain⟨g,hg⟩:∃g,g=aG w x:=⟨_,rfl⟩
 have di:g<tops.length:=by
  have:=((m.cells.hm x).2 dF).2
  have:=l.tl
  omega
 have BK:∀z,aG w z=g→bi tops g≠ -1∧(z≠bi tops g→aQ w (bi tops g) z=true):=fun z hz=>l.ls g z (by omega) hz
 obtain⟨EZ,Gt⟩:=BK x hg.symm
 obtain⟨T,hT⟩:∃T,T=bi tops g:=⟨_,rfl⟩
 rw[←hT]at EZ Gt BK
 have W7:=dF
 have hhl:(w.put x (y.1,k,s)).hs.length=w.hs.length:=by simp[Nw.put]
 obtain⟨A,hr⟩:∃A,ax g=T::A:=by
  have h1:=l.tp g
  rw[←hT]at h1
  cases hc:ax g with
  |nil=>rw[hc]at h1;exact absurd h1 EZ
  |cons c r=>rw[hc]at h1;exact⟨r,by rw[show T=c from h1]⟩
 have hTg:=(l.f.rm g T (by rw[hr];simp)).1
 have hTp:=(l.f.rm g T (by rw[hr];simp)).2.1
 have hT0:0<aG w T:=by omega
 generalize Oo:w.put x (y.1,k,s)=w' at*
 obtain⟨Cx,o1,_⟩:=m1.own
 refine v1 (ae o1) ?_
 refine(de m1.cells x).mono ?_
 rintro _ H2 (⟨bK,_,_⟩| ⟨_,rfl,c2,e2⟩)
 ·exact absurd Eh bK
 have m2:=m1.aJ c2 e2 rfl
 have o8:ag S H H2:=(ff.trans (e1.mono fun z _ h=>hC z h)).trans (e2.mono fun z _ h=>hC z h)
 rw[hw,←hg]
 obtain⟨Nb,o2,_⟩:=m2.own
 have rU:=m2.len
 have wZ:0≤x∧x<w'.cs.length:=by rw[my];exact hx
 obtain⟨a0,a1,a2,a3,a4⟩:=m2.rd wZ
 obtain⟨ux,_,_⟩:=l.pc x
 rw[ux]at a1
 refine v1 (ae o2) ?_
 refine⟨⟨by omega,by omega⟩,?_⟩
 refine v4 (ae m2.places) ant Nat.add_zero a1 ?_
 have e0:ay ax g (T::A)=ax:=by
  funext z
  unfold ay
  split
  ·rename_i e;rw[e,hr]
  ·rfl
 have Oe:(par x= -1∨aQ w' (par x) x=true)→dV (aG w') (aQ w') (ce N) ch par (ay ax g (T::A)) []:=fun JV=>by
  rw[e0,hw]
  refine l.f.other fun z c hc h1 h2 h3=>?_
  by_cases hz:z=x
  ·rw[hz]at h3 hc ⊢
   exact ex c h2 (fun e=>by rw[e,ls.vk]at h3;cases h3) h3
  ·by_cases fS:c=x
   ·rw[fS]at hc ⊢
    obtain⟨d1,d2,_⟩:=l.f.pr.dn z x hc
    rcases JV with h|h
    ·rw[h]at d1;exact absurd d1.symm d2
    ·rw[←d1];exact h
   ·rw[el _ _ (by omega) h2 hz fS];exact h3
 refine am.dec (fun h0=>?A) (fun h0=>?B)
 case' A=>
  refine vs ?_
  obtain⟨H3,eH⟩:∃H3,H3=H2:=⟨_,rfl⟩
  rw[←eH]at m2 o8 ⊢
  obtain⟨N3,P3,L3,Me,oR,A3,m3,f3,p3,e3⟩:∃N' P' L' dU bF A',bT H3 B C w' N' P' L' tops∧dV (aG w') (aQ w') (ce N') dU bF (ay ax g (T::A')) []∧JX (eC L') dU bF∧ag S H H3:=⟨N,P,L,ch,par,A,m2,Oe (.inl h0),l.pc,o8⟩
 case' B=>
  have hpc:=l.f.pr.up x _ rfl h0
  obtain⟨_,_,hph,DN,sL⟩:=l.f.pr.dn _ _ hpc
  have dF:par x≠x:=fun e=>by rw[e,ls.vk]at sL;cases sL
  refine v1 (ae o2) ?_
  refine(cD m2.cells x (par x)).mono ?_
  rintro _ H4 ⟨rfl,c4,e4⟩
  have m4:=m2.aJ c4 e4 rfl
  have vt:=o8.trans (e4.mono fun z _ h=>hC z h)
  rw[gN (w:=w') (a:=x) (b:=par x) (by rw[hw];exact W7) (by rw[hw];omega)]
  cases aO:aQ w' x (par x)
  case' false=>
   refine vs ?_
   obtain⟨H3,eH⟩:∃H3,H3=H4:=⟨_,rfl⟩
   rw[←eH]at m4 vt ⊢
   obtain⟨N3,P3,L3,Me,oR,A3,m3,f3,p3,e3⟩:∃N' P' L' dU bF A',bT H3 B C w' N' P' L' tops∧dV (aG w') (aQ w') (ce N') dU bF (ay ax g (T::A')) []∧JX (eC L') dU bF∧ag S H H3:=⟨N,P,L,ch,par,A,m4,Oe (.inr ((SZ.Ob (par x) x dF).resolve_right (by rw[aO];simp))),l.pc,vt⟩
  case' true=>
   refine vs ?_
   refine(Ej m4 ls (x:=x) (g:=g) (t:=T) (A:=A) (by rw[hw];exact l.f) l.pc (by rw[hw];exact hg.symm) (by omega) di hr hT.symm).mono ?_
   rintro _ H3 ⟨N3,P3,L3,Me,oR,A3,m3,f3',p3,u3,_,e5⟩
   have e3:=vt.trans (e5.mono fun z _ h=>by
    rcases h with h|h|h
    ·exact h▸Vl
    ·exact h▸HE
    ·exact h▸tb3)
   have f3:dV (aG w') (aQ w') (ce N3) Me oR (ay ax g (T::A3)) []:=by
    refine f3'.other fun z c hc h1 h2 h3=>?_
    rw[hw]at h1 h2
    have fS:c≠x:=fun e=>by
     obtain⟨d1,d2,_⟩:=f3'.pr.dn z c hc
     rw[e,u3]at d1
     exact d2 d1.symm
    by_cases hz:z=x
    ·rw[hz]at h3 ⊢
     exact ex c h2 fS h3
    ·rw[el _ _ (by omega) h2 hz fS];exact h3
   refine vs ?_
 all_goals
  have Td:ay ax g (T::A3) g=T::A3:=by unfold ay;rw[if_pos rfl]
  obtain⟨cc,lt3,o3,q3,xF,tF,On⟩:=m3.fN
  have q4:=m3.eO q3 (dT (tops:=tops) (h:=g) (by omega) di)
  rw[←hT]at q4
  refine v1 (ae o3) ?_
  refine⟨⟨by omega,by omega⟩,?_⟩
  refine v4 (ae q3) ant anw q4 ?_
  have CB:∀g2 z,g2≠g→0<g2→aG w' z=g2→bi tops g2≠ -1∧(z≠bi tops g2→aQ w' (bi tops g2) z=true):=fun g2 z aP BN hz=>by
   rw[hw]at hz
   obtain⟨h1,h2⟩:=l.ls g2 z BN hz
   refine⟨h1,fun T3=>?_⟩
   have h5:aG w (bi tops g2)=g2:=by
    have hm:bi tops g2∈ax g2:=by
     have:=l.tp g2
     rw[this]at h1 ⊢
     exact eA h1
    exact(l.f.rm g2 _ hm).1
   rw[el _ _ (by omega) (by omega) (fun e=>by rw[e]at h5;omega) (fun e=>by rw[e]at hz;omega)]
   exact h2 T3
  have htp:∀g2,bi tops g2=(ay ax g (T::A3) g2).headD (-1):=fun g2=>by
   unfold ay
   split
   ·rename_i e;rw[e,←hT];rfl
   ·exact l.tp g2
  refine am.dec (fun h5=>?_) (fun h5=>?_)
  ·refine vs ?_
   refine .inr ⟨AY,rfl,y,hy,?_⟩
   rw[Oo]
   refine cz.same ⟨B,C,N3,P3,L3,tops,Me,oR,_,rfl,m3,⟨f3,p3,htp,fun g2 z BN hz=>?_,by rw[l.tl,hhl]⟩,hS⟩ e3
   by_cases h6:g2=g
   ·rw[h6,←hT]
    refine⟨EZ,fun T3=>?_⟩
    rw[hw,h6]at hz
    have h7:=(BK z hz).2 T3
    rw[h5]at h7 T3 ⊢
    exact ex z (by omega) T3 h7
   ·exact CB g2 z h6 BN hz
  refine v1 (ae o3) ?_
  refine⟨⟨by omega,by omega⟩,?_⟩
  refine v4 (ae q3) ant anw q4 ?_
  refine(cD m3.cells x T).mono ?_
  rintro _ H6 ⟨rfl,c6,e6⟩
  have m6:=m3.aJ c6 e6 rfl
  have Lw:=e3.trans (e6.mono fun z _ h=>hC z h)
  rw[gN (w:=w') (a:=x) (b:=T) (by rw[hw];exact W7) (by rw[hw];omega)]
  cases CL:aQ w' x T
  ·refine vs ?_
   refine .inr ⟨AY,rfl,y,hy,?_⟩
   rw[Oo]
   refine cz.same ⟨B,C,N3,P3,L3,tops,Me,oR,_,rfl,m6,⟨f3,p3,htp,fun g2 z BN hz=>?_,by rw[l.tl,hhl]⟩,hS⟩ Lw
   by_cases h6:g2=g
   ·rw[h6,←hT]
    refine⟨EZ,fun T3=>?_⟩
    rw[hw,h6]at hz
    by_cases h8:z=x
    ·rw[h8];exact(SZ.Ob T x h5).resolve_right (by rw[CL];simp)
    ·rw[el _ _ (by omega) (by omega) h5 h8]
     exact(BK z hz).2 T3
   ·exact CB g2 z h6 BN hz
  ·obtain⟨cc,lt6,o6,q6,xF,tF,On⟩:=m6.fN
   refine v1 (ae o6) ?_
   refine⟨⟨by omega,by omega⟩,?_⟩
   refine v3 q6 ant anw ?_
   refine⟨by omega,?_⟩
   obtain⟨m7,e7⟩:=m6.lc q6 g.toNat x
   refine vs ?_
   have JZ:oR x= -1:=by
    apply anW
    intro hp
    obtain⟨_,d2,d3,d4,d5⟩:=f3.pr.dn _ _ (f3.pr.up x _ rfl hp)
    rw[hw]at d3 d4
    by_cases e:oR x=T
    ·rw[e]at d5
     rw[SZ.asym d5]at CL;cases CL
    ·have h9:=(BK (oR x) (by omega)).2 e
     have afF:oR x≠x:=fun e=>by rw[e,SZ.vk]at d5;cases d5
     rw[←el _ _ (by omega) (by omega) h5 afF]at h9
     rw[SZ.asym (SZ.tr _ _ _ h9 d5)]at CL;cases CL
   have hxm:x∈ay ax g (T::A3) g:=by
    rcases f3.jt x (by rw[hw];exact W7) JZ with h|h
    ·rw[hw,←hg]at h;exact h
    ·cases h
   obtain⟨A7,_,f7⟩:=f3.from_ hxm
   rw[eB]at f7
   refine .inr ⟨AY,rfl,y,hy,?_⟩
   rw[Oo]
   refine cz.same ⟨B,C,N3,P3,L3,_,Me,oR,_,rfl,m7,⟨f7,p3,fun g2=>?_,fun g2 z BN hz=>?_,by rw[anv,l.tl,hhl]⟩,hS⟩ (Lw.trans (e7.mono fun z _ h=>h▸tb4))
   ·rw[ez (by omega) di]
    unfold iX ay
    split
    ·rfl
    ·exact l.tp g2
   ·rw[ez (by omega) di]
    unfold iX
    by_cases h6:g2=g
    ·rw[if_pos h6]
     refine⟨by omega,fun T3=>?_⟩
     rw[hw,h6]at hz
     by_cases h8:z=T
     ·rw[h8];exact CL
     ·have h9:=(BK z hz).2 h8
      rw[←el _ _ (by omega) (by omega) h5 T3]at h9
      exact SZ.tr _ _ _ CL h9
    ·rw[if_neg h6]
     exact CB g2 z h6 BN hz
theorem T4(k:Nat):cA [Value.int .i64 0,Value.int .i64 0,Value.int .i64 0,Value.bool false] k=aK (List.replicate k ⟨0,0,0,false⟩):=by
 unfold cA aK
 induction k with
 |zero=>rfl
 |succ k ih=>rw[aoc,aoc,aos,ao6,ih];rfl
theorem JB(cap:Int)(H:Hp):af Tryz.prog DD [i64 cap] H fun v H'=>aw (
  ai H H'∧((¬ (0≤cap∧cap≤65536)∧v= .tuple [.pointer none,i64 31].toArray)∨
   ((0≤cap∧cap≤65536)∧∃n S,v= .tuple [ptr n,i64 0].toArray∧iF n H' S (zj cap)∧∀x,S x→H.size≤x))):=by
 refine bm DJ ?_
 refine vs ?_
 refine(k8 cap H).mono ?_
 rintro _ H1 ⟨f1,⟨hb,rfl⟩| ⟨hb,c,C,rfl,c1,hC⟩⟩
 ·refine vs ?_
  exact⟨f1,.inl ⟨hb,rfl⟩⟩
 refine vs ?_
 refine(HH H1 hb).mono ?_
 rintro _ H2 ⟨r,nb,pb,N,P,rfl,r2,hN,hid,hinv,f2,hr,Eg,Og⟩
 have c2:=c1.fresh f2
 refine v1 aoi ?_
 refine⟨⟨by omega,by omega,by omega,by omega⟩,?_⟩
 refine vs ?_
 rw[T4]
 have xE:=c1.slt
 have z1:=f1.size
 have z2:=f2.size
 have hrs:r<H2.size∧nb<H2.size∧pb<H2.size:=⟨aA r2.own,aA r2.Ov,aA r2.Vk⟩
 obtain⟨rn1,rn2,rn3⟩:=r2.ne
 have f3:ai H2 (((H2.new 273 (aK (List.replicate cap.toNat ⟨0,0,0,false⟩))).new 3 [Value.int .i64 (-1)]).new 271 [ptr c,ptr r,.slice (some ⟨H2.size,0,none⟩) cap.toNat cap.toNat,.slice (some ⟨H2.size+1,0,none⟩) 1 1]):=(((ag.refl _ _).new _ _).new _ _).new _ _
 have e1:ag (fun _=>False) (H2.new 273 (aK (List.replicate cap.toNat ⟨0,0,0,false⟩))) (((H2.new 273 (aK (List.replicate cap.toNat ⟨0,0,0,false⟩))).new 3 [Value.int .i64 (-1)]).new 271 [ptr c,ptr r,.slice (some ⟨H2.size,0,none⟩) cap.toNat cap.toNat,.slice (some ⟨H2.size+1,0,none⟩) 1 1]):=((ag.refl _ _).new _ _).new _ _
 have e2:ag (fun _=>False) ((H2.new 273 (aK (List.replicate cap.toNat ⟨0,0,0,false⟩))).new 3 [Value.int .i64 (-1)]) (((H2.new 273 (aK (List.replicate cap.toNat ⟨0,0,0,false⟩))).new 3 [Value.int .i64 (-1)]).new 271 [ptr c,ptr r,.slice (some ⟨H2.size,0,none⟩) cap.toNat cap.toNat,.slice (some ⟨H2.size+1,0,none⟩) 1 1]):=(ag.refl _ _).new _ _
 obtain⟨B,hB⟩:∃B:FB,B=⟨H2.size+1+1,c,r,nb,pb,H2.size,H2.size+1⟩:=⟨_,rfl⟩
 have m0:bT (((H2.new 273 (aK (List.replicate cap.toNat ⟨0,0,0,false⟩))).new 3 [Value.int .i64 (-1)]).new 271 [ptr c,ptr r,.slice (some ⟨H2.size,0,none⟩) cap.toNat cap.toNat,.slice (some ⟨H2.size+1,0,none⟩) 1 1]) B C (zj cap) N P (List.replicate cap.toNat ⟨0,0,0,false⟩) [-1]:=by
  subst hB
  refine⟨⟨.slice (some ⟨H2.size+1,0,none⟩) 1 1,?_,?_⟩,c2.fresh f3,r2.ext f3 (fun h=>h) (fun h=>h) (fun h=>h),hinv,?_,?_,?_,?_⟩
  ·rw[aog]
   exact aV (by simp only[aq])
  ·exact(Sl.cf (size:=1) (n:=1) (xs:=[i64 (-1)]) rfl (by simp only[aq])).ext e2 (fun _ _ h=>h)
  ·exact e1.own (aB _ _ _) (fun h=>h)
  ·simp[zj,hN]
  ·refine⟨⟨?_,?_,?_,?_,?_⟩,⟨?_,?_,?_,?_⟩,⟨?_,?_,?_⟩⟩<;>simp only<;>omega
  ·refine⟨fun h=>?_,fun h=>?_,fun h=>?_,fun h=>?_,fun h=>?_,fun h=>?_⟩<;>(have h2:=xE _ h;first|omega| (simp only at h2;omega))
 have Ea:B.n=H2.size+1+1:=by rw[hB]
 have hBs:∀z,B.S C z→H1.size≤z∨C z:=fun z hz=>by
  rcases hz with hz|rfl|rfl|rfl|rfl|rfl|rfl
  ·exact .inr hz
  all_goals rw[hB];left;first|omega| (simp only;omega)
 have hBt:B.tb=H2.size:=by rw[hB]
 have ft:=(f1.trans f2).trans f3
 generalize ((H2.new 273 (aK (List.replicate cap.toNat ⟨0,0,0,false⟩))).new 3 [Value.int .i64 (-1)]).new 271 [ptr c,ptr r,.slice (some ⟨H2.size,0,none⟩) cap.toNat cap.toNat,.slice (some ⟨H2.size+1,0,none⟩) 1 1]=H3 at*
 have nO:(zj cap).cs.length=cap.toNat:=by simp[zj]
 rw[←Ea]
 refine bk.intro (fun m env H'=>∃ (j:Nat) (L':List Pc),m=cap.toNat - j∧j≤cap.toNat∧ag (fun z=>z=B.tb) H3 H'∧bT H' B C (zj cap) N P L' [-1]∧(∀z:Int,0≤z→z<j→eC L' z=nT)∧
  env=[(5,i64 0),(7,ptr B.n),(33,i64 (cap.toNat:Nat)),(34,i64 j)]) cap.toNat ⟨0,_,by omega,by omega,ag.refl _ _,m0,fun z h0 h1=>by omega,rfl⟩ ?_
 rintro m env H4 ⟨j,L4,rfl,hj,e4,m4,g4,rfl⟩
 obtain⟨cc,lt4,o4,_⟩:=m4.fN
 have T1:=m4.len
 refine vs ?_
 refine am.dec (fun aO=>?_) (fun aO=>?_)<;>refine vs ?_
 ·refine jX.intro (fun H'=>H'.own B.n=some [ptr B.c,ptr B.r,.slice (some ⟨B.tb,0,none⟩) L4.length L4.length,.slice (some ⟨B.tp,0,none⟩) [(-1:Int)].length cc]) o4 ?_
  refine vs ?_
  refine fV.intro (.slice (some ⟨B.tb,0,none⟩) L4.length L4.length) (fun H' hI=>by refine v1 (ae hI) ?_;trivial) ?_
  refine vs ?_
  refine(uO H4).mono ?_
  rintro _ H5 ⟨rfl,e5⟩
  have o5:=e5.own o4 (fun h=>h)
  refine And.intro o5 ?_
  have m5:=m4.fresh e5
  refine vs ?_
  refine⟨⟨by omega,by omega⟩,?_⟩
  obtain⟨b0,_⟩:=m5.rd (x:=(j:Int)) (by omega)
  obtain⟨L6,k6,m6,e6⟩:=m5.Np (x:=(j:Int)) (by omega) nT
  refine v2 m5.places ant ?_
  refine⟨by omega,?_⟩
  rw[show bh (aK L4) ((j:Int).toNat*4) (aH (Value.agg #[i64 (-1),i64 (-1),i64 0,Value.bool false]))=bh (aK L4) ((j:Int).toNat*4) [i64 nT.u,i64 nT.k,i64 nT.d,.bool nT.m]from rfl]
  have xM:=m5.mc.1.2.2.2.1
  generalize H5.wr B.tb (bh (aK L4) ((j:Int).toNat*4) [i64 nT.u,i64 nT.k,i64 nT.d,.bool nT.m])=H6 at*
  refine vs ?_
  refine And.intro (e6.own o5 xM) ?_
  refine vs ?_
  refine⟨cap.toNat - (j+1),by omega,j+1,L6,rfl,by omega,(e4.trans (e5.mono fun _ _ h=>h.elim)).trans e6,m6,fun z h0 h1=>?_,?_⟩
  ·rw[k6]
   unfold mE
   split
   ·rfl
   ·exact g4 z h0 (by omega)
  ·rw[wrap64 (n:=(j:Int)+1) (by omega) (by omega)]
   rfl
 ·obtain rfl:j=cap.toNat:=by omega
  have hpc:∀z,eC L4 z=nT:=fun z=>by
   by_cases hz:0≤z∧z< (cap.toNat:Int)
   ·exact g4 z hz.1 hz.2
   ·unfold eC
    split
    ·rw[anK (by omega)];rfl
    ·rfl
  refine⟨ft.then e4 (fun z hz=>by omega),.inr ⟨hb,B.n,B.S C,rfl,⟨B,C,N,P,L4,[-1],fun _=>[],fun _=> -1,fun _=>[],rfl,m4,⟨⟨⟨rfl,fun x c hc=>absurd hc (by simp),fun c x h hx=>absurd (Eq.symm h) hx,fun x=>aoG⟩,
   fun x=>trivial,fun h=>trivial,fun h=>aoG,fun h c hc=>absurd hc (by simp),aoG,fun c hc=>absurd hc (by simp),fun c hc=>absurd hc (lf cap c),fun c _=>hid c⟩,fun x=>by rw[hpc];exact⟨rfl,rfl,rfl⟩,
   fun g=>CC g,fun g y hg hy=>absurd (show 0<aG (zj cap) y by omega) (lf cap y),rfl⟩,fun z=>Iff.rfl⟩,fun z hz=>?_⟩⟩
  rcases hBs z hz with h|h
  ·omega
  ·exact hC z h
theorem R3(n:Nat):xK (.iface 206 (ptr n)) (iF n) where
 slt h:=h.slt
 ext h e hd:=h.ext e hd
 cells:=by
  rintro H S w ⟨B,C,N,P,L,tops,ch,par,ax,rfl,m,l,hS⟩
  exact⟨B.c,C,m.cells⟩
 has:=by
  rintro H S w g ⟨B,C,N,P,L,tops,ch,par,ax,rfl,m,l,hS⟩
  obtain⟨tv,ho,_⟩:=m.own
  exact⟨_,_,bD,ptr B.c,rfl,fD (off:=0) (by kernel_rfl) (ae ho) rfl,(iD m.cells g).mono fun v H' hp=>hp⟩
 make:=by
  intro H S w h
  exact⟨_,_,jD,ptr n,rfl,bC (by kernel_rfl),(HG h).mono fun v H' hp=>hp⟩
 insert:=by
  intro H S w g x k s h
  exact⟨_,_,iu,ptr n,rfl,bC (by kernel_rfl),(Ek h g x k s).mono fun v H' hp=>hp⟩
 min:=by
  intro H S w g h
  refine⟨_,_,kK,ptr n,rfl,bC (by kernel_rfl),(Bg h g).mono ?_⟩
  rintro v H' ⟨⟨h1,rfl⟩| ⟨x,h1,rfl⟩,rfl⟩
  ·exact .inl ⟨h1,rfl,cz.same h (ag.refl _ _)⟩
  ·exact .inr ⟨x,h1,rfl,cz.same h (ag.refl _ _)⟩
 extract:=by
  intro H S w g h
  exact⟨_,_,gK,ptr n,rfl,bC (by kernel_rfl),(CM h g).mono fun v H' hp=>hp⟩
 ld:=by
  intro H S w x k s h
  exact⟨_,_,gm,ptr n,rfl,bC (by kernel_rfl),(Bh h x k s).mono fun v H' hp=>hp⟩
 entry:=by
  rintro H S w x ⟨B,C,N,P,L,tops,ch,par,ax,rfl,m,l,hS⟩
  obtain⟨tv,ho,_⟩:=m.own
  refine⟨_,_,bc,ptr B.c,rfl,fD (off:=0) (by kernel_rfl) (ae ho) rfl,(gL m.cells x).mono ?_⟩
  rintro v H' ⟨c1,f,hv⟩
  exact⟨⟨B,C,N,P,L,tops,ch,par,ax,rfl,m.fresh f,l,hS⟩,f,hv⟩
theorem uQ(n:Nat)(H:Hp):af Tryz.prog vI [ptr n,i64 0] H fun v H'=>aw (v= .tuple [.iface 194 (ptr n),i64 0].toArray∧H'=H):=by
 refine bm wk ?_
 refine v1 aoi ?_
 exact⟨rfl,rfl⟩
theorem xf(n:Nat)(H:Hp):af Tryz.prog oC [ptr n,i64 0] H fun v H'=>aw (v= .tuple [.iface 206 (ptr n),i64 0].toArray∧H'=H):=by
 refine bm oE ?_
 refine v1 aoi ?_
 exact⟨rfl,rfl⟩
def R4(kd dd:Int):Prop:=∀ (cap:Int),(0≤cap∧cap≤65536)→∀H:Hp,af Tryz.prog Ij [Nf kd dd,i64 cap] H fun v H'=>aw (∃t vv I Sn,v= .tuple [.iface t vv,i64 0].toArray∧xK (.iface t vv) I∧I H' Sn (zj cap)∧ai H H'∧∀z,Sn z→H.size≤z)
def PO(cap:Int)(mo:Nat):Ar:=⟨List.replicate cap.toNat (0,false),[],0,0,mo⟩
theorem JC{kd dd cap:Int}{mo:Nat}(hf:jk kd dd)(Db:R4 kd dd)(hc:0≤cap∧cap≤65536)(hm:0<mo∧mo≤4294967295)(H:Hp):af Tryz.prog Pf [Nf kd dd,i64 cap,.int .u32 (mo:Int)] H fun v H'=>aw (∃s S,v= .tuple [ptr s,i64 0].toArray∧Ec H' s S (zj cap) (PO cap mo) 0∧ai H H'∧∀z,S z→H.size≤z):=by
 refine bm Pg ?_
 refine vs ?_
 have f0:ai H (H.new 23 [i64 kd,i64 dd]):=(ag.refl _ _).new _ _
 have o0:(H.new 23 [i64 kd,i64 dd]).own H.size=some [i64 kd,i64 dd]:=aB _ _ _
 have z0:(H.new 23 [i64 kd,i64 dd]).size=H.size+1:=aq _ _ _
 generalize H.new 23 [i64 kd,i64 dd]=H0 at*
 refine(nG kd dd H0).mono ?_
 rintro _ H1 ⟨rfl,f1⟩
 rw[PH hf]
 have o1:=f1.own o0 (fun h=>h)
 have z1:=f1.size
 refine vs ?_
 refine am.dec (fun _=>?_) (fun hh=>absurd trivial hh)
 refine vs ?_
 refine(FL H1 hc hm).mono ?_
 rintro _ H2 ⟨B,rfl,m2,f2,hB⟩
 have o2:=f2.own o1 (fun h=>h)
 have z2:=f2.size
 refine vs ?_
 refine am.dec (fun _=>?_) (fun hh=>absurd trivial hh)
 refine v1 (ae o2) ?_
 refine(Db _ hc H2).mono ?_
 rintro _ H3 ⟨t,vv,I,Sn,rfl,n,hi,f3,QA⟩
 have o3:=f3.own o2 (fun h=>h)
 have z3:=f3.size
 refine vs ?_
 refine am.dec (fun _=>?_) (fun hh=>absurd trivial hh)
 refine v1 (ae o3) ?_
 have hsB:=m2.slt
 have hsN:=fun z hz=>n.slt hi z hz
 have f4:ai H3 (H3.new 161 [i64 kd,i64 dd,ptr B.a,.iface t vv,u64 0]):=(ag.refl _ _).new _ _
 have b4:(H3.new 161 [i64 kd,i64 dd,ptr B.a,.iface t vv,u64 0]).own H3.size=some [i64 kd,i64 dd,ptr B.a,.iface t vv,u64 0]:=aB _ _ _
 refine⟨H3.size,fun z=>Sn z∨B.S z∨z=H3.size,rfl,⟨t,vv,I,Sn,B,kd,dd,n,n.ext hi f4 (fun _ _ h=>h),(m2.ext f3 (fun _ _ h=>h)).ext f4 (fun _ _ h=>h),b4,fun z hz=>⟨fun h=>?_,?_⟩,fun h=>?_,fun z=>Iff.rfl,⟨by simp[zj,PO],fun x=>?_⟩⟩,(((f0.trans f1).trans f2).trans f3).trans f4,fun z hz=>?_⟩
 ·have:=hsB z h
  have:=QA z hz
  omega
 ·have:=hsN z hz
  omega
 ·have:=hsB _ h
  omega
 ·constructor
  ·intro h
   exact absurd (bq.2 h) (lf cap x)
  ·rintro⟨h0,h1⟩
   simp only[PO,aoN]at h1
   split at h1<;>simp at h1
 ·rcases hz with h|h|h
  ·have:=QA z h;omega
  ·have:=hB z h;omega
  ·omega
abbrev Ns:Shape:=.s [(0,(none,.int)),(1,(none,.int))]
def Bi(H:Hp)(b:Nat)(L:List ((Int×Nat)×Value)):Prop:=∃es k,H.mp b=some (es,k)∧es.map (fun e=>(e.key,e.val))=L.map (fun p=>(gk p.1.1 p.1.2,p.2))∧(L.map (·.1)).Nodup
theorem Bi.ext{H H':Hp}{b:Nat}{L:List ((Int×Nat)×Value)}{S:Nat→Prop}(h:Bi H b L)(e:ag S H H')(hs:¬S b):Bi H' b L:=by
 obtain⟨es,k,h1,h2⟩:=h
 exact⟨es,k,e.mp h1 hs,h2⟩
theorem Bi.lt{H:Hp}{b:Nat}{L:List ((Int×Nat)×Value)}(h:Bi H b L):b<H.size:=by
 obtain⟨es,k,h1,h2⟩:=h
 exact N0 h1
theorem T5(a b:Int×Nat):qA Ns (gk a.1 a.2) (gk b.1 b.2)=some (decide (a=b)):=by
 obtain⟨x,g⟩:=a
 obtain⟨y,h⟩:=b
 simp only[qA,D5,Nt,anY,aov,bB,if_pos rfl]
 by_cases e:x=y
 ·by_cases e2:g=h
  ·simp[e,e2,bB]
  ·have:¬ ((g:Int)=(h:Int)):=by omega
   simp[e,e2,this,bB]
 ·simp[e,bB]
theorem Iu(a:Int×Nat):∀ (es:List MapEntry) (L:List ((Int×Nat)×Value)),es.map (fun e=>(e.key,e.val))=L.map (fun p=>(gk p.1.1 p.1.2,p.2))→(L.map (·.1)).Nodup→∀n:Nat,
  (a∉L.map (·.1)→fC Ns (gk a.1 a.2) es n=some none)∧(∀v,(a,v)∈L→∃j,fC Ns (gk a.1 a.2) es n=some (some (j,v))):=by
 intro es
 induction es with
 |nil=>
  intro L hL _ n
  cases L with
  |nil=>exact⟨fun _=>rfl,fun v h=>by cases h⟩
  |cons p L=>simp at hL
 |cons e es ih=>
  intro L hL hd n
  cases L with
  |nil=>simp at hL
  |cons p L=>
   rw[aom,aom]at hL
   injection hL with h1 h2
   injection h1 with h1 h3
   rw[aom,anN]at hd
   have hq:qA Ns (gk a.1 a.2) e.key=some (decide (a=p.1)):=by rw[h1];exact T5 a p.1
   obtain⟨i1,i2⟩:=ih L h2 hd.2 (n+1)
   refine⟨fun hn=>?_,fun v hv=>?_⟩
   ·rw[aom,anF,not_or]at hn
    rw[fC,hq,anV hn.1]
    exact i1 hn.2
   ·by_cases e2:a=p.1
    ·rw[fC,hq,anI e2]
     rcases anF.1 hv with h|h
     ·refine⟨n,?_⟩
      simp only
      rw[h3,←h]
     ·exact absurd (anS.2 ⟨(a,v),h,e2⟩) hd.1
    ·rw[fC,hq,anV e2]
     rcases anF.1 hv with h|h
     ·exact absurd (by rw[←h]) e2
     ·exact i2 v h
theorem Iv(x:Int)(g:Nat):zM Ns (gk x g)=true:=rfl
theorem Bi.look{H:Hp}{b:Nat}{L:List ((Int×Nat)×Value)}(h:Bi H b L){a:Int×Nat}{v:Value}(hv:(a,v)∈L){F:Option Value→Prop}(hF:F (some v)):xt H Ns (some b) (gk a.1 a.2) F:=by
 obtain⟨es,k,h1,h2,h3⟩:=h
 unfold xt
 simp only[h1,mT]
 obtain⟨j,hj⟩:=(Iu a es L h2 h3 0).2 v hv
 rw[hj]
 exact hF
theorem Bi.YA{H:Hp}{b:Nat}{L:List ((Int×Nat)×Value)}(h:Bi H b L){a:Int×Nat}{v:Value}(hn:a∉L.map (·.1)){F:Hp→Prop}(hk:∀H',Bi H' b (L++[(a,v)])→ag (fun x=>x=b) H H'→F H'):Q6 H Ns b (gk a.1 a.2) v F:=by
 obtain⟨es,k,h1,h2,h3⟩:=h
 unfold Q6
 simp only[h1,mT]
 rw[(Iu a es L h2 h3 0).1 hn]
 refine⟨rfl,hk _ ⟨_,_,kF h1,by simp[Ke,h2],?_⟩ ((ag.refl (fun x=>x=b) H).C9 (fun _=>rfl) _ _)⟩
 rw[an8,apb,aof]
 refine⟨h3,by simp,fun x hx c hc e=>?_⟩
 rw[anC]at hc
 have e2:x=a:=e.trans hc;rw[e2]at hx;exact hn hx
structure W8(n:Nat)(A:Ar):Prop where
 len:A.g.length=n
 mo:A.mo=4294967295
 free:∀x:Int,0≤x→x<A.nx→¬A.live x→x∈A.wt
theorem W8.out{n:Nat}{A A':Ar}{x:Int}(h:W8 n A)(ok:w7 A)(hp:A.pick=some (x,A')):W8 n (A'.out x):=by
 obtain⟨hx,my,Vd,Dl,hg,hct,hmo⟩:=Ar.vr hp ok
 have Iq:0≤x∧x<A'.g.length:=by rw[hg];exact hx
 refine⟨by show(A'.g.set _ _).length=n;rw[anv,hg];exact h.len,by show A'.mo=_;rw[hmo];exact h.mo,fun y h0 h1 hl=>?_⟩
 have h1:y< (A'.nx:Int):=h1
 rw[Ar.nE (A:=A') Iq rfl h0]at hl
 by_cases e:y=x
 ·rw[if_pos e]at hl;exact absurd rfl hl
 ·rw[if_neg e]at hl
  have rU:¬A.live y:=by unfold Ar.live at hl ⊢;rw[hg]at hl;exact hl
  show y∈A'.wt
  unfold Ar.pick at hp
  split at hp
  ·rename_i aP
   injection hp with hp
   injection hp with DN sL
   subst sL
   have hm:=h.free y h0 h1 rU
   have hw:A.wt=A.wt.dropLast++[A.wt.getLastD 0]:=by
    conv=>lhs;rw[←List.dropLast_concat_getLast aP]
    rw[ao1,List.getLast?_eq_some_getLast aP]
    rfl
   rw[hw,anH,anC]at hm
   rcases hm with hm|hm
   ·exact hm
   ·exact absurd (hm.trans DN) e
  ·split at hp
   ·cases hp
   ·injection hp with hp
    injection hp with DN sL
    subst sL
    simp only at h1
    exact h.free y h0 (by omega) rU
theorem W8.back{n:Nat}{A:Ar}{x:Int}(h:W8 n A)(hx:0≤x∧x<A.g.length)(hg:A.bz x<4294967295):W8 n (A.back x):=by
 refine⟨by show(A.g.set _ _).length=n;rw[anv];exact h.len,h.mo,fun y h0 h1 hl=>?_⟩
 rw[Ar.nE (A:=A) hx rfl h0]at hl
 show y∈(if A.bz x<A.mo then A.wt++[x]else A.wt)
 rw[h.mo,if_pos hg,anH,anC]
 by_cases e:y=x
 ·exact .inr e
 ·rw[if_neg e]at hl
  exact .inl (h.free y h0 h1 hl)
theorem Iw{A A':Ar}{x:Int}(hp:A.pick=some (x,A'))(ok:w7 A):w7 A':=by
 have JU:=ok.nx
 unfold Ar.pick at hp
 split at hp
 ·rename_i aP
  injection hp with hp
  injection hp with DN sL
  subst sL
  exact⟨fun y hy=>ok.wl y ((apv _).subset hy),List.Nodup.sublist (apv _) ok.wd,ok.fr,ok.ct,ok.nx⟩
 ·split at hp
  ·cases hp
  ·injection hp with hp
   injection hp with DN sL
   subst sL
   exact⟨fun y hy=>by have:=ok.wl y hy;exact⟨this.1,by simp only;omega,this.2.2⟩,ok.wd,fun y hy=>ok.fr y (by simp only at hy;omega),ok.ct,by simp only;omega⟩
structure Vm(n:Nat)(w:Nw)(A:Ar)(L:List ((Int×Nat)×Value))(eR:List (Int×Nat))(at_:Nat):Prop where
 hs:w.has 1
 YY:W8 n A
 lk:RH w A
 ok:w7 A
 c1:∀ (x:Int) y,0≤x→w.cs[x.toNat]? =some y→y.1=0∨(y.1=1∧∃id:Nat,y.2.2=(id:Int)+1∧(y.2.1,id)∈eR∧((x,A.bz x),i64 id)∈L)
 c2:∀p∈eR,∃x:Int,0≤x∧w.cs[x.toNat]? =some (1,p.1,(p.2:Int)+1)
 ge:∀x:Int,0≤x→A.bz x≤at_
 ls:∀p∈L,0≤p.1.1∧p.1.2≤A.bz p.1.1
 ids:L.map (·.2)=(List.range at_).map fun(i:Nat)=>i64 i
 ri:EM eR
 lt:∀p∈eR,p.2<at_
 cn:A.ct=eR.length
theorem Vm.idx{n at_:Nat}{w:Nw}{A:Ar}{L:List ((Int×Nat)×Value)}{eR:List (Int×Nat)}(h:Vm n w A L eR at_){a b:Int×Nat}{id:Nat}(h1:(a,i64 id)∈L)(h2:(b,i64 id)∈L):a=b:=by
 obtain⟨i,hi⟩:=an6 h1
 obtain⟨j,hj⟩:=an6 h2
 have hk:∀ (k:Nat) (c:(Int×Nat)×Value),L[k]? =some c→c.2=i64 (k:Int):=by
  intro k c hc
  have e1:(L.map (·.2))[k]? =some c.2:=by rw[anR,hc];rfl
  rw[h.ids,anR]at e1
  have aO:=(anu.1 hc).1
  have oK:L.length=at_:=by have:=anP List.length h.ids;simpa using this
  rw[List.getElem?_range (by omega)]at e1
  simpa using e1.symm
 have e1:=hk i _ hi
 have e2:=hk j _ hj
 have e3:i=j:=by
  have:=e1.symm.trans e2
  injection this with _ this
  omega
 subst e3
 rw[hi]at hj
 injection hj with hj
 injection hj
theorem Vm.take{n at_:Nat}{w:Nw}{A:Ar}{L:List ((Int×Nat)×Value)}{eR:List (Int×Nat)}(h:Vm n w A L eR at_)(u0:at_<4294967295){x k:Int}{id:Nat}(hx:0≤x∧x<n)(hy:w.cs[x.toNat]? =some (1,k,(id:Int)+1))(hL:Ys (k,id) eR)(hm:((x,A.bz x),i64 id)∈L):Vm n (w.put x (0,0,0)) (A.back x) L (wo eR (k,id)) at_:=by
 have aX:w.cs.length=n:=by rw[h.lk.len];exact h.YY.len
 have YZ:0≤x∧x<A.g.length:=by rw[h.YY.len];exact hx
 have hg:∀z:Int,0≤z→(A.back x).bz z=A.bz z:=by
  intro z hz
  rw[Ar.EF (A:=A) (A':=A.back x) YZ rfl hz]
  split
  ·rename_i e;rw[e]
  ·rfl
 have jQ:A.live x:=(h.lk.live x).1 ⟨hx.1,_,hy,by simp⟩
 refine⟨h.hs,h.YY.back YZ (by have:=h.ge x hx.1;omega),h.lk.put YZ (v:=A.bz x) rfl,h.ok.back jQ,fun z y z0 LF=>?_,fun p hp=>?_,fun z hz=>by rw[hg z hz];exact h.ge z hz,fun p hp=>by have:=h.ls p hp;exact⟨this.1,by rw[hg _ this.1];exact this.2⟩,h.ids,h.ri.wo _,fun p hp=>h.lt p (mM.1 hp).1,?_⟩
 rotate_right
 ·have h1:=(IJ h.ri hL.m).length_eq
  have h2:=h.cn
  rw[anO]at h1
  show A.ct - 1=_
  omega
 ·have LF:(w.cs.set x.toNat (0,0,0))[z.toNat]? =some y:=LF
  by_cases e:z=x
  ·subst e
   rw[anB (by omega)]at LF
   injection LF with LF
   exact .inl (by rw[←LF])
  ·rw[anA (by omega)]at LF
   rcases h.c1 z y z0 LF with h0| ⟨g1,id2,e1,e2,e3⟩
   ·exact .inl h0
   ·refine .inr ⟨g1,id2,e1,mM.2 ⟨e2,fun e4=>e ?_⟩,by rw[hg z z0];exact e3⟩
    simp only at e4
    rw[e4]at e3
    have:=h.idx e3 hm
    injection this
 ·obtain⟨DN,sL⟩:=mM.1 hp
  obtain⟨z,z0,hz⟩:=h.c2 p DN
  refine⟨z,z0,?_⟩
  show(w.cs.set x.toNat (0,0,0))[z.toNat]? =_
  rw[anA ?_]
  ·exact hz
  ·intro e
   rw[←e,hy]at hz
   injection hz with hz
   injection hz with _ hz
   injection hz with _ hz
   simp only at sL
   omega
theorem Vm.put{n at_:Nat}{w:Nw}{A A':Ar}{L:List ((Int×Nat)×Value)}{eR:List (Int×Nat)}(h:Vm n w A L eR at_){x:Int}(hp:A.pick=some (x,A'))(k:Int):(x,A.bz x+1)∉L.map (·.1)∧Vm n (w.put x (1,k,(at_:Int)+1)) (A'.out x) (L++[((x,A.bz x+1),i64 at_)]) (eR++[(k,at_)]) (at_+1):=by
 obtain⟨hx,my,Vd,Dl,QC,hct,hmo⟩:=Ar.vr hp h.ok
 have aX:w.cs.length=n:=by rw[h.lk.len];exact h.YY.len
 have hAn:=h.YY.len
 have Iq:0≤x∧x<A'.g.length:=by rw[QC];exact hx
 have PF:∀z,A'.bz z=A.bz z:=fun z=>by unfold Ar.bz;rw[QC]
 have hg:∀z:Int,0≤z→(A'.out x).bz z=if z=x then A.bz x+1 else A.bz z:=by
  intro z hz
  rw[Ar.EF (A:=A') (A':=A'.out x) Iq rfl hz]
  rw[PF,PF]
 have S0:∀z,A'.live z↔A.live z:=fun z=>by unfold Ar.live;rw[QC]
 have TV:¬cT w.cs x:=fun hi=>my ((h.lk.live x).1 hi)
 refine⟨fun hm=>?_,?_⟩
 ·obtain⟨p,DN,sL⟩:=anS.1 hm
  have:=(h.ls p DN).2
  rw[sL]at this
  simp only at this
  omega
 ·refine⟨h.hs,h.YY.out h.ok hp,h.lk.put hx (v:=A.bz x+1) ?_,?_,fun z y z0 LF=>?_,fun p hp=>?_,fun z hz=>?_,fun p hp=>?_,?_,?_,fun p hp=>?_,by show A'.ct+1=_;rw[hct,h.cn,anD];rfl⟩
  ·show A'.g.set x.toNat (A'.bz x+1,true)=_
   rw[PF,QC]
   rfl
  ·refine w7.out (A:=A) ?_ QC Iq (fun hl=>my ((S0 x).1 hl)) Vd Dl
   exact Iw hp h.ok
  ·have LF:(w.cs.set x.toNat (1,k,(at_:Int)+1))[z.toNat]? =some y:=LF
   by_cases e:z=x
   ·subst e
    rw[anB (by omega)]at LF
    injection LF with LF
    subst LF
    refine .inr ⟨rfl,at_,rfl,by simp,?_⟩
    rw[hg z z0,if_pos rfl]
    simp
   ·rw[anA (by omega)]at LF
    rcases h.c1 z y z0 LF with h0| ⟨g1,id2,e1,e2,e3⟩
    ·exact .inl h0
    ·exact .inr ⟨g1,id2,e1,anL _ e2,by rw[hg z z0,if_neg e];exact anL _ e3⟩
  ·rcases anH.1 hp with hp|hp
   ·obtain⟨z,z0,hz⟩:=h.c2 p hp
    refine⟨z,z0,?_⟩
    show(w.cs.set x.toNat (1,k,(at_:Int)+1))[z.toNat]? =_
    rw[anA ?_]
    ·exact hz
    ·intro e
     exact TV ⟨hx.1,_,by rw[e];exact hz,by simp⟩
   ·rw[anC]at hp
    subst hp
    refine⟨x,hx.1,?_⟩
    show(w.cs.set x.toNat (1,k,(at_:Int)+1))[x.toNat]? =_
    rw[anB (by omega)]
  ·rw[hg z hz]
   have:=h.ge z hz
   have:=h.ge x hx.1
   split<;>omega
  ·rcases anH.1 hp with hp|hp
   ·have:=h.ls p hp
    refine⟨this.1,?_⟩
    rw[hg _ this.1]
    split
    ·rename_i e;rw[e]at this;omega
    ·exact this.2
   ·rw[anC]at hp
    subst hp
    exact⟨hx.1,by rw[hg _ hx.1,if_pos rfl];exact anG _⟩
  ·rw[an8,h.ids,apA,an8]
   rfl
  ·refine apk.2 ⟨h.ri,by simp,fun a ha b hb=>?_⟩
   rw[anC]at hb
   subst hb
   exact h.lt a ha
  ·rcases anH.1 hp with hp|hp
   ·have:=h.lt p hp;omega
   ·rw[anC]at hp
    subst hp
    exact Nat.lt_succ_self _
end Go.Proofs.YtjlnnljohemifaaGreat
