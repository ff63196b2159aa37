/- Texts put behind each other. -/
import Derived.Test.YtjlnnljohemifaaGreatK98
import Derived.Test.YtjlnnljohemifaaGreatK1
import Derived.Test.YtjlnnljohemifaaGreatK17
import Derived.Test.YtjlnnljohemifaaGreatK20
import Derived.Test.YtjlnnljohemifaaGreatK21
set_option linter.unusedVariables false
set_option linter.unusedSimpArgs false
namespace Go.Proofs.YtjlnnljohemifaaGreat
open Go Go.Vc
theorem Ep{H:Hp}{n:Nat}{S:Nat→Prop}{st:Int}{w:Nw}(h:dK H n S st w)(x:Int):ai Tryz.prog AB [ptr n,i64 x] H fun v H'=>ay (
  (¬cZ w.cs x∧v= .bool false∧H=H')∨
  (cZ w.cs x∧v= .bool true∧∃ (c0:Ce) (q:Nat),w.cs[x.toNat]? =some c0∧q≤2*nN 2 (w.len c0.1 - 1)∧∃S',dK H' n S' (min (st+q) 4611686018427387904) (w.put x (0,0,0))∧ah S H H'∧∀z,S' z→S z∨H.size≤z)):=by
 obtain⟨c,C,rv,fr,fa,ps,at_,m,l,hS⟩:=h
 obtain⟨av,ho,ha⟩:=m.own
 refine ba Bc ⟨rfl,?_⟩
 refine v2 j7.eq_1 (ae ho) ?_
 refine(eU m.cells x).mono ?_
 rintro _ H1 (⟨cw,rfl,rfl⟩| ⟨bQ,c0,rA,rfl,c1,e1⟩)
 ·refine vs ?_
  exact .inl ⟨cw,rfl,rfl⟩
 obtain⟨ik,c0',KN,jj⟩:=id bQ
 rw[rA]at KN
 injection KN with KN
 subst KN
 obtain⟨P,hP⟩:=(l.hs c0.1.toNat).1 (m.cells.live _ (anG rA) jj)
 have BK:((c0.1.toNat:Nat):Int)=c0.1:=by omega
 have cj:=l.mem _ P hP
 have bv:=l.len _ P hP
 rw[BK]at cj bv
 have cV:(w.put x (0,0,0)).cs[x.toNat]? =some (0,0,0):=anI (anA.1 rA).1
 have nU:∀y:Nat,y≠x.toNat→(w.put x (0,0,0)).cs[y]? =w.cs[y]? :=fun y hy=>anH (Ne.symm hy)
 have m1:=m.aN c1 e1
 obtain⟨av1,QH,VW⟩:=m1.own
 have hxP:x∈P.l:=(cj x).2 ⟨ik,c0.2,rA⟩
 have Ht:∀z∈P.l,cZ w.cs z:=fun z hz=>by
  obtain⟨z0,e,he⟩:=(cj z).1 hz
  exact⟨z0,_,he,jj⟩
 obtain⟨i,hi⟩:=an8 hxP
 have tR:=(anA.1 hi).1
 obtain⟨_,Ze⟩:=l.Ud _ P hP i x hi
 obtain⟨f,cc,lb,rfl,rfl,hf,UU,dD⟩:=m1.atp hP
 obtain⟨fa',ac,la,rfl,hfa,Xs,Xt,_,_⟩:=Sl.at_ VW (i:=x.toNat) (x:=i64 i) (by simp[Ze])
 have hal:=(anA.1 Ze).1
 refine v1 (ae QH) ?_
 refine⟨by omega,?_⟩
 simp(disch:=(first|omega| (simp only[Zs]<;>omega)|fail)) only[go_sem, ↓reduceIte,Zv,ae hf,anD,UU,Uc,ae QH]
 refine⟨by omega,?_⟩
 refine v3 (ae Xs) anD Xt ?_
 refine(En (m1.Oo hP) (l.Ud _ P hP) tR Ht (l.ok _ P hP)).mono ?_
 rintro _ H2 ⟨l',pC,q,o,hq⟩
 rw[uQ hi]at o
 have hT:∀z,(C z∨P.fp=some z∨fa=some z∨z=P.r)→C z∨P.S z∨fa=some z:=fun z hz=>by
  rcases hz with hz|hz|hz|hz
  ·exact .inl hz
  ·exact .inr (.inl (.inr hz))
  ·exact .inr (.inr hz)
  ·exact .inr (.inl (.inl hz))
 have qU:∀z,(C z∨P.fp=some z∨fa=some z∨z=P.r)→S z:=fun z hz=>(hS z).1 (by
  rcases hT z hz with hz|hz|hz
  ·exact .inl hz
  ·exact .inr (.inr (.inr (.inr ⟨_,P,hP,hz⟩)))
  ·exact .inr (.inr (.inr (.inl hz))))
 have m2:=m1.KM hP (P':=⟨P.r,P.fp,l'⟩) rfl o.mu (.inl rfl) o.ext hT
 obtain⟨av2,ho2,_⟩:=m2.own
 refine v1 (ae ho2) ?_
 refine(mY m2.cells x).mono ?_
 rintro _ H3 (⟨cw,_,_⟩| ⟨_,rfl,c3,e3⟩)
 ·exact absurd bQ cw
 refine vs ?_
 have m3:=m2.aN c3 e3
 have aS:∀ (h:Nat) Q,h≠c0.1.toNat→ps[h]? =some (some Q)→∀y∈Q.l,y.toNat≠x.toNat:=fun h Q hh hQ y hy e=>by
  obtain⟨y0,e',he⟩:=(l.mem h Q hQ y).1 hy
  rw[e,rA]at he
  injection he with he
  rw[he]at hh
  simp only[Int.toNat_natCast]at hh
  exact hh rfl
 have Ov:∀y∈l',y.toNat≠x.toNat:=fun y hy e=>by
  obtain⟨h1,h2⟩:=(o.mem y).1 hy
  have:=((cj y).1 h1).1
  omega
 refine .inr ⟨bQ,rfl,c0,q,rA,by rw[←bv];exact hq,E1 n C (some f) fa (ps.set c0.1.toNat (some ⟨P.r,P.fp,l'⟩)),
  ⟨c,C,_,some f,fa,_,pC,m3,⟨by rw[anC];exact l.hl,fun h=>?_,?_,fun h Q hQ=>?_,fun h Q hQ=>?_,fun h Q hQ y=>?_,fun h Q hQ=>?_,?_⟩,fun z=>Iff.rfl⟩,?_,fun z hz=>?_⟩
 ·show w.hs[h]? =some true↔_
  rw[l.hs h]
  by_cases Mz:h=c0.1.toNat
  ·subst Mz
   rw[anI dD]
   exact⟨fun _=>⟨_,rfl⟩,fun _=>⟨P,hP⟩⟩
  ·rw[anH (Ne.symm Mz)]
 ·rw[anH (by omega)];exact l.h0
 ·rcases jc dD hQ with ⟨rfl,rfl⟩| ⟨h5,h6⟩
  ·exact o.heap.KK fun z hz y hy=>(jy w x _ (Ov z hz) (Ov y hy)).symm
  ·exact(l.ok h Q h6).KK fun z hz y hy=>(jy w x _ (aS h Q h5 h6 z hz) (aS h Q h5 h6 y hy)).symm
 ·rcases jc dD hQ with ⟨rfl,rfl⟩| ⟨h5,h6⟩
  ·exact o.ok
  ·exact(l.Ud h Q h6).Xp fun z hz z0=>o.off z z0 (l.apart h6 hP h5 hz)
 ·by_cases rj:y.toNat=x.toNat
  ·rw[rj,cV]
   have h0:=jc dD hQ
   constructor
   ·intro hy
    rcases h0 with ⟨rfl,rfl⟩| ⟨h5,h6⟩
    ·exact absurd rj (Ov y hy)
    ·exact absurd rj (aS h Q h5 h6 y hy)
   ·rintro⟨_,e,he⟩
    injection he with he
    injection he with Xr _
    rcases h0 with ⟨rfl,rfl⟩| ⟨h5,h6⟩
    ·omega
    ·have:=l.pos h6;omega
  ·rw[nU _ rj]
   rcases jc dD hQ with ⟨rfl,rfl⟩| ⟨h5,h6⟩
   ·rw[BK]
    show y∈l'↔_
    rw[o.mem y,cj y]
    constructor
    ·exact fun h=>h.1
    ·exact fun h=>⟨h,fun e=>rj (by rw[e])⟩
   ·exact l.mem h Q h6 y
 ·rcases jc dD hQ with ⟨rfl,rfl⟩| ⟨h5,h6⟩
  ·rw[BK,Nw.iq rA c0.1,if_pos ⟨jj,rfl⟩,if_neg (fun hc=>by omega)]
   show(l'.length:Int)=_
   have:=o.len
   omega
  ·have:=l.pos h6
   rw[l.len h Q h6,Nw.iq rA h,if_neg (fun hc=>by omega),if_neg (fun hc=>by omega)]
   omega
 ·rw[o.My,l.My];exact(anC ..).symm
 ·exact(e1.mono fun z _ hz=>qU z (.inl hz)).trans ((o.ext.mono fun z _ hz=>qU z hz).trans (e3.mono fun z _ hz=>qU z (.inl hz)))
 ·rcases hz with hz|rfl|hz|hz| ⟨i,Q,hQ,hz⟩
  ·exact .inl (qU z (.inl hz))
  ·exact .inl ((hS z).1 (.inr (.inl rfl)))
  ·exact .inl ((hS z).1 (.inr (.inr (.inl hz))))
  ·exact .inl (qU z (.inr (.inr (.inl hz))))
  ·rcases jc dD hQ with ⟨rfl,rfl⟩| ⟨h5,h6⟩
   ·rcases hz with rfl|hz
    ·exact .inl (qU _ (.inr (.inr (.inr rfl))))
    ·exact .inl (qU z (.inr (.inl hz)))
   ·exact .inl ((hS z).1 (.inr (.inr (.inr (.inr ⟨i,Q,h6,hz⟩)))))
theorem CX{H:Hp}{n:Nat}{S:Nat→Prop}{st:Int}{w:Nw}(h:dK H n S st w)(g:Int):ai Tryz.prog pq [ptr n,i64 g] H fun v H'=>ay (
  (w.len g=0∧v= .tuple [i64 0,.bool false].toArray∧H=H')∨
  (∃x,w.first g x∧v= .tuple [i64 x,.bool true].toArray∧∃q:Nat,q≤2*nN 2 (w.len g - 1)∧∃S',dK H' n S' (min (st+q) 4611686018427387904) (w.put x (0,0,0))∧ah S H H'∧∀z,S' z→S z∨H.size≤z)):=by
 refine ba zB ⟨rfl,?_⟩
 refine v1 iZ.eq_1 ?_
 refine(zX h g).mono ?_
 rintro _ _ ⟨⟨h0,rfl⟩| ⟨x,hx,rfl⟩,rfl⟩
 ·refine vs ?_
  exact .inl ⟨h0,rfl,rfl⟩
 ·refine vs ?_
  refine(Ep h x).mono ?_
  rintro _ H1 (⟨cw,_,_⟩| ⟨_,rfl,c0,q,rA,hq,S',d1,e1,UX⟩)
  ·exact absurd hx.Nn cw
  refine vs ?_
  obtain⟨e,tS⟩:=hx.2.2.1
  rw[rA]at tS
  injection tS with tS
  subst tS
  exact .inr ⟨x,hx,rfl,q,hq,S',d1,e1,UX⟩
theorem Bq{H:Hp}{n:Nat}{S:Nat→Prop}{st:Int}{w:Nw}(h:dK H n S st w)(x k s:Int):ai Tryz.prog nG [ptr n,i64 x,wq k s] H fun v H'=>ay (
  (¬ (cZ w.cs x∧∀y,w.cs[x.toNat]? =some y→¬gW y.2.1 y.2.2 k s)∧v= .bool false∧dK H' n S st w∧aq H H')∨
  (cZ w.cs x∧∃y,w.cs[x.toNat]? =some y∧¬gW y.2.1 y.2.2 k s∧v= .bool true∧∃q:Nat,q≤2*nN 2 (w.len y.1 - 1)∧∃S',dK H' n S' (min (st+q) 4611686018427387904) (w.put x (y.1,k,s))∧ah S H H'∧∀z,S' z→S z∨H.size≤z)):=by
 obtain⟨c,C,rv,fr,fa,ps,at_,m,l,hS⟩:=h
 refine ba xp ⟨rfl,?_⟩
 refine v1 gR.eq_1 ?_
 have f0:aq H (H.new 224 [i64 k,u64 s]):=(ah.refl _ _).new _ _
 have b0:(H.new 224 [i64 k,u64 s]).own H.size=some [i64 k,u64 s]:=aE _ _ _
 have m0:=m.ext f0 (fun _ _ h=>h)
 generalize H.new 224 [i64 k,u64 s]=H0 at*
 obtain⟨av,KH,UK⟩:=m0.own
 refine v2 (ae KH) (ae b0) ?_
 refine(lT m0.cells x k s).mono ?_
 rintro _ H1 (⟨cw,rfl,c1,e1⟩| ⟨bQ,rfl,y,hy,gk,c1,e1⟩)
 ·refine vs ?_
  exact .inl ⟨cw,rfl,⟨c,C,rv,fr,fa,ps,at_,m0.ext e1 (fun _ _ h=>h),l,hS⟩,f0.trans e1⟩
 have m1:=m0.aN c1 e1
 obtain⟨av1,QH,VW⟩:=m1.own
 refine v1 (ae QH) ?_
 obtain⟨ik,y',No,jj⟩:=id bQ
 rw[hy]at No
 injection No with No
 subst No
 have cV:(w.put x (y.1,k,s)).cs[x.toNat]? =some (y.1,k,s):=anI (anA.1 hy).1
 have nU:∀z:Nat,z≠x.toNat→(w.put x (y.1,k,s)).cs[z]? =w.cs[z]? :=fun z hz=>anH (Ne.symm hz)
 have On:cZ (w.put x (y.1,k,s)).cs x:=⟨ik,_,cV,jj⟩
 refine(eU c1 x).mono ?_
 rintro _ H2 (⟨cw,_,_⟩| ⟨_,y2,Af,rfl,c2,e2⟩)
 ·exact absurd On cw
 rw[cV]at Af
 injection Af with Af
 subst Af
 have m2:=m1.aN c2 e2
 obtain⟨av2,ho2,ha2⟩:=m2.own
 obtain⟨P,hP⟩:=(l.hs y.1.toNat).1 (m.cells.live _ (anG hy) jj)
 have BK:((y.1.toNat:Nat):Int)=y.1:=by omega
 have MA:∀ (h:Nat) Q,ps[h]? =some (some Q)→∀z:Int,z∈Q.l↔0≤z∧∃e,(w.put x (y.1,k,s)).cs[z.toNat]? =some (((h:Nat):Int),e):=fun h Q hQ z=>by
  rw[l.mem h Q hQ z]
  by_cases UY:z.toNat=x.toNat
  ·rw[UY,cV,hy]
   constructor
   ·rintro⟨z0,e,he⟩
    injection he with he
    exact⟨z0,(k,s),by rw[he]⟩
   ·rintro⟨z0,e,he⟩
    injection he with he
    injection he with Xr _
    exact⟨z0,y.2,by rw[←Xr]⟩
  ·rw[nU _ UY]
 have cj:=MA _ P hP
 have bv:=l.len _ P hP
 rw[BK]at cj bv
 have hxP:x∈P.l:=(cj x).2 ⟨ik,_,cV⟩
 have Ht:∀z∈P.l,cZ (w.put x (y.1,k,s)).cs z:=fun z hz=>by
  obtain⟨z0,e,he⟩:=(cj z).1 hz
  exact⟨z0,_,he,jj⟩
 obtain⟨i,hi⟩:=an8 hxP
 have tR:=(anA.1 hi).1
 obtain⟨_,Ze⟩:=l.Ud _ P hP i x hi
 have hal:=(anA.1 Ze).1
 obtain⟨f,cc,lb,rfl,rfl,hf,UU,dD⟩:=m2.atp hP
 obtain⟨fa',ac,la,rfl,hfa,Xs,Xt,_,_⟩:=Sl.at_ ha2 (i:=x.toNat) (x:=i64 i) (by simp[Ze])
 have Lv:∀j,j<P.l.length→j≠i→(P.l.getD j 0).toNat≠x.toNat:=fun j hj aS e=>by
  have hgj:P.l[j]? =some (P.l.getD j 0):=by rw[anE,anx hj];rfl
  have h0:=((cj _).1 (anG hgj)).1
  rw[show P.l.getD j 0=x by omega]at hgj
  exact aS ((l.Ud _ P hP).G6 hgj hi)
 have hA:dM (aU (w.put x (y.1,k,s))) 2 P.l i:=by
  have hb:=(l.ok _ P hP).but (au w) dQ i
  refine⟨fun j h1 h2 h3 h4=>?_,fun j h1 h2 h3 h4=>?_⟩
  ·have:=cO dQ h1
   rw[jy w x _ (Lv j h2 h3) (Lv _ (by omega) h4)]
   exact hb.1 j h1 h2 h3 h4
  ·have:=cO dQ h1
   have:=cO dQ h4
   rw[jy w x _ (Lv j h2 (by omega)) (Lv _ (by omega) (by omega))]
   exact hb.2 j h1 h2 h3 h4
 refine v1 (ae ho2) ?_
 refine⟨by omega,?_⟩
 simp(disch:=(first|omega| (simp only[Zs]<;>omega)|fail)) only[go_sem, ↓reduceIte,Zv,ae hf,anD,UU,Uc,ae ho2]
 refine⟨by omega,?_⟩
 refine v3 (ae Xs) anD Xt ?_
 refine(Jf (m2.Oo hP) (l.Ud _ P hP) tR Ht hA).mono ?_
 rintro _ H3 ⟨rfl,l',pC,q,o,kF,hq⟩
 refine vs ?_
 have re:=e1.trans e2
 have hT:∀z,(C z∨P.fp=some z∨fa=some z)→C z∨P.S z∨fa=some z:=fun z hz=>by
  rcases hz with hz|hz|hz
  ·exact .inl hz
  ·exact .inr (.inl (.inr hz))
  ·exact .inr (.inr hz)
 have qU:∀z,(C z∨P.fp=some z∨fa=some z)→S z:=fun z hz=>(hS z).1 (by
  rcases hT z hz with hz|hz|hz
  ·exact .inl hz
  ·exact .inr (.inr (.inr (.inr ⟨_,P,hP,hz⟩)))
  ·exact .inr (.inr (.inr (.inl hz))))
 have aS:∀ (h:Nat) Q,h≠y.1.toNat→ps[h]? =some (some Q)→∀z∈Q.l,z.toNat≠x.toNat:=fun h Q hh hQ z hz e=>by
  obtain⟨z0,e',he⟩:=(l.mem h Q hQ z).1 hz
  rw[e,hy]at he
  injection he with he
  rw[he]at hh
  simp only[Int.toNat_natCast]at hh
  exact hh rfl
 have hwl:∀h:Int,(w.put x (y.1,k,s)).len h=w.len h:=fun h=>by
  rw[Nw.iq hy h]
  simp only
  split<;>omega
 have hol:=o.len
 refine .inr ⟨bQ,y,hy,gk,rfl,q,by rw[←bv];exact hq,E1 n C (some f) fa (ps.set y.1.toNat (some ⟨P.r,P.fp,l'⟩)),
  ⟨c,C,_,some f,fa,_,pC,m2.KM hP (P':=⟨P.r,P.fp,l'⟩) rfl o.mu (.inl rfl) o.ext hT,
   ⟨by rw[anC];exact l.hl,fun h=>?_,?_,fun h Q hQ=>?_,fun h Q hQ=>?_,fun h Q hQ z=>?_,fun h Q hQ=>?_,?_⟩,fun z=>Iff.rfl⟩,?_,fun z hz=>?_⟩
 ·show w.hs[h]? =some true↔_
  rw[l.hs h]
  by_cases Mz:h=y.1.toNat
  ·subst Mz
   rw[anI dD]
   exact⟨fun _=>⟨_,rfl⟩,fun _=>⟨P,hP⟩⟩
  ·rw[anH (Ne.symm Mz)]
 ·rw[anH (by omega)];exact l.h0
 ·rcases jc dD hQ with ⟨rfl,rfl⟩| ⟨h5,h6⟩
  ·exact kF
  ·exact(l.ok h Q h6).KK fun z hz v hv=>(jy w x _ (aS h Q h5 h6 z hz) (aS h Q h5 h6 v hv)).symm
 ·rcases jc dD hQ with ⟨rfl,rfl⟩| ⟨h5,h6⟩
  ·exact o.ok
  ·exact(l.Ud h Q h6).Xp fun z hz z0=>o.off z z0 (l.apart h6 hP h5 hz)
 ·rcases jc dD hQ with ⟨rfl,rfl⟩| ⟨h5,h6⟩
  ·rw[BK]
   show z∈l'↔_
   rw[o.mem z,cj z]
  ·exact MA h Q h6 z
 ·rw[hwl]
  rcases jc dD hQ with ⟨rfl,rfl⟩| ⟨h5,h6⟩
  ·rw[BK]
   show(l'.length:Int)=_
   omega
  ·exact l.len h Q h6
 ·rw[o.My,l.My];exact(anC ..).symm
 ·exact(f0.mono fun _ _ h=>h.elim).trans ((re.mono fun z _ hz=>qU z (.inl hz)).trans (o.ext.mono fun z _ hz=>qU z hz))
 ·rcases hz with hz|rfl|hz|hz| ⟨j,Q,hQ,hz⟩
  ·exact .inl (qU z (.inl hz))
  ·exact .inl ((hS z).1 (.inr (.inl rfl)))
  ·exact .inl ((hS z).1 (.inr (.inr (.inl hz))))
  ·exact .inl (qU z (.inr (.inr hz)))
  ·rcases jc dD hQ with ⟨rfl,rfl⟩| ⟨h5,h6⟩
   ·rcases hz with rfl|hz
    ·exact .inl ((hS _).1 (.inr (.inr (.inr (.inr ⟨_,P,hP,.inl rfl⟩)))))
    ·exact .inl (qU z (.inr (.inl hz)))
   ·exact .inl ((hS z).1 (.inr (.inr (.inr (.inr ⟨j,Q,h6,hz⟩)))))
theorem Er{ov:Value}{I:Hp→Nat→Prop}{T:Nat→Prop}{lt:Int→Int→Bool}{D:Int→Prop}(ho:N0 ov I T lt D){H:Hp}{r:Nat}{S:Nat→Prop}{d:Int}{l:List Int}{pl:Int→Option Int}
  (h:dB H r S d l pl)(hd:∀x,S x→¬T x){n:Nat}(hI:I H n)(hf:cU d)(x:Int)(hl:l.length≤1000000)(hp:Ea l pl)(hD:∀z∈l,D z:=by intros;trivial):
  ai Tryz.prog B1 [ptr r,ov,i64 x] H fun v H'=>ay (
   (pl x=none∧v= .bool false∧H=H')∨
   (∃i,pl x=some i∧v= .bool true∧dB H' r S d (cT lt d x l pl i).1 (cT lt d x l pl i).2.1∧I H' (n+(cT lt d x l pl i).2.2)∧ah (fun z=>S z∨T z) H H')):=by
 obtain⟨⟨sv,fp,mb,a1,a2,a3,s1,s2,s3,s4⟩,h2⟩:=id h
 have key:jw true (Value.int .i64 0) ((pl x).map i64)= .tuple [i64 ((pl x).getD 0),.bool (pl x).isSome].toArray:=by cases pl x<;>rfl
 refine ba Cm ⟨rfl,?_⟩
 refine v4 lB.eq_1 (ae a1) a3.look key ?_
 cases hx:pl x with
 |none=>
  simp(disch:=(first|omega| (simp only[Zs]<;>omega)|fail)) only[go_sem, ↓reduceIte,Zv,Option.isSome_none]
  exact .inl ⟨rfl,rfl,rfl⟩
 |some i=>
  obtain⟨i0,Xu⟩:=(hp x i).1 hx
  have tR:i.toNat<l.length:=(anA.1 Xu).1
  obtain⟨f,rfl⟩:∃f,fp=some f:=by
   cases fp with
   |none=>obtain⟨_,e,_⟩:=a2;omega
   |some f=>exact⟨f,rfl⟩
  have WN:=a2
  obtain⟨_,l1,c,rfl,g2,a5,a6,a7⟩:=WN
  have g3:∀ (i:Nat) (x:Int),l[i]? =some x→l1[i]? =some (i64 x):=fun i x h=>by
   have aR:=(anA.1 h).1
   have h1:(l.map i64)[i]? =some (i64 x):=by simp[h]
   rw[←a7,an9 (by omega)]at h1
   exact h1
  have nK:l[l.length - 1]? =some (l.getD (l.length - 1) 0):=by
   rw[anE,anx (by omega)];rfl
  have Xv:=g3 _ _ nK
  have e1:IntKind.i64.wrap ((l.length:Int) - 1)=((l.length - 1:Nat):Int):=by rw[wrap64 (by omega) (by omega)];omega
  simp(disch:=(first|omega| (simp only[Zs]<;>omega)|fail)) only[go_sem, ↓reduceIte,Zv,Option.isSome_some,Option.getD_some,ae a1,e1,Int.toNat_natCast]
  refine⟨by omega,?_⟩
  refine v5 (ae g2) (ae a1) anD Xv e1 ?_
  refine⟨by omega,?_⟩
  obtain⟨Qz,G3,UL⟩:=s4 f rfl
  have Oi:Value.slice (if(c:Int)=((0:Nat):Int)then some (⟨f,0,none⟩:Addr)else Option.map (fun(x:Addr)=>x.add (((0:Nat):Int).toNat*1)) (some (⟨f,0,none⟩:Addr))) (((l.length - 1:Nat):Int).toNat - ((0:Nat):Int).toNat) ((c:Int).toNat - ((0:Nat):Int).toNat)= .slice (some ⟨f,0,none⟩) (l.length - 1) c:=by
   split<;>rfl
  refine v2 (ae a1) a1 ?_
  rw[Oi]
  have ew:ah (fun z=>z=r) H (H.wr r [i64 d,.slice (some ⟨f,0,none⟩) (l.length - 1) c,.map (some mb)]):=(ah.refl (fun z=>z=r) _).wr (fun _=>rfl) _
  have b1:(H.wr r [i64 d,.slice (some ⟨f,0,none⟩) (l.length - 1) c,.map (some mb)]).own r=some [i64 d,.slice (some ⟨f,0,none⟩) (l.length - 1) c,.map (some mb)]:=aj a1
  have b3:=a3.ext ew (Ne.symm s3)
  refine v1 (ae b1) ?_
  refine b3.del fun H2 m2 e2=>?_
  rw[Mh]at m2
  have e02:ah S H H2:=(ew.mono fun z _ hz=>hz▸s1).trans (e2.mono fun z _ hz=>hz▸s2)
  have hr:dB H2 r S d l.dropLast (uL pl x):=by
   refine⟨⟨.slice (some ⟨f,0,none⟩) (l.length - 1) c,some f,mb,e2.own b1 s3,⟨by simp,l1,c,by rw[aoa],(e2.own ((ew.own g2 G3)) UL),by rw[aoa];omega,a6,?_⟩,m2,s1,s2,s3,s4⟩,
    fun z hz=>an3 (h2 z hz) e02.size⟩
   have hx7:((l.map i64).length)=l.length:=by simp
   rw[aoa,List.map_dropLast,apa,hx7,←a7,apx]
   congr 1
   omega
  have RC:=ho.aP _ _ _ _ hI e02 (fun z hz hs=>hd z hs hz)
  refine vs ?_
  have ol:l.dropLast.length=l.length - 1:=aoa
  refine am.dec (fun he=>?_) (fun he=>?_)<;>refine vs ?_
  ·refine .inr ⟨i,rfl,rfl,?_,?_,e02.mono fun z _ hz=>.inl hz⟩
   ·unfold cT;rw[if_pos he];exact hr
   ·unfold cT;rw[if_pos he];exact RC
  ·have SX:l.getD (l.length - 1) 0∈l:=anG nK
   have oq:i.toNat≠l.length - 1:=fun e=>by rw[e,nK]at Xu;injection Xu with Xu;exact he Xu
   refine(uM ho hr hd RC i (l.getD (l.length - 1) 0) ⟨i0,by omega⟩ (by omega) (hD _ SX) (fun z hz=>hD z ((apK _).subset hz))).mono ?_
   rintro _ H3 ⟨rfl,r3,i3,e3⟩
   have Oq:=(e02.mono fun z _ hz=>Or.inl hz).trans e3
   refine vs ?_
   refine am.dec (fun vu=>?_) (fun vu=>?_)<;>refine vs ?_
   ·have hul:=yk lt d (l.getD (l.length - 1) 0) i.toNat l.dropLast (uL pl x) i
    refine(G4 ho r3 hd i3 hf i (l.getD (l.length - 1) 0) ⟨i0,by omega⟩ (by omega) (hD _ SX) (fun z hz=>by
     rcases UM lt d _ _ _ _ _ i0 (by omega) z hz with h|h
     ·rw[h];exact hD _ SX
     ·exact hD z ((apK _).subset h))).mono ?_
    rintro _ H4 ⟨r4,i4,e4⟩
    refine vs ?_
    refine .inr ⟨i,rfl,rfl,?_,?_,Oq.trans e4⟩
    ·unfold cT;rw[if_neg he];simp only;rw[if_pos vu];exact r4
    ·unfold cT;rw[if_neg he];simp only;rw[if_pos vu,←apX];exact i4
   ·refine .inr ⟨i,rfl,rfl,?_,?_,Oq⟩
    ·unfold cT;rw[if_neg he];simp only;rw[if_neg vu];exact r3
    ·unfold cT;rw[if_neg he];simp only;rw[if_neg vu];exact i3
structure ci(lt:Int→Int→Bool)(d:Int)(l:List Int)(pl:Int→Option Int):Prop where
 heap:eZ lt d l
 pl:Ea l pl
theorem ci.nil(lt:Int→Int→Bool)(d:Int):ci lt d [] (fun _=>none):=
 ⟨fun j _ h=>by simp at h,fun z k=>by simp⟩
theorem ci.congr{lt lt':Int→Int→Bool}{d:Int}(hf:cU d){l:List Int}{pl:Int→Option Int}(h:ci lt d l pl)(hfg:∀z∈l,∀y∈l,lt z y=lt' z y):ci lt' d l pl:=by
 refine⟨fun j h1 h2=>?_,h.pl⟩
 have hp:=cO hf h1
 have e:∀k,k<l.length→l.getD k 0∈l:=fun k hk=>by
  rw[anE,anx hk];exact api hk
 rw[←hfg _ (e j h2) _ (e _ (show pa d j<l.length by omega))]
 exact h.heap j h1 h2
theorem ci.add{lt:Int→Int→Bool}(ho:bC lt){d:Int}(hf:cU d){l:List Int}{pl:Int→Option Int}(h:ci lt d l pl){x:Int}(hx:pl x=none):
  ci lt d (gm lt d x l.length (l++[x]) pl l.length).l (gm lt d x l.length (l++[x]) pl l.length).pl∧
   (∀z,z∈(gm lt d x l.length (l++[x]) pl l.length).l↔z=x∨z∈l)∧(gm lt d x l.length (l++[x]) pl l.length).l.length=l.length+1∧
   (gm lt d x l.length (l++[x]) pl l.length).asked≤nN d l.length:=by
 have UN:=hf.1
 have ce:∀k,k<l.length→(l++[x]).getD k 0=l.getD k 0:=fun k hk=>by
  rw[anE,anE,anS hk]
 have QD:∀j:Nat,1≤j→j<l.length+1→pa d j≠l.length:=fun j h1 h2=>by have:=cO hf h1;omega
 have hP:SE (l++[x]) pl l.length x:=by
  intro z hz k
  rw[h.pl z k]
  constructor
  ·rintro⟨a,b⟩
   have hk:=(anA.1 b).1
   exact⟨a,by omega,by rw[anS hk];exact b⟩
  ·rintro⟨a,b,c⟩
   refine⟨a,?_⟩
   have hk:=(anA.1 c).1
   simp only[anL,an6]at hk
   rw[anS (by omega)]at c
   exact c
 have rG:x∉l:=fun hm=>by
  obtain⟨k,hk⟩:=an8 hm
  have:=(h.pl x k).2 ⟨by omega,by simpa using hk⟩
  rw[hx]at this;cases this
 have Mi:∀z,JQ (l++[x]) l.length z↔z∈l:=by
  intro z
  constructor
  ·rintro⟨k,k1,k2⟩
   have hk:=(anA.1 k2).1
   simp only[anL,an6]at hk
   rw[anS (by omega)]at k2
   exact anG k2
  ·intro hm
   obtain⟨k,hk⟩:=an8 hm
   have:=(anA.1 hk).1
   exact⟨k,by omega,by rw[anS this];exact hk⟩
 obtain⟨p1,p2⟩:=Eb (lt:=lt) (d:=d) x l.length (l++[x]) pl l.length (by simp) (by omega) (by simp;omega) hP (fun hc=>rG ((Mi x).1 hc))
 refine⟨⟨KE ho hf x _ _ _ _ (by simp) (by omega) (by simp;omega) ⟨fun j h1 h2 h3 h4=>?_,fun j h1 h2 h3 h4=>?_⟩ (fun j h1 h2 h3=>?_),p1⟩,fun z=>by rw[p2 z,Mi z],by rw[yk];simp,?_⟩
 ·simp only[Int.toNat_natCast]at h3 h4
  have:j<l.length:=by simp at h2;omega
  have hp:=cO hf h1
  rw[ce j this,ce _ (by omega)]
  exact h.heap j h1 this
 ·simp only[Int.toNat_natCast]at h3
  exact absurd h3 (QD j h1 (by simpa using h2))
 ·simp only[Int.toNat_natCast]at h3
  exact absurd h3 (QD j h1 (by simpa using h2))
 ·have:=G5 lt d x l.length (l++[x]) pl l.length
  unfold nN
  simpa using this
theorem ci.Xw{lt:Int→Int→Bool}(ho:bC lt){d:Int}(hf:cU d){l:List Int}{pl:Int→Option Int}(h:ci lt d l pl){x i:Int}(hx:pl x=some i):
  ci lt d (cT lt d x l pl i).1 (cT lt d x l pl i).2.1∧(cT lt d x l pl i).1.length=l.length - 1∧
   (∀z,z∈(cT lt d x l pl i).1↔z∈l∧z≠x)∧((cT lt d x l pl i).2.2:Int)≤d*(nN d ((l.length:Int) - 1):Nat)+1:=by
 obtain⟨a,b,c,e,g⟩:=Mn ho hf h.heap h.pl hx
 exact⟨⟨a,b⟩,c,e,g⟩
theorem ci.mem{lt:Int→Int→Bool}{d:Int}{l:List Int}{pl:Int→Option Int}(h:ci lt d l pl)(z:Int):z∈l↔pl z≠none:=by
 constructor
 ·intro hm
  obtain⟨k,hk⟩:=an8 hm
  rw[(h.pl z k).2 ⟨by omega,by simpa using hk⟩]
  simp
 ·intro hn
  obtain⟨k,hk⟩:=Option.ne_none_iff_exists'.1 hn
  exact anG ((h.pl z k).1 hk).2
theorem ci.least{lt:Int→Int→Bool}(ho:bC lt){d:Int}(hf:cU d){l:List Int}{pl:Int→Option Int}(h:ci lt d l pl){x:Int}(hx:l[0]? =some x):∀z∈l,z≠x→lt x z=true:=by
 intro z hz aS
 obtain⟨k,hk⟩:=an8 hz
 have hkl:=(anA.1 hk).1
 have:=G8 ho hf h.heap k k (anO _) hkl
 rw[anE,anE,hk,hx]at this
 rcases ho.Pj x z (Ne.symm aS)with h1|h1
 ·exact h1
 ·simp only[Option.getD_some]at this
  rw[h1]at this;cases this
theorem ci.raise{lt lt':Int→Int→Bool}(ho:bC lt)(ho':bC lt'){d:Int}(hf:cU d){l:List Int}{pl:Int→Option Int}(h:ci lt d l pl){x i:Int}(hx:pl x=some i)(aR:∀a∈l,∀b∈l,a≠x→b≠x→lt' a b=lt a b)(W3:∀z∈l,z≠x→lt z x=false→lt' z x=false):
  ci lt' d (gm lt' d x i.toNat l pl i).l (gm lt' d x i.toNat l pl i).pl∧(∀z,z∈(gm lt' d x i.toNat l pl i).l↔z∈l)∧(gm lt' d x i.toNat l pl i).l.length=l.length∧
   (gm lt' d x i.toNat l pl i).asked≤nN d ((l.length:Int) - 1):=by
 obtain⟨i0,hi⟩:=(h.pl x i).1 hx
 have tR:i.toNat<l.length:=(anA.1 hi).1
 have rP:∀j,j<l.length→j≠i.toNat→l.getD j 0≠x:=fun j hj aS e=>by
  have:l[j]? =some x:=by rw[anx hj,←e,anE,anx hj];rfl
  exact aS (h.pl.G6 this hi)
 have bQ:∀j,j<l.length→l.getD j 0∈l:=fun j hj=>by rw[anE,anx hj];exact api hj
 have Oc:=h.heap.but ho hf i.toNat
 have hO:¬JQ l i x:=by
  rintro⟨k,k1,k2⟩
  have:=h.pl.G6 k2 hi
  omega
 obtain⟨p1,p2⟩:=Eb (lt:=lt') (d:=d) x i.toNat l pl i (anO _) i0 (by omega) (h.pl.ae5 hi i0) hO
 refine⟨⟨KE ho' hf x _ _ _ _ (anO _) i0 (by omega) ⟨fun j h1 h2 h3 h4=>?_,fun j h1 h2 h3 h4=>?_⟩ (fun j h1 h2 h3=>?_),p1⟩,fun z=>?_,yk _ _ _ _ _ _ _,?_⟩
 ·have:=cO hf h1
  rw[aR _ (bQ j h2) _ (bQ _ (by omega)) (rP j h2 h3) (rP _ (by omega) h4)]
  exact Oc.1 j h1 h2 h3 h4
 ·have:=cO hf h1
  have:=cO hf h4
  rw[aR _ (bQ j h2) _ (bQ _ (by omega)) (rP j h2 (by omega)) (rP _ (by omega) (by omega))]
  exact Oc.2 j h1 h2 h3 h4
 ·have Pv:=cO hf h1
  have aS:=rP j h2 (by omega)
  have:=h.heap j h1 h2
  rw[h3,show l.getD i.toNat 0=x by rw[anE,hi];rfl]at this
  exact W3 _ (bQ j h2) aS this
 ·rw[p2 z]
  constructor
  ·rintro(rfl| ⟨k,_,k2⟩)
   ·exact anG hi
   ·exact anG k2
  ·intro hm
   obtain⟨k,hk⟩:=an8 hm
   by_cases e:(k:Int)=i
   ·rw[show k=i.toNat by omega,hi]at hk;injection hk with hk;exact .inl hk.symm
   ·exact .inr ⟨k,e,hk⟩
 ·have e1:=G5 lt' d x i.toNat l pl i
  have e2:=nO hf ((l.length:Int) - 1).toNat i ((l.length:Int) - 1) (anO _) (by omega)
  unfold nN at e2 ⊢
  omega
structure Rw where
 r:Nat
 S:Nat→Prop
 l:List Int
 pl:Int→Option Int
def We:Option Rw→Value
 |none=>.pointer none
 |some R=>ptr R.r
structure vA(H:Hp)(n c:Nat)(C:Nat→Prop)(rv:Value)(fp:Option Nat)(d st:Int)(w:Nw)(rs:List (Option Rw)):Prop where
 own:H.own n=some [ptr c,i64 d,rv]
 cells:bz H c C st w
 sl:Sl H 1 rv rs.length (rs.map We) fp
 row:∀ (h:Nat) R,rs[h]? =some (some R)→dB H R.r R.S d R.l R.pl
 nC:¬C n
 zH:∀b,fp=some b→b≠n∧¬C b
 pP:∀ (h:Nat) R,rs[h]? =some (some R)→∀x,R.S x→¬C x∧x≠n∧fp≠some x
 sB:∀ (h h':Nat) R R',rs[h]? =some (some R)→rs[h']? =some (some R')→h≠h'→∀x,R.S x→¬R'.S x
def E5(n:Nat)(C:Nat→Prop)(fp:Option Nat)(rs:List (Option Rw))(z:Nat):Prop:=C z∨z=n∨fp=some z∨∃ (h:Nat) (R:Rw),rs[h]? =some (some R)∧R.S z
structure SY(d:Int)(w:Nw)(rs:List (Option Rw)):Prop where
 Br:cU d
 hl:rs.length=w.hs.length
 hs:∀h:Nat,w.hs[h]? =some true↔∃R,rs[h]? =some (some R)
 h0:rs[0]? =some none
 ok:∀ (h:Nat) R,rs[h]? =some (some R)→ci (aU w) d R.l R.pl
 mem:∀ (h:Nat) R,rs[h]? =some (some R)→∀x:Int,x∈R.l↔0≤x∧∃e,w.cs[x.toNat]? =some (((h:Nat):Int),e)
 len:∀ (h:Nat) R,rs[h]? =some (some R)→(R.l.length:Int)=w.len h
def dm(H:Hp)(n:Nat)(S:Nat→Prop)(d st:Int)(w:Nw):Prop:=∃c C rv fp rs,vA H n c C rv fp d st w rs∧SY d w rs∧(∀z,E5 n C fp rs z↔S z)
theorem vA.slt{H:Hp}{n c:Nat}{C:Nat→Prop}{rv:Value}{fp:Option Nat}{d st:Int}{w:Nw}{rs:List (Option Rw)}(h:vA H n c C rv fp d st w rs):∀z,E5 n C fp rs z→z<H.size:=by
 rintro z (hz|rfl|hz| ⟨i,R,hR,hz⟩)
 ·exact h.cells.slt z hz
 ·exact aG h.own
 ·exact Sl.lt (hz▸h.sl)
 ·exact(h.row i R hR).slt z hz
theorem vA.ext{H H':Hp}{n c:Nat}{C T:Nat→Prop}{rv:Value}{fp:Option Nat}{d st:Int}{w:Nw}{rs:List (Option Rw)}(h:vA H n c C rv fp d st w rs)(e:ah T H H')(hd:∀z,E5 n C fp rs z→¬T z):vA H' n c C rv fp d st w rs:=
 ⟨e.own h.own (hd n (.inr (.inl rfl))),h.cells.ext e (fun x hx=>hd x (.inl hx)),h.sl.ext e (fun b hb=>hd b (.inr (.inr (.inl hb)))),fun i R hR=>(h.row i R hR).ext e (fun x hx=>hd x (.inr (.inr (.inr ⟨i,R,hR,hx⟩)))),h.nC,h.zH,h.pP,h.sB⟩
theorem dm.slt{H:Hp}{n:Nat}{S:Nat→Prop}{d st:Int}{w:Nw}(h:dm H n S d st w):∀z,S z→z<H.size:=by
 obtain⟨c,C,rv,fp,rs,m,l,hS⟩:=h
 exact fun z hz=>m.slt z ((hS z).2 hz)
theorem dm.ext{H H':Hp}{n:Nat}{S T:Nat→Prop}{d st:Int}{w:Nw}(h:dm H n S d st w)(e:ah T H H')(hd:∀z,S z→¬T z):dm H' n S d st w:=by
 obtain⟨c,C,rv,fp,rs,m,l,hS⟩:=h
 exact⟨c,C,rv,fp,rs,m.ext e (fun z hz=>hd z ((hS z).1 hz)),l,hS⟩
theorem dm.fresh{H H':Hp}{n:Nat}{S:Nat→Prop}{d st:Int}{w:Nw}(h:dm H n S d st w)(e:aq H H'):dm H' n S d st w:=h.ext e fun _ _ h=>h
theorem sC(cap d:Int)(H:Hp):ai Tryz.prog Nz [i64 cap,i64 d] H fun v H'=>ay (
  aq H H'∧((¬ (0≤cap∧cap≤65536)∧v= .tuple [.pointer none,i64 31].toArray)∨((0≤cap∧cap≤65536)∧¬cU d∧v= .tuple [.pointer none,i64 22].toArray)∨
   ((0≤cap∧cap≤65536)∧cU d∧∃n S,v= .tuple [ptr n,i64 0].toArray∧dm H' n S d 0 ⟨[false],List.replicate cap.toNat (0,0,0)⟩∧∀x,S x→H.size≤x))):=by
 refine ba NE ⟨rfl,?_⟩
 refine v1 AL.eq_1 ?_
 refine(oK cap H).mono ?_
 rintro _ H1 ⟨f1,⟨hb,rfl⟩| ⟨hb,c,C,rfl,c1,hC⟩⟩
 ·refine vs ?_
  exact⟨f1,.inl ⟨hb,rfl⟩⟩
 refine vs ?_
 refine(zT d H1).mono ?_
 rintro _ H2 ⟨f2,⟨hf,rfl⟩| ⟨hf,r,S,rfl,r2,hS⟩⟩
 ·refine vs ?_
  exact⟨f1.trans f2,.inr (.inl ⟨hb,hf,rfl⟩)⟩
 refine v1 anZ ?_
 have f3:aq H2 ((H2.new 250 [.pointer none]).new 255 [ptr c,i64 d,.slice (some ⟨H2.size,0,none⟩) 1 1]):=((ah.refl _ _).new _ _).new _ _
 have z1:=f1.size
 have z2:=f2.size
 have zS:=c1.slt
 refine⟨(f1.trans f2).trans f3,.inr (.inr ⟨hb,hf,H2.size+1,E5 (H2.size+1) C (some H2.size) [none],rfl,⟨c,C,.slice (some ⟨H2.size,0,none⟩) 1 1,some H2.size,[none],
  ⟨bD (by simp only[ar]),(c1.fresh f2).fresh f3,?_,fun h R hR=>?_,fun h=>by have:=zS _ h;omega,fun b hb=>?_,fun h R hR=>?_,fun h h' R R' hR=>?_⟩,
  ⟨hf,rfl,fun h=>?_,rfl,fun h R hR=>?_,fun h R hR=>?_,fun h R hR=>?_⟩,fun z=>Iff.rfl⟩,fun x hx=>?_⟩)⟩
 ·exact(Sl.dw (size:=1) (n:=1) (xs:=[.pointer none]) rfl rfl).ext ((ah.refl (fun _=>False) _).new _ _) (fun _ _ h=>h)
 ·rcases h with _|h<;>simp at hR
 ·injection hb with hb
  subst hb
  exact⟨by omega,fun h=>by have:=zS _ h;omega⟩
 ·rcases h with _|h<;>simp at hR
 ·rcases h with _|h<;>simp at hR
 ·rcases h with _|h<;>simp
 ·rcases h with _|h<;>simp at hR
 ·rcases h with _|h<;>simp at hR
 ·rcases h with _|h<;>simp at hR
 ·rcases hx with hx|rfl|hx| ⟨i,R,hR,hx⟩
  ·exact hC x hx
  ·omega
  ·injection hx with hx;omega
  ·rcases i with _|i<;>simp at hR
theorem Hu{n c:Nat}{C:Nat→Prop}{rv:Value}{d st:Int}{w:Nw}(hn:¬C n):N0 (.iface 194 (ptr n)) (fun H k=>bz H c C (min (st+k) 4611686018427387904) w∧H.own n=some [ptr c,i64 d,rv])
  (fun x=>C x∨x=n) (aU w) (cZ w.cs):=by
 refine⟨fun H k a b ha hb h=>⟨_,_,cS,ptr c,rfl,hX (off:=0) (by kernel_rfl) (ae h.2) rfl,(lU h.1 a b).mono ?_⟩,abd (x:=(0,cS)) (by kernel_rfl),fun H H' k U h e hd=>?_,fun H k h x hx=>?_⟩
 ·rintro v H' ⟨rfl,h1,e⟩
  rw[if_pos ⟨ha,hb⟩]at h1
  have hs:gX (min (st+(k:Nat)) 4611686018427387904) 1=min (st+((k+1:Nat):Int)) 4611686018427387904:=by
   unfold gX
   rw[if_neg (by omega)]
   split<;>omega
  rw[hs]at h1
  exact⟨by rw[Ec ha hb],⟨h1,e.own h.2 hn⟩,e.mono fun z _ hz=>.inl hz⟩
 ·exact⟨h.1.ext e (fun x hx=>hd x (.inl hx)),e.own h.2 (hd n (.inr rfl))⟩
 ·rcases hx with hx|rfl
  ·exact h.1.slt x hx
  ·exact aG h.2
theorem Hv{H:Hp}{n:Nat}{S:Nat→Prop}{d st:Int}{w:Nw}(h:dm H n S d st w):ai Tryz.prog sR [ptr n] H fun v H'=>ay (
  (w.hs.length=65537∧v=i64 0∧H=H')∨
  (w.hs.length≠65537∧v=i64 w.hs.length∧∃S',dm H' n S' d st w.make∧ah S H H'∧∀x,S' x→S x∨H.size≤x)):=by
 obtain⟨c,C,rv,fp,rs,m,l,hS⟩:=h
 refine ba DO ⟨rfl,?_⟩
 refine v2 mL.eq_1 (ae m.own) ?_
 refine(mX m.cells).mono ?_
 rintro _ H1 (⟨h1,rfl,rfl⟩| ⟨h1,rfl,C',c1,e1,Bp⟩)
 ·refine vs ?_
  exact .inl ⟨h1,rfl,rfl⟩
 have jj:0<rs.length:=(anA.1 l.h0).1
 have ol:=l.hl
 have o1:=e1.own m.own m.nC
 refine vs ?_
 refine am.cF (anQ (by omega)) ?_
 refine v1 (ae o1) ?_
 refine(zT d H1).mono ?_
 rintro _ H2 ⟨f2,⟨hf,_⟩| ⟨_,r,Sr,rfl,r2,Wf⟩⟩
 ·exact absurd l.Br hf
 have o2:=f2.own o1 (fun h=>h)
 refine v1 (ae o2) ?_
 have Gf:=m.cells.Gf
 have fH:=m.slt
 have SW:=c1.slt
 have zP:=r2.slt
 have z1:=e1.size
 have z2:=f2.size
 have e0:ah (fun _=>False) H2 (H2.new 250 [ptr r]):=(ah.refl _ _).new _ _
 have sl2:=(m.sl.ext e1 (fun b hb h=>(m.zH b hb).2 h)).ext f2 (fun _ _ h=>h)
 refine Sl.append (sl2.ext e0 (fun _ _ h=>h)) (Sl.dw (size:=1) (xs:=[ptr r]) rfl rfl).rd rfl (by intro v hv;simp only[anM]at hv;subst hv;rfl) (by omega) ?_
 intro v' H3 dv s3 e3 jv
 have o3:=e3.own (e0.own o2 (fun h=>h)) (fun e=>(m.zH n e).1 rfl)
 obtain⟨a',Xl,PG⟩:=da.Sz s3.rd
 subst PG
 refine v1 o3 ?_
 generalize PG:Value.slice a' (rs.length+1) Xl=v' at*
 have e4:ah (fun z=>z=n) H3 (H3.wr n [ptr c,i64 d,v']):=(ah.refl (fun z=>z=n) _).wr (fun _=>rfl) _
 have hn:=aG m.own
 have UZ:∀b,fp=some b→b<H.size:=fun b hb=>fH b (.inr (.inr (.inl hb)))
 have hCl:∀z,C z→z<H.size:=fun z hz=>fH z (.inl hz)
 have F0:∀b,dv=some b→fp=some b∨H2.size≤b:=fun b hb=>by
  rcases jv with h| ⟨z,h,h5,_⟩
  ·exact .inl (h▸hb)
  ·rw[h]at hb;injection hb with hb;subst hb;rw[ar]at h5;exact .inr (by omega)
 have Hl:∀z,C' z→C z∨H.size≤z:=Bp
 have Oq:ah (fun z=>fp=some z) H2 H3:=(e0.mono fun _ _ h=>h.elim).uF e3 (fun z _ h=>h)
 have ce:∀ (h:Nat) R,(rs++[some (⟨r,Sr,[],fun _=>none⟩:Rw)])[h]? =some (some R)→rs[h]? =some (some R)∨(h=rs.length∧R=⟨r,Sr,[],fun _=>none⟩):=fun h R hR=>by
  rcases ao3 h rs.length with h5|h5|h5
  ·rw[anS h5]at hR;exact .inl hR
  ·subst h5
   rw[an5 (anO _),aoJ]at hR
   simp only[an7,anK]at hR
   exact .inr ⟨rfl,hR.symm⟩
  ·rw[anP (by rw[anL,an6];omega)]at hR
   cases hR
 have hold:∀ (h:Nat) R,rs[h]? =some (some R)→∀x,R.S x→¬C x∧x≠n∧fp≠some x∧x<H.size:=fun h R hR x hx=>
  ⟨(m.pP h R hR x hx).1,(m.pP h R hR x hx).2.1,(m.pP h R hR x hx).2.2,fH x (.inr (.inr (.inr ⟨h,R,hR,hx⟩)))⟩
 have Ka:∀ (x:Nat) (e:Int×Int),w.cs[x]? ≠some (((rs.length:Nat):Int),e):=fun x e hx=>by
  have:=(m.cells.home _ (anG hx)).2
  simp only at this
  omega
 refine .inr ⟨h1,rfl,E5 n C' dv (rs++[some ⟨r,Sr,[],fun _=>none⟩]),⟨c,C',v',dv,rs++[some ⟨r,Sr,[],fun _=>none⟩],
  ⟨aj o3,?_,?_,fun h R hR=>?_,fun h=>?_,fun b hb=>⟨?_,fun h=>?_⟩,fun h R hR x hx=>⟨fun h=>?_,?_,fun h=>?_⟩,fun h h' R R' hR hR' aS x hx xy=>?_⟩,
  ⟨l.Br,?_,fun h=>?_,?_,fun h R hR=>?_,fun h R hR x=>?_,fun h R hR=>?_⟩,fun z=>Iff.rfl⟩,?_,fun x hx=>?_⟩
 ·exact(((c1.ext f2 (fun _ _ h=>h)).ext Oq (fun x hx e=>by
   rcases Hl x hx with h|h
   ·exact(m.zH x e).2 h
   ·have:=UZ x e;omega)).ext e4 (fun x hx e=>by
   rcases Hl x hx with h|h
   ·exact m.nC (e▸h)
   ·omega))
 ·have:=s3.ext e4 (fun b hb e=>by
   rcases F0 b hb with h|h
   ·exact(m.zH b h).1 e
   ·omega)
  rw[anL,aos]
  exact this
 ·rcases ce h R hR with h5| ⟨rfl,rfl⟩
  ·exact((((m.row h R h5).ext e1 (fun x hx=>(hold h R h5 x hx).1)).ext f2 (fun _ _ h=>h)).ext Oq (fun x hx=>(hold h R h5 x hx).2.2.1)).ext e4 (fun x hx=>(hold h R h5 x hx).2.1)
  ·exact(r2.ext Oq (fun x hx e=>by have:=Wf x hx;have:=UZ x e;omega)).ext e4 (fun x hx e=>by have:=Wf x hx;omega)
 ·rcases Hl n h with h|h
  ·exact m.nC h
  ·omega
 ·rcases F0 b hb with h|h
  ·exact(m.zH b h).1
  ·omega
 ·rcases F0 b hb with h5|h5
  ·rcases Hl b h with h6|h6
   ·exact(m.zH b h5).2 h6
   ·have:=UZ b h5;omega
  ·have:=SW b h;omega
 ·rcases ce _ R hR with h5| ⟨_,rfl⟩
  ·rcases Hl x h with h6|h6
   ·exact(hold _ R h5 x hx).1 h6
   ·have:=(hold _ R h5 x hx).2.2.2;omega
  ·have:=Wf x hx;have:=SW x h;omega
 ·rcases ce _ R hR with h5| ⟨_,rfl⟩
  ·exact(hold _ R h5 x hx).2.1
  ·have:=Wf x hx;omega
 ·rcases ce _ R hR with h5| ⟨_,rfl⟩
  ·rcases F0 x h with h6|h6
   ·exact(hold _ R h5 x hx).2.2.1 h6
   ·have:=(hold _ R h5 x hx).2.2.2;omega
  ·have h7:=zP x hx
   rcases F0 x h with h6|h6
   ·have:=Wf x hx;have:=UZ x h6;omega
   ·omega
 ·rcases ce _ R hR with h5| ⟨h5,rfl⟩
  ·rcases ce _ R' hR' with h6| ⟨h6,rfl⟩
   ·exact m.sB h h' R R' h5 h6 aS x hx xy
   ·have:=Wf x xy;have:=(hold _ R h5 x hx).2.2.2;omega
  ·rcases ce _ R' hR' with h6| ⟨h6,rfl⟩
   ·have:=Wf x hx;have:=(hold _ R' h6 x xy).2.2.2;omega
   ·omega
 ·simp[Nw.make,ol]
 ·show(w.hs++[true])[h]? =some true↔_
  rcases ao3 h rs.length with h5|h5|h5
  ·rw[anS h5,anS (by omega)]
   exact l.hs h
  ·subst h5
   rw[an5 (anO _),an5 (by omega),aoJ,ol,aoJ]
   simp
  ·rw[anP (by rw[anL,an6];omega),anP (by rw[anL,an6];omega)]
   simp
 ·rw[anS jj];exact l.h0
 ·rcases ce h R hR with h5| ⟨rfl,rfl⟩
  ·exact l.ok h R h5
  ·exact ci.nil _ _
 ·rcases ce h R hR with h5| ⟨rfl,rfl⟩
  ·exact l.mem h R h5 x
  ·simp only[apz,false_iff]
   rintro⟨_,e,he⟩
   exact Ka _ _ he
 ·rcases ce h R hR with h5| ⟨rfl,rfl⟩
  ·exact l.len h R h5
  ·show((0:Nat):Int)=w.len _
   unfold Nw.len
   rw[if_pos (by omega),apg.2 (fun x hx=>by
    have:=(m.cells.home x hx).2
    simp only[aoq]
    omega)]
 ·exact((e1.mono fun z _ hz=>(hS z).1 (.inl hz)).trans ((f2.mono fun _ _ h=>h.elim).trans (Oq.mono fun z _ hz=>(hS z).1 (.inr (.inr (.inl hz)))))).trans (e4.mono fun z _ hz=>(hS z).1 (.inr (.inl hz)))
 ·rcases hx with hx|rfl|hx| ⟨i,R,hR,hx⟩
  ·rcases Hl x hx with h|h
   ·exact .inl ((hS x).1 (.inl h))
   ·exact .inr h
  ·exact .inl ((hS x).1 (.inr (.inl rfl)))
  ·rcases F0 x hx with h|h
   ·exact .inl ((hS x).1 (.inr (.inr (.inl h))))
   ·exact .inr (by omega)
  ·rcases ce _ R hR with h5| ⟨_,rfl⟩
   ·exact .inl ((hS x).1 (.inr (.inr (.inr ⟨i,R,h5,hx⟩))))
   ·have:=Wf x hx;exact .inr (by omega)
theorem SY.fZ{d:Int}{w:Nw}{rs:List (Option Rw)}(l:SY d w rs){g:Int}(h:w.has g):∃R,rs[g.toNat]? =some (some R):=(l.hs g.toNat).1 h.2
theorem zY{H:Hp}{n:Nat}{S:Nat→Prop}{d st:Int}{w:Nw}(h:dm H n S d st w)(g:Int):ai Tryz.prog vi [ptr n,i64 g] H fun v H'=>ay (
  ((¬w.has g∧v= .tuple [i64 0,.bool false].toArray)∨(w.has g∧w.len g=0∧v= .tuple [i64 0,.bool false].toArray)∨
   (w.has g∧∃x,cZ w.cs x∧(∃e,w.cs[x.toNat]? =some (g,e))∧v= .tuple [i64 x,.bool true].toArray∧∀y,0≤y→(∃e,w.cs[y.toNat]? =some (g,e))→y≠x→aU w x y=true))∧H=H'):=by
 obtain⟨c,C,rv,fp,rs,m,l,hS⟩:=h
 refine ba Fy ⟨rfl,?_⟩
 refine v2 oC.eq_1 (ae m.own) ?_
 refine(jx m.cells g).mono ?_
 rintro _ _ ⟨rfl,rfl⟩
 refine vs ?_
 refine am.dec (fun hh=>?_) (fun hh=>?_)
 ·obtain⟨R,hR⟩:=l.fZ hh
  have h1:=hh.1
  have aR:=(anA.1 hR).1
  obtain⟨b,o,c',lb,e1,e2,e3,e4⟩:=da.get m.sl.rd (i:=g.toNat) (j:=0) (x:=ptr R.r) (by omega) (by simp[hR,We])
  subst e1
  have BK:((g.toNat:Nat):Int)=g:=by omega
  refine v1 (ae m.own) ?_
  refine⟨by omega,?_⟩
  refine v2 e2 (show lb[o+g.toNat*1]? =some (ptr R.r)from e4) ?_
  refine(KD (m.row _ R hR) 0).mono ?_
  rintro _ _ ⟨rfl,rfl⟩
  have cj:=l.mem _ R hR
  rw[BK]at cj
  have bv:=l.len _ R hR
  rw[BK]at bv
  rw[show(if(0:Int)≤0 then R.l[Int.toNat 0]? else none)=R.l[0]? from rfl,Uz]
  cases h0:R.l[0]? with
  |none=>
   have:R.l.length=0:=by
    rcases apl R.l.length with h|h
    ·exact h
    ·rw[anx h]at h0;cases h0
   simp(disch:=(first|omega| (simp only[Zs]<;>omega)|fail)) only[go_sem, ↓reduceIte,Zv,Option.isSome_none,Option.getD_none]
   exact⟨.inr (.inl ⟨hh,by omega,rfl⟩),rfl⟩
  |some x=>
   simp(disch:=(first|omega| (simp only[Zs]<;>omega)|fail)) only[go_sem, ↓reduceIte,Zv,Option.isSome_some,Option.getD_some]
   obtain⟨x0,e,he⟩:=(cj x).1 (anG h0)
   refine⟨.inr (.inr ⟨hh,x,⟨x0,_,he,by simp only;omega⟩,⟨e,he⟩,rfl,fun y hy0 hy aS=>?_⟩),rfl⟩
   exact ci.least (au w) l.Br (l.ok _ R hR) h0 y ((cj y).2 ⟨hy0,hy⟩) aS
 ·refine vs ?_
  exact⟨.inl ⟨hh,rfl⟩,rfl⟩
theorem vA.setRow{H H':Hp}{n c:Nat}{C T:Nat→Prop}{rv:Value}{fp:Option Nat}{d st Xn:Int}{w w':Nw}{rs:List (Option Rw)}(m:vA H n c C rv fp d st w rs){g:Nat}{R R':Rw}(hR:rs[g]? =some (some R))(hr:R'.r=R.r)
  (row:dB H' R'.r R'.S d R'.l R'.pl)(hRS:∀z,R'.S z→R.S z∨H.size≤z)(e:ah T H H')(hT:∀z,T z→C z∨R.S z∨z=n)(cells:bz H' c C Xn w')(own:H'.own n=some [ptr c,i64 d,rv]):
  vA H' n c C rv fp d Xn w' (rs.set g (some R')):=by
 have fH:=m.slt
 have hg:=(anA.1 hR).1
 have ce:∀ (h:Nat) Q,(rs.set g (some R'))[h]? =some (some Q)→(h=g∧Q=R')∨(h≠g∧rs[h]? =some (some Q)):=fun h Q hQ=>by
  by_cases hh:h=g
  ·subst hh
   rw[anI hg]at hQ
   simp only[anK]at hQ
   exact .inl ⟨rfl,hQ.symm⟩
  ·rw[anH (Ne.symm hh)]at hQ
   exact .inr ⟨hh,hQ⟩
 refine⟨own,cells,?_,fun h Q hQ=>?_,m.nC,m.zH,fun h Q hQ x hx=>?_,fun h h' Q Q' hQ hQ' aS x hx xy=>?_⟩
 ·have h1:(rs.set g (some R')).map We=rs.map We:=by
   rw[aoo]
   refine aoj fun i=>?_
   by_cases hi:i=g
   ·subst hi
    rw[anI (by rw[anW];exact hg),anT,hR]
    simp[We,hr]
   ·rw[anH (Ne.symm hi)]
  rw[h1,anC]
  exact m.sl.ext e (fun b hb ht=>by
   rcases hT b ht with h|h|h
   ·exact(m.zH b hb).2 h
   ·exact(m.pP _ R hR b h).2.2 hb
   ·exact(m.zH b hb).1 h)
 ·rcases ce h Q hQ with ⟨rfl,rfl⟩| ⟨h1,h2⟩
  ·exact row
  ·exact(m.row h Q h2).ext e (fun x hx ht=>by
    rcases hT x ht with h3|h3|h3
    ·exact(m.pP h Q h2 x hx).1 h3
    ·exact m.sB h g Q R h2 hR h1 x hx h3
    ·exact(m.pP h Q h2 x hx).2.1 h3)
 ·rcases ce h Q hQ with ⟨rfl,rfl⟩| ⟨h1,h2⟩
  ·rcases hRS x hx with h3|h3
   ·exact m.pP _ R hR x h3
   ·refine⟨fun hc=>?_,fun hc=>?_,fun hc=>?_⟩
    ·have:=fH x (.inl hc);omega
    ·have:=fH n (.inr (.inl rfl));omega
    ·have:=fH x (.inr (.inr (.inl hc)));omega
  ·exact m.pP h Q h2 x hx
 ·rcases ce h Q hQ with ⟨rfl,rfl⟩| ⟨h1,h2⟩
  ·rcases ce h' Q' hQ' with ⟨rfl,rfl⟩| ⟨h3,h4⟩
   ·exact aS rfl
   ·rcases hRS x hx with h5|h5
    ·exact m.sB _ h' R Q' hR h4 aS x h5 xy
    ·have:=fH x (.inr (.inr (.inr ⟨h',Q',h4,xy⟩)));omega
  ·rcases ce h' Q' hQ' with ⟨rfl,rfl⟩| ⟨h3,h4⟩
   ·rcases hRS x xy with h5|h5
    ·exact m.sB h _ Q R h2 hR aS x hx h5
    ·have:=fH x (.inr (.inr (.inr ⟨h,Q,h2,hx⟩)));omega
   ·exact m.sB h h' Q Q' h2 h4 aS x hx xy
theorem U4(lt:Int→Int→Bool){d:Int}(hf:cU d)(x:Int){m:Nat}(l:List Int)(pl:Int→Option Int){i:Int}(hi:1≤i)(hm:i.toNat≤m):0< (gm lt d x m l pl i).asked:=by
 obtain⟨q,rfl⟩:∃q,m=q+1:=⟨m - 1,by omega⟩
 have hp:bh d i=some ((i - 1) / d):=by unfold bh;rw[if_pos ⟨hf,hi⟩]
 simp only[gm,hp]
 split<;>simp
theorem Es{H:Hp}{n:Nat}{S:Nat→Prop}{d st:Int}{w:Nw}(h:dm H n S d st w)(g x k s:Int):ai Tryz.prog pZ [ptr n,i64 g,i64 x,wq k s] H fun v H'=>ay (
  (¬ (w.has g∧(0≤x∧x<w.cs.length)∧¬cZ w.cs x)∧v= .bool false∧dm H' n S d st w∧ah S H H')∨
  ((w.has g∧(0≤x∧x<w.cs.length)∧¬cZ w.cs x)∧v= .bool true∧∃ (S':Nat→Prop) (q:Nat),(q:Int)≤nN d (w.len g).toNat∧(0<w.len g→0<q)∧dm H' n S' d (min (st+q) 4611686018427387904) (w.put x (g,k,s))∧ah S H H'∧∀z,S' z→S z∨H.size≤z)):=by
 obtain⟨c,C,rv,fp,rs,m,l,hS⟩:=h
 refine ba AU ⟨rfl,?_⟩
 refine v1 jQ.eq_1 ?_
 have f0:aq H (H.new 224 [i64 k,u64 s]):=(ah.refl _ _).new _ _
 have b0:(H.new 224 [i64 k,u64 s]).own H.size=some [i64 k,u64 s]:=aE _ _ _
 have m0:=m.ext f0 (fun _ _ h=>h)
 generalize H.new 224 [i64 k,u64 s]=H0 at*
 refine v2 (ae m0.own) (ae b0) ?_
 refine(oL m0.cells g x k s).mono ?_
 rintro _ H1 (⟨cw,rfl,c1,e1⟩| ⟨tD,rfl,c1,e1⟩)
 ·refine vs ?_
  refine .inl ⟨cw,rfl,⟨c,C,rv,fp,rs,?_,l,hS⟩,(f0.mono fun _ _ h=>h.elim).trans (e1.mono fun z _ hz=>(hS z).1 (.inl hz))⟩
  exact⟨e1.own m0.own m.nC,c1,m0.sl.ext e1 (fun b hb h=>(m.zH b hb).2 h),fun i R hR=>(m0.row i R hR).ext e1 (fun x hx=>(m.pP i R hR x hx).1),m.nC,m.zH,m.pP,m.sB⟩
 ·obtain⟨hh,⟨ik,kj⟩,bQ⟩:=id tD
  obtain⟨R,hR⟩:=l.fZ hh
  have h1:=hh.1
  have BK:((g.toNat:Nat):Int)=g:=by omega
  have cj:=l.mem _ R hR
  have bv:=l.len _ R hR
  rw[BK]at cj bv
  obtain⟨c0,rA⟩:∃c0,w.cs[x.toNat]? =some c0:=⟨_,anx (by omega)⟩
  have Cz:¬0<c0.1:=fun h=>bQ ⟨ik,c0,rA,h⟩
  have cV:(w.put x (g,k,s)).cs[x.toNat]? =some (g,k,s):=anI (by omega)
  have nU:∀y:Nat,y≠x.toNat→(w.put x (g,k,s)).cs[y]? =w.cs[y]? :=fun y hy=>anH (Ne.symm hy)
  have QI:∀ (i:Nat) Q,rs[i]? =some (some Q)→x∉Q.l:=fun i Q hQ hm=>by
   obtain⟨_,e,he⟩:=(l.mem i Q hQ x).1 hm
   rw[rA]at he
   injection he with he
   subst he
   rcases apl i with hi|hi
   ·subst hi;rw[l.h0]at hQ;cases hQ
   ·exact Cz (by simp only;omega)
  have aS:∀ (i:Nat) Q,rs[i]? =some (some Q)→∀y∈Q.l,0≤y∧y.toNat≠x.toNat:=fun i Q hQ y hy=>by
   have h2:=((l.mem i Q hQ y).1 hy).1
   exact⟨h2,fun e=>QI i Q hQ (by rw[show x=y by omega];exact hy)⟩
  have UW:∀ (i:Nat) Q,rs[i]? =some (some Q)→ci (aU (w.put x (g,k,s))) d Q.l Q.pl:=fun i Q hQ=>
   ci.congr l.Br (l.ok i Q hQ) fun z hz y hy=>(jy w x _ (aS i Q hQ z hz).2 (aS i Q hQ y hy).2).symm
  have Ht:∀z∈R.l,cZ (w.put x (g,k,s)).cs z:=fun z hz=>by
   obtain⟨z0,e,he⟩:=(cj z).1 hz
   exact⟨z0,_,by rw[nU _ (aS _ R hR z hz).2];exact he,by simp only;omega⟩
  have Xq:cZ (w.put x (g,k,s)).cs x:=⟨ik,_,cV,by simp only;omega⟩
  have o1:=e1.own m0.own m.nC
  have abe:=m.cells.st
  have m1:vA H1 n c C rv fp d st (w.put x (g,k,s)) rs:=⟨o1,c1,m0.sl.ext e1 (fun b hb h=>(m.zH b hb).2 h),fun i R hR=>(m0.row i R hR).ext e1 (fun x hx=>(m.pP i R hR x hx).1),m.nC,m.zH,m.pP,m.sB⟩
  have aR:=(anA.1 hR).1
  obtain⟨b,o,c',lb,q1,q2,q3,q4⟩:=da.get m1.sl.rd (i:=g.toNat) (j:=0) (x:=ptr R.r) (by omega) (by simp[hR,We])
  subst q1
  refine v1 (ae o1) ?_
  refine⟨by omega,?_⟩
  refine v2 q2 (show lb[o+g.toNat*1]? =some (ptr R.r)from q4) ?_
  have zD:=m.cells.FM
  have ol:R.l.length≤65536:=by have:=(w.Bj g).2;omega
  refine(I8 (Hu (c:=c) (rv:=.slice (some ⟨b,o,none⟩) rs.length c') (d:=d) (st:=st) (w:=w.put x (g,k,s)) m.nC) (m1.row _ R hR) (fun z hz ht=>?_) (n:=0) ⟨by rw[show min (st+((0:Nat):Int)) 4611686018427387904=st by omega];exact c1,o1⟩ x (by omega) Xq Ht).mono ?_
  ·rcases ht with ht|ht
   ·exact(m.pP _ R hR z hz).1 ht
   ·exact(m.pP _ R hR z hz).2.1 ht
  rintro _ H2 (⟨hp,_,_⟩| ⟨hp,rfl,S',r2,⟨c2,o2⟩,e2,UX⟩)
  ·exact absurd ((ci.mem (l.ok _ R hR) x).2 hp) (QI _ R hR)
  obtain⟨p1,p2,p3,p4⟩:=ci.add (au (w.put x (g,k,s))) l.Br (UW _ R hR) hp
  have hq:0<R.l.length→0< (gm (aU (w.put x (g,k,s))) d x R.l.length (R.l++[x]) R.pl R.l.length).asked:=fun h=>U4 _ l.Br x _ _ (by omega) (by omega)
  generalize hU:gm (aU (w.put x (g,k,s))) d x R.l.length (R.l++[x]) R.pl R.l.length=U at*
  rw[anB]at c2
  refine vs ?_
  have qU:∀z,(R.S z∨C z∨z=n)→S z:=fun z hz=>(hS z).1 (by
   rcases hz with hz|hz|hz
   ·exact .inr (.inr (.inr ⟨_,R,hR,hz⟩))
   ·exact .inl hz
   ·exact .inr (.inl hz))
  have ce:∀ (h:Nat) Q,(rs.set g.toNat (some (⟨R.r,S',U.l,U.pl⟩:Rw)))[h]? =some (some Q)→(h=g.toNat∧Q=⟨R.r,S',U.l,U.pl⟩)∨(h≠g.toNat∧rs[h]? =some (some Q)):=fun h Q hQ=>by
   by_cases hh:h=g.toNat
   ·subst hh
    rw[anI aR]at hQ
    simp only[anK]at hQ
    exact .inl ⟨rfl,hQ.symm⟩
   ·rw[anH (Ne.symm hh)]at hQ
    exact .inr ⟨hh,hQ⟩
  refine .inr ⟨tD,rfl,E5 n C fp (rs.set g.toNat (some ⟨R.r,S',U.l,U.pl⟩)),U.asked,?_,fun h=>hq (by omega),
   ⟨c,C,_,fp,rs.set g.toNat (some ⟨R.r,S',U.l,U.pl⟩),m1.setRow hR (R':=⟨R.r,S',U.l,U.pl⟩) rfl r2 UX e2 (fun z hz=>?_) c2 o2,
    ⟨l.Br,by rw[anC];exact l.hl,fun h=>?_,?_,fun h Q hQ=>?_,fun h Q hQ y=>?_,fun h Q hQ=>?_⟩,fun z=>Iff.rfl⟩,?_,fun z hz=>?_⟩
  ·rw[show((w.len g).toNat:Int)=(R.l.length:Int) by omega]
   exact Int.ofNat_le.2 p4
  ·rcases hz with hz|hz|hz
   ·exact .inr (.inl hz)
   ·exact .inl hz
   ·exact .inr (.inr hz)
  ·show w.hs[h]? =some true↔_
   rw[l.hs h]
   by_cases Mz:h=g.toNat
   ·subst Mz
    rw[anI aR]
    exact⟨fun _=>⟨_,rfl⟩,fun _=>⟨R,hR⟩⟩
   ·rw[anH (Ne.symm Mz)]
  ·rw[anH (by omega)];exact l.h0
  ·rcases ce h Q hQ with ⟨rfl,rfl⟩| ⟨h5,h6⟩
   ·exact p1
   ·exact UW h Q h6
  ·rcases ce h Q hQ with ⟨rfl,rfl⟩| ⟨h5,h6⟩
   ·rw[BK]
    show y∈U.l↔_
    rw[p2 y]
    constructor
    ·rintro(rfl|hy)
     ·exact⟨ik,_,cV⟩
     ·obtain⟨y0,e,he⟩:=(cj y).1 hy
      exact⟨y0,e,by rw[nU _ (aS _ R hR y hy).2];exact he⟩
    ·rintro⟨y0,e,he⟩
     by_cases rj:y.toNat=x.toNat
     ·exact .inl (by omega)
     ·rw[nU _ rj]at he
      exact .inr ((cj y).2 ⟨y0,e,he⟩)
   ·rw[l.mem h Q h6 y]
    by_cases rj:y.toNat=x.toNat
    ·rw[rj,cV,rA]
     constructor
     ·rintro⟨y0,e,he⟩
      injection he with he
      subst he
      rcases apl h with hi|hi
      ·subst hi;rw[l.h0]at h6;cases h6
      ·exact absurd (show(0:Int)< ((h:Nat):Int) by omega) Cz
     ·rintro⟨y0,e,he⟩
      injection he with he
      injection he with Xr he2
      omega
    ·rw[nU _ rj]
  ·rcases ce h Q hQ with ⟨rfl,rfl⟩| ⟨h5,h6⟩
   ·rw[BK,Nw.iq rA g,if_neg (fun hc=>by omega),if_pos ⟨by omega,rfl⟩]
    show(U.l.length:Int)=_
    omega
   ·rw[l.len h Q h6,Nw.iq rA h,if_neg (fun hc=>by omega),if_neg (fun hc=>by omega)]
    omega
  ·exact(f0.mono fun _ _ h=>h.elim).trans ((e1.mono fun z _ hz=>qU z (.inr (.inl hz))).trans (e2.mono fun z _ hz=>qU z hz))
  ·have z0:=f0.size
   have z1:=e1.size
   rcases hz with hz|rfl|hz| ⟨i,Q,hQ,hz⟩
   ·exact .inl (qU z (.inr (.inl hz)))
   ·exact .inl (qU z (.inr (.inr rfl)))
   ·exact .inl ((hS z).1 (.inr (.inr (.inl hz))))
   ·rcases ce i Q hQ with ⟨rfl,rfl⟩| ⟨h5,h6⟩
    ·rcases UX z hz with h|h
     ·exact .inl (qU z (.inl h))
     ·exact .inr (by omega)
    ·exact .inl ((hS z).1 (.inr (.inr (.inr ⟨i,Q,h6,hz⟩))))
theorem Et{H:Hp}{n:Nat}{S:Nat→Prop}{d st:Int}{w:Nw}(h:dm H n S d st w)(x:Int):ai Tryz.prog As [ptr n,i64 x] H fun v H'=>ay (
  (¬cZ w.cs x∧v= .bool false∧H=H')∨
  (cZ w.cs x∧v= .bool true∧∃ (c0:Ce) (q:Nat),w.cs[x.toNat]? =some c0∧(q:Int)≤d*(nN d (w.len c0.1 - 1):Nat)+1∧∃S',dm H' n S' d (min (st+q) 4611686018427387904) (w.put x (0,0,0))∧ah S H H'∧∀z,S' z→S z∨H.size≤z)):=by
 obtain⟨c,C,rv,fp,rs,m,l,hS⟩:=h
 refine ba AS ⟨rfl,?_⟩
 refine v2 jO.eq_1 (ae m.own) ?_
 refine(eU m.cells x).mono ?_
 rintro _ H1 (⟨cw,rfl,rfl⟩| ⟨bQ,c0,rA,rfl,c1,e1⟩)
 ·refine vs ?_
  exact .inl ⟨cw,rfl,rfl⟩
 obtain⟨ik,c0',KN,jj⟩:=id bQ
 rw[rA]at KN
 injection KN with KN
 subst KN
 obtain⟨R,hR⟩:=(l.hs c0.1.toNat).1 (m.cells.live _ (anG rA) jj)
 have BK:((c0.1.toNat:Nat):Int)=c0.1:=by omega
 have cj:=l.mem _ R hR
 have bv:=l.len _ R hR
 rw[BK]at cj bv
 have cV:(w.put x (0,0,0)).cs[x.toNat]? =some (0,0,0):=anI (anA.1 rA).1
 have nU:∀y:Nat,y≠x.toNat→(w.put x (0,0,0)).cs[y]? =w.cs[y]? :=fun y hy=>anH (Ne.symm hy)
 have o1:=e1.own m.own m.nC
 have m1:vA H1 n c C rv fp d st w rs:=⟨o1,c1,m.sl.ext e1 (fun b hb h=>(m.zH b hb).2 h),fun i R hR=>(m.row i R hR).ext e1 (fun x hx=>(m.pP i R hR x hx).1),m.nC,m.zH,m.pP,m.sB⟩
 have aR:=(anA.1 hR).1
 have hxR:x∈R.l:=(cj x).2 ⟨ik,c0.2,rA⟩
 have Ht:∀z∈R.l,cZ w.cs z:=fun z hz=>by
  obtain⟨z0,e,he⟩:=(cj z).1 hz
  exact⟨z0,_,he,jj⟩
 obtain⟨b,o,c',lb,q1,q2,q3,q4⟩:=da.get m1.sl.rd (i:=c0.1.toNat) (j:=0) (x:=ptr R.r) (by omega) (by simp[hR,We])
 subst q1
 have abe:=m.cells.st
 have zD:=m.cells.FM
 have ol:R.l.length≤65536:=by have:=(w.Bj c0.1).2;omega
 refine v1 (ae o1) ?_
 refine⟨by omega,?_⟩
 refine v2 q2 (show lb[o+c0.1.toNat*1]? =some (ptr R.r)from q4) ?_
 refine(Er (Hu (c:=c) (rv:=.slice (some ⟨b,o,none⟩) rs.length c') (d:=d) (st:=st) (w:=w) m.nC) (m1.row _ R hR) (fun z hz ht=>?_) (n:=0) ⟨by rw[show min (st+((0:Nat):Int)) 4611686018427387904=st by omega];exact c1,o1⟩ l.Br x (by omega) (l.ok _ R hR).pl Ht).mono ?_
 ·rcases ht with ht|ht
  ·exact(m.pP _ R hR z hz).1 ht
  ·exact(m.pP _ R hR z hz).2.1 ht
 rintro _ H2 (⟨hp,_,_⟩| ⟨i,hp,rfl,r2,⟨c2,o2⟩,e2⟩)
 ·exact absurd hp ((ci.mem (l.ok _ R hR) x).1 hxR)
 obtain⟨p1,p2,p3,p4⟩:=ci.Xw (au w) l.Br (l.ok _ R hR) hp
 generalize hU:cT (aU w) d x R.l R.pl i=U at*
 rw[anB]at c2
 refine v1 (ae o2) ?_
 refine(mY c2 x).mono ?_
 rintro _ H3 (⟨cw,_,_⟩| ⟨_,rfl,c3,e3⟩)
 ·exact absurd bQ cw
 refine vs ?_
 have o3:=e3.own o2 m.nC
 have Ip:ah (fun z=>R.S z∨C z∨z=n) H1 H3:=e2.trans (e3.mono fun z _ hz=>.inr (.inl hz))
 have r3:=r2.ext e3 (fun z hz=>(m.pP _ R hR z hz).1)
 have qU:∀z,(R.S z∨C z∨z=n)→S z:=fun z hz=>(hS z).1 (by
  rcases hz with hz|hz|hz
  ·exact .inr (.inr (.inr ⟨_,R,hR,hz⟩))
  ·exact .inl hz
  ·exact .inr (.inl hz))
 have ce:∀ (h:Nat) Q,(rs.set c0.1.toNat (some (⟨R.r,R.S,U.1,U.2.1⟩:Rw)))[h]? =some (some Q)→(h=c0.1.toNat∧Q=⟨R.r,R.S,U.1,U.2.1⟩)∨(h≠c0.1.toNat∧rs[h]? =some (some Q)):=fun h Q hQ=>by
  by_cases hh:h=c0.1.toNat
  ·subst hh
   rw[anI aR]at hQ
   simp only[anK]at hQ
   exact .inl ⟨rfl,hQ.symm⟩
  ·rw[anH (Ne.symm hh)]at hQ
   exact .inr ⟨hh,hQ⟩
 have FO:∀ (h:Nat) Q,rs[h]? =some (some Q)→0<h:=fun h Q hQ=>by
  rcases apl h with hi|hi
  ·subst hi;rw[l.h0]at hQ;cases hQ
  ·exact hi
 have aS:∀ (h:Nat) Q,h≠c0.1.toNat→rs[h]? =some (some Q)→∀y∈Q.l,y.toNat≠x.toNat:=fun h Q hh hQ y hy e=>by
  obtain⟨y0,e',he⟩:=(l.mem h Q hQ y).1 hy
  rw[e,rA]at he
  injection he with he
  rw[he]at hh
  simp only[Int.toNat_natCast]at hh
  exact hh rfl
 have Ov:∀y∈U.1,y.toNat≠x.toNat:=fun y hy e=>by
  obtain⟨h1,h2⟩:=(p3 y).1 hy
  have:=((cj y).1 h1).1
  omega
 refine .inr ⟨bQ,rfl,c0,U.2.2,rA,?_,E5 n C fp (rs.set c0.1.toNat (some ⟨R.r,R.S,U.1,U.2.1⟩)),
  ⟨c,C,_,fp,rs.set c0.1.toNat (some ⟨R.r,R.S,U.1,U.2.1⟩),m1.setRow hR (R':=⟨R.r,R.S,U.1,U.2.1⟩) rfl r3 (fun z hz=>.inl hz) Ip (fun z hz=>?_) c3 o3,
   ⟨l.Br,by rw[anC];exact l.hl,fun h=>?_,?_,fun h Q hQ=>?_,fun h Q hQ y=>?_,fun h Q hQ=>?_⟩,fun z=>Iff.rfl⟩,?_,fun z hz=>?_⟩
 ·rw[←bv];exact p4
 ·rcases hz with hz|hz|hz
  ·exact .inr (.inl hz)
  ·exact .inl hz
  ·exact .inr (.inr hz)
 ·show w.hs[h]? =some true↔_
  rw[l.hs h]
  by_cases Mz:h=c0.1.toNat
  ·subst Mz
   rw[anI aR]
   exact⟨fun _=>⟨_,rfl⟩,fun _=>⟨R,hR⟩⟩
  ·rw[anH (Ne.symm Mz)]
 ·rw[anH (by omega)];exact l.h0
 ·rcases ce h Q hQ with ⟨rfl,rfl⟩| ⟨h5,h6⟩
  ·exact ci.congr l.Br p1 fun z hz y hy=>(jy w x _ (Ov z hz) (Ov y hy)).symm
  ·exact ci.congr l.Br (l.ok h Q h6) fun z hz y hy=>(jy w x _ (aS h Q h5 h6 z hz) (aS h Q h5 h6 y hy)).symm
 ·by_cases rj:y.toNat=x.toNat
  ·rw[rj,cV]
   have h0:=ce h Q hQ
   constructor
   ·intro hy
    rcases h0 with ⟨rfl,rfl⟩| ⟨h5,h6⟩
    ·exact absurd rj (Ov y hy)
    ·exact absurd rj (aS h Q h5 h6 y hy)
   ·rintro⟨_,e,he⟩
    injection he with he
    injection he with Xr _
    rcases h0 with ⟨rfl,rfl⟩| ⟨h5,h6⟩
    ·omega
    ·have:=FO h Q h6;omega
  ·rw[nU _ rj]
   rcases ce h Q hQ with ⟨rfl,rfl⟩| ⟨h5,h6⟩
   ·rw[BK]
    show y∈U.1↔_
    rw[p3 y,cj y]
    constructor
    ·exact fun h=>h.1
    ·exact fun h=>⟨h,fun e=>rj (by rw[e])⟩
   ·exact l.mem h Q h6 y
 ·rcases ce h Q hQ with ⟨rfl,rfl⟩| ⟨h5,h6⟩
  ·rw[BK,Nw.iq rA c0.1,if_pos ⟨jj,rfl⟩,if_neg (fun hc=>by omega)]
   show(U.1.length:Int)=_
   have:=List.length_pos_of_mem hxR
   omega
  ·have:=FO h Q h6
   rw[l.len h Q h6,Nw.iq rA h,if_neg (fun hc=>by omega),if_neg (fun hc=>by omega)]
   omega
 ·exact(e1.mono fun z _ hz=>qU z (.inr (.inl hz))).trans (Ip.mono fun z _ hz=>qU z hz)
 ·rcases hz with hz|rfl|hz| ⟨i,Q,hQ,hz⟩
  ·exact .inl (qU z (.inr (.inl hz)))
  ·exact .inl (qU z (.inr (.inr rfl)))
  ·exact .inl ((hS z).1 (.inr (.inr (.inl hz))))
  ·rcases ce i Q hQ with ⟨rfl,rfl⟩| ⟨h5,h6⟩
   ·exact .inl (qU z (.inl hz))
   ·exact .inl ((hS z).1 (.inr (.inr (.inr ⟨i,Q,h6,hz⟩))))
theorem CY{H:Hp}{n:Nat}{S:Nat→Prop}{d st:Int}{w:Nw}(h:dm H n S d st w)(g:Int):ai Tryz.prog o9 [ptr n,i64 g] H fun v H'=>ay (
  ((¬w.has g∨(w.has g∧w.len g=0))∧v= .tuple [i64 0,.bool false].toArray∧H=H')∨
  (w.has g∧∃x,cZ w.cs x∧(∃e,w.cs[x.toNat]? =some (g,e))∧(∀y,0≤y→(∃e,w.cs[y.toNat]? =some (g,e))→y≠x→aU w x y=true)∧v= .tuple [i64 x,.bool true].toArray∧
   ∃q:Nat,(q:Int)≤d*(nN d (w.len g - 1):Nat)+1∧∃S',dm H' n S' d (min (st+q) 4611686018427387904) (w.put x (0,0,0))∧ah S H H'∧∀z,S' z→S z∨H.size≤z)):=by
 refine ba zb ⟨rfl,?_⟩
 refine v1 iF.eq_1 ?_
 refine(zY h g).mono ?_
 rintro _ _ ⟨⟨cw,rfl⟩| ⟨hh,h0,rfl⟩| ⟨hh,x,hx,he,rfl,uN⟩,rfl⟩
 ·refine vs ?_
  exact .inl ⟨.inl cw,rfl,rfl⟩
 ·refine vs ?_
  exact .inl ⟨.inr ⟨hh,h0⟩,rfl,rfl⟩
 ·refine vs ?_
  refine(Et h x).mono ?_
  rintro _ H1 (⟨cw,_,_⟩| ⟨_,rfl,c0,q,rA,hq,S',d1,e1,UX⟩)
  ·exact absurd hx cw
  refine vs ?_
  obtain⟨e,tS⟩:=id he
  rw[rA]at tS
  injection tS with tS
  subst tS
  exact .inr ⟨hh,x,hx,he,uN,rfl,q,hq,S',d1,e1,UX⟩
theorem QJ(w:Nw){x:Int}{y:Ce}{k s:Int}(hy:w.cs[x.toNat]? =some y)(hl:¬gW y.2.1 y.2.2 k s){z:Int}(hz:z.toNat≠x.toNat)(h:aU w z x=false):aU (w.put x (y.1,k,s)) z x=false:=by
 have k1:w.key x=y.2.1:=by unfold Nw.key;rw[anE,hy];rfl
 have k2:w.seq x=y.2.2:=by unfold Nw.seq;rw[anE,hy];rfl
 have hs:=anI (l:=w.cs) (a:=(y.1,k,s)) (anA.1 hy).1
 have k3:(w.put x (y.1,k,s)).key x=k:=by unfold Nw.key Nw.put;simp only[anE];rw[hs];rfl
 have k4:(w.put x (y.1,k,s)).seq x=s:=by unfold Nw.seq Nw.put;simp only[anE];rw[hs];rfl
 have k5:(w.put x (y.1,k,s)).key z=w.key z:=by unfold Nw.key Nw.put;simp only[anE];rw[anH (Ne.symm hz)]
 have k6:(w.put x (y.1,k,s)).seq z=w.seq z:=by unfold Nw.seq Nw.put;simp only[anE];rw[anH (Ne.symm hz)]
 unfold aU at h ⊢
 rw[k3,k4,k5,k6]
 rw[k1,k2]at h
 simp only[decide_eq_false_iff_not,gW]at*
 omega
theorem Bs{H:Hp}{n:Nat}{S:Nat→Prop}{d st:Int}{w:Nw}(h:dm H n S d st w)(x k s:Int):ai Tryz.prog nA [ptr n,i64 x,wq k s] H fun v H'=>ay (
  (¬ (cZ w.cs x∧∀y,w.cs[x.toNat]? =some y→¬gW y.2.1 y.2.2 k s)∧v= .bool false∧dm H' n S d st w∧aq H H')∨
  (cZ w.cs x∧∃y,w.cs[x.toNat]? =some y∧¬gW y.2.1 y.2.2 k s∧v= .bool true∧∃q:Nat,(q:Int)≤nN d (w.len y.1 - 1)∧∃S',dm H' n S' d (min (st+q) 4611686018427387904) (w.put x (y.1,k,s))∧ah S H H'∧∀z,S' z→S z∨H.size≤z)):=by
 obtain⟨c,C,rv,fp,rs,m,l,hS⟩:=h
 refine ba xd ⟨rfl,?_⟩
 refine v1 gH.eq_1 ?_
 have f0:aq H (H.new 224 [i64 k,u64 s]):=(ah.refl _ _).new _ _
 have b0:(H.new 224 [i64 k,u64 s]).own H.size=some [i64 k,u64 s]:=aE _ _ _
 have m0:=m.ext f0 (fun _ _ h=>h)
 generalize H.new 224 [i64 k,u64 s]=H0 at*
 refine v2 (ae m0.own) (ae b0) ?_
 refine(lT m0.cells x k s).mono ?_
 rintro _ H1 (⟨cw,rfl,c1,e1⟩| ⟨bQ,rfl,y,hy,gk,c1,e1⟩)
 ·refine vs ?_
  exact .inl ⟨cw,rfl,⟨c,C,rv,fp,rs,m0.ext e1 (fun _ _ h=>h),l,hS⟩,f0.trans e1⟩
 have o1:=e1.own m0.own m.nC
 refine v1 (ae o1) ?_
 obtain⟨ik,y',No,jj⟩:=id bQ
 rw[hy]at No
 injection No with No
 subst No
 have cV:(w.put x (y.1,k,s)).cs[x.toNat]? =some (y.1,k,s):=anI (anA.1 hy).1
 have nU:∀z:Nat,z≠x.toNat→(w.put x (y.1,k,s)).cs[z]? =w.cs[z]? :=fun z hz=>anH (Ne.symm hz)
 have On:cZ (w.put x (y.1,k,s)).cs x:=⟨ik,_,cV,jj⟩
 refine(eU c1 x).mono ?_
 rintro _ H2 (⟨cw,_,_⟩| ⟨_,y2,Af,rfl,c2,e2⟩)
 ·exact absurd On cw
 rw[cV]at Af
 injection Af with Af
 subst Af
 have re:=e1.trans e2
 obtain⟨R,hR⟩:=(l.hs y.1.toNat).1 (m.cells.live _ (anG hy) jj)
 have BK:((y.1.toNat:Nat):Int)=y.1:=by omega
 have MA:∀ (h:Nat) Q,rs[h]? =some (some Q)→∀z:Int,z∈Q.l↔0≤z∧∃e,(w.put x (y.1,k,s)).cs[z.toNat]? =some (((h:Nat):Int),e):=fun h Q hQ z=>by
  rw[l.mem h Q hQ z]
  by_cases UY:z.toNat=x.toNat
  ·rw[UY,cV,hy]
   constructor
   ·rintro⟨z0,e,he⟩
    injection he with he
    exact⟨z0,(k,s),by rw[he]⟩
   ·rintro⟨z0,e,he⟩
    injection he with he
    injection he with Xr _
    exact⟨z0,y.2,by rw[←Xr]⟩
  ·rw[nU _ UY]
 have cj:=MA _ R hR
 have bv:=l.len _ R hR
 rw[BK]at cj bv
 have hxR:x∈R.l:=(cj x).2 ⟨ik,_,cV⟩
 have Ht:∀z∈R.l,cZ (w.put x (y.1,k,s)).cs z:=fun z hz=>by
  obtain⟨z0,e,he⟩:=(cj z).1 hz
  exact⟨z0,_,he,jj⟩
 have o2:=e2.own o1 m.nC
 have m2:vA H2 n c C rv fp d st (w.put x (y.1,k,s)) rs:=⟨o2,c2,m0.sl.ext re (fun b hb h=>(m.zH b hb).2 h),fun i R hR=>(m0.row i R hR).ext re (fun x hx=>(m.pP i R hR x hx).1),m.nC,m.zH,m.pP,m.sB⟩
 have aR:=(anA.1 hR).1
 obtain⟨b,o,c',lb,q1,q2,q3,q4⟩:=da.get m2.sl.rd (i:=y.1.toNat) (j:=0) (x:=ptr R.r) (by omega) (by simp[hR,We])
 subst q1
 have abe:=m.cells.st
 have zD:=m.cells.FM
 have ol:R.l.length≤65536:=by have:=(w.Bj y.1).2;omega
 refine v1 (ae o2) ?_
 refine⟨by omega,?_⟩
 refine v2 q2 (show lb[o+y.1.toNat*1]? =some (ptr R.r)from q4) ?_
 refine(FQ (Hu (c:=c) (rv:=.slice (some ⟨b,o,none⟩) rs.length c') (d:=d) (st:=st) (w:=w.put x (y.1,k,s)) m.nC) (m2.row _ R hR) (fun z hz ht=>?_) (n:=0) ⟨by rw[show min (st+((0:Nat):Int)) 4611686018427387904=st by omega];exact c2,o2⟩ x (by omega) (fun i hi=>by
  obtain⟨h1,h2⟩:=((l.ok _ R hR).pl x i).1 hi
  have:=(anA.1 h2).1
  exact⟨h1,by omega⟩) On Ht).mono ?_
 ·rcases ht with ht|ht
  ·exact(m.pP _ R hR z hz).1 ht
  ·exact(m.pP _ R hR z hz).2.1 ht
 rintro _ H3 (⟨hp,_,_⟩| ⟨i,hp,rfl,r3,⟨c3,o3⟩,e3⟩)
 ·exact absurd hp ((ci.mem (l.ok _ R hR) x).1 hxR)
 have Lv:∀z∈R.l,z≠x→z.toNat≠x.toNat:=fun z hz aS e=>by have:=((cj z).1 hz).1;omega
 obtain⟨p1,p2,p3,p4⟩:=ci.raise (au w) (au (w.put x (y.1,k,s))) l.Br (l.ok _ R hR) hp (fun a ha b hb tT oS=>jy w x _ (Lv a ha tT) (Lv b hb oS)) (fun z hz UY hl=>QJ w hy gk (Lv z hz UY) hl)
 generalize hU:gm (aU (w.put x (y.1,k,s))) d x i.toNat R.l R.pl i=U at*
 rw[anB]at c3
 refine vs ?_
 have qU:∀z,(R.S z∨C z∨z=n)→S z:=fun z hz=>(hS z).1 (by
  rcases hz with hz|hz|hz
  ·exact .inr (.inr (.inr ⟨_,R,hR,hz⟩))
  ·exact .inl hz
  ·exact .inr (.inl hz))
 have ce:∀ (h:Nat) Q,(rs.set y.1.toNat (some (⟨R.r,R.S,U.l,U.pl⟩:Rw)))[h]? =some (some Q)→(h=y.1.toNat∧Q=⟨R.r,R.S,U.l,U.pl⟩)∨(h≠y.1.toNat∧rs[h]? =some (some Q)):=fun h Q hQ=>by
  by_cases hh:h=y.1.toNat
  ·subst hh
   rw[anI aR]at hQ
   simp only[anK]at hQ
   exact .inl ⟨rfl,hQ.symm⟩
  ·rw[anH (Ne.symm hh)]at hQ
   exact .inr ⟨hh,hQ⟩
 have aS:∀ (h:Nat) Q,h≠y.1.toNat→rs[h]? =some (some Q)→∀z∈Q.l,z.toNat≠x.toNat:=fun h Q hh hQ z hz e=>by
  obtain⟨z0,e',he⟩:=(l.mem h Q hQ z).1 hz
  rw[e,hy]at he
  injection he with he
  rw[he]at hh
  simp only[Int.toNat_natCast]at hh
  exact hh rfl
 have hwl:∀h:Int,(w.put x (y.1,k,s)).len h=w.len h:=fun h=>by
  rw[Nw.iq hy h]
  simp only
  split<;>omega
 refine .inr ⟨bQ,y,hy,gk,rfl,U.asked,by rw[←bv];exact Int.ofNat_le.2 p4,E5 n C fp (rs.set y.1.toNat (some ⟨R.r,R.S,U.l,U.pl⟩)),
  ⟨c,C,_,fp,rs.set y.1.toNat (some ⟨R.r,R.S,U.l,U.pl⟩),m2.setRow hR (R':=⟨R.r,R.S,U.l,U.pl⟩) rfl r3 (fun z hz=>.inl hz) e3 (fun z hz=>?_) c3 o3,
   ⟨l.Br,by rw[anC];exact l.hl,fun h=>?_,?_,fun h Q hQ=>?_,fun h Q hQ z=>?_,fun h Q hQ=>?_⟩,fun z=>Iff.rfl⟩,?_,fun z hz=>?_⟩
 ·rcases hz with hz|hz|hz
  ·exact .inr (.inl hz)
  ·exact .inl hz
  ·exact .inr (.inr hz)
 ·show w.hs[h]? =some true↔_
  rw[l.hs h]
  by_cases Mz:h=y.1.toNat
  ·subst Mz
   rw[anI aR]
   exact⟨fun _=>⟨_,rfl⟩,fun _=>⟨R,hR⟩⟩
  ·rw[anH (Ne.symm Mz)]
 ·rw[anH (by omega)];exact l.h0
 ·rcases ce h Q hQ with ⟨rfl,rfl⟩| ⟨h5,h6⟩
  ·exact p1
  ·exact ci.congr l.Br (l.ok h Q h6) fun z hz v hv=>(jy w x _ (aS h Q h5 h6 z hz) (aS h Q h5 h6 v hv)).symm
 ·rcases ce h Q hQ with ⟨rfl,rfl⟩| ⟨h5,h6⟩
  ·rw[BK]
   show z∈U.l↔_
   rw[p2 z,cj z]
  ·exact MA h Q h6 z
 ·rw[hwl]
  rcases ce h Q hQ with ⟨rfl,rfl⟩| ⟨h5,h6⟩
  ·rw[BK]
   show(U.l.length:Int)=_
   omega
  ·exact l.len h Q h6
 ·exact(f0.mono fun _ _ h=>h.elim).trans ((re.mono fun z _ hz=>qU z (.inr (.inl hz))).trans (e3.mono fun z _ hz=>qU z hz))
 ·rcases hz with hz|rfl|hz| ⟨j,Q,hQ,hz⟩
  ·exact .inl (qU z (.inr (.inl hz)))
  ·exact .inl (qU z (.inr (.inr rfl)))
  ·exact .inl ((hS z).1 (.inr (.inr (.inl hz))))
  ·rcases ce j Q hQ with ⟨rfl,rfl⟩| ⟨h5,h6⟩
   ·exact .inl (qU z (.inl hz))
   ·exact .inl ((hS z).1 (.inr (.inr (.inr ⟨j,Q,h6,hz⟩))))
theorem Ow(n:Nat):zW (.iface 218 (ptr n)) (fun H S w=>∃st,dK H n S st w) where
 slt:=by rintro H S w ⟨st,h⟩;exact h.slt
 ext:=by rintro H H' S w T ⟨st,h⟩ e hd;exact⟨st,h.ext e hd⟩
 cells:=by
  rintro H S w ⟨st,c,C,rv,fr,fa,ps,at_,m,l,hS⟩
  exact⟨c,C,st,m.cells⟩
 has:=by
  rintro H S w g ⟨st,c,C,rv,fr,fa,ps,at_,m,l,hS⟩
  obtain⟨av,ho,_⟩:=m.own
  exact⟨_,_,bF,ptr c,rfl,hX (off:=0) (by kernel_rfl) (ae ho) rfl,(jx m.cells g).mono fun v H' hp=>hp⟩
 make:=by
  rintro H S w ⟨st,h⟩
  refine⟨_,_,sT,ptr n,rfl,bE (by kernel_rfl),(Hs h).mono ?_⟩
  rintro v H' (⟨h1,rfl,rfl⟩| ⟨h1,rfl,S',h2,h3,h4⟩)
  ·exact .inl ⟨h1,rfl,cD.same ⟨st,h⟩ (ah.refl _ _)⟩
  ·exact .inr ⟨h1,rfl,S',⟨_,h2⟩,h3,h4⟩
 insert:=by
  rintro H S w g x k s ⟨st,h⟩
  refine⟨_,_,qe,ptr n,rfl,bE (by kernel_rfl),(Eo h g x k s).mono ?_⟩
  rintro v H' (⟨h1,rfl,h2,h3⟩| ⟨h1,rfl,S',q,h2,_,h3,h4,h5⟩)
  ·exact .inl ⟨h1,rfl,cD.same ⟨st,h2⟩ h3⟩
  ·exact .inr ⟨h1,rfl,S',⟨_,h3⟩,h4,h5⟩
 min:=by
  rintro H S w g ⟨st,h⟩
  refine⟨_,_,vk,ptr n,rfl,bE (by kernel_rfl),(zX h g).mono ?_⟩
  rintro v H' ⟨h1,rfl⟩
  rcases h1 with ⟨h1,rfl⟩| ⟨x,h2,rfl⟩
  ·exact .inl ⟨h1,rfl,cD.same ⟨st,h⟩ (ah.refl _ _)⟩
  ·exact .inr ⟨x,h2,rfl,cD.same ⟨st,h⟩ (ah.refl _ _)⟩
 extract:=by
  rintro H S w g ⟨st,h⟩
  refine⟨_,_,pq,ptr n,rfl,bE (by kernel_rfl),(CX h g).mono ?_⟩
  rintro v H' (⟨h1,rfl,rfl⟩| ⟨x,h1,rfl,q,hq,S',h5,h6,h7⟩)
  ·exact .inl ⟨h1,rfl,cD.same ⟨st,h⟩ (ah.refl _ _)⟩
  ·exact .inr ⟨x,h1,rfl,S',⟨_,h5⟩,h6,h7⟩
 qG:=by
  rintro H S w x k s ⟨st,h⟩
  refine⟨_,_,nG,ptr n,rfl,bE (by kernel_rfl),(Bq h x k s).mono ?_⟩
  rintro v H' (⟨h1,rfl,h2,h3⟩| ⟨h1,y,hy,h2,rfl,q,hq,S',h3,h4,h5⟩)
  ·exact .inl ⟨h1,rfl,cD.same ⟨st,h2⟩ (h3.mono fun _ _ h=>h.elim)⟩
  ·exact .inr ⟨⟨h1,fun z hz=>by rw[hy]at hz;injection hz with hz;rw[←hz];exact h2⟩,rfl,y,hy,S',⟨_,h3⟩,h4,h5⟩
 entry:=by
  rintro H S w x ⟨st,h⟩
  obtain⟨c,C,rv,fr,fa,ps,at_,m,l,hS⟩:=id h
  obtain⟨av,ho,_⟩:=m.own
  refine⟨_,_,bj,ptr c,rfl,hX (off:=0) (by kernel_rfl) (ae ho) rfl,(lS m.cells x).mono ?_⟩
  rintro v H' ⟨_,f,hv⟩
  exact⟨⟨st,h.fresh f⟩,f,hv⟩
theorem Bu(n:Nat)(d:Int):zW (.iface 194 (ptr n)) (fun H S w=>∃st,dm H n S d st w) where
 slt:=by rintro H S w ⟨st,h⟩;exact h.slt
 ext:=by rintro H H' S w T ⟨st,h⟩ e hd;exact⟨st,h.ext e hd⟩
 cells:=by
  rintro H S w ⟨st,c,C,rv,fp,rs,m,l,hS⟩
  exact⟨c,C,st,m.cells⟩
 has:=by
  rintro H S w g ⟨st,c,C,rv,fp,rs,m,l,hS⟩
  exact⟨_,_,bF,ptr c,rfl,hX (off:=0) (by kernel_rfl) (ae m.own) rfl,(jx m.cells g).mono fun v H' hp=>hp⟩
 make:=by
  rintro H S w ⟨st,h⟩
  refine⟨_,_,sR,ptr n,rfl,bE (by kernel_rfl),(Hv h).mono ?_⟩
  rintro v H' (⟨h1,rfl,rfl⟩| ⟨h1,rfl,S',h2,h3,h4⟩)
  ·exact .inl ⟨h1,rfl,cD.same ⟨st,h⟩ (ah.refl _ _)⟩
  ·exact .inr ⟨h1,rfl,S',⟨_,h2⟩,h3,h4⟩
 insert:=by
  rintro H S w g x k s ⟨st,h⟩
  refine⟨_,_,pZ,ptr n,rfl,bE (by kernel_rfl),(Es h g x k s).mono ?_⟩
  rintro v H' (⟨h1,rfl,h2,h3⟩| ⟨h1,rfl,S',q,h2,_,h3,h4,h5⟩)
  ·exact .inl ⟨h1,rfl,cD.same ⟨st,h2⟩ h3⟩
  ·exact .inr ⟨h1,rfl,S',⟨_,h3⟩,h4,h5⟩
 min:=by
  rintro H S w g ⟨st,h⟩
  refine⟨_,_,vi,ptr n,rfl,bE (by kernel_rfl),(zY h g).mono ?_⟩
  rintro v H' ⟨h1,rfl⟩
  have hn:=cD.same (I:=fun H S w=>∃st,dm H n S d st w) ⟨st,h⟩ (ah.refl S H)
  obtain⟨c,C,rv,fp,rs,m,l,hS⟩:=h
  rcases h1 with ⟨h1,rfl⟩| ⟨h1,h2,rfl⟩| ⟨h1,x,h2,h3,rfl,h4⟩
  ·refine .inl ⟨Nw.I9.2 ?_,rfl,hn⟩
   by_cases hg:g≤0
   ·exact .inl hg
   ·refine .inr fun i c hc e=>h1 ⟨by omega,?_⟩
    have:=m.cells.live c (anG hc) (by omega)
    rwa[e]at this
  ·exact .inl ⟨h2,rfl,hn⟩
  ·exact .inr ⟨x,⟨by have:=h1.1;omega,h2.1,h3,h4⟩,rfl,hn⟩
 extract:=by
  rintro H S w g ⟨st,h⟩
  refine⟨_,_,o9,ptr n,rfl,bE (by kernel_rfl),(CY h g).mono ?_⟩
  rintro v H' (⟨h1,rfl,rfl⟩| ⟨h1,x,h2,h3,h4,rfl,q,hq,S',h5,h6,h7⟩)
  ·have hn:=cD.same (I:=fun H S w=>∃st,dm H n S d st w) ⟨st,h⟩ (ah.refl S H)
   obtain⟨c,C,rv,fp,rs,m,l,hS⟩:=h
   rcases h1 with h1| ⟨_,h1⟩
   ·refine .inl ⟨Nw.I9.2 ?_,rfl,hn⟩
    by_cases hg:g≤0
    ·exact .inl hg
    ·refine .inr fun i c hc e=>h1 ⟨by omega,?_⟩
     have:=m.cells.live c (anG hc) (by omega)
     rwa[e]at this
   ·exact .inl ⟨h1,rfl,hn⟩
  ·exact .inr ⟨x,⟨by have:=h1.1;omega,h2.1,h3,h4⟩,rfl,S',⟨_,h5⟩,h6,h7⟩
 qG:=by
  rintro H S w x k s ⟨st,h⟩
  refine⟨_,_,nA,ptr n,rfl,bE (by kernel_rfl),(Bs h x k s).mono ?_⟩
  rintro v H' (⟨h1,rfl,h2,h3⟩| ⟨h1,y,hy,h2,rfl,q,hq,S',h3,h4,h5⟩)
  ·exact .inl ⟨h1,rfl,cD.same ⟨st,h2⟩ (h3.mono fun _ _ h=>h.elim)⟩
  ·exact .inr ⟨⟨h1,fun z hz=>by rw[hy]at hz;injection hz with hz;rw[←hz];exact h2⟩,rfl,y,hy,S',⟨_,h3⟩,h4,h5⟩
 entry:=by
  rintro H S w x ⟨st,h⟩
  obtain⟨c,C,rv,fp,rs,m,l,hS⟩:=id h
  refine⟨_,_,bj,ptr c,rfl,hX (off:=0) (by kernel_rfl) (ae m.own) rfl,(lS m.cells x).mono ?_⟩
  rintro v H' ⟨_,f,hv⟩
  exact⟨⟨st,h.fresh f⟩,f,hv⟩
structure hZ(H:Hp)(r nb pb:Nat)(N P:List Int):Prop where
 own:H.own r=some [.slice (some ⟨nb,0,none⟩) N.length N.length,.slice (some ⟨pb,0,none⟩) P.length P.length]
 PJ:H.own nb=some (N.map i64)
 Wg:H.own pb=some (P.map i64)
 len:P.length=N.length
 ne:r≠nb∧r≠pb∧nb≠pb
def cr(N:List Int)(x:Int):Int:=if 0≤x∧x<N.length then N.getD x.toNat 0 else x
theorem Hw{N:List Int}{x:Int}(hx:0≤x∧x<N.length):N[x.toNat]? =some (cr N x):=by
 unfold cr
 rw[if_pos hx,anE]
 obtain⟨y,hy⟩:∃y,N[x.toNat]? =some y:=⟨_,anx (by omega)⟩
 rw[hy];rfl
theorem Xx{N:List Int}{x:Int}(hx:¬ (0≤x∧x<N.length)):cr N x=x:=by unfold cr;rw[if_neg hx]
theorem Gl{N:List Int}{x:Int}(hx:0≤x∧x<N.length)(v z:Int):cr (N.set x.toNat v) z=if z=x then v else cr N z:=by
 unfold cr
 rw[anC]
 by_cases hz:z=x
 ·rw[if_pos hz,hz,if_pos hx,anE,anI (by omega)];rfl
 ·rw[if_neg hz]
  split
  ·rw[anE,anH (by omega),anE]
  ·rfl
theorem Ox{N P:List Int}(h:BS (cr N) (cr P)){x:Int}(hx:0≤x∧x<N.length):0≤cr N x∧cr N x<N.length:=by
 apply anX
 intro hn
 have h1:=Xx hn
 have h2:cr N x=x:=by
  have:=h.pn (cr N x)
  rw[h1]at this
  have h3:=h.pn x
  rw[this]at h3
  exact h3
 rw[h2]at hn
 exact hn hx
section
variable {H H' : Hp} {r nb pb : Nat} {N P : List Int} {T : Nat → Prop}
theorem hZ.ext(h:hZ H r nb pb N P)(e:ah T H H')(h1:¬T r)(h2:¬T nb)(h3:¬T pb):hZ H' r nb pb N P:=⟨e.own h.own h1,e.own h.PJ h2,e.own h.Wg h3,h.len,h.ne⟩
theorem jr(h:hZ H r nb pb N P)(x:Int):ai Tryz.prog DF [ptr r,i64 x] H fun v H'=>ay (v= .bool (decide (0≤x∧x<N.length))∧H'=H):=by
 refine ba DT ⟨rfl,?_⟩
 refine v1 mQ.eq_1 ?_
 refine am.dec (fun h0=>?_) (fun h0=>?_)<;>refine v1 (ae h.own) ?_
 ·refine⟨?_,rfl⟩
  rw[show(decide (0≤x∧x< (N.length:Int)))=decide (x< (N.length:Int)) by simp[h0]]
  rfl
 ·refine⟨?_,rfl⟩
  rw[anU (fun h=>h0 h.1)]
  rfl
theorem Hx(h:hZ H r nb pb N P){x:Int}(hx:0≤x∧x<N.length):ai Tryz.prog B5 [ptr r,i64 x] H fun v H'=>ay (v= .tuple [i64 (cr N x),.bool true].toArray∧H'=H):=by
 refine ba Cq ⟨rfl,?_⟩
 refine v1 lG.eq_1 ?_
 refine(jr h x).mono ?_
 rintro _ H' ⟨rfl,e⟩
 obtain rfl:=e.symm
 rw[anQ hx]
 have hn:(N.map i64)[x.toNat]? =some (i64 (cr N x)):=by rw[anT,Hw hx];rfl
 refine v1 (ae h.own) ?_
 refine⟨⟨by omega,by omega⟩,?_⟩
 refine v4 (ae h.PJ) anB anD hn ?_
 exact⟨rfl,rfl⟩
set_option maxHeartbeats 1000000 in
theorem dE(h:hZ H r nb pb N P)(hi:BS (cr N) (cr P)){x y:Int}(hx:0≤x∧x<N.length)(hy:0≤y∧y<N.length):ai Tryz.prog yQ [ptr r,i64 x,i64 y] H fun v H'=>ay (v= .bool true∧
  ∃N' P',hZ H' r nb pb N' P'∧N'.length=N.length∧cr N'=Ag (cr N) x y∧BS (cr N') (cr P')∧ah (fun z=>z=nb∨z=pb) H H'):=by
 refine ba zu ⟨rfl,?_⟩
 refine v1 iT.eq_1 ?_
 refine(jr h x).mono ?_
 rintro _ H' ⟨rfl,e⟩
 obtain rfl:=e.symm
 rw[anQ hx]
 refine vs ?_
 refine(jr h y).mono ?_
 rintro _ H' ⟨rfl,e⟩
 obtain rfl:=e.symm
 rw[anQ hy]
 have KG:(N.map i64)[x.toNat]? =some (i64 (cr N x)):=by rw[anT,Hw hx];rfl
 have hny:(N.map i64)[y.toNat]? =some (i64 (cr N y)):=by rw[anT,Hw hy];rfl
 obtain⟨a0,a1⟩:=Ox hi hx
 obtain⟨b0,b1⟩:=Ox hi hy
 obtain⟨d1,d2,d3⟩:=h.ne
 have hl:=h.len
 refine v1 (ae h.own) ?_
 refine⟨⟨by omega,by omega⟩,?_⟩
 refine v5 (ae h.PJ) (ae h.own) anB anD KG ?_
 refine⟨⟨by omega,by omega⟩,?_⟩
 refine v5 (ae h.PJ) (ae h.own) anB anD hny ?_
 refine⟨⟨by omega,by omega⟩,?_⟩
 refine v3 h.PJ anB anD ?_
 refine⟨by rw[anW];omega,?_⟩
 refine vs ?_
 have e1:ah (fun z=>z=nb) H (H.wr nb ((N.map i64).set x.toNat (i64 (cr N y)))):=(ah.refl (fun z=>z=nb) _).wr (fun _=>rfl) _
 have q1:(H.wr nb ((N.map i64).set x.toNat (i64 (cr N y)))).own nb=some ((N.map i64).set x.toNat (i64 (cr N y))):=aj h.PJ
 generalize H.wr nb ((N.map i64).set x.toNat (i64 (cr N y)))=H1 at*
 refine⟨⟨by omega,by omega⟩,?_⟩
 refine v3 q1 anB anD ?_
 refine⟨by rw[anC,anW];omega,?_⟩
 refine vs ?_
 have e2:ah (fun z=>z=nb) H1 (H1.wr nb (((N.map i64).set x.toNat (i64 (cr N y))).set y.toNat (i64 (cr N x)))):=(ah.refl (fun z=>z=nb) _).wr (fun _=>rfl) _
 have q2:(H1.wr nb (((N.map i64).set x.toNat (i64 (cr N y))).set y.toNat (i64 (cr N x)))).own nb=some (((N.map i64).set x.toNat (i64 (cr N y))).set y.toNat (i64 (cr N x))):=aj q1
 generalize H1.wr nb (((N.map i64).set x.toNat (i64 (cr N y))).set y.toNat (i64 (cr N x)))=H2 at*
 have re:=e1.trans e2
 have o2:=re.own h.own d1
 have p2:=re.own h.Wg (Ne.symm d3)
 have o1:=e1.own h.own d1
 refine v2 (ae o1) (ae o2) ?_
 refine⟨⟨by omega,by omega⟩,?_⟩
 refine v3 p2 anB anD ?_
 refine⟨by rw[anW];omega,?_⟩
 refine vs ?_
 have e3:ah (fun z=>z=pb) H2 (H2.wr pb ((P.map i64).set (cr N y).toNat (i64 x))):=(ah.refl (fun z=>z=pb) _).wr (fun _=>rfl) _
 have q3:(H2.wr pb ((P.map i64).set (cr N y).toNat (i64 x))).own pb=some ((P.map i64).set (cr N y).toNat (i64 x)):=aj p2
 generalize H2.wr pb ((P.map i64).set (cr N y).toNat (i64 x))=H3 at*
 refine⟨⟨by omega,by omega⟩,?_⟩
 refine v3 q3 anB anD ?_
 refine⟨by rw[anC,anW];omega,?_⟩
 refine vs ?_
 have e4:ah (fun z=>z=pb) H3 (H3.wr pb (((P.map i64).set (cr N y).toNat (i64 x)).set (cr N x).toNat (i64 y))):=(ah.refl (fun z=>z=pb) _).wr (fun _=>rfl) _
 have q4:(H3.wr pb (((P.map i64).set (cr N y).toNat (i64 x)).set (cr N x).toNat (i64 y))).own pb=some (((P.map i64).set (cr N y).toNat (i64 x)).set (cr N x).toNat (i64 y)):=aj q3
 have Xy:=e3.trans e4
 have nf:cr ((N.set x.toNat (cr N y)).set y.toNat (cr N x))=Ag (cr N) x y:=by
  funext z
  rw[Gl (by rw[anC];exact hy),Gl hx]
  unfold Ag
  by_cases h1:z=x
  ·rw[if_pos h1]
   by_cases h2:z=y
   ·rw[if_pos h2,←h2,h1];simp
   ·rw[if_neg h2,if_pos h1]
  ·rw[if_neg h1,if_neg h1]
 have pf:cr ((P.set (cr N y).toNat x).set (cr N x).toNat y)=Uv (cr N) (cr P) x y:=by
  funext z
  rw[Gl (by rw[anC];omega),Gl (by omega)]
  rfl
 refine⟨rfl,(N.set x.toNat (cr N y)).set y.toNat (cr N x),(P.set (cr N y).toNat x).set (cr N x).toNat y,⟨?_,?_,?_,by simp[hl],h.ne⟩,by simp,nf,?_,(re.mono fun z _ h=>.inl h).trans (Xy.mono fun z _ h=>.inr h)⟩
 ·rw[anC,anC,anC,anC]
  exact Xy.own o2 d2
 ·rw[aoo,aoo]
  exact Xy.own q2 d3
 ·rw[aoo,aoo]
  exact q4
 ·rw[nf,pf]
  exact hi.Ag x y
theorem qK(h:hZ H r nb pb N P)(hi:BS (cr N) (cr P)){x:Int}(hx:0≤x∧x<N.length):ai Tryz.prog B4 [ptr r,i64 x] H fun v H'=>ay (v= .bool true∧
  ∃N' P',hZ H' r nb pb N' P'∧N'.length=N.length∧cr N'=Ag (cr N) x (cr P x)∧BS (cr N') (cr P')∧ah (fun z=>z=nb∨z=pb) H H'):=by
 have oq:BS (cr P) (cr N):=⟨hi.np,hi.pn⟩
 have hl:=h.len
 have ec:=Ox oq (x:=x) (by omega)
 have hp:(P.map i64)[x.toNat]? =some (i64 (cr P x)):=by rw[anT,Hw (by omega)];rfl
 refine ba Cp ⟨rfl,?_⟩
 refine v1 lF.eq_1 ?_
 refine(jr h x).mono ?_
 rintro _ H' ⟨rfl,e⟩
 obtain rfl:=e.symm
 rw[anQ hx]
 refine v1 (ae h.own) ?_
 refine⟨⟨by omega,by omega⟩,?_⟩
 refine v4 (ae h.Wg) anB anD hp ?_
 refine(dE h hi hx (y:=cr P x) (by omega)).mono ?_
 rintro _ H1 ⟨rfl,h1⟩
 refine vs ?_
 exact⟨rfl,h1⟩
theorem sD(h:hZ H r nb pb N P){x:Int}{A:List Int}(hc:yg (cr N) (x::A))(hn:(x::A).Nodup)(hx:∀c∈x::A,0≤c∧c<N.length)(hN:N.length≤65536):ai Tryz.prog DE [ptr r,i64 x] H fun v H'=>ay (∃b,
  Sl H' 1 v (x::A).length ((x::A).map i64) (some b)∧H.size≤b∧aq H H'):=by
 have ik:=hx x (by simp)
 have bv:=bV hn hx
 have fH:r<H.size∧nb<H.size∧pb<H.size:=⟨aG h.own,aG h.PJ,aG h.Wg⟩
 have rdn:∀ {z:Int},0≤z∧z<N.length→(N.map i64)[z.toNat]? =some (i64 (cr N z)):=fun hz=>by rw[anT,Hw hz];rfl
 refine ba DS ⟨rfl,?_⟩
 refine v1 mP.eq_1 ?_
 refine(jr h x).mono ?_
 rintro _ H' ⟨rfl,e⟩
 obtain rfl:=e.symm
 rw[anQ ik]
 refine vs ?_
 have f0:aq H (H.new 3 [i64 x]):=(ah.refl _ _).new _ _
 have s0:Sl (H.new 3 [i64 x]) 1 (.slice (some ⟨H.size,0,none⟩) 1 1) [x].length ([x].map i64) (some H.size):=Sl.dw (size:=1) (n:=1) (xs:=[i64 x]) rfl rfl
 have h0:=h.ext f0 (fun h=>h) (fun h=>h) (fun h=>h)
 generalize H.new 3 [i64 x]=H0 at*
 refine v2 (ae h0.own) (ae h.own) ?_
 refine⟨⟨by omega,by omega⟩,?_⟩
 refine v5 (ae h0.PJ) (ae h.PJ) anB anD (rdn ik) ?_
 have hp:pH (cr N) x A x:=hc
 have hd:∀ {a z:Int} {l:List Int},pH (cr N) a l z→cr N a=l.headD z:=fun{a z l} h=>by
  cases l with
  |nil=>exact h
  |cons b l=>exact h.1
 refine bA.intro (fun mm env H'=>∃ (d s:List Int) (wv:Value) (b:Nat),mm=s.length∧A=d++s∧hZ H' r nb pb N P∧H.size≤b∧Sl H' 1 wv (x::d).length ((x::d).map i64) (some b)∧ah (fun z=>H.size≤z) H H'∧
  env=[(0,ptr r),(1,i64 x),(5,wv),(6,i64 (s.headD x))]) _ ⟨[],A,_,H.size,rfl,rfl,h0,anO _,s0,f0.mono fun _ _ h=>h.elim,by rw[hd hp]⟩ ?_
 rintro mm env H1 ⟨d,s,wv,b,rfl,Zo,h1,hb,s1,e1,rfl⟩
 have z1:=e1.size
 refine vs ?_
 cases s with
 |nil=>
  refine am.dec (fun _=>?_) (fun h=>absurd rfl h)
  refine vs ?_
  rw[aow]at Zo
  subst Zo
  exact⟨b,s1,hb,e1.mono fun z hz h=>by omega⟩
 |cons c s=>
  have JL:c∈A:=by rw[Zo];simp
  have je:=hx c (aom _ JL)
  have QK:c≠x:=fun e=>(anV.1 hn).1 (by rw[←e];exact JL)
  have ol:d.length+(s.length+1)=A.length:=by rw[Zo,anL,anY]
  rw[anY]at bv
  refine am.dec (fun h=>absurd h QK) (fun _=>?_)
  refine vs ?_
  refine aaM (B:=H.size) hb (by omega) s1 c (by rw[anY];omega) fun w' H2 b' rR s2 e2=>?_
  refine vs ?_
  have h2:=h1.ext e2 (by omega) (by omega) (by omega)
  simp(disch:=(first|omega| (simp only[Zs]<;>omega)|fail)) only[go_sem, ↓reduceIte,Zv,ae h2.own,List.headD_cons]
  refine⟨⟨by omega,by omega⟩,?_⟩
  refine v4 (ae h2.PJ) anB anD (rdn je) ?_
  have KG:cr N c=s.headD x:=hd (pH.Y6.1 (by rw[←Zo];exact hp)).2
  exact⟨s.length,by simp,d++[c],s,w',b',rfl,by rw[Zo];simp,h2,rR,s2,e1.trans e2,by rw[KG]⟩
end
end Go.Proofs.YtjlnnljohemifaaGreat

namespace Go.Proofs.YtjlnnljohemifaaGreat
open Go Go.Vc
structure Pc where
 u:Int
 k:Int
 d:Int
 m:Bool
def PK(y:Pc):List Value:=[i64 y.u,i64 y.k,i64 y.d,.bool y.m]
def aO(L:List Pc):List Value:=L.flatMap PK
theorem Oy(L:List Pc):(aO L).length=L.length*4:=by
 induction L with
 |nil=>rfl
 |cons c r ih=>simp only[aO,aps,anL,PK,anY,aoF]at*;omega
theorem abf{L:List Pc}{i:Nat}{y:Pc}(hi:L[i]? =some y):(aO L)[i*4]? =some (i64 y.u)∧(aO L)[i*4+1]? =some (i64 y.k)∧(aO L)[i*4+2]? =some (i64 y.d)∧(aO L)[i*4+3]? =some (.bool y.m):=by
 induction L generalizing i with
 |nil=>simp at hi
 |cons a r ih=>
  have e:aO (a::r)=i64 a.u::i64 a.k::i64 a.d:: .bool a.m::aO r:=rfl
  rw[e]
  cases i with
  |zero=>simp at hi;subst hi;exact⟨rfl,rfl,rfl,rfl⟩
  |succ i=>
   have:=ih (by simpa using hi)
   rw[show(i+1)*4=i*4+4 by omega]
   exact this
theorem qL{L:List Pc}{i:Nat}{y:Pc}(hi:L[i]? =some y):(∀v,(aO L).set (i*4) (i64 v)=aO (L.set i ⟨v,y.k,y.d,y.m⟩))∧(∀v,(aO L).set (i*4+1) (i64 v)=aO (L.set i ⟨y.u,v,y.d,y.m⟩))∧
  (∀v,(aO L).set (i*4+2) (i64 v)=aO (L.set i ⟨y.u,y.k,v,y.m⟩))∧(∀v,(aO L).set (i*4+3) (.bool v)=aO (L.set i ⟨y.u,y.k,y.d,v⟩))∧
  (∀z:Pc,bk (aO L) (i*4) [i64 z.u,i64 z.k,i64 z.d,.bool z.m]=aO (L.set i z)):=by
 induction L generalizing i with
 |nil=>simp at hi
 |cons a r ih=>
  have e:aO (a::r)=i64 a.u::i64 a.k::i64 a.d:: .bool a.m::aO r:=rfl
  cases i with
  |zero=>simp at hi;subst hi;exact⟨fun _=>rfl,fun _=>rfl,fun _=>rfl,fun _=>rfl,fun _=>rfl⟩
  |succ i=>
   obtain⟨h1,h2,h3,h4,h5⟩:=ih (by simpa using hi)
   have e2:∀z:Pc,aO ((a::r).set (i+1) z)=i64 a.u::i64 a.k::i64 a.d:: .bool a.m::aO (r.set i z):=fun _=>rfl
   refine⟨fun v=>?_,fun v=>?_,fun v=>?_,fun v=>?_,fun z=>?_⟩
   ·rw[e,e2,show(i+1)*4=i*4+1+1+1+1 by omega]
    simp only[aop]
    rw[h1]
   ·rw[e,e2,show(i+1)*4+1=i*4+1+1+1+1+1 by omega]
    simp only[aop]
    rw[h2]
   ·rw[e,e2,show(i+1)*4+2=i*4+2+1+1+1+1 by omega]
    simp only[aop]
    rw[h3]
   ·rw[e,e2,show(i+1)*4+3=i*4+3+1+1+1+1 by omega]
    simp only[aop]
    rw[h4]
   ·have h5:=h5 z
    simp only[bk]at h5 ⊢
    rw[e,e2,show(i+1)*4=i*4+1+1+1+1 by omega]
    simp only[aop]
    rw[h5]
def ry:Pc:=⟨-1, -1,0,false⟩
def eY(L:List Pc)(x:Int):Pc:=if 0≤x then(L[x.toNat]?).getD ry else ry
theorem Hy{L:List Pc}{x:Int}{y:Pc}(h0:0≤x)(h:L[x.toNat]? =some y):eY L x=y:=by unfold eY;rw[if_pos h0,h];rfl
def pQ(f:Int→Pc)(x:Int)(y:Pc):Int→Pc:=fun z=>if z=x then y else f z
theorem CZ{L:List Pc}{x:Int}(hx:0≤x∧x<L.length)(y:Pc):eY (L.set x.toNat y)=pQ (eY L) x y:=by
 funext z
 show eY (L.set x.toNat y) z=if z=x then y else eY L z
 by_cases hz:z=x
 ·rw[if_pos hz,hz]
  unfold eY
  rw[if_pos hx.1,anI (by omega)];rfl
 ·rw[if_neg hz]
  unfold eY
  split
  ·rw[anH (by omega)]
  ·rfl
structure FB where
 n:Nat
 c:Nat
 r:Nat
 nb:Nat
 pb:Nat
 tb:Nat
 tp:Nat
def FB.S(B:FB)(C:Nat→Prop)(z:Nat):Prop:=C z∨z=B.n∨z=B.r∨z=B.nb∨z=B.pb∨z=B.tb∨z=B.tp
structure bX(H:Hp)(B:FB)(C:Nat→Prop)(w:Nw)(N P:List Int)(L:List Pc)(tops:List Int):Prop where
 own:∃tv,H.own B.n=some [ptr B.c,ptr B.r,.slice (some ⟨B.tb,0,none⟩) L.length L.length,tv]∧Sl H 1 tv tops.length (tops.map i64) (some B.tp)
 cells:CQ H B.c C w
 ring:hZ H B.r B.nb B.pb N P
 inv:BS (cr N) (cr P)
 places:H.own B.tb=some (aO L)
 len:L.length=w.cs.length∧N.length=w.cs.length
 rl:(B.n≠B.r∧B.n≠B.nb∧B.n≠B.pb∧B.n≠B.tb∧B.n≠B.tp)∧(B.tb≠B.r∧B.tb≠B.nb∧B.tb≠B.pb∧B.tb≠B.tp)∧(B.tp≠B.r∧B.tp≠B.nb∧B.tp≠B.pb)
 out:¬C B.n∧¬C B.r∧¬C B.nb∧¬C B.pb∧¬C B.tb∧¬C B.tp
section
variable {H H' : Hp} {B : FB} {C V : Nat → Prop} {w w' : Nw} {N P N' P' : List Int} {L L' : List Pc} {tops : List Int}
theorem bX.slt(h:bX H B C w N P L tops):∀z,B.S C z→z<H.size:=by
 obtain⟨tv,h1,h2⟩:=h.own
 rintro z (hz|rfl|rfl|rfl|rfl|rfl|rfl)
 ·exact h.cells.slt z hz
 ·exact aG h1
 ·exact aG h.ring.own
 ·exact aG h.ring.PJ
 ·exact aG h.ring.Wg
 ·exact aG h.places
 ·exact h2.lt
theorem bX.ext(h:bX H B C w N P L tops)(e:ah V H H')(hd:∀z,B.S C z→¬V z):bX H' B C w N P L tops:=by
 obtain⟨tv,h1,h2⟩:=h.own
 exact⟨⟨tv,e.own h1 (hd _ (.inr (.inl rfl))),h2.ext e (fun b hb=>by injection hb with hb;exact hb▸hd _ (.inr (.inr (.inr (.inr (.inr (.inr rfl)))))))⟩,h.cells.ext e (fun x hx=>hd x (.inl hx)),
  h.ring.ext e (hd _ (.inr (.inr (.inl rfl)))) (hd _ (.inr (.inr (.inr (.inl rfl))))) (hd _ (.inr (.inr (.inr (.inr (.inl rfl)))))),h.inv,e.own h.places (hd _ (.inr (.inr (.inr (.inr (.inr (.inl rfl))))))),h.len,h.rl,h.out⟩
theorem bX.fresh(h:bX H B C w N P L tops)(e:aq H H'):bX H' B C w N P L tops:=h.ext e fun _ _ h=>h
theorem bX.aN(h:bX H B C w N P L tops)(c1:CQ H' B.c C w')(e:ah C H H')(hl:w'.cs.length=w.cs.length):bX H' B C w' N P L tops:=by
 obtain⟨tv,h1,h2⟩:=h.own
 obtain⟨o1,o2,o3,o4,o5,o6⟩:=h.out
 exact⟨⟨tv,e.own h1 o1,h2.ext e (fun b hb=>by injection hb with hb;exact hb▸o6)⟩,c1,h.ring.ext e o2 o3 o4,h.inv,e.own h.places o5,by rw[hl];exact h.len,h.rl,h.out⟩
theorem bX.xN(h:bX H B C w N P L tops)(r1:hZ H' B.r B.nb B.pb N' P')(hi:BS (cr N') (cr P'))(e:ah (fun z=>z=B.nb∨z=B.pb) H H')(hl:N'.length=N.length):bX H' B C w N' P' L tops:=by
 obtain⟨tv,h1,h2⟩:=h.own
 obtain⟨o1,o2,o3,o4,o5,o6⟩:=h.out
 obtain⟨⟨d1,d2,d3,d4,d5⟩,⟨d6,d7,d8,d9⟩,⟨d10,d11,d12⟩⟩:=h.rl
 exact⟨⟨tv,e.own h1 (by omega),h2.ext e (fun b hb=>by injection hb with hb;omega)⟩,h.cells.ext e (fun x hx hz=>by rcases hz with hz|hz;exact o3 (hz▸hx);exact o4 (hz▸hx)),r1,hi,e.own h.places (by omega),by rw[hl];exact h.len,h.rl,h.out⟩
theorem bX.SZ(h:bX H B C w N P L tops)(hl:L'.length=L.length):bX (H.wr B.tb (aO L')) B C w N P L' tops∧ah (fun z=>z=B.tb) H (H.wr B.tb (aO L')):=by
 obtain⟨tv,h1,h2⟩:=h.own
 obtain⟨o1,o2,o3,o4,o5,o6⟩:=h.out
 obtain⟨⟨d1,d2,d3,d4,d5⟩,⟨d6,d7,d8,d9⟩,⟨d10,d11,d12⟩⟩:=h.rl
 have e:ah (fun z=>z=B.tb) H (H.wr B.tb (aO L')):=(ah.refl (fun z=>z=B.tb) _).wr (fun _=>rfl) _
 exact⟨⟨⟨tv,by rw[hl];exact e.own h1 d4,h2.ext e (fun b hb=>by injection hb with hb;omega)⟩,h.cells.ext e (fun x hx hz=>o5 (hz▸hx)),h.ring.ext e (Ne.symm d6) (Ne.symm d7) (Ne.symm d8),h.inv,aj h.places,by rw[hl];exact h.len,h.rl,h.out⟩,e⟩
theorem bX.hG(h:bX H B C w N P L tops):∃c l,H.own B.n=some [ptr B.c,ptr B.r,.slice (some ⟨B.tb,0,none⟩) L.length L.length,.slice (some ⟨B.tp,0,none⟩) tops.length c]∧H.own B.tp=some l∧tops.length≤c∧c≤l.length∧l.take tops.length=tops.map i64:=by
 obtain⟨tv,h1,_,l,c,rfl,h3,h4,h5,h6⟩:=h.own
 rw[anD]at h5 h6
 exact⟨c,l,h1,h3,h4,h5,h6⟩
theorem bX.fB(h:bX H B C w N P L tops){l:List Value}(hl:H.own B.tp=some l){i:Nat}{x:Int}(hx:tops[i]? =some x):l[i]? =some (i64 x):=by
 obtain⟨c,l',_,h2,_,_,h5⟩:=h.hG
 rw[hl]at h2
 injection h2 with h2
 subst h2
 have h7:(tops.map i64)[i]? =some (i64 x):=by rw[anT,hx];rfl
 rw[←h5,aob]at h7
 split at h7
 ·exact h7
 ·cases h7
theorem bX.nS(h:bX H B C w N P L tops){l:List Value}(hl:H.own B.tp=some l)(i:Nat)(v:Int):bX (H.wr B.tp (l.set i (i64 v))) B C w N P L (tops.set i v)∧ah (fun z=>z=B.tp) H (H.wr B.tp (l.set i (i64 v))):=by
 obtain⟨c,l',h1,h2,h3,h4,h5⟩:=h.hG
 rw[hl]at h2
 injection h2 with h2
 subst h2
 obtain⟨o1,o2,o3,o4,o5,o6⟩:=h.out
 obtain⟨⟨d1,d2,d3,d4,d5⟩,⟨d6,d7,d8,d9⟩,⟨d10,d11,d12⟩⟩:=h.rl
 have e:ah (fun z=>z=B.tp) H (H.wr B.tp (l.set i (i64 v))):=(ah.refl (fun z=>z=B.tp) _).wr (fun _=>rfl) _
 refine⟨⟨⟨_,e.own h1 d5,?_⟩,h.cells.ext e (fun x hx hz=>o6 (hz▸hx)),h.ring.ext e (Ne.symm d10) (Ne.symm d11) (Ne.symm d12),h.inv,e.own h.places d9,h.len,h.rl,h.out⟩,e⟩
 refine⟨by simp,l.set i (i64 v),c,by rw[anC],aj hl,by rw[anC];exact h3,by rw[anC,anD];exact h4,?_⟩
 rw[anC,anD,yo,h5,aoo]
theorem bX.rd(h:bX H B C w N P L tops){x:Int}(hx:0≤x∧x<w.cs.length):x.toNat*4+3< (aO L).length∧(aO L)[x.toNat*4]? =some (i64 (eY L x).u)∧(aO L)[x.toNat*4+1]? =some (i64 (eY L x).k)∧
  (aO L)[x.toNat*4+2]? =some (i64 (eY L x).d)∧(aO L)[x.toNat*4+3]? =some (.bool (eY L x).m):=by
 have hl:=h.len
 have hf:=Oy L
 obtain⟨y,hy⟩:∃y,L[x.toNat]? =some y:=⟨_,anx (by omega)⟩
 obtain⟨h1,h2,h3,h4⟩:=abf hy
 rw[Hy hx.1 hy]
 exact⟨by omega,h1,h2,h3,h4⟩
theorem bX.aK(h:bX H B C w N P L tops){x:Int}(hx:0≤x∧x<w.cs.length)(v:Int):∃L',eY L'=pQ (eY L) x ⟨v,(eY L x).k,(eY L x).d,(eY L x).m⟩∧bX (H.wr B.tb ((aO L).set (x.toNat*4) (i64 v))) B C w N P L' tops∧ah (fun z=>z=B.tb) H (H.wr B.tb ((aO L).set (x.toNat*4) (i64 v))):=by
 have hl:=h.len
 obtain⟨y,hy⟩:∃y,L[x.toNat]? =some y:=⟨_,anx (by omega)⟩
 rw[Hy hx.1 hy,(qL hy).1]
 exact⟨_,CZ (by omega) _,h.SZ (anC ..)⟩
theorem bX.eG(h:bX H B C w N P L tops){x:Int}(hx:0≤x∧x<w.cs.length)(v:Int):∃L',eY L'=pQ (eY L) x ⟨(eY L x).u,v,(eY L x).d,(eY L x).m⟩∧bX (H.wr B.tb ((aO L).set (x.toNat*4+1) (i64 v))) B C w N P L' tops∧ah (fun z=>z=B.tb) H (H.wr B.tb ((aO L).set (x.toNat*4+1) (i64 v))):=by
 have hl:=h.len
 obtain⟨y,hy⟩:∃y,L[x.toNat]? =some y:=⟨_,anx (by omega)⟩
 rw[Hy hx.1 hy,(qL hy).2.1]
 exact⟨_,CZ (by omega) _,h.SZ (anC ..)⟩
theorem bX.Xz(h:bX H B C w N P L tops){x:Int}(hx:0≤x∧x<w.cs.length)(v:Int):∃L',eY L'=pQ (eY L) x ⟨(eY L x).u,(eY L x).k,v,(eY L x).m⟩∧bX (H.wr B.tb ((aO L).set (x.toNat*4+2) (i64 v))) B C w N P L' tops∧ah (fun z=>z=B.tb) H (H.wr B.tb ((aO L).set (x.toNat*4+2) (i64 v))):=by
 have hl:=h.len
 obtain⟨y,hy⟩:∃y,L[x.toNat]? =some y:=⟨_,anx (by omega)⟩
 rw[Hy hx.1 hy,(qL hy).2.2.1]
 exact⟨_,CZ (by omega) _,h.SZ (anC ..)⟩
theorem bX.cY(h:bX H B C w N P L tops){x:Int}(hx:0≤x∧x<w.cs.length)(v:Bool):∃L',eY L'=pQ (eY L) x ⟨(eY L x).u,(eY L x).k,(eY L x).d,v⟩∧bX (H.wr B.tb ((aO L).set (x.toNat*4+3) (.bool v))) B C w N P L' tops∧ah (fun z=>z=B.tb) H (H.wr B.tb ((aO L).set (x.toNat*4+3) (.bool v))):=by
 have hl:=h.len
 obtain⟨y,hy⟩:∃y,L[x.toNat]? =some y:=⟨_,anx (by omega)⟩
 rw[Hy hx.1 hy,(qL hy).2.2.2.1]
 exact⟨_,CZ (by omega) _,h.SZ (anC ..)⟩
theorem bX.Oz(h:bX H B C w N P L tops){x:Int}(hx:0≤x∧x<w.cs.length)(z:Pc):∃L',eY L'=pQ (eY L) x z∧bX (H.wr B.tb (bk (aO L) (x.toNat*4) [i64 z.u,i64 z.k,i64 z.d,.bool z.m])) B C w N P L' tops∧ah (fun z=>z=B.tb) H (H.wr B.tb (bk (aO L) (x.toNat*4) [i64 z.u,i64 z.k,i64 z.d,.bool z.m])):=by
 have hl:=h.len
 obtain⟨y,hy⟩:∃y,L[x.toNat]? =some y:=⟨_,anx (by omega)⟩
 rw[(qL hy).2.2.2.2]
 exact⟨_,CZ (by omega) _,h.SZ (anC ..)⟩
end
end Go.Proofs.YtjlnnljohemifaaGreat

namespace Go.Proofs.YtjlnnljohemifaaGreat
open Go Go.Vc
def Lw(f:Int→Pc)(ch:Int→List Int)(par:Int→Int):Prop:=∀x,(f x).u=par x∧(f x).k=(ch x).headD (-1)∧(f x).d=(ch x).length
section
variable {H H' : Hp} {B : FB} {C V : Nat → Prop} {w : Nw} {N P : List Int} {L : List Pc} {tops : List Int} {ch : Int → List Int} {par : Int → Int} {ax : Int → List Int} {W : List Int}
theorem dW.S0{lt:Int→Int→Bool}{nx:Int→Int}(f:dW (aI w) lt nx ch par ax W){x:Int}(hx:x∈W):0≤x∧x<w.cs.length:=by
 obtain⟨a,b,_⟩:=aH (f.wm x hx).2.2
 exact⟨a,b⟩
theorem dW.rin{lt:Int→Int→Bool}{nx:Int→Int}(f:dW (aI w) lt nx ch par ax W){g x:Int}(hx:x∈ax g):0≤x∧x<w.cs.length:=by
 obtain⟨h1,_,h2,_⟩:=f.rm g x hx
 obtain⟨a,b,_⟩:=aH (w:=w) (x:=x) (by omega)
 exact⟨a,b⟩
theorem dW.Iq{lt:Int→Int→Bool}{nx:Int→Int}(f:dW (aI w) lt nx ch par ax W){p x:Int}(hx:x∈ch p):0≤x∧x<w.cs.length:=by
 obtain⟨a,b,_⟩:=aH (f.pr.dn p x hx).2.2.2.1
 exact⟨a,b⟩
set_option maxHeartbeats 1000000 in
theorem zZ(m:bX H B C w N P L tops){x g:Int}(f:dW (aI w) (aU w) (cr N) ch par ax (x::W))(hg:aI w x=g)(dD:g<tops.length)(ht:bm tops g=(ax g).headD (-1)):
  ai Tryz.prog vL [ptr B.n,i64 g,i64 x] H fun v H'=>ay (∃N' P' Hz l,bX H' B C w N' P' L Hz∧Hz.length=tops.length∧bm Hz=kT (bm tops) g (l.headD (-1))∧
   dW (aI w) (aU w) (cr N') ch par (aA ax g l) W∧(l.headD (-1)=x∨(l.headD (-1)=bm tops g∧bm tops g≠ -1))∧l.headD (-1)≠ -1∧
   (x≠l.headD (-1)→aU w (l.headD (-1)) x=true)∧(bm tops g≠ -1→bm tops g≠l.headD (-1)→aU w (l.headD (-1)) (bm tops g)=true)∧ah (fun z=>C z∨z=B.nb∨z=B.pb∨z=B.tp) H H'):=by
 have hx:=f.S0 (x:=x) (by simp)
 have Ge:=f.Y7 (c:=x) (by simp)
 have Sb:0<g:=by rw[←hg];exact(f.wm x (by simp)).2.2
 obtain⟨cc,lt,o1,q1,Cz,yz,Nq⟩:=m.hG
 have q2:=m.fB q1 (dY (tops:=tops) (h:=g) (by omega) dD)
 have bv:=m.len
 refine ba vX ⟨rfl,?_⟩
 refine v2 fR.eq_1 (ae o1) ?_
 refine⟨⟨by omega,by omega⟩,?_⟩
 refine v4 (ae q1) anB anD q2 ?_
 refine am.dec (fun h0=>?_) (fun h0=>?_)<;>refine v1 (ae o1) ?_
 ·have hr:ax g=[]:=by
   rw[h0]at ht
   cases hc:ax g with
   |nil=>rfl
   |cons c r=>rw[hc]at ht;exact absurd ht.symm (f.rne (h:=g) (by rw[hc];simp))
  refine⟨⟨by omega,by omega⟩,?_⟩
  refine v3 q1 anB anD ?_
  refine⟨by omega,?_⟩
  obtain⟨m2,e2⟩:=m.nS q1 g.toNat x
  refine vs ?_
  have f2:=f.aam (by rw[hg];exact hr)
  rw[hg]at f2
  exact⟨N,P,_,[x],m2,anC ..,eV (by omega) dD x,f2,.inl rfl,Ge,fun h=>absurd rfl h,fun h=>absurd h0 h,e2.mono fun z _ h=>.inr (.inr (.inr h))⟩
 obtain⟨t,A,hr⟩:∃t A,ax g=t::A:=by
  cases hc:ax g with
  |nil=>rw[hc]at ht;exact absurd ht h0
  |cons c r=>exact⟨c,r,rfl⟩
 have htt:bm tops g=t:=by rw[ht,hr];rfl
 rw[htt]
 rw[htt]at q2
 have htr:=f.rin (g:=g) (x:=t) (by rw[hr];simp)
 have htn:=f.rne (c:=t) (h:=g) (by rw[hr];simp)
 have htx:t≠x:=fun e=>(f.rm g t (by rw[hr];simp)).2.2.2 (by rw[e];simp)
 refine⟨⟨by omega,by omega⟩,?_⟩
 refine v4 (ae q1) anB anD q2 ?_
 refine(dE m.ring m.inv (x:=t) (y:=x) (by omega) (by omega)).mono ?_
 rintro _ H2 ⟨rfl,N2,P2,r2,l2,n2,i2,e2⟩
 have m2:=m.xN r2 i2 e2 l2
 have f2:=f.R9 (t:=t) (A:=A) (by rw[hg];exact hr)
 rw[hg,←n2]at f2
 obtain⟨cc,lt2,o2,q3,_⟩:=m2.hG
 have q4:=m2.fB q3 (dY (tops:=tops) (h:=g) (by omega) dD)
 rw[htt]at q4
 refine v1 (ae o2) ?_
 refine⟨⟨by omega,by omega⟩,?_⟩
 refine v4 (ae q3) anB anD q4 ?_
 refine(cK m2.cells x t).mono ?_
 rintro _ H3 ⟨rfl,c3,e3⟩
 have m3:=m2.aN c3 e3 rfl
 have ye:=jp (w:=w) (a:=x) (b:=t) (by omega) (by have:=(f.rm g t (by rw[hr];simp)).1;omega)
 rw[ye]
 have zU:ah (fun z=>C z∨z=B.nb∨z=B.pb∨z=B.tp) H H3:=(e2.mono fun z _ h=>h.elim (fun h=>.inr (.inl h)) (fun h=>.inr (.inr (.inl h)))).trans (e3.mono fun z _ h=>.inl h)
 cases aR:aU w x t
 ·refine vs ?_
  have VX:=((au w).Pj t x htx).resolve_right (by rw[aR];simp)
  refine⟨N2,P2,tops,t::x::A,m3,rfl,?_,f2,.inr ⟨rfl,htn⟩,htn,fun _=>VX,fun _ h=>absurd rfl h,zU⟩
  funext z
  show bm tops z=if z=g then t else bm tops z
  split
  ·rename_i e;rw[e,htt]
  ·rfl
 ·obtain⟨cc,lt3,o3,q5,_,hc5,_⟩:=m3.hG
  have q6:=m3.fB q5 (dY (tops:=tops) (h:=g) (by omega) dD)
  have tR:=(anA.1 q6).1
  refine v1 (ae o3) ?_
  refine⟨⟨by omega,by omega⟩,?_⟩
  refine v3 q5 anB anD ?_
  refine⟨by omega,?_⟩
  obtain⟨m4,e4⟩:=m3.nS q5 g.toNat x
  refine vs ?_
  have f3:=f2.yA (g:=g) (l:=x::A++[t]) (by
   unfold aA
   rw[if_pos rfl]
   exact aoC (l₁:=[t]) (l₂:=x::A)) (by
   have:=f2.rc g
   unfold aA at this
   rw[if_pos rfl]at this
   exact yg.rot (l1:=[t]) (l2:=x::A) this)
  rw[eJ]at f3
  exact⟨N2,P2,_,x::A++[t],m4,anC ..,eV (by omega) dD x,f3,.inl rfl,Ge,fun h=>absurd rfl h,fun _ _=>aR,zU.trans (e4.mono fun z _ h=>.inr (.inr (.inr h)))⟩
set_option maxHeartbeats 1000000 in
theorem HC(m:bX H B C w N P L tops){x y:Int}(f:dW (aI w) (aU w) (cr N) ch par ax (x::y::W))(hp:Lw (eY L) ch par)(hh:aI w x=aI w y)(hl:aU w x y=true):
  ai Tryz.prog uc [ptr B.n,i64 y,i64 x] H fun v H'=>ay (∃N' P' L' dV bH,bX H' B C w N' P' L' tops∧dW (aI w) (aU w) (cr N') dV bH ax (x::W)∧Lw (eY L') dV bH∧(dV x).length=(ch x).length+1∧(∀z,z≠x→dV z=ch z)∧
   ah (fun z=>z=B.nb∨z=B.pb∨z=B.tb) H H'):=by
 have hx:=f.S0 (x:=x) (by simp)
 have hy:=f.S0 (x:=y) (by simp)
 have RL:x≠y:=fun e=>by rw[e,(au w).yf]at hl;cases hl
 have bv:=m.len
 obtain⟨tv,o1,_⟩:=m.own
 obtain⟨px,kx,dx⟩:=hp x
 obtain⟨py,ky,dy⟩:=hp y
 obtain⟨a0,a1,a2,a3,a4⟩:=m.rd hx
 have rB:(ch x).length≤w.cs.length:=bV (f.pr.nd x) fun c hc=>f.Iq hc
 have zD:=m.cells.FM
 refine ba uv ⟨rfl,?_⟩
 refine v2 fx.eq_1 (ae o1) ?_
 refine⟨⟨by omega,by omega⟩,?_⟩
 refine v1 (ae o1) ?_
 refine⟨⟨by omega,by omega⟩,?_⟩
 refine v3 (ae m.places) anB a2 ?_
 refine am.dec (fun h0=>?_) (fun h0=>?_)<;>refine vs ?_
 ·have hc:ch x=[]:=by
   rw[h0]at kx
   cases hc:ch x with
   |nil=>rfl
   |cons c r=>rw[hc]at kx;exact absurd kx.symm (f.pr.ne (x:=x) (by rw[hc];simp))
  have f1:=f.WL hh hl hc
  obtain⟨H1,eH⟩:∃H1,H1=H:=⟨_,rfl⟩
  rw[←eH]at m ⊢
  have m1:=m
  obtain⟨N1,eN⟩:∃N1,N1=N:=⟨_,rfl⟩
  obtain⟨P1,eP⟩:∃P1,P1=P:=⟨_,rfl⟩
  rw[←eN,←eP]at m1
  rw[←eN]at f1
  have e1:ah (fun z=>z=B.nb∨z=B.pb) H1 H1:=ah.refl _ _
  have vF:([y]:List Int).length=(ch x).length+1:=by rw[hc];rfl
  obtain⟨b0,_⟩:=m1.rd hx
  obtain⟨L2,k2,m2,e2⟩:=m1.eG hx y
  refine v2 m1.places anB ?_
  refine⟨by omega,?_⟩
  refine vs ?_
  generalize H1.wr B.tb ((aO L).set (x.toNat*4+1) (i64 y))=H2 at*
  obtain⟨c0,c1,c2,c3,c4⟩:=m2.rd hx
  have oZ:(eY L2 x).d=(ch x).length:=by rw[k2];unfold pQ;rw[if_pos rfl];exact dx
  obtain⟨L3,k3,m3,e3⟩:=m2.Xz hx ((eY L2 x).d+1)
  rw[oZ]at c3 k3 m3 e3
  refine v4 (ae m2.places) m2.places anB c3 ?_
  rw[wrap64 (by omega) (by omega)]
  refine⟨by omega,?_⟩
  refine vs ?_
  generalize H2.wr B.tb ((aO L2).set (x.toNat*4+2) (i64 ((ch x).length+1)))=H3 at*
  obtain⟨d0,_⟩:=m3.rd hy
  obtain⟨L4,k4,m4,e4⟩:=m3.aK hy x
  refine v3 m3.places anB Nat.add_zero ?_
  refine⟨by omega,?_⟩
  refine vs ?_
  generalize H3.wr B.tb ((aO L3).set (y.toNat*4) (i64 x))=H4 at*
  obtain⟨g0,_⟩:=m4.rd hy
  obtain⟨L5,k5,m5,e5⟩:=m4.cY hy false
  refine v3 m4.places anB Nat.add_zero ?_
  refine⟨by omega,?_⟩
  refine vs ?_
  refine⟨N1,P1,L5,_,_,m5,f1,fun z=>?_,?_,fun z hz=>?_,((((e1.mono fun z _ h=>h.elim .inl fun h=>.inr (.inl h)).trans (e2.mono fun z _ h=>.inr (.inr h))).trans (e3.mono fun z _ h=>.inr (.inr h))).trans (e4.mono fun z _ h=>.inr (.inr h))).trans (e5.mono fun z _ h=>.inr (.inr h))⟩
  ·rw[k5,k4,k3,k2]
   unfold pQ aA
   by_cases h1:z=y
   ·rw[h1,if_pos rfl,if_neg RL.symm,if_neg RL.symm]
    simp only[if_neg RL.symm,if_true]
    refine⟨by unfold aK;rw[if_pos rfl],?_,?_⟩
    ·exact ky
    ·exact dy
   ·rw[if_neg h1]
    unfold aK
    rw[if_neg h1]
    by_cases h2:z=x
    ·rw[h2]
     simp only[if_true,if_neg RL]
     exact⟨px,rfl,by rw[vF];omega⟩
    ·simp only[if_neg h1,if_neg h2]
     exact hp z
  ·unfold aA;rw[if_pos rfl,vF]
  ·unfold aA;rw[if_neg hz]
 ·obtain⟨k,K,hc⟩:∃k K,ch x=k::K:=by
   cases hc:ch x with
   |nil=>rw[hc]at kx;exact absurd kx h0
   |cons c r=>exact⟨c,r,rfl⟩
  have hk:(eY L x).k=k:=by rw[kx,hc];rfl
  have Zp:=f.Iq (p:=x) (x:=k) (by rw[hc];simp)
  have f1:=f.under hh hl hc
  rw[hk]at a2
  refine v4 (ae o1) (ae m.places) anB a2 ?_
  refine(dE m.ring m.inv (x:=k) (y:=y) (by omega) (by omega)).mono ?_
  rintro _ H1 ⟨rfl,N1,P1,r1,l1,n1,i1,e1⟩
  have m1:=m.xN r1 i1 e1 l1
  rw[←n1]at f1
  have vF:(y::K++[k]).length=(ch x).length+1:=by rw[hc];simp
  refine vs ?_
  obtain⟨b0,_⟩:=m1.rd hx
  obtain⟨L2,k2,m2,e2⟩:=m1.eG hx y
  refine v2 m1.places anB ?_
  refine⟨by omega,?_⟩
  refine vs ?_
  generalize H1.wr B.tb ((aO L).set (x.toNat*4+1) (i64 y))=H2 at*
  obtain⟨c0,c1,c2,c3,c4⟩:=m2.rd hx
  have oZ:(eY L2 x).d=(ch x).length:=by rw[k2];unfold pQ;rw[if_pos rfl];exact dx
  obtain⟨L3,k3,m3,e3⟩:=m2.Xz hx ((eY L2 x).d+1)
  rw[oZ]at c3 k3 m3 e3
  refine v4 (ae m2.places) m2.places anB c3 ?_
  rw[wrap64 (by omega) (by omega)]
  refine⟨by omega,?_⟩
  refine vs ?_
  generalize H2.wr B.tb ((aO L2).set (x.toNat*4+2) (i64 ((ch x).length+1)))=H3 at*
  obtain⟨d0,_⟩:=m3.rd hy
  obtain⟨L4,k4,m4,e4⟩:=m3.aK hy x
  refine v3 m3.places anB Nat.add_zero ?_
  refine⟨by omega,?_⟩
  refine vs ?_
  generalize H3.wr B.tb ((aO L3).set (y.toNat*4) (i64 x))=H4 at*
  obtain⟨g0,_⟩:=m4.rd hy
  obtain⟨L5,k5,m5,e5⟩:=m4.cY hy false
  refine v3 m4.places anB Nat.add_zero ?_
  refine⟨by omega,?_⟩
  refine vs ?_
  refine⟨N1,P1,L5,_,_,m5,f1,fun z=>?_,?_,fun z hz=>?_,((((e1.mono fun z _ h=>h.elim .inl fun h=>.inr (.inl h)).trans (e2.mono fun z _ h=>.inr (.inr h))).trans (e3.mono fun z _ h=>.inr (.inr h))).trans (e4.mono fun z _ h=>.inr (.inr h))).trans (e5.mono fun z _ h=>.inr (.inr h))⟩
  ·rw[k5,k4,k3,k2]
   unfold pQ aA
   by_cases h1:z=y
   ·rw[h1,if_pos rfl,if_neg RL.symm,if_neg RL.symm]
    simp only[if_neg RL.symm,if_true]
    refine⟨by unfold aK;rw[if_pos rfl],?_,?_⟩
    ·exact ky
    ·exact dy
   ·rw[if_neg h1]
    unfold aK
    rw[if_neg h1]
    by_cases h2:z=x
    ·rw[h2]
     simp only[if_true,if_neg RL]
     exact⟨px,rfl,by rw[vF];omega⟩
    ·simp only[if_neg h1,if_neg h2]
     exact hp z
  ·unfold aA;rw[if_pos rfl,vF]
  ·unfold aA;rw[if_neg hz]
end
end Go.Proofs.YtjlnnljohemifaaGreat

namespace Go.Proofs.YtjlnnljohemifaaGreat
open Go Go.Vc
theorem xO(H:Hp):ai Tryz.prog B0 [] H fun v H'=>ay (v= .agg #[i64 (-1),i64 (-1),i64 0,.bool false]∧aq H H'):=by
 refine ba Cj ⟨rfl,?_⟩
 have f0:aq H (H.new 273 [Value.int .i64 0,Value.int .i64 0,Value.int .i64 0,Value.bool false]):=(ah.refl _ _).new _ _
 refine v1 ly.eq_1 ?_
 have q:((H.new 273 [Value.int .i64 0,Value.int .i64 0,Value.int .i64 0,Value.bool false]).wr H.size [Value.int .i64 (-1),Value.int .i64 (-1),Value.int .i64 0,Value.bool false]).own H.size=some [Value.int .i64 (-1),Value.int .i64 (-1),Value.int .i64 0,Value.bool false]:=aj (aE _ _ _)
 have e2:ah (fun z=>z=H.size) (H.new 273 [Value.int .i64 0,Value.int .i64 0,Value.int .i64 0,Value.bool false]) ((H.new 273 [Value.int .i64 0,Value.int .i64 0,Value.int .i64 0,Value.bool false]).wr H.size [Value.int .i64 (-1),Value.int .i64 (-1),Value.int .i64 0,Value.bool false]):=(ah.refl (fun z=>z=H.size) _).wr (fun _=>rfl) _
 refine v1 (ae q) ?_
 exact⟨rfl,f0.then e2 (fun z hz=>by omega)⟩
section
variable {H H' : Hp} {B : FB} {C V : Nat → Prop} {w : Nw} {N P : List Int} {L : List Pc} {tops : List Int} {ch : Int → List Int} {par : Int → Int} {ax : Int → List Int} {W : List Int}
set_option maxHeartbeats 2000000 in
theorem HD(m:bX H B C w N P L tops){x g:Int}{A:List Int}(f:dW (aI w) (aU w) (cr N) ch par ax W)(hp:Lw (eY L) ch par)(hr:ax g=x::A):
  ai Tryz.prog tZ [ptr B.n,i64 x] H fun v H'=>ay (∃N' P' L' A',bX H' B C w N' P' L' tops∧dW (aI w) (aU w) (cr N') (aA ch x []) (gf ch par x) (aA ax g (x::A')) W∧Lw (eY L') (aA ch x []) (gf ch par x)∧
   ah (fun z=>z=B.nb∨z=B.pb∨z=B.tb) H H'):=by
 have hx:=f.rin (g:=g) (x:=x) (by rw[hr];simp)
 have ec:=(f.rm g x (by rw[hr];simp)).2.1
 have bv:=m.len
 have zD:=m.cells.FM
 obtain⟨tv,o1,_⟩:=m.own
 obtain⟨px,kx,dx⟩:=hp x
 obtain⟨a0,a1,a2,a3,a4⟩:=m.rd hx
 refine ba ut ⟨rfl,?_⟩
 refine v2 lE.eq_1 (ae o1) ?_
 refine⟨⟨by omega,by omega⟩,?_⟩
 refine v3 (ae m.places) anB a2 ?_
 refine am.dec (fun h0=>?_) (fun h0=>?_)<;>refine vs ?_
 ·have hc:ch x=[]:=by
   rw[h0]at kx
   cases hc:ch x with
   |nil=>rfl
   |cons c r=>rw[hc]at kx;exact absurd kx.symm (f.pr.ne (x:=x) (by rw[hc];simp))
  have e1:aA ch x []=ch:=by
   funext z
   unfold aA
   split
   ·rename_i e;rw[e,hc]
   ·rfl
  have e2:gf ch par x=par:=by
   funext z
   unfold gf
   rw[hc,if_neg (by simp)]
  have e3:aA ax g (x::A)=ax:=by
   funext z
   unfold aA
   split
   ·rename_i e;rw[e,hr]
   ·rfl
  exact⟨N,P,L,A,m,by rw[e1,e2,e3];exact f,by rw[e1,e2];exact hp,ah.refl _ _⟩
 obtain⟨k,K,hc⟩:∃k K,ch x=k::K:=by
  cases hc:ch x with
  |nil=>rw[hc]at kx;exact absurd kx h0
  |cons c r=>exact⟨c,r,rfl⟩
 have hk:(eY L x).k=k:=by rw[kx,hc];rfl
 rw[hk]
 have BT:=f.cy x
 have jd:=f.pr.nd x
 rw[hc]at BT jd
 have bQ:∀c∈k::K,0≤c∧c<w.cs.length:=fun c JL=>f.Iq (p:=x) (by rw[hc];exact JL)
 have hkl:(k::K).length≤w.cs.length:=bV jd bQ
 have hk1:(k::K).length=K.length+1:=anY
 refine v1 (ae o1) ?_
 refine(sD m.ring BT jd (fun c JL=>by have:=bQ c JL;omega) (by omega)).mono ?_
 rintro kv H1 ⟨b,s1,hb,f1⟩
 have m1:=m.fresh f1
 have z1:=f1.size
 have hS:=m.slt
 have Rx:B.tb<H.size:=hS _ (.inr (.inr (.inr (.inr (.inr (.inl rfl))))))
 obtain⟨ka,kc,rfl⟩:=Sl.shape s1
 refine vs ?_
 refine bA.intro (fun mm env H'=>∃ (i:Nat) (L':List Pc),mm=(k::K).length - i∧i≤(k::K).length∧bX H' B C w N P L' tops∧Sl H' 1 (.slice ka (k::K).length kc) (k::K).length ((k::K).map i64) (some b)∧ah (fun z=>z=B.tb) H H'∧
  (∀z,(eY L' z).k=(eY L z).k∧(eY L' z).d=(eY L z).d∧(eY L' z).u=if z∈(k::K).take i then -1 else(eY L z).u)∧
  env=[(0,ptr B.n),(1,i64 x),(4,i64 k),(22,.slice ka (k::K).length kc),(23,i64 (k::K).length),(24,i64 i)]) _ ⟨0,L,rfl,by omega,m1,s1,f1.mono (fun _ _ h=>h.elim),fun z=>⟨rfl,rfl,by simp⟩,rfl⟩ ?_
 rintro mm env H2 ⟨i,L2,rfl,hi,m2,s2,e2,g2,rfl⟩
 refine vs ?_
 refine am.dec (fun gi=>?_) (fun gi=>?_)<;>refine vs ?_
 ·have oq:i< (k::K).length:=by omega
  obtain⟨c,JG⟩:∃c,(k::K)[i]? =some c:=⟨_,anx oq⟩
  have JL:=bQ c (anG JG)
  obtain⟨_,kb,lb,rfl,q2,q3⟩:=Sl.Bl s2 JG
  obtain⟨Og,o2,_⟩:=m2.own
  have wC:=m2.len
  refine⟨⟨by omega,by omega⟩,?_⟩
  refine v6 (ae q2) anB anD Int.toNat_natCast q3 (ae o2) ?_
  refine⟨⟨by omega,by omega⟩,?_⟩
  obtain⟨b0,_⟩:=m2.rd JL
  obtain⟨L3,k3,m3,e3⟩:=m2.aK JL (-1)
  refine v3 m2.places anB Nat.add_zero ?_
  refine⟨by omega,?_⟩
  refine vs ?_
  generalize H2.wr B.tb ((aO L2).set (c.toNat*4) (Value.int .i64 (-1)))=H3 at*
  obtain⟨c0,_⟩:=m3.rd JL
  have Ua:=m3.len
  obtain⟨L4,k4,m4,e4⟩:=m3.cY JL false
  refine⟨⟨by omega,by omega⟩,?_⟩
  refine v3 m3.places anB Nat.add_zero ?_
  refine⟨by omega,?_⟩
  refine vs ?_
  refine⟨(k::K).length - (i+1),by omega,i+1,L4,rfl,by omega,m4,(s2.ext e3 (fun z hz ez=>by injection hz with hz;omega)).ext e4 (fun z hz ez=>by injection hz with hz;omega),(e2.trans e3).trans e4,fun z=>?_,?_⟩
  ·have tk:(k::K).take (i+1)=(k::K).take i++[c]:=by rw[aoi,JG];rfl
   obtain⟨g3,g4,g5⟩:=g2 z
   rw[tk,k4,k3]
   unfold pQ
   by_cases hz:z=c
   ·simp only[hz,if_true]
    rw[hz]at g3 g4
    exact⟨g3,g4,by simp⟩
   ·simp only[if_neg hz]
    refine⟨g3,g4,?_⟩
    rw[g5]
    simp only[anR,anM,hz,or_false]
  ·rw[wrap64 (by omega) (by omega)]
   rfl
 obtain rfl:i=(k::K).length:=by omega
 rw[aod]at g2
 have Zp:=bQ k (by simp)
 have f2:=f.raise hr hc
 obtain⟨Og,o2,_⟩:=m2.own
 have wC:=m2.len
 refine v1 (ae o2) ?_
 refine(dE m2.ring m2.inv (x:=x) (y:=k) (by omega) (by omega)).mono ?_
 rintro _ H3 ⟨rfl,N3,P3,r3,l3,n3,i3,e3⟩
 have m3:=m2.xN r3 i3 e3 l3
 rw[←n3]at f2
 obtain⟨cc,lt,o3,_⟩:=m3.hG
 refine vs ?_
 refine rq.intro (fun H'=>H'.own B.n=some [ptr B.c,ptr B.r,.slice (some ⟨B.tb,0,none⟩) L2.length L2.length,.slice (some ⟨B.tp,0,none⟩) tops.length cc]) o3 ?_
 refine vs ?_
 refine oQ.intro (.slice (some ⟨B.tb,0,none⟩) L2.length L2.length) (fun H' hI=>by refine v1 (ae hI) ?_;trivial) ?_
 refine vs ?_
 refine(xO H3).mono ?_
 rintro _ H4 ⟨rfl,e4⟩
 have o4:=e4.own o3 (fun h=>h)
 refine And.intro o4 ?_
 have m4:=m3.fresh e4
 refine vs ?_
 refine⟨⟨by omega,by omega⟩,?_⟩
 obtain⟨b0,_⟩:=m4.rd hx
 obtain⟨L5,k5,m5,e5⟩:=m4.Oz hx ry
 refine v2 m4.places anB ?_
 refine⟨by omega,?_⟩
 rw[show bk (aO L2) (x.toNat*4) (aM (Value.agg #[i64 (-1),i64 (-1),i64 0,Value.bool false]))=bk (aO L2) (x.toNat*4) [i64 ry.u,i64 ry.k,i64 ry.d,.bool ry.m]from rfl]
 have Ds:=m4.rl.1.2.2.2.1
 generalize H4.wr B.tb (bk (aO L2) (x.toNat*4) [i64 ry.u,i64 ry.k,i64 ry.d,.bool ry.m])=H5 at*
 refine vs ?_
 refine And.intro (e5.own o4 Ds) ?_
 refine vs ?_
 refine⟨N3,P3,L5,K++k::A,m5,f2,fun z=>?_,(((e2.mono fun z _ h=>.inr (.inr h)).trans (e3.mono fun z _ h=>h.elim .inl fun h=>.inr (.inl h))).trans (e4.mono fun z _ h=>h.elim)).trans (e5.mono fun z _ h=>.inr (.inr h))⟩
 rw[k5]
 unfold pQ aA gf
 obtain⟨g3,g4,g5⟩:=g2 z
 obtain⟨pz,kz,dz⟩:=hp z
 by_cases hz:z=x
 ·rw[if_pos hz,if_pos hz,hz,if_neg (fun h=>by have:=(f.Nx h).1 g;rw[hr]at this;exact this (by simp)),ec]
  exact⟨rfl,rfl,rfl⟩
 ·rw[if_neg hz,if_neg hz,g3,g4,g5,hc]
  refine⟨?_,kz,dz⟩
  split
  ·rfl
  ·exact pz
end
end Go.Proofs.YtjlnnljohemifaaGreat

namespace Go.Proofs.YtjlnnljohemifaaGreat
open Go Go.Vc
section
variable {H H' : Hp} {B : FB} {C V : Nat → Prop} {w : Nw} {N P : List Int} {L : List Pc} {tops : List Int} {ch : Int → List Int} {par : Int → Int} {ax : Int → List Int} {W : List Int}
set_option maxHeartbeats 4000000 in
theorem C0(m:bX H B C w N P L tops){lt:Int→Int→Bool}(hs:bC lt){x p g t:Int}{A:List Int}(f:dW (aI w) lt (cr N) ch par ax W)(hp:Lw (eY L) ch par)(hx:x∈ch p)(hg:aI w x=g)(dD:g<tops.length)(hr:ax g=t::A)(ht:bm tops g=t):
  ai Tryz.prog wQ [ptr B.n,i64 g,i64 x] H fun v H'=>ay (∃N' P' L' l,bX H' B C w N' P' L' tops∧dW (aI w) lt (cr N') (aA ch p l) (aK par x (-1)) (aA ax g (t::x::A)) W∧Lw (eY L') (aA ch p l) (aK par x (-1))∧(ch p).Perm (x::l)∧
   ah (fun z=>z=B.nb∨z=B.pb∨z=B.tb) H H'):=by
 obtain⟨x1,x2,x3,x4,x5⟩:=f.pr.dn p x hx
 have ec:p≠x:=fun e=>by rw[e,hs.yf]at x5;cases x5
 have xJ:=f.Iq hx
 obtain⟨p0,p1,_⟩:=aH (w:=w) (x:=p) (by omega)
 have bv:=m.len
 have zD:=m.cells.FM
 have rB:(ch p).length≤w.cs.length:=bV (f.pr.nd p) fun c hc=>f.Iq hc
 obtain⟨l,tQ,BT⟩:=(f.cy p).from hx
 have jd:=tQ.nodup_iff.1 (f.pr.nd p)
 have ol:(ch p).length=l.length+1:=by rw[tQ.length_eq,anY]
 have f1:=f.aap tQ BT
 have Cz:aA ch p (x::l) p=x::l:=by unfold aA;rw[if_pos rfl]
 obtain⟨ux,_,_⟩:=hp x
 obtain⟨up,kp,dp⟩:=hp p
 rw[x1]at ux
 have htr:=f.rin (g:=g) (x:=t) (by rw[hr];simp)
 have Sb:=(f.rm g t (by rw[hr];simp)).2.2.1
 obtain⟨cc,ltp,o1,q1,_⟩:=m.hG
 obtain⟨a0,a1,a2,a3,a4⟩:=m.rd xJ
 obtain⟨b0,b1,b2,b3,b4⟩:=m.rd (x:=p) ⟨p0,p1⟩
 rw[ux]at a1
 rw[dp]at b3
 refine ba xl ⟨rfl,?_⟩
 refine v2 gN.eq_1 (ae o1) ?_
 refine⟨⟨by omega,by omega⟩,?_⟩
 refine v4 (ae m.places) anB Nat.add_zero a1 ?_
 refine⟨⟨by omega,by omega⟩,?_⟩
 refine v4 (ae m.places) m.places anB b3 ?_
 rw[wrap64 (by omega) (by omega)]
 obtain⟨L2,k2,m2,e2⟩:=m.Xz (x:=p) ⟨p0,p1⟩ (((ch p).length:Int) - 1)
 refine⟨by omega,?_⟩
 refine vs ?_
 generalize H.wr B.tb ((aO L).set (p.toNat*4+2) (i64 (((ch p).length:Int) - 1)))=H2 at*
 obtain⟨c0,_⟩:=m2.rd (x:=p) ⟨p0,p1⟩
 obtain⟨L3,k3,m3,e3⟩:=m2.eG (x:=p) ⟨p0,p1⟩ (-1)
 refine v2 m2.places anB ?_
 refine⟨by omega,?_⟩
 refine vs ?_
 generalize H2.wr B.tb ((aO L2).set (p.toNat*4+1) (Value.int .i64 (-1)))=H3 at*
 obtain⟨cc3,lt3,o3,q3,_⟩:=m3.hG
 refine v1 (ae o3) ?_
 refine(Hx m3.ring (x:=x) (by omega)).mono ?_
 rintro _ H' ⟨rfl,e⟩
 obtain rfl:=e.symm
 refine vs ?_
 have zU:ah (fun z=>z=B.nb∨z=B.pb∨z=B.tb) H H3:=(e2.mono fun z _ h=>.inr (.inr h)).trans (e3.mono fun z _ h=>.inr (.inr h))
 have UW:l=[]∨∃A0 y,l=A0++[y]:=by
  rcases List.eq_nil_or_concat l with h| ⟨A0,y,h⟩
  ·exact .inl h
  ·exact .inr ⟨A0,y,by rw[h,List.concat_eq_append]⟩
 rcases UW with rfl| ⟨A0,y,rfl⟩
 ·have KG:cr N x=x:=BT
  rw[KG]
  refine am.cF (by simp) ?_
  refine vs ?_
  have m4:=m3
  have zE:=zU
  obtain⟨L4,eL⟩:∃L4,L4=L3:=⟨_,rfl⟩
  rw[←eL]at m4 k3
  have k4x:eY L4 x=eY L x:=by rw[k3,k2];unfold pQ;rw[if_neg ec.symm,if_neg ec.symm]
  have k4p:eY L4 p=⟨(eY L p).u, -1,((ch p).length:Int) - 1,(eY L p).m⟩:=by rw[k3,k2];unfold pQ;rw[if_pos rfl,if_pos rfl]
  have k4o:∀z,z≠p→eY L4 z=eY L z:=fun z hz=>by rw[k3,k2];unfold pQ;rw[if_neg hz,if_neg hz]
  have UD:∀ {N5:List Int},cr N5=Ag (cr N) x (cr P x)→dW (aI w) lt (cr N5) (aA ch p []) (aK par x (-1)) ax (x::W):=fun h=>by
   rw[h]
   have hpv:cr P x=x:=by
    have:=m.inv.pn x
    rwa[KG]at this
   rw[hpv,LF]
   have f2:=f1.aeM Cz
   rwa[eJ]at f2
  obtain⟨cc4,lt4,o4,q4,_⟩:=m4.hG
  refine v1 (ae o4) ?_
  refine(qK m4.ring m4.inv (x:=x) (by omega)).mono ?_
  rintro _ H5 ⟨rfl,N5,P5,r5,l5,n5,i5,e5⟩
  have m5:=m4.xN r5 i5 e5 l5
  have f5:=UD n5
  obtain⟨cc5,lt5,o5,q5,_⟩:=m5.hG
  have hl5:=m5.len
  refine v1 (ae o5) ?_
  refine⟨⟨by omega,by omega⟩,?_⟩
  obtain⟨d0,_⟩:=m5.rd xJ
  obtain⟨L6,k6,m6,e6⟩:=m5.aK xJ (-1)
  refine v3 m5.places anB Nat.add_zero ?_
  refine⟨by omega,?_⟩
  refine vs ?_
  generalize H5.wr B.tb ((aO L4).set (x.toNat*4) (Value.int .i64 (-1)))=H6 at*
  have hl6:=m6.len
  refine⟨⟨by omega,by omega⟩,?_⟩
  obtain⟨g0,_⟩:=m6.rd xJ
  obtain⟨L7,k7,m7,e7⟩:=m6.cY xJ false
  refine v3 m6.places anB Nat.add_zero ?_
  refine⟨by omega,?_⟩
  refine vs ?_
  generalize H6.wr B.tb ((aO L6).set (x.toNat*4+3) (Value.bool false))=H7 at*
  obtain⟨cc7,lt7,o7,q7,_⟩:=m7.hG
  have q8:=m7.fB q7 (dY (tops:=tops) (h:=g) (by omega) dD)
  rw[ht]at q8
  have hl7:=m7.len
  refine v1 (ae o7) ?_
  refine⟨⟨by omega,by omega⟩,?_⟩
  refine v4 (ae q7) anB anD q8 ?_
  refine(dE m7.ring m7.inv (x:=t) (y:=x) (by omega) (by omega)).mono ?_
  rintro _ H8 ⟨rfl,N8,P8,r8,l8,n8,i8,e8⟩
  have m8:=m7.xN r8 i8 e8 l8
  have f8:=f5.R9 (t:=t) (A:=A) (by rw[hg];exact hr)
  rw[hg,←n8]at f8
  refine vs ?_
  refine⟨N8,P8,L7,[],m8,f8,fun z=>?_,tQ,(((zE.trans (e5.mono fun z _ h=>h.elim .inl fun h=>.inr (.inl h))).trans (e6.mono fun z _ h=>.inr (.inr h))).trans (e7.mono fun z _ h=>.inr (.inr h))).trans (e8.mono fun z _ h=>h.elim .inl fun h=>.inr (.inl h))⟩
  rw[k7,k6]
  obtain⟨uz,kz,dz⟩:=hp z
  by_cases h1:z=x
  ·rw[h1]
   rw[h1]at kz dz
   unfold pQ aK aA
   simp only[if_true,if_neg ec.symm,k4x]
   exact⟨trivial,kz,dz⟩
  ·unfold pQ aK aA
   simp only[if_neg h1]
   by_cases h2:z=p
   ·rw[h2]
    simp only[if_true,if_neg ec,k4p]
    refine⟨up,rfl,?_⟩
    rw[ol];simp
   ·simp only[if_neg h2,k4o z h2]
    exact⟨uz,kz,dz⟩
 ·have UH:cr N x=(A0++[y]).headD (-1):=by
   cases A0 with
   |nil=>exact BT.1
   |cons a A0=>exact BT.1
  have KG:cr N x≠x:=fun e=>by
   have h1:=(anV.1 jd).1
   apply h1
   rw[e]at UH
   cases A0 with
   |nil=>rw[UH];simp
   |cons a A0=>rw[UH];simp
  refine am.dec (fun h=>absurd h KG) (fun _=>?_)
  obtain⟨r0,_⟩:=m3.rd (x:=p) ⟨p0,p1⟩
  obtain⟨L4,k4,m4,e4⟩:=m3.eG (x:=p) ⟨p0,p1⟩ (cr N x)
  refine v2 m3.places anB ?_
  refine⟨by omega,?_⟩
  refine vs ?_
  generalize H3.wr B.tb ((aO L3).set (p.toNat*4+1) (i64 (cr N x)))=H4 at*
  have zE:=zU.trans (e4.mono fun z _ h=>.inr (.inr h))
  have k4x:eY L4 x=eY L x:=by rw[k4,k3,k2];unfold pQ;rw[if_neg ec.symm,if_neg ec.symm,if_neg ec.symm]
  have k4p:eY L4 p=⟨(eY L p).u,cr N x,((ch p).length:Int) - 1,(eY L p).m⟩:=by rw[k4,k3,k2];unfold pQ;rw[if_pos rfl,if_pos rfl,if_pos rfl]
  have k4o:∀z,z≠p→eY L4 z=eY L z:=fun z hz=>by rw[k4,k3,k2];unfold pQ;rw[if_neg hz,if_neg hz,if_neg hz]
  have UD:∀ {N5:List Int},cr N5=Ag (cr N) x (cr P x)→dW (aI w) lt (cr N5) (aA ch p (A0++[y])) (aK par x (-1)) ax (x::W):=fun h=>by
   rw[h]
   have hpv:cr P x=y:=yg.last (A:=A0) m.inv BT
   rw[hpv]
   have f2:=f1.off (A:=A0) (y:=y) Cz
   rwa[eJ]at f2
  obtain⟨cc4,lt4,o4,q4,_⟩:=m4.hG
  refine v1 (ae o4) ?_
  refine(qK m4.ring m4.inv (x:=x) (by omega)).mono ?_
  rintro _ H5 ⟨rfl,N5,P5,r5,l5,n5,i5,e5⟩
  have m5:=m4.xN r5 i5 e5 l5
  have f5:=UD n5
  obtain⟨cc5,lt5,o5,q5,_⟩:=m5.hG
  have hl5:=m5.len
  refine v1 (ae o5) ?_
  refine⟨⟨by omega,by omega⟩,?_⟩
  obtain⟨d0,_⟩:=m5.rd xJ
  obtain⟨L6,k6,m6,e6⟩:=m5.aK xJ (-1)
  refine v3 m5.places anB Nat.add_zero ?_
  refine⟨by omega,?_⟩
  refine vs ?_
  generalize H5.wr B.tb ((aO L4).set (x.toNat*4) (Value.int .i64 (-1)))=H6 at*
  have hl6:=m6.len
  refine⟨⟨by omega,by omega⟩,?_⟩
  obtain⟨g0,_⟩:=m6.rd xJ
  obtain⟨L7,k7,m7,e7⟩:=m6.cY xJ false
  refine v3 m6.places anB Nat.add_zero ?_
  refine⟨by omega,?_⟩
  refine vs ?_
  generalize H6.wr B.tb ((aO L6).set (x.toNat*4+3) (Value.bool false))=H7 at*
  obtain⟨cc7,lt7,o7,q7,_⟩:=m7.hG
  have q8:=m7.fB q7 (dY (tops:=tops) (h:=g) (by omega) dD)
  rw[ht]at q8
  have hl7:=m7.len
  refine v1 (ae o7) ?_
  refine⟨⟨by omega,by omega⟩,?_⟩
  refine v4 (ae q7) anB anD q8 ?_
  refine(dE m7.ring m7.inv (x:=t) (y:=x) (by omega) (by omega)).mono ?_
  rintro _ H8 ⟨rfl,N8,P8,r8,l8,n8,i8,e8⟩
  have m8:=m7.xN r8 i8 e8 l8
  have f8:=f5.R9 (t:=t) (A:=A) (by rw[hg];exact hr)
  rw[hg,←n8]at f8
  refine vs ?_
  refine⟨N8,P8,L7,(A0++[y]),m8,f8,fun z=>?_,tQ,(((zE.trans (e5.mono fun z _ h=>h.elim .inl fun h=>.inr (.inl h))).trans (e6.mono fun z _ h=>.inr (.inr h))).trans (e7.mono fun z _ h=>.inr (.inr h))).trans (e8.mono fun z _ h=>h.elim .inl fun h=>.inr (.inl h))⟩
  rw[k7,k6]
  obtain⟨uz,kz,dz⟩:=hp z
  by_cases h1:z=x
  ·rw[h1]
   rw[h1]at kz dz
   unfold pQ aK aA
   simp only[if_true,if_neg ec.symm,k4x]
   exact⟨trivial,kz,dz⟩
  ·unfold pQ aK aA
   simp only[if_neg h1]
   by_cases h2:z=p
   ·rw[h2]
    simp only[if_true,if_neg ec,k4p]
    refine⟨up,UH,?_⟩
    rw[ol];simp
   ·simp only[if_neg h2,k4o z h2]
    exact⟨uz,kz,dz⟩
end
end Go.Proofs.YtjlnnljohemifaaGreat

namespace Go.Proofs.YtjlnnljohemifaaGreat
open Go Go.Vc
section
variable {H H' : Hp} {B : FB} {C V : Nat → Prop} {w : Nw} {N P : List Int} {L : List Pc} {tops : List Int} {ch : Int → List Int} {par : Int → Int} {ax : Int → List Int} {W : List Int}
theorem Eu(m:bX H B C w N P L tops){lt:Int→Int→Bool}(hs:bC lt){x g t:Int}{A:List Int}(f:dW (aI w) lt (cr N) ch par ax W)(hp:Lw (eY L) ch par)(hg:aI w x=g)(SN:0<g)(dD:g<tops.length)(hr:ax g=t::A)(ht:bm tops g=t):
  ai Tryz.prog rT [ptr B.n,i64 g,i64 x] H fun v H'=>ay (∃N' P' L' dV bH A',bX H' B C w N' P' L' tops∧dW (aI w) lt (cr N') dV bH (aA ax g (t::A')) W∧Lw (eY L') dV bH∧(∀z,par z= -1→bH z= -1)∧
   ah (fun z=>z=B.nb∨z=B.pb∨z=B.tb) H H'):=by
 have e0:aA ax g (t::A)=ax:=by
  funext z
  unfold aA
  split
  ·rename_i e;rw[e,hr]
  ·rfl
 refine ba sk ⟨rfl,?_⟩
 refine v1 ep.eq_1 ?_
 refine bA.intro (fun mm env H'=>∃ (x:Int) (N' P':List Int) (L':List Pc) (dV:Int→List Int) (bH:Int→Int) (A':List Int),mm=Nv lt w.cs.length x∧aI w x=g∧bX H' B C w N' P' L' tops∧dW (aI w) lt (cr N') dV bH (aA ax g (t::A')) W∧Lw (eY L') dV bH∧(∀z,par z= -1→bH z= -1)∧
   ah (fun z=>z=B.nb∨z=B.pb∨z=B.tb) H H'∧env=[(0,ptr B.n),(1,i64 g),(2,i64 x)]) _ ⟨x,N,P,L,ch,par,A,rfl,hg,m,by rw[e0];exact f,hp,fun _ h=>h,ah.refl _ _,rfl⟩ ?_
 rintro mm env H1 ⟨y,N1,P1,L1,PL,zJ,A1,rfl,hy,m1,f1,p1,u1,e1,rfl⟩
 obtain⟨y0,y1,_⟩:=aH (w:=w) (x:=y) (by omega)
 obtain⟨tv,o1,_⟩:=m1.own
 obtain⟨a0,a1,a2,a3,a4⟩:=m1.rd ⟨y0,y1⟩
 obtain⟨uy,_,_⟩:=p1 y
 have hl:=m1.len
 rw[uy]at a1
 refine v1 (ae o1) ?_
 refine⟨⟨by omega,by omega⟩,?_⟩
 refine v4 (ae m1.places) anB Nat.add_zero a1 ?_
 refine am.dec (fun h0=>?_) (fun h0=>?_)<;>refine v1 (ae o1) ?_
 ·exact⟨N1,P1,L1,PL,zJ,A1,m1,f1,p1,u1,e1⟩
 refine⟨⟨by omega,by omega⟩,?_⟩
 refine v3 (ae m1.places) anB a4 ?_
 have hyc:=f1.pr.up y _ rfl h0
 obtain⟨_,_,h3,h4,h5⟩:=f1.pr.dn _ _ hyc
 cases hm:(eY L1 y).m
 ·refine v1 (ae o1) ?_
  refine⟨⟨by omega,by omega⟩,?_⟩
  obtain⟨L2,k2,m2,e2⟩:=m1.cY ⟨y0,y1⟩ true
  refine v2 m1.places anB ?_
  refine⟨by omega,?_⟩
  refine vs ?_
  refine⟨N1,P1,L2,PL,zJ,A1,m2,f1,fun z=>?_,u1,e1.trans (e2.mono fun z _ h=>.inr (.inr h))⟩
  rw[k2]
  unfold pQ
  split
  ·rename_i e;rw[e];exact p1 y
  ·exact p1 z
 ·refine v1 (ae o1) ?_
  refine⟨⟨by omega,by omega⟩,?_⟩
  refine v4 (ae m1.places) anB Nat.add_zero a1 ?_
  refine(C0 m1 hs f1 p1 hyc hy dD (A:=A1) (by unfold aA;rw[if_pos rfl]) ht).mono ?_
  rintro _ H2 ⟨N2,P2,L2,l,m2,f2,p2,tQ,e2⟩
  rw[eJ]at f2
  refine vs ?_
  obtain⟨z0,z1,_⟩:=aH (w:=w) (x:=zJ y) (by omega)
  refine⟨Nv lt w.cs.length (zJ y),Gd hs ⟨z0,by omega⟩ h5,zJ y,N2,P2,L2,_,_,y::A1,rfl,by omega,m2,f2,p2,fun z hz=>?_,e1.trans e2,rfl⟩
  unfold aK
  split
  ·rfl
  ·exact u1 z hz
theorem F1(m:bX H B C w N P L tops){lt:Int→Int→Bool}(hs:bC lt){x g t:Int}{A:List Int}(f:dW (aI w) lt (cr N) ch par ax W)(hp:Lw (eY L) ch par)(hg:aI w x=g)(SN:0<g)(dD:g<tops.length)(hr:ax g=t::A)(ht:bm tops g=t):
  ai Tryz.prog sS [ptr B.n,i64 g,i64 x] H fun v H'=>ay (∃N' P' L' dV bH A',bX H' B C w N' P' L' tops∧dW (aI w) lt (cr N') dV bH (aA ax g (t::A')) W∧Lw (eY L') dV bH∧bH x= -1∧(∀z,par z= -1→bH z= -1)∧
   ah (fun z=>z=B.nb∨z=B.pb∨z=B.tb) H H'):=by
 obtain⟨y0,y1,_⟩:=aH (w:=w) (x:=x) (by omega)
 obtain⟨tv,o1,_⟩:=m.own
 obtain⟨a0,a1,a2,a3,a4⟩:=m.rd ⟨y0,y1⟩
 obtain⟨uy,_,_⟩:=hp x
 have hl:=m.len
 rw[uy]at a1
 refine ba ti ⟨rfl,?_⟩
 refine v2 eR.eq_1 (ae o1) ?_
 refine⟨⟨by omega,by omega⟩,?_⟩
 refine v4 (ae m.places) anB Nat.add_zero a1 ?_
 refine am.dec (fun h0=>?_) (fun h0=>?_)<;>refine vs ?_
 ·have e0:aA ax g (t::A)=ax:=by
   funext z
   unfold aA
   split
   ·rename_i e;rw[e,hr]
   ·rfl
  exact⟨N,P,L,ch,par,A,m,by rw[e0];exact f,hp,h0,fun _ h=>h,ah.refl _ _⟩
 have hxc:=f.pr.up x _ rfl h0
 obtain⟨_,_,h3,h4,h5⟩:=f.pr.dn _ _ hxc
 refine(C0 m hs f hp hxc hg dD hr ht).mono ?_
 rintro _ H2 ⟨N2,P2,L2,l,m2,f2,p2,tQ,e2⟩
 refine vs ?_
 refine(Eu m2 hs (x:=par x) (A:=x::A) f2 p2 (by omega) SN dD (by unfold aA;rw[if_pos rfl]) ht).mono ?_
 rintro _ H3 ⟨N3,P3,L3,Nr,sE,A3,m3,f3,p3,u3,e3⟩
 rw[eJ]at f3
 refine vs ?_
 exact⟨N3,P3,L3,Nr,sE,A3,m3,f3,p3,u3 x (by unfold aK;rw[if_pos rfl]),fun z hz=>u3 z (by unfold aK;split;rfl;exact hz),e2.trans e3⟩
end
end Go.Proofs.YtjlnnljohemifaaGreat

namespace Go.Proofs.YtjlnnljohemifaaGreat
open Go Go.Vc
theorem KO(a b:List Int):ws (a++b)=ws a++ws b:=by unfold ws;rw[apE]
theorem S5{l:List Int}{d:Nat}{y v:Int}(h:l[d]? =some y):(ws [y]++ws (l.set d v)).Perm (ws [v]++ws l):=by
 have hd:=(anA.1 h).1
 have e1:l=l.take d++y::l.drop (d+1):=by
  rw[anx hd]at h
  injection h with h
  rw[←h,←aoK hd,apn]
 have e2:l.set d v=l.take d++v::l.drop (d+1):=by
  rw[List.set_eq_take_append_cons_drop,if_pos hd]
 rw[e2]
 generalize ha:l.take d=a at*
 generalize hb:l.drop (d+1)=b at*
 rw[e1,KO,KO,pG v b,pG y b,aph]
 intro z
 simp only[apt]
 omega
section
variable {H H' : Hp} {B : FB} {C V : Nat → Prop} {w : Nw} {N P : List Int} {L : List Pc} {tops : List Int} {ch : Int → List Int} {par : Int → Int} {ax : Int → List Int} {W : List Int}
structure QL(w:Nw)(g:Int)(nx:Int→Int)(Iz ch:Int→List Int)(par:Int→Int)(ax:Int→List Int)(sN rest W0:List Int):Prop where
 f:dW (aI w) (aU w) nx ch par ax (ws sN++(rest++W0))
 td:∀ (d:Nat) y,sN[d]? =some y→y≠ -1→(ch y).length=d∧aI w y=g
 rh:∀y∈rest,aI w y=g
 c0:∀z∈W0,ch z=Iz z
 tl:sN.length≤w.cs.length+1
set_option maxRecDepth 100000 in
set_option maxHeartbeats 4000000 in
theorem Jh(m:bX H B C w N P L tops){roots W0:List Int}{g:Int}{b o rc:Nat}{lb:List Value}(hb:H.own b=some lb)(kG:∀ (i:Nat) y,roots[i]? =some y→lb[o+i]? =some (i64 y))(WO:¬B.S C b)(t0:QL w g (cr N) ch ch par ax [] roots W0)(hp:Lw (eY L) ch par)(WS:roots.length≤65536):
  ai Tryz.prog vK [ptr B.n,.slice (some ⟨b,o,none⟩) roots.length rc] H fun v H'=>ay (∃N' P' L' dV bH sN fq,bX H' B C w N' P' L' tops∧QL w g (cr N') ch dV bH ax sN [] W0∧Lw (eY L') dV bH∧
   Sl H' 1 v sN.length (sN.map i64) fq∧(∀z,fq=some z→H.size≤z)∧ah (fun z=>C z∨z=B.nb∨z=B.pb∨z=B.tb) H H'):=by
 have zD:=m.cells.FM
 have hbl:=aG hb
 have hS:=m.slt
 have ls:=au w
 have hTb:∀ {z:Nat},(C z∨z=B.nb∨z=B.pb∨z=B.tb)→B.S C z:=fun h=>by
  rcases h with h|h|h|h
  ·exact .inl h
  ·exact .inr (.inr (.inr (.inl h)))
  ·exact .inr (.inr (.inr (.inr (.inl h))))
  ·exact .inr (.inr (.inr (.inr (.inr (.inl h)))))
 refine ba vW ⟨rfl,?_⟩
 refine v1 fQ.eq_1 ?_
 refine bA.intro (fun mm env H'=>∃ (i:Nat) (N' P':List Int) (L':List Pc) (dV:Int→List Int) (bH:Int→Int) (sN:List Int) (wv:Value) (fq:Option Nat),mm=roots.length - i∧i≤roots.length∧bX H' B C w N' P' L' tops∧QL w g (cr N') ch dV bH ax sN (roots.drop i) W0∧Lw (eY L') dV bH∧
   Sl H' 1 wv sN.length (sN.map i64) fq∧(∀z,fq=some z→H.size≤z)∧ah (fun z=>C z∨z=B.nb∨z=B.pb∨z=B.tb∨H.size≤z) H H'∧
   env=[(0,ptr B.n),(5,wv),(10,.slice (some ⟨b,o,none⟩) roots.length rc),(11,i64 roots.length),(12,i64 i)]) _ ⟨0,N,P,L,ch,par,[],_,none,rfl,by omega,m,t0,hp,Sl.nil _ _,(fun z h=>by cases h),ah.refl _ _,rfl⟩ ?_
 rintro mm env H1 ⟨i,N1,P1,L1,PL,zJ,sN,wv,fq,rfl,hi,m1,t1,p1,s1,Lx,e1,rfl⟩
 refine vs ?_
 refine am.dec (fun gi=>?_) (fun gi=>?_)<;>refine vs ?_
 rotate_left
 ·obtain rfl:i=roots.length:=by omega
  rw[List.drop_length]at t1
  exact⟨N1,P1,L1,PL,zJ,sN,fq,m1,t1,p1,s1,Lx,e1.mono fun z hz h=>by
   rcases h with h|h|h|h|h
   ·exact .inl h
   ·exact .inr (.inl h)
   ·exact .inr (.inr (.inl h))
   ·exact .inr (.inr (.inr h))
   ·omega⟩
 have oq:i<roots.length:=by omega
 obtain⟨x,hx⟩:∃x,roots[i]? =some x:=⟨_,anx oq⟩
 have dr:roots.drop i=x::roots.drop (i+1):=by
  rw[aoK oq]
  congr 1
  rw[anx oq]at hx
  injection hx
 have ob:H1.own b=some lb:=e1.own hb (fun h=>by
  rcases h with h|h|h|h|h
  ·exact WO (hTb (.inl h))
  ·exact WO (hTb (.inr (.inl h)))
  ·exact WO (hTb (.inr (.inr (.inl h))))
  ·exact WO (hTb (.inr (.inr (.inr h))))
  ·omega)
 refine⟨⟨by omega,by omega⟩,?_⟩
 refine v4 (ae ob) anD Int.toNat_natCast (kG i x hx) ?_
 rw[dr]at t1
 have afN:x∈ws sN++(x::roots.drop (i+1)++W0):=by simp
 refine bA.intro (fun mm env H'=>∃ (x:Int) (N' P':List Int) (L':List Pc) (dV:Int→List Int) (bH:Int→Int) (sN:List Int) (wv:Value) (fq:Option Nat),mm=(ws sN).length∧bX H' B C w N' P' L' tops∧QL w g (cr N') ch dV bH ax sN (x::roots.drop (i+1)) W0∧Lw (eY L') dV bH∧
   Sl H' 1 wv sN.length (sN.map i64) fq∧(∀z,fq=some z→H.size≤z)∧ah (fun z=>C z∨z=B.nb∨z=B.pb∨z=B.tb∨H.size≤z) H H'∧
   env=[(0,ptr B.n),(5,wv),(7,i64 x),(10,.slice (some ⟨b,o,none⟩) roots.length rc),(11,i64 roots.length),(12,i64 i)]) _ ⟨x,N1,P1,L1,PL,zJ,sN,wv,fq,rfl,m1,t1,p1,s1,Lx,e1,rfl⟩ ?_
 clear hx dr afN m1 t1 p1 s1 Lx e1 ob
 rintro mm env H2 ⟨x,N2,P2,L2,om,mc,sN,wv,fq,rfl,m2,t2,p2,s2,Lx,e2,rfl⟩
 have xJ:=t2.f.S0 (x:=x) (by simp)
 have PA:=t2.rh x (by simp)
 have wC:=m2.len
 obtain⟨tv,o2,_⟩:=m2.own
 obtain⟨a0,a1,a2,a3,a4⟩:=m2.rd xJ
 rw[(p2 x).2.2]at a3
 have rG:(om x).length≤w.cs.length:=bV (t2.f.pr.nd x) fun c hc=>t2.f.Iq hc
 refine v1 (ae o2) ?_
 refine⟨⟨by omega,by omega⟩,?_⟩
 refine v3 (ae m2.places) anB a3 ?_
 refine bA.intro (fun mm env H'=>∃ (tb:List Int) (wv:Value) (fq:Option Nat),mm=(om x).length+1 - tb.length∧ws tb=ws sN∧bX H' B C w N2 P2 L2 tops∧QL w g (cr N2) ch om mc ax tb (x::roots.drop (i+1)) W0∧
   Sl H' 1 wv tb.length (tb.map i64) fq∧(∀z,fq=some z→H.size≤z)∧ah (fun z=>C z∨z=B.nb∨z=B.pb∨z=B.tb∨H.size≤z) H H'∧
   env=[(0,ptr B.n),(5,wv),(7,i64 x),(8,i64 (om x).length),(10,.slice (some ⟨b,o,none⟩) roots.length rc),(11,i64 roots.length),(12,i64 i)]) _ ⟨sN,wv,fq,rfl,rfl,m2,t2,s2,Lx,e2,rfl⟩ ?_
 have Zl:(ws sN).length≤w.cs.length:=by
  have h1:=bV t2.f.wn fun c hc=>t2.f.S0 hc
  rw[anL]at h1
  omega
 clear t2 m2 s2 Lx e2 o2 a1 a2 a3 a4
 rintro mm env H3 ⟨tb,wv,fq,rfl,hws,m3,t3,s3,Lx,e3,rfl⟩
 have z3:=e3.size
 have Mr:=t3.tl
 obtain⟨wa,wc,rfl⟩:=Sl.shape s3
 refine vs ?_
 refine am.dec (fun gd=>?_) (fun gd=>?_)<;>refine vs ?_
 ·refine EZ (B:=H.size) Lx z3 s3 (-1) (by omega) fun w' H4 fq' S7 s4 e4=>?_
  refine vs ?_
  refine⟨(om x).length+1 - (tb.length+1),by omega,tb++[-1],w',fq',by simp,by rw[KO,ed,if_pos rfl,aow,hws],m3.ext e4 (fun z hz ez=>by have:=hS z hz;omega),⟨?_,fun d y hd hy=>?_,t3.rh,t3.c0,?_⟩,s4,S7,e3.trans (e4.mono fun z _ h=>.inr (.inr (.inr (.inr h)))),rfl⟩
  ·rw[KO,ed,if_pos rfl,aow];exact t3.f
  ·rcases ao3 d tb.length with h|h|h
   ·rw[anS h]at hd;exact t3.td d y hd hy
   ·subst h
    rw[an5 (anO _),aoJ]at hd
    simp at hd
    exact absurd hd.symm hy
   ·rw[anP (by simp;omega)]at hd;cases hd
  ·rw[anL,an6];omega
 have oZ:(om x).length<tb.length:=by omega
 obtain⟨y,hy⟩:∃y,tb[(om x).length]? =some y:=⟨_,anx oZ⟩
 obtain⟨_,qb,ql,rfl,q2,q3⟩:=Sl.Bl s3 hy
 have hqb:fq=some qb:=by
  cases fq with
  |none=>have:=s3.2.2;injection this with h1;cases h1
  |some b'=>obtain⟨_,_,h1,_⟩:=s3.2;injection h1 with h1;injection h1 with h1;injection h1 with h1;rw[h1]
 subst hqb
 have hqs:=Lx qb rfl
 have akd:=aG q2
 have hql:=(anA.1 q3).1
 have hMq:∀z,B.S C z→z≠qb:=fun z hz e=>by have:=hS z hz;omega
 refine⟨⟨by omega,by omega⟩,?_⟩
 refine v5 (ae q2) anB anD Int.toNat_natCast q3 ?_
 refine am.dec (fun gy=>?_) (fun gy=>?_)<;>refine vs ?_
 ·refine⟨⟨by omega,by omega⟩,?_⟩
  refine v4 q2 anB anD Int.toNat_natCast ?_
  refine⟨by omega,?_⟩
  have s4:=s3.ww q2 (om x).length (i64 x)
  have e4:ah (fun z=>z=qb) H3 (H3.wr qb (ql.set (om x).length (i64 x))):=(ah.refl (fun z=>z=qb) _).wr (fun _=>rfl) _
  refine vs ?_
  have tQ:=S5 (v:=x) hy
  rw[ed y,if_pos gy,ed x,if_neg (t3.f.Y7 (c:=x) (by simp)),aoM]at tQ
  have m4:=m3.ext e4 (fun z hz ez=>hMq z hz ez)
  have s5:Sl (H3.wr qb (ql.set (om x).length (i64 x))) 1 (.slice (some ⟨qb,0,none⟩) (tb.set (om x).length x).length wc) (tb.set (om x).length x).length ((tb.set (om x).length x).map i64) (some qb):=by
   rw[anC,aoo];exact s4
  refine⟨roots.length - (i+1),by omega,i+1,N2,P2,L2,om,mc,tb.set (om x).length x,_,some qb,rfl,by omega,m4,⟨?_,fun d z hd hz=>?_,fun z hz=>t3.rh z (by simp[hz]),t3.c0,by rw[anC];exact t3.tl⟩,p2,s5,Lx,e3.trans (e4.mono fun z _ h=>.inr (.inr (.inr (.inr (by omega))))),?_⟩
  ·refine t3.f.perm ?_
   rw[aph]at tQ ⊢
   intro z
   have:=tQ z
   simp only[apt,aoX,apr]at this ⊢
   simp only[List.count_nil]at this
   omega
  ·by_cases h:d=(om x).length
   ·rw[h,anI oZ]at hd
    injection hd with hd
    subst hd
    exact⟨h.symm,PA⟩
   ·rw[anH (Ne.symm h)]at hd
    exact t3.td d z hd hz
  ·rw[wrap64 (by omega) (by omega),anC]
   rfl
 ·obtain⟨Wa,hyg⟩:=t3.td _ y hy gy
  have tQ:=S5 (v:= -1) hy
  rw[ed y,if_neg gy,ed (-1),if_pos rfl,aoM]at tQ
  obtain⟨Ji,S8⟩:∃Ji,Ji=tb.set (om x).length (-1):=⟨_,rfl⟩
  have f4:dW (aI w) (aU w) (cr N2) om mc ax (y::x::(ws Ji++(roots.drop (i+1)++W0))):=by
   refine t3.f.perm ?_
   rw[←S8]at tQ
   rw[aph]at tQ ⊢
   intro z
   have:=tQ z
   simp only[apt,aoX,aoM,apr,List.count_nil]at this ⊢
   omega
  have ah2:(ws tb).length=(ws Ji).length+1:=by
   rw[←S8]at tQ
   have:=tQ.length_eq
   simp only[aoX,aoM,anY]at this
   omega
  have htd:∀ (d:Nat) z,Ji[d]? =some z→z≠ -1→(om z).length=d∧aI w z=g:=fun d z hd hz=>by
   rw[S8]at hd
   by_cases h:d=(om x).length
   ·rw[h,anI oZ]at hd
    injection hd with hd
    exact absurd hd.symm hz
   ·rw[anH (Ne.symm h)]at hd
    exact t3.td d z hd hz
  refine⟨⟨by omega,by omega⟩,?_⟩
  refine v4 q2 anB anD Int.toNat_natCast ?_
  refine⟨by omega,?_⟩
  have s4:=s3.ww q2 (om x).length (i64 (-1))
  have e4:ah (fun z=>z=qb) H3 (H3.wr qb (ql.set (om x).length (i64 (-1)))):=(ah.refl (fun z=>z=qb) _).wr (fun _=>rfl) _
  have s5:Sl (H3.wr qb (ql.set (om x).length (i64 (-1)))) 1 (.slice (some ⟨qb,0,none⟩) Ji.length wc) Ji.length (Ji.map i64) (some qb):=by
   rw[S8,anC,aoo];exact s4
  have Ew:Ji.length=tb.length:=by rw[S8,anC]
  refine vs ?_
  have m4:=m3.ext e4 (fun z hz ez=>hMq z hz ez)
  generalize H3.wr qb (ql.set (om x).length (Value.int .i64 (-1)))=H4 at*
  obtain⟨tv4,o4,_⟩:=m4.own
  refine v1 (ae o4) ?_
  refine(cK m4.cells y x).mono ?_
  rintro _ H5 ⟨rfl,c5,e5⟩
  have m5:=m4.aN c5 e5 rfl
  have rj:y≠x:=fun e=>by have:=f4.wn;rw[e]at this;simp at this
  have Sb:0<aI w x:=(f4.wm x (by simp)).2.2
  rw[jp (w:=w) (a:=y) (b:=x) (by omega) Sb]
  have s6:=s5.ext e5 (fun z hz ez=>by injection hz with hz;exact hMq z (.inl ez) hz.symm)
  obtain⟨p,q,Pf,hl,f5,hpg⟩:∃p q,(if aU w y x=true then(p=y∧q=x)else(p=x∧q=y))∧aU w p q=true∧dW (aI w) (aU w) (cr N2) om mc ax (p::q::(ws Ji++(roots.drop (i+1)++W0)))∧aI w p=g∧aI w q=g:=by
   cases aR:aU w y x
   ·exact⟨x,y,by simp,(ls.Pj x y rj.symm).resolve_right (by rw[aR];simp),f4.perm (List.Perm.swap ..),PA,hyg⟩
   ·exact⟨y,x,by simp,aR,f4,hyg,PA⟩
  cases aR:aU w y x<;>simp only[aR,if_true,if_false,aoQ]at Pf<;>obtain⟨rfl,rfl⟩:=Pf<;>refine vs ?_
  all_goals
   refine(HC m5 (x:=p) (y:=q) f5 p2 (by omega) hl).mono ?_
   rintro _ H6 ⟨N6,P6,L6,Zq,OA,m6,f6,p6,hc6,ho6,e6⟩
   have hn6:=f6.wn
   rw[anV]at hn6
   have s7:=s6.ext e6 (fun z hz ez=>by injection hz with hz;exact hMq z (hTb (.inr ez)) hz.symm)
   refine vs ?_
   refine⟨(ws Ji).length,by rw[←hws];omega,p,N6,P6,L6,Zq,OA,Ji,_,some qb,rfl,m6,⟨?_,fun d z hd hz=>?_,fun z hz=>?_,fun z hz=>?_,by rw[Ew];exact t3.tl⟩,p6,s7,Lx,((e3.trans (e4.mono fun z _ h=>.inr (.inr (.inr (.inr (by omega)))))).trans (e5.mono fun z _ h=>.inl h)).trans (e6.mono fun z _ h=>by
    rcases h with h|h|h
    ·exact .inr (.inl h)
    ·exact .inr (.inr (.inl h))
    ·exact .inr (.inr (.inr (.inl h)))),by rw[Ew]⟩
   ·refine f6.perm ?_
    rw[aph]
    intro z
    simp only[apt,aoX,apr]
    omega
   ·have hzp:z≠p:=fun e=>hn6.1 (by
     rw[←e]
     refine aoh _ ?_
     unfold ws
     exact apD.2 ⟨anG hd,by simp[hz]⟩)
    rw[ho6 z hzp]
    exact htd d z hd hz
   ·rcases anN.1 hz with h|h
    ·rw[h];exact hpg.1
    ·exact t3.rh z (by simp[h])
   ·have hzp:z≠p:=fun e=>hn6.1 (by rw[←e];simp[hz])
    rw[ho6 z hzp]
    exact t3.c0 z hz
end
end Go.Proofs.YtjlnnljohemifaaGreat

namespace Go.Proofs.YtjlnnljohemifaaGreat
open Go Go.Vc
structure XA(w:Nw)(N:List Int)(L:List Pc)(tops:List Int)(ch:Int→List Int)(par:Int→Int)(ax:Int→List Int):Prop where
 f:dW (aI w) (aU w) (cr N) ch par ax []
 pc:Lw (eY L) ch par
 tp:∀g,bm tops g=(ax g).headD (-1)
 ls:∀g y,0<g→aI w y=g→bm tops g≠ -1∧(y≠bm tops g→aU w (bm tops g) y=true)
 tl:tops.length=w.hs.length
def kL(n:Nat)(H:Hp)(S:Nat→Prop)(w:Nw):Prop:=∃ (B:FB) (C:Nat→Prop) (N P:List Int) (L:List Pc) (tops:List Int) (ch:Int→List Int) (par:Int→Int) (ax:Int→List Int),B.n=n∧bX H B C w N P L tops∧XA w N L tops ch par ax∧∀z,S z↔B.S C z
theorem kL.slt{n:Nat}{H:Hp}{S:Nat→Prop}{w:Nw}(h:kL n H S w):∀z,S z→z<H.size:=by
 obtain⟨B,C,N,P,L,tops,ch,par,ax,rfl,m,l,hS⟩:=h
 exact fun z hz=>m.slt z ((hS z).1 hz)
theorem kL.ext{n:Nat}{H H':Hp}{S V:Nat→Prop}{w:Nw}(h:kL n H S w)(e:ah V H H')(hd:∀z,S z→¬V z):kL n H' S w:=by
 obtain⟨B,C,N,P,L,tops,ch,par,ax,rfl,m,l,hS⟩:=h
 exact⟨B,C,N,P,L,tops,ch,par,ax,rfl,m.ext e (fun z hz=>hd z ((hS z).2 hz)),l,hS⟩
theorem XA.first{w:Nw}{N:List Int}{L:List Pc}{tops:List Int}{ch:Int→List Int}{par:Int→Int}{ax:Int→List Int}(l:XA w N L tops ch par ax){g x:Int}(h:w.first g x):bm tops g=x:=by
 obtain⟨h1,h2,h3⟩:=bO.1 h
 obtain⟨h4,h5⟩:=l.ls g x h1 h2
 apply anX
 intro aS
 have h6:=h5 (Ne.symm aS)
 have ht:aI w (bm tops g)=g:=by
  have hm:bm tops g∈ax g:=by
   have:=l.tp g
   rw[this]at h4 ⊢
   exact eI h4
  exact(l.f.rm g _ hm).1
 have h7:=h3 _ ht aS
 rw[(au w).asym h6]at h7
 cases h7
theorem C1{n:Nat}{H:Hp}{S:Nat→Prop}{w:Nw}(h:kL n H S w)(g:Int):ai Tryz.prog nE [ptr n,i64 g] H fun v H'=>ay (
  ((w.len g=0∧v= .tuple [i64 0,.bool false].toArray)∨∃x,w.first g x∧v= .tuple [i64 x,.bool true].toArray)∧H'=H):=by
 obtain⟨B,C,N,P,L,tops,ch,par,ax,rfl,m,l,hS⟩:=h
 obtain⟨cc,lt,ho,q2,Cz,yz,Nq⟩:=m.hG
 refine ba xk ⟨rfl,?_⟩
 refine v2 gM.eq_1 (ae ho) ?_
 refine(xC m.cells g).mono ?_
 rintro _ _ ⟨rfl,rfl⟩
 refine vs ?_
 refine am.dec (fun h0=>?_) (fun h0=>?_)
 ·refine vs ?_
  exact⟨.inl ⟨h0,rfl⟩,rfl⟩
 have hg:0<g:=anX fun hg=>h0 (Nw.I9.2 (.inl (by omega)))
 obtain⟨x,hx⟩:=xB hg h0
 have hh:=(bO.1 hx).2.1
 have dD:=((m.cells.hm x).2 (by omega)).2
 rw[hh,←l.tl]at dD
 have q3:=m.fB q2 (dY (tops:=tops) (h:=g) (by omega) dD)
 rw[l.first hx]at q3
 refine v1 (ae ho) ?_
 refine⟨⟨by omega,by omega⟩,?_⟩
 refine v4 (ae q2) anB anD q3 ?_
 exact⟨.inr ⟨x,hx,rfl⟩,rfl⟩
theorem F2{n:Nat}{H:Hp}{S:Nat→Prop}{w:Nw}(h:kL n H S w)(g x k s:Int):ai Tryz.prog kA [ptr n,i64 g,i64 x,wq k s] H fun v H'=>ay (
  (¬w.oR g x∧v= .bool false∧cD (kL n) S H H' w)∨(w.oR g x∧v= .bool true∧cD (kL n) S H H' (w.put x (g,k,s)))):=by
 obtain⟨B,C,N,P,L,tops,ch,par,ax,rfl,m,l,hS⟩:=h
 have hC:∀z,C z→S z:=fun z h=>(hS z).2 (.inl h)
 refine ba th ⟨rfl,?_⟩
 refine v1 eQ.eq_1 ?_
 have f0:aq H (H.new 224 [i64 k,u64 s]):=(ah.refl _ _).new _ _
 have b0:(H.new 224 [i64 k,u64 s]).own H.size=some [i64 k,u64 s]:=aE _ _ _
 have m0:=m.fresh f0
 generalize H.new 224 [i64 k,u64 s]=H0 at*
 have ff:ah S H H0:=f0.mono fun _ _ h=>h.elim
 obtain⟨tv,KH,_⟩:=m0.own
 refine v2 (ae KH) (ae b0) ?_
 refine(nP m0.cells g x k s).mono ?_
 rintro _ H1 (⟨cw,rfl,c1,e1⟩| ⟨tD,rfl,c1,e1⟩)
 ·refine vs ?_
  exact .inl ⟨cw,rfl,cD.same ⟨B,C,N,P,L,tops,ch,par,ax,rfl,m0.aN c1 e1 rfl,l,hS⟩ (ff.trans (e1.mono fun z _ hz=>hC z hz))⟩
 obtain⟨hh,hx,bQ⟩:=id tD
 have m2:=m0.aN c1 e1 (by simp[Nw.put])
 have hg:=hh.1
 have dD:g<tops.length:=by
  have:=(anA.1 hh.2).1
  have:=l.tl
  omega
 have cV:=fun y=>eC hx (g,k,s) y
 have ik:aI w x≤0:=Int.not_lt.1 fun h=>bQ (bK.1 h)
 have el:∀a b,0<aI w a→0<aI w b→a≠x→b≠x→aU (w.put x (g,k,s)) a b=aU w a b:=fun a b ha hb tT oS=>dI hx _ ha hb tT oS
 have f2:dW (aI (w.put x (g,k,s))) (aU (w.put x (g,k,s))) (cr N) ch par ax (x::[]):=l.f.put (g:=g) rfl ik (by omega) (by omega) (by rw[cV,if_pos rfl]) (fun y hy=>by rw[cV,if_neg hy]) el
 refine vs ?_
 refine(zZ m2 f2 (by rw[cV,if_pos rfl]) dD (l.tp g)).mono ?_
 rintro _ H3 ⟨N3,P3,abj,ll,m3,Ua,ht3,f3,Ls,It,VX,hlT,e3⟩
 refine vs ?_
 have hhm:∀y,aI w y=g→y≠x:=fun y hy e=>by rw[e]at hy;omega
 have hTg:bm tops g≠ -1→aI w (bm tops g)=g:=fun h=>by
  have hm:bm tops g∈ax g:=by
   have:=l.tp g
   rw[this]at h ⊢
   exact eI h
  exact(l.f.rm g _ hm).1
 refine .inr ⟨tD,rfl,cD.same ⟨B,C,N3,P3,L,abj,ch,par,_,rfl,m3,⟨f3,l.pc,fun g2=>?_,fun g2 y Ex hy=>?_,by rw[Ua];exact l.tl⟩,hS⟩ ((ff.trans (e1.mono fun z _ h=>hC z h)).trans (e3.mono fun z _ h=>by
  rcases h with h|h|h|h
  ·exact hC z h
  ·exact(hS z).2 (.inr (.inr (.inr (.inl h))))
  ·exact(hS z).2 (.inr (.inr (.inr (.inr (.inl h)))))
  ·exact(hS z).2 (.inr (.inr (.inr (.inr (.inr (.inr h))))))))⟩
 ·rw[ht3]
  unfold kT aA
  split
  ·rfl
  ·exact l.tp g2
 ·rw[ht3]
  unfold kT
  rw[cV]at hy
  by_cases h2:g2=g
  ·rw[if_pos h2]
   refine⟨It,fun aS=>?_⟩
   by_cases rj:y=x
   ·rw[rj]at aS ⊢
    exact VX aS
   ·rw[if_neg rj]at hy
    obtain⟨h3,h4⟩:=l.ls g y (by omega) (by omega)
    have hTx:=hhm _ (hTg h3)
    rcases Ls with h5| ⟨h5,_⟩
    ·rw[h5]at aS hlT ⊢
     have h6:=hlT h3 hTx
     by_cases hyT:y=bm tops g
     ·rw[hyT];exact h6
     ·have h7:=h4 hyT
      rw[←el _ _ (by rw[hTg h3];omega) (by omega) hTx rj]at h7
      exact(au _).tr _ _ _ h6 h7
    ·rw[h5]at aS ⊢
     rw[el _ _ (by rw[hTg h3];omega) (by omega) hTx rj]
     exact h4 aS
  ·rw[if_neg h2]
   have rj:y≠x:=fun e=>by rw[if_pos e]at hy;exact h2 hy.symm
   rw[if_neg rj]at hy
   obtain⟨h3,h4⟩:=l.ls g2 y Ex hy
   refine⟨h3,fun aS=>?_⟩
   have hTx:bm tops g2≠x:=fun e=>by
    have hm:bm tops g2∈ax g2:=by
     have:=l.tp g2
     rw[this]at h3 ⊢
     exact eI h3
    have h5:=(l.f.rm g2 _ hm).1
    rw[e]at h5
    omega
   have hT2:aI w (bm tops g2)=g2:=by
    have hm:bm tops g2∈ax g2:=by
     have:=l.tp g2
     rw[this]at h3 ⊢
     exact eI h3
    exact(l.f.rm g2 _ hm).1
   rw[el _ _ (by omega) (by omega) hTx rj]
   exact h4 aS
theorem bX.bounds{H:Hp}{B:FB}{C:Nat→Prop}{w:Nw}{N P:List Int}{L:List Pc}{tops:List Int}(m:bX H B C w N P L tops):w.cs.length≤65536∧N.length=w.cs.length:=⟨m.cells.FM,m.len.2⟩
theorem xP{w:Nw}:∀x,0<aI w x→0≤x∧x<w.cs.length:=fun x h=>by
 obtain⟨a,b,_⟩:=aH h
 exact⟨a,b⟩
set_option maxRecDepth 100000 in
set_option maxHeartbeats 4000000 in
theorem Ey{n:Nat}{H:Hp}{S:Nat→Prop}{w:Nw}(h:kL n H S w)(g:Int):ai Tryz.prog jh [ptr n,i64 g] H fun v H'=>ay (
  (w.len g=0∧v= .tuple [i64 0,.bool false].toArray∧cD (kL n) S H H' w)∨(∃x,w.first g x∧v= .tuple [i64 x,.bool true].toArray∧cD (kL n) S H H' (w.put x (0,0,0)))):=by
 refine ba sj ⟨rfl,?_⟩
 refine v1 eo.eq_1 ?_
 refine(C1 h g).mono ?_
 rintro _ H' ⟨⟨h0,rfl⟩| ⟨x,hx,rfl⟩,e⟩
 ·obtain rfl:=e.symm
  refine vs ?_
  exact .inl ⟨h0,rfl,cD.same h (ah.refl _ _)⟩
 obtain rfl:=e.symm
 refine vs ?_
 obtain⟨B,C,N,P,L,tops,ch,par,ax,rfl,m,l,hS⟩:=h
 obtain⟨hg,PA,rG⟩:=bO.1 hx
 have htx:=l.first hx
 have ik:=xP (w:=w) x (by omega)
 have ls:=au w
 obtain⟨A,hr⟩:∃A,ax g=x::A:=by
  have h1:=l.tp g
  rw[htx]at h1
  cases hc:ax g with
  |nil=>rw[hc]at h1;exact absurd h1 (by show¬x= -1;omega)
  |cons c r=>rw[hc]at h1;exact⟨r,by rw[show x=c from h1]⟩
 have dD:g<tops.length:=by
  have:=((m.cells.hm x).2 (by omega)).2
  have:=l.tl
  omega
 refine(HD m l.f l.pc hr).mono ?_
 rintro _ H1 ⟨N1,P1,L1,A1,m1,f1,p1,e1⟩
 have Gs:aA ax g (x::A1) g=x::A1:=by unfold aA;rw[if_pos rfl]
 obtain⟨Eg,o1,_⟩:=m1.own
 obtain⟨zS,hN1⟩:=m1.bounds
 have BT:=f1.rc g
 have jd:=f1.rn g
 rw[Gs]at BT jd
 have bQ:∀c∈x::A1,0≤c∧c<w.cs.length:=fun c hc=>f1.rin (g:=g) (by rw[Gs];exact hc)
 have Ue:∀c∈x::A1,aI w c=g:=fun c hc=>(f1.rm g c (by rw[Gs];exact hc)).1
 have bv:=bV jd bQ
 rw[anY]at bv
 refine v1 (ae o1) ?_
 refine(sD m1.ring BT jd (fun c hc=>by have:=bQ c hc;omega) (by omega)).mono ?_
 rintro rv H2 ⟨b2,s2,G3,f2⟩
 obtain⟨ra,rc,rfl⟩:=Sl.shape s2
 have m2:=m1.fresh f2
 have z2:=f2.size
 obtain⟨Og,o2,_⟩:=m2.own
 have hS1:=m1.slt
 have afR:¬B.S C b2:=fun h=>by have:=hS1 _ h;omega
 obtain⟨_,l2,c2,fE,q2,Io,RE,Ub⟩:=id s2
 injection fE with fE akg abm
 subst fE abm
 rw[anD]at RE Ub
 have ol:(x::A1).length=A1.length+1:=anY
 refine vs ?_
 refine⟨⟨by omega,by omega,by omega,by omega⟩,?_⟩
 refine vs ?_
 obtain⟨o,kG,Sp⟩:∃o,(∀ (i:Nat) y,A1[i]? =some y→l2[o+i]? =some (i64 y))∧(Value.slice (if(rc:Int)=1 then some ⟨b2,0,none⟩else some ⟨b2,1,none⟩) A1.length (rc - 1))= .slice (some ⟨b2,o,none⟩) A1.length (rc - 1):=by
  rw[anY]at Io Ub
  by_cases h1:(rc:Int)=1
  ·refine⟨0,fun i y hy=>?_,by rw[if_pos h1]⟩
   have:=(anA.1 hy).1
   omega
  ·refine⟨1,fun i y hy=>?_,by rw[if_neg h1]⟩
   have hi:=(anA.1 hy).1
   have h7:((x::A1).map i64)[1+i]? =some (i64 y):=by rw[Nat.add_comm,aoy,aox,anT,hy];rfl
   rw[←Ub,aob,if_pos (by omega)]at h7
   exact h7
 have hv8:∀ (QM:Decidable ((rc:Int)=1)),Value.slice (@ite (Option Addr) ((rc:Int)=1) QM (some (⟨b2,0,none⟩:Addr)) (Option.map (fun(x:Addr)=>x.add (Int.toNat 1*1)) (some (⟨b2,0,none⟩:Addr)))) (((A1.length+1:Nat):Int).toNat - Int.toNat 1) ((rc:Int).toNat - Int.toNat 1)=Value.slice (some ⟨b2,o,none⟩) A1.length (rc - 1):=fun QM=>by
  rw[show((A1.length+1:Nat):Int).toNat - Int.toNat 1=A1.length by simp,show(rc:Int).toNat - Int.toNat 1=rc - 1 by simp,←Sp]
  by_cases h1:(rc:Int)=1
  ·rw[if_pos h1,if_pos h1]
  ·rw[if_neg h1,if_neg h1];rfl
 rw[hv8]
 generalize hR8:Value.slice (some ⟨b2,o,none⟩) A1.length (rc - 1)=R8 at*
 have Wh:S B.nb:=(hS _).2 (.inr (.inr (.inr (.inl rfl))))
 have Ji:S B.pb:=(hS _).2 (.inr (.inr (.inr (.inr (.inl rfl)))))
 have tb3:S B.tb:=(hS _).2 (.inr (.inr (.inr (.inr (.inr (.inl rfl))))))
 have tb4:S B.tp:=(hS _).2 (.inr (.inr (.inr (.inr (.inr (.inr rfl))))))
 have hC:∀z,C z→S z:=fun z h=>(hS z).2 (.inl h)
 have re:ah S H H2:=(e1.mono fun z _ h=>by
  rcases h with h|h|h
  ·exact h▸Wh
  ·exact h▸Ji
  ·exact h▸tb3).trans (f2.mono fun _ _ h=>h.elim)
 refine v1 (ae o2) ?_
 refine(sD m2.ring BT jd (fun c hc=>by have:=bQ c hc;omega) (by omega)).mono ?_
 rintro rv H3 ⟨b3,s3,UL,f3⟩
 obtain⟨ka,kc,rfl⟩:=Sl.shape s3
 have m3:=m2.fresh f3
 have q3:=f3.own q2 (fun h=>h)
 have z3:=f3.size
 have zU:ah S H H3:=re.trans (f3.mono fun _ _ h=>h.elim)
 have akj:¬B.S C b3:=fun h=>by have:=hS1 _ h;omega
 have U5:∀z,S z→z<H1.size:=fun z hz=>hS1 z ((hS z).1 hz)
 refine vs ?_
 refine bA.intro (fun mm env H'=>∃ (i:Nat) (N' P':List Int),mm=(x::A1).length - i∧i≤(x::A1).length∧bX H' B C w N' P' L1 tops∧dW (aI w) (aU w) (cr N') (aA ch x []) (gf ch par x) (aA ax g ((x::A1).drop i)) ((x::A1).take i).reverse∧
  Sl H' 1 (.slice ka (x::A1).length kc) (x::A1).length ((x::A1).map i64) (some b3)∧ah (fun z=>z=B.nb∨z=B.pb) H3 H'∧
  env=[(0,ptr B.n),(1,i64 g),(6,i64 x),(8,R8),(36,.slice ka (x::A1).length kc),(37,i64 (x::A1).length),(38,i64 i)]) _ ⟨0,N1,P1,rfl,by omega,m3,f1,s3,ah.refl _ _,rfl⟩ ?_
 rintro mm env H4 ⟨i,N4,P4,rfl,hi,m4,f4,s4,e4,rfl⟩
 obtain⟨tv4,o4,_⟩:=m4.own
 refine vs ?_
 refine am.dec (fun gi=>?_) (fun gi=>?_)<;>refine vs ?_
 ·have oq:i< (x::A1).length:=by omega
  obtain⟨c,JG⟩:∃c,(x::A1)[i]? =some c:=⟨_,anx oq⟩
  have JL:=bQ c (anG JG)
  obtain⟨_,kb,lb,rfl,qb,qc⟩:=Sl.Bl s4 JG
  have hkb:kb=b3:=by
   obtain⟨_,_,_,hh,_⟩:=s4
   injection hh with hh
   injection hh with hh
   injection hh with hh
  have dr:(x::A1).drop i=c::(x::A1).drop (i+1):=by
   rw[aoK oq]
   congr 1
   rw[anx oq]at JG
   injection JG
  have tk:(x::A1).take (i+1)=(x::A1).take i++[c]:=by rw[aoi,JG];rfl
  have XB:=m4.len
  refine⟨⟨by omega,by omega⟩,?_⟩
  refine v6 (ae qb) anB anD Int.toNat_natCast qc (ae o4) ?_
  refine(qK m4.ring m4.inv (x:=c) (by omega)).mono ?_
  rintro _ H5 ⟨rfl,N5,P5,r5,l5,n5,i5,e5⟩
  have m5:=m4.xN r5 i5 e5 l5
  have f5:=f4.aar (x:=c) (g:=g) (A:=(x::A1).drop (i+1)) m4.inv (by unfold aA;rw[if_pos rfl];exact dr)
  rw[eJ,←n5]at f5
  refine vs ?_
  refine⟨(x::A1).length - (i+1),by omega,i+1,N5,P5,rfl,by omega,m5,?_,s4.ext e5 (fun z hz h=>by
   injection hz with hz
   subst hz
   have h1:=U5 _ Wh
   have h2:=U5 _ Ji
   omega),e4.trans e5,?_⟩
  ·rw[tk,List.reverse_append]
   exact f5
  ·rw[wrap64 (by omega) (by omega)]
   rfl
 obtain rfl:i=(x::A1).length:=by omega
 rw[List.drop_length,aod]at f4
 have zE:ah S H H4:=zU.trans (e4.mono fun z _ h=>by
  rcases h with h|h
  ·exact h▸Wh
  ·exact h▸Ji)
 have z4:=e4.size
 have q4:=e4.own q3 (fun h=>by
  have h1:=U5 _ Wh
  have h2:=U5 _ Ji
  omega)
 obtain⟨cc,lt4,o4',q5,Cz,yz,Nq⟩:=m4.hG
 refine v1 (ae o4') ?_
 refine⟨⟨by omega,by omega⟩,?_⟩
 refine v3 q5 anB anD ?_
 refine⟨by omega,?_⟩
 obtain⟨m5,e5⟩:=m4.nS q5 g.toNat (-1)
 refine vs ?_
 have q6:=e5.own q4 (fun h=>by
  have h1:=U5 _ tb4
  omega)
 have Wd:=zE.trans (e5.mono fun z _ h=>h▸tb4)
 have z5:=e5.size
 generalize H4.wr B.tp (lt4.set g.toNat (Value.int .i64 (-1)))=H5 at*
 have t0:QL w g (cr N4) (aA ch x []) (aA ch x []) (gf ch par x) (aA ax g []) [] A1 [x]:=by
  refine⟨f4.perm ?_,fun d y hd=>by simp at hd,fun y hy=>Ue y (by simp[hy]),fun _ _=>rfl,by simp⟩
  show List.Perm _ (A1++[x])
  exact(List.reverse_perm _).trans (aoC (l₁:=[x]) (l₂:=A1))
 have afT:¬B.S C b2:=afR
 subst hR8
 refine(Jh m5 q6 kG afT t0 p1 (by omega)).mono ?_
 rintro tv H6 ⟨N6,P6,L6,Zq,OA,sN,fq,m6,t6,p6,s6,Lx,e6⟩
 obtain⟨ta,tc,rfl⟩:=Sl.shape s6
 have Mr:=t6.tl
 have RJ:ah S H H6:=Wd.trans (e6.mono fun z _ h=>by
  rcases h with h|h|h|h
  ·exact hC z h
  ·exact h▸Wh
  ·exact h▸Ji
  ·exact h▸tb3)
 refine vs ?_
 have U6:=t6.f
 rw[aoM]at U6
 have XC:bm (tops.set g.toNat (-1))=kT (bm tops) g (([]:List Int).headD (-1)):=eV (by omega) dD (-1)
 refine bA.intro (fun mm env H'=>∃ (i:Nat) (N' P' Hz l':List Int),mm=sN.length - i∧i≤sN.length∧bX H' B C w N' P' L6 Hz∧Hz.length=tops.length∧bm Hz=kT (bm tops) g (l'.headD (-1))∧
  dW (aI w) (aU w) (cr N') Zq OA (aA ax g l') (ws (sN.drop i)++[x])∧
  (∀c,aI w c=g→OA c= -1→c∉ws (sN.drop i)++[x]→l'.headD (-1)≠ -1∧(c≠l'.headD (-1)→aU w (l'.headD (-1)) c=true))∧
  Sl H' 1 (.slice ta sN.length tc) sN.length (sN.map i64) fq∧ah S H6 H'∧
  env=[(0,ptr B.n),(1,i64 g),(6,i64 x),(57,.slice ta sN.length tc),(58,i64 sN.length),(59,i64 i)]) _ ⟨0,N6,P6,_,[],rfl,by omega,m6,by rw[anC],XC,U6,fun c h1 h2 h3=>?_,s6,ah.refl _ _,rfl⟩ ?_
 ·exfalso
  rcases U6.mj c (by omega) h2 with h4|h4
  ·rw[h1]at h4
   unfold aA at h4
   rw[if_pos rfl]at h4
   cases h4
  ·exact h3 h4
 rintro mm env H7 ⟨i,N7,P7,MB,l7,rfl,hi7,m7,hl7,Zr,f7,d7,s7,e7,rfl⟩
 have akl:sN.length≤65537:=by omega
 refine vs ?_
 refine am.dec (fun gi=>?_) (fun gi=>?_)<;>refine vs ?_
 ·have oq:i<sN.length:=by omega
  obtain⟨r,hrr⟩:∃r,sN[i]? =some r:=⟨_,anx oq⟩
  obtain⟨_,kb,lb,rfl,qb,qc⟩:=Sl.Bl s7 hrr
  have hkb:fq=some kb:=by
   cases fq with
   |none=>have:=s7.2.2;injection this with h1;cases h1
   |some b'=>obtain⟨_,_,h1,_⟩:=s7.2;injection h1 with h1;injection h1 with h1;injection h1 with h1;rw[h1]
  have akm:=Lx kb hkb
  have dr:sN.drop i=r::sN.drop (i+1):=by
   rw[aoK oq]
   congr 1
   rw[anx oq]at hrr
   injection hrr
  refine⟨⟨by omega,by omega⟩,?_⟩
  refine v5 (ae qb) anB anD Int.toNat_natCast qc ?_
  rw[dr,pG,ed]at f7 d7
  refine am.dec (fun gr=>?_) (fun gr=>?_)<;>refine vs ?_
  rotate_left
  ·rw[if_neg gr]at f7 d7
   simp only[aoX,aoM]at f7 d7
   obtain⟨_,QN⟩:=t6.td i r hrr gr
   have Zt:bm MB g=l7.headD (-1):=by rw[Zr];unfold kT;rw[if_pos rfl]
   refine(zZ m7 f7 QN (by omega) (by rw[Zt];unfold aA;rw[if_pos rfl])).mono ?_
   rintro _ H8 ⟨N8,P8,abo,l8,m8,hl8,ht8,f8,Ls,It,VX,hlT,e8⟩
   rw[eJ]at f8
   rw[Zt]at hlT
   have e8':ah S H7 H8:=e8.mono fun z _ h=>by
    rcases h with h|h|h|h
    ·exact hC z h
    ·exact h▸Wh
    ·exact h▸Ji
    ·exact h▸tb4
   refine vs ?_
   refine⟨sN.length - (i+1),by omega,i+1,N8,P8,abo,l8,rfl,by omega,m8,by omega,?_,f8,fun c h1 h2 h3=>⟨It,fun aS=>?_⟩,s7.ext e8' (fun z hz h=>by
    rw[hkb]at hz
    injection hz with hz
    subst hz
    have:=U5 _ h
    omega),e7.trans e8',?_⟩
   ·rw[ht8,Zr]
    funext z
    unfold kT
    split<;>rfl
   ·by_cases VR:c=r
    ·rw[VR]at aS ⊢
     exact VX aS
    ·obtain⟨h4,h5⟩:=d7 c h1 h2 (by
      simp only[anN,not_or]
      exact⟨VR,h3⟩)
     by_cases h6:l7.headD (-1)=l8.headD (-1)
     ·rw[←h6]at aS ⊢
      exact h5 aS
     ·have h7:=hlT h4 h6
      by_cases h8:c=l7.headD (-1)
      ·rw[h8];exact h7
      ·exact ls.tr _ _ _ h7 (h5 h8)
   ·rw[wrap64 (by omega) (by omega)]
    rfl
  ·rw[if_pos gr]at f7 d7
   rw[aoM]at f7 d7
   refine⟨sN.length - (i+1),by omega,i+1,N7,P7,MB,l7,rfl,by omega,m7,hl7,Zr,f7,d7,s7,e7,?_⟩
   rw[wrap64 (by omega) (by omega)]
   rfl
 obtain rfl:i=sN.length:=by omega
 rw[List.drop_length]at f7 d7
 have hw0:ws ([]:List Int)++[x]=[x]:=rfl
 rw[hw0]at f7 d7
 obtain⟨tv7,o7,_⟩:=m7.own
 refine v1 (ae o7) ?_
 refine(ck m7.cells x).mono ?_
 have afU:cZ w.cs x:=bK.1 (by omega)
 rintro _ H8 (⟨cw,_,_⟩| ⟨_,rfl,c8,e8⟩)
 ·exact absurd afU cw
 have m8:=m7.aN c8 e8 (by simp[Nw.put])
 refine vs ?_
 have cV:=fun y=>eC (w:=w) ik (0,0,0) y
 have w0:aI (w.put x (0,0,0)) (-1)=0:=rfl
 have w1:aI (w.put x (0,0,0)) x=0:=by rw[cV,if_pos rfl]
 have w2:∀y,y≠x→aI (w.put x (0,0,0)) y=aI w y:=fun y hy=>by rw[cV,if_neg hy]
 have el:∀a b,0<aI w a→0<aI w b→a≠x→b≠x→aU (w.put x (0,0,0)) a b=aU w a b:=fun a b ha hb tT oS=>dI ik _ ha hb tT oS
 have f8:=f7.drop (hm':=aI (w.put x (0,0,0))) (lt':=aU (w.put x (0,0,0))) (by
  rw[t6.c0 x (by simp)]
  unfold aA
  rw[if_pos rfl]) w0 w1 w2 el
 have hrm:∀g2 c,c∈aA ax g l7 g2→aI w c=g2∧c≠x:=fun g2 c hc=>by
  obtain⟨h1,_,_,h4⟩:=f7.rm g2 c hc
  exact⟨h1,fun e=>h4 (by simp[e])⟩
 refine .inr ⟨x,hx,rfl,cD.same ⟨B,C,N7,P7,L6,MB,Zq,OA,_,rfl,m8,⟨f8,p6,fun g2=>?_,fun g2 y Ex hy=>?_,by rw[hl7];exact l.tl⟩,hS⟩ ((RJ.trans e7).trans (e8.mono fun z _ h=>hC z h))⟩
 ·rw[Zr]
  unfold kT aA
  split
  ·rfl
  ·exact l.tp g2
 ·by_cases h2:g2=g
  ·have Zt:bm MB g2=l7.headD (-1):=by rw[Zr,h2];unfold kT;rw[if_pos rfl]
   rw[Zt]
   refine f8.pr.lead (au _) (fun z hz=>xP z hz) Ex (fun c hc VS=>?_) hy
   have je:c≠x:=fun e=>by rw[e,w1]at hc;omega
   rw[w2 c je]at hc
   obtain⟨h3,h4⟩:=d7 c (by omega) VS (by simp[je])
   refine⟨h3,fun aS=>?_⟩
   obtain⟨h5,h6⟩:=hrm g _ (show l7.headD (-1)∈aA ax g l7 g by unfold aA;rw[if_pos rfl];exact eI h3)
   rw[el _ _ (by omega) (by omega) h6 je]
   exact h4 aS
  ·have Zt:bm MB g2=bm tops g2:=by rw[Zr];unfold kT;rw[if_neg h2]
   rw[Zt]
   have rj:y≠x:=fun e=>by rw[e,w1]at hy;omega
   rw[w2 y rj]at hy
   obtain⟨h3,h4⟩:=l.ls g2 y Ex hy
   refine⟨h3,fun aS=>?_⟩
   have h5:aI w (bm tops g2)=g2:=by
    have hm:bm tops g2∈ax g2:=by
     have:=l.tp g2
     rw[this]at h3 ⊢
     exact eI h3
    exact(l.f.rm g2 _ hm).1
   rw[el _ _ (by omega) (by omega) (fun e=>by rw[e]at h5;omega) rj]
   exact h4 aS
theorem Jj{n:Nat}{H:Hp}{S:Nat→Prop}{w:Nw}(h:kL n H S w):ai Tryz.prog my [ptr n] H fun v H'=>ay (
  (w.hs.length=65537∧v=i64 0∧cD (kL n) S H H' w)∨(w.hs.length≠65537∧v=i64 w.hs.length∧cD (kL n) S H H' w.make)):=by
 obtain⟨B,C,N,P,L,tops,ch,par,ax,rfl,m,l,hS⟩:=id h
 obtain⟨tv,ho,Gf⟩:=m.own
 refine ba vV ⟨rfl,?_⟩
 refine v2 fP.eq_1 (ae ho) ?_
 refine(lV m.cells).mono ?_
 rintro _ H1 (⟨h1,rfl,rfl⟩| ⟨h1,rfl,C',c1,e1,Bp⟩)
 ·refine vs ?_
  exact .inl ⟨h1,rfl,cD.same h (ah.refl _ _)⟩
 have jj:=m.cells.pos
 have hhs:=m.cells.Gf
 have Mr:=l.tl
 have slt:=m.slt
 have Mw:=c1.slt
 obtain⟨n1,n2,n3,n4,n5,n6⟩:=m.out
 obtain⟨⟨d1,d2,d3,d4,d5⟩,⟨d6,d7,d8,d9⟩,⟨d10,d11,d12⟩⟩:=m.rl
 have o1:=e1.own ho n1
 refine vs ?_
 refine am.cF (anQ (by omega)) ?_
 refine v1 (ae o1) ?_
 have s1:=Gf.ext e1 (fun b hb=>by injection hb with hb;exact hb▸n6)
 refine Sw s1 (-1) (by omega) fun w' H2 b' rR s2 e2=>?_
 have o2:=e2.own o1 d5
 obtain⟨wa,wc,PD⟩:=Sl.shape s2
 subst PD
 refine v1 o2 ?_
 generalize PD:Value.slice wa (tops++[-1]).length wc=w' at*
 have e3:ah (fun z=>z=B.n) H2 (H2.wr B.n [ptr B.c,ptr B.r,.slice (some ⟨B.tb,0,none⟩) L.length L.length,w']):=(ah.refl (fun z=>z=B.n) _).wr (fun _=>rfl) _
 have z1:=e1.size
 have q1:=slt _ (.inr (.inl rfl))
 have q2:=slt _ (.inr (.inr (.inl rfl)))
 have q3:=slt _ (.inr (.inr (.inr (.inl rfl))))
 have q4:=slt _ (.inr (.inr (.inr (.inr (.inl rfl)))))
 have q5:=slt _ (.inr (.inr (.inr (.inr (.inr (.inl rfl))))))
 have q6:=slt _ (.inr (.inr (.inr (.inr (.inr (.inr rfl))))))
 have Hl:∀z,C' z→z≠b'∧(z<H.size→C z):=fun z hz=>by
  have h5:=Mw z hz
  rcases Bp z hz with h6|h6
  ·refine⟨fun e=>?_,fun _=>h6⟩
   rcases rR with h7|h7
   ·exact n6 (by rw[←h7,←e];exact h6)
   ·omega
  ·exact⟨by omega,fun h=>by omega⟩
 refine .inr ⟨h1,rfl,(FB.mk B.n B.c B.r B.nb B.pb B.tb b').S C',⟨⟨B.n,B.c,B.r,B.nb,B.pb,B.tb,b'⟩,C',N,P,L,tops++[-1],ch,par,ax,rfl,⟨⟨w',aj o2,s2.ext e3 (fun b hb=>by injection hb with hb;omega)⟩,?_,?_,m.inv,?_,m.len,?_,?_⟩,⟨l.f,l.pc,fun g=>by rw[CL];exact l.tp g,fun g y hg hy=>by rw[CL];exact l.ls g y hg hy,?_⟩,fun z=>Iff.rfl⟩,?_,fun z hz=>?_⟩
 ·exact(c1.ext e2 (fun x hx e=>by
   rcases Bp x hx with h6|h6
   ·exact n6 (e▸h6)
   ·omega)).ext e3 (fun x hx e=>by
   rcases Bp x hx with h6|h6
   ·exact n1 (e▸h6)
   ·omega)
 ·exact((m.ring.ext e1 n2 n3 n4).ext e2 (Ne.symm d10) (Ne.symm d11) (Ne.symm d12)).ext e3 (Ne.symm d1) (Ne.symm d2) (Ne.symm d3)
 ·exact e3.own (e2.own (e1.own m.places n5) d9) (Ne.symm d4)
 ·refine⟨⟨d1,d2,d3,d4,?_⟩,⟨d6,d7,d8,?_⟩,⟨?_,?_,?_⟩⟩<;>simp only<;>omega
 ·exact⟨fun h=>n1 ((Hl _ h).2 q1),fun h=>n2 ((Hl _ h).2 q2),fun h=>n3 ((Hl _ h).2 q3),fun h=>n4 ((Hl _ h).2 q4),fun h=>n5 ((Hl _ h).2 q5),fun h=>(Hl _ h).1 rfl⟩
 ·simp[Nw.make,Mr]
 ·exact((e1.mono fun z _ h=>(hS z).2 (.inl h)).trans (e2.mono fun z _ h=>(hS z).2 (.inr (.inr (.inr (.inr (.inr (.inr h)))))))).trans (e3.mono fun z _ h=>(hS z).2 (.inr (.inl h)))
 ·rcases hz with hz|hz|hz|hz|hz|hz|hz
  ·rcases Bp z hz with h6|h6
   ·exact .inl ((hS z).2 (.inl h6))
   ·exact .inr h6
  ·exact .inl ((hS _).2 (.inr (.inl hz)))
  ·exact .inl ((hS _).2 (.inr (.inr (.inl hz))))
  ·exact .inl ((hS _).2 (.inr (.inr (.inr (.inl hz)))))
  ·exact .inl ((hS _).2 (.inr (.inr (.inr (.inr (.inl hz))))))
  ·exact .inl ((hS _).2 (.inr (.inr (.inr (.inr (.inr (.inl hz)))))))
  ·rcases rR with h7|h7
   ·exact .inl ((hS _).2 (.inr (.inr (.inr (.inr (.inr (.inr (hz.trans h7))))))))
   ·exact .inr (by have hz:z=b':=hz;omega)
def wD(n i:Nat):List Int:=(List.range i).map (fun(k:Nat)=>(k:Int))++List.replicate (n - i) 0
theorem yp{n i:Nat}(h:i≤n):(wD n i).length=n:=by unfold wD;simp;omega
theorem U7{n i:Nat}(h:i<n):(wD n i).set i (i:Int)=wD n (i+1):=by
 unfold wD
 rw[apJ _ _ (by simp),anW,List.length_range,aoJ,show n - i=(n - (i+1))+1 by omega,aor,ao1,apC,aos]
 simp
theorem HE(n:Nat)(x:Int):cr (wD n n) x=x:=by
 unfold cr
 split
 ·rename_i h
  rw[yp (anO _)]at h
  unfold wD
  rw[aoJ,apP,aow,anE,anT,aoT (by omega)]
  simp
  omega
 ·rfl
set_option maxHeartbeats 1000000 in
theorem Jk(H:Hp){n:Int}(hn:0≤n∧n≤65536):ai Tryz.prog ND [i64 n] H fun v H'=>ay (∃r nb pb N P,v= .tuple [ptr r,i64 0].toArray∧hZ H' r nb pb N P∧N.length=n.toNat∧(∀x,cr N x=x)∧BS (cr N) (cr P)∧aq H H'∧H.size≤r∧H.size≤nb∧H.size≤pb):=by
 refine ba NI ⟨rfl,?_⟩
 refine v1 GG.eq_1 ?_
 refine am.dec (fun g=>absurd g (by omega)) (fun _=>?_)
 refine vs ?_
 refine am.dec (fun g=>absurd g (by omega)) (fun _=>?_)
 refine vs ?_
 have hz:(List.replicate n.toNat (0:Int))=wD n.toNat 0:=by unfold wD;simp
 refine rq.intro (fun H'=>True) trivial ?_
 refine vs ?_
 refine He.intro ?A ?B
 case' A=>
  refine vs ?_
  refine⟨⟨by omega,by omega,by omega,by omega⟩,?_⟩
  refine vs ?_
  refine⟨⟨by omega,by omega,by omega,by omega⟩,?_⟩
  refine vs ?_
  rw[tE,hz]
  obtain⟨nb,Fi⟩:∃nb,nb=H.size:=⟨_,rfl⟩
  obtain⟨pb,Lt⟩:∃pb,pb=H.size+1:=⟨_,rfl⟩
  have f0:aq H (((H.new 3 ((wD n.toNat 0).map i64)).new 3 ((wD n.toNat 0).map i64)).new 317 [.slice (some ⟨H.size,0,none⟩) n.toNat n.toNat,.slice (some ⟨H.size+1,0,none⟩) n.toNat n.toNat]):=(((ah.refl _ _).new _ _).new _ _).new _ _
  have h0:hZ (((H.new 3 ((wD n.toNat 0).map i64)).new 3 ((wD n.toNat 0).map i64)).new 317 [.slice (some ⟨H.size,0,none⟩) n.toNat n.toNat,.slice (some ⟨H.size+1,0,none⟩) n.toNat n.toNat]) (H.size+1+1) nb pb (wD n.toNat 0) (wD n.toNat 0):=by
   subst Fi Lt
   refine⟨?_,?_,?_,rfl,by omega,by omega,by omega⟩
   ·rw[yp (apv _)];exact bD (by simp only[ar])
   ·rw[cz (by simp only[ar];omega),cz (by simp only[ar];omega),aE]
   ·rw[cz (by simp only[ar];omega)];exact bD (by simp only[ar])
  generalize ((H.new 3 ((wD n.toNat 0).map i64)).new 3 ((wD n.toNat 0).map i64)).new 317 [.slice (some ⟨H.size,0,none⟩) n.toNat n.toNat,.slice (some ⟨H.size+1,0,none⟩) n.toNat n.toNat]=H0 at*
  have PC:H.size≤nb∧H.size≤pb:=⟨by omega,by omega⟩
 case' B=>
  refine vs ?_
  refine⟨⟨by omega,by omega,by omega,by omega⟩,?_⟩
  refine vs ?_
  refine⟨⟨by omega,by omega,by omega,by omega⟩,?_⟩
  refine vs ?_
  rw[tE,hz]
  obtain⟨nb,Fi⟩:∃nb,nb=H.size+1:=⟨_,rfl⟩
  obtain⟨pb,Lt⟩:∃pb,pb=H.size:=⟨_,rfl⟩
  have f0:aq H (((H.new 3 ((wD n.toNat 0).map i64)).new 3 ((wD n.toNat 0).map i64)).new 317 [.slice (some ⟨H.size+1,0,none⟩) n.toNat n.toNat,.slice (some ⟨H.size,0,none⟩) n.toNat n.toNat]):=(((ah.refl _ _).new _ _).new _ _).new _ _
  have h0:hZ (((H.new 3 ((wD n.toNat 0).map i64)).new 3 ((wD n.toNat 0).map i64)).new 317 [.slice (some ⟨H.size+1,0,none⟩) n.toNat n.toNat,.slice (some ⟨H.size,0,none⟩) n.toNat n.toNat]) (H.size+1+1) nb pb (wD n.toNat 0) (wD n.toNat 0):=by
   subst Fi Lt
   refine⟨?_,?_,?_,rfl,by omega,by omega,by omega⟩
   ·rw[yp (apv _)];exact bD (by simp only[ar])
   ·rw[cz (by simp only[ar];omega)];exact bD (by simp only[ar])
   ·rw[cz (by simp only[ar];omega),cz (by simp only[ar];omega),aE]
  generalize ((H.new 3 ((wD n.toNat 0).map i64)).new 3 ((wD n.toNat 0).map i64)).new 317 [.slice (some ⟨H.size+1,0,none⟩) n.toNat n.toNat,.slice (some ⟨H.size,0,none⟩) n.toNat n.toNat]=H0 at*
  have PC:H.size≤nb∧H.size≤pb:=⟨by omega,by omega⟩
 all_goals
  refine bA.intro (fun m env H'=>∃j:Nat,m=n.toNat - j∧j≤n.toNat∧ah (fun z=>z=nb∨z=pb) H0 H'∧hZ H' (H.size+1+1) nb pb (wD n.toNat j) (wD n.toNat j)∧
   env=[(4,ptr (H.size+1+1)),(18,i64 n),(19,i64 j)]) n.toNat ⟨0,by omega,by omega,ah.refl _ _,h0,rfl⟩ ?_
  rintro m env H1 ⟨j,rfl,hj,e1,h1,rfl⟩
  have vF:=yp hj
  obtain⟨d1,d2,d3⟩:=h1.ne
  refine vs ?_
  refine am.dec (fun aR=>?_) (fun aR=>?_)<;>refine vs ?_
  ·refine v1 (ae h1.own) ?_
   refine⟨⟨by omega,by omega⟩,?_⟩
   refine v4 h1.PJ anB anD Int.toNat_natCast ?_
   refine⟨by rw[anW];omega,?_⟩
   refine vs ?_
   have e2:ah (fun z=>z=nb) H1 (H1.wr nb (((wD n.toNat j).map i64).set j (i64 j))):=(ah.refl (fun z=>z=nb) _).wr (fun _=>rfl) _
   have q2:(H1.wr nb (((wD n.toNat j).map i64).set j (i64 j))).own nb=some (((wD n.toNat j).map i64).set j (i64 j)):=aj h1.PJ
   generalize H1.wr nb (((wD n.toNat j).map i64).set j (i64 j))=H2 at*
   have p2:=e2.own h1.Wg (Ne.symm d3)
   refine⟨⟨by omega,by omega⟩,?_⟩
   refine v5 p2 h1.Wg anB anD Int.toNat_natCast ?_
   refine⟨by rw[anW];omega,?_⟩
   refine vs ?_
   have e3:ah (fun z=>z=pb) H2 (H2.wr pb (((wD n.toNat j).map i64).set j (i64 j))):=(ah.refl (fun z=>z=pb) _).wr (fun _=>rfl) _
   have q3:(H2.wr pb (((wD n.toNat j).map i64).set j (i64 j))).own pb=some (((wD n.toNat j).map i64).set j (i64 j)):=aj p2
   have Mo:((wD n.toNat j).map i64).set j (i64 j)=(wD n.toNat (j+1)).map i64:=by rw[←U7 (by omega),aoo]
   rw[wrap64 (n:=(j:Int)+1) (by omega) (by omega)]
   refine⟨n.toNat - (j+1),by omega,j+1,rfl,by omega,(e1.trans (e2.mono fun z _ h=>.inl h)).trans (e3.mono fun z _ h=>.inr h),⟨?_,?_,?_,rfl,h1.ne⟩,rfl⟩
   ·have ho:=e3.own (e2.own h1.own d1) d2
    rw[vF]at ho
    rw[yp (by omega)]
    exact ho
   ·rw[←Mo];exact e3.own q2 d3
   ·rw[←Mo];exact q3
  ·obtain rfl:j=n.toNat:=by omega
   exact⟨_,nb,pb,_,_,rfl,h1,yp (anO _),HE _,⟨fun x=>by rw[HE,HE],fun x=>by rw[HE,HE]⟩,f0.then e1 (fun z hz=>by rcases hz with h|h<;>omega),by omega,PC.1,PC.2⟩
set_option maxRecDepth 100000 in
set_option maxHeartbeats 2000000 in
theorem C2{n:Nat}{H:Hp}{S:Nat→Prop}{w:Nw}(h:kL n H S w)(x k s:Int):ai Tryz.prog iu [ptr n,i64 x,wq k s] H fun v H'=>ay (
  (¬w.de x k s∧v= .bool false∧cD (kL n) S H H' w)∨(w.de x k s∧v= .bool true∧∃y,w.cs[x.toNat]? =some y∧cD (kL n) S H H' (w.put x (y.1,k,s)))):=by
 obtain⟨B,C,N,P,L,tops,ch,par,ax,rfl,m,l,hS⟩:=h
 have hC:∀z,C z→S z:=fun z h=>(hS z).2 (.inl h)
 have Wh:S B.nb:=(hS _).2 (.inr (.inr (.inr (.inl rfl))))
 have Ji:S B.pb:=(hS _).2 (.inr (.inr (.inr (.inr (.inl rfl)))))
 have tb3:S B.tb:=(hS _).2 (.inr (.inr (.inr (.inr (.inr (.inl rfl))))))
 have tb4:S B.tp:=(hS _).2 (.inr (.inr (.inr (.inr (.inr (.inr rfl))))))
 refine ba qZ ⟨rfl,?_⟩
 refine v1 dT.eq_1 ?_
 have f0:aq H (H.new 224 [i64 k,u64 s]):=(ah.refl _ _).new _ _
 have b0:(H.new 224 [i64 k,u64 s]).own H.size=some [i64 k,u64 s]:=aE _ _ _
 have m0:=m.fresh f0
 generalize H.new 224 [i64 k,u64 s]=H0 at*
 have ff:ah S H H0:=f0.mono fun _ _ h=>h.elim
 obtain⟨tv,KH,_⟩:=m0.own
 refine v2 (ae KH) (ae b0) ?_
 refine(jo m0.cells x k s).mono ?_
 rintro _ H1 (⟨cw,rfl,c1,e1⟩| ⟨bQ,rfl,y,hy,gk,c1,e1⟩)
 ·refine vs ?_
  exact .inl ⟨cw,rfl,cD.same ⟨B,C,N,P,L,tops,ch,par,ax,rfl,m0.ext e1 (fun _ _ h=>h),l,hS⟩ (ff.trans (e1.mono fun _ _ h=>h.elim))⟩
 have rG:(w.put x (y.1,k,s)).cs.length=w.cs.length:=by simp[Nw.put]
 have m1:=m0.aN c1 e1 rG
 have CU:w.de x k s:=⟨bQ,fun z hz=>by rw[hy]at hz;injection hz with hz;rw[←hz];exact gk⟩
 have hx:0≤x∧x<w.cs.length:=⟨bQ.1,by have:=(anA.1 hy).1;have:=bQ.1;omega⟩
 have Rz:aI w x=y.1:=mZ bQ.1 hy
 have ec:=bK.2 bQ
 have hw:aI (w.put x (y.1,k,s))=aI w:=by
  funext z
  rw[eC hx]
  split
  ·rename_i e;rw[e,Rz]
  ·rfl
 have FZ:cZ (w.put x (y.1,k,s)).cs x:=bK.1 (by rw[hw];exact ec)
 have el:∀a b,0<aI w a→0<aI w b→a≠x→b≠x→aU (w.put x (y.1,k,s)) a b=aU w a b:=fun a b ha hb tT oS=>dI hx _ ha hb tT oS
 have ex:∀b,0<aI w b→b≠x→aU w x b=true→aU (w.put x (y.1,k,s)) x b=true:=fun b hb oS h=>CK bQ hy gk hb oS h
 have ls:=au w
 have Uf:=au (w.put x (y.1,k,s))
 obtain⟨g,hg⟩:∃g,g=aI w x:=⟨_,rfl⟩
 have dD:g<tops.length:=by
  have:=((m.cells.hm x).2 ec).2
  have:=l.tl
  omega
 have Ez:∀z,aI w z=g→bm tops g≠ -1∧(z≠bm tops g→aU w (bm tops g) z=true):=fun z hz=>l.ls g z (by omega) hz
 obtain⟨HF,Iu⟩:=Ez x hg.symm
 obtain⟨T,hT⟩:∃T,T=bm tops g:=⟨_,rfl⟩
 rw[←hT]at HF Iu Ez
 have XD:=ec
 have hhl:(w.put x (y.1,k,s)).hs.length=w.hs.length:=by simp[Nw.put]
 obtain⟨A,hr⟩:∃A,ax g=T::A:=by
  have h1:=l.tp g
  rw[←hT]at h1
  cases hc:ax g with
  |nil=>rw[hc]at h1;exact absurd h1 HF
  |cons c r=>rw[hc]at h1;exact⟨r,by rw[show T=c from h1]⟩
 have hTg:=(l.f.rm g T (by rw[hr];simp)).1
 have hTp:=(l.f.rm g T (by rw[hr];simp)).2.1
 have hT0:0<aI w T:=by omega
 generalize PD:w.put x (y.1,k,s)=w' at*
 obtain⟨Eg,o1,_⟩:=m1.own
 refine v1 (ae o1) ?_
 refine(dA m1.cells x).mono ?_
 rintro _ H2 (⟨cw,_,_⟩| ⟨_,rfl,c2,e2⟩)
 ·exact absurd FZ cw
 have m2:=m1.aN c2 e2 rfl
 have re:ah S H H2:=(ff.trans (e1.mono fun z _ h=>hC z h)).trans (e2.mono fun z _ h=>hC z h)
 rw[hw,←hg]
 obtain⟨Og,o2,_⟩:=m2.own
 have wC:=m2.len
 have xy:0≤x∧x<w'.cs.length:=by rw[rG];exact hx
 obtain⟨a0,a1,a2,a3,a4⟩:=m2.rd xy
 obtain⟨ux,_,_⟩:=l.pc x
 rw[ux]at a1
 refine v1 (ae o2) ?_
 refine⟨⟨by omega,by omega⟩,?_⟩
 refine v4 (ae m2.places) anB Nat.add_zero a1 ?_
 have e0:aA ax g (T::A)=ax:=by
  funext z
  unfold aA
  split
  ·rename_i e;rw[e,hr]
  ·rfl
 have Nk:(par x= -1∨aU w' (par x) x=true)→dW (aI w') (aU w') (cr N) ch par (aA ax g (T::A)) []:=fun Ls=>by
  rw[e0,hw]
  refine l.f.other fun z c hc h1 h2 h3=>?_
  by_cases hz:z=x
  ·rw[hz]at h3 hc ⊢
   exact ex c h2 (fun e=>by rw[e,ls.yf]at h3;cases h3) h3
  ·by_cases je:c=x
   ·rw[je]at hc ⊢
    obtain⟨d1,d2,_⟩:=l.f.pr.dn z x hc
    rcases Ls with h|h
    ·rw[h]at d1;exact absurd d1.symm d2
    ·rw[←d1];exact h
   ·rw[el _ _ (by omega) h2 hz je];exact h3
 refine am.dec (fun h0=>?A) (fun h0=>?B)
 case' A=>
  refine vs ?_
  obtain⟨H3,eH⟩:∃H3,H3=H2:=⟨_,rfl⟩
  rw[←eH]at m2 re ⊢
  obtain⟨N3,P3,L3,Nr,sE,A3,m3,f3,p3,e3⟩:∃N' P' L' dV bH A',bX H3 B C w' N' P' L' tops∧dW (aI w') (aU w') (cr N') dV bH (aA ax g (T::A')) []∧Lw (eY L') dV bH∧ah S H H3:=⟨N,P,L,ch,par,A,m2,Nk (.inl h0),l.pc,re⟩
 case' B=>
  have hpc:=l.f.pr.up x _ rfl h0
  obtain⟨_,_,hph,EU,wG⟩:=l.f.pr.dn _ _ hpc
  have ec:par x≠x:=fun e=>by rw[e,ls.yf]at wG;cases wG
  refine v1 (ae o2) ?_
  refine(cK m2.cells x (par x)).mono ?_
  rintro _ H4 ⟨rfl,c4,e4⟩
  have m4:=m2.aN c4 e4 rfl
  have zE:=re.trans (e4.mono fun z _ h=>hC z h)
  rw[jp (w:=w') (a:=x) (b:=par x) (by rw[hw];exact XD) (by rw[hw];omega)]
  cases aR:aU w' x (par x)
  case' false=>
   refine vs ?_
   obtain⟨H3,eH⟩:∃H3,H3=H4:=⟨_,rfl⟩
   rw[←eH]at m4 zE ⊢
   obtain⟨N3,P3,L3,Nr,sE,A3,m3,f3,p3,e3⟩:∃N' P' L' dV bH A',bX H3 B C w' N' P' L' tops∧dW (aI w') (aU w') (cr N') dV bH (aA ax g (T::A')) []∧Lw (eY L') dV bH∧ah S H H3:=⟨N,P,L,ch,par,A,m4,Nk (.inr ((Uf.Pj (par x) x ec).resolve_right (by rw[aR];simp))),l.pc,zE⟩
  case' true=>
   refine vs ?_
   refine(F1 m4 ls (x:=x) (g:=g) (t:=T) (A:=A) (by rw[hw];exact l.f) l.pc (by rw[hw];exact hg.symm) (by omega) dD hr hT.symm).mono ?_
   rintro _ H3 ⟨N3,P3,L3,Nr,sE,A3,m3,f3',p3,u3,_,e5⟩
   have e3:=zE.trans (e5.mono fun z _ h=>by
    rcases h with h|h|h
    ·exact h▸Wh
    ·exact h▸Ji
    ·exact h▸tb3)
   have f3:dW (aI w') (aU w') (cr N3) Nr sE (aA ax g (T::A3)) []:=by
    refine f3'.other fun z c hc h1 h2 h3=>?_
    rw[hw]at h1 h2
    have je:c≠x:=fun e=>by
     obtain⟨d1,d2,_⟩:=f3'.pr.dn z c hc
     rw[e,u3]at d1
     exact d2 d1.symm
    by_cases hz:z=x
    ·rw[hz]at h3 ⊢
     exact ex c h2 je h3
    ·rw[el _ _ (by omega) h2 hz je];exact h3
   refine vs ?_
 all_goals
  have Rt:aA ax g (T::A3) g=T::A3:=by unfold aA;rw[if_pos rfl]
  obtain⟨cc,lt3,o3,q3,Cz,yz,Nq⟩:=m3.hG
  have q4:=m3.fB q3 (dY (tops:=tops) (h:=g) (by omega) dD)
  rw[←hT]at q4
  refine v1 (ae o3) ?_
  refine⟨⟨by omega,by omega⟩,?_⟩
  refine v4 (ae q3) anB anD q4 ?_
  have Ej:∀g2 z,g2≠g→0<g2→aI w' z=g2→bm tops g2≠ -1∧(z≠bm tops g2→aU w' (bm tops g2) z=true):=fun g2 z aS Ex hz=>by
   rw[hw]at hz
   obtain⟨h1,h2⟩:=l.ls g2 z Ex hz
   refine⟨h1,fun U8=>?_⟩
   have h5:aI w (bm tops g2)=g2:=by
    have hm:bm tops g2∈ax g2:=by
     have:=l.tp g2
     rw[this]at h1 ⊢
     exact eI h1
    exact(l.f.rm g2 _ hm).1
   rw[el _ _ (by omega) (by omega) (fun e=>by rw[e]at h5;omega) (fun e=>by rw[e]at hz;omega)]
   exact h2 U8
  have htp:∀g2,bm tops g2=(aA ax g (T::A3) g2).headD (-1):=fun g2=>by
   unfold aA
   split
   ·rename_i e;rw[e,←hT];rfl
   ·exact l.tp g2
  refine am.dec (fun h5=>?_) (fun h5=>?_)
  ·refine vs ?_
   refine .inr ⟨CU,rfl,y,hy,?_⟩
   rw[PD]
   refine cD.same ⟨B,C,N3,P3,L3,tops,Nr,sE,_,rfl,m3,⟨f3,p3,htp,fun g2 z Ex hz=>?_,by rw[l.tl,hhl]⟩,hS⟩ e3
   by_cases h6:g2=g
   ·rw[h6,←hT]
    refine⟨HF,fun U8=>?_⟩
    rw[hw,h6]at hz
    have h7:=(Ez z hz).2 U8
    rw[h5]at h7 U8 ⊢
    exact ex z (by omega) U8 h7
   ·exact Ej g2 z h6 Ex hz
  refine v1 (ae o3) ?_
  refine⟨⟨by omega,by omega⟩,?_⟩
  refine v4 (ae q3) anB anD q4 ?_
  refine(cK m3.cells x T).mono ?_
  rintro _ H6 ⟨rfl,c6,e6⟩
  have m6:=m3.aN c6 e6 rfl
  have RJ:=e3.trans (e6.mono fun z _ h=>hC z h)
  rw[jp (w:=w') (a:=x) (b:=T) (by rw[hw];exact XD) (by rw[hw];omega)]
  cases Ew:aU w' x T
  ·refine vs ?_
   refine .inr ⟨CU,rfl,y,hy,?_⟩
   rw[PD]
   refine cD.same ⟨B,C,N3,P3,L3,tops,Nr,sE,_,rfl,m6,⟨f3,p3,htp,fun g2 z Ex hz=>?_,by rw[l.tl,hhl]⟩,hS⟩ RJ
   by_cases h6:g2=g
   ·rw[h6,←hT]
    refine⟨HF,fun U8=>?_⟩
    rw[hw,h6]at hz
    by_cases h8:z=x
    ·rw[h8];exact(Uf.Pj T x h5).resolve_right (by rw[Ew];simp)
    ·rw[el _ _ (by omega) (by omega) h5 h8]
     exact(Ez z hz).2 U8
   ·exact Ej g2 z h6 Ex hz
  ·obtain⟨cc,lt6,o6,q6,Cz,yz,Nq⟩:=m6.hG
   refine v1 (ae o6) ?_
   refine⟨⟨by omega,by omega⟩,?_⟩
   refine v3 q6 anB anD ?_
   refine⟨by omega,?_⟩
   obtain⟨m7,e7⟩:=m6.nS q6 g.toNat x
   refine vs ?_
   have Ly:sE x= -1:=by
    apply anX
    intro hp
    obtain⟨_,d2,d3,d4,d5⟩:=f3.pr.dn _ _ (f3.pr.up x _ rfl hp)
    rw[hw]at d3 d4
    by_cases e:sE x=T
    ·rw[e]at d5
     rw[Uf.asym d5]at Ew;cases Ew
    ·have h9:=(Ez (sE x) (by omega)).2 e
     have afV:sE x≠x:=fun e=>by rw[e,Uf.yf]at d5;cases d5
     rw[←el _ _ (by omega) (by omega) h5 afV]at h9
     rw[Uf.asym (Uf.tr _ _ _ h9 d5)]at Ew;cases Ew
   have T4:x∈aA ax g (T::A3) g:=by
    rcases f3.mj x (by rw[hw];exact XD) Ly with h|h
    ·rw[hw,←hg]at h;exact h
    ·cases h
   obtain⟨A7,_,f7⟩:=f3.from_ T4
   rw[eJ]at f7
   refine .inr ⟨CU,rfl,y,hy,?_⟩
   rw[PD]
   refine cD.same ⟨B,C,N3,P3,L3,_,Nr,sE,_,rfl,m7,⟨f7,p3,fun g2=>?_,fun g2 z Ex hz=>?_,by rw[anC,l.tl,hhl]⟩,hS⟩ (RJ.trans (e7.mono fun z _ h=>h▸tb4))
   ·rw[eV (by omega) dD]
    unfold kT aA
    split
    ·rfl
    ·exact l.tp g2
   ·rw[eV (by omega) dD]
    unfold kT
    by_cases h6:g2=g
    ·rw[if_pos h6]
     refine⟨by omega,fun U8=>?_⟩
     rw[hw,h6]at hz
     by_cases h8:z=T
     ·rw[h8];exact Ew
     ·have h9:=(Ez z hz).2 h8
      rw[←el _ _ (by omega) (by omega) h5 U8]at h9
      exact Uf.tr _ _ _ Ew h9
    ·rw[if_neg h6]
     exact Ej g2 z h6 Ex hz
theorem U9(k:Nat):cN [Value.int .i64 0,Value.int .i64 0,Value.int .i64 0,Value.bool false] k=aO (List.replicate k ⟨0,0,0,false⟩):=by
 unfold cN aO
 induction k with
 |zero=>rfl
 |succ k ih=>rw[aor,aor,aoI,aps,ih];rfl
set_option maxRecDepth 100000 in
set_option maxHeartbeats 1000000 in
theorem C3(cap:Int)(H:Hp):ai Tryz.prog Fo [i64 cap] H fun v H'=>ay (
  aq H H'∧((¬ (0≤cap∧cap≤65536)∧v= .tuple [.pointer none,i64 31].toArray)∨
   ((0≤cap∧cap≤65536)∧∃n S,v= .tuple [ptr n,i64 0].toArray∧kL n H' S (CS cap)∧∀x,S x→H.size≤x))):=by
 refine ba Fx ⟨rfl,?_⟩
 refine v1 vp.eq_1 ?_
 refine(nQ cap H).mono ?_
 rintro _ H1 ⟨f1,⟨hb,rfl⟩| ⟨hb,c,C,rfl,c1,hC⟩⟩
 ·refine vs ?_
  exact⟨f1,.inl ⟨hb,rfl⟩⟩
 refine vs ?_
 refine(Jk H1 hb).mono ?_
 rintro _ H2 ⟨r,nb,pb,N,P,rfl,r2,hN,Zu,hinv,f2,hr,Fi,Lt⟩
 have c2:=c1.fresh f2
 refine v1 anZ ?_
 refine⟨⟨by omega,by omega,by omega,by omega⟩,?_⟩
 refine vs ?_
 rw[U9]
 have zS:=c1.slt
 have z1:=f1.size
 have z2:=f2.size
 have hrs:r<H2.size∧nb<H2.size∧pb<H2.size:=⟨aG r2.own,aG r2.PJ,aG r2.Wg⟩
 obtain⟨rn1,rn2,rn3⟩:=r2.ne
 have f3:aq H2 (((H2.new 273 (aO (List.replicate cap.toNat ⟨0,0,0,false⟩))).new 3 [Value.int .i64 (-1)]).new 271 [ptr c,ptr r,.slice (some ⟨H2.size,0,none⟩) cap.toNat cap.toNat,.slice (some ⟨H2.size+1,0,none⟩) 1 1]):=(((ah.refl _ _).new _ _).new _ _).new _ _
 have e1:ah (fun _=>False) (H2.new 273 (aO (List.replicate cap.toNat ⟨0,0,0,false⟩))) (((H2.new 273 (aO (List.replicate cap.toNat ⟨0,0,0,false⟩))).new 3 [Value.int .i64 (-1)]).new 271 [ptr c,ptr r,.slice (some ⟨H2.size,0,none⟩) cap.toNat cap.toNat,.slice (some ⟨H2.size+1,0,none⟩) 1 1]):=((ah.refl _ _).new _ _).new _ _
 have e2:ah (fun _=>False) ((H2.new 273 (aO (List.replicate cap.toNat ⟨0,0,0,false⟩))).new 3 [Value.int .i64 (-1)]) (((H2.new 273 (aO (List.replicate cap.toNat ⟨0,0,0,false⟩))).new 3 [Value.int .i64 (-1)]).new 271 [ptr c,ptr r,.slice (some ⟨H2.size,0,none⟩) cap.toNat cap.toNat,.slice (some ⟨H2.size+1,0,none⟩) 1 1]):=(ah.refl _ _).new _ _
 obtain⟨B,hB⟩:∃B:FB,B=⟨H2.size+1+1,c,r,nb,pb,H2.size,H2.size+1⟩:=⟨_,rfl⟩
 have m0:bX (((H2.new 273 (aO (List.replicate cap.toNat ⟨0,0,0,false⟩))).new 3 [Value.int .i64 (-1)]).new 271 [ptr c,ptr r,.slice (some ⟨H2.size,0,none⟩) cap.toNat cap.toNat,.slice (some ⟨H2.size+1,0,none⟩) 1 1]) B C (CS cap) N P (List.replicate cap.toNat ⟨0,0,0,false⟩) [-1]:=by
  subst hB
  refine⟨⟨.slice (some ⟨H2.size+1,0,none⟩) 1 1,?_,?_⟩,c2.fresh f3,r2.ext f3 (fun h=>h) (fun h=>h) (fun h=>h),hinv,?_,?_,?_,?_⟩
  ·rw[aov]
   exact bD (by simp only[ar])
  ·exact(Sl.dw (size:=1) (n:=1) (xs:=[i64 (-1)]) rfl (by simp only[ar])).ext e2 (fun _ _ h=>h)
  ·exact e1.own (aE _ _ _) (fun h=>h)
  ·simp[CS,hN]
  ·refine⟨⟨?_,?_,?_,?_,?_⟩,⟨?_,?_,?_,?_⟩,⟨?_,?_,?_⟩⟩<;>simp only<;>omega
  ·refine⟨fun h=>?_,fun h=>?_,fun h=>?_,fun h=>?_,fun h=>?_,fun h=>?_⟩<;>(have h2:=zS _ h;first|omega| (simp only at h2;omega))
 have FW:B.n=H2.size+1+1:=by rw[hB]
 have hBs:∀z,B.S C z→H1.size≤z∨C z:=fun z hz=>by
  rcases hz with hz|rfl|rfl|rfl|rfl|rfl|rfl
  ·exact .inr hz
  all_goals rw[hB];left;first|omega| (simp only;omega)
 have hBt:B.tb=H2.size:=by rw[hB]
 have ft:=(f1.trans f2).trans f3
 generalize ((H2.new 273 (aO (List.replicate cap.toNat ⟨0,0,0,false⟩))).new 3 [Value.int .i64 (-1)]).new 271 [ptr c,ptr r,.slice (some ⟨H2.size,0,none⟩) cap.toNat cap.toNat,.slice (some ⟨H2.size+1,0,none⟩) 1 1]=H3 at*
 have rB:(CS cap).cs.length=cap.toNat:=by simp[CS]
 rw[←FW]
 refine bA.intro (fun m env H'=>∃ (j:Nat) (L':List Pc),m=cap.toNat - j∧j≤cap.toNat∧ah (fun z=>z=B.tb) H3 H'∧bX H' B C (CS cap) N P L' [-1]∧(∀z:Int,0≤z→z<j→eY L' z=ry)∧
  env=[(5,i64 0),(7,ptr B.n),(33,i64 (cap.toNat:Nat)),(34,i64 j)]) cap.toNat ⟨0,_,by omega,by omega,ah.refl _ _,m0,fun z h0 h1=>by omega,rfl⟩ ?_
 rintro m env H4 ⟨j,L4,rfl,hj,e4,m4,g4,rfl⟩
 obtain⟨cc,lt4,o4,_⟩:=m4.hG
 have XB:=m4.len
 refine vs ?_
 refine am.dec (fun aR=>?_) (fun aR=>?_)<;>refine vs ?_
 ·refine rq.intro (fun H'=>H'.own B.n=some [ptr B.c,ptr B.r,.slice (some ⟨B.tb,0,none⟩) L4.length L4.length,.slice (some ⟨B.tp,0,none⟩) [(-1:Int)].length cc]) o4 ?_
  refine vs ?_
  refine oQ.intro (.slice (some ⟨B.tb,0,none⟩) L4.length L4.length) (fun H' hI=>by refine v1 (ae hI) ?_;trivial) ?_
  refine vs ?_
  refine(xO H4).mono ?_
  rintro _ H5 ⟨rfl,e5⟩
  have o5:=e5.own o4 (fun h=>h)
  refine And.intro o5 ?_
  have m5:=m4.fresh e5
  refine vs ?_
  refine⟨⟨by omega,by omega⟩,?_⟩
  obtain⟨b0,_⟩:=m5.rd (x:=(j:Int)) (by omega)
  obtain⟨L6,k6,m6,e6⟩:=m5.Oz (x:=(j:Int)) (by omega) ry
  refine v2 m5.places anB ?_
  refine⟨by omega,?_⟩
  rw[show bk (aO L4) ((j:Int).toNat*4) (aM (Value.agg #[i64 (-1),i64 (-1),i64 0,Value.bool false]))=bk (aO L4) ((j:Int).toNat*4) [i64 ry.u,i64 ry.k,i64 ry.d,.bool ry.m]from rfl]
  have Ds:=m5.rl.1.2.2.2.1
  generalize H5.wr B.tb (bk (aO L4) ((j:Int).toNat*4) [i64 ry.u,i64 ry.k,i64 ry.d,.bool ry.m])=H6 at*
  refine vs ?_
  refine And.intro (e6.own o5 Ds) ?_
  refine vs ?_
  refine⟨cap.toNat - (j+1),by omega,j+1,L6,rfl,by omega,(e4.trans (e5.mono fun _ _ h=>h.elim)).trans e6,m6,fun z h0 h1=>?_,?_⟩
  ·rw[k6]
   unfold pQ
   split
   ·rfl
   ·exact g4 z h0 (by omega)
  ·rw[wrap64 (n:=(j:Int)+1) (by omega) (by omega)]
   rfl
 ·obtain rfl:j=cap.toNat:=by omega
  have hpc:∀z,eY L4 z=ry:=fun z=>by
   by_cases hz:0≤z∧z< (cap.toNat:Int)
   ·exact g4 z hz.1 hz.2
   ·unfold eY
    split
    ·rw[anP (by omega)];rfl
    ·rfl
  refine⟨ft.then e4 (fun z hz=>by omega),.inr ⟨hb,B.n,B.S C,rfl,⟨B,C,N,P,L4,[-1],fun _=>[],fun _=> -1,fun _=>[],rfl,m4,⟨⟨⟨rfl,fun x c hc=>absurd hc (by simp),fun c x h hx=>absurd (Eq.symm h) hx,fun x=>aoU⟩,
   fun x=>trivial,fun h=>trivial,fun h=>aoU,fun h c hc=>absurd hc (by simp),aoU,fun c hc=>absurd hc (by simp),fun c hc=>absurd hc (nT cap c),fun c _=>Zu c⟩,fun x=>by rw[hpc];exact⟨rfl,rfl,rfl⟩,
   fun g=>Ek g,fun g y hg hy=>absurd (show 0<aI (CS cap) y by omega) (nT cap y),rfl⟩,fun z=>Iff.rfl⟩,fun z hz=>?_⟩⟩
  rcases hBs z hz with h|h
  ·omega
  ·exact hC z h
theorem MC(n:Nat):zW (.iface 206 (ptr n)) (kL n) where
 slt h:=h.slt
 ext h e hd:=h.ext e hd
 cells:=by
  rintro H S w ⟨B,C,N,P,L,tops,ch,par,ax,rfl,m,l,hS⟩
  exact⟨B.c,C,m.cells⟩
 has:=by
  rintro H S w g ⟨B,C,N,P,L,tops,ch,par,ax,rfl,m,l,hS⟩
  obtain⟨tv,ho,_⟩:=m.own
  exact⟨_,_,bF,ptr B.c,rfl,hX (off:=0) (by kernel_rfl) (ae ho) rfl,(kJ m.cells g).mono fun v H' hp=>hp⟩
 make:=by
  intro H S w h
  exact⟨_,_,my,ptr n,rfl,bE (by kernel_rfl),(Jj h).mono fun v H' hp=>hp⟩
 insert:=by
  intro H S w g x k s h
  exact⟨_,_,kA,ptr n,rfl,bE (by kernel_rfl),(F2 h g x k s).mono fun v H' hp=>hp⟩
 min:=by
  intro H S w g h
  refine⟨_,_,nE,ptr n,rfl,bE (by kernel_rfl),(C1 h g).mono ?_⟩
  rintro v H' ⟨⟨h1,rfl⟩| ⟨x,h1,rfl⟩,rfl⟩
  ·exact .inl ⟨h1,rfl,cD.same h (ah.refl _ _)⟩
  ·exact .inr ⟨x,h1,rfl,cD.same h (ah.refl _ _)⟩
 extract:=by
  intro H S w g h
  exact⟨_,_,jh,ptr n,rfl,bE (by kernel_rfl),(Ey h g).mono fun v H' hp=>hp⟩
 qG:=by
  intro H S w x k s h
  exact⟨_,_,iu,ptr n,rfl,bE (by kernel_rfl),(C2 h x k s).mono fun v H' hp=>hp⟩
 entry:=by
  rintro H S w x ⟨B,C,N,P,L,tops,ch,par,ax,rfl,m,l,hS⟩
  obtain⟨tv,ho,_⟩:=m.own
  refine⟨_,_,bj,ptr B.c,rfl,hX (off:=0) (by kernel_rfl) (ae ho) rfl,(jn m.cells x).mono ?_⟩
  rintro v H' ⟨c1,f,hv⟩
  exact⟨⟨B,C,N,P,L,tops,ch,par,ax,rfl,m.fresh f,l,hS⟩,f,hv⟩
theorem qM(n:Nat)(H:Hp):ai Tryz.prog yD [ptr n,i64 0] H fun v H'=>ay (v= .tuple [.iface 194 (ptr n),i64 0].toArray∧H'=H):=by
 refine ba yW ⟨rfl,?_⟩
 refine v2 iB.eq_1 anZ ?_
 exact⟨rfl,rfl⟩
theorem pE(n:Nat)(H:Hp):ai Tryz.prog rS [ptr n,i64 0] H fun v H'=>ay (v= .tuple [.iface 206 (ptr n),i64 0].toArray∧H'=H):=by
 refine ba rZ ⟨rfl,?_⟩
 refine v2 ee.eq_1 anZ ?_
 exact⟨rfl,rfl⟩
def E6(kd dd:Int):Prop:=∀ (cap:Int),(0≤cap∧cap≤65536)→∀H:Hp,ai Tryz.prog JI [Mu kd dd,i64 cap] H fun v H'=>ay (∃t vv I Sn,v= .tuple [.iface t vv,i64 0].toArray∧zW (.iface t vv) I∧I H' Sn (CS cap)∧aq H H'∧∀z,Sn z→H.size≤z)
theorem S9:E6 1 0:=by
 intro cap hc H
 have hf:lZ 1 0:=by decide
 refine ba DK ⟨rfl,?_⟩
 refine v1 sY.eq_1 ?_
 have f0:aq H (H.new 23 [i64 1,i64 0]):=(ah.refl _ _).new _ _
 have o0:(H.new 23 [i64 1,i64 0]).own H.size=some [i64 1,i64 0]:=aE _ _ _
 have z0:(H.new 23 [i64 1,i64 0]).size=H.size+1:=ar _ _ _
 generalize H.new 23 [i64 1,i64 0]=H0 at*
 refine am.cF (by decide) ?_
 refine v1 (ae o0) ?_
 refine am.cF (by decide) ?_
 refine v1 (ae o0) ?_
 refine(l9 hf (by decide) H0).mono ?_
 rintro _ H1 ⟨rfl,f1⟩
 refine vs ?_
 refine(sC cap _ H1).mono ?_
 rintro _ H2 ⟨f2,⟨hb,rfl⟩| ⟨_,hd,rfl⟩| ⟨_,hd,n,Sn,rfl,h2,KP⟩⟩
 ·exact absurd hc hb
 ·refine absurd ?_ hd
  obtain⟨_,h|h⟩:=hf
  ·first|exact⟨h.2.1,h.2.2⟩|exact absurd h.1 (by decide)
  ·first|exact⟨by decide,by decide⟩|exact absurd rfl h.1
 ·refine vs ?_
  refine(qM n H2).mono ?_
  rintro _ _ ⟨rfl,rfl⟩
  have z1:=f1.size
  refine vs ?_
  exact⟨_,_,_,Sn,rfl,Bu n _,⟨0,h2⟩,(f0.trans f1).trans f2,fun z hz=>by have:=KP z hz;omega⟩
theorem QO:E6 5 0:=by
 intro cap hc H
 have hf:lZ 5 0:=by decide
 refine ba DK ⟨rfl,?_⟩
 refine v1 sY.eq_1 ?_
 have f0:aq H (H.new 23 [i64 5,i64 0]):=(ah.refl _ _).new _ _
 have o0:(H.new 23 [i64 5,i64 0]).own H.size=some [i64 5,i64 0]:=aE _ _ _
 have z0:(H.new 23 [i64 5,i64 0]).size=H.size+1:=ar _ _ _
 generalize H.new 23 [i64 5,i64 0]=H0 at*
 refine am.aW (by decide) ?_
 refine vs ?_
 refine am.aW (by decide) ?_
 refine vs ?_
 refine am.aW (by decide) ?_
 refine vs ?_
 refine am.aW (by decide) ?_
 refine vs ?_
 refine am.cF (by decide) ?_
 refine vs ?_
 refine(C3 cap H0).mono ?_
 rintro _ H2 ⟨f2,⟨hb,rfl⟩| ⟨_,n,Sn,rfl,h2,KP⟩⟩
 ·exact absurd hc hb
 ·refine vs ?_
  refine(pE n H2).mono ?_
  rintro _ _ ⟨rfl,rfl⟩
  refine vs ?_
  exact⟨_,_,_,Sn,rfl,MC n,h2,f0.trans f2,fun z hz=>by have:=KP z hz;omega⟩
def QP(cap:Int)(mo:Nat):Ar:=⟨List.replicate cap.toNat (0,false),[],0,0,mo⟩
theorem KQ{kd dd cap:Int}{mo:Nat}(hf:lZ kd dd)(Dt:E6 kd dd)(hc:0≤cap∧cap≤65536)(hm:0<mo∧mo≤4294967295)(H:Hp):ai Tryz.prog Qb [Mu kd dd,i64 cap,.int .u32 (mo:Int)] H fun v H'=>ay (∃s S,v= .tuple [ptr s,i64 0].toArray∧Gh H' s S (CS cap) (QP cap mo) 0∧aq H H'∧∀z,S z→H.size≤z):=by
 refine ba Qd ⟨rfl,?_⟩
 refine v1 DH.eq_1 ?_
 have f0:aq H (H.new 23 [i64 kd,i64 dd]):=(ah.refl _ _).new _ _
 have o0:(H.new 23 [i64 kd,i64 dd]).own H.size=some [i64 kd,i64 dd]:=aE _ _ _
 have z0:(H.new 23 [i64 kd,i64 dd]).size=H.size+1:=ar _ _ _
 generalize H.new 23 [i64 kd,i64 dd]=H0 at*
 refine(qI kd dd H0).mono ?_
 rintro _ H1 ⟨rfl,f1⟩
 rw[Ol hf]
 have o1:=f1.own o0 (fun h=>h)
 have z1:=f1.size
 refine vs ?_
 refine am.dec (fun _=>?_) (fun hh=>absurd trivial hh)
 refine vs ?_
 refine(Hf H1 hc hm).mono ?_
 rintro _ H2 ⟨B,rfl,m2,f2,hB⟩
 have o2:=f2.own o1 (fun h=>h)
 have z2:=f2.size
 refine vs ?_
 refine am.dec (fun _=>?_) (fun hh=>absurd trivial hh)
 refine v1 (ae o2) ?_
 refine(Dt _ hc H2).mono ?_
 rintro _ H3 ⟨t,vv,I,Sn,rfl,n,hi,f3,RI⟩
 have o3:=f3.own o2 (fun h=>h)
 have z3:=f3.size
 refine vs ?_
 refine am.dec (fun _=>?_) (fun hh=>absurd trivial hh)
 refine v1 (ae o3) ?_
 have hsB:=m2.slt
 have hsN:=fun z hz=>n.slt hi z hz
 have f4:aq H3 (H3.new 161 [i64 kd,i64 dd,ptr B.a,.iface t vv,u64 0]):=(ah.refl _ _).new _ _
 have b4:(H3.new 161 [i64 kd,i64 dd,ptr B.a,.iface t vv,u64 0]).own H3.size=some [i64 kd,i64 dd,ptr B.a,.iface t vv,u64 0]:=aE _ _ _
 refine⟨H3.size,fun z=>Sn z∨B.S z∨z=H3.size,rfl,⟨t,vv,I,Sn,B,kd,dd,n,n.ext hi f4 (fun _ _ h=>h),(m2.ext f3 (fun _ _ h=>h)).ext f4 (fun _ _ h=>h),b4,fun z hz=>⟨fun h=>?_,?_⟩,fun h=>?_,fun z=>Iff.rfl,⟨by simp[CS,QP],fun x=>?_⟩⟩,(((f0.trans f1).trans f2).trans f3).trans f4,fun z hz=>?_⟩
 ·have:=hsB z h
  have:=RI z hz
  omega
 ·have:=hsN z hz
  omega
 ·have:=hsB _ h
  omega
 ·constructor
  ·intro h
   exact absurd (bK.2 h) (nT cap x)
  ·rintro⟨h0,h1⟩
   simp only[QP,aoH]at h1
   split at h1<;>simp at h1
 ·rcases hz with h|h|h
  ·have:=RI z h;omega
  ·have:=hB z h;omega
  ·omega
abbrev OB:Shape:=.s [(0,(none,.int)),(1,(none,.int))]
def xQ(H:Hp)(b:Nat)(L:List ((Int×Nat)×Value)):Prop:=∃es k,H.mp b=some (es,k)∧es.map (fun e=>(e.key,e.val))=L.map (fun p=>(jd p.1.1 p.1.2,p.2))∧(L.map (·.1)).Nodup
theorem xQ.new(H:Hp):xQ H.fX H.size []:=⟨[],0,KR H,rfl,aoU⟩
theorem xQ.ext{H H':Hp}{b:Nat}{L:List ((Int×Nat)×Value)}{S:Nat→Prop}(h:xQ H b L)(e:ah S H H')(hs:¬S b):xQ H' b L:=by
 obtain⟨es,k,h1,h2⟩:=h
 exact⟨es,k,e.mp h1 hs,h2⟩
theorem xQ.lt{H:Hp}{b:Nat}{L:List ((Int×Nat)×Value)}(h:xQ H b L):b<H.size:=by
 obtain⟨es,k,h1,h2⟩:=h
 exact PM h1
theorem Va(a b:Int×Nat):tB OB (jd a.1 a.2) (jd b.1 b.2)=some (decide (a=b)):=by
 obtain⟨x,g⟩:=a
 obtain⟨y,h⟩:=b
 simp only[tB,CO,HG,an7,aox,bB,if_pos rfl]
 by_cases e:x=y
 ·by_cases e2:g=h
  ·simp[e,e2,bB]
  ·have:¬ ((g:Int)=(h:Int)):=by omega
   simp[e,e2,this,bB]
 ·simp[e,bB]
theorem JS(a:Int×Nat):∀ (es:List MapEntry) (L:List ((Int×Nat)×Value)),es.map (fun e=>(e.key,e.val))=L.map (fun p=>(jd p.1.1 p.1.2,p.2))→(L.map (·.1)).Nodup→∀n:Nat,
  (a∉L.map (·.1)→ic OB (jd a.1 a.2) es n=some none)∧(∀v,(a,v)∈L→∃j,ic OB (jd a.1 a.2) es n=some (some (j,v))):=by
 intro es
 induction es with
 |nil=>
  intro L hL _ n
  cases L with
  |nil=>exact⟨fun _=>rfl,fun v h=>by cases h⟩
  |cons p L=>simp at hL
 |cons e es ih=>
  intro L hL hd n
  cases L with
  |nil=>simp at hL
  |cons p L=>
   rw[aoy,aoy]at hL
   injection hL with h1 h2
   injection h1 with h1 h3
   rw[aoy,anV]at hd
   have hq:tB OB (jd a.1 a.2) e.key=some (decide (a=p.1)):=by rw[h1];exact Va a p.1
   obtain⟨i1,i2⟩:=ih L h2 hd.2 (n+1)
   refine⟨fun hn=>?_,fun v hv=>?_⟩
   ·rw[aoy,anN,not_or]at hn
    rw[ic,hq,anU hn.1]
    exact i1 hn.2
   ·by_cases e2:a=p.1
    ·rw[ic,hq,anQ e2]
     rcases anN.1 hv with h|h
     ·refine⟨n,?_⟩
      simp only
      rw[h3,←h]
     ·exact absurd (aou.2 ⟨(a,v),h,e2⟩) hd.1
    ·rw[ic,hq,anU e2]
     rcases anN.1 hv with h|h
     ·exact absurd (by rw[←h]) e2
     ·exact i2 v h
theorem EA(x:Int)(g:Nat):C4 OB (jd x g)=true:=rfl
theorem xQ.look{H:Hp}{b:Nat}{L:List ((Int×Nat)×Value)}(h:xQ H b L){a:Int×Nat}{v:Value}(hv:(a,v)∈L){F:Option Value→Prop}(hF:F (some v)):z8 H OB (some b) (jd a.1 a.2) F:=by
 obtain⟨es,k,h1,h2,h3⟩:=h
 unfold z8
 simp only[h1,qN]
 obtain⟨j,hj⟩:=(JS a es L h2 h3 0).2 v hv
 rw[hj]
 exact hF
theorem xQ.Zc{H:Hp}{b:Nat}{L:List ((Int×Nat)×Value)}(h:xQ H b L){a:Int×Nat}{v:Value}(hn:a∉L.map (·.1)){F:Hp→Prop}(hk:∀H',xQ H' b (L++[(a,v)])→ah (fun x=>x=b) H H'→F H'):Ta H OB b (jd a.1 a.2) v F:=by
 obtain⟨es,k,h1,h2,h3⟩:=h
 unfold Ta
 simp only[h1,qN]
 rw[(JS a es L h2 h3 0).1 hn]
 refine⟨rfl,hk _ ⟨_,_,nV h1,by simp[MD,h2],?_⟩ ((ah.refl (fun x=>x=b) H).EW (fun _=>rfl) _ _)⟩
 rw[aos,apS,aon]
 refine⟨h3,by simp,fun x hx c hc e=>?_⟩
 rw[anM]at hc
 have e2:x=a:=e.trans hc;rw[e2]at hx;exact hn hx
end Go.Proofs.YtjlnnljohemifaaGreat
