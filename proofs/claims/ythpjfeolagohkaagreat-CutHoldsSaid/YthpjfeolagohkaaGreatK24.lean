/- Texts put behind each other. -/
import Derived.Test.YthpjfeolagohkaaGreatK98
import Derived.Test.YthpjfeolagohkaaGreatK22
import Derived.Test.YthpjfeolagohkaaGreatK23
set_option maxRecDepth 100000
set_option maxHeartbeats 8000000
set_option linter.unusedVariables false
set_option linter.unusedSimpArgs false
namespace Go.Proofs.YthpjfeolagohkaaGreat
open Go Go.Vc
def KH(n:Nat)(es:List Ed)(ks:List Int)(xs:Nat→List Int):Prop:=∀v,v<n→∀i,i∈xs v↔i∈ks∧Touch (fE es i) v
theorem JB{n j ik:Nat}{es:List Ed}{ks:List Int}{xs:Nat→List Int}{e:Ed}(h:KH n es (ks.take j) xs)(hk:ks.take (j+1)=ks.take j++[(ik:Int)])(he:fE es (ik:Int)=(e.f.toNat,e.t.toNat)):
  KH n es (ks.take (j+1)) (jE (jE xs e.f.toNat (xs e.f.toNat++[(ik:Int)])) e.t.toNat (jE xs e.f.toNat (xs e.f.toNat++[(ik:Int)]) e.t.toNat++[(ik:Int)])):=by
 intro v hv i
 have hh:=h v hv i
 rw[hk,aqq,aql]
 have ht:Touch (fE es (ik:Int)) v↔e.f.toNat=v∨e.t.toNat=v:=by rw[he];exact Iff.rfl
 unfold jE
 by_cases h1:v=e.t.toNat
 ·subst h1
  rw[if_pos rfl]
  by_cases h2:e.t.toNat=e.f.toNat
  ·rw[if_pos h2,aqq,aqq,aql,←h2,hh]
   constructor
   ·rintro((⟨a,b⟩|rfl)|rfl)
    ·exact⟨.inl a,b⟩
    ·exact⟨.inr rfl,ht.2 (.inr rfl)⟩
    ·exact⟨.inr rfl,ht.2 (.inr rfl)⟩
   ·rintro⟨a|a,b⟩
    ·exact .inl (.inl ⟨a,b⟩)
    ·exact .inr a
  ·rw[if_neg h2,aqq,aql,hh]
   constructor
   ·rintro(⟨a,b⟩|rfl)
    ·exact⟨.inl a,b⟩
    ·exact⟨.inr rfl,ht.2 (.inr rfl)⟩
   ·rintro⟨a|a,b⟩
    ·exact .inl ⟨a,b⟩
    ·exact .inr a
 ·rw[if_neg h1]
  by_cases h2:v=e.f.toNat
  ·subst h2
   rw[if_pos rfl,aqq,aql,hh]
   constructor
   ·rintro(⟨a,b⟩|rfl)
    ·exact⟨.inl a,b⟩
    ·exact⟨.inr rfl,ht.2 (.inl rfl)⟩
   ·rintro⟨a|a,b⟩
    ·exact .inl ⟨a,b⟩
    ·exact .inr a
  ·rw[if_neg h2,hh]
   constructor
   ·rintro⟨a,b⟩;exact⟨.inl a,b⟩
   ·rintro⟨a|a,b⟩
    ·exact⟨a,b⟩
    ·subst a
     rcases ht.1 b with b|b
     ·exact absurd b.symm h2
     ·exact absurd b.symm h1
theorem JC{n j:Nat}{xs:Nat→List Int}{i i':Nat}{x x':Int}(h:∀v,v<n→(xs v).length≤2*j):∀v,v<n→((jE (jE xs i (xs i++[x])) i' (jE xs i (xs i++[x]) i'++[x'])) v).length≤2*(j+1):=by
 intro v hv
 have:=h v hv
 unfold jE
 split
 ·rename_i h1
  subst h1
  split
  ·rename_i h2;subst h2;rw[aqj,aqj,aqn,aqn];omega
  ·rw[aqj,aqn];omega
 ·split
  ·rename_i h2;subst h2;rw[aqj,aqn];omega
  ·omega
theorem Fa{H:Hp}{n:Int}{a a':Option Addr}{c c':Nat}{es:List Ed}{ks:List Int}(h:db H 3 (.slice a es.length c) es.length (dk es))(h':db H 1 (.slice a' ks.length c') ks.length (ks.map i64))
  (hr:gL n es)(bH:∀i∈ks,Oo es i)(hl:ks.length≤1000000):
  af Tryz.prog Kj [Dt n (.slice a es.length c),.slice a' ks.length c'] H fun v H'=>ax (ah H H'∧∃t bu bd bp up deep part,v=ptr t∧
   cI H' (H.size+1) t bu bd bp n.toNat n (.slice a es.length c) up (fun v=>((deep v:Nat):Int)) (fun v=>((part v:Nat):Int))∧ir n.toNat (fE es) ks up deep part∧∀v,v<n.toNat→deep v≤n.toNat):=by
 refine EL Kq ⟨rfl,?_⟩
 have LH:=hr.n0
 have yL:=hr.n1
 have f0:ah H (H.new 26 [i64 n,.slice a es.length c]):=(ag.refl _ _).new _ _
 have b0:=az H 26 [i64 n,.slice a es.length c]
 have LC:(H.new 26 [i64 n,.slice a es.length c]).size=H.size+1:=by rw[am]
 simp(disch:=(first|omega| (simp only[Zs]<;>omega)|fail)) only[go_sem, ↓reduceIte,Zv,Bv,Dt]
 generalize H.new 26 [i64 n,.slice a es.length c]=H0 at*
 refine uU (fun e h=>∃t bu bd bp,e.find 1=some (.slice a' ks.length c')∧e.find 2=some (ptr H.size)∧e.find 5=some (ptr t)∧ah H h∧h.own H.size=some [i64 n,.slice a es.length c]∧
  cI h (H.size+1) t bu bd bp n.toNat n (.slice a es.length c) (fun _=>0) (fun _=>0) (fun _=>0)) ?_ ?_
 ·refine gP.intro (fun H'=>H'.own H.size=some [i64 n,.slice a es.length c]) b0 ?_
  refine vs ?_
  refine dP.intro (.agg #[i64 n,.slice a es.length c]) (fun H' hI=>by refine v1 (ae hI) ?_;trivial) ?_
  refine vs ?_
  refine dP.intro (i64 n) (fun H' hI=>by refine v1 (ae hI) ?_;exact⟨trivial,trivial⟩) ?_
  refine vs ?_
  refine dP.intro (i64 n) (fun H' hI=>by refine v1 (ae hI) ?_;exact⟨trivial,trivial⟩) ?_
  refine vs ?_
  refine dP.intro (i64 n) (fun H' hI=>by refine v1 (ae hI) ?_;exact⟨trivial,trivial⟩) ?_
  refine vs ?_
  have kp:∀ {H':Hp} (T:Nat) (l:List Value),H'.own H.size=some [i64 n,.slice a es.length c]→(H'.new T l).own H.size=some [i64 n,.slice a es.length c]:=fun{H'} T l ho=>((ag.refl _ _).new _ _:ah H' (H'.new T l)).own ho (fun h=>h)
  refine zg.intro ?_ (zg.intro ?_ ?_)
  all_goals
   refine vs ?_
   refine⟨⟨by omega,by omega,by omega,by omega⟩,?_⟩
   refine vs ?_
   refine And.intro b0 ?_
   refine vs ?_
   refine zg.intro ?_ ?_
   all_goals
    refine vs ?_
    refine⟨⟨by omega,by omega,by omega,by omega⟩,?_⟩
    refine vs ?_
    refine And.intro b0 ?_
    refine vs ?_
    refine⟨⟨by omega,by omega,by omega,by omega⟩,?_⟩
    refine vs ?_
    refine And.intro b0 ?_
    refine vs ?_
    refine And.intro b0 ?_
    refine vs ?_
    have tm:=fun bu bd bp h1 h2 h3 h4=>QQ H0 3 3 3 130 (H.size+1) (Nat.le_of_eq LC.symm) n.toNat n (.slice a es.length c) bu bd bp h1 h2 h3 h4
    refine⟨H0.size+3,_,_,_,trivial,trivial,rfl,f0.trans (tm _ _ _ ?_ ?_ ?_ ?_).2,b0,(tm _ _ _ ?_ ?_ ?_ ?_).1⟩<;>omega
 rintro e H4 ⟨t,bu,bd,bp,e1,e2,e5,f4,g4,t4⟩
 have Vi:=t4.lt
 have ajy:=t4.low
 refine v4 e1 e2 e5 (ae g4) ?_
 refine⟨⟨by omega,by omega,by omega,by omega⟩,?_⟩
 have fo:ah H4 (H4.new 30 (aV [.slice none 0 0] n.toNat)):=(ag.refl _ _).new _ _
 have r0:=qV.new (T:=30) (B:=H4.size) (n:=n.toNat) H4 (aqm _) (MI n.toNat)
 have g5:=fo.own g4 (fun h=>h)
 have t5:=t4.fresh fo
 have f5:=f4.trans fo
 have hz5:(H4.new 30 (aV [.slice none 0 0] n.toNat)).size=H4.size+1:=by rw[am]
 refine v3 e1 e2 e5 ?_
 generalize H4.new 30 (aV [.slice none 0 0] n.toNat)=H5 at*
 refine aY.intro (fun m env H'=>ah H H'∧H'.own H.size=some [i64 n,.slice a es.length c]∧cI H' (H.size+1) t bu bd bp n.toNat n (.slice a es.length c) (fun _=>0) (fun _=>0) (fun _=>0)∧H5.size≤H'.size∧
  ∃ (j:Nat) (xs:Nat→List Int) (fp:Nat→Option Nat),m=ks.length - j∧j≤ks.length∧qV H' H4.size H4.size n.toNat xs fp∧KH n.toNat es (ks.take j) xs∧(∀v,v<n.toNat→(xs v).length≤2*j)∧
  env=[(2,ptr H.size),(5,ptr t),(6,.slice (some ⟨H4.size,0,none⟩) n.toNat n.toNat),(32,.slice a' ks.length c'),(33,i64 ks.length),(34,i64 j)]) ks.length ⟨f5,g5,t5,aqm _,0,_,_,by omega,by omega,r0,fun v _ i=>by simp,fun v _=>by simp,rfl⟩ ?_
 clear r0 g5 t5 f5 fo g4 t4 f4
 rintro m env H6 ⟨f6,g6,t6,z6,j,xs,fp,hm,hj,sl6,Yi,lJ,rfl⟩
 have h6:=h.fresh f6
 have h6':=h'.fresh f6
 refine vs ?_
 refine ar.dec (fun aN=>?_) (fun aN=>?_)<;>refine vs ?_
 ·obtain⟨i,hi⟩:∃x,ks[j]? =some x:=⟨_,aqb (by omega)⟩
  have bq:=aqg hi
  obtain⟨ik,e,rfl,he,PE⟩:=(bH i bq).get
  obtain⟨Yb,Yc,Yd,Ye⟩:=hr.ends e (aqg he)
  obtain⟨_,bx,o,lb,rfl,fU,cj⟩:=db.num h6' hi
  obtain⟨_,be,oe,le,rfl,KA,oP,dA,jW,sI,ww⟩:=db.sK h6 he
  refine uU (fun e H'=>ah H H'∧H'.own H.size=some [i64 n,.slice (some ⟨be,oe,none⟩) es.length c]∧cI H' (H.size+1) t bu bd bp n.toNat n (.slice (some ⟨be,oe,none⟩) es.length c) (fun _=>0) (fun _=>0) (fun _=>0)∧H5.size≤H'.size∧
   (∃ (xs:Nat→List Int) (fp:Nat→Option Nat),qV H' H4.size H4.size n.toNat xs fp∧KH n.toNat es (ks.take (j+1)) xs∧∀v,v<n.toNat→(xs v).length≤2*(j+1))∧
   e.find 2=some (ptr H.size)∧e.find 5=some (ptr t)∧e.find 6=some (.slice (some ⟨H4.size,0,none⟩) n.toNat n.toNat)∧e.find 32=some (.slice (some ⟨bx,o,none⟩) ks.length c')∧e.find 33=some (i64 ks.length)∧e.find 34=some (i64 j)) ?_ ?_
  ·refine vs ?_
   refine⟨⟨by omega,by omega⟩,?_⟩
   refine v5 fU Int.toNat_natCast aqd cj (ae g6) ?_
   refine⟨⟨by omega,by omega⟩,?_⟩
   simp(disch:=(first|omega| (simp only[Zs]<;>omega)|fail)) only[go_sem, ↓reduceIte,Zv,KA,Int.toNat_natCast,dA,cV]
   refine⟨by omega,?_⟩
   have q6:=az H6 53 [i64 0,i64 0,i64 0]
   simp(disch:=(first|omega| (simp only[Zs]<;>omega)|fail)) only[go_sem, ↓reduceIte,Zv,dA,cV,q6]
   have q7:=ai (l:=[i64 e.f,i64 e.t,i64 e.w]) q6
   have ff7:ah H6 ((H6.new 53 [i64 0,i64 0,i64 0]).wr H6.size [i64 e.f,i64 e.t,i64 e.w]):=((ag.refl _ _).new _ _:ah H6 _).then ((ag.refl (fun z=>z=H6.size) _).wr (fun _=>rfl) _) (fun z hz=>by omega)
   have hz7:((H6.new 53 [i64 0,i64 0,i64 0]).wr H6.size [i64 e.f,i64 e.t,i64 e.w]).size=H6.size+1:=by rw[cG,am]
   generalize (H6.new 53 [i64 0,i64 0,i64 0]).wr H6.size [i64 e.f,i64 e.t,i64 e.w]=H7 at*
   have sl7:=sl6.fresh ff7
   have t7:=t6.fresh ff7
   have g7:=ff7.own g6 (fun h=>h)
   have f7:=f6.trans ff7
   have aR:∀i q,i<n.toNat→fp i=some q→q≠H6.size:=fun i q hi hq=>by have:=sl6.acj hi hq;omega
   have z7:H5.size≤H7.size:=by omega
   refine uU (fun e' H'=>ah H H'∧H'.own H.size=some [i64 n,.slice (some ⟨be,oe,none⟩) es.length c]∧cI H' (H.size+1) t bu bd bp n.toNat n (.slice (some ⟨be,oe,none⟩) es.length c) (fun _=>0) (fun _=>0) (fun _=>0)∧H5.size≤H'.size∧H'.own H6.size=some [i64 e.f,i64 e.t,i64 e.w]∧
    (∃ (xs':Nat→List Int) (bI:Nat→Option Nat),qV H' H4.size H4.size n.toNat xs' bI∧xs'=jE xs e.f.toNat (xs e.f.toNat++[(ik:Int)])∧(∀i q,i<n.toNat→bI i=some q→q≠H6.size)∧H6.size<H'.size)∧
    e'.find 2=some (ptr H.size)∧e'.find 5=some (ptr t)∧e'.find 6=some (.slice (some ⟨H4.size,0,none⟩) n.toNat n.toNat)∧e'.find 8=some (i64 ik)∧e'.find 9=some (ptr H6.size)∧e'.find 32=some (.slice (some ⟨bx,o,none⟩) ks.length c')∧e'.find 33=some (i64 ks.length)∧e'.find 34=some (i64 j)) ?_ ?_
   ·have Yj:e.f.toNat<n.toNat:=by omega
    obtain⟨bX,sv,Dx,AL,pO,gT⟩:=sl7.get Yj
    have WC:=lJ e.f.toNat Yj
    refine gP.intro (fun H'=>H'.own H6.size=some [i64 e.f,i64 e.t,i64 e.w]) q7 ?_
    refine vs ?_
    refine dP.intro (i64 e.f) (fun H' hI=>by refine v1 (ae hI) ?_;exact⟨trivial,trivial⟩) ?_
    refine vs ?_
    refine dP.intro (i64 e.f) (fun H' hI=>by refine v1 (ae hI) ?_;exact⟨trivial,trivial⟩) ?_
    refine vs ?_
    refine⟨⟨by omega,by omega⟩,?_⟩
    refine vs ?_
    have fl:ah H7 (H7.new 3 [i64 ik]):=(ag.refl _ _).new _ _
    have ql:=fl.own q7 (fun h=>h)
    have Ov:=fl.own Dx (fun h=>h)
    have hzl:(H7.new 3 [i64 ik]).size=H7.size+1:=by rw[am]
    have Ow:=aR e.f.toNat
    have nY:=sl7.low e.f.toNat Yj
    have agR:=sl7.lt
    have hq7:=aB q7
    have fin:∀ (v':Value) (H9:Hp) (bI:Option Nat),Sl H9 1 v' ((xs e.f.toNat).length+1) ((xs e.f.toNat).map i64++[i64 ik]) bI→ag (fun z=>fp e.f.toNat=some z) (H7.new 3 [i64 ik]) H9→
      (bI=fp e.f.toNat∨∃p,bI=some p∧(H7.new 3 [i64 ik]).size≤p∧p<H9.size)→
      H9.own H4.size=some bX∧H9.own H6.size=some [i64 e.f,i64 e.t,i64 e.w]∧(H9.wr H4.size (bX.set e.f.toNat v')).own H6.size=some [i64 e.f,i64 e.t,i64 e.w]∧ah H (H9.wr H4.size (bX.set e.f.toNat v'))∧
      (H9.wr H4.size (bX.set e.f.toNat v')).own H.size=some [i64 n,.slice (some ⟨be,oe,none⟩) es.length c]∧
      cI (H9.wr H4.size (bX.set e.f.toNat v')) (H.size+1) t bu bd bp n.toNat n (.slice (some ⟨be,oe,none⟩) es.length c) (fun _=>0) (fun _=>0) (fun _=>0)∧H5.size≤(H9.wr H4.size (bX.set e.f.toNat v')).size∧
      qV (H9.wr H4.size (bX.set e.f.toNat v')) H4.size H4.size n.toNat (jE xs e.f.toNat (xs e.f.toNat++[(ik:Int)])) (Dw fp e.f.toNat bI)∧(∀i q,i<n.toNat→Dw fp e.f.toNat bI i=some q→q≠H6.size)∧H6.size< (H9.wr H4.size (bX.set e.f.toNat v')).size∧H9.own H.size=some [i64 n,.slice (some ⟨be,oe,none⟩) es.length c]:=by
     intro v' H9 bI s9 e9 eB
     obtain⟨k1,k2,k3,k4⟩:=sl7.push Yj Dx fl s9 e9 eB
     have a1:=k2.own q7 (fun hh=>Ow _ Yj hh rfl)
     have a2:=k3.own q7 (fun hh=>hh.elim (fun hh=>Ow _ Yj hh rfl) (fun hh=>by omega))
     refine⟨k1,a1,a2,f7.then k3 (fun z hz=>hz.elim (fun hz=>by have:=(nY z hz).1;omega) (fun hz=>by omega)),k3.own g7 (fun hh=>hh.elim (fun hz=>by have:=(nY _ hz).1;omega) (fun hz=>by omega)),t7.ext k3 ⟨?_,?_,?_,?_⟩,aqW (by omega) k3.size,k4,fun i q hi hq=>?_,aB a2,k2.own g7 (fun hz=>by have:=(nY _ hz).1;omega)⟩
     ·exact fun hh=>hh.elim (fun hz=>by have:=(nY _ hz).1;omega) (fun hz=>by omega)
     ·exact fun hh=>hh.elim (fun hz=>by have:=(nY _ hz).1;omega) (fun hz=>by omega)
     ·exact fun hh=>hh.elim (fun hz=>by have:=(nY _ hz).1;omega) (fun hz=>by omega)
     ·exact fun hh=>hh.elim (fun hz=>by have:=(nY _ hz).1;omega) (fun hz=>by omega)
     ·unfold Dw at hq
      split at hq
      ·rcases eB with h| ⟨p,h,h1,_⟩
       ·rw[h]at hq;exact Ow _ Yj hq
       ·rw[h]at hq;injection hq with hq;omega
      ·exact aR i q hi hq
    obtain⟨ra,rc,rfl,hrc⟩:=cH gT
    refine zg.intro ?_ ?_
    ·refine v4 (ae Dx) aqd aqa pO ?_
     refine And.intro q7 ?_
     refine vs ?_
     refine And.intro (by first|exact ql|exact q7) ?_
     refine vs ?_
     refine Sl.append (gT.ext fl (fun _ _ h=>h)) (Sl.bU (size:=1) (n:=1) (xs:=[i64 ik]) rfl rfl).rd rfl (iL [(ik:Int)]) (by omega) ?_
     intro v' H9 bI s9 e9 eB
     obtain⟨k1,k2,k3,k4,k5,k6,k7,k8,k9,k10,Yk⟩:=fin v' H9 bI s9 e9 eB
     obtain⟨va,SI,rfl,_⟩:=cH s9
     refine And.intro k2 ?_
     refine vs ?_
     refine⟨⟨by omega,by omega⟩,?_⟩
     refine v3 k1 aqd aqa ?_
     refine⟨by omega,?_⟩
     refine vs ?_
     refine And.intro (by first|exact k3|exact k2) ?_
     refine vs ?_
     rw[cG]at k7
     exact⟨k4,(by first|exact k5|exact Yk),k6,k7,(by first|exact k3|exact k2),⟨_,_,k8,rfl,k9,aB k2⟩,trivial,trivial,trivial,trivial,trivial,trivial,trivial,trivial⟩
    ·refine vs ?_
     refine And.intro (by first|exact ql|exact q7) ?_
     refine v4 (ae Ov) aqd aqa pO ?_
     refine And.intro (by first|exact ql|exact q7) ?_
     refine vs ?_
     refine Sl.append (gT.ext fl (fun _ _ h=>h)) (Sl.bU (size:=1) (n:=1) (xs:=[i64 ik]) rfl rfl).rd rfl (iL [(ik:Int)]) (by omega) ?_
     intro v' H9 bI s9 e9 eB
     obtain⟨k1,k2,k3,k4,k5,k6,k7,k8,k9,k10,Yk⟩:=fin v' H9 bI s9 e9 eB
     obtain⟨va,SI,rfl,_⟩:=cH s9
     refine And.intro k2 ?_
     refine vs ?_
     refine⟨⟨by omega,by omega⟩,?_⟩
     refine v3 k1 aqd aqa ?_
     refine⟨by omega,?_⟩
     refine vs ?_
     refine And.intro (by first|exact k3|exact k2) ?_
     refine vs ?_
     rw[cG]at k7
     exact⟨k4,(by first|exact k5|exact Yk),k6,k7,(by first|exact k3|exact k2),⟨_,_,k8,rfl,k9,aB k2⟩,trivial,trivial,trivial,trivial,trivial,trivial,trivial,trivial⟩
   ·rintro e' H8 ⟨f8,g8,t8,z8,q8,⟨_,fp8,Ug,rfl,acl,_⟩,e2,e5,e6,e8,e9,GL,GM,Ak⟩
    have agT:∀v,v<n.toNat→((jE xs e.f.toNat (xs e.f.toNat++[(ik:Int)])) v).length≤2*j+1:=fun v hv=>by
     have:=lJ v hv
     unfold jE
     split
     ·rename_i hh;subst hh;rw[aqj,aqn];omega
     ·omega
    refine v8 e2 e5 e6 e8 e9 GL GM Ak ?_
    have Yl:e.t.toNat<n.toNat:=by omega
    obtain⟨bX,sv,Dx,AL,pO,gT⟩:=Ug.get Yl
    have WC:=agT e.t.toNat Yl
    refine gP.intro (fun H'=>H'.own H6.size=some [i64 e.f,i64 e.t,i64 e.w]) q8 ?_
    refine v8 e2 e5 e6 e8 e9 GL GM Ak ?_
    refine dP.intro (i64 e.t) (fun H' hI=>by refine v9 e2 e5 e6 e8 e9 GL GM Ak (ae hI) ?_;exact⟨trivial,trivial⟩) ?_
    refine v8 e2 e5 e6 e8 e9 GL GM Ak ?_
    refine dP.intro (i64 e.t) (fun H' hI=>by refine v9 e2 e5 e6 e8 e9 GL GM Ak (ae hI) ?_;exact⟨trivial,trivial⟩) ?_
    refine v8 e2 e5 e6 e8 e9 GL GM Ak ?_
    refine⟨⟨by omega,by omega⟩,?_⟩
    refine v8 e2 e5 e6 e8 e9 GL GM Ak ?_
    have fl:ah H8 (H8.new 3 [i64 ik]):=(ag.refl _ _).new _ _
    have ql:=fl.own q8 (fun h=>h)
    have Ov:=fl.own Dx (fun h=>h)
    have hzl:(H8.new 3 [i64 ik]).size=H8.size+1:=by rw[am]
    have Ow:=acl e.t.toNat
    have nY:=Ug.low e.t.toNat Yl
    have agR:=Ug.lt
    have hq7:=aB q8
    have fin:∀ (v':Value) (H9:Hp) (bI:Option Nat),Sl H9 1 v' (((jE xs e.f.toNat (xs e.f.toNat++[(ik:Int)])) e.t.toNat).length+1) (((jE xs e.f.toNat (xs e.f.toNat++[(ik:Int)])) e.t.toNat).map i64++[i64 ik]) bI→ag (fun z=>fp8 e.t.toNat=some z) (H8.new 3 [i64 ik]) H9→
      (bI=fp8 e.t.toNat∨∃p,bI=some p∧(H8.new 3 [i64 ik]).size≤p∧p<H9.size)→
      H9.own H4.size=some bX∧H9.own H6.size=some [i64 e.f,i64 e.t,i64 e.w]∧(H9.wr H4.size (bX.set e.t.toNat v')).own H6.size=some [i64 e.f,i64 e.t,i64 e.w]∧ah H (H9.wr H4.size (bX.set e.t.toNat v'))∧
      (H9.wr H4.size (bX.set e.t.toNat v')).own H.size=some [i64 n,.slice (some ⟨be,oe,none⟩) es.length c]∧
      cI (H9.wr H4.size (bX.set e.t.toNat v')) (H.size+1) t bu bd bp n.toNat n (.slice (some ⟨be,oe,none⟩) es.length c) (fun _=>0) (fun _=>0) (fun _=>0)∧H5.size≤(H9.wr H4.size (bX.set e.t.toNat v')).size∧
      qV (H9.wr H4.size (bX.set e.t.toNat v')) H4.size H4.size n.toNat (jE (jE xs e.f.toNat (xs e.f.toNat++[(ik:Int)])) e.t.toNat ((jE xs e.f.toNat (xs e.f.toNat++[(ik:Int)])) e.t.toNat++[(ik:Int)])) (Dw fp8 e.t.toNat bI)∧(∀i q,i<n.toNat→Dw fp8 e.t.toNat bI i=some q→q≠H6.size)∧H6.size< (H9.wr H4.size (bX.set e.t.toNat v')).size∧H9.own H.size=some [i64 n,.slice (some ⟨be,oe,none⟩) es.length c]:=by
     intro v' H9 bI s9 e9 eB
     obtain⟨k1,k2,k3,k4⟩:=Ug.push Yl Dx fl s9 e9 eB
     have a1:=k2.own q8 (fun hh=>Ow _ Yl hh rfl)
     have a2:=k3.own q8 (fun hh=>hh.elim (fun hh=>Ow _ Yl hh rfl) (fun hh=>by omega))
     refine⟨k1,a1,a2,f8.then k3 (fun z hz=>hz.elim (fun hz=>by have:=(nY z hz).1;omega) (fun hz=>by omega)),k3.own g8 (fun hh=>hh.elim (fun hz=>by have:=(nY _ hz).1;omega) (fun hz=>by omega)),t8.ext k3 ⟨?_,?_,?_,?_⟩,aqW (by omega) k3.size,k4,fun i q hi hq=>?_,aB a2,k2.own g8 (fun hz=>by have:=(nY _ hz).1;omega)⟩
     ·exact fun hh=>hh.elim (fun hz=>by have:=(nY _ hz).1;omega) (fun hz=>by omega)
     ·exact fun hh=>hh.elim (fun hz=>by have:=(nY _ hz).1;omega) (fun hz=>by omega)
     ·exact fun hh=>hh.elim (fun hz=>by have:=(nY _ hz).1;omega) (fun hz=>by omega)
     ·exact fun hh=>hh.elim (fun hz=>by have:=(nY _ hz).1;omega) (fun hz=>by omega)
     ·unfold Dw at hq
      split at hq
      ·rcases eB with h| ⟨p,h,h1,_⟩
       ·rw[h]at hq;exact Ow _ Yl hq
       ·rw[h]at hq;injection hq with hq;omega
      ·exact acl i q hi hq
    obtain⟨ra,rc,rfl,hrc⟩:=cH gT
    refine zg.intro ?_ ?_
    ·refine v12 e2 e5 e6 e8 e9 GL GM Ak (ae Dx) aqd aqa pO ?_
     refine And.intro q8 ?_
     refine v8 e2 e5 e6 e8 e9 GL GM Ak ?_
     refine And.intro (by first|exact ql|exact q8) ?_
     refine v8 e2 e5 e6 e8 e9 GL GM Ak ?_
     refine Sl.append (gT.ext fl (fun _ _ h=>h)) (Sl.bU (size:=1) (n:=1) (xs:=[i64 ik]) rfl rfl).rd rfl (iL [(ik:Int)]) (by omega) ?_
     intro v' H9 bI s9 e9 eB
     obtain⟨k1,k2,k3,k4,k5,k6,k7,k8,k9,k10,Yk⟩:=fin v' H9 bI s9 e9 eB
     obtain⟨va,SI,rfl,_⟩:=cH s9
     refine And.intro k2 ?_
     refine v8 e2 e5 e6 e8 e9 GL GM Ak ?_
     refine⟨⟨by omega,by omega⟩,?_⟩
     refine v11 e2 e5 e6 e8 e9 GL GM Ak k1 aqd aqa ?_
     refine⟨by omega,?_⟩
     refine v8 e2 e5 e6 e8 e9 GL GM Ak ?_
     refine And.intro (by first|exact k3|exact k2) ?_
     refine v8 e2 e5 e6 e8 e9 GL GM Ak ?_
     rw[cG]at k7
     exact⟨k4,(by first|exact k5|exact Yk),k6,k7,⟨_,_,k8,JB Yi (by rw[aqS,hi];rfl) (nT he),JC lJ⟩,trivial,trivial,trivial,trivial,trivial,trivial⟩
    ·refine v8 e2 e5 e6 e8 e9 GL GM Ak ?_
     refine And.intro (by first|exact ql|exact q8) ?_
     refine v12 e2 e5 e6 e8 e9 GL GM Ak (ae Ov) aqd aqa pO ?_
     refine And.intro (by first|exact ql|exact q8) ?_
     refine v8 e2 e5 e6 e8 e9 GL GM Ak ?_
     refine Sl.append (gT.ext fl (fun _ _ h=>h)) (Sl.bU (size:=1) (n:=1) (xs:=[i64 ik]) rfl rfl).rd rfl (iL [(ik:Int)]) (by omega) ?_
     intro v' H9 bI s9 e9 eB
     obtain⟨k1,k2,k3,k4,k5,k6,k7,k8,k9,k10,Yk⟩:=fin v' H9 bI s9 e9 eB
     obtain⟨va,SI,rfl,_⟩:=cH s9
     refine And.intro k2 ?_
     refine v8 e2 e5 e6 e8 e9 GL GM Ak ?_
     refine⟨⟨by omega,by omega⟩,?_⟩
     refine v11 e2 e5 e6 e8 e9 GL GM Ak k1 aqd aqa ?_
     refine⟨by omega,?_⟩
     refine v8 e2 e5 e6 e8 e9 GL GM Ak ?_
     refine And.intro (by first|exact k3|exact k2) ?_
     refine v8 e2 e5 e6 e8 e9 GL GM Ak ?_
     rw[cG]at k7
     exact⟨k4,(by first|exact k5|exact Yk),k6,k7,⟨_,_,k8,JB Yi (by rw[aqS,hi];rfl) (nT he),JC lJ⟩,trivial,trivial,trivial,trivial,trivial,trivial⟩
  ·rintro e H7 ⟨f7,g7,t7,z7,⟨xs7,fp7,sl7,tr7,hx7⟩,e2,e5,e6,GL,GM,Ak⟩
   refine v6 e2 e5 e6 GL GM Ak ?_
   rw[wrap64 (n:=(j:Int)+1) (by omega) (by omega)]
   exact⟨ks.length - (j+1),by omega,f7,g7,t7,z7,j+1,xs7,fp7,rfl,by omega,sl7,tr7,hx7,rfl⟩
 ·have ie:j=ks.length:=by omega
  subst ie
  rw[aqM]at Yi
  have Ym:=sl6.lt
  have st6:St H H6 H4.size H6.size t bu bd bp H4.size n.toNat n (.slice a es.length c) xs fp (fun _=>0) (fun _=>0) (fun v=>if v<0 then -1 else 0):=⟨f6,g6,sl6,t6,⟨Vi.1,Vi.2.1,Vi.2.2.1,Vi.2.2.2⟩,⟨aqm _,by omega,fun i q hi hq=>sl6.acj hi hq⟩,aqm _,by omega⟩
  generalize H6.size=B1 at*
  have Nq:H4.size<B1:=Ym
  refine v1 (ae t6.box) ?_
  clear t6 g6 f6 sl6 h6 h6' z6
  refine aY.intro (fun m env H'=>∃k,m=n.toNat - k∧k≤n.toNat∧St H H' H4.size B1 t bu bd bp H4.size n.toNat n (.slice a es.length c) xs fp (fun _=>0) (fun _=>0) (fun v=>if v<k then -1 else 0)∧
   env=[(2,ptr H.size),(5,ptr t),(6,.slice (some ⟨H4.size,0,none⟩) n.toNat n.toNat),(72,i64 n.toNat),(73,i64 k)]) n.toNat ⟨0,by omega,by omega,st6,rfl⟩ ?_
  clear st6
  rintro m env H7 ⟨k,hmk,hk,st7,rfl⟩
  refine vs ?_
  refine ar.dec (fun aN=>?_) (fun aN=>?_)<;>refine v1 (ae st7.oH.box) ?_
  ·refine⟨⟨by omega,by omega⟩,?_⟩
   refine v4 st7.oH.parts Int.toNat_natCast aqd aqa ?_
   refine⟨by rw[aqr,mT];omega,?_⟩
   refine vs ?_
   rw[wrap64 (n:=(k:Int)+1) (by omega) (by omega)]
   refine⟨n.toNat - (k+1),by omega,k+1,rfl,by omega,?_,rfl⟩
   have Ox:=st7.BV (i:=k) (by omega) (-1)
   have e:lZ (fun v=>if v<k then(-1:Int)else 0) k (-1)=fun v=>if v<k+1 then -1 else 0:=by
    funext v
    show(if v=k then(-1:Int)else if v<k then -1 else 0)=if v<k+1 then -1 else 0
    by_cases h1:v=k
    ·rw[if_pos h1,if_pos (by omega)]
    ·rw[if_neg h1]
     by_cases h2:v<k
     ·rw[if_pos h2,if_pos (by omega)]
     ·rw[if_neg h2,if_neg (by omega)]
   rw[e]at Ox
   exact Ox
  have Oq:k=n.toNat:=by omega
  subst Oq
  have hT:∀v,v<n.toNat→∀i,i∈xs v↔i∈ks∧Touch (fE es i) v:=Yi
  have Vj:∀i∈ks,(fE es i).1<n.toNat∧(fE es i).2<n.toNat:=fun i hi=>by
   obtain⟨ik,e,rfl,he,PE⟩:=(bH i hi).get
   obtain⟨Yb,Yc,Yd,Ye⟩:=hr.ends e (aqg he)
   rw[nT he]
   exact⟨by show e.f.toNat<_;omega,by show e.t.toNat<_;omega⟩
  have Ox:St H H7 H4.size B1 t bu bd bp H4.size n.toNat n (.slice a es.length c) xs fp (fun _=>0) (fun v=>(((fun _=>0:Nat→Nat) v:Nat):Int)) (fun _=> -1):=by
   obtain⟨q1,q2,q3,q4,q5,q6,q7⟩:=st7
   refine⟨q1,q2,q3,⟨q4.box,q4.RD,q4.vC,?_,q4.low,q4.ap⟩,q5,q6,q7⟩
   rw[q4.parts]
   congr 2
   exact JA fun v hv=>if_pos hv
  have d8:=EI.begin n.toNat (fE es) ks (fun _=>0)
  have tF:free n.toNat (fun _=> -1)=n.toNat:=by
   have:∀m,free m (fun _=> -1)=m:=fun m=>by
    induction m with
    |zero=>rfl
    |succ m ih=>unfold free;rw[ih,if_pos rfl]
   exact this _
  clear st7 Yi
  refine aY.intro (fun m env H'=>∃ (k:Nat) (up:Nat→Int) (deep:Nat→Nat) (p:Nat→Int) (root:Int),m=n.toNat - k∧k≤n.toNat∧St H H' H4.size B1 t bu bd bp H4.size n.toNat n (.slice a es.length c) xs fp up (fun v=>((deep v:Nat):Int)) p∧
   EI n.toNat (fE es) ks p up deep root [] none∧(∀v,v<k→p v≠ -1)∧(∀v,v<n.toNat→deep v+free n.toNat p≤n.toNat)∧
   env=[(2,ptr H.size),(5,ptr t),(6,.slice (some ⟨H4.size,0,none⟩) n.toNat n.toNat),(87,i64 n.toNat),(88,i64 k)]) n.toNat ⟨0,_,_,_,_,by omega,by omega,Ox,d8,fun v hv=>absurd hv (by omega),fun v _=>by rw[tF];exact Nat.le_of_eq (aqa _),rfl⟩ ?_
  clear Ox d8 tF
  rintro m env H8 ⟨k,up,deep,p,root,hmk,hk,Ox,d8,RE,hdp,rfl⟩
  refine vs ?_
  refine ar.dec (fun aN=>?_) (fun aN=>?_)<;>refine vs ?_
  rotate_left
  ·have Oq:k=n.toNat:=by omega
   subst Oq
   refine⟨Ox.fr,t,bu,bd,bp,up,deep,fun v=>(p v).toNat,rfl,?_,d8.Xz Vj RE,fun v hv=>by have:=hdp v hv;omega⟩
   obtain⟨q1,q2,q3,q4,q5,q6,q7⟩:=Ox
   refine⟨q4.box,q4.RD,q4.vC,?_,q4.low,q4.ap⟩
   rw[q4.parts]
   congr 2
   exact JA fun v hv=>by
    have:=(d8.low v hv (RE v hv)).1
    show p v=(((p v).toNat:Nat):Int)
    omega
  have Oq:k<n.toNat:=by omega
  refine uU (fun e H'=>(∃ (up:Nat→Int) (deep:Nat→Nat) (p:Nat→Int) (root:Int),St H H' H4.size B1 t bu bd bp H4.size n.toNat n (.slice a es.length c) xs fp up (fun v=>((deep v:Nat):Int)) p∧
   EI n.toNat (fE es) ks p up deep root [] none∧(∀v,v<k+1→p v≠ -1)∧(∀v,v<n.toNat→deep v+free n.toNat p≤n.toNat))∧
   e.find 2=some (ptr H.size)∧e.find 5=some (ptr t)∧e.find 6=some (.slice (some ⟨H4.size,0,none⟩) n.toNat n.toNat)∧e.find 87=some (i64 n.toNat)∧e.find 88=some (i64 k)) ?_ ?_
  rotate_left
  ·rintro e H9 ⟨⟨up',aco,p',acp,st9,d9,agV,agW⟩,e2,e5,e6,e87,e88⟩
   refine v5 e2 e5 e6 e87 e88 ?_
   rw[wrap64 (n:=(k:Int)+1) (by omega) (by omega)]
   exact⟨n.toNat - (k+1),by omega,k+1,up',aco,p',acp,rfl,by omega,st9,d9,agV,agW,rfl⟩
  refine v1 (ae Ox.oH.box) ?_
  refine⟨⟨by omega,by omega⟩,?_⟩
  refine v5 (ae Ox.oH.parts) Int.toNat_natCast aqd aqa (ln p Oq) ?_
  refine ar.dec (fun hp=>?_) (fun hp=>?_)<;>refine v1 (ae Ox.oH.box) ?_
  rotate_left
  ·refine⟨⟨up,deep,p,root,Ox,d8,fun v hv=>?_,hdp⟩,trivial,trivial,trivial,trivial,trivial⟩
   by_cases h1:v<k
   ·exact RE v h1
   ·rw[show v=k by omega];exact hp
  refine⟨⟨by omega,by omega⟩,?_⟩
  refine v4 Ox.oH.RD Int.toNat_natCast aqd aqa ?_
  refine⟨by rw[aqr,mT];omega,?_⟩
  have st9:=Ox.PG Oq (-1)
  refine vs ?_
  generalize H8.wr bu (((uG n.toNat up).map i64).set k (i64 (-1)))=H9 at*
  refine⟨⟨by omega,by omega⟩,?_⟩
  refine v4 st9.oH.parts Int.toNat_natCast aqd aqa ?_
  refine⟨by rw[aqr,mT];omega,?_⟩
  have acq:=st9.BV Oq k
  refine vs ?_
  have acr:(H9.wr bp (((uG n.toNat p).map i64).set k (i64 k))).size=H9.size:=cG ..
  generalize H9.wr bp (((uG n.toNat p).map i64).set k (i64 k))=RF at*
  have acs:=acq.ext (((ag.refl _ _).new _ _:ah RF (RF.new 3 [i64 k])).mono fun _ _ h=>h.elim)
  have acu:Sl (RF.new 3 [i64 k]) 1 (.slice (some ⟨H9.size,0,none⟩) [k].length 1) (tI [k]).length ((tI [k]).map i64) (some H9.size):=Sl.bU (size:=1) (n:=1) (xs:=[i64 k]) rfl acr.symm
  have acv:=st9.sz.1
  have d11:=d8.Nk Oq hp
  have Yn:=GK n.toNat p k k Oq hp (by omega)
  have acw:∀v,v<k+1→lZ p k (k:Int) v≠ -1:=fun v hv=>by
   unfold lZ
   by_cases h1:v=k
   ·rw[if_pos h1];omega
   ·rw[if_neg h1];exact RE v (by omega)
  have WD:∀v,v<n.toNat→deep v+free n.toNat (lZ p k (k:Int))≤n.toNat:=fun v hv=>by have:=hdp v hv;omega
  have Wx:=PH n.toNat p
  clear Ox st9 acq RE hdp d8
  generalize RF.new 3 [i64 k]=H11 at*
  generalize H9.size=Vk at*
  refine aY.intro (fun m env H'=>∃ (up:Nat→Int) (deep:Nat→Nat) (p:Nat→Int) (todo:List Nat) (ta:Option Addr) (tc bt:Nat),m=2*free n.toNat p+todo.length∧St H H' H4.size B1 t bu bd bp H4.size n.toNat n (.slice a es.length c) xs fp up (fun v=>((deep v:Nat):Int)) p∧
   EI n.toNat (fE es) ks p up deep k todo none∧(∀v,v<k+1→p v≠ -1)∧(∀v,v<n.toNat→deep v+free n.toNat p≤n.toNat)∧
   Sl H' 1 (.slice ta todo.length tc) (tI todo).length ((tI todo).map i64) (some bt)∧B1≤bt∧todo.length+free n.toNat p≤n.toNat∧
   env=[(2,ptr H.size),(5,ptr t),(6,.slice (some ⟨H4.size,0,none⟩) n.toNat n.toNat),(11,i64 k),(12,.slice ta todo.length tc),(87,i64 n.toNat),(88,i64 k)]) _ ⟨_,deep,_,[k],_,_,_,rfl,acs,d11,acw,WD,acu,acv,by simp only[aqn];omega,rfl⟩ ?_
  clear acs d11 acw WD acu acv Yn hp aN hmk Wx acr
  clear up deep p root Vk H8 H9 RF H11 m
  rintro m env PI ⟨up,deep,p,todo,ta,tc,bt,hm,oI,d12,KI,yM,Dy,Qc,Yo,rfl⟩
  refine vs ?_
  refine ar.dec (fun aN=>?_) (fun aN=>?_)<;>refine vs ?_
  rotate_left
  ·have:todo=[]:=aqN.1 (by omega)
   subst this
   exact⟨⟨up,deep,p,k,oI,d12,KI,yM⟩,trivial,trivial,trivial,trivial,trivial⟩
  obtain⟨todo,u,rfl⟩:∃l x,todo=l++[x]:=by
   rcases List.eq_nil_or_concat todo with h| ⟨l,x,h⟩
   ·subst h;exact absurd aN (by simp)
   ·exact⟨l,x,by rw[h,List.concat_eq_append]⟩
  have bf:(todo++[u]).length=todo.length+1:=by simp
  rw[bf]at Dy Yo hm
  rw[bf]
  obtain⟨hu,hpu⟩:=d12.wait u (by simp)
  have htn:todo.length≤4096:=by omega
  rw[wrap64 (n:=((todo.length+1:Nat):Int) - 1) (by omega) (by omega),show((todo.length+1:Nat):Int) - 1=(todo.length:Int) by omega]
  rw[vD,bf]at Dy
  obtain⟨IK,rfl,lt,acx,acy⟩:=Sl.num Dy (i:=todo.length) (x:=(u:Int)) (by rw[KG,aqD (by rw[vD];omega),vD];simp)
  refine⟨⟨by omega,by omega⟩,?_⟩
  refine v5 (ae acx) Int.toNat_natCast aqd aqa acy ?_
  rw[wrap64 (n:=((todo.length+1:Nat):Int) - 1) (by omega) (by omega),show((todo.length+1:Nat):Int) - 1=(todo.length:Int) by omega]
  have SJ:Sl PI 1 (.slice (some ⟨bt,0,none⟩) todo.length tc) todo.length ((tI todo).map i64) (some bt):=Sl.less (x:=i64 u) (by rw[KG,aqy]at Dy;exact Dy)
  have AI:todo.length+1≤tc:=by
   obtain⟨_,lx,tc',hsx,_,AI,_,_⟩:=Dy
   injection hsx with _ _ al6
   omega
  refine⟨⟨by omega,by omega,by omega,by omega⟩,?_⟩
  refine vs ?_
  simp only[Option.map_some,ite_self,Int.toNat_natCast,Nat.sub_zero]
  obtain⟨bX,sv,Dx,AL,pO,gT⟩:=oI.rows.get hu
  obtain⟨ra,rc,rfl,hrc⟩:=cH gT
  refine⟨⟨by omega,by omega⟩,?_⟩
  refine v5 (ae Dx) Int.toNat_natCast aqd aqa pO ?_
  have d13:=d12.pop (r:=xs u) fun i hi ht=>(hT u hu i).2 ⟨hi,ht⟩
  have hM:m=2*free n.toNat p+todo.length+1:=by omega
  rw[←vD todo]at SJ
  refine aY.intro (fun m' env H'=>∃ (j:Nat) (up:Nat→Int) (deep:Nat→Nat) (p:Nat→Int) (todo:List Nat) (ta:Option Addr) (tc bt:Nat),m'=(xs u).length - j∧j≤(xs u).length∧St H H' H4.size B1 t bu bd bp H4.size n.toNat n (.slice a es.length c) xs fp up (fun v=>((deep v:Nat):Int)) p∧
   EI n.toNat (fE es) ks p up deep k todo (some (u,(xs u).drop j))∧(∀v,v<k+1→p v≠ -1)∧(∀v,v<n.toNat→deep v+free n.toNat p≤n.toNat)∧
   Sl H' 1 (.slice ta (tI todo).length tc) (tI todo).length ((tI todo).map i64) (some bt)∧B1≤bt∧todo.length+free n.toNat p≤n.toNat∧2*free n.toNat p+todo.length+1≤m∧Sl H' 1 (.slice ra (xs u).length rc) (xs u).length ((xs u).map i64) (fp u)∧
   env=[(2,ptr H.size),(5,ptr t),(6,.slice (some ⟨H4.size,0,none⟩) n.toNat n.toNat),(11,i64 k),(12,.slice ta todo.length tc),(13,i64 u),(87,i64 n.toNat),(88,i64 k),(131,.slice ra (xs u).length rc),(132,i64 (xs u).length),(133,i64 j)]) _ ⟨0,up,deep,p,todo,_,_,_,rfl,by omega,oI,d13,KI,yM,SJ,Qc,by omega,by omega,gT,by split<;>rfl⟩ ?_
  clear oI d13 KI yM Dy SJ Qc Yo aN hpu d12 hM bf acx acy Dx AL pO AI gT htn hm IK
  clear up deep p todo tc bt lt bX PI
  rintro m' env PI ⟨j,up,deep,p,todo,ta,tc,bt,hm',hj,oI,d12,KI,yM,Dy,Qc,Yo,hfm,gT,rfl⟩
  refine vs ?_
  refine ar.dec (fun aN=>?_) (fun aN=>?_)<;>refine vs ?_
  rotate_left
  ·have ie:j=(xs u).length:=by omega
   subst ie
   rw[asc]at d12
   refine⟨2*free n.toNat p+todo.length,by omega,up,deep,p,todo,ta,tc,bt,rfl,oI,d12.over,KI,yM,?_,Qc,Yo,rfl⟩
   rw[←vD todo]
   exact Dy
  obtain⟨i,hi⟩:∃x,(xs u)[j]? =some x:=⟨_,aqb (by omega)⟩
  obtain⟨PE,RG⟩:=(hT u hu i).1 (aqg hi)
  have nZ:(xs u).drop j=i::(xs u).drop (j+1):=by
   obtain⟨h1,h2⟩:=aqc.1 hi
   rw[aq7 h1,h2]
  rw[nZ]at d12
  obtain⟨ik,e,rfl,he,al7⟩:=(bH i PE).get
  obtain⟨Yb,Yc,Yd,Ye⟩:=hr.ends e (aqg he)
  have h12:=h.fresh oI.fr
  obtain⟨_,bx,o,lb,rfl,fU,cj⟩:=db.num gT.rd hi
  obtain⟨_,be,oe,le,rfl,KA,oP,dA,jW,sI,ww⟩:=db.sK h12 he
  have Yf:=nT he
  have hw:=FW Vj PE RG
  have hwv:e.f+e.t - (u:Int)=((other (fE es (ik:Int)) u:Nat):Int):=by
   rw[Yf]at RG ⊢
   unfold other
   rcases RG with h1|h1
   ·have h1:e.f.toNat=u:=h1
    show e.f+e.t - (u:Int)=((e.f.toNat+e.t.toNat - u:Nat):Int)
    omega
   ·have h1:e.t.toNat=u:=h1
    show e.f+e.t - (u:Int)=((e.f.toNat+e.t.toNat - u:Nat):Int)
    omega
  refine uU (fun e H'=>(∃ (up:Nat→Int) (deep:Nat→Nat) (p:Nat→Int) (todo:List Nat) (ta:Option Addr) (tc bt:Nat),St H H' H4.size B1 t bu bd bp H4.size n.toNat n (.slice (some ⟨be,oe,none⟩) es.length c) xs fp up (fun v=>((deep v:Nat):Int)) p∧
   EI n.toNat (fE es) ks p up deep k todo (some (u,(xs u).drop (j+1)))∧(∀v,v<k+1→p v≠ -1)∧(∀v,v<n.toNat→deep v+free n.toNat p≤n.toNat)∧
   Sl H' 1 (.slice ta (tI todo).length tc) (tI todo).length ((tI todo).map i64) (some bt)∧B1≤bt∧todo.length+free n.toNat p≤n.toNat∧2*free n.toNat p+todo.length+1≤m∧Sl H' 1 (.slice (some ⟨bx,o,none⟩) (xs u).length rc) (xs u).length ((xs u).map i64) (fp u)∧
   e.find 12=some (.slice ta todo.length tc))∧
   e.find 2=some (ptr H.size)∧e.find 5=some (ptr t)∧e.find 6=some (.slice (some ⟨H4.size,0,none⟩) n.toNat n.toNat)∧e.find 11=some (i64 k)∧e.find 13=some (i64 u)∧e.find 87=some (i64 n.toNat)∧e.find 88=some (i64 k)∧
   e.find 131=some (.slice (some ⟨bx,o,none⟩) (xs u).length rc)∧e.find 132=some (i64 (xs u).length)∧e.find 133=some (i64 j)) ?_ ?_
  rotate_left
  ·rintro e H9 ⟨⟨up,deep,p,todo,ta,tc,bt,oI,d12,KI,yM,Dy,Qc,Yo,hfm,gT,pg⟩,e2,e5,e6,Yp,Dz,e87,e88,ag1,ag2,ag3⟩
   refine v11 e2 e5 e6 Yp pg Dz e87 e88 ag1 ag2 ag3 ?_
   have lJ:=lJ u hu
   rw[wrap64 (n:=(j:Int)+1) (by omega) (by omega)]
   exact⟨(xs u).length - (j+1),by omega,j+1,up,deep,p,todo,ta,tc,bt,rfl,by omega,oI,d12,KI,yM,Dy,Qc,Yo,hfm,gT,rfl⟩
  refine vs ?_
  refine⟨⟨by omega,by omega⟩,?_⟩
  refine v5 fU Int.toNat_natCast aqd cj (ae oI.g) ?_
  refine⟨⟨by omega,by omega⟩,?_⟩
  refine v6 KA Int.toNat_natCast Nat.add_zero jW sI (ae oI.g) ?_
  refine⟨⟨by omega,by omega⟩,?_⟩
  refine v6 KA Int.toNat_natCast Nat.add_zero jW sI (ae oI.oH.box) ?_
  rw[wrap64 (n:=e.f+e.t) (by omega) (by omega),wrap64 (n:=e.f+e.t - u) (by omega) (by omega),hwv]
  refine⟨⟨by omega,by omega⟩,?_⟩
  refine v5 (ae oI.oH.parts) Int.toNat_natCast aqd aqa (ln p hw) ?_
  refine ar.dec (fun hp=>?_) (fun hp=>?_)<;>refine v1 (ae oI.oH.box) ?_
  rotate_left
  ·exact⟨⟨up,deep,p,todo,ta,tc,bt,oI,d12.skip Vj PE RG hp,KI,yM,Dy,Qc,Yo,hfm,gT,rfl⟩,trivial,trivial,trivial,trivial,trivial,trivial,trivial,trivial,trivial,trivial⟩
  have dE:=d12.wN Vj PE RG hp
  have hf:=GK n.toNat p _ k hw hp (by omega)
  have hdu:=yM u hu
  have eB:∀z,fp u=some z→H4.size≤z∧z<B1:=fun z hz=>⟨(oI.rows.low u hu z hz).1,oI.hi.2.2 u z hu hz⟩
  have QR:=oI.lo
  have hbb:=oI.sz.2
  generalize other (fE es (ik:Int)) u=w at*
  refine⟨⟨by omega,by omega⟩,?_⟩
  refine v5 (ae oI.oH.vC) Int.toNat_natCast aqd aqa (ln (fun v=>((deep v:Nat):Int)) hu) ?_
  rw[wrap64 (n:=((deep u:Nat):Int)+1) (by omega) (by omega)]
  refine⟨⟨by omega,by omega⟩,?_⟩
  refine v4 oI.oH.parts Int.toNat_natCast aqd aqa ?_
  refine⟨by rw[aqr,mT];omega,?_⟩
  have acz:=oI.BV hw k
  have w13:∀z,(z=bu∨z=bd∨z=bp)→∀ (A:Hp) (l:List Value),Sl A 1 (.slice ta (tI todo).length tc) (tI todo).length ((tI todo).map i64) (some bt)→Sl A 1 (.slice (some ⟨bx,o,none⟩) (xs u).length rc) (xs u).length ((xs u).map i64) (fp u)→
    Sl (A.wr z l) 1 (.slice ta (tI todo).length tc) (tI todo).length ((tI todo).map i64) (some bt)∧Sl (A.wr z l) 1 (.slice (some ⟨bx,o,none⟩) (xs u).length rc) (xs u).length ((xs u).map i64) (fp u):=by
   intro z hz A l s1 s2
   have e:ag (fun y=>y=z) A (A.wr z l):=(ag.refl (fun y=>y=z) _).wr (fun _=>rfl) _
   exact⟨s1.ext e (fun b hb h=>by injection hb with hb;omega),s2.ext e (fun b hb h=>by have:=eB b hb;omega)⟩
  obtain⟨SJ,ag5⟩:=w13 bp (.inr (.inr rfl)) PI (((uG n.toNat p).map i64).set w (i64 k)) Dy gT
  refine vs ?_
  generalize PI.wr bp (((uG n.toNat p).map i64).set w (i64 k))=H13 at*
  refine⟨⟨by omega,by omega⟩,?_⟩
  refine v4 acz.oH.RD Int.toNat_natCast aqd aqa ?_
  refine⟨by rw[aqr,mT];omega,?_⟩
  have acA:=acz.PG hw ik
  obtain⟨ag6,ag7⟩:=w13 bu (.inl rfl) H13 (((uG n.toNat up).map i64).set w (i64 ik)) SJ ag5
  refine vs ?_
  generalize H13.wr bu (((uG n.toNat up).map i64).set w (i64 ik))=Uh at*
  refine⟨⟨by omega,by omega⟩,?_⟩
  refine v4 acA.oH.vC Int.toNat_natCast aqd aqa ?_
  refine⟨by rw[aqr,mT];omega,?_⟩
  have Yq:=acA.KF hw (((deep u:Nat):Int)+1)
  obtain⟨acB,acC⟩:=w13 bd (.inr (.inl rfl)) Uh (((uG n.toNat (fun v=>((deep v:Nat):Int))).map i64).set w (i64 (((deep u:Nat):Int)+1))) ag6 ag7
  have Yr:(Uh.wr bd (((uG n.toNat (fun v=>((deep v:Nat):Int))).map i64).set w (i64 (((deep u:Nat):Int)+1)))).size=Uh.size:=cG ..
  rw[show((deep u:Nat):Int)+1=((deep u+1:Nat):Int) by omega,Vh]at Yq
  refine vs ?_
  rw[show((deep u:Nat):Int)+1=((deep u+1:Nat):Int) by omega]at acB acC Yr ⊢
  generalize Uh.wr bd (((uG n.toNat (fun v=>((deep v:Nat):Int))).map i64).set w (i64 ((deep u+1:Nat):Int)))=H15 at*
  rw[←Yr,←vD todo]
  refine WA (B:=B1) Qc Yq.sz.1 acB w (by rw[vD];omega) fun w' H16 b' lI s16 JD=>?_
  rw[←KG]at s16
  obtain⟨wa,wc,rfl,_⟩:=cH s16
  have aha:=acC.ext JD (fun z hz h=>by have:=eB z hz;omega)
  have ahb:=Yq.ext JD
  refine vs ?_
  refine⟨⟨_,_,_,todo++[w],wa,wc,b',ahb,dE,fun v hv=>?_,fun v hv=>?_,s16,lI,by simp only[aqj,aqn];omega,by simp only[aqj,aqn];omega,aha,by rw[vD]⟩,trivial,trivial,trivial,trivial,trivial,trivial,trivial,trivial,trivial,trivial⟩
  ·unfold lZ
   split
   ·omega
   ·exact KI v hv
  ·have:=yM v hv
   rw[show lZ deep w (deep u+1) v=if v=w then deep u+1 else deep v from rfl]
   split<;>omega
structure Vl(es:List Ed)(ks:List Int)(u v:Nat)(l:List Int):Prop where
 ec:Way (fE es) u v l
 sub:∀i∈l,i∈ks
 nd:l.Nodup
theorem Vl.cons{es:List Ed}{ks:List Int}{u v:Nat}{i:Int}{l:List Int}(h:Vl es ks u v (i::l)):Touch (fE es i) u∧Vl es ks (other (fE es i) u) v l:=by
 obtain⟨h1,h2,h3⟩:=h
 cases h1 with
 |cons _ _ _ _ t h=>exact⟨t,h,fun j hj=>h2 j (aq1 _ hj),(aqu.1 h3).2⟩
end Go.Proofs.YthpjfeolagohkaaGreat
