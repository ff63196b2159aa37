/- Texts put behind each other. -/
import Derived.Test.YthpjfeolagohkaaGreatK98
import Derived.Test.YthpjfeolagohkaaGreatK12
import Derived.Test.YthpjfeolagohkaaGreatK21
import Derived.Test.YthpjfeolagohkaaGreatK38
import Derived.Test.YthpjfeolagohkaaGreatK39
set_option maxRecDepth 100000
set_option maxHeartbeats 8000000
set_option linter.unusedVariables false
set_option linter.unusedSimpArgs false
namespace Go.Proofs.YthpjfeolagohkaaGreat
open Go Go.Vc
def qM(v:Nat)(e:Ed):Bool:=decide (e.f≠e.t) && decide (e.t=(v:Int))
theorem Rp{es:List Ed}{j k:Nat}{e:Ed}(X:Nat→List Int)(he:es[j]? =some e)(hq:∀v,qM v e=decide (v=k)):
  jE (fun v=>X v++bc (qM v) 0 (es.take j)) k (X k++bc (qM k) 0 (es.take j)++[(j:Int)])=fun v=>X v++bc (qM v) 0 (es.take (j+1)):=by
 funext v
 unfold jE
 rw[CM _ he,hq]
 by_cases h:v=k
 ·subst h;simp
 ·simp[h]
theorem Rq{es:List Ed}{j:Nat}{e:Ed}(X:Nat→List Int)(he:es[j]? =some e)(hq:e.f=e.t):
  (fun v=>X v++bc (qM v) 0 (es.take j))=fun v=>X v++bc (qM v) 0 (es.take (j+1)):=by
 funext v
 rw[CM _ he]
 simp[qM,hq]
theorem P0(es:List Ed)(v:Nat):jm (bc (qL v) 0 es++bc (qM v) 0 es)=bc (qT v) 0 es:=by
 have h:=UI (qL v) (qM v) es 0 (fun e _ h=>by
  simp only[qL,qM,aqI,aq0]at h
  omega)
 have hq:(fun e=>qL v e || qM v e)=qT v:=by
  funext e
  unfold qL qM qT
  by_cases h1:e.f=v<;>by_cases h2:e.t=v<;>by_cases h3:e.f=e.t<;>simp[h1,h2,h3]<;>omega
 rw[hq]at h
 exact h
theorem yk{H:Hp}{n:Int}{a:Option Addr}{c:Nat}{es:List Ed}(h:db H 3 (.slice a es.length c) es.length (dk es))(hm:es.length≤1000000000):
  af Tryz.prog CZ [Dt n (.slice a es.length c)] H fun v H'=>ax (ah H H'∧((dG n es=false∧v= .slice none 0 0)∨
   (dG n es=true∧∃b fp,v= .slice (some ⟨b,0,none⟩) n.toNat n.toNat∧qV H' H.size b n.toNat (fun v=>bc (qT v) 0 es) fp))):=by
 refine EL Dc ⟨rfl,?_⟩
 have f0:ah H (H.new 26 [i64 n,.slice a es.length c]):=(ag.refl _ _).new _ _
 have b0:=az H 26 [i64 n,.slice a es.length c]
 simp(disch:=(first|omega| (simp only[Zs]<;>omega)|fail)) only[go_sem, ↓reduceIte,Zv,qC,Dt]
 generalize H.new 26 [i64 n,.slice a es.length c]=H0 at*
 have h0:=h.fresh f0
 refine(Ay (n:=n) h0 hm).mono ?_
 rintro _ H1 ⟨f1,⟨hR,rfl⟩| ⟨hR,RP,fp0,rfl,sl1⟩⟩
 ·refine vs ?_
  exact⟨f0.trans f1,.inl ⟨hR,rfl⟩⟩
 have b1:=f1.own b0 (fun h=>h)
 have SG:=f0.trans f1
 have hzz:=aB b0
 have hbb:=sl1.base
 obtain⟨LH,yL,hel,TA⟩:=(eQ n es).1 hR
 simp(disch:=(first|omega| (simp only[Zs]<;>omega)|fail)) only[go_sem, ↓reduceIte,Zv,ae b1,Option.isNone_some]
 have LC:(fun v=>bc (qL v) 0 es)=fun v=>bc (qL v) 0 es++bc (qM v) 0 (es.take 0):=by funext v;simp[bc]
 rw[LC]at sl1
 refine aY.intro (fun m env H'=>ah H H'∧∃ (j:Nat) (fp:Nat→Option Nat),m=es.length - j∧j≤es.length∧qV H' H0.size RP n.toNat (fun v=>bc (qL v) 0 es++bc (qM v) 0 (es.take j)) fp∧
  env=[(3,.slice (some ⟨RP,0,none⟩) n.toNat n.toNat),(13,.slice a es.length c),(14,i64 es.length),(15,i64 j)]) es.length ⟨SG,0,_,by omega,by omega,sl1,rfl⟩ ?_
 rintro m env H2 ⟨f2,j,fp,Vd,hj,JK,rfl⟩
 have h2:=h.fresh f2
 refine vs ?_
 refine ar.dec (fun aN=>?_) (fun aN=>?_)<;>refine vs ?_
 ·have ie:j<es.length:=by omega
  obtain⟨e,he⟩:∃e,es[j]? =some e:=⟨_,aqb ie⟩
  obtain⟨_,b,o,lb,rfl,fU,oP,dA⟩:=db.wN h2 he
  refine⟨⟨by omega,by omega⟩,?_⟩
  have bq:=aqg he
  obtain⟨Yb,Yc,Yd,Ye⟩:=TA e bq
  simp(disch:=(first|omega| (simp only[Zs]<;>omega)|fail)) only[go_sem, ↓reduceIte,Zv,fU,Int.toNat_natCast,dA,cV]
  refine⟨by omega,?_⟩
  have q2:=az H2 53 [i64 0,i64 0,i64 0]
  simp(disch:=(first|omega| (simp only[Zs]<;>omega)|fail)) only[go_sem, ↓reduceIte,Zv,dA,cV,q2]
  have q3:=ai (l:=[i64 e.f,i64 e.t,i64 e.w]) q2
  have f3:ah H2 ((H2.new 53 [i64 0,i64 0,i64 0]).wr H2.size [i64 e.f,i64 e.t,i64 e.w]):=((ag.refl _ _).new _ _:ah H2 _).then ((ag.refl (fun z=>z=H2.size) _).wr (fun _=>rfl) _) (fun z hz=>by omega)
  have SC:((H2.new 53 [i64 0,i64 0,i64 0]).wr H2.size [i64 e.f,i64 e.t,i64 e.w]).size=H2.size+1:=by rw[cG,am]
  have hol:=JK.lt
  generalize (H2.new 53 [i64 0,i64 0,i64 0]).wr H2.size [i64 e.f,i64 e.t,i64 e.w]=H3 at*
  have M9:=JK.fresh f3
  have VN:e.t.toNat<n.toNat:=by omega
  obtain⟨bX,sv,Dx,AL,pO,gT⟩:=M9.get VN
  have aiJ:=qi (qL e.t.toNat) es 0
  have adU:=qi (qM e.t.toNat) (es.take j) 0
  have WC:(bc (qL e.t.toNat) 0 es++bc (qM e.t.toNat) 0 (es.take j)).length≤2*es.length:=by rw[aqj];rw[aqO]at adU;omega
  have f13:ah H H3:=f2.trans f3
  refine v1 (ae q3) ?_
  refine ar.dec (fun ZF=>?_) (fun ZF=>?_)<;>refine vs ?_
  ·rw[wrap64 (n:=(j:Int)+1) (by omega) (by omega)]
   rw[Rq _ he ZF]at M9
   exact⟨es.length - (j+1),by omega,f13,j+1,fp,rfl,by omega,M9,rfl⟩
  have hq:∀v,qM v e=decide (v=e.t.toNat):=fun v=>by unfold qM;rw[aqp ZF,arx,decide_eq_decide];omega
  have fin:∀ (H4:Hp) (v':Value) (H5:Hp) (bI:Option Nat),ah H3 H4→Sl H5 1 v' (((bc (qL e.t.toNat) 0 es++bc (qM e.t.toNat) 0 (es.take j))).length+1) (((bc (qL e.t.toNat) 0 es++bc (qM e.t.toNat) 0 (es.take j))).map i64++[i64 j]) bI→ag (fun z=>fp e.t.toNat=some z) H4 H5→
    (bI=fp e.t.toNat∨∃p,bI=some p∧H4.size≤p∧p<H5.size)→
    H5.own RP=some bX∧H5.own H2.size=some [i64 e.f,i64 e.t,i64 e.w]∧(H5.wr RP (bX.set e.t.toNat v')).own H2.size=some [i64 e.f,i64 e.t,i64 e.w]∧ah H (H5.wr RP (bX.set e.t.toNat v'))∧
    qV (H5.wr RP (bX.set e.t.toNat v')) H0.size RP n.toNat (fun v=>bc (qL v) 0 es++bc (qM v) 0 (es.take (j+1))) (Dw fp e.t.toNat bI):=by
   intro H4 v' H5 bI f4 s5 e5 ix
   have WR:=M9.fresh f4
   have nY:=M9.low e.t.toNat VN
   have Zb:∀z,fp e.t.toNat=some z→z<H2.size:=fun z hz=>by
    obtain⟨_,_,_,_,_,s0⟩:=JK.get VN
    rw[hz]at s0
    exact Sl.lt s0
   have Yh:=f4.own Dx (fun h=>h)
   have q4:=f4.own q3 (fun h=>h)
   have q5:H5.own H2.size=some [i64 e.f,i64 e.t,i64 e.w]:=e5.own q4 (fun hh=>by have:=Zb _ hh;omega)
   obtain⟨k1,k2⟩:=WR.put VN (l:=(bc (qL e.t.toNat) 0 es++bc (qM e.t.toNat) 0 (es.take j))++[(j:Int)]) e5 (by rw[aqj,aqy];exact s5) ix Yh
   rw[Rp _ he hq]at k2
   refine⟨k1,q5,by rw[c7 (by omega)];exact q5,?_,k2⟩
   exact((f13.trans f4).then e5 (fun z hz=>by have:=(nY z hz).1;omega)).then ((ag.refl (fun z=>z=RP) _).wr (fun _=>rfl) _) (fun z hz=>by omega)
  refine gP.intro (fun H'=>H'.own H2.size=some [i64 e.f,i64 e.t,i64 e.w]) q3 ?_
  refine vs ?_
  refine dP.intro (i64 e.t) (fun H' hI=>by refine v1 (ae hI) ?_;exact⟨trivial,trivial⟩) ?_
  refine vs ?_
  refine dP.intro (i64 e.t) (fun H' hI=>by refine v1 (ae hI) ?_;exact⟨trivial,trivial⟩) ?_
  refine vs ?_
  refine⟨⟨by omega,by omega⟩,?_⟩
  refine vs ?_
  have fl:ah H3 (H3.new 3 [i64 j]):=(ag.refl _ _).new _ _
  have ql:=fl.own q3 (fun h=>h)
  have Ov:=fl.own Dx (fun h=>h)
  obtain⟨ra,rc,rfl,hrc⟩:=cH gT
  refine zg.intro ?_ ?_
  ·refine v4 (ae Dx) aqd aqa pO ?_
   refine And.intro q3 ?_
   refine vs ?_
   refine And.intro (by first|exact ql|exact q3) ?_
   refine vs ?_
   refine Sl.append (gT.ext fl (fun _ _ h=>h)) (Sl.bU (size:=1) (n:=1) (xs:=[i64 j]) rfl rfl).rd rfl (iL [(j:Int)]) (by omega) ?_
   intro v' H5 bI s5 e5 eB
   obtain⟨k1,k2,k3,k4,k5⟩:=fin _ v' H5 bI fl s5 e5 eB
   obtain⟨va,SI,rfl,_⟩:=cH s5
   refine And.intro k2 ?_
   refine vs ?_
   refine⟨⟨by omega,by omega⟩,?_⟩
   refine v3 k1 aqd aqa ?_
   refine⟨by omega,?_⟩
   refine vs ?_
   refine And.intro (by first|exact k3|exact k2) ?_
   refine vs ?_
   rw[wrap64 (n:=(j:Int)+1) (by omega) (by omega)]
   exact⟨es.length - (j+1),by omega,k4,j+1,_,rfl,by omega,k5,rfl⟩
  ·refine vs ?_
   refine And.intro (by first|exact ql|exact q3) ?_
   refine v4 (ae Ov) aqd aqa pO ?_
   refine And.intro (by first|exact ql|exact q3) ?_
   refine vs ?_
   refine Sl.append (gT.ext fl (fun _ _ h=>h)) (Sl.bU (size:=1) (n:=1) (xs:=[i64 j]) rfl rfl).rd rfl (iL [(j:Int)]) (by omega) ?_
   intro v' H5 bI s5 e5 eB
   obtain⟨k1,k2,k3,k4,k5⟩:=fin _ v' H5 bI fl s5 e5 eB
   obtain⟨va,SI,rfl,_⟩:=cH s5
   refine And.intro k2 ?_
   refine vs ?_
   refine⟨⟨by omega,by omega⟩,?_⟩
   refine v3 k1 aqd aqa ?_
   refine⟨by omega,?_⟩
   refine vs ?_
   refine And.intro (by first|exact k3|exact k2) ?_
   refine vs ?_
   rw[wrap64 (n:=(j:Int)+1) (by omega) (by omega)]
   exact⟨es.length - (j+1),by omega,k4,j+1,_,rfl,by omega,k5,rfl⟩
 ·have ie:j=es.length:=by omega
  subst ie
  rw[aqM]at JK
  clear sl1 h2
  have Np:(fun v=>bc (qL v) 0 es++bc (qM v) 0 es)=fun v=>if v<0 then bc (qT v) 0 es else bc (qL v) 0 es++bc (qM v) 0 es:=by funext v;simp
  rw[Np]at JK
  refine aY.intro (fun m env H'=>ah H H'∧∃ (k:Nat) (fp:Nat→Option Nat),m=n.toNat - k∧k≤n.toNat∧qV H' H0.size RP n.toNat (fun v=>if v<k then bc (qT v) 0 es else bc (qL v) 0 es++bc (qM v) 0 es) fp∧
   env=[(3,.slice (some ⟨RP,0,none⟩) n.toNat n.toNat),(38,.slice (some ⟨RP,0,none⟩) n.toNat n.toNat),(39,i64 n.toNat),(40,i64 k)]) n.toNat ⟨f2,0,_,by omega,by omega,JK,rfl⟩ ?_
  clear JK Np
  rintro m env H3 ⟨f3,k,fp3,hmk,hk,M9,rfl⟩
  refine vs ?_
  refine ar.dec (fun aN=>?_) (fun aN=>?_)<;>refine vs ?_
  ·have J0:k<n.toNat:=by omega
   obtain⟨bX,sv,Dx,AL,pO,gT⟩:=M9.get J0
   simp only[Nat.lt_irrefl,if_false]at gT
   have aiJ:=qi (qL k) es 0
   have adU:=qi (qM k) es 0
   refine⟨⟨by omega,by omega⟩,?_⟩
   refine v5 (ae Dx) Int.toNat_natCast aqd aqa pO ?_
   refine(qU gT (by rw[aqj];omega)).mono ?_
   rintro _ H4 ⟨rfl,s4,e4⟩
   rw[P0]at s4
   have bf:(bc (qT k) 0 es).length=(bc (qL k) 0 es++bc (qM k) 0 es).length:=by rw[←P0,nj]
   rw[←bf]at s4
   have WR:=M9.uA J0 Dx pO e4 s4
   have cU:jE (fun v=>if v<k then bc (qT v) 0 es else bc (qL v) 0 es++bc (qM v) 0 es) k (bc (qT k) 0 es)=fun v=>if v<k+1 then bc (qT v) 0 es else bc (qL v) 0 es++bc (qM v) 0 es:=by
    funext v
    unfold jE
    by_cases h1:v=k
    ·subst h1;rw[if_pos rfl,if_pos (by omega)]
    ·rw[if_neg h1]
     show(if v<k then bc (qT v) 0 es else bc (qL v) 0 es++bc (qM v) 0 es)=_
     by_cases h2:v<k
     ·rw[if_pos h2,if_pos (by omega)]
     ·rw[if_neg h2,if_neg (by omega)]
   rw[cU]at WR
   refine vs ?_
   rw[wrap64 (n:=(k:Int)+1) (by omega) (by omega)]
   exact⟨n.toNat - (k+1),by omega,f3.then e4 (fun z hz=>by have:=(M9.low k J0 z hz).1;omega),k+1,fp3,rfl,by omega,WR,rfl⟩
  ·have J0:k=n.toNat:=by omega
   subst J0
   obtain⟨bX,g1,g2,g3⟩:=M9.Sm
   refine⟨f3,.inr ⟨hR,RP,fp3,rfl,⟨⟨bX,g1,g2,fun i hi=>?_⟩,by omega,fun i hi p hp=>⟨by have:=(M9.low i hi p hp).1;omega,(M9.low i hi p hp).2⟩,M9.apart⟩⟩⟩
   obtain⟨sv,g4,g5⟩:=g3 i hi
   rw[if_pos hi]at g5
   exact⟨sv,g4,g5⟩
def lG(l:List (Int×Nat)):List Value:=l.flatMap fun y=>[i64 y.1,.int .u32 (y.2:Int)]
theorem JS(l:List (Int×Nat)):(lG l).length=l.length*2:=by
 induction l with
 |nil=>rfl
 |cons c r ih=>simp only[lG,arN,aqj,aqx,arh]at*;omega
theorem TQ{l:List (Int×Nat)}{i:Nat}{y:Int×Nat}(h:l[i]? =some y):(lG l)[i*2]? =some (i64 y.1)∧(lG l)[i*2+1]? =some (.int .u32 (y.2:Int))∧((lG l).drop (i*2)).take 2=[i64 y.1,.int .u32 (y.2:Int)]:=by
 induction l generalizing i with
 |nil=>simp at h
 |cons a r ih=>
  have e:lG (a::r)=i64 a.1:: .int .u32 (a.2:Int)::lG r:=rfl
  rw[e]
  cases i with
  |zero=>simp at h;subst h;exact⟨rfl,rfl,rfl⟩
  |succ i=>
   have:=ih (by simpa using h)
   rw[show(i+1)*2=i*2+2 by omega]
   exact this
theorem Rr{l:List (Int×Nat)}{i:Nat}{y:Int×Nat}(h:i<l.length):((lG l).set (i*2) (i64 y.1)).set (i*2+1) (.int .u32 (y.2:Int))=lG (l.set i y):=by
 induction l generalizing i with
 |nil=>simp at h
 |cons a r ih=>
  have e:lG (a::r)=i64 a.1:: .int .u32 (a.2:Int)::lG r:=rfl
  cases i with
  |zero=>rfl
  |succ i=>
   have:=ih (i:=i) (by simpa using h)
   have e2:lG ((a::r).set (i+1) y)=i64 a.1:: .int .u32 (a.2:Int)::lG (r.set i y):=rfl
   rw[e,e2,←this,show(i+1)*2=i*2+1+1 by omega]
   simp only[aqU]
structure Pa where
 x:Nat
 b1:Nat
 b2:Nat
 b3:Nat
 mp:Nat
 s:Nat
def Pa.row(B:Pa)(z:Nat):Prop:=z=B.b1∨z=B.b2∨z=B.b3∨z=B.mp
structure wJ(H:Hp)(B:Pa)(lo n:Nat)(gs ov:Value)(S:Nat→Prop)(w:Nw)(A:Ar)(q:Int)(L:List ((Int×Nat)×Value))(sl:List Nat)(bl:List Int)(hl:List (Int×Nat)):Prop where
 o:H.own B.x=some [i64 n,gs,ptr B.s,.slice (some ⟨B.b1,0,none⟩) n n,.slice (some ⟨B.b2,0,none⟩) n n,.slice (some ⟨B.b3,0,none⟩) n n,.map (some B.mp),ov]
 o1:H.own B.b1=some (sl.map fun k:Nat=>i64 k)
 o2:H.own B.b2=some (bl.map i64)
 o3:H.own B.b3=some (lG hl)
 m:Cn H B.mp L
 st:Fq H B.s S w A q
 ns:¬S B.x∧¬S B.b1∧¬S B.b2∧¬S B.b3∧¬S B.mp
 ne:B.x≠B.b1∧B.x≠B.b2∧B.x≠B.b3∧B.x≠B.mp∧B.b1≠B.b2∧B.b1≠B.b3∧B.b1≠B.mp∧B.b2≠B.b3∧B.b2≠B.mp∧B.b3≠B.mp
 low:(∀z,S z→lo≤z)∧lo≤B.x∧lo≤B.b1∧lo≤B.b2∧lo≤B.b3∧lo≤B.mp
section
variable {H H' : Hp} {B : Pa} {lo n : Nat} {gs ov : Value} {S S' T : Nat → Prop} {w w' : Nw} {A A' : Ar} {q q' : Int} {L L' : List ((Int × Nat) × Value)} {sl : List Nat} {bl : List Int} {hl : List (Int × Nat)}
theorem wJ.ext(h:wJ H B lo n gs ov S w A q L sl bl hl)(e:ag T H H')(hd:∀z,S z∨z=B.x∨B.row z→¬T z):wJ H' B lo n gs ov S w A q L sl bl hl:=
 ⟨e.own h.o (hd _ (.inr (.inl rfl))),e.own h.o1 (hd _ (.inr (.inr (.inl rfl)))),e.own h.o2 (hd _ (.inr (.inr (.inr (.inl rfl))))),e.own h.o3 (hd _ (.inr (.inr (.inr (.inr (.inl rfl)))))),h.m.ext e (hd _ (.inr (.inr (.inr (.inr (.inr rfl)))))),h.st.ext e (fun z hz=>hd z (.inl hz)),h.ns,h.ne,h.low⟩
theorem wJ.fresh(h:wJ H B lo n gs ov S w A q L sl bl hl)(e:ah H H'):wJ H' B lo n gs ov S w A q L sl bl hl:=h.ext e (fun _ _ h=>h)
theorem wJ.lt(h:wJ H B lo n gs ov S w A q L sl bl hl):∀z,S z∨z=B.x∨B.row z→z<H.size:=by
 rintro z (hz|rfl|rfl|rfl|rfl|rfl)
 ·exact h.st.slt z hz
 ·exact aB h.o
 ·exact aB h.o1
 ·exact aB h.o2
 ·exact aB h.o3
 ·exact h.m.lt
theorem wJ.ge(h:wJ H B lo n gs ov S w A q L sl bl hl):∀z,S z∨z=B.x∨B.row z→lo≤z:=by
 obtain⟨g,g1,g2,g3,g4,g5⟩:=h.low
 rintro z (hz|rfl|rfl|rfl|rfl|rfl)
 ·exact g z hz
 all_goals assumption
theorem wJ.to(h:wJ H B lo n gs ov S w A q L sl bl hl)(st:Fq H' B.s S' w' A' q')(e:ag S H H')(hs:∀z,S' z→S z∨H.size≤z):wJ H' B lo n gs ov S' w' A' q' L sl bl hl:=by
 have aN:=h.lt
 have hn:∀z,¬S z→z<H.size→¬S' z:=fun z h1 h2 h3=>by rcases hs z h3 with h|h;exact h1 h;omega
 obtain⟨n0,n1,n2,n3,n4⟩:=h.ns
 have hx:=aN B.x (.inr (.inl rfl))
 refine⟨e.own h.o n0,e.own h.o1 n1,e.own h.o2 n2,e.own h.o3 n3,h.m.ext e n4,st,⟨hn _ n0 hx,hn _ n1 (aB h.o1),hn _ n2 (aB h.o2),hn _ n3 (aB h.o3),hn _ n4 h.m.lt⟩,h.ne,fun z hz=>?_,h.low.2⟩
 have:=h.low.2.1
 rcases hs z hz with h1|h1
 ·exact h.low.1 z h1
 ·omega
theorem wJ.qn(h:wJ H B lo n gs ov S w A q L sl bl hl)(u v:Nat){l:List Value}(hv:l=(sl.map fun k:Nat=>i64 k).set u (i64 v)):wJ (H.wr B.b1 l) B lo n gs ov S w A q L (sl.set u v) bl hl∧ag (fun z=>z=B.b1) H (H.wr B.b1 l):=by
 obtain⟨e,o⟩:=MZ h.o1 l
 have hn:=h.ne
 obtain⟨n0,n1,n2,n3,n4⟩:=h.ns
 refine⟨⟨e.own h.o (by omega),?_,e.own h.o2 (by omega),e.own h.o3 (by omega),h.m.ext e (by omega),h.st.ext e (fun z hz e=>n1 (by rw[←e];exact hz)),h.ns,h.ne,h.low⟩,e⟩
 rw[o,hv,aqP]
theorem wJ.adV(h:wJ H B lo n gs ov S w A q L sl bl hl)(u:Nat)(v:Int){l:List Value}(hv:l=(bl.map i64).set u (i64 v)):wJ (H.wr B.b2 l) B lo n gs ov S w A q L sl (bl.set u v) hl∧ag (fun z=>z=B.b2) H (H.wr B.b2 l):=by
 obtain⟨e,o⟩:=MZ h.o2 l
 have hn:=h.ne
 obtain⟨n0,n1,n2,n3,n4⟩:=h.ns
 refine⟨⟨e.own h.o (by omega),e.own h.o1 (by omega),?_,e.own h.o3 (by omega),h.m.ext e (by omega),h.st.ext e (fun z hz e=>n2 (by rw[←e];exact hz)),h.ns,h.ne,h.low⟩,e⟩
 rw[o,hv,aqP]
theorem wJ.aiK(h:wJ H B lo n gs ov S w A q L sl bl hl)(u:Nat)(v:Int×Nat){l:List Value}(hv:l=lG (hl.set u v)):wJ (H.wr B.b3 l) B lo n gs ov S w A q L sl bl (hl.set u v)∧ag (fun z=>z=B.b3) H (H.wr B.b3 l):=by
 obtain⟨e,o⟩:=MZ h.o3 l
 have hn:=h.ne
 obtain⟨n0,n1,n2,n3,n4⟩:=h.ns
 refine⟨⟨e.own h.o (by omega),e.own h.o1 (by omega),e.own h.o2 (by omega),?_,h.m.ext e (by omega),h.st.ext e (fun z hz e=>n3 (by rw[←e];exact hz)),h.ns,h.ne,h.low⟩,e⟩
 rw[o,hv]
theorem wJ.put(h:wJ H B lo n gs ov S w A q L sl bl hl)(hm:Cn H' B.mp L')(e:ag (fun z=>z=B.mp) H H'):wJ H' B lo n gs ov S w A q L' sl bl hl:=by
 have hn:=h.ne
 obtain⟨n0,n1,n2,n3,n4⟩:=h.ns
 exact⟨e.own h.o (by omega),e.own h.o1 (by omega),e.own h.o2 (by omega),e.own h.o3 (by omega),hm,h.st.ext e (fun z hz e=>n4 (by rw[←e];exact hz)),h.ns,h.ne,h.low⟩
end
end Go.Proofs.YthpjfeolagohkaaGreat

namespace Go.Proofs.YthpjfeolagohkaaGreat
open Go Go.Vc
theorem VZ{α:Type}{l:List α}{i:Nat}{x:α}(h:l[i]? =some x):l.set i x=l:=by
 apply aqX
 intro j
 by_cases e:i=j
 ·subst e
  rw[kq h,h]
 ·rw[ez e]
section
variable {H : Hp} {B : Pa} {lo n : Nat} {ov : Value} {S : Nat → Prop} {w : Nw} {A : Ar} {L : List ((Int × Nat) × Value)} {sl : List Nat} {bl : List Int} {hl : List (Int × Nat)} {a : Option Addr} {c : Nat} {es : List Ed}
theorem sW(m:wJ H B lo n (.slice a es.length c) ov S w A (L.length:Int) L sl bl hl)(g:yf es n w A L sl bl hl)(hn:n≤4096)(hr:db H 3 (.slice a es.length c) es.length (dk es)){u:Nat}(hu:u<n){i:Nat}{e:Ed}(he:es[i]? =some e)(hel:es.length≤1000000000)
  (hby:sl[u]? =some 1→Oo es (bl.getD u 0)):
  af Tryz.prog wS [ptr B.x,i64 u,i64 i] H fun v H'=>ax (v= .tuple [].toArray∧∃S' w' A' L' JN JO FK,wJ H' B lo n (.slice a es.length c) ov S' w' A' (L'.length:Int) L' JN JO FK∧yf es n w' A' L' JN JO FK∧adt es sl bl u i JN JO∧ag (fun z=>S z∨B.row z) H H'∧∀z,S' z→S z∨H.size≤z):=by
 have qR:=(aqc.1 he).1
 obtain⟨_,be,oe,le,rfl,fU,oP,dA,jW,sI,ww⟩:=db.sK hr he
 have SM:wE es (i:Int)=e.w:=MF he
 obtain⟨k,hk⟩:∃k,sl[u]? =some k:=⟨_,aqb (by rw[g.l1];exact hu)⟩
 obtain⟨bu,hbu⟩:∃k,bl[u]? =some k:=⟨_,aqb (by rw[g.l2];exact hu)⟩
 obtain⟨hh,hhu⟩:∃k,hl[u]? =some k:=⟨_,aqb (by rw[g.l3];exact hu)⟩
 have J0:=g.two k (aqg hk)
 have ck:(sl.map fun k:Nat=>i64 k)[u]? =some (i64 k):=by rw[aqz,hk];rfl
 have cb:(bl.map i64)[u]? =some (i64 bu):=by rw[aqz,hbu];rfl
 have VQ:bl.getD u 0=bu:=by rw[aqf,hbu];rfl
 have uF:=g.l1
 have tP:=g.l2
 have Q0:=g.l3
 refine EL xm ⟨rfl,?_⟩
 refine v2 mw.eq_1 (ae m.o) ?_
 refine⟨⟨by omega,by omega⟩,?_⟩
 refine v4 fU Int.toNat_natCast ww (ae m.o) ?_
 refine⟨⟨by omega,by omega⟩,?_⟩
 refine v5 (ae m.o1) Int.toNat_natCast aqd aqa ck ?_
 refine ar.dec (fun h2=>?_) (fun h2=>?_)<;>refine vs ?_
 ·have h2:k=2:=by omega
  subst h2
  exact⟨rfl,S,w,A,L,sl,bl,hl,m,g,.inl ⟨rfl,rfl,.inl hk⟩,ag.refl _ _,fun z hz=>.inl hz⟩
 refine v1 (ae m.o) ?_
 refine⟨⟨by omega,by omega⟩,?_⟩
 refine v5 (ae m.o1) Int.toNat_natCast aqd aqa ck ?_
 refine ar.dec (fun h0=>?_) (fun h0=>?_)<;>refine v1 (ae m.o) ?_
 ·have h0:k=0:=by omega
  subst h0
  refine(G5 m.st g.hs (fun x x0 _=>by have:=g.Zc x0;omega) (by have:=g.aS;omega)).mono ?_
  rintro _ H1 (⟨bO,_⟩| ⟨x,A',RE,rfl,S1,Uj,e1,fh⟩)
  ·exact absurd bO (g.room hk)
  obtain⟨rL,hG⟩:=g.put RE hk (i:Int) ((L.length:Int)+1)
  obtain⟨hx,_⟩:=Ar.FG RE g.ok
  rw[SM]at hG
  have m1:=m.to Uj e1 fh
  have Np:=e1.size
  refine vs ?_
  obtain⟨f2,b2,z2⟩:=PO H1 71 [Value.int .i64 0,Value.int .u32 0] [i64 x,Value.int .u32 ((A.bM x+1:Nat):Int)]
  generalize hhb:H1.size=hb at*
  generalize (H1.new 71 [Value.int .i64 0,Value.int .u32 0]).wr hb [i64 x,Value.int .u32 ((A.bM x+1:Nat):Int)]=H2 at*
  have m2:=m1.fresh f2
  refine gP.intro (fun H'=>H'.own B.x=some [i64 n,.slice (some ⟨be,oe,none⟩) es.length c,ptr B.s,.slice (some ⟨B.b1,0,none⟩) n n,.slice (some ⟨B.b2,0,none⟩) n n,.slice (some ⟨B.b3,0,none⟩) n n,.map (some B.mp),ov]∧H'.own hb=some [i64 x,Value.int .u32 ((A.bM x+1:Nat):Int)]) ⟨m2.o,b2⟩ ?_
  refine vs ?_
  refine dP.intro (.slice (some ⟨B.b1,0,none⟩) n n) (fun H' hI=>by refine v1 (ae hI.1) ?_;exact⟨trivial,trivial⟩) ?_
  refine vs ?_
  refine dP.intro (.slice (some ⟨B.b2,0,none⟩) n n) (fun H' hI=>by refine v1 (ae hI.1) ?_;exact⟨trivial,trivial⟩) ?_
  refine vs ?_
  refine dP.intro (.slice (some ⟨B.b3,0,none⟩) n n) (fun H' hI=>by refine v1 (ae hI.1) ?_;exact⟨trivial,trivial⟩) ?_
  refine vs ?_
  refine dP.intro (gI x (A.bM x+1)) (fun H' hI=>by refine v1 (ae hI.2) ?_;exact⟨trivial,trivial⟩) ?_
  refine vs ?_
  refine⟨⟨by omega,by omega⟩,?_⟩
  refine v4 m2.o1 Int.toNat_natCast aqd aqa ?_
  refine⟨by rw[aqr];omega,?_⟩
  refine vs ?_
  obtain⟨m3,e3⟩:=m2.qn u 1 (l:=(sl.map fun k:Nat=>i64 k).set u (i64 1)) rfl
  have V0:=m1.lt
  have aR:hb≠B.b1∧hb≠B.b2∧hb≠B.b3∧hb≠B.mp:=by
   have h1:=V0 B.b1 (by simp[Pa.row])
   have h2:=V0 B.b2 (by simp[Pa.row])
   have h3:=V0 B.b3 (by simp[Pa.row])
   have h4:=V0 B.mp (by simp[Pa.row])
   omega
  have b3:=e3.own b2 aR.1
  generalize H2.wr B.b1 ((sl.map fun k:Nat=>i64 k).set u (i64 1))=H3 at*
  refine And.intro ⟨m3.o,b3⟩ ?_
  refine vs ?_
  refine⟨⟨by omega,by omega⟩,?_⟩
  refine v4 m3.o2 Int.toNat_natCast aqd aqa ?_
  refine⟨by rw[aqr];omega,?_⟩
  refine vs ?_
  obtain⟨m4,e4⟩:=m3.adV u (i:Int) rfl
  have b4:=e4.own b3 aR.2.1
  generalize H3.wr B.b2 ((bl.map i64).set u (i64 i))=H4 at*
  refine And.intro ⟨m4.o,b3⟩ ?_
  refine vs ?_
  refine⟨⟨by omega,by omega⟩,?_⟩
  refine v3 m4.o3 Int.toNat_natCast aqa ?_
  refine⟨by rw[JS];omega,?_⟩
  refine vs ?_
  obtain⟨m5,e5⟩:=m4.aiK u (x,A.bM x+1) (Rr (by omega))
  have b5:=e5.own b4 aR.2.2.1
  simp only at m5 e5 b5
  generalize H4.wr B.b3 (((lG hl).set (u*2) (i64 x)).set (u*2+1) (.int .u32 ((A.bM x+1:Nat):Int)))=H5 at*
  refine And.intro ⟨m5.o,b4⟩ ?_
  refine v2 (ae m5.o) (ae b5) ?_
  refine⟨JM _ _,?_⟩
  refine Cn.lZ m5.m (a:=(x,A.bM x+1)) rL fun H6 mp6 e6=>?_
  refine vs ?_
  have m6:=m5.put mp6 e6
  have el:((L++[((x,A.bM x+1),i64 (u:Int))]).length:Int)=(L.length:Int)+1:=by rw[aqj];rfl
  refine⟨rfl,S1,_,_,_,_,_,_,?_,hG,.inr ⟨rfl,rfl,.inl hk⟩,?_,fh⟩
  ·rw[el];exact m6
  ·have t1:ag (fun z=>S z∨B.row z) H H2:=(e1.mono fun z _ h=>.inl h).trans (f2.mono fun z _ h=>h.elim)
   exact(((t1.trans (e3.mono fun z _ h=>.inr (.inl h))).trans (e4.mono fun z _ h=>.inr (.inr (.inl h)))).trans (e5.mono fun z _ h=>.inr (.inr (.inr (.inl h))))).trans (e6.mono fun z _ h=>.inr (.inr (.inr (.inr h))))
 have h1:k=1:=by omega
 subst h1
 have bH:=hby hk
 rw[VQ]at bH
 obtain⟨j,e',hj,gz,hjl⟩:=bH.get
 subst hj
 obtain⟨_,be',oe',le',Vm,V5,_,_,hd0,hd1,kJ⟩:=db.sK hr gz
 injection Vm with Vm
 injection Vm with Nq oG
 subst Nq oG
 rw[fU]at V5
 injection V5 with V5
 subst V5
 have VP:wE es (j:Int)=e'.w:=MF gz
 refine⟨⟨by omega,by omega⟩,?_⟩
 refine v5 (ae m.o2) Int.toNat_natCast aqd aqa cb ?_
 refine⟨⟨by omega,by omega⟩,?_⟩
 refine v3 fU Int.toNat_natCast kJ ?_
 refine ar.dec (fun aN=>?_) (fun aN=>?_)<;>refine vs ?_
 rotate_left
 ·exact⟨rfl,S,w,A,L,sl,bl,hl,m,g,.inl ⟨rfl,rfl,.inr ⟨hk,by rw[VQ,SM,VP];omega⟩⟩,ag.refl _ _,fun z hz=>.inl hz⟩
 obtain⟨x,s,x0,q1,q2,q3⟩:=g.c2 u hk
 rw[hhu]at q1
 injection q1 with q1
 subst q1
 obtain⟨k1,k2,k3⟩:=TQ hhu
 simp only at k1 k2 k3
 have mH:A.live x:=(g.lk.live x).1 ⟨x0,_,q2,by simp⟩
 refine v1 (ae m.o) ?_
 refine⟨⟨by omega,by omega⟩,?_⟩
 refine v3 (ae m.o3) Int.toNat_natCast aqa ?_
 refine⟨by rw[JS];omega,?_⟩
 refine v1 k3 ?_
 refine(ye m.st mH e.w).mono ?_
 rintro _ H1 ⟨y,hy,⟨bO,_⟩| ⟨_,rfl,S1,Uj,e1,fh⟩⟩
 ·rw[q2]at hy
  injection hy with hy
  subst hy
  rw[VQ,VP]at bO
  simp only at bO
  omega
 have hG:=g.lower hk x0 hhu hy (i:Int)
 rw[SM]at hG
 have m1:=m.to Uj e1 fh
 refine v1 (ae m1.o) ?_
 refine⟨⟨by omega,by omega⟩,?_⟩
 refine v4 m1.o2 Int.toNat_natCast aqd aqa ?_
 refine⟨by rw[aqr];omega,?_⟩
 refine vs ?_
 obtain⟨m2,e2⟩:=m1.adV u (i:Int) rfl
 rw[q2]at hy
 injection hy with hy
 subst hy
 exact⟨rfl,S1,_,A,L,sl,_,hl,m2,hG,.inr ⟨(VZ hk).symm,rfl,.inr ⟨hk,by rw[VQ,SM,VP];omega⟩⟩,(e1.mono fun z _ h=>.inl h).trans (e2.mono fun z _ h=>.inr (.inr (.inl h))),fh⟩
end
end Go.Proofs.YthpjfeolagohkaaGreat

namespace Go.Proofs.YthpjfeolagohkaaGreat
open Go Go.Vc
section
variable {Hh H : Hp} {B : Pa} {lo n : Nat} {ov : Value} {S : Nat → Prop} {w : Nw} {A : Ar} {L : List ((Int × Nat) × Value)} {sl : List Nat} {bl : List Int} {hl : List (Int × Nat)} {a : Option Addr} {c : Nat} {es : List Ed}
theorem jB(m:wJ H B lo n (.slice a es.length c) ov S w A (L.length:Int) L sl bl hl)(tM:gL (n:Int) es)(hr:db Hh 3 (.slice a es.length c) es.length (dk es))(fH:ah Hh H)(QR:Hh.size≤lo)
  {v:Nat}(hv:v<n)(g:yf es n w A L (sl.set v 2) bl hl){tB tb:Nat}{fp:Nat→Option Nat}(t:qV H tB tb n (fun v=>bc (qT v) 0 es) fp)(ht:∀z,(z=tb∨∃i,i<n∧fp i=some z)→¬ (S z∨z=B.x∨B.row z))
  {D:Nat→Prop}{o:List Nat}{k:Nat→Int}{T:List Int}(gs:O1 es D o k T (sl.set v 2) bl (bc (qT v) 0 es))(jk:o[o.length - 1]? =some v):
  af Tryz.prog wR [ptr B.x,i64 v,.slice (some ⟨tb,0,none⟩) n n] H fun r H'=>ax (r= .tuple [].toArray∧∃S' w' A' L' JN JO FK,wJ H' B lo n (.slice a es.length c) ov S' w' A' (L'.length:Int) L' JN JO FK∧yf es n w' A' L' JN JO FK∧O1 es D o k T JN JO []∧ag (fun z=>S z∨B.row z) H H'∧∀z,S' z→S z∨H.size≤z):=by
 have yL:n≤4096:=by have:=tM.n1;omega
 have hel:=tM.len
 have AL:sl.length=n:=by have:=g.l1;rw[aqe]at this;exact this
 refine bm xl ?_
 refine v1 (ae m.o) ?_
 refine⟨⟨by omega,by omega⟩,?_⟩
 refine v4 m.o1 Int.toNat_natCast aqd aqa ?_
 refine⟨by rw[aqr];omega,?_⟩
 refine vs ?_
 obtain⟨m1,e1⟩:=m.qn v 2 (l:=(sl.map fun k:Nat=>i64 k).set v (i64 2)) rfl
 generalize H.wr B.b1 ((sl.map fun k:Nat=>i64 k).set v (i64 2))=H1 at*
 have aN:=m.lt
 have Nv:=m.ge
 have x1:ag (fun z=>S z∨B.row z) H H1:=e1.mono fun z _ h=>.inr (.inl h)
 obtain⟨bX,sv,IS,aok,pO,gT⟩:=t.get hv
 have ho:=x1.own IS (fun h=>ht tb (.inl rfl) (h.imp_right .inr))
 refine⟨⟨by omega,by omega⟩,?_⟩
 refine v5 (ae ho) Int.toNat_natCast aqd aqa pO ?_
 obtain⟨ra,rc,rfl,hrc⟩:=cH gT
 have hql:=qi (qT v) es 0
 refine vs ?_
 obtain⟨row,xU⟩:∃row,row=bc (qT v) 0 es:=⟨_,rfl⟩
 rw[←xU]at gT gs hql ⊢
 have hP:∀z,fp v=some z→¬ (S z∨z=B.x∨B.row z):=fun z hz=>ht z (.inr ⟨v,hv,hz⟩)
 refine aY.intro (fun mm env H'=>∃ (j:Nat) (S':Nat→Prop) (w':Nw) (A':Ar) (L':List ((Int×Nat)×Value)) (JN:List Nat) (JO:List Int) (FK:List (Int×Nat)),mm=row.length - j∧j≤row.length∧wJ H' B lo n (.slice a es.length c) ov S' w' A' (L'.length:Int) L' JN JO FK∧yf es n w' A' L' JN JO FK∧O1 es D o k T JN JO (row.drop j)∧ag (fun z=>S z∨B.row z) H H'∧(∀z,S' z→S z∨H.size≤z)∧
  env=[(0,ptr B.x),(1,i64 v),(18,.slice ra row.length rc),(19,i64 row.length),(20,i64 j)]) row.length ⟨0,S,w,A,L,sl.set v 2,bl,hl,rfl,arU _,m1,g,gs,x1,fun z hz=>.inl hz,rfl⟩ ?_
 clear m1 e1 x1 ho pO gs g
 rintro mm env H2 ⟨j,S2,w2,A2,L2,JK,bl2,tP,rfl,hj,m2,g2,gs2,x2,Jv,rfl⟩
 have ed:=x2.size
 have fH2:ah Hh H2:=fH.then x2 (fun z hz=>by have:=Nv z (hz.imp_right .inr);omega)
 refine vs ?_
 refine ar.dec (fun BU=>?_) (fun BU=>?_)<;>refine vs ?_
 rotate_left
 ·have ie:j=row.length:=by omega
  subst ie
  rw[asc]at gs2
  exact⟨rfl,S2,w2,A2,L2,JK,bl2,tP,m2,g2,gs2,x2,Jv⟩
 have ie:j<row.length:=by omega
 obtain⟨ii,hii⟩:∃x,row[j]? =some x:=⟨_,aqb ie⟩
 have bq:ii∈bc (qT v) 0 es:=by rw[←xU];exact aqg hii
 have cM:=Zd bq
 have ZG:=(Cp tM cM).2 bq
 obtain⟨i,e,rfl,he,qR⟩:=(j7.1 cM).get
 have adX:=gT.ext x2 (fun z hz h=>hP z hz (h.imp_right .inr))
 obtain⟨_,rb,ro,rl,rfl,aiN,aiO⟩:=db.num adX.rd hii
 refine⟨⟨by omega,by omega⟩,?_⟩
 refine v5 aiN Int.toNat_natCast aqd aiO (ae m2.o) ?_
 have r2:=hr.fresh fH2
 obtain⟨_,be,oe,le,rfl,fU,oP,dA,jW,sI,ww⟩:=db.sK r2 he
 obtain⟨Yb,Yc,Yd,Ye⟩:=tM.ends e (aqg he)
 refine⟨⟨by omega,by omega⟩,?_⟩
 simp(disch:=(first|omega| (simp only[Zs]<;>omega)|fail)) only[go_sem, ↓reduceIte,Zv,fU,Int.toNat_natCast,dA,cV]
 refine⟨by omega,?_⟩
 simp(disch:=(first|omega| (simp only[Zs]<;>omega)|fail)) only[go_sem, ↓reduceIte,Zv,dA,cV]
 obtain⟨f3,b3,z3⟩:=PO H2 53 [i64 0,i64 0,i64 0] [i64 e.f,i64 e.t,i64 e.w]
 generalize Yx:H2.size=cb at*
 generalize (H2.new 53 [i64 0,i64 0,i64 0]).wr cb [i64 e.f,i64 e.t,i64 e.w]=H3 at*
 have m3:=m2.fresh f3
 refine v1 (ae b3) ?_
 rw[nT he]at ZG
 have hu:((e.f.toNat+e.t.toNat - v:Nat):Int)=e.f+e.t - v∧e.f.toNat+e.t.toNat - v<n:=by
  unfold Touch at ZG
  simp only at ZG
  omega
 have hou:e.f.toNat+e.t.toNat - v=other (fE es (i:Int)) v:=by rw[nT he];rfl
 rw[wrap64 (n:=e.f+e.t) (by omega) (by omega),←hu.1,wrap64 (by omega) (by omega)]
 generalize e.f.toNat+e.t.toNat - v=u at*
 have nZ:row.drop j=(i:Int)::row.drop (j+1):=by
  rw[aq7 ie]
  congr 1
  rw[aqb ie]at hii
  injection hii
 rw[nZ]at gs2
 refine(sW m3 g2 yL (r2.fresh f3) hu.2 he (by omega) (fun hw=>?_)).mono ?_
 ·obtain⟨_,_,_,hb,_⟩:=gs2.P.wait u hw
  exact j7.1 hb
 rintro _ H4 ⟨rfl,S4,w4,A4,L4,WR,bl4,PX,m4,g4,off,e4,YJ⟩
 refine vs ?_
 rw[wrap64 (n:=(j:Int)+1) (by omega) (by omega)]
 have gs4:=gs2.offer jk cM ((Cp tM cM).2 bq) hou (by rw[g2.l2];exact hu.2) off
 have hz4:=e4.size
 have SC:=f3.size
 refine⟨row.length - (j+1),by omega,j+1,S4,w4,A4,L4,WR,bl4,PX,rfl,by omega,m4,g4,gs4,⟨by omega,fun z hz hn=>?_⟩,fun z hz=>?_,rfl⟩
 ·rw[e4.aM z (by omega) (fun h=>?_),f3.aM z (by omega) (fun h=>h),x2.aM z hz hn]
  rcases h with h|h
  ·rcases Jv z h with h|h
   ·exact hn (.inl h)
   ·omega
  ·exact hn (.inr h)
 ·rcases YJ z hz with h|h
  ·exact Jv z h
  ·exact .inr (by omega)
end
end Go.Proofs.YthpjfeolagohkaaGreat

namespace Go.Proofs.YthpjfeolagohkaaGreat
open Go Go.Vc
structure HV(H:Hp)(B:Pa)(lo N:Nat)(gs:Value)(es:List Ed)(tB tb:Nat)(fp:Nat→Option Nat)(S:Nat→Prop)(w:Nw)(A:Ar)(L:List ((Int×Nat)×Value))(sl:List Nat)(bl:List Int)(hl:List (Int×Nat))(T:List Int)(ov:Value)(FE:Option Nat):Prop where
 m:wJ H B lo N gs ov S w A (L.length:Int) L sl bl hl
 t:qV H tB tb N (fun v=>bc (qT v) 0 es) fp
 td:∀z,(z=tb∨∃i,i<N∧fp i=some z)→¬ (S z∨z=B.x∨B.row z)
 os:Sl H 1 ov T.length (T.map i64) FE
 od:∀b,FE=some b→lo≤b∧¬ (S b∨b=B.x∨B.row b)∧¬ (b=tb∨∃i,i<N∧fp i=some b)
section
variable {H H' : Hp} {B : Pa} {lo N : Nat} {gs : Value} {es : List Ed} {tB tb : Nat} {fp : Nat → Option Nat} {S S' : Nat → Prop} {w w' : Nw} {A A' : Ar} {L L' : List ((Int × Nat) × Value)} {sl JN : List Nat} {bl JO : List Int} {hl FK : List (Int × Nat)} {T : List Int} {ov ov' : Value} {FE : Option Nat}
theorem HV.tlt(p:HV H B lo N gs es tB tb fp S w A L sl bl hl T ov FE):∀z,(z=tb∨∃i,i<N∧fp i=some z)→z<H.size:=by
 rintro z (rfl| ⟨i,hi,hp⟩)
 ·exact p.t.lt
 ·obtain⟨_,_,_,_,_,s0⟩:=p.t.get hi
  rw[hp]at s0
  exact Sl.lt s0
theorem HV.olt(p:HV H B lo N gs es tB tb fp S w A L sl bl hl T ov FE):∀b,FE=some b→b<H.size:=fun b hb=>by
 have:=p.os
 rw[hb]at this
 exact Sl.lt this
theorem HV.go(p:HV H B lo N gs es tB tb fp S w A L sl bl hl T ov FE)(m':wJ H' B lo N gs ov S' w' A' (L'.length:Int) L' JN JO FK)(e:ag (fun z=>S z∨B.row z) H H')(hs:∀z,S' z→S z∨H.size≤z):HV H' B lo N gs es tB tb fp S' w' A' L' JN JO FK T ov FE:=by
 have h1:=p.tlt
 have h2:=p.olt
 have imp:∀z,z<H.size→(S' z∨z=B.x∨B.row z)→(S z∨z=B.x∨B.row z):=fun z hz h=>by
  rcases h with h|h
  ·rcases hs z h with h|h
   ·exact .inl h
   ·omega
  ·exact .inr h
 refine⟨m',p.t.ext e (fun h=>p.td tb (.inl rfl) (h.imp_right .inr)) (fun i q hi hq h=>p.td q (.inr ⟨i,hi,hq⟩) (h.imp_right .inr)),fun z hz h=>p.td z hz (imp z (h1 z hz) h),p.os.ext e (fun b hb h=>(p.od b hb).2.1 (h.imp_right .inr)),fun b hb=>⟨(p.od b hb).1,fun h=>(p.od b hb).2.1 (imp b (h2 b hb) h),(p.od b hb).2.2⟩⟩
theorem HV.fresh(p:HV H B lo N gs es tB tb fp S w A L sl bl hl T ov FE)(e:ah H H'):HV H' B lo N gs es tB tb fp S w A L sl bl hl T ov FE:=
 p.go (p.m.fresh e) (e.mono fun _ _ h=>h.elim) (fun z hz=>.inl hz)
theorem HV.to(p:HV H B lo N gs es tB tb fp S w A L sl bl hl T ov FE)(st:Fq H' B.s S' w' A' (L.length:Int))(e:ag S H H')(hs:∀z,S' z→S z∨H.size≤z):HV H' B lo N gs es tB tb fp S' w' A' L sl bl hl T ov FE:=
 p.go (p.m.to st e hs) (e.mono fun z _ h=>.inl h) hs
theorem HV.push{H1 H2 H3:Hp}{bI:Option Nat}{x:Int}(p:HV H B lo N gs es tB tb fp S w A L sl bl hl T ov FE)(f:ah H H1)(s:Sl H2 1 ov' (T.length+1) (T.map i64++[i64 x]) bI)(e:ag (fun z=>FE=some z) H1 H2)(hf:bI=FE∨∃b,bI=some b∧H1.size≤b∧b<H2.size)
  (h3:H3=H2.wr B.x [i64 N,gs,ptr B.s,.slice (some ⟨B.b1,0,none⟩) N N,.slice (some ⟨B.b2,0,none⟩) N N,.slice (some ⟨B.b3,0,none⟩) N N,.map (some B.mp),ov']):HV H3 B lo N gs es tB tb fp S w A L sl bl hl (T++[x]) ov' bI∧ag (fun z=>FE=some z∨z=B.x) H H3:=by
 subst h3
 have h1:=p.tlt
 have hz:=f.size
 have aN:=p.m.lt
 have Nv:=p.m.ge
 have hn:=p.m.ne
 have e0:ag (fun z=>FE=some z) H H2:=(f.mono fun _ _ h=>h.elim).pL e (fun _ _ h=>h)
 have m2:=p.m.ext e0 (fun z hz h=>(p.od z h).2.1 hz)
 obtain⟨ex,ox⟩:=MZ m2.o [i64 N,gs,ptr B.s,.slice (some ⟨B.b1,0,none⟩) N N,.slice (some ⟨B.b2,0,none⟩) N N,.slice (some ⟨B.b3,0,none⟩) N N,.map (some B.mp),ov']
 obtain⟨n0,_⟩:=p.m.ns
 have hxs:=aN B.x (.inr (.inl rfl))
 have lJ:=p.m.low.2.1
 have nfp:∀b,bI=some b→lo≤b∧¬ (S b∨b=B.x∨B.row b)∧¬ (b=tb∨∃i,i<N∧fp i=some b):=fun b hb=>by
  rcases hf with h| ⟨b',h1',h2,_⟩
  ·exact p.od b (by rw[←h];exact hb)
  ·rw[hb]at h1'
   injection h1' with h1'
   subst h1'
   exact⟨by omega,fun h=>by have:=aN b h;omega,fun h=>by have:=h1 b h;omega⟩
 refine⟨⟨⟨ox,ex.own m2.o1 (by omega),ex.own m2.o2 (by omega),ex.own m2.o3 (by omega),m2.m.ext ex (by omega),m2.st.ext ex (fun z hz e=>n0 (by rw[←e];exact hz)),p.m.ns,p.m.ne,p.m.low⟩,(p.t.ext e0 (fun h=>(p.od tb h).2.2 (.inl rfl)) (fun i q hi hq h=>(p.od q h).2.2 (.inr ⟨i,hi,hq⟩))).ext ex (fun h=>p.td tb (.inl rfl) (.inr (.inl h))) (fun i q hi hq h=>p.td q (.inr ⟨i,hi,hq⟩) (.inr (.inl h))),p.td,?_,nfp⟩,(e0.mono fun z _ h=>.inl h).trans (ex.mono fun z _ h=>.inr h)⟩
 rw[aqj,aqy]
 exact s.ext ex (fun b hb h=>(nfp b hb).2.1 (.inr (.inl h)))
end
theorem AD{n:Int}{es:List Ed}{T:List Int}(hr:gL n es)(h:iQ (T.map (fE es)))(hi:∀i∈T,i∈allI es.length):T.length≤n.toNat:=by
 have:=uK (n:=n.toNat) h (fun e he=>by
  obtain⟨i,hm,rfl⟩:=aqK.1 he
  exact FN hr (j7.1 (hi i hm)))
 rw[aqr]at this
 omega
theorem JT{n:Int}{es:List Ed}{T T':List Int}(hr:gL n es)(hp:T.Perm T')(h:nU n es T)(hl:MH es T):nU n es T'∧MH es T':=by
 have hm:(T.map (fE es)).Perm (T'.map (fE es)):=hp.map _
 refine⟨⟨fun i hi=>h.ins i (hp.mem_iff.2 hi),Qb (n:=n.toNat) hm (fun e he=>?_) h.AP,fun u v hh=>(CI hm u v).1 (h.all u v hh)⟩,fun i hi=>?_⟩
 ·obtain⟨i,hi,rfl⟩:=aqK.1 he
  exact h.Wz hr i hi
 ·have hs:((Lg (wE es) T (wE es i)).map (fE es)).Perm ((Lg (wE es) T' (wE es i)).map (fE es)):=(hp.filter _).map _
  exact(CI hs _ _).1 (hl i hi)
theorem HG(T:List Int):T.Perm (jm T):=(List.mergeSort_perm _ _).symm
theorem TR{T:List Int}(h:T.Nodup):(jm T).Pairwise (· < ·):=by
 have h1:(jm T).Pairwise fun x y=>decide (x≤y)=true:=List.pairwise_mergeSort (fun a b c h1 h2=>by simp only[aqI]at*;omega) (fun a b=>by simp only[ar8,aqI];omega) T
 have h2:(jm T).Nodup:=(HG T).nodup_iff.1 h
 refine List.Pairwise.imp₂ (fun a b AG aR=>?_) h1 h2
 simp only[aqI]at AG
 omega
def Next(es:List Ed)(N:Nat)(w:Nw)(A:Ar)(L:List ((Int×Nat)×Value))(sl:List Nat)(bl:List Int)(hl:List (Int×Nat))(x:Int)(gg:Nat)(er:Int):Prop:=
 (er=172∧yf es N w A L sl bl hl∧∀v:Nat,sl[v]? ≠some 1)∨
 (er=0∧∃v:Nat,sl[v]? =some 1∧((x,gg),i64 v)∈L∧(∀u:Nat,sl[u]? =some 1→wE es (bl.getD v 0)≤wE es (bl.getD u 0))∧yf es N w A L (sl.set v 2) bl hl)
theorem JU{H:Hp}{B:Pa}{lo N:Nat}{gs:Value}{es:List Ed}{tB tb:Nat}{fp:Nat→Option Nat}{S:Nat→Prop}{w:Nw}{A:Ar}{L:List ((Int×Nat)×Value)}{sl:List Nat}{bl:List Int}{hl:List (Int×Nat)}{T:List Int}{ov:Value}{FE:Option Nat}
  (p:HV H B lo N gs es tB tb fp S w A L sl bl hl T ov FE)(g:yf es N w A L sl bl hl):af Tryz.prog jI [ptr B.s,i64 1] H fun v H'=>ax (
  ∃ (x:Int) (gg:Nat) (k er:Int) (S':Nat→Prop) (w':Nw) (A':Ar),v= .tuple [gI x gg,i64 k,i64 er].toArray∧HV H' B lo N gs es tB tb fp S' w' A' L sl bl hl T ov FE∧Next es N w' A' L sl bl hl x gg er∧ag S H H'∧∀z,S' z→S z∨H.size≤z):=by
 refine(Aq p.m.st g.hs).mono ?_
 rintro _ H1 (⟨h0,rfl,S1,Uj,e1,fh⟩| ⟨x,y,hx,hy,rfl,S1,Uj,e1,fh⟩)
 ·exact⟨0,0,0,172,S1,w,A,rfl,p.to Uj e1 fh,.inl ⟨rfl,g,g.none_ h0⟩,e1,fh⟩
 ·obtain⟨v,q1,q2,q3,q4⟩:=g.take hx hy
  exact⟨x,A.bM x,y.2.1,0,S1,_,_,rfl,p.to Uj e1 fh,.inr ⟨rfl,v,q1,q2,q3,q4⟩,e1,fh⟩
end Go.Proofs.YthpjfeolagohkaaGreat
