/- Texts put behind each other. -/
import Derived.Test.YtjlnnljohemifaaGreatK98
import Derived.Test.YtjlnnljohemifaaGreatK9
import Derived.Test.YtjlnnljohemifaaGreatK18
import Derived.Test.YtjlnnljohemifaaGreatK23
import Derived.Test.YtjlnnljohemifaaGreatK24
set_option maxRecDepth 100000
set_option maxHeartbeats 8000000
set_option linter.unusedVariables false
set_option linter.unusedSimpArgs false
namespace Go.Proofs.YtjlnnljohemifaaGreat
open Go Go.Vc
def qM(v:Nat)(e:Ed):Bool:=decide (e.f≠e.t) && decide (e.t=(v:Int))
theorem OZ{es:List Ed}{j k:Nat}{e:Ed}(X:Nat→List Int)(he:es[j]? =some e)(hq:∀v,qM v e=decide (v=k)):
  GG (fun v=>X v++ba (qM v) 0 (es.take j)) k (X k++ba (qM k) 0 (es.take j)++[(j:Int)])=fun v=>X v++ba (qM v) 0 (es.take (j+1)):=by
 funext v
 unfold GG
 rw[AK _ he,hq]
 by_cases h:v=k
 ·subst h;simp
 ·simp[h]
theorem O0{es:List Ed}{j:Nat}{e:Ed}(X:Nat→List Int)(he:es[j]? =some e)(hq:e.f=e.t):
  (fun v=>X v++ba (qM v) 0 (es.take j))=fun v=>X v++ba (qM v) 0 (es.take (j+1)):=by
 funext v
 rw[AK _ he]
 simp[qM,hq]
theorem NH(es:List Ed)(v:Nat):iO (ba (qL v) 0 es++ba (qM v) 0 es)=ba (qT v) 0 es:=by
 have h:=Sh (qL v) (qM v) es 0 (fun e _ h=>by
  simp only[qL,qM,anF,an4]at h
  omega)
 have hq:(fun e=>qL v e || qM v e)=qT v:=by
  funext e
  unfold qL qM qT
  by_cases h1:e.f=v<;>by_cases h2:e.t=v<;>by_cases h3:e.f=e.t<;>simp[h1,h2,h3]<;>omega
 rw[hq]at h
 exact h
theorem wh{H:Hp}{n:Int}{a:Option Addr}{c:Nat}{es:List Ed}(h:cI H 3 (.slice a es.length c) es.length (dM es))(hm:es.length≤1000000000):
  af Tryz.prog AL [yg n (.slice a es.length c)] H fun v H'=>ar (ah H H'∧((dP n es=false∧v= .slice none 0 0)∨
   (dP n es=true∧∃b fp,v= .slice (some ⟨b,0,none⟩) n.toNat n.toNat∧AG H' H.size b n.toNat (fun v=>ba (qT v) 0 es) fp))):=by
 refine aP AW ?_
 have f0:ah H (H.new 52 [i64 n,.slice a es.length c]):=(ag.refl _ _).new _ _
 have b0:=ax H 52 [i64 n,.slice a es.length c]
 simp(disch:=(first|omega| (simp only[Zs]<;>omega)|fail)) only[go_sem, ↓reduceIte,Zv,yg]
 generalize H.new 52 [i64 n,.slice a es.length c]=H0 at*
 have h0:=h.fresh f0
 refine(yj (n:=n) h0 hm).mono ?_
 rintro _ H1 ⟨f1,⟨hR,rfl⟩| ⟨hR,NE,fp0,rfl,sl1⟩⟩
 ·refine vs ?_
  exact⟨f0.trans f1,.inl ⟨hR,rfl⟩⟩
 have b1:=f1.own b0 (fun h=>h)
 have f01:=f0.trans f1
 have Yr:=az b0
 have Ux:=sl1.base
 obtain⟨JW,uF,T7,QX⟩:=(fM n es).1 hR
 simp(disch:=(first|omega| (simp only[Zs]<;>omega)|fail)) only[go_sem, ↓reduceIte,Zv,ae b1,Option.isNone_some]
 have Cp:(fun v=>ba (qL v) 0 es)=fun v=>ba (qL v) 0 es++ba (qM v) 0 (es.take 0):=by funext v;simp[ba]
 rw[Cp]at sl1
 refine aT.intro (fun m env H'=>ah H H'∧∃ (j:Nat) (fp:Nat→Option Nat),m=es.length - j∧j≤es.length∧AG H' H0.size NE n.toNat (fun v=>ba (qL v) 0 es++ba (qM v) 0 (es.take j)) fp∧
  env=[(3,.slice (some ⟨NE,0,none⟩) n.toNat n.toNat),(13,.slice a es.length c),(14,i64 es.length),(15,i64 j)]) es.length ⟨f01,0,_,by omega,by omega,sl1,rfl⟩ ?_
 rintro m env H2 ⟨f2,j,fp,SO,hj,Hf,rfl⟩
 have h2:=h.fresh f2
 refine vs ?_
 refine ak.dec (fun aK=>?_) (fun aK=>?_)<;>refine vs ?_
 ·have fF:j<es.length:=by omega
  obtain⟨e,he⟩:∃e,es[j]? =some e:=⟨_,am8 fF⟩
  obtain⟨_,b,o,lb,rfl,eG,mJ,ef⟩:=cI.CA h2 he
  refine⟨⟨by omega,by omega⟩,?_⟩
  have bF:=ang he
  obtain⟨ef0,ef1,et0,et1⟩:=QX e bF
  simp(disch:=(first|omega| (simp only[Zs]<;>omega)|fail)) only[go_sem, ↓reduceIte,Zv,eG,Int.toNat_natCast,ef,ed]
  refine⟨by omega,?_⟩
  have q2:=ax H2 61 [i64 0,i64 0,i64 0]
  simp(disch:=(first|omega| (simp only[Zs]<;>omega)|fail)) only[go_sem, ↓reduceIte,Zv,ef,ed,q2]
  have q3:=ai (l:=[i64 e.f,i64 e.t,i64 e.w]) q2
  have f3:ah H2 ((H2.new 61 [i64 0,i64 0,i64 0]).wr H2.size [i64 e.f,i64 e.t,i64 e.w]):=((ag.refl _ _).new _ _:ah H2 _).then ((ag.refl (fun z=>z=H2.size) _).wr (fun _=>rfl) _) (fun z hz=>by omega)
  have Ld:((H2.new 61 [i64 0,i64 0,i64 0]).wr H2.size [i64 e.f,i64 e.t,i64 e.w]).size=H2.size+1:=by rw[dT,am]
  have ZW:=Hf.lt
  generalize (H2.new 61 [i64 0,i64 0,i64 0]).wr H2.size [i64 e.f,i64 e.t,i64 e.w]=H3 at*
  have Ko:=Hf.fresh f3
  have Ta:e.t.toNat<n.toNat:=by omega
  obtain⟨cN,sv,Le,yD,wF,Ac⟩:=Ko.get Ta
  have afT:=n7 (qL e.t.toNat) es 0
  have aaQ:=n7 (qM e.t.toNat) (es.take j) 0
  have Yf:(ba (qL e.t.toNat) 0 es++ba (qM e.t.toNat) 0 (es.take j)).length≤2*es.length:=by rw[ank];rw[anR]at aaQ;omega
  have f13:ah H H3:=f2.trans f3
  refine v1 (ae q3) ?_
  refine ak.dec (fun WC=>?_) (fun WC=>?_)<;>refine vs ?_
  ·rw[wrap64 (n:=(j:Int)+1) (by omega) (by omega)]
   rw[O0 _ he WC]at Ko
   exact⟨es.length - (j+1),by omega,f13,j+1,fp,rfl,by omega,Ko,rfl⟩
  have hq:∀v,qM v e=decide (v=e.t.toNat):=fun v=>by unfold qM;rw[anp WC,aov,decide_eq_decide];omega
  have fin:∀ (H4:Hp) (v':Value) (H5:Hp) (cJ:Option Nat),ah H3 H4→Sl H5 1 v' (((ba (qL e.t.toNat) 0 es++ba (qM e.t.toNat) 0 (es.take j))).length+1) (((ba (qL e.t.toNat) 0 es++ba (qM e.t.toNat) 0 (es.take j))).map i64++[i64 j]) cJ→ag (fun z=>fp e.t.toNat=some z) H4 H5→
    (cJ=fp e.t.toNat∨∃p,cJ=some p∧H4.size≤p∧p<H5.size)→
    H5.own NE=some cN∧H5.own H2.size=some [i64 e.f,i64 e.t,i64 e.w]∧(H5.wr NE (cN.set e.t.toNat v')).own H2.size=some [i64 e.f,i64 e.t,i64 e.w]∧ah H (H5.wr NE (cN.set e.t.toNat v'))∧
    AG (H5.wr NE (cN.set e.t.toNat v')) H0.size NE n.toNat (fun v=>ba (qL v) 0 es++ba (qM v) 0 (es.take (j+1))) (ON fp e.t.toNat cJ):=by
   intro H4 v' H5 cJ f4 s5 e5 gU
   have Ur:=Ko.fresh f4
   have Om:=Ko.low e.t.toNat Ta
   have V9:∀z,fp e.t.toNat=some z→z<H2.size:=fun z hz=>by
    obtain⟨_,_,_,_,_,s0⟩:=Hf.get Ta
    rw[hz]at s0
    exact Sl.lt s0
   have ZL:=f4.own Le (fun h=>h)
   have q4:=f4.own q3 (fun h=>h)
   have q5:H5.own H2.size=some [i64 e.f,i64 e.t,i64 e.w]:=e5.own q4 (fun hh=>by have:=V9 _ hh;omega)
   obtain⟨k1,k2⟩:=Ur.put Ta (l:=(ba (qL e.t.toNat) 0 es++ba (qM e.t.toNat) 0 (es.take j))++[(j:Int)]) e5 (by rw[ank,anH];exact s5) gU ZL
   rw[OZ _ he hq]at k2
   refine⟨k1,q5,by rw[jB (by omega)];exact q5,?_,k2⟩
   exact((f13.trans f4).then e5 (fun z hz=>by have:=(Om z hz).1;omega)).then ((ag.refl (fun z=>z=NE) _).wr (fun _=>rfl) _) (fun z hz=>by omega)
  refine jk.intro (fun H'=>H'.own H2.size=some [i64 e.f,i64 e.t,i64 e.w]) q3 ?_
  refine vs ?_
  refine fk.intro (i64 e.t) (fun H' hI=>by refine v1 (ae hI) ?_;exact⟨trivial,trivial⟩) ?_
  refine vs ?_
  refine fk.intro (i64 e.t) (fun H' hI=>by refine v1 (ae hI) ?_;exact⟨trivial,trivial⟩) ?_
  refine vs ?_
  refine⟨⟨by omega,by omega⟩,?_⟩
  refine vs ?_
  have fl:ah H3 (H3.new 3 [i64 j]):=(ag.refl _ _).new _ _
  have ql:=fl.own q3 (fun h=>h)
  have Wa:=fl.own Le (fun h=>h)
  obtain⟨ra,rc,rfl,hrc⟩:=cE Ac
  refine Du.intro ?_ ?_
  ·refine v4 (ae Le) ane am9 wF ?_
   refine And.intro q3 ?_
   refine vs ?_
   refine And.intro (by first|exact ql|exact q3) ?_
   refine vs ?_
   refine Sl.append (Ac.ext fl (fun _ _ h=>h)) (Sl.bP (size:=1) (n:=1) (xs:=[i64 j]) rfl rfl).rd rfl (uq [(j:Int)]) (by omega) ?_
   intro v' H5 cJ s5 e5 fN
   obtain⟨k1,k2,k3,k4,k5⟩:=fin _ v' H5 cJ fl s5 e5 fN
   obtain⟨va,Us,rfl,_⟩:=cE s5
   refine And.intro k2 ?_
   refine vs ?_
   refine⟨⟨by omega,by omega⟩,?_⟩
   refine v3 k1 ane am9 ?_
   refine⟨by omega,?_⟩
   refine vs ?_
   refine And.intro (by first|exact k3|exact k2) ?_
   refine vs ?_
   rw[wrap64 (n:=(j:Int)+1) (by omega) (by omega)]
   exact⟨es.length - (j+1),by omega,k4,j+1,_,rfl,by omega,k5,rfl⟩
  ·refine vs ?_
   refine And.intro (by first|exact ql|exact q3) ?_
   refine v4 (ae Wa) ane am9 wF ?_
   refine And.intro (by first|exact ql|exact q3) ?_
   refine vs ?_
   refine Sl.append (Ac.ext fl (fun _ _ h=>h)) (Sl.bP (size:=1) (n:=1) (xs:=[i64 j]) rfl rfl).rd rfl (uq [(j:Int)]) (by omega) ?_
   intro v' H5 cJ s5 e5 fN
   obtain⟨k1,k2,k3,k4,k5⟩:=fin _ v' H5 cJ fl s5 e5 fN
   obtain⟨va,Us,rfl,_⟩:=cE s5
   refine And.intro k2 ?_
   refine vs ?_
   refine⟨⟨by omega,by omega⟩,?_⟩
   refine v3 k1 ane am9 ?_
   refine⟨by omega,?_⟩
   refine vs ?_
   refine And.intro (by first|exact k3|exact k2) ?_
   refine vs ?_
   rw[wrap64 (n:=(j:Int)+1) (by omega) (by omega)]
   exact⟨es.length - (j+1),by omega,k4,j+1,_,rfl,by omega,k5,rfl⟩
 ·have fF:j=es.length:=by omega
  subst fF
  rw[anJ]at Hf
  clear sl1 h2
  have J7:(fun v=>ba (qL v) 0 es++ba (qM v) 0 es)=fun v=>if v<0 then ba (qT v) 0 es else ba (qL v) 0 es++ba (qM v) 0 es:=by funext v;simp
  rw[J7]at Hf
  refine aT.intro (fun m env H'=>ah H H'∧∃ (k:Nat) (fp:Nat→Option Nat),m=n.toNat - k∧k≤n.toNat∧AG H' H0.size NE n.toNat (fun v=>if v<k then ba (qT v) 0 es else ba (qL v) 0 es++ba (qM v) 0 es) fp∧
   env=[(3,.slice (some ⟨NE,0,none⟩) n.toNat n.toNat),(38,.slice (some ⟨NE,0,none⟩) n.toNat n.toNat),(39,i64 n.toNat),(40,i64 k)]) n.toNat ⟨f2,0,_,by omega,by omega,Hf,rfl⟩ ?_
  clear Hf J7
  rintro m env H3 ⟨f3,k,fp3,hmk,hk,Ko,rfl⟩
  refine vs ?_
  refine ak.dec (fun aK=>?_) (fun aK=>?_)<;>refine vs ?_
  ·have yC:k<n.toNat:=by omega
   obtain⟨cN,sv,Le,yD,wF,Ac⟩:=Ko.get yC
   simp only[Nat.lt_irrefl,if_false]at Ac
   have afT:=n7 (qL k) es 0
   have aaQ:=n7 (qM k) es 0
   refine⟨⟨by omega,by omega⟩,?_⟩
   refine v5 (ae Le) Int.toNat_natCast ane am9 wF ?_
   refine(oG Ac (by rw[ank];omega)).mono ?_
   rintro _ H4 ⟨rfl,s4,e4⟩
   rw[NH]at s4
   have aV:(ba (qT k) 0 es).length=(ba (qL k) 0 es++ba (qM k) 0 es).length:=by rw[←NH,lQ]
   rw[←aV]at s4
   have Ur:=Ko.rA yC Le wF e4 s4
   have cH:GG (fun v=>if v<k then ba (qT v) 0 es else ba (qL v) 0 es++ba (qM v) 0 es) k (ba (qT k) 0 es)=fun v=>if v<k+1 then ba (qT v) 0 es else ba (qL v) 0 es++ba (qM v) 0 es:=by
    funext v
    unfold GG
    by_cases h1:v=k
    ·subst h1;rw[if_pos rfl,if_pos (by omega)]
    ·rw[if_neg h1]
     show(if v<k then ba (qT v) 0 es else ba (qL v) 0 es++ba (qM v) 0 es)=_
     by_cases h2:v<k
     ·rw[if_pos h2,if_pos (by omega)]
     ·rw[if_neg h2,if_neg (by omega)]
   rw[cH]at Ur
   refine vs ?_
   rw[wrap64 (n:=(k:Int)+1) (by omega) (by omega)]
   exact⟨n.toNat - (k+1),by omega,f3.then e4 (fun z hz=>by have:=(Ko.low k yC z hz).1;omega),k+1,fp3,rfl,by omega,Ur,rfl⟩
  ·have yC:k=n.toNat:=by omega
   subst yC
   obtain⟨cN,g1,g2,g3⟩:=Ko.Sv
   refine⟨f3,.inr ⟨hR,NE,fp3,rfl,⟨⟨cN,g1,g2,fun i hi=>?_⟩,by omega,fun i hi p hp=>⟨by have:=(Ko.low i hi p hp).1;omega,(Ko.low i hi p hp).2⟩,Ko.apart⟩⟩⟩
   obtain⟨sv,g4,g5⟩:=g3 i hi
   rw[if_pos hi]at g5
   exact⟨sv,g4,g5⟩
def kD(l:List (Int×Nat)):List Value:=l.flatMap fun y=>[i64 y.1,.int .u32 (y.2:Int)]
theorem Hs(l:List (Int×Nat)):(kD l).length=l.length*2:=by
 induction l with
 |nil=>rfl
 |cons c r ih=>simp only[kD,aoR,ank,anw,aoi]at*;omega
theorem Rn{l:List (Int×Nat)}{i:Nat}{y:Int×Nat}(h:l[i]? =some y):(kD l)[i*2]? =some (i64 y.1)∧(kD l)[i*2+1]? =some (.int .u32 (y.2:Int))∧((kD l).drop (i*2)).take 2=[i64 y.1,.int .u32 (y.2:Int)]:=by
 induction l generalizing i with
 |nil=>simp at h
 |cons a r ih=>
  have e:kD (a::r)=i64 a.1:: .int .u32 (a.2:Int)::kD r:=rfl
  rw[e]
  cases i with
  |zero=>simp at h;subst h;exact⟨rfl,rfl,rfl⟩
  |succ i=>
   have:=ih (by simpa using h)
   rw[show(i+1)*2=i*2+2 by omega]
   exact this
theorem O1{l:List (Int×Nat)}{i:Nat}{y:Int×Nat}(h:i<l.length):((kD l).set (i*2) (i64 y.1)).set (i*2+1) (.int .u32 (y.2:Int))=kD (l.set i y):=by
 induction l generalizing i with
 |nil=>simp at h
 |cons a r ih=>
  have e:kD (a::r)=i64 a.1:: .int .u32 (a.2:Int)::kD r:=rfl
  cases i with
  |zero=>rfl
  |succ i=>
   have:=ih (i:=i) (by simpa using h)
   have e2:kD ((a::r).set (i+1) y)=i64 a.1:: .int .u32 (a.2:Int)::kD (r.set i y):=rfl
   rw[e,e2,←this,show(i+1)*2=i*2+1+1 by omega]
   simp only[anV]
structure MB where
 x:Nat
 b1:Nat
 b2:Nat
 b3:Nat
 mp:Nat
 s:Nat
def MB.row(B:MB)(z:Nat):Prop:=z=B.b1∨z=B.b2∨z=B.b3∨z=B.mp
structure ut(H:Hp)(B:MB)(lo n:Nat)(gs ov:Value)(S:Nat→Prop)(w:Nw)(A:Ar)(q:Int)(L:List ((Int×Nat)×Value))(sl:List Nat)(bl:List Int)(hl:List (Int×Nat)):Prop where
 o:H.own B.x=some [i64 n,gs,ptr B.s,.slice (some ⟨B.b1,0,none⟩) n n,.slice (some ⟨B.b2,0,none⟩) n n,.slice (some ⟨B.b3,0,none⟩) n n,.map (some B.mp),ov]
 o1:H.own B.b1=some (sl.map fun k:Nat=>i64 k)
 o2:H.own B.b2=some (bl.map i64)
 o3:H.own B.b3=some (kD hl)
 m:vV H B.mp L
 st:Cn H B.s S w A q
 ns:¬S B.x∧¬S B.b1∧¬S B.b2∧¬S B.b3∧¬S B.mp
 ne:B.x≠B.b1∧B.x≠B.b2∧B.x≠B.b3∧B.x≠B.mp∧B.b1≠B.b2∧B.b1≠B.b3∧B.b1≠B.mp∧B.b2≠B.b3∧B.b2≠B.mp∧B.b3≠B.mp
 low:(∀z,S z→lo≤z)∧lo≤B.x∧lo≤B.b1∧lo≤B.b2∧lo≤B.b3∧lo≤B.mp
section
variable {H H' : Hp} {B : MB} {lo n : Nat} {gs ov : Value} {S S' T : Nat → Prop} {w w' : Nw} {A A' : Ar} {q q' : Int} {L L' : List ((Int × Nat) × Value)} {sl : List Nat} {bl : List Int} {hl : List (Int × Nat)}
theorem ut.ext(h:ut H B lo n gs ov S w A q L sl bl hl)(e:ag T H H')(hd:∀z,S z∨z=B.x∨B.row z→¬T z):ut H' B lo n gs ov S w A q L sl bl hl:=
 ⟨e.own h.o (hd _ (.inr (.inl rfl))),e.own h.o1 (hd _ (.inr (.inr (.inl rfl)))),e.own h.o2 (hd _ (.inr (.inr (.inr (.inl rfl))))),e.own h.o3 (hd _ (.inr (.inr (.inr (.inr (.inl rfl)))))),h.m.ext e (hd _ (.inr (.inr (.inr (.inr (.inr rfl)))))),h.st.ext e (fun z hz=>hd z (.inl hz)),h.ns,h.ne,h.low⟩
theorem ut.fresh(h:ut H B lo n gs ov S w A q L sl bl hl)(e:ah H H'):ut H' B lo n gs ov S w A q L sl bl hl:=h.ext e (fun _ _ h=>h)
theorem ut.lt(h:ut H B lo n gs ov S w A q L sl bl hl):∀z,S z∨z=B.x∨B.row z→z<H.size:=by
 rintro z (hz|rfl|rfl|rfl|rfl|rfl)
 ·exact h.st.slt z hz
 ·exact az h.o
 ·exact az h.o1
 ·exact az h.o2
 ·exact az h.o3
 ·exact h.m.lt
theorem ut.ge(h:ut H B lo n gs ov S w A q L sl bl hl):∀z,S z∨z=B.x∨B.row z→lo≤z:=by
 obtain⟨g,g1,g2,g3,g4,g5⟩:=h.low
 rintro z (hz|rfl|rfl|rfl|rfl|rfl)
 ·exact g z hz
 all_goals assumption
theorem ut.to(h:ut H B lo n gs ov S w A q L sl bl hl)(st:Cn H' B.s S' w' A' q')(e:ag S H H')(hs:∀z,S' z→S z∨H.size≤z):ut H' B lo n gs ov S' w' A' q' L sl bl hl:=by
 have aK:=h.lt
 have hn:∀z,¬S z→z<H.size→¬S' z:=fun z h1 h2 h3=>by rcases hs z h3 with h|h;exact h1 h;omega
 obtain⟨n0,n1,n2,n3,n4⟩:=h.ns
 have hx:=aK B.x (.inr (.inl rfl))
 refine⟨e.own h.o n0,e.own h.o1 n1,e.own h.o2 n2,e.own h.o3 n3,h.m.ext e n4,st,⟨hn _ n0 hx,hn _ n1 (az h.o1),hn _ n2 (az h.o2),hn _ n3 (az h.o3),hn _ n4 h.m.lt⟩,h.ne,fun z hz=>?_,h.low.2⟩
 have:=h.low.2.1
 rcases hs z hz with h1|h1
 ·exact h.low.1 z h1
 ·omega
theorem ut.sW(h:ut H B lo n gs ov S w A q L sl bl hl)(u v:Nat){l:List Value}(hv:l=(sl.map fun k:Nat=>i64 k).set u (i64 v)):ut (H.wr B.b1 l) B lo n gs ov S w A q L (sl.set u v) bl hl∧ag (fun z=>z=B.b1) H (H.wr B.b1 l):=by
 obtain⟨e,o⟩:=J6 h.o1 l
 have hn:=h.ne
 obtain⟨n0,n1,n2,n3,n4⟩:=h.ns
 refine⟨⟨e.own h.o (by omega),?_,e.own h.o2 (by omega),e.own h.o3 (by omega),h.m.ext e (by omega),h.st.ext e (fun z hz e=>n1 (by rw[←e];exact hz)),h.ns,h.ne,h.low⟩,e⟩
 rw[o,hv,anY]
theorem ut.aaR(h:ut H B lo n gs ov S w A q L sl bl hl)(u:Nat)(v:Int){l:List Value}(hv:l=(bl.map i64).set u (i64 v)):ut (H.wr B.b2 l) B lo n gs ov S w A q L sl (bl.set u v) hl∧ag (fun z=>z=B.b2) H (H.wr B.b2 l):=by
 obtain⟨e,o⟩:=J6 h.o2 l
 have hn:=h.ne
 obtain⟨n0,n1,n2,n3,n4⟩:=h.ns
 refine⟨⟨e.own h.o (by omega),e.own h.o1 (by omega),?_,e.own h.o3 (by omega),h.m.ext e (by omega),h.st.ext e (fun z hz e=>n2 (by rw[←e];exact hz)),h.ns,h.ne,h.low⟩,e⟩
 rw[o,hv,anY]
theorem ut.afU(h:ut H B lo n gs ov S w A q L sl bl hl)(u:Nat)(v:Int×Nat){l:List Value}(hv:l=kD (hl.set u v)):ut (H.wr B.b3 l) B lo n gs ov S w A q L sl bl (hl.set u v)∧ag (fun z=>z=B.b3) H (H.wr B.b3 l):=by
 obtain⟨e,o⟩:=J6 h.o3 l
 have hn:=h.ne
 obtain⟨n0,n1,n2,n3,n4⟩:=h.ns
 refine⟨⟨e.own h.o (by omega),e.own h.o1 (by omega),e.own h.o2 (by omega),?_,h.m.ext e (by omega),h.st.ext e (fun z hz e=>n3 (by rw[←e];exact hz)),h.ns,h.ne,h.low⟩,e⟩
 rw[o,hv]
theorem ut.put(h:ut H B lo n gs ov S w A q L sl bl hl)(hm:vV H' B.mp L')(e:ag (fun z=>z=B.mp) H H'):ut H' B lo n gs ov S w A q L' sl bl hl:=by
 have hn:=h.ne
 obtain⟨n0,n1,n2,n3,n4⟩:=h.ns
 exact⟨e.own h.o (by omega),e.own h.o1 (by omega),e.own h.o2 (by omega),e.own h.o3 (by omega),hm,h.st.ext e (fun z hz e=>n4 (by rw[←e];exact hz)),h.ns,h.ne,h.low⟩
end
end Go.Proofs.YtjlnnljohemifaaGreat

namespace Go.Proofs.YtjlnnljohemifaaGreat
open Go Go.Vc
theorem Tr{α:Type}{l:List α}{i:Nat}{x:α}(h:l[i]? =some x):l.set i x=l:=by
 apply an5
 intro j
 by_cases e:i=j
 ·subst e
  rw[jG h,h]
 ·rw[dF e]
section
variable {H : Hp} {B : MB} {lo n : Nat} {ov : Value} {S : Nat → Prop} {w : Nw} {A : Ar} {L : List ((Int × Nat) × Value)} {sl : List Nat} {bl : List Int} {hl : List (Int × Nat)} {a : Option Addr} {c : Nat} {es : List Ed}
theorem qv(m:ut H B lo n (.slice a es.length c) ov S w A (L.length:Int) L sl bl hl)(g:vX es n w A L sl bl hl)(hn:n≤4096)(hr:cI H 3 (.slice a es.length c) es.length (dM es)){u:Nat}(hu:u<n){i:Nat}{e:Ed}(he:es[i]? =some e)(T7:es.length≤1000000000)
  (ZR:sl[u]? =some 1→Km es (bl.getD u 0)):
  af Tryz.prog uI [ptr B.x,i64 u,i64 i] H fun v H'=>ar (v= .tuple [].toArray∧∃S' w' A' L' Hk Hl Dy,ut H' B lo n (.slice a es.length c) ov S' w' A' (L'.length:Int) L' Hk Hl Dy∧vX es n w' A' L' Hk Hl Dy∧aag es sl bl u i Hk Hl∧ag (fun z=>S z∨B.row z) H H'∧∀z,S' z→S z∨H.size≤z):=by
 have oF:=(ana.1 he).1
 obtain⟨_,be,oe,le,rfl,eG,mJ,ef,jQ,ue,qJ⟩:=cI.nF hr he
 have RT:wE es (i:Int)=e.w:=tD he
 obtain⟨k,hk⟩:∃k,sl[u]? =some k:=⟨_,am8 (by rw[g.l1];exact hu)⟩
 obtain⟨bu,hbu⟩:∃k,bl[u]? =some k:=⟨_,am8 (by rw[g.l2];exact hu)⟩
 obtain⟨hh,hhu⟩:∃k,hl[u]? =some k:=⟨_,am8 (by rw[g.l3];exact hu)⟩
 have yC:=g.two k (ang hk)
 have ck:(sl.map fun k:Nat=>i64 k)[u]? =some (i64 k):=by rw[anA,hk];rfl
 have cb:(bl.map i64)[u]? =some (i64 bu):=by rw[anA,hbu];rfl
 have SD:bl.getD u 0=bu:=by rw[anf,hbu];rfl
 have qP:=g.l1
 have nj:=g.l2
 have Qw:=g.l3
 refine aP vf ?_
 refine v1 (ae m.o) ?_
 refine⟨⟨by omega,by omega⟩,?_⟩
 refine v4 eG Int.toNat_natCast qJ (ae m.o) ?_
 refine⟨⟨by omega,by omega⟩,?_⟩
 refine v5 (ae m.o1) Int.toNat_natCast ane am9 ck ?_
 refine ak.dec (fun h2=>?_) (fun h2=>?_)<;>refine vs ?_
 ·have h2:k=2:=by omega
  subst h2
  exact⟨rfl,S,w,A,L,sl,bl,hl,m,g,.inl ⟨rfl,rfl,.inl hk⟩,ag.refl _ _,fun z hz=>.inl hz⟩
 refine v1 (ae m.o) ?_
 refine⟨⟨by omega,by omega⟩,?_⟩
 refine v5 (ae m.o1) Int.toNat_natCast ane am9 ck ?_
 refine ak.dec (fun h0=>?_) (fun h0=>?_)<;>refine v1 (ae m.o) ?_
 ·have h0:k=0:=by omega
  subst h0
  refine(Ew m.st g.hs (fun x x0 _=>by have:=g.Wb x0;omega) (by have:=g.aO;omega)).mono ?_
  rintro _ H1 (⟨bJ,_⟩| ⟨x,A',X1,rfl,S1,RW,e1,et⟩)
  ·exact absurd bJ (g.room hk)
  obtain⟨qt,hG⟩:=g.put X1 hk (i:Int) ((L.length:Int)+1)
  obtain⟨hx,_⟩:=Ar.uj X1 g.ok
  rw[RT]at hG
  have m1:=m.to RW e1 et
  have J7:=e1.size
  refine vs ?_
  obtain⟨f2,b2,z2⟩:=LY H1 114 [Value.int .i64 0,Value.int .u32 0] [i64 x,Value.int .u32 ((A.bq x+1:Nat):Int)]
  generalize hhb:H1.size=hb at*
  generalize (H1.new 114 [Value.int .i64 0,Value.int .u32 0]).wr hb [i64 x,Value.int .u32 ((A.bq x+1:Nat):Int)]=H2 at*
  have m2:=m1.fresh f2
  refine jk.intro (fun H'=>H'.own B.x=some [i64 n,.slice (some ⟨be,oe,none⟩) es.length c,ptr B.s,.slice (some ⟨B.b1,0,none⟩) n n,.slice (some ⟨B.b2,0,none⟩) n n,.slice (some ⟨B.b3,0,none⟩) n n,.map (some B.mp),ov]∧H'.own hb=some [i64 x,Value.int .u32 ((A.bq x+1:Nat):Int)]) ⟨m2.o,b2⟩ ?_
  refine vs ?_
  refine fk.intro (.slice (some ⟨B.b1,0,none⟩) n n) (fun H' hI=>by refine v1 (ae hI.1) ?_;exact⟨trivial,trivial⟩) ?_
  refine vs ?_
  refine fk.intro (.slice (some ⟨B.b2,0,none⟩) n n) (fun H' hI=>by refine v1 (ae hI.1) ?_;exact⟨trivial,trivial⟩) ?_
  refine vs ?_
  refine fk.intro (.slice (some ⟨B.b3,0,none⟩) n n) (fun H' hI=>by refine v1 (ae hI.1) ?_;exact⟨trivial,trivial⟩) ?_
  refine vs ?_
  refine fk.intro (fW x (A.bq x+1)) (fun H' hI=>by refine v1 (ae hI.2) ?_;exact⟨trivial,trivial⟩) ?_
  refine vs ?_
  refine⟨⟨by omega,by omega⟩,?_⟩
  refine v4 m2.o1 Int.toNat_natCast ane am9 ?_
  refine⟨by rw[anz];omega,?_⟩
  refine vs ?_
  obtain⟨m3,e3⟩:=m2.sW u 1 (l:=(sl.map fun k:Nat=>i64 k).set u (i64 1)) rfl
  have Ts:=m1.lt
  have aM:hb≠B.b1∧hb≠B.b2∧hb≠B.b3∧hb≠B.mp:=by
   have h1:=Ts B.b1 (by simp[MB.row])
   have h2:=Ts B.b2 (by simp[MB.row])
   have h3:=Ts B.b3 (by simp[MB.row])
   have h4:=Ts B.mp (by simp[MB.row])
   omega
  have b3:=e3.own b2 aM.1
  generalize H2.wr B.b1 ((sl.map fun k:Nat=>i64 k).set u (i64 1))=H3 at*
  refine And.intro ⟨m3.o,b3⟩ ?_
  refine vs ?_
  refine⟨⟨by omega,by omega⟩,?_⟩
  refine v4 m3.o2 Int.toNat_natCast ane am9 ?_
  refine⟨by rw[anz];omega,?_⟩
  refine vs ?_
  obtain⟨m4,e4⟩:=m3.aaR u (i:Int) rfl
  have b4:=e4.own b3 aM.2.1
  generalize H3.wr B.b2 ((bl.map i64).set u (i64 i))=H4 at*
  refine And.intro ⟨m4.o,b3⟩ ?_
  refine vs ?_
  refine⟨⟨by omega,by omega⟩,?_⟩
  refine v3 m4.o3 Int.toNat_natCast am9 ?_
  refine⟨by rw[Hs];omega,?_⟩
  refine vs ?_
  obtain⟨m5,e5⟩:=m4.afU u (x,A.bq x+1) (O1 (by omega))
  have b5:=e5.own b4 aM.2.2.1
  simp only at m5 e5 b5
  generalize H4.wr B.b3 (((kD hl).set (u*2) (i64 x)).set (u*2+1) (.int .u32 ((A.bq x+1:Nat):Int)))=H5 at*
  refine And.intro ⟨m5.o,b4⟩ ?_
  refine v2 (ae m5.o) (ae b5) ?_
  refine⟨Hi _ _,?_⟩
  refine vV.XV m5.m (a:=(x,A.bq x+1)) qt fun H6 mp6 e6=>?_
  refine vs ?_
  have m6:=m5.put mp6 e6
  have el:((L++[((x,A.bq x+1),i64 (u:Int))]).length:Int)=(L.length:Int)+1:=by rw[ank];rfl
  refine⟨rfl,S1,_,_,_,_,_,_,?_,hG,.inr ⟨rfl,rfl,.inl hk⟩,?_,et⟩
  ·rw[el];exact m6
  ·have t1:ag (fun z=>S z∨B.row z) H H2:=(e1.mono fun z _ h=>.inl h).trans (f2.mono fun z _ h=>h.elim)
   exact(((t1.trans (e3.mono fun z _ h=>.inr (.inl h))).trans (e4.mono fun z _ h=>.inr (.inr (.inl h)))).trans (e5.mono fun z _ h=>.inr (.inr (.inr (.inl h))))).trans (e6.mono fun z _ h=>.inr (.inr (.inr (.inr h))))
 have h1:k=1:=by omega
 subst h1
 have bE:=ZR hk
 rw[SD]at bE
 obtain⟨j,e',hj,im,XS⟩:=bE.get
 subst hj
 obtain⟨_,be',oe',le',Tp,ET,_,_,hd0,NU,iA⟩:=cI.nF hr im
 injection Tp with Tp
 injection Tp with JV nA
 subst JV nA
 rw[eG]at ET
 injection ET with ET
 subst ET
 have SC:wE es (j:Int)=e'.w:=tD im
 refine⟨⟨by omega,by omega⟩,?_⟩
 refine v5 (ae m.o2) Int.toNat_natCast ane am9 cb ?_
 refine⟨⟨by omega,by omega⟩,?_⟩
 refine v3 eG Int.toNat_natCast iA ?_
 refine ak.dec (fun aK=>?_) (fun aK=>?_)<;>refine vs ?_
 rotate_left
 ·exact⟨rfl,S,w,A,L,sl,bl,hl,m,g,.inl ⟨rfl,rfl,.inr ⟨hk,by rw[SD,RT,SC];omega⟩⟩,ag.refl _ _,fun z hz=>.inl hz⟩
 obtain⟨x,s,x0,q1,q2,q3⟩:=g.c2 u hk
 rw[hhu]at q1
 injection q1 with q1
 subst q1
 obtain⟨k1,k2,k3⟩:=Rn hhu
 simp only at k1 k2 k3
 have ju:A.live x:=(g.lk.live x).1 ⟨x0,_,q2,by simp⟩
 refine v1 (ae m.o) ?_
 refine⟨⟨by omega,by omega⟩,?_⟩
 refine v3 (ae m.o3) Int.toNat_natCast am9 ?_
 refine⟨by rw[Hs];omega,?_⟩
 refine v1 k3 ?_
 refine(vW m.st ju e.w).mono ?_
 rintro _ H1 ⟨y,hy,⟨bJ,_⟩| ⟨_,rfl,S1,RW,e1,et⟩⟩
 ·rw[q2]at hy
  injection hy with hy
  subst hy
  rw[SD,SC]at bJ
  simp only at bJ
  omega
 have hG:=g.lower hk x0 hhu hy (i:Int)
 rw[RT]at hG
 have m1:=m.to RW e1 et
 refine v1 (ae m1.o) ?_
 refine⟨⟨by omega,by omega⟩,?_⟩
 refine v4 m1.o2 Int.toNat_natCast ane am9 ?_
 refine⟨by rw[anz];omega,?_⟩
 refine vs ?_
 obtain⟨m2,e2⟩:=m1.aaR u (i:Int) rfl
 rw[q2]at hy
 injection hy with hy
 subst hy
 exact⟨rfl,S1,_,A,L,sl,_,hl,m2,hG,.inr ⟨(Tr hk).symm,rfl,.inr ⟨hk,by rw[SD,RT,SC];omega⟩⟩,(e1.mono fun z _ h=>.inl h).trans (e2.mono fun z _ h=>.inr (.inr (.inl h))),et⟩
end
end Go.Proofs.YtjlnnljohemifaaGreat

namespace Go.Proofs.YtjlnnljohemifaaGreat
open Go Go.Vc
section
variable {Hh H : Hp} {B : MB} {lo n : Nat} {ov : Value} {S : Nat → Prop} {w : Nw} {A : Ar} {L : List ((Int × Nat) × Value)} {sl : List Nat} {bl : List Int} {hl : List (Int × Nat)} {a : Option Addr} {c : Nat} {es : List Ed}
theorem jc(m:ut H B lo n (.slice a es.length c) ov S w A (L.length:Int) L sl bl hl)(rq:eR (n:Int) es)(hr:cI Hh 3 (.slice a es.length c) es.length (dM es))(fH:ah Hh H)(If:Hh.size≤lo)
  {v:Nat}(hv:v<n)(g:vX es n w A L (sl.set v 2) bl hl){tB tb:Nat}{fp:Nat→Option Nat}(t:AG H tB tb n (fun v=>ba (qT v) 0 es) fp)(ht:∀z,(z=tb∨∃i,i<n∧fp i=some z)→¬ (S z∨z=B.x∨B.row z))
  {D:Nat→Prop}{o:List Nat}{k:Nat→Int}{T:List Int}(gs:Mr es D o k T (sl.set v 2) bl (ba (qT v) 0 es))(iP:o[o.length - 1]? =some v):
  af Tryz.prog uH [ptr B.x,i64 v,.slice (some ⟨tb,0,none⟩) n n] H fun r H'=>ar (r= .tuple [].toArray∧∃S' w' A' L' Hk Hl Dy,ut H' B lo n (.slice a es.length c) ov S' w' A' (L'.length:Int) L' Hk Hl Dy∧vX es n w' A' L' Hk Hl Dy∧Mr es D o k T Hk Hl []∧ag (fun z=>S z∨B.row z) H H'∧∀z,S' z→S z∨H.size≤z):=by
 have uF:n≤4096:=by have:=rq.n1;omega
 have T7:=rq.len
 have yD:sl.length=n:=by have:=g.l1;rw[anb]at this;exact this
 refine aP ve ?_
 refine v1 (ae m.o) ?_
 refine⟨⟨by omega,by omega⟩,?_⟩
 refine v4 m.o1 Int.toNat_natCast ane am9 ?_
 refine⟨by rw[anz];omega,?_⟩
 refine vs ?_
 obtain⟨m1,e1⟩:=m.sW v 2 (l:=(sl.map fun k:Nat=>i64 k).set v (i64 2)) rfl
 generalize H.wr B.b1 ((sl.map fun k:Nat=>i64 k).set v (i64 2))=H1 at*
 have aK:=m.lt
 have M7:=m.ge
 have x1:ag (fun z=>S z∨B.row z) H H1:=e1.mono fun z _ h=>.inr (.inl h)
 obtain⟨cN,sv,Gv,ald,wF,Ac⟩:=t.get hv
 have ho:=x1.own Gv (fun h=>ht tb (.inl rfl) (h.imp_right .inr))
 refine⟨⟨by omega,by omega⟩,?_⟩
 refine v5 (ae ho) Int.toNat_natCast ane am9 wF ?_
 obtain⟨ra,rc,rfl,hrc⟩:=cE Ac
 have hql:=n7 (qT v) es 0
 refine vs ?_
 obtain⟨row,IG⟩:∃row,row=ba (qT v) 0 es:=⟨_,rfl⟩
 rw[←IG]at Ac gs hql ⊢
 have hP:∀z,fp v=some z→¬ (S z∨z=B.x∨B.row z):=fun z hz=>ht z (.inr ⟨v,hv,hz⟩)
 refine aT.intro (fun mm env H'=>∃ (j:Nat) (S':Nat→Prop) (w':Nw) (A':Ar) (L':List ((Int×Nat)×Value)) (Hk:List Nat) (Hl:List Int) (Dy:List (Int×Nat)),mm=row.length - j∧j≤row.length∧ut H' B lo n (.slice a es.length c) ov S' w' A' (L'.length:Int) L' Hk Hl Dy∧vX es n w' A' L' Hk Hl Dy∧Mr es D o k T Hk Hl (row.drop j)∧ag (fun z=>S z∨B.row z) H H'∧(∀z,S' z→S z∨H.size≤z)∧
  env=[(0,ptr B.x),(1,i64 v),(18,.slice ra row.length rc),(19,i64 row.length),(20,i64 j)]) row.length ⟨0,S,w,A,L,sl.set v 2,bl,hl,rfl,aoY _,m1,g,gs,x1,fun z hz=>.inl hz,rfl⟩ ?_
 clear m1 e1 x1 ho wF gs g
 rintro mm env H2 ⟨j,S2,w2,A2,L2,Hf,bl2,nj,rfl,hj,m2,g2,gs2,x2,I3,rfl⟩
 have dE:=x2.size
 have fH2:ah Hh H2:=fH.then x2 (fun z hz=>by have:=M7 z (hz.imp_right .inr);omega)
 refine vs ?_
 refine ak.dec (fun yf=>?_) (fun yf=>?_)<;>refine vs ?_
 rotate_left
 ·have fF:j=row.length:=by omega
  subst fF
  rw[List.drop_length]at gs2
  exact⟨rfl,S2,w2,A2,L2,Hf,bl2,nj,m2,g2,gs2,x2,I3⟩
 have fF:j<row.length:=by omega
 obtain⟨ii,hii⟩:∃x,row[j]? =some x:=⟨_,am8 fF⟩
 have bF:ii∈ba (qT v) 0 es:=by rw[←IG];exact ang hii
 have cR:=Wc bF
 have WN:=(Ad rq cR).2 bF
 obtain⟨i,e,rfl,he,oF⟩:=(ja.1 cR).get
 have aaT:=Ac.ext x2 (fun z hz h=>hP z hz (h.imp_right .inr))
 obtain⟨_,rb,ro,rl,rfl,afX,afY⟩:=cI.num aaT.rd hii
 refine⟨⟨by omega,by omega⟩,?_⟩
 refine v5 afX Int.toNat_natCast ane afY (ae m2.o) ?_
 have r2:=hr.fresh fH2
 obtain⟨_,be,oe,le,rfl,eG,mJ,ef,jQ,ue,qJ⟩:=cI.nF r2 he
 obtain⟨ef0,ef1,et0,et1⟩:=rq.ends e (ang he)
 refine⟨⟨by omega,by omega⟩,?_⟩
 simp(disch:=(first|omega| (simp only[Zs]<;>omega)|fail)) only[go_sem, ↓reduceIte,Zv,eG,Int.toNat_natCast,ef,ed]
 refine⟨by omega,?_⟩
 simp(disch:=(first|omega| (simp only[Zs]<;>omega)|fail)) only[go_sem, ↓reduceIte,Zv,ef,ed]
 obtain⟨f3,b3,z3⟩:=LY H2 61 [i64 0,i64 0,i64 0] [i64 e.f,i64 e.t,i64 e.w]
 generalize Fv:H2.size=cb at*
 generalize (H2.new 61 [i64 0,i64 0,i64 0]).wr cb [i64 e.f,i64 e.t,i64 e.w]=H3 at*
 have m3:=m2.fresh f3
 refine v1 (ae b3) ?_
 rw[Ab he]at WN
 have hu:((e.f.toNat+e.t.toNat - v:Nat):Int)=e.f+e.t - v∧e.f.toNat+e.t.toNat - v<n:=by
  unfold Touch at WN
  simp only at WN
  omega
 have hou:e.f.toNat+e.t.toNat - v=other (fE es (i:Int)) v:=by rw[Ab he];rfl
 rw[wrap64 (n:=e.f+e.t) (by omega) (by omega),←hu.1,wrap64 (by omega) (by omega)]
 generalize e.f.toNat+e.t.toNat - v=u at*
 have oL:row.drop j=(i:Int)::row.drop (j+1):=by
  rw[aom fF]
  congr 1
  rw[am8 fF]at hii
  injection hii
 rw[oL]at gs2
 refine(qv m3 g2 uF (r2.fresh f3) hu.2 he (by omega) (fun hw=>?_)).mono ?_
 ·obtain⟨_,_,_,hb,_⟩:=gs2.P.wait u hw
  exact ja.1 hb
 rintro _ H4 ⟨rfl,S4,w4,A4,L4,Ur,bl4,SY,m4,g4,off,e4,Vz⟩
 refine vs ?_
 rw[wrap64 (n:=(j:Int)+1) (by omega) (by omega)]
 have gs4:=gs2.offer iP cR ((Ad rq cR).2 bF) hou (by rw[g2.l2];exact hu.2) off
 have VD:=e4.size
 have Ld:=f3.size
 refine⟨row.length - (j+1),by omega,j+1,S4,w4,A4,L4,Ur,bl4,SY,rfl,by omega,m4,g4,gs4,⟨by omega,fun z hz hn=>?_⟩,fun z hz=>?_,rfl⟩
 ·rw[e4.aI z (by omega) (fun h=>?_),f3.aI z (by omega) (fun h=>h),x2.aI z hz hn]
  rcases h with h|h
  ·rcases I3 z h with h|h
   ·exact hn (.inl h)
   ·omega
  ·exact hn (.inr h)
 ·rcases Vz z hz with h|h
  ·exact I3 z h
  ·exact .inr (by omega)
end
end Go.Proofs.YtjlnnljohemifaaGreat

namespace Go.Proofs.YtjlnnljohemifaaGreat
open Go Go.Vc
structure FE(H:Hp)(B:MB)(lo N:Nat)(gs:Value)(es:List Ed)(tB tb:Nat)(fp:Nat→Option Nat)(S:Nat→Prop)(w:Nw)(A:Ar)(L:List ((Int×Nat)×Value))(sl:List Nat)(bl:List Int)(hl:List (Int×Nat))(T:List Int)(ov:Value)(Dp:Option Nat):Prop where
 m:ut H B lo N gs ov S w A (L.length:Int) L sl bl hl
 t:AG H tB tb N (fun v=>ba (qT v) 0 es) fp
 td:∀z,(z=tb∨∃i,i<N∧fp i=some z)→¬ (S z∨z=B.x∨B.row z)
 os:Sl H 1 ov T.length (T.map i64) Dp
 od:∀b,Dp=some b→lo≤b∧¬ (S b∨b=B.x∨B.row b)∧¬ (b=tb∨∃i,i<N∧fp i=some b)
section
variable {H H' : Hp} {B : MB} {lo N : Nat} {gs : Value} {es : List Ed} {tB tb : Nat} {fp : Nat → Option Nat} {S S' : Nat → Prop} {w w' : Nw} {A A' : Ar} {L L' : List ((Int × Nat) × Value)} {sl Hk : List Nat} {bl Hl : List Int} {hl Dy : List (Int × Nat)} {T : List Int} {ov Ys : Value} {Dp : Option Nat}
theorem FE.tlt(p:FE H B lo N gs es tB tb fp S w A L sl bl hl T ov Dp):∀z,(z=tb∨∃i,i<N∧fp i=some z)→z<H.size:=by
 rintro z (rfl| ⟨i,hi,hp⟩)
 ·exact p.t.lt
 ·obtain⟨_,_,_,_,_,s0⟩:=p.t.get hi
  rw[hp]at s0
  exact Sl.lt s0
theorem FE.olt(p:FE H B lo N gs es tB tb fp S w A L sl bl hl T ov Dp):∀b,Dp=some b→b<H.size:=fun b hb=>by
 have:=p.os
 rw[hb]at this
 exact Sl.lt this
theorem FE.go(p:FE H B lo N gs es tB tb fp S w A L sl bl hl T ov Dp)(m':ut H' B lo N gs ov S' w' A' (L'.length:Int) L' Hk Hl Dy)(e:ag (fun z=>S z∨B.row z) H H')(hs:∀z,S' z→S z∨H.size≤z):FE H' B lo N gs es tB tb fp S' w' A' L' Hk Hl Dy T ov Dp:=by
 have h1:=p.tlt
 have h2:=p.olt
 have imp:∀z,z<H.size→(S' z∨z=B.x∨B.row z)→(S z∨z=B.x∨B.row z):=fun z hz h=>by
  rcases h with h|h
  ·rcases hs z h with h|h
   ·exact .inl h
   ·omega
  ·exact .inr h
 refine⟨m',p.t.ext e (fun h=>p.td tb (.inl rfl) (h.imp_right .inr)) (fun i q hi hq h=>p.td q (.inr ⟨i,hi,hq⟩) (h.imp_right .inr)),fun z hz h=>p.td z hz (imp z (h1 z hz) h),p.os.ext e (fun b hb h=>(p.od b hb).2.1 (h.imp_right .inr)),fun b hb=>⟨(p.od b hb).1,fun h=>(p.od b hb).2.1 (imp b (h2 b hb) h),(p.od b hb).2.2⟩⟩
theorem FE.fresh(p:FE H B lo N gs es tB tb fp S w A L sl bl hl T ov Dp)(e:ah H H'):FE H' B lo N gs es tB tb fp S w A L sl bl hl T ov Dp:=
 p.go (p.m.fresh e) (e.mono fun _ _ h=>h.elim) (fun z hz=>.inl hz)
theorem FE.to(p:FE H B lo N gs es tB tb fp S w A L sl bl hl T ov Dp)(st:Cn H' B.s S' w' A' (L.length:Int))(e:ag S H H')(hs:∀z,S' z→S z∨H.size≤z):FE H' B lo N gs es tB tb fp S' w' A' L sl bl hl T ov Dp:=
 p.go (p.m.to st e hs) (e.mono fun z _ h=>.inl h) hs
theorem FE.push{H1 H2 H3:Hp}{cJ:Option Nat}{x:Int}(p:FE H B lo N gs es tB tb fp S w A L sl bl hl T ov Dp)(f:ah H H1)(s:Sl H2 1 Ys (T.length+1) (T.map i64++[i64 x]) cJ)(e:ag (fun z=>Dp=some z) H1 H2)(hf:cJ=Dp∨∃b,cJ=some b∧H1.size≤b∧b<H2.size)
  (h3:H3=H2.wr B.x [i64 N,gs,ptr B.s,.slice (some ⟨B.b1,0,none⟩) N N,.slice (some ⟨B.b2,0,none⟩) N N,.slice (some ⟨B.b3,0,none⟩) N N,.map (some B.mp),Ys]):FE H3 B lo N gs es tB tb fp S w A L sl bl hl (T++[x]) Ys cJ∧ag (fun z=>Dp=some z∨z=B.x) H H3:=by
 subst h3
 have h1:=p.tlt
 have hz:=f.size
 have aK:=p.m.lt
 have M7:=p.m.ge
 have hn:=p.m.ne
 have e0:ag (fun z=>Dp=some z) H H2:=(f.mono fun _ _ h=>h.elim).me e (fun _ _ h=>h)
 have m2:=p.m.ext e0 (fun z hz h=>(p.od z h).2.1 hz)
 obtain⟨ex,ox⟩:=J6 m2.o [i64 N,gs,ptr B.s,.slice (some ⟨B.b1,0,none⟩) N N,.slice (some ⟨B.b2,0,none⟩) N N,.slice (some ⟨B.b3,0,none⟩) N N,.map (some B.mp),Ys]
 obtain⟨n0,_⟩:=p.m.ns
 have hxs:=aK B.x (.inr (.inl rfl))
 have lG:=p.m.low.2.1
 have nfp:∀b,cJ=some b→lo≤b∧¬ (S b∨b=B.x∨B.row b)∧¬ (b=tb∨∃i,i<N∧fp i=some b):=fun b hb=>by
  rcases hf with h| ⟨b',h1',h2,_⟩
  ·exact p.od b (by rw[←h];exact hb)
  ·rw[hb]at h1'
   injection h1' with h1'
   subst h1'
   exact⟨by omega,fun h=>by have:=aK b h;omega,fun h=>by have:=h1 b h;omega⟩
 refine⟨⟨⟨ox,ex.own m2.o1 (by omega),ex.own m2.o2 (by omega),ex.own m2.o3 (by omega),m2.m.ext ex (by omega),m2.st.ext ex (fun z hz e=>n0 (by rw[←e];exact hz)),p.m.ns,p.m.ne,p.m.low⟩,(p.t.ext e0 (fun h=>(p.od tb h).2.2 (.inl rfl)) (fun i q hi hq h=>(p.od q h).2.2 (.inr ⟨i,hi,hq⟩))).ext ex (fun h=>p.td tb (.inl rfl) (.inr (.inl h))) (fun i q hi hq h=>p.td q (.inr ⟨i,hi,hq⟩) (.inr (.inl h))),p.td,?_,nfp⟩,(e0.mono fun z _ h=>.inl h).trans (ex.mono fun z _ h=>.inr h)⟩
 rw[ank,anH]
 exact s.ext ex (fun b hb h=>(nfp b hb).2.1 (.inr (.inl h)))
end
theorem qw{n:Int}{es:List Ed}{T:List Int}(hr:eR n es)(h:gh (T.map (fE es)))(hi:∀i∈T,i∈allI es.length):T.length≤n.toNat:=by
 have:=yG (n:=n.toNat) h (fun e he=>by
  obtain⟨i,hm,rfl⟩:=anv.1 he
  exact qu hr (ja.1 (hi i hm)))
 rw[anz]at this
 omega
theorem O2{n:Int}{es:List Ed}{T T':List Int}(hr:eR n es)(hp:T.Perm T')(h:jv n es T)(hl:Mp es T):jv n es T'∧Mp es T':=by
 have hm:(T.map (fE es)).Perm (T'.map (fE es)):=hp.map _
 refine⟨⟨fun i hi=>h.ins i (hp.mem_iff.2 hi),NW (n:=n.toNat) hm (fun e he=>?_) h.uD,fun u v hh=>(AJ hm u v).1 (h.all u v hh)⟩,fun i hi=>?_⟩
 ·obtain⟨i,hi,rfl⟩:=anv.1 he
  exact h.aaa hr i hi
 ·have hs:((yB (wE es) T (wE es i)).map (fE es)).Perm ((yB (wE es) T' (wE es i)).map (fE es)):=(hp.filter _).map _
  exact(AJ hs _ _).1 (hl i hi)
theorem E6(T:List Int):T.Perm (iO T):=(List.mergeSort_perm _ _).symm
theorem Ro{T:List Int}(h:T.Nodup):(iO T).Pairwise (· < ·):=by
 have h1:(iO T).Pairwise fun x y=>decide (x≤y)=true:=List.pairwise_mergeSort (fun a b c h1 h2=>by simp only[anF]at*;omega) (fun a b=>by simp only[ao2,anF];omega) T
 have h2:(iO T).Nodup:=(E6 T).nodup_iff.1 h
 refine List.Pairwise.imp₂ (fun a b AC aM=>?_) h1 h2
 simp only[anF]at AC
 omega
def Next(es:List Ed)(N:Nat)(w:Nw)(A:Ar)(L:List ((Int×Nat)×Value))(sl:List Nat)(bl:List Int)(hl:List (Int×Nat))(x:Int)(gg:Nat)(er:Int):Prop:=
 (er=172∧vX es N w A L sl bl hl∧∀v:Nat,sl[v]? ≠some 1)∨
 (er=0∧∃v:Nat,sl[v]? =some 1∧((x,gg),i64 v)∈L∧(∀u:Nat,sl[u]? =some 1→wE es (bl.getD v 0)≤wE es (bl.getD u 0))∧vX es N w A L (sl.set v 2) bl hl)
theorem Ht{H:Hp}{B:MB}{lo N:Nat}{gs:Value}{es:List Ed}{tB tb:Nat}{fp:Nat→Option Nat}{S:Nat→Prop}{w:Nw}{A:Ar}{L:List ((Int×Nat)×Value)}{sl:List Nat}{bl:List Int}{hl:List (Int×Nat)}{T:List Int}{ov:Value}{Dp:Option Nat}
  (p:FE H B lo N gs es tB tb fp S w A L sl bl hl T ov Dp)(g:vX es N w A L sl bl hl):af Tryz.prog jo [ptr B.s,i64 1] H fun v H'=>ar (
  ∃ (x:Int) (gg:Nat) (k er:Int) (S':Nat→Prop) (w':Nw) (A':Ar),v= .tuple [fW x gg,i64 k,i64 er].toArray∧FE H' B lo N gs es tB tb fp S' w' A' L sl bl hl T ov Dp∧Next es N w' A' L sl bl hl x gg er∧ag S H H'∧∀z,S' z→S z∨H.size≤z):=by
 refine(xY p.m.st g.hs).mono ?_
 rintro _ H1 (⟨h0,rfl,S1,RW,e1,et⟩| ⟨x,y,hx,hy,rfl,S1,RW,e1,et⟩)
 ·exact⟨0,0,0,172,S1,w,A,rfl,p.to RW e1 et,.inl ⟨rfl,g,g.none_ h0⟩,e1,et⟩
 ·obtain⟨v,q1,q2,q3,q4⟩:=g.take hx hy
  exact⟨x,A.bq x,y.2.1,0,S1,_,_,rfl,p.to RW e1 et,.inr ⟨rfl,v,q1,q2,q3,q4⟩,e1,et⟩
end Go.Proofs.YtjlnnljohemifaaGreat

namespace Go.Proofs.YtjlnnljohemifaaGreat
open Go Go.Vc
def aaU(H H':Hp)(kd dd n:Int)(es:List Ed)(v:Value):Prop:=
 (¬fZ kd dd∧v= .tuple [.slice none 0 0,i64 (QB kd dd)].toArray)∨(fZ kd dd∧dP n es=false∧v= .tuple [.slice none 0 0,i64 201].toArray)∨
 (fZ kd dd∧dP n es=true∧∃ (T:List Int) (sv:Value) (fp:Option Nat),v= .tuple [sv,i64 0].toArray∧Sl H' 1 sv T.length (T.map i64) fp∧(∀b,fp=some b→H.size≤b)∧jv n es T∧Mp es T∧T.Pairwise (· < ·))
theorem Rp(n:Nat):cz [Value.int .i64 0,Value.int .u32 0] n=kD (List.replicate n (0,0)):=by
 induction n with
 |zero=>rfl
 |succ n ih=>
  rw[anS]
  show[Value.int .i64 0,Value.int .u32 0]++cz [Value.int .i64 0,Value.int .u32 0] n=_
  rw[ih]
  rfl
theorem Tt{H H':Hp}{lo N x b1 b2 b3 mp s:Nat}{gs g:Value}{S:Nat→Prop}{w:Nw}{A:Ar}(st:Cn H s S w A 0)(hS:∀z,S z→lo≤z)(If:lo≤H.size)
  (o:H'.own x=some [i64 N,gs,ptr s,.slice (some ⟨b1,0,none⟩) N N,.slice (some ⟨b2,0,none⟩) N N,.slice (some ⟨b3,0,none⟩) N N,.map (some mp),.slice none 0 0])(o1:H'.own b1=some (cz [i64 0] N))(o2:H'.own b2=some (cz [i64 0] N))(o3:H'.own b3=some (cz [i64 0,.int .u32 0] N))(m:H'.mp mp=some ([],0))
  (f:ah H H')(hb:H.size≤x∧H.size≤b1∧H.size≤b2∧H.size≤b3∧H.size≤mp)(ne:x≠b1∧x≠b2∧x≠b3∧x≠mp∧b1≠b2∧b1≠b3∧b1≠mp∧b2≠b3∧b2≠mp∧b3≠mp):
  ∃B:MB,([(3,g),(8,ptr s),(10,ptr x)]:Env)=[(3,g),(8,ptr s),(10,ptr B.x)]∧B.s=s∧ut H' B lo N gs (.slice none 0 0) S w A 0 [] (List.replicate N 0) (List.replicate N 0) (List.replicate N (0,0))∧ah H H':=by
 have hn:∀z,H.size≤z→¬S z:=fun z hz h=>by have:=st.slt z h;omega
 have e0:cz [i64 0] N=List.replicate N (i64 0):=by rw[zS,apn]
 refine⟨⟨x,b1,b2,b3,mp,s⟩,rfl,rfl,⟨o,?_,?_,by rw[o3,←Rp],⟨[],0,m,rfl,aoo⟩,st.ext f (fun _ _ h=>h),⟨hn _ hb.1,hn _ hb.2.1,hn _ hb.2.2.1,hn _ hb.2.2.2.1,hn _ hb.2.2.2.2⟩,ne,hS,by simp only;omega⟩,f⟩
 ·rw[o1,e0,apn];rfl
 ·rw[o2,e0,apn]
theorem tJ{H:Hp}(kd dd:Int)(yF:fZ kd dd→QT kd dd){n:Int}{a:Option Addr}{c:Nat}{es:List Ed}(h:cI H 3 (.slice a es.length c) es.length (dM es))(hm:es.length≤1000000000):
  af Tryz.prog Jp [LZ kd dd,yg n (.slice a es.length c)] H fun v H'=>ar (ah H H'∧aaU H H' kd dd n es v):=by
 refine aP Jx ?_
 simp(disch:=(first|omega| (simp only[Zs]<;>omega)|fail)) only[go_sem, ↓reduceIte,Zv,yg]
 have f0:ah H (H.new 23 [i64 kd,i64 dd]):=(ag.refl _ _).new _ _
 have b0:(H.new 23 [i64 kd,i64 dd]).own H.size=some [i64 kd,i64 dd]:=ax _ _ _
 have z0:(H.new 23 [i64 kd,i64 dd]).size=H.size+1:=am _ _ _
 generalize H.new 23 [i64 kd,i64 dd]=H0 at*
 have f1:ah H0 (H0.new 52 [i64 n,.slice a es.length c]):=(ag.refl _ _).new _ _
 have b1:(H0.new 52 [i64 n,.slice a es.length c]).own H0.size=some [i64 n,.slice a es.length c]:=ax _ _ _
 have z1:(H0.new 52 [i64 n,.slice a es.length c]).size=H0.size+1:=am _ _ _
 have a1:=f1.own b0 (fun h=>h)
 rw[z0]at b1 z1
 generalize H0.new 52 [i64 n,.slice a es.length c]=H1 at*
 refine v1 (ae a1) ?_
 refine(mA kd dd H1).mono ?_
 rintro _ H2 ⟨rfl,f2⟩
 have g2:=(f0.trans f1).trans f2
 have a2:=f2.own a1 (fun h=>h)
 have b2:=f2.own b1 (fun h=>h)
 refine vs ?_
 refine ak.dec (fun hc=>?_) (fun hc=>?_)<;>refine vs ?_
 rotate_left
 ·exact⟨g2,.inl ⟨fun hf=>hc (Ka hf),rfl⟩⟩
 have hf:fZ kd dd:=Kb.1 (by omega)
 refine v1 (ae b2) ?_
 refine(oR (n:=n) (h.fresh g2) hm).mono ?_
 rintro _ H3 ⟨rfl,f3⟩
 have g3:=g2.trans f3
 have a3:=f3.own a2 (fun h=>h)
 have b3:=f3.own b2 (fun h=>h)
 by_cases hr:dP n es=true
 rotate_left
 ·rw[if_neg hr]
  refine v1 anT ?_
  exact⟨g3,.inr (.inl ⟨hf,by simpa using hr,rfl⟩)⟩
 rw[if_pos hr]
 have rq:=(fM n es).1 hr
 have JW:=rq.n0
 have uF:=rq.n1
 obtain⟨N,rfl⟩:∃N:Nat,n=(N:Int):=⟨n.toNat,by omega⟩
 refine v3 anT (ae a3) (ae b3) ?_
 refine af.mono (by simpa using Ix (cap:=(N:Int)) (mo:=1) hf (yF hf) (by omega) (by omega) H3) ?_
 rintro _ H4 ⟨s,S,rfl,st4,f4,hS4⟩
 have g4:=g3.trans f4
 have b4:=f4.own b3 (fun h=>h)
 refine v1 anT ?_
 refine(Da st4 (by simp[xZ])).mono ?_
 rintro _ H5 ⟨rfl,S5,st5,e5,OC⟩
 have z3:=g3.size
 have z4:=g4.size
 have g5:ah H H5:=g4.then e5 (fun z hz=>by have:=hS4 z hz;omega)
 have hS5:∀z,S5 z→H.size≤z:=fun z hz=>by
  rcases OC z hz with h|h
  ·have:=hS4 z h;omega
  ·omega
 have hgb:H.size+1<H3.size:=az b3
 have b5:=e5.own b4 (fun h=>by have:=hS4 _ h;omega)
 refine Ma (fun e H'=>∃B:MB,e=[(3,ptr (H.size+1)),(8,ptr s),(10,ptr B.x)]∧B.s=s∧ut H' B H.size N (.slice a es.length c) (.slice none 0 0) S5 (xZ (N:Int)).make (OK (N:Int) 1) 0 [] (List.replicate N 0) (List.replicate N 0) (List.replicate N (0,0))∧ah H5 H') ?_ ?_
 ·refine vs ?_
  refine jk.intro (fun H'=>H'.own (H.size+1)=some [i64 N,.slice a es.length c]) b5 ?_
  refine vs ?_
  refine fk.intro (.agg #[i64 N,.slice a es.length c]) (fun H' hI=>by refine v1 (ae hI) ?_;exact⟨trivial,trivial⟩) ?_
  refine vs ?_
  refine fk.intro (i64 N) (fun H' hI=>by refine v1 (ae hI) ?_;exact⟨trivial,trivial⟩) ?_
  refine vs ?_
  refine fk.intro (i64 N) (fun H' hI=>by refine v1 (ae hI) ?_;exact⟨trivial,trivial⟩) ?_
  refine vs ?_
  refine fk.intro (i64 N) (fun H' hI=>by refine v1 (ae hI) ?_;exact⟨trivial,trivial⟩) ?_
  refine vs ?_
  have ali:=az b5
  iterate 34
   all_goals try
    first
    |with_reducible refine Du.intro ?_ ?_
    |with_reducible refine dt.mk b5 ?_
    | (with_reducible refine dt.mk ⟨by omega,by omega,by omega,by omega⟩ ?_
      refine v1 Int.toNat_natCast ?_)
    | (fail_if_success with_reducible refine Exists.intro ?_ ?_
      refine vs ?_)
  all_goals
   simp only[Int.toNat_natCast]
   exact Tt st5 hS5 (by omega) (aQ (by simp only[am,hZ])) (by refine vs ?_<;>trivial) (by exact vs trivial<;>trivial) (by exact vs trivial<;>trivial) (by exact vs trivial<;>trivial) (by repeat' first|exact ag.refl _ _|refine ag.new ?_ _ _|refine ag.gS ?_) (by omega) (by omega)
 rintro _ H6 ⟨B,rfl,rfl,m6,f6⟩
 have b6:=f6.own b5 (fun h=>h)
 have g6:=g5.trans f6
 refine v1 (ae b6) ?_
 refine(wh (n:=(N:Int)) (h.fresh g6) hm).mono ?_
 rintro _ H7 ⟨f7,⟨bJ,_⟩| ⟨_,tb,fp,rfl,t7⟩⟩
 ·rw[hr]at bJ;cases bJ
 have m7:=m6.fresh f7
 have g7:=g6.trans f7
 have b7:=f7.own b6 (fun h=>h)
 have af0:=m6.lt
 have G0:vX es N (xZ (N:Int)).make (OK (N:Int) 1) [] (List.replicate N 0) (List.replicate N 0) (List.replicate N (0,0)):=vX.zero es N anX anX
 have D0:Yg es [] (List.replicate N 0):=by
  have h0:∀ (v k:Nat),k≠0→(List.replicate N 0)[v]? ≠some k:=fun v k hk hv=>by
   have:=aor (ang hv)
   omega
  refine⟨?_,fun v=>h0 v 1 (by omega)⟩
  have e1:(fun v:Nat=>(List.replicate N 0)[v]? =some 2)=fun _=>False:=by
   funext v
   exact eq_false (h0 v 2 (by omega))
  rw[e1]
  exact wx.begin _
 rw[Int.toNat_natCast]at t7 ⊢
 refine v1 (ae b7) ?_
 have p7:FE H7 B H.size N (.slice a es.length c) es H6.size tb fp S5 (xZ (N:Int)).make (OK (N:Int) 1) [] (List.replicate N 0) (List.replicate N 0) (List.replicate N (0,0)) [] (.slice none 0 0) none:=by
  refine⟨m7,t7,fun z hz h=>?_,Sl.nil _ _,fun b hb=>by cases hb⟩
  have:=af0 z h
  rcases hz with rfl| ⟨i,hi,hp⟩
  ·have:=t7.base;omega
  ·have:=(t7.low i hi z hp).1;omega
 refine aT.intro (fun mm env H'=>∃ (j:Nat) (S':Nat→Prop) (w':Nw) (A':Ar) (L':List ((Int×Nat)×Value)) (sl:List Nat) (bl:List Int) (hl:List (Int×Nat)) (T:List Int) (ov:Value) (Dp:Option Nat),mm=N - j∧j≤N∧FE H' B H.size N (.slice a es.length c) es H6.size tb fp S' w' A' L' sl bl hl T ov Dp∧vX es N w' A' L' sl bl hl∧Yg es T sl∧(∀v:Nat,v<j→sl[v]? =some 2)∧ah H H'∧
  env=[(8,ptr B.s),(10,ptr B.x),(11,.slice (some ⟨tb,0,none⟩) N N),(56,i64 N),(57,i64 j)]) N ⟨0,S5,_,_,[],_,_,_,[],_,none,rfl,aoY _,p7,G0,D0,fun v hv=>by omega,g7,rfl⟩ ?_
 clear p7 G0 D0 m7 t7 g7 b7 f7 m6 f6 b6 g6 st5 e5 OC b5 g5 hS5 st4 f4 hS4 g4 b4 a3 b3 a2 b2 f3 g3 f2 g2
 rintro mm env H8 ⟨j,S8,w8,A8,L8,sl8,bl8,hl8,T8,ov8,Tu,rfl,hj,p8,G8,D8,Rq,g8,rfl⟩
 refine vs ?_
 refine ak.dec (fun aK=>?_) (fun aK=>?_)<;>refine vs ?_
 rotate_left
 ·have fF:j=N:=by omega
  subst fF
  obtain⟨AE,If⟩:=D8.UY rq (fun v hv=>Rq v (by omega))
  have fW:=Ll AE.uD
  have E7:=qw rq AE.uD AE.sub
  refine v1 (ae p8.m.o) ?_
  refine(oG p8.os (by omega)).mono ?_
  rintro _ H9 ⟨rfl,s9,e9⟩
  have o9:=e9.own p8.m.o (fun h=>(p8.od _ h).2.1 (.inr (.inl rfl)))
  refine v1 (ae o9) ?_
  obtain⟨k1,k2⟩:=O2 rq (E6 T8) AE If
  refine⟨g8.then e9 (fun z hz=>(p8.od z hz).1),.inr (.inr ⟨hf,hr,iO T8,ov8,Tu,rfl,by rw[lQ];exact s9,fun b hb=>(p8.od b hb).1,k1,k2,Ro fW⟩)⟩
 rw[Tv]
 have fF:j<N:=by omega
 obtain⟨k,hk⟩:∃k,sl8[j]? =some k:=⟨_,am8 (by rw[G8.l1];exact fF)⟩
 have yC:=G8.two k (ang hk)
 have ZB:k≠1:=fun e=>D8.2 j (by rw[hk,e])
 have ck:(sl8.map fun k:Nat=>i64 k)[j]? =some (i64 k):=by rw[anA,hk];rfl
 refine v1 (ae p8.m.o) ?_
 refine⟨⟨by omega,by omega⟩,?_⟩
 refine v5 (ae p8.m.o1) Int.toNat_natCast ane am9 ck ?_
 refine ak.dec (fun h0=>?_) (fun h0=>?_)<;>refine vs ?_
 rotate_left
 ·rw[wrap64 (n:=(j:Int)+1) (by omega) (by omega)]
  refine⟨N - (j+1),by omega,j+1,S8,w8,A8,L8,sl8,bl8,hl8,T8,ov8,Tu,rfl,by omega,p8,G8,D8,fun v hv=>?_,g8,rfl⟩
  by_cases e:v=j
  ·subst e
   rw[hk]
   exact anx some (by omega)
  ·exact Rq v (by omega)
 have Yo:k=0:=by omega
 subst Yo
 obtain⟨gs0,gt0⟩:=Mr.begin (bl:=bl8) rq D8 hk
 refine(jc p8.m rq h g8 (ano _) fF (G8.root hk) p8.t p8.td gs0 rfl).mono ?_
 rintro _ H9 ⟨rfl,S9,w9,A9,L9,sl9,bl9,hl9,m9,G9,gs9,e9,hs9⟩
 have p9:=p8.go m9 e9 hs9
 have g9:ah H H9:=g8.then e9 (fun z hz=>p8.m.ge z (hz.imp_right .inr))
 refine vs ?_
 refine(Ht p9 G9).mono ?_
 rintro _ H10 ⟨x,gg,ky,er,S10,w10,A10,rfl,p10,N10,e10,af2⟩
 have g10:ah H H10:=g9.then e10 (fun z hz=>p9.m.ge z (.inl hz))
 refine vs ?_
 obtain⟨f11,b11,z11⟩:=LY H10 114 [Value.int .i64 0,Value.int .u32 0] [i64 x,Value.int .u32 (gg:Int)]
 generalize hhb:H10.size=hb at*
 generalize (H10.new 114 [Value.int .i64 0,Value.int .u32 0]).wr hb [i64 x,Value.int .u32 (gg:Int)]=H11 at*
 have p11:=p10.fresh f11
 have g11:=g10.trans f11
 have aaX:¬ (S10 hb∨hb=B.x∨B.row hb)∧Tu≠some hb:=⟨fun h=>by have:=p10.m.lt hb h;omega,fun h=>by have:=p10.olt hb h;omega⟩
 refine aT.intro (fun mm env H'=>∃ (x:Int) (gg:Nat) (er:Int) (S':Nat→Prop) (w':Nw) (A':Ar) (L':List ((Int×Nat)×Value)) (sl:List Nat) (bl:List Int) (hl:List (Int×Nat)) (T:List Int) (ov:Value) (Dp:Option Nat) (o:List Nat) (kk:Nat→Int) (hb:Nat),mm=N - o.length∧FE H' B H.size N (.slice a es.length c) es H6.size tb fp S' w' A' L' sl bl hl T ov Dp∧Next es N w' A' L' sl bl hl x gg er∧Mr es (fun v:Nat=>sl8[v]? =some 2) o kk T sl bl []∧GrT es T T8 (fun v:Nat=>sl8[v]? =some 2) o∧j∈o∧H'.own hb=some [i64 x,Value.int .u32 (gg:Int)]∧(¬ (S' hb∨hb=B.x∨B.row hb)∧Dp≠some hb)∧ah H H'∧
  env=[(8,ptr B.s),(10,ptr B.x),(11,.slice (some ⟨tb,0,none⟩) N N),(13,ptr hb),(15,i64 er),(56,i64 N),(57,i64 j)]) (N - 1) ⟨x,gg,er,S10,w10,A10,L9,sl9,bl9,hl9,T8,ov8,Tu,[j],_,hb,rfl,p11,N10,gs9,gt0,by simp,b11,aaX,g11,rfl⟩ ?_
 clear p11 N10 gs9 gt0 b11 aaX g11 f11 z11 hhb p10 e10 af2 g10 p9 m9 G9 e9 hs9 g9
 rintro mm env Yt ⟨x,gg,er,S12,w12,A12,L12,aaY,Rr,aaZ,T12,aa1,Rs,o,kk,hb,rfl,O3,N12,WO,Tw,hjo,b12,WP,g12,rfl⟩
 refine vs ?_
 refine ak.dec (fun he=>?_) (fun he=>?_)<;>refine vs ?_
 rotate_left
 ·rcases N12 with ⟨_,Yu,bJ⟩| ⟨h0,_⟩
  ·rw[wrap64 (n:=(j:Int)+1) (by omega) (by omega)]
   refine⟨N - (j+1),by omega,j+1,S12,w12,A12,L12,aaY,Rr,aaZ,T12,aa1,Rs,rfl,by omega,O3,Yu,WO.over D8.1 Tw bJ,fun v hv=>(WO.d v).2 ?_,g12,rfl⟩
   by_cases e:v=j
   ·subst e;exact .inr hjo
   ·exact .inl (Rq v (by omega))
  ·exact absurd h0 he
 rcases N12 with ⟨h0,_⟩| ⟨_,v,Cw,hvL,NT,Yu⟩
 ·omega
 have hvN:v<N:=by
  have:=(ana.1 Cw).1
  have h2:=Yu.l1
  rw[anb]at h2
  omega
 obtain⟨Tx,aa2,als⟩:=WO.enter rq Tw Cw NT
 have ZW:(o++[v]).length≤N:=GZ N _ Tx.P.nd fun y hy=>by
  have:=(Tx.d y).2 (.inr hy)
  have h1:=(ana.1 this).1
  have h2:=Yu.l1
  omega
 rw[ank,ant]at ZW
 obtain⟨b,hbv⟩:∃b,Rr[v]? =some b:=⟨_,am8 (by rw[Yu.l2];exact hvN)⟩
 have SD:Rr.getD v 0=b:=by rw[anf,hbv];rfl
 have cb:(Rr.map i64)[v]? =some (i64 b):=by rw[anA,hbv];rfl
 rw[SD]at Tx aa2
 have alt:=qw rq Tw.uD (fun i hi=>(Tw.ins i hi).1)
 refine v2 (ae O3.m.o) (ae b12) ?_
 refine⟨Hi _ _,?_⟩
 refine vV.look O3.m.m (a:=(x,gg)) hvL ?_
 refine vs ?_
 refine Ma (fun e H'=>∃Ys aa3,e=[(8,ptr B.s),(10,ptr B.x),(11,.slice (some ⟨tb,0,none⟩) N N),(13,ptr hb),(16,i64 v),(56,i64 N),(57,i64 j)]∧FE H' B H.size N (.slice a es.length c) es H6.size tb fp S12 w12 A12 L12 aaY Rr aaZ (T12++[b]) Ys aa3∧H'.own hb=some [i64 x,Value.int .u32 (gg:Int)]∧aa3≠some hb∧ah H H') ?_ ?_
 ·refine jk.intro (fun _=>True) trivial ?_
  have fl:ah Yt (Yt.new 3 [i64 b]):=(ag.refl _ _).new _ _
  have lG:=az O3.m.o
  have X0:=az O3.m.o2
  have Uc:=az b12
  have fin:∀K,(∀v' H2 cJ,Sl H2 1 v' (T12.length+1) (T12.map i64++[i64 b]) cJ→ag (fun z=>Rs=some z) (Yt.new 3 [i64 b]) H2→(cJ=Rs∨∃p,cJ=some p∧(Yt.new 3 [i64 b]).size≤p∧p<H2.size)→K v' H2)→fQ 3 1 8 [i64 0] aa1 (.slice (some ⟨Yt.size,0,none⟩) 1 1) (Yt.new 3 [i64 b]) K:=fun K hk=>
   Sl.append (O3.os.ext fl (fun _ _ h=>h)) (Sl.bP (size:=1) (n:=1) (xs:=[i64 b]) rfl rfl).rd rfl (qa [b]) (by omega) hk
  iterate 12
   all_goals try
    first
    |with_reducible refine Du.intro ?_ ?_
    |with_reducible refine dt.mk ⟨by omega,by omega⟩ ?_
    |with_reducible refine fin _ fun v' H2 cJ s2 e2 hf2=>?_
    | (fail_if_success with_reducible refine Exists.intro ?_ ?_
      fail_if_success refine fin _ ?_
      refine v6 (ae O3.m.o) (ae O3.m.o2) Int.toNat_natCast ane am9 cb ?_)
  all_goals
   obtain⟨va,Us,rfl,_⟩:=cE s2
   obtain⟨q1,q2⟩:=O3.push fl s2 e2 hf2 rfl
   have ox:=e2.own (fl.own O3.m.o (fun h=>h)) (fun h=>(O3.od _ h).2.1 (.inr (.inl rfl)))
   refine v1 ox ?_
   refine⟨_,cJ,trivial,q1,e2.own (fl.own b12 (fun h=>h)) WP.2,fun h=>?_,g12.then q2 (fun z hz=>?_)⟩
   ·rcases hf2 with h2| ⟨p,h2,h3,_⟩
    ·exact WP.2 (by rw[←h2];exact h)
    ·rw[h]at h2
     injection h2 with h2
     have:=fl.size
     omega
   ·rcases hz with h|h
    ·exact(O3.od z h).1
    ·rw[h];exact O3.m.low.2.1
 rintro _ H13 ⟨af4,Uy,rfl,p13,b13,alu,g13⟩
 refine vs ?_
 refine(jc p13.m rq h g13 (ano _) hvN Yu p13.t p13.td Tx (by simp)).mono ?_
 rintro _ H14 ⟨rfl,S14,w14,A14,L14,af5,af6,af7,m14,G14,af8,ul,af9⟩
 have p14:=p13.go m14 ul af9
 have g14:ah H H14:=g13.then ul (fun z hz=>p13.m.ge z (hz.imp_right .inr))
 have Uc:=az b13
 have b14:=ul.own b13 (fun h=>WP.1 (h.imp_right .inr))
 refine v1 (ae b14) ?_
 obtain⟨f15,b15,z15⟩:=LY H14 114 [Value.int .i64 0,Value.int .u32 0] [i64 x,Value.int .u32 (gg:Int)]
 generalize hhb:H14.size=nA at*
 generalize (H14.new 114 [Value.int .i64 0,Value.int .u32 0]).wr nA [i64 x,Value.int .u32 (gg:Int)]=H15 at*
 have p15:=p14.fresh f15
 have g15:=g14.trans f15
 have WQ:¬ (S14 nA∨nA=B.x∨B.row nA)∧Uy≠some nA:=⟨fun h=>by have:=p14.m.lt nA h;omega,fun h=>by have:=p14.olt nA h;omega⟩
 refine(Ht p15 G14).mono ?_
 rintro _ H16 ⟨x',gg',ky',er',S16,w16,A16,rfl,p16,N16,Ke,aa7⟩
 have g16:ah H H16:=g15.then Ke (fun z hz=>p15.m.ge z (.inl hz))
 have b16:=Ke.own b15 (fun h=>WQ.1 (.inl h))
 refine v1 b16 ?_
 obtain⟨VH,b17⟩:=J6 b16 [i64 x',Value.int .u32 (gg':Int)]
 generalize H16.wr nA [i64 x',Value.int .u32 (gg':Int)]=H17 at*
 have alG:=f15.size
 have alH:=Ke.size
 have alI:=VH.size
 have aa8:¬ (S16 nA∨nA=B.x∨B.row nA):=fun h=>WQ.1 (by
  rcases h with h|h
  ·rcases aa7 nA h with h|h
   ·exact .inl h
   ·omega
  ·exact .inr h)
 have x17:ag S14 H14 H17:=⟨by omega,fun z hz hn=>by rw[VH.aI z (by omega) (by omega),Ke.aI z (by omega) hn,f15.aI z (by omega) (fun h=>h)]⟩
 have p17:=p14.to (p16.m.st.ext VH (fun z hz e=>aa8 (.inl (by rw[←e];exact hz)))) x17 (fun z hz=>(aa7 z hz).imp_right fun h=>by omega)
 have g17:ah H H17:=g14.then x17 (fun z hz=>p14.m.ge z (.inl hz))
 exact⟨N - (o++[v]).length,by rw[ank,ant];omega,x',gg',er',S16,w16,A16,L14,af5,af6,af7,T12++[b],af4,Uy,o++[v],_,nA,rfl,p17,N16,af8,aa2,anr _ hjo,b17,⟨aa8,WQ.2⟩,g17,rfl⟩
theorem B5(H:Hp)(n:Int)(a:Option Addr)(k c:Nat):af Tryz.prog FJ [yg n (.slice a k c)] H fun v H'=>ar (v= .bool (decide (40<k∨(30<n∧n≤4096)))∧ah H H'):=by
 refine aP FY ?_
 have f0:ah H (H.new 52 [i64 n,.slice a k c]):=(ag.refl _ _).new _ _
 have b0:=ax H 52 [i64 n,.slice a k c]
 simp(disch:=(first|omega| (simp only[Zs]<;>omega)|fail)) only[go_sem, ↓reduceIte,Zv,yg]
 generalize H.new 52 [i64 n,.slice a k c]=H0 at*
 refine ak.dec (fun h1=>?_) (fun h1=>?_)<;>refine v1 (ae b0) ?_
 ·exact⟨anx Value.bool (by symm;simp;omega),f0⟩
 ·refine ak.dec (fun h3=>?_) (fun h3=>?_)<;>refine v1 (ae b0) ?_
  ·exact⟨anx Value.bool (by rw[decide_eq_decide];omega),f0⟩
  ·exact⟨anx Value.bool (by symm;simp;omega),f0⟩
def Ty:List Ed:=[⟨0,1,1⟩,⟨1,2,2⟩,⟨2,0,3⟩]
theorem tK(H:Hp):af Tryz.prog yN [] H fun v H'=>ar (v= .bool true∧ah H H'):=by
 refine aP ze ?_
 refine vs ?_
 have fe:ah H (H.new 61 (dM Ty)):=(ag.refl _ _).new _ _
 have re:cI (H.new 61 (dM Ty)) 3 (.slice (some ⟨H.size,0,none⟩) Ty.length 3) Ty.length (dM Ty):=(Sl.lit H 61 3 3 (dM Ty) rfl).rd
 have hze:(H.new 61 (dM Ty)).size=H.size+1:=by rw[am]
 have hE:H.new 61 [Value.int .i64 0,Value.int .i64 1,Value.int .i64 1,Value.int .i64 1,Value.int .i64 2,Value.int .i64 2,Value.int .i64 2,Value.int .i64 0,Value.int .i64 3]=H.new 61 (dM Ty):=rfl
 rw[hE]
 generalize H.new 61 (dM Ty)=H0 at*
 obtain⟨fw,q2,z2⟩:=LY H0 52 [Value.int .i64 0,Value.slice none 0 0] [Value.int .i64 3,Value.slice (some ⟨H.size,0,none⟩) 3 3]
 rw[hze]at q2 fw
 generalize (H0.new 52 [Value.int .i64 0,Value.slice none 0 0]).wr (H.size+1) [Value.int .i64 3,Value.slice (some ⟨H.size,0,none⟩) 3 3]=H1 at*
 have r1:=re.fresh fw
 have f1:=fe.trans fw
 refine v1 (ae q2) ?_
 refine(tJ 3 0 (fun h=>Kv h) (n:=3) r1 (by decide)).mono ?_
 rintro _ H2 ⟨f2,⟨bJ,_⟩| ⟨_,bJ,_⟩| ⟨_,_,T,sv,fp,rfl,s2,fN,AE,If,R9⟩⟩
 ·exact absurd (by decide) bJ
 ·exact absurd bJ (by decide)
 obtain rfl:=Tb AE If R9
 obtain⟨sa,sc,rfl,_⟩:=cE s2
 have fl:ah H2 (H2.new 3 [i64 0,i64 1]):=(ag.refl _ _).new _ _
 refine v1 anT ?_
 refine(Dg (xs:=[0,1]) (ys:=[0,1]) (s2.rd.fresh fl) (Sl.lit H2 3 1 2 [i64 0,i64 1] rfl).rd (by decide)).mono ?_
 rintro _ H3 ⟨rfl,e⟩
 obtain rfl:=e
 refine v1 anT ?_
 exact⟨rfl,(f1.trans f2).trans fl⟩
theorem tL{Hh:Hp}{v0 v1:Value}(h0:Gf Hh (true,[.k (.i .i64),.k (.i .i64)]) v0)(h1:Gf Hh (true,[.k (.i .i64),.sl [.i .i64,.i .i64,.i .i64]]) v1):af Tryz.prog yM [v0,v1] Hh fun v H'=>ar (v= .bool true∧ah Hh H'):=by
 obtain⟨kd,dd,rfl⟩:=MA h0
 obtain⟨n,es,a,c,rfl,hr,RR,WM,hn,Tz⟩:=Mz h1
 clear h0 h1
 have hw:∀e∈es, -9223372036854775808≤e.w∧e.w≤9223372036854775807:=fun e he=>(Tz e he).2.2
 refine aP zd ?_
 simp(disch:=(first|omega| (simp only[Zs]<;>omega)|fail)) only[go_sem, ↓reduceIte,Zv,yg]
 have f0:ah Hh (Hh.new 23 [i64 kd,i64 dd]):=(ag.refl _ _).new _ _
 have a0:(Hh.new 23 [i64 kd,i64 dd]).own Hh.size=some [i64 kd,i64 dd]:=ax _ _ _
 have z0:(Hh.new 23 [i64 kd,i64 dd]).size=Hh.size+1:=am _ _ _
 generalize Hh.new 23 [i64 kd,i64 dd]=H0 at*
 have f1:ah H0 (H0.new 52 [i64 n,.slice a es.length c]):=(ag.refl _ _).new _ _
 have b1:(H0.new 52 [i64 n,.slice a es.length c]).own H0.size=some [i64 n,.slice a es.length c]:=ax _ _ _
 have a1:=f1.own a0 (fun h=>h)
 rw[z0]at b1
 generalize H0.new 52 [i64 n,.slice a es.length c]=H1 at*
 refine(tK H1).mono ?_
 rintro _ H2 ⟨rfl,f2⟩
 have g2:=(f0.trans f1).trans f2
 have a2:=f2.own a1 (fun h=>h)
 have b2:=f2.own b1 (fun h=>h)
 refine v1 (ae b2) ?_
 refine(B5 H2 n a es.length c).mono ?_
 rintro _ H3 ⟨rfl,f3⟩
 have g3:=g2.trans f3
 have a3:=f3.own a2 (fun h=>h)
 have b3:=f3.own b2 (fun h=>h)
 refine vs ?_
 refine ak.dec (fun c1=>?_) (fun c1=>?_)<;>refine v2 (ae a3) (ae b3) ?_
 ·exact⟨rfl,g3⟩
 refine(tJ kd dd (fun h=>Kv h) (n:=n) (hr.fresh g3) (by omega)).mono ?_
 rintro v4 H4 ⟨f4,hp⟩
 have g4:=g3.trans f4
 have a4:=f4.own a3 (fun h=>h)
 have b4:=f4.own b3 (fun h=>h)
 obtain⟨T,sv,fp,er,rfl,s4,fN,Uz⟩:∃ (T:List Int) (sv:Value) (fp:Option Nat) (er:Int),v4=Value.tuple [sv,i64 er].toArray∧Sl H4 1 sv T.length (T.map i64) fp∧(∀b,fp=some b→H3.size≤b)∧
   ((¬fZ kd dd∧er=QB kd dd∧T=[])∨(fZ kd dd∧dP n es=false∧er=201∧T=[])∨(fZ kd dd∧dP n es=true∧er=0∧jv n es T∧Mp es T∧T.Pairwise (· < ·))):=by
  rcases hp with ⟨h1,rfl⟩| ⟨h1,h2,rfl⟩| ⟨h1,h2,T,sv,fp,rfl,s,fN,k⟩
  ·exact⟨[],_,none,_,rfl,Sl.nil _ _,(fun b hb=>by cases hb),.inl ⟨h1,rfl,rfl⟩⟩
  ·exact⟨[],_,none,_,rfl,Sl.nil _ _,(fun b hb=>by cases hb),.inr (.inl ⟨h1,h2,rfl,rfl⟩)⟩
  ·exact⟨T,sv,fp,0,rfl,s,fN,.inr (.inr ⟨h1,h2,rfl,k⟩)⟩
 obtain⟨sa,sc,rfl,hsc⟩:=cE s4
 refine v1 (ae a4) ?_
 refine(Ex kd dd H4).mono ?_
 rintro _ H5 ⟨rfl,f5⟩
 have g5:=g4.trans f5
 have b5:=f5.own b4 (fun h=>h)
 have s5:=s4.ext f5 (fun _ _ h=>h)
 refine vs ?_
 refine ak.dec (fun c2=>?_) (fun c2=>?_)<;>refine vs ?_
 rotate_left
 ·rcases Uz with ⟨_,rfl,rfl⟩| ⟨h1,_⟩| ⟨h1,_⟩
  ·simp(disch:=(first|omega| (simp only[Zs]<;>omega)|fail)) only[go_sem, ↓reduceIte,Zv,anT,aoi]
   exact⟨rfl,g5⟩
  ·exact absurd (Ka h1) c2
  ·exact absurd (Ka h1) c2
 have hK:=Kb.1 c2
 refine v1 (ae b5) ?_
 refine(BR (n:=n) (hr.fresh g5) (by omega)).mono ?_
 rintro _ H6 ⟨rfl,f6⟩
 have g6:=g5.trans f6
 have b6:=f6.own b5 (fun h=>h)
 have s6:=s5.ext f6 (fun _ _ h=>h)
 rcases Uz with ⟨h1,_⟩| ⟨_,h2,rfl,rfl⟩| ⟨_,h2,rfl,AE,If,R9⟩
 ·exact absurd hK h1
 ·rw[h2]
  simp(disch:=(first|omega| (simp only[Zs]<;>omega)|fail)) only[go_sem, ↓reduceIte,Zv,aoT,anT,aoi]
  exact⟨rfl,g6⟩
 rw[h2]
 have rq:=(fM n es).1 h2
 have hTl:=qw rq AE.uD AE.sub
 have JW:=rq.n0
 have uF:=rq.n1
 refine v1 ao6 ?_
 refine aT.intro (fun mm env H'=>∃i:Nat,mm=T.length+1 - i∧1≤i∧(i≤T.length+1)∧H'=H6∧env=[(3,ptr (Hh.size+1)),(5,.slice sa T.length sc),(6,i64 0),(8,i64 i)]) T.length ⟨1,by omega,by omega,by omega,rfl,rfl⟩ ?_
 rintro mm env H6 ⟨i,rfl,OA,ly,rfl,rfl⟩
 refine vs ?_
 refine ak.dec (fun aK=>?_) (fun aK=>?_)<;>refine vs ?_
 ·obtain⟨k,rfl⟩:∃k,i=k+1:=⟨i - 1,by omega⟩
  have yC:k+1<T.length:=by omega
  obtain⟨x,hx⟩:∃x,T[k]? =some x:=⟨_,am8 (by omega)⟩
  obtain⟨y,hy⟩:∃y,T[k+1]? =some y:=⟨_,am8 yC⟩
  have K7:x<y:=by
   have:=List.pairwise_iff_getElem.1 R9 k (k+1) (by omega) yC (by omega)
   rw[am8 (by omega)]at hx
   rw[am8 yC]at hy
   injection hx with hx
   injection hy with hy
   rw[hx,hy]at this
   exact this
  obtain⟨_,b,o,lb,rfl,eG,eU⟩:=cI.num s6.rd hx
  obtain⟨_,b',o',Uj,Ux,ET,wS⟩:=cI.num s6.rd hy
  injection Ux with Ux
  injection Ux with JV nA
  subst JV nA
  rw[eG]at ET
  injection ET with ET
  subst ET
  rw[show((k+1:Nat):Int) - 1=(k:Int) by omega,wrap64 (n:=(k:Int)) (by omega) (by omega)]
  refine⟨⟨by omega,by omega⟩,?_⟩
  refine v4 eG Int.toNat_natCast ane eU ?_
  refine⟨⟨by omega,by omega⟩,?_⟩
  refine v4 eG Int.toNat_natCast ane wS ?_
  refine ak.dec (fun M7=>by omega) (fun _=>?_)
  refine vs ?_
  rw[wrap64 (n:=((k+1:Nat):Int)+1) (by omega) (by omega)]
  exact⟨T.length+1 - (k+2),by omega,k+2,rfl,by omega,by omega,trivial,rfl⟩
 have cR:∀i∈T,Km es i:=AE.ins
 refine jk.intro (fun H'=>H'.own (Hh.size+1)=some [i64 n,.slice a es.length c]) b6 ?_
 refine v2 anT (ae b6) ?_
 refine And.intro b6 ?_
 refine vs ?_
 refine(An (n:=n) (hr.fresh g6) s6.rd hsc rq (by omega)).mono ?_
 rintro _ H7 ⟨f7,bb,rfl,hb⟩
 obtain rfl:bb=true:=hb.2 AE
 have b7:=f7.own b6 (fun h=>h)
 have g7:=g6.trans f7
 refine And.intro b7 ?_
 refine vs ?_
 refine fk.intro (yg n (.slice a es.length c)) (fun H' hI=>by refine v1 (ae hI) ?_;exact⟨rfl,trivial⟩) ?_
 refine vs ?_
 refine fk.intro (yg n (.slice a es.length c)) (fun H' hI=>by refine v1 (ae hI) ?_;exact⟨rfl,trivial⟩) ?_
 refine v1 (ae b7) ?_
 refine And.intro b7 ?_
 refine vs ?_
 refine(mX (n:=n) (hr.fresh g7) (s6.ext f7 (fun _ _ h=>h)).rd cR (by omega) hw (by omega)).mono ?_
 rintro _ H8 ⟨rfl,f8⟩
 have b8:=f8.own b7 (fun h=>h)
 have g8:=g7.trans f8
 refine And.intro b8 ?_
 refine vs ?_
 refine(B4 (hr.fresh g8) rq).mono ?_
 rintro _ H9 ⟨f9,L,lb,hLp,hLs,Cm,s9⟩
 have b9:=f9.own b8 (fun h=>h)
 have g9:=g8.trans f9
 refine And.intro b9 ?_
 obtain⟨ga,gc,rfl,_⟩:=cE s9
 have WR:=Kp n (es:=es) (L:=L) (fun i hi=>ja.1 (hLp.mem_iff.1 hi)) (fun i hi=>hLp.mem_iff.2 hi)
 have alN:=qw rq WR.uD WR.sub
 refine vs ?_
 refine(mX (n:=n) (hr.fresh g9) s9.rd WR.ins (by omega) hw (by omega)).mono ?_
 rintro _ H10 ⟨rfl,f10⟩
 have b10:=f10.own b9 (fun h=>h)
 rw[(OM rq AE hLp hLs).2 If]
 refine And.intro b10 ?_
 refine v2 Rk anT ?_
 exact⟨rfl,g9.trans f10⟩
end Go.Proofs.YtjlnnljohemifaaGreat
