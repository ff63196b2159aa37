/- Texts put behind each other. -/
import Derived.Test.YtjlnnljohemifaaGreatK98
import Derived.Test.YtjlnnljohemifaaGreatK9
import Derived.Test.YtjlnnljohemifaaGreatK18
import Derived.Test.YtjlnnljohemifaaGreatK23
import Derived.Test.YtjlnnljohemifaaGreatK24
set_option maxRecDepth 100000
set_option maxHeartbeats 8000000
set_option linter.unusedVariables false
set_option linter.unusedSimpArgs false
namespace Go.Proofs.YtjlnnljohemifaaGreat
open Go Go.Vc
def qM(v:Nat)(e:Ed):Bool:=decide (e.f≠e.t) && decide (e.t=(v:Int))
theorem Qq{es:List Ed}{j k:Nat}{e:Ed}(X:Nat→List Int)(he:es[j]? =some e)(hq:∀v,qM v e=decide (v=k)):
  Ie (fun v=>X v++bi (qM v) 0 (es.take j)) k (X k++bi (qM k) 0 (es.take j)++[(j:Int)])=fun v=>X v++bi (qM v) 0 (es.take (j+1)):=by
 funext v
 unfold Ie
 rw[B8 _ he,hq]
 by_cases h:v=k
 ·subst h;simp
 ·simp[h]
theorem Qr{es:List Ed}{j:Nat}{e:Ed}(X:Nat→List Int)(he:es[j]? =some e)(hq:e.f=e.t):
  (fun v=>X v++bi (qM v) 0 (es.take j))=fun v=>X v++bi (qM v) 0 (es.take (j+1)):=by
 funext v
 rw[B8 _ he]
 simp[qM,hq]
theorem O9(es:List Ed)(v:Nat):je (bi (qL v) 0 es++bi (qM v) 0 es)=bi (qT v) 0 es:=by
 have h:=TE (qL v) (qM v) es 0 (fun e _ h=>by
  simp only[qL,qM,aoL,ao7]at h
  omega)
 have hq:(fun e=>qL v e || qM v e)=qT v:=by
  funext e
  unfold qL qM qT
  by_cases h1:e.f=v<;>by_cases h2:e.t=v<;>by_cases h3:e.f=e.t<;>simp[h1,h2,h3]<;>omega
 rw[hq]at h
 exact h
theorem xK{H:Hp}{n:Int}{a:Option Addr}{c:Nat}{es:List Ed}(h:cO H 3 (.slice a es.length c) es.length (dX es))(hm:es.length≤1000000000):
  af Tryz.prog B9 [zK n (.slice a es.length c)] H fun v H'=>aw (ah H H'∧((ec n es=false∧v= .slice none 0 0)∨
   (ec n es=true∧∃b fp,v= .slice (some ⟨b,0,none⟩) n.toNat n.toNat∧B4 H' H.size b n.toNat (fun v=>bi (qT v) 0 es) fp))):=by
 refine Fa Cm ⟨rfl,?_⟩
 have f0:ah H (H.new 52 [i64 n,.slice a es.length c]):=(ag.refl _ _).new _ _
 have b0:=az H 52 [i64 n,.slice a es.length c]
 simp(disch:=(first|omega| (simp only[Zs]<;>omega)|fail)) only[go_sem, ↓reduceIte,Zv,pT,zK]
 generalize H.new 52 [i64 n,.slice a es.length c]=H0 at*
 have h0:=h.fresh f0
 refine(zM (n:=n) h0 hm).mono ?_
 rintro _ H1 ⟨f1,⟨hR,rfl⟩| ⟨hR,O6,fp0,rfl,sl1⟩⟩
 ·refine vs ?_
  exact⟨f0.trans f1,.inl ⟨hR,rfl⟩⟩
 have b1:=f1.own b0 (fun h=>h)
 have f01:=f0.trans f1
 have ZD:=aB b0
 have VL:=sl1.base
 obtain⟨Ln,vW,Vm,Sf⟩:=(fY n es).1 hR
 simp(disch:=(first|omega| (simp only[Zs]<;>omega)|fail)) only[go_sem, ↓reduceIte,Zv,ae b1,Option.isNone_some]
 have DE:(fun v=>bi (qL v) 0 es)=fun v=>bi (qL v) 0 es++bi (qM v) 0 (es.take 0):=by funext v;simp[bi]
 rw[DE]at sl1
 refine aX.intro (fun m env H'=>ah H H'∧∃ (j:Nat) (fp:Nat→Option Nat),m=es.length - j∧j≤es.length∧B4 H' H0.size O6 n.toNat (fun v=>bi (qL v) 0 es++bi (qM v) 0 (es.take j)) fp∧
  env=[(3,.slice (some ⟨O6,0,none⟩) n.toNat n.toNat),(13,.slice a es.length c),(14,i64 es.length),(15,i64 j)]) es.length ⟨f01,0,_,by omega,by omega,sl1,rfl⟩ ?_
 rintro m env H2 ⟨f2,j,fp,T7,hj,IK,rfl⟩
 have h2:=h.fresh f2
 refine vs ?_
 refine am.dec (fun aO=>?_) (fun aO=>?_)<;>refine vs ?_
 ·have fS:j<es.length:=by omega
  obtain⟨e,he⟩:∃e,es[j]? =some e:=⟨_,aoh fS⟩
  obtain⟨_,b,o,lb,rfl,eW,nT,eG⟩:=cO.DP h2 he
  refine⟨⟨by omega,by omega⟩,?_⟩
  have bK:=aon he
  obtain⟨ef0,ef1,et0,et1⟩:=Sf e bK
  simp(disch:=(first|omega| (simp only[Zs]<;>omega)|fail)) only[go_sem, ↓reduceIte,Zv,eW,Int.toNat_natCast,eG,eE]
  refine⟨by omega,?_⟩
  have q2:=az H2 61 [i64 0,i64 0,i64 0]
  simp(disch:=(first|omega| (simp only[Zs]<;>omega)|fail)) only[go_sem, ↓reduceIte,Zv,eG,eE,q2]
  have q3:=ai (l:=[i64 e.f,i64 e.t,i64 e.w]) q2
  have f3:ah H2 ((H2.new 61 [i64 0,i64 0,i64 0]).wr H2.size [i64 e.f,i64 e.t,i64 e.w]):=((ag.refl _ _).new _ _:ah H2 _).then ((ag.refl (fun z=>z=H2.size) _).wr (fun _=>rfl) _) (fun z hz=>by omega)
  have MH:((H2.new 61 [i64 0,i64 0,i64 0]).wr H2.size [i64 e.f,i64 e.t,i64 e.w]).size=H2.size+1:=by rw[eo,ap]
  have hol:=IK.lt
  generalize (H2.new 61 [i64 0,i64 0,i64 0]).wr H2.size [i64 e.f,i64 e.t,i64 e.w]=H3 at*
  have LP:=IK.fresh f3
  have Un:e.t.toNat<n.toNat:=by omega
  obtain⟨cS,sv,MI,z7,yg,BB⟩:=LP.get Un
  have agX:=pK (qL e.t.toNat) es 0
  have ab0:=pK (qM e.t.toNat) (es.take j) 0
  have Zp:(bi (qL e.t.toNat) 0 es++bi (qM e.t.toNat) 0 (es.take j)).length≤2*es.length:=by rw[aor];rw[aoX]at ab0;omega
  have f13:ah H H3:=f2.trans f3
  refine v1 (ae q3) ?_
  refine am.dec (fun XN=>?_) (fun XN=>?_)<;>refine vs ?_
  ·rw[wrap64 (n:=(j:Int)+1) (by omega) (by omega)]
   rw[Qr _ he XN]at LP
   exact⟨es.length - (j+1),by omega,f13,j+1,fp,rfl,by omega,LP,rfl⟩
  have hq:∀v,qM v e=decide (v=e.t.toNat):=fun v=>by unfold qM;rw[aow XN,apz,decide_eq_decide];omega
  have fin:∀ (H4:Hp) (v':Value) (H5:Hp) (cP:Option Nat),ah H3 H4→Sl H5 1 v' (((bi (qL e.t.toNat) 0 es++bi (qM e.t.toNat) 0 (es.take j))).length+1) (((bi (qL e.t.toNat) 0 es++bi (qM e.t.toNat) 0 (es.take j))).map i64++[i64 j]) cP→ag (fun z=>fp e.t.toNat=some z) H4 H5→
    (cP=fp e.t.toNat∨∃p,cP=some p∧H4.size≤p∧p<H5.size)→
    H5.own O6=some cS∧H5.own H2.size=some [i64 e.f,i64 e.t,i64 e.w]∧(H5.wr O6 (cS.set e.t.toNat v')).own H2.size=some [i64 e.f,i64 e.t,i64 e.w]∧ah H (H5.wr O6 (cS.set e.t.toNat v'))∧
    B4 (H5.wr O6 (cS.set e.t.toNat v')) H0.size O6 n.toNat (fun v=>bi (qL v) 0 es++bi (qM v) 0 (es.take (j+1))) (Qe fp e.t.toNat cP):=by
   intro H4 v' H5 cP f4 s5 e5 ir
   have VF:=LP.fresh f4
   have PJ:=LP.low e.t.toNat Un
   have Xk:∀z,fp e.t.toNat=some z→z<H2.size:=fun z hz=>by
    obtain⟨_,_,_,_,_,s0⟩:=IK.get Un
    rw[hz]at s0
    exact Sl.lt s0
   have ho4:=f4.own MI (fun h=>h)
   have q4:=f4.own q3 (fun h=>h)
   have q5:H5.own H2.size=some [i64 e.f,i64 e.t,i64 e.w]:=e5.own q4 (fun hh=>by have:=Xk _ hh;omega)
   obtain⟨k1,k2⟩:=VF.put Un (l:=(bi (qL e.t.toNat) 0 es++bi (qM e.t.toNat) 0 (es.take j))++[(j:Int)]) e5 (by rw[aor,aoN];exact s5) ir ho4
   rw[Qq _ he hq]at k2
   refine⟨k1,q5,by rw[j0 (by omega)];exact q5,?_,k2⟩
   exact((f13.trans f4).then e5 (fun z hz=>by have:=(PJ z hz).1;omega)).then ((ag.refl (fun z=>z=O6) _).wr (fun _=>rfl) _) (fun z hz=>by omega)
  refine jB.intro (fun H'=>H'.own H2.size=some [i64 e.f,i64 e.t,i64 e.w]) q3 ?_
  refine vs ?_
  refine fJ.intro (i64 e.t) (fun H' hI=>by refine v1 (ae hI) ?_;exact⟨trivial,trivial⟩) ?_
  refine vs ?_
  refine fJ.intro (i64 e.t) (fun H' hI=>by refine v1 (ae hI) ?_;exact⟨trivial,trivial⟩) ?_
  refine vs ?_
  refine⟨⟨by omega,by omega⟩,?_⟩
  refine vs ?_
  have fl:ah H3 (H3.new 3 [i64 j]):=(ag.refl _ _).new _ _
  have ql:=fl.own q3 (fun h=>h)
  have Xl:=fl.own MI (fun h=>h)
  obtain⟨ra,rc,rfl,hrc⟩:=cJ BB
  refine EN.intro ?_ ?_
  ·refine v4 (ae MI) aol aoi yg ?_
   refine And.intro q3 ?_
   refine vs ?_
   refine And.intro (by first|exact ql|exact q3) ?_
   refine vs ?_
   refine Sl.append (BB.ext fl (fun _ _ h=>h)) (Sl.bU (size:=1) (n:=1) (xs:=[i64 j]) rfl rfl).rd rfl (vL [(j:Int)]) (by omega) ?_
   intro v' H5 cP s5 e5 fZ
   obtain⟨k1,k2,k3,k4,k5⟩:=fin _ v' H5 cP fl s5 e5 fZ
   obtain⟨va,VG,rfl,_⟩:=cJ s5
   refine And.intro k2 ?_
   refine vs ?_
   refine⟨⟨by omega,by omega⟩,?_⟩
   refine v3 k1 aol aoi ?_
   refine⟨by omega,?_⟩
   refine vs ?_
   refine And.intro (by first|exact k3|exact k2) ?_
   refine vs ?_
   rw[wrap64 (n:=(j:Int)+1) (by omega) (by omega)]
   exact⟨es.length - (j+1),by omega,k4,j+1,_,rfl,by omega,k5,rfl⟩
  ·refine vs ?_
   refine And.intro (by first|exact ql|exact q3) ?_
   refine v4 (ae Xl) aol aoi yg ?_
   refine And.intro (by first|exact ql|exact q3) ?_
   refine vs ?_
   refine Sl.append (BB.ext fl (fun _ _ h=>h)) (Sl.bU (size:=1) (n:=1) (xs:=[i64 j]) rfl rfl).rd rfl (vL [(j:Int)]) (by omega) ?_
   intro v' H5 cP s5 e5 fZ
   obtain⟨k1,k2,k3,k4,k5⟩:=fin _ v' H5 cP fl s5 e5 fZ
   obtain⟨va,VG,rfl,_⟩:=cJ s5
   refine And.intro k2 ?_
   refine vs ?_
   refine⟨⟨by omega,by omega⟩,?_⟩
   refine v3 k1 aol aoi ?_
   refine⟨by omega,?_⟩
   refine vs ?_
   refine And.intro (by first|exact k3|exact k2) ?_
   refine vs ?_
   rw[wrap64 (n:=(j:Int)+1) (by omega) (by omega)]
   exact⟨es.length - (j+1),by omega,k4,j+1,_,rfl,by omega,k5,rfl⟩
 ·have fS:j=es.length:=by omega
  subst fS
  rw[aoP]at IK
  clear sl1 h2
  have Ly:(fun v=>bi (qL v) 0 es++bi (qM v) 0 es)=fun v=>if v<0 then bi (qT v) 0 es else bi (qL v) 0 es++bi (qM v) 0 es:=by funext v;simp
  rw[Ly]at IK
  refine aX.intro (fun m env H'=>ah H H'∧∃ (k:Nat) (fp:Nat→Option Nat),m=n.toNat - k∧k≤n.toNat∧B4 H' H0.size O6 n.toNat (fun v=>if v<k then bi (qT v) 0 es else bi (qL v) 0 es++bi (qM v) 0 es) fp∧
   env=[(3,.slice (some ⟨O6,0,none⟩) n.toNat n.toNat),(38,.slice (some ⟨O6,0,none⟩) n.toNat n.toNat),(39,i64 n.toNat),(40,i64 k)]) n.toNat ⟨f2,0,_,by omega,by omega,IK,rfl⟩ ?_
  clear IK Ly
  rintro m env H3 ⟨f3,k,fp3,hmk,hk,LP,rfl⟩
  refine vs ?_
  refine am.dec (fun aO=>?_) (fun aO=>?_)<;>refine vs ?_
  ·have z6:k<n.toNat:=by omega
   obtain⟨cS,sv,MI,z7,yg,BB⟩:=LP.get z6
   simp only[Nat.lt_irrefl,if_false]at BB
   have agX:=pK (qL k) es 0
   have ab0:=pK (qM k) es 0
   refine⟨⟨by omega,by omega⟩,?_⟩
   refine v5 (ae MI) Int.toNat_natCast aol aoi yg ?_
   refine(qj BB (by rw[aor];omega)).mono ?_
   rintro _ H4 ⟨rfl,s4,e4⟩
   rw[O9]at s4
   have aZ:(bi (qT k) 0 es).length=(bi (qL k) 0 es++bi (qM k) 0 es).length:=by rw[←O9,mP]
   rw[←aZ]at s4
   have VF:=LP.sY z6 MI yg e4 s4
   have cN:Ie (fun v=>if v<k then bi (qT v) 0 es else bi (qL v) 0 es++bi (qM v) 0 es) k (bi (qT k) 0 es)=fun v=>if v<k+1 then bi (qT v) 0 es else bi (qL v) 0 es++bi (qM v) 0 es:=by
    funext v
    unfold Ie
    by_cases h1:v=k
    ·subst h1;rw[if_pos rfl,if_pos (by omega)]
    ·rw[if_neg h1]
     show(if v<k then bi (qT v) 0 es else bi (qL v) 0 es++bi (qM v) 0 es)=_
     by_cases h2:v<k
     ·rw[if_pos h2,if_pos (by omega)]
     ·rw[if_neg h2,if_neg (by omega)]
   rw[cN]at VF
   refine vs ?_
   rw[wrap64 (n:=(k:Int)+1) (by omega) (by omega)]
   exact⟨n.toNat - (k+1),by omega,f3.then e4 (fun z hz=>by have:=(LP.low k z6 z hz).1;omega),k+1,fp3,rfl,by omega,VF,rfl⟩
  ·have z6:k=n.toNat:=by omega
   subst z6
   obtain⟨cS,g1,g2,g3⟩:=LP.TO
   refine⟨f3,.inr ⟨hR,O6,fp3,rfl,⟨⟨cS,g1,g2,fun i hi=>?_⟩,by omega,fun i hi p hp=>⟨by have:=(LP.low i hi p hp).1;omega,(LP.low i hi p hp).2⟩,LP.apart⟩⟩⟩
   obtain⟨sv,g4,g5⟩:=g3 i hi
   rw[if_pos hi]at g5
   exact⟨sv,g4,g5⟩
def ln(l:List (Int×Nat)):List Value:=l.flatMap fun y=>[i64 y.1,.int .u32 (y.2:Int)]
theorem IV(l:List (Int×Nat)):(ln l).length=l.length*2:=by
 induction l with
 |nil=>rfl
 |cons c r ih=>simp only[ln,apV,aor,aoD,apl]at*;omega
theorem SI{l:List (Int×Nat)}{i:Nat}{y:Int×Nat}(h:l[i]? =some y):(ln l)[i*2]? =some (i64 y.1)∧(ln l)[i*2+1]? =some (.int .u32 (y.2:Int))∧((ln l).drop (i*2)).take 2=[i64 y.1,.int .u32 (y.2:Int)]:=by
 induction l generalizing i with
 |nil=>simp at h
 |cons a r ih=>
  have e:ln (a::r)=i64 a.1:: .int .u32 (a.2:Int)::ln r:=rfl
  rw[e]
  cases i with
  |zero=>simp at h;subst h;exact⟨rfl,rfl,rfl⟩
  |succ i=>
   have:=ih (by simpa using h)
   rw[show(i+1)*2=i*2+2 by omega]
   exact this
theorem Qs{l:List (Int×Nat)}{i:Nat}{y:Int×Nat}(h:i<l.length):((ln l).set (i*2) (i64 y.1)).set (i*2+1) (.int .u32 (y.2:Int))=ln (l.set i y):=by
 induction l generalizing i with
 |nil=>simp at h
 |cons a r ih=>
  have e:ln (a::r)=i64 a.1:: .int .u32 (a.2:Int)::ln r:=rfl
  cases i with
  |zero=>rfl
  |succ i=>
   have:=ih (i:=i) (by simpa using h)
   have e2:ln ((a::r).set (i+1) y)=i64 a.1:: .int .u32 (a.2:Int)::ln (r.set i y):=rfl
   rw[e,e2,←this,show(i+1)*2=i*2+1+1 by omega]
   simp only[ao1]
structure NU where
 x:Nat
 b1:Nat
 b2:Nat
 b3:Nat
 mp:Nat
 s:Nat
def NU.row(B:NU)(z:Nat):Prop:=z=B.b1∨z=B.b2∨z=B.b3∨z=B.mp
structure vO(H:Hp)(B:NU)(lo n:Nat)(gs ov:Value)(S:Nat→Prop)(w:Nw)(A:Ar)(q:Int)(L:List ((Int×Nat)×Value))(sl:List Nat)(bl:List Int)(hl:List (Int×Nat)):Prop where
 o:H.own B.x=some [i64 n,gs,ptr B.s,.slice (some ⟨B.b1,0,none⟩) n n,.slice (some ⟨B.b2,0,none⟩) n n,.slice (some ⟨B.b3,0,none⟩) n n,.map (some B.mp),ov]
 o1:H.own B.b1=some (sl.map fun k:Nat=>i64 k)
 o2:H.own B.b2=some (bl.map i64)
 o3:H.own B.b3=some (ln hl)
 m:xD H B.mp L
 st:DC H B.s S w A q
 ns:¬S B.x∧¬S B.b1∧¬S B.b2∧¬S B.b3∧¬S B.mp
 ne:B.x≠B.b1∧B.x≠B.b2∧B.x≠B.b3∧B.x≠B.mp∧B.b1≠B.b2∧B.b1≠B.b3∧B.b1≠B.mp∧B.b2≠B.b3∧B.b2≠B.mp∧B.b3≠B.mp
 low:(∀z,S z→lo≤z)∧lo≤B.x∧lo≤B.b1∧lo≤B.b2∧lo≤B.b3∧lo≤B.mp
section
variable {H H' : Hp} {B : NU} {lo n : Nat} {gs ov : Value} {S S' T : Nat → Prop} {w w' : Nw} {A A' : Ar} {q q' : Int} {L L' : List ((Int × Nat) × Value)} {sl : List Nat} {bl : List Int} {hl : List (Int × Nat)}
theorem vO.ext(h:vO H B lo n gs ov S w A q L sl bl hl)(e:ag T H H')(hd:∀z,S z∨z=B.x∨B.row z→¬T z):vO H' B lo n gs ov S w A q L sl bl hl:=
 ⟨e.own h.o (hd _ (.inr (.inl rfl))),e.own h.o1 (hd _ (.inr (.inr (.inl rfl)))),e.own h.o2 (hd _ (.inr (.inr (.inr (.inl rfl))))),e.own h.o3 (hd _ (.inr (.inr (.inr (.inr (.inl rfl)))))),h.m.ext e (hd _ (.inr (.inr (.inr (.inr (.inr rfl)))))),h.st.ext e (fun z hz=>hd z (.inl hz)),h.ns,h.ne,h.low⟩
theorem vO.fresh(h:vO H B lo n gs ov S w A q L sl bl hl)(e:ah H H'):vO H' B lo n gs ov S w A q L sl bl hl:=h.ext e (fun _ _ h=>h)
theorem vO.lt(h:vO H B lo n gs ov S w A q L sl bl hl):∀z,S z∨z=B.x∨B.row z→z<H.size:=by
 rintro z (hz|rfl|rfl|rfl|rfl|rfl)
 ·exact h.st.slt z hz
 ·exact aB h.o
 ·exact aB h.o1
 ·exact aB h.o2
 ·exact aB h.o3
 ·exact h.m.lt
theorem vO.ge(h:vO H B lo n gs ov S w A q L sl bl hl):∀z,S z∨z=B.x∨B.row z→lo≤z:=by
 obtain⟨g,g1,g2,g3,g4,g5⟩:=h.low
 rintro z (hz|rfl|rfl|rfl|rfl|rfl)
 ·exact g z hz
 all_goals assumption
theorem vO.to(h:vO H B lo n gs ov S w A q L sl bl hl)(st:DC H' B.s S' w' A' q')(e:ag S H H')(hs:∀z,S' z→S z∨H.size≤z):vO H' B lo n gs ov S' w' A' q' L sl bl hl:=by
 have aO:=h.lt
 have hn:∀z,¬S z→z<H.size→¬S' z:=fun z h1 h2 h3=>by rcases hs z h3 with h|h;exact h1 h;omega
 obtain⟨n0,n1,n2,n3,n4⟩:=h.ns
 have hx:=aO B.x (.inr (.inl rfl))
 refine⟨e.own h.o n0,e.own h.o1 n1,e.own h.o2 n2,e.own h.o3 n3,h.m.ext e n4,st,⟨hn _ n0 hx,hn _ n1 (aB h.o1),hn _ n2 (aB h.o2),hn _ n3 (aB h.o3),hn _ n4 h.m.lt⟩,h.ne,fun z hz=>?_,h.low.2⟩
 have:=h.low.2.1
 rcases hs z hz with h1|h1
 ·exact h.low.1 z h1
 ·omega
theorem vO.uC(h:vO H B lo n gs ov S w A q L sl bl hl)(u v:Nat){l:List Value}(hv:l=(sl.map fun k:Nat=>i64 k).set u (i64 v)):vO (H.wr B.b1 l) B lo n gs ov S w A q L (sl.set u v) bl hl∧ag (fun z=>z=B.b1) H (H.wr B.b1 l):=by
 obtain⟨e,o⟩:=Lx h.o1 l
 have hn:=h.ne
 obtain⟨n0,n1,n2,n3,n4⟩:=h.ns
 refine⟨⟨e.own h.o (by omega),?_,e.own h.o2 (by omega),e.own h.o3 (by omega),h.m.ext e (by omega),h.st.ext e (fun z hz e=>n1 (by rw[←e];exact hz)),h.ns,h.ne,h.low⟩,e⟩
 rw[o,hv,ao4]
theorem vO.ab1(h:vO H B lo n gs ov S w A q L sl bl hl)(u:Nat)(v:Int){l:List Value}(hv:l=(bl.map i64).set u (i64 v)):vO (H.wr B.b2 l) B lo n gs ov S w A q L sl (bl.set u v) hl∧ag (fun z=>z=B.b2) H (H.wr B.b2 l):=by
 obtain⟨e,o⟩:=Lx h.o2 l
 have hn:=h.ne
 obtain⟨n0,n1,n2,n3,n4⟩:=h.ns
 refine⟨⟨e.own h.o (by omega),e.own h.o1 (by omega),?_,e.own h.o3 (by omega),h.m.ext e (by omega),h.st.ext e (fun z hz e=>n2 (by rw[←e];exact hz)),h.ns,h.ne,h.low⟩,e⟩
 rw[o,hv,ao4]
theorem vO.agY(h:vO H B lo n gs ov S w A q L sl bl hl)(u:Nat)(v:Int×Nat){l:List Value}(hv:l=ln (hl.set u v)):vO (H.wr B.b3 l) B lo n gs ov S w A q L sl bl (hl.set u v)∧ag (fun z=>z=B.b3) H (H.wr B.b3 l):=by
 obtain⟨e,o⟩:=Lx h.o3 l
 have hn:=h.ne
 obtain⟨n0,n1,n2,n3,n4⟩:=h.ns
 refine⟨⟨e.own h.o (by omega),e.own h.o1 (by omega),e.own h.o2 (by omega),?_,h.m.ext e (by omega),h.st.ext e (fun z hz e=>n3 (by rw[←e];exact hz)),h.ns,h.ne,h.low⟩,e⟩
 rw[o,hv]
theorem vO.put(h:vO H B lo n gs ov S w A q L sl bl hl)(hm:xD H' B.mp L')(e:ag (fun z=>z=B.mp) H H'):vO H' B lo n gs ov S w A q L' sl bl hl:=by
 have hn:=h.ne
 obtain⟨n0,n1,n2,n3,n4⟩:=h.ns
 exact⟨e.own h.o (by omega),e.own h.o1 (by omega),e.own h.o2 (by omega),e.own h.o3 (by omega),hm,h.st.ext e (fun z hz e=>n4 (by rw[←e];exact hz)),h.ns,h.ne,h.low⟩
end
end Go.Proofs.YtjlnnljohemifaaGreat

namespace Go.Proofs.YtjlnnljohemifaaGreat
open Go Go.Vc
theorem UE{α:Type}{l:List α}{i:Nat}{x:α}(h:l[i]? =some x):l.set i x=l:=by
 apply ao8
 intro j
 by_cases e:i=j
 ·subst e
  rw[j9 h,h]
 ·rw[dM e]
section
variable {H : Hp} {B : NU} {lo n : Nat} {ov : Value} {S : Nat → Prop} {w : Nw} {A : Ar} {L : List ((Int × Nat) × Value)} {sl : List Nat} {bl : List Int} {hl : List (Int × Nat)} {a : Option Addr} {c : Nat} {es : List Ed}
theorem sf(m:vO H B lo n (.slice a es.length c) ov S w A (L.length:Int) L sl bl hl)(g:xF es n w A L sl bl hl)(hn:n≤4096)(hr:cO H 3 (.slice a es.length c) es.length (dX es)){u:Nat}(hu:u<n){i:Nat}{e:Ed}(he:es[i]? =some e)(Vm:es.length≤1000000000)
  (hby:sl[u]? =some 1→LO es (bl.getD u 0)):
  af Tryz.prog vZ [ptr B.x,i64 u,i64 i] H fun v H'=>aw (v= .tuple [].toArray∧∃S' w' A' L' IP IQ ER,vO H' B lo n (.slice a es.length c) ov S' w' A' (L'.length:Int) L' IP IQ ER∧xF es n w' A' L' IP IQ ER∧abp es sl bl u i IP IQ∧ag (fun z=>S z∨B.row z) H H'∧∀z,S' z→S z∨H.size≤z):=by
 have qi:=(aoj.1 he).1
 obtain⟨_,be,oe,le,rfl,eW,nT,eG,kE,vC,sC⟩:=cO.oV hr he
 have Ti:wE es (i:Int)=e.w:=uV he
 obtain⟨k,hk⟩:∃k,sl[u]? =some k:=⟨_,aoh (by rw[g.l1];exact hu)⟩
 obtain⟨bu,hbu⟩:∃k,bl[u]? =some k:=⟨_,aoh (by rw[g.l2];exact hu)⟩
 obtain⟨hh,hhu⟩:∃k,hl[u]? =some k:=⟨_,aoh (by rw[g.l3];exact hu)⟩
 have z6:=g.two k (aon hk)
 have ck:(sl.map fun k:Nat=>i64 k)[u]? =some (i64 k):=by rw[aoG,hk];rfl
 have cb:(bl.map i64)[u]? =some (i64 bu):=by rw[aoG,hbu];rfl
 have TV:bl.getD u 0=bu:=by rw[aom,hbu];rfl
 have sG:=g.l1
 have oJ:=g.l2
 have RN:=g.l3
 refine Fa wM ⟨rfl,?_⟩
 refine v2 l9.eq_1 (ae m.o) ?_
 refine⟨⟨by omega,by omega⟩,?_⟩
 refine v4 eW Int.toNat_natCast sC (ae m.o) ?_
 refine⟨⟨by omega,by omega⟩,?_⟩
 refine v5 (ae m.o1) Int.toNat_natCast aol aoi ck ?_
 refine am.dec (fun h2=>?_) (fun h2=>?_)<;>refine vs ?_
 ·have h2:k=2:=by omega
  subst h2
  exact⟨rfl,S,w,A,L,sl,bl,hl,m,g,.inl ⟨rfl,rfl,.inl hk⟩,ag.refl _ _,fun z hz=>.inl hz⟩
 refine v1 (ae m.o) ?_
 refine⟨⟨by omega,by omega⟩,?_⟩
 refine v5 (ae m.o1) Int.toNat_natCast aol aoi ck ?_
 refine am.dec (fun h0=>?_) (fun h0=>?_)<;>refine v1 (ae m.o) ?_
 ·have h0:k=0:=by omega
  subst h0
  refine(FR m.st g.hs (fun x x0 _=>by have:=g.Xm x0;omega) (by have:=g.aS;omega)).mono ?_
  rintro _ H1 (⟨bO,_⟩| ⟨x,A',Zb,rfl,S1,Tl,e1,eK⟩)
  ·exact absurd bO (g.room hk)
  obtain⟨sd,hG⟩:=g.put Zb hk (i:Int) ((L.length:Int)+1)
  obtain⟨hx,_⟩:=Ar.vH Zb g.ok
  rw[Ti]at hG
  have m1:=m.to Tl e1 eK
  have Ly:=e1.size
  refine vs ?_
  obtain⟨f2,b2,z2⟩:=Nq H1 114 [Value.int .i64 0,Value.int .u32 0] [i64 x,Value.int .u32 ((A.bC x+1:Nat):Int)]
  generalize hhb:H1.size=hb at*
  generalize (H1.new 114 [Value.int .i64 0,Value.int .u32 0]).wr hb [i64 x,Value.int .u32 ((A.bC x+1:Nat):Int)]=H2 at*
  have m2:=m1.fresh f2
  refine jB.intro (fun H'=>H'.own B.x=some [i64 n,.slice (some ⟨be,oe,none⟩) es.length c,ptr B.s,.slice (some ⟨B.b1,0,none⟩) n n,.slice (some ⟨B.b2,0,none⟩) n n,.slice (some ⟨B.b3,0,none⟩) n n,.map (some B.mp),ov]∧H'.own hb=some [i64 x,Value.int .u32 ((A.bC x+1:Nat):Int)]) ⟨m2.o,b2⟩ ?_
  refine vs ?_
  refine fJ.intro (.slice (some ⟨B.b1,0,none⟩) n n) (fun H' hI=>by refine v1 (ae hI.1) ?_;exact⟨trivial,trivial⟩) ?_
  refine vs ?_
  refine fJ.intro (.slice (some ⟨B.b2,0,none⟩) n n) (fun H' hI=>by refine v1 (ae hI.1) ?_;exact⟨trivial,trivial⟩) ?_
  refine vs ?_
  refine fJ.intro (.slice (some ⟨B.b3,0,none⟩) n n) (fun H' hI=>by refine v1 (ae hI.1) ?_;exact⟨trivial,trivial⟩) ?_
  refine vs ?_
  refine fJ.intro (gA x (A.bC x+1)) (fun H' hI=>by refine v1 (ae hI.2) ?_;exact⟨trivial,trivial⟩) ?_
  refine vs ?_
  refine⟨⟨by omega,by omega⟩,?_⟩
  refine v4 m2.o1 Int.toNat_natCast aol aoi ?_
  refine⟨by rw[aoF];omega,?_⟩
  refine vs ?_
  obtain⟨m3,e3⟩:=m2.uC u 1 (l:=(sl.map fun k:Nat=>i64 k).set u (i64 1)) rfl
  have UF:=m1.lt
  have aP:hb≠B.b1∧hb≠B.b2∧hb≠B.b3∧hb≠B.mp:=by
   have h1:=UF B.b1 (by simp[NU.row])
   have h2:=UF B.b2 (by simp[NU.row])
   have h3:=UF B.b3 (by simp[NU.row])
   have h4:=UF B.mp (by simp[NU.row])
   omega
  have b3:=e3.own b2 aP.1
  generalize H2.wr B.b1 ((sl.map fun k:Nat=>i64 k).set u (i64 1))=H3 at*
  refine And.intro ⟨m3.o,b3⟩ ?_
  refine vs ?_
  refine⟨⟨by omega,by omega⟩,?_⟩
  refine v4 m3.o2 Int.toNat_natCast aol aoi ?_
  refine⟨by rw[aoF];omega,?_⟩
  refine vs ?_
  obtain⟨m4,e4⟩:=m3.ab1 u (i:Int) rfl
  have b4:=e4.own b3 aP.2.1
  generalize H3.wr B.b2 ((bl.map i64).set u (i64 i))=H4 at*
  refine And.intro ⟨m4.o,b3⟩ ?_
  refine vs ?_
  refine⟨⟨by omega,by omega⟩,?_⟩
  refine v3 m4.o3 Int.toNat_natCast aoi ?_
  refine⟨by rw[IV];omega,?_⟩
  refine vs ?_
  obtain⟨m5,e5⟩:=m4.agY u (x,A.bC x+1) (Qs (by omega))
  have b5:=e5.own b4 aP.2.2.1
  simp only at m5 e5 b5
  generalize H4.wr B.b3 (((ln hl).set (u*2) (i64 x)).set (u*2+1) (.int .u32 ((A.bC x+1:Nat):Int)))=H5 at*
  refine And.intro ⟨m5.o,b4⟩ ?_
  refine v2 (ae m5.o) (ae b5) ?_
  refine⟨IM _ _,?_⟩
  refine xD.Y5 m5.m (a:=(x,A.bC x+1)) sd fun H6 mp6 e6=>?_
  refine vs ?_
  have m6:=m5.put mp6 e6
  have el:((L++[((x,A.bC x+1),i64 (u:Int))]).length:Int)=(L.length:Int)+1:=by rw[aor];rfl
  refine⟨rfl,S1,_,_,_,_,_,_,?_,hG,.inr ⟨rfl,rfl,.inl hk⟩,?_,eK⟩
  ·rw[el];exact m6
  ·have t1:ag (fun z=>S z∨B.row z) H H2:=(e1.mono fun z _ h=>.inl h).trans (f2.mono fun z _ h=>h.elim)
   exact(((t1.trans (e3.mono fun z _ h=>.inr (.inl h))).trans (e4.mono fun z _ h=>.inr (.inr (.inl h)))).trans (e5.mono fun z _ h=>.inr (.inr (.inr (.inl h))))).trans (e6.mono fun z _ h=>.inr (.inr (.inr (.inr h))))
 have h1:k=1:=by omega
 subst h1
 have bJ:=hby hk
 rw[TV]at bJ
 obtain⟨j,e',hj,iG,Y2⟩:=bJ.get
 subst hj
 obtain⟨_,be',oe',le',UC,Ge,_,_,hd0,Pn,iP⟩:=cO.oV hr iG
 injection UC with UC
 injection UC with Lm oR
 subst Lm oR
 rw[eW]at Ge
 injection Ge with Ge
 subst Ge
 have TU:wE es (j:Int)=e'.w:=uV iG
 refine⟨⟨by omega,by omega⟩,?_⟩
 refine v5 (ae m.o2) Int.toNat_natCast aol aoi cb ?_
 refine⟨⟨by omega,by omega⟩,?_⟩
 refine v3 eW Int.toNat_natCast iP ?_
 refine am.dec (fun aO=>?_) (fun aO=>?_)<;>refine vs ?_
 rotate_left
 ·exact⟨rfl,S,w,A,L,sl,bl,hl,m,g,.inl ⟨rfl,rfl,.inr ⟨hk,by rw[TV,Ti,TU];omega⟩⟩,ag.refl _ _,fun z hz=>.inl hz⟩
 obtain⟨x,s,x0,q1,q2,q3⟩:=g.c2 u hk
 rw[hhu]at q1
 injection q1 with q1
 subst q1
 obtain⟨k1,k2,k3⟩:=SI hhu
 simp only at k1 k2 k3
 have jT:A.live x:=(g.lk.live x).1 ⟨x0,_,q2,by simp⟩
 refine v1 (ae m.o) ?_
 refine⟨⟨by omega,by omega⟩,?_⟩
 refine v3 (ae m.o3) Int.toNat_natCast aoi ?_
 refine⟨by rw[IV];omega,?_⟩
 refine v1 k3 ?_
 refine(xE m.st jT e.w).mono ?_
 rintro _ H1 ⟨y,hy,⟨bO,_⟩| ⟨_,rfl,S1,Tl,e1,eK⟩⟩
 ·rw[q2]at hy
  injection hy with hy
  subst hy
  rw[TV,TU]at bO
  simp only at bO
  omega
 have hG:=g.lower hk x0 hhu hy (i:Int)
 rw[Ti]at hG
 have m1:=m.to Tl e1 eK
 refine v1 (ae m1.o) ?_
 refine⟨⟨by omega,by omega⟩,?_⟩
 refine v4 m1.o2 Int.toNat_natCast aol aoi ?_
 refine⟨by rw[aoF];omega,?_⟩
 refine vs ?_
 obtain⟨m2,e2⟩:=m1.ab1 u (i:Int) rfl
 rw[q2]at hy
 injection hy with hy
 subst hy
 exact⟨rfl,S1,_,A,L,sl,_,hl,m2,hG,.inr ⟨(UE hk).symm,rfl,.inr ⟨hk,by rw[TV,Ti,TU];omega⟩⟩,(e1.mono fun z _ h=>.inl h).trans (e2.mono fun z _ h=>.inr (.inr (.inl h))),eK⟩
end
end Go.Proofs.YtjlnnljohemifaaGreat

namespace Go.Proofs.YtjlnnljohemifaaGreat
open Go Go.Vc
section
variable {Hh H : Hp} {B : NU} {lo n : Nat} {ov : Value} {S : Nat → Prop} {w : Nw} {A : Ar} {L : List ((Int × Nat) × Value)} {sl : List Nat} {bl : List Int} {hl : List (Int × Nat)} {a : Option Addr} {c : Nat} {es : List Ed}
theorem ju(m:vO H B lo n (.slice a es.length c) ov S w A (L.length:Int) L sl bl hl)(sV:fj (n:Int) es)(hr:cO Hh 3 (.slice a es.length c) es.length (dX es))(fH:ah Hh H)(Jx:Hh.size≤lo)
  {v:Nat}(hv:v<n)(g:xF es n w A L (sl.set v 2) bl hl){tB tb:Nat}{fp:Nat→Option Nat}(t:B4 H tB tb n (fun v=>bi (qT v) 0 es) fp)(ht:∀z,(z=tb∨∃i,i<n∧fp i=some z)→¬ (S z∨z=B.x∨B.row z))
  {D:Nat→Prop}{o:List Nat}{k:Nat→Int}{T:List Int}(gs:NK es D o k T (sl.set v 2) bl (bi (qT v) 0 es))(jf:o[o.length - 1]? =some v):
  af Tryz.prog vY [ptr B.x,i64 v,.slice (some ⟨tb,0,none⟩) n n] H fun r H'=>aw (r= .tuple [].toArray∧∃S' w' A' L' IP IQ ER,vO H' B lo n (.slice a es.length c) ov S' w' A' (L'.length:Int) L' IP IQ ER∧xF es n w' A' L' IP IQ ER∧NK es D o k T IP IQ []∧ag (fun z=>S z∨B.row z) H H'∧∀z,S' z→S z∨H.size≤z):=by
 have vW:n≤4096:=by have:=sV.n1;omega
 have Vm:=sV.len
 have z7:sl.length=n:=by have:=g.l1;rw[aok]at this;exact this
 refine bv wL ?_
 refine v1 (ae m.o) ?_
 refine⟨⟨by omega,by omega⟩,?_⟩
 refine v4 m.o1 Int.toNat_natCast aol aoi ?_
 refine⟨by rw[aoF];omega,?_⟩
 refine vs ?_
 obtain⟨m1,e1⟩:=m.uC v 2 (l:=(sl.map fun k:Nat=>i64 k).set v (i64 2)) rfl
 generalize H.wr B.b1 ((sl.map fun k:Nat=>i64 k).set v (i64 2))=H1 at*
 have aO:=m.lt
 have OC:=m.ge
 have x1:ag (fun z=>S z∨B.row z) H H1:=e1.mono fun z _ h=>.inr (.inl h)
 obtain⟨cS,sv,HT,ami,yg,BB⟩:=t.get hv
 have ho:=x1.own HT (fun h=>ht tb (.inl rfl) (h.imp_right .inr))
 refine⟨⟨by omega,by omega⟩,?_⟩
 refine v5 (ae ho) Int.toNat_natCast aol aoi yg ?_
 obtain⟨ra,rc,rfl,hrc⟩:=cJ BB
 have hql:=pK (qT v) es 0
 refine vs ?_
 obtain⟨row,JX⟩:∃row,row=bi (qT v) 0 es:=⟨_,rfl⟩
 rw[←JX]at BB gs hql ⊢
 have hP:∀z,fp v=some z→¬ (S z∨z=B.x∨B.row z):=fun z hz=>ht z (.inr ⟨v,hv,hz⟩)
 refine aX.intro (fun mm env H'=>∃ (j:Nat) (S':Nat→Prop) (w':Nw) (A':Ar) (L':List ((Int×Nat)×Value)) (IP:List Nat) (IQ:List Int) (ER:List (Int×Nat)),mm=row.length - j∧j≤row.length∧vO H' B lo n (.slice a es.length c) ov S' w' A' (L'.length:Int) L' IP IQ ER∧xF es n w' A' L' IP IQ ER∧NK es D o k T IP IQ (row.drop j)∧ag (fun z=>S z∨B.row z) H H'∧(∀z,S' z→S z∨H.size≤z)∧
  env=[(0,ptr B.x),(1,i64 v),(18,.slice ra row.length rc),(19,i64 row.length),(20,i64 j)]) row.length ⟨0,S,w,A,L,sl.set v 2,bl,hl,rfl,ap2 _,m1,g,gs,x1,fun z hz=>.inl hz,rfl⟩ ?_
 clear m1 e1 x1 ho yg gs g
 rintro mm env H2 ⟨j,S2,w2,A2,L2,IK,bl2,oJ,rfl,hj,m2,g2,gs2,x2,Kk,rfl⟩
 have dL:=x2.size
 have fH2:ah Hh H2:=fH.then x2 (fun z hz=>by have:=OC z (hz.imp_right .inr);omega)
 refine vs ?_
 refine am.dec (fun zJ=>?_) (fun zJ=>?_)<;>refine vs ?_
 rotate_left
 ·have fS:j=row.length:=by omega
  subst fS
  rw[List.drop_length]at gs2
  exact⟨rfl,S2,w2,A2,L2,IK,bl2,oJ,m2,g2,gs2,x2,Kk⟩
 have fS:j<row.length:=by omega
 obtain⟨ii,hii⟩:∃x,row[j]? =some x:=⟨_,aoh fS⟩
 have bK:ii∈bi (qT v) 0 es:=by rw[←JX];exact aon hii
 have cX:=Xn bK
 have XY:=(BC sV cX).2 bK
 obtain⟨i,e,rfl,he,qi⟩:=(js.1 cX).get
 have ab3:=BB.ext x2 (fun z hz h=>hP z hz (h.imp_right .inr))
 obtain⟨_,rb,ro,rl,rfl,ag1,ag2⟩:=cO.num ab3.rd hii
 refine⟨⟨by omega,by omega⟩,?_⟩
 refine v5 ag1 Int.toNat_natCast aol ag2 (ae m2.o) ?_
 have r2:=hr.fresh fH2
 obtain⟨_,be,oe,le,rfl,eW,nT,eG,kE,vC,sC⟩:=cO.oV r2 he
 obtain⟨ef0,ef1,et0,et1⟩:=sV.ends e (aon he)
 refine⟨⟨by omega,by omega⟩,?_⟩
 simp(disch:=(first|omega| (simp only[Zs]<;>omega)|fail)) only[go_sem, ↓reduceIte,Zv,eW,Int.toNat_natCast,eG,eE]
 refine⟨by omega,?_⟩
 simp(disch:=(first|omega| (simp only[Zs]<;>omega)|fail)) only[go_sem, ↓reduceIte,Zv,eG,eE]
 obtain⟨f3,b3,z3⟩:=Nq H2 61 [i64 0,i64 0,i64 0] [i64 e.f,i64 e.t,i64 e.w]
 generalize GO:H2.size=cb at*
 generalize (H2.new 61 [i64 0,i64 0,i64 0]).wr cb [i64 e.f,i64 e.t,i64 e.w]=H3 at*
 have m3:=m2.fresh f3
 refine v1 (ae b3) ?_
 rw[BA he]at XY
 have hu:((e.f.toNat+e.t.toNat - v:Nat):Int)=e.f+e.t - v∧e.f.toNat+e.t.toNat - v<n:=by
  unfold Touch at XY
  simp only at XY
  omega
 have hou:e.f.toNat+e.t.toNat - v=other (fE es (i:Int)) v:=by rw[BA he];rfl
 rw[wrap64 (n:=e.f+e.t) (by omega) (by omega),←hu.1,wrap64 (by omega) (by omega)]
 generalize e.f.toNat+e.t.toNat - v=u at*
 have qt:row.drop j=(i:Int)::row.drop (j+1):=by
  rw[apq fS]
  congr 1
  rw[aoh fS]at hii
  injection hii
 rw[qt]at gs2
 refine(sf m3 g2 vW (r2.fresh f3) hu.2 he (by omega) (fun hw=>?_)).mono ?_
 ·obtain⟨_,_,_,hb,_⟩:=gs2.P.wait u hw
  exact js.1 hb
 rintro _ H4 ⟨rfl,S4,w4,A4,L4,VF,bl4,Ui,m4,g4,off,e4,WN⟩
 refine vs ?_
 rw[wrap64 (n:=(j:Int)+1) (by omega) (by omega)]
 have gs4:=gs2.offer jf cX ((BC sV cX).2 bK) hou (by rw[g2.l2];exact hu.2) off
 have WR:=e4.size
 have MH:=f3.size
 refine⟨row.length - (j+1),by omega,j+1,S4,w4,A4,L4,VF,bl4,Ui,rfl,by omega,m4,g4,gs4,⟨by omega,fun z hz hn=>?_⟩,fun z hz=>?_,rfl⟩
 ·rw[e4.aM z (by omega) (fun h=>?_),f3.aM z (by omega) (fun h=>h),x2.aM z hz hn]
  rcases h with h|h
  ·rcases Kk z h with h|h
   ·exact hn (.inl h)
   ·omega
  ·exact hn (.inr h)
 ·rcases WN z hz with h|h
  ·exact Kk z h
  ·exact .inr (by omega)
end
end Go.Proofs.YtjlnnljohemifaaGreat

namespace Go.Proofs.YtjlnnljohemifaaGreat
open Go Go.Vc
structure GX(H:Hp)(B:NU)(lo N:Nat)(gs:Value)(es:List Ed)(tB tb:Nat)(fp:Nat→Option Nat)(S:Nat→Prop)(w:Nw)(A:Ar)(L:List ((Int×Nat)×Value))(sl:List Nat)(bl:List Int)(hl:List (Int×Nat))(T:List Int)(ov:Value)(EI:Option Nat):Prop where
 m:vO H B lo N gs ov S w A (L.length:Int) L sl bl hl
 t:B4 H tB tb N (fun v=>bi (qT v) 0 es) fp
 td:∀z,(z=tb∨∃i,i<N∧fp i=some z)→¬ (S z∨z=B.x∨B.row z)
 os:Sl H 1 ov T.length (T.map i64) EI
 od:∀b,EI=some b→lo≤b∧¬ (S b∨b=B.x∨B.row b)∧¬ (b=tb∨∃i,i<N∧fp i=some b)
section
variable {H H' : Hp} {B : NU} {lo N : Nat} {gs : Value} {es : List Ed} {tB tb : Nat} {fp : Nat → Option Nat} {S S' : Nat → Prop} {w w' : Nw} {A A' : Ar} {L L' : List ((Int × Nat) × Value)} {sl IP : List Nat} {bl IQ : List Int} {hl ER : List (Int × Nat)} {T : List Int} {ov ZE : Value} {EI : Option Nat}
theorem GX.tlt(p:GX H B lo N gs es tB tb fp S w A L sl bl hl T ov EI):∀z,(z=tb∨∃i,i<N∧fp i=some z)→z<H.size:=by
 rintro z (rfl| ⟨i,hi,hp⟩)
 ·exact p.t.lt
 ·obtain⟨_,_,_,_,_,s0⟩:=p.t.get hi
  rw[hp]at s0
  exact Sl.lt s0
theorem GX.olt(p:GX H B lo N gs es tB tb fp S w A L sl bl hl T ov EI):∀b,EI=some b→b<H.size:=fun b hb=>by
 have:=p.os
 rw[hb]at this
 exact Sl.lt this
theorem GX.go(p:GX H B lo N gs es tB tb fp S w A L sl bl hl T ov EI)(m':vO H' B lo N gs ov S' w' A' (L'.length:Int) L' IP IQ ER)(e:ag (fun z=>S z∨B.row z) H H')(hs:∀z,S' z→S z∨H.size≤z):GX H' B lo N gs es tB tb fp S' w' A' L' IP IQ ER T ov EI:=by
 have h1:=p.tlt
 have h2:=p.olt
 have imp:∀z,z<H.size→(S' z∨z=B.x∨B.row z)→(S z∨z=B.x∨B.row z):=fun z hz h=>by
  rcases h with h|h
  ·rcases hs z h with h|h
   ·exact .inl h
   ·omega
  ·exact .inr h
 refine⟨m',p.t.ext e (fun h=>p.td tb (.inl rfl) (h.imp_right .inr)) (fun i q hi hq h=>p.td q (.inr ⟨i,hi,hq⟩) (h.imp_right .inr)),fun z hz h=>p.td z hz (imp z (h1 z hz) h),p.os.ext e (fun b hb h=>(p.od b hb).2.1 (h.imp_right .inr)),fun b hb=>⟨(p.od b hb).1,fun h=>(p.od b hb).2.1 (imp b (h2 b hb) h),(p.od b hb).2.2⟩⟩
theorem GX.fresh(p:GX H B lo N gs es tB tb fp S w A L sl bl hl T ov EI)(e:ah H H'):GX H' B lo N gs es tB tb fp S w A L sl bl hl T ov EI:=
 p.go (p.m.fresh e) (e.mono fun _ _ h=>h.elim) (fun z hz=>.inl hz)
theorem GX.to(p:GX H B lo N gs es tB tb fp S w A L sl bl hl T ov EI)(st:DC H' B.s S' w' A' (L.length:Int))(e:ag S H H')(hs:∀z,S' z→S z∨H.size≤z):GX H' B lo N gs es tB tb fp S' w' A' L sl bl hl T ov EI:=
 p.go (p.m.to st e hs) (e.mono fun z _ h=>.inl h) hs
theorem GX.push{H1 H2 H3:Hp}{cP:Option Nat}{x:Int}(p:GX H B lo N gs es tB tb fp S w A L sl bl hl T ov EI)(f:ah H H1)(s:Sl H2 1 ZE (T.length+1) (T.map i64++[i64 x]) cP)(e:ag (fun z=>EI=some z) H1 H2)(hf:cP=EI∨∃b,cP=some b∧H1.size≤b∧b<H2.size)
  (h3:H3=H2.wr B.x [i64 N,gs,ptr B.s,.slice (some ⟨B.b1,0,none⟩) N N,.slice (some ⟨B.b2,0,none⟩) N N,.slice (some ⟨B.b3,0,none⟩) N N,.map (some B.mp),ZE]):GX H3 B lo N gs es tB tb fp S w A L sl bl hl (T++[x]) ZE cP∧ag (fun z=>EI=some z∨z=B.x) H H3:=by
 subst h3
 have h1:=p.tlt
 have hz:=f.size
 have aO:=p.m.lt
 have OC:=p.m.ge
 have hn:=p.m.ne
 have e0:ag (fun z=>EI=some z) H H2:=(f.mono fun _ _ h=>h.elim).nu e (fun _ _ h=>h)
 have m2:=p.m.ext e0 (fun z hz h=>(p.od z h).2.1 hz)
 obtain⟨ex,ox⟩:=Lx m2.o [i64 N,gs,ptr B.s,.slice (some ⟨B.b1,0,none⟩) N N,.slice (some ⟨B.b2,0,none⟩) N N,.slice (some ⟨B.b3,0,none⟩) N N,.map (some B.mp),ZE]
 obtain⟨n0,_⟩:=p.m.ns
 have hxs:=aO B.x (.inr (.inl rfl))
 have mF:=p.m.low.2.1
 have nfp:∀b,cP=some b→lo≤b∧¬ (S b∨b=B.x∨B.row b)∧¬ (b=tb∨∃i,i<N∧fp i=some b):=fun b hb=>by
  rcases hf with h| ⟨b',h1',h2,_⟩
  ·exact p.od b (by rw[←h];exact hb)
  ·rw[hb]at h1'
   injection h1' with h1'
   subst h1'
   exact⟨by omega,fun h=>by have:=aO b h;omega,fun h=>by have:=h1 b h;omega⟩
 refine⟨⟨⟨ox,ex.own m2.o1 (by omega),ex.own m2.o2 (by omega),ex.own m2.o3 (by omega),m2.m.ext ex (by omega),m2.st.ext ex (fun z hz e=>n0 (by rw[←e];exact hz)),p.m.ns,p.m.ne,p.m.low⟩,(p.t.ext e0 (fun h=>(p.od tb h).2.2 (.inl rfl)) (fun i q hi hq h=>(p.od q h).2.2 (.inr ⟨i,hi,hq⟩))).ext ex (fun h=>p.td tb (.inl rfl) (.inr (.inl h))) (fun i q hi hq h=>p.td q (.inr ⟨i,hi,hq⟩) (.inr (.inl h))),p.td,?_,nfp⟩,(e0.mono fun z _ h=>.inl h).trans (ex.mono fun z _ h=>.inr h)⟩
 rw[aor,aoN]
 exact s.ext ex (fun b hb h=>(nfp b hb).2.1 (.inr (.inl h)))
end
theorem si{n:Int}{es:List Ed}{T:List Int}(hr:fj n es)(h:gF (T.map (fE es)))(hi:∀i∈T,i∈allI es.length):T.length≤n.toNat:=by
 have:=Ab (n:=n.toNat) h (fun e he=>by
  obtain⟨i,hm,rfl⟩:=aoC.1 he
  exact se hr (js.1 (hi i hm)))
 rw[aoF]at this
 omega
theorem Qt{n:Int}{es:List Ed}{T T':List Int}(hr:fj n es)(hp:T.Perm T')(h:jU n es T)(hl:NI es T):jU n es T'∧NI es T':=by
 have hm:(T.map (fE es)).Perm (T'.map (fE es)):=hp.map _
 refine⟨⟨fun i hi=>h.ins i (hp.mem_iff.2 hi),Pp (n:=n.toNat) hm (fun e he=>?_) h.vU,fun u v hh=>(B7 hm u v).1 (h.all u v hh)⟩,fun i hi=>?_⟩
 ·obtain⟨i,hi,rfl⟩:=aoC.1 he
  exact h.abj hr i hi
 ·have hs:((zZ (wE es) T (wE es i)).map (fE es)).Perm ((zZ (wE es) T' (wE es i)).map (fE es)):=(hp.filter _).map _
  exact(B7 hs _ _).1 (hl i hi)
theorem Gr(T:List Int):T.Perm (je T):=(List.mergeSort_perm _ _).symm
theorem SJ{T:List Int}(h:T.Nodup):(je T).Pairwise (· < ·):=by
 have h1:(je T).Pairwise fun x y=>decide (x≤y)=true:=List.pairwise_mergeSort (fun a b c h1 h2=>by simp only[aoL]at*;omega) (fun a b=>by simp only[ap6,aoL];omega) T
 have h2:(je T).Nodup:=(Gr T).nodup_iff.1 h
 refine List.Pairwise.imp₂ (fun a b BZ aP=>?_) h1 h2
 simp only[aoL]at BZ
 omega
def Next(es:List Ed)(N:Nat)(w:Nw)(A:Ar)(L:List ((Int×Nat)×Value))(sl:List Nat)(bl:List Int)(hl:List (Int×Nat))(x:Int)(gg:Nat)(er:Int):Prop:=
 (er=172∧xF es N w A L sl bl hl∧∀v:Nat,sl[v]? ≠some 1)∨
 (er=0∧∃v:Nat,sl[v]? =some 1∧((x,gg),i64 v)∈L∧(∀u:Nat,sl[u]? =some 1→wE es (bl.getD v 0)≤wE es (bl.getD u 0))∧xF es N w A L (sl.set v 2) bl hl)
theorem IW{H:Hp}{B:NU}{lo N:Nat}{gs:Value}{es:List Ed}{tB tb:Nat}{fp:Nat→Option Nat}{S:Nat→Prop}{w:Nw}{A:Ar}{L:List ((Int×Nat)×Value)}{sl:List Nat}{bl:List Int}{hl:List (Int×Nat)}{T:List Int}{ov:Value}{EI:Option Nat}
  (p:GX H B lo N gs es tB tb fp S w A L sl bl hl T ov EI)(g:xF es N w A L sl bl hl):af Tryz.prog jD [ptr B.s,i64 1] H fun v H'=>aw (
  ∃ (x:Int) (gg:Nat) (k er:Int) (S':Nat→Prop) (w':Nw) (A':Ar),v= .tuple [gA x gg,i64 k,i64 er].toArray∧GX H' B lo N gs es tB tb fp S' w' A' L sl bl hl T ov EI∧Next es N w' A' L sl bl hl x gg er∧ag S H H'∧∀z,S' z→S z∨H.size≤z):=by
 refine(zD p.m.st g.hs).mono ?_
 rintro _ H1 (⟨h0,rfl,S1,Tl,e1,eK⟩| ⟨x,y,hx,hy,rfl,S1,Tl,e1,eK⟩)
 ·exact⟨0,0,0,172,S1,w,A,rfl,p.to Tl e1 eK,.inl ⟨rfl,g,g.none_ h0⟩,e1,eK⟩
 ·obtain⟨v,q1,q2,q3,q4⟩:=g.take hx hy
  exact⟨x,A.bC x,y.2.1,0,S1,_,_,rfl,p.to Tl e1 eK,.inr ⟨rfl,v,q1,q2,q3,q4⟩,e1,eK⟩
end Go.Proofs.YtjlnnljohemifaaGreat

namespace Go.Proofs.YtjlnnljohemifaaGreat
open Go Go.Vc
def ab4(H H':Hp)(kd dd n:Int)(es:List Ed)(v:Value):Prop:=
 (¬gD kd dd∧v= .tuple [.slice none 0 0,i64 (RS kd dd)].toArray)∨(gD kd dd∧ec n es=false∧v= .tuple [.slice none 0 0,i64 201].toArray)∨
 (gD kd dd∧ec n es=true∧∃ (T:List Int) (sv:Value) (fp:Option Nat),v= .tuple [sv,i64 0].toArray∧Sl H' 1 sv T.length (T.map i64) fp∧(∀b,fp=some b→H.size≤b)∧jU n es T∧NI es T∧T.Pairwise (· < ·))
theorem SK(n:Nat):cE [Value.int .i64 0,Value.int .u32 0] n=ln (List.replicate n (0,0)):=by
 induction n with
 |zero=>rfl
 |succ n ih=>
  rw[aoY]
  show[Value.int .i64 0,Value.int .u32 0]++cE [Value.int .i64 0,Value.int .u32 0] n=_
  rw[ih]
  rfl
theorem UG{H H':Hp}{lo N x b1 b2 b3 mp s:Nat}{gs g:Value}{S:Nat→Prop}{w:Nw}{A:Ar}(st:DC H s S w A 0)(hS:∀z,S z→lo≤z)(Jx:lo≤H.size)
  (o:H'.own x=some [i64 N,gs,ptr s,.slice (some ⟨b1,0,none⟩) N N,.slice (some ⟨b2,0,none⟩) N N,.slice (some ⟨b3,0,none⟩) N N,.map (some mp),.slice none 0 0])(o1:H'.own b1=some (cE [i64 0] N))(o2:H'.own b2=some (cE [i64 0] N))(o3:H'.own b3=some (cE [i64 0,.int .u32 0] N))(m:H'.mp mp=some ([],0))
  (f:ah H H')(hb:H.size≤x∧H.size≤b1∧H.size≤b2∧H.size≤b3∧H.size≤mp)(ne:x≠b1∧x≠b2∧x≠b3∧x≠mp∧b1≠b2∧b1≠b3∧b1≠mp∧b2≠b3∧b2≠mp∧b3≠mp):
  ∃B:NU,([(3,g),(8,ptr s),(10,ptr x)]:Env)=[(3,g),(8,ptr s),(10,ptr B.x)]∧B.s=s∧vO H' B lo N gs (.slice none 0 0) S w A 0 [] (List.replicate N 0) (List.replicate N 0) (List.replicate N (0,0))∧ah H H':=by
 have hn:∀z,H.size≤z→¬S z:=fun z hz h=>by have:=st.slt z h;omega
 have e0:cE [i64 0] N=List.replicate N (i64 0):=by rw[Bn,aqr]
 refine⟨⟨x,b1,b2,b3,mp,s⟩,rfl,rfl,⟨o,?_,?_,by rw[o3,←SK],⟨[],0,m,rfl,aps⟩,st.ext f (fun _ _ h=>h),⟨hn _ hb.1,hn _ hb.2.1,hn _ hb.2.2.1,hn _ hb.2.2.2.1,hn _ hb.2.2.2.2⟩,ne,hS,by simp only;omega⟩,f⟩
 ·rw[o1,e0,aqr];rfl
 ·rw[o2,e0,aqr]
theorem u9{H:Hp}(kd dd:Int)(Aa:gD kd dd→Sb kd dd){n:Int}{a:Option Addr}{c:Nat}{es:List Ed}(h:cO H 3 (.slice a es.length c) es.length (dX es))(hm:es.length≤1000000000):
  af Tryz.prog KL [Nr kd dd,zK n (.slice a es.length c)] H fun v H'=>aw (ah H H'∧ab4 H H' kd dd n es v):=by
 refine Fa KT ⟨rfl,?_⟩
 simp(disch:=(first|omega| (simp only[Zs]<;>omega)|fail)) only[go_sem, ↓reduceIte,Zv,Dv,zK]
 have f0:ah H (H.new 23 [i64 kd,i64 dd]):=(ag.refl _ _).new _ _
 have b0:(H.new 23 [i64 kd,i64 dd]).own H.size=some [i64 kd,i64 dd]:=az _ _ _
 have z0:(H.new 23 [i64 kd,i64 dd]).size=H.size+1:=ap _ _ _
 generalize H.new 23 [i64 kd,i64 dd]=H0 at*
 have f1:ah H0 (H0.new 52 [i64 n,.slice a es.length c]):=(ag.refl _ _).new _ _
 have b1:(H0.new 52 [i64 n,.slice a es.length c]).own H0.size=some [i64 n,.slice a es.length c]:=az _ _ _
 have z1:(H0.new 52 [i64 n,.slice a es.length c]).size=H0.size+1:=ap _ _ _
 have a1:=f1.own b0 (fun h=>h)
 rw[z0]at b1 z1
 generalize H0.new 52 [i64 n,.slice a es.length c]=H1 at*
 refine v1 (ae a1) ?_
 refine(nK kd dd H1).mono ?_
 rintro _ H2 ⟨rfl,f2⟩
 have g2:=(f0.trans f1).trans f2
 have a2:=f2.own a1 (fun h=>h)
 have b2:=f2.own b1 (fun h=>h)
 refine vs ?_
 refine am.dec (fun hc=>?_) (fun hc=>?_)<;>refine vs ?_
 rotate_left
 ·exact⟨g2,.inl ⟨fun hf=>hc (LC hf),rfl⟩⟩
 have hf:gD kd dd:=LD.1 (by omega)
 refine v1 (ae b2) ?_
 refine(qB (n:=n) (h.fresh g2) hm).mono ?_
 rintro _ H3 ⟨rfl,f3⟩
 have g3:=g2.trans f3
 have a3:=f3.own a2 (fun h=>h)
 have b3:=f3.own b2 (fun h=>h)
 by_cases hr:ec n es=true
 rotate_left
 ·rw[if_neg hr]
  refine v1 aoZ ?_
  exact⟨g3,.inr (.inl ⟨hf,by simpa using hr,rfl⟩)⟩
 rw[if_pos hr]
 have sV:=(fY n es).1 hr
 have Ln:=sV.n0
 have vW:=sV.n1
 obtain⟨N,rfl⟩:∃N:Nat,n=(N:Int):=⟨n.toNat,by omega⟩
 refine v3 aoZ (ae a3) (ae b3) ?_
 refine af.mono (by simpa using JO (cap:=(N:Int)) (mo:=1) hf (Aa hf) (by omega) (by omega) H3) ?_
 rintro _ H4 ⟨s,S,rfl,st4,f4,hS4⟩
 have g4:=g3.trans f4
 have b4:=f4.own b3 (fun h=>h)
 refine v1 aoZ ?_
 refine(Es st4 (by simp[zE])).mono ?_
 rintro _ H5 ⟨rfl,S5,st5,e5,PV⟩
 have z3:=g3.size
 have z4:=g4.size
 have g5:ah H H5:=g4.then e5 (fun z hz=>by have:=hS4 z hz;omega)
 have hS5:∀z,S5 z→H.size≤z:=fun z hz=>by
  rcases PV z hz with h|h
  ·have:=hS4 z h;omega
  ·omega
 have hgb:H.size+1<H3.size:=aB b3
 have b5:=e5.own b4 (fun h=>by have:=hS4 _ h;omega)
 refine Nt (fun e H'=>∃B:NU,e=[(3,ptr (H.size+1)),(8,ptr s),(10,ptr B.x)]∧B.s=s∧vO H' B H.size N (.slice a es.length c) (.slice none 0 0) S5 (zE (N:Int)).make (Qb (N:Int) 1) 0 [] (List.replicate N 0) (List.replicate N 0) (List.replicate N (0,0))∧ah H5 H') ?_ ?_
 ·refine vs ?_
  refine jB.intro (fun H'=>H'.own (H.size+1)=some [i64 N,.slice a es.length c]) b5 ?_
  refine vs ?_
  refine fJ.intro (.agg #[i64 N,.slice a es.length c]) (fun H' hI=>by refine v1 (ae hI) ?_;exact⟨trivial,trivial⟩) ?_
  refine vs ?_
  refine fJ.intro (i64 N) (fun H' hI=>by refine v1 (ae hI) ?_;exact⟨trivial,trivial⟩) ?_
  refine vs ?_
  refine fJ.intro (i64 N) (fun H' hI=>by refine v1 (ae hI) ?_;exact⟨trivial,trivial⟩) ?_
  refine vs ?_
  refine fJ.intro (i64 N) (fun H' hI=>by refine v1 (ae hI) ?_;exact⟨trivial,trivial⟩) ?_
  refine vs ?_
  have amn:=aB b5
  iterate 34
   all_goals try
    first
    |with_reducible refine EN.intro ?_ ?_
    |with_reducible refine dD.mk b5 ?_
    | ((with_reducible refine dD.mk ⟨by omega,by omega,by omega,by omega⟩ ?_); refine v1 Int.toNat_natCast ?_)
    | ((fail_if_success with_reducible refine Exists.intro ?_ ?_); refine vs ?_)
  all_goals
   simp only[Int.toNat_natCast]
   exact UG st5 hS5 (by omega) (aU (by simp only[ap,iC])) (by refine vs ?_<;>trivial) (by exact vs trivial<;>trivial) (by exact vs trivial<;>trivial) (by exact vs trivial<;>trivial) (by repeat' first|exact ag.refl _ _|refine ag.new ?_ _ _|refine ag.im ?_) (by omega) (by omega)
 rintro _ H6 ⟨B,rfl,rfl,m6,f6⟩
 have b6:=f6.own b5 (fun h=>h)
 have g6:=g5.trans f6
 refine v1 (ae b6) ?_
 refine(xK (n:=(N:Int)) (h.fresh g6) hm).mono ?_
 rintro _ H7 ⟨f7,⟨bO,_⟩| ⟨_,tb,fp,rfl,t7⟩⟩
 ·rw[hr]at bO;cases bO
 have m7:=m6.fresh f7
 have g7:=g6.trans f7
 have b7:=f7.own b6 (fun h=>h)
 have ag4:=m6.lt
 have G0:xF es N (zE (N:Int)).make (Qb (N:Int) 1) [] (List.replicate N 0) (List.replicate N 0) (List.replicate N (0,0)):=xF.zero es N ao3 ao3
 have D0:Zq es [] (List.replicate N 0):=by
  have h0:∀ (v k:Nat),k≠0→(List.replicate N 0)[v]? ≠some k:=fun v k hk hv=>by
   have:=apv (aon hv)
   omega
  refine⟨?_,fun v=>h0 v 1 (by omega)⟩
  have e1:(fun v:Nat=>(List.replicate N 0)[v]? =some 2)=fun _=>False:=by
   funext v
   exact eq_false (h0 v 2 (by omega))
  rw[e1]
  exact xP.begin _
 rw[Int.toNat_natCast]at t7 ⊢
 refine v1 (ae b7) ?_
 have p7:GX H7 B H.size N (.slice a es.length c) es H6.size tb fp S5 (zE (N:Int)).make (Qb (N:Int) 1) [] (List.replicate N 0) (List.replicate N 0) (List.replicate N (0,0)) [] (.slice none 0 0) none:=by
  refine⟨m7,t7,fun z hz h=>?_,Sl.nil _ _,fun b hb=>by cases hb⟩
  have:=ag4 z h
  rcases hz with rfl| ⟨i,hi,hp⟩
  ·have:=t7.base;omega
  ·have:=(t7.low i hi z hp).1;omega
 refine aX.intro (fun mm env H'=>∃ (j:Nat) (S':Nat→Prop) (w':Nw) (A':Ar) (L':List ((Int×Nat)×Value)) (sl:List Nat) (bl:List Int) (hl:List (Int×Nat)) (T:List Int) (ov:Value) (EI:Option Nat),mm=N - j∧j≤N∧GX H' B H.size N (.slice a es.length c) es H6.size tb fp S' w' A' L' sl bl hl T ov EI∧xF es N w' A' L' sl bl hl∧Zq es T sl∧(∀v:Nat,v<j→sl[v]? =some 2)∧ah H H'∧
  env=[(8,ptr B.s),(10,ptr B.x),(11,.slice (some ⟨tb,0,none⟩) N N),(56,i64 N),(57,i64 j)]) N ⟨0,S5,_,_,[],_,_,_,[],_,none,rfl,ap2 _,p7,G0,D0,fun v hv=>by omega,g7,rfl⟩ ?_
 clear p7 G0 D0 m7 t7 g7 b7 f7 m6 f6 b6 g6 st5 e5 PV b5 g5 hS5 st4 f4 hS4 g4 b4 a3 b3 a2 b2 f3 g3 f2 g2
 rintro mm env H8 ⟨j,S8,w8,A8,L8,sl8,bl8,hl8,T8,ov8,UH,rfl,hj,p8,G8,D8,SL,g8,rfl⟩
 refine vs ?_
 refine am.dec (fun aO=>?_) (fun aO=>?_)<;>refine vs ?_
 rotate_left
 ·have fS:j=N:=by omega
  subst fS
  obtain⟨B1,Jx⟩:=D8.Wg sV (fun v hv=>SL v (by omega))
  have gA:=MO B1.vU
  have Gs:=si sV B1.vU B1.sub
  refine v1 (ae p8.m.o) ?_
  refine(qj p8.os (by omega)).mono ?_
  rintro _ H9 ⟨rfl,s9,e9⟩
  have o9:=e9.own p8.m.o (fun h=>(p8.od _ h).2.1 (.inr (.inl rfl)))
  refine v1 (ae o9) ?_
  obtain⟨k1,k2⟩:=Qt sV (Gr T8) B1 Jx
  refine⟨g8.then e9 (fun z hz=>(p8.od z hz).1),.inr (.inr ⟨hf,hr,je T8,ov8,UH,rfl,by rw[mP];exact s9,fun b hb=>(p8.od b hb).1,k1,k2,SJ gA⟩)⟩
 rw[UI]
 have fS:j<N:=by omega
 obtain⟨k,hk⟩:∃k,sl8[j]? =some k:=⟨_,aoh (by rw[G8.l1];exact fS)⟩
 have z6:=G8.two k (aon hk)
 have hk1:k≠1:=fun e=>D8.2 j (by rw[hk,e])
 have ck:(sl8.map fun k:Nat=>i64 k)[j]? =some (i64 k):=by rw[aoG,hk];rfl
 refine v1 (ae p8.m.o) ?_
 refine⟨⟨by omega,by omega⟩,?_⟩
 refine v5 (ae p8.m.o1) Int.toNat_natCast aol aoi ck ?_
 refine am.dec (fun h0=>?_) (fun h0=>?_)<;>refine vs ?_
 rotate_left
 ·rw[wrap64 (n:=(j:Int)+1) (by omega) (by omega)]
  refine⟨N - (j+1),by omega,j+1,S8,w8,A8,L8,sl8,bl8,hl8,T8,ov8,UH,rfl,by omega,p8,G8,D8,fun v hv=>?_,g8,rfl⟩
  by_cases e:v=j
  ·subst e
   rw[hk]
   exact aoE some (by omega)
  ·exact SL v (by omega)
 have ZA:k=0:=by omega
 subst ZA
 obtain⟨gs0,gt0⟩:=NK.begin (bl:=bl8) sV D8 hk
 refine(ju p8.m sV h g8 (aov _) fS (G8.root hk) p8.t p8.td gs0 rfl).mono ?_
 rintro _ H9 ⟨rfl,S9,w9,A9,L9,sl9,bl9,hl9,m9,G9,gs9,e9,hs9⟩
 have p9:=p8.go m9 e9 hs9
 have g9:ah H H9:=g8.then e9 (fun z hz=>p8.m.ge z (hz.imp_right .inr))
 refine vs ?_
 refine(IW p9 G9).mono ?_
 rintro _ H10 ⟨x,gg,ky,er,S10,w10,A10,rfl,p10,N10,e10,ag6⟩
 have g10:ah H H10:=g9.then e10 (fun z hz=>p9.m.ge z (.inl hz))
 refine vs ?_
 obtain⟨f11,b11,z11⟩:=Nq H10 114 [Value.int .i64 0,Value.int .u32 0] [i64 x,Value.int .u32 (gg:Int)]
 generalize hhb:H10.size=hb at*
 generalize (H10.new 114 [Value.int .i64 0,Value.int .u32 0]).wr hb [i64 x,Value.int .u32 (gg:Int)]=H11 at*
 have p11:=p10.fresh f11
 have g11:=g10.trans f11
 have ab7:¬ (S10 hb∨hb=B.x∨B.row hb)∧UH≠some hb:=⟨fun h=>by have:=p10.m.lt hb h;omega,fun h=>by have:=p10.olt hb h;omega⟩
 refine aX.intro (fun mm env H'=>∃ (x:Int) (gg:Nat) (er:Int) (S':Nat→Prop) (w':Nw) (A':Ar) (L':List ((Int×Nat)×Value)) (sl:List Nat) (bl:List Int) (hl:List (Int×Nat)) (T:List Int) (ov:Value) (EI:Option Nat) (o:List Nat) (kk:Nat→Int) (hb:Nat),mm=N - o.length∧GX H' B H.size N (.slice a es.length c) es H6.size tb fp S' w' A' L' sl bl hl T ov EI∧Next es N w' A' L' sl bl hl x gg er∧NK es (fun v:Nat=>sl8[v]? =some 2) o kk T sl bl []∧GrT es T T8 (fun v:Nat=>sl8[v]? =some 2) o∧j∈o∧H'.own hb=some [i64 x,Value.int .u32 (gg:Int)]∧(¬ (S' hb∨hb=B.x∨B.row hb)∧EI≠some hb)∧ah H H'∧
  env=[(8,ptr B.s),(10,ptr B.x),(11,.slice (some ⟨tb,0,none⟩) N N),(13,ptr hb),(15,i64 er),(56,i64 N),(57,i64 j)]) (N - 1) ⟨x,gg,er,S10,w10,A10,L9,sl9,bl9,hl9,T8,ov8,UH,[j],_,hb,rfl,p11,N10,gs9,gt0,by simp,b11,ab7,g11,rfl⟩ ?_
 clear p11 N10 gs9 gt0 b11 ab7 g11 f11 z11 hhb p10 e10 ag6 g10 p9 m9 G9 e9 hs9 g9
 rintro mm env ZF ⟨x,gg,er,S12,w12,A12,L12,ab8,SM,ab9,T12,acb,SN,o,kk,hb,rfl,Qu,N12,XZ,UJ,hjo,b12,X0,g12,rfl⟩
 refine vs ?_
 refine am.dec (fun he=>?_) (fun he=>?_)<;>refine vs ?_
 rotate_left
 ·rcases N12 with ⟨_,ZG,bO⟩| ⟨h0,_⟩
  ·rw[wrap64 (n:=(j:Int)+1) (by omega) (by omega)]
   refine⟨N - (j+1),by omega,j+1,S12,w12,A12,L12,ab8,SM,ab9,T12,acb,SN,rfl,by omega,Qu,ZG,XZ.over D8.1 UJ bO,fun v hv=>(XZ.d v).2 ?_,g12,rfl⟩
   by_cases e:v=j
   ·subst e;exact .inr hjo
   ·exact .inl (SL v (by omega))
  ·exact absurd h0 he
 rcases N12 with ⟨h0,_⟩| ⟨_,v,DL,hvL,Pm,ZG⟩
 ·omega
 have hvN:v<N:=by
  have:=(aoj.1 DL).1
  have h2:=ZG.l1
  rw[aok]at h2
  omega
 obtain⟨UK,acc,amw⟩:=XZ.enter sV UJ DL Pm
 have hol:(o++[v]).length≤N:=Ix N _ UK.P.nd fun y hy=>by
  have:=(UK.d y).2 (.inr hy)
  have h1:=(aoj.1 this).1
  have h2:=ZG.l1
  omega
 rw[aor,aoA]at hol
 obtain⟨b,hbv⟩:∃b,SM[v]? =some b:=⟨_,aoh (by rw[ZG.l2];exact hvN)⟩
 have TV:SM.getD v 0=b:=by rw[aom,hbv];rfl
 have cb:(SM.map i64)[v]? =some (i64 b):=by rw[aoG,hbv];rfl
 rw[TV]at UK acc
 have amx:=si sV UJ.vU (fun i hi=>(UJ.ins i hi).1)
 refine v2 (ae Qu.m.o) (ae b12) ?_
 refine⟨IM _ _,?_⟩
 refine xD.look Qu.m.m (a:=(x,gg)) hvL ?_
 refine vs ?_
 refine Nt (fun e H'=>∃ZE acd,e=[(8,ptr B.s),(10,ptr B.x),(11,.slice (some ⟨tb,0,none⟩) N N),(13,ptr hb),(16,i64 v),(56,i64 N),(57,i64 j)]∧GX H' B H.size N (.slice a es.length c) es H6.size tb fp S12 w12 A12 L12 ab8 SM ab9 (T12++[b]) ZE acd∧H'.own hb=some [i64 x,Value.int .u32 (gg:Int)]∧acd≠some hb∧ah H H') ?_ ?_
 ·refine jB.intro (fun _=>True) trivial ?_
  have fl:ah ZF (ZF.new 3 [i64 b]):=(ag.refl _ _).new _ _
  have mF:=aB Qu.m.o
  have Za:=aB Qu.m.o2
  have Vq:=aB b12
  have fin:∀K,(∀v' H2 cP,Sl H2 1 v' (T12.length+1) (T12.map i64++[i64 b]) cP→ag (fun z=>SN=some z) (ZF.new 3 [i64 b]) H2→(cP=SN∨∃p,cP=some p∧(ZF.new 3 [i64 b]).size≤p∧p<H2.size)→K v' H2)→gk 3 1 8 [i64 0] acb (.slice (some ⟨ZF.size,0,none⟩) 1 1) (ZF.new 3 [i64 b]) K:=fun K hk=>
   Sl.append (Qu.os.ext fl (fun _ _ h=>h)) (Sl.bU (size:=1) (n:=1) (xs:=[i64 b]) rfl rfl).rd rfl (rR [b]) (by omega) hk
  iterate 12
   all_goals try
    first
    |with_reducible refine EN.intro ?_ ?_
    |with_reducible refine dD.mk ⟨by omega,by omega⟩ ?_
    |with_reducible refine fin _ fun v' H2 cP s2 e2 hf2=>?_
    | ((fail_if_success with_reducible refine Exists.intro ?_ ?_); (fail_if_success refine fin _ ?_); refine v6 (ae Qu.m.o) (ae Qu.m.o2) Int.toNat_natCast aol aoi cb ?_)
  all_goals
   obtain⟨va,VG,rfl,_⟩:=cJ s2
   obtain⟨q1,q2⟩:=Qu.push fl s2 e2 hf2 rfl
   have ox:=e2.own (fl.own Qu.m.o (fun h=>h)) (fun h=>(Qu.od _ h).2.1 (.inr (.inl rfl)))
   refine v1 ox ?_
   refine⟨_,cP,trivial,q1,e2.own (fl.own b12 (fun h=>h)) X0.2,fun h=>?_,g12.then q2 (fun z hz=>?_)⟩
   ·rcases hf2 with h2| ⟨p,h2,h3,_⟩
    ·exact X0.2 (by rw[←h2];exact h)
    ·rw[h]at h2
     injection h2 with h2
     have:=fl.size
     omega
   ·rcases hz with h|h
    ·exact(Qu.od z h).1
    ·rw[h];exact Qu.m.low.2.1
 rintro _ H13 ⟨ag8,VM,rfl,p13,b13,amy,g13⟩
 refine vs ?_
 refine(ju p13.m sV h g13 (aov _) hvN ZG p13.t p13.td UK (by simp)).mono ?_
 rintro _ H14 ⟨rfl,S14,w14,A14,L14,ag9,aha,ahb,m14,G14,ahc,vI,ahd⟩
 have p14:=p13.go m14 vI ahd
 have g14:ah H H14:=g13.then vI (fun z hz=>p13.m.ge z (hz.imp_right .inr))
 have Vq:=aB b13
 have b14:=vI.own b13 (fun h=>X0.1 (h.imp_right .inr))
 refine v1 (ae b14) ?_
 obtain⟨f15,b15,z15⟩:=Nq H14 114 [Value.int .i64 0,Value.int .u32 0] [i64 x,Value.int .u32 (gg:Int)]
 generalize hhb:H14.size=oR at*
 generalize (H14.new 114 [Value.int .i64 0,Value.int .u32 0]).wr oR [i64 x,Value.int .u32 (gg:Int)]=H15 at*
 have p15:=p14.fresh f15
 have g15:=g14.trans f15
 have X1:¬ (S14 oR∨oR=B.x∨B.row oR)∧VM≠some oR:=⟨fun h=>by have:=p14.m.lt oR h;omega,fun h=>by have:=p14.olt oR h;omega⟩
 refine(IW p15 G14).mono ?_
 rintro _ H16 ⟨x',gg',ky',er',S16,w16,A16,rfl,p16,N16,LG,ach⟩
 have g16:ah H H16:=g15.then LG (fun z hz=>p15.m.ge z (.inl hz))
 have b16:=LG.own b15 (fun h=>X1.1 (.inl h))
 refine v1 b16 ?_
 obtain⟨WV,b17⟩:=Lx b16 [i64 x',Value.int .u32 (gg':Int)]
 generalize H16.wr oR [i64 x',Value.int .u32 (gg':Int)]=H17 at*
 have amK:=f15.size
 have amL:=LG.size
 have amM:=WV.size
 have aci:¬ (S16 oR∨oR=B.x∨B.row oR):=fun h=>X1.1 (by
  rcases h with h|h
  ·rcases ach oR h with h|h
   ·exact .inl h
   ·omega
  ·exact .inr h)
 have x17:ag S14 H14 H17:=⟨by omega,fun z hz hn=>by rw[WV.aM z (by omega) (by omega),LG.aM z (by omega) hn,f15.aM z (by omega) (fun h=>h)]⟩
 have p17:=p14.to (p16.m.st.ext WV (fun z hz e=>aci (.inl (by rw[←e];exact hz)))) x17 (fun z hz=>(ach z hz).imp_right fun h=>by omega)
 have g17:ah H H17:=g14.then x17 (fun z hz=>p14.m.ge z (.inl hz))
 exact⟨N - (o++[v]).length,by rw[aor,aoA];omega,x',gg',er',S16,w16,A16,L14,ag9,aha,ahb,T12++[b],ag8,VM,o++[v],_,oR,rfl,p17,N16,ahc,acc,aoy _ hjo,b17,⟨aci,X1.2⟩,g17,rfl⟩
theorem Dk(H:Hp)(n:Int)(a:Option Addr)(k c:Nat):af Tryz.prog G3 [zK n (.slice a k c)] H fun v H'=>aw (v= .bool (decide (40<k∨(30<n∧n≤4096)))∧ah H H'):=by
 refine bv Hl ?_
 have f0:ah H (H.new 52 [i64 n,.slice a k c]):=(ag.refl _ _).new _ _
 have b0:=az H 52 [i64 n,.slice a k c]
 simp(disch:=(first|omega| (simp only[Zs]<;>omega)|fail)) only[go_sem, ↓reduceIte,Zv,zK]
 generalize H.new 52 [i64 n,.slice a k c]=H0 at*
 refine am.dec (fun h1=>?_) (fun h1=>?_)<;>refine v1 (ae b0) ?_
 ·exact⟨aoE Value.bool (by symm;simp;omega),f0⟩
 ·refine am.dec (fun h3=>?_) (fun h3=>?_)<;>refine v1 (ae b0) ?_
  ·exact⟨aoE Value.bool (by rw[decide_eq_decide];omega),f0⟩
  ·exact⟨aoE Value.bool (by symm;simp;omega),f0⟩
def UL:List Ed:=[⟨0,1,1⟩,⟨1,2,2⟩,⟨2,0,3⟩]
theorem ve(H:Hp):af Tryz.prog Ai [] H fun v H'=>aw (v= .bool true∧ah H H'):=by
 refine bv AB ?_
 refine vs ?_
 have fe:ah H (H.new 61 (dX UL)):=(ag.refl _ _).new _ _
 have re:cO (H.new 61 (dX UL)) 3 (.slice (some ⟨H.size,0,none⟩) UL.length 3) UL.length (dX UL):=(Sl.lit H 61 3 3 (dX UL) rfl).rd
 have hze:(H.new 61 (dX UL)).size=H.size+1:=by rw[ap]
 have hE:H.new 61 [Value.int .i64 0,Value.int .i64 1,Value.int .i64 1,Value.int .i64 1,Value.int .i64 2,Value.int .i64 2,Value.int .i64 2,Value.int .i64 0,Value.int .i64 3]=H.new 61 (dX UL):=rfl
 rw[hE]
 generalize H.new 61 (dX UL)=H0 at*
 obtain⟨fw,q2,z2⟩:=Nq H0 52 [Value.int .i64 0,Value.slice none 0 0] [Value.int .i64 3,Value.slice (some ⟨H.size,0,none⟩) 3 3]
 rw[hze]at q2 fw
 generalize (H0.new 52 [Value.int .i64 0,Value.slice none 0 0]).wr (H.size+1) [Value.int .i64 3,Value.slice (some ⟨H.size,0,none⟩) 3 3]=H1 at*
 have r1:=re.fresh fw
 have f1:=fe.trans fw
 refine v1 (ae q2) ?_
 refine(u9 3 0 (fun h=>LW h) (n:=3) r1 (by decide)).mono ?_
 rintro _ H2 ⟨f2,⟨bO,_⟩| ⟨_,bO,_⟩| ⟨_,_,T,sv,fp,rfl,s2,fZ,B1,Jx,Tx⟩⟩
 ·exact absurd (by decide) bO
 ·exact absurd bO (by decide)
 obtain rfl:=Uo B1 Jx Tx
 obtain⟨sa,sc,rfl,_⟩:=cJ s2
 have fl:ah H2 (H2.new 3 [i64 0,i64 1]):=(ag.refl _ _).new _ _
 refine v1 aoZ ?_
 refine(Ez (xs:=[0,1]) (ys:=[0,1]) (s2.rd.fresh fl) (Sl.lit H2 3 1 2 [i64 0,i64 1] rfl).rd (by decide)).mono ?_
 rintro _ H3 ⟨rfl,e⟩
 obtain rfl:=e
 refine v1 aoZ ?_
 exact⟨rfl,(f1.trans f2).trans fl⟩
theorem vf{Hh:Hp}{v0 v1:Value}(h0:HE Hh (true,[.k (.i .i64),.k (.i .i64)]) v0)(h1:HE Hh (true,[.k (.i .i64),.sl [.i .i64,.i .i64,.i .i64]]) v1):af Tryz.prog Ah [v0,v1] Hh fun v H'=>aw (v= .bool true∧ah Hh H'):=by
 obtain⟨kd,dd,rfl⟩:=NT h0
 obtain⟨n,es,a,c,rfl,hr,Tg,XX,hn,UM⟩:=NS h1
 clear h0 h1
 have hw:∀e∈es, -9223372036854775808≤e.w∧e.w≤9223372036854775807:=fun e he=>(UM e he).2.2
 refine Fa AA ⟨rfl,?_⟩
 simp(disch:=(first|omega| (simp only[Zs]<;>omega)|fail)) only[go_sem, ↓reduceIte,Zv,oh,zK]
 have f0:ah Hh (Hh.new 23 [i64 kd,i64 dd]):=(ag.refl _ _).new _ _
 have a0:(Hh.new 23 [i64 kd,i64 dd]).own Hh.size=some [i64 kd,i64 dd]:=az _ _ _
 have z0:(Hh.new 23 [i64 kd,i64 dd]).size=Hh.size+1:=ap _ _ _
 generalize Hh.new 23 [i64 kd,i64 dd]=H0 at*
 have f1:ah H0 (H0.new 52 [i64 n,.slice a es.length c]):=(ag.refl _ _).new _ _
 have b1:(H0.new 52 [i64 n,.slice a es.length c]).own H0.size=some [i64 n,.slice a es.length c]:=az _ _ _
 have a1:=f1.own a0 (fun h=>h)
 rw[z0]at b1
 generalize H0.new 52 [i64 n,.slice a es.length c]=H1 at*
 refine(ve H1).mono ?_
 rintro _ H2 ⟨rfl,f2⟩
 have g2:=(f0.trans f1).trans f2
 have a2:=f2.own a1 (fun h=>h)
 have b2:=f2.own b1 (fun h=>h)
 refine v1 (ae b2) ?_
 refine(Dk H2 n a es.length c).mono ?_
 rintro _ H3 ⟨rfl,f3⟩
 have g3:=g2.trans f3
 have a3:=f3.own a2 (fun h=>h)
 have b3:=f3.own b2 (fun h=>h)
 refine vs ?_
 refine am.dec (fun c1=>?_) (fun c1=>?_)<;>refine v2 (ae a3) (ae b3) ?_
 ·exact⟨rfl,g3⟩
 refine(u9 kd dd (fun h=>LW h) (n:=n) (hr.fresh g3) (by omega)).mono ?_
 rintro v4 H4 ⟨f4,hp⟩
 have g4:=g3.trans f4
 have a4:=f4.own a3 (fun h=>h)
 have b4:=f4.own b3 (fun h=>h)
 obtain⟨T,sv,fp,er,rfl,s4,fZ,VN⟩:∃ (T:List Int) (sv:Value) (fp:Option Nat) (er:Int),v4=Value.tuple [sv,i64 er].toArray∧Sl H4 1 sv T.length (T.map i64) fp∧(∀b,fp=some b→H3.size≤b)∧
   ((¬gD kd dd∧er=RS kd dd∧T=[])∨(gD kd dd∧ec n es=false∧er=201∧T=[])∨(gD kd dd∧ec n es=true∧er=0∧jU n es T∧NI es T∧T.Pairwise (· < ·))):=by
  rcases hp with ⟨h1,rfl⟩| ⟨h1,h2,rfl⟩| ⟨h1,h2,T,sv,fp,rfl,s,fZ,k⟩
  ·exact⟨[],_,none,_,rfl,Sl.nil _ _,(fun b hb=>by cases hb),.inl ⟨h1,rfl,rfl⟩⟩
  ·exact⟨[],_,none,_,rfl,Sl.nil _ _,(fun b hb=>by cases hb),.inr (.inl ⟨h1,h2,rfl,rfl⟩)⟩
  ·exact⟨T,sv,fp,0,rfl,s,fZ,.inr (.inr ⟨h1,h2,rfl,k⟩)⟩
 obtain⟨sa,sc,rfl,hsc⟩:=cJ s4
 refine v1 (ae a4) ?_
 refine(FS kd dd H4).mono ?_
 rintro _ H5 ⟨rfl,f5⟩
 have g5:=g4.trans f5
 have b5:=f5.own b4 (fun h=>h)
 have s5:=s4.ext f5 (fun _ _ h=>h)
 refine vs ?_
 refine am.dec (fun c2=>?_) (fun c2=>?_)<;>refine vs ?_
 rotate_left
 ·rcases VN with ⟨_,rfl,rfl⟩| ⟨h1,_⟩| ⟨h1,_⟩
  ·simp(disch:=(first|omega| (simp only[Zs]<;>omega)|fail)) only[go_sem, ↓reduceIte,Zv,aoZ,apl]
   exact⟨rfl,g5⟩
  ·exact absurd (LC h1) c2
  ·exact absurd (LC h1) c2
 have hK:=LD.1 c2
 refine v1 (ae b5) ?_
 refine(C7 (n:=n) (hr.fresh g5) (by omega)).mono ?_
 rintro _ H6 ⟨rfl,f6⟩
 have g6:=g5.trans f6
 have b6:=f6.own b5 (fun h=>h)
 have s6:=s5.ext f6 (fun _ _ h=>h)
 rcases VN with ⟨h1,_⟩| ⟨_,h2,rfl,rfl⟩| ⟨_,h2,rfl,B1,Jx,Tx⟩
 ·exact absurd hK h1
 ·rw[h2]
  simp(disch:=(first|omega| (simp only[Zs]<;>omega)|fail)) only[go_sem, ↓reduceIte,Zv,apX,aoZ,apl]
  exact⟨rfl,g6⟩
 rw[h2]
 have sV:=(fY n es).1 h2
 have hTl:=si sV B1.vU B1.sub
 have Ln:=sV.n0
 have vW:=sV.n1
 refine v1 aqa ?_
 refine aX.intro (fun mm env H'=>∃i:Nat,mm=T.length+1 - i∧1≤i∧(i≤T.length+1)∧H'=H6∧env=[(3,ptr (Hh.size+1)),(5,.slice sa T.length sc),(6,i64 0),(8,i64 i)]) T.length ⟨1,by omega,by omega,by omega,rfl,rfl⟩ ?_
 rintro mm env H6 ⟨i,rfl,PT,my,rfl,rfl⟩
 refine vs ?_
 refine am.dec (fun aO=>?_) (fun aO=>?_)<;>refine vs ?_
 ·obtain⟨k,rfl⟩:∃k,i=k+1:=⟨i - 1,by omega⟩
  have z6:k+1<T.length:=by omega
  obtain⟨x,hx⟩:∃x,T[k]? =some x:=⟨_,aoh (by omega)⟩
  obtain⟨y,hy⟩:∃y,T[k+1]? =some y:=⟨_,aoh z6⟩
  have MB:x<y:=by
   have:=List.pairwise_iff_getElem.1 Tx k (k+1) (by omega) z6 (by omega)
   rw[aoh (by omega)]at hx
   rw[aoh z6]at hy
   injection hx with hx
   injection hy with hy
   rw[hx,hy]at this
   exact this
  obtain⟨_,b,o,lb,rfl,eW,fu⟩:=cO.num s6.rd hx
  obtain⟨_,b',o',Vx,VL,Ge,yz⟩:=cO.num s6.rd hy
  injection VL with VL
  injection VL with Lm oR
  subst Lm oR
  rw[eW]at Ge
  injection Ge with Ge
  subst Ge
  rw[show((k+1:Nat):Int) - 1=(k:Int) by omega,wrap64 (n:=(k:Int)) (by omega) (by omega)]
  refine⟨⟨by omega,by omega⟩,?_⟩
  refine v4 eW Int.toNat_natCast aol fu ?_
  refine⟨⟨by omega,by omega⟩,?_⟩
  refine v4 eW Int.toNat_natCast aol yz ?_
  refine am.dec (fun OC=>by omega) (fun _=>?_)
  refine vs ?_
  rw[wrap64 (n:=((k+1:Nat):Int)+1) (by omega) (by omega)]
  exact⟨T.length+1 - (k+2),by omega,k+2,rfl,by omega,by omega,trivial,rfl⟩
 have cX:∀i∈T,LO es i:=B1.ins
 refine jB.intro (fun H'=>H'.own (Hh.size+1)=some [i64 n,.slice a es.length c]) b6 ?_
 refine v2 aoZ (ae b6) ?_
 refine And.intro b6 ?_
 refine vs ?_
 refine(BM (n:=n) (hr.fresh g6) s6.rd hsc sV (by omega)).mono ?_
 rintro _ H7 ⟨f7,bb,rfl,hb⟩
 obtain rfl:bb=true:=hb.2 B1
 have b7:=f7.own b6 (fun h=>h)
 have g7:=g6.trans f7
 refine And.intro b7 ?_
 refine vs ?_
 refine fJ.intro (zK n (.slice a es.length c)) (fun H' hI=>by refine v1 (ae hI) ?_;exact⟨rfl,trivial⟩) ?_
 refine vs ?_
 refine fJ.intro (zK n (.slice a es.length c)) (fun H' hI=>by refine v1 (ae hI) ?_;exact⟨rfl,trivial⟩) ?_
 refine v1 (ae b7) ?_
 refine And.intro b7 ?_
 refine vs ?_
 refine(oD (n:=n) (hr.fresh g7) (s6.ext f7 (fun _ _ h=>h)).rd cX (by omega) hw (by omega)).mono ?_
 rintro _ H8 ⟨rfl,f8⟩
 have b8:=f8.own b7 (fun h=>h)
 have g8:=g7.trans f8
 refine And.intro b8 ?_
 refine vs ?_
 refine(Dj (hr.fresh g8) sV).mono ?_
 rintro _ H9 ⟨f9,L,lb,hLp,hLs,DB,s9⟩
 have b9:=f9.own b8 (fun h=>h)
 have g9:=g8.trans f9
 refine And.intro b9 ?_
 obtain⟨ga,gc,rfl,_⟩:=cJ s9
 have X2:=LQ n (es:=es) (L:=L) (fun i hi=>js.1 (hLp.mem_iff.1 hi)) (fun i hi=>hLp.mem_iff.2 hi)
 have amR:=si sV X2.vU X2.sub
 refine vs ?_
 refine(oD (n:=n) (hr.fresh g9) s9.rd X2.ins (by omega) hw (by omega)).mono ?_
 rintro _ H10 ⟨rfl,f10⟩
 have b10:=f10.own b9 (fun h=>h)
 rw[(Qd sV B1 hLp hLs).2 Jx]
 refine And.intro b10 ?_
 refine v2 SG aoZ ?_
 exact⟨rfl,g9.trans f10⟩
end Go.Proofs.YtjlnnljohemifaaGreat
