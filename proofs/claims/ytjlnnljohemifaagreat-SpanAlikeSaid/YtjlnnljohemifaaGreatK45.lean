/- Texts put behind each other. -/
import Derived.Test.YtjlnnljohemifaaGreatK98
import Derived.Test.YtjlnnljohemifaaGreatK13
import Derived.Test.YtjlnnljohemifaaGreatK23
import Derived.Test.YtjlnnljohemifaaGreatK37
set_option maxRecDepth 100000
set_option maxHeartbeats 8000000
set_option linter.unusedVariables false
set_option linter.unusedSimpArgs false
namespace Go.Proofs.YtjlnnljohemifaaGreat
open Go Go.Vc
def qM(v:Nat)(e:Ed):Bool:=decide (e.f≠e.t) && decide (e.t=(v:Int))
theorem Qf{es:List Ed}{j k:Nat}{e:Ed}(X:Nat→List Int)(he:es[j]? =some e)(hq:∀v,qM v e=decide (v=k)):
  HI (fun v=>X v++bf (qM v) 0 (es.take j)) k (X k++bf (qM k) 0 (es.take j)++[(j:Int)])=fun v=>X v++bf (qM v) 0 (es.take (j+1)):=by
 funext v
 unfold HI
 rw[BI _ he,hq]
 by_cases h:v=k
 ·subst h;simp
 ·simp[h]
theorem Qg{es:List Ed}{j:Nat}{e:Ed}(X:Nat→List Int)(he:es[j]? =some e)(hq:e.f=e.t):
  (fun v=>X v++bf (qM v) 0 (es.take j))=fun v=>X v++bf (qM v) 0 (es.take (j+1)):=by
 funext v
 rw[BI _ he]
 simp[qM,hq]
theorem OG(es:List Ed)(v:Nat):iZ (bf (qL v) 0 es++bf (qM v) 0 es)=bf (qT v) 0 es:=by
 have h:=Th (qL v) (qM v) es 0 (fun e _ h=>by
  simp only[qL,qM,anU,aol]at h
  omega)
 have hq:(fun e=>qL v e || qM v e)=qT v:=by
  funext e
  unfold qL qM qT
  by_cases h1:e.f=v<;>by_cases h2:e.t=v<;>by_cases h3:e.f=e.t<;>simp[h1,h2,h3]<;>omega
 rw[hq]at h
 exact h
theorem xl{H:Hp}{n:Int}{a:Option Addr}{c:Nat}{es:List Ed}(h:dc H 3 (.slice a es.length c) es.length (eF es))(hm:es.length≤1000000000):
  af Tryz.prog BT [F8 n (.slice a es.length c)] H fun v H'=>aw (ai H H'∧((dJ n es=false∧v= .slice none 0 0)∨
   (dJ n es=true∧∃b fp,v= .slice (some ⟨b,0,none⟩) n.toNat n.toNat∧BE H' H.size b n.toNat (fun v=>bf (qT v) 0 es) fp))):=by
 refine Gv B5 ⟨rfl,?_⟩
 have f0:ai H (H.new 52 [i64 n,.slice a es.length c]):=(ag.refl _ _).new _ _
 have b0:=aB H 52 [i64 n,.slice a es.length c]
 simp(disch:=(first|omega| (simp only[Zs]<;>omega)|fail)) only[go_sem, ↓reduceIte,Zv,pM,F8]
 generalize H.new 52 [i64 n,.slice a es.length c]=H0 at*
 have h0:=h.fresh f0
 refine(zt (n:=n) h0 hm).mono ?_
 rintro _ H1 ⟨f1,⟨hR,rfl⟩| ⟨hR,QE,fp0,rfl,sl1⟩⟩
 ·refine vs ?_
  exact⟨f0.trans f1,.inl ⟨hR,rfl⟩⟩
 have b1:=f1.own b0 (fun h=>h)
 have f01:=f0.trans f1
 have Yu:=aA b0
 have hbb:=sl1.base
 obtain⟨L0,xM,Wh,R7⟩:=(fQ n es).1 hR
 simp(disch:=(first|omega| (simp only[Zs]<;>omega)|fail)) only[go_sem, ↓reduceIte,Zv,ae b1,Option.isNone_some]
 have Ib:(fun v=>bf (qL v) 0 es)=fun v=>bf (qL v) 0 es++bf (qM v) 0 (es.take 0):=by funext v;simp[bf]
 rw[Ib]at sl1
 refine bk.intro (fun m env H'=>ai H H'∧∃ (j:Nat) (fp:Nat→Option Nat),m=es.length - j∧j≤es.length∧BE H' H0.size QE n.toNat (fun v=>bf (qL v) 0 es++bf (qM v) 0 (es.take j)) fp∧
  env=[(3,.slice (some ⟨QE,0,none⟩) n.toNat n.toNat),(13,.slice a es.length c),(14,i64 es.length),(15,i64 j)]) es.length ⟨f01,0,_,by omega,by omega,sl1,rfl⟩ ?_
 rintro m env H2 ⟨f2,j,fp,Va,hj,It,rfl⟩
 have h2:=h.fresh f2
 refine vs ?_
 refine am.dec (fun aO=>?_) (fun aO=>?_)<;>refine vs ?_
 ·have gD:j<es.length:=by omega
  obtain⟨e,he⟩:∃e,es[j]? =some e:=⟨_,ans gD⟩
  obtain⟨_,b,o,lb,rfl,fA,oY,fR⟩:=dc.Dv h2 he
  refine⟨⟨by omega,by omega⟩,?_⟩
  have bL:=anz he
  obtain⟨ef0,ef1,et0,et1⟩:=R7 e bL
  simp(disch:=(first|omega| (simp only[Zs]<;>omega)|fail)) only[go_sem, ↓reduceIte,Zv,fA,Int.toNat_natCast,fR,gG]
  refine⟨by omega,?_⟩
  have q2:=aB H2 61 [i64 0,i64 0,i64 0]
  simp(disch:=(first|omega| (simp only[Zs]<;>omega)|fail)) only[go_sem, ↓reduceIte,Zv,fR,gG,q2]
  have q3:=ah (l:=[i64 e.f,i64 e.t,i64 e.w]) q2
  have f3:ai H2 ((H2.new 61 [i64 0,i64 0,i64 0]).wr H2.size [i64 e.f,i64 e.t,i64 e.w]):=((ag.refl _ _).new _ _:ai H2 _).then ((ag.refl (fun z=>z=H2.size) _).wr (fun _=>rfl) _) (fun z hz=>by omega)
  have QB:((H2.new 61 [i64 0,i64 0,i64 0]).wr H2.size [i64 e.f,i64 e.t,i64 e.w]).size=H2.size+1:=by rw[ec,aq]
  have ZN:=It.lt
  generalize (H2.new 61 [i64 0,i64 0,i64 0]).wr H2.size [i64 e.f,i64 e.t,i64 e.w]=H3 at*
  have LH:=It.fresh f3
  have T6:e.t.toNat<n.toNat:=by omega
  obtain⟨cN,sv,Md,zH,xJ,Bl⟩:=LH.get T6
  have ago:=pq (qL e.t.toNat) es 0
  have abF:=pq (qM e.t.toNat) (es.take j) 0
  have Y1:(bf (qL e.t.toNat) 0 es++bf (qM e.t.toNat) 0 (es.take j)).length≤2*es.length:=by rw[anD];rw[aoj]at abF;omega
  have f13:ai H H3:=f2.trans f3
  refine v1 (ae q3) ?_
  refine am.dec (fun Xz=>?_) (fun Xz=>?_)<;>refine vs ?_
  ·rw[wrap64 (n:=(j:Int)+1) (by omega) (by omega)]
   rw[Qg _ he Xz]at LH
   exact⟨es.length - (j+1),by omega,f13,j+1,fp,rfl,by omega,LH,rfl⟩
  have hq:∀v,qM v e=decide (v=e.t.toNat):=fun v=>by unfold qM;rw[anI Xz,aoO,decide_eq_decide];omega
  have fin:∀ (H4:Hp) (v':Value) (H5:Hp) (cO:Option Nat),ai H3 H4→Sl H5 1 v' (((bf (qL e.t.toNat) 0 es++bf (qM e.t.toNat) 0 (es.take j))).length+1) (((bf (qL e.t.toNat) 0 es++bf (qM e.t.toNat) 0 (es.take j))).map i64++[i64 j]) cO→ag (fun z=>fp e.t.toNat=some z) H4 H5→
    (cO=fp e.t.toNat∨∃p,cO=some p∧H4.size≤p∧p<H5.size)→
    H5.own QE=some cN∧H5.own H2.size=some [i64 e.f,i64 e.t,i64 e.w]∧(H5.wr QE (cN.set e.t.toNat v')).own H2.size=some [i64 e.f,i64 e.t,i64 e.w]∧ai H (H5.wr QE (cN.set e.t.toNat v'))∧
    BE (H5.wr QE (cN.set e.t.toNat v')) H0.size QE n.toNat (fun v=>bf (qL v) 0 es++bf (qM v) 0 (es.take (j+1))) (PS fp e.t.toNat cO):=by
   intro H4 v' H5 cO f4 s5 e5 jj
   have Vn:=LH.fresh f4
   have PU:=LH.low e.t.toNat T6
   have Xa:∀z,fp e.t.toNat=some z→z<H2.size:=fun z hz=>by
    obtain⟨_,_,_,_,_,s0⟩:=It.get T6
    rw[hz]at s0
    exact Sl.lt s0
   have ho4:=f4.own Md (fun h=>h)
   have q4:=f4.own q3 (fun h=>h)
   have q5:H5.own H2.size=some [i64 e.f,i64 e.t,i64 e.w]:=e5.own q4 (fun hh=>by have:=Xa _ hh;omega)
   obtain⟨k1,k2⟩:=Vn.put T6 (l:=(bf (qL e.t.toNat) 0 es++bf (qM e.t.toNat) 0 (es.take j))++[(j:Int)]) e5 (by rw[anD,an8];exact s5) jj ho4
   rw[Qf _ he hq]at k2
   refine⟨k1,q5,by rw[pY (by omega)];exact q5,?_,k2⟩
   exact((f13.trans f4).then e5 (fun z hz=>by have:=(PU z hz).1;omega)).then ((ag.refl (fun z=>z=QE) _).wr (fun _=>rfl) _) (fun z hz=>by omega)
  refine jX.intro (fun H'=>H'.own H2.size=some [i64 e.f,i64 e.t,i64 e.w]) q3 ?_
  refine vs ?_
  refine fV.intro (i64 e.t) (fun H' hI=>by refine v1 (ae hI) ?_;exact⟨trivial,trivial⟩) ?_
  refine vs ?_
  refine fV.intro (i64 e.t) (fun H' hI=>by refine v1 (ae hI) ?_;exact⟨trivial,trivial⟩) ?_
  refine vs ?_
  refine⟨⟨by omega,by omega⟩,?_⟩
  refine vs ?_
  have fl:ai H3 (H3.new 3 [i64 j]):=(ag.refl _ _).new _ _
  have ql:=fl.own q3 (fun h=>h)
  have Xb:=fl.own Md (fun h=>h)
  obtain⟨ra,rc,rfl,hrc⟩:=dD Bl
  refine EB.intro ?_ ?_
  ·refine v4 (ae Md) anw ant xJ ?_
   refine And.intro q3 ?_
   refine vs ?_
   refine And.intro (by first|exact ql|exact q3) ?_
   refine vs ?_
   refine Sl.append (Bl.ext fl (fun _ _ h=>h)) (Sl.cf (size:=1) (n:=1) (xs:=[i64 j]) rfl rfl).rd rfl (vz [(j:Int)]) (by omega) ?_
   intro v' H5 cO s5 e5 gu
   obtain⟨k1,k2,k3,k4,k5⟩:=fin _ v' H5 cO fl s5 e5 gu
   obtain⟨va,Xc,rfl,_⟩:=dD s5
   refine And.intro k2 ?_
   refine vs ?_
   refine⟨⟨by omega,by omega⟩,?_⟩
   refine v3 k1 anw ant ?_
   refine⟨by omega,?_⟩
   refine vs ?_
   refine And.intro (by first|exact k3|exact k2) ?_
   refine vs ?_
   rw[wrap64 (n:=(j:Int)+1) (by omega) (by omega)]
   exact⟨es.length - (j+1),by omega,k4,j+1,_,rfl,by omega,k5,rfl⟩
  ·refine vs ?_
   refine And.intro (by first|exact ql|exact q3) ?_
   refine v4 (ae Xb) anw ant xJ ?_
   refine And.intro (by first|exact ql|exact q3) ?_
   refine vs ?_
   refine Sl.append (Bl.ext fl (fun _ _ h=>h)) (Sl.cf (size:=1) (n:=1) (xs:=[i64 j]) rfl rfl).rd rfl (vz [(j:Int)]) (by omega) ?_
   intro v' H5 cO s5 e5 gu
   obtain⟨k1,k2,k3,k4,k5⟩:=fin _ v' H5 cO fl s5 e5 gu
   obtain⟨va,Xc,rfl,_⟩:=dD s5
   refine And.intro k2 ?_
   refine vs ?_
   refine⟨⟨by omega,by omega⟩,?_⟩
   refine v3 k1 anw ant ?_
   refine⟨by omega,?_⟩
   refine vs ?_
   refine And.intro (by first|exact k3|exact k2) ?_
   refine vs ?_
   rw[wrap64 (n:=(j:Int)+1) (by omega) (by omega)]
   exact⟨es.length - (j+1),by omega,k4,j+1,_,rfl,by omega,k5,rfl⟩
 ·have gD:j=es.length:=by omega
  subst gD
  rw[an4]at It
  clear sl1 h2
  have Ol:(fun v=>bf (qL v) 0 es++bf (qM v) 0 es)=fun v=>if v<0 then bf (qT v) 0 es else bf (qL v) 0 es++bf (qM v) 0 es:=by funext v;simp
  rw[Ol]at It
  refine bk.intro (fun m env H'=>ai H H'∧∃ (k:Nat) (fp:Nat→Option Nat),m=n.toNat - k∧k≤n.toNat∧BE H' H0.size QE n.toNat (fun v=>if v<k then bf (qT v) 0 es else bf (qL v) 0 es++bf (qM v) 0 es) fp∧
   env=[(3,.slice (some ⟨QE,0,none⟩) n.toNat n.toNat),(38,.slice (some ⟨QE,0,none⟩) n.toNat n.toNat),(39,i64 n.toNat),(40,i64 k)]) n.toNat ⟨f2,0,_,by omega,by omega,It,rfl⟩ ?_
  clear It Ol
  rintro m env H3 ⟨f3,k,fp3,hmk,hk,LH,rfl⟩
  refine vs ?_
  refine am.dec (fun aO=>?_) (fun aO=>?_)<;>refine vs ?_
  ·have C6:k<n.toNat:=by omega
   obtain⟨cN,sv,Md,zH,xJ,Bl⟩:=LH.get C6
   simp only[Nat.lt_irrefl,if_false]at Bl
   have ago:=pq (qL k) es 0
   have abF:=pq (qM k) es 0
   refine⟨⟨by omega,by omega⟩,?_⟩
   refine v5 (ae Md) Int.toNat_natCast anw ant xJ ?_
   refine(pZ Bl (by rw[anD];omega)).mono ?_
   rintro _ H4 ⟨rfl,s4,e4⟩
   rw[OG]at s4
   have aX:(bf (qT k) 0 es).length=(bf (qL k) 0 es++bf (qM k) 0 es).length:=by rw[←OG,mL]
   rw[←aX]at s4
   have Vn:=LH.tg C6 Md xJ e4 s4
   have cK:HI (fun v=>if v<k then bf (qT v) 0 es else bf (qL v) 0 es++bf (qM v) 0 es) k (bf (qT k) 0 es)=fun v=>if v<k+1 then bf (qT v) 0 es else bf (qL v) 0 es++bf (qM v) 0 es:=by
    funext v
    unfold HI
    by_cases h1:v=k
    ·subst h1;rw[if_pos rfl,if_pos (by omega)]
    ·rw[if_neg h1]
     show(if v<k then bf (qT v) 0 es else bf (qL v) 0 es++bf (qM v) 0 es)=_
     by_cases h2:v<k
     ·rw[if_pos h2,if_pos (by omega)]
     ·rw[if_neg h2,if_neg (by omega)]
   rw[cK]at Vn
   refine vs ?_
   rw[wrap64 (n:=(k:Int)+1) (by omega) (by omega)]
   exact⟨n.toNat - (k+1),by omega,f3.then e4 (fun z hz=>by have:=(LH.low k C6 z hz).1;omega),k+1,fp3,rfl,by omega,Vn,rfl⟩
  ·have C6:k=n.toNat:=by omega
   subst C6
   obtain⟨cN,g1,g2,g3⟩:=LH.TE
   refine⟨f3,.inr ⟨hR,QE,fp3,rfl,⟨⟨cN,g1,g2,fun i hi=>?_⟩,by omega,fun i hi p hp=>⟨by have:=(LH.low i hi p hp).1;omega,(LH.low i hi p hp).2⟩,LH.apart⟩⟩⟩
   obtain⟨sv,g4,g5⟩:=g3 i hi
   rw[if_pos hi]at g5
   exact⟨sv,g4,g5⟩
def lm(l:List (Int×Nat)):List Value:=l.flatMap fun y=>[i64 y.1,.int .u32 (y.2:Int)]
theorem IE(l:List (Int×Nat)):(lm l).length=l.length*2:=by
 induction l with
 |nil=>rfl
 |cons c r ih=>simp only[lm,ao6,anD,anO,aoH]at*;omega
theorem Sz{l:List (Int×Nat)}{i:Nat}{y:Int×Nat}(h:l[i]? =some y):(lm l)[i*2]? =some (i64 y.1)∧(lm l)[i*2+1]? =some (.int .u32 (y.2:Int))∧((lm l).drop (i*2)).take 2=[i64 y.1,.int .u32 (y.2:Int)]:=by
 induction l generalizing i with
 |nil=>simp at h
 |cons a r ih=>
  have e:lm (a::r)=i64 a.1:: .int .u32 (a.2:Int)::lm r:=rfl
  rw[e]
  cases i with
  |zero=>simp at h;subst h;exact⟨rfl,rfl,rfl⟩
  |succ i=>
   have:=ih (by simpa using h)
   rw[show(i+1)*2=i*2+2 by omega]
   exact this
theorem Qh{l:List (Int×Nat)}{i:Nat}{y:Int×Nat}(h:i<l.length):((lm l).set (i*2) (i64 y.1)).set (i*2+1) (.int .u32 (y.2:Int))=lm (l.set i y):=by
 induction l generalizing i with
 |nil=>simp at h
 |cons a r ih=>
  have e:lm (a::r)=i64 a.1:: .int .u32 (a.2:Int)::lm r:=rfl
  cases i with
  |zero=>rfl
  |succ i=>
   have:=ih (i:=i) (by simpa using h)
   have e2:lm ((a::r).set (i+1) y)=i64 a.1:: .int .u32 (a.2:Int)::lm (r.set i y):=rfl
   rw[e,e2,←this,show(i+1)*2=i*2+1+1 by omega]
   simp only[aoe]
structure NG where
 x:Nat
 b1:Nat
 b2:Nat
 b3:Nat
 mp:Nat
 s:Nat
def NG.row(B:NG)(z:Nat):Prop:=z=B.b1∨z=B.b2∨z=B.b3∨z=B.mp
structure vB(H:Hp)(B:NG)(lo n:Nat)(gs ov:Value)(S:Nat→Prop)(w:Nw)(A:Ar)(q:Int)(L:List ((Int×Nat)×Value))(sl:List Nat)(bl:List Int)(hl:List (Int×Nat)):Prop where
 o:H.own B.x=some [i64 n,gs,ptr B.s,.slice (some ⟨B.b1,0,none⟩) n n,.slice (some ⟨B.b2,0,none⟩) n n,.slice (some ⟨B.b3,0,none⟩) n n,.map (some B.mp),ov]
 o1:H.own B.b1=some (sl.map fun k:Nat=>i64 k)
 o2:H.own B.b2=some (bl.map i64)
 o3:H.own B.b3=some (lm hl)
 m:Bi H B.mp L
 st:Ec H B.s S w A q
 ns:¬S B.x∧¬S B.b1∧¬S B.b2∧¬S B.b3∧¬S B.mp
 ne:B.x≠B.b1∧B.x≠B.b2∧B.x≠B.b3∧B.x≠B.mp∧B.b1≠B.b2∧B.b1≠B.b3∧B.b1≠B.mp∧B.b2≠B.b3∧B.b2≠B.mp∧B.b3≠B.mp
 low:(∀z,S z→lo≤z)∧lo≤B.x∧lo≤B.b1∧lo≤B.b2∧lo≤B.b3∧lo≤B.mp
section
variable {H H' : Hp} {B : NG} {lo n : Nat} {gs ov : Value} {S S' T : Nat → Prop} {w w' : Nw} {A A' : Ar} {q q' : Int} {L L' : List ((Int × Nat) × Value)} {sl : List Nat} {bl : List Int} {hl : List (Int × Nat)}
theorem vB.ext(h:vB H B lo n gs ov S w A q L sl bl hl)(e:ag T H H')(hd:∀z,S z∨z=B.x∨B.row z→¬T z):vB H' B lo n gs ov S w A q L sl bl hl:=
 ⟨e.own h.o (hd _ (.inr (.inl rfl))),e.own h.o1 (hd _ (.inr (.inr (.inl rfl)))),e.own h.o2 (hd _ (.inr (.inr (.inr (.inl rfl))))),e.own h.o3 (hd _ (.inr (.inr (.inr (.inr (.inl rfl)))))),h.m.ext e (hd _ (.inr (.inr (.inr (.inr (.inr rfl)))))),h.st.ext e (fun z hz=>hd z (.inl hz)),h.ns,h.ne,h.low⟩
theorem vB.fresh(h:vB H B lo n gs ov S w A q L sl bl hl)(e:ai H H'):vB H' B lo n gs ov S w A q L sl bl hl:=h.ext e (fun _ _ h=>h)
theorem vB.lt(h:vB H B lo n gs ov S w A q L sl bl hl):∀z,S z∨z=B.x∨B.row z→z<H.size:=by
 rintro z (hz|rfl|rfl|rfl|rfl|rfl)
 ·exact h.st.slt z hz
 ·exact aA h.o
 ·exact aA h.o1
 ·exact aA h.o2
 ·exact aA h.o3
 ·exact h.m.lt
theorem vB.ge(h:vB H B lo n gs ov S w A q L sl bl hl):∀z,S z∨z=B.x∨B.row z→lo≤z:=by
 obtain⟨g,g1,g2,g3,g4,g5⟩:=h.low
 rintro z (hz|rfl|rfl|rfl|rfl|rfl)
 ·exact g z hz
 all_goals assumption
theorem vB.to(h:vB H B lo n gs ov S w A q L sl bl hl)(st:Ec H' B.s S' w' A' q')(e:ag S H H')(hs:∀z,S' z→S z∨H.size≤z):vB H' B lo n gs ov S' w' A' q' L sl bl hl:=by
 have aO:=h.lt
 have hn:∀z,¬S z→z<H.size→¬S' z:=fun z h1 h2 h3=>by rcases hs z h3 with h|h;exact h1 h;omega
 obtain⟨n0,n1,n2,n3,n4⟩:=h.ns
 have hx:=aO B.x (.inr (.inl rfl))
 refine⟨e.own h.o n0,e.own h.o1 n1,e.own h.o2 n2,e.own h.o3 n3,h.m.ext e n4,st,⟨hn _ n0 hx,hn _ n1 (aA h.o1),hn _ n2 (aA h.o2),hn _ n3 (aA h.o3),hn _ n4 h.m.lt⟩,h.ne,fun z hz=>?_,h.low.2⟩
 have:=h.low.2.1
 rcases hs z hz with h1|h1
 ·exact h.low.1 z h1
 ·omega
theorem vB.tQ(h:vB H B lo n gs ov S w A q L sl bl hl)(u v:Nat){l:List Value}(hv:l=(sl.map fun k:Nat=>i64 k).set u (i64 v)):vB (H.wr B.b1 l) B lo n gs ov S w A q L (sl.set u v) bl hl∧ag (fun z=>z=B.b1) H (H.wr B.b1 l):=by
 obtain⟨e,o⟩:=Lr h.o1 l
 have hn:=h.ne
 obtain⟨n0,n1,n2,n3,n4⟩:=h.ns
 refine⟨⟨e.own h.o (by omega),?_,e.own h.o2 (by omega),e.own h.o3 (by omega),h.m.ext e (by omega),h.st.ext e (fun z hz e=>n1 (by rw[←e];exact hz)),h.ns,h.ne,h.low⟩,e⟩
 rw[o,hv,aoh]
theorem vB.abG(h:vB H B lo n gs ov S w A q L sl bl hl)(u:Nat)(v:Int){l:List Value}(hv:l=(bl.map i64).set u (i64 v)):vB (H.wr B.b2 l) B lo n gs ov S w A q L sl (bl.set u v) hl∧ag (fun z=>z=B.b2) H (H.wr B.b2 l):=by
 obtain⟨e,o⟩:=Lr h.o2 l
 have hn:=h.ne
 obtain⟨n0,n1,n2,n3,n4⟩:=h.ns
 refine⟨⟨e.own h.o (by omega),e.own h.o1 (by omega),?_,e.own h.o3 (by omega),h.m.ext e (by omega),h.st.ext e (fun z hz e=>n2 (by rw[←e];exact hz)),h.ns,h.ne,h.low⟩,e⟩
 rw[o,hv,aoh]
theorem vB.agp(h:vB H B lo n gs ov S w A q L sl bl hl)(u:Nat)(v:Int×Nat){l:List Value}(hv:l=lm (hl.set u v)):vB (H.wr B.b3 l) B lo n gs ov S w A q L sl bl (hl.set u v)∧ag (fun z=>z=B.b3) H (H.wr B.b3 l):=by
 obtain⟨e,o⟩:=Lr h.o3 l
 have hn:=h.ne
 obtain⟨n0,n1,n2,n3,n4⟩:=h.ns
 refine⟨⟨e.own h.o (by omega),e.own h.o1 (by omega),e.own h.o2 (by omega),?_,h.m.ext e (by omega),h.st.ext e (fun z hz e=>n3 (by rw[←e];exact hz)),h.ns,h.ne,h.low⟩,e⟩
 rw[o,hv]
theorem vB.put(h:vB H B lo n gs ov S w A q L sl bl hl)(hm:Bi H' B.mp L')(e:ag (fun z=>z=B.mp) H H'):vB H' B lo n gs ov S w A q L' sl bl hl:=by
 have hn:=h.ne
 obtain⟨n0,n1,n2,n3,n4⟩:=h.ns
 exact⟨e.own h.o (by omega),e.own h.o1 (by omega),e.own h.o2 (by omega),e.own h.o3 (by omega),hm,h.st.ext e (fun z hz e=>n4 (by rw[←e];exact hz)),h.ns,h.ne,h.low⟩
end
end Go.Proofs.YtjlnnljohemifaaGreat

namespace Go.Proofs.YtjlnnljohemifaaGreat
open Go Go.Vc
theorem Un{α:Type}{l:List α}{i:Nat}{x:α}(h:l[i]? =some x):l.set i x=l:=by
 apply aoo
 intro j
 by_cases e:i=j
 ·subst e
  rw[j7 h,h]
 ·rw[dK e]
section
variable {H : Hp} {B : NG} {lo n : Nat} {ov : Value} {S : Nat → Prop} {w : Nw} {A : Ar} {L : List ((Int × Nat) × Value)} {sl : List Nat} {bl : List Int} {hl : List (Int × Nat)} {a : Option Addr} {c : Nat} {es : List Ed}
theorem r7(m:vB H B lo n (.slice a es.length c) ov S w A (L.length:Int) L sl bl hl)(g:xh es n w A L sl bl hl)(hn:n≤4096)(hr:dc H 3 (.slice a es.length c) es.length (eF es)){u:Nat}(hu:u<n){i:Nat}{e:Ed}(he:es[i]? =some e)(Wh:es.length≤1000000000)
  (hby:sl[u]? =some 1→PP es (bl.getD u 0)):
  af Tryz.prog vH [ptr B.x,i64 u,i64 i] H fun v H'=>aw (v= .tuple [].toArray∧∃S' w' A' L' Iy Iz Ez,vB H' B lo n (.slice a es.length c) ov S' w' A' (L'.length:Int) L' Iy Iz Ez∧xh es n w' A' L' Iy Iz Ez∧aa8 es sl bl u i Iy Iz∧ag (fun z=>S z∨B.row z) H H'∧∀z,S' z→S z∨H.size≤z):=by
 have oZ:=(anu.1 he).1
 obtain⟨_,be,oe,le,rfl,fA,oY,fR,lu,xF,tF⟩:=dc.Cz hr he
 have Ta:wE es (i:Int)=e.w:=Oy he
 obtain⟨k,hk⟩:∃k,sl[u]? =some k:=⟨_,ans (by rw[g.l1];exact hu)⟩
 obtain⟨bu,hbu⟩:∃k,bl[u]? =some k:=⟨_,ans (by rw[g.l2];exact hu)⟩
 obtain⟨hh,hhu⟩:∃k,hl[u]? =some k:=⟨_,ans (by rw[g.l3];exact hu)⟩
 have C6:=g.two k (anz hk)
 have ck:(sl.map fun k:Nat=>i64 k)[u]? =some (i64 k):=by rw[anR,hk];rfl
 have cb:(bl.map i64)[u]? =some (i64 bu):=by rw[anR,hbu];rfl
 have Uo:bl.getD u 0=bu:=by rw[anx,hbu];rfl
 have sE:=g.l1
 have rU:=g.l2
 have RE:=g.l3
 refine Gv wh ⟨rfl,?_⟩
 refine v2 lU.eq_1 (ae m.o) ?_
 refine⟨⟨by omega,by omega⟩,?_⟩
 refine v4 fA Int.toNat_natCast tF (ae m.o) ?_
 refine⟨⟨by omega,by omega⟩,?_⟩
 refine v5 (ae m.o1) Int.toNat_natCast anw ant ck ?_
 refine am.dec (fun h2=>?_) (fun h2=>?_)<;>refine vs ?_
 ·have h2:k=2:=by omega
  subst h2
  exact⟨rfl,S,w,A,L,sl,bl,hl,m,g,.inl ⟨rfl,rfl,.inl hk⟩,ag.refl _ _,fun z hz=>.inl hz⟩
 refine v1 (ae m.o) ?_
 refine⟨⟨by omega,by omega⟩,?_⟩
 refine v5 (ae m.o1) Int.toNat_natCast anw ant ck ?_
 refine am.dec (fun h0=>?_) (fun h0=>?_)<;>refine v1 (ae m.o) ?_
 ·have h0:k=0:=by omega
  subst h0
  refine(FN m.st g.hs (fun x x0 _=>by have:=g.Xd x0;omega) (by have:=g.aR;omega)).mono ?_
  rintro _ H1 (⟨bK,_⟩| ⟨x,A',YJ,rfl,S1,SQ,e1,eM⟩)
  ·exact absurd bK (g.room hk)
  obtain⟨qH,hG⟩:=g.put YJ hk (i:Int) ((L.length:Int)+1)
  obtain⟨hx,_⟩:=Ar.vr YJ g.ok
  rw[Ta]at hG
  have m1:=m.to SQ e1 eM
  have Ol:=e1.size
  refine vs ?_
  obtain⟨f2,b2,z2⟩:=Lq H1 114 [Value.int .i64 0,Value.int .u32 0] [i64 x,Value.int .u32 ((A.bz x+1:Nat):Int)]
  generalize hhb:H1.size=hb at*
  generalize (H1.new 114 [Value.int .i64 0,Value.int .u32 0]).wr hb [i64 x,Value.int .u32 ((A.bz x+1:Nat):Int)]=H2 at*
  have m2:=m1.fresh f2
  refine jX.intro (fun H'=>H'.own B.x=some [i64 n,.slice (some ⟨be,oe,none⟩) es.length c,ptr B.s,.slice (some ⟨B.b1,0,none⟩) n n,.slice (some ⟨B.b2,0,none⟩) n n,.slice (some ⟨B.b3,0,none⟩) n n,.map (some B.mp),ov]∧H'.own hb=some [i64 x,Value.int .u32 ((A.bz x+1:Nat):Int)]) ⟨m2.o,b2⟩ ?_
  refine vs ?_
  refine fV.intro (.slice (some ⟨B.b1,0,none⟩) n n) (fun H' hI=>by refine v1 (ae hI.1) ?_;exact⟨trivial,trivial⟩) ?_
  refine vs ?_
  refine fV.intro (.slice (some ⟨B.b2,0,none⟩) n n) (fun H' hI=>by refine v1 (ae hI.1) ?_;exact⟨trivial,trivial⟩) ?_
  refine vs ?_
  refine fV.intro (.slice (some ⟨B.b3,0,none⟩) n n) (fun H' hI=>by refine v1 (ae hI.1) ?_;exact⟨trivial,trivial⟩) ?_
  refine vs ?_
  refine fV.intro (gk x (A.bz x+1)) (fun H' hI=>by refine v1 (ae hI.2) ?_;exact⟨trivial,trivial⟩) ?_
  refine vs ?_
  refine⟨⟨by omega,by omega⟩,?_⟩
  refine v4 m2.o1 Int.toNat_natCast anw ant ?_
  refine⟨by rw[anQ];omega,?_⟩
  refine vs ?_
  obtain⟨m3,e3⟩:=m2.tQ u 1 (l:=(sl.map fun k:Nat=>i64 k).set u (i64 1)) rfl
  have Up:=m1.lt
  have aP:hb≠B.b1∧hb≠B.b2∧hb≠B.b3∧hb≠B.mp:=by
   have h1:=Up B.b1 (by simp[NG.row])
   have h2:=Up B.b2 (by simp[NG.row])
   have h3:=Up B.b3 (by simp[NG.row])
   have h4:=Up B.mp (by simp[NG.row])
   omega
  have b3:=e3.own b2 aP.1
  generalize H2.wr B.b1 ((sl.map fun k:Nat=>i64 k).set u (i64 1))=H3 at*
  refine And.intro ⟨m3.o,b3⟩ ?_
  refine vs ?_
  refine⟨⟨by omega,by omega⟩,?_⟩
  refine v4 m3.o2 Int.toNat_natCast anw ant ?_
  refine⟨by rw[anQ];omega,?_⟩
  refine vs ?_
  obtain⟨m4,e4⟩:=m3.abG u (i:Int) rfl
  have b4:=e4.own b3 aP.2.1
  generalize H3.wr B.b2 ((bl.map i64).set u (i64 i))=H4 at*
  refine And.intro ⟨m4.o,b3⟩ ?_
  refine vs ?_
  refine⟨⟨by omega,by omega⟩,?_⟩
  refine v3 m4.o3 Int.toNat_natCast ant ?_
  refine⟨by rw[IE];omega,?_⟩
  refine vs ?_
  obtain⟨m5,e5⟩:=m4.agp u (x,A.bz x+1) (Qh (by omega))
  have b5:=e5.own b4 aP.2.2.1
  simp only at m5 e5 b5
  generalize H4.wr B.b3 (((lm hl).set (u*2) (i64 x)).set (u*2+1) (.int .u32 ((A.bz x+1:Nat):Int)))=H5 at*
  refine And.intro ⟨m5.o,b4⟩ ?_
  refine v2 (ae m5.o) (ae b5) ?_
  refine⟨Iv _ _,?_⟩
  refine Bi.YA m5.m (a:=(x,A.bz x+1)) qH fun H6 mp6 e6=>?_
  refine vs ?_
  have m6:=m5.put mp6 e6
  have el:((L++[((x,A.bz x+1),i64 (u:Int))]).length:Int)=(L.length:Int)+1:=by rw[anD];rfl
  refine⟨rfl,S1,_,_,_,_,_,_,?_,hG,.inr ⟨rfl,rfl,.inl hk⟩,?_,eM⟩
  ·rw[el];exact m6
  ·have t1:ag (fun z=>S z∨B.row z) H H2:=(e1.mono fun z _ h=>.inl h).trans (f2.mono fun z _ h=>h.elim)
   exact(((t1.trans (e3.mono fun z _ h=>.inr (.inl h))).trans (e4.mono fun z _ h=>.inr (.inr (.inl h)))).trans (e5.mono fun z _ h=>.inr (.inr (.inr (.inl h))))).trans (e6.mono fun z _ h=>.inr (.inr (.inr (.inr h))))
 have h1:k=1:=by omega
 subst h1
 have bJ:=hby hk
 rw[Uo]at bJ
 obtain⟨j,e',hj,ir,YC⟩:=bJ.get
 subst hj
 obtain⟨_,be',oe',le',hae,PV,_,_,hd0,QR,jv⟩:=dc.Cz hr ir
 injection hae with hae
 injection hae with Py rR
 subst Py rR
 rw[fA]at PV
 injection PV with PV
 subst PV
 have Uq:wE es (j:Int)=e'.w:=Oy ir
 refine⟨⟨by omega,by omega⟩,?_⟩
 refine v5 (ae m.o2) Int.toNat_natCast anw ant cb ?_
 refine⟨⟨by omega,by omega⟩,?_⟩
 refine v3 fA Int.toNat_natCast jv ?_
 refine am.dec (fun aO=>?_) (fun aO=>?_)<;>refine vs ?_
 rotate_left
 ·exact⟨rfl,S,w,A,L,sl,bl,hl,m,g,.inl ⟨rfl,rfl,.inr ⟨hk,by rw[Uo,Ta,Uq];omega⟩⟩,ag.refl _ _,fun z hz=>.inl hz⟩
 obtain⟨x,s,x0,q1,q2,q3⟩:=g.c2 u hk
 rw[hhu]at q1
 injection q1 with q1
 subst q1
 obtain⟨k1,k2,k3⟩:=Sz hhu
 simp only at k1 k2 k3
 have jQ:A.live x:=(g.lk.live x).1 ⟨x0,_,q2,by simp⟩
 refine v1 (ae m.o) ?_
 refine⟨⟨by omega,by omega⟩,?_⟩
 refine v3 (ae m.o3) Int.toNat_natCast ant ?_
 refine⟨by rw[IE];omega,?_⟩
 refine v1 k3 ?_
 refine(xg m.st jQ e.w).mono ?_
 rintro _ H1 ⟨y,hy,⟨bK,_⟩| ⟨_,rfl,S1,SQ,e1,eM⟩⟩
 ·rw[q2]at hy
  injection hy with hy
  subst hy
  rw[Uo,Uq]at bK
  simp only at bK
  omega
 have hG:=g.lower hk x0 hhu hy (i:Int)
 rw[Ta]at hG
 have m1:=m.to SQ e1 eM
 refine v1 (ae m1.o) ?_
 refine⟨⟨by omega,by omega⟩,?_⟩
 refine v4 m1.o2 Int.toNat_natCast anw ant ?_
 refine⟨by rw[anQ];omega,?_⟩
 refine vs ?_
 obtain⟨m2,e2⟩:=m1.abG u (i:Int) rfl
 rw[q2]at hy
 injection hy with hy
 subst hy
 exact⟨rfl,S1,_,A,L,sl,_,hl,m2,hG,.inr ⟨(Un hk).symm,rfl,.inr ⟨hk,by rw[Uo,Ta,Uq];omega⟩⟩,(e1.mono fun z _ h=>.inl h).trans (e2.mono fun z _ h=>.inr (.inr (.inl h))),eM⟩
end
end Go.Proofs.YtjlnnljohemifaaGreat

namespace Go.Proofs.YtjlnnljohemifaaGreat
open Go Go.Vc
section
variable {Hh H : Hp} {B : NG} {lo n : Nat} {ov : Value} {S : Nat → Prop} {w : Nw} {A : Ar} {L : List ((Int × Nat) × Value)} {sl : List Nat} {bl : List Int} {hl : List (Int × Nat)} {a : Option Addr} {c : Nat} {es : List Ed}
theorem jq(m:vB H B lo n (.slice a es.length c) ov S w A (L.length:Int) L sl bl hl)(qB:gF (n:Int) es)(hr:dc Hh 3 (.slice a es.length c) es.length (eF es))(fH:ai Hh H)(NF:Hh.size≤lo)
  {v:Nat}(hv:v<n)(g:xh es n w A L (sl.set v 2) bl hl){tB tb:Nat}{fp:Nat→Option Nat}(t:BE H tB tb n (fun v=>bf (qT v) 0 es) fp)(ht:∀z,(z=tb∨∃i,i<n∧fp i=some z)→¬ (S z∨z=B.x∨B.row z))
  {D:Nat→Prop}{o:List Nat}{k:Nat→Int}{T:List Int}(gs:Nx es D o k T (sl.set v 2) bl (bf (qT v) 0 es))(iY:o[o.length - 1]? =some v):
  af Tryz.prog vG [ptr B.x,i64 v,.slice (some ⟨tb,0,none⟩) n n] H fun r H'=>aw (r= .tuple [].toArray∧∃S' w' A' L' Iy Iz Ez,vB H' B lo n (.slice a es.length c) ov S' w' A' (L'.length:Int) L' Iy Iz Ez∧xh es n w' A' L' Iy Iz Ez∧Nx es D o k T Iy Iz []∧ag (fun z=>S z∨B.row z) H H'∧∀z,S' z→S z∨H.size≤z):=by
 have xM:n≤4096:=by have:=qB.n1;omega
 have Wh:=qB.len
 have zH:sl.length=n:=by have:=g.l1;rw[anv]at this;exact this
 refine bm wg ?_
 refine v1 (ae m.o) ?_
 refine⟨⟨by omega,by omega⟩,?_⟩
 refine v4 m.o1 Int.toNat_natCast anw ant ?_
 refine⟨by rw[anQ];omega,?_⟩
 refine vs ?_
 obtain⟨m1,e1⟩:=m.tQ v 2 (l:=(sl.map fun k:Nat=>i64 k).set v (i64 2)) rfl
 generalize H.wr B.b1 ((sl.map fun k:Nat=>i64 k).set v (i64 2))=H1 at*
 have aO:=m.lt
 have OP:=m.ge
 have x1:ag (fun z=>S z∨B.row z) H H1:=e1.mono fun z _ h=>.inr (.inl h)
 obtain⟨cN,sv,Hy,alD,xJ,Bl⟩:=t.get hv
 have ho:=x1.own Hy (fun h=>ht tb (.inl rfl) (h.imp_right .inr))
 refine⟨⟨by omega,by omega⟩,?_⟩
 refine v5 (ae ho) Int.toNat_natCast anw ant xJ ?_
 obtain⟨ra,rc,rfl,hrc⟩:=dD Bl
 have hql:=pq (qT v) es 0
 refine vs ?_
 obtain⟨row,IQ⟩:∃row,row=bf (qT v) 0 es:=⟨_,rfl⟩
 rw[←IQ]at Bl gs hql ⊢
 have hP:∀z,fp v=some z→¬ (S z∨z=B.x∨B.row z):=fun z hz=>ht z (.inr ⟨v,hv,hz⟩)
 refine bk.intro (fun mm env H'=>∃ (j:Nat) (S':Nat→Prop) (w':Nw) (A':Ar) (L':List ((Int×Nat)×Value)) (Iy:List Nat) (Iz:List Int) (Ez:List (Int×Nat)),mm=row.length - j∧j≤row.length∧vB H' B lo n (.slice a es.length c) ov S' w' A' (L'.length:Int) L' Iy Iz Ez∧xh es n w' A' L' Iy Iz Ez∧Nx es D o k T Iy Iz (row.drop j)∧ag (fun z=>S z∨B.row z) H H'∧(∀z,S' z→S z∨H.size≤z)∧
  env=[(0,ptr B.x),(1,i64 v),(18,.slice ra row.length rc),(19,i64 row.length),(20,i64 j)]) row.length ⟨0,S,w,A,L,sl.set v 2,bl,hl,rfl,ao2 _,m1,g,gs,x1,fun z hz=>.inl hz,rfl⟩ ?_
 clear m1 e1 x1 ho xJ gs g
 rintro mm env H2 ⟨j,S2,w2,A2,L2,It,bl2,rU,rfl,hj,m2,g2,gs2,x2,K7,rfl⟩
 have dM:=x2.size
 have fH2:ai Hh H2:=fH.then x2 (fun z hz=>by have:=OP z (hz.imp_right .inr);omega)
 refine vs ?_
 refine am.dec (fun CL=>?_) (fun CL=>?_)<;>refine vs ?_
 rotate_left
 ·have gD:j=row.length:=by omega
  subst gD
  rw[List.drop_length]at gs2
  exact⟨rfl,S2,w2,A2,L2,It,bl2,rU,m2,g2,gs2,x2,K7⟩
 have gD:j<row.length:=by omega
 obtain⟨ii,hii⟩:∃x,row[j]? =some x:=⟨_,ans gD⟩
 have bL:ii∈bf (qT v) 0 es:=by rw[←IQ];exact anz hii
 have db:=Xe bL
 have XB:=(Bm qB db).2 bL
 obtain⟨i,e,rfl,he,oZ⟩:=(oS.1 db).get
 have abI:=Bl.ext x2 (fun z hz h=>hP z hz (h.imp_right .inr))
 obtain⟨_,rb,ro,rl,rfl,agt,agu⟩:=dc.num abI.rd hii
 refine⟨⟨by omega,by omega⟩,?_⟩
 refine v5 agt Int.toNat_natCast anw agu (ae m2.o) ?_
 have r2:=hr.fresh fH2
 obtain⟨_,be,oe,le,rfl,fA,oY,fR,lu,xF,tF⟩:=dc.Cz r2 he
 obtain⟨ef0,ef1,et0,et1⟩:=qB.ends e (anz he)
 refine⟨⟨by omega,by omega⟩,?_⟩
 simp(disch:=(first|omega| (simp only[Zs]<;>omega)|fail)) only[go_sem, ↓reduceIte,Zv,fA,Int.toNat_natCast,fR,gG]
 refine⟨by omega,?_⟩
 simp(disch:=(first|omega| (simp only[Zs]<;>omega)|fail)) only[go_sem, ↓reduceIte,Zv,fR,gG]
 obtain⟨f3,b3,z3⟩:=Lq H2 61 [i64 0,i64 0,i64 0] [i64 e.f,i64 e.t,i64 e.w]
 generalize Gz:H2.size=cb at*
 generalize (H2.new 61 [i64 0,i64 0,i64 0]).wr cb [i64 e.f,i64 e.t,i64 e.w]=H3 at*
 have m3:=m2.fresh f3
 refine v1 (ae b3) ?_
 rw[F9 he]at XB
 have hu:((e.f.toNat+e.t.toNat - v:Nat):Int)=e.f+e.t - v∧e.f.toNat+e.t.toNat - v<n:=by
  unfold Touch at XB
  simp only at XB
  omega
 have hou:e.f.toNat+e.t.toNat - v=other (fE es (i:Int)) v:=by rw[F9 he];rfl
 rw[wrap64 (n:=e.f+e.t) (by omega) (by omega),←hu.1,wrap64 (by omega) (by omega)]
 generalize e.f.toNat+e.t.toNat - v=u at*
 have qh:row.drop j=(i:Int)::row.drop (j+1):=by
  rw[aoK gD]
  congr 1
  rw[ans gD]at hii
  injection hii
 rw[qh]at gs2
 refine(r7 m3 g2 xM (r2.fresh f3) hu.2 he (by omega) (fun hw=>?_)).mono ?_
 ·obtain⟨_,_,_,hb,_⟩:=gs2.P.wait u hw
  exact oS.1 hb
 rintro _ H4 ⟨rfl,S4,w4,A4,L4,Vn,bl4,T1,m4,g4,off,e4,WB⟩
 refine vs ?_
 rw[wrap64 (n:=(j:Int)+1) (by omega) (by omega)]
 have gs4:=gs2.offer iY db ((Bm qB db).2 bL) hou (by rw[g2.l2];exact hu.2) off
 have hz4:=e4.size
 have QB:=f3.size
 refine⟨row.length - (j+1),by omega,j+1,S4,w4,A4,L4,Vn,bl4,T1,rfl,by omega,m4,g4,gs4,⟨by omega,fun z hz hn=>?_⟩,fun z hz=>?_,rfl⟩
 ·rw[e4.aM z (by omega) (fun h=>?_),f3.aM z (by omega) (fun h=>h),x2.aM z hz hn]
  rcases h with h|h
  ·rcases K7 z h with h|h
   ·exact hn (.inl h)
   ·omega
  ·exact hn (.inr h)
 ·rcases WB z hz with h|h
  ·exact K7 z h
  ·exact .inr (by omega)
end
end Go.Proofs.YtjlnnljohemifaaGreat

namespace Go.Proofs.YtjlnnljohemifaaGreat
open Go Go.Vc
structure GC(H:Hp)(B:NG)(lo N:Nat)(gs:Value)(es:List Ed)(tB tb:Nat)(fp:Nat→Option Nat)(S:Nat→Prop)(w:Nw)(A:Ar)(L:List ((Int×Nat)×Value))(sl:List Nat)(bl:List Int)(hl:List (Int×Nat))(T:List Int)(ov:Value)(Ew:Option Nat):Prop where
 m:vB H B lo N gs ov S w A (L.length:Int) L sl bl hl
 t:BE H tB tb N (fun v=>bf (qT v) 0 es) fp
 td:∀z,(z=tb∨∃i,i<N∧fp i=some z)→¬ (S z∨z=B.x∨B.row z)
 os:Sl H 1 ov T.length (T.map i64) Ew
 od:∀b,Ew=some b→lo≤b∧¬ (S b∨b=B.x∨B.row b)∧¬ (b=tb∨∃i,i<N∧fp i=some b)
section
variable {H H' : Hp} {B : NG} {lo N : Nat} {gs : Value} {es : List Ed} {tB tb : Nat} {fp : Nat → Option Nat} {S S' : Nat → Prop} {w w' : Nw} {A A' : Ar} {L L' : List ((Int × Nat) × Value)} {sl Iy : List Nat} {bl Iz : List Int} {hl Ez : List (Int × Nat)} {T : List Int} {ov Za : Value} {Ew : Option Nat}
theorem GC.tlt(p:GC H B lo N gs es tB tb fp S w A L sl bl hl T ov Ew):∀z,(z=tb∨∃i,i<N∧fp i=some z)→z<H.size:=by
 rintro z (rfl| ⟨i,hi,hp⟩)
 ·exact p.t.lt
 ·obtain⟨_,_,_,_,_,s0⟩:=p.t.get hi
  rw[hp]at s0
  exact Sl.lt s0
theorem GC.olt(p:GC H B lo N gs es tB tb fp S w A L sl bl hl T ov Ew):∀b,Ew=some b→b<H.size:=fun b hb=>by
 have:=p.os
 rw[hb]at this
 exact Sl.lt this
theorem GC.go(p:GC H B lo N gs es tB tb fp S w A L sl bl hl T ov Ew)(m':vB H' B lo N gs ov S' w' A' (L'.length:Int) L' Iy Iz Ez)(e:ag (fun z=>S z∨B.row z) H H')(hs:∀z,S' z→S z∨H.size≤z):GC H' B lo N gs es tB tb fp S' w' A' L' Iy Iz Ez T ov Ew:=by
 have h1:=p.tlt
 have h2:=p.olt
 have imp:∀z,z<H.size→(S' z∨z=B.x∨B.row z)→(S z∨z=B.x∨B.row z):=fun z hz h=>by
  rcases h with h|h
  ·rcases hs z h with h|h
   ·exact .inl h
   ·omega
  ·exact .inr h
 refine⟨m',p.t.ext e (fun h=>p.td tb (.inl rfl) (h.imp_right .inr)) (fun i q hi hq h=>p.td q (.inr ⟨i,hi,hq⟩) (h.imp_right .inr)),fun z hz h=>p.td z hz (imp z (h1 z hz) h),p.os.ext e (fun b hb h=>(p.od b hb).2.1 (h.imp_right .inr)),fun b hb=>⟨(p.od b hb).1,fun h=>(p.od b hb).2.1 (imp b (h2 b hb) h),(p.od b hb).2.2⟩⟩
theorem GC.fresh(p:GC H B lo N gs es tB tb fp S w A L sl bl hl T ov Ew)(e:ai H H'):GC H' B lo N gs es tB tb fp S w A L sl bl hl T ov Ew:=
 p.go (p.m.fresh e) (e.mono fun _ _ h=>h.elim) (fun z hz=>.inl hz)
theorem GC.to(p:GC H B lo N gs es tB tb fp S w A L sl bl hl T ov Ew)(st:Ec H' B.s S' w' A' (L.length:Int))(e:ag S H H')(hs:∀z,S' z→S z∨H.size≤z):GC H' B lo N gs es tB tb fp S' w' A' L sl bl hl T ov Ew:=
 p.go (p.m.to st e hs) (e.mono fun z _ h=>.inl h) hs
theorem GC.push{H1 H2 H3:Hp}{cO:Option Nat}{x:Int}(p:GC H B lo N gs es tB tb fp S w A L sl bl hl T ov Ew)(f:ai H H1)(s:Sl H2 1 Za (T.length+1) (T.map i64++[i64 x]) cO)(e:ag (fun z=>Ew=some z) H1 H2)(hf:cO=Ew∨∃b,cO=some b∧H1.size≤b∧b<H2.size)
  (h3:H3=H2.wr B.x [i64 N,gs,ptr B.s,.slice (some ⟨B.b1,0,none⟩) N N,.slice (some ⟨B.b2,0,none⟩) N N,.slice (some ⟨B.b3,0,none⟩) N N,.map (some B.mp),Za]):GC H3 B lo N gs es tB tb fp S w A L sl bl hl (T++[x]) Za cO∧ag (fun z=>Ew=some z∨z=B.x) H H3:=by
 subst h3
 have h1:=p.tlt
 have hz:=f.size
 have aO:=p.m.lt
 have OP:=p.m.ge
 have hn:=p.m.ne
 have e0:ag (fun z=>Ew=some z) H H2:=(f.mono fun _ _ h=>h.elim).oJ e (fun _ _ h=>h)
 have m2:=p.m.ext e0 (fun z hz h=>(p.od z h).2.1 hz)
 obtain⟨ex,ox⟩:=Lr m2.o [i64 N,gs,ptr B.s,.slice (some ⟨B.b1,0,none⟩) N N,.slice (some ⟨B.b2,0,none⟩) N N,.slice (some ⟨B.b3,0,none⟩) N N,.map (some B.mp),Za]
 obtain⟨n0,_⟩:=p.m.ns
 have hxs:=aO B.x (.inr (.inl rfl))
 have my:=p.m.low.2.1
 have nfp:∀b,cO=some b→lo≤b∧¬ (S b∨b=B.x∨B.row b)∧¬ (b=tb∨∃i,i<N∧fp i=some b):=fun b hb=>by
  rcases hf with h| ⟨b',h1',h2,_⟩
  ·exact p.od b (by rw[←h];exact hb)
  ·rw[hb]at h1'
   injection h1' with h1'
   subst h1'
   exact⟨by omega,fun h=>by have:=aO b h;omega,fun h=>by have:=h1 b h;omega⟩
 refine⟨⟨⟨ox,ex.own m2.o1 (by omega),ex.own m2.o2 (by omega),ex.own m2.o3 (by omega),m2.m.ext ex (by omega),m2.st.ext ex (fun z hz e=>n0 (by rw[←e];exact hz)),p.m.ns,p.m.ne,p.m.low⟩,(p.t.ext e0 (fun h=>(p.od tb h).2.2 (.inl rfl)) (fun i q hi hq h=>(p.od q h).2.2 (.inr ⟨i,hi,hq⟩))).ext ex (fun h=>p.td tb (.inl rfl) (.inr (.inl h))) (fun i q hi hq h=>p.td q (.inr ⟨i,hi,hq⟩) (.inr (.inl h))),p.td,?_,nfp⟩,(e0.mono fun z _ h=>.inl h).trans (ex.mono fun z _ h=>.inr h)⟩
 rw[anD,an8]
 exact s.ext ex (fun b hb h=>(nfp b hb).2.1 (.inr (.inl h)))
end
theorem nM{n:Int}{es:List Ed}{T:List Int}(hr:gF n es)(h:iH (T.map (fE es)))(hi:∀i∈T,i∈allI es.length):T.length≤n.toNat:=by
 have:=zJ (n:=n.toNat) h (fun e he=>by
  obtain⟨i,hm,rfl⟩:=anS.1 he
  exact EJ hr (oS.1 (hi i hm)))
 rw[anQ]at this
 omega
theorem Qi{n:Int}{es:List Ed}{T T':List Int}(hr:gF n es)(hp:T.Perm T')(h:jR n es T)(hl:PR es T):jR n es T'∧PR es T':=by
 have hm:(T.map (fE es)).Perm (T'.map (fE es)):=hp.map _
 refine⟨⟨fun i hi=>h.ins i (hp.mem_iff.2 hi),OQ (n:=n.toNat) hm (fun e he=>?_) h.xV,fun u v hh=>(BG hm u v).1 (h.all u v hh)⟩,fun i hi=>?_⟩
 ·obtain⟨i,hi,rfl⟩:=anS.1 he
  exact h.aa6 hr i hi
 ·have hs:((zE (wE es) T (wE es i)).map (fE es)).Perm ((zE (wE es) T' (wE es i)).map (fE es)):=(hp.filter _).map _
  exact(BG hs _ _).1 (hl i hi)
theorem Gk(T:List Int):T.Perm (iZ T):=(List.mergeSort_perm _ _).symm
theorem SA{T:List Int}(h:T.Nodup):(iZ T).Pairwise (· < ·):=by
 have h1:(iZ T).Pairwise fun x y=>decide (x≤y)=true:=List.pairwise_mergeSort (fun a b c h1 h2=>by simp only[anU]at*;omega) (fun a b=>by simp only[ape,anU];omega) T
 have h2:(iZ T).Nodup:=(Gk T).nodup_iff.1 h
 refine List.Pairwise.imp₂ (fun a b zI aP=>?_) h1 h2
 simp only[anU]at zI
 omega
def Next(es:List Ed)(N:Nat)(w:Nw)(A:Ar)(L:List ((Int×Nat)×Value))(sl:List Nat)(bl:List Int)(hl:List (Int×Nat))(x:Int)(gg:Nat)(er:Int):Prop:=
 (er=172∧xh es N w A L sl bl hl∧∀v:Nat,sl[v]? ≠some 1)∨
 (er=0∧∃v:Nat,sl[v]? =some 1∧((x,gg),i64 v)∈L∧(∀u:Nat,sl[u]? =some 1→wE es (bl.getD v 0)≤wE es (bl.getD u 0))∧xh es N w A L (sl.set v 2) bl hl)
theorem IF{H:Hp}{B:NG}{lo N:Nat}{gs:Value}{es:List Ed}{tB tb:Nat}{fp:Nat→Option Nat}{S:Nat→Prop}{w:Nw}{A:Ar}{L:List ((Int×Nat)×Value)}{sl:List Nat}{bl:List Int}{hl:List (Int×Nat)}{T:List Int}{ov:Value}{Ew:Option Nat}
  (p:GC H B lo N gs es tB tb fp S w A L sl bl hl T ov Ew)(g:xh es N w A L sl bl hl):af Tryz.prog jB [ptr B.s,i64 1] H fun v H'=>aw (
  ∃ (x:Int) (gg:Nat) (k er:Int) (S':Nat→Prop) (w':Nw) (A':Ar),v= .tuple [gk x gg,i64 k,i64 er].toArray∧GC H' B lo N gs es tB tb fp S' w' A' L sl bl hl T ov Ew∧Next es N w' A' L sl bl hl x gg er∧ag S H H'∧∀z,S' z→S z∨H.size≤z):=by
 refine(zi p.m.st g.hs).mono ?_
 rintro _ H1 (⟨h0,rfl,S1,SQ,e1,eM⟩| ⟨x,y,hx,hy,rfl,S1,SQ,e1,eM⟩)
 ·exact⟨0,0,0,172,S1,w,A,rfl,p.to SQ e1 eM,.inl ⟨rfl,g,g.none_ h0⟩,e1,eM⟩
 ·obtain⟨v,q1,q2,q3,q4⟩:=g.take hx hy
  exact⟨x,A.bz x,y.2.1,0,S1,_,_,rfl,p.to SQ e1 eM,.inr ⟨rfl,v,q1,q2,q3,q4⟩,e1,eM⟩
end Go.Proofs.YtjlnnljohemifaaGreat
