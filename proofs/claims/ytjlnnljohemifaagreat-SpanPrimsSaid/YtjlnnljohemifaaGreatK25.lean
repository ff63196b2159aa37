/- Texts put behind each other. -/
import Derived.Test.YtjlnnljohemifaaGreatK98
import Derived.Test.YtjlnnljohemifaaGreatK9
import Derived.Test.YtjlnnljohemifaaGreatK18
import Derived.Test.YtjlnnljohemifaaGreatK23
import Derived.Test.YtjlnnljohemifaaGreatK24
set_option maxRecDepth 100000
set_option maxHeartbeats 8000000
set_option linter.unusedVariables false
set_option linter.unusedSimpArgs false
namespace Go.Proofs.YtjlnnljohemifaaGreat
open Go Go.Vc
def qM(v:Nat)(e:Ed):Bool:=decide (e.f≠e.t) && decide (e.t=(v:Int))
theorem Qo{es:List Ed}{j k:Nat}{e:Ed}(X:Nat→List Int)(he:es[j]? =some e)(hq:∀v,qM v e=decide (v=k)):
  Ic (fun v=>X v++bi (qM v) 0 (es.take j)) k (X k++bi (qM k) 0 (es.take j)++[(j:Int)])=fun v=>X v++bi (qM v) 0 (es.take (j+1)):=by
 funext v
 unfold Ic
 rw[B7 _ he,hq]
 by_cases h:v=k
 ·subst h;simp
 ·simp[h]
theorem Qp{es:List Ed}{j:Nat}{e:Ed}(X:Nat→List Int)(he:es[j]? =some e)(hq:e.f=e.t):
  (fun v=>X v++bi (qM v) 0 (es.take j))=fun v=>X v++bi (qM v) 0 (es.take (j+1)):=by
 funext v
 rw[B7 _ he]
 simp[qM,hq]
theorem O8(es:List Ed)(v:Nat):je (bi (qL v) 0 es++bi (qM v) 0 es)=bi (qT v) 0 es:=by
 have h:=TD (qL v) (qM v) es 0 (fun e _ h=>by
  simp only[qL,qM,aoK,ao6]at h
  omega)
 have hq:(fun e=>qL v e || qM v e)=qT v:=by
  funext e
  unfold qL qM qT
  by_cases h1:e.f=v<;>by_cases h2:e.t=v<;>by_cases h3:e.f=e.t<;>simp[h1,h2,h3]<;>omega
 rw[hq]at h
 exact h
theorem xJ{H:Hp}{n:Int}{a:Option Addr}{c:Nat}{es:List Ed}(h:cO H 3 (.slice a es.length c) es.length (dW es))(hm:es.length≤1000000000):
  af Tryz.prog B8 [zJ n (.slice a es.length c)] H fun v H'=>aw (ah H H'∧((dZ n es=false∧v= .slice none 0 0)∨
   (dZ n es=true∧∃b fp,v= .slice (some ⟨b,0,none⟩) n.toNat n.toNat∧B3 H' H.size b n.toNat (fun v=>bi (qT v) 0 es) fp))):=by
 refine GO Ck ⟨rfl,?_⟩
 have f0:ah H (H.new 52 [i64 n,.slice a es.length c]):=(ag.refl _ _).new _ _
 have b0:=az H 52 [i64 n,.slice a es.length c]
 simp(disch:=(first|omega| (simp only[Zs]<;>omega)|fail)) only[go_sem, ↓reduceIte,Zv,pS,zJ]
 generalize H.new 52 [i64 n,.slice a es.length c]=H0 at*
 have h0:=h.fresh f0
 refine(zL (n:=n) h0 hm).mono ?_
 rintro _ H1 ⟨f1,⟨hR,rfl⟩| ⟨hR,O5,fp0,rfl,sl1⟩⟩
 ·refine vs ?_
  exact⟨f0.trans f1,.inl ⟨hR,rfl⟩⟩
 have b1:=f1.own b0 (fun h=>h)
 have f01:=f0.trans f1
 have ZC:=aB b0
 have VK:=sl1.base
 obtain⟨Lm,vV,Vl,Se⟩:=(fY n es).1 hR
 simp(disch:=(first|omega| (simp only[Zs]<;>omega)|fail)) only[go_sem, ↓reduceIte,Zv,ae b1,Option.isNone_some]
 have DC:(fun v=>bi (qL v) 0 es)=fun v=>bi (qL v) 0 es++bi (qM v) 0 (es.take 0):=by funext v;simp[bi]
 rw[DC]at sl1
 refine aW.intro (fun m env H'=>ah H H'∧∃ (j:Nat) (fp:Nat→Option Nat),m=es.length - j∧j≤es.length∧B3 H' H0.size O5 n.toNat (fun v=>bi (qL v) 0 es++bi (qM v) 0 (es.take j)) fp∧
  env=[(3,.slice (some ⟨O5,0,none⟩) n.toNat n.toNat),(13,.slice a es.length c),(14,i64 es.length),(15,i64 j)]) es.length ⟨f01,0,_,by omega,by omega,sl1,rfl⟩ ?_
 rintro m env H2 ⟨f2,j,fp,T6,hj,IJ,rfl⟩
 have h2:=h.fresh f2
 refine vs ?_
 refine am.dec (fun aO=>?_) (fun aO=>?_)<;>refine vs ?_
 ·have fS:j<es.length:=by omega
  obtain⟨e,he⟩:∃e,es[j]? =some e:=⟨_,aog fS⟩
  obtain⟨_,b,o,lb,rfl,eW,nS,eG⟩:=cO.DN h2 he
  refine⟨⟨by omega,by omega⟩,?_⟩
  have bK:=aom he
  obtain⟨ef0,ef1,et0,et1⟩:=Se e bK
  simp(disch:=(first|omega| (simp only[Zs]<;>omega)|fail)) only[go_sem, ↓reduceIte,Zv,eW,Int.toNat_natCast,eG,eE]
  refine⟨by omega,?_⟩
  have q2:=az H2 61 [i64 0,i64 0,i64 0]
  simp(disch:=(first|omega| (simp only[Zs]<;>omega)|fail)) only[go_sem, ↓reduceIte,Zv,eG,eE,q2]
  have q3:=ai (l:=[i64 e.f,i64 e.t,i64 e.w]) q2
  have f3:ah H2 ((H2.new 61 [i64 0,i64 0,i64 0]).wr H2.size [i64 e.f,i64 e.t,i64 e.w]):=((ag.refl _ _).new _ _:ah H2 _).then ((ag.refl (fun z=>z=H2.size) _).wr (fun _=>rfl) _) (fun z hz=>by omega)
  have MG:((H2.new 61 [i64 0,i64 0,i64 0]).wr H2.size [i64 e.f,i64 e.t,i64 e.w]).size=H2.size+1:=by rw[eo,ap]
  have hol:=IJ.lt
  generalize (H2.new 61 [i64 0,i64 0,i64 0]).wr H2.size [i64 e.f,i64 e.t,i64 e.w]=H3 at*
  have LO:=IJ.fresh f3
  have Um:e.t.toNat<n.toNat:=by omega
  obtain⟨cS,sv,MH,z6,yf,BA⟩:=LO.get Um
  have agW:=pJ (qL e.t.toNat) es 0
  have abZ:=pJ (qM e.t.toNat) (es.take j) 0
  have Zo:(bi (qL e.t.toNat) 0 es++bi (qM e.t.toNat) 0 (es.take j)).length≤2*es.length:=by rw[aoq];rw[aoW]at abZ;omega
  have f13:ah H H3:=f2.trans f3
  refine v1 (ae q3) ?_
  refine am.dec (fun XM=>?_) (fun XM=>?_)<;>refine vs ?_
  ·rw[wrap64 (n:=(j:Int)+1) (by omega) (by omega)]
   rw[Qp _ he XM]at LO
   exact⟨es.length - (j+1),by omega,f13,j+1,fp,rfl,by omega,LO,rfl⟩
  have hq:∀v,qM v e=decide (v=e.t.toNat):=fun v=>by unfold qM;rw[aov XM,apy,decide_eq_decide];omega
  have fin:∀ (H4:Hp) (v':Value) (H5:Hp) (cP:Option Nat),ah H3 H4→Sl H5 1 v' (((bi (qL e.t.toNat) 0 es++bi (qM e.t.toNat) 0 (es.take j))).length+1) (((bi (qL e.t.toNat) 0 es++bi (qM e.t.toNat) 0 (es.take j))).map i64++[i64 j]) cP→ag (fun z=>fp e.t.toNat=some z) H4 H5→
    (cP=fp e.t.toNat∨∃p,cP=some p∧H4.size≤p∧p<H5.size)→
    H5.own O5=some cS∧H5.own H2.size=some [i64 e.f,i64 e.t,i64 e.w]∧(H5.wr O5 (cS.set e.t.toNat v')).own H2.size=some [i64 e.f,i64 e.t,i64 e.w]∧ah H (H5.wr O5 (cS.set e.t.toNat v'))∧
    B3 (H5.wr O5 (cS.set e.t.toNat v')) H0.size O5 n.toNat (fun v=>bi (qL v) 0 es++bi (qM v) 0 (es.take (j+1))) (Qc fp e.t.toNat cP):=by
   intro H4 v' H5 cP f4 s5 e5 iq
   have VE:=LO.fresh f4
   have PH:=LO.low e.t.toNat Um
   have Xj:∀z,fp e.t.toNat=some z→z<H2.size:=fun z hz=>by
    obtain⟨_,_,_,_,_,s0⟩:=IJ.get Um
    rw[hz]at s0
    exact Sl.lt s0
   have ho4:=f4.own MH (fun h=>h)
   have q4:=f4.own q3 (fun h=>h)
   have q5:H5.own H2.size=some [i64 e.f,i64 e.t,i64 e.w]:=e5.own q4 (fun hh=>by have:=Xj _ hh;omega)
   obtain⟨k1,k2⟩:=VE.put Um (l:=(bi (qL e.t.toNat) 0 es++bi (qM e.t.toNat) 0 (es.take j))++[(j:Int)]) e5 (by rw[aoq,aoM];exact s5) iq ho4
   rw[Qo _ he hq]at k2
   refine⟨k1,q5,by rw[jZ (by omega)];exact q5,?_,k2⟩
   exact((f13.trans f4).then e5 (fun z hz=>by have:=(PH z hz).1;omega)).then ((ag.refl (fun z=>z=O5) _).wr (fun _=>rfl) _) (fun z hz=>by omega)
  refine jB.intro (fun H'=>H'.own H2.size=some [i64 e.f,i64 e.t,i64 e.w]) q3 ?_
  refine vs ?_
  refine fJ.intro (i64 e.t) (fun H' hI=>by refine v1 (ae hI) ?_;exact⟨trivial,trivial⟩) ?_
  refine vs ?_
  refine fJ.intro (i64 e.t) (fun H' hI=>by refine v1 (ae hI) ?_;exact⟨trivial,trivial⟩) ?_
  refine vs ?_
  refine⟨⟨by omega,by omega⟩,?_⟩
  refine vs ?_
  have fl:ah H3 (H3.new 3 [i64 j]):=(ag.refl _ _).new _ _
  have ql:=fl.own q3 (fun h=>h)
  have Xk:=fl.own MH (fun h=>h)
  obtain⟨ra,rc,rfl,hrc⟩:=cJ BA
  refine EM.intro ?_ ?_
  ·refine v4 (ae MH) aok aoh yf ?_
   refine And.intro q3 ?_
   refine vs ?_
   refine And.intro (by first|exact ql|exact q3) ?_
   refine vs ?_
   refine Sl.append (BA.ext fl (fun _ _ h=>h)) (Sl.bU (size:=1) (n:=1) (xs:=[i64 j]) rfl rfl).rd rfl (vK [(j:Int)]) (by omega) ?_
   intro v' H5 cP s5 e5 fZ
   obtain⟨k1,k2,k3,k4,k5⟩:=fin _ v' H5 cP fl s5 e5 fZ
   obtain⟨va,VF,rfl,_⟩:=cJ s5
   refine And.intro k2 ?_
   refine vs ?_
   refine⟨⟨by omega,by omega⟩,?_⟩
   refine v3 k1 aok aoh ?_
   refine⟨by omega,?_⟩
   refine vs ?_
   refine And.intro (by first|exact k3|exact k2) ?_
   refine vs ?_
   rw[wrap64 (n:=(j:Int)+1) (by omega) (by omega)]
   exact⟨es.length - (j+1),by omega,k4,j+1,_,rfl,by omega,k5,rfl⟩
  ·refine vs ?_
   refine And.intro (by first|exact ql|exact q3) ?_
   refine v4 (ae Xk) aok aoh yf ?_
   refine And.intro (by first|exact ql|exact q3) ?_
   refine vs ?_
   refine Sl.append (BA.ext fl (fun _ _ h=>h)) (Sl.bU (size:=1) (n:=1) (xs:=[i64 j]) rfl rfl).rd rfl (vK [(j:Int)]) (by omega) ?_
   intro v' H5 cP s5 e5 fZ
   obtain⟨k1,k2,k3,k4,k5⟩:=fin _ v' H5 cP fl s5 e5 fZ
   obtain⟨va,VF,rfl,_⟩:=cJ s5
   refine And.intro k2 ?_
   refine vs ?_
   refine⟨⟨by omega,by omega⟩,?_⟩
   refine v3 k1 aok aoh ?_
   refine⟨by omega,?_⟩
   refine vs ?_
   refine And.intro (by first|exact k3|exact k2) ?_
   refine vs ?_
   rw[wrap64 (n:=(j:Int)+1) (by omega) (by omega)]
   exact⟨es.length - (j+1),by omega,k4,j+1,_,rfl,by omega,k5,rfl⟩
 ·have fS:j=es.length:=by omega
  subst fS
  rw[aoO]at IJ
  clear sl1 h2
  have Lx:(fun v=>bi (qL v) 0 es++bi (qM v) 0 es)=fun v=>if v<0 then bi (qT v) 0 es else bi (qL v) 0 es++bi (qM v) 0 es:=by funext v;simp
  rw[Lx]at IJ
  refine aW.intro (fun m env H'=>ah H H'∧∃ (k:Nat) (fp:Nat→Option Nat),m=n.toNat - k∧k≤n.toNat∧B3 H' H0.size O5 n.toNat (fun v=>if v<k then bi (qT v) 0 es else bi (qL v) 0 es++bi (qM v) 0 es) fp∧
   env=[(3,.slice (some ⟨O5,0,none⟩) n.toNat n.toNat),(38,.slice (some ⟨O5,0,none⟩) n.toNat n.toNat),(39,i64 n.toNat),(40,i64 k)]) n.toNat ⟨f2,0,_,by omega,by omega,IJ,rfl⟩ ?_
  clear IJ Lx
  rintro m env H3 ⟨f3,k,fp3,hmk,hk,LO,rfl⟩
  refine vs ?_
  refine am.dec (fun aO=>?_) (fun aO=>?_)<;>refine vs ?_
  ·have zZ:k<n.toNat:=by omega
   obtain⟨cS,sv,MH,z6,yf,BA⟩:=LO.get zZ
   simp only[Nat.lt_irrefl,if_false]at BA
   have agW:=pJ (qL k) es 0
   have abZ:=pJ (qM k) es 0
   refine⟨⟨by omega,by omega⟩,?_⟩
   refine v5 (ae MH) Int.toNat_natCast aok aoh yf ?_
   refine(qi BA (by rw[aoq];omega)).mono ?_
   rintro _ H4 ⟨rfl,s4,e4⟩
   rw[O8]at s4
   have aZ:(bi (qT k) 0 es).length=(bi (qL k) 0 es++bi (qM k) 0 es).length:=by rw[←O8,mO]
   rw[←aZ]at s4
   have VE:=LO.sX zZ MH yf e4 s4
   have cN:Ic (fun v=>if v<k then bi (qT v) 0 es else bi (qL v) 0 es++bi (qM v) 0 es) k (bi (qT k) 0 es)=fun v=>if v<k+1 then bi (qT v) 0 es else bi (qL v) 0 es++bi (qM v) 0 es:=by
    funext v
    unfold Ic
    by_cases h1:v=k
    ·subst h1;rw[if_pos rfl,if_pos (by omega)]
    ·rw[if_neg h1]
     show(if v<k then bi (qT v) 0 es else bi (qL v) 0 es++bi (qM v) 0 es)=_
     by_cases h2:v<k
     ·rw[if_pos h2,if_pos (by omega)]
     ·rw[if_neg h2,if_neg (by omega)]
   rw[cN]at VE
   refine vs ?_
   rw[wrap64 (n:=(k:Int)+1) (by omega) (by omega)]
   exact⟨n.toNat - (k+1),by omega,f3.then e4 (fun z hz=>by have:=(LO.low k zZ z hz).1;omega),k+1,fp3,rfl,by omega,VE,rfl⟩
  ·have zZ:k=n.toNat:=by omega
   subst zZ
   obtain⟨cS,g1,g2,g3⟩:=LO.TN
   refine⟨f3,.inr ⟨hR,O5,fp3,rfl,⟨⟨cS,g1,g2,fun i hi=>?_⟩,by omega,fun i hi p hp=>⟨by have:=(LO.low i hi p hp).1;omega,(LO.low i hi p hp).2⟩,LO.apart⟩⟩⟩
   obtain⟨sv,g4,g5⟩:=g3 i hi
   rw[if_pos hi]at g5
   exact⟨sv,g4,g5⟩
def lm(l:List (Int×Nat)):List Value:=l.flatMap fun y=>[i64 y.1,.int .u32 (y.2:Int)]
theorem IU(l:List (Int×Nat)):(lm l).length=l.length*2:=by
 induction l with
 |nil=>rfl
 |cons c r ih=>simp only[lm,apU,aoq,aoC,apk]at*;omega
theorem SH{l:List (Int×Nat)}{i:Nat}{y:Int×Nat}(h:l[i]? =some y):(lm l)[i*2]? =some (i64 y.1)∧(lm l)[i*2+1]? =some (.int .u32 (y.2:Int))∧((lm l).drop (i*2)).take 2=[i64 y.1,.int .u32 (y.2:Int)]:=by
 induction l generalizing i with
 |nil=>simp at h
 |cons a r ih=>
  have e:lm (a::r)=i64 a.1:: .int .u32 (a.2:Int)::lm r:=rfl
  rw[e]
  cases i with
  |zero=>simp at h;subst h;exact⟨rfl,rfl,rfl⟩
  |succ i=>
   have:=ih (by simpa using h)
   rw[show(i+1)*2=i*2+2 by omega]
   exact this
theorem Qq{l:List (Int×Nat)}{i:Nat}{y:Int×Nat}(h:i<l.length):((lm l).set (i*2) (i64 y.1)).set (i*2+1) (.int .u32 (y.2:Int))=lm (l.set i y):=by
 induction l generalizing i with
 |nil=>simp at h
 |cons a r ih=>
  have e:lm (a::r)=i64 a.1:: .int .u32 (a.2:Int)::lm r:=rfl
  cases i with
  |zero=>rfl
  |succ i=>
   have:=ih (i:=i) (by simpa using h)
   have e2:lm ((a::r).set (i+1) y)=i64 a.1:: .int .u32 (a.2:Int)::lm (r.set i y):=rfl
   rw[e,e2,←this,show(i+1)*2=i*2+1+1 by omega]
   simp only[ao0]
structure NT where
 x:Nat
 b1:Nat
 b2:Nat
 b3:Nat
 mp:Nat
 s:Nat
def NT.row(B:NT)(z:Nat):Prop:=z=B.b1∨z=B.b2∨z=B.b3∨z=B.mp
structure vN(H:Hp)(B:NT)(lo n:Nat)(gs ov:Value)(S:Nat→Prop)(w:Nw)(A:Ar)(q:Int)(L:List ((Int×Nat)×Value))(sl:List Nat)(bl:List Int)(hl:List (Int×Nat)):Prop where
 o:H.own B.x=some [i64 n,gs,ptr B.s,.slice (some ⟨B.b1,0,none⟩) n n,.slice (some ⟨B.b2,0,none⟩) n n,.slice (some ⟨B.b3,0,none⟩) n n,.map (some B.mp),ov]
 o1:H.own B.b1=some (sl.map fun k:Nat=>i64 k)
 o2:H.own B.b2=some (bl.map i64)
 o3:H.own B.b3=some (lm hl)
 m:xC H B.mp L
 st:DA H B.s S w A q
 ns:¬S B.x∧¬S B.b1∧¬S B.b2∧¬S B.b3∧¬S B.mp
 ne:B.x≠B.b1∧B.x≠B.b2∧B.x≠B.b3∧B.x≠B.mp∧B.b1≠B.b2∧B.b1≠B.b3∧B.b1≠B.mp∧B.b2≠B.b3∧B.b2≠B.mp∧B.b3≠B.mp
 low:(∀z,S z→lo≤z)∧lo≤B.x∧lo≤B.b1∧lo≤B.b2∧lo≤B.b3∧lo≤B.mp
section
variable {H H' : Hp} {B : NT} {lo n : Nat} {gs ov : Value} {S S' T : Nat → Prop} {w w' : Nw} {A A' : Ar} {q q' : Int} {L L' : List ((Int × Nat) × Value)} {sl : List Nat} {bl : List Int} {hl : List (Int × Nat)}
theorem vN.ext(h:vN H B lo n gs ov S w A q L sl bl hl)(e:ag T H H')(hd:∀z,S z∨z=B.x∨B.row z→¬T z):vN H' B lo n gs ov S w A q L sl bl hl:=
 ⟨e.own h.o (hd _ (.inr (.inl rfl))),e.own h.o1 (hd _ (.inr (.inr (.inl rfl)))),e.own h.o2 (hd _ (.inr (.inr (.inr (.inl rfl))))),e.own h.o3 (hd _ (.inr (.inr (.inr (.inr (.inl rfl)))))),h.m.ext e (hd _ (.inr (.inr (.inr (.inr (.inr rfl)))))),h.st.ext e (fun z hz=>hd z (.inl hz)),h.ns,h.ne,h.low⟩
theorem vN.fresh(h:vN H B lo n gs ov S w A q L sl bl hl)(e:ah H H'):vN H' B lo n gs ov S w A q L sl bl hl:=h.ext e (fun _ _ h=>h)
theorem vN.lt(h:vN H B lo n gs ov S w A q L sl bl hl):∀z,S z∨z=B.x∨B.row z→z<H.size:=by
 rintro z (hz|rfl|rfl|rfl|rfl|rfl)
 ·exact h.st.slt z hz
 ·exact aB h.o
 ·exact aB h.o1
 ·exact aB h.o2
 ·exact aB h.o3
 ·exact h.m.lt
theorem vN.ge(h:vN H B lo n gs ov S w A q L sl bl hl):∀z,S z∨z=B.x∨B.row z→lo≤z:=by
 obtain⟨g,g1,g2,g3,g4,g5⟩:=h.low
 rintro z (hz|rfl|rfl|rfl|rfl|rfl)
 ·exact g z hz
 all_goals assumption
theorem vN.to(h:vN H B lo n gs ov S w A q L sl bl hl)(st:DA H' B.s S' w' A' q')(e:ag S H H')(hs:∀z,S' z→S z∨H.size≤z):vN H' B lo n gs ov S' w' A' q' L sl bl hl:=by
 have aO:=h.lt
 have hn:∀z,¬S z→z<H.size→¬S' z:=fun z h1 h2 h3=>by rcases hs z h3 with h|h;exact h1 h;omega
 obtain⟨n0,n1,n2,n3,n4⟩:=h.ns
 have hx:=aO B.x (.inr (.inl rfl))
 refine⟨e.own h.o n0,e.own h.o1 n1,e.own h.o2 n2,e.own h.o3 n3,h.m.ext e n4,st,⟨hn _ n0 hx,hn _ n1 (aB h.o1),hn _ n2 (aB h.o2),hn _ n3 (aB h.o3),hn _ n4 h.m.lt⟩,h.ne,fun z hz=>?_,h.low.2⟩
 have:=h.low.2.1
 rcases hs z hz with h1|h1
 ·exact h.low.1 z h1
 ·omega
theorem vN.uB(h:vN H B lo n gs ov S w A q L sl bl hl)(u v:Nat){l:List Value}(hv:l=(sl.map fun k:Nat=>i64 k).set u (i64 v)):vN (H.wr B.b1 l) B lo n gs ov S w A q L (sl.set u v) bl hl∧ag (fun z=>z=B.b1) H (H.wr B.b1 l):=by
 obtain⟨e,o⟩:=Lw h.o1 l
 have hn:=h.ne
 obtain⟨n0,n1,n2,n3,n4⟩:=h.ns
 refine⟨⟨e.own h.o (by omega),?_,e.own h.o2 (by omega),e.own h.o3 (by omega),h.m.ext e (by omega),h.st.ext e (fun z hz e=>n1 (by rw[←e];exact hz)),h.ns,h.ne,h.low⟩,e⟩
 rw[o,hv,ao3]
theorem vN.ab0(h:vN H B lo n gs ov S w A q L sl bl hl)(u:Nat)(v:Int){l:List Value}(hv:l=(bl.map i64).set u (i64 v)):vN (H.wr B.b2 l) B lo n gs ov S w A q L sl (bl.set u v) hl∧ag (fun z=>z=B.b2) H (H.wr B.b2 l):=by
 obtain⟨e,o⟩:=Lw h.o2 l
 have hn:=h.ne
 obtain⟨n0,n1,n2,n3,n4⟩:=h.ns
 refine⟨⟨e.own h.o (by omega),e.own h.o1 (by omega),?_,e.own h.o3 (by omega),h.m.ext e (by omega),h.st.ext e (fun z hz e=>n2 (by rw[←e];exact hz)),h.ns,h.ne,h.low⟩,e⟩
 rw[o,hv,ao3]
theorem vN.agX(h:vN H B lo n gs ov S w A q L sl bl hl)(u:Nat)(v:Int×Nat){l:List Value}(hv:l=lm (hl.set u v)):vN (H.wr B.b3 l) B lo n gs ov S w A q L sl bl (hl.set u v)∧ag (fun z=>z=B.b3) H (H.wr B.b3 l):=by
 obtain⟨e,o⟩:=Lw h.o3 l
 have hn:=h.ne
 obtain⟨n0,n1,n2,n3,n4⟩:=h.ns
 refine⟨⟨e.own h.o (by omega),e.own h.o1 (by omega),e.own h.o2 (by omega),?_,h.m.ext e (by omega),h.st.ext e (fun z hz e=>n3 (by rw[←e];exact hz)),h.ns,h.ne,h.low⟩,e⟩
 rw[o,hv]
theorem vN.put(h:vN H B lo n gs ov S w A q L sl bl hl)(hm:xC H' B.mp L')(e:ag (fun z=>z=B.mp) H H'):vN H' B lo n gs ov S w A q L' sl bl hl:=by
 have hn:=h.ne
 obtain⟨n0,n1,n2,n3,n4⟩:=h.ns
 exact⟨e.own h.o (by omega),e.own h.o1 (by omega),e.own h.o2 (by omega),e.own h.o3 (by omega),hm,h.st.ext e (fun z hz e=>n4 (by rw[←e];exact hz)),h.ns,h.ne,h.low⟩
end
end Go.Proofs.YtjlnnljohemifaaGreat

namespace Go.Proofs.YtjlnnljohemifaaGreat
open Go Go.Vc
theorem UD{α:Type}{l:List α}{i:Nat}{x:α}(h:l[i]? =some x):l.set i x=l:=by
 apply ao7
 intro j
 by_cases e:i=j
 ·subst e
  rw[j8 h,h]
 ·rw[dM e]
section
variable {H : Hp} {B : NT} {lo n : Nat} {ov : Value} {S : Nat → Prop} {w : Nw} {A : Ar} {L : List ((Int × Nat) × Value)} {sl : List Nat} {bl : List Int} {hl : List (Int × Nat)} {a : Option Addr} {c : Nat} {es : List Ed}
theorem se(m:vN H B lo n (.slice a es.length c) ov S w A (L.length:Int) L sl bl hl)(g:xE es n w A L sl bl hl)(hn:n≤4096)(hr:cO H 3 (.slice a es.length c) es.length (dW es)){u:Nat}(hu:u<n){i:Nat}{e:Ed}(he:es[i]? =some e)(Vl:es.length≤1000000000)
  (hby:sl[u]? =some 1→LN es (bl.getD u 0)):
  af Tryz.prog vY [ptr B.x,i64 u,i64 i] H fun v H'=>aw (v= .tuple [].toArray∧∃S' w' A' L' IN IP EQ,vN H' B lo n (.slice a es.length c) ov S' w' A' (L'.length:Int) L' IN IP EQ∧xE es n w' A' L' IN IP EQ∧abo es sl bl u i IN IP∧ag (fun z=>S z∨B.row z) H H'∧∀z,S' z→S z∨H.size≤z):=by
 have qh:=(aoi.1 he).1
 obtain⟨_,be,oe,le,rfl,eW,nS,eG,kD,vB,sB⟩:=cO.oU hr he
 have Th:wE es (i:Int)=e.w:=uU he
 obtain⟨k,hk⟩:∃k,sl[u]? =some k:=⟨_,aog (by rw[g.l1];exact hu)⟩
 obtain⟨bu,hbu⟩:∃k,bl[u]? =some k:=⟨_,aog (by rw[g.l2];exact hu)⟩
 obtain⟨hh,hhu⟩:∃k,hl[u]? =some k:=⟨_,aog (by rw[g.l3];exact hu)⟩
 have zZ:=g.two k (aom hk)
 have ck:(sl.map fun k:Nat=>i64 k)[u]? =some (i64 k):=by rw[aoF,hk];rfl
 have cb:(bl.map i64)[u]? =some (i64 bu):=by rw[aoF,hbu];rfl
 have TU:bl.getD u 0=bu:=by rw[aol,hbu];rfl
 have sF:=g.l1
 have oI:=g.l2
 have RM:=g.l3
 refine GO wL ⟨rfl,?_⟩
 refine v2 lZ.eq_1 (ae m.o) ?_
 refine⟨⟨by omega,by omega⟩,?_⟩
 refine v4 eW Int.toNat_natCast sB (ae m.o) ?_
 refine⟨⟨by omega,by omega⟩,?_⟩
 refine v5 (ae m.o1) Int.toNat_natCast aok aoh ck ?_
 refine am.dec (fun h2=>?_) (fun h2=>?_)<;>refine vs ?_
 ·have h2:k=2:=by omega
  subst h2
  exact⟨rfl,S,w,A,L,sl,bl,hl,m,g,.inl ⟨rfl,rfl,.inl hk⟩,ag.refl _ _,fun z hz=>.inl hz⟩
 refine v1 (ae m.o) ?_
 refine⟨⟨by omega,by omega⟩,?_⟩
 refine v5 (ae m.o1) Int.toNat_natCast aok aoh ck ?_
 refine am.dec (fun h0=>?_) (fun h0=>?_)<;>refine v1 (ae m.o) ?_
 ·have h0:k=0:=by omega
  subst h0
  refine(FP m.st g.hs (fun x x0 _=>by have:=g.Xl x0;omega) (by have:=g.aS;omega)).mono ?_
  rintro _ H1 (⟨bO,_⟩| ⟨x,A',Za,rfl,S1,Tk,e1,eK⟩)
  ·exact absurd bO (g.room hk)
  obtain⟨r9,hG⟩:=g.put Za hk (i:Int) ((L.length:Int)+1)
  obtain⟨hx,_⟩:=Ar.vG Za g.ok
  rw[Th]at hG
  have m1:=m.to Tk e1 eK
  have Lx:=e1.size
  refine vs ?_
  obtain⟨f2,b2,z2⟩:=Np H1 114 [Value.int .i64 0,Value.int .u32 0] [i64 x,Value.int .u32 ((A.bC x+1:Nat):Int)]
  generalize hhb:H1.size=hb at*
  generalize (H1.new 114 [Value.int .i64 0,Value.int .u32 0]).wr hb [i64 x,Value.int .u32 ((A.bC x+1:Nat):Int)]=H2 at*
  have m2:=m1.fresh f2
  refine jB.intro (fun H'=>H'.own B.x=some [i64 n,.slice (some ⟨be,oe,none⟩) es.length c,ptr B.s,.slice (some ⟨B.b1,0,none⟩) n n,.slice (some ⟨B.b2,0,none⟩) n n,.slice (some ⟨B.b3,0,none⟩) n n,.map (some B.mp),ov]∧H'.own hb=some [i64 x,Value.int .u32 ((A.bC x+1:Nat):Int)]) ⟨m2.o,b2⟩ ?_
  refine vs ?_
  refine fJ.intro (.slice (some ⟨B.b1,0,none⟩) n n) (fun H' hI=>by refine v1 (ae hI.1) ?_;exact⟨trivial,trivial⟩) ?_
  refine vs ?_
  refine fJ.intro (.slice (some ⟨B.b2,0,none⟩) n n) (fun H' hI=>by refine v1 (ae hI.1) ?_;exact⟨trivial,trivial⟩) ?_
  refine vs ?_
  refine fJ.intro (.slice (some ⟨B.b3,0,none⟩) n n) (fun H' hI=>by refine v1 (ae hI.1) ?_;exact⟨trivial,trivial⟩) ?_
  refine vs ?_
  refine fJ.intro (gA x (A.bC x+1)) (fun H' hI=>by refine v1 (ae hI.2) ?_;exact⟨trivial,trivial⟩) ?_
  refine vs ?_
  refine⟨⟨by omega,by omega⟩,?_⟩
  refine v4 m2.o1 Int.toNat_natCast aok aoh ?_
  refine⟨by rw[aoE];omega,?_⟩
  refine vs ?_
  obtain⟨m3,e3⟩:=m2.uB u 1 (l:=(sl.map fun k:Nat=>i64 k).set u (i64 1)) rfl
  have UE:=m1.lt
  have aP:hb≠B.b1∧hb≠B.b2∧hb≠B.b3∧hb≠B.mp:=by
   have h1:=UE B.b1 (by simp[NT.row])
   have h2:=UE B.b2 (by simp[NT.row])
   have h3:=UE B.b3 (by simp[NT.row])
   have h4:=UE B.mp (by simp[NT.row])
   omega
  have b3:=e3.own b2 aP.1
  generalize H2.wr B.b1 ((sl.map fun k:Nat=>i64 k).set u (i64 1))=H3 at*
  refine And.intro ⟨m3.o,b3⟩ ?_
  refine vs ?_
  refine⟨⟨by omega,by omega⟩,?_⟩
  refine v4 m3.o2 Int.toNat_natCast aok aoh ?_
  refine⟨by rw[aoE];omega,?_⟩
  refine vs ?_
  obtain⟨m4,e4⟩:=m3.ab0 u (i:Int) rfl
  have b4:=e4.own b3 aP.2.1
  generalize H3.wr B.b2 ((bl.map i64).set u (i64 i))=H4 at*
  refine And.intro ⟨m4.o,b3⟩ ?_
  refine vs ?_
  refine⟨⟨by omega,by omega⟩,?_⟩
  refine v3 m4.o3 Int.toNat_natCast aoh ?_
  refine⟨by rw[IU];omega,?_⟩
  refine vs ?_
  obtain⟨m5,e5⟩:=m4.agX u (x,A.bC x+1) (Qq (by omega))
  have b5:=e5.own b4 aP.2.2.1
  simp only at m5 e5 b5
  generalize H4.wr B.b3 (((lm hl).set (u*2) (i64 x)).set (u*2+1) (.int .u32 ((A.bC x+1:Nat):Int)))=H5 at*
  refine And.intro ⟨m5.o,b4⟩ ?_
  refine v2 (ae m5.o) (ae b5) ?_
  refine⟨IL _ _,?_⟩
  refine xC.Y4 m5.m (a:=(x,A.bC x+1)) r9 fun H6 mp6 e6=>?_
  refine vs ?_
  have m6:=m5.put mp6 e6
  have el:((L++[((x,A.bC x+1),i64 (u:Int))]).length:Int)=(L.length:Int)+1:=by rw[aoq];rfl
  refine⟨rfl,S1,_,_,_,_,_,_,?_,hG,.inr ⟨rfl,rfl,.inl hk⟩,?_,eK⟩
  ·rw[el];exact m6
  ·have t1:ag (fun z=>S z∨B.row z) H H2:=(e1.mono fun z _ h=>.inl h).trans (f2.mono fun z _ h=>h.elim)
   exact(((t1.trans (e3.mono fun z _ h=>.inr (.inl h))).trans (e4.mono fun z _ h=>.inr (.inr (.inl h)))).trans (e5.mono fun z _ h=>.inr (.inr (.inr (.inl h))))).trans (e6.mono fun z _ h=>.inr (.inr (.inr (.inr h))))
 have h1:k=1:=by omega
 subst h1
 have bJ:=hby hk
 rw[TU]at bJ
 obtain⟨j,e',hj,iF,Y1⟩:=bJ.get
 subst hj
 obtain⟨_,be',oe',le',UB,Gc,_,_,hd0,Pm,iO⟩:=cO.oU hr iF
 injection UB with UB
 injection UB with Ll oQ
 subst Ll oQ
 rw[eW]at Gc
 injection Gc with Gc
 subst Gc
 have TT:wE es (j:Int)=e'.w:=uU iF
 refine⟨⟨by omega,by omega⟩,?_⟩
 refine v5 (ae m.o2) Int.toNat_natCast aok aoh cb ?_
 refine⟨⟨by omega,by omega⟩,?_⟩
 refine v3 eW Int.toNat_natCast iO ?_
 refine am.dec (fun aO=>?_) (fun aO=>?_)<;>refine vs ?_
 rotate_left
 ·exact⟨rfl,S,w,A,L,sl,bl,hl,m,g,.inl ⟨rfl,rfl,.inr ⟨hk,by rw[TU,Th,TT];omega⟩⟩,ag.refl _ _,fun z hz=>.inl hz⟩
 obtain⟨x,s,x0,q1,q2,q3⟩:=g.c2 u hk
 rw[hhu]at q1
 injection q1 with q1
 subst q1
 obtain⟨k1,k2,k3⟩:=SH hhu
 simp only at k1 k2 k3
 have jS:A.live x:=(g.lk.live x).1 ⟨x0,_,q2,by simp⟩
 refine v1 (ae m.o) ?_
 refine⟨⟨by omega,by omega⟩,?_⟩
 refine v3 (ae m.o3) Int.toNat_natCast aoh ?_
 refine⟨by rw[IU];omega,?_⟩
 refine v1 k3 ?_
 refine(xD m.st jS e.w).mono ?_
 rintro _ H1 ⟨y,hy,⟨bO,_⟩| ⟨_,rfl,S1,Tk,e1,eK⟩⟩
 ·rw[q2]at hy
  injection hy with hy
  subst hy
  rw[TU,TT]at bO
  simp only at bO
  omega
 have hG:=g.lower hk x0 hhu hy (i:Int)
 rw[Th]at hG
 have m1:=m.to Tk e1 eK
 refine v1 (ae m1.o) ?_
 refine⟨⟨by omega,by omega⟩,?_⟩
 refine v4 m1.o2 Int.toNat_natCast aok aoh ?_
 refine⟨by rw[aoE];omega,?_⟩
 refine vs ?_
 obtain⟨m2,e2⟩:=m1.ab0 u (i:Int) rfl
 rw[q2]at hy
 injection hy with hy
 subst hy
 exact⟨rfl,S1,_,A,L,sl,_,hl,m2,hG,.inr ⟨(UD hk).symm,rfl,.inr ⟨hk,by rw[TU,Th,TT];omega⟩⟩,(e1.mono fun z _ h=>.inl h).trans (e2.mono fun z _ h=>.inr (.inr (.inl h))),eK⟩
end
end Go.Proofs.YtjlnnljohemifaaGreat

namespace Go.Proofs.YtjlnnljohemifaaGreat
open Go Go.Vc
section
variable {Hh H : Hp} {B : NT} {lo n : Nat} {ov : Value} {S : Nat → Prop} {w : Nw} {A : Ar} {L : List ((Int × Nat) × Value)} {sl : List Nat} {bl : List Int} {hl : List (Int × Nat)} {a : Option Addr} {c : Nat} {es : List Ed}
theorem ju(m:vN H B lo n (.slice a es.length c) ov S w A (L.length:Int) L sl bl hl)(sU:fj (n:Int) es)(hr:cO Hh 3 (.slice a es.length c) es.length (dW es))(fH:ah Hh H)(Jw:Hh.size≤lo)
  {v:Nat}(hv:v<n)(g:xE es n w A L (sl.set v 2) bl hl){tB tb:Nat}{fp:Nat→Option Nat}(t:B3 H tB tb n (fun v=>bi (qT v) 0 es) fp)(ht:∀z,(z=tb∨∃i,i<n∧fp i=some z)→¬ (S z∨z=B.x∨B.row z))
  {D:Nat→Prop}{o:List Nat}{k:Nat→Int}{T:List Int}(gs:NJ es D o k T (sl.set v 2) bl (bi (qT v) 0 es))(jf:o[o.length - 1]? =some v):
  af Tryz.prog vX [ptr B.x,i64 v,.slice (some ⟨tb,0,none⟩) n n] H fun r H'=>aw (r= .tuple [].toArray∧∃S' w' A' L' IN IP EQ,vN H' B lo n (.slice a es.length c) ov S' w' A' (L'.length:Int) L' IN IP EQ∧xE es n w' A' L' IN IP EQ∧NJ es D o k T IN IP []∧ag (fun z=>S z∨B.row z) H H'∧∀z,S' z→S z∨H.size≤z):=by
 have vV:n≤4096:=by have:=sU.n1;omega
 have Vl:=sU.len
 have z6:sl.length=n:=by have:=g.l1;rw[aoj]at this;exact this
 refine bq wK ?_
 refine v1 (ae m.o) ?_
 refine⟨⟨by omega,by omega⟩,?_⟩
 refine v4 m.o1 Int.toNat_natCast aok aoh ?_
 refine⟨by rw[aoE];omega,?_⟩
 refine vs ?_
 obtain⟨m1,e1⟩:=m.uB v 2 (l:=(sl.map fun k:Nat=>i64 k).set v (i64 2)) rfl
 generalize H.wr B.b1 ((sl.map fun k:Nat=>i64 k).set v (i64 2))=H1 at*
 have aO:=m.lt
 have OB:=m.ge
 have x1:ag (fun z=>S z∨B.row z) H H1:=e1.mono fun z _ h=>.inr (.inl h)
 obtain⟨cS,sv,HS,amh,yf,BA⟩:=t.get hv
 have ho:=x1.own HS (fun h=>ht tb (.inl rfl) (h.imp_right .inr))
 refine⟨⟨by omega,by omega⟩,?_⟩
 refine v5 (ae ho) Int.toNat_natCast aok aoh yf ?_
 obtain⟨ra,rc,rfl,hrc⟩:=cJ BA
 have hql:=pJ (qT v) es 0
 refine vs ?_
 obtain⟨row,JW⟩:∃row,row=bi (qT v) 0 es:=⟨_,rfl⟩
 rw[←JW]at BA gs hql ⊢
 have hP:∀z,fp v=some z→¬ (S z∨z=B.x∨B.row z):=fun z hz=>ht z (.inr ⟨v,hv,hz⟩)
 refine aW.intro (fun mm env H'=>∃ (j:Nat) (S':Nat→Prop) (w':Nw) (A':Ar) (L':List ((Int×Nat)×Value)) (IN:List Nat) (IP:List Int) (EQ:List (Int×Nat)),mm=row.length - j∧j≤row.length∧vN H' B lo n (.slice a es.length c) ov S' w' A' (L'.length:Int) L' IN IP EQ∧xE es n w' A' L' IN IP EQ∧NJ es D o k T IN IP (row.drop j)∧ag (fun z=>S z∨B.row z) H H'∧(∀z,S' z→S z∨H.size≤z)∧
  env=[(0,ptr B.x),(1,i64 v),(18,.slice ra row.length rc),(19,i64 row.length),(20,i64 j)]) row.length ⟨0,S,w,A,L,sl.set v 2,bl,hl,rfl,ap1 _,m1,g,gs,x1,fun z hz=>.inl hz,rfl⟩ ?_
 clear m1 e1 x1 ho yf gs g
 rintro mm env H2 ⟨j,S2,w2,A2,L2,IJ,bl2,oI,rfl,hj,m2,g2,gs2,x2,Kj,rfl⟩
 have dL:=x2.size
 have fH2:ah Hh H2:=fH.then x2 (fun z hz=>by have:=OB z (hz.imp_right .inr);omega)
 refine vs ?_
 refine am.dec (fun zI=>?_) (fun zI=>?_)<;>refine vs ?_
 rotate_left
 ·have fS:j=row.length:=by omega
  subst fS
  rw[List.drop_length]at gs2
  exact⟨rfl,S2,w2,A2,L2,IJ,bl2,oI,m2,g2,gs2,x2,Kj⟩
 have fS:j<row.length:=by omega
 obtain⟨ii,hii⟩:∃x,row[j]? =some x:=⟨_,aog fS⟩
 have bK:ii∈bi (qT v) 0 es:=by rw[←JW];exact aom hii
 have cX:=Xm bK
 have XX:=(BB sU cX).2 bK
 obtain⟨i,e,rfl,he,qh⟩:=(js.1 cX).get
 have ab2:=BA.ext x2 (fun z hz h=>hP z hz (h.imp_right .inr))
 obtain⟨_,rb,ro,rl,rfl,ag0,ag1⟩:=cO.num ab2.rd hii
 refine⟨⟨by omega,by omega⟩,?_⟩
 refine v5 ag0 Int.toNat_natCast aok ag1 (ae m2.o) ?_
 have r2:=hr.fresh fH2
 obtain⟨_,be,oe,le,rfl,eW,nS,eG,kD,vB,sB⟩:=cO.oU r2 he
 obtain⟨ef0,ef1,et0,et1⟩:=sU.ends e (aom he)
 refine⟨⟨by omega,by omega⟩,?_⟩
 simp(disch:=(first|omega| (simp only[Zs]<;>omega)|fail)) only[go_sem, ↓reduceIte,Zv,eW,Int.toNat_natCast,eG,eE]
 refine⟨by omega,?_⟩
 simp(disch:=(first|omega| (simp only[Zs]<;>omega)|fail)) only[go_sem, ↓reduceIte,Zv,eG,eE]
 obtain⟨f3,b3,z3⟩:=Np H2 61 [i64 0,i64 0,i64 0] [i64 e.f,i64 e.t,i64 e.w]
 generalize GM:H2.size=cb at*
 generalize (H2.new 61 [i64 0,i64 0,i64 0]).wr cb [i64 e.f,i64 e.t,i64 e.w]=H3 at*
 have m3:=m2.fresh f3
 refine v1 (ae b3) ?_
 rw[Bz he]at XX
 have hu:((e.f.toNat+e.t.toNat - v:Nat):Int)=e.f+e.t - v∧e.f.toNat+e.t.toNat - v<n:=by
  unfold Touch at XX
  simp only at XX
  omega
 have hou:e.f.toNat+e.t.toNat - v=other (fE es (i:Int)) v:=by rw[Bz he];rfl
 rw[wrap64 (n:=e.f+e.t) (by omega) (by omega),←hu.1,wrap64 (by omega) (by omega)]
 generalize e.f.toNat+e.t.toNat - v=u at*
 have qq:row.drop j=(i:Int)::row.drop (j+1):=by
  rw[apo fS]
  congr 1
  rw[aog fS]at hii
  injection hii
 rw[qq]at gs2
 refine(se m3 g2 vV (r2.fresh f3) hu.2 he (by omega) (fun hw=>?_)).mono ?_
 ·obtain⟨_,_,_,hb,_⟩:=gs2.P.wait u hw
  exact js.1 hb
 rintro _ H4 ⟨rfl,S4,w4,A4,L4,VE,bl4,Uh,m4,g4,off,e4,WM⟩
 refine vs ?_
 rw[wrap64 (n:=(j:Int)+1) (by omega) (by omega)]
 have gs4:=gs2.offer jf cX ((BB sU cX).2 bK) hou (by rw[g2.l2];exact hu.2) off
 have WQ:=e4.size
 have MG:=f3.size
 refine⟨row.length - (j+1),by omega,j+1,S4,w4,A4,L4,VE,bl4,Uh,rfl,by omega,m4,g4,gs4,⟨by omega,fun z hz hn=>?_⟩,fun z hz=>?_,rfl⟩
 ·rw[e4.aM z (by omega) (fun h=>?_),f3.aM z (by omega) (fun h=>h),x2.aM z hz hn]
  rcases h with h|h
  ·rcases Kj z h with h|h
   ·exact hn (.inl h)
   ·omega
  ·exact hn (.inr h)
 ·rcases WM z hz with h|h
  ·exact Kj z h
  ·exact .inr (by omega)
end
end Go.Proofs.YtjlnnljohemifaaGreat

namespace Go.Proofs.YtjlnnljohemifaaGreat
open Go Go.Vc
structure GW(H:Hp)(B:NT)(lo N:Nat)(gs:Value)(es:List Ed)(tB tb:Nat)(fp:Nat→Option Nat)(S:Nat→Prop)(w:Nw)(A:Ar)(L:List ((Int×Nat)×Value))(sl:List Nat)(bl:List Int)(hl:List (Int×Nat))(T:List Int)(ov:Value)(EH:Option Nat):Prop where
 m:vN H B lo N gs ov S w A (L.length:Int) L sl bl hl
 t:B3 H tB tb N (fun v=>bi (qT v) 0 es) fp
 td:∀z,(z=tb∨∃i,i<N∧fp i=some z)→¬ (S z∨z=B.x∨B.row z)
 os:Sl H 1 ov T.length (T.map i64) EH
 od:∀b,EH=some b→lo≤b∧¬ (S b∨b=B.x∨B.row b)∧¬ (b=tb∨∃i,i<N∧fp i=some b)
section
variable {H H' : Hp} {B : NT} {lo N : Nat} {gs : Value} {es : List Ed} {tB tb : Nat} {fp : Nat → Option Nat} {S S' : Nat → Prop} {w w' : Nw} {A A' : Ar} {L L' : List ((Int × Nat) × Value)} {sl IN : List Nat} {bl IP : List Int} {hl EQ : List (Int × Nat)} {T : List Int} {ov ZD : Value} {EH : Option Nat}
theorem GW.tlt(p:GW H B lo N gs es tB tb fp S w A L sl bl hl T ov EH):∀z,(z=tb∨∃i,i<N∧fp i=some z)→z<H.size:=by
 rintro z (rfl| ⟨i,hi,hp⟩)
 ·exact p.t.lt
 ·obtain⟨_,_,_,_,_,s0⟩:=p.t.get hi
  rw[hp]at s0
  exact Sl.lt s0
theorem GW.olt(p:GW H B lo N gs es tB tb fp S w A L sl bl hl T ov EH):∀b,EH=some b→b<H.size:=fun b hb=>by
 have:=p.os
 rw[hb]at this
 exact Sl.lt this
theorem GW.go(p:GW H B lo N gs es tB tb fp S w A L sl bl hl T ov EH)(m':vN H' B lo N gs ov S' w' A' (L'.length:Int) L' IN IP EQ)(e:ag (fun z=>S z∨B.row z) H H')(hs:∀z,S' z→S z∨H.size≤z):GW H' B lo N gs es tB tb fp S' w' A' L' IN IP EQ T ov EH:=by
 have h1:=p.tlt
 have h2:=p.olt
 have imp:∀z,z<H.size→(S' z∨z=B.x∨B.row z)→(S z∨z=B.x∨B.row z):=fun z hz h=>by
  rcases h with h|h
  ·rcases hs z h with h|h
   ·exact .inl h
   ·omega
  ·exact .inr h
 refine⟨m',p.t.ext e (fun h=>p.td tb (.inl rfl) (h.imp_right .inr)) (fun i q hi hq h=>p.td q (.inr ⟨i,hi,hq⟩) (h.imp_right .inr)),fun z hz h=>p.td z hz (imp z (h1 z hz) h),p.os.ext e (fun b hb h=>(p.od b hb).2.1 (h.imp_right .inr)),fun b hb=>⟨(p.od b hb).1,fun h=>(p.od b hb).2.1 (imp b (h2 b hb) h),(p.od b hb).2.2⟩⟩
theorem GW.fresh(p:GW H B lo N gs es tB tb fp S w A L sl bl hl T ov EH)(e:ah H H'):GW H' B lo N gs es tB tb fp S w A L sl bl hl T ov EH:=
 p.go (p.m.fresh e) (e.mono fun _ _ h=>h.elim) (fun z hz=>.inl hz)
theorem GW.to(p:GW H B lo N gs es tB tb fp S w A L sl bl hl T ov EH)(st:DA H' B.s S' w' A' (L.length:Int))(e:ag S H H')(hs:∀z,S' z→S z∨H.size≤z):GW H' B lo N gs es tB tb fp S' w' A' L sl bl hl T ov EH:=
 p.go (p.m.to st e hs) (e.mono fun z _ h=>.inl h) hs
theorem GW.push{H1 H2 H3:Hp}{cP:Option Nat}{x:Int}(p:GW H B lo N gs es tB tb fp S w A L sl bl hl T ov EH)(f:ah H H1)(s:Sl H2 1 ZD (T.length+1) (T.map i64++[i64 x]) cP)(e:ag (fun z=>EH=some z) H1 H2)(hf:cP=EH∨∃b,cP=some b∧H1.size≤b∧b<H2.size)
  (h3:H3=H2.wr B.x [i64 N,gs,ptr B.s,.slice (some ⟨B.b1,0,none⟩) N N,.slice (some ⟨B.b2,0,none⟩) N N,.slice (some ⟨B.b3,0,none⟩) N N,.map (some B.mp),ZD]):GW H3 B lo N gs es tB tb fp S w A L sl bl hl (T++[x]) ZD cP∧ag (fun z=>EH=some z∨z=B.x) H H3:=by
 subst h3
 have h1:=p.tlt
 have hz:=f.size
 have aO:=p.m.lt
 have OB:=p.m.ge
 have hn:=p.m.ne
 have e0:ag (fun z=>EH=some z) H H2:=(f.mono fun _ _ h=>h.elim).nq e (fun _ _ h=>h)
 have m2:=p.m.ext e0 (fun z hz h=>(p.od z h).2.1 hz)
 obtain⟨ex,ox⟩:=Lw m2.o [i64 N,gs,ptr B.s,.slice (some ⟨B.b1,0,none⟩) N N,.slice (some ⟨B.b2,0,none⟩) N N,.slice (some ⟨B.b3,0,none⟩) N N,.map (some B.mp),ZD]
 obtain⟨n0,_⟩:=p.m.ns
 have hxs:=aO B.x (.inr (.inl rfl))
 have mE:=p.m.low.2.1
 have nfp:∀b,cP=some b→lo≤b∧¬ (S b∨b=B.x∨B.row b)∧¬ (b=tb∨∃i,i<N∧fp i=some b):=fun b hb=>by
  rcases hf with h| ⟨b',h1',h2,_⟩
  ·exact p.od b (by rw[←h];exact hb)
  ·rw[hb]at h1'
   injection h1' with h1'
   subst h1'
   exact⟨by omega,fun h=>by have:=aO b h;omega,fun h=>by have:=h1 b h;omega⟩
 refine⟨⟨⟨ox,ex.own m2.o1 (by omega),ex.own m2.o2 (by omega),ex.own m2.o3 (by omega),m2.m.ext ex (by omega),m2.st.ext ex (fun z hz e=>n0 (by rw[←e];exact hz)),p.m.ns,p.m.ne,p.m.low⟩,(p.t.ext e0 (fun h=>(p.od tb h).2.2 (.inl rfl)) (fun i q hi hq h=>(p.od q h).2.2 (.inr ⟨i,hi,hq⟩))).ext ex (fun h=>p.td tb (.inl rfl) (.inr (.inl h))) (fun i q hi hq h=>p.td q (.inr ⟨i,hi,hq⟩) (.inr (.inl h))),p.td,?_,nfp⟩,(e0.mono fun z _ h=>.inl h).trans (ex.mono fun z _ h=>.inr h)⟩
 rw[aoq,aoM]
 exact s.ext ex (fun b hb h=>(nfp b hb).2.1 (.inr (.inl h)))
end
theorem sf{n:Int}{es:List Ed}{T:List Int}(hr:fj n es)(h:gF (T.map (fE es)))(hi:∀i∈T,i∈allI es.length):T.length≤n.toNat:=by
 have:=Aa (n:=n.toNat) h (fun e he=>by
  obtain⟨i,hm,rfl⟩:=aoB.1 he
  exact sd hr (js.1 (hi i hm)))
 rw[aoE]at this
 omega
theorem Qr{n:Int}{es:List Ed}{T T':List Int}(hr:fj n es)(hp:T.Perm T')(h:jT n es T)(hl:NH es T):jT n es T'∧NH es T':=by
 have hm:(T.map (fE es)).Perm (T'.map (fE es)):=hp.map _
 refine⟨⟨fun i hi=>h.ins i (hp.mem_iff.2 hi),Po (n:=n.toNat) hm (fun e he=>?_) h.vT,fun u v hh=>(B6 hm u v).1 (h.all u v hh)⟩,fun i hi=>?_⟩
 ·obtain⟨i,hi,rfl⟩:=aoB.1 he
  exact h.abi hr i hi
 ·have hs:((zY (wE es) T (wE es i)).map (fE es)).Perm ((zY (wE es) T' (wE es i)).map (fE es)):=(hp.filter _).map _
  exact(B6 hs _ _).1 (hl i hi)
theorem Gp(T:List Int):T.Perm (je T):=(List.mergeSort_perm _ _).symm
theorem SI{T:List Int}(h:T.Nodup):(je T).Pairwise (· < ·):=by
 have h1:(je T).Pairwise fun x y=>decide (x≤y)=true:=List.pairwise_mergeSort (fun a b c h1 h2=>by simp only[aoK]at*;omega) (fun a b=>by simp only[ap5,aoK];omega) T
 have h2:(je T).Nodup:=(Gp T).nodup_iff.1 h
 refine List.Pairwise.imp₂ (fun a b BY aP=>?_) h1 h2
 simp only[aoK]at BY
 omega
def Next(es:List Ed)(N:Nat)(w:Nw)(A:Ar)(L:List ((Int×Nat)×Value))(sl:List Nat)(bl:List Int)(hl:List (Int×Nat))(x:Int)(gg:Nat)(er:Int):Prop:=
 (er=172∧xE es N w A L sl bl hl∧∀v:Nat,sl[v]? ≠some 1)∨
 (er=0∧∃v:Nat,sl[v]? =some 1∧((x,gg),i64 v)∈L∧(∀u:Nat,sl[u]? =some 1→wE es (bl.getD v 0)≤wE es (bl.getD u 0))∧xE es N w A L (sl.set v 2) bl hl)
theorem IV{H:Hp}{B:NT}{lo N:Nat}{gs:Value}{es:List Ed}{tB tb:Nat}{fp:Nat→Option Nat}{S:Nat→Prop}{w:Nw}{A:Ar}{L:List ((Int×Nat)×Value)}{sl:List Nat}{bl:List Int}{hl:List (Int×Nat)}{T:List Int}{ov:Value}{EH:Option Nat}
  (p:GW H B lo N gs es tB tb fp S w A L sl bl hl T ov EH)(g:xE es N w A L sl bl hl):af Tryz.prog jD [ptr B.s,i64 1] H fun v H'=>aw (
  ∃ (x:Int) (gg:Nat) (k er:Int) (S':Nat→Prop) (w':Nw) (A':Ar),v= .tuple [gA x gg,i64 k,i64 er].toArray∧GW H' B lo N gs es tB tb fp S' w' A' L sl bl hl T ov EH∧Next es N w' A' L sl bl hl x gg er∧ag S H H'∧∀z,S' z→S z∨H.size≤z):=by
 refine(zC p.m.st g.hs).mono ?_
 rintro _ H1 (⟨h0,rfl,S1,Tk,e1,eK⟩| ⟨x,y,hx,hy,rfl,S1,Tk,e1,eK⟩)
 ·exact⟨0,0,0,172,S1,w,A,rfl,p.to Tk e1 eK,.inl ⟨rfl,g,g.none_ h0⟩,e1,eK⟩
 ·obtain⟨v,q1,q2,q3,q4⟩:=g.take hx hy
  exact⟨x,A.bC x,y.2.1,0,S1,_,_,rfl,p.to Tk e1 eK,.inr ⟨rfl,v,q1,q2,q3,q4⟩,e1,eK⟩
end Go.Proofs.YtjlnnljohemifaaGreat

namespace Go.Proofs.YtjlnnljohemifaaGreat
open Go Go.Vc
def ab3(H H':Hp)(kd dd n:Int)(es:List Ed)(v:Value):Prop:=
 (¬gD kd dd∧v= .tuple [.slice none 0 0,i64 (RR kd dd)].toArray)∨(gD kd dd∧dZ n es=false∧v= .tuple [.slice none 0 0,i64 201].toArray)∨
 (gD kd dd∧dZ n es=true∧∃ (T:List Int) (sv:Value) (fp:Option Nat),v= .tuple [sv,i64 0].toArray∧Sl H' 1 sv T.length (T.map i64) fp∧(∀b,fp=some b→H.size≤b)∧jT n es T∧NH es T∧T.Pairwise (· < ·))
theorem SJ(n:Nat):cE [Value.int .i64 0,Value.int .u32 0] n=lm (List.replicate n (0,0)):=by
 induction n with
 |zero=>rfl
 |succ n ih=>
  rw[aoX]
  show[Value.int .i64 0,Value.int .u32 0]++cE [Value.int .i64 0,Value.int .u32 0] n=_
  rw[ih]
  rfl
theorem UF{H H':Hp}{lo N x b1 b2 b3 mp s:Nat}{gs g:Value}{S:Nat→Prop}{w:Nw}{A:Ar}(st:DA H s S w A 0)(hS:∀z,S z→lo≤z)(Jw:lo≤H.size)
  (o:H'.own x=some [i64 N,gs,ptr s,.slice (some ⟨b1,0,none⟩) N N,.slice (some ⟨b2,0,none⟩) N N,.slice (some ⟨b3,0,none⟩) N N,.map (some mp),.slice none 0 0])(o1:H'.own b1=some (cE [i64 0] N))(o2:H'.own b2=some (cE [i64 0] N))(o3:H'.own b3=some (cE [i64 0,.int .u32 0] N))(m:H'.mp mp=some ([],0))
  (f:ah H H')(hb:H.size≤x∧H.size≤b1∧H.size≤b2∧H.size≤b3∧H.size≤mp)(ne:x≠b1∧x≠b2∧x≠b3∧x≠mp∧b1≠b2∧b1≠b3∧b1≠mp∧b2≠b3∧b2≠mp∧b3≠mp):
  ∃B:NT,([(3,g),(8,ptr s),(10,ptr x)]:Env)=[(3,g),(8,ptr s),(10,ptr B.x)]∧B.s=s∧vN H' B lo N gs (.slice none 0 0) S w A 0 [] (List.replicate N 0) (List.replicate N 0) (List.replicate N (0,0))∧ah H H':=by
 have hn:∀z,H.size≤z→¬S z:=fun z hz h=>by have:=st.slt z h;omega
 have e0:cE [i64 0] N=List.replicate N (i64 0):=by rw[Bm,aqq]
 refine⟨⟨x,b1,b2,b3,mp,s⟩,rfl,rfl,⟨o,?_,?_,by rw[o3,←SJ],⟨[],0,m,rfl,apr⟩,st.ext f (fun _ _ h=>h),⟨hn _ hb.1,hn _ hb.2.1,hn _ hb.2.2.1,hn _ hb.2.2.2.1,hn _ hb.2.2.2.2⟩,ne,hS,by simp only;omega⟩,f⟩
 ·rw[o1,e0,aqq];rfl
 ·rw[o2,e0,aqq]
theorem u0{H:Hp}(kd dd:Int)(z8:gD kd dd→Sa kd dd){n:Int}{a:Option Addr}{c:Nat}{es:List Ed}(h:cO H 3 (.slice a es.length c) es.length (dW es))(hm:es.length≤1000000000):
  af Tryz.prog KK [Nq kd dd,zJ n (.slice a es.length c)] H fun v H'=>aw (ah H H'∧ab3 H H' kd dd n es v):=by
 refine GO KS ⟨rfl,?_⟩
 simp(disch:=(first|omega| (simp only[Zs]<;>omega)|fail)) only[go_sem, ↓reduceIte,Zv,Dt,zJ]
 have f0:ah H (H.new 23 [i64 kd,i64 dd]):=(ag.refl _ _).new _ _
 have b0:(H.new 23 [i64 kd,i64 dd]).own H.size=some [i64 kd,i64 dd]:=az _ _ _
 have z0:(H.new 23 [i64 kd,i64 dd]).size=H.size+1:=ap _ _ _
 generalize H.new 23 [i64 kd,i64 dd]=H0 at*
 have f1:ah H0 (H0.new 52 [i64 n,.slice a es.length c]):=(ag.refl _ _).new _ _
 have b1:(H0.new 52 [i64 n,.slice a es.length c]).own H0.size=some [i64 n,.slice a es.length c]:=az _ _ _
 have z1:(H0.new 52 [i64 n,.slice a es.length c]).size=H0.size+1:=ap _ _ _
 have a1:=f1.own b0 (fun h=>h)
 rw[z0]at b1 z1
 generalize H0.new 52 [i64 n,.slice a es.length c]=H1 at*
 refine v1 (ae a1) ?_
 refine(nJ kd dd H1).mono ?_
 rintro _ H2 ⟨rfl,f2⟩
 have g2:=(f0.trans f1).trans f2
 have a2:=f2.own a1 (fun h=>h)
 have b2:=f2.own b1 (fun h=>h)
 refine vs ?_
 refine am.dec (fun hc=>?_) (fun hc=>?_)<;>refine vs ?_
 rotate_left
 ·exact⟨g2,.inl ⟨fun hf=>hc (LA hf),rfl⟩⟩
 have hf:gD kd dd:=LC.1 (by omega)
 refine v1 (ae b2) ?_
 refine(qA (n:=n) (h.fresh g2) hm).mono ?_
 rintro _ H3 ⟨rfl,f3⟩
 have g3:=g2.trans f3
 have a3:=f3.own a2 (fun h=>h)
 have b3:=f3.own b2 (fun h=>h)
 by_cases hr:dZ n es=true
 rotate_left
 ·rw[if_neg hr]
  refine v1 aoY ?_
  exact⟨g3,.inr (.inl ⟨hf,by simpa using hr,rfl⟩)⟩
 rw[if_pos hr]
 have sU:=(fY n es).1 hr
 have Lm:=sU.n0
 have vV:=sU.n1
 obtain⟨N,rfl⟩:∃N:Nat,n=(N:Int):=⟨n.toNat,by omega⟩
 refine v3 aoY (ae a3) (ae b3) ?_
 refine af.mono (by simpa using JN (cap:=(N:Int)) (mo:=1) hf (z8 hf) (by omega) (by omega) H3) ?_
 rintro _ H4 ⟨s,S,rfl,st4,f4,hS4⟩
 have g4:=g3.trans f4
 have b4:=f4.own b3 (fun h=>h)
 refine v1 aoY ?_
 refine(Er st4 (by simp[zD])).mono ?_
 rintro _ H5 ⟨rfl,S5,st5,e5,PT⟩
 have z3:=g3.size
 have z4:=g4.size
 have g5:ah H H5:=g4.then e5 (fun z hz=>by have:=hS4 z hz;omega)
 have hS5:∀z,S5 z→H.size≤z:=fun z hz=>by
  rcases PT z hz with h|h
  ·have:=hS4 z h;omega
  ·omega
 have hgb:H.size+1<H3.size:=aB b3
 have b5:=e5.own b4 (fun h=>by have:=hS4 _ h;omega)
 refine Ns (fun e H'=>∃B:NT,e=[(3,ptr (H.size+1)),(8,ptr s),(10,ptr B.x)]∧B.s=s∧vN H' B H.size N (.slice a es.length c) (.slice none 0 0) S5 (zD (N:Int)).make (P9 (N:Int) 1) 0 [] (List.replicate N 0) (List.replicate N 0) (List.replicate N (0,0))∧ah H5 H') ?_ ?_
 ·refine vs ?_
  refine jB.intro (fun H'=>H'.own (H.size+1)=some [i64 N,.slice a es.length c]) b5 ?_
  refine vs ?_
  refine fJ.intro (.agg #[i64 N,.slice a es.length c]) (fun H' hI=>by refine v1 (ae hI) ?_;exact⟨trivial,trivial⟩) ?_
  refine vs ?_
  refine fJ.intro (i64 N) (fun H' hI=>by refine v1 (ae hI) ?_;exact⟨trivial,trivial⟩) ?_
  refine vs ?_
  refine fJ.intro (i64 N) (fun H' hI=>by refine v1 (ae hI) ?_;exact⟨trivial,trivial⟩) ?_
  refine vs ?_
  refine fJ.intro (i64 N) (fun H' hI=>by refine v1 (ae hI) ?_;exact⟨trivial,trivial⟩) ?_
  refine vs ?_
  have amm:=aB b5
  iterate 34
   all_goals try
    first
    |with_reducible refine EM.intro ?_ ?_
    |with_reducible refine dD.mk b5 ?_
    | (with_reducible refine dD.mk ⟨by omega,by omega,by omega,by omega⟩ ?_
      refine v1 Int.toNat_natCast ?_)
    | (fail_if_success with_reducible refine Exists.intro ?_ ?_
      refine vs ?_)
  all_goals
   simp only[Int.toNat_natCast]
   exact UF st5 hS5 (by omega) (aT (by simp only[ap,iB])) (by refine vs ?_<;>trivial) (by exact vs trivial<;>trivial) (by exact vs trivial<;>trivial) (by exact vs trivial<;>trivial) (by repeat' first|exact ag.refl _ _|refine ag.new ?_ _ _|refine ag.ij ?_) (by omega) (by omega)
 rintro _ H6 ⟨B,rfl,rfl,m6,f6⟩
 have b6:=f6.own b5 (fun h=>h)
 have g6:=g5.trans f6
 refine v1 (ae b6) ?_
 refine(xJ (n:=(N:Int)) (h.fresh g6) hm).mono ?_
 rintro _ H7 ⟨f7,⟨bO,_⟩| ⟨_,tb,fp,rfl,t7⟩⟩
 ·rw[hr]at bO;cases bO
 have m7:=m6.fresh f7
 have g7:=g6.trans f7
 have b7:=f7.own b6 (fun h=>h)
 have ag3:=m6.lt
 have G0:xE es N (zD (N:Int)).make (P9 (N:Int) 1) [] (List.replicate N 0) (List.replicate N 0) (List.replicate N (0,0)):=xE.zero es N ao2 ao2
 have D0:Zp es [] (List.replicate N 0):=by
  have h0:∀ (v k:Nat),k≠0→(List.replicate N 0)[v]? ≠some k:=fun v k hk hv=>by
   have:=apu (aom hv)
   omega
  refine⟨?_,fun v=>h0 v 1 (by omega)⟩
  have e1:(fun v:Nat=>(List.replicate N 0)[v]? =some 2)=fun _=>False:=by
   funext v
   exact eq_false (h0 v 2 (by omega))
  rw[e1]
  exact xO.begin _
 rw[Int.toNat_natCast]at t7 ⊢
 refine v1 (ae b7) ?_
 have p7:GW H7 B H.size N (.slice a es.length c) es H6.size tb fp S5 (zD (N:Int)).make (P9 (N:Int) 1) [] (List.replicate N 0) (List.replicate N 0) (List.replicate N (0,0)) [] (.slice none 0 0) none:=by
  refine⟨m7,t7,fun z hz h=>?_,Sl.nil _ _,fun b hb=>by cases hb⟩
  have:=ag3 z h
  rcases hz with rfl| ⟨i,hi,hp⟩
  ·have:=t7.base;omega
  ·have:=(t7.low i hi z hp).1;omega
 refine aW.intro (fun mm env H'=>∃ (j:Nat) (S':Nat→Prop) (w':Nw) (A':Ar) (L':List ((Int×Nat)×Value)) (sl:List Nat) (bl:List Int) (hl:List (Int×Nat)) (T:List Int) (ov:Value) (EH:Option Nat),mm=N - j∧j≤N∧GW H' B H.size N (.slice a es.length c) es H6.size tb fp S' w' A' L' sl bl hl T ov EH∧xE es N w' A' L' sl bl hl∧Zp es T sl∧(∀v:Nat,v<j→sl[v]? =some 2)∧ah H H'∧
  env=[(8,ptr B.s),(10,ptr B.x),(11,.slice (some ⟨tb,0,none⟩) N N),(56,i64 N),(57,i64 j)]) N ⟨0,S5,_,_,[],_,_,_,[],_,none,rfl,ap1 _,p7,G0,D0,fun v hv=>by omega,g7,rfl⟩ ?_
 clear p7 G0 D0 m7 t7 g7 b7 f7 m6 f6 b6 g6 st5 e5 PT b5 g5 hS5 st4 f4 hS4 g4 b4 a3 b3 a2 b2 f3 g3 f2 g2
 rintro mm env H8 ⟨j,S8,w8,A8,L8,sl8,bl8,hl8,T8,ov8,UG,rfl,hj,p8,G8,D8,SK,g8,rfl⟩
 refine vs ?_
 refine am.dec (fun aO=>?_) (fun aO=>?_)<;>refine vs ?_
 rotate_left
 ·have fS:j=N:=by omega
  subst fS
  obtain⟨B0,Jw⟩:=D8.Wf sU (fun v hv=>SK v (by omega))
  have gA:=MN B0.vT
  have Gq:=sf sU B0.vT B0.sub
  refine v1 (ae p8.m.o) ?_
  refine(qi p8.os (by omega)).mono ?_
  rintro _ H9 ⟨rfl,s9,e9⟩
  have o9:=e9.own p8.m.o (fun h=>(p8.od _ h).2.1 (.inr (.inl rfl)))
  refine v1 (ae o9) ?_
  obtain⟨k1,k2⟩:=Qr sU (Gp T8) B0 Jw
  refine⟨g8.then e9 (fun z hz=>(p8.od z hz).1),.inr (.inr ⟨hf,hr,je T8,ov8,UG,rfl,by rw[mO];exact s9,fun b hb=>(p8.od b hb).1,k1,k2,SI gA⟩)⟩
 rw[UH]
 have fS:j<N:=by omega
 obtain⟨k,hk⟩:∃k,sl8[j]? =some k:=⟨_,aog (by rw[G8.l1];exact fS)⟩
 have zZ:=G8.two k (aom hk)
 have hk1:k≠1:=fun e=>D8.2 j (by rw[hk,e])
 have ck:(sl8.map fun k:Nat=>i64 k)[j]? =some (i64 k):=by rw[aoF,hk];rfl
 refine v1 (ae p8.m.o) ?_
 refine⟨⟨by omega,by omega⟩,?_⟩
 refine v5 (ae p8.m.o1) Int.toNat_natCast aok aoh ck ?_
 refine am.dec (fun h0=>?_) (fun h0=>?_)<;>refine vs ?_
 rotate_left
 ·rw[wrap64 (n:=(j:Int)+1) (by omega) (by omega)]
  refine⟨N - (j+1),by omega,j+1,S8,w8,A8,L8,sl8,bl8,hl8,T8,ov8,UG,rfl,by omega,p8,G8,D8,fun v hv=>?_,g8,rfl⟩
  by_cases e:v=j
  ·subst e
   rw[hk]
   exact aoD some (by omega)
  ·exact SK v (by omega)
 have Zz:k=0:=by omega
 subst Zz
 obtain⟨gs0,gt0⟩:=NJ.begin (bl:=bl8) sU D8 hk
 refine(ju p8.m sU h g8 (aou _) fS (G8.root hk) p8.t p8.td gs0 rfl).mono ?_
 rintro _ H9 ⟨rfl,S9,w9,A9,L9,sl9,bl9,hl9,m9,G9,gs9,e9,hs9⟩
 have p9:=p8.go m9 e9 hs9
 have g9:ah H H9:=g8.then e9 (fun z hz=>p8.m.ge z (hz.imp_right .inr))
 refine vs ?_
 refine(IV p9 G9).mono ?_
 rintro _ H10 ⟨x,gg,ky,er,S10,w10,A10,rfl,p10,N10,e10,ag5⟩
 have g10:ah H H10:=g9.then e10 (fun z hz=>p9.m.ge z (.inl hz))
 refine vs ?_
 obtain⟨f11,b11,z11⟩:=Np H10 114 [Value.int .i64 0,Value.int .u32 0] [i64 x,Value.int .u32 (gg:Int)]
 generalize hhb:H10.size=hb at*
 generalize (H10.new 114 [Value.int .i64 0,Value.int .u32 0]).wr hb [i64 x,Value.int .u32 (gg:Int)]=H11 at*
 have p11:=p10.fresh f11
 have g11:=g10.trans f11
 have ab6:¬ (S10 hb∨hb=B.x∨B.row hb)∧UG≠some hb:=⟨fun h=>by have:=p10.m.lt hb h;omega,fun h=>by have:=p10.olt hb h;omega⟩
 refine aW.intro (fun mm env H'=>∃ (x:Int) (gg:Nat) (er:Int) (S':Nat→Prop) (w':Nw) (A':Ar) (L':List ((Int×Nat)×Value)) (sl:List Nat) (bl:List Int) (hl:List (Int×Nat)) (T:List Int) (ov:Value) (EH:Option Nat) (o:List Nat) (kk:Nat→Int) (hb:Nat),mm=N - o.length∧GW H' B H.size N (.slice a es.length c) es H6.size tb fp S' w' A' L' sl bl hl T ov EH∧Next es N w' A' L' sl bl hl x gg er∧NJ es (fun v:Nat=>sl8[v]? =some 2) o kk T sl bl []∧GrT es T T8 (fun v:Nat=>sl8[v]? =some 2) o∧j∈o∧H'.own hb=some [i64 x,Value.int .u32 (gg:Int)]∧(¬ (S' hb∨hb=B.x∨B.row hb)∧EH≠some hb)∧ah H H'∧
  env=[(8,ptr B.s),(10,ptr B.x),(11,.slice (some ⟨tb,0,none⟩) N N),(13,ptr hb),(15,i64 er),(56,i64 N),(57,i64 j)]) (N - 1) ⟨x,gg,er,S10,w10,A10,L9,sl9,bl9,hl9,T8,ov8,UG,[j],_,hb,rfl,p11,N10,gs9,gt0,by simp,b11,ab6,g11,rfl⟩ ?_
 clear p11 N10 gs9 gt0 b11 ab6 g11 f11 z11 hhb p10 e10 ag5 g10 p9 m9 G9 e9 hs9 g9
 rintro mm env ZE ⟨x,gg,er,S12,w12,A12,L12,ab7,SL,ab8,T12,aca,SM,o,kk,hb,rfl,Qs,N12,XY,UI,hjo,b12,XZ,g12,rfl⟩
 refine vs ?_
 refine am.dec (fun he=>?_) (fun he=>?_)<;>refine vs ?_
 rotate_left
 ·rcases N12 with ⟨_,ZF,bO⟩| ⟨h0,_⟩
  ·rw[wrap64 (n:=(j:Int)+1) (by omega) (by omega)]
   refine⟨N - (j+1),by omega,j+1,S12,w12,A12,L12,ab7,SL,ab8,T12,aca,SM,rfl,by omega,Qs,ZF,XY.over D8.1 UI bO,fun v hv=>(XY.d v).2 ?_,g12,rfl⟩
   by_cases e:v=j
   ·subst e;exact .inr hjo
   ·exact .inl (SK v (by omega))
  ·exact absurd h0 he
 rcases N12 with ⟨h0,_⟩| ⟨_,v,DJ,hvL,Pk,ZF⟩
 ·omega
 have hvN:v<N:=by
  have:=(aoi.1 DJ).1
  have h2:=ZF.l1
  rw[aoj]at h2
  omega
 obtain⟨UJ,acb,amv⟩:=XY.enter sU UI DJ Pk
 have hol:(o++[v]).length≤N:=Iw N _ UJ.P.nd fun y hy=>by
  have:=(UJ.d y).2 (.inr hy)
  have h1:=(aoi.1 this).1
  have h2:=ZF.l1
  omega
 rw[aoq,aoz]at hol
 obtain⟨b,hbv⟩:∃b,SL[v]? =some b:=⟨_,aog (by rw[ZF.l2];exact hvN)⟩
 have TU:SL.getD v 0=b:=by rw[aol,hbv];rfl
 have cb:(SL.map i64)[v]? =some (i64 b):=by rw[aoF,hbv];rfl
 rw[TU]at UJ acb
 have amw:=sf sU UI.vT (fun i hi=>(UI.ins i hi).1)
 refine v2 (ae Qs.m.o) (ae b12) ?_
 refine⟨IL _ _,?_⟩
 refine xC.look Qs.m.m (a:=(x,gg)) hvL ?_
 refine vs ?_
 refine Ns (fun e H'=>∃ZD acc,e=[(8,ptr B.s),(10,ptr B.x),(11,.slice (some ⟨tb,0,none⟩) N N),(13,ptr hb),(16,i64 v),(56,i64 N),(57,i64 j)]∧GW H' B H.size N (.slice a es.length c) es H6.size tb fp S12 w12 A12 L12 ab7 SL ab8 (T12++[b]) ZD acc∧H'.own hb=some [i64 x,Value.int .u32 (gg:Int)]∧acc≠some hb∧ah H H') ?_ ?_
 ·refine jB.intro (fun _=>True) trivial ?_
  have fl:ah ZE (ZE.new 3 [i64 b]):=(ag.refl _ _).new _ _
  have mE:=aB Qs.m.o
  have Y9:=aB Qs.m.o2
  have Vp:=aB b12
  have fin:∀K,(∀v' H2 cP,Sl H2 1 v' (T12.length+1) (T12.map i64++[i64 b]) cP→ag (fun z=>SM=some z) (ZE.new 3 [i64 b]) H2→(cP=SM∨∃p,cP=some p∧(ZE.new 3 [i64 b]).size≤p∧p<H2.size)→K v' H2)→gk 3 1 8 [i64 0] aca (.slice (some ⟨ZE.size,0,none⟩) 1 1) (ZE.new 3 [i64 b]) K:=fun K hk=>
   Sl.append (Qs.os.ext fl (fun _ _ h=>h)) (Sl.bU (size:=1) (n:=1) (xs:=[i64 b]) rfl rfl).rd rfl (rQ [b]) (by omega) hk
  iterate 12
   all_goals try
    first
    |with_reducible refine EM.intro ?_ ?_
    |with_reducible refine dD.mk ⟨by omega,by omega⟩ ?_
    |with_reducible refine fin _ fun v' H2 cP s2 e2 hf2=>?_
    | (fail_if_success with_reducible refine Exists.intro ?_ ?_
      fail_if_success refine fin _ ?_
      refine v6 (ae Qs.m.o) (ae Qs.m.o2) Int.toNat_natCast aok aoh cb ?_)
  all_goals
   obtain⟨va,VF,rfl,_⟩:=cJ s2
   obtain⟨q1,q2⟩:=Qs.push fl s2 e2 hf2 rfl
   have ox:=e2.own (fl.own Qs.m.o (fun h=>h)) (fun h=>(Qs.od _ h).2.1 (.inr (.inl rfl)))
   refine v1 ox ?_
   refine⟨_,cP,trivial,q1,e2.own (fl.own b12 (fun h=>h)) XZ.2,fun h=>?_,g12.then q2 (fun z hz=>?_)⟩
   ·rcases hf2 with h2| ⟨p,h2,h3,_⟩
    ·exact XZ.2 (by rw[←h2];exact h)
    ·rw[h]at h2
     injection h2 with h2
     have:=fl.size
     omega
   ·rcases hz with h|h
    ·exact(Qs.od z h).1
    ·rw[h];exact Qs.m.low.2.1
 rintro _ H13 ⟨ag7,VL,rfl,p13,b13,amx,g13⟩
 refine vs ?_
 refine(ju p13.m sU h g13 (aou _) hvN ZF p13.t p13.td UJ (by simp)).mono ?_
 rintro _ H14 ⟨rfl,S14,w14,A14,L14,ag8,ag9,aha,m14,G14,ahb,vH,ahc⟩
 have p14:=p13.go m14 vH ahc
 have g14:ah H H14:=g13.then vH (fun z hz=>p13.m.ge z (hz.imp_right .inr))
 have Vp:=aB b13
 have b14:=vH.own b13 (fun h=>XZ.1 (h.imp_right .inr))
 refine v1 (ae b14) ?_
 obtain⟨f15,b15,z15⟩:=Np H14 114 [Value.int .i64 0,Value.int .u32 0] [i64 x,Value.int .u32 (gg:Int)]
 generalize hhb:H14.size=oQ at*
 generalize (H14.new 114 [Value.int .i64 0,Value.int .u32 0]).wr oQ [i64 x,Value.int .u32 (gg:Int)]=H15 at*
 have p15:=p14.fresh f15
 have g15:=g14.trans f15
 have X0:¬ (S14 oQ∨oQ=B.x∨B.row oQ)∧VL≠some oQ:=⟨fun h=>by have:=p14.m.lt oQ h;omega,fun h=>by have:=p14.olt oQ h;omega⟩
 refine(IV p15 G14).mono ?_
 rintro _ H16 ⟨x',gg',ky',er',S16,w16,A16,rfl,p16,N16,LF,acg⟩
 have g16:ah H H16:=g15.then LF (fun z hz=>p15.m.ge z (.inl hz))
 have b16:=LF.own b15 (fun h=>X0.1 (.inl h))
 refine v1 b16 ?_
 obtain⟨WU,b17⟩:=Lw b16 [i64 x',Value.int .u32 (gg':Int)]
 generalize H16.wr oQ [i64 x',Value.int .u32 (gg':Int)]=H17 at*
 have amJ:=f15.size
 have amK:=LF.size
 have amL:=WU.size
 have ach:¬ (S16 oQ∨oQ=B.x∨B.row oQ):=fun h=>X0.1 (by
  rcases h with h|h
  ·rcases acg oQ h with h|h
   ·exact .inl h
   ·omega
  ·exact .inr h)
 have x17:ag S14 H14 H17:=⟨by omega,fun z hz hn=>by rw[WU.aM z (by omega) (by omega),LF.aM z (by omega) hn,f15.aM z (by omega) (fun h=>h)]⟩
 have p17:=p14.to (p16.m.st.ext WU (fun z hz e=>ach (.inl (by rw[←e];exact hz)))) x17 (fun z hz=>(acg z hz).imp_right fun h=>by omega)
 have g17:ah H H17:=g14.then x17 (fun z hz=>p14.m.ge z (.inl hz))
 exact⟨N - (o++[v]).length,by rw[aoq,aoz];omega,x',gg',er',S16,w16,A16,L14,ag8,ag9,aha,T12++[b],ag7,VL,o++[v],_,oQ,rfl,p17,N16,ahb,acb,aox _ hjo,b17,⟨ach,X0.2⟩,g17,rfl⟩
theorem Di(H:Hp)(n:Int)(a:Option Addr)(k c:Nat):af Tryz.prog G2 [zJ n (.slice a k c)] H fun v H'=>aw (v= .bool (decide (40<k∨(30<n∧n≤4096)))∧ah H H'):=by
 refine bq Hk ?_
 have f0:ah H (H.new 52 [i64 n,.slice a k c]):=(ag.refl _ _).new _ _
 have b0:=az H 52 [i64 n,.slice a k c]
 simp(disch:=(first|omega| (simp only[Zs]<;>omega)|fail)) only[go_sem, ↓reduceIte,Zv,zJ]
 generalize H.new 52 [i64 n,.slice a k c]=H0 at*
 refine am.dec (fun h1=>?_) (fun h1=>?_)<;>refine v1 (ae b0) ?_
 ·exact⟨aoD Value.bool (by symm;simp;omega),f0⟩
 ·refine am.dec (fun h3=>?_) (fun h3=>?_)<;>refine v1 (ae b0) ?_
  ·exact⟨aoD Value.bool (by rw[decide_eq_decide];omega),f0⟩
  ·exact⟨aoD Value.bool (by symm;simp;omega),f0⟩
def UK:List Ed:=[⟨0,1,1⟩,⟨1,2,2⟩,⟨2,0,3⟩]
theorem u9(H:Hp):af Tryz.prog Ah [] H fun v H'=>aw (v= .bool true∧ah H H'):=by
 refine bq AA ?_
 refine vs ?_
 have fe:ah H (H.new 61 (dW UK)):=(ag.refl _ _).new _ _
 have re:cO (H.new 61 (dW UK)) 3 (.slice (some ⟨H.size,0,none⟩) UK.length 3) UK.length (dW UK):=(Sl.lit H 61 3 3 (dW UK) rfl).rd
 have hze:(H.new 61 (dW UK)).size=H.size+1:=by rw[ap]
 have hE:H.new 61 [Value.int .i64 0,Value.int .i64 1,Value.int .i64 1,Value.int .i64 1,Value.int .i64 2,Value.int .i64 2,Value.int .i64 2,Value.int .i64 0,Value.int .i64 3]=H.new 61 (dW UK):=rfl
 rw[hE]
 generalize H.new 61 (dW UK)=H0 at*
 obtain⟨fw,q2,z2⟩:=Np H0 52 [Value.int .i64 0,Value.slice none 0 0] [Value.int .i64 3,Value.slice (some ⟨H.size,0,none⟩) 3 3]
 rw[hze]at q2 fw
 generalize (H0.new 52 [Value.int .i64 0,Value.slice none 0 0]).wr (H.size+1) [Value.int .i64 3,Value.slice (some ⟨H.size,0,none⟩) 3 3]=H1 at*
 have r1:=re.fresh fw
 have f1:=fe.trans fw
 refine v1 (ae q2) ?_
 refine(u0 3 0 (fun h=>LV h) (n:=3) r1 (by decide)).mono ?_
 rintro _ H2 ⟨f2,⟨bO,_⟩| ⟨_,bO,_⟩| ⟨_,_,T,sv,fp,rfl,s2,fZ,B0,Jw,Tw⟩⟩
 ·exact absurd (by decide) bO
 ·exact absurd bO (by decide)
 obtain rfl:=Un B0 Jw Tw
 obtain⟨sa,sc,rfl,_⟩:=cJ s2
 have fl:ah H2 (H2.new 3 [i64 0,i64 1]):=(ag.refl _ _).new _ _
 refine v1 aoY ?_
 refine(Ey (xs:=[0,1]) (ys:=[0,1]) (s2.rd.fresh fl) (Sl.lit H2 3 1 2 [i64 0,i64 1] rfl).rd (by decide)).mono ?_
 rintro _ H3 ⟨rfl,e⟩
 obtain rfl:=e
 refine v1 aoY ?_
 exact⟨rfl,(f1.trans f2).trans fl⟩
theorem ve{Hh:Hp}{v0 v1:Value}(h0:HD Hh (true,[.k (.i .i64),.k (.i .i64)]) v0)(h1:HD Hh (true,[.k (.i .i64),.sl [.i .i64,.i .i64,.i .i64]]) v1):af Tryz.prog Ag [v0,v1] Hh fun v H'=>aw (v= .bool true∧ah Hh H'):=by
 obtain⟨kd,dd,rfl⟩:=NS h0
 obtain⟨n,es,a,c,rfl,hr,Tf,XW,hn,UL⟩:=NR h1
 clear h0 h1
 have hw:∀e∈es, -9223372036854775808≤e.w∧e.w≤9223372036854775807:=fun e he=>(UL e he).2.2
 refine GO Az ⟨rfl,?_⟩
 simp(disch:=(first|omega| (simp only[Zs]<;>omega)|fail)) only[go_sem, ↓reduceIte,Zv,og,zJ]
 have f0:ah Hh (Hh.new 23 [i64 kd,i64 dd]):=(ag.refl _ _).new _ _
 have a0:(Hh.new 23 [i64 kd,i64 dd]).own Hh.size=some [i64 kd,i64 dd]:=az _ _ _
 have z0:(Hh.new 23 [i64 kd,i64 dd]).size=Hh.size+1:=ap _ _ _
 generalize Hh.new 23 [i64 kd,i64 dd]=H0 at*
 have f1:ah H0 (H0.new 52 [i64 n,.slice a es.length c]):=(ag.refl _ _).new _ _
 have b1:(H0.new 52 [i64 n,.slice a es.length c]).own H0.size=some [i64 n,.slice a es.length c]:=az _ _ _
 have a1:=f1.own a0 (fun h=>h)
 rw[z0]at b1
 generalize H0.new 52 [i64 n,.slice a es.length c]=H1 at*
 refine(u9 H1).mono ?_
 rintro _ H2 ⟨rfl,f2⟩
 have g2:=(f0.trans f1).trans f2
 have a2:=f2.own a1 (fun h=>h)
 have b2:=f2.own b1 (fun h=>h)
 refine v1 (ae b2) ?_
 refine(Di H2 n a es.length c).mono ?_
 rintro _ H3 ⟨rfl,f3⟩
 have g3:=g2.trans f3
 have a3:=f3.own a2 (fun h=>h)
 have b3:=f3.own b2 (fun h=>h)
 refine vs ?_
 refine am.dec (fun c1=>?_) (fun c1=>?_)<;>refine v2 (ae a3) (ae b3) ?_
 ·exact⟨rfl,g3⟩
 refine(u0 kd dd (fun h=>LV h) (n:=n) (hr.fresh g3) (by omega)).mono ?_
 rintro v4 H4 ⟨f4,hp⟩
 have g4:=g3.trans f4
 have a4:=f4.own a3 (fun h=>h)
 have b4:=f4.own b3 (fun h=>h)
 obtain⟨T,sv,fp,er,rfl,s4,fZ,VM⟩:∃ (T:List Int) (sv:Value) (fp:Option Nat) (er:Int),v4=Value.tuple [sv,i64 er].toArray∧Sl H4 1 sv T.length (T.map i64) fp∧(∀b,fp=some b→H3.size≤b)∧
   ((¬gD kd dd∧er=RR kd dd∧T=[])∨(gD kd dd∧dZ n es=false∧er=201∧T=[])∨(gD kd dd∧dZ n es=true∧er=0∧jT n es T∧NH es T∧T.Pairwise (· < ·))):=by
  rcases hp with ⟨h1,rfl⟩| ⟨h1,h2,rfl⟩| ⟨h1,h2,T,sv,fp,rfl,s,fZ,k⟩
  ·exact⟨[],_,none,_,rfl,Sl.nil _ _,(fun b hb=>by cases hb),.inl ⟨h1,rfl,rfl⟩⟩
  ·exact⟨[],_,none,_,rfl,Sl.nil _ _,(fun b hb=>by cases hb),.inr (.inl ⟨h1,h2,rfl,rfl⟩)⟩
  ·exact⟨T,sv,fp,0,rfl,s,fZ,.inr (.inr ⟨h1,h2,rfl,k⟩)⟩
 obtain⟨sa,sc,rfl,hsc⟩:=cJ s4
 refine v1 (ae a4) ?_
 refine(FQ kd dd H4).mono ?_
 rintro _ H5 ⟨rfl,f5⟩
 have g5:=g4.trans f5
 have b5:=f5.own b4 (fun h=>h)
 have s5:=s4.ext f5 (fun _ _ h=>h)
 refine vs ?_
 refine am.dec (fun c2=>?_) (fun c2=>?_)<;>refine vs ?_
 rotate_left
 ·rcases VM with ⟨_,rfl,rfl⟩| ⟨h1,_⟩| ⟨h1,_⟩
  ·simp(disch:=(first|omega| (simp only[Zs]<;>omega)|fail)) only[go_sem, ↓reduceIte,Zv,aoY,apk]
   exact⟨rfl,g5⟩
  ·exact absurd (LA h1) c2
  ·exact absurd (LA h1) c2
 have hK:=LC.1 c2
 refine v1 (ae b5) ?_
 refine(C5 (n:=n) (hr.fresh g5) (by omega)).mono ?_
 rintro _ H6 ⟨rfl,f6⟩
 have g6:=g5.trans f6
 have b6:=f6.own b5 (fun h=>h)
 have s6:=s5.ext f6 (fun _ _ h=>h)
 rcases VM with ⟨h1,_⟩| ⟨_,h2,rfl,rfl⟩| ⟨_,h2,rfl,B0,Jw,Tw⟩
 ·exact absurd hK h1
 ·rw[h2]
  simp(disch:=(first|omega| (simp only[Zs]<;>omega)|fail)) only[go_sem, ↓reduceIte,Zv,apW,aoY,apk]
  exact⟨rfl,g6⟩
 rw[h2]
 have sU:=(fY n es).1 h2
 have hTl:=sf sU B0.vT B0.sub
 have Lm:=sU.n0
 have vV:=sU.n1
 refine v1 ap9 ?_
 refine aW.intro (fun mm env H'=>∃i:Nat,mm=T.length+1 - i∧1≤i∧(i≤T.length+1)∧H'=H6∧env=[(3,ptr (Hh.size+1)),(5,.slice sa T.length sc),(6,i64 0),(8,i64 i)]) T.length ⟨1,by omega,by omega,by omega,rfl,rfl⟩ ?_
 rintro mm env H6 ⟨i,rfl,PR,mw,rfl,rfl⟩
 refine vs ?_
 refine am.dec (fun aO=>?_) (fun aO=>?_)<;>refine vs ?_
 ·obtain⟨k,rfl⟩:∃k,i=k+1:=⟨i - 1,by omega⟩
  have zZ:k+1<T.length:=by omega
  obtain⟨x,hx⟩:∃x,T[k]? =some x:=⟨_,aog (by omega)⟩
  obtain⟨y,hy⟩:∃y,T[k+1]? =some y:=⟨_,aog zZ⟩
  have MA:x<y:=by
   have:=List.pairwise_iff_getElem.1 Tw k (k+1) (by omega) zZ (by omega)
   rw[aog (by omega)]at hx
   rw[aog zZ]at hy
   injection hx with hx
   injection hy with hy
   rw[hx,hy]at this
   exact this
  obtain⟨_,b,o,lb,rfl,eW,fu⟩:=cO.num s6.rd hx
  obtain⟨_,b',o',Vw,VK,Gc,yy⟩:=cO.num s6.rd hy
  injection VK with VK
  injection VK with Ll oQ
  subst Ll oQ
  rw[eW]at Gc
  injection Gc with Gc
  subst Gc
  rw[show((k+1:Nat):Int) - 1=(k:Int) by omega,wrap64 (n:=(k:Int)) (by omega) (by omega)]
  refine⟨⟨by omega,by omega⟩,?_⟩
  refine v4 eW Int.toNat_natCast aok fu ?_
  refine⟨⟨by omega,by omega⟩,?_⟩
  refine v4 eW Int.toNat_natCast aok yy ?_
  refine am.dec (fun OB=>by omega) (fun _=>?_)
  refine vs ?_
  rw[wrap64 (n:=((k+1:Nat):Int)+1) (by omega) (by omega)]
  exact⟨T.length+1 - (k+2),by omega,k+2,rfl,by omega,by omega,trivial,rfl⟩
 have cX:∀i∈T,LN es i:=B0.ins
 refine jB.intro (fun H'=>H'.own (Hh.size+1)=some [i64 n,.slice a es.length c]) b6 ?_
 refine v2 aoY (ae b6) ?_
 refine And.intro b6 ?_
 refine vs ?_
 refine(BL (n:=n) (hr.fresh g6) s6.rd hsc sU (by omega)).mono ?_
 rintro _ H7 ⟨f7,bb,rfl,hb⟩
 obtain rfl:bb=true:=hb.2 B0
 have b7:=f7.own b6 (fun h=>h)
 have g7:=g6.trans f7
 refine And.intro b7 ?_
 refine vs ?_
 refine fJ.intro (zJ n (.slice a es.length c)) (fun H' hI=>by refine v1 (ae hI) ?_;exact⟨rfl,trivial⟩) ?_
 refine vs ?_
 refine fJ.intro (zJ n (.slice a es.length c)) (fun H' hI=>by refine v1 (ae hI) ?_;exact⟨rfl,trivial⟩) ?_
 refine v1 (ae b7) ?_
 refine And.intro b7 ?_
 refine vs ?_
 refine(oC (n:=n) (hr.fresh g7) (s6.ext f7 (fun _ _ h=>h)).rd cX (by omega) hw (by omega)).mono ?_
 rintro _ H8 ⟨rfl,f8⟩
 have b8:=f8.own b7 (fun h=>h)
 have g8:=g7.trans f8
 refine And.intro b8 ?_
 refine vs ?_
 refine(Dh (hr.fresh g8) sU).mono ?_
 rintro _ H9 ⟨f9,L,lb,hLp,hLs,Dz,s9⟩
 have b9:=f9.own b8 (fun h=>h)
 have g9:=g8.trans f9
 refine And.intro b9 ?_
 obtain⟨ga,gc,rfl,_⟩:=cJ s9
 have X1:=LP n (es:=es) (L:=L) (fun i hi=>js.1 (hLp.mem_iff.1 hi)) (fun i hi=>hLp.mem_iff.2 hi)
 have amQ:=sf sU X1.vT X1.sub
 refine vs ?_
 refine(oC (n:=n) (hr.fresh g9) s9.rd X1.ins (by omega) hw (by omega)).mono ?_
 rintro _ H10 ⟨rfl,f10⟩
 have b10:=f10.own b9 (fun h=>h)
 rw[(Qb sU B0 hLp hLs).2 Jw]
 refine And.intro b10 ?_
 refine v2 SF aoY ?_
 exact⟨rfl,g9.trans f10⟩
end Go.Proofs.YtjlnnljohemifaaGreat
