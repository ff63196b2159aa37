/- Texts put behind each other. -/
import Derived.Test.YtjkkkibiegfecaaGreatDoorK98
import Derived.Test.YtjkkkibiegfecaaGreatDoorK1
import Derived.Test.YtjkkkibiegfecaaGreatDoorK12
import Derived.Test.YtjkkkibiegfecaaGreatDoorK21
import Derived.Test.YtjkkkibiegfecaaGreatDoorK22
import Derived.Test.YtjkkkibiegfecaaGreatDoorK25
import Derived.Test.YtjkkkibiegfecaaGreatDoorK26
set_option maxRecDepth 100000
set_option maxHeartbeats 8000000
set_option linter.unusedVariables false
set_option linter.unusedSimpArgs false
namespace Go.Proofs.YtjkkkibiegfecaaGreatDoor
open Go Go.Vc
section
variable {H H' H0 : Hp} {s : Nat} {S Sn : Nat → Prop} {w w' : Nw} {A : Ar} {q : Int}
theorem MO{t:TypeId}{vv:Value}{I:Hp→(Nat→Prop)→Nw→Prop}{B:QZ}{k d:Int}(n:tN (.iface t vv) I)(m:HU H B A)(ho:H.own s=some [i64 k,i64 d,ptr B.a,.iface t vv,u64 q])(d1:∀z,Sn z→¬B.S z∧z≠s)(d2:¬B.S s)(hS:∀z,S z↔Sn z∨B.S z∨z=s)
  (hn:bq I Sn H H' w')(hl:IN w' A):oM s S H H' w' A q:=by
 obtain⟨yC,hi',e1,iY⟩:=hn
 have EW:=m.slt
 have ZD:=aE ho
 refine⟨fun z=>yC z∨B.S z∨z=s,⟨t,vv,I,yC,B,k,d,n,hi',m.ext e1 (fun z hz h=>(d1 z h).1 hz),e1.own ho (fun h=>(d1 _ h).2 rfl),fun z hz=>?_,d2,fun z=>Iff.rfl,hl⟩,e1.mono fun z _ h=>(hS z).2 (.inl h),fun z hz=>?_⟩
 ·rcases iY z hz with h|h
  ·exact d1 z h
  ·exact⟨fun h2=>by have:=EW z h2;omega,by omega⟩
 ·have:=iY z
  grind
theorem IN.join(l:IN w A){a b:Int}(ha:w.has a)(hb:w.has b):IN (w.join a b) A:=
 ⟨by simp[Nw.join,l.len],fun x=>by rw[GV w (by have:=ha.1;omega) (by have:=hb.1;omega)];exact l.live x⟩
theorem IN.G2(l:IN w A){x:Int}(hx:A.live x):∃y,w.cs[x.toNat]? =some y∧y.1=aF w x∧y.2.1=w.key x∧y.2.2=w.seq x:=by
 obtain⟨h0,y,hy,_⟩:=(l.live x).2 hx
 refine⟨y,hy,(kX h0 hy).symm,?_,?_⟩<;>simp[Nw.key,Nw.seq,aon,hy]
theorem MP(h:nD H s S w A q)(g:Int):ag Tryz.prog Gg [ptr s,i64 g] H fun v H'=>ap (v=(if w.has g then .tuple [i64 (w.len g),i64 0].toArray else .tuple [i64 0,i64 171].toArray)∧oM s S H H' w A q):=by
 have hx:=oM.same h (ah.refl S H)
 obtain⟨t,vv,I,Sn,B,k,d,n,hi,m,ho,d1,d2,hS,qn⟩:=h
 refine aU Gu ?_
 refine v1 (ae ho) ?_
 refine(n.has g hi).mono ?_
 rintro _ _ ⟨rfl,rfl⟩
 by_cases hg:w.has g
 ·rw[aov hg,if_pos hg]
  refine v1 (ae ho) ?_
  refine(n.len g hi).mono ?_
  rintro _ _ ⟨rfl,rfl⟩
  refine vs ?_
  exact⟨rfl,hx⟩
 ·rw[aow hg,if_neg hg]
  refine vs ?_
  exact⟨rfl,hx⟩
theorem KK(h:nD H s S w A q)(a b:Int):ag Tryz.prog Ew [ptr s,i64 a,i64 b] H fun v H'=>ap (
  v=i64 (if¬ (w.has a∧w.has b)then 171 else if a=b then 174 else 0)∧oM s S H H' (if w.has a∧w.has b∧a≠b then w.join a b else w) A q):=by
 have hx:=oM.same h (ah.refl S H)
 obtain⟨t,vv,I,Sn,B,k,d,n,hi,m,ho,d1,d2,hS,qn⟩:=h
 refine aU EB ?_
 refine v1 (ae ho) ?_
 refine(n.has a hi).mono ?_
 rintro _ _ ⟨rfl,rfl⟩
 by_cases ha:w.has a
 ·rw[aov ha]
  refine v1 (ae ho) ?_
  refine(n.has b hi).mono ?_
  rintro _ _ ⟨rfl,rfl⟩
  by_cases hb:w.has b
  ·rw[aov hb,if_neg (fun h=>h ⟨ha,hb⟩)]
   refine vs ?_
   refine ar.dec (fun eJ=>?_) (fun eJ=>?_)<;>refine v1 (ae ho) ?_
   ·rw[if_pos eJ,if_neg (fun h=>h.2.2 eJ)]
    exact⟨rfl,hx⟩
   ·refine(n.yP a b hi).mono ?_
    rintro _ H1 (⟨bU,_⟩| ⟨_,rfl,hn⟩)
    ·exact absurd ⟨ha,hb,eJ⟩ bU
    refine vs ?_
    rw[if_neg eJ,if_pos ⟨ha,hb,eJ⟩]
    exact⟨rfl,MO n m ho d1 d2 hS hn (qn.join ha hb)⟩
  ·rw[aow hb,if_pos (fun h=>hb h.2),if_neg (fun h=>hb h.2.1)]
   refine vs ?_
   exact⟨rfl,hx⟩
 ·rw[aow ha,if_pos (fun h=>ha h.1),if_neg (fun h=>ha h.1)]
  refine vs ?_
  exact⟨rfl,hx⟩
theorem wR(h:nD H s S w A q)(f:ai H H'):oM s S H H' w A q:=oM.same (h.ext f (fun _ _ h=>h)) (f.mono fun _ _ h=>h.elim)
theorem Ae(f:ai H H0)(h:oM s S H0 H' w A q):oM s S H H' w A q:=JM (f.mono fun _ _ h=>h.elim) (fun z h=>.inl h) h
theorem aH{b:Nat}{l:List Value}(h:oM s S H H' w A q)(hb:H.own b=some l)(hn:¬S b):H'.own b=some l:=by
 obtain⟨S',h1,e,h2⟩:=h
 exact e.own hb hn
theorem G3{b:Nat}{l:List Value}(h:oM s S H0 H' w A q)(hb:¬S b)(yt:b<H0.size)(Ud:H.size≤b)(f:ai H H0):oM s S H (H'.wr b l) w A q:=by
 obtain⟨S',h1,e1,h2⟩:=Ae f h
 obtain⟨S2,h3,e2,h4⟩:=h
 have z:=f.size
 exact jQ (h3.tmp (fun h=>by rcases h4 b h with h|h;exact hb h;omega)) (wQ e1 Ud) (fun z hz=>(h4 z hz).imp_right fun h=>by omega)
theorem vU(h:nD H s S w A q){x:Int}{g:Nat}(hx:¬A.Ls x g):ag Tryz.prog qE [ptr s,jk x g] H fun v H'=>ap (v= .tuple [tE 0 0,i64 33].toArray∧oM s S H H' w A q):=by
 have bL:=h.slt
 have h9:=h
 obtain⟨t,vv,I,Sn,B,k,d,n,hi,m,ho,d1,d2,hS,qn⟩:=h
 refine Fz qR ⟨rfl,?_⟩
 refine v1 kR.eq_1 ?_
 have f0:ai H ((H.new 29 [i64 x,.int .u32 (g:Int)]).new 190 [Value.int .i64 0,Value.int .u64 0]):=((ah.refl _ _).new _ _).new _ _
 have b0:((H.new 29 [i64 x,.int .u32 (g:Int)]).new 190 [Value.int .i64 0,Value.int .u64 0]).own H.size=some [i64 x,.int .u32 (g:Int)]:=by
  rw[bm (by simp only[ak];omega),aA]
 have c0:((H.new 29 [i64 x,.int .u32 (g:Int)]).new 190 [Value.int .i64 0,Value.int .u64 0]).own (H.size+1)=some [Value.int .i64 0,Value.int .u64 0]:=aR (by simp only[ak])
 generalize (H.new 29 [i64 x,.int .u32 (g:Int)]).new 190 [Value.int .i64 0,Value.int .u64 0]=H0 at*
 have m0:=m.ext f0 (fun _ _ h=>h)
 have o0:=f0.own ho (fun h=>h)
 refine v2 (ae o0) (ae b0) ?_
 refine(iy m0 x g).mono ?_
 rintro _ H1 ⟨rfl,f1⟩
 rw[aow (show¬ (A.live x∧A.cB x=g)from hx)]
 have c1:=f1.own c0 (fun h=>h)
 refine v1 c1 ?_
 obtain⟨e4,b4⟩:=MN c1 [i64 0,u64 0]
 refine v1 (ae b4) ?_
 exact⟨rfl,G3 (wR (h9.ext f0 (fun _ _ h=>h)) f1) (fun h=>by have:=bL _ h;omega) (aE c0) (by omega) f0⟩
theorem KL(h:nD H s S w A q)(x:Int)(g:Nat):ag Tryz.prog Ex [ptr s,jk x g] H fun v H'=>ap (v=(if A.Ls x g then .tuple [i64 (aF w x),i64 0].toArray else .tuple [i64 0,i64 33].toArray)∧oM s S H H' w A q):=by
 have h9:=h
 obtain⟨t,vv,I,Sn,B,k,d,n,hi,m,ho,d1,d2,hS,qn⟩:=h
 refine aU EC ?_
 refine vs ?_
 have f0:ai H (H.new 29 [i64 x,.int .u32 (g:Int)]):=(ah.refl _ _).new _ _
 have b0:(H.new 29 [i64 x,.int .u32 (g:Int)]).own H.size=some [i64 x,.int .u32 (g:Int)]:=aA _ _ _
 generalize H.new 29 [i64 x,.int .u32 (g:Int)]=H0 at*
 have m0:=m.ext f0 (fun _ _ h=>h)
 have o0:=f0.own ho (fun h=>h)
 refine v2 (ae o0) (ae b0) ?_
 refine(iy m0 x g).mono ?_
 rintro _ H1 ⟨rfl,f1⟩
 have ft:=f0.trans f1
 by_cases hx:A.Ls x g
 ·rw[aov (show A.live x∧A.cB x=g from hx),if_pos hx]
  have o1:=f1.own o0 (fun h=>h)
  have b1:=f1.own b0 (fun h=>h)
  refine v2 (ae o1) (ae b1) ?_
  refine(n.home x (n.ext hi ft (fun _ _ h=>h))).mono ?_
  rintro _ H2 (⟨bU,_⟩| ⟨_,rfl,hn⟩)
  ·exact absurd ((qn.live x).2 hx.1) bU
  refine vs ?_
  exact⟨rfl,Ae ft (MO n (m.ext ft (fun _ _ h=>h)) o1 d1 d2 hS hn qn)⟩
 ·rw[aow (show¬ (A.live x∧A.cB x=g)from hx),if_neg hx]
  refine vs ?_
  exact⟨rfl,wR h9 ft⟩
theorem MQ(h:nD H s S w A q)(x:Int)(g:Nat):ag Tryz.prog Gh [ptr s,jk x g] H fun v H'=>ap (v=(if A.Ls x g then .tuple [i64 (w.key x),i64 0].toArray else .tuple [i64 0,i64 33].toArray)∧oM s S H H' w A q):=by
 have bL:=h.slt
 have qn:=h.RN.1
 refine aU Gv ?_
 refine vs ?_
 have f0:ai H (H.new 29 [i64 x,.int .u32 (g:Int)]):=(ah.refl _ _).new _ _
 have b0:(H.new 29 [i64 x,.int .u32 (g:Int)]).own H.size=some [i64 x,.int .u32 (g:Int)]:=aA _ _ _
 generalize H.new 29 [i64 x,.int .u32 (g:Int)]=H0 at*
 have h0:=h.ext f0 (fun _ _ h=>h)
 by_cases hx:A.Ls x g
 ·obtain⟨hl,rfl⟩:=id hx
  rw[if_pos hx]
  refine(lm h0 hl).mono ?_
  rintro _ H1 ⟨y,hy,rfl,h1⟩
  refine vs ?_
  obtain⟨f2,b2,z2⟩:=JL H1 190 [Value.int .i64 0,Value.int .u64 0] [i64 y.2.1,u64 y.2.2]
  generalize (H1.new 190 [Value.int .i64 0,Value.int .u64 0]).wr H1.size [i64 y.2.1,u64 y.2.2]=H2 at*
  refine v1 (ae b2) ?_
  obtain⟨y',nL,_,e2,_⟩:=qn.G2 hl
  rw[hy]at nL
  injection nL with nL
  subst nL
  rw[e2]
  obtain⟨S1,h1,e1,iY⟩:=h1
  exact⟨rfl,Ae f0 (jQ (h1.ext f2 (fun _ _ h=>h)) (e1.trans (f2.mono fun _ _ h=>h.elim)) iY)⟩
 ·rw[if_neg hx]
  refine(vU h0 hx).mono ?_
  rintro _ H1 ⟨rfl,S1,h1,e1,iY⟩
  refine vs ?_
  obtain⟨f2,b2,z2⟩:=JL H1 190 [Value.int .i64 0,Value.int .u64 0] [i64 0,u64 0]
  generalize (H1.new 190 [Value.int .i64 0,Value.int .u64 0]).wr H1.size [i64 0,u64 0]=H2 at*
  refine v1 (ae b2) ?_
  exact⟨rfl,Ae f0 (jQ (h1.ext f2 (fun _ _ h=>h)) (e1.trans (f2.mono fun _ _ h=>h.elim)) iY)⟩
theorem BY(h:nD H s S w A q){x:Int}{g:Nat}(hx:¬A.Ls x g)(key:Int):ag Tryz.prog jx [ptr s,jk x g,i64 key] H fun v H'=>ap (v=i64 33∧oM s S H H' w A q):=by
 refine aU jF ?_
 refine vs ?_
 have f0:ai H (H.new 29 [i64 x,.int .u32 (g:Int)]):=(ah.refl _ _).new _ _
 have b0:(H.new 29 [i64 x,.int .u32 (g:Int)]).own H.size=some [i64 x,.int .u32 (g:Int)]:=aA _ _ _
 generalize H.new 29 [i64 x,.int .u32 (g:Int)]=H0 at*
 refine(vU (h.ext f0 (fun _ _ h=>h)) hx).mono ?_
 rintro _ H1 ⟨rfl,S1,h1,e1,iY⟩
 refine vs ?_
 obtain⟨f2,b2,z2⟩:=JL H1 190 [Value.int .i64 0,Value.int .u64 0] [i64 0,u64 0]
 generalize (H1.new 190 [Value.int .i64 0,Value.int .u64 0]).wr H1.size [i64 0,u64 0]=H2 at*
 refine ar.dec (fun hh=>by omega) (fun _=>?_)
 refine vs ?_
 exact⟨rfl,Ae f0 (jQ (h1.ext f2 (fun _ _ h=>h)) (e1.trans (f2.mono fun _ _ h=>h.elim)) iY)⟩
theorem KM(h:nD H s S w A q){g:Int}(hg:¬w.has g)(key:Int):ag Tryz.prog pt [ptr s,i64 g,i64 key] H fun v H'=>ap (v= .tuple [jk 0 0,i64 171].toArray∧oM s S H H' w A q):=by
 have bL:=h.slt
 have h9:=h
 obtain⟨t,vv,I,Sn,B,k,d,n,hi,m,ho,d1,d2,hS,qn⟩:=h
 refine aU pA ?_
 refine vs ?_
 have f0:ai H (H.new 29 [Value.int .i64 0,Value.int .u32 0]):=(ah.refl _ _).new _ _
 have b0:(H.new 29 [Value.int .i64 0,Value.int .u32 0]).own H.size=some [Value.int .i64 0,Value.int .u32 0]:=aA _ _ _
 generalize H.new 29 [Value.int .i64 0,Value.int .u32 0]=H0 at*
 have o0:=f0.own ho (fun h=>h)
 refine v1 (ae o0) ?_
 refine(n.has g (n.ext hi f0 (fun _ _ h=>h))).mono ?_
 rintro _ _ ⟨rfl,rfl⟩
 rw[aow hg]
 refine v1 b0 ?_
 obtain⟨e4,b4⟩:=MN b0 [Value.int .i64 0,Value.int .u32 0]
 refine v1 (ae b4) ?_
 exact⟨rfl,G3 (wR (h9.ext f0 (fun _ _ h=>h)) (ah.refl _ _)) (fun h=>by have:=bL _ h;omega) (aE b0) (by omega) f0⟩
theorem MR(h:nD H s S w A q){g:Int}(hg:¬w.has g):ag Tryz.prog qD [ptr s,i64 g] H fun v H'=>ap (v= .tuple [jk 0 0,i64 171].toArray∧oM s S H H' w A q):=by
 have bL:=h.slt
 have h9:=h
 obtain⟨t,vv,I,Sn,B,k,d,n,hi,m,ho,d1,d2,hS,qn⟩:=h
 refine aU qQ ?_
 refine vs ?_
 have f0:ai H (H.new 29 [Value.int .i64 0,Value.int .u32 0]):=(ah.refl _ _).new _ _
 have b0:(H.new 29 [Value.int .i64 0,Value.int .u32 0]).own H.size=some [Value.int .i64 0,Value.int .u32 0]:=aA _ _ _
 generalize H.new 29 [Value.int .i64 0,Value.int .u32 0]=H0 at*
 have o0:=f0.own ho (fun h=>h)
 refine v1 (ae o0) ?_
 refine(n.has g (n.ext hi f0 (fun _ _ h=>h))).mono ?_
 rintro _ _ ⟨rfl,rfl⟩
 rw[aow hg]
 refine v1 b0 ?_
 obtain⟨e4,b4⟩:=MN b0 [Value.int .i64 0,Value.int .u32 0]
 refine v1 (ae b4) ?_
 exact⟨rfl,G3 (wR (h9.ext f0 (fun _ _ h=>h)) (ah.refl _ _)) (fun h=>by have:=bL _ h;omega) (aE b0) (by omega) f0⟩
theorem JN(h:nD H s S w A q){g:Int}(hg:¬w.has g):ag Tryz.prog uW [ptr s,i64 g] H fun v H'=>ap (v= .tuple [jk 0 0,i64 0,i64 171].toArray∧oM s S H H' w A q):=by
 have bL:=h.slt
 refine aU vq ?_
 refine vs ?_
 have f0:ai H (H.new 29 [Value.int .i64 0,Value.int .u32 0]):=(ah.refl _ _).new _ _
 have b0:(H.new 29 [Value.int .i64 0,Value.int .u32 0]).own H.size=some [Value.int .i64 0,Value.int .u32 0]:=aA _ _ _
 generalize H.new 29 [Value.int .i64 0,Value.int .u32 0]=H0 at*
 refine(MR (h.ext f0 (fun _ _ h=>h)) hg).mono ?_
 rintro _ H1 ⟨rfl,h1⟩
 have b1:=aH h1 b0 (fun h=>by have:=bL _ h;omega)
 refine vs ?_
 obtain⟨f2,b2,z2⟩:=JL H1 29 [Value.int .i64 0,Value.int .u32 0] [i64 0,Value.int .u32 ((0:Nat):Int)]
 generalize (H1.new 29 [Value.int .i64 0,Value.int .u32 0]).wr H1.size [i64 0,Value.int .u32 ((0:Nat):Int)]=H2 at*
 have b3:=f2.own b1 (fun h=>h)
 refine ar.dec (fun hh=>by omega) (fun _=>?_)
 refine v1 b3 ?_
 obtain⟨e4,b4⟩:=MN b3 [Value.int .i64 0,Value.int .u32 0]
 refine v1 (ae b4) ?_
 obtain⟨S1,h1,e1,iY⟩:=h1
 exact⟨rfl,G3 (jQ (h1.ext f2 (fun _ _ h=>h)) (e1.trans (f2.mono fun _ _ h=>h.elim)) iY) (fun h=>by have:=bL _ h;omega) (aE b0) (by omega) f0⟩
theorem Dw(h:nD H s S w A q){g:Int}(hg:¬w.has g):ag Tryz.prog kg [ptr s,i64 g] H fun v H'=>ap (v= .tuple [jk 0 0,i64 0,i64 171].toArray∧oM s S H H' w A q):=by
 have bL:=h.slt
 refine aU kD ?_
 refine vs ?_
 have f0:ai H (H.new 29 [Value.int .i64 0,Value.int .u32 0]):=(ah.refl _ _).new _ _
 have b0:(H.new 29 [Value.int .i64 0,Value.int .u32 0]).own H.size=some [Value.int .i64 0,Value.int .u32 0]:=aA _ _ _
 generalize H.new 29 [Value.int .i64 0,Value.int .u32 0]=H0 at*
 refine(JN (h.ext f0 (fun _ _ h=>h)) hg).mono ?_
 rintro _ H1 ⟨rfl,h1⟩
 have b1:=aH h1 b0 (fun h=>by have:=bL _ h;omega)
 refine vs ?_
 obtain⟨f2,b2,z2⟩:=JL H1 29 [Value.int .i64 0,Value.int .u32 0] [i64 0,Value.int .u32 ((0:Nat):Int)]
 generalize (H1.new 29 [Value.int .i64 0,Value.int .u32 0]).wr H1.size [i64 0,Value.int .u32 ((0:Nat):Int)]=H2 at*
 have b3:=f2.own b1 (fun h=>h)
 refine ar.dec (fun hh=>by omega) (fun _=>?_)
 refine v1 b3 ?_
 obtain⟨e4,b4⟩:=MN b3 [Value.int .i64 0,Value.int .u32 0]
 refine v1 (ae b4) ?_
 obtain⟨S1,h1,e1,iY⟩:=h1
 exact⟨rfl,G3 (jQ (h1.ext f2 (fun _ _ h=>h)) (e1.trans (f2.mono fun _ _ h=>h.elim)) iY) (fun h=>by have:=bL _ h;omega) (aE b0) (by omega) f0⟩
theorem SV{t:TypeId}{vv:Value}{I:Hp→(Nat→Prop)→Nw→Prop}{B:QZ}{k d x:Int}{H1 H2:Hp}{Lt:Option Nat}(n:tN (.iface t vv) I)(m:HU H B A)(ho:H.own s=some [i64 k,i64 d,ptr B.a,.iface t vv,u64 q])(d1:∀z,Sn z→¬B.S z∧z≠s)(d2:¬B.S s)(hS:∀z,S z↔Sn z∨B.S z∨z=s)(qn:IN w A)(hl:A.live x)
  (hn:bq I Sn H H1 (w.put x (0,0,0)))(m2:HU H2 ⟨B.a,B.sb,Lt⟩ (A.back x))(e2:ah B.S H1 H2)(ST:∀z,Lt=some z→B.fo=some z∨H1.size≤z):oM s S H H2 (w.put x (0,0,0)) (A.back x) q:=by
 obtain⟨yC,OG,e1,iY⟩:=hn
 have MM:∀z,B.S z→z<H.size:=m.slt
 have ZD:=aE ho
 have z1:=e1.size
 have z2:=e2.size
 have SU:=fun z hz=>n.slt OG z hz
 have hB':∀z,(QZ.mk B.a B.sb Lt).S z→B.S z∨H1.size≤z:=fun z hz=>by
  rcases hz with h|h|h
  ·exact .inl (.inl h)
  ·exact .inl (.inr (.inl h))
  ·exact(ST z h).imp_left fun h=>.inr (.inr h)
 refine⟨fun z=>yC z∨(QZ.mk B.a B.sb Lt).S z∨z=s,⟨t,vv,I,yC,⟨B.a,B.sb,Lt⟩,k,d,n,n.ext OG e2 (fun z hz hb=>?_),m2,e2.own (e1.own ho (fun h=>(d1 _ h).2 rfl)) d2,fun z hz=>?_,fun h=>?_,fun z=>Iff.rfl,qn.put (Ar.rT hl) rfl⟩,?_,fun z hz=>?_⟩
 ·rcases iY z hz with h|h
  ·exact(d1 z h).1 hb
  ·have:=MM z hb;omega
 ·have h5:=SU z hz
  rcases iY z hz with h|h
  ·refine⟨fun hb=>?_,(d1 z h).2⟩
   rcases hB' z hb with h2|h2
   ·exact(d1 z h).1 h2
   ·omega
  ·refine⟨fun hb=>?_,by omega⟩
   rcases hB' z hb with h2|h2
   ·have:=MM z h2;omega
   ·omega
 ·rcases hB' _ h with h2|h2
  ·exact d2 h2
  ·omega
 ·exact⟨by omega,fun z hz hn=>by rw[e2.aO z (by omega) (fun h=>hn ((hS z).2 (.inr (.inl h)))),e1.aO z hz (fun h=>hn ((hS z).2 (.inl h)))]⟩
 ·rcases hz with h|h|h
  ·exact(iY z h).imp_left fun h=>(hS z).2 (.inl h)
  ·rcases hB' z h with h|h
   ·exact .inl ((hS z).2 (.inr (.inl h)))
   ·exact .inr (by omega)
  ·exact .inl ((hS z).2 (.inr (.inr h)))
theorem G4(h:nD H s S w A q)(x:Int)(g:Nat):ag Tryz.prog AZ [ptr s,jk x g] H fun v H'=>ap (
  (¬A.Ls x g∧v= .tuple [i64 0,i64 33].toArray∧oM s S H H' w A q)∨(A.Ls x g∧v= .tuple [i64 (w.key x),i64 0].toArray∧oM s S H H' (w.put x (0,0,0)) (A.back x) q)):=by
 have bL:=h.slt
 have qn:=h.RN.1
 refine aU Bv ?_
 refine vs ?_
 have f0:ai H (H.new 29 [i64 x,.int .u32 (g:Int)]):=(ah.refl _ _).new _ _
 have b0:(H.new 29 [i64 x,.int .u32 (g:Int)]).own H.size=some [i64 x,.int .u32 (g:Int)]:=aA _ _ _
 generalize H.new 29 [i64 x,.int .u32 (g:Int)]=H0 at*
 have h0:=h.ext f0 (fun _ _ h=>h)
 by_cases hx:A.Ls x g
 ·obtain⟨hl,rfl⟩:=id hx
  refine(lm h0 hl).mono ?_
  rintro _ H1 ⟨y,hy,rfl,h1⟩
  have b1:=aH h1 b0 (fun h=>by have:=bL _ h;omega)
  obtain⟨S1,h1,e1,iY⟩:=h1
  have SU:=h1.slt
  have z1:=e1.size
  have n1:¬S1 H.size:=fun h=>by rcases iY _ h with h|h;have:=bL _ h;omega;have:=aE b0;omega
  refine vs ?_
  obtain⟨f2,b2,z2⟩:=JL H1 190 [Value.int .i64 0,Value.int .u64 0] [i64 y.2.1,u64 y.2.2]
  have n2:¬S1 H1.size:=fun h=>by have:=SU _ h;omega
  generalize Nj:H1.size=cc at*
  generalize (H1.new 190 [Value.int .i64 0,Value.int .u64 0]).wr cc [i64 y.2.1,u64 y.2.2]=H2 at*
  have b3:=f2.own b1 (fun h=>h)
  have h2:=h1.ext f2 (fun _ _ h=>h)
  refine ar.dec (fun _=>?_) (fun hh=>absurd trivial hh)
  obtain⟨t,vv,I,Sn,B,k,d,n,hi,m,ho,d1,d2,hS,qn⟩:=h2
  refine v2 (ae ho) (ae b3) ?_
  refine(n.delete x hi).mono ?_
  rintro _ H3 (⟨bU,_⟩| ⟨_,rfl,hn⟩)
  ·exact absurd ((qn.live x).2 hl) bU
  obtain⟨yC,PQ,e3,No⟩:=id hn
  have XH:=e3.own ho (fun h=>(d1 _ h).2 rfl)
  have b4:=e3.own b3 (fun h=>n1 ((hS _).2 (.inl h)))
  have c4:=e3.own b2 (fun h=>n2 ((hS _).2 (.inl h)))
  refine v2 (ae XH) (ae b4) ?_
  refine(tM (m.ext e3 (fun z hz h=>(d1 z h).1 hz)) hl).mono ?_
  rintro _ H4 ⟨rfl,Lt,m4,e4,ST⟩
  have c5:=e4.own c4 (fun h=>n2 ((hS _).2 (.inr (.inl h))))
  refine v1 (ae c5) ?_
  obtain⟨y',nL,_,e5,_⟩:=qn.G2 hl
  rw[hy]at nL
  injection nL with nL
  subst nL
  rw[e5]
  have hg:=SV n m ho d1 d2 hS qn hl hn m4 e4 ST
  exact .inr ⟨hx,rfl,Ae f0 (JM (e1.trans (f2.mono fun _ _ h=>h.elim)) iY hg)⟩
 ·refine(vU h0 hx).mono ?_
  rintro _ H1 ⟨rfl,S1,h1,e1,iY⟩
  refine vs ?_
  obtain⟨f2,b2,z2⟩:=JL H1 190 [Value.int .i64 0,Value.int .u64 0] [i64 0,u64 0]
  generalize (H1.new 190 [Value.int .i64 0,Value.int .u64 0]).wr H1.size [i64 0,u64 0]=H2 at*
  refine ar.dec (fun hh=>by omega) (fun _=>?_)
  refine vs ?_
  exact .inl ⟨hx,rfl,Ae f0 (jQ (h1.ext f2 (fun _ _ h=>h)) (e1.trans (f2.mono fun _ _ h=>h.elim)) iY)⟩
end
end Go.Proofs.YtjkkkibiegfecaaGreatDoor

namespace Go.Proofs.YtjkkkibiegfecaaGreatDoor
open Go Go.Vc
theorem SW{w:Nw}{g x:Int}(h:w.HW g=some x):w.first g x:=by
 unfold Nw.HW at h
 split at h
 ·rename_i hx
  injection h with h
  rw[←h]
  exact Classical.choose_spec hx
 ·cases h
theorem JG.cells{H:Hp}{ha ca:Option Addr}{hc cc n m:Nat}{w:Nw}{B:Nat→Prop}(h:JG H (.agg [.slice ha n hc,.slice ca m cc].toArray) w B):m=w.cs.length∧fh H 3 (.slice ca w.cs.length cc) w.cs.length (cw w.cs)∧∀x,ca=some x→B x.block:=by
 obtain⟨ha',Ni,ca',Uh,e,_,r2,_,_,_,r6⟩:=h
 injection e with e
 have e:=aoo Array.toList e
 simp at e
 obtain⟨⟨rfl,rfl,rfl⟩,rfl,rfl,rfl⟩:=e
 exact⟨rfl,r2,r6⟩
def StO(H:Hp)(l:List Value)(t:kY)(Bs:Nat→Prop)(N:Nat):Prop:=
 ∃ta tc ga gc ha hc ca cc T G,l=[i64 t.A.g.length,.int .u32 (t.A.mo:Int),.slice ta (T:List (Int×Nat)).length tc,.slice ga (G:List (Int×Nat)).length gc,.slice ha t.w.hs.length hc,.slice ca t.w.cs.length cc,u64 t.q]∧
  ArV H [i64 t.A.g.length,.int .u32 (t.A.mo:Int),.slice ta T.length tc,.slice ga G.length gc] t.A T G Bs N∧JG H (.agg [.slice ha t.w.hs.length hc,.slice ca t.w.cs.length cc].toArray) t.w Bs∧IN t.w t.A∧(∀b,Bs b→b<H.size)
section
variable {H : Hp} {l : List Value} {t : kY} {Bs : Nat → Prop} {N : Nat}
theorem StO.mono{B2:Nat→Prop}(h:StO H l t Bs N)(hb:∀b,Bs b→B2 b)(yt:∀b,B2 b→b<H.size):StO H l t B2 N:=by
 obtain⟨ta,tc,ga,gc,ha,hc,ca,cc,T,G,rfl,q1,q2,q3,q4⟩:=h
 exact⟨ta,tc,ga,gc,ha,hc,ca,cc,T,G,rfl,q1.mono hb,q2.mono hb,q3,yt⟩
end
end Go.Proofs.YtjkkkibiegfecaaGreatDoor

namespace Go.Proofs.YtjkkkibiegfecaaGreatDoor
open Go Go.Vc
abbrev IQ(kd dd:Int):Value:=.agg [i64 kd,i64 dd].toArray
def pH(kd dd:Int):Prop:=(1≤kd∧kd≤8)∧((kd=2∧2≤dd∧dd≤16)∨(kd≠2∧dd=0))
instance(kd dd:Int):Decidable (pH kd dd):=by unfold pH;exact inferInstance
def PR(kd dd:Int):Int:=if kd<1∨8<kd then 21 else if pH kd dd then 0 else 22
theorem SX{kd dd:Int}(h:kd<1∨8<kd):PR kd dd=21:=by unfold PR;omega
theorem SY{kd dd:Int}(h:pH kd dd):PR kd dd=0:=by
 have:=h.1
 unfold PR
 grind
theorem SZ{kd dd:Int}(h1:¬ (kd<1∨8<kd))(h:¬pH kd dd):PR kd dd=22:=by unfold PR;grind
theorem MS{kd dd:Int}:PR kd dd=0↔pH kd dd:=by
 grind [SX,SZ,SY]
theorem oO(kd dd:Int)(H:Hp):ag Tryz.prog Ij [IQ kd dd] H fun v H'=>ap (v=i64 (PR kd dd)∧ai H H'):=by
 refine aU Iz ?_
 refine vs ?_
 have f0:ai H (H.new 23 [i64 kd,i64 dd]):=(ah.refl _ _).new _ _
 repeat' (refine ar.dec (fun _=>?_) (fun _=>?_)<;>try(refine v1 aoE ?_))
 all_goals
  first
   | (exfalso;omega)
   | (refine⟨?_,f0⟩;exact(aoo i64 (SX (by omega))).symm)
   | (refine⟨?_,f0⟩;exact(aoo i64 (SY (by unfold pH;omega))).symm)
   | (refine⟨?_,f0⟩;exact(aoo i64 (SZ (by omega) (by unfold pH;omega))).symm)
theorem vV(kd dd:Int)(H:Hp):ag Tryz.prog Ih [IQ kd dd] H fun v H'=>ap (v=i64 (PR kd dd)∧ai H H'):=by
 refine aU Ix ?_
 refine vs ?_
 have f0:ai H (H.new 23 [i64 kd,i64 dd]):=(ah.refl _ _).new _ _
 repeat' (refine ar.dec (fun _=>?_) (fun _=>?_)<;>try(refine v1 aoE ?_))
 all_goals
  first
   | (exfalso;omega)
   | (refine⟨?_,f0⟩;exact(aoo i64 (SX (by omega))).symm)
   | (refine⟨?_,f0⟩;exact(aoo i64 (SY (by unfold pH;omega))).symm)
   | (refine⟨?_,f0⟩;exact(aoo i64 (SZ (by omega) (by unfold pH;omega))).symm)
theorem pI{kd dd:Int}(hf:pH kd dd)(hk:kd=1∨kd=2)(H:Hp):ag Tryz.prog Im [IQ kd dd] H fun v H'=>ap (v=i64 (if kd=1 then 2 else dd)∧ai H H'):=by
 refine aU IB ?_
 refine vs ?_
 have f0:ai H (H.new 23 [i64 kd,i64 dd]):=(ah.refl _ _).new _ _
 have o0:(H.new 23 [i64 kd,i64 dd]).own H.size=some [i64 kd,i64 dd]:=aA _ _ _
 generalize H.new 23 [i64 kd,i64 dd]=H0 at*
 refine(oO kd dd H0).mono ?_
 rintro _ H1 ⟨rfl,f1⟩
 have o1:=f1.own o0 (fun h=>h)
 rw[SY hf]
 refine v2 (ae o1) aoE ?_
 rcases hk with rfl|rfl
 ·refine ar.dl (by decide) ?_
  refine v2 (ae o1) aoE ?_
  exact⟨rfl,f0.trans f1⟩
 ·refine ar.be (by decide) ?_
  refine v2 (ae o1) aoE ?_
  exact⟨rfl,f0.trans f1⟩
structure S0(w:Nw)(L:List Lk)(tops:List Int):Prop where
 bt:wF (aF w) (aP w) (bh L) (br L) (aM tops)
 tl:tops.length=w.hs.length
def dw(n:Nat)(H:Hp)(S:Nat→Prop)(w:Nw):Prop:=∃ (B:LB) (C:Nat→Prop) (L:List Lk) (rs tops:List Int),B.n=n∧de H B C w L rs tops∧S0 w L tops∧∀z,S z↔B.S C z
theorem dw.slt{n:Nat}{H:Hp}{S:Nat→Prop}{w:Nw}(h:dw n H S w):∀z,S z→z<H.size:=by
 obtain⟨B,C,L,rs,tops,rfl,m,l,hS⟩:=h
 exact fun z hz=>m.slt z ((hS z).1 hz)
theorem dw.ext{n:Nat}{H H':Hp}{S T:Nat→Prop}{w:Nw}(h:dw n H S w)(e:ah T H H')(hd:∀z,S z→¬T z):dw n H' S w:=by
 obtain⟨B,C,L,rs,tops,rfl,m,l,hS⟩:=h
 exact⟨B,C,L,rs,tops,rfl,m.ext e (by grind),l,hS⟩
theorem yb{n:Nat}{H:Hp}{S:Nat→Prop}{w:Nw}(h:dw n H S w)(g x k s:Int):ag Tryz.prog kC [ptr n,i64 g,i64 x,tE k s] H fun v H'=>ap (
  (¬w.mw g x∧v= .bool false∧bq (dw n) S H H' w)∨(w.mw g x∧v= .bool true∧bq (dw n) S H H' (w.put x (g,k,s)))):=by
 obtain⟨B,C,L,rs,tops,rfl,m,l,hS⟩:=h
 refine Fz um ⟨rfl,?_⟩
 refine v1 kN.eq_1 ?_
 have f0:ai H (H.new 190 [i64 k,u64 s]):=(ah.refl _ _).new _ _
 have b0:(H.new 190 [i64 k,u64 s]).own H.size=some [i64 k,u64 s]:=aA _ _ _
 have m0:=m.fresh f0
 generalize H.new 190 [i64 k,u64 s]=H0 at*
 obtain⟨tv,KN,_⟩:=m0.own
 refine v2 (ae KN) (ae b0) ?_
 refine(lY m0.cells g x k s).mono ?_
 rintro _ H1 (⟨bU,rfl,c1,e1⟩| ⟨fX,rfl,c1,e1⟩)
 ·refine vs ?_
  exact .inl ⟨bU,rfl,bq.same ⟨B,C,L,rs,tops,rfl,m0.aC c1 e1 rfl,l,hS⟩ ((f0.mono fun _ _ h=>h.elim).trans (e1.mono fun z _ hz=>(hS z).2 (.inl hz)))⟩
 obtain⟨hh,hx,ci⟩:=id fX
 have m1:=m0.aC c1 e1 (by simp[Nw.put])
 have bu:=m1.len
 have rS:(w.put x (g,k,s)).cs.length=w.cs.length:=by simp[Nw.put]
 obtain⟨Dt,o1,_⟩:=m1.own
 refine v1 (ae o1) ?_
 refine⟨by omega,?_⟩
 refine v3 m1.Ds aoi aok ?_
 refine⟨by grind,?_⟩
 refine vs ?_
 obtain⟨m2,e2⟩:de (H1.wr B.rk ((rs.map i64).set x.toNat (Value.int .i64 1))) B C _ L (rs.set x.toNat 1) tops∧ah (fun z=>z=B.rk) H1 (H1.wr B.rk ((rs.map i64).set x.toNat (Value.int .i64 1))):=m1.OQ x.toNat 1
 generalize H1.wr B.rk ((rs.map i64).set x.toNat (Value.int .i64 1))=H2 at*
 obtain⟨cc,lt,o2,q2,AA,yO,KO⟩:=m2.dZ
 refine fV.intro (fun H'=>H'.own B.n=some [ptr B.c,ptr B.t,.slice (some ⟨B.rk,0,none⟩) (rs.set x.toNat 1).length (rs.set x.toNat 1).length,.slice (some ⟨B.tp,0,none⟩) tops.length cc]) o2 ?_
 refine vs ?_
 refine dV.intro (.slice (some ⟨B.tp,0,none⟩) tops.length cc) (fun H' hI=>by refine v1 (ae hI) ?_;trivial) ?_
 refine v1 (ae o2) ?_
 have hg:=hh.1
 have eC:g<tops.length:=by
  have:=(aoj.1 hh.2).1
  have:=l.tl
  omega
 have q3:=m2.cT q2 (cf (tops:=tops) (h:=g) (by omega) eC)
 have jh:=fun y=>dR hx (g,k,s) y
 have bo:Ux (aF (w.put x (g,k,s))) (aP (w.put x (g,k,s))) (bh L) (br L) (aM tops) g x:=by
  refine l.bt.ins rfl (Int.not_lt.1 fun h=>ci (bB.1 h)) (by omega) (by omega) (by grind) (by grind) (fun a b ha hb uv lq=>dt hx _ ha hb uv lq)
 refine And.intro o2 ?_
 refine vs ?_
 refine⟨⟨by omega,by omega⟩,?_⟩
 refine v4 (ae q2) aoi aok q3 ?_
 refine And.intro o2 ?_
 refine vs ?_
 refine(fk m2 bo.mg).mono ?_
 rintro _ H3 ⟨r,L3,rs3,rfl,m3,g3,_,e3⟩
 have bn:=bo.done g3
 obtain⟨d1,d2,d3,d4⟩:=m2.mY.1
 have no:¬ (C B.n∨B.n=B.tl∨B.n=B.rk):=by rintro(h|h|h);exact m2.out.1 h;omega;omega
 refine And.intro (e3.own o2 no) ?_
 have q4:=e3.own q2 (by cases m2;grind)
 refine vs ?_
 refine⟨by omega,?_⟩
 refine v3 q4 aoi aok ?_
 refine⟨by omega,?_⟩
 obtain⟨m4,e4⟩:=m3.fR q4 g.toNat r
 refine And.intro (e4.own (e3.own o2 no) d4) ?_
 refine vs ?_
 refine .inr ⟨fX,rfl,B.S C,⟨B,C,L3,rs3,_,rfl,m4,⟨?_,by rw[aom];exact l.tl⟩,fun z=>Iff.rfl⟩,?_,by grind⟩
 ·grind [cX]
 ·have hC:∀z,C z→S z:=fun z h=>(hS z).2 (.inl h)
  have h1:S B.tl:=(hS _).2 (.inr (by omega))
  have h2:S B.rk:=(hS _).2 (.inr (by omega))
  have h3:S B.tp:=(hS _).2 (.inr (by omega))
  exact(((((f0.mono fun _ _ h=>h.elim).trans (e1.mono fun z _ h=>hC z h)).trans (e2.mono (by grind))).trans (e3.mono (by grind))).trans (e4.mono (by grind)))
theorem wF.none{hm:Int→Int}{lt:Int→Int→Bool}{K:Int→Bool→Int}{U T:Int→Int}(h0:hm (-1)=0)(hh:∀x,¬0<hm x)(hk:∀x c,K x c= -1)(hu:∀x,U x= -1)(ht:∀g,T g= -1):wF hm lt K U T:=
 ⟨⟨h0,by grind,by grind,fun p _=>hk p _⟩,by grind,by grind⟩
theorem BZ(n:Nat)(x:Int)(c:Bool):bh (List.replicate n k8) x c= -1:=by
 grind [k8,bh,Lk.uM]
theorem G5(n:Nat)(x:Int):br (List.replicate n k8) x= -1:=by
 by_cases h:0≤x∧x< (List.replicate n k8).length
 ·have h2:=h.2
  rw[ao5]at h2
  rw[vP (y:=k8) h.1 (by grind)]
  rfl
 ·exact OO h
def yd(cap:Int):Nw:=⟨[false],List.replicate cap.toNat (0,0,0)⟩
theorem oP(cap:Int)(x:Int):¬0<aF (yd cap) x:=by
 intro h
 obtain⟨h1,h2,e,he⟩:=aG h
 have h3:(List.replicate cap.toNat ((0,0,0):Ce))[x.toNat]? =some (aF (yd cap) x,e):=he
 grind
theorem Dx(g:Int):aM [-1] g= -1:=by
 grind [aM]
theorem G6(k:Nat):dE [Value.int .i64 0] k=(List.replicate k (0:Int)).map i64:=by
 induction k with
 |zero=>rfl
 |succ k ih=>simp only[dE,ao2,aps,apd]at*;grind
theorem Dy(cap:Int)(H:Hp):ag Tryz.prog Ip [i64 cap] H fun v H'=>ap (
  ai H H'∧((¬ (0≤cap∧cap≤65536)∧v= .tuple [.pointer none,i64 31].toArray)∨
   ((0≤cap∧cap≤65536)∧∃n S,v= .tuple [ptr n,i64 0].toArray∧dw n H' S (yd cap)∧∀x,S x→H.size≤x))):=by
 refine aU ID ?_
 refine vs ?_
 refine(lZ cap H).mono ?_
 rintro _ H1 ⟨f1,⟨hb,rfl⟩| ⟨hb,c,C,rfl,c1,hC⟩⟩
 ·refine vs ?_
  exact⟨f1,.inl ⟨hb,rfl⟩⟩
 refine v1 aoE ?_
 refine(vQ H1 hb).mono ?_
 rintro _ H2 ⟨t,tl,rfl,t2,f2,ht,Np⟩
 refine vs ?_
 refine⟨by omega,?_⟩
 refine vs ?_
 rw[G6]
 have GF:=c1.slt
 have z1:=f1.size
 have z2:=f2.size
 have yR:=aE t2.own
 have abv:=aE t2.l9
 have f3:ai H2 (((H2.new 3 ((List.replicate cap.toNat (0:Int)).map i64)).new 3 [Value.int .i64 (-1)]).new 235 [ptr c,ptr t,.slice (some ⟨H2.size,0,none⟩) cap.toNat cap.toNat,.slice (some ⟨H2.size+1,0,none⟩) 1 1]):=(((ah.refl _ _).new _ _).new _ _).new _ _
 have e1:ah (fun _=>False) (H2.new 3 ((List.replicate cap.toNat (0:Int)).map i64)) (((H2.new 3 ((List.replicate cap.toNat (0:Int)).map i64)).new 3 [Value.int .i64 (-1)]).new 235 [ptr c,ptr t,.slice (some ⟨H2.size,0,none⟩) cap.toNat cap.toNat,.slice (some ⟨H2.size+1,0,none⟩) 1 1]):=((ah.refl _ _).new _ _).new _ _
 have e2:ah (fun _=>False) ((H2.new 3 ((List.replicate cap.toNat (0:Int)).map i64)).new 3 [Value.int .i64 (-1)]) (((H2.new 3 ((List.replicate cap.toNat (0:Int)).map i64)).new 3 [Value.int .i64 (-1)]).new 235 [ptr c,ptr t,.slice (some ⟨H2.size,0,none⟩) cap.toNat cap.toNat,.slice (some ⟨H2.size+1,0,none⟩) 1 1]):=(ah.refl _ _).new _ _
 have ft:=f1.trans (f2.trans f3)
 refine⟨ft,.inr ⟨hb,H2.size+1+1,(LB.mk (H2.size+1+1) c t tl H2.size (H2.size+1)).S C,rfl,⟨⟨H2.size+1+1,c,t,tl,H2.size,H2.size+1⟩,C,_,List.replicate cap.toNat 0,[-1],rfl,
  ⟨⟨.slice (some ⟨H2.size+1,0,none⟩) 1 1,?_,?_⟩,c1.fresh (f2.trans f3),t2.fresh f3,?_,?_,?_,?_⟩,⟨wF.none rfl (oP cap) (BZ _) (G5 _) Dx,rfl⟩,fun z=>Iff.rfl⟩,fun z hz=>?_⟩⟩
 ·grind [aR,ak]
 ·exact(Sl.dM (size:=1) (n:=1) (xs:=[i64 (-1)]) rfl (by simp only[ak])).ext e2 (fun _ _ h=>h)
 ·exact e1.own (aA _ _ _) (fun h=>h)
 ·simp[yd]
 ·cases t2;grind
 ·grind
 ·rcases hz with hz|rfl|rfl|rfl|rfl|rfl
  ·grind
  all_goals grind
theorem B0{n:Nat}{H:Hp}{S:Nat→Prop}{w:Nw}(h:dw n H S w):ag Tryz.prog mN [ptr n] H fun v H'=>ap (
  (w.hs.length=65537∧v=i64 0∧bq (dw n) S H H' w)∨(w.hs.length≠65537∧v=i64 w.hs.length∧bq (dw n) S H H' w.make)):=by
 obtain⟨B,C,L,rs,tops,rfl,m,l,hS⟩:=id h
 obtain⟨tv,ho,EW⟩:=m.own
 refine aU xQ ?_
 refine v1 (ae ho) ?_
 refine(jM m.cells).mono ?_
 rintro _ H1 (⟨h1,rfl,rfl⟩| ⟨h1,rfl,C',c1,e1,Q2⟩)
 ·refine vs ?_
  exact .inl ⟨h1,rfl,bq.same h (ah.refl _ _)⟩
 have gI:=m.cells.pos
 have hhs:=m.cells.EW
 have Np:=l.tl
 have slt:=m.slt
 have XI:=c1.slt
 obtain⟨n1,n2,n3,n4,n5⟩:=m.out
 obtain⟨⟨d1,d2,d3,d4⟩,⟨d5,d6,d7⟩,⟨d8,d9⟩,d10⟩:=m.mY
 have o1:=e1.own ho n1
 refine vs ?_
 refine ar.dl (by grind) ?_
 refine v1 (ae o1) ?_
 have s1:=EW.ext e1 (by grind)
 refine SE s1 (-1) (by omega) fun w' H2 b' AD s2 e2=>?_
 have o2:=e2.own o1 d4
 obtain⟨wa,wc,JE⟩:=Sl.shape s2
 subst JE
 refine v1 o2 ?_
 generalize JE:Value.slice wa (tops++[-1]).length wc=w' at*
 have e3:ah (fun z=>z=B.n) H2 (H2.wr B.n [ptr B.c,ptr B.t,.slice (some ⟨B.rk,0,none⟩) rs.length rs.length,w']):=(ah.refl (fun z=>z=B.n) _).wr (fun _=>rfl) _
 have z1:=e1.size
 have sl:∀z,z=B.n∨z=B.t∨z=B.tl∨z=B.rk∨z=B.tp→z<H.size:=fun z hz=>slt z (.inr hz)
 have hn:=sl _ (.inl rfl)
 have ht:=sl _ (.inr (.inl rfl))
 have abv:=sl _ (.inr (.inr (.inl rfl)))
 have hrk:=sl _ (.inr (.inr (.inr (.inl rfl))))
 have ZF:=sl _ (.inr (.inr (.inr (.inr rfl))))
 have hC1:∀z,C' z→z≠b'∧(z<H.size→C z):=by grind
 refine .inr ⟨h1,rfl,(LB.mk B.n B.c B.t B.tl B.rk b').S C',⟨⟨B.n,B.c,B.t,B.tl,B.rk,b'⟩,C',L,rs,tops++[-1],rfl,⟨⟨w',af o2,s2.ext e3 (by grind)⟩,?_,?_,?_,m.len,?_,?_⟩,⟨by rw[BU];exact l.bt,?_⟩,fun z=>Iff.rfl⟩,?_,fun z hz=>?_⟩
 ·exact(c1.ext e2 (by grind)).ext e3 (by grind)
 ·exact((m.ck.ext e1 n2 n3).ext e2 d7 d9).ext e3 (Ne.symm d1) (Ne.symm d2)
 ·exact e3.own (e2.own (e1.own m.Ds n4) d10) (Ne.symm d3)
 ·grind
 ·grind
 ·simp[Nw.make,Np]
 ·exact((e1.mono fun z _ h=>(hS z).2 (.inl h)).trans (e2.mono fun z _ h=>(hS z).2 (.inr (by omega)))).trans (e3.mono fun z _ h=>(hS z).2 (.inr (.inl h)))
 ·rcases hz with hz|rfl|rfl|rfl|rfl|rfl
  ·rcases Q2 z hz with h6|h6
   ·exact .inl ((hS z).2 (.inl h6))
   omega
  ·exact .inl ((hS _).2 (.inr (.inl rfl)))
  ·exact .inl ((hS _).2 (.inr (.inr (.inl rfl))))
  ·exact .inl ((hS _).2 (.inr (by grind)))
  ·exact .inl ((hS _).2 (.inr (by grind)))
  ·rcases AD with rfl|h7
   ·exact .inl ((hS _).2 (.inr (by omega)))
   omega
theorem S0.first{w:Nw}{L:List Lk}{tops:List Int}(l:S0 w L tops){g x:Int}(h:w.first g x):aM tops g=x:=by
 obtain⟨h1,h2,h3⟩:=bD.1 h
 have:=l.bt.first (x:=x) (by omega) (by grind) (aw w)
 grind
theorem rG{n:Nat}{H:Hp}{S:Nat→Prop}{w:Nw}(h:dw n H S w)(g:Int):ag Tryz.prog nZ [ptr n,i64 g] H fun v H'=>ap (
  ((w.len g=0∧v= .tuple [i64 0,.bool false].toArray)∨∃x,w.first g x∧v= .tuple [i64 x,.bool true].toArray)∧H'=H):=by
 obtain⟨B,C,L,rs,tops,rfl,m,l,hS⟩:=h
 obtain⟨cc,lt,ho,q2,AA,yO,KO⟩:=m.dZ
 refine aU zR ?_
 refine v1 (ae ho) ?_
 refine(fe m.cells g).mono ?_
 rintro _ _ ⟨rfl,rfl⟩
 refine vs ?_
 refine ar.dec (fun h0=>?_) (fun h0=>?_)
 ·refine vs ?_
  exact⟨.inl ⟨h0,rfl⟩,rfl⟩
 have hg:0<g:=aoA fun hg=>h0 (Nw.Aa.2 (.inl (by omega)))
 obtain⟨x,hx⟩:=vO hg h0
 have hh:=(bD.1 hx).2.1
 have eC:=((m.cells.hm x).2 (by omega)).2
 rw[hh,←l.tl]at eC
 have q3:=m.cT q2 (cf (tops:=tops) (h:=g) (by omega) eC)
 rw[l.first hx]at q3
 refine v1 (ae ho) ?_
 refine⟨by omega,?_⟩
 refine v4 (ae q2) aoi aok q3 ?_
 exact⟨.inr ⟨x,hx,rfl⟩,rfl⟩
theorem uw{n:Nat}{H:Hp}{S:Nat→Prop}{w:Nw}(h:dw n H S w)(x k s:Int):ag Tryz.prog iV [ptr n,i64 x,tE k s] H fun v H'=>ap (
  (¬w.du x k s∧v= .bool false∧bq (dw n) S H H' w)∨(w.du x k s∧v= .bool true∧∃y,w.cs[x.toNat]? =some y∧bq (dw n) S H H' (w.put x (y.1,k,s)))):=by
 obtain⟨B,C,L,rs,tops,rfl,m,l,hS⟩:=h
 refine Fz qY ⟨rfl,?_⟩
 refine v1 iX.eq_1 ?_
 have f0:ai H (H.new 190 [i64 k,u64 s]):=(ah.refl _ _).new _ _
 have b0:(H.new 190 [i64 k,u64 s]).own H.size=some [i64 k,u64 s]:=aA _ _ _
 have m0:=m.fresh f0
 generalize H.new 190 [i64 k,u64 s]=H0 at*
 obtain⟨tv,KN,_⟩:=m0.own
 refine v2 (ae KN) (ae b0) ?_
 refine(ie m0.cells x k s).mono ?_
 have hC:∀z,C z→S z:=fun z h=>(hS z).2 (.inl h)
 have ff:ah S H H0:=f0.mono fun _ _ h=>h.elim
 rintro _ H1 (⟨bU,rfl,c1,e1⟩| ⟨ci,rfl,y,hy,jI,c1,e1⟩)
 ·refine vs ?_
  exact .inl ⟨bU,rfl,bq.same ⟨B,C,L,rs,tops,rfl,m0.ext e1 (fun _ _ h=>h),l,hS⟩ (ff.trans (e1.mono fun _ _ h=>h.elim))⟩
 have rS:(w.put x (y.1,k,s)).cs.length=w.cs.length:=by simp[Nw.put]
 have m1:=m0.aC c1 e1 rS
 have B1:w.du x k s:=⟨ci,by grind⟩
 have hx:0≤x∧x<w.cs.length:=⟨ci.1,by grind⟩
 have Xp:aF w x=y.1:=kX ci.1 hy
 have gE:=bB.2 ci
 have hw:aF (w.put x (y.1,k,s))=aF w:=by
  funext z
  rw[dR hx]
  split
  ·grind
  ·rfl
 have E3:cI (w.put x (y.1,k,s)).cs x:=bB.1 (by simp_all)
 obtain⟨Dt,o1,_⟩:=m1.own
 refine v1 (ae o1) ?_
 refine(bI m1.cells x).mono ?_
 rintro _ H2 (⟨bU,_,_⟩| ⟨_,rfl,c2,e2⟩)
 ·exact absurd E3 bU
 have m2:=m1.aC c2 e2 rfl
 obtain⟨QY,o2,_⟩:=m2.own
 have oY:ah S H H2:=(ff.trans (e1.mono fun z _ h=>hC z h)).trans (e2.mono fun z _ h=>hC z h)
 have el:∀a b,0<aF w a→0<aF w b→a≠x→b≠x→aP (w.put x (y.1,k,s)) a b=aP w a b:=fun a b ha hb uv lq=>dt hx _ ha hb uv lq
 have ex:∀b,0<aF w b→b≠x→aP w x b=true→aP (w.put x (y.1,k,s)) x b=true:=fun b hb lq h=>BT ci hy jI hb lq h
 refine v1 (ae o2) ?_
 refine(cK m2.ck (x:=x) (fun hu=>by have:=BV.up l.bt.bt hu;have:=m2.len.1;omega)).mono ?_
 rintro _ H3 ⟨rfl,L3,t3,l3,k3,u3,e3⟩
 have m3:=m2.dS t3 e3 l3
 have h1:S B.tl:=(hS _).2 (.inr (by omega))
 have h2:S B.rk:=(hS _).2 (.inr (by omega))
 have h3:S B.tp:=(hS _).2 (.inr (by omega))
 have z8:ah S H H3:=oY.trans (e3.mono (by grind))
 unfold gQ
 by_cases hu:br L x= -1
 ·rw[if_pos hu]
  refine vs ?_
  have kk:bh L3=bh L:=by rw[k3];unfold jm;grind
  have uu:br L3=br L:=by
   rw[u3]
   funext z
   unfold dh aJ
   split
   ·grind
   ·rfl
  refine .inr ⟨B1,rfl,y,hy,bq.same ⟨B,C,L3,rs,tops,rfl,m3,⟨?_,l.tl⟩,hS⟩ z8⟩
  rw[hw,kk,uu]
  exact l.bt.Uy gE hu el ex (aw w)
 rw[if_neg hu]
 refine vs ?_
 have bo:=l.bt.low gE hu el ex (aw w)
 rw[←hw,←k3,←u3]at bo
 have Wn:=BV.up l.bt.bt hu
 refine(jP m3 bo.bt (x:=br L x) (fun _=>by simp_all)).mono ?_
 rintro _ H4 ⟨L4,Wo,m4,b4,u4,e4⟩
 have bo4:Ux (aF (w.put x (y.1,k,s))) (aP (w.put x (y.1,k,s))) (bh L4) (br L4) (aM tops) (aF (w.put x (y.1,k,s)) x) x:=⟨b4,by rw[u4];exact bo.t1,by rw[u4];exact bo.t2,by rw[u4];exact bo.ox,bo.nx,bo.g0⟩
 have Ac:ah S H H4:=z8.trans (e4.mono (by grind))
 obtain⟨cc,lt,o4,q2,AA,yO,KO⟩:=m4.dZ
 have eC:aF (w.put x (y.1,k,s)) x<tops.length:=by
  have:=((m4.cells.hm x).2 bo.g0).2
  have e5:(w.put x (y.1,k,s)).hs=w.hs:=rfl
  rw[e5]at this
  have:=l.tl
  omega
 have PS:=bo.g0
 generalize hg:aF (w.put x (y.1,k,s)) x=g at*
 have q3:=m4.cT q2 (cf (tops:=tops) (h:=g) (by omega) eC)
 refine vs ?_
 refine fV.intro (fun H'=>H'.own B.n=some [ptr B.c,ptr B.t,.slice (some ⟨B.rk,0,none⟩) Wo.length Wo.length,.slice (some ⟨B.tp,0,none⟩) tops.length cc]) o4 ?_
 refine vs ?_
 refine dV.intro (.slice (some ⟨B.tp,0,none⟩) tops.length cc) (fun H' hI=>by refine v1 (ae hI) ?_;trivial) ?_
 refine v1 (ae o4) ?_
 refine And.intro o4 ?_
 refine vs ?_
 refine⟨⟨by omega,by omega⟩,?_⟩
 refine v4 (ae q2) aoi aok q3 ?_
 refine And.intro o4 ?_
 refine vs ?_
 refine(fk m4 bo4.mg).mono ?_
 rintro _ H5 ⟨r,L5,rs5,rfl,m5,g5,_,e5⟩
 have bn:=bo4.done g5
 obtain⟨d1,d2,d3,d4⟩:=m4.mY.1
 have no:¬ (C B.n∨B.n=B.tl∨B.n=B.rk):=by rintro(h|h|h);exact m4.out.1 h;omega;omega
 refine And.intro (e5.own o4 no) ?_
 have q4:=e5.own q2 (by cases m4;grind)
 refine vs ?_
 refine⟨by omega,?_⟩
 refine v3 q4 aoi aok ?_
 refine⟨by omega,?_⟩
 obtain⟨m6,e6⟩:=m5.fR q4 g.toNat r
 refine And.intro (e6.own (e5.own o4 no) d4) ?_
 refine vs ?_
 refine .inr ⟨B1,rfl,y,hy,bq.same ⟨B,C,L5,rs5,_,rfl,m6,⟨?_,by rw[aom];exact l.tl⟩,hS⟩ ?_⟩
 ·grind [cX]
 ·exact(Ac.trans (e5.mono (by grind))).trans (e6.mono (by grind))
theorem mZ{n:Nat}{H:Hp}{S:Nat→Prop}{w:Nw}(h:dw n H S w)(x:Int):ag Tryz.prog kB [ptr n,i64 x] H fun v H'=>ap (
  (¬cI w.cs x∧v= .bool false∧bq (dw n) S H H' w)∨(cI w.cs x∧v= .bool true∧bq (dw n) S H H' (w.put x (0,0,0)))):=by
 obtain⟨B,C,L,rs,tops,rfl,m,l,hS⟩:=id h
 have hC:∀z,C z→S z:=fun z h=>(hS z).2 (.inl h)
 have s1:S B.tl:=(hS _).2 (.inr (by omega))
 have s2:S B.rk:=(hS _).2 (.inr (by omega))
 have s3:S B.tp:=(hS _).2 (.inr (by omega))
 obtain⟨tv,o0,_⟩:=m.own
 refine aU ul ?_
 refine v1 (ae o0) ?_
 refine(bI m.cells x).mono ?_
 rintro _ H1 (⟨bU,rfl,rfl⟩| ⟨ci,rfl,c1,e1⟩)
 ·refine vs ?_
  exact .inl ⟨bU,rfl,bq.same h (ah.refl _ _)⟩
 have m1:=m.aC c1 e1 rfl
 obtain⟨Dt,o1,_⟩:=m1.own
 have gE:=bB.2 ci
 obtain⟨im,nO,_⟩:=aG gE
 have Lx:x≠ -1:=by omega
 have ls:=aw w
 have t:=l.bt
 refine v1 (ae o1) ?_
 obtain⟨a1,b1,ea1⟩:=cM (bh L x false)
 obtain⟨a2,b2,ea2⟩:=cM (bh L x true)
 refine⟨.tuple [i64 a1,.bool b1].toArray,(mA m1.ck x).mono (by rintro v H' ⟨rfl,rfl⟩;grind),?_⟩
 refine vs ?_
 refine⟨_,cH H1 _ a1 b1 ea1,?_⟩
 refine v1 (ae o1) ?_
 refine(cG m1.ck x).mono ?_
 rintro _ H' ⟨rfl,e⟩
 obtain rfl:=e.symm
 rw[ea2]
 refine vs ?_
 refine(cH H1 _ a2 b2 ea2).mono ?_
 rintro _ H' ⟨rfl,e⟩
 obtain rfl:=e.symm
 refine v1 (ae o1) ?_
 refine(cK m1.ck (x:=bh L x false) (fun hu=>by have:=BV.up t.bt hu;have:=m1.len.1;omega)).mono ?_
 rintro _ H2 ⟨rfl,L2,t2,l2,k2,u2,e2⟩
 have m2:=m1.dS t2 e2 l2
 have bt2:BV w L2:=by
  show Bt _ _ _ _
  rw[k2,u2];exact t.bt.Uw _
 obtain⟨QY,o2,_⟩:=m2.own
 refine v1 (ae o2) ?_
 refine(cK m2.ck (x:=bh L x true) (fun hu=>by have:=BV.up bt2 hu;have:=m2.len.1;omega)).mono ?_
 rintro _ H3 ⟨rfl,L3,t3,l3,k3,u3,e3⟩
 rw[k2,u2]at k3
 rw[u2]at u3
 have m3:=m2.dS t3 e3 l3
 obtain⟨w1,w2,w3,w4⟩:=t.bt.bare x
 have hk:∀c,bh L x c= -1∨(aF w (bh L x c)=aF w x∧br L3 (bh L x c)= -1):=fun c=>by
  by_cases hk:bh L x c= -1
  ·omega
  ·refine .inr ⟨(t.bt.home hk).2.2.1,?_⟩
   rw[u3,w4,if_pos]
   cases c
   ·omega
   omega
 rw[←k3,←u3]at w1
 have mg:=Mg.start w1 gE (hk false) (hk true) (fun e=>t.bt.two x e)
 refine vs ?_
 refine(fk m3 mg).mono ?_
 rintro _ H4 ⟨r,L4,Wo,rfl,m4,g4,f4,e4⟩
 have f4:=f4 x (rR.start (fun hk=>(t.bt.home hk).2.2.2.2) (fun hk=>(t.bt.home hk).2.2.2.2))
 have d:=t.V5 ls gE k3 u3 g4 f4
 have Ac:ah S H H4:=(((e1.mono fun z _ h=>hC z h).trans (e2.mono (by grind))).trans (e3.mono (by grind))).trans (e4.mono (by grind))
 obtain⟨ZG,o4,_⟩:=m4.own
 have jh:=fun y=>dR (w:=w) ⟨im,nO⟩ (0,0,0) y
 have p0:aF (w.put x (0,0,0)) (-1)=0:=rfl
 have p1:aF (w.put x (0,0,0)) x=0:=by grind
 have p2:∀y,y≠x→aF (w.put x (0,0,0)) y=aF w y:=by grind
 have el:∀a b,0<aF w a→0<aF w b→a≠x→b≠x→aP (w.put x (0,0,0)) a b=aP w a b:=fun a b ha hb uv lq=>dt ⟨im,nO⟩ _ ha hb uv lq
 have rS:(w.put x (0,0,0)).cs.length=w.cs.length:=by simp[Nw.put]
 refine v1 (ae o4) ?_
 refine(pZ m4.ck x).mono ?_
 rintro _ H' ⟨rfl,e⟩
 obtain rfl:=e.symm
 rw[d.ux]
 unfold gQ
 by_cases hu:br L x= -1
 ·rw[if_pos hu]
  obtain⟨cc,lt,o5,q5,AA,yO,KO⟩:=m4.dZ
  have eC:aF w x<tops.length:=by
   have:=((m4.cells.hm x).2 gE).2
   have:=l.tl
   omega
  refine v1 (ae o5) ?_
  refine⟨by omega,?_⟩
  refine v3 q5 aoi aok ?_
  refine⟨by omega,?_⟩
  obtain⟨m5,e5⟩:=m4.fR q5 (aF w x).toNat r
  obtain⟨tv6,o6,_⟩:=m5.own
  refine v1 (ae o6) ?_
  refine(ce m5.cells x).mono ?_
  rintro _ H6 (⟨bU,_,_⟩| ⟨_,rfl,c6,e6⟩)
  ·exact absurd ci bU
  have m6:=m5.aC c6 e6 rS
  refine vs ?_
  refine .inr ⟨ci,rfl,bq.same ⟨B,C,L4,Wo,_,rfl,m6,⟨?_,by rw[aom];exact l.tl⟩,hS⟩ ((Ac.trans (e5.mono (by grind))).trans (e6.mono fun z _ h=>hC z h))⟩
  rw[cX (by omega) eC]
  exact d.HW t gE hu p0 p1 p2 el
 ·rw[if_neg hu]
  have Wn:=BV.up t.bt hu
  obtain⟨w5,w6⟩:=d.cut t ls gE hu
  obtain⟨a3,b3,ZH⟩:=cM (bh L4 (br L x) true)
  refine v1 (ae o4) ?_
  refine(cG m4.ck (br L x)).mono ?_
  rintro _ H' ⟨rfl,e⟩
  obtain rfl:=e.symm
  rw[ZH]
  refine vs ?_
  refine(cH _ _ a3 b3 ZH).mono ?_
  rintro _ H' ⟨rfl,e⟩
  obtain rfl:=e.symm
  rw[d.kp _ true rfl hu]
  refine v1 (ae o4) ?_
  refine(cK m4.ck (x:=x) (fun hu2=>by have:=BV.up d.bt hu2;have:=m4.len.1;omega)).mono ?_
  rintro _ H5 ⟨rfl,L5,t5,l5,k5,u5,e5⟩
  have m5:=m4.dS t5 e5 l5
  obtain⟨tv5,o5,_⟩:=m5.own
  refine vs ?_
  have Wr:=Ac.trans (e5.mono (by grind))
  refine ar.dec (fun g=>?_) (fun g=>?_)<;>refine vs ?_
  ·have m6:=m5
   have RO:=Wr
   have b6:BV w L5:=by
    show Bt _ _ _ _
    rw[k5,u5];exact w5 g
   have u6:br L5=if r= -1 then dh (br L4) x else aJ (dh (br L4) x) r (br L x):=by rw[if_pos g];exact u5
   refine(jP m6 b6 (x:=br L x) (by omega)).mono ?_
   rintro _ H7 ⟨L7,rs7,m7,b7,u7,e7⟩
   have e17:=RO.trans (e7.mono (by grind))
   obtain⟨tv7,o7,_⟩:=m7.own
   refine v1 (ae o7) ?_
   refine(ce m7.cells x).mono ?_
   rintro _ H8 (⟨bU,_,_⟩| ⟨_,rfl,c8,e8⟩)
   ·exact absurd ci bU
   have m8:=m7.aC c8 e8 rS
   refine vs ?_
   refine .inr ⟨ci,rfl,bq.same ⟨B,C,L7,rs7,tops,rfl,m8,⟨?_,l.tl⟩,hS⟩ (e17.trans (e8.mono fun z _ h=>hC z h))⟩
   exact d.below t ls (n:=w.cs.length) (fun y hy=>by obtain⟨y0,y1,_⟩:=aG hy;omega) gE hu b7 (by grind) p0 p1 p2 el
  ·obtain⟨y1,y2,y3,y4⟩:=w6 g
   obtain⟨r1,r2,r3,r4⟩:=d.rx g
   obtain⟨q1,q2,_⟩:=aG (w:=w) (x:=r) (by omega)
   have hl5:=m5.len
   refine v1 (ae o5) ?_
   refine(fA m5.ck (p:=br L x) (x:=r) (c:=(bh L (br L x) true==x)) (by omega) ⟨q1,by omega⟩ y3 (by simp_all) (by simp_all)).mono ?_
   rintro _ H6 ⟨rfl,L6,t6,l6,k6,S4,e6⟩
   have m6:=m5.dS t6 e6 l6
   have RO:=Wr.trans (e6.mono (by grind))
   rw[k5]at k6
   rw[u5]at S4
   have b6:BV w L6:=by
    show Bt _ _ _ _
    rw[k6,S4];exact y4
   have u6:br L6=if r= -1 then dh (br L4) x else aJ (dh (br L4) x) r (br L x):=by rw[if_neg g];exact S4
   refine vs ?_
   refine(jP m6 b6 (x:=br L x) (by omega)).mono ?_
   rintro _ H7 ⟨L7,rs7,m7,b7,u7,e7⟩
   have e17:=RO.trans (e7.mono (by grind))
   obtain⟨tv7,o7,_⟩:=m7.own
   refine v1 (ae o7) ?_
   refine(ce m7.cells x).mono ?_
   rintro _ H8 (⟨bU,_,_⟩| ⟨_,rfl,c8,e8⟩)
   ·exact absurd ci bU
   have m8:=m7.aC c8 e8 rS
   refine vs ?_
   refine .inr ⟨ci,rfl,bq.same ⟨B,C,L7,rs7,tops,rfl,m8,⟨?_,l.tl⟩,hS⟩ (e17.trans (e8.mono fun z _ h=>hC z h))⟩
   exact d.below t ls (n:=w.cs.length) (fun y hy=>by obtain⟨y0,y1,_⟩:=aG hy;omega) gE hu b7 (by grind) p0 p1 p2 el
theorem vW{n:Nat}{H:Hp}{S:Nat→Prop}{w:Nw}(h:dw n H S w)(g:Int):ag Tryz.prog jE [ptr n,i64 g] H fun v H'=>ap (
  (w.len g=0∧v= .tuple [i64 0,.bool false].toArray∧bq (dw n) S H H' w)∨(∃x,w.first g x∧v= .tuple [i64 x,.bool true].toArray∧bq (dw n) S H H' (w.put x (0,0,0)))):=by
 refine aU sL ?_
 refine vs ?_
 refine(rG h g).mono ?_
 rintro _ _ ⟨⟨h0,rfl⟩| ⟨x,hx,rfl⟩,rfl⟩
 ·refine vs ?_
  exact .inl ⟨h0,rfl,bq.same h (ah.refl _ _)⟩
 ·refine vs ?_
  refine(mZ h x).mono ?_
  rintro _ H1 (⟨bU,_,_⟩| ⟨_,rfl,h1⟩)
  ·exact absurd (bB.1 (by have:=bD.1 hx;omega)) bU
  refine vs ?_
  exact .inr ⟨x,hx,rfl,h1⟩
theorem jb(w:Nw)(a b:Int):aP (w.join a b)=aP w:=by
 funext x y
 exact vN w a b x y
def aam:Vc.Fn:=⟨3,[(.tmp 6)],
 (.seq (.aY [s1 6 (.ax (kb false))] [0,1,2]) (.seq (.seq (.aY [s1 7 (.ax (tt 0)),s1 8 (.nilCheck (tt 7)),s1 9 (.fieldAddr 0 (tt 8)),s1 10 (.aq (tt 9)),s1 11 (.ax (tt 1)),s1 12 (.ax (tt 2)),s1 13 (.call 239 [(tt 10),(tt 11),(tt 12)]),s1 14 (.un .not (tt 13))] [0,1,2,14]) (.cond (tt 14) (.seq (.aY [s1 6 (.ax (kb false))] [6]) .ret) .skip)) (.seq (.qA (.bE (s1 15 (.ax (tt 0))) (.bE (s1 16 (.nilCheck (tt 15))) (.bE (s1 17 (.fieldAddr 3 (tt 16))) (.HS (sq 18 (.aq (tt 17))) (.bE (s1 19 (.ax (tt 1))) (.bE (s1 20 (.ax (tt 0))) (.bE (s1 21 (.ax (tt 0))) (.bE (s1 22 (.nilCheck (tt 21))) (.bE (s1 23 (.fieldAddr 3 (tt 22))) (.HS (sq 24 (.aq (tt 23))) (.bE (s1 25 (.ax (tt 1))) (.bE (s1 26 (.indexAddr 1 (tt 24) (tt 25))) (.bE (s1 28 (.ax (tt 0))) (.bE (s1 29 (.nilCheck (tt 28))) (.bE (s1 30 (.fieldAddr 3 (tt 29))) (.HS (sq 31 (.aq (tt 30))) (.bE (s1 32 (.ax (tt 2))) (.bE (s1 33 (.indexAddr 1 (tt 31) (tt 32))) (.HS (sq 34 (.aq (tt 33))) (.aT (s1 27 (.aq (tt 26))) (.aT (s1 35 (.call 334 [(tt 20),(tt 27),(tt 34)])) (.bE (s1 36 (.indexAddr 1 (tt 18) (tt 19))) (.aT (s0 (.store 1 (tt 36) (tt 35))) .done .stop)) .stop) .stop)))))))))))))))))))) [0,2]) (.seq (.aY [s1 37 (.ax (tt 0)),s1 38 (.nilCheck (tt 37)),s1 39 (.fieldAddr 3 (tt 38)),s1 40 (.aq (tt 39)),s1 41 (.ax (tt 2)),s1 42 (.indexAddr 1 (tt 40) (tt 41)),s0 (.store 1 (tt 42) (ki (-1)))] []) (.seq (.aY [s1 6 (.ax (kb true))] [6]) .ret)))))⟩
theorem aap:ep Tryz.prog 330 [([0,1,2],[],[]),([0,1,2,14],[],[]),([6],[],[]),([0,2],[3,9,16,19],[1,0,1,1,1,2,1,3,1,4,1,5,1,6,1,7,1,8,1,9,1,10,1,11,1,13,1,14,1,15,1,16,1,17,1,18,1,19,2,12,2,20,1,21,2,22,0,3,3,3]),([],[],[]),([6],[],[])]=some aam:=by kernel_rfl
theorem B3{n:Nat}{H:Hp}{S:Nat→Prop}{w:Nw}(h:dw n H S w)(a b:Int):ag Tryz.prog mO [ptr n,i64 a,i64 b] H fun v H'=>ap (
  (¬ (w.has a∧w.has b∧a≠b)∧v= .bool false∧bq (dw n) S H H' w)∨((w.has a∧w.has b∧a≠b)∧v= .bool true∧bq (dw n) S H H' (w.join a b))):=by
 obtain⟨B,C,L,rs,tops,rfl,m,l,hS⟩:=id h
 have hC:∀z,C z→S z:=fun z h=>(hS z).2 (.inl h)
 have s1:S B.tl:=(hS _).2 (.inr (.inr (.inr (.inl rfl))))
 have s2:S B.rk:=(hS _).2 (.inr (.inr (.inr (.inr (.inl rfl)))))
 have s3:S B.tp:=(hS _).2 (.inr (.inr (.inr (.inr (.inr rfl)))))
 obtain⟨tv,o0,_⟩:=m.own
 refine Fz aap ⟨rfl,?_⟩
 refine v2 aam.eq_1 (ae o0) ?_
 refine(jN m.cells a b).mono ?_
 rintro _ H1 (⟨bU,rfl,rfl⟩| ⟨fX,rfl,c1,e1⟩)
 ·refine vs ?_
  exact .inl ⟨bU,rfl,bq.same h (ah.refl _ _)⟩
 obtain⟨⟨ha,Q3⟩,⟨hb,Oy⟩,eJ⟩:=id fX
 have m1:=m.aC c1 e1 (by simp[Nw.join])
 have al:a<tops.length:=by
  have:=(aoj.1 Q3).1
  have:=l.tl
  omega
 have bl:b<tops.length:=by
  have:=(aoj.1 Oy).1
  have:=l.tl
  omega
 have mg:=l.bt.join (hm':=aF (w.join a b)) rfl eJ (by omega) (oJ (by omega))
 rw[←jb w a b]at mg
 obtain⟨cc,lt,o1,q1,AA,yO,KO⟩:=m1.dZ
 have qa:=m1.cT q1 (cf (tops:=tops) (h:=a) (by omega) al)
 have qb:=m1.cT q1 (cf (tops:=tops) (h:=b) (by omega) bl)
 refine vs ?_
 refine fV.intro (fun H'=>H'.own B.n=some [ptr B.c,ptr B.t,.slice (some ⟨B.rk,0,none⟩) rs.length rs.length,.slice (some ⟨B.tp,0,none⟩) tops.length cc]∧∃l,H'.own B.tp=some l∧l[b.toNat]? =some (i64 (aM tops b))) ⟨o1,lt,q1,qb⟩ ?_
 refine vs ?_
 refine dV.intro (.slice (some ⟨B.tp,0,none⟩) tops.length cc) (fun H' hI=>by refine v1 (ae hI.1) ?_;trivial) ?_
 refine vs ?_
 refine dV.intro (.slice (some ⟨B.tp,0,none⟩) tops.length cc) (fun H' hI=>by refine v1 (ae hI.1) ?_;trivial) ?_
 refine vs ?_
 refine⟨⟨by omega,by omega⟩,?_⟩
 refine vs ?_
 refine dV.intro (.slice (some ⟨B.tp,0,none⟩) tops.length cc) (fun H' hI=>by refine v1 (ae hI.1) ?_;trivial) ?_
 refine vs ?_
 refine⟨⟨by omega,by omega⟩,?_⟩
 refine vs ?_
 refine dV.intro (i64 (aM tops b)) (fun H' hI=>by obtain⟨_,l,h1,h2⟩:=hI;refine v4 (ae h1) aoi aok h2 ?_;trivial) ?_
 refine v4 (ae q1) aoi aok qa ?_
 refine And.intro ⟨o1,lt,q1,qb⟩ ?_
 refine vs ?_
 refine(fk m1 mg).mono ?_
 rintro _ H3 ⟨r,L3,rs3,rfl,m3,g3,_,e3⟩
 have tt:=l.bt
 rw[←jb w a b]at tt
 have bn:=tt.J3 rfl eJ (by omega) (by omega) (oJ (by omega)) g3
 obtain⟨d1,d2,d3,d4⟩:=m1.mY.1
 have no:¬ (C B.n∨B.n=B.tl∨B.n=B.rk):=by rintro(h|h|h);exact m1.out.1 h;omega;omega
 have q4:=e3.own q1 (by obtain⟨_,⟨_,_,d7⟩,⟨_,d9⟩,d10⟩:=m1.mY;rintro(h|h|h);exact m1.out.2.2.2.2 h;omega;omega)
 refine And.intro ⟨e3.own o1 no,lt,q4,qb⟩ ?_
 refine vs ?_
 refine⟨⟨by omega,by omega⟩,?_⟩
 refine v3 q4 aoi aok ?_
 have ql:=(aoj.1 qa).1
 refine⟨by omega,?_⟩
 obtain⟨m4,e4⟩:=m3.fR q4 a.toNat r
 have o4:=e4.own (e3.own o1 no) d4
 have q4':(H3.wr B.tp (lt.set a.toNat (i64 r))).own B.tp=some (lt.set a.toNat (i64 r)):=af q4
 have qb':(lt.set a.toNat (i64 r))[b.toNat]? =some (i64 (aM tops b)):=by rw[aor (by omega)];exact qb
 rw[show aX lt a.toNat (aI (i64 r))=lt.set a.toNat (i64 r)from rfl]
 generalize H3.wr B.tp (lt.set a.toNat (i64 r))=H4 at*
 refine And.intro ⟨o4,_,q4',qb'⟩ ?_
 refine vs ?_
 obtain⟨cc5,lt5,o5,q5,Zw,rX,Ui⟩:=m4.dZ
 rw[aom]at o5 Zw
 refine v1 (ae o5) ?_
 refine⟨⟨by omega,by omega⟩,?_⟩
 refine v3 q5 aoi aok ?_
 refine⟨by omega,?_⟩
 obtain⟨m6,e6⟩:=m4.fR q5 b.toNat (-1)
 refine vs ?_
 refine .inr ⟨fX,rfl,bq.same ⟨B,C,L3,rs3,_,rfl,m6,⟨?_,by rw[aom,aom,l.tl];simp[Nw.join]⟩,hS⟩ ?_⟩
 ·rw[cX (by omega) (by rw[aom];exact bl),cX (by omega) al]
  exact bn
 ·exact(((e1.mono fun z _ h=>hC z h).trans (e3.mono fun z _ h=>by rcases h with h|rfl|rfl;exact hC z h;exact s1;exact s2)).trans (e4.mono fun z _ h=>h▸s3)).trans (e6.mono fun z _ h=>h▸s3)
theorem KP(n:Nat):tN (.iface 160 (ptr n)) (dw n) where
 slt h:=h.slt
 ext h e hd:=h.ext e hd
 cells:=by
  rintro H S w ⟨B,C,L,rs,tops,rfl,m,l,hS⟩
  exact⟨B.c,C,m.cells⟩
 has:=by
  rintro H S w g ⟨B,C,L,rs,tops,rfl,m,l,hS⟩
  obtain⟨tv,ho,_⟩:=m.own
  exact⟨_,_,bJ,ptr B.c,rfl,cD (off:=0) (by kernel_rfl) (ae ho) rfl,(iZ m.cells g).mono fun v H' hp=>hp⟩
 make:=by
  intro H S w h
  exact⟨_,_,mN,ptr n,rfl,aS (by kernel_rfl),(B0 h).mono fun v H' hp=>hp⟩
 insert:=by
  intro H S w g x k s h
  exact⟨_,_,kC,ptr n,rfl,aS (by kernel_rfl),(yb h g x k s).mono fun v H' hp=>hp⟩
 min:=by
  intro H S w g h
  refine⟨_,_,nZ,ptr n,rfl,aS (by kernel_rfl),(rG h g).mono ?_⟩
  rintro v H' ⟨⟨h1,rfl⟩| ⟨x,h1,rfl⟩,rfl⟩
  ·exact .inl ⟨h1,rfl,bq.same h (ah.refl _ _)⟩
  ·exact .inr ⟨x,h1,rfl,bq.same h (ah.refl _ _)⟩
 extract:=by
  intro H S w g h
  exact⟨_,_,jE,ptr n,rfl,aS (by kernel_rfl),(vW h g).mono fun v H' hp=>hp⟩
 mc:=by
  intro H S w x k s h
  exact⟨_,_,iV,ptr n,rfl,aS (by kernel_rfl),(uw h x k s).mono fun v H' hp=>hp⟩
 entry:=by
  rintro H S w x ⟨B,C,L,rs,tops,rfl,m,l,hS⟩
  obtain⟨tv,ho,_⟩:=m.own
  refine⟨_,_,bj,ptr B.c,rfl,cD (off:=0) (by kernel_rfl) (ae ho) rfl,(ic m.cells x).mono ?_⟩
  rintro v H' ⟨c1,f,hv⟩
  exact⟨⟨B,C,L,rs,tops,rfl,m.fresh f,l,hS⟩,f,hv⟩
 len:=by
  rintro H S w g ⟨B,C,L,rs,tops,rfl,m,l,hS⟩
  obtain⟨tv,ho,_⟩:=m.own
  exact⟨_,_,bK,ptr B.c,rfl,cD (off:=0) (by kernel_rfl) (ae ho) rfl,(fe m.cells g).mono fun v H' hp=>hp⟩
 home:=by
  rintro H S w x h
  obtain⟨B,C,L,rs,tops,rfl,m,l,hS⟩:=id h
  obtain⟨tv,ho,_⟩:=m.own
  refine⟨_,_,bC,ptr B.c,rfl,cD (off:=0) (by kernel_rfl) (ae ho) rfl,(bI m.cells x).mono ?_⟩
  rintro v H' (⟨h1,rfl,rfl⟩| ⟨h1,rfl,c1,e1⟩)
  ·exact .inl ⟨h1,rfl,bq.same h (ah.refl _ _)⟩
  ·exact .inr ⟨h1,rfl,bq.same ⟨B,C,L,rs,tops,rfl,m.aC c1 e1 rfl,l,hS⟩ (e1.mono fun z _ hz=>(hS z).2 (.inl hz))⟩
 delete:=by
  intro H S w x h
  exact⟨_,_,kB,ptr n,rfl,aS (by kernel_rfl),(mZ h x).mono fun v H' hp=>hp⟩
 yP:=by
  intro H S w a b h
  exact⟨_,_,mO,ptr n,rfl,aS (by kernel_rfl),(B3 h a b).mono fun v H' hp=>hp⟩
theorem fg:cW 2:=⟨by omega,by omega⟩
def swp(l:List Int)(i j:Nat):List Int:=(l.set i (l.getD j 0)).set j (l.getD i 0)
theorem iK(l:List Int)(i j:Nat):(swp l i j).length=l.length:=by unfold swp;simp
theorem G7{l:List Int}{i j:Nat}(hi:i<l.length)(hj:j<l.length)(k:Nat):(swp l i j).getD k 0=if k=j then l.getD i 0 else if k=i then l.getD j 0 else l.getD k 0:=by
 grind [swp]
theorem sY{l:List Int}{i j:Nat}(hi:i<l.length)(hj:j<l.length)(k:Nat):(swp l i j)[k]? =if k=j then l[i]? else if k=i then l[j]? else l[k]? :=by
 grind [swp]
theorem Vf{l:List Int}{i j:Nat}(hi:i<l.length)(hj:j<l.length)(z:Int):z∈swp l i j↔z∈l:=by
 constructor
 ·grind [swp]
 ·intro h
  obtain⟨k,hk⟩:=aoC h
  by_cases h1:k=i
  ·subst h1
   refine aou (i:=j) ?_
   rw[sY hi hj,if_pos rfl,hk]
  ·by_cases h2:k=j
   ·subst h2
    refine aou (i:=i) ?_
    grind [sY]
   ·refine aou (i:=k) ?_
    grind [sY]
theorem MT{l:List Int}{i j m:Nat}(hi:i<m)(hj:j<m)(hm:m≤l.length):(swp l i j).take m=swp (l.take m) i j:=by
 apply aoM
 grind [sY]
theorem S6{l:List Int}{i j m:Nat}(hi:i<m)(hj:j<m)(hm:m≤l.length):(swp l i j).drop m=l.drop m:=by
 apply aoM
 grind [sY]
theorem dQ.heap{lt:Int→Int→Bool}{l:List Int}{i:Nat}(h:dQ lt 2 l i)(hB:∀j,1≤j→j<l.length→pa 2 j=i→lt (l.getD j 0) (l.getD i 0)=false)
  (hD:1≤i→i<l.length→lt (l.getD i 0) (l.getD (pa 2 i) 0)=false):eA lt 2 l:=by
 intro j h1 h2
 by_cases e1:j=i
 ·grind
 ·by_cases e2:pa 2 j=i
  ·grind
  ·exact h.1 j h1 h2 e1 e2
theorem XJ{lt:Int→Int→Bool}(ho:bF lt){l:List Int}{i:Nat}(hi:1≤i)(hl:i<l.length)(hA:dQ lt 2 l i)(hB:∀j,1≤j→j<l.length→pa 2 j=i→lt (l.getD j 0) (l.getD i 0)=false)
  (bf:lt (l.getD i 0) (l.getD (pa 2 i) 0)=true):dQ lt 2 (swp l (pa 2 i) i) (pa 2 i)∧∀j,1≤j→j< (swp l (pa 2 i) i).length→pa 2 j=pa 2 i→lt ((swp l (pa 2 i) i).getD j 0) ((swp l (pa 2 i) i).getD (pa 2 i) 0)=false:=by
 have hp:=dc fg hi
 have g:=G7 (l:=l) (i:=pa 2 i) (j:=i) (by omega) hl
 rw[iK]
 have akz:∀j,1≤j→j<l.length→pa 2 j=pa 2 i→j≠i→lt (l.getD j 0) (l.getD i 0)=false:=fun j h1 h2 h3 h4=>by
  have e4:=hA.1 j h1 h2 h4 (by omega)
  cases ho;grind
 refine⟨⟨fun j h1 h2 h3 h4=>?_,fun j h1 h2 h3 h4=>?_⟩,fun j h1 h2 h3=>?_⟩
 ·rw[iK]at h2
  have Xu:=dc fg h1
  rw[g,g,if_neg h4]
  by_cases e1:j=i
  ·grind
  ·rw[if_neg e1,if_neg h3]
   by_cases e2:pa 2 j=i
   ·rw[if_pos e2]
    exact hA.2 j h1 h2 e2 (by omega)
   ·rw[if_neg e2];exact hA.1 j h1 h2 e1 e2
 ·rw[iK]at h2
  have Qg:=dc fg h4
  rw[g,g,if_neg (show pa 2 (pa 2 i)≠i by omega),if_neg (show pa 2 (pa 2 i)≠pa 2 i by omega)]
  have e3:=hA.1 (pa 2 i) h4 (by omega) (by omega) (by omega)
  by_cases e1:j=i
  ·rw[if_pos e1];exact e3
  ·have Xu:=dc fg h1
   rw[if_neg e1,if_neg (by omega)]
   have e4:=hA.1 j h1 h2 e1 (by omega)
   cases ho;grind
 ·have Xu:=dc fg h1
  rw[g,g,if_neg (show pa 2 i≠i by omega),if_pos rfl]
  by_cases e1:j=i
  ·rw[if_pos e1];exact ho.yN bf
  grind
theorem S8{lt:Int→Int→Bool}(ho:bF lt){l:List Int}{i b:Nat}(hb:1≤b)(hl:b<l.length)(hp:pa 2 b=i)(hA:dQ lt 2 l i)(Do:∀j,1≤j→j<l.length→pa 2 j=i→lt (l.getD j 0) (l.getD b 0)=false)
  (bf:lt (l.getD b 0) (l.getD i 0)=true):dQ lt 2 (swp l i b) b∧lt ((swp l i b).getD b 0) ((swp l i b).getD (pa 2 b) 0)=false:=by
 have QV:=dc fg hb
 have g:=G7 (l:=l) (i:=i) (j:=b) (by omega) hl
 refine⟨⟨fun j h1 h2 h3 h4=>?_,fun j h1 h2 h3 h4=>?_⟩,?_⟩
 ·rw[iK]at h2
  have Xu:=dc fg h1
  rw[g,g,if_neg h3,if_neg h4]
  by_cases e1:j=i
  ·subst e1
   rw[if_pos rfl,if_neg (by omega)]
   exact hA.2 b hb hl hp h1
  ·rw[if_neg e1]
   by_cases e2:pa 2 j=i
   ·grind
   ·rw[if_neg e2];exact hA.1 j h1 h2 e1 e2
 ·rw[iK]at h2
  have Xu:=dc fg h1
  rw[g,g,if_neg (by omega),if_neg (by omega),if_neg (by omega),if_pos hp]
  have:=hA.1 j h1 h2 (by omega) (by omega)
  grind
 ·rw[g,g,if_pos rfl,hp,if_neg (by omega),if_pos rfl]
  exact ho.yN bf
def j0(l at_:List Int):Prop:=∀ (i:Nat) (x:Int),l[i]? =some x→0≤x∧at_[x.toNat]? =some (i:Int)
theorem j0.Dm{l at_:List Int}(h:j0 l at_){i j:Nat}{x:Int}(hi:l[i]? =some x)(hj:l[j]? =some x):i=j:=by
 have h1:=(h i x hi).2
 have h2:=(h j x hj).2
 grind
def B4(l at_:List Int)(i j:Nat):List Int:=(at_.set (l.getD j 0).toNat i).set (l.getD i 0).toNat j
theorem j0.swp{l at_:List Int}(h:j0 l at_){i j:Nat}(hi:i<l.length)(hj:j<l.length)(NT:i≠j):j0 (swp l i j) (B4 l at_ i j)∧(B4 l at_ i j).length=at_.length∧∀z:Int,0≤z→z∉l→(B4 l at_ i j)[z.toNat]? =at_[z.toNat]? :=by
 have e:∀q,q<l.length→l[q]? =some (l.getD q 0):=fun q hq=>by rw[aon,aol hq];rfl
 obtain⟨a0,a1⟩:=h i _ (e i hi)
 obtain⟨b0,b1⟩:=h j _ (e j hj)
 have Q3:=(aoj.1 a1).1
 have Oy:=(aoj.1 b1).1
 have bN:(l.getD i 0).toNat≠(l.getD j 0).toNat:=fun h0=>by
  rw[h0,b1]at a1
  injection a1 with a1
  omega
 unfold B4
 refine⟨fun k x hk=>?_,by simp,fun z hz hm=>?_⟩
 ·rw[sY hi hj]at hk
  split at hk
  ·rename_i hkj
   rw[e i hi]at hk
   injection hk with hk
   subst hk
   rw[aot (by simpa using Q3),hkj]
   exact⟨a0,rfl⟩
  ·split at hk
   ·rename_i hkj hki
    rw[e j hj]at hk
    injection hk with hk
    subst hk
    rw[aor bN,aot Oy,hki]
    exact⟨b0,rfl⟩
   ·rename_i hkj hki
    obtain⟨c0,c1⟩:=h k x hk
    have n1:(l.getD i 0).toNat≠x.toNat:=fun h0=>by
     rw[h0,c1]at a1;injection a1 with a1;omega
    have n2:(l.getD j 0).toNat≠x.toNat:=fun h0=>by
     rw[h0,c1]at b1;injection b1 with b1;omega
    rw[aor n1,aor n2]
    exact⟨c0,c1⟩
 ·have n1:(l.getD i 0).toNat≠z.toNat:=fun h0=>hm (by rw[show z=l.getD i 0 by omega];exact aou (e i hi))
  have n2:(l.getD j 0).toNat≠z.toNat:=fun h0=>hm (by rw[show z=l.getD j 0 by omega];exact aou (e j hj))
  rw[aor n1,aor n2]
theorem pa2(j:Nat):((pa 2 j:Nat):Int)=if j=0 then 0 else((j:Int) - 1) / 2:=by
 grind [pa]
theorem Sl.at_{H:Hp}{v:Value}{n:Nat}{xs:List Value}{fp:Option Nat}(h:Sl H 1 v n xs fp){i:Nat}{x:Value}(hx:xs[i]? =some x):∃b cc lb,v= .slice (some ⟨b,0,none⟩) n cc∧fp=some b∧H.own b=some lb∧lb[i]? =some x∧i<n∧n≤lb.length:=by
 have hi:=(aoj.1 hx).1
 obtain⟨hl,hm⟩:=id h
 grind
structure ii(H:Hp)(n c:Nat)(C:Nat→Prop)(rv:Value)(r:Nat)(fp fa:Option Nat)(st:Int)(w:Nw)(l at_:List Int):Prop where
 own:∃av,H.own n=some [ptr c,rv,av]∧Sl H 1 av at_.length (at_.map i64) fa
 cells:aZ H c C st w
 j9:∃sv,H.own r=some [ptr n,sv]∧Sl H 1 sv l.length (l.map i64) fp
 nC:¬C n
 rC:¬C r
 rn:r≠n
 ye:∀b,fp=some b→¬C b∧b≠n∧b≠r∧fa≠some b
 KQ:∀b,fa=some b→¬C b∧b≠n∧b≠r
 ll:l.length≤65536
abbrev pv(r:Nat):Value:=.iface 399 (ptr r)
theorem sZ{l:List Int}{i:Nat}{x:Int}(h:l[i]? =some x):l.getD i 0=x:=by grind
theorem getD_take{l:List Int}{k m:Nat}(h:k<m):(l.take m).getD k 0=l.getD k 0:=by grind
section
variable {H : Hp} {n c : Nat} {C : Nat → Prop} {rv : Value} {r : Nat} {fp fa : Option Nat} {st : Int} {w : Nw} {l at_ : List Int}
theorem ij(m:ii H n c C rv r fp fa st w l at_):ag Tryz.prog is [ptr r] H fun v H'=>ap (v=i64 l.length∧H=H'):=by
 obtain⟨sv,ho,hs⟩:=m.j9
 obtain⟨a,cc,rfl⟩:=fh.Oz hs.rd
 refine aU EI ?_
 refine v1 (ae ho) ?_
 exact⟨rfl,rfl⟩
theorem G8(m:ii H n c C rv r fp fa st w l at_){i j:Nat}(hi:i<l.length)(hj:j<l.length)(ci:∀z∈l,cI w.cs z):ag Tryz.prog qM [ptr r,i64 i,i64 j] H fun v H'=>ap (
  v= .bool (aP w (l.getD i 0) (l.getD j 0))∧ii H' n c C rv r fp fa (min (st+1) 4611686018427387904) w l at_∧ah C H H'):=by
 obtain⟨av,hn,ha⟩:=m.own
 obtain⟨sv,ho,hs⟩:=m.j9
 obtain⟨x,hx⟩:∃x,l[i]? =some x:=⟨_,aol hi⟩
 obtain⟨y,hy⟩:∃y,l[j]? =some y:=by grind
 obtain⟨b,cc,lb,rfl,jg,hb,lq,_,_⟩:=Sl.at_ hs (i:=i) (x:=i64 x) (by simp[hx])
 obtain⟨b',Uh,Wp,hv,mC,AD,hby,_,_⟩:=Sl.at_ hs (i:=j) (x:=i64 y) (by simp[hy])
 rw[jg]at mC
 injection mC with mC
 subst mC
 rw[hb]at AD
 injection AD with AD
 subst AD
 have rl:=m.ll
 refine aU De ?_
 refine v2 (ae ho) (ae hn) ?_
 refine⟨by omega,?_⟩
 refine v5 (ae hb) aok lq (ae ho) Int.toNat_natCast ?_
 refine⟨by omega,?_⟩
 refine v4 (ae hb) aok hby Int.toNat_natCast ?_
 have h1:=ci x (aou hx)
 have h2:=ci y (aou hy)
 refine(jL m.cells x y).mono ?_
 rintro _ H1 ⟨rfl,c1,e1⟩
 refine vs ?_
 have yQ:=m.cells.st
 rw[if_pos ⟨h1,h2⟩,show gu st 1=min (st+1) 4611686018427387904 by unfold gu;rw[if_neg (by omega)];split<;>omega]at c1
 refine⟨by rw[sZ hx,sZ hy,Dp h1 h2];rfl,⟨⟨av,e1.own hn m.nC,ha.ext e1 (fun b hb=>(m.KQ b hb).1)⟩,c1,⟨_,e1.own ho m.rC,hs.ext e1 (fun b hb=>(m.ye b hb).1)⟩,m.nC,m.rC,m.rn,m.ye,m.KQ,m.ll⟩,e1⟩
theorem G9(m:ii H n c C rv r fp fa st w l at_)(yo:j0 l at_){i j:Nat}(hi:i<l.length)(hj:j<l.length)(NT:i≠j):ag Tryz.prog qO [ptr r,i64 i,i64 j] H fun v H'=>ap (
  v= .tuple [].toArray∧ii H' n c C rv r fp fa st w (swp l i j) (B4 l at_ i j)∧ah (fun z=>fp=some z∨fa=some z) H H'):=by
 obtain⟨av,hn,ha⟩:=m.own
 obtain⟨sv,ho,hs⟩:=m.j9
 obtain⟨x,hx⟩:∃x,l[i]? =some x:=⟨_,aol hi⟩
 obtain⟨y,hy⟩:∃y,l[j]? =some y:=by grind
 obtain⟨b,cc,lb,rfl,rfl,hb,lq,_,uF⟩:=Sl.at_ hs (i:=i) (x:=i64 x) (by simp[hx])
 obtain⟨b',Uh,Wp,hv,mC,AD,hby,_,_⟩:=Sl.at_ hs (i:=j) (x:=i64 y) (by simp[hy])
 injection mC with mC
 subst mC
 rw[hb]at AD
 injection AD with AD
 subst AD
 obtain⟨im,uv⟩:=yo i x hx
 obtain⟨hy0,hay⟩:=yo j y hy
 have Q3:=(aoj.1 uv).1
 have hyl:=(aoj.1 hay).1
 obtain⟨f,fc,la,rfl,rfl,hf,Vg,_,IR⟩:=Sl.at_ ha (i:=x.toNat) (x:=i64 i) (by grind)
 have rl:=m.ll
 obtain⟨d1,d2,d3,d4⟩:=m.ye b rfl
 obtain⟨g1,g2,g3⟩:=m.KQ f rfl
 have hbf:b≠f:=by grind
 refine Fz Dg ⟨rfl,?_⟩
 refine v2 ri.eq_1 (ae ho) ?_
 refine⟨by omega,?_⟩
 refine v5 (ae hb) aok hby (ae ho) Int.toNat_natCast ?_
 refine⟨by omega,?_⟩
 refine v4 (ae hb) aok lq Int.toNat_natCast ?_
 refine⟨by omega,?_⟩
 refine v3 hb aok Int.toNat_natCast ?_
 refine⟨by omega,?_⟩
 refine v1 aoi ?_
 refine⟨by omega,?_⟩
 simp(disch:=(first|omega| (simp only[Zs]<;>omega)|fail)) only[go_sem, ↓reduceIte,Zv,af hb,aok,Int.toNat_natCast]
 refine⟨by grind,?_⟩
 refine v1 aoi ?_
 have e1:ah (fun z=>z=b) H (H.wr b ((lb.set i (i64 y)).set j (i64 x))):=(ah.refl (fun z=>z=b) _).wr (fun _=>rfl) _
 have ob:(H.wr b ((lb.set i (i64 y)).set j (i64 x))).own b=some ((lb.set i (i64 y)).set j (i64 x)):=af hb
 have s1:=(hs.sf hb i (i64 y)).sf (af hb) j (i64 x)
 rw[MU]at s1
 generalize H.wr b ((lb.set i (i64 y)).set j (i64 x))=H1 at*
 have Q4:=e1.own ho (Ne.symm d3)
 have oX:=e1.own hn (Ne.symm d2)
 have hf1:=e1.own hf (Ne.symm hbf)
 have Uc:=ha.ext e1 (by grind)
 have c1:=m.cells.ext e1 (by grind)
 have gi:((lb.set i (i64 y)).set j (i64 x))[i]? =some (i64 y):=by grind
 have gj:((lb.set i (i64 y)).set j (i64 x))[j]? =some (i64 x):=by rw[aot (by rw[aom];omega)]
 refine v4 (ae ho) (ae hn) (ae Q4) (ae oX) ?_
 refine⟨by omega,?_⟩
 refine v6 (ae ob) aok gi (ae Q4) (ae oX) Int.toNat_natCast ?_
 refine⟨by omega,?_⟩
 refine v4 (ae ob) aok gj Int.toNat_natCast ?_
 refine⟨by omega,?_⟩
 refine v3 hf1 aok aoi ?_
 refine⟨by omega,?_⟩
 refine v1 aoi ?_
 refine⟨by omega,?_⟩
 simp(disch:=(first|omega| (simp only[Zs]<;>omega)|fail)) only[go_sem, ↓reduceIte,Zv,af hf1,aok,aoi]
 refine⟨by grind,?_⟩
 refine v1 aoi ?_
 have e2:ah (fun z=>z=f) H1 (H1.wr f ((la.set y.toNat (i64 i)).set x.toNat (i64 j))):=(ah.refl (fun z=>z=f) _).wr (fun _=>rfl) _
 have s2:=(Uc.sf hf1 y.toNat (i64 i)).sf (af hf1) x.toNat (i64 j)
 rw[MU]at s2
 have ex:=sZ hx
 have ey:=sZ hy
 refine⟨rfl,⟨⟨_,e2.own oX (Ne.symm g2),?_⟩,c1.ext e2 (by grind),⟨_,e2.own Q4 (Ne.symm g3),?_⟩,m.nC,m.rC,m.rn,m.ye,m.KQ,by rw[iK];omega⟩,(e1.mono (by grind)).trans (e2.mono (by grind))⟩
 ·unfold B4
  simp_all
 ·have:=s1.ext e2 (by grind)
  unfold swp
  simp_all
end
structure oQ(n c:Nat)(C:Nat→Prop)(rv:Value)(r:Nat)(fp fa:Option Nat)(st:Int)(w:Nw)(l at_:List Int)(mm:Nat)(H H':Hp)(l' at':List Int)(q:Nat):Prop where
 j9:ii H' n c C rv r fp fa (min (st+q) 4611686018427387904) w l' at'
 ok:j0 l' at'
 mem:∀z,z∈l'↔z∈l
 len:l'.length=l.length
 drop:l'.drop mm=l.drop mm
 KR:at'.length=at_.length
 off:∀z:Int,0≤z→z∉l→at'[z.toNat]? =at_[z.toNat]?
 ext:ah (fun z=>C z∨fp=some z∨fa=some z) H H'
section
variable {H H1 : Hp} {n c : Nat} {C : Nat → Prop} {rv : Value} {r : Nat} {fp fa : Option Nat} {st : Int} {w : Nw} {l at_ l1 IS : List Int} {mm q : Nat}
theorem oQ.refl(m:ii H n c C rv r fp fa st w l at_)(yo:j0 l at_)(mm:Nat):oQ n c C rv r fp fa st w l at_ mm H H l at_ 0:=
 ⟨by have:=m.cells.st;grind,yo,fun _=>Iff.rfl,rfl,rfl,rfl,fun _ _ _=>rfl,ah.refl _ _⟩
theorem oQ.less(h:oQ n c C rv r fp fa st w l at_ mm H H1 l1 IS q)(ci:∀z∈l,cI w.cs z){i j:Nat}(hi:i<l.length)(hj:j<l.length):fW Tryz.prog (pv r) "Less" [i64 i,i64 j] H1 fun v H2=>
  v= .bool (aP w (l1.getD i 0) (l1.getD j 0))∧oQ n c C rv r fp fa st w l at_ mm H H2 l1 IS (q+1):=by
 have hl:=h.len
 refine⟨_,_,qM,ptr r,rfl,aS (by kernel_rfl),(G8 h.j9 (by omega) (by omega) (fun z hz=>ci z ((h.mem z).1 hz))).mono ?_⟩
 rintro v H2 ⟨hv,m2,e2⟩
 refine⟨hv,?_,h.ok,h.mem,h.len,h.drop,h.KR,h.off,h.ext.trans (e2.mono (by grind))⟩
 grind
theorem oQ.swap(h:oQ n c C rv r fp fa st w l at_ mm H H1 l1 IS q)(hm:mm≤l.length){i j:Nat}(hi:i<mm)(hj:j<mm)(NT:i≠j):fW Tryz.prog (pv r) "Swap" [i64 i,i64 j] H1 fun v H2=>
  v= .tuple [].toArray∧oQ n c C rv r fp fa st w l at_ mm H H2 (swp l1 i j) (B4 l1 IS i j) q:=by
 have hl:=h.len
 refine⟨_,_,qO,ptr r,rfl,aS (by kernel_rfl),(G9 h.j9 h.ok (i:=i) (j:=j) (by omega) (by omega) NT).mono ?_⟩
 rintro v H2 ⟨hv,m2,e2⟩
 obtain⟨a1,a2,a3⟩:=h.ok.swp (i:=i) (j:=j) (by omega) (by omega) NT
 refine⟨hv,m2,a1,fun z=>by rw[Vf (by omega) (by omega),h.mem z],by rw[iK];exact h.len,by rw[S6 hi hj (by omega)];exact h.drop,a2.trans h.KR,fun z hz hm=>?_,h.ext.trans (e2.mono fun z _ hz=>.inr hz)⟩
 rw[a3 z hz (fun h2=>hm ((h.mem z).1 h2))]
 exact h.off z hz hm
theorem te(m:ii H n c C rv r fp fa st w l at_)(yo:j0 l at_){j mm:Nat}(hj:j<mm)(hm:mm≤l.length)(ci:∀z∈l,cI w.cs z)(hA:dQ (aP w) 2 (l.take mm) j)
  (hB:∀k,1≤k→k< (l.take mm).length→pa 2 k=j→aP w ((l.take mm).getD k 0) ((l.take mm).getD j 0)=false):
  ag Tryz.prog xn [pv r,i64 j] H fun v H'=>ap (v= .tuple [].toArray∧∃ (l' at':List Int) (q:Nat),oQ n c C rv r fp fa st w l at_ mm H H' l' at' q∧eA (aP w) 2 (l'.take mm)∧q≤jj 2 j∧(1≤j→0<q)):=by
 have ho:=aw w
 have rl:=m.ll
 refine aU xX ?_
 refine vs ?_
 refine bX.intro (fun k env H'=>∃ (j':Nat) (l1 IS:List Int) (q:Nat),env=[(0,pv r),(1,i64 j')]∧k=j'∧j'<mm∧oQ n c C rv r fp fa st w l at_ mm H H' l1 IS q∧dQ (aP w) 2 (l1.take mm) j'∧
   (∀k,1≤k→k< (l1.take mm).length→pa 2 k=j'→aP w ((l1.take mm).getD k 0) ((l1.take mm).getD j' 0)=false)∧q+jj 2 j'≤jj 2 j∧(j'≠j→0<q)) j
  ⟨j,l,at_,0,rfl,rfl,hj,oQ.refl m yo mm,hA,hB,by omega,by omega⟩ ?_
 clear hA hB
 rintro j' env H1 ⟨_,l1,IS,q,rfl,rfl,hj',h1,hA,hB,hq,hq0⟩
 have Ay:=h1.len
 have Uf:=pa2 j'
 have afH:IntKind.i64.wrap ((IntKind.i64.wrap ((j':Int) - 1)).tdiv 2)=((pa 2 j':Nat):Int):=by
  rw[wrap64 (n:=(j':Int) - 1) (by omega) (by omega),Uf]
  split
  ·rename_i h;subst h;rfl
  ·grind [wrap64]
 simp(disch:=(first|omega| (simp only[Zs]<;>omega)|fail)) only[go_sem, ↓reduceIte,Zv,if_neg (show¬ ((2:Int)=0) by decide)]
 rw[afH]
 have Np:(l1.take mm).length=mm:=by rw[ao1];omega
 by_cases h0:j'=0
 ·refine ar.dl (aov (by rw[Uf,if_pos h0,h0];rfl)) ?_
  refine vs ?_
  exact⟨rfl,l1,IS,q,h1,hA.heap hB (fun h=>by omega),by omega,by omega⟩
 ·have Vh:=by omega
  refine ar.be (aow (by omega)) ?_
  refine vs ?_
  refine fW.mono (h1.less ci (i:=j') (j:=pa 2 j') (by omega) (by omega)) ?_
  rintro _ H2 ⟨rfl,h2⟩
  have Wn:jj 2 (j':Int)=jj 2 ((pa 2 j':Nat):Int)+1:=by
   obtain⟨p,hp,U8,p0,p1⟩:=oI fg (i:=(j':Int)) (by omega)
   rw[Int.toNat_natCast]at U8
   grind [rA]
  refine vs ?_
  cases bf:aP w (l1.getD j' 0) (l1.getD (pa 2 j') 0)with
  |false=>
   refine vs ?_
   refine⟨rfl,l1,IS,q+1,h2,hA.heap hB (fun _ _=>?_),by omega,fun _=>by omega⟩
   grind
  |true=>
   refine vs ?_
   refine fW.mono (h2.swap hm (i:=pa 2 j') (j:=j') (by omega) hj' (by omega)) ?_
   rintro _ H3 ⟨rfl,h3⟩
   refine vs ?_
   obtain⟨g1,g2⟩:=XJ ho (l:=l1.take mm) (i:=j') (by omega) (by omega) hA hB (by grind)
   have ht:(swp l1 (pa 2 j') j').take mm=swp (l1.take mm) (pa 2 j') j':=MT (by omega) hj' (by omega)
   exact⟨pa 2 j',by omega,pa 2 j',_,_,q+1,rfl,rfl,by omega,h3,by grind,by grind,by omega,fun _=>by omega⟩
theorem vX(m:ii H n c C rv r fp fa st w l at_)(yo:j0 l at_){i0 mm:Nat}(hi:i0<mm)(hm:mm≤l.length)(ci:∀z∈l,cI w.cs z)(hA:dQ (aP w) 2 (l.take mm) i0):
  ag Tryz.prog uc [pv r,i64 i0,i64 mm] H fun v H'=>ap (∃ (b:Bool) (l' at':List Int) (q:Nat),v= .bool b∧oQ n c C rv r fp fa st w l at_ mm H H' l' at' q∧q+2*jj 2 i0≤2*jj 2 ((mm:Int) - 1)∧
   (b=true→eA (aP w) 2 (l'.take mm))∧(b=false→l'=l∧at'=at_∧∀k,1≤k→k< (l.take mm).length→pa 2 k=i0→aP w ((l.take mm).getD k 0) ((l.take mm).getD i0 0)=false)):=by
 have ho:=aw w
 have rl:=m.ll
 refine Fz us ⟨rfl,?_⟩
 refine v1 kO.eq_1 ?_
 have SG:∀k:Nat,k<mm→jj 2 (k:Int)≤jj 2 ((mm:Int) - 1):=fun k hk=>lX fg ((mm:Int) - 1).toNat _ _ (aox _) (by omega)
 refine bX.intro (fun k env H'=>∃ (i:Nat) (l1 IS:List Int) (q:Nat),env=[(0,pv r),(1,i64 i0),(2,i64 mm),(7,i64 i)]∧k=mm - i∧i<mm∧i0≤i∧oQ n c C rv r fp fa st w l at_ mm H H' l1 IS q∧dQ (aP w) 2 (l1.take mm) i∧
   q+2*jj 2 i0≤2*jj 2 i∧(i0<i→aP w ((l1.take mm).getD i 0) ((l1.take mm).getD (pa 2 i) 0)=false)∧(i=i0→l1=l∧IS=at_)) (mm - i0)
  ⟨i0,l,at_,0,rfl,rfl,hi,aox _,oQ.refl m yo mm,hA,by omega,fun h=>by omega,by grind⟩ ?_
 clear hA
 rintro k env H1 ⟨i,l1,IS,q,rfl,rfl,him,FC,h1,hA,hq,hD,aby⟩
 have Ay:=h1.len
 have Np:(l1.take mm).length=mm:=by rw[ao1];omega
 have stay:∀ (H2:Hp) (q':Nat),oQ n c C rv r fp fa st w l at_ mm H H2 l1 IS q'→q'+2*jj 2 i0≤2*jj 2 ((mm:Int) - 1)→(∀k,1≤k→k< (l1.take mm).length→pa 2 k=i→aP w ((l1.take mm).getD k 0) ((l1.take mm).getD i 0)=false)→
   ∃ (b:Bool) (l' at':List Int) (q:Nat),Value.bool (decide ((i:Int)>i0))= .bool b∧oQ n c C rv r fp fa st w l at_ mm H H2 l' at' q∧q+2*jj 2 i0≤2*jj 2 ((mm:Int) - 1)∧
    (b=true→eA (aP w) 2 (l'.take mm))∧(b=false→l'=l∧at'=at_∧∀k,1≤k→k< (l.take mm).length→pa 2 k=i0→aP w ((l.take mm).getD k 0) ((l.take mm).getD i0 0)=false):=by
  intro H2 q' h2 hq' hB
  refine⟨_,l1,IS,q',rfl,h2,hq',fun h=>?_,fun h=>?_⟩
  ·have:=of_decide_eq_true h
   exact hA.heap hB (by grind)
  ·grind
 have Zx:∀k:Nat,1≤k→(pa 2 k=i↔(2*i+1≤k∧k≤2*i+2)):=by grind [pa]
 refine vs ?_
 have hj1:IntKind.i64.wrap (IntKind.i64.wrap (2*(i:Int))+1)=((2*i+1:Nat):Int):=by
  rw[wrap64 (n:=2*(i:Int)) (by omega) (by omega),wrap64 (by omega) (by omega)];omega
 rw[hj1]
 refine ar.dec (fun Wa=>?_) (fun Wa=>?_)
 ·refine vs ?_
  exact stay H1 q h1 (by grind) (by grind)
 refine vs ?_
 refine ar.be (by grind) ?_
 refine vs ?_
 have AA:2*i+1<mm:=by omega
 refine iD (fun e H2=>e.find 0=some (pv r)∧e.find 1=some (i64 i0)∧e.find 2=some (i64 mm)∧e.find 7=some (i64 i)∧∃ (b:Nat) (q':Nat),e.find 9=some (i64 b)∧oQ n c C rv r fp fa st w l at_ mm H H2 l1 IS q'∧q'≤q+1∧1≤b∧b<mm∧pa 2 b=i∧
   ∀k,1≤k→k< (l1.take mm).length→pa 2 k=i→aP w ((l1.take mm).getD k 0) ((l1.take mm).getD b 0)=false) ?_ ?_
 ·have T7:pa 2 (2*i+1)=i:=by grind
  refine vs ?_
  have FF:IntKind.i64.wrap (((2*i+1:Nat):Int)+1)=((2*i+2:Nat):Int):=by rw[wrap64 (by omega) (by omega)];omega
  rw[FF]
  refine ar.dec (fun h2=>?_) (fun h2=>?_)
  ·have Uf:pa 2 (2*i+2)=i:=by grind
   refine vs ?_
   refine fW.mono (h1.less ci (i:=2*i+2) (j:=2*i+1) (by omega) (by omega)) ?_
   rintro _ H2 ⟨rfl,g2⟩
   refine vs ?_
   cases bf:aP w (l1.getD (2*i+2) 0) (l1.getD (2*i+1) 0)with
   |false=>
    refine vs ?_
    refine⟨trivial,trivial,trivial,trivial,2*i+1,q+1,rfl,g2,by omega,by omega,AA,T7,fun k h3 h4 h5=>?_⟩
    have h6:=(Zx k h3).1 h5
    rw[getD_take (by omega),getD_take (by omega)]
    by_cases h7:k=2*i+1
    ·rw[h7];exact ho.Lp _
    ·rw[show k=2*i+2 by omega];exact bf
   |true=>
    refine vs ?_
    refine⟨trivial,trivial,trivial,trivial,2*i+2,q+1,rfl,g2,by omega,by omega,by omega,Uf,fun k h3 h4 h5=>?_⟩
    have h6:=(Zx k h3).1 h5
    rw[getD_take (by omega),getD_take (by omega)]
    by_cases h7:k=2*i+2
    ·rw[h7];exact ho.Lp _
    ·rw[show k=2*i+1 by omega];exact ho.yN bf
  ·refine vs ?_
   refine⟨trivial,trivial,trivial,trivial,2*i+1,q,rfl,h1,by omega,by omega,AA,T7,fun k h3 h4 h5=>?_⟩
   grind [aP]
 rintro e H2 ⟨e0,e1,e2,e7,b,q',e9,h2,hq',Mz,Xr,QV,Do⟩
 refine v5 e0 e1 e2 e7 e9 ?_
 refine fW.mono (h2.less ci (i:=b) (j:=i) (by omega) (by omega)) ?_
 rintro _ H3 ⟨rfl,h3⟩
 have Wn:jj 2 (b:Int)=jj 2 (i:Int)+1:=by
  obtain⟨p,hp,U8,p0,p1⟩:=oI fg (i:=(b:Int)) (by omega)
  rw[Int.toNat_natCast,QV]at U8
  rw[rA hp,show p=(i:Int) by omega]
 have hib:=dc fg Mz
 refine v5 e0 e1 e2 e7 e9 ?_
 cases bf:aP w (l1.getD b 0) (l1.getD i 0)with
 |false=>
  refine v5 e0 e1 e2 e7 e9 ?_
  refine stay H3 (q'+1) h3 (by grind) (fun k h4 h5 h6=>?_)
  cases ho;grind
 |true=>
  refine v5 e0 e1 e2 e7 e9 ?_
  refine fW.mono (h3.swap hm (i:=i) (j:=b) him Xr (by omega)) ?_
  rintro _ H4 ⟨rfl,h4⟩
  refine v5 e0 e1 e2 e7 e9 ?_
  obtain⟨g1,g2⟩:=S8 ho (l:=l1.take mm) (i:=i) (b:=b) Mz (by omega) QV hA Do (by grind)
  have ht:(swp l1 i b).take mm=swp (l1.take mm) i b:=MT him Xr (by omega)
  exact⟨mm - b,by omega,b,_,_,q'+1,rfl,rfl,Xr,by omega,h4,by grind,by omega,by grind,fun h=>by omega⟩
end
end Go.Proofs.YtjkkkibiegfecaaGreatDoor

namespace Go.Proofs.YtjkkkibiegfecaaGreatDoor
open Go Go.Vc
section
variable {H : Hp} {n c : Nat} {C : Nat → Prop} {rv : Value} {r : Nat} {fp fa : Option Nat} {st : Int} {w : Nw} {l at_ : List Int}
theorem Hb(m:ii H n c C rv r fp fa st w l at_)(hl:l.length<65536){x:Int}(hx:0≤x∧x.toNat<at_.length):ag Tryz.prog qN [ptr r,.iface 3 (i64 x)] H fun v H'=>ap (
  v= .tuple [].toArray∧∃di,ii H' n c C rv r di fa st w (l++[x]) (at_.set x.toNat l.length)∧ah (fun z=>fp=some z∨fa=some z∨z=r) H H'∧(di=fp∨∃z,di=some z∧H.size≤z)):=by
 obtain⟨av,hn,ha⟩:=m.own
 obtain⟨sv,ho,hs⟩:=m.j9
 obtain⟨y,hy⟩:∃y,at_[x.toNat]? =some y:=⟨_,aol hx.2⟩
 obtain⟨f,fc,la,rfl,rfl,hf,Vg,_,IR⟩:=Sl.at_ ha (i:=x.toNat) (x:=i64 y) (by simp[hy])
 obtain⟨g1,g2,g3⟩:=m.KQ f rfl
 obtain⟨sa,sc,Q0⟩:=fh.Oz hs.rd
 refine aU Df ?_
 refine vs ?_
 refine v3 (ae ho) (ae hn) Q0 ?_
 refine⟨by omega,?_⟩
 refine v3 hf aok aoi ?_
 refine⟨by omega,?_⟩
 refine v1 aoi ?_
 have e1:ah (fun z=>z=f) H (H.wr f (la.set x.toNat (i64 l.length))):=(ah.refl (fun z=>z=f) _).wr (fun _=>rfl) _
 have s1:=ha.sf hf x.toNat (i64 l.length)
 have oX:=e1.own hn (Ne.symm g2)
 have Q4:=e1.own ho (Ne.symm g3)
 have iY:=hs.ext e1 (fun z hz h=>(m.ye z hz).2.2.2 (by rw[h]))
 have c1:=m.cells.ext e1 (by grind)
 generalize H.wr f (la.set x.toNat (i64 l.length))=H1 at*
 have e2:ah (fun _=>False) H1 (H1.new 3 [i64 x]):=(ah.refl _ _).new _ _
 refine v1 (ae ho) ?_
 refine Sl.append (iY.ext e2 (fun _ _ h=>h)) (Sl.dM (size:=1) (xs:=[i64 x]) rfl rfl).rd rfl (by intro v hv;simp only[aoB]at hv;subst hv;rfl) (by omega) ?_
 intro sv' H3 di s3 e3 jg
 have z1:=e1.size
 have hrs:=aE Q4
 have hns:=aE oX
 have CJ:ah (fun z=>fp=some z) H1 H3:=(e2.mono fun _ _ h=>h.elim).oz e3 (fun z _ h=>h)
 have XH:=CJ.own Q4 (fun h=>(m.ye r h).2.2.1 rfl)
 have hn3:=CJ.own oX (fun h=>(m.ye n h).2.1 rfl)
 obtain⟨a',Uh,Lr⟩:=fh.Oz s3.rd
 subst Lr
 refine v1 XH ?_
 generalize Lr:Value.slice a' (l.length+1) Uh=v' at*
 have e4:ah (fun z=>z=r) H3 (H3.wr r [ptr n,v']):=(ah.refl (fun z=>z=r) _).wr (fun _=>rfl) _
 have hfs:=aE hf
 have OU:∀b,di=some b→fp=some b∨H1.size≤b:=fun b hb=>by
  rcases jg with h| ⟨z,h,h5,_⟩
  ·grind
  ·rw[h]at hb;injection hb with hb;subst hb;rw[ak]at h5;omega
 have GF:=c1.slt
 refine⟨rfl,di,⟨⟨_,e4.own hn3 (Ne.symm m.rn),?_⟩,(c1.ext CJ (fun z hz h=>(m.ye z h).1 hz)).ext e4 (fun z hz h=>m.rC (h▸hz)),⟨_,af XH,?_⟩,m.nC,m.rC,m.rn,fun b hb=>?_,m.KQ,by grind⟩,
  (e1.mono (by grind)).trans ((CJ.mono (by grind)).trans (e4.mono (by omega))),?_⟩
 ·have:=((s1.ext CJ (fun z hz h=>(m.ye z h).2.2.2 hz)).ext e4 (by grind))
  simp_all
 ·have:=s3.ext e4 (fun b hb h=>by
   rcases OU b hb with h5|h5
   ·exact(m.ye b h5).2.2.1 h
   ·omega)
  grind
 ·rcases OU b hb with h5|h5
  ·exact m.ye b h5
  grind
 grind
theorem IT(m:ii H n c C rv r fp fa st w l at_)(hl:0<l.length):ag Tryz.prog tB [ptr r] H fun v H'=>ap (
  (∃x,v= .iface 3 (i64 x))∧ii H' n c C rv r fp fa st w l.dropLast at_∧ah (fun z=>z=r) H H'):=by
 obtain⟨av,hn,ha⟩:=m.own
 obtain⟨sv,ho,hs⟩:=m.j9
 have rl:=m.ll
 obtain⟨x,hx⟩:∃x,l[l.length - 1]? =some x:=⟨_,aol (by omega)⟩
 obtain⟨f,cc,lb,rfl,rfl,hb,lq,_,uF⟩:=Sl.at_ hs (i:=l.length - 1) (x:=i64 x) (by simp[hx])
 have e1:IntKind.i64.wrap ((l.length:Int) - 1)=((l.length - 1:Nat):Int):=by rw[wrap64 (by omega) (by omega)];omega
 obtain⟨_,l2,c2,Eg,g2,a5,a6,a7⟩:=id hs
 injection Eg with _ _ Eg
 subst Eg
 rw[hb]at g2
 injection g2 with g2
 subst g2
 refine aU EJ ?_
 simp(disch:=(first|omega| (simp only[Zs]<;>omega)|fail)) only[go_sem, ↓reduceIte,Zv,ae ho,e1,Int.toNat_natCast]
 refine⟨by omega,?_⟩
 simp(disch:=(first|omega| (simp only[Zs]<;>omega)|fail)) only[go_sem, ↓reduceIte,Zv,ae hb,ae ho,aok,lq,e1]
 refine⟨by omega,?_⟩
 have Q0:Value.slice (if(cc:Int)=((0:Nat):Int)then some (⟨f,0,none⟩:Addr)else Option.map (fun(x:Addr)=>x.add (((0:Nat):Int).toNat*1)) (some (⟨f,0,none⟩:Addr))) (((l.length - 1:Nat):Int).toNat - ((0:Nat):Int).toNat) ((cc:Int).toNat - ((0:Nat):Int).toNat)= .slice (some ⟨f,0,none⟩) (l.length - 1) cc:=by
  split<;>rfl
 refine v2 (ae ho) ho ?_
 rw[Q0]
 have ew:ah (fun z=>z=r) H (H.wr r [ptr n,.slice (some ⟨f,0,none⟩) (l.length - 1) cc]):=(ah.refl (fun z=>z=r) _).wr (fun _=>rfl) _
 obtain⟨d1,d2,d3,d4⟩:=m.ye f rfl
 refine⟨⟨_,rfl⟩,⟨⟨_,ew.own hn (Ne.symm m.rn),ha.ext ew (fun z hz h=>(m.KQ z hz).2.2 h)⟩,m.cells.ext ew (fun z hz h=>m.rC (h▸hz)),⟨_,af ho,?_⟩,m.nC,m.rC,m.rn,m.ye,m.KQ,by grind⟩,ew⟩
 refine⟨by simp,lb,cc,by grind,ew.own hb d3,by grind,a6,?_⟩
 have hx7:((l.map i64).length)=l.length:=by simp
 rw[ao0,List.map_dropLast,aph,hx7,←a7,apB]
 grind
theorem vY(m:ii H n c C rv r fp fa st w l at_)(yo:j0 l at_)(hl:l.length<65536){x:Int}(hx:0≤x∧x.toNat<at_.length)(rS:x∉l)(XK:cI w.cs x)(ci:∀z∈l,cI w.cs z)(hh:eA (aP w) 2 l):
  ag Tryz.prog ub [pv r,.iface 3 (i64 x)] H fun v H'=>ap (v= .tuple [].toArray∧∃ (di:Option Nat) (l' at':List Int) (q:Nat),ii H' n c C rv r di fa (min (st+q) 4611686018427387904) w l' at'∧j0 l' at'∧eA (aP w) 2 l'∧(∀z,z∈l'↔z=x∨z∈l)∧l'.length=l.length+1∧
   at'.length=at_.length∧(∀z:Int,0≤z→z≠x→z∉l→at'[z.toNat]? =at_[z.toNat]?)∧q≤jj 2 l.length∧(0<l.length→0<q)∧ah (fun z=>C z∨fp=some z∨fa=some z∨z=r) H H'∧(di=fp∨∃z,di=some z∧H.size≤z)):=by
 refine aU ur ?_
 refine vs ?_
 refine fW.mono (K:=fun v H'=>v= .tuple [].toArray∧∃di,ii H' n c C rv r di fa st w (l++[x]) (at_.set x.toNat l.length)∧ah (fun z=>fp=some z∨fa=some z∨z=r) H H'∧(di=fp∨∃z,di=some z∧H.size≤z)) ⟨_,_,qN,ptr r,rfl,aS (by kernel_rfl),Hb m hl hx⟩ ?_
 rintro _ H1 ⟨rfl,di,m1,e1,mC⟩
 refine vs ?_
 refine fW.mono (K:=fun v H'=>v=i64 (l++[x]).length∧H1=H') ⟨_,_,is,ptr r,rfl,aS (by kernel_rfl),ij m1⟩ ?_
 rintro _ _ ⟨rfl,rfl⟩
 refine vs ?_
 have bu:(l++[x]).length=l.length+1:=by simp
 rw[show IntKind.i64.wrap (((l++[x]).length:Int) - 1)=((l.length:Nat):Int) by rw[bu,wrap64 (by omega) (by omega)];omega]
 have afJ:j0 (l++[x]) (at_.set x.toNat l.length):=fun i z hz=>by
  rcases Nat.lt_trichotomy i l.length with h|h|h
  ·rw[List.getElem?_append_left h]at hz
   obtain⟨a,b⟩:=yo i z hz
   grind
  ·grind
  grind
 have ht:(l++[x]).take (l++[x]).length=l++[x]:=aoP
 have Wa:∀k,k<l.length→(l++[x]).getD k 0=l.getD k 0:=by grind
 have Vh:∀k:Nat,1≤k→k<l.length+1→pa 2 k≠l.length:=by grind [pa]
 refine(te m1 afJ (j:=l.length) (mm:=(l++[x]).length) (by omega) (aox _) (fun z hz=>?_) (by
  rw[ht]
  refine⟨fun k h1 h2 h3 h4=>?_,by grind⟩
  have:=dc fg h1
  rw[Wa k (by omega),Wa _ (by omega)]
  exact hh k h1 (by omega)) (by grind)).mono ?_
 ·grind
 rintro _ H2 ⟨rfl,l',at',q,g,pG,hq,hq0⟩
 have Pz:=g.len
 rw[←Pz,aoP]at pG
 refine vs ?_
 refine⟨rfl,di,l',at',q,g.j9,g.ok,pG,fun z=>?_,by omega,by rw[g.KR,aom],fun z hz h1 h2=>?_,hq,by omega,(e1.mono (by grind)).oz g.ext (fun z WT hz=>?_),mC⟩
 ·rw[g.mem z,aoD,aoB]
  exact Or.comm
 ·rw[g.off z hz (fun h=>by rcases aoD.1 h with h|h;exact h2 h;exact h1 (aoB.1 h)),aor (by omega)]
 ·rcases hz with hz|hz|hz
  ·exact .inl hz
  ·rcases mC with h| ⟨y,h,h5⟩
   ·exact .inr (.inl (h▸hz))
   ·rw[h]at hz;injection hz with hz;omega
  ·exact .inr (.inr (.inl hz))
theorem IU(m:ii H n c C rv r fp fa st w l at_)(yo:j0 l at_){i:Nat}(hi:i<l.length)(ci:∀z∈l,cI w.cs z)(hA:dQ (aP w) 2 l i):
  ag Tryz.prog vg [pv r,i64 i] H fun v H'=>ap (v= .tuple [].toArray∧∃ (l' at':List Int) (q:Nat),oQ n c C rv r fp fa st w l at_ l.length H H' l' at' q∧eA (aP w) 2 l'∧q≤2*jj 2 ((l.length:Int) - 1)):=by
 have rl:=m.ll
 have ht:l.take l.length=l:=aoP
 refine aU vH ?_
 refine vs ?_
 refine fW.mono (K:=fun v H'=>v=i64 l.length∧H=H') ⟨_,_,is,ptr r,rfl,aS (by kernel_rfl),ij m⟩ ?_
 rintro _ _ ⟨rfl,rfl⟩
 refine vs ?_
 refine(vX m yo hi (aox _) ci (by grind)).mono ?_
 rintro _ H1 ⟨b,l1,IS,q1,rfl,g1,V0,hT,hF⟩
 have Ay:=g1.len
 cases b with
 |true=>
  have h:=hT rfl
  rw[←Ay,aoP]at h
  refine vs ?_
  exact⟨rfl,l1,IS,q1,g1,h,by omega⟩
 |false=>
  obtain⟨e1,e2,hB⟩:=hF rfl
  subst e1 e2
  refine vs ?_
  have hm:=by omega
  refine(te g1.j9 g1.ok (j:=i) (mm:=l1.length) hi (aox _) ci (by grind) hB).mono ?_
  rintro _ H2 ⟨rfl,l2,Ws,q2,g2,pG,hq2,_⟩
  have uG:=g2.len
  rw[←uG,aoP]at pG
  refine vs ?_
  refine⟨rfl,l2,Ws,q1+q2,⟨?_,g2.ok,g2.mem,g2.len,g2.drop,g2.KR,g2.off,g1.ext.trans g2.ext⟩,pG,by omega⟩
  cases g2;grind
end
end Go.Proofs.YtjkkkibiegfecaaGreatDoor
