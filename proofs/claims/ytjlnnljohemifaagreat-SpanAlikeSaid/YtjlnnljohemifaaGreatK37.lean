/- Texts put behind each other. -/
import Derived.Test.YtjlnnljohemifaaGreatK98
import Derived.Test.YtjlnnljohemifaaGreatK0
import Derived.Test.YtjlnnljohemifaaGreatK1
import Derived.Test.YtjlnnljohemifaaGreatK21
import Derived.Test.YtjlnnljohemifaaGreatK22
import Derived.Test.YtjlnnljohemifaaGreatK28
import Derived.Test.YtjlnnljohemifaaGreatK36
import Derived.KernelRfl
set_option maxRecDepth 100000
set_option maxHeartbeats 8000000
set_option linter.unusedVariables false
set_option linter.unusedSimpArgs false
namespace Go.Proofs.YtjlnnljohemifaaGreat
open Go Go.Vc
def li(n:Int)(e:Ed):Bool:=decide (0≤e.f) && decide (e.f<n) && (decide (0≤e.t) && decide (e.t<n))
def dJ(n:Int)(es:List Ed):Bool:=es.all (li n) && (decide (0≤n) && (decide (n≤4096) && decide (es.length≤65536)))
theorem fQ(n:Int)(es:List Ed):dJ n es=true↔gF n es:=by
 simp only[dJ,li,aol,anU,aoA]
 exact⟨fun⟨h1,h2,h3,h4⟩=>⟨h2,h3,h4,fun e he=>⟨(h1 e he).1.1,(h1 e he).1.2,(h1 e he).2.1,(h1 e he).2.2⟩⟩,fun h=>⟨fun e he=>have k:=h.ends e he;⟨⟨k.1,k.2.1⟩,k.2.2⟩,h.n0,h.n1,h.len⟩⟩
def F8(n:Int)(s:Value):Value:=.agg [i64 n,s].toArray
theorem CN{H:Hp}{n:Int}{a:Option Addr}{c:Nat}{es:List Ed}(h:dc H 3 (.slice a es.length c) es.length (eF es))(hm:es.length≤1000000000):
  af Tryz.prog GM [F8 n (.slice a es.length c)] H fun v H'=>aw (v= .bool (dJ n es)∧ai H H'):=by
 refine bm G3 ?_
 have f0:ai H (H.new 52 [i64 n,.slice a es.length c]):=(ag.refl _ _).new _ _
 have b0:=aB H 52 [i64 n,.slice a es.length c]
 simp(disch:=(first|omega| (simp only[Zs]<;>omega)|fail)) only[go_sem, ↓reduceIte,Zv,F8]
 generalize H.new 52 [i64 n,.slice a es.length c]=H0 at*
 have h0:=h.fresh f0
 refine bk.intro (fun m env H'=>ai H0 H'∧∃j:Nat,m=es.length - j∧j≤es.length∧(∀e∈es.take j,li n e=true)∧env=[(1,ptr H.size),(6,.slice a es.length c),(7,i64 es.length),(8,i64 j)]) es.length ⟨ag.refl _ _,0,by omega,by omega,by simp,rfl⟩ ?_
 rintro m env H1 ⟨f1,j,Va,hj,db,rfl⟩
 have h1:=h0.fresh f1
 have b1:=f1.own b0 (fun h=>h)
 refine vs ?_
 refine am.dec (fun aO=>?_) (fun aO=>?_)<;>refine vs ?_
 ·have gD:j<es.length:=by omega
  obtain⟨e,he⟩:∃e,es[j]? =some e:=⟨_,ans gD⟩
  obtain⟨_,b,o,lb,rfl,fA,oY,fR⟩:=dc.Dv h1 he
  refine⟨⟨by omega,by omega⟩,?_⟩
  have bL:=anz he
  simp(disch:=(first|omega| (simp only[Zs]<;>omega)|fail)) only[go_sem, ↓reduceIte,Zv,fA,Int.toNat_natCast,fR,gG]
  refine⟨by omega,?_⟩
  have q2:=aB H1 61 [i64 0,i64 0,i64 0]
  simp(disch:=(first|omega| (simp only[Zs]<;>omega)|fail)) only[go_sem, ↓reduceIte,Zv,fR,gG,q2]
  have q3:=ah (l:=[i64 e.f,i64 e.t,i64 e.w]) q2
  have f3:ai H1 ((H1.new 61 [i64 0,i64 0,i64 0]).wr H1.size [i64 e.f,i64 e.t,i64 e.w]):=((ag.refl _ _).new _ _:ai H1 _).then ((ag.refl (fun z=>z=H1.size) _).wr (fun _=>rfl) _) (fun z hz=>by omega)
  have b3:=f3.own b1 (fun h=>h)
  have no:li n e=false→dJ n es=false:=fun hf=>by
   unfold dJ
   rw[Bool.and_eq_false_iff]
   exact .inl (List.all_eq_false.2 ⟨e,bL,by rw[hf];simp⟩)
  generalize (H1.new 61 [i64 0,i64 0,i64 0]).wr H1.size [i64 e.f,i64 e.t,i64 e.w]=H3 at*
  have fz:=f0.trans (f1.trans f3)
  refine v2 (ae q3) (ae b3) ?_
  refine am.dec (fun g1=>?_) (fun g1=>?_)<;>refine v2 (ae q3) (ae b3) ?_
  ·exact⟨anP Value.bool (no (by simp[li];omega)).symm,fz⟩
  refine am.dec (fun g2=>?_) (fun g2=>?_)<;>refine v2 (ae q3) (ae b3) ?_
  ·exact⟨anP Value.bool (no (by simp[li];omega)).symm,fz⟩
  refine am.dec (fun g3=>?_) (fun g3=>?_)<;>refine v2 (ae q3) (ae b3) ?_
  ·exact⟨anP Value.bool (no (by simp[li];omega)).symm,fz⟩
  refine am.dec (fun g4=>?_) (fun g4=>?_)<;>refine v2 (ae q3) (ae b3) ?_
  ·exact⟨anP Value.bool (no (by simp[li];omega)).symm,fz⟩
  rw[wrap64 (n:=(j:Int)+1) (by omega) (by omega)]
  refine⟨es.length - (j+1),by omega,f1.trans f3,j+1,rfl,by omega,?_,rfl⟩
  intro e' ir
  rw[aoa,he]at ir
  rcases anH.1 ir with ir|ir
  ·exact db e' ir
  ·rw[anC.1 ir];simp[li];omega
 ·have gD:j=es.length:=by omega
  subst gD
  rw[an4]at db
  have hr:dJ n es=(decide (0≤n) && (decide (n≤4096) && decide (es.length≤65536))):=by
   unfold dJ
   rw[aoA.2 db,aoO]
  rw[hr]
  refine v1 (ae b1) ?_
  refine am.dec (fun g1=>?_) (fun g1=>?_)<;>refine v1 (ae b1) ?_
  ·refine am.dec (fun g2=>?_) (fun g2=>?_)<;>refine v1 (ae b1) ?_
   ·exact⟨by rw[anI (show 0≤n by omega),anI (show n≤4096 by omega),aoO,aoO];exact anP Value.bool (by rw[decide_eq_decide];omega),f0.trans f1⟩
   ·exact⟨by rw[anV (show¬n≤4096 by omega),apr,Bool.and_false];rfl,f0.trans f1⟩
  ·exact⟨by rw[anV (show¬0≤n by omega),apr];rfl,f0.trans f1⟩
def fE(es:List Ed)(i:Int):E2:=match es[i.toNat]? with|some e=>(e.f.toNat,e.t.toNat)|none=>(0,0)
def wE(es:List Ed)(i:Int):Int:=match es[i.toNat]? with|some e=>e.w|none=>0
theorem F9{es:List Ed}{i:Nat}{e:Ed}(h:es[i]? =some e):fE es (i:Int)=(e.f.toNat,e.t.toNat):=by unfold fE;rw[Int.toNat_natCast,h]
theorem Oy{es:List Ed}{i:Nat}{e:Ed}(h:es[i]? =some e):wE es (i:Int)=e.w:=by unfold wE;rw[Int.toNat_natCast,h]
def PP(es:List Ed)(i:Int):Prop:=0≤i∧i<es.length
theorem PP.get{es:List Ed}{i:Int}(h:PP es i):∃ (k:Nat) (e:Ed),i=(k:Int)∧es[k]? =some e∧k<es.length:=
 ⟨i.toNat,_,by have:=h.1;omega,ans (by have:=h.1;have:=h.2;omega),by have:=h.1;have:=h.2;omega⟩
def allI(n:Nat):List Int:=(List.range n).map fun i:Nat=>(i:Int)
theorem LG{n:Nat}{i:Int}:i∈allI n↔0≤i∧i<n:=by
 unfold allI
 rw[anS]
 constructor
 ·rintro⟨k,hk,rfl⟩;rw[aoy]at hk;omega
 ·intro h;exact⟨i.toNat,aoy.2 (by omega),by omega⟩
theorem Ix(n:Nat):allI (n+1)=allI n++[(n:Int)]:=by unfold allI;rw[apA,an8];rfl
theorem Bj(n:Nat):(allI n).length=n:=by simp[allI]
theorem EJ{n:Int}{es:List Ed}(h:gF n es){i:Int}(hi:PP es i):(fE es i).1<n.toNat∧(fE es i).2<n.toNat:=by
 obtain⟨k,e,rfl,he,_⟩:=hi.get
 rw[F9 he]
 have:=h.ends e (anz he)
 simp only
 omega
def eU(n:Nat)(ks:List E2):List Int:=(List.range n).map fun v=>(aF ks v:Int)
theorem CO(n:Nat)(ks:List E2):(eU n ks).length=n:=by simp[eU]
theorem vy{n:Nat}(ks:List E2){v:Nat}(h:v<n):(eU n ks)[v]? =some (aF ks v:Int):=by unfold eU;rw[anR,List.getElem?_range h];rfl
theorem PQ(n:Nat):eU n []=allI n:=rfl
theorem Nu(n:Nat)(ks:List E2)(e:E2):eU n (ks++[e])=(eU n ks).map fun x=>if x=((max (aF ks e.1) (aF ks e.2):Nat):Int)then((min (aF ks e.1) (aF ks e.2):Nat):Int)else x:=by
 unfold eU
 rw[List.map_map]
 refine apn fun v _=>?_
 rw[qC]
 unfold EP
 simp only[Function.comp_apply]
 by_cases h:aF ks v=max (aF ks e.1) (aF ks e.2)
 ·rw[if_pos h,if_pos (by rw[h])]
 ·rw[if_neg h,if_neg (by omega)]
structure jR(n:Int)(es:List Ed)(ks:List Int):Prop where
 ins:∀i∈ks,PP es i
 xV:iH (ks.map (fE es))
 all:∀u v,bH ((allI es.length).map (fE es)) u v→bH (ks.map (fE es)) u v
theorem oS{es:List Ed}{i:Int}:i∈allI es.length↔PP es i:=LG
theorem jR.sub{n:Int}{es:List Ed}{ks:List Int}(h:jR n es ks):∀i∈ks,i∈allI es.length:=fun i hi=>oS.2 (h.ins i hi)
theorem jR.aa6{n:Int}{es:List Ed}{ks:List Int}(hr:gF n es)(h:jR n es ks):∀i∈ks,(fE es i).1<n.toNat∧(fE es i).2<n.toNat:=fun i hi=>EJ hr (h.ins i hi)
def PR(es:List Ed)(ks:List Int):Prop:=Loc (fE es) (wE es) (allI es.length) ks
theorem oo(H:Hp)(n x:Int)(s:Value)(hs:∃a k c,s= .slice a k c):af Tryz.prog Fi [F8 n s,i64 x] H fun v H'=>aw (v= .bool (decide (0≤x) && decide (x<n))∧ai H H'):=by
 obtain⟨a,k,c,rfl⟩:=hs
 refine bm Fm ?_
 have f0:ai H (H.new 52 [i64 n,.slice a k c]):=(ag.refl _ _).new _ _
 have b0:=aB H 52 [i64 n,.slice a k c]
 simp(disch:=(first|omega| (simp only[Zs]<;>omega)|fail)) only[go_sem, ↓reduceIte,Zv,F8]
 refine am.dec (fun g=>?_) (fun g=>?_)<;>refine v1 (ae b0) ?_
 ·exact⟨by rw[anI (show 0≤x by omega),aoO];rfl,f0⟩
 ·exact⟨by rw[anV (show¬0≤x by omega),apr];rfl,f0⟩
theorem zr{H:Hp}{n:Int}{s:Value}{g:Nat}(e:Ed)(hg:H.own g=some [i64 n,s])(hs:∃a k c,s= .slice a k c):af Tryz.prog gS [.agg (gG e).toArray,ptr g] H fun v H'=>aw (v= .bool (!li n e)∧ai H H'):=by
 obtain⟨a,k,c,rfl⟩:=hs
 refine vl mixed (an:=DH) (by conv=>lhs;cbv) (nt:=16) (by kernel_rfl) (by simp) ?_
 have f0:ai H (H.new 61 [i64 e.f,i64 e.t,i64 e.w]):=(ag.refl _ _).new _ _
 have b0:=aB H 61 [i64 e.f,i64 e.t,i64 e.w]
 have g0:=f0.own hg (fun h=>h)
 simp(disch:=(first|omega| (simp only[Zs]<;>omega)|fail)) only[go_sem, ↓reduceIte,Zv,gG,ae b0,ae g0]
 generalize H.new 61 [i64 e.f,i64 e.t,i64 e.w]=H0 at*
 refine(oo H0 n e.f _ ⟨a,k,c,rfl⟩).mono ?_
 rintro _ H1 ⟨rfl,f1⟩
 have g1:=f1.own g0 (fun h=>h)
 have b1:=f1.own b0 (fun h=>h)
 refine v2 (ae g1) (ae b1) ?_
 unfold li
 cases hx:(decide (0≤e.f) && decide (e.f<n))
 ·refine v1 ao8 ?_
  exact⟨rfl,f0.trans f1⟩
 ·refine v3 api (ae g1) (ae b1) ?_
  refine(oo H1 n e.t _ ⟨a,k,c,rfl⟩).mono ?_
  rintro _ H2 ⟨rfl,f2⟩
  refine vs ?_
  exact⟨by rw[aoO];rfl,f0.trans (f1.trans f2)⟩
theorem tD{H:Hp}{n:Int}{s:Value}{g:Nat}{a:Option Addr}{c:Nat}{es:List Ed}(h:dc H 3 (.slice a es.length c) es.length (eF es))(hm:es.length≤1000000000)(hg:H.own g=some [i64 n,s])(hs:∃a k c,s= .slice a k c):
  af Tryz.prog gA [.slice a es.length c,.func (.func gS) #[] #[ptr g]] H fun v H'=>aw (∃i:Int,v=i64 i∧(0≤i↔es.all (li n)=false)∧ai H H'):=by
 refine bm gC ?_
 refine vs ?_
 refine bk.intro (fun m env H'=>ai H H'∧∃j:Nat,m=es.length - j∧j≤es.length∧(∀e∈es.take j,li n e=true)∧env=[(0,.slice a es.length c),(1,.func (.func gS) #[] #[ptr g]),(7,i64 es.length),(8,i64 j)]) es.length ⟨ag.refl _ _,0,by omega,by omega,by simp,rfl⟩ ?_
 rintro m env H1 ⟨f1,j,Va,hj,db,rfl⟩
 have h1:=h.fresh f1
 have g1:=f1.own hg (fun h=>h)
 refine vs ?_
 refine am.dec (fun aO=>?_) (fun aO=>?_)<;>refine vs ?_
 ·have gD:j<es.length:=by omega
  obtain⟨e,he⟩:∃e,es[j]? =some e:=⟨_,ans gD⟩
  obtain⟨_,b,o,lb,rfl,fA,oY,fR⟩:=dc.Dv h1 he
  refine⟨⟨by omega,by omega⟩,?_⟩
  have bL:=anz he
  refine v3 fA Int.toNat_natCast fR ?_
  refine⟨by omega,?_⟩
  refine v1 fR ?_
  refine⟨by kernel_rfl,?_⟩
  refine(zr e g1 hs).mono ?_
  rintro _ H2 ⟨rfl,f2⟩
  refine vs ?_
  cases hx:li n e
  ·refine v1 ao8 ?_
   refine⟨j,rfl,⟨fun _=>List.all_eq_false.2 ⟨e,bL,by rw[hx];simp⟩,fun _=>by omega⟩,f1.trans f2⟩
  ·refine v1 api ?_
   rw[wrap64 (n:=(j:Int)+1) (by omega) (by omega)]
   refine⟨es.length - (j+1),by omega,f1.trans f2,j+1,rfl,by omega,?_,rfl⟩
   intro e' ir
   rw[aoa,he]at ir
   rcases anH.1 ir with ir|ir
   ·exact db e' ir
   ·rw[anC.1 ir];exact hx
 ·refine⟨-1,rfl,?_,f1⟩
  have gD:j=es.length:=by omega
  subst gD
  rw[an4]at db
  rw[aoA.2 db]
  simp
theorem oT{H:Hp}{n:Int}{s:Value}{g:Nat}{a:Option Addr}{c:Nat}{es:List Ed}(h:dc H 3 (.slice a es.length c) es.length (eF es))(hm:es.length≤1000000000)(hg:H.own g=some [i64 n,s])(hs:∃a k c,s= .slice a k c):
  af Tryz.prog fx [.slice a es.length c,.func (.func gS) #[] #[ptr g]] H fun v H'=>aw (v= .bool (!es.all (li n))∧ai H H'):=by
 refine bm fy ?_
 refine vs ?_
 refine(tD h hm hg hs).mono ?_
 rintro _ H1 ⟨i,rfl,hi,f1⟩
 refine vs ?_
 refine⟨anP Value.bool ?_,f1⟩
 cases hx:es.all (li n)
 ·rw[hx]at hi
  exact anI (hi.2 rfl)
 ·rw[hx]at hi
  exact anV (fun h=>by cases hi.1 h)
theorem j6{H:Hp}{n:Int}{a:Option Addr}{c:Nat}{es:List Ed}(h:dc H 3 (.slice a es.length c) es.length (eF es))(hm:es.length≤1000000000):
  af Tryz.prog GQ [F8 n (.slice a es.length c)] H fun v H'=>aw (v=i64 (if dJ n es=true then 0 else 201)∧ai H H'):=by
 refine bm G7 ?_
 have f0:ai H (H.new 52 [i64 n,.slice a es.length c]):=(ag.refl _ _).new _ _
 have b0:=aB H 52 [i64 n,.slice a es.length c]
 simp(disch:=(first|omega| (simp only[Zs]<;>omega)|fail)) only[go_sem, ↓reduceIte,Zv,F8]
 generalize H.new 52 [i64 n,.slice a es.length c]=H0 at*
 have h0:=h.fresh f0
 have no:¬ (0≤n∧n≤4096∧es.length≤65536)→¬dJ n es=true:=fun hn hr=>hn ⟨((fQ n es).1 hr).n0,((fQ n es).1 hr).n1,((fQ n es).1 hr).len⟩
 refine am.dec (fun g1=>?_) (fun g1=>?_)<;>refine v1 (ae b0) ?_
 ·exact⟨by rw[if_neg (no (by omega))];rfl,f0⟩
 refine am.dec (fun g2=>?_) (fun g2=>?_)<;>refine v1 (ae b0) ?_
 ·exact⟨by rw[if_neg (no (by omega))];rfl,f0⟩
 refine am.dec (fun g3=>?_) (fun g3=>?_)<;>refine v1 (ae b0) ?_
 ·exact⟨by rw[if_neg (no (by omega))];rfl,f0⟩
 refine(oT h0 hm b0 ⟨a,es.length,c,rfl⟩).mono ?_
 rintro _ H1 ⟨rfl,f1⟩
 refine vs ?_
 cases hx:es.all (li n)
 ·refine v1 ao8 ?_
  refine⟨?_,f0.trans f1⟩
  rw[if_neg (by unfold dJ;rw[hx];simp)]
  rfl
 ·refine v1 api ?_
  refine⟨?_,f0.trans f1⟩
  rw[if_pos (by unfold dJ;rw[hx];simp;omega)]
  rfl
theorem vz(l:List Int):gz (l.map i64):=fun v hv=>by
 obtain⟨x,_,rfl⟩:=anS.1 hv
 rfl
theorem R5(n:Nat):cA [.slice none 0 0] n=List.replicate n (.slice none 0 0):=by
 unfold cA
 induction n with
 |zero=>rfl
 |succ n ih=>rw[aoc,aos,ih,aoc];rfl
structure BE(H:Hp)(B b n:Nat)(xs:Nat→List Int)(fp:Nat→Option Nat):Prop where
 TE:∃cN:List Value,H.own b=some cN∧cN.length=n∧∀i,i<n→∃sv,cN[i]? =some sv∧Sl H 1 sv (xs i).length ((xs i).map i64) (fp i)
 base:B≤b
 low:∀i,i<n→∀p,fp i=some p→B≤p∧p≠b
 apart:∀i j p,i<n→j<n→fp i=some p→fp j=some p→i=j
theorem BE.lt{H:Hp}{B b n:Nat}{xs:Nat→List Int}{fp:Nat→Option Nat}(h:BE H B b n xs fp):b<H.size:=by
 obtain⟨cN,h1,_⟩:=h.TE
 exact aA h1
theorem BE.ext{H H':Hp}{B b n:Nat}{xs:Nat→List Int}{fp:Nat→Option Nat}{S:Nat→Prop}(h:BE H B b n xs fp)(e:ag S H H')(hb:¬S b)(hs:∀i p,i<n→fp i=some p→¬S p):BE H' B b n xs fp:=by
 obtain⟨cN,h1,h2,h3⟩:=h.TE
 refine⟨⟨cN,e.own h1 hb,h2,fun i hi=>?_⟩,h.base,h.low,h.apart⟩
 obtain⟨sv,h4,h5⟩:=h3 i hi
 exact⟨sv,h4,h5.ext e (fun p hp=>hs i p hi hp)⟩
theorem BE.fresh{H H':Hp}{B b n:Nat}{xs:Nat→List Int}{fp:Nat→Option Nat}(h:BE H B b n xs fp)(e:ai H H'):BE H' B b n xs fp:=h.ext e (fun h=>h) (fun _ _ _ _ h=>h)
theorem BE.get{H:Hp}{B b n:Nat}{xs:Nat→List Int}{fp:Nat→Option Nat}(h:BE H B b n xs fp){i:Nat}(hi:i<n):∃cN sv,H.own b=some cN∧cN.length=n∧cN[i]? =some sv∧Sl H 1 sv (xs i).length ((xs i).map i64) (fp i):=by
 obtain⟨cN,h1,h2,h3⟩:=h.TE
 obtain⟨sv,h4,h5⟩:=h3 i hi
 exact⟨cN,sv,h1,h2,h4,h5⟩
theorem BE.new{T B n:Nat}(H:Hp)(hB:B≤H.size){l:List Value}(hl:l=List.replicate n (.slice none 0 0)):BE (H.new T l) B H.size n (fun _=>[]) (fun _=>none):=by
 refine⟨⟨l,aB _ _ _,by rw[hl];simp,fun i hi=>⟨.slice none 0 0,by rw[hl,aoN,if_pos hi],Sl.nil _ _⟩⟩,hB,fun i hi p hp=>(by cases hp),fun i j p _ _ hp=>(by cases hp)⟩
def HI(xs:Nat→List Int)(i:Nat)(l:List Int):Nat→List Int:=fun k=>if k=i then l else xs k
def PS(fp:Nat→Option Nat)(i:Nat)(o:Option Nat):Nat→Option Nat:=fun k=>if k=i then o else fp k
theorem BE.put{H H':Hp}{B b n:Nat}{xs:Nat→List Int}{fp:Nat→Option Nat}(h:BE H B b n xs fp){i:Nat}(hi:i<n){l:List Int}{sv:Value}{o:Option Nat}(e:ag (fun z=>fp i=some z) H H')(s:Sl H' 1 sv l.length (l.map i64) o)
  (ho:o=fp i∨∃p,o=some p∧H.size≤p∧p<H'.size){cN:List Value}(xJ:H.own b=some cN):H'.own b=some cN∧BE (H'.wr b (cN.set i sv)) B b n (HI xs i l) (PS fp i o):=by
 obtain⟨Nv,h1,h2,h3⟩:=h.TE
 rw[xJ]at h1
 injection h1 with h1
 subst h1
 have hbS:¬fp i=some b:=fun hh=>(h.low i hi b hh).2 rfl
 have PT:=e.own xJ hbS
 have hb:=aA xJ
 have hob:∀p,o=some p→p≠b:=fun p hp=>by
  rcases ho with ho| ⟨q,hq,Qu,_⟩
  ·rw[ho]at hp;exact(h.low i hi p hp).2
  ·rw[hp]at hq;injection hq with hq;omega
 refine⟨PT,⟨_,ah PT,by simpa using h2,fun k hk=>?_⟩,h.base,fun k hk p hp=>?_,fun k k' p hk J9 hp Oz=>?_⟩
 ·have ew:ag (fun z=>z=b) H' (H'.wr b (cN.set i sv)):=(ag.refl (fun z=>z=b) _).wr (fun _=>rfl) _
  unfold HI PS
  by_cases Hj:k=i
  ·subst Hj
   refine⟨sv,by rw[anB (by omega)],?_⟩
   rw[if_pos rfl,if_pos rfl]
   exact s.ext ew (fun p hp=>hob p hp)
  ·obtain⟨Vi,h4,h5⟩:=h3 k hk
   refine⟨Vi,by rw[anA (Ne.symm Hj)];exact h4,?_⟩
   rw[if_neg Hj,if_neg Hj]
   exact(h5.ext e (fun p hp Oz=>Hj (h.apart k i p hk hi hp Oz))).ext ew (fun p hp=>(h.low k hk p hp).2)
 ·unfold PS at hp
  by_cases Hj:k=i
  ·rw[if_pos Hj]at hp
   refine⟨?_,hob p hp⟩
   rcases ho with ho| ⟨q,hq,Qu,_⟩
   ·rw[ho]at hp;exact(h.low i hi p hp).1
   ·rw[hp]at hq;injection hq with hq;have:=h.base;omega
  ·rw[if_neg Hj]at hp;exact h.low k hk p hp
 ·have lt:∀j p,j<n→fp j=some p→p<H.size:=fun j p hj hp=>by
   obtain⟨_,_,h5⟩:=h3 j hj
   rw[hp]at h5
   exact Sl.lt h5
  unfold PS at hp Oz
  by_cases Hj:k=i<;>by_cases W9:k'=i
  ·omega
  ·rw[if_pos Hj]at hp
   rw[if_neg W9]at Oz
   rcases ho with ho| ⟨q,hq,Qu,_⟩
   ·rw[ho]at hp;have:=h.apart i k' p hi J9 hp Oz;omega
   ·rw[hp]at hq;injection hq with hq;have:=lt k' p J9 Oz;omega
  ·rw[if_neg Hj]at hp
   rw[if_pos W9]at Oz
   rcases ho with ho| ⟨q,hq,Qu,_⟩
   ·rw[ho]at Oz;have:=h.apart k i p hk hi hp Oz;omega
   ·rw[Oz]at hq;injection hq with hq;have:=lt k p hk hp;omega
  ·rw[if_neg Hj]at hp
   rw[if_neg W9]at Oz
   exact h.apart k k' p hk J9 hp Oz
theorem BE.tg{H H':Hp}{B b n:Nat}{xs:Nat→List Int}{fp:Nat→Option Nat}(h:BE H B b n xs fp){i:Nat}(hi:i<n){l:List Int}{sv:Value}{cN:List Value}(xJ:H.own b=some cN)(mI:cN[i]? =some sv)(e:ag (fun z=>fp i=some z) H H')(s:Sl H' 1 sv l.length (l.map i64) (fp i)):
  BE H' B b n (HI xs i l) fp:=by
 obtain⟨Nv,h1,h2,h3⟩:=h.TE
 rw[xJ]at h1
 injection h1 with h1
 subst h1
 have hbS:¬fp i=some b:=fun hh=>(h.low i hi b hh).2 rfl
 refine⟨⟨cN,e.own xJ hbS,h2,fun k hk=>?_⟩,h.base,h.low,h.apart⟩
 unfold HI
 by_cases Hj:k=i
 ·subst Hj
  exact⟨sv,mI,by rw[if_pos rfl];exact s⟩
 ·obtain⟨Vi,h4,h5⟩:=h3 k hk
  exact⟨Vi,h4,by rw[if_neg Hj];exact h5.ext e (fun p hp Oz=>Hj (h.apart k i p hk hi hp Oz))⟩
def qL(v:Nat)(e:Ed):Bool:=decide (e.f=(v:Int))
theorem R6{q:Nat→Ed→Bool}{es:List Ed}{j k:Nat}{e:Ed}(he:es[j]? =some e)(hq:∀v,q v e=decide (v=k)):
  HI (fun v=>bf (q v) 0 (es.take j)) k (bf (q k) 0 (es.take j)++[(j:Int)])=fun v=>bf (q v) 0 (es.take (j+1)):=by
 funext v
 unfold HI
 rw[BI _ he,hq]
 by_cases h:v=k
 ·subst h;simp
 ·simp[h]
theorem zt{H:Hp}{n:Int}{a:Option Addr}{c:Nat}{es:List Ed}(h:dc H 3 (.slice a es.length c) es.length (eF es))(hm:es.length≤1000000000):
  af Tryz.prog DC [F8 n (.slice a es.length c)] H fun v H'=>aw (ai H H'∧((dJ n es=false∧v= .slice none 0 0)∨
   (dJ n es=true∧∃b fp,v= .slice (some ⟨b,0,none⟩) n.toNat n.toNat∧BE H' H.size b n.toNat (fun v=>bf (qL v) 0 es) fp))):=by
 refine Gv DI ⟨rfl,?_⟩
 have f0:ai H (H.new 52 [i64 n,.slice a es.length c]):=(ag.refl _ _).new _ _
 have b0:=aB H 52 [i64 n,.slice a es.length c]
 simp(disch:=(first|omega| (simp only[Zs]<;>omega)|fail)) only[go_sem, ↓reduceIte,Zv,sA,F8]
 generalize H.new 52 [i64 n,.slice a es.length c]=H0 at*
 have h0:=h.fresh f0
 refine(j6 (n:=n) h0 hm).mono ?_
 rintro _ Hr ⟨rfl,fr⟩
 have br:=fr.own b0 (fun h=>h)
 by_cases hR:dJ n es=true
 rotate_left
 ·rw[if_neg hR]
  refine vs ?_
  exact⟨f0.trans fr,.inl ⟨by simpa using hR,rfl⟩⟩
 rw[if_pos hR]
 have Wk:=h0.fresh fr
 have Y0:=f0.trans fr
 obtain⟨L0,xM,Wh,R7⟩:=(fQ n es).1 hR
 refine vs ?_
 refine am.cF (by simp) ?_
 refine v1 (ae br) ?_
 refine⟨⟨by omega,by omega,by omega,by omega⟩,?_⟩
 have UX:=BE.new (T:=24) (B:=H.size) (n:=n.toNat) Hr Y0.size (R5 n.toNat)
 have fo:ai Hr (Hr.new 24 (cA [.slice none 0 0] n.toNat)):=(ag.refl _ _).new _ _
 have b1:=fo.own br (fun h=>h)
 have HF:=Wk.fresh fo
 have Ol:(Hr.new 24 (cA [.slice none 0 0] n.toNat)).size=Hr.size+1:=by rw[aq]
 generalize Hr.new 24 (cA [.slice none 0 0] n.toNat)=H1 at*
 have hbz:=aA br
 refine v1 (ae b1) ?_
 refine bk.intro (fun m env H'=>ai H H'∧∃ (j:Nat) (fp:Nat→Option Nat),m=es.length - j∧j≤es.length∧BE H' H.size Hr.size n.toNat (fun v=>bf (qL v) 0 (es.take j)) fp∧
  env=[(3,.slice (some ⟨Hr.size,0,none⟩) n.toNat n.toNat),(13,.slice a es.length c),(14,i64 es.length),(15,i64 j)]) es.length ⟨Y0.trans fo,0,_,by omega,by omega,UX,rfl⟩ ?_
 rintro m env H2 ⟨f2,j,fp,Va,hj,It,rfl⟩
 have h2:=h.fresh f2
 refine vs ?_
 refine am.dec (fun aO=>?_) (fun aO=>?_)<;>refine vs ?_
 ·have gD:j<es.length:=by omega
  obtain⟨e,he⟩:∃e,es[j]? =some e:=⟨_,ans gD⟩
  obtain⟨_,b,o,lb,rfl,fA,oY,fR⟩:=dc.Dv h2 he
  refine⟨⟨by omega,by omega⟩,?_⟩
  have bL:=anz he
  obtain⟨ef0,ef1,et0,et1⟩:=R7 e bL
  simp(disch:=(first|omega| (simp only[Zs]<;>omega)|fail)) only[go_sem, ↓reduceIte,Zv,fA,Int.toNat_natCast,fR,gG]
  refine⟨by omega,?_⟩
  have q2:=aB H2 61 [i64 0,i64 0,i64 0]
  simp(disch:=(first|omega| (simp only[Zs]<;>omega)|fail)) only[go_sem, ↓reduceIte,Zv,fR,gG,q2]
  have q3:=ah (l:=[i64 e.f,i64 e.t,i64 e.w]) q2
  have f3:ai H2 ((H2.new 61 [i64 0,i64 0,i64 0]).wr H2.size [i64 e.f,i64 e.t,i64 e.w]):=((ag.refl _ _).new _ _:ai H2 _).then ((ag.refl (fun z=>z=H2.size) _).wr (fun _=>rfl) _) (fun z hz=>by omega)
  have QB:((H2.new 61 [i64 0,i64 0,i64 0]).wr H2.size [i64 e.f,i64 e.t,i64 e.w]).size=H2.size+1:=by rw[ec,aq]
  have ZN:=It.lt
  generalize (H2.new 61 [i64 0,i64 0,i64 0]).wr H2.size [i64 e.f,i64 e.t,i64 e.w]=H3 at*
  have LH:=It.fresh f3
  have T6:e.f.toNat<n.toNat:=by omega
  obtain⟨cN,sv,Md,zH,xJ,Bl⟩:=LH.get T6
  have Y1:=pq (qL e.f.toNat) (es.take j) 0
  rw[aoj]at Y1
  have f13:ai H H3:=f2.trans f3
  have hq:∀v,qL v e=decide (v=e.f.toNat):=fun v=>by unfold qL;rw[decide_eq_decide];omega
  have fin:∀ (H4:Hp) (v':Value) (H5:Hp) (cO:Option Nat),ai H3 H4→Sl H5 1 v' ((bf (qL e.f.toNat) 0 (es.take j)).length+1) ((bf (qL e.f.toNat) 0 (es.take j)).map i64++[i64 j]) cO→ag (fun z=>fp e.f.toNat=some z) H4 H5→
    (cO=fp e.f.toNat∨∃p,cO=some p∧H4.size≤p∧p<H5.size)→
    H5.own Hr.size=some cN∧H5.own H2.size=some [i64 e.f,i64 e.t,i64 e.w]∧(H5.wr Hr.size (cN.set e.f.toNat v')).own H2.size=some [i64 e.f,i64 e.t,i64 e.w]∧ai H (H5.wr Hr.size (cN.set e.f.toNat v'))∧
    BE (H5.wr Hr.size (cN.set e.f.toNat v')) H.size Hr.size n.toNat (fun v=>bf (qL v) 0 (es.take (j+1))) (PS fp e.f.toNat cO):=by
   intro H4 v' H5 cO f4 s5 e5 jj
   have Vn:=LH.fresh f4
   have PU:=LH.low e.f.toNat T6
   have Xa:∀z,fp e.f.toNat=some z→z<H2.size:=fun z hz=>by
    obtain⟨_,_,_,_,_,s0⟩:=It.get T6
    rw[hz]at s0
    exact Sl.lt s0
   have ho4:=f4.own Md (fun h=>h)
   have q4:=f4.own q3 (fun h=>h)
   have q5:H5.own H2.size=some [i64 e.f,i64 e.t,i64 e.w]:=e5.own q4 (fun hh=>by have:=Xa _ hh;omega)
   obtain⟨k1,k2⟩:=Vn.put T6 (l:=bf (qL e.f.toNat) 0 (es.take j)++[(j:Int)]) e5 (by rw[anD,an8];exact s5) jj ho4
   rw[R6 he hq]at k2
   refine⟨k1,q5,by rw[pY (by omega)];exact q5,?_,k2⟩
   exact((f13.trans f4).then e5 (fun z hz=>(PU z hz).1)).then ((ag.refl (fun z=>z=Hr.size) _).wr (fun _=>rfl) _) (fun z hz=>by have:=Y0.size;omega)
  refine jX.intro (fun H'=>H'.own H2.size=some [i64 e.f,i64 e.t,i64 e.w]) q3 ?_
  refine vs ?_
  refine fV.intro (i64 e.f) (fun H' hI=>by refine v1 (ae hI) ?_;exact⟨trivial,trivial⟩) ?_
  refine vs ?_
  refine fV.intro (i64 e.f) (fun H' hI=>by refine v1 (ae hI) ?_;exact⟨trivial,trivial⟩) ?_
  refine vs ?_
  refine⟨⟨by omega,by omega⟩,?_⟩
  refine vs ?_
  have fl:ai H3 (H3.new 3 [i64 j]):=(ag.refl _ _).new _ _
  have ql:=fl.own q3 (fun h=>h)
  have Xb:=fl.own Md (fun h=>h)
  obtain⟨ra,rc,rfl,hrc⟩:=dD Bl
  refine EB.intro ?_ ?_
  ·refine v4 (ae Md) anw ant xJ ?_
   refine And.intro q3 ?_
   refine vs ?_
   refine And.intro (by first|exact ql|exact q3) ?_
   refine vs ?_
   refine Sl.append (Bl.ext fl (fun _ _ h=>h)) (Sl.cf (size:=1) (n:=1) (xs:=[i64 j]) rfl rfl).rd rfl (vz [(j:Int)]) (by omega) ?_
   intro v' H5 cO s5 e5 gu
   obtain⟨k1,k2,k3,k4,k5⟩:=fin _ v' H5 cO fl s5 e5 gu
   obtain⟨va,Xc,rfl,_⟩:=dD s5
   refine And.intro k2 ?_
   refine vs ?_
   refine⟨⟨by omega,by omega⟩,?_⟩
   refine v3 k1 anw ant ?_
   refine⟨by omega,?_⟩
   refine vs ?_
   refine And.intro (by first|exact k3|exact k2) ?_
   refine vs ?_
   rw[wrap64 (n:=(j:Int)+1) (by omega) (by omega)]
   exact⟨es.length - (j+1),by omega,k4,j+1,_,rfl,by omega,k5,rfl⟩
  ·refine vs ?_
   refine And.intro (by first|exact ql|exact q3) ?_
   refine v4 (ae Xb) anw ant xJ ?_
   refine And.intro (by first|exact ql|exact q3) ?_
   refine vs ?_
   refine Sl.append (Bl.ext fl (fun _ _ h=>h)) (Sl.cf (size:=1) (n:=1) (xs:=[i64 j]) rfl rfl).rd rfl (vz [(j:Int)]) (by omega) ?_
   intro v' H5 cO s5 e5 gu
   obtain⟨k1,k2,k3,k4,k5⟩:=fin _ v' H5 cO fl s5 e5 gu
   obtain⟨va,Xc,rfl,_⟩:=dD s5
   refine And.intro k2 ?_
   refine vs ?_
   refine⟨⟨by omega,by omega⟩,?_⟩
   refine v3 k1 anw ant ?_
   refine⟨by omega,?_⟩
   refine vs ?_
   refine And.intro (by first|exact k3|exact k2) ?_
   refine vs ?_
   rw[wrap64 (n:=(j:Int)+1) (by omega) (by omega)]
   exact⟨es.length - (j+1),by omega,k4,j+1,_,rfl,by omega,k5,rfl⟩
 ·have gD:j=es.length:=by omega
  subst gD
  rw[an4]at It
  exact⟨f2,.inr ⟨hR,Hr.size,fp,rfl,It⟩⟩
def qT(v:Nat)(e:Ed):Bool:=decide (e.f=(v:Int)) || decide (e.t=(v:Int))
theorem nK{α:Type}(p:α→Bool):∀ {l:List α} {i:Nat} {y:α} (h:l[i]? =some y) (v:α),(l.set i v).countP p+(p y).toNat=l.countP p+(p v).toNat:=by
 intro l
 induction l with
 |nil=>intro i y h;simp at h
 |cons a r ih=>
  intro i y h v
  cases i with
  |zero=>
   simp at h
   subst h
   rw[aoS,aoE,aoE]
   cases p a<;>cases p v<;>simp
  |succ i=>
   have:=ih (i:=i) (by simpa using h) v
   rw[aoe,aoE,aoE]
   omega
theorem R9{α β:Type}:∀ {L:List (α×β)},(L.map (·.1)).Nodup→∀ {a:α} {b c:β},(a,b)∈L→(a,c)∈L→b=c:=by
 intro L
 induction L with
 |nil=>intro _ a b c h;cases h
 |cons p L ih=>
  intro hd a b c h1 h2
  rw[aom,anN]at hd
  rcases anF.1 h1 with h1|h1
  ·rcases anF.1 h2 with h2|h2
   ·have:=h1.trans h2.symm
    injection this
   ·exact absurd (anS.2 ⟨_,h2,by rw[←h1]⟩) hd.1
  ·rcases anF.1 h2 with h2|h2
   ·exact absurd (anS.2 ⟨_,h1,by rw[←h2]⟩) hd.1
   ·exact ih hd.2 h1 h2
theorem dK{α:Type}{l:List α}{i j:Nat}{v:α}(h:i≠j):(l.set i v)[j]? =l[j]? :=anA h
theorem j7{α:Type}{l:List α}{i:Nat}{v x:α}(h:l[i]? =some x):(l.set i v)[i]? =some v:=anB (anu.1 h).1
theorem getD_set_ne{α:Type}{l:List α}{i j:Nat}{v d:α}(h:i≠j):(l.set i v).getD j d=l.getD j d:=by rw[anx,anx,dK h]
structure xh(es:List Ed)(n:Nat)(w:Nw)(A:Ar)(L:List ((Int×Nat)×Value))(sl:List Nat)(bl:List Int)(hl:List (Int×Nat)):Prop where
 hs:w.has 1
 len:A.g.length=n
 mo:A.mo=1
 wt:A.wt=[]
 nx:A.nx=L.length
 gn:∀x:Int,0≤x→A.bz x=if x<A.nx then 1 else 0
 lk:RH w A
 ok:w7 A
 l1:sl.length=n
 l2:bl.length=n
 l3:hl.length=n
 two:∀x∈sl,x≤2
 c1:∀ (x:Int) y,0≤x→w.cs[x.toNat]? =some y→y.1=0∨(y.1=1∧∃v:Nat,sl[v]? =some 1∧hl[v]? =some (x,A.bz x)∧y.2.1=wE es (bl.getD v 0)∧((x,A.bz x),i64 v)∈L)
 c2:∀v:Nat,sl[v]? =some 1→∃x s,0≤x∧hl[v]? =some (x,A.bz x)∧w.cs[x.toNat]? =some (1,wE es (bl.getD v 0),s)∧((x,A.bz x),i64 v)∈L
 ls:∀p∈L,0≤p.1.1∧p.1.2≤A.bz p.1.1
 nd:(L.map (·.1)).Nodup
 le:L.length≤sl.countP (fun x=>decide (x≠0))
 cn:A.ct=sl.countP (fun x=>decide (x=1))
section
variable {es : List Ed} {n : Nat} {w : Nw} {A A' : Ar} {L : List ((Int × Nat) × Value)} {sl : List Nat} {bl : List Int} {hl : List (Int × Nat)}
theorem xh.aR(h:xh es n w A L sl bl hl):L.length≤n:=by
 have:=h.le
 have:=aps (p:=fun x:Nat=>decide (x≠0)) (l:=sl)
 have:=h.l1
 omega
theorem xh.Xd(h:xh es n w A L sl bl hl){x:Int}(x0:0≤x):A.bz x≤1:=by
 rw[h.gn x x0]
 split<;>omega
theorem xh.zero(es:List Ed)(n:Nat){bl:List Int}{hl:List (Int×Nat)}(h2:bl.length=n)(h3:hl.length=n):xh es n (zj (n:Int)).make (PO (n:Int) 1) [] (List.replicate n 0) bl hl:=by
 have hgz:∀x:Int,(PO (n:Int) 1).bz x=0:=by
  intro x
  unfold Ar.bz PO
  simp only[anx,Int.toNat_natCast,aoN]
  split<;>rfl
 have hlz:∀x,¬ (PO (n:Int) 1).live x:=by
  rintro x ⟨_,hx⟩
  unfold PO at hx
  simp only[Int.toNat_natCast,aoN]at hx
  split at hx<;>simp at hx
 have hiz:∀x,¬cT (zj (n:Int)).make.cs x:=fun x hx=>lf (n:Int) x (bq.2 hx)
 have h0:∀v:Nat,(List.replicate n 0)[v]? ≠some 1:=fun v hv=>by
  have:=aoF (anz hv)
  omega
 refine⟨⟨by omega,rfl⟩,by simp[PO],rfl,rfl,rfl,fun x x0=>?_,⟨by simp[zj,PO,Nw.make],fun x=>⟨fun h=>absurd h (hiz x),fun h=>absurd h (hlz x)⟩⟩,⟨fun x hx=>(by cases hx),aoG,fun x _=>hlz x,?_,ao2 _⟩,aog,h2,h3,fun x hx=>by rw[aoF hx];omega,fun x y x0 hy=>?_,fun v hv=>absurd hv (h0 v),fun p hp=>(by cases hp),aoG,ao2 _,?_⟩
 ·rw[hgz,if_neg (by show¬x< ((0:Nat):Int);omega)]
 ·show(0:Int)=((List.replicate (n:Int).toNat ((0:Nat),false)).countP (·.2):Nat)
  rw[aoW.2]
  ·rfl
  ·intro a ha
   rw[aoF ha]
   simp
 ·have hy:(List.replicate (n:Int).toNat ((0,0,0):Ce))[x.toNat]? =some y:=hy
  exact .inl (by rw[aoF (anz hy)])
 ·rw[aoW.2]
  ·rfl
  ·intro a ha
   rw[aoF ha]
   simp
theorem xh.root(h:xh es n w A L sl bl hl){r:Nat}(hr:sl[r]? =some 0):xh es n w A L (sl.set r 2) bl hl:=by
 have k1:=nK (fun x:Nat=>decide (x≠0)) hr 2
 have k2:=nK (fun x:Nat=>decide (x=1)) hr 2
 simp at k1 k2
 have ne:∀v:Nat,sl[v]? =some 1→r≠v:=fun v hv e=>by rw[←e,hr]at hv;cases hv
 refine⟨h.hs,h.len,h.mo,h.wt,h.nx,h.gn,h.lk,h.ok,by rw[anv];exact h.l1,h.l2,h.l3,fun x hx=>?_,fun x y x0 hy=>?_,fun v hv=>?_,h.ls,h.nd,?_,?_⟩
 ·rcases aow hx with hx|hx
  ·exact h.two x hx
  ·omega
 ·rcases h.c1 x y x0 hy with g| ⟨g1,v,g2,g3⟩
  ·exact .inl g
  ·exact .inr ⟨g1,v,by rw[dK (ne v g2)];exact g2,g3⟩
 ·by_cases e:r=v
  ·subst e
   rw[j7 hr]at hv
   cases hv
  ·rw[dK e]at hv
   exact h.c2 v hv
 ·have:=h.le
  simp only[ne_eq,decide_not]at this ⊢
  omega
 ·have:=h.cn
  omega
theorem xh.take(h:xh es n w A L sl bl hl){x:Int}{y:Ce}(hf:w.first 1 x)(hy:w.cs[x.toNat]? =some y):
  ∃v:Nat,sl[v]? =some 1∧((x,A.bz x),i64 v)∈L∧(∀u:Nat,sl[u]? =some 1→wE es (bl.getD v 0)≤wE es (bl.getD u 0))∧xh es n (w.put x (0,0,0)) (A.back x) L (sl.set v 2) bl hl:=by
 obtain⟨_,f2,f3⟩:=bN.1 hf
 obtain⟨x0,x1,_⟩:=aD (w:=w) (x:=x) (by omega)
 have MV:=j0 x0 hy
 rw[f2]at MV
 have aX:w.cs.length=n:=by rw[h.lk.len];exact h.len
 have hx:0≤x∧x<n:=by omega
 rcases h.c1 x y x0 hy with h0| ⟨_,v,g2,g3,g4,g5⟩
 ·omega
 have YZ:0≤x∧x<A.g.length:=by rw[h.len];exact hx
 have hg:∀z:Int,0≤z→(A.back x).bz z=A.bz z:=by
  intro z hz
  rw[Ar.EF (A:=A) (A':=A.back x) YZ rfl hz]
  split
  ·rename_i e;rw[e]
  ·rfl
 have jQ:A.live x:=(h.lk.live x).1 ⟨x0,_,hy,by omega⟩
 have PF:A.bz x=1:=by
  rw[h.gn x x0,if_pos]
  apply anW
  intro hc
  exact h.ok.fr x (by omega) jQ
 have hwb:(A.back x).wt=[]:=by
  show(if A.bz x<A.mo then A.wt++[x]else A.wt)=[]
  rw[PF,h.mo,if_neg (by omega)]
  exact h.wt
 have k1:=nK (fun x:Nat=>decide (x≠0)) g2 2
 have k2:=nK (fun x:Nat=>decide (x=1)) g2 2
 simp at k1 k2
 refine⟨v,g2,g5,fun u hu=>?_,h.hs,by show(A.g.set _ _).length=n;rw[anv];exact h.len,h.mo,hwb,h.nx,fun z hz=>by rw[hg z hz];exact h.gn z hz,h.lk.put YZ (v:=A.bz x) rfl,h.ok.back jQ,by rw[anv];exact h.l1,h.l2,h.l3,fun z hz=>?_,fun z c z0 hc=>?_,fun u hu=>?_,fun p hp=>by have:=h.ls p hp;exact⟨this.1,by rw[hg _ this.1];exact this.2⟩,h.nd,?_,?_⟩
 ·obtain⟨z,s,z0,q1,q2,q3⟩:=h.c2 u hu
  by_cases e:z=x
  ·rw[e,hy]at q2
   injection q2 with q2
   rw[q2]at g4
   rw[←g4]
   exact aoX _
  ·have aO:=f3 z (j0 z0 q2) e
   unfold aQ at aO
   have k1:w.key x=y.2.1:=by
    unfold Nw.key
    simp only[anx,hy]
    rfl
   have k2:w.key z=wE es (bl.getD u 0):=by
    unfold Nw.key
    simp only[anx,q2]
    rfl
   rw[k1,k2,g4]at aO
   simp only[anU]at aO
   omega
 ·rcases aow hz with hz|hz
  ·exact h.two z hz
  ·omega
 ·have hc:(w.cs.set x.toNat (0,0,0))[z.toNat]? =some c:=hc
  by_cases e:z=x
  ·subst e
   rw[j7 hy]at hc
   injection hc with hc
   exact .inl (by rw[←hc])
  ·rw[dK (by omega)]at hc
   rcases h.c1 z c z0 hc with h0| ⟨q1,v',q2,q3,q4,q5⟩
   ·exact .inl h0
   ·refine .inr ⟨q1,v',?_,by rw[hg z z0];exact q3,q4,by rw[hg z z0];exact q5⟩
    rw[dK ?_]
    ·exact q2
    ·intro e2
     rw[←e2,g3]at q3
     injection q3 with q3
     injection q3 with q3
     exact e q3.symm
 ·by_cases e:v=u
  ·subst e
   rw[j7 g2]at hu
   cases hu
  ·rw[dK e]at hu
   obtain⟨z,s,z0,q1,q2,q3⟩:=h.c2 u hu
   refine⟨z,s,z0,by rw[hg z z0];exact q1,?_,by rw[hg z z0];exact q3⟩
   show(w.cs.set x.toNat (0,0,0))[z.toNat]? =_
   rw[dK ?_]
   ·exact q2
   ·intro e2
    have e3:z=x:=by omega
    rw[e3]at q3
    have:=R9 h.nd g5 q3
    injection this with _ this
    omega
 ·have:=h.le
  simp only[ne_eq,decide_not]at this ⊢
  omega
 ·show A.ct - 1=_
  have:=h.cn
  omega
theorem xh.put(h:xh es n w A L sl bl hl){x:Int}(hp:A.pick=some (x,A')){u:Nat}(hu:sl[u]? =some 0)(i:Int)(s:Int):
  (x,A.bz x+1)∉L.map (·.1)∧xh es n (w.put x (1,wE es i,s)) (A'.out x) (L++[((x,A.bz x+1),i64 u)]) (sl.set u 1) (bl.set u i) (hl.set u (x,A.bz x+1)):=by
 obtain⟨hx,my,Vd,Dl,QC,hct,hmo⟩:=Ar.vr hp h.ok
 have SX:u<n:=by have:=(anu.1 hu).1;rw[h.l1]at this;exact this
 have aX:w.cs.length=n:=by rw[h.lk.len];exact h.len
 have hAn:=h.len
 have dF:x=A.nx∧A'.nx=A.nx+1∧A'.wt=[]:=by
  unfold Ar.pick at hp
  rw[if_neg (by rw[h.wt];simp)]at hp
  split at hp
  ·cases hp
  ·injection hp with hp
   injection hp with DN sL
   exact⟨DN.symm,by rw[←sL],by rw[←sL];exact h.wt⟩
 have Iq:0≤x∧x<A'.g.length:=by rw[QC];exact hx
 have PF:∀z,A'.bz z=A.bz z:=fun z=>by unfold Ar.bz;rw[QC]
 have hg:∀z:Int,0≤z→(A'.out x).bz z=if z=x then A.bz x+1 else A.bz z:=by
  intro z hz
  rw[Ar.EF (A:=A') (A':=A'.out x) Iq rfl hz]
  rw[PF,PF]
 have S0:∀z,A'.live z↔A.live z:=fun z=>by unfold Ar.live;rw[QC]
 have TV:¬cT w.cs x:=fun hi=>my ((h.lk.live x).1 hi)
 have qH:(x,A.bz x+1)∉L.map (·.1):=fun hm=>by
  obtain⟨p,DN,sL⟩:=anS.1 hm
  have:=(h.ls p DN).2
  rw[sL]at this
  simp only at this
  omega
 have k1:=nK (fun x:Nat=>decide (x≠0)) hu 1
 have k2:=nK (fun x:Nat=>decide (x=1)) hu 1
 simp at k1 k2
 have ne:∀v:Nat,sl[v]? =some 1→u≠v:=fun v hv e=>by rw[←e,hu]at hv;cases hv
 refine⟨qH,h.hs,by show(A'.g.set _ _).length=n;rw[anv,QC];exact hAn,by show A'.mo=1;rw[hmo];exact h.mo,dF.2.2,by show A'.nx=_;rw[dF.2.1,h.nx,anD];rfl,fun z hz=>?_,h.lk.put hx (v:=A.bz x+1) ?_,?_,by rw[anv];exact h.l1,by rw[anv];exact h.l2,by rw[anv];exact h.l3,fun z hz=>?_,fun z c z0 hc=>?_,fun v hv=>?_,fun p hp=>?_,?_,?_,?_⟩
 ·rw[hg z hz,h.gn z hz,h.gn x hx.1]
  show _=if z< ((A'.nx:Nat):Int)then 1 else 0
  have h1:=dF.1
  have h2:=dF.2.1
  split<;>split<;>(try split)<;>omega
 ·show A'.g.set x.toNat (A'.bz x+1,true)=_
  rw[PF,QC]
  rfl
 ·exact w7.out (A:=A) (Iw hp h.ok) QC Iq (fun hl=>my ((S0 x).1 hl)) Vd Dl
 ·rcases aow hz with hz|hz
  ·exact h.two z hz
  ·omega
 ·have hc:(w.cs.set x.toNat (1,wE es i,s))[z.toNat]? =some c:=hc
  by_cases e:z=x
  ·subst e
   rw[anB (by omega)]at hc
   injection hc with hc
   subst hc
   have e1:(A'.out z).bz z=A.bz z+1:=by rw[hg z z0,if_pos rfl]
   refine .inr ⟨rfl,u,j7 hu,?_,?_,?_⟩
   ·rw[e1]
    exact anB (by rw[h.l3];exact SX)
   ·rw[anx,anB (by rw[h.l2];exact SX)]
    rfl
   ·rw[e1]
    simp
  ·rw[dK (by omega)]at hc
   rcases h.c1 z c z0 hc with h0| ⟨q1,v',q2,q3,q4,q5⟩
   ·exact .inl h0
   ·have e1:(A'.out x).bz z=A.bz z:=by rw[hg z z0,if_neg e]
    have nev:=ne v' q2
    exact .inr ⟨q1,v',by rw[dK nev];exact q2,by rw[dK nev,e1];exact q3,by rw[getD_set_ne nev];exact q4,by rw[e1];exact anL _ q5⟩
 ·by_cases e:u=v
  ·subst e
   have e1:(A'.out x).bz x=A.bz x+1:=by rw[hg x hx.1,if_pos rfl]
   refine⟨x,s,hx.1,?_,?_,?_⟩
   ·rw[e1]
    exact anB (by rw[h.l3];exact SX)
   ·show(w.cs.set x.toNat (1,wE es i,s))[x.toNat]? =_
    rw[anB (by omega),anx,anB (by rw[h.l2];exact SX)]
    rfl
   ·rw[e1]
    simp
  ·rw[dK e]at hv
   obtain⟨z,s',z0,q1,q2,q3⟩:=h.c2 v hv
   have ezx:z≠x:=fun e2=>by
    rw[e2]at q2
    exact TV ⟨hx.1,_,q2,by simp⟩
   have e1:(A'.out x).bz z=A.bz z:=by rw[hg z z0,if_neg ezx]
   refine⟨z,s',z0,by rw[dK e,e1];exact q1,?_,by rw[e1];exact anL _ q3⟩
   show(w.cs.set x.toNat (1,wE es i,s))[z.toNat]? =_
   rw[dK (by omega),getD_set_ne e]
   exact q2
 ·rcases anH.1 hp with hp|hp
  ·have:=h.ls p hp
   refine⟨this.1,?_⟩
   rw[hg _ this.1]
   split
   ·rename_i e;rw[e]at this;omega
   ·exact this.2
  ·rw[anC]at hp
   subst hp
   exact⟨hx.1,by rw[hg _ hx.1,if_pos rfl];exact anG _⟩
 ·rw[an8,apb,aof]
  refine⟨h.nd,by simp,fun a ha b hb e=>?_⟩
  rw[anC]at hb
  rw[e,hb]at ha
  exact qH ha
 ·have:=h.le
  rw[anD]
  simp only[ne_eq,decide_not,anM]at this ⊢
  omega
 ·show A'.ct+1=_
  rw[hct]
  have:=h.cn
  omega
theorem xh.lower(h:xh es n w A L sl bl hl){u:Nat}(hu:sl[u]? =some 1){x:Int}(x0:0≤x)(hh:hl[u]? =some (x,A.bz x)){y:Ce}(hy:w.cs[x.toNat]? =some y)(i:Int):
  xh es n (w.put x (y.1,wE es i,y.2.2)) A L sl (bl.set u i) hl:=by
 have SX:u<n:=by have:=(anu.1 hu).1;rw[h.l1]at this;exact this
 obtain⟨x',s,x0',q1,q2,q3⟩:=h.c2 u hu
 have hxx:x'=x:=by
  rw[hh]at q1
  injection q1 with q1
  injection q1 with q1
  exact q1.symm
 subst hxx
 rw[q2]at hy
 injection hy with hy
 subst hy
 have jQ:A.live x':=(h.lk.live x').1 ⟨x0,_,q2,by simp⟩
 refine⟨h.hs,h.len,h.mo,h.wt,h.nx,h.gn,h.lk.key jQ q2,h.ok,h.l1,by rw[anv];exact h.l2,h.l3,h.two,fun z c z0 hc=>?_,fun v hv=>?_,h.ls,h.nd,h.le,h.cn⟩
 ·have hc:(w.cs.set x'.toNat (1,wE es i,s))[z.toNat]? =some c:=hc
  by_cases e:z=x'
  ·subst e
   rw[j7 q2]at hc
   injection hc with hc
   subst hc
   refine .inr ⟨rfl,u,hu,hh,?_,q3⟩
   rw[anx,anB (by rw[h.l2];exact SX)]
   rfl
  ·rw[dK (by omega)]at hc
   rcases h.c1 z c z0 hc with h0| ⟨g1,v',g2,g3,g4,g5⟩
   ·exact .inl h0
   ·refine .inr ⟨g1,v',g2,g3,?_,g5⟩
    rw[getD_set_ne ?_]
    ·exact g4
    ·intro e2
     rw[←e2,hh]at g3
     injection g3 with g3
     injection g3 with g3
     exact e g3.symm
 ·by_cases e:u=v
  ·subst e
   refine⟨x',s,x0,hh,?_,q3⟩
   show(w.cs.set x'.toNat (1,wE es i,s))[x'.toNat]? =_
   rw[j7 q2,anx,anB (by rw[h.l2];exact SX)]
   rfl
  ·obtain⟨z,s',z0,g1,g2,g3⟩:=h.c2 v hv
   refine⟨z,s',z0,g1,?_,g3⟩
   show(w.cs.set x'.toNat (1,wE es i,s))[z.toNat]? =_
   rw[dK ?_,getD_set_ne e]
   ·exact g2
   ·intro e2
    have e3:z=x':=by omega
    rw[e3]at g3
    have:=R9 h.nd q3 g3
    injection this with _ this
    omega
theorem xh.room(h:xh es n w A L sl bl hl){u:Nat}(hu:sl[u]? =some 0):A.pick≠none:=by
 have k2:=nK (fun x:Nat=>decide (x≠0)) hu 1
 simp at k2
 have k3:=aps (p:=fun x:Nat=> !decide (x=0)) (l:=sl.set u 1)
 rw[anv,h.l1]at k3
 have k4:=h.le
 simp only[ne_eq,decide_not]at k4
 unfold Ar.pick
 rw[if_neg (by rw[h.wt];simp),if_neg (by rw[h.nx,h.len];omega)]
 simp
theorem xh.none_(h:xh es n w A L sl bl hl)(h0:w.len 1=0):∀v:Nat,sl[v]? ≠some 1:=fun v hv=>by
 obtain⟨x,s,x0,_,q2,_⟩:=h.c2 v hv
 exact(uC (by omega)).1 h0 x (j0 x0 q2)
def aa8(es:List Ed)(sl:List Nat)(bl:List Int)(u:Nat)(i:Int)(Iy:List Nat)(Iz:List Int):Prop:=
 (Iy=sl∧Iz=bl∧(sl[u]? =some 2∨(sl[u]? =some 1∧wE es (bl.getD u 0)≤wE es i)))∨
 (Iy=sl.set u 1∧Iz=bl.set u i∧(sl[u]? =some 0∨(sl[u]? =some 1∧wE es i<wE es (bl.getD u 0))))
structure Nx(es:List Ed)(D:Nat→Prop)(o:List Nat)(k:Nat→Int)(T:List Int)(sl:List Nat)(bl:List Int)(left:List Int):Prop where
 P:kj (fE es) (wE es) (allI es.length) T o k (fun v=>sl[v]? =some 1) (fun v=>bl.getD v 0) left
 d:∀v:Nat,sl[v]? =some 2↔D v∨v∈o
 mc:∀v,D v→v∉o
 shut:∀i∈allI es.length,∀v,Touch (fE es i) v→D v→D (other (fE es i) v)
theorem Nx.offer{D:Nat→Prop}{o:List Nat}{k:Nat→Int}{T:List Int}{Iy:List Nat}{Iz:List Int}{i:Int}{left:List Int}{v u:Nat}(h:Nx es D o k T sl bl (i::left))(hv:o[o.length - 1]? =some v)(hi:i∈allI es.length)(ht:Touch (fE es i) v)(hu:u=other (fE es i) v)(SX:u<bl.length)(WS:aa8 es sl bl u i Iy Iz):
  Nx es D o k T Iy Iz left:=by
 have hvo:v∈o:=anz hv
 have hnD:¬D v:=fun hd=>h.mc v hd hvo
 have hou:=J5 ht
 rw[←hu]at hou
 have huD:¬D u:=fun hd=>hnD (by have:=h.shut i hi u hou.1 hd;rw[hou.2]at this;exact this)
 rcases WS with ⟨rfl,rfl,hs⟩| ⟨rfl,rfl,hs⟩
 ·refine⟨h.P.skip hv fun u' _ hu'=>?_,h.d,h.mc,h.shut⟩
  rw[←hu]at hu'
  subst hu'
  rcases hs with hs|hs
  ·exact .inl (((h.d u').1 hs).resolve_left huD)
  ·exact .inr hs
 ·have bK:u∉o:=fun hm=>by
   have:=(h.d u).2 (.inr hm)
   rcases hs with hs| ⟨hs,_⟩<;>rw[this]at hs<;>cases hs
  obtain⟨c0,lu⟩:∃c,sl[u]? =some c:=by rcases hs with hs| ⟨hs,_⟩<;>exact⟨_,hs⟩
  have P:=h.P.offer hv hi ht hu bK (fun hw=>by
   rcases hs with hs| ⟨_,hs⟩
   ·rw[hs]at hw;cases hw
   ·exact Int.le_of_lt hs)
  have e1:(fun y:Nat=>sl[y]? =some 1∨y=u)=fun y=>(sl.set u 1)[y]? =some 1:=by
   funext y
   by_cases e:u=y
   ·subst e
    rw[j7 lu]
    simp
   ·rw[dK e]
    simp[Ne.symm e]
  have e2:(fun y:Nat=>if y=u then i else bl.getD y 0)=fun y=>(bl.set u i).getD y 0:=by
   funext y
   by_cases e:u=y
   ·subst e
    rw[if_pos rfl,anx,anB SX]
    rfl
   ·rw[if_neg (Ne.symm e),getD_set_ne e]
  rw[e1,e2]at P
  refine⟨P,fun y=>?_,h.mc,h.shut⟩
  by_cases e:u=y
  ·subst e
   rw[j7 lu]
   refine⟨fun h=>(by cases h),fun h=>?_⟩
   rcases h with h|h
   ·exact absurd h huD
   ·exact absurd h bK
  ·rw[dK e]
   exact h.d y
theorem kj.only{α:Type}{e:α→E2}{w:α→Int}{E T:List α}{o:List Nat}{k:Nat→Int}{wt:Nat→Prop}{b:Nat→α}{left Vo:List α}(P:kj e w E T o k wt b left){v:Nat}(hv:o[o.length - 1]? =some v)(hs:∀i∈E,Touch (e i) v→i∈Vo):kj e w E T o k wt b Vo:=by
 refine⟨P.IN,P.wait,fun i hi a va ha tt=>?_,P.loc,P.out,P.nd⟩
 rcases P.Dv i hi a va ha tt with ⟨h1,_⟩|h
 ·refine .inl ⟨h1,hs i hi ?_⟩
  have:a=o.length - 1:=by omega
  rw[this,hv]at ha
  injection ha with ha
  rw[ha]
  exact tt
 ·exact .inr h
theorem Bm{n:Int}(hr:gF n es){v:Nat}{i:Int}(hi:i∈allI es.length):Touch (fE es i) v↔i∈bf (qT v) 0 es:=by
 obtain⟨k,e,rfl,he,hk⟩:=PP.get (oS.1 hi)
 have hb:=hr.ends e (anz he)
 rw[ET,F9 he]
 unfold Touch
 constructor
 ·intro ht
  refine⟨k,e,he,?_,by omega⟩
  simp only[qT,ape,anU]
  simp only at ht
  omega
 ·rintro⟨j,e',ir,hq,hj⟩
  have:j=k:=by omega
  subst this
  rw[he]at ir
  injection ir with ir
  subst ir
  simp only[qT,ape,anU]at hq
  simp only
  omega
theorem Xe{v:Nat}{i:Int}(h:i∈bf (qT v) 0 es):i∈allI es.length:=by
 obtain⟨k,e,he,_,rfl⟩:=(ET _ _ _ _).1 h
 have:=(anu.1 he).1
 rw[LG]
 omega
def Y2(es:List Ed)(T:List Int)(sl:List Nat):Prop:=xq (fE es) (wE es) (allI es.length) T (fun v=>sl[v]? =some 2)∧∀v:Nat,sl[v]? ≠some 1
structure GrT(es:List Ed)(T T0:List Int)(D:Nat→Prop)(o:List Nat):Prop where
 xV:iH (T.map (fE es))
 ins:∀i∈T,i∈allI es.length∧(D (fE es i).1∨(fE es i).1∈o)∧(D (fE es i).2∨(fE es i).2∈o)
 sub:∀i∈T0,i∈T
theorem Nx.begin{n:Int}(hr:gF n es){T:List Int}(h:Y2 es T sl){r:Nat}(Wk:sl[r]? =some 0):Nx es (fun v=>sl[v]? =some 2) [r] (fun _=>0) T (sl.set r 2) bl (bf (qT r) 0 es)∧GrT es T T (fun v=>sl[v]? =some 2) [r]:=by
 refine⟨⟨?_,fun v=>?_,fun v hv hm=>?_,h.1.shut⟩,h.1.xV,fun i hi=>⟨(h.1.ins i hi).1,.inl (h.1.ins i hi).2.1,.inl (h.1.ins i hi).2.2⟩,fun i hi=>hi⟩
 ·have P:=kj.begin (e:=fE es) (w:=wE es) (E:=allI es.length) (T:=T) (fun _=>0) (fun v=>bl.getD v 0) r
  have e1:(fun _:Nat=>False)=fun v=>(sl.set r 2)[v]? =some 1:=by
   funext v
   by_cases e:r=v
   ·subst e;rw[j7 Wk];simp
   ·rw[dK e];exact(eq_false (h.2 v)).symm
  rw[e1]at P
  exact P.only rfl fun i hi ht=>(Bm hr hi).1 ht
 ·by_cases e:r=v
  ·subst e;rw[j7 Wk];simp
  ·rw[dK e,anC]
   simp[Ne.symm e]
 ·rw[anC]at hm
  rw[hm,Wk]at hv
  cases hv
theorem Nx.enter{n:Int}(hr:gF n es){D:Nat→Prop}{o:List Nat}{k:Nat→Int}{T T0:List Int}(h:Nx es D o k T sl bl [])(t:GrT es T T0 D o){v:Nat}(hv:sl[v]? =some 1)(OM:∀u:Nat,sl[u]? =some 1→wE es (bl.getD v 0)≤wE es (bl.getD u 0)):
  Nx es D (o++[v]) (fun a=>if a=o.length then wE es (bl.getD v 0)else k a) (T++[bl.getD v 0]) (sl.set v 2) bl (bf (qT v) 0 es)∧GrT es (T++[bl.getD v 0]) T0 D (o++[v])∧bl.getD v 0∈allI es.length:=by
 obtain⟨c,vc,hc,hbE,htc,hox,_⟩:=h.P.wait v hv
 have hvD:¬ (D v∨v∈o):=fun hd=>by
  rw[(h.d v).2 hd]at hv
  cases hv
 have P:=h.P.enter (k':=fun a=>if a=o.length then wE es (bl.getD v 0)else k a) hv OM (fun a ha=>if_neg (by omega)) (if_pos rfl)
 have e1:(fun y:Nat=>sl[y]? =some 1∧y≠v)=fun y=>(sl.set v 2)[y]? =some 1:=by
  funext y
  by_cases e:v=y
  ·subst e;rw[j7 hv];simp
  ·rw[dK e];simp[Ne.symm e]
 rw[e1]at P
 have hvc:vc∈o:=anz hc
 refine⟨⟨P.only (v:=v) (by simp) fun i hi ht=>(Bm hr hi).1 ht,fun y=>?_,fun y hy hm=>?_,h.shut⟩,⟨?_,fun i hi=>?_,fun i hi=>anL _ (t.sub i hi)⟩,hbE⟩
 ·by_cases e:v=y
  ·subst e;rw[j7 hv];simp
  ·rw[dK e,h.d y,anH,anC]
   simp[Ne.symm e]
 ·rcases anH.1 hm with hm|hm
  ·exact h.mc y hy hm
  ·rw[anC]at hm
   exact hvD (.inl (by rw[←hm];exact hy))
 ·refine OO (done:=fun y=>D y∨y∈o) t.xV (fun i hi=>(t.ins i hi).2) htc (.inr hvc) ?_
  rw[hox]
  exact hvD
 ·have imp:∀y,D y∨y∈o→D y∨y∈o++[v]:=fun y hy=>hy.imp_right fun h=>anL _ h
  rcases anH.1 hi with hi|hi
  ·exact⟨(t.ins i hi).1,imp _ (t.ins i hi).2.1,imp _ (t.ins i hi).2.2⟩
  ·rw[anC]at hi
   subst hi
   refine⟨hbE,?_⟩
   have hvm:v∈o++[v]:=by simp
   have Fx:vc∈o++[v]:=anL _ hvc
   unfold other at hox
   rcases htc with h1|h1
   ·have h2:(fE es (bl.getD v 0)).2=v:=by omega
    exact⟨.inr (by rw[h1];exact Fx),.inr (by rw[h2];exact hvm)⟩
   ·have h2:(fE es (bl.getD v 0)).1=v:=by omega
    exact⟨.inr (by rw[h2];exact hvm),.inr (by rw[h1];exact Fx)⟩
theorem Nx.over{D:Nat→Prop}{o:List Nat}{k:Nat→Int}{T T0:List Int}(h0:xq (fE es) (wE es) (allI es.length) T0 D)(h:Nx es D o k T sl bl [])(t:GrT es T T0 D o)(hn:∀v:Nat,sl[v]? ≠some 1):Y2 es T sl:=by
 have:=h0.over t.sub h.P hn t.xV t.ins
 refine⟨?_,hn⟩
 have e1:(fun v=>D v∨v∈o)=fun v:Nat=>sl[v]? =some 2:=by
  funext v
  exact propext (h.d v).symm
 rw[e1]at this
 exact this
theorem Y2.VQ{n:Int}(hr:gF n es){T:List Int}(h:Y2 es T sl)(hl:∀v:Nat,v<n.toNat→sl[v]? =some 2):jR n es T∧PR es T:=by
 obtain⟨h1,h2,h3,h4⟩:=h.1.VQ fun i hi=>by
  have:=EJ hr (oS.1 hi)
  exact⟨hl _ this.1,hl _ this.2⟩
 refine⟨⟨fun i hi=>oS.1 (h2 i hi),h1,fun u v hh=>?_⟩,h3⟩
 exact pk (fun x hx=>by obtain⟨i,hi,rfl⟩:=anS.1 hx;exact h4 i hi) hh
end
end Go.Proofs.YtjlnnljohemifaaGreat
