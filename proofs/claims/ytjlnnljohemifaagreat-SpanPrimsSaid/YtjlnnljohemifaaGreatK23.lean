/- Texts put behind each other. -/
import Derived.Test.YtjlnnljohemifaaGreatK98
import Derived.Test.YtjlnnljohemifaaGreatK0
import Derived.Test.YtjlnnljohemifaaGreatK1
import Derived.Test.YtjlnnljohemifaaGreatK17
import Derived.Test.YtjlnnljohemifaaGreatK19
import Derived.Test.YtjlnnljohemifaaGreatK20
import Derived.Test.YtjlnnljohemifaaGreatK21
import Derived.Test.YtjlnnljohemifaaGreatK22
import Derived.KernelRfl
set_option maxRecDepth 100000
set_option maxHeartbeats 8000000
set_option linter.unusedVariables false
set_option linter.unusedSimpArgs false
namespace Go.Proofs.YtjlnnljohemifaaGreat
open Go Go.Vc
theorem mV(H:Hp)(n x:Int)(s:Value)(hs:∃a k c,s= .slice a k c):af Tryz.prog DR [yg n s,i64 x] H fun v H'=>ar (v= .bool (decide (0≤x) && decide (x<n))∧ah H H'):=by
 obtain⟨a,k,c,rfl⟩:=hs
 refine aP DX ?_
 have f0:ah H (H.new 52 [i64 n,.slice a k c]):=(ag.refl _ _).new _ _
 have b0:=ax H 52 [i64 n,.slice a k c]
 simp(disch:=(first|omega| (simp only[Zs]<;>omega)|fail)) only[go_sem, ↓reduceIte,Zv,yg]
 refine ak.dec (fun g=>?_) (fun g=>?_)<;>refine v1 (ae b0) ?_
 ·exact⟨by rw[anp (show 0≤x by omega),aov];rfl,f0⟩
 ·exact⟨by rw[anD (show¬0≤x by omega),aoX];rfl,f0⟩
theorem yi{H:Hp}{n:Int}{s:Value}{g:Nat}(e:Ed)(hg:H.own g=some [i64 n,s])(hs:∃a k c,s= .slice a k c):af Tryz.prog gJ [.agg (ed e).toArray,ptr g] H fun v H'=>ar (v= .bool (!kC n e)∧ah H H'):=by
 obtain⟨a,k,c,rfl⟩:=hs
 refine ud mixed (an:=CH) (by conv=>lhs;cbv) (nt:=16) (by kernel_rfl) (by simp) ?_
 have f0:ah H (H.new 61 [i64 e.f,i64 e.t,i64 e.w]):=(ag.refl _ _).new _ _
 have b0:=ax H 61 [i64 e.f,i64 e.t,i64 e.w]
 have g0:=f0.own hg (fun h=>h)
 simp(disch:=(first|omega| (simp only[Zs]<;>omega)|fail)) only[go_sem, ↓reduceIte,Zv,ed,ae b0,ae g0]
 generalize H.new 61 [i64 e.f,i64 e.t,i64 e.w]=H0 at*
 refine(mV H0 n e.f _ ⟨a,k,c,rfl⟩).mono ?_
 rintro _ H1 ⟨rfl,f1⟩
 have g1:=f1.own g0 (fun h=>h)
 have b1:=f1.own b0 (fun h=>h)
 refine v2 (ae g1) (ae b1) ?_
 unfold kC
 cases hx:(decide (0≤e.f) && decide (e.f<n))
 ·refine v1 aoT ?_
  exact⟨rfl,f0.trans f1⟩
 ·refine v3 ao6 (ae g1) (ae b1) ?_
  refine(mV H1 n e.t _ ⟨a,k,c,rfl⟩).mono ?_
  rintro _ H2 ⟨rfl,f2⟩
  refine vs ?_
  exact⟨by rw[aov];rfl,f0.trans (f1.trans f2)⟩
theorem se{H:Hp}{n:Int}{s:Value}{g:Nat}{a:Option Addr}{c:Nat}{es:List Ed}(h:cI H 3 (.slice a es.length c) es.length (dM es))(hm:es.length≤1000000000)(hg:H.own g=some [i64 n,s])(hs:∃a k c,s= .slice a k c):
  af Tryz.prog gk [.slice a es.length c,.func (.func gJ) #[] #[ptr g]] H fun v H'=>ar (∃i:Int,v=i64 i∧(0≤i↔es.all (kC n)=false)∧ah H H'):=by
 refine aP gu ?_
 refine vs ?_
 refine aT.intro (fun m env H'=>ah H H'∧∃j:Nat,m=es.length - j∧j≤es.length∧(∀e∈es.take j,kC n e=true)∧env=[(0,.slice a es.length c),(1,.func (.func gJ) #[] #[ptr g]),(7,i64 es.length),(8,i64 j)]) es.length ⟨ag.refl _ _,0,by omega,by omega,by simp,rfl⟩ ?_
 rintro m env H1 ⟨f1,j,SO,hj,cR,rfl⟩
 have h1:=h.fresh f1
 have g1:=f1.own hg (fun h=>h)
 refine vs ?_
 refine ak.dec (fun aK=>?_) (fun aK=>?_)<;>refine vs ?_
 ·have fF:j<es.length:=by omega
  obtain⟨e,he⟩:∃e,es[j]? =some e:=⟨_,am8 fF⟩
  obtain⟨_,b,o,lb,rfl,eG,mJ,ef⟩:=cI.CA h1 he
  refine⟨⟨by omega,by omega⟩,?_⟩
  have bF:=ang he
  refine v3 eG Int.toNat_natCast ef ?_
  refine⟨by omega,?_⟩
  refine v1 ef ?_
  refine⟨by kernel_rfl,?_⟩
  refine(yi e g1 hs).mono ?_
  rintro _ H2 ⟨rfl,f2⟩
  refine vs ?_
  cases hx:kC n e
  ·refine v1 aoT ?_
   refine⟨j,rfl,⟨fun _=>List.all_eq_false.2 ⟨e,bF,by rw[hx];simp⟩,fun _=>by omega⟩,f1.trans f2⟩
  ·refine v1 ao6 ?_
   rw[wrap64 (n:=(j:Int)+1) (by omega) (by omega)]
   refine⟨es.length - (j+1),by omega,f1.trans f2,j+1,rfl,by omega,?_,rfl⟩
   intro e' im
   rw[anN,he]at im
   rcases ann.1 im with im|im
   ·exact cR e' im
   ·rw[anj.1 im];exact hx
 ·refine⟨-1,rfl,?_,f1⟩
  have fF:j=es.length:=by omega
  subst fF
  rw[anJ]at cR
  rw[aok.2 cR]
  simp
theorem nK{H:Hp}{n:Int}{s:Value}{g:Nat}{a:Option Addr}{c:Nat}{es:List Ed}(h:cI H 3 (.slice a es.length c) es.length (dM es))(hm:es.length≤1000000000)(hg:H.own g=some [i64 n,s])(hs:∃a k c,s= .slice a k c):
  af Tryz.prog fi [.slice a es.length c,.func (.func gJ) #[] #[ptr g]] H fun v H'=>ar (v= .bool (!es.all (kC n))∧ah H H'):=by
 refine aP fj ?_
 refine vs ?_
 refine(se h hm hg hs).mono ?_
 rintro _ H1 ⟨i,rfl,hi,f1⟩
 refine vs ?_
 refine⟨anx Value.bool ?_,f1⟩
 cases hx:es.all (kC n)
 ·rw[hx]at hi
  exact anp (hi.2 rfl)
 ·rw[hx]at hi
  exact anD (fun h=>by cases hi.1 h)
theorem oR{H:Hp}{n:Int}{a:Option Addr}{c:Nat}{es:List Ed}(h:cI H 3 (.slice a es.length c) es.length (dM es))(hm:es.length≤1000000000):
  af Tryz.prog FP [yg n (.slice a es.length c)] H fun v H'=>ar (v=i64 (if dP n es=true then 0 else 201)∧ah H H'):=by
 refine aP F4 ?_
 have f0:ah H (H.new 52 [i64 n,.slice a es.length c]):=(ag.refl _ _).new _ _
 have b0:=ax H 52 [i64 n,.slice a es.length c]
 simp(disch:=(first|omega| (simp only[Zs]<;>omega)|fail)) only[go_sem, ↓reduceIte,Zv,yg]
 generalize H.new 52 [i64 n,.slice a es.length c]=H0 at*
 have h0:=h.fresh f0
 have no:¬ (0≤n∧n≤4096∧es.length≤65536)→¬dP n es=true:=fun hn hr=>hn ⟨((fM n es).1 hr).n0,((fM n es).1 hr).n1,((fM n es).1 hr).len⟩
 refine ak.dec (fun g1=>?_) (fun g1=>?_)<;>refine v1 (ae b0) ?_
 ·exact⟨by rw[if_neg (no (by omega))];rfl,f0⟩
 refine ak.dec (fun g2=>?_) (fun g2=>?_)<;>refine v1 (ae b0) ?_
 ·exact⟨by rw[if_neg (no (by omega))];rfl,f0⟩
 refine ak.dec (fun g3=>?_) (fun g3=>?_)<;>refine v1 (ae b0) ?_
 ·exact⟨by rw[if_neg (no (by omega))];rfl,f0⟩
 refine(nK h0 hm b0 ⟨a,es.length,c,rfl⟩).mono ?_
 rintro _ H1 ⟨rfl,f1⟩
 refine vs ?_
 cases hx:es.all (kC n)
 ·refine v1 aoT ?_
  refine⟨?_,f0.trans f1⟩
  rw[if_neg (by unfold dP;rw[hx];simp)]
  rfl
 ·refine v1 ao6 ?_
  refine⟨?_,f0.trans f1⟩
  rw[if_pos (by unfold dP;rw[hx];simp;omega)]
  rfl
theorem uq(l:List Int):gv (l.map i64):=fun v hv=>by
 obtain⟨x,_,rfl⟩:=anv.1 hv
 rfl
theorem QV(n:Nat):cz [.slice none 0 0] n=List.replicate n (.slice none 0 0):=by
 unfold cz
 induction n with
 |zero=>rfl
 |succ n ih=>rw[anS,an9,ih,anS];rfl
structure AG(H:Hp)(B b n:Nat)(xs:Nat→List Int)(fp:Nat→Option Nat):Prop where
 Sv:∃cN:List Value,H.own b=some cN∧cN.length=n∧∀i,i<n→∃sv,cN[i]? =some sv∧Sl H 1 sv (xs i).length ((xs i).map i64) (fp i)
 base:B≤b
 low:∀i,i<n→∀p,fp i=some p→B≤p∧p≠b
 apart:∀i j p,i<n→j<n→fp i=some p→fp j=some p→i=j
theorem AG.lt{H:Hp}{B b n:Nat}{xs:Nat→List Int}{fp:Nat→Option Nat}(h:AG H B b n xs fp):b<H.size:=by
 obtain⟨cN,h1,_⟩:=h.Sv
 exact az h1
theorem AG.ext{H H':Hp}{B b n:Nat}{xs:Nat→List Int}{fp:Nat→Option Nat}{S:Nat→Prop}(h:AG H B b n xs fp)(e:ag S H H')(hb:¬S b)(hs:∀i p,i<n→fp i=some p→¬S p):AG H' B b n xs fp:=by
 obtain⟨cN,h1,h2,h3⟩:=h.Sv
 refine⟨⟨cN,e.own h1 hb,h2,fun i hi=>?_⟩,h.base,h.low,h.apart⟩
 obtain⟨sv,h4,h5⟩:=h3 i hi
 exact⟨sv,h4,h5.ext e (fun p hp=>hs i p hi hp)⟩
theorem AG.fresh{H H':Hp}{B b n:Nat}{xs:Nat→List Int}{fp:Nat→Option Nat}(h:AG H B b n xs fp)(e:ah H H'):AG H' B b n xs fp:=h.ext e (fun h=>h) (fun _ _ _ _ h=>h)
theorem AG.get{H:Hp}{B b n:Nat}{xs:Nat→List Int}{fp:Nat→Option Nat}(h:AG H B b n xs fp){i:Nat}(hi:i<n):∃cN sv,H.own b=some cN∧cN.length=n∧cN[i]? =some sv∧Sl H 1 sv (xs i).length ((xs i).map i64) (fp i):=by
 obtain⟨cN,h1,h2,h3⟩:=h.Sv
 obtain⟨sv,h4,h5⟩:=h3 i hi
 exact⟨cN,sv,h1,h2,h4,h5⟩
theorem AG.new{T B n:Nat}(H:Hp)(hB:B≤H.size){l:List Value}(hl:l=List.replicate n (.slice none 0 0)):AG (H.new T l) B H.size n (fun _=>[]) (fun _=>none):=by
 refine⟨⟨l,ax _ _ _,by rw[hl];simp,fun i hi=>⟨.slice none 0 0,by rw[hl,aoy,if_pos hi],Sl.nil _ _⟩⟩,hB,fun i hi p hp=>(by cases hp),fun i j p _ _ hp=>(by cases hp)⟩
def GG(xs:Nat→List Int)(i:Nat)(l:List Int):Nat→List Int:=fun k=>if k=i then l else xs k
def ON(fp:Nat→Option Nat)(i:Nat)(o:Option Nat):Nat→Option Nat:=fun k=>if k=i then o else fp k
theorem AG.put{H H':Hp}{B b n:Nat}{xs:Nat→List Int}{fp:Nat→Option Nat}(h:AG H B b n xs fp){i:Nat}(hi:i<n){l:List Int}{sv:Value}{o:Option Nat}(e:ag (fun z=>fp i=some z) H H')(s:Sl H' 1 sv l.length (l.map i64) o)
  (ho:o=fp i∨∃p,o=some p∧H.size≤p∧p<H'.size){cN:List Value}(wF:H.own b=some cN):H'.own b=some cN∧AG (H'.wr b (cN.set i sv)) B b n (GG xs i l) (ON fp i o):=by
 obtain⟨Mq,h1,h2,h3⟩:=h.Sv
 rw[wF]at h1
 injection h1 with h1
 subst h1
 have hbS:¬fp i=some b:=fun hh=>(h.low i hi b hh).2 rfl
 have OO:=e.own wF hbS
 have hb:=az wF
 have hob:∀p,o=some p→p≠b:=fun p hp=>by
  rcases ho with ho| ⟨q,hq,Pv,_⟩
  ·rw[ho]at hp;exact(h.low i hi p hp).2
  ·rw[hp]at hq;injection hq with hq;omega
 refine⟨OO,⟨_,ai OO,by simpa using h2,fun k hk=>?_⟩,h.base,fun k hk p hp=>?_,fun k k' p hk JM hp NB=>?_⟩
 ·have ew:ag (fun z=>z=b) H' (H'.wr b (cN.set i sv)):=(ag.refl (fun z=>z=b) _).wr (fun _=>rfl) _
  unfold GG ON
  by_cases Gc:k=i
  ·subst Gc
   refine⟨sv,by rw[ani (by omega)],?_⟩
   rw[if_pos rfl,if_pos rfl]
   exact s.ext ew (fun p hp=>hob p hp)
  ·obtain⟨Um,h4,h5⟩:=h3 k hk
   refine⟨Um,by rw[anh (Ne.symm Gc)];exact h4,?_⟩
   rw[if_neg Gc,if_neg Gc]
   exact(h5.ext e (fun p hp NB=>Gc (h.apart k i p hk hi hp NB))).ext ew (fun p hp=>(h.low k hk p hp).2)
 ·unfold ON at hp
  by_cases Gc:k=i
  ·rw[if_pos Gc]at hp
   refine⟨?_,hob p hp⟩
   rcases ho with ho| ⟨q,hq,Pv,_⟩
   ·rw[ho]at hp;exact(h.low i hi p hp).1
   ·rw[hp]at hq;injection hq with hq;have:=h.base;omega
  ·rw[if_neg Gc]at hp;exact h.low k hk p hp
 ·have lt:∀j p,j<n→fp j=some p→p<H.size:=fun j p hj hp=>by
   obtain⟨_,_,h5⟩:=h3 j hj
   rw[hp]at h5
   exact Sl.lt h5
  unfold ON at hp NB
  by_cases Gc:k=i<;>by_cases V8:k'=i
  ·omega
  ·rw[if_pos Gc]at hp
   rw[if_neg V8]at NB
   rcases ho with ho| ⟨q,hq,Pv,_⟩
   ·rw[ho]at hp;have:=h.apart i k' p hi JM hp NB;omega
   ·rw[hp]at hq;injection hq with hq;have:=lt k' p JM NB;omega
  ·rw[if_neg Gc]at hp
   rw[if_pos V8]at NB
   rcases ho with ho| ⟨q,hq,Pv,_⟩
   ·rw[ho]at NB;have:=h.apart k i p hk hi hp NB;omega
   ·rw[NB]at hq;injection hq with hq;have:=lt k p hk hp;omega
  ·rw[if_neg Gc]at hp
   rw[if_neg V8]at NB
   exact h.apart k k' p hk JM hp NB
theorem AG.rA{H H':Hp}{B b n:Nat}{xs:Nat→List Int}{fp:Nat→Option Nat}(h:AG H B b n xs fp){i:Nat}(hi:i<n){l:List Int}{sv:Value}{cN:List Value}(wF:H.own b=some cN)(ly:cN[i]? =some sv)(e:ag (fun z=>fp i=some z) H H')(s:Sl H' 1 sv l.length (l.map i64) (fp i)):
  AG H' B b n (GG xs i l) fp:=by
 obtain⟨Mq,h1,h2,h3⟩:=h.Sv
 rw[wF]at h1
 injection h1 with h1
 subst h1
 have hbS:¬fp i=some b:=fun hh=>(h.low i hi b hh).2 rfl
 refine⟨⟨cN,e.own wF hbS,h2,fun k hk=>?_⟩,h.base,h.low,h.apart⟩
 unfold GG
 by_cases Gc:k=i
 ·subst Gc
  exact⟨sv,ly,by rw[if_pos rfl];exact s⟩
 ·obtain⟨Um,h4,h5⟩:=h3 k hk
  exact⟨Um,h4,by rw[if_neg Gc];exact h5.ext e (fun p hp NB=>Gc (h.apart k i p hk hi hp NB))⟩
def qL(v:Nat)(e:Ed):Bool:=decide (e.f=(v:Int))
theorem QW{q:Nat→Ed→Bool}{es:List Ed}{j k:Nat}{e:Ed}(he:es[j]? =some e)(hq:∀v,q v e=decide (v=k)):
  GG (fun v=>ba (q v) 0 (es.take j)) k (ba (q k) 0 (es.take j)++[(j:Int)])=fun v=>ba (q v) 0 (es.take (j+1)):=by
 funext v
 unfold GG
 rw[AK _ he,hq]
 by_cases h:v=k
 ·subst h;simp
 ·simp[h]
theorem yj{H:Hp}{n:Int}{a:Option Addr}{c:Nat}{es:List Ed}(h:cI H 3 (.slice a es.length c) es.length (dM es))(hm:es.length≤1000000000):
  af Tryz.prog CD [yg n (.slice a es.length c)] H fun v H'=>ar (ah H H'∧((dP n es=false∧v= .slice none 0 0)∨
   (dP n es=true∧∃b fp,v= .slice (some ⟨b,0,none⟩) n.toNat n.toNat∧AG H' H.size b n.toNat (fun v=>ba (qL v) 0 es) fp))):=by
 refine aP CI ?_
 have f0:ah H (H.new 52 [i64 n,.slice a es.length c]):=(ag.refl _ _).new _ _
 have b0:=ax H 52 [i64 n,.slice a es.length c]
 simp(disch:=(first|omega| (simp only[Zs]<;>omega)|fail)) only[go_sem, ↓reduceIte,Zv,yg]
 generalize H.new 52 [i64 n,.slice a es.length c]=H0 at*
 have h0:=h.fresh f0
 refine(oR (n:=n) h0 hm).mono ?_
 rintro _ Hr ⟨rfl,fr⟩
 have br:=fr.own b0 (fun h=>h)
 by_cases hR:dP n es=true
 rotate_left
 ·rw[if_neg hR]
  refine vs ?_
  exact⟨f0.trans fr,.inl ⟨by simpa using hR,rfl⟩⟩
 rw[if_pos hR]
 have Vf:=h0.fresh fr
 have f02:=f0.trans fr
 obtain⟨JW,uF,T7,QX⟩:=(fM n es).1 hR
 refine vs ?_
 refine ak.cK (by simp) ?_
 refine v1 (ae br) ?_
 refine⟨⟨by omega,by omega,by omega,by omega⟩,?_⟩
 have T9:=AG.new (T:=24) (B:=H.size) (n:=n.toNat) Hr f02.size (QV n.toNat)
 have fo:ah Hr (Hr.new 24 (cz [.slice none 0 0] n.toNat)):=(ag.refl _ _).new _ _
 have b1:=fo.own br (fun h=>h)
 have GC:=Vf.fresh fo
 have J7:(Hr.new 24 (cz [.slice none 0 0] n.toNat)).size=Hr.size+1:=by rw[am]
 generalize Hr.new 24 (cz [.slice none 0 0] n.toNat)=H1 at*
 have hbz:=az br
 refine v1 (ae b1) ?_
 refine aT.intro (fun m env H'=>ah H H'∧∃ (j:Nat) (fp:Nat→Option Nat),m=es.length - j∧j≤es.length∧AG H' H.size Hr.size n.toNat (fun v=>ba (qL v) 0 (es.take j)) fp∧
  env=[(3,.slice (some ⟨Hr.size,0,none⟩) n.toNat n.toNat),(13,.slice a es.length c),(14,i64 es.length),(15,i64 j)]) es.length ⟨f02.trans fo,0,_,by omega,by omega,T9,rfl⟩ ?_
 rintro m env H2 ⟨f2,j,fp,SO,hj,Hf,rfl⟩
 have h2:=h.fresh f2
 refine vs ?_
 refine ak.dec (fun aK=>?_) (fun aK=>?_)<;>refine vs ?_
 ·have fF:j<es.length:=by omega
  obtain⟨e,he⟩:∃e,es[j]? =some e:=⟨_,am8 fF⟩
  obtain⟨_,b,o,lb,rfl,eG,mJ,ef⟩:=cI.CA h2 he
  refine⟨⟨by omega,by omega⟩,?_⟩
  have bF:=ang he
  obtain⟨ef0,ef1,et0,et1⟩:=QX e bF
  simp(disch:=(first|omega| (simp only[Zs]<;>omega)|fail)) only[go_sem, ↓reduceIte,Zv,eG,Int.toNat_natCast,ef,ed]
  refine⟨by omega,?_⟩
  have q2:=ax H2 61 [i64 0,i64 0,i64 0]
  simp(disch:=(first|omega| (simp only[Zs]<;>omega)|fail)) only[go_sem, ↓reduceIte,Zv,ef,ed,q2]
  have q3:=ai (l:=[i64 e.f,i64 e.t,i64 e.w]) q2
  have f3:ah H2 ((H2.new 61 [i64 0,i64 0,i64 0]).wr H2.size [i64 e.f,i64 e.t,i64 e.w]):=((ag.refl _ _).new _ _:ah H2 _).then ((ag.refl (fun z=>z=H2.size) _).wr (fun _=>rfl) _) (fun z hz=>by omega)
  have Ld:((H2.new 61 [i64 0,i64 0,i64 0]).wr H2.size [i64 e.f,i64 e.t,i64 e.w]).size=H2.size+1:=by rw[dT,am]
  have ZW:=Hf.lt
  generalize (H2.new 61 [i64 0,i64 0,i64 0]).wr H2.size [i64 e.f,i64 e.t,i64 e.w]=H3 at*
  have Ko:=Hf.fresh f3
  have Ta:e.f.toNat<n.toNat:=by omega
  obtain⟨cN,sv,Le,yD,wF,Ac⟩:=Ko.get Ta
  have Yf:=n7 (qL e.f.toNat) (es.take j) 0
  rw[anR]at Yf
  have f13:ah H H3:=f2.trans f3
  have hq:∀v,qL v e=decide (v=e.f.toNat):=fun v=>by unfold qL;rw[decide_eq_decide];omega
  have fin:∀ (H4:Hp) (v':Value) (H5:Hp) (cJ:Option Nat),ah H3 H4→Sl H5 1 v' ((ba (qL e.f.toNat) 0 (es.take j)).length+1) ((ba (qL e.f.toNat) 0 (es.take j)).map i64++[i64 j]) cJ→ag (fun z=>fp e.f.toNat=some z) H4 H5→
    (cJ=fp e.f.toNat∨∃p,cJ=some p∧H4.size≤p∧p<H5.size)→
    H5.own Hr.size=some cN∧H5.own H2.size=some [i64 e.f,i64 e.t,i64 e.w]∧(H5.wr Hr.size (cN.set e.f.toNat v')).own H2.size=some [i64 e.f,i64 e.t,i64 e.w]∧ah H (H5.wr Hr.size (cN.set e.f.toNat v'))∧
    AG (H5.wr Hr.size (cN.set e.f.toNat v')) H.size Hr.size n.toNat (fun v=>ba (qL v) 0 (es.take (j+1))) (ON fp e.f.toNat cJ):=by
   intro H4 v' H5 cJ f4 s5 e5 gU
   have Ur:=Ko.fresh f4
   have Om:=Ko.low e.f.toNat Ta
   have V9:∀z,fp e.f.toNat=some z→z<H2.size:=fun z hz=>by
    obtain⟨_,_,_,_,_,s0⟩:=Hf.get Ta
    rw[hz]at s0
    exact Sl.lt s0
   have ZL:=f4.own Le (fun h=>h)
   have q4:=f4.own q3 (fun h=>h)
   have q5:H5.own H2.size=some [i64 e.f,i64 e.t,i64 e.w]:=e5.own q4 (fun hh=>by have:=V9 _ hh;omega)
   obtain⟨k1,k2⟩:=Ur.put Ta (l:=ba (qL e.f.toNat) 0 (es.take j)++[(j:Int)]) e5 (by rw[ank,anH];exact s5) gU ZL
   rw[QW he hq]at k2
   refine⟨k1,q5,by rw[jB (by omega)];exact q5,?_,k2⟩
   exact((f13.trans f4).then e5 (fun z hz=>(Om z hz).1)).then ((ag.refl (fun z=>z=Hr.size) _).wr (fun _=>rfl) _) (fun z hz=>by have:=f02.size;omega)
  refine jk.intro (fun H'=>H'.own H2.size=some [i64 e.f,i64 e.t,i64 e.w]) q3 ?_
  refine vs ?_
  refine fk.intro (i64 e.f) (fun H' hI=>by refine v1 (ae hI) ?_;exact⟨trivial,trivial⟩) ?_
  refine vs ?_
  refine fk.intro (i64 e.f) (fun H' hI=>by refine v1 (ae hI) ?_;exact⟨trivial,trivial⟩) ?_
  refine vs ?_
  refine⟨⟨by omega,by omega⟩,?_⟩
  refine vs ?_
  have fl:ah H3 (H3.new 3 [i64 j]):=(ag.refl _ _).new _ _
  have ql:=fl.own q3 (fun h=>h)
  have Wa:=fl.own Le (fun h=>h)
  obtain⟨ra,rc,rfl,hrc⟩:=cE Ac
  refine Du.intro ?_ ?_
  ·refine v4 (ae Le) ane am9 wF ?_
   refine And.intro q3 ?_
   refine vs ?_
   refine And.intro (by first|exact ql|exact q3) ?_
   refine vs ?_
   refine Sl.append (Ac.ext fl (fun _ _ h=>h)) (Sl.bP (size:=1) (n:=1) (xs:=[i64 j]) rfl rfl).rd rfl (uq [(j:Int)]) (by omega) ?_
   intro v' H5 cJ s5 e5 fN
   obtain⟨k1,k2,k3,k4,k5⟩:=fin _ v' H5 cJ fl s5 e5 fN
   obtain⟨va,Us,rfl,_⟩:=cE s5
   refine And.intro k2 ?_
   refine vs ?_
   refine⟨⟨by omega,by omega⟩,?_⟩
   refine v3 k1 ane am9 ?_
   refine⟨by omega,?_⟩
   refine vs ?_
   refine And.intro (by first|exact k3|exact k2) ?_
   refine vs ?_
   rw[wrap64 (n:=(j:Int)+1) (by omega) (by omega)]
   exact⟨es.length - (j+1),by omega,k4,j+1,_,rfl,by omega,k5,rfl⟩
  ·refine vs ?_
   refine And.intro (by first|exact ql|exact q3) ?_
   refine v4 (ae Wa) ane am9 wF ?_
   refine And.intro (by first|exact ql|exact q3) ?_
   refine vs ?_
   refine Sl.append (Ac.ext fl (fun _ _ h=>h)) (Sl.bP (size:=1) (n:=1) (xs:=[i64 j]) rfl rfl).rd rfl (uq [(j:Int)]) (by omega) ?_
   intro v' H5 cJ s5 e5 fN
   obtain⟨k1,k2,k3,k4,k5⟩:=fin _ v' H5 cJ fl s5 e5 fN
   obtain⟨va,Us,rfl,_⟩:=cE s5
   refine And.intro k2 ?_
   refine vs ?_
   refine⟨⟨by omega,by omega⟩,?_⟩
   refine v3 k1 ane am9 ?_
   refine⟨by omega,?_⟩
   refine vs ?_
   refine And.intro (by first|exact k3|exact k2) ?_
   refine vs ?_
   rw[wrap64 (n:=(j:Int)+1) (by omega) (by omega)]
   exact⟨es.length - (j+1),by omega,k4,j+1,_,rfl,by omega,k5,rfl⟩
 ·have fF:j=es.length:=by omega
  subst fF
  rw[anJ]at Hf
  exact⟨f2,.inr ⟨hR,Hr.size,fp,rfl,Hf⟩⟩
def qT(v:Nat)(e:Ed):Bool:=decide (e.f=(v:Int)) || decide (e.t=(v:Int))
theorem mF{α:Type}(p:α→Bool):∀ {l:List α} {i:Nat} {y:α} (h:l[i]? =some y) (v:α),(l.set i v).countP p+(p y).toNat=l.countP p+(p v).toNat:=by
 intro l
 induction l with
 |nil=>intro i y h;simp at h
 |cons a r ih=>
  intro i y h v
  cases i with
  |zero=>
   simp at h
   subst h
   rw[aoD,aoq,aoq]
   cases p a<;>cases p v<;>simp
  |succ i=>
   have:=ih (i:=i) (by simpa using h) v
   rw[anV,aoq,aoq]
   omega
theorem QY{α β:Type}:∀ {L:List (α×β)},(L.map (·.1)).Nodup→∀ {a:α} {b c:β},(a,b)∈L→(a,c)∈L→b=c:=by
 intro L
 induction L with
 |nil=>intro _ a b c h;cases h
 |cons p L ih=>
  intro hd a b c h1 h2
  rw[an3,anu]at hd
  rcases anm.1 h1 with h1|h1
  ·rcases anm.1 h2 with h2|h2
   ·have:=h1.trans h2.symm
    injection this
   ·exact absurd (anv.2 ⟨_,h2,by rw[←h1]⟩) hd.1
  ·rcases anm.1 h2 with h2|h2
   ·exact absurd (anv.2 ⟨_,h1,by rw[←h2]⟩) hd.1
   ·exact ih hd.2 h1 h2
theorem dF{α:Type}{l:List α}{i j:Nat}{v:α}(h:i≠j):(l.set i v)[j]? =l[j]? :=anh h
theorem jG{α:Type}{l:List α}{i:Nat}{v x:α}(h:l[i]? =some x):(l.set i v)[i]? =some v:=ani (ana.1 h).1
theorem getD_set_ne{α:Type}{l:List α}{i j:Nat}{v d:α}(h:i≠j):(l.set i v).getD j d=l.getD j d:=by rw[anf,anf,dF h]
structure vX(es:List Ed)(n:Nat)(w:Nw)(A:Ar)(L:List ((Int×Nat)×Value))(sl:List Nat)(bl:List Int)(hl:List (Int×Nat)):Prop where
 hs:w.has 1
 len:A.g.length=n
 mo:A.mo=1
 wt:A.wt=[]
 nx:A.nx=L.length
 gn:∀x:Int,0≤x→A.bq x=if x<A.nx then 1 else 0
 lk:Qz w A
 ok:vO A
 l1:sl.length=n
 l2:bl.length=n
 l3:hl.length=n
 two:∀x∈sl,x≤2
 c1:∀ (x:Int) y,0≤x→w.cs[x.toNat]? =some y→y.1=0∨(y.1=1∧∃v:Nat,sl[v]? =some 1∧hl[v]? =some (x,A.bq x)∧y.2.1=wE es (bl.getD v 0)∧((x,A.bq x),i64 v)∈L)
 c2:∀v:Nat,sl[v]? =some 1→∃x s,0≤x∧hl[v]? =some (x,A.bq x)∧w.cs[x.toNat]? =some (1,wE es (bl.getD v 0),s)∧((x,A.bq x),i64 v)∈L
 ls:∀p∈L,0≤p.1.1∧p.1.2≤A.bq p.1.1
 nd:(L.map (·.1)).Nodup
 le:L.length≤sl.countP (fun x=>decide (x≠0))
 cn:A.ct=sl.countP (fun x=>decide (x=1))
section
variable {es : List Ed} {n : Nat} {w : Nw} {A A' : Ar} {L : List ((Int × Nat) × Value)} {sl : List Nat} {bl : List Int} {hl : List (Int × Nat)}
theorem vX.aO(h:vX es n w A L sl bl hl):L.length≤n:=by
 have:=h.le
 have:=ape (p:=fun x:Nat=>decide (x≠0)) (l:=sl)
 have:=h.l1
 omega
theorem vX.Wb(h:vX es n w A L sl bl hl){x:Int}(x0:0≤x):A.bq x≤1:=by
 rw[h.gn x x0]
 split<;>omega
theorem vX.zero(es:List Ed)(n:Nat){bl:List Int}{hl:List (Int×Nat)}(h2:bl.length=n)(h3:hl.length=n):vX es n (xZ (n:Int)).make (OK (n:Int) 1) [] (List.replicate n 0) bl hl:=by
 have hgz:∀x:Int,(OK (n:Int) 1).bq x=0:=by
  intro x
  unfold Ar.bq OK
  simp only[anf,Int.toNat_natCast,aoy]
  split<;>rfl
 have hlz:∀x,¬ (OK (n:Int) 1).live x:=by
  rintro x ⟨_,hx⟩
  unfold OK at hx
  simp only[Int.toNat_natCast,aoy]at hx
  split at hx<;>simp at hx
 have hiz:∀x,¬cS (xZ (n:Int)).make.cs x:=fun x hx=>kw (n:Int) x (bk.2 hx)
 have h0:∀v:Nat,(List.replicate n 0)[v]? ≠some 1:=fun v hv=>by
  have:=aor (ang hv)
  omega
 refine⟨⟨by omega,rfl⟩,by simp[OK],rfl,rfl,rfl,fun x x0=>?_,⟨by simp[xZ,OK,Nw.make],fun x=>⟨fun h=>absurd h (hiz x),fun h=>absurd h (hlz x)⟩⟩,⟨fun x hx=>(by cases hx),aoo,fun x _=>hlz x,?_,aoY _⟩,anX,h2,h3,fun x hx=>by rw[aor hx];omega,fun x y x0 hy=>?_,fun v hv=>absurd hv (h0 v),fun p hp=>(by cases hp),aoo,aoY _,?_⟩
 ·rw[hgz,if_neg (by show¬x< ((0:Nat):Int);omega)]
 ·show(0:Int)=((List.replicate (n:Int).toNat ((0:Nat),false)).countP (·.2):Nat)
  rw[aoI.2]
  ·rfl
  ·intro a ha
   rw[aor ha]
   simp
 ·have hy:(List.replicate (n:Int).toNat ((0,0,0):Ce))[x.toNat]? =some y:=hy
  exact .inl (by rw[aor (ang hy)])
 ·rw[aoI.2]
  ·rfl
  ·intro a ha
   rw[aor ha]
   simp
theorem vX.root(h:vX es n w A L sl bl hl){r:Nat}(hr:sl[r]? =some 0):vX es n w A L (sl.set r 2) bl hl:=by
 have k1:=mF (fun x:Nat=>decide (x≠0)) hr 2
 have k2:=mF (fun x:Nat=>decide (x=1)) hr 2
 simp at k1 k2
 have ne:∀v:Nat,sl[v]? =some 1→r≠v:=fun v hv e=>by rw[←e,hr]at hv;cases hv
 refine⟨h.hs,h.len,h.mo,h.wt,h.nx,h.gn,h.lk,h.ok,by rw[anb];exact h.l1,h.l2,h.l3,fun x hx=>?_,fun x y x0 hy=>?_,fun v hv=>?_,h.ls,h.nd,?_,?_⟩
 ·rcases aoe hx with hx|hx
  ·exact h.two x hx
  ·omega
 ·rcases h.c1 x y x0 hy with g| ⟨g1,v,g2,g3⟩
  ·exact .inl g
  ·exact .inr ⟨g1,v,by rw[dF (ne v g2)];exact g2,g3⟩
 ·by_cases e:r=v
  ·subst e
   rw[jG hr]at hv
   cases hv
  ·rw[dF e]at hv
   exact h.c2 v hv
 ·have:=h.le
  simp only[ne_eq,decide_not]at this ⊢
  omega
 ·have:=h.cn
  omega
theorem vX.take(h:vX es n w A L sl bl hl){x:Int}{y:Ce}(hf:w.first 1 x)(hy:w.cs[x.toNat]? =some y):
  ∃v:Nat,sl[v]? =some 1∧((x,A.bq x),i64 v)∈L∧(∀u:Nat,sl[u]? =some 1→wE es (bl.getD v 0)≤wE es (bl.getD u 0))∧vX es n (w.put x (0,0,0)) (A.back x) L (sl.set v 2) bl hl:=by
 obtain⟨_,f2,f3⟩:=bH.1 hf
 obtain⟨x0,x1,_⟩:=aC (w:=w) (x:=x) (by omega)
 have Ln:=jE x0 hy
 rw[f2]at Ln
 have aV:w.cs.length=n:=by rw[h.lk.len];exact h.len
 have hx:0≤x∧x<n:=by omega
 rcases h.c1 x y x0 hy with h0| ⟨_,v,g2,g3,g4,g5⟩
 ·omega
 have Ye:0≤x∧x<A.g.length:=by rw[h.len];exact hx
 have hg:∀z:Int,0≤z→(A.back x).bq z=A.bq z:=by
  intro z hz
  rw[Ar.Dv (A:=A) (A':=A.back x) Ye rfl hz]
  split
  ·rename_i e;rw[e]
  ·rfl
 have ju:A.live x:=(h.lk.live x).1 ⟨x0,_,hy,by omega⟩
 have OD:A.bq x=1:=by
  rw[h.gn x x0,if_pos]
  apply anC
  intro hc
  exact h.ok.fr x (by omega) ju
 have hwb:(A.back x).wt=[]:=by
  show(if A.bq x<A.mo then A.wt++[x]else A.wt)=[]
  rw[OD,h.mo,if_neg (by omega)]
  exact h.wt
 have k1:=mF (fun x:Nat=>decide (x≠0)) g2 2
 have k2:=mF (fun x:Nat=>decide (x=1)) g2 2
 simp at k1 k2
 refine⟨v,g2,g5,fun u hu=>?_,h.hs,by show(A.g.set _ _).length=n;rw[anb];exact h.len,h.mo,hwb,h.nx,fun z hz=>by rw[hg z hz];exact h.gn z hz,h.lk.put Ye (v:=A.bq x) rfl,h.ok.back ju,by rw[anb];exact h.l1,h.l2,h.l3,fun z hz=>?_,fun z c z0 hc=>?_,fun u hu=>?_,fun p hp=>by have:=h.ls p hp;exact⟨this.1,by rw[hg _ this.1];exact this.2⟩,h.nd,?_,?_⟩
 ·obtain⟨z,s,z0,q1,q2,q3⟩:=h.c2 u hu
  by_cases e:z=x
  ·rw[e,hy]at q2
   injection q2 with q2
   rw[q2]at g4
   rw[←g4]
   exact aoE _
  ·have aK:=f3 z (jE z0 q2) e
   unfold aN at aK
   have k1:w.key x=y.2.1:=by
    unfold Nw.key
    simp only[anf,hy]
    rfl
   have k2:w.key z=wE es (bl.getD u 0):=by
    unfold Nw.key
    simp only[anf,q2]
    rfl
   rw[k1,k2,g4]at aK
   simp only[anF]at aK
   omega
 ·rcases aoe hz with hz|hz
  ·exact h.two z hz
  ·omega
 ·have hc:(w.cs.set x.toNat (0,0,0))[z.toNat]? =some c:=hc
  by_cases e:z=x
  ·subst e
   rw[jG hy]at hc
   injection hc with hc
   exact .inl (by rw[←hc])
  ·rw[dF (by omega)]at hc
   rcases h.c1 z c z0 hc with h0| ⟨q1,v',q2,q3,q4,q5⟩
   ·exact .inl h0
   ·refine .inr ⟨q1,v',?_,by rw[hg z z0];exact q3,q4,by rw[hg z z0];exact q5⟩
    rw[dF ?_]
    ·exact q2
    ·intro e2
     rw[←e2,g3]at q3
     injection q3 with q3
     injection q3 with q3
     exact e q3.symm
 ·by_cases e:v=u
  ·subst e
   rw[jG g2]at hu
   cases hu
  ·rw[dF e]at hu
   obtain⟨z,s,z0,q1,q2,q3⟩:=h.c2 u hu
   refine⟨z,s,z0,by rw[hg z z0];exact q1,?_,by rw[hg z z0];exact q3⟩
   show(w.cs.set x.toNat (0,0,0))[z.toNat]? =_
   rw[dF ?_]
   ·exact q2
   ·intro e2
    have e3:z=x:=by omega
    rw[e3]at q3
    have:=QY h.nd g5 q3
    injection this with _ this
    omega
 ·have:=h.le
  simp only[ne_eq,decide_not]at this ⊢
  omega
 ·show A.ct - 1=_
  have:=h.cn
  omega
theorem vX.put(h:vX es n w A L sl bl hl){x:Int}(hp:A.pick=some (x,A')){u:Nat}(hu:sl[u]? =some 0)(i:Int)(s:Int):
  (x,A.bq x+1)∉L.map (·.1)∧vX es n (w.put x (1,wE es i,s)) (A'.out x) (L++[((x,A.bq x+1),i64 u)]) (sl.set u 1) (bl.set u i) (hl.set u (x,A.bq x+1)):=by
 obtain⟨hx,lG,Ui,Cg,PA,ZH,Uk⟩:=Ar.uj hp h.ok
 have R1:u<n:=by have:=(ana.1 hu).1;rw[h.l1]at this;exact this
 have aV:w.cs.length=n:=by rw[h.lk.len];exact h.len
 have hAn:=h.len
 have dA:x=A.nx∧A'.nx=A.nx+1∧A'.wt=[]:=by
  unfold Ar.pick at hp
  rw[if_neg (by rw[h.wt];simp)]at hp
  split at hp
  ·cases hp
  ·injection hp with hp
   injection hp with AD o8
   exact⟨AD.symm,by rw[←o8],by rw[←o8];exact h.wt⟩
 have FA:0≤x∧x<A'.g.length:=by rw[PA];exact hx
 have OD:∀z,A'.bq z=A.bq z:=fun z=>by unfold Ar.bq;rw[PA]
 have hg:∀z:Int,0≤z→(A'.out x).bq z=if z=x then A.bq x+1 else A.bq z:=by
  intro z hz
  rw[Ar.Dv (A:=A') (A':=A'.out x) FA rfl hz]
  rw[OD,OD]
 have R4:∀z,A'.live z↔A.live z:=fun z=>by unfold Ar.live;rw[PA]
 have SV:¬cS w.cs x:=fun hi=>lG ((h.lk.live x).1 hi)
 have qt:(x,A.bq x+1)∉L.map (·.1):=fun hm=>by
  obtain⟨p,AD,o8⟩:=anv.1 hm
  have:=(h.ls p AD).2
  rw[o8]at this
  simp only at this
  omega
 have k1:=mF (fun x:Nat=>decide (x≠0)) hu 1
 have k2:=mF (fun x:Nat=>decide (x=1)) hu 1
 simp at k1 k2
 have ne:∀v:Nat,sl[v]? =some 1→u≠v:=fun v hv e=>by rw[←e,hu]at hv;cases hv
 refine⟨qt,h.hs,by show(A'.g.set _ _).length=n;rw[anb,PA];exact hAn,by show A'.mo=1;rw[Uk];exact h.mo,dA.2.2,by show A'.nx=_;rw[dA.2.1,h.nx,ank];rfl,fun z hz=>?_,h.lk.put hx (v:=A.bq x+1) ?_,?_,by rw[anb];exact h.l1,by rw[anb];exact h.l2,by rw[anb];exact h.l3,fun z hz=>?_,fun z c z0 hc=>?_,fun v hv=>?_,fun p hp=>?_,?_,?_,?_⟩
 ·rw[hg z hz,h.gn z hz,h.gn x hx.1]
  show _=if z< ((A'.nx:Nat):Int)then 1 else 0
  have h1:=dA.1
  have h2:=dA.2.1
  split<;>split<;>(try split)<;>omega
 ·show A'.g.set x.toNat (A'.bq x+1,true)=_
  rw[OD,PA]
  rfl
 ·exact vO.out (A:=A) (Hj hp h.ok) PA FA (fun hl=>lG ((R4 x).1 hl)) Ui Cg
 ·rcases aoe hz with hz|hz
  ·exact h.two z hz
  ·omega
 ·have hc:(w.cs.set x.toNat (1,wE es i,s))[z.toNat]? =some c:=hc
  by_cases e:z=x
  ·subst e
   rw[ani (by omega)]at hc
   injection hc with hc
   subst hc
   have e1:(A'.out z).bq z=A.bq z+1:=by rw[hg z z0,if_pos rfl]
   refine .inr ⟨rfl,u,jG hu,?_,?_,?_⟩
   ·rw[e1]
    exact ani (by rw[h.l3];exact R1)
   ·rw[anf,ani (by rw[h.l2];exact R1)]
    rfl
   ·rw[e1]
    simp
  ·rw[dF (by omega)]at hc
   rcases h.c1 z c z0 hc with h0| ⟨q1,v',q2,q3,q4,q5⟩
   ·exact .inl h0
   ·have e1:(A'.out x).bq z=A.bq z:=by rw[hg z z0,if_neg e]
    have nev:=ne v' q2
    exact .inr ⟨q1,v',by rw[dF nev];exact q2,by rw[dF nev,e1];exact q3,by rw[getD_set_ne nev];exact q4,by rw[e1];exact anr _ q5⟩
 ·by_cases e:u=v
  ·subst e
   have e1:(A'.out x).bq x=A.bq x+1:=by rw[hg x hx.1,if_pos rfl]
   refine⟨x,s,hx.1,?_,?_,?_⟩
   ·rw[e1]
    exact ani (by rw[h.l3];exact R1)
   ·show(w.cs.set x.toNat (1,wE es i,s))[x.toNat]? =_
    rw[ani (by omega),anf,ani (by rw[h.l2];exact R1)]
    rfl
   ·rw[e1]
    simp
  ·rw[dF e]at hv
   obtain⟨z,s',z0,q1,q2,q3⟩:=h.c2 v hv
   have ezx:z≠x:=fun e2=>by
    rw[e2]at q2
    exact SV ⟨hx.1,_,q2,by simp⟩
   have e1:(A'.out x).bq z=A.bq z:=by rw[hg z z0,if_neg ezx]
   refine⟨z,s',z0,by rw[dF e,e1];exact q1,?_,by rw[e1];exact anr _ q3⟩
   show(w.cs.set x.toNat (1,wE es i,s))[z.toNat]? =_
   rw[dF (by omega),getD_set_ne e]
   exact q2
 ·rcases ann.1 hp with hp|hp
  ·have:=h.ls p hp
   refine⟨this.1,?_⟩
   rw[hg _ this.1]
   split
   ·rename_i e;rw[e]at this;omega
   ·exact this.2
  ·rw[anj]at hp
   subst hp
   exact⟨hx.1,by rw[hg _ hx.1,if_pos rfl];exact ano _⟩
 ·rw[anH,aoC,anW]
  refine⟨h.nd,by simp,fun a ha b hb e=>?_⟩
  rw[anj]at hb
  rw[e,hb]at ha
  exact qt ha
 ·have:=h.le
  rw[ank]
  simp only[ne_eq,decide_not,ant]at this ⊢
  omega
 ·show A'.ct+1=_
  rw[ZH]
  have:=h.cn
  omega
theorem vX.lower(h:vX es n w A L sl bl hl){u:Nat}(hu:sl[u]? =some 1){x:Int}(x0:0≤x)(hh:hl[u]? =some (x,A.bq x)){y:Ce}(hy:w.cs[x.toNat]? =some y)(i:Int):
  vX es n (w.put x (y.1,wE es i,y.2.2)) A L sl (bl.set u i) hl:=by
 have R1:u<n:=by have:=(ana.1 hu).1;rw[h.l1]at this;exact this
 obtain⟨x',s,x0',q1,q2,q3⟩:=h.c2 u hu
 have hxx:x'=x:=by
  rw[hh]at q1
  injection q1 with q1
  injection q1 with q1
  exact q1.symm
 subst hxx
 rw[q2]at hy
 injection hy with hy
 subst hy
 have ju:A.live x':=(h.lk.live x').1 ⟨x0,_,q2,by simp⟩
 refine⟨h.hs,h.len,h.mo,h.wt,h.nx,h.gn,h.lk.key ju q2,h.ok,h.l1,by rw[anb];exact h.l2,h.l3,h.two,fun z c z0 hc=>?_,fun v hv=>?_,h.ls,h.nd,h.le,h.cn⟩
 ·have hc:(w.cs.set x'.toNat (1,wE es i,s))[z.toNat]? =some c:=hc
  by_cases e:z=x'
  ·subst e
   rw[jG q2]at hc
   injection hc with hc
   subst hc
   refine .inr ⟨rfl,u,hu,hh,?_,q3⟩
   rw[anf,ani (by rw[h.l2];exact R1)]
   rfl
  ·rw[dF (by omega)]at hc
   rcases h.c1 z c z0 hc with h0| ⟨g1,v',g2,g3,g4,g5⟩
   ·exact .inl h0
   ·refine .inr ⟨g1,v',g2,g3,?_,g5⟩
    rw[getD_set_ne ?_]
    ·exact g4
    ·intro e2
     rw[←e2,hh]at g3
     injection g3 with g3
     injection g3 with g3
     exact e g3.symm
 ·by_cases e:u=v
  ·subst e
   refine⟨x',s,x0,hh,?_,q3⟩
   show(w.cs.set x'.toNat (1,wE es i,s))[x'.toNat]? =_
   rw[jG q2,anf,ani (by rw[h.l2];exact R1)]
   rfl
  ·obtain⟨z,s',z0,g1,g2,g3⟩:=h.c2 v hv
   refine⟨z,s',z0,g1,?_,g3⟩
   show(w.cs.set x'.toNat (1,wE es i,s))[z.toNat]? =_
   rw[dF ?_,getD_set_ne e]
   ·exact g2
   ·intro e2
    have e3:z=x':=by omega
    rw[e3]at g3
    have:=QY h.nd q3 g3
    injection this with _ this
    omega
theorem vX.room(h:vX es n w A L sl bl hl){u:Nat}(hu:sl[u]? =some 0):A.pick≠none:=by
 have k2:=mF (fun x:Nat=>decide (x≠0)) hu 1
 simp at k2
 have k3:=ape (p:=fun x:Nat=> !decide (x=0)) (l:=sl.set u 1)
 rw[anb,h.l1]at k3
 have k4:=h.le
 simp only[ne_eq,decide_not]at k4
 unfold Ar.pick
 rw[if_neg (by rw[h.wt];simp),if_neg (by rw[h.nx,h.len];omega)]
 simp
theorem vX.none_(h:vX es n w A L sl bl hl)(h0:w.len 1=0):∀v:Nat,sl[v]? ≠some 1:=fun v hv=>by
 obtain⟨x,s,x0,_,q2,_⟩:=h.c2 v hv
 exact(s8 (by omega)).1 h0 x (jE x0 q2)
def aag(es:List Ed)(sl:List Nat)(bl:List Int)(u:Nat)(i:Int)(Hk:List Nat)(Hl:List Int):Prop:=
 (Hk=sl∧Hl=bl∧(sl[u]? =some 2∨(sl[u]? =some 1∧wE es (bl.getD u 0)≤wE es i)))∨
 (Hk=sl.set u 1∧Hl=bl.set u i∧(sl[u]? =some 0∨(sl[u]? =some 1∧wE es i<wE es (bl.getD u 0))))
structure Mr(es:List Ed)(D:Nat→Prop)(o:List Nat)(k:Nat→Int)(T:List Int)(sl:List Nat)(bl:List Int)(left:List Int):Prop where
 P:jP (fE es) (wE es) (allI es.length) T o k (fun v=>sl[v]? =some 1) (fun v=>bl.getD v 0) left
 d:∀v:Nat,sl[v]? =some 2↔D v∨v∈o
 lj:∀v,D v→v∉o
 shut:∀i∈allI es.length,∀v,Touch (fE es i) v→D v→D (other (fE es i) v)
theorem Mr.offer{D:Nat→Prop}{o:List Nat}{k:Nat→Int}{T:List Int}{Hk:List Nat}{Hl:List Int}{i:Int}{left:List Int}{v u:Nat}(h:Mr es D o k T sl bl (i::left))(hv:o[o.length - 1]? =some v)(hi:i∈allI es.length)(ht:Touch (fE es i) v)(hu:u=other (fE es i) v)(R1:u<bl.length)(VP:aag es sl bl u i Hk Hl):
  Mr es D o k T Hk Hl left:=by
 have hvo:v∈o:=ang hv
 have hnD:¬D v:=fun hd=>h.lj v hd hvo
 have hou:=Jh ht
 rw[←hu]at hou
 have huD:¬D u:=fun hd=>hnD (by have:=h.shut i hi u hou.1 hd;rw[hou.2]at this;exact this)
 rcases VP with ⟨rfl,rfl,hs⟩| ⟨rfl,rfl,hs⟩
 ·refine⟨h.P.skip hv fun u' _ Y5=>?_,h.d,h.lj,h.shut⟩
  rw[←hu]at Y5
  subst Y5
  rcases hs with hs|hs
  ·exact .inl (((h.d u').1 hs).resolve_left huD)
  ·exact .inr hs
 ·have bJ:u∉o:=fun hm=>by
   have:=(h.d u).2 (.inr hm)
   rcases hs with hs| ⟨hs,_⟩<;>rw[this]at hs<;>cases hs
  obtain⟨c0,jQ⟩:∃c,sl[u]? =some c:=by rcases hs with hs| ⟨hs,_⟩<;>exact⟨_,hs⟩
  have P:=h.P.offer hv hi ht hu bJ (fun hw=>by
   rcases hs with hs| ⟨_,hs⟩
   ·rw[hs]at hw;cases hw
   ·exact Int.le_of_lt hs)
  have e1:(fun y:Nat=>sl[y]? =some 1∨y=u)=fun y=>(sl.set u 1)[y]? =some 1:=by
   funext y
   by_cases e:u=y
   ·subst e
    rw[jG jQ]
    simp
   ·rw[dF e]
    simp[Ne.symm e]
  have e2:(fun y:Nat=>if y=u then i else bl.getD y 0)=fun y=>(bl.set u i).getD y 0:=by
   funext y
   by_cases e:u=y
   ·subst e
    rw[if_pos rfl,anf,ani R1]
    rfl
   ·rw[if_neg (Ne.symm e),getD_set_ne e]
  rw[e1,e2]at P
  refine⟨P,fun y=>?_,h.lj,h.shut⟩
  by_cases e:u=y
  ·subst e
   rw[jG jQ]
   refine⟨fun h=>(by cases h),fun h=>?_⟩
   rcases h with h|h
   ·exact absurd h huD
   ·exact absurd h bJ
  ·rw[dF e]
   exact h.d y
theorem jP.only{α:Type}{e:α→E2}{w:α→Int}{E T:List α}{o:List Nat}{k:Nat→Int}{wt:Nat→Prop}{b:Nat→α}{left Ut:List α}(P:jP e w E T o k wt b left){v:Nat}(hv:o[o.length - 1]? =some v)(hs:∀i∈E,Touch (e i) v→i∈Ut):jP e w E T o k wt b Ut:=by
 refine⟨P.HG,P.wait,fun i hi a va ha tt=>?_,P.loc,P.out,P.nd⟩
 rcases P.CA i hi a va ha tt with ⟨h1,_⟩|h
 ·refine .inl ⟨h1,hs i hi ?_⟩
  have:a=o.length - 1:=by omega
  rw[this,hv]at ha
  injection ha with ha
  rw[ha]
  exact tt
 ·exact .inr h
theorem Ad{n:Int}(hr:eR n es){v:Nat}{i:Int}(hi:i∈allI es.length):Touch (fE es i) v↔i∈ba (qT v) 0 es:=by
 obtain⟨k,e,rfl,he,hk⟩:=Km.get (ja.1 hi)
 have hb:=hr.ends e (ang he)
 rw[DM,Ab he]
 unfold Touch
 constructor
 ·intro ht
  refine⟨k,e,he,?_,by omega⟩
  simp only[qT,ao2,anF]
  simp only at ht
  omega
 ·rintro⟨j,e',im,hq,hj⟩
  have:j=k:=by omega
  subst this
  rw[he]at im
  injection im with im
  subst im
  simp only[qT,ao2,anF]at hq
  simp only
  omega
theorem Wc{v:Nat}{i:Int}(h:i∈ba (qT v) 0 es):i∈allI es.length:=by
 obtain⟨k,e,he,_,rfl⟩:=(DM _ _ _ _).1 h
 have:=(ana.1 he).1
 rw[ES]
 omega
def Yg(es:List Ed)(T:List Int)(sl:List Nat):Prop:=wx (fE es) (wE es) (allI es.length) T (fun v=>sl[v]? =some 2)∧∀v:Nat,sl[v]? ≠some 1
structure GrT(es:List Ed)(T T0:List Int)(D:Nat→Prop)(o:List Nat):Prop where
 uD:gh (T.map (fE es))
 ins:∀i∈T,i∈allI es.length∧(D (fE es i).1∨(fE es i).1∈o)∧(D (fE es i).2∨(fE es i).2∈o)
 sub:∀i∈T0,i∈T
theorem Mr.begin{n:Int}(hr:eR n es){T:List Int}(h:Yg es T sl){r:Nat}(Vf:sl[r]? =some 0):Mr es (fun v=>sl[v]? =some 2) [r] (fun _=>0) T (sl.set r 2) bl (ba (qT r) 0 es)∧GrT es T T (fun v=>sl[v]? =some 2) [r]:=by
 refine⟨⟨?_,fun v=>?_,fun v hv hm=>?_,h.1.shut⟩,h.1.uD,fun i hi=>⟨(h.1.ins i hi).1,.inl (h.1.ins i hi).2.1,.inl (h.1.ins i hi).2.2⟩,fun i hi=>hi⟩
 ·have P:=jP.begin (e:=fE es) (w:=wE es) (E:=allI es.length) (T:=T) (fun _=>0) (fun v=>bl.getD v 0) r
  have e1:(fun _:Nat=>False)=fun v=>(sl.set r 2)[v]? =some 1:=by
   funext v
   by_cases e:r=v
   ·subst e;rw[jG Vf];simp
   ·rw[dF e];exact(eq_false (h.2 v)).symm
  rw[e1]at P
  exact P.only rfl fun i hi ht=>(Ad hr hi).1 ht
 ·by_cases e:r=v
  ·subst e;rw[jG Vf];simp
  ·rw[dF e,anj]
   simp[Ne.symm e]
 ·rw[anj]at hm
  rw[hm,Vf]at hv
  cases hv
theorem Mr.enter{n:Int}(hr:eR n es){D:Nat→Prop}{o:List Nat}{k:Nat→Int}{T T0:List Int}(h:Mr es D o k T sl bl [])(t:GrT es T T0 D o){v:Nat}(hv:sl[v]? =some 1)(NT:∀u:Nat,sl[u]? =some 1→wE es (bl.getD v 0)≤wE es (bl.getD u 0)):
  Mr es D (o++[v]) (fun a=>if a=o.length then wE es (bl.getD v 0)else k a) (T++[bl.getD v 0]) (sl.set v 2) bl (ba (qT v) 0 es)∧GrT es (T++[bl.getD v 0]) T0 D (o++[v])∧bl.getD v 0∈allI es.length:=by
 obtain⟨c,vc,hc,hbE,htc,hox,_⟩:=h.P.wait v hv
 have hvD:¬ (D v∨v∈o):=fun hd=>by
  rw[(h.d v).2 hd]at hv
  cases hv
 have P:=h.P.enter (k':=fun a=>if a=o.length then wE es (bl.getD v 0)else k a) hv NT (fun a ha=>if_neg (by omega)) (if_pos rfl)
 have e1:(fun y:Nat=>sl[y]? =some 1∧y≠v)=fun y=>(sl.set v 2)[y]? =some 1:=by
  funext y
  by_cases e:v=y
  ·subst e;rw[jG hv];simp
  ·rw[dF e];simp[Ne.symm e]
 rw[e1]at P
 have hvc:vc∈o:=ang hc
 refine⟨⟨P.only (v:=v) (by simp) fun i hi ht=>(Ad hr hi).1 ht,fun y=>?_,fun y hy hm=>?_,h.shut⟩,⟨?_,fun i hi=>?_,fun i hi=>anr _ (t.sub i hi)⟩,hbE⟩
 ·by_cases e:v=y
  ·subst e;rw[jG hv];simp
  ·rw[dF e,h.d y,ann,anj]
   simp[Ne.symm e]
 ·rcases ann.1 hm with hm|hm
  ·exact h.lj y hy hm
  ·rw[anj]at hm
   exact hvD (.inl (by rw[←hm];exact hy))
 ·refine NV (done:=fun y=>D y∨y∈o) t.uD (fun i hi=>(t.ins i hi).2) htc (.inr hvc) ?_
  rw[hox]
  exact hvD
 ·have imp:∀y,D y∨y∈o→D y∨y∈o++[v]:=fun y hy=>hy.imp_right fun h=>anr _ h
  rcases ann.1 hi with hi|hi
  ·exact⟨(t.ins i hi).1,imp _ (t.ins i hi).2.1,imp _ (t.ins i hi).2.2⟩
  ·rw[anj]at hi
   subst hi
   refine⟨hbE,?_⟩
   have hvm:v∈o++[v]:=by simp
   have D7:vc∈o++[v]:=anr _ hvc
   unfold other at hox
   rcases htc with h1|h1
   ·have h2:(fE es (bl.getD v 0)).2=v:=by omega
    exact⟨.inr (by rw[h1];exact D7),.inr (by rw[h2];exact hvm)⟩
   ·have h2:(fE es (bl.getD v 0)).1=v:=by omega
    exact⟨.inr (by rw[h2];exact hvm),.inr (by rw[h1];exact D7)⟩
theorem Mr.over{D:Nat→Prop}{o:List Nat}{k:Nat→Int}{T T0:List Int}(h0:wx (fE es) (wE es) (allI es.length) T0 D)(h:Mr es D o k T sl bl [])(t:GrT es T T0 D o)(hn:∀v:Nat,sl[v]? ≠some 1):Yg es T sl:=by
 have:=h0.over t.sub h.P hn t.uD t.ins
 refine⟨?_,hn⟩
 have e1:(fun v=>D v∨v∈o)=fun v:Nat=>sl[v]? =some 2:=by
  funext v
  exact propext (h.d v).symm
 rw[e1]at this
 exact this
theorem Yg.UY{n:Int}(hr:eR n es){T:List Int}(h:Yg es T sl)(hl:∀v:Nat,v<n.toNat→sl[v]? =some 2):jv n es T∧Mp es T:=by
 obtain⟨h1,h2,h3,h4⟩:=h.1.UY fun i hi=>by
  have:=qu hr (ja.1 hi)
  exact⟨hl _ this.1,hl _ this.2⟩
 refine⟨⟨fun i hi=>ja.1 (h2 i hi),h1,fun u v hh=>?_⟩,h3⟩
 exact nY (fun x hx=>by obtain⟨i,hi,rfl⟩:=anv.1 hx;exact h4 i hi) hh
end
end Go.Proofs.YtjlnnljohemifaaGreat

namespace Go.Proofs.YtjlnnljohemifaaGreat
open Go Go.Vc
section
variable {n : Int} {es : List Ed} {K T : List Int}
theorem QZ(hr:eR n es):∀i∈allI es.length,(fE es i).1<n.toNat∧(fE es i).2<n.toNat:=fun i hi=>qu hr (ja.1 hi)
theorem jv.size(hr:eR n es)(h:jv n es T):cls n.toNat ((allI es.length).map (fE es))+T.length=n.toNat:=
 DL (n:=n.toNat) (E:=allI es.length) h.sub h.uD (QZ hr) (fun i hi=>h.all _ _ (jO (anv.2 ⟨i,hi,rfl⟩)))
theorem Kp(n:Int){L:List Int}(h1:∀i∈L,Km es i)(h2:∀i∈allI es.length,i∈L):jv n es (bO (fE es) L):=by
 obtain⟨g1,g2,g3⟩:=tZ (e:=fE es) L
 refine⟨fun i hi=>h1 i (g2 i hi),g1,fun u v hh=>nY (fun x hx=>?_) hh⟩
 obtain⟨i,hi,rfl⟩:=anv.1 hx
 exact g3 i (h2 i hi)
end
theorem Tb{T:List Int}(hs:jv 3 [⟨0,1,1⟩,⟨1,2,2⟩,⟨2,0,3⟩] T)(hl:Mp [⟨0,1,1⟩,⟨1,2,2⟩,⟨2,0,3⟩] T)(hp:T.Pairwise (· < ·)):T=[0,1]:=by
 have hr:eR 3 [⟨0,1,1⟩,⟨1,2,2⟩,⟨2,0,3⟩]:=(fM _ _).1 (by decide)
 have aV:=hs.size hr
 have hc:cls (3:Int).toNat ((allI 3).map (fE [⟨0,1,1⟩,⟨1,2,2⟩,⟨2,0,3⟩]))=1:=by decide
 have h2:T.length=2:=by
  have h3:cls (3:Int).toNat ((allI 3).map (fE [⟨0,1,1⟩,⟨1,2,2⟩,⟨2,0,3⟩]))+T.length=3:=aV
  omega
 have bE:=hs.ins
 match T,h2 with
 | [x,y],_=>
  have hx:0≤x∧x<3:=bE x (by simp)
  have hy:0≤y∧y<3:=bE y (by simp)
  have K7:x<y:=by simpa using hp
  have h:(x=0∧y=1)∨(x=0∧y=2)∨(x=1∧y=2):=by omega
  rcases h with ⟨rfl,rfl⟩| ⟨rfl,rfl⟩| ⟨rfl,rfl⟩
  ·rfl
  ·exfalso
   have:=hl 1 (by decide)
   revert this
   decide
  ·exfalso
   have:=hl 0 (by decide)
   revert this
   decide
end Go.Proofs.YtjlnnljohemifaaGreat

namespace Go.Proofs.YtjlnnljohemifaaGreat
open Go Go.Vc
theorem Dg{H:Hp}{a a':Option Addr}{c c':Nat}{xs ys:List Int}(h:cI H 1 (.slice a xs.length c) xs.length (xs.map i64))(h':cI H 1 (.slice a' ys.length c') ys.length (ys.map i64))(hm:xs.length≤1000000000000):
  af Tryz.prog HP [.slice a xs.length c,.slice a' ys.length c'] H fun v H'=>ar (v= .bool (decide (xs=ys))∧H=H'):=by
 refine aP HW ?_
 refine vs ?_
 refine ak.dec (fun h2=>?_) (fun h2=>?_)
 rotate_left
 ·refine vs ?_
  exact⟨by rw[anD (p:=xs=ys) (fun e=>h2 (by rw[e]))];rfl,rfl⟩
 refine vs ?_
 refine aT.intro (fun k env H'=>H'=H∧∃j:Nat,k=xs.length - j∧j≤xs.length∧xs.take j=ys.take j∧env=[(0,.slice a xs.length c),(1,.slice a' ys.length c'),(12,i64 xs.length),(13,i64 j)]) xs.length ⟨rfl,0,by omega,by omega,rfl,rfl⟩ ?_
 rintro k env _ ⟨rfl,j,hk,hj,Kq,rfl⟩
 refine vs ?_
 refine ak.dec (fun aK=>?_) (fun aK=>?_)<;>refine vs ?_
 ·have fF:j<xs.length:=by omega
  obtain⟨x,hx⟩:∃e,xs[j]? =some e:=⟨_,am8 fF⟩
  obtain⟨y,hy⟩:∃e,ys[j]? =some e:=⟨_,am8 (by omega)⟩
  obtain⟨_,b,o,lb,rfl,eG,bS⟩:=cI.num h hx
  obtain⟨_,b',o',Uj,rfl,ET,Wd⟩:=cI.num h' hy
  refine⟨⟨by omega,by omega⟩,?_⟩
  refine v4 eG Int.toNat_natCast ane bS ?_
  refine⟨⟨by omega,by omega⟩,?_⟩
  refine v4 ET Int.toNat_natCast ane Wd ?_
  refine ak.dec (fun h3=>?_) (fun h3=>?_)<;>refine vs ?_
  ·rw[wrap64 (n:=(j:Int)+1) (by omega) (by omega)]
   exact⟨xs.length - (j+1),by omega,trivial,j+1,rfl,by omega,by rw[anN,anN,hx,hy,Kq,h3],rfl⟩
  ·refine⟨?_,rfl⟩
   rw[anD (fun e2=>h3 (by rw[e2,hy]at hx;injection hx with hx;exact hx.symm))]
   rfl
 ·have fF:j=xs.length:=by omega
  subst fF
  rw[anJ,ao0 (by omega)]at Kq
  exact⟨by rw[anp Kq];rfl,rfl⟩
structure SB where
 n:Nat
 c:Nat
 t:Nat
 tl:Nat
 mp:Nat
def EU(T:Int→Int):Int→Option Value:=fun h=>if T h= -1 then none else some (i64 (T h))
structure dS(H:Hp)(B:SB)(C:Nat→Prop)(w:Nw)(L:List Lk)(T:Int→Int):Prop where
 own:H.own B.n=some [ptr B.c,ptr B.t,.map (some B.mp)]
 cells:CQ H B.c C w
 bT:bK H B.t B.tl L
 PP:kM H B.mp (EU T)
 len:L.length=w.cs.length
 lj:(B.n≠B.t∧B.n≠B.tl∧B.n≠B.mp)∧(B.t≠B.tl∧B.t≠B.mp)∧B.tl≠B.mp
 out:¬C B.n∧¬C B.t∧¬C B.tl∧¬C B.mp
def SB.S(B:SB)(C:Nat→Prop)(z:Nat):Prop:=C z∨z=B.n∨z=B.t∨z=B.tl∨z=B.mp
section
variable {H H' : Hp} {B : SB} {C V : Nat → Prop} {w w' : Nw} {L L' : List Lk} {T : Int → Int}
theorem dS.slt(h:dS H B C w L T):∀z,B.S C z→z<H.size:=by
 rintro z (hz|rfl|rfl|rfl|rfl)
 ·exact h.cells.slt z hz
 ·exact az h.own
 ·exact az h.bT.own
 ·exact az h.bT.kg
 ·exact h.PP.lt
theorem dS.ext(h:dS H B C w L T)(e:ag V H H')(hd:∀z,B.S C z→¬V z):dS H' B C w L T:=
 ⟨e.own h.own (hd _ (.inr (.inl rfl))),h.cells.ext e (fun x hx=>hd x (.inl hx)),h.bT.ext e (hd _ (.inr (.inr (.inl rfl)))) (hd _ (.inr (.inr (.inr (.inl rfl))))),
  h.PP.ext e (hd _ (.inr (.inr (.inr (.inr rfl))))),h.len,h.lj,h.out⟩
theorem dS.fresh(h:dS H B C w L T)(e:ah H H'):dS H' B C w L T:=h.ext e fun _ _ h=>h
theorem dS.aG(h:dS H B C w L T)(c1:CQ H' B.c C w')(e:ag C H H')(hl:w'.cs.length=w.cs.length):dS H' B C w' L T:=by
 obtain⟨o1,o2,o3,o4⟩:=h.out
 exact⟨e.own h.own o1,c1,h.bT.ext e o2 o3,h.PP.ext e o4,by rw[hl];exact h.len,h.lj,h.out⟩
theorem dS.dv(h:dS H B C w L T)(t1:bK H' B.t B.tl L')(e:ag (fun z=>z=B.tl) H H')(hl:L'.length=L.length):dS H' B C w L' T:=by
 obtain⟨o1,o2,o3,o4⟩:=h.out
 obtain⟨⟨d1,d2,d3⟩,⟨d4,d5⟩,d6⟩:=h.lj
 exact⟨e.own h.own d2,h.cells.ext e (fun x hx hz=>o3 (hz▸hx)),t1,h.PP.ext e (Ne.symm d6),by rw[hl];exact h.len,h.lj,h.out⟩
theorem dS.kj(h:dS H B C w L T){T':Int→Int}(t1:kM H' B.mp (EU T'))(e:ag (fun z=>z=B.mp) H H'):dS H' B C w L T':=by
 obtain⟨o1,o2,o3,o4⟩:=h.out
 obtain⟨⟨d1,d2,d3⟩,⟨d4,d5⟩,d6⟩:=h.lj
 exact⟨e.own h.own d3,h.cells.ext e (fun x hx hz=>o4 (hz▸hx)),h.bT.ext e d5 d6,t1,h.len,h.lj,h.out⟩
theorem Q0(T:Int→Int)(h x:Int):(x= -1→EU (iD T h x)=LL (EU T) h)∧(x≠ -1→EU (iD T h x)=Ij (EU T) h (i64 x)):=by
 constructor
 ·rintro rfl
  funext y
  unfold EU iD LL
  by_cases hy:y=h
  ·rw[if_pos hy,if_pos rfl,if_pos hy]
  ·rw[if_neg hy,if_neg hy]
 ·intro hx
  funext y
  unfold EU iD Ij
  by_cases hy:y=h
  ·rw[if_pos hy,if_neg hx,if_pos hy]
  ·rw[if_neg hy,if_neg hy]
theorem kU(h:dS H B C w L T)(g:Int):af Tryz.prog zb [ptr B.n,i64 g] H fun v H'=>ar (v=i64 (T g)∧H'=H):=by
 refine aP zx ?_
 refine v2 (ae h.own) h.PP.look ?_
 unfold EU
 by_cases hg:T g= -1
 ·rw[if_pos hg,hg]
  refine vs ?_
  exact⟨rfl,rfl⟩
 ·rw[if_neg hg]
  refine vs ?_
  exact⟨rfl,rfl⟩
theorem kV(h:dS H B C w L T)(g x:Int):af Tryz.prog yZ [ptr B.n,i64 g,i64 x] H fun v H'=>ar (dS H' B C w L (iD T g x)∧ag (fun z=>z=B.mp) H H'):=by
 obtain⟨h1,h2⟩:=Q0 T g x
 refine aP zv ?_
 refine vs ?_
 refine ak.dec (fun hx=>?_) (fun hx=>?_)<;>refine v1 (ae h.own) ?_
 ·refine h.PP.del fun H1 t1 e1=>?_
  rw[←h1 hx]at t1
  refine vs ?_
  exact⟨h.kj t1 e1,e1⟩
 ·refine h.PP.XV fun H1 t1 e1=>?_
  rw[←h2 hx]at t1
  refine vs ?_
  exact⟨h.kj t1 e1,e1⟩
theorem Ks{x a:Int}{b:Bool}(he:fY x= .tuple [i64 a,.bool b].toArray):(b=false∧x= -1)∨(b=true∧a=x∧x≠ -1):=by
 have h2:∀ {p q:Int} {r s:Bool},Value.tuple [i64 p,Value.bool r].toArray=Value.tuple [i64 q,Value.bool s].toArray→p=q∧r=s:=fun h=>by
  have h3:=anx Array.toList (Value.tuple.inj h)
  injection h3 with h4 h5
  injection h4 with _ h4
  injection h5 with h5 _
  injection h5 with h5
  exact⟨h4,h5⟩
 unfold fY at he
 split at he
 ·rename_i hx
  exact .inl ⟨(h2 he).2.symm,hx⟩
 ·rename_i hx
  exact .inr ⟨(h2 he).2.symm,(h2 he).1.symm,hx⟩
theorem kW(h:dS H B C w L T)(hb:Bt (aD w) (aN w) (aX L) (bi L)){x a:Int}{b:Bool}(he:fY x= .tuple [i64 a,.bool b].toArray):
  af Tryz.prog zc [ptr B.n,i64 a,.bool b] H fun v H'=>ar (v=i64 x∧∃L',dS H' B C w L' T∧aX L'=iz (aX L) (bi L) x∧bi L'=cV (bi L) x∧ag (fun z=>z=B.tl) H H'):=by
 refine aP zy ?_
 refine vs ?_
 rcases Ks he with ⟨rfl,rfl⟩| ⟨rfl,rfl,hx⟩
 ·refine vs ?_
  obtain⟨h1,h2⟩:=yI hb
  exact⟨rfl,L,h,h1.symm,h2.symm,ag.refl _ _⟩
 ·refine v1 (ae h.own) ?_
  refine(cC h.bT (x:=a) (fun hu=>by have:=zO.up hb hu;have:=h.len;omega)).mono ?_
  rintro _ H1 ⟨rfl,L1,t1,l1,k1,u1,e1⟩
  refine vs ?_
  exact⟨rfl,L1,h.dv t1 e1 l1,k1,u1,e1⟩
theorem kX(h:dS H B C w L T){g a0 b0:Int}{R:Int→Prop}(m:Mg (aD w) (aN w) g R (aX L) (bi L) [] a0 b0):
  af Tryz.prog za [ptr B.n,i64 a0,i64 b0] H fun v H'=>ar (∃r L',v=i64 r∧dS H' B C w L' T∧Mg (aD w) (aN w) g R (aX L') (bi L') [] r (-1)∧
   (∀x0,uE (aN w) (aX L) (bi L) x0 (aX L) (bi L) [] a0 b0→uE (aN w) (aX L) (bi L) x0 (aX L') (bi L') [] r (-1))∧ag (fun z=>C z∨z=B.tl) H H'):=by
 refine aP zw ?_
 refine vs ?_
 have vM:=h.cells.CY
 refine aT.intro (fun mm env H'=>∃ (a b:Int) (dD:List Int) (wv:Value) (fp:Option Nat) (L':List Lk),mm=w.cs.length - dD.length∧dS H' B C w L' T∧Mg (aD w) (aN w) g R (aX L') (bi L') dD a b∧
  (∀x0,uE (aN w) (aX L) (bi L) x0 (aX L) (bi L) [] a0 b0→uE (aN w) (aX L) (bi L) x0 (aX L') (bi L') dD a b)∧
  (∀z,fp=some z→H.size≤z)∧Sl H' 1 wv dD.length (dD.map i64) fp∧ag (fun z=>C z∨z=B.tl∨H.size≤z) H H'∧
  env=[(0,ptr B.n),(1,i64 a),(2,i64 b),(7,wv)]) _ ⟨a0,b0,[],_,none,L,rfl,h,m,(fun _ h=>h),(fun z h=>by cases h),Sl.nil _ _,ag.refl _ _,rfl⟩ ?_
 rintro mm env H1 ⟨a,b,dD,wv,fp,L1,rfl,l1,m1,f1,fN,s1,e1,rfl⟩
 have z1:=e1.size
 clear m
 refine vs ?_
 refine ak.dec (fun ga=>?A) (fun ga=>?_)<;>refine vs ?_
 rotate_left
 refine ak.dec (fun gb=>?B) (fun gb=>?_)<;>refine vs ?_
 rotate_left
 ·have o1:=l1.own
  refine v1 (ae o1) ?_
  refine(cA l1.cells b a).mono ?_
  rintro _ H2 ⟨rfl,c2,e2⟩
  have l2:=l1.aG c2 e2 rfl
  have s2:=s1.ext e2 (fun z hz dE=>by have:=fN z hz;have:=h.slt z (.inl dE);omega)
  have z2:=e2.size
  have ha:=m1.wa.resolve_left ga
  have hb:=m1.wb.resolve_left gb
  have AC:=gF (w:=w) (a:=b) (b:=a) (by rw[hb.1];exact m1.pos) (by rw[ha.1];exact m1.pos)
  have aM:a≠b:=fun e=>ga (m1.ab e)
  rw[AC]
  obtain⟨p,q,M4,hl,gp,gq,mm,fm⟩:∃p q,(if aN w b a=true then(p=b∧q=a)else(p=a∧q=b))∧aN w p q=true∧p≠ -1∧q≠ -1∧Mg (aD w) (aN w) g R (aX L1) (bi L1) dD p q∧
    (∀x0,uE (aN w) (aX L) (bi L) x0 (aX L) (bi L) [] a0 b0→uE (aN w) (aX L) (bi L) x0 (aX L1) (bi L1) dD p q):=by
   cases aK:aN w b a
   ·exact⟨a,b,by simp,((aq w).M8 a b aM).resolve_right (by rw[aK];simp),ga,gb,m1,f1⟩
   ·exact⟨b,a,by simp,aK,gb,ga,m1.swap,fun x0 h0=>(f1 x0 h0).swap⟩
  have NY:0<aD w p:=by rw[(mm.wa.resolve_left gp).1];exact mm.pos
  obtain⟨p0,p1,_⟩:=aC NY
  have m3:=mm.PO (aq w) gp gq hl
  have f3:=fun x0 h0=>(fm x0 h0).down (aq w) mm.bt gp
  have wl:(dD++[p]).length≤w.cs.length:=bU (m3.nodup (aq w)) fun x hx=>by
   have FA:=(m3.wy x hx).2.1
   have o8:=m3.pos
   obtain⟨x0,x1,_⟩:=aC (w:=w) (x:=x) (by omega)
   exact⟨x0,x1⟩
  rw[ank,ant]at wl
  cases aK:aN w b a<;>simp only[aK,if_true,if_false,aof]at M4<;>obtain⟨rfl,rfl⟩:=M4<;>refine vs ?_
  all_goals
   refine wB (B:=H.size) fN (by omega) s2 p (by omega) fun w' H3 cJ gU s3 e3=>?_
   refine vs ?_
   have l3:=l2.ext e3 (fun z hz dE=>by have:=h.slt z hz;omega)
   have o3:=l3.own
   refine v1 (ae o3) ?_
   refine(ci l3.bT p).mono ?_
   rintro _ H' ⟨rfl,e⟩
   obtain rfl:=e.symm
   obtain⟨k1,k2,ek⟩:=cD (aX L1 p true)
   rw[ek]
   refine vs ?_
   refine(kW l3 mm.bt ek).mono ?_
   rintro _ H4 ⟨rfl,L4,l4,Ud,Ue,e4⟩
   have s4:=s3.ext e4 (fun z hz dE=>by have:=gU z hz;have:=h.slt B.tl (.inr (.inr (.inr (.inl rfl))));omega)
   refine vs ?_
   refine⟨w.cs.length - (dD.length+1),by omega,aX L1 p true,q,dD++[p],w',cJ,L4,by simp,l4,?_,?_,gU,s4,((e1.trans (e2.mono fun z _ hz=>.inl hz)).trans (e3.mono fun z _ hz=>.inr (.inr hz))).trans (e4.mono fun z _ hz=>.inr (.inl hz)),rfl⟩
   ·rw[Ud,Ue];exact m3
   ·rw[Ud,Ue];exact f3
 case' A=>
  have m2:Mg (aD w) (aN w) g R (aX L1) (bi L1) dD b (-1):=ga▸m1.swap
  have f2:=fun x0 (h0:uE (aN w) (aX L) (bi L) x0 (aX L) (bi L) [] a0 b0)=>(f1 x0 h0).swap
  rw[ga]at f2
  have hr:(if b>a then b else a)=b:=by
   rcases m1.wb with h|h
   ·omega
   ·have hp:=m1.pos
    obtain⟨_,_⟩:=aC (w:=w) (x:=b) (by omega)
    omega
  rw[hr]
  clear hr
  generalize b=r at m2 f2
 case' B=>
  have m2:Mg (aD w) (aN w) g R (aX L1) (bi L1) dD a (-1):=gb▸m1
  have f2:=f1
  rw[gb]at f2
  have hr:(if b>a then b else a)=a:=by
   rcases m1.wa with h|h
   ·omega
   ·have hp:=m1.pos
    obtain⟨_,_⟩:=aC (w:=w) (x:=a) (by omega)
    omega
  rw[hr]
  clear hr
  generalize a=r at m2 f2
 all_goals
  obtain⟨wa,wc,rfl⟩:=Sl.shape s1
  refine vs ?_
  have wl:dD.length≤w.cs.length:=bU (m2.nodup (aq w)) fun x hx=>by
   have FA:=(m2.wy x hx).2.1
   have o8:=m2.pos
   obtain⟨x0,x1,_⟩:=aC (w:=w) (x:=x) (by omega)
   exact⟨x0,x1⟩
  refine aT.intro (fun mm env H'=>∃ (i:Nat) (r:Int) (L':List Lk),mm=i∧i≤dD.length∧dS H' B C w L' T∧Mg (aD w) (aN w) g R (aX L') (bi L') (dD.take i) r (-1)∧
   (∀x0,uE (aN w) (aX L) (bi L) x0 (aX L) (bi L) [] a0 b0→uE (aN w) (aX L) (bi L) x0 (aX L') (bi L') (dD.take i) r (-1))∧
   Sl H' 1 (.slice wa dD.length wc) dD.length (dD.map i64) fp∧ag (fun z=>C z∨z=B.tl∨H.size≤z) H H'∧
   env=[(0,ptr B.n),(7,.slice wa dD.length wc),(8,i64 r),(9,i64 ((i:Int) - 1))]) _ ⟨dD.length,r,L1,rfl,ano _,l1,by rw[anJ];exact m2,by rw[anJ];exact f2,s1,e1,?_⟩ ?_
  ·rw[wrap64 (by omega) (by omega)]
  rintro mm env H2 ⟨i,r2,L2,hmi,hi,l2,m3,f3,s2,e2,rfl⟩
  obtain rfl:=hmi.symm
  refine vs ?_
  refine ak.dec (fun gi=>?_) (fun gi=>?_)<;>refine vs ?_
  rotate_left
  ·obtain rfl:i=0:=by omega
   exact⟨r2,L2,rfl,l2,by simpa using m3,by simpa using f3,e2.mono fun z hz h=>h.elim .inl fun h=>.inr (by omega)⟩
  obtain⟨j,rfl⟩:∃j,i=j+1:=⟨i - 1,by omega⟩
  obtain⟨v,hv⟩:∃v,dD[j]? =some v:=⟨_,am8 (by omega)⟩
  have tk:dD.take (j+1)=dD.take j++[v]:=by rw[anN,hv];rfl
  rw[tk]at m3 f3
  have m4:=m3.back (aq w)
  have f4:=fun x0 h0=>(f3 x0 h0).back
  obtain⟨v1,v2,v3,v4,v5,v6⟩:=m3.wy v (by simp)
  obtain⟨q1,vb,lb,rfl,q2,q3⟩:=Sl.xW s2 hv
  have ZD:∃b',fp=some b'∧b'=vb:=by
   cases fp with
   |none=>have:=s2.2.2;injection this with h1;cases h1
   |some b'=>obtain⟨_,_,h1,_⟩:=s2.2;injection h1 with h1;injection h1 with h1;injection h1 with h1;exact⟨b',rfl,h1.symm⟩
  obtain⟨b',rfl,rfl⟩:=ZD
  have ZD:=fN b' rfl
  have Uf:0<aD w v:=by rw[v2];exact m3.pos
  obtain⟨Vu,vv1,_⟩:=aC Uf
  have ji:((((j+1:Nat):Int) - 1)).toNat=j:=by omega
  refine⟨⟨by omega,by omega⟩,?_⟩
  simp(disch:=(first|omega| (simp only[Zs]<;>omega)|fail)) only[go_sem, ↓reduceIte,Zv,ae q2,am9,ane,ji,q3]
  refine ak.dec (fun gr=>?_) (fun gr=>?_)<;>refine vs ?_
  ·rw[if_pos gr,if_pos gr]at m4
   simp only[if_pos gr]at f4
   have f5:=f4
   have l3:=l2
   have m5:=m4
   have s3:=s2
   have e3:=e2
   simp(disch:=(first|omega| (simp only[Zs]<;>omega)|fail)) only[go_sem, ↓reduceIte,Zv,ae l3.own]
   refine(kS l3.bT (p:=v) ⟨Vu,by have:=l3.len;omega⟩).mono ?_
   rintro _ H4 ⟨rfl,L4,t4,Vt,k4,u4,e4⟩
   have l4:=l3.dv t4 e4 Vt
   refine vs ?_
   refine⟨j,by omega,j,v,L4,rfl,by omega,l4,?_,?_,s3.ext e4 (fun z hz dE=>by injection hz with hz;have:=h.slt B.tl (.inr (.inr (.inr (.inl rfl))));omega),e3.trans (e4.mono fun z _ hz=>.inr (.inl hz)),?_⟩
   ·rw[k4,u4];exact m5.rA (aq w)
   ·rw[k4,u4];exact fun x0 h0=>(f5 x0 h0).rA v1
   ·rw[show((j+1:Nat):Int) - 1 - 1=(j:Int) - 1 by omega,wrap64 (by omega) (by omega)]
  ·rw[if_neg gr,if_neg gr]at m4
   simp only[if_neg gr]at f4
   have uC:=m3.wa.resolve_left gr
   obtain⟨r0,r1,_⟩:=aC (w:=w) (x:=r2) (by rw[uC.1];exact m3.pos)
   have aV:=l2.len
   have hvr:v≠r2:=fun e=>by have:=v5 gr;rw[e,(aq w).ua]at this;cases this
   simp(disch:=(first|omega| (simp only[Zs]<;>omega)|fail)) only[go_sem, ↓reduceIte,Zv,ae l2.own]
   refine(eJ l2.bT (p:=v) (x:=r2) (c:=true) ⟨Vu,by omega⟩ ⟨r0,by omega⟩ hvr uC.2 v4).mono ?_
   rintro _ H3 ⟨rfl,L3,t3,ll3,ZE,ZF,Fz⟩
   have l3:=l2.dv t3 Fz ll3
   have m5:Mg (aD w) (aN w) g R (aX L3) (bi L3) (dD.take j) v (-1):=by rw[ZE,ZF];exact m4
   have f5:=f4
   rw[←ZE,←ZF]at f5
   have nb:b'≠B.tl:=fun e=>by have:=h.slt B.tl (.inr (.inr (.inr (.inl rfl))));omega
   have s3:=s2.ext Fz (fun z hz dE=>by injection hz with hz;exact nb (hz.trans dE))
   have e3:=e2.trans (Fz.mono fun z _ hz=>.inr (.inl hz))
   refine vs ?_
   simp(disch:=(first|omega| (simp only[Zs]<;>omega)|fail)) only[go_sem, ↓reduceIte,Zv,ae l3.own]
   refine(kS l3.bT (p:=v) ⟨Vu,by have:=l3.len;omega⟩).mono ?_
   rintro _ H4 ⟨rfl,L4,t4,Vt,k4,u4,e4⟩
   have l4:=l3.dv t4 e4 Vt
   refine vs ?_
   refine⟨j,by omega,j,v,L4,rfl,by omega,l4,?_,?_,s3.ext e4 (fun z hz dE=>by injection hz with hz;have:=h.slt B.tl (.inr (.inr (.inr (.inl rfl))));omega),e3.trans (e4.mono fun z _ hz=>.inr (.inl hz)),?_⟩
   ·rw[k4,u4];exact m5.rA (aq w)
   ·rw[k4,u4];exact fun x0 h0=>(f5 x0 h0).rA v1
   ·rw[show((j+1:Nat):Int) - 1 - 1=(j:Int) - 1 by omega,wrap64 (by omega) (by omega)]
end
end Go.Proofs.YtjlnnljohemifaaGreat

namespace Go.Proofs.YtjlnnljohemifaaGreat
open Go Go.Vc
def dG(n:Nat)(H:Hp)(S:Nat→Prop)(w:Nw):Prop:=∃ (B:SB) (C:Nat→Prop) (L:List Lk) (T:Int→Int),B.n=n∧dS H B C w L T∧yH (aD w) (aN w) (aX L) (bi L) T∧∀z,S z↔B.S C z
theorem dG.slt{n:Nat}{H:Hp}{S:Nat→Prop}{w:Nw}(h:dG n H S w):∀z,S z→z<H.size:=by
 obtain⟨B,C,L,T,rfl,m,l,hS⟩:=h
 exact fun z hz=>m.slt z ((hS z).1 hz)
theorem dG.ext{n:Nat}{H H':Hp}{S V:Nat→Prop}{w:Nw}(h:dG n H S w)(e:ag V H H')(hd:∀z,S z→¬V z):dG n H' S w:=by
 obtain⟨B,C,L,T,rfl,m,l,hS⟩:=h
 exact⟨B,C,L,T,rfl,m.ext e (fun z hz=>hd z ((hS z).2 hz)),l,hS⟩
theorem OP:EU (fun _=> -1)=fun _=>none:=by
 funext y
 unfold EU
 rw[if_pos rfl]
theorem GH(cap:Int)(H:Hp):af Tryz.prog Lq [i64 cap] H fun v H'=>ar (
  ah H H'∧((¬ (0≤cap∧cap≤65536)∧v= .tuple [.pointer none,i64 31].toArray)∨
   ((0≤cap∧cap≤65536)∧∃n S,v= .tuple [ptr n,i64 0].toArray∧dG n H' S (xZ cap)∧∀x,S x→H.size≤x))):=by
 refine aP Lv ?_
 refine vs ?_
 refine(ke cap H).mono ?_
 rintro _ H1 ⟨f1,⟨hb,rfl⟩| ⟨hb,c,C,rfl,c1,hC⟩⟩
 ·refine vs ?_
  exact⟨f1,.inl ⟨hb,rfl⟩⟩
 refine v1 anT ?_
 refine(th H1 hb).mono ?_
 rintro _ H2 ⟨t,tl,rfl,t2,f2,ht,Lc⟩
 refine vs ?_
 have wA:=c1.slt
 have z1:=f1.size
 have z2:=f2.size
 have FD:=az t2.own
 have VG:=az t2.kg
 have f3:ah H2 (H2.gS.new 282 [ptr c,ptr t,.map (some H2.size)]):=((ag.refl _ _).gS).new _ _
 have e1:ag (fun _=>False) H2.gS (H2.gS.new 282 [ptr c,ptr t,.map (some H2.size)]):=(ag.refl _ _).new _ _
 have ft:=f1.trans (f2.trans f3)
 refine⟨ft,.inr ⟨hb,H2.size+1,(SB.mk (H2.size+1) c t tl H2.size).S C,rfl,⟨⟨H2.size+1,c,t,tl,H2.size⟩,C,_,fun _=> -1,rfl,
  ⟨?_,c1.fresh (f2.trans f3),t2.fresh f3,by rw[OP];exact(kM.new H2).ext e1 (fun h=>h),?_,?_,?_⟩,yH.none rfl (kw cap) (zR _) (Ey _) (fun _=>rfl),fun z=>Iff.rfl⟩,fun z hz=>?_⟩⟩
 ·exact aQ (by simp only[hZ])
 ·simp[xZ]
 ·have:=t2.ne
  refine⟨⟨?_,?_,?_⟩,⟨?_,?_⟩,?_⟩<;>simp only<;>omega
 ·refine⟨fun h=>?_,fun h=>?_,fun h=>?_,fun h=>?_⟩<;>(have h2:=wA _ h;first|omega| (simp only at h2;omega))
 ·rcases hz with hz|rfl|rfl|rfl|rfl
  ·exact hC z hz
  all_goals first|omega| (simp only;omega)
theorem EV{n:Nat}{H:Hp}{B:SB}{C:Nat→Prop}{w:Nw}{L:List Lk}{T:Int→Int}{S:Nat→Prop}(m:dS H B C w L T)(l:yH (aD w) (aN w) (aX L) (bi L) T)(hn:B.n=n)(hS:∀z,S z↔B.S C z):af Tryz.prog df [ptr B.c] H fun v H'=>ar (
  (w.hs.length=65537∧v=i64 0∧cr (dG n) S H H' w)∨(w.hs.length≠65537∧v=i64 w.hs.length∧cr (dG n) S H H' w.make)):=by
 subst hn
 refine(iW m.cells).mono ?_
 rintro _ H1 (⟨h1,rfl,rfl⟩| ⟨h1,rfl,C',c1,e1,ya⟩)
 ·exact .inl ⟨h1,rfl,cr.same ⟨B,C,L,T,rfl,m,l,hS⟩ (ag.refl _ _)⟩
 obtain⟨n1,n2,n3,n4⟩:=m.out
 have slt:=m.slt
 have no:∀z,B.S (fun _=>False) z→¬C z→¬C' z:=fun z hz hn h=>by
  rcases ya z h with h6|h6
  ·exact hn h6
  ·have:=slt z (hz.elim (fun h=>h.elim) .inr)
   omega
 refine .inr ⟨h1,rfl,B.S C',⟨B,C',L,T,rfl,⟨e1.own m.own n1,c1,m.bT.ext e1 n2 n3,m.PP.ext e1 n4,m.len,m.lj,no _ (.inr (.inl rfl)) n1,no _ (.inr (.inr (.inl rfl))) n2,no _ (.inr (.inr (.inr (.inl rfl)))) n3,no _ (.inr (.inr (.inr (.inr rfl)))) n4⟩,l,fun z=>Iff.rfl⟩,
  e1.mono fun z _ h=>(hS z).2 (.inl h),fun z hz=>?_⟩
 rcases hz with hz|hz
 ·rcases ya z hz with h6|h6
  ·exact .inl ((hS z).2 (.inl h6))
  ·exact .inr h6
 ·exact .inl ((hS z).2 (.inr hz))
theorem BS{n:Nat}{H:Hp}{S:Nat→Prop}{w:Nw}(h:dG n H S w)(g x k s:Int):af Tryz.prog l9 [ptr n,i64 g,i64 x,rZ k s] H fun v H'=>ar (
  (¬w.kT g x∧v= .bool false∧cr (dG n) S H H' w)∨(w.kT g x∧v= .bool true∧cr (dG n) S H H' (w.put x (g,k,s)))):=by
 obtain⟨B,C,L,T,rfl,m,l,hS⟩:=h
 have hC:∀z,C z→S z:=fun z h=>(hS z).2 (.inl h)
 have s1:S B.tl:=(hS _).2 (.inr (.inr (.inr (.inl rfl))))
 have s2:S B.mp:=(hS _).2 (.inr (.inr (.inr (.inr rfl))))
 refine aP xP ?_
 refine vs ?_
 have f0:ah H (H.new 224 [i64 k,u64 s]):=(ag.refl _ _).new _ _
 have b0:(H.new 224 [i64 k,u64 s]).own H.size=some [i64 k,u64 s]:=ax _ _ _
 have m0:=m.fresh f0
 generalize H.new 224 [i64 k,u64 s]=H0 at*
 have ff:ag S H H0:=f0.mono fun _ _ h=>h.elim
 refine v2 (ae m0.own) (ae b0) ?_
 refine(j9 m0.cells g x k s).mono ?_
 rintro _ H1 (⟨bJ,rfl,c1,e1⟩| ⟨oO,rfl,c1,e1⟩)
 ·refine vs ?_
  exact .inl ⟨bJ,rfl,cr.same ⟨B,C,L,T,rfl,m0.aG c1 e1 rfl,l,hS⟩ (ff.trans (e1.mono fun z _ hz=>hC z hz))⟩
 obtain⟨hh,hx,bE⟩:=id oO
 have m1:=m0.aG c1 e1 (by simp[Nw.put])
 have hg:=hh.1
 have cH:=fun y=>dK hx (g,k,s) y
 have bo:Sj (aD (w.put x (g,k,s))) (aN (w.put x (g,k,s))) (aX L) (bi L) T g x:=by
  refine l.ins rfl (Int.not_lt.1 fun h=>bE (bk.1 h)) (by omega) (by omega) (by rw[cH,if_pos rfl]) (fun y hy=>by rw[cH,if_neg hy]) (fun a b ha hb sj lm=>di hx _ ha hb sj lm)
 refine vs ?_
 refine(kU m1 g).mono ?_
 rintro _ H' ⟨rfl,e⟩
 obtain rfl:=e.symm
 refine vs ?_
 refine(kX m1 bo.mg).mono ?_
 rintro _ H2 ⟨r,L2,rfl,m2,g2,_,e2⟩
 refine vs ?_
 refine(kV m2 g r).mono ?_
 rintro _ H3 ⟨m3,e3⟩
 refine vs ?_
 exact .inr ⟨oO,rfl,cr.same ⟨B,C,L2,_,rfl,m3,bo.done g2,hS⟩ (((ff.trans (e1.mono fun z _ h=>hC z h)).trans (e2.mono fun z _ h=>by rcases h with h|rfl;exact hC z h;exact s1)).trans (e3.mono fun z _ h=>h▸s2))⟩
theorem Hm{w:Nw}{L:List Lk}{T:Int→Int}(l:yH (aD w) (aN w) (aX L) (bi L) T){g x:Int}(h:w.first g x):T g=x:=by
 obtain⟨h1,h2,h3⟩:=bH.1 h
 have:=l.first (x:=x) (by omega) (fun y hy aM=>h3 y (by omega) aM) (aq w)
 rwa[h2]at this
theorem wN{n:Nat}{H:Hp}{S:Nat→Prop}{w:Nw}(h:dG n H S w)(g:Int):af Tryz.prog qR [ptr n,i64 g] H fun v H'=>ar (
  ((w.len g=0∧v= .tuple [i64 0,.bool false].toArray)∨∃x,w.first g x∧v= .tuple [i64 x,.bool true].toArray)∧H'=H):=by
 obtain⟨B,C,L,T,rfl,m,l,hS⟩:=h
 refine aP CN ?_
 refine vs ?_
 refine(kU m g).mono ?_
 rintro _ H' ⟨rfl,e⟩
 obtain rfl:=e.symm
 refine vs ?_
 refine ak.dec (fun h0=>?_) (fun h0=>?_)<;>refine vs ?_
 ·refine⟨.inl ⟨?_,rfl⟩,rfl⟩
  by_cases hg:0<g
  ·refine anC fun hl=>?_
   obtain⟨x,hx⟩:=te hg hl
   have h2:=(bH.1 hx).2.1
   have:=Hm l hx
   have:=(aC (w:=w) (x:=x) (by omega)).1
   omega
  ·exact Nw.Gr.2 (.inl (by omega))
 ·obtain⟨h1,h2,h3⟩:=l.t1 g h0
  have hl:w.len g≠0:=fun e=>(s8 h2).1 e _ h1
  obtain⟨x,hx⟩:=te h2 hl
  rw[Hm l hx]
  exact⟨.inr ⟨x,hx,rfl⟩,rfl⟩
theorem yk{n:Nat}{H:Hp}{S:Nat→Prop}{w:Nw}(h:dG n H S w)(x k s:Int):af Tryz.prog jY [ptr n,i64 x,rZ k s] H fun v H'=>ar (
  (¬w.cW x k s∧v= .bool false∧cr (dG n) S H H' w)∨(w.cW x k s∧v= .bool true∧∃y,w.cs[x.toNat]? =some y∧cr (dG n) S H H' (w.put x (y.1,k,s)))):=by
 obtain⟨B,C,L,T,rfl,m,l,hS⟩:=h
 have hC:∀z,C z→S z:=fun z h=>(hS z).2 (.inl h)
 have s1:S B.tl:=(hS _).2 (.inr (.inr (.inr (.inl rfl))))
 have s2:S B.mp:=(hS _).2 (.inr (.inr (.inr (.inr rfl))))
 refine aP sS ?_
 refine vs ?_
 have f0:ah H (H.new 224 [i64 k,u64 s]):=(ag.refl _ _).new _ _
 have b0:(H.new 224 [i64 k,u64 s]).own H.size=some [i64 k,u64 s]:=ax _ _ _
 have m0:=m.fresh f0
 generalize H.new 224 [i64 k,u64 s]=H0 at*
 have ff:ag S H H0:=f0.mono fun _ _ h=>h.elim
 refine v2 (ae m0.own) (ae b0) ?_
 refine(gE m0.cells x k s).mono ?_
 rintro _ H1 (⟨bJ,rfl,c1,e1⟩| ⟨bE,rfl,y,hy,eY,c1,e1⟩)
 ·refine vs ?_
  exact .inl ⟨bJ,rfl,cr.same ⟨B,C,L,T,rfl,m0.ext e1 (fun _ _ h=>h),l,hS⟩ (ff.trans (e1.mono fun _ _ h=>h.elim))⟩
 have lG:(w.put x (y.1,k,s)).cs.length=w.cs.length:=by simp[Nw.put]
 have m1:=m0.aG c1 e1 lG
 have zU:w.cW x k s:=⟨bE,fun z hz=>by rw[hy]at hz;injection hz with hz;rw[←hz];exact eY⟩
 have hx:0≤x∧x<w.cs.length:=⟨bE.1,by have:=(ana.1 hy).1;have:=bE.1;omega⟩
 have Nk:aD w x=y.1:=jE bE.1 hy
 have dA:=bk.2 bE
 have hw:aD (w.put x (y.1,k,s))=aD w:=by
  funext z
  rw[dK hx]
  split
  ·rename_i e;rw[e,Nk]
  ·rfl
 have Dc:cS (w.put x (y.1,k,s)).cs x:=bk.1 (by rw[hw];exact dA)
 refine v1 (ae m1.own) ?_
 refine(c9 m1.cells x).mono ?_
 rintro _ H2 (⟨bJ,_,_⟩| ⟨_,rfl,c2,e2⟩)
 ·exact absurd Dc bJ
 have m2:=m1.aG c2 e2 rfl
 have nT:ag S H H2:=(ff.trans (e1.mono fun z _ h=>hC z h)).trans (e2.mono fun z _ h=>hC z h)
 have el:∀a b,0<aD w a→0<aD w b→a≠x→b≠x→aN (w.put x (y.1,k,s)) a b=aN w a b:=fun a b ha hb sj lm=>di hx _ ha hb sj lm
 have ex:∀b,0<aD w b→b≠x→aN w x b=true→aN (w.put x (y.1,k,s)) x b=true:=fun b hb lm h=>zM bE hy eY hb lm h
 refine v1 (ae m2.own) ?_
 refine(cC m2.bT (x:=x) (fun hu=>by have:=zO.up l.bt hu;have:=m2.len;omega)).mono ?_
 rintro _ H3 ⟨rfl,L3,t3,l3,k3,u3,e3⟩
 have m3:=m2.dv t3 e3 l3
 have C3:ag S H H3:=nT.trans (e3.mono fun z _ h=>h▸s1)
 unfold fY
 by_cases hu:bi L x= -1
 ·rw[if_pos hu]
  refine vs ?_
  have kk:aX L3=aX L:=by rw[k3];unfold iz;rw[if_pos hu]
  have uu:bi L3=bi L:=by
   rw[u3]
   funext z
   unfold cV aE
   split
   ·rename_i e;rw[e,hu]
   ·rfl
  refine .inr ⟨zU,rfl,y,hy,cr.same ⟨B,C,L3,T,rfl,m3,?_,hS⟩ C3⟩
  rw[hw,kk,uu]
  exact l.Sk dA hu el ex (aq w)
 rw[if_neg hu]
 refine vs ?_
 have bo:=l.low dA hu el ex (aq w)
 rw[←hw,←k3,←u3]at bo
 refine(kU m3 _).mono ?_
 rintro _ H' ⟨rfl,e⟩
 obtain rfl:=e.symm
 refine vs ?_
 refine(kX m3 bo.mg).mono ?_
 rintro _ H4 ⟨r,L4,rfl,m4,g4,_,e4⟩
 refine vs ?_
 refine(kV m4 _ r).mono ?_
 rintro _ H5 ⟨m5,e5⟩
 refine vs ?_
 exact .inr ⟨zU,rfl,y,hy,cr.same ⟨B,C,L4,_,rfl,m5,bo.done g4,hS⟩ ((C3.trans (e4.mono fun z _ h=>by rcases h with h|rfl;exact hC z h;exact s1)).trans (e5.mono fun z _ h=>h▸s2))⟩
theorem BT{n:Nat}{H:Hp}{S:Nat→Prop}{w:Nw}(h:dG n H S w)(x:Int):af Tryz.prog xm [ptr n,i64 x] H fun v H'=>ar (
  (¬cS w.cs x∧v= .bool false∧cr (dG n) S H H' w)∨(cS w.cs x∧v= .bool true∧cr (dG n) S H H' (w.put x (0,0,0)))):=by
 obtain⟨B,C,L,T,rfl,m,t,hS⟩:=id h
 have hC:∀z,C z→S z:=fun z h=>(hS z).2 (.inl h)
 have s1:S B.tl:=(hS _).2 (.inr (.inr (.inr (.inl rfl))))
 have s2:S B.mp:=(hS _).2 (.inr (.inr (.inr (.inr rfl))))
 refine aP xO ?_
 refine v1 (ae m.own) ?_
 refine(c9 m.cells x).mono ?_
 rintro _ H1 (⟨bJ,rfl,rfl⟩| ⟨bE,rfl,c1,e1⟩)
 ·refine vs ?_
  exact .inl ⟨bJ,rfl,cr.same h (ag.refl _ _)⟩
 have m1:=m.aG c1 e1 rfl
 have dA:=bk.2 bE
 obtain⟨fO,jA,_⟩:=aC dA
 have Cg:x≠ -1:=by omega
 have ls:=aq w
 obtain⟨⟨d1,d2,d3⟩,⟨d4,d5⟩,d6⟩:=m.lj
 refine vs ?_
 refine jk.intro (fun H'=>H'.own B.n=some [ptr B.c,ptr B.t,.map (some B.mp)]) m1.own ?_
 refine vs ?_
 refine fk.intro (ptr B.t) (fun H' hI=>by refine v1 (ae hI) ?_;trivial) ?_
 refine v1 (ae m1.own) ?_
 refine And.intro m1.own ?_
 refine vs ?_
 obtain⟨a1,b1,ZO⟩:=cD (aX L x false)
 refine(kR m1.bT x).mono ?_
 rintro _ H' ⟨rfl,e⟩
 obtain rfl:=e.symm
 rw[ZO]
 refine And.intro m1.own ?_
 refine vs ?_
 refine(kW m1 t.bt ZO).mono ?_
 rintro _ H2 ⟨rfl,L2,m2,k2,u2,e2⟩
 refine And.intro m2.own ?_
 refine vs ?_
 have bt2:zO w L2:=by
  show Bt _ _ _ _
  rw[k2,u2];exact t.bt.Si _
 have er:aX L2 x true=aX L x true:=by
  rw[k2,lP t.bt,if_neg]
  rintro⟨h1,h2⟩
  exact h1 (t.bt.two x h2.symm)
 obtain⟨a2,b2,ZP⟩:=cD (aX L2 x true)
 refine(ci m2.bT x).mono ?_
 rintro _ H' ⟨rfl,e⟩
 obtain rfl:=e.symm
 rw[ZP]
 refine And.intro m2.own ?_
 refine vs ?_
 refine(kW m2 bt2 ZP).mono ?_
 rintro _ H3 ⟨rfl,L3,m3,k3,u3,e3⟩
 refine And.intro m3.own ?_
 rw[er]at k3 u3
 rw[k2,u2]at k3
 rw[u2]at u3
 obtain⟨w1,w2,w3,w4⟩:=t.bt.bare x
 have hk:∀c,aX L x c= -1∨(aD w (aX L x c)=aD w x∧bi L3 (aX L x c)= -1):=fun c=>by
  by_cases hk:aX L x c= -1
  ·exact .inl hk
  ·refine .inr ⟨(t.bt.home hk).2.2.1,?_⟩
   rw[u3,w4,if_pos]
   cases c
   ·exact .inl rfl
   ·exact .inr rfl
 rw[←k3,←u3]at w1
 have mg:=Mg.start w1 dA (hk false) (hk true) (fun e=>t.bt.two x e)
 rw[er]
 refine vs ?_
 refine(kX m3 mg).mono ?_
 rintro _ H4 ⟨r,L4,rfl,m4,g4,f4,e4⟩
 refine And.intro m4.own ?_
 refine vs ?_
 have f4:=f4 x (uE.start (fun hk=>(t.bt.home hk).2.2.2.2) (fun hk=>(t.bt.home hk).2.2.2.2))
 have d:=t.T2 ls dA k3 u3 g4 f4
 have ul:ag S H H4:=(((e1.mono fun z _ h=>hC z h).trans (e2.mono fun z _ h=>h▸s1)).trans (e3.mono fun z _ h=>h▸s1)).trans (e4.mono fun z _ h=>by rcases h with h|rfl;exact hC z h;exact s1)
 have cH:=fun y=>dK (w:=w) ⟨fO,jA⟩ (0,0,0) y
 have p0:aD (w.put x (0,0,0)) (-1)=0:=rfl
 have p1:aD (w.put x (0,0,0)) x=0:=by rw[cH,if_pos rfl]
 have p2:∀y,y≠x→aD (w.put x (0,0,0)) y=aD w y:=fun y hy=>by rw[cH,if_neg hy]
 have el:∀a b,0<aD w a→0<aD w b→a≠x→b≠x→aN (w.put x (0,0,0)) a b=aN w a b:=fun a b ha hb sj lm=>di ⟨fO,jA⟩ _ ha hb sj lm
 have lG:(w.put x (0,0,0)).cs.length=w.cs.length:=by simp[Nw.put]
 refine v1 (ae m4.own) ?_
 refine(nD m4.bT x).mono ?_
 rintro _ H' ⟨rfl,e⟩
 obtain rfl:=e.symm
 rw[d.ux]
 unfold fY
 by_cases hu:bi L x= -1
 ·rw[if_pos hu]
  refine vs ?_
  refine(kV m4 _ r).mono ?_
  rintro _ H5 ⟨m5,e5⟩
  refine v1 (ae m5.own) ?_
  refine(bY m5.cells x).mono ?_
  rintro _ H6 (⟨bJ,_,_⟩| ⟨_,rfl,c6,e6⟩)
  ·exact absurd bE bJ
  have m6:=m5.aG c6 e6 lG
  refine vs ?_
  exact .inr ⟨bE,rfl,cr.same ⟨B,C,L4,_,rfl,m6,d.PP t dA hu p0 p1 p2 el,hS⟩ ((ul.trans (e5.mono fun z _ h=>h▸s2)).trans (e6.mono fun z _ h=>hC z h))⟩
 ·rw[if_neg hu]
  have DH:=zO.up t.bt hu
  obtain⟨w5,w6⟩:=d.cut t ls dA hu
  obtain⟨a3,b3,X3⟩:=cD (aX L4 (bi L x) true)
  refine v1 (ae m4.own) ?_
  refine(ci m4.bT (bi L x)).mono ?_
  rintro _ H' ⟨rfl,e⟩
  obtain rfl:=e.symm
  rw[X3]
  refine v1 (ae m4.own) ?_
  refine(cC m4.bT (x:=x) (fun hu2=>by have:=zO.up d.bt hu2;have:=m4.len;omega)).mono ?_
  rintro _ H5 ⟨rfl,L5,t5,l5,k5,u5,e5⟩
  have m5:=m4.dv t5 e5 l5
  refine vs ?_
  have Ul:=ul.trans (e5.mono fun z _ h=>h▸s1)
  refine ak.dec (fun g=>?_) (fun g=>?_)<;>refine vs ?_
  ·refine v1 (ae m5.own) ?_
   refine(bY m5.cells x).mono ?_
   rintro _ H8 (⟨bJ,_,_⟩| ⟨_,rfl,c8,e8⟩)
   ·exact absurd bE bJ
   have m8:=m5.aG c8 e8 lG
   refine vs ?_
   have b6:zO w L5:=by
    show Bt _ _ _ _
    rw[k5,u5];exact w5 g
   refine .inr ⟨bE,rfl,cr.same ⟨B,C,L5,T,rfl,m8,?_,hS⟩ (Ul.trans (e8.mono fun z _ h=>hC z h))⟩
   exact d.below t ls (n:=w.cs.length) (fun y hy=>by obtain⟨y0,y1,_⟩:=aC hy;exact⟨y0,y1⟩) dA hu b6 (by rw[if_pos g];exact u5) p0 p1 p2 el
  ·obtain⟨y1,y2,y3,y4⟩:=w6 g
   obtain⟨r1,r2,r3,r4⟩:=d.rx g
   obtain⟨q1,q2,_⟩:=aC (w:=w) (x:=r) (by omega)
   have RY:=m5.len
   rw[d.kp _ true rfl hu]at X3
   rcases Ks X3 with ⟨rfl,h2⟩| ⟨rfl,rfl,h3⟩
   ·have Vs:false=(aX L (bi L x) true==x):=by
     rw[h2]
     exact(beq_eq_false_iff_ne.2 (Ne.symm Cg)).symm
    refine v1 (ae m5.own) ?_
    refine(eJ m5.bT (p:=bi L x) (x:=r) (c:=false) ⟨DH.1,by omega⟩ ⟨q1,by omega⟩ y3 (by rw[u5];exact y2) (by rw[k5,Vs];exact y1)).mono ?_
    rintro _ H6 ⟨rfl,L6,t6,l6,k6,QF,e6⟩
    have m6:=m5.dv t6 e6 l6
    have Ke:=Ul.trans (e6.mono fun z _ h=>h▸s1)
    rw[k5]at k6
    rw[u5]at QF
    rw[Vs]at k6
    have b6:zO w L6:=by
     show Bt _ _ _ _
     rw[k6,QF];exact y4
    have u6:bi L6=if r= -1 then cV (bi L4) x else aE (cV (bi L4) x) r (bi L x):=by rw[if_neg g];exact QF
    refine v1 (ae m6.own) ?_
    refine(bY m6.cells x).mono ?_
    rintro _ H8 (⟨bJ,_,_⟩| ⟨_,rfl,c8,e8⟩)
    ·exact absurd bE bJ
    have m8:=m6.aG c8 e8 lG
    refine vs ?_
    refine .inr ⟨bE,rfl,cr.same ⟨B,C,L6,T,rfl,m8,?_,hS⟩ (Ke.trans (e8.mono fun z _ h=>hC z h))⟩
    exact d.below t ls (n:=w.cs.length) (fun y hy=>by obtain⟨y0,y1,_⟩:=aC hy;exact⟨y0,y1⟩) dA hu b6 u6 p0 p1 p2 el
   ·have Vs:decide (aX L (bi L x) true=x)=(aX L (bi L x) true==x):=by rw[Bool.eq_iff_iff];simp
    refine v1 (ae m5.own) ?_
    refine(eJ m5.bT (p:=bi L x) (x:=r) (c:=decide (aX L (bi L x) true=x)) ⟨DH.1,by omega⟩ ⟨q1,by omega⟩ y3 (by rw[u5];exact y2) (by rw[k5,Vs];exact y1)).mono ?_
    rintro _ H6 ⟨rfl,L6,t6,l6,k6,QF,e6⟩
    have m6:=m5.dv t6 e6 l6
    have Ke:=Ul.trans (e6.mono fun z _ h=>h▸s1)
    rw[k5]at k6
    rw[u5]at QF
    rw[Vs]at k6
    have b6:zO w L6:=by
     show Bt _ _ _ _
     rw[k6,QF];exact y4
    have u6:bi L6=if r= -1 then cV (bi L4) x else aE (cV (bi L4) x) r (bi L x):=by rw[if_neg g];exact QF
    refine v1 (ae m6.own) ?_
    refine(bY m6.cells x).mono ?_
    rintro _ H8 (⟨bJ,_,_⟩| ⟨_,rfl,c8,e8⟩)
    ·exact absurd bE bJ
    have m8:=m6.aG c8 e8 lG
    refine vs ?_
    refine .inr ⟨bE,rfl,cr.same ⟨B,C,L6,T,rfl,m8,?_,hS⟩ (Ke.trans (e8.mono fun z _ h=>hC z h))⟩
    exact d.below t ls (n:=w.cs.length) (fun y hy=>by obtain⟨y0,y1,_⟩:=aC hy;exact⟨y0,y1⟩) dA hu b6 u6 p0 p1 p2 el
theorem Ae{n:Nat}{H:Hp}{S:Nat→Prop}{w:Nw}(h:dG n H S w)(g:Int):af Tryz.prog lh [ptr n,i64 g] H fun v H'=>ar (
  (w.len g=0∧v= .tuple [i64 0,.bool false].toArray∧cr (dG n) S H H' w)∨(∃x,w.first g x∧v= .tuple [i64 x,.bool true].toArray∧cr (dG n) S H H' (w.put x (0,0,0)))):=by
 refine aP vJ ?_
 refine vs ?_
 refine(wN h g).mono ?_
 rintro _ _ ⟨⟨h0,rfl⟩| ⟨x,hx,rfl⟩,rfl⟩
 ·refine vs ?_
  exact .inl ⟨h0,rfl,cr.same h (ag.refl _ _)⟩
 ·refine vs ?_
  refine(BT h x).mono ?_
  rintro _ H1 (⟨bJ,_,_⟩| ⟨_,rfl,h1⟩)
  ·exact absurd (bk.1 (by have:=bH.1 hx;omega)) bJ
  refine vs ?_
  exact .inr ⟨x,hx,rfl,h1⟩
theorem OQ(n:Nat):wG (.iface 214 (ptr n)) (dG n) where
 slt h:=h.slt
 ext h e hd:=h.ext e hd
 cells:=by
  rintro H S w ⟨B,C,L,T,rfl,m,l,hS⟩
  exact⟨B.c,C,m.cells⟩
 has:=by
  rintro H S w g ⟨B,C,L,T,rfl,m,l,hS⟩
  exact⟨_,_,bz,ptr B.c,rfl,fI (off:=0) (by kernel_rfl) (ae m.own) rfl,(iq m.cells g).mono fun v H' hp=>hp⟩
 make:=by
  rintro H S w ⟨B,C,L,T,rfl,m,l,hS⟩
  exact⟨_,_,df,ptr B.c,rfl,fI (off:=0) (by kernel_rfl) (ae m.own) rfl,(EV m l rfl hS).mono fun v H' hp=>hp⟩
 insert:=by
  intro H S w g x k s h
  exact⟨_,_,l9,ptr n,rfl,bv (by kernel_rfl),(BS h g x k s).mono fun v H' hp=>hp⟩
 min:=by
  intro H S w g h
  refine⟨_,_,qR,ptr n,rfl,bv (by kernel_rfl),(wN h g).mono ?_⟩
  rintro v H' ⟨⟨h1,rfl⟩| ⟨x,h1,rfl⟩,rfl⟩
  ·exact .inl ⟨h1,rfl,cr.same h (ag.refl _ _)⟩
  ·exact .inr ⟨x,h1,rfl,cr.same h (ag.refl _ _)⟩
 extract:=by
  intro H S w g h
  exact⟨_,_,lh,ptr n,rfl,bv (by kernel_rfl),(Ae h g).mono fun v H' hp=>hp⟩
 kq:=by
  intro H S w x k s h
  exact⟨_,_,jY,ptr n,rfl,bv (by kernel_rfl),(yk h x k s).mono fun v H' hp=>hp⟩
 entry:=by
  rintro H S w x ⟨B,C,L,T,rfl,m,l,hS⟩
  refine⟨_,_,aZ,ptr B.c,rfl,fI (off:=0) (by kernel_rfl) (ae m.own) rfl,(gD m.cells x).mono ?_⟩
  rintro v H' ⟨c1,f,hv⟩
  exact⟨⟨B,C,L,T,rfl,m.fresh f,l,hS⟩,f,hv⟩
structure PB where
 n:Nat
 c:Nat
 tb:Nat
 tp:Nat
structure bL(H:Hp)(B:PB)(C:Nat→Prop)(w:Nw)(L:List Lk)(tops:List Int):Prop where
 own:∃tv,H.own B.n=some [ptr B.c,.slice (some ⟨B.tb,0,none⟩) L.length L.length,tv]∧Sl H 1 tv tops.length (tops.map i64) (some B.tp)
 cells:CQ H B.c C w
 eK:H.own B.tb=some (aJ L)
 len:L.length=w.cs.length
 lj:B.n≠B.tb∧B.n≠B.tp∧B.tb≠B.tp
 out:¬C B.n∧¬C B.tb∧¬C B.tp
def PB.S(B:PB)(C:Nat→Prop)(z:Nat):Prop:=C z∨z=B.n∨z=B.tb∨z=B.tp
section
variable {H H' : Hp} {B : PB} {C V : Nat → Prop} {w w' : Nw} {L L' : List Lk} {tops : List Int}
theorem bL.slt(h:bL H B C w L tops):∀z,B.S C z→z<H.size:=by
 obtain⟨tv,h1,h2⟩:=h.own
 rintro z (hz|rfl|rfl|rfl)
 ·exact h.cells.slt z hz
 ·exact az h1
 ·exact az h.eK
 ·exact h2.lt
theorem bL.ext(h:bL H B C w L tops)(e:ag V H H')(hd:∀z,B.S C z→¬V z):bL H' B C w L tops:=by
 obtain⟨tv,h1,h2⟩:=h.own
 exact⟨⟨tv,e.own h1 (hd _ (.inr (.inl rfl))),h2.ext e (fun b hb=>by injection hb with hb;exact hb▸hd _ (.inr (.inr (.inr rfl))))⟩,h.cells.ext e (fun x hx=>hd x (.inl hx)),
  e.own h.eK (hd _ (.inr (.inr (.inl rfl)))),h.len,h.lj,h.out⟩
theorem bL.fresh(h:bL H B C w L tops)(e:ah H H'):bL H' B C w L tops:=h.ext e fun _ _ h=>h
theorem bL.aG(h:bL H B C w L tops)(c1:CQ H' B.c C w')(e:ag C H H')(hl:w'.cs.length=w.cs.length):bL H' B C w' L tops:=by
 obtain⟨tv,h1,h2⟩:=h.own
 obtain⟨o1,o2,o3⟩:=h.out
 exact⟨⟨tv,e.own h1 o1,h2.ext e (fun b hb=>by injection hb with hb;exact hb▸o3)⟩,c1,e.own h.eK o2,by rw[hl];exact h.len,h.lj,h.out⟩
theorem bL.NC(h:bL H B C w L tops)(hl:L'.length=L.length):bL (H.wr B.tb (aJ L')) B C w L' tops∧ag (fun z=>z=B.tb) H (H.wr B.tb (aJ L')):=by
 obtain⟨tv,h1,h2⟩:=h.own
 obtain⟨o1,o2,o3⟩:=h.out
 obtain⟨d1,d2,d3⟩:=h.lj
 have e:ag (fun z=>z=B.tb) H (H.wr B.tb (aJ L')):=(ag.refl (fun z=>z=B.tb) _).wr (fun _=>rfl) _
 exact⟨⟨⟨tv,by rw[hl];exact e.own h1 d1,h2.ext e (fun b hb=>by injection hb with hb;omega)⟩,h.cells.ext e (fun x hx hz=>o2 (hz▸hx)),ai h.eK,by rw[hl];exact h.len,h.lj,h.out⟩,e⟩
theorem bL.fG(h:bL H B C w L tops):∃c l,H.own B.n=some [ptr B.c,.slice (some ⟨B.tb,0,none⟩) L.length L.length,.slice (some ⟨B.tp,0,none⟩) tops.length c]∧H.own B.tp=some l∧tops.length≤c∧c≤l.length∧l.take tops.length=tops.map i64:=by
 obtain⟨tv,h1,_,l,c,rfl,h3,h4,h5,h6⟩:=h.own
 rw[ane]at h5 h6
 exact⟨c,l,h1,h3,h4,h5,h6⟩
theorem bL.eC(h:bL H B C w L tops){l:List Value}(hl:H.own B.tp=some l){i:Nat}{x:Int}(hx:tops[i]? =some x):l[i]? =some (i64 x):=by
 obtain⟨c,l',_,h2,_,_,h5⟩:=h.fG
 rw[hl]at h2
 injection h2 with h2
 subst h2
 have h7:(tops.map i64)[i]? =some (i64 x):=by rw[anA,hx];rfl
 rw[←h5,anP]at h7
 split at h7
 ·exact h7
 ·cases h7
theorem bL.kj(h:bL H B C w L tops){l:List Value}(hl:H.own B.tp=some l)(i:Nat)(v:Int):bL (H.wr B.tp (l.set i (i64 v))) B C w L (tops.set i v)∧ag (fun z=>z=B.tp) H (H.wr B.tp (l.set i (i64 v))):=by
 obtain⟨c,l',h1,h2,h3,h4,h5⟩:=h.fG
 rw[hl]at h2
 injection h2 with h2
 subst h2
 obtain⟨o1,o2,o3⟩:=h.out
 obtain⟨d1,d2,d3⟩:=h.lj
 have e:ag (fun z=>z=B.tp) H (H.wr B.tp (l.set i (i64 v))):=(ag.refl (fun z=>z=B.tp) _).wr (fun _=>rfl) _
 refine⟨⟨⟨_,e.own h1 d2,?_⟩,h.cells.ext e (fun x hx hz=>o3 (hz▸hx)),e.own h.eK d3,h.len,h.lj,h.out⟩,e⟩
 refine⟨by simp,l.set i (i64 v),c,by rw[anb],ai hl,by rw[anb];exact h3,by rw[anb,ane];exact h4,?_⟩
 rw[anb,ane,ui,h5,anY]
theorem bL.rd(h:bL H B C w L tops){x:Int}(hx:0≤x∧x<w.cs.length):x.toNat*3+2< (aJ L).length∧(aJ L)[x.toNat*3]? =some (i64 (aX L x false))∧(aJ L)[x.toNat*3+1]? =some (i64 (aX L x true))∧(aJ L)[x.toNat*3+2]? =some (i64 (bi L x)):=by
 have hl:=h.len
 have hf:=ir L
 obtain⟨y,hy⟩:∃y,L[x.toNat]? =some y:=⟨_,am8 (by omega)⟩
 obtain⟨h1,h2,h3⟩:=Nl hy
 rw[nB hx.1 hy,nB hx.1 hy,tg hx.1 hy]
 exact⟨by omega,h1,h2,h3⟩
theorem bL.Mk(h:bL H B C w L tops){x:Int}(hx:0≤x∧x<w.cs.length)(v:Int):∃L',aX L'=dW (aX L) x false v∧bi L'=bi L∧bL (H.wr B.tb ((aJ L).set (x.toNat*3) (i64 v))) B C w L' tops∧ag (fun z=>z=B.tb) H (H.wr B.tb ((aJ L).set (x.toNat*3) (i64 v))):=by
 have hl:=h.len
 obtain⟨y,hy⟩:∃y,L[x.toNat]? =some y:=⟨_,am8 (by omega)⟩
 refine⟨L.set x.toNat (y.fC false v),qi hx.1 hy false v,qj hx.1 hy false v,?_⟩
 have:=uh hy false v
 rw[show x.toNat*3+false.toNat=x.toNat*3 from rfl]at this
 rw[this]
 exact h.NC (anb ..)
theorem bL.Ms(h:bL H B C w L tops){x:Int}(hx:0≤x∧x<w.cs.length)(v:Int):∃L',aX L'=dW (aX L) x true v∧bi L'=bi L∧bL (H.wr B.tb ((aJ L).set (x.toNat*3+1) (i64 v))) B C w L' tops∧ag (fun z=>z=B.tb) H (H.wr B.tb ((aJ L).set (x.toNat*3+1) (i64 v))):=by
 have hl:=h.len
 obtain⟨y,hy⟩:∃y,L[x.toNat]? =some y:=⟨_,am8 (by omega)⟩
 refine⟨L.set x.toNat (y.fC true v),qi hx.1 hy true v,qj hx.1 hy true v,?_⟩
 have:=uh hy true v
 rw[show x.toNat*3+true.toNat=x.toNat*3+1 from rfl]at this
 rw[this]
 exact h.NC (anb ..)
theorem bL.Iz(h:bL H B C w L tops){x:Int}(hx:0≤x∧x<w.cs.length)(v:Int):∃L',aX L'=aX L∧bi L'=aE (bi L) x v∧bL (H.wr B.tb ((aJ L).set (x.toNat*3+2) (i64 v))) B C w L' tops∧ag (fun z=>z=B.tb) H (H.wr B.tb ((aJ L).set (x.toNat*3+2) (i64 v))):=by
 have hl:=h.len
 obtain⟨y,hy⟩:∃y,L[x.toNat]? =some y:=⟨_,am8 (by omega)⟩
 refine⟨L.set x.toNat ⟨y.a,y.b,v⟩,By hx.1 hy v,Bz hx.1 hy v,?_⟩
 rw[Er hy v]
 exact h.NC (anb ..)
variable {g : Int} {R : Int → Prop} {FF ch : Int → List Int} {par : Int → Int} {W : List Int} {a b : Int}
theorem cY(m:bL H B C w L tops)(pw:Cf (aD w) (aN w) g R FF ch par (ws [a,b]++W))(pl:HI (aX L) (bi L) ch par):
  af Tryz.prog uT [ptr B.n,i64 a,i64 b] H fun v H'=>ar (∃r L' dH bB,v=i64 r∧(r= -1→a= -1∧b= -1)∧bL H' B C w L' tops∧Cf (aD w) (aN w) g R FF dH bB (ws [r]++W)∧HI (aX L') (bi L') dH bB∧ag (fun z=>C z∨z=B.tb) H H'):=by
 refine aP vB ?_
 refine vs ?_
 rw[lz,dO a,dO b]at pw
 refine ak.dec (fun ga=>?_) (fun ga=>?_)<;>refine vs ?_
 ·rw[if_pos ga]at pw
  rw[←dO b]at pw
  exact⟨b,L,ch,par,rfl,fun h=>⟨ga,h⟩,m,pw,pl,ag.refl _ _⟩
 rw[if_neg ga]at pw
 refine ak.dec (fun gb=>?_) (fun gb=>?_)<;>refine vs ?_
 ·rw[if_pos gb]at pw
  exact⟨a,L,ch,par,rfl,fun h=>⟨h,gb⟩,m,by rw[dO,if_neg ga];exact pw,pl,ag.refl _ _⟩
 rw[if_neg gb]at pw
 obtain⟨tv,o1,_⟩:=m.own
 refine v1 (ae o1) ?_
 refine(cA m.cells b a).mono ?_
 rintro _ H2 ⟨rfl,c2,e2⟩
 have m2:=m.aG c2 e2 rfl
 have Tc:Cf (aD w) (aN w) g R FF ch par (a::b::W):=pw
 obtain⟨a1,a2,a3⟩:=Tc.wm a (by simp)
 obtain⟨b1,b2,b3⟩:=Tc.wm b (by simp)
 have AC:=gF (w:=w) (a:=b) (b:=a) (by rw[b2];exact Tc.g0) (by rw[a2];exact Tc.g0)
 rw[AC]
 have aM:a≠b:=fun e=>by have:=Tc.nd;rw[e]at this;simp at this
 obtain⟨p,q,M4,hl,pw2⟩:∃p q,(if aN w b a=true then(p=b∧q=a)else(p=a∧q=b))∧aN w p q=true∧Cf (aD w) (aN w) g R FF ch par (p::q::W):=by
  cases aK:aN w b a
  ·exact⟨a,b,by simp,((aq w).M8 a b aM).resolve_right (by rw[aK];simp),Tc⟩
  ·exact⟨b,a,by simp,aK,Tc.perm (List.Perm.swap ..)⟩
 obtain⟨p1,p2,p3⟩:=pw2.wm p (by simp)
 obtain⟨q1,q2,q3⟩:=pw2.wm q (by simp)
 have afi:p≠q:=fun e=>by rw[e,(aq w).ua]at hl;cases hl
 have pw3:=pw2.link hl
 have R5:=pl.link pw2.pr p1 q3 afi
 obtain⟨px,py,_⟩:=aC (w:=w) (x:=p) (by rw[p2];exact Tc.g0)
 obtain⟨qx,qy,_⟩:=aC (w:=w) (x:=q) (by rw[q2];exact Tc.g0)
 have hold:aX L p false≠ -1→0≤aX L p false∧aX L p false<w.cs.length:=fun h=>by
  have h1:aX L p false∈ch p:=by rw[pl.hd]at h ⊢;exact dX h
  have h2:=(pw2.pr.dn p _ h1).2.2.2.1
  obtain⟨z0,z1,_⟩:=aC h2
  exact⟨z0,z1⟩
 have aV:=m2.len
 have ws1:ws [p]=[p]:=by rw[dO,if_neg p1]
 cases aK:aN w b a<;>simp only[aK,if_true,if_false,aof]at M4<;>obtain⟨rfl,rfl⟩:=M4<;>refine vs ?_
 all_goals
  obtain⟨LW,o2,_⟩:=m2.own
  obtain⟨r0,r1,r2,r3⟩:=m2.rd ⟨px,py⟩
  refine v1 (ae o2) ?_
  refine⟨⟨by omega,by omega⟩,?_⟩
  refine v4 (ae m2.eK) am9 Nat.add_zero r1 ?_
  refine v1 (ae o2) ?_
  refine⟨⟨by omega,by omega⟩,?_⟩
  obtain⟨L3,k3,u3,m3,e3⟩:=m2.Ms ⟨qx,qy⟩ (aX L p false)
  obtain⟨s0,_⟩:=m2.rd ⟨qx,qy⟩
  refine v3 m2.eK am9 Nat.add_zero ?_
  refine⟨by omega,?_⟩
  refine vs ?_
  generalize H2.wr B.tb ((aJ L).set (q.toNat*3+1) (i64 (aX L p false)))=H3 at*
  obtain⟨L4,k4,u4,m4,e4⟩:=m3.Iz ⟨qx,qy⟩ p
  obtain⟨s4,_⟩:=m3.rd ⟨qx,qy⟩
  refine⟨⟨by omega,by omega⟩,?_⟩
  refine v3 m3.eK am9 Nat.add_zero ?_
  refine⟨by omega,?_⟩
  refine vs ?_
  generalize H3.wr B.tb ((aJ L3).set (q.toNat*3+2) (i64 p))=H4 at*
  have e24:ag (fun z=>C z∨z=B.tb) H H4:=((e2.mono fun z _ h=>.inl h).trans (e3.mono fun z _ h=>.inr h)).trans (e4.mono fun z _ h=>.inr h)
  have SY:=m4.len
  refine ak.dec (fun go=>?_) (fun go=>?_)<;>refine vs ?_
  ·obtain⟨ZQ,o4,_⟩:=m4.own
   obtain⟨L5,k5,u5,m5,e5⟩:=m4.Mk ⟨px,py⟩ q
   obtain⟨s5,_⟩:=m4.rd ⟨px,py⟩
   refine v1 (ae o4) ?_
   refine⟨⟨by omega,by omega⟩,?_⟩
   refine v3 m4.eK am9 Nat.add_zero ?_
   refine⟨by omega,?_⟩
   refine vs ?_
   refine⟨p,L5,_,_,rfl,fun h=>absurd h p1,m5,by rw[ws1];exact pw3,?_,e24.trans (e5.mono fun z _ h=>.inr h)⟩
   rw[if_pos go]at R5
   rw[k5,u5,k4,u4,k3,u3]
   exact R5
  ·obtain⟨ZQ,o4,_⟩:=m4.own
   obtain⟨ox,oy⟩:=hold go
   obtain⟨L5,k5,u5,m5,e5⟩:=m4.Iz ⟨ox,oy⟩ q
   obtain⟨s5,_⟩:=m4.rd ⟨ox,oy⟩
   refine v1 (ae o4) ?_
   refine⟨⟨by omega,by omega⟩,?_⟩
   refine v3 m4.eK am9 Nat.add_zero ?_
   refine⟨by omega,?_⟩
   refine vs ?_
   generalize H4.wr B.tb ((aJ L4).set ((aX L p false).toNat*3+2) (i64 q))=H5 at*
   obtain⟨tv5,o5,_⟩:=m5.own
   have RY:=m5.len
   obtain⟨L6,k6,u6,m6,e6⟩:=m5.Mk ⟨px,py⟩ q
   obtain⟨s6,_⟩:=m5.rd ⟨px,py⟩
   refine v1 (ae o5) ?_
   refine⟨⟨by omega,by omega⟩,?_⟩
   refine v3 m5.eK am9 Nat.add_zero ?_
   refine⟨by omega,?_⟩
   refine vs ?_
   refine⟨p,L6,_,_,rfl,fun h=>absurd h p1,m6,by rw[ws1];exact pw3,?_,(e24.trans (e5.mono fun z _ h=>.inr h)).trans (e6.mono fun z _ h=>.inr h)⟩
   rw[if_neg go]at R5
   rw[k6,u6,k5,u5,k4,u4,k3,u3]
   exact R5
theorem oS(m:bL H B C w L tops){lt:Int→Int→Bool}(hs:bm lt)(q:Pr (aD w) lt ch par)(pl:HI (aX L) (bi L) ch par){p x:Int}{l1 l2:List Int}(hp:ch p=l1++x::l2):
  af Tryz.prog xi [ptr B.n,i64 x] H fun v H'=>ar (∃L',bL H' B C w L' tops∧HI (aX L') (bi L') (aw ch p (l1++l2)) (aE par x (-1))∧ag (fun z=>z=B.tb) H H'):=by
 obtain⟨f1,f2,f7,f3,f4,f5,f6⟩:=pl.off q hs hp
 have hx:=(q.dn p x (by rw[hp];simp)).2.2.2.1
 obtain⟨x0,x1,_⟩:=aC hx
 obtain⟨y0,y1,_⟩:=aC (w:=w) (x:=bi L x) (by omega)
 obtain⟨tv,o1,_⟩:=m.own
 obtain⟨r0,r1,r2,r3⟩:=m.rd ⟨x0,x1⟩
 obtain⟨t0,t1,t2,t3⟩:=m.rd ⟨y0,y1⟩
 have hl:=m.len
 refine aP xJ ?_
 refine v1 (ae o1) ?_
 refine⟨⟨by omega,by omega⟩,?_⟩
 refine v5 (ae o1) (ae m.eK) am9 Nat.add_zero r3 ?_
 refine⟨⟨by omega,by omega⟩,?_⟩
 refine v4 (ae m.eK) am9 Nat.add_zero t1 ?_
 have bx:bi L x≠x:=f7
 refine ak.dec (fun g=>?_) (fun g=>?_)<;>refine vs ?_
 ·have qP:=f1.1 g
  rw[if_pos qP]at f6
  refine v6 (ae o1) (ae m.eK) am9 Nat.add_zero r2 r3 ?_
  refine⟨⟨by omega,by omega⟩,?_⟩
  obtain⟨L1,k1,u1,m1,e1⟩:=m.Mk ⟨y0,y1⟩ (aX L x true)
  refine v3 m.eK am9 Nat.add_zero ?_
  refine⟨by omega,?_⟩
  refine vs ?_
  generalize H.wr B.tb ((aJ L).set ((bi L x).toNat*3) (i64 (aX L x true)))=H1 at*
  obtain⟨s0,s1,s2,s3⟩:=m1.rd ⟨x0,x1⟩
  have qP:=m1.len
  obtain⟨BB,o1,_⟩:=m1.own
  have en:aX L1 x true=aX L x true:=by
   rw[k1]
   unfold dW
   rw[if_neg (by simp[bx.symm])]
  have eu:bi L1 x=bi L x:=by rw[u1]
  rw[en]at s2
  rw[eu]at s3
  refine v4 (ae m1.eK) am9 Nat.add_zero s2 ?_
  refine ak.dec (fun gn=>?_) (fun gn=>?_)<;>refine vs ?_
  ·obtain⟨L2,k2,u2,m2,e2⟩:=m1.Ms ⟨x0,x1⟩ (-1)
   refine v3 m1.eK am9 Nat.add_zero ?_
   refine⟨by omega,?_⟩
   obtain⟨v0,_⟩:=m2.rd ⟨x0,x1⟩
   obtain⟨L3,k3,u3,m3,e3⟩:=m2.Iz ⟨x0,x1⟩ (-1)
   refine vs ?_
   generalize H1.wr B.tb ((aJ L1).set (x.toNat*3+1) (Value.int .i64 (-1)))=H2 at*
   refine v3 m2.eK am9 Nat.add_zero ?_
   refine⟨by omega,?_⟩
   refine vs ?_
   refine⟨L3,m3,?_,(e1.trans e2).trans e3⟩
   rw[if_pos gn]at f6
   rw[k3,u3,k2,u2,k1,u1]
   exact f6
  ·obtain⟨z0,z1,_⟩:=aC (w:=w) (x:=aX L x true) (by rw[f5 gn];exact hx)
   obtain⟨v0,_⟩:=m1.rd ⟨z0,z1⟩
   refine v6 (ae o1) (ae m1.eK) am9 Nat.add_zero s2 s3 ?_
   refine⟨⟨by omega,by omega⟩,?_⟩
   obtain⟨L2,k2,u2,m2,e2⟩:=m1.Iz ⟨z0,z1⟩ (bi L x)
   refine v3 m1.eK am9 Nat.add_zero ?_
   refine⟨by omega,?_⟩
   refine vs ?_
   generalize H1.wr B.tb ((aJ L1).set ((aX L x true).toNat*3+2) (i64 (bi L x)))=H2 at*
   obtain⟨v1,_⟩:=m2.rd ⟨x0,x1⟩
   obtain⟨L3,k3,u3,m3,e3⟩:=m2.Ms ⟨x0,x1⟩ (-1)
   refine v3 m2.eK am9 Nat.add_zero ?_
   refine⟨by omega,?_⟩
   obtain⟨v2,_⟩:=m3.rd ⟨x0,x1⟩
   obtain⟨L4,k4,u4,m4,e4⟩:=m3.Iz ⟨x0,x1⟩ (-1)
   refine vs ?_
   generalize H2.wr B.tb ((aJ L2).set (x.toNat*3+1) (Value.int .i64 (-1)))=H3 at*
   refine v3 m3.eK am9 Nat.add_zero ?_
   refine⟨by omega,?_⟩
   refine vs ?_
   refine⟨L4,m4,?_,((e1.trans e2).trans e3).trans e4⟩
   rw[if_neg gn]at f6
   rw[k4,u4,k3,u3,k2,u2,k1,u1]
   exact f6
 ·have qP:l1≠[]:=fun h=>g (f1.2 h)
  rw[if_neg qP]at f6
  refine v6 (ae o1) (ae m.eK) am9 Nat.add_zero r2 r3 ?_
  refine⟨⟨by omega,by omega⟩,?_⟩
  obtain⟨L1,k1,u1,m1,e1⟩:=m.Ms ⟨y0,y1⟩ (aX L x true)
  refine v3 m.eK am9 Nat.add_zero ?_
  refine⟨by omega,?_⟩
  refine vs ?_
  generalize H.wr B.tb ((aJ L).set ((bi L x).toNat*3+1) (i64 (aX L x true)))=H1 at*
  obtain⟨s0,s1,s2,s3⟩:=m1.rd ⟨x0,x1⟩
  have qP:=m1.len
  obtain⟨BB,o1,_⟩:=m1.own
  have en:aX L1 x true=aX L x true:=by
   rw[k1]
   unfold dW
   rw[if_neg (by simp[bx.symm])]
  have eu:bi L1 x=bi L x:=by rw[u1]
  rw[en]at s2
  rw[eu]at s3
  refine v4 (ae m1.eK) am9 Nat.add_zero s2 ?_
  refine ak.dec (fun gn=>?_) (fun gn=>?_)<;>refine vs ?_
  ·obtain⟨L2,k2,u2,m2,e2⟩:=m1.Ms ⟨x0,x1⟩ (-1)
   refine v3 m1.eK am9 Nat.add_zero ?_
   refine⟨by omega,?_⟩
   obtain⟨v0,_⟩:=m2.rd ⟨x0,x1⟩
   obtain⟨L3,k3,u3,m3,e3⟩:=m2.Iz ⟨x0,x1⟩ (-1)
   refine vs ?_
   generalize H1.wr B.tb ((aJ L1).set (x.toNat*3+1) (Value.int .i64 (-1)))=H2 at*
   refine v3 m2.eK am9 Nat.add_zero ?_
   refine⟨by omega,?_⟩
   refine vs ?_
   refine⟨L3,m3,?_,(e1.trans e2).trans e3⟩
   rw[if_pos gn]at f6
   rw[k3,u3,k2,u2,k1,u1]
   exact f6
  ·obtain⟨z0,z1,_⟩:=aC (w:=w) (x:=aX L x true) (by rw[f5 gn];exact hx)
   obtain⟨v0,_⟩:=m1.rd ⟨z0,z1⟩
   refine v6 (ae o1) (ae m1.eK) am9 Nat.add_zero s2 s3 ?_
   refine⟨⟨by omega,by omega⟩,?_⟩
   obtain⟨L2,k2,u2,m2,e2⟩:=m1.Iz ⟨z0,z1⟩ (bi L x)
   refine v3 m1.eK am9 Nat.add_zero ?_
   refine⟨by omega,?_⟩
   refine vs ?_
   generalize H1.wr B.tb ((aJ L1).set ((aX L x true).toNat*3+2) (i64 (bi L x)))=H2 at*
   obtain⟨v1,_⟩:=m2.rd ⟨x0,x1⟩
   obtain⟨L3,k3,u3,m3,e3⟩:=m2.Ms ⟨x0,x1⟩ (-1)
   refine v3 m2.eK am9 Nat.add_zero ?_
   refine⟨by omega,?_⟩
   obtain⟨v2,_⟩:=m3.rd ⟨x0,x1⟩
   obtain⟨L4,k4,u4,m4,e4⟩:=m3.Iz ⟨x0,x1⟩ (-1)
   refine vs ?_
   generalize H2.wr B.tb ((aJ L2).set (x.toNat*3+1) (Value.int .i64 (-1)))=H3 at*
   refine v3 m3.eK am9 Nat.add_zero ?_
   refine⟨by omega,?_⟩
   refine vs ?_
   refine⟨L4,m4,?_,((e1.trans e2).trans e3).trans e4⟩
   rw[if_neg gn]at f6
   rw[k4,u4,k3,u3,k2,u2,k1,u1]
   exact f6
end
end Go.Proofs.YtjlnnljohemifaaGreat

namespace Go.Proofs.YtjlnnljohemifaaGreat
open Go Go.Vc
section
variable {H : Hp} {B : PB} {C V : Nat → Prop} {w : Nw} {L : List Lk} {tops : List Int} {ch FF : Int → List Int} {par : Int → Int}
theorem Pr.len(q:Pr (aD w) (aN w) ch par)(x:Int):(ch x).length≤w.cs.length:=bU (q.nd x) fun c hc=>by
 obtain⟨z0,z1,_⟩:=aC (q.dn x c hc).2.2.2.1
 exact⟨z0,z1⟩
theorem I2.next{K:Int→Bool→Int}{Bk:Int→Int}:∀ {l1:List Int} {p x:Int} {l2:List Int},I2 K Bk p (l1++x::l2)→K x true=l2.headD (-1):=fun h=>h.split.2.1
theorem Af(m:bL H B C w L tops)(q:Pr (aD w) (aN w) ch par)(pl:HI (aX L) (bi L) ch par){x:Int}(hx:0<aD w x):
  af Tryz.prog uV [ptr B.n,i64 x] H fun v H'=>ar (∃fp,bL H' B C w L tops∧ag C H H'∧Sl H' 1 v (ch x).length ((ch x).map i64) fp∧∀b,fp=some b→H.size≤b):=by
 obtain⟨x0,x1,_⟩:=aC hx
 have mK:=m.cells.CY
 have aV:=q.len x
 refine aP vD ?_
 obtain⟨tv,o1,_⟩:=m.own
 refine v1 (ae o1) ?_
 refine(c9 m.cells x).mono ?_
 rintro _ H1 (⟨bJ,_,_⟩| ⟨bE,rfl,c1,e1⟩)
 ·exact absurd (bk.1 hx) bJ
 have m1:=m.aG c1 e1 rfl
 obtain⟨BB,o1,_⟩:=m1.own
 obtain⟨r0,r1,r2,r3⟩:=m1.rd ⟨x0,x1⟩
 have hl:=m1.len
 have z1:=e1.size
 refine v1 (ae o1) ?_
 refine⟨⟨by omega,by omega⟩,?_⟩
 refine v4 (ae m1.eK) am9 Nat.add_zero r1 ?_
 refine aT.intro (fun mm env H'=>∃ (d r:List Int) (wv:Value) (fp:Option Nat),mm=r.length∧ch x=d++r∧bL H' B C w L tops∧(∀z,fp=some z→H.size≤z)∧Sl H' 1 wv d.length (d.map i64) fp∧ag (fun z=>C z∨H.size≤z) H H'∧
  env=[(0,ptr B.n),(7,wv),(8,i64 (r.headD (-1)))]) _ ⟨[],ch x,_,none,rfl,rfl,m1,(fun z h=>by cases h),Sl.nil _ _,e1.mono (fun z _ h=>.inl h),by rw[pl.hd]⟩ ?_
 rintro mm env H2 ⟨d,r,wv,fp,rfl,Td,m2,fN,s2,e2,rfl⟩
 have z2:=e2.size
 refine vs ?_
 cases r with
 |nil=>
  refine ak.dec (fun _=>?_) (fun h=>absurd rfl h)
  refine vs ?_
  rw[an7]at Td
  rw[Td]
  exact⟨fp,m2,e2.mono (fun z hz h=>h.elim id fun h=>by omega),s2,fN⟩
 |cons c r=>
  have hc:=q.dn x c (by rw[Td];simp)
  obtain⟨c0,c1,_⟩:=aC hc.2.2.2.1
  have I6:=pl.sg x
  rw[Td]at I6
  have I6:=I6.next
  have ny:d.length+(r.length+1)=(ch x).length:=by rw[Td,ank,anw]
  refine ak.dec (fun h=>absurd h (by simp only[List.headD_cons];omega)) (fun _=>?_)
  refine vs ?_
  refine wB (B:=H.size) fN (by omega) s2 c (by omega) fun w' H3 cJ gU s3 e3=>?_
  refine vs ?_
  have m3:=m2.ext e3 (fun z hz dE=>by have:=m.slt z hz;omega)
  obtain⟨XZ,o3,_⟩:=m3.own
  obtain⟨t0,t1,t2,t3⟩:=m3.rd ⟨c0,c1⟩
  have Qw:=m3.len
  simp(disch:=(first|omega| (simp only[Zs]<;>omega)|fail)) only[go_sem, ↓reduceIte,Zv,ae o3,List.headD_cons]
  refine⟨⟨by omega,by omega⟩,?_⟩
  refine v4 (ae m3.eK) am9 Nat.add_zero t2 ?_
  refine⟨r.length,by simp,d++[c],r,w',cJ,rfl,by rw[Td];simp,m3,gU,s3,e2.trans (e3.mono fun z _ h=>.inr h),by rw[I6]⟩
theorem jb(m:bL H B C w L tops)(q:Pr (aD w) (aN w) ch par)(pl:HI (aX L) (bi L) ch par){x:Int}(hx:0<aD w x):
  af Tryz.prog uU [ptr B.n,i64 x] H fun v H'=>ar (∃r L' dH bB,v=i64 r∧bL H' B C w L' tops∧HI (aX L') (bi L') dH bB∧
   Cf (aD w) (aN w) (aD w x) (fun y=>0<aD w y∧par y= -1) (aw ch x []) dH bB (ws [r])∧ag (fun z=>C z∨z=B.tb) H H'):=by
 obtain⟨x0,x1,_⟩:=aC hx
 have mK:=m.cells.CY
 have aV:=q.len x
 refine aP vC ?_
 refine vs ?_
 refine(Af m q pl hx).mono ?_
 rintro kv H1 ⟨fp,m1,e1,s1,fN⟩
 have z1:=e1.size
 obtain⟨BB,o1,_⟩:=m1.own
 obtain⟨r0,_⟩:=m1.rd ⟨x0,x1⟩
 have hl:=m1.len
 refine v1 (ae o1) ?_
 refine⟨⟨by omega,by omega⟩,?_⟩
 obtain⟨L2,k2,u2,m2,e2⟩:=m1.Mk ⟨x0,x1⟩ (-1)
 refine v3 m1.eK am9 Nat.add_zero ?_
 refine⟨by omega,?_⟩
 refine vs ?_
 generalize H1.wr B.tb ((aJ L).set (x.toNat*3) (Value.int .i64 (-1)))=H2 at*
 have hN:∀z,B.S C z→z<H.size:=m.slt
 have Hf:B.tb<H.size:=hN _ (.inr (.inr (.inl rfl)))
 have s2:=s1.ext e2 (fun z hz dE=>by have:=fN z hz;omega)
 obtain⟨ka,kc,rfl⟩:=Sl.shape s2
 have nT:ag (fun z=>C z∨z=B.tb∨H.size≤z) H H2:=(e1.mono fun z _ h=>.inl h).trans (e2.mono fun z _ h=>.inr (.inl h))
 refine vs ?_
 refine aT.intro (fun mm env H'=>∃ (i:Nat) (L':List Lk),mm=(ch x).length - i∧i≤(ch x).length∧bL H' B C w L' tops∧Sl H' 1 (.slice ka (ch x).length kc) (ch x).length ((ch x).map i64) fp∧ag (fun z=>C z∨z=B.tb∨H.size≤z) H H'∧
  (∀y,aX L' y false=if y=x then -1 else aX L y false)∧(∀c,(c∈(ch x).take i→aX L' c true= -1∧bi L' c= -1)∧(c∉ (ch x).take i→aX L' c true=aX L c true∧bi L' c=bi L c))∧
  env=[(0,ptr B.n),(5,.slice ka (ch x).length kc),(22,.slice ka (ch x).length kc),(23,i64 (ch x).length),(24,i64 i)]) _ ⟨0,L2,rfl,by omega,m2,s2,nT,fun y=>?_,fun c=>⟨fun h=>by simp at h,fun _=>?_⟩,rfl⟩ ?_
 ·rw[k2]
  unfold dW
  by_cases hy:y=x
  ·rw[if_pos ⟨hy,rfl⟩,if_pos hy]
  ·rw[if_neg (by simp[hy]),if_neg hy]
 ·rw[k2,u2]
  unfold dW
  rw[if_neg (by simp)]
  exact⟨rfl,rfl⟩
 rintro mm env H3 ⟨i,L3,rfl,hi,m3,s3,e3,kf3,kt3,rfl⟩
 refine vs ?_
 refine ak.dec (fun gi=>?_) (fun gi=>?_)<;>refine vs ?_
 ·have ly:i< (ch x).length:=by omega
  obtain⟨c,hc⟩:∃c,(ch x)[i]? =some c:=⟨_,am8 ly⟩
  have D7:=ang hc
  obtain⟨c0,c1,_⟩:=aC (q.dn x c D7).2.2.2.1
  obtain⟨_,kb,lb,rfl,q2,q3⟩:=Sl.xW s3 hc
  refine⟨⟨by omega,by omega⟩,?_⟩
  refine v5 (ae q2) am9 ane Int.toNat_natCast q3 ?_
  obtain⟨XZ,o3,_⟩:=m3.own
  obtain⟨t0,_⟩:=m3.rd ⟨c0,c1⟩
  have Qw:=m3.len
  refine v1 (ae o3) ?_
  refine⟨⟨by omega,by omega⟩,?_⟩
  obtain⟨L4,k4,u4,m4,e4⟩:=m3.Ms ⟨c0,c1⟩ (-1)
  refine v3 m3.eK am9 Nat.add_zero ?_
  refine⟨by omega,?_⟩
  obtain⟨t1,_⟩:=m4.rd ⟨c0,c1⟩
  have SY:=m4.len
  obtain⟨L5,k5,u5,m5,e5⟩:=m4.Iz ⟨c0,c1⟩ (-1)
  refine vs ?_
  generalize H3.wr B.tb ((aJ L3).set (c.toNat*3+1) (Value.int .i64 (-1)))=H4 at*
  refine⟨⟨by omega,by omega⟩,?_⟩
  refine v3 m4.eK am9 Nat.add_zero ?_
  refine⟨by omega,?_⟩
  refine vs ?_
  have s5:=(s3.ext e4 (fun z hz dE=>by have:=fN z hz;omega)).ext e5 (fun z hz dE=>by have:=fN z hz;omega)
  refine⟨(ch x).length - (i+1),by omega,i+1,L5,rfl,by omega,m5,s5,(e3.trans (e4.mono fun z _ h=>.inr (.inl h))).trans (e5.mono fun z _ h=>.inr (.inl h)),fun y=>?_,fun d=>?_,?_⟩
  ·rw[k5,k4]
   unfold dW
   rw[if_neg (by simp)]
   exact kf3 y
  ·have tk:(ch x).take (i+1)=(ch x).take i++[c]:=by rw[anN,hc];rfl
   rw[tk,k5,k4,u5,u4]
   unfold dW aE
   by_cases hd:d=c
   ·rw[if_pos ⟨hd,rfl⟩,if_pos hd]
    exact⟨fun _=>⟨rfl,rfl⟩,fun h=>absurd (show d∈(ch x).take i++[c] by simp[hd]) h⟩
   ·rw[if_neg (by simp[hd]),if_neg hd]
    refine⟨fun h=>(kt3 d).1 ?_,fun h=>(kt3 d).2 fun h2=>h (by simp[h2])⟩
    rcases ann.1 h with h|h
    ·exact h
    ·exact absurd (anj.1 h) hd
  ·rw[wrap64 (by omega) (by omega)]
   rfl
 obtain rfl:i=(ch x).length:=by omega
 rw[anJ]at kt3
 have R5:=pl.bare q kf3 (fun c hc=>(kt3 c).1 hc) (fun c hc=>(kt3 c).2 hc)
 have pw3:=q.U6 hx
 have Dd:∀z,fp=some z→z<H3.size:=fun z hz=>by rw[hz]at s3;exact s3.lt
 have z3:=e3.size
 refine aT.intro (fun mm env H'=>∃ (i:Nat) (t:List Int) (wv:Value) (fq:Option Nat) (L':List Lk) (dH:Int→List Int) (bB:Int→Int),mm=(ch x).length+2 - i∧i≤(ch x).length+1∧t.length≤i∧bL H' B C w L' tops∧
  Sl H' 1 (.slice ka (ch x).length kc) (ch x).length ((ch x).map i64) fp∧(∀z,fq=some z→H3.size≤z)∧Sl H' 1 wv t.length (t.map i64) fq∧ag (fun z=>C z∨z=B.tb∨H.size≤z) H H'∧ag (fun z=>C z∨z=B.tb∨H3.size≤z) H3 H'∧
  Cf (aD w) (aN w) (aD w x) (fun y=>0<aD w y∧par y= -1) (aw ch x []) dH bB (t++(ch x).drop i)∧HI (aX L') (bi L') dH bB∧
  env=[(0,ptr B.n),(5,.slice ka (ch x).length kc),(8,wv),(9,i64 i)]) _ ⟨0,[],_,none,L3,_,_,rfl,by omega,by simp,m3,s3,(fun z h=>by cases h),Sl.nil _ _,e3,ag.refl _ _,by simpa using pw3,R5,rfl⟩ ?_
 rintro mm env H4 ⟨i,t,wv,fq,L4,Te,IA,rfl,hi,hti,m4,s4,I9,t4,e4,VY,We,Wf,rfl⟩
 have z4:=e4.size
 have z34:=VY.size
 refine vs ?_
 refine ak.dec (fun gi=>?_) (fun gi=>?_)<;>refine vs ?_
 ·have ly:i< (ch x).length:=by omega
  obtain⟨c,hc⟩:∃c,(ch x)[i]? =some c:=⟨_,am8 ly⟩
  have D7:=ang hc
  have OH:=q.ne D7
  have dr:(ch x).drop i=c::(ch x).drop (i+1):=by
   rw[aom ly]
   congr 1
   rw[am8 ly]at hc
   injection hc
  obtain⟨_,kb,lb,rfl,q2,q3⟩:=Sl.xW s4 hc
  refine ak.dec (fun g1=>?_) (fun g1=>?_)<;>refine vs ?_
  ·rw[wrap64 (by omega) (by omega)]at g1
   refine⟨⟨by omega,by omega⟩,?_⟩
   refine v5 (ae q2) am9 ane Int.toNat_natCast q3 ?_
   refine wB (B:=H3.size) I9 z34 t4 c (by omega) fun w' H5 Z1 QQ t5 e5=>?_
   refine vs ?_
   have m5:=m4.ext e5 (fun z hz dE=>by have:=m.slt z hz;omega)
   have s5:=s4.ext e5 (fun z hz dE=>by have:=Dd z hz;omega)
   refine⟨(ch x).length+2 - (i+2),by omega,i+2,t++[c],w',Z1,L4,Te,IA,rfl,by omega,by simp;omega,m5,s5,QQ,t5,e4.trans (e5.mono fun z _ h=>.inr (.inr (by omega))),VY.trans (e5.mono fun z _ h=>.inr (.inr h)),?_,Wf,?_⟩
   ·rw[dr]at We
    rw[aoZ (by omega)]
    rw[aoZ (by omega)]at We
    simpa using We
   ·rw[wrap64 (by omega) (by omega)];rfl
  ·rw[wrap64 (by omega) (by omega)]at g1
   have pe:i+1< (ch x).length:=by omega
   obtain⟨d,hd⟩:∃d,(ch x)[i+1]? =some d:=⟨_,am8 pe⟩
   have Su:=ang hd
   have Vp:=q.ne Su
   have dr2:(ch x).drop (i+1)=d::(ch x).drop (i+2):=by
    rw[aom pe]
    congr 1
    rw[am8 pe]at hd
    injection hd
   obtain⟨_,Cr,lb2,ek,q5,q4⟩:=Sl.xW s4 hd
   injection ek with ek
   injection ek with ek
   subst ek
   rw[q2]at q5
   injection q5 with q5
   subst q5
   refine⟨⟨by omega,by omega⟩,?_⟩
   refine v5 (ae q2) am9 ane Int.toNat_natCast q3 ?_
   rw[wrap64 (by omega) (by omega)]
   refine⟨⟨by omega,by omega⟩,?_⟩
   refine v5 (ae q2) am9 ane (show((i:Int)+1).toNat=i+1 by omega) q4 ?_
   have w2:ws [c,d]=[c,d]:=by rw[lz,dO,dO,if_neg OH,if_neg Vp];rfl
   have Wg:Cf (aD w) (aN w) (aD w x) (fun y=>0<aD w y∧par y= -1) (aw ch x []) Te IA (ws [c,d]++(t++(ch x).drop (i+2))):=by
    rw[w2]
    rw[dr,dr2]at We
    refine We.perm ?_
    have h1:(t++c::d::(ch x).drop (i+2)).Perm (c::(t++d::(ch x).drop (i+2))):=aoU
    have h2:(t++d::(ch x).drop (i+2)).Perm (d::(t++(ch x).drop (i+2))):=aoU
    exact h1.trans (h2.cons c)
   refine(cY m4 Wg Wf).mono ?_
   rintro _ H5 ⟨r,L5,Yh,OR,rfl,hr,m5,pw6,pl5,e5⟩
   have hrn:r≠ -1:=fun h=>OH (hr h).1
   have z5:=e5.size
   have t5:=t4.ext e5 (fun z hz dE=>by have:=I9 z hz;rcases dE with h|h;have:=m.slt z (.inl h);omega;omega)
   have s5:=s4.ext e5 (fun z hz dE=>by have:=fN z hz;rcases dE with h|h;have:=m.slt z (.inl h);omega;omega)
   refine vs ?_
   refine wB (B:=H3.size) I9 (by omega) t5 r (by omega) fun w' H6 Z1 QQ t6 e6=>?_
   refine vs ?_
   have m6:=m5.ext e6 (fun z hz dE=>by have:=m.slt z hz;omega)
   have s6:=s5.ext e6 (fun z hz dE=>by have:=Dd z hz;omega)
   refine⟨(ch x).length+2 - (i+2),by omega,i+2,t++[r],w',Z1,L5,Yh,OR,rfl,by omega,by simp;omega,m6,s6,QQ,t6,(e4.trans (e5.mono fun z _ h=>h.elim .inl fun h=>.inr (.inl h))).trans (e6.mono fun z _ h=>.inr (.inr (by omega))),(VY.trans (e5.mono fun z _ h=>h.elim .inl fun h=>.inr (.inl h))).trans (e6.mono fun z _ h=>.inr (.inr h)),?_,pl5,?_⟩
   ·rw[dO,if_neg hrn]at pw6
    refine pw6.perm ?_
    rw[aoQ]
    exact(aoU (l₁:=t) (a:=r) (l₂:=(ch x).drop (i+2))).symm
   ·rw[wrap64 (by omega) (by omega)];rfl
 rw[aoZ (by omega),an7]at We
 have Lc:t.length≤65537:=by omega
 obtain⟨ta,tc,rfl⟩:=Sl.shape t4
 refine vs ?_
 refine aT.intro (fun mm env H'=>∃ (j:Nat) (r:Int) (L':List Lk) (dH:Int→List Int) (bB:Int→Int),mm=j∧j≤t.length∧bL H' B C w L' tops∧
  Sl H' 1 (.slice ta t.length tc) t.length (t.map i64) fq∧ag (fun z=>C z∨z=B.tb∨H.size≤z) H H'∧
  Cf (aD w) (aN w) (aD w x) (fun y=>0<aD w y∧par y= -1) (aw ch x []) dH bB (ws [r]++t.take j)∧HI (aX L') (bi L') dH bB∧
  env=[(0,ptr B.n),(8,.slice ta t.length tc),(10,i64 r),(11,i64 ((j:Int) - 1))]) _ ⟨t.length, -1,L4,Te,IA,rfl,ano _,m4,t4,e4,by rw[dO,if_pos rfl,anJ];exact We,Wf,?_⟩ ?_
 ·rw[wrap64 (by omega) (by omega)]
 rintro mm env H5 ⟨j,r,L5,Yh,OR,SO,hj,m5,t5,e5,Wg,pl5,rfl⟩
 obtain rfl:=SO.symm
 refine vs ?_
 refine ak.dec (fun gj=>?_) (fun gj=>?_)<;>refine vs ?_
 ·obtain⟨k,rfl⟩:∃k,j=k+1:=⟨j - 1,by omega⟩
  obtain⟨c,hc⟩:∃c,t[k]? =some c:=⟨_,am8 (by omega)⟩
  obtain⟨_,kb,lb,rfl,q2,q3⟩:=Sl.xW t5 hc
  have ji:((((k+1:Nat):Int) - 1)).toNat=k:=by omega
  refine⟨⟨by omega,by omega⟩,?_⟩
  refine v5 (ae q2) am9 ane ji q3 ?_
  have tk:t.take (k+1)=t.take k++[c]:=by rw[anN,hc];rfl
  have OH:c≠ -1:=(Wg.wm c (by rw[tk];simp)).1
  have pw6:Cf (aD w) (aN w) (aD w x) (fun y=>0<aD w y∧par y= -1) (aw ch x []) Yh OR (ws [c,r]++t.take k):=by
   rw[tk]at Wg
   refine Wg.perm ?_
   rw[lz c [r],dO c,if_neg OH]
   have h1:(ws [r]++(t.take k++[c])).Perm ((ws [r]++t.take k)++[c]):=by rw[aoQ]
   refine h1.trans (aoc.trans ?_)
   rw[aoQ]
  refine(cY m5 pw6 pl5).mono ?_
  rintro _ H6 ⟨r2,L6,X9,Ml,rfl,hr,m6,pw7,pl6,e6⟩
  have t6:=t5.ext e6 (fun z hz dE=>by have:=I9 z hz;rcases dE with h|h;have:=m.slt z (.inl h);omega;omega)
  refine vs ?_
  refine⟨k,by omega,k,r2,L6,X9,Ml,rfl,by omega,m6,t6,e5.trans (e6.mono fun z _ h=>h.elim .inl fun h=>.inr (.inl h)),pw7,pl6,?_⟩
  rw[show((k+1:Nat):Int) - 1 - 1=(k:Int) - 1 by omega,wrap64 (by omega) (by omega)]
 ·obtain rfl:j=0:=by omega
  rw[List.take_zero,an7]at Wg
  exact⟨r,L5,Yh,OR,rfl,m5,pl5,Wg,e5.mono fun z hz h=>h.elim .inl fun h=>.inr (by omega)⟩
end
end Go.Proofs.YtjlnnljohemifaaGreat

namespace Go.Proofs.YtjlnnljohemifaaGreat
open Go Go.Vc
structure Kt(w:Nw)(L:List Lk)(tops:List Int)(ch:Int→List Int)(par:Int→Int):Prop where
 t:Sq (aD w) (aN w) ch par (bh tops)
 pl:HI (aX L) (bi L) ch par
 tl:tops.length=w.hs.length
def dq(n:Nat)(H:Hp)(S:Nat→Prop)(w:Nw):Prop:=∃ (B:PB) (C:Nat→Prop) (L:List Lk) (tops:List Int) (ch:Int→List Int) (par:Int→Int),B.n=n∧bL H B C w L tops∧Kt w L tops ch par∧∀z,S z↔B.S C z
theorem dq.slt{n:Nat}{H:Hp}{S:Nat→Prop}{w:Nw}(h:dq n H S w):∀z,S z→z<H.size:=by
 obtain⟨B,C,L,tops,ch,par,rfl,m,l,hS⟩:=h
 exact fun z hz=>m.slt z ((hS z).1 hz)
theorem dq.ext{n:Nat}{H H':Hp}{S V:Nat→Prop}{w:Nw}(h:dq n H S w)(e:ag V H H')(hd:∀z,S z→¬V z):dq n H' S w:=by
 obtain⟨B,C,L,tops,ch,par,rfl,m,l,hS⟩:=h
 exact⟨B,C,L,tops,ch,par,rfl,m.ext e (fun z hz=>hd z ((hS z).2 hz)),l,hS⟩
theorem BU(cap:Int)(H:Hp):af Tryz.prog FR [i64 cap] H fun v H'=>ar (
  ah H H'∧((¬ (0≤cap∧cap≤65536)∧v= .tuple [.pointer none,i64 31].toArray)∨
   ((0≤cap∧cap≤65536)∧∃n S,v= .tuple [ptr n,i64 0].toArray∧dq n H' S (xZ cap)∧∀x,S x→H.size≤x))):=by
 refine aP F6 ?_
 refine vs ?_
 refine(ke cap H).mono ?_
 rintro _ H1 ⟨f1,⟨hb,rfl⟩| ⟨hb,c,C,rfl,c1,hC⟩⟩
 ·refine vs ?_
  exact⟨f1,.inl ⟨hb,rfl⟩⟩
 refine v1 anT ?_
 refine⟨⟨by omega,by omega,by omega,by omega⟩,?_⟩
 refine vs ?_
 rw[Nn]
 have wA:=c1.slt
 have z1:=f1.size
 have f3:ah H1 (((H1.new 265 (aJ (List.replicate cap.toNat ⟨0,0,0⟩))).new 3 [Value.int .i64 (-1)]).new 263 [ptr c,.slice (some ⟨H1.size,0,none⟩) cap.toNat cap.toNat,.slice (some ⟨H1.size+1,0,none⟩) 1 1]):=(((ag.refl _ _).new _ _).new _ _).new _ _
 have e1:ag (fun _=>False) (H1.new 265 (aJ (List.replicate cap.toNat ⟨0,0,0⟩))) (((H1.new 265 (aJ (List.replicate cap.toNat ⟨0,0,0⟩))).new 3 [Value.int .i64 (-1)]).new 263 [ptr c,.slice (some ⟨H1.size,0,none⟩) cap.toNat cap.toNat,.slice (some ⟨H1.size+1,0,none⟩) 1 1]):=((ag.refl _ _).new _ _).new _ _
 have e2:ag (fun _=>False) ((H1.new 265 (aJ (List.replicate cap.toNat ⟨0,0,0⟩))).new 3 [Value.int .i64 (-1)]) (((H1.new 265 (aJ (List.replicate cap.toNat ⟨0,0,0⟩))).new 3 [Value.int .i64 (-1)]).new 263 [ptr c,.slice (some ⟨H1.size,0,none⟩) cap.toNat cap.toNat,.slice (some ⟨H1.size+1,0,none⟩) 1 1]):=(ag.refl _ _).new _ _
 obtain⟨B,hB⟩:∃B:PB,B=⟨H1.size+1+1,c,H1.size,H1.size+1⟩:=⟨_,rfl⟩
 have m0:bL (((H1.new 265 (aJ (List.replicate cap.toNat ⟨0,0,0⟩))).new 3 [Value.int .i64 (-1)]).new 263 [ptr c,.slice (some ⟨H1.size,0,none⟩) cap.toNat cap.toNat,.slice (some ⟨H1.size+1,0,none⟩) 1 1]) B C (xZ cap) (List.replicate cap.toNat ⟨0,0,0⟩) [-1]:=by
  subst hB
  refine⟨⟨.slice (some ⟨H1.size+1,0,none⟩) 1 1,?_,?_⟩,c1.fresh f3,?_,?_,?_,?_⟩
  ·rw[anX]
   exact aQ (by simp only[am])
  ·exact(Sl.bP (size:=1) (n:=1) (xs:=[i64 (-1)]) rfl (by simp only[am])).ext e2 (fun _ _ h=>h)
  ·exact e1.own (ax _ _ _) (fun h=>h)
  ·simp[xZ]
  ·refine⟨?_,?_,?_⟩<;>simp only<;>omega
  ·refine⟨fun h=>?_,fun h=>?_,fun h=>?_⟩<;>(have h2:=wA _ h;first|omega| (simp only at h2;omega))
 have C8:B.n=H1.size+1+1:=by rw[hB]
 have hBs:∀z,B.S C z→H1.size≤z∨C z:=fun z hz=>by
  rcases hz with hz|rfl|rfl|rfl
  ·exact .inr hz
  all_goals rw[hB];left;first|omega| (simp only;omega)
 have hBt:B.tb=H1.size:=by rw[hB]
 have ft:=f1.trans f3
 generalize ((H1.new 265 (aJ (List.replicate cap.toNat ⟨0,0,0⟩))).new 3 [Value.int .i64 (-1)]).new 263 [ptr c,.slice (some ⟨H1.size,0,none⟩) cap.toNat cap.toNat,.slice (some ⟨H1.size+1,0,none⟩) 1 1]=H2 at*
 obtain⟨tv0,o0,_⟩:=m0.own
 rw[anX,C8]at o0
 refine aT.intro (fun m env H'=>∃j:Nat,m=cap.toNat - j∧j≤cap.toNat∧ag (fun z=>z=B.tb) H2 H'∧bL H' B C (xZ cap) (List.replicate j jj++List.replicate (cap.toNat - j) ⟨0,0,0⟩) [-1]∧
  env=[(6,ptr (H1.size+1+1)),(26,i64 (cap.toNat:Nat)),(27,i64 j)]) cap.toNat ⟨0,by omega,by omega,ag.refl _ _,by simpa using m0,rfl⟩ ?_
 rintro m env H3 ⟨j,rfl,hj,e3,m3,rfl⟩
 have ny:=ir (List.replicate j jj++List.replicate (cap.toNat - j) (⟨0,0,0⟩:Lk))
 have nj:(List.replicate j jj++List.replicate (cap.toNat - j) (⟨0,0,0⟩:Lk)).length=cap.toNat:=by simp;omega
 obtain⟨XZ,o3,_⟩:=m3.own
 rw[nj]at ny o3
 rw[C8]at o3
 refine vs ?_
 refine ak.dec (fun aK=>?_) (fun aK=>?_)<;>refine vs ?_
 ·refine v1 (ae o3) ?_
  refine⟨by omega,?_⟩
  refine v3 m3.eK am9 Int.toNat_natCast ?_
  refine⟨by omega,?_⟩
  have q3:=He (L:=List.replicate j jj++List.replicate (cap.toNat - j) (⟨0,0,0⟩:Lk)) (i:=j) (by omega) jj
  have q4:(List.replicate j jj++List.replicate (cap.toNat - j) (⟨0,0,0⟩:Lk)).set j jj=List.replicate (j+1) jj++List.replicate (cap.toNat - (j+1)) (⟨0,0,0⟩:Lk):=by
   rw[apf _ _ (by simp),anX,aos,show cap.toNat - j=(cap.toNat - (j+1))+1 by omega,anS,aoD,apj]
   simp
  rw[q4]at q3
  obtain⟨m4,e4⟩:=m3.NC (L':=List.replicate (j+1) jj++List.replicate (cap.toNat - (j+1)) (⟨0,0,0⟩:Lk)) (by simp;omega)
  rw[show bf (aJ (List.replicate j jj++List.replicate (cap.toNat - j) (⟨0,0,0⟩:Lk))) (j*3) (aF (Value.agg #[Value.int .i64 (-1),Value.int .i64 (-1),Value.int .i64 (-1)]))=_ from q3]
  refine vs ?_
  rw[wrap64 (n:=(j:Int)+1) (by omega) (by omega)]
  exact⟨cap.toNat - (j+1),by omega,j+1,rfl,by omega,e3.trans e4,m4,rfl⟩
 ·obtain rfl:j=cap.toNat:=by omega
  rw[aos,apk,an7]at m3
  rw[←C8]
  refine⟨ft.then e3 (fun z hz=>by omega),.inr ⟨hb,B.n,B.S C,rfl,⟨B,C,_,[-1],fun _=>[],fun _=> -1,rfl,m3,⟨⟨⟨rfl,fun x c hc=>absurd hc (by simp),fun c x h hx=>absurd (Eq.symm h) hx,fun x=>aoo⟩,
   ⟨fun x p h hp=>absurd (Eq.symm h) hp,fun g hg=>absurd (BF g) hg,fun x hx=>absurd hx (kw cap x)⟩⟩,⟨fun x=>zR _ _ _,fun x=>trivial,fun c _=>⟨zR _ _ _,Ey _ _⟩⟩,rfl⟩,fun z=>Iff.rfl⟩,fun z hz=>?_⟩⟩
  rcases hBs z hz with h|h
  ·omega
  ·exact hC z h
theorem Ag{n:Nat}{H:Hp}{S:Nat→Prop}{w:Nw}(h:dq n H S w):af Tryz.prog ld [ptr n] H fun v H'=>ar (
  (w.hs.length=65537∧v=i64 0∧cr (dq n) S H H' w)∨(w.hs.length≠65537∧v=i64 w.hs.length∧cr (dq n) S H H' w.make)):=by
 obtain⟨B,C,L,tops,ch,par,rfl,m,l,hS⟩:=id h
 obtain⟨tv,ho,yD⟩:=m.own
 refine aP vA ?_
 refine v1 (ae ho) ?_
 refine(iW m.cells).mono ?_
 rintro _ H1 (⟨h1,rfl,rfl⟩| ⟨h1,rfl,C',c1,e1,ya⟩)
 ·refine vs ?_
  exact .inl ⟨h1,rfl,cr.same h (ag.refl _ _)⟩
 have fP:=m.cells.pos
 have hhs:=m.cells.yD
 have Lc:=l.tl
 have slt:=m.slt
 have Kc:=c1.slt
 obtain⟨n1,n2,n3⟩:=m.out
 obtain⟨d1,d2,d3⟩:=m.lj
 have o1:=e1.own ho n1
 refine vs ?_
 refine ak.cK (anp (by omega)) ?_
 refine v1 (ae o1) ?_
 have s1:=yD.ext e1 (fun b hb=>by injection hb with hb;exact hb▸n3)
 refine Qf s1 (-1) (by omega) fun w' H2 b' jz s2 e2=>?_
 have o2:=e2.own o1 d2
 obtain⟨wa,wc,Nr⟩:=Sl.shape s2
 subst Nr
 refine v1 o2 ?_
 generalize Nr:Value.slice wa (tops++[-1]).length wc=w' at*
 have e3:ag (fun z=>z=B.n) H2 (H2.wr B.n [ptr B.c,.slice (some ⟨B.tb,0,none⟩) L.length L.length,w']):=(ag.refl (fun z=>z=B.n) _).wr (fun _=>rfl) _
 have z1:=e1.size
 have hn:=slt _ (.inr (.inl rfl))
 have ht:=slt _ (.inr (.inr (.inl rfl)))
 have htp:=slt _ (.inr (.inr (.inr rfl)))
 have Ez:∀z,C' z→z≠b'∧(z<H.size→C z):=fun z hz=>by
  have h5:=Kc z hz
  rcases ya z hz with h6|h6
  ·refine⟨fun e=>?_,fun _=>h6⟩
   rcases jz with h7|h7
   ·exact n3 (by rw[←h7,←e];exact h6)
   ·omega
  ·exact⟨by omega,fun h=>by omega⟩
 refine .inr ⟨h1,rfl,(PB.mk B.n B.c B.tb b').S C',⟨⟨B.n,B.c,B.tb,b'⟩,C',L,tops++[-1],ch,par,rfl,⟨⟨w',ai o2,s2.ext e3 (fun b hb=>by injection hb with hb;omega)⟩,?_,?_,m.len,?_,?_⟩,⟨by rw[zN];exact l.t,l.pl,?_⟩,fun z=>Iff.rfl⟩,?_,fun z hz=>?_⟩
 ·exact(c1.ext e2 (fun x hx e=>by
   rcases ya x hx with h6|h6
   ·exact n3 (e▸h6)
   ·omega)).ext e3 (fun x hx e=>by
   rcases ya x hx with h6|h6
   ·exact n1 (e▸h6)
   ·omega)
 ·exact e3.own (e2.own (e1.own m.eK n2) d3) (Ne.symm d1)
 ·refine⟨d1,?_,?_⟩<;>simp only<;>omega
 ·exact⟨fun h=>n1 ((Ez _ h).2 hn),fun h=>n2 ((Ez _ h).2 ht),fun h=>(Ez _ h).1 rfl⟩
 ·simp[Nw.make,Lc]
 ·exact((e1.mono fun z _ h=>(hS z).2 (.inl h)).trans (e2.mono fun z _ h=>(hS z).2 (.inr (.inr (.inr h))))).trans (e3.mono fun z _ h=>(hS z).2 (.inr (.inl h)))
 ·rcases hz with hz|rfl|rfl|rfl
  ·rcases ya z hz with h6|h6
   ·exact .inl ((hS z).2 (.inl h6))
   ·exact .inr h6
  ·exact .inl ((hS _).2 (.inr (.inl rfl)))
  ·exact .inl ((hS _).2 (.inr (.inr (.inl rfl))))
  ·rcases jz with rfl|h7
   ·exact .inl ((hS _).2 (.inr (.inr (.inr rfl))))
   ·exact .inr (by first|omega| (simp only;omega))
theorem Kt.first{w:Nw}{L:List Lk}{tops:List Int}{ch:Int→List Int}{par:Int→Int}(l:Kt w L tops ch par){g x:Int}(h:w.first g x):bh tops g=x:=by
 obtain⟨h1,h2,h3⟩:=bH.1 h
 have:=l.t.tp.first (x:=x) (by omega) (fun y hy aM=>h3 y (by omega) aM) (aq w)
 rwa[h2]at this
theorem oT{n:Nat}{H:Hp}{S:Nat→Prop}{w:Nw}(h:dq n H S w)(g:Int):af Tryz.prog lY [ptr n,i64 g] H fun v H'=>ar (
  ((w.len g=0∧v= .tuple [i64 0,.bool false].toArray)∨∃x,w.first g x∧v= .tuple [i64 x,.bool true].toArray)∧H'=H):=by
 obtain⟨B,C,L,tops,ch,par,rfl,m,l,hS⟩:=h
 obtain⟨cc,lt,ho,q2,ue,qJ,Nq⟩:=m.fG
 refine aP xI ?_
 refine v1 (ae ho) ?_
 refine(tf m.cells g).mono ?_
 rintro _ _ ⟨rfl,rfl⟩
 refine vs ?_
 refine ak.dec (fun h0=>?_) (fun h0=>?_)
 ·refine vs ?_
  exact⟨.inl ⟨h0,rfl⟩,rfl⟩
 have hg:0<g:=anC fun hg=>h0 (Nw.Gr.2 (.inl (by omega)))
 obtain⟨x,hx⟩:=te hg h0
 have hh:=(bH.1 hx).2.1
 have da:=((m.cells.hm x).2 (by omega)).2
 rw[hh,←l.tl]at da
 have q3:=m.eC q2 (dL (tops:=tops) (h:=g) (by omega) da)
 rw[l.first hx]at q3
 refine v1 (ae ho) ?_
 refine⟨⟨by omega,by omega⟩,?_⟩
 refine v4 (ae q2) am9 ane q3 ?_
 exact⟨.inr ⟨x,hx,rfl⟩,rfl⟩
theorem vY{n:Nat}{H:Hp}{S:Nat→Prop}{w:Nw}(h:dq n H S w)(g x k s:Int):af Tryz.prog jp [ptr n,i64 g,i64 x,rZ k s] H fun v H'=>ar (
  (¬w.kT g x∧v= .bool false∧cr (dq n) S H H' w)∨(w.kT g x∧v= .bool true∧cr (dq n) S H H' (w.put x (g,k,s)))):=by
 obtain⟨B,C,L,tops,ch,par,rfl,m,l,hS⟩:=h
 have hC:∀z,C z→S z:=fun z h=>(hS z).2 (.inl h)
 have t1:S B.tb:=(hS _).2 (.inr (.inr (.inl rfl)))
 have t2:S B.tp:=(hS _).2 (.inr (.inr (.inr rfl)))
 refine aP rP ?_
 refine vs ?_
 have f0:ah H (H.new 224 [i64 k,u64 s]):=(ag.refl _ _).new _ _
 have b0:(H.new 224 [i64 k,u64 s]).own H.size=some [i64 k,u64 s]:=ax _ _ _
 have m0:=m.fresh f0
 generalize H.new 224 [i64 k,u64 s]=H0 at*
 have ff:ag S H H0:=f0.mono fun _ _ h=>h.elim
 obtain⟨tv,Gv,_⟩:=m0.own
 refine v2 (ae Gv) (ae b0) ?_
 refine(j9 m0.cells g x k s).mono ?_
 rintro _ H1 (⟨bJ,rfl,c1,e1⟩| ⟨oO,rfl,c1,e1⟩)
 ·refine vs ?_
  exact .inl ⟨bJ,rfl,cr.same ⟨B,C,L,tops,ch,par,rfl,m0.aG c1 e1 rfl,l,hS⟩ (ff.trans (e1.mono fun z _ hz=>hC z hz))⟩
 obtain⟨hh,hx,bE⟩:=id oO
 have m2:=m0.aG c1 e1 (by simp[Nw.put])
 have hg:=hh.1
 have da:g<tops.length:=by
  have:=(ana.1 hh.2).1
  have:=l.tl
  omega
 have cH:=fun y=>dK hx (g,k,s) y
 have bo:RS (aD (w.put x (g,k,s))) (aN (w.put x (g,k,s))) ch par (bh tops) g x:=by
  refine l.t.ins rfl (Int.not_lt.1 fun h=>bE (bk.1 h)) (by omega) (by omega) (by rw[cH,if_pos rfl]) (fun y hy=>by rw[cH,if_neg hy]) (fun a b ha hb sj lm=>di hx _ ha hb sj lm)
 obtain⟨cc,lt,o2,q2,ue,qJ,Nq⟩:=m2.fG
 have q3:=m2.eC q2 (dL (tops:=tops) (h:=g) (by omega) da)
 refine vs ?_
 refine jk.intro (fun H'=>H'.own B.n=some [ptr B.c,.slice (some ⟨B.tb,0,none⟩) L.length L.length,.slice (some ⟨B.tp,0,none⟩) tops.length cc]) o2 ?_
 refine vs ?_
 refine fk.intro (.slice (some ⟨B.tp,0,none⟩) tops.length cc) (fun H' hI=>by refine v1 (ae hI) ?_;trivial) ?_
 refine v1 (ae o2) ?_
 refine And.intro o2 ?_
 refine vs ?_
 refine⟨⟨by omega,by omega⟩,?_⟩
 refine v4 (ae q2) am9 ane q3 ?_
 refine And.intro o2 ?_
 refine vs ?_
 have bw:=bo.w
 rw[show ws [bh tops g,x]=ws [bh tops g,x]++[] by simp]at bw
 refine(cY m2 bw l.pl).mono ?_
 rintro _ H3 ⟨r,L3,Lf,nJ,rfl,_,m3,w3,p3,e3⟩
 rw[an7]at w3
 have bn:=bo.done w3
 obtain⟨d1,d2,d3⟩:=m2.lj
 have no:¬ (C B.n∨B.n=B.tb):=by rintro(h|h);exact m2.out.1 h;omega
 refine And.intro (e3.own o2 no) ?_
 have q4:=e3.own q2 (by rintro(h|h);exact m2.out.2.2 h;omega)
 refine vs ?_
 refine⟨⟨by omega,by omega⟩,?_⟩
 refine v3 q4 am9 ane ?_
 refine⟨by omega,?_⟩
 obtain⟨m4,e4⟩:=m3.kj q4 g.toNat r
 refine And.intro (e4.own (e3.own o2 no) d2) ?_
 refine vs ?_
 refine .inr ⟨oO,rfl,cr.same ⟨B,C,L3,_,Lf,nJ,rfl,m4,⟨?_,p3,by rw[anb];exact l.tl⟩,hS⟩ (((ff.trans (e1.mono fun z _ h=>hC z h)).trans (e3.mono fun z _ h=>by rcases h with h|rfl;exact hC z h;exact t1)).trans (e4.mono fun z _ h=>h▸t2))⟩
 rw[ec (by omega) da]
 exact bn
theorem Kt.below{w:Nw}{L:List Lk}{tops:List Int}{ch:Int→List Int}{par:Int→Int}(l:Kt w L tops ch par){x:Int}(hx:0<aD w x)(ht:bh tops (aD w x)≠x):∃p l1 l2,ch p=l1++x::l2:=by
 have hp:par x≠ -1:=fun h=>ht (l.t.tp.t2 x hx h)
 obtain⟨l1,l2,h⟩:=List.append_of_mem (l.t.pr.up x _ rfl hp)
 exact⟨par x,l1,l2,h⟩
theorem sf{n:Nat}{H:Hp}{S:Nat→Prop}{w:Nw}(h:dq n H S w)(x k s:Int):af Tryz.prog gZ [ptr n,i64 x,rZ k s] H fun v H'=>ar (
  (¬w.cW x k s∧v= .bool false∧cr (dq n) S H H' w)∨(w.cW x k s∧v= .bool true∧∃y,w.cs[x.toNat]? =some y∧cr (dq n) S H H' (w.put x (y.1,k,s)))):=by
 obtain⟨B,C,L,tops,ch,par,rfl,m,l,hS⟩:=h
 have hC:∀z,C z→S z:=fun z h=>(hS z).2 (.inl h)
 have t1:S B.tb:=(hS _).2 (.inr (.inr (.inl rfl)))
 have t2:S B.tp:=(hS _).2 (.inr (.inr (.inr rfl)))
 refine aP oA ?_
 refine vs ?_
 have f0:ah H (H.new 224 [i64 k,u64 s]):=(ag.refl _ _).new _ _
 have b0:(H.new 224 [i64 k,u64 s]).own H.size=some [i64 k,u64 s]:=ax _ _ _
 have m0:=m.fresh f0
 generalize H.new 224 [i64 k,u64 s]=H0 at*
 have ff:ag S H H0:=f0.mono fun _ _ h=>h.elim
 obtain⟨tv,Gv,_⟩:=m0.own
 refine v2 (ae Gv) (ae b0) ?_
 refine(gE m0.cells x k s).mono ?_
 rintro _ H1 (⟨bJ,rfl,c1,e1⟩| ⟨bE,rfl,y,hy,eY,c1,e1⟩)
 ·refine vs ?_
  exact .inl ⟨bJ,rfl,cr.same ⟨B,C,L,tops,ch,par,rfl,m0.ext e1 (fun _ _ h=>h),l,hS⟩ (ff.trans (e1.mono fun _ _ h=>h.elim))⟩
 have lG:(w.put x (y.1,k,s)).cs.length=w.cs.length:=by simp[Nw.put]
 have m1:=m0.aG c1 e1 lG
 have zU:w.cW x k s:=⟨bE,fun z hz=>by rw[hy]at hz;injection hz with hz;rw[←hz];exact eY⟩
 have hx:0≤x∧x<w.cs.length:=⟨bE.1,by have:=(ana.1 hy).1;have:=bE.1;omega⟩
 have Nk:aD w x=y.1:=jE bE.1 hy
 have dA:=bk.2 bE
 have hw:aD (w.put x (y.1,k,s))=aD w:=by
  funext z
  rw[dK hx]
  split
  ·rename_i e;rw[e,Nk]
  ·rfl
 have Dc:cS (w.put x (y.1,k,s)).cs x:=bk.1 (by rw[hw];exact dA)
 obtain⟨BB,o1,_⟩:=m1.own
 refine v1 (ae o1) ?_
 refine(c9 m1.cells x).mono ?_
 rintro _ H2 (⟨bJ,_,_⟩| ⟨_,rfl,c2,e2⟩)
 ·exact absurd Dc bJ
 have m2:=m1.aG c2 e2 rfl
 have nT:ag S H H2:=(ff.trans (e1.mono fun z _ h=>hC z h)).trans (e2.mono fun z _ h=>hC z h)
 have el:∀a b,0<aD w a→0<aD w b→a≠x→b≠x→aN (w.put x (y.1,k,s)) a b=aN w a b:=fun a b ha hb sj lm=>di hx _ ha hb sj lm
 have ex:∀b,0<aD w b→b≠x→aN w x b=true→aN (w.put x (y.1,k,s)) x b=true:=fun b hb lm h=>zM bE hy eY hb lm h
 have da:aD w x<tops.length:=by
  have:=((m.cells.hm x).2 dA).2
  have:=l.tl
  omega
 obtain⟨cc,lt,o2,q2,ue,qJ,Nq⟩:=m2.fG
 have q3:=m2.eC q2 (dL (tops:=tops) (h:=aD w x) (by omega) da)
 rw[hw]
 refine v1 (ae o2) ?_
 refine⟨⟨by omega,by omega⟩,?_⟩
 refine v4 (ae q2) am9 ane q3 ?_
 refine ak.dec (fun gt=>?_) (fun gt=>?_)<;>refine vs ?_
 ·have hu:par x= -1:=by
   have:=(l.t.tp.t1 (aD w x) (by rw[gt];omega)).2.2
   rwa[gt]at this
  refine .inr ⟨zU,rfl,y,hy,cr.same ⟨B,C,L,tops,ch,par,rfl,m2,⟨?_,l.pl,l.tl⟩,hS⟩ nT⟩
  rw[hw]
  exact l.t.Sk hu el ex
 obtain⟨p,l1,l2,hp⟩:=l.below dA gt
 have po:=(l.t.off hp).low el ex
 refine(oS m2 (aq w) (by rw[hw];exact l.t.pr) l.pl hp).mono ?_
 rintro _ H4 ⟨L4,m4,p4,e4⟩
 have ul:ag S H H4:=nT.trans (e4.mono fun z _ h=>h▸t1)
 rw[←hw]at po
 have da:aD (w.put x (y.1,k,s)) x<tops.length:=by rw[hw];exact da
 have QA:=po.g0
 refine vs ?_
 generalize hg:aD (w.put x (y.1,k,s)) x=g at*
 rw[←hw,hg]
 obtain⟨cc,lt,o4,q2,ue,qJ,Nq⟩:=m4.fG
 have q3:=m4.eC q2 (dL (tops:=tops) (h:=g) (by omega) da)
 refine jk.intro (fun H'=>H'.own B.n=some [ptr B.c,.slice (some ⟨B.tb,0,none⟩) L4.length L4.length,.slice (some ⟨B.tp,0,none⟩) tops.length cc]) o4 ?_
 refine vs ?_
 refine fk.intro (.slice (some ⟨B.tp,0,none⟩) tops.length cc) (fun H' hI=>by refine v1 (ae hI) ?_;trivial) ?_
 refine v1 (ae o4) ?_
 refine And.intro o4 ?_
 refine vs ?_
 refine⟨⟨by omega,by omega⟩,?_⟩
 refine v4 (ae q2) am9 ane q3 ?_
 refine And.intro o4 ?_
 refine vs ?_
 have bw:=po.w
 rw[show ws [bh tops g,x]=ws [bh tops g,x]++[] by simp]at bw
 refine(cY m4 bw p4).mono ?_
 rintro _ H5 ⟨r,L5,Yh,OR,rfl,_,m5,w5,p5,e5⟩
 rw[an7]at w5
 have bn:=po.done w5
 obtain⟨d1,d2,d3⟩:=m4.lj
 have no:¬ (C B.n∨B.n=B.tb):=by rintro(h|h);exact m4.out.1 h;omega
 refine And.intro (e5.own o4 no) ?_
 have q4:=e5.own q2 (by rintro(h|h);exact m4.out.2.2 h;omega)
 refine vs ?_
 refine⟨⟨by omega,by omega⟩,?_⟩
 refine v3 q4 am9 ane ?_
 refine⟨by omega,?_⟩
 obtain⟨m6,e6⟩:=m5.kj q4 g.toNat r
 refine And.intro (e6.own (e5.own o4 no) d2) ?_
 refine vs ?_
 refine .inr ⟨zU,rfl,y,hy,cr.same ⟨B,C,L5,_,Yh,OR,rfl,m6,⟨?_,p5,by rw[anb];exact l.tl⟩,hS⟩ ((ul.trans (e5.mono fun z _ h=>by rcases h with h|rfl;exact hC z h;exact t1)).trans (e6.mono fun z _ h=>h▸t2))⟩
 rw[ec (by omega) da]
 exact bn
theorem vZ{n:Nat}{H:Hp}{S:Nat→Prop}{w:Nw}(h:dq n H S w)(x:Int):af Tryz.prog rE [ptr n,i64 x] H fun v H'=>ar (
  (¬cS w.cs x∧v= .bool false∧cr (dq n) S H H' w)∨(cS w.cs x∧v= .bool true∧cr (dq n) S H H' (w.put x (0,0,0)))):=by
 obtain⟨B,C,L,tops,ch,par,rfl,m,l,hS⟩:=id h
 have hC:∀z,C z→S z:=fun z h=>(hS z).2 (.inl h)
 have t1:S B.tb:=(hS _).2 (.inr (.inr (.inl rfl)))
 have t2:S B.tp:=(hS _).2 (.inr (.inr (.inr rfl)))
 obtain⟨tv,o0,_⟩:=m.own
 refine aP rO ?_
 refine v1 (ae o0) ?_
 refine(c9 m.cells x).mono ?_
 rintro _ H1 (⟨bJ,rfl,rfl⟩| ⟨bE,rfl,c1,e1⟩)
 ·refine vs ?_
  exact .inl ⟨bJ,rfl,cr.same h (ag.refl _ _)⟩
 have m1:=m.aG c1 e1 rfl
 have dA:=bk.2 bE
 obtain⟨fO,jA,_⟩:=aC dA
 have Cg:x≠ -1:=by omega
 have ls:=aq w
 have cH:=fun y=>dK (w:=w) ⟨fO,jA⟩ (0,0,0) y
 have p0:aD (w.put x (0,0,0)) (-1)=0:=rfl
 have p1:aD (w.put x (0,0,0)) x=0:=by rw[cH,if_pos rfl]
 have p2:∀y,y≠x→aD (w.put x (0,0,0)) y=aD w y:=fun y hy=>by rw[cH,if_neg hy]
 have el:∀a b,0<aD w a→0<aD w b→a≠x→b≠x→aN (w.put x (0,0,0)) a b=aN w a b:=fun a b ha hb sj lm=>di ⟨fO,jA⟩ _ ha hb sj lm
 have lG:(w.put x (0,0,0)).cs.length=w.cs.length:=by simp[Nw.put]
 have da:aD w x<tops.length:=by
  have:=((m.cells.hm x).2 dA).2
  have:=l.tl
  omega
 have e11:ag S H H1:=e1.mono fun z _ h=>hC z h
 obtain⟨cc,lt,o1,q2,ue,qJ,Nq⟩:=m1.fG
 have q3:=m1.eC q2 (dL (tops:=tops) (h:=aD w x) (by omega) da)
 obtain⟨d1,d2,d3⟩:=m1.lj
 have no:¬ (C B.n∨B.n=B.tb):=by rintro(h|h);exact m1.out.1 h;omega
 have no2:¬ (C B.tp∨B.tp=B.tb):=by rintro(h|h);exact m1.out.2.2 h;omega
 refine v1 (ae o1) ?_
 refine⟨⟨by omega,by omega⟩,?_⟩
 refine v4 (ae q2) am9 ane q3 ?_
 refine ak.dec (fun gt=>?_) (fun gt=>?_)<;>refine vs ?_
 ·have hu:par x= -1:=by
   have:=(l.t.tp.t1 (aD w x) (by rw[gt];omega)).2.2
   rwa[gt]at this
  refine jk.intro (fun H'=>H'.own B.n=some [ptr B.c,.slice (some ⟨B.tb,0,none⟩) L.length L.length,.slice (some ⟨B.tp,0,none⟩) tops.length cc]) o1 ?_
  refine vs ?_
  refine fk.intro (.slice (some ⟨B.tp,0,none⟩) tops.length cc) (fun H' hI=>by refine v1 (ae hI) ?_;trivial) ?_
  refine vs ?_
  refine(jb m1 l.t.pr l.pl dA).mono ?_
  rintro _ H2 ⟨r,L2,kL,iZ,rfl,m2,pl2,w2,e2⟩
  refine And.intro (e2.own o1 no) ?_
  have q4:=e2.own q2 no2
  refine vs ?_
  refine⟨⟨by omega,by omega⟩,?_⟩
  refine v3 q4 am9 ane ?_
  refine⟨by omega,?_⟩
  obtain⟨m3,e3⟩:=m2.kj q4 (aD w x).toNat r
  refine And.intro (e3.own (e2.own o1 no) d2) ?_
  obtain⟨XZ,o3,_⟩:=m3.own
  refine v1 (ae o3) ?_
  refine(bY m3.cells x).mono ?_
  rintro _ H4 (⟨bJ,_,_⟩| ⟨_,rfl,c4,e4⟩)
  ·exact absurd bE bJ
  have m4:=m3.aG c4 e4 lG
  refine vs ?_
  have w3:=w2.drop (x:=x) ⟨dA,hu⟩ (by rw[w2.fr x ⟨dA,hu⟩];unfold aw;rw[if_pos rfl]) ((w2.jg x dA).2 (.inr ⟨dA,hu⟩)) p0 p1 p2 el
  refine .inr ⟨bE,rfl,cr.same ⟨B,C,L2,_,kL,iZ,rfl,m4,⟨?_,pl2,by rw[anb];exact l.tl⟩,hS⟩ (((e11.trans (e2.mono fun z _ h=>by rcases h with h|rfl;exact hC z h;exact t1)).trans (e3.mono fun z _ h=>h▸t2)).trans (e4.mono fun z _ h=>hC z h))⟩
  rw[ec (by omega) da]
  refine⟨w3.pr,w3.done (fun h aM hh=>?_) (fun y hy=>?_)⟩
  ·obtain⟨g1,g2,g3⟩:=l.t.tp.t1 h hh
   have hn:bh tops h≠x:=fun e=>aM (by rw[←g1,e])
   exact⟨by rw[p2 _ hn];exact g1,g2,⟨by omega,g3⟩,hn⟩
  ·have h5:=l.t.tp.t2 y hy.1.1 hy.1.2
   rw[p2 _ hy.2]
   exact⟨fun e=>by rw[e,gt]at h5;exact hy.2 h5.symm,h5⟩
 obtain⟨p,l1,l2,hp⟩:=l.below dA gt
 have po:=l.t.off hp
 refine(oS m1 ls l.t.pr l.pl hp).mono ?_
 rintro _ H2 ⟨L2,m2,pl2,e2⟩
 have nT:ag S H H2:=e11.trans (e2.mono fun z _ h=>h▸t1)
 have hu:=po.ox.2.2
 obtain⟨cc,lt,o2,q2,ue,qJ,Nq⟩:=m2.fG
 have q3:=m2.eC q2 (dL (tops:=tops) (h:=aD w x) (by omega) da)
 refine vs ?_
 refine jk.intro (fun H'=>H'.own B.n=some [ptr B.c,.slice (some ⟨B.tb,0,none⟩) L2.length L2.length,.slice (some ⟨B.tp,0,none⟩) tops.length cc]) o2 ?_
 refine vs ?_
 refine fk.intro (.slice (some ⟨B.tp,0,none⟩) tops.length cc) (fun H' hI=>by refine v1 (ae hI) ?_;trivial) ?_
 refine vs ?_
 refine fk.intro (.slice (some ⟨B.tp,0,none⟩) tops.length cc) (fun H' hI=>by refine v1 (ae hI) ?_;trivial) ?_
 refine vs ?_
 refine⟨⟨by omega,by omega⟩,?_⟩
 refine vs ?_
 refine Du.intro ?_ ?_
 ·refine v4 (ae q2) am9 ane q3 ?_
  refine And.intro o2 ?_
  refine vs ?_
  refine(jb m2 po.pr pl2 dA).mono ?_
  rintro _ H3 ⟨r,L3,Lf,nJ,rfl,m3,R5,w3,e3⟩
  refine And.intro (e3.own o2 no) ?_
  have q4:=e3.own q2 no2
  refine vs ?_
  have w4:=w3.cw (t:=bh tops (aD w x)) (fun hh=>by
   obtain⟨g1,g2,g3⟩:=po.t1 _ hh
   exact⟨⟨by omega,g3⟩,g1⟩)
  rw[←lz,show ws [bh tops (aD w x),r]=ws [bh tops (aD w x),r]++[] by simp]at w4
  refine(cY m3 w4 R5).mono ?_
  rintro _ H4 ⟨r2,L4,Te,IA,rfl,_,m4,w5,Wf,e4⟩
  rw[an7]at w5
  refine And.intro (e4.own (e3.own o2 no) no) ?_
  have q5:=e4.own q4 no2
  refine vs ?_
  refine⟨⟨by omega,by omega⟩,?_⟩
  refine v3 q5 am9 ane ?_
  refine⟨by omega,?_⟩
  obtain⟨m5,e5⟩:=m4.kj q5 (aD w x).toNat r2
  refine And.intro (e5.own (e4.own (e3.own o2 no) no) d2) ?_
  obtain⟨tv5,o5,_⟩:=m5.own
  refine v1 (ae o5) ?_
  refine(bY m5.cells x).mono ?_
  rintro _ H6 (⟨bJ,_,_⟩| ⟨_,rfl,c6,e6⟩)
  ·exact absurd bE bJ
  have m6:=m5.aG c6 e6 lG
  refine vs ?_
  have hR:(0<aD w x∧aE par x (-1) x= -1)∧x≠bh tops (aD w x):=⟨⟨dA,hu⟩,fun e=>po.nx e.symm⟩
  have eU:aw (aw ch p (l1++l2)) x [] x=[]:=by unfold aw;rw[if_pos rfl]
  have w6:=w5.drop (x:=x) hR (by rw[w5.fr x hR];exact eU) ((w5.jg x dA).2 (.inr hR)) p0 p1 p2 el
  refine .inr ⟨bE,rfl,cr.same ⟨B,C,L4,_,Te,IA,rfl,m6,⟨?_,Wf,by rw[anb];exact l.tl⟩,hS⟩ ((((nT.trans (e3.mono fun z _ h=>by rcases h with h|rfl;exact hC z h;exact t1)).trans (e4.mono fun z _ h=>by rcases h with h|rfl;exact hC z h;exact t1)).trans (e5.mono fun z _ h=>h▸t2)).trans (e6.mono fun z _ h=>hC z h))⟩
  rw[ec (by omega) da]
  refine⟨w6.pr,w6.done (fun h aM hh=>?_) (fun y hy=>?_)⟩
  ·obtain⟨g1,g2,g3⟩:=po.t1 h hh
   have hn:bh tops h≠x:=fun e=>aM (by rw[←g1,e])
   have Cd:bh tops h≠bh tops (aD w x):=fun e=>by
    by_cases h4:bh tops (aD w x)= -1
    ·rw[e]at hh;exact hh h4
    ·have:=(po.t1 _ h4).1
     rw[←e,g1]at this
     exact aM this
   exact⟨by rw[p2 _ hn];exact g1,g2,⟨⟨by omega,g3⟩,Cd⟩,hn⟩
  ·have h5:=po.t2 y hy.1.1.1 hy.1.1.2 hy.2
   rw[p2 _ hy.2]
   exact⟨fun e=>by rw[e]at h5;exact hy.1.2 h5.symm,h5⟩
 ·refine vs ?_
  refine(jb m2 po.pr pl2 dA).mono ?_
  rintro _ H3 ⟨r,L3,Lf,nJ,rfl,m3,R5,w3,e3⟩
  refine And.intro (e3.own o2 no) ?_
  have q4:=e3.own q2 no2
  refine vs ?_
  have q6:=m3.eC q4 (dL (tops:=tops) (h:=aD w x) (by omega) da)
  refine v4 (ae q4) am9 ane q6 ?_
  refine And.intro (e3.own o2 no) ?_
  refine vs ?_
  have w4:=w3.cw (t:=bh tops (aD w x)) (fun hh=>by
   obtain⟨g1,g2,g3⟩:=po.t1 _ hh
   exact⟨⟨by omega,g3⟩,g1⟩)
  rw[←lz,show ws [bh tops (aD w x),r]=ws [bh tops (aD w x),r]++[] by simp]at w4
  refine(cY m3 w4 R5).mono ?_
  rintro _ H4 ⟨r2,L4,Te,IA,rfl,_,m4,w5,Wf,e4⟩
  rw[an7]at w5
  refine And.intro (e4.own (e3.own o2 no) no) ?_
  have q5:=e4.own q4 no2
  refine vs ?_
  refine⟨⟨by omega,by omega⟩,?_⟩
  refine v3 q5 am9 ane ?_
  refine⟨by omega,?_⟩
  obtain⟨m5,e5⟩:=m4.kj q5 (aD w x).toNat r2
  refine And.intro (e5.own (e4.own (e3.own o2 no) no) d2) ?_
  obtain⟨tv5,o5,_⟩:=m5.own
  refine v1 (ae o5) ?_
  refine(bY m5.cells x).mono ?_
  rintro _ H6 (⟨bJ,_,_⟩| ⟨_,rfl,c6,e6⟩)
  ·exact absurd bE bJ
  have m6:=m5.aG c6 e6 lG
  refine vs ?_
  have hR:(0<aD w x∧aE par x (-1) x= -1)∧x≠bh tops (aD w x):=⟨⟨dA,hu⟩,fun e=>po.nx e.symm⟩
  have eU:aw (aw ch p (l1++l2)) x [] x=[]:=by unfold aw;rw[if_pos rfl]
  have w6:=w5.drop (x:=x) hR (by rw[w5.fr x hR];exact eU) ((w5.jg x dA).2 (.inr hR)) p0 p1 p2 el
  refine .inr ⟨bE,rfl,cr.same ⟨B,C,L4,_,Te,IA,rfl,m6,⟨?_,Wf,by rw[anb];exact l.tl⟩,hS⟩ ((((nT.trans (e3.mono fun z _ h=>by rcases h with h|rfl;exact hC z h;exact t1)).trans (e4.mono fun z _ h=>by rcases h with h|rfl;exact hC z h;exact t1)).trans (e5.mono fun z _ h=>h▸t2)).trans (e6.mono fun z _ h=>hC z h))⟩
  rw[ec (by omega) da]
  refine⟨w6.pr,w6.done (fun h aM hh=>?_) (fun y hy=>?_)⟩
  ·obtain⟨g1,g2,g3⟩:=po.t1 h hh
   have hn:bh tops h≠x:=fun e=>aM (by rw[←g1,e])
   have Cd:bh tops h≠bh tops (aD w x):=fun e=>by
    by_cases h4:bh tops (aD w x)= -1
    ·rw[e]at hh;exact hh h4
    ·have:=(po.t1 _ h4).1
     rw[←e,g1]at this
     exact aM this
   exact⟨by rw[p2 _ hn];exact g1,g2,⟨⟨by omega,g3⟩,Cd⟩,hn⟩
  ·have h5:=po.t2 y hy.1.1.1 hy.1.1.2 hy.2
   rw[p2 _ hy.2]
   exact⟨fun e=>by rw[e]at h5;exact hy.1.2 h5.symm,h5⟩
theorem tF{n:Nat}{H:Hp}{S:Nat→Prop}{w:Nw}(h:dq n H S w)(g:Int):af Tryz.prog iM [ptr n,i64 g] H fun v H'=>ar (
  (w.len g=0∧v= .tuple [i64 0,.bool false].toArray∧cr (dq n) S H H' w)∨(∃x,w.first g x∧v= .tuple [i64 x,.bool true].toArray∧cr (dq n) S H H' (w.put x (0,0,0)))):=by
 refine aP pQ ?_
 refine vs ?_
 refine(oT h g).mono ?_
 rintro _ _ ⟨⟨h0,rfl⟩| ⟨x,hx,rfl⟩,rfl⟩
 ·refine vs ?_
  exact .inl ⟨h0,rfl,cr.same h (ag.refl _ _)⟩
 ·refine vs ?_
  refine(vZ h x).mono ?_
  rintro _ H1 (⟨bJ,_,_⟩| ⟨_,rfl,h1⟩)
  ·exact absurd (bk.1 (by have:=bH.1 hx;omega)) bJ
  refine vs ?_
  exact .inr ⟨x,hx,rfl,h1⟩
theorem IB(n:Nat):wG (.iface 202 (ptr n)) (dq n) where
 slt h:=h.slt
 ext h e hd:=h.ext e hd
 cells:=by
  rintro H S w ⟨B,C,L,tops,ch,par,rfl,m,l,hS⟩
  exact⟨B.c,C,m.cells⟩
 has:=by
  rintro H S w g ⟨B,C,L,tops,ch,par,rfl,m,l,hS⟩
  obtain⟨tv,ho,_⟩:=m.own
  exact⟨_,_,bz,ptr B.c,rfl,fI (off:=0) (by kernel_rfl) (ae ho) rfl,(iq m.cells g).mono fun v H' hp=>hp⟩
 make:=by
  intro H S w h
  exact⟨_,_,ld,ptr n,rfl,bv (by kernel_rfl),(Ag h).mono fun v H' hp=>hp⟩
 insert:=by
  intro H S w g x k s h
  exact⟨_,_,jp,ptr n,rfl,bv (by kernel_rfl),(vY h g x k s).mono fun v H' hp=>hp⟩
 min:=by
  intro H S w g h
  refine⟨_,_,lY,ptr n,rfl,bv (by kernel_rfl),(oT h g).mono ?_⟩
  rintro v H' ⟨⟨h1,rfl⟩| ⟨x,h1,rfl⟩,rfl⟩
  ·exact .inl ⟨h1,rfl,cr.same h (ag.refl _ _)⟩
  ·exact .inr ⟨x,h1,rfl,cr.same h (ag.refl _ _)⟩
 extract:=by
  intro H S w g h
  exact⟨_,_,iM,ptr n,rfl,bv (by kernel_rfl),(tF h g).mono fun v H' hp=>hp⟩
 kq:=by
  intro H S w x k s h
  exact⟨_,_,gZ,ptr n,rfl,bv (by kernel_rfl),(sf h x k s).mono fun v H' hp=>hp⟩
 entry:=by
  rintro H S w x ⟨B,C,L,tops,ch,par,rfl,m,l,hS⟩
  obtain⟨tv,ho,_⟩:=m.own
  refine⟨_,_,aZ,ptr B.c,rfl,fI (off:=0) (by kernel_rfl) (ae ho) rfl,(gD m.cells x).mono ?_⟩
  rintro v H' ⟨c1,f,hv⟩
  exact⟨⟨B,C,L,tops,ch,par,rfl,m.fresh f,l,hS⟩,f,hv⟩
section
variable {H H' : Hp} {ro ro' : Nat → Rl} {fb tb n : Nat} {l : List Value} {V : Int → Value} {ch : Int → List Int} {par : Int → Int} {kb : Int → Option Nat} {T : Nat → Prop}
theorem tG(m:ForM H ro fb tb n l V ch par kb){a:Option Addr}{c:Nat}{xs:List Int}(h:cI H 1 (.slice a xs.length c) xs.length (xs.map i64))(hr:∀x∈xs,(0≤x∧x<n)∧par x= -1)(hR:DN ch xs)(hm:xs.length≤1000000):
  af Tryz.prog xh [ptr fb,.slice a xs.length c] H fun v H'=>ar (v= .bool true∧H'=H):=by
 refine aP xH ?_
 refine vs ?_
 refine aT.intro (fun m env H'=>H'=H∧∃j:Nat,m=xs.length - j∧j≤xs.length∧env=[(0,ptr fb),(1,.slice a xs.length c),(7,.slice a xs.length c),(8,i64 xs.length),(9,i64 j)]) xs.length ⟨rfl,0,by omega,by omega,rfl⟩ ?_
 rintro mm env H1 ⟨e1,j,rfl,hj,rfl⟩
 obtain rfl:=e1.symm
 refine vs ?_
 refine ak.dec (fun aK=>?_) (fun aK=>?_)<;>refine vs ?_
 ·have fF:j<xs.length:=by omega
  obtain⟨x,hx⟩:∃x,xs[j]? =some x:=⟨_,am8 fF⟩
  obtain⟨_,b,o,lb,rfl,zQ,bS⟩:=cI.num h hx
  obtain⟨jA,FA⟩:=hr x (ang hx)
  refine⟨⟨by omega,by omega⟩,?_⟩
  refine v4 zQ Int.toNat_natCast ane bS ?_
  refine(gO m.t x).mono ?_
  rintro _ H' ⟨rfl,e⟩
  obtain rfl:=e.symm
  rw[anp jA,anp FA]
  refine vs ?_
  refine ak.dec (fun h0=>?_) (fun h0=>?_)
  ·obtain⟨k,rfl⟩:∃k,j=k+1:=⟨j - 1,by omega⟩
   obtain⟨y,hy⟩:∃y,xs[k]? =some y:=⟨_,am8 (by omega)⟩
   obtain⟨_,b',o',Uj,AC,afj,Wh⟩:=cI.num h hy
   injection AC with AC
   injection AC with afk Jc
   subst afk Jc
   have yf:(ch y).length< (ch x).length:=by
    have:=List.pairwise_iff_getElem.1 hR k (k+1) (by omega) (by omega) (by omega)
    rw[am8 (by omega)]at hx hy
    injection hx with hx
    injection hy with hy
    rw[hx,hy]at this
    exact this
   refine vs ?_
   rw[wrap64 (n:=((k+1:Nat):Int) - 1) (by omega) (by omega),show((k+1:Nat):Int) - 1=(k:Int) by omega]
   refine⟨⟨by omega,by omega⟩,?_⟩
   refine v4 afj Int.toNat_natCast ane Wh ?_
   refine(cX m y).mono ?_
   rintro _ H' ⟨rfl,e⟩
   obtain rfl:=e.symm
   refine vs ?_
   refine(cX m x).mono ?_
   rintro _ H' ⟨rfl,e⟩
   obtain rfl:=e.symm
   refine vs ?_
   refine ak.dec (fun M7=>by omega) (fun _=>?_)
   refine vs ?_
   rw[wrap64 (n:=((k+1:Nat):Int)+1) (by omega) (by omega)]
   exact⟨xs.length - (k+1+1),by omega,trivial,k+1+1,rfl,by omega,rfl⟩
  ·refine vs ?_
   rw[wrap64 (n:=(j:Int)+1) (by omega) (by omega)]
   exact⟨xs.length - (j+1),by omega,trivial,j+1,rfl,by omega,rfl⟩
 ·exact⟨rfl,rfl⟩
theorem oU(t:mw H fb tb n l V par){x:Int}(hx:0≤x∧x<n){kv:Value}{m:Nat}{ks:List Int}{fp:Option Nat}(s:Sl H 1 kv m (ks.map i64) fp)(fN:fp≠some tb)(bE:∀k∈ks,0≤k∧k<n)(hl:ks.length≤1000000):
  af Tryz.prog sC [ptr fb,i64 x,kv] H fun v H'=>ar (∃l',mw H' fb tb n l' (ti V x kv) (fun z=>if z∈ks then x else par z)∧ag (fun z=>z=tb) H H'):=by
 obtain rfl:m=ks.length:=by
  have:=s.1
  rw[anz,ane]at this
  exact this.symm
 obtain⟨ka,kc,rfl⟩:=Sl.shape s
 have ny:=t.len
 refine aP sO ?_
 refine v1 (ae t.own) ?_
 refine⟨⟨by omega,by omega⟩,?_⟩
 refine v3 t.Dt am9 Nat.add_zero ?_
 refine⟨by omega,?_⟩
 obtain⟨t1,e1⟩:=t.ti hx (.slice ka ks.length kc)
 refine vs ?_
 have s1:=s.ext e1 (fun b hb e=>fN (by rw[hb,e]))
 have qP:=t1.len
 generalize H.wr tb (l.set (x.toNat*2) (.slice ka ks.length kc))=H1 at*
 refine aT.intro (fun mm env H'=>∃ (j:Nat) (l':List Value),mm=ks.length - j∧j≤ks.length∧mw H' fb tb n l' (ti V x (.slice ka ks.length kc)) (fun z=>if z∈ks.take j then x else par z)∧ag (fun z=>z=tb) H1 H'∧
  env=[(0,ptr fb),(1,i64 x),(16,.slice ka ks.length kc),(17,i64 ks.length),(18,i64 j)]) ks.length ⟨0,_,by omega,by omega,by simpa using t1,ag.refl _ _,rfl⟩ ?_
 rintro mm env H2 ⟨j,l2,rfl,hj,t2,e2,rfl⟩
 have s2:=s1.ext e2 (fun b hb e=>fN (by rw[hb,e]))
 have nj:=t2.len
 refine vs ?_
 refine ak.dec (fun aK=>?_) (fun aK=>?_)<;>refine vs ?_
 ·have fF:j<ks.length:=by omega
  obtain⟨k,hk⟩:∃k,ks[j]? =some k:=⟨_,am8 fF⟩
  obtain⟨_,b,lb,rfl,q2,q3⟩:=Sl.xW s2 hk
  have X8:=bE k (ang hk)
  refine⟨⟨by omega,by omega⟩,?_⟩
  refine v6 (ae q2) am9 ane Int.toNat_natCast q3 (ae t2.own) ?_
  refine⟨⟨by omega,by omega⟩,?_⟩
  refine v3 t2.Dt am9 Nat.add_zero ?_
  refine⟨by omega,?_⟩
  obtain⟨t3,e3⟩:=t2.aE X8 x
  refine vs ?_
  rw[wrap64 (n:=(j:Int)+1) (by omega) (by omega)]
  refine⟨ks.length - (j+1),by omega,j+1,l2.set (k.toNat*2+1) (i64 x),rfl,by omega,?_,e2.trans e3,rfl⟩
  have tk:ks.take (j+1)=ks.take j++[k]:=by rw[anN,hk];rfl
  have:(fun z=>if z∈ks.take (j+1)then x else par z)=aE (fun z=>if z∈ks.take j then x else par z) k x:=by
   funext z
   unfold aE
   rw[tk]
   by_cases hz:z=k
   ·rw[if_pos (by simp[hz]),if_pos hz]
   ·rw[if_neg hz]
    by_cases h2:z∈ks.take j
    ·rw[if_pos (anr _ h2)]
     exact(if_pos h2).symm
    ·rw[if_neg (by simp[h2,hz])]
     exact(if_neg h2).symm
  rw[this]
  exact t3
 ·obtain rfl:j=ks.length:=by omega
  rw[anJ]at t2
  exact⟨l2,t2,e1.trans e2⟩
theorem RK.ext{s:Nat}(r:RK s ro ro')(hz:∀z,z<s→KB ro' z→KB ro z):∀z,z<s→¬KB ro z→¬KB ro' z:=fun z h1 h2 h3=>h2 (hz z h1 h3)
theorem RK.kbs{s:Nat}(r:RK s ro ro'){z:Nat}(hz:z<s)(h:KB ro' z):KB ro z:=by
 rcases h with h| ⟨x,h⟩
 ·refine .inl ?_
  by_cases hk:∃x,ro z= .nS x
  ·obtain⟨x,hx⟩:=hk
   obtain⟨y,hy⟩:=r.k z x hz hx
   rw[hy]at h;cases h
  ·rw[←r.o z hz (fun x hx=>hk ⟨x,hx⟩)];exact h
 ·refine .inr ?_
  apply anC
  intro hk
  rw[r.o z hz (fun x hx=>hk ⟨x,hx⟩)]at h
  exact hk ⟨x,h⟩
theorem BV(m:ForM H ro fb tb n l V ch par kb)(hz:∀z,H.size≤z→ro z= .no){x:Int}(hx:0≤x∧x<n)(px:par x= -1)(hl:(ch x).length≤65536):
  af Tryz.prog sB [ptr fb,i64 x] H fun v H'=>ar (∃ro' l' V' r9 fp,ForM H' ro' fb tb n l' V' (aw ch x []) (eV ch par x) r9∧RK H.size ro ro'∧(∀z,H'.size≤z→ro' z= .no)∧ag (KB ro) H H'∧
   Sl H' 1 v (ch x).length ((ch x).map i64) fp∧∀b,fp=some b→H.size≤b∧ro' b= .no):=by
 have ht:=m.t.len
 obtain⟨a1,a2⟩:=m.t.at_ x hx.1 hx.2
 have kx:=m.kd x hx.1 hx.2
 obtain⟨ka,kc,Yi⟩:=Sl.shape kx
 rw[Yi]at a1 kx
 refine aP sM ?_
 refine vs ?_
 refine(gO m.t x).mono ?_
 rintro _ H' ⟨rfl,e⟩
 obtain rfl:=e.symm
 rw[anp hx,anp px]
 refine v1 (ae m.t.own) ?_
 refine⟨⟨by omega,by omega⟩,?_⟩
 refine v5 (ae m.t.own) (ae m.t.Dt) am9 Nat.add_zero a1 ?_
 refine⟨⟨by omega,by omega⟩,?_⟩
 refine v3 m.t.Dt am9 Nat.add_zero ?_
 refine⟨by omega,?_⟩
 obtain⟨Wi,Yj,m1,r1,n1,e1⟩:=m.put hz hx (ag.refl _ H) (Sl.nil H 1) (w':=.slice none 0 0) (L':=[]) (.inr (.inl rfl)) (by simp)
 refine vs ?_
 have aam:∀b,kb x=some b→b≠tb:=fun b hb e=>by
  have:=m.rk x b hx.1 hx.2 hb
  rw[e,m.rt]at this
  cases this
 have s1:=kx.ext (m.t.ti hx (.slice none 0 0)).2 (fun b hb=>aam b hb)
 generalize H.wr tb (l.set (x.toNat*2) (.slice none 0 0))=H1 at*
 refine aT.intro (fun mm env H'=>∃ (j:Nat) (l':List Value),mm=(ch x).length - j∧j≤(ch x).length∧ForM H' Wi fb tb n l' (ti V x (.slice none 0 0)) (aw ch x []) (fun z=>if z∈(ch x).take j then -1 else par z) Yj∧ag (fun z=>z=tb) H1 H'∧
  env=[(0,ptr fb),(5,.slice ka (ch x).length kc),(27,.slice ka (ch x).length kc),(28,i64 (ch x).length),(29,i64 j)]) (ch x).length ⟨0,_,by omega,by omega,by simpa using m1,ag.refl _ _,rfl⟩ ?_
 rintro mm env H2 ⟨j,l2,rfl,hj,m2,e2,rfl⟩
 have s2:=s1.ext e2 (fun b hb=>aam b hb)
 have nj:=m2.t.len
 have hrt:Wi tb= .table:=m2.rt
 refine vs ?_
 refine ak.dec (fun aK=>?_) (fun aK=>?_)<;>refine vs ?_
 ·have fF:j< (ch x).length:=by omega
  obtain⟨k,hk⟩:∃k,(ch x)[j]? =some k:=⟨_,am8 fF⟩
  obtain⟨_,b,lb,rfl,q2,q3⟩:=Sl.xW s2 hk
  have X8:=m.FC x k (ang hk)
  refine⟨⟨by omega,by omega⟩,?_⟩
  refine v6 (ae q2) am9 ane Int.toNat_natCast q3 (ae m2.t.own) ?_
  refine⟨⟨by omega,by omega⟩,?_⟩
  refine v3 m2.t.Dt am9 Nat.add_zero ?_
  refine⟨by omega,?_⟩
  obtain⟨m3,_⟩:=m2.aE X8 (-1)
  obtain⟨_,e3⟩:=m2.t.aE X8 (-1)
  refine vs ?_
  rw[wrap64 (n:=(j:Int)+1) (by omega) (by omega)]
  refine⟨(ch x).length - (j+1),by omega,j+1,l2.set (k.toNat*2+1) (i64 (-1)),rfl,by omega,?_,e2.trans e3,rfl⟩
  have tk:(ch x).take (j+1)=(ch x).take j++[k]:=by rw[anN,hk];rfl
  have:(fun z=>if z∈(ch x).take (j+1)then(-1:Int)else par z)=aE (fun z=>if z∈(ch x).take j then -1 else par z) k (-1):=by
   funext z
   unfold aE
   rw[tk]
   by_cases hz:z=k
   ·rw[if_pos (by simp[hz]),if_pos hz]
   ·rw[if_neg hz]
    by_cases h2:z∈(ch x).take j
    ·rw[if_pos (anr _ h2)]
     exact(if_pos h2).symm
    ·rw[if_neg (by simp[h2,hz])]
     exact(if_neg h2).symm
  rw[this]
  exact m3
 ·obtain rfl:j=(ch x).length:=by omega
  rw[anJ]at m2
  refine(zL s2.rd (by omega)).mono ?_
  rintro v H3 ⟨f3,fp,s3,fN⟩
  have z2:=e2.size
  have z1:=e1.size
  have z3:=f3.size
  refine vs ?_
  refine⟨Wi,l2,_,Yj,fp,m2.fresh f3,r1,fun z dE=>n1 z (by omega),?_,s3,fun b hb=>⟨by have:=fN b hb;omega,n1 b (by have:=fN b hb;omega)⟩⟩
  exact(e1.trans (e2.mono fun z dE h=>.inl (by rw[h];exact m.rt))).trans (f3.mono fun _ _ h=>h.elim)
def lu(j k:Nat):List Value:=(List.replicate j [Value.slice none 0 0,Value.int .i64 (-1)]).flatten++(List.replicate k [Value.slice none 0 0,Value.int .i64 0]).flatten
theorem ur(j:Nat)(a b:Value):((List.replicate j [a,b]).flatten).length=j*2:=by
 induction j with
 |zero=>rfl
 |succ j ih=>rw[anS,an9,ank,ih];simp;omega
theorem Q1{j i:Nat}(a b:Value)(hi:i<j):((List.replicate j [a,b]).flatten)[i*2]? =some a∧((List.replicate j [a,b]).flatten)[i*2+1]? =some b:=by
 induction j generalizing i with
 |zero=>omega
 |succ j ih=>
  rw[anS,an9]
  cases i with
  |zero=>exact⟨rfl,rfl⟩
  |succ i=>
   have:=ih (i:=i) (by omega)
   rw[show(i+1)*2=i*2+1+1 by omega]
   exact this
theorem OS(j k:Nat):(lu j k).length=(j+k)*2:=by unfold lu;rw[ank,ur,ur];omega
theorem OT(j k:Nat):(lu j (k+1)).set (j*2+1) (Value.int .i64 (-1))=lu (j+1) k:=by
 unfold lu
 rw[apf _ _ (by rw[ur];omega),ur,show j*2+1 - j*2=1 by omega,anS,an9,apj,List.flatten_append]
 simp
theorem EW(H:Hp){n:Int}(hn:0≤n∧n≤65536):af Tryz.prog Ju [i64 n] H fun v H'=>ar (∃fb tb l,v= .tuple [ptr fb,i64 0].toArray∧mw H' fb tb n.toNat l (fun _=>.slice none 0 0) (fun _=> -1)∧ah H H'∧H.size≤fb∧H.size≤tb):=by
 refine aP JD ?_
 refine vs ?_
 refine ak.dec (fun g=>absurd g (by omega)) (fun _=>?_)
 refine vs ?_
 refine ak.dec (fun g=>absurd g (by omega)) (fun _=>?_)
 refine vs ?_
 refine⟨⟨by omega,by omega,by omega,by omega⟩,?_⟩
 refine vs ?_
 rw[show cz [Value.slice none 0 0,Value.int .i64 0] n.toNat=lu 0 n.toNat from rfl]
 obtain⟨N,hN⟩:∃N:Nat,n=(N:Int):=⟨n.toNat,by omega⟩
 subst hN
 rw[Int.toNat_natCast]
 have f0:ah H ((H.new 315 (lu 0 N)).new 313 [.slice (some ⟨H.size,0,none⟩) N N]):=((ag.refl _ _).new _ _).new _ _
 have t0:((H.new 315 (lu 0 N)).new 313 [.slice (some ⟨H.size,0,none⟩) N N]).own (H.size+1)=some [.slice (some ⟨H.size,0,none⟩) N N]:=aQ (by simp only[am])
 have t1:((H.new 315 (lu 0 N)).new 313 [.slice (some ⟨H.size,0,none⟩) N N]).own H.size=some (lu 0 N):=by
  rw[ce (by simp only[am];omega),ax]
 generalize (H.new 315 (lu 0 N)).new 313 [.slice (some ⟨H.size,0,none⟩) N N]=H0 at*
 refine aT.intro (fun m env H'=>∃j:Nat,m=N - j∧j≤N∧ag (fun z=>z=H.size) H0 H'∧H'.own H.size=some (lu j (N - j))∧
  env=[(4,ptr (H.size+1)),(20,i64 N),(21,i64 j)]) N ⟨0,by omega,by omega,ag.refl _ _,t1,rfl⟩ ?_
 rintro m env H1 ⟨j,rfl,hj,e1,h1,rfl⟩
 have o1:=e1.own t0 (by omega)
 have qP:=OS j (N - j)
 refine vs ?_
 refine ak.dec (fun aK=>?_) (fun aK=>?_)<;>refine vs ?_
 ·refine v1 (ae o1) ?_
  refine⟨⟨by omega,by omega⟩,?_⟩
  refine v4 h1 am9 Nat.add_zero Int.toNat_natCast ?_
  refine⟨by omega,?_⟩
  refine vs ?_
  have e2:ag (fun z=>z=H.size) H1 (H1.wr H.size ((lu j (N - j)).set (j*2+1) (Value.int .i64 (-1)))):=(ag.refl (fun z=>z=H.size) _).wr (fun _=>rfl) _
  have q2:(H1.wr H.size ((lu j (N - j)).set (j*2+1) (Value.int .i64 (-1)))).own H.size=some ((lu j (N - j)).set (j*2+1) (Value.int .i64 (-1))):=ai h1
  rw[wrap64 (n:=(j:Int)+1) (by omega) (by omega)]
  refine⟨N - (j+1),by omega,j+1,rfl,by omega,e1.trans e2,?_,rfl⟩
  rw[q2,show N - j=(N - (j+1))+1 by omega,OT]
 ·obtain rfl:j=N:=by omega
  refine⟨H.size+1,H.size,_,rfl,⟨o1,h1,by rw[qP];omega,fun x h0 hx=>?_,by omega⟩,f0.then e1 (fun z hz=>by omega),by omega,by omega⟩
  unfold lu
  rw[aos,apk,List.flatten_nil,an7]
  exact Q1 _ _ (by omega)
end
end Go.Proofs.YtjlnnljohemifaaGreat

namespace Go.Proofs.YtjlnnljohemifaaGreat
open Go Go.Vc
theorem IC:∀ {l:List Int} {i:Nat} {x p:Int},l.Nodup→p∉l→l[i]? =some x→l.set i p=l.map (gI x p):=by
 intro l
 induction l with
 |nil=>intro i x p _ _ h;simp at h
 |cons a r ih=>
  intro i x p hn hp h
  have Cd:=anu.1 hn
  have hpr:p∉r:=fun h=>hp (by simp[h])
  cases i with
  |zero=>
   simp only[anG,anl]at h
   subst h
   rw[aoD,an3,jR,yL Cd.1 hpr]
  |succ i=>
   have hx:r[i]? =some x:=by simpa using h
   have sj:a≠x:=fun e=>Cd.1 (by rw[e];exact ang hx)
   have SA:a≠p:=fun e=>hp (by rw[e];simp)
   rw[anV,an3,eW sj SA,ih Cd.2 hpr hx]
def Q2(x p:Int):Rl→Rl
 | .nS y=>.nS (gI x p y)
 |r=>r
section
variable {H H' : Hp} {ro ro' : Nat → Rl} {fb tb n : Nat} {l : List Value} {V : Int → Value} {ch : Int → List Int} {par : Int → Int} {kb : Int → Option Nat} {T : Nat → Prop}
variable {hm : Int → Int} {lt : Int → Int → Bool} {rows : Int → List Int} {W : List Int}
theorem Sl.Tf{H:Hp}{v:Value}{m:Nat}{xs:List Int}{fp:Option Nat}(s:Sl H 1 v m (xs.map i64) fp){i:Nat}{x:Int}(hx:xs[i]? =some x):∃b lb c,v= .slice (some ⟨b,0,none⟩) m c∧fp=some b∧H.own b=some lb∧lb[i]? =some (i64 x)∧i<m∧m≤lb.length∧m=xs.length:=by
 obtain⟨a,c,rfl⟩:=Sl.shape s
 have hl:=s.1
 rw[anz,ane]at hl
 obtain⟨h1,b,lb,rfl,q2,q3⟩:=Sl.xW s hx
 cases fp with
 |none=>have:=s.2.2;injection this with h1;cases h1
 |some b'=>
  obtain⟨_,Uj,c',hs,ho,hc,mJ,_⟩:=s
  injection hs with et I3 Fy
  injection et with et
  injection et with et
  subst et
  rw[q2]at ho
  injection ho with ho
  subst ho
  exact⟨b,lb,c,rfl,rfl,q2,q3,h1,by omega,hl.symm⟩
theorem mw.afl{H:Hp}{fb tb n:Nat}{l:List Value}{V V':Int→Value}{U U':Int→Int}(t:mw H fb tb n l V U)(h:∀x:Int,0≤x→x<n→V' x=V x∧U' x=U x):mw H fb tb n l V' U':=
 ⟨t.own,t.Dt,t.len,fun x h0 h1=>by obtain⟨e1,e2⟩:=h x h0 h1;rw[e1,e2];exact t.at_ x h0 h1,t.ne⟩
theorem Dh(m:ForM H ro fb tb n l V ch par kb)(hz:∀z,H.size≤z→ro z= .no)(w:jh hm lt ch par rows W){x p:Int}(hx:0≤x∧x<n)(hp:0≤p∧p<n)(Ja:x∈ch p)(PU:par p≠ -1→0≤par p∧par p<n)(hn:n≤65536):
  af Tryz.prog k9 [ptr fb,i64 x] H fun v H'=>ar (v= .bool true∧∃ro' l' V' r9,ForM H' ro' fb tb n l' V' (Fw ch x p) (HL par x p) r9∧RK H.size ro ro'∧(∀z,H'.size≤z→ro' z= .no)∧ag (KB ro) H H'∧∀z,ro z= .no→ro' z= .no):=by
 obtain⟨d1,d2,d3,d4,d5⟩:=w.pr.dn p x Ja
 have aK:=w.less Ja
 have dA:p≠x:=fun e=>by rw[e]at aK;omega
 have npp:p∉ch p:=fun h=>by have:=w.less h;omega
 have npx:p∉ch x:=fun h=>by have:=w.less h;omega
 have nxx:x∉ch x:=fun h=>by have:=w.less h;omega
 have mK:∀z,(ch z).length≤n:=fun z=>bU (w.pr.nd z) fun c hc=>m.FC z c hc
 have akl:=mK x
 have akm:=mK p
 have ny:=m.t.len
 obtain⟨x1,x2⟩:=m.t.at_ x hx.1 hx.2
 obtain⟨p1,p2⟩:=m.t.at_ p hp.1 hp.2
 have sx:=m.kd x hx.1 hx.2
 have sp:=m.kd p hp.1 hp.2
 obtain⟨oa,oc,Yi⟩:=Sl.shape sx
 obtain⟨i,hi,e⟩:=ao8.1 Ja
 obtain⟨bp,lp,cp,Uf,hkp,qp,qpi,oF,Ns,_⟩:=Sl.Tf sp (i:=i) (x:=x) (by rw[am8 hi,e])
 have Uu:=m.rk p bp hp.1 hp.2 hkp
 have hbt:bp≠tb:=fun e=>by rw[e,m.rt]at Uu;cases Uu
 have VA:bp≠fb:=fun e=>by rw[e,m.rf]at Uu;cases Uu
 have PR:∀b,kb x=some b→b≠tb∧b≠bp:=fun b hb=>by
  have:=m.rk x b hx.1 hx.2 hb
  refine⟨fun e=>(by rw[e,m.rt]at this;cases this),fun e=>?_⟩
  rw[e,Uu]at this
  injection this with this
  exact dA this
 rw[Yi]at x1
 rw[Uf]at p1
 refine aP vw ?_
 refine vs ?_
 refine(nE m.t hx).mono ?_
 rintro _ H' ⟨⟨h,_⟩| ⟨_,rfl⟩,e⟩
 ·rw[d1]at h;exact absurd h d2
 obtain rfl:=e.symm
 rw[d1]
 refine v1 (ae m.t.own) ?_
 refine⟨⟨by omega,by omega⟩,?_⟩
 refine v5 (ae m.t.own) (ae m.t.Dt) am9 Nat.add_zero x1 ?_
 refine⟨⟨by omega,by omega⟩,?_⟩
 refine v5 (ae m.t.own) (ae m.t.Dt) am9 Nat.add_zero p1 ?_
 refine⟨⟨by omega,by omega⟩,?_⟩
 refine v5 (ae m.t.own) (ae m.t.Dt) am9 Nat.add_zero p2 ?_
 rw[Uf]at sp
 refine(fg sp.rd x (by omega)).mono ?_
 rintro _ H' ⟨⟨j,rfl,hj⟩,e⟩
 obtain rfl:=e.symm
 obtain⟨hj0,hj⟩:=hj.resolve_left (fun h=>h.2 Ja)
 obtain⟨k,rfl⟩:∃k:Nat,j=(k:Int):=⟨j.toNat,by omega⟩
 rw[Int.toNat_natCast]at hj
 have ST:=(ana.1 hj).1
 refine vs ?_
 refine⟨⟨by omega,by omega⟩,?_⟩
 refine v4 qp am9 ane Int.toNat_natCast ?_
 refine⟨by omega,?_⟩
 refine vs ?_
 rw[hkp]at sp
 have Wj:=sp.sW qp k (i64 p)
 have Wk:ag (fun z=>z=bp) H (H.wr bp (lp.set k (i64 p))):=(ag.refl (fun z=>z=bp) _).wr (fun _=>rfl) _
 rw[←anY,IC (w.pr.nd p) npp hj]at Wj
 have t1:=m.t.ext Wk (Ne.symm VA) (Ne.symm hbt)
 have sx1:=sx.ext Wk (fun b hb=>(PR b hb).2)
 generalize H.wr bp (lp.set k (i64 p))=H1 at*
 have VV:((ch p).map (gI x p)).length=(ch p).length:=anz ..
 have bF:∀z,z∈(ch p).map (gI x p)↔(z=p∨(z∈ch p∧z≠x)):=fun z=>by
  rw[iF]
  by_cases h1:z=x
  ·rw[h1,jR]
   exact⟨fun h=>absurd h npp,fun h=>by rcases h with h|h;exact absurd h.symm dA;exact absurd rfl h.2⟩
  ·by_cases h2:z=p
   ·rw[h2,qO];simp[Ja]
   ·rw[eW h1 h2];simp[h1,h2]
 refine(oU t1 hx Wj (fun h=>by injection h with h;exact hbt h) (fun c hc=>?_) (by omega)).mono ?_
 ·rcases(bF c).1 hc with h|h
  ·rw[h];exact hp
  ·exact m.FC p c h.1
 rintro _ H2 ⟨l2,t2,e2⟩
 refine vs ?_
 have sx2:=sx1.ext e2 (fun b hb=>(PR b hb).1)
 rw[Yi]at sx2
 refine(oU t2 hp sx2 (fun h=>(PR tb h).1 rfl) (fun c hc=>m.FC x c hc) (by omega)).mono ?_
 rintro _ H3 ⟨l3,t3,e3⟩
 have Qw:=t3.len
 refine v1 (ae t3.own) ?_
 refine⟨⟨by omega,by omega⟩,?_⟩
 refine v3 t3.Dt am9 Nat.add_zero ?_
 refine⟨by omega,?_⟩
 obtain⟨t4,e4⟩:=t3.aE hx (par p)
 refine vs ?_
 have SY:=t4.len
 generalize H3.wr tb (l3.set (x.toNat*2+1) (i64 (par p)))=H4 at*
 generalize l3.set (x.toNat*2+1) (i64 (par p))=l4 at*
 have ul:ag (fun z=>z=tb) H1 H4:=(e2.trans e3).trans e4
 have Yk:x≠ -1:=w.pr.ne Ja
 have gx:par p≠x:=fun e=>by
  by_cases hq:par p= -1
  ·exact Yk (by rw[←e,hq])
  ·have:=w.less (w.pr.up p _ rfl hq)
   rw[e]at this;omega
 have Yl:par p≠p:=fun e=>by
  have:=w.less (w.pr.up p p e d2)
  omega
 have t5:mw H4 fb tb n l4 (fun z=>V (gI x p z)) (HL par x p):=by
  refine t4.afl fun z h0 h1=>⟨?_,?_⟩
  ·by_cases e1:z=x
   ·rw[e1,jR];unfold ti;rw[if_neg dA.symm,if_pos rfl,Uf]
   ·by_cases e2:z=p
    ·rw[e2,qO];unfold ti;rw[if_pos rfl,Yi]
    ·rw[eW e1 e2];unfold ti;rw[if_neg e2,if_neg e1]
  ·show gI x p (par (gI x p z))=(if z=x then par p else if z∈ch x then p else if z∈(ch p).map (gI x p)then x else par z)
   by_cases e1:z=x
   ·rw[if_pos e1,e1,jR,eW gx Yl]
   ·rw[if_neg e1]
    by_cases e2:z=p
    ·rw[e2,qO,d1,qO,if_neg npx,if_pos ((bF p).2 (.inl rfl))]
    ·rw[eW e1 e2]
     by_cases e3:z∈ch x
     ·rw[if_pos e3,(w.pr.dn x z e3).1,jR]
     ·rw[if_neg e3]
      by_cases e4:z∈ch p
      ·rw[if_pos ((bF z).2 (.inr ⟨e4,e1⟩)),(w.pr.dn p z e4).1,qO]
      ·rw[if_neg (fun h=>by rcases(bF z).1 h with h|h;exact e2 h;exact e4 h.1)]
       rw[eW (fun h=>e3 (w.pr.up z x h Yk)) (fun h=>e4 (w.pr.up z p h d2))]
 have hRK:∀H5:Hp,ag (fun z=>z=bp∨z=tb∨kb (par p)=some z∧par p≠ -1) H H5→RK H.size ro (fun z=>Q2 x p (ro z))∧(∀z,H5.size≤z→Q2 x p (ro z)= .no)∧ag (KB ro) H H5:=fun H5 e5=>by
  refine⟨⟨fun z dE hk=>?_,fun z y dE hy=>⟨gI x p y,by rw[hy];rfl⟩,fun z dE=>.inl (by rw[hz z dE];rfl)⟩,fun z dE=>?_,e5.mono fun z _ h=>?_⟩
  ·cases hr:ro z with
   |nS y=>exact absurd hr (hk y)
   |_=>rfl
  ·have:=e5.size
   rw[hz z (by omega)];rfl
  ·rcases h with h|h| ⟨h,hq⟩
   ·exact .inr ⟨p,by rw[h];exact Uu⟩
   ·exact .inl (by rw[h];exact m.rt)
   ·obtain⟨h0,h1⟩:=PU hq
    exact .inr ⟨par p,m.rk _ z h0 h1 h⟩
 have aao:∀z:Int,¬ (0≤z∧z<n)→Fw ch x p z=[]:=fun z dE=>by
  unfold Fw
  rw[eW (fun e=>dE (by rw[e];exact hx)) (fun e=>dE (by rw[e];exact hp)),m.no z dE]
  rfl
 have hrS:∀z:Int,(0≤z∧z<n)→0≤gI x p z∧gI x p z<n:=fun z dE=>by
  by_cases e1:z=x
  ·rw[e1,jR];exact hp
  ·by_cases e2:z=p
   ·rw[e2,qO];exact hx
   ·rw[eW e1 e2];exact dE
 have Uv:∀z c,c∈Fw ch x p z→0≤c∧c<n:=fun z c hc=>by
  have:=hrS _ (m.FC _ _ (iF.1 hc))
  rwa[iE]at this
 have hkd:∀z:Int,0≤z→z<n→z≠par p→Sl H4 1 (V (gI x p z)) (Fw ch x p z).length ((Fw ch x p z).map i64) (kb (gI x p z)):=fun z h0 h1 hzg=>by
  by_cases e1:z=x
  ·unfold Fw
   rw[e1,jR,hkp,Uf]
   rw[VV]
   exact Wj.ext ul (fun b hb=>by injection hb with hb;omega)
  ·by_cases e2:z=p
   ·unfold Fw
    rw[e2,qO,Yi,yL nxx npx]
    exact(sx2.ext e3 (fun b hb=>(PR b hb).1)).ext e4 (fun b hb=>(PR b hb).1)
   ·unfold Fw
    rw[eW e1 e2]
    have nx:x∉ch z:=fun h=>e2 (by rw[← (w.pr.dn z x h).1,d1])
    have np:p∉ch z:=fun h=>hzg (w.pr.dn z p h).1.symm
    rw[yL nx np]
    refine((m.kd z h0 h1).ext Wk (fun b hb e=>?_)).ext ul (fun b hb e=>?_)
    ·have:=m.rk z b h0 h1 hb
     rw[e,Uu]at this
     injection this with this
     exact e2 this.symm
    ·have:=m.rk z b h0 h1 hb
     rw[e,m.rt]at this
     cases this
 have Wl:∀ (z:Int) b,0≤z→z<n→kb (gI x p z)=some b→Q2 x p (ro b)= .nS z:=fun z b h0 h1 hb=>by
  obtain⟨g0,g1⟩:=hrS z ⟨h0,h1⟩
  rw[m.rk _ b g0 g1 hb]
  show Rl.nS (gI x p (gI x p z))=_
  rw[iE]
 refine ak.dec (fun h0=>?_) (fun h0=>?_)<;>refine vs ?_
 ·obtain⟨r1,r2,r3⟩:=hRK H4 ((Wk.mono fun z _ h=>.inl h).trans (ul.mono fun z _ h=>.inr (.inl h)))
  refine⟨rfl,_,l4,_,fun z=>kb (gI x p z),⟨t5,fun z g0 g1=>hkd z g0 g1 (by omega),by rw[m.rf];rfl,by rw[m.rt];rfl,Wl,Uv,aao⟩,r1,r2,r3,fun z h=>by show Q2 x p (ro z)=_;rw[h];rfl⟩
 ·obtain⟨g0,g1⟩:=PU h0
  have uc:=w.pr.up p _ rfl h0
  obtain⟨ig,hig,eg⟩:=ao8.1 uc
  have sg:=m.kd (par p) g0 g1
  obtain⟨bg,lg,cg,hvg,hkg,qg,qgi,akp,da,_⟩:=Sl.Tf sg (i:=ig) (x:=p) (by rw[am8 hig,eg])
  have rq:=m.rk _ bg g0 g1 hkg
  have hgt:bg≠tb:=fun e=>by rw[e,m.rt]at rq;cases rq
  have hgb:bg≠bp:=fun e=>by rw[e,Uu]at rq;injection rq with rq;exact Yl rq.symm
  have hgf:bg≠fb:=fun e=>by rw[e,m.rf]at rq;cases rq
  obtain⟨a1,a2⟩:=t5.at_ _ g0 g1
  rw[eW gx Yl,hvg]at a1
  refine v1 (ae t5.own) ?_
  refine⟨⟨by omega,by omega⟩,?_⟩
  refine v4 (ae t5.Dt) am9 Nat.add_zero a1 ?_
  have qg4:=ul.own (Wk.own qg hgb) hgt
  have sg4:Sl H4 1 (.slice (some ⟨bg,0,none⟩) (ch (par p)).length cg) (ch (par p)).length ((ch (par p)).map i64) (some bg):=by
   rw[hvg,hkg]at sg
   exact(sg.ext Wk (fun b hb=>by injection hb with hb;omega)).ext ul (fun b hb=>by injection hb with hb;omega)
  have akr:=mK (par p)
  refine(fg sg4.rd p (by omega)).mono ?_
  rintro _ H' ⟨⟨j,rfl,hj⟩,e⟩
  obtain rfl:=e.symm
  obtain⟨hj0,hj⟩:=hj.resolve_left (fun h=>h.2 uc)
  obtain⟨k,rfl⟩:∃k:Nat,j=(k:Int):=⟨j.toNat,by omega⟩
  rw[Int.toNat_natCast]at hj
  have ST:=(ana.1 hj).1
  refine vs ?_
  refine⟨⟨by omega,by omega⟩,?_⟩
  refine v4 qg4 am9 ane Int.toNat_natCast ?_
  refine⟨by omega,?_⟩
  refine vs ?_
  have sg5:=sg4.sW qg4 k (i64 x)
  have e5:ag (fun z=>z=bg) H4 (H4.wr bg (lg.set k (i64 x))):=(ag.refl (fun z=>z=bg) _).wr (fun _=>rfl) _
  have nxg:x∉ch (par p):=fun h=>Yl (by rw[← (w.pr.dn _ x h).1,d1])
  have Q3:(ch (par p)).map (gI p x)=(ch (par p)).map (gI x p):=apb fun c _=>by
   unfold gI
   by_cases e1:c=x
   ·rw[if_neg (fun e=>dA (by rw[←e,e1])),if_pos e1,if_pos e1]
   ·by_cases e2:c=p
    ·rw[if_pos e2,if_neg e1,if_pos e2]
    ·rw[if_neg e2,if_neg e1,if_neg e1,if_neg e2]
  rw[←anY,IC (w.pr.nd _) nxg hj,Q3]at sg5
  obtain⟨r1,r2,r3⟩:=hRK _ (((Wk.mono fun z _ h=>.inl h).trans (ul.mono fun z _ h=>.inr (.inl h))).trans (e5.mono fun z _ h=>.inr (.inr ⟨by rw[h];exact hkg,h0⟩)))
  refine⟨rfl,_,l4,_,fun z=>kb (gI x p z),⟨t5.ext e5 (fun e=>hgf e.symm) (fun e=>hgt e.symm),fun z q0 q1=>?_,by rw[m.rf];rfl,by rw[m.rt];rfl,Wl,Uv,aao⟩,r1,r2,r3,fun z h=>by show Q2 x p (ro z)=_;rw[h];rfl⟩
  by_cases hzg:z=par p
  ·unfold Fw
   rw[hzg,eW gx Yl,hvg,hkg,anz]
   exact sg5
  ·refine(hkd z q0 q1 hzg).ext e5 (fun b hb e=>?_)
   have h7:=Wl z b q0 q1 hb
   rw[e,rq]at h7
   have h8:Rl.nS (gI x p (par p))= .nS z:=h7
   injection h8 with h8
   rw[eW gx Yl]at h8
   exact hzg h8.symm
end
end Go.Proofs.YtjlnnljohemifaaGreat

namespace Go.Proofs.YtjlnnljohemifaaGreat
open Go Go.Vc
def GI(H:Hp)(v:Value)(xs:List Int)(nb:Option Nat):Prop:=
 ∃a c,v= .slice a xs.length c∧xs.length≤c∧(c=0∨∃b o l,a=some ⟨b,o,none⟩∧nb=some b∧H.own b=some l∧o+c≤l.length∧(l.drop o).take xs.length=xs.map i64)
section
variable {H H' : Hp} {ro ro' : Nat → Rl} {B : Nat} {v : Value} {xs : List Int} {T : Nat → Prop} {nb : Option Nat}
theorem GI.nil(H:Hp)(nb:Option Nat):GI H (.slice none 0 0) [] nb:=⟨none,0,rfl,ano _,.inl rfl⟩
theorem GI.rd(h:GI H v xs nb):cI H 1 v xs.length (xs.map i64):=by
 obtain⟨a,c,rfl,hc,h⟩:=h
 refine⟨by simp,?_⟩
 rcases h with rfl| ⟨b,o,l,rfl,_,h1,h2,h3⟩
 ·exact .inl ⟨by omega,a,0,by rw[show xs.length=0 by omega]⟩
 ·exact .inr ⟨b,o,c,l,rfl,ae h1,by omega,by rw[ane];exact h3⟩
theorem GI.ext(h:GI H v xs nb)(e:ag T H H')(hT:∀z,nb=some z→¬T z):GI H' v xs nb:=by
 obtain⟨a,c,hv,hc,h⟩:=h
 exact⟨a,c,hv,hc,h.imp_right fun⟨b,o,l,h1,h2,h3,h4⟩=>⟨b,o,l,h1,h2,e.own h3 (hT b h2),h4⟩⟩
theorem GI.cap(h:GI H v xs nb):∃a c,v= .slice a xs.length c∧xs.length≤c:=by
 obtain⟨a,c,hv,hc,_⟩:=h
 exact⟨a,c,hv,hc⟩
theorem GI.lit{T:TypeId}(x:Int):GI (H.new T [i64 x]) (.slice (some ⟨H.size,0,none⟩) 1 1) [x] (some H.size):=
 ⟨_,1,rfl,ano _,.inr ⟨H.size,0,[i64 x],rfl,rfl,ax _ _ _,by simp,rfl⟩⟩
theorem GI.tail{x:Int}{a:Option Addr}{c:Nat}(h:GI H (.slice a (x::xs).length c) (x::xs) nb)(OJ:Decidable ((c:Int)=1)):
  GI H (.slice (@ite (Option Addr) ((c:Int)=1) OJ a (Option.map (fun(y:Addr)=>y.add (Int.toNat 1*1)) a)) (((xs.length+1:Nat):Int).toNat - Int.toNat 1) ((c:Int).toNat - Int.toNat 1)) xs nb:=by
 rw[show((xs.length+1:Nat):Int).toNat - Int.toNat 1=xs.length by simp,show(c:Int).toNat - Int.toNat 1=c - 1 by simp]
 obtain⟨a',c',hv,hc,h⟩:=h
 injection hv with e1 e2 e3
 subst e1 e3
 rw[anw]at hc
 refine⟨_,c - 1,rfl,by omega,?_⟩
 by_cases h1:(c:Int)=1
 ·exact .inl (by omega)
 ·rw[if_neg h1]
  rcases h with h| ⟨b,o,l,rfl,h2,h3,h4,h5⟩
  ·omega
  ·refine .inr ⟨b,o+1,l,rfl,h2,h3,by omega,?_⟩
   rw[anw,an3]at h5
   have h6:(l.drop (o+1))=(l.drop o).drop 1:=by rw[ao9]
   rw[h6,List.take_drop,Nat.add_comm,h5]
   rfl
theorem GI.push{K:Value→Hp→Prop}{T:TypeId}(h:GI H v xs nb)(x:Int)(hl:xs.length≤1000000)
  (hk:∀w' H' Hn,(Hn=nb∨∃z,Hn=some z∧H.size≤z∧z<H'.size)→GI H' w' (xs++[x]) Hn→ag (fun z=>nb=some z) H H'→K w' H'):
  fQ T 1 8 [i64 0] v (.slice (some ⟨H.size,0,none⟩) 1 1) (H.new T [i64 x]) K:=by
 have fl:ah H (H.new T [i64 x]):=(ag.refl _ _).new _ _
 have h1:=h.rd.fresh fl
 obtain⟨a,c,rfl,hc,h⟩:=h
 have hx:cI (H.new T [i64 x]) 1 (.slice (some ⟨H.size,0,none⟩) 1 1) 1 [i64 x]:=(Sl.bP (size:=1) (n:=1) (xs:=[i64 x]) rfl rfl).rd
 refine cI.rowOf hx (F:=fun m new=>(xs.length+m≤c→m=0→K (.slice a xs.length c) (H.new T [i64 x]))∧
  (xs.length+m≤c→m≠0→tH a fun b o=>aA (ID ((H.new T [i64 x]).own b) ((H.new T [i64 x]).AH b)) fun l=>dt (o+(xs.length+m)*1≤l.length∧gv new) (K (.slice a (xs.length+m) c) ((H.new T [i64 x]).wr b (bf l (o+xs.length*1) new))))∧
  (c<xs.length+m→Builtin.nextslicecap (xs.length+m) c*8≤2^48∧
   rowOf (H.new T [i64 x]) 1 (.slice a xs.length c) fun _ Q4=>∀c',xs.length+m≤c'→K (.slice (some ⟨(H.new T [i64 x]).size,0,none⟩) (xs.length+m) c') ((H.new T [i64 x]).new T (Q4++new++cz [i64 0] (c' - (xs.length+m)))))) ?_
 refine⟨fun _ h=>absurd h (by omega),fun mJ _=>?_,fun aK=>⟨?_,?_⟩⟩
 ·rcases h with rfl| ⟨b,o,l,rfl,h2,h3,h4,h5⟩
  ·omega
  ·have Lg:=fl.own h3 (fun h=>h)
   show aA (ID ((H.new T [i64 x]).own b) ((H.new T [i64 x]).AH b)) _
   rw[Lg]
   refine⟨⟨by omega,fun v hv=>by rw[anj.1 hv];rfl⟩,?_⟩
   have ny:(xs++[x]).length=xs.length+1:=by simp
   have e2:ag (fun z=>z=b) (H.new T [i64 x]) ((H.new T [i64 x]).wr b (bf l (o+xs.length*1) [i64 x])):=(ag.refl (fun z=>z=b) _).wr (fun _=>rfl) _
   refine hk _ _ nb (.inl rfl) ⟨some ⟨b,o,none⟩,c,by rw[ny],by rw[ny];exact mJ,.inr ⟨b,o,bf l (o+xs.length*1) [i64 x],rfl,h2,ai Lg,by rw[jL];exact h4,?_⟩⟩ ((fl.mono fun _ _ h=>h.elim).trans (e2.mono fun z _ e=>by rw[e];exact h2))
   rw[ane]
   apply an5
   intro k
   rw[anH,ny]
   by_cases hk:k<xs.length+1
   ·rw[anI hk,anQ,getElem?_splice [i64 x] l _ _ (by simp;omega)]
    by_cases yC:k<xs.length
    ·rw[if_neg (by omega),anq (by simpa using yC),←h5,anI yC,anQ]
    ·have:k=xs.length:=by omega
     rw[if_pos (by simp;omega),anE (by simp;omega),this]
     simp
   ·rw[ans (by simp;omega),ans (by simp;omega)]
 ·have h2:Builtin.nextslicecap (xs.length+1) c≤2*(xs.length+1):=nextslicecap_le aK
  have h3:=aoF 8 h2
  omega
 ·refine cI.rowOf (n:=xs.length) (xs:=xs.map i64) h1 ?_
  intro c' HJ
  have Of:(H.new T [i64 x]).size=H.size+1:=am _ _ _
  refine hk _ _ (some (H.new T [i64 x]).size) (.inr ⟨_,rfl,by omega,by simp only[am];omega⟩) ⟨_,c',by simp,by simpa using HJ,.inr ⟨(H.new T [i64 x]).size,0,_,rfl,rfl,ax _ _ _,?_,?_⟩⟩ ((fl.mono fun _ _ h=>h.elim).trans ((ag.refl _ _).new _ _))
  ·simp only[ank,anz,Cs,ant,ane]
   omega
  ·rw[apa,anH]
   exact List.take_left' (by simp)
theorem RK.low{s s':Nat}(r:RK s' ro ro')(hs:s≤s')(hz:∀z,s≤z→ro z= .no):RK s ro ro':=(RK.refl hz).trans r hs
theorem RK.none{s:Nat}(r:RK s ro ro'){z:Nat}(hz:z<s)(h:ro z= .no):ro' z= .no:=by
 rw[r.o z hz (fun x e=>by rw[h]at e;cases e),h]
end
section
variable {H H' : Hp} {ro ro' : Nat → Rl} {fb tb nn c : Nat} {l : List Value} {V : Int → Value} {ch : Int → List Int} {par : Int → Int} {kb : Int → Option Nat} {C : Nat → Prop} {w : Nw} {lt : Int → Int → Bool} {rows : Int → List Int} {W : List Int}
theorem jh.QO{hm:Int→Int}(f:jh (aD w) lt ch par rows W){x:Int}(hx:x∈W):0≤x∧x<w.cs.length:=by
 obtain⟨a,b,_⟩:=aC (f.wm x hx).2
 exact⟨a,b⟩
def KC(ro:Nat→Rl)(z:Nat):Prop:=KB ro z∨ro z= .cell
theorem Di(m:ForM H ro fb tb w.cs.length l V ch par kb)(hz:∀z,H.size≤z→ro z= .no)(hn:∃rest,H.own nn=some (ptr c::rest))(cq:CQ H c C w)(hC:∀z,C z→ro z= .cell)(aK:∀a b,aN w a b=true→lt a b=true)
  {x y:Int}(f:jh (aD w) lt ch par rows (x::y::W))(hh:aD w x=aD w y)(hd:(ch x).length=(ch y).length):
  af Tryz.prog uR [ptr fb,.iface 198 (ptr nn),i64 x,i64 y] H fun v H'=>ar (∃p q ro' l' V' r9,v=i64 p∧((p=x∧q=y)∨(p=y∧q=x))∧ForM H' ro' fb tb w.cs.length l' V' (aw ch p (ch p++[q])) (aE par q p) r9∧
   jh (aD w) lt (aw ch p (ch p++[q])) (aE par q p) rows (p::W)∧CQ H' c C w∧RK H.size ro ro'∧(∀z,H'.size≤z→ro' z= .no)∧ag (KC ro) H H'):=by
 have tm:=f.QO (hm:=aD w) (x:=x) (by simp)
 have U4:=f.QO (hm:=aD w) (x:=y) (by simp)
 obtain⟨x1,x2⟩:=f.wm x (by simp)
 obtain⟨y1,y2⟩:=f.wm y (by simp)
 have K7:x≠y:=fun e=>by have:=f.wn;rw[e]at this;simp at this
 have vM:=cq.CY
 have Sg:(ch x).length≤w.cs.length:=bU (f.pr.nd x) fun c hc=>m.FC x c hc
 obtain⟨rest,ho⟩:=hn
 refine aP vy ?_
 refine vs ?_
 refine⟨_,_,cG,ptr c,rfl,fI (off:=0) (by kernel_rfl) (ae ho) rfl,(cA cq y x).mono ?_⟩
 rintro _ H1 ⟨rfl,c1,e1⟩
 have m1:=m.ext e1 (fun z dE h=>by
  have:=hC z h
  rcases dE with h2|h2| ⟨_,h2⟩<;>(rw[this]at h2;cases h2))
 have z1:=e1.size
 have J7:∀z,H1.size≤z→ro z= .no:=fun z h=>hz z (by omega)
 rw[gF (w:=w) (a:=y) (b:=x) y2 x2]
 cases lO:aN w y x
 ·refine vs ?_
  have hl:=aK _ _ (((aq w).M8 x y K7).resolve_right (by rw[lO];simp))
  refine(q9 m1 J7 tm U4 x1 y1 K7 hd (by omega)).mono ?_
  rintro _ H2 ⟨rfl,mQ,l2,V2,Cr,m2,r2,dE,e2⟩
  refine vs ?_
  refine⟨x,y,mQ,l2,V2,Cr,rfl,.inl ⟨rfl,rfl⟩,m2,f.link hh hd hl,c1.ext e2 (fun z h hk=>?_),r2.low z1 hz,dE,(e1.mono fun z _ h=>.inr (hC z h)).trans (e2.mono fun z _ h=>.inl h)⟩
  have:=hC z h
  rcases hk with h2| ⟨_,h2⟩<;>(rw[this]at h2;cases h2)
 ·refine vs ?_
  have hl:=aK _ _ lO
  refine(q9 m1 J7 U4 tm y1 x1 K7.symm hd.symm (by omega)).mono ?_
  rintro _ H2 ⟨rfl,mQ,l2,V2,Cr,m2,r2,dE,e2⟩
  refine vs ?_
  refine⟨y,x,mQ,l2,V2,Cr,rfl,.inr ⟨rfl,rfl⟩,m2,(f.perm (List.Perm.swap ..)).link hh.symm hd.symm hl,c1.ext e2 (fun z h hk=>?_),r2.low z1 hz,dE,(e1.mono fun z _ h=>.inr (hC z h)).trans (e2.mono fun z _ h=>.inl h)⟩
  have:=hC z h
  rcases hk with h2| ⟨_,h2⟩<;>(rw[this]at h2;cases h2)
end
end Go.Proofs.YtjlnnljohemifaaGreat

namespace Go.Proofs.YtjlnnljohemifaaGreat
open Go Go.Vc
theorem cI.sub{H:Hp}{size n c:Nat}{a:Option Addr}{xs:List Value}(h:cI H size (.slice a n c) n xs){lo hi:Nat}(h1:lo≤hi)(h2:hi≤n){b':Option Addr}{c':Nat}(hb:lo<hi→b'=a.map (·.add (lo*size))):
  cI H size (.slice b' (hi - lo) c') (hi - lo) ((xs.drop (lo*size)).take ((hi - lo)*size)):=by
 obtain⟨hl,hv⟩:=h
 have e1:(hi - lo)*size=hi*size - lo*size:=Nat.sub_mul _ _ _
 have e2:hi*size≤n*size:=aoF _ h2
 have e3:lo*size≤hi*size:=aoF _ h1
 refine⟨by rw[anR,aoW,hl];omega,?_⟩
 by_cases aK:lo<hi
 ·rcases hv with ⟨hn,_⟩| ⟨b,o,c2,l,hs,eG,mJ,ht⟩
  ·omega
  ·right
   injection hs with et I3 Fy
   subst et
   rw[hb aK]
   refine⟨b,o+lo*size,c',l,?_,eG,by omega,?_⟩
   ·simp[Addr.add]
   ·rw[←ht,List.drop_take,ao9,apg,aoA (by omega)]
 ·left
  exact⟨by omega,b',c',by rw[show hi - lo=0 by omega]⟩
theorem oV{H:Hp}{a:Option Addr}{n c:Nat}{xs:List Int}(h:cI H 1 (.slice a n c) n (xs.map i64)){lo hi:Nat}{lo' hi':Int}(el:lo'=(lo:Int))(eh:hi'=(hi:Int))(h1:lo≤hi)(h2:hi≤n)(h3:n≤c):
  ∃a',Value.slice (if(c:Int)=lo' then a else Option.map (fun x:Addr=>x.add (lo'.toNat*1)) a) (hi'.toNat - lo'.toNat) ((c:Int).toNat - lo'.toNat)= .slice a' (hi - lo) (c - lo)∧
   cI H 1 (.slice a' (hi - lo) (c - lo)) (hi - lo) (((xs.drop lo).take (hi - lo)).map i64)∧hi - lo≤c - lo∧((xs.drop lo).take (hi - lo)).length=hi - lo:=by
 subst el;subst eh
 have hl:=h.1
 rw[anz,ane]at hl
 refine⟨_,rfl,?_,by omega,by rw[anR,aoW];omega⟩
 have h4:=cI.sub h (lo:=lo) (hi:=hi) h1 h2 (c':=(c:Int).toNat - (lo:Int).toNat) (b':=if(c:Int)=(lo:Int)then a else Option.map (fun x:Addr=>x.add ((lo:Int).toNat*1)) a) (fun aK=>by rw[if_neg (by omega)];rfl)
 simp only[ane]at h4 ⊢
 rw[←List.map_drop,←List.map_take]at h4
 exact h4
def EX(H:Hp)(ro:Nat→Rl)(B:Nat)(v:Value)(xs:List Int):Prop:=
 ∃a c,v= .slice a xs.length c∧xs.length≤c∧(xs=[]∨∃b o l,a=some ⟨b,o,none⟩∧b<B∧¬KC ro b∧H.rd b=some l∧o+xs.length≤l.length∧(l.drop o).take xs.length=xs.map i64)
section
variable {H H' H0 : Hp} {ro ro' Wm : Nat → Rl} {B : Nat} {v : Value} {xs : List Int} {T : Nat → Prop}
theorem EX.rd(h:EX H ro B v xs):cI H 1 v xs.length (xs.map i64):=by
 obtain⟨a,c,rfl,hc,h⟩:=h
 refine⟨by simp,?_⟩
 rcases h with rfl| ⟨b,o,l,rfl,_,_,h1,h2,h3⟩
 ·exact .inl ⟨rfl,a,c,rfl⟩
 ·exact .inr ⟨b,o,c,l,rfl,h1,by omega,by rw[ane];exact h3⟩
theorem EX.ext(h:EX H ro B v xs)(e:ag T H H')(hT:∀z,z<B→¬KC ro z→¬T z)(hr:∀z,z<H.size→KC ro' z→KC ro z):EX H' ro' B v xs:=by
 obtain⟨a,c,hv,hc,h⟩:=h
 exact⟨a,c,hv,hc,h.imp_right fun⟨b,o,l,h1,h2,h3,h4,h5⟩=>⟨b,o,l,h1,h2,fun h=>h3 (hr b (ND h4) h),e.rd h4 (hT b h2 h3),h5⟩⟩
theorem EX.tail{x:Int}{a:Option Addr}{c:Nat}(h:EX H ro B (.slice a (x::xs).length c) (x::xs))(OJ:Decidable ((c:Int)=1)):
  EX H ro B (.slice (@ite (Option Addr) ((c:Int)=1) OJ a (Option.map (fun(y:Addr)=>y.add (Int.toNat 1*1)) a)) (((xs.length+1:Nat):Int).toNat - Int.toNat 1) ((c:Int).toNat - Int.toNat 1)) xs:=by
 rw[show((xs.length+1:Nat):Int).toNat - Int.toNat 1=xs.length by simp,show(c:Int).toNat - Int.toNat 1=c - 1 by simp]
 obtain⟨a',c',hv,hc,h⟩:=h
 injection hv with e1 e2 e3
 subst e1 e3
 rw[anw]at hc
 refine⟨_,c - 1,rfl,by omega,?_⟩
 by_cases h1:(c:Int)=1
 ·exact .inl (anL.1 (by omega))
 ·rw[if_neg h1]
  rcases h with h| ⟨b,o,l,rfl,h2,h3,h4,h5,h6⟩
  ·cases h
  ·rw[anw]at h5 h6
   refine .inr ⟨b,o+1,l,rfl,h2,h3,h4,by omega,?_⟩
   rw[an3]at h6
   have h7:(l.drop (o+1))=(l.drop o).drop 1:=by rw[ao9]
   rw[h7,List.take_drop,Nat.add_comm,h6]
   rfl
theorem EX.head{x:Int}(h:EX H ro B v (x::xs)):∃b o l c,v= .slice (some ⟨b,o,none⟩) (x::xs).length c∧H.rd b=some l∧b<H.size∧l[o]? =some (i64 x)∧(x::xs).length≤c:=by
 obtain⟨a,c,hv,hc,h⟩:=h
 rcases h with h| ⟨b,o,l,rfl,h2,h3,h4,h5,h6⟩
 ·cases h
 ·refine⟨b,o,l,c,hv,h4,ND h4,?_,hc⟩
  have h7:((x::xs).map i64)[0]? =some (i64 x):=rfl
  rw[←h6,anP,if_pos (by simp),anQ]at h7
  exact h7
theorem EX.cap(h:EX H ro B v xs):∃a c,v= .slice a xs.length c∧xs.length≤c:=by
 obtain⟨a,c,hv,hc,_⟩:=h
 exact⟨a,c,hv,hc⟩
theorem RK.kcs{s:Nat}(r:RK s ro ro'){z:Nat}(hz:z<s)(h:KC ro' z):KC ro z:=by
 rcases h with h|h
 ·exact .inl (r.kbs hz h)
 ·refine .inr ?_
  by_cases hk:∃x,ro z= .nS x
  ·obtain⟨x,hx⟩:=hk
   obtain⟨y,hy⟩:=r.k z x hz hx
   rw[hy]at h;cases h
  ·rw[←r.o z hz (fun x hx=>hk ⟨x,hx⟩)];exact h
structure nL(H0:Hp)(Wm:Nat→Rl)(nn fb tb c:Nat)(C:Nat→Prop)(w:Nw)(H:Hp)(ro:Nat→Rl)(l:List Value)(V:Int→Value)(ch:Int→List Int)(par:Int→Int)(kb:Int→Option Nat)(va vb:Value)(a b:List Int):Prop where
 m:ForM H ro fb tb w.cs.length l V ch par kb
 cq:CQ H c C w
 hC:∀z,C z→ro z= .cell
 own:∃rest,H.own nn=some (ptr c::rest)
 hn:ro nn= .Qt
 hz:∀z,H.size≤z→ro z= .no
 rk:RK H0.size Wm ro
 ra:EX H ro H0.size va a
 rb:EX H ro H0.size vb b
 e:ag (KC Wm) H0 H
variable {nn fb tb c : Nat} {C : Nat → Prop} {w : Nw} {l : List Value} {V : Int → Value} {ch : Int → List Int} {par : Int → Int} {kb : Int → Option Nat} {va vb : Value} {a b : List Int}
theorem nL.Tg(h:nL H0 Wm nn fb tb c C w H ro l V ch par kb va vb a b)(e:ag T H H')(hT:∀z,T z→H0.size≤z∧ro z= .no):nL H0 Wm nn fb tb c C w H' ro l V ch par kb va vb a b:=by
 have bJ:∀z r,ro z=r→r≠ .no→¬T z:=fun z r h1 h2 ht=>h2 (by rw[←h1,(hT z ht).2])
 obtain⟨rest,ho⟩:=h.own
 have hs:=e.size
 refine⟨h.m.ext e (fun z hz=>?_),h.cq.ext e (fun z hz=>bJ z _ (h.hC z hz) (by intro h;cases h)),h.hC,⟨rest,e.own ho (bJ nn _ h.hn (by intro h;cases h))⟩,h.hn,fun z hz=>h.hz z (by omega),h.rk,
  h.ra.ext e (fun z hz _ ht=>by have:=(hT z ht).1;omega) (fun _ _ h=>h),h.rb.ext e (fun z hz _ ht=>by have:=(hT z ht).1;omega) (fun _ _ h=>h),?_⟩
 ·rcases hz with h1|h1| ⟨x,h1⟩<;>exact bJ z _ h1 (by intro h;cases h)
 ·exact⟨an8 h.e.size e.size,fun z hz hn=>by
   rw[e.aI z (anB hz h.e.size) (fun ht=>by have:=(hT z ht).1;omega),h.e.aI z hz hn]⟩
end
end Go.Proofs.YtjlnnljohemifaaGreat

namespace Go.Proofs.YtjlnnljohemifaaGreat
open Go Go.Vc
theorem Dj{H:Hp}{a:Option Addr}{c:Nat}{xs:List Int}(f:FuncId)(oN:List Value)(q:Int→Bool)(Inv:Hp→Prop)(hI:Inv H)(eG:∀H',Inv H'→cI H' 1 (.slice a xs.length c) xs.length (xs.map i64))(C5:ee Tryz.prog f=true)
  (hf:∀H' x,x∈xs→Inv H'→af Tryz.prog f (i64 x::oN) H' fun v Fx=>ar (v= .bool (q x)∧Inv Fx))(hm:xs.length≤1000000000):
  af Tryz.prog fu [.slice a xs.length c,.func (.func f) #[] oN.toArray] H fun v H'=>ar (∃i:Int,v=i64 i∧(0≤i↔xs.any q=true)∧Inv H'):=by
 refine aP fy ?_
 refine vs ?_
 refine aT.intro (fun m env H'=>Inv H'∧∃j:Nat,m=xs.length - j∧j≤xs.length∧(∀e∈xs.take j,q e=false)∧env=[(0,.slice a xs.length c),(1,.func (.func f) #[] oN.toArray),(7,i64 xs.length),(8,i64 j)]) xs.length ⟨hI,0,by omega,by omega,by simp,rfl⟩ ?_
 rintro m env H1 ⟨i1,j,SO,hj,cR,rfl⟩
 have h1:=eG H1 i1
 refine vs ?_
 refine ak.dec (fun aK=>?_) (fun aK=>?_)<;>refine vs ?_
 ·have fF:j<xs.length:=by omega
  obtain⟨e,he⟩:∃e,xs[j]? =some e:=⟨_,am8 fF⟩
  obtain⟨_,b,o,lb,rfl,zQ,bS⟩:=cI.num h1 he
  refine⟨⟨by omega,by omega⟩,?_⟩
  have bF:=ang he
  refine v4 zQ Int.toNat_natCast ane bS ?_
  refine⟨C5,?_⟩
  refine af.mono (by simpa using hf H1 e bF i1) ?_
  rintro _ H2 ⟨rfl,i2⟩
  refine vs ?_
  cases hx:q e
  ·refine vs ?_
   rw[wrap64 (n:=(j:Int)+1) (by omega) (by omega)]
   refine⟨xs.length - (j+1),by omega,i2,j+1,rfl,by omega,?_,rfl⟩
   intro e' im
   rw[anN,he]at im
   rcases ann.1 im with im|im
   ·exact cR e' im
   ·have:e'=e:=by simpa using im
    rw[this];exact hx
  ·refine vs ?_
   exact⟨j,rfl,⟨fun _=>List.any_eq_true.2 ⟨e,bF,hx⟩,fun _=>by omega⟩,i2⟩
 ·refine⟨-1,rfl,?_,i1⟩
  have fF:j=xs.length:=by omega
  subst fF
  rw[anJ]at cR
  have:xs.any q=false:=List.any_eq_false.2 fun e he=>by rw[cR e he];simp
  rw[this]
  simp
theorem yn{H:Hp}{a:Option Addr}{c:Nat}{xs:List Int}(f:FuncId)(oN:List Value)(q:Int→Bool)(Inv:Hp→Prop)(hI:Inv H)(eG:∀H',Inv H'→cI H' 1 (.slice a xs.length c) xs.length (xs.map i64))(C5:ee Tryz.prog f=true)
  (hf:∀H' x,x∈xs→Inv H'→af Tryz.prog f (i64 x::oN) H' fun v Fx=>ar (v= .bool (q x)∧Inv Fx))(hm:xs.length≤1000000000):
  af Tryz.prog jT [.slice a xs.length c,.func (.func f) #[] oN.toArray] H fun v H'=>ar (v= .bool (xs.any q)∧Inv H'):=by
 refine aP j0 ?_
 refine vs ?_
 refine(Dj f oN q Inv hI eG C5 hf hm).mono ?_
 rintro _ H1 ⟨i,rfl,hi,i1⟩
 refine vs ?_
 refine⟨anx Value.bool ?_,i1⟩
 cases hx:xs.any q
 ·rw[hx]at hi
  exact anD (fun h=>by cases hi.1 h)
 ·rw[hx]at hi
  exact anp (hi.2 rfl)
end Go.Proofs.YtjlnnljohemifaaGreat
