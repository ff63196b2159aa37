/- Texts put behind each other. -/
import Derived.Test.YtjlnnljohemifaaGreatK98
import Derived.Test.YtjlnnljohemifaaGreatK0
import Derived.Test.YtjlnnljohemifaaGreatK1
import Derived.Test.YtjlnnljohemifaaGreatK17
import Derived.Test.YtjlnnljohemifaaGreatK19
import Derived.Test.YtjlnnljohemifaaGreatK20
import Derived.Test.YtjlnnljohemifaaGreatK21
import Derived.Test.YtjlnnljohemifaaGreatK22
import Derived.KernelRfl
set_option maxRecDepth 100000
set_option maxHeartbeats 8000000
set_option linter.unusedVariables false
set_option linter.unusedSimpArgs false
namespace Go.Proofs.YtjlnnljohemifaaGreat
open Go Go.Vc
theorem oB(H:Hp)(n x:Int)(s:Value)(hs:∃a k c,s= .slice a k c):af Tryz.prog Fe [zK n s,i64 x] H fun v H'=>aw (v= .bool (decide (0≤x) && decide (x<n))∧ah H H'):=by
 obtain⟨a,k,c,rfl⟩:=hs
 refine bv Fk ?_
 have f0:ah H (H.new 52 [i64 n,.slice a k c]):=(ag.refl _ _).new _ _
 have b0:=az H 52 [i64 n,.slice a k c]
 simp(disch:=(first|omega| (simp only[Zs]<;>omega)|fail)) only[go_sem, ↓reduceIte,Zv,zK]
 refine am.dec (fun g=>?_) (fun g=>?_)<;>refine v1 (ae b0) ?_
 ·exact⟨by rw[aow (show 0≤x by omega),apz];rfl,f0⟩
 ·exact⟨by rw[aoJ (show¬0≤x by omega),ap1];rfl,f0⟩
theorem zL{H:Hp}{n:Int}{s:Value}{g:Nat}(e:Ed)(hg:H.own g=some [i64 n,s])(hs:∃a k c,s= .slice a k c):af Tryz.prog gX [.agg (eE e).toArray,ptr g] H fun v H'=>aw (v= .bool (!lm n e)∧ah H H'):=by
 obtain⟨a,k,c,rfl⟩:=hs
 refine vB mixed (an:=DW) (by conv=>lhs;cbv) (nt:=16) (by kernel_rfl) (by simp) ?_
 have f0:ah H (H.new 61 [i64 e.f,i64 e.t,i64 e.w]):=(ag.refl _ _).new _ _
 have b0:=az H 61 [i64 e.f,i64 e.t,i64 e.w]
 have g0:=f0.own hg (fun h=>h)
 simp(disch:=(first|omega| (simp only[Zs]<;>omega)|fail)) only[go_sem, ↓reduceIte,Zv,eE,ae b0,ae g0]
 generalize H.new 61 [i64 e.f,i64 e.t,i64 e.w]=H0 at*
 refine(oB H0 n e.f _ ⟨a,k,c,rfl⟩).mono ?_
 rintro _ H1 ⟨rfl,f1⟩
 have g1:=f1.own g0 (fun h=>h)
 have b1:=f1.own b0 (fun h=>h)
 refine v2 (ae g1) (ae b1) ?_
 unfold lm
 cases hx:(decide (0≤e.f) && decide (e.f<n))
 ·refine v1 apX ?_
  exact⟨rfl,f0.trans f1⟩
 ·refine v3 aqa (ae g1) (ae b1) ?_
  refine(oB H1 n e.t _ ⟨a,k,c,rfl⟩).mono ?_
  rintro _ H2 ⟨rfl,f2⟩
  refine vs ?_
  exact⟨by rw[apz];rfl,f0.trans (f1.trans f2)⟩
theorem tP{H:Hp}{n:Int}{s:Value}{g:Nat}{a:Option Addr}{c:Nat}{es:List Ed}(h:cO H 3 (.slice a es.length c) es.length (dX es))(hm:es.length≤1000000000)(hg:H.own g=some [i64 n,s])(hs:∃a k c,s= .slice a k c):
  af Tryz.prog gG [.slice a es.length c,.func (.func gX) #[] #[ptr g]] H fun v H'=>aw (∃i:Int,v=i64 i∧(0≤i↔es.all (lm n)=false)∧ah H H'):=by
 refine bv gJ ?_
 refine vs ?_
 refine aX.intro (fun m env H'=>ah H H'∧∃j:Nat,m=es.length - j∧j≤es.length∧(∀e∈es.take j,lm n e=true)∧env=[(0,.slice a es.length c),(1,.func (.func gX) #[] #[ptr g]),(7,i64 es.length),(8,i64 j)]) es.length ⟨ag.refl _ _,0,by omega,by omega,by simp,rfl⟩ ?_
 rintro m env H1 ⟨f1,j,T7,hj,cX,rfl⟩
 have h1:=h.fresh f1
 have g1:=f1.own hg (fun h=>h)
 refine vs ?_
 refine am.dec (fun aO=>?_) (fun aO=>?_)<;>refine vs ?_
 ·have fS:j<es.length:=by omega
  obtain⟨e,he⟩:∃e,es[j]? =some e:=⟨_,aoh fS⟩
  obtain⟨_,b,o,lb,rfl,eW,nT,eG⟩:=cO.DP h1 he
  refine⟨⟨by omega,by omega⟩,?_⟩
  have bK:=aon he
  refine v3 eW Int.toNat_natCast eG ?_
  refine⟨by omega,?_⟩
  refine v1 eG ?_
  refine⟨by kernel_rfl,?_⟩
  refine(zL e g1 hs).mono ?_
  rintro _ H2 ⟨rfl,f2⟩
  refine vs ?_
  cases hx:lm n e
  ·refine v1 apX ?_
   refine⟨j,rfl,⟨fun _=>List.all_eq_false.2 ⟨e,bK,by rw[hx];simp⟩,fun _=>by omega⟩,f1.trans f2⟩
  ·refine v1 aqa ?_
   rw[wrap64 (n:=(j:Int)+1) (by omega) (by omega)]
   refine⟨es.length - (j+1),by omega,f1.trans f2,j+1,rfl,by omega,?_,rfl⟩
   intro e' iG
   rw[aoT,he]at iG
   rcases aou.1 iG with iG|iG
   ·exact cX e' iG
   ·rw[aoq.1 iG];exact hx
 ·refine⟨-1,rfl,?_,f1⟩
  have fS:j=es.length:=by omega
  subst fS
  rw[aoP]at cX
  rw[apn.2 cX]
  simp
theorem o8{H:Hp}{n:Int}{s:Value}{g:Nat}{a:Option Addr}{c:Nat}{es:List Ed}(h:cO H 3 (.slice a es.length c) es.length (dX es))(hm:es.length≤1000000000)(hg:H.own g=some [i64 n,s])(hs:∃a k c,s= .slice a k c):
  af Tryz.prog fG [.slice a es.length c,.func (.func gX) #[] #[ptr g]] H fun v H'=>aw (v= .bool (!es.all (lm n))∧ah H H'):=by
 refine bv fI ?_
 refine vs ?_
 refine(tP h hm hg hs).mono ?_
 rintro _ H1 ⟨i,rfl,hi,f1⟩
 refine vs ?_
 refine⟨aoE Value.bool ?_,f1⟩
 cases hx:es.all (lm n)
 ·rw[hx]at hi
  exact aow (hi.2 rfl)
 ·rw[hx]at hi
  exact aoJ (fun h=>by cases hi.1 h)
theorem qB{H:Hp}{n:Int}{a:Option Addr}{c:Nat}{es:List Ed}(h:cO H 3 (.slice a es.length c) es.length (dX es))(hm:es.length≤1000000000):
  af Tryz.prog Hb [zK n (.slice a es.length c)] H fun v H'=>aw (v=i64 (if ec n es=true then 0 else 201)∧ah H H'):=by
 refine bv Ht ?_
 have f0:ah H (H.new 52 [i64 n,.slice a es.length c]):=(ag.refl _ _).new _ _
 have b0:=az H 52 [i64 n,.slice a es.length c]
 simp(disch:=(first|omega| (simp only[Zs]<;>omega)|fail)) only[go_sem, ↓reduceIte,Zv,zK]
 generalize H.new 52 [i64 n,.slice a es.length c]=H0 at*
 have h0:=h.fresh f0
 have no:¬ (0≤n∧n≤4096∧es.length≤65536)→¬ec n es=true:=fun hn hr=>hn ⟨((fY n es).1 hr).n0,((fY n es).1 hr).n1,((fY n es).1 hr).len⟩
 refine am.dec (fun g1=>?_) (fun g1=>?_)<;>refine v1 (ae b0) ?_
 ·exact⟨by rw[if_neg (no (by omega))];rfl,f0⟩
 refine am.dec (fun g2=>?_) (fun g2=>?_)<;>refine v1 (ae b0) ?_
 ·exact⟨by rw[if_neg (no (by omega))];rfl,f0⟩
 refine am.dec (fun g3=>?_) (fun g3=>?_)<;>refine v1 (ae b0) ?_
 ·exact⟨by rw[if_neg (no (by omega))];rfl,f0⟩
 refine(o8 h0 hm b0 ⟨a,es.length,c,rfl⟩).mono ?_
 rintro _ H1 ⟨rfl,f1⟩
 refine vs ?_
 cases hx:es.all (lm n)
 ·refine v1 apX ?_
  refine⟨?_,f0.trans f1⟩
  rw[if_neg (by unfold ec;rw[hx];simp)]
  rfl
 ·refine v1 aqa ?_
  refine⟨?_,f0.trans f1⟩
  rw[if_pos (by unfold ec;rw[hx];simp;omega)]
  rfl
theorem vL(l:List Int):gK (l.map i64):=fun v hv=>by
 obtain⟨x,_,rfl⟩:=aoC.1 hv
 rfl
theorem Sd(n:Nat):cE [.slice none 0 0] n=List.replicate n (.slice none 0 0):=by
 unfold cE
 induction n with
 |zero=>rfl
 |succ n ih=>rw[aoY,apc,ih,aoY];rfl
structure B4(H:Hp)(B b n:Nat)(xs:Nat→List Int)(fp:Nat→Option Nat):Prop where
 TO:∃cS:List Value,H.own b=some cS∧cS.length=n∧∀i,i<n→∃sv,cS[i]? =some sv∧Sl H 1 sv (xs i).length ((xs i).map i64) (fp i)
 base:B≤b
 low:∀i,i<n→∀p,fp i=some p→B≤p∧p≠b
 apart:∀i j p,i<n→j<n→fp i=some p→fp j=some p→i=j
theorem B4.lt{H:Hp}{B b n:Nat}{xs:Nat→List Int}{fp:Nat→Option Nat}(h:B4 H B b n xs fp):b<H.size:=by
 obtain⟨cS,h1,_⟩:=h.TO
 exact aB h1
theorem B4.ext{H H':Hp}{B b n:Nat}{xs:Nat→List Int}{fp:Nat→Option Nat}{S:Nat→Prop}(h:B4 H B b n xs fp)(e:ag S H H')(hb:¬S b)(hs:∀i p,i<n→fp i=some p→¬S p):B4 H' B b n xs fp:=by
 obtain⟨cS,h1,h2,h3⟩:=h.TO
 refine⟨⟨cS,e.own h1 hb,h2,fun i hi=>?_⟩,h.base,h.low,h.apart⟩
 obtain⟨sv,h4,h5⟩:=h3 i hi
 exact⟨sv,h4,h5.ext e (fun p hp=>hs i p hi hp)⟩
theorem B4.fresh{H H':Hp}{B b n:Nat}{xs:Nat→List Int}{fp:Nat→Option Nat}(h:B4 H B b n xs fp)(e:ah H H'):B4 H' B b n xs fp:=h.ext e (fun h=>h) (fun _ _ _ _ h=>h)
theorem B4.get{H:Hp}{B b n:Nat}{xs:Nat→List Int}{fp:Nat→Option Nat}(h:B4 H B b n xs fp){i:Nat}(hi:i<n):∃cS sv,H.own b=some cS∧cS.length=n∧cS[i]? =some sv∧Sl H 1 sv (xs i).length ((xs i).map i64) (fp i):=by
 obtain⟨cS,h1,h2,h3⟩:=h.TO
 obtain⟨sv,h4,h5⟩:=h3 i hi
 exact⟨cS,sv,h1,h2,h4,h5⟩
theorem B4.new{T B n:Nat}(H:Hp)(hB:B≤H.size){l:List Value}(hl:l=List.replicate n (.slice none 0 0)):B4 (H.new T l) B H.size n (fun _=>[]) (fun _=>none):=by
 refine⟨⟨l,az _ _ _,by rw[hl];simp,fun i hi=>⟨.slice none 0 0,by rw[hl,apC,if_pos hi],Sl.nil _ _⟩⟩,hB,fun i hi p hp=>(by cases hp),fun i j p _ _ hp=>(by cases hp)⟩
def Ie(xs:Nat→List Int)(i:Nat)(l:List Int):Nat→List Int:=fun k=>if k=i then l else xs k
def Qe(fp:Nat→Option Nat)(i:Nat)(o:Option Nat):Nat→Option Nat:=fun k=>if k=i then o else fp k
theorem B4.put{H H':Hp}{B b n:Nat}{xs:Nat→List Int}{fp:Nat→Option Nat}(h:B4 H B b n xs fp){i:Nat}(hi:i<n){l:List Int}{sv:Value}{o:Option Nat}(e:ag (fun z=>fp i=some z) H H')(s:Sl H' 1 sv l.length (l.map i64) o)
  (ho:o=fp i∨∃p,o=some p∧H.size≤p∧p<H'.size){cS:List Value}(yg:H.own b=some cS):H'.own b=some cS∧B4 (H'.wr b (cS.set i sv)) B b n (Ie xs i l) (Qe fp i o):=by
 obtain⟨NJ,h1,h2,h3⟩:=h.TO
 rw[yg]at h1
 injection h1 with h1
 subst h1
 have hbS:¬fp i=some b:=fun hh=>(h.low i hi b hh).2 rfl
 have Qf:=e.own yg hbS
 have hb:=aB yg
 have hob:∀p,o=some p→p≠b:=fun p hp=>by
  rcases ho with ho| ⟨q,hq,QS,_⟩
  ·rw[ho]at hp;exact(h.low i hi p hp).2
  ·rw[hp]at hq;injection hq with hq;omega
 refine⟨Qf,⟨_,ai Qf,by simpa using h2,fun k hk=>?_⟩,h.base,fun k hk p hp=>?_,fun k k' p hk Lc hp O3=>?_⟩
 ·have ew:ag (fun z=>z=b) H' (H'.wr b (cS.set i sv)):=(ag.refl (fun z=>z=b) _).wr (fun _=>rfl) _
  unfold Ie Qe
  by_cases HB:k=i
  ·subst HB
   refine⟨sv,by rw[aop (by omega)],?_⟩
   rw[if_pos rfl,if_pos rfl]
   exact s.ext ew (fun p hp=>hob p hp)
  ·obtain⟨VA,h4,h5⟩:=h3 k hk
   refine⟨VA,by rw[aoo (Ne.symm HB)];exact h4,?_⟩
   rw[if_neg HB,if_neg HB]
   exact(h5.ext e (fun p hp O3=>HB (h.apart k i p hk hi hp O3))).ext ew (fun p hp=>(h.low k hk p hp).2)
 ·unfold Qe at hp
  by_cases HB:k=i
  ·rw[if_pos HB]at hp
   refine⟨?_,hob p hp⟩
   rcases ho with ho| ⟨q,hq,QS,_⟩
   ·rw[ho]at hp;exact(h.low i hi p hp).1
   ·rw[hp]at hq;injection hq with hq;have:=h.base;omega
  ·rw[if_neg HB]at hp;exact h.low k hk p hp
 ·have lt:∀j p,j<n→fp j=some p→p<H.size:=fun j p hj hp=>by
   obtain⟨_,_,h5⟩:=h3 j hj
   rw[hp]at h5
   exact Sl.lt h5
  unfold Qe at hp O3
  by_cases HB:k=i<;>by_cases Xj:k'=i
  ·omega
  ·rw[if_pos HB]at hp
   rw[if_neg Xj]at O3
   rcases ho with ho| ⟨q,hq,QS,_⟩
   ·rw[ho]at hp;have:=h.apart i k' p hi Lc hp O3;omega
   ·rw[hp]at hq;injection hq with hq;have:=lt k' p Lc O3;omega
  ·rw[if_neg HB]at hp
   rw[if_pos Xj]at O3
   rcases ho with ho| ⟨q,hq,QS,_⟩
   ·rw[ho]at O3;have:=h.apart k i p hk hi hp O3;omega
   ·rw[O3]at hq;injection hq with hq;have:=lt k p hk hp;omega
  ·rw[if_neg HB]at hp
   rw[if_neg Xj]at O3
   exact h.apart k k' p hk Lc hp O3
theorem B4.sY{H H':Hp}{B b n:Nat}{xs:Nat→List Int}{fp:Nat→Option Nat}(h:B4 H B b n xs fp){i:Nat}(hi:i<n){l:List Int}{sv:Value}{cS:List Value}(yg:H.own b=some cS)(my:cS[i]? =some sv)(e:ag (fun z=>fp i=some z) H H')(s:Sl H' 1 sv l.length (l.map i64) (fp i)):
  B4 H' B b n (Ie xs i l) fp:=by
 obtain⟨NJ,h1,h2,h3⟩:=h.TO
 rw[yg]at h1
 injection h1 with h1
 subst h1
 have hbS:¬fp i=some b:=fun hh=>(h.low i hi b hh).2 rfl
 refine⟨⟨cS,e.own yg hbS,h2,fun k hk=>?_⟩,h.base,h.low,h.apart⟩
 unfold Ie
 by_cases HB:k=i
 ·subst HB
  exact⟨sv,my,by rw[if_pos rfl];exact s⟩
 ·obtain⟨VA,h4,h5⟩:=h3 k hk
  exact⟨VA,h4,by rw[if_neg HB];exact h5.ext e (fun p hp O3=>HB (h.apart k i p hk hi hp O3))⟩
def qL(v:Nat)(e:Ed):Bool:=decide (e.f=(v:Int))
theorem Se{q:Nat→Ed→Bool}{es:List Ed}{j k:Nat}{e:Ed}(he:es[j]? =some e)(hq:∀v,q v e=decide (v=k)):
  Ie (fun v=>bi (q v) 0 (es.take j)) k (bi (q k) 0 (es.take j)++[(j:Int)])=fun v=>bi (q v) 0 (es.take (j+1)):=by
 funext v
 unfold Ie
 rw[B8 _ he,hq]
 by_cases h:v=k
 ·subst h;simp
 ·simp[h]
theorem zM{H:Hp}{n:Int}{a:Option Addr}{c:Nat}{es:List Ed}(h:cO H 3 (.slice a es.length c) es.length (dX es))(hm:es.length≤1000000000):
  af Tryz.prog DS [zK n (.slice a es.length c)] H fun v H'=>aw (ah H H'∧((ec n es=false∧v= .slice none 0 0)∨
   (ec n es=true∧∃b fp,v= .slice (some ⟨b,0,none⟩) n.toNat n.toNat∧B4 H' H.size b n.toNat (fun v=>bi (qL v) 0 es) fp))):=by
 refine Fa DX ⟨rfl,?_⟩
 have f0:ah H (H.new 52 [i64 n,.slice a es.length c]):=(ag.refl _ _).new _ _
 have b0:=az H 52 [i64 n,.slice a es.length c]
 simp(disch:=(first|omega| (simp only[Zs]<;>omega)|fail)) only[go_sem, ↓reduceIte,Zv,sN,zK]
 generalize H.new 52 [i64 n,.slice a es.length c]=H0 at*
 have h0:=h.fresh f0
 refine(qB (n:=n) h0 hm).mono ?_
 rintro _ Hr ⟨rfl,fr⟩
 have br:=fr.own b0 (fun h=>h)
 by_cases hR:ec n es=true
 rotate_left
 ·rw[if_neg hR]
  refine vs ?_
  exact⟨f0.trans fr,.inl ⟨by simpa using hR,rfl⟩⟩
 rw[if_pos hR]
 have Wt:=h0.fresh fr
 have f02:=f0.trans fr
 obtain⟨Ln,vW,Vm,Sf⟩:=(fY n es).1 hR
 refine vs ?_
 refine am.cQ (by simp) ?_
 refine v1 (ae br) ?_
 refine⟨⟨by omega,by omega,by omega,by omega⟩,?_⟩
 have Vn:=B4.new (T:=24) (B:=H.size) (n:=n.toNat) Hr f02.size (Sd n.toNat)
 have fo:ah Hr (Hr.new 24 (cE [.slice none 0 0] n.toNat)):=(ag.refl _ _).new _ _
 have b1:=fo.own br (fun h=>h)
 have Ia:=Wt.fresh fo
 have Ly:(Hr.new 24 (cE [.slice none 0 0] n.toNat)).size=Hr.size+1:=by rw[ap]
 generalize Hr.new 24 (cE [.slice none 0 0] n.toNat)=H1 at*
 have hbz:=aB br
 refine v1 (ae b1) ?_
 refine aX.intro (fun m env H'=>ah H H'∧∃ (j:Nat) (fp:Nat→Option Nat),m=es.length - j∧j≤es.length∧B4 H' H.size Hr.size n.toNat (fun v=>bi (qL v) 0 (es.take j)) fp∧
  env=[(3,.slice (some ⟨Hr.size,0,none⟩) n.toNat n.toNat),(13,.slice a es.length c),(14,i64 es.length),(15,i64 j)]) es.length ⟨f02.trans fo,0,_,by omega,by omega,Vn,rfl⟩ ?_
 rintro m env H2 ⟨f2,j,fp,T7,hj,IK,rfl⟩
 have h2:=h.fresh f2
 refine vs ?_
 refine am.dec (fun aO=>?_) (fun aO=>?_)<;>refine vs ?_
 ·have fS:j<es.length:=by omega
  obtain⟨e,he⟩:∃e,es[j]? =some e:=⟨_,aoh fS⟩
  obtain⟨_,b,o,lb,rfl,eW,nT,eG⟩:=cO.DP h2 he
  refine⟨⟨by omega,by omega⟩,?_⟩
  have bK:=aon he
  obtain⟨ef0,ef1,et0,et1⟩:=Sf e bK
  simp(disch:=(first|omega| (simp only[Zs]<;>omega)|fail)) only[go_sem, ↓reduceIte,Zv,eW,Int.toNat_natCast,eG,eE]
  refine⟨by omega,?_⟩
  have q2:=az H2 61 [i64 0,i64 0,i64 0]
  simp(disch:=(first|omega| (simp only[Zs]<;>omega)|fail)) only[go_sem, ↓reduceIte,Zv,eG,eE,q2]
  have q3:=ai (l:=[i64 e.f,i64 e.t,i64 e.w]) q2
  have f3:ah H2 ((H2.new 61 [i64 0,i64 0,i64 0]).wr H2.size [i64 e.f,i64 e.t,i64 e.w]):=((ag.refl _ _).new _ _:ah H2 _).then ((ag.refl (fun z=>z=H2.size) _).wr (fun _=>rfl) _) (fun z hz=>by omega)
  have MH:((H2.new 61 [i64 0,i64 0,i64 0]).wr H2.size [i64 e.f,i64 e.t,i64 e.w]).size=H2.size+1:=by rw[eo,ap]
  have hol:=IK.lt
  generalize (H2.new 61 [i64 0,i64 0,i64 0]).wr H2.size [i64 e.f,i64 e.t,i64 e.w]=H3 at*
  have LP:=IK.fresh f3
  have Un:e.f.toNat<n.toNat:=by omega
  obtain⟨cS,sv,MI,z7,yg,BB⟩:=LP.get Un
  have Zp:=pK (qL e.f.toNat) (es.take j) 0
  rw[aoX]at Zp
  have f13:ah H H3:=f2.trans f3
  have hq:∀v,qL v e=decide (v=e.f.toNat):=fun v=>by unfold qL;rw[decide_eq_decide];omega
  have fin:∀ (H4:Hp) (v':Value) (H5:Hp) (cP:Option Nat),ah H3 H4→Sl H5 1 v' ((bi (qL e.f.toNat) 0 (es.take j)).length+1) ((bi (qL e.f.toNat) 0 (es.take j)).map i64++[i64 j]) cP→ag (fun z=>fp e.f.toNat=some z) H4 H5→
    (cP=fp e.f.toNat∨∃p,cP=some p∧H4.size≤p∧p<H5.size)→
    H5.own Hr.size=some cS∧H5.own H2.size=some [i64 e.f,i64 e.t,i64 e.w]∧(H5.wr Hr.size (cS.set e.f.toNat v')).own H2.size=some [i64 e.f,i64 e.t,i64 e.w]∧ah H (H5.wr Hr.size (cS.set e.f.toNat v'))∧
    B4 (H5.wr Hr.size (cS.set e.f.toNat v')) H.size Hr.size n.toNat (fun v=>bi (qL v) 0 (es.take (j+1))) (Qe fp e.f.toNat cP):=by
   intro H4 v' H5 cP f4 s5 e5 ir
   have VF:=LP.fresh f4
   have PJ:=LP.low e.f.toNat Un
   have Xk:∀z,fp e.f.toNat=some z→z<H2.size:=fun z hz=>by
    obtain⟨_,_,_,_,_,s0⟩:=IK.get Un
    rw[hz]at s0
    exact Sl.lt s0
   have ho4:=f4.own MI (fun h=>h)
   have q4:=f4.own q3 (fun h=>h)
   have q5:H5.own H2.size=some [i64 e.f,i64 e.t,i64 e.w]:=e5.own q4 (fun hh=>by have:=Xk _ hh;omega)
   obtain⟨k1,k2⟩:=VF.put Un (l:=bi (qL e.f.toNat) 0 (es.take j)++[(j:Int)]) e5 (by rw[aor,aoN];exact s5) ir ho4
   rw[Se he hq]at k2
   refine⟨k1,q5,by rw[j0 (by omega)];exact q5,?_,k2⟩
   exact((f13.trans f4).then e5 (fun z hz=>(PJ z hz).1)).then ((ag.refl (fun z=>z=Hr.size) _).wr (fun _=>rfl) _) (fun z hz=>by have:=f02.size;omega)
  refine jB.intro (fun H'=>H'.own H2.size=some [i64 e.f,i64 e.t,i64 e.w]) q3 ?_
  refine vs ?_
  refine fJ.intro (i64 e.f) (fun H' hI=>by refine v1 (ae hI) ?_;exact⟨trivial,trivial⟩) ?_
  refine vs ?_
  refine fJ.intro (i64 e.f) (fun H' hI=>by refine v1 (ae hI) ?_;exact⟨trivial,trivial⟩) ?_
  refine vs ?_
  refine⟨⟨by omega,by omega⟩,?_⟩
  refine vs ?_
  have fl:ah H3 (H3.new 3 [i64 j]):=(ag.refl _ _).new _ _
  have ql:=fl.own q3 (fun h=>h)
  have Xl:=fl.own MI (fun h=>h)
  obtain⟨ra,rc,rfl,hrc⟩:=cJ BB
  refine EN.intro ?_ ?_
  ·refine v4 (ae MI) aol aoi yg ?_
   refine And.intro q3 ?_
   refine vs ?_
   refine And.intro (by first|exact ql|exact q3) ?_
   refine vs ?_
   refine Sl.append (BB.ext fl (fun _ _ h=>h)) (Sl.bU (size:=1) (n:=1) (xs:=[i64 j]) rfl rfl).rd rfl (vL [(j:Int)]) (by omega) ?_
   intro v' H5 cP s5 e5 fZ
   obtain⟨k1,k2,k3,k4,k5⟩:=fin _ v' H5 cP fl s5 e5 fZ
   obtain⟨va,VG,rfl,_⟩:=cJ s5
   refine And.intro k2 ?_
   refine vs ?_
   refine⟨⟨by omega,by omega⟩,?_⟩
   refine v3 k1 aol aoi ?_
   refine⟨by omega,?_⟩
   refine vs ?_
   refine And.intro (by first|exact k3|exact k2) ?_
   refine vs ?_
   rw[wrap64 (n:=(j:Int)+1) (by omega) (by omega)]
   exact⟨es.length - (j+1),by omega,k4,j+1,_,rfl,by omega,k5,rfl⟩
  ·refine vs ?_
   refine And.intro (by first|exact ql|exact q3) ?_
   refine v4 (ae Xl) aol aoi yg ?_
   refine And.intro (by first|exact ql|exact q3) ?_
   refine vs ?_
   refine Sl.append (BB.ext fl (fun _ _ h=>h)) (Sl.bU (size:=1) (n:=1) (xs:=[i64 j]) rfl rfl).rd rfl (vL [(j:Int)]) (by omega) ?_
   intro v' H5 cP s5 e5 fZ
   obtain⟨k1,k2,k3,k4,k5⟩:=fin _ v' H5 cP fl s5 e5 fZ
   obtain⟨va,VG,rfl,_⟩:=cJ s5
   refine And.intro k2 ?_
   refine vs ?_
   refine⟨⟨by omega,by omega⟩,?_⟩
   refine v3 k1 aol aoi ?_
   refine⟨by omega,?_⟩
   refine vs ?_
   refine And.intro (by first|exact k3|exact k2) ?_
   refine vs ?_
   rw[wrap64 (n:=(j:Int)+1) (by omega) (by omega)]
   exact⟨es.length - (j+1),by omega,k4,j+1,_,rfl,by omega,k5,rfl⟩
 ·have fS:j=es.length:=by omega
  subst fS
  rw[aoP]at IK
  exact⟨f2,.inr ⟨hR,Hr.size,fp,rfl,IK⟩⟩
def qT(v:Nat)(e:Ed):Bool:=decide (e.f=(v:Int)) || decide (e.t=(v:Int))
theorem nP{α:Type}(p:α→Bool):∀ {l:List α} {i:Nat} {y:α} (h:l[i]? =some y) (v:α),(l.set i v).countP p+(p y).toNat=l.countP p+(p v).toNat:=by
 intro l
 induction l with
 |nil=>intro i y h;simp at h
 |cons a r ih=>
  intro i y h v
  cases i with
  |zero=>
   simp at h
   subst h
   rw[apH,apu,apu]
   cases p a<;>cases p v<;>simp
  |succ i=>
   have:=ih (i:=i) (by simpa using h) v
   rw[ao1,apu,apu]
   omega
theorem Sg{α β:Type}:∀ {L:List (α×β)},(L.map (·.1)).Nodup→∀ {a:α} {b c:β},(a,b)∈L→(a,c)∈L→b=c:=by
 intro L
 induction L with
 |nil=>intro _ a b c h;cases h
 |cons p L ih=>
  intro hd a b c h1 h2
  rw[ao6,aoB]at hd
  rcases aot.1 h1 with h1|h1
  ·rcases aot.1 h2 with h2|h2
   ·have:=h1.trans h2.symm
    injection this
   ·exact absurd (aoC.2 ⟨_,h2,by rw[←h1]⟩) hd.1
  ·rcases aot.1 h2 with h2|h2
   ·exact absurd (aoC.2 ⟨_,h1,by rw[←h2]⟩) hd.1
   ·exact ih hd.2 h1 h2
theorem dM{α:Type}{l:List α}{i j:Nat}{v:α}(h:i≠j):(l.set i v)[j]? =l[j]? :=aoo h
theorem j9{α:Type}{l:List α}{i:Nat}{v x:α}(h:l[i]? =some x):(l.set i v)[i]? =some v:=aop (aoj.1 h).1
theorem getD_set_ne{α:Type}{l:List α}{i j:Nat}{v d:α}(h:i≠j):(l.set i v).getD j d=l.getD j d:=by rw[aom,aom,dM h]
structure xF(es:List Ed)(n:Nat)(w:Nw)(A:Ar)(L:List ((Int×Nat)×Value))(sl:List Nat)(bl:List Int)(hl:List (Int×Nat)):Prop where
 hs:w.has 1
 len:A.g.length=n
 mo:A.mo=1
 wt:A.wt=[]
 nx:A.nx=L.length
 gn:∀x:Int,0≤x→A.bC x=if x<A.nx then 1 else 0
 lk:RQ w A
 ok:xw A
 l1:sl.length=n
 l2:bl.length=n
 l3:hl.length=n
 two:∀x∈sl,x≤2
 c1:∀ (x:Int) y,0≤x→w.cs[x.toNat]? =some y→y.1=0∨(y.1=1∧∃v:Nat,sl[v]? =some 1∧hl[v]? =some (x,A.bC x)∧y.2.1=wE es (bl.getD v 0)∧((x,A.bC x),i64 v)∈L)
 c2:∀v:Nat,sl[v]? =some 1→∃x s,0≤x∧hl[v]? =some (x,A.bC x)∧w.cs[x.toNat]? =some (1,wE es (bl.getD v 0),s)∧((x,A.bC x),i64 v)∈L
 ls:∀p∈L,0≤p.1.1∧p.1.2≤A.bC p.1.1
 nd:(L.map (·.1)).Nodup
 le:L.length≤sl.countP (fun x=>decide (x≠0))
 cn:A.ct=sl.countP (fun x=>decide (x=1))
section
variable {es : List Ed} {n : Nat} {w : Nw} {A A' : Ar} {L : List ((Int × Nat) × Value)} {sl : List Nat} {bl : List Int} {hl : List (Int × Nat)}
theorem xF.aS(h:xF es n w A L sl bl hl):L.length≤n:=by
 have:=h.le
 have:=aqi (p:=fun x:Nat=>decide (x≠0)) (l:=sl)
 have:=h.l1
 omega
theorem xF.Xm(h:xF es n w A L sl bl hl){x:Int}(x0:0≤x):A.bC x≤1:=by
 rw[h.gn x x0]
 split<;>omega
theorem xF.zero(es:List Ed)(n:Nat){bl:List Int}{hl:List (Int×Nat)}(h2:bl.length=n)(h3:hl.length=n):xF es n (zE (n:Int)).make (Qb (n:Int) 1) [] (List.replicate n 0) bl hl:=by
 have hgz:∀x:Int,(Qb (n:Int) 1).bC x=0:=by
  intro x
  unfold Ar.bC Qb
  simp only[aom,Int.toNat_natCast,apC]
  split<;>rfl
 have hlz:∀x,¬ (Qb (n:Int) 1).live x:=by
  rintro x ⟨_,hx⟩
  unfold Qb at hx
  simp only[Int.toNat_natCast,apC]at hx
  split at hx<;>simp at hx
 have hiz:∀x,¬cY (zE (n:Int)).make.cs x:=fun x hx=>lh (n:Int) x (bz.2 hx)
 have h0:∀v:Nat,(List.replicate n 0)[v]? ≠some 1:=fun v hv=>by
  have:=apv (aon hv)
  omega
 refine⟨⟨by omega,rfl⟩,by simp[Qb],rfl,rfl,rfl,fun x x0=>?_,⟨by simp[zE,Qb,Nw.make],fun x=>⟨fun h=>absurd h (hiz x),fun h=>absurd h (hlz x)⟩⟩,⟨fun x hx=>(by cases hx),aps,fun x _=>hlz x,?_,ap2 _⟩,ao3,h2,h3,fun x hx=>by rw[apv hx];omega,fun x y x0 hy=>?_,fun v hv=>absurd hv (h0 v),fun p hp=>(by cases hp),aps,ap2 _,?_⟩
 ·rw[hgz,if_neg (by show¬x< ((0:Nat):Int);omega)]
 ·show(0:Int)=((List.replicate (n:Int).toNat ((0:Nat),false)).countP (·.2):Nat)
  rw[apM.2]
  ·rfl
  ·intro a ha
   rw[apv ha]
   simp
 ·have hy:(List.replicate (n:Int).toNat ((0,0,0):Ce))[x.toNat]? =some y:=hy
  exact .inl (by rw[apv (aon hy)])
 ·rw[apM.2]
  ·rfl
  ·intro a ha
   rw[apv ha]
   simp
theorem xF.root(h:xF es n w A L sl bl hl){r:Nat}(hr:sl[r]? =some 0):xF es n w A L (sl.set r 2) bl hl:=by
 have k1:=nP (fun x:Nat=>decide (x≠0)) hr 2
 have k2:=nP (fun x:Nat=>decide (x=1)) hr 2
 simp at k1 k2
 have ne:∀v:Nat,sl[v]? =some 1→r≠v:=fun v hv e=>by rw[←e,hr]at hv;cases hv
 refine⟨h.hs,h.len,h.mo,h.wt,h.nx,h.gn,h.lk,h.ok,by rw[aok];exact h.l1,h.l2,h.l3,fun x hx=>?_,fun x y x0 hy=>?_,fun v hv=>?_,h.ls,h.nd,?_,?_⟩
 ·rcases aph hx with hx|hx
  ·exact h.two x hx
  ·omega
 ·rcases h.c1 x y x0 hy with g| ⟨g1,v,g2,g3⟩
  ·exact .inl g
  ·exact .inr ⟨g1,v,by rw[dM (ne v g2)];exact g2,g3⟩
 ·by_cases e:r=v
  ·subst e
   rw[j9 hr]at hv
   cases hv
  ·rw[dM e]at hv
   exact h.c2 v hv
 ·have:=h.le
  simp only[ne_eq,decide_not]at this ⊢
  omega
 ·have:=h.cn
  omega
theorem xF.take(h:xF es n w A L sl bl hl){x:Int}{y:Ce}(hf:w.first 1 x)(hy:w.cs[x.toNat]? =some y):
  ∃v:Nat,sl[v]? =some 1∧((x,A.bC x),i64 v)∈L∧(∀u:Nat,sl[u]? =some 1→wE es (bl.getD v 0)≤wE es (bl.getD u 0))∧xF es n (w.put x (0,0,0)) (A.back x) L (sl.set v 2) bl hl:=by
 obtain⟨_,f2,f3⟩:=bM.1 hf
 obtain⟨x0,x1,_⟩:=aF (w:=w) (x:=x) (by omega)
 have MQ:=j7 x0 hy
 rw[f2]at MQ
 have aZ:w.cs.length=n:=by rw[h.lk.len];exact h.len
 have hx:0≤x∧x<n:=by omega
 rcases h.c1 x y x0 hy with h0| ⟨_,v,g2,g3,g4,g5⟩
 ·omega
 have Zo:0≤x∧x<A.g.length:=by rw[h.len];exact hx
 have hg:∀z:Int,0≤z→(A.back x).bC z=A.bC z:=by
  intro z hz
  rw[Ar.EO (A:=A) (A':=A.back x) Zo rfl hz]
  split
  ·rename_i e;rw[e]
  ·rfl
 have jT:A.live x:=(h.lk.live x).1 ⟨x0,_,hy,by omega⟩
 have PW:A.bC x=1:=by
  rw[h.gn x x0,if_pos]
  apply aoI
  intro hc
  exact h.ok.fr x (by omega) jT
 have hwb:(A.back x).wt=[]:=by
  show(if A.bC x<A.mo then A.wt++[x]else A.wt)=[]
  rw[PW,h.mo,if_neg (by omega)]
  exact h.wt
 have k1:=nP (fun x:Nat=>decide (x≠0)) g2 2
 have k2:=nP (fun x:Nat=>decide (x=1)) g2 2
 simp at k1 k2
 refine⟨v,g2,g5,fun u hu=>?_,h.hs,by show(A.g.set _ _).length=n;rw[aok];exact h.len,h.mo,hwb,h.nx,fun z hz=>by rw[hg z hz];exact h.gn z hz,h.lk.put Zo (v:=A.bC x) rfl,h.ok.back jT,by rw[aok];exact h.l1,h.l2,h.l3,fun z hz=>?_,fun z c z0 hc=>?_,fun u hu=>?_,fun p hp=>by have:=h.ls p hp;exact⟨this.1,by rw[hg _ this.1];exact this.2⟩,h.nd,?_,?_⟩
 ·obtain⟨z,s,z0,q1,q2,q3⟩:=h.c2 u hu
  by_cases e:z=x
  ·rw[e,hy]at q2
   injection q2 with q2
   rw[q2]at g4
   rw[←g4]
   exact apI _
  ·have aO:=f3 z (j7 z0 q2) e
   unfold aQ at aO
   have k1:w.key x=y.2.1:=by
    unfold Nw.key
    simp only[aom,hy]
    rfl
   have k2:w.key z=wE es (bl.getD u 0):=by
    unfold Nw.key
    simp only[aom,q2]
    rfl
   rw[k1,k2,g4]at aO
   simp only[aoL]at aO
   omega
 ·rcases aph hz with hz|hz
  ·exact h.two z hz
  ·omega
 ·have hc:(w.cs.set x.toNat (0,0,0))[z.toNat]? =some c:=hc
  by_cases e:z=x
  ·subst e
   rw[j9 hy]at hc
   injection hc with hc
   exact .inl (by rw[←hc])
  ·rw[dM (by omega)]at hc
   rcases h.c1 z c z0 hc with h0| ⟨q1,v',q2,q3,q4,q5⟩
   ·exact .inl h0
   ·refine .inr ⟨q1,v',?_,by rw[hg z z0];exact q3,q4,by rw[hg z z0];exact q5⟩
    rw[dM ?_]
    ·exact q2
    ·intro e2
     rw[←e2,g3]at q3
     injection q3 with q3
     injection q3 with q3
     exact e q3.symm
 ·by_cases e:v=u
  ·subst e
   rw[j9 g2]at hu
   cases hu
  ·rw[dM e]at hu
   obtain⟨z,s,z0,q1,q2,q3⟩:=h.c2 u hu
   refine⟨z,s,z0,by rw[hg z z0];exact q1,?_,by rw[hg z z0];exact q3⟩
   show(w.cs.set x.toNat (0,0,0))[z.toNat]? =_
   rw[dM ?_]
   ·exact q2
   ·intro e2
    have e3:z=x:=by omega
    rw[e3]at q3
    have:=Sg h.nd g5 q3
    injection this with _ this
    omega
 ·have:=h.le
  simp only[ne_eq,decide_not]at this ⊢
  omega
 ·show A.ct - 1=_
  have:=h.cn
  omega
theorem xF.put(h:xF es n w A L sl bl hl){x:Int}(hp:A.pick=some (x,A')){u:Nat}(hu:sl[u]? =some 0)(i:Int)(s:Int):
  (x,A.bC x+1)∉L.map (·.1)∧xF es n (w.put x (1,wE es i,s)) (A'.out x) (L++[((x,A.bC x+1),i64 u)]) (sl.set u 1) (bl.set u i) (hl.set u (x,A.bC x+1)):=by
 obtain⟨hx,mF,Vw,Du,QX,hct,Vy⟩:=Ar.vH hp h.ok
 have Tq:u<n:=by have:=(aoj.1 hu).1;rw[h.l1]at this;exact this
 have aZ:w.cs.length=n:=by rw[h.lk.len];exact h.len
 have hAn:=h.len
 have dH:x=A.nx∧A'.nx=A.nx+1∧A'.wt=[]:=by
  unfold Ar.pick at hp
  rw[if_neg (by rw[h.wt];simp)]at hp
  split at hp
  ·cases hp
  ·injection hp with hp
   injection hp with B0 qK
   exact⟨B0.symm,by rw[←qK],by rw[←qK];exact h.wt⟩
 have GU:0≤x∧x<A'.g.length:=by rw[QX];exact hx
 have PW:∀z,A'.bC z=A.bC z:=fun z=>by unfold Ar.bC;rw[QX]
 have hg:∀z:Int,0≤z→(A'.out x).bC z=if z=x then A.bC x+1 else A.bC z:=by
  intro z hz
  rw[Ar.EO (A:=A') (A':=A'.out x) GU rfl hz]
  rw[PW,PW]
 have Tt:∀z,A'.live z↔A.live z:=fun z=>by unfold Ar.live;rw[QX]
 have Uf:¬cY w.cs x:=fun hi=>mF ((h.lk.live x).1 hi)
 have sd:(x,A.bC x+1)∉L.map (·.1):=fun hm=>by
  obtain⟨p,B0,qK⟩:=aoC.1 hm
  have:=(h.ls p B0).2
  rw[qK]at this
  simp only at this
  omega
 have k1:=nP (fun x:Nat=>decide (x≠0)) hu 1
 have k2:=nP (fun x:Nat=>decide (x=1)) hu 1
 simp at k1 k2
 have ne:∀v:Nat,sl[v]? =some 1→u≠v:=fun v hv e=>by rw[←e,hu]at hv;cases hv
 refine⟨sd,h.hs,by show(A'.g.set _ _).length=n;rw[aok,QX];exact hAn,by show A'.mo=1;rw[Vy];exact h.mo,dH.2.2,by show A'.nx=_;rw[dH.2.1,h.nx,aor];rfl,fun z hz=>?_,h.lk.put hx (v:=A.bC x+1) ?_,?_,by rw[aok];exact h.l1,by rw[aok];exact h.l2,by rw[aok];exact h.l3,fun z hz=>?_,fun z c z0 hc=>?_,fun v hv=>?_,fun p hp=>?_,?_,?_,?_⟩
 ·rw[hg z hz,h.gn z hz,h.gn x hx.1]
  show _=if z< ((A'.nx:Nat):Int)then 1 else 0
  have h1:=dH.1
  have h2:=dH.2.1
  split<;>split<;>(try split)<;>omega
 ·show A'.g.set x.toNat (A'.bC x+1,true)=_
  rw[PW,QX]
  rfl
 ·exact xw.out (A:=A) (IN hp h.ok) QX GU (fun hl=>mF ((Tt x).1 hl)) Vw Du
 ·rcases aph hz with hz|hz
  ·exact h.two z hz
  ·omega
 ·have hc:(w.cs.set x.toNat (1,wE es i,s))[z.toNat]? =some c:=hc
  by_cases e:z=x
  ·subst e
   rw[aop (by omega)]at hc
   injection hc with hc
   subst hc
   have e1:(A'.out z).bC z=A.bC z+1:=by rw[hg z z0,if_pos rfl]
   refine .inr ⟨rfl,u,j9 hu,?_,?_,?_⟩
   ·rw[e1]
    exact aop (by rw[h.l3];exact Tq)
   ·rw[aom,aop (by rw[h.l2];exact Tq)]
    rfl
   ·rw[e1]
    simp
  ·rw[dM (by omega)]at hc
   rcases h.c1 z c z0 hc with h0| ⟨q1,v',q2,q3,q4,q5⟩
   ·exact .inl h0
   ·have e1:(A'.out x).bC z=A.bC z:=by rw[hg z z0,if_neg e]
    have nev:=ne v' q2
    exact .inr ⟨q1,v',by rw[dM nev];exact q2,by rw[dM nev,e1];exact q3,by rw[getD_set_ne nev];exact q4,by rw[e1];exact aoy _ q5⟩
 ·by_cases e:u=v
  ·subst e
   have e1:(A'.out x).bC x=A.bC x+1:=by rw[hg x hx.1,if_pos rfl]
   refine⟨x,s,hx.1,?_,?_,?_⟩
   ·rw[e1]
    exact aop (by rw[h.l3];exact Tq)
   ·show(w.cs.set x.toNat (1,wE es i,s))[x.toNat]? =_
    rw[aop (by omega),aom,aop (by rw[h.l2];exact Tq)]
    rfl
   ·rw[e1]
    simp
  ·rw[dM e]at hv
   obtain⟨z,s',z0,q1,q2,q3⟩:=h.c2 v hv
   have ezx:z≠x:=fun e2=>by
    rw[e2]at q2
    exact Uf ⟨hx.1,_,q2,by simp⟩
   have e1:(A'.out x).bC z=A.bC z:=by rw[hg z z0,if_neg ezx]
   refine⟨z,s',z0,by rw[dM e,e1];exact q1,?_,by rw[e1];exact aoy _ q3⟩
   show(w.cs.set x.toNat (1,wE es i,s))[z.toNat]? =_
   rw[dM (by omega),getD_set_ne e]
   exact q2
 ·rcases aou.1 hp with hp|hp
  ·have:=h.ls p hp
   refine⟨this.1,?_⟩
   rw[hg _ this.1]
   split
   ·rename_i e;rw[e]at this;omega
   ·exact this.2
  ·rw[aoq]at hp
   subst hp
   exact⟨hx.1,by rw[hg _ hx.1,if_pos rfl];exact aov _⟩
 ·rw[aoN,apG,ao2]
  refine⟨h.nd,by simp,fun a ha b hb e=>?_⟩
  rw[aoq]at hb
  rw[e,hb]at ha
  exact sd ha
 ·have:=h.le
  rw[aor]
  simp only[ne_eq,decide_not,aoA]at this ⊢
  omega
 ·show A'.ct+1=_
  rw[hct]
  have:=h.cn
  omega
theorem xF.lower(h:xF es n w A L sl bl hl){u:Nat}(hu:sl[u]? =some 1){x:Int}(x0:0≤x)(hh:hl[u]? =some (x,A.bC x)){y:Ce}(hy:w.cs[x.toNat]? =some y)(i:Int):
  xF es n (w.put x (y.1,wE es i,y.2.2)) A L sl (bl.set u i) hl:=by
 have Tq:u<n:=by have:=(aoj.1 hu).1;rw[h.l1]at this;exact this
 obtain⟨x',s,x0',q1,q2,q3⟩:=h.c2 u hu
 have hxx:x'=x:=by
  rw[hh]at q1
  injection q1 with q1
  injection q1 with q1
  exact q1.symm
 subst hxx
 rw[q2]at hy
 injection hy with hy
 subst hy
 have jT:A.live x':=(h.lk.live x').1 ⟨x0,_,q2,by simp⟩
 refine⟨h.hs,h.len,h.mo,h.wt,h.nx,h.gn,h.lk.key jT q2,h.ok,h.l1,by rw[aok];exact h.l2,h.l3,h.two,fun z c z0 hc=>?_,fun v hv=>?_,h.ls,h.nd,h.le,h.cn⟩
 ·have hc:(w.cs.set x'.toNat (1,wE es i,s))[z.toNat]? =some c:=hc
  by_cases e:z=x'
  ·subst e
   rw[j9 q2]at hc
   injection hc with hc
   subst hc
   refine .inr ⟨rfl,u,hu,hh,?_,q3⟩
   rw[aom,aop (by rw[h.l2];exact Tq)]
   rfl
  ·rw[dM (by omega)]at hc
   rcases h.c1 z c z0 hc with h0| ⟨g1,v',g2,g3,g4,g5⟩
   ·exact .inl h0
   ·refine .inr ⟨g1,v',g2,g3,?_,g5⟩
    rw[getD_set_ne ?_]
    ·exact g4
    ·intro e2
     rw[←e2,hh]at g3
     injection g3 with g3
     injection g3 with g3
     exact e g3.symm
 ·by_cases e:u=v
  ·subst e
   refine⟨x',s,x0,hh,?_,q3⟩
   show(w.cs.set x'.toNat (1,wE es i,s))[x'.toNat]? =_
   rw[j9 q2,aom,aop (by rw[h.l2];exact Tq)]
   rfl
  ·obtain⟨z,s',z0,g1,g2,g3⟩:=h.c2 v hv
   refine⟨z,s',z0,g1,?_,g3⟩
   show(w.cs.set x'.toNat (1,wE es i,s))[z.toNat]? =_
   rw[dM ?_,getD_set_ne e]
   ·exact g2
   ·intro e2
    have e3:z=x':=by omega
    rw[e3]at g3
    have:=Sg h.nd q3 g3
    injection this with _ this
    omega
theorem xF.room(h:xF es n w A L sl bl hl){u:Nat}(hu:sl[u]? =some 0):A.pick≠none:=by
 have k2:=nP (fun x:Nat=>decide (x≠0)) hu 1
 simp at k2
 have k3:=aqi (p:=fun x:Nat=> !decide (x=0)) (l:=sl.set u 1)
 rw[aok,h.l1]at k3
 have k4:=h.le
 simp only[ne_eq,decide_not]at k4
 unfold Ar.pick
 rw[if_neg (by rw[h.wt];simp),if_neg (by rw[h.nx,h.len];omega)]
 simp
theorem xF.none_(h:xF es n w A L sl bl hl)(h0:w.len 1=0):∀v:Nat,sl[v]? ≠some 1:=fun v hv=>by
 obtain⟨x,s,x0,_,q2,_⟩:=h.c2 v hv
 exact(uG (by omega)).1 h0 x (j7 x0 q2)
def abp(es:List Ed)(sl:List Nat)(bl:List Int)(u:Nat)(i:Int)(IP:List Nat)(IQ:List Int):Prop:=
 (IP=sl∧IQ=bl∧(sl[u]? =some 2∨(sl[u]? =some 1∧wE es (bl.getD u 0)≤wE es i)))∨
 (IP=sl.set u 1∧IQ=bl.set u i∧(sl[u]? =some 0∨(sl[u]? =some 1∧wE es i<wE es (bl.getD u 0))))
structure NK(es:List Ed)(D:Nat→Prop)(o:List Nat)(k:Nat→Int)(T:List Int)(sl:List Nat)(bl:List Int)(left:List Int):Prop where
 P:kD (fE es) (wE es) (allI es.length) T o k (fun v=>sl[v]? =some 1) (fun v=>bl.getD v 0) left
 d:∀v:Nat,sl[v]? =some 2↔D v∨v∈o
 ml:∀v,D v→v∉o
 shut:∀i∈allI es.length,∀v,Touch (fE es i) v→D v→D (other (fE es i) v)
theorem NK.offer{D:Nat→Prop}{o:List Nat}{k:Nat→Int}{T:List Int}{IP:List Nat}{IQ:List Int}{i:Int}{left:List Int}{v u:Nat}(h:NK es D o k T sl bl (i::left))(hv:o[o.length - 1]? =some v)(hi:i∈allI es.length)(ht:Touch (fE es i) v)(hu:u=other (fE es i) v)(Tq:u<bl.length)(W4:abp es sl bl u i IP IQ):
  NK es D o k T IP IQ left:=by
 have hvo:v∈o:=aon hv
 have hnD:¬D v:=fun hd=>h.ml v hd hvo
 have hou:=KD ht
 rw[←hu]at hou
 have huD:¬D u:=fun hd=>hnD (by have:=h.shut i hi u hou.1 hd;rw[hou.2]at this;exact this)
 rcases W4 with ⟨rfl,rfl,hs⟩| ⟨rfl,rfl,hs⟩
 ·refine⟨h.P.skip hv fun u' _ hu'=>?_,h.d,h.ml,h.shut⟩
  rw[←hu]at hu'
  subst hu'
  rcases hs with hs|hs
  ·exact .inl (((h.d u').1 hs).resolve_left huD)
  ·exact .inr hs
 ·have bO:u∉o:=fun hm=>by
   have:=(h.d u).2 (.inr hm)
   rcases hs with hs| ⟨hs,_⟩<;>rw[this]at hs<;>cases hs
  obtain⟨c0,kE⟩:∃c,sl[u]? =some c:=by rcases hs with hs| ⟨hs,_⟩<;>exact⟨_,hs⟩
  have P:=h.P.offer hv hi ht hu bO (fun hw=>by
   rcases hs with hs| ⟨_,hs⟩
   ·rw[hs]at hw;cases hw
   ·exact Int.le_of_lt hs)
  have e1:(fun y:Nat=>sl[y]? =some 1∨y=u)=fun y=>(sl.set u 1)[y]? =some 1:=by
   funext y
   by_cases e:u=y
   ·subst e
    rw[j9 kE]
    simp
   ·rw[dM e]
    simp[Ne.symm e]
  have e2:(fun y:Nat=>if y=u then i else bl.getD y 0)=fun y=>(bl.set u i).getD y 0:=by
   funext y
   by_cases e:u=y
   ·subst e
    rw[if_pos rfl,aom,aop Tq]
    rfl
   ·rw[if_neg (Ne.symm e),getD_set_ne e]
  rw[e1,e2]at P
  refine⟨P,fun y=>?_,h.ml,h.shut⟩
  by_cases e:u=y
  ·subst e
   rw[j9 kE]
   refine⟨fun h=>(by cases h),fun h=>?_⟩
   rcases h with h|h
   ·exact absurd h huD
   ·exact absurd h bO
  ·rw[dM e]
   exact h.d y
theorem kD.only{α:Type}{e:α→E2}{w:α→Int}{E T:List α}{o:List Nat}{k:Nat→Int}{wt:Nat→Prop}{b:Nat→α}{left VH:List α}(P:kD e w E T o k wt b left){v:Nat}(hv:o[o.length - 1]? =some v)(hs:∀i∈E,Touch (e i) v→i∈VH):kD e w E T o k wt b VH:=by
 refine⟨P.I9,P.wait,fun i hi a va ha tt=>?_,P.loc,P.out,P.nd⟩
 rcases P.DP i hi a va ha tt with ⟨h1,_⟩|h
 ·refine .inl ⟨h1,hs i hi ?_⟩
  have:a=o.length - 1:=by omega
  rw[this,hv]at ha
  injection ha with ha
  rw[ha]
  exact tt
 ·exact .inr h
theorem BC{n:Int}(hr:fj n es){v:Nat}{i:Int}(hi:i∈allI es.length):Touch (fE es i) v↔i∈bi (qT v) 0 es:=by
 obtain⟨k,e,rfl,he,hk⟩:=LO.get (js.1 hi)
 have hb:=hr.ends e (aon he)
 rw[E6,BA he]
 unfold Touch
 constructor
 ·intro ht
  refine⟨k,e,he,?_,by omega⟩
  simp only[qT,ap6,aoL]
  simp only at ht
  omega
 ·rintro⟨j,e',iG,hq,hj⟩
  have:j=k:=by omega
  subst this
  rw[he]at iG
  injection iG with iG
  subst iG
  simp only[qT,ap6,aoL]at hq
  simp only
  omega
theorem Xn{v:Nat}{i:Int}(h:i∈bi (qT v) 0 es):i∈allI es.length:=by
 obtain⟨k,e,he,_,rfl⟩:=(E6 _ _ _ _).1 h
 have:=(aoj.1 he).1
 rw[Gd]
 omega
def Zq(es:List Ed)(T:List Int)(sl:List Nat):Prop:=xP (fE es) (wE es) (allI es.length) T (fun v=>sl[v]? =some 2)∧∀v:Nat,sl[v]? ≠some 1
structure GrT(es:List Ed)(T T0:List Int)(D:Nat→Prop)(o:List Nat):Prop where
 vU:gF (T.map (fE es))
 ins:∀i∈T,i∈allI es.length∧(D (fE es i).1∨(fE es i).1∈o)∧(D (fE es i).2∨(fE es i).2∈o)
 sub:∀i∈T0,i∈T
theorem NK.begin{n:Int}(hr:fj n es){T:List Int}(h:Zq es T sl){r:Nat}(Wt:sl[r]? =some 0):NK es (fun v=>sl[v]? =some 2) [r] (fun _=>0) T (sl.set r 2) bl (bi (qT r) 0 es)∧GrT es T T (fun v=>sl[v]? =some 2) [r]:=by
 refine⟨⟨?_,fun v=>?_,fun v hv hm=>?_,h.1.shut⟩,h.1.vU,fun i hi=>⟨(h.1.ins i hi).1,.inl (h.1.ins i hi).2.1,.inl (h.1.ins i hi).2.2⟩,fun i hi=>hi⟩
 ·have P:=kD.begin (e:=fE es) (w:=wE es) (E:=allI es.length) (T:=T) (fun _=>0) (fun v=>bl.getD v 0) r
  have e1:(fun _:Nat=>False)=fun v=>(sl.set r 2)[v]? =some 1:=by
   funext v
   by_cases e:r=v
   ·subst e;rw[j9 Wt];simp
   ·rw[dM e];exact(eq_false (h.2 v)).symm
  rw[e1]at P
  exact P.only rfl fun i hi ht=>(BC hr hi).1 ht
 ·by_cases e:r=v
  ·subst e;rw[j9 Wt];simp
  ·rw[dM e,aoq]
   simp[Ne.symm e]
 ·rw[aoq]at hm
  rw[hm,Wt]at hv
  cases hv
theorem NK.enter{n:Int}(hr:fj n es){D:Nat→Prop}{o:List Nat}{k:Nat→Int}{T T0:List Int}(h:NK es D o k T sl bl [])(t:GrT es T T0 D o){v:Nat}(hv:sl[v]? =some 1)(Pm:∀u:Nat,sl[u]? =some 1→wE es (bl.getD v 0)≤wE es (bl.getD u 0)):
  NK es D (o++[v]) (fun a=>if a=o.length then wE es (bl.getD v 0)else k a) (T++[bl.getD v 0]) (sl.set v 2) bl (bi (qT v) 0 es)∧GrT es (T++[bl.getD v 0]) T0 D (o++[v])∧bl.getD v 0∈allI es.length:=by
 obtain⟨c,vc,hc,hbE,htc,hox,_⟩:=h.P.wait v hv
 have hvD:¬ (D v∨v∈o):=fun hd=>by
  rw[(h.d v).2 hd]at hv
  cases hv
 have P:=h.P.enter (k':=fun a=>if a=o.length then wE es (bl.getD v 0)else k a) hv Pm (fun a ha=>if_neg (by omega)) (if_pos rfl)
 have e1:(fun y:Nat=>sl[y]? =some 1∧y≠v)=fun y=>(sl.set v 2)[y]? =some 1:=by
  funext y
  by_cases e:v=y
  ·subst e;rw[j9 hv];simp
  ·rw[dM e];simp[Ne.symm e]
 rw[e1]at P
 have hvc:vc∈o:=aon hc
 refine⟨⟨P.only (v:=v) (by simp) fun i hi ht=>(BC hr hi).1 ht,fun y=>?_,fun y hy hm=>?_,h.shut⟩,⟨?_,fun i hi=>?_,fun i hi=>aoy _ (t.sub i hi)⟩,hbE⟩
 ·by_cases e:v=y
  ·subst e;rw[j9 hv];simp
  ·rw[dM e,h.d y,aou,aoq]
   simp[Ne.symm e]
 ·rcases aou.1 hm with hm|hm
  ·exact h.ml y hy hm
  ·rw[aoq]at hm
   exact hvD (.inl (by rw[←hm];exact hy))
 ·refine Po (done:=fun y=>D y∨y∈o) t.vU (fun i hi=>(t.ins i hi).2) htc (.inr hvc) ?_
  rw[hox]
  exact hvD
 ·have imp:∀y,D y∨y∈o→D y∨y∈o++[v]:=fun y hy=>hy.imp_right fun h=>aoy _ h
  rcases aou.1 hi with hi|hi
  ·exact⟨(t.ins i hi).1,imp _ (t.ins i hi).2.1,imp _ (t.ins i hi).2.2⟩
  ·rw[aoq]at hi
   subst hi
   refine⟨hbE,?_⟩
   have hvm:v∈o++[v]:=by simp
   have Fv:vc∈o++[v]:=aoy _ hvc
   unfold other at hox
   rcases htc with h1|h1
   ·have h2:(fE es (bl.getD v 0)).2=v:=by omega
    exact⟨.inr (by rw[h1];exact Fv),.inr (by rw[h2];exact hvm)⟩
   ·have h2:(fE es (bl.getD v 0)).1=v:=by omega
    exact⟨.inr (by rw[h2];exact hvm),.inr (by rw[h1];exact Fv)⟩
theorem NK.over{D:Nat→Prop}{o:List Nat}{k:Nat→Int}{T T0:List Int}(h0:xP (fE es) (wE es) (allI es.length) T0 D)(h:NK es D o k T sl bl [])(t:GrT es T T0 D o)(hn:∀v:Nat,sl[v]? ≠some 1):Zq es T sl:=by
 have:=h0.over t.sub h.P hn t.vU t.ins
 refine⟨?_,hn⟩
 have e1:(fun v=>D v∨v∈o)=fun v:Nat=>sl[v]? =some 2:=by
  funext v
  exact propext (h.d v).symm
 rw[e1]at this
 exact this
theorem Zq.Wg{n:Int}(hr:fj n es){T:List Int}(h:Zq es T sl)(hl:∀v:Nat,v<n.toNat→sl[v]? =some 2):jU n es T∧NI es T:=by
 obtain⟨h1,h2,h3,h4⟩:=h.1.Wg fun i hi=>by
  have:=se hr (js.1 hi)
  exact⟨hl _ this.1,hl _ this.2⟩
 refine⟨⟨fun i hi=>js.1 (h2 i hi),h1,fun u v hh=>?_⟩,h3⟩
 exact pI (fun x hx=>by obtain⟨i,hi,rfl⟩:=aoC.1 hx;exact h4 i hi) hh
end
end Go.Proofs.YtjlnnljohemifaaGreat

namespace Go.Proofs.YtjlnnljohemifaaGreat
open Go Go.Vc
section
variable {n : Int} {es : List Ed} {K T : List Int}
theorem Sh(hr:fj n es):∀i∈allI es.length,(fE es i).1<n.toNat∧(fE es i).2<n.toNat:=fun i hi=>se hr (js.1 hi)
theorem jU.size(hr:fj n es)(h:jU n es T):cls n.toNat ((allI es.length).map (fE es))+T.length=n.toNat:=
 E5 (n:=n.toNat) (E:=allI es.length) h.sub h.vU (Sh hr) (fun i hi=>h.all _ _ (kC (aoC.2 ⟨i,hi,rfl⟩)))
theorem LQ(n:Int){L:List Int}(h1:∀i∈L,LO es i)(h2:∀i∈allI es.length,i∈L):jU n es (bT (fE es) L):=by
 obtain⟨g1,g2,g3⟩:=vx (e:=fE es) L
 refine⟨fun i hi=>h1 i (g2 i hi),g1,fun u v hh=>pI (fun x hx=>?_) hh⟩
 obtain⟨i,hi,rfl⟩:=aoC.1 hx
 exact g3 i (h2 i hi)
end
theorem Uo{T:List Int}(hs:jU 3 [⟨0,1,1⟩,⟨1,2,2⟩,⟨2,0,3⟩] T)(hl:NI [⟨0,1,1⟩,⟨1,2,2⟩,⟨2,0,3⟩] T)(hp:T.Pairwise (· < ·)):T=[0,1]:=by
 have hr:fj 3 [⟨0,1,1⟩,⟨1,2,2⟩,⟨2,0,3⟩]:=(fY _ _).1 (by decide)
 have aZ:=hs.size hr
 have hc:cls (3:Int).toNat ((allI 3).map (fE [⟨0,1,1⟩,⟨1,2,2⟩,⟨2,0,3⟩]))=1:=by decide
 have h2:T.length=2:=by
  have h3:cls (3:Int).toNat ((allI 3).map (fE [⟨0,1,1⟩,⟨1,2,2⟩,⟨2,0,3⟩]))+T.length=3:=aZ
  omega
 have bJ:=hs.ins
 match T,h2 with
 | [x,y],_=>
  have hx:0≤x∧x<3:=bJ x (by simp)
  have hy:0≤y∧y<3:=bJ y (by simp)
  have MB:x<y:=by simpa using hp
  have h:(x=0∧y=1)∨(x=0∧y=2)∨(x=1∧y=2):=by omega
  rcases h with ⟨rfl,rfl⟩| ⟨rfl,rfl⟩| ⟨rfl,rfl⟩
  ·rfl
  ·exfalso
   have:=hl 1 (by decide)
   revert this
   decide
  ·exfalso
   have:=hl 0 (by decide)
   revert this
   decide
end Go.Proofs.YtjlnnljohemifaaGreat

namespace Go.Proofs.YtjlnnljohemifaaGreat
open Go Go.Vc
theorem Ez{H:Hp}{a a':Option Addr}{c c':Nat}{xs ys:List Int}(h:cO H 1 (.slice a xs.length c) xs.length (xs.map i64))(h':cO H 1 (.slice a' ys.length c') ys.length (ys.map i64))(hm:xs.length≤1000000000000):
  af Tryz.prog Ji [.slice a xs.length c,.slice a' ys.length c'] H fun v H'=>aw (v= .bool (decide (xs=ys))∧H=H'):=by
 refine bv Jp ?_
 refine vs ?_
 refine am.dec (fun h2=>?_) (fun h2=>?_)
 rotate_left
 ·refine vs ?_
  exact⟨by rw[aoJ (p:=xs=ys) (fun e=>h2 (by rw[e]))];rfl,rfl⟩
 refine vs ?_
 refine aX.intro (fun k env H'=>H'=H∧∃j:Nat,k=xs.length - j∧j≤xs.length∧xs.take j=ys.take j∧env=[(0,.slice a xs.length c),(1,.slice a' ys.length c'),(12,i64 xs.length),(13,i64 j)]) xs.length ⟨rfl,0,by omega,by omega,rfl,rfl⟩ ?_
 rintro k env _ ⟨rfl,j,hk,hj,LR,rfl⟩
 refine vs ?_
 refine am.dec (fun aO=>?_) (fun aO=>?_)<;>refine vs ?_
 ·have fS:j<xs.length:=by omega
  obtain⟨x,hx⟩:∃e,xs[j]? =some e:=⟨_,aoh fS⟩
  obtain⟨y,hy⟩:∃e,ys[j]? =some e:=⟨_,aoh (by omega)⟩
  obtain⟨_,b,o,lb,rfl,eW,bX⟩:=cO.num h hx
  obtain⟨_,b',o',Vx,rfl,Ge,Xo⟩:=cO.num h' hy
  refine⟨⟨by omega,by omega⟩,?_⟩
  refine v4 eW Int.toNat_natCast aol bX ?_
  refine⟨⟨by omega,by omega⟩,?_⟩
  refine v4 Ge Int.toNat_natCast aol Xo ?_
  refine am.dec (fun h3=>?_) (fun h3=>?_)<;>refine vs ?_
  ·rw[wrap64 (n:=(j:Int)+1) (by omega) (by omega)]
   exact⟨xs.length - (j+1),by omega,trivial,j+1,rfl,by omega,by rw[aoT,aoT,hx,hy,LR,h3],rfl⟩
  ·refine⟨?_,rfl⟩
   rw[aoJ (fun e2=>h3 (by rw[e2,hy]at hx;injection hx with hx;exact hx.symm))]
   rfl
 ·have fS:j=xs.length:=by omega
  subst fS
  rw[aoP,ap4 (by omega)]at LR
  exact⟨by rw[aow LR];rfl,rfl⟩
structure SB where
 n:Nat
 c:Nat
 t:Nat
 tl:Nat
 mp:Nat
def Gf(T:Int→Int):Int→Option Value:=fun h=>if T h= -1 then none else some (i64 (T h))
structure ef(H:Hp)(B:SB)(C:Nat→Prop)(w:Nw)(L:List Lk)(T:Int→Int):Prop where
 own:H.own B.n=some [ptr B.c,ptr B.t,.map (some B.mp)]
 cells:CQ H B.c C w
 bY:bP H B.t B.tl L
 Rb:lG H B.mp (Gf T)
 len:L.length=w.cs.length
 ml:(B.n≠B.t∧B.n≠B.tl∧B.n≠B.mp)∧(B.t≠B.tl∧B.t≠B.mp)∧B.tl≠B.mp
 out:¬C B.n∧¬C B.t∧¬C B.tl∧¬C B.mp
def SB.S(B:SB)(C:Nat→Prop)(z:Nat):Prop:=C z∨z=B.n∨z=B.t∨z=B.tl∨z=B.mp
section
variable {H H' : Hp} {B : SB} {C V : Nat → Prop} {w w' : Nw} {L L' : List Lk} {T : Int → Int}
theorem ef.slt(h:ef H B C w L T):∀z,B.S C z→z<H.size:=by
 rintro z (hz|rfl|rfl|rfl|rfl)
 ·exact h.cells.slt z hz
 ·exact aB h.own
 ·exact aB h.bY.own
 ·exact aB h.bY.k9
 ·exact h.Rb.lt
theorem ef.ext(h:ef H B C w L T)(e:ag V H H')(hd:∀z,B.S C z→¬V z):ef H' B C w L T:=
 ⟨e.own h.own (hd _ (.inr (.inl rfl))),h.cells.ext e (fun x hx=>hd x (.inl hx)),h.bY.ext e (hd _ (.inr (.inr (.inl rfl)))) (hd _ (.inr (.inr (.inr (.inl rfl))))),
  h.Rb.ext e (hd _ (.inr (.inr (.inr (.inr rfl))))),h.len,h.ml,h.out⟩
theorem ef.fresh(h:ef H B C w L T)(e:ah H H'):ef H' B C w L T:=h.ext e fun _ _ h=>h
theorem ef.aJ(h:ef H B C w L T)(c1:CQ H' B.c C w')(e:ag C H H')(hl:w'.cs.length=w.cs.length):ef H' B C w' L T:=by
 obtain⟨o1,o2,o3,o4⟩:=h.out
 exact⟨e.own h.own o1,c1,h.bY.ext e o2 o3,h.Rb.ext e o4,by rw[hl];exact h.len,h.ml,h.out⟩
theorem ef.dF(h:ef H B C w L T)(t1:bP H' B.t B.tl L')(e:ag (fun z=>z=B.tl) H H')(hl:L'.length=L.length):ef H' B C w L' T:=by
 obtain⟨o1,o2,o3,o4⟩:=h.out
 obtain⟨⟨d1,d2,d3⟩,⟨d4,d5⟩,d6⟩:=h.ml
 exact⟨e.own h.own d2,h.cells.ext e (fun x hx hz=>o3 (hz▸hx)),t1,h.Rb.ext e (Ne.symm d6),by rw[hl];exact h.len,h.ml,h.out⟩
theorem ef.ld(h:ef H B C w L T){T':Int→Int}(t1:lG H' B.mp (Gf T'))(e:ag (fun z=>z=B.mp) H H'):ef H' B C w L T':=by
 obtain⟨o1,o2,o3,o4⟩:=h.out
 obtain⟨⟨d1,d2,d3⟩,⟨d4,d5⟩,d6⟩:=h.ml
 exact⟨e.own h.own d3,h.cells.ext e (fun x hx hz=>o4 (hz▸hx)),h.bY.ext e d5 d6,t1,h.len,h.ml,h.out⟩
theorem Si(T:Int→Int)(h x:Int):(x= -1→Gf (iS T h x)=Nc (Gf T) h)∧(x≠ -1→Gf (iS T h x)=JB (Gf T) h (i64 x)):=by
 constructor
 ·rintro rfl
  funext y
  unfold Gf iS Nc
  by_cases hy:y=h
  ·rw[if_pos hy,if_pos rfl,if_pos hy]
  ·rw[if_neg hy,if_neg hy]
 ·intro hx
  funext y
  unfold Gf iS JB
  by_cases hy:y=h
  ·rw[if_pos hy,if_neg hx,if_pos hy]
  ·rw[if_neg hy,if_neg hy]
theorem lO(h:ef H B C w L T)(g:Int):af Tryz.prog Ay [ptr B.n,i64 g] H fun v H'=>aw (v=i64 (T g)∧H'=H):=by
 refine bv AU ?_
 refine v2 (ae h.own) h.Rb.look ?_
 unfold Gf
 by_cases hg:T g= -1
 ·rw[if_pos hg,hg]
  refine vs ?_
  exact⟨rfl,rfl⟩
 ·rw[if_neg hg]
  refine vs ?_
  exact⟨rfl,rfl⟩
theorem lP(h:ef H B C w L T)(g x:Int):af Tryz.prog Aw [ptr B.n,i64 g,i64 x] H fun v H'=>aw (ef H' B C w L (iS T g x)∧ag (fun z=>z=B.mp) H H'):=by
 obtain⟨h1,h2⟩:=Si T g x
 refine bv AS ?_
 refine vs ?_
 refine am.dec (fun hx=>?_) (fun hx=>?_)<;>refine v1 (ae h.own) ?_
 ·refine h.Rb.del fun H1 t1 e1=>?_
  rw[←h1 hx]at t1
  refine vs ?_
  exact⟨h.ld t1 e1,e1⟩
 ·refine h.Rb.Y5 fun H1 t1 e1=>?_
  rw[←h2 hx]at t1
  refine vs ?_
  exact⟨h.ld t1 e1,e1⟩
theorem LS{x a:Int}{b:Bool}(he:gC x= .tuple [i64 a,.bool b].toArray):(b=false∧x= -1)∨(b=true∧a=x∧x≠ -1):=by
 have h2:∀ {p q:Int} {r s:Bool},Value.tuple [i64 p,Value.bool r].toArray=Value.tuple [i64 q,Value.bool s].toArray→p=q∧r=s:=fun h=>by
  have h3:=aoE Array.toList (Value.tuple.inj h)
  injection h3 with h4 h5
  injection h4 with _ h4
  injection h5 with h5 _
  injection h5 with h5
  exact⟨h4,h5⟩
 unfold gC at he
 split at he
 ·rename_i hx
  exact .inl ⟨(h2 he).2.symm,hx⟩
 ·rename_i hx
  exact .inr ⟨(h2 he).2.symm,(h2 he).1.symm,hx⟩
theorem lQ(h:ef H B C w L T)(hb:Bt (aG w) (aQ w) (bc L) (bq L)){x a:Int}{b:Bool}(he:gC x= .tuple [i64 a,.bool b].toArray):
  af Tryz.prog Az [ptr B.n,i64 a,.bool b] H fun v H'=>aw (v=i64 x∧∃L',ef H' B C w L' T∧bc L'=iO (bc L) (bq L) x∧bq L'=c9 (bq L) x∧ag (fun z=>z=B.tl) H H'):=by
 refine bv AV ?_
 refine vs ?_
 rcases LS he with ⟨rfl,rfl⟩| ⟨rfl,rfl,hx⟩
 ·refine vs ?_
  obtain⟨h1,h2⟩:=Ad hb
  exact⟨rfl,L,h,h1.symm,h2.symm,ag.refl _ _⟩
 ·refine v1 (ae h.own) ?_
  refine(cH h.bY (x:=a) (fun hu=>by have:=Bi.up hb hu;have:=h.len;omega)).mono ?_
  rintro _ H1 ⟨rfl,L1,t1,l1,k1,u1,e1⟩
  refine vs ?_
  exact⟨rfl,L1,h.dF t1 e1 l1,k1,u1,e1⟩
theorem lR(h:ef H B C w L T){g a0 b0:Int}{R:Int→Prop}(m:Mg (aG w) (aQ w) g R (bc L) (bq L) [] a0 b0):
  af Tryz.prog Ax [ptr B.n,i64 a0,i64 b0] H fun v H'=>aw (∃r L',v=i64 r∧ef H' B C w L' T∧Mg (aG w) (aQ w) g R (bc L') (bq L') [] r (-1)∧
   (∀x0,vV (aQ w) (bc L) (bq L) x0 (bc L) (bq L) [] a0 b0→vV (aQ w) (bc L) (bq L) x0 (bc L') (bq L') [] r (-1))∧ag (fun z=>C z∨z=B.tl) H H'):=by
 refine bv AT ?_
 refine vs ?_
 have xt:=h.cells.Ef
 refine aX.intro (fun mm env H'=>∃ (a b:Int) (dK:List Int) (wv:Value) (fp:Option Nat) (L':List Lk),mm=w.cs.length - dK.length∧ef H' B C w L' T∧Mg (aG w) (aQ w) g R (bc L') (bq L') dK a b∧
  (∀x0,vV (aQ w) (bc L) (bq L) x0 (bc L) (bq L) [] a0 b0→vV (aQ w) (bc L) (bq L) x0 (bc L') (bq L') dK a b)∧
  (∀z,fp=some z→H.size≤z)∧Sl H' 1 wv dK.length (dK.map i64) fp∧ag (fun z=>C z∨z=B.tl∨H.size≤z) H H'∧
  env=[(0,ptr B.n),(1,i64 a),(2,i64 b),(7,wv)]) _ ⟨a0,b0,[],_,none,L,rfl,h,m,(fun _ h=>h),(fun z h=>by cases h),Sl.nil _ _,ag.refl _ _,rfl⟩ ?_
 rintro mm env H1 ⟨a,b,dK,wv,fp,L1,rfl,l1,m1,f1,fZ,s1,e1,rfl⟩
 have z1:=e1.size
 clear m
 refine vs ?_
 refine am.dec (fun ga=>?A) (fun ga=>?_)<;>refine vs ?_
 rotate_left
 refine am.dec (fun gb=>?B) (fun gb=>?_)<;>refine vs ?_
 rotate_left
 ·have o1:=l1.own
  refine v1 (ae o1) ?_
  refine(cF l1.cells b a).mono ?_
  rintro _ H2 ⟨rfl,c2,e2⟩
  have l2:=l1.aJ c2 e2 rfl
  have s2:=s1.ext e2 (fun z hz dL=>by have:=fZ z hz;have:=h.slt z (.inl dL);omega)
  have z2:=e2.size
  have ha:=m1.wa.resolve_left ga
  have hb:=m1.wb.resolve_left gb
  have BZ:=gS (w:=w) (a:=b) (b:=a) (by rw[hb.1];exact m1.pos) (by rw[ha.1];exact m1.pos)
  have aP:a≠b:=fun e=>ga (m1.ab e)
  rw[BZ]
  obtain⟨p,q,Oz,hl,gp,gq,mm,fm⟩:∃p q,(if aQ w b a=true then(p=b∧q=a)else(p=a∧q=b))∧aQ w p q=true∧p≠ -1∧q≠ -1∧Mg (aG w) (aQ w) g R (bc L1) (bq L1) dK p q∧
    (∀x0,vV (aQ w) (bc L) (bq L) x0 (bc L) (bq L) [] a0 b0→vV (aQ w) (bc L) (bq L) x0 (bc L1) (bq L1) dK p q):=by
   cases aO:aQ w b a
   ·exact⟨a,b,by simp,((au w).OD a b aP).resolve_right (by rw[aO];simp),ga,gb,m1,f1⟩
   ·exact⟨b,a,by simp,aO,gb,ga,m1.swap,fun x0 h0=>(f1 x0 h0).swap⟩
  have Ps:0<aG w p:=by rw[(mm.wa.resolve_left gp).1];exact mm.pos
  obtain⟨p0,p1,_⟩:=aF Ps
  have m3:=mm.Ra (au w) gp gq hl
  have f3:=fun x0 h0=>(fm x0 h0).down (au w) mm.bt gp
  have wl:(dK++[p]).length≤w.cs.length:=bZ (m3.nodup (au w)) fun x hx=>by
   have GU:=(m3.wy x hx).2.1
   have qK:=m3.pos
   obtain⟨x0,x1,_⟩:=aF (w:=w) (x:=x) (by omega)
   exact⟨x0,x1⟩
  rw[aor,aoA]at wl
  cases aO:aQ w b a<;>simp only[aO,if_true,if_false,api]at Oz<;>obtain⟨rfl,rfl⟩:=Oz<;>refine vs ?_
  all_goals
   refine yd (B:=H.size) fZ (by omega) s2 p (by omega) fun w' H3 cP ir s3 e3=>?_
   refine vs ?_
   have l3:=l2.ext e3 (fun z hz dL=>by have:=h.slt z hz;omega)
   have o3:=l3.own
   refine v1 (ae o3) ?_
   refine(cz l3.bY p).mono ?_
   rintro _ H' ⟨rfl,e⟩
   obtain rfl:=e.symm
   obtain⟨k1,k2,ek⟩:=cI (bc L1 p true)
   rw[ek]
   refine vs ?_
   refine(lQ l3 mm.bt ek).mono ?_
   rintro _ H4 ⟨rfl,L4,l4,Vr,Vs,e4⟩
   have s4:=s3.ext e4 (fun z hz dL=>by have:=ir z hz;have:=h.slt B.tl (.inr (.inr (.inr (.inl rfl))));omega)
   refine vs ?_
   refine⟨w.cs.length - (dK.length+1),by omega,bc L1 p true,q,dK++[p],w',cP,L4,by simp,l4,?_,?_,ir,s4,((e1.trans (e2.mono fun z _ hz=>.inl hz)).trans (e3.mono fun z _ hz=>.inr (.inr hz))).trans (e4.mono fun z _ hz=>.inr (.inl hz)),rfl⟩
   ·rw[Vr,Vs];exact m3
   ·rw[Vr,Vs];exact f3
 case' A=>
  have m2:Mg (aG w) (aQ w) g R (bc L1) (bq L1) dK b (-1):=ga▸m1.swap
  have f2:=fun x0 (h0:vV (aQ w) (bc L) (bq L) x0 (bc L) (bq L) [] a0 b0)=>(f1 x0 h0).swap
  rw[ga]at f2
  have hr:(if b>a then b else a)=b:=by
   rcases m1.wb with h|h
   ·omega
   ·have hp:=m1.pos
    obtain⟨_,_⟩:=aF (w:=w) (x:=b) (by omega)
    omega
  rw[hr]
  clear hr
  generalize b=r at m2 f2
 case' B=>
  have m2:Mg (aG w) (aQ w) g R (bc L1) (bq L1) dK a (-1):=gb▸m1
  have f2:=f1
  rw[gb]at f2
  have hr:(if b>a then b else a)=a:=by
   rcases m1.wa with h|h
   ·omega
   ·have hp:=m1.pos
    obtain⟨_,_⟩:=aF (w:=w) (x:=a) (by omega)
    omega
  rw[hr]
  clear hr
  generalize a=r at m2 f2
 all_goals
  obtain⟨wa,wc,rfl⟩:=Sl.shape s1
  refine vs ?_
  have wl:dK.length≤w.cs.length:=bZ (m2.nodup (au w)) fun x hx=>by
   have GU:=(m2.wy x hx).2.1
   have qK:=m2.pos
   obtain⟨x0,x1,_⟩:=aF (w:=w) (x:=x) (by omega)
   exact⟨x0,x1⟩
  refine aX.intro (fun mm env H'=>∃ (i:Nat) (r:Int) (L':List Lk),mm=i∧i≤dK.length∧ef H' B C w L' T∧Mg (aG w) (aQ w) g R (bc L') (bq L') (dK.take i) r (-1)∧
   (∀x0,vV (aQ w) (bc L) (bq L) x0 (bc L) (bq L) [] a0 b0→vV (aQ w) (bc L) (bq L) x0 (bc L') (bq L') (dK.take i) r (-1))∧
   Sl H' 1 (.slice wa dK.length wc) dK.length (dK.map i64) fp∧ag (fun z=>C z∨z=B.tl∨H.size≤z) H H'∧
   env=[(0,ptr B.n),(7,.slice wa dK.length wc),(8,i64 r),(9,i64 ((i:Int) - 1))]) _ ⟨dK.length,r,L1,rfl,aov _,l1,by rw[aoP];exact m2,by rw[aoP];exact f2,s1,e1,?_⟩ ?_
  ·rw[wrap64 (by omega) (by omega)]
  rintro mm env H2 ⟨i,r2,L2,hmi,hi,l2,m3,f3,s2,e2,rfl⟩
  obtain rfl:=hmi.symm
  refine vs ?_
  refine am.dec (fun gi=>?_) (fun gi=>?_)<;>refine vs ?_
  rotate_left
  ·obtain rfl:i=0:=by omega
   exact⟨r2,L2,rfl,l2,by simpa using m3,by simpa using f3,e2.mono fun z hz h=>h.elim .inl fun h=>.inr (by omega)⟩
  obtain⟨j,rfl⟩:∃j,i=j+1:=⟨i - 1,by omega⟩
  obtain⟨v,hv⟩:∃v,dK[j]? =some v:=⟨_,aoh (by omega)⟩
  have tk:dK.take (j+1)=dK.take j++[v]:=by rw[aoT,hv];rfl
  rw[tk]at m3 f3
  have m4:=m3.back (au w)
  have f4:=fun x0 h0=>(f3 x0 h0).back
  obtain⟨v1,v2,v3,v4,v5,v6⟩:=m3.wy v (by simp)
  obtain⟨q1,vb,lb,rfl,q2,q3⟩:=Sl.zB s2 hv
  have hvb:∃b',fp=some b'∧b'=vb:=by
   cases fp with
   |none=>have:=s2.2.2;injection this with h1;cases h1
   |some b'=>obtain⟨_,_,h1,_⟩:=s2.2;injection h1 with h1;injection h1 with h1;injection h1 with h1;exact⟨b',rfl,h1.symm⟩
  obtain⟨b',rfl,rfl⟩:=hvb
  have hvb:=fZ b' rfl
  have Vt:0<aG w v:=by rw[v2];exact m3.pos
  obtain⟨WI,vv1,_⟩:=aF Vt
  have ji:((((j+1:Nat):Int) - 1)).toNat=j:=by omega
  refine⟨⟨by omega,by omega⟩,?_⟩
  simp(disch:=(first|omega| (simp only[Zs]<;>omega)|fail)) only[go_sem, ↓reduceIte,Zv,ae q2,aoi,aol,ji,q3]
  refine am.dec (fun gr=>?_) (fun gr=>?_)<;>refine vs ?_
  ·rw[if_pos gr,if_pos gr]at m4
   simp only[if_pos gr]at f4
   have f5:=f4
   have l3:=l2
   have m5:=m4
   have s3:=s2
   have e3:=e2
   simp(disch:=(first|omega| (simp only[Zs]<;>omega)|fail)) only[go_sem, ↓reduceIte,Zv,ae l3.own]
   refine(lM l3.bY (p:=v) ⟨WI,by have:=l3.len;omega⟩).mono ?_
   rintro _ H4 ⟨rfl,L4,t4,WH,k4,u4,e4⟩
   have l4:=l3.dF t4 e4 WH
   refine vs ?_
   refine⟨j,by omega,j,v,L4,rfl,by omega,l4,?_,?_,s3.ext e4 (fun z hz dL=>by injection hz with hz;have:=h.slt B.tl (.inr (.inr (.inr (.inl rfl))));omega),e3.trans (e4.mono fun z _ hz=>.inr (.inl hz)),?_⟩
   ·rw[k4,u4];exact m5.sY (au w)
   ·rw[k4,u4];exact fun x0 h0=>(f5 x0 h0).sY v1
   ·rw[show((j+1:Nat):Int) - 1 - 1=(j:Int) - 1 by omega,wrap64 (by omega) (by omega)]
  ·rw[if_neg gr,if_neg gr]at m4
   simp only[if_neg gr]at f4
   have vT:=m3.wa.resolve_left gr
   obtain⟨r0,r1,_⟩:=aF (w:=w) (x:=r2) (by rw[vT.1];exact m3.pos)
   have aZ:=l2.len
   have hvr:v≠r2:=fun e=>by have:=v5 gr;rw[e,(au w).vy]at this;cases this
   simp(disch:=(first|omega| (simp only[Zs]<;>omega)|fail)) only[go_sem, ↓reduceIte,Zv,ae l2.own]
   refine(eY l2.bY (p:=v) (x:=r2) (c:=true) ⟨WI,by omega⟩ ⟨r0,by omega⟩ hvr vT.2 v4).mono ?_
   rintro _ H3 ⟨rfl,L3,t3,ll3,kk3,uu3,GS⟩
   have l3:=l2.dF t3 GS ll3
   have m5:Mg (aG w) (aQ w) g R (bc L3) (bq L3) (dK.take j) v (-1):=by rw[kk3,uu3];exact m4
   have f5:=f4
   rw[←kk3,←uu3]at f5
   have nb:b'≠B.tl:=fun e=>by have:=h.slt B.tl (.inr (.inr (.inr (.inl rfl))));omega
   have s3:=s2.ext GS (fun z hz dL=>by injection hz with hz;exact nb (hz.trans dL))
   have e3:=e2.trans (GS.mono fun z _ hz=>.inr (.inl hz))
   refine vs ?_
   simp(disch:=(first|omega| (simp only[Zs]<;>omega)|fail)) only[go_sem, ↓reduceIte,Zv,ae l3.own]
   refine(lM l3.bY (p:=v) ⟨WI,by have:=l3.len;omega⟩).mono ?_
   rintro _ H4 ⟨rfl,L4,t4,WH,k4,u4,e4⟩
   have l4:=l3.dF t4 e4 WH
   refine vs ?_
   refine⟨j,by omega,j,v,L4,rfl,by omega,l4,?_,?_,s3.ext e4 (fun z hz dL=>by injection hz with hz;have:=h.slt B.tl (.inr (.inr (.inr (.inl rfl))));omega),e3.trans (e4.mono fun z _ hz=>.inr (.inl hz)),?_⟩
   ·rw[k4,u4];exact m5.sY (au w)
   ·rw[k4,u4];exact fun x0 h0=>(f5 x0 h0).sY v1
   ·rw[show((j+1:Nat):Int) - 1 - 1=(j:Int) - 1 by omega,wrap64 (by omega) (by omega)]
end
end Go.Proofs.YtjlnnljohemifaaGreat

namespace Go.Proofs.YtjlnnljohemifaaGreat
open Go Go.Vc
def dN(n:Nat)(H:Hp)(S:Nat→Prop)(w:Nw):Prop:=∃ (B:SB) (C:Nat→Prop) (L:List Lk) (T:Int→Int),B.n=n∧ef H B C w L T∧Ac (aG w) (aQ w) (bc L) (bq L) T∧∀z,S z↔B.S C z
theorem dN.slt{n:Nat}{H:Hp}{S:Nat→Prop}{w:Nw}(h:dN n H S w):∀z,S z→z<H.size:=by
 obtain⟨B,C,L,T,rfl,m,l,hS⟩:=h
 exact fun z hz=>m.slt z ((hS z).1 hz)
theorem dN.ext{n:Nat}{H H':Hp}{S V:Nat→Prop}{w:Nw}(h:dN n H S w)(e:ag V H H')(hd:∀z,S z→¬V z):dN n H' S w:=by
 obtain⟨B,C,L,T,rfl,m,l,hS⟩:=h
 exact⟨B,C,L,T,rfl,m.ext e (fun z hz=>hd z ((hS z).2 hz)),l,hS⟩
theorem Qg:Gf (fun _=> -1)=fun _=>none:=by
 funext y
 unfold Gf
 rw[if_pos rfl]
theorem If(cap:Int)(H:Hp):af Tryz.prog MT [i64 cap] H fun v H'=>aw (
  ah H H'∧((¬ (0≤cap∧cap≤65536)∧v= .tuple [.pointer none,i64 31].toArray)∨
   ((0≤cap∧cap≤65536)∧∃n S,v= .tuple [ptr n,i64 0].toArray∧dN n H' S (zE cap)∧∀x,S x→H.size≤x))):=by
 refine bv MY ?_
 refine vs ?_
 refine(k8 cap H).mono ?_
 rintro _ H1 ⟨f1,⟨hb,rfl⟩| ⟨hb,c,C,rfl,c1,hC⟩⟩
 ·refine vs ?_
  exact⟨f1,.inl ⟨hb,rfl⟩⟩
 refine v1 aoZ ?_
 refine(uK H1 hb).mono ?_
 rintro _ H2 ⟨t,tl,rfl,t2,f2,ht,MG⟩
 refine vs ?_
 have yb:=c1.slt
 have z1:=f1.size
 have z2:=f2.size
 have GW:=aB t2.own
 have WU:=aB t2.k9
 have f3:ah H2 (H2.im.new 282 [ptr c,ptr t,.map (some H2.size)]):=((ag.refl _ _).im).new _ _
 have e1:ag (fun _=>False) H2.im (H2.im.new 282 [ptr c,ptr t,.map (some H2.size)]):=(ag.refl _ _).new _ _
 have ft:=f1.trans (f2.trans f3)
 refine⟨ft,.inr ⟨hb,H2.size+1,(SB.mk (H2.size+1) c t tl H2.size).S C,rfl,⟨⟨H2.size+1,c,t,tl,H2.size⟩,C,_,fun _=> -1,rfl,
  ⟨?_,c1.fresh (f2.trans f3),t2.fresh f3,by rw[Qg];exact(lG.new H2).ext e1 (fun h=>h),?_,?_,?_⟩,Ac.none rfl (lh cap) (Bm _) (FT _) (fun _=>rfl),fun z=>Iff.rfl⟩,fun z hz=>?_⟩⟩
 ·exact aU (by simp only[iC])
 ·simp[zE]
 ·have:=t2.ne
  refine⟨⟨?_,?_,?_⟩,⟨?_,?_⟩,?_⟩<;>simp only<;>omega
 ·refine⟨fun h=>?_,fun h=>?_,fun h=>?_,fun h=>?_⟩<;>(have h2:=yb _ h;first|omega| (simp only at h2;omega))
 ·rcases hz with hz|rfl|rfl|rfl|rfl
  ·exact hC z hz
  all_goals first|omega| (simp only;omega)
theorem Gg{n:Nat}{H:Hp}{B:SB}{C:Nat→Prop}{w:Nw}{L:List Lk}{T:Int→Int}{S:Nat→Prop}(m:ef H B C w L T)(l:Ac (aG w) (aQ w) (bc L) (bq L) T)(hn:B.n=n)(hS:∀z,S z↔B.S C z):af Tryz.prog du [ptr B.c] H fun v H'=>aw (
  (w.hs.length=65537∧v=i64 0∧cB (dN n) S H H' w)∨(w.hs.length≠65537∧v=i64 w.hs.length∧cB (dN n) S H H' w.make)):=by
 subst hn
 refine(jo m.cells).mono ?_
 rintro _ H1 (⟨h1,rfl,rfl⟩| ⟨h1,rfl,C',c1,e1,zF⟩)
 ·exact .inl ⟨h1,rfl,cB.same ⟨B,C,L,T,rfl,m,l,hS⟩ (ag.refl _ _)⟩
 obtain⟨n1,n2,n3,n4⟩:=m.out
 have slt:=m.slt
 have no:∀z,B.S (fun _=>False) z→¬C z→¬C' z:=fun z hz hn h=>by
  rcases zF z h with h6|h6
  ·exact hn h6
  ·have:=slt z (hz.elim (fun h=>h.elim) .inr)
   omega
 refine .inr ⟨h1,rfl,B.S C',⟨B,C',L,T,rfl,⟨e1.own m.own n1,c1,m.bY.ext e1 n2 n3,m.Rb.ext e1 n4,m.len,m.ml,no _ (.inr (.inl rfl)) n1,no _ (.inr (.inr (.inl rfl))) n2,no _ (.inr (.inr (.inr (.inl rfl)))) n3,no _ (.inr (.inr (.inr (.inr rfl)))) n4⟩,l,fun z=>Iff.rfl⟩,
  e1.mono fun z _ h=>(hS z).2 (.inl h),fun z hz=>?_⟩
 rcases hz with hz|hz
 ·rcases zF z hz with h6|h6
  ·exact .inl ((hS z).2 (.inl h6))
  ·exact .inr h6
 ·exact .inl ((hS z).2 (.inr hz))
theorem C8{n:Nat}{H:Hp}{S:Nat→Prop}{w:Nw}(h:dN n H S w)(g x k s:Int):af Tryz.prog mZ [ptr n,i64 g,i64 x,tL k s] H fun v H'=>aw (
  (¬w.lN g x∧v= .bool false∧cB (dN n) S H H' w)∨(w.lN g x∧v= .bool true∧cB (dN n) S H H' (w.put x (g,k,s)))):=by
 obtain⟨B,C,L,T,rfl,m,l,hS⟩:=h
 have hC:∀z,C z→S z:=fun z h=>(hS z).2 (.inl h)
 have s1:S B.tl:=(hS _).2 (.inr (.inr (.inr (.inl rfl))))
 have s2:S B.mp:=(hS _).2 (.inr (.inr (.inr (.inr rfl))))
 refine bv zt ?_
 refine vs ?_
 have f0:ah H (H.new 224 [i64 k,u64 s]):=(ag.refl _ _).new _ _
 have b0:(H.new 224 [i64 k,u64 s]).own H.size=some [i64 k,u64 s]:=az _ _ _
 have m0:=m.fresh f0
 generalize H.new 224 [i64 k,u64 s]=H0 at*
 have ff:ag S H H0:=f0.mono fun _ _ h=>h.elim
 refine v2 (ae m0.own) (ae b0) ?_
 refine(kZ m0.cells g x k s).mono ?_
 rintro _ H1 (⟨bO,rfl,c1,e1⟩| ⟨qw,rfl,c1,e1⟩)
 ·refine vs ?_
  exact .inl ⟨bO,rfl,cB.same ⟨B,C,L,T,rfl,m0.aJ c1 e1 rfl,l,hS⟩ (ff.trans (e1.mono fun z _ hz=>hC z hz))⟩
 obtain⟨hh,hx,bJ⟩:=id qw
 have m1:=m0.aJ c1 e1 (by simp[Nw.put])
 have hg:=hh.1
 have cN:=fun y=>dV hx (g,k,s) y
 have bo:TG (aG (w.put x (g,k,s))) (aQ (w.put x (g,k,s))) (bc L) (bq L) T g x:=by
  refine l.ins rfl (Int.not_lt.1 fun h=>bJ (bz.1 h)) (by omega) (by omega) (by rw[cN,if_pos rfl]) (fun y hy=>by rw[cN,if_neg hy]) (fun a b ha hb tS mq=>dw hx _ ha hb tS mq)
 refine vs ?_
 refine(lO m1 g).mono ?_
 rintro _ H' ⟨rfl,e⟩
 obtain rfl:=e.symm
 refine vs ?_
 refine(lR m1 bo.mg).mono ?_
 rintro _ H2 ⟨r,L2,rfl,m2,g2,_,e2⟩
 refine vs ?_
 refine(lP m2 g r).mono ?_
 rintro _ H3 ⟨m3,e3⟩
 refine vs ?_
 exact .inr ⟨qw,rfl,cB.same ⟨B,C,L2,_,rfl,m3,bo.done g2,hS⟩ (((ff.trans (e1.mono fun z _ h=>hC z h)).trans (e2.mono fun z _ h=>by rcases h with h|rfl;exact hC z h;exact s1)).trans (e3.mono fun z _ h=>h▸s2))⟩
theorem IR{w:Nw}{L:List Lk}{T:Int→Int}(l:Ac (aG w) (aQ w) (bc L) (bq L) T){g x:Int}(h:w.first g x):T g=x:=by
 obtain⟨h1,h2,h3⟩:=bM.1 h
 have:=l.first (x:=x) (by omega) (fun y hy aP=>h3 y (by omega) aP) (au w)
 rwa[h2]at this
theorem yt{n:Nat}{H:Hp}{S:Nat→Prop}{w:Nw}(h:dN n H S w)(g:Int):af Tryz.prog sI [ptr n,i64 g] H fun v H'=>aw (
  ((w.len g=0∧v= .tuple [i64 0,.bool false].toArray)∨∃x,w.first g x∧v= .tuple [i64 x,.bool true].toArray)∧H'=H):=by
 obtain⟨B,C,L,T,rfl,m,l,hS⟩:=h
 refine bv D3 ?_
 refine vs ?_
 refine(lO m g).mono ?_
 rintro _ H' ⟨rfl,e⟩
 obtain rfl:=e.symm
 refine vs ?_
 refine am.dec (fun h0=>?_) (fun h0=>?_)<;>refine vs ?_
 ·refine⟨.inl ⟨?_,rfl⟩,rfl⟩
  by_cases hg:0<g
  ·refine aoI fun hl=>?_
   obtain⟨x,hx⟩:=uH hg hl
   have h2:=(bM.1 hx).2.1
   have:=IR l hx
   have:=(aF (w:=w) (x:=x) (by omega)).1
   omega
  ·exact Nw.HP.2 (.inl (by omega))
 ·obtain⟨h1,h2,h3⟩:=l.t1 g h0
  have hl:w.len g≠0:=fun e=>(uG h2).1 e _ h1
  obtain⟨x,hx⟩:=uH h2 hl
  rw[IR l hx]
  exact⟨.inr ⟨x,hx,rfl⟩,rfl⟩
theorem zN{n:Nat}{H:Hp}{S:Nat→Prop}{w:Nw}(h:dN n H S w)(x k s:Int):af Tryz.prog kM [ptr n,i64 x,tL k s] H fun v H'=>aw (
  (¬w.db x k s∧v= .bool false∧cB (dN n) S H H' w)∨(w.db x k s∧v= .bool true∧∃y,w.cs[x.toNat]? =some y∧cB (dN n) S H H' (w.put x (y.1,k,s)))):=by
 obtain⟨B,C,L,T,rfl,m,l,hS⟩:=h
 have hC:∀z,C z→S z:=fun z h=>(hS z).2 (.inl h)
 have s1:S B.tl:=(hS _).2 (.inr (.inr (.inr (.inl rfl))))
 have s2:S B.mp:=(hS _).2 (.inr (.inr (.inr (.inr rfl))))
 refine bv uv ?_
 refine vs ?_
 have f0:ah H (H.new 224 [i64 k,u64 s]):=(ag.refl _ _).new _ _
 have b0:(H.new 224 [i64 k,u64 s]).own H.size=some [i64 k,u64 s]:=az _ _ _
 have m0:=m.fresh f0
 generalize H.new 224 [i64 k,u64 s]=H0 at*
 have ff:ag S H H0:=f0.mono fun _ _ h=>h.elim
 refine v2 (ae m0.own) (ae b0) ?_
 refine(gR m0.cells x k s).mono ?_
 rintro _ H1 (⟨bO,rfl,c1,e1⟩| ⟨bJ,rfl,y,hy,fB,c1,e1⟩)
 ·refine vs ?_
  exact .inl ⟨bO,rfl,cB.same ⟨B,C,L,T,rfl,m0.ext e1 (fun _ _ h=>h),l,hS⟩ (ff.trans (e1.mono fun _ _ h=>h.elim))⟩
 have mF:(w.put x (y.1,k,s)).cs.length=w.cs.length:=by simp[Nw.put]
 have m1:=m0.aJ c1 e1 mF
 have Bp:w.db x k s:=⟨bJ,fun z hz=>by rw[hy]at hz;injection hz with hz;rw[←hz];exact fB⟩
 have hx:0≤x∧x<w.cs.length:=⟨bJ.1,by have:=(aoj.1 hy).1;have:=bJ.1;omega⟩
 have OO:aG w x=y.1:=j7 bJ.1 hy
 have dH:=bz.2 bJ
 have hw:aG (w.put x (y.1,k,s))=aG w:=by
  funext z
  rw[dV hx]
  split
  ·rename_i e;rw[e,OO]
  ·rfl
 have Eu:cY (w.put x (y.1,k,s)).cs x:=bz.1 (by rw[hw];exact dH)
 refine v1 (ae m1.own) ?_
 refine(di m1.cells x).mono ?_
 rintro _ H2 (⟨bO,_,_⟩| ⟨_,rfl,c2,e2⟩)
 ·exact absurd Eu bO
 have m2:=m1.aJ c2 e2 rfl
 have pE:ag S H H2:=(ff.trans (e1.mono fun z _ h=>hC z h)).trans (e2.mono fun z _ h=>hC z h)
 have el:∀a b,0<aG w a→0<aG w b→a≠x→b≠x→aQ (w.put x (y.1,k,s)) a b=aQ w a b:=fun a b ha hb tS mq=>dw hx _ ha hb tS mq
 have ex:∀b,0<aG w b→b≠x→aQ w x b=true→aQ (w.put x (y.1,k,s)) x b=true:=fun b hb mq h=>Bg bJ hy fB hb mq h
 refine v1 (ae m2.own) ?_
 refine(cH m2.bY (x:=x) (fun hu=>by have:=Bi.up l.bt hu;have:=m2.len;omega)).mono ?_
 rintro _ H3 ⟨rfl,L3,t3,l3,k3,u3,e3⟩
 have m3:=m2.dF t3 e3 l3
 have Ek:ag S H H3:=pE.trans (e3.mono fun z _ h=>h▸s1)
 unfold gC
 by_cases hu:bq L x= -1
 ·rw[if_pos hu]
  refine vs ?_
  have kk:bc L3=bc L:=by rw[k3];unfold iO;rw[if_pos hu]
  have uu:bq L3=bq L:=by
   rw[u3]
   funext z
   unfold c9 aH
   split
   ·rename_i e;rw[e,hu]
   ·rfl
  refine .inr ⟨Bp,rfl,y,hy,cB.same ⟨B,C,L3,T,rfl,m3,?_,hS⟩ Ek⟩
  rw[hw,kk,uu]
  exact l.TH dH hu el ex (au w)
 rw[if_neg hu]
 refine vs ?_
 have bo:=l.low dH hu el ex (au w)
 rw[←hw,←k3,←u3]at bo
 refine(lO m3 _).mono ?_
 rintro _ H' ⟨rfl,e⟩
 obtain rfl:=e.symm
 refine vs ?_
 refine(lR m3 bo.mg).mono ?_
 rintro _ H4 ⟨r,L4,rfl,m4,g4,_,e4⟩
 refine vs ?_
 refine(lP m4 _ r).mono ?_
 rintro _ H5 ⟨m5,e5⟩
 refine vs ?_
 exact .inr ⟨Bp,rfl,y,hy,cB.same ⟨B,C,L4,_,rfl,m5,bo.done g4,hS⟩ ((Ek.trans (e4.mono fun z _ h=>by rcases h with h|rfl;exact hC z h;exact s1)).trans (e5.mono fun z _ h=>h▸s2))⟩
theorem C9{n:Nat}{H:Hp}{S:Nat→Prop}{w:Nw}(h:dN n H S w)(x:Int):af Tryz.prog yR [ptr n,i64 x] H fun v H'=>aw (
  (¬cY w.cs x∧v= .bool false∧cB (dN n) S H H' w)∨(cY w.cs x∧v= .bool true∧cB (dN n) S H H' (w.put x (0,0,0)))):=by
 obtain⟨B,C,L,T,rfl,m,t,hS⟩:=id h
 have hC:∀z,C z→S z:=fun z h=>(hS z).2 (.inl h)
 have s1:S B.tl:=(hS _).2 (.inr (.inr (.inr (.inl rfl))))
 have s2:S B.mp:=(hS _).2 (.inr (.inr (.inr (.inr rfl))))
 refine Fa zr ⟨rfl,?_⟩
 refine v2 nq.eq_1 (ae m.own) ?_
 refine(di m.cells x).mono ?_
 rintro _ H1 (⟨bO,rfl,rfl⟩| ⟨bJ,rfl,c1,e1⟩)
 ·refine vs ?_
  exact .inl ⟨bO,rfl,cB.same h (ag.refl _ _)⟩
 have m1:=m.aJ c1 e1 rfl
 have dH:=bz.2 bJ
 obtain⟨gf,jZ,_⟩:=aF dH
 have Du:x≠ -1:=by omega
 have ls:=au w
 obtain⟨⟨d1,d2,d3⟩,⟨d4,d5⟩,d6⟩:=m.ml
 refine vs ?_
 refine jB.intro (fun H'=>H'.own B.n=some [ptr B.c,ptr B.t,.map (some B.mp)]) m1.own ?_
 refine vs ?_
 refine fJ.intro (ptr B.t) (fun H' hI=>by refine v1 (ae hI) ?_;trivial) ?_
 refine v1 (ae m1.own) ?_
 refine And.intro m1.own ?_
 refine vs ?_
 obtain⟨a1,b1,ea1⟩:=cI (bc L x false)
 refine(lL m1.bY x).mono ?_
 rintro _ H' ⟨rfl,e⟩
 obtain rfl:=e.symm
 rw[ea1]
 refine And.intro m1.own ?_
 refine vs ?_
 refine(lQ m1 t.bt ea1).mono ?_
 rintro _ H2 ⟨rfl,L2,m2,k2,u2,e2⟩
 refine And.intro m2.own ?_
 refine vs ?_
 have bt2:Bi w L2:=by
  show Bt _ _ _ _
  rw[k2,u2];exact t.bt.TF _
 have er:bc L2 x true=bc L x true:=by
  rw[k2,mO t.bt,if_neg]
  rintro⟨h1,h2⟩
  exact h1 (t.bt.two x h2.symm)
 obtain⟨a2,b2,ea2⟩:=cI (bc L2 x true)
 refine(cz m2.bY x).mono ?_
 rintro _ H' ⟨rfl,e⟩
 obtain rfl:=e.symm
 rw[ea2]
 refine And.intro m2.own ?_
 refine vs ?_
 refine(lQ m2 bt2 ea2).mono ?_
 rintro _ H3 ⟨rfl,L3,m3,k3,u3,e3⟩
 refine And.intro m3.own ?_
 rw[er]at k3 u3
 rw[k2,u2]at k3
 rw[u2]at u3
 obtain⟨w1,w2,w3,w4⟩:=t.bt.bare x
 have hk:∀c,bc L x c= -1∨(aG w (bc L x c)=aG w x∧bq L3 (bc L x c)= -1):=fun c=>by
  by_cases hk:bc L x c= -1
  ·exact .inl hk
  ·refine .inr ⟨(t.bt.home hk).2.2.1,?_⟩
   rw[u3,w4,if_pos]
   cases c
   ·exact .inl rfl
   ·exact .inr rfl
 rw[←k3,←u3]at w1
 have mg:=Mg.start w1 dH (hk false) (hk true) (fun e=>t.bt.two x e)
 rw[er]
 refine vs ?_
 refine(lR m3 mg).mono ?_
 rintro _ H4 ⟨r,L4,rfl,m4,g4,f4,e4⟩
 refine And.intro m4.own ?_
 refine vs ?_
 have f4:=f4 x (vV.start (fun hk=>(t.bt.home hk).2.2.2.2) (fun hk=>(t.bt.home hk).2.2.2.2))
 have d:=t.Vh ls dH k3 u3 g4 f4
 have vI:ag S H H4:=(((e1.mono fun z _ h=>hC z h).trans (e2.mono fun z _ h=>h▸s1)).trans (e3.mono fun z _ h=>h▸s1)).trans (e4.mono fun z _ h=>by rcases h with h|rfl;exact hC z h;exact s1)
 have cN:=fun y=>dV (w:=w) ⟨gf,jZ⟩ (0,0,0) y
 have p0:aG (w.put x (0,0,0)) (-1)=0:=rfl
 have p1:aG (w.put x (0,0,0)) x=0:=by rw[cN,if_pos rfl]
 have p2:∀y,y≠x→aG (w.put x (0,0,0)) y=aG w y:=fun y hy=>by rw[cN,if_neg hy]
 have el:∀a b,0<aG w a→0<aG w b→a≠x→b≠x→aQ (w.put x (0,0,0)) a b=aQ w a b:=fun a b ha hb tS mq=>dw ⟨gf,jZ⟩ _ ha hb tS mq
 have mF:(w.put x (0,0,0)).cs.length=w.cs.length:=by simp[Nw.put]
 refine v1 (ae m4.own) ?_
 refine(oT m4.bY x).mono ?_
 rintro _ H' ⟨rfl,e⟩
 obtain rfl:=e.symm
 rw[d.ux]
 unfold gC
 by_cases hu:bq L x= -1
 ·rw[if_pos hu]
  refine vs ?_
  refine(lP m4 _ r).mono ?_
  rintro _ H5 ⟨m5,e5⟩
  refine v1 (ae m5.own) ?_
  refine(ci m5.cells x).mono ?_
  rintro _ H6 (⟨bO,_,_⟩| ⟨_,rfl,c6,e6⟩)
  ·exact absurd bJ bO
  have m6:=m5.aJ c6 e6 mF
  refine vs ?_
  exact .inr ⟨bJ,rfl,cB.same ⟨B,C,L4,_,rfl,m6,d.Rb t dH hu p0 p1 p2 el,hS⟩ ((vI.trans (e5.mono fun z _ h=>h▸s2)).trans (e6.mono fun z _ h=>hC z h))⟩
 ·rw[if_neg hu]
  have E0:=Bi.up t.bt hu
  obtain⟨w5,w6⟩:=d.cut t ls dH hu
  obtain⟨a3,b3,Zd⟩:=cI (bc L4 (bq L x) true)
  refine v1 (ae m4.own) ?_
  refine(cz m4.bY (bq L x)).mono ?_
  rintro _ H' ⟨rfl,e⟩
  obtain rfl:=e.symm
  rw[Zd]
  refine v1 (ae m4.own) ?_
  refine(cH m4.bY (x:=x) (fun hu2=>by have:=Bi.up d.bt hu2;have:=m4.len;omega)).mono ?_
  rintro _ H5 ⟨rfl,L5,t5,l5,k5,u5,e5⟩
  have m5:=m4.dF t5 e5 l5
  refine vs ?_
  have Vz:=vI.trans (e5.mono fun z _ h=>h▸s1)
  refine am.dec (fun g=>?_) (fun g=>?_)<;>refine vs ?_
  ·refine v1 (ae m5.own) ?_
   refine(ci m5.cells x).mono ?_
   rintro _ H8 (⟨bO,_,_⟩| ⟨_,rfl,c8,e8⟩)
   ·exact absurd bJ bO
   have m8:=m5.aJ c8 e8 mF
   refine vs ?_
   have b6:Bi w L5:=by
    show Bt _ _ _ _
    rw[k5,u5];exact w5 g
   refine .inr ⟨bJ,rfl,cB.same ⟨B,C,L5,T,rfl,m8,?_,hS⟩ (Vz.trans (e8.mono fun z _ h=>hC z h))⟩
   exact d.below t ls (n:=w.cs.length) (fun y hy=>by obtain⟨y0,y1,_⟩:=aF hy;exact⟨y0,y1⟩) dH hu b6 (by rw[if_pos g];exact u5) p0 p1 p2 el
  ·obtain⟨y1,y2,y3,y4⟩:=w6 g
   obtain⟨r1,r2,r3,r4⟩:=d.rx g
   obtain⟨q1,q2,_⟩:=aF (w:=w) (x:=r) (by omega)
   have Tn:=m5.len
   rw[d.kp _ true rfl hu]at Zd
   rcases LS Zd with ⟨rfl,h2⟩| ⟨rfl,rfl,h3⟩
   ·have WG:false=(bc L (bq L x) true==x):=by
     rw[h2]
     exact(beq_eq_false_iff_ne.2 (Ne.symm Du)).symm
    refine v1 (ae m5.own) ?_
    refine(eY m5.bY (p:=bq L x) (x:=r) (c:=false) ⟨E0.1,by omega⟩ ⟨q1,by omega⟩ y3 (by rw[u5];exact y2) (by rw[k5,WG];exact y1)).mono ?_
    rintro _ H6 ⟨rfl,L6,t6,l6,k6,RW,e6⟩
    have m6:=m5.dF t6 e6 l6
    have LG:=Vz.trans (e6.mono fun z _ h=>h▸s1)
    rw[k5]at k6
    rw[u5]at RW
    rw[WG]at k6
    have b6:Bi w L6:=by
     show Bt _ _ _ _
     rw[k6,RW];exact y4
    have u6:bq L6=if r= -1 then c9 (bq L4) x else aH (c9 (bq L4) x) r (bq L x):=by rw[if_neg g];exact RW
    refine v1 (ae m6.own) ?_
    refine(ci m6.cells x).mono ?_
    rintro _ H8 (⟨bO,_,_⟩| ⟨_,rfl,c8,e8⟩)
    ·exact absurd bJ bO
    have m8:=m6.aJ c8 e8 mF
    refine vs ?_
    refine .inr ⟨bJ,rfl,cB.same ⟨B,C,L6,T,rfl,m8,?_,hS⟩ (LG.trans (e8.mono fun z _ h=>hC z h))⟩
    exact d.below t ls (n:=w.cs.length) (fun y hy=>by obtain⟨y0,y1,_⟩:=aF hy;exact⟨y0,y1⟩) dH hu b6 u6 p0 p1 p2 el
   ·have WG:decide (bc L (bq L x) true=x)=(bc L (bq L x) true==x):=by rw[Bool.eq_iff_iff];simp
    refine v1 (ae m5.own) ?_
    refine(eY m5.bY (p:=bq L x) (x:=r) (c:=decide (bc L (bq L x) true=x)) ⟨E0.1,by omega⟩ ⟨q1,by omega⟩ y3 (by rw[u5];exact y2) (by rw[k5,WG];exact y1)).mono ?_
    rintro _ H6 ⟨rfl,L6,t6,l6,k6,RW,e6⟩
    have m6:=m5.dF t6 e6 l6
    have LG:=Vz.trans (e6.mono fun z _ h=>h▸s1)
    rw[k5]at k6
    rw[u5]at RW
    rw[WG]at k6
    have b6:Bi w L6:=by
     show Bt _ _ _ _
     rw[k6,RW];exact y4
    have u6:bq L6=if r= -1 then c9 (bq L4) x else aH (c9 (bq L4) x) r (bq L x):=by rw[if_neg g];exact RW
    refine v1 (ae m6.own) ?_
    refine(ci m6.cells x).mono ?_
    rintro _ H8 (⟨bO,_,_⟩| ⟨_,rfl,c8,e8⟩)
    ·exact absurd bJ bO
    have m8:=m6.aJ c8 e8 mF
    refine vs ?_
    refine .inr ⟨bJ,rfl,cB.same ⟨B,C,L6,T,rfl,m8,?_,hS⟩ (LG.trans (e8.mono fun z _ h=>hC z h))⟩
    exact d.below t ls (n:=w.cs.length) (fun y hy=>by obtain⟨y0,y1,_⟩:=aF hy;exact⟨y0,y1⟩) dH hu b6 u6 p0 p1 p2 el
theorem BD{n:Nat}{H:Hp}{S:Nat→Prop}{w:Nw}(h:dN n H S w)(g:Int):af Tryz.prog lY [ptr n,i64 g] H fun v H'=>aw (
  (w.len g=0∧v= .tuple [i64 0,.bool false].toArray∧cB (dN n) S H H' w)∨(∃x,w.first g x∧v= .tuple [i64 x,.bool true].toArray∧cB (dN n) S H H' (w.put x (0,0,0)))):=by
 refine bv xo ?_
 refine vs ?_
 refine(yt h g).mono ?_
 rintro _ _ ⟨⟨h0,rfl⟩| ⟨x,hx,rfl⟩,rfl⟩
 ·refine vs ?_
  exact .inl ⟨h0,rfl,cB.same h (ag.refl _ _)⟩
 ·refine vs ?_
  refine(C9 h x).mono ?_
  rintro _ H1 (⟨bO,_,_⟩| ⟨_,rfl,h1⟩)
  ·exact absurd (bz.1 (by have:=bM.1 hx;omega)) bO
  refine vs ?_
  exact .inr ⟨x,hx,rfl,h1⟩
theorem Qh(n:Nat):yi (.iface 214 (ptr n)) (dN n) where
 slt h:=h.slt
 ext h e hd:=h.ext e hd
 cells:=by
  rintro H S w ⟨B,C,L,T,rfl,m,l,hS⟩
  exact⟨B.c,C,m.cells⟩
 has:=by
  rintro H S w g ⟨B,C,L,T,rfl,m,l,hS⟩
  exact⟨_,_,bE,ptr B.c,rfl,fU (off:=0) (by kernel_rfl) (ae m.own) rfl,(iH m.cells g).mono fun v H' hp=>hp⟩
 make:=by
  rintro H S w ⟨B,C,L,T,rfl,m,l,hS⟩
  exact⟨_,_,du,ptr B.c,rfl,fU (off:=0) (by kernel_rfl) (ae m.own) rfl,(Gg m l rfl hS).mono fun v H' hp=>hp⟩
 insert:=by
  intro H S w g x k s h
  exact⟨_,_,mZ,ptr n,rfl,bD (by kernel_rfl),(C8 h g x k s).mono fun v H' hp=>hp⟩
 min:=by
  intro H S w g h
  refine⟨_,_,sI,ptr n,rfl,bD (by kernel_rfl),(yt h g).mono ?_⟩
  rintro v H' ⟨⟨h1,rfl⟩| ⟨x,h1,rfl⟩,rfl⟩
  ·exact .inl ⟨h1,rfl,cB.same h (ag.refl _ _)⟩
  ·exact .inr ⟨x,h1,rfl,cB.same h (ag.refl _ _)⟩
 extract:=by
  intro H S w g h
  exact⟨_,_,lY,ptr n,rfl,bD (by kernel_rfl),(BD h g).mono fun v H' hp=>hp⟩
 lf:=by
  intro H S w x k s h
  exact⟨_,_,kM,ptr n,rfl,bD (by kernel_rfl),(zN h x k s).mono fun v H' hp=>hp⟩
 entry:=by
  rintro H S w x ⟨B,C,L,T,rfl,m,l,hS⟩
  refine⟨_,_,bh,ptr B.c,rfl,fU (off:=0) (by kernel_rfl) (ae m.own) rfl,(gQ m.cells x).mono ?_⟩
  rintro v H' ⟨c1,f,hv⟩
  exact⟨⟨B,C,L,T,rfl,m.fresh f,l,hS⟩,f,hv⟩
structure PB where
 n:Nat
 c:Nat
 tb:Nat
 tp:Nat
structure bQ(H:Hp)(B:PB)(C:Nat→Prop)(w:Nw)(L:List Lk)(tops:List Int):Prop where
 own:∃tv,H.own B.n=some [ptr B.c,.slice (some ⟨B.tb,0,none⟩) L.length L.length,tv]∧Sl H 1 tv tops.length (tops.map i64) (some B.tp)
 cells:CQ H B.c C w
 eZ:H.own B.tb=some (aN L)
 len:L.length=w.cs.length
 ml:B.n≠B.tb∧B.n≠B.tp∧B.tb≠B.tp
 out:¬C B.n∧¬C B.tb∧¬C B.tp
def PB.S(B:PB)(C:Nat→Prop)(z:Nat):Prop:=C z∨z=B.n∨z=B.tb∨z=B.tp
section
variable {H H' : Hp} {B : PB} {C V : Nat → Prop} {w w' : Nw} {L L' : List Lk} {tops : List Int}
theorem bQ.slt(h:bQ H B C w L tops):∀z,B.S C z→z<H.size:=by
 obtain⟨tv,h1,h2⟩:=h.own
 rintro z (hz|rfl|rfl|rfl)
 ·exact h.cells.slt z hz
 ·exact aB h1
 ·exact aB h.eZ
 ·exact h2.lt
theorem bQ.ext(h:bQ H B C w L tops)(e:ag V H H')(hd:∀z,B.S C z→¬V z):bQ H' B C w L tops:=by
 obtain⟨tv,h1,h2⟩:=h.own
 exact⟨⟨tv,e.own h1 (hd _ (.inr (.inl rfl))),h2.ext e (fun b hb=>by injection hb with hb;exact hb▸hd _ (.inr (.inr (.inr rfl))))⟩,h.cells.ext e (fun x hx=>hd x (.inl hx)),
  e.own h.eZ (hd _ (.inr (.inr (.inl rfl)))),h.len,h.ml,h.out⟩
theorem bQ.fresh(h:bQ H B C w L tops)(e:ah H H'):bQ H' B C w L tops:=h.ext e fun _ _ h=>h
theorem bQ.aJ(h:bQ H B C w L tops)(c1:CQ H' B.c C w')(e:ag C H H')(hl:w'.cs.length=w.cs.length):bQ H' B C w' L tops:=by
 obtain⟨tv,h1,h2⟩:=h.own
 obtain⟨o1,o2,o3⟩:=h.out
 exact⟨⟨tv,e.own h1 o1,h2.ext e (fun b hb=>by injection hb with hb;exact hb▸o3)⟩,c1,e.own h.eZ o2,by rw[hl];exact h.len,h.ml,h.out⟩
theorem bQ.O4(h:bQ H B C w L tops)(hl:L'.length=L.length):bQ (H.wr B.tb (aN L')) B C w L' tops∧ag (fun z=>z=B.tb) H (H.wr B.tb (aN L')):=by
 obtain⟨tv,h1,h2⟩:=h.own
 obtain⟨o1,o2,o3⟩:=h.out
 obtain⟨d1,d2,d3⟩:=h.ml
 have e:ag (fun z=>z=B.tb) H (H.wr B.tb (aN L')):=(ag.refl (fun z=>z=B.tb) _).wr (fun _=>rfl) _
 exact⟨⟨⟨tv,by rw[hl];exact e.own h1 d1,h2.ext e (fun b hb=>by injection hb with hb;omega)⟩,h.cells.ext e (fun x hx hz=>o2 (hz▸hx)),ai h.eZ,by rw[hl];exact h.len,h.ml,h.out⟩,e⟩
theorem bQ.fT(h:bQ H B C w L tops):∃c l,H.own B.n=some [ptr B.c,.slice (some ⟨B.tb,0,none⟩) L.length L.length,.slice (some ⟨B.tp,0,none⟩) tops.length c]∧H.own B.tp=some l∧tops.length≤c∧c≤l.length∧l.take tops.length=tops.map i64:=by
 obtain⟨tv,h1,_,l,c,rfl,h3,h4,h5,h6⟩:=h.own
 rw[aol]at h5 h6
 exact⟨c,l,h1,h3,h4,h5,h6⟩
theorem bQ.eR(h:bQ H B C w L tops){l:List Value}(hl:H.own B.tp=some l){i:Nat}{x:Int}(hx:tops[i]? =some x):l[i]? =some (i64 x):=by
 obtain⟨c,l',_,h2,_,_,h5⟩:=h.fT
 rw[hl]at h2
 injection h2 with h2
 subst h2
 have h7:(tops.map i64)[i]? =some (i64 x):=by rw[aoG,hx];rfl
 rw[←h5,aoV]at h7
 split at h7
 ·exact h7
 ·cases h7
theorem bQ.ld(h:bQ H B C w L tops){l:List Value}(hl:H.own B.tp=some l)(i:Nat)(v:Int):bQ (H.wr B.tp (l.set i (i64 v))) B C w L (tops.set i v)∧ag (fun z=>z=B.tp) H (H.wr B.tp (l.set i (i64 v))):=by
 obtain⟨c,l',h1,h2,h3,h4,h5⟩:=h.fT
 rw[hl]at h2
 injection h2 with h2
 subst h2
 obtain⟨o1,o2,o3⟩:=h.out
 obtain⟨d1,d2,d3⟩:=h.ml
 have e:ag (fun z=>z=B.tp) H (H.wr B.tp (l.set i (i64 v))):=(ag.refl (fun z=>z=B.tp) _).wr (fun _=>rfl) _
 refine⟨⟨⟨_,e.own h1 d2,?_⟩,h.cells.ext e (fun x hx hz=>o3 (hz▸hx)),e.own h.eZ d3,h.len,h.ml,h.out⟩,e⟩
 refine⟨by simp,l.set i (i64 v),c,by rw[aok],ai hl,by rw[aok];exact h3,by rw[aok,aol];exact h4,?_⟩
 rw[aok,aol,vG,h5,ao4]
theorem bQ.rd(h:bQ H B C w L tops){x:Int}(hx:0≤x∧x<w.cs.length):x.toNat*3+2< (aN L).length∧(aN L)[x.toNat*3]? =some (i64 (bc L x false))∧(aN L)[x.toNat*3+1]? =some (i64 (bc L x true))∧(aN L)[x.toNat*3+2]? =some (i64 (bq L x)):=by
 have hl:=h.len
 have hf:=iI L
 obtain⟨y,hy⟩:∃y,L[x.toNat]? =some y:=⟨_,aoh (by omega)⟩
 obtain⟨h1,h2,h3⟩:=OP hy
 rw[oS hx.1 hy,oS hx.1 hy,uJ hx.1 hy]
 exact⟨by omega,h1,h2,h3⟩
theorem bQ.ND(h:bQ H B C w L tops){x:Int}(hx:0≤x∧x<w.cs.length)(v:Int):∃L',bc L'=ez (bc L) x false v∧bq L'=bq L∧bQ (H.wr B.tb ((aN L).set (x.toNat*3) (i64 v))) B C w L' tops∧ag (fun z=>z=B.tb) H (H.wr B.tb ((aN L).set (x.toNat*3) (i64 v))):=by
 have hl:=h.len
 obtain⟨y,hy⟩:∃y,L[x.toNat]? =some y:=⟨_,aoh (by omega)⟩
 refine⟨L.set x.toNat (y.fQ false v),rW hx.1 hy false v,rX hx.1 hy false v,?_⟩
 have:=vF hy false v
 rw[show x.toNat*3+false.toNat=x.toNat*3 from rfl]at this
 rw[this]
 exact h.O4 (aok ..)
theorem bQ.NL(h:bQ H B C w L tops){x:Int}(hx:0≤x∧x<w.cs.length)(v:Int):∃L',bc L'=ez (bc L) x true v∧bq L'=bq L∧bQ (H.wr B.tb ((aN L).set (x.toNat*3+1) (i64 v))) B C w L' tops∧ag (fun z=>z=B.tb) H (H.wr B.tb ((aN L).set (x.toNat*3+1) (i64 v))):=by
 have hl:=h.len
 obtain⟨y,hy⟩:∃y,L[x.toNat]? =some y:=⟨_,aoh (by omega)⟩
 refine⟨L.set x.toNat (y.fQ true v),rW hx.1 hy true v,rX hx.1 hy true v,?_⟩
 have:=vF hy true v
 rw[show x.toNat*3+true.toNat=x.toNat*3+1 from rfl]at this
 rw[this]
 exact h.O4 (aok ..)
theorem bQ.JQ(h:bQ H B C w L tops){x:Int}(hx:0≤x∧x<w.cs.length)(v:Int):∃L',bc L'=bc L∧bq L'=aH (bq L) x v∧bQ (H.wr B.tb ((aN L).set (x.toNat*3+2) (i64 v))) B C w L' tops∧ag (fun z=>z=B.tb) H (H.wr B.tb ((aN L).set (x.toNat*3+2) (i64 v))):=by
 have hl:=h.len
 obtain⟨y,hy⟩:∃y,L[x.toNat]? =some y:=⟨_,aoh (by omega)⟩
 refine⟨L.set x.toNat ⟨y.a,y.b,v⟩,CN hx.1 hy v,CO hx.1 hy v,?_⟩
 rw[FN hy v]
 exact h.O4 (aok ..)
variable {g : Int} {R : Int → Prop} {GY ch : Int → List Int} {par : Int → Int} {W : List Int} {a b : Int}
theorem de(m:bQ H B C w L tops)(pw:Dt (aG w) (aQ w) g R GY ch par (ws [a,b]++W))(pl:Jb (bc L) (bq L) ch par):
  af Tryz.prog wB [ptr B.n,i64 a,i64 b] H fun v H'=>aw (∃r L' dO bG,v=i64 r∧(r= -1→a= -1∧b= -1)∧bQ H' B C w L' tops∧Dt (aG w) (aQ w) g R GY dO bG (ws [r]++W)∧Jb (bc L') (bq L') dO bG∧ag (fun z=>C z∨z=B.tb) H H'):=by
 refine bv xg ?_
 refine vs ?_
 rw[mz,dZ a,dZ b]at pw
 refine am.dec (fun ga=>?_) (fun ga=>?_)<;>refine vs ?_
 ·rw[if_pos ga]at pw
  rw[←dZ b]at pw
  exact⟨b,L,ch,par,rfl,fun h=>⟨ga,h⟩,m,pw,pl,ag.refl _ _⟩
 rw[if_neg ga]at pw
 refine am.dec (fun gb=>?_) (fun gb=>?_)<;>refine vs ?_
 ·rw[if_pos gb]at pw
  exact⟨a,L,ch,par,rfl,fun h=>⟨h,gb⟩,m,by rw[dZ,if_neg ga];exact pw,pl,ag.refl _ _⟩
 rw[if_neg gb]at pw
 obtain⟨tv,o1,_⟩:=m.own
 refine v1 (ae o1) ?_
 refine(cF m.cells b a).mono ?_
 rintro _ H2 ⟨rfl,c2,e2⟩
 have m2:=m.aJ c2 e2 rfl
 have Up:Dt (aG w) (aQ w) g R GY ch par (a::b::W):=pw
 obtain⟨a1,a2,a3⟩:=Up.wm a (by simp)
 obtain⟨b1,b2,b3⟩:=Up.wm b (by simp)
 have BZ:=gS (w:=w) (a:=b) (b:=a) (by rw[b2];exact Up.g0) (by rw[a2];exact Up.g0)
 rw[BZ]
 have aP:a≠b:=fun e=>by have:=Up.nd;rw[e]at this;simp at this
 obtain⟨p,q,Oz,hl,pw2⟩:∃p q,(if aQ w b a=true then(p=b∧q=a)else(p=a∧q=b))∧aQ w p q=true∧Dt (aG w) (aQ w) g R GY ch par (p::q::W):=by
  cases aO:aQ w b a
  ·exact⟨a,b,by simp,((au w).OD a b aP).resolve_right (by rw[aO];simp),Up⟩
  ·exact⟨b,a,by simp,aO,Up.perm (List.Perm.swap ..)⟩
 obtain⟨p1,p2,p3⟩:=pw2.wm p (by simp)
 obtain⟨q1,q2,q3⟩:=pw2.wm q (by simp)
 have agm:p≠q:=fun e=>by rw[e,(au w).vy]at hl;cases hl
 have pw3:=pw2.link hl
 have Tu:=pl.link pw2.pr p1 q3 agm
 obtain⟨px,py,_⟩:=aF (w:=w) (x:=p) (by rw[p2];exact Up.g0)
 obtain⟨qx,qy,_⟩:=aF (w:=w) (x:=q) (by rw[q2];exact Up.g0)
 have hold:bc L p false≠ -1→0≤bc L p false∧bc L p false<w.cs.length:=fun h=>by
  have h1:bc L p false∈ch p:=by rw[pl.hd]at h ⊢;exact eA h
  have h2:=(pw2.pr.dn p _ h1).2.2.2.1
  obtain⟨z0,z1,_⟩:=aF h2
  exact⟨z0,z1⟩
 have aZ:=m2.len
 have ws1:ws [p]=[p]:=by rw[dZ,if_neg p1]
 cases aO:aQ w b a<;>simp only[aO,if_true,if_false,api]at Oz<;>obtain⟨rfl,rfl⟩:=Oz<;>refine vs ?_
 all_goals
  obtain⟨No,o2,_⟩:=m2.own
  obtain⟨r0,r1,r2,r3⟩:=m2.rd ⟨px,py⟩
  refine v1 (ae o2) ?_
  refine⟨⟨by omega,by omega⟩,?_⟩
  refine v4 (ae m2.eZ) aoi Nat.add_zero r1 ?_
  refine v1 (ae o2) ?_
  refine⟨⟨by omega,by omega⟩,?_⟩
  obtain⟨L3,k3,u3,m3,e3⟩:=m2.NL ⟨qx,qy⟩ (bc L p false)
  obtain⟨s0,_⟩:=m2.rd ⟨qx,qy⟩
  refine v3 m2.eZ aoi Nat.add_zero ?_
  refine⟨by omega,?_⟩
  refine vs ?_
  generalize H2.wr B.tb ((aN L).set (q.toNat*3+1) (i64 (bc L p false)))=H3 at*
  obtain⟨L4,k4,u4,m4,e4⟩:=m3.JQ ⟨qx,qy⟩ p
  obtain⟨s4,_⟩:=m3.rd ⟨qx,qy⟩
  refine⟨⟨by omega,by omega⟩,?_⟩
  refine v3 m3.eZ aoi Nat.add_zero ?_
  refine⟨by omega,?_⟩
  refine vs ?_
  generalize H3.wr B.tb ((aN L3).set (q.toNat*3+2) (i64 p))=H4 at*
  have e24:ag (fun z=>C z∨z=B.tb) H H4:=((e2.mono fun z _ h=>.inl h).trans (e3.mono fun z _ h=>.inr h)).trans (e4.mono fun z _ h=>.inr h)
  have Ui:=m4.len
  refine am.dec (fun go=>?_) (fun go=>?_)<;>refine vs ?_
  ·obtain⟨tv4,o4,_⟩:=m4.own
   obtain⟨L5,k5,u5,m5,e5⟩:=m4.ND ⟨px,py⟩ q
   obtain⟨s5,_⟩:=m4.rd ⟨px,py⟩
   refine v1 (ae o4) ?_
   refine⟨⟨by omega,by omega⟩,?_⟩
   refine v3 m4.eZ aoi Nat.add_zero ?_
   refine⟨by omega,?_⟩
   refine vs ?_
   refine⟨p,L5,_,_,rfl,fun h=>absurd h p1,m5,by rw[ws1];exact pw3,?_,e24.trans (e5.mono fun z _ h=>.inr h)⟩
   rw[if_pos go]at Tu
   rw[k5,u5,k4,u4,k3,u3]
   exact Tu
  ·obtain⟨tv4,o4,_⟩:=m4.own
   obtain⟨ox,oy⟩:=hold go
   obtain⟨L5,k5,u5,m5,e5⟩:=m4.JQ ⟨ox,oy⟩ q
   obtain⟨s5,_⟩:=m4.rd ⟨ox,oy⟩
   refine v1 (ae o4) ?_
   refine⟨⟨by omega,by omega⟩,?_⟩
   refine v3 m4.eZ aoi Nat.add_zero ?_
   refine⟨by omega,?_⟩
   refine vs ?_
   generalize H4.wr B.tb ((aN L4).set ((bc L p false).toNat*3+2) (i64 q))=H5 at*
   obtain⟨tv5,o5,_⟩:=m5.own
   have Tn:=m5.len
   obtain⟨L6,k6,u6,m6,e6⟩:=m5.ND ⟨px,py⟩ q
   obtain⟨s6,_⟩:=m5.rd ⟨px,py⟩
   refine v1 (ae o5) ?_
   refine⟨⟨by omega,by omega⟩,?_⟩
   refine v3 m5.eZ aoi Nat.add_zero ?_
   refine⟨by omega,?_⟩
   refine vs ?_
   refine⟨p,L6,_,_,rfl,fun h=>absurd h p1,m6,by rw[ws1];exact pw3,?_,(e24.trans (e5.mono fun z _ h=>.inr h)).trans (e6.mono fun z _ h=>.inr h)⟩
   rw[if_neg go]at Tu
   rw[k6,u6,k5,u5,k4,u4,k3,u3]
   exact Tu
theorem qC(m:bQ H B C w L tops){lt:Int→Int→Bool}(hs:bA lt)(q:Pr (aG w) lt ch par)(pl:Jb (bc L) (bq L) ch par){p x:Int}{l1 l2:List Int}(hp:ch p=l1++x::l2):
  af Tryz.prog yN [ptr B.n,i64 x] H fun v H'=>aw (∃L',bQ H' B C w L' tops∧Jb (bc L') (bq L') (ay ch p (l1++l2)) (aH par x (-1))∧ag (fun z=>z=B.tb) H H'):=by
 obtain⟨f1,f2,f7,f3,f4,f5,f6⟩:=pl.off q hs hp
 have hx:=(q.dn p x (by rw[hp];simp)).2.2.2.1
 obtain⟨x0,x1,_⟩:=aF hx
 obtain⟨y0,y1,_⟩:=aF (w:=w) (x:=bq L x) (by omega)
 obtain⟨tv,o1,_⟩:=m.own
 obtain⟨r0,r1,r2,r3⟩:=m.rd ⟨x0,x1⟩
 obtain⟨t0,t1,t2,t3⟩:=m.rd ⟨y0,y1⟩
 have hl:=m.len
 refine Fa zm ⟨rfl,?_⟩
 refine v2 nm.eq_1 (ae o1) ?_
 refine⟨⟨by omega,by omega⟩,?_⟩
 refine v5 (ae o1) (ae m.eZ) aoi Nat.add_zero r3 ?_
 refine⟨⟨by omega,by omega⟩,?_⟩
 refine v4 (ae m.eZ) aoi Nat.add_zero t1 ?_
 have bx:bq L x≠x:=f7
 refine am.dec (fun g=>?_) (fun g=>?_)<;>refine vs ?_
 ·have sG:=f1.1 g
  rw[if_pos sG]at f6
  refine v6 (ae o1) (ae m.eZ) aoi Nat.add_zero r2 r3 ?_
  refine⟨⟨by omega,by omega⟩,?_⟩
  obtain⟨L1,k1,u1,m1,e1⟩:=m.ND ⟨y0,y1⟩ (bc L x true)
  refine v3 m.eZ aoi Nat.add_zero ?_
  refine⟨by omega,?_⟩
  refine vs ?_
  generalize H.wr B.tb ((aN L).set ((bq L x).toNat*3) (i64 (bc L x true)))=H1 at*
  obtain⟨s0,s1,s2,s3⟩:=m1.rd ⟨x0,x1⟩
  have sG:=m1.len
  obtain⟨CR,o1,_⟩:=m1.own
  have en:bc L1 x true=bc L x true:=by
   rw[k1]
   unfold ez
   rw[if_neg (by simp[bx.symm])]
  have eu:bq L1 x=bq L x:=by rw[u1]
  rw[en]at s2
  rw[eu]at s3
  refine v4 (ae m1.eZ) aoi Nat.add_zero s2 ?_
  refine am.dec (fun gn=>?_) (fun gn=>?_)<;>refine vs ?_
  ·obtain⟨L2,k2,u2,m2,e2⟩:=m1.NL ⟨x0,x1⟩ (-1)
   refine v3 m1.eZ aoi Nat.add_zero ?_
   refine⟨by omega,?_⟩
   obtain⟨v0,_⟩:=m2.rd ⟨x0,x1⟩
   obtain⟨L3,k3,u3,m3,e3⟩:=m2.JQ ⟨x0,x1⟩ (-1)
   refine vs ?_
   generalize H1.wr B.tb ((aN L1).set (x.toNat*3+1) (Value.int .i64 (-1)))=H2 at*
   refine v3 m2.eZ aoi Nat.add_zero ?_
   refine⟨by omega,?_⟩
   refine vs ?_
   refine⟨L3,m3,?_,(e1.trans e2).trans e3⟩
   rw[if_pos gn]at f6
   rw[k3,u3,k2,u2,k1,u1]
   exact f6
  ·obtain⟨z0,z1,_⟩:=aF (w:=w) (x:=bc L x true) (by rw[f5 gn];exact hx)
   obtain⟨v0,_⟩:=m1.rd ⟨z0,z1⟩
   refine v6 (ae o1) (ae m1.eZ) aoi Nat.add_zero s2 s3 ?_
   refine⟨⟨by omega,by omega⟩,?_⟩
   obtain⟨L2,k2,u2,m2,e2⟩:=m1.JQ ⟨z0,z1⟩ (bq L x)
   refine v3 m1.eZ aoi Nat.add_zero ?_
   refine⟨by omega,?_⟩
   refine vs ?_
   generalize H1.wr B.tb ((aN L1).set ((bc L x true).toNat*3+2) (i64 (bq L x)))=H2 at*
   obtain⟨v1,_⟩:=m2.rd ⟨x0,x1⟩
   obtain⟨L3,k3,u3,m3,e3⟩:=m2.NL ⟨x0,x1⟩ (-1)
   refine v3 m2.eZ aoi Nat.add_zero ?_
   refine⟨by omega,?_⟩
   obtain⟨v2,_⟩:=m3.rd ⟨x0,x1⟩
   obtain⟨L4,k4,u4,m4,e4⟩:=m3.JQ ⟨x0,x1⟩ (-1)
   refine vs ?_
   generalize H2.wr B.tb ((aN L2).set (x.toNat*3+1) (Value.int .i64 (-1)))=H3 at*
   refine v3 m3.eZ aoi Nat.add_zero ?_
   refine⟨by omega,?_⟩
   refine vs ?_
   refine⟨L4,m4,?_,((e1.trans e2).trans e3).trans e4⟩
   rw[if_neg gn]at f6
   rw[k4,u4,k3,u3,k2,u2,k1,u1]
   exact f6
 ·have sG:l1≠[]:=fun h=>g (f1.2 h)
  rw[if_neg sG]at f6
  refine v6 (ae o1) (ae m.eZ) aoi Nat.add_zero r2 r3 ?_
  refine⟨⟨by omega,by omega⟩,?_⟩
  obtain⟨L1,k1,u1,m1,e1⟩:=m.NL ⟨y0,y1⟩ (bc L x true)
  refine v3 m.eZ aoi Nat.add_zero ?_
  refine⟨by omega,?_⟩
  refine vs ?_
  generalize H.wr B.tb ((aN L).set ((bq L x).toNat*3+1) (i64 (bc L x true)))=H1 at*
  obtain⟨s0,s1,s2,s3⟩:=m1.rd ⟨x0,x1⟩
  have sG:=m1.len
  obtain⟨CR,o1,_⟩:=m1.own
  have en:bc L1 x true=bc L x true:=by
   rw[k1]
   unfold ez
   rw[if_neg (by simp[bx.symm])]
  have eu:bq L1 x=bq L x:=by rw[u1]
  rw[en]at s2
  rw[eu]at s3
  refine v4 (ae m1.eZ) aoi Nat.add_zero s2 ?_
  refine am.dec (fun gn=>?_) (fun gn=>?_)<;>refine vs ?_
  ·obtain⟨L2,k2,u2,m2,e2⟩:=m1.NL ⟨x0,x1⟩ (-1)
   refine v3 m1.eZ aoi Nat.add_zero ?_
   refine⟨by omega,?_⟩
   obtain⟨v0,_⟩:=m2.rd ⟨x0,x1⟩
   obtain⟨L3,k3,u3,m3,e3⟩:=m2.JQ ⟨x0,x1⟩ (-1)
   refine vs ?_
   generalize H1.wr B.tb ((aN L1).set (x.toNat*3+1) (Value.int .i64 (-1)))=H2 at*
   refine v3 m2.eZ aoi Nat.add_zero ?_
   refine⟨by omega,?_⟩
   refine vs ?_
   refine⟨L3,m3,?_,(e1.trans e2).trans e3⟩
   rw[if_pos gn]at f6
   rw[k3,u3,k2,u2,k1,u1]
   exact f6
  ·obtain⟨z0,z1,_⟩:=aF (w:=w) (x:=bc L x true) (by rw[f5 gn];exact hx)
   obtain⟨v0,_⟩:=m1.rd ⟨z0,z1⟩
   refine v6 (ae o1) (ae m1.eZ) aoi Nat.add_zero s2 s3 ?_
   refine⟨⟨by omega,by omega⟩,?_⟩
   obtain⟨L2,k2,u2,m2,e2⟩:=m1.JQ ⟨z0,z1⟩ (bq L x)
   refine v3 m1.eZ aoi Nat.add_zero ?_
   refine⟨by omega,?_⟩
   refine vs ?_
   generalize H1.wr B.tb ((aN L1).set ((bc L x true).toNat*3+2) (i64 (bq L x)))=H2 at*
   obtain⟨v1,_⟩:=m2.rd ⟨x0,x1⟩
   obtain⟨L3,k3,u3,m3,e3⟩:=m2.NL ⟨x0,x1⟩ (-1)
   refine v3 m2.eZ aoi Nat.add_zero ?_
   refine⟨by omega,?_⟩
   obtain⟨v2,_⟩:=m3.rd ⟨x0,x1⟩
   obtain⟨L4,k4,u4,m4,e4⟩:=m3.JQ ⟨x0,x1⟩ (-1)
   refine vs ?_
   generalize H2.wr B.tb ((aN L2).set (x.toNat*3+1) (Value.int .i64 (-1)))=H3 at*
   refine v3 m3.eZ aoi Nat.add_zero ?_
   refine⟨by omega,?_⟩
   refine vs ?_
   refine⟨L4,m4,?_,((e1.trans e2).trans e3).trans e4⟩
   rw[if_neg gn]at f6
   rw[k4,u4,k3,u3,k2,u2,k1,u1]
   exact f6
end
end Go.Proofs.YtjlnnljohemifaaGreat

namespace Go.Proofs.YtjlnnljohemifaaGreat
open Go Go.Vc
section
variable {H : Hp} {B : PB} {C V : Nat → Prop} {w : Nw} {L : List Lk} {tops : List Int} {ch GY : Int → List Int} {par : Int → Int}
theorem Pr.len(q:Pr (aG w) (aQ w) ch par)(x:Int):(ch x).length≤w.cs.length:=bZ (q.nd x) fun c hc=>by
 obtain⟨z0,z1,_⟩:=aF (q.dn x c hc).2.2.2.1
 exact⟨z0,z1⟩
theorem Kj.next{K:Int→Bool→Int}{Bk:Int→Int}:∀ {l1:List Int} {p x:Int} {l2:List Int},Kj K Bk p (l1++x::l2)→K x true=l2.headD (-1):=fun h=>h.split.2.1
theorem BE(m:bQ H B C w L tops)(q:Pr (aG w) (aQ w) ch par)(pl:Jb (bc L) (bq L) ch par){x:Int}(hx:0<aG w x):
  af Tryz.prog wD [ptr B.n,i64 x] H fun v H'=>aw (∃fp,bQ H' B C w L tops∧ag C H H'∧Sl H' 1 v (ch x).length ((ch x).map i64) fp∧∀b,fp=some b→H.size≤b):=by
 obtain⟨x0,x1,_⟩:=aF hx
 have nU:=m.cells.Ef
 have aZ:=q.len x
 refine bv xi ?_
 obtain⟨tv,o1,_⟩:=m.own
 refine v1 (ae o1) ?_
 refine(di m.cells x).mono ?_
 rintro _ H1 (⟨bO,_,_⟩| ⟨bJ,rfl,c1,e1⟩)
 ·exact absurd (bz.1 hx) bO
 have m1:=m.aJ c1 e1 rfl
 obtain⟨CR,o1,_⟩:=m1.own
 obtain⟨r0,r1,r2,r3⟩:=m1.rd ⟨x0,x1⟩
 have hl:=m1.len
 have z1:=e1.size
 refine v1 (ae o1) ?_
 refine⟨⟨by omega,by omega⟩,?_⟩
 refine v4 (ae m1.eZ) aoi Nat.add_zero r1 ?_
 refine aX.intro (fun mm env H'=>∃ (d r:List Int) (wv:Value) (fp:Option Nat),mm=r.length∧ch x=d++r∧bQ H' B C w L tops∧(∀z,fp=some z→H.size≤z)∧Sl H' 1 wv d.length (d.map i64) fp∧ag (fun z=>C z∨H.size≤z) H H'∧
  env=[(0,ptr B.n),(7,wv),(8,i64 (r.headD (-1)))]) _ ⟨[],ch x,_,none,rfl,rfl,m1,(fun z h=>by cases h),Sl.nil _ _,e1.mono (fun z _ h=>.inl h),by rw[pl.hd]⟩ ?_
 rintro mm env H2 ⟨d,r,wv,fp,rfl,Uq,m2,fZ,s2,e2,rfl⟩
 have z2:=e2.size
 refine vs ?_
 cases r with
 |nil=>
  refine am.dec (fun _=>?_) (fun h=>absurd rfl h)
  refine vs ?_
  rw[apa]at Uq
  rw[Uq]
  exact⟨fp,m2,e2.mono (fun z hz h=>h.elim id fun h=>by omega),s2,fZ⟩
 |cons c r=>
  have hc:=q.dn x c (by rw[Uq];simp)
  obtain⟨c0,c1,_⟩:=aF hc.2.2.2.1
  have Ko:=pl.sg x
  rw[Uq]at Ko
  have Ko:=Ko.next
  have oQ:d.length+(r.length+1)=(ch x).length:=by rw[Uq,aor,aoD]
  refine am.dec (fun h=>absurd h (by simp only[List.headD_cons];omega)) (fun _=>?_)
  refine vs ?_
  refine yd (B:=H.size) fZ (by omega) s2 c (by omega) fun w' H3 cP ir s3 e3=>?_
  refine vs ?_
  have m3:=m2.ext e3 (fun z hz dL=>by have:=m.slt z hz;omega)
  obtain⟨Y9,o3,_⟩:=m3.own
  obtain⟨t0,t1,t2,t3⟩:=m3.rd ⟨c0,c1⟩
  have RN:=m3.len
  simp(disch:=(first|omega| (simp only[Zs]<;>omega)|fail)) only[go_sem, ↓reduceIte,Zv,ae o3,List.headD_cons]
  refine⟨⟨by omega,by omega⟩,?_⟩
  refine v4 (ae m3.eZ) aoi Nat.add_zero t2 ?_
  refine⟨r.length,by simp,d++[c],r,w',cP,rfl,by rw[Uq];simp,m3,ir,s3,e2.trans (e3.mono fun z _ h=>.inr h),by rw[Ko]⟩
theorem jt(m:bQ H B C w L tops)(q:Pr (aG w) (aQ w) ch par)(pl:Jb (bc L) (bq L) ch par){x:Int}(hx:0<aG w x):
  af Tryz.prog wC [ptr B.n,i64 x] H fun v H'=>aw (∃r L' dO bG,v=i64 r∧bQ H' B C w L' tops∧Jb (bc L') (bq L') dO bG∧
   Dt (aG w) (aQ w) (aG w x) (fun y=>0<aG w y∧par y= -1) (ay ch x []) dO bG (ws [r])∧ag (fun z=>C z∨z=B.tb) H H'):=by
 obtain⟨x0,x1,_⟩:=aF hx
 have nU:=m.cells.Ef
 have aZ:=q.len x
 refine bv xh ?_
 refine vs ?_
 refine(BE m q pl hx).mono ?_
 rintro kv H1 ⟨fp,m1,e1,s1,fZ⟩
 have z1:=e1.size
 obtain⟨CR,o1,_⟩:=m1.own
 obtain⟨r0,_⟩:=m1.rd ⟨x0,x1⟩
 have hl:=m1.len
 refine v1 (ae o1) ?_
 refine⟨⟨by omega,by omega⟩,?_⟩
 obtain⟨L2,k2,u2,m2,e2⟩:=m1.ND ⟨x0,x1⟩ (-1)
 refine v3 m1.eZ aoi Nat.add_zero ?_
 refine⟨by omega,?_⟩
 refine vs ?_
 generalize H1.wr B.tb ((aN L).set (x.toNat*3) (Value.int .i64 (-1)))=H2 at*
 have hN:∀z,B.S C z→z<H.size:=m.slt
 have IK:B.tb<H.size:=hN _ (.inr (.inr (.inl rfl)))
 have s2:=s1.ext e2 (fun z hz dL=>by have:=fZ z hz;omega)
 obtain⟨ka,kc,rfl⟩:=Sl.shape s2
 have pE:ag (fun z=>C z∨z=B.tb∨H.size≤z) H H2:=(e1.mono fun z _ h=>.inl h).trans (e2.mono fun z _ h=>.inr (.inl h))
 refine vs ?_
 refine aX.intro (fun mm env H'=>∃ (i:Nat) (L':List Lk),mm=(ch x).length - i∧i≤(ch x).length∧bQ H' B C w L' tops∧Sl H' 1 (.slice ka (ch x).length kc) (ch x).length ((ch x).map i64) fp∧ag (fun z=>C z∨z=B.tb∨H.size≤z) H H'∧
  (∀y,bc L' y false=if y=x then -1 else bc L y false)∧(∀c,(c∈(ch x).take i→bc L' c true= -1∧bq L' c= -1)∧(c∉ (ch x).take i→bc L' c true=bc L c true∧bq L' c=bq L c))∧
  env=[(0,ptr B.n),(5,.slice ka (ch x).length kc),(22,.slice ka (ch x).length kc),(23,i64 (ch x).length),(24,i64 i)]) _ ⟨0,L2,rfl,by omega,m2,s2,pE,fun y=>?_,fun c=>⟨fun h=>by simp at h,fun _=>?_⟩,rfl⟩ ?_
 ·rw[k2]
  unfold ez
  by_cases hy:y=x
  ·rw[if_pos ⟨hy,rfl⟩,if_pos hy]
  ·rw[if_neg (by simp[hy]),if_neg hy]
 ·rw[k2,u2]
  unfold ez
  rw[if_neg (by simp)]
  exact⟨rfl,rfl⟩
 rintro mm env H3 ⟨i,L3,rfl,hi,m3,s3,e3,kf3,kt3,rfl⟩
 refine vs ?_
 refine am.dec (fun gi=>?_) (fun gi=>?_)<;>refine vs ?_
 ·have my:i< (ch x).length:=by omega
  obtain⟨c,hc⟩:∃c,(ch x)[i]? =some c:=⟨_,aoh my⟩
  have Fv:=aon hc
  obtain⟨c0,c1,_⟩:=aF (q.dn x c Fv).2.2.2.1
  obtain⟨_,kb,lb,rfl,q2,q3⟩:=Sl.zB s3 hc
  refine⟨⟨by omega,by omega⟩,?_⟩
  refine v5 (ae q2) aoi aol Int.toNat_natCast q3 ?_
  obtain⟨Y9,o3,_⟩:=m3.own
  obtain⟨t0,_⟩:=m3.rd ⟨c0,c1⟩
  have RN:=m3.len
  refine v1 (ae o3) ?_
  refine⟨⟨by omega,by omega⟩,?_⟩
  obtain⟨L4,k4,u4,m4,e4⟩:=m3.NL ⟨c0,c1⟩ (-1)
  refine v3 m3.eZ aoi Nat.add_zero ?_
  refine⟨by omega,?_⟩
  obtain⟨t1,_⟩:=m4.rd ⟨c0,c1⟩
  have Ui:=m4.len
  obtain⟨L5,k5,u5,m5,e5⟩:=m4.JQ ⟨c0,c1⟩ (-1)
  refine vs ?_
  generalize H3.wr B.tb ((aN L3).set (c.toNat*3+1) (Value.int .i64 (-1)))=H4 at*
  refine⟨⟨by omega,by omega⟩,?_⟩
  refine v3 m4.eZ aoi Nat.add_zero ?_
  refine⟨by omega,?_⟩
  refine vs ?_
  have s5:=(s3.ext e4 (fun z hz dL=>by have:=fZ z hz;omega)).ext e5 (fun z hz dL=>by have:=fZ z hz;omega)
  refine⟨(ch x).length - (i+1),by omega,i+1,L5,rfl,by omega,m5,s5,(e3.trans (e4.mono fun z _ h=>.inr (.inl h))).trans (e5.mono fun z _ h=>.inr (.inl h)),fun y=>?_,fun d=>?_,?_⟩
  ·rw[k5,k4]
   unfold ez
   rw[if_neg (by simp)]
   exact kf3 y
  ·have tk:(ch x).take (i+1)=(ch x).take i++[c]:=by rw[aoT,hc];rfl
   rw[tk,k5,k4,u5,u4]
   unfold ez aH
   by_cases hd:d=c
   ·rw[if_pos ⟨hd,rfl⟩,if_pos hd]
    exact⟨fun _=>⟨rfl,rfl⟩,fun h=>absurd (show d∈(ch x).take i++[c] by simp[hd]) h⟩
   ·rw[if_neg (by simp[hd]),if_neg hd]
    refine⟨fun h=>(kt3 d).1 ?_,fun h=>(kt3 d).2 fun h2=>h (by simp[h2])⟩
    rcases aou.1 h with h|h
    ·exact h
    ·exact absurd (aoq.1 h) hd
  ·rw[wrap64 (by omega) (by omega)]
   rfl
 obtain rfl:i=(ch x).length:=by omega
 rw[aoP]at kt3
 have Tu:=pl.bare q kf3 (fun c hc=>(kt3 c).1 hc) (fun c hc=>(kt3 c).2 hc)
 have pw3:=q.Wk hx
 have Ew:∀z,fp=some z→z<H3.size:=fun z hz=>by rw[hz]at s3;exact s3.lt
 have z3:=e3.size
 refine aX.intro (fun mm env H'=>∃ (i:Nat) (t:List Int) (wv:Value) (fq:Option Nat) (L':List Lk) (dO:Int→List Int) (bG:Int→Int),mm=(ch x).length+2 - i∧i≤(ch x).length+1∧t.length≤i∧bQ H' B C w L' tops∧
  Sl H' 1 (.slice ka (ch x).length kc) (ch x).length ((ch x).map i64) fp∧(∀z,fq=some z→H3.size≤z)∧Sl H' 1 wv t.length (t.map i64) fq∧ag (fun z=>C z∨z=B.tb∨H.size≤z) H H'∧ag (fun z=>C z∨z=B.tb∨H3.size≤z) H3 H'∧
  Dt (aG w) (aQ w) (aG w x) (fun y=>0<aG w y∧par y= -1) (ay ch x []) dO bG (t++(ch x).drop i)∧Jb (bc L') (bq L') dO bG∧
  env=[(0,ptr B.n),(5,.slice ka (ch x).length kc),(8,wv),(9,i64 i)]) _ ⟨0,[],_,none,L3,_,_,rfl,by omega,by simp,m3,s3,(fun z h=>by cases h),Sl.nil _ _,e3,ag.refl _ _,by simpa using pw3,Tu,rfl⟩ ?_
 rintro mm env H4 ⟨i,t,wv,fq,L4,Ur,JR,rfl,hi,hti,m4,s4,Ks,t4,e4,Xd,Xp,Xq,rfl⟩
 have z4:=e4.size
 have z34:=Xd.size
 refine vs ?_
 refine am.dec (fun gi=>?_) (fun gi=>?_)<;>refine vs ?_
 ·have my:i< (ch x).length:=by omega
  obtain⟨c,hc⟩:∃c,(ch x)[i]? =some c:=⟨_,aoh my⟩
  have Fv:=aon hc
  have P0:=q.ne Fv
  have dr:(ch x).drop i=c::(ch x).drop (i+1):=by
   rw[apq my]
   congr 1
   rw[aoh my]at hc
   injection hc
  obtain⟨_,kb,lb,rfl,q2,q3⟩:=Sl.zB s4 hc
  refine am.dec (fun g1=>?_) (fun g1=>?_)<;>refine vs ?_
  ·rw[wrap64 (by omega) (by omega)]at g1
   refine⟨⟨by omega,by omega⟩,?_⟩
   refine v5 (ae q2) aoi aol Int.toNat_natCast q3 ?_
   refine yd (B:=H3.size) Ks z34 t4 c (by omega) fun w' H5 fq' R7 t5 e5=>?_
   refine vs ?_
   have m5:=m4.ext e5 (fun z hz dL=>by have:=m.slt z hz;omega)
   have s5:=s4.ext e5 (fun z hz dL=>by have:=Ew z hz;omega)
   refine⟨(ch x).length+2 - (i+2),by omega,i+2,t++[c],w',fq',L4,Ur,JR,rfl,by omega,by simp;omega,m5,s5,R7,t5,e4.trans (e5.mono fun z _ h=>.inr (.inr (by omega))),Xd.trans (e5.mono fun z _ h=>.inr (.inr h)),?_,Xq,?_⟩
   ·rw[dr]at Xp
    rw[ap3 (by omega)]
    rw[ap3 (by omega)]at Xp
    simpa using Xp
   ·rw[wrap64 (by omega) (by omega)];rfl
  ·rw[wrap64 (by omega) (by omega)]at g1
   have qN:i+1< (ch x).length:=by omega
   obtain⟨d,hd⟩:∃d,(ch x)[i+1]? =some d:=⟨_,aoh qN⟩
   have TN:=aon hd
   have WD:=q.ne TN
   have dr2:(ch x).drop (i+1)=d::(ch x).drop (i+2):=by
    rw[apq qN]
    congr 1
    rw[aoh qN]at hd
    injection hd
   obtain⟨_,DG,lb2,ek,q5,q4⟩:=Sl.zB s4 hd
   injection ek with ek
   injection ek with ek
   subst ek
   rw[q2]at q5
   injection q5 with q5
   subst q5
   refine⟨⟨by omega,by omega⟩,?_⟩
   refine v5 (ae q2) aoi aol Int.toNat_natCast q3 ?_
   rw[wrap64 (by omega) (by omega)]
   refine⟨⟨by omega,by omega⟩,?_⟩
   refine v5 (ae q2) aoi aol (show((i:Int)+1).toNat=i+1 by omega) q4 ?_
   have w2:ws [c,d]=[c,d]:=by rw[mz,dZ,dZ,if_neg P0,if_neg WD];rfl
   have Xr:Dt (aG w) (aQ w) (aG w x) (fun y=>0<aG w y∧par y= -1) (ay ch x []) Ur JR (ws [c,d]++(t++(ch x).drop (i+2))):=by
    rw[w2]
    rw[dr,dr2]at Xp
    refine Xp.perm ?_
    have h1:(t++c::d::(ch x).drop (i+2)).Perm (c::(t++d::(ch x).drop (i+2))):=apY
    have h2:(t++d::(ch x).drop (i+2)).Perm (d::(t++(ch x).drop (i+2))):=apY
    exact h1.trans (h2.cons c)
   refine(de m4 Xr Xq).mono ?_
   rintro _ H5 ⟨r,L5,Zr,Qi,rfl,hr,m5,pw6,pl5,e5⟩
   have hrn:r≠ -1:=fun h=>P0 (hr h).1
   have z5:=e5.size
   have t5:=t4.ext e5 (fun z hz dL=>by have:=Ks z hz;rcases dL with h|h;have:=m.slt z (.inl h);omega;omega)
   have s5:=s4.ext e5 (fun z hz dL=>by have:=fZ z hz;rcases dL with h|h;have:=m.slt z (.inl h);omega;omega)
   refine vs ?_
   refine yd (B:=H3.size) Ks (by omega) t5 r (by omega) fun w' H6 fq' R7 t6 e6=>?_
   refine vs ?_
   have m6:=m5.ext e6 (fun z hz dL=>by have:=m.slt z hz;omega)
   have s6:=s5.ext e6 (fun z hz dL=>by have:=Ew z hz;omega)
   refine⟨(ch x).length+2 - (i+2),by omega,i+2,t++[r],w',fq',L5,Zr,Qi,rfl,by omega,by simp;omega,m6,s6,R7,t6,(e4.trans (e5.mono fun z _ h=>h.elim .inl fun h=>.inr (.inl h))).trans (e6.mono fun z _ h=>.inr (.inr (by omega))),(Xd.trans (e5.mono fun z _ h=>h.elim .inl fun h=>.inr (.inl h))).trans (e6.mono fun z _ h=>.inr (.inr h)),?_,pl5,?_⟩
   ·rw[dZ,if_neg hrn]at pw6
    refine pw6.perm ?_
    rw[apU]
    exact(apY (l₁:=t) (a:=r) (l₂:=(ch x).drop (i+2))).symm
   ·rw[wrap64 (by omega) (by omega)];rfl
 rw[ap3 (by omega),apa]at Xp
 have MG:t.length≤65537:=by omega
 obtain⟨ta,tc,rfl⟩:=Sl.shape t4
 refine vs ?_
 refine aX.intro (fun mm env H'=>∃ (j:Nat) (r:Int) (L':List Lk) (dO:Int→List Int) (bG:Int→Int),mm=j∧j≤t.length∧bQ H' B C w L' tops∧
  Sl H' 1 (.slice ta t.length tc) t.length (t.map i64) fq∧ag (fun z=>C z∨z=B.tb∨H.size≤z) H H'∧
  Dt (aG w) (aQ w) (aG w x) (fun y=>0<aG w y∧par y= -1) (ay ch x []) dO bG (ws [r]++t.take j)∧Jb (bc L') (bq L') dO bG∧
  env=[(0,ptr B.n),(8,.slice ta t.length tc),(10,i64 r),(11,i64 ((j:Int) - 1))]) _ ⟨t.length, -1,L4,Ur,JR,rfl,aov _,m4,t4,e4,by rw[dZ,if_pos rfl,aoP];exact Xp,Xq,?_⟩ ?_
 ·rw[wrap64 (by omega) (by omega)]
 rintro mm env H5 ⟨j,r,L5,Zr,Qi,T7,hj,m5,t5,e5,Xr,pl5,rfl⟩
 obtain rfl:=T7.symm
 refine vs ?_
 refine am.dec (fun gj=>?_) (fun gj=>?_)<;>refine vs ?_
 ·obtain⟨k,rfl⟩:∃k,j=k+1:=⟨j - 1,by omega⟩
  obtain⟨c,hc⟩:∃c,t[k]? =some c:=⟨_,aoh (by omega)⟩
  obtain⟨_,kb,lb,rfl,q2,q3⟩:=Sl.zB t5 hc
  have ji:((((k+1:Nat):Int) - 1)).toNat=k:=by omega
  refine⟨⟨by omega,by omega⟩,?_⟩
  refine v5 (ae q2) aoi aol ji q3 ?_
  have tk:t.take (k+1)=t.take k++[c]:=by rw[aoT,hc];rfl
  have P0:c≠ -1:=(Xr.wm c (by rw[tk];simp)).1
  have pw6:Dt (aG w) (aQ w) (aG w x) (fun y=>0<aG w y∧par y= -1) (ay ch x []) Zr Qi (ws [c,r]++t.take k):=by
   rw[tk]at Xr
   refine Xr.perm ?_
   rw[mz c [r],dZ c,if_neg P0]
   have h1:(ws [r]++(t.take k++[c])).Perm ((ws [r]++t.take k)++[c]):=by rw[apU]
   refine h1.trans (apf.trans ?_)
   rw[apU]
  refine(de m5 pw6 pl5).mono ?_
  rintro _ H6 ⟨r2,L6,Zj,NE,rfl,hr,m6,pw7,pl6,e6⟩
  have t6:=t5.ext e6 (fun z hz dL=>by have:=Ks z hz;rcases dL with h|h;have:=m.slt z (.inl h);omega;omega)
  refine vs ?_
  refine⟨k,by omega,k,r2,L6,Zj,NE,rfl,by omega,m6,t6,e5.trans (e6.mono fun z _ h=>h.elim .inl fun h=>.inr (.inl h)),pw7,pl6,?_⟩
  rw[show((k+1:Nat):Int) - 1 - 1=(k:Int) - 1 by omega,wrap64 (by omega) (by omega)]
 ·obtain rfl:j=0:=by omega
  rw[List.take_zero,apa]at Xr
  exact⟨r,L5,Zr,Qi,rfl,m5,pl5,Xr,e5.mono fun z hz h=>h.elim .inl fun h=>.inr (by omega)⟩
end
end Go.Proofs.YtjlnnljohemifaaGreat

namespace Go.Proofs.YtjlnnljohemifaaGreat
open Go Go.Vc
structure LU(w:Nw)(L:List Lk)(tops:List Int)(ch:Int→List Int)(par:Int→Int):Prop where
 t:TK (aG w) (aQ w) ch par (bm tops)
 pl:Jb (bc L) (bq L) ch par
 tl:tops.length=w.hs.length
def dC(n:Nat)(H:Hp)(S:Nat→Prop)(w:Nw):Prop:=∃ (B:PB) (C:Nat→Prop) (L:List Lk) (tops:List Int) (ch:Int→List Int) (par:Int→Int),B.n=n∧bQ H B C w L tops∧LU w L tops ch par∧∀z,S z↔B.S C z
theorem dC.slt{n:Nat}{H:Hp}{S:Nat→Prop}{w:Nw}(h:dC n H S w):∀z,S z→z<H.size:=by
 obtain⟨B,C,L,tops,ch,par,rfl,m,l,hS⟩:=h
 exact fun z hz=>m.slt z ((hS z).1 hz)
theorem dC.ext{n:Nat}{H H':Hp}{S V:Nat→Prop}{w:Nw}(h:dC n H S w)(e:ag V H H')(hd:∀z,S z→¬V z):dC n H' S w:=by
 obtain⟨B,C,L,tops,ch,par,rfl,m,l,hS⟩:=h
 exact⟨B,C,L,tops,ch,par,rfl,m.ext e (fun z hz=>hd z ((hS z).2 hz)),l,hS⟩
theorem Da(cap:Int)(H:Hp):af Tryz.prog Hd [i64 cap] H fun v H'=>aw (
  ah H H'∧((¬ (0≤cap∧cap≤65536)∧v= .tuple [.pointer none,i64 31].toArray)∨
   ((0≤cap∧cap≤65536)∧∃n S,v= .tuple [ptr n,i64 0].toArray∧dC n H' S (zE cap)∧∀x,S x→H.size≤x))):=by
 refine bv Hv ?_
 refine vs ?_
 refine(k8 cap H).mono ?_
 rintro _ H1 ⟨f1,⟨hb,rfl⟩| ⟨hb,c,C,rfl,c1,hC⟩⟩
 ·refine vs ?_
  exact⟨f1,.inl ⟨hb,rfl⟩⟩
 refine v1 aoZ ?_
 refine⟨⟨by omega,by omega,by omega,by omega⟩,?_⟩
 refine vs ?_
 rw[OQ]
 have yb:=c1.slt
 have z1:=f1.size
 have f3:ah H1 (((H1.new 265 (aN (List.replicate cap.toNat ⟨0,0,0⟩))).new 3 [Value.int .i64 (-1)]).new 263 [ptr c,.slice (some ⟨H1.size,0,none⟩) cap.toNat cap.toNat,.slice (some ⟨H1.size+1,0,none⟩) 1 1]):=(((ag.refl _ _).new _ _).new _ _).new _ _
 have e1:ag (fun _=>False) (H1.new 265 (aN (List.replicate cap.toNat ⟨0,0,0⟩))) (((H1.new 265 (aN (List.replicate cap.toNat ⟨0,0,0⟩))).new 3 [Value.int .i64 (-1)]).new 263 [ptr c,.slice (some ⟨H1.size,0,none⟩) cap.toNat cap.toNat,.slice (some ⟨H1.size+1,0,none⟩) 1 1]):=((ag.refl _ _).new _ _).new _ _
 have e2:ag (fun _=>False) ((H1.new 265 (aN (List.replicate cap.toNat ⟨0,0,0⟩))).new 3 [Value.int .i64 (-1)]) (((H1.new 265 (aN (List.replicate cap.toNat ⟨0,0,0⟩))).new 3 [Value.int .i64 (-1)]).new 263 [ptr c,.slice (some ⟨H1.size,0,none⟩) cap.toNat cap.toNat,.slice (some ⟨H1.size+1,0,none⟩) 1 1]):=(ag.refl _ _).new _ _
 obtain⟨B,hB⟩:∃B:PB,B=⟨H1.size+1+1,c,H1.size,H1.size+1⟩:=⟨_,rfl⟩
 have m0:bQ (((H1.new 265 (aN (List.replicate cap.toNat ⟨0,0,0⟩))).new 3 [Value.int .i64 (-1)]).new 263 [ptr c,.slice (some ⟨H1.size,0,none⟩) cap.toNat cap.toNat,.slice (some ⟨H1.size+1,0,none⟩) 1 1]) B C (zE cap) (List.replicate cap.toNat ⟨0,0,0⟩) [-1]:=by
  subst hB
  refine⟨⟨.slice (some ⟨H1.size+1,0,none⟩) 1 1,?_,?_⟩,c1.fresh f3,?_,?_,?_,?_⟩
  ·rw[ao3]
   exact aU (by simp only[ap])
  ·exact(Sl.bU (size:=1) (n:=1) (xs:=[i64 (-1)]) rfl (by simp only[ap])).ext e2 (fun _ _ h=>h)
  ·exact e1.own (az _ _ _) (fun h=>h)
  ·simp[zE]
  ·refine⟨?_,?_,?_⟩<;>simp only<;>omega
  ·refine⟨fun h=>?_,fun h=>?_,fun h=>?_⟩<;>(have h2:=yb _ h;first|omega| (simp only at h2;omega))
 have Ep:B.n=H1.size+1+1:=by rw[hB]
 have hBs:∀z,B.S C z→H1.size≤z∨C z:=fun z hz=>by
  rcases hz with hz|rfl|rfl|rfl
  ·exact .inr hz
  all_goals rw[hB];left;first|omega| (simp only;omega)
 have hBt:B.tb=H1.size:=by rw[hB]
 have ft:=f1.trans f3
 generalize ((H1.new 265 (aN (List.replicate cap.toNat ⟨0,0,0⟩))).new 3 [Value.int .i64 (-1)]).new 263 [ptr c,.slice (some ⟨H1.size,0,none⟩) cap.toNat cap.toNat,.slice (some ⟨H1.size+1,0,none⟩) 1 1]=H2 at*
 obtain⟨tv0,o0,_⟩:=m0.own
 rw[ao3,Ep]at o0
 refine aX.intro (fun m env H'=>∃j:Nat,m=cap.toNat - j∧j≤cap.toNat∧ag (fun z=>z=B.tb) H2 H'∧bQ H' B C (zE cap) (List.replicate j jA++List.replicate (cap.toNat - j) ⟨0,0,0⟩) [-1]∧
  env=[(6,ptr (H1.size+1+1)),(26,i64 (cap.toNat:Nat)),(27,i64 j)]) cap.toNat ⟨0,by omega,by omega,ag.refl _ _,by simpa using m0,rfl⟩ ?_
 rintro m env H3 ⟨j,rfl,hj,e3,m3,rfl⟩
 have oQ:=iI (List.replicate j jA++List.replicate (cap.toNat - j) (⟨0,0,0⟩:Lk))
 have oJ:(List.replicate j jA++List.replicate (cap.toNat - j) (⟨0,0,0⟩:Lk)).length=cap.toNat:=by simp;omega
 obtain⟨Y9,o3,_⟩:=m3.own
 rw[oJ]at oQ o3
 rw[Ep]at o3
 refine vs ?_
 refine am.dec (fun aO=>?_) (fun aO=>?_)<;>refine vs ?_
 ·refine v1 (ae o3) ?_
  refine⟨by omega,?_⟩
  refine v3 m3.eZ aoi Int.toNat_natCast ?_
  refine⟨by omega,?_⟩
  have q3:=IJ (L:=List.replicate j jA++List.replicate (cap.toNat - j) (⟨0,0,0⟩:Lk)) (i:=j) (by omega) jA
  have q4:(List.replicate j jA++List.replicate (cap.toNat - j) (⟨0,0,0⟩:Lk)).set j jA=List.replicate (j+1) jA++List.replicate (cap.toNat - (j+1)) (⟨0,0,0⟩:Lk):=by
   rw[aqj _ _ (by simp),ao3,apw,show cap.toNat - j=(cap.toNat - (j+1))+1 by omega,aoY,apH,aqn]
   simp
  rw[q4]at q3
  obtain⟨m4,e4⟩:=m3.O4 (L':=List.replicate (j+1) jA++List.replicate (cap.toNat - (j+1)) (⟨0,0,0⟩:Lk)) (by simp;omega)
  rw[show bk (aN (List.replicate j jA++List.replicate (cap.toNat - j) (⟨0,0,0⟩:Lk))) (j*3) (aI (Value.agg #[Value.int .i64 (-1),Value.int .i64 (-1),Value.int .i64 (-1)]))=_ from q3]
  refine vs ?_
  rw[wrap64 (n:=(j:Int)+1) (by omega) (by omega)]
  exact⟨cap.toNat - (j+1),by omega,j+1,rfl,by omega,e3.trans e4,m4,rfl⟩
 ·obtain rfl:j=cap.toNat:=by omega
  rw[apw,aqo,apa]at m3
  rw[←Ep]
  refine⟨ft.then e3 (fun z hz=>by omega),.inr ⟨hb,B.n,B.S C,rfl,⟨B,C,_,[-1],fun _=>[],fun _=> -1,rfl,m3,⟨⟨⟨rfl,fun x c hc=>absurd hc (by simp),fun c x h hx=>absurd (Eq.symm h) hx,fun x=>aps⟩,
   ⟨fun x p h hp=>absurd (Eq.symm h) hp,fun g hg=>absurd (CV g) hg,fun x hx=>absurd hx (lh cap x)⟩⟩,⟨fun x=>Bm _ _ _,fun x=>trivial,fun c _=>⟨Bm _ _ _,FT _ _⟩⟩,rfl⟩,fun z=>Iff.rfl⟩,fun z hz=>?_⟩⟩
  rcases hBs z hz with h|h
  ·omega
  ·exact hC z h
theorem BF{n:Nat}{H:Hp}{S:Nat→Prop}{w:Nw}(h:dC n H S w):af Tryz.prog lW [ptr n] H fun v H'=>aw (
  (w.hs.length=65537∧v=i64 0∧cB (dC n) S H H' w)∨(w.hs.length≠65537∧v=i64 w.hs.length∧cB (dC n) S H H' w.make)):=by
 obtain⟨B,C,L,tops,ch,par,rfl,m,l,hS⟩:=id h
 obtain⟨tv,ho,z7⟩:=m.own
 refine bv xf ?_
 refine v1 (ae ho) ?_
 refine(jo m.cells).mono ?_
 rintro _ H1 (⟨h1,rfl,rfl⟩| ⟨h1,rfl,C',c1,e1,zF⟩)
 ·refine vs ?_
  exact .inl ⟨h1,rfl,cB.same h (ag.refl _ _)⟩
 have gh:=m.cells.pos
 have hhs:=m.cells.z7
 have MG:=l.tl
 have slt:=m.slt
 have LF:=c1.slt
 obtain⟨n1,n2,n3⟩:=m.out
 obtain⟨d1,d2,d3⟩:=m.ml
 have o1:=e1.own ho n1
 refine vs ?_
 refine am.cQ (aow (by omega)) ?_
 refine v1 (ae o1) ?_
 have s1:=z7.ext e1 (fun b hb=>by injection hb with hb;exact hb▸n3)
 refine Ru s1 (-1) (by omega) fun w' H2 b' jY s2 e2=>?_
 have o2:=e2.own o1 d2
 obtain⟨wa,wc,OU⟩:=Sl.shape s2
 subst OU
 refine v1 o2 ?_
 generalize OU:Value.slice wa (tops++[-1]).length wc=w' at*
 have e3:ag (fun z=>z=B.n) H2 (H2.wr B.n [ptr B.c,.slice (some ⟨B.tb,0,none⟩) L.length L.length,w']):=(ag.refl (fun z=>z=B.n) _).wr (fun _=>rfl) _
 have z1:=e1.size
 have hn:=slt _ (.inr (.inl rfl))
 have ht:=slt _ (.inr (.inr (.inl rfl)))
 have htp:=slt _ (.inr (.inr (.inr rfl)))
 have FU:∀z,C' z→z≠b'∧(z<H.size→C z):=fun z hz=>by
  have h5:=LF z hz
  rcases zF z hz with h6|h6
  ·refine⟨fun e=>?_,fun _=>h6⟩
   rcases jY with h7|h7
   ·exact n3 (by rw[←h7,←e];exact h6)
   ·omega
  ·exact⟨by omega,fun h=>by omega⟩
 refine .inr ⟨h1,rfl,(PB.mk B.n B.c B.tb b').S C',⟨⟨B.n,B.c,B.tb,b'⟩,C',L,tops++[-1],ch,par,rfl,⟨⟨w',ai o2,s2.ext e3 (fun b hb=>by injection hb with hb;omega)⟩,?_,?_,m.len,?_,?_⟩,⟨by rw[Bh];exact l.t,l.pl,?_⟩,fun z=>Iff.rfl⟩,?_,fun z hz=>?_⟩
 ·exact(c1.ext e2 (fun x hx e=>by
   rcases zF x hx with h6|h6
   ·exact n3 (e▸h6)
   ·omega)).ext e3 (fun x hx e=>by
   rcases zF x hx with h6|h6
   ·exact n1 (e▸h6)
   ·omega)
 ·exact e3.own (e2.own (e1.own m.eZ n2) d3) (Ne.symm d1)
 ·refine⟨d1,?_,?_⟩<;>simp only<;>omega
 ·exact⟨fun h=>n1 ((FU _ h).2 hn),fun h=>n2 ((FU _ h).2 ht),fun h=>(FU _ h).1 rfl⟩
 ·simp[Nw.make,MG]
 ·exact((e1.mono fun z _ h=>(hS z).2 (.inl h)).trans (e2.mono fun z _ h=>(hS z).2 (.inr (.inr (.inr h))))).trans (e3.mono fun z _ h=>(hS z).2 (.inr (.inl h)))
 ·rcases hz with hz|rfl|rfl|rfl
  ·rcases zF z hz with h6|h6
   ·exact .inl ((hS z).2 (.inl h6))
   ·exact .inr h6
  ·exact .inl ((hS _).2 (.inr (.inl rfl)))
  ·exact .inl ((hS _).2 (.inr (.inr (.inl rfl))))
  ·rcases jY with rfl|h7
   ·exact .inl ((hS _).2 (.inr (.inr (.inr rfl))))
   ·exact .inr (by first|omega| (simp only;omega))
theorem LU.first{w:Nw}{L:List Lk}{tops:List Int}{ch:Int→List Int}{par:Int→Int}(l:LU w L tops ch par){g x:Int}(h:w.first g x):bm tops g=x:=by
 obtain⟨h1,h2,h3⟩:=bM.1 h
 have:=l.t.tp.first (x:=x) (by omega) (fun y hy aP=>h3 y (by omega) aP) (au w)
 rwa[h2]at this
theorem qD{n:Nat}{H:Hp}{S:Nat→Prop}{w:Nw}(h:dC n H S w)(g:Int):af Tryz.prog mX [ptr n,i64 g] H fun v H'=>aw (
  ((w.len g=0∧v= .tuple [i64 0,.bool false].toArray)∨∃x,w.first g x∧v= .tuple [i64 x,.bool true].toArray)∧H'=H):=by
 obtain⟨B,C,L,tops,ch,par,rfl,m,l,hS⟩:=h
 obtain⟨cc,lt,ho,q2,vC,sC,OT⟩:=m.fT
 refine bv zk ?_
 refine v1 (ae ho) ?_
 refine(uI m.cells g).mono ?_
 rintro _ _ ⟨rfl,rfl⟩
 refine vs ?_
 refine am.dec (fun h0=>?_) (fun h0=>?_)
 ·refine vs ?_
  exact⟨.inl ⟨h0,rfl⟩,rfl⟩
 have hg:0<g:=aoI fun hg=>h0 (Nw.HP.2 (.inl (by omega)))
 obtain⟨x,hx⟩:=uH hg h0
 have hh:=(bM.1 hx).2.1
 have dk:=((m.cells.hm x).2 (by omega)).2
 rw[hh,←l.tl]at dk
 have q3:=m.eR q2 (dW (tops:=tops) (h:=g) (by omega) dk)
 rw[l.first hx]at q3
 refine v1 (ae ho) ?_
 refine⟨⟨by omega,by omega⟩,?_⟩
 refine v4 (ae q2) aoi aol q3 ?_
 exact⟨.inr ⟨x,hx,rfl⟩,rfl⟩
theorem xG{n:Nat}{H:Hp}{S:Nat→Prop}{w:Nw}(h:dC n H S w)(g x k s:Int):af Tryz.prog jE [ptr n,i64 g,i64 x,tL k s] H fun v H'=>aw (
  (¬w.lN g x∧v= .bool false∧cB (dC n) S H H' w)∨(w.lN g x∧v= .bool true∧cB (dC n) S H H' (w.put x (g,k,s)))):=by
 obtain⟨B,C,L,tops,ch,par,rfl,m,l,hS⟩:=h
 have hC:∀z,C z→S z:=fun z h=>(hS z).2 (.inl h)
 have t1:S B.tb:=(hS _).2 (.inr (.inr (.inl rfl)))
 have t2:S B.tp:=(hS _).2 (.inr (.inr (.inr rfl)))
 refine Fa tA ⟨rfl,?_⟩
 refine v1 jO.eq_1 ?_
 have f0:ah H (H.new 224 [i64 k,u64 s]):=(ag.refl _ _).new _ _
 have b0:(H.new 224 [i64 k,u64 s]).own H.size=some [i64 k,u64 s]:=az _ _ _
 have m0:=m.fresh f0
 generalize H.new 224 [i64 k,u64 s]=H0 at*
 have ff:ag S H H0:=f0.mono fun _ _ h=>h.elim
 obtain⟨tv,HT,_⟩:=m0.own
 refine v2 (ae HT) (ae b0) ?_
 refine(kZ m0.cells g x k s).mono ?_
 rintro _ H1 (⟨bO,rfl,c1,e1⟩| ⟨qw,rfl,c1,e1⟩)
 ·refine vs ?_
  exact .inl ⟨bO,rfl,cB.same ⟨B,C,L,tops,ch,par,rfl,m0.aJ c1 e1 rfl,l,hS⟩ (ff.trans (e1.mono fun z _ hz=>hC z hz))⟩
 obtain⟨hh,hx,bJ⟩:=id qw
 have m2:=m0.aJ c1 e1 (by simp[Nw.put])
 have hg:=hh.1
 have dk:g<tops.length:=by
  have:=(aoj.1 hh.2).1
  have:=l.tl
  omega
 have cN:=fun y=>dV hx (g,k,s) y
 have bo:Th (aG (w.put x (g,k,s))) (aQ (w.put x (g,k,s))) ch par (bm tops) g x:=by
  refine l.t.ins rfl (Int.not_lt.1 fun h=>bJ (bz.1 h)) (by omega) (by omega) (by rw[cN,if_pos rfl]) (fun y hy=>by rw[cN,if_neg hy]) (fun a b ha hb tS mq=>dw hx _ ha hb tS mq)
 obtain⟨cc,lt,o2,q2,vC,sC,OT⟩:=m2.fT
 have q3:=m2.eR q2 (dW (tops:=tops) (h:=g) (by omega) dk)
 refine vs ?_
 refine jB.intro (fun H'=>H'.own B.n=some [ptr B.c,.slice (some ⟨B.tb,0,none⟩) L.length L.length,.slice (some ⟨B.tp,0,none⟩) tops.length cc]) o2 ?_
 refine vs ?_
 refine fJ.intro (.slice (some ⟨B.tp,0,none⟩) tops.length cc) (fun H' hI=>by refine v1 (ae hI) ?_;trivial) ?_
 refine v1 (ae o2) ?_
 refine And.intro o2 ?_
 refine vs ?_
 refine⟨⟨by omega,by omega⟩,?_⟩
 refine v4 (ae q2) aoi aol q3 ?_
 refine And.intro o2 ?_
 refine vs ?_
 have bw:=bo.w
 rw[show ws [bm tops g,x]=ws [bm tops g,x]++[] by simp]at bw
 refine(de m2 bw l.pl).mono ?_
 rintro _ H3 ⟨r,L3,MJ,oZ,rfl,_,m3,w3,p3,e3⟩
 rw[apa]at w3
 have bn:=bo.done w3
 obtain⟨d1,d2,d3⟩:=m2.ml
 have no:¬ (C B.n∨B.n=B.tb):=by rintro(h|h);exact m2.out.1 h;omega
 refine And.intro (e3.own o2 no) ?_
 have q4:=e3.own q2 (by rintro(h|h);exact m2.out.2.2 h;omega)
 refine vs ?_
 refine⟨⟨by omega,by omega⟩,?_⟩
 refine v3 q4 aoi aol ?_
 refine⟨by omega,?_⟩
 obtain⟨m4,e4⟩:=m3.ld q4 g.toNat r
 refine And.intro (e4.own (e3.own o2 no) d2) ?_
 refine vs ?_
 refine .inr ⟨qw,rfl,cB.same ⟨B,C,L3,_,MJ,oZ,rfl,m4,⟨?_,p3,by rw[aok];exact l.tl⟩,hS⟩ (((ff.trans (e1.mono fun z _ h=>hC z h)).trans (e3.mono fun z _ h=>by rcases h with h|rfl;exact hC z h;exact t1)).trans (e4.mono fun z _ h=>h▸t2))⟩
 rw[eD (by omega) dk]
 exact bn
theorem LU.below{w:Nw}{L:List Lk}{tops:List Int}{ch:Int→List Int}{par:Int→Int}(l:LU w L tops ch par){x:Int}(hx:0<aG w x)(ht:bm tops (aG w x)≠x):∃p l1 l2,ch p=l1++x::l2:=by
 have hp:par x≠ -1:=fun h=>ht (l.t.tp.t2 x hx h)
 obtain⟨l1,l2,h⟩:=List.append_of_mem (l.t.pr.up x _ rfl hp)
 exact⟨par x,l1,l2,h⟩
theorem tQ{n:Nat}{H:Hp}{S:Nat→Prop}{w:Nw}(h:dC n H S w)(x k s:Int):af Tryz.prog iw [ptr n,i64 x,tL k s] H fun v H'=>aw (
  (¬w.db x k s∧v= .bool false∧cB (dC n) S H H' w)∨(w.db x k s∧v= .bool true∧∃y,w.cs[x.toNat]? =some y∧cB (dC n) S H H' (w.put x (y.1,k,s)))):=by
 obtain⟨B,C,L,tops,ch,par,rfl,m,l,hS⟩:=h
 have hC:∀z,C z→S z:=fun z h=>(hS z).2 (.inl h)
 have t1:S B.tb:=(hS _).2 (.inr (.inr (.inl rfl)))
 have t2:S B.tp:=(hS _).2 (.inr (.inr (.inr rfl)))
 refine Fa pZ ⟨rfl,?_⟩
 refine v1 iA.eq_1 ?_
 have f0:ah H (H.new 224 [i64 k,u64 s]):=(ag.refl _ _).new _ _
 have b0:(H.new 224 [i64 k,u64 s]).own H.size=some [i64 k,u64 s]:=az _ _ _
 have m0:=m.fresh f0
 generalize H.new 224 [i64 k,u64 s]=H0 at*
 have ff:ag S H H0:=f0.mono fun _ _ h=>h.elim
 obtain⟨tv,HT,_⟩:=m0.own
 refine v2 (ae HT) (ae b0) ?_
 refine(gR m0.cells x k s).mono ?_
 rintro _ H1 (⟨bO,rfl,c1,e1⟩| ⟨bJ,rfl,y,hy,fB,c1,e1⟩)
 ·refine vs ?_
  exact .inl ⟨bO,rfl,cB.same ⟨B,C,L,tops,ch,par,rfl,m0.ext e1 (fun _ _ h=>h),l,hS⟩ (ff.trans (e1.mono fun _ _ h=>h.elim))⟩
 have mF:(w.put x (y.1,k,s)).cs.length=w.cs.length:=by simp[Nw.put]
 have m1:=m0.aJ c1 e1 mF
 have Bp:w.db x k s:=⟨bJ,fun z hz=>by rw[hy]at hz;injection hz with hz;rw[←hz];exact fB⟩
 have hx:0≤x∧x<w.cs.length:=⟨bJ.1,by have:=(aoj.1 hy).1;have:=bJ.1;omega⟩
 have OO:aG w x=y.1:=j7 bJ.1 hy
 have dH:=bz.2 bJ
 have hw:aG (w.put x (y.1,k,s))=aG w:=by
  funext z
  rw[dV hx]
  split
  ·rename_i e;rw[e,OO]
  ·rfl
 have Eu:cY (w.put x (y.1,k,s)).cs x:=bz.1 (by rw[hw];exact dH)
 obtain⟨CR,o1,_⟩:=m1.own
 refine v1 (ae o1) ?_
 refine(di m1.cells x).mono ?_
 rintro _ H2 (⟨bO,_,_⟩| ⟨_,rfl,c2,e2⟩)
 ·exact absurd Eu bO
 have m2:=m1.aJ c2 e2 rfl
 have pE:ag S H H2:=(ff.trans (e1.mono fun z _ h=>hC z h)).trans (e2.mono fun z _ h=>hC z h)
 have el:∀a b,0<aG w a→0<aG w b→a≠x→b≠x→aQ (w.put x (y.1,k,s)) a b=aQ w a b:=fun a b ha hb tS mq=>dw hx _ ha hb tS mq
 have ex:∀b,0<aG w b→b≠x→aQ w x b=true→aQ (w.put x (y.1,k,s)) x b=true:=fun b hb mq h=>Bg bJ hy fB hb mq h
 have dk:aG w x<tops.length:=by
  have:=((m.cells.hm x).2 dH).2
  have:=l.tl
  omega
 obtain⟨cc,lt,o2,q2,vC,sC,OT⟩:=m2.fT
 have q3:=m2.eR q2 (dW (tops:=tops) (h:=aG w x) (by omega) dk)
 rw[hw]
 refine v1 (ae o2) ?_
 refine⟨⟨by omega,by omega⟩,?_⟩
 refine v4 (ae q2) aoi aol q3 ?_
 refine am.dec (fun gt=>?_) (fun gt=>?_)<;>refine vs ?_
 ·have hu:par x= -1:=by
   have:=(l.t.tp.t1 (aG w x) (by rw[gt];omega)).2.2
   rwa[gt]at this
  refine .inr ⟨Bp,rfl,y,hy,cB.same ⟨B,C,L,tops,ch,par,rfl,m2,⟨?_,l.pl,l.tl⟩,hS⟩ pE⟩
  rw[hw]
  exact l.t.TH hu el ex
 obtain⟨p,l1,l2,hp⟩:=l.below dH gt
 have po:=(l.t.off hp).low el ex
 refine(qC m2 (au w) (by rw[hw];exact l.t.pr) l.pl hp).mono ?_
 rintro _ H4 ⟨L4,m4,p4,e4⟩
 have vI:ag S H H4:=pE.trans (e4.mono fun z _ h=>h▸t1)
 rw[←hw]at po
 have dk:aG (w.put x (y.1,k,s)) x<tops.length:=by rw[hw];exact dk
 have RR:=po.g0
 refine vs ?_
 generalize hg:aG (w.put x (y.1,k,s)) x=g at*
 rw[←hw,hg]
 obtain⟨cc,lt,o4,q2,vC,sC,OT⟩:=m4.fT
 have q3:=m4.eR q2 (dW (tops:=tops) (h:=g) (by omega) dk)
 refine jB.intro (fun H'=>H'.own B.n=some [ptr B.c,.slice (some ⟨B.tb,0,none⟩) L4.length L4.length,.slice (some ⟨B.tp,0,none⟩) tops.length cc]) o4 ?_
 refine vs ?_
 refine fJ.intro (.slice (some ⟨B.tp,0,none⟩) tops.length cc) (fun H' hI=>by refine v1 (ae hI) ?_;trivial) ?_
 refine v1 (ae o4) ?_
 refine And.intro o4 ?_
 refine vs ?_
 refine⟨⟨by omega,by omega⟩,?_⟩
 refine v4 (ae q2) aoi aol q3 ?_
 refine And.intro o4 ?_
 refine vs ?_
 have bw:=po.w
 rw[show ws [bm tops g,x]=ws [bm tops g,x]++[] by simp]at bw
 refine(de m4 bw p4).mono ?_
 rintro _ H5 ⟨r,L5,Zr,Qi,rfl,_,m5,w5,p5,e5⟩
 rw[apa]at w5
 have bn:=po.done w5
 obtain⟨d1,d2,d3⟩:=m4.ml
 have no:¬ (C B.n∨B.n=B.tb):=by rintro(h|h);exact m4.out.1 h;omega
 refine And.intro (e5.own o4 no) ?_
 have q4:=e5.own q2 (by rintro(h|h);exact m4.out.2.2 h;omega)
 refine vs ?_
 refine⟨⟨by omega,by omega⟩,?_⟩
 refine v3 q4 aoi aol ?_
 refine⟨by omega,?_⟩
 obtain⟨m6,e6⟩:=m5.ld q4 g.toNat r
 refine And.intro (e6.own (e5.own o4 no) d2) ?_
 refine vs ?_
 refine .inr ⟨Bp,rfl,y,hy,cB.same ⟨B,C,L5,_,Zr,Qi,rfl,m6,⟨?_,p5,by rw[aok];exact l.tl⟩,hS⟩ ((vI.trans (e5.mono fun z _ h=>by rcases h with h|rfl;exact hC z h;exact t1)).trans (e6.mono fun z _ h=>h▸t2))⟩
 rw[eD (by omega) dk]
 exact bn
theorem xH{n:Nat}{H:Hp}{S:Nat→Prop}{w:Nw}(h:dC n H S w)(x:Int):af Tryz.prog te [ptr n,i64 x] H fun v H'=>aw (
  (¬cY w.cs x∧v= .bool false∧cB (dC n) S H H' w)∨(cY w.cs x∧v= .bool true∧cB (dC n) S H H' (w.put x (0,0,0)))):=by
 obtain⟨B,C,L,tops,ch,par,rfl,m,l,hS⟩:=id h
 have hC:∀z,C z→S z:=fun z h=>(hS z).2 (.inl h)
 have t1:S B.tb:=(hS _).2 (.inr (.inr (.inl rfl)))
 have t2:S B.tp:=(hS _).2 (.inr (.inr (.inr rfl)))
 obtain⟨tv,o0,_⟩:=m.own
 refine Fa tz ⟨rfl,?_⟩
 refine v2 jN.eq_1 (ae o0) ?_
 refine(di m.cells x).mono ?_
 rintro _ H1 (⟨bO,rfl,rfl⟩| ⟨bJ,rfl,c1,e1⟩)
 ·refine vs ?_
  exact .inl ⟨bO,rfl,cB.same h (ag.refl _ _)⟩
 have m1:=m.aJ c1 e1 rfl
 have dH:=bz.2 bJ
 obtain⟨gf,jZ,_⟩:=aF dH
 have Du:x≠ -1:=by omega
 have ls:=au w
 have cN:=fun y=>dV (w:=w) ⟨gf,jZ⟩ (0,0,0) y
 have p0:aG (w.put x (0,0,0)) (-1)=0:=rfl
 have p1:aG (w.put x (0,0,0)) x=0:=by rw[cN,if_pos rfl]
 have p2:∀y,y≠x→aG (w.put x (0,0,0)) y=aG w y:=fun y hy=>by rw[cN,if_neg hy]
 have el:∀a b,0<aG w a→0<aG w b→a≠x→b≠x→aQ (w.put x (0,0,0)) a b=aQ w a b:=fun a b ha hb tS mq=>dw ⟨gf,jZ⟩ _ ha hb tS mq
 have mF:(w.put x (0,0,0)).cs.length=w.cs.length:=by simp[Nw.put]
 have dk:aG w x<tops.length:=by
  have:=((m.cells.hm x).2 dH).2
  have:=l.tl
  omega
 have e11:ag S H H1:=e1.mono fun z _ h=>hC z h
 obtain⟨cc,lt,o1,q2,vC,sC,OT⟩:=m1.fT
 have q3:=m1.eR q2 (dW (tops:=tops) (h:=aG w x) (by omega) dk)
 obtain⟨d1,d2,d3⟩:=m1.ml
 have no:¬ (C B.n∨B.n=B.tb):=by rintro(h|h);exact m1.out.1 h;omega
 have no2:¬ (C B.tp∨B.tp=B.tb):=by rintro(h|h);exact m1.out.2.2 h;omega
 refine v1 (ae o1) ?_
 refine⟨⟨by omega,by omega⟩,?_⟩
 refine v4 (ae q2) aoi aol q3 ?_
 refine am.dec (fun gt=>?_) (fun gt=>?_)<;>refine vs ?_
 ·have hu:par x= -1:=by
   have:=(l.t.tp.t1 (aG w x) (by rw[gt];omega)).2.2
   rwa[gt]at this
  refine jB.intro (fun H'=>H'.own B.n=some [ptr B.c,.slice (some ⟨B.tb,0,none⟩) L.length L.length,.slice (some ⟨B.tp,0,none⟩) tops.length cc]) o1 ?_
  refine vs ?_
  refine fJ.intro (.slice (some ⟨B.tp,0,none⟩) tops.length cc) (fun H' hI=>by refine v1 (ae hI) ?_;trivial) ?_
  refine vs ?_
  refine(jt m1 l.t.pr l.pl dH).mono ?_
  rintro _ H2 ⟨r,L2,lF,jr,rfl,m2,pl2,w2,e2⟩
  refine And.intro (e2.own o1 no) ?_
  have q4:=e2.own q2 no2
  refine vs ?_
  refine⟨⟨by omega,by omega⟩,?_⟩
  refine v3 q4 aoi aol ?_
  refine⟨by omega,?_⟩
  obtain⟨m3,e3⟩:=m2.ld q4 (aG w x).toNat r
  refine And.intro (e3.own (e2.own o1 no) d2) ?_
  obtain⟨Y9,o3,_⟩:=m3.own
  refine v1 (ae o3) ?_
  refine(ci m3.cells x).mono ?_
  rintro _ H4 (⟨bO,_,_⟩| ⟨_,rfl,c4,e4⟩)
  ·exact absurd bJ bO
  have m4:=m3.aJ c4 e4 mF
  refine vs ?_
  have w3:=w2.drop (x:=x) ⟨dH,hu⟩ (by rw[w2.fr x ⟨dH,hu⟩];unfold ay;rw[if_pos rfl]) ((w2.jy x dH).2 (.inr ⟨dH,hu⟩)) p0 p1 p2 el
  refine .inr ⟨bJ,rfl,cB.same ⟨B,C,L2,_,lF,jr,rfl,m4,⟨?_,pl2,by rw[aok];exact l.tl⟩,hS⟩ (((e11.trans (e2.mono fun z _ h=>by rcases h with h|rfl;exact hC z h;exact t1)).trans (e3.mono fun z _ h=>h▸t2)).trans (e4.mono fun z _ h=>hC z h))⟩
  rw[eD (by omega) dk]
  refine⟨w3.pr,w3.done (fun h aP hh=>?_) (fun y hy=>?_)⟩
  ·obtain⟨g1,g2,g3⟩:=l.t.tp.t1 h hh
   have hn:bm tops h≠x:=fun e=>aP (by rw[←g1,e])
   exact⟨by rw[p2 _ hn];exact g1,g2,⟨by omega,g3⟩,hn⟩
  ·have h5:=l.t.tp.t2 y hy.1.1 hy.1.2
   rw[p2 _ hy.2]
   exact⟨fun e=>by rw[e,gt]at h5;exact hy.2 h5.symm,h5⟩
 obtain⟨p,l1,l2,hp⟩:=l.below dH gt
 have po:=l.t.off hp
 refine(qC m1 ls l.t.pr l.pl hp).mono ?_
 rintro _ H2 ⟨L2,m2,pl2,e2⟩
 have pE:ag S H H2:=e11.trans (e2.mono fun z _ h=>h▸t1)
 have hu:=po.ox.2.2
 obtain⟨cc,lt,o2,q2,vC,sC,OT⟩:=m2.fT
 have q3:=m2.eR q2 (dW (tops:=tops) (h:=aG w x) (by omega) dk)
 refine vs ?_
 refine jB.intro (fun H'=>H'.own B.n=some [ptr B.c,.slice (some ⟨B.tb,0,none⟩) L2.length L2.length,.slice (some ⟨B.tp,0,none⟩) tops.length cc]) o2 ?_
 refine vs ?_
 refine fJ.intro (.slice (some ⟨B.tp,0,none⟩) tops.length cc) (fun H' hI=>by refine v1 (ae hI) ?_;trivial) ?_
 refine vs ?_
 refine fJ.intro (.slice (some ⟨B.tp,0,none⟩) tops.length cc) (fun H' hI=>by refine v1 (ae hI) ?_;trivial) ?_
 refine vs ?_
 refine⟨⟨by omega,by omega⟩,?_⟩
 refine vs ?_
 refine EN.intro ?_ ?_
 ·refine v4 (ae q2) aoi aol q3 ?_
  refine And.intro o2 ?_
  refine vs ?_
  refine(jt m2 po.pr pl2 dH).mono ?_
  rintro _ H3 ⟨r,L3,MJ,oZ,rfl,m3,Tu,w3,e3⟩
  refine And.intro (e3.own o2 no) ?_
  have q4:=e3.own q2 no2
  refine vs ?_
  have w4:=w3.cD (t:=bm tops (aG w x)) (fun hh=>by
   obtain⟨g1,g2,g3⟩:=po.t1 _ hh
   exact⟨⟨by omega,g3⟩,g1⟩)
  rw[←mz,show ws [bm tops (aG w x),r]=ws [bm tops (aG w x),r]++[] by simp]at w4
  refine(de m3 w4 Tu).mono ?_
  rintro _ H4 ⟨r2,L4,Ur,JR,rfl,_,m4,w5,Xq,e4⟩
  rw[apa]at w5
  refine And.intro (e4.own (e3.own o2 no) no) ?_
  have q5:=e4.own q4 no2
  refine vs ?_
  refine⟨⟨by omega,by omega⟩,?_⟩
  refine v3 q5 aoi aol ?_
  refine⟨by omega,?_⟩
  obtain⟨m5,e5⟩:=m4.ld q5 (aG w x).toNat r2
  refine And.intro (e5.own (e4.own (e3.own o2 no) no) d2) ?_
  obtain⟨tv5,o5,_⟩:=m5.own
  refine v1 (ae o5) ?_
  refine(ci m5.cells x).mono ?_
  rintro _ H6 (⟨bO,_,_⟩| ⟨_,rfl,c6,e6⟩)
  ·exact absurd bJ bO
  have m6:=m5.aJ c6 e6 mF
  refine vs ?_
  have hR:(0<aG w x∧aH par x (-1) x= -1)∧x≠bm tops (aG w x):=⟨⟨dH,hu⟩,fun e=>po.nx e.symm⟩
  have fu:ay (ay ch p (l1++l2)) x [] x=[]:=by unfold ay;rw[if_pos rfl]
  have w6:=w5.drop (x:=x) hR (by rw[w5.fr x hR];exact fu) ((w5.jy x dH).2 (.inr hR)) p0 p1 p2 el
  refine .inr ⟨bJ,rfl,cB.same ⟨B,C,L4,_,Ur,JR,rfl,m6,⟨?_,Xq,by rw[aok];exact l.tl⟩,hS⟩ ((((pE.trans (e3.mono fun z _ h=>by rcases h with h|rfl;exact hC z h;exact t1)).trans (e4.mono fun z _ h=>by rcases h with h|rfl;exact hC z h;exact t1)).trans (e5.mono fun z _ h=>h▸t2)).trans (e6.mono fun z _ h=>hC z h))⟩
  rw[eD (by omega) dk]
  refine⟨w6.pr,w6.done (fun h aP hh=>?_) (fun y hy=>?_)⟩
  ·obtain⟨g1,g2,g3⟩:=po.t1 h hh
   have hn:bm tops h≠x:=fun e=>aP (by rw[←g1,e])
   have Ds:bm tops h≠bm tops (aG w x):=fun e=>by
    by_cases h4:bm tops (aG w x)= -1
    ·rw[e]at hh;exact hh h4
    ·have:=(po.t1 _ h4).1
     rw[←e,g1]at this
     exact aP this
   exact⟨by rw[p2 _ hn];exact g1,g2,⟨⟨by omega,g3⟩,Ds⟩,hn⟩
  ·have h5:=po.t2 y hy.1.1.1 hy.1.1.2 hy.2
   rw[p2 _ hy.2]
   exact⟨fun e=>by rw[e]at h5;exact hy.1.2 h5.symm,h5⟩
 ·refine vs ?_
  refine(jt m2 po.pr pl2 dH).mono ?_
  rintro _ H3 ⟨r,L3,MJ,oZ,rfl,m3,Tu,w3,e3⟩
  refine And.intro (e3.own o2 no) ?_
  have q4:=e3.own q2 no2
  refine vs ?_
  have q6:=m3.eR q4 (dW (tops:=tops) (h:=aG w x) (by omega) dk)
  refine v4 (ae q4) aoi aol q6 ?_
  refine And.intro (e3.own o2 no) ?_
  refine vs ?_
  have w4:=w3.cD (t:=bm tops (aG w x)) (fun hh=>by
   obtain⟨g1,g2,g3⟩:=po.t1 _ hh
   exact⟨⟨by omega,g3⟩,g1⟩)
  rw[←mz,show ws [bm tops (aG w x),r]=ws [bm tops (aG w x),r]++[] by simp]at w4
  refine(de m3 w4 Tu).mono ?_
  rintro _ H4 ⟨r2,L4,Ur,JR,rfl,_,m4,w5,Xq,e4⟩
  rw[apa]at w5
  refine And.intro (e4.own (e3.own o2 no) no) ?_
  have q5:=e4.own q4 no2
  refine vs ?_
  refine⟨⟨by omega,by omega⟩,?_⟩
  refine v3 q5 aoi aol ?_
  refine⟨by omega,?_⟩
  obtain⟨m5,e5⟩:=m4.ld q5 (aG w x).toNat r2
  refine And.intro (e5.own (e4.own (e3.own o2 no) no) d2) ?_
  obtain⟨tv5,o5,_⟩:=m5.own
  refine v1 (ae o5) ?_
  refine(ci m5.cells x).mono ?_
  rintro _ H6 (⟨bO,_,_⟩| ⟨_,rfl,c6,e6⟩)
  ·exact absurd bJ bO
  have m6:=m5.aJ c6 e6 mF
  refine vs ?_
  have hR:(0<aG w x∧aH par x (-1) x= -1)∧x≠bm tops (aG w x):=⟨⟨dH,hu⟩,fun e=>po.nx e.symm⟩
  have fu:ay (ay ch p (l1++l2)) x [] x=[]:=by unfold ay;rw[if_pos rfl]
  have w6:=w5.drop (x:=x) hR (by rw[w5.fr x hR];exact fu) ((w5.jy x dH).2 (.inr hR)) p0 p1 p2 el
  refine .inr ⟨bJ,rfl,cB.same ⟨B,C,L4,_,Ur,JR,rfl,m6,⟨?_,Xq,by rw[aok];exact l.tl⟩,hS⟩ ((((pE.trans (e3.mono fun z _ h=>by rcases h with h|rfl;exact hC z h;exact t1)).trans (e4.mono fun z _ h=>by rcases h with h|rfl;exact hC z h;exact t1)).trans (e5.mono fun z _ h=>h▸t2)).trans (e6.mono fun z _ h=>hC z h))⟩
  rw[eD (by omega) dk]
  refine⟨w6.pr,w6.done (fun h aP hh=>?_) (fun y hy=>?_)⟩
  ·obtain⟨g1,g2,g3⟩:=po.t1 h hh
   have hn:bm tops h≠x:=fun e=>aP (by rw[←g1,e])
   have Ds:bm tops h≠bm tops (aG w x):=fun e=>by
    by_cases h4:bm tops (aG w x)= -1
    ·rw[e]at hh;exact hh h4
    ·have:=(po.t1 _ h4).1
     rw[←e,g1]at this
     exact aP this
   exact⟨by rw[p2 _ hn];exact g1,g2,⟨⟨by omega,g3⟩,Ds⟩,hn⟩
  ·have h5:=po.t2 y hy.1.1.1 hy.1.1.2 hy.2
   rw[p2 _ hy.2]
   exact⟨fun e=>by rw[e]at h5;exact hy.1.2 h5.symm,h5⟩
theorem uX{n:Nat}{H:Hp}{S:Nat→Prop}{w:Nw}(h:dC n H S w)(g:Int):af Tryz.prog jb [ptr n,i64 g] H fun v H'=>aw (
  (w.len g=0∧v= .tuple [i64 0,.bool false].toArray∧cB (dC n) S H H' w)∨(∃x,w.first g x∧v= .tuple [i64 x,.bool true].toArray∧cB (dC n) S H H' (w.put x (0,0,0)))):=by
 refine bv rH ?_
 refine vs ?_
 refine(qD h g).mono ?_
 rintro _ _ ⟨⟨h0,rfl⟩| ⟨x,hx,rfl⟩,rfl⟩
 ·refine vs ?_
  exact .inl ⟨h0,rfl,cB.same h (ag.refl _ _)⟩
 ·refine vs ?_
  refine(xH h x).mono ?_
  rintro _ H1 (⟨bO,_,_⟩| ⟨_,rfl,h1⟩)
  ·exact absurd (bz.1 (by have:=bM.1 hx;omega)) bO
  refine vs ?_
  exact .inr ⟨x,hx,rfl,h1⟩
theorem JS(n:Nat):yi (.iface 202 (ptr n)) (dC n) where
 slt h:=h.slt
 ext h e hd:=h.ext e hd
 cells:=by
  rintro H S w ⟨B,C,L,tops,ch,par,rfl,m,l,hS⟩
  exact⟨B.c,C,m.cells⟩
 has:=by
  rintro H S w g ⟨B,C,L,tops,ch,par,rfl,m,l,hS⟩
  obtain⟨tv,ho,_⟩:=m.own
  exact⟨_,_,bE,ptr B.c,rfl,fU (off:=0) (by kernel_rfl) (ae ho) rfl,(iH m.cells g).mono fun v H' hp=>hp⟩
 make:=by
  intro H S w h
  exact⟨_,_,lW,ptr n,rfl,bD (by kernel_rfl),(BF h).mono fun v H' hp=>hp⟩
 insert:=by
  intro H S w g x k s h
  exact⟨_,_,jE,ptr n,rfl,bD (by kernel_rfl),(xG h g x k s).mono fun v H' hp=>hp⟩
 min:=by
  intro H S w g h
  refine⟨_,_,mX,ptr n,rfl,bD (by kernel_rfl),(qD h g).mono ?_⟩
  rintro v H' ⟨⟨h1,rfl⟩| ⟨x,h1,rfl⟩,rfl⟩
  ·exact .inl ⟨h1,rfl,cB.same h (ag.refl _ _)⟩
  ·exact .inr ⟨x,h1,rfl,cB.same h (ag.refl _ _)⟩
 extract:=by
  intro H S w g h
  exact⟨_,_,jb,ptr n,rfl,bD (by kernel_rfl),(uX h g).mono fun v H' hp=>hp⟩
 lf:=by
  intro H S w x k s h
  exact⟨_,_,iw,ptr n,rfl,bD (by kernel_rfl),(tQ h x k s).mono fun v H' hp=>hp⟩
 entry:=by
  rintro H S w x ⟨B,C,L,tops,ch,par,rfl,m,l,hS⟩
  obtain⟨tv,ho,_⟩:=m.own
  refine⟨_,_,bh,ptr B.c,rfl,fU (off:=0) (by kernel_rfl) (ae ho) rfl,(gQ m.cells x).mono ?_⟩
  rintro v H' ⟨c1,f,hv⟩
  exact⟨⟨B,C,L,tops,ch,par,rfl,m.fresh f,l,hS⟩,f,hv⟩
section
variable {H H' : Hp} {ro ro' : Nat → Rl} {fb tb n : Nat} {l : List Value} {V : Int → Value} {ch : Int → List Int} {par : Int → Int} {kb : Int → Option Nat} {T : Nat → Prop}
theorem uY(m:ForM H ro fb tb n l V ch par kb){a:Option Addr}{c:Nat}{xs:List Int}(h:cO H 1 (.slice a xs.length c) xs.length (xs.map i64))(hr:∀x∈xs,(0≤x∧x<n)∧par x= -1)(hR:E7 ch xs)(hm:xs.length≤1000000):
  af Tryz.prog yM [ptr fb,.slice a xs.length c] H fun v H'=>aw (v= .bool true∧H'=H):=by
 refine bv zj ?_
 refine vs ?_
 refine aX.intro (fun m env H'=>H'=H∧∃j:Nat,m=xs.length - j∧j≤xs.length∧env=[(0,ptr fb),(1,.slice a xs.length c),(7,.slice a xs.length c),(8,i64 xs.length),(9,i64 j)]) xs.length ⟨rfl,0,by omega,by omega,rfl⟩ ?_
 rintro mm env H1 ⟨e1,j,rfl,hj,rfl⟩
 obtain rfl:=e1.symm
 refine vs ?_
 refine am.dec (fun aO=>?_) (fun aO=>?_)<;>refine vs ?_
 ·have fS:j<xs.length:=by omega
  obtain⟨x,hx⟩:∃x,xs[j]? =some x:=⟨_,aoh fS⟩
  obtain⟨_,b,o,lb,rfl,Bl,bX⟩:=cO.num h hx
  obtain⟨jZ,GU⟩:=hr x (aon hx)
  refine⟨⟨by omega,by omega⟩,?_⟩
  refine v4 Bl Int.toNat_natCast aol bX ?_
  refine(hZ m.t x).mono ?_
  rintro _ H' ⟨rfl,e⟩
  obtain rfl:=e.symm
  rw[aow jZ,aow GU]
  refine vs ?_
  refine am.dec (fun h0=>?_) (fun h0=>?_)
  ·obtain⟨k,rfl⟩:∃k,j=k+1:=⟨j - 1,by omega⟩
   obtain⟨y,hy⟩:∃y,xs[k]? =some y:=⟨_,aoh (by omega)⟩
   obtain⟨_,b',o',Vx,BZ,agn,Xs⟩:=cO.num h hy
   injection BZ with BZ
   injection BZ with ago Kv
   subst ago Kv
   have zJ:(ch y).length< (ch x).length:=by
    have:=List.pairwise_iff_getElem.1 hR k (k+1) (by omega) (by omega) (by omega)
    rw[aoh (by omega)]at hx hy
    injection hx with hx
    injection hy with hy
    rw[hx,hy]at this
    exact this
   refine vs ?_
   rw[wrap64 (n:=((k+1:Nat):Int) - 1) (by omega) (by omega),show((k+1:Nat):Int) - 1=(k:Int) by omega]
   refine⟨⟨by omega,by omega⟩,?_⟩
   refine v4 agn Int.toNat_natCast aol Xs ?_
   refine(dc m y).mono ?_
   rintro _ H' ⟨rfl,e⟩
   obtain rfl:=e.symm
   refine vs ?_
   refine(dc m x).mono ?_
   rintro _ H' ⟨rfl,e⟩
   obtain rfl:=e.symm
   refine vs ?_
   refine am.dec (fun OC=>by omega) (fun _=>?_)
   refine vs ?_
   rw[wrap64 (n:=((k+1:Nat):Int)+1) (by omega) (by omega)]
   exact⟨xs.length - (k+1+1),by omega,trivial,k+1+1,rfl,by omega,rfl⟩
  ·refine vs ?_
   rw[wrap64 (n:=(j:Int)+1) (by omega) (by omega)]
   exact⟨xs.length - (j+1),by omega,trivial,j+1,rfl,by omega,rfl⟩
 ·exact⟨rfl,rfl⟩
theorem qE(t:nH H fb tb n l V par){x:Int}(hx:0≤x∧x<n){kv:Value}{m:Nat}{ks:List Int}{fp:Option Nat}(s:Sl H 1 kv m (ks.map i64) fp)(fZ:fp≠some tb)(bJ:∀k∈ks,0≤k∧k<n)(hl:ks.length≤1000000):
  af Tryz.prog uc [ptr fb,i64 x,kv] H fun v H'=>aw (∃l',nH H' fb tb n l' (uL V x kv) (fun z=>if z∈ks then x else par z)∧ag (fun z=>z=tb) H H'):=by
 obtain rfl:m=ks.length:=by
  have:=s.1
  rw[aoF,aol]at this
  exact this.symm
 obtain⟨ka,kc,rfl⟩:=Sl.shape s
 have oQ:=t.len
 refine bv uq ?_
 refine v1 (ae t.own) ?_
 refine⟨⟨by omega,by omega⟩,?_⟩
 refine v3 t.EM aoi Nat.add_zero ?_
 refine⟨by omega,?_⟩
 obtain⟨t1,e1⟩:=t.uL hx (.slice ka ks.length kc)
 refine vs ?_
 have s1:=s.ext e1 (fun b hb e=>fZ (by rw[hb,e]))
 have sG:=t1.len
 generalize H.wr tb (l.set (x.toNat*2) (.slice ka ks.length kc))=H1 at*
 refine aX.intro (fun mm env H'=>∃ (j:Nat) (l':List Value),mm=ks.length - j∧j≤ks.length∧nH H' fb tb n l' (uL V x (.slice ka ks.length kc)) (fun z=>if z∈ks.take j then x else par z)∧ag (fun z=>z=tb) H1 H'∧
  env=[(0,ptr fb),(1,i64 x),(16,.slice ka ks.length kc),(17,i64 ks.length),(18,i64 j)]) ks.length ⟨0,_,by omega,by omega,by simpa using t1,ag.refl _ _,rfl⟩ ?_
 rintro mm env H2 ⟨j,l2,rfl,hj,t2,e2,rfl⟩
 have s2:=s1.ext e2 (fun b hb e=>fZ (by rw[hb,e]))
 have oJ:=t2.len
 refine vs ?_
 refine am.dec (fun aO=>?_) (fun aO=>?_)<;>refine vs ?_
 ·have fS:j<ks.length:=by omega
  obtain⟨k,hk⟩:∃k,ks[j]? =some k:=⟨_,aoh fS⟩
  obtain⟨_,b,lb,rfl,q2,q3⟩:=Sl.zB s2 hk
  have Zi:=bJ k (aon hk)
  refine⟨⟨by omega,by omega⟩,?_⟩
  refine v6 (ae q2) aoi aol Int.toNat_natCast q3 (ae t2.own) ?_
  refine⟨⟨by omega,by omega⟩,?_⟩
  refine v3 t2.EM aoi Nat.add_zero ?_
  refine⟨by omega,?_⟩
  obtain⟨t3,e3⟩:=t2.aH Zi x
  refine vs ?_
  rw[wrap64 (n:=(j:Int)+1) (by omega) (by omega)]
  refine⟨ks.length - (j+1),by omega,j+1,l2.set (k.toNat*2+1) (i64 x),rfl,by omega,?_,e2.trans e3,rfl⟩
  have tk:ks.take (j+1)=ks.take j++[k]:=by rw[aoT,hk];rfl
  have:(fun z=>if z∈ks.take (j+1)then x else par z)=aH (fun z=>if z∈ks.take j then x else par z) k x:=by
   funext z
   unfold aH
   rw[tk]
   by_cases hz:z=k
   ·rw[if_pos (by simp[hz]),if_pos hz]
   ·rw[if_neg hz]
    by_cases h2:z∈ks.take j
    ·rw[if_pos (aoy _ h2)]
     exact(if_pos h2).symm
    ·rw[if_neg (by simp[h2,hz])]
     exact(if_neg h2).symm
  rw[this]
  exact t3
 ·obtain rfl:j=ks.length:=by omega
  rw[aoP]at t2
  exact⟨l2,t2,e1.trans e2⟩
theorem RK.ext{s:Nat}(r:RK s ro ro')(hz:∀z,z<s→KB ro' z→KB ro z):∀z,z<s→¬KB ro z→¬KB ro' z:=fun z h1 h2 h3=>h2 (hz z h1 h3)
theorem RK.kbs{s:Nat}(r:RK s ro ro'){z:Nat}(hz:z<s)(h:KB ro' z):KB ro z:=by
 rcases h with h| ⟨x,h⟩
 ·refine .inl ?_
  by_cases hk:∃x,ro z= .pD x
  ·obtain⟨x,hx⟩:=hk
   obtain⟨y,hy⟩:=r.k z x hz hx
   rw[hy]at h;cases h
  ·rw[←r.o z hz (fun x hx=>hk ⟨x,hx⟩)];exact h
 ·refine .inr ?_
  apply aoI
  intro hk
  rw[r.o z hz (fun x hx=>hk ⟨x,hx⟩)]at h
  exact hk ⟨x,h⟩
theorem Db(m:ForM H ro fb tb n l V ch par kb)(hz:∀z,H.size≤z→ro z= .no){x:Int}(hx:0≤x∧x<n)(px:par x= -1)(hl:(ch x).length≤65536):
  af Tryz.prog ub [ptr fb,i64 x] H fun v H'=>aw (∃ro' l' V' tN fp,ForM H' ro' fb tb n l' V' (ay ch x []) (fx ch par x) tN∧RK H.size ro ro'∧(∀z,H'.size≤z→ro' z= .no)∧ag (KB ro) H H'∧
   Sl H' 1 v (ch x).length ((ch x).map i64) fp∧∀b,fp=some b→H.size≤b∧ro' b= .no):=by
 have ht:=m.t.len
 obtain⟨a1,a2⟩:=m.t.at_ x hx.1 hx.2
 have kx:=m.kd x hx.1 hx.2
 obtain⟨ka,kc,Zt⟩:=Sl.shape kx
 rw[Zt]at a1 kx
 refine bv um ?_
 refine vs ?_
 refine(hZ m.t x).mono ?_
 rintro _ H' ⟨rfl,e⟩
 obtain rfl:=e.symm
 rw[aow hx,aow px]
 refine v1 (ae m.t.own) ?_
 refine⟨⟨by omega,by omega⟩,?_⟩
 refine v5 (ae m.t.own) (ae m.t.EM) aoi Nat.add_zero a1 ?_
 refine⟨⟨by omega,by omega⟩,?_⟩
 refine v3 m.t.EM aoi Nat.add_zero ?_
 refine⟨by omega,?_⟩
 obtain⟨Xt,Zu,m1,r1,n1,e1⟩:=m.put hz hx (ag.refl _ H) (Sl.nil H 1) (w':=.slice none 0 0) (L':=[]) (.inr (.inl rfl)) (by simp)
 refine vs ?_
 have abw:∀b,kb x=some b→b≠tb:=fun b hb e=>by
  have:=m.rk x b hx.1 hx.2 hb
  rw[e,m.rt]at this
  cases this
 have s1:=kx.ext (m.t.uL hx (.slice none 0 0)).2 (fun b hb=>abw b hb)
 generalize H.wr tb (l.set (x.toNat*2) (.slice none 0 0))=H1 at*
 refine aX.intro (fun mm env H'=>∃ (j:Nat) (l':List Value),mm=(ch x).length - j∧j≤(ch x).length∧ForM H' Xt fb tb n l' (uL V x (.slice none 0 0)) (ay ch x []) (fun z=>if z∈(ch x).take j then -1 else par z) Zu∧ag (fun z=>z=tb) H1 H'∧
  env=[(0,ptr fb),(5,.slice ka (ch x).length kc),(27,.slice ka (ch x).length kc),(28,i64 (ch x).length),(29,i64 j)]) (ch x).length ⟨0,_,by omega,by omega,by simpa using m1,ag.refl _ _,rfl⟩ ?_
 rintro mm env H2 ⟨j,l2,rfl,hj,m2,e2,rfl⟩
 have s2:=s1.ext e2 (fun b hb=>abw b hb)
 have oJ:=m2.t.len
 have hrt:Xt tb= .table:=m2.rt
 refine vs ?_
 refine am.dec (fun aO=>?_) (fun aO=>?_)<;>refine vs ?_
 ·have fS:j< (ch x).length:=by omega
  obtain⟨k,hk⟩:∃k,(ch x)[j]? =some k:=⟨_,aoh fS⟩
  obtain⟨_,b,lb,rfl,q2,q3⟩:=Sl.zB s2 hk
  have Zi:=m.GV x k (aon hk)
  refine⟨⟨by omega,by omega⟩,?_⟩
  refine v6 (ae q2) aoi aol Int.toNat_natCast q3 (ae m2.t.own) ?_
  refine⟨⟨by omega,by omega⟩,?_⟩
  refine v3 m2.t.EM aoi Nat.add_zero ?_
  refine⟨by omega,?_⟩
  obtain⟨m3,_⟩:=m2.aH Zi (-1)
  obtain⟨_,e3⟩:=m2.t.aH Zi (-1)
  refine vs ?_
  rw[wrap64 (n:=(j:Int)+1) (by omega) (by omega)]
  refine⟨(ch x).length - (j+1),by omega,j+1,l2.set (k.toNat*2+1) (i64 (-1)),rfl,by omega,?_,e2.trans e3,rfl⟩
  have tk:(ch x).take (j+1)=(ch x).take j++[k]:=by rw[aoT,hk];rfl
  have:(fun z=>if z∈(ch x).take (j+1)then(-1:Int)else par z)=aH (fun z=>if z∈(ch x).take j then -1 else par z) k (-1):=by
   funext z
   unfold aH
   rw[tk]
   by_cases hz:z=k
   ·rw[if_pos (by simp[hz]),if_pos hz]
   ·rw[if_neg hz]
    by_cases h2:z∈(ch x).take j
    ·rw[if_pos (aoy _ h2)]
     exact(if_pos h2).symm
    ·rw[if_neg (by simp[h2,hz])]
     exact(if_neg h2).symm
  rw[this]
  exact m3
 ·obtain rfl:j=(ch x).length:=by omega
  rw[aoP]at m2
  refine(Bf s2.rd (by omega)).mono ?_
  rintro v H3 ⟨f3,fp,s3,fZ⟩
  have z2:=e2.size
  have z1:=e1.size
  have z3:=f3.size
  refine vs ?_
  refine⟨Xt,l2,_,Zu,fp,m2.fresh f3,r1,fun z dL=>n1 z (by omega),?_,s3,fun b hb=>⟨by have:=fZ b hb;omega,n1 b (by have:=fZ b hb;omega)⟩⟩
  exact(e1.trans (e2.mono fun z dL h=>.inl (by rw[h];exact m.rt))).trans (f3.mono fun _ _ h=>h.elim)
def mw(j k:Nat):List Value:=(List.replicate j [Value.slice none 0 0,Value.int .i64 (-1)]).flatten++(List.replicate k [Value.slice none 0 0,Value.int .i64 0]).flatten
theorem vM(j:Nat)(a b:Value):((List.replicate j [a,b]).flatten).length=j*2:=by
 induction j with
 |zero=>rfl
 |succ j ih=>rw[aoY,apc,aor,ih];simp;omega
theorem Sj{j i:Nat}(a b:Value)(hi:i<j):((List.replicate j [a,b]).flatten)[i*2]? =some a∧((List.replicate j [a,b]).flatten)[i*2+1]? =some b:=by
 induction j generalizing i with
 |zero=>omega
 |succ j ih=>
  rw[aoY,apc]
  cases i with
  |zero=>exact⟨rfl,rfl⟩
  |succ i=>
   have:=ih (i:=i) (by omega)
   rw[show(i+1)*2=i*2+1+1 by omega]
   exact this
theorem Qj(j k:Nat):(mw j k).length=(j+k)*2:=by unfold mw;rw[aor,vM,vM];omega
theorem Qk(j k:Nat):(mw j (k+1)).set (j*2+1) (Value.int .i64 (-1))=mw (j+1) k:=by
 unfold mw
 rw[aqj _ _ (by rw[vM];omega),vM,show j*2+1 - j*2=1 by omega,aoY,apc,aqn,List.flatten_append]
 simp
theorem Gh(H:Hp){n:Int}(hn:0≤n∧n≤65536):af Tryz.prog KQ [i64 n] H fun v H'=>aw (∃fb tb l,v= .tuple [ptr fb,i64 0].toArray∧nH H' fb tb n.toNat l (fun _=>.slice none 0 0) (fun _=> -1)∧ah H H'∧H.size≤fb∧H.size≤tb):=by
 refine bv KZ ?_
 refine vs ?_
 refine am.dec (fun g=>absurd g (by omega)) (fun _=>?_)
 refine vs ?_
 refine am.dec (fun g=>absurd g (by omega)) (fun _=>?_)
 refine vs ?_
 refine⟨⟨by omega,by omega,by omega,by omega⟩,?_⟩
 refine vs ?_
 rw[show cE [Value.slice none 0 0,Value.int .i64 0] n.toNat=mw 0 n.toNat from rfl]
 obtain⟨N,hN⟩:∃N:Nat,n=(N:Int):=⟨n.toNat,by omega⟩
 subst hN
 rw[Int.toNat_natCast]
 have f0:ah H ((H.new 315 (mw 0 N)).new 313 [.slice (some ⟨H.size,0,none⟩) N N]):=((ag.refl _ _).new _ _).new _ _
 have t0:((H.new 315 (mw 0 N)).new 313 [.slice (some ⟨H.size,0,none⟩) N N]).own (H.size+1)=some [.slice (some ⟨H.size,0,none⟩) N N]:=aU (by simp only[ap])
 have t1:((H.new 315 (mw 0 N)).new 313 [.slice (some ⟨H.size,0,none⟩) N N]).own H.size=some (mw 0 N):=by
  rw[cu (by simp only[ap];omega),az]
 generalize (H.new 315 (mw 0 N)).new 313 [.slice (some ⟨H.size,0,none⟩) N N]=H0 at*
 refine aX.intro (fun m env H'=>∃j:Nat,m=N - j∧j≤N∧ag (fun z=>z=H.size) H0 H'∧H'.own H.size=some (mw j (N - j))∧
  env=[(4,ptr (H.size+1)),(20,i64 N),(21,i64 j)]) N ⟨0,by omega,by omega,ag.refl _ _,t1,rfl⟩ ?_
 rintro m env H1 ⟨j,rfl,hj,e1,h1,rfl⟩
 have o1:=e1.own t0 (by omega)
 have sG:=Qj j (N - j)
 refine vs ?_
 refine am.dec (fun aO=>?_) (fun aO=>?_)<;>refine vs ?_
 ·refine v1 (ae o1) ?_
  refine⟨⟨by omega,by omega⟩,?_⟩
  refine v4 h1 aoi Nat.add_zero Int.toNat_natCast ?_
  refine⟨by omega,?_⟩
  refine vs ?_
  have e2:ag (fun z=>z=H.size) H1 (H1.wr H.size ((mw j (N - j)).set (j*2+1) (Value.int .i64 (-1)))):=(ag.refl (fun z=>z=H.size) _).wr (fun _=>rfl) _
  have q2:(H1.wr H.size ((mw j (N - j)).set (j*2+1) (Value.int .i64 (-1)))).own H.size=some ((mw j (N - j)).set (j*2+1) (Value.int .i64 (-1))):=ai h1
  rw[wrap64 (n:=(j:Int)+1) (by omega) (by omega)]
  refine⟨N - (j+1),by omega,j+1,rfl,by omega,e1.trans e2,?_,rfl⟩
  rw[q2,show N - j=(N - (j+1))+1 by omega,Qk]
 ·obtain rfl:j=N:=by omega
  refine⟨H.size+1,H.size,_,rfl,⟨o1,h1,by rw[sG];omega,fun x h0 hx=>?_,by omega⟩,f0.then e1 (fun z hz=>by omega),by omega,by omega⟩
  unfold mw
  rw[apw,aqo,List.flatten_nil,apa]
  exact Sj _ _ (by omega)
end
end Go.Proofs.YtjlnnljohemifaaGreat

namespace Go.Proofs.YtjlnnljohemifaaGreat
open Go Go.Vc
theorem JT:∀ {l:List Int} {i:Nat} {x p:Int},l.Nodup→p∉l→l[i]? =some x→l.set i p=l.map (gW x p):=by
 intro l
 induction l with
 |nil=>intro i x p _ _ h;simp at h
 |cons a r ih=>
  intro i x p hn hp h
  have Ds:=aoB.1 hn
  have hpr:p∉r:=fun h=>hp (by simp[h])
  cases i with
  |zero=>
   simp only[aoM,aos]at h
   subst h
   rw[apH,ao6,kF,Ag Ds.1 hpr]
  |succ i=>
   have hx:r[i]? =some x:=by simpa using h
   have tS:a≠x:=fun e=>Ds.1 (by rw[e];exact aon hx)
   have TT:a≠p:=fun e=>hp (by rw[e];simp)
   rw[ao1,ao6,fy tS TT,ih Ds.2 hpr hx]
def Sk(x p:Int):Rl→Rl
 | .pD y=>.pD (gW x p y)
 |r=>r
section
variable {H H' : Hp} {ro ro' : Nat → Rl} {fb tb n : Nat} {l : List Value} {V : Int → Value} {ch : Int → List Int} {par : Int → Int} {kb : Int → Option Nat} {T : Nat → Prop}
variable {hm : Int → Int} {lt : Int → Int → Bool} {rows : Int → List Int} {W : List Int}
theorem Sl.Us{H:Hp}{v:Value}{m:Nat}{xs:List Int}{fp:Option Nat}(s:Sl H 1 v m (xs.map i64) fp){i:Nat}{x:Int}(hx:xs[i]? =some x):∃b lb c,v= .slice (some ⟨b,0,none⟩) m c∧fp=some b∧H.own b=some lb∧lb[i]? =some (i64 x)∧i<m∧m≤lb.length∧m=xs.length:=by
 obtain⟨a,c,rfl⟩:=Sl.shape s
 have hl:=s.1
 rw[aoF,aol]at hl
 obtain⟨h1,b,lb,rfl,q2,q3⟩:=Sl.zB s hx
 cases fp with
 |none=>have:=s.2.2;injection this with h1;cases h1
 |some b'=>
  obtain⟨_,Vx,c',hs,ho,hc,nT,_⟩:=s
  injection hs with eK Kk GR
  injection eK with eK
  injection eK with eK
  subst eK
  rw[q2]at ho
  injection ho with ho
  subst ho
  exact⟨b,lb,c,rfl,rfl,q2,q3,h1,by omega,hl.symm⟩
theorem nH.agp{H:Hp}{fb tb n:Nat}{l:List Value}{V V':Int→Value}{U U':Int→Int}(t:nH H fb tb n l V U)(h:∀x:Int,0≤x→x<n→V' x=V x∧U' x=U x):nH H fb tb n l V' U':=
 ⟨t.own,t.EM,t.len,fun x h0 h1=>by obtain⟨e1,e2⟩:=h x h0 h1;rw[e1,e2];exact t.at_ x h0 h1,t.ne⟩
theorem EA(m:ForM H ro fb tb n l V ch par kb)(hz:∀z,H.size≤z→ro z= .no)(w:jz hm lt ch par rows W){x p:Int}(hx:0≤x∧x<n)(hp:0≤p∧p<n)(Kt:x∈ch p)(Rh:par p≠ -1→0≤par p∧par p<n)(hn:n≤65536):
  af Tryz.prog lV [ptr fb,i64 x] H fun v H'=>aw (v= .bool true∧∃ro' l' V' tN,ForM H' ro' fb tb n l' V' (GP ch x p) (Je par x p) tN∧RK H.size ro ro'∧(∀z,H'.size≤z→ro' z= .no)∧ag (KB ro) H H'∧∀z,ro z= .no→ro' z= .no):=by
 obtain⟨d1,d2,d3,d4,d5⟩:=w.pr.dn p x Kt
 have aO:=w.less Kt
 have dH:p≠x:=fun e=>by rw[e]at aO;omega
 have npp:p∉ch p:=fun h=>by have:=w.less h;omega
 have npx:p∉ch x:=fun h=>by have:=w.less h;omega
 have nxx:x∉ch x:=fun h=>by have:=w.less h;omega
 have nU:∀z,(ch z).length≤n:=fun z=>bZ (w.pr.nd z) fun c hc=>m.GV z c hc
 have alq:=nU x
 have alr:=nU p
 have oQ:=m.t.len
 obtain⟨x1,x2⟩:=m.t.at_ x hx.1 hx.2
 obtain⟨p1,p2⟩:=m.t.at_ p hp.1 hp.2
 have sx:=m.kd x hx.1 hx.2
 have sp:=m.kd p hp.1 hp.2
 obtain⟨oa,oc,Zt⟩:=Sl.shape sx
 obtain⟨i,hi,e⟩:=aqc.1 Kt
 obtain⟨bp,lp,cp,Vt,hkp,qp,qpi,qi,OV,_⟩:=Sl.Us sp (i:=i) (x:=x) (by rw[aoh hi,e])
 have VI:=m.rk p bp hp.1 hp.2 hkp
 have hbt:bp≠tb:=fun e=>by rw[e,m.rt]at VI;cases VI
 have WO:bp≠fb:=fun e=>by rw[e,m.rf]at VI;cases VI
 have Re:∀b,kb x=some b→b≠tb∧b≠bp:=fun b hb=>by
  have:=m.rk x b hx.1 hx.2 hb
  refine⟨fun e=>(by rw[e,m.rt]at this;cases this),fun e=>?_⟩
  rw[e,VI]at this
  injection this with this
  exact dH this
 rw[Zt]at x1
 rw[Vt]at p1
 refine Fa wZ ⟨rfl,?_⟩
 refine v1 mh.eq_1 ?_
 refine(oU m.t hx).mono ?_
 rintro _ H' ⟨⟨h,_⟩| ⟨_,rfl⟩,e⟩
 ·rw[d1]at h;exact absurd h d2
 obtain rfl:=e.symm
 rw[d1]
 refine v1 (ae m.t.own) ?_
 refine⟨⟨by omega,by omega⟩,?_⟩
 refine v5 (ae m.t.own) (ae m.t.EM) aoi Nat.add_zero x1 ?_
 refine⟨⟨by omega,by omega⟩,?_⟩
 refine v5 (ae m.t.own) (ae m.t.EM) aoi Nat.add_zero p1 ?_
 refine⟨⟨by omega,by omega⟩,?_⟩
 refine v5 (ae m.t.own) (ae m.t.EM) aoi Nat.add_zero p2 ?_
 rw[Vt]at sp
 refine(fD sp.rd x (by omega)).mono ?_
 rintro _ H' ⟨⟨j,rfl,hj⟩,e⟩
 obtain rfl:=e.symm
 obtain⟨hj0,hj⟩:=hj.resolve_left (fun h=>h.2 Kt)
 obtain⟨k,rfl⟩:∃k:Nat,j=(k:Int):=⟨j.toNat,by omega⟩
 rw[Int.toNat_natCast]at hj
 have Ud:=(aoj.1 hj).1
 refine vs ?_
 refine⟨⟨by omega,by omega⟩,?_⟩
 refine v4 qp aoi aol Int.toNat_natCast ?_
 refine⟨by omega,?_⟩
 refine vs ?_
 rw[hkp]at sp
 have Xu:=sp.uC qp k (i64 p)
 have Xv:ag (fun z=>z=bp) H (H.wr bp (lp.set k (i64 p))):=(ag.refl (fun z=>z=bp) _).wr (fun _=>rfl) _
 rw[←ao4,JT (w.pr.nd p) npp hj]at Xu
 have t1:=m.t.ext Xv (Ne.symm WO) (Ne.symm hbt)
 have sx1:=sx.ext Xv (fun b hb=>(Re b hb).2)
 generalize H.wr bp (lp.set k (i64 p))=H1 at*
 have Xa:((ch p).map (gW x p)).length=(ch p).length:=aoF ..
 have bK:∀z,z∈(ch p).map (gW x p)↔(z=p∨(z∈ch p∧z≠x)):=fun z=>by
  rw[iU]
  by_cases h1:z=x
  ·rw[h1,kF]
   exact⟨fun h=>absurd h npp,fun h=>by rcases h with h|h;exact absurd h.symm dH;exact absurd rfl h.2⟩
  ·by_cases h2:z=p
   ·rw[h2,sF];simp[Kt]
   ·rw[fy h1 h2];simp[h1,h2]
 refine(qE t1 hx Xu (fun h=>by injection h with h;exact hbt h) (fun c hc=>?_) (by omega)).mono ?_
 ·rcases(bK c).1 hc with h|h
  ·rw[h];exact hp
  ·exact m.GV p c h.1
 rintro _ H2 ⟨l2,t2,e2⟩
 refine vs ?_
 have sx2:=sx1.ext e2 (fun b hb=>(Re b hb).1)
 rw[Zt]at sx2
 refine(qE t2 hp sx2 (fun h=>(Re tb h).1 rfl) (fun c hc=>m.GV x c hc) (by omega)).mono ?_
 rintro _ H3 ⟨l3,t3,e3⟩
 have RN:=t3.len
 refine v1 (ae t3.own) ?_
 refine⟨⟨by omega,by omega⟩,?_⟩
 refine v3 t3.EM aoi Nat.add_zero ?_
 refine⟨by omega,?_⟩
 obtain⟨t4,e4⟩:=t3.aH hx (par p)
 refine vs ?_
 have Ui:=t4.len
 generalize H3.wr tb (l3.set (x.toNat*2+1) (i64 (par p)))=H4 at*
 generalize l3.set (x.toNat*2+1) (i64 (par p))=l4 at*
 have vI:ag (fun z=>z=tb) H1 H4:=(e2.trans e3).trans e4
 have Zw:x≠ -1:=w.pr.ne Kt
 have gx:par p≠x:=fun e=>by
  by_cases hq:par p= -1
  ·exact Zw (by rw[←e,hq])
  ·have:=w.less (w.pr.up p _ rfl hq)
   rw[e]at this;omega
 have Zx:par p≠p:=fun e=>by
  have:=w.less (w.pr.up p p e d2)
  omega
 have t5:nH H4 fb tb n l4 (fun z=>V (gW x p z)) (Je par x p):=by
  refine t4.agp fun z h0 h1=>⟨?_,?_⟩
  ·by_cases e1:z=x
   ·rw[e1,kF];unfold uL;rw[if_neg dH.symm,if_pos rfl,Vt]
   ·by_cases e2:z=p
    ·rw[e2,sF];unfold uL;rw[if_pos rfl,Zt]
    ·rw[fy e1 e2];unfold uL;rw[if_neg e2,if_neg e1]
  ·show gW x p (par (gW x p z))=(if z=x then par p else if z∈ch x then p else if z∈(ch p).map (gW x p)then x else par z)
   by_cases e1:z=x
   ·rw[if_pos e1,e1,kF,fy gx Zx]
   ·rw[if_neg e1]
    by_cases e2:z=p
    ·rw[e2,sF,d1,sF,if_neg npx,if_pos ((bK p).2 (.inl rfl))]
    ·rw[fy e1 e2]
     by_cases e3:z∈ch x
     ·rw[if_pos e3,(w.pr.dn x z e3).1,kF]
     ·rw[if_neg e3]
      by_cases e4:z∈ch p
      ·rw[if_pos ((bK z).2 (.inr ⟨e4,e1⟩)),(w.pr.dn p z e4).1,sF]
      ·rw[if_neg (fun h=>by rcases(bK z).1 h with h|h;exact e2 h;exact e4 h.1)]
       rw[fy (fun h=>e3 (w.pr.up z x h Zw)) (fun h=>e4 (w.pr.up z p h d2))]
 have hRK:∀H5:Hp,ag (fun z=>z=bp∨z=tb∨kb (par p)=some z∧par p≠ -1) H H5→RK H.size ro (fun z=>Sk x p (ro z))∧(∀z,H5.size≤z→Sk x p (ro z)= .no)∧ag (KB ro) H H5:=fun H5 e5=>by
  refine⟨⟨fun z dL hk=>?_,fun z y dL hy=>⟨gW x p y,by rw[hy];rfl⟩,fun z dL=>.inl (by rw[hz z dL];rfl)⟩,fun z dL=>?_,e5.mono fun z _ h=>?_⟩
  ·cases hr:ro z with
   |pD y=>exact absurd hr (hk y)
   |_=>rfl
  ·have:=e5.size
   rw[hz z (by omega)];rfl
  ·rcases h with h|h| ⟨h,hq⟩
   ·exact .inr ⟨p,by rw[h];exact VI⟩
   ·exact .inl (by rw[h];exact m.rt)
   ·obtain⟨h0,h1⟩:=Rh hq
    exact .inr ⟨par p,m.rk _ z h0 h1 h⟩
 have aby:∀z:Int,¬ (0≤z∧z<n)→GP ch x p z=[]:=fun z dL=>by
  unfold GP
  rw[fy (fun e=>dL (by rw[e];exact hx)) (fun e=>dL (by rw[e];exact hp)),m.no z dL]
  rfl
 have hrS:∀z:Int,(0≤z∧z<n)→0≤gW x p z∧gW x p z<n:=fun z dL=>by
  by_cases e1:z=x
  ·rw[e1,kF];exact hp
  ·by_cases e2:z=p
   ·rw[e2,sF];exact hx
   ·rw[fy e1 e2];exact dL
 have VJ:∀z c,c∈GP ch x p z→0≤c∧c<n:=fun z c hc=>by
  have:=hrS _ (m.GV _ _ (iU.1 hc))
  rwa[iT]at this
 have hkd:∀z:Int,0≤z→z<n→z≠par p→Sl H4 1 (V (gW x p z)) (GP ch x p z).length ((GP ch x p z).map i64) (kb (gW x p z)):=fun z h0 h1 hzg=>by
  by_cases e1:z=x
  ·unfold GP
   rw[e1,kF,hkp,Vt]
   rw[Xa]
   exact Xu.ext vI (fun b hb=>by injection hb with hb;omega)
  ·by_cases e2:z=p
   ·unfold GP
    rw[e2,sF,Zt,Ag nxx npx]
    exact(sx2.ext e3 (fun b hb=>(Re b hb).1)).ext e4 (fun b hb=>(Re b hb).1)
   ·unfold GP
    rw[fy e1 e2]
    have nx:x∉ch z:=fun h=>e2 (by rw[← (w.pr.dn z x h).1,d1])
    have np:p∉ch z:=fun h=>hzg (w.pr.dn z p h).1.symm
    rw[Ag nx np]
    refine((m.kd z h0 h1).ext Xv (fun b hb e=>?_)).ext vI (fun b hb e=>?_)
    ·have:=m.rk z b h0 h1 hb
     rw[e,VI]at this
     injection this with this
     exact e2 this.symm
    ·have:=m.rk z b h0 h1 hb
     rw[e,m.rt]at this
     cases this
 have Xw:∀ (z:Int) b,0≤z→z<n→kb (gW x p z)=some b→Sk x p (ro b)= .pD z:=fun z b h0 h1 hb=>by
  obtain⟨g0,g1⟩:=hrS z ⟨h0,h1⟩
  rw[m.rk _ b g0 g1 hb]
  show Rl.pD (gW x p (gW x p z))=_
  rw[iT]
 refine am.dec (fun h0=>?_) (fun h0=>?_)<;>refine vs ?_
 ·obtain⟨r1,r2,r3⟩:=hRK H4 ((Xv.mono fun z _ h=>.inl h).trans (vI.mono fun z _ h=>.inr (.inl h)))
  refine⟨rfl,_,l4,_,fun z=>kb (gW x p z),⟨t5,fun z g0 g1=>hkd z g0 g1 (by omega),by rw[m.rf];rfl,by rw[m.rt];rfl,Xw,VJ,aby⟩,r1,r2,r3,fun z h=>by show Sk x p (ro z)=_;rw[h];rfl⟩
 ·obtain⟨g0,g1⟩:=Rh h0
  have vA:=w.pr.up p _ rfl h0
  obtain⟨ig,hig,eg⟩:=aqc.1 vA
  have sg:=m.kd (par p) g0 g1
  obtain⟨bg,lg,cg,hvg,hkg,qg,qgi,alu,dk,_⟩:=Sl.Us sg (i:=ig) (x:=p) (by rw[aoh hig,eg])
  have sV:=m.rk _ bg g0 g1 hkg
  have hgt:bg≠tb:=fun e=>by rw[e,m.rt]at sV;cases sV
  have hgb:bg≠bp:=fun e=>by rw[e,VI]at sV;injection sV with sV;exact Zx sV.symm
  have hgf:bg≠fb:=fun e=>by rw[e,m.rf]at sV;cases sV
  obtain⟨a1,a2⟩:=t5.at_ _ g0 g1
  rw[fy gx Zx,hvg]at a1
  refine v1 (ae t5.own) ?_
  refine⟨⟨by omega,by omega⟩,?_⟩
  refine v4 (ae t5.EM) aoi Nat.add_zero a1 ?_
  have qg4:=vI.own (Xv.own qg hgb) hgt
  have sg4:Sl H4 1 (.slice (some ⟨bg,0,none⟩) (ch (par p)).length cg) (ch (par p)).length ((ch (par p)).map i64) (some bg):=by
   rw[hvg,hkg]at sg
   exact(sg.ext Xv (fun b hb=>by injection hb with hb;omega)).ext vI (fun b hb=>by injection hb with hb;omega)
  have alw:=nU (par p)
  refine(fD sg4.rd p (by omega)).mono ?_
  rintro _ H' ⟨⟨j,rfl,hj⟩,e⟩
  obtain rfl:=e.symm
  obtain⟨hj0,hj⟩:=hj.resolve_left (fun h=>h.2 vA)
  obtain⟨k,rfl⟩:∃k:Nat,j=(k:Int):=⟨j.toNat,by omega⟩
  rw[Int.toNat_natCast]at hj
  have Ud:=(aoj.1 hj).1
  refine vs ?_
  refine⟨⟨by omega,by omega⟩,?_⟩
  refine v4 qg4 aoi aol Int.toNat_natCast ?_
  refine⟨by omega,?_⟩
  refine vs ?_
  have sg5:=sg4.uC qg4 k (i64 x)
  have e5:ag (fun z=>z=bg) H4 (H4.wr bg (lg.set k (i64 x))):=(ag.refl (fun z=>z=bg) _).wr (fun _=>rfl) _
  have nxg:x∉ch (par p):=fun h=>Zx (by rw[← (w.pr.dn _ x h).1,d1])
  have Sm:(ch (par p)).map (gW p x)=(ch (par p)).map (gW x p):=aqf fun c _=>by
   unfold gW
   by_cases e1:c=x
   ·rw[if_neg (fun e=>dH (by rw[←e,e1])),if_pos e1,if_pos e1]
   ·by_cases e2:c=p
    ·rw[if_pos e2,if_neg e1,if_pos e2]
    ·rw[if_neg e2,if_neg e1,if_neg e1,if_neg e2]
  rw[←ao4,JT (w.pr.nd _) nxg hj,Sm]at sg5
  obtain⟨r1,r2,r3⟩:=hRK _ (((Xv.mono fun z _ h=>.inl h).trans (vI.mono fun z _ h=>.inr (.inl h))).trans (e5.mono fun z _ h=>.inr (.inr ⟨by rw[h];exact hkg,h0⟩)))
  refine⟨rfl,_,l4,_,fun z=>kb (gW x p z),⟨t5.ext e5 (fun e=>hgf e.symm) (fun e=>hgt e.symm),fun z q0 q1=>?_,by rw[m.rf];rfl,by rw[m.rt];rfl,Xw,VJ,aby⟩,r1,r2,r3,fun z h=>by show Sk x p (ro z)=_;rw[h];rfl⟩
  by_cases hzg:z=par p
  ·unfold GP
   rw[hzg,fy gx Zx,hvg,hkg,aoF]
   exact sg5
  ·refine(hkd z q0 q1 hzg).ext e5 (fun b hb e=>?_)
   have h7:=Xw z b q0 q1 hb
   rw[e,sV]at h7
   have h8:Rl.pD (gW x p (par p))= .pD z:=h7
   injection h8 with h8
   rw[fy gx Zx]at h8
   exact hzg h8.symm
end
end Go.Proofs.YtjlnnljohemifaaGreat

namespace Go.Proofs.YtjlnnljohemifaaGreat
open Go Go.Vc
def Ig(H:Hp)(v:Value)(xs:List Int)(nb:Option Nat):Prop:=
 ∃a c,v= .slice a xs.length c∧xs.length≤c∧(c=0∨∃b o l,a=some ⟨b,o,none⟩∧nb=some b∧H.own b=some l∧o+c≤l.length∧(l.drop o).take xs.length=xs.map i64)
section
variable {H H' : Hp} {ro ro' : Nat → Rl} {B : Nat} {v : Value} {xs : List Int} {T : Nat → Prop} {nb : Option Nat}
theorem Ig.nil(H:Hp)(nb:Option Nat):Ig H (.slice none 0 0) [] nb:=⟨none,0,rfl,aov _,.inl rfl⟩
theorem Ig.rd(h:Ig H v xs nb):cO H 1 v xs.length (xs.map i64):=by
 obtain⟨a,c,rfl,hc,h⟩:=h
 refine⟨by simp,?_⟩
 rcases h with rfl| ⟨b,o,l,rfl,_,h1,h2,h3⟩
 ·exact .inl ⟨by omega,a,0,by rw[show xs.length=0 by omega]⟩
 ·exact .inr ⟨b,o,c,l,rfl,ae h1,by omega,by rw[aol];exact h3⟩
theorem Ig.ext(h:Ig H v xs nb)(e:ag T H H')(hT:∀z,nb=some z→¬T z):Ig H' v xs nb:=by
 obtain⟨a,c,hv,hc,h⟩:=h
 exact⟨a,c,hv,hc,h.imp_right fun⟨b,o,l,h1,h2,h3,h4⟩=>⟨b,o,l,h1,h2,e.own h3 (hT b h2),h4⟩⟩
theorem Ig.cap(h:Ig H v xs nb):∃a c,v= .slice a xs.length c∧xs.length≤c:=by
 obtain⟨a,c,hv,hc,_⟩:=h
 exact⟨a,c,hv,hc⟩
theorem Ig.lit{T:TypeId}(x:Int):Ig (H.new T [i64 x]) (.slice (some ⟨H.size,0,none⟩) 1 1) [x] (some H.size):=
 ⟨_,1,rfl,aov _,.inr ⟨H.size,0,[i64 x],rfl,rfl,az _ _ _,by simp,rfl⟩⟩
theorem Ig.tail{x:Int}{a:Option Addr}{c:Nat}(h:Ig H (.slice a (x::xs).length c) (x::xs) nb)(Qa:Decidable ((c:Int)=1)):
  Ig H (.slice (@ite (Option Addr) ((c:Int)=1) Qa a (Option.map (fun(y:Addr)=>y.add (Int.toNat 1*1)) a)) (((xs.length+1:Nat):Int).toNat - Int.toNat 1) ((c:Int).toNat - Int.toNat 1)) xs nb:=by
 rw[show((xs.length+1:Nat):Int).toNat - Int.toNat 1=xs.length by simp,show(c:Int).toNat - Int.toNat 1=c - 1 by simp]
 obtain⟨a',c',hv,hc,h⟩:=h
 injection hv with e1 e2 e3
 subst e1 e3
 rw[aoD]at hc
 refine⟨_,c - 1,rfl,by omega,?_⟩
 by_cases h1:(c:Int)=1
 ·exact .inl (by omega)
 ·rw[if_neg h1]
  rcases h with h| ⟨b,o,l,rfl,h2,h3,h4,h5⟩
  ·omega
  ·refine .inr ⟨b,o+1,l,rfl,h2,h3,by omega,?_⟩
   rw[aoD,ao6]at h5
   have h6:(l.drop (o+1))=(l.drop o).drop 1:=by rw[aqd]
   rw[h6,List.take_drop,Nat.add_comm,h5]
   rfl
theorem Ig.push{K:Value→Hp→Prop}{T:TypeId}(h:Ig H v xs nb)(x:Int)(hl:xs.length≤1000000)
  (hk:∀w' H' IS,(IS=nb∨∃z,IS=some z∧H.size≤z∧z<H'.size)→Ig H' w' (xs++[x]) IS→ag (fun z=>nb=some z) H H'→K w' H'):
  gk T 1 8 [i64 0] v (.slice (some ⟨H.size,0,none⟩) 1 1) (H.new T [i64 x]) K:=by
 have fl:ah H (H.new T [i64 x]):=(ag.refl _ _).new _ _
 have h1:=h.rd.fresh fl
 obtain⟨a,c,rfl,hc,h⟩:=h
 have hx:cO (H.new T [i64 x]) 1 (.slice (some ⟨H.size,0,none⟩) 1 1) 1 [i64 x]:=(Sl.bU (size:=1) (n:=1) (xs:=[i64 x]) rfl rfl).rd
 refine cO.rowOf hx (F:=fun m new=>(xs.length+m≤c→m=0→K (.slice a xs.length c) (H.new T [i64 x]))∧
  (xs.length+m≤c→m≠0→uZ a fun b o=>aC (JU ((H.new T [i64 x]).own b) ((H.new T [i64 x]).B5 b)) fun l=>dD (o+(xs.length+m)*1≤l.length∧gK new) (K (.slice a (xs.length+m) c) ((H.new T [i64 x]).wr b (bk l (o+xs.length*1) new))))∧
  (c<xs.length+m→Builtin.nextslicecap (xs.length+m) c*8≤2^48∧
   rowOf (H.new T [i64 x]) 1 (.slice a xs.length c) fun _ Sp=>∀c',xs.length+m≤c'→K (.slice (some ⟨(H.new T [i64 x]).size,0,none⟩) (xs.length+m) c') ((H.new T [i64 x]).new T (Sp++new++cE [i64 0] (c' - (xs.length+m)))))) ?_
 refine⟨fun _ h=>absurd h (by omega),fun nT _=>?_,fun aO=>⟨?_,?_⟩⟩
 ·rcases h with rfl| ⟨b,o,l,rfl,h2,h3,h4,h5⟩
  ·omega
  ·have MK:=fl.own h3 (fun h=>h)
   show aC (JU ((H.new T [i64 x]).own b) ((H.new T [i64 x]).B5 b)) _
   rw[MK]
   refine⟨⟨by omega,fun v hv=>by rw[aoq.1 hv];rfl⟩,?_⟩
   have oQ:(xs++[x]).length=xs.length+1:=by simp
   have e2:ag (fun z=>z=b) (H.new T [i64 x]) ((H.new T [i64 x]).wr b (bk l (o+xs.length*1) [i64 x])):=(ag.refl (fun z=>z=b) _).wr (fun _=>rfl) _
   refine hk _ _ nb (.inl rfl) ⟨some ⟨b,o,none⟩,c,by rw[oQ],by rw[oQ];exact nT,.inr ⟨b,o,bk l (o+xs.length*1) [i64 x],rfl,h2,ai MK,by rw[kw];exact h4,?_⟩⟩ ((fl.mono fun _ _ h=>h.elim).trans (e2.mono fun z _ e=>by rw[e];exact h2))
   rw[aol]
   apply ao8
   intro k
   rw[aoN,oQ]
   by_cases hk:k<xs.length+1
   ·rw[aoO hk,aoW,getElem?_splice [i64 x] l _ _ (by simp;omega)]
    by_cases z6:k<xs.length
    ·rw[if_neg (by omega),aox (by simpa using z6),←h5,aoO z6,aoW]
    ·have:k=xs.length:=by omega
     rw[if_pos (by simp;omega),aoK (by simp;omega),this]
     simp
   ·rw[aoz (by simp;omega),aoz (by simp;omega)]
 ·have h2:Builtin.nextslicecap (xs.length+1) c≤2*(xs.length+1):=nextslicecap_le aO
  have h3:=apJ 8 h2
  omega
 ·refine cO.rowOf (n:=xs.length) (xs:=xs.map i64) h1 ?_
  intro c' Jc
  have PD:(H.new T [i64 x]).size=H.size+1:=ap _ _ _
  refine hk _ _ (some (H.new T [i64 x]).size) (.inr ⟨_,rfl,by omega,by simp only[ap];omega⟩) ⟨_,c',by simp,by simpa using Jc,.inr ⟨(H.new T [i64 x]).size,0,_,rfl,rfl,az _ _ _,?_,?_⟩⟩ ((fl.mono fun _ _ h=>h.elim).trans ((ag.refl _ _).new _ _))
  ·simp only[aor,aoF,DH,aoA,aol]
   omega
  ·rw[aqe,aoN]
   exact List.take_left' (by simp)
theorem RK.low{s s':Nat}(r:RK s' ro ro')(hs:s≤s')(hz:∀z,s≤z→ro z= .no):RK s ro ro':=(RK.refl hz).trans r hs
theorem RK.none{s:Nat}(r:RK s ro ro'){z:Nat}(hz:z<s)(h:ro z= .no):ro' z= .no:=by
 rw[r.o z hz (fun x e=>by rw[h]at e;cases e),h]
end
section
variable {H H' : Hp} {ro ro' : Nat → Rl} {fb tb nn c : Nat} {l : List Value} {V : Int → Value} {ch : Int → List Int} {par : Int → Int} {kb : Int → Option Nat} {C : Nat → Prop} {w : Nw} {lt : Int → Int → Bool} {rows : Int → List Int} {W : List Int}
theorem jz.R5{hm:Int→Int}(f:jz (aG w) lt ch par rows W){x:Int}(hx:x∈W):0≤x∧x<w.cs.length:=by
 obtain⟨a,b,_⟩:=aF (f.wm x hx).2
 exact⟨a,b⟩
def KC(ro:Nat→Rl)(z:Nat):Prop:=KB ro z∨ro z= .cell
theorem EB(m:ForM H ro fb tb w.cs.length l V ch par kb)(hz:∀z,H.size≤z→ro z= .no)(hn:∃rest,H.own nn=some (ptr c::rest))(cq:CQ H c C w)(hC:∀z,C z→ro z= .cell)(aO:∀a b,aQ w a b=true→lt a b=true)
  {x y:Int}(f:jz (aG w) lt ch par rows (x::y::W))(hh:aG w x=aG w y)(hd:(ch x).length=(ch y).length):
  af Tryz.prog wz [ptr fb,.iface 198 (ptr nn),i64 x,i64 y] H fun v H'=>aw (∃p q ro' l' V' tN,v=i64 p∧((p=x∧q=y)∨(p=y∧q=x))∧ForM H' ro' fb tb w.cs.length l' V' (ay ch p (ch p++[q])) (aH par q p) tN∧
   jz (aG w) lt (ay ch p (ch p++[q])) (aH par q p) rows (p::W)∧CQ H' c C w∧RK H.size ro ro'∧(∀z,H'.size≤z→ro' z= .no)∧ag (KC ro) H H'):=by
 have uN:=f.R5 (hm:=aG w) (x:=x) (by simp)
 have Wi:=f.R5 (hm:=aG w) (x:=y) (by simp)
 obtain⟨x1,x2⟩:=f.wm x (by simp)
 obtain⟨y1,y2⟩:=f.wm y (by simp)
 have MB:x≠y:=fun e=>by have:=f.wn;rw[e]at this;simp at this
 have xt:=cq.Ef
 have TD:(ch x).length≤w.cs.length:=bZ (f.pr.nd x) fun c hc=>m.GV x c hc
 obtain⟨rest,ho⟩:=hn
 refine bv xd ?_
 refine vs ?_
 refine⟨_,_,cM,ptr c,rfl,fU (off:=0) (by kernel_rfl) (ae ho) rfl,(cF cq y x).mono ?_⟩
 rintro _ H1 ⟨rfl,c1,e1⟩
 have m1:=m.ext e1 (fun z dL h=>by
  have:=hC z h
  rcases dL with h2|h2| ⟨_,h2⟩<;>(rw[this]at h2;cases h2))
 have z1:=e1.size
 have Ly:∀z,H1.size≤z→ro z= .no:=fun z h=>hz z (by omega)
 rw[gS (w:=w) (a:=y) (b:=x) y2 x2]
 cases mN:aQ w y x
 ·refine vs ?_
  have hl:=aO _ _ (((au w).OD x y MB).resolve_right (by rw[mN];simp))
  refine(sT m1 Ly uN Wi x1 y1 MB hd (by omega)).mono ?_
  rintro _ H2 ⟨rfl,n9,l2,V2,DG,m2,r2,dL,e2⟩
  refine vs ?_
  refine⟨x,y,n9,l2,V2,DG,rfl,.inl ⟨rfl,rfl⟩,m2,f.link hh hd hl,c1.ext e2 (fun z h hk=>?_),r2.low z1 hz,dL,(e1.mono fun z _ h=>.inr (hC z h)).trans (e2.mono fun z _ h=>.inl h)⟩
  have:=hC z h
  rcases hk with h2| ⟨_,h2⟩<;>(rw[this]at h2;cases h2)
 ·refine vs ?_
  have hl:=aO _ _ mN
  refine(sT m1 Ly Wi uN y1 x1 MB.symm hd.symm (by omega)).mono ?_
  rintro _ H2 ⟨rfl,n9,l2,V2,DG,m2,r2,dL,e2⟩
  refine vs ?_
  refine⟨y,x,n9,l2,V2,DG,rfl,.inr ⟨rfl,rfl⟩,m2,(f.perm (List.Perm.swap ..)).link hh.symm hd.symm hl,c1.ext e2 (fun z h hk=>?_),r2.low z1 hz,dL,(e1.mono fun z _ h=>.inr (hC z h)).trans (e2.mono fun z _ h=>.inl h)⟩
  have:=hC z h
  rcases hk with h2| ⟨_,h2⟩<;>(rw[this]at h2;cases h2)
end
end Go.Proofs.YtjlnnljohemifaaGreat

namespace Go.Proofs.YtjlnnljohemifaaGreat
open Go Go.Vc
theorem cO.sub{H:Hp}{size n c:Nat}{a:Option Addr}{xs:List Value}(h:cO H size (.slice a n c) n xs){lo hi:Nat}(h1:lo≤hi)(h2:hi≤n){b':Option Addr}{c':Nat}(hb:lo<hi→b'=a.map (·.add (lo*size))):
  cO H size (.slice b' (hi - lo) c') (hi - lo) ((xs.drop (lo*size)).take ((hi - lo)*size)):=by
 obtain⟨hl,hv⟩:=h
 have e1:(hi - lo)*size=hi*size - lo*size:=Nat.sub_mul _ _ _
 have e2:hi*size≤n*size:=apJ _ h2
 have e3:lo*size≤hi*size:=apJ _ h1
 refine⟨by rw[aoX,ap0,hl];omega,?_⟩
 by_cases aO:lo<hi
 ·rcases hv with ⟨hn,_⟩| ⟨b,o,c2,l,hs,eW,nT,ht⟩
  ·omega
  ·right
   injection hs with eK Kk GR
   subst eK
   rw[hb aO]
   refine⟨b,o+lo*size,c',l,?_,eW,by omega,?_⟩
   ·simp[Addr.add]
   ·rw[←ht,List.drop_take,aqd,aqk,apE (by omega)]
 ·left
  exact⟨by omega,b',c',by rw[show hi - lo=0 by omega]⟩
theorem qF{H:Hp}{a:Option Addr}{n c:Nat}{xs:List Int}(h:cO H 1 (.slice a n c) n (xs.map i64)){lo hi:Nat}{lo' hi':Int}(el:lo'=(lo:Int))(eh:hi'=(hi:Int))(h1:lo≤hi)(h2:hi≤n)(h3:n≤c):
  ∃a',Value.slice (if(c:Int)=lo' then a else Option.map (fun x:Addr=>x.add (lo'.toNat*1)) a) (hi'.toNat - lo'.toNat) ((c:Int).toNat - lo'.toNat)= .slice a' (hi - lo) (c - lo)∧
   cO H 1 (.slice a' (hi - lo) (c - lo)) (hi - lo) (((xs.drop lo).take (hi - lo)).map i64)∧hi - lo≤c - lo∧((xs.drop lo).take (hi - lo)).length=hi - lo:=by
 subst el;subst eh
 have hl:=h.1
 rw[aoF,aol]at hl
 refine⟨_,rfl,?_,by omega,by rw[aoX,ap0];omega⟩
 have h4:=cO.sub h (lo:=lo) (hi:=hi) h1 h2 (c':=(c:Int).toNat - (lo:Int).toNat) (b':=if(c:Int)=(lo:Int)then a else Option.map (fun x:Addr=>x.add ((lo:Int).toNat*1)) a) (fun aO=>by rw[if_neg (by omega)];rfl)
 simp only[aol]at h4 ⊢
 rw[←List.map_drop,←List.map_take]at h4
 exact h4
def Gi(H:Hp)(ro:Nat→Rl)(B:Nat)(v:Value)(xs:List Int):Prop:=
 ∃a c,v= .slice a xs.length c∧xs.length≤c∧(xs=[]∨∃b o l,a=some ⟨b,o,none⟩∧b<B∧¬KC ro b∧H.rd b=some l∧o+xs.length≤l.length∧(l.drop o).take xs.length=xs.map i64)
section
variable {H H' H0 : Hp} {ro ro' Xx : Nat → Rl} {B : Nat} {v : Value} {xs : List Int} {T : Nat → Prop}
theorem Gi.rd(h:Gi H ro B v xs):cO H 1 v xs.length (xs.map i64):=by
 obtain⟨a,c,rfl,hc,h⟩:=h
 refine⟨by simp,?_⟩
 rcases h with rfl| ⟨b,o,l,rfl,_,_,h1,h2,h3⟩
 ·exact .inl ⟨rfl,a,c,rfl⟩
 ·exact .inr ⟨b,o,c,l,rfl,h1,by omega,by rw[aol];exact h3⟩
theorem Gi.ext(h:Gi H ro B v xs)(e:ag T H H')(hT:∀z,z<B→¬KC ro z→¬T z)(hr:∀z,z<H.size→KC ro' z→KC ro z):Gi H' ro' B v xs:=by
 obtain⟨a,c,hv,hc,h⟩:=h
 exact⟨a,c,hv,hc,h.imp_right fun⟨b,o,l,h1,h2,h3,h4,h5⟩=>⟨b,o,l,h1,h2,fun h=>h3 (hr b (O5 h4) h),e.rd h4 (hT b h2 h3),h5⟩⟩
theorem Gi.tail{x:Int}{a:Option Addr}{c:Nat}(h:Gi H ro B (.slice a (x::xs).length c) (x::xs))(Qa:Decidable ((c:Int)=1)):
  Gi H ro B (.slice (@ite (Option Addr) ((c:Int)=1) Qa a (Option.map (fun(y:Addr)=>y.add (Int.toNat 1*1)) a)) (((xs.length+1:Nat):Int).toNat - Int.toNat 1) ((c:Int).toNat - Int.toNat 1)) xs:=by
 rw[show((xs.length+1:Nat):Int).toNat - Int.toNat 1=xs.length by simp,show(c:Int).toNat - Int.toNat 1=c - 1 by simp]
 obtain⟨a',c',hv,hc,h⟩:=h
 injection hv with e1 e2 e3
 subst e1 e3
 rw[aoD]at hc
 refine⟨_,c - 1,rfl,by omega,?_⟩
 by_cases h1:(c:Int)=1
 ·exact .inl (aoR.1 (by omega))
 ·rw[if_neg h1]
  rcases h with h| ⟨b,o,l,rfl,h2,h3,h4,h5,h6⟩
  ·cases h
  ·rw[aoD]at h5 h6
   refine .inr ⟨b,o+1,l,rfl,h2,h3,h4,by omega,?_⟩
   rw[ao6]at h6
   have h7:(l.drop (o+1))=(l.drop o).drop 1:=by rw[aqd]
   rw[h7,List.take_drop,Nat.add_comm,h6]
   rfl
theorem Gi.head{x:Int}(h:Gi H ro B v (x::xs)):∃b o l c,v= .slice (some ⟨b,o,none⟩) (x::xs).length c∧H.rd b=some l∧b<H.size∧l[o]? =some (i64 x)∧(x::xs).length≤c:=by
 obtain⟨a,c,hv,hc,h⟩:=h
 rcases h with h| ⟨b,o,l,rfl,h2,h3,h4,h5,h6⟩
 ·cases h
 ·refine⟨b,o,l,c,hv,h4,O5 h4,?_,hc⟩
  have h7:((x::xs).map i64)[0]? =some (i64 x):=rfl
  rw[←h6,aoV,if_pos (by simp),aoW]at h7
  exact h7
theorem Gi.cap(h:Gi H ro B v xs):∃a c,v= .slice a xs.length c∧xs.length≤c:=by
 obtain⟨a,c,hv,hc,_⟩:=h
 exact⟨a,c,hv,hc⟩
theorem RK.kcs{s:Nat}(r:RK s ro ro'){z:Nat}(hz:z<s)(h:KC ro' z):KC ro z:=by
 rcases h with h|h
 ·exact .inl (r.kbs hz h)
 ·refine .inr ?_
  by_cases hk:∃x,ro z= .pD x
  ·obtain⟨x,hx⟩:=hk
   obtain⟨y,hy⟩:=r.k z x hz hx
   rw[hy]at h;cases h
  ·rw[←r.o z hz (fun x hx=>hk ⟨x,hx⟩)];exact h
structure pe(H0:Hp)(Xx:Nat→Rl)(nn fb tb c:Nat)(C:Nat→Prop)(w:Nw)(H:Hp)(ro:Nat→Rl)(l:List Value)(V:Int→Value)(ch:Int→List Int)(par:Int→Int)(kb:Int→Option Nat)(va vb:Value)(a b:List Int):Prop where
 m:ForM H ro fb tb w.cs.length l V ch par kb
 cq:CQ H c C w
 hC:∀z,C z→ro z= .cell
 own:∃rest,H.own nn=some (ptr c::rest)
 hn:ro nn= .RJ
 hz:∀z,H.size≤z→ro z= .no
 rk:RK H0.size Xx ro
 ra:Gi H ro H0.size va a
 rb:Gi H ro H0.size vb b
 e:ag (KC Xx) H0 H
variable {nn fb tb c : Nat} {C : Nat → Prop} {w : Nw} {l : List Value} {V : Int → Value} {ch : Int → List Int} {par : Int → Int} {kb : Int → Option Nat} {va vb : Value} {a b : List Int}
theorem pe.Ut(h:pe H0 Xx nn fb tb c C w H ro l V ch par kb va vb a b)(e:ag T H H')(hT:∀z,T z→H0.size≤z∧ro z= .no):pe H0 Xx nn fb tb c C w H' ro l V ch par kb va vb a b:=by
 have bO:∀z r,ro z=r→r≠ .no→¬T z:=fun z r h1 h2 ht=>h2 (by rw[←h1,(hT z ht).2])
 obtain⟨rest,ho⟩:=h.own
 have hs:=e.size
 refine⟨h.m.ext e (fun z hz=>?_),h.cq.ext e (fun z hz=>bO z _ (h.hC z hz) (by intro h;cases h)),h.hC,⟨rest,e.own ho (bO nn _ h.hn (by intro h;cases h))⟩,h.hn,fun z hz=>h.hz z (by omega),h.rk,
  h.ra.ext e (fun z hz _ ht=>by have:=(hT z ht).1;omega) (fun _ _ h=>h),h.rb.ext e (fun z hz _ ht=>by have:=(hT z ht).1;omega) (fun _ _ h=>h),?_⟩
 ·rcases hz with h1|h1| ⟨x,h1⟩<;>exact bO z _ h1 (by intro h;cases h)
 ·exact⟨apb h.e.size e.size,fun z hz hn=>by
   rw[e.aM z (aoH hz h.e.size) (fun ht=>by have:=(hT z ht).1;omega),h.e.aM z hz hn]⟩
end
end Go.Proofs.YtjlnnljohemifaaGreat

namespace Go.Proofs.YtjlnnljohemifaaGreat
open Go Go.Vc
theorem EC{H:Hp}{a:Option Addr}{c:Nat}{xs:List Int}(f:FuncId)(qv:List Value)(q:Int→Bool)(Inv:Hp→Prop)(hI:Inv H)(eW:∀H',Inv H'→cO H' 1 (.slice a xs.length c) xs.length (xs.map i64))(Em:eF Tryz.prog f=true)
  (hf:∀H' x,x∈xs→Inv H'→af Tryz.prog f (i64 x::qv) H' fun v GQ=>aw (v= .bool (q x)∧Inv GQ))(hm:xs.length≤1000000000):
  af Tryz.prog fK [.slice a xs.length c,.func (.func f) #[] qv.toArray] H fun v H'=>aw (∃i:Int,v=i64 i∧(0≤i↔xs.any q=true)∧Inv H'):=by
 refine bv fN ?_
 refine vs ?_
 refine aX.intro (fun m env H'=>Inv H'∧∃j:Nat,m=xs.length - j∧j≤xs.length∧(∀e∈xs.take j,q e=false)∧env=[(0,.slice a xs.length c),(1,.func (.func f) #[] qv.toArray),(7,i64 xs.length),(8,i64 j)]) xs.length ⟨hI,0,by omega,by omega,by simp,rfl⟩ ?_
 rintro m env H1 ⟨i1,j,T7,hj,cX,rfl⟩
 have h1:=eW H1 i1
 refine vs ?_
 refine am.dec (fun aO=>?_) (fun aO=>?_)<;>refine vs ?_
 ·have fS:j<xs.length:=by omega
  obtain⟨e,he⟩:∃e,xs[j]? =some e:=⟨_,aoh fS⟩
  obtain⟨_,b,o,lb,rfl,Bl,bX⟩:=cO.num h1 he
  refine⟨⟨by omega,by omega⟩,?_⟩
  have bK:=aon he
  refine v4 Bl Int.toNat_natCast aol bX ?_
  refine⟨Em,?_⟩
  refine af.mono (by simpa using hf H1 e bK i1) ?_
  rintro _ H2 ⟨rfl,i2⟩
  refine vs ?_
  cases hx:q e
  ·refine vs ?_
   rw[wrap64 (n:=(j:Int)+1) (by omega) (by omega)]
   refine⟨xs.length - (j+1),by omega,i2,j+1,rfl,by omega,?_,rfl⟩
   intro e' iG
   rw[aoT,he]at iG
   rcases aou.1 iG with iG|iG
   ·exact cX e' iG
   ·have:e'=e:=by simpa using iG
    rw[this];exact hx
  ·refine vs ?_
   exact⟨j,rfl,⟨fun _=>List.any_eq_true.2 ⟨e,bK,hx⟩,fun _=>by omega⟩,i2⟩
 ·refine⟨-1,rfl,?_,i1⟩
  have fS:j=xs.length:=by omega
  subst fS
  rw[aoP]at cX
  have:xs.any q=false:=List.any_eq_false.2 fun e he=>by rw[cX e he];simp
  rw[this]
  simp
theorem zO{H:Hp}{a:Option Addr}{c:Nat}{xs:List Int}(f:FuncId)(qv:List Value)(q:Int→Bool)(Inv:Hp→Prop)(hI:Inv H)(eW:∀H',Inv H'→cO H' 1 (.slice a xs.length c) xs.length (xs.map i64))(Em:eF Tryz.prog f=true)
  (hf:∀H' x,x∈xs→Inv H'→af Tryz.prog f (i64 x::qv) H' fun v GQ=>aw (v= .bool (q x)∧Inv GQ))(hm:xs.length≤1000000000):
  af Tryz.prog kH [.slice a xs.length c,.func (.func f) #[] qv.toArray] H fun v H'=>aw (v= .bool (xs.any q)∧Inv H'):=by
 refine bv kO ?_
 refine vs ?_
 refine(EC f qv q Inv hI eW Em hf hm).mono ?_
 rintro _ H1 ⟨i,rfl,hi,i1⟩
 refine vs ?_
 refine⟨aoE Value.bool ?_,i1⟩
 cases hx:xs.any q
 ·rw[hx]at hi
  exact aoJ (fun h=>by cases hi.1 h)
 ·rw[hx]at hi
  exact aow (hi.2 rfl)
end Go.Proofs.YtjlnnljohemifaaGreat
