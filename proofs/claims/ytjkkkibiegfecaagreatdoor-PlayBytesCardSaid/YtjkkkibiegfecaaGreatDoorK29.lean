/- Texts put behind each other. -/
import Derived.Test.YtjkkkibiegfecaaGreatDoorK28
set_option linter.unusedSimpArgs false
set_option linter.unusedVariables false
set_option maxRecDepth 100000
set_option maxHeartbeats 8000000
namespace Go.Proofs.YtjkkkibiegfecaaGreatDoor
open Go Go.Vc
section
variable{lo n v a m:Nat}{p:Program}{z w:TypeId}{X J:Hp}{g x:Int}
abbrev gA(A:Ar)(m:Option Addr)(T:List (Int×Nat))(c:Nat)(z:Option Addr)(G:List (Int×Nat))(gc:Nat)(w:Nw)(a:Option Addr)(n:Nat)(x:Option Addr)(h:Nat)(q:Int):List Value:=[i64 A.g.length,.int .u32 (A.mo:Int),.slice m T.length c,.slice z G.length gc,.slice a w.hs.length n,.slice x w.cs.length h,u64 q]
theorem KW{vs:List Value}{H:Hp}{m:TypeId}{a b c:List Value}{K:Value->Hp->Prop}
  (h:∀x,af H x->x.own H.size=some a->x.own (H.size+1)=some b->x.own (H.size+1+1)=some c->x.size=H.size+3->ee p n vs x K):ee p n vs (((H.new z a).new w b).new m c) K:=by
 refine h _ ((bD.new _ _).new _ _) ?_ ?_ (az (by simp only[ag])) (by simp only[ag])
 ·rw[ay (by simp only[ag];omega),ay (by simp only[ag];omega),am]
 ·rw[ay (by simp only[ag];omega)];exact az (by simp only[ag])
theorem Tb{vs:List Value}{H:Hp}{a b:List Value}{K:Value->Hp->Prop}
  (h:∀x,af H x->x.own H.size=some a->x.own (H.size+1)=some b->x.size=H.size+2->ee p n vs x K):ee p n vs ((H.new z a).new w b) K:=by
 refine h _ (bD.new _ _) ?_ (az (by simp only[ag])) (by simp only[ag]);rw[ay (by simp only[ag];omega),am]
theorem Tc{vs:List Value}{H:Hp}{m v:TypeId}{a b c d:List Value}{K:Value->Hp->Prop}
  (h:∀x,af H x->x.own H.size=some a->x.own (H.size+1)=some b->x.own (H.size+1+1)=some c->x.own (H.size+1+1+1)=some d->x.size=H.size+4->ee p n vs x K):ee p n vs ((((H.new z a).new w b).new m c).new v d) K:=by
 refine h _ (((bD.new _ _).new _ _).new _ _) ?_ ?_ ?_ (az (by simp only[ag])) (by simp only[ag])
 ·rw[ay (by simp only[ag];omega),ay (by simp only[ag];omega),ay (by simp only[ag];omega),am]
 ·rw[ay (by simp only[ag];omega),ay (by simp only[ag];omega)];exact az (by simp only[ag])
 ·rw[ay (by simp only[ag];omega)];exact az (by simp only[ag])
theorem OE(H:Hp)(x h:TypeId)(a b l1 l2:List Value):af H ((((H.new x a).new h b).wr H.size l1).wr (H.size+1) l2)/\((((H.new x a).new h b).wr H.size l1).wr (H.size+1) l2).own H.size=some l1/\((((H.new x a).new h b).wr H.size l1).wr (H.size+1) l2).own (H.size+1)=some l2/\((((H.new x a).new h b).wr H.size l1).wr (H.size+1) l2).size=H.size+2:=by
 refine⟨((bD.new _ _).then (bS _ _ _) O).then (bS _ _ _) O,?_,?_,by simp only[bH,ag]⟩
 ·rw[aG O];exact ah (l':=a) (by rw[ay (by simp only[ag];omega),am])
 ·exact ah (l':=b) (by rw[aG O];exact az (by simp only[ag]))
theorem Dz{w:Nw}(h:w.zd g=some x):w.first g x:=by
 unfold Nw.zd at h;split at h
 ·grind
 grind
theorem cu.cells{H:Hp}{c z:Option Addr}{w:Nw}{B:Nat->Prop}(h:cu H (.agg [.slice c n v,.slice z m a].toArray) w B):m=w.cs.length/\bX H 3 (.slice z w.cs.length a) w.cs.length (bP w.cs)/\∀x,z=some x->B x.block:=by
 obtain⟨r,j,g,y,e,_,d,_,_,_,p⟩:=h;grind
theorem cu.val{H:Hp}{v:Value}{w:Nw}{B:Nat->Prop}(h:cu H v w B):∃a n x z,v= .agg (dU w a n x z).toArray:=by
 obtain⟨a,n,x,z,e,_⟩:=h;grind
def mF(H:Hp)(l:List Value)(t:iu)(Bs:Nat->Prop)(N:Nat):Prop:=
 ∃n m z gc w a x h T G,l=[i64 t.A.g.length,.int .u32 (t.A.mo:Int),.slice n (T:List (Int×Nat)).length m,.slice z (G:List (Int×Nat)).length gc,.slice w t.w.hs.length a,.slice x t.w.cs.length h,u64 t.q]/\
  Ez H (eB t.A n T m z G gc) t.A T G Bs N/\cu H (.agg (dU t.w w a x h).toArray) t.w Bs/\Cg t.w t.A/\(∀b,Bs b->b<H.size)
section
variable {H : Hp} {l : List Value} {t : iu} {Bs : Nat → Prop} {N : Nat}
theorem mF.fresh(h:mF H l t Bs N)(e:af H J):mF J l t Bs N:=by
 obtain⟨r,j,w,gc,v,y,x,z,T,G,rfl,a,n,m,c⟩:=h;exact⟨r,j,w,gc,v,y,x,z,T,G,rfl,a.fresh e,n.fresh e,m,fun b g=>aj0 (c b g) e.size⟩
theorem mF.grow(h:mF H l t Bs N)(e:af H J):mF J l t (jA Bs H J) (N+1):=by
 obtain⟨d,p,m,gc,r,j,a,n,T,G,rfl,c,v,g,y⟩:=h;refine⟨d,p,m,gc,r,j,a,n,T,G,rfl,?_,(v.fresh e).mono fun b x=>.inl x,g,fun b x=>?_⟩
 ·obtain⟨_,_,_,_,q,a1,a2,a3,a4,z,w,o,f⟩:=(c.fresh e).mono (B2:=jA Bs H J) fun b x=>.inl x;exact⟨_,_,_,_,q,a1,a2,a3,a4,z,w,O,O⟩
 ·rcases x with x|x
  ·exact aj0 (y b x) e.size
  omega
theorem mF.wr{x:Hp}{p:Nat}(h:mF x l t (fun b=>Bs b\/(lo<=b/\b<x.size)) N)(q:∀b,Bs b->b<H.size)(j:H.size<=p)(d:p<lo)(l':List Value):mF (x.wr p l') l t (fun b=>Bs b\/(lo<=b/\b< (x.wr p l').size)) N:=by
 obtain⟨y,r,a,gc,n,m,z,w,T,G,rfl,c,v,e,g⟩:=h;have key:∀b,(Bs b\/(lo<=b/\b<x.size))->¬b=p:=Z;rw[bH];exact⟨y,r,a,gc,n,m,z,w,T,G,rfl,c.ext (bS _ _ _) key,v.ext (bS _ _ _) key,e,by rw[bH];exact g⟩
theorem mF.mono{B2:Nat->Prop}(h:mF H l t Bs N)(x:∀b,Bs b->B2 b)(m:∀b,B2 b->b<H.size):mF H l t B2 N:=by
 obtain⟨y,r,a,gc,n,c,z,w,T,G,rfl,v,e,g,j⟩:=h;exact⟨y,r,a,gc,n,c,z,w,T,G,rfl,v.mono x,e.mono x,g,m⟩
theorem mF.gr{E:Hp}(h:mF E l t (fun b=>Bs b\/(lo<=b/\b<E.size)) N)(m:H.size<=lo):mF E l t (jA Bs H E) N:=by
 have z:=h;obtain⟨j,d,n,gc,c,v,w,a,T,G,rfl,e,g,y,r⟩:=h;exact z.mono (fun b x=>x.imp_right fun h=>O) fun b x=>by
  rcases x with x|x
  ·grind
  omega
theorem mF.up(h:mF H l t Bs N):mF H l t Bs (N+1):=by
 obtain⟨g,y,n,gc,c,v,w,a,T,G,rfl,m,q⟩:=h;obtain⟨_,_,_,_,e,a1,a2,a3,a4,x,z,r,j⟩:=m;exact⟨g,y,n,gc,c,v,w,a,T,G,rfl,⟨_,_,_,_,e,a1,a2,a3,a4,x,z,O,O⟩,q⟩
abbrev RY(Bs:Nat->Prop)(N:Nat)(H:Hp)(p:iu×Rp)(v:Value)(J:Hp):Prop:=af H J/\∃l',v= .tuple [.agg l'.toArray,MK p.2].toArray/\mF J l' p.1 (jA Bs H J) (N+1)
theorem db{L:List Value}{p:iu×Rp}{b:Nat}(x:∀b,Bs b->b<H.size)(w:af H X)(o:mF X L p.1 (fun b=>Bs b\/(lo<=b/\b<X.size)) (N+1))(h:H.size<=a/\a<lo)(z:H.size<=b/\b<lo):
  RY Bs N H p (.tuple [.agg L.toArray,MK p.2].toArray) ((X.wr a L).wr b (BF p.2)):=
 ⟨(w.then (bS X a L) O).then (bS _ b (BF p.2)) O,L,rfl,((o.wr x h.1 h.2 _).wr x z.1 z.2 _).gr O⟩
theorem mF.same(h:mF H l t Bs N)(w:af H X):mF X l t (fun b=>Bs b\/(lo<=b/\b<X.size)) (N+1):=by
 have z:∀b,Bs b->b<H.size:=by
  obtain⟨r,j,m,gc,g,y,a,n,T,G,rfl,c,v,e,z⟩:=h;exact z
 exact(h.fresh w|>.up).mono Z fun b x=>by
  rcases x with x|x
  ·have:=z b x;have:=w.size;omega
  omega
theorem DA{A:Ar}{T G:List (Int×Nat)}{c a n h:Option Addr}{gc z:Nat}{w:Nw}{B2:Nat->Prop}{q:Int}(d:∀b,Bs b->b<H.size)
  (j:Ez H (eB A c T v a G gc) A T G Bs N)(e:af H X)(r:cu X (.agg (dU w n m h z).toArray) w B2)(p:∀b,B2 b->Bs b\/(lo<=b/\b<X.size))(k:Cg w A):
  mF X (gA A c T v a G gc w n m h z q) ⟨w,A,q⟩ (fun b=>Bs b\/(lo<=b/\b<X.size)) (N+1):=by
 refine⟨c,v,a,gc,n,m,h,z,T,G,rfl,?_,r.mono p,k,fun b x=>?_⟩
 ·obtain⟨_,_,_,_,q,a1,a2,a3,a4,g,y,o,f⟩:=(j.fresh e).mono (B2:=fun b=>Bs b\/(lo<=b/\b<X.size)) fun b x=>.inl x;exact⟨_,_,_,_,q,a1,a2,a3,a4,g,y,O,O⟩
 ·rcases x with x|x
  ·have:=d b x;have:=e.size;omega
  omega
theorem BM(h:mF H l t Bs N)(p:N<=100000)(x:Int)(g:Nat):aF 72 [.agg l.toArray,eU x g] H fun v J=>ak (v=MK (Jd t x g)/\af H J):=by
 obtain⟨E,X,U,gc,I,V,F,Q,T,G,rfl,j,d,m,W⟩:=h;refine aT GU ?_;refine vs ?_;refine KW fun u n b0 c e z0=>?_;refine(fv (j.fresh n) p x g).mono ?_;rintro _ B ⟨rfl,z⟩;have a:=z.own e (fun h=>h);unfold Jd;by_cases w:t.A.yg x g
 ·rw[ajQ w,if_neg (fun h=>h w)];obtain⟨y,q,f,y2,y3⟩:=m.nG w.1;have M:=(m.live x).2 w.1|>.1;obtain⟨P,o,l,rfl,r,L,c3,c4,c5,A,C,K⟩:=bX.cell ((d.cells.2.1.fresh n).fresh z) q;have D:=O;refine v2 (ae (z.own b0 (fun h=>h))) (ae (z.own c (fun h=>h))) ?_;refine⟨O,?_⟩;refine v4 r Nat.add_zero c4 a ?_;simp(disch:=(first|exact aV|fail)) only[go_sem, ↓reduceIte,Zv,cf a];rw[f];exact⟨rfl,(n.trans z).then (bS _ _ _) O⟩
 ·rw[ajO w,if_pos w];refine v1 a ?_;simp(disch:=(first|exact aV|fail)) only[go_sem, ↓reduceIte,Zv,cf a];exact⟨rfl,(n.trans z).then (bS _ _ _) O⟩
theorem DB(h:mF H l t Bs N)(p:N<=100000)(x:Int)(g:Nat):aF 71 [.agg l.toArray,eU x g] H fun v J=>ak (v=MK (Jc t x g)/\af H J):=by
 obtain⟨M,E,U,gc,I,V,F,Q,T,G,rfl,j,d,c,W⟩:=h;refine aT IF ?_;refine vs ?_;refine KW fun u n b0 e r z0=>?_;refine(fv (j.fresh n) p x g).mono ?_;rintro _ B ⟨rfl,z⟩;have a:=z.own r (fun h=>h);unfold Jc;by_cases w:t.A.yg x g
 ·rw[ajQ w,if_neg (fun h=>h w)];obtain⟨y,q,X,f,y3⟩:=c.nG w.1;have D:=(c.live x).2 w.1|>.1;obtain⟨P,o,l,rfl,m,L,c3,c4,c5,A,C,K⟩:=bX.cell ((d.cells.2.1.fresh n).fresh z) q;refine v3 (ae (z.own b0 (fun h=>h))) (ae (z.own e (fun h=>h))) m ?_;refine⟨O,?_⟩;refine v3 m c5 a ?_;simp(disch:=(first|exact aV|fail)) only[go_sem, ↓reduceIte,Zv,cf a];rw[f];exact⟨rfl,(n.trans z).then (bS _ _ _) O⟩
 ·rw[ajO w,if_pos w];refine v1 a ?_;simp(disch:=(first|exact aV|fail)) only[go_sem, ↓reduceIte,Zv,cf a];exact⟨rfl,(n.trans z).then (bS _ _ _) O⟩
theorem DC(h:mF H l t Bs N)(g:Int):aF 70 [.agg l.toArray,i64 g] H fun v J=>ak (v=MK (Jb t g)/\af H J):=by
 obtain⟨L,A,q,gc,B,P,d,p,T,G,rfl,o,c,f,u⟩:=h;refine aT IE ?_;refine vs ?_;refine Tb fun y z b0 e C=>?_;refine(dA (c.fresh z) g).mono ?_;rintro _ r ⟨rfl,x⟩;have a:=x.own e (fun h=>h);unfold Jb;by_cases w:t.w.has g
 ·rw[ajQ w,if_neg (fun h=>h w)];refine v1 (ae (x.own b0 (fun h=>h))) ?_;refine(Dk ((c.fresh z).fresh x) g).mono ?_;rintro _ j ⟨rfl,m⟩;have n:=m.own a (fun h=>h);refine v1 n ?_;simp(disch:=(first|exact aV|fail)) only[go_sem, ↓reduceIte,Zv,cf n];exact⟨rfl,((z.trans x).trans m).then (bS _ _ _) O⟩
 ·rw[ajO w,if_pos w];refine v1 a ?_;simp(disch:=(first|exact aV|fail)) only[go_sem, ↓reduceIte,Zv,cf a];exact⟨rfl,(z.trans x).then (bS _ _ _) O⟩
theorem sR(h:mF H l t Bs N)(F:N<=100000)(g:Int):aF 65 [.agg l.toArray,i64 g] H fun v J=>ak (v=MK (dP t g)/\af H J):=by
 obtain⟨ta,tc,ga,gc,ha,hc,X,cc,T,G,rfl,K,p,q,h4⟩:=h;refine aT ID ?_;refine vs ?_;refine Tb fun I w b0 P z0=>?_;refine(dA (p.fresh w) g).mono ?_;rintro _ V ⟨rfl,z⟩;have d:=z.own P (fun h=>h);unfold dP;by_cases e:t.w.has g
 ·rw[ajQ e,if_neg (fun h=>h e)];refine v1 (ae (z.own b0 (fun h=>h))) ?_;refine(Dw ((p.fresh w).fresh z) g).mono ?_;rintro _ D ⟨rfl,m⟩;have n:=m.own d (fun h=>h);cases Q:t.w.zd g with
  |none=>
   refine v1 n ?_;simp(disch:=(first|exact aV|fail)) only[go_sem, ↓reduceIte,Zv,cf n];exact⟨rfl,((w.trans z).trans m).then (bS _ _ _) O⟩
  |some x=>
   have f:t.A.live x:=by
    obtain⟨MR,hh,_⟩:=bi.1 (Dz Q);exact(q.live x).1 (bg.1 O)
   have r:=(w.trans z).trans m;have B:=(z.trans m).own b0 (fun h=>h);refine v1 (ae B) ?_;refine(Ff (K.fresh r) F f).mono ?_;rintro _ j ⟨rfl,a⟩;obtain⟨c,L,z4⟩:=oz j 29 cI [i64 x,.int .u32 (t.A.bf x:Int)];have z3:=aC (a.own n (fun h=>h));refine vs ?_;generalize (j.new 29 cI).wr j.size [i64 x,.int .u32 (t.A.bf x:Int)]=M at*;obtain⟨y,U,y1,W,y3⟩:=q.nG f;have kh:=(q.live x).2 f|>.1;obtain⟨E,o,l,rfl,A,d2,d3,d4,C,d6,d7,d8⟩:=bX.cell ((p.cells.2.1.fresh r).fresh (a.trans c)) U;have u:=(a.trans c).own n (fun h=>h);refine v2 (ae L) (ae ((a.trans c).own B (fun h=>h))) ?_;refine⟨O,?_⟩;refine v3 A C u ?_;simp(disch:=(first|exact aV|fail)) only[go_sem, ↓reduceIte,Zv,cf u];rw[W];exact⟨rfl,(r.trans (a.trans c)).then (bS _ _ _) O⟩
 ·rw[ajO e,if_pos e];refine v1 d ?_;simp(disch:=(first|exact aV|fail)) only[go_sem, ↓reduceIte,Zv,cf d];exact⟨rfl,(w.trans z).then (bS _ _ _) O⟩
theorem sS(h:mF H l t Bs N)(hN:N<=100000){g:Nat}(P:t.A.yg x g):aF 116 [.agg l.toArray,eU x g] H fun v J=>ak (af H J/\∃l',v= .agg l'.toArray/\mF J l' (yh t x) (jA Bs H J) (N+1)):=by
 obtain⟨c,e,m,gc,ha,hc,ca,cc,T,G,rfl,h1,h2,U,W⟩:=h;refine aT IJ ?_;refine vs ?_;refine KW fun H0 B b0 L D z0=>?_;refine(Bz (h2.fresh B) Z x).mono ?_;rintro _ H1 ⟨r,⟨hn,_⟩| ⟨mA,v',rfl,I⟩⟩
 ·exact absurd ((U.live x).2 P.1) hn
 obtain⟨a,n,z,w,rfl⟩:=I.val;have A:=r.own b0 (fun h=>h);have z1:=r.size;refine v2 A (ae (r.own L (fun h=>h))) ?_;have X:=(B.trans r).then (bS H1 H.size (gA t.A c T e m G gc (t.w.put x (0,0,0)) a n z w t.q)) O;have a2:Ez (H1.wr H.size (gA t.A c T e m G gc (t.w.put x (0,0,0)) a n z w t.q)) (eB t.A c T e m G gc) t.A T G Bs N:=(h1.fresh (B.trans r)).ext (bS H1 H.size _) Z;have r2:=I.ext (bS H1 H.size (gA t.A c T e m G gc (t.w.put x (0,0,0)) a n z w t.q)) (fun b u h=>by
  rcases u with u|u
  ·grind
  ·omega)
 have C:(H1.wr H.size (gA t.A c T e m G gc (t.w.put x (0,0,0)) a n z w t.q)).own H.size=some (gA t.A c T e m G gc (t.w.put x (0,0,0)) a n z w t.q):=ah A;have M:(H1.wr H.size (gA t.A c T e m G gc (t.w.put x (0,0,0)) a n z w t.q)).own (H.size+1)=some [i64 x,.int .u32 (g:Int)]:=by rw[aG O];exact r.own L (fun h=>h)
 have E:(H1.wr H.size (gA t.A c T e m G gc (t.w.put x (0,0,0)) a n z w t.q)).own (H.size+1+1)=some Iw:=by rw[aG O];exact r.own D (fun h=>h)
 have z2:(H1.wr H.size (gA t.A c T e m G gc (t.w.put x (0,0,0)) a n z w t.q)).size=H1.size:=bH ..
 refine v2 (ae C) (ae M) ?_;generalize H1.wr H.size (gA t.A c T e m G gc (t.w.put x (0,0,0)) a n z w t.q)=H2 at*;refine(BL a2 hN x g).mono ?_;rintro _ o ⟨f,Q⟩;rw[if_pos P]at Q;obtain⟨l',rfl,V⟩:=Q;obtain⟨p,q,j,d,rfl,_⟩:=id V;have z3:=f.size;have K:=f.own C (fun h=>h);have F:=f.own E (fun h=>h);refine v1 K ?_;have g0:(o.wr H.size (gA (t.A.back x) p T q j (G++[(x,g)]) d (t.w.put x (0,0,0)) a n z w t.q)).own H.size=some (gA (t.A.back x) p T q j (G++[(x,g)]) d (t.w.put x (0,0,0)) a n z w t.q):=ah K;have g2:(o.wr H.size (gA (t.A.back x) p T q j (G++[(x,g)]) d (t.w.put x (0,0,0)) a n z w t.q)).own (H.size+1+1)=some Iw:=by rw[aG O];exact F
 refine v2 (ae g0) F ?_;simp(disch:=(first|exact aV|fail)) only[go_sem, ↓reduceIte,Zv,cf g2];have fB:=((X.trans f).then (bS o H.size (gA (t.A.back x) p T q j (G++[(x,g)]) d (t.w.put x (0,0,0)) a n z w t.q)) O).then (bS _ (H.size+1+1) (gA (t.A.back x) p T q j (G++[(x,g)]) d (t.w.put x (0,0,0)) a n z w t.q)) O;have o3:mF o (gA (t.A.back x) p T q j (G++[(x,g)]) d (t.w.put x (0,0,0)) a n z w t.q) (yh t x) (fun b=>Bs b\/(H.size+3<=b/\b<o.size)) (N+1):=
  ⟨p,q,j,d,a,n,z,w,T,G++[(x,g)],rfl,V.mono Z,(r2.fresh f).mono fun b u=>u.imp_right fun h=>O,U.put (Ar.kW P.1) (y:=(0,0,0)) (v:=t.A.bf x) rfl,Z⟩
 exact⟨fB,_,rfl,((o3.wr W O O _).wr W O O _).gr O⟩
theorem wR(h:mF H l t Bs N)(hp:0<t.w.hs.length):aF 63 [.agg l.toArray] H fun v J=>ak (RY Bs N H (Dq t) v J):=by
 have hh:=h;obtain⟨e,g,c,gc,ha,hc,M,E,T,G,rfl,h1,h2,I,B⟩:=h;refine aT Bb ?_;refine vs ?_;refine KW fun H0 o b0 V D z0=>?_;refine(BA (h2.fresh o) Z).mono ?_;rintro _ r ⟨y,e1⟩;have K:=y.own b0 (fun h=>h);have F:=y.own V (fun h=>h);have Q:=y.own D (fun h=>h);have z1:=y.size;unfold Dq;rcases e1 with ⟨A,v',rfl,P⟩| ⟨A,v',rfl,P⟩
 ·rw[if_pos A];obtain⟨w,n,x,z,rfl⟩:=P.val;obtain⟨m,C,z3⟩:=oz r 84 [.slice none 0 0,.slice none 0 0] (dU t.w w n x z);refine vs ?_;generalize (r.new 84 [.slice none 0 0,.slice none 0 0]).wr r.size (dU t.w w n x z)=X at*;have j:=m.own F (fun h=>h);have d:=m.own Q (fun h=>h);simp only[ajZ];refine v3 (ae (m.own K (fun h=>h))) j d ?_;have u:(X.wr (H.size+1) (gA t.A e T g c G gc t.w ha hc M E t.q)).own (H.size+1+1)=some AP:=by rw[aG O];exact d
  simp(disch:=(first|exact aV|fail)) only[go_sem, ↓reduceIte,Zv,cf j,cf u];have f:=(o.trans y).trans m;exact db (lo:=H.size+3) (a:=H.size+1) (b:=H.size+1+1) (p:=(t,er 32)) B f (hh.same f (lo:=H.size+3)) O O
 ·rw[if_neg A];obtain⟨w,n,x,z,rfl⟩:=P.val;obtain⟨m,C,z3⟩:=oz r 84 [.slice none 0 0,.slice none 0 0] (dU t.w.make w n x z);refine vs ?_;generalize hX:(r.new 84 [.slice none 0 0,.slice none 0 0]).wr r.size (dU t.w.make w n x z)=X at*;have j:=m.own F (fun h=>h);have d:=m.own Q (fun h=>h);have U:=m.own K (fun h=>h);have zX:=m.size;have r2:=P.fresh m;rw[ajO O];refine v2 (ae C) U ?_;have f:=((o.trans y).trans m).then (bS X H.size (gA t.A e T g c G gc t.w.make w n x z t.q)) O;have g0:(X.wr H.size (gA t.A e T g c G gc t.w.make w n x z t.q)).own H.size=some (gA t.A e T g c G gc t.w.make w n x z t.q):=ah U;have W:(X.wr H.size (gA t.A e T g c G gc t.w.make w n x z t.q)).own (H.size+1)=some Iw:=by rw[aG O];exact j
  have u:(X.wr H.size (gA t.A e T g c G gc t.w.make w n x z t.q)).own (H.size+1+1)=some AP:=by rw[aG O];exact d
  refine v3 (ae g0) W u ?_;have o0:=DA (q:=t.q) (lo:=H.size+3) B h1 ((o.trans y).trans m) r2 (fun b L=>by
   rcases L with L|L
   ·grind
   omega) ⟨I.len,I.live⟩
  have oX:=o0.wr (p:=H.size) B O O (gA t.A e T g c G gc t.w.make w n x z t.q);generalize X.wr H.size (gA t.A e T g c G gc t.w.make w n x z t.q)=ajI at*;have k2:(ajI.wr (H.size+1) (gA t.A e T g c G gc t.w.make w n x z t.q)).own (H.size+1+1)=some AP:=by rw[aG O];exact u
  simp(disch:=(first|exact aV|fail)) only[go_sem, ↓reduceIte,Zv,cf W,cf k2];exact db (lo:=H.size+3) (a:=H.size+1) (b:=H.size+1+1) (p:=(⟨t.w.make,t.A,t.q⟩,⟨0,t.w.hs.length,0,0,0,0⟩)) B f oX O O
theorem QA(k:Cg t.w t.A)(h:(dP t g).c=0):t.A.yg (dP t g).s (dP t g).g:=by
 unfold dP at h ⊢;split
 ·rename_i z;rw[if_pos z]at h;cases h
 ·rename_i z;rw[if_neg z]at h;cases w:t.w.zd g with
  |none=>rw[w]at h;cases h
  |some x=>
   obtain⟨a,n,_⟩:=bi.1 (Dz w);exact⟨(k.live x).1 (bg.1 O),rfl⟩
theorem yl(h:mF H l t Bs N)(hN:N<=100000)(KU:∀x,t.A.bf x<4294967295)(hq:0<=t.q/\t.q<18446744073709551615)(g k:Int):aF 64 [.agg l.toArray,i64 g,i64 k] H fun v J=>ak (RY Bs N H (E8 t g k) v J):=by
 have hh:=h;obtain⟨U,I,Q,gc,ha,hc,ca,cc,T,G,rfl,h1,h2,h3,h4⟩:=h;refine aT CR ?_;refine vs ?_;refine KW fun H0 f0 b0 b1 b2 z0=>?_;refine(dA (h2.fresh f0) g).mono ?_;rintro _ X ⟨rfl,r⟩;have F:=f0.trans r;have D:=r.own b0 (fun h=>h);have M:=r.own b1 (fun h=>h);have E:=r.own b2 (fun h=>h);have z1:=r.size;unfold E8;by_cases m:t.w.has g
 ·rw[ajQ m,if_neg (fun h=>h m)];refine v1 (ae D) ?_;refine(BK (h1.fresh F) hN KU).mono ?_;rintro _ n ⟨j,w⟩;have z2:=j.size;have WQ:=F.trans j;have k0:=j.own D (fun h=>h);have k1:=j.own M (fun h=>h);have k2:=j.own E (fun h=>h);cases hp:t.A.pick with
  |none=>
   rw[hp]at w;dsimp only at w;subst w;obtain⟨z,m1,m2,z3⟩:=OE n 80 29 xg cI (eB t.A U T I Q G gc) [i64 0,.int .u32 ((0:Nat):Int)];refine vs ?_;generalize (((n.new 80 xg).new 29 cI).wr n.size (eB t.A U T I Q G gc)).wr (n.size+1) [i64 0,.int .u32 ((0:Nat):Int)]=ajI at*;have d:=WQ.trans z;have C:=z.own k1 (fun h=>h);have K:=z.own k2 (fun h=>h);rw[show decide ((32:Int)=0)=false from rfl];refine v3 (ae (z.own k0 (fun h=>h))) C K ?_;have q:(ajI.wr (H.size+1) (gA t.A U T I Q G gc t.w ha hc ca cc t.q)).own (H.size+1+1)=some AP:=by rw[aG O];exact K
   simp(disch:=(first|exact aV|fail)) only[go_sem, ↓reduceIte,Zv,cf C,cf q];exact db (lo:=H.size+3) (a:=H.size+1) (b:=H.size+1+1) (p:=(t,er 32)) h4 d (hh.same d (lo:=H.size+3)) O O
  |some xA=>
   obtain⟨x,A'⟩:=xA;rw[hp]at w;dsimp only at w;obtain⟨l',rfl,a3⟩:=w;obtain⟨L,A,o,f,rfl,_⟩:=id a3;obtain⟨z,m1,m2,z3⟩:=OE n 80 29 xg cI (eB (A'.out x) L (T++[(x,t.A.bf x+1)]) A o G f) [i64 x,.int .u32 ((t.A.bf x+1:Nat):Int)];refine vs ?_;generalize MQ:n.size=c8 at*;generalize (((n.new 80 xg).new 29 cI).wr c8 (eB (A'.out x) L (T++[(x,t.A.bf x+1)]) A o G f)).wr (c8+1) [i64 x,.int .u32 ((t.A.bf x+1:Nat):Int)]=ajI at*;have d:=WQ.trans z;have d0:=z.own k0 (fun h=>h);have C:=z.own k1 (fun h=>h);have K:=z.own k2 (fun h=>h);have U9:=Ar.oQ hp (by obtain⟨_,_,_,_,_,_,_,_,_,_,ok,_⟩:=h1;exact ok);rw[show decide True=true from rfl];refine v2 (ae d0) (ae m2) ?_;rw[eG O O];refine(Dj (h2.fresh d) Z g x k (t.q+1)).mono ?_;rintro _ V ⟨f5,⟨hn,_⟩| ⟨_,v',rfl,r5⟩⟩
   ·exact absurd ⟨m,by rw[h3.len];omega,fun h=>U9.2.1 ((h3.live x).1 h)⟩ hn
   obtain⟨u,P,c,e,rfl⟩:=r5.val;obtain⟨f6,m3,z6⟩:=oz V 84 [.slice none 0 0,.slice none 0 0] (dU (t.w.put x (g,k,t.q+1)) u P c e);refine vs ?_;generalize QB:V.size=cx at*;generalize (V.new 84 [.slice none 0 0,.slice none 0 0]).wr cx (dU (t.w.put x (g,k,t.q+1)) u P c e)=W at*;have f56:=f5.trans f6;have fW:=d.trans f56;have e8:=f56.own m1 (fun h=>h);have e9:=f56.own m2 (fun h=>h);have e0:=f56.own d0 (fun h=>h);have e1:=f56.own C (fun h=>h);have w:=f56.own K (fun h=>h);have z5:=f5.size;refine cZ.intro (fun J=>J.own (c8+1)=some [i64 x,.int .u32 ((t.A.bf x+1:Nat):Int)]) e9 ?_;refine vs ?_;refine bG.intro (.agg [i64 x,.int .u32 ((t.A.bf x+1:Nat):Int)].toArray) (fun J hI=>?_) ?_
   ·refine v1 (ae hI) ?_;trivial
   refine vs ?_;have ex:IntKind.u64.wrap (t.q+1)=t.q+1:=eG O O;have q:(W.wr (H.size+1) (gA (A'.out x) L (T++[(x,t.A.bf x+1)]) A o G f (t.w.put x (g,k,t.q+1)) u P c e (t.q+1))).own (H.size+1+1)=some AP:=by rw[aG O];exact w
   have z6':=f6.size;have oW:mF W (gA (A'.out x) L (T++[(x,t.A.bf x+1)]) A o G f (t.w.put x (g,k,t.q+1)) u P c e (t.q+1)) ⟨t.w.put x (g,k,t.q+1),A'.out x,t.q+1⟩ (fun b=>Bs b\/(H.size+3<=b/\b<W.size)) (N+1):=by
    refine⟨L,A,o,f,u,P,c,e,T++[(x,t.A.bf x+1)],G,rfl,(a3.fresh (z.trans f56)).mono fun b B=>?_,(r5.fresh f6).mono fun b B=>?_,h3.put U9.1 (y:=(g,k,t.q+1)) (v:=t.A.bf x+1) ?_,fun b B=>?_⟩
    ·grind
    ·rcases B with B|B
     ·grind
     omega
    ·show A'.g.set x.toNat (A'.bf x+1,true)=_;rw[U9.2.2.2.2.1,ajQ (show(0:Int)<g by have:=m.1;omega)];unfold Ar.bf;grind
    ·grind
   repeat' (first|exact e9|refine tR.intro ?_ ?_|simp(disch:=(first|exact aV|fail)) only[go_sem, ↓reduceIte,Zv,ae e8,ae e0,ae m3,ex,e1,w])
   all_goals
    simp(disch:=(first|exact aV|fail)) only[go_sem, ↓reduceIte,Zv,cf e1,cf q];exact db (lo:=H.size+3) (a:=H.size+1) (b:=H.size+1+1) (p:=(⟨t.w.put x (g,k,t.q+1),A'.out x,t.q+1⟩,⟨0,0,x,t.A.bf x+1,0,0⟩)) h4 fW oW O O
 ·rw[ajO m,if_pos m];simp(disch:=(first|exact aV|fail)) only[go_sem, ↓reduceIte,Zv,ae D,M,E];have q:(X.wr (H.size+1) (gA t.A U T I Q G gc t.w ha hc ca cc t.q)).own (H.size+1+1)=some AP:=by rw[aG O];exact E
  simp(disch:=(first|exact aV|fail)) only[go_sem, ↓reduceIte,Zv,cf M,cf q];exact db (lo:=H.size+3) (a:=H.size+1) (b:=H.size+1+1) (p:=(t,er 171)) h4 F (hh.same F (lo:=H.size+3)) O O
theorem rj(h:mF H l t Bs N)(V:N<=100000)(g:Int):aF 66 [.agg l.toArray,i64 g] H fun v J=>ak (RY Bs N H (sJ t g) v J):=by
 have K:=h;obtain⟨q,o,r,gc,j,d,m,c,T,G,rfl,h1,h2,h3,I⟩:=h;refine aT vR ?_;refine vs ?_;refine KW fun H0 W b0 b1 b2 z0=>?_;refine(sR (K.fresh W) V g).mono ?_;rintro _ u ⟨rfl,e⟩;obtain⟨y,w,z3⟩:=oz u 31 AP (BF (dP t g));have z1:=e.size;refine vs ?_;generalize hX1:u.size=x1 at*;generalize (u.new 31 AP).wr x1 (BF (dP t g))=X at*;have f:=(W.trans e).trans y;have n:=(e.trans y).own b0 (fun h=>h);have B:=(e.trans y).own b1 (fun h=>h);have P:=(e.trans y).own b2 (fun h=>h);refine v1 (ae w) ?_;refine ai.dec (fun he=>?_) (fun nj=>?_)<;>refine vs ?_
 ·refine cZ.intro (fun J=>J.own H.size=some (gA t.A q T o r G gc t.w j d m c t.q)/\J.own x1=some (BF (dP t g))) ⟨n,w⟩ ?_;refine vs ?_;refine bG.intro (.agg (gA t.A q T o r G gc t.w j d m c t.q).toArray) (fun J z=>?_) ?_
  ·refine v1 (ae z.1) ?_;trivial
  refine vs ?_;refine bG.intro (eU (dP t g).s (dP t g).g) (fun J z=>?_) ?_
  ·refine v1 (ae z.2) ?_;trivial
  refine vs ?_;refine bG.intro (MK (dP t g)) (fun J z=>?_) ?_
  ·refine v1 (ae z.2) ?_;trivial
  refine vs ?_;have hl:=QA h3 he;have L:sJ t g=(yh t (dP t g).s,dP t g):=by unfold sJ;grind
  rw[L];refine(sS (K.fresh f) V hl).mono ?_;rintro _ F ⟨x,l',rfl,D⟩;obtain⟨QC,QD,QE,QF,QG,FR,QH,JR,E,M,rfl,_⟩:=id D;refine⟨⟨x.own n (fun h=>h),x.own w (fun h=>h)⟩,?_⟩;have Q:=x.own B (fun h=>h);have U:=x.own P (fun h=>h);refine v1 Q ?_;refine⟨⟨x.own n (fun h=>h),x.own w (fun h=>h)⟩,?_⟩;refine v1 U ?_;refine⟨⟨x.own n (fun h=>h),x.own w (fun h=>h)⟩,?_⟩;have A:(F.wr (H.size+1) (gA ((yh t (dP t g).s).A) QC E QD QE M QF ((yh t (dP t g).s).w) QG FR QH JR ((yh t (dP t g).s).q))).own (H.size+1+1)=some AP:=by rw[aG O];exact U
  simp(disch:=(first|exact aV|fail)) only[go_sem, ↓reduceIte,Zv,cf Q,cf A];have z3':=x.size;have z2':=y.size;exact db (lo:=H.size+3) (a:=H.size+1) (b:=H.size+1+1) (p:=(yh t (dP t g).s,dP t g)) I (f.trans x) (D.mono (B2:=fun b=>Bs b\/(H.size+3<=b/\b<F.size)) (fun b C=>by
   rcases C with C|C
   ·grind
   omega) Z) O O
 ·have L:sJ t g=(t,dP t g):=by unfold sJ;grind
  rw[L];refine cZ.intro (fun J=>J.own H.size=some (gA t.A q T o r G gc t.w j d m c t.q)/\J.own x1=some (BF (dP t g))) ⟨n,w⟩ ?_;refine vs ?_;refine bG.intro (.agg (gA t.A q T o r G gc t.w j d m c t.q).toArray) (fun J z=>?_) ?_
  ·refine v1 (ae z.1) ?_;trivial
  refine vs ?_;refine bG.intro (MK (dP t g)) (fun J z=>?_) ?_
  ·refine v1 (ae z.2) ?_;trivial
  refine v1 B ?_;refine⟨⟨n,w⟩,?_⟩;refine v1 P ?_;refine⟨⟨n,w⟩,?_⟩;have A:(X.wr (H.size+1) (gA t.A q T o r G gc t.w j d m c t.q)).own (H.size+1+1)=some AP:=by rw[aG O];exact P
  simp(disch:=(first|exact aV|fail)) only[go_sem, ↓reduceIte,Zv,cf B,cf A];exact db (lo:=H.size+3) (a:=H.size+1) (b:=H.size+1+1) (p:=(t,dP t g)) I f (K.same f (lo:=H.size+3)) O O
theorem ym(h:mF H l t Bs N)(M:N<=100000)(x:Int)(g:Nat):aF 68 [.agg l.toArray,eU x g] H fun v J=>ak (RY Bs N H (Fa t x g) v J):=by
 have E:=h;obtain⟨C,K,u,gc,P,A,ca,r,T,G,rfl,h1,V,D,B⟩:=h;refine uS CS ⟨rfl,?_⟩;refine v1 rR.eq_1 ?_;refine Tc fun H0 I b0 bx b1 b2 z0=>?_;refine(fv (h1.fresh I) M x g).mono ?_;rintro _ X ⟨rfl,m⟩;have e:=I.trans m;have j:=m.own b0 (fun h=>h);have Q:=m.own bx (fun h=>h);have d:=m.own b1 (fun h=>h);have q:=m.own b2 (fun h=>h);have z1:=m.size;unfold Fa;by_cases n:t.A.yg x g
 ·rw[ajQ n,if_neg (fun h=>h n)];refine vs ?_;obtain⟨y,hy,y1,y2,y3⟩:=D.nG n.1;have kh:=(D.live x).2 n.1|>.1;have KJ:=V.cells.2.2;obtain⟨c,o,lc,rfl,q1,q2,q3,q4,q5,q6,q7,q8⟩:=bX.cell ((V.cells.2.1.fresh e)) hy;refine cZ.intro (fun J=>J.own H.size=some (gA t.A C T K u G gc t.w P A (some ⟨c,o,none⟩) r t.q)/\J.own (H.size+1)=some [i64 x,.int .u32 (g:Int)]/\J.rd c=some lc) ⟨j,Q,q1⟩ ?_;refine vs ?_;refine bG.intro (.agg (gA t.A C T K u G gc t.w P A (some ⟨c,o,none⟩) r t.q).toArray) (fun J z=>?_) ?_
  ·refine v1 (ae z.1) ?_;trivial
  refine vs ?_;refine bG.intro (eU x g) (fun J z=>?_) ?_
  ·refine v1 (ae z.2.1) ?_;trivial
  refine vs ?_;refine bG.intro (.slice (some ⟨c,o,none⟩) t.w.cs.length r) (fun J z=>?_) ?_
  ·refine v1 (ae z.1) ?_;grind
  refine vs ?_;refine bG.intro (i64 x) (fun J z=>?_) ?_
  ·refine v1 (ae z.2.1) ?_;grind
  refine vs ?_;refine⟨O,?_⟩;refine vs ?_;refine bG.intro (i64 y.2.1) (fun J z=>?_) ?_
  ·refine v2 z.2.2 q5 ?_;grind
  refine vs ?_;have MG:c<H.size:=B _ (KJ _ rfl);refine(sS (E.fresh e) M n).mono ?_;rintro _ F ⟨w,l',rfl,o3⟩;obtain⟨QC,QD,QE,QF,QG,FR,QH,JR,T',G',rfl,_⟩:=id o3;have inv:=And.intro (w.own j (fun h=>h)) (And.intro (w.own Q (fun h=>h)) (w.rd q1 (fun h=>h)));refine⟨inv,?_⟩;have U:=w.own d (fun h=>h);have W:=w.own q (fun h=>h);refine v1 U ?_;refine⟨inv,?_⟩;refine v1 W ?_;refine⟨inv,?_⟩;have f:(F.wr (H.size+1+1) (gA ((yh t x).A) QC T' QD QE G' QF ((yh t x).w) QG FR QH JR ((yh t x).q))).own (H.size+1+1+1)=some AP:=by rw[aG O];exact W
  simp(disch:=(first|exact aV|fail)) only[go_sem, ↓reduceIte,Zv,cf U,cf f];have z3':=w.size;rw[y2];exact db (lo:=H.size+4) (a:=H.size+1+1) (b:=H.size+1+1+1) (p:=(yh t x,⟨0,0,0,0,t.w.key x,0⟩)) B (e.trans w) (o3.mono (B2:=fun b=>Bs b\/(H.size+4<=b/\b<F.size)) (fun b L=>by
   rcases L with L|L
   ·grind
   omega) Z) O O
 ·rw[ajO n,if_pos n];refine v3 (ae j) d q ?_;have f:(X.wr (H.size+1+1) (gA t.A C T K u G gc t.w P A ca r t.q)).own (H.size+1+1+1)=some AP:=by rw[aG O];exact q
  simp(disch:=(first|exact aV|fail)) only[go_sem, ↓reduceIte,Zv,cf d,cf f];exact db (lo:=H.size+4) (a:=H.size+1+1) (b:=H.size+1+1+1) (p:=(t,er 33)) B e (E.same e (lo:=H.size+4)) O O
theorem pU(h:mF H l t Bs N)(hN:N<=100000)(x:Int)(g:Nat)(k:Int):aF 67 [.agg l.toArray,eU x g,i64 k] H fun v J=>ak (RY Bs N H (E9 t x g k) v J):=by
 have hh:=h;obtain⟨w,n,z,gc,ha,hc,ca,cc,T,G,rfl,h1,h2,M,L⟩:=h;refine aT tT ?_;refine vs ?_;refine Tc fun H0 f0 b0 bx b1 b2 z0=>?_;refine(fv (h1.fresh f0) hN x g).mono ?_;rintro _ X ⟨rfl,d⟩;have C:=f0.trans d;have K:=d.own b0 (fun h=>h);have cx:=d.own bx (fun h=>h);have F:=d.own b1 (fun h=>h);have Q:=d.own b2 (fun h=>h);have z1:=d.size;unfold E9;by_cases j:t.A.yg x g
 ·rw[ajQ j,if_neg (fun h=>h j)];obtain⟨y,hy,y1,y2,y3⟩:=M.nG j.1;have mA:=(M.live x).2 j.1;have kh:=mA.1;obtain⟨bb,o,lc,rfl,q1,q2,q3,q4,q5,q6,q7,q8⟩:=bX.cell ((h2.cells.2.1.fresh C)) hy;obtain⟨B,m1,z2⟩:=oz X 190 mB [i64 y.2.1,u64 y.2.2];refine v2 (ae K) (ae cx) ?_;refine⟨O,?_⟩;refine v1 q1 ?_;refine⟨O,?_⟩;refine v1 q8 ?_;generalize (X.new 190 mB).wr X.size [i64 y.2.1,u64 y.2.2]=ajI at*;have P:=C.trans B;have U:=B.own K (fun h=>h);have dx:=B.own cx (fun h=>h);have I:=B.own F (fun h=>h);have D:=B.own Q (fun h=>h);refine v1 (ae m1) ?_;refine ai.dec (fun hgt=>?_) (fun hle=>?_)
  ·rw[if_pos O];refine v3 (ae U) I D ?_;have u:(ajI.wr (H.size+1+1) (gA t.A w T n z G gc t.w ha hc (some ⟨bb,o,none⟩) cc t.q)).own (H.size+1+1+1)=some AP:=by rw[aG O];exact D
   simp(disch:=(first|exact aV|fail)) only[go_sem, ↓reduceIte,Zv,cf I,cf u];exact db (lo:=H.size+4) (a:=H.size+1+1) (b:=H.size+1+1+1) (p:=(t,er 173)) L P (hh.same P (lo:=H.size+4)) O O
  rw[if_neg O,<-y1,<-y3];refine v3 (ae U) (ae dx) (ae m1) ?_;refine(zQ (h2.fresh P) Z x k y.2.2).mono ?_;rintro _ W ⟨f,⟨hn,_⟩| ⟨_,y',A,_,v',rfl,r6⟩⟩
  ·exact absurd ⟨mA,fun y' A=>by
    rw[hy]at A;injection A with A;subst A;unfold ef;omega⟩ hn
  obtain rfl:y=y':=Z;obtain⟨e,r,m,c,rfl⟩:=r6.val;have z6:=f.size;have k0:=f.own U (fun h=>h);refine v1 k0 ?_;have k1:=f.own I (fun h=>h);have k2:=f.own D (fun h=>h);have fW:=(P.trans f).then (bS W H.size (gA t.A w T n z G gc (t.w.put x (y.1,k,y.2.2)) e r m c t.q)) O;have o6:=DA (q:=t.q) (lo:=H.size+4) L h1 (P.trans f) r6 (fun b E=>by
   rcases E with E|E
   ·grind
   omega) (M.key j.1 hy)
  have oV:=o6.wr (p:=H.size) L O O (gA t.A w T n z G gc (t.w.put x (y.1,k,y.2.2)) e r m c t.q);have g0:(W.wr H.size (gA t.A w T n z G gc (t.w.put x (y.1,k,y.2.2)) e r m c t.q)).own H.size=some (gA t.A w T n z G gc (t.w.put x (y.1,k,y.2.2)) e r m c t.q):=ah k0;have g1:(W.wr H.size (gA t.A w T n z G gc (t.w.put x (y.1,k,y.2.2)) e r m c t.q)).own (H.size+1+1)=some Iw:=by rw[aG O];exact k1
  have u:(W.wr H.size (gA t.A w T n z G gc (t.w.put x (y.1,k,y.2.2)) e r m c t.q)).own (H.size+1+1+1)=some AP:=by rw[aG O];exact k2
  refine v3 (ae g0) g1 u ?_;generalize W.wr H.size (gA t.A w T n z G gc (t.w.put x (y.1,k,y.2.2)) e r m c t.q)=V at*;have WR:(V.wr (H.size+1+1) (gA t.A w T n z G gc (t.w.put x (y.1,k,y.2.2)) e r m c t.q)).own (H.size+1+1+1)=some AP:=by rw[aG O];exact u
  simp(disch:=(first|exact aV|fail)) only[go_sem, ↓reduceIte,Zv,cf g1,cf WR];exact db (lo:=H.size+4) (a:=H.size+1+1) (b:=H.size+1+1+1) (p:=(⟨t.w.put x (y.1,k,y.2.2),t.A,t.q⟩,er 0)) L fW oV O O
 ·rw[ajO j,if_pos j];refine v3 (ae K) F Q ?_;have u:(X.wr (H.size+1+1) (gA t.A w T n z G gc t.w ha hc ca cc t.q)).own (H.size+1+1+1)=some AP:=by rw[aG O];exact Q
  simp(disch:=(first|exact aV|fail)) only[go_sem, ↓reduceIte,Zv,cf F,cf u];exact db (lo:=H.size+4) (a:=H.size+1+1) (b:=H.size+1+1+1) (p:=(t,er 33)) L C (hh.same C (lo:=H.size+4)) O O
theorem BN(h:mF H l t Bs N)(hN:N<=100000)(a b:Int):aF 69 [.agg l.toArray,i64 a,i64 b] H fun v J=>ak (RY Bs N H (Fb t a b) v J):=by
 have E:=h;obtain⟨z,w,x,gc,sa,M,U,I,T,G,rfl,h1,D,h3,d⟩:=h;refine aT GS ?_;refine vs ?_;refine KW fun H0 f0 b0 b1 b2 z0=>?_;refine(dA (D.fresh f0) a).mono ?_;rintro _ X ⟨rfl,u⟩;have C:=f0.trans u;have K:=u.own b0 (fun h=>h);have F:=u.own b1 (fun h=>h);have Q:=u.own b2 (fun h=>h);have z1:=u.size;unfold Fb;by_cases P:t.w.has a
 ·rw[ajQ P];refine v1 (ae K) ?_;refine(dA (D.fresh C) b).mono ?_;rintro _ ajI ⟨rfl,B⟩;have r:=C.trans B;have A:=B.own K (fun h=>h);have o:=B.own F (fun h=>h);have f:=B.own Q (fun h=>h);have z2:=B.size;by_cases n:t.w.has b
  ·rw[ajQ n,if_neg Z];refine vs ?_;by_cases L:a=b
   ·rw[ajQ L,if_pos L];refine v3 (ae A) o f ?_;have e:(ajI.wr (H.size+1) (gA t.A z T w x G gc t.w sa M U I t.q)).own (H.size+1+1)=some AP:=by rw[aG O];exact f
    simp(disch:=(first|exact aV|fail)) only[go_sem, ↓reduceIte,Zv,cf o,cf e];exact db (lo:=H.size+3) (a:=H.size+1) (b:=H.size+1+1) (p:=(t,er 174)) d r (E.same r (lo:=H.size+3)) O O
   rw[ajO L,if_neg L];refine v1 (ae A) ?_;refine(BB (D.fresh r) Z a b).mono ?_;rintro _ W ⟨j,⟨hn,_⟩| ⟨_,v',rfl,r6⟩⟩
   ·exact absurd ⟨P,n,L⟩ hn
   obtain⟨g,y,m,c,rfl⟩:=r6.val;have z6:=j.size;have k0:=j.own A (fun h=>h);refine v1 k0 ?_;have k1:=j.own o (fun h=>h);have k2:=j.own f (fun h=>h);have fW:=(r.trans j).then (bS W H.size (gA t.A z T w x G gc (t.w.join a b) g y m c t.q)) O;have o6:=DA (q:=t.q) (lo:=H.size+3) d h1 (r.trans j) r6 (fun b n=>by
    rcases n with n|n
    ·grind
    omega) (h3.join P n)
   have oV:=o6.wr (p:=H.size) d O O (gA t.A z T w x G gc (t.w.join a b) g y m c t.q);have g0:(W.wr H.size (gA t.A z T w x G gc (t.w.join a b) g y m c t.q)).own H.size=some (gA t.A z T w x G gc (t.w.join a b) g y m c t.q):=ah k0;have g1:(W.wr H.size (gA t.A z T w x G gc (t.w.join a b) g y m c t.q)).own (H.size+1)=some Iw:=by rw[aG O];exact k1
   have e:(W.wr H.size (gA t.A z T w x G gc (t.w.join a b) g y m c t.q)).own (H.size+1+1)=some AP:=by rw[aG O];exact k2
   refine v3 (ae g0) g1 e ?_;generalize W.wr H.size (gA t.A z T w x G gc (t.w.join a b) g y m c t.q)=V at*;have WR:(V.wr (H.size+1) (gA t.A z T w x G gc (t.w.join a b) g y m c t.q)).own (H.size+1+1)=some AP:=by rw[aG O];exact e
   simp(disch:=(first|exact aV|fail)) only[go_sem, ↓reduceIte,Zv,cf g1,cf WR];exact db (lo:=H.size+3) (a:=H.size+1) (b:=H.size+1+1) (p:=(⟨t.w.join a b,t.A,t.q⟩,er 0)) d fW oV O O
  ·rw[ajO n,if_pos (fun h=>n h.2)];refine v3 (ae A) o f ?_;have e:(ajI.wr (H.size+1) (gA t.A z T w x G gc t.w sa M U I t.q)).own (H.size+1+1)=some AP:=by rw[aG O];exact f
   simp(disch:=(first|exact aV|fail)) only[go_sem, ↓reduceIte,Zv,cf o,cf e];exact db (lo:=H.size+3) (a:=H.size+1) (b:=H.size+1+1) (p:=(t,er 171)) d r (E.same r (lo:=H.size+3)) O O
 ·rw[ajO P,if_pos (fun h=>P h.1)];refine v3 (ae K) F Q ?_;have e:(X.wr (H.size+1) (gA t.A z T w x G gc t.w sa M U I t.q)).own (H.size+1+1)=some AP:=by rw[aG O];exact Q
  simp(disch:=(first|exact aV|fail)) only[go_sem, ↓reduceIte,Zv,cf F,cf e];exact db (lo:=H.size+3) (a:=H.size+1) (b:=H.size+1+1) (p:=(t,er 171)) d C (E.same C (lo:=H.size+3)) O O
end
end
section
variable{l:List Int}{i n j m:Nat}{H:Hp}{kd dd x:Int}
abbrev BO(kd dd:Int):Value:=.agg [i64 kd,i64 dd].toArray
def mU(kd dd:Int):Prop:=(1<=kd/\kd<=8)/\((kd=2/\2<=dd/\dd<=16)\/(kd≠2/\dd=0))
instance(kd dd:Int):Decidable (mU kd dd):=by unfold mU;exact inferInstance
def KX(kd dd:Int):Int:=if kd<1\/8<kd then 21 else if mU kd dd then 0 else 22
theorem OF(h:kd<1\/8<kd):KX kd dd=21:=by unfold KX;omega
theorem OG(h:mU kd dd):KX kd dd=0:=by
 have:=h.1;unfold KX;grind
theorem OH(x:¬ (kd<1\/8<kd))(h:¬mU kd dd):KX kd dd=22:=by unfold KX;grind
theorem Jl:KX kd dd=0↔mU kd dd:=by
 grind [OF,OH,OG]
theorem mh(kd dd:Int)(H:Hp):aF 37 [BO kd dd] H fun v J=>ak (v=i64 (KX kd dd)/\af H J):=by
 refine aT EN ?_;refine vs ?_;have x:af H (H.new 23 [i64 kd,i64 dd]):=bD;repeat' (refine ai.dec (fun _=>?_) (fun _=>?_)<;>try(refine v1 ajZ ?_))
 all_goals
  first
   | (exfalso;omega)
   | (refine⟨?_,x⟩;exact(ajP i64 (OF O)).symm)
   | (refine⟨?_,x⟩;exact(ajP i64 (OG (by unfold mU;omega))).symm)
   | (refine⟨?_,x⟩;exact(ajP i64 (OH O (by unfold mU;omega))).symm)
theorem DD(kd dd:Int)(H:Hp):aF 14 [BO kd dd] H fun v J=>ak (v=i64 (KX kd dd)/\af H J):=by
 refine aT EJ ?_;refine vs ?_;have x:af H (H.new 23 [i64 kd,i64 dd]):=bD;repeat' (refine ai.dec (fun _=>?_) (fun _=>?_)<;>try(refine v1 ajZ ?_))
 all_goals
  first
   | (exfalso;omega)
   | (refine⟨?_,x⟩;exact(ajP i64 (OF O)).symm)
   | (refine⟨?_,x⟩;exact(ajP i64 (OG (by unfold mU;omega))).symm)
   | (refine⟨?_,x⟩;exact(ajP i64 (OH O (by unfold mU;omega))).symm)
theorem mV(n:mU kd dd)(m:kd=1\/kd=2)(H:Hp):aF 75 [BO kd dd] H fun v J=>ak (v=i64 (if kd=1 then 2 else dd)/\af H J):=by
 refine aT ER ?_;refine vs ?_;have w:af H (H.new 23 [i64 kd,i64 dd]):=bD;have c:(H.new 23 [i64 kd,i64 dd]).own H.size=some [i64 kd,i64 dd]:=am _ _ _;generalize H.new 23 [i64 kd,i64 dd]=a at*;refine(mh kd dd a).mono ?_;rintro _ e ⟨rfl,x⟩;have z:=x.own c (fun h=>h);rw[OG n];refine v2 (ae z) ajZ ?_;rcases m with rfl|rfl
 ·refine ai.bY (by decide) ?_;refine v2 (ae z) ajZ ?_;exact⟨rfl,w.trans x⟩
 ·refine ai.aX (by decide) ?_;refine v2 (ae z) ajZ ?_;exact⟨rfl,w.trans x⟩
structure OI(w:Nw)(L:List Lk)(tops:List Int):Prop where
 bt:tz (aH w) (aU w) (bm L) (bs L) (aQ tops)
 tl:tops.length=w.hs.length
def dE(n:Nat)(H:Hp)(S:Nat->Prop)(w:Nw):Prop:=∃ (B:LB) (C:Nat->Prop) (L:List Lk) (rs tops:List Int),B.n=n/\dk H B C w L rs tops/\OI w L tops/\∀z,S z↔B.S C z
theorem dE.slt{S:Nat->Prop}{w:Nw}(h:dE n H S w):∀z,S z->z<H.size:=by
 obtain⟨B,C,L,rs,tops,rfl,m,l,x⟩:=h;exact fun z a=>m.slt z ((x z).1 a)
theorem dE.ext{J:Hp}{S T:Nat->Prop}{w:Nw}(h:dE n H S w)(e:aj T H J)(a:∀z,S z->¬T z):dE n J S w:=by
 obtain⟨B,C,L,rs,tops,rfl,m,l,x⟩:=h;exact⟨B,C,L,rs,tops,rfl,m.ext e Z,l,x⟩
theorem uJ{S:Nat->Prop}{w:Nw}(h:dE n H S w)(g x k s:Int):aF 328 [ptr n,i64 g,i64 x,mE k s] H fun v J=>ak (
  (¬w.kC g x/\v= .bool false/\br (dE n) S H J w)\/(w.kC g x/\v= .bool true/\br (dE n) S H J (w.put x (g,k,s)))):=by
 obtain⟨B,C,L,rs,tops,rfl,m,l,c⟩:=h;refine uS qX ⟨rfl,?_⟩;refine v1 jq.eq_1 ?_;have P:af H (H.new 190 [i64 k,u64 s]):=bD;have b0:(H.new 190 [i64 k,u64 s]).own H.size=some [i64 k,u64 s]:=am _ _ _;have o:=m.fresh P;generalize H.new 190 [i64 k,u64 s]=H0 at*;obtain⟨tv,Hk,_⟩:=o.own;refine v2 (ae Hk) (ae b0) ?_;refine(j2 o.cells g x k s).mono ?_;rintro _ p (⟨mT,rfl,u,d⟩| ⟨W,rfl,u,d⟩)
 ·refine vs ?_;exact .inl ⟨mT,rfl,br.same ⟨B,C,L,rs,tops,rfl,o.aD u d rfl,l,c⟩ ((P.mono fun _ _ h=>h.elim).trans (d.mono fun z _ hz=>(c z).2 (.inl hz)))⟩
 obtain⟨Q,U,mA⟩:=id W;have f:=o.aD u d (by simp[Nw.put]);have ec:=f.len;have tJ:(w.put x (g,k,s)).cs.length=w.cs.length:=by simp[Nw.put]
 obtain⟨MM,o1,_⟩:=f.own;refine v1 (ae o1) ?_;refine⟨O,?_⟩;refine v3 f.zW ajJ ajM ?_;refine⟨Z,?_⟩;refine vs ?_;obtain⟨e,D⟩:dk (p.wr B.rk ((rs.map i64).set x.toNat (Value.int .i64 1))) B C _ L (rs.set x.toNat 1) tops/\aj (fun z=>z=B.rk) p (p.wr B.rk ((rs.map i64).set x.toNat (Value.int .i64 1))):=f.KS x.toNat 1;generalize p.wr B.rk ((rs.map i64).set x.toNat (Value.int .i64 1))=H2 at*;obtain⟨T,lt,j,A,EA,Jm,JS⟩:=e.eh;refine cZ.intro (fun J=>J.own B.n=some [ptr B.c,ptr B.t,.slice (some ⟨B.rk,0,none⟩) (rs.set x.toNat 1).length (rs.set x.toNat 1).length,.slice (some ⟨B.tp,0,none⟩) tops.length T]) j ?_;refine vs ?_;refine bG.intro (.slice (some ⟨B.tp,0,none⟩) tops.length T) (fun J X=>by refine v1 (ae X) ?_;trivial) ?_;refine v1 (ae j) ?_;have hg:=Q.1;have xh:g<tops.length:=by
  have:=(ajK.1 Q.2).1;have:=l.tl;omega
 have q3:=e.cS A (ce (tops:=tops) (h:=g) O xh);have ke:=fun y=>dW U (g,k,s) y;have K:Qb (aH (w.put x (g,k,s))) (aU (w.put x (g,k,s))) (bm L) (bs L) (aQ tops) g x:=by
  refine l.bt.ins rfl (Int.not_lt.1 fun h=>mA (bg.1 h)) O O Z Z (fun a b ha hb wS Ac=>dC U _ ha hb wS Ac)
 refine And.intro j ?_;refine vs ?_;refine⟨⟨O,O⟩,?_⟩;refine v4 (ae A) ajJ ajM q3 ?_;refine And.intro j ?_;refine vs ?_;refine(fg e K.mg).mono ?_;rintro _ H3 ⟨r,V,rs3,rfl,m3,M,_,q⟩;have bn:=K.done M;obtain⟨d1,d2,d3,G⟩:=e.ly.1;have no:¬ (C B.n\/B.n=B.tl\/B.n=B.rk):=by rintro(h|h|h);exact e.out.1 h;omega;omega
 refine And.intro (q.own j no) ?_;have I:=q.own A (by cases e;grind);refine vs ?_;refine⟨O,?_⟩;refine v3 I ajJ ajM ?_;refine⟨O,?_⟩;obtain⟨m4,F⟩:=m3.fJ I g.toNat r;refine And.intro (F.own (q.own j no) G) ?_;refine vs ?_;refine .inr ⟨W,rfl,B.S C,⟨B,C,V,rs3,_,rfl,m4,⟨?_,by rw[ajN];exact l.tl⟩,fun z=>Iff.rfl⟩,?_,Z⟩
 ·grind [dN]
 ·have E:∀z,C z->S z:=fun z h=>(c z).2 (.inl h);have h1:S B.tl:=(c _).2 (.inr O);have h2:S B.rk:=(c _).2 (.inr O);have h3:S B.tp:=(c _).2 (.inr O);exact(((((P.mono fun _ _ h=>h.elim).trans (d.mono fun z _ h=>E z h)).trans (D.mono Z)).trans (q.mono Z)).trans (F.mono Z))
theorem tz.none{hm:Int->Int}{lt:Int->Int->Bool}{K:Int->Bool->Int}{U T:Int->Int}(h:hm (-1)=0)(w:∀x,¬0<hm x)(z:∀x c,K x c= -1)(n:∀x,U x= -1)(a:∀g,T g= -1):tz hm lt K U T:=
 ⟨⟨h,Z,Z,fun p _=>z p _⟩,Z,Z⟩
theorem yn(n:Nat)(x:Int)(c:Bool):bm (List.replicate n jC) x c= -1:=by
 grind [jC,bm,Lk.rF]
theorem DE(n:Nat)(x:Int):bs (List.replicate n jC) x= -1:=by
 by_cases h:0<=x/\x< (List.replicate n jC).length
 ·have z:=h.2;rw[akl]at z;rw[sK (y:=jC) h.1 Z];rfl
 ·exact KQ h
def jD(cap:Int):Nw:=⟨[false],List.replicate cap.toNat (0,0,0)⟩
theorem iU(cap:Int)(x:Int):¬0<aH (jD cap) x:=by
 intro h;obtain⟨w,a,e,z⟩:=aI h;have n:(List.replicate cap.toNat ((0,0,0):Ce))[x.toNat]? =some (aH (jD cap) x,e):=z;grind
theorem Ad(g:Int):aQ [-1] g= -1:=by
 grind [aQ]
theorem DF(k:Nat):dw [Value.int .i64 0] k=(List.replicate k (0:Int)).map i64:=by
 induction k with
 |zero=>rfl
 |succ k x=>simp only[dw,akv,ak2,akJ]at*;grind
theorem Ae(cap:Int)(H:Hp):aF 83 [i64 cap] H fun v J=>ak (
  af H J/\((¬ (0<=cap/\cap<=65536)/\v= .tuple [.pointer none,i64 31].toArray)\/
   ((0<=cap/\cap<=65536)/\∃n S,v= .tuple [ptr n,i64 0].toArray/\dE n J S (jD cap)/\∀x,S x->H.size<=x))):=by
 refine aT ET ?_;refine vs ?_;refine(j4 cap H).mono ?_;rintro _ p ⟨e,⟨a,rfl⟩| ⟨a,c,C,rfl,r,u⟩⟩
 ·refine vs ?_;exact⟨e,.inl ⟨a,rfl⟩⟩
 refine v1 ajZ ?_;refine(sL p a).mono ?_;rintro _ w ⟨t,d,rfl,m,g,P,A⟩;refine vs ?_;refine⟨O,?_⟩;refine vs ?_;rw[DF];have B:=r.slt;have T:=e.size;have F:=g.size;have L:=aC m.own;have K:=aC m.j5;have y:af w (((w.new 3 ((List.replicate cap.toNat (0:Int)).map i64)).new 3 [Value.int .i64 (-1)]).new 235 [ptr c,ptr t,.slice (some ⟨w.size,0,none⟩) cap.toNat cap.toNat,.slice (some ⟨w.size+1,0,none⟩) 1 1]):=(bD.new _ _).new _ _;have q:aj (fun _=>False) (w.new 3 ((List.replicate cap.toNat (0:Int)).map i64)) (((w.new 3 ((List.replicate cap.toNat (0:Int)).map i64)).new 3 [Value.int .i64 (-1)]).new 235 [ptr c,ptr t,.slice (some ⟨w.size,0,none⟩) cap.toNat cap.toNat,.slice (some ⟨w.size+1,0,none⟩) 1 1]):=bD.new _ _;have o:aj (fun _=>False) ((w.new 3 ((List.replicate cap.toNat (0:Int)).map i64)).new 3 [Value.int .i64 (-1)]) (((w.new 3 ((List.replicate cap.toNat (0:Int)).map i64)).new 3 [Value.int .i64 (-1)]).new 235 [ptr c,ptr t,.slice (some ⟨w.size,0,none⟩) cap.toNat cap.toNat,.slice (some ⟨w.size+1,0,none⟩) 1 1]):=bD;have f:=e.trans (g.trans y);refine⟨f,.inr ⟨a,w.size+1+1,(LB.mk (w.size+1+1) c t d w.size (w.size+1)).S C,rfl,⟨⟨w.size+1+1,c,t,d,w.size,w.size+1⟩,C,_,List.replicate cap.toNat 0,[-1],rfl,
  ⟨⟨.slice (some ⟨w.size+1,0,none⟩) 1 1,?_,?_⟩,r.fresh (g.trans y),m.fresh y,?_,?_,?_,?_⟩,⟨tz.none rfl (iU cap) (yn _) (DE _) Ad,rfl⟩,fun z=>Iff.rfl⟩,fun z j=>?_⟩⟩
 ·grind [az,ag]
 ·exact(Sl.bJ (size:=1) (n:=1) (xs:=[i64 (-1)]) rfl (by simp only[ag])).ext o (fun _ _ h=>h)
 ·exact q.own (am _ _ _) (fun h=>h)
 ·simp[jD]
 ·cases m;grind
 ·grind
 ·rcases j with j|rfl|rfl|rfl|rfl|rfl
  ·grind
  all_goals grind
theorem yo{S:Nat->Prop}{w:Nw}(h:dE n H S w):aF 329 [ptr n] H fun v J=>ak (
  (w.hs.length=65537/\v=i64 0/\br (dE n) S H J w)\/(w.hs.length≠65537/\v=i64 w.hs.length/\br (dE n) S H J w.make)):=by
 obtain⟨B,C,L,rs,tops,rfl,m,l,x⟩:=id h;obtain⟨tv,q,I⟩:=m.own;refine aT uw ?_;refine v1 (ae q) ?_;refine(iP m.cells).mono ?_;rintro _ H1 (⟨r,rfl,rfl⟩| ⟨r,rfl,y,d,a,U⟩)
 ·refine vs ?_;exact .inl ⟨r,rfl,br.same h (aj.refl _ _)⟩
 have pV:=m.cells.pos;have hhs:=m.cells.JP;have V:=l.tl;have slt:=m.slt;have Td:=d.slt;obtain⟨G,D,M,E,n5⟩:=m.out;obtain⟨⟨P,A,K,T⟩,⟨d5,d6,F⟩,⟨d8,Q⟩,d10⟩:=m.ly;have f:=a.own q G;refine vs ?_;refine ai.bY Z ?_;refine v1 (ae f) ?_;have s1:=I.ext a Z;refine LL s1 (-1) O fun w' j b' W s2 c=>?_;have u:=c.own f T;obtain⟨X,wc,o⟩:=Sl.shape s2;subst o;refine v1 u ?_;generalize o:Value.slice X (tops++[-1]).length wc=w' at*;have e:aj (fun z=>z=B.n) j (j.wr B.n [ptr B.c,ptr B.t,.slice (some ⟨B.rk,0,none⟩) rs.length rs.length,w']):=(aj.refl (fun z=>z=B.n) _).wr (fun _=>rfl) _;have z1:=a.size;have sl:∀z,z=B.n\/z=B.t\/z=B.tl\/z=B.rk\/z=B.tp->z<H.size:=fun z g=>slt z (.inr g);have hn:=sl _ (.inl rfl);have ht:=sl _ (.inr (.inl rfl));have afb:=sl _ (.inr (.inr (.inl rfl)));have Y1:=sl _ (.inr (.inr (.inr (.inl rfl))));have WS:=sl _ (.inr (.inr (.inr (.inr rfl))));have Y2:∀z,y z->z≠b'/\(z<H.size->C z):=Z;refine .inr ⟨r,rfl,(LB.mk B.n B.c B.t B.tl B.rk b').S y,⟨⟨B.n,B.c,B.t,B.tl,B.rk,b'⟩,y,L,rs,tops++[-1],rfl,⟨⟨w',ah u,s2.ext e Z⟩,?_,?_,?_,m.len,?_,?_⟩,⟨by rw[yi];exact l.bt,?_⟩,fun z=>Iff.rfl⟩,?_,fun z g=>?_⟩
 ·exact(d.ext c Z).ext e Z
 ·exact((m.ci.ext a D M).ext c F Q).ext e (Ne.symm P) (Ne.symm A)
 ·exact e.own (c.own (a.own m.zW E) d10) (Ne.symm K)
 ·grind
 ·grind
 ·simp[Nw.make,V]
 ·exact((a.mono fun z _ h=>(x z).2 (.inl h)).trans (c.mono fun z _ h=>(x z).2 (.inr O))).trans (e.mono fun z _ h=>(x z).2 (.inr (.inl h)))
 ·rcases g with g|rfl|rfl|rfl|rfl|rfl
  ·rcases U z g with p|p
   ·exact .inl ((x z).2 (.inl p))
   omega
  ·exact .inl ((x _).2 (.inr (.inl rfl)))
  ·exact .inl ((x _).2 (.inr (.inr (.inl rfl))))
  ·exact .inl ((x _).2 (.inr Z))
  ·exact .inl ((x _).2 (.inr Z))
  ·rcases W with rfl|h7
   ·exact .inl ((x _).2 (.inr O))
   omega
theorem OI.first{w:Nw}{L:List Lk}{tops:List Int}(l:OI w L tops){g:Int}(h:w.first g x):aQ tops g=x:=by
 obtain⟨z,a,n⟩:=bi.1 h;have:=l.bt.first (x:=x) O Z (au w);grind
theorem oB{S:Nat->Prop}{w:Nw}(h:dE n H S w)(g:Int):aF 331 [ptr n,i64 g] H fun v J=>ak (
  ((w.len g=0/\v= .tuple [i64 0,.bool false].toArray)\/∃x,w.first g x/\v= .tuple [i64 x,.bool true].toArray)/\J=H):=by
 obtain⟨B,C,L,rs,tops,rfl,m,l,q⟩:=h;obtain⟨p,lt,y,r,o,f,u⟩:=m.eh;refine aT wE ?_;refine v1 (ae y) ?_;refine(eW m.cells g).mono ?_;rintro _ _ ⟨rfl,rfl⟩;refine vs ?_;refine ai.dec (fun z=>?_) (fun z=>?_)
 ·refine vs ?_;exact⟨.inl ⟨z,rfl⟩,rfl⟩
 have c:0<g:=aj3 fun c=>z (Nw.E7.2 (.inl O));obtain⟨x,a⟩:=sI c z;have d:=(bi.1 a).2.1;have e:=((m.cells.hm x).2 O).2;rw[d,<-l.tl]at e;have j:=m.cS r (ce (tops:=tops) (h:=g) O e);rw[l.first a]at j;refine v1 (ae y) ?_;refine⟨O,?_⟩;refine v4 (ae r) ajJ ajM j ?_;exact⟨.inr ⟨x,a,rfl⟩,rfl⟩
theorem rq{S:Nat->Prop}{w:Nw}(h:dE n H S w)(x k s:Int):aF 325 [ptr n,i64 x,mE k s] H fun v J=>ak (
  (¬w.dD x k s/\v= .bool false/\br (dE n) S H J w)\/(w.dD x k s/\v= .bool true/\∃y,w.cs[x.toNat]? =some y/\br (dE n) S H J (w.put x (y.1,k,s)))):=by
 obtain⟨B,C,L,rs,tops,rfl,m,l,e⟩:=h;refine uS od ⟨rfl,?_⟩;refine v1 ic.eq_1 ?_;have f0:af H (H.new 190 [i64 k,u64 s]):=bD;have b0:(H.new 190 [i64 k,u64 s]).own H.size=some [i64 k,u64 s]:=am _ _ _;have P:=m.fresh f0;generalize H.new 190 [i64 k,u64 s]=H0 at*;obtain⟨tv,Hk,_⟩:=P.own;refine v2 (ae Hk) (ae b0) ?_;refine(gH P.cells x k s).mono ?_;have hC:∀z,C z->S z:=fun z h=>(e z).2 (.inl h);have ff:aj S H H0:=f0.mono fun _ _ h=>h.elim;rintro _ H1 (⟨Q,rfl,D,o⟩| ⟨f,rfl,y,u,mi,D,o⟩)
 ·refine vs ?_;exact .inl ⟨Q,rfl,br.same ⟨B,C,L,rs,tops,rfl,P.ext o (fun _ _ h=>h),l,e⟩ (ff.trans (o.mono fun _ _ h=>h.elim))⟩
 have tJ:(w.put x (y.1,k,s)).cs.length=w.cs.length:=by simp[Nw.put]
 have U:=P.aD D o tJ;have yp:w.dD x k s:=⟨f,Z⟩;have hx:0<=x/\x<w.cs.length:=⟨f.1,Z⟩;have Y3:aH w x=y.1:=iO f.1 u;have FO:=bg.2 f;have hw:aH (w.put x (y.1,k,s))=aH w:=by
  funext z;rw[dW hx];split
  ·grind
  ·rfl
 have Hl:cz (w.put x (y.1,k,s)).cs x:=bg.1 (by simp_all);obtain⟨MM,o1,_⟩:=U.own;refine v1 (ae o1) ?_;refine(bF U.cells x).mono ?_;rintro _ H2 (⟨Q,_,_⟩| ⟨_,rfl,c2,X⟩)
 ·exact absurd Hl Q
 have A:=U.aD c2 X rfl;obtain⟨ML,o2,_⟩:=A.own;have zg:aj S H H2:=(ff.trans (o.mono fun z _ h=>hC z h)).trans (X.mono fun z _ h=>hC z h);have el:∀a b,0<aH w a->0<aH w b->a≠x->b≠x->aU (w.put x (y.1,k,s)) a b=aU w a b:=fun a b ha T wS F=>dC hx _ ha T wS F;have ex:∀b,0<aH w b->b≠x->aU w x b=true->aU (w.put x (y.1,k,s)) x b=true:=fun b T F h=>yf f u mi T F h;refine v1 (ae o2) ?_;refine(cL A.ci (x:=x) (fun j=>by have:=yj.up l.bt.bt j;have:=A.len.1;omega)).mono ?_;rintro _ H3 ⟨rfl,K,t3,l3,k3,u3,e3⟩;have m3:=A.dX t3 e3 l3;have h1:S B.tl:=(e _).2 (.inr O);have h2:S B.rk:=(e _).2 (.inr O);have h3:S B.tp:=(e _).2 (.inr O);have E:aj S H H3:=zg.trans (e3.mono Z);unfold gz;by_cases j:bs L x= -1
 ·rw[if_pos j];refine vs ?_;have kk:bm K=bm L:=by rw[k3];unfold iy;grind
  have uu:bs K=bs L:=by
   rw[u3];funext z;unfold dq aN;split
   ·grind
   ·rfl
  refine .inr ⟨yp,rfl,y,u,br.same ⟨B,C,K,rs,tops,rfl,m3,⟨?_,l.tl⟩,e⟩ E⟩;rw[hw,kk,uu];exact l.bt.Qc FO j el ex (au w)
 rw[if_neg j];refine vs ?_;have c:=l.bt.low FO j el ex (au w);rw[<-hw,<-k3,<-u3]at c;have SP:=yj.up l.bt.bt j;refine(iS m3 c.bt (x:=bs L x) (fun _=>by simp_all)).mono ?_;rintro _ H4 ⟨V,RQ,d,b4,I,e4⟩;have G:Qb (aH (w.put x (y.1,k,s))) (aU (w.put x (y.1,k,s))) (bm V) (bs V) (aQ tops) (aH (w.put x (y.1,k,s)) x) x:=⟨b4,by rw[I];exact c.t1,by rw[I];exact c.t2,by rw[I];exact c.ox,c.nx,c.g0⟩;have Fh:aj S H H4:=E.trans (e4.mono Z);obtain⟨M,lt,q,W,EA,Jm,JS⟩:=d.eh;have xh:aH (w.put x (y.1,k,s)) x<tops.length:=by
  have:=((d.cells.hm x).2 c.g0).2;have p:(w.put x (y.1,k,s)).hs=w.hs:=rfl;rw[p]at this;have:=l.tl;omega
 have MR:=c.g0;generalize hg:aH (w.put x (y.1,k,s)) x=g at*;have q3:=d.cS W (ce (tops:=tops) (h:=g) O xh);refine vs ?_;refine cZ.intro (fun J=>J.own B.n=some [ptr B.c,ptr B.t,.slice (some ⟨B.rk,0,none⟩) RQ.length RQ.length,.slice (some ⟨B.tp,0,none⟩) tops.length M]) q ?_;refine vs ?_;refine bG.intro (.slice (some ⟨B.tp,0,none⟩) tops.length M) (fun J hI=>by refine v1 (ae hI) ?_;trivial) ?_;refine v1 (ae q) ?_;refine And.intro q ?_;refine vs ?_;refine⟨⟨O,O⟩,?_⟩;refine v4 (ae W) ajJ ajM q3 ?_;refine And.intro q ?_;refine vs ?_;refine(fg d G.mg).mono ?_;rintro _ H5 ⟨r,L5,rs5,rfl,m5,g5,_,p⟩;have bn:=G.done g5;obtain⟨d1,d2,d3,d4⟩:=d.ly.1;have no:¬ (C B.n\/B.n=B.tl\/B.n=B.rk):=by rintro(h|h|h);exact d.out.1 h;omega;omega
 refine And.intro (p.own q no) ?_;have q4:=p.own W (by cases d;grind);refine vs ?_;refine⟨O,?_⟩;refine v3 q4 ajJ ajM ?_;refine⟨O,?_⟩;obtain⟨m6,e6⟩:=m5.fJ q4 g.toNat r;refine And.intro (e6.own (p.own q no) d4) ?_;refine vs ?_;refine .inr ⟨yp,rfl,y,u,br.same ⟨B,C,L5,rs5,_,rfl,m6,⟨?_,by rw[ajN];exact l.tl⟩,e⟩ ?_⟩
 ·grind [dN]
 ·exact(Fh.trans (p.mono Z)).trans (e6.mono Z)
theorem kT{S:Nat->Prop}{w:Nw}(h:dE n H S w)(x:Int):aF 326 [ptr n,i64 x] H fun v J=>ak (
  (¬cz w.cs x/\v= .bool false/\br (dE n) S H J w)\/(cz w.cs x/\v= .bool true/\br (dE n) S H J (w.put x (0,0,0)))):=by
 obtain⟨B,C,L,rs,tops,rfl,m,l,P⟩:=id h;have G:∀z,C z->S z:=fun z h=>(P z).2 (.inl h);have s1:S B.tl:=(P _).2 (.inr O);have s2:S B.rk:=(P _).2 (.inr O);have s3:S B.tp:=(P _).2 (.inr O);obtain⟨tv,o0,_⟩:=m.own;refine aT qW ?_;refine v1 (ae o0) ?_;refine(bF m.cells x).mono ?_;rintro _ H1 (⟨K,rfl,rfl⟩| ⟨A,rfl,c1,e1⟩)
 ·refine vs ?_;exact .inl ⟨K,rfl,br.same h (aj.refl _ _)⟩
 have Q:=m.aD c1 e1 rfl;obtain⟨MM,o1,_⟩:=Q.own;have u:=bg.2 A;obtain⟨kh,Ew,_⟩:=aI u;have PT:x≠ -1:=O;have D:=au w;have t:=l.bt;refine v1 (ae o1) ?_;obtain⟨a1,b1,Y4⟩:=cM (bm L x false);obtain⟨a2,b2,WT⟩:=cM (bm L x true);refine⟨.tuple [i64 a1,.bool b1].toArray,(kF Q.ci x).mono (by rintro v J ⟨rfl,rfl⟩;grind),?_⟩;refine vs ?_;refine⟨_,cG H1 _ a1 b1 Y4,?_⟩;refine v1 (ae o1) ?_;refine(cF Q.ci x).mono ?_;rintro _ J ⟨rfl,e⟩;obtain rfl:=e.symm;rw[WT];refine vs ?_;refine(cG H1 _ a2 b2 WT).mono ?_;rintro _ J ⟨rfl,e⟩;obtain rfl:=e.symm;refine v1 (ae o1) ?_;refine(cL Q.ci (x:=bm L x false) (fun j=>by have:=yj.up t.bt j;have:=Q.len.1;omega)).mono ?_;rintro _ H2 ⟨rfl,L2,t2,l2,k2,u2,e2⟩;have M:=Q.dX t2 e2 l2;have bt2:yj w L2:=by
  show Bt _ _ _ _;rw[k2,u2];exact t.bt.Qa _
 obtain⟨ML,o2,_⟩:=M.own;refine v1 (ae o2) ?_;refine(cL M.ci (x:=bm L x true) (fun j=>by have:=yj.up bt2 j;have:=M.len.1;omega)).mono ?_;rintro _ H3 ⟨rfl,L3,t3,l3,k3,E,e3⟩;rw[k2,u2]at k3;rw[u2]at E;have m3:=M.dX t3 e3 l3;obtain⟨w1,w2,w3,w4⟩:=t.bt.bare x;have f:∀c,bm L x c= -1\/(aH w (bm L x c)=aH w x/\bs L3 (bm L x c)= -1):=fun c=>by
  by_cases f:bm L x c= -1
  ·omega
  ·refine .inr ⟨(t.bt.home f).2.2.1,?_⟩;rw[E,w4,if_pos];cases c
   ·omega
   omega
 rw[<-k3,<-E]at w1;have mg:=Mg.start w1 u (f false) (f true) (fun e=>t.bt.two x e);refine vs ?_;refine(fg m3 mg).mono ?_;rintro _ H4 ⟨r,F,RQ,rfl,q,g4,f4,e4⟩;have f4:=f4 x (oO.start (fun f=>(t.bt.home f).2.2.2.2) (fun f=>(t.bt.home f).2.2.2.2));have d:=t.RB D u k3 E g4 f4;have Fh:aj S H H4:=(((e1.mono fun z _ h=>G z h).trans (e2.mono Z)).trans (e3.mono Z)).trans (e4.mono Z);obtain⟨Va,o4,_⟩:=q.own;have ke:=fun y=>dW (w:=w) ⟨kh,Ew⟩ (0,0,0) y;have p0:aH (w.put x (0,0,0)) (-1)=0:=rfl;have p1:aH (w.put x (0,0,0)) x=0:=Z;have p2:∀y,y≠x->aH (w.put x (0,0,0)) y=aH w y:=Z;have el:∀a b,0<aH w a->0<aH w b->a≠x->b≠x->aU (w.put x (0,0,0)) a b=aU w a b:=fun a b ha hb wS Ac=>dC ⟨kh,Ew⟩ _ ha hb wS Ac;have tJ:(w.put x (0,0,0)).cs.length=w.cs.length:=by simp[Nw.put]
 refine v1 (ae o4) ?_;refine(nE q.ci x).mono ?_;rintro _ J ⟨rfl,e⟩;obtain rfl:=e.symm;rw[d.ux];unfold gz;by_cases j:bs L x= -1
 ·rw[if_pos j];obtain⟨cc,lt,o5,q5,EA,Jm,JS⟩:=q.eh;have xh:aH w x<tops.length:=by
   have:=((q.cells.hm x).2 u).2;have:=l.tl;omega
  refine v1 (ae o5) ?_;refine⟨O,?_⟩;refine v3 q5 ajJ ajM ?_;refine⟨O,?_⟩;obtain⟨o,V⟩:=q.fJ q5 (aH w x).toNat r;obtain⟨tv6,o6,_⟩:=o.own;refine v1 (ae o6) ?_;refine(bZ o.cells x).mono ?_;rintro _ H6 (⟨K,_,_⟩| ⟨_,rfl,c6,U⟩)
  ·exact absurd A K
  have I:=o.aD c6 U tJ;refine vs ?_;refine .inr ⟨A,rfl,br.same ⟨B,C,F,RQ,_,rfl,I,⟨?_,by rw[ajN];exact l.tl⟩,P⟩ ((Fh.trans (V.mono Z)).trans (U.mono fun z _ h=>G z h))⟩;rw[dN O xh];exact d.zd t u j p0 p1 p2 el
 ·rw[if_neg j];have SP:=yj.up t.bt j;obtain⟨w5,w6⟩:=d.cut t D u j;obtain⟨a3,b3,Vb⟩:=cM (bm F (bs L x) true);refine v1 (ae o4) ?_;refine(cF q.ci (bs L x)).mono ?_;rintro _ J ⟨rfl,e⟩;obtain rfl:=e.symm;rw[Vb];refine vs ?_;refine(cG _ _ a3 b3 Vb).mono ?_;rintro _ J ⟨rfl,e⟩;obtain rfl:=e.symm;rw[d.kp _ true rfl j];refine v1 (ae o4) ?_;refine(cL q.ci (x:=x) (fun hu2=>by have:=yj.up d.bt hu2;have:=q.len.1;omega)).mono ?_;rintro _ H5 ⟨rfl,L5,t5,l5,k5,u5,V⟩;have o:=q.dX t5 V l5;obtain⟨tv5,o5,_⟩:=o.own;refine vs ?_;have RZ:=Fh.trans (V.mono Z);refine ai.dec (fun g=>?_) (fun g=>?_)<;>refine vs ?_
  ·have I:=o;have Nr:=RZ;have b6:yj w L5:=by
    show Bt _ _ _ _;rw[k5,u5];exact w5 g
   have u6:bs L5=if r= -1 then dq (bs F) x else aN (dq (bs F) x) r (bs L x):=by rw[if_pos g];exact u5
   refine(iS I b6 (x:=bs L x) O).mono ?_;rintro _ H7 ⟨X,rs7,T,b7,u7,e7⟩;have e17:=Nr.trans (e7.mono Z);obtain⟨tv7,o7,_⟩:=T.own;refine v1 (ae o7) ?_;refine(bZ T.cells x).mono ?_;rintro _ H8 (⟨K,_,_⟩| ⟨_,rfl,c8,W⟩)
   ·exact absurd A K
   have m8:=T.aD c8 W tJ;refine vs ?_;refine .inr ⟨A,rfl,br.same ⟨B,C,X,rs7,tops,rfl,m8,⟨?_,l.tl⟩,P⟩ (e17.trans (W.mono fun z _ h=>G z h))⟩;exact d.below t D (n:=w.cs.length) (fun y hy=>by obtain⟨y0,y1,_⟩:=aI hy;omega) u j b7 Z p0 p1 p2 el
  ·obtain⟨y1,y2,y3,y4⟩:=w6 g;obtain⟨r1,r2,r3,r4⟩:=d.rx g;obtain⟨q1,q2,_⟩:=aI (w:=w) (x:=r) O;have Y5:=o.len;refine v1 (ae o5) ?_;refine(fu o.ci (p:=bs L x) (x:=r) (c:=(bm L (bs L x) true==x)) O ⟨q1,O⟩ y3 (by simp_all) (by simp_all)).mono ?_;rintro _ H6 ⟨rfl,L6,t6,l6,k6,u6',U⟩;have I:=o.dX t6 U l6;have Nr:=RZ.trans (U.mono Z);rw[k5]at k6;rw[u5]at u6';have b6:yj w L6:=by
    show Bt _ _ _ _;rw[k6,u6'];exact y4
   have u6:bs L6=if r= -1 then dq (bs F) x else aN (dq (bs F) x) r (bs L x):=by rw[if_neg g];exact u6'
   refine vs ?_;refine(iS I b6 (x:=bs L x) O).mono ?_;rintro _ H7 ⟨X,rs7,T,b7,u7,e7⟩;have e17:=Nr.trans (e7.mono Z);obtain⟨tv7,o7,_⟩:=T.own;refine v1 (ae o7) ?_;refine(bZ T.cells x).mono ?_;rintro _ H8 (⟨K,_,_⟩| ⟨_,rfl,c8,W⟩)
   ·exact absurd A K
   have m8:=T.aD c8 W tJ;refine vs ?_;refine .inr ⟨A,rfl,br.same ⟨B,C,X,rs7,tops,rfl,m8,⟨?_,l.tl⟩,P⟩ (e17.trans (W.mono fun z _ h=>G z h))⟩;exact d.below t D (n:=w.cs.length) (fun y hy=>by obtain⟨y0,y1,_⟩:=aI hy;omega) u j b7 Z p0 p1 p2 el
theorem sT{S:Nat->Prop}{w:Nw}(h:dE n H S w)(g:Int):aF 327 [ptr n,i64 g] H fun v J=>ak (
  (w.len g=0/\v= .tuple [i64 0,.bool false].toArray/\br (dE n) S H J w)\/(∃x,w.first g x/\v= .tuple [i64 x,.bool true].toArray/\br (dE n) S H J (w.put x (0,0,0)))):=by
 refine aT pC ?_;refine vs ?_;refine(oB h g).mono ?_;rintro _ _ ⟨⟨a,rfl⟩| ⟨x,z,rfl⟩,rfl⟩
 ·refine vs ?_;exact .inl ⟨a,rfl,br.same h (aj.refl _ _)⟩
 ·refine vs ?_;refine(kT h x).mono ?_;rintro _ e (⟨c,_,_⟩| ⟨_,rfl,m⟩)
  ·exact absurd (bg.1 (by have:=bi.1 z;omega)) c
  refine vs ?_;exact .inr ⟨x,z,rfl,m⟩
theorem ik(w:Nw)(a b:Int):aU (w.join a b)=aU w:=by
 funext x y;exact sH w a b x y
theorem yq{S:Nat->Prop}{w:Nw}(h:dE n H S w)(a b:Int):aF 330 [ptr n,i64 a,i64 b] H fun v J=>ak (
  (¬ (w.has a/\w.has b/\a≠b)/\v= .bool false/\br (dE n) S H J w)\/((w.has a/\w.has b/\a≠b)/\v= .bool true/\br (dE n) S H J (w.join a b))):=by
 obtain⟨B,C,L,rs,tops,rfl,m,l,e⟩:=id h;have hC:∀z,C z->S z:=fun z h=>(e z).2 (.inl h);have s1:S B.tl:=(e _).2 (.inr O);have s2:S B.rk:=(e _).2 (.inr O);have s3:S B.tp:=(e _).2 (.inr O);obtain⟨tv,o0,_⟩:=m.own;refine uS uA ⟨rfl,?_⟩;refine v2 kS.eq_1 (ae o0) ?_;refine(iQ m.cells a b).mono ?_;rintro _ H1 (⟨mT,rfl,rfl⟩| ⟨u,rfl,V,q⟩)
 ·refine vs ?_;exact .inl ⟨mT,rfl,br.same h (aj.refl _ _)⟩
 obtain⟨⟨ha,Og⟩,⟨hb,MG⟩,f⟩:=id u;have c:=m.aD V q (by simp[Nw.join]);have W:a<tops.length:=by
  have:=(ajK.1 Og).1;have:=l.tl;omega
 have I:b<tops.length:=by
  have:=(ajK.1 MG).1;have:=l.tl;omega
 have A:=l.bt.join (hm':=aH (w.join a b)) rfl f O (lY O);rw[<-ik w a b]at A;obtain⟨g,lt,K,j,EA,Jm,JS⟩:=c.eh;have qa:=c.cS j (ce (tops:=tops) (h:=a) O W);have Q:=c.cS j (ce (tops:=tops) (h:=b) O I);refine vs ?_;refine cZ.intro (fun J=>J.own B.n=some [ptr B.c,ptr B.t,.slice (some ⟨B.rk,0,none⟩) rs.length rs.length,.slice (some ⟨B.tp,0,none⟩) tops.length g]/\∃l,J.own B.tp=some l/\l[b.toNat]? =some (i64 (aQ tops b))) Z ?_;refine vs ?_;refine bG.intro (.slice (some ⟨B.tp,0,none⟩) tops.length g) (fun J x=>by refine v1 (ae x.1) ?_;trivial) ?_;refine vs ?_;refine bG.intro (.slice (some ⟨B.tp,0,none⟩) tops.length g) (fun J x=>by refine v1 (ae x.1) ?_;trivial) ?_;refine vs ?_;refine⟨O,?_⟩;refine vs ?_;refine bG.intro (.slice (some ⟨B.tp,0,none⟩) tops.length g) (fun J x=>by refine v1 (ae x.1) ?_;trivial) ?_;refine vs ?_;refine⟨O,?_⟩;refine vs ?_;refine bG.intro (i64 (aQ tops b)) (fun J x=>by obtain⟨_,l,E,X⟩:=x;refine v4 (ae E) ajJ ajM X ?_;trivial) ?_;refine v4 (ae j) ajJ ajM qa ?_;refine And.intro Z ?_;refine vs ?_;refine(fg c A).mono ?_;rintro _ p ⟨r,U,rs3,rfl,m3,M,_,y⟩;have tt:=l.bt;rw[<-ik w a b]at tt;have bn:=tt.Gv rfl f O O (lY O) M;obtain⟨d1,d2,d3,G⟩:=c.ly.1;have no:¬ (C B.n\/B.n=B.tl\/B.n=B.rk):=by rintro(h|h|h);exact c.out.1 h;omega;omega
 have d:=y.own j (by cases c;grind);refine And.intro ⟨y.own K no,lt,d,Q⟩ ?_;refine vs ?_;refine⟨O,?_⟩;refine v3 d ajJ ajM ?_;have ql:=O;refine⟨O,?_⟩;obtain⟨P,o⟩:=m3.fJ d a.toNat r;have o4:=o.own (y.own K no) G;have q4':(p.wr B.tp (lt.set a.toNat (i64 r))).own B.tp=some (lt.set a.toNat (i64 r)):=ah d;have qb':(lt.set a.toNat (i64 r))[b.toNat]? =some (i64 (aQ tops b)):=by rw[ajT O];exact Q
 rw[show aS lt a.toNat (aK (i64 r))=lt.set a.toNat (i64 r)from rfl];generalize p.wr B.tp (lt.set a.toNat (i64 r))=H4 at*;refine And.intro Z ?_;refine vs ?_;obtain⟨cc5,lt5,T,F,U3,Af,PW⟩:=P.eh;rw[ajN]at T U3;refine v1 (ae T) ?_;refine⟨O,?_⟩;refine v3 F ajJ ajM ?_;refine⟨O,?_⟩;obtain⟨m6,D⟩:=P.fJ F b.toNat (-1);refine vs ?_;refine .inr ⟨u,rfl,br.same ⟨B,C,U,rs3,_,rfl,m6,⟨?_,by rw[ajN,ajN,l.tl];simp[Nw.join]⟩,e⟩ ?_⟩
 ·grind [dN]
 ·exact(((q.mono fun z _ h=>hC z h).trans (y.mono Z)).trans (o.mono Z)).trans (D.mono Z)
theorem Hm(n:Nat):qD (.iface 160 (ptr n)) (dE n) where
 slt h:=h.slt
 ext h e hd:=h.ext e hd
 cells:=by
  rintro H S w ⟨B,C,L,rs,tops,rfl,m,l,r⟩;exact⟨B.c,C,m.cells⟩
 has:=by
  rintro H S w g ⟨B,C,L,rs,tops,rfl,m,l,r⟩;obtain⟨d,j,_⟩:=m.own;exact⟨_,_,221,ptr B.c,rfl,cC (off:=0) Y (ae j) rfl,(ie m.cells g).mono fun v J c=>c⟩
 make:=by
  intro H S w h;exact⟨_,_,329,ptr n,rfl,ba Y,(yo h).mono fun v J c=>c⟩
 insert:=by
  intro H S w g x k s h;exact⟨_,_,328,ptr n,rfl,ba Y,(uJ h g x k s).mono fun v J c=>c⟩
 min:=by
  intro H S w g h;refine⟨_,_,331,ptr n,rfl,ba Y,(oB h g).mono ?_⟩;rintro v J ⟨⟨y,rfl⟩| ⟨x,y,rfl⟩,rfl⟩
  ·exact .inl ⟨y,rfl,br.same h (aj.refl _ _)⟩
  ·exact .inr ⟨x,y,rfl,br.same h (aj.refl _ _)⟩
 extract:=by
  intro H S w g h;exact⟨_,_,327,ptr n,rfl,ba Y,(sT h g).mono fun v J c=>c⟩
 j9:=by
  intro H S w x k s h;exact⟨_,_,325,ptr n,rfl,ba Y,(rq h x k s).mono fun v J c=>c⟩
 entry:=by
  rintro H S w x ⟨B,C,L,rs,tops,rfl,m,l,r⟩;obtain⟨d,j,_⟩:=m.own;refine⟨_,_,219,ptr B.c,rfl,cC (off:=0) Y (ae j) rfl,(gG m.cells x).mono ?_⟩;rintro v J ⟨p,f,o⟩;exact⟨⟨B,C,L,rs,tops,rfl,m.fresh f,l,r⟩,f,o⟩
 len:=by
  rintro H S w g ⟨B,C,L,rs,tops,rfl,m,l,r⟩;obtain⟨d,j,_⟩:=m.own;exact⟨_,_,224,ptr B.c,rfl,cC (off:=0) Y (ae j) rfl,(eW m.cells g).mono fun v J c=>c⟩
 home:=by
  rintro H S w x h;obtain⟨B,C,L,rs,tops,rfl,m,l,r⟩:=id h;obtain⟨d,j,_⟩:=m.own;refine⟨_,_,222,ptr B.c,rfl,cC (off:=0) Y (ae j) rfl,(bF m.cells x).mono ?_⟩;rintro v J (⟨y,rfl,rfl⟩| ⟨y,rfl,p,q⟩)
  ·exact .inl ⟨y,rfl,br.same h (aj.refl _ _)⟩
  ·exact .inr ⟨y,rfl,br.same ⟨B,C,L,rs,tops,rfl,m.aD p q rfl,l,r⟩ (q.mono fun z _ u=>(r z).2 (.inl u))⟩
 delete:=by
  intro H S w x h;exact⟨_,_,326,ptr n,rfl,ba Y,(kT h x).mono fun v J c=>c⟩
 vI:=by
  intro H S w a b h;exact⟨_,_,330,ptr n,rfl,ba Y,(yq h a b).mono fun v J c=>c⟩
theorem eX:cX 2:=⟨O,O⟩
def swp(l:List Int)(i j:Nat):List Int:=(l.set i (l.getD j 0)).set j (l.getD i 0)
theorem hG(l:List Int)(i j:Nat):(swp l i j).length=l.length:=by unfold swp;simp
theorem DG(hi:i<l.length)(x:j<l.length)(k:Nat):(swp l i j).getD k 0=if k=j then l.getD i 0 else if k=i then l.getD j 0 else l.getD k 0:=by
 grind [swp]
theorem pW(hi:i<l.length)(x:j<l.length)(k:Nat):(swp l i j)[k]? =if k=j then l[i]? else if k=i then l[j]? else l[k]? :=by
 grind [swp]
theorem QI(hi:i<l.length)(a:j<l.length)(z:Int):z∈swp l i j↔z∈l:=by
 constructor
 ·grind [swp]
 ·intro h;obtain⟨k,n⟩:=aj5 h;by_cases x:k=i
  ·subst x;refine ajV (i:=j) ?_;rw[pW hi a,if_pos rfl,n]
  ·by_cases w:k=j
   ·subst w;refine ajV (i:=i) ?_;grind [pW]
   ·refine ajV (i:=k) ?_;grind [pW]
theorem Jn(hi:i<m)(x:j<m)(hm:m<=l.length):(swp l i j).take m=swp (l.take m) i j:=by
 apply akb;grind [pW]
theorem OJ(hi:i<m)(x:j<m)(hm:m<=l.length):(swp l i j).drop m=l.drop m:=by
 apply akb;grind [pW]
theorem dV.heap{lt:Int->Int->Bool}(h:dV lt 2 l i)(n:∀j,1<=j->j<l.length->pa 2 j=i->lt (l.getD j 0) (l.getD i 0)=false)
  (m:1<=i->i<l.length->lt (l.getD i 0) (l.getD (pa 2 i) 0)=false):eo lt 2 l:=by
 intro j w a;by_cases x:j=i
 ·grind
 ·by_cases z:pa 2 j=i
  ·grind
  ·exact h.1 j w a x z
theorem Te{lt:Int->Int->Bool}(c:bC lt)(hi:1<=i)(r:i<l.length)(a:dV lt 2 l i)(p:∀j,1<=j->j<l.length->pa 2 j=i->lt (l.getD j 0) (l.getD i 0)=false)
  (d:lt (l.getD i 0) (l.getD (pa 2 i) 0)=true):dV lt 2 (swp l (pa 2 i) i) (pa 2 i)/\∀j,1<=j->j< (swp l (pa 2 i) i).length->pa 2 j=pa 2 i->lt ((swp l (pa 2 i) i).getD j 0) ((swp l (pa 2 i) i).getD (pa 2 i) 0)=false:=by
 have q:=di eX hi;have g:=DG (l:=l) (i:=pa 2 i) (j:=i) O r;rw[hG];have f:∀j,1<=j->j<l.length->pa 2 j=pa 2 i->j≠i->lt (l.getD j 0) (l.getD i 0)=false:=fun j x h m w=>by
  have y:=a.1 j x h w O;cases c;grind
 refine⟨⟨fun j x h m w=>?_,fun j x h m w=>?_⟩,fun j x h m=>?_⟩
 ·rw[hG]at h;have v:=di eX x;rw[g,g,if_neg w];by_cases z:j=i
  ·grind
  ·rw[if_neg z,if_neg m];by_cases n:pa 2 j=i
   ·rw[if_pos n];exact a.2 j x h n O
   ·rw[if_neg n];exact a.1 j x h z n
 ·rw[hG]at h;have o:=di eX w;rw[g,g,if_neg (show pa 2 (pa 2 i)≠i by omega),if_neg (show pa 2 (pa 2 i)≠pa 2 i by omega)];have e:=a.1 (pa 2 i) w O O O;by_cases z:j=i
  ·rw[if_pos z];exact e
  ·have v:=di eX x;rw[if_neg z,if_neg O];have y:=a.1 j x h z O;cases c;grind
 ·have v:=di eX x;rw[g,g,if_neg (show pa 2 i≠i by omega),if_pos rfl];by_cases z:j=i
  ·rw[if_pos z];exact c.vH d
  grind
theorem OK{lt:Int->Int->Bool}(r:bC lt){b:Nat}(v:1<=b)(e:b<l.length)(a:pa 2 b=i)(w:dV lt 2 l i)(p:∀j,1<=j->j<l.length->pa 2 j=i->lt (l.getD j 0) (l.getD b 0)=false)
  (y:lt (l.getD b 0) (l.getD i 0)=true):dV lt 2 (swp l i b) b/\lt ((swp l i b).getD b 0) ((swp l i b).getD (pa 2 b) 0)=false:=by
 have q:=di eX v;have g:=DG (l:=l) (i:=i) (j:=b) O e;refine⟨⟨fun j x h m c=>?_,fun j x h m c=>?_⟩,?_⟩
 ·rw[hG]at h;have d:=di eX x;rw[g,g,if_neg m,if_neg c];by_cases z:j=i
  ·subst z;rw[if_pos rfl,if_neg O];exact w.2 b v e a x
  ·rw[if_neg z];by_cases n:pa 2 j=i
   ·grind
   ·rw[if_neg n];exact w.1 j x h z n
 ·rw[hG]at h;have d:=di eX x;rw[g,g,if_neg O,if_neg O,if_neg O,if_pos a];have:=w.1 j x h O O;grind
 ·rw[g,g,if_pos rfl,a,if_neg O,if_pos rfl];exact r.vH y
def jc(l at_:List Int):Prop:=∀ (i:Nat) (x:Int),l[i]? =some x->0<=x/\at_[x.toNat]? =some (i:Int)
theorem jc.zS{at_:List Int}(h:jc l at_)(hi:l[i]? =some x)(z:l[j]? =some x):i=j:=by
 have w:=(h i x hi).2;have a:=(h j x z).2;grind
def yr(l at_:List Int)(i j:Nat):List Int:=(at_.set (l.getD j 0).toNat i).set (l.getD i 0).toNat j
theorem jc.swp{at_:List Int}(h:jc l at_)(hi:i<l.length)(m:j<l.length)(B:i≠j):jc (swp l i j) (yr l at_ i j)/\(yr l at_ i j).length=at_.length/\∀z:Int,0<=z->z∉l->(yr l at_ i j)[z.toNat]? =at_[z.toNat]? :=by
 have e:∀q,q<l.length->l[q]? =some (l.getD q 0):=fun q u=>by rw[ajR,ajL u];rfl
 obtain⟨a0,a1⟩:=h i _ (e i hi);obtain⟨b0,n⟩:=h j _ (e j m);have p:=(ajK.1 a1).1;have o:=(ajK.1 n).1;have f:(l.getD i 0).toNat≠(l.getD j 0).toNat:=fun a=>by
  rw[a,n]at a1;injection a1 with a1;omega
 unfold yr;refine⟨fun k x w=>?_,by simp,fun z P hm=>?_⟩
 ·rw[pW hi m]at w;split at w
  ·rename_i v;rw[e i hi]at w;injection w with w;subst w;rw[ajY (by simpa using p),v];exact⟨a0,rfl⟩
  ·split at w
   ·rename_i v r;rw[e j m]at w;injection w with w;subst w;rw[ajT f,ajY o,r];exact⟨b0,rfl⟩
   ·rename_i v r;obtain⟨d,c⟩:=h k x w;have g:(l.getD i 0).toNat≠x.toNat:=fun a=>by
     rw[a,c]at a1;injection a1 with a1;omega
    have y:(l.getD j 0).toNat≠x.toNat:=fun a=>by
     rw[a,c]at n;injection n with n;omega
    rw[ajT g,ajT y];exact⟨d,c⟩
 ·have g:(l.getD i 0).toNat≠z.toNat:=fun a=>hm (by rw[show z=l.getD i 0 by omega];exact ajV (e i hi));have y:(l.getD j 0).toNat≠z.toNat:=fun a=>hm (by rw[show z=l.getD j 0 by omega];exact ajV (e j m));rw[ajT g,ajT y]
theorem pa2(j:Nat):((pa 2 j:Nat):Int)=if j=0 then 0 else((j:Int) - 1) / 2:=by
 grind [pa]
end
end Go.Proofs.YtjkkkibiegfecaaGreatDoor
