/- Texts put behind each other. -/
import Derived.Test.YtnanofhkpglbaaaGreatDoorK36
set_option linter.unusedSimpArgs false
set_option linter.unusedVariables false
set_option maxRecDepth 100000
set_option maxHeartbeats 80000000
set_option maxHeartbeats 8000000
namespace Go.Proofs.YtnanofhkpglbaaaGreatDoor
open Go Go.Vc
section
variable{lo n a:Nat}{p:Program}{z w:TypeId}{X J:Hp}{g x:Int}
abbrev gB(A:Ar)(c:Option Addr)(T:List (Int×Nat))(v:Nat)(z:Option Addr)(G:List (Int×Nat))(gc:Nat)(w:Nw)(a:Option Addr)(m:Nat)(x:Option Addr)(h:Nat)(q:Int):List Value:=[i64 A.g.length,.int .u32 (A.mo:Int),.slice c T.length v,.slice z G.length gc,.slice a w.hs.length m,.slice x w.cs.length h,u64 q]
theorem LA{vs:List Value}{H:Hp}{m:TypeId}{a b c:List Value}{K:Value->Hp->Prop}
  (h:∀x,af H x->x.own H.size=some a->x.own (H.size+1)=some b->x.own (H.size+1+1)=some c->x.size=H.size+3->dO p n vs x K):dO p n vs (((H.new z a).new w b).new m c) K:=by
 refine h _ ((bm.new _ _).new _ _) ?_ ?_ (az (by simp only[ag])) (by simp only[ag])
 ·rw[ax (by simp only[ag];omega),ax (by simp only[ag];omega),am]
 ·rw[ax (by simp only[ag];omega)];exact az (by simp only[ag])
theorem UL{vs:List Value}{H:Hp}{a b:List Value}{K:Value->Hp->Prop}
  (h:∀x,af H x->x.own H.size=some a->x.own (H.size+1)=some b->x.size=H.size+2->dO p n vs x K):dO p n vs ((H.new z a).new w b) K:=by
 refine h _ (bm.new _ _) ?_ (az (by simp only[ag])) (by simp only[ag]);rw[ax (by simp only[ag];omega),am]
theorem UM{vs:List Value}{H:Hp}{m v:TypeId}{a b c d:List Value}{K:Value->Hp->Prop}
  (h:∀x,af H x->x.own H.size=some a->x.own (H.size+1)=some b->x.own (H.size+1+1)=some c->x.own (H.size+1+1+1)=some d->x.size=H.size+4->dO p n vs x K):dO p n vs ((((H.new z a).new w b).new m c).new v d) K:=by
 refine h _ (((bm.new _ _).new _ _).new _ _) ?_ ?_ ?_ (az (by simp only[ag])) (by simp only[ag])
 ·rw[ax (by simp only[ag];omega),ax (by simp only[ag];omega),ax (by simp only[ag];omega),am]
 ·rw[ax (by simp only[ag];omega),ax (by simp only[ag];omega)];exact az (by simp only[ag])
 ·rw[ax (by simp only[ag];omega)];exact az (by simp only[ag])
theorem Qa(H:Hp)(x h:TypeId)(a b l1 l2:List Value):af H ((((H.new x a).new h b).wr H.size l1).wr (H.size+1) l2)/\((((H.new x a).new h b).wr H.size l1).wr (H.size+1) l2).own H.size=some l1/\((((H.new x a).new h b).wr H.size l1).wr (H.size+1) l2).own (H.size+1)=some l2/\((((H.new x a).new h b).wr H.size l1).wr (H.size+1) l2).size=H.size+2:=by
 refine⟨((bm.new _ _).then (bT _ _ _) O).then (bT _ _ _) O,?_,?_,by simp only[bE,ag]⟩
 ·rw[aG O];exact ah (l':=a) (by rw[ax (by simp only[ag];omega),am])
 ·exact ah (l':=b) (by rw[aG O];exact az (by simp only[ag]))
theorem D1{w:Nw}(h:w.y7 g=some x):w.first g x:=by
 unfold Nw.y7 at h;split at h
 ·grind
 grind
theorem cm.cells{H:Hp}{c z:Option Addr}{v m:Nat}{w:Nw}{B:Nat->Prop}(h:cm H (.agg [.slice c n v,.slice z m a].toArray) w B):m=w.cs.length/\bD H 3 (.slice z w.cs.length a) w.cs.length (bO w.cs)/\∀x,z=some x->B x.block:=by
 obtain⟨r,j,g,y,e,_,d,_,_,_,p⟩:=h;grind
theorem cm.val{H:Hp}{v:Value}{w:Nw}{B:Nat->Prop}(h:cm H v w B):∃a m x z,v= .agg (dR w a m x z).toArray:=by
 obtain⟨a,m,x,z,e,_⟩:=h;grind
def mu(H:Hp)(l:List Value)(t:jg)(Bs:Nat->Prop)(N:Nat):Prop:=
 ∃m c z gc w a x h T G,l=[i64 t.A.g.length,.int .u32 (t.A.mo:Int),.slice m (T:List (Int×Nat)).length c,.slice z (G:List (Int×Nat)).length gc,.slice w t.w.hs.length a,.slice x t.w.cs.length h,u64 t.q]/\
  EH H (eD t.A m T c z G gc) t.A T G Bs N/\cm H (.agg (dR t.w w a x h).toArray) t.w Bs/\Ci t.w t.A/\(∀b,Bs b->b<H.size)
section
variable {H : Hp} {l : List Value} {t : jg} {Bs : Nat → Prop} {N : Nat}
theorem mu.fresh(h:mu H l t Bs N)(e:af H J):mu J l t Bs N:=by
 obtain⟨j,d,w,gc,g,r,x,z,T,G,rfl,a,m,c,v⟩:=h;exact⟨j,d,w,gc,g,r,x,z,T,G,rfl,a.fresh e,m.fresh e,c,fun b y=>alp (v b y) e.size⟩
theorem mu.grow(h:mu H l t Bs N)(e:af H J):mu J l t (jx Bs H J) (N+1):=by
 obtain⟨p,o,c,gc,j,d,a,m,T,G,rfl,v,g,y,r⟩:=h;refine⟨p,o,c,gc,j,d,a,m,T,G,rfl,?_,(g.fresh e).mono fun b x=>.inl x,y,fun b x=>?_⟩
 ·obtain⟨_,_,_,_,q,a1,a2,a3,a4,z,w,f,u⟩:=(v.fresh e).mono (B2:=jx Bs H J) fun b x=>.inl x;exact⟨_,_,_,_,q,a1,a2,a3,a4,z,w,O,O⟩
 ·rcases x with x|x
  ·exact alp (r b x) e.size
  omega
theorem mu.wr{x:Hp}{p:Nat}(h:mu x l t (fun b=>Bs b\/(lo<=b/\b<x.size)) N)(o:∀b,Bs b->b<H.size)(d:H.size<=p)(q:p<lo)(l':List Value):mu (x.wr p l') l t (fun b=>Bs b\/(lo<=b/\b< (x.wr p l').size)) N:=by
 obtain⟨r,j,a,gc,m,c,z,w,T,G,rfl,v,e,g,y⟩:=h;have key:∀b,(Bs b\/(lo<=b/\b<x.size))->¬b=p:=Z;rw[bE];exact⟨r,j,a,gc,m,c,z,w,T,G,rfl,v.ext (bT _ _ _) key,e.ext (bT _ _ _) key,g,by rw[bE];exact y⟩
theorem mu.mono{B2:Nat->Prop}(h:mu H l t Bs N)(x:∀b,Bs b->B2 b)(c:∀b,B2 b->b<H.size):mu H l t B2 N:=by
 obtain⟨r,j,a,gc,m,v,z,w,T,G,rfl,e,g,y,d⟩:=h;exact⟨r,j,a,gc,m,v,z,w,T,G,rfl,e.mono x,g.mono x,y,c⟩
theorem mu.gr{E:Hp}(h:mu E l t (fun b=>Bs b\/(lo<=b/\b<E.size)) N)(c:H.size<=lo):mu E l t (jx Bs H E) N:=by
 have z:=h;obtain⟨d,p,m,gc,v,e,w,a,T,G,rfl,g,y,r,j⟩:=h;exact z.mono (fun b x=>x.imp_right fun h=>O) fun b x=>by
  rcases x with x|x
  ·grind
  omega
theorem mu.up(h:mu H l t Bs N):mu H l t Bs (N+1):=by
 obtain⟨y,r,m,gc,v,g,w,a,T,G,rfl,c,q⟩:=h;obtain⟨_,_,_,_,e,a1,a2,a3,a4,x,z,j,d⟩:=c;exact⟨y,r,m,gc,v,g,w,a,T,G,rfl,⟨_,_,_,_,e,a1,a2,a3,a4,x,z,O,O⟩,q⟩
abbrev Tc(Bs:Nat->Prop)(N:Nat)(H:Hp)(p:jg×Rp)(v:Value)(J:Hp):Prop:=af H J/\∃l',v= .tuple [.agg l'.toArray,PW p.2].toArray/\mu J l' p.1 (jx Bs H J) (N+1)
theorem cZ{L:List Value}{p:jg×Rp}{b:Nat}(x:∀b,Bs b->b<H.size)(w:af H X)(o:mu X L p.1 (fun b=>Bs b\/(lo<=b/\b<X.size)) (N+1))(h:H.size<=a/\a<lo)(z:H.size<=b/\b<lo):
  Tc Bs N H p (.tuple [.agg L.toArray,PW p.2].toArray) ((X.wr a L).wr b (HT p.2)):=
 ⟨(w.then (bT X a L) O).then (bT _ b (HT p.2)) O,L,rfl,((o.wr x h.1 h.2 _).wr x z.1 z.2 _).gr O⟩
theorem mu.same(h:mu H l t Bs N)(w:af H X):mu X l t (fun b=>Bs b\/(lo<=b/\b<X.size)) (N+1):=by
 have z:∀b,Bs b->b<H.size:=by
  obtain⟨j,d,c,gc,y,r,a,m,T,G,rfl,v,e,g,z⟩:=h;exact z
 exact(h.fresh w|>.up).mono Z fun b x=>by
  rcases x with x|x
  ·have:=z b x;have:=w.size;omega
  omega
theorem D2{A:Ar}{T G:List (Int×Nat)}{v a m h:Option Addr}{e gc c z:Nat}{w:Nw}{B2:Nat->Prop}{q:Int}(p:∀b,Bs b->b<H.size)
  (d:EH H (eD A v T e a G gc) A T G Bs N)(g:af H X)(r:cm X (.agg (dR w m c h z).toArray) w B2)(o:∀b,B2 b->Bs b\/(lo<=b/\b<X.size))(k:Ci w A):
  mu X (gB A v T e a G gc w m c h z q) ⟨w,A,q⟩ (fun b=>Bs b\/(lo<=b/\b<X.size)) (N+1):=by
 refine⟨v,e,a,gc,m,c,h,z,T,G,rfl,?_,r.mono o,k,fun b x=>?_⟩
 ·obtain⟨_,_,_,_,q,a1,a2,a3,a4,y,j,f,u⟩:=(d.fresh g).mono (B2:=fun b=>Bs b\/(lo<=b/\b<X.size)) fun b x=>.inl x;exact⟨_,_,_,_,q,a1,a2,a3,a4,y,j,O,O⟩
 ·rcases x with x|x
  ·have:=p b x;have:=g.size;omega
  omega
theorem BS(h:mu H l t Bs N)(q:N<=100000)(x:Int)(g:Nat):aD 53 [.agg l.toArray,dZ x g] H fun v J=>ak (v=PW (JU t x g)/\af H J):=by
 obtain⟨X,tc,W,gc,V,D,Q,U,T,G,rfl,d,p,c,I⟩:=h;refine aL G9 ?_;refine vs ?_;refine LA fun B m b0 e r z0=>?_;refine(fx (d.fresh m) q x g).mono ?_;rintro _ P ⟨rfl,z⟩;have a:=z.own r (fun h=>h);unfold JU;by_cases w:t.A.yC x g
 ·rw[ale w,if_neg (fun h=>h w)];obtain⟨y,f,u,y2,y3⟩:=c.nl w.1;have E:=(c.live x).2 w.1|>.1;obtain⟨L,o,l,rfl,j,A,c3,c4,c5,C,K,F⟩:=bD.cell ((p.cells.2.1.fresh m).fresh z) f;have M:=O;refine v2 (ae (z.own b0 (fun h=>h))) (ae (z.own e (fun h=>h))) ?_;refine⟨O,?_⟩;refine v4 j Nat.add_zero c4 a ?_;simp(disch:=(first|exact aV|fail)) only[go_sem, ↓reduceIte,Zv,ci a];rw[u];exact⟨rfl,(m.trans z).then (bT _ _ _) O⟩
 ·rw[alc w,if_pos w];refine v1 a ?_;simp(disch:=(first|exact aV|fail)) only[go_sem, ↓reduceIte,Zv,ci a];exact⟨rfl,(m.trans z).then (bT _ _ _) O⟩
theorem D3(h:mu H l t Bs N)(q:N<=100000)(x:Int)(g:Nat):aD 52 [.agg l.toArray,dZ x g] H fun v J=>ak (v=PW (JT t x g)/\af H J):=by
 obtain⟨E,X,W,gc,V,D,Q,U,T,G,rfl,d,p,e,I⟩:=h;refine aL I8 ?_;refine vs ?_;refine LA fun B m b0 r j z0=>?_;refine(fx (d.fresh m) q x g).mono ?_;rintro _ P ⟨rfl,z⟩;have a:=z.own j (fun h=>h);unfold JT;by_cases w:t.A.yC x g
 ·rw[ale w,if_neg (fun h=>h w)];obtain⟨y,f,y1,u,y3⟩:=e.nl w.1;have M:=(e.live x).2 w.1|>.1;obtain⟨L,o,l,rfl,c,A,c3,c4,c5,C,K,F⟩:=bD.cell ((p.cells.2.1.fresh m).fresh z) f;refine v3 (ae (z.own b0 (fun h=>h))) (ae (z.own r (fun h=>h))) c ?_;refine⟨O,?_⟩;refine v3 c c5 a ?_;simp(disch:=(first|exact aV|fail)) only[go_sem, ↓reduceIte,Zv,ci a];rw[u];exact⟨rfl,(m.trans z).then (bT _ _ _) O⟩
 ·rw[alc w,if_pos w];refine v1 a ?_;simp(disch:=(first|exact aV|fail)) only[go_sem, ↓reduceIte,Zv,ci a];exact⟨rfl,(m.trans z).then (bT _ _ _) O⟩
theorem D4(h:mu H l t Bs N)(g:Int):aD 51 [.agg l.toArray,i64 g] H fun v J=>ak (v=PW (JS t g)/\af H J):=by
 obtain⟨A,C,o,gc,P,L,p,q,T,G,rfl,f,e,u,B⟩:=h;refine aL I7 ?_;refine vs ?_;refine UL fun r z b0 y K=>?_;refine(dq (e.fresh z) g).mono ?_;rintro _ j ⟨rfl,x⟩;have a:=x.own y (fun h=>h);unfold JS;by_cases w:t.w.has g
 ·rw[ale w,if_neg (fun h=>h w)];refine v1 (ae (x.own b0 (fun h=>h))) ?_;refine(Dm ((e.fresh z).fresh x) g).mono ?_;rintro _ d ⟨rfl,c⟩;have m:=c.own a (fun h=>h);refine v1 m ?_;simp(disch:=(first|exact aV|fail)) only[go_sem, ↓reduceIte,Zv,ci m];exact⟨rfl,((z.trans x).trans c).then (bT _ _ _) O⟩
 ·rw[alc w,if_pos w];refine v1 a ?_;simp(disch:=(first|exact aV|fail)) only[go_sem, ↓reduceIte,Zv,ci a];exact⟨rfl,(z.trans x).then (bT _ _ _) O⟩
theorem sR(h:mu H l t Bs N)(Q:N<=100000)(g:Int):aD 46 [.agg l.toArray,i64 g] H fun v J=>ak (v=PW (eA t g)/\af H J):=by
 obtain⟨ta,tc,ga,gc,ha,hc,ca,cc,T,G,rfl,F,q,f,h4⟩:=h;refine aL I6 ?_;refine vs ?_;refine UL fun V w b0 L z0=>?_;refine(dq (q.fresh w) g).mono ?_;rintro _ D ⟨rfl,z⟩;have p:=z.own L (fun h=>h);unfold eA;by_cases r:t.w.has g
 ·rw[ale r,if_neg (fun h=>h r)];refine v1 (ae (z.own b0 (fun h=>h))) ?_;refine(DY ((q.fresh w).fresh z) g).mono ?_;rintro _ M ⟨rfl,c⟩;have m:=c.own p (fun h=>h);cases U:t.w.y7 g with
  |none=>
   refine v1 m ?_;simp(disch:=(first|exact aV|fail)) only[go_sem, ↓reduceIte,Zv,ci m];exact⟨rfl,((w.trans z).trans c).then (bT _ _ _) O⟩
  |some x=>
   have u:t.A.live x:=by
    obtain⟨Nl,hh,_⟩:=bh.1 (D1 U);exact(f.live x).1 (bf.1 O)
   have j:=(w.trans z).trans c;have P:=(z.trans c).own b0 (fun h=>h);refine v1 (ae P) ?_;refine(FI (F.fresh j) Q u).mono ?_;rintro _ d ⟨rfl,a⟩;obtain⟨e,A,z4⟩:=lR d 52 cB [i64 x,.int .u32 (t.A.be x:Int)];have z3:=aB (a.own m (fun h=>h));refine vs ?_;generalize (d.new 52 cB).wr d.size [i64 x,.int .u32 (t.A.be x:Int)]=E at*;obtain⟨y,W,y1,I,y3⟩:=f.nl u;have j4:=(f.live x).2 u|>.1;obtain⟨X,o,l,rfl,C,d2,d3,d4,K,d6,d7,d8⟩:=bD.cell ((q.cells.2.1.fresh j).fresh (a.trans e)) W;have B:=(a.trans e).own m (fun h=>h);refine v2 (ae A) (ae ((a.trans e).own P (fun h=>h))) ?_;refine⟨O,?_⟩;refine v3 C K B ?_;simp(disch:=(first|exact aV|fail)) only[go_sem, ↓reduceIte,Zv,ci B];rw[I];exact⟨rfl,(j.trans (a.trans e)).then (bT _ _ _) O⟩
 ·rw[alc r,if_pos r];refine v1 p ?_;simp(disch:=(first|exact aV|fail)) only[go_sem, ↓reduceIte,Zv,ci p];exact⟨rfl,(w.trans z).then (bT _ _ _) O⟩
theorem sS(h:mu H l t Bs N)(hN:N<=100000){g:Nat}(L:t.A.yC x g):aD 81 [.agg l.toArray,dZ x g] H fun v J=>ak (af H J/\∃l',v= .agg l'.toArray/\mu J l' (yD t x) (jx Bs H J) (N+1)):=by
 obtain⟨e,r,c,gc,ha,hc,ca,cc,T,G,rfl,h1,h2,W,I⟩:=h;refine aL Jc ?_;refine vs ?_;refine LA fun H0 P b0 A M z0=>?_;refine(Bw (h2.fresh P) Z x).mono ?_;rintro _ H1 ⟨j,⟨hn,_⟩| ⟨mj,v',rfl,V⟩⟩
 ·exact absurd ((W.live x).2 L.1) hn
 obtain⟨a,m,z,w,rfl⟩:=V.val;have C:=j.own b0 (fun h=>h);have z1:=j.size;refine v2 C (ae (j.own A (fun h=>h))) ?_;have fA:=(P.trans j).then (bT H1 H.size (gB t.A e T r c G gc (t.w.put x (0,0,0)) a m z w t.q)) O;have a2:EH (H1.wr H.size (gB t.A e T r c G gc (t.w.put x (0,0,0)) a m z w t.q)) (eD t.A e T r c G gc) t.A T G Bs N:=(h1.fresh (P.trans j)).ext (bT H1 H.size _) Z;have r2:=V.ext (bT H1 H.size (gB t.A e T r c G gc (t.w.put x (0,0,0)) a m z w t.q)) (fun b B h=>by
  rcases B with B|B
  ·grind
  ·omega)
 have K:(H1.wr H.size (gB t.A e T r c G gc (t.w.put x (0,0,0)) a m z w t.q)).own H.size=some (gB t.A e T r c G gc (t.w.put x (0,0,0)) a m z w t.q):=ah C;have E:(H1.wr H.size (gB t.A e T r c G gc (t.w.put x (0,0,0)) a m z w t.q)).own (H.size+1)=some [i64 x,.int .u32 (g:Int)]:=by rw[aG O];exact j.own A (fun h=>h)
 have X:(H1.wr H.size (gB t.A e T r c G gc (t.w.put x (0,0,0)) a m z w t.q)).own (H.size+1+1)=some IY:=by rw[aG O];exact j.own M (fun h=>h)
 have z2:(H1.wr H.size (gB t.A e T r c G gc (t.w.put x (0,0,0)) a m z w t.q)).size=H1.size:=bE ..
 refine v2 (ae K) (ae E) ?_;generalize H1.wr H.size (gB t.A e T r c G gc (t.w.put x (0,0,0)) a m z w t.q)=H2 at*;refine(BR a2 hN x g).mono ?_;rintro _ f ⟨u,U⟩;rw[if_pos L]at U;obtain⟨l',rfl,D⟩:=U;obtain⟨q,o,d,p,rfl,_⟩:=id D;have z3:=u.size;have F:=u.own K (fun h=>h);have Q:=u.own X (fun h=>h);refine v1 F ?_;have g0:(f.wr H.size (gB (t.A.back x) q T o d (G++[(x,g)]) p (t.w.put x (0,0,0)) a m z w t.q)).own H.size=some (gB (t.A.back x) q T o d (G++[(x,g)]) p (t.w.put x (0,0,0)) a m z w t.q):=ah F;have g2:(f.wr H.size (gB (t.A.back x) q T o d (G++[(x,g)]) p (t.w.put x (0,0,0)) a m z w t.q)).own (H.size+1+1)=some IY:=by rw[aG O];exact Q
 refine v2 (ae g0) Q ?_;simp(disch:=(first|exact aV|fail)) only[go_sem, ↓reduceIte,Zv,ci g2];have fB:=((fA.trans u).then (bT f H.size (gB (t.A.back x) q T o d (G++[(x,g)]) p (t.w.put x (0,0,0)) a m z w t.q)) O).then (bT _ (H.size+1+1) (gB (t.A.back x) q T o d (G++[(x,g)]) p (t.w.put x (0,0,0)) a m z w t.q)) O;have o3:mu f (gB (t.A.back x) q T o d (G++[(x,g)]) p (t.w.put x (0,0,0)) a m z w t.q) (yD t x) (fun b=>Bs b\/(H.size+3<=b/\b<f.size)) (N+1):=
  ⟨q,o,d,p,a,m,z,w,T,G++[(x,g)],rfl,D.mono Z,(r2.fresh u).mono fun b B=>B.imp_right fun h=>O,W.put (Ar.kN L.1) (y:=(0,0,0)) (v:=t.A.be x) rfl,Z⟩
 exact⟨fB,_,rfl,((o3.wr I O O _).wr I O O _).gr O⟩
theorem wI(h:mu H l t Bs N)(hp:0<t.w.hs.length):aD 44 [.agg l.toArray] H fun v J=>ak (Tc Bs N H (DX t) v J):=by
 have hh:=h;obtain⟨g,y,e,gc,ha,hc,E,cc,T,G,rfl,h1,h2,V,P⟩:=h;refine aL A9 ?_;refine vs ?_;refine LA fun H0 f b0 D M z0=>?_;refine(Bx (h2.fresh f) Z).mono ?_;rintro _ j ⟨r,e1⟩;have F:=r.own b0 (fun h=>h);have Q:=r.own D (fun h=>h);have U:=r.own M (fun h=>h);have z1:=r.size;unfold DX;rcases e1 with ⟨C,v',rfl,L⟩| ⟨C,v',rfl,L⟩
 ·rw[if_pos C];obtain⟨w,m,x,z,rfl⟩:=L.val;obtain⟨c,K,z3⟩:=lR j 37 [.slice none 0 0,.slice none 0 0] (dR t.w w m x z);refine vs ?_;generalize (j.new 37 [.slice none 0 0,.slice none 0 0]).wr j.size (dR t.w w m x z)=X at*;have d:=c.own Q (fun h=>h);have o:=c.own U (fun h=>h);simp only[alr];refine v3 (ae (c.own F (fun h=>h))) d o ?_;have B:(X.wr (H.size+1) (gB t.A g T y e G gc t.w ha hc E cc t.q)).own (H.size+1+1)=some AR:=by rw[aG O];exact o
  simp(disch:=(first|exact aV|fail)) only[go_sem, ↓reduceIte,Zv,ci d,ci B];have u:=(f.trans r).trans c;exact cZ (lo:=H.size+3) (a:=H.size+1) (b:=H.size+1+1) (p:=(t,er 32)) P u (hh.same u (lo:=H.size+3)) O O
 ·rw[if_neg C];obtain⟨w,m,x,z,rfl⟩:=L.val;obtain⟨c,K,z3⟩:=lR j 37 [.slice none 0 0,.slice none 0 0] (dR t.w.make w m x z);refine vs ?_;generalize hX:(j.new 37 [.slice none 0 0,.slice none 0 0]).wr j.size (dR t.w.make w m x z)=X at*;have d:=c.own Q (fun h=>h);have o:=c.own U (fun h=>h);have W:=c.own F (fun h=>h);have zX:=c.size;have r2:=L.fresh c;rw[alc O];refine v2 (ae K) W ?_;have u:=((f.trans r).trans c).then (bT X H.size (gB t.A g T y e G gc t.w.make w m x z t.q)) O;have g0:(X.wr H.size (gB t.A g T y e G gc t.w.make w m x z t.q)).own H.size=some (gB t.A g T y e G gc t.w.make w m x z t.q):=ah W;have I:(X.wr H.size (gB t.A g T y e G gc t.w.make w m x z t.q)).own (H.size+1)=some IY:=by rw[aG O];exact d
  have B:(X.wr H.size (gB t.A g T y e G gc t.w.make w m x z t.q)).own (H.size+1+1)=some AR:=by rw[aG O];exact o
  refine v3 (ae g0) I B ?_;have o0:=D2 (q:=t.q) (lo:=H.size+3) P h1 ((f.trans r).trans c) r2 (fun b A=>by
   rcases A with A|A
   ·grind
   omega) ⟨V.len,V.live⟩
  have oX:=o0.wr (p:=H.size) P O O (gB t.A g T y e G gc t.w.make w m x z t.q);generalize X.wr H.size (gB t.A g T y e G gc t.w.make w m x z t.q)=ak6 at*;have k2:(ak6.wr (H.size+1) (gB t.A g T y e G gc t.w.make w m x z t.q)).own (H.size+1+1)=some AR:=by rw[aG O];exact B
  simp(disch:=(first|exact aV|fail)) only[go_sem, ↓reduceIte,Zv,ci I,ci k2];exact cZ (lo:=H.size+3) (a:=H.size+1) (b:=H.size+1+1) (p:=(⟨t.w.make,t.A,t.q⟩,⟨0,t.w.hs.length,0,0,0,0⟩)) P u oX O O
theorem RV(k:Ci t.w t.A)(h:(eA t g).c=0):t.A.yC (eA t g).s (eA t g).g:=by
 unfold eA at h ⊢;split
 ·rename_i z;rw[if_pos z]at h;cases h
 ·rename_i z;rw[if_neg z]at h;cases w:t.w.y7 g with
  |none=>rw[w]at h;cases h
  |some x=>
   obtain⟨a,m,_⟩:=bh.1 (D1 w);exact⟨(k.live x).1 (bf.1 O),rfl⟩
theorem yG(h:mu H l t Bs N)(hN:N<=100000)(Ll:∀x,t.A.be x<4294967295)(hq:0<=t.q/\t.q<18446744073709551615)(g k:Int):aD 45 [.agg l.toArray,i64 g,i64 k] H fun v J=>ak (Tc Bs N H (FE t g k) v J):=by
 have hh:=h;obtain⟨I,V,U,gc,ha,hc,ca,cc,T,G,rfl,h1,h2,h3,h4⟩:=h;refine aL CO ?_;refine vs ?_;refine LA fun H0 f0 b0 b1 b2 z0=>?_;refine(dq (h2.fresh f0) g).mono ?_;rintro _ X ⟨rfl,j⟩;have Q:=f0.trans j;have M:=j.own b0 (fun h=>h);have E:=j.own b1 (fun h=>h);have c2:=j.own b2 (fun h=>h);have z1:=j.size;unfold FE;by_cases c:t.w.has g
 ·rw[ale c,if_neg (fun h=>h c)];refine v1 (ae M) ?_;refine(BQ (h1.fresh Q) hN Ll).mono ?_;rintro _ m ⟨d,w⟩;have z2:=d.size;have YH:=Q.trans d;have k0:=d.own M (fun h=>h);have k1:=d.own E (fun h=>h);have k2:=d.own c2 (fun h=>h);cases hp:t.A.pick with
  |none=>
   rw[hp]at w;dsimp only at w;subst w;obtain⟨z,m1,m2,z3⟩:=Qa m 33 52 wR cB (eD t.A I T V U G gc) [i64 0,.int .u32 ((0:Nat):Int)];refine vs ?_;generalize (((m.new 33 wR).new 52 cB).wr m.size (eD t.A I T V U G gc)).wr (m.size+1) [i64 0,.int .u32 ((0:Nat):Int)]=ak6 at*;have q:=YH.trans z;have K:=z.own k1 (fun h=>h);have F:=z.own k2 (fun h=>h);rw[show decide ((32:Int)=0)=false from rfl];refine v3 (ae (z.own k0 (fun h=>h))) K F ?_;have o:(ak6.wr (H.size+1) (gB t.A I T V U G gc t.w ha hc ca cc t.q)).own (H.size+1+1)=some AR:=by rw[aG O];exact F
   simp(disch:=(first|exact aV|fail)) only[go_sem, ↓reduceIte,Zv,ci K,ci o];exact cZ (lo:=H.size+3) (a:=H.size+1) (b:=H.size+1+1) (p:=(t,er 32)) h4 q (hh.same q (lo:=H.size+3)) O O
  |some xA=>
   obtain⟨x,A'⟩:=xA;rw[hp]at w;dsimp only at w;obtain⟨l',rfl,a3⟩:=w;obtain⟨A,C,f,u,rfl,_⟩:=id a3;obtain⟨z,m1,m2,z3⟩:=Qa m 33 52 wR cB (eD (A'.out x) A (T++[(x,t.A.be x+1)]) C f G u) [i64 x,.int .u32 ((t.A.be x+1:Nat):Int)];refine vs ?_;generalize Ns:m.size=c8 at*;generalize (((m.new 33 wR).new 52 cB).wr c8 (eD (A'.out x) A (T++[(x,t.A.be x+1)]) C f G u)).wr (c8+1) [i64 x,.int .u32 ((t.A.be x+1:Nat):Int)]=ak6 at*;have q:=YH.trans z;have d0:=z.own k0 (fun h=>h);have K:=z.own k1 (fun h=>h);have F:=z.own k2 (fun h=>h);have Ww:=Ar.oG hp (by obtain⟨_,_,_,_,_,_,_,_,_,_,ok,_⟩:=h1;exact ok);rw[show decide True=true from rfl];refine v2 (ae d0) (ae m2) ?_;rw[eG O O];refine(Dl (h2.fresh q) Z g x k (t.q+1)).mono ?_;rintro _ D ⟨f5,⟨hn,_⟩| ⟨_,v',rfl,r5⟩⟩
   ·exact absurd ⟨c,by rw[h3.len];omega,fun h=>Ww.2.1 ((h3.live x).1 h)⟩ hn
   obtain⟨B,L,e,r,rfl⟩:=r5.val;obtain⟨f6,m3,z6⟩:=lR D 37 [.slice none 0 0,.slice none 0 0] (dR (t.w.put x (g,k,t.q+1)) B L e r);refine vs ?_;generalize Oy:D.size=cx at*;generalize (D.new 37 [.slice none 0 0,.slice none 0 0]).wr cx (dR (t.w.put x (g,k,t.q+1)) B L e r)=W at*;have f56:=f5.trans f6;have fW:=q.trans f56;have e8:=f56.own m1 (fun h=>h);have e9:=f56.own m2 (fun h=>h);have e0:=f56.own d0 (fun h=>h);have e1:=f56.own K (fun h=>h);have w:=f56.own F (fun h=>h);have z5:=f5.size;refine di.intro (fun J=>J.own (c8+1)=some [i64 x,.int .u32 ((t.A.be x+1:Nat):Int)]) e9 ?_;refine vs ?_;refine bG.intro (.agg [i64 x,.int .u32 ((t.A.be x+1:Nat):Int)].toArray) (fun J hI=>?_) ?_
   ·refine v1 (ae hI) ?_;trivial
   refine vs ?_;have ex:IntKind.u64.wrap (t.q+1)=t.q+1:=eG O O;have o:(W.wr (H.size+1) (gB (A'.out x) A (T++[(x,t.A.be x+1)]) C f G u (t.w.put x (g,k,t.q+1)) B L e r (t.q+1))).own (H.size+1+1)=some AR:=by rw[aG O];exact w
   have z6':=f6.size;have oW:mu W (gB (A'.out x) A (T++[(x,t.A.be x+1)]) C f G u (t.w.put x (g,k,t.q+1)) B L e r (t.q+1)) ⟨t.w.put x (g,k,t.q+1),A'.out x,t.q+1⟩ (fun b=>Bs b\/(H.size+3<=b/\b<W.size)) (N+1):=by
    refine⟨A,C,f,u,B,L,e,r,T++[(x,t.A.be x+1)],G,rfl,(a3.fresh (z.trans f56)).mono fun b P=>?_,(r5.fresh f6).mono fun b P=>?_,h3.put Ww.1 (y:=(g,k,t.q+1)) (v:=t.A.be x+1) ?_,fun b P=>?_⟩
    ·grind
    ·rcases P with P|P
     ·grind
     omega
    ·show A'.g.set x.toNat (A'.be x+1,true)=_;rw[Ww.2.2.2.2.1,ale (show(0:Int)<g by have:=c.1;omega)];unfold Ar.be;grind
    ·grind
   repeat' (first|exact e9|refine ry.intro ?_ ?_|simp(disch:=(first|exact aV|fail)) only[go_sem, ↓reduceIte,Zv,ae e8,ae e0,ae m3,ex,e1,w])
   all_goals
    simp(disch:=(first|exact aV|fail)) only[go_sem, ↓reduceIte,Zv,ci e1,ci o];exact cZ (lo:=H.size+3) (a:=H.size+1) (b:=H.size+1+1) (p:=(⟨t.w.put x (g,k,t.q+1),A'.out x,t.q+1⟩,⟨0,0,x,t.A.be x+1,0,0⟩)) h4 fW oW O O
 ·rw[alc c,if_pos c];simp(disch:=(first|exact aV|fail)) only[go_sem, ↓reduceIte,Zv,ae M,E,c2];have o:(X.wr (H.size+1) (gB t.A I T V U G gc t.w ha hc ca cc t.q)).own (H.size+1+1)=some AR:=by rw[aG O];exact c2
  simp(disch:=(first|exact aV|fail)) only[go_sem, ↓reduceIte,Zv,ci E,ci o];exact cZ (lo:=H.size+3) (a:=H.size+1) (b:=H.size+1+1) (p:=(t,er 171)) h4 Q (hh.same Q (lo:=H.size+3)) O O
theorem qW(h:mu H l t Bs N)(M:N<=100000)(g:Int):aD 47 [.agg l.toArray,i64 g] H fun v J=>ak (Tc Bs N H (yE t g) v J):=by
 have F:=h;obtain⟨o,f,j,gc,d,q,c,e,T,G,rfl,h1,h2,h3,D⟩:=h;refine aL vy ?_;refine vs ?_;refine LA fun H0 V b0 b1 b2 z0=>?_;refine(sR (F.fresh V) M g).mono ?_;rintro _ B ⟨rfl,y⟩;obtain⟨r,w,z3⟩:=lR B 54 AR (HT (eA t g));have z1:=y.size;refine vs ?_;generalize hX1:B.size=Q at*;generalize (B.new 54 AR).wr Q (HT (eA t g))=X at*;have u:=(V.trans y).trans r;have m:=(y.trans r).own b0 (fun h=>h);have P:=(y.trans r).own b1 (fun h=>h);have L:=(y.trans r).own b2 (fun h=>h);refine v1 (ae w) ?_;refine ai.dec (fun he=>?_) (fun ny=>?_)<;>refine vs ?_
 ·refine di.intro (fun J=>J.own H.size=some (gB t.A o T f j G gc t.w d q c e t.q)/\J.own Q=some (HT (eA t g))) ⟨m,w⟩ ?_;refine vs ?_;refine bG.intro (.agg (gB t.A o T f j G gc t.w d q c e t.q).toArray) (fun J z=>?_) ?_
  ·refine v1 (ae z.1) ?_;trivial
  refine vs ?_;refine bG.intro (dZ (eA t g).s (eA t g).g) (fun J z=>?_) ?_
  ·refine v1 (ae z.2) ?_;trivial
  refine vs ?_;refine bG.intro (PW (eA t g)) (fun J z=>?_) ?_
  ·refine v1 (ae z.2) ?_;trivial
  refine vs ?_;have hl:=RV h3 he;have A:yE t g=(yD t (eA t g).s,eA t g):=by unfold yE;grind
  rw[A];refine(sS (F.fresh u) M hl).mono ?_;rintro _ U ⟨x,l',rfl,E⟩;obtain⟨RW,RX,RY,RZ,R0,F3,R1,Km,T',G',rfl,_⟩:=id E;refine⟨⟨x.own m (fun h=>h),x.own w (fun h=>h)⟩,?_⟩;have W:=x.own P (fun h=>h);have I:=x.own L (fun h=>h);refine v1 W ?_;refine⟨⟨x.own m (fun h=>h),x.own w (fun h=>h)⟩,?_⟩;refine v1 I ?_;refine⟨⟨x.own m (fun h=>h),x.own w (fun h=>h)⟩,?_⟩;have C:(U.wr (H.size+1) (gB ((yD t (eA t g).s).A) RW T' RX RY G' RZ ((yD t (eA t g).s).w) R0 F3 R1 Km ((yD t (eA t g).s).q))).own (H.size+1+1)=some AR:=by rw[aG O];exact I
  simp(disch:=(first|exact aV|fail)) only[go_sem, ↓reduceIte,Zv,ci W,ci C];have z3':=x.size;have z2':=r.size;exact cZ (lo:=H.size+3) (a:=H.size+1) (b:=H.size+1+1) (p:=(yD t (eA t g).s,eA t g)) D (u.trans x) (E.mono (B2:=fun b=>Bs b\/(H.size+3<=b/\b<U.size)) (fun b K=>by
   rcases K with K|K
   ·grind
   omega) Z) O O
 ·have A:yE t g=(t,eA t g):=by unfold yE;grind
  rw[A];refine di.intro (fun J=>J.own H.size=some (gB t.A o T f j G gc t.w d q c e t.q)/\J.own Q=some (HT (eA t g))) ⟨m,w⟩ ?_;refine vs ?_;refine bG.intro (.agg (gB t.A o T f j G gc t.w d q c e t.q).toArray) (fun J z=>?_) ?_
  ·refine v1 (ae z.1) ?_;trivial
  refine vs ?_;refine bG.intro (PW (eA t g)) (fun J z=>?_) ?_
  ·refine v1 (ae z.2) ?_;trivial
  refine v1 P ?_;refine⟨⟨m,w⟩,?_⟩;refine v1 L ?_;refine⟨⟨m,w⟩,?_⟩;have C:(X.wr (H.size+1) (gB t.A o T f j G gc t.w d q c e t.q)).own (H.size+1+1)=some AR:=by rw[aG O];exact L
  simp(disch:=(first|exact aV|fail)) only[go_sem, ↓reduceIte,Zv,ci P,ci C];exact cZ (lo:=H.size+3) (a:=H.size+1) (b:=H.size+1+1) (p:=(t,eA t g)) D u (F.same u (lo:=H.size+3)) O O
theorem yH(h:mu H l t Bs N)(E:N<=100000)(x:Int)(g:Nat):aD 49 [.agg l.toArray,dZ x g] H fun v J=>ak (Tc Bs N H (FG t x g) v J):=by
 have hh:=h;obtain⟨K,F,B,gc,L,C,ca,j,T,G,rfl,h1,D,M,P⟩:=h;refine aL CP ?_;refine vs ?_;refine UM fun H0 V b0 bx b1 b2 z0=>?_;refine(fx (h1.fresh V) E x g).mono ?_;rintro _ X ⟨rfl,c⟩;have r:=V.trans c;have d:=c.own b0 (fun h=>h);have U:=c.own bx (fun h=>h);have q:=c.own b1 (fun h=>h);have f:=c.own b2 (fun h=>h);have z1:=c.size;unfold FG;by_cases m:t.A.yC x g
 ·rw[ale m,if_neg (fun h=>h m)];refine vs ?_;obtain⟨y,hy,y1,y2,y3⟩:=M.nl m.1;have j4:=(M.live x).2 m.1|>.1;have La:=D.cells.2.2;obtain⟨e,o,lc,rfl,q1,q2,q3,q4,q5,q6,q7,q8⟩:=bD.cell ((D.cells.2.1.fresh r)) hy;refine di.intro (fun J=>J.own H.size=some (gB t.A K T F B G gc t.w L C (some ⟨e,o,none⟩) j t.q)/\J.own (H.size+1)=some [i64 x,.int .u32 (g:Int)]/\J.rd e=some lc) ⟨d,U,q1⟩ ?_;refine vs ?_;refine bG.intro (.agg (gB t.A K T F B G gc t.w L C (some ⟨e,o,none⟩) j t.q).toArray) (fun J z=>?_) ?_
  ·refine v1 (ae z.1) ?_;trivial
  refine vs ?_;refine bG.intro (dZ x g) (fun J z=>?_) ?_
  ·refine v1 (ae z.2.1) ?_;trivial
  refine vs ?_;refine bG.intro (.slice (some ⟨e,o,none⟩) t.w.cs.length j) (fun J z=>?_) ?_
  ·refine v1 (ae z.1) ?_;grind
  refine vs ?_;refine bG.intro (i64 x) (fun J z=>?_) ?_
  ·refine v1 (ae z.2.1) ?_;grind
  refine vs ?_;refine⟨O,?_⟩;refine vs ?_;refine bG.intro (i64 y.2.1) (fun J z=>?_) ?_
  ·refine v2 z.2.2 q5 ?_;grind
  refine vs ?_;have Nb:e<H.size:=P _ (La _ rfl);refine(sS (hh.fresh r) E m).mono ?_;rintro _ Q ⟨w,l',rfl,o3⟩;obtain⟨RW,RX,RY,RZ,R0,F3,R1,Km,T',G',rfl,_⟩:=id o3;have inv:=And.intro (w.own d (fun h=>h)) (And.intro (w.own U (fun h=>h)) (w.rd q1 (fun h=>h)));refine⟨inv,?_⟩;have W:=w.own q (fun h=>h);have I:=w.own f (fun h=>h);refine v1 W ?_;refine⟨inv,?_⟩;refine v1 I ?_;refine⟨inv,?_⟩;have u:(Q.wr (H.size+1+1) (gB ((yD t x).A) RW T' RX RY G' RZ ((yD t x).w) R0 F3 R1 Km ((yD t x).q))).own (H.size+1+1+1)=some AR:=by rw[aG O];exact I
  simp(disch:=(first|exact aV|fail)) only[go_sem, ↓reduceIte,Zv,ci W,ci u];have z3':=w.size;rw[y2];exact cZ (lo:=H.size+4) (a:=H.size+1+1) (b:=H.size+1+1+1) (p:=(yD t x,⟨0,0,0,0,t.w.key x,0⟩)) P (r.trans w) (o3.mono (B2:=fun b=>Bs b\/(H.size+4<=b/\b<Q.size)) (fun b A=>by
   rcases A with A|A
   ·grind
   omega) Z) O O
 ·rw[alc m,if_pos m];refine v3 (ae d) q f ?_;have u:(X.wr (H.size+1+1) (gB t.A K T F B G gc t.w L C ca j t.q)).own (H.size+1+1+1)=some AR:=by rw[aG O];exact f
  simp(disch:=(first|exact aV|fail)) only[go_sem, ↓reduceIte,Zv,ci q,ci u];exact cZ (lo:=H.size+4) (a:=H.size+1+1) (b:=H.size+1+1+1) (p:=(t,er 33)) P r (hh.same r (lo:=H.size+4)) O O
theorem pL(h:mu H l t Bs N)(hN:N<=100000)(x:Int)(g:Nat)(k:Int):aD 48 [.agg l.toArray,dZ x g,i64 k] H fun v J=>ak (Tc Bs N H (FF t x g k) v J):=by
 have hh:=h;obtain⟨w,m,z,gc,ha,hc,ca,cc,T,G,rfl,h1,h2,E,A⟩:=h;refine aL tK ?_;refine vs ?_;refine UM fun H0 f0 b0 bx b1 b2 z0=>?_;refine(fx (h1.fresh f0) hN x g).mono ?_;rintro _ X ⟨rfl,f⟩;have K:=f0.trans f;have F:=f.own b0 (fun h=>h);have cx:=f.own bx (fun h=>h);have Q:=f.own b1 (fun h=>h);have U:=f.own b2 (fun h=>h);have z1:=f.size;unfold FF;by_cases d:t.A.yC x g
 ·rw[ale d,if_neg (fun h=>h d)];obtain⟨y,hy,y1,y2,y3⟩:=E.nl d.1;have mj:=(E.live x).2 d.1;have j4:=mj.1;obtain⟨bb,o,lc,rfl,q1,q2,q3,q4,q5,q6,q7,q8⟩:=bD.cell ((h2.cells.2.1.fresh K)) hy;obtain⟨P,m1,z2⟩:=lR X 148 ml [i64 y.2.1,u64 y.2.2];refine v2 (ae F) (ae cx) ?_;refine⟨O,?_⟩;refine v1 q1 ?_;refine⟨O,?_⟩;refine v1 q8 ?_;generalize (X.new 148 ml).wr X.size [i64 y.2.1,u64 y.2.2]=ak6 at*;have L:=K.trans P;have I:=P.own F (fun h=>h);have dx:=P.own cx (fun h=>h);have D:=P.own Q (fun h=>h);have M:=P.own U (fun h=>h);refine v1 (ae m1) ?_;refine ai.dec (fun hgt=>?_) (fun hle=>?_)
  ·rw[if_pos O];refine v3 (ae I) D M ?_;have B:(ak6.wr (H.size+1+1) (gB t.A w T m z G gc t.w ha hc (some ⟨bb,o,none⟩) cc t.q)).own (H.size+1+1+1)=some AR:=by rw[aG O];exact M
   simp(disch:=(first|exact aV|fail)) only[go_sem, ↓reduceIte,Zv,ci D,ci B];exact cZ (lo:=H.size+4) (a:=H.size+1+1) (b:=H.size+1+1+1) (p:=(t,er 173)) A L (hh.same L (lo:=H.size+4)) O O
  rw[if_neg O,<-y1,<-y3];refine v3 (ae I) (ae dx) (ae m1) ?_;refine(zJ (h2.fresh L) Z x k y.2.2).mono ?_;rintro _ W ⟨u,⟨hn,_⟩| ⟨_,y',C,_,v',rfl,r6⟩⟩
  ·exact absurd ⟨mj,fun y' C=>by
    rw[hy]at C;injection C with C;subst C;unfold dY;omega⟩ hn
  obtain rfl:y=y':=Z;obtain⟨r,j,c,e,rfl⟩:=r6.val;have z6:=u.size;have k0:=u.own I (fun h=>h);refine v1 k0 ?_;have k1:=u.own D (fun h=>h);have k2:=u.own M (fun h=>h);have fW:=(L.trans u).then (bT W H.size (gB t.A w T m z G gc (t.w.put x (y.1,k,y.2.2)) r j c e t.q)) O;have o6:=D2 (q:=t.q) (lo:=H.size+4) A h1 (L.trans u) r6 (fun b hb=>by
   rcases hb with hb|hb
   ·grind
   omega) (E.key d.1 hy)
  have oV:=o6.wr (p:=H.size) A O O (gB t.A w T m z G gc (t.w.put x (y.1,k,y.2.2)) r j c e t.q);have g0:(W.wr H.size (gB t.A w T m z G gc (t.w.put x (y.1,k,y.2.2)) r j c e t.q)).own H.size=some (gB t.A w T m z G gc (t.w.put x (y.1,k,y.2.2)) r j c e t.q):=ah k0;have g1:(W.wr H.size (gB t.A w T m z G gc (t.w.put x (y.1,k,y.2.2)) r j c e t.q)).own (H.size+1+1)=some IY:=by rw[aG O];exact k1
  have B:(W.wr H.size (gB t.A w T m z G gc (t.w.put x (y.1,k,y.2.2)) r j c e t.q)).own (H.size+1+1+1)=some AR:=by rw[aG O];exact k2
  refine v3 (ae g0) g1 B ?_;generalize W.wr H.size (gB t.A w T m z G gc (t.w.put x (y.1,k,y.2.2)) r j c e t.q)=V at*;have YI:(V.wr (H.size+1+1) (gB t.A w T m z G gc (t.w.put x (y.1,k,y.2.2)) r j c e t.q)).own (H.size+1+1+1)=some AR:=by rw[aG O];exact B
  simp(disch:=(first|exact aV|fail)) only[go_sem, ↓reduceIte,Zv,ci g1,ci YI];exact cZ (lo:=H.size+4) (a:=H.size+1+1) (b:=H.size+1+1+1) (p:=(⟨t.w.put x (y.1,k,y.2.2),t.A,t.q⟩,er 0)) A fW oV O O
 ·rw[alc d,if_pos d];refine v3 (ae F) Q U ?_;have B:(X.wr (H.size+1+1) (gB t.A w T m z G gc t.w ha hc ca cc t.q)).own (H.size+1+1+1)=some AR:=by rw[aG O];exact U
  simp(disch:=(first|exact aV|fail)) only[go_sem, ↓reduceIte,Zv,ci Q,ci B];exact cZ (lo:=H.size+4) (a:=H.size+1+1) (b:=H.size+1+1+1) (p:=(t,er 33)) A K (hh.same K (lo:=H.size+4)) O O
theorem BT(h:mu H l t Bs N)(hN:N<=100000)(a b:Int):aD 50 [.agg l.toArray,i64 a,i64 b] H fun v J=>ak (Tc Bs N H (FH t a b) v J):=by
 have hh:=h;obtain⟨z,w,x,gc,sa,E,I,D,T,G,rfl,h1,M,h3,o⟩:=h;refine aL G8 ?_;refine vs ?_;refine LA fun H0 f0 b0 b1 b2 z0=>?_;refine(dq (M.fresh f0) a).mono ?_;rintro _ X ⟨rfl,B⟩;have K:=f0.trans B;have F:=B.own b0 (fun h=>h);have Q:=B.own b1 (fun h=>h);have U:=B.own b2 (fun h=>h);have z1:=B.size;unfold FH;by_cases L:t.w.has a
 ·rw[ale L];refine v1 (ae F) ?_;refine(dq (M.fresh K) b).mono ?_;rintro _ ak6 ⟨rfl,P⟩;have j:=K.trans P;have C:=P.own F (fun h=>h);have f:=P.own Q (fun h=>h);have u:=P.own U (fun h=>h);have z2:=P.size;by_cases m:t.w.has b
  ·rw[ale m,if_neg Z];refine vs ?_;by_cases A:a=b
   ·rw[ale A,if_pos A];refine v3 (ae C) f u ?_;have g:(ak6.wr (H.size+1) (gB t.A z T w x G gc t.w sa E I D t.q)).own (H.size+1+1)=some AR:=by rw[aG O];exact u
    simp(disch:=(first|exact aV|fail)) only[go_sem, ↓reduceIte,Zv,ci f,ci g];exact cZ (lo:=H.size+3) (a:=H.size+1) (b:=H.size+1+1) (p:=(t,er 174)) o j (hh.same j (lo:=H.size+3)) O O
   rw[alc A,if_neg A];refine v1 (ae C) ?_;refine(By (M.fresh j) Z a b).mono ?_;rintro _ W ⟨d,⟨hn,_⟩| ⟨_,v',rfl,r6⟩⟩
   ·exact absurd ⟨L,m,A⟩ hn
   obtain⟨y,r,c,e,rfl⟩:=r6.val;have z6:=d.size;have k0:=d.own C (fun h=>h);refine v1 k0 ?_;have k1:=d.own f (fun h=>h);have k2:=d.own u (fun h=>h);have fW:=(j.trans d).then (bT W H.size (gB t.A z T w x G gc (t.w.join a b) y r c e t.q)) O;have o6:=D2 (q:=t.q) (lo:=H.size+3) o h1 (j.trans d) r6 (fun b m=>by
    rcases m with m|m
    ·grind
    omega) (h3.join L m)
   have oV:=o6.wr (p:=H.size) o O O (gB t.A z T w x G gc (t.w.join a b) y r c e t.q);have g0:(W.wr H.size (gB t.A z T w x G gc (t.w.join a b) y r c e t.q)).own H.size=some (gB t.A z T w x G gc (t.w.join a b) y r c e t.q):=ah k0;have g1:(W.wr H.size (gB t.A z T w x G gc (t.w.join a b) y r c e t.q)).own (H.size+1)=some IY:=by rw[aG O];exact k1
   have g:(W.wr H.size (gB t.A z T w x G gc (t.w.join a b) y r c e t.q)).own (H.size+1+1)=some AR:=by rw[aG O];exact k2
   refine v3 (ae g0) g1 g ?_;generalize W.wr H.size (gB t.A z T w x G gc (t.w.join a b) y r c e t.q)=V at*;have YI:(V.wr (H.size+1) (gB t.A z T w x G gc (t.w.join a b) y r c e t.q)).own (H.size+1+1)=some AR:=by rw[aG O];exact g
   simp(disch:=(first|exact aV|fail)) only[go_sem, ↓reduceIte,Zv,ci g1,ci YI];exact cZ (lo:=H.size+3) (a:=H.size+1) (b:=H.size+1+1) (p:=(⟨t.w.join a b,t.A,t.q⟩,er 0)) o fW oV O O
  ·rw[alc m,if_pos (fun h=>m h.2)];refine v3 (ae C) f u ?_;have g:(ak6.wr (H.size+1) (gB t.A z T w x G gc t.w sa E I D t.q)).own (H.size+1+1)=some AR:=by rw[aG O];exact u
   simp(disch:=(first|exact aV|fail)) only[go_sem, ↓reduceIte,Zv,ci f,ci g];exact cZ (lo:=H.size+3) (a:=H.size+1) (b:=H.size+1+1) (p:=(t,er 171)) o j (hh.same j (lo:=H.size+3)) O O
 ·rw[alc L,if_pos (fun h=>L h.1)];refine v3 (ae F) Q U ?_;have g:(X.wr (H.size+1) (gB t.A z T w x G gc t.w sa E I D t.q)).own (H.size+1+1)=some AR:=by rw[aG O];exact U
  simp(disch:=(first|exact aV|fail)) only[go_sem, ↓reduceIte,Zv,ci Q,ci g];exact cZ (lo:=H.size+3) (a:=H.size+1) (b:=H.size+1+1) (p:=(t,er 171)) o K (hh.same K (lo:=H.size+3)) O O
end
end
section
structure Bd(t:jg)(n:Nat):Prop where
 h0:0<t.w.hs.length
 h1:t.w.hs.length<=n+1
 g:∀x,t.A.be x<=n
 q0:0<=t.q
 q1:t.q<=n
variable {t : jg} {n : Nat}
theorem Bd.up(h:Bd t n):Bd t (n+1):=⟨h.h0,by have:=h.h1;omega,fun x=>by have:=h.g x;omega,h.q0,by have:=h.q1;omega⟩
theorem Mz(A:Ar)(x:Int)(v:Nat)(b:Bool)(w:List Int)(z:Nat)(h:Int)(mo:Nat)(y:Int):(Ar.mk (A.g.set x.toNat (v,b)) w z h mo).be y=v\/(Ar.mk (A.g.set x.toNat (v,b)) w z h mo).be y=A.be y:=by
 unfold Ar.be;simp only[alf];grind
theorem Qb{A A':Ar}{x:Int}(h:A.pick=some (x,A')):A'.g=A.g:=by
 unfold Ar.pick at h;grind
theorem Qc(h:Bd t n)(x:Int):Bd (yD t x) n:=by
 refine⟨h.h0,h.h1,fun y=>?_,h.q0,h.q1⟩;rcases Mz t.A x (t.A.be x) false (if t.A.be x<t.A.mo then t.A.wt++[x]else t.A.wt) t.A.nx (t.A.ct - 1) t.A.mo y with e|e
 ·exact alw (Nat.le_of_eq e) (h.g x)
 ·exact alw (Nat.le_of_eq e) (h.g y)
theorem YJ(h:Bd t n)(op a b:Nat)(k:Int):Bd (RU t op a b k).1 (n+1):=by
 unfold RU;split
 ·unfold DX;split
  ·exact h.up
  ·refine⟨?_,?_,h.up.g,h.q0,h.up.q1⟩
   ·show 0< (t.w.hs++[true]).length;simp
   ·show(t.w.hs++[true]).length<=_;have:=h.h1;simp;omega
 ·unfold FE;split
  ·exact h.up
  ·cases m:t.A.pick with
   |none=>exact h.up
   |some c=>
    obtain⟨x,A'⟩:=c;refine⟨h.h0,h.up.h1,fun y=>?_,by have:=h.q0;show 0<=t.q+1;omega,by have:=h.q1;show t.q+1<=((n+1:Nat):Int);omega⟩;have w:∀z,A'.be z=t.A.be z:=fun z=>by unfold Ar.be;rw[Qb m]
    rcases Mz A' x (A'.be x+1) true A'.wt A'.nx (A'.ct+1) A'.mo y with e|e
    ·refine alw (Nat.le_of_eq e) ?_;rw[w];have:=h.g x;omega
    ·refine alw (Nat.le_of_eq e) ?_;rw[w];have:=h.g y;omega
 ·exact h.up
 ·unfold yE;dsimp only;split
  ·exact(Qc h _).up
  ·exact h.up
 ·unfold FF;split
  ·exact h.up
  ·split
   ·exact h.up
   ·exact⟨h.h0,h.up.h1,h.up.g,h.q0,h.up.q1⟩
 ·unfold FG;split
  ·exact h.up
  ·exact(Qc h _).up
 ·unfold FH;split
  ·exact h.up
  ·split
   ·exact h.up
   ·refine⟨?_,?_,h.up.g,h.q0,h.up.q1⟩
    ·show 0< (t.w.hs.set _ _).length;rw[alb];exact h.h0
    ·show(t.w.hs.set _ _).length<=_;rw[alb];exact h.up.h1
 ·exact h.up
 ·exact h.up
 ·exact h.up
 ·exact h.up
end
end Go.Proofs.YtnanofhkpglbaaaGreatDoor
