/- Texts put behind each other. -/
import Derived.Test.YthpjfeolagohkaaGreatK98
import Derived.Test.YthpjfeolagohkaaGreatK3
import Derived.Test.YthpjfeolagohkaaGreatK19
import Derived.Test.YthpjfeolagohkaaGreatK23
import Derived.Test.YthpjfeolagohkaaGreatK27
import Derived.Test.YthpjfeolagohkaaGreatK29
import Derived.Test.YthpjfeolagohkaaGreatK32
import Derived.Test.YthpjfeolagohkaaGreatK33
set_option maxRecDepth 100000
set_option maxHeartbeats 8000000
set_option linter.unusedVariables false
set_option linter.unusedSimpArgs false
namespace Go.Proofs.YthpjfeolagohkaaGreat
open Go Go.Vc
theorem NY(n:Nat):xu (.iface 174 (ptr n)) (fun H S w=>∃st,dE H n S st w) where
 slt:=by rintro H S w ⟨st,h⟩;exact h.slt
 ext:=by rintro H H' S w T ⟨st,h⟩ e hd;exact⟨st,h.ext e hd⟩
 cells:=by
  rintro H S w ⟨st,c,C,rv,fr,fa,ps,at_,m,l,hS⟩
  exact⟨c,C,st,m.cells⟩
 has:=by
  rintro H S w g ⟨st,c,C,rv,fr,fa,ps,at_,m,l,hS⟩
  obtain⟨av,ho,_⟩:=m.own
  exact⟨_,_,bu,ptr c,rfl,fG (off:=0) (by kernel_rfl) (ae ho) rfl,(gK m.cells g).mono fun v H' hp=>hp⟩
 make:=by
  rintro H S w ⟨st,h⟩
  refine⟨_,_,pC,ptr n,rfl,br (by kernel_rfl),(Gm h).mono ?_⟩
  rintro v H' (⟨h1,rfl,rfl⟩| ⟨h1,rfl,S',h2,h3,h4⟩)
  ·exact .inl ⟨h1,rfl,cA.same ⟨st,h⟩ (ag.refl _ _)⟩
  ·exact .inr ⟨h1,rfl,S',⟨_,h2⟩,h3,h4⟩
 insert:=by
  rintro H S w g x k s ⟨st,h⟩
  refine⟨_,_,mO,ptr n,rfl,br (by kernel_rfl),(C3 h g x k s).mono ?_⟩
  rintro v H' (⟨h1,rfl,h2,h3⟩| ⟨h1,rfl,S',q,h2,_,h3,h4,h5⟩)
  ·exact .inl ⟨h1,rfl,cA.same ⟨st,h2⟩ h3⟩
  ·exact .inr ⟨h1,rfl,S',⟨_,h3⟩,h4,h5⟩
 min:=by
  rintro H S w g ⟨st,h⟩
  refine⟨_,_,rX,ptr n,rfl,br (by kernel_rfl),(xx h g).mono ?_⟩
  rintro v H' ⟨h1,rfl⟩
  rcases h1 with ⟨h1,rfl⟩| ⟨x,h2,rfl⟩
  ·exact .inl ⟨h1,rfl,cA.same ⟨st,h⟩ (ag.refl _ _)⟩
  ·exact .inr ⟨x,h2,rfl,cA.same ⟨st,h⟩ (ag.refl _ _)⟩
 extract:=by
  rintro H S w g ⟨st,h⟩
  refine⟨_,_,lK,ptr n,rfl,br (by kernel_rfl),(Bl h g).mono ?_⟩
  rintro v H' (⟨h1,rfl,rfl⟩| ⟨x,h1,rfl,q,hq,S',h5,h6,h7⟩)
  ·exact .inl ⟨h1,rfl,cA.same ⟨st,h⟩ (ag.refl _ _)⟩
  ·exact .inr ⟨x,h1,rfl,S',⟨_,h5⟩,h6,h7⟩
 nl:=by
  rintro H S w x k s ⟨st,h⟩
  refine⟨_,_,ke,ptr n,rfl,br (by kernel_rfl),(zj h x k s).mono ?_⟩
  rintro v H' (⟨h1,rfl,h2,h3⟩| ⟨h1,y,hy,h2,rfl,q,hq,S',h3,h4,h5⟩)
  ·exact .inl ⟨h1,rfl,cA.same ⟨st,h2⟩ (h3.mono fun _ _ h=>h.elim)⟩
  ·exact .inr ⟨⟨h1,fun z hz=>by rw[hy]at hz;injection hz with hz;rw[←hz];exact h2⟩,rfl,y,hy,S',⟨_,h3⟩,h4,h5⟩
 entry:=by
  rintro H S w x ⟨st,h⟩
  obtain⟨c,C,rv,fr,fa,ps,at_,m,l,hS⟩:=id h
  obtain⟨av,ho,_⟩:=m.own
  refine⟨_,_,ba,ptr c,rfl,fG (off:=0) (by kernel_rfl) (ae ho) rfl,(iP m.cells x).mono ?_⟩
  rintro v H' ⟨_,f,hv⟩
  exact⟨⟨st,h.fresh f⟩,f,hv⟩
theorem Gr(n:Nat)(d:Int):xu (.iface 150 (ptr n)) (fun H S w=>∃st,c9 H n S d st w) where
 slt:=by rintro H S w ⟨st,h⟩;exact h.slt
 ext:=by rintro H H' S w T ⟨st,h⟩ e hd;exact⟨st,h.ext e hd⟩
 cells:=by
  rintro H S w ⟨st,c,C,rv,fp,rs,m,l,hS⟩
  exact⟨c,C,st,m.cells⟩
 has:=by
  rintro H S w g ⟨st,c,C,rv,fp,rs,m,l,hS⟩
  exact⟨_,_,bu,ptr c,rfl,fG (off:=0) (by kernel_rfl) (ae m.own) rfl,(gK m.cells g).mono fun v H' hp=>hp⟩
 make:=by
  rintro H S w ⟨st,h⟩
  refine⟨_,_,pA,ptr n,rfl,br (by kernel_rfl),(Gq h).mono ?_⟩
  rintro v H' (⟨h1,rfl,rfl⟩| ⟨h1,rfl,S',h2,h3,h4⟩)
  ·exact .inl ⟨h1,rfl,cA.same ⟨st,h⟩ (ag.refl _ _)⟩
  ·exact .inr ⟨h1,rfl,S',⟨_,h2⟩,h3,h4⟩
 insert:=by
  rintro H S w g x k s ⟨st,h⟩
  refine⟨_,_,mJ,ptr n,rfl,br (by kernel_rfl),(C6 h g x k s).mono ?_⟩
  rintro v H' (⟨h1,rfl,h2,h3⟩| ⟨h1,rfl,S',q,h2,_,h3,h4,h5⟩)
  ·exact .inl ⟨h1,rfl,cA.same ⟨st,h2⟩ h3⟩
  ·exact .inr ⟨h1,rfl,S',⟨_,h3⟩,h4,h5⟩
 min:=by
  rintro H S w g ⟨st,h⟩
  refine⟨_,_,rV,ptr n,rfl,br (by kernel_rfl),(xz h g).mono ?_⟩
  rintro v H' ⟨h1,rfl⟩
  have hn:=cA.same (I:=fun H S w=>∃st,c9 H n S d st w) ⟨st,h⟩ (ag.refl S H)
  obtain⟨c,C,rv,fp,rs,m,l,hS⟩:=h
  rcases h1 with ⟨h1,rfl⟩| ⟨h1,h2,rfl⟩| ⟨h1,x,h2,h3,rfl,h4⟩
  ·refine .inl ⟨Nw.HQ.2 ?_,rfl,hn⟩
   by_cases hg:g≤0
   ·exact .inl hg
   ·refine .inr fun i c hc e=>h1 ⟨by omega,?_⟩
    have:=m.cells.live c (aow hc) (by omega)
    rwa[e]at this
  ·exact .inl ⟨h2,rfl,hn⟩
  ·exact .inr ⟨x,⟨by have:=h1.1;omega,h2.1,h3,h4⟩,rfl,hn⟩
 extract:=by
  rintro H S w g ⟨st,h⟩
  refine⟨_,_,lD,ptr n,rfl,br (by kernel_rfl),(Bm h g).mono ?_⟩
  rintro v H' (⟨h1,rfl,rfl⟩| ⟨h1,x,h2,h3,h4,rfl,q,hq,S',h5,h6,h7⟩)
  ·have hn:=cA.same (I:=fun H S w=>∃st,c9 H n S d st w) ⟨st,h⟩ (ag.refl S H)
   obtain⟨c,C,rv,fp,rs,m,l,hS⟩:=h
   rcases h1 with h1| ⟨_,h1⟩
   ·refine .inl ⟨Nw.HQ.2 ?_,rfl,hn⟩
    by_cases hg:g≤0
    ·exact .inl hg
    ·refine .inr fun i c hc e=>h1 ⟨by omega,?_⟩
     have:=m.cells.live c (aow hc) (by omega)
     rwa[e]at this
   ·exact .inl ⟨h1,rfl,hn⟩
  ·exact .inr ⟨x,⟨by have:=h1.1;omega,h2.1,h3,h4⟩,rfl,S',⟨_,h5⟩,h6,h7⟩
 nl:=by
  rintro H S w x k s ⟨st,h⟩
  refine⟨_,_,j0,ptr n,rfl,br (by kernel_rfl),(zm h x k s).mono ?_⟩
  rintro v H' (⟨h1,rfl,h2,h3⟩| ⟨h1,y,hy,h2,rfl,q,hq,S',h3,h4,h5⟩)
  ·exact .inl ⟨h1,rfl,cA.same ⟨st,h2⟩ (h3.mono fun _ _ h=>h.elim)⟩
  ·exact .inr ⟨⟨h1,fun z hz=>by rw[hy]at hz;injection hz with hz;rw[←hz];exact h2⟩,rfl,y,hy,S',⟨_,h3⟩,h4,h5⟩
 entry:=by
  rintro H S w x ⟨st,h⟩
  obtain⟨c,C,rv,fp,rs,m,l,hS⟩:=id h
  refine⟨_,_,ba,ptr c,rfl,fG (off:=0) (by kernel_rfl) (ae m.own) rfl,(iP m.cells x).mono ?_⟩
  rintro v H' ⟨_,f,hv⟩
  exact⟨⟨st,h.fresh f⟩,f,hv⟩
structure fT(H:Hp)(r nb pb:Nat)(N P:List Int):Prop where
 own:H.own r=some [.slice (some ⟨nb,0,none⟩) N.length N.length,.slice (some ⟨pb,0,none⟩) P.length P.length]
 DS:H.own nb=some (N.map i64)
 Wt:H.own pb=some (P.map i64)
 len:P.length=N.length
 ne:r≠nb∧r≠pb∧nb≠pb
def bZ(N:List Int)(x:Int):Int:=if 0≤x∧x<N.length then N.getD x.toNat 0 else x
theorem Gs{N:List Int}{x:Int}(hx:0≤x∧x<N.length):N[x.toNat]? =some (bZ N x):=by
 unfold bZ
 rw[if_pos hx,aou]
 obtain⟨y,hy⟩:∃y,N[x.toNat]? =some y:=⟨_,aop (by omega)⟩
 rw[hy];rfl
theorem Yp{N:List Int}{x:Int}(hx:¬ (0≤x∧x<N.length)):bZ N x=x:=by unfold bZ;rw[if_neg hx]
theorem E5{N:List Int}{x:Int}(hx:0≤x∧x<N.length)(v z:Int):bZ (N.set x.toNat v) z=if z=x then v else bZ N z:=by
 unfold bZ
 rw[aot]
 by_cases hz:z=x
 ·rw[if_pos hz,hz,if_pos hx,aou,aox (by omega)];rfl
 ·rw[if_neg hz]
  split
  ·rw[aou,aov (by omega),aou]
  ·rfl
theorem NZ{N P:List Int}(h:Bb (bZ N) (bZ P)){x:Int}(hx:0≤x∧x<N.length):0≤bZ N x∧bZ N x<N.length:=by
 apply aoJ
 intro hn
 have h1:=Yp hn
 have h2:bZ N x=x:=by
  have:=h.pn (bZ N x)
  rw[h1]at this
  have h3:=h.pn x
  rw[this]at h3
  exact h3
 rw[h2]at hn
 exact hn hx
section
variable {H H' : Hp} {r nb pb : Nat} {N P : List Int} {T : Nat → Prop}
theorem fT.ext(h:fT H r nb pb N P)(e:ag T H H')(h1:¬T r)(h2:¬T nb)(h3:¬T pb):fT H' r nb pb N P:=⟨e.own h.own h1,e.own h.DS h2,e.own h.Wt h3,h.len,h.ne⟩
theorem gF(h:fT H r nb pb N P)(x:Int):af Tryz.prog Ci [ptr r,i64 x] H fun v H'=>ar (v= .bool (decide (0≤x∧x<N.length))∧H'=H):=by
 refine aZ Cv ?_
 refine vs ?_
 refine ai.dec (fun h0=>?_) (fun h0=>?_)<;>refine v1 (ae h.own) ?_
 ·refine⟨?_,rfl⟩
  rw[show(decide (0≤x∧x< (N.length:Int)))=decide (x< (N.length:Int)) by simp[h0]]
  rfl
 ·refine⟨?_,rfl⟩
  rw[aoK (fun h=>h0 h.1)]
  rfl
theorem Gt(h:fT H r nb pb N P){x:Int}(hx:0≤x∧x<N.length):af Tryz.prog Al [ptr r,i64 x] H fun v H'=>ar (v= .tuple [i64 (bZ N x),.bool true].toArray∧H'=H):=by
 refine aZ AI ?_
 refine vs ?_
 refine(gF h x).mono ?_
 rintro _ H' ⟨rfl,e⟩
 obtain rfl:=e.symm
 rw[aoE hx]
 have hn:(N.map i64)[x.toNat]? =some (i64 (bZ N x)):=by rw[aoG,Gs hx];rfl
 refine v1 (ae h.own) ?_
 refine⟨⟨by omega,by omega⟩,?_⟩
 refine v4 (ae h.DS) aor aos hn ?_
 exact⟨rfl,rfl⟩
theorem dt(h:fT H r nb pb N P)(hi:Bb (bZ N) (bZ P)){x y:Int}(hx:0≤x∧x<N.length)(hy:0≤y∧y<N.length):af Tryz.prog vV [ptr r,i64 x,i64 y] H fun v H'=>ar (v= .bool true∧
  ∃N' P',fT H' r nb pb N' P'∧N'.length=N.length∧bZ N'=uP (bZ N) x y∧Bb (bZ N') (bZ P')∧ag (fun z=>z=nb∨z=pb) H H'):=by
 refine Kw wO ⟨rfl,?_⟩
 refine v1 lS.eq_1 ?_
 refine(gF h x).mono ?_
 rintro _ H' ⟨rfl,e⟩
 obtain rfl:=e.symm
 rw[aoE hx]
 refine vs ?_
 refine(gF h y).mono ?_
 rintro _ H' ⟨rfl,e⟩
 obtain rfl:=e.symm
 rw[aoE hy]
 have ET:(N.map i64)[x.toNat]? =some (i64 (bZ N x)):=by rw[aoG,Gs hx];rfl
 have hny:(N.map i64)[y.toNat]? =some (i64 (bZ N y)):=by rw[aoG,Gs hy];rfl
 obtain⟨a0,a1⟩:=NZ hi hx
 obtain⟨b0,b1⟩:=NZ hi hy
 obtain⟨d1,d2,d3⟩:=h.ne
 have hl:=h.len
 refine v1 (ae h.own) ?_
 refine⟨⟨by omega,by omega⟩,?_⟩
 refine v5 (ae h.DS) (ae h.own) aor aos ET ?_
 refine⟨⟨by omega,by omega⟩,?_⟩
 refine v5 (ae h.DS) (ae h.own) aor aos hny ?_
 refine⟨⟨by omega,by omega⟩,?_⟩
 refine v3 h.DS aor aos ?_
 refine⟨by rw[aoA];omega,?_⟩
 refine vs ?_
 have e1:ag (fun z=>z=nb) H (H.wr nb ((N.map i64).set x.toNat (i64 (bZ N y)))):=(ag.refl (fun z=>z=nb) _).wr (fun _=>rfl) _
 have q1:(H.wr nb ((N.map i64).set x.toNat (i64 (bZ N y)))).own nb=some ((N.map i64).set x.toNat (i64 (bZ N y))):=ah h.DS
 generalize H.wr nb ((N.map i64).set x.toNat (i64 (bZ N y)))=H1 at*
 refine⟨⟨by omega,by omega⟩,?_⟩
 refine v3 q1 aor aos ?_
 refine⟨by rw[aot,aoA];omega,?_⟩
 refine vs ?_
 have e2:ag (fun z=>z=nb) H1 (H1.wr nb (((N.map i64).set x.toNat (i64 (bZ N y))).set y.toNat (i64 (bZ N x)))):=(ag.refl (fun z=>z=nb) _).wr (fun _=>rfl) _
 have q2:(H1.wr nb (((N.map i64).set x.toNat (i64 (bZ N y))).set y.toNat (i64 (bZ N x)))).own nb=some (((N.map i64).set x.toNat (i64 (bZ N y))).set y.toNat (i64 (bZ N x))):=ah q1
 generalize H1.wr nb (((N.map i64).set x.toNat (i64 (bZ N y))).set y.toNat (i64 (bZ N x)))=H2 at*
 have oZ:=e1.trans e2
 have o2:=oZ.own h.own d1
 have p2:=oZ.own h.Wt (Ne.symm d3)
 have o1:=e1.own h.own d1
 refine v2 (ae o1) (ae o2) ?_
 refine⟨⟨by omega,by omega⟩,?_⟩
 refine v3 p2 aor aos ?_
 refine⟨by rw[aoA];omega,?_⟩
 refine vs ?_
 have e3:ag (fun z=>z=pb) H2 (H2.wr pb ((P.map i64).set (bZ N y).toNat (i64 x))):=(ag.refl (fun z=>z=pb) _).wr (fun _=>rfl) _
 have q3:(H2.wr pb ((P.map i64).set (bZ N y).toNat (i64 x))).own pb=some ((P.map i64).set (bZ N y).toNat (i64 x)):=ah p2
 generalize H2.wr pb ((P.map i64).set (bZ N y).toNat (i64 x))=H3 at*
 refine⟨⟨by omega,by omega⟩,?_⟩
 refine v3 q3 aor aos ?_
 refine⟨by rw[aot,aoA];omega,?_⟩
 refine vs ?_
 have e4:ag (fun z=>z=pb) H3 (H3.wr pb (((P.map i64).set (bZ N y).toNat (i64 x)).set (bZ N x).toNat (i64 y))):=(ag.refl (fun z=>z=pb) _).wr (fun _=>rfl) _
 have q4:(H3.wr pb (((P.map i64).set (bZ N y).toNat (i64 x)).set (bZ N x).toNat (i64 y))).own pb=some (((P.map i64).set (bZ N y).toNat (i64 x)).set (bZ N x).toNat (i64 y)):=ah q3
 have Yq:=e3.trans e4
 have nf:bZ ((N.set x.toNat (bZ N y)).set y.toNat (bZ N x))=uP (bZ N) x y:=by
  funext z
  rw[E5 (by rw[aot];exact hy),E5 hx]
  unfold uP
  by_cases h1:z=x
  ·rw[if_pos h1]
   by_cases h2:z=y
   ·rw[if_pos h2,←h2,h1];simp
   ·rw[if_neg h2,if_pos h1]
  ·rw[if_neg h1,if_neg h1]
 have pf:bZ ((P.set (bZ N y).toNat x).set (bZ N x).toNat y)=UW (bZ N) (bZ P) x y:=by
  funext z
  rw[E5 (by rw[aot];omega),E5 (by omega)]
  rfl
 refine⟨rfl,(N.set x.toNat (bZ N y)).set y.toNat (bZ N x),(P.set (bZ N y).toNat x).set (bZ N x).toNat y,⟨?_,?_,?_,by simp[hl],h.ne⟩,by simp,nf,?_,(oZ.mono fun z _ h=>.inl h).trans (Yq.mono fun z _ h=>.inr h)⟩
 ·rw[aot,aot,aot,aot]
  exact Yq.own o2 d2
 ·rw[ao9,ao9]
  exact Yq.own q2 d3
 ·rw[ao9,ao9]
  exact q4
 ·rw[nf,pf]
  exact hi.uP x y
theorem nB(h:fT H r nb pb N P)(hi:Bb (bZ N) (bZ P)){x:Int}(hx:0≤x∧x<N.length):af Tryz.prog Ak [ptr r,i64 x] H fun v H'=>ar (v= .bool true∧
  ∃N' P',fT H' r nb pb N' P'∧N'.length=N.length∧bZ N'=uP (bZ N) x (bZ P x)∧Bb (bZ N') (bZ P')∧ag (fun z=>z=nb∨z=pb) H H'):=by
 have jB:Bb (bZ P) (bZ N):=⟨hi.np,hi.pn⟩
 have hl:=h.len
 have dZ:=NZ jB (x:=x) (by omega)
 have hp:(P.map i64)[x.toNat]? =some (i64 (bZ P x)):=by rw[aoG,Gs (by omega)];rfl
 refine aZ AH ?_
 refine vs ?_
 refine(gF h x).mono ?_
 rintro _ H' ⟨rfl,e⟩
 obtain rfl:=e.symm
 rw[aoE hx]
 refine v1 (ae h.own) ?_
 refine⟨⟨by omega,by omega⟩,?_⟩
 refine v4 (ae h.Wt) aor aos hp ?_
 refine(dt h hi hx (y:=bZ P x) (by omega)).mono ?_
 rintro _ H1 ⟨rfl,h1⟩
 refine vs ?_
 exact⟨rfl,h1⟩
theorem oS(h:fT H r nb pb N P){x:Int}{A:List Int}(hc:qe (bZ N) (x::A))(hn:(x::A).Nodup)(hx:∀c∈x::A,0≤c∧c<N.length)(hN:N.length≤65536):af Tryz.prog Ch [ptr r,i64 x] H fun v H'=>ar (∃b,
  Sl H' 1 v (x::A).length ((x::A).map i64) (some b)∧H.size≤b∧am H H'):=by
 have fL:=hx x (by simp)
 have aR:=bU hn hx
 have eW:r<H.size∧nb<H.size∧pb<H.size:=⟨aB h.own,aB h.DS,aB h.Wt⟩
 have rdn:∀ {z:Int},0≤z∧z<N.length→(N.map i64)[z.toNat]? =some (i64 (bZ N z)):=fun hz=>by rw[aoG,Gs hz];rfl
 refine aZ Cu ?_
 refine vs ?_
 refine(gF h x).mono ?_
 rintro _ H' ⟨rfl,e⟩
 obtain rfl:=e.symm
 rw[aoE fL]
 refine vs ?_
 have f0:am H (H.new 3 [i64 x]):=(ag.refl _ _).new _ _
 have s0:Sl (H.new 3 [i64 x]) 1 (.slice (some ⟨H.size,0,none⟩) 1 1) [x].length ([x].map i64) (some H.size):=Sl.cB (size:=1) (n:=1) (xs:=[i64 x]) rfl rfl
 have h0:=h.ext f0 (fun h=>h) (fun h=>h) (fun h=>h)
 generalize H.new 3 [i64 x]=H0 at*
 refine v2 (ae h0.own) (ae h.own) ?_
 refine⟨⟨by omega,by omega⟩,?_⟩
 refine v5 (ae h0.DS) (ae h.DS) aor aos (rdn fL) ?_
 have hp:mj (bZ N) x A x:=hc
 have hd:∀ {a z:Int} {l:List Int},mj (bZ N) a l z→bZ N a=l.headD z:=fun{a z l} h=>by
  cases l with
  |nil=>exact h
  |cons b l=>exact h.1
 refine aS.intro (fun mm env H'=>∃ (d s:List Int) (wv:Value) (b:Nat),mm=s.length∧A=d++s∧fT H' r nb pb N P∧H.size≤b∧Sl H' 1 wv (x::d).length ((x::d).map i64) (some b)∧ag (fun z=>H.size≤z) H H'∧
  env=[(0,ptr r),(1,i64 x),(5,wv),(6,i64 (s.headD x))]) _ ⟨[],A,_,H.size,rfl,rfl,h0,aoB _,s0,f0.mono fun _ _ h=>h.elim,by rw[hd hp]⟩ ?_
 rintro mm env H1 ⟨d,s,wv,b,rfl,O8,h1,hb,s1,e1,rfl⟩
 have z1:=e1.size
 refine vs ?_
 cases s with
 |nil=>
  refine ai.dec (fun _=>?_) (fun h=>absurd rfl h)
  refine vs ?_
  rw[ao3]at O8
  subst O8
  exact⟨b,s1,hb,e1.mono fun z hz h=>by omega⟩
 |cons c s=>
  have IP:c∈A:=by rw[O8];simp
  have Ei:=hx c (apd _ IP)
  have Qz:c≠x:=fun e=>(aoR.1 hn).1 (by rw[←e];exact IP)
  have jx:d.length+(s.length+1)=A.length:=by rw[O8,aoy,aoI]
  rw[aoI]at aR
  refine ai.dec (fun h=>absurd h Qz) (fun _=>?_)
  refine vs ?_
  refine Wc (B:=H.size) hb (by omega) s1 c (by rw[aoI];omega) fun w' H2 b' mU s2 e2=>?_
  refine vs ?_
  have h2:=h1.ext e2 (by omega) (by omega) (by omega)
  simp(disch:=(first|omega| (simp only[Zs]<;>omega)|fail)) only[go_sem, ↓reduceIte,Zv,ae h2.own,List.headD_cons]
  refine⟨⟨by omega,by omega⟩,?_⟩
  refine v4 (ae h2.DS) aor aos (rdn Ei) ?_
  have ET:bZ N c=s.headD x:=hd (mj.ZJ.1 (by rw[←O8];exact hp)).2
  exact⟨s.length,by simp,d++[c],s,w',b',rfl,by rw[O8];simp,h2,mU,s2,e1.trans e2,by rw[ET]⟩
end
end Go.Proofs.YthpjfeolagohkaaGreat

namespace Go.Proofs.YthpjfeolagohkaaGreat
open Go Go.Vc
structure Pc where
 u:Int
 k:Int
 d:Int
 m:Bool
def O9(y:Pc):List Value:=[i64 y.u,i64 y.k,i64 y.d,.bool y.m]
def aI(L:List Pc):List Value:=L.flatMap O9
theorem N0(L:List Pc):(aI L).length=L.length*4:=by
 induction L with
 |nil=>rfl
 |cons c r ih=>simp only[aI,apU,aoy,O9,aoI,apo]at*;omega
theorem acf{L:List Pc}{i:Nat}{y:Pc}(hi:L[i]? =some y):(aI L)[i*4]? =some (i64 y.u)∧(aI L)[i*4+1]? =some (i64 y.k)∧(aI L)[i*4+2]? =some (i64 y.d)∧(aI L)[i*4+3]? =some (.bool y.m):=by
 induction L generalizing i with
 |nil=>simp at hi
 |cons a r ih=>
  have e:aI (a::r)=i64 a.u::i64 a.k::i64 a.d:: .bool a.m::aI r:=rfl
  rw[e]
  cases i with
  |zero=>simp at hi;subst hi;exact⟨rfl,rfl,rfl,rfl⟩
  |succ i=>
   have:=ih (by simpa using hi)
   rw[show(i+1)*4=i*4+4 by omega]
   exact this
theorem nD{L:List Pc}{i:Nat}{y:Pc}(hi:L[i]? =some y):(∀v,(aI L).set (i*4) (i64 v)=aI (L.set i ⟨v,y.k,y.d,y.m⟩))∧(∀v,(aI L).set (i*4+1) (i64 v)=aI (L.set i ⟨y.u,v,y.d,y.m⟩))∧
  (∀v,(aI L).set (i*4+2) (i64 v)=aI (L.set i ⟨y.u,y.k,v,y.m⟩))∧(∀v,(aI L).set (i*4+3) (.bool v)=aI (L.set i ⟨y.u,y.k,y.d,v⟩))∧
  (∀z:Pc,aY (aI L) (i*4) [i64 z.u,i64 z.k,i64 z.d,.bool z.m]=aI (L.set i z)):=by
 induction L generalizing i with
 |nil=>simp at hi
 |cons a r ih=>
  have e:aI (a::r)=i64 a.u::i64 a.k::i64 a.d:: .bool a.m::aI r:=rfl
  cases i with
  |zero=>simp at hi;subst hi;exact⟨fun _=>rfl,fun _=>rfl,fun _=>rfl,fun _=>rfl,fun _=>rfl⟩
  |succ i=>
   obtain⟨h1,h2,h3,h4,h5⟩:=ih (by simpa using hi)
   have e2:∀z:Pc,aI ((a::r).set (i+1) z)=i64 a.u::i64 a.k::i64 a.d:: .bool a.m::aI (r.set i z):=fun _=>rfl
   refine⟨fun v=>?_,fun v=>?_,fun v=>?_,fun v=>?_,fun z=>?_⟩
   ·rw[e,e2,show(i+1)*4=i*4+1+1+1+1 by omega]
    simp only[apb]
    rw[h1]
   ·rw[e,e2,show(i+1)*4+1=i*4+1+1+1+1+1 by omega]
    simp only[apb]
    rw[h2]
   ·rw[e,e2,show(i+1)*4+2=i*4+2+1+1+1+1 by omega]
    simp only[apb]
    rw[h3]
   ·rw[e,e2,show(i+1)*4+3=i*4+3+1+1+1+1 by omega]
    simp only[apb]
    rw[h4]
   ·have h5:=h5 z
    simp only[aY]at h5 ⊢
    rw[e,e2,show(i+1)*4=i*4+1+1+1+1 by omega]
    simp only[apb]
    rw[h5]
def nO:Pc:=⟨-1, -1,0,false⟩
def eE(L:List Pc)(x:Int):Pc:=if 0≤x then(L[x.toNat]?).getD nO else nO
theorem Gu{L:List Pc}{x:Int}{y:Pc}(h0:0≤x)(h:L[x.toNat]? =some y):eE L x=y:=by unfold eE;rw[if_pos h0,h];rfl
def mw(f:Int→Pc)(x:Int)(y:Pc):Int→Pc:=fun z=>if z=x then y else f z
theorem Bn{L:List Pc}{x:Int}(hx:0≤x∧x<L.length)(y:Pc):eE (L.set x.toNat y)=mw (eE L) x y:=by
 funext z
 show eE (L.set x.toNat y) z=if z=x then y else eE L z
 by_cases hz:z=x
 ·rw[if_pos hz,hz]
  unfold eE
  rw[if_pos hx.1,aox (by omega)];rfl
 ·rw[if_neg hz]
  unfold eE
  split
  ·rw[aov (by omega)]
  ·rfl
structure FB where
 n:Nat
 c:Nat
 r:Nat
 nb:Nat
 pb:Nat
 tb:Nat
 tp:Nat
def FB.S(B:FB)(C:Nat→Prop)(z:Nat):Prop:=C z∨z=B.n∨z=B.r∨z=B.nb∨z=B.pb∨z=B.tb∨z=B.tp
structure bP(H:Hp)(B:FB)(C:Nat→Prop)(w:Nw)(N P:List Int)(L:List Pc)(tops:List Int):Prop where
 own:∃tv,H.own B.n=some [ptr B.c,ptr B.r,.slice (some ⟨B.tb,0,none⟩) L.length L.length,tv]∧Sl H 1 tv tops.length (tops.map i64) (some B.tp)
 cells:CQ H B.c C w
 ring:fT H B.r B.nb B.pb N P
 inv:Bb (bZ N) (bZ P)
 places:H.own B.tb=some (aI L)
 len:L.length=w.cs.length∧N.length=w.cs.length
 nN:(B.n≠B.r∧B.n≠B.nb∧B.n≠B.pb∧B.n≠B.tb∧B.n≠B.tp)∧(B.tb≠B.r∧B.tb≠B.nb∧B.tb≠B.pb∧B.tb≠B.tp)∧(B.tp≠B.r∧B.tp≠B.nb∧B.tp≠B.pb)
 out:¬C B.n∧¬C B.r∧¬C B.nb∧¬C B.pb∧¬C B.tb∧¬C B.tp
section
variable {H H' : Hp} {B : FB} {C V : Nat → Prop} {w w' : Nw} {N P N' P' : List Int} {L L' : List Pc} {tops : List Int}
theorem bP.slt(h:bP H B C w N P L tops):∀z,B.S C z→z<H.size:=by
 obtain⟨tv,h1,h2⟩:=h.own
 rintro z (hz|rfl|rfl|rfl|rfl|rfl|rfl)
 ·exact h.cells.slt z hz
 ·exact aB h1
 ·exact aB h.ring.own
 ·exact aB h.ring.DS
 ·exact aB h.ring.Wt
 ·exact aB h.places
 ·exact h2.lt
theorem bP.ext(h:bP H B C w N P L tops)(e:ag V H H')(hd:∀z,B.S C z→¬V z):bP H' B C w N P L tops:=by
 obtain⟨tv,h1,h2⟩:=h.own
 exact⟨⟨tv,e.own h1 (hd _ (.inr (.inl rfl))),h2.ext e (fun b hb=>by injection hb with hb;exact hb▸hd _ (.inr (.inr (.inr (.inr (.inr (.inr rfl)))))))⟩,h.cells.ext e (fun x hx=>hd x (.inl hx)),
  h.ring.ext e (hd _ (.inr (.inr (.inl rfl)))) (hd _ (.inr (.inr (.inr (.inl rfl))))) (hd _ (.inr (.inr (.inr (.inr (.inl rfl)))))),h.inv,e.own h.places (hd _ (.inr (.inr (.inr (.inr (.inr (.inl rfl))))))),h.len,h.nN,h.out⟩
theorem bP.fresh(h:bP H B C w N P L tops)(e:am H H'):bP H' B C w N P L tops:=h.ext e fun _ _ h=>h
theorem bP.aH(h:bP H B C w N P L tops)(c1:CQ H' B.c C w')(e:ag C H H')(hl:w'.cs.length=w.cs.length):bP H' B C w' N P L tops:=by
 obtain⟨tv,h1,h2⟩:=h.own
 obtain⟨o1,o2,o3,o4,o5,o6⟩:=h.out
 exact⟨⟨tv,e.own h1 o1,h2.ext e (fun b hb=>by injection hb with hb;exact hb▸o6)⟩,c1,h.ring.ext e o2 o3 o4,h.inv,e.own h.places o5,by rw[hl];exact h.len,h.nN,h.out⟩
theorem bP.uT(h:bP H B C w N P L tops)(r1:fT H' B.r B.nb B.pb N' P')(hi:Bb (bZ N') (bZ P'))(e:ag (fun z=>z=B.nb∨z=B.pb) H H')(hl:N'.length=N.length):bP H' B C w N' P' L tops:=by
 obtain⟨tv,h1,h2⟩:=h.own
 obtain⟨o1,o2,o3,o4,o5,o6⟩:=h.out
 obtain⟨⟨d1,d2,d3,d4,d5⟩,⟨d6,d7,d8,d9⟩,⟨d10,d11,d12⟩⟩:=h.nN
 exact⟨⟨tv,e.own h1 (by omega),h2.ext e (fun b hb=>by injection hb with hb;omega)⟩,h.cells.ext e (fun x hx hz=>by rcases hz with hz|hz;exact o3 (hz▸hx);exact o4 (hz▸hx)),r1,hi,e.own h.places (by omega),by rw[hl];exact h.len,h.nN,h.out⟩
theorem bP.Ta(h:bP H B C w N P L tops)(hl:L'.length=L.length):bP (H.wr B.tb (aI L')) B C w N P L' tops∧ag (fun z=>z=B.tb) H (H.wr B.tb (aI L')):=by
 obtain⟨tv,h1,h2⟩:=h.own
 obtain⟨o1,o2,o3,o4,o5,o6⟩:=h.out
 obtain⟨⟨d1,d2,d3,d4,d5⟩,⟨d6,d7,d8,d9⟩,⟨d10,d11,d12⟩⟩:=h.nN
 have e:ag (fun z=>z=B.tb) H (H.wr B.tb (aI L')):=(ag.refl (fun z=>z=B.tb) _).wr (fun _=>rfl) _
 exact⟨⟨⟨tv,by rw[hl];exact e.own h1 d4,h2.ext e (fun b hb=>by injection hb with hb;omega)⟩,h.cells.ext e (fun x hx hz=>o5 (hz▸hx)),h.ring.ext e (Ne.symm d6) (Ne.symm d7) (Ne.symm d8),h.inv,ah h.places,by rw[hl];exact h.len,h.nN,h.out⟩,e⟩
theorem bP.fR(h:bP H B C w N P L tops):∃c l,H.own B.n=some [ptr B.c,ptr B.r,.slice (some ⟨B.tb,0,none⟩) L.length L.length,.slice (some ⟨B.tp,0,none⟩) tops.length c]∧H.own B.tp=some l∧tops.length≤c∧c≤l.length∧l.take tops.length=tops.map i64:=by
 obtain⟨tv,h1,_,l,c,rfl,h3,h4,h5,h6⟩:=h.own
 rw[aos]at h5 h6
 exact⟨c,l,h1,h3,h4,h5,h6⟩
theorem bP.eR(h:bP H B C w N P L tops){l:List Value}(hl:H.own B.tp=some l){i:Nat}{x:Int}(hx:tops[i]? =some x):l[i]? =some (i64 x):=by
 obtain⟨c,l',_,h2,_,_,h5⟩:=h.fR
 rw[hl]at h2
 injection h2 with h2
 subst h2
 have h7:(tops.map i64)[i]? =some (i64 x):=by rw[aoG,hx];rfl
 rw[←h5,aoU]at h7
 split at h7
 ·exact h7
 ·cases h7
theorem bP.kL(h:bP H B C w N P L tops){l:List Value}(hl:H.own B.tp=some l)(i:Nat)(v:Int):bP (H.wr B.tp (l.set i (i64 v))) B C w N P L (tops.set i v)∧ag (fun z=>z=B.tp) H (H.wr B.tp (l.set i (i64 v))):=by
 obtain⟨c,l',h1,h2,h3,h4,h5⟩:=h.fR
 rw[hl]at h2
 injection h2 with h2
 subst h2
 obtain⟨o1,o2,o3,o4,o5,o6⟩:=h.out
 obtain⟨⟨d1,d2,d3,d4,d5⟩,⟨d6,d7,d8,d9⟩,⟨d10,d11,d12⟩⟩:=h.nN
 have e:ag (fun z=>z=B.tp) H (H.wr B.tp (l.set i (i64 v))):=(ag.refl (fun z=>z=B.tp) _).wr (fun _=>rfl) _
 refine⟨⟨⟨_,e.own h1 d5,?_⟩,h.cells.ext e (fun x hx hz=>o6 (hz▸hx)),h.ring.ext e (Ne.symm d10) (Ne.symm d11) (Ne.symm d12),h.inv,e.own h.places d9,h.len,h.nN,h.out⟩,e⟩
 refine⟨by simp,l.set i (i64 v),c,by rw[aot],ah hl,by rw[aot];exact h3,by rw[aot,aos];exact h4,?_⟩
 rw[aot,aos,mB,h5,ao9]
theorem bP.rd(h:bP H B C w N P L tops){x:Int}(hx:0≤x∧x<w.cs.length):x.toNat*4+3< (aI L).length∧(aI L)[x.toNat*4]? =some (i64 (eE L x).u)∧(aI L)[x.toNat*4+1]? =some (i64 (eE L x).k)∧
  (aI L)[x.toNat*4+2]? =some (i64 (eE L x).d)∧(aI L)[x.toNat*4+3]? =some (.bool (eE L x).m):=by
 have hl:=h.len
 have hf:=N0 L
 obtain⟨y,hy⟩:∃y,L[x.toNat]? =some y:=⟨_,aop (by omega)⟩
 obtain⟨h1,h2,h3,h4⟩:=acf hy
 rw[Gu hx.1 hy]
 exact⟨by omega,h1,h2,h3,h4⟩
theorem bP.aJ(h:bP H B C w N P L tops){x:Int}(hx:0≤x∧x<w.cs.length)(v:Int):∃L',eE L'=mw (eE L) x ⟨v,(eE L x).k,(eE L x).d,(eE L x).m⟩∧bP (H.wr B.tb ((aI L).set (x.toNat*4) (i64 v))) B C w N P L' tops∧ag (fun z=>z=B.tb) H (H.wr B.tb ((aI L).set (x.toNat*4) (i64 v))):=by
 have hl:=h.len
 obtain⟨y,hy⟩:∃y,L[x.toNat]? =some y:=⟨_,aop (by omega)⟩
 rw[Gu hx.1 hy,(nD hy).1]
 exact⟨_,Bn (by omega) _,h.Ta (aot ..)⟩
theorem bP.ez(h:bP H B C w N P L tops){x:Int}(hx:0≤x∧x<w.cs.length)(v:Int):∃L',eE L'=mw (eE L) x ⟨(eE L x).u,v,(eE L x).d,(eE L x).m⟩∧bP (H.wr B.tb ((aI L).set (x.toNat*4+1) (i64 v))) B C w N P L' tops∧ag (fun z=>z=B.tb) H (H.wr B.tb ((aI L).set (x.toNat*4+1) (i64 v))):=by
 have hl:=h.len
 obtain⟨y,hy⟩:∃y,L[x.toNat]? =some y:=⟨_,aop (by omega)⟩
 rw[Gu hx.1 hy,(nD hy).2.1]
 exact⟨_,Bn (by omega) _,h.Ta (aot ..)⟩
theorem bP.Yr(h:bP H B C w N P L tops){x:Int}(hx:0≤x∧x<w.cs.length)(v:Int):∃L',eE L'=mw (eE L) x ⟨(eE L x).u,(eE L x).k,v,(eE L x).m⟩∧bP (H.wr B.tb ((aI L).set (x.toNat*4+2) (i64 v))) B C w N P L' tops∧ag (fun z=>z=B.tb) H (H.wr B.tb ((aI L).set (x.toNat*4+2) (i64 v))):=by
 have hl:=h.len
 obtain⟨y,hy⟩:∃y,L[x.toNat]? =some y:=⟨_,aop (by omega)⟩
 rw[Gu hx.1 hy,(nD hy).2.2.1]
 exact⟨_,Bn (by omega) _,h.Ta (aot ..)⟩
theorem bP.cT(h:bP H B C w N P L tops){x:Int}(hx:0≤x∧x<w.cs.length)(v:Bool):∃L',eE L'=mw (eE L) x ⟨(eE L x).u,(eE L x).k,(eE L x).d,v⟩∧bP (H.wr B.tb ((aI L).set (x.toNat*4+3) (.bool v))) B C w N P L' tops∧ag (fun z=>z=B.tb) H (H.wr B.tb ((aI L).set (x.toNat*4+3) (.bool v))):=by
 have hl:=h.len
 obtain⟨y,hy⟩:∃y,L[x.toNat]? =some y:=⟨_,aop (by omega)⟩
 rw[Gu hx.1 hy,(nD hy).2.2.2.1]
 exact⟨_,Bn (by omega) _,h.Ta (aot ..)⟩
theorem bP.N9(h:bP H B C w N P L tops){x:Int}(hx:0≤x∧x<w.cs.length)(z:Pc):∃L',eE L'=mw (eE L) x z∧bP (H.wr B.tb (aY (aI L) (x.toNat*4) [i64 z.u,i64 z.k,i64 z.d,.bool z.m])) B C w N P L' tops∧ag (fun z=>z=B.tb) H (H.wr B.tb (aY (aI L) (x.toNat*4) [i64 z.u,i64 z.k,i64 z.d,.bool z.m])):=by
 have hl:=h.len
 obtain⟨y,hy⟩:∃y,L[x.toNat]? =some y:=⟨_,aop (by omega)⟩
 rw[(nD hy).2.2.2.2]
 exact⟨_,Bn (by omega) _,h.Ta (aot ..)⟩
end
end Go.Proofs.YthpjfeolagohkaaGreat

namespace Go.Proofs.YthpjfeolagohkaaGreat
open Go Go.Vc
def KE(f:Int→Pc)(ch:Int→List Int)(par:Int→Int):Prop:=∀x,(f x).u=par x∧(f x).k=(ch x).headD (-1)∧(f x).d=(ch x).length
section
variable {H H' : Hp} {B : FB} {C V : Nat → Prop} {w : Nw} {N P : List Int} {L : List Pc} {tops : List Int} {ch : Int → List Int} {par : Int → Int} {au : Int → List Int} {W : List Int}
theorem dV.Tb{lt:Int→Int→Bool}{nx:Int→Int}(f:dV (aE w) lt nx ch par au W){x:Int}(hx:x∈W):0≤x∧x<w.cs.length:=by
 obtain⟨a,b,_⟩:=aC (f.wm x hx).2.2
 exact⟨a,b⟩
theorem dV.rin{lt:Int→Int→Bool}{nx:Int→Int}(f:dV (aE w) lt nx ch par au W){g x:Int}(hx:x∈au g):0≤x∧x<w.cs.length:=by
 obtain⟨h1,_,h2,_⟩:=f.rm g x hx
 obtain⟨a,b,_⟩:=aC (w:=w) (x:=x) (by omega)
 exact⟨a,b⟩
theorem dV.G2{lt:Int→Int→Bool}{nx:Int→Int}(f:dV (aE w) lt nx ch par au W){p x:Int}(hx:x∈ch p):0≤x∧x<w.cs.length:=by
 obtain⟨a,b,_⟩:=aC (f.pr.dn p x hx).2.2.2.1
 exact⟨a,b⟩
theorem xA(m:bP H B C w N P L tops){x g:Int}(f:dV (aE w) (aN w) (bZ N) ch par au (x::W))(hg:aE w x=g)(dq:g<tops.length)(ht:bf tops g=(au g).headD (-1)):
  af Tryz.prog sO [ptr B.n,i64 g,i64 x] H fun v H'=>ar (∃N' P' Gv l,bP H' B C w N' P' L Gv∧Gv.length=tops.length∧bf Gv=iL (bf tops) g (l.headD (-1))∧
   dV (aE w) (aN w) (bZ N') ch par (ax au g l) W∧(l.headD (-1)=x∨(l.headD (-1)=bf tops g∧bf tops g≠ -1))∧l.headD (-1)≠ -1∧
   (x≠l.headD (-1)→aN w (l.headD (-1)) x=true)∧(bf tops g≠ -1→bf tops g≠l.headD (-1)→aN w (l.headD (-1)) (bf tops g)=true)∧ag (fun z=>C z∨z=B.nb∨z=B.pb∨z=B.tp) H H'):=by
 have hx:=f.Tb (x:=x) (by simp)
 have G6:=f.ZK (c:=x) (by simp)
 have SX:0<g:=by rw[←hg];exact(f.wm x (by simp)).2.2
 obtain⟨cc,lt,o1,q1,AW,Fe,O2⟩:=m.fR
 have q2:=m.eR q1 (dU (tops:=tops) (h:=g) (by omega) dq)
 have aR:=m.len
 refine aZ tf ?_
 refine v1 (ae o1) ?_
 refine⟨⟨by omega,by omega⟩,?_⟩
 refine v4 (ae q1) aor aos q2 ?_
 refine ai.dec (fun h0=>?_) (fun h0=>?_)<;>refine v1 (ae o1) ?_
 ·have hr:au g=[]:=by
   rw[h0]at ht
   cases hc:au g with
   |nil=>rfl
   |cons c r=>rw[hc]at ht;exact absurd ht.symm (f.rne (h:=g) (by rw[hc];simp))
  refine⟨⟨by omega,by omega⟩,?_⟩
  refine v3 q1 aor aos ?_
  refine⟨by omega,?_⟩
  obtain⟨m2,e2⟩:=m.kL q1 g.toNat x
  refine vs ?_
  have f2:=f.abX (by rw[hg];exact hr)
  rw[hg]at f2
  exact⟨N,P,_,[x],m2,aot ..,eC (by omega) dq x,f2,.inl rfl,G6,fun h=>absurd rfl h,fun h=>absurd h0 h,e2.mono fun z _ h=>.inr (.inr (.inr h))⟩
 obtain⟨t,A,hr⟩:∃t A,au g=t::A:=by
  cases hc:au g with
  |nil=>rw[hc]at ht;exact absurd ht h0
  |cons c r=>exact⟨c,r,rfl⟩
 have htt:bf tops g=t:=by rw[ht,hr];rfl
 rw[htt]
 rw[htt]at q2
 have htr:=f.rin (g:=g) (x:=t) (by rw[hr];simp)
 have htn:=f.rne (c:=t) (h:=g) (by rw[hr];simp)
 have htx:t≠x:=fun e=>(f.rm g t (by rw[hr];simp)).2.2.2 (by rw[e];simp)
 refine⟨⟨by omega,by omega⟩,?_⟩
 refine v4 (ae q1) aor aos q2 ?_
 refine(dt m.ring m.inv (x:=t) (y:=x) (by omega) (by omega)).mono ?_
 rintro _ H2 ⟨rfl,N2,P2,r2,l2,n2,i2,e2⟩
 have m2:=m.uT r2 i2 e2 l2
 have f2:=f.SU (t:=t) (A:=A) (by rw[hg];exact hr)
 rw[hg,←n2]at f2
 obtain⟨cc,lt2,o2,q3,_⟩:=m2.fR
 have q4:=m2.eR q3 (dU (tops:=tops) (h:=g) (by omega) dq)
 rw[htt]at q4
 refine v1 (ae o2) ?_
 refine⟨⟨by omega,by omega⟩,?_⟩
 refine v4 (ae q3) aor aos q4 ?_
 refine(cE m2.cells x t).mono ?_
 rintro _ H3 ⟨rfl,c3,e3⟩
 have m3:=m2.aH c3 e3 rfl
 have BP:=gD (w:=w) (a:=x) (b:=t) (by omega) (by have:=(f.rm g t (by rw[hr];simp)).1;omega)
 rw[BP]
 have Ex:ag (fun z=>C z∨z=B.nb∨z=B.pb∨z=B.tp) H H3:=(e2.mono fun z _ h=>h.elim (fun h=>.inr (.inl h)) (fun h=>.inr (.inr (.inl h)))).trans (e3.mono fun z _ h=>.inl h)
 cases aK:aN w x t
 ·refine vs ?_
  have Wu:=((ap w).OQ t x htx).resolve_right (by rw[aK];simp)
  refine⟨N2,P2,tops,t::x::A,m3,rfl,?_,f2,.inr ⟨rfl,htn⟩,htn,fun _=>Wu,fun _ h=>absurd rfl h,Ex⟩
  funext z
  show bf tops z=if z=g then t else bf tops z
  split
  ·rename_i e;rw[e,htt]
  ·rfl
 ·obtain⟨cc,lt3,o3,q5,_,hc5,_⟩:=m3.fR
  have q6:=m3.eR q5 (dU (tops:=tops) (h:=g) (by omega) dq)
  have qw:=(aoq.1 q6).1
  refine v1 (ae o3) ?_
  refine⟨⟨by omega,by omega⟩,?_⟩
  refine v3 q5 aor aos ?_
  refine⟨by omega,?_⟩
  obtain⟨m4,e4⟩:=m3.kL q5 g.toNat x
  refine vs ?_
  have f3:=f2.wW (g:=g) (l:=x::A++[t]) (by
   unfold ax
   rw[if_pos rfl]
   exact apZ (l₁:=[t]) (l₂:=x::A)) (by
   have:=f2.rc g
   unfold ax at this
   rw[if_pos rfl]at this
   exact qe.rot (l1:=[t]) (l2:=x::A) this)
  rw[eD]at f3
  exact⟨N2,P2,_,x::A++[t],m4,aot ..,eC (by omega) dq x,f3,.inl rfl,G6,fun h=>absurd rfl h,fun _ _=>aK,Ex.trans (e4.mono fun z _ h=>.inr (.inr (.inr h)))⟩
theorem Gw(m:bP H B C w N P L tops){x y:Int}(f:dV (aE w) (aN w) (bZ N) ch par au (x::y::W))(hp:KE (eE L) ch par)(hh:aE w x=aE w y)(hl:aN w x y=true):
  af Tryz.prog qN [ptr B.n,i64 y,i64 x] H fun v H'=>ar (∃N' P' L' dA bm,bP H' B C w N' P' L' tops∧dV (aE w) (aN w) (bZ N') dA bm au (x::W)∧KE (eE L') dA bm∧(dA x).length=(ch x).length+1∧(∀z,z≠x→dA z=ch z)∧
   ag (fun z=>z=B.nb∨z=B.pb∨z=B.tb) H H'):=by
 have hx:=f.Tb (x:=x) (by simp)
 have hy:=f.Tb (x:=y) (by simp)
 have Rm:x≠y:=fun e=>by rw[e,(ap w).BT]at hl;cases hl
 have aR:=m.len
 obtain⟨tv,o1,_⟩:=m.own
 obtain⟨px,kx,dx⟩:=hp x
 obtain⟨py,ky,dy⟩:=hp y
 obtain⟨a0,a1,a2,a3,a4⟩:=m.rd hx
 have tD:(ch x).length≤w.cs.length:=bU (f.pr.nd x) fun c hc=>f.G2 hc
 have wY:=m.cells.Er
 refine aZ qX ?_
 refine v1 (ae o1) ?_
 refine⟨⟨by omega,by omega⟩,?_⟩
 refine v1 (ae o1) ?_
 refine⟨⟨by omega,by omega⟩,?_⟩
 refine v3 (ae m.places) aor a2 ?_
 refine ai.dec (fun h0=>?_) (fun h0=>?_)<;>refine vs ?_
 ·have hc:ch x=[]:=by
   rw[h0]at kx
   cases hc:ch x with
   |nil=>rfl
   |cons c r=>rw[hc]at kx;exact absurd kx.symm (f.pr.ne (x:=x) (by rw[hc];simp))
  have f1:=f.Ya hh hl hc
  obtain⟨H1,eH⟩:∃H1,H1=H:=⟨_,rfl⟩
  rw[←eH]at m ⊢
  have m1:=m
  obtain⟨N1,eN⟩:∃N1,N1=N:=⟨_,rfl⟩
  obtain⟨P1,eP⟩:∃P1,P1=P:=⟨_,rfl⟩
  rw[←eN,←eP]at m1
  rw[←eN]at f1
  have e1:ag (fun z=>z=B.nb∨z=B.pb) H1 H1:=ag.refl _ _
  have rQ:([y]:List Int).length=(ch x).length+1:=by rw[hc];rfl
  obtain⟨b0,_⟩:=m1.rd hx
  obtain⟨L2,k2,m2,e2⟩:=m1.ez hx y
  refine v2 m1.places aor ?_
  refine⟨by omega,?_⟩
  refine vs ?_
  generalize H1.wr B.tb ((aI L).set (x.toNat*4+1) (i64 y))=H2 at*
  obtain⟨c0,c1,c2,c3,c4⟩:=m2.rd hx
  have lU:(eE L2 x).d=(ch x).length:=by rw[k2];unfold mw;rw[if_pos rfl];exact dx
  obtain⟨L3,k3,m3,e3⟩:=m2.Yr hx ((eE L2 x).d+1)
  rw[lU]at c3 k3 m3 e3
  refine v4 (ae m2.places) m2.places aor c3 ?_
  rw[wrap64 (by omega) (by omega)]
  refine⟨by omega,?_⟩
  refine vs ?_
  generalize H2.wr B.tb ((aI L2).set (x.toNat*4+2) (i64 ((ch x).length+1)))=H3 at*
  obtain⟨d0,_⟩:=m3.rd hy
  obtain⟨L4,k4,m4,e4⟩:=m3.aJ hy x
  refine v3 m3.places aor Nat.add_zero ?_
  refine⟨by omega,?_⟩
  refine vs ?_
  generalize H3.wr B.tb ((aI L3).set (y.toNat*4) (i64 x))=H4 at*
  obtain⟨g0,_⟩:=m4.rd hy
  obtain⟨L5,k5,m5,e5⟩:=m4.cT hy false
  refine v3 m4.places aor Nat.add_zero ?_
  refine⟨by omega,?_⟩
  refine vs ?_
  refine⟨N1,P1,L5,_,_,m5,f1,fun z=>?_,?_,fun z hz=>?_,((((e1.mono fun z _ h=>h.elim .inl fun h=>.inr (.inl h)).trans (e2.mono fun z _ h=>.inr (.inr h))).trans (e3.mono fun z _ h=>.inr (.inr h))).trans (e4.mono fun z _ h=>.inr (.inr h))).trans (e5.mono fun z _ h=>.inr (.inr h))⟩
  ·rw[k5,k4,k3,k2]
   unfold mw ax
   by_cases h1:z=y
   ·rw[h1,if_pos rfl,if_neg Rm.symm,if_neg Rm.symm]
    simp only[if_neg Rm.symm,if_true]
    refine⟨by unfold aJ;rw[if_pos rfl],?_,?_⟩
    ·exact ky
    ·exact dy
   ·rw[if_neg h1]
    unfold aJ
    rw[if_neg h1]
    by_cases h2:z=x
    ·rw[h2]
     simp only[if_true,if_neg Rm]
     exact⟨px,rfl,by rw[rQ];omega⟩
    ·simp only[if_neg h1,if_neg h2]
     exact hp z
  ·unfold ax;rw[if_pos rfl,rQ]
  ·unfold ax;rw[if_neg hz]
 ·obtain⟨k,K,hc⟩:∃k K,ch x=k::K:=by
   cases hc:ch x with
   |nil=>rw[hc]at kx;exact absurd kx h0
   |cons c r=>exact⟨c,r,rfl⟩
  have hk:(eE L x).k=k:=by rw[kx,hc];rfl
  have ZQ:=f.G2 (p:=x) (x:=k) (by rw[hc];simp)
  have f1:=f.under hh hl hc
  rw[hk]at a2
  refine v4 (ae o1) (ae m.places) aor a2 ?_
  refine(dt m.ring m.inv (x:=k) (y:=y) (by omega) (by omega)).mono ?_
  rintro _ H1 ⟨rfl,N1,P1,r1,l1,n1,i1,e1⟩
  have m1:=m.uT r1 i1 e1 l1
  rw[←n1]at f1
  have rQ:(y::K++[k]).length=(ch x).length+1:=by rw[hc];simp
  refine vs ?_
  obtain⟨b0,_⟩:=m1.rd hx
  obtain⟨L2,k2,m2,e2⟩:=m1.ez hx y
  refine v2 m1.places aor ?_
  refine⟨by omega,?_⟩
  refine vs ?_
  generalize H1.wr B.tb ((aI L).set (x.toNat*4+1) (i64 y))=H2 at*
  obtain⟨c0,c1,c2,c3,c4⟩:=m2.rd hx
  have lU:(eE L2 x).d=(ch x).length:=by rw[k2];unfold mw;rw[if_pos rfl];exact dx
  obtain⟨L3,k3,m3,e3⟩:=m2.Yr hx ((eE L2 x).d+1)
  rw[lU]at c3 k3 m3 e3
  refine v4 (ae m2.places) m2.places aor c3 ?_
  rw[wrap64 (by omega) (by omega)]
  refine⟨by omega,?_⟩
  refine vs ?_
  generalize H2.wr B.tb ((aI L2).set (x.toNat*4+2) (i64 ((ch x).length+1)))=H3 at*
  obtain⟨d0,_⟩:=m3.rd hy
  obtain⟨L4,k4,m4,e4⟩:=m3.aJ hy x
  refine v3 m3.places aor Nat.add_zero ?_
  refine⟨by omega,?_⟩
  refine vs ?_
  generalize H3.wr B.tb ((aI L3).set (y.toNat*4) (i64 x))=H4 at*
  obtain⟨g0,_⟩:=m4.rd hy
  obtain⟨L5,k5,m5,e5⟩:=m4.cT hy false
  refine v3 m4.places aor Nat.add_zero ?_
  refine⟨by omega,?_⟩
  refine vs ?_
  refine⟨N1,P1,L5,_,_,m5,f1,fun z=>?_,?_,fun z hz=>?_,((((e1.mono fun z _ h=>h.elim .inl fun h=>.inr (.inl h)).trans (e2.mono fun z _ h=>.inr (.inr h))).trans (e3.mono fun z _ h=>.inr (.inr h))).trans (e4.mono fun z _ h=>.inr (.inr h))).trans (e5.mono fun z _ h=>.inr (.inr h))⟩
  ·rw[k5,k4,k3,k2]
   unfold mw ax
   by_cases h1:z=y
   ·rw[h1,if_pos rfl,if_neg Rm.symm,if_neg Rm.symm]
    simp only[if_neg Rm.symm,if_true]
    refine⟨by unfold aJ;rw[if_pos rfl],?_,?_⟩
    ·exact ky
    ·exact dy
   ·rw[if_neg h1]
    unfold aJ
    rw[if_neg h1]
    by_cases h2:z=x
    ·rw[h2]
     simp only[if_true,if_neg Rm]
     exact⟨px,rfl,by rw[rQ];omega⟩
    ·simp only[if_neg h1,if_neg h2]
     exact hp z
  ·unfold ax;rw[if_pos rfl,rQ]
  ·unfold ax;rw[if_neg hz]
end
end Go.Proofs.YthpjfeolagohkaaGreat

namespace Go.Proofs.YthpjfeolagohkaaGreat
open Go Go.Vc
theorem uU(H:Hp):af Tryz.prog Ag [] H fun v H'=>ar (v= .agg #[i64 (-1),i64 (-1),i64 0,.bool false]∧am H H'):=by
 refine aZ AA ?_
 have f0:am H (H.new 235 [Value.int .i64 0,Value.int .i64 0,Value.int .i64 0,Value.bool false]):=(ag.refl _ _).new _ _
 refine vs ?_
 have q:((H.new 235 [Value.int .i64 0,Value.int .i64 0,Value.int .i64 0,Value.bool false]).wr H.size [Value.int .i64 (-1),Value.int .i64 (-1),Value.int .i64 0,Value.bool false]).own H.size=some [Value.int .i64 (-1),Value.int .i64 (-1),Value.int .i64 0,Value.bool false]:=ah (aD _ _ _)
 have e2:ag (fun z=>z=H.size) (H.new 235 [Value.int .i64 0,Value.int .i64 0,Value.int .i64 0,Value.bool false]) ((H.new 235 [Value.int .i64 0,Value.int .i64 0,Value.int .i64 0,Value.bool false]).wr H.size [Value.int .i64 (-1),Value.int .i64 (-1),Value.int .i64 0,Value.bool false]):=(ag.refl (fun z=>z=H.size) _).wr (fun _=>rfl) _
 refine v1 (ae q) ?_
 exact⟨rfl,f0.then e2 (fun z hz=>by omega)⟩
section
variable {H H' : Hp} {B : FB} {C V : Nat → Prop} {w : Nw} {N P : List Int} {L : List Pc} {tops : List Int} {ch : Int → List Int} {par : Int → Int} {au : Int → List Int} {W : List Int}
theorem Gx(m:bP H B C w N P L tops){x g:Int}{A:List Int}(f:dV (aE w) (aN w) (bZ N) ch par au W)(hp:KE (eE L) ch par)(hr:au g=x::A):
  af Tryz.prog qM [ptr B.n,i64 x] H fun v H'=>ar (∃N' P' L' A',bP H' B C w N' P' L' tops∧dV (aE w) (aN w) (bZ N') (ax ch x []) (fx ch par x) (ax au g (x::A')) W∧KE (eE L') (ax ch x []) (fx ch par x)∧
   ag (fun z=>z=B.nb∨z=B.pb∨z=B.tb) H H'):=by
 have hx:=f.rin (g:=g) (x:=x) (by rw[hr];simp)
 have dZ:=(f.rm g x (by rw[hr];simp)).2.1
 have aR:=m.len
 have wY:=m.cells.Er
 obtain⟨tv,o1,_⟩:=m.own
 obtain⟨px,kx,dx⟩:=hp x
 obtain⟨a0,a1,a2,a3,a4⟩:=m.rd hx
 refine aZ qW ?_
 refine v1 (ae o1) ?_
 refine⟨⟨by omega,by omega⟩,?_⟩
 refine v3 (ae m.places) aor a2 ?_
 refine ai.dec (fun h0=>?_) (fun h0=>?_)<;>refine vs ?_
 ·have hc:ch x=[]:=by
   rw[h0]at kx
   cases hc:ch x with
   |nil=>rfl
   |cons c r=>rw[hc]at kx;exact absurd kx.symm (f.pr.ne (x:=x) (by rw[hc];simp))
  have e1:ax ch x []=ch:=by
   funext z
   unfold ax
   split
   ·rename_i e;rw[e,hc]
   ·rfl
  have e2:fx ch par x=par:=by
   funext z
   unfold fx
   rw[hc,if_neg (by simp)]
  have e3:ax au g (x::A)=au:=by
   funext z
   unfold ax
   split
   ·rename_i e;rw[e,hr]
   ·rfl
  exact⟨N,P,L,A,m,by rw[e1,e2,e3];exact f,by rw[e1,e2];exact hp,ag.refl _ _⟩
 obtain⟨k,K,hc⟩:∃k K,ch x=k::K:=by
  cases hc:ch x with
  |nil=>rw[hc]at kx;exact absurd kx h0
  |cons c r=>exact⟨c,r,rfl⟩
 have hk:(eE L x).k=k:=by rw[kx,hc];rfl
 rw[hk]
 have KD:=f.cy x
 have gU:=f.pr.nd x
 rw[hc]at KD gU
 have bE:∀c∈k::K,0≤c∧c<w.cs.length:=fun c IP=>f.G2 (p:=x) (by rw[hc];exact IP)
 have ZO:(k::K).length≤w.cs.length:=bU gU bE
 have hk1:(k::K).length=K.length+1:=aoI
 refine v1 (ae o1) ?_
 refine(oS m.ring KD gU (fun c IP=>by have:=bE c IP;omega) (by omega)).mono ?_
 rintro kv H1 ⟨b,s1,hb,f1⟩
 have m1:=m.fresh f1
 have z1:=f1.size
 have hS:=m.slt
 have UI:B.tb<H.size:=hS _ (.inr (.inr (.inr (.inr (.inr (.inl rfl))))))
 obtain⟨ka,kc,rfl⟩:=Sl.shape s1
 refine vs ?_
 refine aS.intro (fun mm env H'=>∃ (i:Nat) (L':List Pc),mm=(k::K).length - i∧i≤(k::K).length∧bP H' B C w N P L' tops∧Sl H' 1 (.slice ka (k::K).length kc) (k::K).length ((k::K).map i64) (some b)∧ag (fun z=>z=B.tb) H H'∧
  (∀z,(eE L' z).k=(eE L z).k∧(eE L' z).d=(eE L z).d∧(eE L' z).u=if z∈(k::K).take i then -1 else(eE L z).u)∧
  env=[(0,ptr B.n),(1,i64 x),(4,i64 k),(22,.slice ka (k::K).length kc),(23,i64 (k::K).length),(24,i64 i)]) _ ⟨0,L,rfl,by omega,m1,s1,f1.mono (fun _ _ h=>h.elim),fun z=>⟨rfl,rfl,by simp⟩,rfl⟩ ?_
 rintro mm env H2 ⟨i,L2,rfl,hi,m2,s2,e2,g2,rfl⟩
 refine vs ?_
 refine ai.dec (fun gi=>?_) (fun gi=>?_)<;>refine vs ?_
 ·have jB:i< (k::K).length:=by omega
  obtain⟨c,CE⟩:∃c,(k::K)[i]? =some c:=⟨_,aop jB⟩
  have IP:=bE c (aow CE)
  obtain⟨_,kb,lb,rfl,q2,q3⟩:=Sl.zg s2 CE
  obtain⟨NR,o2,_⟩:=m2.own
  have sE:=m2.len
  refine⟨⟨by omega,by omega⟩,?_⟩
  refine v6 (ae q2) aor aos Int.toNat_natCast q3 (ae o2) ?_
  refine⟨⟨by omega,by omega⟩,?_⟩
  obtain⟨b0,_⟩:=m2.rd IP
  obtain⟨L3,k3,m3,e3⟩:=m2.aJ IP (-1)
  refine v3 m2.places aor Nat.add_zero ?_
  refine⟨by omega,?_⟩
  refine vs ?_
  generalize H2.wr B.tb ((aI L2).set (c.toNat*4) (Value.int .i64 (-1)))=H3 at*
  obtain⟨c0,_⟩:=m3.rd IP
  have Pp:=m3.len
  obtain⟨L4,k4,m4,e4⟩:=m3.cT IP false
  refine⟨⟨by omega,by omega⟩,?_⟩
  refine v3 m3.places aor Nat.add_zero ?_
  refine⟨by omega,?_⟩
  refine vs ?_
  refine⟨(k::K).length - (i+1),by omega,i+1,L4,rfl,by omega,m4,(s2.ext e3 (fun z hz dP=>by injection hz with hz;omega)).ext e4 (fun z hz dP=>by injection hz with hz;omega),(e2.trans e3).trans e4,fun z=>?_,?_⟩
  ·have tk:(k::K).take (i+1)=(k::K).take i++[c]:=by rw[aoM,CE];rfl
   obtain⟨g3,g4,g5⟩:=g2 z
   rw[tk,k4,k3]
   unfold mw
   by_cases hz:z=c
   ·simp only[hz,if_true]
    rw[hz]at g3 g4
    exact⟨g3,g4,by simp⟩
   ·simp only[if_neg hz]
    refine⟨g3,g4,?_⟩
    rw[g5]
    simp only[aoL,aoH,hz,or_false]
  ·rw[wrap64 (by omega) (by omega)]
   rfl
 obtain rfl:i=(k::K).length:=by omega
 rw[aoQ]at g2
 have ZQ:=bE k (by simp)
 have f2:=f.raise hr hc
 obtain⟨NR,o2,_⟩:=m2.own
 have sE:=m2.len
 refine v1 (ae o2) ?_
 refine(dt m2.ring m2.inv (x:=x) (y:=k) (by omega) (by omega)).mono ?_
 rintro _ H3 ⟨rfl,N3,P3,r3,l3,n3,i3,e3⟩
 have m3:=m2.uT r3 i3 e3 l3
 rw[←n3]at f2
 obtain⟨cc,lt,o3,_⟩:=m3.fR
 refine vs ?_
 refine oC.intro (fun H'=>H'.own B.n=some [ptr B.c,ptr B.r,.slice (some ⟨B.tb,0,none⟩) L2.length L2.length,.slice (some ⟨B.tp,0,none⟩) tops.length cc]) o3 ?_
 refine vs ?_
 refine oB.intro (.slice (some ⟨B.tb,0,none⟩) L2.length L2.length) (fun H' hI=>by refine v1 (ae hI) ?_;trivial) ?_
 refine vs ?_
 refine(uU H3).mono ?_
 rintro _ H4 ⟨rfl,e4⟩
 have o4:=e4.own o3 (fun h=>h)
 refine And.intro o4 ?_
 have m4:=m3.fresh e4
 refine vs ?_
 refine⟨⟨by omega,by omega⟩,?_⟩
 obtain⟨b0,_⟩:=m4.rd hx
 obtain⟨L5,k5,m5,e5⟩:=m4.N9 hx nO
 refine v2 m4.places aor ?_
 refine⟨by omega,?_⟩
 rw[show aY (aI L2) (x.toNat*4) (aF (Value.agg #[i64 (-1),i64 (-1),i64 0,Value.bool false]))=aY (aI L2) (x.toNat*4) [i64 nO.u,i64 nO.k,i64 nO.d,.bool nO.m]from rfl]
 have EF:=m4.nN.1.2.2.2.1
 generalize H4.wr B.tb (aY (aI L2) (x.toNat*4) [i64 nO.u,i64 nO.k,i64 nO.d,.bool nO.m])=H5 at*
 refine vs ?_
 refine And.intro (e5.own o4 EF) ?_
 refine vs ?_
 refine⟨N3,P3,L5,K++k::A,m5,f2,fun z=>?_,(((e2.mono fun z _ h=>.inr (.inr h)).trans (e3.mono fun z _ h=>h.elim .inl fun h=>.inr (.inl h))).trans (e4.mono fun z _ h=>h.elim)).trans (e5.mono fun z _ h=>.inr (.inr h))⟩
 rw[k5]
 unfold mw ax fx
 obtain⟨g3,g4,g5⟩:=g2 z
 obtain⟨pz,kz,dz⟩:=hp z
 by_cases hz:z=x
 ·rw[if_pos hz,if_pos hz,hz,if_neg (fun h=>by have:=(f.NT h).1 g;rw[hr]at this;exact this (by simp)),dZ]
  exact⟨rfl,rfl,rfl⟩
 ·rw[if_neg hz,if_neg hz,g3,g4,g5,hc]
  refine⟨?_,kz,dz⟩
  split
  ·rfl
  ·exact pz
end
end Go.Proofs.YthpjfeolagohkaaGreat
