/- Texts put behind each other. -/
import Derived.Test.YtjlnnljohemifaaGreatK98
import Derived.Test.YtjlnnljohemifaaGreatK4
import Derived.Test.YtjlnnljohemifaaGreatK21
import Derived.Test.YtjlnnljohemifaaGreatK24
import Derived.Test.YtjlnnljohemifaaGreatK27
import Derived.Test.YtjlnnljohemifaaGreatK29
import Derived.Test.YtjlnnljohemifaaGreatK32
import Derived.Test.YtjlnnljohemifaaGreatK33
set_option maxRecDepth 100000
set_option maxHeartbeats 8000000
set_option linter.unusedVariables false
set_option linter.unusedSimpArgs false
namespace Go.Proofs.YtjlnnljohemifaaGreat
open Go Go.Vc
theorem Nl(n:Nat):xK (.iface 218 (ptr n)) (fun H S w=>∃st,dw H n S st w) where
 slt:=by rintro H S w ⟨st,h⟩;exact h.slt
 ext:=by rintro H H' S w T ⟨st,h⟩ e hd;exact⟨st,h.ext e hd⟩
 cells:=by
  rintro H S w ⟨st,c,C,rv,fr,fa,ps,at_,m,l,hS⟩
  exact⟨c,C,st,m.cells⟩
 has:=by
  rintro H S w g ⟨st,c,C,rv,fr,fa,ps,at_,m,l,hS⟩
  obtain⟨av,ho,_⟩:=m.own
  exact⟨_,_,bD,ptr c,rfl,fD (off:=0) (by kernel_rfl) (ae ho) rfl,(gU m.cells g).mono fun v H' hp=>hp⟩
 make:=by
  rintro H S w ⟨st,h⟩
  refine⟨_,_,pH,ptr n,rfl,bC (by kernel_rfl),(FW h).mono ?_⟩
  rintro v H' (⟨h1,rfl,rfl⟩| ⟨h1,rfl,S',h2,h3,h4⟩)
  ·exact .inl ⟨h1,rfl,cz.same ⟨st,h⟩ (ag.refl _ _)⟩
  ·exact .inr ⟨h1,rfl,S',⟨_,h2⟩,h3,h4⟩
 insert:=by
  rintro H S w g x k s ⟨st,h⟩
  refine⟨_,_,mZ,ptr n,rfl,bC (by kernel_rfl),(CF h g x k s).mono ?_⟩
  rintro v H' (⟨h1,rfl,h2,h3⟩| ⟨h1,rfl,S',q,h2,_,h3,h4,h5⟩)
  ·exact .inl ⟨h1,rfl,cz.same ⟨st,h2⟩ h3⟩
  ·exact .inr ⟨h1,rfl,S',⟨_,h3⟩,h4,h5⟩
 min:=by
  rintro H S w g ⟨st,h⟩
  refine⟨_,_,sw,ptr n,rfl,bC (by kernel_rfl),(xN h g).mono ?_⟩
  rintro v H' ⟨h1,rfl⟩
  rcases h1 with ⟨h1,rfl⟩| ⟨x,h2,rfl⟩
  ·exact .inl ⟨h1,rfl,cz.same ⟨st,h⟩ (ag.refl _ _)⟩
  ·exact .inr ⟨x,h2,rfl,cz.same ⟨st,h⟩ (ag.refl _ _)⟩
 extract:=by
  rintro H S w g ⟨st,h⟩
  refine⟨_,_,lT,ptr n,rfl,bC (by kernel_rfl),(A6 h g).mono ?_⟩
  rintro v H' (⟨h1,rfl,rfl⟩| ⟨x,h1,rfl,q,hq,S',h5,h6,h7⟩)
  ·exact .inl ⟨h1,rfl,cz.same ⟨st,h⟩ (ag.refl _ _)⟩
  ·exact .inr ⟨x,h1,rfl,S',⟨_,h5⟩,h6,h7⟩
 ld:=by
  rintro H S w x k s ⟨st,h⟩
  refine⟨_,_,kM,ptr n,rfl,bC (by kernel_rfl),(zm h x k s).mono ?_⟩
  rintro v H' (⟨h1,rfl,h2,h3⟩| ⟨h1,y,hy,h2,rfl,q,hq,S',h3,h4,h5⟩)
  ·exact .inl ⟨h1,rfl,cz.same ⟨st,h2⟩ (h3.mono fun _ _ h=>h.elim)⟩
  ·exact .inr ⟨⟨h1,fun z hz=>by rw[hy]at hz;injection hz with hz;rw[←hz];exact h2⟩,rfl,y,hy,S',⟨_,h3⟩,h4,h5⟩
 entry:=by
  rintro H S w x ⟨st,h⟩
  obtain⟨c,C,rv,fr,fa,ps,at_,m,l,hS⟩:=id h
  obtain⟨av,ho,_⟩:=m.own
  refine⟨_,_,bc,ptr c,rfl,fD (off:=0) (by kernel_rfl) (ae ho) rfl,(jc m.cells x).mono ?_⟩
  rintro v H' ⟨_,f,hv⟩
  exact⟨⟨st,h.fresh f⟩,f,hv⟩
theorem F0(n:Nat)(d:Int):xK (.iface 194 (ptr n)) (fun H S w=>∃st,c9 H n S d st w) where
 slt:=by rintro H S w ⟨st,h⟩;exact h.slt
 ext:=by rintro H H' S w T ⟨st,h⟩ e hd;exact⟨st,h.ext e hd⟩
 cells:=by
  rintro H S w ⟨st,c,C,rv,fp,rs,m,l,hS⟩
  exact⟨c,C,st,m.cells⟩
 has:=by
  rintro H S w g ⟨st,c,C,rv,fp,rs,m,l,hS⟩
  exact⟨_,_,bD,ptr c,rfl,fD (off:=0) (by kernel_rfl) (ae m.own) rfl,(gU m.cells g).mono fun v H' hp=>hp⟩
 make:=by
  rintro H S w ⟨st,h⟩
  refine⟨_,_,pF,ptr n,rfl,bC (by kernel_rfl),(FZ h).mono ?_⟩
  rintro v H' (⟨h1,rfl,rfl⟩| ⟨h1,rfl,S',h2,h3,h4⟩)
  ·exact .inl ⟨h1,rfl,cz.same ⟨st,h⟩ (ag.refl _ _)⟩
  ·exact .inr ⟨h1,rfl,S',⟨_,h2⟩,h3,h4⟩
 insert:=by
  rintro H S w g x k s ⟨st,h⟩
  refine⟨_,_,mU,ptr n,rfl,bC (by kernel_rfl),(CI h g x k s).mono ?_⟩
  rintro v H' (⟨h1,rfl,h2,h3⟩| ⟨h1,rfl,S',q,h2,_,h3,h4,h5⟩)
  ·exact .inl ⟨h1,rfl,cz.same ⟨st,h2⟩ h3⟩
  ·exact .inr ⟨h1,rfl,S',⟨_,h3⟩,h4,h5⟩
 min:=by
  rintro H S w g ⟨st,h⟩
  refine⟨_,_,sr,ptr n,rfl,bC (by kernel_rfl),(xP h g).mono ?_⟩
  rintro v H' ⟨h1,rfl⟩
  have hn:=cz.same (I:=fun H S w=>∃st,c9 H n S d st w) ⟨st,h⟩ (ag.refl S H)
  obtain⟨c,C,rv,fp,rs,m,l,hS⟩:=h
  rcases h1 with ⟨h1,rfl⟩| ⟨h1,h2,rfl⟩| ⟨h1,x,h2,h3,rfl,h4⟩
  ·refine .inl ⟨Nw.Hs.2 ?_,rfl,hn⟩
   by_cases hg:g≤0
   ·exact .inl hg
   ·refine .inr fun i c hc e=>h1 ⟨by omega,?_⟩
    have:=m.cells.live c (anz hc) (by omega)
    rwa[e]at this
  ·exact .inl ⟨h2,rfl,hn⟩
  ·exact .inr ⟨x,⟨by have:=h1.1;omega,h2.1,h3,h4⟩,rfl,hn⟩
 extract:=by
  rintro H S w g ⟨st,h⟩
  refine⟨_,_,lN,ptr n,rfl,bC (by kernel_rfl),(Ba h g).mono ?_⟩
  rintro v H' (⟨h1,rfl,rfl⟩| ⟨h1,x,h2,h3,h4,rfl,q,hq,S',h5,h6,h7⟩)
  ·have hn:=cz.same (I:=fun H S w=>∃st,c9 H n S d st w) ⟨st,h⟩ (ag.refl S H)
   obtain⟨c,C,rv,fp,rs,m,l,hS⟩:=h
   rcases h1 with h1| ⟨_,h1⟩
   ·refine .inl ⟨Nw.Hs.2 ?_,rfl,hn⟩
    by_cases hg:g≤0
    ·exact .inl hg
    ·refine .inr fun i c hc e=>h1 ⟨by omega,?_⟩
     have:=m.cells.live c (anz hc) (by omega)
     rwa[e]at this
   ·exact .inl ⟨h1,rfl,hn⟩
  ·exact .inr ⟨x,⟨by have:=h1.1;omega,h2.1,h3,h4⟩,rfl,S',⟨_,h5⟩,h6,h7⟩
 ld:=by
  rintro H S w x k s ⟨st,h⟩
  refine⟨_,_,kH,ptr n,rfl,bC (by kernel_rfl),(zp h x k s).mono ?_⟩
  rintro v H' (⟨h1,rfl,h2,h3⟩| ⟨h1,y,hy,h2,rfl,q,hq,S',h3,h4,h5⟩)
  ·exact .inl ⟨h1,rfl,cz.same ⟨st,h2⟩ (h3.mono fun _ _ h=>h.elim)⟩
  ·exact .inr ⟨⟨h1,fun z hz=>by rw[hy]at hz;injection hz with hz;rw[←hz];exact h2⟩,rfl,y,hy,S',⟨_,h3⟩,h4,h5⟩
 entry:=by
  rintro H S w x ⟨st,h⟩
  obtain⟨c,C,rv,fp,rs,m,l,hS⟩:=id h
  refine⟨_,_,bc,ptr c,rfl,fD (off:=0) (by kernel_rfl) (ae m.own) rfl,(jc m.cells x).mono ?_⟩
  rintro v H' ⟨_,f,hv⟩
  exact⟨⟨st,h.fresh f⟩,f,hv⟩
structure fP(H:Hp)(r nb pb:Nat)(N P:List Int):Prop where
 own:H.own r=some [.slice (some ⟨nb,0,none⟩) N.length N.length,.slice (some ⟨pb,0,none⟩) P.length P.length]
 Ov:H.own nb=some (N.map i64)
 Vk:H.own pb=some (P.map i64)
 len:P.length=N.length
 ne:r≠nb∧r≠pb∧nb≠pb
def ce(N:List Int)(x:Int):Int:=if 0≤x∧x<N.length then N.getD x.toNat 0 else x
theorem F1{N:List Int}{x:Int}(hx:0≤x∧x<N.length):N[x.toNat]? =some (ce N x):=by
 unfold ce
 rw[if_pos hx,anx]
 obtain⟨y,hy⟩:∃y,N[x.toNat]? =some y:=⟨_,ans (by omega)⟩
 rw[hy];rfl
theorem W1{N:List Int}{x:Int}(hx:¬ (0≤x∧x<N.length)):ce N x=x:=by unfold ce;rw[if_neg hx]
theorem EI{N:List Int}{x:Int}(hx:0≤x∧x<N.length)(v z:Int):ce (N.set x.toNat v) z=if z=x then v else ce N z:=by
 unfold ce
 rw[anv]
 by_cases hz:z=x
 ·rw[if_pos hz,hz,if_pos hx,anx,anB (by omega)];rfl
 ·rw[if_neg hz]
  split
  ·rw[anx,anA (by omega),anx]
  ·rfl
theorem Nn{N P:List Int}(h:Bb (ce N) (ce P)){x:Int}(hx:0≤x∧x<N.length):0≤ce N x∧ce N x<N.length:=by
 apply anW
 intro hn
 have h1:=W1 hn
 have h2:ce N x=x:=by
  have:=h.pn (ce N x)
  rw[h1]at this
  have h3:=h.pn x
  rw[this]at h3
  exact h3
 rw[h2]at hn
 exact hn hx
section
variable {H H' : Hp} {r nb pb : Nat} {N P : List Int} {T : Nat → Prop}
theorem fP.ext(h:fP H r nb pb N P)(e:ag T H H')(h1:¬T r)(h2:¬T nb)(h3:¬T pb):fP H' r nb pb N P:=⟨e.own h.own h1,e.own h.Ov h2,e.own h.Vk h3,h.len,h.ne⟩
theorem gP(h:fP H r nb pb N P)(x:Int):af Tryz.prog B1 [ptr r,i64 x] H fun v H'=>aw (v= .bool (decide (0≤x∧x<N.length))∧H'=H):=by
 refine bm Cf ?_
 refine vs ?_
 refine am.dec (fun h0=>?_) (fun h0=>?_)<;>refine v1 (ae h.own) ?_
 ·refine⟨?_,rfl⟩
  rw[show(decide (0≤x∧x< (N.length:Int)))=decide (x< (N.length:Int)) by simp[h0]]
  rfl
 ·refine⟨?_,rfl⟩
  rw[anV (fun h=>h0 h.1)]
  rfl
theorem F2(h:fP H r nb pb N P){x:Int}(hx:0≤x∧x<N.length):af Tryz.prog Ag [ptr r,i64 x] H fun v H'=>aw (v= .tuple [i64 (ce N x),.bool true].toArray∧H'=H):=by
 refine bm AG ?_
 refine vs ?_
 refine(gP h x).mono ?_
 rintro _ H' ⟨rfl,e⟩
 obtain rfl:=e.symm
 rw[anI hx]
 have hn:(N.map i64)[x.toNat]? =some (i64 (ce N x)):=by rw[anR,F1 hx];rfl
 refine v1 (ae h.own) ?_
 refine⟨⟨by omega,by omega⟩,?_⟩
 refine v4 (ae h.Ov) ant anw hn ?_
 exact⟨rfl,rfl⟩
theorem dk(h:fP H r nb pb N P)(hi:Bb (ce N) (ce P)){x y:Int}(hx:0≤x∧x<N.length)(hy:0≤y∧y<N.length):af Tryz.prog vV [ptr r,i64 x,i64 y] H fun v H'=>aw (v= .bool true∧
  ∃N' P',fP H' r nb pb N' P'∧N'.length=N.length∧ce N'=zq (ce N) x y∧Bb (ce N') (ce P')∧ag (fun z=>z=nb∨z=pb) H H'):=by
 refine Gv wQ ⟨rfl,?_⟩
 refine v1 ma.eq_1 ?_
 refine(gP h x).mono ?_
 rintro _ H' ⟨rfl,e⟩
 obtain rfl:=e.symm
 rw[anI hx]
 refine vs ?_
 refine(gP h y).mono ?_
 rintro _ H' ⟨rfl,e⟩
 obtain rfl:=e.symm
 rw[anI hy]
 have JU:(N.map i64)[x.toNat]? =some (i64 (ce N x)):=by rw[anR,F1 hx];rfl
 have hny:(N.map i64)[y.toNat]? =some (i64 (ce N y)):=by rw[anR,F1 hy];rfl
 obtain⟨a0,a1⟩:=Nn hi hx
 obtain⟨b0,b1⟩:=Nn hi hy
 obtain⟨d1,d2,d3⟩:=h.ne
 have hl:=h.len
 refine v1 (ae h.own) ?_
 refine⟨⟨by omega,by omega⟩,?_⟩
 refine v5 (ae h.Ov) (ae h.own) ant anw JU ?_
 refine⟨⟨by omega,by omega⟩,?_⟩
 refine v5 (ae h.Ov) (ae h.own) ant anw hny ?_
 refine⟨⟨by omega,by omega⟩,?_⟩
 refine v3 h.Ov ant anw ?_
 refine⟨by rw[anQ];omega,?_⟩
 refine vs ?_
 have e1:ag (fun z=>z=nb) H (H.wr nb ((N.map i64).set x.toNat (i64 (ce N y)))):=(ag.refl (fun z=>z=nb) _).wr (fun _=>rfl) _
 have q1:(H.wr nb ((N.map i64).set x.toNat (i64 (ce N y)))).own nb=some ((N.map i64).set x.toNat (i64 (ce N y))):=ah h.Ov
 generalize H.wr nb ((N.map i64).set x.toNat (i64 (ce N y)))=H1 at*
 refine⟨⟨by omega,by omega⟩,?_⟩
 refine v3 q1 ant anw ?_
 refine⟨by rw[anv,anQ];omega,?_⟩
 refine vs ?_
 have e2:ag (fun z=>z=nb) H1 (H1.wr nb (((N.map i64).set x.toNat (i64 (ce N y))).set y.toNat (i64 (ce N x)))):=(ag.refl (fun z=>z=nb) _).wr (fun _=>rfl) _
 have q2:(H1.wr nb (((N.map i64).set x.toNat (i64 (ce N y))).set y.toNat (i64 (ce N x)))).own nb=some (((N.map i64).set x.toNat (i64 (ce N y))).set y.toNat (i64 (ce N x))):=ah q1
 generalize H1.wr nb (((N.map i64).set x.toNat (i64 (ce N y))).set y.toNat (i64 (ce N x)))=H2 at*
 have o8:=e1.trans e2
 have o2:=o8.own h.own d1
 have p2:=o8.own h.Vk (Ne.symm d3)
 have o1:=e1.own h.own d1
 refine v2 (ae o1) (ae o2) ?_
 refine⟨⟨by omega,by omega⟩,?_⟩
 refine v3 p2 ant anw ?_
 refine⟨by rw[anQ];omega,?_⟩
 refine vs ?_
 have e3:ag (fun z=>z=pb) H2 (H2.wr pb ((P.map i64).set (ce N y).toNat (i64 x))):=(ag.refl (fun z=>z=pb) _).wr (fun _=>rfl) _
 have q3:(H2.wr pb ((P.map i64).set (ce N y).toNat (i64 x))).own pb=some ((P.map i64).set (ce N y).toNat (i64 x)):=ah p2
 generalize H2.wr pb ((P.map i64).set (ce N y).toNat (i64 x))=H3 at*
 refine⟨⟨by omega,by omega⟩,?_⟩
 refine v3 q3 ant anw ?_
 refine⟨by rw[anv,anQ];omega,?_⟩
 refine vs ?_
 have e4:ag (fun z=>z=pb) H3 (H3.wr pb (((P.map i64).set (ce N y).toNat (i64 x)).set (ce N x).toNat (i64 y))):=(ag.refl (fun z=>z=pb) _).wr (fun _=>rfl) _
 have q4:(H3.wr pb (((P.map i64).set (ce N y).toNat (i64 x)).set (ce N x).toNat (i64 y))).own pb=some (((P.map i64).set (ce N y).toNat (i64 x)).set (ce N x).toNat (i64 y)):=ah q3
 have W2:=e3.trans e4
 have nf:ce ((N.set x.toNat (ce N y)).set y.toNat (ce N x))=zq (ce N) x y:=by
  funext z
  rw[EI (by rw[anv];exact hy),EI hx]
  unfold zq
  by_cases h1:z=x
  ·rw[if_pos h1]
   by_cases h2:z=y
   ·rw[if_pos h2,←h2,h1];simp
   ·rw[if_neg h2,if_pos h1]
  ·rw[if_neg h1,if_neg h1]
 have pf:ce ((P.set (ce N y).toNat x).set (ce N x).toNat y)=TY (ce N) (ce P) x y:=by
  funext z
  rw[EI (by rw[anv];omega),EI (by omega)]
  rfl
 refine⟨rfl,(N.set x.toNat (ce N y)).set y.toNat (ce N x),(P.set (ce N y).toNat x).set (ce N x).toNat y,⟨?_,?_,?_,by simp[hl],h.ne⟩,by simp,nf,?_,(o8.mono fun z _ h=>.inl h).trans (W2.mono fun z _ h=>.inr h)⟩
 ·rw[anv,anv,anv,anv]
  exact W2.own o2 d2
 ·rw[aoh,aoh]
  exact W2.own q2 d3
 ·rw[aoh,aoh]
  exact q4
 ·rw[nf,pf]
  exact hi.zq x y
theorem nI(h:fP H r nb pb N P)(hi:Bb (ce N) (ce P)){x:Int}(hx:0≤x∧x<N.length):af Tryz.prog Af [ptr r,i64 x] H fun v H'=>aw (v= .bool true∧
  ∃N' P',fP H' r nb pb N' P'∧N'.length=N.length∧ce N'=zq (ce N) x (ce P x)∧Bb (ce N') (ce P')∧ag (fun z=>z=nb∨z=pb) H H'):=by
 have mI:Bb (ce P) (ce N):=⟨hi.np,hi.pn⟩
 have hl:=h.len
 have dF:=Nn mI (x:=x) (by omega)
 have hp:(P.map i64)[x.toNat]? =some (i64 (ce P x)):=by rw[anR,F1 (by omega)];rfl
 refine bm AF ?_
 refine vs ?_
 refine(gP h x).mono ?_
 rintro _ H' ⟨rfl,e⟩
 obtain rfl:=e.symm
 rw[anI hx]
 refine v1 (ae h.own) ?_
 refine⟨⟨by omega,by omega⟩,?_⟩
 refine v4 (ae h.Vk) ant anw hp ?_
 refine(dk h hi hx (y:=ce P x) (by omega)).mono ?_
 rintro _ H1 ⟨rfl,h1⟩
 refine vs ?_
 exact⟨rfl,h1⟩
theorem oQ(h:fP H r nb pb N P){x:Int}{A:List Int}(hc:vu (ce N) (x::A))(hn:(x::A).Nodup)(hx:∀c∈x::A,0≤c∧c<N.length)(hN:N.length≤65536):af Tryz.prog B0 [ptr r,i64 x] H fun v H'=>aw (∃b,
  Sl H' 1 v (x::A).length ((x::A).map i64) (some b)∧H.size≤b∧ai H H'):=by
 have fZ:=hx x (by simp)
 have aX:=bV hn hx
 have eQ:r<H.size∧nb<H.size∧pb<H.size:=⟨aA h.own,aA h.Ov,aA h.Vk⟩
 have rdn:∀ {z:Int},0≤z∧z<N.length→(N.map i64)[z.toNat]? =some (i64 (ce N z)):=fun hz=>by rw[anR,F1 hz];rfl
 refine bm Cd ?_
 refine vs ?_
 refine(gP h x).mono ?_
 rintro _ H' ⟨rfl,e⟩
 obtain rfl:=e.symm
 rw[anI fZ]
 refine vs ?_
 have f0:ai H (H.new 3 [i64 x]):=(ag.refl _ _).new _ _
 have s0:Sl (H.new 3 [i64 x]) 1 (.slice (some ⟨H.size,0,none⟩) 1 1) [x].length ([x].map i64) (some H.size):=Sl.cf (size:=1) (n:=1) (xs:=[i64 x]) rfl rfl
 have h0:=h.ext f0 (fun h=>h) (fun h=>h) (fun h=>h)
 generalize H.new 3 [i64 x]=H0 at*
 refine v2 (ae h0.own) (ae h.own) ?_
 refine⟨⟨by omega,by omega⟩,?_⟩
 refine v5 (ae h0.Ov) (ae h.Ov) ant anw (rdn fZ) ?_
 have hp:mD (ce N) x A x:=hc
 have hd:∀ {a z:Int} {l:List Int},mD (ce N) a l z→ce N a=l.headD z:=fun{a z l} h=>by
  cases l with
  |nil=>exact h
  |cons b l=>exact h.1
 refine bk.intro (fun mm env H'=>∃ (d s:List Int) (wv:Value) (b:Nat),mm=s.length∧A=d++s∧fP H' r nb pb N P∧H.size≤b∧Sl H' 1 wv (x::d).length ((x::d).map i64) (some b)∧ag (fun z=>H.size≤z) H H'∧
  env=[(0,ptr r),(1,i64 x),(5,wv),(6,i64 (s.headD x))]) _ ⟨[],A,_,H.size,rfl,rfl,h0,anG _,s0,f0.mono fun _ _ h=>h.elim,by rw[hd hp]⟩ ?_
 rintro mm env H1 ⟨d,s,wv,b,rfl,YQ,h1,hb,s1,e1,rfl⟩
 have z1:=e1.size
 refine vs ?_
 cases s with
 |nil=>
  refine am.dec (fun _=>?_) (fun h=>absurd rfl h)
  refine vs ?_
  rw[aon]at YQ
  subst YQ
  exact⟨b,s1,hb,e1.mono fun z hz h=>by omega⟩
 |cons c s=>
  have Fx:c∈A:=by rw[YQ];simp
  have fS:=hx c (anZ _ Fx)
  have PL:c≠x:=fun e=>(anN.1 hn).1 (by rw[←e];exact Fx)
  have oK:d.length+(s.length+1)=A.length:=by rw[YQ,anD,anO]
  rw[anO]at aX
  refine am.dec (fun h=>absurd h PL) (fun _=>?_)
  refine vs ?_
  refine Lc (B:=H.size) hb (by omega) s1 c (by rw[anO];omega) fun w' H2 b' jy s2 e2=>?_
  refine vs ?_
  have h2:=h1.ext e2 (by omega) (by omega) (by omega)
  simp(disch:=(first|omega| (simp only[Zs]<;>omega)|fail)) only[go_sem, ↓reduceIte,Zv,ae h2.own,List.headD_cons]
  refine⟨⟨by omega,by omega⟩,?_⟩
  refine v4 (ae h2.Ov) ant anw (rdn fS) ?_
  have JU:ce N c=s.headD x:=hd (mD.YR.1 (by rw[←YQ];exact hp)).2
  exact⟨s.length,by simp,d++[c],s,w',b',rfl,by rw[YQ];simp,h2,jy,s2,e1.trans e2,by rw[JU]⟩
end
end Go.Proofs.YtjlnnljohemifaaGreat

namespace Go.Proofs.YtjlnnljohemifaaGreat
open Go Go.Vc
structure Pc where
 u:Int
 k:Int
 d:Int
 m:Bool
def Ow(y:Pc):List Value:=[i64 y.u,i64 y.k,i64 y.d,.bool y.m]
def aK(L:List Pc):List Value:=L.flatMap Ow
theorem No(L:List Pc):(aK L).length=L.length*4:=by
 induction L with
 |nil=>rfl
 |cons c r ih=>simp only[aK,ao6,anD,Ow,anO,aoH]at*;omega
theorem aaR{L:List Pc}{i:Nat}{y:Pc}(hi:L[i]? =some y):(aK L)[i*4]? =some (i64 y.u)∧(aK L)[i*4+1]? =some (i64 y.k)∧(aK L)[i*4+2]? =some (i64 y.d)∧(aK L)[i*4+3]? =some (.bool y.m):=by
 induction L generalizing i with
 |nil=>simp at hi
 |cons a r ih=>
  have e:aK (a::r)=i64 a.u::i64 a.k::i64 a.d:: .bool a.m::aK r:=rfl
  rw[e]
  cases i with
  |zero=>simp at hi;subst hi;exact⟨rfl,rfl,rfl,rfl⟩
  |succ i=>
   have:=ih (by simpa using hi)
   rw[show(i+1)*4=i*4+4 by omega]
   exact this
theorem nJ{L:List Pc}{i:Nat}{y:Pc}(hi:L[i]? =some y):(∀v,(aK L).set (i*4) (i64 v)=aK (L.set i ⟨v,y.k,y.d,y.m⟩))∧(∀v,(aK L).set (i*4+1) (i64 v)=aK (L.set i ⟨y.u,v,y.d,y.m⟩))∧
  (∀v,(aK L).set (i*4+2) (i64 v)=aK (L.set i ⟨y.u,y.k,v,y.m⟩))∧(∀v,(aK L).set (i*4+3) (.bool v)=aK (L.set i ⟨y.u,y.k,y.d,v⟩))∧
  (∀z:Pc,bh (aK L) (i*4) [i64 z.u,i64 z.k,i64 z.d,.bool z.m]=aK (L.set i z)):=by
 induction L generalizing i with
 |nil=>simp at hi
 |cons a r ih=>
  have e:aK (a::r)=i64 a.u::i64 a.k::i64 a.d:: .bool a.m::aK r:=rfl
  cases i with
  |zero=>simp at hi;subst hi;exact⟨fun _=>rfl,fun _=>rfl,fun _=>rfl,fun _=>rfl,fun _=>rfl⟩
  |succ i=>
   obtain⟨h1,h2,h3,h4,h5⟩:=ih (by simpa using hi)
   have e2:∀z:Pc,aK ((a::r).set (i+1) z)=i64 a.u::i64 a.k::i64 a.d:: .bool a.m::aK (r.set i z):=fun _=>rfl
   refine⟨fun v=>?_,fun v=>?_,fun v=>?_,fun v=>?_,fun z=>?_⟩
   ·rw[e,e2,show(i+1)*4=i*4+1+1+1+1 by omega]
    simp only[aoe]
    rw[h1]
   ·rw[e,e2,show(i+1)*4+1=i*4+1+1+1+1+1 by omega]
    simp only[aoe]
    rw[h2]
   ·rw[e,e2,show(i+1)*4+2=i*4+2+1+1+1+1 by omega]
    simp only[aoe]
    rw[h3]
   ·rw[e,e2,show(i+1)*4+3=i*4+3+1+1+1+1 by omega]
    simp only[aoe]
    rw[h4]
   ·have h5:=h5 z
    simp only[bh]at h5 ⊢
    rw[e,e2,show(i+1)*4=i*4+1+1+1+1 by omega]
    simp only[aoe]
    rw[h5]
def nT:Pc:=⟨-1, -1,0,false⟩
def eC(L:List Pc)(x:Int):Pc:=if 0≤x then(L[x.toNat]?).getD nT else nT
theorem F3{L:List Pc}{x:Int}{y:Pc}(h0:0≤x)(h:L[x.toNat]? =some y):eC L x=y:=by unfold eC;rw[if_pos h0,h];rfl
def mE(f:Int→Pc)(x:Int)(y:Pc):Int→Pc:=fun z=>if z=x then y else f z
theorem Bc{L:List Pc}{x:Int}(hx:0≤x∧x<L.length)(y:Pc):eC (L.set x.toNat y)=mE (eC L) x y:=by
 funext z
 show eC (L.set x.toNat y) z=if z=x then y else eC L z
 by_cases hz:z=x
 ·rw[if_pos hz,hz]
  unfold eC
  rw[if_pos hx.1,anB (by omega)];rfl
 ·rw[if_neg hz]
  unfold eC
  split
  ·rw[anA (by omega)]
  ·rfl
structure FB where
 n:Nat
 c:Nat
 r:Nat
 nb:Nat
 pb:Nat
 tb:Nat
 tp:Nat
def FB.S(B:FB)(C:Nat→Prop)(z:Nat):Prop:=C z∨z=B.n∨z=B.r∨z=B.nb∨z=B.pb∨z=B.tb∨z=B.tp
structure bT(H:Hp)(B:FB)(C:Nat→Prop)(w:Nw)(N P:List Int)(L:List Pc)(tops:List Int):Prop where
 own:∃tv,H.own B.n=some [ptr B.c,ptr B.r,.slice (some ⟨B.tb,0,none⟩) L.length L.length,tv]∧Sl H 1 tv tops.length (tops.map i64) (some B.tp)
 cells:CQ H B.c C w
 ring:fP H B.r B.nb B.pb N P
 inv:Bb (ce N) (ce P)
 places:H.own B.tb=some (aK L)
 len:L.length=w.cs.length∧N.length=w.cs.length
 mc:(B.n≠B.r∧B.n≠B.nb∧B.n≠B.pb∧B.n≠B.tb∧B.n≠B.tp)∧(B.tb≠B.r∧B.tb≠B.nb∧B.tb≠B.pb∧B.tb≠B.tp)∧(B.tp≠B.r∧B.tp≠B.nb∧B.tp≠B.pb)
 out:¬C B.n∧¬C B.r∧¬C B.nb∧¬C B.pb∧¬C B.tb∧¬C B.tp
section
variable {H H' : Hp} {B : FB} {C V : Nat → Prop} {w w' : Nw} {N P N' P' : List Int} {L L' : List Pc} {tops : List Int}
theorem bT.slt(h:bT H B C w N P L tops):∀z,B.S C z→z<H.size:=by
 obtain⟨tv,h1,h2⟩:=h.own
 rintro z (hz|rfl|rfl|rfl|rfl|rfl|rfl)
 ·exact h.cells.slt z hz
 ·exact aA h1
 ·exact aA h.ring.own
 ·exact aA h.ring.Ov
 ·exact aA h.ring.Vk
 ·exact aA h.places
 ·exact h2.lt
theorem bT.ext(h:bT H B C w N P L tops)(e:ag V H H')(hd:∀z,B.S C z→¬V z):bT H' B C w N P L tops:=by
 obtain⟨tv,h1,h2⟩:=h.own
 exact⟨⟨tv,e.own h1 (hd _ (.inr (.inl rfl))),h2.ext e (fun b hb=>by injection hb with hb;exact hb▸hd _ (.inr (.inr (.inr (.inr (.inr (.inr rfl)))))))⟩,h.cells.ext e (fun x hx=>hd x (.inl hx)),
  h.ring.ext e (hd _ (.inr (.inr (.inl rfl)))) (hd _ (.inr (.inr (.inr (.inl rfl))))) (hd _ (.inr (.inr (.inr (.inr (.inl rfl)))))),h.inv,e.own h.places (hd _ (.inr (.inr (.inr (.inr (.inr (.inl rfl))))))),h.len,h.mc,h.out⟩
theorem bT.fresh(h:bT H B C w N P L tops)(e:ai H H'):bT H' B C w N P L tops:=h.ext e fun _ _ h=>h
theorem bT.aJ(h:bT H B C w N P L tops)(c1:CQ H' B.c C w')(e:ag C H H')(hl:w'.cs.length=w.cs.length):bT H' B C w' N P L tops:=by
 obtain⟨tv,h1,h2⟩:=h.own
 obtain⟨o1,o2,o3,o4,o5,o6⟩:=h.out
 exact⟨⟨tv,e.own h1 o1,h2.ext e (fun b hb=>by injection hb with hb;exact hb▸o6)⟩,c1,h.ring.ext e o2 o3 o4,h.inv,e.own h.places o5,by rw[hl];exact h.len,h.mc,h.out⟩
theorem bT.uN(h:bT H B C w N P L tops)(r1:fP H' B.r B.nb B.pb N' P')(hi:Bb (ce N') (ce P'))(e:ag (fun z=>z=B.nb∨z=B.pb) H H')(hl:N'.length=N.length):bT H' B C w N' P' L tops:=by
 obtain⟨tv,h1,h2⟩:=h.own
 obtain⟨o1,o2,o3,o4,o5,o6⟩:=h.out
 obtain⟨⟨d1,d2,d3,d4,d5⟩,⟨d6,d7,d8,d9⟩,⟨d10,d11,d12⟩⟩:=h.mc
 exact⟨⟨tv,e.own h1 (by omega),h2.ext e (fun b hb=>by injection hb with hb;omega)⟩,h.cells.ext e (fun x hx hz=>by rcases hz with hz|hz;exact o3 (hz▸hx);exact o4 (hz▸hx)),r1,hi,e.own h.places (by omega),by rw[hl];exact h.len,h.mc,h.out⟩
theorem bT.RW(h:bT H B C w N P L tops)(hl:L'.length=L.length):bT (H.wr B.tb (aK L')) B C w N P L' tops∧ag (fun z=>z=B.tb) H (H.wr B.tb (aK L')):=by
 obtain⟨tv,h1,h2⟩:=h.own
 obtain⟨o1,o2,o3,o4,o5,o6⟩:=h.out
 obtain⟨⟨d1,d2,d3,d4,d5⟩,⟨d6,d7,d8,d9⟩,⟨d10,d11,d12⟩⟩:=h.mc
 have e:ag (fun z=>z=B.tb) H (H.wr B.tb (aK L')):=(ag.refl (fun z=>z=B.tb) _).wr (fun _=>rfl) _
 exact⟨⟨⟨tv,by rw[hl];exact e.own h1 d4,h2.ext e (fun b hb=>by injection hb with hb;omega)⟩,h.cells.ext e (fun x hx hz=>o5 (hz▸hx)),h.ring.ext e (Ne.symm d6) (Ne.symm d7) (Ne.symm d8),h.inv,ah h.places,by rw[hl];exact h.len,h.mc,h.out⟩,e⟩
theorem bT.fN(h:bT H B C w N P L tops):∃c l,H.own B.n=some [ptr B.c,ptr B.r,.slice (some ⟨B.tb,0,none⟩) L.length L.length,.slice (some ⟨B.tp,0,none⟩) tops.length c]∧H.own B.tp=some l∧tops.length≤c∧c≤l.length∧l.take tops.length=tops.map i64:=by
 obtain⟨tv,h1,_,l,c,rfl,h3,h4,h5,h6⟩:=h.own
 rw[anw]at h5 h6
 exact⟨c,l,h1,h3,h4,h5,h6⟩
theorem bT.eO(h:bT H B C w N P L tops){l:List Value}(hl:H.own B.tp=some l){i:Nat}{x:Int}(hx:tops[i]? =some x):l[i]? =some (i64 x):=by
 obtain⟨c,l',_,h2,_,_,h5⟩:=h.fN
 rw[hl]at h2
 injection h2 with h2
 subst h2
 have h7:(tops.map i64)[i]? =some (i64 x):=by rw[anR,hx];rfl
 rw[←h5,an9]at h7
 split at h7
 ·exact h7
 ·cases h7
theorem bT.lc(h:bT H B C w N P L tops){l:List Value}(hl:H.own B.tp=some l)(i:Nat)(v:Int):bT (H.wr B.tp (l.set i (i64 v))) B C w N P L (tops.set i v)∧ag (fun z=>z=B.tp) H (H.wr B.tp (l.set i (i64 v))):=by
 obtain⟨c,l',h1,h2,h3,h4,h5⟩:=h.fN
 rw[hl]at h2
 injection h2 with h2
 subst h2
 obtain⟨o1,o2,o3,o4,o5,o6⟩:=h.out
 obtain⟨⟨d1,d2,d3,d4,d5⟩,⟨d6,d7,d8,d9⟩,⟨d10,d11,d12⟩⟩:=h.mc
 have e:ag (fun z=>z=B.tp) H (H.wr B.tp (l.set i (i64 v))):=(ag.refl (fun z=>z=B.tp) _).wr (fun _=>rfl) _
 refine⟨⟨⟨_,e.own h1 d5,?_⟩,h.cells.ext e (fun x hx hz=>o6 (hz▸hx)),h.ring.ext e (Ne.symm d10) (Ne.symm d11) (Ne.symm d12),h.inv,e.own h.places d9,h.len,h.mc,h.out⟩,e⟩
 refine⟨by simp,l.set i (i64 v),c,by rw[anv],ah hl,by rw[anv];exact h3,by rw[anv,anw];exact h4,?_⟩
 rw[anv,anw,vj,h5,aoh]
theorem bT.rd(h:bT H B C w N P L tops){x:Int}(hx:0≤x∧x<w.cs.length):x.toNat*4+3< (aK L).length∧(aK L)[x.toNat*4]? =some (i64 (eC L x).u)∧(aK L)[x.toNat*4+1]? =some (i64 (eC L x).k)∧
  (aK L)[x.toNat*4+2]? =some (i64 (eC L x).d)∧(aK L)[x.toNat*4+3]? =some (.bool (eC L x).m):=by
 have hl:=h.len
 have hf:=No L
 obtain⟨y,hy⟩:∃y,L[x.toNat]? =some y:=⟨_,ans (by omega)⟩
 obtain⟨h1,h2,h3,h4⟩:=aaR hy
 rw[F3 hx.1 hy]
 exact⟨by omega,h1,h2,h3,h4⟩
theorem bT.aI(h:bT H B C w N P L tops){x:Int}(hx:0≤x∧x<w.cs.length)(v:Int):∃L',eC L'=mE (eC L) x ⟨v,(eC L x).k,(eC L x).d,(eC L x).m⟩∧bT (H.wr B.tb ((aK L).set (x.toNat*4) (i64 v))) B C w N P L' tops∧ag (fun z=>z=B.tb) H (H.wr B.tb ((aK L).set (x.toNat*4) (i64 v))):=by
 have hl:=h.len
 obtain⟨y,hy⟩:∃y,L[x.toNat]? =some y:=⟨_,ans (by omega)⟩
 rw[F3 hx.1 hy,(nJ hy).1]
 exact⟨_,Bc (by omega) _,h.RW (anv ..)⟩
theorem bT.eo(h:bT H B C w N P L tops){x:Int}(hx:0≤x∧x<w.cs.length)(v:Int):∃L',eC L'=mE (eC L) x ⟨(eC L x).u,v,(eC L x).d,(eC L x).m⟩∧bT (H.wr B.tb ((aK L).set (x.toNat*4+1) (i64 v))) B C w N P L' tops∧ag (fun z=>z=B.tb) H (H.wr B.tb ((aK L).set (x.toNat*4+1) (i64 v))):=by
 have hl:=h.len
 obtain⟨y,hy⟩:∃y,L[x.toNat]? =some y:=⟨_,ans (by omega)⟩
 rw[F3 hx.1 hy,(nJ hy).2.1]
 exact⟨_,Bc (by omega) _,h.RW (anv ..)⟩
theorem bT.W3(h:bT H B C w N P L tops){x:Int}(hx:0≤x∧x<w.cs.length)(v:Int):∃L',eC L'=mE (eC L) x ⟨(eC L x).u,(eC L x).k,v,(eC L x).m⟩∧bT (H.wr B.tb ((aK L).set (x.toNat*4+2) (i64 v))) B C w N P L' tops∧ag (fun z=>z=B.tb) H (H.wr B.tb ((aK L).set (x.toNat*4+2) (i64 v))):=by
 have hl:=h.len
 obtain⟨y,hy⟩:∃y,L[x.toNat]? =some y:=⟨_,ans (by omega)⟩
 rw[F3 hx.1 hy,(nJ hy).2.2.1]
 exact⟨_,Bc (by omega) _,h.RW (anv ..)⟩
theorem bT.cU(h:bT H B C w N P L tops){x:Int}(hx:0≤x∧x<w.cs.length)(v:Bool):∃L',eC L'=mE (eC L) x ⟨(eC L x).u,(eC L x).k,(eC L x).d,v⟩∧bT (H.wr B.tb ((aK L).set (x.toNat*4+3) (.bool v))) B C w N P L' tops∧ag (fun z=>z=B.tb) H (H.wr B.tb ((aK L).set (x.toNat*4+3) (.bool v))):=by
 have hl:=h.len
 obtain⟨y,hy⟩:∃y,L[x.toNat]? =some y:=⟨_,ans (by omega)⟩
 rw[F3 hx.1 hy,(nJ hy).2.2.2.1]
 exact⟨_,Bc (by omega) _,h.RW (anv ..)⟩
theorem bT.Np(h:bT H B C w N P L tops){x:Int}(hx:0≤x∧x<w.cs.length)(z:Pc):∃L',eC L'=mE (eC L) x z∧bT (H.wr B.tb (bh (aK L) (x.toNat*4) [i64 z.u,i64 z.k,i64 z.d,.bool z.m])) B C w N P L' tops∧ag (fun z=>z=B.tb) H (H.wr B.tb (bh (aK L) (x.toNat*4) [i64 z.u,i64 z.k,i64 z.d,.bool z.m])):=by
 have hl:=h.len
 obtain⟨y,hy⟩:∃y,L[x.toNat]? =some y:=⟨_,ans (by omega)⟩
 rw[(nJ hy).2.2.2.2]
 exact⟨_,Bc (by omega) _,h.RW (anv ..)⟩
end
end Go.Proofs.YtjlnnljohemifaaGreat

namespace Go.Proofs.YtjlnnljohemifaaGreat
open Go Go.Vc
def JX(f:Int→Pc)(ch:Int→List Int)(par:Int→Int):Prop:=∀x,(f x).u=par x∧(f x).k=(ch x).headD (-1)∧(f x).d=(ch x).length
section
variable {H H' : Hp} {B : FB} {C V : Nat → Prop} {w : Nw} {N P : List Int} {L : List Pc} {tops : List Int} {ch : Int → List Int} {par : Int → Int} {ax : Int → List Int} {W : List Int}
theorem dV.RX{lt:Int→Int→Bool}{nx:Int→Int}(f:dV (aG w) lt nx ch par ax W){x:Int}(hx:x∈W):0≤x∧x<w.cs.length:=by
 obtain⟨a,b,_⟩:=aD (f.wm x hx).2.2
 exact⟨a,b⟩
theorem dV.rin{lt:Int→Int→Bool}{nx:Int→Int}(f:dV (aG w) lt nx ch par ax W){g x:Int}(hx:x∈ax g):0≤x∧x<w.cs.length:=by
 obtain⟨h1,_,h2,_⟩:=f.rm g x hx
 obtain⟨a,b,_⟩:=aD (w:=w) (x:=x) (by omega)
 exact⟨a,b⟩
theorem dV.GA{lt:Int→Int→Bool}{nx:Int→Int}(f:dV (aG w) lt nx ch par ax W){p x:Int}(hx:x∈ch p):0≤x∧x<w.cs.length:=by
 obtain⟨a,b,_⟩:=aD (f.pr.dn p x hx).2.2.2.1
 exact⟨a,b⟩
theorem xQ(m:bT H B C w N P L tops){x g:Int}(f:dV (aG w) (aQ w) (ce N) ch par ax (x::W))(hg:aG w x=g)(di:g<tops.length)(ht:bi tops g=(ax g).headD (-1)):
  af Tryz.prog sS [ptr B.n,i64 g,i64 x] H fun v H'=>aw (∃N' P' F4 l,bT H' B C w N' P' L F4∧F4.length=tops.length∧bi F4=iX (bi tops) g (l.headD (-1))∧
   dV (aG w) (aQ w) (ce N') ch par (ay ax g l) W∧(l.headD (-1)=x∨(l.headD (-1)=bi tops g∧bi tops g≠ -1))∧l.headD (-1)≠ -1∧
   (x≠l.headD (-1)→aQ w (l.headD (-1)) x=true)∧(bi tops g≠ -1→bi tops g≠l.headD (-1)→aQ w (l.headD (-1)) (bi tops g)=true)∧ag (fun z=>C z∨z=B.nb∨z=B.pb∨z=B.tp) H H'):=by
 have hx:=f.RX (x:=x) (by simp)
 have Dl:=f.YS (c:=x) (by simp)
 have RY:0<g:=by rw[←hg];exact(f.wm x (by simp)).2.2
 obtain⟨cc,lt,o1,q1,xF,tF,On⟩:=m.fN
 have q2:=m.eO q1 (dT (tops:=tops) (h:=g) (by omega) di)
 have aX:=m.len
 refine bm ti ?_
 refine v1 (ae o1) ?_
 refine⟨⟨by omega,by omega⟩,?_⟩
 refine v4 (ae q1) ant anw q2 ?_
 refine am.dec (fun h0=>?_) (fun h0=>?_)<;>refine v1 (ae o1) ?_
 ·have hr:ax g=[]:=by
   rw[h0]at ht
   cases hc:ax g with
   |nil=>rfl
   |cons c r=>rw[hc]at ht;exact absurd ht.symm (f.rne (h:=g) (by rw[hc];simp))
  refine⟨⟨by omega,by omega⟩,?_⟩
  refine v3 q1 ant anw ?_
  refine⟨by omega,?_⟩
  obtain⟨m2,e2⟩:=m.lc q1 g.toNat x
  refine vs ?_
  have f2:=f.aaS (by rw[hg];exact hr)
  rw[hg]at f2
  exact⟨N,P,_,[x],m2,anv ..,ez (by omega) di x,f2,.inl rfl,Dl,fun h=>absurd rfl h,fun h=>absurd h0 h,e2.mono fun z _ h=>.inr (.inr (.inr h))⟩
 obtain⟨t,A,hr⟩:∃t A,ax g=t::A:=by
  cases hc:ax g with
  |nil=>rw[hc]at ht;exact absurd ht h0
  |cons c r=>exact⟨c,r,rfl⟩
 have htt:bi tops g=t:=by rw[ht,hr];rfl
 rw[htt]
 rw[htt]at q2
 have htr:=f.rin (g:=g) (x:=t) (by rw[hr];simp)
 have htn:=f.rne (c:=t) (h:=g) (by rw[hr];simp)
 have htx:t≠x:=fun e=>(f.rm g t (by rw[hr];simp)).2.2.2 (by rw[e];simp)
 refine⟨⟨by omega,by omega⟩,?_⟩
 refine v4 (ae q1) ant anw q2 ?_
 refine(dk m.ring m.inv (x:=t) (y:=x) (by omega) (by omega)).mono ?_
 rintro _ H2 ⟨rfl,N2,P2,r2,l2,n2,i2,e2⟩
 have m2:=m.uN r2 i2 e2 l2
 have f2:=f.RZ (t:=t) (A:=A) (by rw[hg];exact hr)
 rw[hg,←n2]at f2
 obtain⟨cc,lt2,o2,q3,_⟩:=m2.fN
 have q4:=m2.eO q3 (dT (tops:=tops) (h:=g) (by omega) di)
 rw[htt]at q4
 refine v1 (ae o2) ?_
 refine⟨⟨by omega,by omega⟩,?_⟩
 refine v4 (ae q3) ant anw q4 ?_
 refine(cD m2.cells x t).mono ?_
 rintro _ H3 ⟨rfl,c3,e3⟩
 have m3:=m2.aJ c3 e3 rfl
 have zI:=gN (w:=w) (a:=x) (b:=t) (by omega) (by have:=(f.rm g t (by rw[hr];simp)).1;omega)
 rw[zI]
 have D4:ag (fun z=>C z∨z=B.nb∨z=B.pb∨z=B.tp) H H3:=(e2.mono fun z _ h=>h.elim (fun h=>.inr (.inl h)) (fun h=>.inr (.inr (.inl h)))).trans (e3.mono fun z _ h=>.inl h)
 cases aO:aQ w x t
 ·refine vs ?_
  have Tg:=((ar w).Ob t x htx).resolve_right (by rw[aO];simp)
  refine⟨N2,P2,tops,t::x::A,m3,rfl,?_,f2,.inr ⟨rfl,htn⟩,htn,fun _=>Tg,fun _ h=>absurd rfl h,D4⟩
  funext z
  show bi tops z=if z=g then t else bi tops z
  split
  ·rename_i e;rw[e,htt]
  ·rfl
 ·obtain⟨cc,lt3,o3,q5,_,hc5,_⟩:=m3.fN
  have q6:=m3.eO q5 (dT (tops:=tops) (h:=g) (by omega) di)
  have oZ:=(anu.1 q6).1
  refine v1 (ae o3) ?_
  refine⟨⟨by omega,by omega⟩,?_⟩
  refine v3 q5 ant anw ?_
  refine⟨by omega,?_⟩
  obtain⟨m4,e4⟩:=m3.lc q5 g.toNat x
  refine vs ?_
  have f3:=f2.tg (g:=g) (l:=x::A++[t]) (by
   unfold ay
   rw[if_pos rfl]
   exact aou (l₁:=[t]) (l₂:=x::A)) (by
   have:=f2.rc g
   unfold ay at this
   rw[if_pos rfl]at this
   exact vu.rot (l1:=[t]) (l2:=x::A) this)
  rw[eB]at f3
  exact⟨N2,P2,_,x::A++[t],m4,anv ..,ez (by omega) di x,f3,.inl rfl,Dl,fun h=>absurd rfl h,fun _ _=>aO,D4.trans (e4.mono fun z _ h=>.inr (.inr (.inr h)))⟩
theorem F5(m:bT H B C w N P L tops){x y:Int}(f:dV (aG w) (aQ w) (ce N) ch par ax (x::y::W))(hp:JX (eC L) ch par)(hh:aG w x=aG w y)(hl:aQ w x y=true):
  af Tryz.prog qW [ptr B.n,i64 y,i64 x] H fun v H'=>aw (∃N' P' L' dU bF,bT H' B C w N' P' L' tops∧dV (aG w) (aQ w) (ce N') dU bF ax (x::W)∧JX (eC L') dU bF∧(dU x).length=(ch x).length+1∧(∀z,z≠x→dU z=ch z)∧
   ag (fun z=>z=B.nb∨z=B.pb∨z=B.tb) H H'):=by
 have hx:=f.RX (x:=x) (by simp)
 have hy:=f.RX (x:=y) (by simp)
 have Mk:x≠y:=fun e=>by rw[e,(ar w).vk]at hl;cases hl
 have aX:=m.len
 obtain⟨tv,o1,_⟩:=m.own
 obtain⟨px,kx,dx⟩:=hp x
 obtain⟨py,ky,dy⟩:=hp y
 obtain⟨a0,a1,a2,a3,a4⟩:=m.rd hx
 have nO:(ch x).length≤w.cs.length:=bV (f.pr.nd x) fun c hc=>f.GA hc
 have wY:=m.cells.DY
 refine bm rI ?_
 refine v1 (ae o1) ?_
 refine⟨⟨by omega,by omega⟩,?_⟩
 refine v1 (ae o1) ?_
 refine⟨⟨by omega,by omega⟩,?_⟩
 refine v3 (ae m.places) ant a2 ?_
 refine am.dec (fun h0=>?_) (fun h0=>?_)<;>refine vs ?_
 ·have hc:ch x=[]:=by
   rw[h0]at kx
   cases hc:ch x with
   |nil=>rfl
   |cons c r=>rw[hc]at kx;exact absurd kx.symm (f.pr.ne (x:=x) (by rw[hc];simp))
  have f1:=f.W4 hh hl hc
  obtain⟨H1,eH⟩:∃H1,H1=H:=⟨_,rfl⟩
  rw[←eH]at m ⊢
  have m1:=m
  obtain⟨N1,eN⟩:∃N1,N1=N:=⟨_,rfl⟩
  obtain⟨P1,eP⟩:∃P1,P1=P:=⟨_,rfl⟩
  rw[←eN,←eP]at m1
  rw[←eN]at f1
  have e1:ag (fun z=>z=B.nb∨z=B.pb) H1 H1:=ag.refl _ _
  have sE:([y]:List Int).length=(ch x).length+1:=by rw[hc];rfl
  obtain⟨b0,_⟩:=m1.rd hx
  obtain⟨L2,k2,m2,e2⟩:=m1.eo hx y
  refine v2 m1.places ant ?_
  refine⟨by omega,?_⟩
  refine vs ?_
  generalize H1.wr B.tb ((aK L).set (x.toNat*4+1) (i64 y))=H2 at*
  obtain⟨c0,c1,c2,c3,c4⟩:=m2.rd hx
  have jv:(eC L2 x).d=(ch x).length:=by rw[k2];unfold mE;rw[if_pos rfl];exact dx
  obtain⟨L3,k3,m3,e3⟩:=m2.W3 hx ((eC L2 x).d+1)
  rw[jv]at c3 k3 m3 e3
  refine v4 (ae m2.places) m2.places ant c3 ?_
  rw[wrap64 (by omega) (by omega)]
  refine⟨by omega,?_⟩
  refine vs ?_
  generalize H2.wr B.tb ((aK L2).set (x.toNat*4+2) (i64 ((ch x).length+1)))=H3 at*
  obtain⟨d0,_⟩:=m3.rd hy
  obtain⟨L4,k4,m4,e4⟩:=m3.aI hy x
  refine v3 m3.places ant Nat.add_zero ?_
  refine⟨by omega,?_⟩
  refine vs ?_
  generalize H3.wr B.tb ((aK L3).set (y.toNat*4) (i64 x))=H4 at*
  obtain⟨g0,_⟩:=m4.rd hy
  obtain⟨L5,k5,m5,e5⟩:=m4.cU hy false
  refine v3 m4.places ant Nat.add_zero ?_
  refine⟨by omega,?_⟩
  refine vs ?_
  refine⟨N1,P1,L5,_,_,m5,f1,fun z=>?_,?_,fun z hz=>?_,((((e1.mono fun z _ h=>h.elim .inl fun h=>.inr (.inl h)).trans (e2.mono fun z _ h=>.inr (.inr h))).trans (e3.mono fun z _ h=>.inr (.inr h))).trans (e4.mono fun z _ h=>.inr (.inr h))).trans (e5.mono fun z _ h=>.inr (.inr h))⟩
  ·rw[k5,k4,k3,k2]
   unfold mE ay
   by_cases h1:z=y
   ·rw[h1,if_pos rfl,if_neg Mk.symm,if_neg Mk.symm]
    simp only[if_neg Mk.symm,if_true]
    refine⟨by unfold aI;rw[if_pos rfl],?_,?_⟩
    ·exact ky
    ·exact dy
   ·rw[if_neg h1]
    unfold aI
    rw[if_neg h1]
    by_cases h2:z=x
    ·rw[h2]
     simp only[if_true,if_neg Mk]
     exact⟨px,rfl,by rw[sE];omega⟩
    ·simp only[if_neg h1,if_neg h2]
     exact hp z
  ·unfold ay;rw[if_pos rfl,sE]
  ·unfold ay;rw[if_neg hz]
 ·obtain⟨k,K,hc⟩:∃k K,ch x=k::K:=by
   cases hc:ch x with
   |nil=>rw[hc]at kx;exact absurd kx h0
   |cons c r=>exact⟨c,r,rfl⟩
  have hk:(eC L x).k=k:=by rw[kx,hc];rfl
  have YT:=f.GA (p:=x) (x:=k) (by rw[hc];simp)
  have f1:=f.under hh hl hc
  rw[hk]at a2
  refine v4 (ae o1) (ae m.places) ant a2 ?_
  refine(dk m.ring m.inv (x:=k) (y:=y) (by omega) (by omega)).mono ?_
  rintro _ H1 ⟨rfl,N1,P1,r1,l1,n1,i1,e1⟩
  have m1:=m.uN r1 i1 e1 l1
  rw[←n1]at f1
  have sE:(y::K++[k]).length=(ch x).length+1:=by rw[hc];simp
  refine vs ?_
  obtain⟨b0,_⟩:=m1.rd hx
  obtain⟨L2,k2,m2,e2⟩:=m1.eo hx y
  refine v2 m1.places ant ?_
  refine⟨by omega,?_⟩
  refine vs ?_
  generalize H1.wr B.tb ((aK L).set (x.toNat*4+1) (i64 y))=H2 at*
  obtain⟨c0,c1,c2,c3,c4⟩:=m2.rd hx
  have jv:(eC L2 x).d=(ch x).length:=by rw[k2];unfold mE;rw[if_pos rfl];exact dx
  obtain⟨L3,k3,m3,e3⟩:=m2.W3 hx ((eC L2 x).d+1)
  rw[jv]at c3 k3 m3 e3
  refine v4 (ae m2.places) m2.places ant c3 ?_
  rw[wrap64 (by omega) (by omega)]
  refine⟨by omega,?_⟩
  refine vs ?_
  generalize H2.wr B.tb ((aK L2).set (x.toNat*4+2) (i64 ((ch x).length+1)))=H3 at*
  obtain⟨d0,_⟩:=m3.rd hy
  obtain⟨L4,k4,m4,e4⟩:=m3.aI hy x
  refine v3 m3.places ant Nat.add_zero ?_
  refine⟨by omega,?_⟩
  refine vs ?_
  generalize H3.wr B.tb ((aK L3).set (y.toNat*4) (i64 x))=H4 at*
  obtain⟨g0,_⟩:=m4.rd hy
  obtain⟨L5,k5,m5,e5⟩:=m4.cU hy false
  refine v3 m4.places ant Nat.add_zero ?_
  refine⟨by omega,?_⟩
  refine vs ?_
  refine⟨N1,P1,L5,_,_,m5,f1,fun z=>?_,?_,fun z hz=>?_,((((e1.mono fun z _ h=>h.elim .inl fun h=>.inr (.inl h)).trans (e2.mono fun z _ h=>.inr (.inr h))).trans (e3.mono fun z _ h=>.inr (.inr h))).trans (e4.mono fun z _ h=>.inr (.inr h))).trans (e5.mono fun z _ h=>.inr (.inr h))⟩
  ·rw[k5,k4,k3,k2]
   unfold mE ay
   by_cases h1:z=y
   ·rw[h1,if_pos rfl,if_neg Mk.symm,if_neg Mk.symm]
    simp only[if_neg Mk.symm,if_true]
    refine⟨by unfold aI;rw[if_pos rfl],?_,?_⟩
    ·exact ky
    ·exact dy
   ·rw[if_neg h1]
    unfold aI
    rw[if_neg h1]
    by_cases h2:z=x
    ·rw[h2]
     simp only[if_true,if_neg Mk]
     exact⟨px,rfl,by rw[sE];omega⟩
    ·simp only[if_neg h1,if_neg h2]
     exact hp z
  ·unfold ay;rw[if_pos rfl,sE]
  ·unfold ay;rw[if_neg hz]
end
end Go.Proofs.YtjlnnljohemifaaGreat

namespace Go.Proofs.YtjlnnljohemifaaGreat
open Go Go.Vc
theorem uO(H:Hp):af Tryz.prog Ac [] H fun v H'=>aw (v= .agg #[i64 (-1),i64 (-1),i64 0,.bool false]∧ai H H'):=by
 refine bm Aw ?_
 have f0:ai H (H.new 273 [Value.int .i64 0,Value.int .i64 0,Value.int .i64 0,Value.bool false]):=(ag.refl _ _).new _ _
 refine vs ?_
 have q:((H.new 273 [Value.int .i64 0,Value.int .i64 0,Value.int .i64 0,Value.bool false]).wr H.size [Value.int .i64 (-1),Value.int .i64 (-1),Value.int .i64 0,Value.bool false]).own H.size=some [Value.int .i64 (-1),Value.int .i64 (-1),Value.int .i64 0,Value.bool false]:=ah (aB _ _ _)
 have e2:ag (fun z=>z=H.size) (H.new 273 [Value.int .i64 0,Value.int .i64 0,Value.int .i64 0,Value.bool false]) ((H.new 273 [Value.int .i64 0,Value.int .i64 0,Value.int .i64 0,Value.bool false]).wr H.size [Value.int .i64 (-1),Value.int .i64 (-1),Value.int .i64 0,Value.bool false]):=(ag.refl (fun z=>z=H.size) _).wr (fun _=>rfl) _
 refine v1 (ae q) ?_
 exact⟨rfl,f0.then e2 (fun z hz=>by omega)⟩
section
variable {H H' : Hp} {B : FB} {C V : Nat → Prop} {w : Nw} {N P : List Int} {L : List Pc} {tops : List Int} {ch : Int → List Int} {par : Int → Int} {ax : Int → List Int} {W : List Int}
theorem F6(m:bT H B C w N P L tops){x g:Int}{A:List Int}(f:dV (aG w) (aQ w) (ce N) ch par ax W)(hp:JX (eC L) ch par)(hr:ax g=x::A):
  af Tryz.prog qV [ptr B.n,i64 x] H fun v H'=>aw (∃N' P' L' A',bT H' B C w N' P' L' tops∧dV (aG w) (aQ w) (ce N') (ay ch x []) (fk ch par x) (ay ax g (x::A')) W∧JX (eC L') (ay ch x []) (fk ch par x)∧
   ag (fun z=>z=B.nb∨z=B.pb∨z=B.tb) H H'):=by
 have hx:=f.rin (g:=g) (x:=x) (by rw[hr];simp)
 have dF:=(f.rm g x (by rw[hr];simp)).2.1
 have aX:=m.len
 have wY:=m.cells.DY
 obtain⟨tv,o1,_⟩:=m.own
 obtain⟨px,kx,dx⟩:=hp x
 obtain⟨a0,a1,a2,a3,a4⟩:=m.rd hx
 refine bm rG ?_
 refine v1 (ae o1) ?_
 refine⟨⟨by omega,by omega⟩,?_⟩
 refine v3 (ae m.places) ant a2 ?_
 refine am.dec (fun h0=>?_) (fun h0=>?_)<;>refine vs ?_
 ·have hc:ch x=[]:=by
   rw[h0]at kx
   cases hc:ch x with
   |nil=>rfl
   |cons c r=>rw[hc]at kx;exact absurd kx.symm (f.pr.ne (x:=x) (by rw[hc];simp))
  have e1:ay ch x []=ch:=by
   funext z
   unfold ay
   split
   ·rename_i e;rw[e,hc]
   ·rfl
  have e2:fk ch par x=par:=by
   funext z
   unfold fk
   rw[hc,if_neg (by simp)]
  have e3:ay ax g (x::A)=ax:=by
   funext z
   unfold ay
   split
   ·rename_i e;rw[e,hr]
   ·rfl
  exact⟨N,P,L,A,m,by rw[e1,e2,e3];exact f,by rw[e1,e2];exact hp,ag.refl _ _⟩
 obtain⟨k,K,hc⟩:∃k K,ch x=k::K:=by
  cases hc:ch x with
  |nil=>rw[hc]at kx;exact absurd kx h0
  |cons c r=>exact⟨c,r,rfl⟩
 have hk:(eC L x).k=k:=by rw[kx,hc];rfl
 rw[hk]
 have Be:=f.cy x
 have gk:=f.pr.nd x
 rw[hc]at Be gk
 have bJ:∀c∈k::K,0≤c∧c<w.cs.length:=fun c Fx=>f.GA (p:=x) (by rw[hc];exact Fx)
 have YO:(k::K).length≤w.cs.length:=bV gk bJ
 have hk1:(k::K).length=K.length+1:=anO
 refine v1 (ae o1) ?_
 refine(oQ m.ring Be gk (fun c Fx=>by have:=bJ c Fx;omega) (by omega)).mono ?_
 rintro kv H1 ⟨b,s1,hb,f1⟩
 have m1:=m.fresh f1
 have z1:=f1.size
 have hS:=m.slt
 have UY:B.tb<H.size:=hS _ (.inr (.inr (.inr (.inr (.inr (.inl rfl))))))
 obtain⟨ka,kc,rfl⟩:=Sl.shape s1
 refine vs ?_
 refine bk.intro (fun mm env H'=>∃ (i:Nat) (L':List Pc),mm=(k::K).length - i∧i≤(k::K).length∧bT H' B C w N P L' tops∧Sl H' 1 (.slice ka (k::K).length kc) (k::K).length ((k::K).map i64) (some b)∧ag (fun z=>z=B.tb) H H'∧
  (∀z,(eC L' z).k=(eC L z).k∧(eC L' z).d=(eC L z).d∧(eC L' z).u=if z∈(k::K).take i then -1 else(eC L z).u)∧
  env=[(0,ptr B.n),(1,i64 x),(4,i64 k),(22,.slice ka (k::K).length kc),(23,i64 (k::K).length),(24,i64 i)]) _ ⟨0,L,rfl,by omega,m1,s1,f1.mono (fun _ _ h=>h.elim),fun z=>⟨rfl,rfl,by simp⟩,rfl⟩ ?_
 rintro mm env H2 ⟨i,L2,rfl,hi,m2,s2,e2,g2,rfl⟩
 refine vs ?_
 refine am.dec (fun gi=>?_) (fun gi=>?_)<;>refine vs ?_
 ·have mI:i< (k::K).length:=by omega
  obtain⟨c,Ht⟩:∃c,(k::K)[i]? =some c:=⟨_,ans mI⟩
  have Fx:=bJ c (anz Ht)
  obtain⟨_,kb,lb,rfl,q2,q3⟩:=Sl.zg s2 Ht
  obtain⟨Nb,o2,_⟩:=m2.own
  have rU:=m2.len
  refine⟨⟨by omega,by omega⟩,?_⟩
  refine v6 (ae q2) ant anw Int.toNat_natCast q3 (ae o2) ?_
  refine⟨⟨by omega,by omega⟩,?_⟩
  obtain⟨b0,_⟩:=m2.rd Fx
  obtain⟨L3,k3,m3,e3⟩:=m2.aI Fx (-1)
  refine v3 m2.places ant Nat.add_zero ?_
  refine⟨by omega,?_⟩
  refine vs ?_
  generalize H2.wr B.tb ((aK L2).set (c.toNat*4) (Value.int .i64 (-1)))=H3 at*
  obtain⟨c0,_⟩:=m3.rd Fx
  have RE:=m3.len
  obtain⟨L4,k4,m4,e4⟩:=m3.cU Fx false
  refine⟨⟨by omega,by omega⟩,?_⟩
  refine v3 m3.places ant Nat.add_zero ?_
  refine⟨by omega,?_⟩
  refine vs ?_
  refine⟨(k::K).length - (i+1),by omega,i+1,L4,rfl,by omega,m4,(s2.ext e3 (fun z hz dM=>by injection hz with hz;omega)).ext e4 (fun z hz dM=>by injection hz with hz;omega),(e2.trans e3).trans e4,fun z=>?_,?_⟩
  ·have tk:(k::K).take (i+1)=(k::K).take i++[c]:=by rw[aoa,Ht];rfl
   obtain⟨g3,g4,g5⟩:=g2 z
   rw[tk,k4,k3]
   unfold mE
   by_cases hz:z=c
   ·simp only[hz,if_true]
    rw[hz]at g3 g4
    exact⟨g3,g4,by simp⟩
   ·simp only[if_neg hz]
    refine⟨g3,g4,?_⟩
    rw[g5]
    simp only[anH,anC,hz,or_false]
  ·rw[wrap64 (by omega) (by omega)]
   rfl
 obtain rfl:i=(k::K).length:=by omega
 rw[an4]at g2
 have YT:=bJ k (by simp)
 have f2:=f.raise hr hc
 obtain⟨Nb,o2,_⟩:=m2.own
 have rU:=m2.len
 refine v1 (ae o2) ?_
 refine(dk m2.ring m2.inv (x:=x) (y:=k) (by omega) (by omega)).mono ?_
 rintro _ H3 ⟨rfl,N3,P3,r3,l3,n3,i3,e3⟩
 have m3:=m2.uN r3 i3 e3 l3
 rw[←n3]at f2
 obtain⟨cc,lt,o3,_⟩:=m3.fN
 refine vs ?_
 refine jX.intro (fun H'=>H'.own B.n=some [ptr B.c,ptr B.r,.slice (some ⟨B.tb,0,none⟩) L2.length L2.length,.slice (some ⟨B.tp,0,none⟩) tops.length cc]) o3 ?_
 refine vs ?_
 refine fV.intro (.slice (some ⟨B.tb,0,none⟩) L2.length L2.length) (fun H' hI=>by refine v1 (ae hI) ?_;trivial) ?_
 refine vs ?_
 refine(uO H3).mono ?_
 rintro _ H4 ⟨rfl,e4⟩
 have o4:=e4.own o3 (fun h=>h)
 refine And.intro o4 ?_
 have m4:=m3.fresh e4
 refine vs ?_
 refine⟨⟨by omega,by omega⟩,?_⟩
 obtain⟨b0,_⟩:=m4.rd hx
 obtain⟨L5,k5,m5,e5⟩:=m4.Np hx nT
 refine v2 m4.places ant ?_
 refine⟨by omega,?_⟩
 rw[show bh (aK L2) (x.toNat*4) (aH (Value.agg #[i64 (-1),i64 (-1),i64 0,Value.bool false]))=bh (aK L2) (x.toNat*4) [i64 nT.u,i64 nT.k,i64 nT.d,.bool nT.m]from rfl]
 have xM:=m4.mc.1.2.2.2.1
 generalize H4.wr B.tb (bh (aK L2) (x.toNat*4) [i64 nT.u,i64 nT.k,i64 nT.d,.bool nT.m])=H5 at*
 refine vs ?_
 refine And.intro (e5.own o4 xM) ?_
 refine vs ?_
 refine⟨N3,P3,L5,K++k::A,m5,f2,fun z=>?_,(((e2.mono fun z _ h=>.inr (.inr h)).trans (e3.mono fun z _ h=>h.elim .inl fun h=>.inr (.inl h))).trans (e4.mono fun z _ h=>h.elim)).trans (e5.mono fun z _ h=>.inr (.inr h))⟩
 rw[k5]
 unfold mE ay fk
 obtain⟨g3,g4,g5⟩:=g2 z
 obtain⟨pz,kz,dz⟩:=hp z
 by_cases hz:z=x
 ·rw[if_pos hz,if_pos hz,hz,if_neg (fun h=>by have:=(f.Nq h).1 g;rw[hr]at this;exact this (by simp)),dF]
  exact⟨rfl,rfl,rfl⟩
 ·rw[if_neg hz,if_neg hz,g3,g4,g5,hc]
  refine⟨?_,kz,dz⟩
  split
  ·rfl
  ·exact pz
end
end Go.Proofs.YtjlnnljohemifaaGreat
