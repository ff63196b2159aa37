/- Texts put behind each other. -/
import Derived.Test.YthpjfeolagohkaaGreatK98
import Derived.Test.YthpjfeolagohkaaGreatK3
import Derived.Test.YthpjfeolagohkaaGreatK19
import Derived.Test.YthpjfeolagohkaaGreatK22
import Derived.Test.YthpjfeolagohkaaGreatK29
import Derived.Test.YthpjfeolagohkaaGreatK31
import Derived.Test.YthpjfeolagohkaaGreatK34
import Derived.Test.YthpjfeolagohkaaGreatK35
set_option maxRecDepth 100000
set_option maxHeartbeats 8000000
set_option linter.unusedVariables false
set_option linter.unusedSimpArgs false
namespace Go.Proofs.YthpjfeolagohkaaGreat
open Go Go.Vc
theorem OU(n:Nat):yQ (.iface 174 (ptr n)) (fun H S w=>∃st,dW H n S st w) where
 slt:=by rintro H S w ⟨st,h⟩;exact h.slt
 ext:=by rintro H H' S w T ⟨st,h⟩ e hd;exact⟨st,h.ext e hd⟩
 cells:=by
  rintro H S w ⟨st,c,C,rv,fr,fa,ps,at_,m,l,hS⟩
  exact⟨c,C,st,m.cells⟩
 has:=by
  rintro H S w g ⟨st,c,C,rv,fr,fa,ps,at_,m,l,hS⟩
  obtain⟨av,ho,_⟩:=m.own
  exact⟨_,_,bG,ptr c,rfl,fW (off:=0) (by kernel_rfl) (ae ho) rfl,(ij m.cells g).mono fun v H' hp=>hp⟩
 make:=by
  rintro H S w ⟨st,h⟩
  refine⟨_,_,qu,ptr n,rfl,bF (by kernel_rfl),(Hg h).mono ?_⟩
  rintro v H' (⟨h1,rfl,rfl⟩| ⟨h1,rfl,S',h2,h3,h4⟩)
  ·exact .inl ⟨h1,rfl,cF.same ⟨st,h⟩ (ag.refl _ _)⟩
  ·exact .inr ⟨h1,rfl,S',⟨_,h2⟩,h3,h4⟩
 insert:=by
  rintro H S w g x k s ⟨st,h⟩
  refine⟨_,_,nH,ptr n,rfl,bF (by kernel_rfl),(DU h g x k s).mono ?_⟩
  rintro v H' (⟨h1,rfl,h2,h3⟩| ⟨h1,rfl,S',q,h2,_,h3,h4,h5⟩)
  ·exact .inl ⟨h1,rfl,cF.same ⟨st,h2⟩ h3⟩
  ·exact .inr ⟨h1,rfl,S',⟨_,h3⟩,h4,h5⟩
 min:=by
  rintro H S w g ⟨st,h⟩
  refine⟨_,_,tq,ptr n,rfl,bF (by kernel_rfl),(yS h g).mono ?_⟩
  rintro v H' ⟨h1,rfl⟩
  rcases h1 with ⟨h1,rfl⟩| ⟨x,h2,rfl⟩
  ·exact .inl ⟨h1,rfl,cF.same ⟨st,h⟩ (ag.refl _ _)⟩
  ·exact .inr ⟨x,h2,rfl,cF.same ⟨st,h⟩ (ag.refl _ _)⟩
 extract:=by
  rintro H S w g ⟨st,h⟩
  refine⟨_,_,mu,ptr n,rfl,bF (by kernel_rfl),(Ch h g).mono ?_⟩
  rintro v H' (⟨h1,rfl,rfl⟩| ⟨x,h1,rfl,q,hq,S',h5,h6,h7⟩)
  ·exact .inl ⟨h1,rfl,cF.same ⟨st,h⟩ (ag.refl _ _)⟩
  ·exact .inr ⟨x,h1,rfl,S',⟨_,h5⟩,h6,h7⟩
 lD:=by
  rintro H S w x k s ⟨st,h⟩
  refine⟨_,_,kY,ptr n,rfl,bF (by kernel_rfl),(Av h x k s).mono ?_⟩
  rintro v H' (⟨h1,rfl,h2,h3⟩| ⟨h1,y,hy,h2,rfl,q,hq,S',h3,h4,h5⟩)
  ·exact .inl ⟨h1,rfl,cF.same ⟨st,h2⟩ (h3.mono fun _ _ h=>h.elim)⟩
  ·exact .inr ⟨⟨h1,fun z hz=>by rw[hy]at hz;injection hz with hz;rw[←hz];exact h2⟩,rfl,y,hy,S',⟨_,h3⟩,h4,h5⟩
 entry:=by
  rintro H S w x ⟨st,h⟩
  obtain⟨c,C,rv,fr,fa,ps,at_,m,l,hS⟩:=id h
  obtain⟨av,ho,_⟩:=m.own
  refine⟨_,_,bb,ptr c,rfl,fW (off:=0) (by kernel_rfl) (ae ho) rfl,(jp m.cells x).mono ?_⟩
  rintro v H' ⟨_,f,hv⟩
  exact⟨⟨st,h.fresh f⟩,f,hv⟩
theorem Hm(n:Nat)(d:Int):yQ (.iface 150 (ptr n)) (fun H S w=>∃st,dB H n S d st w) where
 slt:=by rintro H S w ⟨st,h⟩;exact h.slt
 ext:=by rintro H H' S w T ⟨st,h⟩ e hd;exact⟨st,h.ext e hd⟩
 cells:=by
  rintro H S w ⟨st,c,C,rv,fp,rs,m,l,hS⟩
  exact⟨c,C,st,m.cells⟩
 has:=by
  rintro H S w g ⟨st,c,C,rv,fp,rs,m,l,hS⟩
  exact⟨_,_,bG,ptr c,rfl,fW (off:=0) (by kernel_rfl) (ae m.own) rfl,(ij m.cells g).mono fun v H' hp=>hp⟩
 make:=by
  rintro H S w ⟨st,h⟩
  refine⟨_,_,qq,ptr n,rfl,bF (by kernel_rfl),(Hk h).mono ?_⟩
  rintro v H' (⟨h1,rfl,rfl⟩| ⟨h1,rfl,S',h2,h3,h4⟩)
  ·exact .inl ⟨h1,rfl,cF.same ⟨st,h⟩ (ag.refl _ _)⟩
  ·exact .inr ⟨h1,rfl,S',⟨_,h2⟩,h3,h4⟩
 insert:=by
  rintro H S w g x k s ⟨st,h⟩
  refine⟨_,_,nB,ptr n,rfl,bF (by kernel_rfl),(DX h g x k s).mono ?_⟩
  rintro v H' (⟨h1,rfl,h2,h3⟩| ⟨h1,rfl,S',q,h2,_,h3,h4,h5⟩)
  ·exact .inl ⟨h1,rfl,cF.same ⟨st,h2⟩ h3⟩
  ·exact .inr ⟨h1,rfl,S',⟨_,h3⟩,h4,h5⟩
 min:=by
  rintro H S w g ⟨st,h⟩
  refine⟨_,_,th,ptr n,rfl,bF (by kernel_rfl),(yU h g).mono ?_⟩
  rintro v H' ⟨h1,rfl⟩
  have hn:=cF.same (I:=fun H S w=>∃st,dB H n S d st w) ⟨st,h⟩ (ag.refl S H)
  obtain⟨c,C,rv,fp,rs,m,l,hS⟩:=h
  rcases h1 with ⟨h1,rfl⟩| ⟨h1,h2,rfl⟩| ⟨h1,x,h2,h3,rfl,h4⟩
  ·refine .inl ⟨Nw.IN.2 ?_,rfl,hn⟩
   by_cases hg:g≤0
   ·exact .inl hg
   ·refine .inr fun i c hc e=>h1 ⟨by omega,?_⟩
    have:=m.cells.live c (aqg hc) (by omega)
    rwa[e]at this
  ·exact .inl ⟨h2,rfl,hn⟩
  ·exact .inr ⟨x,⟨by have:=h1.1;omega,h2.1,h3,h4⟩,rfl,hn⟩
 extract:=by
  rintro H S w g ⟨st,h⟩
  refine⟨_,_,me,ptr n,rfl,bF (by kernel_rfl),(Ci h g).mono ?_⟩
  rintro v H' (⟨h1,rfl,rfl⟩| ⟨h1,x,h2,h3,h4,rfl,q,hq,S',h5,h6,h7⟩)
  ·have hn:=cF.same (I:=fun H S w=>∃st,dB H n S d st w) ⟨st,h⟩ (ag.refl S H)
   obtain⟨c,C,rv,fp,rs,m,l,hS⟩:=h
   rcases h1 with h1| ⟨_,h1⟩
   ·refine .inl ⟨Nw.IN.2 ?_,rfl,hn⟩
    by_cases hg:g≤0
    ·exact .inl hg
    ·refine .inr fun i c hc e=>h1 ⟨by omega,?_⟩
     have:=m.cells.live c (aqg hc) (by omega)
     rwa[e]at this
   ·exact .inl ⟨h1,rfl,hn⟩
  ·exact .inr ⟨x,⟨by have:=h1.1;omega,h2.1,h3,h4⟩,rfl,S',⟨_,h5⟩,h6,h7⟩
 lD:=by
  rintro H S w x k s ⟨st,h⟩
  refine⟨_,_,kT,ptr n,rfl,bF (by kernel_rfl),(Ax h x k s).mono ?_⟩
  rintro v H' (⟨h1,rfl,h2,h3⟩| ⟨h1,y,hy,h2,rfl,q,hq,S',h3,h4,h5⟩)
  ·exact .inl ⟨h1,rfl,cF.same ⟨st,h2⟩ (h3.mono fun _ _ h=>h.elim)⟩
  ·exact .inr ⟨⟨h1,fun z hz=>by rw[hy]at hz;injection hz with hz;rw[←hz];exact h2⟩,rfl,y,hy,S',⟨_,h3⟩,h4,h5⟩
 entry:=by
  rintro H S w x ⟨st,h⟩
  obtain⟨c,C,rv,fp,rs,m,l,hS⟩:=id h
  refine⟨_,_,bb,ptr c,rfl,fW (off:=0) (by kernel_rfl) (ae m.own) rfl,(jp m.cells x).mono ?_⟩
  rintro v H' ⟨_,f,hv⟩
  exact⟨⟨st,h.fresh f⟩,f,hv⟩
structure gv(H:Hp)(r nb pb:Nat)(N P:List Int):Prop where
 own:H.own r=some [.slice (some ⟨nb,0,none⟩) N.length N.length,.slice (some ⟨pb,0,none⟩) P.length P.length]
 PU:H.own nb=some (N.map i64)
 WP:H.own pb=some (P.map i64)
 len:P.length=N.length
 ne:r≠nb∧r≠pb∧nb≠pb
def cz(N:List Int)(x:Int):Int:=if 0≤x∧x<N.length then N.getD x.toNat 0 else x
theorem Hn{N:List Int}{x:Int}(hx:0≤x∧x<N.length):N[x.toNat]? =some (cz N x):=by
 unfold cz
 rw[if_pos hx,aqf]
 obtain⟨y,hy⟩:∃y,N[x.toNat]? =some y:=⟨_,aqb (by omega)⟩
 rw[hy];rfl
theorem Y6{N:List Int}{x:Int}(hx:¬ (0≤x∧x<N.length)):cz N x=x:=by unfold cz;rw[if_neg hx]
theorem FS{N:List Int}{x:Int}(hx:0≤x∧x<N.length)(v z:Int):cz (N.set x.toNat v) z=if z=x then v else cz N z:=by
 unfold cz
 rw[aqe]
 by_cases hz:z=x
 ·rw[if_pos hz,hz,if_pos hx,aqf,aqi (by omega)];rfl
 ·rw[if_neg hz]
  split
  ·rw[aqf,aqh (by omega),aqf]
  ·rfl
theorem OV{N P:List Int}(h:B7 (cz N) (cz P)){x:Int}(hx:0≤x∧x<N.length):0≤cz N x∧cz N x<N.length:=by
 apply aqt
 intro hn
 have h1:=Y6 hn
 have h2:cz N x=x:=by
  have:=h.pn (cz N x)
  rw[h1]at this
  have h3:=h.pn x
  rw[this]at h3
  exact h3
 rw[h2]at hn
 exact hn hx
section
variable {H H' : Hp} {r nb pb : Nat} {N P : List Int} {T : Nat → Prop}
theorem gv.ext(h:gv H r nb pb N P)(e:ag T H H')(h1:¬T r)(h2:¬T nb)(h3:¬T pb):gv H' r nb pb N P:=⟨e.own h.own h1,e.own h.PU h2,e.own h.WP h3,h.len,h.ne⟩
theorem gZ(h:gv H r nb pb N P)(x:Int):af Tryz.prog C8 [ptr r,i64 x] H fun v H'=>ax (v= .bool (decide (0≤x∧x<N.length))∧H'=H):=by
 refine bm Dm ?_
 refine vs ?_
 refine ar.dec (fun h0=>?_) (fun h0=>?_)<;>refine v1 (ae h.own) ?_
 ·refine⟨?_,rfl⟩
  rw[show(decide (0≤x∧x< (N.length:Int)))=decide (x< (N.length:Int)) by simp[h0]]
  rfl
 ·refine⟨?_,rfl⟩
  rw[aqA (fun h=>h0 h.1)]
  rfl
theorem Ho(h:gv H r nb pb N P){x:Int}(hx:0≤x∧x<N.length):af Tryz.prog Bj [ptr r,i64 x] H fun v H'=>ax (v= .tuple [i64 (cz N x),.bool true].toArray∧H'=H):=by
 refine bm BG ?_
 refine vs ?_
 refine(gZ h x).mono ?_
 rintro _ H' ⟨rfl,e⟩
 obtain rfl:=e.symm
 rw[aqp hx]
 have hn:(N.map i64)[x.toNat]? =some (i64 (cz N x)):=by rw[aqz,Hn hx];rfl
 refine v1 (ae h.own) ?_
 refine⟨⟨by omega,by omega⟩,?_⟩
 refine v4 (ae h.PU) aqa aqd hn ?_
 exact⟨rfl,rfl⟩
theorem dM(h:gv H r nb pb N P)(hi:B7 (cz N) (cz P)){x y:Int}(hx:0≤x∧x<N.length)(hy:0≤y∧y<N.length):af Tryz.prog xg [ptr r,i64 x,i64 y] H fun v H'=>ax (v= .bool true∧
  ∃N' P',gv H' r nb pb N' P'∧N'.length=N.length∧cz N'=vL (cz N) x y∧B7 (cz N') (cz P')∧ag (fun z=>z=nb∨z=pb) H H'):=by
 refine EL xL ⟨rfl,?_⟩
 refine v1 mE.eq_1 ?_
 refine(gZ h x).mono ?_
 rintro _ H' ⟨rfl,e⟩
 obtain rfl:=e.symm
 rw[aqp hx]
 refine vs ?_
 refine(gZ h y).mono ?_
 rintro _ H' ⟨rfl,e⟩
 obtain rfl:=e.symm
 rw[aqp hy]
 have Li:(N.map i64)[x.toNat]? =some (i64 (cz N x)):=by rw[aqz,Hn hx];rfl
 have hny:(N.map i64)[y.toNat]? =some (i64 (cz N y)):=by rw[aqz,Hn hy];rfl
 obtain⟨a0,a1⟩:=OV hi hx
 obtain⟨b0,b1⟩:=OV hi hy
 obtain⟨d1,d2,d3⟩:=h.ne
 have hl:=h.len
 refine v1 (ae h.own) ?_
 refine⟨⟨by omega,by omega⟩,?_⟩
 refine v5 (ae h.PU) (ae h.own) aqa aqd Li ?_
 refine⟨⟨by omega,by omega⟩,?_⟩
 refine v5 (ae h.PU) (ae h.own) aqa aqd hny ?_
 refine⟨⟨by omega,by omega⟩,?_⟩
 refine v3 h.PU aqa aqd ?_
 refine⟨by rw[aqr];omega,?_⟩
 refine vs ?_
 have e1:ag (fun z=>z=nb) H (H.wr nb ((N.map i64).set x.toNat (i64 (cz N y)))):=(ag.refl (fun z=>z=nb) _).wr (fun _=>rfl) _
 have q1:(H.wr nb ((N.map i64).set x.toNat (i64 (cz N y)))).own nb=some ((N.map i64).set x.toNat (i64 (cz N y))):=ai h.PU
 generalize H.wr nb ((N.map i64).set x.toNat (i64 (cz N y)))=H1 at*
 refine⟨⟨by omega,by omega⟩,?_⟩
 refine v3 q1 aqa aqd ?_
 refine⟨by rw[aqe,aqr];omega,?_⟩
 refine vs ?_
 have e2:ag (fun z=>z=nb) H1 (H1.wr nb (((N.map i64).set x.toNat (i64 (cz N y))).set y.toNat (i64 (cz N x)))):=(ag.refl (fun z=>z=nb) _).wr (fun _=>rfl) _
 have q2:(H1.wr nb (((N.map i64).set x.toNat (i64 (cz N y))).set y.toNat (i64 (cz N x)))).own nb=some (((N.map i64).set x.toNat (i64 (cz N y))).set y.toNat (i64 (cz N x))):=ai q1
 generalize H1.wr nb (((N.map i64).set x.toNat (i64 (cz N y))).set y.toNat (i64 (cz N x)))=H2 at*
 have pg:=e1.trans e2
 have o2:=pg.own h.own d1
 have p2:=pg.own h.WP (Ne.symm d3)
 have o1:=e1.own h.own d1
 refine v2 (ae o1) (ae o2) ?_
 refine⟨⟨by omega,by omega⟩,?_⟩
 refine v3 p2 aqa aqd ?_
 refine⟨by rw[aqr];omega,?_⟩
 refine vs ?_
 have e3:ag (fun z=>z=pb) H2 (H2.wr pb ((P.map i64).set (cz N y).toNat (i64 x))):=(ag.refl (fun z=>z=pb) _).wr (fun _=>rfl) _
 have q3:(H2.wr pb ((P.map i64).set (cz N y).toNat (i64 x))).own pb=some ((P.map i64).set (cz N y).toNat (i64 x)):=ai p2
 generalize H2.wr pb ((P.map i64).set (cz N y).toNat (i64 x))=H3 at*
 refine⟨⟨by omega,by omega⟩,?_⟩
 refine v3 q3 aqa aqd ?_
 refine⟨by rw[aqe,aqr];omega,?_⟩
 refine vs ?_
 have e4:ag (fun z=>z=pb) H3 (H3.wr pb (((P.map i64).set (cz N y).toNat (i64 x)).set (cz N x).toNat (i64 y))):=(ag.refl (fun z=>z=pb) _).wr (fun _=>rfl) _
 have q4:(H3.wr pb (((P.map i64).set (cz N y).toNat (i64 x)).set (cz N x).toNat (i64 y))).own pb=some (((P.map i64).set (cz N y).toNat (i64 x)).set (cz N x).toNat (i64 y)):=ai q3
 have Ak:=e3.trans e4
 have nf:cz ((N.set x.toNat (cz N y)).set y.toNat (cz N x))=vL (cz N) x y:=by
  funext z
  rw[FS (by rw[aqe];exact hy),FS hx]
  unfold vL
  by_cases h1:z=x
  ·rw[if_pos h1]
   by_cases h2:z=y
   ·rw[if_pos h2,←h2,h1];simp
   ·rw[if_neg h2,if_pos h1]
  ·rw[if_neg h1,if_neg h1]
 have pf:cz ((P.set (cz N y).toNat x).set (cz N x).toNat y)=Vv (cz N) (cz P) x y:=by
  funext z
  rw[FS (by rw[aqe];omega),FS (by omega)]
  rfl
 refine⟨rfl,(N.set x.toNat (cz N y)).set y.toNat (cz N x),(P.set (cz N y).toNat x).set (cz N x).toNat y,⟨?_,?_,?_,by simp[hl],h.ne⟩,by simp,nf,?_,(pg.mono fun z _ h=>.inl h).trans (Ak.mono fun z _ h=>.inr h)⟩
 ·rw[aqe,aqe,aqe,aqe]
  exact Ak.own o2 d2
 ·rw[aqP,aqP]
  exact Ak.own q2 d3
 ·rw[aqP,aqP]
  exact q4
 ·rw[nf,pf]
  exact hi.vL x y
theorem oz(h:gv H r nb pb N P)(hi:B7 (cz N) (cz P)){x:Int}(hx:0≤x∧x<N.length):af Tryz.prog Bi [ptr r,i64 x] H fun v H'=>ax (v= .bool true∧
  ∃N' P',gv H' r nb pb N' P'∧N'.length=N.length∧cz N'=vL (cz N) x (cz P x)∧B7 (cz N') (cz P')∧ag (fun z=>z=nb∨z=pb) H H'):=by
 have ni:B7 (cz P) (cz N):=⟨hi.np,hi.pn⟩
 have hl:=h.len
 have ep:=OV ni (x:=x) (by omega)
 have hp:(P.map i64)[x.toNat]? =some (i64 (cz P x)):=by rw[aqz,Hn (by omega)];rfl
 refine bm BF ?_
 refine vs ?_
 refine(gZ h x).mono ?_
 rintro _ H' ⟨rfl,e⟩
 obtain rfl:=e.symm
 rw[aqp hx]
 refine v1 (ae h.own) ?_
 refine⟨⟨by omega,by omega⟩,?_⟩
 refine v4 (ae h.WP) aqa aqd hp ?_
 refine(dM h hi hx (y:=cz P x) (by omega)).mono ?_
 rintro _ H1 ⟨rfl,h1⟩
 refine vs ?_
 exact⟨rfl,h1⟩
theorem pU(h:gv H r nb pb N P){x:Int}{A:List Int}(hc:q9 (cz N) (x::A))(hn:(x::A).Nodup)(hx:∀c∈x::A,0≤c∧c<N.length)(hN:N.length≤65536):af Tryz.prog C7 [ptr r,i64 x] H fun v H'=>ax (∃b,
  Sl H' 1 v (x::A).length ((x::A).map i64) (some b)∧H.size≤b∧ah H H'):=by
 have gB:=hx x (by simp)
 have bf:=cf hn hx
 have fD:r<H.size∧nb<H.size∧pb<H.size:=⟨aB h.own,aB h.PU,aB h.WP⟩
 have rdn:∀ {z:Int},0≤z∧z<N.length→(N.map i64)[z.toNat]? =some (i64 (cz N z)):=fun hz=>by rw[aqz,Hn hz];rfl
 refine bm Dl ?_
 refine vs ?_
 refine(gZ h x).mono ?_
 rintro _ H' ⟨rfl,e⟩
 obtain rfl:=e.symm
 rw[aqp gB]
 refine vs ?_
 have f0:ah H (H.new 3 [i64 x]):=(ag.refl _ _).new _ _
 have s0:Sl (H.new 3 [i64 x]) 1 (.slice (some ⟨H.size,0,none⟩) 1 1) [x].length ([x].map i64) (some H.size):=Sl.bU (size:=1) (n:=1) (xs:=[i64 x]) rfl rfl
 have h0:=h.ext f0 (fun h=>h) (fun h=>h) (fun h=>h)
 generalize H.new 3 [i64 x]=H0 at*
 refine v2 (ae h0.own) (ae h.own) ?_
 refine⟨⟨by omega,by omega⟩,?_⟩
 refine v5 (ae h0.PU) (ae h.PU) aqa aqd (rdn gB) ?_
 have hp:mU (cz N) x A x:=hc
 have hd:∀ {a z:Int} {l:List Int},mU (cz N) a l z→cz N a=l.headD z:=fun{a z l} h=>by
  cases l with
  |nil=>exact h
  |cons b l=>exact h.1
 refine aY.intro (fun mm env H'=>∃ (d s:List Int) (wv:Value) (b:Nat),mm=s.length∧A=d++s∧gv H' r nb pb N P∧H.size≤b∧Sl H' 1 wv (x::d).length ((x::d).map i64) (some b)∧ag (fun z=>H.size≤z) H H'∧
  env=[(0,ptr r),(1,i64 x),(5,wv),(6,i64 (s.headD x))]) _ ⟨[],A,_,H.size,rfl,rfl,h0,aqm _,s0,f0.mono fun _ _ h=>h.elim,by rw[hd hp]⟩ ?_
 rintro mm env H1 ⟨d,s,wv,b,rfl,hds,h1,hb,s1,e1,rfl⟩
 have z1:=e1.size
 refine vs ?_
 cases s with
 |nil=>
  refine ar.dec (fun _=>?_) (fun h=>absurd rfl h)
  refine vs ?_
  rw[aq2]at hds
  subst hds
  exact⟨b,s1,hb,e1.mono fun z hz h=>by omega⟩
 |cons c s=>
  have GH:c∈A:=by rw[hds];simp
  have AI:=hx c (aq1 _ GH)
  have Q7:c≠x:=fun e=>(aqu.1 hn).1 (by rw[←e];exact GH)
  have o8:d.length+(s.length+1)=A.length:=by rw[hds,aqj,aqx]
  rw[aqx]at bf
  refine ar.dec (fun h=>absurd h Q7) (fun _=>?_)
  refine vs ?_
  refine WA (B:=H.size) hb (by omega) s1 c (by rw[aqx];omega) fun w' H2 b' lI s2 e2=>?_
  refine vs ?_
  have h2:=h1.ext e2 (by omega) (by omega) (by omega)
  simp(disch:=(first|omega| (simp only[Zs]<;>omega)|fail)) only[go_sem, ↓reduceIte,Zv,ae h2.own,List.headD_cons]
  refine⟨⟨by omega,by omega⟩,?_⟩
  refine v4 (ae h2.PU) aqa aqd (rdn AI) ?_
  have Li:cz N c=s.headD x:=hd (mU.RW.1 (by rw[←hds];exact hp)).2
  exact⟨s.length,by simp,d++[c],s,w',b',rfl,by rw[hds];simp,h2,lI,s2,e1.trans e2,by rw[Li]⟩
end
end Go.Proofs.YthpjfeolagohkaaGreat

namespace Go.Proofs.YthpjfeolagohkaaGreat
open Go Go.Vc
structure Pc where
 u:Int
 k:Int
 d:Int
 m:Bool
def PV(y:Pc):List Value:=[i64 y.u,i64 y.k,i64 y.d,.bool y.m]
def aJ(L:List Pc):List Value:=L.flatMap PV
theorem OW(L:List Pc):(aJ L).length=L.length*4:=by
 induction L with
 |nil=>rfl
 |cons c r ih=>simp only[aJ,arN,aqj,PV,aqx,arh]at*;omega
theorem adi{L:List Pc}{i:Nat}{y:Pc}(hi:L[i]? =some y):(aJ L)[i*4]? =some (i64 y.u)∧(aJ L)[i*4+1]? =some (i64 y.k)∧(aJ L)[i*4+2]? =some (i64 y.d)∧(aJ L)[i*4+3]? =some (.bool y.m):=by
 induction L generalizing i with
 |nil=>simp at hi
 |cons a r ih=>
  have e:aJ (a::r)=i64 a.u::i64 a.k::i64 a.d:: .bool a.m::aJ r:=rfl
  rw[e]
  cases i with
  |zero=>simp at hi;subst hi;exact⟨rfl,rfl,rfl,rfl⟩
  |succ i=>
   have:=ih (by simpa using hi)
   rw[show(i+1)*4=i*4+4 by omega]
   exact this
theorem oA{L:List Pc}{i:Nat}{y:Pc}(hi:L[i]? =some y):(∀v,(aJ L).set (i*4) (i64 v)=aJ (L.set i ⟨v,y.k,y.d,y.m⟩))∧(∀v,(aJ L).set (i*4+1) (i64 v)=aJ (L.set i ⟨y.u,v,y.d,y.m⟩))∧
  (∀v,(aJ L).set (i*4+2) (i64 v)=aJ (L.set i ⟨y.u,y.k,v,y.m⟩))∧(∀v,(aJ L).set (i*4+3) (.bool v)=aJ (L.set i ⟨y.u,y.k,y.d,v⟩))∧
  (∀z:Pc,bh (aJ L) (i*4) [i64 z.u,i64 z.k,i64 z.d,.bool z.m]=aJ (L.set i z)):=by
 induction L generalizing i with
 |nil=>simp at hi
 |cons a r ih=>
  have e:aJ (a::r)=i64 a.u::i64 a.k::i64 a.d:: .bool a.m::aJ r:=rfl
  cases i with
  |zero=>simp at hi;subst hi;exact⟨fun _=>rfl,fun _=>rfl,fun _=>rfl,fun _=>rfl,fun _=>rfl⟩
  |succ i=>
   obtain⟨h1,h2,h3,h4,h5⟩:=ih (by simpa using hi)
   have e2:∀z:Pc,aJ ((a::r).set (i+1) z)=i64 a.u::i64 a.k::i64 a.d:: .bool a.m::aJ (r.set i z):=fun _=>rfl
   refine⟨fun v=>?_,fun v=>?_,fun v=>?_,fun v=>?_,fun z=>?_⟩
   ·rw[e,e2,show(i+1)*4=i*4+1+1+1+1 by omega]
    simp only[aqU]
    rw[h1]
   ·rw[e,e2,show(i+1)*4+1=i*4+1+1+1+1+1 by omega]
    simp only[aqU]
    rw[h2]
   ·rw[e,e2,show(i+1)*4+2=i*4+2+1+1+1+1 by omega]
    simp only[aqU]
    rw[h3]
   ·rw[e,e2,show(i+1)*4+3=i*4+3+1+1+1+1 by omega]
    simp only[aqU]
    rw[h4]
   ·have h5:=h5 z
    simp only[bh]at h5 ⊢
    rw[e,e2,show(i+1)*4=i*4+1+1+1+1 by omega]
    simp only[aqU]
    rw[h5]
def oK:Pc:=⟨-1, -1,0,false⟩
def fi(L:List Pc)(x:Int):Pc:=if 0≤x then(L[x.toNat]?).getD oK else oK
theorem Hq{L:List Pc}{x:Int}{y:Pc}(h0:0≤x)(h:L[x.toNat]? =some y):fi L x=y:=by unfold fi;rw[if_pos h0,h];rfl
def mZ(f:Int→Pc)(x:Int)(y:Pc):Int→Pc:=fun z=>if z=x then y else f z
theorem Cj{L:List Pc}{x:Int}(hx:0≤x∧x<L.length)(y:Pc):fi (L.set x.toNat y)=mZ (fi L) x y:=by
 funext z
 show fi (L.set x.toNat y) z=if z=x then y else fi L z
 by_cases hz:z=x
 ·rw[if_pos hz,hz]
  unfold fi
  rw[if_pos hx.1,aqi (by omega)];rfl
 ·rw[if_neg hz]
  unfold fi
  split
  ·rw[aqh (by omega)]
  ·rfl
structure FB where
 n:Nat
 c:Nat
 r:Nat
 nb:Nat
 pb:Nat
 tb:Nat
 tp:Nat
def FB.S(B:FB)(C:Nat→Prop)(z:Nat):Prop:=C z∨z=B.n∨z=B.r∨z=B.nb∨z=B.pb∨z=B.tb∨z=B.tp
structure cd(H:Hp)(B:FB)(C:Nat→Prop)(w:Nw)(N P:List Int)(L:List Pc)(tops:List Int):Prop where
 own:∃tv,H.own B.n=some [ptr B.c,ptr B.r,.slice (some ⟨B.tb,0,none⟩) L.length L.length,tv]∧Sl H 1 tv tops.length (tops.map i64) (some B.tp)
 cells:CQ H B.c C w
 ring:gv H B.r B.nb B.pb N P
 inv:B7 (cz N) (cz P)
 places:H.own B.tb=some (aJ L)
 len:L.length=w.cs.length∧N.length=w.cs.length
 mG:(B.n≠B.r∧B.n≠B.nb∧B.n≠B.pb∧B.n≠B.tb∧B.n≠B.tp)∧(B.tb≠B.r∧B.tb≠B.nb∧B.tb≠B.pb∧B.tb≠B.tp)∧(B.tp≠B.r∧B.tp≠B.nb∧B.tp≠B.pb)
 out:¬C B.n∧¬C B.r∧¬C B.nb∧¬C B.pb∧¬C B.tb∧¬C B.tp
section
variable {H H' : Hp} {B : FB} {C V : Nat → Prop} {w w' : Nw} {N P N' P' : List Int} {L L' : List Pc} {tops : List Int}
theorem cd.slt(h:cd H B C w N P L tops):∀z,B.S C z→z<H.size:=by
 obtain⟨tv,h1,h2⟩:=h.own
 rintro z (hz|rfl|rfl|rfl|rfl|rfl|rfl)
 ·exact h.cells.slt z hz
 ·exact aB h1
 ·exact aB h.ring.own
 ·exact aB h.ring.PU
 ·exact aB h.ring.WP
 ·exact aB h.places
 ·exact h2.lt
theorem cd.ext(h:cd H B C w N P L tops)(e:ag V H H')(hd:∀z,B.S C z→¬V z):cd H' B C w N P L tops:=by
 obtain⟨tv,h1,h2⟩:=h.own
 exact⟨⟨tv,e.own h1 (hd _ (.inr (.inl rfl))),h2.ext e (fun b hb=>by injection hb with hb;exact hb▸hd _ (.inr (.inr (.inr (.inr (.inr (.inr rfl)))))))⟩,h.cells.ext e (fun x hx=>hd x (.inl hx)),
  h.ring.ext e (hd _ (.inr (.inr (.inl rfl)))) (hd _ (.inr (.inr (.inr (.inl rfl))))) (hd _ (.inr (.inr (.inr (.inr (.inl rfl)))))),h.inv,e.own h.places (hd _ (.inr (.inr (.inr (.inr (.inr (.inl rfl))))))),h.len,h.mG,h.out⟩
theorem cd.fresh(h:cd H B C w N P L tops)(e:ah H H'):cd H' B C w N P L tops:=h.ext e fun _ _ h=>h
theorem cd.aI(h:cd H B C w N P L tops)(c1:CQ H' B.c C w')(e:ag C H H')(hl:w'.cs.length=w.cs.length):cd H' B C w' N P L tops:=by
 obtain⟨tv,h1,h2⟩:=h.own
 obtain⟨o1,o2,o3,o4,o5,o6⟩:=h.out
 exact⟨⟨tv,e.own h1 o1,h2.ext e (fun b hb=>by injection hb with hb;exact hb▸o6)⟩,c1,h.ring.ext e o2 o3 o4,h.inv,e.own h.places o5,by rw[hl];exact h.len,h.mG,h.out⟩
theorem cd.vS(h:cd H B C w N P L tops)(r1:gv H' B.r B.nb B.pb N' P')(hi:B7 (cz N') (cz P'))(e:ag (fun z=>z=B.nb∨z=B.pb) H H')(hl:N'.length=N.length):cd H' B C w N' P' L tops:=by
 obtain⟨tv,h1,h2⟩:=h.own
 obtain⟨o1,o2,o3,o4,o5,o6⟩:=h.out
 obtain⟨⟨d1,d2,d3,d4,d5⟩,⟨d6,d7,d8,d9⟩,⟨d10,d11,d12⟩⟩:=h.mG
 exact⟨⟨tv,e.own h1 (by omega),h2.ext e (fun b hb=>by injection hb with hb;omega)⟩,h.cells.ext e (fun x hx hz=>by rcases hz with hz|hz;exact o3 (hz▸hx);exact o4 (hz▸hx)),r1,hi,e.own h.places (by omega),by rw[hl];exact h.len,h.mG,h.out⟩
theorem cd.Ts(h:cd H B C w N P L tops)(hl:L'.length=L.length):cd (H.wr B.tb (aJ L')) B C w N P L' tops∧ag (fun z=>z=B.tb) H (H.wr B.tb (aJ L')):=by
 obtain⟨tv,h1,h2⟩:=h.own
 obtain⟨o1,o2,o3,o4,o5,o6⟩:=h.out
 obtain⟨⟨d1,d2,d3,d4,d5⟩,⟨d6,d7,d8,d9⟩,⟨d10,d11,d12⟩⟩:=h.mG
 have e:ag (fun z=>z=B.tb) H (H.wr B.tb (aJ L')):=(ag.refl (fun z=>z=B.tb) _).wr (fun _=>rfl) _
 exact⟨⟨⟨tv,by rw[hl];exact e.own h1 d4,h2.ext e (fun b hb=>by injection hb with hb;omega)⟩,h.cells.ext e (fun x hx hz=>o5 (hz▸hx)),h.ring.ext e (Ne.symm d6) (Ne.symm d7) (Ne.symm d8),h.inv,ai h.places,by rw[hl];exact h.len,h.mG,h.out⟩,e⟩
theorem cd.gm(h:cd H B C w N P L tops):∃c l,H.own B.n=some [ptr B.c,ptr B.r,.slice (some ⟨B.tb,0,none⟩) L.length L.length,.slice (some ⟨B.tp,0,none⟩) tops.length c]∧H.own B.tp=some l∧tops.length≤c∧c≤l.length∧l.take tops.length=tops.map i64:=by
 obtain⟨tv,h1,_,l,c,rfl,h3,h4,h5,h6⟩:=h.own
 rw[aqd]at h5 h6
 exact⟨c,l,h1,h3,h4,h5,h6⟩
theorem cd.fC(h:cd H B C w N P L tops){l:List Value}(hl:H.own B.tp=some l){i:Nat}{x:Int}(hx:tops[i]? =some x):l[i]? =some (i64 x):=by
 obtain⟨c,l',_,h2,_,_,h5⟩:=h.gm
 rw[hl]at h2
 injection h2 with h2
 subst h2
 have h7:(tops.map i64)[i]? =some (i64 x):=by rw[aqz,hx];rfl
 rw[←h5,aqG]at h7
 split at h7
 ·exact h7
 ·cases h7
theorem cd.lC(h:cd H B C w N P L tops){l:List Value}(hl:H.own B.tp=some l)(i:Nat)(v:Int):cd (H.wr B.tp (l.set i (i64 v))) B C w N P L (tops.set i v)∧ag (fun z=>z=B.tp) H (H.wr B.tp (l.set i (i64 v))):=by
 obtain⟨c,l',h1,h2,h3,h4,h5⟩:=h.gm
 rw[hl]at h2
 injection h2 with h2
 subst h2
 obtain⟨o1,o2,o3,o4,o5,o6⟩:=h.out
 obtain⟨⟨d1,d2,d3,d4,d5⟩,⟨d6,d7,d8,d9⟩,⟨d10,d11,d12⟩⟩:=h.mG
 have e:ag (fun z=>z=B.tp) H (H.wr B.tp (l.set i (i64 v))):=(ag.refl (fun z=>z=B.tp) _).wr (fun _=>rfl) _
 refine⟨⟨⟨_,e.own h1 d5,?_⟩,h.cells.ext e (fun x hx hz=>o6 (hz▸hx)),h.ring.ext e (Ne.symm d10) (Ne.symm d11) (Ne.symm d12),h.inv,e.own h.places d9,h.len,h.mG,h.out⟩,e⟩
 refine⟨by simp,l.set i (i64 v),c,by rw[aqe],ai hl,by rw[aqe];exact h3,by rw[aqe,aqd];exact h4,?_⟩
 rw[aqe,aqd,wA,h5,aqP]
theorem cd.rd(h:cd H B C w N P L tops){x:Int}(hx:0≤x∧x<w.cs.length):x.toNat*4+3< (aJ L).length∧(aJ L)[x.toNat*4]? =some (i64 (fi L x).u)∧(aJ L)[x.toNat*4+1]? =some (i64 (fi L x).k)∧
  (aJ L)[x.toNat*4+2]? =some (i64 (fi L x).d)∧(aJ L)[x.toNat*4+3]? =some (.bool (fi L x).m):=by
 have hl:=h.len
 have hf:=OW L
 obtain⟨y,hy⟩:∃y,L[x.toNat]? =some y:=⟨_,aqb (by omega)⟩
 obtain⟨h1,h2,h3,h4⟩:=adi hy
 rw[Hq hx.1 hy]
 exact⟨by omega,h1,h2,h3,h4⟩
theorem cd.aK(h:cd H B C w N P L tops){x:Int}(hx:0≤x∧x<w.cs.length)(v:Int):∃L',fi L'=mZ (fi L) x ⟨v,(fi L x).k,(fi L x).d,(fi L x).m⟩∧cd (H.wr B.tb ((aJ L).set (x.toNat*4) (i64 v))) B C w N P L' tops∧ag (fun z=>z=B.tb) H (H.wr B.tb ((aJ L).set (x.toNat*4) (i64 v))):=by
 have hl:=h.len
 obtain⟨y,hy⟩:∃y,L[x.toNat]? =some y:=⟨_,aqb (by omega)⟩
 rw[Hq hx.1 hy,(oA hy).1]
 exact⟨_,Cj (by omega) _,h.Ts (aqe ..)⟩
theorem cd.eV(h:cd H B C w N P L tops){x:Int}(hx:0≤x∧x<w.cs.length)(v:Int):∃L',fi L'=mZ (fi L) x ⟨(fi L x).u,v,(fi L x).d,(fi L x).m⟩∧cd (H.wr B.tb ((aJ L).set (x.toNat*4+1) (i64 v))) B C w N P L' tops∧ag (fun z=>z=B.tb) H (H.wr B.tb ((aJ L).set (x.toNat*4+1) (i64 v))):=by
 have hl:=h.len
 obtain⟨y,hy⟩:∃y,L[x.toNat]? =some y:=⟨_,aqb (by omega)⟩
 rw[Hq hx.1 hy,(oA hy).2.1]
 exact⟨_,Cj (by omega) _,h.Ts (aqe ..)⟩
theorem cd.Y7(h:cd H B C w N P L tops){x:Int}(hx:0≤x∧x<w.cs.length)(v:Int):∃L',fi L'=mZ (fi L) x ⟨(fi L x).u,(fi L x).k,v,(fi L x).m⟩∧cd (H.wr B.tb ((aJ L).set (x.toNat*4+2) (i64 v))) B C w N P L' tops∧ag (fun z=>z=B.tb) H (H.wr B.tb ((aJ L).set (x.toNat*4+2) (i64 v))):=by
 have hl:=h.len
 obtain⟨y,hy⟩:∃y,L[x.toNat]? =some y:=⟨_,aqb (by omega)⟩
 rw[Hq hx.1 hy,(oA hy).2.2.1]
 exact⟨_,Cj (by omega) _,h.Ts (aqe ..)⟩
theorem cd.da(h:cd H B C w N P L tops){x:Int}(hx:0≤x∧x<w.cs.length)(v:Bool):∃L',fi L'=mZ (fi L) x ⟨(fi L x).u,(fi L x).k,(fi L x).d,v⟩∧cd (H.wr B.tb ((aJ L).set (x.toNat*4+3) (.bool v))) B C w N P L' tops∧ag (fun z=>z=B.tb) H (H.wr B.tb ((aJ L).set (x.toNat*4+3) (.bool v))):=by
 have hl:=h.len
 obtain⟨y,hy⟩:∃y,L[x.toNat]? =some y:=⟨_,aqb (by omega)⟩
 rw[Hq hx.1 hy,(oA hy).2.2.2.1]
 exact⟨_,Cj (by omega) _,h.Ts (aqe ..)⟩
theorem cd.OX(h:cd H B C w N P L tops){x:Int}(hx:0≤x∧x<w.cs.length)(z:Pc):∃L',fi L'=mZ (fi L) x z∧cd (H.wr B.tb (bh (aJ L) (x.toNat*4) [i64 z.u,i64 z.k,i64 z.d,.bool z.m])) B C w N P L' tops∧ag (fun z=>z=B.tb) H (H.wr B.tb (bh (aJ L) (x.toNat*4) [i64 z.u,i64 z.k,i64 z.d,.bool z.m])):=by
 have hl:=h.len
 obtain⟨y,hy⟩:∃y,L[x.toNat]? =some y:=⟨_,aqb (by omega)⟩
 rw[(oA hy).2.2.2.2]
 exact⟨_,Cj (by omega) _,h.Ts (aqe ..)⟩
end
end Go.Proofs.YthpjfeolagohkaaGreat

namespace Go.Proofs.YthpjfeolagohkaaGreat
open Go Go.Vc
def Lo(f:Int→Pc)(ch:Int→List Int)(par:Int→Int):Prop:=∀x,(f x).u=par x∧(f x).k=(ch x).headD (-1)∧(f x).d=(ch x).length
section
variable {H H' : Hp} {B : FB} {C V : Nat → Prop} {w : Nw} {N P : List Int} {L : List Pc} {tops : List Int} {ch : Int → List Int} {par : Int → Int} {ay : Int → List Int} {W : List Int}
theorem eK.Tt{lt:Int→Int→Bool}{nx:Int→Int}(f:eK (aG w) lt nx ch par ay W){x:Int}(hx:x∈W):0≤x∧x<w.cs.length:=by
 obtain⟨a,b,_⟩:=aF (f.wm x hx).2.2
 exact⟨a,b⟩
theorem eK.rin{lt:Int→Int→Bool}{nx:Int→Int}(f:eK (aG w) lt nx ch par ay W){g x:Int}(hx:x∈ay g):0≤x∧x<w.cs.length:=by
 obtain⟨h1,_,h2,_⟩:=f.rm g x hx
 obtain⟨a,b,_⟩:=aF (w:=w) (x:=x) (by omega)
 exact⟨a,b⟩
theorem eK.HU{lt:Int→Int→Bool}{nx:Int→Int}(f:eK (aG w) lt nx ch par ay W){p x:Int}(hx:x∈ch p):0≤x∧x<w.cs.length:=by
 obtain⟨a,b,_⟩:=aF (f.pr.dn p x hx).2.2.2.1
 exact⟨a,b⟩
theorem yV(m:cd H B C w N P L tops){x g:Int}(f:eK (aG w) (aQ w) (cz N) ch par ay (x::W))(hg:aG w x=g)(dI:g<tops.length)(ht:bi tops g=(ay g).headD (-1)):
  af Tryz.prog tZ [ptr B.n,i64 g,i64 x] H fun v H'=>ax (∃N' P' Hs l,cd H' B C w N' P' L Hs∧Hs.length=tops.length∧bi Hs=jj (bi tops) g (l.headD (-1))∧
   eK (aG w) (aQ w) (cz N') ch par (aA ay g l) W∧(l.headD (-1)=x∨(l.headD (-1)=bi tops g∧bi tops g≠ -1))∧l.headD (-1)≠ -1∧
   (x≠l.headD (-1)→aQ w (l.headD (-1)) x=true)∧(bi tops g≠ -1→bi tops g≠l.headD (-1)→aQ w (l.headD (-1)) (bi tops g)=true)∧ag (fun z=>C z∨z=B.nb∨z=B.pb∨z=B.tp) H H'):=by
 have hx:=f.Tt (x:=x) (by simp)
 have Jl:=f.wne (c:=x) (by simp)
 have Tb:0<g:=by rw[←hg];exact(f.wm x (by simp)).2.2
 obtain⟨cc,lt,o1,q1,sI,ww,PQ⟩:=m.gm
 have q2:=m.fC q1 (eJ (tops:=tops) (h:=g) (by omega) dI)
 have bf:=m.len
 refine bm um ?_
 refine v1 (ae o1) ?_
 refine⟨⟨by omega,by omega⟩,?_⟩
 refine v4 (ae q1) aqa aqd q2 ?_
 refine ar.dec (fun h0=>?_) (fun h0=>?_)<;>refine v1 (ae o1) ?_
 ·have hr:ay g=[]:=by
   rw[h0]at ht
   cases hc:ay g with
   |nil=>rfl
   |cons c r=>rw[hc]at ht;exact absurd ht.symm (f.rne (h:=g) (by rw[hc];simp))
  refine⟨⟨by omega,by omega⟩,?_⟩
  refine v3 q1 aqa aqd ?_
  refine⟨by omega,?_⟩
  obtain⟨m2,e2⟩:=m.lC q1 g.toNat x
  refine vs ?_
  have f2:=f.acT (by rw[hg];exact hr)
  rw[hg]at f2
  exact⟨N,P,_,[x],m2,aqe ..,eZ (by omega) dI x,f2,.inl rfl,Jl,fun h=>absurd rfl h,fun h=>absurd h0 h,e2.mono fun z _ h=>.inr (.inr (.inr h))⟩
 obtain⟨t,A,hr⟩:∃t A,ay g=t::A:=by
  cases hc:ay g with
  |nil=>rw[hc]at ht;exact absurd ht h0
  |cons c r=>exact⟨c,r,rfl⟩
 have htt:bi tops g=t:=by rw[ht,hr];rfl
 rw[htt]
 rw[htt]at q2
 have Yi:=f.rin (g:=g) (x:=t) (by rw[hr];simp)
 have htn:=f.rne (c:=t) (h:=g) (by rw[hr];simp)
 have htx:t≠x:=fun e=>(f.rm g t (by rw[hr];simp)).2.2.2 (by rw[e];simp)
 refine⟨⟨by omega,by omega⟩,?_⟩
 refine v4 (ae q1) aqa aqd q2 ?_
 refine(dM m.ring m.inv (x:=t) (y:=x) (by omega) (by omega)).mono ?_
 rintro _ H2 ⟨rfl,N2,P2,r2,l2,n2,i2,e2⟩
 have m2:=m.vS r2 i2 e2 l2
 have f2:=f.S7 (t:=t) (A:=A) (by rw[hg];exact hr)
 rw[hg,←n2]at f2
 obtain⟨cc,lt2,o2,q3,_⟩:=m2.gm
 have q4:=m2.fC q3 (eJ (tops:=tops) (h:=g) (by omega) dI)
 rw[htt]at q4
 refine v1 (ae o2) ?_
 refine⟨⟨by omega,by omega⟩,?_⟩
 refine v4 (ae q3) aqa aqd q4 ?_
 refine(cN m2.cells x t).mono ?_
 rintro _ H3 ⟨rfl,c3,e3⟩
 have m3:=m2.aI c3 e3 rfl
 have AG:=gX (w:=w) (a:=x) (b:=t) (by omega) (by have:=(f.rm g t (by rw[hr];simp)).1;omega)
 rw[AG]
 have Dz:ag (fun z=>C z∨z=B.nb∨z=B.pb∨z=B.tp) H H3:=(e2.mono fun z _ h=>h.elim (fun h=>.inr (.inl h)) (fun h=>.inr (.inr (.inl h)))).trans (e3.mono fun z _ h=>.inl h)
 cases aN:aQ w x t
 ·refine vs ?_
  have UH:=((aw w).PA t x htx).resolve_right (by rw[aN];simp)
  refine⟨N2,P2,tops,t::x::A,m3,rfl,?_,f2,.inr ⟨rfl,htn⟩,htn,fun _=>UH,fun _ h=>absurd rfl h,Dz⟩
  funext z
  show bi tops z=if z=g then t else bi tops z
  split
  ·rename_i e;rw[e,htt]
  ·rfl
 ·obtain⟨cc,lt3,o3,q5,_,hc5,_⟩:=m3.gm
  have q6:=m3.fC q5 (eJ (tops:=tops) (h:=g) (by omega) dI)
  have qR:=(aqc.1 q6).1
  refine v1 (ae o3) ?_
  refine⟨⟨by omega,by omega⟩,?_⟩
  refine v3 q5 aqa aqd ?_
  refine⟨by omega,?_⟩
  obtain⟨m4,e4⟩:=m3.lC q5 g.toNat x
  refine vs ?_
  have f3:=f2.uA (g:=g) (l:=x::A++[t]) (by
   unfold aA
   rw[if_pos rfl]
   exact aru (l₁:=[t]) (l₂:=x::A)) (by
   have:=f2.rc g
   unfold aA at this
   rw[if_pos rfl]at this
   exact q9.rot (l1:=[t]) (l2:=x::A) this)
  rw[fg]at f3
  exact⟨N2,P2,_,x::A++[t],m4,aqe ..,eZ (by omega) dI x,f3,.inl rfl,Jl,fun h=>absurd rfl h,fun _ _=>aN,Dz.trans (e4.mono fun z _ h=>.inr (.inr (.inr h)))⟩
theorem Ht(m:cd H B C w N P L tops){x y:Int}(f:eK (aG w) (aQ w) (cz N) ch par ay (x::y::W))(hp:Lo (fi L) ch par)(hh:aG w x=aG w y)(hl:aQ w x y=true):
  af Tryz.prog rX [ptr B.n,i64 y,i64 x] H fun v H'=>ax (∃N' P' L' dS bD,cd H' B C w N' P' L' tops∧eK (aG w) (aQ w) (cz N') dS bD ay (x::W)∧Lo (fi L') dS bD∧(dS x).length=(ch x).length+1∧(∀z,z≠x→dS z=ch z)∧
   ag (fun z=>z=B.nb∨z=B.pb∨z=B.tb) H H'):=by
 have hx:=f.Tt (x:=x) (by simp)
 have hy:=f.Tt (x:=y) (by simp)
 have Lh:x≠y:=fun e=>by rw[e,(aw w).Es]at hl;cases hl
 have bf:=m.len
 obtain⟨tv,o1,_⟩:=m.own
 obtain⟨px,kx,dx⟩:=hp x
 obtain⟨py,ky,dy⟩:=hp y
 obtain⟨a0,a1,a2,a3,a4⟩:=m.rd hx
 have tQ:(ch x).length≤w.cs.length:=cf (f.pr.nd x) fun c hc=>f.HU hc
 have xW:=m.cells.Fe
 refine bm sB ?_
 refine v1 (ae o1) ?_
 refine⟨⟨by omega,by omega⟩,?_⟩
 refine v1 (ae o1) ?_
 refine⟨⟨by omega,by omega⟩,?_⟩
 refine v3 (ae m.places) aqa a2 ?_
 refine ar.dec (fun h0=>?_) (fun h0=>?_)<;>refine vs ?_
 ·have hc:ch x=[]:=by
   rw[h0]at kx
   cases hc:ch x with
   |nil=>rfl
   |cons c r=>rw[hc]at kx;exact absurd kx.symm (f.pr.ne (x:=x) (by rw[hc];simp))
  have f1:=f.YE hh hl hc
  obtain⟨H1,eH⟩:∃H1,H1=H:=⟨_,rfl⟩
  rw[←eH]at m ⊢
  have m1:=m
  obtain⟨N1,eN⟩:∃N1,N1=N:=⟨_,rfl⟩
  obtain⟨P1,eP⟩:∃P1,P1=P:=⟨_,rfl⟩
  rw[←eN,←eP]at m1
  rw[←eN]at f1
  have e1:ag (fun z=>z=B.nb∨z=B.pb) H1 H1:=ag.refl _ _
  have uF:([y]:List Int).length=(ch x).length+1:=by rw[hc];rfl
  obtain⟨b0,_⟩:=m1.rd hx
  obtain⟨L2,k2,m2,e2⟩:=m1.eV hx y
  refine v2 m1.places aqa ?_
  refine⟨by omega,?_⟩
  refine vs ?_
  generalize H1.wr B.tb ((aJ L).set (x.toNat*4+1) (i64 y))=H2 at*
  obtain⟨c0,c1,c2,c3,c4⟩:=m2.rd hx
  have kJ:(fi L2 x).d=(ch x).length:=by rw[k2];unfold mZ;rw[if_pos rfl];exact dx
  obtain⟨L3,k3,m3,e3⟩:=m2.Y7 hx ((fi L2 x).d+1)
  rw[kJ]at c3 k3 m3 e3
  refine v4 (ae m2.places) m2.places aqa c3 ?_
  rw[wrap64 (by omega) (by omega)]
  refine⟨by omega,?_⟩
  refine vs ?_
  generalize H2.wr B.tb ((aJ L2).set (x.toNat*4+2) (i64 ((ch x).length+1)))=H3 at*
  obtain⟨d0,_⟩:=m3.rd hy
  obtain⟨L4,k4,m4,e4⟩:=m3.aK hy x
  refine v3 m3.places aqa Nat.add_zero ?_
  refine⟨by omega,?_⟩
  refine vs ?_
  generalize H3.wr B.tb ((aJ L3).set (y.toNat*4) (i64 x))=H4 at*
  obtain⟨g0,_⟩:=m4.rd hy
  obtain⟨L5,k5,m5,e5⟩:=m4.da hy false
  refine v3 m4.places aqa Nat.add_zero ?_
  refine⟨by omega,?_⟩
  refine vs ?_
  refine⟨N1,P1,L5,_,_,m5,f1,fun z=>?_,?_,fun z hz=>?_,((((e1.mono fun z _ h=>h.elim .inl fun h=>.inr (.inl h)).trans (e2.mono fun z _ h=>.inr (.inr h))).trans (e3.mono fun z _ h=>.inr (.inr h))).trans (e4.mono fun z _ h=>.inr (.inr h))).trans (e5.mono fun z _ h=>.inr (.inr h))⟩
  ·rw[k5,k4,k3,k2]
   unfold mZ aA
   by_cases h1:z=y
   ·rw[h1,if_pos rfl,if_neg Lh.symm,if_neg Lh.symm]
    simp only[if_neg Lh.symm,if_true]
    refine⟨by unfold aK;rw[if_pos rfl],?_,?_⟩
    ·exact ky
    ·exact dy
   ·rw[if_neg h1]
    unfold aK
    rw[if_neg h1]
    by_cases h2:z=x
    ·rw[h2]
     simp only[if_true,if_neg Lh]
     exact⟨px,rfl,by rw[uF];omega⟩
    ·simp only[if_neg h1,if_neg h2]
     exact hp z
  ·unfold aA;rw[if_pos rfl,uF]
  ·unfold aA;rw[if_neg hz]
 ·obtain⟨k,K,hc⟩:∃k K,ch x=k::K:=by
   cases hc:ch x with
   |nil=>rw[hc]at kx;exact absurd kx h0
   |cons c r=>exact⟨c,r,rfl⟩
  have hk:(fi L x).k=k:=by rw[kx,hc];rfl
  have hkr:=f.HU (p:=x) (x:=k) (by rw[hc];simp)
  have f1:=f.under hh hl hc
  rw[hk]at a2
  refine v4 (ae o1) (ae m.places) aqa a2 ?_
  refine(dM m.ring m.inv (x:=k) (y:=y) (by omega) (by omega)).mono ?_
  rintro _ H1 ⟨rfl,N1,P1,r1,l1,n1,i1,e1⟩
  have m1:=m.vS r1 i1 e1 l1
  rw[←n1]at f1
  have uF:(y::K++[k]).length=(ch x).length+1:=by rw[hc];simp
  refine vs ?_
  obtain⟨b0,_⟩:=m1.rd hx
  obtain⟨L2,k2,m2,e2⟩:=m1.eV hx y
  refine v2 m1.places aqa ?_
  refine⟨by omega,?_⟩
  refine vs ?_
  generalize H1.wr B.tb ((aJ L).set (x.toNat*4+1) (i64 y))=H2 at*
  obtain⟨c0,c1,c2,c3,c4⟩:=m2.rd hx
  have kJ:(fi L2 x).d=(ch x).length:=by rw[k2];unfold mZ;rw[if_pos rfl];exact dx
  obtain⟨L3,k3,m3,e3⟩:=m2.Y7 hx ((fi L2 x).d+1)
  rw[kJ]at c3 k3 m3 e3
  refine v4 (ae m2.places) m2.places aqa c3 ?_
  rw[wrap64 (by omega) (by omega)]
  refine⟨by omega,?_⟩
  refine vs ?_
  generalize H2.wr B.tb ((aJ L2).set (x.toNat*4+2) (i64 ((ch x).length+1)))=H3 at*
  obtain⟨d0,_⟩:=m3.rd hy
  obtain⟨L4,k4,m4,e4⟩:=m3.aK hy x
  refine v3 m3.places aqa Nat.add_zero ?_
  refine⟨by omega,?_⟩
  refine vs ?_
  generalize H3.wr B.tb ((aJ L3).set (y.toNat*4) (i64 x))=H4 at*
  obtain⟨g0,_⟩:=m4.rd hy
  obtain⟨L5,k5,m5,e5⟩:=m4.da hy false
  refine v3 m4.places aqa Nat.add_zero ?_
  refine⟨by omega,?_⟩
  refine vs ?_
  refine⟨N1,P1,L5,_,_,m5,f1,fun z=>?_,?_,fun z hz=>?_,((((e1.mono fun z _ h=>h.elim .inl fun h=>.inr (.inl h)).trans (e2.mono fun z _ h=>.inr (.inr h))).trans (e3.mono fun z _ h=>.inr (.inr h))).trans (e4.mono fun z _ h=>.inr (.inr h))).trans (e5.mono fun z _ h=>.inr (.inr h))⟩
  ·rw[k5,k4,k3,k2]
   unfold mZ aA
   by_cases h1:z=y
   ·rw[h1,if_pos rfl,if_neg Lh.symm,if_neg Lh.symm]
    simp only[if_neg Lh.symm,if_true]
    refine⟨by unfold aK;rw[if_pos rfl],?_,?_⟩
    ·exact ky
    ·exact dy
   ·rw[if_neg h1]
    unfold aK
    rw[if_neg h1]
    by_cases h2:z=x
    ·rw[h2]
     simp only[if_true,if_neg Lh]
     exact⟨px,rfl,by rw[uF];omega⟩
    ·simp only[if_neg h1,if_neg h2]
     exact hp z
  ·unfold aA;rw[if_pos rfl,uF]
  ·unfold aA;rw[if_neg hz]
end
end Go.Proofs.YthpjfeolagohkaaGreat

namespace Go.Proofs.YthpjfeolagohkaaGreat
open Go Go.Vc
theorem vT(H:Hp):af Tryz.prog Be [] H fun v H'=>ax (v= .agg #[i64 (-1),i64 (-1),i64 0,.bool false]∧ah H H'):=by
 refine bm By ?_
 have f0:ah H (H.new 235 [Value.int .i64 0,Value.int .i64 0,Value.int .i64 0,Value.bool false]):=(ag.refl _ _).new _ _
 refine vs ?_
 have q:((H.new 235 [Value.int .i64 0,Value.int .i64 0,Value.int .i64 0,Value.bool false]).wr H.size [Value.int .i64 (-1),Value.int .i64 (-1),Value.int .i64 0,Value.bool false]).own H.size=some [Value.int .i64 (-1),Value.int .i64 (-1),Value.int .i64 0,Value.bool false]:=ai (az _ _ _)
 have e2:ag (fun z=>z=H.size) (H.new 235 [Value.int .i64 0,Value.int .i64 0,Value.int .i64 0,Value.bool false]) ((H.new 235 [Value.int .i64 0,Value.int .i64 0,Value.int .i64 0,Value.bool false]).wr H.size [Value.int .i64 (-1),Value.int .i64 (-1),Value.int .i64 0,Value.bool false]):=(ag.refl (fun z=>z=H.size) _).wr (fun _=>rfl) _
 refine v1 (ae q) ?_
 exact⟨rfl,f0.then e2 (fun z hz=>by omega)⟩
section
variable {H H' : Hp} {B : FB} {C V : Nat → Prop} {w : Nw} {N P : List Int} {L : List Pc} {tops : List Int} {ch : Int → List Int} {par : Int → Int} {ay : Int → List Int} {W : List Int}
theorem Hu(m:cd H B C w N P L tops){x g:Int}{A:List Int}(f:eK (aG w) (aQ w) (cz N) ch par ay W)(hp:Lo (fi L) ch par)(hr:ay g=x::A):
  af Tryz.prog rW [ptr B.n,i64 x] H fun v H'=>ax (∃N' P' L' A',cd H' B C w N' P' L' tops∧eK (aG w) (aQ w) (cz N') (aA ch x []) (fP ch par x) (aA ay g (x::A')) W∧Lo (fi L') (aA ch x []) (fP ch par x)∧
   ag (fun z=>z=B.nb∨z=B.pb∨z=B.tb) H H'):=by
 have hx:=f.rin (g:=g) (x:=x) (by rw[hr];simp)
 have ep:=(f.rm g x (by rw[hr];simp)).2.1
 have bf:=m.len
 have xW:=m.cells.Fe
 obtain⟨tv,o1,_⟩:=m.own
 obtain⟨px,kx,dx⟩:=hp x
 obtain⟨a0,a1,a2,a3,a4⟩:=m.rd hx
 refine bm sA ?_
 refine v1 (ae o1) ?_
 refine⟨⟨by omega,by omega⟩,?_⟩
 refine v3 (ae m.places) aqa a2 ?_
 refine ar.dec (fun h0=>?_) (fun h0=>?_)<;>refine vs ?_
 ·have hc:ch x=[]:=by
   rw[h0]at kx
   cases hc:ch x with
   |nil=>rfl
   |cons c r=>rw[hc]at kx;exact absurd kx.symm (f.pr.ne (x:=x) (by rw[hc];simp))
  have e1:aA ch x []=ch:=by
   funext z
   unfold aA
   split
   ·rename_i e;rw[e,hc]
   ·rfl
  have e2:fP ch par x=par:=by
   funext z
   unfold fP
   rw[hc,if_neg (by simp)]
  have e3:aA ay g (x::A)=ay:=by
   funext z
   unfold aA
   split
   ·rename_i e;rw[e,hr]
   ·rfl
  exact⟨N,P,L,A,m,by rw[e1,e2,e3];exact f,by rw[e1,e2];exact hp,ag.refl _ _⟩
 obtain⟨k,K,hc⟩:∃k K,ch x=k::K:=by
  cases hc:ch x with
  |nil=>rw[hc]at kx;exact absurd kx h0
  |cons c r=>exact⟨c,r,rfl⟩
 have hk:(fi L x).k=k:=by rw[kx,hc];rfl
 rw[hk]
 have Ln:=f.cy x
 have gI:=f.pr.nd x
 rw[hc]at Ln gI
 have bH:∀c∈k::K,0≤c∧c<w.cs.length:=fun c GH=>f.HU (p:=x) (by rw[hc];exact GH)
 have hkl:(k::K).length≤w.cs.length:=cf gI bH
 have hk1:(k::K).length=K.length+1:=aqx
 refine v1 (ae o1) ?_
 refine(pU m.ring Ln gI (fun c GH=>by have:=bH c GH;omega) (by omega)).mono ?_
 rintro kv H1 ⟨b,s1,hb,f1⟩
 have m1:=m.fresh f1
 have z1:=f1.size
 have hS:=m.slt
 have Wy:B.tb<H.size:=hS _ (.inr (.inr (.inr (.inr (.inr (.inl rfl))))))
 obtain⟨ka,kc,rfl⟩:=Sl.shape s1
 refine vs ?_
 refine aY.intro (fun mm env H'=>∃ (i:Nat) (L':List Pc),mm=(k::K).length - i∧i≤(k::K).length∧cd H' B C w N P L' tops∧Sl H' 1 (.slice ka (k::K).length kc) (k::K).length ((k::K).map i64) (some b)∧ag (fun z=>z=B.tb) H H'∧
  (∀z,(fi L' z).k=(fi L z).k∧(fi L' z).d=(fi L z).d∧(fi L' z).u=if z∈(k::K).take i then -1 else(fi L z).u)∧
  env=[(0,ptr B.n),(1,i64 x),(4,i64 k),(22,.slice ka (k::K).length kc),(23,i64 (k::K).length),(24,i64 i)]) _ ⟨0,L,rfl,by omega,m1,s1,f1.mono (fun _ _ h=>h.elim),fun z=>⟨rfl,rfl,by simp⟩,rfl⟩ ?_
 rintro mm env H2 ⟨i,L2,rfl,hi,m2,s2,e2,g2,rfl⟩
 refine vs ?_
 refine ar.dec (fun gi=>?_) (fun gi=>?_)<;>refine vs ?_
 ·have ni:i< (k::K).length:=by omega
  obtain⟨c,MU⟩:∃c,(k::K)[i]? =some c:=⟨_,aqb ni⟩
  have GH:=bH c (aqg MU)
  obtain⟨_,kb,lb,rfl,q2,q3⟩:=Sl.Ao s2 MU
  obtain⟨OK,o2,_⟩:=m2.own
  have tP:=m2.len
  refine⟨⟨by omega,by omega⟩,?_⟩
  refine v6 (ae q2) aqa aqd Int.toNat_natCast q3 (ae o2) ?_
  refine⟨⟨by omega,by omega⟩,?_⟩
  obtain⟨b0,_⟩:=m2.rd GH
  obtain⟨L3,k3,m3,e3⟩:=m2.aK GH (-1)
  refine v3 m2.places aqa Nat.add_zero ?_
  refine⟨by omega,?_⟩
  refine vs ?_
  generalize H2.wr B.tb ((aJ L2).set (c.toNat*4) (Value.int .i64 (-1)))=H3 at*
  obtain⟨c0,_⟩:=m3.rd GH
  have Q0:=m3.len
  obtain⟨L4,k4,m4,e4⟩:=m3.da GH false
  refine⟨⟨by omega,by omega⟩,?_⟩
  refine v3 m3.places aqa Nat.add_zero ?_
  refine⟨by omega,?_⟩
  refine vs ?_
  refine⟨(k::K).length - (i+1),by omega,i+1,L4,rfl,by omega,m4,(s2.ext e3 (fun z hz ed=>by injection hz with hz;omega)).ext e4 (fun z hz ed=>by injection hz with hz;omega),(e2.trans e3).trans e4,fun z=>?_,?_⟩
  ·have tk:(k::K).take (i+1)=(k::K).take i++[c]:=by rw[aqS,MU];rfl
   obtain⟨g3,g4,g5⟩:=g2 z
   rw[tk,k4,k3]
   unfold mZ
   by_cases hz:z=c
   ·simp only[hz,if_true]
    rw[hz]at g3 g4
    exact⟨g3,g4,by simp⟩
   ·simp only[if_neg hz]
    refine⟨g3,g4,?_⟩
    rw[g5]
    simp only[aqq,aql,hz,or_false]
  ·rw[wrap64 (by omega) (by omega)]
   rfl
 obtain rfl:i=(k::K).length:=by omega
 rw[aqM]at g2
 have hkr:=bH k (by simp)
 have f2:=f.raise hr hc
 obtain⟨OK,o2,_⟩:=m2.own
 have tP:=m2.len
 refine v1 (ae o2) ?_
 refine(dM m2.ring m2.inv (x:=x) (y:=k) (by omega) (by omega)).mono ?_
 rintro _ H3 ⟨rfl,N3,P3,r3,l3,n3,i3,e3⟩
 have m3:=m2.vS r3 i3 e3 l3
 rw[←n3]at f2
 obtain⟨cc,lt,o3,_⟩:=m3.gm
 refine vs ?_
 refine gP.intro (fun H'=>H'.own B.n=some [ptr B.c,ptr B.r,.slice (some ⟨B.tb,0,none⟩) L2.length L2.length,.slice (some ⟨B.tp,0,none⟩) tops.length cc]) o3 ?_
 refine vs ?_
 refine dP.intro (.slice (some ⟨B.tb,0,none⟩) L2.length L2.length) (fun H' hI=>by refine v1 (ae hI) ?_;trivial) ?_
 refine vs ?_
 refine(vT H3).mono ?_
 rintro _ H4 ⟨rfl,e4⟩
 have o4:=e4.own o3 (fun h=>h)
 refine And.intro o4 ?_
 have m4:=m3.fresh e4
 refine vs ?_
 refine⟨⟨by omega,by omega⟩,?_⟩
 obtain⟨b0,_⟩:=m4.rd hx
 obtain⟨L5,k5,m5,e5⟩:=m4.OX hx oK
 refine v2 m4.places aqa ?_
 refine⟨by omega,?_⟩
 rw[show bh (aJ L2) (x.toNat*4) (aH (Value.agg #[i64 (-1),i64 (-1),i64 0,Value.bool false]))=bh (aJ L2) (x.toNat*4) [i64 oK.u,i64 oK.k,i64 oK.d,.bool oK.m]from rfl]
 have yL:=m4.mG.1.2.2.2.1
 generalize H4.wr B.tb (bh (aJ L2) (x.toNat*4) [i64 oK.u,i64 oK.k,i64 oK.d,.bool oK.m])=H5 at*
 refine vs ?_
 refine And.intro (e5.own o4 yL) ?_
 refine vs ?_
 refine⟨N3,P3,L5,K++k::A,m5,f2,fun z=>?_,(((e2.mono fun z _ h=>.inr (.inr h)).trans (e3.mono fun z _ h=>h.elim .inl fun h=>.inr (.inl h))).trans (e4.mono fun z _ h=>h.elim)).trans (e5.mono fun z _ h=>.inr (.inr h))⟩
 rw[k5]
 unfold mZ aA fP
 obtain⟨g3,g4,g5⟩:=g2 z
 obtain⟨pz,kz,dz⟩:=hp z
 by_cases hz:z=x
 ·rw[if_pos hz,if_pos hz,hz,if_neg (fun h=>by have:=(f.OL h).1 g;rw[hr]at this;exact this (by simp)),ep]
  exact⟨rfl,rfl,rfl⟩
 ·rw[if_neg hz,if_neg hz,g3,g4,g5,hc]
  refine⟨?_,kz,dz⟩
  split
  ·rfl
  ·exact pz
end
end Go.Proofs.YthpjfeolagohkaaGreat
