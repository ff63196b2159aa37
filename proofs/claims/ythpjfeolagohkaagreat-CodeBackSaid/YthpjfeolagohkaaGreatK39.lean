/- Texts put behind each other. -/
import Derived.Test.YthpjfeolagohkaaGreatK98
import Derived.Test.YthpjfeolagohkaaGreatK2
import Derived.Test.YthpjfeolagohkaaGreatK27
import Derived.Test.YthpjfeolagohkaaGreatK29
import Derived.Test.YthpjfeolagohkaaGreatK30
set_option maxRecDepth 100000
set_option maxHeartbeats 8000000
set_option linter.unusedVariables false
set_option linter.unusedSimpArgs false
namespace Go.Proofs.YthpjfeolagohkaaGreat
open Go Go.Vc
structure PB where
 n:Nat
 c:Nat
 tb:Nat
 tp:Nat
structure bM(H:Hp)(B:PB)(C:Nat→Prop)(w:Nw)(L:List Lk)(tops:List Int):Prop where
 own:∃tv,H.own B.n=some [ptr B.c,.slice (some ⟨B.tb,0,none⟩) L.length L.length,tv]∧Sl H 1 tv tops.length (tops.map i64) (some B.tp)
 cells:CQ H B.c C w
 eX:H.own B.tb=some (flatK L)
 len:L.length=w.cs.length
 nN:B.n≠B.tb∧B.n≠B.tp∧B.tb≠B.tp
 out:¬C B.n∧¬C B.tb∧¬C B.tp
def PB.S(B:PB)(C:Nat→Prop)(z:Nat):Prop:=C z∨z=B.n∨z=B.tb∨z=B.tp
section
variable {H H' : Hp} {B : PB} {C V : Nat → Prop} {w w' : Nw} {L L' : List Lk} {tops : List Int}
theorem bM.slt(h:bM H B C w L tops):∀z,B.S C z→z<H.size:=by
 obtain⟨tv,h1,h2⟩:=h.own
 rintro z (hz|rfl|rfl|rfl)
 ·exact h.cells.slt z hz
 ·exact aB h1
 ·exact aB h.eX
 ·exact h2.lt
theorem bM.ext(h:bM H B C w L tops)(e:ag V H H')(hd:∀z,B.S C z→¬V z):bM H' B C w L tops:=by
 obtain⟨tv,h1,h2⟩:=h.own
 exact⟨⟨tv,e.own h1 (hd _ (.inr (.inl rfl))),h2.ext e (fun b hb=>by injection hb with hb;exact hb▸hd _ (.inr (.inr (.inr rfl))))⟩,h.cells.ext e (fun x hx=>hd x (.inl hx)),
  e.own h.eX (hd _ (.inr (.inr (.inl rfl)))),h.len,h.nN,h.out⟩
theorem bM.fresh(h:bM H B C w L tops)(e:am H H'):bM H' B C w L tops:=h.ext e fun _ _ h=>h
theorem bM.aH(h:bM H B C w L tops)(c1:CQ H' B.c C w')(e:ag C H H')(hl:w'.cs.length=w.cs.length):bM H' B C w' L tops:=by
 obtain⟨tv,h1,h2⟩:=h.own
 obtain⟨o1,o2,o3⟩:=h.out
 exact⟨⟨tv,e.own h1 o1,h2.ext e (fun b hb=>by injection hb with hb;exact hb▸o3)⟩,c1,e.own h.eX o2,by rw[hl];exact h.len,h.nN,h.out⟩
theorem bM.Pe(h:bM H B C w L tops)(hl:L'.length=L.length):bM (H.wr B.tb (flatK L')) B C w L' tops∧ag (fun z=>z=B.tb) H (H.wr B.tb (flatK L')):=by
 obtain⟨tv,h1,h2⟩:=h.own
 obtain⟨o1,o2,o3⟩:=h.out
 obtain⟨d1,d2,d3⟩:=h.nN
 have e:ag (fun z=>z=B.tb) H (H.wr B.tb (flatK L')):=(ag.refl (fun z=>z=B.tb) _).wr (fun _=>rfl) _
 exact⟨⟨⟨tv,by rw[hl];exact e.own h1 d1,h2.ext e (fun b hb=>by injection hb with hb;omega)⟩,h.cells.ext e (fun x hx hz=>o2 (hz▸hx)),ah h.eX,by rw[hl];exact h.len,h.nN,h.out⟩,e⟩
theorem bM.fR(h:bM H B C w L tops):∃c l,H.own B.n=some [ptr B.c,.slice (some ⟨B.tb,0,none⟩) L.length L.length,.slice (some ⟨B.tp,0,none⟩) tops.length c]∧H.own B.tp=some l∧tops.length≤c∧c≤l.length∧l.take tops.length=tops.map i64:=by
 obtain⟨tv,h1,_,l,c,rfl,h3,h4,h5,h6⟩:=h.own
 rw[aos]at h5 h6
 exact⟨c,l,h1,h3,h4,h5,h6⟩
theorem bM.eR(h:bM H B C w L tops){l:List Value}(hl:H.own B.tp=some l){i:Nat}{x:Int}(hx:tops[i]? =some x):l[i]? =some (i64 x):=by
 obtain⟨c,l',_,h2,_,_,h5⟩:=h.fR
 rw[hl]at h2
 injection h2 with h2
 subst h2
 have h7:(tops.map i64)[i]? =some (i64 x):=by rw[aoG,hx];rfl
 rw[←h5,aoU]at h7
 split at h7
 ·exact h7
 ·cases h7
theorem bM.kL(h:bM H B C w L tops){l:List Value}(hl:H.own B.tp=some l)(i:Nat)(v:Int):bM (H.wr B.tp (l.set i (i64 v))) B C w L (tops.set i v)∧ag (fun z=>z=B.tp) H (H.wr B.tp (l.set i (i64 v))):=by
 obtain⟨c,l',h1,h2,h3,h4,h5⟩:=h.fR
 rw[hl]at h2
 injection h2 with h2
 subst h2
 obtain⟨o1,o2,o3⟩:=h.out
 obtain⟨d1,d2,d3⟩:=h.nN
 have e:ag (fun z=>z=B.tp) H (H.wr B.tp (l.set i (i64 v))):=(ag.refl (fun z=>z=B.tp) _).wr (fun _=>rfl) _
 refine⟨⟨⟨_,e.own h1 d2,?_⟩,h.cells.ext e (fun x hx hz=>o3 (hz▸hx)),e.own h.eX d3,h.len,h.nN,h.out⟩,e⟩
 refine⟨by simp,l.set i (i64 v),c,by rw[aot],ah hl,by rw[aot];exact h3,by rw[aot,aos];exact h4,?_⟩
 rw[aot,aos,mB,h5,ao9]
theorem bM.rd(h:bM H B C w L tops){x:Int}(hx:0≤x∧x<w.cs.length):x.toNat*3+2< (flatK L).length∧(flatK L)[x.toNat*3]? =some (i64 (aX L x false))∧(flatK L)[x.toNat*3+1]? =some (i64 (aX L x true))∧(flatK L)[x.toNat*3+2]? =some (i64 (bh L x)):=by
 have hl:=h.len
 have hf:=im L
 obtain⟨y,hy⟩:∃y,L[x.toNat]? =some y:=⟨_,aop (by omega)⟩
 obtain⟨h1,h2,h3⟩:=OX hy
 rw[oN hx.1 hy,oN hx.1 hy,uH hx.1 hy]
 exact⟨by omega,h1,h2,h3⟩
theorem bM.N9(h:bM H B C w L tops){x:Int}(hx:0≤x∧x<w.cs.length)(v:Int):∃L',aX L'=ez (aX L) x false v∧bh L'=bh L∧bM (H.wr B.tb ((flatK L).set (x.toNat*3) (i64 v))) B C w L' tops∧ag (fun z=>z=B.tb) H (H.wr B.tb ((flatK L).set (x.toNat*3) (i64 v))):=by
 have hl:=h.len
 obtain⟨y,hy⟩:∃y,L[x.toNat]? =some y:=⟨_,aop (by omega)⟩
 refine⟨L.set x.toNat (y.fP false v),rD hx.1 hy false v,rE hx.1 hy false v,?_⟩
 have:=vw hy false v
 rw[show x.toNat*3+false.toNat=x.toNat*3 from rfl]at this
 rw[this]
 exact h.Pe (aot ..)
theorem bM.Of(h:bM H B C w L tops){x:Int}(hx:0≤x∧x<w.cs.length)(v:Int):∃L',aX L'=ez (aX L) x true v∧bh L'=bh L∧bM (H.wr B.tb ((flatK L).set (x.toNat*3+1) (i64 v))) B C w L' tops∧ag (fun z=>z=B.tb) H (H.wr B.tb ((flatK L).set (x.toNat*3+1) (i64 v))):=by
 have hl:=h.len
 obtain⟨y,hy⟩:∃y,L[x.toNat]? =some y:=⟨_,aop (by omega)⟩
 refine⟨L.set x.toNat (y.fP true v),rD hx.1 hy true v,rE hx.1 hy true v,?_⟩
 have:=vw hy true v
 rw[show x.toNat*3+true.toNat=x.toNat*3+1 from rfl]at this
 rw[this]
 exact h.Pe (aot ..)
theorem bM.J7(h:bM H B C w L tops){x:Int}(hx:0≤x∧x<w.cs.length)(v:Int):∃L',aX L'=aX L∧bh L'=aJ (bh L) x v∧bM (H.wr B.tb ((flatK L).set (x.toNat*3+2) (i64 v))) B C w L' tops∧ag (fun z=>z=B.tb) H (H.wr B.tb ((flatK L).set (x.toNat*3+2) (i64 v))):=by
 have hl:=h.len
 obtain⟨y,hy⟩:∃y,L[x.toNat]? =some y:=⟨_,aop (by omega)⟩
 refine⟨L.set x.toNat ⟨y.a,y.b,v⟩,CT hx.1 hy v,CU hx.1 hy v,?_⟩
 rw[F6 hy v]
 exact h.Pe (aot ..)
variable {g : Int} {R : Int → Prop} {HI ch : Int → List Int} {par : Int → Int} {W : List Int} {a b : Int}
theorem cZ(m:bM H B C w L tops)(pw:DB (aE w) (aN w) g R HI ch par (ws [a,b]++W))(pl:JN (aX L) (bh L) ch par):
  af Tryz.prog vS [ptr B.n,i64 a,i64 b] H fun v H'=>ar (∃r L' dA bm,v=i64 r∧(r= -1→a= -1∧b= -1)∧bM H' B C w L' tops∧DB (aE w) (aN w) g R HI dA bm (ws [r]++W)∧JN (aX L') (bh L') dA bm∧ag (fun z=>C z∨z=B.tb) H H'):=by
 refine aZ wL ?_
 refine vs ?_
 rw[mi,dY a,dY b]at pw
 refine ai.dec (fun ga=>?_) (fun ga=>?_)<;>refine vs ?_
 ·rw[if_pos ga]at pw
  rw[←dY b]at pw
  exact⟨b,L,ch,par,rfl,fun h=>⟨ga,h⟩,m,pw,pl,ag.refl _ _⟩
 rw[if_neg ga]at pw
 refine ai.dec (fun gb=>?_) (fun gb=>?_)<;>refine vs ?_
 ·rw[if_pos gb]at pw
  exact⟨a,L,ch,par,rfl,fun h=>⟨h,gb⟩,m,by rw[dY,if_neg ga];exact pw,pl,ag.refl _ _⟩
 rw[if_neg gb]at pw
 obtain⟨tv,o1,_⟩:=m.own
 refine v1 (ae o1) ?_
 refine(cE m.cells b a).mono ?_
 rintro _ H2 ⟨rfl,c2,e2⟩
 have m2:=m.aH c2 e2 rfl
 have Vk:DB (aE w) (aN w) g R HI ch par (a::b::W):=pw
 obtain⟨a1,a2,a3⟩:=Vk.wm a (by simp)
 obtain⟨b1,b2,b3⟩:=Vk.wm b (by simp)
 have BP:=gD (w:=w) (a:=b) (b:=a) (by rw[b2];exact Vk.g0) (by rw[a2];exact Vk.g0)
 rw[BP]
 have aQ:a≠b:=fun e=>by have:=Vk.nd;rw[e]at this;simp at this
 obtain⟨p,q,Q4,hl,pw2⟩:∃p q,(if aN w b a=true then(p=b∧q=a)else(p=a∧q=b))∧aN w p q=true∧DB (aE w) (aN w) g R HI ch par (p::q::W):=by
  cases aK:aN w b a
  ·exact⟨a,b,by simp,((ap w).OQ a b aQ).resolve_right (by rw[aK];simp),Vk⟩
  ·exact⟨b,a,by simp,aK,Vk.perm (List.Perm.swap ..)⟩
 obtain⟨p1,p2,p3⟩:=pw2.wm p (by simp)
 obtain⟨q1,q2,q3⟩:=pw2.wm q (by simp)
 have agU:p≠q:=fun e=>by rw[e,(ap w).BT]at hl;cases hl
 have pw3:=pw2.link hl
 have T7:=pl.link pw2.pr p1 q3 agU
 obtain⟨px,py,_⟩:=aC (w:=w) (x:=p) (by rw[p2];exact Vk.g0)
 obtain⟨qx,qy,_⟩:=aC (w:=w) (x:=q) (by rw[q2];exact Vk.g0)
 have hold:aX L p false≠ -1→0≤aX L p false∧aX L p false<w.cs.length:=fun h=>by
  have h1:aX L p false∈ch p:=by rw[pl.hd]at h ⊢;exact eA h
  have h2:=(pw2.pr.dn p _ h1).2.2.2.1
  obtain⟨z0,z1,_⟩:=aC h2
  exact⟨z0,z1⟩
 have aR:=m2.len
 have ws1:ws [p]=[p]:=by rw[dY,if_neg p1]
 cases aK:aN w b a<;>simp only[aK,if_true,if_false,apJ]at Q4<;>obtain⟨rfl,rfl⟩:=Q4<;>refine vs ?_
 all_goals
  obtain⟨NR,o2,_⟩:=m2.own
  obtain⟨r0,r1,r2,r3⟩:=m2.rd ⟨px,py⟩
  refine v1 (ae o2) ?_
  refine⟨⟨by omega,by omega⟩,?_⟩
  refine v4 (ae m2.eX) aor Nat.add_zero r1 ?_
  refine v1 (ae o2) ?_
  refine⟨⟨by omega,by omega⟩,?_⟩
  obtain⟨L3,k3,u3,m3,e3⟩:=m2.Of ⟨qx,qy⟩ (aX L p false)
  obtain⟨s0,_⟩:=m2.rd ⟨qx,qy⟩
  refine v3 m2.eX aor Nat.add_zero ?_
  refine⟨by omega,?_⟩
  refine vs ?_
  generalize H2.wr B.tb ((flatK L).set (q.toNat*3+1) (i64 (aX L p false)))=H3 at*
  obtain⟨L4,k4,u4,m4,e4⟩:=m3.J7 ⟨qx,qy⟩ p
  obtain⟨s4,_⟩:=m3.rd ⟨qx,qy⟩
  refine⟨⟨by omega,by omega⟩,?_⟩
  refine v3 m3.eX aor Nat.add_zero ?_
  refine⟨by omega,?_⟩
  refine vs ?_
  generalize H3.wr B.tb ((flatK L3).set (q.toNat*3+2) (i64 p))=H4 at*
  have e24:ag (fun z=>C z∨z=B.tb) H H4:=((e2.mono fun z _ h=>.inl h).trans (e3.mono fun z _ h=>.inr h)).trans (e4.mono fun z _ h=>.inr h)
  have Yt:=m4.len
  refine ai.dec (fun go=>?_) (fun go=>?_)<;>refine vs ?_
  ·obtain⟨tv4,o4,_⟩:=m4.own
   obtain⟨L5,k5,u5,m5,e5⟩:=m4.N9 ⟨px,py⟩ q
   obtain⟨s5,_⟩:=m4.rd ⟨px,py⟩
   refine v1 (ae o4) ?_
   refine⟨⟨by omega,by omega⟩,?_⟩
   refine v3 m4.eX aor Nat.add_zero ?_
   refine⟨by omega,?_⟩
   refine vs ?_
   refine⟨p,L5,_,_,rfl,fun h=>absurd h p1,m5,by rw[ws1];exact pw3,?_,e24.trans (e5.mono fun z _ h=>.inr h)⟩
   rw[if_pos go]at T7
   rw[k5,u5,k4,u4,k3,u3]
   exact T7
  ·obtain⟨tv4,o4,_⟩:=m4.own
   obtain⟨ox,oy⟩:=hold go
   obtain⟨L5,k5,u5,m5,e5⟩:=m4.J7 ⟨ox,oy⟩ q
   obtain⟨s5,_⟩:=m4.rd ⟨ox,oy⟩
   refine v1 (ae o4) ?_
   refine⟨⟨by omega,by omega⟩,?_⟩
   refine v3 m4.eX aor Nat.add_zero ?_
   refine⟨by omega,?_⟩
   refine vs ?_
   generalize H4.wr B.tb ((flatK L4).set ((aX L p false).toNat*3+2) (i64 q))=H5 at*
   obtain⟨tv5,o5,_⟩:=m5.own
   have hl5:=m5.len
   obtain⟨L6,k6,u6,m6,e6⟩:=m5.N9 ⟨px,py⟩ q
   obtain⟨s6,_⟩:=m5.rd ⟨px,py⟩
   refine v1 (ae o5) ?_
   refine⟨⟨by omega,by omega⟩,?_⟩
   refine v3 m5.eX aor Nat.add_zero ?_
   refine⟨by omega,?_⟩
   refine vs ?_
   refine⟨p,L6,_,_,rfl,fun h=>absurd h p1,m6,by rw[ws1];exact pw3,?_,(e24.trans (e5.mono fun z _ h=>.inr h)).trans (e6.mono fun z _ h=>.inr h)⟩
   rw[if_neg go]at T7
   rw[k6,u6,k5,u5,k4,u4,k3,u3]
   exact T7
theorem qj(m:bM H B C w L tops){lt:Int→Int→Bool}(hs:bk lt)(q:Pr (aE w) lt ch par)(pl:JN (aX L) (bh L) ch par){p x:Int}{l1 l2:List Int}(hp:ch p=l1++x::l2):
  af Tryz.prog yj [ptr B.n,i64 x] H fun v H'=>ar (∃L',bM H' B C w L' tops∧JN (aX L') (bh L') (ax ch p (l1++l2)) (aJ par x (-1))∧ag (fun z=>z=B.tb) H H'):=by
 obtain⟨f1,f2,f7,f3,f4,f5,f6⟩:=pl.off q hs hp
 have hx:=(q.dn p x (by rw[hp];simp)).2.2.2.1
 obtain⟨x0,x1,_⟩:=aC hx
 obtain⟨y0,y1,_⟩:=aC (w:=w) (x:=bh L x) (by omega)
 obtain⟨tv,o1,_⟩:=m.own
 obtain⟨r0,r1,r2,r3⟩:=m.rd ⟨x0,x1⟩
 obtain⟨t0,t1,t2,t3⟩:=m.rd ⟨y0,y1⟩
 have hl:=m.len
 refine Kw yP ⟨rfl,?_⟩
 refine v2 mS.eq_1 (ae o1) ?_
 refine⟨⟨by omega,by omega⟩,?_⟩
 refine v5 (ae o1) (ae m.eX) aor Nat.add_zero r3 ?_
 refine⟨⟨by omega,by omega⟩,?_⟩
 refine v4 (ae m.eX) aor Nat.add_zero t1 ?_
 have bx:bh L x≠x:=f7
 refine ai.dec (fun g=>?_) (fun g=>?_)<;>refine vs ?_
 ·have rQ:=f1.1 g
  rw[if_pos rQ]at f6
  refine v6 (ae o1) (ae m.eX) aor Nat.add_zero r2 r3 ?_
  refine⟨⟨by omega,by omega⟩,?_⟩
  obtain⟨L1,k1,u1,m1,e1⟩:=m.N9 ⟨y0,y1⟩ (aX L x true)
  refine v3 m.eX aor Nat.add_zero ?_
  refine⟨by omega,?_⟩
  refine vs ?_
  generalize H.wr B.tb ((flatK L).set ((bh L x).toNat*3) (i64 (aX L x true)))=H1 at*
  obtain⟨s0,s1,s2,s3⟩:=m1.rd ⟨x0,x1⟩
  have rQ:=m1.len
  obtain⟨CW,o1,_⟩:=m1.own
  have en:aX L1 x true=aX L x true:=by
   rw[k1]
   unfold ez
   rw[if_neg (by simp[bx.symm])]
  have eu:bh L1 x=bh L x:=by rw[u1]
  rw[en]at s2
  rw[eu]at s3
  refine v4 (ae m1.eX) aor Nat.add_zero s2 ?_
  refine ai.dec (fun gn=>?_) (fun gn=>?_)<;>refine vs ?_
  ·obtain⟨L2,k2,u2,m2,e2⟩:=m1.Of ⟨x0,x1⟩ (-1)
   refine v3 m1.eX aor Nat.add_zero ?_
   refine⟨by omega,?_⟩
   obtain⟨v0,_⟩:=m2.rd ⟨x0,x1⟩
   obtain⟨L3,k3,u3,m3,e3⟩:=m2.J7 ⟨x0,x1⟩ (-1)
   refine vs ?_
   generalize H1.wr B.tb ((flatK L1).set (x.toNat*3+1) (Value.int .i64 (-1)))=H2 at*
   refine v3 m2.eX aor Nat.add_zero ?_
   refine⟨by omega,?_⟩
   refine vs ?_
   refine⟨L3,m3,?_,(e1.trans e2).trans e3⟩
   rw[if_pos gn]at f6
   rw[k3,u3,k2,u2,k1,u1]
   exact f6
  ·obtain⟨z0,z1,_⟩:=aC (w:=w) (x:=aX L x true) (by rw[f5 gn];exact hx)
   obtain⟨v0,_⟩:=m1.rd ⟨z0,z1⟩
   refine v6 (ae o1) (ae m1.eX) aor Nat.add_zero s2 s3 ?_
   refine⟨⟨by omega,by omega⟩,?_⟩
   obtain⟨L2,k2,u2,m2,e2⟩:=m1.J7 ⟨z0,z1⟩ (bh L x)
   refine v3 m1.eX aor Nat.add_zero ?_
   refine⟨by omega,?_⟩
   refine vs ?_
   generalize H1.wr B.tb ((flatK L1).set ((aX L x true).toNat*3+2) (i64 (bh L x)))=H2 at*
   obtain⟨v1,_⟩:=m2.rd ⟨x0,x1⟩
   obtain⟨L3,k3,u3,m3,e3⟩:=m2.Of ⟨x0,x1⟩ (-1)
   refine v3 m2.eX aor Nat.add_zero ?_
   refine⟨by omega,?_⟩
   obtain⟨v2,_⟩:=m3.rd ⟨x0,x1⟩
   obtain⟨L4,k4,u4,m4,e4⟩:=m3.J7 ⟨x0,x1⟩ (-1)
   refine vs ?_
   generalize H2.wr B.tb ((flatK L2).set (x.toNat*3+1) (Value.int .i64 (-1)))=H3 at*
   refine v3 m3.eX aor Nat.add_zero ?_
   refine⟨by omega,?_⟩
   refine vs ?_
   refine⟨L4,m4,?_,((e1.trans e2).trans e3).trans e4⟩
   rw[if_neg gn]at f6
   rw[k4,u4,k3,u3,k2,u2,k1,u1]
   exact f6
 ·have rQ:l1≠[]:=fun h=>g (f1.2 h)
  rw[if_neg rQ]at f6
  refine v6 (ae o1) (ae m.eX) aor Nat.add_zero r2 r3 ?_
  refine⟨⟨by omega,by omega⟩,?_⟩
  obtain⟨L1,k1,u1,m1,e1⟩:=m.Of ⟨y0,y1⟩ (aX L x true)
  refine v3 m.eX aor Nat.add_zero ?_
  refine⟨by omega,?_⟩
  refine vs ?_
  generalize H.wr B.tb ((flatK L).set ((bh L x).toNat*3+1) (i64 (aX L x true)))=H1 at*
  obtain⟨s0,s1,s2,s3⟩:=m1.rd ⟨x0,x1⟩
  have rQ:=m1.len
  obtain⟨CW,o1,_⟩:=m1.own
  have en:aX L1 x true=aX L x true:=by
   rw[k1]
   unfold ez
   rw[if_neg (by simp[bx.symm])]
  have eu:bh L1 x=bh L x:=by rw[u1]
  rw[en]at s2
  rw[eu]at s3
  refine v4 (ae m1.eX) aor Nat.add_zero s2 ?_
  refine ai.dec (fun gn=>?_) (fun gn=>?_)<;>refine vs ?_
  ·obtain⟨L2,k2,u2,m2,e2⟩:=m1.Of ⟨x0,x1⟩ (-1)
   refine v3 m1.eX aor Nat.add_zero ?_
   refine⟨by omega,?_⟩
   obtain⟨v0,_⟩:=m2.rd ⟨x0,x1⟩
   obtain⟨L3,k3,u3,m3,e3⟩:=m2.J7 ⟨x0,x1⟩ (-1)
   refine vs ?_
   generalize H1.wr B.tb ((flatK L1).set (x.toNat*3+1) (Value.int .i64 (-1)))=H2 at*
   refine v3 m2.eX aor Nat.add_zero ?_
   refine⟨by omega,?_⟩
   refine vs ?_
   refine⟨L3,m3,?_,(e1.trans e2).trans e3⟩
   rw[if_pos gn]at f6
   rw[k3,u3,k2,u2,k1,u1]
   exact f6
  ·obtain⟨z0,z1,_⟩:=aC (w:=w) (x:=aX L x true) (by rw[f5 gn];exact hx)
   obtain⟨v0,_⟩:=m1.rd ⟨z0,z1⟩
   refine v6 (ae o1) (ae m1.eX) aor Nat.add_zero s2 s3 ?_
   refine⟨⟨by omega,by omega⟩,?_⟩
   obtain⟨L2,k2,u2,m2,e2⟩:=m1.J7 ⟨z0,z1⟩ (bh L x)
   refine v3 m1.eX aor Nat.add_zero ?_
   refine⟨by omega,?_⟩
   refine vs ?_
   generalize H1.wr B.tb ((flatK L1).set ((aX L x true).toNat*3+2) (i64 (bh L x)))=H2 at*
   obtain⟨v1,_⟩:=m2.rd ⟨x0,x1⟩
   obtain⟨L3,k3,u3,m3,e3⟩:=m2.Of ⟨x0,x1⟩ (-1)
   refine v3 m2.eX aor Nat.add_zero ?_
   refine⟨by omega,?_⟩
   obtain⟨v2,_⟩:=m3.rd ⟨x0,x1⟩
   obtain⟨L4,k4,u4,m4,e4⟩:=m3.J7 ⟨x0,x1⟩ (-1)
   refine vs ?_
   generalize H2.wr B.tb ((flatK L2).set (x.toNat*3+1) (Value.int .i64 (-1)))=H3 at*
   refine v3 m3.eX aor Nat.add_zero ?_
   refine⟨by omega,?_⟩
   refine vs ?_
   refine⟨L4,m4,?_,((e1.trans e2).trans e3).trans e4⟩
   rw[if_neg gn]at f6
   rw[k4,u4,k3,u3,k2,u2,k1,u1]
   exact f6
end
end Go.Proofs.YthpjfeolagohkaaGreat

namespace Go.Proofs.YthpjfeolagohkaaGreat
open Go Go.Vc
section
variable {H : Hp} {B : PB} {C V : Nat → Prop} {w : Nw} {L : List Lk} {tops : List Int} {ch HI : Int → List Int} {par : Int → Int}
theorem Pr.len(q:Pr (aE w) (aN w) ch par)(x:Int):(ch x).length≤w.cs.length:=bU (q.nd x) fun c hc=>by
 obtain⟨z0,z1,_⟩:=aC (q.dn x c hc).2.2.2.1
 exact⟨z0,z1⟩
theorem JM.next{K:Int→Bool→Int}{Bk:Int→Int}:∀ {l1:List Int} {p x:Int} {l2:List Int},JM K Bk p (l1++x::l2)→K x true=l2.headD (-1):=fun h=>h.split.2.1
theorem Bw(m:bM H B C w L tops)(q:Pr (aE w) (aN w) ch par)(pl:JN (aX L) (bh L) ch par){x:Int}(hx:0<aE w x):
  af Tryz.prog vU [ptr B.n,i64 x] H fun v H'=>ar (∃fp,bM H' B C w L tops∧ag C H H'∧Sl H' 1 v (ch x).length ((ch x).map i64) fp∧∀b,fp=some b→H.size≤b):=by
 obtain⟨x0,x1,_⟩:=aC hx
 have tD:=m.cells.Er
 have aR:=q.len x
 refine aZ wN ?_
 obtain⟨tv,o1,_⟩:=m.own
 refine v1 (ae o1) ?_
 refine(df m.cells x).mono ?_
 rintro _ H1 (⟨bS,_,_⟩| ⟨bE,rfl,c1,e1⟩)
 ·exact absurd (bC.1 hx) bS
 have m1:=m.aH c1 e1 rfl
 obtain⟨CW,o1,_⟩:=m1.own
 obtain⟨r0,r1,r2,r3⟩:=m1.rd ⟨x0,x1⟩
 have hl:=m1.len
 have z1:=e1.size
 refine v1 (ae o1) ?_
 refine⟨⟨by omega,by omega⟩,?_⟩
 refine v4 (ae m1.eX) aor Nat.add_zero r1 ?_
 refine aS.intro (fun mm env H'=>∃ (d r:List Int) (wv:Value) (fp:Option Nat),mm=r.length∧ch x=d++r∧bM H' B C w L tops∧(∀z,fp=some z→H.size≤z)∧Sl H' 1 wv d.length (d.map i64) fp∧ag (fun z=>C z∨H.size≤z) H H'∧
  env=[(0,ptr B.n),(7,wv),(8,i64 (r.headD (-1)))]) _ ⟨[],ch x,_,none,rfl,rfl,m1,(fun z h=>by cases h),Sl.nil _ _,e1.mono (fun z _ h=>.inl h),by rw[pl.hd]⟩ ?_
 rintro mm env H2 ⟨d,r,wv,fp,rfl,ZX,m2,fU,s2,e2,rfl⟩
 have z2:=e2.size
 refine vs ?_
 cases r with
 |nil=>
  refine ai.dec (fun _=>?_) (fun h=>absurd rfl h)
  refine vs ?_
  rw[ao3]at ZX
  rw[ZX]
  exact⟨fp,m2,e2.mono (fun z hz h=>h.elim id fun h=>by omega),s2,fU⟩
 |cons c r=>
  have hc:=q.dn x c (by rw[ZX];simp)
  obtain⟨c0,c1,_⟩:=aC hc.2.2.2.1
  have ET:=pl.sg x
  rw[ZX]at ET
  have ET:=ET.next
  have jx:d.length+(r.length+1)=(ch x).length:=by rw[ZX,aoy,aoI]
  refine ai.dec (fun h=>absurd h (by simp only[List.headD_cons];omega)) (fun _=>?_)
  refine vs ?_
  refine AZ (B:=H.size) fU (by omega) s2 c (by omega) fun w' H3 dT iN s3 e3=>?_
  refine vs ?_
  have m3:=m2.ext e3 (fun z hz dP=>by have:=m.slt z hz;omega)
  obtain⟨XC,o3,_⟩:=m3.own
  obtain⟨t0,t1,t2,t3⟩:=m3.rd ⟨c0,c1⟩
  have Pp:=m3.len
  simp(disch:=(first|omega| (simp only[Zs]<;>omega)|fail)) only[go_sem, ↓reduceIte,Zv,ae o3,List.headD_cons]
  refine⟨⟨by omega,by omega⟩,?_⟩
  refine v4 (ae m3.eX) aor Nat.add_zero t2 ?_
  refine⟨r.length,by simp,d++[c],r,w',dT,rfl,by rw[ZX];simp,m3,iN,s3,e2.trans (e3.mono fun z _ h=>.inr h),by rw[ET]⟩
theorem iX(m:bM H B C w L tops)(q:Pr (aE w) (aN w) ch par)(pl:JN (aX L) (bh L) ch par){x:Int}(hx:0<aE w x):
  af Tryz.prog vT [ptr B.n,i64 x] H fun v H'=>ar (∃r L' dA bm,v=i64 r∧bM H' B C w L' tops∧JN (aX L') (bh L') dA bm∧
   DB (aE w) (aN w) (aE w x) (fun y=>0<aE w y∧par y= -1) (ax ch x []) dA bm (ws [r])∧ag (fun z=>C z∨z=B.tb) H H'):=by
 obtain⟨x0,x1,_⟩:=aC hx
 have tD:=m.cells.Er
 have aR:=q.len x
 refine aZ wM ?_
 refine vs ?_
 refine(Bw m q pl hx).mono ?_
 rintro kv H1 ⟨fp,m1,e1,s1,fU⟩
 have z1:=e1.size
 obtain⟨CW,o1,_⟩:=m1.own
 obtain⟨r0,_⟩:=m1.rd ⟨x0,x1⟩
 have hl:=m1.len
 refine v1 (ae o1) ?_
 refine⟨⟨by omega,by omega⟩,?_⟩
 obtain⟨L2,k2,u2,m2,e2⟩:=m1.N9 ⟨x0,x1⟩ (-1)
 refine v3 m1.eX aor Nat.add_zero ?_
 refine⟨by omega,?_⟩
 refine vs ?_
 generalize H1.wr B.tb ((flatK L).set (x.toNat*3) (Value.int .i64 (-1)))=H2 at*
 have hN:∀z,B.S C z→z<H.size:=m.slt
 have sl2:B.tb<H.size:=hN _ (.inr (.inr (.inl rfl)))
 have s2:=s1.ext e2 (fun z hz dP=>by have:=fU z hz;omega)
 obtain⟨ka,kc,rfl⟩:=Sl.shape s2
 have oZ:ag (fun z=>C z∨z=B.tb∨H.size≤z) H H2:=(e1.mono fun z _ h=>.inl h).trans (e2.mono fun z _ h=>.inr (.inl h))
 refine vs ?_
 refine aS.intro (fun mm env H'=>∃ (i:Nat) (L':List Lk),mm=(ch x).length - i∧i≤(ch x).length∧bM H' B C w L' tops∧Sl H' 1 (.slice ka (ch x).length kc) (ch x).length ((ch x).map i64) fp∧ag (fun z=>C z∨z=B.tb∨H.size≤z) H H'∧
  (∀y,aX L' y false=if y=x then -1 else aX L y false)∧(∀c,(c∈(ch x).take i→aX L' c true= -1∧bh L' c= -1)∧(c∉ (ch x).take i→aX L' c true=aX L c true∧bh L' c=bh L c))∧
  env=[(0,ptr B.n),(5,.slice ka (ch x).length kc),(22,.slice ka (ch x).length kc),(23,i64 (ch x).length),(24,i64 i)]) _ ⟨0,L2,rfl,by omega,m2,s2,oZ,fun y=>?_,fun c=>⟨fun h=>by simp at h,fun _=>?_⟩,rfl⟩ ?_
 ·rw[k2]
  unfold ez
  by_cases hy:y=x
  ·rw[if_pos ⟨hy,rfl⟩,if_pos hy]
  ·rw[if_neg (by simp[hy]),if_neg hy]
 ·rw[k2,u2]
  unfold ez
  rw[if_neg (by simp)]
  exact⟨rfl,rfl⟩
 rintro mm env H3 ⟨i,L3,rfl,hi,m3,s3,e3,kf3,kt3,rfl⟩
 refine vs ?_
 refine ai.dec (fun gi=>?_) (fun gi=>?_)<;>refine vs ?_
 ·have jB:i< (ch x).length:=by omega
  obtain⟨c,hc⟩:∃c,(ch x)[i]? =some c:=⟨_,aop jB⟩
  have IP:=aow hc
  obtain⟨c0,c1,_⟩:=aC (q.dn x c IP).2.2.2.1
  obtain⟨_,kb,lb,rfl,q2,q3⟩:=Sl.zg s3 hc
  refine⟨⟨by omega,by omega⟩,?_⟩
  refine v5 (ae q2) aor aos Int.toNat_natCast q3 ?_
  obtain⟨XC,o3,_⟩:=m3.own
  obtain⟨t0,_⟩:=m3.rd ⟨c0,c1⟩
  have Pp:=m3.len
  refine v1 (ae o3) ?_
  refine⟨⟨by omega,by omega⟩,?_⟩
  obtain⟨L4,k4,u4,m4,e4⟩:=m3.Of ⟨c0,c1⟩ (-1)
  refine v3 m3.eX aor Nat.add_zero ?_
  refine⟨by omega,?_⟩
  obtain⟨t1,_⟩:=m4.rd ⟨c0,c1⟩
  have Yt:=m4.len
  obtain⟨L5,k5,u5,m5,e5⟩:=m4.J7 ⟨c0,c1⟩ (-1)
  refine vs ?_
  generalize H3.wr B.tb ((flatK L3).set (c.toNat*3+1) (Value.int .i64 (-1)))=H4 at*
  refine⟨⟨by omega,by omega⟩,?_⟩
  refine v3 m4.eX aor Nat.add_zero ?_
  refine⟨by omega,?_⟩
  refine vs ?_
  have s5:=(s3.ext e4 (fun z hz dP=>by have:=fU z hz;omega)).ext e5 (fun z hz dP=>by have:=fU z hz;omega)
  refine⟨(ch x).length - (i+1),by omega,i+1,L5,rfl,by omega,m5,s5,(e3.trans (e4.mono fun z _ h=>.inr (.inl h))).trans (e5.mono fun z _ h=>.inr (.inl h)),fun y=>?_,fun d=>?_,?_⟩
  ·rw[k5,k4]
   unfold ez
   rw[if_neg (by simp)]
   exact kf3 y
  ·have tk:(ch x).take (i+1)=(ch x).take i++[c]:=by rw[aoM,hc];rfl
   rw[tk,k5,k4,u5,u4]
   unfold ez aJ
   by_cases hd:d=c
   ·rw[if_pos ⟨hd,rfl⟩,if_pos hd]
    exact⟨fun _=>⟨rfl,rfl⟩,fun h=>absurd (show d∈(ch x).take i++[c] by simp[hd]) h⟩
   ·rw[if_neg (by simp[hd]),if_neg hd]
    refine⟨fun h=>(kt3 d).1 ?_,fun h=>(kt3 d).2 fun h2=>h (by simp[h2])⟩
    rcases aoL.1 h with h|h
    ·exact h
    ·exact absurd (aoH.1 h) hd
  ·rw[wrap64 (by omega) (by omega)]
   rfl
 obtain rfl:i=(ch x).length:=by omega
 rw[aoQ]at kt3
 have T7:=pl.bare q kf3 (fun c hc=>(kt3 c).1 hc) (fun c hc=>(kt3 c).2 hc)
 have pw3:=q.XH hx
 have EH:∀z,fp=some z→z<H3.size:=fun z hz=>by rw[hz]at s3;exact s3.lt
 have z3:=e3.size
 refine aS.intro (fun mm env H'=>∃ (i:Nat) (t:List Int) (wv:Value) (fq:Option Nat) (L':List Lk) (dA:Int→List Int) (bm:Int→Int),mm=(ch x).length+2 - i∧i≤(ch x).length+1∧t.length≤i∧bM H' B C w L' tops∧
  Sl H' 1 (.slice ka (ch x).length kc) (ch x).length ((ch x).map i64) fp∧(∀z,fq=some z→H3.size≤z)∧Sl H' 1 wv t.length (t.map i64) fq∧ag (fun z=>C z∨z=B.tb∨H.size≤z) H H'∧ag (fun z=>C z∨z=B.tb∨H3.size≤z) H3 H'∧
  DB (aE w) (aN w) (aE w x) (fun y=>0<aE w y∧par y= -1) (ax ch x []) dA bm (t++(ch x).drop i)∧JN (aX L') (bh L') dA bm∧
  env=[(0,ptr B.n),(5,.slice ka (ch x).length kc),(8,wv),(9,i64 i)]) _ ⟨0,[],_,none,L3,_,_,rfl,by omega,by simp,m3,s3,(fun z h=>by cases h),Sl.nil _ _,e3,ag.refl _ _,by simpa using pw3,T7,rfl⟩ ?_
 rintro mm env H4 ⟨i,t,wv,fq,L4,Vl,J8,rfl,hi,hti,m4,s4,KF,t4,e4,Yq,Yz,YA,rfl⟩
 have z4:=e4.size
 have z34:=Yq.size
 refine vs ?_
 refine ai.dec (fun gi=>?_) (fun gi=>?_)<;>refine vs ?_
 ·have jB:i< (ch x).length:=by omega
  obtain⟨c,hc⟩:∃c,(ch x)[i]? =some c:=⟨_,aop jB⟩
  have IP:=aow hc
  have Qz:=q.ne IP
  have dr:(ch x).drop i=c::(ch x).drop (i+1):=by
   rw[apm jB]
   congr 1
   rw[aop jB]at hc
   injection hc
  obtain⟨_,kb,lb,rfl,q2,q3⟩:=Sl.zg s4 hc
  refine ai.dec (fun g1=>?_) (fun g1=>?_)<;>refine vs ?_
  ·rw[wrap64 (by omega) (by omega)]at g1
   refine⟨⟨by omega,by omega⟩,?_⟩
   refine v5 (ae q2) aor aos Int.toNat_natCast q3 ?_
   refine AZ (B:=H3.size) KF z34 t4 c (by omega) fun w' H5 fq' Td t5 e5=>?_
   refine vs ?_
   have m5:=m4.ext e5 (fun z hz dP=>by have:=m.slt z hz;omega)
   have s5:=s4.ext e5 (fun z hz dP=>by have:=EH z hz;omega)
   refine⟨(ch x).length+2 - (i+2),by omega,i+2,t++[c],w',fq',L4,Vl,J8,rfl,by omega,by simp;omega,m5,s5,Td,t5,e4.trans (e5.mono fun z _ h=>.inr (.inr (by omega))),Yq.trans (e5.mono fun z _ h=>.inr (.inr h)),?_,YA,?_⟩
   ·rw[dr]at Yz
    rw[aqa (by omega)]
    rw[aqa (by omega)]at Yz
    simpa using Yz
   ·rw[wrap64 (by omega) (by omega)];rfl
  ·rw[wrap64 (by omega) (by omega)]at g1
   have rR:i+1< (ch x).length:=by omega
   obtain⟨d,hd⟩:∃d,(ch x)[i+1]? =some d:=⟨_,aop rR⟩
   have U4:=aow hd
   have XV:=q.ne U4
   have dr2:(ch x).drop (i+1)=d::(ch x).drop (i+2):=by
    rw[apm rR]
    congr 1
    rw[aop rR]at hd
    injection hd
   obtain⟨_,DL,lb2,ek,q5,q4⟩:=Sl.zg s4 hd
   injection ek with ek
   injection ek with ek
   subst ek
   rw[q2]at q5
   injection q5 with q5
   subst q5
   refine⟨⟨by omega,by omega⟩,?_⟩
   refine v5 (ae q2) aor aos Int.toNat_natCast q3 ?_
   rw[wrap64 (by omega) (by omega)]
   refine⟨⟨by omega,by omega⟩,?_⟩
   refine v5 (ae q2) aor aos (show((i:Int)+1).toNat=i+1 by omega) q4 ?_
   have w2:ws [c,d]=[c,d]:=by rw[mi,dY,dY,if_neg Qz,if_neg XV];rfl
   have YB:DB (aE w) (aN w) (aE w x) (fun y=>0<aE w y∧par y= -1) (ax ch x []) Vl J8 (ws [c,d]++(t++(ch x).drop (i+2))):=by
    rw[w2]
    rw[dr,dr2]at Yz
    refine Yz.perm ?_
    have h1:(t++c::d::(ch x).drop (i+2)).Perm (c::(t++d::(ch x).drop (i+2))):=List.perm_middle
    have h2:(t++d::(ch x).drop (i+2)).Perm (d::(t++(ch x).drop (i+2))):=List.perm_middle
    exact h1.trans (h2.cons c)
   refine(cZ m4 YB YA).mono ?_
   rintro _ H5 ⟨r,L5,ZY,QL,rfl,hr,m5,pw6,pl5,e5⟩
   have hrn:r≠ -1:=fun h=>Qz (hr h).1
   have z5:=e5.size
   have t5:=t4.ext e5 (fun z hz dP=>by have:=KF z hz;rcases dP with h|h;have:=m.slt z (.inl h);omega;omega)
   have s5:=s4.ext e5 (fun z hz dP=>by have:=fU z hz;rcases dP with h|h;have:=m.slt z (.inl h);omega;omega)
   refine vs ?_
   refine AZ (B:=H3.size) KF (by omega) t5 r (by omega) fun w' H6 fq' Td t6 e6=>?_
   refine vs ?_
   have m6:=m5.ext e6 (fun z hz dP=>by have:=m.slt z hz;omega)
   have s6:=s5.ext e6 (fun z hz dP=>by have:=EH z hz;omega)
   refine⟨(ch x).length+2 - (i+2),by omega,i+2,t++[r],w',fq',L5,ZY,QL,rfl,by omega,by simp;omega,m6,s6,Td,t6,(e4.trans (e5.mono fun z _ h=>h.elim .inl fun h=>.inr (.inl h))).trans (e6.mono fun z _ h=>.inr (.inr (by omega))),(Yq.trans (e5.mono fun z _ h=>h.elim .inl fun h=>.inr (.inl h))).trans (e6.mono fun z _ h=>.inr (.inr h)),?_,pl5,?_⟩
   ·rw[dY,if_neg hrn]at pw6
    refine pw6.perm ?_
    rw[apk]
    exact(List.perm_middle (l₁:=t) (a:=r) (l₂:=(ch x).drop (i+2))).symm
   ·rw[wrap64 (by omega) (by omega)];rfl
 rw[aqa (by omega),ao3]at Yz
 have HF:t.length≤65537:=by omega
 obtain⟨ta,tc,rfl⟩:=Sl.shape t4
 refine vs ?_
 refine aS.intro (fun mm env H'=>∃ (j:Nat) (r:Int) (L':List Lk) (dA:Int→List Int) (bm:Int→Int),mm=j∧j≤t.length∧bM H' B C w L' tops∧
  Sl H' 1 (.slice ta t.length tc) t.length (t.map i64) fq∧ag (fun z=>C z∨z=B.tb∨H.size≤z) H H'∧
  DB (aE w) (aN w) (aE w x) (fun y=>0<aE w y∧par y= -1) (ax ch x []) dA bm (ws [r]++t.take j)∧JN (aX L') (bh L') dA bm∧
  env=[(0,ptr B.n),(8,.slice ta t.length tc),(10,i64 r),(11,i64 ((j:Int) - 1))]) _ ⟨t.length, -1,L4,Vl,J8,rfl,aoB _,m4,t4,e4,by rw[dY,if_pos rfl,aoQ];exact Yz,YA,?_⟩ ?_
 ·rw[wrap64 (by omega) (by omega)]
 rintro mm env H5 ⟨j,r,L5,ZY,QL,ZC,hj,m5,t5,e5,YB,pl5,rfl⟩
 obtain rfl:=ZC.symm
 refine vs ?_
 refine ai.dec (fun gj=>?_) (fun gj=>?_)<;>refine vs ?_
 ·obtain⟨k,rfl⟩:∃k,j=k+1:=⟨j - 1,by omega⟩
  obtain⟨c,hc⟩:∃c,t[k]? =some c:=⟨_,aop (by omega)⟩
  obtain⟨_,kb,lb,rfl,q2,q3⟩:=Sl.zg t5 hc
  have ji:((((k+1:Nat):Int) - 1)).toNat=k:=by omega
  refine⟨⟨by omega,by omega⟩,?_⟩
  refine v5 (ae q2) aor aos ji q3 ?_
  have tk:t.take (k+1)=t.take k++[c]:=by rw[aoM,hc];rfl
  have Qz:c≠ -1:=(YB.wm c (by rw[tk];simp)).1
  have pw6:DB (aE w) (aN w) (aE w x) (fun y=>0<aE w y∧par y= -1) (ax ch x []) ZY QL (ws [c,r]++t.take k):=by
   rw[tk]at YB
   refine YB.perm ?_
   rw[mi c [r],dY c,if_neg Qz]
   have h1:(ws [r]++(t.take k++[c])).Perm ((ws [r]++t.take k)++[c]):=by rw[apk]
   refine h1.trans (apZ.trans ?_)
   rw[apk]
  refine(cZ m5 pw6 pl5).mono ?_
  rintro _ H6 ⟨r2,L6,ZR,Oa,rfl,hr,m6,pw7,pl6,e6⟩
  have t6:=t5.ext e6 (fun z hz dP=>by have:=KF z hz;rcases dP with h|h;have:=m.slt z (.inl h);omega;omega)
  refine vs ?_
  refine⟨k,by omega,k,r2,L6,ZR,Oa,rfl,by omega,m6,t6,e5.trans (e6.mono fun z _ h=>h.elim .inl fun h=>.inr (.inl h)),pw7,pl6,?_⟩
  rw[show((k+1:Nat):Int) - 1 - 1=(k:Int) - 1 by omega,wrap64 (by omega) (by omega)]
 ·obtain rfl:j=0:=by omega
  rw[ap1,ao3]at YB
  exact⟨r,L5,ZY,QL,rfl,m5,pl5,YB,e5.mono fun z hz h=>h.elim .inl fun h=>.inr (by omega)⟩
end
end Go.Proofs.YthpjfeolagohkaaGreat

namespace Go.Proofs.YthpjfeolagohkaaGreat
open Go Go.Vc
structure Mo(w:Nw)(L:List Lk)(tops:List Int)(ch:Int→List Int)(par:Int→Int):Prop where
 t:UE (aE w) (aN w) ch par (bf tops)
 pl:JN (aX L) (bh L) ch par
 tl:tops.length=w.hs.length
def dF(n:Nat)(H:Hp)(S:Nat→Prop)(w:Nw):Prop:=∃ (B:PB) (C:Nat→Prop) (L:List Lk) (tops:List Int) (ch:Int→List Int) (par:Int→Int),B.n=n∧bM H B C w L tops∧Mo w L tops ch par∧∀z,S z↔B.S C z
theorem dF.slt{n:Nat}{H:Hp}{S:Nat→Prop}{w:Nw}(h:dF n H S w):∀z,S z→z<H.size:=by
 obtain⟨B,C,L,tops,ch,par,rfl,m,l,hS⟩:=h
 exact fun z hz=>m.slt z ((hS z).1 hz)
theorem dF.ext{n:Nat}{H H':Hp}{S V:Nat→Prop}{w:Nw}(h:dF n H S w)(e:ag V H H')(hd:∀z,S z→¬V z):dF n H' S w:=by
 obtain⟨B,C,L,tops,ch,par,rfl,m,l,hS⟩:=h
 exact⟨B,C,L,tops,ch,par,rfl,m.ext e (fun z hz=>hd z ((hS z).2 hz)),l,hS⟩
theorem De(cap:Int)(H:Hp):af Tryz.prog Hm [i64 cap] H fun v H'=>ar (
  am H H'∧((¬ (0≤cap∧cap≤65536)∧v= .tuple [.pointer none,i64 31].toArray)∨
   ((0≤cap∧cap≤65536)∧∃n S,v= .tuple [ptr n,i64 0].toArray∧dF n H' S (Bf cap)∧∀x,S x→H.size≤x))):=by
 refine aZ Hz ?_
 refine vs ?_
 refine(kJ cap H).mono ?_
 rintro _ H1 ⟨f1,⟨hb,rfl⟩| ⟨hb,c,C,rfl,c1,hC⟩⟩
 ·refine vs ?_
  exact⟨f1,.inl ⟨hb,rfl⟩⟩
 refine v1 aoW ?_
 refine⟨⟨by omega,by omega,by omega,by omega⟩,?_⟩
 refine vs ?_
 rw[OY]
 have xp:=c1.slt
 have z1:=f1.size
 have f3:am H1 (((H1.new 227 (flatK (List.replicate cap.toNat ⟨0,0,0⟩))).new 3 [Value.int .i64 (-1)]).new 225 [ptr c,.slice (some ⟨H1.size,0,none⟩) cap.toNat cap.toNat,.slice (some ⟨H1.size+1,0,none⟩) 1 1]):=(((ag.refl _ _).new _ _).new _ _).new _ _
 have e1:ag (fun _=>False) (H1.new 227 (flatK (List.replicate cap.toNat ⟨0,0,0⟩))) (((H1.new 227 (flatK (List.replicate cap.toNat ⟨0,0,0⟩))).new 3 [Value.int .i64 (-1)]).new 225 [ptr c,.slice (some ⟨H1.size,0,none⟩) cap.toNat cap.toNat,.slice (some ⟨H1.size+1,0,none⟩) 1 1]):=((ag.refl _ _).new _ _).new _ _
 have e2:ag (fun _=>False) ((H1.new 227 (flatK (List.replicate cap.toNat ⟨0,0,0⟩))).new 3 [Value.int .i64 (-1)]) (((H1.new 227 (flatK (List.replicate cap.toNat ⟨0,0,0⟩))).new 3 [Value.int .i64 (-1)]).new 225 [ptr c,.slice (some ⟨H1.size,0,none⟩) cap.toNat cap.toNat,.slice (some ⟨H1.size+1,0,none⟩) 1 1]):=(ag.refl _ _).new _ _
 obtain⟨B,hB⟩:∃B:PB,B=⟨H1.size+1+1,c,H1.size,H1.size+1⟩:=⟨_,rfl⟩
 have m0:bM (((H1.new 227 (flatK (List.replicate cap.toNat ⟨0,0,0⟩))).new 3 [Value.int .i64 (-1)]).new 225 [ptr c,.slice (some ⟨H1.size,0,none⟩) cap.toNat cap.toNat,.slice (some ⟨H1.size+1,0,none⟩) 1 1]) B C (Bf cap) (List.replicate cap.toNat ⟨0,0,0⟩) [-1]:=by
  subst hB
  refine⟨⟨.slice (some ⟨H1.size+1,0,none⟩) 1 1,?_,?_⟩,c1.fresh f3,?_,?_,?_,?_⟩
  ·rw[aoY]
   exact be (by simp only[aq])
  ·exact(Sl.cB (size:=1) (n:=1) (xs:=[i64 (-1)]) rfl (by simp only[aq])).ext e2 (fun _ _ h=>h)
  ·exact e1.own (aD _ _ _) (fun h=>h)
  ·simp[Bf]
  ·refine⟨?_,?_,?_⟩<;>simp only<;>omega
  ·refine⟨fun h=>?_,fun h=>?_,fun h=>?_⟩<;>(have h2:=xp _ h;first|omega| (simp only at h2;omega))
 have EC:B.n=H1.size+1+1:=by rw[hB]
 have hBs:∀z,B.S C z→H1.size≤z∨C z:=fun z hz=>by
  rcases hz with hz|rfl|rfl|rfl
  ·exact .inr hz
  all_goals rw[hB];left;first|omega| (simp only;omega)
 have hBt:B.tb=H1.size:=by rw[hB]
 have ft:=f1.trans f3
 generalize ((H1.new 227 (flatK (List.replicate cap.toNat ⟨0,0,0⟩))).new 3 [Value.int .i64 (-1)]).new 225 [ptr c,.slice (some ⟨H1.size,0,none⟩) cap.toNat cap.toNat,.slice (some ⟨H1.size+1,0,none⟩) 1 1]=H2 at*
 obtain⟨tv0,o0,_⟩:=m0.own
 rw[aoY,EC]at o0
 refine aS.intro (fun m env H'=>∃j:Nat,m=cap.toNat - j∧j≤cap.toNat∧ag (fun z=>z=B.tb) H2 H'∧bM H' B C (Bf cap) (List.replicate j jd++List.replicate (cap.toNat - j) ⟨0,0,0⟩) [-1]∧
  env=[(6,ptr (H1.size+1+1)),(26,i64 (cap.toNat:Nat)),(27,i64 j)]) cap.toNat ⟨0,by omega,by omega,ag.refl _ _,by simpa using m0,rfl⟩ ?_
 rintro m env H3 ⟨j,rfl,hj,e3,m3,rfl⟩
 have jx:=im (List.replicate j jd++List.replicate (cap.toNat - j) (⟨0,0,0⟩:Lk))
 have sE:(List.replicate j jd++List.replicate (cap.toNat - j) (⟨0,0,0⟩:Lk)).length=cap.toNat:=by simp;omega
 obtain⟨XC,o3,_⟩:=m3.own
 rw[sE]at jx o3
 rw[EC]at o3
 refine vs ?_
 refine ai.dec (fun aK=>?_) (fun aK=>?_)<;>refine vs ?_
 ·refine v1 (ae o3) ?_
  refine⟨by omega,?_⟩
  refine v3 m3.eX aor Int.toNat_natCast ?_
  refine⟨by omega,?_⟩
  have q3:=IV (L:=List.replicate j jd++List.replicate (cap.toNat - j) (⟨0,0,0⟩:Lk)) (i:=j) (by omega) jd
  have q4:(List.replicate j jd++List.replicate (cap.toNat - j) (⟨0,0,0⟩:Lk)).set j jd=List.replicate (j+1) jd++List.replicate (cap.toNat - (j+1)) (⟨0,0,0⟩:Lk):=by
   rw[apS _ _ (by simp),aoY,apq,show cap.toNat - j=(cap.toNat - (j+1))+1 by omega,aoZ,apM,apv]
   simp
  rw[q4]at q3
  obtain⟨m4,e4⟩:=m3.Pe (L':=List.replicate (j+1) jd++List.replicate (cap.toNat - (j+1)) (⟨0,0,0⟩:Lk)) (by simp;omega)
  rw[show aY (flatK (List.replicate j jd++List.replicate (cap.toNat - j) (⟨0,0,0⟩:Lk))) (j*3) (aF (Value.agg #[Value.int .i64 (-1),Value.int .i64 (-1),Value.int .i64 (-1)]))=_ from q3]
  refine vs ?_
  rw[wrap64 (n:=(j:Int)+1) (by omega) (by omega)]
  exact⟨cap.toNat - (j+1),by omega,j+1,rfl,by omega,e3.trans e4,m4,rfl⟩
 ·obtain rfl:j=cap.toNat:=by omega
  rw[apq,apQ,ao3]at m3
  rw[←EC]
  refine⟨ft.then e3 (fun z hz=>by omega),.inr ⟨hb,B.n,B.S C,rfl,⟨B,C,_,[-1],fun _=>[],fun _=> -1,rfl,m3,⟨⟨⟨rfl,fun x c hc=>absurd hc (by simp),fun c x h hx=>absurd (Eq.symm h) hx,fun x=>apT⟩,
   ⟨fun x p h hp=>absurd (Eq.symm h) hp,fun g hg=>absurd (CZ g) hg,fun x hx=>absurd hx (kN cap x)⟩⟩,⟨fun x=>Be _ _ _,fun x=>trivial,fun c _=>⟨Be _ _ _,Gf _ _⟩⟩,rfl⟩,fun z=>Iff.rfl⟩,fun z hz=>?_⟩⟩
  rcases hBs z hz with h|h
  ·omega
  ·exact hC z h
theorem Bx{n:Nat}{H:Hp}{S:Nat→Prop}{w:Nw}(h:dF n H S w):af Tryz.prog lH [ptr n] H fun v H'=>ar (
  (w.hs.length=65537∧v=i64 0∧cA (dF n) S H H' w)∨(w.hs.length≠65537∧v=i64 w.hs.length∧cA (dF n) S H H' w.make)):=by
 obtain⟨B,C,L,tops,ch,par,rfl,m,l,hS⟩:=id h
 obtain⟨tv,ho,FL⟩:=m.own
 refine aZ wK ?_
 refine v1 (ae ho) ?_
 refine(iS m.cells).mono ?_
 rintro _ H1 (⟨h1,rfl,rfl⟩| ⟨h1,rfl,C',c1,e1,zi⟩)
 ·refine vs ?_
  exact .inl ⟨h1,rfl,cA.same h (ag.refl _ _)⟩
 have fC:=m.cells.pos
 have hhs:=m.cells.FL
 have HF:=l.tl
 have slt:=m.slt
 have Mf:=c1.slt
 obtain⟨n1,n2,n3⟩:=m.out
 obtain⟨d1,d2,d3⟩:=m.nN
 have o1:=e1.own ho n1
 refine vs ?_
 refine ai.bI (aoE (by omega)) ?_
 refine v1 (ae o1) ?_
 have s1:=FL.ext e1 (fun b hb=>by injection hb with hb;exact hb▸n3)
 refine Sv s1 (-1) (by omega) fun w' H2 b' mU s2 e2=>?_
 have o2:=e2.own o1 d2
 obtain⟨wa,wc,O3⟩:=Sl.shape s2
 subst O3
 refine v1 o2 ?_
 generalize O3:Value.slice wa (tops++[-1]).length wc=w' at*
 have e3:ag (fun z=>z=B.n) H2 (H2.wr B.n [ptr B.c,.slice (some ⟨B.tb,0,none⟩) L.length L.length,w']):=(ag.refl (fun z=>z=B.n) _).wr (fun _=>rfl) _
 have z1:=e1.size
 have hn:=slt _ (.inr (.inl rfl))
 have ht:=slt _ (.inr (.inr (.inl rfl)))
 have htp:=slt _ (.inr (.inr (.inr rfl)))
 have Gg:∀z,C' z→z≠b'∧(z<H.size→C z):=fun z hz=>by
  have h5:=Mf z hz
  rcases zi z hz with h6|h6
  ·refine⟨fun e=>?_,fun _=>h6⟩
   rcases mU with h7|h7
   ·exact n3 (by rw[←h7,←e];exact h6)
   ·omega
  ·exact⟨by omega,fun h=>by omega⟩
 refine .inr ⟨h1,rfl,(PB.mk B.n B.c B.tb b').S C',⟨⟨B.n,B.c,B.tb,b'⟩,C',L,tops++[-1],ch,par,rfl,⟨⟨w',ah o2,s2.ext e3 (fun b hb=>by injection hb with hb;omega)⟩,?_,?_,m.len,?_,?_⟩,⟨by rw[A9];exact l.t,l.pl,?_⟩,fun z=>Iff.rfl⟩,?_,fun z hz=>?_⟩
 ·exact(c1.ext e2 (fun x hx e=>by
   rcases zi x hx with h6|h6
   ·exact n3 (e▸h6)
   ·omega)).ext e3 (fun x hx e=>by
   rcases zi x hx with h6|h6
   ·exact n1 (e▸h6)
   ·omega)
 ·exact e3.own (e2.own (e1.own m.eX n2) d3) (Ne.symm d1)
 ·refine⟨d1,?_,?_⟩<;>simp only<;>omega
 ·exact⟨fun h=>n1 ((Gg _ h).2 hn),fun h=>n2 ((Gg _ h).2 ht),fun h=>(Gg _ h).1 rfl⟩
 ·simp[Nw.make,HF]
 ·exact((e1.mono fun z _ h=>(hS z).2 (.inl h)).trans (e2.mono fun z _ h=>(hS z).2 (.inr (.inr (.inr h))))).trans (e3.mono fun z _ h=>(hS z).2 (.inr (.inl h)))
 ·rcases hz with hz|rfl|rfl|rfl
  ·rcases zi z hz with h6|h6
   ·exact .inl ((hS z).2 (.inl h6))
   ·exact .inr h6
  ·exact .inl ((hS _).2 (.inr (.inl rfl)))
  ·exact .inl ((hS _).2 (.inr (.inr (.inl rfl))))
  ·rcases mU with rfl|h7
   ·exact .inl ((hS _).2 (.inr (.inr (.inr rfl))))
   ·exact .inr (by first|omega| (simp only;omega))
theorem Mo.first{w:Nw}{L:List Lk}{tops:List Int}{ch:Int→List Int}{par:Int→Int}(l:Mo w L tops ch par){g x:Int}(h:w.first g x):bf tops g=x:=by
 obtain⟨h1,h2,h3⟩:=bH.1 h
 have:=l.t.tp.first (x:=x) (by omega) (fun y hy aQ=>h3 y (by omega) aQ) (ap w)
 rwa[h2]at this
theorem qm{n:Nat}{H:Hp}{S:Nat→Prop}{w:Nw}(h:dF n H S w)(g:Int):af Tryz.prog mL [ptr n,i64 g] H fun v H'=>ar (
  ((w.len g=0∧v= .tuple [i64 0,.bool false].toArray)∨∃x,w.first g x∧v= .tuple [i64 x,.bool true].toArray)∧H'=H):=by
 obtain⟨B,C,L,tops,ch,par,rfl,m,l,hS⟩:=h
 obtain⟨cc,lt,ho,q2,AW,Fe,O2⟩:=m.fR
 refine aZ yO ?_
 refine v1 (ae ho) ?_
 refine(uG m.cells g).mono ?_
 rintro _ _ ⟨rfl,rfl⟩
 refine vs ?_
 refine ai.dec (fun h0=>?_) (fun h0=>?_)
 ·refine vs ?_
  exact⟨.inl ⟨h0,rfl⟩,rfl⟩
 have hg:0<g:=aoJ fun hg=>h0 (Nw.HQ.2 (.inl (by omega)))
 obtain⟨x,hx⟩:=uF hg h0
 have hh:=(bH.1 hx).2.1
 have dq:=((m.cells.hm x).2 (by omega)).2
 rw[hh,←l.tl]at dq
 have q3:=m.eR q2 (dU (tops:=tops) (h:=g) (by omega) dq)
 rw[l.first hx]at q3
 refine v1 (ae ho) ?_
 refine⟨⟨by omega,by omega⟩,?_⟩
 refine v4 (ae q2) aor aos q3 ?_
 exact⟨.inr ⟨x,hx,rfl⟩,rfl⟩
theorem xh{n:Nat}{H:Hp}{S:Nat→Prop}{w:Nw}(h:dF n H S w)(g x k s:Int):af Tryz.prog jj [ptr n,i64 g,i64 x,tu k s] H fun v H'=>ar (
  (¬w.lq g x∧v= .bool false∧cA (dF n) S H H' w)∨(w.lq g x∧v= .bool true∧cA (dF n) S H H' (w.put x (g,k,s)))):=by
 obtain⟨B,C,L,tops,ch,par,rfl,m,l,hS⟩:=h
 have hC:∀z,C z→S z:=fun z h=>(hS z).2 (.inl h)
 have t1:S B.tb:=(hS _).2 (.inr (.inr (.inl rfl)))
 have t2:S B.tp:=(hS _).2 (.inr (.inr (.inr rfl)))
 refine Kw sY ⟨rfl,?_⟩
 refine v1 ju.eq_1 ?_
 have f0:am H (H.new 182 [i64 k,u64 s]):=(ag.refl _ _).new _ _
 have b0:(H.new 182 [i64 k,u64 s]).own H.size=some [i64 k,u64 s]:=aD _ _ _
 have m0:=m.fresh f0
 generalize H.new 182 [i64 k,u64 s]=H0 at*
 have ff:ag S H H0:=f0.mono fun _ _ h=>h.elim
 obtain⟨tv,IY,_⟩:=m0.own
 refine v2 (ae IY) (ae b0) ?_
 refine(kI m0.cells g x k s).mono ?_
 rintro _ H1 (⟨bS,rfl,c1,e1⟩| ⟨qf,rfl,c1,e1⟩)
 ·refine vs ?_
  exact .inl ⟨bS,rfl,cA.same ⟨B,C,L,tops,ch,par,rfl,m0.aH c1 e1 rfl,l,hS⟩ (ff.trans (e1.mono fun z _ hz=>hC z hz))⟩
 obtain⟨hh,hx,bE⟩:=id qf
 have m2:=m0.aH c1 e1 (by simp[Nw.put])
 have hg:=hh.1
 have dq:g<tops.length:=by
  have:=(aoq.1 hh.2).1
  have:=l.tl
  omega
 have cG:=fun y=>ed hx (g,k,s) y
 have bo:TU (aE (w.put x (g,k,s))) (aN (w.put x (g,k,s))) ch par (bf tops) g x:=by
  refine l.t.ins rfl (Int.not_lt.1 fun h=>bE (bC.1 h)) (by omega) (by omega) (by rw[cG,if_pos rfl]) (fun y hy=>by rw[cG,if_neg hy]) (fun a b ha hb qA lV=>dC hx _ ha hb qA lV)
 obtain⟨cc,lt,o2,q2,AW,Fe,O2⟩:=m2.fR
 have q3:=m2.eR q2 (dU (tops:=tops) (h:=g) (by omega) dq)
 refine vs ?_
 refine oC.intro (fun H'=>H'.own B.n=some [ptr B.c,.slice (some ⟨B.tb,0,none⟩) L.length L.length,.slice (some ⟨B.tp,0,none⟩) tops.length cc]) o2 ?_
 refine vs ?_
 refine oB.intro (.slice (some ⟨B.tp,0,none⟩) tops.length cc) (fun H' hI=>by refine v1 (ae hI) ?_;trivial) ?_
 refine v1 (ae o2) ?_
 refine And.intro o2 ?_
 refine vs ?_
 refine⟨⟨by omega,by omega⟩,?_⟩
 refine v4 (ae q2) aor aos q3 ?_
 refine And.intro o2 ?_
 refine vs ?_
 have bw:=bo.w
 rw[show ws [bf tops g,x]=ws [bf tops g,x]++[] by simp]at bw
 refine(cZ m2 bw l.pl).mono ?_
 rintro _ H3 ⟨r,L3,ML,oT,rfl,_,m3,w3,p3,e3⟩
 rw[ao3]at w3
 have bn:=bo.done w3
 obtain⟨d1,d2,d3⟩:=m2.nN
 have no:¬ (C B.n∨B.n=B.tb):=by rintro(h|h);exact m2.out.1 h;omega
 refine And.intro (e3.own o2 no) ?_
 have q4:=e3.own q2 (by rintro(h|h);exact m2.out.2.2 h;omega)
 refine vs ?_
 refine⟨⟨by omega,by omega⟩,?_⟩
 refine v3 q4 aor aos ?_
 refine⟨by omega,?_⟩
 obtain⟨m4,e4⟩:=m3.kL q4 g.toNat r
 refine And.intro (e4.own (e3.own o2 no) d2) ?_
 refine vs ?_
 refine .inr ⟨qf,rfl,cA.same ⟨B,C,L3,_,ML,oT,rfl,m4,⟨?_,p3,by rw[aot];exact l.tl⟩,hS⟩ (((ff.trans (e1.mono fun z _ h=>hC z h)).trans (e3.mono fun z _ h=>by rcases h with h|rfl;exact hC z h;exact t1)).trans (e4.mono fun z _ h=>h▸t2))⟩
 rw[eC (by omega) dq]
 exact bn
end Go.Proofs.YthpjfeolagohkaaGreat
