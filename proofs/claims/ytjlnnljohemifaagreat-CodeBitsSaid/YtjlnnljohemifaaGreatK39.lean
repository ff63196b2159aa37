/- Texts put behind each other. -/
import Derived.Test.YtjlnnljohemifaaGreatK98
import Derived.Test.YtjlnnljohemifaaGreatK3
import Derived.Test.YtjlnnljohemifaaGreatK27
import Derived.Test.YtjlnnljohemifaaGreatK29
import Derived.Test.YtjlnnljohemifaaGreatK30
set_option maxRecDepth 100000
set_option maxHeartbeats 8000000
set_option linter.unusedVariables false
set_option linter.unusedSimpArgs false
namespace Go.Proofs.YtjlnnljohemifaaGreat
open Go Go.Vc
structure PB where
 n:Nat
 c:Nat
 tb:Nat
 tp:Nat
structure bR(H:Hp)(B:PB)(C:Nat→Prop)(w:Nw)(L:List Lk)(tops:List Int):Prop where
 own:∃tv,H.own B.n=some [ptr B.c,.slice (some ⟨B.tb,0,none⟩) L.length L.length,tv]∧Sl H 1 tv tops.length (tops.map i64) (some B.tp)
 cells:CQ H B.c C w
 eW:H.own B.tb=some (aN L)
 len:L.length=w.cs.length
 mc:B.n≠B.tb∧B.n≠B.tp∧B.tb≠B.tp
 out:¬C B.n∧¬C B.tb∧¬C B.tp
def PB.S(B:PB)(C:Nat→Prop)(z:Nat):Prop:=C z∨z=B.n∨z=B.tb∨z=B.tp
section
variable {H H' : Hp} {B : PB} {C V : Nat → Prop} {w w' : Nw} {L L' : List Lk} {tops : List Int}
theorem bR.slt(h:bR H B C w L tops):∀z,B.S C z→z<H.size:=by
 obtain⟨tv,h1,h2⟩:=h.own
 rintro z (hz|rfl|rfl|rfl)
 ·exact h.cells.slt z hz
 ·exact aA h1
 ·exact aA h.eW
 ·exact h2.lt
theorem bR.ext(h:bR H B C w L tops)(e:ag V H H')(hd:∀z,B.S C z→¬V z):bR H' B C w L tops:=by
 obtain⟨tv,h1,h2⟩:=h.own
 exact⟨⟨tv,e.own h1 (hd _ (.inr (.inl rfl))),h2.ext e (fun b hb=>by injection hb with hb;exact hb▸hd _ (.inr (.inr (.inr rfl))))⟩,h.cells.ext e (fun x hx=>hd x (.inl hx)),
  e.own h.eW (hd _ (.inr (.inr (.inl rfl)))),h.len,h.mc,h.out⟩
theorem bR.fresh(h:bR H B C w L tops)(e:ai H H'):bR H' B C w L tops:=h.ext e fun _ _ h=>h
theorem bR.aJ(h:bR H B C w L tops)(c1:CQ H' B.c C w')(e:ag C H H')(hl:w'.cs.length=w.cs.length):bR H' B C w' L tops:=by
 obtain⟨tv,h1,h2⟩:=h.own
 obtain⟨o1,o2,o3⟩:=h.out
 exact⟨⟨tv,e.own h1 o1,h2.ext e (fun b hb=>by injection hb with hb;exact hb▸o3)⟩,c1,e.own h.eW o2,by rw[hl];exact h.len,h.mc,h.out⟩
theorem bR.OB(h:bR H B C w L tops)(hl:L'.length=L.length):bR (H.wr B.tb (aN L')) B C w L' tops∧ag (fun z=>z=B.tb) H (H.wr B.tb (aN L')):=by
 obtain⟨tv,h1,h2⟩:=h.own
 obtain⟨o1,o2,o3⟩:=h.out
 obtain⟨d1,d2,d3⟩:=h.mc
 have e:ag (fun z=>z=B.tb) H (H.wr B.tb (aN L')):=(ag.refl (fun z=>z=B.tb) _).wr (fun _=>rfl) _
 exact⟨⟨⟨tv,by rw[hl];exact e.own h1 d1,h2.ext e (fun b hb=>by injection hb with hb;omega)⟩,h.cells.ext e (fun x hx hz=>o2 (hz▸hx)),ah h.eW,by rw[hl];exact h.len,h.mc,h.out⟩,e⟩
theorem bR.fN(h:bR H B C w L tops):∃c l,H.own B.n=some [ptr B.c,.slice (some ⟨B.tb,0,none⟩) L.length L.length,.slice (some ⟨B.tp,0,none⟩) tops.length c]∧H.own B.tp=some l∧tops.length≤c∧c≤l.length∧l.take tops.length=tops.map i64:=by
 obtain⟨tv,h1,_,l,c,rfl,h3,h4,h5,h6⟩:=h.own
 rw[anw]at h5 h6
 exact⟨c,l,h1,h3,h4,h5,h6⟩
theorem bR.eO(h:bR H B C w L tops){l:List Value}(hl:H.own B.tp=some l){i:Nat}{x:Int}(hx:tops[i]? =some x):l[i]? =some (i64 x):=by
 obtain⟨c,l',_,h2,_,_,h5⟩:=h.fN
 rw[hl]at h2
 injection h2 with h2
 subst h2
 have h7:(tops.map i64)[i]? =some (i64 x):=by rw[anR,hx];rfl
 rw[←h5,an9]at h7
 split at h7
 ·exact h7
 ·cases h7
theorem bR.lc(h:bR H B C w L tops){l:List Value}(hl:H.own B.tp=some l)(i:Nat)(v:Int):bR (H.wr B.tp (l.set i (i64 v))) B C w L (tops.set i v)∧ag (fun z=>z=B.tp) H (H.wr B.tp (l.set i (i64 v))):=by
 obtain⟨c,l',h1,h2,h3,h4,h5⟩:=h.fN
 rw[hl]at h2
 injection h2 with h2
 subst h2
 obtain⟨o1,o2,o3⟩:=h.out
 obtain⟨d1,d2,d3⟩:=h.mc
 have e:ag (fun z=>z=B.tp) H (H.wr B.tp (l.set i (i64 v))):=(ag.refl (fun z=>z=B.tp) _).wr (fun _=>rfl) _
 refine⟨⟨⟨_,e.own h1 d2,?_⟩,h.cells.ext e (fun x hx hz=>o3 (hz▸hx)),e.own h.eW d3,h.len,h.mc,h.out⟩,e⟩
 refine⟨by simp,l.set i (i64 v),c,by rw[anv],ah hl,by rw[anv];exact h3,by rw[anv,anw];exact h4,?_⟩
 rw[anv,anw,vj,h5,aoh]
theorem bR.rd(h:bR H B C w L tops){x:Int}(hx:0≤x∧x<w.cs.length):x.toNat*3+2< (aN L).length∧(aN L)[x.toNat*3]? =some (i64 (aZ L x false))∧(aN L)[x.toNat*3+1]? =some (i64 (aZ L x true))∧(aN L)[x.toNat*3+2]? =some (i64 (bj L x)):=by
 have hl:=h.len
 have hf:=iE L
 obtain⟨y,hy⟩:∃y,L[x.toNat]? =some y:=⟨_,ans (by omega)⟩
 obtain⟨h1,h2,h3⟩:=Oh hy
 rw[oL hx.1 hy,oL hx.1 hy,uF hx.1 hy]
 exact⟨by omega,h1,h2,h3⟩
theorem bR.Np(h:bR H B C w L tops){x:Int}(hx:0≤x∧x<w.cs.length)(v:Int):∃L',aZ L'=eo (aZ L) x false v∧bj L'=bj L∧bR (H.wr B.tb ((aN L).set (x.toNat*3) (i64 v))) B C w L' tops∧ag (fun z=>z=B.tb) H (H.wr B.tb ((aN L).set (x.toNat*3) (i64 v))):=by
 have hl:=h.len
 obtain⟨y,hy⟩:∃y,L[x.toNat]? =some y:=⟨_,ans (by omega)⟩
 refine⟨L.set x.toNat (y.fL false v),rV hx.1 hy false v,rW hx.1 hy false v,?_⟩
 have:=vq hy false v
 rw[show x.toNat*3+false.toNat=x.toNat*3 from rfl]at this
 rw[this]
 exact h.OB (anv ..)
theorem bR.Ny(h:bR H B C w L tops){x:Int}(hx:0≤x∧x<w.cs.length)(v:Int):∃L',aZ L'=eo (aZ L) x true v∧bj L'=bj L∧bR (H.wr B.tb ((aN L).set (x.toNat*3+1) (i64 v))) B C w L' tops∧ag (fun z=>z=B.tb) H (H.wr B.tb ((aN L).set (x.toNat*3+1) (i64 v))):=by
 have hl:=h.len
 obtain⟨y,hy⟩:∃y,L[x.toNat]? =some y:=⟨_,ans (by omega)⟩
 refine⟨L.set x.toNat (y.fL true v),rV hx.1 hy true v,rW hx.1 hy true v,?_⟩
 have:=vq hy true v
 rw[show x.toNat*3+true.toNat=x.toNat*3+1 from rfl]at this
 rw[this]
 exact h.OB (anv ..)
theorem bR.JD(h:bR H B C w L tops){x:Int}(hx:0≤x∧x<w.cs.length)(v:Int):∃L',aZ L'=aZ L∧bj L'=aI (bj L) x v∧bR (H.wr B.tb ((aN L).set (x.toNat*3+2) (i64 v))) B C w L' tops∧ag (fun z=>z=B.tb) H (H.wr B.tb ((aN L).set (x.toNat*3+2) (i64 v))):=by
 have hl:=h.len
 obtain⟨y,hy⟩:∃y,L[x.toNat]? =some y:=⟨_,ans (by omega)⟩
 refine⟨L.set x.toNat ⟨y.a,y.b,v⟩,Cu hx.1 hy v,Cv hx.1 hy v,?_⟩
 rw[FJ hy v]
 exact h.OB (anv ..)
variable {g : Int} {R : Int → Prop} {Hx ch : Int → List Int} {par : Int → Int} {W : List Int} {a b : Int}
theorem cZ(m:bR H B C w L tops)(pw:Dm (aG w) (aQ w) g R Hx ch par (ws [a,b]++W))(pl:Js (aZ L) (bj L) ch par):
  af Tryz.prog vS [ptr B.n,i64 a,i64 b] H fun v H'=>aw (∃r L' dU bF,v=i64 r∧(r= -1→a= -1∧b= -1)∧bR H' B C w L' tops∧Dm (aG w) (aQ w) g R Hx dU bF (ws [r]++W)∧Js (aZ L') (bj L') dU bF∧ag (fun z=>C z∨z=B.tb) H H'):=by
 refine bm wM ?_
 refine vs ?_
 rw[mz,dX a,dX b]at pw
 refine am.dec (fun ga=>?_) (fun ga=>?_)<;>refine vs ?_
 ·rw[if_pos ga]at pw
  rw[←dX b]at pw
  exact⟨b,L,ch,par,rfl,fun h=>⟨ga,h⟩,m,pw,pl,ag.refl _ _⟩
 rw[if_neg ga]at pw
 refine am.dec (fun gb=>?_) (fun gb=>?_)<;>refine vs ?_
 ·rw[if_pos gb]at pw
  exact⟨a,L,ch,par,rfl,fun h=>⟨h,gb⟩,m,by rw[dX,if_neg ga];exact pw,pl,ag.refl _ _⟩
 rw[if_neg gb]at pw
 obtain⟨tv,o1,_⟩:=m.own
 refine v1 (ae o1) ?_
 refine(cD m.cells b a).mono ?_
 rintro _ H2 ⟨rfl,c2,e2⟩
 have m2:=m.aJ c2 e2 rfl
 have T9:Dm (aG w) (aQ w) g R Hx ch par (a::b::W):=pw
 obtain⟨a1,a2,a3⟩:=T9.wm a (by simp)
 obtain⟨b1,b2,b3⟩:=T9.wm b (by simp)
 have zI:=gN (w:=w) (a:=b) (b:=a) (by rw[b2];exact T9.g0) (by rw[a2];exact T9.g0)
 rw[zI]
 have aP:a≠b:=fun e=>by have:=T9.nd;rw[e]at this;simp at this
 obtain⟨p,q,NP,hl,pw2⟩:∃p q,(if aQ w b a=true then(p=b∧q=a)else(p=a∧q=b))∧aQ w p q=true∧Dm (aG w) (aQ w) g R Hx ch par (p::q::W):=by
  cases aO:aQ w b a
  ·exact⟨a,b,by simp,((ar w).Ob a b aP).resolve_right (by rw[aO];simp),T9⟩
  ·exact⟨b,a,by simp,aO,T9.perm (List.Perm.swap ..)⟩
 obtain⟨p1,p2,p3⟩:=pw2.wm p (by simp)
 obtain⟨q1,q2,q3⟩:=pw2.wm q (by simp)
 have afL:p≠q:=fun e=>by rw[e,(ar w).vk]at hl;cases hl
 have pw3:=pw2.link hl
 have S6:=pl.link pw2.pr p1 q3 afL
 obtain⟨px,py,_⟩:=aD (w:=w) (x:=p) (by rw[p2];exact T9.g0)
 obtain⟨qx,qy,_⟩:=aD (w:=w) (x:=q) (by rw[q2];exact T9.g0)
 have hold:aZ L p false≠ -1→0≤aZ L p false∧aZ L p false<w.cs.length:=fun h=>by
  have h1:aZ L p false∈ch p:=by rw[pl.hd]at h ⊢;exact eA h
  have h2:=(pw2.pr.dn p _ h1).2.2.2.1
  obtain⟨z0,z1,_⟩:=aD h2
  exact⟨z0,z1⟩
 have aX:=m2.len
 have ws1:ws [p]=[p]:=by rw[dX,if_neg p1]
 cases aO:aQ w b a<;>simp only[aO,if_true,if_false,aox]at NP<;>obtain⟨rfl,rfl⟩:=NP<;>refine vs ?_
 all_goals
  obtain⟨Nb,o2,_⟩:=m2.own
  obtain⟨r0,r1,r2,r3⟩:=m2.rd ⟨px,py⟩
  refine v1 (ae o2) ?_
  refine⟨⟨by omega,by omega⟩,?_⟩
  refine v4 (ae m2.eW) ant Nat.add_zero r1 ?_
  refine v1 (ae o2) ?_
  refine⟨⟨by omega,by omega⟩,?_⟩
  obtain⟨L3,k3,u3,m3,e3⟩:=m2.Ny ⟨qx,qy⟩ (aZ L p false)
  obtain⟨s0,_⟩:=m2.rd ⟨qx,qy⟩
  refine v3 m2.eW ant Nat.add_zero ?_
  refine⟨by omega,?_⟩
  refine vs ?_
  generalize H2.wr B.tb ((aN L).set (q.toNat*3+1) (i64 (aZ L p false)))=H3 at*
  obtain⟨L4,k4,u4,m4,e4⟩:=m3.JD ⟨qx,qy⟩ p
  obtain⟨s4,_⟩:=m3.rd ⟨qx,qy⟩
  refine⟨⟨by omega,by omega⟩,?_⟩
  refine v3 m3.eW ant Nat.add_zero ?_
  refine⟨by omega,?_⟩
  refine vs ?_
  generalize H3.wr B.tb ((aN L3).set (q.toNat*3+2) (i64 p))=H4 at*
  have e24:ag (fun z=>C z∨z=B.tb) H H4:=((e2.mono fun z _ h=>.inl h).trans (e3.mono fun z _ h=>.inr h)).trans (e4.mono fun z _ h=>.inr h)
  have T1:=m4.len
  refine am.dec (fun go=>?_) (fun go=>?_)<;>refine vs ?_
  ·obtain⟨tv4,o4,_⟩:=m4.own
   obtain⟨L5,k5,u5,m5,e5⟩:=m4.Np ⟨px,py⟩ q
   obtain⟨s5,_⟩:=m4.rd ⟨px,py⟩
   refine v1 (ae o4) ?_
   refine⟨⟨by omega,by omega⟩,?_⟩
   refine v3 m4.eW ant Nat.add_zero ?_
   refine⟨by omega,?_⟩
   refine vs ?_
   refine⟨p,L5,_,_,rfl,fun h=>absurd h p1,m5,by rw[ws1];exact pw3,?_,e24.trans (e5.mono fun z _ h=>.inr h)⟩
   rw[if_pos go]at S6
   rw[k5,u5,k4,u4,k3,u3]
   exact S6
  ·obtain⟨tv4,o4,_⟩:=m4.own
   obtain⟨ox,oy⟩:=hold go
   obtain⟨L5,k5,u5,m5,e5⟩:=m4.JD ⟨ox,oy⟩ q
   obtain⟨s5,_⟩:=m4.rd ⟨ox,oy⟩
   refine v1 (ae o4) ?_
   refine⟨⟨by omega,by omega⟩,?_⟩
   refine v3 m4.eW ant Nat.add_zero ?_
   refine⟨by omega,?_⟩
   refine vs ?_
   generalize H4.wr B.tb ((aN L4).set ((aZ L p false).toNat*3+2) (i64 q))=H5 at*
   obtain⟨tv5,o5,_⟩:=m5.own
   have hl5:=m5.len
   obtain⟨L6,k6,u6,m6,e6⟩:=m5.Np ⟨px,py⟩ q
   obtain⟨s6,_⟩:=m5.rd ⟨px,py⟩
   refine v1 (ae o5) ?_
   refine⟨⟨by omega,by omega⟩,?_⟩
   refine v3 m5.eW ant Nat.add_zero ?_
   refine⟨by omega,?_⟩
   refine vs ?_
   refine⟨p,L6,_,_,rfl,fun h=>absurd h p1,m6,by rw[ws1];exact pw3,?_,(e24.trans (e5.mono fun z _ h=>.inr h)).trans (e6.mono fun z _ h=>.inr h)⟩
   rw[if_neg go]at S6
   rw[k6,u6,k5,u5,k4,u4,k3,u3]
   exact S6
theorem qo(m:bR H B C w L tops){lt:Int→Int→Bool}(hs:bv lt)(q:Pr (aG w) lt ch par)(pl:Js (aZ L) (bj L) ch par){p x:Int}{l1 l2:List Int}(hp:ch p=l1++x::l2):
  af Tryz.prog yx [ptr B.n,i64 x] H fun v H'=>aw (∃L',bR H' B C w L' tops∧Js (aZ L') (bj L') (ay ch p (l1++l2)) (aI par x (-1))∧ag (fun z=>z=B.tb) H H'):=by
 obtain⟨f1,f2,f7,f3,f4,f5,f6⟩:=pl.off q hs hp
 have hx:=(q.dn p x (by rw[hp];simp)).2.2.2.1
 obtain⟨x0,x1,_⟩:=aD hx
 obtain⟨y0,y1,_⟩:=aD (w:=w) (x:=bj L x) (by omega)
 obtain⟨tv,o1,_⟩:=m.own
 obtain⟨r0,r1,r2,r3⟩:=m.rd ⟨x0,x1⟩
 obtain⟨t0,t1,t2,t3⟩:=m.rd ⟨y0,y1⟩
 have hl:=m.len
 refine Gv yV ⟨rfl,?_⟩
 refine v2 nj.eq_1 (ae o1) ?_
 refine⟨⟨by omega,by omega⟩,?_⟩
 refine v5 (ae o1) (ae m.eW) ant Nat.add_zero r3 ?_
 refine⟨⟨by omega,by omega⟩,?_⟩
 refine v4 (ae m.eW) ant Nat.add_zero t1 ?_
 have bx:bj L x≠x:=f7
 refine am.dec (fun g=>?_) (fun g=>?_)<;>refine vs ?_
 ·have sE:=f1.1 g
  rw[if_pos sE]at f6
  refine v6 (ae o1) (ae m.eW) ant Nat.add_zero r2 r3 ?_
  refine⟨⟨by omega,by omega⟩,?_⟩
  obtain⟨L1,k1,u1,m1,e1⟩:=m.Np ⟨y0,y1⟩ (aZ L x true)
  refine v3 m.eW ant Nat.add_zero ?_
  refine⟨by omega,?_⟩
  refine vs ?_
  generalize H.wr B.tb ((aN L).set ((bj L x).toNat*3) (i64 (aZ L x true)))=H1 at*
  obtain⟨s0,s1,s2,s3⟩:=m1.rd ⟨x0,x1⟩
  have sE:=m1.len
  obtain⟨Cx,o1,_⟩:=m1.own
  have en:aZ L1 x true=aZ L x true:=by
   rw[k1]
   unfold eo
   rw[if_neg (by simp[bx.symm])]
  have eu:bj L1 x=bj L x:=by rw[u1]
  rw[en]at s2
  rw[eu]at s3
  refine v4 (ae m1.eW) ant Nat.add_zero s2 ?_
  refine am.dec (fun gn=>?_) (fun gn=>?_)<;>refine vs ?_
  ·obtain⟨L2,k2,u2,m2,e2⟩:=m1.Ny ⟨x0,x1⟩ (-1)
   refine v3 m1.eW ant Nat.add_zero ?_
   refine⟨by omega,?_⟩
   obtain⟨v0,_⟩:=m2.rd ⟨x0,x1⟩
   obtain⟨L3,k3,u3,m3,e3⟩:=m2.JD ⟨x0,x1⟩ (-1)
   refine vs ?_
   generalize H1.wr B.tb ((aN L1).set (x.toNat*3+1) (Value.int .i64 (-1)))=H2 at*
   refine v3 m2.eW ant Nat.add_zero ?_
   refine⟨by omega,?_⟩
   refine vs ?_
   refine⟨L3,m3,?_,(e1.trans e2).trans e3⟩
   rw[if_pos gn]at f6
   rw[k3,u3,k2,u2,k1,u1]
   exact f6
  ·obtain⟨z0,z1,_⟩:=aD (w:=w) (x:=aZ L x true) (by rw[f5 gn];exact hx)
   obtain⟨v0,_⟩:=m1.rd ⟨z0,z1⟩
   refine v6 (ae o1) (ae m1.eW) ant Nat.add_zero s2 s3 ?_
   refine⟨⟨by omega,by omega⟩,?_⟩
   obtain⟨L2,k2,u2,m2,e2⟩:=m1.JD ⟨z0,z1⟩ (bj L x)
   refine v3 m1.eW ant Nat.add_zero ?_
   refine⟨by omega,?_⟩
   refine vs ?_
   generalize H1.wr B.tb ((aN L1).set ((aZ L x true).toNat*3+2) (i64 (bj L x)))=H2 at*
   obtain⟨v1,_⟩:=m2.rd ⟨x0,x1⟩
   obtain⟨L3,k3,u3,m3,e3⟩:=m2.Ny ⟨x0,x1⟩ (-1)
   refine v3 m2.eW ant Nat.add_zero ?_
   refine⟨by omega,?_⟩
   obtain⟨v2,_⟩:=m3.rd ⟨x0,x1⟩
   obtain⟨L4,k4,u4,m4,e4⟩:=m3.JD ⟨x0,x1⟩ (-1)
   refine vs ?_
   generalize H2.wr B.tb ((aN L2).set (x.toNat*3+1) (Value.int .i64 (-1)))=H3 at*
   refine v3 m3.eW ant Nat.add_zero ?_
   refine⟨by omega,?_⟩
   refine vs ?_
   refine⟨L4,m4,?_,((e1.trans e2).trans e3).trans e4⟩
   rw[if_neg gn]at f6
   rw[k4,u4,k3,u3,k2,u2,k1,u1]
   exact f6
 ·have sE:l1≠[]:=fun h=>g (f1.2 h)
  rw[if_neg sE]at f6
  refine v6 (ae o1) (ae m.eW) ant Nat.add_zero r2 r3 ?_
  refine⟨⟨by omega,by omega⟩,?_⟩
  obtain⟨L1,k1,u1,m1,e1⟩:=m.Ny ⟨y0,y1⟩ (aZ L x true)
  refine v3 m.eW ant Nat.add_zero ?_
  refine⟨by omega,?_⟩
  refine vs ?_
  generalize H.wr B.tb ((aN L).set ((bj L x).toNat*3+1) (i64 (aZ L x true)))=H1 at*
  obtain⟨s0,s1,s2,s3⟩:=m1.rd ⟨x0,x1⟩
  have sE:=m1.len
  obtain⟨Cx,o1,_⟩:=m1.own
  have en:aZ L1 x true=aZ L x true:=by
   rw[k1]
   unfold eo
   rw[if_neg (by simp[bx.symm])]
  have eu:bj L1 x=bj L x:=by rw[u1]
  rw[en]at s2
  rw[eu]at s3
  refine v4 (ae m1.eW) ant Nat.add_zero s2 ?_
  refine am.dec (fun gn=>?_) (fun gn=>?_)<;>refine vs ?_
  ·obtain⟨L2,k2,u2,m2,e2⟩:=m1.Ny ⟨x0,x1⟩ (-1)
   refine v3 m1.eW ant Nat.add_zero ?_
   refine⟨by omega,?_⟩
   obtain⟨v0,_⟩:=m2.rd ⟨x0,x1⟩
   obtain⟨L3,k3,u3,m3,e3⟩:=m2.JD ⟨x0,x1⟩ (-1)
   refine vs ?_
   generalize H1.wr B.tb ((aN L1).set (x.toNat*3+1) (Value.int .i64 (-1)))=H2 at*
   refine v3 m2.eW ant Nat.add_zero ?_
   refine⟨by omega,?_⟩
   refine vs ?_
   refine⟨L3,m3,?_,(e1.trans e2).trans e3⟩
   rw[if_pos gn]at f6
   rw[k3,u3,k2,u2,k1,u1]
   exact f6
  ·obtain⟨z0,z1,_⟩:=aD (w:=w) (x:=aZ L x true) (by rw[f5 gn];exact hx)
   obtain⟨v0,_⟩:=m1.rd ⟨z0,z1⟩
   refine v6 (ae o1) (ae m1.eW) ant Nat.add_zero s2 s3 ?_
   refine⟨⟨by omega,by omega⟩,?_⟩
   obtain⟨L2,k2,u2,m2,e2⟩:=m1.JD ⟨z0,z1⟩ (bj L x)
   refine v3 m1.eW ant Nat.add_zero ?_
   refine⟨by omega,?_⟩
   refine vs ?_
   generalize H1.wr B.tb ((aN L1).set ((aZ L x true).toNat*3+2) (i64 (bj L x)))=H2 at*
   obtain⟨v1,_⟩:=m2.rd ⟨x0,x1⟩
   obtain⟨L3,k3,u3,m3,e3⟩:=m2.Ny ⟨x0,x1⟩ (-1)
   refine v3 m2.eW ant Nat.add_zero ?_
   refine⟨by omega,?_⟩
   obtain⟨v2,_⟩:=m3.rd ⟨x0,x1⟩
   obtain⟨L4,k4,u4,m4,e4⟩:=m3.JD ⟨x0,x1⟩ (-1)
   refine vs ?_
   generalize H2.wr B.tb ((aN L2).set (x.toNat*3+1) (Value.int .i64 (-1)))=H3 at*
   refine v3 m3.eW ant Nat.add_zero ?_
   refine⟨by omega,?_⟩
   refine vs ?_
   refine⟨L4,m4,?_,((e1.trans e2).trans e3).trans e4⟩
   rw[if_neg gn]at f6
   rw[k4,u4,k3,u3,k2,u2,k1,u1]
   exact f6
end
end Go.Proofs.YtjlnnljohemifaaGreat

namespace Go.Proofs.YtjlnnljohemifaaGreat
open Go Go.Vc
section
variable {H : Hp} {B : PB} {C V : Nat → Prop} {w : Nw} {L : List Lk} {tops : List Int} {ch Hx : Int → List Int} {par : Int → Int}
theorem Pr.len(q:Pr (aG w) (aQ w) ch par)(x:Int):(ch x).length≤w.cs.length:=bV (q.nd x) fun c hc=>by
 obtain⟨z0,z1,_⟩:=aD (q.dn x c hc).2.2.2.1
 exact⟨z0,z1⟩
theorem JW.next{K:Int→Bool→Int}{Bk:Int→Int}:∀ {l1:List Int} {p x:Int} {l2:List Int},JW K Bk p (l1++x::l2)→K x true=l2.headD (-1):=fun h=>h.split.2.1
theorem Bo(m:bR H B C w L tops)(q:Pr (aG w) (aQ w) ch par)(pl:Js (aZ L) (bj L) ch par){x:Int}(hx:0<aG w x):
  af Tryz.prog vU [ptr B.n,i64 x] H fun v H'=>aw (∃fp,bR H' B C w L tops∧ag C H H'∧Sl H' 1 v (ch x).length ((ch x).map i64) fp∧∀b,fp=some b→H.size≤b):=by
 obtain⟨x0,x1,_⟩:=aD hx
 have nO:=m.cells.DY
 have aX:=q.len x
 refine bm wO ?_
 obtain⟨tv,o1,_⟩:=m.own
 refine v1 (ae o1) ?_
 refine(de m.cells x).mono ?_
 rintro _ H1 (⟨bK,_,_⟩| ⟨bJ,rfl,c1,e1⟩)
 ·exact absurd (bq.1 hx) bK
 have m1:=m.aJ c1 e1 rfl
 obtain⟨Cx,o1,_⟩:=m1.own
 obtain⟨r0,r1,r2,r3⟩:=m1.rd ⟨x0,x1⟩
 have hl:=m1.len
 have z1:=e1.size
 refine v1 (ae o1) ?_
 refine⟨⟨by omega,by omega⟩,?_⟩
 refine v4 (ae m1.eW) ant Nat.add_zero r1 ?_
 refine bk.intro (fun mm env H'=>∃ (d r:List Int) (wv:Value) (fp:Option Nat),mm=r.length∧ch x=d++r∧bR H' B C w L tops∧(∀z,fp=some z→H.size≤z)∧Sl H' 1 wv d.length (d.map i64) fp∧ag (fun z=>C z∨H.size≤z) H H'∧
  env=[(0,ptr B.n),(7,wv),(8,i64 (r.headD (-1)))]) _ ⟨[],ch x,_,none,rfl,rfl,m1,(fun z h=>by cases h),Sl.nil _ _,e1.mono (fun z _ h=>.inl h),by rw[pl.hd]⟩ ?_
 rintro mm env H2 ⟨d,r,wv,fp,rfl,Y3,m2,gu,s2,e2,rfl⟩
 have z2:=e2.size
 refine vs ?_
 cases r with
 |nil=>
  refine am.dec (fun _=>?_) (fun h=>absurd rfl h)
  refine vs ?_
  rw[aon]at Y3
  rw[Y3]
  exact⟨fp,m2,e2.mono (fun z hz h=>h.elim id fun h=>by omega),s2,gu⟩
 |cons c r=>
  have hc:=q.dn x c (by rw[Y3];simp)
  obtain⟨c0,c1,_⟩:=aD hc.2.2.2.1
  have JU:=pl.sg x
  rw[Y3]at JU
  have JU:=JU.next
  have oK:d.length+(r.length+1)=(ch x).length:=by rw[Y3,anD,anO]
  refine am.dec (fun h=>absurd h (by simp only[List.headD_cons];omega)) (fun _=>?_)
  refine vs ?_
  refine AO (B:=H.size) gu (by omega) s2 c (by omega) fun w' H3 cO jj s3 e3=>?_
  refine vs ?_
  have m3:=m2.ext e3 (fun z hz dM=>by have:=m.slt z hz;omega)
  obtain⟨YH,o3,_⟩:=m3.own
  obtain⟨t0,t1,t2,t3⟩:=m3.rd ⟨c0,c1⟩
  have RE:=m3.len
  simp(disch:=(first|omega| (simp only[Zs]<;>omega)|fail)) only[go_sem, ↓reduceIte,Zv,ae o3,List.headD_cons]
  refine⟨⟨by omega,by omega⟩,?_⟩
  refine v4 (ae m3.eW) ant Nat.add_zero t2 ?_
  refine⟨r.length,by simp,d++[c],r,w',cO,rfl,by rw[Y3];simp,m3,jj,s3,e2.trans (e3.mono fun z _ h=>.inr h),by rw[JU]⟩
theorem jn(m:bR H B C w L tops)(q:Pr (aG w) (aQ w) ch par)(pl:Js (aZ L) (bj L) ch par){x:Int}(hx:0<aG w x):
  af Tryz.prog vT [ptr B.n,i64 x] H fun v H'=>aw (∃r L' dU bF,v=i64 r∧bR H' B C w L' tops∧Js (aZ L') (bj L') dU bF∧
   Dm (aG w) (aQ w) (aG w x) (fun y=>0<aG w y∧par y= -1) (ay ch x []) dU bF (ws [r])∧ag (fun z=>C z∨z=B.tb) H H'):=by
 obtain⟨x0,x1,_⟩:=aD hx
 have nO:=m.cells.DY
 have aX:=q.len x
 refine bm wN ?_
 refine vs ?_
 refine(Bo m q pl hx).mono ?_
 rintro kv H1 ⟨fp,m1,e1,s1,gu⟩
 have z1:=e1.size
 obtain⟨Cx,o1,_⟩:=m1.own
 obtain⟨r0,_⟩:=m1.rd ⟨x0,x1⟩
 have hl:=m1.len
 refine v1 (ae o1) ?_
 refine⟨⟨by omega,by omega⟩,?_⟩
 obtain⟨L2,k2,u2,m2,e2⟩:=m1.Np ⟨x0,x1⟩ (-1)
 refine v3 m1.eW ant Nat.add_zero ?_
 refine⟨by omega,?_⟩
 refine vs ?_
 generalize H1.wr B.tb ((aN L).set (x.toNat*3) (Value.int .i64 (-1)))=H2 at*
 have hN:∀z,B.S C z→z<H.size:=m.slt
 have It:B.tb<H.size:=hN _ (.inr (.inr (.inl rfl)))
 have s2:=s1.ext e2 (fun z hz dM=>by have:=gu z hz;omega)
 obtain⟨ka,kc,rfl⟩:=Sl.shape s2
 have o8:ag (fun z=>C z∨z=B.tb∨H.size≤z) H H2:=(e1.mono fun z _ h=>.inl h).trans (e2.mono fun z _ h=>.inr (.inl h))
 refine vs ?_
 refine bk.intro (fun mm env H'=>∃ (i:Nat) (L':List Lk),mm=(ch x).length - i∧i≤(ch x).length∧bR H' B C w L' tops∧Sl H' 1 (.slice ka (ch x).length kc) (ch x).length ((ch x).map i64) fp∧ag (fun z=>C z∨z=B.tb∨H.size≤z) H H'∧
  (∀y,aZ L' y false=if y=x then -1 else aZ L y false)∧(∀c,(c∈(ch x).take i→aZ L' c true= -1∧bj L' c= -1)∧(c∉ (ch x).take i→aZ L' c true=aZ L c true∧bj L' c=bj L c))∧
  env=[(0,ptr B.n),(5,.slice ka (ch x).length kc),(22,.slice ka (ch x).length kc),(23,i64 (ch x).length),(24,i64 i)]) _ ⟨0,L2,rfl,by omega,m2,s2,o8,fun y=>?_,fun c=>⟨fun h=>by simp at h,fun _=>?_⟩,rfl⟩ ?_
 ·rw[k2]
  unfold eo
  by_cases hy:y=x
  ·rw[if_pos ⟨hy,rfl⟩,if_pos hy]
  ·rw[if_neg (by simp[hy]),if_neg hy]
 ·rw[k2,u2]
  unfold eo
  rw[if_neg (by simp)]
  exact⟨rfl,rfl⟩
 rintro mm env H3 ⟨i,L3,rfl,hi,m3,s3,e3,kf3,kt3,rfl⟩
 refine vs ?_
 refine am.dec (fun gi=>?_) (fun gi=>?_)<;>refine vs ?_
 ·have mI:i< (ch x).length:=by omega
  obtain⟨c,hc⟩:∃c,(ch x)[i]? =some c:=⟨_,ans mI⟩
  have Fx:=anz hc
  obtain⟨c0,c1,_⟩:=aD (q.dn x c Fx).2.2.2.1
  obtain⟨_,kb,lb,rfl,q2,q3⟩:=Sl.zg s3 hc
  refine⟨⟨by omega,by omega⟩,?_⟩
  refine v5 (ae q2) ant anw Int.toNat_natCast q3 ?_
  obtain⟨YH,o3,_⟩:=m3.own
  obtain⟨t0,_⟩:=m3.rd ⟨c0,c1⟩
  have RE:=m3.len
  refine v1 (ae o3) ?_
  refine⟨⟨by omega,by omega⟩,?_⟩
  obtain⟨L4,k4,u4,m4,e4⟩:=m3.Ny ⟨c0,c1⟩ (-1)
  refine v3 m3.eW ant Nat.add_zero ?_
  refine⟨by omega,?_⟩
  obtain⟨t1,_⟩:=m4.rd ⟨c0,c1⟩
  have T1:=m4.len
  obtain⟨L5,k5,u5,m5,e5⟩:=m4.JD ⟨c0,c1⟩ (-1)
  refine vs ?_
  generalize H3.wr B.tb ((aN L3).set (c.toNat*3+1) (Value.int .i64 (-1)))=H4 at*
  refine⟨⟨by omega,by omega⟩,?_⟩
  refine v3 m4.eW ant Nat.add_zero ?_
  refine⟨by omega,?_⟩
  refine vs ?_
  have s5:=(s3.ext e4 (fun z hz dM=>by have:=gu z hz;omega)).ext e5 (fun z hz dM=>by have:=gu z hz;omega)
  refine⟨(ch x).length - (i+1),by omega,i+1,L5,rfl,by omega,m5,s5,(e3.trans (e4.mono fun z _ h=>.inr (.inl h))).trans (e5.mono fun z _ h=>.inr (.inl h)),fun y=>?_,fun d=>?_,?_⟩
  ·rw[k5,k4]
   unfold eo
   rw[if_neg (by simp)]
   exact kf3 y
  ·have tk:(ch x).take (i+1)=(ch x).take i++[c]:=by rw[aoa,hc];rfl
   rw[tk,k5,k4,u5,u4]
   unfold eo aI
   by_cases hd:d=c
   ·rw[if_pos ⟨hd,rfl⟩,if_pos hd]
    exact⟨fun _=>⟨rfl,rfl⟩,fun h=>absurd (show d∈(ch x).take i++[c] by simp[hd]) h⟩
   ·rw[if_neg (by simp[hd]),if_neg hd]
    refine⟨fun h=>(kt3 d).1 ?_,fun h=>(kt3 d).2 fun h2=>h (by simp[h2])⟩
    rcases anH.1 h with h|h
    ·exact h
    ·exact absurd (anC.1 h) hd
  ·rw[wrap64 (by omega) (by omega)]
   rfl
 obtain rfl:i=(ch x).length:=by omega
 rw[an4]at kt3
 have S6:=pl.bare q kf3 (fun c hc=>(kt3 c).1 hc) (fun c hc=>(kt3 c).2 hc)
 have pw3:=q.WG hx
 have Ei:∀z,fp=some z→z<H3.size:=fun z hz=>by rw[hz]at s3;exact s3.lt
 have z3:=e3.size
 refine bk.intro (fun mm env H'=>∃ (i:Nat) (t:List Int) (wv:Value) (fq:Option Nat) (L':List Lk) (dU:Int→List Int) (bF:Int→Int),mm=(ch x).length+2 - i∧i≤(ch x).length+1∧t.length≤i∧bR H' B C w L' tops∧
  Sl H' 1 (.slice ka (ch x).length kc) (ch x).length ((ch x).map i64) fp∧(∀z,fq=some z→H3.size≤z)∧Sl H' 1 wv t.length (t.map i64) fq∧ag (fun z=>C z∨z=B.tb∨H.size≤z) H H'∧ag (fun z=>C z∨z=B.tb∨H3.size≤z) H3 H'∧
  Dm (aG w) (aQ w) (aG w x) (fun y=>0<aG w y∧par y= -1) (ay ch x []) dU bF (t++(ch x).drop i)∧Js (aZ L') (bj L') dU bF∧
  env=[(0,ptr B.n),(5,.slice ka (ch x).length kc),(8,wv),(9,i64 i)]) _ ⟨0,[],_,none,L3,_,_,rfl,by omega,by simp,m3,s3,(fun z h=>by cases h),Sl.nil _ _,e3,ag.refl _ _,by simpa using pw3,S6,rfl⟩ ?_
 rintro mm env H4 ⟨i,t,wv,fq,L4,Ua,JE,rfl,hi,hti,m4,s4,JY,t4,e4,W2,Xg,Xh,rfl⟩
 have z4:=e4.size
 have z34:=W2.size
 refine vs ?_
 refine am.dec (fun gi=>?_) (fun gi=>?_)<;>refine vs ?_
 ·have mI:i< (ch x).length:=by omega
  obtain⟨c,hc⟩:∃c,(ch x)[i]? =some c:=⟨_,ans mI⟩
  have Fx:=anz hc
  have PL:=q.ne Fx
  have dr:(ch x).drop i=c::(ch x).drop (i+1):=by
   rw[aoK mI]
   congr 1
   rw[ans mI]at hc
   injection hc
  obtain⟨_,kb,lb,rfl,q2,q3⟩:=Sl.zg s4 hc
  refine am.dec (fun g1=>?_) (fun g1=>?_)<;>refine vs ?_
  ·rw[wrap64 (by omega) (by omega)]at g1
   refine⟨⟨by omega,by omega⟩,?_⟩
   refine v5 (ae q2) ant anw Int.toNat_natCast q3 ?_
   refine AO (B:=H3.size) JY z34 t4 c (by omega) fun w' H5 fq' R1 t5 e5=>?_
   refine vs ?_
   have m5:=m4.ext e5 (fun z hz dM=>by have:=m.slt z hz;omega)
   have s5:=s4.ext e5 (fun z hz dM=>by have:=Ei z hz;omega)
   refine⟨(ch x).length+2 - (i+2),by omega,i+2,t++[c],w',fq',L4,Ua,JE,rfl,by omega,by simp;omega,m5,s5,R1,t5,e4.trans (e5.mono fun z _ h=>.inr (.inr (by omega))),W2.trans (e5.mono fun z _ h=>.inr (.inr h)),?_,Xh,?_⟩
   ·rw[dr]at Xg
    rw[apa (by omega)]
    rw[apa (by omega)]at Xg
    simpa using Xg
   ·rw[wrap64 (by omega) (by omega)];rfl
  ·rw[wrap64 (by omega) (by omega)]at g1
   have qz:i+1< (ch x).length:=by omega
   obtain⟨d,hd⟩:∃d,(ch x)[i+1]? =some d:=⟨_,ans qz⟩
   have Ub:=anz hd
   have Wr:=q.ne Ub
   have dr2:(ch x).drop (i+1)=d::(ch x).drop (i+2):=by
    rw[aoK qz]
    congr 1
    rw[ans qz]at hd
    injection hd
   obtain⟨_,Dq,lb2,ek,q5,q4⟩:=Sl.zg s4 hd
   injection ek with ek
   injection ek with ek
   subst ek
   rw[q2]at q5
   injection q5 with q5
   subst q5
   refine⟨⟨by omega,by omega⟩,?_⟩
   refine v5 (ae q2) ant anw Int.toNat_natCast q3 ?_
   rw[wrap64 (by omega) (by omega)]
   refine⟨⟨by omega,by omega⟩,?_⟩
   refine v5 (ae q2) ant anw (show((i:Int)+1).toNat=i+1 by omega) q4 ?_
   have w2:ws [c,d]=[c,d]:=by rw[mz,dX,dX,if_neg PL,if_neg Wr];rfl
   have Xi:Dm (aG w) (aQ w) (aG w x) (fun y=>0<aG w y∧par y= -1) (ay ch x []) Ua JE (ws [c,d]++(t++(ch x).drop (i+2))):=by
    rw[w2]
    rw[dr,dr2]at Xg
    refine Xg.perm ?_
    have h1:(t++c::d::(ch x).drop (i+2)).Perm (c::(t++d::(ch x).drop (i+2))):=apw
    have h2:(t++d::(ch x).drop (i+2)).Perm (d::(t++(ch x).drop (i+2))):=apw
    exact h1.trans (h2.cons c)
   refine(cZ m4 Xi Xh).mono ?_
   rintro _ H5 ⟨r,L5,Y4,PY,rfl,hr,m5,pw6,pl5,e5⟩
   have hrn:r≠ -1:=fun h=>PL (hr h).1
   have z5:=e5.size
   have t5:=t4.ext e5 (fun z hz dM=>by have:=JY z hz;rcases dM with h|h;have:=m.slt z (.inl h);omega;omega)
   have s5:=s4.ext e5 (fun z hz dM=>by have:=gu z hz;rcases dM with h|h;have:=m.slt z (.inl h);omega;omega)
   refine vs ?_
   refine AO (B:=H3.size) JY (by omega) t5 r (by omega) fun w' H6 fq' R1 t6 e6=>?_
   refine vs ?_
   have m6:=m5.ext e6 (fun z hz dM=>by have:=m.slt z hz;omega)
   have s6:=s5.ext e6 (fun z hz dM=>by have:=Ei z hz;omega)
   refine⟨(ch x).length+2 - (i+2),by omega,i+2,t++[r],w',fq',L5,Y4,PY,rfl,by omega,by simp;omega,m6,s6,R1,t6,(e4.trans (e5.mono fun z _ h=>h.elim .inl fun h=>.inr (.inl h))).trans (e6.mono fun z _ h=>.inr (.inr (by omega))),(W2.trans (e5.mono fun z _ h=>h.elim .inl fun h=>.inr (.inl h))).trans (e6.mono fun z _ h=>.inr (.inr h)),?_,pl5,?_⟩
   ·rw[dX,if_neg hrn]at pw6
    refine pw6.perm ?_
    rw[apq]
    exact(apw (l₁:=t) (a:=r) (l₂:=(ch x).drop (i+2))).symm
   ·rw[wrap64 (by omega) (by omega)];rfl
 rw[apa (by omega),aon]at Xg
 have Mc:t.length≤65537:=by omega
 obtain⟨ta,tc,rfl⟩:=Sl.shape t4
 refine vs ?_
 refine bk.intro (fun mm env H'=>∃ (j:Nat) (r:Int) (L':List Lk) (dU:Int→List Int) (bF:Int→Int),mm=j∧j≤t.length∧bR H' B C w L' tops∧
  Sl H' 1 (.slice ta t.length tc) t.length (t.map i64) fq∧ag (fun z=>C z∨z=B.tb∨H.size≤z) H H'∧
  Dm (aG w) (aQ w) (aG w x) (fun y=>0<aG w y∧par y= -1) (ay ch x []) dU bF (ws [r]++t.take j)∧Js (aZ L') (bj L') dU bF∧
  env=[(0,ptr B.n),(8,.slice ta t.length tc),(10,i64 r),(11,i64 ((j:Int) - 1))]) _ ⟨t.length, -1,L4,Ua,JE,rfl,anG _,m4,t4,e4,by rw[dX,if_pos rfl,an4];exact Xg,Xh,?_⟩ ?_
 ·rw[wrap64 (by omega) (by omega)]
 rintro mm env H5 ⟨j,r,L5,Y4,PY,Va,hj,m5,t5,e5,Xi,pl5,rfl⟩
 obtain rfl:=Va.symm
 refine vs ?_
 refine am.dec (fun gj=>?_) (fun gj=>?_)<;>refine vs ?_
 ·obtain⟨k,rfl⟩:∃k,j=k+1:=⟨j - 1,by omega⟩
  obtain⟨c,hc⟩:∃c,t[k]? =some c:=⟨_,ans (by omega)⟩
  obtain⟨_,kb,lb,rfl,q2,q3⟩:=Sl.zg t5 hc
  have ji:((((k+1:Nat):Int) - 1)).toNat=k:=by omega
  refine⟨⟨by omega,by omega⟩,?_⟩
  refine v5 (ae q2) ant anw ji q3 ?_
  have tk:t.take (k+1)=t.take k++[c]:=by rw[aoa,hc];rfl
  have PL:c≠ -1:=(Xi.wm c (by rw[tk];simp)).1
  have pw6:Dm (aG w) (aQ w) (aG w x) (fun y=>0<aG w y∧par y= -1) (ay ch x []) Y4 PY (ws [c,r]++t.take k):=by
   rw[tk]at Xi
   refine Xi.perm ?_
   rw[mz c [r],dX c,if_neg PL]
   have h1:(ws [r]++(t.take k++[c])).Perm ((ws [r]++t.take k)++[c]):=by rw[apq]
   refine h1.trans (aou.trans ?_)
   rw[apq]
  refine(cZ m5 pw6 pl5).mono ?_
  rintro _ H6 ⟨r2,L6,YU,Nr,rfl,hr,m6,pw7,pl6,e6⟩
  have t6:=t5.ext e6 (fun z hz dM=>by have:=JY z hz;rcases dM with h|h;have:=m.slt z (.inl h);omega;omega)
  refine vs ?_
  refine⟨k,by omega,k,r2,L6,YU,Nr,rfl,by omega,m6,t6,e5.trans (e6.mono fun z _ h=>h.elim .inl fun h=>.inr (.inl h)),pw7,pl6,?_⟩
  rw[show((k+1:Nat):Int) - 1 - 1=(k:Int) - 1 by omega,wrap64 (by omega) (by omega)]
 ·obtain rfl:j=0:=by omega
  rw[List.take_zero,aon]at Xi
  exact⟨r,L5,Y4,PY,rfl,m5,pl5,Xi,e5.mono fun z hz h=>h.elim .inl fun h=>.inr (by omega)⟩
end
end Go.Proofs.YtjlnnljohemifaaGreat

namespace Go.Proofs.YtjlnnljohemifaaGreat
open Go Go.Vc
structure LM(w:Nw)(L:List Lk)(tops:List Int)(ch:Int→List Int)(par:Int→Int):Prop where
 t:TR (aG w) (aQ w) ch par (bi tops)
 pl:Js (aZ L) (bj L) ch par
 tl:tops.length=w.hs.length
def dA(n:Nat)(H:Hp)(S:Nat→Prop)(w:Nw):Prop:=∃ (B:PB) (C:Nat→Prop) (L:List Lk) (tops:List Int) (ch:Int→List Int) (par:Int→Int),B.n=n∧bR H B C w L tops∧LM w L tops ch par∧∀z,S z↔B.S C z
theorem dA.slt{n:Nat}{H:Hp}{S:Nat→Prop}{w:Nw}(h:dA n H S w):∀z,S z→z<H.size:=by
 obtain⟨B,C,L,tops,ch,par,rfl,m,l,hS⟩:=h
 exact fun z hz=>m.slt z ((hS z).1 hz)
theorem dA.ext{n:Nat}{H H':Hp}{S V:Nat→Prop}{w:Nw}(h:dA n H S w)(e:ag V H H')(hd:∀z,S z→¬V z):dA n H' S w:=by
 obtain⟨B,C,L,tops,ch,par,rfl,m,l,hS⟩:=h
 exact⟨B,C,L,tops,ch,par,rfl,m.ext e (fun z hz=>hd z ((hS z).2 hz)),l,hS⟩
theorem CS(cap:Int)(H:Hp):af Tryz.prog GU [i64 cap] H fun v H'=>aw (
  ai H H'∧((¬ (0≤cap∧cap≤65536)∧v= .tuple [.pointer none,i64 31].toArray)∨
   ((0≤cap∧cap≤65536)∧∃n S,v= .tuple [ptr n,i64 0].toArray∧dA n H' S (zj cap)∧∀x,S x→H.size≤x))):=by
 refine bm Hc ?_
 refine vs ?_
 refine(k8 cap H).mono ?_
 rintro _ H1 ⟨f1,⟨hb,rfl⟩| ⟨hb,c,C,rfl,c1,hC⟩⟩
 ·refine vs ?_
  exact⟨f1,.inl ⟨hb,rfl⟩⟩
 refine v1 aoi ?_
 refine⟨⟨by omega,by omega,by omega,by omega⟩,?_⟩
 refine vs ?_
 rw[Oi]
 have xE:=c1.slt
 have z1:=f1.size
 have f3:ai H1 (((H1.new 265 (aN (List.replicate cap.toNat ⟨0,0,0⟩))).new 3 [Value.int .i64 (-1)]).new 263 [ptr c,.slice (some ⟨H1.size,0,none⟩) cap.toNat cap.toNat,.slice (some ⟨H1.size+1,0,none⟩) 1 1]):=(((ag.refl _ _).new _ _).new _ _).new _ _
 have e1:ag (fun _=>False) (H1.new 265 (aN (List.replicate cap.toNat ⟨0,0,0⟩))) (((H1.new 265 (aN (List.replicate cap.toNat ⟨0,0,0⟩))).new 3 [Value.int .i64 (-1)]).new 263 [ptr c,.slice (some ⟨H1.size,0,none⟩) cap.toNat cap.toNat,.slice (some ⟨H1.size+1,0,none⟩) 1 1]):=((ag.refl _ _).new _ _).new _ _
 have e2:ag (fun _=>False) ((H1.new 265 (aN (List.replicate cap.toNat ⟨0,0,0⟩))).new 3 [Value.int .i64 (-1)]) (((H1.new 265 (aN (List.replicate cap.toNat ⟨0,0,0⟩))).new 3 [Value.int .i64 (-1)]).new 263 [ptr c,.slice (some ⟨H1.size,0,none⟩) cap.toNat cap.toNat,.slice (some ⟨H1.size+1,0,none⟩) 1 1]):=(ag.refl _ _).new _ _
 obtain⟨B,hB⟩:∃B:PB,B=⟨H1.size+1+1,c,H1.size,H1.size+1⟩:=⟨_,rfl⟩
 have m0:bR (((H1.new 265 (aN (List.replicate cap.toNat ⟨0,0,0⟩))).new 3 [Value.int .i64 (-1)]).new 263 [ptr c,.slice (some ⟨H1.size,0,none⟩) cap.toNat cap.toNat,.slice (some ⟨H1.size+1,0,none⟩) 1 1]) B C (zj cap) (List.replicate cap.toNat ⟨0,0,0⟩) [-1]:=by
  subst hB
  refine⟨⟨.slice (some ⟨H1.size+1,0,none⟩) 1 1,?_,?_⟩,c1.fresh f3,?_,?_,?_,?_⟩
  ·rw[aog]
   exact aV (by simp only[aq])
  ·exact(Sl.cf (size:=1) (n:=1) (xs:=[i64 (-1)]) rfl (by simp only[aq])).ext e2 (fun _ _ h=>h)
  ·exact e1.own (aB _ _ _) (fun h=>h)
  ·simp[zj]
  ·refine⟨?_,?_,?_⟩<;>simp only<;>omega
  ·refine⟨fun h=>?_,fun h=>?_,fun h=>?_⟩<;>(have h2:=xE _ h;first|omega| (simp only at h2;omega))
 have Ea:B.n=H1.size+1+1:=by rw[hB]
 have hBs:∀z,B.S C z→H1.size≤z∨C z:=fun z hz=>by
  rcases hz with hz|rfl|rfl|rfl
  ·exact .inr hz
  all_goals rw[hB];left;first|omega| (simp only;omega)
 have hBt:B.tb=H1.size:=by rw[hB]
 have ft:=f1.trans f3
 generalize ((H1.new 265 (aN (List.replicate cap.toNat ⟨0,0,0⟩))).new 3 [Value.int .i64 (-1)]).new 263 [ptr c,.slice (some ⟨H1.size,0,none⟩) cap.toNat cap.toNat,.slice (some ⟨H1.size+1,0,none⟩) 1 1]=H2 at*
 obtain⟨tv0,o0,_⟩:=m0.own
 rw[aog,Ea]at o0
 refine bk.intro (fun m env H'=>∃j:Nat,m=cap.toNat - j∧j≤cap.toNat∧ag (fun z=>z=B.tb) H2 H'∧bR H' B C (zj cap) (List.replicate j jw++List.replicate (cap.toNat - j) ⟨0,0,0⟩) [-1]∧
  env=[(6,ptr (H1.size+1+1)),(26,i64 (cap.toNat:Nat)),(27,i64 j)]) cap.toNat ⟨0,by omega,by omega,ag.refl _ _,by simpa using m0,rfl⟩ ?_
 rintro m env H3 ⟨j,rfl,hj,e3,m3,rfl⟩
 have oK:=iE (List.replicate j jw++List.replicate (cap.toNat - j) (⟨0,0,0⟩:Lk))
 have rU:(List.replicate j jw++List.replicate (cap.toNat - j) (⟨0,0,0⟩:Lk)).length=cap.toNat:=by simp;omega
 obtain⟨YH,o3,_⟩:=m3.own
 rw[rU]at oK o3
 rw[Ea]at o3
 refine vs ?_
 refine am.dec (fun aO=>?_) (fun aO=>?_)<;>refine vs ?_
 ·refine v1 (ae o3) ?_
  refine⟨by omega,?_⟩
  refine v3 m3.eW ant Int.toNat_natCast ?_
  refine⟨by omega,?_⟩
  have q3:=Is (L:=List.replicate j jw++List.replicate (cap.toNat - j) (⟨0,0,0⟩:Lk)) (i:=j) (by omega) jw
  have q4:(List.replicate j jw++List.replicate (cap.toNat - j) (⟨0,0,0⟩:Lk)).set j jw=List.replicate (j+1) jw++List.replicate (cap.toNat - (j+1)) (⟨0,0,0⟩:Lk):=by
   rw[apt _ _ (by simp),aog,aoI,show cap.toNat - j=(cap.toNat - (j+1))+1 by omega,aoc,aoS,apx]
   simp
  rw[q4]at q3
  obtain⟨m4,e4⟩:=m3.OB (L':=List.replicate (j+1) jw++List.replicate (cap.toNat - (j+1)) (⟨0,0,0⟩:Lk)) (by simp;omega)
  rw[show bh (aN (List.replicate j jw++List.replicate (cap.toNat - j) (⟨0,0,0⟩:Lk))) (j*3) (aH (Value.agg #[Value.int .i64 (-1),Value.int .i64 (-1),Value.int .i64 (-1)]))=_ from q3]
  refine vs ?_
  rw[wrap64 (n:=(j:Int)+1) (by omega) (by omega)]
  exact⟨cap.toNat - (j+1),by omega,j+1,rfl,by omega,e3.trans e4,m4,rfl⟩
 ·obtain rfl:j=cap.toNat:=by omega
  rw[aoI,apz,aon]at m3
  rw[←Ea]
  refine⟨ft.then e3 (fun z hz=>by omega),.inr ⟨hb,B.n,B.S C,rfl,⟨B,C,_,[-1],fun _=>[],fun _=> -1,rfl,m3,⟨⟨⟨rfl,fun x c hc=>absurd hc (by simp),fun c x h hx=>absurd (Eq.symm h) hx,fun x=>aoG⟩,
   ⟨fun x p h hp=>absurd (Eq.symm h) hp,fun g hg=>absurd (CC g) hg,fun x hx=>absurd hx (lf cap x)⟩⟩,⟨fun x=>AV _ _ _,fun x=>trivial,fun c _=>⟨AV _ _ _,FP _ _⟩⟩,rfl⟩,fun z=>Iff.rfl⟩,fun z hz=>?_⟩⟩
  rcases hBs z hz with h|h
  ·omega
  ·exact hC z h
theorem Bp{n:Nat}{H:Hp}{S:Nat→Prop}{w:Nw}(h:dA n H S w):af Tryz.prog lQ [ptr n] H fun v H'=>aw (
  (w.hs.length=65537∧v=i64 0∧cz (dA n) S H H' w)∨(w.hs.length≠65537∧v=i64 w.hs.length∧cz (dA n) S H H' w.make)):=by
 obtain⟨B,C,L,tops,ch,par,rfl,m,l,hS⟩:=id h
 obtain⟨tv,ho,zH⟩:=m.own
 refine bm wL ?_
 refine v1 (ae ho) ?_
 refine(jf m.cells).mono ?_
 rintro _ H1 (⟨h1,rfl,rfl⟩| ⟨h1,rfl,C',c1,e1,zk⟩)
 ·refine vs ?_
  exact .inl ⟨h1,rfl,cz.same h (ag.refl _ _)⟩
 have fY:=m.cells.pos
 have hhs:=m.cells.zH
 have Mc:=l.tl
 have slt:=m.slt
 have Lv:=c1.slt
 obtain⟨n1,n2,n3⟩:=m.out
 obtain⟨d1,d2,d3⟩:=m.mc
 have o1:=e1.own ho n1
 refine vs ?_
 refine am.cF (anI (by omega)) ?_
 refine v1 (ae o1) ?_
 have s1:=zH.ext e1 (fun b hb=>by injection hb with hb;exact hb▸n3)
 refine Of s1 (-1) (by omega) fun w' H2 b' jy s2 e2=>?_
 have o2:=e2.own o1 d2
 obtain⟨wa,wc,Oo⟩:=Sl.shape s2
 subst Oo
 refine v1 o2 ?_
 generalize Oo:Value.slice wa (tops++[-1]).length wc=w' at*
 have e3:ag (fun z=>z=B.n) H2 (H2.wr B.n [ptr B.c,.slice (some ⟨B.tb,0,none⟩) L.length L.length,w']):=(ag.refl (fun z=>z=B.n) _).wr (fun _=>rfl) _
 have z1:=e1.size
 have hn:=slt _ (.inr (.inl rfl))
 have ht:=slt _ (.inr (.inr (.inl rfl)))
 have htp:=slt _ (.inr (.inr (.inr rfl)))
 have FQ:∀z,C' z→z≠b'∧(z<H.size→C z):=fun z hz=>by
  have h5:=Lv z hz
  rcases zk z hz with h6|h6
  ·refine⟨fun e=>?_,fun _=>h6⟩
   rcases jy with h7|h7
   ·exact n3 (by rw[←h7,←e];exact h6)
   ·omega
  ·exact⟨by omega,fun h=>by omega⟩
 refine .inr ⟨h1,rfl,(PB.mk B.n B.c B.tb b').S C',⟨⟨B.n,B.c,B.tb,b'⟩,C',L,tops++[-1],ch,par,rfl,⟨⟨w',ah o2,s2.ext e3 (fun b hb=>by injection hb with hb;omega)⟩,?_,?_,m.len,?_,?_⟩,⟨by rw[AS];exact l.t,l.pl,?_⟩,fun z=>Iff.rfl⟩,?_,fun z hz=>?_⟩
 ·exact(c1.ext e2 (fun x hx e=>by
   rcases zk x hx with h6|h6
   ·exact n3 (e▸h6)
   ·omega)).ext e3 (fun x hx e=>by
   rcases zk x hx with h6|h6
   ·exact n1 (e▸h6)
   ·omega)
 ·exact e3.own (e2.own (e1.own m.eW n2) d3) (Ne.symm d1)
 ·refine⟨d1,?_,?_⟩<;>simp only<;>omega
 ·exact⟨fun h=>n1 ((FQ _ h).2 hn),fun h=>n2 ((FQ _ h).2 ht),fun h=>(FQ _ h).1 rfl⟩
 ·simp[Nw.make,Mc]
 ·exact((e1.mono fun z _ h=>(hS z).2 (.inl h)).trans (e2.mono fun z _ h=>(hS z).2 (.inr (.inr (.inr h))))).trans (e3.mono fun z _ h=>(hS z).2 (.inr (.inl h)))
 ·rcases hz with hz|rfl|rfl|rfl
  ·rcases zk z hz with h6|h6
   ·exact .inl ((hS z).2 (.inl h6))
   ·exact .inr h6
  ·exact .inl ((hS _).2 (.inr (.inl rfl)))
  ·exact .inl ((hS _).2 (.inr (.inr (.inl rfl))))
  ·rcases jy with rfl|h7
   ·exact .inl ((hS _).2 (.inr (.inr (.inr rfl))))
   ·exact .inr (by first|omega| (simp only;omega))
theorem LM.first{w:Nw}{L:List Lk}{tops:List Int}{ch:Int→List Int}{par:Int→Int}(l:LM w L tops ch par){g x:Int}(h:w.first g x):bi tops g=x:=by
 obtain⟨h1,h2,h3⟩:=bN.1 h
 have:=l.t.tp.first (x:=x) (by omega) (fun y hy aP=>h3 y (by omega) aP) (ar w)
 rwa[h2]at this
theorem qq{n:Nat}{H:Hp}{S:Nat→Prop}{w:Nw}(h:dA n H S w)(g:Int):af Tryz.prog mW [ptr n,i64 g] H fun v H'=>aw (
  ((w.len g=0∧v= .tuple [i64 0,.bool false].toArray)∨∃x,w.first g x∧v= .tuple [i64 x,.bool true].toArray)∧H'=H):=by
 obtain⟨B,C,L,tops,ch,par,rfl,m,l,hS⟩:=h
 obtain⟨cc,lt,ho,q2,xF,tF,On⟩:=m.fN
 refine bm yU ?_
 refine v1 (ae ho) ?_
 refine(uE m.cells g).mono ?_
 rintro _ _ ⟨rfl,rfl⟩
 refine vs ?_
 refine am.dec (fun h0=>?_) (fun h0=>?_)
 ·refine vs ?_
  exact⟨.inl ⟨h0,rfl⟩,rfl⟩
 have hg:0<g:=anW fun hg=>h0 (Nw.Hs.2 (.inl (by omega)))
 obtain⟨x,hx⟩:=uD hg h0
 have hh:=(bN.1 hx).2.1
 have di:=((m.cells.hm x).2 (by omega)).2
 rw[hh,←l.tl]at di
 have q3:=m.eO q2 (dT (tops:=tops) (h:=g) (by omega) di)
 rw[l.first hx]at q3
 refine v1 (ae ho) ?_
 refine⟨⟨by omega,by omega⟩,?_⟩
 refine v4 (ae q2) ant anw q3 ?_
 exact⟨.inr ⟨x,hx,rfl⟩,rfl⟩
theorem xi{n:Nat}{H:Hp}{S:Nat→Prop}{w:Nw}(h:dA n H S w)(g x k s:Int):af Tryz.prog jC [ptr n,i64 g,i64 x,tz k s] H fun v H'=>aw (
  (¬w.lI g x∧v= .bool false∧cz (dA n) S H H' w)∨(w.lI g x∧v= .bool true∧cz (dA n) S H H' (w.put x (g,k,s)))):=by
 obtain⟨B,C,L,tops,ch,par,rfl,m,l,hS⟩:=h
 have hC:∀z,C z→S z:=fun z h=>(hS z).2 (.inl h)
 have t1:S B.tb:=(hS _).2 (.inr (.inr (.inl rfl)))
 have t2:S B.tp:=(hS _).2 (.inr (.inr (.inr rfl)))
 refine Gv te ⟨rfl,?_⟩
 refine v1 jM.eq_1 ?_
 have f0:ai H (H.new 224 [i64 k,u64 s]):=(ag.refl _ _).new _ _
 have b0:(H.new 224 [i64 k,u64 s]).own H.size=some [i64 k,u64 s]:=aB _ _ _
 have m0:=m.fresh f0
 generalize H.new 224 [i64 k,u64 s]=H0 at*
 have ff:ag S H H0:=f0.mono fun _ _ h=>h.elim
 obtain⟨tv,Hy,_⟩:=m0.own
 refine v2 (ae Hy) (ae b0) ?_
 refine(kZ m0.cells g x k s).mono ?_
 rintro _ H1 (⟨bK,rfl,c1,e1⟩| ⟨qm,rfl,c1,e1⟩)
 ·refine vs ?_
  exact .inl ⟨bK,rfl,cz.same ⟨B,C,L,tops,ch,par,rfl,m0.aJ c1 e1 rfl,l,hS⟩ (ff.trans (e1.mono fun z _ hz=>hC z hz))⟩
 obtain⟨hh,hx,bJ⟩:=id qm
 have m2:=m0.aJ c1 e1 (by simp[Nw.put])
 have hg:=hh.1
 have di:g<tops.length:=by
  have:=(anu.1 hh.2).1
  have:=l.tl
  omega
 have cK:=fun y=>dS hx (g,k,s) y
 have bo:ST (aG (w.put x (g,k,s))) (aQ (w.put x (g,k,s))) ch par (bi tops) g x:=by
  refine l.t.ins rfl (Int.not_lt.1 fun h=>bJ (bq.1 h)) (by omega) (by omega) (by rw[cK,if_pos rfl]) (fun y hy=>by rw[cK,if_neg hy]) (fun a b ha hb tG me=>du hx _ ha hb tG me)
 obtain⟨cc,lt,o2,q2,xF,tF,On⟩:=m2.fN
 have q3:=m2.eO q2 (dT (tops:=tops) (h:=g) (by omega) di)
 refine vs ?_
 refine jX.intro (fun H'=>H'.own B.n=some [ptr B.c,.slice (some ⟨B.tb,0,none⟩) L.length L.length,.slice (some ⟨B.tp,0,none⟩) tops.length cc]) o2 ?_
 refine vs ?_
 refine fV.intro (.slice (some ⟨B.tp,0,none⟩) tops.length cc) (fun H' hI=>by refine v1 (ae hI) ?_;trivial) ?_
 refine v1 (ae o2) ?_
 refine And.intro o2 ?_
 refine vs ?_
 refine⟨⟨by omega,by omega⟩,?_⟩
 refine v4 (ae q2) ant anw q3 ?_
 refine And.intro o2 ?_
 refine vs ?_
 have bw:=bo.w
 rw[show ws [bi tops g,x]=ws [bi tops g,x]++[] by simp]at bw
 refine(cZ m2 bw l.pl).mono ?_
 rintro _ H3 ⟨r,L3,Me,oR,rfl,_,m3,w3,p3,e3⟩
 rw[aon]at w3
 have bn:=bo.done w3
 obtain⟨d1,d2,d3⟩:=m2.mc
 have no:¬ (C B.n∨B.n=B.tb):=by rintro(h|h);exact m2.out.1 h;omega
 refine And.intro (e3.own o2 no) ?_
 have q4:=e3.own q2 (by rintro(h|h);exact m2.out.2.2 h;omega)
 refine vs ?_
 refine⟨⟨by omega,by omega⟩,?_⟩
 refine v3 q4 ant anw ?_
 refine⟨by omega,?_⟩
 obtain⟨m4,e4⟩:=m3.lc q4 g.toNat r
 refine And.intro (e4.own (e3.own o2 no) d2) ?_
 refine vs ?_
 refine .inr ⟨qm,rfl,cz.same ⟨B,C,L3,_,Me,oR,rfl,m4,⟨?_,p3,by rw[anv];exact l.tl⟩,hS⟩ (((ff.trans (e1.mono fun z _ h=>hC z h)).trans (e3.mono fun z _ h=>by rcases h with h|rfl;exact hC z h;exact t1)).trans (e4.mono fun z _ h=>h▸t2))⟩
 rw[ez (by omega) di]
 exact bn
end Go.Proofs.YtjlnnljohemifaaGreat
