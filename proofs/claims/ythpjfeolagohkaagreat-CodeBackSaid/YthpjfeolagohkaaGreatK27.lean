/- Texts put behind each other. -/
import Derived.Test.YthpjfeolagohkaaGreatK98
import Derived.Test.YthpjfeolagohkaaGreatK2
import Derived.Test.YthpjfeolagohkaaGreatK19
import Derived.Test.YthpjfeolagohkaaGreatK21
import Derived.Test.YthpjfeolagohkaaGreatK23
import Derived.Test.YthpjfeolagohkaaGreatK26
set_option maxRecDepth 100000
set_option maxHeartbeats 8000000
set_option linter.unusedVariables false
set_option linter.unusedSimpArgs false
namespace Go.Proofs.YthpjfeolagohkaaGreat
open Go Go.Vc
structure Lk where
 a:Int
 b:Int
 u:Int
def SK(y:Lk):List Value:=[i64 y.a,i64 y.b,i64 y.u]
def flatK(L:List Lk):List Value:=L.flatMap SK
theorem im(L:List Lk):(flatK L).length=L.length*3:=by
 induction L with
 |nil=>rfl
 |cons c r ih=>simp only[flatK,apU,aoy,SK,aoI,apo]at*;omega
def Lk.qz(y:Lk)(c:Bool):Int:=if c then y.b else y.a
def Lk.fP(y:Lk)(c:Bool)(v:Int):Lk:=if c then⟨y.a,v,y.u⟩else⟨v,y.b,y.u⟩
theorem Lk.UQ(y:Lk)(c d:Bool)(v:Int):(y.fP c v).qz d=if d=c then v else y.qz d:=by cases c<;>cases d<;>rfl
theorem Lk.abK(y:Lk)(c:Bool)(v:Int):(y.fP c v).u=y.u:=by cases c<;>rfl
theorem OX{L:List Lk}{i:Nat}{y:Lk}(hi:L[i]? =some y):(flatK L)[i*3]? =some (i64 y.a)∧(flatK L)[i*3+1]? =some (i64 y.b)∧(flatK L)[i*3+2]? =some (i64 y.u):=by
 induction L generalizing i with
 |nil=>simp at hi
 |cons a r ih=>
  have e:flatK (a::r)=i64 a.a::i64 a.b::i64 a.u::flatK r:=rfl
  rw[e]
  cases i with
  |zero=>simp at hi;subst hi;exact⟨rfl,rfl,rfl⟩
  |succ i=>
   have:=ih (by simpa using hi)
   rw[show(i+1)*3=i*3+3 by omega]
   exact this
theorem XX{L:List Lk}{i:Nat}{y:Lk}(hi:L[i]? =some y)(c:Bool):(flatK L)[i*3+c.toNat]? =some (i64 (y.qz c)):=by
 obtain⟨h1,h2,h3⟩:=OX hi
 cases c
 ·exact h1
 ·exact h2
theorem vw{L:List Lk}{i:Nat}{y:Lk}(hi:L[i]? =some y)(c:Bool)(v:Int):(flatK L).set (i*3+c.toNat) (i64 v)=flatK (L.set i (y.fP c v)):=by
 induction L generalizing i with
 |nil=>simp at hi
 |cons a r ih=>
  have e:flatK (a::r)=i64 a.a::i64 a.b::i64 a.u::flatK r:=rfl
  cases i with
  |zero=>
   simp at hi;subst hi
   cases c<;>rfl
  |succ i=>
   have e2:flatK ((a::r).set (i+1) (y.fP c v))=i64 a.a::i64 a.b::i64 a.u::flatK (r.set i (y.fP c v)):=rfl
   rw[e,e2,show(i+1)*3+c.toNat=i*3+c.toNat+1+1+1 by omega]
   simp only[apb]
   rw[ih (by simpa using hi)]
theorem F6{L:List Lk}{i:Nat}{y:Lk}(hi:L[i]? =some y)(v:Int):(flatK L).set (i*3+2) (i64 v)=flatK (L.set i ⟨y.a,y.b,v⟩):=by
 induction L generalizing i with
 |nil=>simp at hi
 |cons a r ih=>
  have e:flatK (a::r)=i64 a.a::i64 a.b::i64 a.u::flatK r:=rfl
  cases i with
  |zero=>simp at hi;subst hi;rfl
  |succ i=>
   have e2:flatK ((a::r).set (i+1) ⟨y.a,y.b,v⟩)=i64 a.a::i64 a.b::i64 a.u::flatK (r.set i ⟨y.a,y.b,v⟩):=rfl
   rw[e,e2,show(i+1)*3+2=i*3+2+1+1+1 by omega]
   simp only[apb]
   rw[ih (by simpa using hi)]
def aX(L:List Lk)(x:Int)(c:Bool):Int:=if 0≤x then(match L[x.toNat]? with|some y=>y.qz c|none=> -1)else -1
def bh(L:List Lk)(x:Int):Int:=if 0≤x then(match L[x.toNat]? with|some y=>y.u|none=> -1)else -1
theorem oN{L:List Lk}{x:Int}{y:Lk}(h0:0≤x)(h:L[x.toNat]? =some y)(c:Bool):aX L x c=y.qz c:=by unfold aX;rw[if_pos h0,h]
theorem uH{L:List Lk}{x:Int}{y:Lk}(h0:0≤x)(h:L[x.toNat]? =some y):bh L x=y.u:=by unfold bh;rw[if_pos h0,h]
theorem SL{L:List Lk}{x:Int}(h:¬ (0≤x∧x<L.length))(c:Bool):aX L x c= -1:=by
 unfold aX
 split
 ·rw[aoC (by omega)]
 ·rfl
theorem NO{L:List Lk}{x:Int}(h:¬ (0≤x∧x<L.length)):bh L x= -1:=by
 unfold bh
 split
 ·rw[aoC (by omega)]
 ·rfl
theorem rD{L:List Lk}{p:Int}{y:Lk}(h0:0≤p)(h:L[p.toNat]? =some y)(c:Bool)(v:Int):aX (L.set p.toNat (y.fP c v))=ez (aX L) p c v:=by
 have aK:=(aoq.1 h).1
 funext z d
 unfold ez
 by_cases hz:z=p
 ·subst hz
  rw[oN h0 (aox aK),Lk.UQ,oN h0 h]
  by_cases hd:d=c<;>simp[hd]
 ·rw[if_neg (fun h=>hz h.1)]
  unfold aX
  split
  ·rw[aov (by omega)]
  ·rfl
theorem rE{L:List Lk}{p:Int}{y:Lk}(h0:0≤p)(h:L[p.toNat]? =some y)(c:Bool)(v:Int):bh (L.set p.toNat (y.fP c v))=bh L:=by
 have aK:=(aoq.1 h).1
 funext z
 by_cases hz:z=p
 ·subst hz
  rw[uH h0 (aox aK),Lk.abK,uH h0 h]
 ·unfold bh
  split
  ·rw[aov (by omega)]
  ·rfl
theorem CT{L:List Lk}{p:Int}{y:Lk}(h0:0≤p)(h:L[p.toNat]? =some y)(v:Int):aX (L.set p.toNat ⟨y.a,y.b,v⟩)=aX L:=by
 have aK:=(aoq.1 h).1
 funext z d
 by_cases hz:z=p
 ·subst hz
  rw[oN h0 (aox aK),oN h0 h]
  rfl
 ·unfold aX
  split
  ·rw[aov (by omega)]
  ·rfl
theorem CU{L:List Lk}{p:Int}{y:Lk}(h0:0≤p)(h:L[p.toNat]? =some y)(v:Int):bh (L.set p.toNat ⟨y.a,y.b,v⟩)=aJ (bh L) p v:=by
 have aK:=(aoq.1 h).1
 funext z
 unfold aJ
 by_cases hz:z=p
 ·subst hz
  rw[uH h0 (aox aK),if_pos rfl]
 ·rw[if_neg hz]
  unfold bh
  split
  ·rw[aov (by omega)]
  ·rfl
structure bJ(H:Hp)(t tl:Nat)(L:List Lk):Prop where
 own:H.own t=some [.slice (some ⟨tl,0,none⟩) L.length L.length]
 kK:H.own tl=some (flatK L)
 ne:t≠tl
theorem bJ.ext{S:Nat→Prop}{H H':Hp}{t tl:Nat}{L:List Lk}(h:bJ H t tl L)(e:ag S H H')(h1:¬S t)(h2:¬S tl):bJ H' t tl L:=⟨e.own h.own h1,e.own h.kK h2,h.ne⟩
theorem bJ.fresh{H H':Hp}{t tl:Nat}{L:List Lk}(h:bJ H t tl L)(e:am H H'):bJ H' t tl L:=h.ext e (fun h=>h) (fun h=>h)
theorem bJ.put{H:Hp}{t tl:Nat}{L L':List Lk}(h:bJ H t tl L)(hl:L'.length=L.length):bJ (H.wr tl (flatK L')) t tl L':=
 ⟨by rw[pQ h.ne.symm,hl];exact h.own,ah h.kK,h.ne⟩
section
variable {H : Hp} {t tl : Nat} {L : List Lk}
theorem fQ(h:bJ H t tl L)(x:Int):af Tryz.prog Ao [ptr t,i64 x] H fun v H'=>ar (v= .bool (decide (0≤x∧x<L.length))∧H'=H):=by
 refine aZ AL ?_
 refine vs ?_
 refine ai.dec (fun g=>?_) (fun g=>?_)<;>refine v1 (ae h.own) ?_
 ·exact⟨aoD Value.bool (by rw[decide_eq_decide];omega),rfl⟩
 ·exact⟨aoD Value.bool (aoK (by omega)).symm,rfl⟩
theorem li(H:Hp)(c:Bool):af Tryz.prog Jy [.bool c] H fun v H'=>ar (v=i64 c.toNat∧H'=H):=by
 refine aZ JG ?_
 refine vs ?_
 cases c<;>refine vs ?_<;>exact⟨rfl,rfl⟩
def gg(x:Int):Value:=if x= -1 then .tuple [i64 0,.bool false].toArray else .tuple [i64 x,.bool true].toArray
theorem lj(H:Hp)(x:Int):af Tryz.prog Jz [i64 x] H fun v H'=>ar (v=gg x∧H'=H):=by
 refine aZ JH ?_
 refine vs ?_
 unfold gg
 refine ai.dec (fun g=>?_) (fun g=>?_)<;>refine vs ?_
 ·rw[if_pos g];exact⟨rfl,rfl⟩
 ·rw[if_neg g];exact⟨rfl,rfl⟩
theorem iT(h:bJ H t tl L)(x:Int)(c:Bool):af Tryz.prog An [ptr t,i64 x,.bool c] H fun v H'=>ar (v=i64 (aX L x c)∧H'=H):=by
 refine aZ AK ?_
 refine vs ?_
 refine(fQ h x).mono ?_
 rintro _ H' ⟨rfl,e⟩
 obtain rfl:=e.symm
 refine vs ?_
 refine ai.dec (fun g=>?_) (fun g=>?_)<;>refine vs ?_
 ·obtain⟨y,hy⟩:∃y,L[x.toNat]? =some y:=⟨_,aop (by omega)⟩
  have hk:=XX hy c
  have hc:c.toNat<2:=by cases c<;>decide
  refine v1 (ae h.own) ?_
  refine⟨_,li H c,?_⟩
  refine⟨⟨by omega,by omega⟩,?_⟩
  refine v4 aor Nat.add_zero aos Int.toNat_natCast ?_
  refine⟨⟨by omega,by omega⟩,?_⟩
  refine v6 (ae h.kK) aor Nat.add_zero aos Int.toNat_natCast hk ?_
  rw[oN g.1 hy]
  exact⟨rfl,rfl⟩
 ·rw[SL g]
  exact⟨rfl,rfl⟩
theorem jJ(h:bJ H t tl L)(x:Int):af Tryz.prog vY [ptr t,i64 x] H fun v H'=>ar (v=i64 (bh L x)∧H'=H):=by
 refine aZ wS ?_
 refine vs ?_
 refine(fQ h x).mono ?_
 rintro _ H' ⟨rfl,e⟩
 obtain rfl:=e.symm
 refine vs ?_
 refine ai.dec (fun g=>?_) (fun g=>?_)<;>refine vs ?_
 ·obtain⟨y,hy⟩:∃y,L[x.toNat]? =some y:=⟨_,aop (by omega)⟩
  have hk:=(OX hy).2.2
  refine v1 (ae h.own) ?_
  refine⟨by omega,?_⟩
  refine v3 (ae h.kK) aor hk ?_
  rw[uH g.1 hy]
  exact⟨rfl,rfl⟩
 ·rw[NO g]
  exact⟨rfl,rfl⟩
theorem lm(h:bJ H t tl L)(x:Int):af Tryz.prog yk [ptr t,i64 x] H fun v H'=>ar (v=gg (aX L x false)∧H'=H):=by
 refine aZ yR ?_
 refine vs ?_
 refine(iT h x false).mono ?_
 rintro _ H' ⟨rfl,e⟩
 obtain rfl:=e.symm
 refine vs ?_
 refine(lj H (aX L x false)).mono ?_
 rintro _ H' ⟨rfl,e⟩
 obtain rfl:=e.symm
 unfold gg
 by_cases g:aX L x false= -1
 ·simp only[if_pos g]
  refine vs ?_
  exact⟨(if_pos g).symm,rfl⟩
 ·simp only[if_neg g]
  refine vs ?_
  exact⟨(if_neg g).symm,rfl⟩
theorem cr(h:bJ H t tl L)(x:Int):af Tryz.prog vX [ptr t,i64 x] H fun v H'=>ar (v=gg (aX L x true)∧H'=H):=by
 refine aZ wR ?_
 refine vs ?_
 refine(iT h x true).mono ?_
 rintro _ H' ⟨rfl,e⟩
 obtain rfl:=e.symm
 refine vs ?_
 refine(lj H (aX L x true)).mono ?_
 rintro _ H' ⟨rfl,e⟩
 obtain rfl:=e.symm
 unfold gg
 by_cases g:aX L x true= -1
 ·simp only[if_pos g]
  refine vs ?_
  exact⟨(if_pos g).symm,rfl⟩
 ·simp only[if_neg g]
  refine vs ?_
  exact⟨(if_neg g).symm,rfl⟩
theorem oO(h:bJ H t tl L)(x:Int):af Tryz.prog Cj [ptr t,i64 x] H fun v H'=>ar (v=gg (bh L x)∧H'=H):=by
 refine aZ Cw ?_
 refine vs ?_
 refine(jJ h x).mono ?_
 rintro _ H' ⟨rfl,e⟩
 obtain rfl:=e.symm
 refine vs ?_
 refine(lj H (bh L x)).mono ?_
 rintro _ H' ⟨rfl,e⟩
 obtain rfl:=e.symm
 unfold gg
 by_cases g:bh L x= -1
 ·simp only[if_pos g]
  refine vs ?_
  exact⟨(if_pos g).symm,rfl⟩
 ·simp only[if_neg g]
  refine vs ?_
  exact⟨(if_neg g).symm,rfl⟩
theorem eV(h:bJ H t tl L){p x:Int}{c:Bool}(hp:0≤p∧p<L.length)(hx:0≤x∧x<L.length)(dZ:p≠x)(hu:bh L x= -1)(hk:aX L p c= -1):
  af Tryz.prog yn [ptr t,i64 p,i64 x,.bool c] H fun v H'=>ar (v= .bool true∧∃L',bJ H' t tl L'∧L'.length=L.length∧aX L'=uw (aX L) p x c∧bh L'=aJ (bh L) x p∧ag (fun z=>z=tl) H H'):=by
 refine aZ yS ?_
 refine vs ?_
 refine(fQ h p).mono ?_
 rintro _ H' ⟨rfl,e⟩
 obtain rfl:=e.symm
 rw[aoE hp]
 refine vs ?_
 refine(fQ h x).mono ?_
 rintro _ H' ⟨rfl,e⟩
 obtain rfl:=e.symm
 rw[aoE hx]
 refine vs ?_
 refine ai.dec (fun g=>absurd g dZ) (fun _=>?_)
 refine vs ?_
 refine(jJ h x).mono ?_
 rintro _ H' ⟨rfl,e⟩
 obtain rfl:=e.symm
 rw[hu]
 refine v1 aoW ?_
 refine(iT h p c).mono ?_
 rintro _ H' ⟨rfl,e⟩
 obtain rfl:=e.symm
 rw[hk]
 refine v1 aoW ?_
 obtain⟨y,hy⟩:∃y,L[p.toNat]? =some y:=⟨_,aop (by omega)⟩
 have hc:c.toNat<2:=by cases c<;>decide
 have jx:=im L
 refine v1 (ae h.own) ?_
 refine⟨_,li H c,?_⟩
 refine⟨⟨by omega,by omega⟩,?_⟩
 refine v4 aor Nat.add_zero aos Int.toNat_natCast ?_
 refine⟨⟨by omega,by omega⟩,?_⟩
 refine v5 h.kK aor Nat.add_zero aos Int.toNat_natCast ?_
 refine⟨by omega,?_⟩
 have h1:=h.put (L':=L.set p.toNat (y.fP c x)) (by rw[aot])
 have e1:ag (fun z=>z=tl) H (H.wr tl (flatK (L.set p.toNat (y.fP c x)))):=(ag.refl (fun z=>z=tl) _).wr (fun _=>rfl) _
 rw[←vw hy c x]at h1 e1
 have k1:=rD hp.1 hy c x
 have u1:=rE hp.1 hy c x
 have l1:(L.set p.toNat (y.fP c x)).length=L.length:=aot ..
 generalize L.set p.toNat (y.fP c x)=L1 at*
 refine vs ?_
 generalize H.wr tl ((flatK L).set (p.toNat*3+c.toNat) (i64 x))=H1 at*
 obtain⟨y1,Kz⟩:∃y,L1[x.toNat]? =some y:=⟨_,aop (by omega)⟩
 have afK:=im L1
 refine v1 (ae h1.own) ?_
 refine⟨by omega,?_⟩
 refine v2 h1.kK aor ?_
 refine⟨by omega,?_⟩
 have h2:=h1.put (L':=L1.set x.toNat ⟨y1.a,y1.b,p⟩) (by rw[aot])
 have e2:ag (fun z=>z=tl) H1 (H1.wr tl (flatK (L1.set x.toNat ⟨y1.a,y1.b,p⟩))):=(ag.refl (fun z=>z=tl) _).wr (fun _=>rfl) _
 rw[←F6 Kz p]at h2 e2
 refine vs ?_
 exact⟨rfl,_,h2,by rw[aot,l1],by rw[CT hx.1 Kz,k1];rfl,by rw[CU hx.1 Kz,u1],e1.trans e2⟩
theorem cI(h:bJ H t tl L){x:Int}(hv:bh L x≠ -1→0≤bh L x∧bh L x<L.length):
  af Tryz.prog Am [ptr t,i64 x] H fun v H'=>ar (v=gg (bh L x)∧∃L',bJ H' t tl L'∧L'.length=L.length∧aX L'=iJ (aX L) (bh L) x∧bh L'=cW (bh L) x∧ag (fun z=>z=tl) H H'):=by
 refine aZ AJ ?_
 refine vs ?_
 refine(jJ h x).mono ?_
 rintro _ H' ⟨rfl,e⟩
 obtain rfl:=e.symm
 refine vs ?_
 have jx:=im L
 refine ai.dec (fun g=>?_) (fun g=>?_)<;>refine vs ?_
 ·refine⟨by unfold gg;rw[if_pos g];rfl,L,h,rfl,by unfold iJ;rw[if_pos g],?_,ag.refl _ _⟩
  funext z
  unfold cW aJ
  split
  ·rename_i hz;rw[hz,g]
  ·rfl
 have hx:0≤x∧x<L.length:=aoJ fun hn=>g (NO hn)
 obtain⟨p0,p1⟩:=hv g
 generalize hpe:bh L x=p at*
 obtain⟨y,hy⟩:∃y,L[p.toNat]? =some y:=⟨_,aop (by omega)⟩
 have hc:∀c:Bool,c.toNat<2:=fun c=>by cases c<;>decide
 refine v1 (ae h.own) ?_
 refine⟨_,iT h p true,?_⟩
 refine vs ?_
 refine⟨_,li H (decide (aX L p true=x)),?_⟩
 have XY:decide (aX L p true=x)=(aX L p true==x):=by by_cases e:aX L p true=x<;>simp[e]
 rw[XY]
 have CE:=hc (aX L p true==x)
 generalize hce:(aX L p true==x)=c at*
 refine⟨⟨by omega,by omega⟩,?_⟩
 refine v4 aor Nat.add_zero aos Int.toNat_natCast ?_
 refine⟨⟨by omega,by omega⟩,?_⟩
 refine v5 h.kK aor Nat.add_zero aos Int.toNat_natCast ?_
 refine⟨by omega,?_⟩
 have h1:=h.put (L':=L.set p.toNat (y.fP c (-1))) (by rw[aot])
 have e1:ag (fun z=>z=tl) H (H.wr tl (flatK (L.set p.toNat (y.fP c (-1))))):=(ag.refl (fun z=>z=tl) _).wr (fun _=>rfl) _
 rw[←vw hy c (-1)]at h1 e1
 have k1:=rD p0 hy c (-1)
 have u1:=rE p0 hy c (-1)
 have l1:(L.set p.toNat (y.fP c (-1))).length=L.length:=aot ..
 generalize L.set p.toNat (y.fP c (-1))=L1 at*
 refine vs ?_
 generalize H.wr tl ((flatK L).set (p.toNat*3+c.toNat) (i64 (-1)))=H1 at*
 obtain⟨y1,Kz⟩:∃y,L1[x.toNat]? =some y:=⟨_,aop (by omega)⟩
 have afK:=im L1
 refine v1 (ae h1.own) ?_
 refine⟨by omega,?_⟩
 refine v2 h1.kK aor ?_
 refine⟨by omega,?_⟩
 have h2:=h1.put (L':=L1.set x.toNat ⟨y1.a,y1.b, -1⟩) (by rw[aot])
 have e2:ag (fun z=>z=tl) H1 (H1.wr tl (flatK (L1.set x.toNat ⟨y1.a,y1.b, -1⟩))):=(ag.refl (fun z=>z=tl) _).wr (fun _=>rfl) _
 rw[←F6 Kz (-1)]at h2 e2
 refine vs ?_
 refine⟨by unfold gg;rw[if_neg g];rfl,_,h2,by rw[aot,l1],?_,by rw[CU hx.1 Kz,u1];rfl,e1.trans e2⟩
 rw[CT hx.1 Kz,k1]
 unfold iJ
 rw[hpe,if_neg g,hce]
theorem SM{L:List Lk}{p:Int}{y:Lk}(h0:0≤p)(h:L[p.toNat]? =some y):aX (L.set p.toNat ⟨y.b,y.a,y.u⟩)=mV (aX L) p∧bh (L.set p.toNat ⟨y.b,y.a,y.u⟩)=bh L:=by
 have aK:=(aoq.1 h).1
 constructor
 ·funext z d
  unfold mV
  by_cases hz:z=p
  ·subst hz
   rw[oN h0 (aox aK),if_pos rfl,oN h0 h]
   cases d<;>rfl
  ·rw[if_neg hz]
   unfold aX
   split
   ·rw[aov (by omega)]
   ·rfl
 ·funext z
  by_cases hz:z=p
  ·subst hz
   rw[uH h0 (aox aK),uH h0 h]
  ·unfold bh
   split
   ·rw[aov (by omega)]
   ·rfl
theorem NP{L:List Lk}{i:Nat}{y:Lk}(hi:L[i]? =some y):((flatK L).set (i*3) (i64 y.b)).set (i*3+1) (i64 y.a)=flatK (L.set i ⟨y.b,y.a,y.u⟩):=by
 induction L generalizing i with
 |nil=>simp at hi
 |cons a r ih=>
  have e:flatK (a::r)=i64 a.a::i64 a.b::i64 a.u::flatK r:=rfl
  cases i with
  |zero=>simp at hi;subst hi;rfl
  |succ i=>
   have e2:flatK ((a::r).set (i+1) ⟨y.b,y.a,y.u⟩)=i64 a.a::i64 a.b::i64 a.u::flatK (r.set i ⟨y.b,y.a,y.u⟩):=rfl
   rw[e,e2,show(i+1)*3=i*3+1+1+1 by omega,show i*3+1+1+1+1=i*3+1+1+1+1 by rfl]
   simp only[apb]
   rw[ih (by simpa using hi)]
theorem ln(h:bJ H t tl L){p:Int}(hp:0≤p∧p<L.length):
  af Tryz.prog yo [ptr t,i64 p] H fun v H'=>ar (v= .bool true∧∃L',bJ H' t tl L'∧L'.length=L.length∧aX L'=mV (aX L) p∧bh L'=bh L∧ag (fun z=>z=tl) H H'):=by
 refine aZ yT ?_
 refine vs ?_
 refine(fQ h p).mono ?_
 rintro _ H' ⟨rfl,e⟩
 obtain rfl:=e.symm
 rw[aoE hp]
 obtain⟨y,hy⟩:∃y,L[p.toNat]? =some y:=⟨_,aop (by omega)⟩
 have jx:=im L
 obtain⟨a1,a2,a3⟩:=OX hy
 refine v1 (ae h.own) ?_
 refine⟨by omega,?_⟩
 refine vs ?_
 have n1:Int.toNat 1=1:=rfl
 refine⟨⟨by omega,by omega⟩,?_⟩
 refine v8 (ae h.kK) aor Nat.add_zero aos Int.toNat_zero n1 a1 a2 ?_
 refine⟨⟨by omega,by omega⟩,?_⟩
 refine v8 (ae h.kK) aor Nat.add_zero aos Int.toNat_zero n1 a1 a2 ?_
 refine⟨⟨by omega,by omega⟩,?_⟩
 refine v6 h.kK aor Nat.add_zero aos Int.toNat_zero n1 ?_
 refine⟨by omega,?_⟩
 refine vs ?_
 refine⟨⟨by omega,by omega⟩,?_⟩
 have o1:(H.wr tl ((flatK L).set (p.toNat*3) (i64 y.b))).own tl=_:=ah h.kK
 have e1:ag (fun z=>z=tl) H (H.wr tl ((flatK L).set (p.toNat*3) (i64 y.b))):=(ag.refl (fun z=>z=tl) _).wr (fun _=>rfl) _
 have w1:=e1.own h.own h.ne
 generalize H.wr tl ((flatK L).set (p.toNat*3) (i64 y.b))=H1 at*
 refine v6 o1 aor Nat.add_zero aos Int.toNat_zero n1 ?_
 refine⟨by rw[aot];omega,?_⟩
 have e2:ag (fun z=>z=tl) H1 (H1.wr tl (((flatK L).set (p.toNat*3) (i64 y.b)).set (p.toNat*3+1) (i64 y.a))):=(ag.refl (fun z=>z=tl) _).wr (fun _=>rfl) _
 have o2:(H1.wr tl (((flatK L).set (p.toNat*3) (i64 y.b)).set (p.toNat*3+1) (i64 y.a))).own tl=_:=ah o1
 refine vs ?_
 obtain⟨k1,k2⟩:=SM hp.1 hy
 refine⟨rfl,L.set p.toNat ⟨y.b,y.a,y.u⟩,⟨by rw[aot];exact e2.own w1 h.ne,by rw[←NP hy];exact o2,h.ne⟩,aot ..,k1,k2,e1.trans e2⟩
end
theorem OY(n:Nat):ce [Value.int .i64 0,Value.int .i64 0,Value.int .i64 0] n=flatK (List.replicate n ⟨0,0,0⟩):=by
 unfold ce
 induction n with
 |zero=>rfl
 |succ n ih=>rw[aoZ,apr,ih,aoZ];rfl
theorem IV{L:List Lk}{i:Nat}(hi:i<L.length)(y:Lk):aY (flatK L) (i*3) [i64 y.a,i64 y.b,i64 y.u]=flatK (L.set i y):=by
 simp only[aY]
 induction L generalizing i with
 |nil=>simp at hi
 |cons a r ih=>
  have e:flatK (a::r)=i64 a.a::i64 a.b::i64 a.u::flatK r:=rfl
  cases i with
  |zero=>rfl
  |succ i=>
   have e2:flatK ((a::r).set (i+1) y)=i64 a.a::i64 a.b::i64 a.u::flatK (r.set i y):=rfl
   rw[e,e2,show(i+1)*3=i*3+1+1+1 by omega]
   simp only[apb]
   rw[ih (by simpa using hi)]
def jd:Lk:=⟨-1, -1, -1⟩
theorem uI(H:Hp){n:Int}(hn:0≤n∧n≤65536):af Tryz.prog Lr [i64 n] H fun v H'=>ar (∃t tl,v= .tuple [ptr t,i64 0].toArray∧bJ H' t tl (List.replicate n.toNat jd)∧am H H'∧H.size≤t∧H.size≤tl):=by
 refine aZ Lz ?_
 refine vs ?_
 refine ai.dec (fun g=>absurd g (by omega)) (fun _=>?_)
 refine vs ?_
 refine ai.dec (fun g=>absurd g (by omega)) (fun _=>?_)
 refine vs ?_
 refine⟨⟨by omega,by omega,by omega,by omega⟩,?_⟩
 refine vs ?_
 rw[OY]
 have f0:am H ((H.new 285 (flatK (List.replicate n.toNat ⟨0,0,0⟩))).new 283 [.slice (some ⟨H.size,0,none⟩) n.toNat n.toNat]):=((ag.refl _ _).new _ _).new _ _
 have t0:bJ ((H.new 285 (flatK (List.replicate n.toNat ⟨0,0,0⟩))).new 283 [.slice (some ⟨H.size,0,none⟩) n.toNat n.toNat]) (H.size+1) H.size (List.replicate n.toNat ⟨0,0,0⟩):=by
  refine⟨?_,?_,by omega⟩
  ·rw[aoY]
   exact be (by simp only[aq])
  ·rw[bL (by simp only[aq];omega),aD]
 generalize (H.new 285 (flatK (List.replicate n.toNat ⟨0,0,0⟩))).new 283 [.slice (some ⟨H.size,0,none⟩) n.toNat n.toNat]=H1 at*
 have ow:=t0.own
 rw[aoY]at ow
 refine aS.intro (fun m env H'=>∃j:Nat,m=n.toNat - j∧j≤n.toNat∧ag (fun z=>z=H.size) H1 H'∧bJ H' (H.size+1) H.size (List.replicate j jd++List.replicate (n.toNat - j) ⟨0,0,0⟩)∧
  env=[(4,ptr (H.size+1)),(20,i64 (n.toNat:Nat)),(21,i64 j)]) n.toNat ⟨0,by omega,by omega,ag.refl _ _,t0,rfl⟩ ?_
 rintro m env H2 ⟨j,rfl,hj,e2,t2,rfl⟩
 have jx:=im (List.replicate j jd++List.replicate (n.toNat - j) (⟨0,0,0⟩:Lk))
 have sE:(List.replicate j jd++List.replicate (n.toNat - j) (⟨0,0,0⟩:Lk)).length=n.toNat:=by simp;omega
 have o2:=t2.own
 rw[sE]at jx o2
 refine vs ?_
 refine ai.dec (fun aK=>?_) (fun aK=>?_)<;>refine vs ?_
 ·first|refine v1 (ae o2) ?_|skip
  refine⟨by omega,?_⟩
  refine v3 t2.kK aor Int.toNat_natCast ?_
  refine⟨by omega,?_⟩
  have e3:=IV (L:=List.replicate j jd++List.replicate (n.toNat - j) (⟨0,0,0⟩:Lk)) (i:=j) (by omega) jd
  have e4:(List.replicate j jd++List.replicate (n.toNat - j) (⟨0,0,0⟩:Lk)).set j jd=List.replicate (j+1) jd++List.replicate (n.toNat - (j+1)) (⟨0,0,0⟩:Lk):=by
   rw[apS _ _ (by simp),aoY,apq,show n.toNat - j=(n.toNat - (j+1))+1 by omega,aoZ,apM,apv]
   simp
  rw[e4]at e3
  have t3:=t2.put (L':=List.replicate (j+1) jd++List.replicate (n.toNat - (j+1)) (⟨0,0,0⟩:Lk)) (by simp;omega)
  have e5:ag (fun z=>z=H.size) H1 (H2.wr H.size (flatK (List.replicate (j+1) jd++List.replicate (n.toNat - (j+1)) (⟨0,0,0⟩:Lk)))):=e2.wr (fun _=>rfl) _
  rw[show aY (flatK (List.replicate j jd++List.replicate (n.toNat - j) (⟨0,0,0⟩:Lk))) (j*3) (aF (Value.agg #[Value.int .i64 (-1),Value.int .i64 (-1),Value.int .i64 (-1)]))=_ from e3]
  refine vs ?_
  rw[wrap64 (n:=(j:Int)+1) (by omega) (by omega)]
  exact⟨n.toNat - (j+1),by omega,j+1,rfl,by omega,e5,t3,rfl⟩
 ·have gf:j=n.toNat:=by omega
  subst gf
  rw[apq,apQ,ao3]at t2
  exact⟨_,_,rfl,t2,f0.then e2 (fun z hz=>by omega),by omega,by omega⟩
end Go.Proofs.YthpjfeolagohkaaGreat

namespace Go.Proofs.YthpjfeolagohkaaGreat
open Go Go.Vc
structure LB where
 n:Nat
 c:Nat
 t:Nat
 tl:Nat
 rk:Nat
 tp:Nat
structure cV(H:Hp)(B:LB)(C:Nat→Prop)(w:Nw)(L:List Lk)(rs tops:List Int):Prop where
 own:∃tv,H.own B.n=some [ptr B.c,ptr B.t,.slice (some ⟨B.rk,0,none⟩) rs.length rs.length,tv]∧Sl H 1 tv tops.length (tops.map i64) (some B.tp)
 cells:CQ H B.c C w
 bR:bJ H B.t B.tl L
 CV:H.own B.rk=some (rs.map i64)
 len:L.length=w.cs.length∧rs.length=w.cs.length
 nN:(B.n≠B.t∧B.n≠B.tl∧B.n≠B.rk∧B.n≠B.tp)∧(B.t≠B.tl∧B.t≠B.rk∧B.t≠B.tp)∧(B.tl≠B.rk∧B.tl≠B.tp)∧B.rk≠B.tp
 out:¬C B.n∧¬C B.t∧¬C B.tl∧¬C B.rk∧¬C B.tp
def LB.S(B:LB)(C:Nat→Prop)(z:Nat):Prop:=C z∨z=B.n∨z=B.t∨z=B.tl∨z=B.rk∨z=B.tp
section
variable {H H' : Hp} {B : LB} {C T : Nat → Prop} {w w' : Nw} {L L' : List Lk} {rs tops : List Int}
theorem cV.slt(h:cV H B C w L rs tops):∀z,B.S C z→z<H.size:=by
 obtain⟨tv,h1,h2⟩:=h.own
 rintro z (hz|rfl|rfl|rfl|rfl|rfl)
 ·exact h.cells.slt z hz
 ·exact aB h1
 ·exact aB h.bR.own
 ·exact aB h.bR.kK
 ·exact aB h.CV
 ·exact h2.lt
theorem cV.ext(h:cV H B C w L rs tops)(e:ag T H H')(hd:∀z,B.S C z→¬T z):cV H' B C w L rs tops:=by
 obtain⟨tv,h1,h2⟩:=h.own
 exact⟨⟨tv,e.own h1 (hd _ (.inr (.inl rfl))),h2.ext e (fun b hb=>by injection hb with hb;exact hb▸hd _ (.inr (.inr (.inr (.inr (.inr rfl))))))⟩,h.cells.ext e (fun x hx=>hd x (.inl hx)),
  h.bR.ext e (hd _ (.inr (.inr (.inl rfl)))) (hd _ (.inr (.inr (.inr (.inl rfl))))),e.own h.CV (hd _ (.inr (.inr (.inr (.inr (.inl rfl)))))),h.len,h.nN,h.out⟩
theorem cV.fresh(h:cV H B C w L rs tops)(e:am H H'):cV H' B C w L rs tops:=h.ext e fun _ _ h=>h
theorem cV.aH(h:cV H B C w L rs tops)(c1:CQ H' B.c C w')(e:ag C H H')(hl:w'.cs.length=w.cs.length):cV H' B C w' L rs tops:=by
 obtain⟨tv,h1,h2⟩:=h.own
 obtain⟨o1,o2,o3,o4,o5⟩:=h.out
 exact⟨⟨tv,e.own h1 o1,h2.ext e (fun b hb=>by injection hb with hb;exact hb▸o5)⟩,c1,h.bR.ext e o2 o3,e.own h.CV o4,by rw[hl];exact h.len,h.nN,h.out⟩
theorem cV.dH(h:cV H B C w L rs tops)(t1:bJ H' B.t B.tl L')(e:ag (fun z=>z=B.tl) H H')(hl:L'.length=L.length):cV H' B C w L' rs tops:=by
 obtain⟨tv,h1,h2⟩:=h.own
 obtain⟨o1,o2,o3,o4,o5⟩:=h.out
 obtain⟨⟨d1,d2,d3,d4⟩,⟨d5,d6,d7⟩,⟨d8,d9⟩,d10⟩:=h.nN
 exact⟨⟨tv,e.own h1 d2,h2.ext e (fun b hb=>by injection hb with hb;omega)⟩,h.cells.ext e (fun x hx hz=>o3 (hz▸hx)),t1,e.own h.CV (by omega),by rw[hl];exact h.len,h.nN,h.out⟩
theorem cV.NQ(h:cV H B C w L rs tops)(i:Nat)(v:Int):cV (H.wr B.rk ((rs.map i64).set i (i64 v))) B C w L (rs.set i v) tops∧ag (fun z=>z=B.rk) H (H.wr B.rk ((rs.map i64).set i (i64 v))):=by
 obtain⟨tv,h1,h2⟩:=h.own
 obtain⟨o1,o2,o3,o4,o5⟩:=h.out
 obtain⟨⟨d1,d2,d3,d4⟩,⟨d5,d6,d7⟩,⟨d8,d9⟩,d10⟩:=h.nN
 have e:ag (fun z=>z=B.rk) H (H.wr B.rk ((rs.map i64).set i (i64 v))):=(ag.refl (fun z=>z=B.rk) _).wr (fun _=>rfl) _
 refine⟨⟨⟨tv,by rw[aot];exact e.own h1 d3,h2.ext e (fun b hb=>by injection hb with hb;omega)⟩,h.cells.ext e (fun x hx hz=>o4 (hz▸hx)),h.bR.ext e (by omega) (by omega),?_,by rw[aot];exact h.len,h.nN,h.out⟩,e⟩
 rw[ao9]
 exact ah h.CV
theorem cV.fR(h:cV H B C w L rs tops):∃c l,H.own B.n=some [ptr B.c,ptr B.t,.slice (some ⟨B.rk,0,none⟩) rs.length rs.length,.slice (some ⟨B.tp,0,none⟩) tops.length c]∧H.own B.tp=some l∧tops.length≤c∧c≤l.length∧l.take tops.length=tops.map i64:=by
 obtain⟨tv,h1,_,l,c,rfl,h3,h4,h5,h6⟩:=h.own
 rw[aos]at h5 h6
 exact⟨c,l,h1,h3,h4,h5,h6⟩
theorem cV.eR(h:cV H B C w L rs tops){l:List Value}(hl:H.own B.tp=some l){i:Nat}{x:Int}(hx:tops[i]? =some x):l[i]? =some (i64 x):=by
 obtain⟨c,l',_,h2,_,_,h5⟩:=h.fR
 rw[hl]at h2
 injection h2 with h2
 subst h2
 have h7:(tops.map i64)[i]? =some (i64 x):=by rw[aoG,hx];rfl
 rw[←h5,aoU]at h7
 split at h7
 ·exact h7
 ·cases h7
theorem cV.kL(h:cV H B C w L rs tops){l:List Value}(hl:H.own B.tp=some l)(i:Nat)(v:Int):cV (H.wr B.tp (l.set i (i64 v))) B C w L rs (tops.set i v)∧ag (fun z=>z=B.tp) H (H.wr B.tp (l.set i (i64 v))):=by
 obtain⟨c,l',h1,h2,h3,h4,h5⟩:=h.fR
 rw[hl]at h2
 injection h2 with h2
 subst h2
 obtain⟨o1,o2,o3,o4,o5⟩:=h.out
 obtain⟨⟨d1,d2,d3,d4⟩,⟨d5,d6,d7⟩,⟨d8,d9⟩,d10⟩:=h.nN
 have e:ag (fun z=>z=B.tp) H (H.wr B.tp (l.set i (i64 v))):=(ag.refl (fun z=>z=B.tp) _).wr (fun _=>rfl) _
 refine⟨⟨⟨_,e.own h1 d4,?_⟩,h.cells.ext e (fun x hx hz=>o5 (hz▸hx)),h.bR.ext e (by omega) (by omega),e.own h.CV (by omega),h.len,h.nN,h.out⟩,e⟩
 refine⟨by simp,l.set i (i64 v),c,by rw[aot],ah hl,by rw[aot];exact h3,by rw[aot,aos];exact h4,?_⟩
 rw[aot,aos,mB,h5,ao9]
theorem cz(H:Hp)(x:Int):∀ (a:Int) (b:Bool),gg x= .tuple [i64 a,.bool b].toArray→af Tryz.prog Hs [i64 a,.bool b] H fun v H'=>ar (v=i64 x∧H'=H):=by
 intro a b he
 unfold gg at he
 refine aZ HE ?_
 refine vs ?_
 have h2:∀ {p q:Int} {r s:Bool},Value.tuple [i64 p,Value.bool r].toArray=Value.tuple [i64 q,Value.bool s].toArray→p=q∧r=s:=fun h=>by
  have h3:=aoD Array.toList (Value.tuple.inj h)
  injection h3 with h4 h5
  injection h4 with _ h4
  injection h5 with h5 _
  injection h5 with h5
  exact⟨h4,h5⟩
 split at he
 ·rename_i hx
  obtain⟨rfl,rfl⟩:=h2 he
  refine vs ?_
  rw[hx]
  exact⟨rfl,rfl⟩
 ·obtain⟨rfl,rfl⟩:=h2 he
  refine vs ?_
  exact⟨rfl,rfl⟩
theorem cJ(x:Int):∃ (a:Int) (b:Bool),gg x= .tuple [i64 a,.bool b].toArray:=by
 unfold gg
 split
 ·exact⟨_,_,rfl⟩
 ·exact⟨_,_,rfl⟩
def ZF(rs:List Int)(x:Int):Int:=if x= -1 then 0 else rs.getD x.toNat 0
theorem ee(h:cV H B C w L rs tops){x:Int}(hx:x≠ -1→0≤x∧x<w.cs.length):af Tryz.prog sR [ptr B.n,i64 x] H fun v H'=>ar (v=i64 (ZF rs x)∧H'=H):=by
 obtain⟨tv,h1,h2⟩:=h.own
 have hl:=h.len
 refine aZ tm ?_
 refine vs ?_
 refine ai.dec (fun g=>?_) (fun g=>?_)<;>refine vs ?_
 ·unfold ZF
  rw[if_pos g]
  exact⟨rfl,rfl⟩
 have hx:=hx g
 have hr:(rs.map i64)[x.toNat]? =some (i64 (ZF rs x)):=by
  unfold ZF
  rw[if_neg g,aoG,aou,aop (by omega)]
  rfl
 refine v1 (ae h1) ?_
 refine⟨⟨by omega,by omega⟩,?_⟩
 refine v4 (ae h.CV) aor aos hr ?_
 exact⟨rfl,rfl⟩
theorem gm(h:cV H B C w L rs tops){x:Int}(hx:0≤x∧x<w.cs.length)(hk:∀c,aX L x c≠ -1→0≤aX L x c∧aX L x c<w.cs.length):
  af Tryz.prog sQ [ptr B.n,i64 x] H fun v H'=>ar (∃L' UR,cV H' B C w L' UR tops∧(aX L'=aX L∨aX L'=mV (aX L) x)∧bh L'=bh L∧ag (fun z=>z=B.tl∨z=B.rk) H H'):=by
 obtain⟨tv,h1,h2⟩:=h.own
 have hl:=h.len
 refine aZ tj ?_
 refine v1 (ae h1) ?_
 obtain⟨a1,b1,e1⟩:=cJ (aX L x false)
 obtain⟨a2,b2,e2⟩:=cJ (aX L x true)
 refine⟨.tuple [i64 a1,.bool b1].toArray,(lm h.bR x).mono (by rintro v H' ⟨rfl,rfl⟩;exact⟨e1,rfl⟩),?_⟩
 refine vs ?_
 refine⟨_,cz H _ a1 b1 e1,?_⟩
 refine v1 (ae h1) ?_
 refine(cr h.bR x).mono ?_
 rintro _ H' ⟨rfl,e⟩
 obtain rfl:=e.symm
 rw[e2]
 refine vs ?_
 refine(cz H _ a2 b2 e2).mono ?_
 rintro _ H' ⟨rfl,e⟩
 obtain rfl:=e.symm
 refine vs ?_
 refine(ee h (hk false)).mono ?_
 rintro _ H' ⟨rfl,e⟩
 obtain rfl:=e.symm
 refine vs ?_
 refine(ee h (hk true)).mono ?_
 rintro _ H' ⟨rfl,e⟩
 obtain rfl:=e.symm
 refine vs ?_
 refine ai.dec (fun g=>?_) (fun g=>?_)<;>refine vs ?_
 ·refine v1 (ae h1) ?_
  refine(ln h.bR (p:=x) (by omega)).mono ?_
  rintro _ H1 ⟨rfl,L1,t1,l1,k1,u1,e1⟩
  have m1:=h.dH t1 e1 l1
  obtain⟨CW,o1,_⟩:=m1.own
  refine v1 (ae o1) ?_
  refine⟨_,ee m1 (hk false),?_⟩
  refine vs ?_
  refine⟨⟨by omega,by omega⟩,?_⟩
  refine v3 m1.CV aor aos ?_
  refine⟨by rw[aoA];omega,?_⟩
  obtain⟨m2,e2⟩:=m1.NQ x.toNat (IntKind.i64.wrap (ZF rs (aX L x false)+1))
  refine vs ?_
  exact⟨L1,_,m2,.inr k1,u1,(e1.mono fun z _ hz=>.inl hz).trans (e2.mono fun z _ hz=>.inr hz)⟩
 ·refine v1 (ae h1) ?_
  refine⟨_,ee h (hk true),?_⟩
  refine vs ?_
  refine⟨⟨by omega,by omega⟩,?_⟩
  refine v3 h.CV aor aos ?_
  refine⟨by rw[aoA];omega,?_⟩
  obtain⟨m2,e2⟩:=h.NQ x.toNat (IntKind.i64.wrap (ZF rs (aX L x true)+1))
  refine vs ?_
  exact⟨L,_,m2,.inl rfl,rfl,e2.mono fun z _ hz=>.inr hz⟩
abbrev Ba(w:Nw)(L:List Lk):Prop:=Bt (aE w) (aN w) (aX L) (bh L)
theorem Ba.qz{w:Nw}{L:List Lk}(h:Ba w L){x:Int}{c:Bool}(hk:aX L x c≠ -1):0≤aX L x c∧aX L x c<w.cs.length:=by
 obtain⟨_,_,h1,h2,_⟩:=Bt.home h hk
 obtain⟨a,b,_⟩:=aC (w:=w) (x:=aX L x c) (by omega)
 omega
theorem Ba.up{w:Nw}{L:List Lk}(h:Ba w L){x:Int}(hu:bh L x≠ -1):0≤bh L x∧bh L x<w.cs.length∧aN w (bh L x) x=true∧aE w (bh L x)=aE w x:=by
 obtain⟨_,_,h1,h2,h3⟩:=h.uk x _ rfl hu
 obtain⟨a,b,_⟩:=aC (w:=w) (x:=bh L x) (by omega)
 exact⟨by omega,by omega,h3,h1⟩
theorem iU(h:cV H B C w L rs tops)(hb:Ba w L){x:Int}(hx:x≠ -1→0<aE w x):
  af Tryz.prog vW [ptr B.n,i64 x] H fun v H'=>ar (∃L' UR,cV H' B C w L' UR tops∧Ba w L'∧bh L'=bh L∧ag (fun z=>z=B.tl∨z=B.rk) H H'):=by
 refine aZ wQ ?_
 refine vs ?_
 refine aS.intro (fun m env H'=>∃ (x:Int) (L':List Lk) (UR:List Int),m=(if x= -1 then 0 else ND (aN w) w.cs.length x+1)∧(x≠ -1→0<aE w x)∧cV H' B C w L' UR tops∧Ba w L'∧bh L'=bh L∧ag (fun z=>z=B.tl∨z=B.rk) H H'∧
  env=[(0,ptr B.n),(1,i64 x)]) _ ⟨x,L,rs,rfl,hx,h,hb,rfl,ag.refl _ _,rfl⟩ ?_
 rintro m env H1 ⟨y,L1,rs1,rfl,hy,m1,b1,u1,e1,rfl⟩
 refine vs ?_
 refine ai.dec (fun g=>?_) (fun g=>?_)<;>refine vs ?_
 ·exact⟨L1,rs1,m1,b1,u1,e1⟩
 obtain⟨y0,y1,_⟩:=aC (hy g)
 obtain⟨tv,o1,_⟩:=m1.own
 have rQ:=m1.len
 obtain⟨r,hr⟩:∃r,(rs1.map i64)[y.toNat]? =some (i64 r):=⟨rs1[y.toNat]'(by omega),by rw[aoG,aop (by omega)];rfl⟩
 refine v1 (ae o1) ?_
 refine⟨⟨by omega,by omega⟩,?_⟩
 refine v4 (ae m1.CV) aor aos hr ?_
 refine(gm m1 ⟨y0,y1⟩ (fun c hk=>b1.qz hk)).mono ?_
 rintro v2 H2 ⟨L2,ZG,m2,k2,u2,e2⟩
 have b2:Ba w L2:=by
  rcases k2 with k2|k2
  ·show Bt _ _ _ _
   rw[k2,u2];exact b1
  ·show Bt _ _ _ _
   rw[k2,u2];exact Bt.wW b1 y
 obtain⟨NR,o2,_⟩:=m2.own
 have sE:=m2.len
 have oZ:=e1.trans e2
 obtain⟨r2,zx⟩:∃r,(ZG.map i64)[y.toNat]? =some (i64 r):=⟨ZG[y.toNat]'(by omega),by rw[aoG,aop (by omega)];rfl⟩
 refine v1 (ae o2) ?_
 refine⟨⟨by omega,by omega⟩,?_⟩
 refine v4 (ae m2.CV) aor aos zx ?_
 refine ai.dec (fun g2=>?_) (fun g2=>?_)<;>refine vs ?_
 ·exact⟨L2,ZG,m2,b2,u2.trans u1,oZ⟩
 refine v1 (ae o2) ?_
 refine(oO m2.bR y).mono ?_
 rintro _ H' ⟨rfl,e⟩
 obtain rfl:=e.symm
 obtain⟨a1,c1,ea⟩:=cJ (bh L2 y)
 rw[ea]
 refine vs ?_
 refine(cz H2 _ a1 c1 ea).mono ?_
 rintro _ H' ⟨rfl,e⟩
 obtain rfl:=e.symm
 refine vs ?_
 refine⟨_,?_,bh L2 y,L2,ZG,rfl,fun hu=>?_,m2,b2,u2.trans u1,oZ,rfl⟩
 ·rw[if_neg g]
  split
  ·omega
  ·rename_i hu
   have:=b2.up hu
   have:=EY (ap w) (n:=w.cs.length) (p:=bh L2 y) (x:=y) (by omega) this.2.2.1
   omega
 ·have:=b2.up hu
  rw[this.2.2.2]
  exact hy g
end
end Go.Proofs.YthpjfeolagohkaaGreat

namespace Go.Proofs.YthpjfeolagohkaaGreat
open Go Go.Vc
theorem Sl.shape{H:Hp}{w:Value}{n:Nat}{xs:List Value}{fp:Option Nat}(h:Sl H 1 w n xs fp):∃a c,w= .slice a n c:=by
 obtain⟨h1,h2⟩:=h
 cases fp with
 |none=>obtain⟨rfl,rfl⟩:=h2;exact⟨none,0,rfl⟩
 |some b=>obtain⟨l,c,rfl,_⟩:=h2;exact⟨_,c,rfl⟩
theorem Sl.zg{H:Hp}{a:Option Addr}{n c:Nat}{xs:List Int}{fp:Option Nat}(h:Sl H 1 (.slice a n c) n (xs.map i64) fp){i:Nat}{x:Int}(hx:xs[i]? =some x):
  i<n∧∃b lb,a=some ⟨b,0,none⟩∧H.own b=some lb∧lb[i]? =some (i64 x):=by
 cases fp with
 |none=>
  have h1:=h.1
  have h2:=h.2.1
  have:=(aoq.1 hx).1
  rw[aoA]at h1
  omega
 |some b=>
  obtain⟨h1,h2,lb,h3,h4⟩:=Sl.num h hx
  exact⟨h1,b,lb,h2,h3,h4⟩
section
variable {H : Hp} {B : LB} {C : Nat → Prop} {w : Nw} {L : List Lk} {rs tops : List Int}
theorem gT(h:cV H B C w L rs tops){g a0 b0:Int}{R:Int→Prop}(m:Mg (aE w) (aN w) g R (aX L) (bh L) [] a0 b0):
  af Tryz.prog ua [ptr B.n,i64 a0,i64 b0] H fun v H'=>ar (∃r L' UR,v=i64 r∧cV H' B C w L' UR tops∧Mg (aE w) (aN w) g R (aX L') (bh L') [] r (-1)∧
   (∀x0,wX (aN w) (aX L) (bh L) x0 (aX L) (bh L) [] a0 b0→wX (aN w) (aX L) (bh L) x0 (aX L') (bh L') [] r (-1))∧ag (fun z=>C z∨z=B.tl∨z=B.rk) H H'):=by
 refine aZ uq ?_
 refine vs ?_
 have wY:=h.cells.Er
 refine aS.intro (fun mm env H'=>∃ (a b:Int) (dN:List Int) (wv:Value) (fp:Option Nat) (L':List Lk),mm=w.cs.length - dN.length∧cV H' B C w L' rs tops∧Mg (aE w) (aN w) g R (aX L') (bh L') dN a b∧
  (∀x0,wX (aN w) (aX L) (bh L) x0 (aX L) (bh L) [] a0 b0→wX (aN w) (aX L) (bh L) x0 (aX L') (bh L') dN a b)∧
  (∀z,fp=some z→H.size≤z)∧Sl H' 1 wv dN.length (dN.map i64) fp∧ag (fun z=>C z∨z=B.tl∨z=B.rk∨H.size≤z) H H'∧
  env=[(0,ptr B.n),(1,i64 a),(2,i64 b),(7,wv)]) _ ⟨a0,b0,[],_,none,L,rfl,h,m,(fun _ h=>h),(fun z h=>by cases h),Sl.nil _ _,ag.refl _ _,rfl⟩ ?_
 rintro mm env H1 ⟨a,b,dN,wv,fp,L1,rfl,l1,m1,f1,fU,s1,e1,rfl⟩
 have z1:=e1.size
 clear m
 refine vs ?_
 refine ai.dec (fun ga=>?A) (fun ga=>?_)<;>refine vs ?_
 rotate_left
 refine ai.dec (fun gb=>?B) (fun gb=>?_)<;>refine vs ?_
 rotate_left
 ·obtain⟨CW,o1,_⟩:=l1.own
  refine v1 (ae o1) ?_
  refine(cE l1.cells b a).mono ?_
  rintro _ H2 ⟨rfl,c2,e2⟩
  have l2:=l1.aH c2 e2 rfl
  have s2:=s1.ext e2 (fun z hz dP=>by have:=fU z hz;have:=h.slt z (.inl dP);omega)
  have z2:=e2.size
  have ha:=m1.wa.resolve_left ga
  have hb:=m1.wb.resolve_left gb
  have BP:=gD (w:=w) (a:=b) (b:=a) (by rw[hb.1];exact m1.pos) (by rw[ha.1];exact m1.pos)
  have aQ:a≠b:=fun e=>ga (m1.ab e)
  rw[BP]
  cases aK:aN w b a
  ·refine vs ?_
   have hl:aN w a b=true:=((ap w).OQ a b aQ).resolve_right (by rw[aK];simp)
   have mm:Mg (aE w) (aN w) g R (aX L1) (bh L1) dN a b:=m1
   have Qq:0<aE w a:=by rw[(mm.wa.resolve_left ga).1];exact mm.pos
   obtain⟨p0,p1,_⟩:=aC Qq
   have m3:=mm.Sg (ap w) ga gb hl
   have wl:(dN++[a]).length≤w.cs.length:=bU (m3.nodup (ap w)) fun x hx=>by
    have DG:=(m3.wy x hx).2.1
    have tJ:=m3.pos
    obtain⟨x0,x1,_⟩:=aC (w:=w) (x:=x) (by omega)
    exact⟨x0,x1⟩
   rw[aoy,aoV]at wl
   refine AZ (B:=H.size) fU (by omega) s2 a (by omega) fun w' H3 dT iN s3 e3=>?_
   refine vs ?_
   have l3:=l2.ext e3 (fun z hz dP=>by have:=h.slt z hz;omega)
   obtain⟨XC,o3,_⟩:=l3.own
   refine v1 (ae o3) ?_
   refine(cr l3.bR a).mono ?_
   rintro _ H' ⟨rfl,e⟩
   obtain rfl:=e.symm
   obtain⟨k1,k2,ek⟩:=cJ (aX L1 a true)
   rw[ek]
   refine vs ?_
   refine(cz H3 _ k1 k2 ek).mono ?_
   rintro _ H' ⟨rfl,e⟩
   obtain rfl:=e.symm
   refine v1 (ae o3) ?_
   refine(cI l3.bR (x:=aX L1 a true) (fun hu=>by have:=Ba.up mm.bt hu;rw[l3.len.1];omega)).mono ?_
   rintro _ H4 ⟨rfl,L4,t4,XZ,Wg,Wh,e4⟩
   have l4:=l3.dH t4 e4 XZ
   have s4:=s3.ext e4 (fun z hz dP=>by have:=iN z hz;have:=h.slt B.tl (.inr (.inr (.inr (.inl rfl))));omega)
   obtain⟨k3,k4,ek2⟩:=cJ (bh L1 (aX L1 a true))
   rw[ek2]
   refine vs ?_
   refine⟨w.cs.length - (dN.length+1),by omega,aX L1 a true,b,dN++[a],w',dT,L4,by simp,l4,?_,?_,iN,s4,((e1.trans (e2.mono fun z _ hz=>.inl hz)).trans (e3.mono fun z _ hz=>.inr (.inr (.inr hz)))).trans (e4.mono fun z _ hz=>.inr (.inl hz)),rfl⟩
   ·rw[Wg,Wh]
    exact m3
   ·rw[Wg,Wh]
    exact fun x0 h0=>(f1 x0 h0).down (ap w) m1.bt ga
  ·refine vs ?_
   have hl:aN w b a=true:=aK
   have mm:Mg (aE w) (aN w) g R (aX L1) (bh L1) dN b a:=m1.swap
   have Qq:0<aE w b:=by rw[(mm.wa.resolve_left gb).1];exact mm.pos
   obtain⟨p0,p1,_⟩:=aC Qq
   have m3:=mm.Sg (ap w) gb ga hl
   have wl:(dN++[b]).length≤w.cs.length:=bU (m3.nodup (ap w)) fun x hx=>by
    have DG:=(m3.wy x hx).2.1
    have tJ:=m3.pos
    obtain⟨x0,x1,_⟩:=aC (w:=w) (x:=x) (by omega)
    exact⟨x0,x1⟩
   rw[aoy,aoV]at wl
   refine AZ (B:=H.size) fU (by omega) s2 b (by omega) fun w' H3 dT iN s3 e3=>?_
   refine vs ?_
   have l3:=l2.ext e3 (fun z hz dP=>by have:=h.slt z hz;omega)
   obtain⟨XC,o3,_⟩:=l3.own
   refine v1 (ae o3) ?_
   refine(cr l3.bR b).mono ?_
   rintro _ H' ⟨rfl,e⟩
   obtain rfl:=e.symm
   obtain⟨k1,k2,ek⟩:=cJ (aX L1 b true)
   rw[ek]
   refine vs ?_
   refine(cz H3 _ k1 k2 ek).mono ?_
   rintro _ H' ⟨rfl,e⟩
   obtain rfl:=e.symm
   refine v1 (ae o3) ?_
   refine(cI l3.bR (x:=aX L1 b true) (fun hu=>by have:=Ba.up mm.bt hu;rw[l3.len.1];omega)).mono ?_
   rintro _ H4 ⟨rfl,L4,t4,XZ,Wg,Wh,e4⟩
   have l4:=l3.dH t4 e4 XZ
   have s4:=s3.ext e4 (fun z hz dP=>by have:=iN z hz;have:=h.slt B.tl (.inr (.inr (.inr (.inl rfl))));omega)
   obtain⟨k3,k4,ek2⟩:=cJ (bh L1 (aX L1 b true))
   rw[ek2]
   refine vs ?_
   refine⟨w.cs.length - (dN.length+1),by omega,aX L1 b true,a,dN++[b],w',dT,L4,by simp,l4,?_,?_,iN,s4,((e1.trans (e2.mono fun z _ hz=>.inl hz)).trans (e3.mono fun z _ hz=>.inr (.inr (.inr hz)))).trans (e4.mono fun z _ hz=>.inr (.inl hz)),rfl⟩
   ·rw[Wg,Wh]
    exact m3
   ·rw[Wg,Wh]
    exact fun x0 h0=>(f1 x0 h0).swap.down (ap w) m1.bt gb
 case' A=>
  have m2:Mg (aE w) (aN w) g R (aX L1) (bh L1) dN b (-1):=ga▸m1.swap
  have f2:=fun x0 (h0:wX (aN w) (aX L) (bh L) x0 (aX L) (bh L) [] a0 b0)=>(f1 x0 h0).swap
  rw[ga]at f2
  generalize hr:b=r at m2 f2
  refine ai.bI (by simpa using ga) ?_
 case' B=>
  have m2:Mg (aE w) (aN w) g R (aX L1) (bh L1) dN a (-1):=gb▸m1
  have f2:=f1
  rw[gb]at f2
  generalize hr:a=r at m2 f2
  refine ai.dec (fun h=>absurd (hr.trans h) ga) (fun _=>?_)
 all_goals
  refine vs ?_
  obtain⟨wa,wc,rfl⟩:=Sl.shape s1
  refine vs ?_
  have wl:dN.length≤w.cs.length:=bU (m2.nodup (ap w)) fun x hx=>by
   have DG:=(m2.wy x hx).2.1
   have tJ:=m2.pos
   obtain⟨x0,x1,_⟩:=aC (w:=w) (x:=x) (by omega)
   exact⟨x0,x1⟩
  refine aS.intro (fun mm env H'=>∃ (i:Nat) (r:Int) (L':List Lk) (UR:List Int),mm=i∧i≤dN.length∧cV H' B C w L' UR tops∧Mg (aE w) (aN w) g R (aX L') (bh L') (dN.take i) r (-1)∧
   (∀x0,wX (aN w) (aX L) (bh L) x0 (aX L) (bh L) [] a0 b0→wX (aN w) (aX L) (bh L) x0 (aX L') (bh L') (dN.take i) r (-1))∧
   Sl H' 1 (.slice wa dN.length wc) dN.length (dN.map i64) fp∧ag (fun z=>C z∨z=B.tl∨z=B.rk∨H.size≤z) H H'∧
   env=[(0,ptr B.n),(7,.slice wa dN.length wc),(9,i64 r),(10,i64 ((i:Int) - 1))]) _ ⟨dN.length,r,L1,rs,rfl,aoB _,l1,by rw[aoQ];exact m2,by rw[aoQ];exact f2,s1,e1,?_⟩ ?_
  ·rw[wrap64 (by omega) (by omega)]
  rintro mm env H2 ⟨i,r2,L2,ZG,hmi,hi,l2,m3,f3,s2,e2,rfl⟩
  obtain rfl:=hmi.symm
  refine vs ?_
  refine ai.dec (fun gi=>?_) (fun gi=>?_)<;>refine vs ?_
  rotate_left
  ·obtain rfl:i=0:=by omega
   exact⟨r2,L2,ZG,rfl,l2,by simpa using m3,by simpa using f3,e2.mono fun z hz h=>h.elim .inl fun h=>.inr (by omega)⟩
  obtain⟨j,rfl⟩:∃j,i=j+1:=⟨i - 1,by omega⟩
  obtain⟨v,hv⟩:∃v,dN[j]? =some v:=⟨_,aop (by omega)⟩
  have tk:dN.take (j+1)=dN.take j++[v]:=by rw[aoM,hv];rfl
  rw[tk]at m3 f3
  have m4:=m3.back (ap w)
  have f4:=fun x0 h0=>(f3 x0 h0).back
  obtain⟨v1,v2,v3,v4,v5,v6⟩:=m3.wy v (by simp)
  obtain⟨q1,vb,lb,rfl,q2,q3⟩:=Sl.zg s2 hv
  have hvb:∃b',fp=some b'∧b'=vb:=by
   cases fp with
   |none=>have:=s2.2.2;injection this with h1;cases h1
   |some b'=>obtain⟨_,_,h1,_⟩:=s2.2;injection h1 with h1;injection h1 with h1;injection h1 with h1;exact⟨b',rfl,h1.symm⟩
  obtain⟨b',rfl,rfl⟩:=hvb
  have hvb:=fU b' rfl
  have Wi:0<aE w v:=by rw[v2];exact m3.pos
  obtain⟨X0,vv1,_⟩:=aC Wi
  have ji:((((j+1:Nat):Int) - 1)).toNat=j:=by omega
  obtain⟨NR,o2,_⟩:=l2.own
  refine ai.dec (fun gr=>?_) (fun gr=>?_)<;>refine vs ?_
  ·rw[if_pos gr,if_pos gr]at m4
   simp only[if_pos gr]at f4
   have f5:=f4
   have l3:=l2
   have m5:=m4
   have o3b:=q2
   have s3:=s2
   have e3:=e2
   refine⟨⟨by omega,by omega⟩,?_⟩
   simp(disch:=(first|omega| (simp only[Zs]<;>omega)|fail)) only[go_sem, ↓reduceIte,Zv,ae o3b,aor,aos,ji,q3]
   refine(gm l3 ⟨X0,vv1⟩ (fun c hk=>Ba.qz m5.bt hk)).mono ?_
   rintro _ H4 ⟨L4,Wj,l4,k4,u4,e4⟩
   refine vs ?_
   refine⟨j,by omega,j,v,L4,Wj,rfl,by omega,l4,?_,?_,s3.ext e4 (fun z hz dP=>by injection hz with hz;have:=h.slt B.tl (.inr (.inr (.inr (.inl rfl))));have:=h.slt B.rk (.inr (.inr (.inr (.inr (.inl rfl)))));omega),e3.trans (e4.mono fun z _ hz=>.inr (hz.elim .inl fun h=>.inr (.inl h))),?_⟩
   ·rcases k4 with k4|k4
    ·rw[k4,u4];exact m5
    ·rw[k4,u4];exact m5.wW (ap w)
   ·rcases k4 with k4|k4
    ·rw[k4,u4];exact f5
    ·rw[k4,u4];exact fun x0 h0=>(f5 x0 h0).wW v1
   ·rw[show((j+1:Nat):Int) - 1 - 1=(j:Int) - 1 by omega,wrap64 (by omega) (by omega)]
  ·rw[if_neg gr,if_neg gr]at m4
   simp only[if_neg gr]at f4
   have zx:=m3.wa.resolve_left gr
   obtain⟨r0,r1,_⟩:=aC (w:=w) (x:=r2) (by rw[zx.1];exact m3.pos)
   have aR:=l2.len
   have hvr:v≠r2:=fun e=>by have:=v5 gr;rw[e,(ap w).BT]at this;cases this
   simp(disch:=(first|omega| (simp only[Zs]<;>omega)|fail)) only[go_sem, ↓reduceIte,Zv,ae o2]
   refine⟨⟨by omega,by omega⟩,?_⟩
   simp(disch:=(first|omega| (simp only[Zs]<;>omega)|fail)) only[go_sem, ↓reduceIte,Zv,ae q2,aor,aos,ji,q3]
   refine(eV l2.bR (p:=v) (x:=r2) (c:=true) ⟨X0,by omega⟩ ⟨r0,by omega⟩ hvr zx.2 v4).mono ?_
   rintro _ H3 ⟨rfl,L3,t3,ll3,kk3,uu3,G1⟩
   have l3:=l2.dH t3 G1 ll3
   have m5:Mg (aE w) (aN w) g R (aX L3) (bh L3) (dN.take j) v (-1):=by rw[kk3,uu3];exact m4
   have f5:=f4
   rw[←kk3,←uu3]at f5
   have nb:b'≠B.tl:=fun e=>by have:=h.slt B.tl (.inr (.inr (.inr (.inl rfl))));omega
   have o3b:=G1.own q2 nb
   have s3:=s2.ext G1 (fun z hz dP=>by injection hz with hz;exact nb (hz.trans dP))
   have e3:=e2.trans (G1.mono fun z _ hz=>.inr (.inl hz))
   refine vs ?_
   refine⟨⟨by omega,by omega⟩,?_⟩
   simp(disch:=(first|omega| (simp only[Zs]<;>omega)|fail)) only[go_sem, ↓reduceIte,Zv,ae o3b,aor,aos,ji,q3]
   refine(gm l3 ⟨X0,vv1⟩ (fun c hk=>Ba.qz m5.bt hk)).mono ?_
   rintro _ H4 ⟨L4,Wj,l4,k4,u4,e4⟩
   refine vs ?_
   refine⟨j,by omega,j,v,L4,Wj,rfl,by omega,l4,?_,?_,s3.ext e4 (fun z hz dP=>by injection hz with hz;have:=h.slt B.tl (.inr (.inr (.inr (.inl rfl))));have:=h.slt B.rk (.inr (.inr (.inr (.inr (.inl rfl)))));omega),e3.trans (e4.mono fun z _ hz=>.inr (hz.elim .inl fun h=>.inr (.inl h))),?_⟩
   ·rcases k4 with k4|k4
    ·rw[k4,u4];exact m5
    ·rw[k4,u4];exact m5.wW (ap w)
   ·rcases k4 with k4|k4
    ·rw[k4,u4];exact f5
    ·rw[k4,u4];exact fun x0 h0=>(f5 x0 h0).wW v1
   ·rw[show((j+1:Nat):Int) - 1 - 1=(j:Int) - 1 by omega,wrap64 (by omega) (by omega)]
end
end Go.Proofs.YthpjfeolagohkaaGreat
