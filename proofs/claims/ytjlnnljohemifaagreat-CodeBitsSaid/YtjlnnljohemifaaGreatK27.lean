/- Texts put behind each other. -/
import Derived.Test.YtjlnnljohemifaaGreatK98
import Derived.Test.YtjlnnljohemifaaGreatK2
import Derived.Test.YtjlnnljohemifaaGreatK21
import Derived.Test.YtjlnnljohemifaaGreatK22
import Derived.Test.YtjlnnljohemifaaGreatK24
import Derived.Test.YtjlnnljohemifaaGreatK26
set_option maxRecDepth 100000
set_option maxHeartbeats 8000000
set_option linter.unusedVariables false
set_option linter.unusedSimpArgs false
namespace Go.Proofs.YtjlnnljohemifaaGreat
open Go Go.Vc
structure Lk where
 a:Int
 b:Int
 u:Int
def Ry(y:Lk):List Value:=[i64 y.a,i64 y.b,i64 y.u]
def aN(L:List Lk):List Value:=L.flatMap Ry
theorem iE(L:List Lk):(aN L).length=L.length*3:=by
 induction L with
 |nil=>rfl
 |cons c r ih=>simp only[aN,ao6,anD,Ry,anO,aoH]at*;omega
def Lk.pe(y:Lk)(c:Bool):Int:=if c then y.b else y.a
def Lk.fL(y:Lk)(c:Bool)(v:Int):Lk:=if c then⟨y.a,v,y.u⟩else⟨v,y.b,y.u⟩
theorem Lk.TL(y:Lk)(c d:Bool)(v:Int):(y.fL c v).pe d=if d=c then v else y.pe d:=by cases c<;>cases d<;>rfl
theorem Lk.aas(y:Lk)(c:Bool)(v:Int):(y.fL c v).u=y.u:=by cases c<;>rfl
theorem Oh{L:List Lk}{i:Nat}{y:Lk}(hi:L[i]? =some y):(aN L)[i*3]? =some (i64 y.a)∧(aN L)[i*3+1]? =some (i64 y.b)∧(aN L)[i*3+2]? =some (i64 y.u):=by
 induction L generalizing i with
 |nil=>simp at hi
 |cons a r ih=>
  have e:aN (a::r)=i64 a.a::i64 a.b::i64 a.u::aN r:=rfl
  rw[e]
  cases i with
  |zero=>simp at hi;subst hi;exact⟨rfl,rfl,rfl⟩
  |succ i=>
   have:=ih (by simpa using hi)
   rw[show(i+1)*3=i*3+3 by omega]
   exact this
theorem Wt{L:List Lk}{i:Nat}{y:Lk}(hi:L[i]? =some y)(c:Bool):(aN L)[i*3+c.toNat]? =some (i64 (y.pe c)):=by
 obtain⟨h1,h2,h3⟩:=Oh hi
 cases c
 ·exact h1
 ·exact h2
theorem vq{L:List Lk}{i:Nat}{y:Lk}(hi:L[i]? =some y)(c:Bool)(v:Int):(aN L).set (i*3+c.toNat) (i64 v)=aN (L.set i (y.fL c v)):=by
 induction L generalizing i with
 |nil=>simp at hi
 |cons a r ih=>
  have e:aN (a::r)=i64 a.a::i64 a.b::i64 a.u::aN r:=rfl
  cases i with
  |zero=>
   simp at hi;subst hi
   cases c<;>rfl
  |succ i=>
   have e2:aN ((a::r).set (i+1) (y.fL c v))=i64 a.a::i64 a.b::i64 a.u::aN (r.set i (y.fL c v)):=rfl
   rw[e,e2,show(i+1)*3+c.toNat=i*3+c.toNat+1+1+1 by omega]
   simp only[aoe]
   rw[ih (by simpa using hi)]
theorem FJ{L:List Lk}{i:Nat}{y:Lk}(hi:L[i]? =some y)(v:Int):(aN L).set (i*3+2) (i64 v)=aN (L.set i ⟨y.a,y.b,v⟩):=by
 induction L generalizing i with
 |nil=>simp at hi
 |cons a r ih=>
  have e:aN (a::r)=i64 a.a::i64 a.b::i64 a.u::aN r:=rfl
  cases i with
  |zero=>simp at hi;subst hi;rfl
  |succ i=>
   have e2:aN ((a::r).set (i+1) ⟨y.a,y.b,v⟩)=i64 a.a::i64 a.b::i64 a.u::aN (r.set i ⟨y.a,y.b,v⟩):=rfl
   rw[e,e2,show(i+1)*3+2=i*3+2+1+1+1 by omega]
   simp only[aoe]
   rw[ih (by simpa using hi)]
def aZ(L:List Lk)(x:Int)(c:Bool):Int:=if 0≤x then(match L[x.toNat]? with|some y=>y.pe c|none=> -1)else -1
def bj(L:List Lk)(x:Int):Int:=if 0≤x then(match L[x.toNat]? with|some y=>y.u|none=> -1)else -1
theorem oL{L:List Lk}{x:Int}{y:Lk}(h0:0≤x)(h:L[x.toNat]? =some y)(c:Bool):aZ L x c=y.pe c:=by unfold aZ;rw[if_pos h0,h]
theorem uF{L:List Lk}{x:Int}{y:Lk}(h0:0≤x)(h:L[x.toNat]? =some y):bj L x=y.u:=by unfold bj;rw[if_pos h0,h]
theorem Rz{L:List Lk}{x:Int}(h:¬ (0≤x∧x<L.length))(c:Bool):aZ L x c= -1:=by
 unfold aZ
 split
 ·rw[anK (by omega)]
 ·rfl
theorem M8{L:List Lk}{x:Int}(h:¬ (0≤x∧x<L.length)):bj L x= -1:=by
 unfold bj
 split
 ·rw[anK (by omega)]
 ·rfl
theorem rV{L:List Lk}{p:Int}{y:Lk}(h0:0≤p)(h:L[p.toNat]? =some y)(c:Bool)(v:Int):aZ (L.set p.toNat (y.fL c v))=eo (aZ L) p c v:=by
 have aO:=(anu.1 h).1
 funext z d
 unfold eo
 by_cases hz:z=p
 ·subst hz
  rw[oL h0 (anB aO),Lk.TL,oL h0 h]
  by_cases hd:d=c<;>simp[hd]
 ·rw[if_neg (fun h=>hz h.1)]
  unfold aZ
  split
  ·rw[anA (by omega)]
  ·rfl
theorem rW{L:List Lk}{p:Int}{y:Lk}(h0:0≤p)(h:L[p.toNat]? =some y)(c:Bool)(v:Int):bj (L.set p.toNat (y.fL c v))=bj L:=by
 have aO:=(anu.1 h).1
 funext z
 by_cases hz:z=p
 ·subst hz
  rw[uF h0 (anB aO),Lk.aas,uF h0 h]
 ·unfold bj
  split
  ·rw[anA (by omega)]
  ·rfl
theorem Cu{L:List Lk}{p:Int}{y:Lk}(h0:0≤p)(h:L[p.toNat]? =some y)(v:Int):aZ (L.set p.toNat ⟨y.a,y.b,v⟩)=aZ L:=by
 have aO:=(anu.1 h).1
 funext z d
 by_cases hz:z=p
 ·subst hz
  rw[oL h0 (anB aO),oL h0 h]
  rfl
 ·unfold aZ
  split
  ·rw[anA (by omega)]
  ·rfl
theorem Cv{L:List Lk}{p:Int}{y:Lk}(h0:0≤p)(h:L[p.toNat]? =some y)(v:Int):bj (L.set p.toNat ⟨y.a,y.b,v⟩)=aI (bj L) p v:=by
 have aO:=(anu.1 h).1
 funext z
 unfold aI
 by_cases hz:z=p
 ·subst hz
  rw[uF h0 (anB aO),if_pos rfl]
 ·rw[if_neg hz]
  unfold bj
  split
  ·rw[anA (by omega)]
  ·rfl
structure bO(H:Hp)(t tl:Nat)(L:List Lk):Prop where
 own:H.own t=some [.slice (some ⟨tl,0,none⟩) L.length L.length]
 k9:H.own tl=some (aN L)
 ne:t≠tl
theorem bO.ext{S:Nat→Prop}{H H':Hp}{t tl:Nat}{L:List Lk}(h:bO H t tl L)(e:ag S H H')(h1:¬S t)(h2:¬S tl):bO H' t tl L:=⟨e.own h.own h1,e.own h.k9 h2,h.ne⟩
theorem bO.fresh{H H':Hp}{t tl:Nat}{L:List Lk}(h:bO H t tl L)(e:ai H H'):bO H' t tl L:=h.ext e (fun h=>h) (fun h=>h)
theorem bO.put{H:Hp}{t tl:Nat}{L L':List Lk}(h:bO H t tl L)(hl:L'.length=L.length):bO (H.wr tl (aN L')) t tl L':=
 ⟨by rw[pY h.ne.symm,hl];exact h.own,ah h.k9,h.ne⟩
section
variable {H : Hp} {t tl : Nat} {L : List Lk}
theorem fM(h:bO H t tl L)(x:Int):af Tryz.prog Aj [ptr t,i64 x] H fun v H'=>aw (v= .bool (decide (0≤x∧x<L.length))∧H'=H):=by
 refine bm AJ ?_
 refine vs ?_
 refine am.dec (fun g=>?_) (fun g=>?_)<;>refine v1 (ae h.own) ?_
 ·exact⟨anP Value.bool (by rw[decide_eq_decide];omega),rfl⟩
 ·exact⟨anP Value.bool (anV (by omega)).symm,rfl⟩
theorem lE(H:Hp)(c:Bool):af Tryz.prog Jc [.bool c] H fun v H'=>aw (v=i64 c.toNat∧H'=H):=by
 refine bm Jj ?_
 refine vs ?_
 cases c<;>refine vs ?_<;>exact⟨rfl,rfl⟩
def gv(x:Int):Value:=if x= -1 then .tuple [i64 0,.bool false].toArray else .tuple [i64 x,.bool true].toArray
theorem lF(H:Hp)(x:Int):af Tryz.prog Jd [i64 x] H fun v H'=>aw (v=gv x∧H'=H):=by
 refine bm Jk ?_
 refine vs ?_
 unfold gv
 refine am.dec (fun g=>?_) (fun g=>?_)<;>refine vs ?_
 ·rw[if_pos g];exact⟨rfl,rfl⟩
 ·rw[if_neg g];exact⟨rfl,rfl⟩
theorem jg(h:bO H t tl L)(x:Int)(c:Bool):af Tryz.prog Ai [ptr t,i64 x,.bool c] H fun v H'=>aw (v=i64 (aZ L x c)∧H'=H):=by
 refine bm AI ?_
 refine vs ?_
 refine(fM h x).mono ?_
 rintro _ H' ⟨rfl,e⟩
 obtain rfl:=e.symm
 refine vs ?_
 refine am.dec (fun g=>?_) (fun g=>?_)<;>refine vs ?_
 ·obtain⟨y,hy⟩:∃y,L[x.toNat]? =some y:=⟨_,ans (by omega)⟩
  have hk:=Wt hy c
  have hc:c.toNat<2:=by cases c<;>decide
  refine v1 (ae h.own) ?_
  refine⟨_,lE H c,?_⟩
  refine⟨⟨by omega,by omega⟩,?_⟩
  refine v4 ant Nat.add_zero anw Int.toNat_natCast ?_
  refine⟨⟨by omega,by omega⟩,?_⟩
  refine v6 (ae h.k9) ant Nat.add_zero anw Int.toNat_natCast hk ?_
  rw[oL g.1 hy]
  exact⟨rfl,rfl⟩
 ·rw[Rz g]
  exact⟨rfl,rfl⟩
theorem j5(h:bO H t tl L)(x:Int):af Tryz.prog vY [ptr t,i64 x] H fun v H'=>aw (v=i64 (bj L x)∧H'=H):=by
 refine bm wU ?_
 refine vs ?_
 refine(fM h x).mono ?_
 rintro _ H' ⟨rfl,e⟩
 obtain rfl:=e.symm
 refine vs ?_
 refine am.dec (fun g=>?_) (fun g=>?_)<;>refine vs ?_
 ·obtain⟨y,hy⟩:∃y,L[x.toNat]? =some y:=⟨_,ans (by omega)⟩
  have hk:=(Oh hy).2.2
  refine v1 (ae h.own) ?_
  refine⟨by omega,?_⟩
  refine v3 (ae h.k9) ant hk ?_
  rw[uF g.1 hy]
  exact⟨rfl,rfl⟩
 ·rw[M8 g]
  exact⟨rfl,rfl⟩
theorem lG(h:bO H t tl L)(x:Int):af Tryz.prog yy [ptr t,i64 x] H fun v H'=>aw (v=gv (aZ L x false)∧H'=H):=by
 refine bm yX ?_
 refine vs ?_
 refine(jg h x false).mono ?_
 rintro _ H' ⟨rfl,e⟩
 obtain rfl:=e.symm
 refine vs ?_
 refine(lF H (aZ L x false)).mono ?_
 rintro _ H' ⟨rfl,e⟩
 obtain rfl:=e.symm
 unfold gv
 by_cases g:aZ L x false= -1
 ·simp only[if_pos g]
  refine vs ?_
  exact⟨(if_pos g).symm,rfl⟩
 ·simp only[if_neg g]
  refine vs ?_
  exact⟨(if_neg g).symm,rfl⟩
theorem cu(h:bO H t tl L)(x:Int):af Tryz.prog vX [ptr t,i64 x] H fun v H'=>aw (v=gv (aZ L x true)∧H'=H):=by
 refine bm wT ?_
 refine vs ?_
 refine(jg h x true).mono ?_
 rintro _ H' ⟨rfl,e⟩
 obtain rfl:=e.symm
 refine vs ?_
 refine(lF H (aZ L x true)).mono ?_
 rintro _ H' ⟨rfl,e⟩
 obtain rfl:=e.symm
 unfold gv
 by_cases g:aZ L x true= -1
 ·simp only[if_pos g]
  refine vs ?_
  exact⟨(if_pos g).symm,rfl⟩
 ·simp only[if_neg g]
  refine vs ?_
  exact⟨(if_neg g).symm,rfl⟩
theorem oM(h:bO H t tl L)(x:Int):af Tryz.prog B3 [ptr t,i64 x] H fun v H'=>aw (v=gv (bj L x)∧H'=H):=by
 refine bm Cg ?_
 refine vs ?_
 refine(j5 h x).mono ?_
 rintro _ H' ⟨rfl,e⟩
 obtain rfl:=e.symm
 refine vs ?_
 refine(lF H (bj L x)).mono ?_
 rintro _ H' ⟨rfl,e⟩
 obtain rfl:=e.symm
 unfold gv
 by_cases g:bj L x= -1
 ·simp only[if_pos g]
  refine vs ?_
  exact⟨(if_pos g).symm,rfl⟩
 ·simp only[if_neg g]
  refine vs ?_
  exact⟨(if_neg g).symm,rfl⟩
theorem eV(h:bO H t tl L){p x:Int}{c:Bool}(hp:0≤p∧p<L.length)(hx:0≤x∧x<L.length)(dF:p≠x)(hu:bj L x= -1)(hk:aZ L p c= -1):
  af Tryz.prog yz [ptr t,i64 p,i64 x,.bool c] H fun v H'=>aw (v= .bool true∧∃L',bO H' t tl L'∧L'.length=L.length∧aZ L'=uq (aZ L) p x c∧bj L'=aI (bj L) x p∧ag (fun z=>z=tl) H H'):=by
 refine bm yY ?_
 refine vs ?_
 refine(fM h p).mono ?_
 rintro _ H' ⟨rfl,e⟩
 obtain rfl:=e.symm
 rw[anI hp]
 refine vs ?_
 refine(fM h x).mono ?_
 rintro _ H' ⟨rfl,e⟩
 obtain rfl:=e.symm
 rw[anI hx]
 refine vs ?_
 refine am.dec (fun g=>absurd g dF) (fun _=>?_)
 refine vs ?_
 refine(j5 h x).mono ?_
 rintro _ H' ⟨rfl,e⟩
 obtain rfl:=e.symm
 rw[hu]
 refine v1 aoi ?_
 refine(jg h p c).mono ?_
 rintro _ H' ⟨rfl,e⟩
 obtain rfl:=e.symm
 rw[hk]
 refine v1 aoi ?_
 obtain⟨y,hy⟩:∃y,L[p.toNat]? =some y:=⟨_,ans (by omega)⟩
 have hc:c.toNat<2:=by cases c<;>decide
 have oK:=iE L
 refine v1 (ae h.own) ?_
 refine⟨_,lE H c,?_⟩
 refine⟨⟨by omega,by omega⟩,?_⟩
 refine v4 ant Nat.add_zero anw Int.toNat_natCast ?_
 refine⟨⟨by omega,by omega⟩,?_⟩
 refine v5 h.k9 ant Nat.add_zero anw Int.toNat_natCast ?_
 refine⟨by omega,?_⟩
 have h1:=h.put (L':=L.set p.toNat (y.fL c x)) (by rw[anv])
 have e1:ag (fun z=>z=tl) H (H.wr tl (aN (L.set p.toNat (y.fL c x)))):=(ag.refl (fun z=>z=tl) _).wr (fun _=>rfl) _
 rw[←vq hy c x]at h1 e1
 have k1:=rV hp.1 hy c x
 have u1:=rW hp.1 hy c x
 have l1:(L.set p.toNat (y.fL c x)).length=L.length:=anv ..
 generalize L.set p.toNat (y.fL c x)=L1 at*
 refine vs ?_
 generalize H.wr tl ((aN L).set (p.toNat*3+c.toNat) (i64 x))=H1 at*
 obtain⟨y1,MV⟩:∃y,L1[x.toNat]? =some y:=⟨_,ans (by omega)⟩
 have aeQ:=iE L1
 refine v1 (ae h1.own) ?_
 refine⟨by omega,?_⟩
 refine v2 h1.k9 ant ?_
 refine⟨by omega,?_⟩
 have h2:=h1.put (L':=L1.set x.toNat ⟨y1.a,y1.b,p⟩) (by rw[anv])
 have e2:ag (fun z=>z=tl) H1 (H1.wr tl (aN (L1.set x.toNat ⟨y1.a,y1.b,p⟩))):=(ag.refl (fun z=>z=tl) _).wr (fun _=>rfl) _
 rw[←FJ MV p]at h2 e2
 refine vs ?_
 exact⟨rfl,_,h2,by rw[anv,l1],by rw[Cu hx.1 MV,k1];rfl,by rw[Cv hx.1 MV,u1],e1.trans e2⟩
theorem cH(h:bO H t tl L){x:Int}(hv:bj L x≠ -1→0≤bj L x∧bj L x<L.length):
  af Tryz.prog Ah [ptr t,i64 x] H fun v H'=>aw (v=gv (bj L x)∧∃L',bO H' t tl L'∧L'.length=L.length∧aZ L'=iJ (aZ L) (bj L) x∧bj L'=cW (bj L) x∧ag (fun z=>z=tl) H H'):=by
 refine bm AH ?_
 refine vs ?_
 refine(j5 h x).mono ?_
 rintro _ H' ⟨rfl,e⟩
 obtain rfl:=e.symm
 refine vs ?_
 have oK:=iE L
 refine am.dec (fun g=>?_) (fun g=>?_)<;>refine vs ?_
 ·refine⟨by unfold gv;rw[if_pos g];rfl,L,h,rfl,by unfold iJ;rw[if_pos g],?_,ag.refl _ _⟩
  funext z
  unfold cW aI
  split
  ·rename_i hz;rw[hz,g]
  ·rfl
 have hx:0≤x∧x<L.length:=anW fun hn=>g (M8 hn)
 obtain⟨p0,p1⟩:=hv g
 generalize hpe:bj L x=p at*
 obtain⟨y,hy⟩:∃y,L[p.toNat]? =some y:=⟨_,ans (by omega)⟩
 have hc:∀c:Bool,c.toNat<2:=fun c=>by cases c<;>decide
 refine v1 (ae h.own) ?_
 refine⟨_,jg h p true,?_⟩
 refine vs ?_
 refine⟨_,lE H (decide (aZ L p true=x)),?_⟩
 have Wu:decide (aZ L p true=x)=(aZ L p true==x):=by by_cases e:aZ L p true=x<;>simp[e]
 rw[Wu]
 have Ht:=hc (aZ L p true==x)
 generalize hce:(aZ L p true==x)=c at*
 refine⟨⟨by omega,by omega⟩,?_⟩
 refine v4 ant Nat.add_zero anw Int.toNat_natCast ?_
 refine⟨⟨by omega,by omega⟩,?_⟩
 refine v5 h.k9 ant Nat.add_zero anw Int.toNat_natCast ?_
 refine⟨by omega,?_⟩
 have h1:=h.put (L':=L.set p.toNat (y.fL c (-1))) (by rw[anv])
 have e1:ag (fun z=>z=tl) H (H.wr tl (aN (L.set p.toNat (y.fL c (-1))))):=(ag.refl (fun z=>z=tl) _).wr (fun _=>rfl) _
 rw[←vq hy c (-1)]at h1 e1
 have k1:=rV p0 hy c (-1)
 have u1:=rW p0 hy c (-1)
 have l1:(L.set p.toNat (y.fL c (-1))).length=L.length:=anv ..
 generalize L.set p.toNat (y.fL c (-1))=L1 at*
 refine vs ?_
 generalize H.wr tl ((aN L).set (p.toNat*3+c.toNat) (i64 (-1)))=H1 at*
 obtain⟨y1,MV⟩:∃y,L1[x.toNat]? =some y:=⟨_,ans (by omega)⟩
 have aeQ:=iE L1
 refine v1 (ae h1.own) ?_
 refine⟨by omega,?_⟩
 refine v2 h1.k9 ant ?_
 refine⟨by omega,?_⟩
 have h2:=h1.put (L':=L1.set x.toNat ⟨y1.a,y1.b, -1⟩) (by rw[anv])
 have e2:ag (fun z=>z=tl) H1 (H1.wr tl (aN (L1.set x.toNat ⟨y1.a,y1.b, -1⟩))):=(ag.refl (fun z=>z=tl) _).wr (fun _=>rfl) _
 rw[←FJ MV (-1)]at h2 e2
 refine vs ?_
 refine⟨by unfold gv;rw[if_neg g];rfl,_,h2,by rw[anv,l1],?_,by rw[Cv hx.1 MV,u1];rfl,e1.trans e2⟩
 rw[Cu hx.1 MV,k1]
 unfold iJ
 rw[hpe,if_neg g,hce]
theorem RA{L:List Lk}{p:Int}{y:Lk}(h0:0≤p)(h:L[p.toNat]? =some y):aZ (L.set p.toNat ⟨y.b,y.a,y.u⟩)=nk (aZ L) p∧bj (L.set p.toNat ⟨y.b,y.a,y.u⟩)=bj L:=by
 have aO:=(anu.1 h).1
 constructor
 ·funext z d
  unfold nk
  by_cases hz:z=p
  ·subst hz
   rw[oL h0 (anB aO),if_pos rfl,oL h0 h]
   cases d<;>rfl
  ·rw[if_neg hz]
   unfold aZ
   split
   ·rw[anA (by omega)]
   ·rfl
 ·funext z
  by_cases hz:z=p
  ·subst hz
   rw[uF h0 (anB aO),uF h0 h]
  ·unfold bj
   split
   ·rw[anA (by omega)]
   ·rfl
theorem M9{L:List Lk}{i:Nat}{y:Lk}(hi:L[i]? =some y):((aN L).set (i*3) (i64 y.b)).set (i*3+1) (i64 y.a)=aN (L.set i ⟨y.b,y.a,y.u⟩):=by
 induction L generalizing i with
 |nil=>simp at hi
 |cons a r ih=>
  have e:aN (a::r)=i64 a.a::i64 a.b::i64 a.u::aN r:=rfl
  cases i with
  |zero=>simp at hi;subst hi;rfl
  |succ i=>
   have e2:aN ((a::r).set (i+1) ⟨y.b,y.a,y.u⟩)=i64 a.a::i64 a.b::i64 a.u::aN (r.set i ⟨y.b,y.a,y.u⟩):=rfl
   rw[e,e2,show(i+1)*3=i*3+1+1+1 by omega,show i*3+1+1+1+1=i*3+1+1+1+1 by rfl]
   simp only[aoe]
   rw[ih (by simpa using hi)]
theorem lH(h:bO H t tl L){p:Int}(hp:0≤p∧p<L.length):
  af Tryz.prog yA [ptr t,i64 p] H fun v H'=>aw (v= .bool true∧∃L',bO H' t tl L'∧L'.length=L.length∧aZ L'=nk (aZ L) p∧bj L'=bj L∧ag (fun z=>z=tl) H H'):=by
 refine bm yZ ?_
 refine vs ?_
 refine(fM h p).mono ?_
 rintro _ H' ⟨rfl,e⟩
 obtain rfl:=e.symm
 rw[anI hp]
 obtain⟨y,hy⟩:∃y,L[p.toNat]? =some y:=⟨_,ans (by omega)⟩
 have oK:=iE L
 obtain⟨a1,a2,a3⟩:=Oh hy
 refine v1 (ae h.own) ?_
 refine⟨by omega,?_⟩
 refine vs ?_
 have n1:Int.toNat 1=1:=rfl
 refine⟨⟨by omega,by omega⟩,?_⟩
 refine v8 (ae h.k9) ant Nat.add_zero anw Int.toNat_zero n1 a1 a2 ?_
 refine⟨⟨by omega,by omega⟩,?_⟩
 refine v8 (ae h.k9) ant Nat.add_zero anw Int.toNat_zero n1 a1 a2 ?_
 refine⟨⟨by omega,by omega⟩,?_⟩
 refine v6 h.k9 ant Nat.add_zero anw Int.toNat_zero n1 ?_
 refine⟨by omega,?_⟩
 refine vs ?_
 refine⟨⟨by omega,by omega⟩,?_⟩
 have o1:(H.wr tl ((aN L).set (p.toNat*3) (i64 y.b))).own tl=_:=ah h.k9
 have e1:ag (fun z=>z=tl) H (H.wr tl ((aN L).set (p.toNat*3) (i64 y.b))):=(ag.refl (fun z=>z=tl) _).wr (fun _=>rfl) _
 have w1:=e1.own h.own h.ne
 generalize H.wr tl ((aN L).set (p.toNat*3) (i64 y.b))=H1 at*
 refine v6 o1 ant Nat.add_zero anw Int.toNat_zero n1 ?_
 refine⟨by rw[anv];omega,?_⟩
 have e2:ag (fun z=>z=tl) H1 (H1.wr tl (((aN L).set (p.toNat*3) (i64 y.b)).set (p.toNat*3+1) (i64 y.a))):=(ag.refl (fun z=>z=tl) _).wr (fun _=>rfl) _
 have o2:(H1.wr tl (((aN L).set (p.toNat*3) (i64 y.b)).set (p.toNat*3+1) (i64 y.a))).own tl=_:=ah o1
 refine vs ?_
 obtain⟨k1,k2⟩:=RA hp.1 hy
 refine⟨rfl,L.set p.toNat ⟨y.b,y.a,y.u⟩,⟨by rw[anv];exact e2.own w1 h.ne,by rw[←M9 hy];exact o2,h.ne⟩,anv ..,k1,k2,e1.trans e2⟩
end
theorem Oi(n:Nat):cA [Value.int .i64 0,Value.int .i64 0,Value.int .i64 0] n=aN (List.replicate n ⟨0,0,0⟩):=by
 unfold cA
 induction n with
 |zero=>rfl
 |succ n ih=>rw[aoc,aos,ih,aoc];rfl
theorem Is{L:List Lk}{i:Nat}(hi:i<L.length)(y:Lk):bh (aN L) (i*3) [i64 y.a,i64 y.b,i64 y.u]=aN (L.set i y):=by
 simp only[bh]
 induction L generalizing i with
 |nil=>simp at hi
 |cons a r ih=>
  have e:aN (a::r)=i64 a.a::i64 a.b::i64 a.u::aN r:=rfl
  cases i with
  |zero=>rfl
  |succ i=>
   have e2:aN ((a::r).set (i+1) y)=i64 a.a::i64 a.b::i64 a.u::aN (r.set i y):=rfl
   rw[e,e2,show(i+1)*3=i*3+1+1+1 by omega]
   simp only[aoe]
   rw[ih (by simpa using hi)]
def jw:Lk:=⟨-1, -1, -1⟩
theorem uG(H:Hp){n:Int}(hn:0≤n∧n≤65536):af Tryz.prog KQ [i64 n] H fun v H'=>aw (∃t tl,v= .tuple [ptr t,i64 0].toArray∧bO H' t tl (List.replicate n.toNat jw)∧ai H H'∧H.size≤t∧H.size≤tl):=by
 refine bm KY ?_
 refine vs ?_
 refine am.dec (fun g=>absurd g (by omega)) (fun _=>?_)
 refine vs ?_
 refine am.dec (fun g=>absurd g (by omega)) (fun _=>?_)
 refine vs ?_
 refine⟨⟨by omega,by omega,by omega,by omega⟩,?_⟩
 refine vs ?_
 rw[Oi]
 have f0:ai H ((H.new 322 (aN (List.replicate n.toNat ⟨0,0,0⟩))).new 320 [.slice (some ⟨H.size,0,none⟩) n.toNat n.toNat]):=((ag.refl _ _).new _ _).new _ _
 have t0:bO ((H.new 322 (aN (List.replicate n.toNat ⟨0,0,0⟩))).new 320 [.slice (some ⟨H.size,0,none⟩) n.toNat n.toNat]) (H.size+1) H.size (List.replicate n.toNat ⟨0,0,0⟩):=by
  refine⟨?_,?_,by omega⟩
  ·rw[aog]
   exact aV (by simp only[aq])
  ·rw[ci (by simp only[aq];omega),aB]
 generalize (H.new 322 (aN (List.replicate n.toNat ⟨0,0,0⟩))).new 320 [.slice (some ⟨H.size,0,none⟩) n.toNat n.toNat]=H1 at*
 have ow:=t0.own
 rw[aog]at ow
 refine bk.intro (fun m env H'=>∃j:Nat,m=n.toNat - j∧j≤n.toNat∧ag (fun z=>z=H.size) H1 H'∧bO H' (H.size+1) H.size (List.replicate j jw++List.replicate (n.toNat - j) ⟨0,0,0⟩)∧
  env=[(4,ptr (H.size+1)),(20,i64 (n.toNat:Nat)),(21,i64 j)]) n.toNat ⟨0,by omega,by omega,ag.refl _ _,t0,rfl⟩ ?_
 rintro m env H2 ⟨j,rfl,hj,e2,t2,rfl⟩
 have oK:=iE (List.replicate j jw++List.replicate (n.toNat - j) (⟨0,0,0⟩:Lk))
 have rU:(List.replicate j jw++List.replicate (n.toNat - j) (⟨0,0,0⟩:Lk)).length=n.toNat:=by simp;omega
 have o2:=t2.own
 rw[rU]at oK o2
 refine vs ?_
 refine am.dec (fun aO=>?_) (fun aO=>?_)<;>refine vs ?_
 ·first|refine v1 (ae o2) ?_|skip
  refine⟨by omega,?_⟩
  refine v3 t2.k9 ant Int.toNat_natCast ?_
  refine⟨by omega,?_⟩
  have e3:=Is (L:=List.replicate j jw++List.replicate (n.toNat - j) (⟨0,0,0⟩:Lk)) (i:=j) (by omega) jw
  have e4:(List.replicate j jw++List.replicate (n.toNat - j) (⟨0,0,0⟩:Lk)).set j jw=List.replicate (j+1) jw++List.replicate (n.toNat - (j+1)) (⟨0,0,0⟩:Lk):=by
   rw[apt _ _ (by simp),aog,aoI,show n.toNat - j=(n.toNat - (j+1))+1 by omega,aoc,aoS,apx]
   simp
  rw[e4]at e3
  have t3:=t2.put (L':=List.replicate (j+1) jw++List.replicate (n.toNat - (j+1)) (⟨0,0,0⟩:Lk)) (by simp;omega)
  have e5:ag (fun z=>z=H.size) H1 (H2.wr H.size (aN (List.replicate (j+1) jw++List.replicate (n.toNat - (j+1)) (⟨0,0,0⟩:Lk)))):=e2.wr (fun _=>rfl) _
  rw[show bh (aN (List.replicate j jw++List.replicate (n.toNat - j) (⟨0,0,0⟩:Lk))) (j*3) (aH (Value.agg #[Value.int .i64 (-1),Value.int .i64 (-1),Value.int .i64 (-1)]))=_ from e3]
  refine vs ?_
  rw[wrap64 (n:=(j:Int)+1) (by omega) (by omega)]
  exact⟨n.toNat - (j+1),by omega,j+1,rfl,by omega,e5,t3,rfl⟩
 ·have gD:j=n.toNat:=by omega
  subst gD
  rw[aoI,apz,aon]at t2
  exact⟨_,_,rfl,t2,f0.then e2 (fun z hz=>by omega),by omega,by omega⟩
end Go.Proofs.YtjlnnljohemifaaGreat

namespace Go.Proofs.YtjlnnljohemifaaGreat
open Go Go.Vc
structure LB where
 n:Nat
 c:Nat
 t:Nat
 tl:Nat
 rk:Nat
 tp:Nat
structure cV(H:Hp)(B:LB)(C:Nat→Prop)(w:Nw)(L:List Lk)(rs tops:List Int):Prop where
 own:∃tv,H.own B.n=some [ptr B.c,ptr B.t,.slice (some ⟨B.rk,0,none⟩) rs.length rs.length,tv]∧Sl H 1 tv tops.length (tops.map i64) (some B.tp)
 cells:CQ H B.c C w
 bU:bO H B.t B.tl L
 Cw:H.own B.rk=some (rs.map i64)
 len:L.length=w.cs.length∧rs.length=w.cs.length
 mc:(B.n≠B.t∧B.n≠B.tl∧B.n≠B.rk∧B.n≠B.tp)∧(B.t≠B.tl∧B.t≠B.rk∧B.t≠B.tp)∧(B.tl≠B.rk∧B.tl≠B.tp)∧B.rk≠B.tp
 out:¬C B.n∧¬C B.t∧¬C B.tl∧¬C B.rk∧¬C B.tp
def LB.S(B:LB)(C:Nat→Prop)(z:Nat):Prop:=C z∨z=B.n∨z=B.t∨z=B.tl∨z=B.rk∨z=B.tp
section
variable {H H' : Hp} {B : LB} {C T : Nat → Prop} {w w' : Nw} {L L' : List Lk} {rs tops : List Int}
theorem cV.slt(h:cV H B C w L rs tops):∀z,B.S C z→z<H.size:=by
 obtain⟨tv,h1,h2⟩:=h.own
 rintro z (hz|rfl|rfl|rfl|rfl|rfl)
 ·exact h.cells.slt z hz
 ·exact aA h1
 ·exact aA h.bU.own
 ·exact aA h.bU.k9
 ·exact aA h.Cw
 ·exact h2.lt
theorem cV.ext(h:cV H B C w L rs tops)(e:ag T H H')(hd:∀z,B.S C z→¬T z):cV H' B C w L rs tops:=by
 obtain⟨tv,h1,h2⟩:=h.own
 exact⟨⟨tv,e.own h1 (hd _ (.inr (.inl rfl))),h2.ext e (fun b hb=>by injection hb with hb;exact hb▸hd _ (.inr (.inr (.inr (.inr (.inr rfl))))))⟩,h.cells.ext e (fun x hx=>hd x (.inl hx)),
  h.bU.ext e (hd _ (.inr (.inr (.inl rfl)))) (hd _ (.inr (.inr (.inr (.inl rfl))))),e.own h.Cw (hd _ (.inr (.inr (.inr (.inr (.inl rfl)))))),h.len,h.mc,h.out⟩
theorem cV.fresh(h:cV H B C w L rs tops)(e:ai H H'):cV H' B C w L rs tops:=h.ext e fun _ _ h=>h
theorem cV.aJ(h:cV H B C w L rs tops)(c1:CQ H' B.c C w')(e:ag C H H')(hl:w'.cs.length=w.cs.length):cV H' B C w' L rs tops:=by
 obtain⟨tv,h1,h2⟩:=h.own
 obtain⟨o1,o2,o3,o4,o5⟩:=h.out
 exact⟨⟨tv,e.own h1 o1,h2.ext e (fun b hb=>by injection hb with hb;exact hb▸o5)⟩,c1,h.bU.ext e o2 o3,e.own h.Cw o4,by rw[hl];exact h.len,h.mc,h.out⟩
theorem cV.dC(h:cV H B C w L rs tops)(t1:bO H' B.t B.tl L')(e:ag (fun z=>z=B.tl) H H')(hl:L'.length=L.length):cV H' B C w L' rs tops:=by
 obtain⟨tv,h1,h2⟩:=h.own
 obtain⟨o1,o2,o3,o4,o5⟩:=h.out
 obtain⟨⟨d1,d2,d3,d4⟩,⟨d5,d6,d7⟩,⟨d8,d9⟩,d10⟩:=h.mc
 exact⟨⟨tv,e.own h1 d2,h2.ext e (fun b hb=>by injection hb with hb;omega)⟩,h.cells.ext e (fun x hx hz=>o3 (hz▸hx)),t1,e.own h.Cw (by omega),by rw[hl];exact h.len,h.mc,h.out⟩
theorem cV.Na(h:cV H B C w L rs tops)(i:Nat)(v:Int):cV (H.wr B.rk ((rs.map i64).set i (i64 v))) B C w L (rs.set i v) tops∧ag (fun z=>z=B.rk) H (H.wr B.rk ((rs.map i64).set i (i64 v))):=by
 obtain⟨tv,h1,h2⟩:=h.own
 obtain⟨o1,o2,o3,o4,o5⟩:=h.out
 obtain⟨⟨d1,d2,d3,d4⟩,⟨d5,d6,d7⟩,⟨d8,d9⟩,d10⟩:=h.mc
 have e:ag (fun z=>z=B.rk) H (H.wr B.rk ((rs.map i64).set i (i64 v))):=(ag.refl (fun z=>z=B.rk) _).wr (fun _=>rfl) _
 refine⟨⟨⟨tv,by rw[anv];exact e.own h1 d3,h2.ext e (fun b hb=>by injection hb with hb;omega)⟩,h.cells.ext e (fun x hx hz=>o4 (hz▸hx)),h.bU.ext e (by omega) (by omega),?_,by rw[anv];exact h.len,h.mc,h.out⟩,e⟩
 rw[aoh]
 exact ah h.Cw
theorem cV.fN(h:cV H B C w L rs tops):∃c l,H.own B.n=some [ptr B.c,ptr B.t,.slice (some ⟨B.rk,0,none⟩) rs.length rs.length,.slice (some ⟨B.tp,0,none⟩) tops.length c]∧H.own B.tp=some l∧tops.length≤c∧c≤l.length∧l.take tops.length=tops.map i64:=by
 obtain⟨tv,h1,_,l,c,rfl,h3,h4,h5,h6⟩:=h.own
 rw[anw]at h5 h6
 exact⟨c,l,h1,h3,h4,h5,h6⟩
theorem cV.eO(h:cV H B C w L rs tops){l:List Value}(hl:H.own B.tp=some l){i:Nat}{x:Int}(hx:tops[i]? =some x):l[i]? =some (i64 x):=by
 obtain⟨c,l',_,h2,_,_,h5⟩:=h.fN
 rw[hl]at h2
 injection h2 with h2
 subst h2
 have h7:(tops.map i64)[i]? =some (i64 x):=by rw[anR,hx];rfl
 rw[←h5,an9]at h7
 split at h7
 ·exact h7
 ·cases h7
theorem cV.lc(h:cV H B C w L rs tops){l:List Value}(hl:H.own B.tp=some l)(i:Nat)(v:Int):cV (H.wr B.tp (l.set i (i64 v))) B C w L rs (tops.set i v)∧ag (fun z=>z=B.tp) H (H.wr B.tp (l.set i (i64 v))):=by
 obtain⟨c,l',h1,h2,h3,h4,h5⟩:=h.fN
 rw[hl]at h2
 injection h2 with h2
 subst h2
 obtain⟨o1,o2,o3,o4,o5⟩:=h.out
 obtain⟨⟨d1,d2,d3,d4⟩,⟨d5,d6,d7⟩,⟨d8,d9⟩,d10⟩:=h.mc
 have e:ag (fun z=>z=B.tp) H (H.wr B.tp (l.set i (i64 v))):=(ag.refl (fun z=>z=B.tp) _).wr (fun _=>rfl) _
 refine⟨⟨⟨_,e.own h1 d4,?_⟩,h.cells.ext e (fun x hx hz=>o5 (hz▸hx)),h.bU.ext e (by omega) (by omega),e.own h.Cw (by omega),h.len,h.mc,h.out⟩,e⟩
 refine⟨by simp,l.set i (i64 v),c,by rw[anv],ah hl,by rw[anv];exact h3,by rw[anv,anw];exact h4,?_⟩
 rw[anv,anw,vj,h5,aoh]
theorem cw(H:Hp)(x:Int):∀ (a:Int) (b:Bool),gv x= .tuple [i64 a,.bool b].toArray→af Tryz.prog GZ [i64 a,.bool b] H fun v H'=>aw (v=i64 x∧H'=H):=by
 intro a b he
 unfold gv at he
 refine bm Hi ?_
 refine vs ?_
 have h2:∀ {p q:Int} {r s:Bool},Value.tuple [i64 p,Value.bool r].toArray=Value.tuple [i64 q,Value.bool s].toArray→p=q∧r=s:=fun h=>by
  have h3:=anP Array.toList (Value.tuple.inj h)
  injection h3 with h4 h5
  injection h4 with _ h4
  injection h5 with h5 _
  injection h5 with h5
  exact⟨h4,h5⟩
 split at he
 ·rename_i hx
  obtain⟨rfl,rfl⟩:=h2 he
  refine vs ?_
  rw[hx]
  exact⟨rfl,rfl⟩
 ·obtain⟨rfl,rfl⟩:=h2 he
  refine vs ?_
  exact⟨rfl,rfl⟩
theorem cI(x:Int):∃ (a:Int) (b:Bool),gv x= .tuple [i64 a,.bool b].toArray:=by
 unfold gv
 split
 ·exact⟨_,_,rfl⟩
 ·exact⟨_,_,rfl⟩
def YF(rs:List Int)(x:Int):Int:=if x= -1 then 0 else rs.getD x.toNat 0
theorem ed(h:cV H B C w L rs tops){x:Int}(hx:x≠ -1→0≤x∧x<w.cs.length):af Tryz.prog sV [ptr B.n,i64 x] H fun v H'=>aw (v=i64 (YF rs x)∧H'=H):=by
 obtain⟨tv,h1,h2⟩:=h.own
 have hl:=h.len
 refine bm tq ?_
 refine vs ?_
 refine am.dec (fun g=>?_) (fun g=>?_)<;>refine vs ?_
 ·unfold YF
  rw[if_pos g]
  exact⟨rfl,rfl⟩
 have hx:=hx g
 have hr:(rs.map i64)[x.toNat]? =some (i64 (YF rs x)):=by
  unfold YF
  rw[if_neg g,anR,anx,ans (by omega)]
  rfl
 refine v1 (ae h1) ?_
 refine⟨⟨by omega,by omega⟩,?_⟩
 refine v4 (ae h.Cw) ant anw hr ?_
 exact⟨rfl,rfl⟩
theorem gE(h:cV H B C w L rs tops){x:Int}(hx:0≤x∧x<w.cs.length)(hk:∀c,aZ L x c≠ -1→0≤aZ L x c∧aZ L x c<w.cs.length):
  af Tryz.prog sU [ptr B.n,i64 x] H fun v H'=>aw (∃L' TM,cV H' B C w L' TM tops∧(aZ L'=aZ L∨aZ L'=nk (aZ L) x)∧bj L'=bj L∧ag (fun z=>z=B.tl∨z=B.rk) H H'):=by
 obtain⟨tv,h1,h2⟩:=h.own
 have hl:=h.len
 refine bm tn ?_
 refine v1 (ae h1) ?_
 obtain⟨a1,b1,e1⟩:=cI (aZ L x false)
 obtain⟨a2,b2,e2⟩:=cI (aZ L x true)
 refine⟨.tuple [i64 a1,.bool b1].toArray,(lG h.bU x).mono (by rintro v H' ⟨rfl,rfl⟩;exact⟨e1,rfl⟩),?_⟩
 refine vs ?_
 refine⟨_,cw H _ a1 b1 e1,?_⟩
 refine v1 (ae h1) ?_
 refine(cu h.bU x).mono ?_
 rintro _ H' ⟨rfl,e⟩
 obtain rfl:=e.symm
 rw[e2]
 refine vs ?_
 refine(cw H _ a2 b2 e2).mono ?_
 rintro _ H' ⟨rfl,e⟩
 obtain rfl:=e.symm
 refine vs ?_
 refine(ed h (hk false)).mono ?_
 rintro _ H' ⟨rfl,e⟩
 obtain rfl:=e.symm
 refine vs ?_
 refine(ed h (hk true)).mono ?_
 rintro _ H' ⟨rfl,e⟩
 obtain rfl:=e.symm
 refine vs ?_
 refine am.dec (fun g=>?_) (fun g=>?_)<;>refine vs ?_
 ·refine v1 (ae h1) ?_
  refine(lH h.bU (p:=x) (by omega)).mono ?_
  rintro _ H1 ⟨rfl,L1,t1,l1,k1,u1,e1⟩
  have m1:=h.dC t1 e1 l1
  obtain⟨Cx,o1,_⟩:=m1.own
  refine v1 (ae o1) ?_
  refine⟨_,ed m1 (hk false),?_⟩
  refine vs ?_
  refine⟨⟨by omega,by omega⟩,?_⟩
  refine v3 m1.Cw ant anw ?_
  refine⟨by rw[anQ];omega,?_⟩
  obtain⟨m2,e2⟩:=m1.Na x.toNat (IntKind.i64.wrap (YF rs (aZ L x false)+1))
  refine vs ?_
  exact⟨L1,_,m2,.inr k1,u1,(e1.mono fun z _ hz=>.inl hz).trans (e2.mono fun z _ hz=>.inr hz)⟩
 ·refine v1 (ae h1) ?_
  refine⟨_,ed h (hk true),?_⟩
  refine vs ?_
  refine⟨⟨by omega,by omega⟩,?_⟩
  refine v3 h.Cw ant anw ?_
  refine⟨by rw[anQ];omega,?_⟩
  obtain⟨m2,e2⟩:=h.Na x.toNat (IntKind.i64.wrap (YF rs (aZ L x true)+1))
  refine vs ?_
  exact⟨L,_,m2,.inl rfl,rfl,e2.mono fun z _ hz=>.inr hz⟩
abbrev AT(w:Nw)(L:List Lk):Prop:=Bt (aG w) (aQ w) (aZ L) (bj L)
theorem AT.pe{w:Nw}{L:List Lk}(h:AT w L){x:Int}{c:Bool}(hk:aZ L x c≠ -1):0≤aZ L x c∧aZ L x c<w.cs.length:=by
 obtain⟨_,_,h1,h2,_⟩:=Bt.home h hk
 obtain⟨a,b,_⟩:=aD (w:=w) (x:=aZ L x c) (by omega)
 omega
theorem AT.up{w:Nw}{L:List Lk}(h:AT w L){x:Int}(hu:bj L x≠ -1):0≤bj L x∧bj L x<w.cs.length∧aQ w (bj L x) x=true∧aG w (bj L x)=aG w x:=by
 obtain⟨_,_,h1,h2,h3⟩:=h.uk x _ rfl hu
 obtain⟨a,b,_⟩:=aD (w:=w) (x:=bj L x) (by omega)
 exact⟨by omega,by omega,h3,h1⟩
theorem jh(h:cV H B C w L rs tops)(hb:AT w L){x:Int}(hx:x≠ -1→0<aG w x):
  af Tryz.prog vW [ptr B.n,i64 x] H fun v H'=>aw (∃L' TM,cV H' B C w L' TM tops∧AT w L'∧bj L'=bj L∧ag (fun z=>z=B.tl∨z=B.rk) H H'):=by
 refine bm wS ?_
 refine vs ?_
 refine bk.intro (fun m env H'=>∃ (x:Int) (L':List Lk) (TM:List Int),m=(if x= -1 then 0 else MU (aQ w) w.cs.length x+1)∧(x≠ -1→0<aG w x)∧cV H' B C w L' TM tops∧AT w L'∧bj L'=bj L∧ag (fun z=>z=B.tl∨z=B.rk) H H'∧
  env=[(0,ptr B.n),(1,i64 x)]) _ ⟨x,L,rs,rfl,hx,h,hb,rfl,ag.refl _ _,rfl⟩ ?_
 rintro m env H1 ⟨y,L1,rs1,rfl,hy,m1,b1,u1,e1,rfl⟩
 refine vs ?_
 refine am.dec (fun g=>?_) (fun g=>?_)<;>refine vs ?_
 ·exact⟨L1,rs1,m1,b1,u1,e1⟩
 obtain⟨y0,y1,_⟩:=aD (hy g)
 obtain⟨tv,o1,_⟩:=m1.own
 have sE:=m1.len
 obtain⟨r,hr⟩:∃r,(rs1.map i64)[y.toNat]? =some (i64 r):=⟨rs1[y.toNat]'(by omega),by rw[anR,ans (by omega)];rfl⟩
 refine v1 (ae o1) ?_
 refine⟨⟨by omega,by omega⟩,?_⟩
 refine v4 (ae m1.Cw) ant anw hr ?_
 refine(gE m1 ⟨y0,y1⟩ (fun c hk=>b1.pe hk)).mono ?_
 rintro v2 H2 ⟨L2,YG,m2,k2,u2,e2⟩
 have b2:AT w L2:=by
  rcases k2 with k2|k2
  ·show Bt _ _ _ _
   rw[k2,u2];exact b1
  ·show Bt _ _ _ _
   rw[k2,u2];exact Bt.tg b1 y
 obtain⟨Nb,o2,_⟩:=m2.own
 have rU:=m2.len
 have o8:=e1.trans e2
 obtain⟨r2,zD⟩:∃r,(YG.map i64)[y.toNat]? =some (i64 r):=⟨YG[y.toNat]'(by omega),by rw[anR,ans (by omega)];rfl⟩
 refine v1 (ae o2) ?_
 refine⟨⟨by omega,by omega⟩,?_⟩
 refine v4 (ae m2.Cw) ant anw zD ?_
 refine am.dec (fun g2=>?_) (fun g2=>?_)<;>refine vs ?_
 ·exact⟨L2,YG,m2,b2,u2.trans u1,o8⟩
 refine v1 (ae o2) ?_
 refine(oM m2.bU y).mono ?_
 rintro _ H' ⟨rfl,e⟩
 obtain rfl:=e.symm
 obtain⟨a1,c1,ea⟩:=cI (bj L2 y)
 rw[ea]
 refine vs ?_
 refine(cw H2 _ a1 c1 ea).mono ?_
 rintro _ H' ⟨rfl,e⟩
 obtain rfl:=e.symm
 refine vs ?_
 refine⟨_,?_,bj L2 y,L2,YG,rfl,fun hu=>?_,m2,b2,u2.trans u1,o8,rfl⟩
 ·rw[if_neg g]
  split
  ·omega
  ·rename_i hu
   have:=b2.up hu
   have:=ED (ar w) (n:=w.cs.length) (p:=bj L2 y) (x:=y) (by omega) this.2.2.1
   omega
 ·have:=b2.up hu
  rw[this.2.2.2]
  exact hy g
end
end Go.Proofs.YtjlnnljohemifaaGreat

namespace Go.Proofs.YtjlnnljohemifaaGreat
open Go Go.Vc
theorem Sl.shape{H:Hp}{w:Value}{n:Nat}{xs:List Value}{fp:Option Nat}(h:Sl H 1 w n xs fp):∃a c,w= .slice a n c:=by
 obtain⟨h1,h2⟩:=h
 cases fp with
 |none=>obtain⟨rfl,rfl⟩:=h2;exact⟨none,0,rfl⟩
 |some b=>obtain⟨l,c,rfl,_⟩:=h2;exact⟨_,c,rfl⟩
theorem Sl.zg{H:Hp}{a:Option Addr}{n c:Nat}{xs:List Int}{fp:Option Nat}(h:Sl H 1 (.slice a n c) n (xs.map i64) fp){i:Nat}{x:Int}(hx:xs[i]? =some x):
  i<n∧∃b lb,a=some ⟨b,0,none⟩∧H.own b=some lb∧lb[i]? =some (i64 x):=by
 cases fp with
 |none=>
  have h1:=h.1
  have h2:=h.2.1
  have:=(anu.1 hx).1
  rw[anQ]at h1
  omega
 |some b=>
  obtain⟨h1,h2,lb,h3,h4⟩:=Sl.num h hx
  exact⟨h1,b,lb,h2,h3,h4⟩
section
variable {H : Hp} {B : LB} {C : Nat → Prop} {w : Nw} {L : List Lk} {rs tops : List Int}
theorem ic(h:cV H B C w L rs tops){g a0 b0:Int}{R:Int→Prop}(m:Mg (aG w) (aQ w) g R (aZ L) (bj L) [] a0 b0):
  af Tryz.prog ub [ptr B.n,i64 a0,i64 b0] H fun v H'=>aw (∃r L' TM,v=i64 r∧cV H' B C w L' TM tops∧Mg (aG w) (aQ w) g R (aZ L') (bj L') [] r (-1)∧
   (∀x0,wP (aQ w) (aZ L) (bj L) x0 (aZ L) (bj L) [] a0 b0→wP (aQ w) (aZ L) (bj L) x0 (aZ L') (bj L') [] r (-1))∧ag (fun z=>C z∨z=B.tl∨z=B.rk) H H'):=by
 refine bm us ?_
 refine vs ?_
 have wY:=h.cells.DY
 refine bk.intro (fun mm env H'=>∃ (a b:Int) (dI:List Int) (wv:Value) (fp:Option Nat) (L':List Lk),mm=w.cs.length - dI.length∧cV H' B C w L' rs tops∧Mg (aG w) (aQ w) g R (aZ L') (bj L') dI a b∧
  (∀x0,wP (aQ w) (aZ L) (bj L) x0 (aZ L) (bj L) [] a0 b0→wP (aQ w) (aZ L) (bj L) x0 (aZ L') (bj L') dI a b)∧
  (∀z,fp=some z→H.size≤z)∧Sl H' 1 wv dI.length (dI.map i64) fp∧ag (fun z=>C z∨z=B.tl∨z=B.rk∨H.size≤z) H H'∧
  env=[(0,ptr B.n),(1,i64 a),(2,i64 b),(7,wv)]) _ ⟨a0,b0,[],_,none,L,rfl,h,m,(fun _ h=>h),(fun z h=>by cases h),Sl.nil _ _,ag.refl _ _,rfl⟩ ?_
 rintro mm env H1 ⟨a,b,dI,wv,fp,L1,rfl,l1,m1,f1,gu,s1,e1,rfl⟩
 have z1:=e1.size
 clear m
 refine vs ?_
 refine am.dec (fun ga=>?A) (fun ga=>?_)<;>refine vs ?_
 rotate_left
 refine am.dec (fun gb=>?B) (fun gb=>?_)<;>refine vs ?_
 rotate_left
 ·obtain⟨Cx,o1,_⟩:=l1.own
  refine v1 (ae o1) ?_
  refine(cD l1.cells b a).mono ?_
  rintro _ H2 ⟨rfl,c2,e2⟩
  have l2:=l1.aJ c2 e2 rfl
  have s2:=s1.ext e2 (fun z hz dM=>by have:=gu z hz;have:=h.slt z (.inl dM);omega)
  have z2:=e2.size
  have ha:=m1.wa.resolve_left ga
  have hb:=m1.wb.resolve_left gb
  have zI:=gN (w:=w) (a:=b) (b:=a) (by rw[hb.1];exact m1.pos) (by rw[ha.1];exact m1.pos)
  have aP:a≠b:=fun e=>ga (m1.ab e)
  rw[zI]
  cases aO:aQ w b a
  ·refine vs ?_
   have hl:aQ w a b=true:=((ar w).Ob a b aP).resolve_right (by rw[aO];simp)
   have mm:Mg (aG w) (aQ w) g R (aZ L1) (bj L1) dI a b:=m1
   have Pz:0<aG w a:=by rw[(mm.wa.resolve_left ga).1];exact mm.pos
   obtain⟨p0,p1,_⟩:=aD Pz
   have m3:=mm.Q9 (ar w) ga gb hl
   have wl:(dI++[a]).length≤w.cs.length:=bV (m3.nodup (ar w)) fun x hx=>by
    have Iq:=(m3.wy x hx).2.1
    have sL:=m3.pos
    obtain⟨x0,x1,_⟩:=aD (w:=w) (x:=x) (by omega)
    exact⟨x0,x1⟩
   rw[anD,anM]at wl
   refine AO (B:=H.size) gu (by omega) s2 a (by omega) fun w' H3 cO jj s3 e3=>?_
   refine vs ?_
   have l3:=l2.ext e3 (fun z hz dM=>by have:=h.slt z hz;omega)
   obtain⟨YH,o3,_⟩:=l3.own
   refine v1 (ae o3) ?_
   refine(cu l3.bU a).mono ?_
   rintro _ H' ⟨rfl,e⟩
   obtain rfl:=e.symm
   obtain⟨k1,k2,ek⟩:=cI (aZ L1 a true)
   rw[ek]
   refine vs ?_
   refine(cw H3 _ k1 k2 ek).mono ?_
   rintro _ H' ⟨rfl,e⟩
   obtain rfl:=e.symm
   refine v1 (ae o3) ?_
   refine(cH l3.bU (x:=aZ L1 a true) (fun hu=>by have:=AT.up mm.bt hu;rw[l3.len.1];omega)).mono ?_
   rintro _ H4 ⟨rfl,L4,t4,Wv,U6,U7,e4⟩
   have l4:=l3.dC t4 e4 Wv
   have s4:=s3.ext e4 (fun z hz dM=>by have:=jj z hz;have:=h.slt B.tl (.inr (.inr (.inr (.inl rfl))));omega)
   obtain⟨k3,k4,ek2⟩:=cI (bj L1 (aZ L1 a true))
   rw[ek2]
   refine vs ?_
   refine⟨w.cs.length - (dI.length+1),by omega,aZ L1 a true,b,dI++[a],w',cO,L4,by simp,l4,?_,?_,jj,s4,((e1.trans (e2.mono fun z _ hz=>.inl hz)).trans (e3.mono fun z _ hz=>.inr (.inr (.inr hz)))).trans (e4.mono fun z _ hz=>.inr (.inl hz)),rfl⟩
   ·rw[U6,U7]
    exact m3
   ·rw[U6,U7]
    exact fun x0 h0=>(f1 x0 h0).down (ar w) m1.bt ga
  ·refine vs ?_
   have hl:aQ w b a=true:=aO
   have mm:Mg (aG w) (aQ w) g R (aZ L1) (bj L1) dI b a:=m1.swap
   have Pz:0<aG w b:=by rw[(mm.wa.resolve_left gb).1];exact mm.pos
   obtain⟨p0,p1,_⟩:=aD Pz
   have m3:=mm.Q9 (ar w) gb ga hl
   have wl:(dI++[b]).length≤w.cs.length:=bV (m3.nodup (ar w)) fun x hx=>by
    have Iq:=(m3.wy x hx).2.1
    have sL:=m3.pos
    obtain⟨x0,x1,_⟩:=aD (w:=w) (x:=x) (by omega)
    exact⟨x0,x1⟩
   rw[anD,anM]at wl
   refine AO (B:=H.size) gu (by omega) s2 b (by omega) fun w' H3 cO jj s3 e3=>?_
   refine vs ?_
   have l3:=l2.ext e3 (fun z hz dM=>by have:=h.slt z hz;omega)
   obtain⟨YH,o3,_⟩:=l3.own
   refine v1 (ae o3) ?_
   refine(cu l3.bU b).mono ?_
   rintro _ H' ⟨rfl,e⟩
   obtain rfl:=e.symm
   obtain⟨k1,k2,ek⟩:=cI (aZ L1 b true)
   rw[ek]
   refine vs ?_
   refine(cw H3 _ k1 k2 ek).mono ?_
   rintro _ H' ⟨rfl,e⟩
   obtain rfl:=e.symm
   refine v1 (ae o3) ?_
   refine(cH l3.bU (x:=aZ L1 b true) (fun hu=>by have:=AT.up mm.bt hu;rw[l3.len.1];omega)).mono ?_
   rintro _ H4 ⟨rfl,L4,t4,Wv,U6,U7,e4⟩
   have l4:=l3.dC t4 e4 Wv
   have s4:=s3.ext e4 (fun z hz dM=>by have:=jj z hz;have:=h.slt B.tl (.inr (.inr (.inr (.inl rfl))));omega)
   obtain⟨k3,k4,ek2⟩:=cI (bj L1 (aZ L1 b true))
   rw[ek2]
   refine vs ?_
   refine⟨w.cs.length - (dI.length+1),by omega,aZ L1 b true,a,dI++[b],w',cO,L4,by simp,l4,?_,?_,jj,s4,((e1.trans (e2.mono fun z _ hz=>.inl hz)).trans (e3.mono fun z _ hz=>.inr (.inr (.inr hz)))).trans (e4.mono fun z _ hz=>.inr (.inl hz)),rfl⟩
   ·rw[U6,U7]
    exact m3
   ·rw[U6,U7]
    exact fun x0 h0=>(f1 x0 h0).swap.down (ar w) m1.bt gb
 case' A=>
  have m2:Mg (aG w) (aQ w) g R (aZ L1) (bj L1) dI b (-1):=ga▸m1.swap
  have f2:=fun x0 (h0:wP (aQ w) (aZ L) (bj L) x0 (aZ L) (bj L) [] a0 b0)=>(f1 x0 h0).swap
  rw[ga]at f2
  generalize hr:b=r at m2 f2
  refine am.cF (by simpa using ga) ?_
 case' B=>
  have m2:Mg (aG w) (aQ w) g R (aZ L1) (bj L1) dI a (-1):=gb▸m1
  have f2:=f1
  rw[gb]at f2
  generalize hr:a=r at m2 f2
  refine am.dec (fun h=>absurd (hr.trans h) ga) (fun _=>?_)
 all_goals
  refine vs ?_
  obtain⟨wa,wc,rfl⟩:=Sl.shape s1
  refine vs ?_
  have wl:dI.length≤w.cs.length:=bV (m2.nodup (ar w)) fun x hx=>by
   have Iq:=(m2.wy x hx).2.1
   have sL:=m2.pos
   obtain⟨x0,x1,_⟩:=aD (w:=w) (x:=x) (by omega)
   exact⟨x0,x1⟩
  refine bk.intro (fun mm env H'=>∃ (i:Nat) (r:Int) (L':List Lk) (TM:List Int),mm=i∧i≤dI.length∧cV H' B C w L' TM tops∧Mg (aG w) (aQ w) g R (aZ L') (bj L') (dI.take i) r (-1)∧
   (∀x0,wP (aQ w) (aZ L) (bj L) x0 (aZ L) (bj L) [] a0 b0→wP (aQ w) (aZ L) (bj L) x0 (aZ L') (bj L') (dI.take i) r (-1))∧
   Sl H' 1 (.slice wa dI.length wc) dI.length (dI.map i64) fp∧ag (fun z=>C z∨z=B.tl∨z=B.rk∨H.size≤z) H H'∧
   env=[(0,ptr B.n),(7,.slice wa dI.length wc),(9,i64 r),(10,i64 ((i:Int) - 1))]) _ ⟨dI.length,r,L1,rs,rfl,anG _,l1,by rw[an4];exact m2,by rw[an4];exact f2,s1,e1,?_⟩ ?_
  ·rw[wrap64 (by omega) (by omega)]
  rintro mm env H2 ⟨i,r2,L2,YG,hmi,hi,l2,m3,f3,s2,e2,rfl⟩
  obtain rfl:=hmi.symm
  refine vs ?_
  refine am.dec (fun gi=>?_) (fun gi=>?_)<;>refine vs ?_
  rotate_left
  ·obtain rfl:i=0:=by omega
   exact⟨r2,L2,YG,rfl,l2,by simpa using m3,by simpa using f3,e2.mono fun z hz h=>h.elim .inl fun h=>.inr (by omega)⟩
  obtain⟨j,rfl⟩:∃j,i=j+1:=⟨i - 1,by omega⟩
  obtain⟨v,hv⟩:∃v,dI[j]? =some v:=⟨_,ans (by omega)⟩
  have tk:dI.take (j+1)=dI.take j++[v]:=by rw[aoa,hv];rfl
  rw[tk]at m3 f3
  have m4:=m3.back (ar w)
  have f4:=fun x0 h0=>(f3 x0 h0).back
  obtain⟨v1,v2,v3,v4,v5,v6⟩:=m3.wy v (by simp)
  obtain⟨q1,vb,lb,rfl,q2,q3⟩:=Sl.zg s2 hv
  have hvb:∃b',fp=some b'∧b'=vb:=by
   cases fp with
   |none=>have:=s2.2.2;injection this with h1;cases h1
   |some b'=>obtain⟨_,_,h1,_⟩:=s2.2;injection h1 with h1;injection h1 with h1;injection h1 with h1;exact⟨b',rfl,h1.symm⟩
  obtain⟨b',rfl,rfl⟩:=hvb
  have hvb:=gu b' rfl
  have U8:0<aG w v:=by rw[v2];exact m3.pos
  obtain⟨Ww,vv1,_⟩:=aD U8
  have ji:((((j+1:Nat):Int) - 1)).toNat=j:=by omega
  obtain⟨Nb,o2,_⟩:=l2.own
  refine am.dec (fun gr=>?_) (fun gr=>?_)<;>refine vs ?_
  ·rw[if_pos gr,if_pos gr]at m4
   simp only[if_pos gr]at f4
   have f5:=f4
   have l3:=l2
   have m5:=m4
   have o3b:=q2
   have s3:=s2
   have e3:=e2
   refine⟨⟨by omega,by omega⟩,?_⟩
   simp(disch:=(first|omega| (simp only[Zs]<;>omega)|fail)) only[go_sem, ↓reduceIte,Zv,ae o3b,ant,anw,ji,q3]
   refine(gE l3 ⟨Ww,vv1⟩ (fun c hk=>AT.pe m5.bt hk)).mono ?_
   rintro _ H4 ⟨L4,U9,l4,k4,u4,e4⟩
   refine vs ?_
   refine⟨j,by omega,j,v,L4,U9,rfl,by omega,l4,?_,?_,s3.ext e4 (fun z hz dM=>by injection hz with hz;have:=h.slt B.tl (.inr (.inr (.inr (.inl rfl))));have:=h.slt B.rk (.inr (.inr (.inr (.inr (.inl rfl)))));omega),e3.trans (e4.mono fun z _ hz=>.inr (hz.elim .inl fun h=>.inr (.inl h))),?_⟩
   ·rcases k4 with k4|k4
    ·rw[k4,u4];exact m5
    ·rw[k4,u4];exact m5.tg (ar w)
   ·rcases k4 with k4|k4
    ·rw[k4,u4];exact f5
    ·rw[k4,u4];exact fun x0 h0=>(f5 x0 h0).tg v1
   ·rw[show((j+1:Nat):Int) - 1 - 1=(j:Int) - 1 by omega,wrap64 (by omega) (by omega)]
  ·rw[if_neg gr,if_neg gr]at m4
   simp only[if_neg gr]at f4
   have zD:=m3.wa.resolve_left gr
   obtain⟨r0,r1,_⟩:=aD (w:=w) (x:=r2) (by rw[zD.1];exact m3.pos)
   have aX:=l2.len
   have hvr:v≠r2:=fun e=>by have:=v5 gr;rw[e,(ar w).vk]at this;cases this
   simp(disch:=(first|omega| (simp only[Zs]<;>omega)|fail)) only[go_sem, ↓reduceIte,Zv,ae o2]
   refine⟨⟨by omega,by omega⟩,?_⟩
   simp(disch:=(first|omega| (simp only[Zs]<;>omega)|fail)) only[go_sem, ↓reduceIte,Zv,ae q2,ant,anw,ji,q3]
   refine(eV l2.bU (p:=v) (x:=r2) (c:=true) ⟨Ww,by omega⟩ ⟨r0,by omega⟩ hvr zD.2 v4).mono ?_
   rintro _ H3 ⟨rfl,L3,t3,ll3,kk3,uu3,Gy⟩
   have l3:=l2.dC t3 Gy ll3
   have m5:Mg (aG w) (aQ w) g R (aZ L3) (bj L3) (dI.take j) v (-1):=by rw[kk3,uu3];exact m4
   have f5:=f4
   rw[←kk3,←uu3]at f5
   have nb:b'≠B.tl:=fun e=>by have:=h.slt B.tl (.inr (.inr (.inr (.inl rfl))));omega
   have o3b:=Gy.own q2 nb
   have s3:=s2.ext Gy (fun z hz dM=>by injection hz with hz;exact nb (hz.trans dM))
   have e3:=e2.trans (Gy.mono fun z _ hz=>.inr (.inl hz))
   refine vs ?_
   refine⟨⟨by omega,by omega⟩,?_⟩
   simp(disch:=(first|omega| (simp only[Zs]<;>omega)|fail)) only[go_sem, ↓reduceIte,Zv,ae o3b,ant,anw,ji,q3]
   refine(gE l3 ⟨Ww,vv1⟩ (fun c hk=>AT.pe m5.bt hk)).mono ?_
   rintro _ H4 ⟨L4,U9,l4,k4,u4,e4⟩
   refine vs ?_
   refine⟨j,by omega,j,v,L4,U9,rfl,by omega,l4,?_,?_,s3.ext e4 (fun z hz dM=>by injection hz with hz;have:=h.slt B.tl (.inr (.inr (.inr (.inl rfl))));have:=h.slt B.rk (.inr (.inr (.inr (.inr (.inl rfl)))));omega),e3.trans (e4.mono fun z _ hz=>.inr (hz.elim .inl fun h=>.inr (.inl h))),?_⟩
   ·rcases k4 with k4|k4
    ·rw[k4,u4];exact m5
    ·rw[k4,u4];exact m5.tg (ar w)
   ·rcases k4 with k4|k4
    ·rw[k4,u4];exact f5
    ·rw[k4,u4];exact fun x0 h0=>(f5 x0 h0).tg v1
   ·rw[show((j+1:Nat):Int) - 1 - 1=(j:Int) - 1 by omega,wrap64 (by omega) (by omega)]
end
end Go.Proofs.YtjlnnljohemifaaGreat
