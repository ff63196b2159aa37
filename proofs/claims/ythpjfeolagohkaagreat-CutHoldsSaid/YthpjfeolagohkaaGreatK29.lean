/- Texts put behind each other. -/
import Derived.Test.YthpjfeolagohkaaGreatK98
import Derived.Test.YthpjfeolagohkaaGreatK2
import Derived.Test.YthpjfeolagohkaaGreatK19
import Derived.Test.YthpjfeolagohkaaGreatK20
import Derived.Test.YthpjfeolagohkaaGreatK22
import Derived.Test.YthpjfeolagohkaaGreatK28
set_option maxRecDepth 100000
set_option maxHeartbeats 8000000
set_option linter.unusedVariables false
set_option linter.unusedSimpArgs false
namespace Go.Proofs.YthpjfeolagohkaaGreat
open Go Go.Vc
structure Lk where
 a:Int
 b:Int
 u:Int
def SZ(y:Lk):List Value:=[i64 y.a,i64 y.b,i64 y.u]
def flatK(L:List Lk):List Value:=L.flatMap SZ
theorem iN(L:List Lk):(flatK L).length=L.length*3:=by
 induction L with
 |nil=>rfl
 |cons c r ih=>simp only[flatK,arN,aqj,SZ,aqx,arh]at*;omega
def Lk.rH(y:Lk)(c:Bool):Int:=if c then y.b else y.a
def Lk.gh(y:Lk)(c:Bool)(v:Int):Lk:=if c then⟨y.a,v,y.u⟩else⟨v,y.b,y.u⟩
theorem Lk.Vt(y:Lk)(c d:Bool)(v:Int):(y.gh c v).rH d=if d=c then v else y.rH d:=by cases c<;>cases d<;>rfl
theorem Lk.acO(y:Lk)(c:Bool)(v:Int):(y.gh c v).u=y.u:=by cases c<;>rfl
theorem PK{L:List Lk}{i:Nat}{y:Lk}(hi:L[i]? =some y):(flatK L)[i*3]? =some (i64 y.a)∧(flatK L)[i*3+1]? =some (i64 y.b)∧(flatK L)[i*3+2]? =some (i64 y.u):=by
 induction L generalizing i with
 |nil=>simp at hi
 |cons a r ih=>
  have e:flatK (a::r)=i64 a.a::i64 a.b::i64 a.u::flatK r:=rfl
  rw[e]
  cases i with
  |zero=>simp at hi;subst hi;exact⟨rfl,rfl,rfl⟩
  |succ i=>
   have:=ih (by simpa using hi)
   rw[show(i+1)*3=i*3+3 by omega]
   exact this
theorem YA{L:List Lk}{i:Nat}{y:Lk}(hi:L[i]? =some y)(c:Bool):(flatK L)[i*3+c.toNat]? =some (i64 (y.rH c)):=by
 obtain⟨h1,h2,h3⟩:=PK hi
 cases c
 ·exact h1
 ·exact h2
theorem wD{L:List Lk}{i:Nat}{y:Lk}(hi:L[i]? =some y)(c:Bool)(v:Int):(flatK L).set (i*3+c.toNat) (i64 v)=flatK (L.set i (y.gh c v)):=by
 induction L generalizing i with
 |nil=>simp at hi
 |cons a r ih=>
  have e:flatK (a::r)=i64 a.a::i64 a.b::i64 a.u::flatK r:=rfl
  cases i with
  |zero=>
   simp at hi;subst hi
   cases c<;>rfl
  |succ i=>
   have e2:flatK ((a::r).set (i+1) (y.gh c v))=i64 a.a::i64 a.b::i64 a.u::flatK (r.set i (y.gh c v)):=rfl
   rw[e,e2,show(i+1)*3+c.toNat=i*3+c.toNat+1+1+1 by omega]
   simp only[aqU]
   rw[ih (by simpa using hi)]
theorem GZ{L:List Lk}{i:Nat}{y:Lk}(hi:L[i]? =some y)(v:Int):(flatK L).set (i*3+2) (i64 v)=flatK (L.set i ⟨y.a,y.b,v⟩):=by
 induction L generalizing i with
 |nil=>simp at hi
 |cons a r ih=>
  have e:flatK (a::r)=i64 a.a::i64 a.b::i64 a.u::flatK r:=rfl
  cases i with
  |zero=>simp at hi;subst hi;rfl
  |succ i=>
   have e2:flatK ((a::r).set (i+1) ⟨y.a,y.b,v⟩)=i64 a.a::i64 a.b::i64 a.u::flatK (r.set i ⟨y.a,y.b,v⟩):=rfl
   rw[e,e2,show(i+1)*3+2=i*3+2+1+1+1 by omega]
   simp only[aqU]
   rw[ih (by simpa using hi)]
def aZ(L:List Lk)(x:Int)(c:Bool):Int:=if 0≤x then(match L[x.toNat]? with|some y=>y.rH c|none=> -1)else -1
def bk(L:List Lk)(x:Int):Int:=if 0≤x then(match L[x.toNat]? with|some y=>y.u|none=> -1)else -1
theorem pP{L:List Lk}{x:Int}{y:Lk}(h0:0≤x)(h:L[x.toNat]? =some y)(c:Bool):aZ L x c=y.rH c:=by unfold aZ;rw[if_pos h0,h]
theorem vJ{L:List Lk}{x:Int}{y:Lk}(h0:0≤x)(h:L[x.toNat]? =some y):bk L x=y.u:=by unfold bk;rw[if_pos h0,h]
theorem S0{L:List Lk}{x:Int}(h:¬ (0≤x∧x<L.length))(c:Bool):aZ L x c= -1:=by
 unfold aZ
 split
 ·rw[aqo (by omega)]
 ·rfl
theorem OH{L:List Lk}{x:Int}(h:¬ (0≤x∧x<L.length)):bk L x= -1:=by
 unfold bk
 split
 ·rw[aqo (by omega)]
 ·rfl
theorem sP{L:List Lk}{p:Int}{y:Lk}(h0:0≤p)(h:L[p.toNat]? =some y)(c:Bool)(v:Int):aZ (L.set p.toNat (y.gh c v))=eV (aZ L) p c v:=by
 have aN:=(aqc.1 h).1
 funext z d
 unfold eV
 by_cases hz:z=p
 ·subst hz
  rw[pP h0 (aqi aN),Lk.Vt,pP h0 h]
  by_cases hd:d=c<;>simp[hd]
 ·rw[if_neg (fun h=>hz h.1)]
  unfold aZ
  split
  ·rw[aqh (by omega)]
  ·rfl
theorem sQ{L:List Lk}{p:Int}{y:Lk}(h0:0≤p)(h:L[p.toNat]? =some y)(c:Bool)(v:Int):bk (L.set p.toNat (y.gh c v))=bk L:=by
 have aN:=(aqc.1 h).1
 funext z
 by_cases hz:z=p
 ·subst hz
  rw[vJ h0 (aqi aN),Lk.acO,vJ h0 h]
 ·unfold bk
  split
  ·rw[aqh (by omega)]
  ·rfl
theorem DL{L:List Lk}{p:Int}{y:Lk}(h0:0≤p)(h:L[p.toNat]? =some y)(v:Int):aZ (L.set p.toNat ⟨y.a,y.b,v⟩)=aZ L:=by
 have aN:=(aqc.1 h).1
 funext z d
 by_cases hz:z=p
 ·subst hz
  rw[pP h0 (aqi aN),pP h0 h]
  rfl
 ·unfold aZ
  split
  ·rw[aqh (by omega)]
  ·rfl
theorem DM{L:List Lk}{p:Int}{y:Lk}(h0:0≤p)(h:L[p.toNat]? =some y)(v:Int):bk (L.set p.toNat ⟨y.a,y.b,v⟩)=aK (bk L) p v:=by
 have aN:=(aqc.1 h).1
 funext z
 unfold aK
 by_cases hz:z=p
 ·subst hz
  rw[vJ h0 (aqi aN),if_pos rfl]
 ·rw[if_neg hz]
  unfold bk
  split
  ·rw[aqh (by omega)]
  ·rfl
structure bS(H:Hp)(t tl:Nat)(L:List Lk):Prop where
 own:H.own t=some [.slice (some ⟨tl,0,none⟩) L.length L.length]
 lB:H.own tl=some (flatK L)
 ne:t≠tl
theorem bS.ext{S:Nat→Prop}{H H':Hp}{t tl:Nat}{L:List Lk}(h:bS H t tl L)(e:ag S H H')(h1:¬S t)(h2:¬S tl):bS H' t tl L:=⟨e.own h.own h1,e.own h.lB h2,h.ne⟩
theorem bS.fresh{H H':Hp}{t tl:Nat}{L:List Lk}(h:bS H t tl L)(e:ah H H'):bS H' t tl L:=h.ext e (fun h=>h) (fun h=>h)
theorem bS.put{H:Hp}{t tl:Nat}{L L':List Lk}(h:bS H t tl L)(hl:L'.length=L.length):bS (H.wr tl (flatK L')) t tl L':=
 ⟨by rw[c7 h.ne.symm,hl];exact h.own,ai h.lB,h.ne⟩
section
variable {H : Hp} {t tl : Nat} {L : List Lk}
theorem gk(h:bS H t tl L)(x:Int):af Tryz.prog Bn [ptr t,i64 x] H fun v H'=>ax (v= .bool (decide (0≤x∧x<L.length))∧H'=H):=by
 refine bm BJ ?_
 refine vs ?_
 refine ar.dec (fun g=>?_) (fun g=>?_)<;>refine v1 (ae h.own) ?_
 ·exact⟨aqv Value.bool (by rw[decide_eq_decide];omega),rfl⟩
 ·exact⟨aqv Value.bool (aqA (by omega)).symm,rfl⟩
theorem lQ(H:Hp)(c:Bool):af Tryz.prog Ko [.bool c] H fun v H'=>ax (v=i64 c.toNat∧H'=H):=by
 refine bm Kv ?_
 refine vs ?_
 cases c<;>refine vs ?_<;>exact⟨rfl,rfl⟩
def gG(x:Int):Value:=if x= -1 then .tuple [i64 0,.bool false].toArray else .tuple [i64 x,.bool true].toArray
theorem lR(H:Hp)(x:Int):af Tryz.prog Kp [i64 x] H fun v H'=>ax (v=gG x∧H'=H):=by
 refine bm Kw ?_
 refine vs ?_
 unfold gG
 refine ar.dec (fun g=>?_) (fun g=>?_)<;>refine vs ?_
 ·rw[if_pos g];exact⟨rfl,rfl⟩
 ·rw[if_neg g];exact⟨rfl,rfl⟩
theorem jt(h:bS H t tl L)(x:Int)(c:Bool):af Tryz.prog Bm [ptr t,i64 x,.bool c] H fun v H'=>ax (v=i64 (aZ L x c)∧H'=H):=by
 refine bm BI ?_
 refine vs ?_
 refine(gk h x).mono ?_
 rintro _ H' ⟨rfl,e⟩
 obtain rfl:=e.symm
 refine vs ?_
 refine ar.dec (fun g=>?_) (fun g=>?_)<;>refine vs ?_
 ·obtain⟨y,hy⟩:∃y,L[x.toNat]? =some y:=⟨_,aqb (by omega)⟩
  have hk:=YA hy c
  have hc:c.toNat<2:=by cases c<;>decide
  refine v1 (ae h.own) ?_
  refine⟨_,lQ H c,?_⟩
  refine⟨⟨by omega,by omega⟩,?_⟩
  refine v4 aqa Nat.add_zero aqd Int.toNat_natCast ?_
  refine⟨⟨by omega,by omega⟩,?_⟩
  refine v6 (ae h.lB) aqa Nat.add_zero aqd Int.toNat_natCast hk ?_
  rw[pP g.1 hy]
  exact⟨rfl,rfl⟩
 ·rw[S0 g]
  exact⟨rfl,rfl⟩
theorem kj(h:bS H t tl L)(x:Int):af Tryz.prog xj [ptr t,i64 x] H fun v H'=>ax (v=i64 (bk L x)∧H'=H):=by
 refine bm xP ?_
 refine vs ?_
 refine(gk h x).mono ?_
 rintro _ H' ⟨rfl,e⟩
 obtain rfl:=e.symm
 refine vs ?_
 refine ar.dec (fun g=>?_) (fun g=>?_)<;>refine vs ?_
 ·obtain⟨y,hy⟩:∃y,L[x.toNat]? =some y:=⟨_,aqb (by omega)⟩
  have hk:=(PK hy).2.2
  refine v1 (ae h.own) ?_
  refine⟨by omega,?_⟩
  refine v3 (ae h.lB) aqa hk ?_
  rw[vJ g.1 hy]
  exact⟨rfl,rfl⟩
 ·rw[OH g]
  exact⟨rfl,rfl⟩
theorem lS(h:bS H t tl L)(x:Int):af Tryz.prog zB [ptr t,i64 x] H fun v H'=>ax (v=gG (aZ L x false)∧H'=H):=by
 refine bm Ab ?_
 refine vs ?_
 refine(jt h x false).mono ?_
 rintro _ H' ⟨rfl,e⟩
 obtain rfl:=e.symm
 refine vs ?_
 refine(lR H (aZ L x false)).mono ?_
 rintro _ H' ⟨rfl,e⟩
 obtain rfl:=e.symm
 unfold gG
 by_cases g:aZ L x false= -1
 ·simp only[if_pos g]
  refine vs ?_
  exact⟨(if_pos g).symm,rfl⟩
 ·simp only[if_neg g]
  refine vs ?_
  exact⟨(if_neg g).symm,rfl⟩
theorem cD(h:bS H t tl L)(x:Int):af Tryz.prog xi [ptr t,i64 x] H fun v H'=>ax (v=gG (aZ L x true)∧H'=H):=by
 refine bm xO ?_
 refine vs ?_
 refine(jt h x true).mono ?_
 rintro _ H' ⟨rfl,e⟩
 obtain rfl:=e.symm
 refine vs ?_
 refine(lR H (aZ L x true)).mono ?_
 rintro _ H' ⟨rfl,e⟩
 obtain rfl:=e.symm
 unfold gG
 by_cases g:aZ L x true= -1
 ·simp only[if_pos g]
  refine vs ?_
  exact⟨(if_pos g).symm,rfl⟩
 ·simp only[if_neg g]
  refine vs ?_
  exact⟨(if_neg g).symm,rfl⟩
theorem pQ(h:bS H t tl L)(x:Int):af Tryz.prog C9 [ptr t,i64 x] H fun v H'=>ax (v=gG (bk L x)∧H'=H):=by
 refine bm Dn ?_
 refine vs ?_
 refine(kj h x).mono ?_
 rintro _ H' ⟨rfl,e⟩
 obtain rfl:=e.symm
 refine vs ?_
 refine(lR H (bk L x)).mono ?_
 rintro _ H' ⟨rfl,e⟩
 obtain rfl:=e.symm
 unfold gG
 by_cases g:bk L x= -1
 ·simp only[if_pos g]
  refine vs ?_
  exact⟨(if_pos g).symm,rfl⟩
 ·simp only[if_neg g]
  refine vs ?_
  exact⟨(if_neg g).symm,rfl⟩
theorem fI(h:bS H t tl L){p x:Int}{c:Bool}(hp:0≤p∧p<L.length)(hx:0≤x∧x<L.length)(ep:p≠x)(hu:bk L x= -1)(hk:aZ L p c= -1):
  af Tryz.prog zC [ptr t,i64 p,i64 x,.bool c] H fun v H'=>ax (v= .bool true∧∃L',bS H' t tl L'∧L'.length=L.length∧aZ L'=vB (aZ L) p x c∧bk L'=aK (bk L) x p∧ag (fun z=>z=tl) H H'):=by
 refine bm Ac ?_
 refine vs ?_
 refine(gk h p).mono ?_
 rintro _ H' ⟨rfl,e⟩
 obtain rfl:=e.symm
 rw[aqp hp]
 refine vs ?_
 refine(gk h x).mono ?_
 rintro _ H' ⟨rfl,e⟩
 obtain rfl:=e.symm
 rw[aqp hx]
 refine vs ?_
 refine ar.dec (fun g=>absurd g ep) (fun _=>?_)
 refine vs ?_
 refine(kj h x).mono ?_
 rintro _ H' ⟨rfl,e⟩
 obtain rfl:=e.symm
 rw[hu]
 refine v1 aqZ ?_
 refine(jt h p c).mono ?_
 rintro _ H' ⟨rfl,e⟩
 obtain rfl:=e.symm
 rw[hk]
 refine v1 aqZ ?_
 obtain⟨y,hy⟩:∃y,L[p.toNat]? =some y:=⟨_,aqb (by omega)⟩
 have hc:c.toNat<2:=by cases c<;>decide
 have o8:=iN L
 refine v1 (ae h.own) ?_
 refine⟨_,lQ H c,?_⟩
 refine⟨⟨by omega,by omega⟩,?_⟩
 refine v4 aqa Nat.add_zero aqd Int.toNat_natCast ?_
 refine⟨⟨by omega,by omega⟩,?_⟩
 refine v5 h.lB aqa Nat.add_zero aqd Int.toNat_natCast ?_
 refine⟨by omega,?_⟩
 have h1:=h.put (L':=L.set p.toNat (y.gh c x)) (by rw[aqe])
 have e1:ag (fun z=>z=tl) H (H.wr tl (flatK (L.set p.toNat (y.gh c x)))):=(ag.refl (fun z=>z=tl) _).wr (fun _=>rfl) _
 rw[←wD hy c x]at h1 e1
 have k1:=sP hp.1 hy c x
 have u1:=sQ hp.1 hy c x
 have l1:(L.set p.toNat (y.gh c x)).length=L.length:=aqe ..
 generalize L.set p.toNat (y.gh c x)=L1 at*
 refine vs ?_
 generalize H.wr tl ((flatK L).set (p.toNat*3+c.toNat) (i64 x))=H1 at*
 obtain⟨y1,Ud⟩:∃y,L1[x.toNat]? =some y:=⟨_,aqb (by omega)⟩
 have ahl:=iN L1
 refine v1 (ae h1.own) ?_
 refine⟨by omega,?_⟩
 refine v2 h1.lB aqa ?_
 refine⟨by omega,?_⟩
 have h2:=h1.put (L':=L1.set x.toNat ⟨y1.a,y1.b,p⟩) (by rw[aqe])
 have e2:ag (fun z=>z=tl) H1 (H1.wr tl (flatK (L1.set x.toNat ⟨y1.a,y1.b,p⟩))):=(ag.refl (fun z=>z=tl) _).wr (fun _=>rfl) _
 rw[←GZ Ud p]at h2 e2
 refine vs ?_
 exact⟨rfl,_,h2,by rw[aqe,l1],by rw[DL hx.1 Ud,k1];rfl,by rw[DM hx.1 Ud,u1],e1.trans e2⟩
theorem cR(h:bS H t tl L){x:Int}(hv:bk L x≠ -1→0≤bk L x∧bk L x<L.length):
  af Tryz.prog Bl [ptr t,i64 x] H fun v H'=>ax (v=gG (bk L x)∧∃L',bS H' t tl L'∧L'.length=L.length∧aZ L'=jg (aZ L) (bk L) x∧bk L'=di (bk L) x∧ag (fun z=>z=tl) H H'):=by
 refine bm BH ?_
 refine vs ?_
 refine(kj h x).mono ?_
 rintro _ H' ⟨rfl,e⟩
 obtain rfl:=e.symm
 refine vs ?_
 have o8:=iN L
 refine ar.dec (fun g=>?_) (fun g=>?_)<;>refine vs ?_
 ·refine⟨by unfold gG;rw[if_pos g];rfl,L,h,rfl,by unfold jg;rw[if_pos g],?_,ag.refl _ _⟩
  funext z
  unfold di aK
  split
  ·rename_i hz;rw[hz,g]
  ·rfl
 have hx:0≤x∧x<L.length:=aqt fun hn=>g (OH hn)
 obtain⟨p0,p1⟩:=hv g
 generalize hpe:bk L x=p at*
 obtain⟨y,hy⟩:∃y,L[p.toNat]? =some y:=⟨_,aqb (by omega)⟩
 have hc:∀c:Bool,c.toNat<2:=fun c=>by cases c<;>decide
 refine v1 (ae h.own) ?_
 refine⟨_,jt h p true,?_⟩
 refine vs ?_
 refine⟨_,lQ H (decide (aZ L p true=x)),?_⟩
 have YB:decide (aZ L p true=x)=(aZ L p true==x):=by by_cases e:aZ L p true=x<;>simp[e]
 rw[YB]
 have MU:=hc (aZ L p true==x)
 generalize hce:(aZ L p true==x)=c at*
 refine⟨⟨by omega,by omega⟩,?_⟩
 refine v4 aqa Nat.add_zero aqd Int.toNat_natCast ?_
 refine⟨⟨by omega,by omega⟩,?_⟩
 refine v5 h.lB aqa Nat.add_zero aqd Int.toNat_natCast ?_
 refine⟨by omega,?_⟩
 have h1:=h.put (L':=L.set p.toNat (y.gh c (-1))) (by rw[aqe])
 have e1:ag (fun z=>z=tl) H (H.wr tl (flatK (L.set p.toNat (y.gh c (-1))))):=(ag.refl (fun z=>z=tl) _).wr (fun _=>rfl) _
 rw[←wD hy c (-1)]at h1 e1
 have k1:=sP p0 hy c (-1)
 have u1:=sQ p0 hy c (-1)
 have l1:(L.set p.toNat (y.gh c (-1))).length=L.length:=aqe ..
 generalize L.set p.toNat (y.gh c (-1))=L1 at*
 refine vs ?_
 generalize H.wr tl ((flatK L).set (p.toNat*3+c.toNat) (i64 (-1)))=H1 at*
 obtain⟨y1,Ud⟩:∃y,L1[x.toNat]? =some y:=⟨_,aqb (by omega)⟩
 have ahl:=iN L1
 refine v1 (ae h1.own) ?_
 refine⟨by omega,?_⟩
 refine v2 h1.lB aqa ?_
 refine⟨by omega,?_⟩
 have h2:=h1.put (L':=L1.set x.toNat ⟨y1.a,y1.b, -1⟩) (by rw[aqe])
 have e2:ag (fun z=>z=tl) H1 (H1.wr tl (flatK (L1.set x.toNat ⟨y1.a,y1.b, -1⟩))):=(ag.refl (fun z=>z=tl) _).wr (fun _=>rfl) _
 rw[←GZ Ud (-1)]at h2 e2
 refine vs ?_
 refine⟨by unfold gG;rw[if_neg g];rfl,_,h2,by rw[aqe,l1],?_,by rw[DM hx.1 Ud,u1];rfl,e1.trans e2⟩
 rw[DL hx.1 Ud,k1]
 unfold jg
 rw[hpe,if_neg g,hce]
theorem S6{L:List Lk}{p:Int}{y:Lk}(h0:0≤p)(h:L[p.toNat]? =some y):aZ (L.set p.toNat ⟨y.b,y.a,y.u⟩)=nQ (aZ L) p∧bk (L.set p.toNat ⟨y.b,y.a,y.u⟩)=bk L:=by
 have aN:=(aqc.1 h).1
 constructor
 ·funext z d
  unfold nQ
  by_cases hz:z=p
  ·subst hz
   rw[pP h0 (aqi aN),if_pos rfl,pP h0 h]
   cases d<;>rfl
  ·rw[if_neg hz]
   unfold aZ
   split
   ·rw[aqh (by omega)]
   ·rfl
 ·funext z
  by_cases hz:z=p
  ·subst hz
   rw[vJ h0 (aqi aN),vJ h0 h]
  ·unfold bk
   split
   ·rw[aqh (by omega)]
   ·rfl
theorem OI{L:List Lk}{i:Nat}{y:Lk}(hi:L[i]? =some y):((flatK L).set (i*3) (i64 y.b)).set (i*3+1) (i64 y.a)=flatK (L.set i ⟨y.b,y.a,y.u⟩):=by
 induction L generalizing i with
 |nil=>simp at hi
 |cons a r ih=>
  have e:flatK (a::r)=i64 a.a::i64 a.b::i64 a.u::flatK r:=rfl
  cases i with
  |zero=>simp at hi;subst hi;rfl
  |succ i=>
   have e2:flatK ((a::r).set (i+1) ⟨y.b,y.a,y.u⟩)=i64 a.a::i64 a.b::i64 a.u::flatK (r.set i ⟨y.b,y.a,y.u⟩):=rfl
   rw[e,e2,show(i+1)*3=i*3+1+1+1 by omega,show i*3+1+1+1+1=i*3+1+1+1+1 by rfl]
   simp only[aqU]
   rw[ih (by simpa using hi)]
theorem lT(h:bS H t tl L){p:Int}(hp:0≤p∧p<L.length):
  af Tryz.prog zD [ptr t,i64 p] H fun v H'=>ax (v= .bool true∧∃L',bS H' t tl L'∧L'.length=L.length∧aZ L'=nQ (aZ L) p∧bk L'=bk L∧ag (fun z=>z=tl) H H'):=by
 refine bm Ad ?_
 refine vs ?_
 refine(gk h p).mono ?_
 rintro _ H' ⟨rfl,e⟩
 obtain rfl:=e.symm
 rw[aqp hp]
 obtain⟨y,hy⟩:∃y,L[p.toNat]? =some y:=⟨_,aqb (by omega)⟩
 have o8:=iN L
 obtain⟨a1,a2,a3⟩:=PK hy
 refine v1 (ae h.own) ?_
 refine⟨by omega,?_⟩
 refine vs ?_
 have n1:Int.toNat 1=1:=rfl
 refine⟨⟨by omega,by omega⟩,?_⟩
 refine v8 (ae h.lB) aqa Nat.add_zero aqd Int.toNat_zero n1 a1 a2 ?_
 refine⟨⟨by omega,by omega⟩,?_⟩
 refine v8 (ae h.lB) aqa Nat.add_zero aqd Int.toNat_zero n1 a1 a2 ?_
 refine⟨⟨by omega,by omega⟩,?_⟩
 refine v6 h.lB aqa Nat.add_zero aqd Int.toNat_zero n1 ?_
 refine⟨by omega,?_⟩
 refine vs ?_
 refine⟨⟨by omega,by omega⟩,?_⟩
 have o1:(H.wr tl ((flatK L).set (p.toNat*3) (i64 y.b))).own tl=_:=ai h.lB
 have e1:ag (fun z=>z=tl) H (H.wr tl ((flatK L).set (p.toNat*3) (i64 y.b))):=(ag.refl (fun z=>z=tl) _).wr (fun _=>rfl) _
 have w1:=e1.own h.own h.ne
 generalize H.wr tl ((flatK L).set (p.toNat*3) (i64 y.b))=H1 at*
 refine v6 o1 aqa Nat.add_zero aqd Int.toNat_zero n1 ?_
 refine⟨by rw[aqe];omega,?_⟩
 have e2:ag (fun z=>z=tl) H1 (H1.wr tl (((flatK L).set (p.toNat*3) (i64 y.b)).set (p.toNat*3+1) (i64 y.a))):=(ag.refl (fun z=>z=tl) _).wr (fun _=>rfl) _
 have o2:(H1.wr tl (((flatK L).set (p.toNat*3) (i64 y.b)).set (p.toNat*3+1) (i64 y.a))).own tl=_:=ai o1
 refine vs ?_
 obtain⟨k1,k2⟩:=S6 hp.1 hy
 refine⟨rfl,L.set p.toNat ⟨y.b,y.a,y.u⟩,⟨by rw[aqe];exact e2.own w1 h.ne,by rw[←OI hy];exact o2,h.ne⟩,aqe ..,k1,k2,e1.trans e2⟩
end
theorem PL(n:Nat):aV [Value.int .i64 0,Value.int .i64 0,Value.int .i64 0] n=flatK (List.replicate n ⟨0,0,0⟩):=by
 unfold aV
 induction n with
 |zero=>rfl
 |succ n ih=>rw[aqQ,aq4,ih,aqQ];rfl
theorem JH{L:List Lk}{i:Nat}(hi:i<L.length)(y:Lk):bh (flatK L) (i*3) [i64 y.a,i64 y.b,i64 y.u]=flatK (L.set i y):=by
 simp only[bh]
 induction L generalizing i with
 |nil=>simp at hi
 |cons a r ih=>
  have e:flatK (a::r)=i64 a.a::i64 a.b::i64 a.u::flatK r:=rfl
  cases i with
  |zero=>rfl
  |succ i=>
   have e2:flatK ((a::r).set (i+1) y)=i64 a.a::i64 a.b::i64 a.u::flatK (r.set i y):=rfl
   rw[e,e2,show(i+1)*3=i*3+1+1+1 by omega]
   simp only[aqU]
   rw[ih (by simpa using hi)]
def jF:Lk:=⟨-1, -1, -1⟩
theorem vK(H:Hp){n:Int}(hn:0≤n∧n≤65536):af Tryz.prog Mm [i64 n] H fun v H'=>ax (∃t tl,v= .tuple [ptr t,i64 0].toArray∧bS H' t tl (List.replicate n.toNat jF)∧ah H H'∧H.size≤t∧H.size≤tl):=by
 refine bm Mw ?_
 refine vs ?_
 refine ar.dec (fun g=>absurd g (by omega)) (fun _=>?_)
 refine vs ?_
 refine ar.dec (fun g=>absurd g (by omega)) (fun _=>?_)
 refine vs ?_
 refine⟨⟨by omega,by omega,by omega,by omega⟩,?_⟩
 refine vs ?_
 rw[PL]
 have f0:ah H ((H.new 285 (flatK (List.replicate n.toNat ⟨0,0,0⟩))).new 283 [.slice (some ⟨H.size,0,none⟩) n.toNat n.toNat]):=((ag.refl _ _).new _ _).new _ _
 have t0:bS ((H.new 285 (flatK (List.replicate n.toNat ⟨0,0,0⟩))).new 283 [.slice (some ⟨H.size,0,none⟩) n.toNat n.toNat]) (H.size+1) H.size (List.replicate n.toNat ⟨0,0,0⟩):=by
  refine⟨?_,?_,by omega⟩
  ·rw[aqV]
   exact bz (by simp only[am])
  ·rw[cA (by simp only[am];omega),az]
 generalize (H.new 285 (flatK (List.replicate n.toNat ⟨0,0,0⟩))).new 283 [.slice (some ⟨H.size,0,none⟩) n.toNat n.toNat]=H1 at*
 have ow:=t0.own
 rw[aqV]at ow
 refine aY.intro (fun m env H'=>∃j:Nat,m=n.toNat - j∧j≤n.toNat∧ag (fun z=>z=H.size) H1 H'∧bS H' (H.size+1) H.size (List.replicate j jF++List.replicate (n.toNat - j) ⟨0,0,0⟩)∧
  env=[(4,ptr (H.size+1)),(20,i64 (n.toNat:Nat)),(21,i64 j)]) n.toNat ⟨0,by omega,by omega,ag.refl _ _,t0,rfl⟩ ?_
 rintro m env H2 ⟨j,rfl,hj,e2,t2,rfl⟩
 have o8:=iN (List.replicate j jF++List.replicate (n.toNat - j) (⟨0,0,0⟩:Lk))
 have tP:(List.replicate j jF++List.replicate (n.toNat - j) (⟨0,0,0⟩:Lk)).length=n.toNat:=by simp;omega
 have o2:=t2.own
 rw[tP]at o8 o2
 refine vs ?_
 refine ar.dec (fun aN=>?_) (fun aN=>?_)<;>refine vs ?_
 ·first|refine v1 (ae o2) ?_|skip
  refine⟨by omega,?_⟩
  refine v3 t2.lB aqa Int.toNat_natCast ?_
  refine⟨by omega,?_⟩
  have e3:=JH (L:=List.replicate j jF++List.replicate (n.toNat - j) (⟨0,0,0⟩:Lk)) (i:=j) (by omega) jF
  have e4:(List.replicate j jF++List.replicate (n.toNat - j) (⟨0,0,0⟩:Lk)).set j jF=List.replicate (j+1) jF++List.replicate (n.toNat - (j+1)) (⟨0,0,0⟩:Lk):=by
   rw[asa _ _ (by simp),aqV,ari,show n.toNat - j=(n.toNat - (j+1))+1 by omega,aqQ,arv,ar1]
   simp
  rw[e4]at e3
  have t3:=t2.put (L':=List.replicate (j+1) jF++List.replicate (n.toNat - (j+1)) (⟨0,0,0⟩:Lk)) (by simp;omega)
  have e5:ag (fun z=>z=H.size) H1 (H2.wr H.size (flatK (List.replicate (j+1) jF++List.replicate (n.toNat - (j+1)) (⟨0,0,0⟩:Lk)))):=e2.wr (fun _=>rfl) _
  rw[show bh (flatK (List.replicate j jF++List.replicate (n.toNat - j) (⟨0,0,0⟩:Lk))) (j*3) (aH (Value.agg #[Value.int .i64 (-1),Value.int .i64 (-1),Value.int .i64 (-1)]))=_ from e3]
  refine vs ?_
  rw[wrap64 (n:=(j:Int)+1) (by omega) (by omega)]
  exact⟨n.toNat - (j+1),by omega,j+1,rfl,by omega,e5,t3,rfl⟩
 ·have ie:j=n.toNat:=by omega
  subst ie
  rw[ari,asd,aq2]at t2
  exact⟨_,_,rfl,t2,f0.then e2 (fun z hz=>by omega),by omega,by omega⟩
end Go.Proofs.YthpjfeolagohkaaGreat

namespace Go.Proofs.YthpjfeolagohkaaGreat
open Go Go.Vc
structure LB where
 n:Nat
 c:Nat
 t:Nat
 tl:Nat
 rk:Nat
 tp:Nat
structure dh(H:Hp)(B:LB)(C:Nat→Prop)(w:Nw)(L:List Lk)(rs tops:List Int):Prop where
 own:∃tv,H.own B.n=some [ptr B.c,ptr B.t,.slice (some ⟨B.rk,0,none⟩) rs.length rs.length,tv]∧Sl H 1 tv tops.length (tops.map i64) (some B.tp)
 cells:CQ H B.c C w
 ce:bS H B.t B.tl L
 DN:H.own B.rk=some (rs.map i64)
 len:L.length=w.cs.length∧rs.length=w.cs.length
 mG:(B.n≠B.t∧B.n≠B.tl∧B.n≠B.rk∧B.n≠B.tp)∧(B.t≠B.tl∧B.t≠B.rk∧B.t≠B.tp)∧(B.tl≠B.rk∧B.tl≠B.tp)∧B.rk≠B.tp
 out:¬C B.n∧¬C B.t∧¬C B.tl∧¬C B.rk∧¬C B.tp
def LB.S(B:LB)(C:Nat→Prop)(z:Nat):Prop:=C z∨z=B.n∨z=B.t∨z=B.tl∨z=B.rk∨z=B.tp
section
variable {H H' : Hp} {B : LB} {C T : Nat → Prop} {w w' : Nw} {L L' : List Lk} {rs tops : List Int}
theorem dh.slt(h:dh H B C w L rs tops):∀z,B.S C z→z<H.size:=by
 obtain⟨tv,h1,h2⟩:=h.own
 rintro z (hz|rfl|rfl|rfl|rfl|rfl)
 ·exact h.cells.slt z hz
 ·exact aB h1
 ·exact aB h.ce.own
 ·exact aB h.ce.lB
 ·exact aB h.DN
 ·exact h2.lt
theorem dh.ext(h:dh H B C w L rs tops)(e:ag T H H')(hd:∀z,B.S C z→¬T z):dh H' B C w L rs tops:=by
 obtain⟨tv,h1,h2⟩:=h.own
 exact⟨⟨tv,e.own h1 (hd _ (.inr (.inl rfl))),h2.ext e (fun b hb=>by injection hb with hb;exact hb▸hd _ (.inr (.inr (.inr (.inr (.inr rfl))))))⟩,h.cells.ext e (fun x hx=>hd x (.inl hx)),
  h.ce.ext e (hd _ (.inr (.inr (.inl rfl)))) (hd _ (.inr (.inr (.inr (.inl rfl))))),e.own h.DN (hd _ (.inr (.inr (.inr (.inr (.inl rfl)))))),h.len,h.mG,h.out⟩
theorem dh.fresh(h:dh H B C w L rs tops)(e:ah H H'):dh H' B C w L rs tops:=h.ext e fun _ _ h=>h
theorem dh.aI(h:dh H B C w L rs tops)(c1:CQ H' B.c C w')(e:ag C H H')(hl:w'.cs.length=w.cs.length):dh H' B C w' L rs tops:=by
 obtain⟨tv,h1,h2⟩:=h.own
 obtain⟨o1,o2,o3,o4,o5⟩:=h.out
 exact⟨⟨tv,e.own h1 o1,h2.ext e (fun b hb=>by injection hb with hb;exact hb▸o5)⟩,c1,h.ce.ext e o2 o3,e.own h.DN o4,by rw[hl];exact h.len,h.mG,h.out⟩
theorem dh.dZ(h:dh H B C w L rs tops)(t1:bS H' B.t B.tl L')(e:ag (fun z=>z=B.tl) H H')(hl:L'.length=L.length):dh H' B C w L' rs tops:=by
 obtain⟨tv,h1,h2⟩:=h.own
 obtain⟨o1,o2,o3,o4,o5⟩:=h.out
 obtain⟨⟨d1,d2,d3,d4⟩,⟨d5,d6,d7⟩,⟨d8,d9⟩,d10⟩:=h.mG
 exact⟨⟨tv,e.own h1 d2,h2.ext e (fun b hb=>by injection hb with hb;omega)⟩,h.cells.ext e (fun x hx hz=>o3 (hz▸hx)),t1,e.own h.DN (by omega),by rw[hl];exact h.len,h.mG,h.out⟩
theorem dh.OJ(h:dh H B C w L rs tops)(i:Nat)(v:Int):dh (H.wr B.rk ((rs.map i64).set i (i64 v))) B C w L (rs.set i v) tops∧ag (fun z=>z=B.rk) H (H.wr B.rk ((rs.map i64).set i (i64 v))):=by
 obtain⟨tv,h1,h2⟩:=h.own
 obtain⟨o1,o2,o3,o4,o5⟩:=h.out
 obtain⟨⟨d1,d2,d3,d4⟩,⟨d5,d6,d7⟩,⟨d8,d9⟩,d10⟩:=h.mG
 have e:ag (fun z=>z=B.rk) H (H.wr B.rk ((rs.map i64).set i (i64 v))):=(ag.refl (fun z=>z=B.rk) _).wr (fun _=>rfl) _
 refine⟨⟨⟨tv,by rw[aqe];exact e.own h1 d3,h2.ext e (fun b hb=>by injection hb with hb;omega)⟩,h.cells.ext e (fun x hx hz=>o4 (hz▸hx)),h.ce.ext e (by omega) (by omega),?_,by rw[aqe];exact h.len,h.mG,h.out⟩,e⟩
 rw[aqP]
 exact ai h.DN
theorem dh.gm(h:dh H B C w L rs tops):∃c l,H.own B.n=some [ptr B.c,ptr B.t,.slice (some ⟨B.rk,0,none⟩) rs.length rs.length,.slice (some ⟨B.tp,0,none⟩) tops.length c]∧H.own B.tp=some l∧tops.length≤c∧c≤l.length∧l.take tops.length=tops.map i64:=by
 obtain⟨tv,h1,_,l,c,rfl,h3,h4,h5,h6⟩:=h.own
 rw[aqd]at h5 h6
 exact⟨c,l,h1,h3,h4,h5,h6⟩
theorem dh.fC(h:dh H B C w L rs tops){l:List Value}(hl:H.own B.tp=some l){i:Nat}{x:Int}(hx:tops[i]? =some x):l[i]? =some (i64 x):=by
 obtain⟨c,l',_,h2,_,_,h5⟩:=h.gm
 rw[hl]at h2
 injection h2 with h2
 subst h2
 have h7:(tops.map i64)[i]? =some (i64 x):=by rw[aqz,hx];rfl
 rw[←h5,aqG]at h7
 split at h7
 ·exact h7
 ·cases h7
theorem dh.lC(h:dh H B C w L rs tops){l:List Value}(hl:H.own B.tp=some l)(i:Nat)(v:Int):dh (H.wr B.tp (l.set i (i64 v))) B C w L rs (tops.set i v)∧ag (fun z=>z=B.tp) H (H.wr B.tp (l.set i (i64 v))):=by
 obtain⟨c,l',h1,h2,h3,h4,h5⟩:=h.gm
 rw[hl]at h2
 injection h2 with h2
 subst h2
 obtain⟨o1,o2,o3,o4,o5⟩:=h.out
 obtain⟨⟨d1,d2,d3,d4⟩,⟨d5,d6,d7⟩,⟨d8,d9⟩,d10⟩:=h.mG
 have e:ag (fun z=>z=B.tp) H (H.wr B.tp (l.set i (i64 v))):=(ag.refl (fun z=>z=B.tp) _).wr (fun _=>rfl) _
 refine⟨⟨⟨_,e.own h1 d4,?_⟩,h.cells.ext e (fun x hx hz=>o5 (hz▸hx)),h.ce.ext e (by omega) (by omega),e.own h.DN (by omega),h.len,h.mG,h.out⟩,e⟩
 refine⟨by simp,l.set i (i64 v),c,by rw[aqe],ai hl,by rw[aqe];exact h3,by rw[aqe,aqd];exact h4,?_⟩
 rw[aqe,aqd,wA,h5,aqP]
theorem cE(H:Hp)(x:Int):∀ (a:Int) (b:Bool),gG x= .tuple [i64 a,.bool b].toArray→af Tryz.prog Ip [i64 a,.bool b] H fun v H'=>ax (v=i64 x∧H'=H):=by
 intro a b he
 unfold gG at he
 refine bm ID ?_
 refine vs ?_
 have h2:∀ {p q:Int} {r s:Bool},Value.tuple [i64 p,Value.bool r].toArray=Value.tuple [i64 q,Value.bool s].toArray→p=q∧r=s:=fun h=>by
  have h3:=aqv Array.toList (Value.tuple.inj h)
  injection h3 with h4 h5
  injection h4 with _ h4
  injection h5 with h5 _
  injection h5 with h5
  exact⟨h4,h5⟩
 split at he
 ·rename_i hx
  obtain⟨rfl,rfl⟩:=h2 he
  refine vs ?_
  rw[hx]
  exact⟨rfl,rfl⟩
 ·obtain⟨rfl,rfl⟩:=h2 he
  refine vs ?_
  exact⟨rfl,rfl⟩
theorem cS(x:Int):∃ (a:Int) (b:Bool),gG x= .tuple [i64 a,.bool b].toArray:=by
 unfold gG
 split
 ·exact⟨_,_,rfl⟩
 ·exact⟨_,_,rfl⟩
def rkF(rs:List Int)(x:Int):Int:=if x= -1 then 0 else rs.getD x.toNat 0
theorem eT(h:dh H B C w L rs tops){x:Int}(hx:x≠ -1→0≤x∧x<w.cs.length):af Tryz.prog uc [ptr B.n,i64 x] H fun v H'=>ax (v=i64 (rkF rs x)∧H'=H):=by
 obtain⟨tv,h1,h2⟩:=h.own
 have hl:=h.len
 refine bm us ?_
 refine vs ?_
 refine ar.dec (fun g=>?_) (fun g=>?_)<;>refine vs ?_
 ·unfold rkF
  rw[if_pos g]
  exact⟨rfl,rfl⟩
 have hx:=hx g
 have hr:(rs.map i64)[x.toNat]? =some (i64 (rkF rs x)):=by
  unfold rkF
  rw[if_neg g,aqz,aqf,aqb (by omega)]
  rfl
 refine v1 (ae h1) ?_
 refine⟨⟨by omega,by omega⟩,?_⟩
 refine v4 (ae h.DN) aqa aqd hr ?_
 exact⟨rfl,rfl⟩
theorem gM(h:dh H B C w L rs tops){x:Int}(hx:0≤x∧x<w.cs.length)(hk:∀c,aZ L x c≠ -1→0≤aZ L x c∧aZ L x c<w.cs.length):
  af Tryz.prog ub [ptr B.n,i64 x] H fun v H'=>ax (∃L' Vu,dh H' B C w L' Vu tops∧(aZ L'=aZ L∨aZ L'=nQ (aZ L) x)∧bk L'=bk L∧ag (fun z=>z=B.tl∨z=B.rk) H H'):=by
 obtain⟨tv,h1,h2⟩:=h.own
 have hl:=h.len
 refine bm ur ?_
 refine v1 (ae h1) ?_
 obtain⟨a1,b1,e1⟩:=cS (aZ L x false)
 obtain⟨a2,b2,e2⟩:=cS (aZ L x true)
 refine⟨.tuple [i64 a1,.bool b1].toArray,(lS h.ce x).mono (by rintro v H' ⟨rfl,rfl⟩;exact⟨e1,rfl⟩),?_⟩
 refine vs ?_
 refine⟨_,cE H _ a1 b1 e1,?_⟩
 refine v1 (ae h1) ?_
 refine(cD h.ce x).mono ?_
 rintro _ H' ⟨rfl,e⟩
 obtain rfl:=e.symm
 rw[e2]
 refine vs ?_
 refine(cE H _ a2 b2 e2).mono ?_
 rintro _ H' ⟨rfl,e⟩
 obtain rfl:=e.symm
 refine vs ?_
 refine(eT h (hk false)).mono ?_
 rintro _ H' ⟨rfl,e⟩
 obtain rfl:=e.symm
 refine vs ?_
 refine(eT h (hk true)).mono ?_
 rintro _ H' ⟨rfl,e⟩
 obtain rfl:=e.symm
 refine vs ?_
 refine ar.dec (fun g=>?_) (fun g=>?_)<;>refine vs ?_
 ·refine v1 (ae h1) ?_
  refine(lT h.ce (p:=x) (by omega)).mono ?_
  rintro _ H1 ⟨rfl,L1,t1,l1,k1,u1,e1⟩
  have m1:=h.dZ t1 e1 l1
  obtain⟨DO,o1,_⟩:=m1.own
  refine v1 (ae o1) ?_
  refine⟨_,eT m1 (hk false),?_⟩
  refine vs ?_
  refine⟨⟨by omega,by omega⟩,?_⟩
  refine v3 m1.DN aqa aqd ?_
  refine⟨by rw[aqr];omega,?_⟩
  obtain⟨m2,e2⟩:=m1.OJ x.toNat (IntKind.i64.wrap (rkF rs (aZ L x false)+1))
  refine vs ?_
  exact⟨L1,_,m2,.inr k1,u1,(e1.mono fun z _ hz=>.inl hz).trans (e2.mono fun z _ hz=>.inr hz)⟩
 ·refine v1 (ae h1) ?_
  refine⟨_,eT h (hk true),?_⟩
  refine vs ?_
  refine⟨⟨by omega,by omega⟩,?_⟩
  refine v3 h.DN aqa aqd ?_
  refine⟨by rw[aqr];omega,?_⟩
  obtain⟨m2,e2⟩:=h.OJ x.toNat (IntKind.i64.wrap (rkF rs (aZ L x true)+1))
  refine vs ?_
  exact⟨L,_,m2,.inl rfl,rfl,e2.mono fun z _ hz=>.inr hz⟩
abbrev B6(w:Nw)(L:List Lk):Prop:=Bt (aG w) (aQ w) (aZ L) (bk L)
theorem B6.rH{w:Nw}{L:List Lk}(h:B6 w L){x:Int}{c:Bool}(hk:aZ L x c≠ -1):0≤aZ L x c∧aZ L x c<w.cs.length:=by
 obtain⟨_,_,h1,h2,_⟩:=Bt.home h hk
 obtain⟨a,b,_⟩:=aF (w:=w) (x:=aZ L x c) (by omega)
 omega
theorem B6.up{w:Nw}{L:List Lk}(h:B6 w L){x:Int}(hu:bk L x≠ -1):0≤bk L x∧bk L x<w.cs.length∧aQ w (bk L x) x=true∧aG w (bk L x)=aG w x:=by
 obtain⟨_,_,h1,h2,h3⟩:=h.uk x _ rfl hu
 obtain⟨a,b,_⟩:=aF (w:=w) (x:=bk L x) (by omega)
 exact⟨by omega,by omega,h3,h1⟩
theorem ju(h:dh H B C w L rs tops)(hb:B6 w L){x:Int}(hx:x≠ -1→0<aG w x):
  af Tryz.prog xh [ptr B.n,i64 x] H fun v H'=>ax (∃L' Vu,dh H' B C w L' Vu tops∧B6 w L'∧bk L'=bk L∧ag (fun z=>z=B.tl∨z=B.rk) H H'):=by
 refine bm xN ?_
 refine vs ?_
 refine aY.intro (fun m env H'=>∃ (x:Int) (L':List Lk) (Vu:List Int),m=(if x= -1 then 0 else Ol (aQ w) w.cs.length x+1)∧(x≠ -1→0<aG w x)∧dh H' B C w L' Vu tops∧B6 w L'∧bk L'=bk L∧ag (fun z=>z=B.tl∨z=B.rk) H H'∧
  env=[(0,ptr B.n),(1,i64 x)]) _ ⟨x,L,rs,rfl,hx,h,hb,rfl,ag.refl _ _,rfl⟩ ?_
 rintro m env H1 ⟨y,L1,rs1,rfl,hy,m1,b1,u1,e1,rfl⟩
 refine vs ?_
 refine ar.dec (fun g=>?_) (fun g=>?_)<;>refine vs ?_
 ·exact⟨L1,rs1,m1,b1,u1,e1⟩
 obtain⟨y0,y1,_⟩:=aF (hy g)
 obtain⟨tv,o1,_⟩:=m1.own
 have uF:=m1.len
 obtain⟨r,hr⟩:∃r,(rs1.map i64)[y.toNat]? =some (i64 r):=⟨rs1[y.toNat]'(by omega),by rw[aqz,aqb (by omega)];rfl⟩
 refine v1 (ae o1) ?_
 refine⟨⟨by omega,by omega⟩,?_⟩
 refine v4 (ae m1.DN) aqa aqd hr ?_
 refine(gM m1 ⟨y0,y1⟩ (fun c hk=>b1.rH hk)).mono ?_
 rintro v2 H2 ⟨L2,rs2,m2,k2,u2,e2⟩
 have b2:B6 w L2:=by
  rcases k2 with k2|k2
  ·show Bt _ _ _ _
   rw[k2,u2];exact b1
  ·show Bt _ _ _ _
   rw[k2,u2];exact Bt.uA b1 y
 obtain⟨OK,o2,_⟩:=m2.own
 have tP:=m2.len
 have pg:=e1.trans e2
 obtain⟨r2,AH⟩:∃r,(rs2.map i64)[y.toNat]? =some (i64 r):=⟨rs2[y.toNat]'(by omega),by rw[aqz,aqb (by omega)];rfl⟩
 refine v1 (ae o2) ?_
 refine⟨⟨by omega,by omega⟩,?_⟩
 refine v4 (ae m2.DN) aqa aqd AH ?_
 refine ar.dec (fun g2=>?_) (fun g2=>?_)<;>refine vs ?_
 ·exact⟨L2,rs2,m2,b2,u2.trans u1,pg⟩
 refine v1 (ae o2) ?_
 refine(pQ m2.ce y).mono ?_
 rintro _ H' ⟨rfl,e⟩
 obtain rfl:=e.symm
 obtain⟨a1,c1,ea⟩:=cS (bk L2 y)
 rw[ea]
 refine vs ?_
 refine(cE H2 _ a1 c1 ea).mono ?_
 rintro _ H' ⟨rfl,e⟩
 obtain rfl:=e.symm
 refine vs ?_
 refine⟨_,?_,bk L2 y,L2,rs2,rfl,fun hu=>?_,m2,b2,u2.trans u1,pg,rfl⟩
 ·rw[if_neg g]
  split
  ·omega
  ·rename_i hu
   have:=b2.up hu
   have:=FM (aw w) (n:=w.cs.length) (p:=bk L2 y) (x:=y) (by omega) this.2.2.1
   omega
 ·have:=b2.up hu
  rw[this.2.2.2]
  exact hy g
end
end Go.Proofs.YthpjfeolagohkaaGreat

namespace Go.Proofs.YthpjfeolagohkaaGreat
open Go Go.Vc
theorem Sl.shape{H:Hp}{w:Value}{n:Nat}{xs:List Value}{fp:Option Nat}(h:Sl H 1 w n xs fp):∃a c,w= .slice a n c:=by
 obtain⟨h1,h2⟩:=h
 cases fp with
 |none=>obtain⟨rfl,rfl⟩:=h2;exact⟨none,0,rfl⟩
 |some b=>obtain⟨l,c,rfl,_⟩:=h2;exact⟨_,c,rfl⟩
theorem Sl.Ao{H:Hp}{a:Option Addr}{n c:Nat}{xs:List Int}{fp:Option Nat}(h:Sl H 1 (.slice a n c) n (xs.map i64) fp){i:Nat}{x:Int}(hx:xs[i]? =some x):
  i<n∧∃b lb,a=some ⟨b,0,none⟩∧H.own b=some lb∧lb[i]? =some (i64 x):=by
 cases fp with
 |none=>
  have h1:=h.1
  have h2:=h.2.1
  have:=(aqc.1 hx).1
  rw[aqr]at h1
  omega
 |some b=>
  obtain⟨h1,h2,lb,h3,h4⟩:=Sl.num h hx
  exact⟨h1,b,lb,h2,h3,h4⟩
section
variable {H : Hp} {B : LB} {C : Nat → Prop} {w : Nw} {L : List Lk} {rs tops : List Int}
theorem iy(h:dh H B C w L rs tops){g a0 b0:Int}{R:Int→Prop}(m:Mg (aG w) (aQ w) g R (aZ L) (bk L) [] a0 b0):
  af Tryz.prog vf [ptr B.n,i64 a0,i64 b0] H fun v H'=>ax (∃r L' Vu,v=i64 r∧dh H' B C w L' Vu tops∧Mg (aG w) (aQ w) g R (aZ L') (bk L') [] r (-1)∧
   (∀x0,xT (aQ w) (aZ L) (bk L) x0 (aZ L) (bk L) [] a0 b0→xT (aQ w) (aZ L) (bk L) x0 (aZ L') (bk L') [] r (-1))∧ag (fun z=>C z∨z=B.tl∨z=B.rk) H H'):=by
 refine bm vw ?_
 refine vs ?_
 have xW:=h.cells.Fe
 refine aY.intro (fun mm env H'=>∃ (a b:Int) (ec:List Int) (wv:Value) (fp:Option Nat) (L':List Lk),mm=w.cs.length - ec.length∧dh H' B C w L' rs tops∧Mg (aG w) (aQ w) g R (aZ L') (bk L') ec a b∧
  (∀x0,xT (aQ w) (aZ L) (bk L) x0 (aZ L) (bk L) [] a0 b0→xT (aQ w) (aZ L) (bk L) x0 (aZ L') (bk L') ec a b)∧
  (∀z,fp=some z→H.size≤z)∧Sl H' 1 wv ec.length (ec.map i64) fp∧ag (fun z=>C z∨z=B.tl∨z=B.rk∨H.size≤z) H H'∧
  env=[(0,ptr B.n),(1,i64 a),(2,i64 b),(7,wv)]) _ ⟨a0,b0,[],_,none,L,rfl,h,m,(fun _ h=>h),(fun z h=>by cases h),Sl.nil _ _,ag.refl _ _,rfl⟩ ?_
 rintro mm env H1 ⟨a,b,ec,wv,fp,L1,rfl,l1,m1,f1,eB,s1,e1,rfl⟩
 have z1:=e1.size
 clear m
 refine vs ?_
 refine ar.dec (fun ga=>?A) (fun ga=>?_)<;>refine vs ?_
 rotate_left
 refine ar.dec (fun gb=>?B) (fun gb=>?_)<;>refine vs ?_
 rotate_left
 ·obtain⟨DO,o1,_⟩:=l1.own
  refine v1 (ae o1) ?_
  refine(cN l1.cells b a).mono ?_
  rintro _ H2 ⟨rfl,c2,e2⟩
  have l2:=l1.aI c2 e2 rfl
  have s2:=s1.ext e2 (fun z hz ed=>by have:=eB z hz;have:=h.slt z (.inl ed);omega)
  have z2:=e2.size
  have ha:=m1.wa.resolve_left ga
  have hb:=m1.wb.resolve_left gb
  have AG:=gX (w:=w) (a:=b) (b:=a) (by rw[hb.1];exact m1.pos) (by rw[ha.1];exact m1.pos)
  have aR:a≠b:=fun e=>ga (m1.ab e)
  rw[AG]
  cases aN:aQ w b a
  ·refine vs ?_
   have hl:aQ w a b=true:=((aw w).PA a b aR).resolve_right (by rw[aN];simp)
   have mm:Mg (aG w) (aQ w) g R (aZ L1) (bk L1) ec a b:=m1
   have Oy:0<aG w a:=by rw[(mm.wa.resolve_left ga).1];exact mm.pos
   obtain⟨p0,p1,_⟩:=aF Oy
   have m3:=mm.Sv (aw w) ga gb hl
   have wl:(ec++[a]).length≤w.cs.length:=cf (m3.nodup (aw w)) fun x hx=>by
    have OC:=(m3.wy x hx).2.1
    have AO:=m3.pos
    obtain⟨x0,x1,_⟩:=aF (w:=w) (x:=x) (by omega)
    exact⟨x0,x1⟩
   rw[aqj,aqn]at wl
   refine BS (B:=H.size) eB (by omega) s2 a (by omega) fun w' H3 bI ix s3 e3=>?_
   refine vs ?_
   have l3:=l2.ext e3 (fun z hz ed=>by have:=h.slt z hz;omega)
   obtain⟨tv3,o3,_⟩:=l3.own
   refine v1 (ae o3) ?_
   refine(cD l3.ce a).mono ?_
   rintro _ H' ⟨rfl,e⟩
   obtain rfl:=e.symm
   obtain⟨k1,k2,ek⟩:=cS (aZ L1 a true)
   rw[ek]
   refine vs ?_
   refine(cE H3 _ k1 k2 ek).mono ?_
   rintro _ H' ⟨rfl,e⟩
   obtain rfl:=e.symm
   refine v1 (ae o3) ?_
   refine(cR l3.ce (x:=aZ L1 a true) (fun hu=>by have:=B6.up mm.bt hu;rw[l3.len.1];omega)).mono ?_
   rintro _ H4 ⟨rfl,L4,t4,YC,WG,WH,e4⟩
   have l4:=l3.dZ t4 e4 YC
   have s4:=s3.ext e4 (fun z hz ed=>by have:=ix z hz;have:=h.slt B.tl (.inr (.inr (.inr (.inl rfl))));omega)
   obtain⟨k3,k4,ek2⟩:=cS (bk L1 (aZ L1 a true))
   rw[ek2]
   refine vs ?_
   refine⟨w.cs.length - (ec.length+1),by omega,aZ L1 a true,b,ec++[a],w',bI,L4,by simp,l4,?_,?_,ix,s4,((e1.trans (e2.mono fun z _ hz=>.inl hz)).trans (e3.mono fun z _ hz=>.inr (.inr (.inr hz)))).trans (e4.mono fun z _ hz=>.inr (.inl hz)),rfl⟩
   ·rw[WG,WH]
    exact m3
   ·rw[WG,WH]
    exact fun x0 h0=>(f1 x0 h0).down (aw w) m1.bt ga
  ·refine vs ?_
   have hl:aQ w b a=true:=aN
   have mm:Mg (aG w) (aQ w) g R (aZ L1) (bk L1) ec b a:=m1.swap
   have Oy:0<aG w b:=by rw[(mm.wa.resolve_left gb).1];exact mm.pos
   obtain⟨p0,p1,_⟩:=aF Oy
   have m3:=mm.Sv (aw w) gb ga hl
   have wl:(ec++[b]).length≤w.cs.length:=cf (m3.nodup (aw w)) fun x hx=>by
    have OC:=(m3.wy x hx).2.1
    have AO:=m3.pos
    obtain⟨x0,x1,_⟩:=aF (w:=w) (x:=x) (by omega)
    exact⟨x0,x1⟩
   rw[aqj,aqn]at wl
   refine BS (B:=H.size) eB (by omega) s2 b (by omega) fun w' H3 bI ix s3 e3=>?_
   refine vs ?_
   have l3:=l2.ext e3 (fun z hz ed=>by have:=h.slt z hz;omega)
   obtain⟨tv3,o3,_⟩:=l3.own
   refine v1 (ae o3) ?_
   refine(cD l3.ce b).mono ?_
   rintro _ H' ⟨rfl,e⟩
   obtain rfl:=e.symm
   obtain⟨k1,k2,ek⟩:=cS (aZ L1 b true)
   rw[ek]
   refine vs ?_
   refine(cE H3 _ k1 k2 ek).mono ?_
   rintro _ H' ⟨rfl,e⟩
   obtain rfl:=e.symm
   refine v1 (ae o3) ?_
   refine(cR l3.ce (x:=aZ L1 b true) (fun hu=>by have:=B6.up mm.bt hu;rw[l3.len.1];omega)).mono ?_
   rintro _ H4 ⟨rfl,L4,t4,YC,WG,WH,e4⟩
   have l4:=l3.dZ t4 e4 YC
   have s4:=s3.ext e4 (fun z hz ed=>by have:=ix z hz;have:=h.slt B.tl (.inr (.inr (.inr (.inl rfl))));omega)
   obtain⟨k3,k4,ek2⟩:=cS (bk L1 (aZ L1 b true))
   rw[ek2]
   refine vs ?_
   refine⟨w.cs.length - (ec.length+1),by omega,aZ L1 b true,a,ec++[b],w',bI,L4,by simp,l4,?_,?_,ix,s4,((e1.trans (e2.mono fun z _ hz=>.inl hz)).trans (e3.mono fun z _ hz=>.inr (.inr (.inr hz)))).trans (e4.mono fun z _ hz=>.inr (.inl hz)),rfl⟩
   ·rw[WG,WH]
    exact m3
   ·rw[WG,WH]
    exact fun x0 h0=>(f1 x0 h0).swap.down (aw w) m1.bt gb
 case' A=>
  have m2:Mg (aG w) (aQ w) g R (aZ L1) (bk L1) ec b (-1):=ga▸m1.swap
  have f2:=fun x0 (h0:xT (aQ w) (aZ L) (bk L) x0 (aZ L) (bk L) [] a0 b0)=>(f1 x0 h0).swap
  rw[ga]at f2
  generalize hr:b=r at m2 f2
  refine ar.cP (by simpa using ga) ?_
 case' B=>
  have m2:Mg (aG w) (aQ w) g R (aZ L1) (bk L1) ec a (-1):=gb▸m1
  have f2:=f1
  rw[gb]at f2
  generalize hr:a=r at m2 f2
  refine ar.dec (fun h=>absurd (hr.trans h) ga) (fun _=>?_)
 all_goals
  refine vs ?_
  obtain⟨wa,wc,rfl⟩:=Sl.shape s1
  refine vs ?_
  have wl:ec.length≤w.cs.length:=cf (m2.nodup (aw w)) fun x hx=>by
   have OC:=(m2.wy x hx).2.1
   have AO:=m2.pos
   obtain⟨x0,x1,_⟩:=aF (w:=w) (x:=x) (by omega)
   exact⟨x0,x1⟩
  refine aY.intro (fun mm env H'=>∃ (i:Nat) (r:Int) (L':List Lk) (Vu:List Int),mm=i∧i≤ec.length∧dh H' B C w L' Vu tops∧Mg (aG w) (aQ w) g R (aZ L') (bk L') (ec.take i) r (-1)∧
   (∀x0,xT (aQ w) (aZ L) (bk L) x0 (aZ L) (bk L) [] a0 b0→xT (aQ w) (aZ L) (bk L) x0 (aZ L') (bk L') (ec.take i) r (-1))∧
   Sl H' 1 (.slice wa ec.length wc) ec.length (ec.map i64) fp∧ag (fun z=>C z∨z=B.tl∨z=B.rk∨H.size≤z) H H'∧
   env=[(0,ptr B.n),(7,.slice wa ec.length wc),(9,i64 r),(10,i64 ((i:Int) - 1))]) _ ⟨ec.length,r,L1,rs,rfl,aqm _,l1,by rw[aqM];exact m2,by rw[aqM];exact f2,s1,e1,?_⟩ ?_
  ·rw[wrap64 (by omega) (by omega)]
  rintro mm env H2 ⟨i,r2,L2,rs2,hmi,hi,l2,m3,f3,s2,e2,rfl⟩
  obtain rfl:=hmi.symm
  refine vs ?_
  refine ar.dec (fun gi=>?_) (fun gi=>?_)<;>refine vs ?_
  rotate_left
  ·obtain rfl:i=0:=by omega
   exact⟨r2,L2,rs2,rfl,l2,by simpa using m3,by simpa using f3,e2.mono fun z hz h=>h.elim .inl fun h=>.inr (by omega)⟩
  obtain⟨j,rfl⟩:∃j,i=j+1:=⟨i - 1,by omega⟩
  obtain⟨v,hv⟩:∃v,ec[j]? =some v:=⟨_,aqb (by omega)⟩
  have tk:ec.take (j+1)=ec.take j++[v]:=by rw[aqS,hv];rfl
  rw[tk]at m3 f3
  have m4:=m3.back (aw w)
  have f4:=fun x0 h0=>(f3 x0 h0).back
  obtain⟨v1,v2,v3,v4,v5,v6⟩:=m3.wy v (by simp)
  obtain⟨q1,vb,lb,rfl,q2,q3⟩:=Sl.Ao s2 hv
  have hvb:∃b',fp=some b'∧b'=vb:=by
   cases fp with
   |none=>have:=s2.2.2;injection this with h1;cases h1
   |some b'=>obtain⟨_,_,h1,_⟩:=s2.2;injection h1 with h1;injection h1 with h1;injection h1 with h1;exact⟨b',rfl,h1.symm⟩
  obtain⟨b',rfl,rfl⟩:=hvb
  have hvb:=eB b' rfl
  have WI:0<aG w v:=by rw[v2];exact m3.pos
  obtain⟨YD,vv1,_⟩:=aF WI
  have ji:((((j+1:Nat):Int) - 1)).toNat=j:=by omega
  obtain⟨OK,o2,_⟩:=l2.own
  refine ar.dec (fun gr=>?_) (fun gr=>?_)<;>refine vs ?_
  ·rw[if_pos gr,if_pos gr]at m4
   simp only[if_pos gr]at f4
   have f5:=f4
   have l3:=l2
   have m5:=m4
   have o3b:=q2
   have s3:=s2
   have e3:=e2
   refine⟨⟨by omega,by omega⟩,?_⟩
   simp(disch:=(first|omega| (simp only[Zs]<;>omega)|fail)) only[go_sem, ↓reduceIte,Zv,ae o3b,aqa,aqd,ji,q3]
   refine(gM l3 ⟨YD,vv1⟩ (fun c hk=>B6.rH m5.bt hk)).mono ?_
   rintro _ H4 ⟨L4,WJ,l4,k4,u4,e4⟩
   refine vs ?_
   refine⟨j,by omega,j,v,L4,WJ,rfl,by omega,l4,?_,?_,s3.ext e4 (fun z hz ed=>by injection hz with hz;have:=h.slt B.tl (.inr (.inr (.inr (.inl rfl))));have:=h.slt B.rk (.inr (.inr (.inr (.inr (.inl rfl)))));omega),e3.trans (e4.mono fun z _ hz=>.inr (hz.elim .inl fun h=>.inr (.inl h))),?_⟩
   ·rcases k4 with k4|k4
    ·rw[k4,u4];exact m5
    ·rw[k4,u4];exact m5.uA (aw w)
   ·rcases k4 with k4|k4
    ·rw[k4,u4];exact f5
    ·rw[k4,u4];exact fun x0 h0=>(f5 x0 h0).uA v1
   ·rw[show((j+1:Nat):Int) - 1 - 1=(j:Int) - 1 by omega,wrap64 (by omega) (by omega)]
  ·rw[if_neg gr,if_neg gr]at m4
   simp only[if_neg gr]at f4
   have AH:=m3.wa.resolve_left gr
   obtain⟨r0,r1,_⟩:=aF (w:=w) (x:=r2) (by rw[AH.1];exact m3.pos)
   have bf:=l2.len
   have hvr:v≠r2:=fun e=>by have:=v5 gr;rw[e,(aw w).Es]at this;cases this
   simp(disch:=(first|omega| (simp only[Zs]<;>omega)|fail)) only[go_sem, ↓reduceIte,Zv,ae o2]
   refine⟨⟨by omega,by omega⟩,?_⟩
   simp(disch:=(first|omega| (simp only[Zs]<;>omega)|fail)) only[go_sem, ↓reduceIte,Zv,ae q2,aqa,aqd,ji,q3]
   refine(fI l2.ce (p:=v) (x:=r2) (c:=true) ⟨YD,by omega⟩ ⟨r0,by omega⟩ hvr AH.2 v4).mono ?_
   rintro _ H3 ⟨rfl,L3,t3,ll3,kk3,uu3,HT⟩
   have l3:=l2.dZ t3 HT ll3
   have m5:Mg (aG w) (aQ w) g R (aZ L3) (bk L3) (ec.take j) v (-1):=by rw[kk3,uu3];exact m4
   have f5:=f4
   rw[←kk3,←uu3]at f5
   have nb:b'≠B.tl:=fun e=>by have:=h.slt B.tl (.inr (.inr (.inr (.inl rfl))));omega
   have o3b:=HT.own q2 nb
   have s3:=s2.ext HT (fun z hz ed=>by injection hz with hz;exact nb (hz.trans ed))
   have e3:=e2.trans (HT.mono fun z _ hz=>.inr (.inl hz))
   refine vs ?_
   refine⟨⟨by omega,by omega⟩,?_⟩
   simp(disch:=(first|omega| (simp only[Zs]<;>omega)|fail)) only[go_sem, ↓reduceIte,Zv,ae o3b,aqa,aqd,ji,q3]
   refine(gM l3 ⟨YD,vv1⟩ (fun c hk=>B6.rH m5.bt hk)).mono ?_
   rintro _ H4 ⟨L4,WJ,l4,k4,u4,e4⟩
   refine vs ?_
   refine⟨j,by omega,j,v,L4,WJ,rfl,by omega,l4,?_,?_,s3.ext e4 (fun z hz ed=>by injection hz with hz;have:=h.slt B.tl (.inr (.inr (.inr (.inl rfl))));have:=h.slt B.rk (.inr (.inr (.inr (.inr (.inl rfl)))));omega),e3.trans (e4.mono fun z _ hz=>.inr (hz.elim .inl fun h=>.inr (.inl h))),?_⟩
   ·rcases k4 with k4|k4
    ·rw[k4,u4];exact m5
    ·rw[k4,u4];exact m5.uA (aw w)
   ·rcases k4 with k4|k4
    ·rw[k4,u4];exact f5
    ·rw[k4,u4];exact fun x0 h0=>(f5 x0 h0).uA v1
   ·rw[show((j+1:Nat):Int) - 1 - 1=(j:Int) - 1 by omega,wrap64 (by omega) (by omega)]
end
end Go.Proofs.YthpjfeolagohkaaGreat
