/- Texts put behind each other. -/
import Derived.Test.YthpjfeolagohkaaGreatK98
import Derived.Test.YthpjfeolagohkaaGreatK0
import Derived.Test.YthpjfeolagohkaaGreatK12
import Derived.Test.YthpjfeolagohkaaGreatK16
import Derived.Test.YthpjfeolagohkaaGreatK19
import Derived.Test.YthpjfeolagohkaaGreatK20
import Derived.KernelRfl
set_option maxRecDepth 100000
set_option maxHeartbeats 8000000
set_option linter.unusedVariables false
set_option linter.unusedSimpArgs false
namespace Go.Proofs.YthpjfeolagohkaaGreat
open Go Go.Vc
structure Ed where
 f:Int
 t:Int
 w:Int
 deriving DecidableEq
structure gL(n:Int)(es:List Ed):Prop where
 n0:0≤n
 n1:n≤4096
 len:es.length≤65536
 ends:∀e∈es,0≤e.f∧e.f<n∧0≤e.t∧e.t<n
def cV(e:Ed):List Value:=[i64 e.f,i64 e.t,i64 e.w]
def dk(es:List Ed):List Value:=es.flatMap cV
theorem sJ(e:Ed)(es:List Ed):dk (e::es)=cV e++dk es:=rfl
theorem QO(es:List Ed):(dk es).length=es.length*3:=by
 induction es with
 |nil=>rfl
 |cons r rs ih=>rw[sJ,aqj,ih,aqx];show 3+_=_;omega
theorem SA:∀ (rs:List Ed) (i:Nat) (r:Ed),rs[i]? =some r→((dk rs).drop (i*3)).take 3=cV r:=by
 intro rs
 induction rs with
 |nil=>intro i r h;simp at h
 |cons x rs ih=>
  intro i r h
  cases i with
  |zero=>
   simp only[aqE,aqk]at h
   subst h
   rw[sJ,aqT,asi]
   exact List.take_left' rfl
  |succ i=>
   rw[sJ,show(i+1)*3=3+i*3 by omega,←ar3,List.drop_left' (by rfl)]
   exact ih i r (by simpa using h)
theorem db.wN{H:Hp}{a:Option Addr}{n c:Nat}{rs:List Ed}(h:db H 3 (.slice a n c) n (dk rs)){i:Nat}{r:Ed}(hx:rs[i]? =some r):
  i<n∧∃b o lb,a=some ⟨b,o,none⟩∧H.rd b=some lb∧o+i*3+3≤lb.length∧(lb.drop (o+i*3)).take 3=cV r:=by
 obtain⟨hl,hv⟩:=h
 rw[QO]at hl
 have hi:i<rs.length:=by
  rcases arm i rs.length with h|h
  ·exact h
  ·rw[aqo h]at hx;cases hx
 refine⟨by omega,?_⟩
 rcases hv with ⟨hn,_⟩| ⟨b,o,c2,l,hs,fU,oP,ht⟩
 ·omega
 ·injection hs with fh Jv E6
  refine⟨b,o,l,fh,fU,by omega,?_⟩
  have h7:=SA rs i r hx
  rw[←ht,List.drop_take,ar4,ar3,arJ (by omega)]at h7
  exact h7
theorem cH{H:Hp}{v:Value}{size n:Nat}{xs:List Value}{fp:Option Nat}(h:Sl H size v n xs fp):∃a c,v= .slice a n c∧n≤c:=by
 obtain⟨_,h⟩:=h
 cases fp with
 |none=>obtain⟨rfl,rfl⟩:=h;exact⟨_,_,rfl,aqm _⟩
 |some b=>obtain⟨l,c,rfl,_,hc,_⟩:=h;exact⟨_,_,rfl,hc⟩
theorem db.num{H:Hp}{a:Option Addr}{n c:Nat}{xs:List Int}(h:db H 1 (.slice a n c) n (xs.map i64)){i:Nat}{x:Int}(hx:xs[i]? =some x):
  i<n∧∃b o lb,a=some ⟨b,o,none⟩∧H.rd b=some lb∧lb[o+i]? =some (i64 x):=by
 obtain⟨hl,hv⟩:=h
 rw[aqr,aqd]at hl
 have hi:=(aqc.1 hx).1
 refine⟨by omega,?_⟩
 rcases hv with ⟨hn,_⟩| ⟨b,o,c2,l,hs,fU,oP,ht⟩
 ·omega
 ·injection hs with fh Jv E6
  refine⟨b,o,l,fh,fU,?_⟩
  have h7:(xs.map i64)[i]? =some (i64 x):=by rw[aqz,hx];rfl
  rw[←ht,aqG,if_pos (by omega),aqJ]at h7
  exact h7
theorem db.sK{H:Hp}{a:Option Addr}{n c:Nat}{rs:List Ed}(h:db H 3 (.slice a n c) n (dk rs)){i:Nat}{r:Ed}(hx:rs[i]? =some r):
  i<n∧∃b o lb,a=some ⟨b,o,none⟩∧H.rd b=some lb∧o+i*3+3≤lb.length∧(lb.drop (o+i*3)).take 3=cV r∧lb[o+i*3]? =some (i64 r.f)∧lb[o+i*3+1]? =some (i64 r.t)∧lb[o+i*3+2]? =some (i64 r.w):=by
 obtain⟨h1,b,o,lb,h2,h3,h4,h5⟩:=db.wN h hx
 have key:∀k v,(cV r)[k]? =some v→lb[o+i*3+k]? =some v:=fun k v hv=>by
  rw[←h5,aqG]at hv
  split at hv
  ·rw[aqJ]at hv;exact hv
  ·cases hv
 exact⟨h1,b,o,lb,h2,h3,h4,h5,by simpa using key 0 _ rfl,key 1 _ rfl,key 2 _ rfl⟩
def lm(n:Int)(e:Ed):Bool:=decide (0≤e.f) && decide (e.f<n) && (decide (0≤e.t) && decide (e.t<n))
def dG(n:Int)(es:List Ed):Bool:=es.all (lm n) && (decide (0≤n) && (decide (n≤4096) && decide (es.length≤65536)))
theorem eQ(n:Int)(es:List Ed):dG n es=true↔gL n es:=by
 simp only[dG,lm,aq0,aqI,arc]
 exact⟨fun⟨h1,h2,h3,h4⟩=>⟨h2,h3,h4,fun e he=>⟨(h1 e he).1.1,(h1 e he).1.2,(h1 e he).2.1,(h1 e he).2.2⟩⟩,fun h=>⟨fun e he=>have k:=h.ends e he;⟨⟨k.1,k.2.1⟩,k.2.2⟩,h.n0,h.n1,h.len⟩⟩
def Dt(n:Int)(s:Value):Value:=.agg [i64 n,s].toArray
theorem Du{H:Hp}{n:Int}{a:Option Addr}{c:Nat}{es:List Ed}(h:db H 3 (.slice a es.length c) es.length (dk es))(hm:es.length≤1000000000):
  af Tryz.prog If [Dt n (.slice a es.length c)] H fun v H'=>ax (v= .bool (dG n es)∧ah H H'):=by
 refine bm Is ?_
 have f0:ah H (H.new 26 [i64 n,.slice a es.length c]):=(ag.refl _ _).new _ _
 have b0:=az H 26 [i64 n,.slice a es.length c]
 simp(disch:=(first|omega| (simp only[Zs]<;>omega)|fail)) only[go_sem, ↓reduceIte,Zv,Dt]
 generalize H.new 26 [i64 n,.slice a es.length c]=H0 at*
 have h0:=h.fresh f0
 refine aY.intro (fun m env H'=>ah H0 H'∧∃j:Nat,m=es.length - j∧j≤es.length∧(∀e∈es.take j,lm n e=true)∧env=[(1,ptr H.size),(6,.slice a es.length c),(7,i64 es.length),(8,i64 j)]) es.length ⟨ag.refl _ _,0,by omega,by omega,by simp,rfl⟩ ?_
 rintro m env H1 ⟨f1,j,Vd,hj,cM,rfl⟩
 have h1:=h0.fresh f1
 have b1:=f1.own b0 (fun h=>h)
 refine vs ?_
 refine ar.dec (fun aN=>?_) (fun aN=>?_)<;>refine vs ?_
 ·have ie:j<es.length:=by omega
  obtain⟨e,he⟩:∃e,es[j]? =some e:=⟨_,aqb ie⟩
  obtain⟨_,b,o,lb,rfl,fU,oP,dA⟩:=db.wN h1 he
  refine⟨⟨by omega,by omega⟩,?_⟩
  have bq:=aqg he
  simp(disch:=(first|omega| (simp only[Zs]<;>omega)|fail)) only[go_sem, ↓reduceIte,Zv,fU,Int.toNat_natCast,dA,cV]
  refine⟨by omega,?_⟩
  have q2:=az H1 53 [i64 0,i64 0,i64 0]
  simp(disch:=(first|omega| (simp only[Zs]<;>omega)|fail)) only[go_sem, ↓reduceIte,Zv,dA,cV,q2]
  have q3:=ai (l:=[i64 e.f,i64 e.t,i64 e.w]) q2
  have f3:ah H1 ((H1.new 53 [i64 0,i64 0,i64 0]).wr H1.size [i64 e.f,i64 e.t,i64 e.w]):=((ag.refl _ _).new _ _:ah H1 _).then ((ag.refl (fun z=>z=H1.size) _).wr (fun _=>rfl) _) (fun z hz=>by omega)
  have b3:=f3.own b1 (fun h=>h)
  have no:lm n e=false→dG n es=false:=fun hf=>by
   unfold dG
   rw[Bool.and_eq_false_iff]
   exact .inl (List.all_eq_false.2 ⟨e,bq,by rw[hf];simp⟩)
  generalize (H1.new 53 [i64 0,i64 0,i64 0]).wr H1.size [i64 e.f,i64 e.t,i64 e.w]=H3 at*
  have fz:=f0.trans (f1.trans f3)
  refine v2 (ae q3) (ae b3) ?_
  refine ar.dec (fun g1=>?_) (fun g1=>?_)<;>refine v2 (ae q3) (ae b3) ?_
  ·exact⟨aqv Value.bool (no (by simp[lm];omega)).symm,fz⟩
  refine ar.dec (fun g2=>?_) (fun g2=>?_)<;>refine v2 (ae q3) (ae b3) ?_
  ·exact⟨aqv Value.bool (no (by simp[lm];omega)).symm,fz⟩
  refine ar.dec (fun g3=>?_) (fun g3=>?_)<;>refine v2 (ae q3) (ae b3) ?_
  ·exact⟨aqv Value.bool (no (by simp[lm];omega)).symm,fz⟩
  refine ar.dec (fun g4=>?_) (fun g4=>?_)<;>refine v2 (ae q3) (ae b3) ?_
  ·exact⟨aqv Value.bool (no (by simp[lm];omega)).symm,fz⟩
  rw[wrap64 (n:=(j:Int)+1) (by omega) (by omega)]
  refine⟨es.length - (j+1),by omega,f1.trans f3,j+1,rfl,by omega,?_,rfl⟩
  intro e' gz
  rw[aqS,he]at gz
  rcases aqq.1 gz with gz|gz
  ·exact cM e' gz
  ·rw[aql.1 gz];simp[lm];omega
 ·have ie:j=es.length:=by omega
  subst ie
  rw[aqM]at cM
  have hr:dG n es=(decide (0≤n) && (decide (n≤4096) && decide (es.length≤65536))):=by
   unfold dG
   rw[arc.2 cM,arx]
  rw[hr]
  refine v1 (ae b1) ?_
  refine ar.dec (fun g1=>?_) (fun g1=>?_)<;>refine v1 (ae b1) ?_
  ·refine ar.dec (fun g2=>?_) (fun g2=>?_)<;>refine v1 (ae b1) ?_
   ·exact⟨by rw[aqp (show 0≤n by omega),aqp (show n≤4096 by omega),arx,arx];exact aqv Value.bool (by rw[decide_eq_decide];omega),f0.trans f1⟩
   ·exact⟨by rw[aqA (show¬n≤4096 by omega),ash,Bool.and_false];rfl,f0.trans f1⟩
  ·exact⟨by rw[aqA (show¬0≤n by omega),ash];rfl,f0.trans f1⟩
def fE(es:List Ed)(i:Int):E2:=match es[i.toNat]? with|some e=>(e.f.toNat,e.t.toNat)|none=>(0,0)
def wE(es:List Ed)(i:Int):Int:=match es[i.toNat]? with|some e=>e.w|none=>0
theorem nT{es:List Ed}{i:Nat}{e:Ed}(h:es[i]? =some e):fE es (i:Int)=(e.f.toNat,e.t.toNat):=by unfold fE;rw[Int.toNat_natCast,h]
theorem MF{es:List Ed}{i:Nat}{e:Ed}(h:es[i]? =some e):wE es (i:Int)=e.w:=by unfold wE;rw[Int.toNat_natCast,h]
def Oo(es:List Ed)(i:Int):Prop:=0≤i∧i<es.length
theorem Oo.get{es:List Ed}{i:Int}(h:Oo es i):∃ (k:Nat) (e:Ed),i=(k:Int)∧es[k]? =some e∧k<es.length:=
 ⟨i.toNat,_,by have:=h.1;omega,aqb (by have:=h.1;have:=h.2;omega),by have:=h.1;have:=h.2;omega⟩
def allI(n:Nat):List Int:=(List.range n).map fun i:Nat=>(i:Int)
theorem MG{n:Nat}{i:Int}:i∈allI n↔0≤i∧i<n:=by
 unfold allI
 rw[aqK]
 constructor
 ·rintro⟨k,hk,rfl⟩;rw[arl]at hk;omega
 ·intro h;exact⟨i.toNat,arl.2 (by omega),by omega⟩
theorem FN{n:Int}{es:List Ed}(h:gL n es){i:Int}(hi:Oo es i):(fE es i).1<n.toNat∧(fE es i).2<n.toNat:=by
 obtain⟨k,e,rfl,he,_⟩:=hi.get
 rw[nT he]
 have:=h.ends e (aqg he)
 simp only
 omega
def tE(n:Nat)(ks:List E2):List Int:=(List.range n).map fun v=>(bj ks v:Int)
structure nU(n:Int)(es:List Ed)(ks:List Int):Prop where
 ins:∀i∈ks,Oo es i
 AP:iQ (ks.map (fE es))
 all:∀u v,bR ((allI es.length).map (fE es)) u v→bR (ks.map (fE es)) u v
theorem j7{es:List Ed}{i:Int}:i∈allI es.length↔Oo es i:=MG
theorem nU.sub{n:Int}{es:List Ed}{ks:List Int}(h:nU n es ks):∀i∈ks,i∈allI es.length:=fun i hi=>j7.2 (h.ins i hi)
theorem nU.Wz{n:Int}{es:List Ed}{ks:List Int}(hr:gL n es)(h:nU n es ks):∀i∈ks,(fE es i).1<n.toNat∧(fE es i).2<n.toNat:=fun i hi=>FN hr (h.ins i hi)
def MH(es:List Ed)(ks:List Int):Prop:=Loc (fE es) (wE es) (allI es.length) ks
theorem bN.root{H:Hp}{b s len:Nat}{rt:Nat→Nat}{dF:Int}(h:bN H b s len rt dF){i:Nat}(hi:i<len):rt (rt i)=rt i∧rt i<len∧(0<i→0<rt i):=by
 obtain⟨sv,bV,Lf,a1,a2,⟨d,a4⟩,a5⟩:=h.Sm
 refine⟨a4.IE i (by omega),by have:=a4.low i (by omega);omega,fun h0=>?_⟩
 rcases arH (rt i)with h|h
 ·have:=a4.nz i (by omega) h;omega
 ·exact h
theorem bN.lt{H:Hp}{b s len:Nat}{rt:Nat→Nat}{dF:Int}(h:bN H b s len rt dF):b<H.size∧s<H.size:=by
 obtain⟨sv,bV,Lf,a1,a2,_⟩:=h.Sm
 exact⟨aB a1,Sl.lt a2⟩
def Ai(n:Nat)(rt:Nat→Nat)(ks:List E2):Prop:=∀u v,u<n→v<n→(rt (u+1)=rt (v+1)↔bR ks u v)
theorem Ai.join{n:Nat}{rt:Nat→Nat}{ks:List E2}{e:E2}(h:Ai n rt ks)(h1:e.1<n)(h2:e.2<n):Ai n (fun i=>if rt i=rt (e.2+1)then rt (e.1+1)else rt i) (ks++[e]):=by
 intro u v hu hv
 rw[qh,←h u v hu hv,←h u e.1 hu h1,←h v e.2 hv h2,←h u e.2 hu h2,←h v e.1 hv h1]
 simp only
 split<;>split<;>omega
theorem GI{H:Hp}{n:Int}{a a':Option Addr}{c c':Nat}{es:List Ed}{ks:List Int}(h:db H 3 (.slice a es.length c) es.length (dk es))(h':db H 1 (.slice a' ks.length c') ks.length (ks.map i64))
  (hr:gL n es)(hl:ks.length≤1000000):
  af Tryz.prog Mi [Dt n (.slice a es.length c),.slice a' ks.length c'] H fun v H'=>ax (ah H H'∧
   ((¬ ((∀i∈ks,Oo es i)∧iQ (ks.map (fE es)))∧v= .tuple [.pointer none,.bool false].toArray)∨
    (((∀i∈ks,Oo es i)∧iQ (ks.map (fE es)))∧∃b s rt,v= .tuple [ptr b,.bool true].toArray∧H.size≤b∧H.size≤s∧bN H' b s (n.toNat+1) rt n∧Ai n.toNat rt (ks.map (fE es))))):=by
 refine bm Mr ?_
 have LH:=hr.n0
 have yL:=hr.n1
 have f0:ah H (H.new 26 [i64 n,.slice a es.length c]):=(ag.refl _ _).new _ _
 have b0:=az H 26 [i64 n,.slice a es.length c]
 have LC:(H.new 26 [i64 n,.slice a es.length c]).size=H.size+1:=by rw[am]
 simp(disch:=(first|omega| (simp only[Zs]<;>omega)|fail)) only[go_sem, ↓reduceIte,Zv,Dt]
 generalize H.new 26 [i64 n,.slice a es.length c]=H0 at*
 refine(vA n H0).mono ?_
 rintro _ H1 ⟨f1,⟨Ve,_⟩| ⟨_,b,s,rfl,hN,hb,hs,_,_⟩⟩
 ·omega
 have b1:=f1.own b0 (fun h=>h)
 refine v1 (ae b1) ?_
 refine aY.intro (fun m env H'=>ah H H'∧H'.own H.size=some [i64 n,.slice a es.length c]∧∃ (k s':Nat) (rt:Nat→Nat),m=n.toNat - k∧k≤n.toNat∧H.size+1≤s'∧bN H' b s' (k+1) rt n∧(∀i,i<k+1→rt i=i)∧
  env=[(1,.slice a' ks.length c'),(2,ptr H.size),(6,ptr b),(21,i64 n),(22,i64 k)]) n.toNat ⟨f0.trans f1,b1,0,s,id,by omega,by omega,by omega,hN,fun i _=>rfl,rfl⟩ ?_
 clear hN b1 f1 b0 f0
 rintro m env H2 ⟨f2,b2,k,s',rt,hm,hk,El,hN,hid,rfl⟩
 have ed:=aB b2
 refine vs ?_
 refine ar.dec (fun aN=>?_) (fun aN=>?_)<;>refine vs ?_
 ·refine(tA hN).mono ?_
  rintro _ H3 (⟨ajt,_⟩| ⟨_,rfl,s3,hN3,e3,E6⟩)
  ·omega
  refine vs ?_
  rw[wrap64 (n:=(k:Int)+1) (by omega) (by omega)]
  refine⟨n.toNat - (k+1),by omega,f2.then e3 (fun z hz=>by omega),e3.own b2 (fun h=>by omega),k+1,s3,_,rfl,by omega,by omega,hN3,fun i hi=>?_,rfl⟩
  split
  ·omega
  ·exact hid i (by omega)
 have Oq:k=n.toNat:=by omega
 subst Oq
 have hT0:Ai n.toNat rt ((ks.take 0).map (fE es)):=fun u v hu hv=>by
  rw[hid _ (by omega),hid _ (by omega)]
  show _↔(u=v)
  omega
 refine aY.intro (fun m env H'=>ah H H'∧H'.own H.size=some [i64 n,.slice a es.length c]∧∃ (j:Nat) (rt:Nat→Nat),m=ks.length - j∧j≤ks.length∧bN H' b s' (n.toNat+1) rt n∧(∀i∈ks.take j,Oo es i)∧iQ ((ks.take j).map (fE es))∧Ai n.toNat rt ((ks.take j).map (fE es))∧
  env=[(2,ptr H.size),(6,ptr b),(27,.slice a' ks.length c'),(28,i64 ks.length),(29,i64 j)]) ks.length ⟨f2,b2,0,rt,by omega,by omega,hN,by simp,.nil,hT0,rfl⟩ ?_
 clear hN b2 f2 hT0 hid hm hk aN ed
 rintro m env H3 ⟨f3,b3,j,rt,hm,hj,hN,bH,Ry,hT,rfl⟩
 have SC:=aB b3
 have h3:=h.fresh f3
 have Uf:=h'.fresh f3
 refine vs ?_
 refine ar.dec (fun aN=>?_) (fun aN=>?_)<;>refine vs ?_
 rotate_left
 ·have ie:j=ks.length:=by omega
  subst ie
  rw[aqM]at bH Ry hT
  exact⟨f3,.inr ⟨⟨bH,Ry⟩,b,s',rt,rfl,by omega,by omega,hN,hT⟩⟩
 obtain⟨i,hi⟩:∃x,ks[j]? =some x:=⟨_,aqb (by omega)⟩
 have bq:=aqg hi
 obtain⟨_,bx,o,lb,rfl,fU,cj⟩:=db.num Uf hi
 refine⟨⟨by omega,by omega⟩,?_⟩
 refine v4 fU Int.toNat_natCast aqd cj ?_
 refine ar.dec (fun g1=>?_) (fun g1=>?_)<;>refine v1 (ae b3) ?_
 ·exact⟨f3,.inl ⟨fun hs=>by have:=(hs.1 i bq).1;omega,rfl⟩⟩
 refine ar.dec (fun g2=>?_) (fun g2=>?_)<;>refine v1 (ae b3) ?_
 ·exact⟨f3,.inl ⟨fun hs=>by have:=(hs.1 i bq).2;omega,rfl⟩⟩
 have hIn:Oo es i:=⟨by omega,by omega⟩
 obtain⟨ik,e,rfl,he,PE⟩:=hIn.get
 obtain⟨Yb,Yc,Yd,Ye⟩:=hr.ends e (aqg he)
 obtain⟨_,be,oe,le,rfl,KA,oP,dA,jW,sI,ww⟩:=db.sK h3 he
 have hw1:IntKind.i64.wrap (e.f+1)=e.f+1:=wrap64 (by omega) (by omega)
 have GJ:IntKind.i64.wrap (e.t+1)=e.t+1:=wrap64 (by omega) (by omega)
 refine⟨⟨by omega,by omega⟩,?_⟩
 refine v4 KA Int.toNat_natCast Nat.add_zero jW ?_
 rw[hw1]
 refine(fG hN (e.f+1)).mono ?_
 rintro _ H4 (⟨Ve,_⟩| ⟨_,rfl,hN4,e4⟩)
 ·omega
 have b4:=e4.own b3 (fun h=>by omega)
 have f4:ah H H4:=f3.then e4 (fun z hz=>by omega)
 obtain⟨_,be4,oe4,le4,SD,acf,alU,ae4,hd0,hd1,kJ⟩:=db.sK (h.fresh f4) he
 injection SD with SD
 injection SD with SD agO
 subst SD;subst agO
 refine v1 (ae b4) ?_
 refine⟨⟨by omega,by omega⟩,?_⟩
 refine v3 acf Int.toNat_natCast hd1 ?_
 rw[GJ]
 refine(fG hN4 (e.t+1)).mono ?_
 rintro _ H5 (⟨Ve,_⟩| ⟨_,rfl,hN5,e5⟩)
 ·omega
 have b5:=e5.own b4 (fun h=>by omega)
 have f5:ah H H5:=f4.then e5 (fun z hz=>by omega)
 have ef:(e.f+1).toNat=e.f.toNat+1:=by omega
 have et:(e.t+1).toNat=e.t.toNat+1:=by omega
 rw[ef,et]
 have r1:=hN5.root (i:=e.f.toNat+1) (by omega)
 have r2:=hN5.root (i:=e.t.toNat+1) (by omega)
 have Yf:=nT he
 have htk:(ks.take (j+1))=ks.take j++[(ik:Int)]:=by rw[aqS,hi];rfl
 have hff:=hT e.f.toNat e.t.toNat (by omega) (by omega)
 refine vs ?_
 refine(E4 hN5 _ _).mono ?_
 rintro _ H6 (⟨bO,rfl,rfl⟩| ⟨tU,rfl,hN6,e6⟩)
 ·have Eh:rt (e.f.toNat+1)=rt (e.t.toNat+1):=by
   apply aqt
   intro aR
   refine bO ⟨⟨by omega,by omega,?_⟩,⟨by omega,by omega,?_⟩,by omega⟩
   ·rw[Int.toNat_natCast];exact r1.1
   ·rw[Int.toNat_natCast];exact r2.1
  refine v1 ars ?_
  refine⟨f5,.inl ⟨fun hs=>?_,rfl⟩⟩
  have ach:iQ ((ks.take (j+1)).map (fE es)):=Lr hs.2 ((List.take_sublist _ _).map _)
  rw[htk,aqy,aro,wq,Yf]at ach
  exact ach.2 (hff.1 Eh)
 ·refine v1 ark ?_
  rw[wrap64 (n:=(j:Int)+1) (by omega) (by omega)]
  rw[Int.toNat_natCast,Int.toNat_natCast]at hN6
  have aR:rt (e.f.toNat+1)≠rt (e.t.toNat+1):=fun hh=>tU.2.2 (by rw[hh])
  refine⟨ks.length - (j+1),by omega,f5.then e6 (fun z hz=>by omega),e6.own b5 (fun h=>by omega),j+1,_,rfl,by omega,hN6,fun x hx=>?_,?_,?_,rfl⟩
  ·rw[htk]at hx
   rcases aqq.1 hx with hx|hx
   ·exact bH x hx
   ·rw[aql.1 hx];exact hIn
  ·rw[htk,aqy,aro,wq,Yf]
   exact⟨Ry,fun hh=>aR (hff.2 hh)⟩
  ·rw[htk,aqy,aro,Yf]
   exact Ai.join (e:=(e.f.toNat,e.t.toNat)) hT (by show e.f.toNat<_;omega) (by show e.t.toNat<_;omega)
theorem BR{H:Hp}{b s len:Nat}{rt:Nat→Nat}{dF:Int}(h:bN H b s len rt dF){x y:Int}(hx:0≤x∧x+1<len)(hy:0≤y∧y+1<len):
  af Tryz.prog Gp [ptr b,i64 x,i64 y] H fun v H'=>ax (v= .bool (decide (rt (x.toNat+1)=rt (y.toNat+1)))∧bN H' b s len rt dF∧ag (fun z=>z=b∨z=s) H H'):=by
 refine bm Gv ?_
 have oP:=h.le
 have hmo:=h.dF
 refine vs ?_
 rw[wrap64 (n:=x+1) (by omega) (by omega)]
 refine(fG h (x+1)).mono ?_
 rintro _ H4 (⟨Ve,_⟩| ⟨_,rfl,hN4,e4⟩)
 ·omega
 refine vs ?_
 rw[wrap64 (n:=y+1) (by omega) (by omega)]
 refine(fG hN4 (y+1)).mono ?_
 rintro _ H5 (⟨Ve,_⟩| ⟨_,rfl,hN5,e5⟩)
 ·omega
 rw[show(x+1).toNat=x.toNat+1 by omega,show(y+1).toNat=y.toNat+1 by omega]
 refine vs ?_
 exact⟨aqv Value.bool (by rw[decide_eq_decide];omega),hN5,e4.trans e5⟩
theorem E7{H:Hp}{a:Option Addr}{c:Nat}{xs:List Int}(f:FuncId)(jD:List Value)(q:Int→Bool)(Inv:Hp→Prop)(hI:Inv H)(fU:∀H',Inv H'→db H' 1 (.slice a xs.length c) xs.length (xs.map i64))(wP:dN Tryz.prog f=true)
  (hf:∀H' x,x∈xs→Inv H'→af Tryz.prog f (i64 x::jD) H' fun v zh=>ax (v= .bool (q x)∧Inv zh))(hm:xs.length≤1000000000):
  af Tryz.prog fX [.slice a xs.length c,.func (.func f) #[] jD.toArray] H fun v H'=>ax (∃i:Int,v=i64 i∧(0≤i↔xs.any q=true)∧Inv H'):=by
 refine bm fZ ?_
 refine vs ?_
 refine aY.intro (fun m env H'=>Inv H'∧∃j:Nat,m=xs.length - j∧j≤xs.length∧(∀e∈xs.take j,q e=false)∧env=[(0,.slice a xs.length c),(1,.func (.func f) #[] jD.toArray),(7,i64 xs.length),(8,i64 j)]) xs.length ⟨hI,0,by omega,by omega,by simp,rfl⟩ ?_
 rintro m env H1 ⟨i1,j,Vd,hj,cM,rfl⟩
 have h1:=fU H1 i1
 refine vs ?_
 refine ar.dec (fun aN=>?_) (fun aN=>?_)<;>refine vs ?_
 ·have ie:j<xs.length:=by omega
  obtain⟨e,he⟩:∃e,xs[j]? =some e:=⟨_,aqb ie⟩
  obtain⟨_,b,o,lb,rfl,KD,cj⟩:=db.num h1 he
  refine⟨⟨by omega,by omega⟩,?_⟩
  have bq:=aqg he
  refine v4 KD Int.toNat_natCast aqd cj ?_
  refine⟨wP,?_⟩
  refine af.mono (by simpa using hf H1 e bq i1) ?_
  rintro _ H2 ⟨rfl,i2⟩
  refine vs ?_
  cases hx:q e
  ·refine vs ?_
   rw[wrap64 (n:=(j:Int)+1) (by omega) (by omega)]
   refine⟨xs.length - (j+1),by omega,i2,j+1,rfl,by omega,?_,rfl⟩
   intro e' gz
   rw[aqS,he]at gz
   rcases aqq.1 gz with gz|gz
   ·exact cM e' gz
   ·have:e'=e:=by simpa using gz
    rw[this];exact hx
  ·refine vs ?_
   exact⟨j,rfl,⟨fun _=>List.any_eq_true.2 ⟨e,bq,hx⟩,fun _=>by omega⟩,i2⟩
 ·refine⟨-1,rfl,?_,i1⟩
  have ie:j=xs.length:=by omega
  subst ie
  rw[aqM]at cM
  have:xs.any q=false:=arY.2 fun e he=>by rw[cM e he];simp
  rw[this]
  simp
theorem nV{H:Hp}{a:Option Addr}{c:Nat}{xs:List Int}(f:FuncId)(jD:List Value)(q:Int→Bool)(Inv:Hp→Prop)(hI:Inv H)(fU:∀H',Inv H'→db H' 1 (.slice a xs.length c) xs.length (xs.map i64))(wP:dN Tryz.prog f=true)
  (hf:∀H' x,x∈xs→Inv H'→af Tryz.prog f (i64 x::jD) H' fun v zh=>ax (v= .bool (q x)∧Inv zh))(hm:xs.length≤1000000000):
  af Tryz.prog kS [.slice a xs.length c,.func (.func f) #[] jD.toArray] H fun v H'=>ax (v= .bool (xs.any q)∧Inv H'):=by
 refine bm kZ ?_
 refine vs ?_
 refine(E7 f jD q Inv hI fU wP hf hm).mono ?_
 rintro _ H1 ⟨i,rfl,hi,i1⟩
 refine vs ?_
 refine⟨aqv Value.bool ?_,i1⟩
 cases hx:xs.any q
 ·rw[hx]at hi
  exact aqA (fun h=>by cases hi.1 h)
 ·rw[hx]at hi
  exact aqp (hi.2 rfl)
theorem pe(H:Hp)(n x:Int)(s:Value)(hs:∃a k c,s= .slice a k c):af Tryz.prog Gr [Dt n s,i64 x] H fun v H'=>ax (v= .bool (decide (0≤x) && decide (x<n))∧ah H H'):=by
 obtain⟨a,k,c,rfl⟩:=hs
 refine bm Gx ?_
 have f0:ah H (H.new 26 [i64 n,.slice a k c]):=(ag.refl _ _).new _ _
 have b0:=az H 26 [i64 n,.slice a k c]
 simp(disch:=(first|omega| (simp only[Zs]<;>omega)|fail)) only[go_sem, ↓reduceIte,Zv,Dt]
 refine ar.dec (fun g=>?_) (fun g=>?_)<;>refine v1 (ae b0) ?_
 ·exact⟨by rw[aqp (show 0≤x by omega),arx];rfl,f0⟩
 ·exact⟨by rw[aqA (show¬0≤x by omega),ash];rfl,f0⟩
theorem Aj{H:Hp}{n:Int}{s:Value}{g:Nat}(e:Ed)(hg:H.own g=some [i64 n,s])(hs:∃a k c,s= .slice a k c):af Tryz.prog hZ [.agg (cV e).toArray,ptr g] H fun v H'=>ax (v= .bool (!lm n e)∧ah H H'):=by
 obtain⟨a,k,c,rfl⟩:=hs
 refine j6 mixed (an:=ER) (by conv=>lhs;cbv) (nt:=16) (by kernel_rfl) (by simp) ?_
 have f0:ah H (H.new 53 [i64 e.f,i64 e.t,i64 e.w]):=(ag.refl _ _).new _ _
 have b0:=az H 53 [i64 e.f,i64 e.t,i64 e.w]
 have g0:=f0.own hg (fun h=>h)
 simp(disch:=(first|omega| (simp only[Zs]<;>omega)|fail)) only[go_sem, ↓reduceIte,Zv,cV,ae b0,ae g0]
 generalize H.new 53 [i64 e.f,i64 e.t,i64 e.w]=H0 at*
 refine(pe H0 n e.f _ ⟨a,k,c,rfl⟩).mono ?_
 rintro _ H1 ⟨rfl,f1⟩
 have g1:=f1.own g0 (fun h=>h)
 have b1:=f1.own b0 (fun h=>h)
 refine v2 (ae g1) (ae b1) ?_
 unfold lm
 cases hx:(decide (0≤e.f) && decide (e.f<n))
 ·refine v1 ars ?_
  exact⟨rfl,f0.trans f1⟩
 ·refine v3 ark (ae g1) (ae b1) ?_
  refine(pe H1 n e.t _ ⟨a,k,c,rfl⟩).mono ?_
  rintro _ H2 ⟨rfl,f2⟩
  refine vs ?_
  exact⟨by rw[arx];rfl,f0.trans (f1.trans f2)⟩
theorem uB{H:Hp}{n:Int}{s:Value}{g:Nat}{a:Option Addr}{c:Nat}{es:List Ed}(h:db H 3 (.slice a es.length c) es.length (dk es))(hm:es.length≤1000000000)(hg:H.own g=some [i64 n,s])(hs:∃a k c,s= .slice a k c):
  af Tryz.prog dC [.slice a es.length c,.func (.func hZ) #[] #[ptr g]] H fun v H'=>ax (∃i:Int,v=i64 i∧(0≤i↔es.all (lm n)=false)∧ah H H'):=by
 refine bm dD ?_
 refine vs ?_
 refine aY.intro (fun m env H'=>ah H H'∧∃j:Nat,m=es.length - j∧j≤es.length∧(∀e∈es.take j,lm n e=true)∧env=[(0,.slice a es.length c),(1,.func (.func hZ) #[] #[ptr g]),(7,i64 es.length),(8,i64 j)]) es.length ⟨ag.refl _ _,0,by omega,by omega,by simp,rfl⟩ ?_
 rintro m env H1 ⟨f1,j,Vd,hj,cM,rfl⟩
 have h1:=h.fresh f1
 have g1:=f1.own hg (fun h=>h)
 refine vs ?_
 refine ar.dec (fun aN=>?_) (fun aN=>?_)<;>refine vs ?_
 ·have ie:j<es.length:=by omega
  obtain⟨e,he⟩:∃e,es[j]? =some e:=⟨_,aqb ie⟩
  obtain⟨_,b,o,lb,rfl,fU,oP,dA⟩:=db.wN h1 he
  refine⟨⟨by omega,by omega⟩,?_⟩
  have bq:=aqg he
  refine v3 fU Int.toNat_natCast dA ?_
  refine⟨by omega,?_⟩
  refine v1 dA ?_
  refine⟨by kernel_rfl,?_⟩
  refine(Aj e g1 hs).mono ?_
  rintro _ H2 ⟨rfl,f2⟩
  refine vs ?_
  cases hx:lm n e
  ·refine v1 ars ?_
   refine⟨j,rfl,⟨fun _=>List.all_eq_false.2 ⟨e,bq,by rw[hx];simp⟩,fun _=>by omega⟩,f1.trans f2⟩
  ·refine v1 ark ?_
   rw[wrap64 (n:=(j:Int)+1) (by omega) (by omega)]
   refine⟨es.length - (j+1),by omega,f1.trans f2,j+1,rfl,by omega,?_,rfl⟩
   intro e' gz
   rw[aqS,he]at gz
   rcases aqq.1 gz with gz|gz
   ·exact cM e' gz
   ·rw[aql.1 gz];exact hx
 ·refine⟨-1,rfl,?_,f1⟩
  have ie:j=es.length:=by omega
  subst ie
  rw[aqM]at cM
  rw[arc.2 cM]
  simp
theorem pN{H:Hp}{n:Int}{s:Value}{g:Nat}{a:Option Addr}{c:Nat}{es:List Ed}(h:db H 3 (.slice a es.length c) es.length (dk es))(hm:es.length≤1000000000)(hg:H.own g=some [i64 n,s])(hs:∃a k c,s= .slice a k c):
  af Tryz.prog dc [.slice a es.length c,.func (.func hZ) #[] #[ptr g]] H fun v H'=>ax (v= .bool (!es.all (lm n))∧ah H H'):=by
 refine bm de ?_
 refine vs ?_
 refine(uB h hm hg hs).mono ?_
 rintro _ H1 ⟨i,rfl,hi,f1⟩
 refine vs ?_
 refine⟨aqv Value.bool ?_,f1⟩
 cases hx:es.all (lm n)
 ·rw[hx]at hi
  exact aqp (hi.2 rfl)
 ·rw[hx]at hi
  exact aqA (fun h=>by cases hi.1 h)
theorem j8{H:Hp}{n:Int}{a:Option Addr}{c:Nat}{es:List Ed}(h:db H 3 (.slice a es.length c) es.length (dk es))(hm:es.length≤1000000000):
  af Tryz.prog Ih [Dt n (.slice a es.length c)] H fun v H'=>ax (v=i64 (if dG n es=true then 0 else 201)∧ah H H'):=by
 refine bm Iu ?_
 have f0:ah H (H.new 26 [i64 n,.slice a es.length c]):=(ag.refl _ _).new _ _
 have b0:=az H 26 [i64 n,.slice a es.length c]
 simp(disch:=(first|omega| (simp only[Zs]<;>omega)|fail)) only[go_sem, ↓reduceIte,Zv,Dt]
 generalize H.new 26 [i64 n,.slice a es.length c]=H0 at*
 have h0:=h.fresh f0
 have no:¬ (0≤n∧n≤4096∧es.length≤65536)→¬dG n es=true:=fun hn hr=>hn ⟨((eQ n es).1 hr).n0,((eQ n es).1 hr).n1,((eQ n es).1 hr).len⟩
 refine ar.dec (fun g1=>?_) (fun g1=>?_)<;>refine v1 (ae b0) ?_
 ·exact⟨by rw[if_neg (no (by omega))];rfl,f0⟩
 refine ar.dec (fun g2=>?_) (fun g2=>?_)<;>refine v1 (ae b0) ?_
 ·exact⟨by rw[if_neg (no (by omega))];rfl,f0⟩
 refine ar.dec (fun g3=>?_) (fun g3=>?_)<;>refine v1 (ae b0) ?_
 ·exact⟨by rw[if_neg (no (by omega))];rfl,f0⟩
 refine(pN h0 hm b0 ⟨a,es.length,c,rfl⟩).mono ?_
 rintro _ H1 ⟨rfl,f1⟩
 refine vs ?_
 cases hx:es.all (lm n)
 ·refine v1 ars ?_
  refine⟨?_,f0.trans f1⟩
  rw[if_neg (by unfold dG;rw[hx];simp)]
  rfl
 ·refine v1 ark ?_
  refine⟨?_,f0.trans f1⟩
  rw[if_pos (by unfold dG;rw[hx];simp;omega)]
  rfl
theorem mS(l:List Int):gJ (l.map i64):=fun v hv=>by
 obtain⟨x,_,rfl⟩:=aqK.1 hv
 rfl
theorem BS{H:Hp}{T B:Nat}{w:Value}{xs:List Int}{fp:Option Nat}{K:Value→Hp→Prop}(eB:∀b,fp=some b→B≤b)(hB:B≤H.size)(s:Sl H 1 w xs.length (xs.map i64) fp)(x:Int)(hl:xs.length≤1000000000000)
  (hk:∀w' H' bI,(∀b,bI=some b→B≤b)→Sl H' 1 w' (xs++[x]).length ((xs++[x]).map i64) bI→ag (fun z=>B≤z) H H'→K w' H'):
  fA T 1 8 [i64 0] w (.slice (some ⟨H.size,0,none⟩) 1 1) (H.new T [i64 x]) K:=by
 have fl:ah H (H.new T [i64 x]):=(ag.refl _ _).new _ _
 refine Sl.append (s.ext fl (fun _ _ h=>h)) (Sl.bU (size:=1) (n:=1) (xs:=[i64 x]) rfl rfl).rd rfl (mS [x]) (by omega) ?_
 intro v' H' bI s' e' Lm
 refine hk v' H' bI (fun b hb=>?_) (by rw[aqj,aqy];exact s') ⟨aqW fl.size e'.size,fun z hz hn=>?_⟩
 ·rcases Lm with h| ⟨b',lI,h1,h2⟩
  ·exact eB b (by rw[←h];exact hb)
  ·rw[hb]at lI;injection lI with lI;have:=fl.size;omega
 ·rw[e'.aM z (aqw hz fl.size) (fun h=>hn (eB z h)),fl.aM z hz (fun h=>h)]
theorem WA{H:Hp}{T B b:Nat}{w:Value}{xs:List Int}{K:Value→Hp→Prop}(hb:B≤b)(hB:B≤H.size)(s:Sl H 1 w xs.length (xs.map i64) (some b))(x:Int)(hl:xs.length≤1000000000000)
  (hk:∀w' H' b',B≤b'→Sl H' 1 w' (xs++[x]).length ((xs++[x]).map i64) (some b')→ag (fun z=>B≤z) H H'→K w' H'):
  fA T 1 8 [i64 0] w (.slice (some ⟨H.size,0,none⟩) 1 1) (H.new T [i64 x]) K:=by
 refine BS (fun b' h=>by injection h with h;omega) hB s x hl fun w' H' bI hf s' e'=>?_
 cases bI with
 |none=>
  obtain⟨_,h0,_⟩:=s'
  simp at h0
 |some b'=>exact hk w' H' b' (hf b' rfl) s' e'
theorem SE{H:Hp}{T b:Nat}{w:Value}{xs:List Int}{K:Value→Hp→Prop}(s:Sl H 1 w xs.length (xs.map i64) (some b))(x:Int)(hl:xs.length≤1000000000000)
  (hk:∀w' H' b',(b'=b∨H.size≤b')→Sl H' 1 w' (xs++[x]).length ((xs++[x]).map i64) (some b')→ag (fun z=>z=b) H H'→K w' H'):
  fA T 1 8 [i64 0] w (.slice (some ⟨H.size,0,none⟩) 1 1) (H.new T [i64 x]) K:=by
 have fl:ah H (H.new T [i64 x]):=(ag.refl _ _).new _ _
 refine Sl.append (s.ext fl (fun _ _ h=>h)) (Sl.bU (size:=1) (n:=1) (xs:=[i64 x]) rfl rfl).rd rfl (mS [x]) (by omega) ?_
 intro v' H' bI s' e' Lm
 have e2:ag (fun z=>z=b) H H':=⟨aqW fl.size e'.size,fun z hz hn=>by
  rw[e'.aM z (aqw hz fl.size) (fun h=>hn (by injection h with h;exact h.symm)),fl.aM z hz (fun h=>h)]⟩
 have s2:Sl H' 1 v' (xs++[x]).length ((xs++[x]).map i64) bI:=by rw[aqj,aqy];exact s'
 rcases Lm with rfl| ⟨b',rfl,h1,h2⟩
 ·exact hk v' H' b (.inl rfl) s2 e2
 ·rw[am]at h1
  exact hk v' H' b' (.inr (by omega)) s2 e2
theorem SF{H:Hp}{T B:Nat}{w u:Value}{xs ys:List Int}{fp:Option Nat}{K:Value→Hp→Prop}(eB:∀b,fp=some b→B≤b)(hB:B≤H.size)(s:Sl H 1 w xs.length (xs.map i64) fp)(r:db H 1 u ys.length (ys.map i64))(hl:xs.length+ys.length≤1000000000000)
  (hk:∀w' H' bI,(∀b,bI=some b→B≤b)→Sl H' 1 w' (xs++ys).length ((xs++ys).map i64) bI→ag (fun z=>B≤z) H H'→K w' H'):
  fA T 1 8 [i64 0] w u H K:=by
 refine Sl.append s r rfl (mS ys) (by omega) ?_
 intro v' H' bI s' e' Lm
 refine hk v' H' bI (fun b hb=>?_) (by rw[aqj,aqy];exact s') ⟨e'.size,fun z hz hn=>e'.aM z hz (fun h=>hn (eB z h))⟩
 rcases Lm with h| ⟨b',lI,h1,h2⟩
 ·exact eB b (by rw[←h];exact hb)
 ·rw[hb]at lI;injection lI with lI;omega
theorem Sl.num{H:Hp}{a:Option Addr}{n c:Nat}{xs:List Int}{b:Nat}(h:Sl H 1 (.slice a n c) n (xs.map i64) (some b)){i:Nat}{x:Int}(hx:xs[i]? =some x):
  i<n∧a=some ⟨b,0,none⟩∧∃lb,H.own b=some lb∧lb[i]? =some (i64 x):=by
 have hl:=h.1
 rw[aqr,aqd]at hl
 have hi:=(aqc.1 hx).1
 obtain⟨_,l,c2,hs,ho,hc,oP,ht⟩:=h
 injection hs with fh Jv E6
 refine⟨by omega,fh,l,ho,?_⟩
 have h7:(xs.map i64)[i]? =some (i64 x):=by rw[aqz,hx];rfl
 rw[←ht,aqG,if_pos (by omega)]at h7
 exact h7
theorem db.sub{H:Hp}{size n c:Nat}{a:Option Addr}{xs:List Value}(h:db H size (.slice a n c) n xs){lo hi:Nat}(h1:lo≤hi)(h2:hi≤n){b':Option Addr}{c':Nat}(hb:lo<hi→b'=a.map (·.add (lo*size))):
  db H size (.slice b' (hi - lo) c') (hi - lo) ((xs.drop (lo*size)).take ((hi - lo)*size)):=by
 obtain⟨hl,hv⟩:=h
 have e1:(hi - lo)*size=hi*size - lo*size:=Nat.sub_mul _ _ _
 have e2:hi*size≤n*size:=ary _ h2
 have e3:lo*size≤hi*size:=ary _ h1
 refine⟨by rw[aqO,arD,hl];omega,?_⟩
 by_cases aN:lo<hi
 ·rcases hv with ⟨hn,_⟩| ⟨b,o,c2,l,hs,fU,oP,ht⟩
  ·omega
  ·right
   injection hs with fh Jv E6
   subst fh
   rw[hb aN]
   refine⟨b,o+lo*size,c',l,?_,fU,by omega,?_⟩
   ·simp[Addr.add]
   ·rw[←ht,List.drop_take,ar3,ar4,arJ (by omega)]
 ·left
  exact⟨by omega,b',c',by rw[show hi - lo=0 by omega]⟩
theorem BT{H:Hp}{a:Option Addr}{n c:Nat}{xs:List Int}(h:db H 1 (.slice a n c) n (xs.map i64)){lo hi:Nat}{lo' hi':Int}(el:lo'=(lo:Int))(eh:hi'=(hi:Int))(h1:lo≤hi)(h2:hi≤n)(h3:n≤c):
  ∃a',Value.slice (if(c:Int)=lo' then a else Option.map (fun x:Addr=>x.add (lo'.toNat*1)) a) (hi'.toNat - lo'.toNat) ((c:Int).toNat - lo'.toNat)= .slice a' (hi - lo) (c - lo)∧
   db H 1 (.slice a' (hi - lo) (c - lo)) (hi - lo) (((xs.drop lo).take (hi - lo)).map i64)∧hi - lo≤c - lo∧((xs.drop lo).take (hi - lo)).length=hi - lo:=by
 subst el;subst eh
 have hl:=h.1
 rw[aqr,aqd]at hl
 refine⟨_,rfl,?_,by omega,by rw[aqO,arD];omega⟩
 have h4:=db.sub h (lo:=lo) (hi:=hi) h1 h2 (c':=(c:Int).toNat - (lo:Int).toNat) (b':=if(c:Int)=(lo:Int)then a else Option.map (fun x:Addr=>x.add ((lo:Int).toNat*1)) a) (fun aN=>by rw[if_neg (by omega)];rfl)
 simp only[aqd]at h4 ⊢
 rw[←List.map_drop,←List.map_take]at h4
 exact h4
theorem db.get{H:Hp}{size n:Nat}{v:Value}{xs:List Value}(h:db H size v n xs){i j:Nat}{x:Value}(hj:j<size)(hx:xs[i*size+j]? =some x):
  ∃b o c l,v= .slice (some ⟨b,o,none⟩) n c∧H.rd b=some l∧i<n∧l[o+i*size+j]? =some x:=by
 obtain⟨hl,⟨rfl,a,c,rfl⟩| ⟨b,o,c,l,rfl,h2,h3,h4⟩⟩:=h
 ·rw[aqo (by omega)]at hx;cases hx
 ·have aN:i*size+j<n*size:=by
   have:=(aqc.1 hx).1;omega
  refine⟨b,o,c,l,rfl,h2,?_,?_⟩
  ·rcases arm i n with h|h
   ·exact h
   ·have:=ary size h;omega
  ·rw[←h4,aqF aN,aqJ]at hx
   rw[←hx];congr 1;omega
def SpR(n:Int)(es:List Ed)(ks:List Int):Prop:=dG n es=true∧nU n es ks
theorem E8{H:Hp}{a:Option Addr}{c:Nat}{es:List Ed}(f:FuncId)(jD:List Value)(q:Ed→Bool)(Inv:Hp→Prop)(hI:Inv H)(fU:∀H',Inv H'→db H' 3 (.slice a es.length c) es.length (dk es))(wP:dN Tryz.prog f=true)
  (hf:∀H' e,e∈es→Inv H'→af Tryz.prog f (.agg (cV e).toArray::jD) H' fun v zh=>ax (v= .bool (q e)∧Inv zh))(hm:es.length≤1000000000):
  af Tryz.prog dC [.slice a es.length c,.func (.func f) #[] jD.toArray] H fun v H'=>ax (∃i:Int,v=i64 i∧(0≤i↔es.any q=true)∧Inv H'):=by
 refine bm dD ?_
 refine vs ?_
 refine aY.intro (fun m env H'=>Inv H'∧∃j:Nat,m=es.length - j∧j≤es.length∧(∀e∈es.take j,q e=false)∧env=[(0,.slice a es.length c),(1,.func (.func f) #[] jD.toArray),(7,i64 es.length),(8,i64 j)]) es.length ⟨hI,0,by omega,by omega,by simp,rfl⟩ ?_
 rintro m env H1 ⟨i1,j,Vd,hj,cM,rfl⟩
 have h1:=fU H1 i1
 refine vs ?_
 refine ar.dec (fun aN=>?_) (fun aN=>?_)<;>refine vs ?_
 ·have ie:j<es.length:=by omega
  obtain⟨e,he⟩:∃e,es[j]? =some e:=⟨_,aqb ie⟩
  obtain⟨_,b,o,lb,rfl,KD,oP,dA⟩:=db.wN h1 he
  refine⟨⟨by omega,by omega⟩,?_⟩
  have bq:=aqg he
  refine v3 KD Int.toNat_natCast dA ?_
  refine⟨by omega,?_⟩
  refine v1 dA ?_
  refine⟨wP,?_⟩
  refine af.mono (by simpa using hf H1 e bq i1) ?_
  rintro _ H2 ⟨rfl,i2⟩
  refine vs ?_
  cases hx:q e
  ·refine vs ?_
   rw[wrap64 (n:=(j:Int)+1) (by omega) (by omega)]
   refine⟨es.length - (j+1),by omega,i2,j+1,rfl,by omega,?_,rfl⟩
   intro e' gz
   rw[aqS,he]at gz
   rcases aqq.1 gz with gz|gz
   ·exact cM e' gz
   ·have:e'=e:=by simpa using gz
    rw[this];exact hx
  ·refine vs ?_
   exact⟨j,rfl,⟨fun _=>List.any_eq_true.2 ⟨e,bq,hx⟩,fun _=>by omega⟩,i2⟩
 ·refine⟨-1,rfl,?_,i1⟩
  have ie:j=es.length:=by omega
  subst ie
  rw[aqM]at cM
  have:es.any q=false:=arY.2 fun e he=>by rw[cM e he];simp
  rw[this]
  simp
theorem nX{H:Hp}{a:Option Addr}{c:Nat}{es:List Ed}(f:FuncId)(jD:List Value)(q:Ed→Bool)(Inv:Hp→Prop)(hI:Inv H)(fU:∀H',Inv H'→db H' 3 (.slice a es.length c) es.length (dk es))(wP:dN Tryz.prog f=true)
  (hf:∀H' e,e∈es→Inv H'→af Tryz.prog f (.agg (cV e).toArray::jD) H' fun v zh=>ax (v= .bool (q e)∧Inv zh))(hm:es.length≤1000000000):
  af Tryz.prog dc [.slice a es.length c,.func (.func f) #[] jD.toArray] H fun v H'=>ax (v= .bool (es.any q)∧Inv H'):=by
 refine bm de ?_
 refine vs ?_
 refine(E8 f jD q Inv hI fU wP hf hm).mono ?_
 rintro _ H1 ⟨i,rfl,hi,i1⟩
 refine vs ?_
 refine⟨aqv Value.bool ?_,i1⟩
 cases hx:es.any q
 ·rw[hx]at hi
  exact aqA (fun h=>by cases hi.1 h)
 ·rw[hx]at hi
  exact aqp (hi.2 rfl)
theorem Dv{H:Hp}{p b s len:Nat}{rt:Nat→Nat}{dF:Int}(e:Ed)(hp:H.own p=some [ptr b])(h:bN H b s len rt dF)(hf:0≤e.f∧e.f+1<len)(ht:0≤e.t∧e.t+1<len):
  af Tryz.prog yp [.agg (cV e).toArray,ptr p] H fun v H'=>ax (v= .bool (!decide (rt (e.f.toNat+1)=rt (e.t.toNat+1)))∧bN H' b s len rt dF∧ag (fun z=>z=b∨z=s) H H'):=by
 refine j6 mixed (an:=Iv) (by conv=>lhs;cbv) (nt:=11) (by kernel_rfl) (by simp) ?_
 have f0:ah H (H.new 53 [i64 e.f,i64 e.t,i64 e.w]):=(ag.refl _ _).new _ _
 have b0:=az H 53 [i64 e.f,i64 e.t,i64 e.w]
 have p0:=f0.own hp (fun h=>h)
 have n0:=h.ext f0 (fun h=>h) (fun h=>h)
 have aN:=h.lt
 simp(disch:=(first|omega| (simp only[Zs]<;>omega)|fail)) only[go_sem, ↓reduceIte,Zv,cV,ae b0,ae p0]
 generalize H.new 53 [i64 e.f,i64 e.t,i64 e.w]=H0 at*
 refine(BR n0 hf ht).mono ?_
 rintro _ H1 ⟨rfl,n1,e1⟩
 refine vs ?_
 exact⟨rfl,n1,⟨aqW f0.size e1.size,fun z hz hn=>(e1.aM z (aqw hz f0.size) hn).trans (f0.aM z hz (fun h=>h))⟩⟩
theorem eX{H:Hp}{n:Int}{a a':Option Addr}{c c':Nat}{es:List Ed}{ks:List Int}(h:db H 3 (.slice a es.length c) es.length (dk es))(h':db H 1 (.slice a' ks.length c') ks.length (ks.map i64))
  (hm:es.length≤1000000000)(hl:ks.length≤1000000):
  af Tryz.prog Eo [Dt n (.slice a es.length c),.slice a' ks.length c'] H fun v H'=>ax (ah H H'∧∃b,v= .bool b∧(b=true↔SpR n es ks)):=by
 refine bm Mp ?_
 have f0:ah H (H.new 26 [i64 n,.slice a es.length c]):=(ag.refl _ _).new _ _
 have b0:=az H 26 [i64 n,.slice a es.length c]
 simp(disch:=(first|omega| (simp only[Zs]<;>omega)|fail)) only[go_sem, ↓reduceIte,Zv,Dt]
 generalize H.new 26 [i64 n,.slice a es.length c]=H0 at*
 refine(j8 (n:=n) (h.fresh f0) hm).mono ?_
 rintro _ H1 ⟨rfl,f1⟩
 have b1:=f1.own b0 (fun h=>h)
 have SG:=f0.trans f1
 by_cases hR:dG n es=true
 rotate_left
 ·rw[if_neg hR]
  refine vs ?_
  exact⟨SG,false,rfl,iff_of_false (by simp) fun hs=>hR hs.1⟩
 rw[if_pos hR]
 have hr:=(eQ n es).1 hR
 refine vs ?_
 refine ar.cP (by simp) ?_
 refine v1 (ae b1) ?_
 refine(GI (h.fresh SG) (h'.fresh SG) hr hl).mono ?_
 rintro _ H2 ⟨f2,CU⟩
 have b2:=f2.own b1 (fun h=>h)
 have Vf:=SG.trans f2
 rcases CU with ⟨bO,rfl⟩| ⟨⟨bH,Ry⟩,b,s,rt,rfl,hb,hs,hN,hT⟩
 ·have q2:=az H2 75 [.pointer none]
  refine v1 q2 ?_
  have fw:ah H2 ((H2.new 75 [.pointer none]).wr H2.size [.pointer none]):=((ag.refl _ _).new _ _:ah H2 _).then ((ag.refl (fun z=>z=H2.size) _).wr (fun _=>rfl) _) (fun z hz=>by omega)
  exact⟨Vf.trans fw,false,rfl,iff_of_false (by simp) fun hs=>bO ⟨hs.2.ins,hs.2.AP⟩⟩
 ·have q2:=az H2 75 [.pointer none]
  have q3:=ai (l:=[ptr b]) q2
  have fw:ah H2 ((H2.new 75 [.pointer none]).wr H2.size [ptr b]):=((ag.refl _ _).new _ _:ah H2 _).then ((ag.refl (fun z=>z=H2.size) _).wr (fun _=>rfl) _) (fun z hz=>by omega)
  have b3:=fw.own b2 (fun h=>h)
  have hzb:=aB b2
  refine v2 q2 (ae b3) ?_
  have hN3:=hN.ext fw (fun h=>h) (fun h=>h)
  have BU:=hN.lt
  generalize (H2.new 75 [.pointer none]).wr H2.size [ptr b]=H3 at*
  have f03:=Vf.trans fw
  have alX:=f0.size
  have Np:=f1.size
  refine(nX (H:=H3) yp [ptr H2.size] (fun e=> !decide (rt (e.f.toNat+1)=rt (e.t.toNat+1))) (fun H'=>ah H H'∧bN H' b s (n.toNat+1) rt n∧H'.own H2.size=some [ptr b]) ⟨f03,hN3,q3⟩
   (fun H' hI=>h.fresh hI.1) (by kernel_rfl) (fun H' e he hI=>?_) hm).mono ?_
  ·obtain⟨e0,e1,e2,e3⟩:=hr.ends e he
   refine(Dv e hI.2.2 hI.2.1 ⟨e0,by omega⟩ ⟨e2,by omega⟩).mono ?_
   rintro _ zh ⟨rfl,hn,hx⟩
   exact⟨rfl,hI.1.then hx (fun z hz=>by omega),hn,hx.own hI.2.2 (fun h=>by omega)⟩
  ·rintro _ H4 ⟨rfl,f4,_,_⟩
   refine vs ?_
   refine⟨f4,_,rfl,?_⟩
   rw[Bool.not_eq_true',arY]
   constructor
   ·intro cM
    refine⟨hR,bH,Ry,fun u v=>jZ fun x hx=>?_⟩
    obtain⟨i,hi,rfl⟩:=aqK.1 hx
    obtain⟨k,e,rfl,he,_⟩:=(j7.1 hi).get
    have bq:=aqg he
    obtain⟨e0,e1,e2,e3⟩:=hr.ends e bq
    have:=cM e bq
    rw[nT he]
    exact(hT _ _ (by omega) (by omega)).1 (by simpa using this)
   ·rintro⟨_,AK⟩ e bq
    obtain⟨k,he⟩:=aqB bq
    obtain⟨e0,e1,e2,e3⟩:=hr.ends e bq
    have hk:=(aqc.1 he).1
    have hh:=AK.all _ _ (kG (aqK.2 ⟨(k:Int),j7.2 ⟨by omega,by omega⟩,rfl⟩))
    rw[nT he]at hh
    have:=(hT _ _ (by omega) (by omega)).2 hh
    simpa using this
theorem iL(l:List Int):gJ (l.map i64):=fun v hv=>by
 obtain⟨x,_,rfl⟩:=aqK.1 hv
 rfl
theorem MI(n:Nat):aV [.slice none 0 0] n=List.replicate n (.slice none 0 0):=by
 unfold aV
 induction n with
 |zero=>rfl
 |succ n ih=>rw[aqQ,aq4,ih,aqQ];rfl
structure qV(H:Hp)(B b n:Nat)(xs:Nat→List Int)(fp:Nat→Option Nat):Prop where
 Sm:∃bX:List Value,H.own b=some bX∧bX.length=n∧∀i,i<n→∃sv,bX[i]? =some sv∧Sl H 1 sv (xs i).length ((xs i).map i64) (fp i)
 base:B≤b
 low:∀i,i<n→∀p,fp i=some p→B≤p∧p≠b
 apart:∀i j p,i<n→j<n→fp i=some p→fp j=some p→i=j
theorem qV.lt{H:Hp}{B b n:Nat}{xs:Nat→List Int}{fp:Nat→Option Nat}(h:qV H B b n xs fp):b<H.size:=by
 obtain⟨bX,h1,_⟩:=h.Sm
 exact aB h1
theorem qV.ext{H H':Hp}{B b n:Nat}{xs:Nat→List Int}{fp:Nat→Option Nat}{S:Nat→Prop}(h:qV H B b n xs fp)(e:ag S H H')(hb:¬S b)(hs:∀i p,i<n→fp i=some p→¬S p):qV H' B b n xs fp:=by
 obtain⟨bX,h1,h2,h3⟩:=h.Sm
 refine⟨⟨bX,e.own h1 hb,h2,fun i hi=>?_⟩,h.base,h.low,h.apart⟩
 obtain⟨sv,h4,h5⟩:=h3 i hi
 exact⟨sv,h4,h5.ext e (fun p hp=>hs i p hi hp)⟩
theorem qV.fresh{H H':Hp}{B b n:Nat}{xs:Nat→List Int}{fp:Nat→Option Nat}(h:qV H B b n xs fp)(e:ah H H'):qV H' B b n xs fp:=h.ext e (fun h=>h) (fun _ _ _ _ h=>h)
theorem qV.get{H:Hp}{B b n:Nat}{xs:Nat→List Int}{fp:Nat→Option Nat}(h:qV H B b n xs fp){i:Nat}(hi:i<n):∃bX sv,H.own b=some bX∧bX.length=n∧bX[i]? =some sv∧Sl H 1 sv (xs i).length ((xs i).map i64) (fp i):=by
 obtain⟨bX,h1,h2,h3⟩:=h.Sm
 obtain⟨sv,h4,h5⟩:=h3 i hi
 exact⟨bX,sv,h1,h2,h4,h5⟩
theorem qV.new{T B n:Nat}(H:Hp)(hB:B≤H.size){l:List Value}(hl:l=List.replicate n (.slice none 0 0)):qV (H.new T l) B H.size n (fun _=>[]) (fun _=>none):=by
 refine⟨⟨l,az _ _ _,by rw[hl];simp,fun i hi=>⟨.slice none 0 0,by rw[hl,arp,if_pos hi],Sl.nil _ _⟩⟩,hB,fun i hi p hp=>(by cases hp),fun i j p _ _ hp=>(by cases hp)⟩
def jE(xs:Nat→List Int)(i:Nat)(l:List Int):Nat→List Int:=fun k=>if k=i then l else xs k
def Dw(fp:Nat→Option Nat)(i:Nat)(o:Option Nat):Nat→Option Nat:=fun k=>if k=i then o else fp k
theorem qV.put{H H':Hp}{B b n:Nat}{xs:Nat→List Int}{fp:Nat→Option Nat}(h:qV H B b n xs fp){i:Nat}(hi:i<n){l:List Int}{sv:Value}{o:Option Nat}(e:ag (fun z=>fp i=some z) H H')(s:Sl H' 1 sv l.length (l.map i64) o)
  (ho:o=fp i∨∃p,o=some p∧H.size≤p∧p<H'.size){bX:List Value}(pO:H.own b=some bX):H'.own b=some bX∧qV (H'.wr b (bX.set i sv)) B b n (jE xs i l) (Dw fp i o):=by
 obtain⟨E9,h1,h2,h3⟩:=h.Sm
 rw[pO]at h1
 injection h1 with h1
 subst h1
 have hbS:¬fp i=some b:=fun hh=>(h.low i hi b hh).2 rfl
 have QP:=e.own pO hbS
 have hb:=aB pO
 have hob:∀p,o=some p→p≠b:=fun p hp=>by
  rcases ho with ho| ⟨q,hq,RC,_⟩
  ·rw[ho]at hp;exact(h.low i hi p hp).2
  ·rw[hp]at hq;injection hq with hq;omega
 refine⟨QP,⟨_,ai QP,by simpa using h2,fun k hk=>?_⟩,h.base,fun k hk p hp=>?_,fun k k' p hk MC hp PF=>?_⟩
 ·have ew:ag (fun z=>z=b) H' (H'.wr b (bX.set i sv)):=(ag.refl (fun z=>z=b) _).wr (fun _=>rfl) _
  unfold jE Dw
  by_cases E3:k=i
  ·subst E3
   refine⟨sv,by rw[aqi (by omega)],?_⟩
   rw[if_pos rfl,if_pos rfl]
   exact s.ext ew (fun p hp=>hob p hp)
  ·obtain⟨WB,h4,h5⟩:=h3 k hk
   refine⟨WB,by rw[aqh (Ne.symm E3)];exact h4,?_⟩
   rw[if_neg E3,if_neg E3]
   exact(h5.ext e (fun p hp PF=>E3 (h.apart k i p hk hi hp PF))).ext ew (fun p hp=>(h.low k hk p hp).2)
 ·unfold Dw at hp
  by_cases E3:k=i
  ·rw[if_pos E3]at hp
   refine⟨?_,hob p hp⟩
   rcases ho with ho| ⟨q,hq,RC,_⟩
   ·rw[ho]at hp;exact(h.low i hi p hp).1
   ·rw[hp]at hq;injection hq with hq;have:=h.base;omega
  ·rw[if_neg E3]at hp;exact h.low k hk p hp
 ·have lt:∀j p,j<n→fp j=some p→p<H.size:=fun j p hj hp=>by
   obtain⟨_,_,h5⟩:=h3 j hj
   rw[hp]at h5
   exact Sl.lt h5
  unfold Dw at hp PF
  by_cases E3:k=i<;>by_cases Yg:k'=i
  ·omega
  ·rw[if_pos E3]at hp
   rw[if_neg Yg]at PF
   rcases ho with ho| ⟨q,hq,RC,_⟩
   ·rw[ho]at hp;have:=h.apart i k' p hi MC hp PF;omega
   ·rw[hp]at hq;injection hq with hq;have:=lt k' p MC PF;omega
  ·rw[if_neg E3]at hp
   rw[if_pos Yg]at PF
   rcases ho with ho| ⟨q,hq,RC,_⟩
   ·rw[ho]at PF;have:=h.apart k i p hk hi hp PF;omega
   ·rw[PF]at hq;injection hq with hq;have:=lt k p hk hp;omega
  ·rw[if_neg E3]at hp
   rw[if_neg Yg]at PF
   exact h.apart k k' p hk MC hp PF
theorem qV.uA{H H':Hp}{B b n:Nat}{xs:Nat→List Int}{fp:Nat→Option Nat}(h:qV H B b n xs fp){i:Nat}(hi:i<n){l:List Int}{sv:Value}{bX:List Value}(pO:H.own b=some bX)(ni:bX[i]? =some sv)(e:ag (fun z=>fp i=some z) H H')(s:Sl H' 1 sv l.length (l.map i64) (fp i)):
  qV H' B b n (jE xs i l) fp:=by
 obtain⟨E9,h1,h2,h3⟩:=h.Sm
 rw[pO]at h1
 injection h1 with h1
 subst h1
 have hbS:¬fp i=some b:=fun hh=>(h.low i hi b hh).2 rfl
 refine⟨⟨bX,e.own pO hbS,h2,fun k hk=>?_⟩,h.base,h.low,h.apart⟩
 unfold jE
 by_cases E3:k=i
 ·subst E3
  exact⟨sv,ni,by rw[if_pos rfl];exact s⟩
 ·obtain⟨WB,h4,h5⟩:=h3 k hk
  exact⟨WB,h4,by rw[if_neg E3];exact h5.ext e (fun p hp PF=>E3 (h.apart k i p hk hi hp PF))⟩
end Go.Proofs.YthpjfeolagohkaaGreat
