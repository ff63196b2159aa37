/- Texts put behind each other. -/
import Derived.Test.YthpjfeolagohkaaGreatK98
import Derived.Test.YthpjfeolagohkaaGreatK12
import Derived.Test.YthpjfeolagohkaaGreatK15
import Derived.Test.YthpjfeolagohkaaGreatK16
import Derived.Test.YthpjfeolagohkaaGreatK17
import Derived.Test.YthpjfeolagohkaaGreatK18
set_option maxRecDepth 100000
set_option maxHeartbeats 8000000
set_option linter.unusedVariables false
set_option linter.unusedSimpArgs false
namespace Go.Vc
open Go
theorem Zs:(∀ (H:Hp) (b:Nat) (l:List Value),(H.wr b l).size=H.size)∧(∀ (H:Hp) (b:Nat) (es:List MapEntry) (k:Nat),(H.Ei b es k).size=H.size)∧(∀ (H:Hp) (T:TypeId) (l:List Value),(H.new T l).size=H.size+1)∧∀H:Hp,H.iR.size=H.size+1:=⟨cG,My,am,iJ⟩
theorem Zv:(∀ {H:Hp} {b c:Nat} {l:List Value},b≠c→(H.wr b l).rd c=H.rd c∧(H.wr b l).own c=H.own c∧(H.wr b l).mp c=H.mp c)∧(∀ {H:Hp} {b c:Nat} {es:List MapEntry} {k:Nat},b≠c→(H.Ei b es k).rd c=H.rd c∧(H.Ei b es k).own c=H.own c∧(H.Ei b es k).mp c=H.mp c)∧
 (∀ {H:Hp} {c:Nat} {T:TypeId} {l:List Value},c<H.size→(H.new T l).rd c=H.rd c∧(H.new T l).own c=H.own c∧(H.new T l).mp c=H.mp c)∧(∀ {H:Hp} {c:Nat},c<H.size→H.iR.rd c=H.rd c∧H.iR.own c=H.own c∧H.iR.mp c=H.mp c)∧
 (∀ {H:Hp} {c:Nat} {T:TypeId} {l:List Value},c=H.size→(H.new T l).rd c=some l∧(H.new T l).own c=some l)∧∀ {H:Hp} {c:Nat},c=H.size→H.iR.mp c=some ([],0):=
 ⟨fun h=>⟨Sj h,c7 h,Sk h⟩,fun h=>⟨QE h,Of h,QF h⟩,fun h=>⟨QG h,cA h,QH h⟩,fun h=>⟨Og h,Mz h,Oh h⟩,fun h=>⟨QI h,bz h⟩,fun h=>Oi h⟩
attribute [go_sem_proc] Nat.reduceBEq Nat.reduceAdd Nat.reduceMul Nat.reduceLeDiff
theorem vs{p q:Prop}(h:q)(e:p=q:=by conv=>lhs;simp(disch:=(first|omega| (simp only[Zs]<;>omega)|fail)) only[go_sem, ↓reduceIte,Zv]):p:=e.mpr h
theorem v1{p q a0:Prop}(x0:a0)(h:q)(e:a0→p=q:=by intro y0;conv=>lhs;simp(disch:=(first|omega| (simp only[Zs]<;>omega)|fail)) only[go_sem, ↓reduceIte,Zv,y0]):p:=(e x0).mpr h
theorem v2{p q a0 a1:Prop}(x0:a0)(x1:a1)(h:q)(e:a0→a1→p=q:=by intro y0 y1;conv=>lhs;simp(disch:=(first|omega| (simp only[Zs]<;>omega)|fail)) only[go_sem, ↓reduceIte,Zv,y0,y1]):p:=(e x0 x1).mpr h
theorem v3{p q a0 a1 a2:Prop}(x0:a0)(x1:a1)(x2:a2)(h:q)(e:a0→a1→a2→p=q:=by intro y0 y1 y2;conv=>lhs;simp(disch:=(first|omega| (simp only[Zs]<;>omega)|fail)) only[go_sem, ↓reduceIte,Zv,y0,y1,y2]):p:=(e x0 x1 x2).mpr h
theorem v4{p q a0 a1 a2 a3:Prop}(x0:a0)(x1:a1)(x2:a2)(x3:a3)(h:q)(e:a0→a1→a2→a3→p=q:=by intro y0 y1 y2 y3;conv=>lhs;simp(disch:=(first|omega| (simp only[Zs]<;>omega)|fail)) only[go_sem, ↓reduceIte,Zv,y0,y1,y2,y3]):p:=(e x0 x1 x2 x3).mpr h
theorem v5{p q a0 a1 a2 a3 a4:Prop}(x0:a0)(x1:a1)(x2:a2)(x3:a3)(x4:a4)(h:q)(e:a0→a1→a2→a3→a4→p=q:=by intro y0 y1 y2 y3 y4;conv=>lhs;simp(disch:=(first|omega| (simp only[Zs]<;>omega)|fail)) only[go_sem, ↓reduceIte,Zv,y0,y1,y2,y3,y4]):p:=(e x0 x1 x2 x3 x4).mpr h
theorem v6{p q a0 a1 a2 a3 a4 a5:Prop}(x0:a0)(x1:a1)(x2:a2)(x3:a3)(x4:a4)(x5:a5)(h:q)(e:a0→a1→a2→a3→a4→a5→p=q:=by intro y0 y1 y2 y3 y4 y5;conv=>lhs;simp(disch:=(first|omega| (simp only[Zs]<;>omega)|fail)) only[go_sem, ↓reduceIte,Zv,y0,y1,y2,y3,y4,y5]):p:=(e x0 x1 x2 x3 x4 x5).mpr h
theorem v7{p q a0 a1 a2 a3 a4 a5 a6:Prop}(x0:a0)(x1:a1)(x2:a2)(x3:a3)(x4:a4)(x5:a5)(x6:a6)(h:q)(e:a0→a1→a2→a3→a4→a5→a6→p=q:=by intro y0 y1 y2 y3 y4 y5 y6;conv=>lhs;simp(disch:=(first|omega| (simp only[Zs]<;>omega)|fail)) only[go_sem, ↓reduceIte,Zv,y0,y1,y2,y3,y4,y5,y6]):p:=(e x0 x1 x2 x3 x4 x5 x6).mpr h
theorem v8{p q a0 a1 a2 a3 a4 a5 a6 a7:Prop}(x0:a0)(x1:a1)(x2:a2)(x3:a3)(x4:a4)(x5:a5)(x6:a6)(x7:a7)(h:q)(e:a0→a1→a2→a3→a4→a5→a6→a7→p=q:=by intro y0 y1 y2 y3 y4 y5 y6 y7;conv=>lhs;simp(disch:=(first|omega| (simp only[Zs]<;>omega)|fail)) only[go_sem, ↓reduceIte,Zv,y0,y1,y2,y3,y4,y5,y6,y7]):p:=(e x0 x1 x2 x3 x4 x5 x6 x7).mpr h
theorem v9{p q a0 a1 a2 a3 a4 a5 a6 a7 a8:Prop}(x0:a0)(x1:a1)(x2:a2)(x3:a3)(x4:a4)(x5:a5)(x6:a6)(x7:a7)(x8:a8)(h:q)(e:a0→a1→a2→a3→a4→a5→a6→a7→a8→p=q:=by intro y0 y1 y2 y3 y4 y5 y6 y7 y8;conv=>lhs;simp(disch:=(first|omega| (simp only[Zs]<;>omega)|fail)) only[go_sem, ↓reduceIte,Zv,y0,y1,y2,y3,y4,y5,y6,y7,y8]):p:=(e x0 x1 x2 x3 x4 x5 x6 x7 x8).mpr h
theorem v11{p q a0 a1 a2 a3 a4 a5 a6 a7 a8 a9 a10:Prop}(x0:a0)(x1:a1)(x2:a2)(x3:a3)(x4:a4)(x5:a5)(x6:a6)(x7:a7)(x8:a8)(x9:a9)(x10:a10)(h:q)(e:a0→a1→a2→a3→a4→a5→a6→a7→a8→a9→a10→p=q:=by intro y0 y1 y2 y3 y4 y5 y6 y7 y8 y9 y10;conv=>lhs;simp(disch:=(first|omega| (simp only[Zs]<;>omega)|fail)) only[go_sem, ↓reduceIte,Zv,y0,y1,y2,y3,y4,y5,y6,y7,y8,y9,y10]):p:=(e x0 x1 x2 x3 x4 x5 x6 x7 x8 x9 x10).mpr h
theorem v12{p q a0 a1 a2 a3 a4 a5 a6 a7 a8 a9 a10 a11:Prop}(x0:a0)(x1:a1)(x2:a2)(x3:a3)(x4:a4)(x5:a5)(x6:a6)(x7:a7)(x8:a8)(x9:a9)(x10:a10)(x11:a11)(h:q)(e:a0→a1→a2→a3→a4→a5→a6→a7→a8→a9→a10→a11→p=q:=by intro y0 y1 y2 y3 y4 y5 y6 y7 y8 y9 y10 y11;conv=>lhs;simp(disch:=(first|omega| (simp only[Zs]<;>omega)|fail)) only[go_sem, ↓reduceIte,Zv,y0,y1,y2,y3,y4,y5,y6,y7,y8,y9,y10,y11]):p:=(e x0 x1 x2 x3 x4 x5 x6 x7 x8 x9 x10 x11).mpr h
end Go.Vc
namespace Go.Proofs.YthpjfeolagohkaaGreat
open Go Go.Vc
abbrev i64(n:Int):Value:=.int .i64 n
abbrev ptr(b:Nat):Value:=.pointer (some ⟨b,0,none⟩)
abbrev u64(n:Int):Value:=.int .u64 n
abbrev uw(k s:Int):Value:=.agg [i64 k,u64 s].toArray
structure lN(bV:List Int)(rt d:Nat→Nat):Prop where
 pos:0<bV.length
 low:∀i,i<bV.length→rt i<bV.length
 IE:∀i,i<bV.length→rt (rt i)=rt i
 step:∀i,i<bV.length→∃j:Nat,bV[i]? =some (j:Int)∧j<bV.length∧rt j=rt i∧(j=i↔rt i=i)∧(j≠i→d j<d i)
 zero:rt 0=0
 nz:∀i,i<bV.length→rt i=0→i=0
structure bN(H:Hp)(b s:Nat)(len:Nat)(rt:Nat→Nat)(dF:Int):Prop where
 Sm:∃sv bV Lf,H.own b=some [sv,i64 dF,i64 Lf]∧Sl H 1 sv len (bV.map i64) (some s)∧(∃d,lN bV rt d)∧bV.length=len
 ne:b≠s
 le:(len:Int) - 1≤dF
 dF:0≤dF∧dF≤65536
theorem bN.ext{H H':Hp}{b s len:Nat}{rt:Nat→Nat}{dF:Int}{S:Nat→Prop}(h:bN H b s len rt dF)(e:ag S H H')(h1:¬S b)(h2:¬S s):bN H' b s len rt dF:=by
 obtain⟨⟨sv,bV,Lf,a1,a2,a3,a4⟩,h3,h4,h5⟩:=h
 exact⟨⟨sv,bV,Lf,e.own a1 h1,a2.ext e (fun x hx=>by injection hx with hx;exact hx▸h2),a3,a4⟩,h3,h4,h5⟩
theorem vA(dF:Int)(H:Hp):af Tryz.prog Mk [i64 dF] H fun v H'=>ax (
  ah H H'∧((¬ (0≤dF∧dF≤65536)∧v= .tuple [.pointer none,i64 31].toArray)∨
   (0≤dF∧dF≤65536)∧∃b s,v= .tuple [ptr b,i64 0].toArray∧bN H' b s 1 id dF∧H.size≤b∧H.size≤s∧b<H'.size∧s<H'.size)):=by
 refine bm Mt ?_
 refine vs ?_
 refine ar.dec (fun h=>?_) (fun h=>?_)<;>refine vs ?_
 ·exact⟨ag.refl _ _,.inl ⟨by omega,rfl⟩⟩
 ·refine ar.dec (fun h2=>?_) (fun h2=>?_)<;>refine vs ?_
  ·exact⟨ag.refl _ _,.inl ⟨by omega,rfl⟩⟩
  ·refine⟨((ag.refl _ _).new _ _).new _ _,.inr ⟨by omega,_,_,rfl,⟨⟨_,[0],0,by rw[←am H 3 [Value.int .i64 0]];exact az _ _ _,
    (Sl.lit H 3 1 1 [i64 0] rfl).ext ((ag.refl (fun _=>False) _).new _ _) (fun _ _ h=>h),?_,rfl⟩,?_,by omega,by omega⟩,?_,?_,?_,?_⟩⟩
   ·exact⟨fun _=>0,by simp,fun i hi=>hi,fun i hi=>rfl,fun i hi=>⟨0,by simp at hi;subst hi;rfl,by simp,by simp at hi;subst hi;rfl,by simp at hi;subst hi;simp,by simp at hi;subst hi;simp⟩,rfl,fun i hi h=>h⟩
   all_goals(try simp only[am]);omega
theorem sD{bV:List Int}{rt d:Nat→Nat}(h:lN bV rt d){i:Nat}(hi:i<bV.length):∃j:Nat,bV[i]? =some (j:Int)∧j<bV.length∧rt j=rt i∧(j=i↔rt i=i):=by
 have hd:=h.step
 obtain⟨j,h1,h2,h3,h4,_⟩:=hd i hi
 exact⟨j,h1,h2,h3,h4⟩
theorem E1{H:Hp}{b s len:Nat}{rt:Nat→Nat}{dF:Int}(h:bN H b s len rt dF):af Tryz.prog zq [ptr b] H fun v H'=>ax (v=i64 ((len:Int) - 1)∧H=H'):=by
 obtain⟨⟨sv,bV,Lf,a1,⟨a2,l,c,rfl,a3⟩,a4,a5⟩,h1,h2,h3⟩:=h
 refine bm zM ?_
 refine v1 (ae a1) ?_
 rw[wrap64 (by omega) (by omega)]
 exact⟨rfl,rfl⟩
theorem tz{H:Hp}{b s len:Nat}{rt:Nat→Nat}{dF:Int}(h:bN H b s len rt dF)(i:Int):af Tryz.prog zr [ptr b,i64 i] H fun v H'=>ax (v= .bool (decide (0<i∧i<len))∧H=H'):=by
 obtain⟨⟨sv,bV,Lf,a1,⟨a2,l,c,rfl,a3⟩,a4,a5⟩,h1,h2,h3⟩:=h
 refine bm zN ?_
 refine vs ?_
 refine ar.dec (fun h=>?_) (fun h=>?_)<;>refine v1 (ae a1) ?_
 ·refine⟨aqv Value.bool ?_,rfl⟩
  rw[decide_eq_decide];omega
 ·exact⟨aqv Value.bool (aqA (by omega)).symm,rfl⟩
theorem GC{bV:List Int}{l:List Value}{n:Nat}(h:l.take (n*1)=bV.map i64){i j:Nat}(hj:bV[i]? =some (j:Int)):l[i]? =some (i64 j):=by
 have h1:(bV.map i64)[i]? =some (i64 j):=by simp[hj]
 rw[←h]at h1
 rw[aqG]at h1
 split at h1
 ·exact h1
 ·cases h1
theorem nO{H:Hp}{b s len:Nat}{rt:Nat→Nat}{dF:Int}(h:bN H b s len rt dF)(i:Int):
  af Tryz.prog Bc [ptr b,i64 i] H fun v H'=>ax (v= .bool (decide (0<i∧i<len∧rt i.toNat=i.toNat))∧H=H'):=by
 have hm:=tz h i
 obtain⟨⟨sv,bV,Lf,a1,⟨a2,l,c,rfl,a3,b1,b2,b3⟩,⟨d,a4⟩,a5⟩,h1,h2,h3⟩:=h
 refine bm Bx ?_
 refine vs ?_
 refine hm.mono ?_
 rintro _ _ ⟨rfl,rfl⟩
 refine vs ?_
 refine ar.dec (fun h=>?_) (fun h=>?_)<;>refine v1 (ae a1) ?_
 ·obtain⟨j,e1,e2,e3,e4⟩:=sD a4 (i:=i.toNat) (by omega)
  refine⟨by omega,?_⟩
  refine v3 (ae a3) aqd (GC b3 e1) ?_
  refine⟨aqv Value.bool ?_,rfl⟩
  rw[decide_eq_decide]
  constructor
  ·intro hh;exact⟨h.1,h.2,e4.1 (by omega)⟩
  ·rintro⟨_,_,hh⟩;have:=e4.2 hh;omega
 ·exact⟨aqv Value.bool (aqA (by omega)).symm,rfl⟩
theorem lN.make{bV:List Int}{rt d:Nat→Nat}(h:lN bV rt d):lN (bV++[(bV.length:Int)]) (fun i=>if i=bV.length then i else rt i) d:=by
 have hd:=h.step
 have hp:=h.pos
 refine⟨by simp,fun i hi=>?_,fun i hi=>?_,fun i hi=>?_,?_,fun i hi hz=>?_⟩
 ·simp only[aqj,aqx,arh]at hi ⊢
  split
  ·omega
  ·have:=h.low i (by omega);omega
 ·simp only[aqj,aqx,arh]at hi
  by_cases e:i=bV.length
  ·simp[e]
  ·have h1:=h.low i (by omega)
   simp only[if_neg e,if_neg (show rt i≠bV.length by omega)]
   exact h.IE i (by omega)
 ·simp only[aqj,aqx,arh]at hi
  by_cases e:i=bV.length
  ·subst e
   exact⟨bV.length,by simp,by simp,by simp,by simp,by simp⟩
  ·obtain⟨j,h1,h2,h3,h4,h5⟩:=hd i (by omega)
   refine⟨j,by rw[aqs (by omega)];exact h1,by simp;omega,?_,?_,h5⟩
   ·simp only[if_neg e,if_neg (show j≠bV.length by omega)];exact h3
   ·simp only[if_neg e];exact h4
 ·simp only[if_neg (show(0:Nat)≠bV.length by omega)];exact h.zero
 ·simp only[aqj,aqx,arh]at hi
  by_cases e:i=bV.length
  ·simp only[e,if_true]at hz;omega
  ·simp only[if_neg e]at hz;exact h.nz i (by omega) hz
theorem lN.join{bV:List Int}{rt d:Nat→Nat}(h:lN bV rt d){a b:Nat}(ha:a<bV.length)(hb:b<bV.length)(ra:rt a=a)(rb:rt b=b)(AG:a≠b)(h0:b≠0)(Sp:a≠0):
  lN (bV.set b (a:Int)) (fun i=>if rt i=b then a else rt i) (fun i=>if rt i=b then d i+d a+1 else d i):=by
 have hd:=h.step
 refine⟨by simpa using h.pos,fun i hi=>?_,fun i hi=>?_,fun i hi=>?_,?_,fun i hi hz=>?_⟩
 ·simp only[aqe]at hi ⊢
  split
  ·exact ha
  ·exact h.low i hi
 ·simp only[aqe]at hi
  by_cases e:rt i=b
  ·simp only[e,if_true,ra,if_neg AG]
  ·simp only[if_neg e,h.IE i hi]
 ·simp only[aqe]at hi
  obtain⟨j,h1,h2,h3,h4,h5⟩:=hd i hi
  by_cases e:i=b
  ·subst e
   refine⟨a,by simp[hi],by simpa using ha,?_,?_,?_⟩
   ·simp only[ra,rb,if_neg AG,if_true]
   ·simp only[rb,if_true]
   ·intro _;simp only[ra,rb,if_neg AG,if_true];omega
  ·refine⟨j,by rw[aqh (Ne.symm e)];exact h1,by simpa using h2,?_,?_,?_⟩
   ·simp only[h3]
   ·by_cases e2:rt i=b
    ·simp only[e2,if_true]
     constructor
     ·intro Ju;have:=h4.1 Ju;omega
     ·intro Wu;rw[←Wu,ra]at e2;exact absurd e2 AG
    ·simp only[if_neg e2];exact h4
   ·intro Ju
    have:=h5 Ju
    simp only[h3]
    split<;>omega
 ·simp only[h.zero,if_neg (Ne.symm h0)]
 ·simp only[aqe]at hi
  by_cases e:rt i=b
  ·simp only[e,if_true]at hz;exact absurd hz Sp
  ·simp only[if_neg e]at hz;exact h.nz i hi hz
theorem lN.skip{bV:List Int}{rt d:Nat→Nat}(h:lN bV rt d){i j k:Nat}(hi:bV[i]? =some (j:Int))(hj:bV[j]? =some (k:Int))(aR:j≠i):
  lN (bV.set i (k:Int)) rt d∧k<bV.length∧rt k=rt i∧d k<d i:=by
 have hd:=h.step
 have qR:i<bV.length:=(aqc.1 hi).1
 have hjl:j<bV.length:=(aqc.1 hj).1
 obtain⟨j',e1,e2,e3,e4,e5⟩:=hd i qR
 rw[hi]at e1
 have ej:j'=j:=by injection e1 with e1;omega
 subst ej
 obtain⟨k',f1,f2,f3,f4,f5⟩:=hd j' hjl
 rw[hj]at f1
 have ek:k'=k:=by injection f1 with f1;omega
 subst ek
 have hdk:d k'≤d j':=by
  by_cases e:k'=j'
  ·rw[e];omega
  ·exact Nat.le_of_lt (f5 e)
 have hdj:=e5 aR
 have E3:k'≠i:=fun e=>by rw[e]at hdk;omega
 refine⟨⟨by simpa using h.pos,fun x hx=>by simp only[aqe]at hx ⊢;exact h.low x hx,fun x hx=>h.IE x (by simpa using hx),fun x hx=>?_,h.zero,fun x hx=>h.nz x (by simpa using hx)⟩,f2,f3.trans e3,by omega⟩
 simp only[aqe]at hx
 by_cases e:x=i
 ·subst e
  refine⟨k',by simp[hx],by simpa using f2,f3.trans e3,?_,fun _=>by omega⟩
  constructor
  ·intro hh;exact absurd hh E3
  ·intro hh;exact absurd (e4.2 hh) aR
 ·obtain⟨y,y1,y2,y3,y4,y5⟩:=hd x hx
  exact⟨y,by rw[aqh (Ne.symm e)];exact y1,by simpa using y2,y3,y4,y5⟩
theorem Er(l:List Int):gJ (l.map i64):=by
 intro v hv
 obtain⟨x,_,rfl⟩:=aqK.1 hv
 rfl
theorem tA{H:Hp}{b s len:Nat}{rt:Nat→Nat}{dF:Int}(h:bN H b s len rt dF):
  af Tryz.prog zm [ptr b] H fun v H'=>ax (
   ((len:Int) - 1=dF∧v= .tuple [i64 0,.bool false].toArray∧H=H')∨
   ((len:Int) - 1≠dF∧v= .tuple [i64 len,.bool true].toArray∧∃s',bN H' b s' (len+1) (fun i=>if i=len then i else rt i) dF∧ag (fun x=>x=b∨x=s) H H'∧(s'=s∨(H.size≤s'∧s'<H'.size)))):=by
 have hl:=E1 h
 obtain⟨⟨sv,bV,Lf,a1,a2,⟨d,a4⟩,a5⟩,h1,h2,h3⟩:=h
 have XY:=a2
 obtain⟨_,l,c,rfl,a3,b1,b2,b3⟩:=XY
 have hb:=aB a1
 refine bm zI ?_
 refine vs ?_
 refine⟨i64 ((len:Int) - 1),hl.mono fun _ _ h=>⟨h.out.1,h.out.2.symm⟩,?_⟩
 refine v1 (ae a1) ?_
 refine ar.dec (fun h=>?_) (fun h=>?_)<;>refine v1 (ae a1) ?_
 ·exact .inl ⟨h,rfl,rfl⟩
 ·have hn:(H.new 3 [i64 len]).own b=some [.slice (some ⟨s,0,none⟩) len c,i64 dF,i64 Lf]:=by rw[cA hb];exact a1
  refine Sl.append (a2.ext ((ag.refl (fun _=>False) H).new _ _) (fun _ _ h=>h)) (Sl.lit H 3 1 1 [i64 len] rfl).rd rfl (Er [(len:Int)]) (by omega) ?_
  intro v' H2 bI hs tR eB
  have GD:=tR.own hn (fun e=>h1 (by injection e with e;exact e.symm))
  have QJ:=tR.size
  rw[am]at QJ
  obtain⟨s',rfl⟩:∃s',bI=some s':=by
   rcases eB with h| ⟨x,h,_⟩
   ·exact⟨s,h⟩
   ·exact⟨x,h⟩
  have Jv:s'=s∨(H.size≤s'∧s'<H2.size):=by
   rcases eB with h| ⟨x,h,h5,h6⟩
   ·injection h with h;exact .inl h
   ·injection h with h;subst h;rw[am]at h5;exact .inr ⟨by omega,h6⟩
  have XZ:b≠s':=by
   rcases Jv with h|h
   ·rw[h];exact h1
   ·omega
  have El:=hs
  obtain⟨_,l',c',rfl,_⟩:=El
  simp(disch:=(first|omega| (simp only[Zs]<;>omega)|fail)) only[go_sem, ↓reduceIte,Zv,GD,ai GD,sE GD]
  refine .inr ⟨h,rfl,s',⟨⟨_,bV++[(len:Int)],_,ai GD,by rw[aqy];exact hs.ext ((ag.refl (fun x=>x=b) H2).wr (fun _=>rfl) _) (fun x e=>by injection e with e;omega),⟨d,?_⟩,by simp[a5]⟩,XZ,?_,h3⟩,?_,?_⟩
  ·have:=a4.make
   rw[a5]at this
   exact this
  ·have:(len:Int) - 1<dF:=by omega
   omega
  ·refine ag.wr (ag.pL ((ag.refl (fun x=>x=b∨x=s) H).new _ _) tR (fun x _ e=>.inr (by injection e with e;exact e.symm))) (fun _=>.inl rfl) _
  ·rcases Jv with h|h
   ·exact .inl h
   ·exact .inr ⟨h.1,by rw[cG];exact h.2⟩
theorem E4{H:Hp}{b s len:Nat}{rt:Nat→Nat}{dF:Int}(h:bN H b s len rt dF)(x y:Int):
  af Tryz.prog zo [ptr b,i64 x,i64 y] H fun v H'=>ax (
   let ok:=(0<x∧x<len∧rt x.toNat=x.toNat)∧(0<y∧y<len∧rt y.toNat=y.toNat)∧x≠y
   (¬ok∧v= .bool false∧H=H')∨
   (ok∧v= .bool true∧bN H' b s len (fun i=>if rt i=y.toNat then x.toNat else rt i) dF∧ag (fun z=>z=b∨z=s) H H')):=by
 have hx:=nO h x
 have hy:=nO h y
 obtain⟨⟨sv,bV,Lf,a1,a2,⟨d,a4⟩,a5⟩,h1,h2,h3⟩:=h
 obtain⟨e0,l,c,rfl,a3,b1,b2,b3⟩:=a2
 refine bm zK ?_
 refine vs ?_
 refine hx.mono ?_
 rintro _ _ ⟨rfl,rfl⟩
 refine vs ?_
 refine ar.dec (fun hx=>?_) (fun hx=>?_)<;>refine vs ?_
 ·refine hy.mono ?_
  rintro _ _ ⟨rfl,rfl⟩
  refine vs ?_
  refine ar.dec (fun hy=>?_) (fun hy=>?_)<;>refine vs ?_
  ·refine ar.dec (fun Lh=>?_) (fun Lh=>?_)<;>refine vs ?_
   ·exact .inl ⟨fun hc=>hc.2.2 Lh,rfl,rfl⟩
   ·have hs:Sl H 1 (.slice (some ⟨s,0,none⟩) len c) len (bV.map i64) (some s):=⟨e0,l,c,rfl,a3,b1,b2,b3⟩
    refine v1 (ae a1) ?_
    refine⟨by omega,?_⟩
    have bf:l.length=l.length:=rfl
    have o8:len*1≤l.length:=by omega
    refine v2 a3 aqd ?_
    refine⟨by omega,?_⟩
    have oG:(H.wr s (l.set y.toNat (i64 x))).own b=some [.slice (some ⟨s,0,none⟩) len c,i64 dF,i64 Lf]:=(c7 (Ne.symm h1)).trans a1
    refine v2 oG (ae oG) ?_
    have hj:=a4.join (a:=x.toNat) (b:=y.toNat) (by omega) (by omega) hx.2.2 hy.2.2 (by omega) (by omega) (by omega)
    rw[show((x.toNat:Nat):Int)=x by omega]at hj
    refine .inr ⟨⟨hx,hy,Lh⟩,rfl,⟨⟨_,bV.set y.toNat x,_,ai oG,?_,⟨_,hj⟩,by simpa using a5⟩,h1,h2,h3⟩,?_⟩
    ·rw[aqP]
     exact(hs.qn a3 y.toNat (i64 x)).ext ((ag.refl (fun z=>z=b) _).wr (fun _=>rfl) _) (fun z e=>by injection e with e;omega)
    ·exact((ag.refl _ _).wr (fun _=>.inr rfl) _).wr (fun _=>.inl rfl) _
  ·exact .inl ⟨fun hc=>hy hc.2.1,rfl,rfl⟩
 ·exact .inl ⟨fun hc=>hx hc.1,rfl,rfl⟩
theorem fG{H:Hp}{b s len:Nat}{rt:Nat→Nat}{dF:Int}(h:bN H b s len rt dF)(i:Int):
  af Tryz.prog zn [ptr b,i64 i] H fun v H'=>ax (
   (¬ (0<i∧i<len)∧v= .tuple [i64 0,.bool false].toArray∧H=H')∨
   ((0<i∧i<len)∧v= .tuple [i64 (rt i.toNat),.bool true].toArray∧bN H' b s len rt dF∧ag (fun z=>z=b∨z=s) H H')):=by
 have hm:=tz h i
 refine bm zJ ?_
 refine vs ?_
 refine hm.mono ?_
 rintro _ _ ⟨rfl,rfl⟩
 refine vs ?_
 refine ar.dec (fun hi=>?_) (fun hi=>?_)<;>refine vs ?_
 ·obtain⟨⟨sv,bV,Lf,a1,a2,⟨d,a4⟩,a5⟩,h1,h2,h3⟩:=h
  refine aY.intro (fun m env H1=>∃ (k:Nat) (bV:List Int) (sv:Value),env=[(0,ptr b),(1,i64 k)]∧k<len∧rt k=rt i.toNat∧d k=m∧
   H1.own b=some [sv,i64 dF,i64 Lf]∧Sl H1 1 sv len (bV.map i64) (some s)∧lN bV rt d∧bV.length=len∧ag (fun z=>z=b∨z=s) H H1) (d i.toNat)
   ⟨i.toNat,bV,sv,by rw[show((i.toNat:Nat):Int)=i by omega],by omega,rfl,rfl,a1,a2,a4,a5,ag.refl _ _⟩ ?_
  rintro m env H1 ⟨k,bV,sv,rfl,k1,k2,rfl,c1,c2,c4,c5,cx⟩
  have c2':=c2
  obtain⟨e0,l,c,rfl,c3,e1,e2,e3⟩:=c2'
  obtain⟨j,j1,j2,j3,j4⟩:=sD c4 (i:=k) (by omega)
  refine v1 (ae c1) ?_
  refine⟨by omega,?_⟩
  have jl:=GC e3 j1
  refine v4 (ae c3) aqd Int.toNat_natCast jl ?_
  refine ar.dec (fun hjk=>?_) (fun hjk=>?_)<;>refine v1 (ae c1) ?_
  ·refine .inr ⟨hi,?_,⟨⟨_,bV,Lf,c1,c2,⟨d,c4⟩,c5⟩,h1,h2,h3⟩,cx⟩
   have:=j4.1 (by omega)
   rw[←k2,this]
   rfl
  ·obtain⟨k',g1,g2,g3,g4⟩:=sD c4 (i:=j) j2
   have gl:=GC e3 g1
   have aR:j≠k:=by omega
   obtain⟨f1,f2,f3,f4⟩:=c4.skip j1 g1 aR
   refine⟨by omega,?_⟩
   refine v4 (ae c3) aqd Int.toNat_natCast jl ?_
   refine⟨by omega,?_⟩
   refine v4 (ae c3) aqd Int.toNat_natCast gl ?_
   refine⟨by omega,?_⟩
   have o8:k<l.length:=by omega
   refine v3 c3 aqd Int.toNat_natCast ?_
   refine⟨by omega,?_⟩
   have c1':(H1.wr s (l.set k (i64 k'))).own b=some [.slice (some ⟨s,0,none⟩) len c,i64 dF,i64 Lf]:=(c7 (Ne.symm h1)).trans c1
   have c3':(H1.wr s (l.set k (i64 k'))).own s=some (l.set k (i64 k')):=ai c3
   have kl:(l.set k (i64 k'))[k]? =some (i64 k'):=by rw[aqi o8]
   refine v1 (ae c1') ?_
   refine⟨by omega,?_⟩
   refine v4 (ae c3') aqd Int.toNat_natCast kl ?_
   refine⟨d k',f4,k',bV.set k (k':Int),_,rfl,by omega,f3.trans k2,rfl,c1,?_,f1,by simpa using c5,cx.trans ((ag.refl _ _).wr (fun _=>.inr rfl) _)⟩
   rw[aqP]
   exact c2.qn c3 k (i64 k')
 ·exact .inl ⟨hi,rfl,rfl⟩
end Go.Proofs.YthpjfeolagohkaaGreat

namespace Go.Vc
open Go
theorem j6{P:Program}(hm:P.follows .mixedOrders=true){f:FuncId}{an:List HS}{F:Fn}(hd:dQ P f an=some F){args:List Value}{H:Hp}{K:Value→Hp→Prop}{nt:Nat}(ht:(P.funcs[f]?).map (·.ntmps)=some nt)(bf:args.length≤nt)
  (h:Go.Vc.vc P F.body (iV 0 args) H (fun env H=>rP env H F.res fun vs=>K (LZ vs) H) (fun _ _ _=>False) (fun env H=>rP env H F.res fun vs=>K (LZ vs) H)):af P f args H K:=by
 unfold dQ at hd
 split at hd
 ·cases hd
 ·rename_i fn hf
  split at hd
  ·cases hd
  ·rename_i c hb
   split at hd
   ·rename_i s hs
    split at hd
    ·rename_i oP
     cases hr:ny P fn.results.toList with
     |none=>rw[hr]at hd;cases hd
     |some rs=>
      rw[hr]at hd
      simp only[Option.map_some,aqk]at hd
      subst hd
      simp only at h
      rw[hf]at ht
      simp only[Option.map_some,aqk]at ht
      intro w hw
      subst hw
      refine calls_of_wp hf hb ?_
      have hh:Holds (iV 0 args) {tmps:=args.toArray++Array.replicate (fn.ntmps - args.toArray.size) undef,defers:=[]} fn.ntmps:=by
       refine⟨by simp;omega,rfl,fun k v hk=>?_⟩
       obtain⟨_,h2⟩:=Js args 0 k v hk
       have aN:k<args.length:=by
        rcases arm k args.length with h'|h'
        ·exact h'
        ·simp[aqo h']at h2
       rw[arC (by simpa using aN)]
       simpa using h2
      have CU:∀aT a' w',cu w w'→Holds aT a' fn.ntmps→rP aT w'.heap rs (fun vs=>K (LZ vs) w'.heap)→
        a'.defers=[]∧∃v,(results fn a'.tmps).run P w'= .ok v w'∧(∃v_1,Ending.returned v=Ending.returned v_1∧cu w w'∧K v_1 w'.heap):=by
       intro aT a' w' NB oQ hk
       obtain⟨vs,hF,EJ⟩:=A5 (P:=P) oQ fn.results.toList rs _ hr hk
       refine⟨oQ.defers,LZ vs,?_,_,rfl,NB,hF⟩
       change (do let vs ←fn.results.mapM (CT a'.tmps);pure (if h:vs.size=1 then vs[0]else .tuple vs):Sem Value).run P w'=_
       rw[Array.mapM_eq_mapM_toList]
       simp only[Sem.run_bind,Sem.run_map,EJ,Result.andThen_ok,Sem.run_pure]
       congr 1
       cases vs with
       |nil=>rfl
       |cons x r=>cases r with
        |nil=>rfl
        |cons y r=>simp[LZ]
      refine LY hm c an s [] hs _ _ w _ _ _ _ hh h ?_ ?_ ?_
      ·exact fun aT a' w' NB oQ hk=>CU aT a' w' NB oQ hk
      ·exact fun _ _ _ _ _ _ hk=>hk.elim
      ·exact fun aT a' w' NB oQ hk=>CU aT a' w' NB oQ hk
    ·cases hd
   ·cases hd
end Go.Vc

namespace Go.Proofs.YthpjfeolagohkaaGreat
open Go Go.Vc
def cY(d:Int):Prop:=2≤d∧d≤16
instance(d:Int):Decidable (cY d):=inferInstanceAs (Decidable (_∧_))
theorem nP(d:Int)(H:Hp):af Tryz.prog Mn [i64 d] H fun v H'=>ax (v= .bool (decide (cY d))∧H=H'):=by
 refine bm Mx ?_
 refine vs ?_
 refine ar.dec (fun h=>?_) (fun h=>?_)<;>refine vs ?_
 ·exact⟨aqv Value.bool (by rw[decide_eq_decide];unfold cY;omega),rfl⟩
 ·exact⟨aqv Value.bool (aqA (by unfold cY;omega)).symm,rfl⟩
def aX(d i:Int):Option Int:=if cY d∧1≤i then some ((i - 1) / d)else none
def Oj(o:Option Int):Value:=match o with|some n=>.tuple [i64 n,.bool true].toArray|none=>.tuple [i64 0,.bool false].toArray
theorem fB{d i p:Int}(h:aX d i=some p):0≤p∧p<i:=by
 unfold aX at h
 split at h
 ·rename_i hc
  injection h with h
  have h0:=hc.1.1
  have:0≤(i - 1) / d:=Int.ediv_nonneg (by omega) (by omega)
  have h1:(i - 1) / d≤i - 1:=Int.ediv_le_self _ (by omega)
  omega
 ·cases h
theorem Sq{d i:Int}(hd:2≤d)(h1:1≤i)(hi:i≤9223372036854775807):IntKind.i64.wrap ((i - 1).tdiv d)=(i - 1) / d:=by
 rw[Int.tdiv_eq_ediv_of_nonneg (by omega)]
 have:0≤(i - 1) / d:=Int.ediv_nonneg (by omega) (by omega)
 have h1:(i - 1) / d≤i - 1:=Int.ediv_le_self _ (by omega)
 exact wrap64 (by omega) (by omega)
theorem Ds(d i:Int)(hi:i≤9223372036854775807)(H:Hp):af Tryz.prog Io [i64 d,i64 i] H fun v H'=>ax (v=Oj (aX d i)∧H=H'):=by
 refine bm IC ?_
 refine vs ?_
 refine(nP d H).mono ?_
 rintro _ _ ⟨rfl,rfl⟩
 refine vs ?_
 refine ar.dec (fun hf=>?_) (fun hf=>?_)<;>refine vs ?_
 ·refine ar.dec (fun h1=>?_) (fun h1=>?_)<;>refine vs ?_
  ·exact⟨by rw[aX,if_neg (by omega)];rfl,rfl⟩
  ·have h0:=hf.1
   rw[if_neg (by omega),wrap64 (n:=i - 1) (by omega) (by omega),Sq hf.1 (by omega) hi]
   refine vs ?_
   exact⟨by rw[aX,if_pos ⟨hf,by omega⟩];rfl,rfl⟩
 ·exact⟨by rw[aX,if_neg (fun h=>hf h.1)];rfl,rfl⟩
def sF(d i k:Int):Option Int:=if cY d∧0≤i∧i≤1099511627776∧1≤k∧k≤d then some (d*i+k)else none
theorem sG{d i k:Int}(hf:cY d)(h0:0≤i)(h1:i≤1099511627776)(hk:1≤k)(hd:k≤d):0≤d*i∧d*i≤17592186044416:=by
 obtain⟨a,b⟩:=hf
 refine⟨arQ (by omega) h0,?_⟩
 have:d*i≤16*i:=arL b h0
 omega
theorem tC(d i k:Int)(H:Hp):af Tryz.prog Km [i64 d,i64 i,i64 k] H fun v H'=>ax (v=Oj (sF d i k)∧H=H'):=by
 refine bm Ku ?_
 refine vs ?_
 refine(nP d H).mono ?_
 rintro _ _ ⟨rfl,rfl⟩
 refine vs ?_
 refine ar.dec (fun hf=>?_) (fun hf=>?_)<;>refine vs ?_
 ·refine ar.dec (fun h1=>?_) (fun h1=>?_)<;>refine vs ?_
  ·exact⟨by rw[sF,if_neg (by omega)];rfl,rfl⟩
  ·refine ar.dec (fun h2=>?_) (fun h2=>?_)<;>refine vs ?_
   ·exact⟨by rw[sF,if_neg (by omega)];rfl,rfl⟩
   ·refine ar.dec (fun h3=>?_) (fun h3=>?_)<;>refine vs ?_
    ·exact⟨by rw[sF,if_neg (by omega)];rfl,rfl⟩
    ·refine ar.dec (fun h4=>?_) (fun h4=>?_)<;>refine vs ?_
     ·exact⟨by rw[sF,if_neg (by omega)];rfl,rfl⟩
     ·have hb:=sG (i:=i) hf (by omega) (by omega) (by omega:1≤k) (by omega:k≤d)
      have hd:=hf.2
      rw[wrap64 (n:=d*i) (by omega) (by omega),wrap64 (by omega) (by omega)]
      exact⟨by rw[sF,if_pos ⟨hf,by omega,by omega,by omega,by omega⟩];rfl,rfl⟩
 ·exact⟨by rw[sF,if_neg (fun h=>hf h.1)];rfl,rfl⟩
def Nn(d:Int):Nat→Int→Nat
 |0,_=>0
 |m+1,i=>match aX d i with|some p=>Nn d m p+1|none=>0
theorem Ss(d:Int):∀ (m m':Nat) (i:Int),i.toNat≤m→i.toNat≤m'→Nn d m i=Nn d m' i:=by
 intro m
 induction m with
 |zero=>
  intro m' i h _
  have hn:aX d i=none:=by unfold aX;rw[if_neg (by omega)]
  cases m'<;>simp[Nn,hn]
 |succ m ih=>
  intro m' i h h'
  cases hp:aX d i with
  |none=>cases m'<;>simp[Nn,hp]
  |some p=>
   have hb:=fB hp
   cases m' with
   |zero=>omega
   |succ m'=>simp only[Nn,hp];rw[ih m' p (by omega) (by omega)]
theorem Su{d i p:Int}(h:aX d i=some p)(m:Nat)(hm:i.toNat≤m):Nn d m i=Nn d p.toNat p+1:=by
 have hb:=fB h
 obtain⟨q,hq⟩:∃q,m=q+1:=⟨m - 1,by omega⟩
 subst hq
 simp only[Nn,h]
 rw[Ss d q p.toNat p (by omega) (by omega)]
theorem tD{d i j:Int}(hd:2≤d)(hi:0≤i)(h1:1≤j)(h2:j≤d):(d*i+j - 1) / d=i:=by
 rw[show d*i+j - 1=(j - 1)+d*i by omega,Int.add_mul_ediv_left _ _ (by omega),Int.ediv_eq_zero_of_lt (by omega) (by omega)]
 omega
theorem UZ(o:Option Int):Oj o= .tuple [i64 (o.getD 0),.bool o.isSome].toArray:=by cases o<;>rfl
end Go.Proofs.YthpjfeolagohkaaGreat
