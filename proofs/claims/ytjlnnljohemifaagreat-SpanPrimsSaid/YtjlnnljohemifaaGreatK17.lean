/- Texts put behind each other. -/
import Derived.Test.YtjlnnljohemifaaGreatK98
import Derived.Test.YtjlnnljohemifaaGreatK9
import Derived.Test.YtjlnnljohemifaaGreatK12
import Derived.Test.YtjlnnljohemifaaGreatK13
import Derived.Test.YtjlnnljohemifaaGreatK14
import Derived.Test.YtjlnnljohemifaaGreatK15
import Derived.Test.YtjlnnljohemifaaGreatK16
set_option maxRecDepth 100000
set_option maxHeartbeats 8000000
set_option linter.unusedVariables false
set_option linter.unusedSimpArgs false
namespace Go.Vc
open Go
theorem Zs:(∀ (H:Hp) (b:Nat) (l:List Value),(H.wr b l).size=H.size)∧(∀ (H:Hp) (b:Nat) (es:List MapEntry) (k:Nat),(H.Du b es k).size=H.size)∧(∀ (H:Hp) (T:TypeId) (l:List Value),(H.new T l).size=H.size+1)∧∀H:Hp,H.ij.size=H.size+1:=⟨eo,K5,ap,iB⟩
theorem Zv:(∀ {H:Hp} {b c:Nat} {l:List Value},b≠c→(H.wr b l).rd c=H.rd c∧(H.wr b l).own c=H.own c∧(H.wr b l).mp c=H.mp c)∧(∀ {H:Hp} {b c:Nat} {es:List MapEntry} {k:Nat},b≠c→(H.Du b es k).rd c=H.rd c∧(H.Du b es k).own c=H.own c∧(H.Du b es k).mp c=H.mp c)∧
 (∀ {H:Hp} {c:Nat} {T:TypeId} {l:List Value},c<H.size→(H.new T l).rd c=H.rd c∧(H.new T l).own c=H.own c∧(H.new T l).mp c=H.mp c)∧(∀ {H:Hp} {c:Nat},c<H.size→H.ij.rd c=H.rd c∧H.ij.own c=H.own c∧H.ij.mp c=H.mp c)∧
 (∀ {H:Hp} {c:Nat} {T:TypeId} {l:List Value},c=H.size→(H.new T l).rd c=some l∧(H.new T l).own c=some l)∧∀ {H:Hp} {c:Nat},c=H.size→H.ij.mp c=some ([],0):=
 ⟨fun h=>⟨Rh h,jZ h,Ri h⟩,fun h=>⟨Pv h,M1 h,Pw h⟩,fun h=>⟨Px h,cu h,Py h⟩,fun h=>⟨M2 h,K6 h,M3 h⟩,fun h=>⟨Pz h,aT h⟩,fun h=>M4 h⟩
attribute [go_sem_proc] Nat.reduceBEq Nat.reduceAdd Nat.reduceMul Nat.reduceLeDiff
theorem vs{p q:Prop}(h:q)(e:p=q:=by conv=>lhs;simp(disch:=(first|omega| (simp only[Zs]<;>omega)|fail)) only[go_sem, ↓reduceIte,Zv]):p:=e.mpr h
theorem v1{p q a0:Prop}(x0:a0)(h:q)(e:a0→p=q:=by intro y0;conv=>lhs;simp(disch:=(first|omega| (simp only[Zs]<;>omega)|fail)) only[go_sem, ↓reduceIte,Zv,y0]):p:=(e x0).mpr h
theorem v2{p q a0 a1:Prop}(x0:a0)(x1:a1)(h:q)(e:a0→a1→p=q:=by intro y0 y1;conv=>lhs;simp(disch:=(first|omega| (simp only[Zs]<;>omega)|fail)) only[go_sem, ↓reduceIte,Zv,y0,y1]):p:=(e x0 x1).mpr h
theorem v3{p q a0 a1 a2:Prop}(x0:a0)(x1:a1)(x2:a2)(h:q)(e:a0→a1→a2→p=q:=by intro y0 y1 y2;conv=>lhs;simp(disch:=(first|omega| (simp only[Zs]<;>omega)|fail)) only[go_sem, ↓reduceIte,Zv,y0,y1,y2]):p:=(e x0 x1 x2).mpr h
theorem v4{p q a0 a1 a2 a3:Prop}(x0:a0)(x1:a1)(x2:a2)(x3:a3)(h:q)(e:a0→a1→a2→a3→p=q:=by intro y0 y1 y2 y3;conv=>lhs;simp(disch:=(first|omega| (simp only[Zs]<;>omega)|fail)) only[go_sem, ↓reduceIte,Zv,y0,y1,y2,y3]):p:=(e x0 x1 x2 x3).mpr h
theorem v5{p q a0 a1 a2 a3 a4:Prop}(x0:a0)(x1:a1)(x2:a2)(x3:a3)(x4:a4)(h:q)(e:a0→a1→a2→a3→a4→p=q:=by intro y0 y1 y2 y3 y4;conv=>lhs;simp(disch:=(first|omega| (simp only[Zs]<;>omega)|fail)) only[go_sem, ↓reduceIte,Zv,y0,y1,y2,y3,y4]):p:=(e x0 x1 x2 x3 x4).mpr h
theorem v6{p q a0 a1 a2 a3 a4 a5:Prop}(x0:a0)(x1:a1)(x2:a2)(x3:a3)(x4:a4)(x5:a5)(h:q)(e:a0→a1→a2→a3→a4→a5→p=q:=by intro y0 y1 y2 y3 y4 y5;conv=>lhs;simp(disch:=(first|omega| (simp only[Zs]<;>omega)|fail)) only[go_sem, ↓reduceIte,Zv,y0,y1,y2,y3,y4,y5]):p:=(e x0 x1 x2 x3 x4 x5).mpr h
theorem v7{p q a0 a1 a2 a3 a4 a5 a6:Prop}(x0:a0)(x1:a1)(x2:a2)(x3:a3)(x4:a4)(x5:a5)(x6:a6)(h:q)(e:a0→a1→a2→a3→a4→a5→a6→p=q:=by intro y0 y1 y2 y3 y4 y5 y6;conv=>lhs;simp(disch:=(first|omega| (simp only[Zs]<;>omega)|fail)) only[go_sem, ↓reduceIte,Zv,y0,y1,y2,y3,y4,y5,y6]):p:=(e x0 x1 x2 x3 x4 x5 x6).mpr h
theorem v8{p q a0 a1 a2 a3 a4 a5 a6 a7:Prop}(x0:a0)(x1:a1)(x2:a2)(x3:a3)(x4:a4)(x5:a5)(x6:a6)(x7:a7)(h:q)(e:a0→a1→a2→a3→a4→a5→a6→a7→p=q:=by intro y0 y1 y2 y3 y4 y5 y6 y7;conv=>lhs;simp(disch:=(first|omega| (simp only[Zs]<;>omega)|fail)) only[go_sem, ↓reduceIte,Zv,y0,y1,y2,y3,y4,y5,y6,y7]):p:=(e x0 x1 x2 x3 x4 x5 x6 x7).mpr h
theorem v9{p q a0 a1 a2 a3 a4 a5 a6 a7 a8:Prop}(x0:a0)(x1:a1)(x2:a2)(x3:a3)(x4:a4)(x5:a5)(x6:a6)(x7:a7)(x8:a8)(h:q)(e:a0→a1→a2→a3→a4→a5→a6→a7→a8→p=q:=by intro y0 y1 y2 y3 y4 y5 y6 y7 y8;conv=>lhs;simp(disch:=(first|omega| (simp only[Zs]<;>omega)|fail)) only[go_sem, ↓reduceIte,Zv,y0,y1,y2,y3,y4,y5,y6,y7,y8]):p:=(e x0 x1 x2 x3 x4 x5 x6 x7 x8).mpr h
theorem v11{p q a0 a1 a2 a3 a4 a5 a6 a7 a8 a9 a10:Prop}(x0:a0)(x1:a1)(x2:a2)(x3:a3)(x4:a4)(x5:a5)(x6:a6)(x7:a7)(x8:a8)(x9:a9)(x10:a10)(h:q)(e:a0→a1→a2→a3→a4→a5→a6→a7→a8→a9→a10→p=q:=by intro y0 y1 y2 y3 y4 y5 y6 y7 y8 y9 y10;conv=>lhs;simp(disch:=(first|omega| (simp only[Zs]<;>omega)|fail)) only[go_sem, ↓reduceIte,Zv,y0,y1,y2,y3,y4,y5,y6,y7,y8,y9,y10]):p:=(e x0 x1 x2 x3 x4 x5 x6 x7 x8 x9 x10).mpr h
theorem v12{p q a0 a1 a2 a3 a4 a5 a6 a7 a8 a9 a10 a11:Prop}(x0:a0)(x1:a1)(x2:a2)(x3:a3)(x4:a4)(x5:a5)(x6:a6)(x7:a7)(x8:a8)(x9:a9)(x10:a10)(x11:a11)(h:q)(e:a0→a1→a2→a3→a4→a5→a6→a7→a8→a9→a10→a11→p=q:=by intro y0 y1 y2 y3 y4 y5 y6 y7 y8 y9 y10 y11;conv=>lhs;simp(disch:=(first|omega| (simp only[Zs]<;>omega)|fail)) only[go_sem, ↓reduceIte,Zv,y0,y1,y2,y3,y4,y5,y6,y7,y8,y9,y10,y11]):p:=(e x0 x1 x2 x3 x4 x5 x6 x7 x8 x9 x10 x11).mpr h
end Go.Vc
namespace Go.Proofs.YtjlnnljohemifaaGreat
open Go Go.Vc
abbrev i64(n:Int):Value:=.int .i64 n
abbrev ptr(b:Nat):Value:=.pointer (some ⟨b,0,none⟩)
abbrev u64(n:Int):Value:=.int .u64 n
abbrev tK(k s:Int):Value:=.agg [i64 k,u64 s].toArray
structure rK(cD:List Int)(rt d:Nat→Nat):Prop where
 pos:0<cD.length
 low:∀i,i<cD.length→rt i<cD.length
 K7:∀i,i<cD.length→rt (rt i)=rt i
 step:∀i,i<cD.length→∃j:Nat,cD[i]? =some (j:Int)∧j<cD.length∧rt j=rt i∧(j=i↔rt i=i)∧(j≠i→d j<d i)
 zero:rt 0=0
 nz:∀i,i<cD.length→rt i=0→i=0
structure eO(H:Hp)(b s:Nat)(len:Nat)(rt:Nat→Nat)(fO:Int):Prop where
 TN:∃sv cD sC,H.own b=some [sv,i64 fO,i64 sC]∧Sl H 1 sv len (cD.map i64) (some s)∧(∃d,rK cD rt d)∧cD.length=len
 ne:b≠s
 le:(len:Int) - 1≤fO
 fO:0≤fO∧fO≤65536
theorem eO.ext{H H':Hp}{b s len:Nat}{rt:Nat→Nat}{fO:Int}{S:Nat→Prop}(h:eO H b s len rt fO)(e:ag S H H')(h1:¬S b)(h2:¬S s):eO H' b s len rt fO:=by
 obtain⟨⟨sv,cD,sC,a1,a2,a3,a4⟩,h3,h4,h5⟩:=h
 exact⟨⟨sv,cD,sC,e.own a1 h1,a2.ext e (fun x hx=>by injection hx with hx;exact hx▸h2),a3,a4⟩,h3,h4,h5⟩
theorem Fo(fO:Int)(H:Hp):af Tryz.prog KM [i64 fO] H fun v H'=>aw (
  ah H H'∧((¬ (0≤fO∧fO≤65536)∧v= .tuple [.pointer none,i64 31].toArray)∨
   (0≤fO∧fO≤65536)∧∃b s,v= .tuple [ptr b,i64 0].toArray∧eO H' b s 1 id fO∧H.size≤b∧H.size≤s∧b<H'.size∧s<H'.size)):=by
 refine bq KU ?_
 refine vs ?_
 refine am.dec (fun h=>?_) (fun h=>?_)<;>refine vs ?_
 ·exact⟨ag.refl _ _,.inl ⟨by omega,rfl⟩⟩
 ·refine am.dec (fun h2=>?_) (fun h2=>?_)<;>refine vs ?_
  ·exact⟨ag.refl _ _,.inl ⟨by omega,rfl⟩⟩
  ·refine⟨((ag.refl _ _).new _ _).new _ _,.inr ⟨by omega,_,_,rfl,⟨⟨_,[0],0,by rw[←ap H 3 [Value.int .i64 0]];exact az _ _ _,
    (Sl.lit H 3 1 1 [i64 0] rfl).ext ((ag.refl (fun _=>False) _).new _ _) (fun _ _ h=>h),?_,rfl⟩,?_,by omega,by omega⟩,?_,?_,?_,?_⟩⟩
   ·exact⟨fun _=>0,by simp,fun i hi=>hi,fun i hi=>rfl,fun i hi=>⟨0,by simp at hi;subst hi;rfl,by simp,by simp at hi;subst hi;rfl,by simp at hi;subst hi;simp,by simp at hi;subst hi;simp⟩,rfl,fun i hi h=>h⟩
   all_goals(try simp only[ap]);omega
theorem rL{cD:List Int}{rt d:Nat→Nat}(h:rK cD rt d){i:Nat}(hi:i<cD.length):∃j:Nat,cD[i]? =some (j:Int)∧j<cD.length∧rt j=rt i∧(j=i↔rt i=i):=by
 have hd:=h.step
 obtain⟨j,h1,h2,h3,h4,_⟩:=hd i hi
 exact⟨j,h1,h2,h3,h4⟩
theorem D6{H:Hp}{b s len:Nat}{rt:Nat→Nat}{fO:Int}(h:eO H b s len rt fO):af Tryz.prog yE [ptr b] H fun v H'=>aw (v=i64 ((len:Int) - 1)∧H=H'):=by
 obtain⟨⟨sv,cD,sC,a1,⟨a2,l,c,rfl,a3⟩,a4,a5⟩,h1,h2,h3⟩:=h
 refine bq yX ?_
 refine v1 (ae a1) ?_
 rw[wrap64 (by omega) (by omega)]
 exact⟨rfl,rfl⟩
theorem sN{H:Hp}{b s len:Nat}{rt:Nat→Nat}{fO:Int}(h:eO H b s len rt fO)(i:Int):af Tryz.prog yF [ptr b,i64 i] H fun v H'=>aw (v= .bool (decide (0<i∧i<len))∧H=H'):=by
 obtain⟨⟨sv,cD,sC,a1,⟨a2,l,c,rfl,a3⟩,a4,a5⟩,h1,h2,h3⟩:=h
 refine bq yY ?_
 refine vs ?_
 refine am.dec (fun h=>?_) (fun h=>?_)<;>refine v1 (ae a1) ?_
 ·refine⟨aoD Value.bool ?_,rfl⟩
  rw[decide_eq_decide];omega
 ·exact⟨aoD Value.bool (aoI (by omega)).symm,rfl⟩
theorem Fp{cD:List Int}{l:List Value}{n:Nat}(h:l.take (n*1)=cD.map i64){i j:Nat}(hj:cD[i]? =some (j:Int)):l[i]? =some (i64 j):=by
 have h1:(cD.map i64)[i]? =some (i64 j):=by simp[hj]
 rw[←h]at h1
 rw[aoU]at h1
 split at h1
 ·exact h1
 ·cases h1
theorem Fq{H:Hp}{b s len:Nat}{rt:Nat→Nat}{fO:Int}(h:eO H b s len rt fO)(i:Int):
  af Tryz.prog Ak [ptr b,i64 i] H fun v H'=>aw (v= .bool (decide (0<i∧i<len∧rt i.toNat=i.toNat))∧H=H'):=by
 have hm:=sN h i
 obtain⟨⟨sv,cD,sC,a1,⟨a2,l,c,rfl,a3,b1,b2,b3⟩,⟨d,a4⟩,a5⟩,h1,h2,h3⟩:=h
 refine bq AF ?_
 refine vs ?_
 refine hm.mono ?_
 rintro _ _ ⟨rfl,rfl⟩
 refine vs ?_
 refine am.dec (fun h=>?_) (fun h=>?_)<;>refine v1 (ae a1) ?_
 ·obtain⟨j,e1,e2,e3,e4⟩:=rL a4 (i:=i.toNat) (by omega)
  refine⟨by omega,?_⟩
  refine v3 (ae a3) aok (Fp b3 e1) ?_
  refine⟨aoD Value.bool ?_,rfl⟩
  rw[decide_eq_decide]
  constructor
  ·intro hh;exact⟨h.1,h.2,e4.1 (by omega)⟩
  ·rintro⟨_,_,hh⟩;have:=e4.2 hh;omega
 ·exact⟨aoD Value.bool (aoI (by omega)).symm,rfl⟩
theorem rK.make{cD:List Int}{rt d:Nat→Nat}(h:rK cD rt d):rK (cD++[(cD.length:Int)]) (fun i=>if i=cD.length then i else rt i) d:=by
 have hd:=h.step
 have hp:=h.pos
 refine⟨by simp,fun i hi=>?_,fun i hi=>?_,fun i hi=>?_,?_,fun i hi hz=>?_⟩
 ·simp only[aoq,aoC,apk]at hi ⊢
  split
  ·omega
  ·have:=h.low i (by omega);omega
 ·simp only[aoq,aoC,apk]at hi
  by_cases e:i=cD.length
  ·simp[e]
  ·have h1:=h.low i (by omega)
   simp only[if_neg e,if_neg (show rt i≠cD.length by omega)]
   exact h.K7 i (by omega)
 ·simp only[aoq,aoC,apk]at hi
  by_cases e:i=cD.length
  ·subst e
   exact⟨cD.length,by simp,by simp,by simp,by simp,by simp⟩
  ·obtain⟨j,h1,h2,h3,h4,h5⟩:=hd i (by omega)
   refine⟨j,by rw[aow (by omega)];exact h1,by simp;omega,?_,?_,h5⟩
   ·simp only[if_neg e,if_neg (show j≠cD.length by omega)];exact h3
   ·simp only[if_neg e];exact h4
 ·simp only[if_neg (show(0:Nat)≠cD.length by omega)];exact h.zero
 ·simp only[aoq,aoC,apk]at hi
  by_cases e:i=cD.length
  ·simp only[e,if_true]at hz;omega
  ·simp only[if_neg e]at hz;exact h.nz i (by omega) hz
theorem rK.skip{cD:List Int}{rt d:Nat→Nat}(h:rK cD rt d){i j k:Nat}(hi:cD[i]? =some (j:Int))(hj:cD[j]? =some (k:Int))(aP:j≠i):
  rK (cD.set i (k:Int)) rt d∧k<cD.length∧rt k=rt i∧d k<d i:=by
 have hd:=h.step
 have qh:i<cD.length:=(aoi.1 hi).1
 have Y1:j<cD.length:=(aoi.1 hj).1
 obtain⟨j',e1,e2,e3,e4,e5⟩:=hd i qh
 rw[hi]at e1
 have ej:j'=j:=by injection e1 with e1;omega
 subst ej
 obtain⟨k',f1,f2,f3,f4,f5⟩:=hd j' Y1
 rw[hj]at f1
 have ek:k'=k:=by injection f1 with f1;omega
 subst ek
 have hdk:d k'≤d j':=by
  by_cases e:k'=j'
  ·rw[e];omega
  ·exact Nat.le_of_lt (f5 e)
 have hdj:=e5 aP
 have HA:k'≠i:=fun e=>by rw[e]at hdk;omega
 refine⟨⟨by simpa using h.pos,fun x hx=>by simp only[aoj]at hx ⊢;exact h.low x hx,fun x hx=>h.K7 x (by simpa using hx),fun x hx=>?_,h.zero,fun x hx=>h.nz x (by simpa using hx)⟩,f2,f3.trans e3,by omega⟩
 simp only[aoj]at hx
 by_cases e:x=i
 ·subst e
  refine⟨k',by simp[hx],by simpa using f2,f3.trans e3,?_,fun _=>by omega⟩
  constructor
  ·intro hh;exact absurd hh HA
  ·intro hh;exact absurd (e4.2 hh) aP
 ·obtain⟨y,y1,y2,y3,y4,y5⟩:=hd x hx
  exact⟨y,by rw[aon (Ne.symm e)];exact y1,by simpa using y2,y3,y4,y5⟩
theorem uA(l:List Int):gJ (l.map i64):=by
 intro v hv
 obtain⟨x,_,rfl⟩:=aoB.1 hv
 rfl
theorem D7{H:Hp}{b s len:Nat}{rt:Nat→Nat}{fO:Int}(h:eO H b s len rt fO):
  af Tryz.prog yA [ptr b] H fun v H'=>aw (
   ((len:Int) - 1=fO∧v= .tuple [i64 0,.bool false].toArray∧H=H')∨
   ((len:Int) - 1≠fO∧v= .tuple [i64 len,.bool true].toArray∧∃s',eO H' b s' (len+1) (fun i=>if i=len then i else rt i) fO∧ag (fun x=>x=b∨x=s) H H'∧(s'=s∨(H.size≤s'∧s'<H'.size)))):=by
 have hl:=D6 h
 obtain⟨⟨sv,cD,sC,a1,a2,⟨d,a4⟩,a5⟩,h1,h2,h3⟩:=h
 have Wm:=a2
 obtain⟨_,l,c,rfl,a3,b1,b2,b3⟩:=Wm
 have hb:=aB a1
 refine bq yT ?_
 refine vs ?_
 refine⟨i64 ((len:Int) - 1),hl.mono fun _ _ h=>⟨h.out.1,h.out.2.symm⟩,?_⟩
 refine v1 (ae a1) ?_
 refine am.dec (fun h=>?_) (fun h=>?_)<;>refine v1 (ae a1) ?_
 ·exact .inl ⟨h,rfl,rfl⟩
 ·have hn:(H.new 3 [i64 len]).own b=some [.slice (some ⟨s,0,none⟩) len c,i64 fO,i64 sC]:=by rw[cu hb];exact a1
  refine Sl.append (a2.ext ((ag.refl (fun _=>False) H).new _ _) (fun _ _ h=>h)) (Sl.lit H 3 1 1 [i64 len] rfl).rd rfl (uA [(len:Int)]) (by omega) ?_
  intro v' H2 cP hs tL fZ
  have Dq:=tL.own hn (fun e=>h1 (by injection e with e;exact e.symm))
  have PA:=tL.size
  rw[ap]at PA
  obtain⟨s',rfl⟩:∃s',cP=some s':=by
   rcases fZ with h| ⟨x,h,_⟩
   ·exact⟨s,h⟩
   ·exact⟨x,h⟩
  have Kj:s'=s∨(H.size≤s'∧s'<H2.size):=by
   rcases fZ with h| ⟨x,h,h5,h6⟩
   ·injection h with h;exact .inl h
   ·injection h with h;subst h;rw[ap]at h5;exact .inr ⟨by omega,h6⟩
  have Wn:b≠s':=by
   rcases Kj with h|h
   ·rw[h];exact h1
   ·omega
  have D9:=hs
  obtain⟨_,l',c',rfl,_⟩:=D9
  simp(disch:=(first|omega| (simp only[Zs]<;>omega)|fail)) only[go_sem, ↓reduceIte,Zv,Dq,ai Dq,rM Dq]
  refine .inr ⟨h,rfl,s',⟨⟨_,cD++[(len:Int)],_,ai Dq,by rw[aoM];exact hs.ext ((ag.refl (fun x=>x=b) H2).wr (fun _=>rfl) _) (fun x e=>by injection e with e;omega),⟨d,?_⟩,by simp[a5]⟩,Wn,?_,h3⟩,?_,?_⟩
  ·have:=a4.make
   rw[a5]at this
   exact this
  ·have:(len:Int) - 1<fO:=by omega
   omega
  ·refine ag.wr (ag.nq ((ag.refl (fun x=>x=b∨x=s) H).new _ _) tL (fun x _ e=>.inr (by injection e with e;exact e.symm))) (fun _=>.inl rfl) _
  ·rcases Kj with h|h
   ·exact .inl h
   ·exact .inr ⟨h.1,by rw[eo];exact h.2⟩
theorem Ea{H:Hp}{b s len:Nat}{rt:Nat→Nat}{fO:Int}(h:eO H b s len rt fO)(i:Int):
  af Tryz.prog yB [ptr b,i64 i] H fun v H'=>aw (
   (¬ (0<i∧i<len)∧v= .tuple [i64 0,.bool false].toArray∧H=H')∨
   ((0<i∧i<len)∧v= .tuple [i64 (rt i.toNat),.bool true].toArray∧eO H' b s len rt fO∧ag (fun z=>z=b∨z=s) H H')):=by
 have hm:=sN h i
 refine bq yU ?_
 refine vs ?_
 refine hm.mono ?_
 rintro _ _ ⟨rfl,rfl⟩
 refine vs ?_
 refine am.dec (fun hi=>?_) (fun hi=>?_)<;>refine vs ?_
 ·obtain⟨⟨sv,cD,sC,a1,a2,⟨d,a4⟩,a5⟩,h1,h2,h3⟩:=h
  refine aW.intro (fun m env H1=>∃ (k:Nat) (cD:List Int) (sv:Value),env=[(0,ptr b),(1,i64 k)]∧k<len∧rt k=rt i.toNat∧d k=m∧
   H1.own b=some [sv,i64 fO,i64 sC]∧Sl H1 1 sv len (cD.map i64) (some s)∧rK cD rt d∧cD.length=len∧ag (fun z=>z=b∨z=s) H H1) (d i.toNat)
   ⟨i.toNat,cD,sv,by rw[show((i.toNat:Nat):Int)=i by omega],by omega,rfl,rfl,a1,a2,a4,a5,ag.refl _ _⟩ ?_
  rintro m env H1 ⟨k,cD,sv,rfl,k1,k2,rfl,c1,c2,c4,c5,cx⟩
  have c2':=c2
  obtain⟨e0,l,c,rfl,c3,e1,e2,e3⟩:=c2'
  obtain⟨j,j1,j2,j3,j4⟩:=rL c4 (i:=k) (by omega)
  refine v1 (ae c1) ?_
  refine⟨by omega,?_⟩
  have jl:=Fp e3 j1
  refine v4 (ae c3) aok Int.toNat_natCast jl ?_
  refine am.dec (fun hjk=>?_) (fun hjk=>?_)<;>refine v1 (ae c1) ?_
  ·refine .inr ⟨hi,?_,⟨⟨_,cD,sC,c1,c2,⟨d,c4⟩,c5⟩,h1,h2,h3⟩,cx⟩
   have:=j4.1 (by omega)
   rw[←k2,this]
   rfl
  ·obtain⟨k',g1,g2,g3,g4⟩:=rL c4 (i:=j) j2
   have gl:=Fp e3 g1
   have aP:j≠k:=by omega
   obtain⟨f1,f2,f3,f4⟩:=c4.skip j1 g1 aP
   refine⟨by omega,?_⟩
   refine v4 (ae c3) aok Int.toNat_natCast jl ?_
   refine⟨by omega,?_⟩
   refine v4 (ae c3) aok Int.toNat_natCast gl ?_
   refine⟨by omega,?_⟩
   have oP:k<l.length:=by omega
   refine v3 c3 aok Int.toNat_natCast ?_
   refine⟨by omega,?_⟩
   have c1':(H1.wr s (l.set k (i64 k'))).own b=some [.slice (some ⟨s,0,none⟩) len c,i64 fO,i64 sC]:=(jZ (Ne.symm h1)).trans c1
   have c3':(H1.wr s (l.set k (i64 k'))).own s=some (l.set k (i64 k')):=ai c3
   have kl:(l.set k (i64 k'))[k]? =some (i64 k'):=by rw[aoo oP]
   refine v1 (ae c1') ?_
   refine⟨by omega,?_⟩
   refine v4 (ae c3') aok Int.toNat_natCast kl ?_
   refine⟨d k',f4,k',cD.set k (k':Int),_,rfl,by omega,f3.trans k2,rfl,c1,?_,f1,by simpa using c5,cx.trans ((ag.refl _ _).wr (fun _=>.inr rfl) _)⟩
   rw[ao3]
   exact c2.uB c3 k (i64 k')
 ·exact .inl ⟨hi,rfl,rfl⟩
def cU(d:Int):Prop:=2≤d∧d≤16
instance(d:Int):Decidable (cU d):=inferInstanceAs (Decidable (_∧_))
theorem nu(d:Int)(H:Hp):af Tryz.prog KR [i64 d] H fun v H'=>aw (v= .bool (decide (cU d))∧H=H'):=by
 refine bq K4 ?_
 refine vs ?_
 refine am.dec (fun h=>?_) (fun h=>?_)<;>refine vs ?_
 ·exact⟨aoD Value.bool (by rw[decide_eq_decide];unfold cU;omega),rfl⟩
 ·exact⟨aoD Value.bool (aoI (by unfold cU;omega)).symm,rfl⟩
def ba(d i:Int):Option Int:=if cU d∧1≤i then some ((i - 1) / d)else none
def M5(o:Option Int):Value:=match o with|some n=>.tuple [i64 n,.bool true].toArray|none=>.tuple [i64 0,.bool false].toArray
theorem eQ{d i p:Int}(h:ba d i=some p):0≤p∧p<i:=by
 unfold ba at h
 split at h
 ·rename_i hc
  injection h with h
  have h0:=hc.1.1
  have:0≤(i - 1) / d:=Int.ediv_nonneg (by omega) (by omega)
  have h1:(i - 1) / d≤i - 1:=Int.ediv_le_self _ (by omega)
  omega
 ·cases h
theorem Rj{d i:Int}(hd:2≤d)(h1:1≤i)(hi:i≤9223372036854775807):IntKind.i64.wrap ((i - 1).tdiv d)=(i - 1) / d:=by
 rw[Int.tdiv_eq_ediv_of_nonneg (by omega)]
 have:0≤(i - 1) / d:=Int.ediv_nonneg (by omega) (by omega)
 have h1:(i - 1) / d≤i - 1:=Int.ediv_le_self _ (by omega)
 exact wrap64 (by omega) (by omega)
theorem CA(d i:Int)(hi:i≤9223372036854775807)(H:Hp):af Tryz.prog Hg [i64 d,i64 i] H fun v H'=>aw (v=M5 (ba d i)∧H=H'):=by
 refine bq Hy ?_
 refine vs ?_
 refine(nu d H).mono ?_
 rintro _ _ ⟨rfl,rfl⟩
 refine vs ?_
 refine am.dec (fun hf=>?_) (fun hf=>?_)<;>refine vs ?_
 ·refine am.dec (fun h1=>?_) (fun h1=>?_)<;>refine vs ?_
  ·exact⟨by rw[ba,if_neg (by omega)];rfl,rfl⟩
  ·have h0:=hf.1
   rw[if_neg (by omega),wrap64 (n:=i - 1) (by omega) (by omega),Rj hf.1 (by omega) hi]
   refine vs ?_
   exact⟨by rw[ba,if_pos ⟨hf,by omega⟩];rfl,rfl⟩
 ·exact⟨by rw[ba,if_neg (fun h=>hf h.1)];rfl,rfl⟩
def rN(d i k:Int):Option Int:=if cU d∧0≤i∧i≤1099511627776∧1≤k∧k≤d then some (d*i+k)else none
theorem rO{d i k:Int}(hf:cU d)(h0:0≤i)(h1:i≤1099511627776)(hk:1≤k)(hd:k≤d):0≤d*i∧d*i≤17592186044416:=by
 obtain⟨a,b⟩:=hf
 refine⟨apY (by omega) h0,?_⟩
 have:d*i≤16*i:=apR b h0
 omega
theorem sO(d i k:Int)(H:Hp):af Tryz.prog Jl [i64 d,i64 i,i64 k] H fun v H'=>aw (v=M5 (rN d i k)∧H=H'):=by
 refine bq Js ?_
 refine vs ?_
 refine(nu d H).mono ?_
 rintro _ _ ⟨rfl,rfl⟩
 refine vs ?_
 refine am.dec (fun hf=>?_) (fun hf=>?_)<;>refine vs ?_
 ·refine am.dec (fun h1=>?_) (fun h1=>?_)<;>refine vs ?_
  ·exact⟨by rw[rN,if_neg (by omega)];rfl,rfl⟩
  ·refine am.dec (fun h2=>?_) (fun h2=>?_)<;>refine vs ?_
   ·exact⟨by rw[rN,if_neg (by omega)];rfl,rfl⟩
   ·refine am.dec (fun h3=>?_) (fun h3=>?_)<;>refine vs ?_
    ·exact⟨by rw[rN,if_neg (by omega)];rfl,rfl⟩
    ·refine am.dec (fun h4=>?_) (fun h4=>?_)<;>refine vs ?_
     ·exact⟨by rw[rN,if_neg (by omega)];rfl,rfl⟩
     ·have hb:=rO (i:=i) hf (by omega) (by omega) (by omega:1≤k) (by omega:k≤d)
      have hd:=hf.2
      rw[wrap64 (n:=d*i) (by omega) (by omega),wrap64 (by omega) (by omega)]
      exact⟨by rw[rN,if_pos ⟨hf,by omega,by omega,by omega,by omega⟩];rfl,rfl⟩
 ·exact⟨by rw[rN,if_neg (fun h=>hf h.1)];rfl,rfl⟩
def MC(d:Int):Nat→Int→Nat
 |0,_=>0
 |m+1,i=>match ba d i with|some p=>MC d m p+1|none=>0
theorem Rk(d:Int):∀ (m m':Nat) (i:Int),i.toNat≤m→i.toNat≤m'→MC d m i=MC d m' i:=by
 intro m
 induction m with
 |zero=>
  intro m' i h _
  have hn:ba d i=none:=by unfold ba;rw[if_neg (by omega)]
  cases m'<;>simp[MC,hn]
 |succ m ih=>
  intro m' i h h'
  cases hp:ba d i with
  |none=>cases m'<;>simp[MC,hp]
  |some p=>
   have hb:=eQ hp
   cases m' with
   |zero=>omega
   |succ m'=>simp only[MC,hp];rw[ih m' p (by omega) (by omega)]
theorem Rm{d i p:Int}(h:ba d i=some p)(m:Nat)(hm:i.toNat≤m):MC d m i=MC d p.toNat p+1:=by
 have hb:=eQ h
 obtain⟨q,hq⟩:∃q,m=q+1:=⟨m - 1,by omega⟩
 subst hq
 simp only[MC,h]
 rw[Rk d q p.toNat p (by omega) (by omega)]
theorem sP{d i j:Int}(hd:2≤d)(hi:0≤i)(h1:1≤j)(h2:j≤d):(d*i+j - 1) / d=i:=by
 rw[show d*i+j - 1=(j - 1)+d*i by omega,Int.add_mul_ediv_left _ _ (by omega),Int.ediv_eq_zero_of_lt (by omega) (by omega)]
 omega
theorem TO(o:Option Int):M5 o= .tuple [i64 (o.getD 0),.bool o.isSome].toArray:=by cases o<;>rfl
end Go.Proofs.YtjlnnljohemifaaGreat

namespace Go.Vc
open Go
theorem vA{P:Program}(hm:P.follows .mixedOrders=true){f:FuncId}{an:List E8}{F:Fn}(hd:ed P f an=some F){args:List Value}{H:Hp}{K:Value→Hp→Prop}{nt:Nat}(ht:(P.funcs[f]?).map (·.ntmps)=some nt)(aZ:args.length≤nt)
  (h:Go.Vc.vc P F.body (iV 0 args) H (fun env H=>qP env H F.Y0 fun vs=>K (KI vs) H) (fun _ _ _=>False) (fun env H=>qP env H F.Y0 fun vs=>K (KI vs) H)):af P f args H K:=by
 unfold ed at hd
 split at hd
 ·cases hd
 ·rename_i fn hf
  split at hd
  ·cases hd
  ·rename_i c hb
   split at hd
   ·rename_i s hs
    split at hd
    ·rename_i nS
     cases hr:nw P fn.results.toList with
     |none=>rw[hr]at hd;cases hd
     |some rs=>
      rw[hr]at hd
      simp only[Option.map_some,aor]at hd
      subst hd
      simp only at h
      rw[hf]at ht
      simp only[Option.map_some,aor]at ht
      intro w hw
      subst hw
      refine calls_of_wp hf hb ?_
      have hh:Holds (iV 0 args) {tmps:=args.toArray++Array.replicate (fn.ntmps - args.toArray.size) undef,defers:=[]} fn.ntmps:=by
       refine⟨by simp;omega,rfl,fun k v hk=>?_⟩
       obtain⟨_,h2⟩:=IA args 0 k v hk
       have aO:k<args.length:=by
        rcases apz k args.length with h'|h'
        ·exact h'
        ·simp[aoy h']at h2
       rw[apM (by simpa using aO)]
       simpa using h2
      have E7:∀aU a' w',cf w w'→Holds aU a' fn.ntmps→qP aU w'.heap rs (fun vs=>K (KI vs) w'.heap)→
        a'.defers=[]∧∃v,(results fn a'.tmps).run P w'= .ok v w'∧(∃v_1,Ending.returned v=Ending.returned v_1∧cf w w'∧K v_1 w'.heap):=by
       intro aU a' w' M6 ot hk
       obtain⟨vs,hF,DM⟩:=AV (P:=P) ot fn.results.toList rs _ hr hk
       refine⟨ot.defers,KI vs,?_,_,rfl,M6,hF⟩
       change (do let vs ←fn.results.mapM (CB a'.tmps);pure (if h:vs.size=1 then vs[0]else .tuple vs):Sem Value).run P w'=_
       rw[Array.mapM_eq_mapM_toList]
       simp only[Sem.run_bind,Sem.run_map,DM,Result.andThen_ok,Sem.run_pure]
       congr 1
       cases vs with
       |nil=>rfl
       |cons x r=>cases r with
        |nil=>rfl
        |cons y r=>simp[KI]
      refine K8 hm c an s [] hs _ _ w _ _ _ _ hh h ?_ ?_ ?_
      ·exact fun aU a' w' M6 ot hk=>E7 aU a' w' M6 ot hk
      ·exact fun _ _ _ _ _ _ hk=>hk.elim
      ·exact fun aU a' w' M6 ot hk=>E7 aU a' w' M6 ot hk
    ·cases hd
   ·cases hd
end Go.Vc
