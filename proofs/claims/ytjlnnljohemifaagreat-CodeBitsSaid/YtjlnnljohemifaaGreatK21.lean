/- Texts put behind each other. -/
import Derived.Test.YtjlnnljohemifaaGreatK98
import Derived.Test.YtjlnnljohemifaaGreatK13
import Derived.Test.YtjlnnljohemifaaGreatK16
import Derived.Test.YtjlnnljohemifaaGreatK17
import Derived.Test.YtjlnnljohemifaaGreatK18
import Derived.Test.YtjlnnljohemifaaGreatK19
import Derived.Test.YtjlnnljohemifaaGreatK20
set_option maxRecDepth 100000
set_option maxHeartbeats 8000000
set_option linter.unusedVariables false
set_option linter.unusedSimpArgs false
namespace Go.Vc
open Go
theorem Zs:(∀ (H:Hp) (b:Nat) (l:List Value),(H.wr b l).size=H.size)∧(∀ (H:Hp) (b:Nat) (es:List MapEntry) (k:Nat),(H.C9 b es k).size=H.size)∧(∀ (H:Hp) (T:TypeId) (l:List Value),(H.new T l).size=H.size+1)∧∀H:Hp,H.iI.size=H.size+1:=⟨ec,K4,aq,iA⟩
theorem Zv:(∀ {H:Hp} {b c:Nat} {l:List Value},b≠c→(H.wr b l).rd c=H.rd c∧(H.wr b l).own c=H.own c∧(H.wr b l).mp c=H.mp c)∧(∀ {H:Hp} {b c:Nat} {es:List MapEntry} {k:Nat},b≠c→(H.C9 b es k).rd c=H.rd c∧(H.C9 b es k).own c=H.own c∧(H.C9 b es k).mp c=H.mp c)∧
 (∀ {H:Hp} {c:Nat} {T:TypeId} {l:List Value},c<H.size→(H.new T l).rd c=H.rd c∧(H.new T l).own c=H.own c∧(H.new T l).mp c=H.mp c)∧(∀ {H:Hp} {c:Nat},c<H.size→H.iI.rd c=H.rd c∧H.iI.own c=H.own c∧H.iI.mp c=H.mp c)∧
 (∀ {H:Hp} {c:Nat} {T:TypeId} {l:List Value},c=H.size→(H.new T l).rd c=some l∧(H.new T l).own c=some l)∧∀ {H:Hp} {c:Nat},c=H.size→H.iI.mp c=some ([],0):=
 ⟨fun h=>⟨Rb h,pY h,Rc h⟩,fun h=>⟨Pj h,MW h,Pk h⟩,fun h=>⟨Pm h,ci h,Pn h⟩,fun h=>⟨MX h,K5 h,MY h⟩,fun h=>⟨Po h,aV h⟩,fun h=>MZ h⟩
attribute [go_sem_proc] Nat.reduceBEq Nat.reduceAdd Nat.reduceMul Nat.reduceLeDiff
theorem vs{p q:Prop}(h:q)(e:p=q:=by conv=>lhs;simp(disch:=(first|omega| (simp only[Zs]<;>omega)|fail)) only[go_sem, ↓reduceIte,Zv]):p:=e.mpr h
theorem v1{p q a0:Prop}(x0:a0)(h:q)(e:a0→p=q:=by intro y0;conv=>lhs;simp(disch:=(first|omega| (simp only[Zs]<;>omega)|fail)) only[go_sem, ↓reduceIte,Zv,y0]):p:=(e x0).mpr h
theorem v2{p q a0 a1:Prop}(x0:a0)(x1:a1)(h:q)(e:a0→a1→p=q:=by intro y0 y1;conv=>lhs;simp(disch:=(first|omega| (simp only[Zs]<;>omega)|fail)) only[go_sem, ↓reduceIte,Zv,y0,y1]):p:=(e x0 x1).mpr h
theorem v3{p q a0 a1 a2:Prop}(x0:a0)(x1:a1)(x2:a2)(h:q)(e:a0→a1→a2→p=q:=by intro y0 y1 y2;conv=>lhs;simp(disch:=(first|omega| (simp only[Zs]<;>omega)|fail)) only[go_sem, ↓reduceIte,Zv,y0,y1,y2]):p:=(e x0 x1 x2).mpr h
theorem v4{p q a0 a1 a2 a3:Prop}(x0:a0)(x1:a1)(x2:a2)(x3:a3)(h:q)(e:a0→a1→a2→a3→p=q:=by intro y0 y1 y2 y3;conv=>lhs;simp(disch:=(first|omega| (simp only[Zs]<;>omega)|fail)) only[go_sem, ↓reduceIte,Zv,y0,y1,y2,y3]):p:=(e x0 x1 x2 x3).mpr h
theorem v5{p q a0 a1 a2 a3 a4:Prop}(x0:a0)(x1:a1)(x2:a2)(x3:a3)(x4:a4)(h:q)(e:a0→a1→a2→a3→a4→p=q:=by intro y0 y1 y2 y3 y4;conv=>lhs;simp(disch:=(first|omega| (simp only[Zs]<;>omega)|fail)) only[go_sem, ↓reduceIte,Zv,y0,y1,y2,y3,y4]):p:=(e x0 x1 x2 x3 x4).mpr h
theorem v6{p q a0 a1 a2 a3 a4 a5:Prop}(x0:a0)(x1:a1)(x2:a2)(x3:a3)(x4:a4)(x5:a5)(h:q)(e:a0→a1→a2→a3→a4→a5→p=q:=by intro y0 y1 y2 y3 y4 y5;conv=>lhs;simp(disch:=(first|omega| (simp only[Zs]<;>omega)|fail)) only[go_sem, ↓reduceIte,Zv,y0,y1,y2,y3,y4,y5]):p:=(e x0 x1 x2 x3 x4 x5).mpr h
theorem v7{p q a0 a1 a2 a3 a4 a5 a6:Prop}(x0:a0)(x1:a1)(x2:a2)(x3:a3)(x4:a4)(x5:a5)(x6:a6)(h:q)(e:a0→a1→a2→a3→a4→a5→a6→p=q:=by intro y0 y1 y2 y3 y4 y5 y6;conv=>lhs;simp(disch:=(first|omega| (simp only[Zs]<;>omega)|fail)) only[go_sem, ↓reduceIte,Zv,y0,y1,y2,y3,y4,y5,y6]):p:=(e x0 x1 x2 x3 x4 x5 x6).mpr h
theorem v8{p q a0 a1 a2 a3 a4 a5 a6 a7:Prop}(x0:a0)(x1:a1)(x2:a2)(x3:a3)(x4:a4)(x5:a5)(x6:a6)(x7:a7)(h:q)(e:a0→a1→a2→a3→a4→a5→a6→a7→p=q:=by intro y0 y1 y2 y3 y4 y5 y6 y7;conv=>lhs;simp(disch:=(first|omega| (simp only[Zs]<;>omega)|fail)) only[go_sem, ↓reduceIte,Zv,y0,y1,y2,y3,y4,y5,y6,y7]):p:=(e x0 x1 x2 x3 x4 x5 x6 x7).mpr h
theorem v9{p q a0 a1 a2 a3 a4 a5 a6 a7 a8:Prop}(x0:a0)(x1:a1)(x2:a2)(x3:a3)(x4:a4)(x5:a5)(x6:a6)(x7:a7)(x8:a8)(h:q)(e:a0→a1→a2→a3→a4→a5→a6→a7→a8→p=q:=by intro y0 y1 y2 y3 y4 y5 y6 y7 y8;conv=>lhs;simp(disch:=(first|omega| (simp only[Zs]<;>omega)|fail)) only[go_sem, ↓reduceIte,Zv,y0,y1,y2,y3,y4,y5,y6,y7,y8]):p:=(e x0 x1 x2 x3 x4 x5 x6 x7 x8).mpr h
theorem v11{p q a0 a1 a2 a3 a4 a5 a6 a7 a8 a9 a10:Prop}(x0:a0)(x1:a1)(x2:a2)(x3:a3)(x4:a4)(x5:a5)(x6:a6)(x7:a7)(x8:a8)(x9:a9)(x10:a10)(h:q)(e:a0→a1→a2→a3→a4→a5→a6→a7→a8→a9→a10→p=q:=by intro y0 y1 y2 y3 y4 y5 y6 y7 y8 y9 y10;conv=>lhs;simp(disch:=(first|omega| (simp only[Zs]<;>omega)|fail)) only[go_sem, ↓reduceIte,Zv,y0,y1,y2,y3,y4,y5,y6,y7,y8,y9,y10]):p:=(e x0 x1 x2 x3 x4 x5 x6 x7 x8 x9 x10).mpr h
theorem v12{p q a0 a1 a2 a3 a4 a5 a6 a7 a8 a9 a10 a11:Prop}(x0:a0)(x1:a1)(x2:a2)(x3:a3)(x4:a4)(x5:a5)(x6:a6)(x7:a7)(x8:a8)(x9:a9)(x10:a10)(x11:a11)(h:q)(e:a0→a1→a2→a3→a4→a5→a6→a7→a8→a9→a10→a11→p=q:=by intro y0 y1 y2 y3 y4 y5 y6 y7 y8 y9 y10 y11;conv=>lhs;simp(disch:=(first|omega| (simp only[Zs]<;>omega)|fail)) only[go_sem, ↓reduceIte,Zv,y0,y1,y2,y3,y4,y5,y6,y7,y8,y9,y10,y11]):p:=(e x0 x1 x2 x3 x4 x5 x6 x7 x8 x9 x10 x11).mpr h
end Go.Vc
namespace Go.Proofs.YtjlnnljohemifaaGreat
open Go Go.Vc
abbrev i64(n:Int):Value:=.int .i64 n
abbrev ptr(b:Nat):Value:=.pointer (some ⟨b,0,none⟩)
abbrev u64(n:Int):Value:=.int .u64 n
abbrev tz(k s:Int):Value:=.agg [i64 k,u64 s].toArray
structure rK(cB:List Int)(rt d:Nat→Nat):Prop where
 pos:0<cB.length
 low:∀i,i<cB.length→rt i<cB.length
 K6:∀i,i<cB.length→rt (rt i)=rt i
 step:∀i,i<cB.length→∃j:Nat,cB[i]? =some (j:Int)∧j<cB.length∧rt j=rt i∧(j=i↔rt i=i)∧(j≠i→d j<d i)
 zero:rt 0=0
 nz:∀i,i<cB.length→rt i=0→i=0
structure eJ(H:Hp)(b s:Nat)(len:Nat)(rt:Nat→Nat)(fJ:Int):Prop where
 TE:∃sv cB sj,H.own b=some [sv,i64 fJ,i64 sj]∧Sl H 1 sv len (cB.map i64) (some s)∧(∃d,rK cB rt d)∧cB.length=len
 ne:b≠s
 le:(len:Int) - 1≤fJ
 fJ:0≤fJ∧fJ≤65536
theorem eJ.ext{H H':Hp}{b s len:Nat}{rt:Nat→Nat}{fJ:Int}{S:Nat→Prop}(h:eJ H b s len rt fJ)(e:ag S H H')(h1:¬S b)(h2:¬S s):eJ H' b s len rt fJ:=by
 obtain⟨⟨sv,cB,sj,a1,a2,a3,a4⟩,h3,h4,h5⟩:=h
 exact⟨⟨sv,cB,sj,e.own a1 h1,a2.ext e (fun x hx=>by injection hx with hx;exact hx▸h2),a3,a4⟩,h3,h4,h5⟩
theorem Ft(fJ:Int)(H:Hp):af Tryz.prog KN [i64 fJ] H fun v H'=>aw (
  ai H H'∧((¬ (0≤fJ∧fJ≤65536)∧v= .tuple [.pointer none,i64 31].toArray)∨
   (0≤fJ∧fJ≤65536)∧∃b s,v= .tuple [ptr b,i64 0].toArray∧eJ H' b s 1 id fJ∧H.size≤b∧H.size≤s∧b<H'.size∧s<H'.size)):=by
 refine bm KU ?_
 refine vs ?_
 refine am.dec (fun h=>?_) (fun h=>?_)<;>refine vs ?_
 ·exact⟨ag.refl _ _,.inl ⟨by omega,rfl⟩⟩
 ·refine am.dec (fun h2=>?_) (fun h2=>?_)<;>refine vs ?_
  ·exact⟨ag.refl _ _,.inl ⟨by omega,rfl⟩⟩
  ·refine⟨((ag.refl _ _).new _ _).new _ _,.inr ⟨by omega,_,_,rfl,⟨⟨_,[0],0,by rw[←aq H 3 [Value.int .i64 0]];exact aB _ _ _,
    (Sl.lit H 3 1 1 [i64 0] rfl).ext ((ag.refl (fun _=>False) _).new _ _) (fun _ _ h=>h),?_,rfl⟩,?_,by omega,by omega⟩,?_,?_,?_,?_⟩⟩
   ·exact⟨fun _=>0,by simp,fun i hi=>hi,fun i hi=>rfl,fun i hi=>⟨0,by simp at hi;subst hi;rfl,by simp,by simp at hi;subst hi;rfl,by simp at hi;subst hi;simp,by simp at hi;subst hi;simp⟩,rfl,fun i hi h=>h⟩
   all_goals(try simp only[aq]);omega
theorem rL{cB:List Int}{rt d:Nat→Nat}(h:rK cB rt d){i:Nat}(hi:i<cB.length):∃j:Nat,cB[i]? =some (j:Int)∧j<cB.length∧rt j=rt i∧(j=i↔rt i=i):=by
 have hd:=h.step
 obtain⟨j,h1,h2,h3,h4,_⟩:=hd i hi
 exact⟨j,h1,h2,h3,h4⟩
theorem DT{H:Hp}{b s len:Nat}{rt:Nat→Nat}{fJ:Int}(h:eJ H b s len rt fJ):af Tryz.prog yk [ptr b] H fun v H'=>aw (v=i64 ((len:Int) - 1)∧H=H'):=by
 obtain⟨⟨sv,cB,sj,a1,⟨a2,l,c,rfl,a3⟩,a4,a5⟩,h1,h2,h3⟩:=h
 refine bm yI ?_
 refine v1 (ae a1) ?_
 rw[wrap64 (by omega) (by omega)]
 exact⟨rfl,rfl⟩
theorem sB{H:Hp}{b s len:Nat}{rt:Nat→Nat}{fJ:Int}(h:eJ H b s len rt fJ)(i:Int):af Tryz.prog yn [ptr b,i64 i] H fun v H'=>aw (v= .bool (decide (0<i∧i<len))∧H=H'):=by
 obtain⟨⟨sv,cB,sj,a1,⟨a2,l,c,rfl,a3⟩,a4,a5⟩,h1,h2,h3⟩:=h
 refine bm yJ ?_
 refine vs ?_
 refine am.dec (fun h=>?_) (fun h=>?_)<;>refine v1 (ae a1) ?_
 ·refine⟨anP Value.bool ?_,rfl⟩
  rw[decide_eq_decide];omega
 ·exact⟨anP Value.bool (anV (by omega)).symm,rfl⟩
theorem Fu{cB:List Int}{l:List Value}{n:Nat}(h:l.take (n*1)=cB.map i64){i j:Nat}(hj:cB[i]? =some (j:Int)):l[i]? =some (i64 j):=by
 have h1:(cB.map i64)[i]? =some (i64 j):=by simp[hj]
 rw[←h]at h1
 rw[an9]at h1
 split at h1
 ·exact h1
 ·cases h1
theorem Fv{H:Hp}{b s len:Nat}{rt:Nat→Nat}{fJ:Int}(h:eJ H b s len rt fJ)(i:Int):
  af Tryz.prog Ab [ptr b,i64 i] H fun v H'=>aw (v= .bool (decide (0<i∧i<len∧rt i.toNat=i.toNat))∧H=H'):=by
 have hm:=sB h i
 obtain⟨⟨sv,cB,sj,a1,⟨a2,l,c,rfl,a3,b1,b2,b3⟩,⟨d,a4⟩,a5⟩,h1,h2,h3⟩:=h
 refine bm Av ?_
 refine vs ?_
 refine hm.mono ?_
 rintro _ _ ⟨rfl,rfl⟩
 refine vs ?_
 refine am.dec (fun h=>?_) (fun h=>?_)<;>refine v1 (ae a1) ?_
 ·obtain⟨j,e1,e2,e3,e4⟩:=rL a4 (i:=i.toNat) (by omega)
  refine⟨by omega,?_⟩
  refine v3 (ae a3) anw (Fu b3 e1) ?_
  refine⟨anP Value.bool ?_,rfl⟩
  rw[decide_eq_decide]
  constructor
  ·intro hh;exact⟨h.1,h.2,e4.1 (by omega)⟩
  ·rintro⟨_,_,hh⟩;have:=e4.2 hh;omega
 ·exact⟨anP Value.bool (anV (by omega)).symm,rfl⟩
theorem rK.make{cB:List Int}{rt d:Nat→Nat}(h:rK cB rt d):rK (cB++[(cB.length:Int)]) (fun i=>if i=cB.length then i else rt i) d:=by
 have hd:=h.step
 have hp:=h.pos
 refine⟨by simp,fun i hi=>?_,fun i hi=>?_,fun i hi=>?_,?_,fun i hi hz=>?_⟩
 ·simp only[anD,anO,aoH]at hi ⊢
  split
  ·omega
  ·have:=h.low i (by omega);omega
 ·simp only[anD,anO,aoH]at hi
  by_cases e:i=cB.length
  ·simp[e]
  ·have h1:=h.low i (by omega)
   simp only[if_neg e,if_neg (show rt i≠cB.length by omega)]
   exact h.K6 i (by omega)
 ·simp only[anD,anO,aoH]at hi
  by_cases e:i=cB.length
  ·subst e
   exact⟨cB.length,by simp,by simp,by simp,by simp,by simp⟩
  ·obtain⟨j,h1,h2,h3,h4,h5⟩:=hd i (by omega)
   refine⟨j,by rw[anJ (by omega)];exact h1,by simp;omega,?_,?_,h5⟩
   ·simp only[if_neg e,if_neg (show j≠cB.length by omega)];exact h3
   ·simp only[if_neg e];exact h4
 ·simp only[if_neg (show(0:Nat)≠cB.length by omega)];exact h.zero
 ·simp only[anD,anO,aoH]at hi
  by_cases e:i=cB.length
  ·simp only[e,if_true]at hz;omega
  ·simp only[if_neg e]at hz;exact h.nz i (by omega) hz
theorem rK.skip{cB:List Int}{rt d:Nat→Nat}(h:rK cB rt d){i j k:Nat}(hi:cB[i]? =some (j:Int))(hj:cB[j]? =some (k:Int))(aP:j≠i):
  rK (cB.set i (k:Int)) rt d∧k<cB.length∧rt k=rt i∧d k<d i:=by
 have hd:=h.step
 have oZ:i<cB.length:=(anu.1 hi).1
 have YC:j<cB.length:=(anu.1 hj).1
 obtain⟨j',e1,e2,e3,e4,e5⟩:=hd i oZ
 rw[hi]at e1
 have ej:j'=j:=by injection e1 with e1;omega
 subst ej
 obtain⟨k',f1,f2,f3,f4,f5⟩:=hd j' YC
 rw[hj]at f1
 have ek:k'=k:=by injection f1 with f1;omega
 subst ek
 have hdk:d k'≤d j':=by
  by_cases e:k'=j'
  ·rw[e];omega
  ·exact Nat.le_of_lt (f5 e)
 have hdj:=e5 aP
 have Hj:k'≠i:=fun e=>by rw[e]at hdk;omega
 refine⟨⟨by simpa using h.pos,fun x hx=>by simp only[anv]at hx ⊢;exact h.low x hx,fun x hx=>h.K6 x (by simpa using hx),fun x hx=>?_,h.zero,fun x hx=>h.nz x (by simpa using hx)⟩,f2,f3.trans e3,by omega⟩
 simp only[anv]at hx
 by_cases e:x=i
 ·subst e
  refine⟨k',by simp[hx],by simpa using f2,f3.trans e3,?_,fun _=>by omega⟩
  constructor
  ·intro hh;exact absurd hh Hj
  ·intro hh;exact absurd (e4.2 hh) aP
 ·obtain⟨y,y1,y2,y3,y4,y5⟩:=hd x hx
  exact⟨y,by rw[anA (Ne.symm e)];exact y1,by simpa using y2,y3,y4,y5⟩
theorem Df(l:List Int):gz (l.map i64):=by
 intro v hv
 obtain⟨x,_,rfl⟩:=anS.1 hv
 rfl
theorem DU{H:Hp}{b s len:Nat}{rt:Nat→Nat}{fJ:Int}(h:eJ H b s len rt fJ):
  af Tryz.prog yf [ptr b] H fun v H'=>aw (
   ((len:Int) - 1=fJ∧v= .tuple [i64 0,.bool false].toArray∧H=H')∨
   ((len:Int) - 1≠fJ∧v= .tuple [i64 len,.bool true].toArray∧∃s',eJ H' b s' (len+1) (fun i=>if i=len then i else rt i) fJ∧ag (fun x=>x=b∨x=s) H H'∧(s'=s∨(H.size≤s'∧s'<H'.size)))):=by
 have hl:=DT h
 obtain⟨⟨sv,cB,sj,a1,a2,⟨d,a4⟩,a5⟩,h1,h2,h3⟩:=h
 have Wd:=a2
 obtain⟨_,l,c,rfl,a3,b1,b2,b3⟩:=Wd
 have hb:=aA a1
 refine bm yE ?_
 refine vs ?_
 refine⟨i64 ((len:Int) - 1),hl.mono fun _ _ h=>⟨h.out.1,h.out.2.symm⟩,?_⟩
 refine v1 (ae a1) ?_
 refine am.dec (fun h=>?_) (fun h=>?_)<;>refine v1 (ae a1) ?_
 ·exact .inl ⟨h,rfl,rfl⟩
 ·have hn:(H.new 3 [i64 len]).own b=some [.slice (some ⟨s,0,none⟩) len c,i64 fJ,i64 sj]:=by rw[ci hb];exact a1
  refine Sl.append (a2.ext ((ag.refl (fun _=>False) H).new _ _) (fun _ _ h=>h)) (Sl.lit H 3 1 1 [i64 len] rfl).rd rfl (Df [(len:Int)]) (by omega) ?_
  intro v' H2 cO hs sM gu
  have Dg:=sM.own hn (fun e=>h1 (by injection e with e;exact e.symm))
  have Pp:=sM.size
  rw[aq]at Pp
  obtain⟨s',rfl⟩:∃s',cO=some s':=by
   rcases gu with h| ⟨x,h,_⟩
   ·exact⟨s,h⟩
   ·exact⟨x,h⟩
  have K7:s'=s∨(H.size≤s'∧s'<H2.size):=by
   rcases gu with h| ⟨x,h,h5,h6⟩
   ·injection h with h;exact .inl h
   ·injection h with h;subst h;rw[aq]at h5;exact .inr ⟨by omega,h6⟩
  have We:b≠s':=by
   rcases K7 with h|h
   ·rw[h];exact h1
   ·omega
  have Dz:=hs
  obtain⟨_,l',c',rfl,_⟩:=Dz
  simp(disch:=(first|omega| (simp only[Zs]<;>omega)|fail)) only[go_sem, ↓reduceIte,Zv,Dg,ah Dg,rM Dg]
  refine .inr ⟨h,rfl,s',⟨⟨_,cB++[(len:Int)],_,ah Dg,by rw[an8];exact hs.ext ((ag.refl (fun x=>x=b) H2).wr (fun _=>rfl) _) (fun x e=>by injection e with e;omega),⟨d,?_⟩,by simp[a5]⟩,We,?_,h3⟩,?_,?_⟩
  ·have:=a4.make
   rw[a5]at this
   exact this
  ·have:(len:Int) - 1<fJ:=by omega
   omega
  ·refine ag.wr (ag.oJ ((ag.refl (fun x=>x=b∨x=s) H).new _ _) sM (fun x _ e=>.inr (by injection e with e;exact e.symm))) (fun _=>.inl rfl) _
  ·rcases K7 with h|h
   ·exact .inl h
   ·exact .inr ⟨h.1,by rw[ec];exact h.2⟩
theorem DV{H:Hp}{b s len:Nat}{rt:Nat→Nat}{fJ:Int}(h:eJ H b s len rt fJ)(i:Int):
  af Tryz.prog yg [ptr b,i64 i] H fun v H'=>aw (
   (¬ (0<i∧i<len)∧v= .tuple [i64 0,.bool false].toArray∧H=H')∨
   ((0<i∧i<len)∧v= .tuple [i64 (rt i.toNat),.bool true].toArray∧eJ H' b s len rt fJ∧ag (fun z=>z=b∨z=s) H H')):=by
 have hm:=sB h i
 refine bm yF ?_
 refine vs ?_
 refine hm.mono ?_
 rintro _ _ ⟨rfl,rfl⟩
 refine vs ?_
 refine am.dec (fun hi=>?_) (fun hi=>?_)<;>refine vs ?_
 ·obtain⟨⟨sv,cB,sj,a1,a2,⟨d,a4⟩,a5⟩,h1,h2,h3⟩:=h
  refine bk.intro (fun m env H1=>∃ (k:Nat) (cB:List Int) (sv:Value),env=[(0,ptr b),(1,i64 k)]∧k<len∧rt k=rt i.toNat∧d k=m∧
   H1.own b=some [sv,i64 fJ,i64 sj]∧Sl H1 1 sv len (cB.map i64) (some s)∧rK cB rt d∧cB.length=len∧ag (fun z=>z=b∨z=s) H H1) (d i.toNat)
   ⟨i.toNat,cB,sv,by rw[show((i.toNat:Nat):Int)=i by omega],by omega,rfl,rfl,a1,a2,a4,a5,ag.refl _ _⟩ ?_
  rintro m env H1 ⟨k,cB,sv,rfl,k1,k2,rfl,c1,c2,c4,c5,cx⟩
  have c2':=c2
  obtain⟨e0,l,c,rfl,c3,e1,e2,e3⟩:=c2'
  obtain⟨j,j1,j2,j3,j4⟩:=rL c4 (i:=k) (by omega)
  refine v1 (ae c1) ?_
  refine⟨by omega,?_⟩
  have jl:=Fu e3 j1
  refine v4 (ae c3) anw Int.toNat_natCast jl ?_
  refine am.dec (fun hjk=>?_) (fun hjk=>?_)<;>refine v1 (ae c1) ?_
  ·refine .inr ⟨hi,?_,⟨⟨_,cB,sj,c1,c2,⟨d,c4⟩,c5⟩,h1,h2,h3⟩,cx⟩
   have:=j4.1 (by omega)
   rw[←k2,this]
   rfl
  ·obtain⟨k',g1,g2,g3,g4⟩:=rL c4 (i:=j) j2
   have gl:=Fu e3 g1
   have aP:j≠k:=by omega
   obtain⟨f1,f2,f3,f4⟩:=c4.skip j1 g1 aP
   refine⟨by omega,?_⟩
   refine v4 (ae c3) anw Int.toNat_natCast jl ?_
   refine⟨by omega,?_⟩
   refine v4 (ae c3) anw Int.toNat_natCast gl ?_
   refine⟨by omega,?_⟩
   have oK:k<l.length:=by omega
   refine v3 c3 anw Int.toNat_natCast ?_
   refine⟨by omega,?_⟩
   have c1':(H1.wr s (l.set k (i64 k'))).own b=some [.slice (some ⟨s,0,none⟩) len c,i64 fJ,i64 sj]:=(pY (Ne.symm h1)).trans c1
   have c3':(H1.wr s (l.set k (i64 k'))).own s=some (l.set k (i64 k')):=ah c3
   have kl:(l.set k (i64 k'))[k]? =some (i64 k'):=by rw[anB oK]
   refine v1 (ae c1') ?_
   refine⟨by omega,?_⟩
   refine v4 (ae c3') anw Int.toNat_natCast kl ?_
   refine⟨d k',f4,k',cB.set k (k':Int),_,rfl,by omega,f3.trans k2,rfl,c1,?_,f1,by simpa using c5,cx.trans ((ag.refl _ _).wr (fun _=>.inr rfl) _)⟩
   rw[aoh]
   exact c2.tQ c3 k (i64 k')
 ·exact .inl ⟨hi,rfl,rfl⟩
def cQ(d:Int):Prop:=2≤d∧d≤16
instance(d:Int):Decidable (cQ d):=inferInstanceAs (Decidable (_∧_))
theorem nm(d:Int)(H:Hp):af Tryz.prog KR [i64 d] H fun v H'=>aw (v= .bool (decide (cQ d))∧H=H'):=by
 refine bm KZ ?_
 refine vs ?_
 refine am.dec (fun h=>?_) (fun h=>?_)<;>refine vs ?_
 ·exact⟨anP Value.bool (by rw[decide_eq_decide];unfold cQ;omega),rfl⟩
 ·exact⟨anP Value.bool (anV (by unfold cQ;omega)).symm,rfl⟩
def aY(d i:Int):Option Int:=if cQ d∧1≤i then some ((i - 1) / d)else none
def M0(o:Option Int):Value:=match o with|some n=>.tuple [i64 n,.bool true].toArray|none=>.tuple [i64 0,.bool false].toArray
theorem eK{d i p:Int}(h:aY d i=some p):0≤p∧p<i:=by
 unfold aY at h
 split at h
 ·rename_i hc
  injection h with h
  have h0:=hc.1.1
  have:0≤(i - 1) / d:=Int.ediv_nonneg (by omega) (by omega)
  have h1:(i - 1) / d≤i - 1:=Int.ediv_le_self _ (by omega)
  omega
 ·cases h
theorem Re{d i:Int}(hd:2≤d)(h1:1≤i)(hi:i≤9223372036854775807):IntKind.i64.wrap ((i - 1).tdiv d)=(i - 1) / d:=by
 rw[Int.tdiv_eq_ediv_of_nonneg (by omega)]
 have:0≤(i - 1) / d:=Int.ediv_nonneg (by omega) (by omega)
 have h1:(i - 1) / d≤i - 1:=Int.ediv_le_self _ (by omega)
 exact wrap64 (by omega) (by omega)
theorem Cl(d i:Int)(hi:i≤9223372036854775807)(H:Hp):af Tryz.prog GY [i64 d,i64 i] H fun v H'=>aw (v=M0 (aY d i)∧H=H'):=by
 refine bm Hg ?_
 refine vs ?_
 refine(nm d H).mono ?_
 rintro _ _ ⟨rfl,rfl⟩
 refine vs ?_
 refine am.dec (fun hf=>?_) (fun hf=>?_)<;>refine vs ?_
 ·refine am.dec (fun h1=>?_) (fun h1=>?_)<;>refine vs ?_
  ·exact⟨by rw[aY,if_neg (by omega)];rfl,rfl⟩
  ·have h0:=hf.1
   rw[if_neg (by omega),wrap64 (n:=i - 1) (by omega) (by omega),Re hf.1 (by omega) hi]
   refine vs ?_
   exact⟨by rw[aY,if_pos ⟨hf,by omega⟩];rfl,rfl⟩
 ·exact⟨by rw[aY,if_neg (fun h=>hf h.1)];rfl,rfl⟩
def rN(d i k:Int):Option Int:=if cQ d∧0≤i∧i≤1099511627776∧1≤k∧k≤d then some (d*i+k)else none
theorem rO{d i k:Int}(hf:cQ d)(h0:0≤i)(h1:i≤1099511627776)(hk:1≤k)(hd:k≤d):0≤d*i∧d*i≤17592186044416:=by
 obtain⟨a,b⟩:=hf
 refine⟨ao9 (by omega) h0,?_⟩
 have:d*i≤16*i:=ao4 b h0
 omega
theorem sC(d i k:Int)(H:Hp):af Tryz.prog Jb [i64 d,i64 i,i64 k] H fun v H'=>aw (v=M0 (rN d i k)∧H=H'):=by
 refine bm Ji ?_
 refine vs ?_
 refine(nm d H).mono ?_
 rintro _ _ ⟨rfl,rfl⟩
 refine vs ?_
 refine am.dec (fun hf=>?_) (fun hf=>?_)<;>refine vs ?_
 ·refine am.dec (fun h1=>?_) (fun h1=>?_)<;>refine vs ?_
  ·exact⟨by rw[rN,if_neg (by omega)];rfl,rfl⟩
  ·refine am.dec (fun h2=>?_) (fun h2=>?_)<;>refine vs ?_
   ·exact⟨by rw[rN,if_neg (by omega)];rfl,rfl⟩
   ·refine am.dec (fun h3=>?_) (fun h3=>?_)<;>refine vs ?_
    ·exact⟨by rw[rN,if_neg (by omega)];rfl,rfl⟩
    ·refine am.dec (fun h4=>?_) (fun h4=>?_)<;>refine vs ?_
     ·exact⟨by rw[rN,if_neg (by omega)];rfl,rfl⟩
     ·have hb:=rO (i:=i) hf (by omega) (by omega) (by omega:1≤k) (by omega:k≤d)
      have hd:=hf.2
      rw[wrap64 (n:=d*i) (by omega) (by omega),wrap64 (by omega) (by omega)]
      exact⟨by rw[rN,if_pos ⟨hf,by omega,by omega,by omega,by omega⟩];rfl,rfl⟩
 ·exact⟨by rw[rN,if_neg (fun h=>hf h.1)];rfl,rfl⟩
def Ma(d:Int):Nat→Int→Nat
 |0,_=>0
 |m+1,i=>match aY d i with|some p=>Ma d m p+1|none=>0
theorem Rf(d:Int):∀ (m m':Nat) (i:Int),i.toNat≤m→i.toNat≤m'→Ma d m i=Ma d m' i:=by
 intro m
 induction m with
 |zero=>
  intro m' i h _
  have hn:aY d i=none:=by unfold aY;rw[if_neg (by omega)]
  cases m'<;>simp[Ma,hn]
 |succ m ih=>
  intro m' i h h'
  cases hp:aY d i with
  |none=>cases m'<;>simp[Ma,hp]
  |some p=>
   have hb:=eK hp
   cases m' with
   |zero=>omega
   |succ m'=>simp only[Ma,hp];rw[ih m' p (by omega) (by omega)]
theorem Rg{d i p:Int}(h:aY d i=some p)(m:Nat)(hm:i.toNat≤m):Ma d m i=Ma d p.toNat p+1:=by
 have hb:=eK h
 obtain⟨q,hq⟩:∃q,m=q+1:=⟨m - 1,by omega⟩
 subst hq
 simp only[Ma,h]
 rw[Rf d q p.toNat p (by omega) (by omega)]
theorem sD{d i j:Int}(hd:2≤d)(hi:0≤i)(h1:1≤j)(h2:j≤d):(d*i+j - 1) / d=i:=by
 rw[show d*i+j - 1=(j - 1)+d*i by omega,Int.add_mul_ediv_left _ _ (by omega),Int.ediv_eq_zero_of_lt (by omega) (by omega)]
 omega
theorem TF(o:Option Int):M0 o= .tuple [i64 (o.getD 0),.bool o.isSome].toArray:=by cases o<;>rfl
end Go.Proofs.YtjlnnljohemifaaGreat

namespace Go.Vc
open Go
theorem vl{P:Program}(hm:P.follows .mixedOrders=true){f:FuncId}{an:List EC}{F:Fn}(hd:dY P f an=some F){args:List Value}{H:Hp}{K:Value→Hp→Prop}{nt:Nat}(ht:(P.funcs[f]?).map (·.ntmps)=some nt)(aX:args.length≤nt)
  (h:Go.Vc.vc P F.body (iN 0 args) H (fun env H=>qN env H F.Yz fun vs=>K (KE vs) H) (fun _ _ _=>False) (fun env H=>qN env H F.Yz fun vs=>K (KE vs) H)):af P f args H K:=by
 unfold dY at hd
 split at hd
 ·cases hd
 ·rename_i fn hf
  split at hd
  ·cases hd
  ·rename_i c hb
   split at hd
   ·rename_i s hs
    split at hd
    ·rename_i oY
     cases hr:mS P fn.results.toList with
     |none=>rw[hr]at hd;cases hd
     |some rs=>
      rw[hr]at hd
      simp only[Option.map_some,anE]at hd
      subst hd
      simp only at h
      rw[hf]at ht
      simp only[Option.map_some,anE]at ht
      intro w hw
      subst hw
      refine calls_of_wp hf hb ?_
      have hh:Holds (iN 0 args) {tmps:=args.toArray++Array.replicate (fn.ntmps - args.toArray.size) undef,defers:=[]} fn.ntmps:=by
       refine⟨by simp;omega,rfl,fun k v hk=>?_⟩
       obtain⟨_,h2⟩:=Ii args 0 k v hk
       have aO:k<args.length:=by
        rcases aoL k args.length with h'|h'
        ·exact h'
        ·simp[anK h']at h2
       rw[aoY (by simpa using aO)]
       simpa using h2
      have Fg:∀aT a' w',bZ w w'→Holds aT a' fn.ntmps→qN aT w'.heap rs (fun vs=>K (KE vs) w'.heap)→
        a'.defers=[]∧∃v,(results fn a'.tmps).run P w'= .ok v w'∧(∃v_1,Ending.returned v=Ending.returned v_1∧bZ w w'∧K v_1 w'.heap):=by
       intro aT a' w' Ms nY hk
       obtain⟨vs,hF,Du⟩:=zX (P:=P) nY fn.results.toList rs _ hr hk
       refine⟨nY.defers,KE vs,?_,_,rfl,Ms,hF⟩
       change (do let vs ←fn.results.mapM (BP a'.tmps);pure (if h:vs.size=1 then vs[0]else .tuple vs):Sem Value).run P w'=_
       rw[Array.mapM_eq_mapM_toList]
       simp only[Sem.run_bind,Sem.run_map,Du,Result.andThen_ok,Sem.run_pure]
       congr 1
       cases vs with
       |nil=>rfl
       |cons x r=>cases r with
        |nil=>rfl
        |cons y r=>simp[KE]
      refine KD hm c an s [] hs _ _ w _ _ _ _ hh h ?_ ?_ ?_
      ·exact fun aT a' w' Ms nY hk=>Fg aT a' w' Ms nY hk
      ·exact fun _ _ _ _ _ _ hk=>hk.elim
      ·exact fun aT a' w' Ms nY hk=>Fg aT a' w' Ms nY hk
    ·cases hd
   ·cases hd
end Go.Vc
