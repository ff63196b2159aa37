/- Texts put behind each other. -/
import Derived.Test.YtjlnnljohemifaaGreatK98
import Derived.Test.YtjlnnljohemifaaGreatK9
import Derived.Test.YtjlnnljohemifaaGreatK12
import Derived.Test.YtjlnnljohemifaaGreatK13
import Derived.Test.YtjlnnljohemifaaGreatK14
import Derived.Test.YtjlnnljohemifaaGreatK15
import Derived.Test.YtjlnnljohemifaaGreatK16
set_option maxRecDepth 100000
set_option maxHeartbeats 8000000
set_option linter.unusedVariables false
set_option linter.unusedSimpArgs false
namespace Go.Vc
open Go
theorem Zs:(∀ (H:Hp) (b:Nat) (l:List Value),(H.wr b l).size=H.size)∧(∀ (H:Hp) (b:Nat) (es:List MapEntry) (k:Nat),(H.Dw b es k).size=H.size)∧(∀ (H:Hp) (T:TypeId) (l:List Value),(H.new T l).size=H.size+1)∧∀H:Hp,H.im.size=H.size+1:=⟨eo,K6,ap,iC⟩
theorem Zv:(∀ {H:Hp} {b c:Nat} {l:List Value},b≠c→(H.wr b l).rd c=H.rd c∧(H.wr b l).own c=H.own c∧(H.wr b l).mp c=H.mp c)∧(∀ {H:Hp} {b c:Nat} {es:List MapEntry} {k:Nat},b≠c→(H.Dw b es k).rd c=H.rd c∧(H.Dw b es k).own c=H.own c∧(H.Dw b es k).mp c=H.mp c)∧
 (∀ {H:Hp} {c:Nat} {T:TypeId} {l:List Value},c<H.size→(H.new T l).rd c=H.rd c∧(H.new T l).own c=H.own c∧(H.new T l).mp c=H.mp c)∧(∀ {H:Hp} {c:Nat},c<H.size→H.im.rd c=H.rd c∧H.im.own c=H.own c∧H.im.mp c=H.mp c)∧
 (∀ {H:Hp} {c:Nat} {T:TypeId} {l:List Value},c=H.size→(H.new T l).rd c=some l∧(H.new T l).own c=some l)∧∀ {H:Hp} {c:Nat},c=H.size→H.im.mp c=some ([],0):=
 ⟨fun h=>⟨Ri h,j0 h,Rj h⟩,fun h=>⟨Px h,M2 h,Py h⟩,fun h=>⟨Pz h,cu h,PA h⟩,fun h=>⟨M3 h,K7 h,M4 h⟩,fun h=>⟨PC h,aU h⟩,fun h=>M5 h⟩
attribute [go_sem_proc] Nat.reduceBEq Nat.reduceAdd Nat.reduceMul Nat.reduceLeDiff
theorem vs{p q:Prop}(h:q)(e:p=q:=by conv=>lhs;simp(disch:=(first|omega| (simp only[Zs]<;>omega)|fail)) only[go_sem, ↓reduceIte,Zv]):p:=e.mpr h
theorem v1{p q a0:Prop}(x0:a0)(h:q)(e:a0→p=q:=by intro y0;conv=>lhs;simp(disch:=(first|omega| (simp only[Zs]<;>omega)|fail)) only[go_sem, ↓reduceIte,Zv,y0]):p:=(e x0).mpr h
theorem v2{p q a0 a1:Prop}(x0:a0)(x1:a1)(h:q)(e:a0→a1→p=q:=by intro y0 y1;conv=>lhs;simp(disch:=(first|omega| (simp only[Zs]<;>omega)|fail)) only[go_sem, ↓reduceIte,Zv,y0,y1]):p:=(e x0 x1).mpr h
theorem v3{p q a0 a1 a2:Prop}(x0:a0)(x1:a1)(x2:a2)(h:q)(e:a0→a1→a2→p=q:=by intro y0 y1 y2;conv=>lhs;simp(disch:=(first|omega| (simp only[Zs]<;>omega)|fail)) only[go_sem, ↓reduceIte,Zv,y0,y1,y2]):p:=(e x0 x1 x2).mpr h
theorem v4{p q a0 a1 a2 a3:Prop}(x0:a0)(x1:a1)(x2:a2)(x3:a3)(h:q)(e:a0→a1→a2→a3→p=q:=by intro y0 y1 y2 y3;conv=>lhs;simp(disch:=(first|omega| (simp only[Zs]<;>omega)|fail)) only[go_sem, ↓reduceIte,Zv,y0,y1,y2,y3]):p:=(e x0 x1 x2 x3).mpr h
theorem v5{p q a0 a1 a2 a3 a4:Prop}(x0:a0)(x1:a1)(x2:a2)(x3:a3)(x4:a4)(h:q)(e:a0→a1→a2→a3→a4→p=q:=by intro y0 y1 y2 y3 y4;conv=>lhs;simp(disch:=(first|omega| (simp only[Zs]<;>omega)|fail)) only[go_sem, ↓reduceIte,Zv,y0,y1,y2,y3,y4]):p:=(e x0 x1 x2 x3 x4).mpr h
theorem v6{p q a0 a1 a2 a3 a4 a5:Prop}(x0:a0)(x1:a1)(x2:a2)(x3:a3)(x4:a4)(x5:a5)(h:q)(e:a0→a1→a2→a3→a4→a5→p=q:=by intro y0 y1 y2 y3 y4 y5;conv=>lhs;simp(disch:=(first|omega| (simp only[Zs]<;>omega)|fail)) only[go_sem, ↓reduceIte,Zv,y0,y1,y2,y3,y4,y5]):p:=(e x0 x1 x2 x3 x4 x5).mpr h
theorem v7{p q a0 a1 a2 a3 a4 a5 a6:Prop}(x0:a0)(x1:a1)(x2:a2)(x3:a3)(x4:a4)(x5:a5)(x6:a6)(h:q)(e:a0→a1→a2→a3→a4→a5→a6→p=q:=by intro y0 y1 y2 y3 y4 y5 y6;conv=>lhs;simp(disch:=(first|omega| (simp only[Zs]<;>omega)|fail)) only[go_sem, ↓reduceIte,Zv,y0,y1,y2,y3,y4,y5,y6]):p:=(e x0 x1 x2 x3 x4 x5 x6).mpr h
theorem v8{p q a0 a1 a2 a3 a4 a5 a6 a7:Prop}(x0:a0)(x1:a1)(x2:a2)(x3:a3)(x4:a4)(x5:a5)(x6:a6)(x7:a7)(h:q)(e:a0→a1→a2→a3→a4→a5→a6→a7→p=q:=by intro y0 y1 y2 y3 y4 y5 y6 y7;conv=>lhs;simp(disch:=(first|omega| (simp only[Zs]<;>omega)|fail)) only[go_sem, ↓reduceIte,Zv,y0,y1,y2,y3,y4,y5,y6,y7]):p:=(e x0 x1 x2 x3 x4 x5 x6 x7).mpr h
theorem v9{p q a0 a1 a2 a3 a4 a5 a6 a7 a8:Prop}(x0:a0)(x1:a1)(x2:a2)(x3:a3)(x4:a4)(x5:a5)(x6:a6)(x7:a7)(x8:a8)(h:q)(e:a0→a1→a2→a3→a4→a5→a6→a7→a8→p=q:=by intro y0 y1 y2 y3 y4 y5 y6 y7 y8;conv=>lhs;simp(disch:=(first|omega| (simp only[Zs]<;>omega)|fail)) only[go_sem, ↓reduceIte,Zv,y0,y1,y2,y3,y4,y5,y6,y7,y8]):p:=(e x0 x1 x2 x3 x4 x5 x6 x7 x8).mpr h
theorem v11{p q a0 a1 a2 a3 a4 a5 a6 a7 a8 a9 a10:Prop}(x0:a0)(x1:a1)(x2:a2)(x3:a3)(x4:a4)(x5:a5)(x6:a6)(x7:a7)(x8:a8)(x9:a9)(x10:a10)(h:q)(e:a0→a1→a2→a3→a4→a5→a6→a7→a8→a9→a10→p=q:=by intro y0 y1 y2 y3 y4 y5 y6 y7 y8 y9 y10;conv=>lhs;simp(disch:=(first|omega| (simp only[Zs]<;>omega)|fail)) only[go_sem, ↓reduceIte,Zv,y0,y1,y2,y3,y4,y5,y6,y7,y8,y9,y10]):p:=(e x0 x1 x2 x3 x4 x5 x6 x7 x8 x9 x10).mpr h
theorem v12{p q a0 a1 a2 a3 a4 a5 a6 a7 a8 a9 a10 a11:Prop}(x0:a0)(x1:a1)(x2:a2)(x3:a3)(x4:a4)(x5:a5)(x6:a6)(x7:a7)(x8:a8)(x9:a9)(x10:a10)(x11:a11)(h:q)(e:a0→a1→a2→a3→a4→a5→a6→a7→a8→a9→a10→a11→p=q:=by intro y0 y1 y2 y3 y4 y5 y6 y7 y8 y9 y10 y11;conv=>lhs;simp(disch:=(first|omega| (simp only[Zs]<;>omega)|fail)) only[go_sem, ↓reduceIte,Zv,y0,y1,y2,y3,y4,y5,y6,y7,y8,y9,y10,y11]):p:=(e x0 x1 x2 x3 x4 x5 x6 x7 x8 x9 x10 x11).mpr h
end Go.Vc
namespace Go.Proofs.YtjlnnljohemifaaGreat
open Go Go.Vc
abbrev i64(n:Int):Value:=.int .i64 n
abbrev ptr(b:Nat):Value:=.pointer (some ⟨b,0,none⟩)
abbrev u64(n:Int):Value:=.int .u64 n
abbrev tL(k s:Int):Value:=.agg [i64 k,u64 s].toArray
structure rL(cD:List Int)(rt d:Nat→Nat):Prop where
 pos:0<cD.length
 low:∀i,i<cD.length→rt i<cD.length
 K8:∀i,i<cD.length→rt (rt i)=rt i
 step:∀i,i<cD.length→∃j:Nat,cD[i]? =some (j:Int)∧j<cD.length∧rt j=rt i∧(j=i↔rt i=i)∧(j≠i→d j<d i)
 zero:rt 0=0
 nz:∀i,i<cD.length→rt i=0→i=0
structure eO(H:Hp)(b s:Nat)(len:Nat)(rt:Nat→Nat)(fO:Int):Prop where
 TO:∃sv cD sD,H.own b=some [sv,i64 fO,i64 sD]∧Sl H 1 sv len (cD.map i64) (some s)∧(∃d,rL cD rt d)∧cD.length=len
 ne:b≠s
 le:(len:Int) - 1≤fO
 fO:0≤fO∧fO≤65536
theorem eO.ext{H H':Hp}{b s len:Nat}{rt:Nat→Nat}{fO:Int}{S:Nat→Prop}(h:eO H b s len rt fO)(e:ag S H H')(h1:¬S b)(h2:¬S s):eO H' b s len rt fO:=by
 obtain⟨⟨sv,cD,sD,a1,a2,a3,a4⟩,h3,h4,h5⟩:=h
 exact⟨⟨sv,cD,sD,e.own a1 h1,a2.ext e (fun x hx=>by injection hx with hx;exact hx▸h2),a3,a4⟩,h3,h4,h5⟩
theorem Fq(fO:Int)(H:Hp):af Tryz.prog KN [i64 fO] H fun v H'=>aw (
  ah H H'∧((¬ (0≤fO∧fO≤65536)∧v= .tuple [.pointer none,i64 31].toArray)∨
   (0≤fO∧fO≤65536)∧∃b s,v= .tuple [ptr b,i64 0].toArray∧eO H' b s 1 id fO∧H.size≤b∧H.size≤s∧b<H'.size∧s<H'.size)):=by
 refine bv KV ?_
 refine vs ?_
 refine am.dec (fun h=>?_) (fun h=>?_)<;>refine vs ?_
 ·exact⟨ag.refl _ _,.inl ⟨by omega,rfl⟩⟩
 ·refine am.dec (fun h2=>?_) (fun h2=>?_)<;>refine vs ?_
  ·exact⟨ag.refl _ _,.inl ⟨by omega,rfl⟩⟩
  ·refine⟨((ag.refl _ _).new _ _).new _ _,.inr ⟨by omega,_,_,rfl,⟨⟨_,[0],0,by rw[←ap H 3 [Value.int .i64 0]];exact az _ _ _,
    (Sl.lit H 3 1 1 [i64 0] rfl).ext ((ag.refl (fun _=>False) _).new _ _) (fun _ _ h=>h),?_,rfl⟩,?_,by omega,by omega⟩,?_,?_,?_,?_⟩⟩
   ·exact⟨fun _=>0,by simp,fun i hi=>hi,fun i hi=>rfl,fun i hi=>⟨0,by simp at hi;subst hi;rfl,by simp,by simp at hi;subst hi;rfl,by simp at hi;subst hi;simp,by simp at hi;subst hi;simp⟩,rfl,fun i hi h=>h⟩
   all_goals(try simp only[ap]);omega
theorem rM{cD:List Int}{rt d:Nat→Nat}(h:rL cD rt d){i:Nat}(hi:i<cD.length):∃j:Nat,cD[i]? =some (j:Int)∧j<cD.length∧rt j=rt i∧(j=i↔rt i=i):=by
 have hd:=h.step
 obtain⟨j,h1,h2,h3,h4,_⟩:=hd i hi
 exact⟨j,h1,h2,h3,h4⟩
theorem D7{H:Hp}{b s len:Nat}{rt:Nat→Nat}{fO:Int}(h:eO H b s len rt fO):af Tryz.prog yF [ptr b] H fun v H'=>aw (v=i64 ((len:Int) - 1)∧H=H'):=by
 obtain⟨⟨sv,cD,sD,a1,⟨a2,l,c,rfl,a3⟩,a4,a5⟩,h1,h2,h3⟩:=h
 refine bv yY ?_
 refine v1 (ae a1) ?_
 rw[wrap64 (by omega) (by omega)]
 exact⟨rfl,rfl⟩
theorem sO{H:Hp}{b s len:Nat}{rt:Nat→Nat}{fO:Int}(h:eO H b s len rt fO)(i:Int):af Tryz.prog yG [ptr b,i64 i] H fun v H'=>aw (v= .bool (decide (0<i∧i<len))∧H=H'):=by
 obtain⟨⟨sv,cD,sD,a1,⟨a2,l,c,rfl,a3⟩,a4,a5⟩,h1,h2,h3⟩:=h
 refine bv yZ ?_
 refine vs ?_
 refine am.dec (fun h=>?_) (fun h=>?_)<;>refine v1 (ae a1) ?_
 ·refine⟨aoE Value.bool ?_,rfl⟩
  rw[decide_eq_decide];omega
 ·exact⟨aoE Value.bool (aoJ (by omega)).symm,rfl⟩
theorem Fs{cD:List Int}{l:List Value}{n:Nat}(h:l.take (n*1)=cD.map i64){i j:Nat}(hj:cD[i]? =some (j:Int)):l[i]? =some (i64 j):=by
 have h1:(cD.map i64)[i]? =some (i64 j):=by simp[hj]
 rw[←h]at h1
 rw[aoV]at h1
 split at h1
 ·exact h1
 ·cases h1
theorem Ft{H:Hp}{b s len:Nat}{rt:Nat→Nat}{fO:Int}(h:eO H b s len rt fO)(i:Int):
  af Tryz.prog Al [ptr b,i64 i] H fun v H'=>aw (v= .bool (decide (0<i∧i<len∧rt i.toNat=i.toNat))∧H=H'):=by
 have hm:=sO h i
 obtain⟨⟨sv,cD,sD,a1,⟨a2,l,c,rfl,a3,b1,b2,b3⟩,⟨d,a4⟩,a5⟩,h1,h2,h3⟩:=h
 refine bv AG ?_
 refine vs ?_
 refine hm.mono ?_
 rintro _ _ ⟨rfl,rfl⟩
 refine vs ?_
 refine am.dec (fun h=>?_) (fun h=>?_)<;>refine v1 (ae a1) ?_
 ·obtain⟨j,e1,e2,e3,e4⟩:=rM a4 (i:=i.toNat) (by omega)
  refine⟨by omega,?_⟩
  refine v3 (ae a3) aol (Fs b3 e1) ?_
  refine⟨aoE Value.bool ?_,rfl⟩
  rw[decide_eq_decide]
  constructor
  ·intro hh;exact⟨h.1,h.2,e4.1 (by omega)⟩
  ·rintro⟨_,_,hh⟩;have:=e4.2 hh;omega
 ·exact⟨aoE Value.bool (aoJ (by omega)).symm,rfl⟩
theorem rL.make{cD:List Int}{rt d:Nat→Nat}(h:rL cD rt d):rL (cD++[(cD.length:Int)]) (fun i=>if i=cD.length then i else rt i) d:=by
 have hd:=h.step
 have hp:=h.pos
 refine⟨by simp,fun i hi=>?_,fun i hi=>?_,fun i hi=>?_,?_,fun i hi hz=>?_⟩
 ·simp only[aor,aoD,apl]at hi ⊢
  split
  ·omega
  ·have:=h.low i (by omega);omega
 ·simp only[aor,aoD,apl]at hi
  by_cases e:i=cD.length
  ·simp[e]
  ·have h1:=h.low i (by omega)
   simp only[if_neg e,if_neg (show rt i≠cD.length by omega)]
   exact h.K8 i (by omega)
 ·simp only[aor,aoD,apl]at hi
  by_cases e:i=cD.length
  ·subst e
   exact⟨cD.length,by simp,by simp,by simp,by simp,by simp⟩
  ·obtain⟨j,h1,h2,h3,h4,h5⟩:=hd i (by omega)
   refine⟨j,by rw[aox (by omega)];exact h1,by simp;omega,?_,?_,h5⟩
   ·simp only[if_neg e,if_neg (show j≠cD.length by omega)];exact h3
   ·simp only[if_neg e];exact h4
 ·simp only[if_neg (show(0:Nat)≠cD.length by omega)];exact h.zero
 ·simp only[aor,aoD,apl]at hi
  by_cases e:i=cD.length
  ·simp only[e,if_true]at hz;omega
  ·simp only[if_neg e]at hz;exact h.nz i (by omega) hz
theorem rL.skip{cD:List Int}{rt d:Nat→Nat}(h:rL cD rt d){i j k:Nat}(hi:cD[i]? =some (j:Int))(hj:cD[j]? =some (k:Int))(aP:j≠i):
  rL (cD.set i (k:Int)) rt d∧k<cD.length∧rt k=rt i∧d k<d i:=by
 have hd:=h.step
 have qi:i<cD.length:=(aoj.1 hi).1
 have Y2:j<cD.length:=(aoj.1 hj).1
 obtain⟨j',e1,e2,e3,e4,e5⟩:=hd i qi
 rw[hi]at e1
 have ej:j'=j:=by injection e1 with e1;omega
 subst ej
 obtain⟨k',f1,f2,f3,f4,f5⟩:=hd j' Y2
 rw[hj]at f1
 have ek:k'=k:=by injection f1 with f1;omega
 subst ek
 have hdk:d k'≤d j':=by
  by_cases e:k'=j'
  ·rw[e];omega
  ·exact Nat.le_of_lt (f5 e)
 have hdj:=e5 aP
 have HB:k'≠i:=fun e=>by rw[e]at hdk;omega
 refine⟨⟨by simpa using h.pos,fun x hx=>by simp only[aok]at hx ⊢;exact h.low x hx,fun x hx=>h.K8 x (by simpa using hx),fun x hx=>?_,h.zero,fun x hx=>h.nz x (by simpa using hx)⟩,f2,f3.trans e3,by omega⟩
 simp only[aok]at hx
 by_cases e:x=i
 ·subst e
  refine⟨k',by simp[hx],by simpa using f2,f3.trans e3,?_,fun _=>by omega⟩
  constructor
  ·intro hh;exact absurd hh HB
  ·intro hh;exact absurd (e4.2 hh) aP
 ·obtain⟨y,y1,y2,y3,y4,y5⟩:=hd x hx
  exact⟨y,by rw[aoo (Ne.symm e)];exact y1,by simpa using y2,y3,y4,y5⟩
theorem uB(l:List Int):gK (l.map i64):=by
 intro v hv
 obtain⟨x,_,rfl⟩:=aoC.1 hv
 rfl
theorem D9{H:Hp}{b s len:Nat}{rt:Nat→Nat}{fO:Int}(h:eO H b s len rt fO):
  af Tryz.prog yB [ptr b] H fun v H'=>aw (
   ((len:Int) - 1=fO∧v= .tuple [i64 0,.bool false].toArray∧H=H')∨
   ((len:Int) - 1≠fO∧v= .tuple [i64 len,.bool true].toArray∧∃s',eO H' b s' (len+1) (fun i=>if i=len then i else rt i) fO∧ag (fun x=>x=b∨x=s) H H'∧(s'=s∨(H.size≤s'∧s'<H'.size)))):=by
 have hl:=D7 h
 obtain⟨⟨sv,cD,sD,a1,a2,⟨d,a4⟩,a5⟩,h1,h2,h3⟩:=h
 have Wn:=a2
 obtain⟨_,l,c,rfl,a3,b1,b2,b3⟩:=Wn
 have hb:=aB a1
 refine bv yU ?_
 refine vs ?_
 refine⟨i64 ((len:Int) - 1),hl.mono fun _ _ h=>⟨h.out.1,h.out.2.symm⟩,?_⟩
 refine v1 (ae a1) ?_
 refine am.dec (fun h=>?_) (fun h=>?_)<;>refine v1 (ae a1) ?_
 ·exact .inl ⟨h,rfl,rfl⟩
 ·have hn:(H.new 3 [i64 len]).own b=some [.slice (some ⟨s,0,none⟩) len c,i64 fO,i64 sD]:=by rw[cu hb];exact a1
  refine Sl.append (a2.ext ((ag.refl (fun _=>False) H).new _ _) (fun _ _ h=>h)) (Sl.lit H 3 1 1 [i64 len] rfl).rd rfl (uB [(len:Int)]) (by omega) ?_
  intro v' H2 cP hs tM fZ
  have Ds:=tM.own hn (fun e=>h1 (by injection e with e;exact e.symm))
  have PD:=tM.size
  rw[ap]at PD
  obtain⟨s',rfl⟩:∃s',cP=some s':=by
   rcases fZ with h| ⟨x,h,_⟩
   ·exact⟨s,h⟩
   ·exact⟨x,h⟩
  have Kk:s'=s∨(H.size≤s'∧s'<H2.size):=by
   rcases fZ with h| ⟨x,h,h5,h6⟩
   ·injection h with h;exact .inl h
   ·injection h with h;subst h;rw[ap]at h5;exact .inr ⟨by omega,h6⟩
  have Wo:b≠s':=by
   rcases Kk with h|h
   ·rw[h];exact h1
   ·omega
  have Ea:=hs
  obtain⟨_,l',c',rfl,_⟩:=Ea
  simp(disch:=(first|omega| (simp only[Zs]<;>omega)|fail)) only[go_sem, ↓reduceIte,Zv,Ds,ai Ds,rN Ds]
  refine .inr ⟨h,rfl,s',⟨⟨_,cD++[(len:Int)],_,ai Ds,by rw[aoN];exact hs.ext ((ag.refl (fun x=>x=b) H2).wr (fun _=>rfl) _) (fun x e=>by injection e with e;omega),⟨d,?_⟩,by simp[a5]⟩,Wo,?_,h3⟩,?_,?_⟩
  ·have:=a4.make
   rw[a5]at this
   exact this
  ·have:(len:Int) - 1<fO:=by omega
   omega
  ·refine ag.wr (ag.nu ((ag.refl (fun x=>x=b∨x=s) H).new _ _) tM (fun x _ e=>.inr (by injection e with e;exact e.symm))) (fun _=>.inl rfl) _
  ·rcases Kk with h|h
   ·exact .inl h
   ·exact .inr ⟨h.1,by rw[eo];exact h.2⟩
theorem Eb{H:Hp}{b s len:Nat}{rt:Nat→Nat}{fO:Int}(h:eO H b s len rt fO)(i:Int):
  af Tryz.prog yC [ptr b,i64 i] H fun v H'=>aw (
   (¬ (0<i∧i<len)∧v= .tuple [i64 0,.bool false].toArray∧H=H')∨
   ((0<i∧i<len)∧v= .tuple [i64 (rt i.toNat),.bool true].toArray∧eO H' b s len rt fO∧ag (fun z=>z=b∨z=s) H H')):=by
 have hm:=sO h i
 refine bv yV ?_
 refine vs ?_
 refine hm.mono ?_
 rintro _ _ ⟨rfl,rfl⟩
 refine vs ?_
 refine am.dec (fun hi=>?_) (fun hi=>?_)<;>refine vs ?_
 ·obtain⟨⟨sv,cD,sD,a1,a2,⟨d,a4⟩,a5⟩,h1,h2,h3⟩:=h
  refine aX.intro (fun m env H1=>∃ (k:Nat) (cD:List Int) (sv:Value),env=[(0,ptr b),(1,i64 k)]∧k<len∧rt k=rt i.toNat∧d k=m∧
   H1.own b=some [sv,i64 fO,i64 sD]∧Sl H1 1 sv len (cD.map i64) (some s)∧rL cD rt d∧cD.length=len∧ag (fun z=>z=b∨z=s) H H1) (d i.toNat)
   ⟨i.toNat,cD,sv,by rw[show((i.toNat:Nat):Int)=i by omega],by omega,rfl,rfl,a1,a2,a4,a5,ag.refl _ _⟩ ?_
  rintro m env H1 ⟨k,cD,sv,rfl,k1,k2,rfl,c1,c2,c4,c5,cx⟩
  have c2':=c2
  obtain⟨e0,l,c,rfl,c3,e1,e2,e3⟩:=c2'
  obtain⟨j,j1,j2,j3,j4⟩:=rM c4 (i:=k) (by omega)
  refine v1 (ae c1) ?_
  refine⟨by omega,?_⟩
  have jl:=Fs e3 j1
  refine v4 (ae c3) aol Int.toNat_natCast jl ?_
  refine am.dec (fun hjk=>?_) (fun hjk=>?_)<;>refine v1 (ae c1) ?_
  ·refine .inr ⟨hi,?_,⟨⟨_,cD,sD,c1,c2,⟨d,c4⟩,c5⟩,h1,h2,h3⟩,cx⟩
   have:=j4.1 (by omega)
   rw[←k2,this]
   rfl
  ·obtain⟨k',g1,g2,g3,g4⟩:=rM c4 (i:=j) j2
   have gl:=Fs e3 g1
   have aP:j≠k:=by omega
   obtain⟨f1,f2,f3,f4⟩:=c4.skip j1 g1 aP
   refine⟨by omega,?_⟩
   refine v4 (ae c3) aol Int.toNat_natCast jl ?_
   refine⟨by omega,?_⟩
   refine v4 (ae c3) aol Int.toNat_natCast gl ?_
   refine⟨by omega,?_⟩
   have oQ:k<l.length:=by omega
   refine v3 c3 aol Int.toNat_natCast ?_
   refine⟨by omega,?_⟩
   have c1':(H1.wr s (l.set k (i64 k'))).own b=some [.slice (some ⟨s,0,none⟩) len c,i64 fO,i64 sD]:=(j0 (Ne.symm h1)).trans c1
   have c3':(H1.wr s (l.set k (i64 k'))).own s=some (l.set k (i64 k')):=ai c3
   have kl:(l.set k (i64 k'))[k]? =some (i64 k'):=by rw[aop oQ]
   refine v1 (ae c1') ?_
   refine⟨by omega,?_⟩
   refine v4 (ae c3') aol Int.toNat_natCast kl ?_
   refine⟨d k',f4,k',cD.set k (k':Int),_,rfl,by omega,f3.trans k2,rfl,c1,?_,f1,by simpa using c5,cx.trans ((ag.refl _ _).wr (fun _=>.inr rfl) _)⟩
   rw[ao4]
   exact c2.uC c3 k (i64 k')
 ·exact .inl ⟨hi,rfl,rfl⟩
def cU(d:Int):Prop:=2≤d∧d≤16
instance(d:Int):Decidable (cU d):=inferInstanceAs (Decidable (_∧_))
theorem nw(d:Int)(H:Hp):af Tryz.prog KS [i64 d] H fun v H'=>aw (v= .bool (decide (cU d))∧H=H'):=by
 refine bv K5 ?_
 refine vs ?_
 refine am.dec (fun h=>?_) (fun h=>?_)<;>refine vs ?_
 ·exact⟨aoE Value.bool (by rw[decide_eq_decide];unfold cU;omega),rfl⟩
 ·exact⟨aoE Value.bool (aoJ (by unfold cU;omega)).symm,rfl⟩
def ba(d i:Int):Option Int:=if cU d∧1≤i then some ((i - 1) / d)else none
def M6(o:Option Int):Value:=match o with|some n=>.tuple [i64 n,.bool true].toArray|none=>.tuple [i64 0,.bool false].toArray
theorem eQ{d i p:Int}(h:ba d i=some p):0≤p∧p<i:=by
 unfold ba at h
 split at h
 ·rename_i hc
  injection h with h
  have h0:=hc.1.1
  have:0≤(i - 1) / d:=Int.ediv_nonneg (by omega) (by omega)
  have h1:(i - 1) / d≤i - 1:=Int.ediv_le_self _ (by omega)
  omega
 ·cases h
theorem Rk{d i:Int}(hd:2≤d)(h1:1≤i)(hi:i≤9223372036854775807):IntKind.i64.wrap ((i - 1).tdiv d)=(i - 1) / d:=by
 rw[Int.tdiv_eq_ediv_of_nonneg (by omega)]
 have:0≤(i - 1) / d:=Int.ediv_nonneg (by omega) (by omega)
 have h1:(i - 1) / d≤i - 1:=Int.ediv_le_self _ (by omega)
 exact wrap64 (by omega) (by omega)
theorem CC(d i:Int)(hi:i≤9223372036854775807)(H:Hp):af Tryz.prog Hi [i64 d,i64 i] H fun v H'=>aw (v=M6 (ba d i)∧H=H'):=by
 refine bv Hz ?_
 refine vs ?_
 refine(nw d H).mono ?_
 rintro _ _ ⟨rfl,rfl⟩
 refine vs ?_
 refine am.dec (fun hf=>?_) (fun hf=>?_)<;>refine vs ?_
 ·refine am.dec (fun h1=>?_) (fun h1=>?_)<;>refine vs ?_
  ·exact⟨by rw[ba,if_neg (by omega)];rfl,rfl⟩
  ·have h0:=hf.1
   rw[if_neg (by omega),wrap64 (n:=i - 1) (by omega) (by omega),Rk hf.1 (by omega) hi]
   refine vs ?_
   exact⟨by rw[ba,if_pos ⟨hf,by omega⟩];rfl,rfl⟩
 ·exact⟨by rw[ba,if_neg (fun h=>hf h.1)];rfl,rfl⟩
def rO(d i k:Int):Option Int:=if cU d∧0≤i∧i≤1099511627776∧1≤k∧k≤d then some (d*i+k)else none
theorem rP{d i k:Int}(hf:cU d)(h0:0≤i)(h1:i≤1099511627776)(hk:1≤k)(hd:k≤d):0≤d*i∧d*i≤17592186044416:=by
 obtain⟨a,b⟩:=hf
 refine⟨apZ (by omega) h0,?_⟩
 have:d*i≤16*i:=apS b h0
 omega
theorem sP(d i k:Int)(H:Hp):af Tryz.prog Jm [i64 d,i64 i,i64 k] H fun v H'=>aw (v=M6 (rO d i k)∧H=H'):=by
 refine bv Jt ?_
 refine vs ?_
 refine(nw d H).mono ?_
 rintro _ _ ⟨rfl,rfl⟩
 refine vs ?_
 refine am.dec (fun hf=>?_) (fun hf=>?_)<;>refine vs ?_
 ·refine am.dec (fun h1=>?_) (fun h1=>?_)<;>refine vs ?_
  ·exact⟨by rw[rO,if_neg (by omega)];rfl,rfl⟩
  ·refine am.dec (fun h2=>?_) (fun h2=>?_)<;>refine vs ?_
   ·exact⟨by rw[rO,if_neg (by omega)];rfl,rfl⟩
   ·refine am.dec (fun h3=>?_) (fun h3=>?_)<;>refine vs ?_
    ·exact⟨by rw[rO,if_neg (by omega)];rfl,rfl⟩
    ·refine am.dec (fun h4=>?_) (fun h4=>?_)<;>refine vs ?_
     ·exact⟨by rw[rO,if_neg (by omega)];rfl,rfl⟩
     ·have hb:=rP (i:=i) hf (by omega) (by omega) (by omega:1≤k) (by omega:k≤d)
      have hd:=hf.2
      rw[wrap64 (n:=d*i) (by omega) (by omega),wrap64 (by omega) (by omega)]
      exact⟨by rw[rO,if_pos ⟨hf,by omega,by omega,by omega,by omega⟩];rfl,rfl⟩
 ·exact⟨by rw[rO,if_neg (fun h=>hf h.1)];rfl,rfl⟩
def MD(d:Int):Nat→Int→Nat
 |0,_=>0
 |m+1,i=>match ba d i with|some p=>MD d m p+1|none=>0
theorem Rm(d:Int):∀ (m m':Nat) (i:Int),i.toNat≤m→i.toNat≤m'→MD d m i=MD d m' i:=by
 intro m
 induction m with
 |zero=>
  intro m' i h _
  have hn:ba d i=none:=by unfold ba;rw[if_neg (by omega)]
  cases m'<;>simp[MD,hn]
 |succ m ih=>
  intro m' i h h'
  cases hp:ba d i with
  |none=>cases m'<;>simp[MD,hp]
  |some p=>
   have hb:=eQ hp
   cases m' with
   |zero=>omega
   |succ m'=>simp only[MD,hp];rw[ih m' p (by omega) (by omega)]
theorem Rn{d i p:Int}(h:ba d i=some p)(m:Nat)(hm:i.toNat≤m):MD d m i=MD d p.toNat p+1:=by
 have hb:=eQ h
 obtain⟨q,hq⟩:∃q,m=q+1:=⟨m - 1,by omega⟩
 subst hq
 simp only[MD,h]
 rw[Rm d q p.toNat p (by omega) (by omega)]
theorem sQ{d i j:Int}(hd:2≤d)(hi:0≤i)(h1:1≤j)(h2:j≤d):(d*i+j - 1) / d=i:=by
 rw[show d*i+j - 1=(j - 1)+d*i by omega,Int.add_mul_ediv_left _ _ (by omega),Int.ediv_eq_zero_of_lt (by omega) (by omega)]
 omega
theorem TP(o:Option Int):M6 o= .tuple [i64 (o.getD 0),.bool o.isSome].toArray:=by cases o<;>rfl
end Go.Proofs.YtjlnnljohemifaaGreat

namespace Go.Vc
open Go
theorem vB{P:Program}(hm:P.follows .mixedOrders=true){f:FuncId}{an:List E9}{F:Fn}(hd:dQ P f an=some F){args:List Value}{H:Hp}{K:Value→Hp→Prop}{nt:Nat}(ht:(P.funcs[f]?).map (·.ntmps)=some nt)(aZ:args.length≤nt)
  (h:Go.Vc.vc P F.body (iV 0 args) H (fun env H=>qQ env H F.Y1 fun vs=>K (KJ vs) H) (fun _ _ _=>False) (fun env H=>qQ env H F.Y1 fun vs=>K (KJ vs) H)):af P f args H K:=by
 unfold dQ at hd
 split at hd
 ·cases hd
 ·rename_i fn hf
  split at hd
  ·cases hd
  ·rename_i c hb
   split at hd
   ·rename_i s hs
    split at hd
    ·rename_i nT
     cases hr:ny P fn.results.toList with
     |none=>rw[hr]at hd;cases hd
     |some rs=>
      rw[hr]at hd
      simp only[Option.map_some,aos]at hd
      subst hd
      simp only at h
      rw[hf]at ht
      simp only[Option.map_some,aos]at ht
      intro w hw
      subst hw
      refine calls_of_wp hf hb ?_
      have hh:Holds (iV 0 args) {tmps:=args.toArray++Array.replicate (fn.ntmps - args.toArray.size) undef,defers:=[]} fn.ntmps:=by
       refine⟨by simp;omega,rfl,fun k v hk=>?_⟩
       obtain⟨_,h2⟩:=IB args 0 k v hk
       have aO:k<args.length:=by
        rcases apA k args.length with h'|h'
        ·exact h'
        ·simp[aoz h']at h2
       rw[apN (by simpa using aO)]
       simpa using h2
      have E8:∀aV a' w',cf w w'→Holds aV a' fn.ntmps→qQ aV w'.heap rs (fun vs=>K (KJ vs) w'.heap)→
        a'.defers=[]∧∃v,(results fn a'.tmps).run P w'= .ok v w'∧(∃v_1,Ending.returned v=Ending.returned v_1∧cf w w'∧K v_1 w'.heap):=by
       intro aV a' w' M7 ou hk
       obtain⟨vs,hF,DO⟩:=AW (P:=P) ou fn.results.toList rs _ hr hk
       refine⟨ou.defers,KJ vs,?_,_,rfl,M7,hF⟩
       change (do let vs ←fn.results.mapM (CD a'.tmps);pure (if h:vs.size=1 then vs[0]else .tuple vs):Sem Value).run P w'=_
       rw[Array.mapM_eq_mapM_toList]
       simp only[Sem.run_bind,Sem.run_map,DO,Result.andThen_ok,Sem.run_pure]
       congr 1
       cases vs with
       |nil=>rfl
       |cons x r=>cases r with
        |nil=>rfl
        |cons y r=>simp[KJ]
      refine K9 hm c an s [] hs _ _ w _ _ _ _ hh h ?_ ?_ ?_
      ·exact fun aV a' w' M7 ou hk=>E8 aV a' w' M7 ou hk
      ·exact fun _ _ _ _ _ _ hk=>hk.elim
      ·exact fun aV a' w' M7 ou hk=>E8 aV a' w' M7 ou hk
    ·cases hd
   ·cases hd
end Go.Vc
