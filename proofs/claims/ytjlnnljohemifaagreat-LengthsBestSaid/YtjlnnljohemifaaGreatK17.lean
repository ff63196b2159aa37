/- Texts put behind each other. -/
import Derived.Test.YtjlnnljohemifaaGreatK98
import Derived.Test.YtjlnnljohemifaaGreatK9
import Derived.Test.YtjlnnljohemifaaGreatK12
import Derived.Test.YtjlnnljohemifaaGreatK13
import Derived.Test.YtjlnnljohemifaaGreatK14
import Derived.Test.YtjlnnljohemifaaGreatK15
import Derived.Test.YtjlnnljohemifaaGreatK16
set_option linter.unusedVariables false
set_option linter.unusedSimpArgs false
namespace Go.Vc
open Go
theorem Zs:(∀ (H:Hp) (b:Nat) (l:List Value),(H.wr b l).size=H.size)∧(∀ (H:Hp) (b:Nat) (es:List MapEntry) (k:Nat),(H.EH b es k).size=H.size)∧(∀ (H:Hp) (T:TypeId) (l:List Value),(H.new T l).size=H.size+1)∧∀H:Hp,H.fY.size=H.size+1:=⟨gm,Lu,au,kC⟩
theorem Zv:(∀ {H:Hp} {b c:Nat} {l:List Value},b≠c→(H.wr b l).rd c=H.rd c∧(H.wr b l).own c=H.own c∧(H.wr b l).mp c=H.mp c)∧(∀ {H:Hp} {b c:Nat} {es:List MapEntry} {k:Nat},b≠c→(H.EH b es k).rd c=H.rd c∧(H.EH b es k).own c=H.own c∧(H.EH b es k).mp c=H.mp c)∧
 (∀ {H:Hp} {c:Nat} {T:TypeId} {l:List Value},c<H.size→(H.new T l).rd c=H.rd c∧(H.new T l).own c=H.own c∧(H.new T l).mp c=H.mp c)∧(∀ {H:Hp} {c:Nat},c<H.size→H.fY.rd c=H.rd c∧H.fY.own c=H.own c∧H.fY.mp c=H.mp c)∧
 (∀ {H:Hp} {c:Nat} {T:TypeId} {l:List Value},c=H.size→(H.new T l).rd c=some l∧(H.new T l).own c=some l)∧∀ {H:Hp} {c:Nat},c=H.size→H.fY.mp c=some ([],0):=
 ⟨fun h=>⟨RF h,DM h,RG h⟩,fun h=>⟨Px h,Nc h,Py h⟩,fun h=>⟨Pz h,cw h,PA h⟩,fun h=>⟨Nd h,Lv h,Nf h⟩,fun h=>⟨PC h,bD h⟩,fun h=>Ng h⟩
attribute [go_sem_proc] Nat.reduceBEq Nat.reduceAdd Nat.reduceMul Nat.reduceLeDiff
theorem vs{p q:Prop}(h:q)(e:p=q:=by conv=>lhs;simp(disch:=(first|omega| (simp only[Zs]<;>omega)|fail)) only[go_sem, ↓reduceIte,Zv]):p:=e.mpr h
theorem v1{p q a0:Prop}(x0:a0)(h:q)(e:a0→p=q:=by intro y0;conv=>lhs;simp(disch:=(first|omega| (simp only[Zs]<;>omega)|fail)) only[go_sem, ↓reduceIte,Zv,y0]):p:=(e x0).mpr h
theorem v2{p q a0 a1:Prop}(x0:a0)(x1:a1)(h:q)(e:a0→a1→p=q:=by intro y0 y1;conv=>lhs;simp(disch:=(first|omega| (simp only[Zs]<;>omega)|fail)) only[go_sem, ↓reduceIte,Zv,y0,y1]):p:=(e x0 x1).mpr h
theorem v3{p q a0 a1 a2:Prop}(x0:a0)(x1:a1)(x2:a2)(h:q)(e:a0→a1→a2→p=q:=by intro y0 y1 y2;conv=>lhs;simp(disch:=(first|omega| (simp only[Zs]<;>omega)|fail)) only[go_sem, ↓reduceIte,Zv,y0,y1,y2]):p:=(e x0 x1 x2).mpr h
theorem v4{p q a0 a1 a2 a3:Prop}(x0:a0)(x1:a1)(x2:a2)(x3:a3)(h:q)(e:a0→a1→a2→a3→p=q:=by intro y0 y1 y2 y3;conv=>lhs;simp(disch:=(first|omega| (simp only[Zs]<;>omega)|fail)) only[go_sem, ↓reduceIte,Zv,y0,y1,y2,y3]):p:=(e x0 x1 x2 x3).mpr h
theorem v5{p q a0 a1 a2 a3 a4:Prop}(x0:a0)(x1:a1)(x2:a2)(x3:a3)(x4:a4)(h:q)(e:a0→a1→a2→a3→a4→p=q:=by intro y0 y1 y2 y3 y4;conv=>lhs;simp(disch:=(first|omega| (simp only[Zs]<;>omega)|fail)) only[go_sem, ↓reduceIte,Zv,y0,y1,y2,y3,y4]):p:=(e x0 x1 x2 x3 x4).mpr h
theorem v6{p q a0 a1 a2 a3 a4 a5:Prop}(x0:a0)(x1:a1)(x2:a2)(x3:a3)(x4:a4)(x5:a5)(h:q)(e:a0→a1→a2→a3→a4→a5→p=q:=by intro y0 y1 y2 y3 y4 y5;conv=>lhs;simp(disch:=(first|omega| (simp only[Zs]<;>omega)|fail)) only[go_sem, ↓reduceIte,Zv,y0,y1,y2,y3,y4,y5]):p:=(e x0 x1 x2 x3 x4 x5).mpr h
theorem v7{p q a0 a1 a2 a3 a4 a5 a6:Prop}(x0:a0)(x1:a1)(x2:a2)(x3:a3)(x4:a4)(x5:a5)(x6:a6)(h:q)(e:a0→a1→a2→a3→a4→a5→a6→p=q:=by intro y0 y1 y2 y3 y4 y5 y6;conv=>lhs;simp(disch:=(first|omega| (simp only[Zs]<;>omega)|fail)) only[go_sem, ↓reduceIte,Zv,y0,y1,y2,y3,y4,y5,y6]):p:=(e x0 x1 x2 x3 x4 x5 x6).mpr h
theorem v8{p q a0 a1 a2 a3 a4 a5 a6 a7:Prop}(x0:a0)(x1:a1)(x2:a2)(x3:a3)(x4:a4)(x5:a5)(x6:a6)(x7:a7)(h:q)(e:a0→a1→a2→a3→a4→a5→a6→a7→p=q:=by intro y0 y1 y2 y3 y4 y5 y6 y7;conv=>lhs;simp(disch:=(first|omega| (simp only[Zs]<;>omega)|fail)) only[go_sem, ↓reduceIte,Zv,y0,y1,y2,y3,y4,y5,y6,y7]):p:=(e x0 x1 x2 x3 x4 x5 x6 x7).mpr h
theorem v9{p q a0 a1 a2 a3 a4 a5 a6 a7 a8:Prop}(x0:a0)(x1:a1)(x2:a2)(x3:a3)(x4:a4)(x5:a5)(x6:a6)(x7:a7)(x8:a8)(h:q)(e:a0→a1→a2→a3→a4→a5→a6→a7→a8→p=q:=by intro y0 y1 y2 y3 y4 y5 y6 y7 y8;conv=>lhs;simp(disch:=(first|omega| (simp only[Zs]<;>omega)|fail)) only[go_sem, ↓reduceIte,Zv,y0,y1,y2,y3,y4,y5,y6,y7,y8]):p:=(e x0 x1 x2 x3 x4 x5 x6 x7 x8).mpr h
theorem v11{p q a0 a1 a2 a3 a4 a5 a6 a7 a8 a9 ZU:Prop}(x0:a0)(x1:a1)(x2:a2)(x3:a3)(x4:a4)(x5:a5)(x6:a6)(x7:a7)(x8:a8)(x9:a9)(x10:ZU)(h:q)(e:a0→a1→a2→a3→a4→a5→a6→a7→a8→a9→ZU→p=q:=by intro y0 y1 y2 y3 y4 y5 y6 y7 y8 y9 y10;conv=>lhs;simp(disch:=(first|omega| (simp only[Zs]<;>omega)|fail)) only[go_sem, ↓reduceIte,Zv,y0,y1,y2,y3,y4,y5,y6,y7,y8,y9,y10]):p:=(e x0 x1 x2 x3 x4 x5 x6 x7 x8 x9 x10).mpr h
theorem v12{p q a0 a1 a2 a3 a4 a5 a6 a7 a8 a9 ZU a11:Prop}(x0:a0)(x1:a1)(x2:a2)(x3:a3)(x4:a4)(x5:a5)(x6:a6)(x7:a7)(x8:a8)(x9:a9)(x10:ZU)(x11:a11)(h:q)(e:a0→a1→a2→a3→a4→a5→a6→a7→a8→a9→ZU→a11→p=q:=by intro y0 y1 y2 y3 y4 y5 y6 y7 y8 y9 y10 y11;conv=>lhs;simp(disch:=(first|omega| (simp only[Zs]<;>omega)|fail)) only[go_sem, ↓reduceIte,Zv,y0,y1,y2,y3,y4,y5,y6,y7,y8,y9,y10,y11]):p:=(e x0 x1 x2 x3 x4 x5 x6 x7 x8 x9 x10 x11).mpr h
end Go.Vc
namespace Go.Proofs.YtjlnnljohemifaaGreat
open Go Go.Vc
abbrev i64(n:Int):Value:=.int .i64 n
abbrev ptr(b:Nat):Value:=.pointer (some ⟨b,0,none⟩)
abbrev u64(n:Int):Value:=.int .u64 n
abbrev vV(k s:Int):Value:=.agg [i64 k,u64 s].toArray
structure uq(cG:List Int)(rt d:Nat→Nat):Prop where
 pos:0<cG.length
 low:∀i,i<cG.length→rt i<cG.length
 Lw:∀i,i<cG.length→rt (rt i)=rt i
 step:∀i,i<cG.length→∃j:Nat,cG[i]? =some (j:Int)∧j<cG.length∧rt j=rt i∧(j=i↔rt i=i)∧(j≠i→d j<d i)
 zero:rt 0=0
 nz:∀i,i<cG.length→rt i=0→i=0
structure fz(H:Hp)(b s:Nat)(len:Nat)(rt:Nat→Nat)(gZ:Int):Prop where
 rep:∃sv cG PD,H.own b=some [sv,i64 gZ,i64 PD]∧Sl H 1 sv len (cG.map i64) (some s)∧(∃d,uq cG rt d)∧cG.length=len
 ne:b≠s
 le:(len:Int) - 1≤gZ
 gZ:0≤gZ∧gZ≤65536
theorem fz.ext{H H':Hp}{b s len:Nat}{rt:Nat→Nat}{gZ:Int}{S:Nat→Prop}(h:fz H b s len rt gZ)(e:ai S H H')(h1:¬S b)(h2:¬S s):fz H' b s len rt gZ:=by
 obtain⟨⟨sv,cG,PD,a1,a2,a3,a4⟩,h3,h4,h5⟩:=h
 exact⟨⟨sv,cG,PD,e.own a1 h1,a2.ext e (fun x hx=>by injection hx with hx;exact hx▸h2),a3,a4⟩,h3,h4,h5⟩
theorem Gw(gZ:Int)(H:Hp):ah Tryz.prog Li [i64 gZ] H fun v H'=>ay (
  ax H H'∧((¬ (0≤gZ∧gZ≤65536)∧v= .tuple [.pointer none,i64 31].toArray)∨
   (0≤gZ∧gZ≤65536)∧∃b s,v= .tuple [ptr b,i64 0].toArray∧fz H' b s 1 id gZ∧H.size≤b∧H.size≤s∧b<H'.size∧s<H'.size)):=by
 refine be Lo ⟨rfl,?_⟩
 refine v1 wL.eq_1 ?_
 refine ak.dec (fun h=>?_) (fun h=>?_)<;>refine vs ?_
 ·exact⟨ai.refl _ _,.inl ⟨by omega,rfl⟩⟩
 ·refine ak.dec (fun h2=>?_) (fun h2=>?_)<;>refine vs ?_
  ·exact⟨ai.refl _ _,.inl ⟨by omega,rfl⟩⟩
  ·refine⟨((ai.refl _ _).new _ _).new _ _,.inr ⟨by omega,_,_,rfl,⟨⟨_,[0],0,by rw[←au H 3 [Value.int .i64 0]];exact aG _ _ _,
    (Sl.lit H 3 1 1 [i64 0] rfl).ext ((ai.refl (fun _=>False) _).new _ _) (fun _ _ h=>h),?_,rfl⟩,?_,by omega,by omega⟩,?_,?_,?_,?_⟩⟩
   ·exact⟨fun _=>0,by simp,fun i hi=>hi,fun i hi=>rfl,fun i hi=>⟨0,by simp at hi;subst hi;rfl,by simp,by simp at hi;subst hi;rfl,by simp at hi;subst hi;simp,by simp at hi;subst hi;simp⟩,rfl,fun i hi h=>h⟩
   all_goals(try simp only[au]);omega
theorem ur{cG:List Int}{rt d:Nat→Nat}(h:uq cG rt d){i:Nat}(hi:i<cG.length):∃j:Nat,cG[i]? =some (j:Int)∧j<cG.length∧rt j=rt i∧(j=i↔rt i=i):=by
 have hd:=h.step
 obtain⟨j,h1,h2,h3,h4,_⟩:=hd i hi
 exact⟨j,h1,h2,h3,h4⟩
theorem Fl{H:Hp}{b s len:Nat}{rt:Nat→Nat}{gZ:Int}(h:fz H b s len rt gZ):ah Tryz.prog Ab [ptr b] H fun v H'=>ay (v=i64 ((len:Int) - 1)∧H=H'):=by
 obtain⟨⟨sv,cG,PD,a1,⟨a2,l,c,rfl,a3⟩,a4,a5⟩,h1,h2,h3⟩:=h
 refine be Ay ⟨rfl,?_⟩
 refine v2 jG.eq_1 (ae a1) ?_
 rw[wrap64 (by omega) (by omega)]
 exact⟨rfl,rfl⟩
theorem ve{H:Hp}{b s len:Nat}{rt:Nat→Nat}{gZ:Int}(h:fz H b s len rt gZ)(i:Int):ah Tryz.prog Ac [ptr b,i64 i] H fun v H'=>ay (v= .bool (decide (0<i∧i<len))∧H=H'):=by
 obtain⟨⟨sv,cG,PD,a1,⟨a2,l,c,rfl,a3⟩,a4,a5⟩,h1,h2,h3⟩:=h
 refine be Az ⟨rfl,?_⟩
 refine v1 jH.eq_1 ?_
 refine ak.dec (fun h=>?_) (fun h=>?_)<;>refine v1 (ae a1) ?_
 ·refine⟨amt Value.bool ?_,rfl⟩
  rw[decide_eq_decide];omega
 ·exact⟨amt Value.bool (amm (by omega)).symm,rfl⟩
theorem Gx{cG:List Int}{l:List Value}{n:Nat}(h:l.take (n*1)=cG.map i64){i j:Nat}(hj:cG[i]? =some (j:Int)):l[i]? =some (i64 j):=by
 have h1:(cG.map i64)[i]? =some (i64 j):=by simp[hj]
 rw[←h]at h1
 rw[amE]at h1
 split at h1
 ·exact h1
 ·cases h1
theorem Gy{H:Hp}{b s len:Nat}{rt:Nat→Nat}{gZ:Int}(h:fz H b s len rt gZ)(i:Int):
  ah Tryz.prog BL [ptr b,i64 i] H fun v H'=>ay (v= .bool (decide (0<i∧i<len∧rt i.toNat=i.toNat))∧H=H'):=by
 have hm:=ve h i
 obtain⟨⟨sv,cG,PD,a1,⟨a2,l,c,rfl,a3,b1,b2,b3⟩,⟨d,a4⟩,a5⟩,h1,h2,h3⟩:=h
 refine be B3 ⟨rfl,?_⟩
 refine v1 lw.eq_1 ?_
 refine hm.mono ?_
 rintro _ _ ⟨rfl,rfl⟩
 refine vs ?_
 refine ak.dec (fun h=>?_) (fun h=>?_)<;>refine v1 (ae a1) ?_
 ·obtain⟨j,e1,e2,e3,e4⟩:=ur a4 (i:=i.toNat) (by omega)
  refine⟨by omega,?_⟩
  refine v3 (ae a3) ama (Gx b3 e1) ?_
  refine⟨amt Value.bool ?_,rfl⟩
  rw[decide_eq_decide]
  constructor
  ·intro hh;exact⟨h.1,h.2,e4.1 (by omega)⟩
  ·rintro⟨_,_,hh⟩;have:=e4.2 hh;omega
 ·exact⟨amt Value.bool (amm (by omega)).symm,rfl⟩
theorem uq.make{cG:List Int}{rt d:Nat→Nat}(h:uq cG rt d):uq (cG++[(cG.length:Int)]) (fun i=>if i=cG.length then i else rt i) d:=by
 have hd:=h.step
 have hp:=h.pos
 refine⟨by simp,fun i hi=>?_,fun i hi=>?_,fun i hi=>?_,?_,fun i hi hz=>?_⟩
 ·simp only[amh,ams,anj]at hi ⊢
  split
  ·omega
  ·have:=h.low i (by omega);omega
 ·simp only[amh,ams,anj]at hi
  by_cases e:i=cG.length
  ·simp[e]
  ·have h1:=h.low i (by omega)
   simp only[if_neg e,if_neg (show rt i≠cG.length by omega)]
   exact h.Lw i (by omega)
 ·simp only[amh,ams,anj]at hi
  by_cases e:i=cG.length
  ·subst e
   exact⟨cG.length,by simp,by simp,by simp,by simp,by simp⟩
  ·obtain⟨j,h1,h2,h3,h4,h5⟩:=hd i (by omega)
   refine⟨j,by rw[amn (by omega)];exact h1,by simp;omega,?_,?_,h5⟩
   ·simp only[if_neg e,if_neg (show j≠cG.length by omega)];exact h3
   ·simp only[if_neg e];exact h4
 ·simp only[if_neg (show(0:Nat)≠cG.length by omega)];exact h.zero
 ·simp only[amh,ams,anj]at hi
  by_cases e:i=cG.length
  ·simp only[e,if_true]at hz;omega
  ·simp only[if_neg e]at hz;exact h.nz i (by omega) hz
theorem uq.skip{cG:List Int}{rt d:Nat→Nat}(h:uq cG rt d){i j k:Nat}(hi:cG[i]? =some (j:Int))(hj:cG[j]? =some (k:Int))(aT:j≠i):
  uq (cG.set i (k:Int)) rt d∧k<cG.length∧rt k=rt i∧d k<d i:=by
 have hd:=h.step
 have tK:i<cG.length:=(al7.1 hi).1
 have ZV:j<cG.length:=(al7.1 hj).1
 obtain⟨j',e1,e2,e3,e4,e5⟩:=hd i tK
 rw[hi]at e1
 have ej:j'=j:=by injection e1 with e1;omega
 subst ej
 obtain⟨k',f1,f2,f3,f4,f5⟩:=hd j' ZV
 rw[hj]at f1
 have ek:k'=k:=by injection f1 with f1;omega
 subst ek
 have hdk:d k'≤d j':=by
  by_cases e:k'=j'
  ·rw[e];omega
  ·exact Nat.le_of_lt (f5 e)
 have hdj:=e5 aT
 have hki:k'≠i:=fun e=>by rw[e]at hdk;omega
 refine⟨⟨by simpa using h.pos,fun x hx=>by simp only[al8]at hx ⊢;exact h.low x hx,fun x hx=>h.Lw x (by simpa using hx),fun x hx=>?_,h.zero,fun x hx=>h.nz x (by simpa using hx)⟩,f2,f3.trans e3,by omega⟩
 simp only[al8]at hx
 by_cases e:x=i
 ·subst e
  refine⟨k',by simp[hx],by simpa using f2,f3.trans e3,?_,fun _=>by omega⟩
  constructor
  ·intro hh;exact absurd hh hki
  ·intro hh;exact absurd (e4.2 hh) aT
 ·obtain⟨y,y1,y2,y3,y4,y5⟩:=hd x hx
  exact⟨y,by rw[amc (Ne.symm e)];exact y1,by simpa using y2,y3,y4,y5⟩
theorem xd(l:List Int):j5 (l.map i64):=by
 intro v hv
 obtain⟨x,_,rfl⟩:=amJ.1 hv
 rfl
theorem Fm{H:Hp}{b s len:Nat}{rt:Nat→Nat}{gZ:Int}(h:fz H b s len rt gZ):
  ah Tryz.prog zY [ptr b] H fun v H'=>ay (
   ((len:Int) - 1=gZ∧v= .tuple [i64 0,.bool false].toArray∧H=H')∨
   ((len:Int) - 1≠gZ∧v= .tuple [i64 len,.bool true].toArray∧∃s',fz H' b s' (len+1) (fun i=>if i=len then i else rt i) gZ∧ai (fun x=>x=b∨x=s) H H'∧(s'=s∨(H.size≤s'∧s'<H'.size)))):=by
 have hl:=Fl h
 obtain⟨⟨sv,cG,PD,a1,a2,⟨d,a4⟩,a5⟩,h1,h2,h3⟩:=h
 have Wb:=a2
 obtain⟨_,l,c,rfl,a3,b1,b2,b3⟩:=Wb
 have hb:=aO a1
 refine be As ⟨rfl,?_⟩
 refine v1 jC.eq_1 ?_
 refine⟨i64 ((len:Int) - 1),hl.mono fun _ _ h=>⟨h.out.1,h.out.2.symm⟩,?_⟩
 refine v1 (ae a1) ?_
 refine ak.dec (fun h=>?_) (fun h=>?_)<;>refine v1 (ae a1) ?_
 ·exact .inl ⟨h,rfl,rfl⟩
 ·have hn:(H.new 3 [i64 len]).own b=some [.slice (some ⟨s,0,none⟩) len c,i64 gZ,i64 PD]:=by rw[cw hb];exact a1
  refine Sl.append (a2.ext ((ai.refl (fun _=>False) H).new _ _) (fun _ _ h=>h)) (Sl.lit H 3 1 1 [i64 len] rfl).rd rfl (xd [(len:Int)]) (by omega) ?_
  intro v' H2 fL hs vW mr
  have zD:=vW.own hn (fun e=>h1 (by injection e with e;exact e.symm))
  have PE:=vW.size
  rw[au]at PE
  obtain⟨s',rfl⟩:∃s',fL=some s':=by
   rcases mr with h| ⟨x,h,_⟩
   ·exact⟨s,h⟩
   ·exact⟨x,h⟩
  have ON:s'=s∨(H.size≤s'∧s'<H2.size):=by
   rcases mr with h| ⟨x,h,h5,h6⟩
   ·injection h with h;exact .inl h
   ·injection h with h;subst h;rw[au]at h5;exact .inr ⟨by omega,h6⟩
  have Wc:b≠s':=by
   rcases ON with h|h
   ·rw[h];exact h1
   ·omega
  have Fo:=hs
  obtain⟨_,l',c',rfl,_⟩:=Fo
  simp(disch:=(first|omega| (simp only[Zs]<;>omega)|fail)) only[go_sem, ↓reduceIte,Zv,zD,aj zD,us zD]
  refine .inr ⟨h,rfl,s',⟨⟨_,cG++[(len:Int)],_,aj zD,by rw[amU];exact hs.ext ((ai.refl (fun x=>x=b) H2).wr (fun _=>rfl) _) (fun x e=>by injection e with e;omega),⟨d,?_⟩,by simp[a5]⟩,Wc,?_,h3⟩,?_,?_⟩
  ·have:=a4.make
   rw[a5]at this
   exact this
  ·have:(len:Int) - 1<gZ:=by omega
   omega
  ·refine ai.wr (ai.ut ((ai.refl (fun x=>x=b∨x=s) H).new _ _) vW (fun x _ e=>.inr (by injection e with e;exact e.symm))) (fun _=>.inl rfl) _
  ·rcases ON with h|h
   ·exact .inl h
   ·exact .inr ⟨h.1,by rw[gm];exact h.2⟩
theorem Fp{H:Hp}{b s len:Nat}{rt:Nat→Nat}{gZ:Int}(h:fz H b s len rt gZ)(i:Int):
  ah Tryz.prog zZ [ptr b,i64 i] H fun v H'=>ay (
   (¬ (0<i∧i<len)∧v= .tuple [i64 0,.bool false].toArray∧H=H')∨
   ((0<i∧i<len)∧v= .tuple [i64 (rt i.toNat),.bool true].toArray∧fz H' b s len rt gZ∧ai (fun z=>z=b∨z=s) H H')):=by
 have hm:=ve h i
 refine be Au ⟨rfl,?_⟩
 refine v1 jD.eq_1 ?_
 refine hm.mono ?_
 rintro _ _ ⟨rfl,rfl⟩
 refine vs ?_
 refine ak.dec (fun hi=>?_) (fun hi=>?_)<;>refine vs ?_
 ·obtain⟨⟨sv,cG,PD,a1,a2,⟨d,a4⟩,a5⟩,h1,h2,h3⟩:=h
  refine bA.intro (fun m env H1=>∃ (k:Nat) (cG:List Int) (sv:Value),env=[(0,ptr b),(1,i64 k)]∧k<len∧rt k=rt i.toNat∧d k=m∧
   H1.own b=some [sv,i64 gZ,i64 PD]∧Sl H1 1 sv len (cG.map i64) (some s)∧uq cG rt d∧cG.length=len∧ai (fun z=>z=b∨z=s) H H1) (d i.toNat)
   ⟨i.toNat,cG,sv,by rw[show((i.toNat:Nat):Int)=i by omega],by omega,rfl,rfl,a1,a2,a4,a5,ai.refl _ _⟩ ?_
  rintro m env H1 ⟨k,cG,sv,rfl,k1,k2,rfl,c1,c2,c4,c5,cx⟩
  have c2':=c2
  obtain⟨e0,l,c,rfl,c3,e1,e2,e3⟩:=c2'
  obtain⟨j,j1,j2,j3,j4⟩:=ur c4 (i:=k) (by omega)
  refine v1 (ae c1) ?_
  refine⟨by omega,?_⟩
  have jl:=Gx e3 j1
  refine v4 (ae c3) ama Int.toNat_natCast jl ?_
  refine ak.dec (fun hjk=>?_) (fun hjk=>?_)<;>refine v1 (ae c1) ?_
  ·refine .inr ⟨hi,?_,⟨⟨_,cG,PD,c1,c2,⟨d,c4⟩,c5⟩,h1,h2,h3⟩,cx⟩
   have:=j4.1 (by omega)
   rw[←k2,this]
   rfl
  ·obtain⟨k',g1,g2,g3,g4⟩:=ur c4 (i:=j) j2
   have gl:=Gx e3 g1
   have aT:j≠k:=by omega
   obtain⟨f1,f2,f3,f4⟩:=c4.skip j1 g1 aT
   refine⟨by omega,?_⟩
   refine v4 (ae c3) ama Int.toNat_natCast jl ?_
   refine⟨by omega,?_⟩
   refine v4 (ae c3) ama Int.toNat_natCast gl ?_
   refine⟨by omega,?_⟩
   have pJ:k<l.length:=by omega
   refine v3 c3 ama Int.toNat_natCast ?_
   refine⟨by omega,?_⟩
   have c1':(H1.wr s (l.set k (i64 k'))).own b=some [.slice (some ⟨s,0,none⟩) len c,i64 gZ,i64 PD]:=(DM (Ne.symm h1)).trans c1
   have c3':(H1.wr s (l.set k (i64 k'))).own s=some (l.set k (i64 k')):=aj c3
   have kl:(l.set k (i64 k'))[k]? =some (i64 k'):=by rw[amd pJ]
   refine v1 (ae c1') ?_
   refine⟨by omega,?_⟩
   refine v4 (ae c3') ama Int.toNat_natCast kl ?_
   refine⟨d k',f4,k',cG.set k (k':Int),_,rfl,by omega,f3.trans k2,rfl,c1,?_,f1,by simpa using c5,cx.trans ((ai.refl _ _).wr (fun _=>.inr rfl) _)⟩
   rw[amO]
   exact c2.vX c3 k (i64 k')
 ·exact .inl ⟨hi,rfl,rfl⟩
def cT(d:Int):Prop:=2≤d∧d≤16
instance(d:Int):Decidable (cT d):=inferInstanceAs (Decidable (_∧_))
theorem qu(d:Int)(H:Hp):ah Tryz.prog Ln [i64 d] H fun v H'=>ay (v= .bool (decide (cT d))∧H=H'):=by
 refine be Lt ⟨rfl,?_⟩
 refine v1 wR.eq_1 ?_
 refine ak.dec (fun h=>?_) (fun h=>?_)<;>refine vs ?_
 ·exact⟨amt Value.bool (by rw[decide_eq_decide];unfold cT;omega),rfl⟩
 ·exact⟨amt Value.bool (amm (by unfold cT;omega)).symm,rfl⟩
def bi(d i:Int):Option Int:=if cT d∧1≤i then some ((i - 1) / d)else none
def Nh(o:Option Int):Value:=match o with|some n=>.tuple [i64 n,.bool true].toArray|none=>.tuple [i64 0,.bool false].toArray
theorem fA{d i p:Int}(h:bi d i=some p):0≤p∧p<i:=by
 unfold bi at h
 split at h
 ·rename_i hc
  injection h with h
  have h0:=hc.1.1
  have:0≤(i - 1) / d:=Int.ediv_nonneg (by omega) (by omega)
  have h1:(i - 1) / d≤i - 1:=Int.ediv_le_self _ (by omega)
  omega
 ·cases h
theorem RH{d i:Int}(hd:2≤d)(h1:1≤i)(hi:i≤9223372036854775807):IntKind.i64.wrap ((i - 1).tdiv d)=(i - 1) / d:=by
 rw[Int.tdiv_eq_ediv_of_nonneg (by omega)]
 have:0≤(i - 1) / d:=Int.ediv_nonneg (by omega) (by omega)
 have h1:(i - 1) / d≤i - 1:=Int.ediv_le_self _ (by omega)
 exact wrap64 (by omega) (by omega)
theorem DN(d i:Int)(hi:i≤9223372036854775807)(H:Hp):ah Tryz.prog Im [i64 d,i64 i] H fun v H'=>ay (v=Nh (bi d i)∧H=H'):=by
 refine be Iz ⟨rfl,?_⟩
 refine v1 rY.eq_1 ?_
 refine(qu d H).mono ?_
 rintro _ _ ⟨rfl,rfl⟩
 refine vs ?_
 refine ak.dec (fun hf=>?_) (fun hf=>?_)<;>refine vs ?_
 ·refine ak.dec (fun h1=>?_) (fun h1=>?_)<;>refine vs ?_
  ·exact⟨by rw[bi,if_neg (by omega)];rfl,rfl⟩
  ·have h0:=hf.1
   rw[if_neg (by omega),wrap64 (n:=i - 1) (by omega) (by omega),RH hf.1 (by omega) hi]
   refine vs ?_
   exact⟨by rw[bi,if_pos ⟨hf,by omega⟩];rfl,rfl⟩
 ·exact⟨by rw[bi,if_neg (fun h=>hf h.1)];rfl,rfl⟩
def uv(d i k:Int):Option Int:=if cT d∧0≤i∧i≤1099511627776∧1≤k∧k≤d then some (d*i+k)else none
theorem uw{d i k:Int}(hf:cT d)(h0:0≤i)(h1:i≤1099511627776)(hk:1≤k)(hd:k≤d):0≤d*i∧d*i≤17592186044416:=by
 obtain⟨a,b⟩:=hf
 refine⟨anr (by omega) h0,?_⟩
 have:d*i≤16*i:=anA b h0
 omega
theorem vf(d i k:Int)(H:Hp):ah Tryz.prog JZ [i64 d,i64 i,i64 k] H fun v H'=>ay (v=Nh (uv d i k)∧H=H'):=by
 refine be J5 ⟨rfl,?_⟩
 refine v1 uc.eq_1 ?_
 refine(qu d H).mono ?_
 rintro _ _ ⟨rfl,rfl⟩
 refine vs ?_
 refine ak.dec (fun hf=>?_) (fun hf=>?_)<;>refine vs ?_
 ·refine ak.dec (fun h1=>?_) (fun h1=>?_)<;>refine vs ?_
  ·exact⟨by rw[uv,if_neg (by omega)];rfl,rfl⟩
  ·refine ak.dec (fun h2=>?_) (fun h2=>?_)<;>refine vs ?_
   ·exact⟨by rw[uv,if_neg (by omega)];rfl,rfl⟩
   ·refine ak.dec (fun h3=>?_) (fun h3=>?_)<;>refine vs ?_
    ·exact⟨by rw[uv,if_neg (by omega)];rfl,rfl⟩
    ·refine ak.dec (fun h4=>?_) (fun h4=>?_)<;>refine vs ?_
     ·exact⟨by rw[uv,if_neg (by omega)];rfl,rfl⟩
     ·have hb:=uw (i:=i) hf (by omega) (by omega) (by omega:1≤k) (by omega:k≤d)
      have hd:=hf.2
      rw[wrap64 (n:=d*i) (by omega) (by omega),wrap64 (by omega) (by omega)]
      exact⟨by rw[uv,if_pos ⟨hf,by omega,by omega,by omega,by omega⟩];rfl,rfl⟩
 ·exact⟨by rw[uv,if_neg (fun h=>hf h.1)];rfl,rfl⟩
def MN(d:Int):Nat→Int→Nat
 |0,_=>0
 |m+1,i=>match bi d i with|some p=>MN d m p+1|none=>0
theorem RI(d:Int):∀ (m m':Nat) (i:Int),i.toNat≤m→i.toNat≤m'→MN d m i=MN d m' i:=by
 intro m
 induction m with
 |zero=>
  intro m' i h _
  have hn:bi d i=none:=by unfold bi;rw[if_neg (by omega)]
  cases m'<;>simp[MN,hn]
 |succ m ih=>
  intro m' i h h'
  cases hp:bi d i with
  |none=>cases m'<;>simp[MN,hp]
  |some p=>
   have hb:=fA hp
   cases m' with
   |zero=>omega
   |succ m'=>simp only[MN,hp];rw[ih m' p (by omega) (by omega)]
theorem RJ{d i p:Int}(h:bi d i=some p)(m:Nat)(hm:i.toNat≤m):MN d m i=MN d p.toNat p+1:=by
 have hb:=fA h
 obtain⟨q,hq⟩:∃q,m=q+1:=⟨m - 1,by omega⟩
 subst hq
 simp only[MN,h]
 rw[RI d q p.toNat p (by omega) (by omega)]
theorem vg{d i j:Int}(hd:2≤d)(hi:0≤i)(h1:1≤j)(h2:j≤d):(d*i+j - 1) / d=i:=by
 rw[show d*i+j - 1=(j - 1)+d*i by omega,Int.add_mul_ediv_left _ _ (by omega),Int.ediv_eq_zero_of_lt (by omega) (by omega)]
 omega
theorem TX(o:Option Int):Nh o= .tuple [i64 (o.getD 0),.bool o.isSome].toArray:=by cases o<;>rfl
end Go.Proofs.YtjlnnljohemifaaGreat

namespace Go.Vc
open Go
theorem xU{P:Program}(hm:P.follows .mixedOrders=true){f:FuncId}{an:List TW}{F:Fn}(hd:gG P f an=some F){args:List Value}{H:Hp}{K:Value→Hp→Prop}{nt:Nat}(ht:(P.funcs[f]?).map (·.ntmps)=some nt)(bm:args.length≤nt)
  (h:Go.Vc.vc P F.body (nl 0 args) H (fun env H=>xe env H F.res fun vs=>K (Ni vs) H) (fun _ _ _=>False) (fun env H=>xe env H F.res fun vs=>K (Ni vs) H)):ah P f args H K:=by
 unfold gG at hd
 split at hd
 ·cases hd
 ·rename_i fn hf
  split at hd
  ·cases hd
  ·rename_i c hb
   split at hd
   ·rename_i s hs
    split at hd
    ·rename_i zU
     cases hr:qv P fn.results.toList with
     |none=>rw[hr]at hd;cases hd
     |some rs=>
      rw[hr]at hd
      simp only[Option.map_some,ame]at hd
      subst hd
      simp only at h
      rw[hf]at ht
      simp only[Option.map_some,ame]at ht
      intro w hw
      subst hw
      refine calls_of_wp hf hb ?_
      have hh:Holds (nl 0 args) {tmps:=args.toArray++Array.replicate (fn.ntmps - args.toArray.size) undef,defers:=[]} fn.ntmps:=by
       refine⟨by simp;omega,rfl,fun k v hk=>?_⟩
       obtain⟨_,h2⟩:=Jq args 0 k v hk
       have aR:k<args.length:=by
        rcases anh k args.length with h'|h'
        ·exact h'
        ·simp[amk h']at h2
       rw[ans (by simpa using aR)]
       simpa using h2
      have Gh:∀bh a' w',bZ w w'→Holds bh a' fn.ntmps→xe bh w'.heap rs (fun vs=>K (Ni vs) w'.heap)→
        a'.defers=[]∧∃v,(results fn a'.tmps).run P w'= .ok v w'∧(∃ZW,Ending.returned v=Ending.returned ZW∧bZ w w'∧K ZW w'.heap):=by
       intro bh a' w' MO rA hk
       obtain⟨vs,hF,rK⟩:=Ck (P:=P) rA fn.results.toList rs _ hr hk
       refine⟨rA.defers,Ni vs,?_,_,rfl,MO,hF⟩
       change (do let vs ←fn.results.mapM (DO a'.tmps);pure (if h:vs.size=1 then vs[0]else .tuple vs):Sem Value).run P w'=_
       rw[Array.mapM_eq_mapM_toList]
       simp only[Sem.run_bind,Sem.run_map,rK,Result.andThen_ok,Sem.run_pure]
       congr 1
       cases vs with
       |nil=>rfl
       |cons x r=>cases r with
        |nil=>rfl
        |cons y r=>simp[Ni]
      refine Lx hm c an s [] hs _ _ w _ _ _ _ hh h ?_ ?_ ?_
      ·exact fun bh a' w' MO rA hk=>Gh bh a' w' MO rA hk
      ·exact fun _ _ _ _ _ _ hk=>hk.elim
      ·exact fun bh a' w' MO rA hk=>Gh bh a' w' MO rA hk
    ·cases hd
   ·cases hd
end Go.Vc
