/- Texts put behind each other. -/
import Derived.Test.YtjkkkibiegfecaaGreatDoorK98
import Derived.Test.YtjkkkibiegfecaaGreatDoorK12
import Derived.Test.YtjkkkibiegfecaaGreatDoorK16
import Derived.Test.YtjkkkibiegfecaaGreatDoorK17
import Derived.Test.YtjkkkibiegfecaaGreatDoorK18
import Derived.Test.YtjkkkibiegfecaaGreatDoorK19
import Derived.Test.YtjkkkibiegfecaaGreatDoorK20
set_option maxRecDepth 100000
set_option maxHeartbeats 8000000
set_option linter.unusedVariables false
set_option linter.unusedSimpArgs false
namespace Go.Vc
open Go
theorem Zs:(∀ (H:Hp) (b:Nat) (l:List Value),(H.wr b l).size=H.size)∧(∀ (H:Hp) (b:Nat) (es:List MapEntry) (k:Nat),(H.Eo b es k).size=H.size)∧(∀ (H:Hp) (T:TypeId) (l:List Value),(H.new T l).size=H.size+1)∧∀H:Hp,H.js.size=H.size+1:=⟨eR,Mq,ak,kS⟩
theorem Zv:(∀ {H:Hp} {b c:Nat} {l:List Value},b≠c→(H.wr b l).rd c=H.rd c∧(H.wr b l).own c=H.own c∧(H.wr b l).mp c=H.mp c)∧(∀ {H:Hp} {b c:Nat} {es:List MapEntry} {k:Nat},b≠c→(H.Eo b es k).rd c=H.rd c∧(H.Eo b es k).own c=H.own c∧(H.Eo b es k).mp c=H.mp c)∧
 (∀ {H:Hp} {c:Nat} {T:TypeId} {l:List Value},c<H.size→(H.new T l).rd c=H.rd c∧(H.new T l).own c=H.own c∧(H.new T l).mp c=H.mp c)∧(∀ {H:Hp} {c:Nat},c<H.size→H.js.rd c=H.rd c∧H.js.own c=H.own c∧H.js.mp c=H.mp c)∧
 (∀ {H:Hp} {c:Nat} {T:TypeId} {l:List Value},c=H.size→(H.new T l).rd c=some l∧(H.new T l).own c=some l)∧∀ {H:Hp} {c:Nat},c=H.size→H.js.mp c=some ([],0):=
 ⟨fun h=>⟨Sm h,fH h,So h⟩,fun h=>⟨QD h,Oi h,QE h⟩,fun h=>⟨QF h,bm h,QG h⟩,fun h=>⟨Oj h,Mr h,Ok h⟩,fun h=>⟨QH h,aR h⟩,fun h=>Ol h⟩
attribute [go_sem_proc] Nat.reduceBEq Nat.reduceAdd Nat.reduceMul Nat.reduceLeDiff
theorem vs{p q:Prop}(h:q)(e:p=q:=by conv=>lhs;simp(disch:=(first|omega| (simp only[Zs]<;>omega)|fail)) only[go_sem, ↓reduceIte,Zv]):p:=e.mpr h
theorem v1{p q a0:Prop}(x0:a0)(h:q)(e:a0→p=q:=by intro y0;conv=>lhs;simp(disch:=(first|omega| (simp only[Zs]<;>omega)|fail)) only[go_sem, ↓reduceIte,Zv,y0]):p:=(e x0).mpr h
theorem v2{p q a0 a1:Prop}(x0:a0)(x1:a1)(h:q)(e:a0→a1→p=q:=by intro y0 y1;conv=>lhs;simp(disch:=(first|omega| (simp only[Zs]<;>omega)|fail)) only[go_sem, ↓reduceIte,Zv,y0,y1]):p:=(e x0 x1).mpr h
theorem v3{p q a0 a1 a2:Prop}(x0:a0)(x1:a1)(x2:a2)(h:q)(e:a0→a1→a2→p=q:=by intro y0 y1 y2;conv=>lhs;simp(disch:=(first|omega| (simp only[Zs]<;>omega)|fail)) only[go_sem, ↓reduceIte,Zv,y0,y1,y2]):p:=(e x0 x1 x2).mpr h
theorem v4{p q a0 a1 a2 a3:Prop}(x0:a0)(x1:a1)(x2:a2)(x3:a3)(h:q)(e:a0→a1→a2→a3→p=q:=by intro y0 y1 y2 y3;conv=>lhs;simp(disch:=(first|omega| (simp only[Zs]<;>omega)|fail)) only[go_sem, ↓reduceIte,Zv,y0,y1,y2,y3]):p:=(e x0 x1 x2 x3).mpr h
theorem v5{p q a0 a1 a2 a3 a4:Prop}(x0:a0)(x1:a1)(x2:a2)(x3:a3)(x4:a4)(h:q)(e:a0→a1→a2→a3→a4→p=q:=by intro y0 y1 y2 y3 y4;conv=>lhs;simp(disch:=(first|omega| (simp only[Zs]<;>omega)|fail)) only[go_sem, ↓reduceIte,Zv,y0,y1,y2,y3,y4]):p:=(e x0 x1 x2 x3 x4).mpr h
theorem v6{p q a0 a1 a2 a3 a4 a5:Prop}(x0:a0)(x1:a1)(x2:a2)(x3:a3)(x4:a4)(x5:a5)(h:q)(e:a0→a1→a2→a3→a4→a5→p=q:=by intro y0 y1 y2 y3 y4 y5;conv=>lhs;simp(disch:=(first|omega| (simp only[Zs]<;>omega)|fail)) only[go_sem, ↓reduceIte,Zv,y0,y1,y2,y3,y4,y5]):p:=(e x0 x1 x2 x3 x4 x5).mpr h
theorem v7{p q a0 a1 a2 a3 a4 a5 a6:Prop}(x0:a0)(x1:a1)(x2:a2)(x3:a3)(x4:a4)(x5:a5)(x6:a6)(h:q)(e:a0→a1→a2→a3→a4→a5→a6→p=q:=by intro y0 y1 y2 y3 y4 y5 y6;conv=>lhs;simp(disch:=(first|omega| (simp only[Zs]<;>omega)|fail)) only[go_sem, ↓reduceIte,Zv,y0,y1,y2,y3,y4,y5,y6]):p:=(e x0 x1 x2 x3 x4 x5 x6).mpr h
theorem v8{p q a0 a1 a2 a3 a4 a5 a6 a7:Prop}(x0:a0)(x1:a1)(x2:a2)(x3:a3)(x4:a4)(x5:a5)(x6:a6)(x7:a7)(h:q)(e:a0→a1→a2→a3→a4→a5→a6→a7→p=q:=by intro y0 y1 y2 y3 y4 y5 y6 y7;conv=>lhs;simp(disch:=(first|omega| (simp only[Zs]<;>omega)|fail)) only[go_sem, ↓reduceIte,Zv,y0,y1,y2,y3,y4,y5,y6,y7]):p:=(e x0 x1 x2 x3 x4 x5 x6 x7).mpr h
theorem v9{p q a0 a1 a2 a3 a4 a5 a6 a7 a8:Prop}(x0:a0)(x1:a1)(x2:a2)(x3:a3)(x4:a4)(x5:a5)(x6:a6)(x7:a7)(x8:a8)(h:q)(e:a0→a1→a2→a3→a4→a5→a6→a7→a8→p=q:=by intro y0 y1 y2 y3 y4 y5 y6 y7 y8;conv=>lhs;simp(disch:=(first|omega| (simp only[Zs]<;>omega)|fail)) only[go_sem, ↓reduceIte,Zv,y0,y1,y2,y3,y4,y5,y6,y7,y8]):p:=(e x0 x1 x2 x3 x4 x5 x6 x7 x8).mpr h
theorem v10{p q a0 a1 a2 a3 a4 a5 a6 a7 a8 a9:Prop}(x0:a0)(x1:a1)(x2:a2)(x3:a3)(x4:a4)(x5:a5)(x6:a6)(x7:a7)(x8:a8)(x9:a9)(h:q)(e:a0→a1→a2→a3→a4→a5→a6→a7→a8→a9→p=q:=by intro y0 y1 y2 y3 y4 y5 y6 y7 y8 y9;conv=>lhs;simp(disch:=(first|omega| (simp only[Zs]<;>omega)|fail)) only[go_sem, ↓reduceIte,Zv,y0,y1,y2,y3,y4,y5,y6,y7,y8,y9]):p:=(e x0 x1 x2 x3 x4 x5 x6 x7 x8 x9).mpr h
theorem v11{p q a0 a1 a2 a3 a4 a5 a6 a7 a8 a9 a10:Prop}(x0:a0)(x1:a1)(x2:a2)(x3:a3)(x4:a4)(x5:a5)(x6:a6)(x7:a7)(x8:a8)(x9:a9)(x10:a10)(h:q)(e:a0→a1→a2→a3→a4→a5→a6→a7→a8→a9→a10→p=q:=by intro y0 y1 y2 y3 y4 y5 y6 y7 y8 y9 y10;conv=>lhs;simp(disch:=(first|omega| (simp only[Zs]<;>omega)|fail)) only[go_sem, ↓reduceIte,Zv,y0,y1,y2,y3,y4,y5,y6,y7,y8,y9,y10]):p:=(e x0 x1 x2 x3 x4 x5 x6 x7 x8 x9 x10).mpr h
theorem v12{p q a0 a1 a2 a3 a4 a5 a6 a7 a8 a9 a10 a11:Prop}(x0:a0)(x1:a1)(x2:a2)(x3:a3)(x4:a4)(x5:a5)(x6:a6)(x7:a7)(x8:a8)(x9:a9)(x10:a10)(x11:a11)(h:q)(e:a0→a1→a2→a3→a4→a5→a6→a7→a8→a9→a10→a11→p=q:=by intro y0 y1 y2 y3 y4 y5 y6 y7 y8 y9 y10 y11;conv=>lhs;simp(disch:=(first|omega| (simp only[Zs]<;>omega)|fail)) only[go_sem, ↓reduceIte,Zv,y0,y1,y2,y3,y4,y5,y6,y7,y8,y9,y10,y11]):p:=(e x0 x1 x2 x3 x4 x5 x6 x7 x8 x9 x10 x11).mpr h
end Go.Vc
namespace Go.Proofs.YtjkkkibiegfecaaGreatDoor
open Go Go.Vc
abbrev i64(n:Int):Value:=.int .i64 n
abbrev ptr(b:Nat):Value:=.pointer (some ⟨b,0,none⟩)
abbrev u64(n:Int):Value:=.int .u64 n
abbrev tE(k s:Int):Value:=.agg [i64 k,u64 s].toArray
abbrev aW(l:List UInt8):Value:=.string ⟨l.toArray⟩
theorem QI(a b:List UInt8):(⟨a.toArray⟩:ByteArray)++⟨b.toArray⟩=⟨(a++b).toArray⟩:=by
 rfl
theorem gU(a b:List UInt8)(h:a.length+b.length≤1000000):(if((a.toArray.size+b.toArray.size:Nat):Int)>IntKind.i64.max then none else some (Value.string ((⟨a.toArray⟩:ByteArray)++⟨b.toArray⟩)))=some (aW (a++b)):=by
 have e1:IntKind.i64.max=9223372036854775807:=rfl
 rw[if_neg (by grind),QI]
theorem rj(a b:List UInt8):((⟨a.toArray⟩:ByteArray).toList== (⟨b.toArray⟩:ByteArray).toList)=decide (a=b):=by
 rw[←beq_toListBytes]
 show(a.toArray==b.toArray)=_
 grind
theorem Ms(l:List UInt8):(⟨l.toArray⟩:ByteArray).size=l.length:=by rfl
theorem UY(a:List UInt8):((⟨a.toArray⟩:ByteArray).toList== (⟨#[]⟩:ByteArray).toList)=decide (a=[]):=rj a []
structure mq(cE:List Int)(rt d:Nat→Nat):Prop where
 pos:0<cE.length
 low:∀i,i<cE.length→rt i<cE.length
 Mt:∀i,i<cE.length→rt (rt i)=rt i
 step:∀i,i<cE.length→∃j:Nat,cE[i]? =some (j:Int)∧j<cE.length∧rt j=rt i∧(j=i↔rt i=i)∧(j≠i→d j<d i)
 zero:rt 0=0
 nz:∀i,i<cE.length→rt i=0→i=0
structure et(H:Hp)(b s:Nat)(len:Nat)(rt:Nat→Nat)(fy:Int):Prop where
 rep:∃sv cE PI,H.own b=some [sv,i64 fy,i64 PI]∧Sl H 1 sv len (cE.map i64) (some s)∧(∃d,mq cE rt d)∧cE.length=len
 ne:b≠s
 le:(len:Int) - 1≤fy
 fy:0≤fy∧fy≤65536
theorem et.ext{H H':Hp}{b s len:Nat}{rt:Nat→Nat}{fy:Int}{S:Nat→Prop}(h:et H b s len rt fy)(e:ah S H H')(h1:¬S b)(h2:¬S s):et H' b s len rt fy:=by
 obtain⟨⟨sv,cE,PI,a1,a2,a3,a4⟩,h3,h4,h5⟩:=h
 exact⟨⟨sv,cE,PI,e.own a1 h1,a2.ext e (by grind),a3,a4⟩,h3,h4,h5⟩
theorem GA(fy:Int)(H:Hp):ag Tryz.prog Mi [i64 fy] H fun v H'=>ap (
  ai H H'∧((¬ (0≤fy∧fy≤65536)∧v= .tuple [.pointer none,i64 31].toArray)∨
   (0≤fy∧fy≤65536)∧∃b s,v= .tuple [ptr b,i64 0].toArray∧et H' b s 1 id fy∧H.size≤b∧H.size≤s∧b<H'.size∧s<H'.size)):=by
 refine aU Mo ?_
 refine vs ?_
 refine ar.dec (fun h=>?_) (fun h=>?_)<;>refine vs ?_
 ·exact⟨ah.refl _ _,.inl ⟨by omega,rfl⟩⟩
 ·refine ar.dec (fun h2=>?_) (fun h2=>?_)<;>refine vs ?_
  ·exact⟨ah.refl _ _,.inl ⟨by omega,rfl⟩⟩
  ·refine⟨((ah.refl _ _).new _ _).new _ _,.inr ⟨by omega,_,_,rfl,⟨⟨_,[0],0,by rw[←ak H 3 [Value.int .i64 0]];exact aA _ _ _,
    (Sl.lit H 3 1 1 [i64 0] rfl).ext ((ah.refl (fun _=>False) _).new _ _) (fun _ _ h=>h),?_,rfl⟩,?_,by omega,by omega⟩,?_,?_,?_,?_⟩⟩
   ·exact⟨fun _=>0,by simp,fun i hi=>hi,fun i hi=>rfl,by grind,rfl,fun i hi h=>h⟩
   all_goals(try simp only[ak]);omega
theorem sM{cE:List Int}{rt d:Nat→Nat}(h:mq cE rt d){i:Nat}(hi:i<cE.length):∃j:Nat,cE[i]? =some (j:Int)∧j<cE.length∧rt j=rt i∧(j=i↔rt i=i):=by
 cases h;grind
theorem EK{H:Hp}{b s len:Nat}{rt:Nat→Nat}{fy:Int}(h:et H b s len rt fy):ag Tryz.prog zj [ptr b] H fun v H'=>ap (v=i64 ((len:Int) - 1)∧H=H'):=by
 obtain⟨⟨sv,cE,PI,a1,⟨a2,l,c,rfl,a3⟩,a4,a5⟩,h1,h2,h3⟩:=h
 refine aU zL ?_
 refine v1 (ae a1) ?_
 rw[wrap64 (by omega) (by omega)]
 exact⟨rfl,rfl⟩
theorem tF{H:Hp}{b s len:Nat}{rt:Nat→Nat}{fy:Int}(h:et H b s len rt fy)(i:Int):ag Tryz.prog zg [ptr b,i64 i] H fun v H'=>ap (v= .bool (decide (0<i∧i<len))∧H=H'):=by
 obtain⟨⟨sv,cE,PI,a1,⟨a2,l,c,rfl,a3⟩,a4,a5⟩,h1,h2,h3⟩:=h
 refine aU zI ?_
 refine vs ?_
 refine ar.dec (fun h=>?_) (fun h=>?_)<;>refine v1 (ae a1) ?_
 ·refine⟨aoo Value.bool ?_,rfl⟩
  rw[decide_eq_decide];omega
 ·exact⟨by grind [Kf],rfl⟩
theorem GB{cE:List Int}{l:List Value}{n:Nat}(h:l.take (n*1)=cE.map i64){i j:Nat}(hj:cE[i]? =some (j:Int)):l[i]? =some (i64 j):=by
 have h1:(cE.map i64)[i]? =some (i64 j):=by simp[hj]
 grind
theorem ou{H:Hp}{b s len:Nat}{rt:Nat→Nat}{fy:Int}(h:et H b s len rt fy)(i:Int):
  ag Tryz.prog A8 [ptr b,i64 i] H fun v H'=>ap (v= .bool (decide (0<i∧i<len∧rt i.toNat=i.toNat))∧H=H'):=by
 have hm:=tF h i
 obtain⟨⟨sv,cE,PI,a1,⟨a2,l,c,rfl,a3,b1,b2,b3⟩,⟨d,a4⟩,a5⟩,h1,h2,h3⟩:=h
 refine aU Bz ?_
 refine vs ?_
 refine hm.mono ?_
 rintro _ _ ⟨rfl,rfl⟩
 refine vs ?_
 refine ar.dec (fun h=>?_) (fun h=>?_)<;>refine v1 (ae a1) ?_
 ·obtain⟨j,e1,e2,e3,e4⟩:=sM a4 (i:=i.toNat) (by omega)
  refine⟨by omega,?_⟩
  refine v3 (ae a3) aok (GB b3 e1) ?_
  refine⟨aoo Value.bool ?_,rfl⟩
  grind
 ·exact⟨by grind [Kf],rfl⟩
theorem mq.make{cE:List Int}{rt d:Nat→Nat}(h:mq cE rt d):mq (cE++[(cE.length:Int)]) (fun i=>if i=cE.length then i else rt i) d:=by
 have hd:=h.step
 have hp:=h.pos
 refine⟨by simp,fun i hi=>?_,fun i hi=>?_,fun i hi=>?_,?_,fun i hi hz=>?_⟩
 ·cases h;grind
 ·cases h;grind
 ·simp only[aos,aop,aoH]at hi
  by_cases e:i=cE.length
  ·subst e
   grind
  ·obtain⟨j,h1,h2,h3,h4,h5⟩:=hd i (by omega)
   grind
 ·cases h;grind
 cases h;grind
theorem mq.join{cE:List Int}{rt d:Nat→Nat}(h:mq cE rt d){a b:Nat}(ha:a<cE.length)(hb:b<cE.length)(ra:rt a=a)(rb:rt b=b)(eJ:a≠b)(h0:b≠0)(Wh:a≠0):
  mq (cE.set b (a:Int)) (fun i=>if rt i=b then a else rt i) (fun i=>if rt i=b then d i+d a+1 else d i):=by
 have hd:=h.step
 refine⟨by grind,fun i hi=>?_,fun i hi=>?_,fun i hi=>?_,?_,fun i hi hz=>?_⟩
 ·cases h;grind
 ·cases h;grind
 ·simp only[aom]at hi
  obtain⟨j,h1,h2,h3,h4,h5⟩:=hd i hi
  by_cases e:i=b
  ·grind
  ·refine⟨j,by grind,by grind,?_,?_,?_⟩
   ·grind
   ·grind
   grind
 ·cases h;grind
 cases h;grind
theorem mq.skip{cE:List Int}{rt d:Nat→Nat}(h:mq cE rt d){i j k:Nat}(hi:cE[i]? =some (j:Int))(hj:cE[j]? =some (k:Int))(bN:j≠i):
  mq (cE.set i (k:Int)) rt d∧k<cE.length∧rt k=rt i∧d k<d i:=by
 have hd:=h.step
 have xY:i<cE.length:=(aoj.1 hi).1
 have Zq:j<cE.length:=(aoj.1 hj).1
 obtain⟨j',e1,e2,e3,e4,e5⟩:=hd i xY
 rw[hi]at e1
 have ej:j'=j:=by injection e1 with e1;omega
 subst ej
 obtain⟨k',f1,f2,f3,f4,f5⟩:=hd j' Zq
 rw[hj]at f1
 have ek:k'=k:=by injection f1 with f1;omega
 subst ek
 have hdk:d k'≤d j':=by
  by_cases e:k'=j'
  ·rw[e];omega
  ·exact Nat.le_of_lt (f5 e)
 have hdj:=e5 bN
 have hki:k'≠i:=fun e=>by rw[e]at hdk;omega
 refine⟨⟨by simpa using h.pos,fun x hx=>by simp only[aom]at hx ⊢;exact h.low x hx,fun x hx=>h.Mt x (by simpa using hx),fun x hx=>?_,h.zero,fun x hx=>h.nz x (by simpa using hx)⟩,f2,f3.trans e3,by omega⟩
 simp only[aom]at hx
 by_cases e:x=i
 ·subst e
  refine⟨k',by simp[hx],by simpa using f2,f3.trans e3,?_,fun _=>by omega⟩
  constructor
  ·intro hh;exact absurd hh hki
  ·intro hh;exact absurd (e4.2 hh) bN
 ·obtain⟨y,y1,y2,y3,y4,y5⟩:=hd x hx
  exact⟨y,by rw[aor (Ne.symm e)];exact y1,by simpa using y2,y3,y4,y5⟩
theorem D8(l:List Int):fK (l.map i64):=by
 intro v hv
 obtain⟨x,_,rfl⟩:=apj.1 hv
 rfl
theorem EL{H:Hp}{b s len:Nat}{rt:Nat→Nat}{fy:Int}(h:et H b s len rt fy):
  ag Tryz.prog zh [ptr b] H fun v H'=>ap (
   ((len:Int) - 1=fy∧v= .tuple [i64 0,.bool false].toArray∧H=H')∨
   ((len:Int) - 1≠fy∧v= .tuple [i64 len,.bool true].toArray∧∃s',et H' b s' (len+1) (fun i=>if i=len then i else rt i) fy∧ah (fun x=>x=b∨x=s) H H'∧(s'=s∨(H.size≤s'∧s'<H'.size)))):=by
 have hl:=EK h
 obtain⟨⟨sv,cE,PI,a1,a2,⟨d,a4⟩,a5⟩,h1,h2,h3⟩:=h
 have Xd:=a2
 obtain⟨_,l,c,rfl,a3,b1,b2,b3⟩:=Xd
 have hb:=aE a1
 refine aU zJ ?_
 refine vs ?_
 refine⟨i64 ((len:Int) - 1),hl.mono fun _ _ h=>⟨h.out.1,h.out.2.symm⟩,?_⟩
 refine v1 (ae a1) ?_
 refine ar.dec (fun h=>?_) (fun h=>?_)<;>refine v1 (ae a1) ?_
 ·exact .inl ⟨h,rfl,rfl⟩
 ·have hn:(H.new 3 [i64 len]).own b=some [.slice (some ⟨s,0,none⟩) len c,i64 fy,i64 PI]:=by rw[bm hb];exact a1
  refine Sl.append (a2.ext ((ah.refl (fun _=>False) H).new _ _) (fun _ _ h=>h)) (Sl.lit H 3 1 1 [i64 len] rfl).rd rfl (D8 [(len:Int)]) (by omega) ?_
  intro v' H2 di hs tV jg
  have Pt:=tV.own hn (by grind)
  have QJ:=tV.size
  rw[ak]at QJ
  obtain⟨s',rfl⟩:∃s',di=some s':=by
   grind
  have PJ:s'=s∨(H.size≤s'∧s'<H2.size):=by
   rcases jg with h| ⟨x,h,h5,h6⟩
   ·grind
   ·grind [ak]
  have hbs:b≠s':=by
   rcases PJ with h|h
   ·omega
   ·omega
  have Es:=hs
  obtain⟨_,l',c',rfl,_⟩:=Es
  simp(disch:=(first|omega| (simp only[Zs]<;>omega)|fail)) only[go_sem, ↓reduceIte,Zv,Pt,af Pt,sN Pt]
  refine .inr ⟨h,rfl,s',⟨⟨_,cE++[(len:Int)],_,af Pt,by rw[ape];exact hs.ext ((ah.refl (fun x=>x=b) H2).wr (fun _=>rfl) _) (by grind),⟨d,?_⟩,by simp[a5]⟩,hbs,?_,h3⟩,?_,?_⟩
  ·have:=a4.make
   grind
  ·omega
  ·refine ah.wr (ah.oz ((ah.refl (fun x=>x=b∨x=s) H).new _ _) tV (by grind)) (fun _=>.inl rfl) _
  grind [eR]
theorem EM{H:Hp}{b s len:Nat}{rt:Nat→Nat}{fy:Int}(h:et H b s len rt fy)(x y:Int):
  ag Tryz.prog zi [ptr b,i64 x,i64 y] H fun v H'=>ap (
   let ok:=(0<x∧x<len∧rt x.toNat=x.toNat)∧(0<y∧y<len∧rt y.toNat=y.toNat)∧x≠y
   (¬ok∧v= .bool false∧H=H')∨
   (ok∧v= .bool true∧et H' b s len (fun i=>if rt i=y.toNat then x.toNat else rt i) fy∧ah (fun z=>z=b∨z=s) H H')):=by
 have hx:=ou h x
 have hy:=ou h y
 obtain⟨⟨sv,cE,PI,a1,a2,⟨d,a4⟩,a5⟩,h1,h2,h3⟩:=h
 obtain⟨e0,l,c,rfl,a3,b1,b2,b3⟩:=a2
 refine aU zK ?_
 refine vs ?_
 refine hx.mono ?_
 rintro _ _ ⟨rfl,rfl⟩
 refine vs ?_
 refine ar.dec (fun hx=>?_) (fun hx=>?_)<;>refine vs ?_
 ·refine hy.mono ?_
  rintro _ _ ⟨rfl,rfl⟩
  refine vs ?_
  refine ar.dec (fun hy=>?_) (fun hy=>?_)<;>refine vs ?_
  ·refine ar.dec (fun QK=>?_) (fun QK=>?_)<;>refine vs ?_
   ·exact .inl ⟨by omega,rfl,rfl⟩
   ·have hs:Sl H 1 (.slice (some ⟨s,0,none⟩) len c) len (cE.map i64) (some s):=⟨e0,l,c,rfl,a3,b1,b2,b3⟩
    refine v1 (ae a1) ?_
    refine⟨by omega,?_⟩
    have bu:l.length=l.length:=rfl
    have rl:len*1≤l.length:=by omega
    refine v2 a3 aok ?_
    refine⟨by omega,?_⟩
    have yt:(H.wr s (l.set y.toNat (i64 x))).own b=some [.slice (some ⟨s,0,none⟩) len c,i64 fy,i64 PI]:=(fH (Ne.symm h1)).trans a1
    refine v2 yt (ae yt) ?_
    have hj:=a4.join (a:=x.toNat) (b:=y.toNat) (by omega) (by omega) hx.2.2 hy.2.2 (by omega) (by omega) (by omega)
    rw[show((x.toNat:Nat):Int)=x by omega]at hj
    refine .inr ⟨⟨hx,hy,QK⟩,rfl,⟨⟨_,cE.set y.toNat x,_,af yt,?_,⟨_,hj⟩,by grind⟩,h1,h2,h3⟩,?_⟩
    ·rw[aoN]
     exact(hs.sf a3 y.toNat (i64 x)).ext ((ah.refl (fun z=>z=b) _).wr (fun _=>rfl) _) (by grind)
    ·exact((ah.refl _ _).wr (fun _=>.inr rfl) _).wr (fun _=>.inl rfl) _
  ·exact .inl ⟨fun hc=>hy hc.2.1,rfl,rfl⟩
 ·exact .inl ⟨fun hc=>hx hc.1,rfl,rfl⟩
theorem EN{H:Hp}{b s len:Nat}{rt:Nat→Nat}{fy:Int}(h:et H b s len rt fy)(i:Int):
  ag Tryz.prog zf [ptr b,i64 i] H fun v H'=>ap (
   (¬ (0<i∧i<len)∧v= .tuple [i64 0,.bool false].toArray∧H=H')∨
   ((0<i∧i<len)∧v= .tuple [i64 (rt i.toNat),.bool true].toArray∧et H' b s len rt fy∧ah (fun z=>z=b∨z=s) H H')):=by
 have hm:=tF h i
 refine aU zF ?_
 refine vs ?_
 refine hm.mono ?_
 rintro _ _ ⟨rfl,rfl⟩
 refine vs ?_
 refine ar.dec (fun hi=>?_) (fun hi=>?_)<;>refine vs ?_
 ·obtain⟨⟨sv,cE,PI,a1,a2,⟨d,a4⟩,a5⟩,h1,h2,h3⟩:=h
  refine bX.intro (fun m env H1=>∃ (k:Nat) (cE:List Int) (sv:Value),env=[(0,ptr b),(1,i64 k)]∧k<len∧rt k=rt i.toNat∧d k=m∧
   H1.own b=some [sv,i64 fy,i64 PI]∧Sl H1 1 sv len (cE.map i64) (some s)∧mq cE rt d∧cE.length=len∧ah (fun z=>z=b∨z=s) H H1) (d i.toNat)
   ⟨i.toNat,cE,sv,by grind,by omega,rfl,rfl,a1,a2,a4,a5,ah.refl _ _⟩ ?_
  rintro m env H1 ⟨k,cE,sv,rfl,k1,k2,rfl,c1,c2,c4,c5,cx⟩
  have c2':=c2
  obtain⟨e0,l,c,rfl,c3,e1,e2,e3⟩:=c2'
  obtain⟨j,j1,j2,j3,j4⟩:=sM c4 (i:=k) (by omega)
  refine v1 (ae c1) ?_
  refine⟨by omega,?_⟩
  have jl:=GB e3 j1
  refine v4 (ae c3) aok Int.toNat_natCast jl ?_
  refine ar.dec (fun hjk=>?_) (fun hjk=>?_)<;>refine v1 (ae c1) ?_
  ·refine .inr ⟨hi,?_,⟨by grind,h1,h2,h3⟩,cx⟩
   have:=j4.1 (by omega)
   rw[←k2,this]
   rfl
  ·obtain⟨k',g1,g2,g3,g4⟩:=sM c4 (i:=j) j2
   have gl:=GB e3 g1
   have bN:j≠k:=by omega
   obtain⟨f1,f2,f3,f4⟩:=c4.skip j1 g1 bN
   refine⟨by omega,?_⟩
   refine v4 (ae c3) aok Int.toNat_natCast jl ?_
   refine⟨by omega,?_⟩
   refine v4 (ae c3) aok Int.toNat_natCast gl ?_
   refine⟨by omega,?_⟩
   have rl:k<l.length:=by omega
   refine v3 c3 aok Int.toNat_natCast ?_
   refine⟨by omega,?_⟩
   have c1':(H1.wr s (l.set k (i64 k'))).own b=some [.slice (some ⟨s,0,none⟩) len c,i64 fy,i64 PI]:=(fH (Ne.symm h1)).trans c1
   have c3':(H1.wr s (l.set k (i64 k'))).own s=some (l.set k (i64 k')):=af c3
   have kl:(l.set k (i64 k'))[k]? =some (i64 k'):=by grind
   refine v1 (ae c1') ?_
   refine⟨by omega,?_⟩
   refine v4 (ae c3') aok Int.toNat_natCast kl ?_
   refine⟨d k',f4,k',cE.set k (k':Int),_,rfl,by omega,f3.trans k2,rfl,c1,?_,f1,by grind,cx.trans ((ah.refl _ _).wr (fun _=>.inr rfl) _)⟩
   rw[aoN]
   exact c2.sf c3 k (i64 k')
 ·exact .inl ⟨hi,rfl,rfl⟩
def cW(d:Int):Prop:=2≤d∧d≤16
instance(d:Int):Decidable (cW d):=inferInstanceAs (Decidable (_∧_))
theorem oA(d:Int)(H:Hp):ag Tryz.prog Mj [i64 d] H fun v H'=>ap (v= .bool (decide (cW d))∧H=H'):=by
 refine aU Mp ?_
 refine vs ?_
 refine ar.dec (fun h=>?_) (fun h=>?_)<;>refine vs ?_
 ·exact⟨aoo Value.bool (by rw[decide_eq_decide];unfold cW;omega),rfl⟩
 ·exact⟨aoo Value.bool (aow (by unfold cW;omega)).symm,rfl⟩
def bz(d i:Int):Option Int:=if cW d∧1≤i then some ((i - 1) / d)else none
def Om(o:Option Int):Value:=match o with|some n=>.tuple [i64 n,.bool true].toArray|none=>.tuple [i64 0,.bool false].toArray
theorem fj{d i p:Int}(h:bz d i=some p):0≤p∧p<i:=by
 unfold bz at h
 split at h
 ·rename_i hc
  injection h with h
  have h0:=hc.1.1
  have:0≤(i - 1) / d:=Int.ediv_nonneg (by omega) (by omega)
  have h1:(i - 1) / d≤i - 1:=Int.ediv_le_self _ (by omega)
  omega
 grind
theorem Sp{d i:Int}(hd:2≤d)(h1:1≤i)(hi:i≤9223372036854775807):IntKind.i64.wrap ((i - 1).tdiv d)=(i - 1) / d:=by
 rw[Int.tdiv_eq_ediv_of_nonneg (by omega)]
 have:0≤(i - 1) / d:=Int.ediv_nonneg (by omega) (by omega)
 have h1:(i - 1) / d≤i - 1:=Int.ediv_le_self _ (by omega)
 grind [wrap64]
theorem Dh(d i:Int)(hi:i≤9223372036854775807)(H:Hp):ag Tryz.prog It [i64 d,i64 i] H fun v H'=>ap (v=Om (bz d i)∧H=H'):=by
 refine aU IH ?_
 refine vs ?_
 refine(oA d H).mono ?_
 rintro _ _ ⟨rfl,rfl⟩
 refine vs ?_
 refine ar.dec (fun hf=>?_) (fun hf=>?_)<;>refine vs ?_
 ·refine ar.dec (fun h1=>?_) (fun h1=>?_)<;>refine vs ?_
  ·exact⟨by rw[bz,if_neg (by omega)];rfl,rfl⟩
  ·have h0:=hf.1
   rw[if_neg (by omega),wrap64 (n:=i - 1) (by omega) (by omega),Sp hf.1 (by omega) hi]
   refine vs ?_
   exact⟨by rw[bz,if_pos ⟨hf,by omega⟩];rfl,rfl⟩
 ·exact⟨by rw[bz,if_neg (fun h=>hf h.1)];rfl,rfl⟩
def sO(d i k:Int):Option Int:=if cW d∧0≤i∧i≤1099511627776∧1≤k∧k≤d then some (d*i+k)else none
theorem BM{d i k:Int}(hf:cW d)(h0:0≤i)(h1:i≤1099511627776)(hk:1≤k)(hd:k≤d):0≤d*i∧d*i≤17592186044416:=by
 obtain⟨a,b⟩:=hf
 refine⟨apo (by omega) h0,?_⟩
 have:d*i≤16*i:=apm b h0
 omega
theorem tG(d i k:Int)(H:Hp):ag Tryz.prog Kt [i64 d,i64 i,i64 k] H fun v H'=>ap (v=Om (sO d i k)∧H=H'):=by
 refine aU KD ?_
 refine vs ?_
 refine(oA d H).mono ?_
 rintro _ _ ⟨rfl,rfl⟩
 refine vs ?_
 refine ar.dec (fun hf=>?_) (fun hf=>?_)<;>refine vs ?_
 ·refine ar.dec (fun h1=>?_) (fun h1=>?_)<;>refine vs ?_
  ·exact⟨by rw[sO,if_neg (by omega)];rfl,rfl⟩
  ·refine ar.dec (fun h2=>?_) (fun h2=>?_)<;>refine vs ?_
   ·exact⟨by rw[sO,if_neg (by omega)];rfl,rfl⟩
   ·refine ar.dec (fun h3=>?_) (fun h3=>?_)<;>refine vs ?_
    ·exact⟨by rw[sO,if_neg (by omega)];rfl,rfl⟩
    ·refine ar.dec (fun h4=>?_) (fun h4=>?_)<;>refine vs ?_
     ·exact⟨by rw[sO,if_neg (by omega)];rfl,rfl⟩
     ·have hb:=BM (i:=i) hf (by omega) (by omega) (by omega:1≤k) (by omega:k≤d)
      have hd:=hf.2
      rw[wrap64 (n:=d*i) (by omega) (by omega),wrap64 (by omega) (by omega)]
      exact⟨by rw[sO,if_pos (by grind)];rfl,rfl⟩
 ·exact⟨by rw[sO,if_neg (fun h=>hf h.1)];rfl,rfl⟩
def Mu(d:Int):Nat→Int→Nat
 |0,_=>0
 |m+1,i=>match bz d i with|some p=>Mu d m p+1|none=>0
theorem Sq(d:Int):∀ (m m':Nat) (i:Int),i.toNat≤m→i.toNat≤m'→Mu d m i=Mu d m' i:=by
 intro m
 induction m with
 |zero=>
  intro m' i h _
  have hn:bz d i=none:=by unfold bz;grind
  cases m'<;>simp[Mu,hn]
 |succ m ih=>
  intro m' i h h'
  cases hp:bz d i with
  |none=>cases m'<;>simp[Mu,hp]
  |some p=>
   have hb:=fj hp
   cases m' with
   |zero=>omega
   |succ m'=>simp only[Mu,hp];grind
theorem Ss{d i p:Int}(h:bz d i=some p)(m:Nat)(hm:i.toNat≤m):Mu d m i=Mu d p.toNat p+1:=by
 have hb:=fj h
 obtain⟨q,hq⟩:∃q,m=q+1:=⟨m - 1,by omega⟩
 grind [Mu,Sq]
theorem tH{d i j:Int}(hd:2≤d)(hi:0≤i)(h1:1≤j)(h2:j≤d):(d*i+j - 1) / d=i:=by
 rw[show d*i+j - 1=(j - 1)+d*i by omega,Int.add_mul_ediv_left _ _ (by omega),Int.ediv_eq_zero_of_lt (by omega) (by omega)]
 omega
theorem UZ(o:Option Int):Om o= .tuple [i64 (o.getD 0),.bool o.isSome].toArray:=by cases o<;>rfl
end Go.Proofs.YtjkkkibiegfecaaGreatDoor

namespace Go.Vc
open Go
theorem wM{P:Program}(hm:P.follows .mixedOrders=true){f:FuncId}{an:List wI}{F:Fn}(hd:ep P f an=some F){args:List Value}{H:Hp}{K:Value→Hp→Prop}{nt:Nat}(ht:(P.funcs[f]?).map (·.ntmps)=some nt)(bu:args.length≤nt)
  (h:Go.Vc.vc P F.body (jq 0 args) H (fun env H=>se env H F.Zp fun vs=>K (Kf vs) H) (fun _ _ _=>False) (fun env H=>se env H F.Zp fun vs=>K (Kf vs) H)):ag P f args H K:=by
 unfold ep at hd
 split at hd
 ·cases hd
 ·rename_i fn hf
  split at hd
  ·cases hd
  ·rename_i c hb
   split at hd
   ·rename_i s hs
    split at hd
    ·rename_i AB
     cases hr:nT P fn.results.toList with
     |none=>rw[hr]at hd;cases hd
     |some rs=>
      rw[hr]at hd
      simp only[Option.map_some,aoq]at hd
      subst hd
      simp only at h
      rw[hf]at ht
      simp only[Option.map_some,aoq]at ht
      intro w hw
      subst hw
      refine calls_of_wp hf hb ?_
      have hh:Holds (jq 0 args) {tmps:=args.toArray++Array.replicate (fn.ntmps - args.toArray.size) undef,defers:=[]} fn.ntmps:=by
       refine⟨by grind,rfl,fun k v hk=>?_⟩
       obtain⟨_,h2⟩:=Jw args 0 k v hk
       have bf:k<args.length:=by
        rcases ao3 k args.length with h'|h'
        ·exact h'
        ·grind
       rw[apr (by omega)]
       simpa using h2
      have AT:∀bv a' w',cz w w'→Holds bv a' fn.ntmps→se bv w'.heap rs (fun vs=>K (Kf vs) w'.heap)→
        a'.defers=[]∧∃v,(results fn a'.tmps).run P w'= .ok v w'∧(∃v_1,Ending.returned v=Ending.returned v_1∧cz w w'∧K v_1 w'.heap):=by
       intro bv a' w' Nz sd hk
       obtain⟨vs,hF,Kg⟩:=AS (P:=P) sd fn.results.toList rs _ hr hk
       refine⟨sd.defers,Kf vs,?_,_,rfl,Nz,hF⟩
       change (do let vs ←fn.results.mapM (CR a'.tmps);pure (if h:vs.size=1 then vs[0]else .tuple vs):Sem Value).run P w'=_
       rw[Array.mapM_eq_mapM_toList]
       simp only[Sem.run_bind,Sem.run_map,Kg,Result.andThen_ok,Sem.run_pure]
       congr 1
       cases vs with
       |nil=>rfl
       |cons x r=>cases r with
        |nil=>rfl
        |cons y r=>rfl
      refine L9 hm c an s [] hs _ _ w _ _ _ _ hh h ?_ ?_ ?_
      ·exact fun bv a' w' Nz sd hk=>AT bv a' w' Nz sd hk
      ·grind
      ·exact fun bv a' w' Nz sd hk=>AT bv a' w' Nz sd hk
    ·cases hd
   ·cases hd
end Go.Vc

namespace Go.Proofs.YtjkkkibiegfecaaGreatDoor
open Go Go.Vc
end Go.Proofs.YtjkkkibiegfecaaGreatDoor
