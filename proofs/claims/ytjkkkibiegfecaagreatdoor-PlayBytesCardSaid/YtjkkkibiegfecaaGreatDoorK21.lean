/- Texts put behind each other. -/
import Derived.Test.YtjkkkibiegfecaaGreatDoorK16
import Derived.Test.YtjkkkibiegfecaaGreatDoorK17
import Derived.Test.YtjkkkibiegfecaaGreatDoorK18
import Derived.Test.YtjkkkibiegfecaaGreatDoorK19
import Derived.Test.YtjkkkibiegfecaaGreatDoorK20
set_option linter.unusedSimpArgs false
set_option linter.unusedVariables false
set_option maxRecDepth 100000
set_option maxHeartbeats 8000000
namespace Go.Vc
open Go
section
variable{p q a0 a1 a2 a3 a4 x z w l a n:Prop}
theorem cf{H:Hp}{b:Nat}{x:List Value}(o:H.own b=some x):∀l,(H.wr b l).own b=some l/\(H.wr b l).rd b=some l:=fun _=>⟨ah o,ae (ah o)⟩
theorem Zs:(∀ (H:Hp) (b:Nat) (l:List Value),(H.wr b l).size=H.size)/\(∀ (H:Hp) (b:Nat) (es:List MapEntry) (k:Nat),(H.A9 b es k).size=H.size)/\(∀ (H:Hp) (T:TypeId) (l:List Value),(H.new T l).size=H.size+1)/\∀H:Hp,H.iG.size=H.size+1:=⟨bH,IU,ag,jw⟩
theorem aV(h:p:=by first|omega| (simp only[Zs]<;>omega)):p:=h
theorem Zv:(∀ {H:Hp} {b c:Nat} {l:List Value},b≠c->(H.wr b l).rd c=H.rd c/\(H.wr b l).own c=H.own c/\(H.wr b l).mp c=H.mp c)/\(∀ {H:Hp} {b c:Nat} {es:List MapEntry} {k:Nat},b≠c->(H.A9 b es k).rd c=H.rd c/\(H.A9 b es k).own c=H.own c/\(H.A9 b es k).mp c=H.mp c)/\
 (∀ {H:Hp} {c:Nat} {T:TypeId} {l:List Value},c<H.size->(H.new T l).rd c=H.rd c/\(H.new T l).own c=H.own c/\(H.new T l).mp c=H.mp c)/\(∀ {H:Hp} {c:Nat},c<H.size->H.iG.rd c=H.rd c/\H.iG.own c=H.own c/\H.iG.mp c=H.mp c)/\
 (∀ {H:Hp} {c:Nat} {T:TypeId} {l:List Value},c=H.size->(H.new T l).rd c=some l/\(H.new T l).own c=some l)/\∀ {H:Hp} {c:Nat},c=H.size->H.iG.mp c=some ([],0):=
 ⟨fun h=>⟨NZ h,aG h,N0 h⟩,fun h=>⟨Mv h,Ku h,Mw h⟩,fun h=>⟨Mx h,ay h,My h⟩,fun h=>⟨Kv h,IV h,Kw h⟩,fun h=>⟨Mz h,az h⟩,fun h=>Ky h⟩
attribute [go_sem_proc] Nat.reduceBEq Nat.reduceAdd Nat.reduceMul Nat.reduceLeDiff
theorem vs(h:q)(e:p=q:=by conv=>lhs;simp(disch:=(first|omega| (simp only[Zs]<;>omega)|fail)) only[go_sem, ↓reduceIte,Zv]):p:=e.mpr h
theorem v1(x:a0)(h:q)(e:a0->p=q:=by intro z;conv=>lhs;simp(disch:=(first|omega| (simp only[Zs]<;>omega)|fail)) only[go_sem, ↓reduceIte,Zv,z]):p:=(e x).mpr h
theorem v2(x:a0)(x1:a1)(h:q)(e:a0->a1->p=q:=by intro z w;conv=>lhs;simp(disch:=(first|omega| (simp only[Zs]<;>omega)|fail)) only[go_sem, ↓reduceIte,Zv,z,w]):p:=(e x x1).mpr h
theorem v3(x:a0)(x1:a1)(x2:a2)(h:q)(e:a0->a1->a2->p=q:=by intro z w l;conv=>lhs;simp(disch:=(first|omega| (simp only[Zs]<;>omega)|fail)) only[go_sem, ↓reduceIte,Zv,z,w,l]):p:=(e x x1 x2).mpr h
theorem v4(x:a0)(x1:a1)(x2:a2)(x3:a3)(h:q)(e:a0->a1->a2->a3->p=q:=by intro z w l a;conv=>lhs;simp(disch:=(first|omega| (simp only[Zs]<;>omega)|fail)) only[go_sem, ↓reduceIte,Zv,z,w,l,a]):p:=(e x x1 x2 x3).mpr h
theorem v5(x:a0)(x1:a1)(x2:a2)(x3:a3)(x4:a4)(h:q)(e:a0->a1->a2->a3->a4->p=q:=by intro z w l a n;conv=>lhs;simp(disch:=(first|omega| (simp only[Zs]<;>omega)|fail)) only[go_sem, ↓reduceIte,Zv,z,w,l,a,n]):p:=(e x x1 x2 x3 x4).mpr h
theorem v6(z:a0)(x1:a1)(x2:a2)(x3:a3)(x4:a4)(w:x)(h:q)(e:a0->a1->a2->a3->a4->x->p=q:=by intro l a n m c v;conv=>lhs;simp(disch:=(first|omega| (simp only[Zs]<;>omega)|fail)) only[go_sem, ↓reduceIte,Zv,l,a,n,m,c,v]):p:=(e z x1 x2 x3 x4 w).mpr h
theorem v7(w:a0)(x1:a1)(x2:a2)(x3:a3)(x4:a4)(l:x)(a:z)(h:q)(e:a0->a1->a2->a3->a4->x->z->p=q:=by intro n m c v g y t;conv=>lhs;simp(disch:=(first|omega| (simp only[Zs]<;>omega)|fail)) only[go_sem, ↓reduceIte,Zv,n,m,c,v,g,y,t]):p:=(e w x1 x2 x3 x4 l a).mpr h
theorem v8(l:a0)(x1:a1)(x2:a2)(x3:a3)(x4:a4)(a:x)(n:z)(m:w)(h:q)(e:a0->a1->a2->a3->a4->x->z->w->p=q:=by intro c v g y t r j d;conv=>lhs;simp(disch:=(first|omega| (simp only[Zs]<;>omega)|fail)) only[go_sem, ↓reduceIte,Zv,c,v,g,y,t,r,j,d]):p:=(e l x1 x2 x3 x4 a n m).mpr h
theorem v9(a:a0)(x1:a1)(x2:a2)(x3:a3)(x4:a4)(n:x)(m:z)(c:w)(v:l)(h:q)(e:a0->a1->a2->a3->a4->x->z->w->l->p=q:=by intro g y t r j d o f u;conv=>lhs;simp(disch:=(first|omega| (simp only[Zs]<;>omega)|fail)) only[go_sem, ↓reduceIte,Zv,g,y,t,r,j,d,o,f,u]):p:=(e a x1 x2 x3 x4 n m c v).mpr h
theorem YP(n:a0)(x1:a1)(x2:a2)(x3:a3)(x4:a4)(m:x)(c:z)(v:w)(g:l)(y:a)(h:q)(e:a0->a1->a2->a3->a4->x->z->w->l->a->p=q:=by intro t r j d o f u H B P;conv=>lhs;simp(disch:=(first|omega| (simp only[Zs]<;>omega)|fail)) only[go_sem, ↓reduceIte,Zv,t,r,j,d,o,f,u,H,B,P]):p:=(e n x1 x2 x3 x4 m c v g y).mpr h
theorem v11(m:a0)(x1:a1)(x2:a2)(x3:a3)(x4:a4)(v:z)(g:w)(y:l)(t:a)(r:n)(c:x)(h:q)(e:a0->a1->a2->a3->a4->z->w->l->a->n->x->p=q:=by intro j d f u H B P L A C o;conv=>lhs;simp(disch:=(first|omega| (simp only[Zs]<;>omega)|fail)) only[go_sem, ↓reduceIte,Zv,j,d,f,u,H,B,P,L,A,C,o]):p:=(e m x1 x2 x3 x4 v g y t r c).mpr h
theorem v12{m:Prop}(c:a0)(x1:a1)(x2:a2)(x3:a3)(x4:a4)(y:w)(t:l)(r:a)(j:n)(d:m)(v:x)(g:z)(h:q)(e:a0->a1->a2->a3->a4->w->l->a->n->m->x->z->p=q:=by intro o f B P L A C K T F u H;conv=>lhs;simp(disch:=(first|omega| (simp only[Zs]<;>omega)|fail)) only[go_sem, ↓reduceIte,Zv,o,f,B,P,L,A,C,K,T,F,u,H]):p:=(e c x1 x2 x3 x4 y t r j d v g).mpr h
end
end Go.Vc
namespace Go.Proofs.YtjkkkibiegfecaaGreatDoor
open Go Go.Vc
section
variable{b s len j:Nat}{H:Hp}{d i p:Int}{x:List Int}
abbrev i64(n:Int):Value:=.int .i64 n
abbrev ptr(b:Nat):Value:=.pointer (some ⟨b,0,none⟩)
abbrev u64(n:Int):Value:=.int .u64 n
abbrev mE(k s:Int):Value:=.agg [i64 k,u64 s].toArray
abbrev aL(l:List UInt8):Value:=.string ⟨l.toArray⟩
theorem F7(a b:List UInt8):(⟨a.toArray⟩:ByteArray)++⟨b.toArray⟩=⟨(a++b).toArray⟩:=by
 rfl
theorem bK(a b:List UInt8)(h:a.length+b.length<=1000000):(if((a.toArray.size+b.toArray.size:Nat):Int)>IntKind.i64.max then none else some (Value.string ((⟨a.toArray⟩:ByteArray)++⟨b.toArray⟩)))=some (aL (a++b)):=by
 have x:IntKind.i64.max=9223372036854775807:=rfl;rw[if_neg Z,F7]
theorem LI(a b:List UInt8)(h:a.length+b.length<=1000000000000):(if((a.toArray.size+b.toArray.size:Nat):Int)>IntKind.i64.max then none else some (Value.string ((⟨a.toArray⟩:ByteArray)++⟨b.toArray⟩)))=some (aL (a++b)):=by
 have x:IntKind.i64.max=9223372036854775807:=rfl;rw[if_neg Z,F7]
theorem iK(a b:List UInt8):((⟨a.toArray⟩:ByteArray).toList== (⟨b.toArray⟩:ByteArray).toList)=decide (a=b):=by
 rw[<-beq_toListBytes];show(a.toArray==b.toArray)=_;grind
theorem C2(l:List UInt8):(⟨l.toArray⟩:ByteArray).size=l.length:=by rfl
theorem pE(l:List UInt8)(i:Nat):(⟨l.toArray⟩:ByteArray)[i]? =l[i]? :=by
 by_cases h:i<l.length
 ·rw[ajL h,getElem?_pos _ i (by rw[C2];exact h)];rfl
 grind [C2]
theorem Hb(a:List UInt8):((⟨a.toArray⟩:ByteArray).toList== (⟨#[]⟩:ByteArray).toList)=decide (a=[]):=iK a []
theorem pF(l:List UInt8)(a b:Nat):(⟨l.toArray⟩:ByteArray).extract a b=⟨((l.take b).drop a).toArray⟩:=by
 apply ByteArray.ext;rw[ByteArray.data_extract];grind
structure kr(lC:List Int)(rt d:Nat->Nat):Prop where
 pos:0<lC.length
 low:∀i,i<lC.length->rt i<lC.length
 Kz:∀i,i<lC.length->rt (rt i)=rt i
 step:∀i,i<lC.length->∃j:Nat,lC[i]? =some (j:Int)/\j<lC.length/\rt j=rt i/\(j=i↔rt i=i)/\(j≠i->d j<d i)
 zero:rt 0=0
 nz:∀i,i<lC.length->rt i=0->i=0
structure en(H:Hp)(b s:Nat)(len:Nat)(rt:Nat->Nat)(most:Int):Prop where
 rep:∃sv lC cnt,H.own b=some [sv,i64 most,i64 cnt]/\Sl H 1 sv len (lC.map i64) (some s)/\(∃d,kr lC rt d)/\lC.length=len
 ne:b≠s
 le:(len:Int) - 1<=most
 most:0<=most/\most<=65536
theorem en.ext{J:Hp}{rt:Nat->Nat}{most:Int}{S:Nat->Prop}(h:en H b s len rt most)(e:aj S H J)(z:¬S b)(c:¬S s):en J b s len rt most:=by
 obtain⟨⟨m,n,x,a1,a2,a3,a4⟩,w,l,a⟩:=h;exact⟨⟨m,n,x,e.own a1 z,a2.ext e Z,a3,a4⟩,w,l,a⟩
theorem C3(most:Int)(H:Hp):aF 159 [i64 most] H fun v J=>ak (
  af H J/\((¬ (0<=most/\most<=65536)/\v= .tuple [.pointer none,i64 31].toArray)\/
   (0<=most/\most<=65536)/\∃b s,v= .tuple [ptr b,i64 0].toArray/\en J b s 1 id most/\H.size<=b/\H.size<=s/\b<J.size/\s<J.size)):=by
 refine aT IQ ?_;refine vs ?_;refine ai.dec (fun h=>?_) (fun h=>?_)<;>refine vs ?_
 ·exact⟨aj.refl _ _,.inl ⟨O,rfl⟩⟩
 ·refine ai.dec (fun x=>?_) (fun x=>?_)<;>refine vs ?_
  ·exact⟨aj.refl _ _,.inl ⟨O,rfl⟩⟩
  ·refine⟨bD.new _ _,.inr ⟨O,_,_,rfl,⟨⟨_,[0],0,by rw[<-ag H 3 [Value.int .i64 0]];exact am _ _ _,
    (Sl.lit H 3 1 1 [i64 0] rfl).ext ((aj.refl (fun _=>False) _).new _ _) (fun _ _ h=>h),?_,rfl⟩,?_,O,O⟩,?_,?_,?_,?_⟩⟩
   ·exact⟨fun _=>0,by simp,fun i hi=>hi,fun i hi=>rfl,Z,rfl,fun i hi h=>h⟩
   all_goals(try simp only[ag]);omega
theorem pG{rt d:Nat->Nat}(h:kr x rt d){i:Nat}(hi:i<x.length):∃j:Nat,x[i]? =some (j:Int)/\j<x.length/\rt j=rt i/\(j=i↔rt i=i):=by
 cases h;grind
theorem Bn{rt:Nat->Nat}{most:Int}(h:en H b s len rt most):aF 255 [ptr b] H fun v J=>ak (v=i64 ((len:Int) - 1)/\H=J):=by
 obtain⟨⟨e,m,z,a1,⟨a2,l,c,rfl,a3⟩,a4,x⟩,w,a,n⟩:=h;refine aT wx ?_;refine v1 (ae a1) ?_;rw[wrap64 O O];exact⟨rfl,rfl⟩
theorem qv{rt:Nat->Nat}{most:Int}(h:en H b s len rt most)(i:Int):aF 247 [ptr b,i64 i] H fun v J=>ak (v= .bool (decide (0<i/\i<len))/\H=J):=by
 obtain⟨⟨e,m,z,a1,⟨a2,l,c,rfl,a3⟩,a4,x⟩,w,a,n⟩:=h;refine aT wq ?_;refine vs ?_;refine ai.dec (fun h=>?_) (fun h=>?_)<;>refine v1 (ae a1) ?_
 ·refine⟨ajP Value.bool ?_,rfl⟩;rw[decide_eq_decide];omega
 ·exact⟨by grind [Cd],rfl⟩
theorem C4{l:List Value}{n:Nat}(h:l.take (n*1)=x.map i64){i:Nat}(z:x[i]? =some (j:Int)):l[i]? =some (i64 j):=by
 have w:(x.map i64)[i]? =some (i64 j):=by simp[z]
 grind
theorem lM{rt:Nat->Nat}{most:Int}(h:en H b s len rt most)(i:Int):
  aF 234 [ptr b,i64 i] H fun v J=>ak (v= .bool (decide (0<i/\i<len/\rt i.toNat=i.toNat))/\H=J):=by
 have hm:=qv h i;obtain⟨⟨o,q,m,a1,⟨a2,l,c,rfl,a3,a,n,x⟩,⟨d,a4⟩,w⟩,t,r,p⟩:=h;refine aT xP ?_;refine vs ?_;refine hm.mono ?_;rintro _ _ ⟨rfl,rfl⟩;refine vs ?_;refine ai.dec (fun h=>?_) (fun h=>?_)<;>refine v1 (ae a1) ?_
 ·obtain⟨j,z,e,g,y⟩:=pG a4 (i:=i.toNat) O;refine⟨O,?_⟩;refine v3 (ae a3) ajM (C4 x z) ?_;refine⟨ajP Value.bool ?_,rfl⟩;grind
 ·exact⟨by grind [Cd],rfl⟩
theorem kr.make{rt d:Nat->Nat}(h:kr x rt d):kr (x++[(x.length:Int)]) (fun i=>if i=x.length then i else rt i) d:=by
 have z:=h.step;have c:=h.pos;refine⟨by simp,fun i hi=>?_,fun i hi=>?_,fun i hi=>?_,?_,fun i hi v=>?_⟩
 ·cases h;grind
 ·cases h;grind
 ·simp only[ajW,ajX,akB]at hi;by_cases e:i=x.length
  ·subst e;grind
  ·obtain⟨j,w,l,a,n,m⟩:=z i O;grind
 ·cases h;grind
 cases h;grind
theorem kr.join{rt d:Nat->Nat}(h:kr x rt d){a:Nat}(g:a<x.length)(r:b<x.length)(q:rt a=a)(o:rt b=b)(t:a≠b)(w:b≠0)(y:a≠0):
  kr (x.set b (a:Int)) (fun i=>if rt i=b then a else rt i) (fun i=>if rt i=b then d i+d a+1 else d i):=by
 have z:=h.step;refine⟨Z,fun i hi=>?_,fun i hi=>?_,fun i hi=>?_,?_,fun i hi p=>?_⟩
 ·cases h;grind
 ·cases h;grind
 ·simp only[ajN]at hi;obtain⟨j,l,n,m,c,v⟩:=z i hi;by_cases e:i=b
  ·grind
  ·refine⟨j,Z,Z,?_,?_,?_⟩
   ·grind
   ·grind
   grind
 ·cases h;grind
 cases h;grind
theorem kr.skip{lC:List Int}{rt d:Nat->Nat}(h:kr lC rt d){i k:Nat}(hi:lC[i]? =some (j:Int))(t:lC[j]? =some (k:Int))(r:j≠i):
  kr (lC.set i (k:Int)) rt d/\k<lC.length/\rt k=rt i/\d k<d i:=by
 have n:=h.step;have B:i<lC.length:=(ajK.1 hi).1;have P:j<lC.length:=(ajK.1 t).1;obtain⟨j',l,N,c,p,q⟩:=n i B;rw[hi]at l;have o:j'=j:=by injection l with l;omega
 subst o;obtain⟨w,a,v,g,Q,u⟩:=n j' P;rw[t]at a;have f:w=k:=by injection a with a;omega
 subst f;have H:d w<=d j':=by
  by_cases e:w=j'
  ·rw[e];omega
  ·exact Nat.le_of_lt (u e)
 have U:=q r;have L:w≠i:=fun e=>by rw[e]at H;omega
 refine⟨⟨by simpa using h.pos,fun x z=>by simp only[ajN]at z ⊢;exact h.low x z,fun x z=>h.Kz x (by simpa using z),fun x z=>?_,h.zero,fun x z=>h.nz x (by simpa using z)⟩,v,g.trans c,O⟩;simp only[ajN]at z;by_cases e:x=i
 ·subst e;refine⟨w,by simp[z],by simpa using v,g.trans c,?_,fun _=>O⟩;constructor
  ·intro m;exact absurd m L
  ·intro m;exact absurd (p.2 m) r
 ·obtain⟨y,A,C,K,T,F⟩:=n x z;exact⟨y,by rw[ajT (Ne.symm e)];exact A,by simpa using C,K,T,F⟩
theorem AR(l:List Int):dR (l.map i64):=by
 intro v h;obtain⟨x,_,rfl⟩:=akx.1 h;rfl
theorem Bo{rt:Nat->Nat}{most:Int}(h:en H b s len rt most):
  aF 248 [ptr b] H fun v J=>ak (
   ((len:Int) - 1=most/\v= .tuple [i64 0,.bool false].toArray/\H=J)\/
   ((len:Int) - 1≠most/\v= .tuple [i64 len,.bool true].toArray/\∃s',en J b s' (len+1) (fun i=>if i=len then i else rt i) most/\aj (fun x=>x=b\/x=s) H J/\(s'=s\/(H.size<=s'/\s'<J.size)))):=by
 have q:=Bn h;obtain⟨⟨Q,P,g,a1,a2,⟨d,a4⟩,e⟩,K,T,t⟩:=h;have m:=a2;obtain⟨_,l,c,rfl,a3,L,A,C⟩:=m;have r:=aC a1;refine aT wu ?_;refine vs ?_;refine⟨i64 ((len:Int) - 1),q.mono fun _ _ h=>⟨h.out.1,h.out.2.symm⟩,?_⟩;refine v1 (ae a1) ?_;refine ai.dec (fun h=>?_) (fun h=>?_)<;>refine v1 (ae a1) ?_
 ·exact .inl ⟨h,rfl,rfl⟩
 ·have o:(H.new 3 [i64 len]).own b=some [.slice (some ⟨s,0,none⟩) len c,i64 most,i64 g]:=by rw[ay r];exact a1
  refine Sl.append (a2.ext ((aj.refl (fun _=>False) H).new _ _) (fun _ _ h=>h)) (Sl.lit H 3 1 1 [i64 len] rfl).rd rfl (AR [(len:Int)]) O ?_;intro U a y n z p;have w:=z.own o Z;have B:=z.size;rw[ag]at B;obtain⟨s',rfl⟩:∃s',y=some s':=by
   grind
  have u:s'=s\/(H.size<=s'/\s'<a.size):=by
   rcases p with h| ⟨x,h,F,N⟩
   ·grind
   ·grind [ag]
  have j:b≠s':=by
   rcases u with h|h
   ·omega
   ·omega
  have f:=n;obtain⟨_,l',c',rfl,_⟩:=f;refine v2 w (cf w) ?_;refine .inr ⟨h,rfl,s',⟨⟨_,P++[(len:Int)],_,ah w,by rw[akn];exact n.ext ((aj.refl (fun x=>x=b) a).wr (fun _=>rfl) _) Z,⟨d,?_⟩,by simp[e]⟩,j,?_,t⟩,?_,?_⟩
  ·have:=a4.make;grind
  ·omega
  ·refine aj.wr (aj.lN ((aj.refl (fun x=>x=b\/x=s) H).new _ _) z Z) (fun _=>.inl rfl) _
  grind [bH]
theorem Bp{rt:Nat->Nat}{most:Int}(h:en H b s len rt most)(x y:Int):
  aF 249 [ptr b,i64 x,i64 y] H fun v J=>ak (
   let ok:=(0<x/\x<len/\rt x.toNat=x.toNat)/\(0<y/\y<len/\rt y.toNat=y.toNat)/\x≠y
   (¬ok/\v= .bool false/\H=J)\/
   (ok/\v= .bool true/\en J b s len (fun i=>if rt i=y.toNat then x.toNat else rt i) most/\aj (fun z=>z=b\/z=s) H J)):=by
 have w:=lM h x;have n:=lM h y;obtain⟨⟨T,j,f,a1,a2,⟨d,a4⟩,A⟩,g,B,P⟩:=h;obtain⟨u,l,c,rfl,a3,p,q,o⟩:=a2;refine aT ww ?_;refine vs ?_;refine w.mono ?_;rintro _ _ ⟨rfl,rfl⟩;refine vs ?_;refine ai.dec (fun w=>?_) (fun w=>?_)<;>refine vs ?_
 ·refine n.mono ?_;rintro _ _ ⟨rfl,rfl⟩;refine vs ?_;refine ai.dec (fun n=>?_) (fun n=>?_)<;>refine vs ?_
  ·refine ai.dec (fun r=>?_) (fun r=>?_)<;>refine vs ?_
   ·exact .inl ⟨O,rfl,rfl⟩
   ·have L:Sl H 1 (.slice (some ⟨s,0,none⟩) len c) len (j.map i64) (some s):=⟨u,l,c,rfl,a3,p,q,o⟩;refine v1 (ae a1) ?_;refine⟨O,?_⟩;have C:l.length=l.length:=rfl;have K:len*1<=l.length:=O;refine v2 a3 ajM ?_;refine⟨O,?_⟩;have m:(H.wr s (l.set y.toNat (i64 x))).own b=some [.slice (some ⟨s,0,none⟩) len c,i64 most,i64 f]:=(aG (Ne.symm g)).trans a1;refine v2 m (ae m) ?_;have t:=a4.join (a:=x.toNat) (b:=y.toNat) O O w.2.2 n.2.2 O O O;rw[show((x.toNat:Nat):Int)=x by omega]at t;refine .inr ⟨⟨w,n,r⟩,rfl,⟨⟨_,j.set y.toNat x,_,ah m,?_,⟨_,t⟩,Z⟩,g,B,P⟩,?_⟩
    ·rw[akd];exact(L.nQ a3 y.toNat (i64 x)).ext ((aj.refl (fun z=>z=b) _).wr (fun _=>rfl) _) Z
    ·exact((aj.refl _ _).wr (fun _=>.inr rfl) _).wr (fun _=>.inl rfl) _
  ·exact .inl ⟨fun e=>n e.2.1,rfl,rfl⟩
 ·exact .inl ⟨fun e=>w e.1,rfl,rfl⟩
theorem Bq{rt:Nat->Nat}{most:Int}(h:en H b s len rt most)(i:Int):
  aF 235 [ptr b,i64 i] H fun v J=>ak (
   (¬ (0<i/\i<len)/\v= .tuple [i64 0,.bool false].toArray/\H=J)\/
   ((0<i/\i<len)/\v= .tuple [i64 (rt i.toNat),.bool true].toArray/\en J b s len rt most/\aj (fun z=>z=b\/z=s) H J)):=by
 have hm:=qv h i;refine aT wj ?_;refine vs ?_;refine hm.mono ?_;rintro _ _ ⟨rfl,rfl⟩;refine vs ?_;refine ai.dec (fun hi=>?_) (fun hi=>?_)<;>refine vs ?_
 ·obtain⟨⟨n,w,y,a1,a2,⟨d,a4⟩,B⟩,q,N,Q⟩:=h;refine bj.intro (fun m env a=>∃ (k:Nat) (w:List Int) (n:Value),env=[(0,ptr b),(1,i64 k)]/\k<len/\rt k=rt i.toNat/\d k=m/\
   a.own b=some [n,i64 most,i64 y]/\Sl a 1 n len (w.map i64) (some s)/\kr w rt d/\w.length=len/\aj (fun z=>z=b\/z=s) H a) (d i.toNat)
   ⟨i.toNat,w,n,Z,O,rfl,rfl,a1,a2,a4,B,aj.refl _ _⟩ ?_
  rintro m env a ⟨k,w,n,rfl,k1,u,rfl,e,g,c4,c5,t⟩;have L:=g;obtain⟨D,l,c,rfl,c3,M,E,r⟩:=L;obtain⟨j,o,I,j3,V⟩:=pG c4 (i:=k) O;refine v1 (ae e) ?_;refine⟨O,?_⟩;have f:=C4 r o;refine v4 (ae c3) ajM Int.toNat_natCast f ?_;refine ai.dec (fun U=>?_) (fun U=>?_)<;>refine v1 (ae e) ?_
  ·refine .inr ⟨hi,?_,⟨Z,q,N,Q⟩,t⟩;have:=V.1 O;rw[<-u,this];rfl
  ·obtain⟨x,p,g2,g3,g4⟩:=pG c4 (i:=j) I;have F:=C4 r p;have W:j≠k:=O;obtain⟨C,X,K,T⟩:=c4.skip o p W;refine⟨O,?_⟩;refine v4 (ae c3) ajM Int.toNat_natCast f ?_;refine⟨O,?_⟩;refine v4 (ae c3) ajM Int.toNat_natCast F ?_;refine⟨O,?_⟩;have ze:k<l.length:=O;refine v3 c3 ajM Int.toNat_natCast ?_;refine⟨O,?_⟩;have P:(a.wr s (l.set k (i64 x))).own b=some [.slice (some ⟨s,0,none⟩) len c,i64 most,i64 y]:=(aG (Ne.symm q)).trans e;have A:(a.wr s (l.set k (i64 x))).own s=some (l.set k (i64 x)):=ah c3;have G:(l.set k (i64 x))[k]? =some (i64 x):=Z;refine v1 (ae P) ?_;refine⟨O,?_⟩;refine v4 (ae A) ajM Int.toNat_natCast G ?_;refine⟨d x,T,x,w.set k (x:Int),_,rfl,O,K.trans u,rfl,e,?_,C,Z,t.trans ((aj.refl _ _).wr (fun _=>.inr rfl) _)⟩;rw[akd];exact g.nQ c3 k (i64 x)
 ·exact .inl ⟨hi,rfl,rfl⟩
def cX(d:Int):Prop:=2<=d/\d<=16
instance wM(d:Int):Decidable (cX d):=inferInstanceAs (Decidable (_/\_))
theorem lO(d:Int)(H:Hp):aF 160 [i64 d] H fun v J=>ak (v= .bool (decide (cX d))/\H=J):=by
 refine aT IR ?_;refine vs ?_;refine ai.dec (fun h=>?_) (fun h=>?_)<;>refine vs ?_
 ·exact⟨ajP Value.bool (by rw[decide_eq_decide];unfold cX;omega),rfl⟩
 ·exact⟨ajP Value.bool (ajO (by unfold cX;omega)).symm,rfl⟩
def bv(d i:Int):Option Int:=if cX d/\1<=i then some ((i - 1) / d)else none
def KA(o:Option Int):Value:=match o with|some n=>.tuple [i64 n,.bool true].toArray|none=>.tuple [i64 0,.bool false].toArray
theorem eZ(h:bv d i=some p):0<=p/\p<i:=by
 unfold bv at h;split at h
 ·rename_i x;injection h with h;have z:=x.1.1;have:0<=(i - 1) / d:=Int.ediv_nonneg O O;have w:(i - 1) / d<=i - 1:=Int.ediv_le_self _ O;omega
 grind
theorem N9(h:2<=d)(x:1<=i)(hi:i<=9223372036854775807):IntKind.i64.wrap ((i - 1).tdiv d)=(i - 1) / d:=by
 rw[ak0 O];have:0<=(i - 1) / d:=Int.ediv_nonneg O O;have x:(i - 1) / d<=i - 1:=Int.ediv_le_self _ O;grind [wrap64]
theorem zK(d i:Int)(hi:i<=9223372036854775807)(H:Hp):aF 252 [i64 d,i64 i] H fun v J=>ak (v=KA (bv d i)/\H=J):=by
 refine aT E1 ?_;refine vs ?_;refine(lO d H).mono ?_;rintro _ _ ⟨rfl,rfl⟩;refine vs ?_;refine ai.dec (fun x=>?_) (fun x=>?_)<;>refine vs ?_
 ·refine ai.dec (fun z=>?_) (fun z=>?_)<;>refine vs ?_
  ·exact⟨by rw[bv,if_neg O];rfl,rfl⟩
  ·have w:=x.1;rw[if_neg O,wrap64 (n:=i - 1) O O,N9 x.1 O hi];refine vs ?_;exact⟨by rw[bv,if_pos ⟨x,O⟩];rfl,rfl⟩
 ·exact⟨by rw[bv,if_neg (fun h=>x h.1)];rfl,rfl⟩
def pH(d i k:Int):Option Int:=if cX d/\0<=i/\i<=1099511627776/\1<=k/\k<=d then some (d*i+k)else none
theorem x9{k:Int}(h:cX d)(x:0<=i)(z:i<=1099511627776)(l:1<=k)(w:k<=d):0<=d*i/\d*i<=17592186044416:=by
 obtain⟨a,b⟩:=h;refine⟨akU O x,?_⟩;have:d*i<=16*i:=akP b x;omega
theorem qw(d i k:Int)(H:Hp):aF 259 [i64 d,i64 i,i64 k] H fun v J=>ak (v=KA (pH d i k)/\H=J):=by
 refine aT G6 ?_;refine vs ?_;refine(lO d H).mono ?_;rintro _ _ ⟨rfl,rfl⟩;refine vs ?_;refine ai.dec (fun x=>?_) (fun x=>?_)<;>refine vs ?_
 ·refine ai.dec (fun z=>?_) (fun z=>?_)<;>refine vs ?_
  ·exact⟨by rw[pH,if_neg O];rfl,rfl⟩
  ·refine ai.dec (fun w=>?_) (fun w=>?_)<;>refine vs ?_
   ·exact⟨by rw[pH,if_neg O];rfl,rfl⟩
   ·refine ai.dec (fun l=>?_) (fun l=>?_)<;>refine vs ?_
    ·exact⟨by rw[pH,if_neg O];rfl,rfl⟩
    ·refine ai.dec (fun a=>?_) (fun a=>?_)<;>refine vs ?_
     ·exact⟨by rw[pH,if_neg O];rfl,rfl⟩
     ·have m:=x9 (i:=i) x O O (by omega:1<=k) (by omega:k<=d);have c:=x.2;rw[wrap64 (n:=d*i) O O,wrap64 O O];exact⟨by rw[pH,if_pos Z];rfl,rfl⟩
 ·exact⟨by rw[pH,if_neg (fun h=>x h.1)];rfl,rfl⟩
def IW(d:Int):Nat->Int->Nat
 |0,_=>0
 |m+1,i=>match bv d i with|some p=>IW d m p+1|none=>0
theorem Oa(d:Int):∀ (m x:Nat) (i:Int),i.toNat<=m->i.toNat<=x->IW d m i=IW d x i:=by
 intro m;induction m with
 |zero=>
  intro x i h _;have w:bv d i=none:=by unfold bv;grind
  cases x<;>simp[IW,w]
 |succ m n=>
  intro x i h l;cases z:bv d i with
  |none=>cases x<;>simp[IW,z]
  |some p=>
   have a:=eZ z;cases x with
   |zero=>omega
   |succ x=>simp only[IW,z];grind
theorem Ob(h:bv d i=some p)(m:Nat)(hm:i.toNat<=m):IW d m i=IW d p.toNat p+1:=by
 have x:=eZ h;obtain⟨q,z⟩:∃q,m=q+1:=⟨m - 1,O⟩;grind [IW,Oa]
theorem qx{j:Int}(z:2<=d)(hi:0<=i)(x:1<=j)(h:j<=d):(d*i+j - 1) / d=i:=by
 rw[show d*i+j - 1=(j - 1)+d*i by omega,Int.add_mul_ediv_left _ _ O,Int.ediv_eq_zero_of_lt O O];omega
theorem Qu(o:Option Int):KA o= .tuple [i64 (o.getD 0),.bool o.isSome].toArray:=by cases o<;>rfl
end
end Go.Proofs.YtjkkkibiegfecaaGreatDoor
namespace Go.Vc
open Go
theorem tE{P:Program}(hm:P.follows .mixedOrders=true){f:FuncId}{an:List qs}{F:Fn}(z:cU P f an=some F){args:List Value}{H:Hp}{K:Value->Hp->Prop}{nt:Nat}(p:(P.funcs[f]?).map (·.ntmps)=some nt)(Q:args.length<=nt)
  (h:Go.Vc.vc P F.body (iD 0 args) H (fun env H=>pe env H F.UV fun vs=>K (Cd vs) H) (fun _ _ _=>False) (fun env H=>pe env H F.UV fun vs=>K (Cd vs) H)):ee P f args H K:=by
 unfold cU at z;split at z
 ·cases z
 ·rename_i fn j;split at z
  ·cases z
  ·rename_i c B;split at z
   ·rename_i s C;split at z
    ·rename_i N;cases g:lF P fn.results.toList with
     |none=>rw[g]at z;cases z
     |some rs=>
      rw[g]at z;simp only[Option.map_some,ajS]at z;subst z;simp only at h;rw[j]at p;simp only[Option.map_some,ajS]at p;intro w T;subst T;refine calls_of_wp j B ?_;have L:Holds (iD 0 args) {tmps:=args.toArray++Array.replicate (fn.ntmps - args.toArray.size) undef,defers:=[]} fn.ntmps:=by
       refine⟨Z,rfl,fun k v n=>?_⟩;obtain⟨_,o⟩:=FX args 0 k v n;have U:k<args.length:=by
        rcases aky k args.length with t|t
        ·exact t
        ·grind
       rw[Array.getElem?_append_left O];simpa using o
      have d:∀a l w',cv w w'->Holds a l fn.ntmps->pe a w'.heap rs (fun vs=>K (Cd vs) w'.heap)->
        l.defers=[]/\∃v,(results fn l.tmps).run P w'= .ok v w'/\(∃q,Ending.returned v=Ending.returned q/\cv w w'/\K q w'.heap):=by
       intro a l w' e m n;obtain⟨vs,u,A⟩:=xB (P:=P) m fn.results.toList rs _ g n;refine⟨m.defers,Cd vs,?_,_,rfl,e,u⟩;change (do let vs <-fn.results.mapM (zo l.tmps);pure (if h:vs.size=1 then vs[0]else .tuple vs):Sem Value).run P w'=_;rw[Array.mapM_eq_mapM_toList];simp only[Sem.run_bind,Sem.run_map,A,Result.andThen_ok,Sem.run_pure];congr 1;cases vs with
       |nil=>rfl
       |cons x r=>cases r with
        |nil=>rfl
        |cons y r=>rfl
      refine Ir hm c an s [] C _ _ w _ _ _ _ L h ?_ ?_ ?_
      ·exact fun a l w' e m n=>d a l w' e m n
      ·grind
      ·exact fun a l w' e m n=>d a l w' e m n
    ·cases z
   ·cases z
end Go.Vc
namespace Go.Proofs.YtjkkkibiegfecaaGreatDoor
open Go Go.Vc
end Go.Proofs.YtjkkkibiegfecaaGreatDoor
