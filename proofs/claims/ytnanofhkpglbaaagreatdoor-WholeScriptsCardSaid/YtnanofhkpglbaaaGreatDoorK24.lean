/- Texts put behind each other. -/
import Derived.Test.YtnanofhkpglbaaaGreatDoorK16
import Derived.Test.YtnanofhkpglbaaaGreatDoorK17
import Derived.Test.YtnanofhkpglbaaaGreatDoorK18
import Derived.Test.YtnanofhkpglbaaaGreatDoorK19
import Derived.Test.YtnanofhkpglbaaaGreatDoorK20
import Derived.Test.YtnanofhkpglbaaaGreatDoorK21
import Derived.Test.YtnanofhkpglbaaaGreatDoorK22
set_option linter.unusedSimpArgs false
set_option linter.unusedVariables false
set_option maxRecDepth 100000
set_option maxHeartbeats 80000000
namespace Go.Vc
open Go
section
variable{p q a0 a1 a2 a3 a4 x z w l a n:Prop}
theorem ci{H:Hp}{b:Nat}{x:List Value}(o:H.own b=some x):∀l,(H.wr b l).own b=some l/\(H.wr b l).rd b=some l:=fun _=>⟨ah o,ae (ah o)⟩
theorem Zs:(∀ (H:Hp) (b:Nat) (l:List Value),(H.wr b l).size=H.size)/\(∀ (H:Hp) (b:Nat) (es:List MapEntry) (k:Nat),(H.AO b es k).size=H.size)/\(∀ (H:Hp) (T:TypeId) (l:List Value),(H.new T l).size=H.size+1)/\∀H:Hp,H.gD.size=H.size+1:=⟨bE,Jo,ag,jt⟩
theorem aV(h:p:=by first|omega| (simp only[Zs]<;>omega)):p:=h
theorem Zv:(∀ {H:Hp} {b c:Nat} {l:List Value},b≠c->(H.wr b l).rd c=H.rd c/\(H.wr b l).own c=H.own c/\(H.wr b l).mp c=H.mp c)/\(∀ {H:Hp} {b c:Nat} {es:List MapEntry} {k:Nat},b≠c->(H.AO b es k).rd c=H.rd c/\(H.AO b es k).own c=H.own c/\(H.AO b es k).mp c=H.mp c)/\
 (∀ {H:Hp} {c:Nat} {T:TypeId} {l:List Value},c<H.size->(H.new T l).rd c=H.rd c/\(H.new T l).own c=H.own c/\(H.new T l).mp c=H.mp c)/\(∀ {H:Hp} {c:Nat},c<H.size->H.gD.rd c=H.rd c/\H.gD.own c=H.own c/\H.gD.mp c=H.mp c)/\
 (∀ {H:Hp} {c:Nat} {T:TypeId} {l:List Value},c=H.size->(H.new T l).rd c=some l/\(H.new T l).own c=some l)/\∀ {H:Hp} {c:Nat},c=H.size->H.gD.mp c=some ([],0):=
 ⟨fun h=>⟨OT h,aG h,OU h⟩,fun h=>⟨M2 h,KZ h,M3 h⟩,fun h=>⟨M4 h,ax h,M5 h⟩,fun h=>⟨K1 h,Jp h,K3 h⟩,fun h=>⟨M6 h,az h⟩,fun h=>K4 h⟩
attribute [go_sem_proc] Nat.reduceBEq Nat.reduceAdd Nat.reduceMul Nat.reduceLeDiff
theorem vs(h:q)(e:p=q:=by conv=>lhs;simp(disch:=(first|omega| (simp only[Zs]<;>omega)|fail)) only[go_sem, ↓reduceIte,Zv]):p:=e.mpr h
theorem v1(x:a0)(h:q)(e:a0->p=q:=by intro z;conv=>lhs;simp(disch:=(first|omega| (simp only[Zs]<;>omega)|fail)) only[go_sem, ↓reduceIte,Zv,z]):p:=(e x).mpr h
theorem v2(x:a0)(z:a1)(h:q)(e:a0->a1->p=q:=by intro w l;conv=>lhs;simp(disch:=(first|omega| (simp only[Zs]<;>omega)|fail)) only[go_sem, ↓reduceIte,Zv,w,l]):p:=(e x z).mpr h
theorem v3(x:a0)(z:a1)(w:a2)(h:q)(e:a0->a1->a2->p=q:=by intro l a n;conv=>lhs;simp(disch:=(first|omega| (simp only[Zs]<;>omega)|fail)) only[go_sem, ↓reduceIte,Zv,l,a,n]):p:=(e x z w).mpr h
theorem v4(x:a0)(z:a1)(w:a2)(l:a3)(h:q)(e:a0->a1->a2->a3->p=q:=by intro a n m c;conv=>lhs;simp(disch:=(first|omega| (simp only[Zs]<;>omega)|fail)) only[go_sem, ↓reduceIte,Zv,a,n,m,c]):p:=(e x z w l).mpr h
theorem v5(x:a0)(z:a1)(w:a2)(l:a3)(a:a4)(h:q)(e:a0->a1->a2->a3->a4->p=q:=by intro n m c v g;conv=>lhs;simp(disch:=(first|omega| (simp only[Zs]<;>omega)|fail)) only[go_sem, ↓reduceIte,Zv,n,m,c,v,g]):p:=(e x z w l a).mpr h
theorem v6(z:a0)(w:a1)(l:a2)(a:a3)(n:a4)(m:x)(h:q)(e:a0->a1->a2->a3->a4->x->p=q:=by intro c v g y t r;conv=>lhs;simp(disch:=(first|omega| (simp only[Zs]<;>omega)|fail)) only[go_sem, ↓reduceIte,Zv,c,v,g,y,t,r]):p:=(e z w l a n m).mpr h
theorem v7(w:a0)(l:a1)(a:a2)(n:a3)(m:a4)(c:x)(v:z)(h:q)(e:a0->a1->a2->a3->a4->x->z->p=q:=by intro g y t r j d o;conv=>lhs;simp(disch:=(first|omega| (simp only[Zs]<;>omega)|fail)) only[go_sem, ↓reduceIte,Zv,g,y,t,r,j,d,o]):p:=(e w l a n m c v).mpr h
theorem v8(l:a0)(a:a1)(n:a2)(m:a3)(c:a4)(v:x)(g:z)(y:w)(h:q)(e:a0->a1->a2->a3->a4->x->z->w->p=q:=by intro t r j d o f u H;conv=>lhs;simp(disch:=(first|omega| (simp only[Zs]<;>omega)|fail)) only[go_sem, ↓reduceIte,Zv,t,r,j,d,o,f,u,H]):p:=(e l a n m c v g y).mpr h
theorem v9(a:a0)(n:a1)(m:a2)(c:a3)(v:a4)(g:x)(y:z)(t:w)(r:l)(h:q)(e:a0->a1->a2->a3->a4->x->z->w->l->p=q:=by intro j d o f u H B P L;conv=>lhs;simp(disch:=(first|omega| (simp only[Zs]<;>omega)|fail)) only[go_sem, ↓reduceIte,Zv,j,d,o,f,u,H,B,P,L]):p:=(e a n m c v g y t r).mpr h
theorem Z5(n:a0)(m:a1)(c:a2)(v:a3)(g:a4)(y:x)(t:z)(r:w)(j:l)(d:a)(h:q)(e:a0->a1->a2->a3->a4->x->z->w->l->a->p=q:=by intro o f u H B P L A C K;conv=>lhs;simp(disch:=(first|omega| (simp only[Zs]<;>omega)|fail)) only[go_sem, ↓reduceIte,Zv,o,f,u,H,B,P,L,A,C,K]):p:=(e n m c v g y t r j d).mpr h
theorem v11(m:a0)(c:a1)(g:a2)(y:a3)(t:a4)(r:z)(j:w)(d:l)(o:a)(f:n)(v:x)(h:q)(e:a0->a1->a2->a3->a4->z->w->l->a->n->x->p=q:=by intro u H P L A C K T F N B;conv=>lhs;simp(disch:=(first|omega| (simp only[Zs]<;>omega)|fail)) only[go_sem, ↓reduceIte,Zv,u,H,P,L,A,C,K,T,F,N,B]):p:=(e m c g y t r j d o f v).mpr h
theorem v12{m:Prop}(c:a0)(v:a1)(t:a2)(r:a3)(j:a4)(d:w)(o:l)(f:a)(u:n)(H:m)(g:x)(y:z)(h:q)(e:a0->a1->a2->a3->a4->w->l->a->n->m->x->z->p=q:=by intro B P C K T F N Q U W L A;conv=>lhs;simp(disch:=(first|omega| (simp only[Zs]<;>omega)|fail)) only[go_sem, ↓reduceIte,Zv,B,P,C,K,T,F,N,Q,U,W,L,A]):p:=(e c v t r j d o f u H g y).mpr h
end
end Go.Vc
namespace Go.Proofs.YtnanofhkpglbaaaGreatDoor
open Go Go.Vc
section
variable{b s len j:Nat}{H:Hp}{d i p:Int}{x:List Int}
abbrev i64(n:Int):Value:=.int .i64 n
abbrev ptr(b:Nat):Value:=.pointer (some ⟨b,0,none⟩)
abbrev u64(n:Int):Value:=.int .u64 n
abbrev ms(k s:Int):Value:=.agg [i64 k,u64 s].toArray
abbrev aA(l:List UInt8):Value:=.string ⟨l.toArray⟩
theorem Gk(a b:List UInt8):(⟨a.toArray⟩:ByteArray)++⟨b.toArray⟩=⟨(a++b).toArray⟩:=by
 rfl
theorem bI(a b:List UInt8)(h:a.length+b.length<=1000000):(if((a.toArray.size+b.toArray.size:Nat):Int)>IntKind.i64.max then none else some (Value.string ((⟨a.toArray⟩:ByteArray)++⟨b.toArray⟩)))=some (aA (a++b)):=by
 have x:IntKind.i64.max=9223372036854775807:=rfl;rw[if_neg Z,Gk]
theorem Cg(a b:List UInt8)(h:a.length+b.length<=1000000000000):(if((a.toArray.size+b.toArray.size:Nat):Int)>IntKind.i64.max then none else some (Value.string ((⟨a.toArray⟩:ByteArray)++⟨b.toArray⟩)))=some (aA (a++b)):=by
 have x:IntKind.i64.max=9223372036854775807:=rfl;rw[if_neg Z,Gk]
theorem iK(a b:List UInt8):((⟨a.toArray⟩:ByteArray).toList== (⟨b.toArray⟩:ByteArray).toList)=decide (a=b):=by
 rw[<-beq_toListBytes];show(a.toArray==b.toArray)=_;grind
theorem C7(l:List UInt8):(⟨l.toArray⟩:ByteArray).size=l.length:=by rfl
theorem pi(l:List UInt8)(i:Nat):(⟨l.toArray⟩:ByteArray)[i]? =l[i]? :=by
 by_cases h:i<l.length
 ·rw[ak9 h,getElem?_pos _ i (by rw[C7];exact h)];rfl
 grind [C7]
theorem Hu(a:List UInt8):((⟨a.toArray⟩:ByteArray).toList== (⟨#[]⟩:ByteArray).toList)=decide (a=[]):=iK a []
theorem kU(l:List UInt8)(a b:Nat):(⟨l.toArray⟩:ByteArray).extract a b=⟨((l.take b).drop a).toArray⟩:=by
 apply ByteArray.ext;rw[ByteArray.data_extract];grind
structure kj(lq:List Int)(rt d:Nat->Nat):Prop where
 pos:0<lq.length
 low:∀i,i<lq.length->rt i<lq.length
 K5:∀i,i<lq.length->rt (rt i)=rt i
 step:∀i,i<lq.length->∃j:Nat,lq[i]? =some (j:Int)/\j<lq.length/\rt j=rt i/\(j=i↔rt i=i)/\(j≠i->d j<d i)
 zero:rt 0=0
 nz:∀i,i<lq.length->rt i=0->i=0
structure ei(H:Hp)(b s:Nat)(len:Nat)(rt:Nat->Nat)(most:Int):Prop where
 rep:∃sv lq cnt,H.own b=some [sv,i64 most,i64 cnt]/\Sl H 1 sv len (lq.map i64) (some s)/\(∃d,kj lq rt d)/\lq.length=len
 ne:b≠s
 le:(len:Int) - 1<=most
 most:0<=most/\most<=65536
theorem ei.ext{J:Hp}{rt:Nat->Nat}{most:Int}{S:Nat->Prop}(h:ei H b s len rt most)(e:aj S H J)(z:¬S b)(c:¬S s):ei J b s len rt most:=by
 obtain⟨⟨m,n,x,a1,a2,a3,a4⟩,w,l,a⟩:=h;exact⟨⟨m,n,x,e.own a1 z,a2.ext e Z,a3,a4⟩,w,l,a⟩
theorem C8(most:Int)(H:Hp):aD 195 [i64 most] H fun v J=>ak (
  af H J/\((¬ (0<=most/\most<=65536)/\v= .tuple [.pointer none,i64 31].toArray)\/
   (0<=most/\most<=65536)/\∃b s,v= .tuple [ptr b,i64 0].toArray/\ei J b s 1 id most/\H.size<=b/\H.size<=s/\b<J.size/\s<J.size)):=by
 refine aL Jj ?_;refine vs ?_;refine ai.dec (fun h=>?_) (fun h=>?_)<;>refine vs ?_
 ·exact⟨aj.refl _ _,.inl ⟨O,rfl⟩⟩
 ·refine ai.dec (fun x=>?_) (fun x=>?_)<;>refine vs ?_
  ·exact⟨aj.refl _ _,.inl ⟨O,rfl⟩⟩
  ·refine⟨bm.new _ _,.inr ⟨O,_,_,rfl,⟨⟨_,[0],0,by rw[<-ag H 3 [Value.int .i64 0]];exact am _ _ _,
    (Sl.lit H 3 1 1 [i64 0] rfl).ext ((aj.refl (fun _=>False) _).new _ _) (fun _ _ h=>h),?_,rfl⟩,?_,O,O⟩,?_,?_,?_,?_⟩⟩
   ·exact⟨fun _=>0,by simp,fun i hi=>hi,fun i hi=>rfl,Z,rfl,fun i hi h=>h⟩
   all_goals(try simp only[ag]);omega
theorem pj{rt d:Nat->Nat}(h:kj x rt d){i:Nat}(hi:i<x.length):∃j:Nat,x[i]? =some (j:Int)/\j<x.length/\rt j=rt i/\(j=i↔rt i=i):=by
 cases h;grind
theorem Bl{rt:Nat->Nat}{most:Int}(h:ei H b s len rt most):aD 386 [ptr b] H fun v J=>ak (v=i64 ((len:Int) - 1)/\H=J):=by
 obtain⟨⟨e,m,z,a1,⟨a2,l,c,rfl,a3⟩,a4,x⟩,w,a,n⟩:=h;refine aL vU ?_;refine v1 (ae a1) ?_;rw[wrap64 O O];exact⟨rfl,rfl⟩
theorem qf{rt:Nat->Nat}{most:Int}(h:ei H b s len rt most)(i:Int):aD 379 [ptr b,i64 i] H fun v J=>ak (v= .bool (decide (0<i/\i<len))/\H=J):=by
 obtain⟨⟨e,m,z,a1,⟨a2,l,c,rfl,a3⟩,a4,x⟩,w,a,n⟩:=h;refine aL vQ ?_;refine vs ?_;refine ai.dec (fun h=>?_) (fun h=>?_)<;>refine v1 (ae a1) ?_
 ·refine⟨ald Value.bool ?_,rfl⟩;rw[decide_eq_decide];omega
 ·exact⟨by grind [Cd],rfl⟩
theorem C9{l:List Value}{n:Nat}(h:l.take (n*1)=x.map i64){i:Nat}(z:x[i]? =some (j:Int)):l[i]? =some (i64 j):=by
 have w:(x.map i64)[i]? =some (i64 j):=by simp[z]
 grind
theorem lD{rt:Nat->Nat}{most:Int}(h:ei H b s len rt most)(i:Int):
  aD 366 [ptr b,i64 i] H fun v J=>ak (v= .bool (decide (0<i/\i<len/\rt i.toNat=i.toNat))/\H=J):=by
 have hm:=qf h i;obtain⟨⟨o,q,m,a1,⟨a2,l,c,rfl,a3,a,n,x⟩,⟨d,a4⟩,w⟩,t,r,p⟩:=h;refine aL xE ?_;refine vs ?_;refine hm.mono ?_;rintro _ _ ⟨rfl,rfl⟩;refine vs ?_;refine ai.dec (fun h=>?_) (fun h=>?_)<;>refine v1 (ae a1) ?_
 ·obtain⟨j,z,e,g,y⟩:=pj a4 (i:=i.toNat) O;refine⟨O,?_⟩;refine v3 (ae a3) ala (C9 x z) ?_;refine⟨ald Value.bool ?_,rfl⟩;grind
 ·exact⟨by grind [Cd],rfl⟩
theorem kj.make{rt d:Nat->Nat}(h:kj x rt d):kj (x++[(x.length:Int)]) (fun i=>if i=x.length then i else rt i) d:=by
 have z:=h.step;have c:=h.pos;refine⟨by simp,fun i hi=>?_,fun i hi=>?_,fun i hi=>?_,?_,fun i hi v=>?_⟩
 ·cases h;grind
 ·cases h;grind
 ·simp only[alm,alk,alP]at hi;by_cases e:i=x.length
  ·subst e;grind
  ·obtain⟨j,w,l,a,n,m⟩:=z i O;grind
 ·cases h;grind
 cases h;grind
theorem kj.join{rt d:Nat->Nat}(h:kj x rt d){a:Nat}(g:a<x.length)(r:b<x.length)(q:rt a=a)(o:rt b=b)(t:a≠b)(w:b≠0)(y:a≠0):
  kj (x.set b (a:Int)) (fun i=>if rt i=b then a else rt i) (fun i=>if rt i=b then d i+d a+1 else d i):=by
 have z:=h.step;refine⟨Z,fun i hi=>?_,fun i hi=>?_,fun i hi=>?_,?_,fun i hi p=>?_⟩
 ·cases h;grind
 ·cases h;grind
 ·simp only[alb]at hi;obtain⟨j,l,n,m,c,v⟩:=z i hi;by_cases e:i=b
  ·grind
  ·refine⟨j,Z,Z,?_,?_,?_⟩
   ·grind
   ·grind
   grind
 ·cases h;grind
 cases h;grind
theorem kj.skip{lq:List Int}{rt d:Nat->Nat}(h:kj lq rt d){i k:Nat}(hi:lq[i]? =some (j:Int))(t:lq[j]? =some (k:Int))(r:j≠i):
  kj (lq.set i (k:Int)) rt d/\k<lq.length/\rt k=rt i/\d k<d i:=by
 have n:=h.step;have B:i<lq.length:=(ak8.1 hi).1;have P:j<lq.length:=(ak8.1 t).1;obtain⟨j',l,N,c,p,q⟩:=n i B;rw[hi]at l;have o:j'=j:=by injection l with l;omega
 subst o;obtain⟨w,a,v,g,Q,u⟩:=n j' P;rw[t]at a;have f:w=k:=by injection a with a;omega
 subst f;have H:d w<=d j':=by
  by_cases e:w=j'
  ·rw[e];omega
  ·exact Nat.le_of_lt (u e)
 have U:=q r;have L:w≠i:=fun e=>by rw[e]at H;omega
 refine⟨⟨by simpa using h.pos,fun x z=>by simp only[alb]at z ⊢;exact h.low x z,fun x z=>h.K5 x (by simpa using z),fun x z=>?_,h.zero,fun x z=>h.nz x (by simpa using z)⟩,v,g.trans c,O⟩;simp only[alb]at z;by_cases e:x=i
 ·subst e;refine⟨w,by simp[z],by simpa using v,g.trans c,?_,fun _=>O⟩;constructor
  ·intro m;exact absurd m L
  ·intro m;exact absurd (p.2 m) r
 ·obtain⟨y,A,C,K,T,F⟩:=n x z;exact⟨y,by rw[alh (Ne.symm e)];exact A,by simpa using C,K,T,F⟩
theorem AT(l:List Int):dK (l.map i64):=by
 intro v h;obtain⟨x,_,rfl⟩:=alQ.1 h;rfl
theorem Bm{rt:Nat->Nat}{most:Int}(h:ei H b s len rt most):
  aD 380 [ptr b] H fun v J=>ak (
   ((len:Int) - 1=most/\v= .tuple [i64 0,.bool false].toArray/\H=J)\/
   ((len:Int) - 1≠most/\v= .tuple [i64 len,.bool true].toArray/\∃s',ei J b s' (len+1) (fun i=>if i=len then i else rt i) most/\aj (fun x=>x=b\/x=s) H J/\(s'=s\/(H.size<=s'/\s'<J.size)))):=by
 have q:=Bl h;obtain⟨⟨Q,P,g,a1,a2,⟨d,a4⟩,e⟩,K,T,t⟩:=h;have m:=a2;obtain⟨_,l,c,rfl,a3,L,A,C⟩:=m;have r:=aB a1;refine aL vR ?_;refine vs ?_;refine⟨i64 ((len:Int) - 1),q.mono fun _ _ h=>⟨h.out.1,h.out.2.symm⟩,?_⟩;refine v1 (ae a1) ?_;refine ai.dec (fun h=>?_) (fun h=>?_)<;>refine v1 (ae a1) ?_
 ·exact .inl ⟨h,rfl,rfl⟩
 ·have o:(H.new 3 [i64 len]).own b=some [.slice (some ⟨s,0,none⟩) len c,i64 most,i64 g]:=by rw[ax r];exact a1
  refine Sl.append (a2.ext ((aj.refl (fun _=>False) H).new _ _) (fun _ _ h=>h)) (Sl.lit H 3 1 1 [i64 len] rfl).rd rfl (AT [(len:Int)]) O ?_;intro U a y n z p;have w:=z.own o Z;have B:=z.size;rw[ag]at B;obtain⟨s',rfl⟩:∃s',y=some s':=by
   grind
  have u:s'=s\/(H.size<=s'/\s'<a.size):=by
   rcases p with h| ⟨x,h,F,N⟩
   ·grind
   ·grind [ag]
  have j:b≠s':=by
   rcases u with h|h
   ·omega
   ·omega
  have f:=n;obtain⟨_,l',c',rfl,_⟩:=f;refine v2 w (ci w) ?_;refine .inr ⟨h,rfl,s',⟨⟨_,P++[(len:Int)],_,ah w,by rw[alG];exact n.ext ((aj.refl (fun x=>x=b) a).wr (fun _=>rfl) _) Z,⟨d,?_⟩,by simp[e]⟩,j,?_,t⟩,?_,?_⟩
  ·have:=a4.make;grind
  ·omega
  ·refine aj.wr (aj.lE ((aj.refl (fun x=>x=b\/x=s) H).new _ _) z Z) (fun _=>.inl rfl) _
  grind [bE]
theorem Bn{rt:Nat->Nat}{most:Int}(h:ei H b s len rt most)(x y:Int):
  aD 381 [ptr b,i64 x,i64 y] H fun v J=>ak (
   let ok:=(0<x/\x<len/\rt x.toNat=x.toNat)/\(0<y/\y<len/\rt y.toNat=y.toNat)/\x≠y
   (¬ok/\v= .bool false/\H=J)\/
   (ok/\v= .bool true/\ei J b s len (fun i=>if rt i=y.toNat then x.toNat else rt i) most/\aj (fun z=>z=b\/z=s) H J)):=by
 have w:=lD h x;have n:=lD h y;obtain⟨⟨T,j,f,a1,a2,⟨d,a4⟩,A⟩,g,B,P⟩:=h;obtain⟨u,l,c,rfl,a3,p,q,o⟩:=a2;refine aL vT ?_;refine vs ?_;refine w.mono ?_;rintro _ _ ⟨rfl,rfl⟩;refine vs ?_;refine ai.dec (fun w=>?_) (fun w=>?_)<;>refine vs ?_
 ·refine n.mono ?_;rintro _ _ ⟨rfl,rfl⟩;refine vs ?_;refine ai.dec (fun n=>?_) (fun n=>?_)<;>refine vs ?_
  ·refine ai.dec (fun r=>?_) (fun r=>?_)<;>refine vs ?_
   ·exact .inl ⟨O,rfl,rfl⟩
   ·have L:Sl H 1 (.slice (some ⟨s,0,none⟩) len c) len (j.map i64) (some s):=⟨u,l,c,rfl,a3,p,q,o⟩;refine v1 (ae a1) ?_;refine⟨O,?_⟩;have C:l.length=l.length:=rfl;have K:len*1<=l.length:=O;refine v2 a3 ala ?_;refine⟨O,?_⟩;have m:(H.wr s (l.set y.toNat (i64 x))).own b=some [.slice (some ⟨s,0,none⟩) len c,i64 most,i64 f]:=(aG (Ne.symm g)).trans a1;refine v2 m (ae m) ?_;have t:=a4.join (a:=x.toNat) (b:=y.toNat) O O w.2.2 n.2.2 O O O;rw[show((x.toNat:Nat):Int)=x by omega]at t;refine .inr ⟨⟨w,n,r⟩,rfl,⟨⟨_,j.set y.toNat x,_,ah m,?_,⟨_,t⟩,Z⟩,g,B,P⟩,?_⟩
    ·rw[alD];exact(L.nG a3 y.toNat (i64 x)).ext ((aj.refl (fun z=>z=b) _).wr (fun _=>rfl) _) Z
    ·exact((aj.refl _ _).wr (fun _=>.inr rfl) _).wr (fun _=>.inl rfl) _
  ·exact .inl ⟨fun e=>n e.2.1,rfl,rfl⟩
 ·exact .inl ⟨fun e=>w e.1,rfl,rfl⟩
theorem Bo{rt:Nat->Nat}{most:Int}(h:ei H b s len rt most)(i:Int):
  aD 367 [ptr b,i64 i] H fun v J=>ak (
   (¬ (0<i/\i<len)/\v= .tuple [i64 0,.bool false].toArray/\H=J)\/
   ((0<i/\i<len)/\v= .tuple [i64 (rt i.toNat),.bool true].toArray/\ei J b s len rt most/\aj (fun z=>z=b\/z=s) H J)):=by
 have hm:=qf h i;refine aL vM ?_;refine vs ?_;refine hm.mono ?_;rintro _ _ ⟨rfl,rfl⟩;refine vs ?_;refine ai.dec (fun hi=>?_) (fun hi=>?_)<;>refine vs ?_
 ·obtain⟨⟨n,w,y,a1,a2,⟨d,a4⟩,B⟩,q,N,Q⟩:=h;refine ba.intro (fun m env a=>∃ (k:Nat) (w:List Int) (n:Value),env=[(0,ptr b),(1,i64 k)]/\k<len/\rt k=rt i.toNat/\d k=m/\
   a.own b=some [n,i64 most,i64 y]/\Sl a 1 n len (w.map i64) (some s)/\kj w rt d/\w.length=len/\aj (fun z=>z=b\/z=s) H a) (d i.toNat)
   ⟨i.toNat,w,n,Z,O,rfl,rfl,a1,a2,a4,B,aj.refl _ _⟩ ?_
  rintro m env a ⟨k,w,n,rfl,k1,u,rfl,e,g,c4,c5,t⟩;have L:=g;obtain⟨D,l,c,rfl,c3,M,E,r⟩:=L;obtain⟨j,o,I,j3,V⟩:=pj c4 (i:=k) O;refine v1 (ae e) ?_;refine⟨O,?_⟩;have f:=C9 r o;refine v4 (ae c3) ala Int.toNat_natCast f ?_;refine ai.dec (fun U=>?_) (fun U=>?_)<;>refine v1 (ae e) ?_
  ·refine .inr ⟨hi,?_,⟨Z,q,N,Q⟩,t⟩;have:=V.1 O;rw[<-u,this];rfl
  ·obtain⟨x,p,g2,g3,g4⟩:=pj c4 (i:=j) I;have F:=C9 r p;have W:j≠k:=O;obtain⟨C,X,K,T⟩:=c4.skip o p W;refine⟨O,?_⟩;refine v4 (ae c3) ala Int.toNat_natCast f ?_;refine⟨O,?_⟩;refine v4 (ae c3) ala Int.toNat_natCast F ?_;refine⟨O,?_⟩;have wT:k<l.length:=O;refine v3 c3 ala Int.toNat_natCast ?_;refine⟨O,?_⟩;have P:(a.wr s (l.set k (i64 x))).own b=some [.slice (some ⟨s,0,none⟩) len c,i64 most,i64 y]:=(aG (Ne.symm q)).trans e;have A:(a.wr s (l.set k (i64 x))).own s=some (l.set k (i64 x)):=ah c3;have G:(l.set k (i64 x))[k]? =some (i64 x):=Z;refine v1 (ae P) ?_;refine⟨O,?_⟩;refine v4 (ae A) ala Int.toNat_natCast G ?_;refine⟨d x,T,x,w.set k (x:Int),_,rfl,O,K.trans u,rfl,e,?_,C,Z,t.trans ((aj.refl _ _).wr (fun _=>.inr rfl) _)⟩;rw[alD];exact g.nG c3 k (i64 x)
 ·exact .inl ⟨hi,rfl,rfl⟩
def cV(d:Int):Prop:=2<=d/\d<=16
instance wu(d:Int):Decidable (cV d):=inferInstanceAs (Decidable (_/\_))
theorem lF(d:Int)(H:Hp):aD 196 [i64 d] H fun v J=>ak (v= .bool (decide (cV d))/\H=J):=by
 refine aL Jk ?_;refine vs ?_;refine ai.dec (fun h=>?_) (fun h=>?_)<;>refine vs ?_
 ·exact⟨ald Value.bool (by rw[decide_eq_decide];unfold cV;omega),rfl⟩
 ·exact⟨ald Value.bool (alc (by unfold cV;omega)).symm,rfl⟩
def bu(d i:Int):Option Int:=if cV d/\1<=i then some ((i - 1) / d)else none
def K6(o:Option Int):Value:=match o with|some n=>.tuple [i64 n,.bool true].toArray|none=>.tuple [i64 0,.bool false].toArray
theorem eX(h:bu d i=some p):0<=p/\p<i:=by
 unfold bu at h;split at h
 ·rename_i x;injection h with h;have z:=x.1.1;have:0<=(i - 1) / d:=Int.ediv_nonneg O O;have w:(i - 1) / d<=i - 1:=Int.ediv_le_self _ O;omega
 grind
theorem OV(h:2<=d)(x:1<=i)(hi:i<=9223372036854775807):IntKind.i64.wrap ((i - 1).tdiv d)=(i - 1) / d:=by
 rw[ams O];have:0<=(i - 1) / d:=Int.ediv_nonneg O O;have x:(i - 1) / d<=i - 1:=Int.ediv_le_self _ O;grind [wrap64]
theorem zC(d i:Int)(hi:i<=9223372036854775807)(H:Hp):aD 383 [i64 d,i64 i] H fun v J=>ak (v=K6 (bu d i)/\H=J):=by
 refine aL Fb ?_;refine vs ?_;refine(lF d H).mono ?_;rintro _ _ ⟨rfl,rfl⟩;refine vs ?_;refine ai.dec (fun x=>?_) (fun x=>?_)<;>refine vs ?_
 ·refine ai.dec (fun z=>?_) (fun z=>?_)<;>refine vs ?_
  ·exact⟨by rw[bu,if_neg O];rfl,rfl⟩
  ·have w:=x.1;rw[if_neg O,wrap64 (n:=i - 1) O O,OV x.1 O hi];refine vs ?_;exact⟨by rw[bu,if_pos ⟨x,O⟩];rfl,rfl⟩
 ·exact⟨by rw[bu,if_neg (fun h=>x h.1)];rfl,rfl⟩
def pk(d i k:Int):Option Int:=if cV d/\0<=i/\i<=1099511627776/\1<=k/\k<=d then some (d*i+k)else none
theorem xQ{k:Int}(h:cV d)(x:0<=i)(z:i<=1099511627776)(l:1<=k)(w:k<=d):0<=d*i/\d*i<=17592186044416:=by
 obtain⟨a,b⟩:=h;refine⟨aml O x,?_⟩;have:d*i<=16*i:=ame b x;omega
theorem qh(d i k:Int)(H:Hp):aD 389 [i64 d,i64 i,i64 k] H fun v J=>ak (v=K6 (pk d i k)/\H=J):=by
 refine aL Hr ?_;refine vs ?_;refine(lF d H).mono ?_;rintro _ _ ⟨rfl,rfl⟩;refine vs ?_;refine ai.dec (fun x=>?_) (fun x=>?_)<;>refine vs ?_
 ·refine ai.dec (fun z=>?_) (fun z=>?_)<;>refine vs ?_
  ·exact⟨by rw[pk,if_neg O];rfl,rfl⟩
  ·refine ai.dec (fun w=>?_) (fun w=>?_)<;>refine vs ?_
   ·exact⟨by rw[pk,if_neg O];rfl,rfl⟩
   ·refine ai.dec (fun l=>?_) (fun l=>?_)<;>refine vs ?_
    ·exact⟨by rw[pk,if_neg O];rfl,rfl⟩
    ·refine ai.dec (fun a=>?_) (fun a=>?_)<;>refine vs ?_
     ·exact⟨by rw[pk,if_neg O];rfl,rfl⟩
     ·have m:=xQ (i:=i) x O O (by omega:1<=k) (by omega:k<=d);have c:=x.2;rw[wrap64 (n:=d*i) O O,wrap64 O O];exact⟨by rw[pk,if_pos Z];rfl,rfl⟩
 ·exact⟨by rw[pk,if_neg (fun h=>x h.1)];rfl,rfl⟩
def Jq(d:Int):Nat->Int->Nat
 |0,_=>0
 |m+1,i=>match bu d i with|some p=>Jq d m p+1|none=>0
theorem OW(d:Int):∀ (m x:Nat) (i:Int),i.toNat<=m->i.toNat<=x->Jq d m i=Jq d x i:=by
 intro m;induction m with
 |zero=>
  intro x i h _;have w:bu d i=none:=by unfold bu;grind
  cases x<;>simp[Jq,w]
 |succ m n=>
  intro x i h l;cases z:bu d i with
  |none=>cases x<;>simp[Jq,z]
  |some p=>
   have a:=eX z;cases x with
   |zero=>omega
   |succ x=>simp only[Jq,z];grind
theorem OX(h:bu d i=some p)(m:Nat)(hm:i.toNat<=m):Jq d m i=Jq d p.toNat p+1:=by
 have x:=eX h;obtain⟨q,z⟩:∃q,m=q+1:=⟨m - 1,O⟩;grind [Jq,OW]
theorem qi{j:Int}(z:2<=d)(hi:0<=i)(x:1<=j)(h:j<=d):(d*i+j - 1) / d=i:=by
 rw[show d*i+j - 1=(j - 1)+d*i by omega,Int.add_mul_ediv_left _ _ O,Int.ediv_eq_zero_of_lt O O];omega
theorem Rj(o:Option Int):K6 o= .tuple [i64 (o.getD 0),.bool o.isSome].toArray:=by cases o<;>rfl
end
end Go.Proofs.YtnanofhkpglbaaaGreatDoor
namespace Go.Vc
open Go
theorem tu{P:Program}(hm:P.follows .mixedOrders=true){f:FuncId}{an:List iu}{F:Fn}(z:jj P f an=some F){args:List Value}{H:Hp}{K:Value->Hp->Prop}{nt:Nat}(p:(P.funcs[f]?).map (·.ntmps)=some nt)(Q:args.length<=nt)
  (h:Go.Vc.vc P F.body (iE 0 args) H (fun env H=>oN env H F.VZ fun vs=>K (Cd vs) H) (fun _ _ _=>False) (fun env H=>oN env H F.VZ fun vs=>K (Cd vs) H)):dO P f args H K:=by
 unfold jj at z;split at z
 ·cases z
 ·rename_i fn j;split at z
  ·cases z
  ·rename_i c B;split at z
   ·rename_i s C;split at z
    ·rename_i N;cases g:j9 P fn.results.toList with
     |none=>rw[g]at z;cases z
     |some rs=>
      rw[g]at z;simp only[Option.map_some,alg]at z;subst z;simp only at h;rw[j]at p;simp only[Option.map_some,alg]at p;intro w T;subst T;refine calls_of_wp j B ?_;have L:Holds (iE 0 args) {tmps:=args.toArray++Array.replicate (fn.ntmps - args.toArray.size) undef,defers:=[]} fn.ntmps:=by
       refine⟨Z,rfl,fun k v n=>?_⟩;obtain⟨_,o⟩:=Gc args 0 k v n;have U:k<args.length:=by
        rcases al1 k args.length with t|t
        ·exact t
        ·grind
       rw[Array.getElem?_append_left O];simpa using o
      have d:∀a l w',bH w w'->Holds a l fn.ntmps->oN a w'.heap rs (fun vs=>K (Cd vs) w'.heap)->
        l.defers=[]/\∃v,(results fn l.tmps).run P w'= .ok v w'/\(∃q,Ending.returned v=Ending.returned q/\bH w w'/\K q w'.heap):=by
       intro a l w' e m n;obtain⟨vs,u,A⟩:=xo (P:=P) m fn.results.toList rs _ g n;refine⟨m.defers,Cd vs,?_,_,rfl,e,u⟩;change (do let vs <-fn.results.mapM (zf l.tmps);pure (if h:vs.size=1 then vs[0]else .tuple vs):Sem Value).run P w'=_;rw[Array.mapM_eq_mapM_toList];simp only[Sem.run_bind,Sem.run_map,A,Result.andThen_ok,Sem.run_pure];congr 1;cases vs with
       |nil=>rfl
       |cons x r=>cases r with
        |nil=>rfl
        |cons y r=>rfl
      refine IS hm c an s [] C _ _ w _ _ _ _ L h ?_ ?_ ?_
      ·exact fun a l w' e m n=>d a l w' e m n
      ·grind
      ·exact fun a l w' e m n=>d a l w' e m n
    ·cases z
   ·cases z
end Go.Vc
namespace Go.Proofs.YtnanofhkpglbaaaGreatDoor
open Go Go.Vc
end Go.Proofs.YtnanofhkpglbaaaGreatDoor
