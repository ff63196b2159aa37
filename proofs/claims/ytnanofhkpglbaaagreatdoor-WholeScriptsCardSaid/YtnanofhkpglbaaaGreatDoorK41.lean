/- Texts put behind each other. -/
import Derived.Test.YtnanofhkpglbaaaGreatDoorK2
import Derived.Test.YtnanofhkpglbaaaGreatDoorK25
import Derived.Test.YtnanofhkpglbaaaGreatDoorK38
set_option linter.unusedSimpArgs false
set_option linter.unusedVariables false
set_option maxRecDepth 100000
set_option maxHeartbeats 80000000
namespace Go.Proofs.YtnanofhkpglbaaaGreatDoor
open Go Go.Vc Go.RowKit Go.Sort
structure kY(H:Hp):Prop where
 sA:D5 H
 syn:∀w:World,w.heap=H->∃tp p,w.var? Tryz.prog "strconv.ErrSyntax" =some #[.iface tp p]
 rng:∀w:World,w.heap=H->∃tp p,w.var? Tryz.prog "strconv.ErrRange" =some #[.iface tp p]
 lim:∀w:World,w.heap=H->∃m,w.cell? ⟨0,0,none⟩=some (.int .i64 m)
theorem GA{w w':World}(e:af w.heap w'.heap){a:Addr}{v:Value}(h:w.cell? a=some v):w'.cell? a=some v:=by
 have z:=Lib.lt_of_cell h;have x:w'.heap[a.block]? =w.heap[a.block]? :=e.aW a.block z (fun h=>h);rw[<-h];unfold World.cell?;rw[x]
theorem kY.fresh{H J:Hp}(h:kY H)(e:af H J):kY J:=by
 refine⟨h.sA.fresh e,fun w z=>?_,fun w z=>?_,fun w z=>?_⟩
 ·obtain⟨l,p,x⟩:=h.syn {w with heap:=H} rfl;exact⟨l,p,oz (w:={w with heap:=H}) (w':=w) (by rw[z];exact e) x⟩
 ·obtain⟨l,p,x⟩:=h.rng {w with heap:=H} rfl;exact⟨l,p,oz (w:={w with heap:=H}) (w':=w) (by rw[z];exact e) x⟩
 ·obtain⟨m,x⟩:=h.lim {w with heap:=H} rfl;exact⟨m,GA (w:={w with heap:=H}) (w':=w) (by rw[z];exact e) x⟩
theorem pQ{w w':World}(h:Below w.heap.size w w'):bH w w'/\af w.heap w'.heap:=
 ⟨⟨h.os,h.output⟩,⟨h.size,fun b x _=>h.block b x⟩⟩
theorem qX{H:Hp}(d:kY H)(l:List UInt8)(o:l.length<=1000000):aD 105 [aA l,i64 10,i64 64] H fun v J=>ak (af H J/\
  ((∃n,Lib.parseIntB 64 l= .ok n/\v= .tuple [i64 n,.nilIface].toArray)\/((∀n,Lib.parseIntB 64 l≠ .ok n)/\∃x t u,v= .tuple [i64 x,.iface t u].toArray))):=fun w a=>by
 have y:(⟨l.toArray⟩:ByteArray).size=l.length:=by simp[ByteArray.size]
 have c:(⟨l.toArray⟩:ByteArray).data.toList=l:=rfl;rcases g:Lib.parseIntB 64 l with n|_|_
 ·refine(Tryz.strconv_ParseInt_10_at64_ok ⟨l.toArray⟩ (by rw[y];omega) n (by rw[c];exact g) w).mono ?_;rintro e w' ⟨rfl,q⟩;have z:Below w.heap.size w w':=by
   rcases q with rfl| ⟨t,rfl⟩
   ·exact Below.refl _ _
   ·exact Lib.bytesWorld_below _ _ _
  obtain⟨s1,m⟩:=pQ z;exact⟨_,rfl,s1,by rw[<-a];exact m,.inl ⟨n,rfl,rfl⟩⟩
 ·obtain⟨j,p,r⟩:=d.syn w a;refine(Any.strconv_ParseInt_10_at64_syntax_var Tryz.Cq ⟨l.toArray⟩ (by rw[y];omega) (by rw[c];exact g) j p w r).mono ?_;rintro e w' ⟨N,rfl,_,_,z⟩;obtain⟨s1,m⟩:=pQ z;exact⟨_,rfl,s1,by rw[<-a];exact m,.inr ⟨fun n h=>(by cases h),_,_,_,rfl⟩⟩
 ·obtain⟨j,p,r⟩:=d.rng w a;refine(Any.strconv_ParseInt_10_at64_range_var Tryz.Cq ⟨l.toArray⟩ (by rw[y];omega) (by rw[c];exact g) j p w r).mono ?_;rintro e w' ⟨N,rfl,_,_,z⟩;obtain⟨s1,m⟩:=pQ z;exact⟨_,rfl,s1,by rw[<-a];exact m,.inr ⟨fun n h=>(by cases h),_,_,_,rfl⟩⟩
theorem mH{H:Hp}(r:kY H)(l:List UInt8)(j:l.length<=1000000):aD 61 [aA l] H fun v J=>ak (af H J/\
  ((∃n:Int, -9223372036854775808<=n/\n<=9223372036854775807/\l=Lib.itoa n/\v= .tuple [i64 n,.bool true].toArray)\/
   ((∀n:Int, -9223372036854775808<=n->n<=9223372036854775807->l≠Lib.itoa n)/\v= .tuple [i64 0,.bool false].toArray))):=by
 refine aL CT ?_;refine vs ?_;refine(qX r l j).mono ?_;rintro _ d ⟨z,⟨n,h,rfl⟩| ⟨h,x,t,u,rfl⟩⟩
 ·obtain⟨g,y⟩:=zm h;refine vs ?_;refine(bi (r.sA.fresh z) g y).mono ?_;rintro _ p ⟨rfl,e⟩;refine v1 iK ?_;refine ai.dec (fun c=>?_) (fun c=>?_)<;>refine vs ?_
  ·exact⟨z.trans e,.inl ⟨n,g,y,c.symm,rfl⟩⟩
  ·refine⟨z.trans e,.inr ⟨fun m w a hm=>c ?_,rfl⟩⟩;rw[hm,js w a]at h;injection h with h;rw[hm,h]
 ·refine vs ?_;exact⟨z,.inr ⟨fun m w a hm=>h m (by rw[hm];exact js w a),rfl⟩⟩
end Go.Proofs.YtnanofhkpglbaaaGreatDoor
namespace Go.Proofs.YtnanofhkpglbaaaGreatDoor
open Go Go.Vc
theorem Cm(i:Nat)(F:Prop):dW (0<=(i:Int)) F=F:=by unfold dW;simp
theorem Qf(a b:List UInt8):fM 0 (a++b)=fM (fM 0 a) b:=by unfold fM;rw[List.foldl_append]
theorem NN{l:List UInt8}{i:Nat}{c:UInt8}(z:l[i]? =some c):fM 0 (l.take i)*10+(c.toNat - 48)<=fM 0 l:=by
 have x:l.take (i+1)=l.take i++[c]:=by rw[alq,z];rfl
 have h:fM 0 l=fM (fM 0 (l.take (i+1))) (l.drop (i+1)):=by rw[<-Qf,amr]
 rw[h,x,rM];exact Ho _ _
theorem mI(H:Hp)(l:List UInt8)(G:l.length<=1000000){most:Nat}(hm:10<=most/\most<=18446744073709551615):aD 74 [aA l,u64 most] H fun v J=>ak (
  ((∃u:Nat,u<=most/\l=Lib.decDigits u/\v= .tuple [u64 u,.bool true].toArray)\/((∀u:Nat,u<=most->l≠Lib.decDigits u)/\v= .tuple [u64 0,.bool false].toArray))/\H=J):=by
 refine aL CW ?_;simp(disch:=(first|exact aV|fail)) only[go_sem, ↓reduceIte,Zv,Hu,amh];have a:∀v:Value,v= .tuple [u64 0,.bool false].toArray->(∀u:Nat,u<=most->l≠Lib.decDigits u)->(((∃u:Nat,u<=most/\l=Lib.decDigits u/\v= .tuple [u64 u,.bool true].toArray)\/((∀u:Nat,u<=most->l≠Lib.decDigits u)/\v= .tuple [u64 0,.bool false].toArray))/\H=H):=fun v e g=>⟨.inr ⟨g,e⟩,rfl⟩;refine ai.dec (fun m=>?_) (fun m=>?_)<;>refine vs ?_
 ·exact a _ rfl fun u _ h=>(gk u).1.ne (by rw[<-h];exact m)
 have M:l.toArray.size=l.length:=amh ..
 refine ai.dec (fun q=>?_) (fun q=>?_)<;>refine vs ?_
 ·exact a _ rfl fun u T h=>by have:=cF (u:=u) O;rw[<-h]at this;omega
 refine ai.dec (fun e=>?_) (fun e=>?_)<;>refine vs ?_;focus
  obtain⟨c,z⟩:∃c,l[0]? =some c:=⟨_,ak9 O⟩;refine⟨O,?_⟩;refine v3 pi Int.toNat_zero z ?_;refine ai.dec (fun g=>?_) (fun g=>?_)<;>refine vs ?_;focus
   exact a _ rfl fun u _ h=>(gk u).1.head (by rw[<-h];omega) c (by rw[<-h,List.head?_eq_getElem?];exact z) O
  have r:1<l.length->∀x,l.head? =some x->x.toNat≠48:=fun _ x w=>by
   rw[List.head?_eq_getElem?,z]at w;injection w with w;subst w;omega
 rotate_left;have r:1<l.length->∀x,l.head? =some x->x.toNat≠48:=fun h=>absurd h O;all_goals
  refine ba.intro (fun k env J=>J=H/\∃i:Nat,k=l.length - i/\i<=l.length/\fM 0 (l.take i)<=most/\V0 (l.take i)/\env=[(0,aA l),(1,u64 most),(6,u64 (fM 0 (l.take i))),(7,i64 i)]) l.length ⟨rfl,0,O,O,by simp[fM],by intro c z;simp at z,by simp[fM]⟩ ?_;rintro k env _ ⟨rfl,i,V,hi,j,y,rfl⟩;refine vs ?_;refine ai.dec (fun o=>?_) (fun o=>?_)<;>refine vs ?_
  ·obtain⟨c,z⟩:∃c,l[i]? =some c:=⟨_,ak9 O⟩;have A:c∈l:=ali z;have dZ:¬ (48<=c.toNat/\c.toNat<=57)->∀u:Nat,u<=most->l≠Lib.decDigits u:=fun K u _ h=>K ((gk u).1.Xz c (h▸A));have D:=NN z;have t:l.take (i+1)=l.take i++[c]:=by rw[alq,z];rfl
   refine v4 pi Int.toNat_natCast z Cm ?_;refine ai.dec (fun f=>?_) (fun f=>?_)<;>refine v4 pi Int.toNat_natCast z Cm ?_
   ·exact a _ rfl (dZ O)
   refine ai.dec (fun B=>?_) (fun B=>?_)<;>refine v4 pi Int.toNat_natCast z Cm ?_
   ·exact a _ rfl (dZ O)
   obtain⟨d,L⟩:∃d:Nat,c.toNat=48+d:=⟨c.toNat - 48,O⟩;have F:IntKind.u64.wrap (c.toNat:Int)=c.toNat:=eG O O;have N:IntKind.u64.wrap ((c.toNat:Int) - 48)=d:=by rw[L];exact(eG O O).trans O
   have Q:IntKind.u64.wrap ((most:Int) - (d:Int))=((most - d:Nat):Int):=(eG O O).trans O;have U:IntKind.u64.wrap (((most - d:Nat):Int).tdiv 10)=(((most - d) / 10:Nat):Int):=by
    rw[ams O];exact(eG O O).trans O
   have p:¬ ((10:Int)=0):=by decide
   simp(disch:=(first|exact aV|fail)) only[go_sem, ↓reduceIte,Zv,F,N,Q,U,if_neg p];refine ai.dec (fun P=>?_) (fun P=>?_)<;>refine vs ?_
   ·exact a _ rfl fun u T h=>by
     have:=(gk u).2.1;rw[<-h]at this;omega
   have W:IntKind.u64.wrap ((fM 0 (l.take i):Int)*10)=((fM 0 (l.take i)*10:Nat):Int):=(eG O O).trans O;have I:IntKind.u64.wrap (((fM 0 (l.take i)*10:Nat):Int)+(d:Int))=(fM 0 (l.take (i+1)):Int):=by
    rw[t,rM];exact(eG O O).trans O
   refine v2 W I ?_;rw[wrap64 (n:=(i:Int)+1) O O];refine⟨l.length - (i+1),O,trivial,i+1,rfl,O,?_,?_,rfl⟩
   ·rw[t,rM];omega
   ·rw[t];intro x w;rcases alu.1 w with w|w
    ·exact y x w
    ·rw[alv]at w;subst w;omega
  ·have C:i=l.length:=O;subst C;rw[alx]at j y;have:=Gi l ⟨m,y,r⟩;exact⟨.inl ⟨_,j,this.symm,by rw[alx];rfl⟩,rfl⟩
theorem At{l:List UInt8}{n:Int}(h:l=Lib.itoa n):(n<0/\l=45::Lib.decDigits n.natAbs)\/(0<=n/\l=Lib.decDigits n.toNat):=by
 unfold Lib.itoa at h;split at h
 ·exact .inl ⟨by assumption,h⟩
 ·exact .inr ⟨O,h⟩
theorem Qg{l:List UInt8}{u:Nat}(h:l=Lib.decDigits u)(c:UInt8)(x:l[0]? =some c):c.toNat≠45:=by
 have:=(gk u).1.Xz c (by rw[<-h];exact ali x);omega
theorem R2:Lib.decDigits 9223372036854775808=[57,50,50,51,51,55,50,48,51,54,56,53,52,55,55,53,56,48,56]:=
 Gi [57,50,50,51,51,55,50,48,51,54,56,53,52,55,55,53,56,48,56] ⟨by decide,by unfold V0;decide,fun _ c x=>by simp only[List.head?_cons,alg]at x;subst x;decide⟩
theorem J2:Lib.itoa (-9223372036854775808)=[45,57,50,50,51,51,55,50,48,51,54,56,53,52,55,55,53,56,48,56]:=by
 rw[show Lib.itoa (-9223372036854775808)=45::Lib.decDigits 9223372036854775808 from Lib.itoa_neg 9223372036854775808 O,R2]
theorem mJ(H:Hp)(l:List UInt8)(p:l.length<=1000000):aD 42 [aA l] H fun v J=>ak (
  ((∃n:Int, -9223372036854775808<=n/\n<=9223372036854775807/\l=Lib.itoa n/\v= .tuple [i64 n,.bool true].toArray)\/
   ((∀n:Int, -9223372036854775808<=n->n<=9223372036854775807->l≠Lib.itoa n)/\v= .tuple [i64 0,.bool false].toArray))/\H=J):=by
 refine aL CN ?_;refine v1 iK ?_;refine ai.dec (fun e=>?_) (fun e=>?_)<;>refine vs ?_
 ·exact⟨.inl ⟨-9223372036854775808,O,O,by rw[J2];exact e,rfl⟩,rfl⟩
 have P:l.toArray.size=l.length:=amh ..
 refine ai.dec (fun t=>?_) (fun t=>?_)<;>refine vs ?_;focus
  obtain⟨c,w⟩:∃c,l[0]? =some c:=⟨_,ak9 O⟩;refine⟨O,?_⟩;refine v3 pi Int.toNat_zero w ?_;refine ai.dec (fun j=>?_) (fun j=>?_)<;>refine vs ?_;focus
   obtain⟨r,rfl⟩:∃r,l=45::r:=by
    cases l with
    |nil=>simp at w
    |cons x r=>
     simp only[alN,alg]at w;subst w;exact⟨r,by rw[show x=45 from UInt8.toNat_inj.1 (by rw[show(45:UInt8).toNat=45 from rfl];omega)]⟩
   refine⟨⟨O,O,O⟩,?_⟩;have f:(⟨(45::r).toArray⟩:ByteArray).extract 1 (45::r).toArray.size=⟨r.toArray⟩:=by
    rw[kU];simp
   refine v3 Int.toNat_one Int.toNat_natCast f ?_;simp only[alk]at p;have d:∀u:Nat,¬45::r=Lib.decDigits u:=fun u h=>Qg h 45 rfl rfl;refine(mI H r O (most:=9223372036854775807) O).mono ?_;rintro _ _ ⟨⟨u,B,h,rfl⟩| ⟨h,rfl⟩,rfl⟩<;>refine vs ?_
   ·refine ai.dec (fun o=>?_) (fun o=>?_)<;>refine vs ?_
    ·refine⟨.inr ⟨fun n g y a=>?_,rfl⟩,rfl⟩;rcases At a with ⟨m,z⟩| ⟨m,z⟩
     ·injection z with _ z;have:=Ri (h.symm.trans z);omega
     ·exact d _ z
    ·rw[wrap64 (n:=(u:Int)) O O,wrap64 (n:=0 - (u:Int)) O O];refine⟨.inl ⟨0 - (u:Int),O,O,?_,rfl⟩,rfl⟩;rw[show(0:Int) - (u:Int)= -(u:Int) by omega,Lib.itoa_neg u O,h]
   ·refine⟨.inr ⟨fun n g y a=>?_,rfl⟩,rfl⟩;rcases At a with ⟨m,z⟩| ⟨m,z⟩
    ·injection z with _ z;by_cases hm:n= -9223372036854775808
     ·subst hm;exact e (by rw[a,J2])
     ·exact h n.natAbs O z
    ·exact d _ z
  have q:∀u,l≠45::u:=fun u h=>by
   rw[h]at w;injection w with w;subst w;exact j rfl
 rotate_left;have q:∀u,l≠45::u:=fun u h=>t (by rw[h];simp);all_goals
  refine(mI H l p (most:=9223372036854775807) O).mono ?_;rintro _ _ ⟨⟨u,B,h,rfl⟩| ⟨h,rfl⟩,rfl⟩<;>refine vs ?_
  ·rw[wrap64 (n:=(u:Int)) O O];exact⟨.inl ⟨u,O,O,by rw[Lib.itoa_nonneg];exact h,rfl⟩,rfl⟩
  ·rw[wrap64 (n:=0) O O];refine⟨.inr ⟨fun n g y a=>?_,rfl⟩,rfl⟩;rcases At a with ⟨m,z⟩| ⟨m,z⟩
   ·exact q _ z
   ·exact h n.toNat O z
end Go.Proofs.YtnanofhkpglbaaaGreatDoor
