/-
  Texts put behind each other by a program: Arena, Eds, IdxI, Arena2, NwP, NestP, Pq, Pq2, Pq3, Chk, Left3, Left4, LeftN, Swap, Pile, Pile2, Pile3, Shed, Shed2, Shed3, Shed4, Remove.
-/
import Derived.Test.YtjlnnljohemifaaGreatK9
import Derived.Test.YtjlnnljohemifaaGreatK17
import Derived.Test.YtjlnnljohemifaaGreatK19
import Derived.Test.YtjlnnljohemifaaGreatK20
set_option linter.unusedVariables false
set_option linter.unusedSimpArgs false
namespace Go.Proofs.YtjlnnljohemifaaGreat
open Go Go.Vc
abbrev kM(x:Int)(g:Nat):Value:=.agg #[i64 x,.int .u32 (g:Int)]
structure Ar where
 g:List (Nat×Bool)
 wt:List Int
 nx:Nat
 ct:Int
 mo:Nat
def du(L:List (Nat×Bool)):List Value:=L.flatMap fun y=>[.int .u32 (y.1:Int),.bool y.2]
theorem te(L:List (Nat×Bool)):(du L).length=L.length*2:=by
 induction L with
 |nil=>rfl
 |cons c r ih=>simp only[du,List.flatMap_cons,List.length_append,List.length_cons,List.length_nil]at*;omega
theorem xj{L:List (Nat×Bool)}{i:Nat}{y:Nat×Bool}(hi:L[i]? =some y):(du L)[i*2]? =some (.int .u32 (y.1:Int))∧(du L)[i*2+1]? =some (.bool y.2):=by
 induction L generalizing i with
 |nil=>simp at hi
 |cons a r ih=>
  have e:du (a::r)= .int .u32 (a.1:Int):: .bool a.2::du r:=rfl
  rw[e]
  cases i with
  |zero=>simp at hi;subst hi;exact⟨rfl,rfl⟩
  |succ i=>
   have:=ih (by simpa using hi)
   rw[show(i+1)*2=i*2+2 by omega]
   exact this
theorem DV{L:List (Nat×Bool)}{i:Nat}{y:Nat×Bool}(hi:L[i]? =some y):(∀v:Nat,(du L).set (i*2) (.int .u32 (v:Int))=du (L.set i (v,y.2)))∧(∀b,(du L).set (i*2+1) (.bool b)=du (L.set i (y.1,b))):=by
 induction L generalizing i with
 |nil=>simp at hi
 |cons a r ih=>
  have e:du (a::r)= .int .u32 (a.1:Int):: .bool a.2::du r:=rfl
  cases i with
  |zero=>simp at hi;subst hi;exact⟨fun _=>rfl,fun _=>rfl⟩
  |succ i=>
   obtain⟨h1,h2⟩:=ih (by simpa using hi)
   refine⟨fun v=>?_,fun b=>?_⟩
   ·have e2:du ((a::r).set (i+1) (v,y.2))= .int .u32 (a.1:Int):: .bool a.2::du (r.set i (v,y.2)):=rfl
    rw[e,e2,show(i+1)*2=i*2+1+1 by omega]
    simp only[List.set_cons_succ]
    rw[h1]
   ·have e2:du ((a::r).set (i+1) (y.1,b))= .int .u32 (a.1:Int):: .bool a.2::du (r.set i (y.1,b)):=rfl
    rw[e,e2,show(i+1)*2+1=i*2+1+1+1 by omega]
    simp only[List.set_cons_succ]
    rw[h2]
def Ar.cf(A:Ar)(x:Int):Nat:=(A.g.getD x.toNat (0,false)).1
def Ar.live(A:Ar)(x:Int):Prop:=0≤x∧(A.g[x.toNat]?).map (·.2)=some true
instance(A:Ar)(x:Int):Decidable (A.live x):=by unfold Ar.live;exact inferInstance
def Ar.pick(A:Ar):Option (Int×Ar):=
 if A.wt≠[]then some (A.wt.getLastD 0,{A with wt:=A.wt.dropLast})else if A.nx=A.g.length then none else some ((A.nx:Int),{A with nx:=A.nx+1})
def Ar.out(A:Ar)(x:Int):Ar:={A with g:=A.g.set x.toNat (A.cf x+1,true),ct:=A.ct+1}
def Ar.back(A:Ar)(x:Int):Ar:={A with g:=A.g.set x.toNat (A.cf x,false),ct:=A.ct - 1,wt:=if A.cf x<A.mo then A.wt++[x]else A.wt}
def Ar.aX(A:Ar):Nat:=A.g.countP (·.2)
theorem count_set{L:List (Nat×Bool)}{i:Nat}{y:Nat×Bool}(h:L[i]? =some y)(v:Nat)(b:Bool):(L.set i (v,b)).countP (·.2)+y.2.toNat=L.countP (·.2)+b.toNat:=by
 induction L generalizing i with
 |nil=>simp at h
 |cons a r ih=>
  cases i with
  |zero=>
   simp at h
   subst h
   rw[List.set_cons_zero,List.countP_cons,List.countP_cons]
   cases a.2<;>cases b<;>simp
  |succ i=>
   have:=ih (i:=i) (by simpa using h)
   rw[List.set_cons_succ,List.countP_cons,List.countP_cons]
   omega
structure AV(A:Ar):Prop where
 wl:∀x∈A.wt,¬A.live x∧x<A.nx∧0≤x
 wd:A.wt.Nodup
 fr:∀x:Int,A.nx≤x→¬A.live x
 ct:A.ct=A.aX
 nx:A.nx≤A.g.length
structure TQ where
 a:Nat
 sb:Nat
 fo:Option Nat
def TQ.S(B:TQ)(z:Nat):Prop:=z=B.a∨z=B.sb∨B.fo=some z
structure JY(H:Hp)(B:TQ)(A:Ar):Prop where
 own:∃tv,H.own B.a=some [.slice (some ⟨B.sb,0,none⟩) A.g.length A.g.length,tv,i64 A.nx,i64 A.ct,.int .u32 (A.mo:Int)]∧Sl H 1 tv A.wt.length (A.wt.map i64) B.fo
 sl:H.own B.sb=some (du A.g)
 ne:B.a≠B.sb∧B.fo≠some B.a∧B.fo≠some B.sb
 len:A.g.length≤65536
 ok:AV A
 gs:∀y∈A.g,y.1≤4294967295
 mo:A.mo≤4294967295
section
variable {H H' : Hp} {B : TQ} {A : Ar} {T : Nat → Prop}
theorem JY.slt(m:JY H B A):∀z,B.S z→z<H.size:=by
 obtain⟨tv,h1,h2⟩:=m.own
 rintro z (rfl|rfl|h)
 ·exact aO h1
 ·exact aO m.sl
 ·rw[h]at h2;exact Sl.lt h2
theorem JY.ext(m:JY H B A)(e:ai T H H')(hd:∀z,B.S z→¬T z):JY H' B A:=by
 obtain⟨tv,h1,h2⟩:=m.own
 exact⟨⟨tv,e.own h1 (hd _ (.inl rfl)),h2.ext e (fun b hb=>hd b (.inr (.inr hb)))⟩,e.own m.sl (hd _ (.inr (.inl rfl))),m.ne,m.len,m.ok,m.gs,m.mo⟩
theorem Ar.get{A:Ar}{x:Int}(hx:0≤x∧x<A.g.length):∃b,A.g[x.toNat]? =some (A.cf x,b)∧(A.live x↔b=true):=by
 obtain⟨y,hy⟩:∃y,A.g[x.toNat]? =some y:=⟨_,List.getElem?_eq_getElem (by omega)⟩
 refine⟨y.2,?_,?_⟩
 ·unfold Ar.cf
  rw[List.getD_eq_getElem?_getD,hy];rfl
 ·unfold Ar.live
  rw[hy]
  simp[hx.1]
theorem Ar.Cs{A:Ar}{x:Int}(h:A.live x):0≤x∧x<A.g.length:=by
 obtain⟨h0,h1⟩:=h
 cases hy:A.g[x.toNat]? with
 |none=>rw[hy]at h1;cases h1
 |some y=>
  have:=(List.getElem?_eq_some_iff.1 hy).1
  omega
theorem JY.wtl(m:JY H B A):A.wt.length≤65536∧∀x∈A.wt,0≤x∧x<A.g.length:=by
 have h1:∀x∈A.wt,0≤x∧x<A.g.length:=fun x hx=>by
  have:=m.ok.wl x hx
  have:=m.ok.nx
  omega
 exact⟨Nat.le_trans (bY m.ok.wd h1) m.len,h1⟩
theorem Nl(k:Nat):cQ [Value.int .u32 0,Value.bool false] k=du (List.replicate k (0,false)):=by
 unfold cQ du
 induction k with
 |zero=>rfl
 |succ k ih=>rw[List.replicate_succ,List.replicate_succ,List.flatten_cons,List.flatMap_cons,ih];rfl
theorem Gz(H:Hp){n:Int}{mo:Nat}(hn:0≤n∧n≤65536)(hm:0<mo∧mo≤4294967295):ah Tryz.prog KZ [i64 n,.int .u32 (mo:Int)] H fun v H'=>ax (∃B,v= .tuple [ptr B.a,i64 0].toArray∧JY H' B ⟨List.replicate n.toNat (0,false),[],0,0,mo⟩∧ay H H'∧∀z,B.S z→H.size≤z):=by
 refine bc K8 ⟨rfl,?_⟩
 refine v1 wF.eq_1 ?_
 refine am.dec (fun g=>absurd g (by omega)) (fun _=>?_)
 refine vs ?_
 refine am.dec (fun g=>absurd g (by omega)) (fun _=>?_)
 refine vs ?_
 refine am.dec (fun g=>absurd g (by omega)) (fun _=>?_)
 refine vs ?_
 refine⟨⟨by omega,by omega,by omega,by omega⟩,?_⟩
 refine vs ?_
 rw[Nl]
 refine⟨⟨H.size+1,H.size,none⟩,rfl,⟨⟨.slice none 0 0,?_,Sl.nil _ _⟩,?_,⟨by simp only;omega,by simp,by simp⟩,by rw[List.length_replicate];omega,⟨by simp,List.nodup_nil,fun x _ hx=>?_,by simp[Ar.aX,List.countP_replicate],Nat.zero_le _⟩,fun y hy=>by rw[(List.mem_replicate.1 hy).2];simp,hm.2⟩,((ai.refl _ _).new _ _).new _ _,fun z hz=>?_⟩
 ·rw[List.length_replicate]
  exact bC (by simp only[au])
 rotate_left
 ·obtain⟨h0,h1⟩:=hx
  simp only[List.getElem?_replicate]at h1
  split at h1<;>simp at h1
 rotate_left
 ·simp only
  rw[cz (by simp only[au];omega),aG]
 ·rcases hz with h|h|h
  ·simp only at h;omega
  ·simp only at h;omega
  ·cases h
theorem ve(m:JY H B A)(x:Int)(g:Nat):ah Tryz.prog zX [ptr B.a,kM x g] H fun v H'=>ax (v= .bool (decide (A.live x∧A.cf x=g))∧ay H H'):=by
 obtain⟨tv,o1,_⟩:=m.own
 refine bc Aw ⟨rfl,?_⟩
 refine v1 jF.eq_1 ?_
 have f0:ay H (H.new 114 [i64 x,.int .u32 (g:Int)]):=(ai.refl _ _).new _ _
 have b0:(H.new 114 [i64 x,.int .u32 (g:Int)]).own H.size=some [i64 x,.int .u32 (g:Int)]:=aG _ _ _
 have m0:=m.ext f0 (fun _ _ h=>h)
 generalize H.new 114 [i64 x,.int .u32 (g:Int)]=H0 at*
 obtain⟨tv0,o0,_⟩:=m0.own
 refine am.dec (fun h0=>?_) (fun h0=>?_)<;>refine v2 (ae b0) (ae o0) ?_
 rotate_left
 ·rw[decide_eq_false (fun h=>h0 h.1.1)]
  exact⟨rfl,f0⟩
 refine am.dec (fun h1=>?_) (fun h1=>?_)<;>refine v2 (ae b0) (ae o0) ?_
 rotate_left
 ·rw[decide_eq_false (fun h=>h1 (Ar.Cs h.1).2)]
  exact⟨rfl,f0⟩
 obtain⟨b,hb,xk⟩:=Ar.get (A:=A) (x:=x) ⟨h0,h1⟩
 obtain⟨c1,c2⟩:=xj hb
 have hl:=te A.g
 refine⟨⟨by omega,by omega⟩,?_⟩
 refine v2 (ae m0.sl) Nat.zero_add ?_
 have hdt:((du A.g).drop (x.toNat*2)).take 2=[.int .u32 (A.cf x:Int),.bool b]:=by
  apply List.ext_getElem?
  intro k
  match k with
  |0=>rw[List.getElem?_take_of_lt (by omega),List.getElem?_drop,Nat.add_zero];exact c1
  |1=>rw[List.getElem?_take_of_lt (by omega),List.getElem?_drop];exact c2
  |k+2=>rw[List.getElem?_eq_none (by simp;omega)];rfl
 rw[hdt]
 refine⟨by omega,?_⟩
 refine v1 (ae b0) ?_
 have heq:Ct [(0,none,Shape.int),(1,none,Shape.bool)] [Value.int IntKind.u32 (A.cf x:Int),Value.bool b] [Value.int IntKind.u32 (g:Int),Value.bool true]=some (decide (A.cf x=g) && b):=by
  by_cases hg:A.cf x=g
  ·cases b<;>simp[Ct,tf,bA,hg,xl]
  ·have:¬ (A.cf x:Int)=(g:Int):=by omega
   cases b<;>simp[Ct,tf,bA,hg,xl,this]
 rw[heq]
 simp(disch:=(first|omega| (simp only[Zs]<;>omega)|fail)) only[go_sem, ↓reduceIte,Zv,Option.map_some]
 refine⟨congrArg Value.bool ?_,f0⟩
 by_cases hg:A.cf x=g
 ·rw[decide_eq_true hg,Bool.true_and]
  cases DN:b
  ·exact(decide_eq_false (fun h=>by have:=xk.1 h.1;rw[DN]at this;cases this)).symm
  ·exact(decide_eq_true ⟨xk.2 DN,hg⟩).symm
 ·rw[decide_eq_false hg,decide_eq_false (fun h=>hg h.2)]
  rfl
theorem Is(m:JY H B A){x:Int}(hx:A.live x):ah Tryz.prog Df [ptr B.a,i64 x] H fun v H'=>ax (v= .tuple [kM x (A.cf x),.bool true].toArray∧ay H H'):=by
 obtain⟨tv,o1,_⟩:=m.own
 have xm:=Ar.Cs hx
 obtain⟨b,hb,xk⟩:=Ar.get (A:=A) (x:=x) xm
 obtain rfl:=xk.1 hx
 obtain⟨c1,c2⟩:=xj hb
 have hl:=te A.g
 refine bc Dr ⟨rfl,?_⟩
 refine v1 mF.eq_1 ?_
 have f0:ay H (H.new 114 [Value.int .i64 0,Value.int .u32 0]):=(ai.refl _ _).new _ _
 have b0:(H.new 114 [Value.int .i64 0,Value.int .u32 0]).own H.size=some [Value.int .i64 0,Value.int .u32 0]:=aG _ _ _
 have m0:=m.ext f0 (fun _ _ h=>h)
 have z0:(H.new 114 [Value.int .i64 0,Value.int .u32 0]).size=H.size+1:=au _ _ _
 generalize H.new 114 [Value.int .i64 0,Value.int .u32 0]=H0 at*
 obtain⟨tv0,o0,_⟩:=m0.own
 refine am.dec (fun h=>absurd h (by omega)) (fun _=>?_)
 refine v1 (ae o0) ?_
 refine am.dec (fun h=>absurd h (by omega)) (fun _=>?_)
 refine v1 (ae o0) ?_
 refine⟨⟨by omega,by omega⟩,?_⟩
 refine v4 (ae m0.sl) Nat.zero_add c2 (ae o0) ?_
 refine⟨⟨by omega,by omega⟩,?_⟩
 refine v5 (ae m0.sl) Nat.zero_add Nat.add_zero c1 b0 ?_
 have e1:ai (fun z=>z=H.size) H0 (H0.wr H.size [Value.int .i64 x,Value.int .u32 (A.cf x:Int)]):=(ai.refl (fun z=>z=H.size) _).wr (fun _=>rfl) _
 have b1:(H0.wr H.size [Value.int .i64 x,Value.int .u32 (A.cf x:Int)]).own H.size=some [Value.int .i64 x,Value.int .u32 (A.cf x:Int)]:=aj b0
 refine v1 (ae b1) ?_
 exact⟨rfl,f0.then e1 (fun z hz=>by omega)⟩
end
end Go.Proofs.YtjlnnljohemifaaGreat

namespace Go.Proofs.YtjlnnljohemifaaGreat
open Go Go.Vc
theorem TR{H:Hp}{v:Value}{size n:Nat}{xs:List Value}{fp:Option Nat}(h:Sl H size v n xs fp):∃a c,v= .slice a n c∧n≤c:=by
 obtain⟨_,h⟩:=h
 cases fp with
 |none=>obtain⟨rfl,rfl⟩:=h;exact⟨_,_,rfl,Nat.le_refl _⟩
 |some b=>obtain⟨l,c,rfl,_,hc,_⟩:=h;exact⟨_,_,rfl,hc⟩
theorem ez.num{H:Hp}{a:Option Addr}{n c:Nat}{xs:List Int}(h:ez H 1 (.slice a n c) n (xs.map i64)){i:Nat}{x:Int}(hx:xs[i]? =some x):
  i<n∧∃b o lb,a=some ⟨b,o,none⟩∧H.rd b=some lb∧lb[o+i]? =some (i64 x):=by
 obtain⟨hl,hv⟩:=h
 rw[List.length_map,Nat.mul_one]at hl
 have hi:=(List.getElem?_eq_some_iff.1 hx).1
 refine⟨by omega,?_⟩
 rcases hv with ⟨hn,_⟩| ⟨b,o,c2,l,hs,mw,Bu,ht⟩
 ·omega
 ·injection hs with fK Ox Io
  refine⟨b,o,l,fK,mw,?_⟩
  have h7:(xs.map i64)[i]? =some (i64 x):=by rw[List.getElem?_map,hx];rfl
  rw[←ht,List.getElem?_take,if_pos (by omega),List.getElem?_drop]at h7
  exact h7
theorem gv{H:Hp}{a:Option Addr}{c:Nat}{xs:List Int}(h:ez H 1 (.slice a xs.length c) xs.length (xs.map i64))(x:Int)(hm:xs.length≤1000000000):
  ah Tryz.prog tL [.slice a xs.length c,i64 x] H fun v H'=>ax ((∃i:Int,v=i64 i∧((i= -1∧x∉xs)∨(0≤i∧xs[i.toNat]? =some x)))∧H'=H):=by
 refine bc tW ⟨rfl,?_⟩
 refine v1 fi.eq_1 ?_
 refine bD.intro (fun m env H'=>H'=H∧∃j:Nat,m=xs.length - j∧j≤xs.length∧(∀e∈xs.take j,x≠e)∧env=[(0,.slice a xs.length c),(1,i64 x),(7,i64 xs.length),(8,i64 j)]) xs.length ⟨rfl,0,by omega,by omega,by simp,rfl⟩ ?_
 rintro m env H1 ⟨e1,j,hmj,hj,fY,rfl⟩
 obtain rfl:=e1.symm
 refine vs ?_
 refine am.dec (fun aR=>?_) (fun aR=>?_)<;>refine vs ?_
 ·have mA:j<xs.length:=by omega
  obtain⟨e,he⟩:∃e,xs[j]? =some e:=⟨_,List.getElem?_eq_getElem mA⟩
  obtain⟨_,b,o,lb,rfl,DW,bM⟩:=ez.num h he
  refine⟨⟨by omega,by omega⟩,?_⟩
  refine v4 DW Int.toNat_natCast Nat.mul_one bM ?_
  refine am.dec (fun hx=>?_) (fun hx=>?_)<;>refine vs ?_
  ·exact⟨⟨j,rfl,.inr ⟨by omega,by rw[Int.toNat_natCast,he,hx]⟩⟩,rfl⟩
  ·rw[wrap64 (n:=(j:Int)+1) (by omega) (by omega)]
   refine⟨xs.length - (j+1),by omega,trivial,j+1,rfl,by omega,?_,rfl⟩
   intro e' tD
   rw[List.take_add_one,he]at tD
   rcases List.mem_append.1 tD with tD|tD
   ·exact fY e' tD
   ·have:e'=e:=by simpa using tD
    rw[this];exact hx
 ·have mA:j=xs.length:=by omega
  subst mA
  rw[List.take_length]at fY
  exact⟨⟨-1,rfl,.inl ⟨rfl,fun hm=>fY x hm rfl⟩⟩,rfl⟩
theorem xo{H:Hp}{a:Option Addr}{c:Nat}{xs:List Int}(h:ez H 1 (.slice a xs.length c) xs.length (xs.map i64))(x:Int)(hm:xs.length≤1000000000):
  ah Tryz.prog qI [.slice a xs.length c,i64 x] H fun v H'=>ax (v= .bool (decide (x∈xs))∧H'=H):=by
 refine bc qJ ⟨rfl,?_⟩
 refine v1 dO.eq_1 ?_
 refine(gv h x hm).mono ?_
 rintro _ H1 ⟨⟨i,rfl,hi⟩,e⟩
 obtain rfl:=e.symm
 refine vs ?_
 refine⟨congrArg Value.bool ?_,rfl⟩
 rcases hi with ⟨rfl,h1⟩| ⟨h0,h1⟩
 ·rw[decide_eq_false h1];rfl
 ·rw[decide_eq_true (List.mem_of_getElem? h1)]
  exact decide_eq_true (by omega)
theorem Fk{H:Hp}{a:Option Addr}{c:Nat}{xs:List Int}(f:FuncId)(tg:List Value)(q:Int→Bool)(h:ez H 1 (.slice a xs.length c) xs.length (xs.map i64))(Fl:eV Tryz.prog f=true)
  (hf:∀x,ah Tryz.prog f (i64 x::tg) H fun v Gk=>ax (v= .bool (q x)∧Gk=H))(hm:xs.length≤1000000000):
  ah Tryz.prog gD [.slice a xs.length c,.func (.func f) #[] tg.toArray] H fun v H'=>ax ((∃i:Int,v=i64 i∧((i= -1∧∀x∈xs,q x=false)∨(0≤i∧(∀x∈xs.take i.toNat,q x=false)∧∃x,xs[i.toNat]? =some x∧q x=true)))∧H'=H):=by
 refine bc gI ⟨rfl,?_⟩
 refine v1 cJ.eq_1 ?_
 refine bD.intro (fun m env H'=>H'=H∧∃j:Nat,m=xs.length - j∧j≤xs.length∧(∀e∈xs.take j,q e=false)∧env=[(0,.slice a xs.length c),(1,.func (.func f) #[] tg.toArray),(7,i64 xs.length),(8,i64 j)]) xs.length ⟨rfl,0,by omega,by omega,by simp,rfl⟩ ?_
 rintro m env H1 ⟨e1,j,hmj,hj,fY,rfl⟩
 obtain rfl:=e1.symm
 refine vs ?_
 refine am.dec (fun aR=>?_) (fun aR=>?_)<;>refine vs ?_
 ·have mA:j<xs.length:=by omega
  obtain⟨e,he⟩:∃e,xs[j]? =some e:=⟨_,List.getElem?_eq_getElem mA⟩
  obtain⟨_,b,o,lb,rfl,DW,bM⟩:=ez.num h he
  refine⟨⟨by omega,by omega⟩,?_⟩
  refine v4 DW Int.toNat_natCast Nat.mul_one bM ?_
  refine⟨Fl,?_⟩
  refine ah.mono (by simpa using hf e) ?_
  rintro _ H2 ⟨rfl,e2⟩
  obtain rfl:=e2.symm
  refine vs ?_
  cases hx:q e
  ·refine vs ?_
   rw[wrap64 (n:=(j:Int)+1) (by omega) (by omega)]
   refine⟨xs.length - (j+1),by omega,trivial,j+1,rfl,by omega,?_,rfl⟩
   intro e' tD
   rw[List.take_add_one,he]at tD
   rcases List.mem_append.1 tD with tD|tD
   ·exact fY e' tD
   ·have:e'=e:=by simpa using tD
    rw[this];exact hx
  ·refine vs ?_
   exact⟨⟨j,rfl,.inr ⟨by omega,by rw[Int.toNat_natCast];exact fY,e,by rw[Int.toNat_natCast];exact he,hx⟩⟩,rfl⟩
 ·have mA:j=xs.length:=by omega
  subst mA
  rw[List.take_length]at fY
  exact⟨⟨-1,rfl,.inl ⟨rfl,fY⟩⟩,rfl⟩
theorem LD(k:Nat):cQ [Value.int .i64 0] k=(List.replicate k (0:Int)).map i64:=by
 unfold cQ
 induction k with
 |zero=>rfl
 |succ k ih=>rw[List.replicate_succ,List.replicate_succ,List.flatten_cons,List.map_cons,ih];rfl
theorem GA(l new:List Value)(i:Nat)(h:i+new.length≤l.length):(bq l i new).take i=l.take i:=by
 apply List.ext_getElem?
 intro k
 by_cases hk:k<i
 ·rw[List.getElem?_take_of_lt hk,List.getElem?_take_of_lt hk,getElem?_splice new l i k h,if_neg (by omega)]
 ·rw[List.getElem?_eq_none (by simp;omega),List.getElem?_eq_none (by simp;omega)]
set_option maxRecDepth 100000 in
theorem DX{H:Hp}{v:Value}{xs:List Int}{fp:Option Nat}(s:Sl H 1 v xs.length (xs.map i64) fp)(f:FuncId)(tg:List Value)(q:Int→Bool)(Fl:eV Tryz.prog f=true)
  (hf:∀H',ai (fun z=>fp=some z) H H'→∀x,ah Tryz.prog f (i64 x::tg) H' fun v Gk=>ax (v= .bool (q x)∧Gk=H'))(hm:xs.length≤1000000000):
  ah Tryz.prog pk [v,.func (.func f) #[] tg.toArray] H fun v' H'=>ax (Sl H' 1 v' (xs.filter fun x=> !q x).length ((xs.filter fun x=> !q x).map i64) fp∧ai (fun z=>fp=some z) H H'):=by
 obtain⟨a,c,rfl⟩:=Sl.shape s
 refine bc pq ⟨rfl,?_⟩
 refine v1 dk.eq_1 ?_
 refine(Fk f tg q s.rd Fl (hf H (ai.refl _ _)) hm).mono ?_
 rintro _ H1 ⟨⟨i0,rfl,Ff⟩,e⟩
 obtain rfl:=e.symm
 refine vs ?_
 rcases Ff with ⟨rfl,fY⟩| ⟨h0,fY,x0,ie,UY⟩
 ·refine am.cj (by simp) ?_
  refine vs ?_
  have:xs.filter (fun x=> !q x)=xs:=by
   rw[List.filter_eq_self]
   intro x hx
   rw[fY x hx];rfl
  rw[this]
  exact⟨s,ai.refl _ _⟩
 obtain⟨i,rfl⟩:∃i:Nat,i0=(i:Int):=⟨i0.toNat,by omega⟩
 rw[Int.toNat_natCast]at fY ie
 have hi:=(List.getElem?_eq_some_iff.1 ie).1
 refine am.dec (fun h=>by omega) (fun _=>?_)
 refine vs ?_
 obtain⟨_,b,lb0,rfl,_,_⟩:=Sl.AU s ie
 have l9:fp=some b:=by
  cases fp with
  |none=>have:=s.2.2;injection this with h1;cases h1
  |some b'=>obtain⟨_,_,h1,_⟩:=s.2;injection h1 with h1;injection h1 with h1;injection h1 with h1;rw[h1]
 subst l9
 have f0:(xs.take (i+1)).filter (fun x=> !q x)=xs.take i:=by
  rw[List.take_add_one,ie,List.filter_append]
  have h1:(xs.take i).filter (fun x=> !q x)=xs.take i:=by
   rw[List.filter_eq_self]
   intro x hx
   rw[fY x hx];rfl
  rw[h1]
  simp[UY]
 rw[wrap64 (by omega) (by omega)]
 refine bD.intro (fun m env H'=>∃ (i j:Nat) (ys:List Int),m=xs.length - j∧j≤xs.length∧i<j∧i=((xs.take j).filter fun x=> !q x).length∧ys.length=xs.length∧ys.take i=(xs.take j).filter (fun x=> !q x)∧ys.drop j=xs.drop j∧
  Sl H' 1 (.slice (some ⟨b,0,none⟩) xs.length c) xs.length (ys.map i64) (some b)∧ai (fun z=>some b=some z) H H'∧env=[(0,.slice (some ⟨b,0,none⟩) xs.length c),(1,.func (.func f) #[] tg.toArray),(5,i64 i),(6,i64 j)]) _
  ⟨i,i+1,xs,rfl,by omega,by omega,by rw[f0,List.length_take];omega,rfl,f0.symm,rfl,s,ai.refl _ _,rfl⟩ ?_
 clear fY ie UY f0 hi h0
 rintro m env H2 ⟨i,j,ys,rfl,hj,KJ,tC,ZU,hyt,UZ,s2,e2,rfl⟩
 obtain⟨_,lb,c2,fK,q2,Io,QK,Tg⟩:=id s2
 injection fK with _ _ fK
 subst fK
 rw[Nat.mul_one]at QK Tg
 refine vs ?_
 refine am.dec (fun aR=>?_) (fun aR=>?_)<;>refine vs ?_
 ·have mA:j<xs.length:=by omega
  obtain⟨x,hx⟩:∃x,xs[j]? =some x:=⟨_,List.getElem?_eq_getElem mA⟩
  have qL:ys[j]? =some x:=by
   have h1:(ys.drop j)[0]? =(xs.drop j)[0]? :=by rw[UZ]
   rwa[List.getElem?_drop,List.getElem?_drop,Nat.add_zero,hx]at h1
  have bM:lb[j]? =some (i64 x):=s2.get q2 (by rw[List.getElem?_map,qL];rfl)
  have tk:xs.take (j+1)=xs.take j++[x]:=by rw[List.take_add_one,hx];rfl
  have dj:∀zs:List Int,zs.length=xs.length→(∀k,j<k→zs[k]? =ys[k]?)→zs.drop (j+1)=xs.drop (j+1):=fun zs hz hk=>by
   apply List.ext_getElem?
   intro k
   have h1:(ys.drop j)[k+1]? =(xs.drop j)[k+1]? :=by rw[UZ]
   rw[List.getElem?_drop,List.getElem?_drop]at h1 ⊢
   rw[hk _ (by omega),show j+1+k=j+(k+1) by omega]
   exact h1
  refine⟨⟨by omega,by omega⟩,?_⟩
  refine v5 (ae q2) Nat.zero_add Nat.mul_one Int.toNat_natCast bM ?_
  refine⟨Fl,?_⟩
  refine ah.mono (by simpa using hf H2 e2 x) ?_
  rintro _ H3 ⟨rfl,e⟩
  obtain rfl:=e.symm
  refine vs ?_
  cases hq:q x
  ·refine vs ?_
   refine⟨⟨by omega,by omega⟩,?_⟩
   refine v4 q2 Nat.zero_add Nat.mul_one Int.toNat_natCast ?_
   refine⟨by omega,?_⟩
   have s3:=s2.vP q2 i (i64 x)
   have e3:ai (fun z=>some b=some z) H2 (H2.wr b (lb.set i (i64 x))):=(ai.refl (fun z=>some b=some z) _).wr (fun _=>rfl) _
   refine vs ?_
   rw[wrap64 (n:=(i:Int)+1) (by omega) (by omega),wrap64 (n:=(j:Int)+1) (by omega) (by omega)]
   have ff:(xs.take (j+1)).filter (fun x=> !q x)=(xs.take j).filter (fun x=> !q x)++[x]:=by
    rw[tk,List.filter_append]
    simp[hq]
   refine⟨xs.length - (j+1),by omega,i+1,j+1,ys.set i x,rfl,by omega,by omega,by rw[ff,List.length_append,←tC];rfl,by rw[List.length_set];exact ZU,?_,dj _ (by rw[List.length_set];exact ZU) (fun k hk=>by rw[List.getElem?_set_ne (by omega)]),?_,e2.trans e3,rfl⟩
   ·rw[ff,←hyt,List.take_add_one,List.getElem?_set_self (by omega),List.take_set_of_le (by omega)]
    rfl
   ·rw[List.map_set];exact s3
  ·refine vs ?_
   rw[wrap64 (n:=(j:Int)+1) (by omega) (by omega)]
   have ff:(xs.take (j+1)).filter (fun x=> !q x)=(xs.take j).filter (fun x=> !q x):=by
    rw[tk,List.filter_append]
    simp[hq]
   exact⟨xs.length - (j+1),by omega,i,j+1,ys,rfl,by omega,by omega,by rw[ff];exact tC,ZU,by rw[ff];exact hyt,dj ys ZU (fun k _=>rfl),s2,e2,rfl⟩
 ·obtain rfl:j=xs.length:=by omega
  rw[List.take_length]at hyt tC
  refine⟨⟨by omega,by omega,by omega,by omega⟩,?_⟩
  refine vs ?_
  have hic:¬ (c:Int)=(i:Int):=by omega
  have hlz:(cQ [Value.int .i64 0] (xs.length - i)).length=xs.length - i:=by rw[LD];simp
  rw[if_neg hic]
  refine .inr ⟨by simp only[Int.toNat_natCast];omega,b,i,lb,?_,by rw[q2];rfl,?_,?_,?_⟩
  ·simp[Addr.add]
   exact fun h=>h.symm
  ·rw[Int.toNat_natCast,Int.toNat_natCast,LD]
   exact FJ _
  ·rw[Int.toNat_natCast,Int.toNat_natCast]
   show i+(xs.length - i)*1≤lb.length
   omega
  ·rw[Int.toNat_natCast,Int.toNat_natCast]
   have e3:ai (fun z=>some b=some z) H2 (H2.wr b (bq lb i (cQ [Value.int .i64 0] (xs.length - i)))):=(ai.refl (fun z=>some b=some z) _).wr (fun _=>rfl) _
   have q3:(H2.wr b (bq lb i (cQ [Value.int .i64 0] (xs.length - i)))).own b=some (bq lb i (cQ [Value.int .i64 0] (xs.length - i))):=aj q2
   refine vs ?_
   refine⟨⟨by omega,by omega,by omega,by omega⟩,?_⟩
   have qP:¬ (c:Int)=((0:Nat):Int):=by omega
   refine vs ?_
   rw[if_neg qP]
   rw[←hyt]
   refine⟨⟨by simp,bq lb i (cQ [Value.int .i64 0] (xs.length - i)),c,?_,q3,?_,?_,?_⟩,e2.trans e3⟩
   ·have h1:(ys.take i).length=i:=by rw[List.length_take];omega
    rw[h1]
    simp[M3,Addr.add]
   ·rw[List.length_take];omega
   ·rw[ng];omega
   ·rw[Nat.mul_one,List.length_take,Nat.min_eq_left (by omega),GA _ _ _ (by rw[hlz];omega),List.map_take,←Tg,List.take_take,Nat.min_eq_left (by omega)]
section
variable {H H' : Hp} {B : TQ} {A A' : Ar} {T : Nat → Prop} {x : Int}
theorem Ar.Cu{A A':Ar}{x:Int}(h:A.pick=some (x,A'))(ok:AV A):(0≤x∧x<A.g.length)∧¬A.live x∧x∉A'.wt∧x<A'.nx∧A'.g=A.g∧A'.ct=A.ct∧A'.mo=A.mo:=by
 have JZ:=ok.nx
 unfold Ar.pick at h
 split at h
 ·rename_i aS
  injection h with h
  injection h with h1 h2
  subst h1 h2
  have hw:A.wt=A.wt.dropLast++[A.wt.getLastD 0]:=by
   conv=>lhs;rw[←List.dropLast_concat_getLast aS]
   rw[List.getLastD_eq_getLast?,List.getLast?_eq_some_getLast aS]
   rfl
  have hm:A.wt.getLastD 0∈A.wt:=by rw[hw];simp
  have h5:=ok.wl _ hm
  refine⟨by omega,h5.1,fun hd=>?_,h5.2.1,rfl,rfl,rfl⟩
  have kM:=ok.wd
  rw[hw,List.nodup_append]at kM
  exact kM.2.2 _ hd _ (by simp) rfl
 ·split at h
  ·cases h
  ·rename_i h1 h2
   injection h with h
   injection h with h3 h4
   subst h3 h4
   refine⟨by omega,ok.fr _ (Int.le_refl _),fun hm=>?_,by simp only;omega,rfl,rfl,rfl⟩
   have:=ok.wl _ hm
   omega
theorem Ar.qq{A A':Ar}{x y:Int}{v:Nat}{b:Bool}(hx:0≤x∧x<A.g.length)(h:A'.g=A.g.set x.toNat (v,b))(hy:0≤y):A'.live y↔if y=x then b=true else A.live y:=by
 unfold Ar.live
 rw[h]
 by_cases e:y=x
 ·rw[if_pos e,e,List.getElem?_set_self (by omega)]
  simp[hx.1]
 ·rw[if_neg e,List.getElem?_set_ne (by omega)]
theorem Ar.OE{A A':Ar}{x y:Int}{v:Nat}{b:Bool}(hx:0≤x∧x<A.g.length)(h:A'.g=A.g.set x.toNat (v,b))(hy:0≤y):A'.cf y=if y=x then v else A.cf y:=by
 unfold Ar.cf
 rw[h,List.getD_eq_getElem?_getD,List.getD_eq_getElem?_getD]
 by_cases e:y=x
 ·rw[if_pos e,e,List.getElem?_set_self (by omega)];rfl
 ·rw[if_neg e,List.getElem?_set_ne (by omega)]
theorem AV.out{A A':Ar}{x:Int}(ok:AV A')(hg:A'.g=A.g)(hx:0≤x∧x<A'.g.length)(hl:¬A'.live x)(hw:x∉A'.wt)(hn:x<A'.nx):AV (A'.out x):=by
 obtain⟨b,hb,Hx⟩:=Ar.get hx
 have Wc:b=false:=by cases b;rfl;exact absurd (Hx.2 rfl) hl
 refine⟨fun y hy=>?_,ok.wd,fun y hy vU=>?_,?_,?_⟩
 ·obtain⟨h1,h2,h3⟩:=ok.wl y hy
  refine⟨fun h=>?_,h2,h3⟩
  rw[Ar.qq (A:=A') hx rfl h3,if_neg (fun e=>hw (by rw[←e];exact hy))]at h
  exact h1 h
 ·have ZL:=vU.1
  have zN:(A'.nx:Int)≤y:=hy
  rw[Ar.qq (A:=A') hx rfl ZL,if_neg (by omega)]at vU
  exact ok.fr y zN vU
 ·have:=count_set hb (A'.cf x+1) true
  rw[Wc]at this
  have h2:=ok.ct
  show A'.ct+1=(((A'.g.set x.toNat (A'.cf x+1,true)).countP (·.2):Nat):Int)
  unfold Ar.aX at h2
  simp at this
  omega
 ·show A'.nx≤(A'.g.set x.toNat _).length
  rw[List.length_set];exact ok.nx
theorem AV.back{A:Ar}{x:Int}(ok:AV A)(hl:A.live x):AV (A.back x):=by
 have hx:=Ar.Cs hl
 obtain⟨b,hb,Hx⟩:=Ar.get hx
 have hbt:=Hx.1 hl
 have FI:x<A.nx:=Classical.byContradiction fun h=>ok.fr x (by omega) hl
 have Yh:x∉A.wt:=fun h=>(ok.wl x h).1 hl
 have Yi:¬ (A.back x).live x:=fun h=>by
  rw[Ar.qq (A:=A) hx rfl hx.1,if_pos rfl]at h
  cases h
 have DY:∀y,0≤y→(A.back x).live y→A.live y:=fun y h0 h=>by
  rw[Ar.qq (A:=A) hx rfl h0]at h
  split at h
  ·cases h
  ·exact h
 refine⟨fun y hy=>?_,?_,fun y hy vU=>ok.fr y hy (DY y vU.1 vU),?_,?_⟩
 ·have zN:y∈(if A.cf x<A.mo then A.wt++[x]else A.wt):=hy
  have KI:y∈A.wt∨y=x:=by
   split at zN
   ·rcases List.mem_append.1 zN with h|h
    ·exact .inl h
    ·exact .inr (List.mem_singleton.1 h)
   ·exact .inl zN
  rcases KI with h|h
  ·obtain⟨h1,h2,h3⟩:=ok.wl y h
   exact⟨fun h4=>h1 (DY y h3 h4),h2,h3⟩
  ·rw[h];exact⟨Yi,FI,hx.1⟩
 ·show(if A.cf x<A.mo then A.wt++[x]else A.wt).Nodup
  split
  ·rw[List.nodup_append]
   refine⟨ok.wd,by simp,fun u hu v hv e=>Yh ?_⟩
   rw[List.mem_singleton.1 hv]at e
   rw[←e];exact hu
  ·exact ok.wd
 ·have:=count_set hb (A.cf x) false
  rw[hbt]at this
  have h2:=ok.ct
  show A.ct - 1=(((A.g.set x.toNat (A.cf x,false)).countP (·.2):Nat):Int)
  unfold Ar.aX at h2
  simp at this
  omega
 ·show A.nx≤(A.g.set x.toNat _).length
  rw[List.length_set];exact ok.nx
set_option maxRecDepth 100000 in
theorem Fm(m:JY H B A):ah Tryz.prog zY [ptr B.a] H fun v H'=>ax (
  (A.pick=none∧v= .tuple [i64 0,.bool false].toArray∧H'=H)∨(∃x A',A.pick=some (x,A')∧v= .tuple [i64 x,.bool true].toArray∧JY H' B A'∧ai (fun z=>z=B.a) H H')):=by
 obtain⟨tv,o1,s1⟩:=m.own
 obtain⟨wa,wc,rfl⟩:=Sl.shape s1
 have ZV:=m.wtl.1
 have dv:=m.len
 have JZ:=m.ok.nx
 refine bc Ay ⟨rfl,?_⟩
 refine v2 jG.eq_1 (ae o1) ?_
 refine am.dec (fun h0=>?_) (fun h0=>?_)
 ·have aS:A.wt≠[]:=fun h=>by rw[h]at h0;simp at h0
  obtain⟨k,hk⟩:∃k,A.wt.length=k+1:=⟨A.wt.length - 1,by omega⟩
  obtain⟨x,hx⟩:∃x,A.wt[k]? =some x:=⟨_,List.getElem?_eq_getElem (by omega)⟩
  have nG:A.wt.getLastD 0=x:=by
   rw[List.getLastD_eq_getLast?,List.getLast?_eq_getElem?,hk,Nat.add_sub_cancel,hx]
   rfl
  have hdl:A.wt.dropLast=A.wt.take k:=by rw[List.dropLast_eq_take,hk,Nat.add_sub_cancel]
  have U4:A.pick=some (x,{A with wt:=A.wt.take k}):=by
   unfold Ar.pick
   rw[if_pos aS,nG,hdl]
  obtain⟨b,lb,c,PG,QL,qb,qk,_,_,_⟩:∃b lb c,Value.slice wa A.wt.length wc= .slice (some ⟨b,0,none⟩) A.wt.length c∧B.fo=some b∧H.own b=some lb∧lb[k]? =some (i64 x)∧k<A.wt.length∧A.wt.length≤lb.length∧True:=by
   obtain⟨h1,b,lb,rfl,q2,q3⟩:=Sl.AU s1 hx
   have vk:=s1
   revert vk
   cases QL:B.fo with
   |none=>intro vk;have:=vk.2.2;injection this with h1;cases h1
   |some b'=>
    intro vk
    obtain⟨_,TS,c',hs,ho,hc,Bu,_⟩:=vk
    injection hs with fK Ox Io
    injection fK with fK
    injection fK with fK
    subst fK Io
    rw[q2]at ho
    injection ho with ho
    subst ho
    exact⟨b,lb,wc,rfl,rfl,q2,q3,h1,by omega,trivial⟩
  injection PG with fK Ox Io
  subst fK Io
  obtain⟨_,TS,c',hs,ho,hc,Bu,ht⟩:(A.wt.map i64).length=A.wt.length*1∧∃l c',Value.slice (some ⟨b,0,none⟩) A.wt.length wc= .slice (some ⟨b,0,none⟩) A.wt.length c'∧H.own b=some l∧A.wt.length≤c'∧c'*1≤l.length∧l.take (A.wt.length*1)=A.wt.map i64:=by
   have:=s1
   rw[QL]at this
   exact this
  injection hs with _ _ hs
  subst hs
  rw[qb]at ho
  injection ho with ho
  subst ho
  rw[Nat.mul_one]at Bu ht
  refine v1 (ae o1) ?_
  rw[wrap64 (n:=(A.wt.length:Int) - 1) (by omega) (by omega)]
  refine⟨⟨by omega,by omega⟩,?_⟩
  rw[show((A.wt.length:Int) - 1).toNat=k by omega]
  refine v5 (ae qb) Nat.zero_add Nat.mul_one qk (ae o1) ?_
  rw[wrap64 (n:=(A.wt.length:Int) - 1) (by omega) (by omega)]
  refine⟨⟨by omega,by omega,by omega,by omega⟩,?_⟩
  refine v1 o1 ?_
  rw[if_neg (show¬ (wc:Int)=((0:Nat):Int) by omega)]
  have e1:∀l,ai (fun z=>z=B.a) H (H.wr B.a l):=fun l=>(ai.refl (fun z=>z=B.a) _).wr (fun _=>rfl) _
  have ME:(A.wt.take k).length=k:=by rw[List.length_take];omega
  refine .inr ⟨x,_,U4,rfl,⟨⟨_,aj o1,?_⟩,(e1 _).own m.sl (Ne.symm m.ne.1),m.ne,m.len,⟨fun y hy=>m.ok.wl y (List.mem_of_mem_take hy),m.ok.wd.sublist (List.take_sublist _ _),m.ok.fr,m.ok.ct,m.ok.nx⟩,m.gs,m.mo⟩,e1 _⟩
  have hb:b≠B.a:=fun e=>m.ne.2.1 (by rw[QL,e])
  refine⟨by simp,?_⟩
  rw[QL]
  refine⟨lb,wc,?_,(e1 _).own qb hb,by rw[ME];omega,by rw[Nat.mul_one];exact Bu,?_⟩
  ·rw[ME,show((A.wt.length:Int) - 1).toNat - ((0:Nat):Int).toNat=k by omega]
   simp[Addr.add]
  ·rw[Nat.mul_one,List.map_take,←ht,List.take_take]
   congr 1
   rw[ME]
   omega
 ·refine v1 (ae o1) ?_
  have he:A.wt=[]:=List.length_eq_zero_iff.1 (by omega)
  refine am.dec (fun h1=>?_) (fun h1=>?_)
  ·refine vs ?_
   refine .inl ⟨?_,rfl,rfl⟩
   unfold Ar.pick
   rw[if_neg (by simp[he]),if_pos (by omega)]
  ·refine v2 (ae o1) o1 ?_
   rw[wrap64 (n:=(A.nx:Int)+1) (by omega) (by omega)]
   have e1:∀l,ai (fun z=>z=B.a) H (H.wr B.a l):=fun l=>(ai.refl (fun z=>z=B.a) _).wr (fun _=>rfl) _
   have q1:∀l,(H.wr B.a l).own B.a=some l:=fun l=>aj o1
   simp(disch:=(first|omega| (simp only[Zs]<;>omega)|fail)) only[go_sem, ↓reduceIte,Zv,ae (q1 _)]
   rw[wrap64 (n:=(A.nx:Int)+1 - 1) (by omega) (by omega)]
   have U4:A.pick=some ((A.nx:Int),{A with nx:=A.nx+1}):=by
    unfold Ar.pick
    rw[if_neg (by simp[he]),if_neg (by omega)]
   rw[show(A.nx:Int)+1 - 1=(A.nx:Int) by omega]
   refine .inr ⟨_,_,U4,rfl,⟨⟨.slice wa A.wt.length wc,q1 _,s1.ext (e1 _) (fun b hb e=>m.ne.2.1 (by rw[hb,e]))⟩,(e1 _).own m.sl (Ne.symm m.ne.1),m.ne,m.len,⟨fun y hy=>by have:=m.ok.wl y hy;exact⟨this.1,by simp only;omega,this.2.2⟩,m.ok.wd,fun y hy=>m.ok.fr y (by simp only at hy;omega),m.ok.ct,by simp only;omega⟩,m.gs,m.mo⟩,e1 _⟩
theorem Ar.OF(A:Ar):A.aX≤A.g.length:=List.countP_le_length
set_option maxRecDepth 100000 in
set_option maxHeartbeats 1000000 in
theorem Fo(m:JY H B A)(Wd:∀x:Int,0≤x→x<A.g.length→A.cf x<4294967295):ah Tryz.prog zW [ptr B.a] H fun v H'=>ax (
  (A.pick=none∧v= .tuple [kM 0 0,i64 32].toArray∧JY H' B A∧ay H H')∨(∃x A',A.pick=some (x,A')∧v= .tuple [kM x (A.cf x+1),i64 0].toArray∧JY H' B (A'.out x)∧ai B.S H H')):=by
 have fF:=m.slt
 refine bc Av ⟨rfl,?_⟩
 refine v1 jE.eq_1 ?_
 have f0:ay H (H.new 114 [Value.int .i64 0,Value.int .u32 0]):=(ai.refl _ _).new _ _
 have b0:(H.new 114 [Value.int .i64 0,Value.int .u32 0]).own H.size=some [Value.int .i64 0,Value.int .u32 0]:=aG _ _ _
 have m0:=m.ext f0 (fun _ _ h=>h)
 generalize H.new 114 [Value.int .i64 0,Value.int .u32 0]=H0 at*
 have Fp:∀z,B.S z→z≠H.size:=fun z hz=>by have:=fF z hz;omega
 refine(Fm m0).mono ?_
 rintro _ H1 (⟨hp,rfl,e⟩| ⟨x,A',hp,rfl,m1,e1⟩)
 ·obtain rfl:=e.symm
  refine v1 b0 ?_
  have e1:ai (fun z=>z=H.size) H0 (H0.wr H.size [Value.int .i64 0,Value.int .u32 0]):=(ai.refl (fun z=>z=H.size) _).wr (fun _=>rfl) _
  have b1:(H0.wr H.size [Value.int .i64 0,Value.int .u32 0]).own H.size=some [Value.int .i64 0,Value.int .u32 0]:=aj b0
  refine v1 (ae b1) ?_
  exact .inl ⟨hp,rfl,m0.ext e1 (fun z hz e=>Fp z hz e),f0.then e1 (fun z hz=>by omega)⟩
 obtain⟨xm,qV,Yh,FI,hg,hct,hmo⟩:=Ar.Cu hp m.ok
 have b1:=e1.own b0 (fun e=>Fp B.a (.inl rfl) e.symm)
 obtain⟨DU,o1,s1⟩:=m1.own
 have dv:=m1.len
 have ZW:0≤x∧x<A'.g.length:=by rw[hg];exact xm
 obtain⟨b,hb,Hx⟩:=Ar.get (A:=A') ZW
 have We:A'.cf x=A.cf x:=by unfold Ar.cf;rw[hg]
 have hgb:=Wd x xm.1 xm.2
 obtain⟨c1,c2⟩:=xj hb
 obtain⟨w1,_⟩:=DV hb
 have hl:=te A'.g
 refine v1 (ae o1) ?_
 refine⟨⟨by omega,by omega⟩,?_⟩
 refine v5 (ae m1.sl) m1.sl Nat.zero_add Nat.add_zero c1 ?_
 refine⟨by omega,?_⟩
 rw[TT (n:=(A'.cf x:Int)+1) (by omega) (by omega),show(A'.cf x:Int)+1=((A'.cf x+1:Nat):Int) by omega]
 refine v1 w1 ?_
 have e2:ai (fun z=>z=B.sb) H1 (H1.wr B.sb (du (A'.g.set x.toNat (A'.cf x+1,b)))):=(ai.refl (fun z=>z=B.sb) _).wr (fun _=>rfl) _
 have q2:(H1.wr B.sb (du (A'.g.set x.toNat (A'.cf x+1,b)))).own B.sb=some (du (A'.g.set x.toNat (A'.cf x+1,b))):=aj m1.sl
 generalize H1.wr B.sb (du (A'.g.set x.toNat (A'.cf x+1,b)))=H2 at*
 have DN:(A'.g.set x.toNat (A'.cf x+1,b))[x.toNat]? =some (A'.cf x+1,b):=List.getElem?_set_self (by omega)
 obtain⟨d1,_⟩:=xj DN
 have w2:=(DV DN).2 true
 rw[List.set_set]at w2
 have vU:=te (A'.g.set x.toNat (A'.cf x+1,b))
 rw[List.length_set]at vU
 refine v3 q2 Nat.zero_add Nat.add_zero ?_
 refine⟨by omega,?_⟩
 refine v1 w2 ?_
 have e3:ai (fun z=>z=B.sb) H2 (H2.wr B.sb (du (A'.g.set x.toNat (A'.cf x+1,true)))):=(ai.refl (fun z=>z=B.sb) _).wr (fun _=>rfl) _
 have q3:(H2.wr B.sb (du (A'.g.set x.toNat (A'.cf x+1,true)))).own B.sb=some (du (A'.g.set x.toNat (A'.cf x+1,true))):=aj q2
 generalize H2.wr B.sb (du (A'.g.set x.toNat (A'.cf x+1,true)))=H3 at*
 have Fj:=e2.trans e3
 have o3:=Fj.own o1 m.ne.1
 have ad6:=m1.ok.ct
 have ZX:=Ar.OF A'
 refine v2 (ae o3) o3 ?_
 rw[wrap64 (n:=A'.ct+1) (by omega) (by omega)]
 have e4:∀l,ai (fun z=>z=B.a) H3 (H3.wr B.a l):=fun l=>(ai.refl (fun z=>z=B.a) _).wr (fun _=>rfl) _
 have q4:∀l,(H3.wr B.a l).own B.a=some l:=fun l=>aj o3
 have QM:=(e4 [.slice (some ⟨B.sb,0,none⟩) A'.g.length A'.g.length,DU,i64 A'.nx,i64 (A'.ct+1),.int .u32 (A'.mo:Int)]).own q3 (Ne.symm m.ne.1)
 have b3:=(e4 [.slice (some ⟨B.sb,0,none⟩) A'.g.length A'.g.length,DU,i64 A'.nx,i64 (A'.ct+1),.int .u32 (A'.mo:Int)]).own (Fj.own b1 (fun e=>Fp B.sb (.inr (.inl rfl)) e.symm)) (fun e=>Fp B.a (.inl rfl) e.symm)
 have TL:(A'.g.set x.toNat (A'.cf x+1,true))[x.toNat]? =some (A'.cf x+1,true):=List.getElem?_set_self (by omega)
 obtain⟨d3,_⟩:=xj TL
 have s4:=(s1.ext Fj (fun b hb e=>m.ne.2.2 (by rw[hb,e]))).ext (e4 [.slice (some ⟨B.sb,0,none⟩) A'.g.length A'.g.length,DU,i64 A'.nx,i64 (A'.ct+1),.int .u32 (A'.mo:Int)]) (fun b hb e=>m.ne.2.1 (by rw[hb,e]))
 have m4:JY (H3.wr B.a [.slice (some ⟨B.sb,0,none⟩) A'.g.length A'.g.length,DU,i64 A'.nx,i64 (A'.ct+1),.int .u32 (A'.mo:Int)]) B (A'.out x):=by
  refine⟨⟨DU,?_,s4⟩,QM,m.ne,?_,m1.ok.out hg ZW (fun h=>qV (by unfold Ar.live at h ⊢;rw[hg]at h;exact h)) Yh FI,fun y hy=>?_,m1.mo⟩
  ·show _=some [.slice (some ⟨B.sb,0,none⟩) (A'.g.set x.toNat (A'.cf x+1,true)).length (A'.g.set x.toNat (A'.cf x+1,true)).length,DU,i64 A'.nx,i64 (A'.ct+1),.int .u32 (A'.mo:Int)]
   rw[List.length_set]
   exact q4 _
  ·show(A'.g.set x.toNat (A'.cf x+1,true)).length≤_
   rw[List.length_set];exact dv
  ·rcases List.mem_or_eq_of_mem_set hy with h|h
   ·exact m1.gs y h
   ·rw[h];simp only;omega
 have e4':=e4 [.slice (some ⟨B.sb,0,none⟩) A'.g.length A'.g.length,DU,i64 A'.nx,i64 (A'.ct+1),.int .u32 (A'.mo:Int)]
 generalize H3.wr B.a [.slice (some ⟨B.sb,0,none⟩) A'.g.length A'.g.length,DU,i64 A'.nx,i64 (A'.ct+1),.int .u32 (A'.mo:Int)]=H4 at*
 have Bo:ai B.S H H4:=((f0.mono fun _ _ h=>h.elim).trans (e1.mono fun z _ h=>.inl h)).trans ((Fj.mono fun z _ h=>.inr (.inl h)).trans (e4'.mono fun z _ h=>.inl h))
 refine v5 (ae QM) Nat.zero_add Nat.add_zero d3 b3 ?_
 have e5:ai (fun z=>z=H.size) H4 (H4.wr H.size [Value.int .i64 x,Value.int .u32 ((A'.cf x+1:Nat):Int)]):=(ai.refl (fun z=>z=H.size) _).wr (fun _=>rfl) _
 have b5:(H4.wr H.size [Value.int .i64 x,Value.int .u32 ((A'.cf x+1:Nat):Int)]).own H.size=some [Value.int .i64 x,Value.int .u32 ((A'.cf x+1:Nat):Int)]:=aj b3
 refine v1 (ae b5) ?_
 refine .inr ⟨x,A',hp,by rw[We];rfl,m4.ext e5 (fun z hz e=>Fp z hz e),⟨Nat.le_trans Bo.size e5.size,fun z hz hn=>?_⟩⟩
 rw[e5.aN z (Nat.lt_of_lt_of_le hz Bo.size) (fun e=>by omega),Bo.aN z hz hn]
set_option maxRecDepth 100000 in
set_option maxHeartbeats 1000000 in
theorem Fq(m:JY H B A){x:Int}(hx:A.live x):ah Tryz.prog zT [ptr B.a,kM x (A.cf x)] H fun v H'=>ax (v=i64 0∧∃RP,JY H' ⟨B.a,B.sb,RP⟩ (A.back x)∧ai B.S H H'∧∀z,RP=some z→B.fo=some z∨H.size≤z):=by
 have fF:=m.slt
 have xm:=Ar.Cs hx
 obtain⟨b,hb,Hx⟩:=Ar.get (A:=A) xm
 obtain rfl:=Hx.1 hx
 have hl:=te A.g
 have w1:=(DV hb).2 false
 have dv:=m.len
 have ad6:=m.ok.ct
 have ZX:=Ar.OF A
 refine bc An ⟨rfl,?_⟩
 refine v1 pY.eq_1 ?_
 have f0:ay H (H.new 114 [i64 x,.int .u32 (A.cf x:Int)]):=(ai.refl _ _).new _ _
 have b0:(H.new 114 [i64 x,.int .u32 (A.cf x:Int)]).own H.size=some [i64 x,.int .u32 (A.cf x:Int)]:=aG _ _ _
 have m0:=m.ext f0 (fun _ _ h=>h)
 generalize H.new 114 [i64 x,.int .u32 (A.cf x:Int)]=H0 at*
 have Fp:∀z,B.S z→z≠H.size:=fun z hz=>by have:=fF z hz;omega
 refine(ve m0 x (A.cf x)).mono ?_
 rintro _ H1 ⟨rfl,f1⟩
 rw[decide_eq_true ⟨hx,rfl⟩]
 have m1:=m0.ext f1 (fun _ _ h=>h)
 have b1:=f1.own b0 (fun h=>h)
 obtain⟨DU,o1,s1⟩:=m1.own
 refine v2 (ae o1) (ae b1) ?_
 refine⟨⟨by omega,by omega⟩,?_⟩
 refine v2 m1.sl Nat.zero_add ?_
 refine⟨by omega,?_⟩
 refine v1 w1 ?_
 have e2:ai (fun z=>z=B.sb) H1 (H1.wr B.sb (du (A.g.set x.toNat (A.cf x,false)))):=(ai.refl (fun z=>z=B.sb) _).wr (fun _=>rfl) _
 have q2:(H1.wr B.sb (du (A.g.set x.toNat (A.cf x,false)))).own B.sb=some (du (A.g.set x.toNat (A.cf x,false))):=aj m1.sl
 generalize H1.wr B.sb (du (A.g.set x.toNat (A.cf x,false)))=H2 at*
 have o2:=e2.own o1 m.ne.1
 have b2:=e2.own b1 (fun e=>Fp B.sb (.inr (.inl rfl)) e.symm)
 refine v2 (ae o2) o2 ?_
 rw[wrap64 (n:=A.ct - 1) (by omega) (by omega)]
 have e3:∀l,ai (fun z=>z=B.a) H2 (H2.wr B.a l):=fun l=>(ai.refl (fun z=>z=B.a) _).wr (fun _=>rfl) _
 have q3:∀l,(H2.wr B.a l).own B.a=some l:=fun l=>aj o2
 have b3:=fun l=>(e3 l).own b2 (fun e=>Fp B.a (.inl rfl) e.symm)
 have q2':=fun l=>(e3 l).own q2 (Ne.symm m.ne.1)
 have s3:=fun l=>(s1.ext e2 (fun b hb e=>m.ne.2.2 (by rw[hb,e]))).ext (e3 l) (fun b hb e=>m.ne.2.1 (by rw[hb,e]))
 obtain⟨l3,Tf⟩:∃l3,l3=[.slice (some ⟨B.sb,0,none⟩) A.g.length A.g.length,DU,i64 A.nx,i64 (A.ct - 1),.int .u32 (A.mo:Int)]:=⟨_,rfl⟩
 have QM:=q3 l3
 have Wf:=b3 l3
 have TU:=q2' l3
 have s3':=s3 l3
 have Yj:=e3 l3
 rw[Tf]at QM Wf TU s3' Yj
 generalize H2.wr B.a [.slice (some ⟨B.sb,0,none⟩) A.g.length A.g.length,DU,i64 A.nx,i64 (A.ct - 1),.int .u32 (A.mo:Int)]=H3 at*
 have Fj:ai B.S H H3:=((f0.mono fun _ _ h=>h.elim).trans (f1.mono fun _ _ h=>h.elim)).trans ((e2.mono fun z _ h=>.inr (.inl h)).trans (Yj.mono fun z _ h=>.inl h))
 have uQ:=m.ok.back hx
 have hgs:∀y∈(A.back x).g,y.1≤4294967295:=fun y hy=>by
  rcases List.mem_or_eq_of_mem_set hy with h|h
  ·exact m.gs y h
  ·rw[h]
   exact m.gs (A.cf x,true) (List.mem_of_getElem? hb)
 have bm:(A.back x).g.length=A.g.length:=List.length_set ..
 refine v2 (ae Wf) (ae QM) ?_
 refine am.dec (fun hm=>?_) (fun hm=>?_)
 rotate_left
 ·refine vs ?_
  have Yk:(A.back x).wt=A.wt:=by show(if A.cf x<A.mo then _ else _)=_;rw[if_neg (by omega)]
  refine⟨rfl,B.fo,⟨⟨DU,by rw[bm];exact QM,by rw[Yk];exact s3'⟩,TU,m.ne,by rw[bm];exact dv,uQ,hgs,m.mo⟩,Fj,fun z hz=>.inl hz⟩
 have Yk:(A.back x).wt=A.wt++[x]:=by show(if A.cf x<A.mo then _ else _)=_;rw[if_pos (by omega)]
 have ZV:=m.wtl.1
 obtain⟨ta,tc,rfl⟩:=Sl.shape s3'
 refine vs ?_
 refine rV.intro (fun H'=>True) trivial ?_
 refine vs ?_
 have VK:H.size<H3.size:=aO Wf
 have has:B.a<H3.size:=aO QM
 have fin:∀ (K:Value→Hp→Prop),(∀w' H4 fJ,Sl H4 1 w' (A.wt++[x]).length ((A.wt++[x]).map i64) fJ→(fJ=B.fo∨∃z,fJ=some z∧H3.size≤z∧z<H4.size)→ai (fun z=>B.fo=some z) H3 H4→K w' H4)→
   lI 3 1 8 [i64 0] (.slice ta A.wt.length tc) (.slice (some ⟨H3.size,0,none⟩) 1 1) (H3.new 3 [i64 x]) K:=fun K hK=>by
  exact RO s3' x (by omega) fun w' H' fJ h1 h2 h3=>hK w' H' fJ h2 h1 h3
 refine Jd.intro ?C ?D
 case' C=>
  refine v2 (ae QM) (ae Wf) ?_
 case' D=>
  refine v2 (ae QM) (ae Wf) ?_
  refine Jd.intro ?E ?F
  case' E=>
   refine v2 (ae QM) (ae Wf) ?_
  case' F=>
   refine v2 (ae QM) (ae Wf) ?_
 all_goals
  refine fin _ fun w' H4 fJ s4 l9 e4=>?_
  obtain⟨wa,wc,rfl⟩:=Sl.shape s4
  have o4:=e4.own QM (fun e=>m.ne.2.1 e)
  have q4:=e4.own TU (fun e=>m.ne.2.2 e)
  refine v1 o4 ?_
  have e5:∀l,ai (fun z=>z=B.a) H4 (H4.wr B.a l):=fun l=>(ai.refl (fun z=>z=B.a) _).wr (fun _=>rfl) _
  have ah8:=Fj.size
  refine⟨rfl,fJ,⟨⟨_,by rw[bm];exact aj o4,?_⟩,(e5 _).own q4 (Ne.symm m.ne.1),⟨m.ne.1,fun h=>?_,fun h=>?_⟩,by rw[bm];exact dv,uQ,hgs,m.mo⟩,?_,fun z hz=>?_⟩
  ·rw[Yk]
   refine s4.ext (e5 _) (fun b hb e=>?_)
   rcases l9 with h| ⟨y,h,h2,_⟩
   ·exact m.ne.2.1 (by rw[←h,hb,e])
   ·rw[h]at hb;injection hb with hb;omega
  ·rcases l9 with h2| ⟨y,h2,h3,_⟩
   ·exact m.ne.2.1 (by rw[←h2];exact h)
   ·rw[h2]at h;injection h with h;simp only at h;omega
  ·rcases l9 with h2| ⟨y,h2,h3,_⟩
   ·exact m.ne.2.2 (by rw[←h2];exact h)
   ·have:=aO TU
    rw[h2]at h;injection h with h;simp only at h;omega
  ·exact(Fj.trans (e4.mono fun z _ h=>.inr (.inr h))).trans ((e5 _).mono fun z _ h=>.inl h)
  ·rcases l9 with h2| ⟨y,h2,h3,_⟩
   ·exact .inl (by rw[←h2];exact hz)
   ·rw[h2]at hz;injection hz with hz;exact .inr (by omega)
end
end Go.Proofs.YtjlnnljohemifaaGreat

namespace Go.Proofs.YtjlnnljohemifaaGreat
open Go Go.Vc
def Nw.oG(w:Nw)(g x:Int):Prop:=w.has g∧(0≤x∧x<w.cs.length)∧¬cY w.cs x
def Nw.da(w:Nw)(x k s:Int):Prop:=cY w.cs x∧∀y,w.cs[x.toNat]? =some y→¬gW y.2.1 y.2.2 k s
def cD(I:Hp→(Nat→Prop)→Nw→Prop)(S:Nat→Prop)(H H':Hp)(w':Nw):Prop:=
 ∃S':Nat→Prop,I H' S' w'∧ai S H H'∧∀z,S' z→S z∨H.size≤z
theorem cD.same{I:Hp→(Nat→Prop)→Nw→Prop}{S:Nat→Prop}{H H':Hp}{w':Nw}(h:I H' S w')(e:ai S H H'):cD I S H H' w':=⟨S,h,e,fun z hz=>.inl hz⟩
structure zB(ov:Value)(I:Hp→(Nat→Prop)→Nw→Prop):Prop where
 slt:∀ {H S w},I H S w→∀z,S z→z<H.size
 ext:∀ {H H' S w} {T:Nat→Prop},I H S w→ai T H H'→(∀z,S z→¬T z)→I H' S w
 cells:∀ {H S w},I H S w→∃c C,CQ H c C w
 has:∀ {H S w} (g:Int),I H S w→jf Tryz.prog ov "Has" [i64 g] H fun v H'=>v= .bool (decide (w.has g))∧H=H'
 make:∀ {H S w},I H S w→jf Tryz.prog ov "Make" [] H fun v H'=>
  (w.hs.length=65537∧v=i64 0∧cD I S H H' w)∨(w.hs.length≠65537∧v=i64 w.hs.length∧cD I S H H' w.make)
 insert:∀ {H S w} (g x k s:Int),I H S w→jf Tryz.prog ov "Insert" [i64 g,i64 x,vN k s] H fun v H'=>
  (¬w.oG g x∧v= .bool false∧cD I S H H' w)∨(w.oG g x∧v= .bool true∧cD I S H H' (w.put x (g,k,s)))
 min:∀ {H S w} (g:Int),I H S w→jf Tryz.prog ov "Min" [i64 g] H fun v H'=>
  (w.len g=0∧v= .tuple [i64 0,.bool false].toArray∧cD I S H H' w)∨(∃x,w.first g x∧v= .tuple [i64 x,.bool true].toArray∧cD I S H H' w)
 extract:∀ {H S w} (g:Int),I H S w→jf Tryz.prog ov "Extract" [i64 g] H fun v H'=>
  (w.len g=0∧v= .tuple [i64 0,.bool false].toArray∧cD I S H H' w)∨(∃x,w.first g x∧v= .tuple [i64 x,.bool true].toArray∧cD I S H H' (w.put x (0,0,0)))
 qt:∀ {H S w} (x k s:Int),I H S w→jf Tryz.prog ov "Decrease" [i64 x,vN k s] H fun v H'=>
  (¬w.da x k s∧v= .bool false∧cD I S H H' w)∨(w.da x k s∧v= .bool true∧∃y,w.cs[x.toNat]? =some y∧cD I S H H' (w.put x (y.1,k,s)))
 entry:∀ {H S w} (x:Int),I H S w→jf Tryz.prog ov "Entry" [i64 x] H fun v H'=>I H' S w∧ay H H'∧
  ((¬cY w.cs x∧v= .tuple [vN 0 0,.bool false].toArray)∨(cY w.cs x∧∃y,w.cs[x.toNat]? =some y∧v= .tuple [vN y.2.1 y.2.2,.bool true].toArray))
structure Wg(w:Nw)(A:Ar):Prop where
 len:w.cs.length=A.g.length
 live:∀x,cY w.cs x↔A.live x
def FL(H:Hp)(s:Nat)(S:Nat→Prop)(w:Nw)(A:Ar)(q:Int):Prop:=∃ (t:TypeId) (vv:Value) (I:Hp→(Nat→Prop)→Nw→Prop) (Sn:Nat→Prop) (B:TQ) (k d:Int),
 zB (.iface t vv) I∧I H Sn w∧JY H B A∧H.own s=some [i64 k,i64 d,ptr B.a,.iface t vv,u64 q]∧(∀z,Sn z→¬B.S z∧z≠s)∧¬B.S s∧(∀z,S z↔Sn z∨B.S z∨z=s)∧Wg w A
theorem FL.slt{H:Hp}{s:Nat}{S:Nat→Prop}{w:Nw}{A:Ar}{q:Int}(h:FL H s S w A q):∀z,S z→z<H.size:=by
 obtain⟨t,vv,I,Sn,B,k,d,n,hi,m,ho,d1,d2,hS,hl⟩:=h
 intro z hz
 rcases(hS z).1 hz with h|h|h
 ·exact n.slt hi z h
 ·exact m.slt z h
 ·rw[h];exact aO ho
theorem FL.ext{H H':Hp}{s:Nat}{S T:Nat→Prop}{w:Nw}{A:Ar}{q:Int}(h:FL H s S w A q)(e:ai T H H')(hd:∀z,S z→¬T z):FL H' s S w A q:=by
 obtain⟨t,vv,I,Sn,B,k,d,n,hi,m,ho,d1,d2,hS,hl⟩:=h
 exact⟨t,vv,I,Sn,B,k,d,n,n.ext hi e (fun z hz=>hd z ((hS z).2 (.inl hz))),m.ext e (fun z hz=>hd z ((hS z).2 (.inr (.inl hz)))),e.own ho (hd _ ((hS _).2 (.inr (.inr rfl)))),d1,d2,hS,hl⟩
theorem FL.lnk{H:Hp}{s:Nat}{S:Nat→Prop}{w:Nw}{A:Ar}{q:Int}(h:FL H s S w A q):Wg w A∧AV A∧A.g.length≤65536:=by
 obtain⟨t,vv,I,Sn,B,k,d,n,hi,m,ho,d1,d2,hS,hl⟩:=h
 exact⟨hl,m.ok,m.len⟩
def PH(s:Nat)(S:Nat→Prop)(H H':Hp)(w':Nw)(A':Ar)(q':Int):Prop:=∃S',FL H' s S' w' A' q'∧ai S H H'∧∀z,S' z→S z∨H.size≤z
section
variable {H H' : Hp} {s : Nat} {S : Nat → Prop} {w : Nw} {A : Ar} {q : Int}
theorem OG(H:Hp)(T:TypeId)(z l:List Value):ay H ((H.new T z).wr H.size l)∧((H.new T z).wr H.size l).own H.size=some l∧((H.new T z).wr H.size l).size=H.size+1:=by
 have f0:ay H (H.new T z):=(ai.refl _ _).new _ _
 have e1:ai (fun x=>x=H.size) (H.new T z) ((H.new T z).wr H.size l):=(ai.refl (fun x=>x=H.size) _).wr (fun _=>rfl) _
 exact⟨f0.then e1 (fun z hz=>by omega),aj (aG _ _ _),by rw[gh,au]⟩
theorem QN{H:Hp}{b:Nat}{l0:List Value}(h:H.own b=some l0)(l:List Value):ai (fun x=>x=b) H (H.wr b l)∧(H.wr b l).own b=some l:=⟨(ai.refl (fun x=>x=b) _).wr (fun _=>rfl) _,aj h⟩
theorem Fs(h:FL H s S w A q)(hl:w.hs.length<65537):ah Tryz.prog zP [ptr s] H fun v H'=>ax (v= .tuple [i64 w.hs.length,i64 0].toArray∧PH s S H H' w.make A q):=by
 obtain⟨t,vv,I,Sn,B,k,d,n,hi,m,ho,d1,d2,hS,KK⟩:=h
 obtain⟨c,C,cq⟩:=n.cells hi
 have iw:=cq.pos
 refine bc Ai ⟨rfl,?_⟩
 refine v2 jx.eq_1 (ae ho) ?_
 refine(n.make hi).mono ?_
 rintro _ H1 (⟨h1,_⟩| ⟨_,rfl,Hy,hi',e1,fK⟩)
 ·omega
 refine vs ?_
 refine am.dec (fun hh=>by omega) (fun _=>?_)
 refine vs ?_
 have Hv:=m.slt
 have hos:=aO ho
 refine⟨rfl,fun z=>Hy z∨B.S z∨z=s,⟨t,vv,I,Hy,B,k,d,n,hi',m.ext e1 (fun z hz h=>(d1 z h).1 hz),e1.own ho (fun h=>(d1 _ h).2 rfl),fun z hz=>?_,d2,fun z=>Iff.rfl,⟨KK.len,KK.live⟩⟩,e1.mono fun z _ h=>(hS z).2 (.inl h),fun z hz=>?_⟩
 ·rcases fK z hz with h|h
  ·exact d1 z h
  ·exact⟨fun h2=>by have:=Hv z h2;omega,by omega⟩
 ·rcases hz with h|h
  ·rcases fK z h with h|h
   ·exact .inl ((hS z).2 (.inl h))
   ·exact .inr h
  ·exact .inl ((hS z).2 (.inr h))
theorem Wg.put{w:Nw}{A A':Ar}(l:Wg w A){x:Int}(hx:0≤x∧x<A.g.length){y:Ce}{v:Nat}(hg:A'.g=A.g.set x.toNat (v,decide (0<y.1))):Wg (w.put x y) A':=by
 have Gr:0≤x∧x<w.cs.length:=by rw[l.len];exact hx
 refine⟨by rw[hg,List.length_set];simp[Nw.put,l.len],fun z=>?_⟩
 by_cases h0:0≤z
 ·rw[Ar.qq hx hg h0,←bJ,eD Gr]
  by_cases e:z=x
  ·rw[if_pos e,if_pos e];simp
  ·rw[if_neg e,if_neg e,bJ]
   exact l.live z
 ·exact⟨fun h=>absurd h.1 h0,fun h=>absurd h.1 h0⟩
set_option maxRecDepth 100000 in
set_option maxHeartbeats 1000000 in
theorem GB(h:FL H s S w A q){g key:Int}(hg:w.has g)(Wd:∀x:Int,0≤x→x<A.g.length→A.cf x<4294967295)(hq:0≤q∧q<18446744073709551615):ah Tryz.prog BE [ptr s,i64 g,i64 key] H fun v H'=>ax (
  (A.pick=none∧v= .tuple [kM 0 0,i64 32].toArray∧PH s S H H' w A q)∨(∃x A',A.pick=some (x,A')∧v= .tuple [kM x (A.cf x+1),i64 0].toArray∧PH s S H H' (w.put x (g,key,q+1)) (A'.out x) (q+1))):=by
 have fF:=h.slt
 obtain⟨t,vv,I,Sn,B,k,d,n,hi,m,ho,d1,d2,hS,KK⟩:=h
 refine bc BV ⟨rfl,?_⟩
 refine v1 kZ.eq_1 ?_
 have f0:ay H (H.new 114 [Value.int .i64 0,Value.int .u32 0]):=(ai.refl _ _).new _ _
 have b0:(H.new 114 [Value.int .i64 0,Value.int .u32 0]).own H.size=some [Value.int .i64 0,Value.int .u32 0]:=aG _ _ _
 have z0:(H.new 114 [Value.int .i64 0,Value.int .u32 0]).size=H.size+1:=au _ _ _
 generalize H.new 114 [Value.int .i64 0,Value.int .u32 0]=H0 at*
 have m0:=m.ext f0 (fun _ _ h=>h)
 have Ff:=n.ext hi f0 (fun _ _ h=>h)
 have o0:=f0.own ho (fun h=>h)
 have aS:∀z,S z→z≠H.size:=fun z hz=>by have:=fF z hz;omega
 refine v1 (ae o0) ?_
 refine(n.has g Ff).mono ?_
 rintro _ _ ⟨rfl,rfl⟩
 rw[decide_eq_true hg]
 refine v1 (ae o0) ?_
 refine(Fo m0 Wd).mono ?_
 rintro _ H1 (⟨hp,rfl,m1,f1⟩| ⟨x,A',hp,rfl,m1,e1⟩)
 ·have b1:=f1.own b0 (fun h=>h)
  refine vs ?_
  obtain⟨f2,b2,z2⟩:=OG H1 114 [Value.int .i64 0,Value.int .u32 0] [i64 0,Value.int .u32 ((0:Nat):Int)]
  generalize (H1.new 114 [Value.int .i64 0,Value.int .u32 0]).wr H1.size [i64 0,Value.int .u32 ((0:Nat):Int)]=H2 at*
  have b3:=f2.own b1 (fun h=>h)
  refine am.dec (fun hh=>by omega) (fun _=>?_)
  refine v1 b3 ?_
  obtain⟨e4,b4⟩:=QN b3 [Value.int .i64 0,Value.int .u32 0]
  refine v1 (ae b4) ?_
  have hse:ai S H (H2.wr H.size [Value.int .i64 0,Value.int .u32 0]):=by
   have h1:=(f0.trans f1).trans f2
   exact(h1.then e4 (fun z hz=>by omega)).mono fun _ _ h=>h.elim
  refine .inl ⟨hp,rfl,S,⟨t,vv,I,Sn,B,k,d,n,?_,?_,?_,d1,d2,hS,KK⟩,hse,fun z hz=>.inl hz⟩
  ·exact n.ext (n.ext (n.ext Ff f1 (fun _ _ h=>h)) f2 (fun _ _ h=>h)) e4 (fun z hz=>aS z ((hS z).2 (.inl hz)))
  ·exact(m1.ext f2 (fun _ _ h=>h)).ext e4 (fun z hz=>aS z ((hS z).2 (.inr (.inl hz))))
  ·exact e4.own (f2.own (f1.own o0 (fun h=>h)) (fun h=>h)) (aS s ((hS s).2 (.inr (.inr rfl))))
 ·obtain⟨xm,qV,_,_,hAg,_,_⟩:=Ar.Cu hp m.ok
  have b1:=e1.own b0 (fun h=>aS _ ((hS _).2 (.inr (.inl h))) rfl)
  have o1:=e1.own o0 d2
  have QJ:=n.ext Ff e1 (fun z hz=>(d1 z hz).1)
  refine vs ?_
  obtain⟨f2,b2,z2⟩:=OG H1 114 [Value.int .i64 0,Value.int .u32 0] [i64 x,Value.int .u32 ((A.cf x+1:Nat):Int)]
  generalize (H1.new 114 [Value.int .i64 0,Value.int .u32 0]).wr H1.size [i64 x,Value.int .u32 ((A.cf x+1:Nat):Int)]=H2 at*
  have b3:=f2.own b1 (fun h=>h)
  have o2:=f2.own o1 (fun h=>h)
  have mX:=n.ext QJ f2 (fun _ _ h=>h)
  have m2:=m1.ext f2 (fun _ _ h=>h)
  refine am.dec (fun _=>?_) (fun hh=>absurd trivial hh)
  refine v2 (ae o2) o2 ?_
  rw[FM (n:=q+1) (by omega) (by omega)]
  obtain⟨e4,o3⟩:=QN o2 [i64 k,i64 d,ptr B.a,.iface t vv,u64 (q+1)]
  have Pm:=aO o2
  have U5:=e1.size
  have aia:=aO ho
  have b5:=e4.own b3 (fun e=>aS s ((hS s).2 (.inr (.inr rfl))) e.symm)
  have b6:=e4.own b2 (fun e=>by omega)
  have uN:=n.ext mX e4 (fun z hz=>(d1 z hz).2)
  have m3:=m2.ext e4 (fun z hz e=>d2 (by rw[←e];exact hz))
  generalize H2.wr s [i64 k,i64 d,ptr B.a,.iface t vv,u64 (q+1)]=H3 at*
  refine v2 (ae o3) (ae b6) ?_
  refine(n.insert g x key (q+1) uN).mono ?_
  obtain⟨c,C,cq⟩:=n.cells uN
  have FI:¬cY w.cs x:=fun h=>qV ((KK.live x).1 h)
  rintro _ H4 (⟨cw,_⟩| ⟨_,rfl,Hy,hi4,e5,Tg⟩)
  ·exact absurd ⟨hg,by rw[KK.len];exact xm,FI⟩ cw
  have hz4:=e4.size
  have Hz:∀z,H.size≤z→¬Sn z:=fun z hz h=>by have:=fF z ((hS z).2 (.inl h));omega
  have b7:=e5.own b6 (Hz _ (by omega))
  have b8:=e5.own b5 (Hz _ (Nat.le_refl _))
  refine v2 (ae b7) b8 ?_
  obtain⟨e9,b9⟩:=QN b8 [i64 x,Value.int .u32 ((A.cf x+1:Nat):Int)]
  refine v1 (ae b9) ?_
  have o4:=e5.own o3 (fun h=>(d1 _ h).2 rfl)
  have m4:=m3.ext e5 (fun z hz h=>(d1 z h).1 hz)
  have Hv:=m.slt
  have hz5:=e5.size
  have Fp:∀z,B.S z→z<H.size:=Hv
  have LF:∀z,Hy z→Sn z∨H.size<z:=fun z hz=>(Tg z hz).imp_right fun h=>by omega
  refine .inr ⟨x,A',hp,rfl,fun z=>Hy z∨B.S z∨z=s,⟨t,vv,I,Hy,B,k,d,n,n.ext hi4 e9 (fun z hz e=>?_),m4.ext e9 (fun z hz e=>?_),e9.own o4 (aS s ((hS s).2 (.inr (.inr rfl)))),fun z hz=>?_,d2,fun z=>Iff.rfl,?_⟩,?_,fun z hz=>?_⟩
  ·rcases LF z hz with h|h
   ·exact Hz z (by omega) h
   ·omega
  ·have:=Fp z hz;omega
  ·rcases LF z hz with h|h
   ·exact d1 z h
   ·exact⟨fun h2=>by have:=Fp z h2;omega,by omega⟩
  ·refine KK.put xm (v:=A.cf x+1) ?_
   have We:A'.cf x=A.cf x:=by unfold Ar.cf;rw[hAg]
   show A'.g.set x.toNat (A'.cf x+1,true)=_
   rw[We,hAg]
   exact congrArg (fun b=>A.g.set x.toNat (A.cf x+1,b)) (decide_eq_true hg.1).symm
  ·have h1:ai S H H3:=((f0.mono fun _ _ h=>h.elim).trans (e1.mono fun z _ h=>(hS z).2 (.inr (.inl h)))).trans ((f2.mono fun _ _ h=>h.elim).trans (e4.mono fun z _ h=>(hS z).2 (.inr (.inr h))))
   have h2:=h1.trans (e5.mono fun z _ h=>(hS z).2 (.inl h))
   exact⟨Nat.le_trans h2.size e9.size,fun z hz hn=>by rw[e9.aN z (Nat.lt_of_lt_of_le hz h2.size) (by omega),h2.aN z hz hn]⟩
  ·rcases hz with h|h
   ·rcases LF z h with h|h
    ·exact .inl ((hS z).2 (.inl h))
    ·exact .inr (by omega)
   ·exact .inl ((hS z).2 (.inr h))
end
end Go.Proofs.YtjlnnljohemifaaGreat

namespace Go.Proofs.YtjlnnljohemifaaGreat
open Go Go.Vc
section
variable {H H' H1 H2 : Hp} {s : Nat} {S S1 : Nat → Prop} {w w2 : Nw} {A A2 : Ar} {q q2 : Int}
theorem AW(l:Wg w A){g x:Int}(h:w.first g x):A.live x:=by
 obtain⟨h1,h2,_⟩:=bN.1 h
 exact(l.live x).1 (bJ.1 (by omega))
set_option maxRecDepth 100000 in
theorem It(h:FL H s S w A q){g:Int}(hg:w.has g):ah Tryz.prog Dd [ptr s,i64 g] H fun v H'=>ax (
  (w.len g=0∧v= .tuple [kM 0 0,i64 172].toArray∧PH s S H H' w A q)∨(∃x,w.first g x∧v= .tuple [kM x (A.cf x),i64 0].toArray∧PH s S H H' w A q)):=by
 have fF:=h.slt
 obtain⟨t,vv,I,Sn,B,k,d,n,hi,m,ho,d1,d2,hS,KK⟩:=h
 refine bc Dp ⟨rfl,?_⟩
 refine v1 mE.eq_1 ?_
 have f0:ay H (H.new 114 [Value.int .i64 0,Value.int .u32 0]):=(ai.refl _ _).new _ _
 have b0:(H.new 114 [Value.int .i64 0,Value.int .u32 0]).own H.size=some [Value.int .i64 0,Value.int .u32 0]:=aG _ _ _
 have z0:(H.new 114 [Value.int .i64 0,Value.int .u32 0]).size=H.size+1:=au _ _ _
 generalize H.new 114 [Value.int .i64 0,Value.int .u32 0]=H0 at*
 have m0:=m.ext f0 (fun _ _ h=>h)
 have Ff:=n.ext hi f0 (fun _ _ h=>h)
 have o0:=f0.own ho (fun h=>h)
 have Hz:∀z,H.size≤z→¬Sn z:=fun z hz h=>by have:=fF z ((hS z).2 (.inl h));omega
 have Fp:∀z,B.S z→z<H.size:=m.slt
 have hos:=aO ho
 refine v1 (ae o0) ?_
 refine(n.has g Ff).mono ?_
 rintro _ _ ⟨rfl,rfl⟩
 rw[decide_eq_true hg]
 refine v1 (ae o0) ?_
 refine(n.min g Ff).mono ?_
 have fin:∀ (H1 H2:Hp) (Hy:Nat→Prop),I H1 Hy w→ai Sn H0 H1→(∀z,Hy z→Sn z∨H0.size≤z)→ai (fun z=>z=H.size∨H1.size≤z) H1 H2→PH s S H H2 w A q:=fun H1 H2 Hy QJ e1 fK e2=>by
  have U5:=e1.size
  have eA:=e2.size
  refine⟨fun z=>Hy z∨B.S z∨z=s,⟨t,vv,I,Hy,B,k,d,n,n.ext QJ e2 (fun z hz e=>?_),(m0.ext e1 (fun z hz h=>(d1 z h).1 hz)).ext e2 (fun z hz e=>?_),e2.own (e1.own o0 (fun h=>(d1 _ h).2 rfl)) (fun e=>by omega),fun z hz=>?_,d2,fun z=>Iff.rfl,KK⟩,?_,fun z hz=>?_⟩
  ·rcases e with e|e
   ·rcases fK z hz with h|h
    ·exact Hz z (by omega) h
    ·omega
   ·have:=n.slt QJ z hz;omega
  ·have:=Fp z hz;omega
  ·rcases fK z hz with h|h
   ·exact d1 z h
   ·exact⟨fun h2=>by have:=Fp z h2;omega,by omega⟩
  ·have h1:ai S H H1:=(f0.mono fun _ _ h=>h.elim).trans (e1.mono fun z _ h=>(hS z).2 (.inl h))
   exact⟨Nat.le_trans h1.size e2.size,fun z hz hn=>by rw[e2.aN z (Nat.lt_of_lt_of_le hz h1.size) (by omega),h1.aN z hz hn]⟩
  ·rcases hz with h|h
   ·rcases fK z h with h|h
    ·exact .inl ((hS z).2 (.inl h))
    ·exact .inr (by omega)
   ·exact .inl ((hS z).2 (.inr h))
 rintro _ H1 (⟨h0,rfl,Hy,QJ,e1,fK⟩| ⟨x,hx,rfl,Hy,QJ,e1,fK⟩)
 ·have b1:=e1.own b0 (Hz _ (Nat.le_refl _))
  refine v1 b1 ?_
  obtain⟨e4,b4⟩:=QN b1 [Value.int .i64 0,Value.int .u32 0]
  refine v1 (ae b4) ?_
  exact .inl ⟨h0,rfl,fin H1 _ Hy QJ e1 fK (e4.mono fun z _ h=>.inl h)⟩
 ·have b1:=e1.own b0 (Hz _ (Nat.le_refl _))
  have o1:=e1.own o0 (fun h=>(d1 _ h).2 rfl)
  have m1:=m0.ext e1 (fun z hz h=>(d1 z h).1 hz)
  refine v1 (ae o1) ?_
  refine(Is m1 (AW KK hx)).mono ?_
  rintro _ H2 ⟨rfl,f2⟩
  have b2:=f2.own b1 (fun h=>h)
  refine vs ?_
  obtain⟨f3,b3,z3⟩:=OG H2 114 [Value.int .i64 0,Value.int .u32 0] [i64 x,Value.int .u32 ((A.cf x:Nat):Int)]
  generalize (H2.new 114 [Value.int .i64 0,Value.int .u32 0]).wr H2.size [i64 x,Value.int .u32 ((A.cf x:Nat):Int)]=H3 at*
  have b5:=f3.own b2 (fun h=>h)
  refine v2 (ae b3) b5 ?_
  obtain⟨e4,b4⟩:=QN b5 [i64 x,Value.int .u32 ((A.cf x:Nat):Int)]
  refine v1 (ae b4) ?_
  exact .inr ⟨x,hx,rfl,fin H1 _ Hy QJ e1 fK (((f2.trans f3).mono fun _ _ h=>h.elim).trans (e4.mono fun z _ h=>.inl h))⟩
set_option maxRecDepth 100000 in
theorem Iu(h:FL H s S w A q){x:Int}(hx:A.live x):ah Tryz.prog De [ptr s,kM x (A.cf x)] H fun v H'=>ax (∃y,w.cs[x.toNat]? =some y∧v= .tuple [vN y.2.1 y.2.2,i64 0].toArray∧PH s S H H' w A q):=by
 have fF:=h.slt
 obtain⟨t,vv,I,Sn,B,k,d,n,hi,m,ho,d1,d2,hS,KK⟩:=h
 refine bc Dq ⟨rfl,?_⟩
 refine v1 sO.eq_1 ?_
 have f0:ay H ((H.new 114 [i64 x,.int .u32 (A.cf x:Int)]).new 224 [Value.int .i64 0,Value.int .u64 0]):=((ai.refl _ _).new _ _).new _ _
 have b0:((H.new 114 [i64 x,.int .u32 (A.cf x:Int)]).new 224 [Value.int .i64 0,Value.int .u64 0]).own H.size=some [i64 x,.int .u32 (A.cf x:Int)]:=by
  rw[cz (by simp only[au];omega),aG]
 have c0:((H.new 114 [i64 x,.int .u32 (A.cf x:Int)]).new 224 [Value.int .i64 0,Value.int .u64 0]).own (H.size+1)=some [Value.int .i64 0,Value.int .u64 0]:=bC (by simp only[au])
 have z0:((H.new 114 [i64 x,.int .u32 (A.cf x:Int)]).new 224 [Value.int .i64 0,Value.int .u64 0]).size=H.size+1+1:=by simp only[au]
 generalize (H.new 114 [i64 x,.int .u32 (A.cf x:Int)]).new 224 [Value.int .i64 0,Value.int .u64 0]=H0 at*
 have m0:=m.ext f0 (fun _ _ h=>h)
 have Ff:=n.ext hi f0 (fun _ _ h=>h)
 have o0:=f0.own ho (fun h=>h)
 have Hz:∀z,H.size≤z→¬Sn z:=fun z hz h=>by have:=fF z ((hS z).2 (.inl h));omega
 have Fp:∀z,B.S z→z<H.size:=m.slt
 have hos:=aO ho
 refine v2 (ae o0) (ae b0) ?_
 refine(ve m0 x (A.cf x)).mono ?_
 rintro _ H1 ⟨rfl,f1⟩
 rw[decide_eq_true ⟨hx,rfl⟩]
 have m1:=m0.ext f1 (fun _ _ h=>h)
 have QJ:=n.ext Ff f1 (fun _ _ h=>h)
 have o1:=f1.own o0 (fun h=>h)
 have b1:=f1.own b0 (fun h=>h)
 have c1:=f1.own c0 (fun h=>h)
 have z1:=f1.size
 have bS:cY w.cs x:=(KK.live x).2 hx
 have fin:∀H2,I H2 Sn w→ai (fun z=>z=H.size+1∨H1.size≤z) H1 H2→PH s S H H2 w A q:=fun H2 mX e2=>by
  have h1:ai S H H1:=(f0.trans f1).mono fun _ _ h=>h.elim
  refine⟨S,⟨t,vv,I,Sn,B,k,d,n,mX,m1.ext e2 (fun z hz e=>by have:=Fp z hz;omega),e2.own o1 (fun e=>by omega),d1,d2,hS,KK⟩,⟨Nat.le_trans h1.size e2.size,fun z hz hn=>by rw[e2.aN z (Nat.lt_of_lt_of_le hz h1.size) (by omega),h1.aN z hz hn]⟩,fun z hz=>.inl hz⟩
 refine vs ?_
 refine rV.intro (fun H'=>H'.own s=some [i64 k,i64 d,ptr B.a,.iface t vv,u64 q]∧H'.own H.size=some [i64 x,.int .u32 (A.cf x:Int)]) ⟨o1,b1⟩ ?_
 refine vs ?_
 refine rW.intro (.iface t vv) (fun H' hI=>by refine v1 (ae hI.1) ?_;trivial) ?_
 refine vs ?_
 refine rW.intro (i64 x) (fun H' hI=>by refine v1 (ae hI.2) ?_;trivial) ?_
 refine vs ?_
 refine Jd.intro ?_ ?_
 ·refine vs ?_
  refine(n.entry x QJ).mono ?_
  rintro _ H2 ⟨mX,f2,⟨cw,_⟩| ⟨_,y,hy,rfl⟩⟩
  ·exact absurd bS cw
  have o2:=f2.own o1 (fun h=>h)
  have b2:=f2.own b1 (fun h=>h)
  have c2:=f2.own c1 (fun h=>h)
  have z2:=f2.size
  refine And.intro ⟨o2,b2⟩ ?_
  refine vs ?_
  refine And.intro ⟨o2,b2⟩ ?_
  refine vs ?_
  refine And.intro ⟨o2,b2⟩ ?_
  refine vs ?_
  obtain⟨f3,b3,z3⟩:=OG H2 224 [Value.int .i64 0,Value.int .u64 0] [i64 y.2.1,u64 y.2.2]
  generalize (H2.new 224 [Value.int .i64 0,Value.int .u64 0]).wr H2.size [i64 y.2.1,u64 y.2.2]=H3 at*
  have c3:=f3.own c2 (fun h=>h)
  refine v2 (ae b3) c3 ?_
  obtain⟨e4,b4⟩:=QN c3 [i64 y.2.1,u64 y.2.2]
  refine v1 (ae b4) ?_
  exact⟨y,hy,rfl,fin _ (n.ext (n.ext mX f3 (fun _ _ h=>h)) e4 (fun z hz e=>Hz z (by omega) hz)) (((f2.trans f3).mono fun _ _ h=>h.elim).trans (e4.mono fun z _ h=>.inl h))⟩
 ·refine vs ?_
  refine And.intro ⟨o1,b1⟩ ?_
  have f4:ay H1 (H1.new 224 [Value.int .i64 0,Value.int .u64 0]):=(ai.refl _ _).new _ _
  have b4:(H1.new 224 [Value.int .i64 0,Value.int .u64 0]).own H1.size=some [Value.int .i64 0,Value.int .u64 0]:=aG _ _ _
  have z4:(H1.new 224 [Value.int .i64 0,Value.int .u64 0]).size=H1.size+1:=au _ _ _
  generalize H1.new 224 [Value.int .i64 0,Value.int .u64 0]=H4 at*
  refine vs ?_
  refine(n.entry x (n.ext QJ f4 (fun _ _ h=>h))).mono ?_
  rintro _ H2 ⟨mX,f2,⟨cw,_⟩| ⟨_,y,hy,rfl⟩⟩
  ·exact absurd bS cw
  have o2:=f2.own (f4.own o1 (fun h=>h)) (fun h=>h)
  have b2:=f2.own (f4.own b1 (fun h=>h)) (fun h=>h)
  have c2:=f2.own (f4.own c1 (fun h=>h)) (fun h=>h)
  have b5:=f2.own b4 (fun h=>h)
  have z2:=f2.size
  refine And.intro ⟨o2,b2⟩ ?_
  refine v1 b5 ?_
  obtain⟨e6,b6⟩:=QN b5 [i64 y.2.1,u64 y.2.2]
  have o6:=e6.own o2 (fun e=>by omega)
  have b26:=e6.own b2 (fun e=>by omega)
  have c6:=e6.own c2 (fun e=>by omega)
  have ZY:=n.ext mX e6 (fun z hz e=>Hz z (by omega) hz)
  have e26:ai (fun z=>z=H.size+1∨H1.size≤z) H1 (H2.wr H1.size [i64 y.2.1,u64 y.2.2]):=((f4.trans f2).mono fun _ _ h=>h.elim).trans (e6.mono fun z _ h=>.inr (by omega))
  generalize H2.wr H1.size [i64 y.2.1,u64 y.2.2]=H6 at*
  first
   |refine And.intro ⟨o6,b26⟩ ?_
   |refine And.intro ⟨o2,b2⟩ ?_
  refine v2 (ae b6) c6 ?_
  obtain⟨e7,b7⟩:=QN c6 [i64 y.2.1,u64 y.2.2]
  refine v1 (ae b7) ?_
  exact⟨y,hy,rfl,fin _ (n.ext ZY e7 (fun z hz e=>Hz z (by omega) hz)) (e26.trans (e7.mono fun z _ h=>.inl h))⟩
end
end Go.Proofs.YtjlnnljohemifaaGreat

namespace Go.Proofs.YtjlnnljohemifaaGreat
open Go Go.Vc
section
variable {H H' H1 H2 : Hp} {s : Nat} {S S1 : Nat → Prop} {w w2 : Nw} {A A2 : Ar} {q q2 : Int}
theorem FL.tmp{b:Nat}{l:List Value}(h:FL H1 s S1 w A q)(hb:¬S1 b):FL (H1.wr b l) s S1 w A q:=h.ext ((ai.refl (fun x=>x=b) _).wr (fun _=>rfl) _:ai (fun x=>x=b) H1 _) (fun z hz e=>hb (by rw[←e];exact hz))
theorem FN(h:FL H2 s S1 w A q)(e:ai S H H2)(hs:∀z,S1 z→S z∨H.size≤z):PH s S H H2 w A q:=⟨S1,h,e,hs⟩
theorem FO{b:Nat}{l:List Value}(e:ai S H H1)(hb:H.size≤b):ai S H (H1.wr b l):=by
 have e2:ai (fun x=>x=b) H1 (H1.wr b l):=(ai.refl (fun x=>x=b) _).wr (fun _=>rfl) _
 exact⟨Nat.le_trans e.size e2.size,fun z hz hn=>by rw[e2.aN z (Nat.lt_of_lt_of_le hz e.size) (by omega),e.aN z hz hn]⟩
set_option maxRecDepth 100000 in
set_option maxHeartbeats 1000000 in
theorem LG(h:FL H s S w A q){g:Int}(hg:w.has g):ah Tryz.prog F0 [ptr s,i64 g] H fun v H'=>ax (
  (w.len g=0∧v= .tuple [kM 0 0,i64 0,i64 172].toArray∧PH s S H H' w A q)∨(∃x y,w.first g x∧w.cs[x.toNat]? =some y∧v= .tuple [kM x (A.cf x),i64 y.2.1,i64 0].toArray∧PH s S H H' w A q)):=by
 have fF:=h.slt
 have KK:=h.lnk.1
 refine bc F5 ⟨rfl,?_⟩
 refine v1 wG.eq_1 ?_
 have f0:ay H (H.new 114 [Value.int .i64 0,Value.int .u32 0]):=(ai.refl _ _).new _ _
 have b0:(H.new 114 [Value.int .i64 0,Value.int .u32 0]).own H.size=some [Value.int .i64 0,Value.int .u32 0]:=aG _ _ _
 have z0:(H.new 114 [Value.int .i64 0,Value.int .u32 0]).size=H.size+1:=au _ _ _
 generalize H.new 114 [Value.int .i64 0,Value.int .u32 0]=H0 at*
 have h0:=h.ext f0 (fun _ _ h=>h)
 have QO:∀z,H.size≤z→¬S z:=fun z hz h=>by have:=fF z h;omega
 refine(It h0 hg).mono ?_
 rintro _ H1 (⟨X9,rfl,S1,h1,e1,fK⟩| ⟨x,hx,rfl,S1,h1,e1,fK⟩)
 ·have b1:=e1.own b0 (QO _ (Nat.le_refl _))
  have U5:=e1.size
  refine vs ?_
  obtain⟨f2,b2,z2⟩:=OG H1 114 [Value.int .i64 0,Value.int .u32 0] [i64 0,Value.int .u32 ((0:Nat):Int)]
  generalize (H1.new 114 [Value.int .i64 0,Value.int .u32 0]).wr H1.size [i64 0,Value.int .u32 ((0:Nat):Int)]=H2 at*
  have b3:=f2.own b1 (fun h=>h)
  refine am.dec (fun hh=>by omega) (fun _=>?_)
  refine v1 b3 ?_
  obtain⟨e4,b4⟩:=QN b3 [Value.int .i64 0,Value.int .u32 0]
  have e2:ai S H H2:=((f0.mono fun _ _ h=>h.elim).trans e1).trans (f2.mono fun _ _ h=>h.elim)
  have Db:¬S1 H.size:=fun h=>by rcases fK _ h with h|h;exact QO _ (Nat.le_refl _) h;omega
  have h3:=((h1.ext f2 (fun _ _ h=>h)).tmp Db (l:=[Value.int .i64 0,Value.int .u32 0]))
  have e5:=FO (l:=[Value.int .i64 0,Value.int .u32 0]) e2 (Nat.le_refl H.size)
  refine v1 (ae b4) ?_
  exact .inl ⟨X9,rfl,FN h3 e5 (fun z hz=>(fK z hz).imp_right fun h=>by omega)⟩
 ·have b1:=e1.own b0 (QO _ (Nat.le_refl _))
  have U5:=e1.size
  have xk:=AW KK hx
  refine vs ?_
  obtain⟨f2,b2,z2⟩:=OG H1 114 [Value.int .i64 0,Value.int .u32 0] [i64 x,Value.int .u32 ((A.cf x:Nat):Int)]
  generalize (H1.new 114 [Value.int .i64 0,Value.int .u32 0]).wr H1.size [i64 x,Value.int .u32 ((A.cf x:Nat):Int)]=H2 at*
  have b3:=f2.own b1 (fun h=>h)
  have h2:=h1.ext f2 (fun _ _ h=>h)
  refine am.dec (fun _=>?_) (fun hh=>absurd trivial hh)
  refine v1 (ae b2) ?_
  have Wh:=h1.slt
  refine(Iu h2 xk).mono ?_
  rintro _ H3 ⟨y,hy,rfl,S3,h3,e3,Io⟩
  have Db:¬S1 H.size:=fun h=>by rcases fK _ h with h|h;exact QO _ (Nat.le_refl _) h;omega
  have By:¬S1 H1.size:=fun h=>by have:=Wh _ h;omega
  have b4:=e3.own b3 Db
  have c4:=e3.own b2 By
  have Wi:=e3.size
  refine vs ?_
  obtain⟨f5,b5,z5⟩:=OG H3 224 [Value.int .i64 0,Value.int .u64 0] [i64 y.2.1,u64 y.2.2]
  generalize (H3.new 224 [Value.int .i64 0,Value.int .u64 0]).wr H3.size [i64 y.2.1,u64 y.2.2]=H5 at*
  have b6:=f5.own b4 (fun h=>h)
  have c6:=f5.own c4 (fun h=>h)
  have h5:=h3.ext f5 (fun _ _ h=>h)
  have hn3:∀b,¬S1 b→b<H2.size→¬S3 b:=fun b hb DN h=>by rcases Io _ h with h|h;exact hb h;omega
  have e5:ai S H H5:=by
   have e2:ai S H H2:=((f0.mono fun _ _ h=>h.elim).trans e1).trans (f2.mono fun _ _ h=>h.elim)
   have Yj:ai S H H3:=⟨Nat.le_trans e2.size e3.size,fun z hz hn=>by rw[e3.aN z (Nat.lt_of_lt_of_le hz e2.size) (fun h=>by rcases fK z h with h|h;exact hn h;omega),e2.aN z hz hn]⟩
   exact Yj.trans (f5.mono fun _ _ h=>h.elim)
  refine rV.intro (fun H'=>H'.own H3.size=some [i64 y.2.1,u64 y.2.2]) b5 ?_
  refine vs ?_
  refine rW.intro (i64 y.2.1) (fun H' hI=>by refine v1 (ae hI) ?_;trivial) ?_
  refine v1 (ae c6) ?_
  refine And.intro b5 ?_
  refine v1 b6 ?_
  obtain⟨e7,b7⟩:=QN b6 [i64 x,Value.int .u32 ((A.cf x:Nat):Int)]
  have b57:=e7.own b5 (fun e=>by omega)
  first
   |refine And.intro b57 ?_
   |refine And.intro b5 ?_
  have h7:=h5.tmp (hn3 _ Db (by omega)) (l:=[i64 x,Value.int .u32 ((A.cf x:Nat):Int)])
  have e8:=FO (l:=[i64 x,Value.int .u32 ((A.cf x:Nat):Int)]) e5 (Nat.le_refl H.size)
  refine v1 (ae b7) ?_
  refine .inr ⟨x,y,hx,hy,rfl,FN h7 e8 (fun z hz=>?_)⟩
  rcases Io z hz with h|h
  ·exact(fK z h).imp_right fun h=>by omega
  ·exact .inr (by omega)
theorem PI{g x x':Int}(h:w.first g x)(h':w.first g x'):x'=x:=by
 obtain⟨_,h2,h3⟩:=bN.1 h
 obtain⟨_,h5,h6⟩:=bN.1 h'
 apply Classical.byContradiction
 intro aS
 have:=(aq w).asym (h3 x' h5 aS)
 rw[h6 x h2 (Ne.symm aS)]at this
 cases this
set_option maxRecDepth 100000 in
set_option maxHeartbeats 1000000 in
theorem qu(h:FL H s S w A q){g:Int}(hg:w.has g):ah Tryz.prog vm [ptr s,i64 g] H fun v H'=>ax (
  (w.len g=0∧v= .tuple [kM 0 0,i64 0,i64 172].toArray∧PH s S H H' w A q)∨(∃x y,w.first g x∧w.cs[x.toNat]? =some y∧v= .tuple [kM x (A.cf x),i64 y.2.1,i64 0].toArray∧PH s S H H' (w.put x (0,0,0)) (A.back x) q)):=by
 have fF:=h.slt
 have KK:=h.lnk.1
 refine bc vA ⟨rfl,?_⟩
 refine v1 fN.eq_1 ?_
 have f0:ay H (H.new 114 [Value.int .i64 0,Value.int .u32 0]):=(ai.refl _ _).new _ _
 have b0:(H.new 114 [Value.int .i64 0,Value.int .u32 0]).own H.size=some [Value.int .i64 0,Value.int .u32 0]:=aG _ _ _
 have z0:(H.new 114 [Value.int .i64 0,Value.int .u32 0]).size=H.size+1:=au _ _ _
 generalize H.new 114 [Value.int .i64 0,Value.int .u32 0]=H0 at*
 have h0:=h.ext f0 (fun _ _ h=>h)
 have QO:∀z,H.size≤z→¬S z:=fun z hz h=>by have:=fF z h;omega
 refine(LG h0 hg).mono ?_
 rintro _ H1 (⟨X9,rfl,S1,h1,e1,fK⟩| ⟨x,y,hx,hy,rfl,S1,h1,e1,fK⟩)
 ·have b1:=e1.own b0 (QO _ (Nat.le_refl _))
  have U5:=e1.size
  refine vs ?_
  obtain⟨f2,b2,z2⟩:=OG H1 114 [Value.int .i64 0,Value.int .u32 0] [i64 0,Value.int .u32 ((0:Nat):Int)]
  generalize (H1.new 114 [Value.int .i64 0,Value.int .u32 0]).wr H1.size [i64 0,Value.int .u32 ((0:Nat):Int)]=H2 at*
  have b3:=f2.own b1 (fun h=>h)
  refine am.dec (fun hh=>by omega) (fun _=>?_)
  refine v1 b3 ?_
  obtain⟨e4,b4⟩:=QN b3 [Value.int .i64 0,Value.int .u32 0]
  have e2:ai S H H2:=((f0.mono fun _ _ h=>h.elim).trans e1).trans (f2.mono fun _ _ h=>h.elim)
  have Db:¬S1 H.size:=fun h=>by rcases fK _ h with h|h;exact QO _ (Nat.le_refl _) h;omega
  have h3:=((h1.ext f2 (fun _ _ h=>h)).tmp Db (l:=[Value.int .i64 0,Value.int .u32 0]))
  have e5:=FO (l:=[Value.int .i64 0,Value.int .u32 0]) e2 (Nat.le_refl H.size)
  refine v1 (ae b4) ?_
  exact .inl ⟨X9,rfl,FN h3 e5 (fun z hz=>(fK z hz).imp_right fun h=>by omega)⟩
 ·have b1:=e1.own b0 (QO _ (Nat.le_refl _))
  have U5:=e1.size
  have xk:=AW KK hx
  refine vs ?_
  obtain⟨f2,b2,z2⟩:=OG H1 114 [Value.int .i64 0,Value.int .u32 0] [i64 x,Value.int .u32 ((A.cf x:Nat):Int)]
  generalize (H1.new 114 [Value.int .i64 0,Value.int .u32 0]).wr H1.size [i64 x,Value.int .u32 ((A.cf x:Nat):Int)]=H2 at*
  have b3:=f2.own b1 (fun h=>h)
  have Wh:=h1.slt
  have h2:=h1.ext f2 (fun _ _ h=>h)
  have Db:¬S1 H.size:=fun h=>by rcases fK _ h with h|h;exact QO _ (Nat.le_refl _) h;omega
  have By:¬S1 H1.size:=fun h=>by have:=Wh _ h;omega
  obtain⟨t,vv,I,Sn,B,k,d,n,hi,m,ho,d1,d2,hS,_⟩:=h2
  refine am.dec (fun _=>?_) (fun hh=>absurd trivial hh)
  refine v1 (ae ho) ?_
  refine(n.extract g hi).mono ?_
  have Fp:∀z,B.S z→z<H2.size:=m.slt
  have hos:=aO ho
  rintro _ H3 (⟨X9,_⟩| ⟨x',xa,rfl,Hy,uN,e3,Io⟩)
  ·exfalso
   obtain⟨RQ,OH,_⟩:=bN.1 hx
   exact(xd RQ).1 X9 x OH
  obtain rfl:=PI hx xa
  have ZZ:=e3.own ho (fun h=>(d1 _ h).2 rfl)
  have b4:=e3.own b3 (fun h=>Db ((hS _).2 (.inl h)))
  have c4:=e3.own b2 (fun h=>By ((hS _).2 (.inl h)))
  have m3:=m.ext e3 (fun z hz h=>(d1 z h).1 hz)
  have Wi:=e3.size
  refine v2 (ae ZZ) (ae c4) ?_
  refine(Fq m3 xk).mono ?_
  rintro _ H4 ⟨rfl,RP,m4,e4,QL⟩
  have nB1:¬B.S H.size:=fun h=>Db ((hS _).2 (.inr (.inl h)))
  have nB2:¬B.S H1.size:=fun h=>By ((hS _).2 (.inr (.inl h)))
  have b5:=e4.own b4 nB1
  have c5:=e4.own c4 nB2
  have ho4:=e4.own ZZ d2
  have hz4:=e4.size
  refine v2 (ae c5) b5 ?_
  obtain⟨e6,b6⟩:=QN b5 [i64 x',Value.int .u32 ((A.cf x':Nat):Int)]
  refine v1 (ae b6) ?_
  have LF:∀z,Hy z→Sn z∨H2.size≤z:=Io
  have Z0:∀z,(TQ.mk B.a B.sb RP).S z→B.S z∨H3.size≤z:=fun z hz=>by
   rcases hz with h|h|h
   ·exact .inl (.inl h)
   ·exact .inl (.inr (.inl h))
   ·exact(QL z h).imp_left fun h=>.inr (.inr h)
  have hiT:I H4 Hy (w.put x' (0,0,0)):=n.ext uN e4 (fun z hz hb=>by
   rcases LF z hz with h|h
   ·exact(d1 z h).1 hb
   ·have:=Fp z hb;omega)
  have Z1:=fun z hz=>n.slt uN z hz
  have nn1:∀b,¬S1 b→b<H2.size→¬Hy b∧¬ (TQ.mk B.a B.sb RP).S b:=fun b hb DN=>by
   refine⟨fun h=>?_,fun h=>?_⟩
   ·rcases LF b h with h|h
    ·exact hb ((hS b).2 (.inl h))
    ·omega
   ·rcases Z0 b h with h|h
    ·exact hb ((hS b).2 (.inr (.inl h)))
    ·omega
  have aea:H.size≠s:=fun e=>Db ((hS _).2 (.inr (.inr e)))
  have xm:=Ar.Cs xk
  have w8:FL H4 s (fun z=>Hy z∨(TQ.mk B.a B.sb RP).S z∨z=s) (w.put x' (0,0,0)) (A.back x') q:=by
   refine⟨t,vv,I,Hy,⟨B.a,B.sb,RP⟩,k,d,n,hiT,m4,ho4,fun z hz=>?_,fun h=>?_,fun z=>Iff.rfl,KK.put xm rfl⟩
   ·rcases LF z hz with h|h
    ·refine⟨fun hb=>?_,(d1 z h).2⟩
     rcases Z0 z hb with h2|h2
     ·exact(d1 z h).1 h2
     ·have:=Z1 z hz;omega
    ·refine⟨fun hb=>?_,fun e=>by omega⟩
     rcases Z0 z hb with h2|h2
     ·have:=Fp z h2;omega
     ·have:=Z1 z hz;omega
   ·rcases Z0 _ h with h2|h2
    ·exact d2 h2
    ·omega
  have aeb:=w8.tmp (b:=H.size) (l:=[i64 x',Value.int .u32 ((A.cf x':Nat):Int)]) (fun h=>by
   obtain⟨q1,q2⟩:=nn1 _ Db (by omega)
   rcases h with h|h|h
   ·exact q1 h
   ·exact q2 h
   ·exact aea h)
  have e04:ai S H H4:=by
   have e2:ai S H H2:=((f0.mono fun _ _ h=>h.elim).trans e1).trans (f2.mono fun _ _ h=>h.elim)
   exact⟨by have:=e2.size;omega,fun z hz hn=>by
    have eA:=e2.size
    have OI:¬S1 z:=fun h=>by rcases fK z h with h|h;exact hn h;omega
    rw[e4.aN z (by omega) (fun h=>OI ((hS z).2 (.inr (.inl h)))),e3.aN z (by omega) (fun h=>OI ((hS z).2 (.inl h))),e2.aN z hz hn]⟩
  have eA:=f2.size
  refine .inr ⟨x',y,hx,hy,rfl,FN aeb (FO e04 (Nat.le_refl _)) (fun z hz=>?_)⟩
  have KI:S1 z∨H2.size≤z:=by
   rcases hz with h|h|h
   ·rcases LF z h with h|h
    ·exact .inl ((hS z).2 (.inl h))
    ·exact .inr h
   ·rcases Z0 z h with h|h
    ·exact .inl ((hS z).2 (.inr (.inl h)))
    ·exact .inr (by omega)
   ·exact .inl ((hS z).2 (.inr (.inr h)))
  rcases KI with h|h
  ·exact(fK z h).imp_right fun h=>by omega
  ·exact .inr (by omega)
end
end Go.Proofs.YtjlnnljohemifaaGreat

namespace Go.Proofs.YtjlnnljohemifaaGreat
open Go Go.Vc
abbrev Nn(kd dd:Int):Value:=.agg [i64 kd,i64 dd].toArray
def lQ(kd dd:Int):Prop:=(1≤kd∧kd≤8)∧((kd=2∧2≤dd∧dd≤16)∨(kd≠2∧dd=0))
instance(kd dd:Int):Decidable (lQ kd dd):=by unfold lQ;exact inferInstance
def QP(kd dd:Int):Int:=if kd<1∨8<kd then 21 else if lQ kd dd then 0 else 22
theorem RR{kd dd:Int}(h:kd<1∨8<kd):QP kd dd=21:=by unfold QP;rw[if_pos h]
theorem No{kd dd:Int}(h:lQ kd dd):QP kd dd=0:=by
 have:=h.1
 unfold QP
 rw[if_neg (by omega),if_pos h]
theorem RS{kd dd:Int}(h1:¬ (kd<1∨8<kd))(h:¬lQ kd dd):QP kd dd=22:=by unfold QP;rw[if_neg h1,if_neg h]
theorem GC{kd dd:Int}:QP kd dd=0↔lQ kd dd:=by
 constructor
 ·intro h
  apply Classical.byContradiction
  intro hn
  by_cases h1:kd<1∨8<kd
  ·rw[RR h1]at h;cases h
  ·rw[RS h1 hn]at h;cases h
 ·exact No
theorem qv(kd dd:Int)(H:Hp):ah Tryz.prog HJ [Nn kd dd] H fun v H'=>ax (v=i64 (QP kd dd)∧ay H H'):=by
 refine bc HT ⟨rfl,?_⟩
 refine v1 rF.eq_1 ?_
 have f0:ay H (H.new 23 [i64 kd,i64 dd]):=(ai.refl _ _).new _ _
 repeat' (refine am.dec (fun _=>?_) (fun _=>?_)<;>try(refine v1 decide_true ?_))
 all_goals
  first
   | (exfalso;omega)
   | (refine⟨?_,f0⟩;exact(congrArg i64 (RR (by omega))).symm)
   | (refine⟨?_,f0⟩;exact(congrArg i64 (No (by unfold lQ;omega))).symm)
   | (refine⟨?_,f0⟩;exact(congrArg i64 (RS (by omega) (by unfold lQ;omega))).symm)
theorem xp(kd dd:Int)(H:Hp):ah Tryz.prog HH [Nn kd dd] H fun v H'=>ax (v=i64 (QP kd dd)∧ay H H'):=by
 refine bc HR ⟨rfl,?_⟩
 refine v1 rD.eq_1 ?_
 have f0:ay H (H.new 23 [i64 kd,i64 dd]):=(ai.refl _ _).new _ _
 repeat' (refine am.dec (fun _=>?_) (fun _=>?_)<;>try(refine v1 decide_true ?_))
 all_goals
  first
   | (exfalso;omega)
   | (refine⟨?_,f0⟩;exact(congrArg i64 (RR (by omega))).symm)
   | (refine⟨?_,f0⟩;exact(congrArg i64 (No (by unfold lQ;omega))).symm)
   | (refine⟨?_,f0⟩;exact(congrArg i64 (RS (by omega) (by unfold lQ;omega))).symm)
theorem lR{kd dd:Int}(hf:lQ kd dd)(hk:kd=1∨kd=2)(H:Hp):ah Tryz.prog HK [Nn kd dd] H fun v H'=>ax (v=i64 (if kd=1 then 2 else dd)∧ay H H'):=by
 refine bc HV ⟨rfl,?_⟩
 refine v1 rH.eq_1 ?_
 have f0:ay H (H.new 23 [i64 kd,i64 dd]):=(ai.refl _ _).new _ _
 have o0:(H.new 23 [i64 kd,i64 dd]).own H.size=some [i64 kd,i64 dd]:=aG _ _ _
 generalize H.new 23 [i64 kd,i64 dd]=H0 at*
 refine(qv kd dd H0).mono ?_
 rintro _ H1 ⟨rfl,f1⟩
 have o1:=f1.own o0 (fun h=>h)
 rw[No hf]
 refine v2 (ae o1) decide_true ?_
 rcases hk with rfl|rfl
 ·refine am.cj (by decide) ?_
  refine v2 (ae o1) decide_true ?_
  exact⟨rfl,f0.trans f1⟩
 ·refine am.aW (by decide) ?_
  refine v2 (ae o1) decide_true ?_
  exact⟨rfl,f0.trans f1⟩
structure RT(w:Nw)(L:List Lk)(tops:List Int):Prop where
 bt:Bv (aH w) (aT w) (bi L) (bu L) (br tops)
 tl:tops.length=w.hs.length
def dF(n:Nat)(H:Hp)(S:Nat→Prop)(w:Nw):Prop:=∃ (B:LB) (C:Nat→Prop) (L:List Lk) (rs tops:List Int),B.n=n∧cZ H B C w L rs tops∧RT w L tops∧∀z,S z↔B.S C z
theorem dF.slt{n:Nat}{H:Hp}{S:Nat→Prop}{w:Nw}(h:dF n H S w):∀z,S z→z<H.size:=by
 obtain⟨B,C,L,rs,tops,rfl,m,l,hS⟩:=h
 exact fun z hz=>m.slt z ((hS z).1 hz)
theorem dF.ext{n:Nat}{H H':Hp}{S T:Nat→Prop}{w:Nw}(h:dF n H S w)(e:ai T H H')(hd:∀z,S z→¬T z):dF n H' S w:=by
 obtain⟨B,C,L,rs,tops,rfl,m,l,hS⟩:=h
 exact⟨B,C,L,rs,tops,rfl,m.ext e (fun z hz=>hd z ((hS z).2 hz)),l,hS⟩
set_option maxRecDepth 100000 in
theorem zi{n:Nat}{H:Hp}{S:Nat→Prop}{w:Nw}(h:dF n H S w)(g x k s:Int):ah Tryz.prog ml [ptr n,i64 g,i64 x,vN k s] H fun v H'=>ax (
  (¬w.oG g x∧v= .bool false∧cD (dF n) S H H' w)∨(w.oG g x∧v= .bool true∧cD (dF n) S H H' (w.put x (g,k,s)))):=by
 obtain⟨B,C,L,rs,tops,rfl,m,l,hS⟩:=h
 refine bc vI ⟨rfl,?_⟩
 refine v1 mu.eq_1 ?_
 have f0:ay H (H.new 224 [i64 k,u64 s]):=(ai.refl _ _).new _ _
 have b0:(H.new 224 [i64 k,u64 s]).own H.size=some [i64 k,u64 s]:=aG _ _ _
 have m0:=m.fresh f0
 generalize H.new 224 [i64 k,u64 s]=H0 at*
 obtain⟨tv,J0,_⟩:=m0.own
 refine v2 (ae J0) (ae b0) ?_
 refine(nL m0.cells g x k s).mono ?_
 rintro _ H1 (⟨cw,rfl,c1,e1⟩| ⟨th,rfl,c1,e1⟩)
 ·refine vs ?_
  exact .inl ⟨cw,rfl,cD.same ⟨B,C,L,rs,tops,rfl,m0.aK c1 e1 rfl,l,hS⟩ ((f0.mono fun _ _ h=>h.elim).trans (e1.mono fun z _ hz=>(hS z).2 (.inl hz)))⟩
 obtain⟨hh,hx,bS⟩:=id th
 have m1:=m0.aK c1 e1 (by simp[Nw.put])
 have bm:=m1.len
 have qV:(w.put x (g,k,s)).cs.length=w.cs.length:=by simp[Nw.put]
 obtain⟨DU,o1,_⟩:=m1.own
 refine v1 (ae o1) ?_
 refine⟨⟨by omega,by omega⟩,?_⟩
 refine v3 m1.DT Nat.zero_add Nat.mul_one ?_
 refine⟨by rw[List.length_map];omega,?_⟩
 refine vs ?_
 obtain⟨m2,e2⟩:cZ (H1.wr B.rk ((rs.map i64).set x.toNat (Value.int .i64 1))) B C _ L (rs.set x.toNat 1) tops∧ai (fun z=>z=B.rk) H1 (H1.wr B.rk ((rs.map i64).set x.toNat (Value.int .i64 1))):=m1.Nj x.toNat 1
 generalize H1.wr B.rk ((rs.map i64).set x.toNat (Value.int .i64 1))=H2 at*
 obtain⟨cc,lt,o2,q2,Bn,xM,MF⟩:=m2.hG
 refine rV.intro (fun H'=>H'.own B.n=some [ptr B.c,ptr B.t,.slice (some ⟨B.rk,0,none⟩) (rs.set x.toNat 1).length (rs.set x.toNat 1).length,.slice (some ⟨B.tp,0,none⟩) tops.length cc]) o2 ?_
 refine vs ?_
 refine rW.intro (.slice (some ⟨B.tp,0,none⟩) tops.length cc) (fun H' hI=>by refine v1 (ae hI) ?_;trivial) ?_
 refine v1 (ae o2) ?_
 have hg:=hh.1
 have dv:g<tops.length:=by
  have:=(List.getElem?_eq_some_iff.1 hh.2).1
  have:=l.tl
  omega
 have q3:=m2.fA q2 (dW (tops:=tops) (h:=g) (by omega) dv)
 have cU:=fun y=>eD hx (g,k,s) y
 have bo:Ts (aH (w.put x (g,k,s))) (aT (w.put x (g,k,s))) (bi L) (bu L) (br tops) g x:=by
  refine l.bt.ins rfl (Int.not_lt.1 fun h=>bS (bJ.1 h)) (by omega) (by omega) (by rw[cU,if_pos rfl]) (fun y hy=>by rw[cU,if_neg hy]) (fun a b ha hb tE oY=>dE hx _ ha hb tE oY)
 refine And.intro o2 ?_
 refine vs ?_
 refine⟨⟨by omega,by omega⟩,?_⟩
 refine v4 (ae q2) Nat.zero_add Nat.mul_one q3 ?_
 refine And.intro o2 ?_
 refine vs ?_
 refine(jY m2 bo.mg).mono ?_
 rintro _ H3 ⟨r,L3,rs3,rfl,m3,g3,_,e3⟩
 have bn:=bo.done g3
 obtain⟨d1,d2,d3,d4⟩:=m2.qM.1
 have no:¬ (C B.n∨B.n=B.tl∨B.n=B.rk):=by rintro(h|h|h);exact m2.out.1 h;omega;omega
 refine And.intro (e3.own o2 no) ?_
 have q4:=e3.own q2 (by obtain⟨_,⟨_,_,d7⟩,⟨_,d9⟩,d10⟩:=m2.qM;rintro(h|h|h);exact m2.out.2.2.2.2 h;omega;omega)
 refine vs ?_
 refine⟨⟨by omega,by omega⟩,?_⟩
 refine v3 q4 Nat.zero_add Nat.mul_one ?_
 refine⟨by omega,?_⟩
 obtain⟨m4,e4⟩:=m3.nO q4 g.toNat r
 refine And.intro (e4.own (e3.own o2 no) d4) ?_
 refine vs ?_
 refine .inr ⟨th,rfl,B.S C,⟨B,C,L3,rs3,_,rfl,m4,⟨?_,by rw[List.length_set];exact l.tl⟩,fun z=>Iff.rfl⟩,?_,fun z hz=>.inl ((hS z).2 hz)⟩
 ·rw[eU (by omega) dv]
  exact bn
 ·have hC:∀z,C z→S z:=fun z h=>(hS z).2 (.inl h)
  have h1:S B.tl:=(hS _).2 (.inr (.inr (.inr (.inl rfl))))
  have h2:S B.rk:=(hS _).2 (.inr (.inr (.inr (.inr (.inl rfl)))))
  have h3:S B.tp:=(hS _).2 (.inr (.inr (.inr (.inr (.inr rfl)))))
  exact(((((f0.mono fun _ _ h=>h.elim).trans (e1.mono fun z _ h=>hC z h)).trans (e2.mono fun z _ h=>h▸h2)).trans (e3.mono fun z _ h=>by rcases h with h|rfl|rfl;exact hC z h;exact h1;exact h2)).trans (e4.mono fun z _ h=>h▸h3))
theorem Bv.none{hm:Int→Int}{lt:Int→Int→Bool}{K:Int→Bool→Int}{U T:Int→Int}(h0:hm (-1)=0)(hh:∀x,¬0<hm x)(hk:∀x c,K x c= -1)(hu:∀x,U x= -1)(ht:∀g,T g= -1):Bv hm lt K U T:=
 ⟨⟨h0,fun p c x h hx=>absurd (h.symm.trans (hk p c)) hx,fun x p h hp=>absurd (h.symm.trans (hu x)) hp,fun p _=>hk p _⟩,fun g h=>absurd (ht g) h,fun x hx=>absurd hx (hh x)⟩
theorem Cv(n:Nat)(x:Int)(c:Bool):bi (List.replicate n me) x c= -1:=by
 by_cases h:0≤x∧x< (List.replicate n me).length
 ·have h2:=h.2
  rw[List.length_replicate]at h2
  rw[rS (y:=me) h.1 (by rw[List.getElem?_replicate,if_pos (by omega)])]
  cases c<;>rfl
 ·exact RJ h c
theorem GD(n:Nat)(x:Int):bu (List.replicate n me) x= -1:=by
 by_cases h:0≤x∧x< (List.replicate n me).length
 ·have h2:=h.2
  rw[List.length_replicate]at h2
  rw[xg (y:=me) h.1 (by rw[List.getElem?_replicate,if_pos (by omega)])]
  rfl
 ·exact Nh h
def Cw(cap:Int):Nw:=⟨[false],List.replicate cap.toNat (0,0,0)⟩
theorem nP(cap:Int)(x:Int):¬0<aH (Cw cap) x:=by
 intro h
 obtain⟨h1,h2,e,he⟩:=aF h
 have h3:(List.replicate cap.toNat ((0,0,0):Ce))[x.toNat]? =some (aH (Cw cap) x,e):=he
 have:=List.eq_of_mem_replicate (List.mem_of_getElem? h3)
 injection this with h4 h5
 omega
theorem DZ(g:Int):br [-1] g= -1:=by
 unfold br
 split
 ·rw[List.getD_eq_getElem?_getD]
  rcases hg:g.toNat with _|k
  ·rfl
  ·rfl
 ·rfl
theorem xq(k:Nat):cQ [Value.int .i64 0] k=(List.replicate k (0:Int)).map i64:=by
 induction k with
 |zero=>rfl
 |succ k ih=>simp only[cQ,List.replicate_succ,List.flatten_cons,List.map_cons]at*;rw[ih];rfl
theorem D0(cap:Int)(H:Hp):ah Tryz.prog HM [i64 cap] H fun v H'=>ax (
  ay H H'∧((¬ (0≤cap∧cap≤65536)∧v= .tuple [.pointer none,i64 31].toArray)∨
   ((0≤cap∧cap≤65536)∧∃n S,v= .tuple [ptr n,i64 0].toArray∧dF n H' S (Cw cap)∧∀x,S x→H.size≤x))):=by
 refine bc HX ⟨rfl,?_⟩
 refine v1 rK.eq_1 ?_
 refine(nM cap H).mono ?_
 rintro _ H1 ⟨f1,⟨hb,rfl⟩| ⟨hb,c,C,rfl,c1,hC⟩⟩
 ·refine vs ?_
  exact⟨f1,.inl ⟨hb,rfl⟩⟩
 refine v1 decide_true ?_
 refine(xh H1 hb).mono ?_
 rintro _ H2 ⟨t,tl,rfl,t2,f2,ht,ME⟩
 refine vs ?_
 refine⟨⟨by omega,by omega,by omega,by omega⟩,?_⟩
 refine vs ?_
 rw[xq]
 have zx:=c1.slt
 have z1:=f1.size
 have z2:=f2.size
 have HA:=aO t2.own
 have Wj:=aO t2.nN
 have f3:ay H2 (((H2.new 3 ((List.replicate cap.toNat (0:Int)).map i64)).new 3 [Value.int .i64 (-1)]).new 279 [ptr c,ptr t,.slice (some ⟨H2.size,0,none⟩) cap.toNat cap.toNat,.slice (some ⟨H2.size+1,0,none⟩) 1 1]):=(((ai.refl _ _).new _ _).new _ _).new _ _
 have e1:ai (fun _=>False) (H2.new 3 ((List.replicate cap.toNat (0:Int)).map i64)) (((H2.new 3 ((List.replicate cap.toNat (0:Int)).map i64)).new 3 [Value.int .i64 (-1)]).new 279 [ptr c,ptr t,.slice (some ⟨H2.size,0,none⟩) cap.toNat cap.toNat,.slice (some ⟨H2.size+1,0,none⟩) 1 1]):=((ai.refl _ _).new _ _).new _ _
 have e2:ai (fun _=>False) ((H2.new 3 ((List.replicate cap.toNat (0:Int)).map i64)).new 3 [Value.int .i64 (-1)]) (((H2.new 3 ((List.replicate cap.toNat (0:Int)).map i64)).new 3 [Value.int .i64 (-1)]).new 279 [ptr c,ptr t,.slice (some ⟨H2.size,0,none⟩) cap.toNat cap.toNat,.slice (some ⟨H2.size+1,0,none⟩) 1 1]):=(ai.refl _ _).new _ _
 have ft:=f1.trans (f2.trans f3)
 refine⟨ft,.inr ⟨hb,H2.size+1+1,(LB.mk (H2.size+1+1) c t tl H2.size (H2.size+1)).S C,rfl,⟨⟨H2.size+1+1,c,t,tl,H2.size,H2.size+1⟩,C,_,List.replicate cap.toNat 0,[-1],rfl,
  ⟨⟨.slice (some ⟨H2.size+1,0,none⟩) 1 1,?_,?_⟩,c1.fresh (f2.trans f3),t2.fresh f3,?_,?_,?_,?_⟩,⟨Bv.none rfl (nP cap) (Cv _) (GD _) DZ,rfl⟩,fun z=>Iff.rfl⟩,fun z hz=>?_⟩⟩
 ·rw[List.length_replicate]
  exact bC (by simp only[au])
 ·exact(Sl.dQ (size:=1) (n:=1) (xs:=[i64 (-1)]) rfl (by simp only[au])).ext e2 (fun _ _ h=>h)
 ·exact e1.own (aG _ _ _) (fun h=>h)
 ·simp[Cw]
 ·have:=t2.ne
  refine⟨⟨?_,?_,?_,?_⟩,⟨?_,?_,?_⟩,⟨?_,?_⟩,?_⟩<;>simp only<;>omega
 ·refine⟨fun h=>?_,fun h=>?_,fun h=>?_,fun h=>?_,fun h=>?_⟩<;>(have h2:=zx _ h;first|omega| (simp only at h2;omega))
 ·rcases hz with hz|rfl|rfl|rfl|rfl|rfl
  ·exact hC z hz
  all_goals first|omega| (simp only;omega)
theorem Cx{n:Nat}{H:Hp}{S:Nat→Prop}{w:Nw}(h:dF n H S w):ah Tryz.prog oT [ptr n] H fun v H'=>ax (
  (w.hs.length=65537∧v=i64 0∧cD (dF n) S H H' w)∨(w.hs.length≠65537∧v=i64 w.hs.length∧cD (dF n) S H H' w.make)):=by
 obtain⟨B,C,L,rs,tops,rfl,m,l,hS⟩:=id h
 obtain⟨tv,ho,Hv⟩:=m.own
 refine bc za ⟨rfl,?_⟩
 refine v2 iS.eq_1 (ae ho) ?_
 refine(lN m.cells).mono ?_
 rintro _ H1 (⟨h1,rfl,rfl⟩| ⟨h1,rfl,C',c1,e1,AX⟩)
 ·refine vs ?_
  exact .inl ⟨h1,rfl,cD.same h (ai.refl _ _)⟩
 have iw:=m.cells.pos
 have hhs:=m.cells.Hv
 have ME:=l.tl
 have slt:=m.slt
 have LH:=c1.slt
 obtain⟨n1,n2,n3,n4,n5⟩:=m.out
 obtain⟨⟨d1,d2,d3,d4⟩,⟨d5,d6,d7⟩,⟨d8,d9⟩,d10⟩:=m.qM
 have o1:=e1.own ho n1
 refine vs ?_
 refine am.cj (decide_eq_true (by omega)) ?_
 refine v1 (ae o1) ?_
 have s1:=Hv.ext e1 (fun b hb=>by injection hb with hb;exact hb▸n5)
 refine Rz s1 (-1) (by omega) fun w' H2 b' vY s2 e2=>?_
 have o2:=e2.own o1 d4
 obtain⟨wa,wc,OJ⟩:=Sl.shape s2
 subst OJ
 refine v1 o2 ?_
 generalize OJ:Value.slice wa (tops++[-1]).length wc=w' at*
 have e3:ai (fun z=>z=B.n) H2 (H2.wr B.n [ptr B.c,ptr B.t,.slice (some ⟨B.rk,0,none⟩) rs.length rs.length,w']):=(ai.refl (fun z=>z=B.n) _).wr (fun _=>rfl) _
 have z1:=e1.size
 have sl:∀z,z=B.n∨z=B.t∨z=B.tl∨z=B.rk∨z=B.tp→z<H.size:=fun z hz=>slt z (.inr hz)
 have hn:=sl _ (.inl rfl)
 have ht:=sl _ (.inr (.inl rfl))
 have Wj:=sl _ (.inr (.inr (.inl rfl)))
 have hrk:=sl _ (.inr (.inr (.inr (.inl rfl))))
 have htp:=sl _ (.inr (.inr (.inr (.inr rfl))))
 have GF:∀z,C' z→z≠b'∧(z<H.size→C z):=fun z hz=>by
  have h5:=LH z hz
  rcases AX z hz with h6|h6
  ·refine⟨fun e=>?_,fun _=>h6⟩
   rcases vY with h7|h7
   ·exact n5 (by rw[←h7,←e];exact h6)
   ·omega
  ·exact⟨by omega,fun h=>by omega⟩
 refine .inr ⟨h1,rfl,(LB.mk B.n B.c B.t B.tl B.rk b').S C',⟨⟨B.n,B.c,B.t,B.tl,B.rk,b'⟩,C',L,rs,tops++[-1],rfl,⟨⟨w',aj o2,s2.ext e3 (fun b hb=>by injection hb with hb;omega)⟩,?_,?_,?_,m.len,?_,?_⟩,⟨by rw[Cq];exact l.bt,?_⟩,fun z=>Iff.rfl⟩,?_,fun z hz=>?_⟩
 ·exact(c1.ext e2 (fun x hx e=>by
   rcases AX x hx with h6|h6
   ·exact n5 (e▸h6)
   ·omega)).ext e3 (fun x hx e=>by
   rcases AX x hx with h6|h6
   ·exact n1 (e▸h6)
   ·omega)
 ·exact((m.bW.ext e1 n2 n3).ext e2 d7 d9).ext e3 (Ne.symm d1) (Ne.symm d2)
 ·exact e3.own (e2.own (e1.own m.DT n4) d10) (Ne.symm d3)
 ·refine⟨⟨d1,d2,d3,?_⟩,⟨d5,d6,?_⟩,⟨d8,?_⟩,?_⟩<;>simp only<;>omega
 ·refine⟨fun h=>?_,fun h=>?_,fun h=>?_,fun h=>?_,fun h=>?_⟩
  ·exact n1 ((GF _ h).2 hn)
  ·exact n2 ((GF _ h).2 ht)
  ·exact n3 ((GF _ h).2 Wj)
  ·exact n4 ((GF _ h).2 hrk)
  ·exact(GF _ h).1 rfl
 ·simp[Nw.make,ME]
 ·exact((e1.mono fun z _ h=>(hS z).2 (.inl h)).trans (e2.mono fun z _ h=>(hS z).2 (.inr (.inr (.inr (.inr (.inr h))))))).trans (e3.mono fun z _ h=>(hS z).2 (.inr (.inl h)))
 ·rcases hz with hz|rfl|rfl|rfl|rfl|rfl
  ·rcases AX z hz with h6|h6
   ·exact .inl ((hS z).2 (.inl h6))
   ·exact .inr h6
  ·exact .inl ((hS _).2 (.inr (.inl rfl)))
  ·exact .inl ((hS _).2 (.inr (.inr (.inl rfl))))
  ·exact .inl ((hS _).2 (.inr (.inr (.inr (.inl rfl)))))
  ·exact .inl ((hS _).2 (.inr (.inr (.inr (.inr (.inl rfl))))))
  ·rcases vY with rfl|h7
   ·exact .inl ((hS _).2 (.inr (.inr (.inr (.inr (.inr rfl))))))
   ·exact .inr (by first|omega| (simp only;omega))
theorem RT.first{w:Nw}{L:List Lk}{tops:List Int}(l:RT w L tops){g x:Int}(h:w.first g x):br tops g=x:=by
 obtain⟨h1,h2,h3⟩:=bN.1 h
 have:=l.bt.first (x:=x) (by omega) (fun y hy aS=>h3 y (by omega) aS) (aq w)
 rwa[h2]at this
theorem ti{n:Nat}{H:Hp}{S:Nat→Prop}{w:Nw}(h:dF n H S w)(g:Int):ah Tryz.prog pT [ptr n,i64 g] H fun v H'=>ax (
  ((w.len g=0∧v= .tuple [i64 0,.bool false].toArray)∨∃x,w.first g x∧v= .tuple [i64 x,.bool true].toArray)∧H'=H):=by
 obtain⟨B,C,L,rs,tops,rfl,m,l,hS⟩:=h
 obtain⟨cc,lt,ho,q2,Bn,xM,MF⟩:=m.hG
 refine bc AI ⟨rfl,?_⟩
 refine v2 jQ.eq_1 (ae ho) ?_
 refine(xf m.cells g).mono ?_
 rintro _ _ ⟨rfl,rfl⟩
 refine vs ?_
 refine am.dec (fun h0=>?_) (fun h0=>?_)
 ·refine vs ?_
  exact⟨.inl ⟨h0,rfl⟩,rfl⟩
 have hg:0<g:=Classical.byContradiction fun hg=>h0 (Nw.Ir.2 (.inl (by omega)))
 obtain⟨x,hx⟩:=xe hg h0
 have hh:=(bN.1 hx).2.1
 have dv:=((m.cells.hm x).2 (by omega)).2
 rw[hh,←l.tl]at dv
 have q3:=m.fA q2 (dW (tops:=tops) (h:=g) (by omega) dv)
 rw[l.first hx]at q3
 refine v1 (ae ho) ?_
 refine⟨⟨by omega,by omega⟩,?_⟩
 refine v4 (ae q2) Nat.zero_add Nat.mul_one q3 ?_
 exact⟨.inr ⟨x,hx,rfl⟩,rfl⟩
set_option maxRecDepth 100000 in
theorem vR{n:Nat}{H:Hp}{S:Nat→Prop}{w:Nw}(h:dF n H S w)(x k s:Int):ah Tryz.prog ke [ptr n,i64 x,vN k s] H fun v H'=>ax (
  (¬w.da x k s∧v= .bool false∧cD (dF n) S H H' w)∨(w.da x k s∧v= .bool true∧∃y,w.cs[x.toNat]? =some y∧cD (dF n) S H H' (w.put x (y.1,k,s)))):=by
 obtain⟨B,C,L,rs,tops,rfl,m,l,hS⟩:=h
 refine bc sT ⟨rfl,?_⟩
 refine v1 kj.eq_1 ?_
 have f0:ay H (H.new 224 [i64 k,u64 s]):=(ai.refl _ _).new _ _
 have b0:(H.new 224 [i64 k,u64 s]).own H.size=some [i64 k,u64 s]:=aG _ _ _
 have m0:=m.fresh f0
 generalize H.new 224 [i64 k,u64 s]=H0 at*
 obtain⟨tv,J0,_⟩:=m0.own
 refine v2 (ae J0) (ae b0) ?_
 refine(jh m0.cells x k s).mono ?_
 have hC:∀z,C z→S z:=fun z h=>(hS z).2 (.inl h)
 have ff:ai S H H0:=f0.mono fun _ _ h=>h.elim
 rintro _ H1 (⟨cw,rfl,c1,e1⟩| ⟨bS,rfl,y,hy,gm,c1,e1⟩)
 ·refine vs ?_
  exact .inl ⟨cw,rfl,cD.same ⟨B,C,L,rs,tops,rfl,m0.ext e1 (fun _ _ h=>h),l,hS⟩ (ff.trans (e1.mono fun _ _ h=>h.elim))⟩
 have qV:(w.put x (y.1,k,s)).cs.length=w.cs.length:=by simp[Nw.put]
 have m1:=m0.aK c1 e1 qV
 have Cy:w.da x k s:=⟨bS,fun z hz=>by rw[hy]at hz;injection hz with hz;rw[←hz];exact gm⟩
 have hx:0≤x∧x<w.cs.length:=⟨bS.1,by have:=(List.getElem?_eq_some_iff.1 hy).1;have:=bS.1;omega⟩
 have QH:aH w x=y.1:=mT bS.1 hy
 have ec:=bJ.2 bS
 have hw:aH (w.put x (y.1,k,s))=aH w:=by
  funext z
  rw[eD hx]
  split
  ·rename_i e;rw[e,QH]
  ·rfl
 have Ft:cY (w.put x (y.1,k,s)).cs x:=bJ.1 (by rw[hw];exact ec)
 obtain⟨DU,o1,_⟩:=m1.own
 refine v1 (ae o1) ?_
 refine(dm m1.cells x).mono ?_
 rintro _ H2 (⟨cw,_,_⟩| ⟨_,rfl,c2,e2⟩)
 ·exact absurd Ft cw
 have m2:=m1.aK c2 e2 rfl
 obtain⟨Nk,o2,_⟩:=m2.own
 have sA:ai S H H2:=(ff.trans (e1.mono fun z _ h=>hC z h)).trans (e2.mono fun z _ h=>hC z h)
 have el:∀a b,0<aH w a→0<aH w b→a≠x→b≠x→aT (w.put x (y.1,k,s)) a b=aT w a b:=fun a b ha hb tE oY=>dE hx _ ha hb tE oY
 have ex:∀b,0<aH w b→b≠x→aT w x b=true→aT (w.put x (y.1,k,s)) x b=true:=fun b hb oY h=>Cp bS hy gm hb oY h
 refine v1 (ae o2) ?_
 refine(cM m2.bW (x:=x) (fun hu=>by have:=Cr.up l.bt.bt hu;have:=m2.len.1;omega)).mono ?_
 rintro _ H3 ⟨rfl,L3,t3,l3,k3,u3,e3⟩
 have m3:=m2.dJ t3 e3 l3
 have h1:S B.tl:=(hS _).2 (.inr (.inr (.inr (.inl rfl))))
 have h2:S B.rk:=(hS _).2 (.inr (.inr (.inr (.inr (.inl rfl)))))
 have h3:S B.tp:=(hS _).2 (.inr (.inr (.inr (.inr (.inr rfl)))))
 have Fj:ai S H H3:=sA.trans (e3.mono fun z _ h=>h▸h1)
 unfold it
 by_cases hu:bu L x= -1
 ·rw[if_pos hu]
  refine vs ?_
  have kk:bi L3=bi L:=by rw[k3];unfold kI;rw[if_pos hu]
  have uu:bu L3=bu L:=by
   rw[u3]
   funext z
   unfold c7 aI
   split
   ·rename_i e;rw[e,hu]
   ·rfl
  refine .inr ⟨Cy,rfl,y,hy,cD.same ⟨B,C,L3,rs,tops,rfl,m3,⟨?_,l.tl⟩,hS⟩ Fj⟩
  rw[hw,kk,uu]
  exact l.bt.Tt ec hu el ex (aq w)
 rw[if_neg hu]
 refine vs ?_
 have bo:=l.bt.low ec hu el ex (aq w)
 rw[←hw,←k3,←u3]at bo
 have EP:=Cr.up l.bt.bt hu
 refine(lP m3 bo.bt (x:=bu L x) (fun _=>by rw[hw,EP.2.2.2];exact ec)).mono ?_
 rintro _ H4 ⟨L4,UW,m4,b4,u4,e4⟩
 have bo4:Ts (aH (w.put x (y.1,k,s))) (aT (w.put x (y.1,k,s))) (bi L4) (bu L4) (br tops) (aH (w.put x (y.1,k,s)) x) x:=⟨b4,by rw[u4];exact bo.t1,by rw[u4];exact bo.t2,by rw[u4];exact bo.ox,bo.nx,bo.g0⟩
 have Bo:ai S H H4:=Fj.trans (e4.mono fun z _ h=>by rcases h with rfl|rfl;exact h1;exact h2)
 obtain⟨cc,lt,o4,q2,Bn,xM,MF⟩:=m4.hG
 have dv:aH (w.put x (y.1,k,s)) x<tops.length:=by
  have:=((m4.cells.hm x).2 bo.g0).2
  have e5:(w.put x (y.1,k,s)).hs=w.hs:=rfl
  rw[e5]at this
  have:=l.tl
  omega
 have RQ:=bo.g0
 generalize hg:aH (w.put x (y.1,k,s)) x=g at*
 have q3:=m4.fA q2 (dW (tops:=tops) (h:=g) (by omega) dv)
 refine vs ?_
 refine rV.intro (fun H'=>H'.own B.n=some [ptr B.c,ptr B.t,.slice (some ⟨B.rk,0,none⟩) UW.length UW.length,.slice (some ⟨B.tp,0,none⟩) tops.length cc]) o4 ?_
 refine vs ?_
 refine rW.intro (.slice (some ⟨B.tp,0,none⟩) tops.length cc) (fun H' hI=>by refine v1 (ae hI) ?_;trivial) ?_
 refine v1 (ae o4) ?_
 refine And.intro o4 ?_
 refine vs ?_
 refine⟨⟨by omega,by omega⟩,?_⟩
 refine v4 (ae q2) Nat.zero_add Nat.mul_one q3 ?_
 refine And.intro o4 ?_
 refine vs ?_
 refine(jY m4 bo4.mg).mono ?_
 rintro _ H5 ⟨r,L5,rs5,rfl,m5,g5,_,e5⟩
 have bn:=bo4.done g5
 obtain⟨d1,d2,d3,d4⟩:=m4.qM.1
 have no:¬ (C B.n∨B.n=B.tl∨B.n=B.rk):=by rintro(h|h|h);exact m4.out.1 h;omega;omega
 refine And.intro (e5.own o4 no) ?_
 have q4:=e5.own q2 (by obtain⟨_,⟨_,_,d7⟩,⟨_,d9⟩,d10⟩:=m4.qM;rintro(h|h|h);exact m4.out.2.2.2.2 h;omega;omega)
 refine vs ?_
 refine⟨⟨by omega,by omega⟩,?_⟩
 refine v3 q4 Nat.zero_add Nat.mul_one ?_
 refine⟨by omega,?_⟩
 obtain⟨m6,e6⟩:=m5.nO q4 g.toNat r
 refine And.intro (e6.own (e5.own o4 no) d4) ?_
 refine vs ?_
 refine .inr ⟨Cy,rfl,y,hy,cD.same ⟨B,C,L5,rs5,_,rfl,m6,⟨?_,by rw[List.length_set];exact l.tl⟩,hS⟩ ?_⟩
 ·rw[eU (by omega) dv]
  exact bn
 ·exact(Bo.trans (e5.mono fun z _ h=>by rcases h with h|rfl|rfl;exact hC z h;exact h1;exact h2)).trans (e6.mono fun z _ h=>h▸h3)
set_option maxRecDepth 100000 in
set_option maxHeartbeats 1000000 in
theorem zj{n:Nat}{H:Hp}{S:Nat→Prop}{w:Nw}(h:dF n H S w)(x:Int):ah Tryz.prog vu [ptr n,i64 x] H fun v H'=>ax (
  (¬cY w.cs x∧v= .bool false∧cD (dF n) S H H' w)∨(cY w.cs x∧v= .bool true∧cD (dF n) S H H' (w.put x (0,0,0)))):=by
 obtain⟨B,C,L,rs,tops,rfl,m,l,hS⟩:=id h
 have hC:∀z,C z→S z:=fun z h=>(hS z).2 (.inl h)
 have s1:S B.tl:=(hS _).2 (.inr (.inr (.inr (.inl rfl))))
 have s2:S B.rk:=(hS _).2 (.inr (.inr (.inr (.inr (.inl rfl)))))
 have s3:S B.tp:=(hS _).2 (.inr (.inr (.inr (.inr (.inr rfl)))))
 obtain⟨tv,o0,_⟩:=m.own
 refine bc vH ⟨rfl,?_⟩
 refine v2 fS.eq_1 (ae o0) ?_
 refine(dm m.cells x).mono ?_
 rintro _ H1 (⟨cw,rfl,rfl⟩| ⟨bS,rfl,c1,e1⟩)
 ·refine vs ?_
  exact .inl ⟨cw,rfl,cD.same h (ai.refl _ _)⟩
 have m1:=m.aK c1 e1 rfl
 obtain⟨DU,o1,_⟩:=m1.own
 have ec:=bJ.2 bS
 obtain⟨ie,j5,_⟩:=aF ec
 have FI:x≠ -1:=by omega
 have ls:=aq w
 have t:=l.bt
 refine v1 (ae o1) ?_
 obtain⟨a1,b1,Z2⟩:=cN (bi L x false)
 obtain⟨a2,b2,Z3⟩:=cN (bi L x true)
 refine⟨.tuple [i64 a1,.bool b1].toArray,(oD m1.bW x).mono (by rintro v H' ⟨rfl,rfl⟩;exact⟨Z2,rfl⟩),?_⟩
 refine vs ?_
 refine⟨_,cC H1 _ a1 b1 Z2,?_⟩
 refine v1 (ae o1) ?_
 refine(cB m1.bW x).mono ?_
 rintro _ H' ⟨rfl,e⟩
 obtain rfl:=e.symm
 rw[Z3]
 refine vs ?_
 refine(cC H1 _ a2 b2 Z3).mono ?_
 rintro _ H' ⟨rfl,e⟩
 obtain rfl:=e.symm
 refine v1 (ae o1) ?_
 refine(cM m1.bW (x:=bi L x false) (fun hu=>by have:=Cr.up t.bt hu;have:=m1.len.1;omega)).mono ?_
 rintro _ H2 ⟨rfl,L2,t2,l2,k2,u2,e2⟩
 have m2:=m1.dJ t2 e2 l2
 have bt2:Cr w L2:=by
  show Bt _ _ _ _
  rw[k2,u2];exact t.bt.Tr _
 obtain⟨Nk,o2,_⟩:=m2.own
 refine v1 (ae o2) ?_
 refine(cM m2.bW (x:=bi L x true) (fun hu=>by have:=Cr.up bt2 hu;have:=m2.len.1;omega)).mono ?_
 rintro _ H3 ⟨rfl,L3,t3,l3,k3,u3,e3⟩
 rw[k2,u2]at k3
 rw[u2]at u3
 have m3:=m2.dJ t3 e3 l3
 obtain⟨w1,w2,w3,w4⟩:=t.bt.bare x
 have hk:∀c,bi L x c= -1∨(aH w (bi L x c)=aH w x∧bu L3 (bi L x c)= -1):=fun c=>by
  by_cases hk:bi L x c= -1
  ·exact .inl hk
  ·refine .inr ⟨(t.bt.home hk).2.2.1,?_⟩
   rw[u3,w4,if_pos]
   cases c
   ·exact .inl rfl
   ·exact .inr rfl
 rw[←k3,←u3]at w1
 have mg:=Mg.start w1 ec (hk false) (hk true) (fun e=>t.bt.two x e)
 refine vs ?_
 refine(jY m3 mg).mono ?_
 rintro _ H4 ⟨r,L4,UW,rfl,m4,g4,f4,e4⟩
 have f4:=f4 x (ye.start (fun hk=>(t.bt.home hk).2.2.2.2) (fun hk=>(t.bt.home hk).2.2.2.2))
 have d:=t.UK ls ec k3 u3 g4 f4
 have Bo:ai S H H4:=(((e1.mono fun z _ h=>hC z h).trans (e2.mono fun z _ h=>h▸s1)).trans (e3.mono fun z _ h=>h▸s1)).trans (e4.mono fun z _ h=>by rcases h with h|rfl|rfl;exact hC z h;exact s1;exact s2)
 obtain⟨Z4,o4,_⟩:=m4.own
 have cU:=fun y=>eD (w:=w) ⟨ie,j5⟩ (0,0,0) y
 have p0:aH (w.put x (0,0,0)) (-1)=0:=rfl
 have p1:aH (w.put x (0,0,0)) x=0:=by rw[cU,if_pos rfl]
 have p2:∀y,y≠x→aH (w.put x (0,0,0)) y=aH w y:=fun y hy=>by rw[cU,if_neg hy]
 have el:∀a b,0<aH w a→0<aH w b→a≠x→b≠x→aT (w.put x (0,0,0)) a b=aT w a b:=fun a b ha hb tE oY=>dE ⟨ie,j5⟩ _ ha hb tE oY
 have qV:(w.put x (0,0,0)).cs.length=w.cs.length:=by simp[Nw.put]
 refine v1 (ae o4) ?_
 refine(rT m4.bW x).mono ?_
 rintro _ H' ⟨rfl,e⟩
 obtain rfl:=e.symm
 rw[d.ux]
 unfold it
 by_cases hu:bu L x= -1
 ·rw[if_pos hu]
  obtain⟨cc,lt,o5,q5,Bn,xM,MF⟩:=m4.hG
  have dv:aH w x<tops.length:=by
   have:=((m4.cells.hm x).2 ec).2
   have:=l.tl
   omega
  refine v1 (ae o5) ?_
  refine⟨⟨by omega,by omega⟩,?_⟩
  refine v3 q5 Nat.zero_add Nat.mul_one ?_
  refine⟨by omega,?_⟩
  obtain⟨m5,e5⟩:=m4.nO q5 (aH w x).toNat r
  obtain⟨tv6,o6,_⟩:=m5.own
  refine v1 (ae o6) ?_
  refine(ck m5.cells x).mono ?_
  rintro _ H6 (⟨cw,_,_⟩| ⟨_,rfl,c6,e6⟩)
  ·exact absurd bS cw
  have m6:=m5.aK c6 e6 qV
  refine vs ?_
  refine .inr ⟨bS,rfl,cD.same ⟨B,C,L4,UW,_,rfl,m6,⟨?_,by rw[List.length_set];exact l.tl⟩,hS⟩ ((Bo.trans (e5.mono fun z _ h=>h▸s3)).trans (e6.mono fun z _ h=>hC z h))⟩
  rw[eU (by omega) dv]
  exact d.O5 t ec hu p0 p1 p2 el
 ·rw[if_neg hu]
  have EP:=Cr.up t.bt hu
  obtain⟨w5,w6⟩:=d.cut t ls ec hu
  obtain⟨a3,b3,Yl⟩:=cN (bi L4 (bu L x) true)
  refine v1 (ae o4) ?_
  refine(cB m4.bW (bu L x)).mono ?_
  rintro _ H' ⟨rfl,e⟩
  obtain rfl:=e.symm
  rw[Yl]
  refine vs ?_
  refine(cC _ _ a3 b3 Yl).mono ?_
  rintro _ H' ⟨rfl,e⟩
  obtain rfl:=e.symm
  rw[d.kp _ true rfl hu]
  refine v1 (ae o4) ?_
  refine(cM m4.bW (x:=x) (fun hu2=>by have:=Cr.up d.bt hu2;have:=m4.len.1;omega)).mono ?_
  rintro _ H5 ⟨rfl,L5,t5,l5,k5,u5,e5⟩
  have m5:=m4.dJ t5 e5 l5
  obtain⟨tv5,o5,_⟩:=m5.own
  refine vs ?_
  have U6:=Bo.trans (e5.mono fun z _ h=>h▸s1)
  refine am.dec (fun g=>?_) (fun g=>?_)<;>refine vs ?_
  ·have m6:=m5
   have QQ:=U6
   have b6:Cr w L5:=by
    show Bt _ _ _ _
    rw[k5,u5];exact w5 g
   have u6:bu L5=if r= -1 then c7 (bu L4) x else aI (c7 (bu L4) x) r (bu L x):=by rw[if_pos g];exact u5
   refine(lP m6 b6 (x:=bu L x) (fun _=>by rw[EP.2.2.2];exact ec)).mono ?_
   rintro _ H7 ⟨L7,rs7,m7,b7,u7,e7⟩
   have e17:=QQ.trans (e7.mono fun z _ h=>by rcases h with rfl|rfl;exact s1;exact s2)
   obtain⟨tv7,o7,_⟩:=m7.own
   refine v1 (ae o7) ?_
   refine(ck m7.cells x).mono ?_
   rintro _ H8 (⟨cw,_,_⟩| ⟨_,rfl,c8,e8⟩)
   ·exact absurd bS cw
   have m8:=m7.aK c8 e8 qV
   refine vs ?_
   refine .inr ⟨bS,rfl,cD.same ⟨B,C,L7,rs7,tops,rfl,m8,⟨?_,l.tl⟩,hS⟩ (e17.trans (e8.mono fun z _ h=>hC z h))⟩
   exact d.below t ls (n:=w.cs.length) (fun y hy=>by obtain⟨y0,y1,_⟩:=aF hy;exact⟨y0,y1⟩) ec hu b7 (by rw[u7,u6]) p0 p1 p2 el
  ·obtain⟨y1,y2,y3,y4⟩:=w6 g
   obtain⟨r1,r2,r3,r4⟩:=d.rx g
   obtain⟨q1,q2,_⟩:=aF (w:=w) (x:=r) (by omega)
   have hl5:=m5.len
   refine v1 (ae o5) ?_
   refine(fE m5.bW (p:=bu L x) (x:=r) (c:=(bi L (bu L x) true==x)) ⟨EP.1,by omega⟩ ⟨q1,by omega⟩ y3 (by rw[u5];exact y2) (by rw[k5];exact y1)).mono ?_
   rintro _ H6 ⟨rfl,L6,t6,l6,k6,RU,e6⟩
   have m6:=m5.dJ t6 e6 l6
   have QQ:=U6.trans (e6.mono fun z _ h=>h▸s1)
   rw[k5]at k6
   rw[u5]at RU
   have b6:Cr w L6:=by
    show Bt _ _ _ _
    rw[k6,RU];exact y4
   have u6:bu L6=if r= -1 then c7 (bu L4) x else aI (c7 (bu L4) x) r (bu L x):=by rw[if_neg g];exact RU
   refine vs ?_
   refine(lP m6 b6 (x:=bu L x) (fun _=>by rw[EP.2.2.2];exact ec)).mono ?_
   rintro _ H7 ⟨L7,rs7,m7,b7,u7,e7⟩
   have e17:=QQ.trans (e7.mono fun z _ h=>by rcases h with rfl|rfl;exact s1;exact s2)
   obtain⟨tv7,o7,_⟩:=m7.own
   refine v1 (ae o7) ?_
   refine(ck m7.cells x).mono ?_
   rintro _ H8 (⟨cw,_,_⟩| ⟨_,rfl,c8,e8⟩)
   ·exact absurd bS cw
   have m8:=m7.aK c8 e8 qV
   refine vs ?_
   refine .inr ⟨bS,rfl,cD.same ⟨B,C,L7,rs7,tops,rfl,m8,⟨?_,l.tl⟩,hS⟩ (e17.trans (e8.mono fun z _ h=>hC z h))⟩
   exact d.below t ls (n:=w.cs.length) (fun y hy=>by obtain⟨y0,y1,_⟩:=aF hy;exact⟨y0,y1⟩) ec hu b7 (by rw[u7,u6]) p0 p1 p2 el
theorem xt{n:Nat}{H:Hp}{S:Nat→Prop}{w:Nw}(h:dF n H S w)(g:Int):ah Tryz.prog kW [ptr n,i64 g] H fun v H'=>ax (
  (w.len g=0∧v= .tuple [i64 0,.bool false].toArray∧cD (dF n) S H H' w)∨(∃x,w.first g x∧v= .tuple [i64 x,.bool true].toArray∧cD (dF n) S H H' (w.put x (0,0,0)))):=by
 refine bc ud ⟨rfl,?_⟩
 refine v1 fx.eq_1 ?_
 refine(ti h g).mono ?_
 rintro _ _ ⟨⟨h0,rfl⟩| ⟨x,hx,rfl⟩,rfl⟩
 ·refine vs ?_
  exact .inl ⟨h0,rfl,cD.same h (ai.refl _ _)⟩
 ·refine vs ?_
  refine(zj h x).mono ?_
  rintro _ H1 (⟨cw,_,_⟩| ⟨_,rfl,h1⟩)
  ·exact absurd (bJ.1 (by have:=bN.1 hx;omega)) cw
  refine vs ?_
  exact .inr ⟨x,hx,rfl,h1⟩
theorem J1(n:Nat):zB (.iface 210 (ptr n)) (dF n) where
 slt h:=h.slt
 ext h e hd:=h.ext e hd
 cells:=by
  rintro H S w ⟨B,C,L,rs,tops,rfl,m,l,hS⟩
  exact⟨B.c,C,m.cells⟩
 has:=by
  rintro H S w g ⟨B,C,L,rs,tops,rfl,m,l,hS⟩
  obtain⟨tv,ho,_⟩:=m.own
  exact⟨_,_,bF,ptr B.c,rfl,hX (off:=0) (by kernel_rfl) (ae ho) rfl,(kC m.cells g).mono fun v H' hp=>hp⟩
 make:=by
  intro H S w h
  exact⟨_,_,oT,ptr n,rfl,bE (by kernel_rfl),(Cx h).mono fun v H' hp=>hp⟩
 insert:=by
  intro H S w g x k s h
  exact⟨_,_,ml,ptr n,rfl,bE (by kernel_rfl),(zi h g x k s).mono fun v H' hp=>hp⟩
 min:=by
  intro H S w g h
  refine⟨_,_,pT,ptr n,rfl,bE (by kernel_rfl),(ti h g).mono ?_⟩
  rintro v H' ⟨⟨h1,rfl⟩| ⟨x,h1,rfl⟩,rfl⟩
  ·exact .inl ⟨h1,rfl,cD.same h (ai.refl _ _)⟩
  ·exact .inr ⟨x,h1,rfl,cD.same h (ai.refl _ _)⟩
 extract:=by
  intro H S w g h
  exact⟨_,_,kW,ptr n,rfl,bE (by kernel_rfl),(xt h g).mono fun v H' hp=>hp⟩
 qt:=by
  intro H S w x k s h
  exact⟨_,_,ke,ptr n,rfl,bE (by kernel_rfl),(vR h x k s).mono fun v H' hp=>hp⟩
 entry:=by
  rintro H S w x ⟨B,C,L,rs,tops,rfl,m,l,hS⟩
  obtain⟨tv,ho,_⟩:=m.own
  refine⟨_,_,bk,ptr B.c,rfl,hX (off:=0) (by kernel_rfl) (ae ho) rfl,(jg m.cells x).mono ?_⟩
  rintro v H' ⟨c1,f,hv⟩
  exact⟨⟨B,C,L,rs,tops,rfl,m.fresh f,l,hS⟩,f,hv⟩
theorem dM:cT 2:=⟨by omega,by omega⟩
def swp(l:List Int)(i j:Nat):List Int:=(l.set i (l.getD j 0)).set j (l.getD i 0)
theorem hY(l:List Int)(i j:Nat):(swp l i j).length=l.length:=by unfold swp;simp
theorem Cz{l:List Int}{i j:Nat}(hi:i<l.length)(hj:j<l.length)(k:Nat):(swp l i j).getD k 0=if k=j then l.getD i 0 else if k=i then l.getD j 0 else l.getD k 0:=by
 unfold swp
 rw[dD _ _ _ _ (by simpa using hj),dD _ _ _ _ hi]
 by_cases h1:j=k
 ·subst h1;simp
 ·rw[if_neg h1,if_neg (Ne.symm h1)]
  by_cases h2:i=k
  ·subst h2;simp
  ·rw[if_neg h2,if_neg (Ne.symm h2)]
theorem pC{l:List Int}{i j:Nat}(hi:i<l.length)(hj:j<l.length)(k:Nat):(swp l i j)[k]? =if k=j then l[i]? else if k=i then l[j]? else l[k]? :=by
 have hl:=hY l i j
 have hg:=Cz hi hj k
 by_cases hk:k<l.length
 ·rw[List.getElem?_eq_getElem (by omega)]
  rw[List.getD_eq_getElem?_getD,List.getElem?_eq_getElem (by omega)]at hg
  simp only[Option.getD_some]at hg
  rw[hg]
  have e:∀q,q<l.length→l[q]? =some (l.getD q 0):=fun q hq=>by rw[List.getD_eq_getElem?_getD,List.getElem?_eq_getElem hq];rfl
  split
  ·rw[e i hi]
  ·split
   ·rw[e j hj]
   ·rw[e k hk]
 ·rw[List.getElem?_eq_none (by omega),if_neg (by omega),if_neg (by omega),List.getElem?_eq_none (by omega)]
theorem TV{l:List Int}{i j:Nat}(hi:i<l.length)(hj:j<l.length)(z:Int):z∈swp l i j↔z∈l:=by
 constructor
 ·intro h
  obtain⟨k,hk⟩:=List.getElem?_of_mem h
  rw[pC hi hj]at hk
  split at hk
  ·exact List.mem_of_getElem? hk
  ·split at hk
   ·exact List.mem_of_getElem? hk
   ·exact List.mem_of_getElem? hk
 ·intro h
  obtain⟨k,hk⟩:=List.getElem?_of_mem h
  by_cases h1:k=i
  ·subst h1
   refine List.mem_of_getElem? (i:=j) ?_
   rw[pC hi hj,if_pos rfl,hk]
  ·by_cases h2:k=j
   ·subst h2
    refine List.mem_of_getElem? (i:=i) ?_
    rw[pC hi hj]
    by_cases h3:i=k
    ·exact absurd h3.symm h1
    ·rw[if_neg h3,if_pos rfl,hk]
   ·refine List.mem_of_getElem? (i:=k) ?_
    rw[pC hi hj,if_neg h2,if_neg h1,hk]
theorem LI{l:List Int}{i j m:Nat}(hi:i<m)(hj:j<m)(hm:m≤l.length):(swp l i j).take m=swp (l.take m) i j:=by
 apply List.ext_getElem?
 intro k
 rw[pC (by rw[List.length_take];omega) (by rw[List.length_take];omega),List.getElem?_take,pC (by omega) (by omega),List.getElem?_take,List.getElem?_take,List.getElem?_take]
 rw[if_pos hi,if_pos hj]
 by_cases hk:k<m
 ·simp only[if_pos hk]
 ·simp only[if_neg hk,if_neg (show k≠j by omega),if_neg (show k≠i by omega)]
theorem RV{l:List Int}{i j m:Nat}(hi:i<m)(hj:j<m)(hm:m≤l.length):(swp l i j).drop m=l.drop m:=by
 apply List.ext_getElem?
 intro k
 rw[List.getElem?_drop,List.getElem?_drop,pC (by omega) (by omega),if_neg (by omega),if_neg (by omega)]
theorem dI.heap{lt:Int→Int→Bool}{l:List Int}{i:Nat}(h:dI lt 2 l i)(hB:∀j,1≤j→j<l.length→pa 2 j=i→lt (l.getD j 0) (l.getD i 0)=false)
  (hD:1≤i→i<l.length→lt (l.getD i 0) (l.getD (pa 2 i) 0)=false):eY lt 2 l:=by
 intro j h1 h2
 by_cases e1:j=i
 ·subst e1;exact hD h1 h2
 ·by_cases e2:pa 2 j=i
  ·rw[e2];exact hB j h1 h2 e2
  ·exact h.1 j h1 h2 e1 e2
theorem Wk{lt:Int→Int→Bool}(ho:bB lt){l:List Int}{i:Nat}(hi:1≤i)(hl:i<l.length)(hA:dI lt 2 l i)(hB:∀j,1≤j→j<l.length→pa 2 j=i→lt (l.getD j 0) (l.getD i 0)=false)
  (aR:lt (l.getD i 0) (l.getD (pa 2 i) 0)=true):dI lt 2 (swp l (pa 2 i) i) (pa 2 i)∧∀j,1≤j→j< (swp l (pa 2 i) i).length→pa 2 j=pa 2 i→lt ((swp l (pa 2 i) i).getD j 0) ((swp l (pa 2 i) i).getD (pa 2 i) 0)=false:=by
 have hp:=cK dM hi
 have g:=Cz (l:=l) (i:=pa 2 i) (j:=i) (by omega) hl
 rw[hY]
 have aeh:∀j,1≤j→j<l.length→pa 2 j=pa 2 i→j≠i→lt (l.getD j 0) (l.getD i 0)=false:=fun j h1 h2 h3 h4=>by
  have e4:=hA.1 j h1 h2 h4 (by omega)
  rw[h3]at e4
  cases hx:lt (l.getD j 0) (l.getD i 0)with
  |false=>rfl
  |true=>have:=ho.tr _ _ _ hx aR;rw[this]at e4;cases e4
 refine⟨⟨fun j h1 h2 h3 h4=>?_,fun j h1 h2 h3 h4=>?_⟩,fun j h1 h2 h3=>?_⟩
 ·rw[hY]at h2
  have VZ:=cK dM h1
  rw[g,g,if_neg h4]
  by_cases e1:j=i
  ·subst e1;exact absurd rfl h4
  ·rw[if_neg e1,if_neg h3]
   by_cases e2:pa 2 j=i
   ·rw[if_pos e2]
    exact hA.2 j h1 h2 e2 (by omega)
   ·rw[if_neg e2];exact hA.1 j h1 h2 e1 e2
 ·rw[hY]at h2
  have O9:=cK dM h4
  rw[g,g,if_neg (show pa 2 (pa 2 i)≠i by omega),if_neg (show pa 2 (pa 2 i)≠pa 2 i by omega)]
  have e3:=hA.1 (pa 2 i) h4 (by omega) (by omega) (by omega)
  by_cases e1:j=i
  ·rw[if_pos e1];exact e3
  ·have VZ:=cK dM h1
   rw[if_neg e1,if_neg (by omega)]
   have e4:=hA.1 j h1 h2 e1 (by omega)
   rw[h3]at e4
   exact ho.nt _ _ _ e4 e3
 ·have VZ:=cK dM h1
  rw[g,g,if_neg (show pa 2 i≠i by omega),if_pos rfl]
  by_cases e1:j=i
  ·rw[if_pos e1];exact ho.asym aR
  ·rw[if_neg e1,if_neg (by omega)]
   exact aeh j h1 h2 h3 e1
theorem RW{lt:Int→Int→Bool}(ho:bB lt){l:List Int}{i b:Nat}(hb:1≤b)(hl:b<l.length)(hp:pa 2 b=i)(hA:dI lt 2 l i)(ut:∀j,1≤j→j<l.length→pa 2 j=i→lt (l.getD j 0) (l.getD b 0)=false)
  (aR:lt (l.getD b 0) (l.getD i 0)=true):dI lt 2 (swp l i b) b∧lt ((swp l i b).getD b 0) ((swp l i b).getD (pa 2 b) 0)=false:=by
 have PC:=cK dM hb
 have g:=Cz (l:=l) (i:=i) (j:=b) (by omega) hl
 refine⟨⟨fun j h1 h2 h3 h4=>?_,fun j h1 h2 h3 h4=>?_⟩,?_⟩
 ·rw[hY]at h2
  have VZ:=cK dM h1
  rw[g,g,if_neg h3,if_neg h4]
  by_cases e1:j=i
  ·subst e1
   rw[if_pos rfl,if_neg (by omega)]
   exact hA.2 b hb hl hp h1
  ·rw[if_neg e1]
   by_cases e2:pa 2 j=i
   ·rw[if_pos e2];exact ut j h1 h2 e2
   ·rw[if_neg e2];exact hA.1 j h1 h2 e1 e2
 ·rw[hY]at h2
  have VZ:=cK dM h1
  rw[g,g,if_neg (show j≠b by omega),if_neg (show j≠i by omega),if_neg (show pa 2 b≠b by omega),if_pos hp]
  have:=hA.1 j h1 h2 (by omega) (by omega)
  rw[h3]at this
  exact this
 ·rw[g,g,if_pos rfl,hp,if_neg (show i≠b by omega),if_pos rfl]
  exact ho.asym aR
def pD(l at_:List Int):Prop:=∀ (i:Nat) (x:Int),l[i]? =some x→0≤x∧at_[x.toNat]? =some (i:Int)
theorem pD.Gu{l at_:List Int}(h:pD l at_){i j:Nat}{x:Int}(hi:l[i]? =some x)(hj:l[j]? =some x):i=j:=by
 have h1:=(h i x hi).2
 have h2:=(h j x hj).2
 rw[h1]at h2
 injection h2 with h2
 omega
def CA(l at_:List Int)(i j:Nat):List Int:=(at_.set (l.getD j 0).toNat i).set (l.getD i 0).toNat j
theorem pD.swp{l at_:List Int}(h:pD l at_){i j:Nat}(hi:i<l.length)(hj:j<l.length)(KJ:i≠j):pD (swp l i j) (CA l at_ i j)∧(CA l at_ i j).length=at_.length∧∀z:Int,0≤z→z∉l→(CA l at_ i j)[z.toNat]? =at_[z.toNat]? :=by
 have e:∀q,q<l.length→l[q]? =some (l.getD q 0):=fun q hq=>by rw[List.getD_eq_getElem?_getD,List.getElem?_eq_getElem hq];rfl
 obtain⟨a0,a1⟩:=h i _ (e i hi)
 obtain⟨b0,b1⟩:=h j _ (e j hj)
 have hal:=(List.getElem?_eq_some_iff.1 a1).1
 have ZP:=(List.getElem?_eq_some_iff.1 b1).1
 have aS:(l.getD i 0).toNat≠(l.getD j 0).toNat:=fun h0=>by
  rw[h0,b1]at a1
  injection a1 with a1
  omega
 unfold CA
 refine⟨fun k x hk=>?_,by simp,fun z hz hm=>?_⟩
 ·rw[pC hi hj]at hk
  split at hk
  ·rename_i Ya
   rw[e i hi]at hk
   injection hk with hk
   subst hk
   rw[List.getElem?_set_self (by simpa using hal),Ya]
   exact⟨a0,rfl⟩
  ·split at hk
   ·rename_i Ya hki
    rw[e j hj]at hk
    injection hk with hk
    subst hk
    rw[List.getElem?_set_ne aS,List.getElem?_set_self ZP,hki]
    exact⟨b0,rfl⟩
   ·rename_i Ya hki
    obtain⟨c0,c1⟩:=h k x hk
    have n1:(l.getD i 0).toNat≠x.toNat:=fun h0=>by
     rw[h0,c1]at a1;injection a1 with a1;omega
    have n2:(l.getD j 0).toNat≠x.toNat:=fun h0=>by
     rw[h0,c1]at b1;injection b1 with b1;omega
    rw[List.getElem?_set_ne n1,List.getElem?_set_ne n2]
    exact⟨c0,c1⟩
 ·have n1:(l.getD i 0).toNat≠z.toNat:=fun h0=>hm (by rw[show z=l.getD i 0 by omega];exact List.mem_of_getElem? (e i hi))
  have n2:(l.getD j 0).toNat≠z.toNat:=fun h0=>hm (by rw[show z=l.getD j 0 by omega];exact List.mem_of_getElem? (e j hj))
  rw[List.getElem?_set_ne n1,List.getElem?_set_ne n2]
theorem pa2(j:Nat):((pa 2 j:Nat):Int)=if j=0 then 0 else((j:Int) - 1) / 2:=by
 unfold pa
 split
 ·rename_i h;subst h;rfl
 ·omega
theorem Sl.at_{H:Hp}{v:Value}{n:Nat}{xs:List Value}{fp:Option Nat}(h:Sl H 1 v n xs fp){i:Nat}{x:Value}(hx:xs[i]? =some x):∃b cc lb,v= .slice (some ⟨b,0,none⟩) n cc∧fp=some b∧H.own b=some lb∧lb[i]? =some x∧i<n∧n≤lb.length:=by
 have hi:=(List.getElem?_eq_some_iff.1 hx).1
 obtain⟨hl,hm⟩:=id h
 cases fp with
 |none=>obtain⟨e,_⟩:=hm;omega
 |some f=>
  obtain⟨lb,cc,hv,ho,h1,h2,h3⟩:=hm
  refine⟨f,cc,lb,hv,rfl,ho,?_,by omega,by omega⟩
  rw[←h3,List.getElem?_take_of_lt (by omega)]at hx
  exact hx
structure jk(H:Hp)(n c:Nat)(C:Nat→Prop)(rv:Value)(r:Nat)(fp fa:Option Nat)(st:Int)(w:Nw)(l at_:List Int):Prop where
 own:∃av,H.own n=some [ptr c,rv,av]∧Sl H 1 av at_.length (at_.map i64) fa
 cells:bv H c C st w
 mf:∃sv,H.own r=some [ptr n,sv]∧Sl H 1 sv l.length (l.map i64) fp
 nC:¬C n
 rC:¬C r
 rn:r≠n
 zk:∀b,fp=some b→¬C b∧b≠n∧b≠r∧fa≠some b
 J2:∀b,fa=some b→¬C b∧b≠n∧b≠r
 ll:l.length≤65536
abbrev pv(r:Nat):Value:=.iface 370 (ptr r)
theorem uA{l:List Int}{i:Nat}{x:Int}(h:l[i]? =some x):l.getD i 0=x:=by rw[List.getD_eq_getElem?_getD,h];rfl
theorem getD_take{l:List Int}{k m:Nat}(h:k<m):(l.take m).getD k 0=l.getD k 0:=by rw[List.getD_eq_getElem?_getD,List.getD_eq_getElem?_getD,List.getElem?_take_of_lt h]
section
variable {H : Hp} {n c : Nat} {C : Nat → Prop} {rv : Value} {r : Nat} {fp fa : Option Nat} {st : Int} {w : Nw} {l at_ : List Int}
theorem rX(m:jk H n c C rv r fp fa st w l at_):ah Tryz.prog jo [ptr r] H fun v H'=>ax (v=i64 l.length∧H=H'):=by
 obtain⟨sv,ho,hs⟩:=m.mf
 obtain⟨a,cc,rfl⟩:=ez.RC hs.rd
 refine bc E4 ⟨rfl,?_⟩
 refine v2 oq.eq_1 (ae ho) ?_
 exact⟨rfl,rfl⟩
theorem GG(m:jk H n c C rv r fp fa st w l at_){i j:Nat}(hi:i<l.length)(hj:j<l.length)(bS:∀z∈l,cY w.cs z):ah Tryz.prog sJ [ptr r,i64 i,i64 j] H fun v H'=>ax (
  v= .bool (aT w (l.getD i 0) (l.getD j 0))∧jk H' n c C rv r fp fa (min (st+1) 4611686018427387904) w l at_∧ai C H H'):=by
 obtain⟨av,hn,ha⟩:=m.own
 obtain⟨sv,ho,hs⟩:=m.mf
 obtain⟨x,hx⟩:∃x,l[i]? =some x:=⟨_,List.getElem?_eq_getElem hi⟩
 obtain⟨y,hy⟩:∃y,l[j]? =some y:=⟨_,List.getElem?_eq_getElem hj⟩
 obtain⟨b,cc,lb,rfl,l9,hb,oY,_,_⟩:=Sl.at_ hs (i:=i) (x:=i64 x) (by simp[hx])
 obtain⟨b',Wl,TS,hv,oF,vY,hby,_,_⟩:=Sl.at_ hs (i:=j) (x:=i64 y) (by simp[hy])
 rw[l9]at oF
 injection oF with oF
 subst oF
 rw[hb]at vY
 injection vY with vY
 subst vY
 have pt:=m.ll
 refine bc DA ⟨rfl,?_⟩
 refine v3 mO.eq_1 (ae ho) (ae hn) ?_
 refine⟨by omega,?_⟩
 refine v5 (ae hb) Nat.mul_one oY (ae ho) Int.toNat_natCast ?_
 refine⟨by omega,?_⟩
 refine v4 (ae hb) Nat.mul_one hby Int.toNat_natCast ?_
 have h1:=bS x (List.mem_of_getElem? hx)
 have h2:=bS y (List.mem_of_getElem? hy)
 refine(lM m.cells x y).mono ?_
 rintro _ H1 ⟨rfl,c1,e1⟩
 refine vs ?_
 have w8:=m.cells.st
 rw[if_pos ⟨h1,h2⟩,show gX st 1=min (st+1) 4611686018427387904 by unfold gX;rw[if_neg (by omega)];split<;>omega]at c1
 refine⟨by rw[uA hx,uA hy,DQ h1 h2];rfl,⟨⟨av,e1.own hn m.nC,ha.ext e1 (fun b hb=>(m.J2 b hb).1)⟩,c1,⟨_,e1.own ho m.rC,hs.ext e1 (fun b hb=>(m.zk b hb).1)⟩,m.nC,m.rC,m.rn,m.zk,m.J2,m.ll⟩,e1⟩
theorem GH(m:jk H n c C rv r fp fa st w l at_)(sw:pD l at_){i j:Nat}(hi:i<l.length)(hj:j<l.length)(KJ:i≠j):ah Tryz.prog sL [ptr r,i64 i,i64 j] H fun v H'=>ax (
  v= .tuple [].toArray∧jk H' n c C rv r fp fa st w (swp l i j) (CA l at_ i j)∧ai (fun z=>fp=some z∨fa=some z) H H'):=by
 obtain⟨av,hn,ha⟩:=m.own
 obtain⟨sv,ho,hs⟩:=m.mf
 obtain⟨x,hx⟩:∃x,l[i]? =some x:=⟨_,List.getElem?_eq_getElem hi⟩
 obtain⟨y,hy⟩:∃y,l[j]? =some y:=⟨_,List.getElem?_eq_getElem hj⟩
 obtain⟨b,cc,lb,rfl,rfl,hb,oY,_,Hx⟩:=Sl.at_ hs (i:=i) (x:=i64 x) (by simp[hx])
 obtain⟨b',Wl,TS,hv,oF,vY,hby,_,_⟩:=Sl.at_ hs (i:=j) (x:=i64 y) (by simp[hy])
 injection oF with oF
 subst oF
 rw[hb]at vY
 injection vY with vY
 subst vY
 obtain⟨ie,tE⟩:=sw i x hx
 obtain⟨ZL,hay⟩:=sw j y hy
 have hal:=(List.getElem?_eq_some_iff.1 tE).1
 have ZU:=(List.getElem?_eq_some_iff.1 hay).1
 obtain⟨f,fc,la,rfl,rfl,hf,TW,_,hla⟩:=Sl.at_ ha (i:=x.toNat) (x:=i64 i) (by simp[tE])
 have pt:=m.ll
 obtain⟨d1,d2,d3,d4⟩:=m.zk b rfl
 obtain⟨g1,g2,g3⟩:=m.J2 f rfl
 have Wc:b≠f:=fun e=>d4 (by rw[e])
 refine bc DC ⟨rfl,?_⟩
 refine v2 mQ.eq_1 (ae ho) ?_
 refine⟨by omega,?_⟩
 refine v5 (ae hb) Nat.mul_one hby (ae ho) Int.toNat_natCast ?_
 refine⟨by omega,?_⟩
 refine v4 (ae hb) Nat.mul_one oY Int.toNat_natCast ?_
 refine⟨by omega,?_⟩
 refine v3 hb Nat.mul_one Int.toNat_natCast ?_
 refine⟨by omega,?_⟩
 refine v1 Nat.zero_add ?_
 refine⟨by omega,?_⟩
 simp(disch:=(first|omega| (simp only[Zs]<;>omega)|fail)) only[go_sem, ↓reduceIte,Zv,aj hb,Nat.mul_one,Int.toNat_natCast]
 refine⟨by rw[List.length_set];omega,?_⟩
 refine v1 Nat.zero_add ?_
 have e1:ai (fun z=>z=b) H (H.wr b ((lb.set i (i64 y)).set j (i64 x))):=(ai.refl (fun z=>z=b) _).wr (fun _=>rfl) _
 have ob:(H.wr b ((lb.set i (i64 y)).set j (i64 x))).own b=some ((lb.set i (i64 y)).set j (i64 x)):=aj hb
 have s1:=(hs.vP hb i (i64 y)).vP (aj hb) j (i64 x)
 rw[OK]at s1
 generalize H.wr b ((lb.set i (i64 y)).set j (i64 x))=H1 at*
 have PJ:=e1.own ho (Ne.symm d3)
 have Db:=e1.own hn (Ne.symm d2)
 have ZN:=e1.own hf (Ne.symm Wc)
 have UP:=ha.ext e1 (fun z hz h=>by injection hz with hz;exact Wc (h.symm.trans hz.symm))
 have c1:=m.cells.ext e1 (fun z hz h=>d1 (h▸hz))
 have gi:((lb.set i (i64 y)).set j (i64 x))[i]? =some (i64 y):=by rw[List.getElem?_set_ne (Ne.symm KJ),List.getElem?_set_self (by omega)]
 have gj:((lb.set i (i64 y)).set j (i64 x))[j]? =some (i64 x):=by rw[List.getElem?_set_self (by rw[List.length_set];omega)]
 refine v4 (ae ho) (ae hn) (ae PJ) (ae Db) ?_
 refine⟨by omega,?_⟩
 refine v6 (ae ob) Nat.mul_one gi (ae PJ) (ae Db) Int.toNat_natCast ?_
 refine⟨by omega,?_⟩
 refine v4 (ae ob) Nat.mul_one gj Int.toNat_natCast ?_
 refine⟨by omega,?_⟩
 refine v3 ZN Nat.mul_one Nat.zero_add ?_
 refine⟨by omega,?_⟩
 refine v1 Nat.zero_add ?_
 refine⟨by omega,?_⟩
 simp(disch:=(first|omega| (simp only[Zs]<;>omega)|fail)) only[go_sem, ↓reduceIte,Zv,aj ZN,Nat.mul_one,Nat.zero_add]
 refine⟨by rw[List.length_set];omega,?_⟩
 refine v1 Nat.zero_add ?_
 have e2:ai (fun z=>z=f) H1 (H1.wr f ((la.set y.toNat (i64 i)).set x.toNat (i64 j))):=(ai.refl (fun z=>z=f) _).wr (fun _=>rfl) _
 have s2:=(UP.vP ZN y.toNat (i64 i)).vP (aj ZN) x.toNat (i64 j)
 rw[OK]at s2
 have ex:=uA hx
 have ey:=uA hy
 refine⟨rfl,⟨⟨_,e2.own Db (Ne.symm g2),?_⟩,c1.ext e2 (fun z hz h=>g1 (h▸hz)),⟨_,e2.own PJ (Ne.symm g3),?_⟩,m.nC,m.rC,m.rn,m.zk,m.J2,by rw[hY];exact m.ll⟩,(e1.mono fun z _ hz=>.inl (by rw[hz])).trans (e2.mono fun z _ hz=>.inr (by rw[hz]))⟩
 ·unfold CA
  rw[ex,ey,List.length_set,List.length_set,List.map_set,List.map_set]
  exact s2
 ·have:=s1.ext e2 (fun z hz h=>by injection hz with hz;exact Wc (hz.trans h))
  unfold swp
  rw[ex,ey,List.length_set,List.length_set,List.map_set,List.map_set]
  exact this
end
structure qw(n c:Nat)(C:Nat→Prop)(rv:Value)(r:Nat)(fp fa:Option Nat)(st:Int)(w:Nw)(l at_:List Int)(mm:Nat)(H H':Hp)(l' oZ:List Int)(q:Nat):Prop where
 mf:jk H' n c C rv r fp fa (min (st+q) 4611686018427387904) w l' oZ
 ok:pD l' oZ
 mem:∀z,z∈l'↔z∈l
 len:l'.length=l.length
 drop:l'.drop mm=l.drop mm
 LJ:oZ.length=at_.length
 off:∀z:Int,0≤z→z∉l→oZ[z.toNat]? =at_[z.toNat]?
 ext:ai (fun z=>C z∨fp=some z∨fa=some z) H H'
section
variable {H H1 : Hp} {n c : Nat} {C : Nat → Prop} {rv : Value} {r : Nat} {fp fa : Option Nat} {st : Int} {w : Nw} {l at_ l1 Iv : List Int} {mm q : Nat}
theorem qw.refl(m:jk H n c C rv r fp fa st w l at_)(sw:pD l at_)(mm:Nat):qw n c C rv r fp fa st w l at_ mm H H l at_ 0:=
 ⟨by have:=m.cells.st;rw[show min (st+((0:Nat):Int)) 4611686018427387904=st by omega];exact m,sw,fun _=>Iff.rfl,rfl,rfl,rfl,fun _ _ _=>rfl,ai.refl _ _⟩
theorem qw.less(h:qw n c C rv r fp fa st w l at_ mm H H1 l1 Iv q)(bS:∀z∈l,cY w.cs z){i j:Nat}(hi:i<l.length)(hj:j<l.length):jf Tryz.prog (pv r) "Less" [i64 i,i64 j] H1 fun v H2=>
  v= .bool (aT w (l1.getD i 0) (l1.getD j 0))∧qw n c C rv r fp fa st w l at_ mm H H2 l1 Iv (q+1):=by
 have hl:=h.len
 refine⟨_,_,sJ,ptr r,rfl,bE (by kernel_rfl),(GG h.mf (by omega) (by omega) (fun z hz=>bS z ((h.mem z).1 hz))).mono ?_⟩
 rintro v H2 ⟨hv,m2,e2⟩
 refine⟨hv,?_,h.ok,h.mem,h.len,h.drop,h.LJ,h.off,h.ext.trans (e2.mono fun z _ hz=>.inl hz)⟩
 rw[show min (st+((q+1:Nat):Int)) 4611686018427387904=min (min (st+(q:Int)) 4611686018427387904+1) 4611686018427387904 by omega]
 exact m2
theorem qw.swap(h:qw n c C rv r fp fa st w l at_ mm H H1 l1 Iv q)(hm:mm≤l.length){i j:Nat}(hi:i<mm)(hj:j<mm)(KJ:i≠j):jf Tryz.prog (pv r) "Swap" [i64 i,i64 j] H1 fun v H2=>
  v= .tuple [].toArray∧qw n c C rv r fp fa st w l at_ mm H H2 (swp l1 i j) (CA l1 Iv i j) q:=by
 have hl:=h.len
 refine⟨_,_,sL,ptr r,rfl,bE (by kernel_rfl),(GH h.mf h.ok (i:=i) (j:=j) (by omega) (by omega) KJ).mono ?_⟩
 rintro v H2 ⟨hv,m2,e2⟩
 obtain⟨a1,a2,a3⟩:=h.ok.swp (i:=i) (j:=j) (by omega) (by omega) KJ
 refine⟨hv,m2,a1,fun z=>by rw[TV (by omega) (by omega),h.mem z],by rw[hY];exact h.len,by rw[RV hi hj (by omega)];exact h.drop,a2.trans h.LJ,fun z hz hm=>?_,h.ext.trans (e2.mono fun z _ hz=>.inr hz)⟩
 rw[a3 z hz (fun h2=>hm ((h.mem z).1 h2))]
 exact h.off z hz hm
set_option maxHeartbeats 1000000 in
theorem uB(m:jk H n c C rv r fp fa st w l at_)(sw:pD l at_){j mm:Nat}(hj:j<mm)(hm:mm≤l.length)(bS:∀z∈l,cY w.cs z)(hA:dI (aT w) 2 (l.take mm) j)
  (hB:∀k,1≤k→k< (l.take mm).length→pa 2 k=j→aT w ((l.take mm).getD k 0) ((l.take mm).getD j 0)=false):
  ah Tryz.prog yD [pv r,i64 j] H fun v H'=>ax (v= .tuple [].toArray∧∃ (l' oZ:List Int) (q:Nat),qw n c C rv r fp fa st w l at_ mm H H' l' oZ q∧eY (aT w) 2 (l'.take mm)∧q≤nJ 2 j∧(1≤j→0<q)):=by
 have ho:=aq w
 have pt:=m.ll
 refine bc zg ⟨rfl,?_⟩
 refine v1 iY.eq_1 ?_
 refine bD.intro (fun k env H'=>∃ (j':Nat) (l1 Iv:List Int) (q:Nat),env=[(0,pv r),(1,i64 j')]∧k=j'∧j'<mm∧qw n c C rv r fp fa st w l at_ mm H H' l1 Iv q∧dI (aT w) 2 (l1.take mm) j'∧
   (∀k,1≤k→k< (l1.take mm).length→pa 2 k=j'→aT w ((l1.take mm).getD k 0) ((l1.take mm).getD j' 0)=false)∧q+nJ 2 j'≤nJ 2 j∧(j'≠j→0<q)) j
  ⟨j,l,at_,0,rfl,rfl,hj,qw.refl m sw mm,hA,hB,by omega,fun h=>absurd rfl h⟩ ?_
 clear hA hB
 rintro j' env H1 ⟨_,l1,Iv,q,rfl,rfl,hj',h1,hA,hB,hq,UY⟩
 have vk:=h1.len
 have vW:=pa2 j'
 have aek:IntKind.i64.wrap ((IntKind.i64.wrap ((j':Int) - 1)).tdiv 2)=((pa 2 j':Nat):Int):=by
  rw[wrap64 (n:=(j':Int) - 1) (by omega) (by omega),vW]
  split
  ·rename_i h;subst h;rfl
  ·rw[Int.tdiv_eq_ediv_of_nonneg (by omega),wrap64 (by omega) (by omega)]
 simp(disch:=(first|omega| (simp only[Zs]<;>omega)|fail)) only[go_sem, ↓reduceIte,Zv,if_neg (show¬ ((2:Int)=0) by decide)]
 rw[aek]
 have ME:(l1.take mm).length=mm:=by rw[List.length_take];omega
 by_cases h0:j'=0
 ·refine am.cj (decide_eq_true (by rw[vW,if_pos h0,h0];rfl)) ?_
  refine vs ?_
  exact⟨rfl,l1,Iv,q,h1,hA.heap hB (fun h=>by omega),by omega,fun h=>UY (by omega)⟩
 ·have MJ:=cK dM (j:=j') (by omega)
  refine am.aW (decide_eq_false (by omega)) ?_
  refine vs ?_
  refine jf.mono (h1.less bS (i:=j') (j:=pa 2 j') (by omega) (by omega)) ?_
  rintro _ H2 ⟨rfl,h2⟩
  have EP:nJ 2 (j':Int)=nJ 2 ((pa 2 j':Nat):Int)+1:=by
   obtain⟨p,hp,QF,p0,p1⟩:=qm dM (i:=(j':Int)) (by omega)
   rw[Int.toNat_natCast]at QF
   rw[sZ hp,show p=((pa 2 j':Nat):Int) by omega]
  refine vs ?_
  cases aR:aT w (l1.getD j' 0) (l1.getD (pa 2 j') 0)with
  |false=>
   refine vs ?_
   refine⟨rfl,l1,Iv,q+1,h2,hA.heap hB (fun _ _=>?_),by omega,fun _=>by omega⟩
   rw[getD_take hj',getD_take (by omega)]
   exact aR
  |true=>
   refine vs ?_
   refine jf.mono (h2.swap hm (i:=pa 2 j') (j:=j') (by omega) hj' (by omega)) ?_
   rintro _ H3 ⟨rfl,h3⟩
   refine vs ?_
   obtain⟨g1,g2⟩:=Wk ho (l:=l1.take mm) (i:=j') (by omega) (by omega) hA hB (by rw[getD_take hj',getD_take (by omega)];exact aR)
   have ht:(swp l1 (pa 2 j') j').take mm=swp (l1.take mm) (pa 2 j') j':=LI (by omega) hj' (by omega)
   exact⟨pa 2 j',by omega,pa 2 j',_,_,q+1,rfl,rfl,by omega,h3,by rw[ht];exact g1,by rw[ht];exact g2,by omega,fun _=>by omega⟩
set_option maxHeartbeats 2000000 in
theorem xu(m:jk H n c C rv r fp fa st w l at_)(sw:pD l at_){i0 mm:Nat}(hi:i0<mm)(hm:mm≤l.length)(bS:∀z∈l,cY w.cs z)(hA:dI (aT w) 2 (l.take mm) i0):
  ah Tryz.prog vz [pv r,i64 i0,i64 mm] H fun v H'=>ax (∃ (b:Bool) (l' oZ:List Int) (q:Nat),v= .bool b∧qw n c C rv r fp fa st w l at_ mm H H' l' oZ q∧q+2*nJ 2 i0≤2*nJ 2 ((mm:Int) - 1)∧
   (b=true→eY (aT w) 2 (l'.take mm))∧(b=false→l'=l∧oZ=at_∧∀k,1≤k→k< (l.take mm).length→pa 2 k=i0→aT w ((l.take mm).getD k 0) ((l.take mm).getD i0 0)=false)):=by
 have ho:=aq w
 have pt:=m.ll
 refine bc vM ⟨rfl,?_⟩
 refine v1 fW.eq_1 ?_
 have Gv:∀k:Nat,k<mm→nJ 2 (k:Int)≤nJ 2 ((mm:Int) - 1):=fun k hk=>nK dM ((mm:Int) - 1).toNat _ _ (Nat.le_refl _) (by omega)
 refine bD.intro (fun k env H'=>∃ (i:Nat) (l1 Iv:List Int) (q:Nat),env=[(0,pv r),(1,i64 i0),(2,i64 mm),(7,i64 i)]∧k=mm - i∧i<mm∧i0≤i∧qw n c C rv r fp fa st w l at_ mm H H' l1 Iv q∧dI (aT w) 2 (l1.take mm) i∧
   q+2*nJ 2 i0≤2*nJ 2 i∧(i0<i→aT w ((l1.take mm).getD i 0) ((l1.take mm).getD (pa 2 i) 0)=false)∧(i=i0→l1=l∧Iv=at_)) (mm - i0)
  ⟨i0,l,at_,0,rfl,rfl,hi,Nat.le_refl _,qw.refl m sw mm,hA,by omega,fun h=>by omega,fun _=>⟨rfl,rfl⟩⟩ ?_
 clear hA
 rintro k env H1 ⟨i,l1,Iv,q,rfl,rfl,Z5,Ff,h1,hA,hq,hD,OL⟩
 have vk:=h1.len
 have ME:(l1.take mm).length=mm:=by rw[List.length_take];omega
 have stay:∀ (H2:Hp) (q':Nat),qw n c C rv r fp fa st w l at_ mm H H2 l1 Iv q'→q'+2*nJ 2 i0≤2*nJ 2 ((mm:Int) - 1)→(∀k,1≤k→k< (l1.take mm).length→pa 2 k=i→aT w ((l1.take mm).getD k 0) ((l1.take mm).getD i 0)=false)→
   ∃ (b:Bool) (l' oZ:List Int) (q:Nat),Value.bool (decide ((i:Int)>i0))= .bool b∧qw n c C rv r fp fa st w l at_ mm H H2 l' oZ q∧q+2*nJ 2 i0≤2*nJ 2 ((mm:Int) - 1)∧
    (b=true→eY (aT w) 2 (l'.take mm))∧(b=false→l'=l∧oZ=at_∧∀k,1≤k→k< (l.take mm).length→pa 2 k=i0→aT w ((l.take mm).getD k 0) ((l.take mm).getD i0 0)=false):=by
  intro H2 q' h2 hq' hB
  refine⟨_,l1,Iv,q',rfl,h2,hq',fun h=>?_,fun h=>?_⟩
  ·have:=of_decide_eq_true h
   exact hA.heap hB (fun _ _=>hD (by omega))
  ·have:=of_decide_eq_false h
   have e:i=i0:=by omega
   obtain⟨e1,e2⟩:=OL e
   subst e1 e2 e
   exact⟨rfl,rfl,hB⟩
 have PF:∀k:Nat,1≤k→(pa 2 k=i↔(2*i+1≤k∧k≤2*i+2)):=fun k hk=>by
  have:=RE dM (i:=i) hk
  rw[this]
  omega
 refine vs ?_
 have hj1:IntKind.i64.wrap (IntKind.i64.wrap (2*(i:Int))+1)=((2*i+1:Nat):Int):=by
  rw[wrap64 (n:=2*(i:Int)) (by omega) (by omega),wrap64 (by omega) (by omega)];omega
 rw[hj1]
 refine am.dec (fun RX=>?_) (fun RX=>?_)
 ·refine vs ?_
  exact stay H1 q h1 (by have:=Gv i Z5;omega) (fun k h2 h3 h4=>by have:=(PF k h2).1 h4;omega)
 refine vs ?_
 refine am.aW (decide_eq_false (by omega)) ?_
 refine vs ?_
 have Bn:2*i+1<mm:=by omega
 refine Wm (fun e H2=>e.find 0=some (pv r)∧e.find 1=some (i64 i0)∧e.find 2=some (i64 mm)∧e.find 7=some (i64 i)∧∃ (b:Nat) (q':Nat),e.find 9=some (i64 b)∧qw n c C rv r fp fa st w l at_ mm H H2 l1 Iv q'∧q'≤q+1∧1≤b∧b<mm∧pa 2 b=i∧
   ∀k,1≤k→k< (l1.take mm).length→pa 2 k=i→aT w ((l1.take mm).getD k 0) ((l1.take mm).getD b 0)=false) ?_ ?_
 ·have HC:pa 2 (2*i+1)=i:=(PF _ (by omega)).2 ⟨by omega,by omega⟩
  refine vs ?_
  have mA:IntKind.i64.wrap (((2*i+1:Nat):Int)+1)=((2*i+2:Nat):Int):=by rw[wrap64 (by omega) (by omega)];omega
  rw[mA]
  refine am.dec (fun h2=>?_) (fun h2=>?_)
  ·have vW:pa 2 (2*i+2)=i:=(PF _ (by omega)).2 ⟨by omega,by omega⟩
   refine vs ?_
   refine jf.mono (h1.less bS (i:=2*i+2) (j:=2*i+1) (by omega) (by omega)) ?_
   rintro _ H2 ⟨rfl,g2⟩
   refine vs ?_
   cases aR:aT w (l1.getD (2*i+2) 0) (l1.getD (2*i+1) 0)with
   |false=>
    refine vs ?_
    refine⟨trivial,trivial,trivial,trivial,2*i+1,q+1,rfl,g2,by omega,by omega,Bn,HC,fun k h3 h4 h5=>?_⟩
    have h6:=(PF k h3).1 h5
    rw[getD_take (by omega),getD_take (by omega)]
    by_cases h7:k=2*i+1
    ·rw[h7];exact ho.xN _
    ·rw[show k=2*i+2 by omega];exact aR
   |true=>
    refine vs ?_
    refine⟨trivial,trivial,trivial,trivial,2*i+2,q+1,rfl,g2,by omega,by omega,by omega,vW,fun k h3 h4 h5=>?_⟩
    have h6:=(PF k h3).1 h5
    rw[getD_take (by omega),getD_take (by omega)]
    by_cases h7:k=2*i+2
    ·rw[h7];exact ho.xN _
    ·rw[show k=2*i+1 by omega];exact ho.asym aR
  ·refine vs ?_
   refine⟨trivial,trivial,trivial,trivial,2*i+1,q,rfl,h1,by omega,by omega,Bn,HC,fun k h3 h4 h5=>?_⟩
   have h6:=(PF k h3).1 h5
   rw[show k=2*i+1 by omega]
   exact ho.xN _
 rintro e H2 ⟨e0,e1,e2,e7,b,q',e9,h2,hq',Lt,Da,PC,ut⟩
 refine v5 e0 e1 e2 e7 e9 ?_
 refine jf.mono (h2.less bS (i:=b) (j:=i) (by omega) (by omega)) ?_
 rintro _ H3 ⟨rfl,h3⟩
 have EP:nJ 2 (b:Int)=nJ 2 (i:Int)+1:=by
  obtain⟨p,hp,QF,p0,p1⟩:=qm dM (i:=(b:Int)) (by omega)
  rw[Int.toNat_natCast,PC]at QF
  rw[sZ hp,show p=(i:Int) by omega]
 have hib:=cK dM Lt
 refine v5 e0 e1 e2 e7 e9 ?_
 cases aR:aT w (l1.getD b 0) (l1.getD i 0)with
 |false=>
  refine v5 e0 e1 e2 e7 e9 ?_
  refine stay H3 (q'+1) h3 (by have:=Gv b Da;omega) (fun k h4 h5 h6=>?_)
  have h7:=ut k h4 h5 h6
  have h8:aT w ((l1.take mm).getD b 0) ((l1.take mm).getD i 0)=false:=by rw[getD_take Da,getD_take Z5];exact aR
  exact ho.nt _ _ _ h7 h8
 |true=>
  refine v5 e0 e1 e2 e7 e9 ?_
  refine jf.mono (h3.swap hm (i:=i) (j:=b) Z5 Da (by omega)) ?_
  rintro _ H4 ⟨rfl,h4⟩
  refine v5 e0 e1 e2 e7 e9 ?_
  obtain⟨g1,g2⟩:=RW ho (l:=l1.take mm) (i:=i) (b:=b) Lt (by omega) PC hA ut (by rw[getD_take Da,getD_take Z5];exact aR)
  have ht:(swp l1 i b).take mm=swp (l1.take mm) i b:=LI Z5 Da (by omega)
  exact⟨mm - b,by omega,b,_,_,q'+1,rfl,rfl,Da,by omega,h4,by rw[ht];exact g1,by omega,fun _=>by rw[ht];exact g2,fun h=>by omega⟩
end
end Go.Proofs.YtjlnnljohemifaaGreat

namespace Go.Proofs.YtjlnnljohemifaaGreat
open Go Go.Vc
section
variable {H : Hp} {n c : Nat} {C : Nat → Prop} {rv : Value} {r : Nat} {fp fa : Option Nat} {st : Int} {w : Nw} {l at_ : List Int}
theorem GI(m:jk H n c C rv r fp fa st w l at_)(hl:l.length<65536){x:Int}(hx:0≤x∧x.toNat<at_.length):ah Tryz.prog sK [ptr r,.iface 3 (i64 x)] H fun v H'=>ax (
  v= .tuple [].toArray∧∃fJ,jk H' n c C rv r fJ fa st w (l++[x]) (at_.set x.toNat l.length)∧ai (fun z=>fp=some z∨fa=some z∨z=r) H H'∧(fJ=fp∨∃z,fJ=some z∧H.size≤z)):=by
 obtain⟨av,hn,ha⟩:=m.own
 obtain⟨sv,ho,hs⟩:=m.mf
 obtain⟨y,hy⟩:∃y,at_[x.toNat]? =some y:=⟨_,List.getElem?_eq_getElem hx.2⟩
 obtain⟨f,fc,la,rfl,rfl,hf,TW,_,hla⟩:=Sl.at_ ha (i:=x.toNat) (x:=i64 y) (by simp[hy])
 obtain⟨g1,g2,g3⟩:=m.J2 f rfl
 obtain⟨sa,sc,PG⟩:=ez.RC hs.rd
 refine bc DB ⟨rfl,?_⟩
 refine v1 mP.eq_1 ?_
 refine v3 (ae ho) (ae hn) PG ?_
 refine⟨by omega,?_⟩
 refine v3 hf Nat.mul_one Nat.zero_add ?_
 refine⟨by omega,?_⟩
 refine v1 Nat.zero_add ?_
 have e1:ai (fun z=>z=f) H (H.wr f (la.set x.toNat (i64 l.length))):=(ai.refl (fun z=>z=f) _).wr (fun _=>rfl) _
 have s1:=ha.vP hf x.toNat (i64 l.length)
 have Db:=e1.own hn (Ne.symm g2)
 have PJ:=e1.own ho (Ne.symm g3)
 have fK:=hs.ext e1 (fun z hz h=>(m.zk z hz).2.2.2 (by rw[h]))
 have c1:=m.cells.ext e1 (fun z hz h=>g1 (h▸hz))
 generalize H.wr f (la.set x.toNat (i64 l.length))=H1 at*
 have e2:ai (fun _=>False) H1 (H1.new 3 [i64 x]):=(ai.refl _ _).new _ _
 refine v1 (ae ho) ?_
 refine Sl.append (fK.ext e2 (fun _ _ h=>h)) (Sl.dQ (size:=1) (xs:=[i64 x]) rfl rfl).rd rfl (by intro v hv;simp only[List.mem_singleton]at hv;subst hv;rfl) (by omega) ?_
 intro sv' H3 fJ s3 e3 l9
 have z1:=e1.size
 have hrs:=aO PJ
 have OI:=aO Db
 have Hu:ai (fun z=>fp=some z) H1 H3:=(e2.mono fun _ _ h=>h.elim).uj e3 (fun z _ h=>h)
 have ZZ:=Hu.own PJ (fun h=>(m.zk r h).2.2.1 rfl)
 have hn3:=Hu.own Db (fun h=>(m.zk n h).2.1 rfl)
 obtain⟨a',Wl,OM⟩:=ez.RC s3.rd
 subst OM
 refine v1 ZZ ?_
 generalize OM:Value.slice a' (l.length+1) Wl=v' at*
 have e4:ai (fun z=>z=r) H3 (H3.wr r [ptr n,v']):=(ai.refl (fun z=>z=r) _).wr (fun _=>rfl) _
 have hfs:=aO hf
 have Fu:∀b,fJ=some b→fp=some b∨H1.size≤b:=fun b hb=>by
  rcases l9 with h| ⟨z,h,h5,_⟩
  ·exact .inl (h▸hb)
  ·rw[h]at hb;injection hb with hb;subst hb;rw[au]at h5;exact .inr (by omega)
 have zx:=c1.slt
 refine⟨rfl,fJ,⟨⟨_,e4.own hn3 (Ne.symm m.rn),?_⟩,(c1.ext Hu (fun z hz h=>(m.zk z h).1 hz)).ext e4 (fun z hz h=>m.rC (h▸hz)),⟨_,aj ZZ,?_⟩,m.nC,m.rC,m.rn,fun b hb=>?_,m.J2,by rw[List.length_append,List.length_singleton];omega⟩,
  (e1.mono fun z _ hz=>.inr (.inl (by rw[hz]))).trans ((Hu.mono fun z _ hz=>.inl hz).trans (e4.mono fun z _ hz=>.inr (.inr hz))),?_⟩
 ·have:=((s1.ext Hu (fun z hz h=>(m.zk z h).2.2.2 hz)).ext e4 (fun z hz h=>by injection hz with hz;exact g3 (hz.trans h)))
  rw[List.length_set,List.map_set]
  exact this
 ·have:=s3.ext e4 (fun b hb h=>by
   rcases Fu b hb with h5|h5
   ·exact(m.zk b h5).2.2.1 h
   ·omega)
  rw[List.length_append,List.map_append]
  exact this
 ·rcases Fu b hb with h5|h5
  ·exact m.zk b h5
  ·refine⟨fun h=>?_,by omega,by omega,fun h=>?_⟩
   ·have:=zx b h;omega
   ·injection h with h;omega
 ·rcases l9 with h| ⟨z,h,h5,_⟩
  ·exact .inl h
  ·exact .inr ⟨z,h,by rw[au]at h5;omega⟩
theorem Iw(m:jk H n c C rv r fp fa st w l at_)(hl:0<l.length):ah Tryz.prog uV [ptr r] H fun v H'=>ax (
  (∃x,v= .iface 3 (i64 x))∧jk H' n c C rv r fp fa st w l.dropLast at_∧ai (fun z=>z=r) H H'):=by
 obtain⟨av,hn,ha⟩:=m.own
 obtain⟨sv,ho,hs⟩:=m.mf
 have pt:=m.ll
 obtain⟨x,hx⟩:∃x,l[l.length - 1]? =some x:=⟨_,List.getElem?_eq_getElem (by omega)⟩
 obtain⟨f,cc,lb,rfl,rfl,hb,oY,_,Hx⟩:=Sl.at_ hs (i:=l.length - 1) (x:=i64 x) (by simp[hx])
 have e1:IntKind.i64.wrap ((l.length:Int) - 1)=((l.length - 1:Nat):Int):=by rw[wrap64 (by omega) (by omega)];omega
 obtain⟨_,l2,c2,D1,g2,a5,a6,a7⟩:=id hs
 injection D1 with _ _ D1
 subst D1
 rw[hb]at g2
 injection g2 with g2
 subst g2
 refine bc E5 ⟨rfl,?_⟩
 simp(disch:=(first|omega| (simp only[Zs]<;>omega)|fail)) only[go_sem, ↓reduceIte,Zv,ot,ae ho,e1,Int.toNat_natCast]
 refine⟨by omega,?_⟩
 simp(disch:=(first|omega| (simp only[Zs]<;>omega)|fail)) only[go_sem, ↓reduceIte,Zv,ae hb,ae ho,Nat.mul_one,oY,e1]
 refine⟨by omega,?_⟩
 have PG:Value.slice (if(cc:Int)=((0:Nat):Int)then some (⟨f,0,none⟩:Addr)else Option.map (fun(x:Addr)=>x.add (((0:Nat):Int).toNat*1)) (some (⟨f,0,none⟩:Addr))) (((l.length - 1:Nat):Int).toNat - ((0:Nat):Int).toNat) ((cc:Int).toNat - ((0:Nat):Int).toNat)= .slice (some ⟨f,0,none⟩) (l.length - 1) cc:=by
  split<;>rfl
 refine v2 (ae ho) ho ?_
 rw[PG]
 have ew:ai (fun z=>z=r) H (H.wr r [ptr n,.slice (some ⟨f,0,none⟩) (l.length - 1) cc]):=(ai.refl (fun z=>z=r) _).wr (fun _=>rfl) _
 obtain⟨d1,d2,d3,d4⟩:=m.zk f rfl
 refine⟨⟨_,rfl⟩,⟨⟨_,ew.own hn (Ne.symm m.rn),ha.ext ew (fun z hz h=>(m.J2 z hz).2.2 h)⟩,m.cells.ext ew (fun z hz h=>m.rC (h▸hz)),⟨_,aj ho,?_⟩,m.nC,m.rC,m.rn,m.zk,m.J2,by rw[List.length_dropLast];omega⟩,ew⟩
 refine⟨by simp,lb,cc,by rw[List.length_dropLast],ew.own hb d3,by rw[List.length_dropLast];omega,a6,?_⟩
 have hx7:((l.map i64).length)=l.length:=by simp
 rw[List.length_dropLast,List.map_dropLast,List.dropLast_eq_take,hx7,←a7,List.take_take]
 congr 1
 omega
theorem GJ(m:jk H n c C rv r fp fa st w l at_)(sw:pD l at_)(hl:l.length<65536){x:Int}(hx:0≤x∧x.toNat<at_.length)(qV:x∉l)(aem:cY w.cs x)(bS:∀z∈l,cY w.cs z)(hh:eY (aT w) 2 l):
  ah Tryz.prog vy [pv r,.iface 3 (i64 x)] H fun v H'=>ax (v= .tuple [].toArray∧∃ (fJ:Option Nat) (l' oZ:List Int) (q:Nat),jk H' n c C rv r fJ fa (min (st+q) 4611686018427387904) w l' oZ∧pD l' oZ∧eY (aT w) 2 l'∧(∀z,z∈l'↔z=x∨z∈l)∧l'.length=l.length+1∧
   oZ.length=at_.length∧(∀z:Int,0≤z→z≠x→z∉l→oZ[z.toNat]? =at_[z.toNat]?)∧q≤nJ 2 l.length∧(0<l.length→0<q)∧ai (fun z=>C z∨fp=some z∨fa=some z∨z=r) H H'∧(fJ=fp∨∃z,fJ=some z∧H.size≤z)):=by
 refine bc vL ⟨rfl,?_⟩
 refine v1 fV.eq_1 ?_
 refine jf.mono (K:=fun v H'=>v= .tuple [].toArray∧∃fJ,jk H' n c C rv r fJ fa st w (l++[x]) (at_.set x.toNat l.length)∧ai (fun z=>fp=some z∨fa=some z∨z=r) H H'∧(fJ=fp∨∃z,fJ=some z∧H.size≤z)) ⟨_,_,sK,ptr r,rfl,bE (by kernel_rfl),GI m hl hx⟩ ?_
 rintro _ H1 ⟨rfl,fJ,m1,e1,oF⟩
 refine vs ?_
 refine jf.mono (K:=fun v H'=>v=i64 (l++[x]).length∧H1=H') ⟨_,_,jo,ptr r,rfl,bE (by kernel_rfl),rX m1⟩ ?_
 rintro _ _ ⟨rfl,rfl⟩
 refine vs ?_
 have bm:(l++[x]).length=l.length+1:=by simp
 rw[show IntKind.i64.wrap (((l++[x]).length:Int) - 1)=((l.length:Nat):Int) by rw[bm,wrap64 (by omega) (by omega)];omega]
 have aen:pD (l++[x]) (at_.set x.toNat l.length):=fun i z hz=>by
  rcases Nat.lt_trichotomy i l.length with h|h|h
  ·rw[List.getElem?_append_left h]at hz
   obtain⟨a,b⟩:=sw i z hz
   have aS:x.toNat≠z.toNat:=fun e=>qV (by rw[show x=z by omega];exact List.mem_of_getElem? hz)
   rw[List.getElem?_set_ne aS]
   exact⟨a,b⟩
  ·subst h
   rw[List.getElem?_append_right (Nat.le_refl _),Nat.sub_self]at hz
   simp only[List.getElem?_cons_zero,Option.some.injEq]at hz
   subst hz
   rw[List.getElem?_set_self hx.2]
   exact⟨hx.1,rfl⟩
  ·rw[List.getElem?_eq_none (by omega)]at hz;cases hz
 have ht:(l++[x]).take (l++[x]).length=l++[x]:=List.take_length
 have RX:∀k,k<l.length→(l++[x]).getD k 0=l.getD k 0:=fun k hk=>by rw[List.getD_eq_getElem?_getD,List.getElem?_append_left hk,List.getD_eq_getElem?_getD]
 have MJ:∀k:Nat,1≤k→k<l.length+1→pa 2 k≠l.length:=fun k h1 h2=>by have:=cK dM h1;omega
 refine(uB m1 aen (j:=l.length) (mm:=(l++[x]).length) (by omega) (Nat.le_refl _) (fun z hz=>?_) (by
  rw[ht]
  refine⟨fun k h1 h2 h3 h4=>?_,fun k h1 h2 h3 h4=>absurd h3 (MJ k h1 (by omega))⟩
  have:=cK dM h1
  rw[RX k (by omega),RX _ (by omega)]
  exact hh k h1 (by omega)) (fun k h1 h2 h3=>absurd h3 (MJ k h1 (by rw[ht]at h2;omega)))).mono ?_
 ·rcases List.mem_append.1 hz with h|h
  ·exact bS z h
  ·rw[List.mem_singleton]at h;rw[h];exact aem
 rintro _ H2 ⟨rfl,l',oZ,q,g,kw,hq,UY⟩
 have Np:=g.len
 rw[←Np,List.take_length]at kw
 refine vs ?_
 refine⟨rfl,fJ,l',oZ,q,g.mf,g.ok,kw,fun z=>?_,by omega,by rw[g.LJ,List.length_set],fun z hz h1 h2=>?_,hq,fun h=>UY (by omega),(e1.mono fun z _ hz=>.inr hz).uj g.ext (fun z Ze hz=>?_),oF⟩
 ·rw[g.mem z,List.mem_append,List.mem_singleton]
  exact Or.comm
 ·rw[g.off z hz (fun h=>by rcases List.mem_append.1 h with h|h;exact h2 h;exact h1 (List.mem_singleton.1 h)),List.getElem?_set_ne (by omega)]
 ·rcases hz with hz|hz|hz
  ·exact .inl hz
  ·rcases oF with h| ⟨y,h,h5⟩
   ·exact .inr (.inl (h▸hz))
   ·rw[h]at hz;injection hz with hz;omega
  ·exact .inr (.inr (.inl hz))
theorem Ix(m:jk H n c C rv r fp fa st w l at_)(sw:pD l at_){i:Nat}(hi:i<l.length)(bS:∀z∈l,cY w.cs z)(hA:dI (aT w) 2 l i):
  ah Tryz.prog wA [pv r,i64 i] H fun v H'=>ax (v= .tuple [].toArray∧∃ (l' oZ:List Int) (q:Nat),qw n c C rv r fp fa st w l at_ l.length H H' l' oZ q∧eY (aT w) 2 l'∧q≤2*nJ 2 ((l.length:Int) - 1)):=by
 have pt:=m.ll
 have ht:l.take l.length=l:=List.take_length
 refine bc wX ⟨rfl,?_⟩
 refine v1 gT.eq_1 ?_
 refine jf.mono (K:=fun v H'=>v=i64 l.length∧H=H') ⟨_,_,jo,ptr r,rfl,bE (by kernel_rfl),rX m⟩ ?_
 rintro _ _ ⟨rfl,rfl⟩
 refine vs ?_
 refine(xu m sw hi (Nat.le_refl _) bS (by rw[ht];exact hA)).mono ?_
 rintro _ H1 ⟨b,l1,Iv,q1,rfl,g1,UJ,hT,hF⟩
 have vk:=g1.len
 cases b with
 |true=>
  have h:=hT rfl
  rw[←vk,List.take_length]at h
  refine vs ?_
  exact⟨rfl,l1,Iv,q1,g1,h,by omega⟩
 |false=>
  obtain⟨e1,e2,hB⟩:=hF rfl
  subst e1 e2
  refine vs ?_
  have hm:=(nK dM ((l1.length:Int) - 1).toNat (i:Int) ((l1.length:Int) - 1) (Nat.le_refl _) (by omega))
  refine(uB g1.mf g1.ok (j:=i) (mm:=l1.length) hi (Nat.le_refl _) bS (by rw[ht];exact hA) hB).mono ?_
  rintro _ H2 ⟨rfl,l2,Ym,q2,g2,kw,hq2,_⟩
  have vU:=g2.len
  rw[←vU,List.take_length]at kw
  refine vs ?_
  refine⟨rfl,l2,Ym,q1+q2,⟨?_,g2.ok,g2.mem,g2.len,g2.drop,g2.LJ,g2.off,g1.ext.trans g2.ext⟩,kw,by omega⟩
  rw[show min (st+((q1+q2:Nat):Int)) 4611686018427387904=min (min (st+(q1:Int)) 4611686018427387904+(q2:Int)) 4611686018427387904 by omega]
  exact g2.mf
end
end Go.Proofs.YtjlnnljohemifaaGreat

namespace Go.Proofs.YtjlnnljohemifaaGreat
open Go Go.Vc
theorem eY.J3{lt lt':Int→Int→Bool}{l:List Int}(h:eY lt 2 l)(hfg:∀z∈l,∀y∈l,lt z y=lt' z y):eY lt' 2 l:=by
 intro j h1 h2
 have hp:=cK dM h1
 have e:∀k,k<l.length→l.getD k 0∈l:=fun k hk=>by
  rw[List.getD_eq_getElem?_getD,List.getElem?_eq_getElem hk];exact List.getElem_mem hk
 rw[←hfg _ (e j h2) _ (e _ (show pa 2 j<l.length by omega))]
 exact h j h1 h2
theorem J4{l at_:List Int}(h:pD l at_){x:Int}(hx:l[l.length - 1]? =some x)(z:Int):z∈l.dropLast↔z∈l∧z≠x:=by
 have hl:=(List.getElem?_eq_some_iff.1 hx).1
 rw[List.dropLast_eq_take]
 constructor
 ·intro hz
  obtain⟨k,hk⟩:=List.getElem?_of_mem hz
  rw[List.getElem?_take]at hk
  split at hk
  ·refine⟨List.mem_of_getElem? hk,fun e=>?_⟩
   subst e
   have:=h.Gu hk hx
   omega
  ·cases hk
 ·rintro⟨hz,aS⟩
  obtain⟨k,hk⟩:=List.getElem?_of_mem hz
  have Z6:=(List.getElem?_eq_some_iff.1 hk).1
  have:k≠l.length - 1:=fun e=>by rw[e,hx]at hk;injection hk with hk;exact aS hk.symm
  exact List.mem_of_getElem? (i:=k) (by rw[List.getElem?_take_of_lt (by omega)];exact hk)
theorem pD.dropLast{l at_:List Int}(h:pD l at_):pD l.dropLast at_:=fun i x hx=>by
 rw[List.dropLast_eq_take,List.getElem?_take]at hx
 split at hx
 ·exact h i x hx
 ·cases hx
section
variable {H : Hp} {n c : Nat} {C : Nat → Prop} {rv : Value} {r : Nat} {fp fa : Option Nat} {st : Int} {w : Nw} {l at_ : List Int}
structure Out(n c:Nat)(C:Nat→Prop)(rv:Value)(r:Nat)(fp fa:Option Nat)(st:Int)(w:Nw)(l at_:List Int)(x:Int)(H H':Hp)(l' oZ:List Int)(q:Nat):Prop where
 mf:jk H' n c C rv r fp fa (min (st+q) 4611686018427387904) w l' oZ
 ok:pD l' oZ
 heap:eY (aT w) 2 l'
 mem:∀z,z∈l'↔z∈l∧z≠x
 len:l'.length+1=l.length
 LJ:oZ.length=at_.length
 off:∀z:Int,0≤z→z∉l→oZ[z.toNat]? =at_[z.toNat]?
 ext:ai (fun z=>C z∨fp=some z∨fa=some z∨z=r) H H'
theorem ON{H1:Hp}{l1 Iv:List Int}{mm q:Nat}{x:Int}(h:qw n c C rv r fp fa st w l at_ mm H H1 l1 Iv q)(hl:0<l.length)(hx:l1[l1.length - 1]? =some x)(hh:eY (aT w) 2 (l1.take (l.length - 1))):
  jf Tryz.prog (pv r) "Pop" [] H1 fun v H'=>∃l' oZ,Out n c C rv r fp fa st w l at_ x H H' l' oZ q:=by
 have bm:=h.len
 refine⟨_,_,uV,ptr r,rfl,bE (by kernel_rfl),(Iw h.mf (by omega)).mono ?_⟩
 rintro v H2 ⟨_,m2,e2⟩
 refine⟨l1.dropLast,Iv,m2,h.ok.dropLast,?_,fun z=>by rw[J4 h.ok hx z,h.mem z],by rw[List.length_dropLast];omega,h.LJ,h.off,(h.ext.mono fun z _ hz=>?_).trans (e2.mono fun z _ hz=>.inr (.inr (.inr hz)))⟩
 ·rw[List.dropLast_eq_take,bm];exact hh
 ·rcases hz with hz|hz|hz
  ·exact .inl hz
  ·exact .inr (.inl hz)
  ·exact .inr (.inr (.inl hz))
theorem D2(m:jk H n c C rv r fp fa st w l at_)(sw:pD l at_){i:Nat}(hi:i<l.length)(bS:∀z∈l,cY w.cs z)(hh:eY (aT w) 2 l):
  ah Tryz.prog sI [pv r,i64 i] H fun v H'=>ax (∃ (l' oZ:List Int) (q:Nat),Out n c C rv r fp fa st w l at_ (l.getD i 0) H H' l' oZ q∧q≤2*nJ 2 ((l.length:Int) - 1)):=by
 have pt:=m.ll
 refine bc sU ⟨rfl,?_⟩
 refine v1 eR.eq_1 ?_
 refine jf.mono (K:=fun v H'=>v=i64 l.length∧H=H') ⟨_,_,jo,ptr r,rfl,bE (by kernel_rfl),rX m⟩ ?_
 rintro _ _ ⟨rfl,rfl⟩
 refine vs ?_
 rw[show IntKind.i64.wrap ((l.length:Int) - 1)=((l.length - 1:Nat):Int) by rw[wrap64 (by omega) (by omega)];omega]
 have h0:=qw.refl m sw l.length
 have hgi:l[i]? =some (l.getD i 0):=by rw[List.getD_eq_getElem?_getD,List.getElem?_eq_getElem hi];rfl
 refine am.dec (fun he=>?_) (fun he=>?_)
 ·refine vs ?_
  have tC:i=l.length - 1:=by omega
  refine jf.mono (ON h0 (by omega) (x:=l.getD i 0) (by rw[←tC];exact hgi) (fun j h1 h2=>by
   rw[List.length_take]at h2
   have:=cK dM h1
   rw[getD_take (by omega),getD_take (by omega)]
   exact hh j h1 (by omega))) ?_
  rintro v H2 ⟨l',oZ,o⟩
  refine vs ?_
  exact⟨l',oZ,0,o,by omega⟩
 ·refine vs ?_
  have Ft:i<l.length - 1:=by omega
  refine jf.mono (h0.swap (Nat.le_refl _) (i:=i) (j:=l.length - 1) hi (by omega) (by omega)) ?_
  rintro _ H1 ⟨rfl,h1⟩
  refine vs ?_
  have hg:=Cz (l:=l) (i:=i) (j:=l.length - 1) hi (by omega)
  have vk:=h1.len
  have Yn:dI (aT w) 2 ((swp l i (l.length - 1)).take (l.length - 1)) i:=by
   have hb:=hh.but (aq w) dM i
   refine⟨fun j h2 h3 h4 h5=>?_,fun j h2 h3 h4 h5=>?_⟩
   ·rw[List.length_take]at h3
    have:=cK dM h2
    rw[getD_take (by omega),getD_take (by omega),hg,hg,if_neg (by omega),if_neg h4,if_neg (by omega),if_neg h5]
    exact hb.1 j h2 (by omega) h4 h5
   ·rw[List.length_take]at h3
    have:=cK dM h2
    have:=cK dM h5
    rw[getD_take (by omega),getD_take (by omega),hg,hg,if_neg (by omega),if_neg (by omega),if_neg (by omega),if_neg (by omega)]
    exact hb.2 j h2 (by omega) h4 h5
  have Nq:∀z∈swp l i (l.length - 1),cY w.cs z:=fun z hz=>bS z ((h1.mem z).1 hz)
  have j5:(swp l i (l.length - 1))[l.length - 1]? =some (l.getD i 0):=by rw[pC hi (by omega),if_pos rfl];exact hgi
  have fin:∀ {H2:Hp} {l2 Ym:List Int} {q:Nat},qw n c C rv r fp fa (min (st+((0:Nat):Int)) 4611686018427387904) w (swp l i (l.length - 1)) (CA l at_ i (l.length - 1)) (l.length - 1) H1 H2 l2 Ym q→eY (aT w) 2 (l2.take (l.length - 1))→
    jf Tryz.prog (pv r) "Pop" [] H2 fun v H'=>∃l' oZ,Out n c C rv r fp fa st w l at_ (l.getD i 0) H H' l' oZ q:=by
   intro H2 l2 Ym q g kw
   have w8:=m.cells.st
   have g':qw n c C rv r fp fa st w l at_ l.length H H2 l2 Ym q:=by
    refine⟨?_,g.ok,fun z=>by rw[g.mem z,h1.mem z],g.len.trans vk,?_,g.LJ.trans h1.LJ,fun z hz hm=>?_,h1.ext.trans g.ext⟩
    ·have:=g.mf
     rw[show min (min (st+((0:Nat):Int)) 4611686018427387904+(q:Int)) 4611686018427387904=min (st+(q:Int)) 4611686018427387904 by omega]at this
     exact this
    ·rw[List.drop_of_length_le (by rw[g.len];omega),List.drop_of_length_le (Nat.le_refl _)]
    ·rw[g.off z hz (fun h=>hm ((h1.mem z).1 h))];exact h1.off z hz hm
   refine ON g' (by omega) ?_ kw
   have hd:=g.drop
   have h2:(l2.drop (l.length - 1))[0]? =((swp l i (l.length - 1)).drop (l.length - 1))[0]? :=by rw[hd]
   rw[List.getElem?_drop,List.getElem?_drop,Nat.add_zero,j5]at h2
   rw[g.len,vk]
   exact h2
  have Gv:=nK dM ((l.length:Int) - 1).toNat (((l.length - 1:Nat):Int) - 1) ((l.length:Int) - 1) (Nat.le_refl _) (by omega)
  refine(xu h1.mf h1.ok (i0:=i) (mm:=l.length - 1) Ft (by rw[vk];omega) Nq Yn).mono ?_
  rintro _ H2 ⟨b,l2,Ym,q1,rfl,g2,UJ,hT,hF⟩
  cases b with
  |true=>
   refine vs ?_
   refine jf.mono (fin g2 (hT rfl)) ?_
   rintro v H3 ⟨l',oZ,o⟩
   refine vs ?_
   exact⟨l',oZ,q1,o,by omega⟩
  |false=>
   obtain⟨e1,e2,hB⟩:=hF rfl
   subst e1 e2
   have hmi:=nK dM (((l.length - 1:Nat):Int) - 1).toNat (i:Int) (((l.length - 1:Nat):Int) - 1) (Nat.le_refl _) (by omega)
   refine vs ?_
   refine(uB g2.mf g2.ok (j:=i) (mm:=l.length - 1) Ft (by rw[vk];omega) Nq Yn hB).mono ?_
   rintro _ H3 ⟨rfl,l3,at3,q2,g3,kw,hq2,_⟩
   refine vs ?_
   have g23:qw n c C rv r fp fa (min (st+((0:Nat):Int)) 4611686018427387904) w (swp l i (l.length - 1)) (CA l at_ i (l.length - 1)) (l.length - 1) H1 H3 l3 at3 (q1+q2):=by
    refine⟨?_,g3.ok,g3.mem,g3.len,g3.drop,g3.LJ,g3.off,g2.ext.trans g3.ext⟩
    have:=g3.mf
    rw[show min (min (min (st+((0:Nat):Int)) 4611686018427387904+(q1:Int)) 4611686018427387904+(q2:Int)) 4611686018427387904=min (min (st+((0:Nat):Int)) 4611686018427387904+((q1+q2:Nat):Int)) 4611686018427387904 by omega]at this
    exact this
   refine jf.mono (fin g23 kw) ?_
   rintro v H4 ⟨l',oZ,o⟩
   refine vs ?_
   exact⟨l',oZ,q1+q2,o,by omega⟩
end
end Go.Proofs.YtjlnnljohemifaaGreat

namespace Go.Proofs.YtjlnnljohemifaaGreat
open Go Go.Vc
structure Pl where
 r:Nat
 fp:Option Nat
 l:List Int
def Pl.S(P:Pl)(x:Nat):Prop:=x=P.r∨P.fp=some x
def Th:Option Pl→Value
 |none=>.pointer none
 |some P=>ptr P.r
structure o9(H:Hp)(n c:Nat)(C:Nat→Prop)(rv:Value)(fr fa:Option Nat)(st:Int)(w:Nw)(ps:List (Option Pl))(at_:List Int):Prop where
 own:∃av,H.own n=some [ptr c,rv,av]∧Sl H 1 av at_.length (at_.map i64) fa
 cells:bv H c C st w
 sl:Sl H 1 rv ps.length (ps.map Th) fr
 mf:∀ (h:Nat) P,ps[h]? =some (some P)→∃sv,H.own P.r=some [ptr n,sv]∧Sl H 1 sv P.l.length (P.l.map i64) P.fp
 nC:¬C n
 OO:∀b,fr=some b→¬C b∧b≠n∧fa≠some b
 J2:∀b,fa=some b→¬C b∧b≠n
 pd:∀ (h:Nat) P,ps[h]? =some (some P)→∀x,P.S x→¬C x∧x≠n∧fr≠some x∧fa≠some x
 pr:∀ (h:Nat) P,ps[h]? =some (some P)→P.fp≠some P.r∧P.l.length≤65536
 pp:∀ (h h':Nat) P P',ps[h]? =some (some P)→ps[h']? =some (some P')→h≠h'→∀x,P.S x→¬P'.S x
def ED(n:Nat)(C:Nat→Prop)(fr fa:Option Nat)(ps:List (Option Pl))(z:Nat):Prop:=C z∨z=n∨fr=some z∨fa=some z∨∃ (h:Nat) (P:Pl),ps[h]? =some (some P)∧P.S z
structure GK(w:Nw)(ps:List (Option Pl))(at_:List Int):Prop where
 hl:ps.length=w.hs.length
 hs:∀h:Nat,w.hs[h]? =some true↔∃P,ps[h]? =some (some P)
 h0:ps[0]? =some none
 ok:∀ (h:Nat) P,ps[h]? =some (some P)→eY (aT w) 2 P.l
 Ti:∀ (h:Nat) P,ps[h]? =some (some P)→pD P.l at_
 mem:∀ (h:Nat) P,ps[h]? =some (some P)→∀x:Int,x∈P.l↔0≤x∧∃e,w.cs[x.toNat]? =some (((h:Nat):Int),e)
 len:∀ (h:Nat) P,ps[h]? =some (some P)→(P.l.length:Int)=w.len h
 LJ:at_.length=w.cs.length
def dG(H:Hp)(n:Nat)(S:Nat→Prop)(st:Int)(w:Nw):Prop:=∃c C rv fr fa ps at_,o9 H n c C rv fr fa st w ps at_∧GK w ps at_∧(∀z,ED n C fr fa ps z↔S z)
section
variable {H H' : Hp} {n c : Nat} {C T : Nat → Prop} {rv : Value} {fr fa : Option Nat} {st Wn : Int} {w w' : Nw} {ps : List (Option Pl)} {at_ oZ : List Int} {S : Nat → Prop}
theorem o9.slt(h:o9 H n c C rv fr fa st w ps at_):∀z,ED n C fr fa ps z→z<H.size:=by
 obtain⟨av,ho,ha⟩:=h.own
 rintro z (hz|rfl|hz|hz| ⟨i,P,hP,hz⟩)
 ·exact h.cells.slt z hz
 ·exact aO ho
 ·exact Sl.lt (hz▸h.sl)
 ·exact Sl.lt (hz▸ha)
 ·obtain⟨sv,h1,h2⟩:=h.mf i P hP
  rcases hz with rfl|hz
  ·exact aO h1
  ·exact Sl.lt (hz▸h2)
theorem o9.ext(h:o9 H n c C rv fr fa st w ps at_)(e:ai T H H')(hd:∀z,ED n C fr fa ps z→¬T z):o9 H' n c C rv fr fa st w ps at_:=by
 obtain⟨av,ho,ha⟩:=h.own
 refine⟨⟨av,e.own ho (hd n (.inr (.inl rfl))),ha.ext e (fun b hb=>hd b (.inr (.inr (.inr (.inl hb)))))⟩,h.cells.ext e (fun x hx=>hd x (.inl hx)),h.sl.ext e (fun b hb=>hd b (.inr (.inr (.inl hb)))),fun i P hP=>?_,h.nC,h.OO,h.J2,h.pd,h.pr,h.pp⟩
 obtain⟨sv,h1,h2⟩:=h.mf i P hP
 exact⟨sv,e.own h1 (hd _ (.inr (.inr (.inr (.inr ⟨i,P,hP,.inl rfl⟩))))),h2.ext e (fun b hb=>hd b (.inr (.inr (.inr (.inr ⟨i,P,hP,.inr hb⟩)))))⟩
theorem o9.aK(h:o9 H n c C rv fr fa st w ps at_)(c1:bv H' c C Wn w')(e:ai C H H'):o9 H' n c C rv fr fa Wn w' ps at_:=by
 obtain⟨av,ho,ha⟩:=h.own
 refine⟨⟨av,e.own ho h.nC,ha.ext e (fun b hb=>(h.J2 b hb).1)⟩,c1,h.sl.ext e (fun b hb=>(h.OO b hb).1),fun i P hP=>?_,h.nC,h.OO,h.J2,h.pd,h.pr,h.pp⟩
 obtain⟨sv,h1,h2⟩:=h.mf i P hP
 exact⟨sv,e.own h1 (h.pd i P hP _ (.inl rfl)).1,h2.ext e (fun b hb=>(h.pd i P hP b (.inr hb)).1)⟩
theorem dG.slt(h:dG H n S st w):∀z,S z→z<H.size:=by
 obtain⟨c,C,rv,fr,fa,ps,at_,m,l,hS⟩:=h
 exact fun z hz=>m.slt z ((hS z).2 hz)
theorem dG.ext(h:dG H n S st w)(e:ai T H H')(hd:∀z,S z→¬T z):dG H' n S st w:=by
 obtain⟨c,C,rv,fr,fa,ps,at_,m,l,hS⟩:=h
 exact⟨c,C,rv,fr,fa,ps,at_,m.ext e (fun z hz=>hd z ((hS z).1 hz)),l,hS⟩
theorem dG.fresh(h:dG H n S st w)(e:ay H H'):dG H' n S st w:=h.ext e fun _ _ h=>h
theorem o9.Nr(m:o9 H n c C rv fr fa st w ps at_){g:Nat}{P:Pl}(hP:ps[g]? =some (some P)):jk H n c C rv P.r P.fp fa st w P.l at_:=by
 have hd:=m.pd g P hP
 refine⟨m.own,m.cells,m.mf g P hP,m.nC,(hd P.r (.inl rfl)).1,(hd P.r (.inl rfl)).2.1,fun b hb=>⟨(hd b (.inr hb)).1,(hd b (.inr hb)).2.1,fun h=>(m.pr g P hP).1 (by rw[hb,h]),(hd b (.inr hb)).2.2.2⟩,fun b hb=>⟨(m.J2 b hb).1,(m.J2 b hb).2,fun h=>(hd P.r (.inl rfl)).2.2.2 (by rw[hb,h])⟩,(m.pr g P hP).2⟩
theorem o9.J5(m:o9 H n c C rv fr fa st w ps at_){g:Nat}{P P':Pl}(hP:ps[g]? =some (some P))(hr:P'.r=P.r)(pm:jk H' n c C rv P'.r P'.fp fa Wn w' P'.l oZ)(l9:P'.fp=P.fp∨∃z,P'.fp=some z∧H.size≤z)
  (e:ai T H H')(hT:∀z,T z→C z∨P.S z∨fa=some z):o9 H' n c C rv fr fa Wn w' (ps.set g (some P')) oZ:=by
 have fF:=m.slt
 have hg:=(List.getElem?_eq_some_iff.1 hP).1
 have hPS:∀x,P'.S x→P.S x∨H.size≤x:=fun x hx=>by
  rcases hx with rfl|hx
  ·exact .inl (.inl hr)
  ·rcases l9 with h| ⟨z,h,h5⟩
   ·exact .inl (.inr (h▸hx))
   ·rw[h]at hx;injection hx with hx;exact .inr (by omega)
 have ce:∀ (h:Nat) Q,(ps.set g (some P'))[h]? =some (some Q)→(h=g∧Q=P')∨(h≠g∧ps[h]? =some (some Q)):=fun h Q hQ=>by
  by_cases hh:h=g
  ·subst hh
   rw[List.getElem?_set_self hg]at hQ
   simp only[Option.some.injEq]at hQ
   exact .inl ⟨rfl,hQ.symm⟩
  ·rw[List.getElem?_set_ne (Ne.symm hh)]at hQ
   exact .inr ⟨hh,hQ⟩
 have hd:=m.pd g P hP
 refine⟨pm.own,pm.cells,?_,fun h Q hQ=>?_,m.nC,m.OO,m.J2,fun h Q hQ x hx=>?_,fun h Q hQ=>?_,fun h h' Q Q' hQ Z7 aS x hx xa=>?_⟩
 ·have h1:(ps.set g (some P')).map Th=ps.map Th:=by
   rw[List.map_set]
   refine List.ext_getElem? fun i=>?_
   by_cases hi:i=g
   ·subst hi
    rw[List.getElem?_set_self (by rw[List.length_map];exact hg),List.getElem?_map,hP]
    simp[Th,hr]
   ·rw[List.getElem?_set_ne (Ne.symm hi)]
  rw[h1,List.length_set]
  exact m.sl.ext e (fun b hb ht=>by
   rcases hT b ht with h|h|h
   ·exact(m.OO b hb).1 h
   ·exact(hd b h).2.2.1 hb
   ·exact(m.OO b hb).2.2 h)
 ·rcases ce h Q hQ with ⟨rfl,rfl⟩| ⟨h1,h2⟩
  ·exact pm.mf
  ·obtain⟨sv,q1,q2⟩:=m.mf h Q h2
   have cw:∀x,Q.S x→¬T x:=fun x hx ht=>by
    rcases hT x ht with h3|h3|h3
    ·exact(m.pd h Q h2 x hx).1 h3
    ·exact m.pp h g Q P h2 hP h1 x hx h3
    ·exact(m.pd h Q h2 x hx).2.2.2 h3
   exact⟨sv,e.own q1 (cw _ (.inl rfl)),q2.ext e (fun b hb=>cw b (.inr hb))⟩
 ·rcases ce h Q hQ with ⟨rfl,rfl⟩| ⟨h1,h2⟩
  ·rcases hPS x hx with h3|h3
   ·exact hd x h3
   ·refine⟨fun hc=>?_,fun hc=>?_,fun hc=>?_,fun hc=>?_⟩
    ·have:=fF x (.inl hc);omega
    ·have:=fF n (.inr (.inl rfl));omega
    ·have:=fF x (.inr (.inr (.inl hc)));omega
    ·have:=fF x (.inr (.inr (.inr (.inl hc))));omega
  ·exact m.pd h Q h2 x hx
 ·rcases ce h Q hQ with ⟨rfl,rfl⟩| ⟨h1,h2⟩
  ·refine⟨fun hc=>?_,pm.ll⟩
   exact(pm.zk _ hc).2.2.1 rfl
  ·exact m.pr h Q h2
 ·rcases ce h Q hQ with ⟨rfl,rfl⟩| ⟨h1,h2⟩
  ·rcases ce h' Q' Z7 with ⟨rfl,rfl⟩| ⟨h3,h4⟩
   ·exact aS rfl
   ·rcases hPS x hx with h5|h5
    ·exact m.pp _ h' P Q' hP h4 aS x h5 xa
    ·have:=fF x (.inr (.inr (.inr (.inr ⟨h',Q',h4,xa⟩))));omega
  ·rcases ce h' Q' Z7 with ⟨rfl,rfl⟩| ⟨h3,h4⟩
   ·rcases hPS x xa with h5|h5
    ·exact m.pp h _ Q P h2 hP aS x hx h5
    ·have:=fF x (.inr (.inr (.inr (.inr ⟨h,Q,h2,hx⟩))));omega
   ·exact m.pp h h' Q Q' h2 h4 aS x hx xa
theorem o9.atp(m:o9 H n c C rv fr fa st w ps at_){i:Nat}{o:Option Pl}(h:ps[i]? =some o):∃f cc lb,rv= .slice (some ⟨f,0,none⟩) ps.length cc∧fr=some f∧H.own f=some lb∧lb[i]? =some (Th o)∧i<ps.length:=by
 obtain⟨b,cc,lb,h1,h2,h3,h4,h5,_⟩:=Sl.at_ m.sl (i:=i) (x:=Th o) (by simp[h])
 exact⟨b,cc,lb,h1,h2,h3,h4,h5⟩
theorem GK.fZ(l:GK w ps at_){g:Int}(h:w.has g):∃P,ps[g.toNat]? =some (some P):=(l.hs g.toNat).1 h.2
end
theorem Iy(cap:Int)(H:Hp):ah Tryz.prog MQ [i64 cap] H fun v H'=>ax (
  ay H H'∧((¬ (0≤cap∧cap≤65536)∧v= .tuple [.pointer none,i64 31].toArray)∨
   ((0≤cap∧cap≤65536)∧∃n S,v= .tuple [ptr n,i64 0].toArray∧dG H' n S 0 ⟨[false],List.replicate cap.toNat (0,0,0)⟩∧∀x,S x→H.size≤x))):=by
 refine bc MV ⟨rfl,?_⟩
 refine v1 Au.eq_1 ?_
 refine(oz cap H).mono ?_
 rintro _ H1 ⟨f1,⟨hb,rfl⟩| ⟨hb,c,C,rfl,c1,hC⟩⟩
 ·refine vs ?_
  exact⟨f1,.inl ⟨hb,rfl⟩⟩
 refine v1 decide_true ?_
 refine⟨by omega,?_⟩
 refine vs ?_
 have aes:∀k:Nat,cQ [Value.int .i64 0] k=(List.replicate k (0:Int)).map i64:=fun k=>by
  induction k with
  |zero=>rfl
  |succ k ih=>simp only[cQ,List.replicate_succ,List.flatten_cons,List.map_cons]at*;rw[ih];rfl
 rw[aes]
 have zx:=c1.slt
 have z1:=f1.size
 have f3:ay H1 (((H1.new 370 [.pointer none]).new 3 ((List.replicate cap.toNat (0:Int)).map i64)).new 285 [ptr c,.slice (some ⟨H1.size,0,none⟩) 1 1,.slice (some ⟨H1.size+1,0,none⟩) cap.toNat cap.toNat]):=(((ai.refl _ _).new _ _).new _ _).new _ _
 have e2:ai (fun _=>False) ((H1.new 370 [.pointer none]).new 3 ((List.replicate cap.toNat (0:Int)).map i64)) (((H1.new 370 [.pointer none]).new 3 ((List.replicate cap.toNat (0:Int)).map i64)).new 285 [ptr c,.slice (some ⟨H1.size,0,none⟩) 1 1,.slice (some ⟨H1.size+1,0,none⟩) cap.toNat cap.toNat]):=(ai.refl _ _).new _ _
 have e1:ai (fun _=>False) (H1.new 370 [.pointer none]) ((H1.new 370 [.pointer none]).new 3 ((List.replicate cap.toNat (0:Int)).map i64)):=(ai.refl _ _).new _ _
 have cw:∀ (h:Nat) (P:Pl),([none]:List (Option Pl))[h]? ≠some (some P):=fun h P hP=>by rcases h with _|h<;>simp at hP
 refine⟨f1.trans f3,.inr ⟨hb,H1.size+1+1,ED (H1.size+1+1) C (some H1.size) (some (H1.size+1)) [none],rfl,⟨c,C,_,some H1.size,some (H1.size+1),[none],List.replicate cap.toNat 0,
  ⟨⟨_,bC (by simp only[au]),?_⟩,c1.fresh f3,?_,fun h P hP=>absurd hP (cw h P),fun h=>by have:=zx _ h;omega,fun b hb=>?_,fun b hb=>?_,fun h P hP=>absurd hP (cw h P),fun h P hP=>absurd hP (cw h P),fun h h' P P' hP=>absurd hP (cw h P)⟩,
  ⟨rfl,fun h=>?_,rfl,fun h P hP=>absurd hP (cw h P),fun h P hP=>absurd hP (cw h P),fun h P hP=>absurd hP (cw h P),fun h P hP=>absurd hP (cw h P),by simp⟩,fun z=>Iff.rfl⟩,fun x hx=>?_⟩⟩
 ·rw[List.length_replicate]
  exact(Sl.dQ (size:=1) (n:=cap.toNat) (xs:=(List.replicate cap.toNat (0:Int)).map i64) (by simp) (by simp only[au])).ext e2 (fun _ _ h=>h)
 ·exact((Sl.dQ (size:=1) (n:=1) (xs:=[.pointer none]) rfl rfl).ext e1 (fun _ _ h=>h)).ext e2 (fun _ _ h=>h)
 ·injection hb with hb
  subst hb
  exact⟨fun h=>by have:=zx _ h;omega,by omega,fun h=>by injection h with h;omega⟩
 ·injection hb with hb
  subst hb
  exact⟨fun h=>by have:=zx _ h;omega,by omega⟩
 ·rcases h with _|h<;>simp
 ·rcases hx with hx|rfl|hx|hx| ⟨i,P,hP,hx⟩
  ·exact hC x hx
  ·omega
  ·injection hx with hx;omega
  ·injection hx with hx;omega
  ·exact absurd hP (cw i P)
theorem GL{H:Hp}{n:Nat}{S:Nat→Prop}{st:Int}{w:Nw}(h:dG H n S st w):ah Tryz.prog sH [ptr n] H fun v H'=>ax (
  (w.hs.length=65537∧v=i64 0∧H=H')∨
  (w.hs.length≠65537∧v=i64 w.hs.length∧∃S',dG H' n S' st w.make∧ai S H H'∧∀x,S' x→S x∨H.size≤x)):=by
 obtain⟨c,C,rv,fr,fa,ps,at_,m,l,hS⟩:=h
 obtain⟨av,ho,ha⟩:=m.own
 refine bc Dz ⟨rfl,?_⟩
 refine v2 mN.eq_1 (ae ho) ?_
 refine(mR m.cells).mono ?_
 rintro _ H1 (⟨h1,rfl,rfl⟩| ⟨h1,rfl,C',c1,e1,AX⟩)
 ·refine vs ?_
  exact .inl ⟨h1,rfl,rfl⟩
 have iw:0<ps.length:=(List.getElem?_eq_some_iff.1 l.h0).1
 have pt:=l.hl
 have o1:=e1.own ho m.nC
 refine vs ?_
 refine am.cj (decide_eq_true (by omega)) ?_
 refine v1 (ae o1) ?_
 have Hv:=m.cells.Hv
 have fF:=m.slt
 have RY:=c1.slt
 have z1:=e1.size
 have e2:ai (fun _=>False) H1 (H1.new 374 [ptr n,.slice none 0 0]):=(ai.refl _ _).new _ _
 have hq2:(H1.new 374 [ptr n,.slice none 0 0]).own H1.size=some [ptr n,.slice none 0 0]:=aG _ _ _
 have z2:(H1.new 374 [ptr n,.slice none 0 0]).size=H1.size+1:=by simp only[au]
 generalize (H1.new 374 [ptr n,.slice none 0 0])=H2 at*
 have e0:ai (fun _=>False) H2 (H2.new 370 [ptr H1.size]):=(ai.refl _ _).new _ _
 have sl2:=(m.sl.ext e1 (fun b hb h=>(m.OO b hb).1 h)).ext e2 (fun _ _ h=>h)
 have o2:=e2.own o1 (fun h=>h)
 refine Sl.append (sl2.ext e0 (fun _ _ h=>h)) (Sl.dQ (size:=1) (n:=1) (xs:=[ptr H1.size]) rfl z2.symm).rd rfl (by intro v hv;simp only[List.mem_singleton]at hv;subst hv;rfl) (by omega) ?_
 intro v' H3 fr' s3 e3 Ru
 have Ns:ai (fun z=>fr=some z) H2 H3:=(e0.mono fun _ _ h=>h.elim).uj e3 (fun z _ h=>h)
 have o3:=Ns.own o2 (fun h=>(m.OO n h).2.1 rfl)
 obtain⟨a',Wl,OM⟩:=ez.RC s3.rd
 subst OM
 refine v1 o3 ?_
 generalize OM:Value.slice a' (ps.length+1) Wl=v' at*
 have e4:ai (fun z=>z=n) H3 (H3.wr n [ptr c,v',av]):=(ai.refl (fun z=>z=n) _).wr (fun _=>rfl) _
 have hn:=aO ho
 have TX:∀b,fr=some b→b<H.size:=fun b hb=>fF b (.inr (.inr (.inl hb)))
 have Wo:∀b,fa=some b→b<H.size:=fun b hb=>fF b (.inr (.inr (.inr (.inl hb))))
 have Nt:∀b,fr'=some b→fr=some b∨H2.size≤b:=fun b hb=>by
  rcases Ru with h| ⟨z,h,h5,_⟩
  ·exact .inl (h▸hb)
  ·rw[h]at hb;injection hb with hb;subst hb;rw[au]at h5;exact .inr (by omega)
 have ce:∀ (h:Nat) P,(ps++[some (⟨H1.size,none,[]⟩:Pl)])[h]? =some (some P)→ps[h]? =some (some P)∨(h=ps.length∧P=⟨H1.size,none,[]⟩):=fun h P hP=>by
  rcases Nat.lt_trichotomy h ps.length with h5|h5|h5
  ·rw[List.getElem?_append_left h5]at hP;exact .inl hP
  ·subst h5
   rw[List.getElem?_append_right (Nat.le_refl _),Nat.sub_self]at hP
   simp only[List.getElem?_cons_zero,Option.some.injEq]at hP
   exact .inr ⟨rfl,hP.symm⟩
  ·rw[List.getElem?_eq_none (by rw[List.length_append,List.length_singleton];omega)]at hP
   cases hP
 have hold:∀ (h:Nat) P,ps[h]? =some (some P)→∀x,P.S x→x<H.size:=fun h P hP x hx=>fF x (.inr (.inr (.inr (.inr ⟨h,P,hP,hx⟩))))
 have zm:∀x,(⟨H1.size,none,[]⟩:Pl).S x→x=H1.size:=fun x hx=>by rcases hx with h|h;exact h;cases h
 have Jz:∀ (x:Nat) (e:Int×Int),w.cs[x]? ≠some (((ps.length:Nat):Int),e):=fun x e hx=>by
  have:=(m.cells.home _ (List.mem_of_getElem? hx)).2
  simp only at this
  omega
 refine .inr ⟨h1,rfl,ED n C' fr' fa (ps++[some ⟨H1.size,none,[]⟩]),⟨c,C',v',fr',fa,ps++[some ⟨H1.size,none,[]⟩],at_,
  ⟨⟨av,aj o3,?_⟩,?_,?_,fun h P hP=>?_,fun h=>?_,fun b hb=>⟨fun h=>?_,?_,fun h=>?_⟩,fun b hb=>⟨fun h=>?_,(m.J2 b hb).2⟩,fun h P hP x hx=>⟨fun h=>?_,?_,fun h=>?_,fun h=>?_⟩,fun h P hP=>?_,fun h h' P P' hP hP' aS x hx xa=>?_⟩,
  ⟨?_,fun h=>?_,?_,fun h P hP=>?_,fun h P hP=>?_,fun h P hP x=>?_,fun h P hP=>?_,l.LJ⟩,fun z=>Iff.rfl⟩,?_,fun x hx=>?_⟩
 ·exact(((ha.ext e1 (fun b hb h=>(m.J2 b hb).1 h)).ext e2 (fun _ _ h=>h)).ext Ns (fun b hb h=>(m.OO b h).2.2 hb)).ext e4 (fun b hb h=>(m.J2 b hb).2 h)
 ·exact((c1.ext e2 (fun _ _ h=>h)).ext Ns (fun x hx e=>by
   rcases AX x hx with h|h
   ·exact(m.OO x e).1 h
   ·have:=TX x e;omega)).ext e4 (fun x hx e=>by
   rcases AX x hx with h|h
   ·exact m.nC (e▸h)
   ·omega)
 ·have:=s3.ext e4 (fun b hb e=>by
   rcases Nt b hb with h|h
   ·exact(m.OO b h).2.1 e
   ·omega)
  rw[List.length_append,List.map_append]
  exact this
 ·rcases ce h P hP with h5| ⟨rfl,rfl⟩
  ·obtain⟨sv,q1,q2⟩:=m.mf h P h5
   have hd:=m.pd h P h5
   exact⟨sv,e4.own (Ns.own (e2.own (e1.own q1 (hd _ (.inl rfl)).1) (fun h=>h)) (hd _ (.inl rfl)).2.2.1) (hd _ (.inl rfl)).2.1,
    (((q2.ext e1 (fun b hb=>(hd b (.inr hb)).1)).ext e2 (fun _ _ h=>h)).ext Ns (fun b hb=>(hd b (.inr hb)).2.2.1)).ext e4 (fun b hb=>(hd b (.inr hb)).2.1)⟩
  ·exact⟨_,e4.own (Ns.own hq2 (fun e=>by have:=TX H1.size e;omega)) (fun e=>by have h9:H1.size=n:=e;omega),Sl.nil _ _⟩
 ·rcases AX n h with h|h
  ·exact m.nC h
  ·omega
 ·rcases Nt b hb with h5|h5
  ·rcases AX b h with h6|h6
   ·exact(m.OO b h5).1 h6
   ·have:=TX b h5;omega
  ·have:=RY b h;omega
 ·rcases Nt b hb with h|h
  ·exact(m.OO b h).2.1
  ·omega
 ·rcases Nt b hb with h5|h5
  ·exact(m.OO b h5).2.2 h
  ·have:=Wo b h;omega
 ·rcases AX b h with h6|h6
  ·exact(m.J2 b hb).1 h6
  ·have:=Wo b hb;omega
 ·rcases ce _ P hP with h5| ⟨_,rfl⟩
  ·rcases AX x h with h6|h6
   ·exact(m.pd _ P h5 x hx).1 h6
   ·have:=hold _ P h5 x hx;omega
  ·have:=zm x hx;have:=RY x h;omega
 ·rcases ce _ P hP with h5| ⟨_,rfl⟩
  ·exact(m.pd _ P h5 x hx).2.1
  ·have:=zm x hx;omega
 ·rcases ce _ P hP with h5| ⟨_,rfl⟩
  ·rcases Nt x h with h6|h6
   ·exact(m.pd _ P h5 x hx).2.2.1 h6
   ·have:=hold _ P h5 x hx;omega
  ·have:=zm x hx
   rcases Nt x h with h6|h6
   ·have:=TX x h6;omega
   ·omega
 ·rcases ce _ P hP with h5| ⟨_,rfl⟩
  ·exact(m.pd _ P h5 x hx).2.2.2 h
  ·have:=zm x hx;have:=Wo x h;omega
 ·rcases ce h P hP with h5| ⟨_,rfl⟩
  ·exact m.pr h P h5
  ·exact⟨(fun h=>by cases h),by simp⟩
 ·rcases ce _ P hP with h5| ⟨h5,rfl⟩
  ·rcases ce _ P' hP' with h6| ⟨h6,rfl⟩
   ·exact m.pp h h' P P' h5 h6 aS x hx xa
   ·have:=zm x xa;have:=hold _ P h5 x hx;omega
  ·rcases ce _ P' hP' with h6| ⟨h6,rfl⟩
   ·have:=zm x hx;have:=hold _ P' h6 x xa;omega
   ·omega
 ·simp[Nw.make,pt]
 ·show(w.hs++[true])[h]? =some true↔_
  rcases Nat.lt_trichotomy h ps.length with h5|h5|h5
  ·rw[List.getElem?_append_left h5,List.getElem?_append_left (by omega)]
   exact l.hs h
  ·subst h5
   rw[List.getElem?_append_right (Nat.le_refl _),List.getElem?_append_right (by omega),Nat.sub_self,pt,Nat.sub_self]
   simp
  ·rw[List.getElem?_eq_none (by rw[List.length_append,List.length_singleton];omega),List.getElem?_eq_none (by rw[List.length_append,List.length_singleton];omega)]
   simp
 ·rw[List.getElem?_append_left iw];exact l.h0
 ·rcases ce h P hP with h5| ⟨rfl,rfl⟩
  ·exact l.ok h P h5
  ·exact fun j _ hj=>by simp at hj
 ·rcases ce h P hP with h5| ⟨rfl,rfl⟩
  ·exact l.Ti h P h5
  ·exact fun i x hx=>by simp at hx
 ·rcases ce h P hP with h5| ⟨rfl,rfl⟩
  ·exact l.mem h P h5 x
  ·simp only[List.not_mem_nil,false_iff]
   rintro⟨_,e,he⟩
   exact Jz _ _ he
 ·rcases ce h P hP with h5| ⟨rfl,rfl⟩
  ·exact l.len h P h5
  ·show((0:Nat):Int)=w.len _
   unfold Nw.len
   rw[if_pos (by omega),List.countP_eq_zero.2 (fun x hx=>by
    have:=(m.cells.home x hx).2
    simp only[decide_eq_true_eq]
    omega)]
 ·exact((e1.mono fun z _ hz=>(hS z).1 (.inl hz)).trans ((e2.mono fun _ _ h=>h.elim).trans (Ns.mono fun z _ hz=>(hS z).1 (.inr (.inr (.inl hz)))))).trans (e4.mono fun z _ hz=>(hS z).1 (.inr (.inl hz)))
 ·rcases hx with hx|rfl|hx|hx| ⟨i,P,hP,hx⟩
  ·rcases AX x hx with h|h
   ·exact .inl ((hS x).1 (.inl h))
   ·exact .inr h
  ·exact .inl ((hS x).1 (.inr (.inl rfl)))
  ·rcases Nt x hx with h|h
   ·exact .inl ((hS x).1 (.inr (.inr (.inl h))))
   ·exact .inr (by omega)
  ·exact .inl ((hS x).1 (.inr (.inr (.inr (.inl hx)))))
  ·rcases ce i P hP with h5| ⟨_,rfl⟩
   ·exact .inl ((hS x).1 (.inr (.inr (.inr (.inr ⟨i,P,h5,hx⟩)))))
   ·have:=zm x hx;exact .inr (by omega)
end Go.Proofs.YtjlnnljohemifaaGreat

namespace Go.Proofs.YtjlnnljohemifaaGreat
open Go Go.Vc
theorem pD.Wp{l at_ oZ:List Int}(h:pD l at_)(ho:∀z∈l,0≤z→oZ[z.toNat]? =at_[z.toNat]?):pD l oZ:=fun i x hx=>by
 obtain⟨a,b⟩:=h i x hx
 exact⟨a,by rw[ho x (List.mem_of_getElem? hx) a];exact b⟩
theorem ja{ps:List (Option Pl)}{g:Nat}{P':Pl}(hg:g<ps.length){h:Nat}{Q:Pl}(hQ:(ps.set g (some P'))[h]? =some (some Q)):(h=g∧Q=P')∨(h≠g∧ps[h]? =some (some Q)):=by
 by_cases hh:h=g
 ·subst hh
  rw[List.getElem?_set_self hg]at hQ
  simp only[Option.some.injEq]at hQ
  exact .inl ⟨rfl,hQ.symm⟩
 ·rw[List.getElem?_set_ne (Ne.symm hh)]at hQ
  exact .inr ⟨hh,hQ⟩
theorem GK.apart{w:Nw}{ps:List (Option Pl)}{at_:List Int}(l:GK w ps at_){h h':Nat}{P Q:Pl}(hP:ps[h]? =some (some P))(hQ:ps[h']? =some (some Q))(aS:h≠h'){z:Int}(hz:z∈P.l):z∉Q.l:=fun hz'=>by
 obtain⟨_,e1,h1⟩:=(l.mem h P hP z).1 hz
 obtain⟨_,e2,h2⟩:=(l.mem h' Q hQ z).1 hz'
 rw[h1]at h2
 injection h2 with h2
 injection h2 with h2 _
 omega
theorem GK.pos{w:Nw}{ps:List (Option Pl)}{at_:List Int}(l:GK w ps at_){h:Nat}{P:Pl}(hP:ps[h]? =some (some P)):0<h:=by
 rcases Nat.eq_zero_or_pos h with hi|hi
 ·subst hi;rw[l.h0]at hP;cases hP
 ·exact hi
theorem D3{H:Hp}{n:Nat}{S:Nat→Prop}{st:Int}{w:Nw}(h:dG H n S st w)(g x k s:Int):ah Tryz.prog pV [ptr n,i64 g,i64 x,vN k s] H fun v H'=>ax (
  (¬ (w.has g∧(0≤x∧x<w.cs.length)∧¬cY w.cs x)∧v= .bool false∧dG H' n S st w∧ai S H H')∨
  ((w.has g∧(0≤x∧x<w.cs.length)∧¬cY w.cs x)∧v= .bool true∧∃ (S':Nat→Prop) (q:Nat),(q:Int)≤nJ 2 (w.len g)∧(0<w.len g→0<q)∧dG H' n S' (min (st+q) 4611686018427387904) (w.put x (g,k,s))∧ai S H H'∧∀z,S' z→S z∨H.size≤z)):=by
 obtain⟨c,C,rv,fr,fa,ps,at_,m,l,hS⟩:=h
 refine bc AP ⟨rfl,?_⟩
 refine v1 jW.eq_1 ?_
 have f0:ay H (H.new 224 [i64 k,u64 s]):=(ai.refl _ _).new _ _
 have b0:(H.new 224 [i64 k,u64 s]).own H.size=some [i64 k,u64 s]:=aG _ _ _
 have m0:=m.ext f0 (fun _ _ h=>h)
 generalize H.new 224 [i64 k,u64 s]=H0 at*
 obtain⟨av,J0,TK⟩:=m0.own
 refine v2 (ae J0) (ae b0) ?_
 refine(oA m0.cells g x k s).mono ?_
 rintro _ H1 (⟨cw,rfl,c1,e1⟩| ⟨th,rfl,c1,e1⟩)
 ·refine vs ?_
  exact .inl ⟨cw,rfl,⟨c,C,rv,fr,fa,ps,at_,m0.aK c1 e1,l,hS⟩,(f0.mono fun _ _ h=>h.elim).trans (e1.mono fun z _ hz=>(hS z).1 (.inl hz))⟩
 obtain⟨hh,⟨ie,j5⟩,bS⟩:=id th
 obtain⟨P,hP⟩:=l.fZ hh
 have h1:=hh.1
 have Bp:((g.toNat:Nat):Int)=g:=by omega
 have cF:=l.mem _ P hP
 have bm:=l.len _ P hP
 rw[Bp]at cF bm
 obtain⟨c0,qP⟩:∃c0,w.cs[x.toNat]? =some c0:=⟨_,List.getElem?_eq_getElem (by omega)⟩
 have Bn:¬0<c0.1:=fun h=>bS ⟨ie,c0,qP,h⟩
 have cU:(w.put x (g,k,s)).cs[x.toNat]? =some (g,k,s):=List.getElem?_set_self (by omega)
 have nQ:∀y:Nat,y≠x.toNat→(w.put x (g,k,s)).cs[y]? =w.cs[y]? :=fun y hy=>List.getElem?_set_ne (Ne.symm hy)
 have PK:∀ (i:Nat) Q,ps[i]? =some (some Q)→x∉Q.l:=fun i Q hQ hm=>by
  obtain⟨_,e,he⟩:=(l.mem i Q hQ x).1 hm
  rw[qP]at he
  injection he with he
  subst he
  have:=l.pos hQ
  exact Bn (by simp only;omega)
 have aS:∀ (i:Nat) Q,ps[i]? =some (some Q)→∀y∈Q.l,0≤y∧y.toNat≠x.toNat:=fun i Q hQ y hy=>by
  have h2:=((l.mem i Q hQ y).1 hy).1
  exact⟨h2,fun e=>PK i Q hQ (by rw[show x=y by omega];exact hy)⟩
 have Wq:∀ (i:Nat) Q,ps[i]? =some (some Q)→eY (aT (w.put x (g,k,s))) 2 Q.l:=fun i Q hQ=>
  (l.ok i Q hQ).J3 fun z hz y hy=>(jr w x _ (aS i Q hQ z hz).2 (aS i Q hQ y hy).2).symm
 have GM:∀z∈P.l,cY (w.put x (g,k,s)).cs z:=fun z hz=>by
  obtain⟨z0,e,he⟩:=(cF z).1 hz
  exact⟨z0,_,by rw[nQ _ (aS _ P hP z hz).2];exact he,by simp only;omega⟩
 have Wr:cY (w.put x (g,k,s)).cs x:=⟨ie,_,cU,by simp only;omega⟩
 have hlp:(w.put x (g,k,s)).len g=w.len g+1:=by rw[Nw.ii qP g,if_neg (fun hc=>by omega),if_pos ⟨by omega,rfl⟩];omega
 have qQ:=m.cells.Fc
 have pt:P.l.length<65536:=by
  have:=((w.put x (g,k,s)).AT g).2
  have h5:(w.put x (g,k,s)).cs.length=w.cs.length:=List.length_set ..
  omega
 have m1:=m0.aK c1 e1
 obtain⟨av1,PJ,_⟩:=m1.own
 obtain⟨f,cc,lb,rfl,rfl,hf,TW,dv⟩:=m1.atp hP
 refine v1 (ae PJ) ?_
 refine⟨by omega,?_⟩
 simp(disch:=(first|omega| (simp only[Zs]<;>omega)|fail)) only[go_sem, ↓reduceIte,Zv,ae hf,Nat.mul_one,TW,Th]
 refine(GJ (m1.Nr hP) (l.Ti _ P hP) pt ⟨ie,by rw[l.LJ];omega⟩ (PK _ P hP) Wr GM (Wq _ P hP)).mono ?_
 rintro _ H2 ⟨rfl,fJ,l',oZ,q,pm,aeu,kw,Z8,agC,aev,aew,hq,UY,e2,oF⟩
 refine vs ?_
 have z0:=f0.size
 have z1:=e1.size
 have hT:∀z,(C z∨P.fp=some z∨fa=some z∨z=P.r)→C z∨P.S z∨fa=some z:=fun z hz=>by
  rcases hz with hz|hz|hz|hz
  ·exact .inl hz
  ·exact .inr (.inl (.inr hz))
  ·exact .inr (.inr hz)
  ·exact .inr (.inl (.inl hz))
 have qH:∀z,(C z∨P.fp=some z∨fa=some z∨z=P.r)→S z:=fun z hz=>(hS z).1 (by
  rcases hT z hz with hz|hz|hz
  ·exact .inl hz
  ·exact .inr (.inr (.inr (.inr ⟨_,P,hP,hz⟩)))
  ·exact .inr (.inr (.inr (.inl hz))))
 refine .inr ⟨th,rfl,ED n C (some f) fa (ps.set g.toNat (some ⟨P.r,fJ,l'⟩)),q,by rw[←bm];exact Int.ofNat_le.2 hq,fun h=>UY (by omega),
  ⟨c,C,_,some f,fa,_,oZ,m1.J5 hP (P':=⟨P.r,fJ,l'⟩) rfl pm oF e2 hT,
   ⟨by rw[List.length_set];exact l.hl,fun h=>?_,?_,fun h Q hQ=>?_,fun h Q hQ=>?_,fun h Q hQ y=>?_,fun h Q hQ=>?_,?_⟩,fun z=>Iff.rfl⟩,?_,fun z hz=>?_⟩
 ·show w.hs[h]? =some true↔_
  rw[l.hs h]
  by_cases LK:h=g.toNat
  ·subst LK
   rw[List.getElem?_set_self dv]
   exact⟨fun _=>⟨_,rfl⟩,fun _=>⟨P,hP⟩⟩
  ·rw[List.getElem?_set_ne (Ne.symm LK)]
 ·rw[List.getElem?_set_ne (by omega)];exact l.h0
 ·rcases ja dv hQ with ⟨rfl,rfl⟩| ⟨h5,h6⟩
  ·exact kw
  ·exact Wq h Q h6
 ·rcases ja dv hQ with ⟨rfl,rfl⟩| ⟨h5,h6⟩
  ·exact aeu
  ·exact(l.Ti h Q h6).Wp fun z hz z0=>aew z z0 (fun e=>PK h Q h6 (e▸hz)) (l.apart h6 hP h5 hz)
 ·rcases ja dv hQ with ⟨rfl,rfl⟩| ⟨h5,h6⟩
  ·rw[Bp]
   show y∈l'↔_
   rw[Z8 y]
   constructor
   ·rintro(rfl|hy)
    ·exact⟨ie,_,cU⟩
    ·obtain⟨y0,e,he⟩:=(cF y).1 hy
     exact⟨y0,e,by rw[nQ _ (aS _ P hP y hy).2];exact he⟩
   ·rintro⟨y0,e,he⟩
    by_cases qL:y.toNat=x.toNat
    ·exact .inl (by omega)
    ·rw[nQ _ qL]at he
     exact .inr ((cF y).2 ⟨y0,e,he⟩)
  ·rw[l.mem h Q h6 y]
   by_cases qL:y.toNat=x.toNat
   ·rw[qL,cU,qP]
    constructor
    ·rintro⟨y0,e,he⟩
     injection he with he
     subst he
     have:=l.pos h6
     exact absurd (show(0:Int)< ((h:Nat):Int) by omega) Bn
    ·rintro⟨y0,e,he⟩
     injection he with he
     injection he with Ws he2
     omega
   ·rw[nQ _ qL]
 ·rcases ja dv hQ with ⟨rfl,rfl⟩| ⟨h5,h6⟩
  ·rw[Bp,hlp]
   show(l'.length:Int)=_
   omega
  ·rw[l.len h Q h6,Nw.ii qP h,if_neg (fun hc=>by omega),if_neg (fun hc=>by omega)]
   omega
 ·rw[aev,l.LJ];exact(List.length_set ..).symm
 ·exact(f0.mono fun _ _ h=>h.elim).trans ((e1.mono fun z _ hz=>qH z (.inl hz)).trans (e2.mono fun z _ hz=>qH z hz))
 ·rcases hz with hz|rfl|hz|hz| ⟨i,Q,hQ,hz⟩
  ·exact .inl (qH z (.inl hz))
  ·exact .inl ((hS z).1 (.inr (.inl rfl)))
  ·exact .inl ((hS z).1 (.inr (.inr (.inl hz))))
  ·exact .inl (qH z (.inr (.inr (.inl hz))))
  ·rcases ja dv hQ with ⟨rfl,rfl⟩| ⟨h5,h6⟩
   ·rcases hz with rfl|hz
    ·exact .inl (qH _ (.inr (.inr (.inr rfl))))
    ·rcases oF with h| ⟨y,h,h7⟩
     ·exact .inl (qH z (.inr (.inl (h▸hz))))
     ·simp only at hz
      rw[h]at hz;injection hz with hz;exact .inr (by omega)
   ·exact .inl ((hS z).1 (.inr (.inr (.inr (.inr ⟨i,Q,h6,hz⟩)))))
theorem zC{H:Hp}{n:Nat}{S:Nat→Prop}{st:Int}{w:Nw}(h:dG H n S st w)(g:Int):ah Tryz.prog uU [ptr n,i64 g] H fun v H'=>ax (
  ((w.len g=0∧v= .tuple [i64 0,.bool false].toArray)∨∃x,w.first g x∧v= .tuple [i64 x,.bool true].toArray)∧H=H'):=by
 obtain⟨c,C,rv,fr,fa,ps,at_,m,l,hS⟩:=h
 obtain⟨av,ho,ha⟩:=m.own
 refine bc E3 ⟨rfl,?_⟩
 refine v2 oo.eq_1 (ae ho) ?_
 refine(u9 m.cells g).mono ?_
 rintro _ _ ⟨rfl,rfl⟩
 refine vs ?_
 refine am.dec (fun h0=>?_) (fun h0=>?_)
 ·refine vs ?_
  exact⟨.inl ⟨h0,rfl⟩,rfl⟩
 have hg:0<g:=by
  by_cases hg:0<g
  ·exact hg
  ·exact absurd (Nw.Ir.2 (.inl (by omega))) h0
 have aex:w.has g:=by
  refine⟨by omega,?_⟩
  by_cases hx:w.hs[g.toNat]? =some true
  ·exact hx
  ·refine absurd (Nw.Ir.2 (.inr fun i c hc e=>hx ?_)) h0
   have:=m.cells.live c (List.mem_of_getElem? hc) (by omega)
   rwa[e]at this
 obtain⟨P,hP⟩:=l.fZ aex
 have Bp:((g.toNat:Nat):Int)=g:=by omega
 have cF:=l.mem _ P hP
 have bm:=l.len _ P hP
 rw[Bp]at cF bm
 have pt:=(w.AT g).1
 obtain⟨f,cc,lb,rfl,rfl,hf,TW,dv⟩:=m.atp hP
 obtain⟨sv,hr,hs⟩:=m.mf _ P hP
 obtain⟨x,hx⟩:∃x,P.l[0]? =some x:=⟨_,List.getElem?_eq_getElem (by omega)⟩
 obtain⟨b,c2,l2,rfl,l9,hb,oY,_,Hx⟩:=Sl.at_ hs (i:=0) (x:=i64 x) (by simp[hx])
 refine v1 (ae ho) ?_
 refine⟨by omega,?_⟩
 simp(disch:=(first|omega| (simp only[Zs]<;>omega)|fail)) only[go_sem, ↓reduceIte,Zv,ae hf,Nat.mul_one,TW,Th,ae hr]
 refine⟨by omega,?_⟩
 refine v2 (ae hb) (show l2[Int.toNat 0*1]? =some (i64 x)from oY) ?_
 have Z9:=List.mem_of_getElem? hx
 obtain⟨ie,e,he⟩:=(cF x).1 Z9
 refine⟨.inr ⟨x,⟨hg,ie,⟨e,he⟩,fun y hy ⟨e',tD⟩ aS=>?_⟩,rfl⟩,rfl⟩
 have hyP:=(cF y).2 ⟨hy,e',tD⟩
 obtain⟨j,hj⟩:=List.getElem?_of_mem hyP
 have Zt:=(List.getElem?_eq_some_iff.1 hj).1
 have h5:=Gw (aq w) dM (l.ok _ P hP) j j (Nat.le_refl _) Zt
 rw[uA hj,uA hx]at h5
 rcases(aq w).Oo x y (Ne.symm aS)with h6|h6
 ·exact h6
 ·rw[h5]at h6;cases h6
theorem D4{H:Hp}{n:Nat}{S:Nat→Prop}{st:Int}{w:Nw}(h:dG H n S st w)(x:Int):ah Tryz.prog Ag [ptr n,i64 x] H fun v H'=>ax (
  (¬cY w.cs x∧v= .bool false∧H=H')∨
  (cY w.cs x∧v= .bool true∧∃ (c0:Ce) (q:Nat),w.cs[x.toNat]? =some c0∧q≤2*nJ 2 (w.len c0.1 - 1)∧∃S',dG H' n S' (min (st+q) 4611686018427387904) (w.put x (0,0,0))∧ai S H H'∧∀z,S' z→S z∨H.size≤z)):=by
 obtain⟨c,C,rv,fr,fa,ps,at_,m,l,hS⟩:=h
 obtain⟨av,ho,ha⟩:=m.own
 refine bc AO ⟨rfl,?_⟩
 refine v2 jV.eq_1 (ae ho) ?_
 refine(eT m.cells x).mono ?_
 rintro _ H1 (⟨cw,rfl,rfl⟩| ⟨bS,c0,qP,rfl,c1,e1⟩)
 ·refine vs ?_
  exact .inl ⟨cw,rfl,rfl⟩
 obtain⟨ie,c0',J6,iw⟩:=id bS
 rw[qP]at J6
 injection J6 with J6
 subst J6
 obtain⟨P,hP⟩:=(l.hs c0.1.toNat).1 (m.cells.live _ (List.mem_of_getElem? qP) iw)
 have Bp:((c0.1.toNat:Nat):Int)=c0.1:=by omega
 have cF:=l.mem _ P hP
 have bm:=l.len _ P hP
 rw[Bp]at cF bm
 have cU:(w.put x (0,0,0)).cs[x.toNat]? =some (0,0,0):=List.getElem?_set_self (List.getElem?_eq_some_iff.1 qP).1
 have nQ:∀y:Nat,y≠x.toNat→(w.put x (0,0,0)).cs[y]? =w.cs[y]? :=fun y hy=>List.getElem?_set_ne (Ne.symm hy)
 have m1:=m.aK c1 e1
 obtain⟨av1,PJ,UP⟩:=m1.own
 have Z9:x∈P.l:=(cF x).2 ⟨ie,c0.2,qP⟩
 have GM:∀z∈P.l,cY w.cs z:=fun z hz=>by
  obtain⟨z0,e,he⟩:=(cF z).1 hz
  exact⟨z0,_,he,iw⟩
 obtain⟨i,hi⟩:=List.getElem?_of_mem Z9
 have tC:=(List.getElem?_eq_some_iff.1 hi).1
 obtain⟨_,Yd⟩:=l.Ti _ P hP i x hi
 obtain⟨f,cc,lb,rfl,rfl,hf,TW,dv⟩:=m1.atp hP
 obtain⟨fa',ac,la,rfl,hfa,Wt,Wu,_,_⟩:=Sl.at_ UP (i:=x.toNat) (x:=i64 i) (by simp[Yd])
 have hal:=(List.getElem?_eq_some_iff.1 Yd).1
 refine v1 (ae PJ) ?_
 refine⟨by omega,?_⟩
 simp(disch:=(first|omega| (simp only[Zs]<;>omega)|fail)) only[go_sem, ↓reduceIte,Zv,ae hf,Nat.mul_one,TW,Th,ae PJ]
 refine⟨by omega,?_⟩
 refine v3 (ae Wt) Nat.mul_one Wu ?_
 refine(D2 (m1.Nr hP) (l.Ti _ P hP) tC GM (l.ok _ P hP)).mono ?_
 rintro _ H2 ⟨l',oZ,q,o,hq⟩
 rw[uA hi]at o
 have hT:∀z,(C z∨P.fp=some z∨fa=some z∨z=P.r)→C z∨P.S z∨fa=some z:=fun z hz=>by
  rcases hz with hz|hz|hz|hz
  ·exact .inl hz
  ·exact .inr (.inl (.inr hz))
  ·exact .inr (.inr hz)
  ·exact .inr (.inl (.inl hz))
 have qH:∀z,(C z∨P.fp=some z∨fa=some z∨z=P.r)→S z:=fun z hz=>(hS z).1 (by
  rcases hT z hz with hz|hz|hz
  ·exact .inl hz
  ·exact .inr (.inr (.inr (.inr ⟨_,P,hP,hz⟩)))
  ·exact .inr (.inr (.inr (.inl hz))))
 have m2:=m1.J5 hP (P':=⟨P.r,P.fp,l'⟩) rfl o.mf (.inl rfl) o.ext hT
 obtain⟨av2,ho2,_⟩:=m2.own
 refine v1 (ae ho2) ?_
 refine(mS m2.cells x).mono ?_
 rintro _ H3 (⟨cw,_,_⟩| ⟨_,rfl,c3,e3⟩)
 ·exact absurd bS cw
 refine vs ?_
 have m3:=m2.aK c3 e3
 have aS:∀ (h:Nat) Q,h≠c0.1.toNat→ps[h]? =some (some Q)→∀y∈Q.l,y.toNat≠x.toNat:=fun h Q hh hQ y hy e=>by
  obtain⟨y0,e',he⟩:=(l.mem h Q hQ y).1 hy
  rw[e,qP]at he
  injection he with he
  rw[he]at hh
  simp only[Int.toNat_natCast]at hh
  exact hh rfl
 have Nu:∀y∈l',y.toNat≠x.toNat:=fun y hy e=>by
  obtain⟨h1,h2⟩:=(o.mem y).1 hy
  have:=((cF y).1 h1).1
  omega
 refine .inr ⟨bS,rfl,c0,q,qP,by rw[←bm];exact hq,ED n C (some f) fa (ps.set c0.1.toNat (some ⟨P.r,P.fp,l'⟩)),
  ⟨c,C,_,some f,fa,_,oZ,m3,⟨by rw[List.length_set];exact l.hl,fun h=>?_,?_,fun h Q hQ=>?_,fun h Q hQ=>?_,fun h Q hQ y=>?_,fun h Q hQ=>?_,?_⟩,fun z=>Iff.rfl⟩,?_,fun z hz=>?_⟩
 ·show w.hs[h]? =some true↔_
  rw[l.hs h]
  by_cases LK:h=c0.1.toNat
  ·subst LK
   rw[List.getElem?_set_self dv]
   exact⟨fun _=>⟨_,rfl⟩,fun _=>⟨P,hP⟩⟩
  ·rw[List.getElem?_set_ne (Ne.symm LK)]
 ·rw[List.getElem?_set_ne (by omega)];exact l.h0
 ·rcases ja dv hQ with ⟨rfl,rfl⟩| ⟨h5,h6⟩
  ·exact o.heap.J3 fun z hz y hy=>(jr w x _ (Nu z hz) (Nu y hy)).symm
  ·exact(l.ok h Q h6).J3 fun z hz y hy=>(jr w x _ (aS h Q h5 h6 z hz) (aS h Q h5 h6 y hy)).symm
 ·rcases ja dv hQ with ⟨rfl,rfl⟩| ⟨h5,h6⟩
  ·exact o.ok
  ·exact(l.Ti h Q h6).Wp fun z hz z0=>o.off z z0 (l.apart h6 hP h5 hz)
 ·by_cases qL:y.toNat=x.toNat
  ·rw[qL,cU]
   have h0:=ja dv hQ
   constructor
   ·intro hy
    rcases h0 with ⟨rfl,rfl⟩| ⟨h5,h6⟩
    ·exact absurd qL (Nu y hy)
    ·exact absurd qL (aS h Q h5 h6 y hy)
   ·rintro⟨_,e,he⟩
    injection he with he
    injection he with Ws _
    rcases h0 with ⟨rfl,rfl⟩| ⟨h5,h6⟩
    ·omega
    ·have:=l.pos h6;omega
  ·rw[nQ _ qL]
   rcases ja dv hQ with ⟨rfl,rfl⟩| ⟨h5,h6⟩
   ·rw[Bp]
    show y∈l'↔_
    rw[o.mem y,cF y]
    constructor
    ·exact fun h=>h.1
    ·exact fun h=>⟨h,fun e=>qL (by rw[e])⟩
   ·exact l.mem h Q h6 y
 ·rcases ja dv hQ with ⟨rfl,rfl⟩| ⟨h5,h6⟩
  ·rw[Bp,Nw.ii qP c0.1,if_pos ⟨iw,rfl⟩,if_neg (fun hc=>by omega)]
   show(l'.length:Int)=_
   have:=o.len
   omega
  ·have:=l.pos h6
   rw[l.len h Q h6,Nw.ii qP h,if_neg (fun hc=>by omega),if_neg (fun hc=>by omega)]
   omega
 ·rw[o.LJ,l.LJ];exact(List.length_set ..).symm
 ·exact(e1.mono fun z _ hz=>qH z (.inl hz)).trans ((o.ext.mono fun z _ hz=>qH z hz).trans (e3.mono fun z _ hz=>qH z (.inl hz)))
 ·rcases hz with hz|rfl|hz|hz| ⟨i,Q,hQ,hz⟩
  ·exact .inl (qH z (.inl hz))
  ·exact .inl ((hS z).1 (.inr (.inl rfl)))
  ·exact .inl ((hS z).1 (.inr (.inr (.inl hz))))
  ·exact .inl (qH z (.inr (.inr (.inl hz))))
  ·rcases ja dv hQ with ⟨rfl,rfl⟩| ⟨h5,h6⟩
   ·rcases hz with rfl|hz
    ·exact .inl (qH _ (.inr (.inr (.inr rfl))))
    ·exact .inl (qH z (.inr (.inl hz)))
   ·exact .inl ((hS z).1 (.inr (.inr (.inr (.inr ⟨i,Q,h6,hz⟩)))))
theorem CB{H:Hp}{n:Nat}{S:Nat→Prop}{st:Int}{w:Nw}(h:dG H n S st w)(g:Int):ah Tryz.prog oV [ptr n,i64 g] H fun v H'=>ax (
  (w.len g=0∧v= .tuple [i64 0,.bool false].toArray∧H=H')∨
  (∃x,w.first g x∧v= .tuple [i64 x,.bool true].toArray∧∃q:Nat,q≤2*nJ 2 (w.len g - 1)∧∃S',dG H' n S' (min (st+q) 4611686018427387904) (w.put x (0,0,0))∧ai S H H'∧∀z,S' z→S z∨H.size≤z)):=by
 refine bc zf ⟨rfl,?_⟩
 refine v1 iX.eq_1 ?_
 refine(zC h g).mono ?_
 rintro _ _ ⟨⟨h0,rfl⟩| ⟨x,hx,rfl⟩,rfl⟩
 ·refine vs ?_
  exact .inl ⟨h0,rfl,rfl⟩
 ·refine vs ?_
  refine(D4 h x).mono ?_
  rintro _ H1 (⟨cw,_,_⟩| ⟨_,rfl,c0,q,qP,hq,S',d1,e1,Yo⟩)
  ·exact absurd hx.MC cw
  refine vs ?_
  obtain⟨e,tD⟩:=hx.2.2.1
  rw[qP]at tD
  injection tD with tD
  subst tD
  exact .inr ⟨x,hx,rfl,q,hq,S',d1,e1,Yo⟩
theorem AY{H:Hp}{n:Nat}{S:Nat→Prop}{st:Int}{w:Nw}(h:dG H n S st w)(x k s:Int):ah Tryz.prog nB [ptr n,i64 x,vN k s] H fun v H'=>ax (
  (¬ (cY w.cs x∧∀y,w.cs[x.toNat]? =some y→¬gW y.2.1 y.2.2 k s)∧v= .bool false∧dG H' n S st w∧ay H H')∨
  (cY w.cs x∧∃y,w.cs[x.toNat]? =some y∧¬gW y.2.1 y.2.2 k s∧v= .bool true∧∃q:Nat,q≤2*nJ 2 (w.len y.1 - 1)∧∃S',dG H' n S' (min (st+q) 4611686018427387904) (w.put x (y.1,k,s))∧ai S H H'∧∀z,S' z→S z∨H.size≤z)):=by
 obtain⟨c,C,rv,fr,fa,ps,at_,m,l,hS⟩:=h
 refine bc wW ⟨rfl,?_⟩
 refine v1 gS.eq_1 ?_
 have f0:ay H (H.new 224 [i64 k,u64 s]):=(ai.refl _ _).new _ _
 have b0:(H.new 224 [i64 k,u64 s]).own H.size=some [i64 k,u64 s]:=aG _ _ _
 have m0:=m.ext f0 (fun _ _ h=>h)
 generalize H.new 224 [i64 k,u64 s]=H0 at*
 obtain⟨av,J0,TK⟩:=m0.own
 refine v2 (ae J0) (ae b0) ?_
 refine(lL m0.cells x k s).mono ?_
 rintro _ H1 (⟨cw,rfl,c1,e1⟩| ⟨bS,rfl,y,hy,gm,c1,e1⟩)
 ·refine vs ?_
  exact .inl ⟨cw,rfl,⟨c,C,rv,fr,fa,ps,at_,m0.ext e1 (fun _ _ h=>h),l,hS⟩,f0.trans e1⟩
 have m1:=m0.aK c1 e1
 obtain⟨av1,PJ,UP⟩:=m1.own
 refine v1 (ae PJ) ?_
 obtain⟨ie,y',MD,iw⟩:=id bS
 rw[hy]at MD
 injection MD with MD
 subst MD
 have cU:(w.put x (y.1,k,s)).cs[x.toNat]? =some (y.1,k,s):=List.getElem?_set_self (List.getElem?_eq_some_iff.1 hy).1
 have nQ:∀z:Nat,z≠x.toNat→(w.put x (y.1,k,s)).cs[z]? =w.cs[z]? :=fun z hz=>List.getElem?_set_ne (Ne.symm hz)
 have Nq:cY (w.put x (y.1,k,s)).cs x:=⟨ie,_,cU,iw⟩
 refine(eT c1 x).mono ?_
 rintro _ H2 (⟨cw,_,_⟩| ⟨_,y2,zN,rfl,c2,e2⟩)
 ·exact absurd Nq cw
 rw[cU]at zN
 injection zN with zN
 subst zN
 have m2:=m1.aK c2 e2
 obtain⟨av2,ho2,ha2⟩:=m2.own
 obtain⟨P,hP⟩:=(l.hs y.1.toNat).1 (m.cells.live _ (List.mem_of_getElem? hy) iw)
 have Bp:((y.1.toNat:Nat):Int)=y.1:=by omega
 have LL:∀ (h:Nat) Q,ps[h]? =some (some Q)→∀z:Int,z∈Q.l↔0≤z∧∃e,(w.put x (y.1,k,s)).cs[z.toNat]? =some (((h:Nat):Int),e):=fun h Q hQ z=>by
  rw[l.mem h Q hQ z]
  by_cases TY:z.toNat=x.toNat
  ·rw[TY,cU,hy]
   constructor
   ·rintro⟨z0,e,he⟩
    injection he with he
    exact⟨z0,(k,s),by rw[he]⟩
   ·rintro⟨z0,e,he⟩
    injection he with he
    injection he with Ws _
    exact⟨z0,y.2,by rw[←Ws]⟩
  ·rw[nQ _ TY]
 have cF:=LL _ P hP
 have bm:=l.len _ P hP
 rw[Bp]at cF bm
 have Z9:x∈P.l:=(cF x).2 ⟨ie,_,cU⟩
 have GM:∀z∈P.l,cY (w.put x (y.1,k,s)).cs z:=fun z hz=>by
  obtain⟨z0,e,he⟩:=(cF z).1 hz
  exact⟨z0,_,he,iw⟩
 obtain⟨i,hi⟩:=List.getElem?_of_mem Z9
 have tC:=(List.getElem?_eq_some_iff.1 hi).1
 obtain⟨_,Yd⟩:=l.Ti _ P hP i x hi
 have hal:=(List.getElem?_eq_some_iff.1 Yd).1
 obtain⟨f,cc,lb,rfl,rfl,hf,TW,dv⟩:=m2.atp hP
 obtain⟨fa',ac,la,rfl,hfa,Wt,Wu,_,_⟩:=Sl.at_ ha2 (i:=x.toNat) (x:=i64 i) (by simp[Yd])
 have KL:∀j,j<P.l.length→j≠i→(P.l.getD j 0).toNat≠x.toNat:=fun j hj aS e=>by
  have hgj:P.l[j]? =some (P.l.getD j 0):=by rw[List.getD_eq_getElem?_getD,List.getElem?_eq_getElem hj];rfl
  have h0:=((cF _).1 (List.mem_of_getElem? hgj)).1
  rw[show P.l.getD j 0=x by omega]at hgj
  exact aS ((l.Ti _ P hP).Gu hgj hi)
 have hA:dI (aT (w.put x (y.1,k,s))) 2 P.l i:=by
  have hb:=(l.ok _ P hP).but (aq w) dM i
  refine⟨fun j h1 h2 h3 h4=>?_,fun j h1 h2 h3 h4=>?_⟩
  ·have:=cK dM h1
   rw[jr w x _ (KL j h2 h3) (KL _ (by omega) h4)]
   exact hb.1 j h1 h2 h3 h4
  ·have:=cK dM h1
   have:=cK dM h4
   rw[jr w x _ (KL j h2 (by omega)) (KL _ (by omega) (by omega))]
   exact hb.2 j h1 h2 h3 h4
 refine v1 (ae ho2) ?_
 refine⟨by omega,?_⟩
 simp(disch:=(first|omega| (simp only[Zs]<;>omega)|fail)) only[go_sem, ↓reduceIte,Zv,ae hf,Nat.mul_one,TW,Th,ae ho2]
 refine⟨by omega,?_⟩
 refine v3 (ae Wt) Nat.mul_one Wu ?_
 refine(Ix (m2.Nr hP) (l.Ti _ P hP) tC GM hA).mono ?_
 rintro _ H3 ⟨rfl,l',oZ,q,o,kw,hq⟩
 refine vs ?_
 have sA:=e1.trans e2
 have hT:∀z,(C z∨P.fp=some z∨fa=some z)→C z∨P.S z∨fa=some z:=fun z hz=>by
  rcases hz with hz|hz|hz
  ·exact .inl hz
  ·exact .inr (.inl (.inr hz))
  ·exact .inr (.inr hz)
 have qH:∀z,(C z∨P.fp=some z∨fa=some z)→S z:=fun z hz=>(hS z).1 (by
  rcases hT z hz with hz|hz|hz
  ·exact .inl hz
  ·exact .inr (.inr (.inr (.inr ⟨_,P,hP,hz⟩)))
  ·exact .inr (.inr (.inr (.inl hz))))
 have aS:∀ (h:Nat) Q,h≠y.1.toNat→ps[h]? =some (some Q)→∀z∈Q.l,z.toNat≠x.toNat:=fun h Q hh hQ z hz e=>by
  obtain⟨z0,e',he⟩:=(l.mem h Q hQ z).1 hz
  rw[e,hy]at he
  injection he with he
  rw[he]at hh
  simp only[Int.toNat_natCast]at hh
  exact hh rfl
 have ZV:∀h:Int,(w.put x (y.1,k,s)).len h=w.len h:=fun h=>by
  rw[Nw.ii hy h]
  simp only
  split<;>omega
 have hol:=o.len
 refine .inr ⟨bS,y,hy,gm,rfl,q,by rw[←bm];exact hq,ED n C (some f) fa (ps.set y.1.toNat (some ⟨P.r,P.fp,l'⟩)),
  ⟨c,C,_,some f,fa,_,oZ,m2.J5 hP (P':=⟨P.r,P.fp,l'⟩) rfl o.mf (.inl rfl) o.ext hT,
   ⟨by rw[List.length_set];exact l.hl,fun h=>?_,?_,fun h Q hQ=>?_,fun h Q hQ=>?_,fun h Q hQ z=>?_,fun h Q hQ=>?_,?_⟩,fun z=>Iff.rfl⟩,?_,fun z hz=>?_⟩
 ·show w.hs[h]? =some true↔_
  rw[l.hs h]
  by_cases LK:h=y.1.toNat
  ·subst LK
   rw[List.getElem?_set_self dv]
   exact⟨fun _=>⟨_,rfl⟩,fun _=>⟨P,hP⟩⟩
  ·rw[List.getElem?_set_ne (Ne.symm LK)]
 ·rw[List.getElem?_set_ne (by omega)];exact l.h0
 ·rcases ja dv hQ with ⟨rfl,rfl⟩| ⟨h5,h6⟩
  ·exact kw
  ·exact(l.ok h Q h6).J3 fun z hz v hv=>(jr w x _ (aS h Q h5 h6 z hz) (aS h Q h5 h6 v hv)).symm
 ·rcases ja dv hQ with ⟨rfl,rfl⟩| ⟨h5,h6⟩
  ·exact o.ok
  ·exact(l.Ti h Q h6).Wp fun z hz z0=>o.off z z0 (l.apart h6 hP h5 hz)
 ·rcases ja dv hQ with ⟨rfl,rfl⟩| ⟨h5,h6⟩
  ·rw[Bp]
   show z∈l'↔_
   rw[o.mem z,cF z]
  ·exact LL h Q h6 z
 ·rw[ZV]
  rcases ja dv hQ with ⟨rfl,rfl⟩| ⟨h5,h6⟩
  ·rw[Bp]
   show(l'.length:Int)=_
   omega
  ·exact l.len h Q h6
 ·rw[o.LJ,l.LJ];exact(List.length_set ..).symm
 ·exact(f0.mono fun _ _ h=>h.elim).trans ((sA.mono fun z _ hz=>qH z (.inl hz)).trans (o.ext.mono fun z _ hz=>qH z hz))
 ·rcases hz with hz|rfl|hz|hz| ⟨j,Q,hQ,hz⟩
  ·exact .inl (qH z (.inl hz))
  ·exact .inl ((hS z).1 (.inr (.inl rfl)))
  ·exact .inl ((hS z).1 (.inr (.inr (.inl hz))))
  ·exact .inl (qH z (.inr (.inr hz)))
  ·rcases ja dv hQ with ⟨rfl,rfl⟩| ⟨h5,h6⟩
   ·rcases hz with rfl|hz
    ·exact .inl ((hS _).1 (.inr (.inr (.inr (.inr ⟨_,P,hP,.inl rfl⟩)))))
    ·exact .inl (qH z (.inr (.inl hz)))
   ·exact .inl ((hS z).1 (.inr (.inr (.inr (.inr ⟨j,Q,h6,hz⟩)))))
theorem D5{ov:Value}{I:Hp→Nat→Prop}{T:Nat→Prop}{lt:Int→Int→Bool}{D:Int→Prop}(ho:Nb ov I T lt D){H:Hp}{r:Nat}{S:Nat→Prop}{d:Int}{l:List Int}{pl:Int→Option Int}
  (h:dt H r S d l pl)(hd:∀x,S x→¬T x){n:Nat}(hI:I H n)(hf:cT d)(x:Int)(hl:l.length≤1000000)(hp:DO l pl)(hD:∀z∈l,D z:=by intros;trivial):
  ah Tryz.prog BI [ptr r,ov,i64 x] H fun v H'=>ax (
   (pl x=none∧v= .bool false∧H=H')∨
   (∃i,pl x=some i∧v= .bool true∧dt H' r S d (cS lt d x l pl i).1 (cS lt d x l pl i).2.1∧I H' (n+(cS lt d x l pl i).2.2)∧ai (fun z=>S z∨T z) H H')):=by
 obtain⟨⟨sv,fp,mb,a1,a2,a3,s1,s2,s3,s4⟩,h2⟩:=id h
 have key:jp true (Value.int .i64 0) ((pl x).map i64)= .tuple [i64 ((pl x).getD 0),.bool (pl x).isSome].toArray:=by cases pl x<;>rfl
 refine bc B1 ⟨rfl,?_⟩
 refine v4 li.eq_1 (ae a1) a3.look key ?_
 cases hx:pl x with
 |none=>
  simp(disch:=(first|omega| (simp only[Zs]<;>omega)|fail)) only[go_sem, ↓reduceIte,Zv,Option.isSome_none]
  exact .inl ⟨rfl,rfl,rfl⟩
 |some i=>
  obtain⟨i0,Wv⟩:=(hp x i).1 hx
  have tC:i.toNat<l.length:=(List.getElem?_eq_some_iff.1 Wv).1
  obtain⟨f,rfl⟩:∃f,fp=some f:=by
   cases fp with
   |none=>obtain⟨_,e,_⟩:=a2;omega
   |some f=>exact⟨f,rfl⟩
  have VJ:=a2
  obtain⟨_,l1,c,rfl,g2,a5,a6,a7⟩:=VJ
  have g3:∀ (i:Nat) (x:Int),l[i]? =some x→l1[i]? =some (i64 x):=fun i x h=>by
   have aR:=(List.getElem?_eq_some_iff.1 h).1
   have h1:(l.map i64)[i]? =some (i64 x):=by simp[h]
   rw[←a7,List.getElem?_take_of_lt (by omega)]at h1
   exact h1
  have nG:l[l.length - 1]? =some (l.getD (l.length - 1) 0):=by
   rw[List.getD_eq_getElem?_getD,List.getElem?_eq_getElem (by omega)];rfl
  have Ww:=g3 _ _ nG
  have e1:IntKind.i64.wrap ((l.length:Int) - 1)=((l.length - 1:Nat):Int):=by rw[wrap64 (by omega) (by omega)];omega
  simp(disch:=(first|omega| (simp only[Zs]<;>omega)|fail)) only[go_sem, ↓reduceIte,Zv,Option.isSome_some,Option.getD_some,ae a1,e1,Int.toNat_natCast]
  refine⟨by omega,?_⟩
  refine v5 (ae g2) (ae a1) Nat.mul_one Ww e1 ?_
  refine⟨by omega,?_⟩
  obtain⟨Lt,DN,TL⟩:=s4 f rfl
  have PG:Value.slice (if(c:Int)=((0:Nat):Int)then some (⟨f,0,none⟩:Addr)else Option.map (fun(x:Addr)=>x.add (((0:Nat):Int).toNat*1)) (some (⟨f,0,none⟩:Addr))) (((l.length - 1:Nat):Int).toNat - ((0:Nat):Int).toNat) ((c:Int).toNat - ((0:Nat):Int).toNat)= .slice (some ⟨f,0,none⟩) (l.length - 1) c:=by
   split<;>rfl
  refine v2 (ae a1) a1 ?_
  rw[PG]
  have ew:ai (fun z=>z=r) H (H.wr r [i64 d,.slice (some ⟨f,0,none⟩) (l.length - 1) c,.map (some mb)]):=(ai.refl (fun z=>z=r) _).wr (fun _=>rfl) _
  have b1:(H.wr r [i64 d,.slice (some ⟨f,0,none⟩) (l.length - 1) c,.map (some mb)]).own r=some [i64 d,.slice (some ⟨f,0,none⟩) (l.length - 1) c,.map (some mb)]:=aj a1
  have b3:=a3.ext ew (Ne.symm s3)
  refine v1 (ae b1) ?_
  refine b3.del fun H2 m2 e2=>?_
  rw[Ls]at m2
  have e02:ai S H H2:=(ew.mono fun z _ hz=>hz▸s1).trans (e2.mono fun z _ hz=>hz▸s2)
  have hr:dt H2 r S d l.dropLast (ur pl x):=by
   refine⟨⟨.slice (some ⟨f,0,none⟩) (l.length - 1) c,some f,mb,e2.own b1 s3,⟨by simp,l1,c,by rw[List.length_dropLast],(e2.own ((ew.own g2 DN)) TL),by rw[List.length_dropLast];omega,a6,?_⟩,m2,s1,s2,s3,s4⟩,
    fun z hz=>Nat.lt_of_lt_of_le (h2 z hz) e02.size⟩
   have hx7:((l.map i64).length)=l.length:=by simp
   rw[List.length_dropLast,List.map_dropLast,List.dropLast_eq_take,hx7,←a7,List.take_take]
   congr 1
   omega
  have QI:=ho.aN _ _ _ _ hI e02 (fun z hz hs=>hd z hs hz)
  refine vs ?_
  have pt:l.dropLast.length=l.length - 1:=List.length_dropLast
  refine am.dec (fun he=>?_) (fun he=>?_)<;>refine vs ?_
  ·refine .inr ⟨i,rfl,rfl,?_,?_,e02.mono fun z _ hz=>.inl hz⟩
   ·unfold cS;rw[if_pos he];exact hr
   ·unfold cS;rw[if_pos he];exact QI
  ·have RZ:l.getD (l.length - 1) 0∈l:=List.mem_of_getElem? nG
   have mX:i.toNat≠l.length - 1:=fun e=>by rw[e,nG]at Wv;injection Wv with Wv;exact he Wv
   refine(us ho hr hd QI i (l.getD (l.length - 1) 0) ⟨i0,by omega⟩ (by omega) (hD _ RZ) (fun z hz=>hD z ((List.dropLast_sublist _).subset hz))).mono ?_
   rintro _ H3 ⟨rfl,r3,i3,e3⟩
   have Ns:=(e02.mono fun z _ hz=>Or.inl hz).trans e3
   refine vs ?_
   refine am.dec (fun w8=>?_) (fun w8=>?_)<;>refine vs ?_
   ·have hul:=xR lt d (l.getD (l.length - 1) 0) i.toNat l.dropLast (ur pl x) i
    refine(Gs ho r3 hd i3 hf i (l.getD (l.length - 1) 0) ⟨i0,by omega⟩ (by omega) (hD _ RZ) (fun z hz=>by
     rcases TM lt d _ _ _ _ _ i0 (by omega) z hz with h|h
     ·rw[h];exact hD _ RZ
     ·exact hD z ((List.dropLast_sublist _).subset h))).mono ?_
    rintro _ H4 ⟨r4,i4,e4⟩
    refine vs ?_
    refine .inr ⟨i,rfl,rfl,?_,?_,Ns.trans e4⟩
    ·unfold cS;rw[if_neg he];simp only;rw[if_pos w8];exact r4
    ·unfold cS;rw[if_neg he];simp only;rw[if_pos w8,←Nat.add_assoc];exact i4
   ·refine .inr ⟨i,rfl,rfl,?_,?_,Ns⟩
    ·unfold cS;rw[if_neg he];simp only;rw[if_neg w8];exact r3
    ·unfold cS;rw[if_neg he];simp only;rw[if_neg w8];exact i3
end Go.Proofs.YtjlnnljohemifaaGreat
