/- Texts put behind each other. -/
import Derived.Test.YtjlnnljohemifaaGreatK98
import Derived.Test.YtjlnnljohemifaaGreatK9
import Derived.Test.YtjlnnljohemifaaGreatK17
import Derived.Test.YtjlnnljohemifaaGreatK19
import Derived.Test.YtjlnnljohemifaaGreatK20
set_option maxRecDepth 100000
set_option maxHeartbeats 8000000
set_option linter.unusedVariables false
set_option linter.unusedSimpArgs false
namespace Go.Proofs.YtjlnnljohemifaaGreat
open Go Go.Vc
abbrev gA(x:Int)(g:Nat):Value:=.agg #[i64 x,.int .u32 (g:Int)]
structure Ar where
 g:List (Nat×Bool)
 wt:List Int
 nx:Nat
 ct:Int
 mo:Nat
def dq(L:List (Nat×Bool)):List Value:=L.flatMap fun y=>[.int .u32 (y.1:Int),.bool y.2]
theorem qu(L:List (Nat×Bool)):(dq L).length=L.length*2:=by
 induction L with
 |nil=>rfl
 |cons c r ih=>simp only[dq,apV,aor,aoD,apl]at*;omega
theorem uM{L:List (Nat×Bool)}{i:Nat}{y:Nat×Bool}(hi:L[i]? =some y):(dq L)[i*2]? =some (.int .u32 (y.1:Int))∧(dq L)[i*2+1]? =some (.bool y.2):=by
 induction L generalizing i with
 |nil=>simp at hi
 |cons a r ih=>
  have e:dq (a::r)= .int .u32 (a.1:Int):: .bool a.2::dq r:=rfl
  rw[e]
  cases i with
  |zero=>simp at hi;subst hi;exact⟨rfl,rfl⟩
  |succ i=>
   have:=ih (by simpa using hi)
   rw[show(i+1)*2=i*2+2 by omega]
   exact this
theorem CS{L:List (Nat×Bool)}{i:Nat}{y:Nat×Bool}(hi:L[i]? =some y):(∀v:Nat,(dq L).set (i*2) (.int .u32 (v:Int))=dq (L.set i (v,y.2)))∧(∀b,(dq L).set (i*2+1) (.bool b)=dq (L.set i (y.1,b))):=by
 induction L generalizing i with
 |nil=>simp at hi
 |cons a r ih=>
  have e:dq (a::r)= .int .u32 (a.1:Int):: .bool a.2::dq r:=rfl
  cases i with
  |zero=>simp at hi;subst hi;exact⟨fun _=>rfl,fun _=>rfl⟩
  |succ i=>
   obtain⟨h1,h2⟩:=ih (by simpa using hi)
   refine⟨fun v=>?_,fun b=>?_⟩
   ·have e2:dq ((a::r).set (i+1) (v,y.2))= .int .u32 (a.1:Int):: .bool a.2::dq (r.set i (v,y.2)):=rfl
    rw[e,e2,show(i+1)*2=i*2+1+1 by omega]
    simp only[ao1]
    rw[h1]
   ·have e2:dq ((a::r).set (i+1) (y.1,b))= .int .u32 (a.1:Int):: .bool a.2::dq (r.set i (y.1,b)):=rfl
    rw[e,e2,show(i+1)*2+1=i*2+1+1+1 by omega]
    simp only[ao1]
    rw[h2]
def Ar.bC(A:Ar)(x:Int):Nat:=(A.g.getD x.toNat (0,false)).1
def Ar.live(A:Ar)(x:Int):Prop:=0≤x∧(A.g[x.toNat]?).map (·.2)=some true
instance(A:Ar)(x:Int):Decidable (A.live x):=by unfold Ar.live;exact inferInstance
def Ar.pick(A:Ar):Option (Int×Ar):=
 if A.wt≠[]then some (A.wt.getLastD 0,{A with wt:=A.wt.dropLast})else if A.nx=A.g.length then none else some ((A.nx:Int),{A with nx:=A.nx+1})
def Ar.out(A:Ar)(x:Int):Ar:={A with g:=A.g.set x.toNat (A.bC x+1,true),ct:=A.ct+1}
def Ar.back(A:Ar)(x:Int):Ar:={A with g:=A.g.set x.toNat (A.bC x,false),ct:=A.ct - 1,wt:=if A.bC x<A.mo then A.wt++[x]else A.wt}
def Ar.aS(A:Ar):Nat:=A.g.countP (·.2)
theorem count_set{L:List (Nat×Bool)}{i:Nat}{y:Nat×Bool}(h:L[i]? =some y)(v:Nat)(b:Bool):(L.set i (v,b)).countP (·.2)+y.2.toNat=L.countP (·.2)+b.toNat:=by
 induction L generalizing i with
 |nil=>simp at h
 |cons a r ih=>
  cases i with
  |zero=>
   simp at h
   subst h
   rw[apH,apu,apu]
   cases a.2<;>cases b<;>simp
  |succ i=>
   have:=ih (i:=i) (by simpa using h)
   rw[ao1,apu,apu]
   omega
structure xw(A:Ar):Prop where
 wl:∀x∈A.wt,¬A.live x∧x<A.nx∧0≤x
 wd:A.wt.Nodup
 fr:∀x:Int,A.nx≤x→¬A.live x
 ct:A.ct=A.aS
 nx:A.nx≤A.g.length
structure T6 where
 a:Nat
 sb:Nat
 fo:Option Nat
def T6.S(B:T6)(z:Nat):Prop:=z=B.a∨z=B.sb∨B.fo=some z
structure JE(H:Hp)(B:T6)(A:Ar):Prop where
 own:∃tv,H.own B.a=some [.slice (some ⟨B.sb,0,none⟩) A.g.length A.g.length,tv,i64 A.nx,i64 A.ct,.int .u32 (A.mo:Int)]∧Sl H 1 tv A.wt.length (A.wt.map i64) B.fo
 sl:H.own B.sb=some (dq A.g)
 ne:B.a≠B.sb∧B.fo≠some B.a∧B.fo≠some B.sb
 len:A.g.length≤65536
 ok:xw A
 gs:∀y∈A.g,y.1≤4294967295
 mo:A.mo≤4294967295
section
variable {H H' : Hp} {B : T6} {A : Ar} {T : Nat → Prop}
theorem JE.slt(m:JE H B A):∀z,B.S z→z<H.size:=by
 obtain⟨tv,h1,h2⟩:=m.own
 rintro z (rfl|rfl|h)
 ·exact aB h1
 ·exact aB m.sl
 ·rw[h]at h2;exact Sl.lt h2
theorem JE.ext(m:JE H B A)(e:ag T H H')(hd:∀z,B.S z→¬T z):JE H' B A:=by
 obtain⟨tv,h1,h2⟩:=m.own
 exact⟨⟨tv,e.own h1 (hd _ (.inl rfl)),h2.ext e (fun b hb=>hd b (.inr (.inr hb)))⟩,e.own m.sl (hd _ (.inr (.inl rfl))),m.ne,m.len,m.ok,m.gs,m.mo⟩
theorem Ar.get{A:Ar}{x:Int}(hx:0≤x∧x<A.g.length):∃b,A.g[x.toNat]? =some (A.bC x,b)∧(A.live x↔b=true):=by
 obtain⟨y,hy⟩:∃y,A.g[x.toNat]? =some y:=⟨_,aoh (by omega)⟩
 refine⟨y.2,?_,?_⟩
 ·unfold Ar.bC
  rw[aom,hy];rfl
 ·unfold Ar.live
  rw[hy]
  simp[hx.1]
theorem Ar.Bj{A:Ar}{x:Int}(h:A.live x):0≤x∧x<A.g.length:=by
 obtain⟨h0,h1⟩:=h
 cases hy:A.g[x.toNat]? with
 |none=>rw[hy]at h1;cases h1
 |some y=>
  have:=(aoj.1 hy).1
  omega
theorem JE.wtl(m:JE H B A):A.wt.length≤65536∧∀x∈A.wt,0≤x∧x<A.g.length:=by
 have h1:∀x∈A.wt,0≤x∧x<A.g.length:=fun x hx=>by
  have:=m.ok.wl x hx
  have:=m.ok.nx
  omega
 exact⟨apb (bZ m.ok.wd h1) m.len,h1⟩
theorem Np(k:Nat):cE [Value.int .u32 0,Value.bool false] k=dq (List.replicate k (0,false)):=by
 unfold cE dq
 induction k with
 |zero=>rfl
 |succ k ih=>rw[aoY,aoY,apc,apV,ih];rfl
theorem FP(H:Hp){n:Int}{mo:Nat}(hn:0≤n∧n≤65536)(hm:0<mo∧mo≤4294967295):af Tryz.prog KO [i64 n,.int .u32 (mo:Int)] H fun v H'=>aw (∃B,v= .tuple [ptr B.a,i64 0].toArray∧JE H' B ⟨List.replicate n.toNat (0,false),[],0,0,mo⟩∧ah H H'∧∀z,B.S z→H.size≤z):=by
 refine bv KW ?_
 refine vs ?_
 refine am.dec (fun g=>absurd g (by omega)) (fun _=>?_)
 refine vs ?_
 refine am.dec (fun g=>absurd g (by omega)) (fun _=>?_)
 refine vs ?_
 refine am.dec (fun g=>absurd g (by omega)) (fun _=>?_)
 refine vs ?_
 refine⟨⟨by omega,by omega,by omega,by omega⟩,?_⟩
 refine vs ?_
 rw[Np]
 refine⟨⟨H.size+1,H.size,none⟩,rfl,⟨⟨.slice none 0 0,?_,Sl.nil _ _⟩,?_,⟨by simp only;omega,by simp,by simp⟩,by rw[ao3];omega,⟨by simp,aps,fun x _ hx=>?_,by simp[Ar.aS,List.countP_replicate],ap2 _⟩,fun y hy=>by rw[(List.mem_replicate.1 hy).2];simp,hm.2⟩,((ag.refl _ _).new _ _).new _ _,fun z hz=>?_⟩
 ·rw[ao3]
  exact aU (by simp only[ap])
 rotate_left
 ·obtain⟨h0,h1⟩:=hx
  simp only[apC]at h1
  split at h1<;>simp at h1
 rotate_left
 ·simp only
  rw[cu (by simp only[ap];omega),az]
 ·rcases hz with h|h|h
  ·simp only at h;omega
  ·simp only at h;omega
  ·cases h
theorem sU(m:JE H B A)(x:Int)(g:Nat):af Tryz.prog yI [ptr B.a,gA x g] H fun v H'=>aw (v= .bool (decide (A.live x∧A.bC x=g))∧ah H H'):=by
 obtain⟨tv,o1,_⟩:=m.own
 refine Fa zb ⟨rfl,?_⟩
 refine v1 nk.eq_1 ?_
 have f0:ah H (H.new 114 [i64 x,.int .u32 (g:Int)]):=(ag.refl _ _).new _ _
 have b0:(H.new 114 [i64 x,.int .u32 (g:Int)]).own H.size=some [i64 x,.int .u32 (g:Int)]:=az _ _ _
 have m0:=m.ext f0 (fun _ _ h=>h)
 generalize H.new 114 [i64 x,.int .u32 (g:Int)]=H0 at*
 obtain⟨tv0,o0,_⟩:=m0.own
 refine am.dec (fun h0=>?_) (fun h0=>?_)<;>refine v2 (ae b0) (ae o0) ?_
 rotate_left
 ·rw[aoJ (fun h=>h0 h.1.1)]
  exact⟨rfl,f0⟩
 refine am.dec (fun h1=>?_) (fun h1=>?_)<;>refine v2 (ae b0) (ae o0) ?_
 rotate_left
 ·rw[aoJ (fun h=>h1 (Ar.Bj h.1).2)]
  exact⟨rfl,f0⟩
 obtain⟨b,hb,jT⟩:=Ar.get (A:=A) (x:=x) ⟨h0,h1⟩
 obtain⟨c1,c2⟩:=uM hb
 have hl:=qu A.g
 refine⟨⟨by omega,by omega⟩,?_⟩
 refine v2 (ae m0.sl) aoi ?_
 have hdt:((dq A.g).drop (x.toNat*2)).take 2=[.int .u32 (A.bC x:Int),.bool b]:=by
  apply ao8
  intro k
  match k with
  |0=>rw[aoO (by omega),aoW,Nat.add_zero];exact c1
  |1=>rw[aoO (by omega),aoW];exact c2
  |k+2=>rw[aoz (by simp;omega)];rfl
 rw[hdt]
 refine⟨by omega,?_⟩
 refine v1 (ae b0) ?_
 have heq:xx [(0,none,Shape.int),(1,none,Shape.bool)] [Value.int IntKind.u32 (A.bC x:Int),Value.bool b] [Value.int IntKind.u32 (g:Int),Value.bool true]=some (decide (A.bC x=g) && b):=by
  by_cases hg:A.bC x=g
  ·cases b<;>simp[xx,nZ,bj,hg,ee]
  ·have:¬ (A.bC x:Int)=(g:Int):=by omega
   cases b<;>simp[xx,nZ,bj,hg,ee,this]
 rw[heq]
 simp(disch:=(first|omega| (simp only[Zs]<;>omega)|fail)) only[go_sem, ↓reduceIte,Zv,Option.map_some]
 refine⟨aoE Value.bool ?_,f0⟩
 by_cases hg:A.bC x=g
 ·rw[aow hg,apz]
  cases oR:b
  ·exact(aoJ (fun h=>by have:=jT.1 h.1;rw[oR]at this;cases this)).symm
  ·exact(aow ⟨jT.2 oR,hg⟩).symm
 ·rw[aoJ hg,aoJ (fun h=>hg h.2)]
  rfl
theorem HQ(m:JE H B A){x:Int}(hx:A.live x):af Tryz.prog Cd [ptr B.a,i64 x] H fun v H'=>aw (v= .tuple [gA x (A.bC x),.bool true].toArray∧ah H H'):=by
 obtain⟨tv,o1,_⟩:=m.own
 have uN:=Ar.Bj hx
 obtain⟨b,hb,jT⟩:=Ar.get (A:=A) (x:=x) uN
 obtain rfl:=jT.1 hx
 obtain⟨c1,c2⟩:=uM hb
 have hl:=qu A.g
 refine bv Cq ?_
 refine vs ?_
 have f0:ah H (H.new 114 [Value.int .i64 0,Value.int .u32 0]):=(ag.refl _ _).new _ _
 have b0:(H.new 114 [Value.int .i64 0,Value.int .u32 0]).own H.size=some [Value.int .i64 0,Value.int .u32 0]:=az _ _ _
 have m0:=m.ext f0 (fun _ _ h=>h)
 have z0:(H.new 114 [Value.int .i64 0,Value.int .u32 0]).size=H.size+1:=ap _ _ _
 generalize H.new 114 [Value.int .i64 0,Value.int .u32 0]=H0 at*
 obtain⟨tv0,o0,_⟩:=m0.own
 refine am.dec (fun h=>absurd h (by omega)) (fun _=>?_)
 refine v1 (ae o0) ?_
 refine am.dec (fun h=>absurd h (by omega)) (fun _=>?_)
 refine v1 (ae o0) ?_
 refine⟨⟨by omega,by omega⟩,?_⟩
 refine v4 (ae m0.sl) aoi c2 (ae o0) ?_
 refine⟨⟨by omega,by omega⟩,?_⟩
 refine v5 (ae m0.sl) aoi Nat.add_zero c1 b0 ?_
 have e1:ag (fun z=>z=H.size) H0 (H0.wr H.size [Value.int .i64 x,Value.int .u32 (A.bC x:Int)]):=(ag.refl (fun z=>z=H.size) _).wr (fun _=>rfl) _
 have b1:(H0.wr H.size [Value.int .i64 x,Value.int .u32 (A.bC x:Int)]).own H.size=some [Value.int .i64 x,Value.int .u32 (A.bC x:Int)]:=ai b0
 refine v1 (ae b1) ?_
 exact⟨rfl,f0.then e1 (fun z hz=>by omega)⟩
end
end Go.Proofs.YtjlnnljohemifaaGreat

namespace Go.Proofs.YtjlnnljohemifaaGreat
open Go Go.Vc
structure Ed where
 f:Int
 t:Int
 w:Int
 deriving DecidableEq
structure fj(n:Int)(es:List Ed):Prop where
 n0:0≤n
 n1:n≤4096
 len:es.length≤65536
 ends:∀e∈es,0≤e.f∧e.f<n∧0≤e.t∧e.t<n
def eE(e:Ed):List Value:=[i64 e.f,i64 e.t,i64 e.w]
def dX(es:List Ed):List Value:=es.flatMap eE
theorem rY(e:Ed)(es:List Ed):dX (e::es)=eE e++dX es:=rfl
theorem PU(es:List Ed):(dX es).length=es.length*3:=by
 induction es with
 |nil=>rfl
 |cons r rs ih=>rw[rY,aor,ih,aoD];show 3+_=_;omega
theorem RO:∀ (rs:List Ed) (i:Nat) (r:Ed),rs[i]? =some r→((dX rs).drop (i*3)).take 3=eE r:=by
 intro rs
 induction rs with
 |nil=>intro i r h;simp at h
 |cons x rs ih=>
  intro i r h
  cases i with
  |zero=>
   simp only[aoM,aos]at h
   subst h
   rw[rY,ao0,aqe]
   exact List.take_left' rfl
  |succ i=>
   rw[rY,show(i+1)*3=3+i*3 by omega,←aqd,List.drop_left' (by rfl)]
   exact ih i r (by simpa using h)
theorem cO.DP{H:Hp}{a:Option Addr}{n c:Nat}{rs:List Ed}(h:cO H 3 (.slice a n c) n (dX rs)){i:Nat}{r:Ed}(hx:rs[i]? =some r):
  i<n∧∃b o lb,a=some ⟨b,o,none⟩∧H.rd b=some lb∧o+i*3+3≤lb.length∧(lb.drop (o+i*3)).take 3=eE r:=by
 obtain⟨hl,hv⟩:=h
 rw[PU]at hl
 have hi:i<rs.length:=by
  rcases apA i rs.length with h|h
  ·exact h
  ·rw[aoz h]at hx;cases hx
 refine⟨by omega,?_⟩
 rcases hv with ⟨hn,_⟩| ⟨b,o,c2,l,hs,eW,nT,ht⟩
 ·omega
 ·injection hs with eK Kk GR
  refine⟨b,o,l,eK,eW,by omega,?_⟩
  have h7:=RO rs i r hx
  rw[←ht,List.drop_take,aqk,aqd,apE (by omega)]at h7
  exact h7
theorem cJ{H:Hp}{v:Value}{size n:Nat}{xs:List Value}{fp:Option Nat}(h:Sl H size v n xs fp):∃a c,v= .slice a n c∧n≤c:=by
 obtain⟨_,h⟩:=h
 cases fp with
 |none=>obtain⟨rfl,rfl⟩:=h;exact⟨_,_,rfl,aov _⟩
 |some b=>obtain⟨l,c,rfl,_,hc,_⟩:=h;exact⟨_,_,rfl,hc⟩
theorem cO.num{H:Hp}{a:Option Addr}{n c:Nat}{xs:List Int}(h:cO H 1 (.slice a n c) n (xs.map i64)){i:Nat}{x:Int}(hx:xs[i]? =some x):
  i<n∧∃b o lb,a=some ⟨b,o,none⟩∧H.rd b=some lb∧lb[o+i]? =some (i64 x):=by
 obtain⟨hl,hv⟩:=h
 rw[aoF,aol]at hl
 have hi:=(aoj.1 hx).1
 refine⟨by omega,?_⟩
 rcases hv with ⟨hn,_⟩| ⟨b,o,c2,l,hs,eW,nT,ht⟩
 ·omega
 ·injection hs with eK Kk GR
  refine⟨b,o,l,eK,eW,?_⟩
  have h7:(xs.map i64)[i]? =some (i64 x):=by rw[aoG,hx];rfl
  rw[←ht,aoV,if_pos (by omega),aoW]at h7
  exact h7
theorem cO.oV{H:Hp}{a:Option Addr}{n c:Nat}{rs:List Ed}(h:cO H 3 (.slice a n c) n (dX rs)){i:Nat}{r:Ed}(hx:rs[i]? =some r):
  i<n∧∃b o lb,a=some ⟨b,o,none⟩∧H.rd b=some lb∧o+i*3+3≤lb.length∧(lb.drop (o+i*3)).take 3=eE r∧lb[o+i*3]? =some (i64 r.f)∧lb[o+i*3+1]? =some (i64 r.t)∧lb[o+i*3+2]? =some (i64 r.w):=by
 obtain⟨h1,b,o,lb,h2,h3,h4,h5⟩:=cO.DP h hx
 have key:∀k v,(eE r)[k]? =some v→lb[o+i*3+k]? =some v:=fun k v hv=>by
  rw[←h5,aoV]at hv
  split at hv
  ·rw[aoW]at hv;exact hv
  ·cases hv
 exact⟨h1,b,o,lb,h2,h3,h4,h5,by simpa using key 0 _ rfl,key 1 _ rfl,key 2 _ rfl⟩
theorem fD{H:Hp}{a:Option Addr}{c:Nat}{xs:List Int}(h:cO H 1 (.slice a xs.length c) xs.length (xs.map i64))(x:Int)(hm:xs.length≤1000000000):
  af Tryz.prog qW [.slice a xs.length c,i64 x] H fun v H'=>aw ((∃i:Int,v=i64 i∧((i= -1∧x∉xs)∨(0≤i∧xs[i.toNat]? =some x)))∧H'=H):=by
 refine bv rE ?_
 refine vs ?_
 refine aX.intro (fun m env H'=>H'=H∧∃j:Nat,m=xs.length - j∧j≤xs.length∧(∀e∈xs.take j,x≠e)∧env=[(0,.slice a xs.length c),(1,i64 x),(7,i64 xs.length),(8,i64 j)]) xs.length ⟨rfl,0,by omega,by omega,by simp,rfl⟩ ?_
 rintro m env H1 ⟨e1,j,T7,hj,cX,rfl⟩
 obtain rfl:=e1.symm
 refine vs ?_
 refine am.dec (fun aO=>?_) (fun aO=>?_)<;>refine vs ?_
 ·have fS:j<xs.length:=by omega
  obtain⟨e,he⟩:∃e,xs[j]? =some e:=⟨_,aoh fS⟩
  obtain⟨_,b,o,lb,rfl,Bl,bX⟩:=cO.num h he
  refine⟨⟨by omega,by omega⟩,?_⟩
  refine v4 Bl Int.toNat_natCast aol bX ?_
  refine am.dec (fun hx=>?_) (fun hx=>?_)<;>refine vs ?_
  ·exact⟨⟨j,rfl,.inr ⟨by omega,by rw[Int.toNat_natCast,he,hx]⟩⟩,rfl⟩
  ·rw[wrap64 (n:=(j:Int)+1) (by omega) (by omega)]
   refine⟨xs.length - (j+1),by omega,trivial,j+1,rfl,by omega,?_,rfl⟩
   intro e' iG
   rw[aoT,he]at iG
   rcases aou.1 iG with iG|iG
   ·exact cX e' iG
   ·have:e'=e:=by simpa using iG
    rw[this];exact hx
 ·have fS:j=xs.length:=by omega
  subst fS
  rw[aoP]at cX
  exact⟨⟨-1,rfl,.inl ⟨rfl,fun hm=>cX x hm rfl⟩⟩,rfl⟩
theorem uO{H:Hp}{a:Option Addr}{c:Nat}{xs:List Int}(h:cO H 1 (.slice a xs.length c) xs.length (xs.map i64))(x:Int)(hm:xs.length≤1000000000):
  af Tryz.prog nV [.slice a xs.length c,i64 x] H fun v H'=>aw (v= .bool (decide (x∈xs))∧H'=H):=by
 refine bv nX ?_
 refine vs ?_
 refine(fD h x hm).mono ?_
 rintro _ H1 ⟨⟨i,rfl,hi⟩,e⟩
 obtain rfl:=e.symm
 refine vs ?_
 refine⟨aoE Value.bool ?_,rfl⟩
 rcases hi with ⟨rfl,h1⟩| ⟨h0,h1⟩
 ·rw[aoJ h1];rfl
 ·rw[aow (aon h1)]
  exact aow (by omega)
theorem El{H:Hp}{a:Option Addr}{c:Nat}{xs:List Int}(f:FuncId)(qv:List Value)(q:Int→Bool)(h:cO H 1 (.slice a xs.length c) xs.length (xs.map i64))(Em:eF Tryz.prog f=true)
  (hf:∀x,af Tryz.prog f (i64 x::qv) H fun v GQ=>aw (v= .bool (q x)∧GQ=H))(hm:xs.length≤1000000000):
  af Tryz.prog fK [.slice a xs.length c,.func (.func f) #[] qv.toArray] H fun v H'=>aw ((∃i:Int,v=i64 i∧((i= -1∧∀x∈xs,q x=false)∨(0≤i∧(∀x∈xs.take i.toNat,q x=false)∧∃x,xs[i.toNat]? =some x∧q x=true)))∧H'=H):=by
 refine bv fN ?_
 refine vs ?_
 refine aX.intro (fun m env H'=>H'=H∧∃j:Nat,m=xs.length - j∧j≤xs.length∧(∀e∈xs.take j,q e=false)∧env=[(0,.slice a xs.length c),(1,.func (.func f) #[] qv.toArray),(7,i64 xs.length),(8,i64 j)]) xs.length ⟨rfl,0,by omega,by omega,by simp,rfl⟩ ?_
 rintro m env H1 ⟨e1,j,T7,hj,cX,rfl⟩
 obtain rfl:=e1.symm
 refine vs ?_
 refine am.dec (fun aO=>?_) (fun aO=>?_)<;>refine vs ?_
 ·have fS:j<xs.length:=by omega
  obtain⟨e,he⟩:∃e,xs[j]? =some e:=⟨_,aoh fS⟩
  obtain⟨_,b,o,lb,rfl,Bl,bX⟩:=cO.num h he
  refine⟨⟨by omega,by omega⟩,?_⟩
  refine v4 Bl Int.toNat_natCast aol bX ?_
  refine⟨Em,?_⟩
  refine af.mono (by simpa using hf e) ?_
  rintro _ H2 ⟨rfl,e2⟩
  obtain rfl:=e2.symm
  refine vs ?_
  cases hx:q e
  ·refine vs ?_
   rw[wrap64 (n:=(j:Int)+1) (by omega) (by omega)]
   refine⟨xs.length - (j+1),by omega,trivial,j+1,rfl,by omega,?_,rfl⟩
   intro e' iG
   rw[aoT,he]at iG
   rcases aou.1 iG with iG|iG
   ·exact cX e' iG
   ·have:e'=e:=by simpa using iG
    rw[this];exact hx
  ·refine vs ?_
   exact⟨⟨j,rfl,.inr ⟨by omega,by rw[Int.toNat_natCast];exact cX,e,by rw[Int.toNat_natCast];exact he,hx⟩⟩,rfl⟩
 ·have fS:j=xs.length:=by omega
  subst fS
  rw[aoP]at cX
  exact⟨⟨-1,rfl,.inl ⟨rfl,cX⟩⟩,rfl⟩
theorem Lw(k:Nat):cE [Value.int .i64 0] k=(List.replicate k (0:Int)).map i64:=by
 unfold cE
 induction k with
 |zero=>rfl
 |succ k ih=>rw[aoY,aoY,apc,ao6,ih];rfl
theorem FQ(l new:List Value)(i:Nat)(h:i+new.length≤l.length):(bk l i new).take i=l.take i:=by
 apply ao8
 intro k
 by_cases hk:k<i
 ·rw[aoO hk,aoO hk,getElem?_splice new l i k h,if_neg (by omega)]
 ·rw[aoz (by simp;omega),aoz (by simp;omega)]
theorem CT{H:Hp}{v:Value}{xs:List Int}{fp:Option Nat}(s:Sl H 1 v xs.length (xs.map i64) fp)(f:FuncId)(qv:List Value)(q:Int→Bool)(Em:eF Tryz.prog f=true)
  (hf:∀H',ag (fun z=>fp=some z) H H'→∀x,af Tryz.prog f (i64 x::qv) H' fun v GQ=>aw (v= .bool (q x)∧GQ=H'))(hm:xs.length≤1000000000):
  af Tryz.prog mB [v,.func (.func f) #[] qv.toArray] H fun v' H'=>aw (Sl H' 1 v' (xs.filter fun x=> !q x).length ((xs.filter fun x=> !q x).map i64) fp∧ag (fun z=>fp=some z) H H'):=by
 obtain⟨a,c,rfl⟩:=Sl.shape s
 refine bv mD ?_
 refine vs ?_
 refine(El f qv q s.rd Em (hf H (ag.refl _ _)) hm).mono ?_
 rintro _ H1 ⟨⟨i0,rfl,FG⟩,e⟩
 obtain rfl:=e.symm
 refine vs ?_
 rcases FG with ⟨rfl,cX⟩| ⟨h0,cX,x0,gf,Vv⟩
 ·refine am.cQ (by simp) ?_
  refine vs ?_
  have:xs.filter (fun x=> !q x)=xs:=by
   rw[apL]
   intro x hx
   rw[cX x hx];rfl
  rw[this]
  exact⟨s,ag.refl _ _⟩
 obtain⟨i,rfl⟩:∃i:Nat,i0=(i:Int):=⟨i0.toNat,by omega⟩
 rw[Int.toNat_natCast]at cX gf
 have hi:=(aoj.1 gf).1
 refine am.dec (fun h=>by omega) (fun _=>?_)
 refine vs ?_
 obtain⟨_,b,lb0,rfl,_,_⟩:=Sl.zB s gf
 have fZ:fp=some b:=by
  cases fp with
  |none=>have:=s.2.2;injection this with h1;cases h1
  |some b'=>obtain⟨_,_,h1,_⟩:=s.2;injection h1 with h1;injection h1 with h1;injection h1 with h1;rw[h1]
 subst fZ
 have f0:(xs.take (i+1)).filter (fun x=> !q x)=xs.take i:=by
  rw[aoT,gf,aqh]
  have h1:(xs.take i).filter (fun x=> !q x)=xs.take i:=by
   rw[apL]
   intro x hx
   rw[cX x hx];rfl
  rw[h1]
  simp[Vv]
 rw[wrap64 (by omega) (by omega)]
 refine aX.intro (fun m env H'=>∃ (i j:Nat) (ys:List Int),m=xs.length - j∧j≤xs.length∧i<j∧i=((xs.take j).filter fun x=> !q x).length∧ys.length=xs.length∧ys.take i=(xs.take j).filter (fun x=> !q x)∧ys.drop j=xs.drop j∧
  Sl H' 1 (.slice (some ⟨b,0,none⟩) xs.length c) xs.length (ys.map i64) (some b)∧ag (fun z=>some b=some z) H H'∧env=[(0,.slice (some ⟨b,0,none⟩) xs.length c),(1,.func (.func f) #[] qv.toArray),(5,i64 i),(6,i64 j)]) _
  ⟨i,i+1,xs,rfl,by omega,by omega,by rw[f0,aoX];omega,rfl,f0.symm,rfl,s,ag.refl _ _,rfl⟩ ?_
 clear cX gf Vv f0 hi h0
 rintro m env H2 ⟨i,j,ys,rfl,hj,Km,qi,Za,hyt,hyd,s2,e2,rfl⟩
 obtain⟨_,lb,c2,eK,q2,GR,WN,PV⟩:=id s2
 injection eK with _ _ eK
 subst eK
 rw[aol]at WN PV
 refine vs ?_
 refine am.dec (fun aO=>?_) (fun aO=>?_)<;>refine vs ?_
 ·have fS:j<xs.length:=by omega
  obtain⟨x,hx⟩:∃x,xs[j]? =some x:=⟨_,aoh fS⟩
  have mN:ys[j]? =some x:=by
   have h1:(ys.drop j)[0]? =(xs.drop j)[0]? :=by rw[hyd]
   rwa[aoW,aoW,Nat.add_zero,hx]at h1
  have bX:lb[j]? =some (i64 x):=s2.get q2 (by rw[aoG,mN];rfl)
  have tk:xs.take (j+1)=xs.take j++[x]:=by rw[aoT,hx];rfl
  have dj:∀zs:List Int,zs.length=xs.length→(∀k,j<k→zs[k]? =ys[k]?)→zs.drop (j+1)=xs.drop (j+1):=fun zs hz hk=>by
   apply ao8
   intro k
   have h1:(ys.drop j)[k+1]? =(xs.drop j)[k+1]? :=by rw[hyd]
   rw[aoW,aoW]at h1 ⊢
   rw[hk _ (by omega),show j+1+k=j+(k+1) by omega]
   exact h1
  refine⟨⟨by omega,by omega⟩,?_⟩
  refine v5 (ae q2) aoi aol Int.toNat_natCast bX ?_
  refine⟨Em,?_⟩
  refine af.mono (by simpa using hf H2 e2 x) ?_
  rintro _ H3 ⟨rfl,e⟩
  obtain rfl:=e.symm
  refine vs ?_
  cases hq:q x
  ·refine vs ?_
   refine⟨⟨by omega,by omega⟩,?_⟩
   refine v4 q2 aoi aol Int.toNat_natCast ?_
   refine⟨by omega,?_⟩
   have s3:=s2.uC q2 i (i64 x)
   have e3:ag (fun z=>some b=some z) H2 (H2.wr b (lb.set i (i64 x))):=(ag.refl (fun z=>some b=some z) _).wr (fun _=>rfl) _
   refine vs ?_
   rw[wrap64 (n:=(i:Int)+1) (by omega) (by omega),wrap64 (n:=(j:Int)+1) (by omega) (by omega)]
   have ff:(xs.take (j+1)).filter (fun x=> !q x)=(xs.take j).filter (fun x=> !q x)++[x]:=by
    rw[tk,aqh]
    simp[hq]
   refine⟨xs.length - (j+1),by omega,i+1,j+1,ys.set i x,rfl,by omega,by omega,by rw[ff,aor,←qi];rfl,by rw[aok];exact Za,?_,dj _ (by rw[aok];exact Za) (fun k hk=>by rw[aoo (by omega)]),?_,e2.trans e3,rfl⟩
   ·rw[ff,←hyt,aoT,aop (by omega),List.take_set_of_le (by omega)]
    rfl
   ·rw[ao4];exact s3
  ·refine vs ?_
   rw[wrap64 (n:=(j:Int)+1) (by omega) (by omega)]
   have ff:(xs.take (j+1)).filter (fun x=> !q x)=(xs.take j).filter (fun x=> !q x):=by
    rw[tk,aqh]
    simp[hq]
   exact⟨xs.length - (j+1),by omega,i,j+1,ys,rfl,by omega,by omega,by rw[ff];exact qi,Za,by rw[ff];exact hyt,dj ys Za (fun k _=>rfl),s2,e2,rfl⟩
 ·obtain rfl:j=xs.length:=by omega
  rw[aoP]at hyt qi
  refine⟨⟨by omega,by omega,by omega,by omega⟩,?_⟩
  refine vs ?_
  have hic:¬ (c:Int)=(i:Int):=by omega
  have hlz:(cE [Value.int .i64 0] (xs.length - i)).length=xs.length - i:=by rw[Lw];simp
  rw[if_neg hic]
  refine .inr ⟨by simp only[Int.toNat_natCast];omega,b,i,lb,?_,by rw[q2];rfl,?_,?_,?_⟩
  ·simp[Addr.add]
   exact fun h=>h.symm
  ·rw[Int.toNat_natCast,Int.toNat_natCast,Lw]
   exact rR _
  ·rw[Int.toNat_natCast,Int.toNat_natCast]
   show i+(xs.length - i)*1≤lb.length
   omega
  ·rw[Int.toNat_natCast,Int.toNat_natCast]
   have e3:ag (fun z=>some b=some z) H2 (H2.wr b (bk lb i (cE [Value.int .i64 0] (xs.length - i)))):=(ag.refl (fun z=>some b=some z) _).wr (fun _=>rfl) _
   have q3:(H2.wr b (bk lb i (cE [Value.int .i64 0] (xs.length - i)))).own b=some (bk lb i (cE [Value.int .i64 0] (xs.length - i))):=ai q2
   refine vs ?_
   refine⟨⟨by omega,by omega,by omega,by omega⟩,?_⟩
   have kE:¬ (c:Int)=((0:Nat):Int):=by omega
   refine vs ?_
   rw[if_neg kE]
   rw[←hyt]
   refine⟨⟨by simp,bk lb i (cE [Value.int .i64 0] (xs.length - i)),c,?_,q3,?_,?_,?_⟩,e2.trans e3⟩
   ·have h1:(ys.take i).length=i:=by rw[aoX];omega
    rw[h1]
    simp[KJ,Addr.add]
   ·rw[aoX];omega
   ·rw[kw];omega
   ·rw[aol,aoX,apE (by omega),FQ _ _ _ (by rw[hlz];omega),List.map_take,←PV,aqk,apE (by omega)]
section
variable {H H' : Hp} {B : T6} {A A' : Ar} {T : Nat → Prop} {x : Int}
theorem Ar.vH{A A':Ar}{x:Int}(h:A.pick=some (x,A'))(ok:xw A):(0≤x∧x<A.g.length)∧¬A.live x∧x∉A'.wt∧x<A'.nx∧A'.g=A.g∧A'.ct=A.ct∧A'.mo=A.mo:=by
 have Ko:=ok.nx
 unfold Ar.pick at h
 split at h
 ·rename_i aP
  injection h with h
  injection h with h1 h2
  subst h1 h2
  have hw:A.wt=A.wt.dropLast++[A.wt.getLastD 0]:=by
   conv=>lhs;rw[←List.dropLast_concat_getLast aP]
   rw[apQ,List.getLast?_eq_some_getLast aP]
   rfl
  have hm:A.wt.getLastD 0∈A.wt:=by rw[hw];simp
  have h5:=ok.wl _ hm
  refine⟨by omega,h5.1,fun hd=>?_,h5.2.1,rfl,rfl,rfl⟩
  have gA:=ok.wd
  rw[hw,ao2]at gA
  exact gA.2.2 _ hd _ (by simp) rfl
 ·split at h
  ·cases h
  ·rename_i h1 h2
   injection h with h
   injection h with h3 h4
   subst h3 h4
   refine⟨by omega,ok.fr _ (apI _),fun hm=>?_,by simp only;omega,rfl,rfl,rfl⟩
   have:=ok.wl _ hm
   omega
theorem Ar.nJ{A A':Ar}{x y:Int}{v:Nat}{b:Bool}(hx:0≤x∧x<A.g.length)(h:A'.g=A.g.set x.toNat (v,b))(hy:0≤y):A'.live y↔if y=x then b=true else A.live y:=by
 unfold Ar.live
 rw[h]
 by_cases e:y=x
 ·rw[if_pos e,e,aop (by omega)]
  simp[hx.1]
 ·rw[if_neg e,aoo (by omega)]
theorem Ar.EO{A A':Ar}{x y:Int}{v:Nat}{b:Bool}(hx:0≤x∧x<A.g.length)(h:A'.g=A.g.set x.toNat (v,b))(hy:0≤y):A'.bC y=if y=x then v else A.bC y:=by
 unfold Ar.bC
 rw[h,aom,aom]
 by_cases e:y=x
 ·rw[if_pos e,e,aop (by omega)];rfl
 ·rw[if_neg e,aoo (by omega)]
theorem xw.out{A A':Ar}{x:Int}(ok:xw A')(hg:A'.g=A.g)(hx:0≤x∧x<A'.g.length)(hl:¬A'.live x)(hw:x∉A'.wt)(hn:x<A'.nx):xw (A'.out x):=by
 obtain⟨b,hb,DB⟩:=Ar.get hx
 have WO:b=false:=by cases b;rfl;exact absurd (DB.2 rfl) hl
 refine⟨fun y hy=>?_,ok.wd,fun y hy oJ=>?_,?_,?_⟩
 ·obtain⟨h1,h2,h3⟩:=ok.wl y hy
  refine⟨fun h=>?_,h2,h3⟩
  rw[Ar.nJ (A:=A') hx rfl h3,if_neg (fun e=>hw (by rw[←e];exact hy))]at h
  exact h1 h
 ·have WB:=oJ.1
  have DQ:(A'.nx:Int)≤y:=hy
  rw[Ar.nJ (A:=A') hx rfl WB,if_neg (by omega)]at oJ
  exact ok.fr y DQ oJ
 ·have:=count_set hb (A'.bC x+1) true
  rw[WO]at this
  have h2:=ok.ct
  show A'.ct+1=(((A'.g.set x.toNat (A'.bC x+1,true)).countP (·.2):Nat):Int)
  unfold Ar.aS at h2
  simp at this
  omega
 ·show A'.nx≤(A'.g.set x.toNat _).length
  rw[aok];exact ok.nx
theorem xw.back{A:Ar}{x:Int}(ok:xw A)(hl:A.live x):xw (A.back x):=by
 have hx:=Ar.Bj hl
 obtain⟨b,hb,DB⟩:=Ar.get hx
 have hbt:=DB.1 hl
 have Du:x<A.nx:=aoI fun h=>ok.fr x (by omega) hl
 have Vw:x∉A.wt:=fun h=>(ok.wl x h).1 hl
 have hnl:¬ (A.back x).live x:=fun h=>by
  rw[Ar.nJ (A:=A) hx rfl hx.1,if_pos rfl]at h
  cases h
 have CU:∀y,0≤y→(A.back x).live y→A.live y:=fun y h0 h=>by
  rw[Ar.nJ (A:=A) hx rfl h0]at h
  split at h
  ·cases h
  ·exact h
 refine⟨fun y hy=>?_,?_,fun y hy oJ=>ok.fr y hy (CU y oJ.1 oJ),?_,?_⟩
 ·have DQ:y∈(if A.bC x<A.mo then A.wt++[x]else A.wt):=hy
  have Kl:y∈A.wt∨y=x:=by
   split at DQ
   ·rcases aou.1 DQ with h|h
    ·exact .inl h
    ·exact .inr (aoq.1 h)
   ·exact .inl DQ
  rcases Kl with h|h
  ·obtain⟨h1,h2,h3⟩:=ok.wl y h
   exact⟨fun h4=>h1 (CU y h3 h4),h2,h3⟩
  ·rw[h];exact⟨hnl,Du,hx.1⟩
 ·show(if A.bC x<A.mo then A.wt++[x]else A.wt).Nodup
  split
  ·rw[ao2]
   refine⟨ok.wd,by simp,fun u hu v hv e=>Vw ?_⟩
   rw[aoq.1 hv]at e
   rw[←e];exact hu
  ·exact ok.wd
 ·have:=count_set hb (A.bC x) false
  rw[hbt]at this
  have h2:=ok.ct
  show A.ct - 1=(((A.g.set x.toNat (A.bC x,false)).countP (·.2):Nat):Int)
  unfold Ar.aS at h2
  simp at this
  omega
 ·show A.nx≤(A.g.set x.toNat _).length
  rw[aok];exact ok.nx
theorem En(m:JE H B A):af Tryz.prog yJ [ptr B.a] H fun v H'=>aw (
  (A.pick=none∧v= .tuple [i64 0,.bool false].toArray∧H'=H)∨(∃x A',A.pick=some (x,A')∧v= .tuple [i64 x,.bool true].toArray∧JE H' B A'∧ag (fun z=>z=B.a) H H')):=by
 obtain⟨tv,o1,s1⟩:=m.own
 obtain⟨wa,wc,rfl⟩:=Sl.shape s1
 have hwl:=m.wtl.1
 have dk:=m.len
 have Ko:=m.ok.nx
 refine bv zc ?_
 refine v1 (ae o1) ?_
 refine am.dec (fun h0=>?_) (fun h0=>?_)
 ·have aP:A.wt≠[]:=fun h=>by rw[h]at h0;simp at h0
  obtain⟨k,hk⟩:∃k,A.wt.length=k+1:=⟨A.wt.length - 1,by omega⟩
  obtain⟨x,hx⟩:∃x,A.wt[k]? =some x:=⟨_,aoh (by omega)⟩
  have jf:A.wt.getLastD 0=x:=by
   rw[apQ,List.getLast?_eq_getElem?,hk,Nat.add_sub_cancel,hx]
   rfl
  have hdl:A.wt.dropLast=A.wt.take k:=by rw[apP,hk,Nat.add_sub_cancel]
  have Zb:A.pick=some (x,{A with wt:=A.wt.take k}):=by
   unfold Ar.pick
   rw[if_pos aP,jf,hdl]
  obtain⟨b,lb,c,yg,QU,qb,qk,_,_,_⟩:∃b lb c,Value.slice wa A.wt.length wc= .slice (some ⟨b,0,none⟩) A.wt.length c∧B.fo=some b∧H.own b=some lb∧lb[k]? =some (i64 x)∧k<A.wt.length∧A.wt.length≤lb.length∧True:=by
   obtain⟨h1,b,lb,rfl,q2,q3⟩:=Sl.zB s1 hx
   have sG:=s1
   revert sG
   cases QU:B.fo with
   |none=>intro sG;have:=sG.2.2;injection this with h1;cases h1
   |some b'=>
    intro sG
    obtain⟨_,Vx,c',hs,ho,hc,nT,_⟩:=sG
    injection hs with eK Kk GR
    injection eK with eK
    injection eK with eK
    subst eK GR
    rw[q2]at ho
    injection ho with ho
    subst ho
    exact⟨b,lb,wc,rfl,rfl,q2,q3,h1,by omega,trivial⟩
  injection yg with eK Kk GR
  subst eK GR
  obtain⟨_,Vx,c',hs,ho,hc,nT,ht⟩:(A.wt.map i64).length=A.wt.length*1∧∃l c',Value.slice (some ⟨b,0,none⟩) A.wt.length wc= .slice (some ⟨b,0,none⟩) A.wt.length c'∧H.own b=some l∧A.wt.length≤c'∧c'*1≤l.length∧l.take (A.wt.length*1)=A.wt.map i64:=by
   have:=s1
   rw[QU]at this
   exact this
  injection hs with _ _ hs
  subst hs
  rw[qb]at ho
  injection ho with ho
  subst ho
  rw[aol]at nT ht
  refine v1 (ae o1) ?_
  rw[wrap64 (n:=(A.wt.length:Int) - 1) (by omega) (by omega)]
  refine⟨⟨by omega,by omega⟩,?_⟩
  rw[show((A.wt.length:Int) - 1).toNat=k by omega]
  refine v5 (ae qb) aoi aol qk (ae o1) ?_
  rw[wrap64 (n:=(A.wt.length:Int) - 1) (by omega) (by omega)]
  refine⟨⟨by omega,by omega,by omega,by omega⟩,?_⟩
  refine v1 o1 ?_
  rw[if_neg (show¬ (wc:Int)=((0:Nat):Int) by omega)]
  have e1:∀l,ag (fun z=>z=B.a) H (H.wr B.a l):=fun l=>(ag.refl (fun z=>z=B.a) _).wr (fun _=>rfl) _
  have MG:(A.wt.take k).length=k:=by rw[aoX];omega
  refine .inr ⟨x,_,Zb,rfl,⟨⟨_,ai o1,?_⟩,(e1 _).own m.sl (Ne.symm m.ne.1),m.ne,m.len,⟨fun y hy=>m.ok.wl y (List.mem_of_mem_take hy),m.ok.wd.sublist (List.take_sublist _ _),m.ok.fr,m.ok.ct,m.ok.nx⟩,m.gs,m.mo⟩,e1 _⟩
  have hb:b≠B.a:=fun e=>m.ne.2.1 (by rw[QU,e])
  refine⟨by simp,?_⟩
  rw[QU]
  refine⟨lb,wc,?_,(e1 _).own qb hb,by rw[MG];omega,by rw[aol];exact nT,?_⟩
  ·rw[MG,show((A.wt.length:Int) - 1).toNat - ((0:Nat):Int).toNat=k by omega]
   simp[Addr.add]
  ·rw[aol,List.map_take,←ht,aqk]
   congr 1
   rw[MG]
   omega
 ·refine v1 (ae o1) ?_
  have he:A.wt=[]:=aoR.1 (by omega)
  refine am.dec (fun h1=>?_) (fun h1=>?_)
  ·refine vs ?_
   refine .inl ⟨?_,rfl,rfl⟩
   unfold Ar.pick
   rw[if_neg (by simp[he]),if_pos (by omega)]
  ·refine v2 (ae o1) o1 ?_
   rw[wrap64 (n:=(A.nx:Int)+1) (by omega) (by omega)]
   have e1:∀l,ag (fun z=>z=B.a) H (H.wr B.a l):=fun l=>(ag.refl (fun z=>z=B.a) _).wr (fun _=>rfl) _
   have q1:∀l,(H.wr B.a l).own B.a=some l:=fun l=>ai o1
   simp(disch:=(first|omega| (simp only[Zs]<;>omega)|fail)) only[go_sem, ↓reduceIte,Zv,ae (q1 _)]
   rw[wrap64 (n:=(A.nx:Int)+1 - 1) (by omega) (by omega)]
   have Zb:A.pick=some ((A.nx:Int),{A with nx:=A.nx+1}):=by
    unfold Ar.pick
    rw[if_neg (by simp[he]),if_neg (by omega)]
   rw[show(A.nx:Int)+1 - 1=(A.nx:Int) by omega]
   refine .inr ⟨_,_,Zb,rfl,⟨⟨.slice wa A.wt.length wc,q1 _,s1.ext (e1 _) (fun b hb e=>m.ne.2.1 (by rw[hb,e]))⟩,(e1 _).own m.sl (Ne.symm m.ne.1),m.ne,m.len,⟨fun y hy=>by have:=m.ok.wl y hy;exact⟨this.1,by simp only;omega,this.2.2⟩,m.ok.wd,fun y hy=>m.ok.fr y (by simp only at hy;omega),m.ok.ct,by simp only;omega⟩,m.gs,m.mo⟩,e1 _⟩
theorem Ar.OR(A:Ar):A.aS≤A.g.length:=aqi
theorem Eo(m:JE H B A)(WP:∀x:Int,0≤x→x<A.g.length→A.bC x<4294967295):af Tryz.prog yH [ptr B.a] H fun v H'=>aw (
  (A.pick=none∧v= .tuple [gA 0 0,i64 32].toArray∧JE H' B A∧ah H H')∨(∃x A',A.pick=some (x,A')∧v= .tuple [gA x (A.bC x+1),i64 0].toArray∧JE H' B (A'.out x)∧ag B.S H H')):=by
 have eT:=m.slt
 refine bv za ?_
 refine vs ?_
 have f0:ah H (H.new 114 [Value.int .i64 0,Value.int .u32 0]):=(ag.refl _ _).new _ _
 have b0:(H.new 114 [Value.int .i64 0,Value.int .u32 0]).own H.size=some [Value.int .i64 0,Value.int .u32 0]:=az _ _ _
 have m0:=m.ext f0 (fun _ _ h=>h)
 generalize H.new 114 [Value.int .i64 0,Value.int .u32 0]=H0 at*
 have Ep:∀z,B.S z→z≠H.size:=fun z hz=>by have:=eT z hz;omega
 refine(En m0).mono ?_
 rintro _ H1 (⟨hp,rfl,e⟩| ⟨x,A',hp,rfl,m1,e1⟩)
 ·obtain rfl:=e.symm
  refine v1 b0 ?_
  have e1:ag (fun z=>z=H.size) H0 (H0.wr H.size [Value.int .i64 0,Value.int .u32 0]):=(ag.refl (fun z=>z=H.size) _).wr (fun _=>rfl) _
  have b1:(H0.wr H.size [Value.int .i64 0,Value.int .u32 0]).own H.size=some [Value.int .i64 0,Value.int .u32 0]:=ai b0
  refine v1 (ae b1) ?_
  exact .inl ⟨hp,rfl,m0.ext e1 (fun z hz e=>Ep z hz e),f0.then e1 (fun z hz=>by omega)⟩
 obtain⟨uN,mF,Vw,Du,hg,hct,Vy⟩:=Ar.vH hp m.ok
 have b1:=e1.own b0 (fun e=>Ep B.a (.inl rfl) e.symm)
 obtain⟨CR,o1,s1⟩:=m1.own
 have dk:=m1.len
 have aaR:0≤x∧x<A'.g.length:=by rw[hg];exact uN
 obtain⟨b,hb,DB⟩:=Ar.get (A:=A') aaR
 have PW:A'.bC x=A.bC x:=by unfold Ar.bC;rw[hg]
 have hgb:=WP x uN.1 uN.2
 obtain⟨c1,c2⟩:=uM hb
 obtain⟨w1,_⟩:=CS hb
 have hl:=qu A'.g
 refine v1 (ae o1) ?_
 refine⟨⟨by omega,by omega⟩,?_⟩
 refine v5 (ae m1.sl) m1.sl aoi Nat.add_zero c1 ?_
 refine⟨by omega,?_⟩
 rw[T9 (n:=(A'.bC x:Int)+1) (by omega) (by omega),show(A'.bC x:Int)+1=((A'.bC x+1:Nat):Int) by omega]
 refine v1 w1 ?_
 have e2:ag (fun z=>z=B.sb) H1 (H1.wr B.sb (dq (A'.g.set x.toNat (A'.bC x+1,b)))):=(ag.refl (fun z=>z=B.sb) _).wr (fun _=>rfl) _
 have q2:(H1.wr B.sb (dq (A'.g.set x.toNat (A'.bC x+1,b)))).own B.sb=some (dq (A'.g.set x.toNat (A'.bC x+1,b))):=ai m1.sl
 generalize H1.wr B.sb (dq (A'.g.set x.toNat (A'.bC x+1,b)))=H2 at*
 have oR:(A'.g.set x.toNat (A'.bC x+1,b))[x.toNat]? =some (A'.bC x+1,b):=aop (by omega)
 obtain⟨d1,_⟩:=uM oR
 have w2:=(CS oR).2 true
 rw[List.set_set]at w2
 have oJ:=qu (A'.g.set x.toNat (A'.bC x+1,b))
 rw[aok]at oJ
 refine v3 q2 aoi Nat.add_zero ?_
 refine⟨by omega,?_⟩
 refine v1 w2 ?_
 have e3:ag (fun z=>z=B.sb) H2 (H2.wr B.sb (dq (A'.g.set x.toNat (A'.bC x+1,true)))):=(ag.refl (fun z=>z=B.sb) _).wr (fun _=>rfl) _
 have q3:(H2.wr B.sb (dq (A'.g.set x.toNat (A'.bC x+1,true)))).own B.sb=some (dq (A'.g.set x.toNat (A'.bC x+1,true))):=ai q2
 generalize H2.wr B.sb (dq (A'.g.set x.toNat (A'.bC x+1,true)))=H3 at*
 have Ek:=e2.trans e3
 have o3:=Ek.own o1 m.ne.1
 have afB:=m1.ok.ct
 have aaS:=Ar.OR A'
 refine v2 (ae o3) o3 ?_
 rw[wrap64 (n:=A'.ct+1) (by omega) (by omega)]
 have e4:∀l,ag (fun z=>z=B.a) H3 (H3.wr B.a l):=fun l=>(ag.refl (fun z=>z=B.a) _).wr (fun _=>rfl) _
 have q4:∀l,(H3.wr B.a l).own B.a=some l:=fun l=>ai o3
 have QV:=(e4 [.slice (some ⟨B.sb,0,none⟩) A'.g.length A'.g.length,CR,i64 A'.nx,i64 (A'.ct+1),.int .u32 (A'.mo:Int)]).own q3 (Ne.symm m.ne.1)
 have b3:=(e4 [.slice (some ⟨B.sb,0,none⟩) A'.g.length A'.g.length,CR,i64 A'.nx,i64 (A'.ct+1),.int .u32 (A'.mo:Int)]).own (Ek.own b1 (fun e=>Ep B.sb (.inr (.inl rfl)) e.symm)) (fun e=>Ep B.a (.inl rfl) e.symm)
 have T1:(A'.g.set x.toNat (A'.bC x+1,true))[x.toNat]? =some (A'.bC x+1,true):=aop (by omega)
 obtain⟨d3,_⟩:=uM T1
 have s4:=(s1.ext Ek (fun b hb e=>m.ne.2.2 (by rw[hb,e]))).ext (e4 [.slice (some ⟨B.sb,0,none⟩) A'.g.length A'.g.length,CR,i64 A'.nx,i64 (A'.ct+1),.int .u32 (A'.mo:Int)]) (fun b hb e=>m.ne.2.1 (by rw[hb,e]))
 have m4:JE (H3.wr B.a [.slice (some ⟨B.sb,0,none⟩) A'.g.length A'.g.length,CR,i64 A'.nx,i64 (A'.ct+1),.int .u32 (A'.mo:Int)]) B (A'.out x):=by
  refine⟨⟨CR,?_,s4⟩,QV,m.ne,?_,m1.ok.out hg aaR (fun h=>mF (by unfold Ar.live at h ⊢;rw[hg]at h;exact h)) Vw Du,fun y hy=>?_,m1.mo⟩
  ·show _=some [.slice (some ⟨B.sb,0,none⟩) (A'.g.set x.toNat (A'.bC x+1,true)).length (A'.g.set x.toNat (A'.bC x+1,true)).length,CR,i64 A'.nx,i64 (A'.ct+1),.int .u32 (A'.mo:Int)]
   rw[aok]
   exact q4 _
  ·show(A'.g.set x.toNat (A'.bC x+1,true)).length≤_
   rw[aok];exact dk
  ·rcases aph hy with h|h
   ·exact m1.gs y h
   ·rw[h];simp only;omega
 have e4':=e4 [.slice (some ⟨B.sb,0,none⟩) A'.g.length A'.g.length,CR,i64 A'.nx,i64 (A'.ct+1),.int .u32 (A'.mo:Int)]
 generalize H3.wr B.a [.slice (some ⟨B.sb,0,none⟩) A'.g.length A'.g.length,CR,i64 A'.nx,i64 (A'.ct+1),.int .u32 (A'.mo:Int)]=H4 at*
 have vI:ag B.S H H4:=((f0.mono fun _ _ h=>h.elim).trans (e1.mono fun z _ h=>.inl h)).trans ((Ek.mono fun z _ h=>.inr (.inl h)).trans (e4'.mono fun z _ h=>.inl h))
 refine v5 (ae QV) aoi Nat.add_zero d3 b3 ?_
 have e5:ag (fun z=>z=H.size) H4 (H4.wr H.size [Value.int .i64 x,Value.int .u32 ((A'.bC x+1:Nat):Int)]):=(ag.refl (fun z=>z=H.size) _).wr (fun _=>rfl) _
 have b5:(H4.wr H.size [Value.int .i64 x,Value.int .u32 ((A'.bC x+1:Nat):Int)]).own H.size=some [Value.int .i64 x,Value.int .u32 ((A'.bC x+1:Nat):Int)]:=ai b3
 refine v1 (ae b5) ?_
 refine .inr ⟨x,A',hp,by rw[PW];rfl,m4.ext e5 (fun z hz e=>Ep z hz e),⟨apb vI.size e5.size,fun z hz hn=>?_⟩⟩
 rw[e5.aM z (aoH hz vI.size) (fun e=>by omega),vI.aM z hz hn]
theorem Er(m:JE H B A){x:Int}(hx:A.live x):af Tryz.prog yE [ptr B.a,gA x (A.bC x)] H fun v H'=>aw (v=i64 0∧∃RP,JE H' ⟨B.a,B.sb,RP⟩ (A.back x)∧ag B.S H H'∧∀z,RP=some z→B.fo=some z∨H.size≤z):=by
 have eT:=m.slt
 have uN:=Ar.Bj hx
 obtain⟨b,hb,DB⟩:=Ar.get (A:=A) uN
 obtain rfl:=DB.1 hx
 have hl:=qu A.g
 have w1:=(CS hb).2 false
 have dk:=m.len
 have afB:=m.ok.ct
 have aaS:=Ar.OR A
 refine Fa yX ⟨rfl,?_⟩
 refine v1 nj.eq_1 ?_
 have f0:ah H (H.new 114 [i64 x,.int .u32 (A.bC x:Int)]):=(ag.refl _ _).new _ _
 have b0:(H.new 114 [i64 x,.int .u32 (A.bC x:Int)]).own H.size=some [i64 x,.int .u32 (A.bC x:Int)]:=az _ _ _
 have m0:=m.ext f0 (fun _ _ h=>h)
 generalize H.new 114 [i64 x,.int .u32 (A.bC x:Int)]=H0 at*
 have Ep:∀z,B.S z→z≠H.size:=fun z hz=>by have:=eT z hz;omega
 refine(sU m0 x (A.bC x)).mono ?_
 rintro _ H1 ⟨rfl,f1⟩
 rw[aow ⟨hx,rfl⟩]
 have m1:=m0.ext f1 (fun _ _ h=>h)
 have b1:=f1.own b0 (fun h=>h)
 obtain⟨CR,o1,s1⟩:=m1.own
 refine v2 (ae o1) (ae b1) ?_
 refine⟨⟨by omega,by omega⟩,?_⟩
 refine v2 m1.sl aoi ?_
 refine⟨by omega,?_⟩
 refine v1 w1 ?_
 have e2:ag (fun z=>z=B.sb) H1 (H1.wr B.sb (dq (A.g.set x.toNat (A.bC x,false)))):=(ag.refl (fun z=>z=B.sb) _).wr (fun _=>rfl) _
 have q2:(H1.wr B.sb (dq (A.g.set x.toNat (A.bC x,false)))).own B.sb=some (dq (A.g.set x.toNat (A.bC x,false))):=ai m1.sl
 generalize H1.wr B.sb (dq (A.g.set x.toNat (A.bC x,false)))=H2 at*
 have o2:=e2.own o1 m.ne.1
 have b2:=e2.own b1 (fun e=>Ep B.sb (.inr (.inl rfl)) e.symm)
 refine v2 (ae o2) o2 ?_
 rw[wrap64 (n:=A.ct - 1) (by omega) (by omega)]
 have e3:∀l,ag (fun z=>z=B.a) H2 (H2.wr B.a l):=fun l=>(ag.refl (fun z=>z=B.a) _).wr (fun _=>rfl) _
 have q3:∀l,(H2.wr B.a l).own B.a=some l:=fun l=>ai o2
 have b3:=fun l=>(e3 l).own b2 (fun e=>Ep B.a (.inl rfl) e.symm)
 have q2':=fun l=>(e3 l).own q2 (Ne.symm m.ne.1)
 have s3:=fun l=>(s1.ext e2 (fun b hb e=>m.ne.2.2 (by rw[hb,e]))).ext (e3 l) (fun b hb e=>m.ne.2.1 (by rw[hb,e]))
 obtain⟨l3,RN⟩:∃l3,l3=[.slice (some ⟨B.sb,0,none⟩) A.g.length A.g.length,CR,i64 A.nx,i64 (A.ct - 1),.int .u32 (A.mo:Int)]:=⟨_,rfl⟩
 have QV:=q3 l3
 have WQ:=b3 l3
 have Ua:=q2' l3
 have s3':=s3 l3
 have Zc:=e3 l3
 rw[RN]at QV WQ Ua s3' Zc
 generalize H2.wr B.a [.slice (some ⟨B.sb,0,none⟩) A.g.length A.g.length,CR,i64 A.nx,i64 (A.ct - 1),.int .u32 (A.mo:Int)]=H3 at*
 have Ek:ag B.S H H3:=((f0.mono fun _ _ h=>h.elim).trans (f1.mono fun _ _ h=>h.elim)).trans ((e2.mono fun z _ h=>.inr (.inl h)).trans (Zc.mono fun z _ h=>.inl h))
 have tW:=m.ok.back hx
 have hgs:∀y∈(A.back x).g,y.1≤4294967295:=fun y hy=>by
  rcases aph hy with h|h
  ·exact m.gs y h
  ·rw[h]
   exact m.gs (A.bC x,true) (aon hb)
 have aZ:(A.back x).g.length=A.g.length:=aok ..
 refine v2 (ae WQ) (ae QV) ?_
 refine am.dec (fun hm=>?_) (fun hm=>?_)
 rotate_left
 ·refine vs ?_
  have We:(A.back x).wt=A.wt:=by show(if A.bC x<A.mo then _ else _)=_;rw[if_neg (by omega)]
  refine⟨rfl,B.fo,⟨⟨CR,by rw[aZ];exact QV,by rw[We];exact s3'⟩,Ua,m.ne,by rw[aZ];exact dk,tW,hgs,m.mo⟩,Ek,fun z hz=>.inl hz⟩
 have We:(A.back x).wt=A.wt++[x]:=by show(if A.bC x<A.mo then _ else _)=_;rw[if_pos (by omega)]
 have hwl:=m.wtl.1
 obtain⟨ta,tc,rfl⟩:=Sl.shape s3'
 refine vs ?_
 refine jB.intro (fun H'=>True) trivial ?_
 refine vs ?_
 have Wo:H.size<H3.size:=aB WQ
 have has:B.a<H3.size:=aB QV
 have fin:∀ (K:Value→Hp→Prop),(∀w' H4 cP,Sl H4 1 w' (A.wt++[x]).length ((A.wt++[x]).map i64) cP→(cP=B.fo∨∃z,cP=some z∧H3.size≤z∧z<H4.size)→ag (fun z=>B.fo=some z) H3 H4→K w' H4)→
   gk 3 1 8 [i64 0] (.slice ta A.wt.length tc) (.slice (some ⟨H3.size,0,none⟩) 1 1) (H3.new 3 [i64 x]) K:=fun K hK=>by
  exact RM s3' x (by omega) fun w' H' cP h1 h2 h3=>hK w' H' cP h2 h1 h3
 refine EN.intro ?C ?D
 case' C=>
  refine v2 (ae QV) (ae WQ) ?_
 case' D=>
  refine v2 (ae QV) (ae WQ) ?_
  refine EN.intro ?E ?F
  case' E=>
   refine v2 (ae QV) (ae WQ) ?_
  case' F=>
   refine v2 (ae QV) (ae WQ) ?_
 all_goals
  refine fin _ fun w' H4 cP s4 fZ e4=>?_
  obtain⟨wa,wc,rfl⟩:=Sl.shape s4
  have o4:=e4.own QV (fun e=>m.ne.2.1 e)
  have q4:=e4.own Ua (fun e=>m.ne.2.2 e)
  refine v1 o4 ?_
  have e5:∀l,ag (fun z=>z=B.a) H4 (H4.wr B.a l):=fun l=>(ag.refl (fun z=>z=B.a) _).wr (fun _=>rfl) _
  have akl:=Ek.size
  refine⟨rfl,cP,⟨⟨_,by rw[aZ];exact ai o4,?_⟩,(e5 _).own q4 (Ne.symm m.ne.1),⟨m.ne.1,fun h=>?_,fun h=>?_⟩,by rw[aZ];exact dk,tW,hgs,m.mo⟩,?_,fun z hz=>?_⟩
  ·rw[We]
   refine s4.ext (e5 _) (fun b hb e=>?_)
   rcases fZ with h| ⟨y,h,h2,_⟩
   ·exact m.ne.2.1 (by rw[←h,hb,e])
   ·rw[h]at hb;injection hb with hb;omega
  ·rcases fZ with h2| ⟨y,h2,h3,_⟩
   ·exact m.ne.2.1 (by rw[←h2];exact h)
   ·rw[h2]at h;injection h with h;simp only at h;omega
  ·rcases fZ with h2| ⟨y,h2,h3,_⟩
   ·exact m.ne.2.2 (by rw[←h2];exact h)
   ·have:=aB Ua
    rw[h2]at h;injection h with h;simp only at h;omega
  ·exact(Ek.trans (e4.mono fun z _ h=>.inr (.inr h))).trans ((e5 _).mono fun z _ h=>.inl h)
  ·rcases fZ with h2| ⟨y,h2,h3,_⟩
   ·exact .inl (by rw[←h2];exact hz)
   ·rw[h2]at hz;injection hz with hz;exact .inr (by omega)
end
end Go.Proofs.YtjlnnljohemifaaGreat

namespace Go.Proofs.YtjlnnljohemifaaGreat
open Go Go.Vc
def Nw.lN(w:Nw)(g x:Int):Prop:=w.has g∧(0≤x∧x<w.cs.length)∧¬cY w.cs x
def Nw.db(w:Nw)(x k s:Int):Prop:=cY w.cs x∧∀y,w.cs[x.toNat]? =some y→¬fA y.2.1 y.2.2 k s
def cB(I:Hp→(Nat→Prop)→Nw→Prop)(S:Nat→Prop)(H H':Hp)(w':Nw):Prop:=
 ∃S':Nat→Prop,I H' S' w'∧ag S H H'∧∀z,S' z→S z∨H.size≤z
theorem cB.same{I:Hp→(Nat→Prop)→Nw→Prop}{S:Nat→Prop}{H H':Hp}{w':Nw}(h:I H' S w')(e:ag S H H'):cB I S H H' w':=⟨S,h,e,fun z hz=>.inl hz⟩
structure yi(ov:Value)(I:Hp→(Nat→Prop)→Nw→Prop):Prop where
 slt:∀ {H S w},I H S w→∀z,S z→z<H.size
 ext:∀ {H H' S w} {T:Nat→Prop},I H S w→ag T H H'→(∀z,S z→¬T z)→I H' S w
 cells:∀ {H S w},I H S w→∃c C,CQ H c C w
 has:∀ {H S w} (g:Int),I H S w→gP Tryz.prog ov "Has" [i64 g] H fun v H'=>v= .bool (decide (w.has g))∧H=H'
 make:∀ {H S w},I H S w→gP Tryz.prog ov "Make" [] H fun v H'=>
  (w.hs.length=65537∧v=i64 0∧cB I S H H' w)∨(w.hs.length≠65537∧v=i64 w.hs.length∧cB I S H H' w.make)
 insert:∀ {H S w} (g x k s:Int),I H S w→gP Tryz.prog ov "Insert" [i64 g,i64 x,tL k s] H fun v H'=>
  (¬w.lN g x∧v= .bool false∧cB I S H H' w)∨(w.lN g x∧v= .bool true∧cB I S H H' (w.put x (g,k,s)))
 min:∀ {H S w} (g:Int),I H S w→gP Tryz.prog ov "Min" [i64 g] H fun v H'=>
  (w.len g=0∧v= .tuple [i64 0,.bool false].toArray∧cB I S H H' w)∨(∃x,w.first g x∧v= .tuple [i64 x,.bool true].toArray∧cB I S H H' w)
 extract:∀ {H S w} (g:Int),I H S w→gP Tryz.prog ov "Extract" [i64 g] H fun v H'=>
  (w.len g=0∧v= .tuple [i64 0,.bool false].toArray∧cB I S H H' w)∨(∃x,w.first g x∧v= .tuple [i64 x,.bool true].toArray∧cB I S H H' (w.put x (0,0,0)))
 lf:∀ {H S w} (x k s:Int),I H S w→gP Tryz.prog ov "Decrease" [i64 x,tL k s] H fun v H'=>
  (¬w.db x k s∧v= .bool false∧cB I S H H' w)∨(w.db x k s∧v= .bool true∧∃y,w.cs[x.toNat]? =some y∧cB I S H H' (w.put x (y.1,k,s)))
 entry:∀ {H S w} (x:Int),I H S w→gP Tryz.prog ov "Entry" [i64 x] H fun v H'=>I H' S w∧ah H H'∧
  ((¬cY w.cs x∧v= .tuple [tL 0 0,.bool false].toArray)∨(cY w.cs x∧∃y,w.cs[x.toNat]? =some y∧v= .tuple [tL y.2.1 y.2.2,.bool true].toArray))
structure RQ(w:Nw)(A:Ar):Prop where
 len:w.cs.length=A.g.length
 live:∀x,cY w.cs x↔A.live x
def DC(H:Hp)(s:Nat)(S:Nat→Prop)(w:Nw)(A:Ar)(q:Int):Prop:=∃ (t:TypeId) (vv:Value) (I:Hp→(Nat→Prop)→Nw→Prop) (Sn:Nat→Prop) (B:T6) (k d:Int),
 yi (.iface t vv) I∧I H Sn w∧JE H B A∧H.own s=some [i64 k,i64 d,ptr B.a,.iface t vv,u64 q]∧(∀z,Sn z→¬B.S z∧z≠s)∧¬B.S s∧(∀z,S z↔Sn z∨B.S z∨z=s)∧RQ w A
theorem DC.slt{H:Hp}{s:Nat}{S:Nat→Prop}{w:Nw}{A:Ar}{q:Int}(h:DC H s S w A q):∀z,S z→z<H.size:=by
 obtain⟨t,vv,I,Sn,B,k,d,n,hi,m,ho,d1,d2,hS,hl⟩:=h
 intro z hz
 rcases(hS z).1 hz with h|h|h
 ·exact n.slt hi z h
 ·exact m.slt z h
 ·rw[h];exact aB ho
theorem DC.ext{H H':Hp}{s:Nat}{S T:Nat→Prop}{w:Nw}{A:Ar}{q:Int}(h:DC H s S w A q)(e:ag T H H')(hd:∀z,S z→¬T z):DC H' s S w A q:=by
 obtain⟨t,vv,I,Sn,B,k,d,n,hi,m,ho,d1,d2,hS,hl⟩:=h
 exact⟨t,vv,I,Sn,B,k,d,n,n.ext hi e (fun z hz=>hd z ((hS z).2 (.inl hz))),m.ext e (fun z hz=>hd z ((hS z).2 (.inr (.inl hz)))),e.own ho (hd _ ((hS _).2 (.inr (.inr rfl)))),d1,d2,hS,hl⟩
theorem DC.lnk{H:Hp}{s:Nat}{S:Nat→Prop}{w:Nw}{A:Ar}{q:Int}(h:DC H s S w A q):RQ w A∧xw A∧A.g.length≤65536:=by
 obtain⟨t,vv,I,Sn,B,k,d,n,hi,m,ho,d1,d2,hS,hl⟩:=h
 exact⟨hl,m.ok,m.len⟩
def Kp(s:Nat)(S:Nat→Prop)(H H':Hp)(w':Nw)(A':Ar)(q':Int):Prop:=∃S',DC H' s S' w' A' q'∧ag S H H'∧∀z,S' z→S z∨H.size≤z
section
variable {H H' : Hp} {s : Nat} {S : Nat → Prop} {w : Nw} {A : Ar} {q : Int}
theorem Nq(H:Hp)(T:TypeId)(z l:List Value):ah H ((H.new T z).wr H.size l)∧((H.new T z).wr H.size l).own H.size=some l∧((H.new T z).wr H.size l).size=H.size+1:=by
 have f0:ah H (H.new T z):=(ag.refl _ _).new _ _
 have e1:ag (fun x=>x=H.size) (H.new T z) ((H.new T z).wr H.size l):=(ag.refl (fun x=>x=H.size) _).wr (fun _=>rfl) _
 exact⟨f0.then e1 (fun z hz=>by omega),ai (az _ _ _),by rw[eo,ap]⟩
theorem Lx{H:Hp}{b:Nat}{l0:List Value}(h:H.own b=some l0)(l:List Value):ag (fun x=>x=b) H (H.wr b l)∧(H.wr b l).own b=some l:=⟨(ag.refl (fun x=>x=b) _).wr (fun _=>rfl) _,ai h⟩
theorem Es(h:DC H s S w A q)(hl:w.hs.length<65537):af Tryz.prog yA [ptr s] H fun v H'=>aw (v= .tuple [i64 w.hs.length,i64 0].toArray∧Kp s S H H' w.make A q):=by
 obtain⟨t,vv,I,Sn,B,k,d,n,hi,m,ho,d1,d2,hS,HR⟩:=h
 obtain⟨c,C,cq⟩:=n.cells hi
 have gh:=cq.pos
 refine bv yT ?_
 refine v1 (ae ho) ?_
 refine(n.make hi).mono ?_
 rintro _ H1 (⟨h1,_⟩| ⟨_,rfl,Et,hi',e1,eK⟩)
 ·omega
 refine vs ?_
 refine am.dec (fun hh=>by omega) (fun _=>?_)
 refine vs ?_
 have z7:=m.slt
 have hos:=aB ho
 refine⟨rfl,fun z=>Et z∨B.S z∨z=s,⟨t,vv,I,Et,B,k,d,n,hi',m.ext e1 (fun z hz h=>(d1 z h).1 hz),e1.own ho (fun h=>(d1 _ h).2 rfl),fun z hz=>?_,d2,fun z=>Iff.rfl,⟨HR.len,HR.live⟩⟩,e1.mono fun z _ h=>(hS z).2 (.inl h),fun z hz=>?_⟩
 ·rcases eK z hz with h|h
  ·exact d1 z h
  ·exact⟨fun h2=>by have:=z7 z h2;omega,by omega⟩
 ·rcases hz with h|h
  ·rcases eK z h with h|h
   ·exact .inl ((hS z).2 (.inl h))
   ·exact .inr h
  ·exact .inl ((hS z).2 (.inr h))
theorem RQ.put{w:Nw}{A A':Ar}(l:RQ w A){x:Int}(hx:0≤x∧x<A.g.length){y:Ce}{v:Nat}(hg:A'.g=A.g.set x.toNat (v,decide (0<y.1))):RQ (w.put x y) A':=by
 have GU:0≤x∧x<w.cs.length:=by rw[l.len];exact hx
 refine⟨by rw[hg,aok];simp[Nw.put,l.len],fun z=>?_⟩
 by_cases h0:0≤z
 ·rw[Ar.nJ hx hg h0,←bz,dV GU]
  by_cases e:z=x
  ·rw[if_pos e,if_pos e];simp
  ·rw[if_neg e,if_neg e,bz]
   exact l.live z
 ·exact⟨fun h=>absurd h.1 h0,fun h=>absurd h.1 h0⟩
theorem FR(h:DC H s S w A q){g key:Int}(hg:w.has g)(WP:∀x:Int,0≤x→x<A.g.length→A.bC x<4294967295)(hq:0≤q∧q<18446744073709551615):af Tryz.prog Aj [ptr s,i64 g,i64 key] H fun v H'=>aw (
  (A.pick=none∧v= .tuple [gA 0 0,i64 32].toArray∧Kp s S H H' w A q)∨(∃x A',A.pick=some (x,A')∧v= .tuple [gA x (A.bC x+1),i64 0].toArray∧Kp s S H H' (w.put x (g,key,q+1)) (A'.out x) (q+1))):=by
 have eT:=h.slt
 obtain⟨t,vv,I,Sn,B,k,d,n,hi,m,ho,d1,d2,hS,HR⟩:=h
 refine bv AE ?_
 refine vs ?_
 have f0:ah H (H.new 114 [Value.int .i64 0,Value.int .u32 0]):=(ag.refl _ _).new _ _
 have b0:(H.new 114 [Value.int .i64 0,Value.int .u32 0]).own H.size=some [Value.int .i64 0,Value.int .u32 0]:=az _ _ _
 have z0:(H.new 114 [Value.int .i64 0,Value.int .u32 0]).size=H.size+1:=ap _ _ _
 generalize H.new 114 [Value.int .i64 0,Value.int .u32 0]=H0 at*
 have m0:=m.ext f0 (fun _ _ h=>h)
 have FG:=n.ext hi f0 (fun _ _ h=>h)
 have o0:=f0.own ho (fun h=>h)
 have aP:∀z,S z→z≠H.size:=fun z hz=>by have:=eT z hz;omega
 refine v1 (ae o0) ?_
 refine(n.has g FG).mono ?_
 rintro _ _ ⟨rfl,rfl⟩
 rw[aow hg]
 refine v1 (ae o0) ?_
 refine(Eo m0 WP).mono ?_
 rintro _ H1 (⟨hp,rfl,m1,f1⟩| ⟨x,A',hp,rfl,m1,e1⟩)
 ·have b1:=f1.own b0 (fun h=>h)
  refine vs ?_
  obtain⟨f2,b2,z2⟩:=Nq H1 114 [Value.int .i64 0,Value.int .u32 0] [i64 0,Value.int .u32 ((0:Nat):Int)]
  generalize (H1.new 114 [Value.int .i64 0,Value.int .u32 0]).wr H1.size [i64 0,Value.int .u32 ((0:Nat):Int)]=H2 at*
  have b3:=f2.own b1 (fun h=>h)
  refine am.dec (fun hh=>by omega) (fun _=>?_)
  refine v1 b3 ?_
  obtain⟨e4,b4⟩:=Lx b3 [Value.int .i64 0,Value.int .u32 0]
  refine v1 (ae b4) ?_
  have hse:ag S H (H2.wr H.size [Value.int .i64 0,Value.int .u32 0]):=by
   have h1:=(f0.trans f1).trans f2
   exact(h1.then e4 (fun z hz=>by omega)).mono fun _ _ h=>h.elim
  refine .inl ⟨hp,rfl,S,⟨t,vv,I,Sn,B,k,d,n,?_,?_,?_,d1,d2,hS,HR⟩,hse,fun z hz=>.inl hz⟩
  ·exact n.ext (n.ext (n.ext FG f1 (fun _ _ h=>h)) f2 (fun _ _ h=>h)) e4 (fun z hz=>aP z ((hS z).2 (.inl hz)))
  ·exact(m1.ext f2 (fun _ _ h=>h)).ext e4 (fun z hz=>aP z ((hS z).2 (.inr (.inl hz))))
  ·exact e4.own (f2.own (f1.own o0 (fun h=>h)) (fun h=>h)) (aP s ((hS s).2 (.inr (.inr rfl))))
 ·obtain⟨uN,mF,_,_,hAg,_,_⟩:=Ar.vH hp m.ok
  have b1:=e1.own b0 (fun h=>aP _ ((hS _).2 (.inr (.inl h))) rfl)
  have o1:=e1.own o0 d2
  have PT:=n.ext FG e1 (fun z hz=>(d1 z hz).1)
  refine vs ?_
  obtain⟨f2,b2,z2⟩:=Nq H1 114 [Value.int .i64 0,Value.int .u32 0] [i64 x,Value.int .u32 ((A.bC x+1:Nat):Int)]
  generalize (H1.new 114 [Value.int .i64 0,Value.int .u32 0]).wr H1.size [i64 x,Value.int .u32 ((A.bC x+1:Nat):Int)]=H2 at*
  have b3:=f2.own b1 (fun h=>h)
  have o2:=f2.own o1 (fun h=>h)
  have my:=n.ext PT f2 (fun _ _ h=>h)
  have m2:=m1.ext f2 (fun _ _ h=>h)
  refine am.dec (fun _=>?_) (fun hh=>absurd trivial hh)
  refine v2 (ae o2) o2 ?_
  rw[rZ (n:=q+1) (by omega) (by omega)]
  obtain⟨e4,o3⟩:=Lx o2 [i64 k,i64 d,ptr B.a,.iface t vv,u64 (q+1)]
  have PD:=aB o2
  have Ly:=e1.size
  have akn:=aB ho
  have b5:=e4.own b3 (fun e=>aP s ((hS s).2 (.inr (.inr rfl))) e.symm)
  have b6:=e4.own b2 (fun e=>by omega)
  have qN:=n.ext my e4 (fun z hz=>(d1 z hz).2)
  have m3:=m2.ext e4 (fun z hz e=>d2 (by rw[←e];exact hz))
  generalize H2.wr s [i64 k,i64 d,ptr B.a,.iface t vv,u64 (q+1)]=H3 at*
  refine v2 (ae o3) (ae b6) ?_
  refine(n.insert g x key (q+1) qN).mono ?_
  obtain⟨c,C,cq⟩:=n.cells qN
  have Du:¬cY w.cs x:=fun h=>mF ((HR.live x).1 h)
  rintro _ H4 (⟨bO,_⟩| ⟨_,rfl,Et,hi4,e5,PV⟩)
  ·exact absurd ⟨hg,by rw[HR.len];exact uN,Du⟩ bO
  have WR:=e4.size
  have JF:∀z,H.size≤z→¬Sn z:=fun z hz h=>by have:=eT z ((hS z).2 (.inl h));omega
  have b7:=e5.own b6 (JF _ (by omega))
  have b8:=e5.own b5 (JF _ (aov _))
  refine v2 (ae b7) b8 ?_
  obtain⟨e9,b9⟩:=Lx b8 [i64 x,Value.int .u32 ((A.bC x+1:Nat):Int)]
  refine v1 (ae b9) ?_
  have o4:=e5.own o3 (fun h=>(d1 _ h).2 rfl)
  have m4:=m3.ext e5 (fun z hz h=>(d1 z h).1 hz)
  have z7:=m.slt
  have hz5:=e5.size
  have Ep:∀z,B.S z→z<H.size:=z7
  have Lz:∀z,Et z→Sn z∨H.size<z:=fun z hz=>(PV z hz).imp_right fun h=>by omega
  refine .inr ⟨x,A',hp,rfl,fun z=>Et z∨B.S z∨z=s,⟨t,vv,I,Et,B,k,d,n,n.ext hi4 e9 (fun z hz e=>?_),m4.ext e9 (fun z hz e=>?_),e9.own o4 (aP s ((hS s).2 (.inr (.inr rfl)))),fun z hz=>?_,d2,fun z=>Iff.rfl,?_⟩,?_,fun z hz=>?_⟩
  ·rcases Lz z hz with h|h
   ·exact JF z (by omega) h
   ·omega
  ·have:=Ep z hz;omega
  ·rcases Lz z hz with h|h
   ·exact d1 z h
   ·exact⟨fun h2=>by have:=Ep z h2;omega,by omega⟩
  ·refine HR.put uN (v:=A.bC x+1) ?_
   have PW:A'.bC x=A.bC x:=by unfold Ar.bC;rw[hAg]
   show A'.g.set x.toNat (A'.bC x+1,true)=_
   rw[PW,hAg]
   exact aoE (fun b=>A.g.set x.toNat (A.bC x+1,b)) (aow hg.1).symm
  ·have h1:ag S H H3:=((f0.mono fun _ _ h=>h.elim).trans (e1.mono fun z _ h=>(hS z).2 (.inr (.inl h)))).trans ((f2.mono fun _ _ h=>h.elim).trans (e4.mono fun z _ h=>(hS z).2 (.inr (.inr h))))
   have h2:=h1.trans (e5.mono fun z _ h=>(hS z).2 (.inl h))
   exact⟨apb h2.size e9.size,fun z hz hn=>by rw[e9.aM z (aoH hz h2.size) (by omega),h2.aM z hz hn]⟩
  ·rcases hz with h|h
   ·rcases Lz z h with h|h
    ·exact .inl ((hS z).2 (.inl h))
    ·exact .inr (by omega)
   ·exact .inl ((hS z).2 (.inr h))
end
end Go.Proofs.YtjlnnljohemifaaGreat

namespace Go.Proofs.YtjlnnljohemifaaGreat
open Go Go.Vc
section
variable {H H' H1 H2 : Hp} {s : Nat} {S S1 : Nat → Prop} {w w2 : Nw} {A A2 : Ar} {q q2 : Int}
theorem Kp.ext{T:Nat→Prop}(h:Kp s S H H1 w A q)(e:ag T H1 H2)(hT:∀z,T z→H.size≤z)(hS:∀z,T z→∀S1,DC H1 s S1 w A q→¬S1 z):Kp s S H H2 w A q:=by
 obtain⟨S2,h3,e2,h4⟩:=h
 refine⟨S2,h3.ext e (fun z hz ht=>hS z ht S2 h3 hz),⟨apb e2.size e.size,fun z hz hn=>?_⟩,h4⟩
 rw[e.aM z (aoH hz e2.size) (fun h=>by have:=hT z h;omega),e2.aM z hz hn]
theorem zC(l:RQ w A){g x:Int}(h:w.first g x):A.live x:=by
 obtain⟨h1,h2,_⟩:=bM.1 h
 exact(l.live x).1 (bz.1 (by omega))
theorem HS(h:DC H s S w A q){g:Int}(hg:w.has g):af Tryz.prog Cb [ptr s,i64 g] H fun v H'=>aw (
  (w.len g=0∧v= .tuple [gA 0 0,i64 172].toArray∧Kp s S H H' w A q)∨(∃x,w.first g x∧v= .tuple [gA x (A.bC x),i64 0].toArray∧Kp s S H H' w A q)):=by
 have eT:=h.slt
 obtain⟨t,vv,I,Sn,B,k,d,n,hi,m,ho,d1,d2,hS,HR⟩:=h
 refine bv Co ?_
 refine vs ?_
 have f0:ah H (H.new 114 [Value.int .i64 0,Value.int .u32 0]):=(ag.refl _ _).new _ _
 have b0:(H.new 114 [Value.int .i64 0,Value.int .u32 0]).own H.size=some [Value.int .i64 0,Value.int .u32 0]:=az _ _ _
 have z0:(H.new 114 [Value.int .i64 0,Value.int .u32 0]).size=H.size+1:=ap _ _ _
 generalize H.new 114 [Value.int .i64 0,Value.int .u32 0]=H0 at*
 have m0:=m.ext f0 (fun _ _ h=>h)
 have FG:=n.ext hi f0 (fun _ _ h=>h)
 have o0:=f0.own ho (fun h=>h)
 have JF:∀z,H.size≤z→¬Sn z:=fun z hz h=>by have:=eT z ((hS z).2 (.inl h));omega
 have Ep:∀z,B.S z→z<H.size:=m.slt
 have hos:=aB ho
 refine v1 (ae o0) ?_
 refine(n.has g FG).mono ?_
 rintro _ _ ⟨rfl,rfl⟩
 rw[aow hg]
 refine v1 (ae o0) ?_
 refine(n.min g FG).mono ?_
 have fin:∀ (H1 H2:Hp) (Et:Nat→Prop),I H1 Et w→ag Sn H0 H1→(∀z,Et z→Sn z∨H0.size≤z)→ag (fun z=>z=H.size∨H1.size≤z) H1 H2→Kp s S H H2 w A q:=fun H1 H2 Et PT e1 eK e2=>by
  have Ly:=e1.size
  have dL:=e2.size
  refine⟨fun z=>Et z∨B.S z∨z=s,⟨t,vv,I,Et,B,k,d,n,n.ext PT e2 (fun z hz e=>?_),(m0.ext e1 (fun z hz h=>(d1 z h).1 hz)).ext e2 (fun z hz e=>?_),e2.own (e1.own o0 (fun h=>(d1 _ h).2 rfl)) (fun e=>by omega),fun z hz=>?_,d2,fun z=>Iff.rfl,HR⟩,?_,fun z hz=>?_⟩
  ·rcases e with e|e
   ·rcases eK z hz with h|h
    ·exact JF z (by omega) h
    ·omega
   ·have:=n.slt PT z hz;omega
  ·have:=Ep z hz;omega
  ·rcases eK z hz with h|h
   ·exact d1 z h
   ·exact⟨fun h2=>by have:=Ep z h2;omega,by omega⟩
  ·have h1:ag S H H1:=(f0.mono fun _ _ h=>h.elim).trans (e1.mono fun z _ h=>(hS z).2 (.inl h))
   exact⟨apb h1.size e2.size,fun z hz hn=>by rw[e2.aM z (aoH hz h1.size) (by omega),h1.aM z hz hn]⟩
  ·rcases hz with h|h
   ·rcases eK z h with h|h
    ·exact .inl ((hS z).2 (.inl h))
    ·exact .inr (by omega)
   ·exact .inl ((hS z).2 (.inr h))
 rintro _ H1 (⟨h0,rfl,Et,PT,e1,eK⟩| ⟨x,hx,rfl,Et,PT,e1,eK⟩)
 ·have b1:=e1.own b0 (JF _ (aov _))
  refine v1 b1 ?_
  obtain⟨e4,b4⟩:=Lx b1 [Value.int .i64 0,Value.int .u32 0]
  refine v1 (ae b4) ?_
  exact .inl ⟨h0,rfl,fin H1 _ Et PT e1 eK (e4.mono fun z _ h=>.inl h)⟩
 ·have b1:=e1.own b0 (JF _ (aov _))
  have o1:=e1.own o0 (fun h=>(d1 _ h).2 rfl)
  have m1:=m0.ext e1 (fun z hz h=>(d1 z h).1 hz)
  refine v1 (ae o1) ?_
  refine(HQ m1 (zC HR hx)).mono ?_
  rintro _ H2 ⟨rfl,f2⟩
  have b2:=f2.own b1 (fun h=>h)
  refine vs ?_
  obtain⟨f3,b3,z3⟩:=Nq H2 114 [Value.int .i64 0,Value.int .u32 0] [i64 x,Value.int .u32 ((A.bC x:Nat):Int)]
  generalize (H2.new 114 [Value.int .i64 0,Value.int .u32 0]).wr H2.size [i64 x,Value.int .u32 ((A.bC x:Nat):Int)]=H3 at*
  have b5:=f3.own b2 (fun h=>h)
  refine v2 (ae b3) b5 ?_
  obtain⟨e4,b4⟩:=Lx b5 [i64 x,Value.int .u32 ((A.bC x:Nat):Int)]
  refine v1 (ae b4) ?_
  exact .inr ⟨x,hx,rfl,fin H1 _ Et PT e1 eK (((f2.trans f3).mono fun _ _ h=>h.elim).trans (e4.mono fun z _ h=>.inl h))⟩
theorem yj(h:DC H s S w A q){x:Int}(hx:A.live x):af Tryz.prog Cc [ptr s,gA x (A.bC x)] H fun v H'=>aw (∃y,w.cs[x.toNat]? =some y∧v= .tuple [tL y.2.1 y.2.2,i64 0].toArray∧Kp s S H H' w A q):=by
 have eT:=h.slt
 obtain⟨t,vv,I,Sn,B,k,d,n,hi,m,ho,d1,d2,hS,HR⟩:=h
 refine Fa Cp ⟨rfl,?_⟩
 refine v1 pX.eq_1 ?_
 have f0:ah H ((H.new 114 [i64 x,.int .u32 (A.bC x:Int)]).new 224 [Value.int .i64 0,Value.int .u64 0]):=((ag.refl _ _).new _ _).new _ _
 have b0:((H.new 114 [i64 x,.int .u32 (A.bC x:Int)]).new 224 [Value.int .i64 0,Value.int .u64 0]).own H.size=some [i64 x,.int .u32 (A.bC x:Int)]:=by
  rw[cu (by simp only[ap];omega),az]
 have c0:((H.new 114 [i64 x,.int .u32 (A.bC x:Int)]).new 224 [Value.int .i64 0,Value.int .u64 0]).own (H.size+1)=some [Value.int .i64 0,Value.int .u64 0]:=aU (by simp only[ap])
 have z0:((H.new 114 [i64 x,.int .u32 (A.bC x:Int)]).new 224 [Value.int .i64 0,Value.int .u64 0]).size=H.size+1+1:=by simp only[ap]
 generalize (H.new 114 [i64 x,.int .u32 (A.bC x:Int)]).new 224 [Value.int .i64 0,Value.int .u64 0]=H0 at*
 have m0:=m.ext f0 (fun _ _ h=>h)
 have FG:=n.ext hi f0 (fun _ _ h=>h)
 have o0:=f0.own ho (fun h=>h)
 have JF:∀z,H.size≤z→¬Sn z:=fun z hz h=>by have:=eT z ((hS z).2 (.inl h));omega
 have Ep:∀z,B.S z→z<H.size:=m.slt
 have hos:=aB ho
 refine v2 (ae o0) (ae b0) ?_
 refine(sU m0 x (A.bC x)).mono ?_
 rintro _ H1 ⟨rfl,f1⟩
 rw[aow ⟨hx,rfl⟩]
 have m1:=m0.ext f1 (fun _ _ h=>h)
 have PT:=n.ext FG f1 (fun _ _ h=>h)
 have o1:=f1.own o0 (fun h=>h)
 have b1:=f1.own b0 (fun h=>h)
 have c1:=f1.own c0 (fun h=>h)
 have z1:=f1.size
 have bJ:cY w.cs x:=(HR.live x).2 hx
 have fin:∀H2,I H2 Sn w→ag (fun z=>z=H.size+1∨H1.size≤z) H1 H2→Kp s S H H2 w A q:=fun H2 my e2=>by
  have h1:ag S H H1:=(f0.trans f1).mono fun _ _ h=>h.elim
  refine⟨S,⟨t,vv,I,Sn,B,k,d,n,my,m1.ext e2 (fun z hz e=>by have:=Ep z hz;omega),e2.own o1 (fun e=>by omega),d1,d2,hS,HR⟩,⟨apb h1.size e2.size,fun z hz hn=>by rw[e2.aM z (aoH hz h1.size) (by omega),h1.aM z hz hn]⟩,fun z hz=>.inl hz⟩
 refine vs ?_
 refine jB.intro (fun H'=>H'.own s=some [i64 k,i64 d,ptr B.a,.iface t vv,u64 q]∧H'.own H.size=some [i64 x,.int .u32 (A.bC x:Int)]) ⟨o1,b1⟩ ?_
 refine vs ?_
 refine fJ.intro (.iface t vv) (fun H' hI=>by refine v1 (ae hI.1) ?_;trivial) ?_
 refine vs ?_
 refine fJ.intro (i64 x) (fun H' hI=>by refine v1 (ae hI.2) ?_;trivial) ?_
 refine vs ?_
 refine EN.intro ?_ ?_
 ·refine vs ?_
  refine(n.entry x PT).mono ?_
  rintro _ H2 ⟨my,f2,⟨bO,_⟩| ⟨_,y,hy,rfl⟩⟩
  ·exact absurd bJ bO
  have o2:=f2.own o1 (fun h=>h)
  have b2:=f2.own b1 (fun h=>h)
  have c2:=f2.own c1 (fun h=>h)
  have z2:=f2.size
  refine And.intro ⟨o2,b2⟩ ?_
  refine vs ?_
  refine And.intro ⟨o2,b2⟩ ?_
  refine vs ?_
  refine And.intro ⟨o2,b2⟩ ?_
  refine vs ?_
  obtain⟨f3,b3,z3⟩:=Nq H2 224 [Value.int .i64 0,Value.int .u64 0] [i64 y.2.1,u64 y.2.2]
  generalize (H2.new 224 [Value.int .i64 0,Value.int .u64 0]).wr H2.size [i64 y.2.1,u64 y.2.2]=H3 at*
  have c3:=f3.own c2 (fun h=>h)
  refine v2 (ae b3) c3 ?_
  obtain⟨e4,b4⟩:=Lx c3 [i64 y.2.1,u64 y.2.2]
  refine v1 (ae b4) ?_
  exact⟨y,hy,rfl,fin _ (n.ext (n.ext my f3 (fun _ _ h=>h)) e4 (fun z hz e=>JF z (by omega) hz)) (((f2.trans f3).mono fun _ _ h=>h.elim).trans (e4.mono fun z _ h=>.inl h))⟩
 ·refine vs ?_
  refine And.intro ⟨o1,b1⟩ ?_
  have f4:ah H1 (H1.new 224 [Value.int .i64 0,Value.int .u64 0]):=(ag.refl _ _).new _ _
  have b4:(H1.new 224 [Value.int .i64 0,Value.int .u64 0]).own H1.size=some [Value.int .i64 0,Value.int .u64 0]:=az _ _ _
  have z4:(H1.new 224 [Value.int .i64 0,Value.int .u64 0]).size=H1.size+1:=ap _ _ _
  generalize H1.new 224 [Value.int .i64 0,Value.int .u64 0]=H4 at*
  refine vs ?_
  refine(n.entry x (n.ext PT f4 (fun _ _ h=>h))).mono ?_
  rintro _ H2 ⟨my,f2,⟨bO,_⟩| ⟨_,y,hy,rfl⟩⟩
  ·exact absurd bJ bO
  have o2:=f2.own (f4.own o1 (fun h=>h)) (fun h=>h)
  have b2:=f2.own (f4.own b1 (fun h=>h)) (fun h=>h)
  have c2:=f2.own (f4.own c1 (fun h=>h)) (fun h=>h)
  have b5:=f2.own b4 (fun h=>h)
  have z2:=f2.size
  refine And.intro ⟨o2,b2⟩ ?_
  refine v1 b5 ?_
  obtain⟨e6,b6⟩:=Lx b5 [i64 y.2.1,u64 y.2.2]
  have o6:=e6.own o2 (fun e=>by omega)
  have b26:=e6.own b2 (fun e=>by omega)
  have c6:=e6.own c2 (fun e=>by omega)
  have hn6:=n.ext my e6 (fun z hz e=>JF z (by omega) hz)
  have e26:ag (fun z=>z=H.size+1∨H1.size≤z) H1 (H2.wr H1.size [i64 y.2.1,u64 y.2.2]):=((f4.trans f2).mono fun _ _ h=>h.elim).trans (e6.mono fun z _ h=>.inr (by omega))
  generalize H2.wr H1.size [i64 y.2.1,u64 y.2.2]=H6 at*
  first
   |refine And.intro ⟨o6,b26⟩ ?_
   |refine And.intro ⟨o2,b2⟩ ?_
  refine v2 (ae b6) c6 ?_
  obtain⟨e7,b7⟩:=Lx c6 [i64 y.2.1,u64 y.2.2]
  refine v1 (ae b7) ?_
  exact⟨y,hy,rfl,fin _ (n.ext hn6 e7 (fun z hz e=>JF z (by omega) hz)) (e26.trans (e7.mono fun z _ h=>.inl h))⟩
end
end Go.Proofs.YtjlnnljohemifaaGreat

namespace Go.Proofs.YtjlnnljohemifaaGreat
open Go Go.Vc
section
variable {H H' H1 H2 : Hp} {s : Nat} {S S1 : Nat → Prop} {w w2 : Nw} {A A2 : Ar} {q q2 : Int}
theorem DC.tmp{b:Nat}{l:List Value}(h:DC H1 s S1 w A q)(hb:¬S1 b):DC (H1.wr b l) s S1 w A q:=h.ext ((ag.refl (fun x=>x=b) _).wr (fun _=>rfl) _:ag (fun x=>x=b) H1 _) (fun z hz e=>hb (by rw[←e];exact hz))
theorem EP(h:DC H2 s S1 w A q)(e:ag S H H2)(hs:∀z,S1 z→S z∨H.size≤z):Kp s S H H2 w A q:=⟨S1,h,e,hs⟩
theorem EQ{b:Nat}{l:List Value}(e:ag S H H1)(hb:H.size≤b):ag S H (H1.wr b l):=by
 have e2:ag (fun x=>x=b) H1 (H1.wr b l):=(ag.refl (fun x=>x=b) _).wr (fun _=>rfl) _
 exact⟨apb e.size e2.size,fun z hz hn=>by rw[e2.aM z (aoH hz e.size) (by omega),e.aM z hz hn]⟩
theorem LA(h:DC H s S w A q){g:Int}(hg:w.has g):af Tryz.prog Ff [ptr s,i64 g] H fun v H'=>aw (
  (w.len g=0∧v= .tuple [gA 0 0,i64 0,i64 172].toArray∧Kp s S H H' w A q)∨(∃x y,w.first g x∧w.cs[x.toNat]? =some y∧v= .tuple [gA x (A.bC x),i64 y.2.1,i64 0].toArray∧Kp s S H H' w A q)):=by
 have eT:=h.slt
 have HR:=h.lnk.1
 refine bv Fl ?_
 refine vs ?_
 have f0:ah H (H.new 114 [Value.int .i64 0,Value.int .u32 0]):=(ag.refl _ _).new _ _
 have b0:(H.new 114 [Value.int .i64 0,Value.int .u32 0]).own H.size=some [Value.int .i64 0,Value.int .u32 0]:=az _ _ _
 have z0:(H.new 114 [Value.int .i64 0,Value.int .u32 0]).size=H.size+1:=ap _ _ _
 generalize H.new 114 [Value.int .i64 0,Value.int .u32 0]=H0 at*
 have h0:=h.ext f0 (fun _ _ h=>h)
 have QW:∀z,H.size≤z→¬S z:=fun z hz h=>by have:=eT z h;omega
 refine(HS h0 hg).mono ?_
 rintro _ H1 (⟨Vn,rfl,S1,h1,e1,eK⟩| ⟨x,hx,rfl,S1,h1,e1,eK⟩)
 ·have b1:=e1.own b0 (QW _ (aov _))
  have Ly:=e1.size
  refine vs ?_
  obtain⟨f2,b2,z2⟩:=Nq H1 114 [Value.int .i64 0,Value.int .u32 0] [i64 0,Value.int .u32 ((0:Nat):Int)]
  generalize (H1.new 114 [Value.int .i64 0,Value.int .u32 0]).wr H1.size [i64 0,Value.int .u32 ((0:Nat):Int)]=H2 at*
  have b3:=f2.own b1 (fun h=>h)
  refine am.dec (fun hh=>by omega) (fun _=>?_)
  refine v1 b3 ?_
  obtain⟨e4,b4⟩:=Lx b3 [Value.int .i64 0,Value.int .u32 0]
  have e2:ag S H H2:=((f0.mono fun _ _ h=>h.elim).trans e1).trans (f2.mono fun _ _ h=>h.elim)
  have vW:¬S1 H.size:=fun h=>by rcases eK _ h with h|h;exact QW _ (aov _) h;omega
  have h3:=((h1.ext f2 (fun _ _ h=>h)).tmp vW (l:=[Value.int .i64 0,Value.int .u32 0]))
  have e5:=EQ (l:=[Value.int .i64 0,Value.int .u32 0]) e2 (aov H.size)
  refine v1 (ae b4) ?_
  exact .inl ⟨Vn,rfl,EP h3 e5 (fun z hz=>(eK z hz).imp_right fun h=>by omega)⟩
 ·have b1:=e1.own b0 (QW _ (aov _))
  have Ly:=e1.size
  have jT:=zC HR hx
  refine vs ?_
  obtain⟨f2,b2,z2⟩:=Nq H1 114 [Value.int .i64 0,Value.int .u32 0] [i64 x,Value.int .u32 ((A.bC x:Nat):Int)]
  generalize (H1.new 114 [Value.int .i64 0,Value.int .u32 0]).wr H1.size [i64 x,Value.int .u32 ((A.bC x:Nat):Int)]=H2 at*
  have b3:=f2.own b1 (fun h=>h)
  have h2:=h1.ext f2 (fun _ _ h=>h)
  refine am.dec (fun _=>?_) (fun hh=>absurd trivial hh)
  refine v1 (ae b2) ?_
  have WS:=h1.slt
  refine(yj h2 jT).mono ?_
  rintro _ H3 ⟨y,hy,rfl,S3,h3,e3,GR⟩
  have vW:¬S1 H.size:=fun h=>by rcases eK _ h with h|h;exact QW _ (aov _) h;omega
  have Ds:¬S1 H1.size:=fun h=>by have:=WS _ h;omega
  have b4:=e3.own b3 vW
  have c4:=e3.own b2 Ds
  have MH:=e3.size
  refine vs ?_
  obtain⟨f5,b5,z5⟩:=Nq H3 224 [Value.int .i64 0,Value.int .u64 0] [i64 y.2.1,u64 y.2.2]
  generalize (H3.new 224 [Value.int .i64 0,Value.int .u64 0]).wr H3.size [i64 y.2.1,u64 y.2.2]=H5 at*
  have b6:=f5.own b4 (fun h=>h)
  have c6:=f5.own c4 (fun h=>h)
  have h5:=h3.ext f5 (fun _ _ h=>h)
  have hn3:∀b,¬S1 b→b<H2.size→¬S3 b:=fun b hb oR h=>by rcases GR _ h with h|h;exact hb h;omega
  have e5:ag S H H5:=by
   have e2:ag S H H2:=((f0.mono fun _ _ h=>h.elim).trans e1).trans (f2.mono fun _ _ h=>h.elim)
   have Zc:ag S H H3:=⟨apb e2.size e3.size,fun z hz hn=>by rw[e3.aM z (aoH hz e2.size) (fun h=>by rcases eK z h with h|h;exact hn h;omega),e2.aM z hz hn]⟩
   exact Zc.trans (f5.mono fun _ _ h=>h.elim)
  refine jB.intro (fun H'=>H'.own H3.size=some [i64 y.2.1,u64 y.2.2]) b5 ?_
  refine vs ?_
  refine fJ.intro (i64 y.2.1) (fun H' hI=>by refine v1 (ae hI) ?_;trivial) ?_
  refine v1 (ae c6) ?_
  refine And.intro b5 ?_
  refine v1 b6 ?_
  obtain⟨e7,b7⟩:=Lx b6 [i64 x,Value.int .u32 ((A.bC x:Nat):Int)]
  have b57:=e7.own b5 (fun e=>by omega)
  first
   |refine And.intro b57 ?_
   |refine And.intro b5 ?_
  have h7:=h5.tmp (hn3 _ vW (by omega)) (l:=[i64 x,Value.int .u32 ((A.bC x:Nat):Int)])
  have e8:=EQ (l:=[i64 x,Value.int .u32 ((A.bC x:Nat):Int)]) e5 (aov H.size)
  refine v1 (ae b7) ?_
  refine .inr ⟨x,y,hx,hy,rfl,EP h7 e8 (fun z hz=>?_)⟩
  rcases GR z hz with h|h
  ·exact(eK z h).imp_right fun h=>by omega
  ·exact .inr (by omega)
theorem PX{g x x':Int}(h:w.first g x)(h':w.first g x'):x'=x:=by
 obtain⟨_,h2,h3⟩:=bM.1 h
 obtain⟨_,h5,h6⟩:=bM.1 h'
 apply aoI
 intro aP
 have:=(au w).asym (h3 x' h5 aP)
 rw[h6 x h2 (Ne.symm aP)]at this
 cases this
theorem zD(h:DC H s S w A q){g:Int}(hg:w.has g):af Tryz.prog jD [ptr s,i64 g] H fun v H'=>aw (
  (w.len g=0∧v= .tuple [gA 0 0,i64 0,i64 172].toArray∧Kp s S H H' w A q)∨(∃x y,w.first g x∧w.cs[x.toNat]? =some y∧v= .tuple [gA x (A.bC x),i64 y.2.1,i64 0].toArray∧Kp s S H H' (w.put x (0,0,0)) (A.back x) q)):=by
 have eT:=h.slt
 have HR:=h.lnk.1
 refine bv tu ?_
 refine vs ?_
 have f0:ah H (H.new 114 [Value.int .i64 0,Value.int .u32 0]):=(ag.refl _ _).new _ _
 have b0:(H.new 114 [Value.int .i64 0,Value.int .u32 0]).own H.size=some [Value.int .i64 0,Value.int .u32 0]:=az _ _ _
 have z0:(H.new 114 [Value.int .i64 0,Value.int .u32 0]).size=H.size+1:=ap _ _ _
 generalize H.new 114 [Value.int .i64 0,Value.int .u32 0]=H0 at*
 have h0:=h.ext f0 (fun _ _ h=>h)
 have QW:∀z,H.size≤z→¬S z:=fun z hz h=>by have:=eT z h;omega
 refine(LA h0 hg).mono ?_
 rintro _ H1 (⟨Vn,rfl,S1,h1,e1,eK⟩| ⟨x,y,hx,hy,rfl,S1,h1,e1,eK⟩)
 ·have b1:=e1.own b0 (QW _ (aov _))
  have Ly:=e1.size
  refine vs ?_
  obtain⟨f2,b2,z2⟩:=Nq H1 114 [Value.int .i64 0,Value.int .u32 0] [i64 0,Value.int .u32 ((0:Nat):Int)]
  generalize (H1.new 114 [Value.int .i64 0,Value.int .u32 0]).wr H1.size [i64 0,Value.int .u32 ((0:Nat):Int)]=H2 at*
  have b3:=f2.own b1 (fun h=>h)
  refine am.dec (fun hh=>by omega) (fun _=>?_)
  refine v1 b3 ?_
  obtain⟨e4,b4⟩:=Lx b3 [Value.int .i64 0,Value.int .u32 0]
  have e2:ag S H H2:=((f0.mono fun _ _ h=>h.elim).trans e1).trans (f2.mono fun _ _ h=>h.elim)
  have vW:¬S1 H.size:=fun h=>by rcases eK _ h with h|h;exact QW _ (aov _) h;omega
  have h3:=((h1.ext f2 (fun _ _ h=>h)).tmp vW (l:=[Value.int .i64 0,Value.int .u32 0]))
  have e5:=EQ (l:=[Value.int .i64 0,Value.int .u32 0]) e2 (aov H.size)
  refine v1 (ae b4) ?_
  exact .inl ⟨Vn,rfl,EP h3 e5 (fun z hz=>(eK z hz).imp_right fun h=>by omega)⟩
 ·have b1:=e1.own b0 (QW _ (aov _))
  have Ly:=e1.size
  have jT:=zC HR hx
  refine vs ?_
  obtain⟨f2,b2,z2⟩:=Nq H1 114 [Value.int .i64 0,Value.int .u32 0] [i64 x,Value.int .u32 ((A.bC x:Nat):Int)]
  generalize (H1.new 114 [Value.int .i64 0,Value.int .u32 0]).wr H1.size [i64 x,Value.int .u32 ((A.bC x:Nat):Int)]=H2 at*
  have b3:=f2.own b1 (fun h=>h)
  have WS:=h1.slt
  have h2:=h1.ext f2 (fun _ _ h=>h)
  have vW:¬S1 H.size:=fun h=>by rcases eK _ h with h|h;exact QW _ (aov _) h;omega
  have Ds:¬S1 H1.size:=fun h=>by have:=WS _ h;omega
  obtain⟨t,vv,I,Sn,B,k,d,n,hi,m,ho,d1,d2,hS,_⟩:=h2
  refine am.dec (fun _=>?_) (fun hh=>absurd trivial hh)
  refine v1 (ae ho) ?_
  refine(n.extract g hi).mono ?_
  have Ep:∀z,B.S z→z<H2.size:=m.slt
  have hos:=aB ho
  rintro _ H3 (⟨Vn,_⟩| ⟨x',xu,rfl,Et,qN,e3,GR⟩)
  ·exfalso
   obtain⟨RR,OS,_⟩:=bM.1 hx
   exact(uG RR).1 Vn x OS
  obtain rfl:=PX hx xu
  have MI:=e3.own ho (fun h=>(d1 _ h).2 rfl)
  have b4:=e3.own b3 (fun h=>vW ((hS _).2 (.inl h)))
  have c4:=e3.own b2 (fun h=>Ds ((hS _).2 (.inl h)))
  have m3:=m.ext e3 (fun z hz h=>(d1 z h).1 hz)
  have MH:=e3.size
  refine v2 (ae MI) (ae c4) ?_
  refine(Er m3 jT).mono ?_
  rintro _ H4 ⟨rfl,RP,m4,e4,QU⟩
  have nB1:¬B.S H.size:=fun h=>vW ((hS _).2 (.inr (.inl h)))
  have nB2:¬B.S H1.size:=fun h=>Ds ((hS _).2 (.inr (.inl h)))
  have b5:=e4.own b4 nB1
  have c5:=e4.own c4 nB2
  have ho4:=e4.own MI d2
  have WR:=e4.size
  refine v2 (ae c5) b5 ?_
  obtain⟨e6,b6⟩:=Lx b5 [i64 x',Value.int .u32 ((A.bC x':Nat):Int)]
  refine v1 (ae b6) ?_
  have Lz:∀z,Et z→Sn z∨H2.size≤z:=GR
  have hB':∀z,(T6.mk B.a B.sb RP).S z→B.S z∨H3.size≤z:=fun z hz=>by
   rcases hz with h|h|h
   ·exact .inl (.inl h)
   ·exact .inl (.inr (.inl h))
   ·exact(QU z h).imp_left fun h=>.inr (.inr h)
  have hiT:I H4 Et (w.put x' (0,0,0)):=n.ext qN e4 (fun z hz hb=>by
   rcases Lz z hz with h|h
   ·exact(d1 z h).1 hb
   ·have:=Ep z hb;omega)
  have aaW:=fun z hz=>n.slt qN z hz
  have nn1:∀b,¬S1 b→b<H2.size→¬Et b∧¬ (T6.mk B.a B.sb RP).S b:=fun b hb oR=>by
   refine⟨fun h=>?_,fun h=>?_⟩
   ·rcases Lz b h with h|h
    ·exact hb ((hS b).2 (.inl h))
    ·omega
   ·rcases hB' b h with h|h
    ·exact hb ((hS b).2 (.inr (.inl h)))
    ·omega
  have afE:H.size≠s:=fun e=>vW ((hS _).2 (.inr (.inr e)))
  have uN:=Ar.Bj jT
  have uE:DC H4 s (fun z=>Et z∨(T6.mk B.a B.sb RP).S z∨z=s) (w.put x' (0,0,0)) (A.back x') q:=by
   refine⟨t,vv,I,Et,⟨B.a,B.sb,RP⟩,k,d,n,hiT,m4,ho4,fun z hz=>?_,fun h=>?_,fun z=>Iff.rfl,HR.put uN rfl⟩
   ·rcases Lz z hz with h|h
    ·refine⟨fun hb=>?_,(d1 z h).2⟩
     rcases hB' z hb with h2|h2
     ·exact(d1 z h).1 h2
     ·have:=aaW z hz;omega
    ·refine⟨fun hb=>?_,fun e=>by omega⟩
     rcases hB' z hb with h2|h2
     ·have:=Ep z h2;omega
     ·have:=aaW z hz;omega
   ·rcases hB' _ h with h2|h2
    ·exact d2 h2
    ·omega
  have afF:=uE.tmp (b:=H.size) (l:=[i64 x',Value.int .u32 ((A.bC x':Nat):Int)]) (fun h=>by
   obtain⟨q1,q2⟩:=nn1 _ vW (by omega)
   rcases h with h|h|h
   ·exact q1 h
   ·exact q2 h
   ·exact afE h)
  have e04:ag S H H4:=by
   have e2:ag S H H2:=((f0.mono fun _ _ h=>h.elim).trans e1).trans (f2.mono fun _ _ h=>h.elim)
   exact⟨by have:=e2.size;omega,fun z hz hn=>by
    have dL:=e2.size
    have WT:¬S1 z:=fun h=>by rcases eK z h with h|h;exact hn h;omega
    rw[e4.aM z (by omega) (fun h=>WT ((hS z).2 (.inr (.inl h)))),e3.aM z (by omega) (fun h=>WT ((hS z).2 (.inl h))),e2.aM z hz hn]⟩
  have dL:=f2.size
  refine .inr ⟨x',y,hx,hy,rfl,EP afF (EQ e04 (aov _)) (fun z hz=>?_)⟩
  have Kl:S1 z∨H2.size≤z:=by
   rcases hz with h|h|h
   ·rcases Lz z h with h|h
    ·exact .inl ((hS z).2 (.inl h))
    ·exact .inr h
   ·rcases hB' z h with h|h
    ·exact .inl ((hS z).2 (.inr (.inl h)))
    ·exact .inr (by omega)
   ·exact .inl ((hS z).2 (.inr (.inr h)))
  rcases Kl with h|h
  ·exact(eK z h).imp_right fun h=>by omega
  ·exact .inr (by omega)
end
end Go.Proofs.YtjlnnljohemifaaGreat

namespace Go.Proofs.YtjlnnljohemifaaGreat
open Go Go.Vc
abbrev Nr(kd dd:Int):Value:=.agg [i64 kd,i64 dd].toArray
def gD(kd dd:Int):Prop:=(1≤kd∧kd≤8)∧((kd=2∧2≤dd∧dd≤16)∨(kd≠2∧dd=0))
instance(kd dd:Int):Decidable (gD kd dd):=by unfold gD;exact inferInstance
def RS(kd dd:Int):Int:=if kd<1∨8<kd then 21 else if gD kd dd then 0 else 22
theorem RT{kd dd:Int}(h:kd<1∨8<kd):RS kd dd=21:=by unfold RS;rw[if_pos h]
theorem LC{kd dd:Int}(h:gD kd dd):RS kd dd=0:=by
 have:=h.1
 unfold RS
 rw[if_neg (by omega),if_pos h]
theorem RU{kd dd:Int}(h1:¬ (kd<1∨8<kd))(h:¬gD kd dd):RS kd dd=22:=by unfold RS;rw[if_neg h1,if_neg h]
theorem LD{kd dd:Int}:RS kd dd=0↔gD kd dd:=by
 constructor
 ·intro h
  apply aoI
  intro hn
  by_cases h1:kd<1∨8<kd
  ·rw[RT h1]at h;cases h
  ·rw[RU h1 hn]at h;cases h
 ·exact LC
theorem nK(kd dd:Int)(H:Hp):af Tryz.prog G7 [Nr kd dd] H fun v H'=>aw (v=i64 (RS kd dd)∧ah H H'):=by
 refine bv Hq ?_
 refine vs ?_
 have f0:ah H (H.new 23 [i64 kd,i64 dd]):=(ag.refl _ _).new _ _
 repeat' (refine am.dec (fun _=>?_) (fun _=>?_)<;>try(refine v1 aoZ ?_))
 all_goals
  first
   | (exfalso;omega)
   | (refine⟨?_,f0⟩;exact(aoE i64 (RT (by omega))).symm)
   | (refine⟨?_,f0⟩;exact(aoE i64 (LC (by unfold gD;omega))).symm)
   | (refine⟨?_,f0⟩;exact(aoE i64 (RU (by omega) (by unfold gD;omega))).symm)
theorem FS(kd dd:Int)(H:Hp):af Tryz.prog G2 [Nr kd dd] H fun v H'=>aw (v=i64 (RS kd dd)∧ah H H'):=by
 refine bv Hk ?_
 refine vs ?_
 have f0:ah H (H.new 23 [i64 kd,i64 dd]):=(ag.refl _ _).new _ _
 repeat' (refine am.dec (fun _=>?_) (fun _=>?_)<;>try(refine v1 aoZ ?_))
 all_goals
  first
   | (exfalso;omega)
   | (refine⟨?_,f0⟩;exact(aoE i64 (RT (by omega))).symm)
   | (refine⟨?_,f0⟩;exact(aoE i64 (LC (by unfold gD;omega))).symm)
   | (refine⟨?_,f0⟩;exact(aoE i64 (RU (by omega) (by unfold gD;omega))).symm)
theorem oz{kd dd:Int}(hf:gD kd dd)(hk:kd=1∨kd=2)(H:Hp):af Tryz.prog Hc [Nr kd dd] H fun v H'=>aw (v=i64 (if kd=1 then 2 else dd)∧ah H H'):=by
 refine bv Hu ?_
 refine vs ?_
 have f0:ah H (H.new 23 [i64 kd,i64 dd]):=(ag.refl _ _).new _ _
 have o0:(H.new 23 [i64 kd,i64 dd]).own H.size=some [i64 kd,i64 dd]:=az _ _ _
 generalize H.new 23 [i64 kd,i64 dd]=H0 at*
 refine(nK kd dd H0).mono ?_
 rintro _ H1 ⟨rfl,f1⟩
 have o1:=f1.own o0 (fun h=>h)
 rw[LC hf]
 refine v2 (ae o1) aoZ ?_
 rcases hk with rfl|rfl
 ·refine am.cQ (by decide) ?_
  refine v2 (ae o1) aoZ ?_
  exact⟨rfl,f0.trans f1⟩
 ·refine am.aY (by decide) ?_
  refine v2 (ae o1) aoZ ?_
  exact⟨rfl,f0.trans f1⟩
structure RV(w:Nw)(L:List Lk)(tops:List Int):Prop where
 bt:Ac (aG w) (aQ w) (bc L) (bq L) (bm tops)
 tl:tops.length=w.hs.length
def dA(n:Nat)(H:Hp)(S:Nat→Prop)(w:Nw):Prop:=∃ (B:LB) (C:Nat→Prop) (L:List Lk) (rs tops:List Int),B.n=n∧c7 H B C w L rs tops∧RV w L tops∧∀z,S z↔B.S C z
theorem dA.slt{n:Nat}{H:Hp}{S:Nat→Prop}{w:Nw}(h:dA n H S w):∀z,S z→z<H.size:=by
 obtain⟨B,C,L,rs,tops,rfl,m,l,hS⟩:=h
 exact fun z hz=>m.slt z ((hS z).1 hz)
theorem dA.ext{n:Nat}{H H':Hp}{S T:Nat→Prop}{w:Nw}(h:dA n H S w)(e:ag T H H')(hd:∀z,S z→¬T z):dA n H' S w:=by
 obtain⟨B,C,L,rs,tops,rfl,m,l,hS⟩:=h
 exact⟨B,C,L,rs,tops,rfl,m.ext e (fun z hz=>hd z ((hS z).2 hz)),l,hS⟩
theorem xy{n:Nat}{H:Hp}{S:Nat→Prop}{w:Nw}(h:dA n H S w)(g x k s:Int):af Tryz.prog jG [ptr n,i64 g,i64 x,tL k s] H fun v H'=>aw (
  (¬w.lN g x∧v= .bool false∧cB (dA n) S H H' w)∨(w.lN g x∧v= .bool true∧cB (dA n) S H H' (w.put x (g,k,s)))):=by
 obtain⟨B,C,L,rs,tops,rfl,m,l,hS⟩:=h
 refine Fa tG ⟨rfl,?_⟩
 refine v1 jP.eq_1 ?_
 have f0:ah H (H.new 224 [i64 k,u64 s]):=(ag.refl _ _).new _ _
 have b0:(H.new 224 [i64 k,u64 s]).own H.size=some [i64 k,u64 s]:=az _ _ _
 have m0:=m.fresh f0
 generalize H.new 224 [i64 k,u64 s]=H0 at*
 obtain⟨tv,HT,_⟩:=m0.own
 refine v2 (ae HT) (ae b0) ?_
 refine(kZ m0.cells g x k s).mono ?_
 rintro _ H1 (⟨bO,rfl,c1,e1⟩| ⟨qw,rfl,c1,e1⟩)
 ·refine vs ?_
  exact .inl ⟨bO,rfl,cB.same ⟨B,C,L,rs,tops,rfl,m0.aJ c1 e1 rfl,l,hS⟩ ((f0.mono fun _ _ h=>h.elim).trans (e1.mono fun z _ hz=>(hS z).2 (.inl hz)))⟩
 obtain⟨hh,hx,bJ⟩:=id qw
 have m1:=m0.aJ c1 e1 (by simp[Nw.put])
 have aZ:=m1.len
 have mF:(w.put x (g,k,s)).cs.length=w.cs.length:=by simp[Nw.put]
 obtain⟨CR,o1,_⟩:=m1.own
 refine v1 (ae o1) ?_
 refine⟨⟨by omega,by omega⟩,?_⟩
 refine v3 m1.CP aoi aol ?_
 refine⟨by rw[aoF];omega,?_⟩
 refine vs ?_
 obtain⟨m2,e2⟩:c7 (H1.wr B.rk ((rs.map i64).set x.toNat (Value.int .i64 1))) B C _ L (rs.set x.toNat 1) tops∧ag (fun z=>z=B.rk) H1 (H1.wr B.rk ((rs.map i64).set x.toNat (Value.int .i64 1))):=m1.Nn x.toNat 1
 generalize H1.wr B.rk ((rs.map i64).set x.toNat (Value.int .i64 1))=H2 at*
 obtain⟨cc,lt,o2,q2,vC,sC,OT⟩:=m2.fT
 refine jB.intro (fun H'=>H'.own B.n=some [ptr B.c,ptr B.t,.slice (some ⟨B.rk,0,none⟩) (rs.set x.toNat 1).length (rs.set x.toNat 1).length,.slice (some ⟨B.tp,0,none⟩) tops.length cc]) o2 ?_
 refine vs ?_
 refine fJ.intro (.slice (some ⟨B.tp,0,none⟩) tops.length cc) (fun H' hI=>by refine v1 (ae hI) ?_;trivial) ?_
 refine v1 (ae o2) ?_
 have hg:=hh.1
 have dk:g<tops.length:=by
  have:=(aoj.1 hh.2).1
  have:=l.tl
  omega
 have q3:=m2.eR q2 (dW (tops:=tops) (h:=g) (by omega) dk)
 have cN:=fun y=>dV hx (g,k,s) y
 have bo:TG (aG (w.put x (g,k,s))) (aQ (w.put x (g,k,s))) (bc L) (bq L) (bm tops) g x:=by
  refine l.bt.ins rfl (Int.not_lt.1 fun h=>bJ (bz.1 h)) (by omega) (by omega) (by rw[cN,if_pos rfl]) (fun y hy=>by rw[cN,if_neg hy]) (fun a b ha hb tS mq=>dw hx _ ha hb tS mq)
 refine And.intro o2 ?_
 refine vs ?_
 refine⟨⟨by omega,by omega⟩,?_⟩
 refine v4 (ae q2) aoi aol q3 ?_
 refine And.intro o2 ?_
 refine vs ?_
 refine(iq m2 bo.mg).mono ?_
 rintro _ H3 ⟨r,L3,rs3,rfl,m3,g3,_,e3⟩
 have bn:=bo.done g3
 obtain⟨d1,d2,d3,d4⟩:=m2.ml.1
 have no:¬ (C B.n∨B.n=B.tl∨B.n=B.rk):=by rintro(h|h|h);exact m2.out.1 h;omega;omega
 refine And.intro (e3.own o2 no) ?_
 have q4:=e3.own q2 (by obtain⟨_,⟨_,_,d7⟩,⟨_,d9⟩,d10⟩:=m2.ml;rintro(h|h|h);exact m2.out.2.2.2.2 h;omega;omega)
 refine vs ?_
 refine⟨⟨by omega,by omega⟩,?_⟩
 refine v3 q4 aoi aol ?_
 refine⟨by omega,?_⟩
 obtain⟨m4,e4⟩:=m3.ld q4 g.toNat r
 refine And.intro (e4.own (e3.own o2 no) d4) ?_
 refine vs ?_
 refine .inr ⟨qw,rfl,B.S C,⟨B,C,L3,rs3,_,rfl,m4,⟨?_,by rw[aok];exact l.tl⟩,fun z=>Iff.rfl⟩,?_,fun z hz=>.inl ((hS z).2 hz)⟩
 ·rw[eD (by omega) dk]
  exact bn
 ·have hC:∀z,C z→S z:=fun z h=>(hS z).2 (.inl h)
  have h1:S B.tl:=(hS _).2 (.inr (.inr (.inr (.inl rfl))))
  have h2:S B.rk:=(hS _).2 (.inr (.inr (.inr (.inr (.inl rfl)))))
  have h3:S B.tp:=(hS _).2 (.inr (.inr (.inr (.inr (.inr rfl)))))
  exact(((((f0.mono fun _ _ h=>h.elim).trans (e1.mono fun z _ h=>hC z h)).trans (e2.mono fun z _ h=>h▸h2)).trans (e3.mono fun z _ h=>by rcases h with h|rfl|rfl;exact hC z h;exact h1;exact h2)).trans (e4.mono fun z _ h=>h▸h3))
theorem Ac.none{hm:Int→Int}{lt:Int→Int→Bool}{K:Int→Bool→Int}{U T:Int→Int}(h0:hm (-1)=0)(hh:∀x,¬0<hm x)(hk:∀x c,K x c= -1)(hu:∀x,U x= -1)(ht:∀g,T g= -1):Ac hm lt K U T:=
 ⟨⟨h0,fun p c x h hx=>absurd (h.symm.trans (hk p c)) hx,fun x p h hp=>absurd (h.symm.trans (hu x)) hp,fun p _=>hk p _⟩,fun g h=>absurd (ht g) h,fun x hx=>absurd hx (hh x)⟩
theorem Bm(n:Nat)(x:Int)(c:Bool):bc (List.replicate n jA) x c= -1:=by
 by_cases h:0≤x∧x< (List.replicate n jA).length
 ·have h2:=h.2
  rw[ao3]at h2
  rw[oS (y:=jA) h.1 (by rw[apC,if_pos (by omega)])]
  cases c<;>rfl
 ·exact RH h c
theorem FT(n:Nat)(x:Int):bq (List.replicate n jA) x= -1:=by
 by_cases h:0≤x∧x< (List.replicate n jA).length
 ·have h2:=h.2
  rw[ao3]at h2
  rw[uJ (y:=jA) h.1 (by rw[apC,if_pos (by omega)])]
  rfl
 ·exact Nk h
def zE(cap:Int):Nw:=⟨[false],List.replicate cap.toNat (0,0,0)⟩
theorem lh(cap:Int)(x:Int):¬0<aG (zE cap) x:=by
 intro h
 obtain⟨h1,h2,e,he⟩:=aF h
 have h3:(List.replicate cap.toNat ((0,0,0):Ce))[x.toNat]? =some (aG (zE cap) x,e):=he
 have:=apv (aon h3)
 injection this with h4 h5
 omega
theorem CV(g:Int):bm [-1] g= -1:=by
 unfold bm
 split
 ·rw[aom]
  rcases hg:g.toNat with _|k
  ·rfl
  ·rfl
 ·rfl
theorem Bn(k:Nat):cE [Value.int .i64 0] k=(List.replicate k (0:Int)).map i64:=by
 induction k with
 |zero=>rfl
 |succ k ih=>simp only[cE,aoY,apc,ao6]at*;rw[ih];rfl
theorem CW(cap:Int)(H:Hp):af Tryz.prog He [i64 cap] H fun v H'=>aw (
  ah H H'∧((¬ (0≤cap∧cap≤65536)∧v= .tuple [.pointer none,i64 31].toArray)∨
   ((0≤cap∧cap≤65536)∧∃n S,v= .tuple [ptr n,i64 0].toArray∧dA n H' S (zE cap)∧∀x,S x→H.size≤x))):=by
 refine bv Hw ?_
 refine vs ?_
 refine(k8 cap H).mono ?_
 rintro _ H1 ⟨f1,⟨hb,rfl⟩| ⟨hb,c,C,rfl,c1,hC⟩⟩
 ·refine vs ?_
  exact⟨f1,.inl ⟨hb,rfl⟩⟩
 refine v1 aoZ ?_
 refine(uK H1 hb).mono ?_
 rintro _ H2 ⟨t,tl,rfl,t2,f2,ht,MG⟩
 refine vs ?_
 refine⟨⟨by omega,by omega,by omega,by omega⟩,?_⟩
 refine vs ?_
 rw[Bn]
 have yb:=c1.slt
 have z1:=f1.size
 have z2:=f2.size
 have GW:=aB t2.own
 have WU:=aB t2.k9
 have f3:ah H2 (((H2.new 3 ((List.replicate cap.toNat (0:Int)).map i64)).new 3 [Value.int .i64 (-1)]).new 279 [ptr c,ptr t,.slice (some ⟨H2.size,0,none⟩) cap.toNat cap.toNat,.slice (some ⟨H2.size+1,0,none⟩) 1 1]):=(((ag.refl _ _).new _ _).new _ _).new _ _
 have e1:ag (fun _=>False) (H2.new 3 ((List.replicate cap.toNat (0:Int)).map i64)) (((H2.new 3 ((List.replicate cap.toNat (0:Int)).map i64)).new 3 [Value.int .i64 (-1)]).new 279 [ptr c,ptr t,.slice (some ⟨H2.size,0,none⟩) cap.toNat cap.toNat,.slice (some ⟨H2.size+1,0,none⟩) 1 1]):=((ag.refl _ _).new _ _).new _ _
 have e2:ag (fun _=>False) ((H2.new 3 ((List.replicate cap.toNat (0:Int)).map i64)).new 3 [Value.int .i64 (-1)]) (((H2.new 3 ((List.replicate cap.toNat (0:Int)).map i64)).new 3 [Value.int .i64 (-1)]).new 279 [ptr c,ptr t,.slice (some ⟨H2.size,0,none⟩) cap.toNat cap.toNat,.slice (some ⟨H2.size+1,0,none⟩) 1 1]):=(ag.refl _ _).new _ _
 have ft:=f1.trans (f2.trans f3)
 refine⟨ft,.inr ⟨hb,H2.size+1+1,(LB.mk (H2.size+1+1) c t tl H2.size (H2.size+1)).S C,rfl,⟨⟨H2.size+1+1,c,t,tl,H2.size,H2.size+1⟩,C,_,List.replicate cap.toNat 0,[-1],rfl,
  ⟨⟨.slice (some ⟨H2.size+1,0,none⟩) 1 1,?_,?_⟩,c1.fresh (f2.trans f3),t2.fresh f3,?_,?_,?_,?_⟩,⟨Ac.none rfl (lh cap) (Bm _) (FT _) CV,rfl⟩,fun z=>Iff.rfl⟩,fun z hz=>?_⟩⟩
 ·rw[ao3]
  exact aU (by simp only[ap])
 ·exact(Sl.bU (size:=1) (n:=1) (xs:=[i64 (-1)]) rfl (by simp only[ap])).ext e2 (fun _ _ h=>h)
 ·exact e1.own (az _ _ _) (fun h=>h)
 ·simp[zE]
 ·have:=t2.ne
  refine⟨⟨?_,?_,?_,?_⟩,⟨?_,?_,?_⟩,⟨?_,?_⟩,?_⟩<;>simp only<;>omega
 ·refine⟨fun h=>?_,fun h=>?_,fun h=>?_,fun h=>?_,fun h=>?_⟩<;>(have h2:=yb _ h;first|omega| (simp only at h2;omega))
 ·rcases hz with hz|rfl|rfl|rfl|rfl|rfl
  ·exact hC z hz
  all_goals first|omega| (simp only;omega)
theorem Bo{n:Nat}{H:Hp}{S:Nat→Prop}{w:Nw}(h:dA n H S w):af Tryz.prog lX [ptr n] H fun v H'=>aw (
  (w.hs.length=65537∧v=i64 0∧cB (dA n) S H H' w)∨(w.hs.length≠65537∧v=i64 w.hs.length∧cB (dA n) S H H' w.make)):=by
 obtain⟨B,C,L,rs,tops,rfl,m,l,hS⟩:=id h
 obtain⟨tv,ho,z7⟩:=m.own
 refine bv xk ?_
 refine v1 (ae ho) ?_
 refine(jo m.cells).mono ?_
 rintro _ H1 (⟨h1,rfl,rfl⟩| ⟨h1,rfl,C',c1,e1,zF⟩)
 ·refine vs ?_
  exact .inl ⟨h1,rfl,cB.same h (ag.refl _ _)⟩
 have gh:=m.cells.pos
 have hhs:=m.cells.z7
 have MG:=l.tl
 have slt:=m.slt
 have LF:=c1.slt
 obtain⟨n1,n2,n3,n4,n5⟩:=m.out
 obtain⟨⟨d1,d2,d3,d4⟩,⟨d5,d6,d7⟩,⟨d8,d9⟩,d10⟩:=m.ml
 have o1:=e1.own ho n1
 refine vs ?_
 refine am.cQ (aow (by omega)) ?_
 refine v1 (ae o1) ?_
 have s1:=z7.ext e1 (fun b hb=>by injection hb with hb;exact hb▸n5)
 refine Ru s1 (-1) (by omega) fun w' H2 b' jY s2 e2=>?_
 have o2:=e2.own o1 d4
 obtain⟨wa,wc,OU⟩:=Sl.shape s2
 subst OU
 refine v1 o2 ?_
 generalize OU:Value.slice wa (tops++[-1]).length wc=w' at*
 have e3:ag (fun z=>z=B.n) H2 (H2.wr B.n [ptr B.c,ptr B.t,.slice (some ⟨B.rk,0,none⟩) rs.length rs.length,w']):=(ag.refl (fun z=>z=B.n) _).wr (fun _=>rfl) _
 have z1:=e1.size
 have sl:∀z,z=B.n∨z=B.t∨z=B.tl∨z=B.rk∨z=B.tp→z<H.size:=fun z hz=>slt z (.inr hz)
 have hn:=sl _ (.inl rfl)
 have ht:=sl _ (.inr (.inl rfl))
 have WU:=sl _ (.inr (.inr (.inl rfl)))
 have hrk:=sl _ (.inr (.inr (.inr (.inl rfl))))
 have htp:=sl _ (.inr (.inr (.inr (.inr rfl))))
 have FU:∀z,C' z→z≠b'∧(z<H.size→C z):=fun z hz=>by
  have h5:=LF z hz
  rcases zF z hz with h6|h6
  ·refine⟨fun e=>?_,fun _=>h6⟩
   rcases jY with h7|h7
   ·exact n5 (by rw[←h7,←e];exact h6)
   ·omega
  ·exact⟨by omega,fun h=>by omega⟩
 refine .inr ⟨h1,rfl,(LB.mk B.n B.c B.t B.tl B.rk b').S C',⟨⟨B.n,B.c,B.t,B.tl,B.rk,b'⟩,C',L,rs,tops++[-1],rfl,⟨⟨w',ai o2,s2.ext e3 (fun b hb=>by injection hb with hb;omega)⟩,?_,?_,?_,m.len,?_,?_⟩,⟨by rw[Bh];exact l.bt,?_⟩,fun z=>Iff.rfl⟩,?_,fun z hz=>?_⟩
 ·exact(c1.ext e2 (fun x hx e=>by
   rcases zF x hx with h6|h6
   ·exact n5 (e▸h6)
   ·omega)).ext e3 (fun x hx e=>by
   rcases zF x hx with h6|h6
   ·exact n1 (e▸h6)
   ·omega)
 ·exact((m.bY.ext e1 n2 n3).ext e2 d7 d9).ext e3 (Ne.symm d1) (Ne.symm d2)
 ·exact e3.own (e2.own (e1.own m.CP n4) d10) (Ne.symm d3)
 ·refine⟨⟨d1,d2,d3,?_⟩,⟨d5,d6,?_⟩,⟨d8,?_⟩,?_⟩<;>simp only<;>omega
 ·refine⟨fun h=>?_,fun h=>?_,fun h=>?_,fun h=>?_,fun h=>?_⟩
  ·exact n1 ((FU _ h).2 hn)
  ·exact n2 ((FU _ h).2 ht)
  ·exact n3 ((FU _ h).2 WU)
  ·exact n4 ((FU _ h).2 hrk)
  ·exact(FU _ h).1 rfl
 ·simp[Nw.make,MG]
 ·exact((e1.mono fun z _ h=>(hS z).2 (.inl h)).trans (e2.mono fun z _ h=>(hS z).2 (.inr (.inr (.inr (.inr (.inr h))))))).trans (e3.mono fun z _ h=>(hS z).2 (.inr (.inl h)))
 ·rcases hz with hz|rfl|rfl|rfl|rfl|rfl
  ·rcases zF z hz with h6|h6
   ·exact .inl ((hS z).2 (.inl h6))
   ·exact .inr h6
  ·exact .inl ((hS _).2 (.inr (.inl rfl)))
  ·exact .inl ((hS _).2 (.inr (.inr (.inl rfl))))
  ·exact .inl ((hS _).2 (.inr (.inr (.inr (.inl rfl)))))
  ·exact .inl ((hS _).2 (.inr (.inr (.inr (.inr (.inl rfl))))))
  ·rcases jY with rfl|h7
   ·exact .inl ((hS _).2 (.inr (.inr (.inr (.inr (.inr rfl))))))
   ·exact .inr (by first|omega| (simp only;omega))
theorem RV.first{w:Nw}{L:List Lk}{tops:List Int}(l:RV w L tops){g x:Int}(h:w.first g x):bm tops g=x:=by
 obtain⟨h1,h2,h3⟩:=bM.1 h
 have:=l.bt.first (x:=x) (by omega) (fun y hy aP=>h3 y (by omega) aP) (au w)
 rwa[h2]at this
theorem qz{n:Nat}{H:Hp}{S:Nat→Prop}{w:Nw}(h:dA n H S w)(g:Int):af Tryz.prog mY [ptr n,i64 g] H fun v H'=>aw (
  ((w.len g=0∧v= .tuple [i64 0,.bool false].toArray)∨∃x,w.first g x∧v= .tuple [i64 x,.bool true].toArray)∧H'=H):=by
 obtain⟨B,C,L,rs,tops,rfl,m,l,hS⟩:=h
 obtain⟨cc,lt,ho,q2,vC,sC,OT⟩:=m.fT
 refine bv zn ?_
 refine v1 (ae ho) ?_
 refine(uI m.cells g).mono ?_
 rintro _ _ ⟨rfl,rfl⟩
 refine vs ?_
 refine am.dec (fun h0=>?_) (fun h0=>?_)
 ·refine vs ?_
  exact⟨.inl ⟨h0,rfl⟩,rfl⟩
 have hg:0<g:=aoI fun hg=>h0 (Nw.HP.2 (.inl (by omega)))
 obtain⟨x,hx⟩:=uH hg h0
 have hh:=(bM.1 hx).2.1
 have dk:=((m.cells.hm x).2 (by omega)).2
 rw[hh,←l.tl]at dk
 have q3:=m.eR q2 (dW (tops:=tops) (h:=g) (by omega) dk)
 rw[l.first hx]at q3
 refine v1 (ae ho) ?_
 refine⟨⟨by omega,by omega⟩,?_⟩
 refine v4 (ae q2) aoi aol q3 ?_
 exact⟨.inr ⟨x,hx,rfl⟩,rfl⟩
theorem tO{n:Nat}{H:Hp}{S:Nat→Prop}{w:Nw}(h:dA n H S w)(x k s:Int):af Tryz.prog iz [ptr n,i64 x,tL k s] H fun v H'=>aw (
  (¬w.db x k s∧v= .bool false∧cB (dA n) S H H' w)∨(w.db x k s∧v= .bool true∧∃y,w.cs[x.toNat]? =some y∧cB (dA n) S H H' (w.put x (y.1,k,s)))):=by
 obtain⟨B,C,L,rs,tops,rfl,m,l,hS⟩:=h
 refine Fa qe ⟨rfl,?_⟩
 refine v1 iB.eq_1 ?_
 have f0:ah H (H.new 224 [i64 k,u64 s]):=(ag.refl _ _).new _ _
 have b0:(H.new 224 [i64 k,u64 s]).own H.size=some [i64 k,u64 s]:=az _ _ _
 have m0:=m.fresh f0
 generalize H.new 224 [i64 k,u64 s]=H0 at*
 obtain⟨tv,HT,_⟩:=m0.own
 refine v2 (ae HT) (ae b0) ?_
 refine(gR m0.cells x k s).mono ?_
 have hC:∀z,C z→S z:=fun z h=>(hS z).2 (.inl h)
 have ff:ag S H H0:=f0.mono fun _ _ h=>h.elim
 rintro _ H1 (⟨bO,rfl,c1,e1⟩| ⟨bJ,rfl,y,hy,fB,c1,e1⟩)
 ·refine vs ?_
  exact .inl ⟨bO,rfl,cB.same ⟨B,C,L,rs,tops,rfl,m0.ext e1 (fun _ _ h=>h),l,hS⟩ (ff.trans (e1.mono fun _ _ h=>h.elim))⟩
 have mF:(w.put x (y.1,k,s)).cs.length=w.cs.length:=by simp[Nw.put]
 have m1:=m0.aJ c1 e1 mF
 have Bp:w.db x k s:=⟨bJ,fun z hz=>by rw[hy]at hz;injection hz with hz;rw[←hz];exact fB⟩
 have hx:0≤x∧x<w.cs.length:=⟨bJ.1,by have:=(aoj.1 hy).1;have:=bJ.1;omega⟩
 have OO:aG w x=y.1:=j7 bJ.1 hy
 have dH:=bz.2 bJ
 have hw:aG (w.put x (y.1,k,s))=aG w:=by
  funext z
  rw[dV hx]
  split
  ·rename_i e;rw[e,OO]
  ·rfl
 have Eu:cY (w.put x (y.1,k,s)).cs x:=bz.1 (by rw[hw];exact dH)
 obtain⟨CR,o1,_⟩:=m1.own
 refine v1 (ae o1) ?_
 refine(di m1.cells x).mono ?_
 rintro _ H2 (⟨bO,_,_⟩| ⟨_,rfl,c2,e2⟩)
 ·exact absurd Eu bO
 have m2:=m1.aJ c2 e2 rfl
 obtain⟨No,o2,_⟩:=m2.own
 have pE:ag S H H2:=(ff.trans (e1.mono fun z _ h=>hC z h)).trans (e2.mono fun z _ h=>hC z h)
 have el:∀a b,0<aG w a→0<aG w b→a≠x→b≠x→aQ (w.put x (y.1,k,s)) a b=aQ w a b:=fun a b ha hb tS mq=>dw hx _ ha hb tS mq
 have ex:∀b,0<aG w b→b≠x→aQ w x b=true→aQ (w.put x (y.1,k,s)) x b=true:=fun b hb mq h=>Bg bJ hy fB hb mq h
 refine v1 (ae o2) ?_
 refine(cH m2.bY (x:=x) (fun hu=>by have:=Bi.up l.bt.bt hu;have:=m2.len.1;omega)).mono ?_
 rintro _ H3 ⟨rfl,L3,t3,l3,k3,u3,e3⟩
 have m3:=m2.dF t3 e3 l3
 have h1:S B.tl:=(hS _).2 (.inr (.inr (.inr (.inl rfl))))
 have h2:S B.rk:=(hS _).2 (.inr (.inr (.inr (.inr (.inl rfl)))))
 have h3:S B.tp:=(hS _).2 (.inr (.inr (.inr (.inr (.inr rfl)))))
 have Ek:ag S H H3:=pE.trans (e3.mono fun z _ h=>h▸h1)
 unfold gC
 by_cases hu:bq L x= -1
 ·rw[if_pos hu]
  refine vs ?_
  have kk:bc L3=bc L:=by rw[k3];unfold iO;rw[if_pos hu]
  have uu:bq L3=bq L:=by
   rw[u3]
   funext z
   unfold c9 aH
   split
   ·rename_i e;rw[e,hu]
   ·rfl
  refine .inr ⟨Bp,rfl,y,hy,cB.same ⟨B,C,L3,rs,tops,rfl,m3,⟨?_,l.tl⟩,hS⟩ Ek⟩
  rw[hw,kk,uu]
  exact l.bt.TH dH hu el ex (au w)
 rw[if_neg hu]
 refine vs ?_
 have bo:=l.bt.low dH hu el ex (au w)
 rw[←hw,←k3,←u3]at bo
 have E0:=Bi.up l.bt.bt hu
 refine(jq m3 bo.bt (x:=bq L x) (fun _=>by rw[hw,E0.2.2.2];exact dH)).mono ?_
 rintro _ H4 ⟨L4,Vu,m4,b4,u4,e4⟩
 have bo4:TG (aG (w.put x (y.1,k,s))) (aQ (w.put x (y.1,k,s))) (bc L4) (bq L4) (bm tops) (aG (w.put x (y.1,k,s)) x) x:=⟨b4,by rw[u4];exact bo.t1,by rw[u4];exact bo.t2,by rw[u4];exact bo.ox,bo.nx,bo.g0⟩
 have vI:ag S H H4:=Ek.trans (e4.mono fun z _ h=>by rcases h with rfl|rfl;exact h1;exact h2)
 obtain⟨cc,lt,o4,q2,vC,sC,OT⟩:=m4.fT
 have dk:aG (w.put x (y.1,k,s)) x<tops.length:=by
  have:=((m4.cells.hm x).2 bo.g0).2
  have e5:(w.put x (y.1,k,s)).hs=w.hs:=rfl
  rw[e5]at this
  have:=l.tl
  omega
 have RR:=bo.g0
 generalize hg:aG (w.put x (y.1,k,s)) x=g at*
 have q3:=m4.eR q2 (dW (tops:=tops) (h:=g) (by omega) dk)
 refine vs ?_
 refine jB.intro (fun H'=>H'.own B.n=some [ptr B.c,ptr B.t,.slice (some ⟨B.rk,0,none⟩) Vu.length Vu.length,.slice (some ⟨B.tp,0,none⟩) tops.length cc]) o4 ?_
 refine vs ?_
 refine fJ.intro (.slice (some ⟨B.tp,0,none⟩) tops.length cc) (fun H' hI=>by refine v1 (ae hI) ?_;trivial) ?_
 refine v1 (ae o4) ?_
 refine And.intro o4 ?_
 refine vs ?_
 refine⟨⟨by omega,by omega⟩,?_⟩
 refine v4 (ae q2) aoi aol q3 ?_
 refine And.intro o4 ?_
 refine vs ?_
 refine(iq m4 bo4.mg).mono ?_
 rintro _ H5 ⟨r,L5,rs5,rfl,m5,g5,_,e5⟩
 have bn:=bo4.done g5
 obtain⟨d1,d2,d3,d4⟩:=m4.ml.1
 have no:¬ (C B.n∨B.n=B.tl∨B.n=B.rk):=by rintro(h|h|h);exact m4.out.1 h;omega;omega
 refine And.intro (e5.own o4 no) ?_
 have q4:=e5.own q2 (by obtain⟨_,⟨_,_,d7⟩,⟨_,d9⟩,d10⟩:=m4.ml;rintro(h|h|h);exact m4.out.2.2.2.2 h;omega;omega)
 refine vs ?_
 refine⟨⟨by omega,by omega⟩,?_⟩
 refine v3 q4 aoi aol ?_
 refine⟨by omega,?_⟩
 obtain⟨m6,e6⟩:=m5.ld q4 g.toNat r
 refine And.intro (e6.own (e5.own o4 no) d4) ?_
 refine vs ?_
 refine .inr ⟨Bp,rfl,y,hy,cB.same ⟨B,C,L5,rs5,_,rfl,m6,⟨?_,by rw[aok];exact l.tl⟩,hS⟩ ?_⟩
 ·rw[eD (by omega) dk]
  exact bn
 ·exact(vI.trans (e5.mono fun z _ h=>by rcases h with h|rfl|rfl;exact hC z h;exact h1;exact h2)).trans (e6.mono fun z _ h=>h▸h3)
theorem xz{n:Nat}{H:Hp}{S:Nat→Prop}{w:Nw}(h:dA n H S w)(x:Int):af Tryz.prog th [ptr n,i64 x] H fun v H'=>aw (
  (¬cY w.cs x∧v= .bool false∧cB (dA n) S H H' w)∨(cY w.cs x∧v= .bool true∧cB (dA n) S H H' (w.put x (0,0,0)))):=by
 obtain⟨B,C,L,rs,tops,rfl,m,l,hS⟩:=id h
 have hC:∀z,C z→S z:=fun z h=>(hS z).2 (.inl h)
 have s1:S B.tl:=(hS _).2 (.inr (.inr (.inr (.inl rfl))))
 have s2:S B.rk:=(hS _).2 (.inr (.inr (.inr (.inr (.inl rfl)))))
 have s3:S B.tp:=(hS _).2 (.inr (.inr (.inr (.inr (.inr rfl)))))
 obtain⟨tv,o0,_⟩:=m.own
 refine bv tF ?_
 refine v1 (ae o0) ?_
 refine(di m.cells x).mono ?_
 rintro _ H1 (⟨bO,rfl,rfl⟩| ⟨bJ,rfl,c1,e1⟩)
 ·refine vs ?_
  exact .inl ⟨bO,rfl,cB.same h (ag.refl _ _)⟩
 have m1:=m.aJ c1 e1 rfl
 obtain⟨CR,o1,_⟩:=m1.own
 have dH:=bz.2 bJ
 obtain⟨gf,jZ,_⟩:=aF dH
 have Du:x≠ -1:=by omega
 have ls:=au w
 have t:=l.bt
 refine v1 (ae o1) ?_
 obtain⟨a1,b1,ea1⟩:=cI (bc L x false)
 obtain⟨a2,b2,ea2⟩:=cI (bc L x true)
 refine⟨.tuple [i64 a1,.bool b1].toArray,(lL m1.bY x).mono (by rintro v H' ⟨rfl,rfl⟩;exact⟨ea1,rfl⟩),?_⟩
 refine vs ?_
 refine⟨_,cA H1 _ a1 b1 ea1,?_⟩
 refine v1 (ae o1) ?_
 refine(cz m1.bY x).mono ?_
 rintro _ H' ⟨rfl,e⟩
 obtain rfl:=e.symm
 rw[ea2]
 refine vs ?_
 refine(cA H1 _ a2 b2 ea2).mono ?_
 rintro _ H' ⟨rfl,e⟩
 obtain rfl:=e.symm
 refine v1 (ae o1) ?_
 refine(cH m1.bY (x:=bc L x false) (fun hu=>by have:=Bi.up t.bt hu;have:=m1.len.1;omega)).mono ?_
 rintro _ H2 ⟨rfl,L2,t2,l2,k2,u2,e2⟩
 have m2:=m1.dF t2 e2 l2
 have bt2:Bi w L2:=by
  show Bt _ _ _ _
  rw[k2,u2];exact t.bt.TF _
 obtain⟨No,o2,_⟩:=m2.own
 refine v1 (ae o2) ?_
 refine(cH m2.bY (x:=bc L x true) (fun hu=>by have:=Bi.up bt2 hu;have:=m2.len.1;omega)).mono ?_
 rintro _ H3 ⟨rfl,L3,t3,l3,k3,u3,e3⟩
 rw[k2,u2]at k3
 rw[u2]at u3
 have m3:=m2.dF t3 e3 l3
 obtain⟨w1,w2,w3,w4⟩:=t.bt.bare x
 have hk:∀c,bc L x c= -1∨(aG w (bc L x c)=aG w x∧bq L3 (bc L x c)= -1):=fun c=>by
  by_cases hk:bc L x c= -1
  ·exact .inl hk
  ·refine .inr ⟨(t.bt.home hk).2.2.1,?_⟩
   rw[u3,w4,if_pos]
   cases c
   ·exact .inl rfl
   ·exact .inr rfl
 rw[←k3,←u3]at w1
 have mg:=Mg.start w1 dH (hk false) (hk true) (fun e=>t.bt.two x e)
 refine vs ?_
 refine(iq m3 mg).mono ?_
 rintro _ H4 ⟨r,L4,Vu,rfl,m4,g4,f4,e4⟩
 have f4:=f4 x (vV.start (fun hk=>(t.bt.home hk).2.2.2.2) (fun hk=>(t.bt.home hk).2.2.2.2))
 have d:=t.Vh ls dH k3 u3 g4 f4
 have vI:ag S H H4:=(((e1.mono fun z _ h=>hC z h).trans (e2.mono fun z _ h=>h▸s1)).trans (e3.mono fun z _ h=>h▸s1)).trans (e4.mono fun z _ h=>by rcases h with h|rfl|rfl;exact hC z h;exact s1;exact s2)
 obtain⟨tv4,o4,_⟩:=m4.own
 have cN:=fun y=>dV (w:=w) ⟨gf,jZ⟩ (0,0,0) y
 have p0:aG (w.put x (0,0,0)) (-1)=0:=rfl
 have p1:aG (w.put x (0,0,0)) x=0:=by rw[cN,if_pos rfl]
 have p2:∀y,y≠x→aG (w.put x (0,0,0)) y=aG w y:=fun y hy=>by rw[cN,if_neg hy]
 have el:∀a b,0<aG w a→0<aG w b→a≠x→b≠x→aQ (w.put x (0,0,0)) a b=aQ w a b:=fun a b ha hb tS mq=>dw ⟨gf,jZ⟩ _ ha hb tS mq
 have mF:(w.put x (0,0,0)).cs.length=w.cs.length:=by simp[Nw.put]
 refine v1 (ae o4) ?_
 refine(oT m4.bY x).mono ?_
 rintro _ H' ⟨rfl,e⟩
 obtain rfl:=e.symm
 rw[d.ux]
 unfold gC
 by_cases hu:bq L x= -1
 ·rw[if_pos hu]
  obtain⟨cc,lt,o5,q5,vC,sC,OT⟩:=m4.fT
  have dk:aG w x<tops.length:=by
   have:=((m4.cells.hm x).2 dH).2
   have:=l.tl
   omega
  refine v1 (ae o5) ?_
  refine⟨⟨by omega,by omega⟩,?_⟩
  refine v3 q5 aoi aol ?_
  refine⟨by omega,?_⟩
  obtain⟨m5,e5⟩:=m4.ld q5 (aG w x).toNat r
  obtain⟨tv6,o6,_⟩:=m5.own
  refine v1 (ae o6) ?_
  refine(ci m5.cells x).mono ?_
  rintro _ H6 (⟨bO,_,_⟩| ⟨_,rfl,c6,e6⟩)
  ·exact absurd bJ bO
  have m6:=m5.aJ c6 e6 mF
  refine vs ?_
  refine .inr ⟨bJ,rfl,cB.same ⟨B,C,L4,Vu,_,rfl,m6,⟨?_,by rw[aok];exact l.tl⟩,hS⟩ ((vI.trans (e5.mono fun z _ h=>h▸s3)).trans (e6.mono fun z _ h=>hC z h))⟩
  rw[eD (by omega) dk]
  exact d.Rb t dH hu p0 p1 p2 el
 ·rw[if_neg hu]
  have E0:=Bi.up t.bt hu
  obtain⟨w5,w6⟩:=d.cut t ls dH hu
  obtain⟨a3,b3,Zd⟩:=cI (bc L4 (bq L x) true)
  refine v1 (ae o4) ?_
  refine(cz m4.bY (bq L x)).mono ?_
  rintro _ H' ⟨rfl,e⟩
  obtain rfl:=e.symm
  rw[Zd]
  refine vs ?_
  refine(cA _ _ a3 b3 Zd).mono ?_
  rintro _ H' ⟨rfl,e⟩
  obtain rfl:=e.symm
  rw[d.kp _ true rfl hu]
  refine v1 (ae o4) ?_
  refine(cH m4.bY (x:=x) (fun hu2=>by have:=Bi.up d.bt hu2;have:=m4.len.1;omega)).mono ?_
  rintro _ H5 ⟨rfl,L5,t5,l5,k5,u5,e5⟩
  have m5:=m4.dF t5 e5 l5
  obtain⟨tv5,o5,_⟩:=m5.own
  refine vs ?_
  have Vz:=vI.trans (e5.mono fun z _ h=>h▸s1)
  refine am.dec (fun g=>?_) (fun g=>?_)<;>refine vs ?_
  ·have m6:=m5
   have LG:=Vz
   have b6:Bi w L5:=by
    show Bt _ _ _ _
    rw[k5,u5];exact w5 g
   have u6:bq L5=if r= -1 then c9 (bq L4) x else aH (c9 (bq L4) x) r (bq L x):=by rw[if_pos g];exact u5
   refine(jq m6 b6 (x:=bq L x) (fun _=>by rw[E0.2.2.2];exact dH)).mono ?_
   rintro _ H7 ⟨L7,rs7,m7,b7,u7,e7⟩
   have WV:=LG.trans (e7.mono fun z _ h=>by rcases h with rfl|rfl;exact s1;exact s2)
   obtain⟨tv7,o7,_⟩:=m7.own
   refine v1 (ae o7) ?_
   refine(ci m7.cells x).mono ?_
   rintro _ H8 (⟨bO,_,_⟩| ⟨_,rfl,c8,e8⟩)
   ·exact absurd bJ bO
   have m8:=m7.aJ c8 e8 mF
   refine vs ?_
   refine .inr ⟨bJ,rfl,cB.same ⟨B,C,L7,rs7,tops,rfl,m8,⟨?_,l.tl⟩,hS⟩ (WV.trans (e8.mono fun z _ h=>hC z h))⟩
   exact d.below t ls (n:=w.cs.length) (fun y hy=>by obtain⟨y0,y1,_⟩:=aF hy;exact⟨y0,y1⟩) dH hu b7 (by rw[u7,u6]) p0 p1 p2 el
  ·obtain⟨y1,y2,y3,y4⟩:=w6 g
   obtain⟨r1,r2,r3,r4⟩:=d.rx g
   obtain⟨q1,q2,_⟩:=aF (w:=w) (x:=r) (by omega)
   have Tn:=m5.len
   refine v1 (ae o5) ?_
   refine(eY m5.bY (p:=bq L x) (x:=r) (c:=(bc L (bq L x) true==x)) ⟨E0.1,by omega⟩ ⟨q1,by omega⟩ y3 (by rw[u5];exact y2) (by rw[k5];exact y1)).mono ?_
   rintro _ H6 ⟨rfl,L6,t6,l6,k6,RW,e6⟩
   have m6:=m5.dF t6 e6 l6
   have LG:=Vz.trans (e6.mono fun z _ h=>h▸s1)
   rw[k5]at k6
   rw[u5]at RW
   have b6:Bi w L6:=by
    show Bt _ _ _ _
    rw[k6,RW];exact y4
   have u6:bq L6=if r= -1 then c9 (bq L4) x else aH (c9 (bq L4) x) r (bq L x):=by rw[if_neg g];exact RW
   refine vs ?_
   refine(jq m6 b6 (x:=bq L x) (fun _=>by rw[E0.2.2.2];exact dH)).mono ?_
   rintro _ H7 ⟨L7,rs7,m7,b7,u7,e7⟩
   have WV:=LG.trans (e7.mono fun z _ h=>by rcases h with rfl|rfl;exact s1;exact s2)
   obtain⟨tv7,o7,_⟩:=m7.own
   refine v1 (ae o7) ?_
   refine(ci m7.cells x).mono ?_
   rintro _ H8 (⟨bO,_,_⟩| ⟨_,rfl,c8,e8⟩)
   ·exact absurd bJ bO
   have m8:=m7.aJ c8 e8 mF
   refine vs ?_
   refine .inr ⟨bJ,rfl,cB.same ⟨B,C,L7,rs7,tops,rfl,m8,⟨?_,l.tl⟩,hS⟩ (WV.trans (e8.mono fun z _ h=>hC z h))⟩
   exact d.below t ls (n:=w.cs.length) (fun y hy=>by obtain⟨y0,y1,_⟩:=aF hy;exact⟨y0,y1⟩) dH hu b7 (by rw[u7,u6]) p0 p1 p2 el
theorem uP{n:Nat}{H:Hp}{S:Nat→Prop}{w:Nw}(h:dA n H S w)(g:Int):af Tryz.prog jc [ptr n,i64 g] H fun v H'=>aw (
  (w.len g=0∧v= .tuple [i64 0,.bool false].toArray∧cB (dA n) S H H' w)∨(∃x,w.first g x∧v= .tuple [i64 x,.bool true].toArray∧cB (dA n) S H H' (w.put x (0,0,0)))):=by
 refine bv rK ?_
 refine vs ?_
 refine(qz h g).mono ?_
 rintro _ _ ⟨⟨h0,rfl⟩| ⟨x,hx,rfl⟩,rfl⟩
 ·refine vs ?_
  exact .inl ⟨h0,rfl,cB.same h (ag.refl _ _)⟩
 ·refine vs ?_
  refine(xz h x).mono ?_
  rintro _ H1 (⟨bO,_,_⟩| ⟨_,rfl,h1⟩)
  ·exact absurd (bz.1 (by have:=bM.1 hx;omega)) bO
  refine vs ?_
  exact .inr ⟨x,hx,rfl,h1⟩
theorem JG(n:Nat):yi (.iface 210 (ptr n)) (dA n) where
 slt h:=h.slt
 ext h e hd:=h.ext e hd
 cells:=by
  rintro H S w ⟨B,C,L,rs,tops,rfl,m,l,hS⟩
  exact⟨B.c,C,m.cells⟩
 has:=by
  rintro H S w g ⟨B,C,L,rs,tops,rfl,m,l,hS⟩
  obtain⟨tv,ho,_⟩:=m.own
  exact⟨_,_,bE,ptr B.c,rfl,fU (off:=0) (by kernel_rfl) (ae ho) rfl,(iH m.cells g).mono fun v H' hp=>hp⟩
 make:=by
  intro H S w h
  exact⟨_,_,lX,ptr n,rfl,bD (by kernel_rfl),(Bo h).mono fun v H' hp=>hp⟩
 insert:=by
  intro H S w g x k s h
  exact⟨_,_,jG,ptr n,rfl,bD (by kernel_rfl),(xy h g x k s).mono fun v H' hp=>hp⟩
 min:=by
  intro H S w g h
  refine⟨_,_,mY,ptr n,rfl,bD (by kernel_rfl),(qz h g).mono ?_⟩
  rintro v H' ⟨⟨h1,rfl⟩| ⟨x,h1,rfl⟩,rfl⟩
  ·exact .inl ⟨h1,rfl,cB.same h (ag.refl _ _)⟩
  ·exact .inr ⟨x,h1,rfl,cB.same h (ag.refl _ _)⟩
 extract:=by
  intro H S w g h
  exact⟨_,_,jc,ptr n,rfl,bD (by kernel_rfl),(uP h g).mono fun v H' hp=>hp⟩
 lf:=by
  intro H S w x k s h
  exact⟨_,_,iz,ptr n,rfl,bD (by kernel_rfl),(tO h x k s).mono fun v H' hp=>hp⟩
 entry:=by
  rintro H S w x ⟨B,C,L,rs,tops,rfl,m,l,hS⟩
  obtain⟨tv,ho,_⟩:=m.own
  refine⟨_,_,bh,ptr B.c,rfl,fU (off:=0) (by kernel_rfl) (ae ho) rfl,(gQ m.cells x).mono ?_⟩
  rintro v H' ⟨c1,f,hv⟩
  exact⟨⟨B,C,L,rs,tops,rfl,m.fresh f,l,hS⟩,f,hv⟩
theorem dJ:cU 2:=⟨by omega,by omega⟩
def swp(l:List Int)(i j:Nat):List Int:=(l.set i (l.getD j 0)).set j (l.getD i 0)
theorem fV(l:List Int)(i j:Nat):(swp l i j).length=l.length:=by unfold swp;simp
theorem Bq{l:List Int}{i j:Nat}(hi:i<l.length)(hj:j<l.length)(k:Nat):(swp l i j).getD k 0=if k=j then l.getD i 0 else if k=i then l.getD j 0 else l.getD k 0:=by
 unfold swp
 rw[dv _ _ _ _ (by simpa using hj),dv _ _ _ _ hi]
 by_cases h1:j=k
 ·subst h1;simp
 ·rw[if_neg h1,if_neg (Ne.symm h1)]
  by_cases h2:i=k
  ·subst h2;simp
  ·rw[if_neg h2,if_neg (Ne.symm h2)]
theorem mG{l:List Int}{i j:Nat}(hi:i<l.length)(hj:j<l.length)(k:Nat):(swp l i j)[k]? =if k=j then l[i]? else if k=i then l[j]? else l[k]? :=by
 have hl:=fV l i j
 have hg:=Bq hi hj k
 by_cases hk:k<l.length
 ·rw[aoh (by omega)]
  rw[aom,aoh (by omega)]at hg
  simp only[Option.getD_some]at hg
  rw[hg]
  have e:∀q,q<l.length→l[q]? =some (l.getD q 0):=fun q hq=>by rw[aom,aoh hq];rfl
  split
  ·rw[e i hi]
  ·split
   ·rw[e j hj]
   ·rw[e k hk]
 ·rw[aoz (by omega),if_neg (by omega),if_neg (by omega),aoz (by omega)]
theorem Ub{l:List Int}{i j:Nat}(hi:i<l.length)(hj:j<l.length)(z:Int):z∈swp l i j↔z∈l:=by
 constructor
 ·intro h
  obtain⟨k,hk⟩:=aoS h
  rw[mG hi hj]at hk
  split at hk
  ·exact aon hk
  ·split at hk
   ·exact aon hk
   ·exact aon hk
 ·intro h
  obtain⟨k,hk⟩:=aoS h
  by_cases h1:k=i
  ·subst h1
   refine aon (i:=j) ?_
   rw[mG hi hj,if_pos rfl,hk]
  ·by_cases h2:k=j
   ·subst h2
    refine aon (i:=i) ?_
    rw[mG hi hj]
    by_cases h3:i=k
    ·exact absurd h3.symm h1
    ·rw[if_neg h3,if_pos rfl,hk]
   ·refine aon (i:=k) ?_
    rw[mG hi hj,if_neg h2,if_neg h1,hk]
theorem LH{l:List Int}{i j m:Nat}(hi:i<m)(hj:j<m)(hm:m≤l.length):(swp l i j).take m=swp (l.take m) i j:=by
 apply ao8
 intro k
 rw[mG (by rw[aoX];omega) (by rw[aoX];omega),aoV,mG (by omega) (by omega),aoV,aoV,aoV]
 rw[if_pos hi,if_pos hj]
 by_cases hk:k<m
 ·simp only[if_pos hk]
 ·simp only[if_neg hk,if_neg (show k≠j by omega),if_neg (show k≠i by omega)]
theorem RX{l:List Int}{i j m:Nat}(hi:i<m)(hj:j<m)(hm:m≤l.length):(swp l i j).drop m=l.drop m:=by
 apply ao8
 intro k
 rw[aoW,aoW,mG (by omega) (by omega),if_neg (by omega),if_neg (by omega)]
theorem dE.heap{lt:Int→Int→Bool}{l:List Int}{i:Nat}(h:dE lt 2 l i)(hB:∀j,1≤j→j<l.length→pa 2 j=i→lt (l.getD j 0) (l.getD i 0)=false)
  (hD:1≤i→i<l.length→lt (l.getD i 0) (l.getD (pa 2 i) 0)=false):eM lt 2 l:=by
 intro j h1 h2
 by_cases e1:j=i
 ·subst e1;exact hD h1 h2
 ·by_cases e2:pa 2 j=i
  ·rw[e2];exact hB j h1 h2 e2
  ·exact h.1 j h1 h2 e1 e2
theorem WW{lt:Int→Int→Bool}(ho:bA lt){l:List Int}{i:Nat}(hi:1≤i)(hl:i<l.length)(hA:dE lt 2 l i)(hB:∀j,1≤j→j<l.length→pa 2 j=i→lt (l.getD j 0) (l.getD i 0)=false)
  (aO:lt (l.getD i 0) (l.getD (pa 2 i) 0)=true):dE lt 2 (swp l (pa 2 i) i) (pa 2 i)∧∀j,1≤j→j< (swp l (pa 2 i) i).length→pa 2 j=pa 2 i→lt ((swp l (pa 2 i) i).getD j 0) ((swp l (pa 2 i) i).getD (pa 2 i) 0)=false:=by
 have hp:=cG dJ hi
 have g:=Bq (l:=l) (i:=pa 2 i) (j:=i) (by omega) hl
 rw[fV]
 have afL:∀j,1≤j→j<l.length→pa 2 j=pa 2 i→j≠i→lt (l.getD j 0) (l.getD i 0)=false:=fun j h1 h2 h3 h4=>by
  have e4:=hA.1 j h1 h2 h4 (by omega)
  rw[h3]at e4
  cases hx:lt (l.getD j 0) (l.getD i 0)with
  |false=>rfl
  |true=>have:=ho.tr _ _ _ hx aO;rw[this]at e4;cases e4
 refine⟨⟨fun j h1 h2 h3 h4=>?_,fun j h1 h2 h3 h4=>?_⟩,fun j h1 h2 h3=>?_⟩
 ·rw[fV]at h2
  have WE:=cG dJ h1
  rw[g,g,if_neg h4]
  by_cases e1:j=i
  ·subst e1;exact absurd rfl h4
  ·rw[if_neg e1,if_neg h3]
   by_cases e2:pa 2 j=i
   ·rw[if_pos e2]
    exact hA.2 j h1 h2 e2 (by omega)
   ·rw[if_neg e2];exact hA.1 j h1 h2 e1 e2
 ·rw[fV]at h2
  have Ps:=cG dJ h4
  rw[g,g,if_neg (show pa 2 (pa 2 i)≠i by omega),if_neg (show pa 2 (pa 2 i)≠pa 2 i by omega)]
  have e3:=hA.1 (pa 2 i) h4 (by omega) (by omega) (by omega)
  by_cases e1:j=i
  ·rw[if_pos e1];exact e3
  ·have WE:=cG dJ h1
   rw[if_neg e1,if_neg (by omega)]
   have e4:=hA.1 j h1 h2 e1 (by omega)
   rw[h3]at e4
   exact ho.nt _ _ _ e4 e3
 ·have WE:=cG dJ h1
  rw[g,g,if_neg (show pa 2 i≠i by omega),if_pos rfl]
  by_cases e1:j=i
  ·rw[if_pos e1];exact ho.asym aO
  ·rw[if_neg e1,if_neg (by omega)]
   exact afL j h1 h2 h3 e1
theorem RY{lt:Int→Int→Bool}(ho:bA lt){l:List Int}{i b:Nat}(hb:1≤b)(hl:b<l.length)(hp:pa 2 b=i)(hA:dE lt 2 l i)(rV:∀j,1≤j→j<l.length→pa 2 j=i→lt (l.getD j 0) (l.getD b 0)=false)
  (aO:lt (l.getD b 0) (l.getD i 0)=true):dE lt 2 (swp l i b) b∧lt ((swp l i b).getD b 0) ((swp l i b).getD (pa 2 b) 0)=false:=by
 have PQ:=cG dJ hb
 have g:=Bq (l:=l) (i:=i) (j:=b) (by omega) hl
 refine⟨⟨fun j h1 h2 h3 h4=>?_,fun j h1 h2 h3 h4=>?_⟩,?_⟩
 ·rw[fV]at h2
  have WE:=cG dJ h1
  rw[g,g,if_neg h3,if_neg h4]
  by_cases e1:j=i
  ·subst e1
   rw[if_pos rfl,if_neg (by omega)]
   exact hA.2 b hb hl hp h1
  ·rw[if_neg e1]
   by_cases e2:pa 2 j=i
   ·rw[if_pos e2];exact rV j h1 h2 e2
   ·rw[if_neg e2];exact hA.1 j h1 h2 e1 e2
 ·rw[fV]at h2
  have WE:=cG dJ h1
  rw[g,g,if_neg (show j≠b by omega),if_neg (show j≠i by omega),if_neg (show pa 2 b≠b by omega),if_pos hp]
  have:=hA.1 j h1 h2 (by omega) (by omega)
  rw[h3]at this
  exact this
 ·rw[g,g,if_pos rfl,hp,if_neg (show i≠b by omega),if_pos rfl]
  exact ho.asym aO
def mH(l at_:List Int):Prop:=∀ (i:Nat) (x:Int),l[i]? =some x→0≤x∧at_[x.toNat]? =some (i:Int)
theorem mH.FK{l at_:List Int}(h:mH l at_){i j:Nat}{x:Int}(hi:l[i]? =some x)(hj:l[j]? =some x):i=j:=by
 have h1:=(h i x hi).2
 have h2:=(h j x hj).2
 rw[h1]at h2
 injection h2 with h2
 omega
def Br(l at_:List Int)(i j:Nat):List Int:=(at_.set (l.getD j 0).toNat i).set (l.getD i 0).toNat j
theorem mH.swp{l at_:List Int}(h:mH l at_){i j:Nat}(hi:i<l.length)(hj:j<l.length)(Km:i≠j):mH (swp l i j) (Br l at_ i j)∧(Br l at_ i j).length=at_.length∧∀z:Int,0≤z→z∉l→(Br l at_ i j)[z.toNat]? =at_[z.toNat]? :=by
 have e:∀q,q<l.length→l[q]? =some (l.getD q 0):=fun q hq=>by rw[aom,aoh hq];rfl
 obtain⟨a0,a1⟩:=h i _ (e i hi)
 obtain⟨b0,b1⟩:=h j _ (e j hj)
 have Ve:=(aoj.1 a1).1
 have Vq:=(aoj.1 b1).1
 have aP:(l.getD i 0).toNat≠(l.getD j 0).toNat:=fun h0=>by
  rw[h0,b1]at a1
  injection a1 with a1
  omega
 unfold Br
 refine⟨fun k x hk=>?_,by simp,fun z hz hm=>?_⟩
 ·rw[mG hi hj]at hk
  split at hk
  ·rename_i Y3
   rw[e i hi]at hk
   injection hk with hk
   subst hk
   rw[aop (by simpa using Ve),Y3]
   exact⟨a0,rfl⟩
  ·split at hk
   ·rename_i Y3 HB
    rw[e j hj]at hk
    injection hk with hk
    subst hk
    rw[aoo aP,aop Vq,HB]
    exact⟨b0,rfl⟩
   ·rename_i Y3 HB
    obtain⟨c0,c1⟩:=h k x hk
    have n1:(l.getD i 0).toNat≠x.toNat:=fun h0=>by
     rw[h0,c1]at a1;injection a1 with a1;omega
    have n2:(l.getD j 0).toNat≠x.toNat:=fun h0=>by
     rw[h0,c1]at b1;injection b1 with b1;omega
    rw[aoo n1,aoo n2]
    exact⟨c0,c1⟩
 ·have n1:(l.getD i 0).toNat≠z.toNat:=fun h0=>hm (by rw[show z=l.getD i 0 by omega];exact aon (e i hi))
  have n2:(l.getD j 0).toNat≠z.toNat:=fun h0=>hm (by rw[show z=l.getD j 0 by omega];exact aon (e j hj))
  rw[aoo n1,aoo n2]
theorem pa2(j:Nat):((pa 2 j:Nat):Int)=if j=0 then 0 else((j:Int) - 1) / 2:=by
 unfold pa
 split
 ·rename_i h;subst h;rfl
 ·omega
theorem Sl.at_{H:Hp}{v:Value}{n:Nat}{xs:List Value}{fp:Option Nat}(h:Sl H 1 v n xs fp){i:Nat}{x:Value}(hx:xs[i]? =some x):∃b cc lb,v= .slice (some ⟨b,0,none⟩) n cc∧fp=some b∧H.own b=some lb∧lb[i]? =some x∧i<n∧n≤lb.length:=by
 have hi:=(aoj.1 hx).1
 obtain⟨hl,hm⟩:=id h
 cases fp with
 |none=>obtain⟨e,_⟩:=hm;omega
 |some f=>
  obtain⟨lb,cc,hv,ho,h1,h2,h3⟩:=hm
  refine⟨f,cc,lb,hv,rfl,ho,?_,by omega,by omega⟩
  rw[←h3,aoO (by omega)]at hx
  exact hx
structure gT(H:Hp)(n c:Nat)(C:Nat→Prop)(rv:Value)(r:Nat)(fp fa:Option Nat)(st:Int)(w:Nw)(l at_:List Int):Prop where
 own:∃av,H.own n=some [ptr c,rv,av]∧Sl H 1 av at_.length (at_.map i64) fa
 cells:bf H c C st w
 jC:∃sv,H.own r=some [ptr n,sv]∧Sl H 1 sv l.length (l.map i64) fp
 nC:¬C n
 rC:¬C r
 rn:r≠n
 xA:∀b,fp=some b→¬C b∧b≠n∧b≠r∧fa≠some b
 JH:∀b,fa=some b→¬C b∧b≠n∧b≠r
 ll:l.length≤65536
abbrev pv(r:Nat):Value:=.iface 370 (ptr r)
theorem r7{l:List Int}{i:Nat}{x:Int}(h:l[i]? =some x):l.getD i 0=x:=by rw[aom,h];rfl
theorem getD_take{l:List Int}{k m:Nat}(h:k<m):(l.take m).getD k 0=l.getD k 0:=by rw[aom,aom,aoO h]
section
variable {H : Hp} {n c : Nat} {C : Nat → Prop} {rv : Value} {r : Nat} {fp fa : Option Nat} {st : Int} {w : Nw} {l at_ : List Int}
theorem oW(m:gT H n c C rv r fp fa st w l at_):af Tryz.prog gY [ptr r] H fun v H'=>aw (v=i64 l.length∧H=H'):=by
 obtain⟨sv,ho,hs⟩:=m.jC
 obtain⟨a,cc,rfl⟩:=cO.Ry hs.rd
 refine bv D5 ?_
 refine v1 (ae ho) ?_
 exact⟨rfl,rfl⟩
theorem FV(m:gT H n c C rv r fp fa st w l at_){i j:Nat}(hi:i<l.length)(hj:j<l.length)(bJ:∀z∈l,cY w.cs z):af Tryz.prog pQ [ptr r,i64 i,i64 j] H fun v H'=>aw (
  v= .bool (aQ w (l.getD i 0) (l.getD j 0))∧gT H' n c C rv r fp fa (min (st+1) 4611686018427387904) w l at_∧ag C H H'):=by
 obtain⟨av,hn,ha⟩:=m.own
 obtain⟨sv,ho,hs⟩:=m.jC
 obtain⟨x,hx⟩:∃x,l[i]? =some x:=⟨_,aoh hi⟩
 obtain⟨y,hy⟩:∃y,l[j]? =some y:=⟨_,aoh hj⟩
 obtain⟨b,cc,lb,rfl,fZ,hb,mq,_,_⟩:=Sl.at_ hs (i:=i) (x:=i64 x) (by simp[hx])
 obtain⟨b',WX,Vx,hv,ir,jY,hby,_,_⟩:=Sl.at_ hs (i:=j) (x:=i64 y) (by simp[hy])
 rw[fZ]at ir
 injection ir with ir
 subst ir
 rw[hb]at jY
 injection jY with jY
 subst jY
 have oQ:=m.ll
 refine bv Cz ?_
 refine v2 (ae ho) (ae hn) ?_
 refine⟨by omega,?_⟩
 refine v5 (ae hb) aol mq (ae ho) Int.toNat_natCast ?_
 refine⟨by omega,?_⟩
 refine v4 (ae hb) aol hby Int.toNat_natCast ?_
 have h1:=bJ x (aon hx)
 have h2:=bJ y (aon hy)
 refine(jn m.cells x y).mono ?_
 rintro _ H1 ⟨rfl,c1,e1⟩
 refine vs ?_
 have uE:=m.cells.st
 rw[if_pos ⟨h1,h2⟩,show fP st 1=min (st+1) 4611686018427387904 by unfold fP;rw[if_neg (by omega)];split<;>omega]at c1
 refine⟨by rw[r7 hx,r7 hy,CM h1 h2];rfl,⟨⟨av,e1.own hn m.nC,ha.ext e1 (fun b hb=>(m.JH b hb).1)⟩,c1,⟨_,e1.own ho m.rC,hs.ext e1 (fun b hb=>(m.xA b hb).1)⟩,m.nC,m.rC,m.rn,m.xA,m.JH,m.ll⟩,e1⟩
theorem FW(m:gT H n c C rv r fp fa st w l at_)(vq:mH l at_){i j:Nat}(hi:i<l.length)(hj:j<l.length)(Km:i≠j):af Tryz.prog pS [ptr r,i64 i,i64 j] H fun v H'=>aw (
  v= .tuple [].toArray∧gT H' n c C rv r fp fa st w (swp l i j) (Br l at_ i j)∧ag (fun z=>fp=some z∨fa=some z) H H'):=by
 obtain⟨av,hn,ha⟩:=m.own
 obtain⟨sv,ho,hs⟩:=m.jC
 obtain⟨x,hx⟩:∃x,l[i]? =some x:=⟨_,aoh hi⟩
 obtain⟨y,hy⟩:∃y,l[j]? =some y:=⟨_,aoh hj⟩
 obtain⟨b,cc,lb,rfl,rfl,hb,mq,_,DB⟩:=Sl.at_ hs (i:=i) (x:=i64 x) (by simp[hx])
 obtain⟨b',WX,Vx,hv,ir,jY,hby,_,_⟩:=Sl.at_ hs (i:=j) (x:=i64 y) (by simp[hy])
 injection ir with ir
 subst ir
 rw[hb]at jY
 injection jY with jY
 subst jY
 obtain⟨gf,tS⟩:=vq i x hx
 obtain⟨WB,hay⟩:=vq j y hy
 have Ve:=(aoj.1 tS).1
 have Za:=(aoj.1 hay).1
 obtain⟨f,fc,la,rfl,rfl,hf,Uc,_,hla⟩:=Sl.at_ ha (i:=x.toNat) (x:=i64 i) (by simp[tS])
 have oQ:=m.ll
 obtain⟨d1,d2,d3,d4⟩:=m.xA b rfl
 obtain⟨g1,g2,g3⟩:=m.JH f rfl
 have WO:b≠f:=fun e=>d4 (by rw[e])
 refine Fa CB ⟨rfl,?_⟩
 refine v2 qh.eq_1 (ae ho) ?_
 refine⟨by omega,?_⟩
 refine v5 (ae hb) aol hby (ae ho) Int.toNat_natCast ?_
 refine⟨by omega,?_⟩
 refine v4 (ae hb) aol mq Int.toNat_natCast ?_
 refine⟨by omega,?_⟩
 refine v3 hb aol Int.toNat_natCast ?_
 refine⟨by omega,?_⟩
 refine v1 aoi ?_
 refine⟨by omega,?_⟩
 simp(disch:=(first|omega| (simp only[Zs]<;>omega)|fail)) only[go_sem, ↓reduceIte,Zv,ai hb,aol,Int.toNat_natCast]
 refine⟨by rw[aok];omega,?_⟩
 refine v1 aoi ?_
 have e1:ag (fun z=>z=b) H (H.wr b ((lb.set i (i64 y)).set j (i64 x))):=(ag.refl (fun z=>z=b) _).wr (fun _=>rfl) _
 have ob:(H.wr b ((lb.set i (i64 y)).set j (i64 x))).own b=some ((lb.set i (i64 y)).set j (i64 x)):=ai hb
 have s1:=(hs.uC hb i (i64 y)).uC (ai hb) j (i64 x)
 rw[RZ]at s1
 generalize H.wr b ((lb.set i (i64 y)).set j (i64 x))=H1 at*
 have Ns:=e1.own ho (Ne.symm d3)
 have vW:=e1.own hn (Ne.symm d2)
 have hf1:=e1.own hf (Ne.symm WO)
 have QQ:=ha.ext e1 (fun z hz h=>by injection hz with hz;exact WO (h.symm.trans hz.symm))
 have c1:=m.cells.ext e1 (fun z hz h=>d1 (h▸hz))
 have gi:((lb.set i (i64 y)).set j (i64 x))[i]? =some (i64 y):=by rw[aoo (Ne.symm Km),aop (by omega)]
 have gj:((lb.set i (i64 y)).set j (i64 x))[j]? =some (i64 x):=by rw[aop (by rw[aok];omega)]
 refine v4 (ae ho) (ae hn) (ae Ns) (ae vW) ?_
 refine⟨by omega,?_⟩
 refine v6 (ae ob) aol gi (ae Ns) (ae vW) Int.toNat_natCast ?_
 refine⟨by omega,?_⟩
 refine v4 (ae ob) aol gj Int.toNat_natCast ?_
 refine⟨by omega,?_⟩
 refine v3 hf1 aol aoi ?_
 refine⟨by omega,?_⟩
 refine v1 aoi ?_
 refine⟨by omega,?_⟩
 simp(disch:=(first|omega| (simp only[Zs]<;>omega)|fail)) only[go_sem, ↓reduceIte,Zv,ai hf1,aol,aoi]
 refine⟨by rw[aok];omega,?_⟩
 refine v1 aoi ?_
 have e2:ag (fun z=>z=f) H1 (H1.wr f ((la.set y.toNat (i64 i)).set x.toNat (i64 j))):=(ag.refl (fun z=>z=f) _).wr (fun _=>rfl) _
 have s2:=(QQ.uC hf1 y.toNat (i64 i)).uC (ai hf1) x.toNat (i64 j)
 rw[RZ]at s2
 have ex:=r7 hx
 have ey:=r7 hy
 refine⟨rfl,⟨⟨_,e2.own vW (Ne.symm g2),?_⟩,c1.ext e2 (fun z hz h=>g1 (h▸hz)),⟨_,e2.own Ns (Ne.symm g3),?_⟩,m.nC,m.rC,m.rn,m.xA,m.JH,by rw[fV];exact m.ll⟩,(e1.mono fun z _ hz=>.inl (by rw[hz])).trans (e2.mono fun z _ hz=>.inr (by rw[hz]))⟩
 ·unfold Br
  rw[ex,ey,aok,aok,ao4,ao4]
  exact s2
 ·have:=s1.ext e2 (fun z hz h=>by injection hz with hz;exact WO (hz.trans h))
  unfold swp
  rw[ex,ey,aok,aok,ao4,ao4]
  exact this
end
structure nL(n c:Nat)(C:Nat→Prop)(rv:Value)(r:Nat)(fp fa:Option Nat)(st:Int)(w:Nw)(l at_:List Int)(mm:Nat)(H H':Hp)(l' mr:List Int)(q:Nat):Prop where
 jC:gT H' n c C rv r fp fa (min (st+q) 4611686018427387904) w l' mr
 ok:mH l' mr
 mem:∀z,z∈l'↔z∈l
 len:l'.length=l.length
 drop:l'.drop mm=l.drop mm
 LI:mr.length=at_.length
 off:∀z:Int,0≤z→z∉l→mr[z.toNat]? =at_[z.toNat]?
 ext:ag (fun z=>C z∨fp=some z∨fa=some z) H H'
section
variable {H H1 : Hp} {n c : Nat} {C : Nat → Prop} {rv : Value} {r : Nat} {fp fa : Option Nat} {st : Int} {w : Nw} {l at_ l1 HU : List Int} {mm q : Nat}
theorem nL.refl(m:gT H n c C rv r fp fa st w l at_)(vq:mH l at_)(mm:Nat):nL n c C rv r fp fa st w l at_ mm H H l at_ 0:=
 ⟨by have:=m.cells.st;rw[show min (st+((0:Nat):Int)) 4611686018427387904=st by omega];exact m,vq,fun _=>Iff.rfl,rfl,rfl,rfl,fun _ _ _=>rfl,ag.refl _ _⟩
theorem nL.less(h:nL n c C rv r fp fa st w l at_ mm H H1 l1 HU q)(bJ:∀z∈l,cY w.cs z){i j:Nat}(hi:i<l.length)(hj:j<l.length):gP Tryz.prog (pv r) "Less" [i64 i,i64 j] H1 fun v H2=>
  v= .bool (aQ w (l1.getD i 0) (l1.getD j 0))∧nL n c C rv r fp fa st w l at_ mm H H2 l1 HU (q+1):=by
 have hl:=h.len
 refine⟨_,_,pQ,ptr r,rfl,bD (by kernel_rfl),(FV h.jC (by omega) (by omega) (fun z hz=>bJ z ((h.mem z).1 hz))).mono ?_⟩
 rintro v H2 ⟨hv,m2,e2⟩
 refine⟨hv,?_,h.ok,h.mem,h.len,h.drop,h.LI,h.off,h.ext.trans (e2.mono fun z _ hz=>.inl hz)⟩
 rw[show min (st+((q+1:Nat):Int)) 4611686018427387904=min (min (st+(q:Int)) 4611686018427387904+1) 4611686018427387904 by omega]
 exact m2
theorem nL.swap(h:nL n c C rv r fp fa st w l at_ mm H H1 l1 HU q)(hm:mm≤l.length){i j:Nat}(hi:i<mm)(hj:j<mm)(Km:i≠j):gP Tryz.prog (pv r) "Swap" [i64 i,i64 j] H1 fun v H2=>
  v= .tuple [].toArray∧nL n c C rv r fp fa st w l at_ mm H H2 (swp l1 i j) (Br l1 HU i j) q:=by
 have hl:=h.len
 refine⟨_,_,pS,ptr r,rfl,bD (by kernel_rfl),(FW h.jC h.ok (i:=i) (j:=j) (by omega) (by omega) Km).mono ?_⟩
 rintro v H2 ⟨hv,m2,e2⟩
 obtain⟨a1,a2,a3⟩:=h.ok.swp (i:=i) (j:=j) (by omega) (by omega) Km
 refine⟨hv,m2,a1,fun z=>by rw[Ub (by omega) (by omega),h.mem z],by rw[fV];exact h.len,by rw[RX hi hj (by omega)];exact h.drop,a2.trans h.LI,fun z hz hm=>?_,h.ext.trans (e2.mono fun z _ hz=>.inr hz)⟩
 rw[a3 z hz (fun h2=>hm ((h.mem z).1 h2))]
 exact h.off z hz hm
theorem r9(m:gT H n c C rv r fp fa st w l at_)(vq:mH l at_){j mm:Nat}(hj:j<mm)(hm:mm≤l.length)(bJ:∀z∈l,cY w.cs z)(hA:dE (aQ w) 2 (l.take mm) j)
  (hB:∀k,1≤k→k< (l.take mm).length→pa 2 k=j→aQ w ((l.take mm).getD k 0) ((l.take mm).getD j 0)=false):
  af Tryz.prog wJ [pv r,i64 j] H fun v H'=>aw (v= .tuple [].toArray∧∃ (l' mr:List Int) (q:Nat),nL n c C rv r fp fa st w l at_ mm H H' l' mr q∧eM (aQ w) 2 (l'.take mm)∧q≤kX 2 j∧(1≤j→0<q)):=by
 have ho:=au w
 have oQ:=m.ll
 refine bv xq ?_
 refine vs ?_
 refine aX.intro (fun k env H'=>∃ (j':Nat) (l1 HU:List Int) (q:Nat),env=[(0,pv r),(1,i64 j')]∧k=j'∧j'<mm∧nL n c C rv r fp fa st w l at_ mm H H' l1 HU q∧dE (aQ w) 2 (l1.take mm) j'∧
   (∀k,1≤k→k< (l1.take mm).length→pa 2 k=j'→aQ w ((l1.take mm).getD k 0) ((l1.take mm).getD j' 0)=false)∧q+kX 2 j'≤kX 2 j∧(j'≠j→0<q)) j
  ⟨j,l,at_,0,rfl,rfl,hj,nL.refl m vq mm,hA,hB,by omega,fun h=>absurd rfl h⟩ ?_
 clear hA hB
 rintro j' env H1 ⟨_,l1,HU,q,rfl,rfl,hj',h1,hA,hB,hq,Vv⟩
 have sG:=h1.len
 have qK:=pa2 j'
 have afN:IntKind.i64.wrap ((IntKind.i64.wrap ((j':Int) - 1)).tdiv 2)=((pa 2 j':Nat):Int):=by
  rw[wrap64 (n:=(j':Int) - 1) (by omega) (by omega),qK]
  split
  ·rename_i h;subst h;rfl
  ·rw[Int.tdiv_eq_ediv_of_nonneg (by omega),wrap64 (by omega) (by omega)]
 simp(disch:=(first|omega| (simp only[Zs]<;>omega)|fail)) only[go_sem, ↓reduceIte,Zv,if_neg (show¬ ((2:Int)=0) by decide)]
 rw[afN]
 have MG:(l1.take mm).length=mm:=by rw[aoX];omega
 by_cases h0:j'=0
 ·refine am.cQ (aow (by rw[qK,if_pos h0,h0];rfl)) ?_
  refine vs ?_
  exact⟨rfl,l1,HU,q,h1,hA.heap hB (fun h=>by omega),by omega,fun h=>Vv (by omega)⟩
 ·have OV:=cG dJ (j:=j') (by omega)
  refine am.aY (aoJ (by omega)) ?_
  refine vs ?_
  refine gP.mono (h1.less bJ (i:=j') (j:=pa 2 j') (by omega) (by omega)) ?_
  rintro _ H2 ⟨rfl,h2⟩
  have E0:kX 2 (j':Int)=kX 2 ((pa 2 j':Nat):Int)+1:=by
   obtain⟨p,hp,QR,p0,p1⟩:=nG dJ (i:=(j':Int)) (by omega)
   rw[Int.toNat_natCast]at QR
   rw[qq hp,show p=((pa 2 j':Nat):Int) by omega]
  refine vs ?_
  cases aO:aQ w (l1.getD j' 0) (l1.getD (pa 2 j') 0)with
  |false=>
   refine vs ?_
   refine⟨rfl,l1,HU,q+1,h2,hA.heap hB (fun _ _=>?_),by omega,fun _=>by omega⟩
   rw[getD_take hj',getD_take (by omega)]
   exact aO
  |true=>
   refine vs ?_
   refine gP.mono (h2.swap hm (i:=pa 2 j') (j:=j') (by omega) hj' (by omega)) ?_
   rintro _ H3 ⟨rfl,h3⟩
   refine vs ?_
   obtain⟨g1,g2⟩:=WW ho (l:=l1.take mm) (i:=j') (by omega) (by omega) hA hB (by rw[getD_take hj',getD_take (by omega)];exact aO)
   have ht:(swp l1 (pa 2 j') j').take mm=swp (l1.take mm) (pa 2 j') j':=LH (by omega) hj' (by omega)
   exact⟨pa 2 j',by omega,pa 2 j',_,_,q+1,rfl,rfl,by omega,h3,by rw[ht];exact g1,by rw[ht];exact g2,by omega,fun _=>by omega⟩
theorem uQ(m:gT H n c C rv r fp fa st w l at_)(vq:mH l at_){i0 mm:Nat}(hi:i0<mm)(hm:mm≤l.length)(bJ:∀z∈l,cY w.cs z)(hA:dE (aQ w) 2 (l.take mm) i0):
  af Tryz.prog tn [pv r,i64 i0,i64 mm] H fun v H'=>aw (∃ (b:Bool) (l' mr:List Int) (q:Nat),v= .bool b∧nL n c C rv r fp fa st w l at_ mm H H' l' mr q∧q+2*kX 2 i0≤2*kX 2 ((mm:Int) - 1)∧
   (b=true→eM (aQ w) 2 (l'.take mm))∧(b=false→l'=l∧mr=at_∧∀k,1≤k→k< (l.take mm).length→pa 2 k=i0→aQ w ((l.take mm).getD k 0) ((l.take mm).getD i0 0)=false)):=by
 have ho:=au w
 have oQ:=m.ll
 refine Fa tK ⟨rfl,?_⟩
 refine v1 jQ.eq_1 ?_
 have FL:∀k:Nat,k<mm→kX 2 (k:Int)≤kX 2 ((mm:Int) - 1):=fun k hk=>kY dJ ((mm:Int) - 1).toNat _ _ (aov _) (by omega)
 refine aX.intro (fun k env H'=>∃ (i:Nat) (l1 HU:List Int) (q:Nat),env=[(0,pv r),(1,i64 i0),(2,i64 mm),(7,i64 i)]∧k=mm - i∧i<mm∧i0≤i∧nL n c C rv r fp fa st w l at_ mm H H' l1 HU q∧dE (aQ w) 2 (l1.take mm) i∧
   q+2*kX 2 i0≤2*kX 2 i∧(i0<i→aQ w ((l1.take mm).getD i 0) ((l1.take mm).getD (pa 2 i) 0)=false)∧(i=i0→l1=l∧HU=at_)) (mm - i0)
  ⟨i0,l,at_,0,rfl,rfl,hi,aov _,nL.refl m vq mm,hA,by omega,fun h=>by omega,fun _=>⟨rfl,rfl⟩⟩ ?_
 clear hA
 rintro k env H1 ⟨i,l1,HU,q,rfl,rfl,him,FG,h1,hA,hq,hD,Iw⟩
 have sG:=h1.len
 have MG:(l1.take mm).length=mm:=by rw[aoX];omega
 have stay:∀ (H2:Hp) (q':Nat),nL n c C rv r fp fa st w l at_ mm H H2 l1 HU q'→q'+2*kX 2 i0≤2*kX 2 ((mm:Int) - 1)→(∀k,1≤k→k< (l1.take mm).length→pa 2 k=i→aQ w ((l1.take mm).getD k 0) ((l1.take mm).getD i 0)=false)→
   ∃ (b:Bool) (l' mr:List Int) (q:Nat),Value.bool (decide ((i:Int)>i0))= .bool b∧nL n c C rv r fp fa st w l at_ mm H H2 l' mr q∧q+2*kX 2 i0≤2*kX 2 ((mm:Int) - 1)∧
    (b=true→eM (aQ w) 2 (l'.take mm))∧(b=false→l'=l∧mr=at_∧∀k,1≤k→k< (l.take mm).length→pa 2 k=i0→aQ w ((l.take mm).getD k 0) ((l.take mm).getD i0 0)=false):=by
  intro H2 q' h2 hq' hB
  refine⟨_,l1,HU,q',rfl,h2,hq',fun h=>?_,fun h=>?_⟩
  ·have:=of_decide_eq_true h
   exact hA.heap hB (fun _ _=>hD (by omega))
  ·have:=of_decide_eq_false h
   have e:i=i0:=by omega
   obtain⟨e1,e2⟩:=Iw e
   subst e1 e2 e
   exact⟨rfl,rfl,hB⟩
 have PS:∀k:Nat,1≤k→(pa 2 k=i↔(2*i+1≤k∧k≤2*i+2)):=fun k hk=>by
  have:=RB dJ (i:=i) hk
  rw[this]
  omega
 refine vs ?_
 have hj1:IntKind.i64.wrap (IntKind.i64.wrap (2*(i:Int))+1)=((2*i+1:Nat):Int):=by
  rw[wrap64 (n:=2*(i:Int)) (by omega) (by omega),wrap64 (by omega) (by omega)];omega
 rw[hj1]
 refine am.dec (fun OC=>?_) (fun OC=>?_)
 ·refine vs ?_
  exact stay H1 q h1 (by have:=FL i him;omega) (fun k h2 h3 h4=>by have:=(PS k h2).1 h4;omega)
 refine vs ?_
 refine am.aY (aoJ (by omega)) ?_
 refine vs ?_
 have vC:2*i+1<mm:=by omega
 refine Nt (fun e H2=>e.find 0=some (pv r)∧e.find 1=some (i64 i0)∧e.find 2=some (i64 mm)∧e.find 7=some (i64 i)∧∃ (b:Nat) (q':Nat),e.find 9=some (i64 b)∧nL n c C rv r fp fa st w l at_ mm H H2 l1 HU q'∧q'≤q+1∧1≤b∧b<mm∧pa 2 b=i∧
   ∀k,1≤k→k< (l1.take mm).length→pa 2 k=i→aQ w ((l1.take mm).getD k 0) ((l1.take mm).getD b 0)=false) ?_ ?_
 ·have B0:pa 2 (2*i+1)=i:=(PS _ (by omega)).2 ⟨by omega,by omega⟩
  refine vs ?_
  have fS:IntKind.i64.wrap (((2*i+1:Nat):Int)+1)=((2*i+2:Nat):Int):=by rw[wrap64 (by omega) (by omega)];omega
  rw[fS]
  refine am.dec (fun h2=>?_) (fun h2=>?_)
  ·have qK:pa 2 (2*i+2)=i:=(PS _ (by omega)).2 ⟨by omega,by omega⟩
   refine vs ?_
   refine gP.mono (h1.less bJ (i:=2*i+2) (j:=2*i+1) (by omega) (by omega)) ?_
   rintro _ H2 ⟨rfl,g2⟩
   refine vs ?_
   cases aO:aQ w (l1.getD (2*i+2) 0) (l1.getD (2*i+1) 0)with
   |false=>
    refine vs ?_
    refine⟨trivial,trivial,trivial,trivial,2*i+1,q+1,rfl,g2,by omega,by omega,vC,B0,fun k h3 h4 h5=>?_⟩
    have h6:=(PS k h3).1 h5
    rw[getD_take (by omega),getD_take (by omega)]
    by_cases h7:k=2*i+1
    ·rw[h7];exact ho.vy _
    ·rw[show k=2*i+2 by omega];exact aO
   |true=>
    refine vs ?_
    refine⟨trivial,trivial,trivial,trivial,2*i+2,q+1,rfl,g2,by omega,by omega,by omega,qK,fun k h3 h4 h5=>?_⟩
    have h6:=(PS k h3).1 h5
    rw[getD_take (by omega),getD_take (by omega)]
    by_cases h7:k=2*i+2
    ·rw[h7];exact ho.vy _
    ·rw[show k=2*i+1 by omega];exact ho.asym aO
  ·refine vs ?_
   refine⟨trivial,trivial,trivial,trivial,2*i+1,q,rfl,h1,by omega,by omega,vC,B0,fun k h3 h4 h5=>?_⟩
   have h6:=(PS k h3).1 h5
   rw[show k=2*i+1 by omega]
   exact ho.vy _
 rintro e H2 ⟨e0,e1,e2,e7,b,q',e9,h2,hq',Lm,EZ,PQ,rV⟩
 refine v5 e0 e1 e2 e7 e9 ?_
 refine gP.mono (h2.less bJ (i:=b) (j:=i) (by omega) (by omega)) ?_
 rintro _ H3 ⟨rfl,h3⟩
 have E0:kX 2 (b:Int)=kX 2 (i:Int)+1:=by
  obtain⟨p,hp,QR,p0,p1⟩:=nG dJ (i:=(b:Int)) (by omega)
  rw[Int.toNat_natCast,PQ]at QR
  rw[qq hp,show p=(i:Int) by omega]
 have hib:=cG dJ Lm
 refine v5 e0 e1 e2 e7 e9 ?_
 cases aO:aQ w (l1.getD b 0) (l1.getD i 0)with
 |false=>
  refine v5 e0 e1 e2 e7 e9 ?_
  refine stay H3 (q'+1) h3 (by have:=FL b EZ;omega) (fun k h4 h5 h6=>?_)
  have h7:=rV k h4 h5 h6
  have h8:aQ w ((l1.take mm).getD b 0) ((l1.take mm).getD i 0)=false:=by rw[getD_take EZ,getD_take him];exact aO
  exact ho.nt _ _ _ h7 h8
 |true=>
  refine v5 e0 e1 e2 e7 e9 ?_
  refine gP.mono (h3.swap hm (i:=i) (j:=b) him EZ (by omega)) ?_
  rintro _ H4 ⟨rfl,h4⟩
  refine v5 e0 e1 e2 e7 e9 ?_
  obtain⟨g1,g2⟩:=RY ho (l:=l1.take mm) (i:=i) (b:=b) Lm (by omega) PQ hA rV (by rw[getD_take EZ,getD_take him];exact aO)
  have ht:(swp l1 i b).take mm=swp (l1.take mm) i b:=LH him EZ (by omega)
  exact⟨mm - b,by omega,b,_,_,q'+1,rfl,rfl,EZ,by omega,h4,by rw[ht];exact g1,by omega,fun _=>by rw[ht];exact g2,fun h=>by omega⟩
end
end Go.Proofs.YtjlnnljohemifaaGreat

namespace Go.Proofs.YtjlnnljohemifaaGreat
open Go Go.Vc
section
variable {H : Hp} {n c : Nat} {C : Nat → Prop} {rv : Value} {r : Nat} {fp fa : Option Nat} {st : Int} {w : Nw} {l at_ : List Int}
theorem FX(m:gT H n c C rv r fp fa st w l at_)(hl:l.length<65536){x:Int}(hx:0≤x∧x.toNat<at_.length):af Tryz.prog pR [ptr r,.iface 3 (i64 x)] H fun v H'=>aw (
  v= .tuple [].toArray∧∃cP,gT H' n c C rv r cP fa st w (l++[x]) (at_.set x.toNat l.length)∧ag (fun z=>fp=some z∨fa=some z∨z=r) H H'∧(cP=fp∨∃z,cP=some z∧H.size≤z)):=by
 obtain⟨av,hn,ha⟩:=m.own
 obtain⟨sv,ho,hs⟩:=m.jC
 obtain⟨y,hy⟩:∃y,at_[x.toNat]? =some y:=⟨_,aoh hx.2⟩
 obtain⟨f,fc,la,rfl,rfl,hf,Uc,_,hla⟩:=Sl.at_ ha (i:=x.toNat) (x:=i64 y) (by simp[hy])
 obtain⟨g1,g2,g3⟩:=m.JH f rfl
 obtain⟨sa,sc,yg⟩:=cO.Ry hs.rd
 refine bv CA ?_
 refine vs ?_
 refine v3 (ae ho) (ae hn) yg ?_
 refine⟨by omega,?_⟩
 refine v3 hf aol aoi ?_
 refine⟨by omega,?_⟩
 refine v1 aoi ?_
 have e1:ag (fun z=>z=f) H (H.wr f (la.set x.toNat (i64 l.length))):=(ag.refl (fun z=>z=f) _).wr (fun _=>rfl) _
 have s1:=ha.uC hf x.toNat (i64 l.length)
 have vW:=e1.own hn (Ne.symm g2)
 have Ns:=e1.own ho (Ne.symm g3)
 have eK:=hs.ext e1 (fun z hz h=>(m.xA z hz).2.2.2 (by rw[h]))
 have c1:=m.cells.ext e1 (fun z hz h=>g1 (h▸hz))
 generalize H.wr f (la.set x.toNat (i64 l.length))=H1 at*
 have e2:ag (fun _=>False) H1 (H1.new 3 [i64 x]):=(ag.refl _ _).new _ _
 refine v1 (ae ho) ?_
 refine Sl.append (eK.ext e2 (fun _ _ h=>h)) (Sl.bU (size:=1) (xs:=[i64 x]) rfl rfl).rd rfl (by intro v hv;simp only[aoq]at hv;subst hv;rfl) (by omega) ?_
 intro VA H3 cP s3 e3 fZ
 have z1:=e1.size
 have hrs:=aB Ns
 have WT:=aB vW
 have GS:ag (fun z=>fp=some z) H1 H3:=(e2.mono fun _ _ h=>h.elim).nu e3 (fun z _ h=>h)
 have MI:=GS.own Ns (fun h=>(m.xA r h).2.2.1 rfl)
 have hn3:=GS.own vW (fun h=>(m.xA n h).2.1 rfl)
 obtain⟨a',WX,OW⟩:=cO.Ry s3.rd
 subst OW
 refine v1 MI ?_
 generalize OW:Value.slice a' (l.length+1) WX=v' at*
 have e4:ag (fun z=>z=r) H3 (H3.wr r [ptr n,v']):=(ag.refl (fun z=>z=r) _).wr (fun _=>rfl) _
 have hfs:=aB hf
 have Ew:∀b,cP=some b→fp=some b∨H1.size≤b:=fun b hb=>by
  rcases fZ with h| ⟨z,h,h5,_⟩
  ·exact .inl (h▸hb)
  ·rw[h]at hb;injection hb with hb;subst hb;rw[ap]at h5;exact .inr (by omega)
 have yb:=c1.slt
 refine⟨rfl,cP,⟨⟨_,e4.own hn3 (Ne.symm m.rn),?_⟩,(c1.ext GS (fun z hz h=>(m.xA z h).1 hz)).ext e4 (fun z hz h=>m.rC (h▸hz)),⟨_,ai MI,?_⟩,m.nC,m.rC,m.rn,fun b hb=>?_,m.JH,by rw[aor,aoA];omega⟩,
  (e1.mono fun z _ hz=>.inr (.inl (by rw[hz]))).trans ((GS.mono fun z _ hz=>.inl hz).trans (e4.mono fun z _ hz=>.inr (.inr hz))),?_⟩
 ·have:=((s1.ext GS (fun z hz h=>(m.xA z h).2.2.2 hz)).ext e4 (fun z hz h=>by injection hz with hz;exact g3 (hz.trans h)))
  rw[aok,ao4]
  exact this
 ·have:=s3.ext e4 (fun b hb h=>by
   rcases Ew b hb with h5|h5
   ·exact(m.xA b h5).2.2.1 h
   ·omega)
  rw[aor,aoN]
  exact this
 ·rcases Ew b hb with h5|h5
  ·exact m.xA b h5
  ·refine⟨fun h=>?_,by omega,by omega,fun h=>?_⟩
   ·have:=yb b h;omega
   ·injection h with h;omega
 ·rcases fZ with h| ⟨z,h,h5,_⟩
  ·exact .inl h
  ·exact .inr ⟨z,h,by rw[ap]at h5;omega⟩
theorem HV(m:gT H n c C rv r fp fa st w l at_)(hl:0<l.length):af Tryz.prog sK [ptr r] H fun v H'=>aw (
  (∃x,v= .iface 3 (i64 x))∧gT H' n c C rv r fp fa st w l.dropLast at_∧ag (fun z=>z=r) H H'):=by
 obtain⟨av,hn,ha⟩:=m.own
 obtain⟨sv,ho,hs⟩:=m.jC
 have oQ:=m.ll
 obtain⟨x,hx⟩:∃x,l[l.length - 1]? =some x:=⟨_,aoh (by omega)⟩
 obtain⟨f,cc,lb,rfl,rfl,hb,mq,_,DB⟩:=Sl.at_ hs (i:=l.length - 1) (x:=i64 x) (by simp[hx])
 have e1:IntKind.i64.wrap ((l.length:Int) - 1)=((l.length - 1:Nat):Int):=by rw[wrap64 (by omega) (by omega)];omega
 obtain⟨_,l2,c2,B3,g2,a5,a6,a7⟩:=id hs
 injection B3 with _ _ B3
 subst B3
 rw[hb]at g2
 injection g2 with g2
 subst g2
 refine bv D6 ?_
 simp(disch:=(first|omega| (simp only[Zs]<;>omega)|fail)) only[go_sem, ↓reduceIte,Zv,ae ho,e1,Int.toNat_natCast]
 refine⟨by omega,?_⟩
 simp(disch:=(first|omega| (simp only[Zs]<;>omega)|fail)) only[go_sem, ↓reduceIte,Zv,ae hb,ae ho,aol,mq,e1]
 refine⟨by omega,?_⟩
 have yg:Value.slice (if(cc:Int)=((0:Nat):Int)then some (⟨f,0,none⟩:Addr)else Option.map (fun(x:Addr)=>x.add (((0:Nat):Int).toNat*1)) (some (⟨f,0,none⟩:Addr))) (((l.length - 1:Nat):Int).toNat - ((0:Nat):Int).toNat) ((cc:Int).toNat - ((0:Nat):Int).toNat)= .slice (some ⟨f,0,none⟩) (l.length - 1) cc:=by
  split<;>rfl
 refine v2 (ae ho) ho ?_
 rw[yg]
 have ew:ag (fun z=>z=r) H (H.wr r [ptr n,.slice (some ⟨f,0,none⟩) (l.length - 1) cc]):=(ag.refl (fun z=>z=r) _).wr (fun _=>rfl) _
 obtain⟨d1,d2,d3,d4⟩:=m.xA f rfl
 refine⟨⟨_,rfl⟩,⟨⟨_,ew.own hn (Ne.symm m.rn),ha.ext ew (fun z hz h=>(m.JH z hz).2.2 h)⟩,m.cells.ext ew (fun z hz h=>m.rC (h▸hz)),⟨_,ai ho,?_⟩,m.nC,m.rC,m.rn,m.xA,m.JH,by rw[aoU];omega⟩,ew⟩
 refine⟨by simp,lb,cc,by rw[aoU],ew.own hb d3,by rw[aoU];omega,a6,?_⟩
 have hx7:((l.map i64).length)=l.length:=by simp
 rw[aoU,List.map_dropLast,apP,hx7,←a7,aqk]
 congr 1
 omega
theorem FY(m:gT H n c C rv r fp fa st w l at_)(vq:mH l at_)(hl:l.length<65536){x:Int}(hx:0≤x∧x.toNat<at_.length)(mF:x∉l)(R0:cY w.cs x)(bJ:∀z∈l,cY w.cs z)(hh:eM (aQ w) 2 l):
  af Tryz.prog tm [pv r,.iface 3 (i64 x)] H fun v H'=>aw (v= .tuple [].toArray∧∃ (cP:Option Nat) (l' mr:List Int) (q:Nat),gT H' n c C rv r cP fa (min (st+q) 4611686018427387904) w l' mr∧mH l' mr∧eM (aQ w) 2 l'∧(∀z,z∈l'↔z=x∨z∈l)∧l'.length=l.length+1∧
   mr.length=at_.length∧(∀z:Int,0≤z→z≠x→z∉l→mr[z.toNat]? =at_[z.toNat]?)∧q≤kX 2 l.length∧(0<l.length→0<q)∧ag (fun z=>C z∨fp=some z∨fa=some z∨z=r) H H'∧(cP=fp∨∃z,cP=some z∧H.size≤z)):=by
 refine bv tJ ?_
 refine vs ?_
 refine gP.mono (K:=fun v H'=>v= .tuple [].toArray∧∃cP,gT H' n c C rv r cP fa st w (l++[x]) (at_.set x.toNat l.length)∧ag (fun z=>fp=some z∨fa=some z∨z=r) H H'∧(cP=fp∨∃z,cP=some z∧H.size≤z)) ⟨_,_,pR,ptr r,rfl,bD (by kernel_rfl),FX m hl hx⟩ ?_
 rintro _ H1 ⟨rfl,cP,m1,e1,ir⟩
 refine vs ?_
 refine gP.mono (K:=fun v H'=>v=i64 (l++[x]).length∧H1=H') ⟨_,_,gY,ptr r,rfl,bD (by kernel_rfl),oW m1⟩ ?_
 rintro _ _ ⟨rfl,rfl⟩
 refine vs ?_
 have aZ:(l++[x]).length=l.length+1:=by simp
 rw[show IntKind.i64.wrap (((l++[x]).length:Int) - 1)=((l.length:Nat):Int) by rw[aZ,wrap64 (by omega) (by omega)];omega]
 have afP:mH (l++[x]) (at_.set x.toNat l.length):=fun i z hz=>by
  rcases apK i l.length with h|h|h
  ·rw[aox h]at hz
   obtain⟨a,b⟩:=vq i z hz
   have aP:x.toNat≠z.toNat:=fun e=>mF (by rw[show x=z by omega];exact aon hz)
   rw[aoo aP]
   exact⟨a,b⟩
  ·subst h
   rw[aoK (aov _),apw]at hz
   simp only[aoM,aos]at hz
   subst hz
   rw[aop hx.2]
   exact⟨hx.1,rfl⟩
  ·rw[aoz (by omega)]at hz;cases hz
 have ht:(l++[x]).take (l++[x]).length=l++[x]:=aoP
 have OC:∀k,k<l.length→(l++[x]).getD k 0=l.getD k 0:=fun k hk=>by rw[aom,aox hk,aom]
 have OV:∀k:Nat,1≤k→k<l.length+1→pa 2 k≠l.length:=fun k h1 h2=>by have:=cG dJ h1;omega
 refine(r9 m1 afP (j:=l.length) (mm:=(l++[x]).length) (by omega) (aov _) (fun z hz=>?_) (by
  rw[ht]
  refine⟨fun k h1 h2 h3 h4=>?_,fun k h1 h2 h3 h4=>absurd h3 (OV k h1 (by omega))⟩
  have:=cG dJ h1
  rw[OC k (by omega),OC _ (by omega)]
  exact hh k h1 (by omega)) (fun k h1 h2 h3=>absurd h3 (OV k h1 (by rw[ht]at h2;omega)))).mono ?_
 ·rcases aou.1 hz with h|h
  ·exact bJ z h
  ·rw[aoq]at h;rw[h];exact R0
 rintro _ H2 ⟨rfl,l',mr,q,g,iD,hq,Vv⟩
 have ER:=g.len
 rw[←ER,aoP]at iD
 refine vs ?_
 refine⟨rfl,cP,l',mr,q,g.jC,g.ok,iD,fun z=>?_,by omega,by rw[g.LI,aok],fun z hz h1 h2=>?_,hq,fun h=>Vv (by omega),(e1.mono fun z _ hz=>.inr hz).nu g.ext (fun z hzl hz=>?_),ir⟩
 ·rw[g.mem z,aou,aoq]
  exact Or.comm
 ·rw[g.off z hz (fun h=>by rcases aou.1 h with h|h;exact h2 h;exact h1 (aoq.1 h)),aoo (by omega)]
 ·rcases hz with hz|hz|hz
  ·exact .inl hz
  ·rcases ir with h| ⟨y,h,h5⟩
   ·exact .inr (.inl (h▸hz))
   ·rw[h]at hz;injection hz with hz;omega
  ·exact .inr (.inr (.inl hz))
theorem HW(m:gT H n c C rv r fp fa st w l at_)(vq:mH l at_){i:Nat}(hi:i<l.length)(bJ:∀z∈l,cY w.cs z)(hA:dE (aQ w) 2 l i):
  af Tryz.prog uf [pv r,i64 i] H fun v H'=>aw (v= .tuple [].toArray∧∃ (l' mr:List Int) (q:Nat),nL n c C rv r fp fa st w l at_ l.length H H' l' mr q∧eM (aQ w) 2 l'∧q≤2*kX 2 ((l.length:Int) - 1)):=by
 have oQ:=m.ll
 have ht:l.take l.length=l:=aoP
 refine bv uA ?_
 refine vs ?_
 refine gP.mono (K:=fun v H'=>v=i64 l.length∧H=H') ⟨_,_,gY,ptr r,rfl,bD (by kernel_rfl),oW m⟩ ?_
 rintro _ _ ⟨rfl,rfl⟩
 refine vs ?_
 refine(uQ m vq hi (aov _) bJ (by rw[ht];exact hA)).mono ?_
 rintro _ H1 ⟨b,l1,HU,q1,rfl,g1,QS,hT,hF⟩
 have sG:=g1.len
 cases b with
 |true=>
  have h:=hT rfl
  rw[←sG,aoP]at h
  refine vs ?_
  exact⟨rfl,l1,HU,q1,g1,h,by omega⟩
 |false=>
  obtain⟨e1,e2,hB⟩:=hF rfl
  subst e1 e2
  refine vs ?_
  have hm:=(kY dJ ((l1.length:Int) - 1).toNat (i:Int) ((l1.length:Int) - 1) (aov _) (by omega))
  refine(r9 g1.jC g1.ok (j:=i) (mm:=l1.length) hi (aov _) bJ (by rw[ht];exact hA) hB).mono ?_
  rintro _ H2 ⟨rfl,l2,Ze,q2,g2,iD,hq2,_⟩
  have oJ:=g2.len
  rw[←oJ,aoP]at iD
  refine vs ?_
  refine⟨rfl,l2,Ze,q1+q2,⟨?_,g2.ok,g2.mem,g2.len,g2.drop,g2.LI,g2.off,g1.ext.trans g2.ext⟩,iD,by omega⟩
  rw[show min (st+((q1+q2:Nat):Int)) 4611686018427387904=min (min (st+(q1:Int)) 4611686018427387904+(q2:Int)) 4611686018427387904 by omega]
  exact g2.jC
end
end Go.Proofs.YtjlnnljohemifaaGreat

namespace Go.Proofs.YtjlnnljohemifaaGreat
open Go Go.Vc
theorem eM.JI{lt lt':Int→Int→Bool}{l:List Int}(h:eM lt 2 l)(hfg:∀z∈l,∀y∈l,lt z y=lt' z y):eM lt' 2 l:=by
 intro j h1 h2
 have hp:=cG dJ h1
 have e:∀k,k<l.length→l.getD k 0∈l:=fun k hk=>by
  rw[aom,aoh hk];exact List.getElem_mem hk
 rw[←hfg _ (e j h2) _ (e _ (show pa 2 j<l.length by omega))]
 exact h j h1 h2
theorem JJ{l at_:List Int}(h:mH l at_){x:Int}(hx:l[l.length - 1]? =some x)(z:Int):z∈l.dropLast↔z∈l∧z≠x:=by
 have hl:=(aoj.1 hx).1
 rw[apP]
 constructor
 ·intro hz
  obtain⟨k,hk⟩:=aoS hz
  rw[aoV]at hk
  split at hk
  ·refine⟨aon hk,fun e=>?_⟩
   subst e
   have:=h.FK hk hx
   omega
  ·cases hk
 ·rintro⟨hz,aP⟩
  obtain⟨k,hk⟩:=aoS hz
  have Ud:=(aoj.1 hk).1
  have:k≠l.length - 1:=fun e=>by rw[e,hx]at hk;injection hk with hk;exact aP hk.symm
  exact aon (i:=k) (by rw[aoO (by omega)];exact hk)
theorem mH.dropLast{l at_:List Int}(h:mH l at_):mH l.dropLast at_:=fun i x hx=>by
 rw[apP,aoV]at hx
 split at hx
 ·exact h i x hx
 ·cases hx
section
variable {H : Hp} {n c : Nat} {C : Nat → Prop} {rv : Value} {r : Nat} {fp fa : Option Nat} {st : Int} {w : Nw} {l at_ : List Int}
structure Out(n c:Nat)(C:Nat→Prop)(rv:Value)(r:Nat)(fp fa:Option Nat)(st:Int)(w:Nw)(l at_:List Int)(x:Int)(H H':Hp)(l' mr:List Int)(q:Nat):Prop where
 jC:gT H' n c C rv r fp fa (min (st+q) 4611686018427387904) w l' mr
 ok:mH l' mr
 heap:eM (aQ w) 2 l'
 mem:∀z,z∈l'↔z∈l∧z≠x
 len:l'.length+1=l.length
 LI:mr.length=at_.length
 off:∀z:Int,0≤z→z∉l→mr[z.toNat]? =at_[z.toNat]?
 ext:ag (fun z=>C z∨fp=some z∨fa=some z∨z=r) H H'
theorem OX{H1:Hp}{l1 HU:List Int}{mm q:Nat}{x:Int}(h:nL n c C rv r fp fa st w l at_ mm H H1 l1 HU q)(hl:0<l.length)(hx:l1[l1.length - 1]? =some x)(hh:eM (aQ w) 2 (l1.take (l.length - 1))):
  gP Tryz.prog (pv r) "Pop" [] H1 fun v H'=>∃l' mr,Out n c C rv r fp fa st w l at_ x H H' l' mr q:=by
 have aZ:=h.len
 refine⟨_,_,sK,ptr r,rfl,bD (by kernel_rfl),(HV h.jC (by omega)).mono ?_⟩
 rintro v H2 ⟨_,m2,e2⟩
 refine⟨l1.dropLast,HU,m2,h.ok.dropLast,?_,fun z=>by rw[JJ h.ok hx z,h.mem z],by rw[aoU];omega,h.LI,h.off,(h.ext.mono fun z _ hz=>?_).trans (e2.mono fun z _ hz=>.inr (.inr (.inr hz)))⟩
 ·rw[apP,aZ];exact hh
 ·rcases hz with hz|hz|hz
  ·exact .inl hz
  ·exact .inr (.inl hz)
  ·exact .inr (.inr (.inl hz))
theorem CX(m:gT H n c C rv r fp fa st w l at_)(vq:mH l at_){i:Nat}(hi:i<l.length)(bJ:∀z∈l,cY w.cs z)(hh:eM (aQ w) 2 l):
  af Tryz.prog pP [pv r,i64 i] H fun v H'=>aw (∃ (l' mr:List Int) (q:Nat),Out n c C rv r fp fa st w l at_ (l.getD i 0) H H' l' mr q∧q≤2*kX 2 ((l.length:Int) - 1)):=by
 have oQ:=m.ll
 refine bv qf ?_
 refine vs ?_
 refine gP.mono (K:=fun v H'=>v=i64 l.length∧H=H') ⟨_,_,gY,ptr r,rfl,bD (by kernel_rfl),oW m⟩ ?_
 rintro _ _ ⟨rfl,rfl⟩
 refine vs ?_
 rw[show IntKind.i64.wrap ((l.length:Int) - 1)=((l.length - 1:Nat):Int) by rw[wrap64 (by omega) (by omega)];omega]
 have h0:=nL.refl m vq l.length
 have hgi:l[i]? =some (l.getD i 0):=by rw[aom,aoh hi];rfl
 refine am.dec (fun he=>?_) (fun he=>?_)
 ·refine vs ?_
  have qi:i=l.length - 1:=by omega
  refine gP.mono (OX h0 (by omega) (x:=l.getD i 0) (by rw[←qi];exact hgi) (fun j h1 h2=>by
   rw[aoX]at h2
   have:=cG dJ h1
   rw[getD_take (by omega),getD_take (by omega)]
   exact hh j h1 (by omega))) ?_
  rintro v H2 ⟨l',mr,o⟩
  refine vs ?_
  exact⟨l',mr,0,o,by omega⟩
 ·refine vs ?_
  have Eu:i<l.length - 1:=by omega
  refine gP.mono (h0.swap (aov _) (i:=i) (j:=l.length - 1) hi (by omega) (by omega)) ?_
  rintro _ H1 ⟨rfl,h1⟩
  refine vs ?_
  have hg:=Bq (l:=l) (i:=i) (j:=l.length - 1) hi (by omega)
  have sG:=h1.len
  have hA1:dE (aQ w) 2 ((swp l i (l.length - 1)).take (l.length - 1)) i:=by
   have hb:=hh.but (au w) dJ i
   refine⟨fun j h2 h3 h4 h5=>?_,fun j h2 h3 h4 h5=>?_⟩
   ·rw[aoX]at h3
    have:=cG dJ h2
    rw[getD_take (by omega),getD_take (by omega),hg,hg,if_neg (by omega),if_neg h4,if_neg (by omega),if_neg h5]
    exact hb.1 j h2 (by omega) h4 h5
   ·rw[aoX]at h3
    have:=cG dJ h2
    have:=cG dJ h5
    rw[getD_take (by omega),getD_take (by omega),hg,hg,if_neg (by omega),if_neg (by omega),if_neg (by omega),if_neg (by omega)]
    exact hb.2 j h2 (by omega) h4 h5
  have Nu:∀z∈swp l i (l.length - 1),cY w.cs z:=fun z hz=>bJ z ((h1.mem z).1 hz)
  have jZ:(swp l i (l.length - 1))[l.length - 1]? =some (l.getD i 0):=by rw[mG hi (by omega),if_pos rfl];exact hgi
  have fin:∀ {H2:Hp} {l2 Ze:List Int} {q:Nat},nL n c C rv r fp fa (min (st+((0:Nat):Int)) 4611686018427387904) w (swp l i (l.length - 1)) (Br l at_ i (l.length - 1)) (l.length - 1) H1 H2 l2 Ze q→eM (aQ w) 2 (l2.take (l.length - 1))→
    gP Tryz.prog (pv r) "Pop" [] H2 fun v H'=>∃l' mr,Out n c C rv r fp fa st w l at_ (l.getD i 0) H H' l' mr q:=by
   intro H2 l2 Ze q g iD
   have uE:=m.cells.st
   have g':nL n c C rv r fp fa st w l at_ l.length H H2 l2 Ze q:=by
    refine⟨?_,g.ok,fun z=>by rw[g.mem z,h1.mem z],g.len.trans sG,?_,g.LI.trans h1.LI,fun z hz hm=>?_,h1.ext.trans g.ext⟩
    ·have:=g.jC
     rw[show min (min (st+((0:Nat):Int)) 4611686018427387904+(q:Int)) 4611686018427387904=min (st+(q:Int)) 4611686018427387904 by omega]at this
     exact this
    ·rw[ap3 (by rw[g.len];omega),ap3 (aov _)]
    ·rw[g.off z hz (fun h=>hm ((h1.mem z).1 h))];exact h1.off z hz hm
   refine OX g' (by omega) ?_ iD
   have hd:=g.drop
   have h2:(l2.drop (l.length - 1))[0]? =((swp l i (l.length - 1)).drop (l.length - 1))[0]? :=by rw[hd]
   rw[aoW,aoW,Nat.add_zero,jZ]at h2
   rw[g.len,sG]
   exact h2
  have FL:=kY dJ ((l.length:Int) - 1).toNat (((l.length - 1:Nat):Int) - 1) ((l.length:Int) - 1) (aov _) (by omega)
  refine(uQ h1.jC h1.ok (i0:=i) (mm:=l.length - 1) Eu (by rw[sG];omega) Nu hA1).mono ?_
  rintro _ H2 ⟨b,l2,Ze,q1,rfl,g2,QS,hT,hF⟩
  cases b with
  |true=>
   refine vs ?_
   refine gP.mono (fin g2 (hT rfl)) ?_
   rintro v H3 ⟨l',mr,o⟩
   refine vs ?_
   exact⟨l',mr,q1,o,by omega⟩
  |false=>
   obtain⟨e1,e2,hB⟩:=hF rfl
   subst e1 e2
   have hmi:=kY dJ (((l.length - 1:Nat):Int) - 1).toNat (i:Int) (((l.length - 1:Nat):Int) - 1) (aov _) (by omega)
   refine vs ?_
   refine(r9 g2.jC g2.ok (j:=i) (mm:=l.length - 1) Eu (by rw[sG];omega) Nu hA1 hB).mono ?_
   rintro _ H3 ⟨rfl,l3,at3,q2,g3,iD,hq2,_⟩
   refine vs ?_
   have g23:nL n c C rv r fp fa (min (st+((0:Nat):Int)) 4611686018427387904) w (swp l i (l.length - 1)) (Br l at_ i (l.length - 1)) (l.length - 1) H1 H3 l3 at3 (q1+q2):=by
    refine⟨?_,g3.ok,g3.mem,g3.len,g3.drop,g3.LI,g3.off,g2.ext.trans g3.ext⟩
    have:=g3.jC
    rw[show min (min (min (st+((0:Nat):Int)) 4611686018427387904+(q1:Int)) 4611686018427387904+(q2:Int)) 4611686018427387904=min (min (st+((0:Nat):Int)) 4611686018427387904+((q1+q2:Nat):Int)) 4611686018427387904 by omega]at this
    exact this
   refine gP.mono (fin g23 iD) ?_
   rintro v H4 ⟨l',mr,o⟩
   refine vs ?_
   exact⟨l',mr,q1+q2,o,by omega⟩
end
end Go.Proofs.YtjlnnljohemifaaGreat

namespace Go.Proofs.YtjlnnljohemifaaGreat
open Go Go.Vc
structure Pl where
 r:Nat
 fp:Option Nat
 l:List Int
def Pl.S(P:Pl)(x:Nat):Prop:=x=P.r∨P.fp=some x
def To:Option Pl→Value
 |none=>.pointer none
 |some P=>ptr P.r
structure mu(H:Hp)(n c:Nat)(C:Nat→Prop)(rv:Value)(fr fa:Option Nat)(st:Int)(w:Nw)(ps:List (Option Pl))(at_:List Int):Prop where
 own:∃av,H.own n=some [ptr c,rv,av]∧Sl H 1 av at_.length (at_.map i64) fa
 cells:bf H c C st w
 sl:Sl H 1 rv ps.length (ps.map To) fr
 jC:∀ (h:Nat) P,ps[h]? =some (some P)→∃sv,H.own P.r=some [ptr n,sv]∧Sl H 1 sv P.l.length (P.l.map i64) P.fp
 nC:¬C n
 OY:∀b,fr=some b→¬C b∧b≠n∧fa≠some b
 JH:∀b,fa=some b→¬C b∧b≠n
 pd:∀ (h:Nat) P,ps[h]? =some (some P)→∀x,P.S x→¬C x∧x≠n∧fr≠some x∧fa≠some x
 pr:∀ (h:Nat) P,ps[h]? =some (some P)→P.fp≠some P.r∧P.l.length≤65536
 pp:∀ (h h':Nat) P P',ps[h]? =some (some P)→ps[h']? =some (some P')→h≠h'→∀x,P.S x→¬P'.S x
def DD(n:Nat)(C:Nat→Prop)(fr fa:Option Nat)(ps:List (Option Pl))(z:Nat):Prop:=C z∨z=n∨fr=some z∨fa=some z∨∃ (h:Nat) (P:Pl),ps[h]? =some (some P)∧P.S z
structure FZ(w:Nw)(ps:List (Option Pl))(at_:List Int):Prop where
 hl:ps.length=w.hs.length
 hs:∀h:Nat,w.hs[h]? =some true↔∃P,ps[h]? =some (some P)
 h0:ps[0]? =some none
 ok:∀ (h:Nat) P,ps[h]? =some (some P)→eM (aQ w) 2 P.l
 Tp:∀ (h:Nat) P,ps[h]? =some (some P)→mH P.l at_
 mem:∀ (h:Nat) P,ps[h]? =some (some P)→∀x:Int,x∈P.l↔0≤x∧∃e,w.cs[x.toNat]? =some (((h:Nat):Int),e)
 len:∀ (h:Nat) P,ps[h]? =some (some P)→(P.l.length:Int)=w.len h
 LI:at_.length=w.cs.length
def dB(H:Hp)(n:Nat)(S:Nat→Prop)(st:Int)(w:Nw):Prop:=∃c C rv fr fa ps at_,mu H n c C rv fr fa st w ps at_∧FZ w ps at_∧(∀z,DD n C fr fa ps z↔S z)
section
variable {H H' : Hp} {n c : Nat} {C T : Nat → Prop} {rv : Value} {fr fa : Option Nat} {st WY : Int} {w w' : Nw} {ps : List (Option Pl)} {at_ mr : List Int} {S : Nat → Prop}
theorem mu.slt(h:mu H n c C rv fr fa st w ps at_):∀z,DD n C fr fa ps z→z<H.size:=by
 obtain⟨av,ho,ha⟩:=h.own
 rintro z (hz|rfl|hz|hz| ⟨i,P,hP,hz⟩)
 ·exact h.cells.slt z hz
 ·exact aB ho
 ·exact Sl.lt (hz▸h.sl)
 ·exact Sl.lt (hz▸ha)
 ·obtain⟨sv,h1,h2⟩:=h.jC i P hP
  rcases hz with rfl|hz
  ·exact aB h1
  ·exact Sl.lt (hz▸h2)
theorem mu.ext(h:mu H n c C rv fr fa st w ps at_)(e:ag T H H')(hd:∀z,DD n C fr fa ps z→¬T z):mu H' n c C rv fr fa st w ps at_:=by
 obtain⟨av,ho,ha⟩:=h.own
 refine⟨⟨av,e.own ho (hd n (.inr (.inl rfl))),ha.ext e (fun b hb=>hd b (.inr (.inr (.inr (.inl hb)))))⟩,h.cells.ext e (fun x hx=>hd x (.inl hx)),h.sl.ext e (fun b hb=>hd b (.inr (.inr (.inl hb)))),fun i P hP=>?_,h.nC,h.OY,h.JH,h.pd,h.pr,h.pp⟩
 obtain⟨sv,h1,h2⟩:=h.jC i P hP
 exact⟨sv,e.own h1 (hd _ (.inr (.inr (.inr (.inr ⟨i,P,hP,.inl rfl⟩))))),h2.ext e (fun b hb=>hd b (.inr (.inr (.inr (.inr ⟨i,P,hP,.inr hb⟩)))))⟩
theorem mu.aJ(h:mu H n c C rv fr fa st w ps at_)(c1:bf H' c C WY w')(e:ag C H H'):mu H' n c C rv fr fa WY w' ps at_:=by
 obtain⟨av,ho,ha⟩:=h.own
 refine⟨⟨av,e.own ho h.nC,ha.ext e (fun b hb=>(h.JH b hb).1)⟩,c1,h.sl.ext e (fun b hb=>(h.OY b hb).1),fun i P hP=>?_,h.nC,h.OY,h.JH,h.pd,h.pr,h.pp⟩
 obtain⟨sv,h1,h2⟩:=h.jC i P hP
 exact⟨sv,e.own h1 (h.pd i P hP _ (.inl rfl)).1,h2.ext e (fun b hb=>(h.pd i P hP b (.inr hb)).1)⟩
theorem dB.slt(h:dB H n S st w):∀z,S z→z<H.size:=by
 obtain⟨c,C,rv,fr,fa,ps,at_,m,l,hS⟩:=h
 exact fun z hz=>m.slt z ((hS z).2 hz)
theorem dB.ext(h:dB H n S st w)(e:ag T H H')(hd:∀z,S z→¬T z):dB H' n S st w:=by
 obtain⟨c,C,rv,fr,fa,ps,at_,m,l,hS⟩:=h
 exact⟨c,C,rv,fr,fa,ps,at_,m.ext e (fun z hz=>hd z ((hS z).1 hz)),l,hS⟩
theorem dB.fresh(h:dB H n S st w)(e:ah H H'):dB H' n S st w:=h.ext e fun _ _ h=>h
theorem mu.Nv(m:mu H n c C rv fr fa st w ps at_){g:Nat}{P:Pl}(hP:ps[g]? =some (some P)):gT H n c C rv P.r P.fp fa st w P.l at_:=by
 have hd:=m.pd g P hP
 refine⟨m.own,m.cells,m.jC g P hP,m.nC,(hd P.r (.inl rfl)).1,(hd P.r (.inl rfl)).2.1,fun b hb=>⟨(hd b (.inr hb)).1,(hd b (.inr hb)).2.1,fun h=>(m.pr g P hP).1 (by rw[hb,h]),(hd b (.inr hb)).2.2.2⟩,fun b hb=>⟨(m.JH b hb).1,(m.JH b hb).2,fun h=>(hd P.r (.inl rfl)).2.2.2 (by rw[hb,h])⟩,(m.pr g P hP).2⟩
theorem mu.JK(m:mu H n c C rv fr fa st w ps at_){g:Nat}{P P':Pl}(hP:ps[g]? =some (some P))(hr:P'.r=P.r)(pm:gT H' n c C rv P'.r P'.fp fa WY w' P'.l mr)(fZ:P'.fp=P.fp∨∃z,P'.fp=some z∧H.size≤z)
  (e:ag T H H')(hT:∀z,T z→C z∨P.S z∨fa=some z):mu H' n c C rv fr fa WY w' (ps.set g (some P')) mr:=by
 have eT:=m.slt
 have hg:=(aoj.1 hP).1
 have hPS:∀x,P'.S x→P.S x∨H.size≤x:=fun x hx=>by
  rcases hx with rfl|hx
  ·exact .inl (.inl hr)
  ·rcases fZ with h| ⟨z,h,h5⟩
   ·exact .inl (.inr (h▸hx))
   ·rw[h]at hx;injection hx with hx;exact .inr (by omega)
 have cd:∀ (h:Nat) Q,(ps.set g (some P'))[h]? =some (some Q)→(h=g∧Q=P')∨(h≠g∧ps[h]? =some (some Q)):=fun h Q hQ=>by
  by_cases hh:h=g
  ·subst hh
   rw[aop hg]at hQ
   simp only[aos]at hQ
   exact .inl ⟨rfl,hQ.symm⟩
  ·rw[aoo (Ne.symm hh)]at hQ
   exact .inr ⟨hh,hQ⟩
 have hd:=m.pd g P hP
 refine⟨pm.own,pm.cells,?_,fun h Q hQ=>?_,m.nC,m.OY,m.JH,fun h Q hQ x hx=>?_,fun h Q hQ=>?_,fun h h' Q Q' hQ hQ' aP x hx xu=>?_⟩
 ·have h1:(ps.set g (some P')).map To=ps.map To:=by
   rw[ao4]
   refine ao8 fun i=>?_
   by_cases hi:i=g
   ·subst hi
    rw[aop (by rw[aoF];exact hg),aoG,hP]
    simp[To,hr]
   ·rw[aoo (Ne.symm hi)]
  rw[h1,aok]
  exact m.sl.ext e (fun b hb ht=>by
   rcases hT b ht with h|h|h
   ·exact(m.OY b hb).1 h
   ·exact(hd b h).2.2.1 hb
   ·exact(m.OY b hb).2.2 h)
 ·rcases cd h Q hQ with ⟨rfl,rfl⟩| ⟨h1,h2⟩
  ·exact pm.jC
  ·obtain⟨sv,q1,q2⟩:=m.jC h Q h2
   have bO:∀x,Q.S x→¬T x:=fun x hx ht=>by
    rcases hT x ht with h3|h3|h3
    ·exact(m.pd h Q h2 x hx).1 h3
    ·exact m.pp h g Q P h2 hP h1 x hx h3
    ·exact(m.pd h Q h2 x hx).2.2.2 h3
   exact⟨sv,e.own q1 (bO _ (.inl rfl)),q2.ext e (fun b hb=>bO b (.inr hb))⟩
 ·rcases cd h Q hQ with ⟨rfl,rfl⟩| ⟨h1,h2⟩
  ·rcases hPS x hx with h3|h3
   ·exact hd x h3
   ·refine⟨fun hc=>?_,fun hc=>?_,fun hc=>?_,fun hc=>?_⟩
    ·have:=eT x (.inl hc);omega
    ·have:=eT n (.inr (.inl rfl));omega
    ·have:=eT x (.inr (.inr (.inl hc)));omega
    ·have:=eT x (.inr (.inr (.inr (.inl hc))));omega
  ·exact m.pd h Q h2 x hx
 ·rcases cd h Q hQ with ⟨rfl,rfl⟩| ⟨h1,h2⟩
  ·refine⟨fun hc=>?_,pm.ll⟩
   exact(pm.xA _ hc).2.2.1 rfl
  ·exact m.pr h Q h2
 ·rcases cd h Q hQ with ⟨rfl,rfl⟩| ⟨h1,h2⟩
  ·rcases cd h' Q' hQ' with ⟨rfl,rfl⟩| ⟨h3,h4⟩
   ·exact aP rfl
   ·rcases hPS x hx with h5|h5
    ·exact m.pp _ h' P Q' hP h4 aP x h5 xu
    ·have:=eT x (.inr (.inr (.inr (.inr ⟨h',Q',h4,xu⟩))));omega
  ·rcases cd h' Q' hQ' with ⟨rfl,rfl⟩| ⟨h3,h4⟩
   ·rcases hPS x xu with h5|h5
    ·exact m.pp h _ Q P h2 hP aP x hx h5
    ·have:=eT x (.inr (.inr (.inr (.inr ⟨h,Q,h2,hx⟩))));omega
   ·exact m.pp h h' Q Q' h2 h4 aP x hx xu
theorem mu.atp(m:mu H n c C rv fr fa st w ps at_){i:Nat}{o:Option Pl}(h:ps[i]? =some o):∃f cc lb,rv= .slice (some ⟨f,0,none⟩) ps.length cc∧fr=some f∧H.own f=some lb∧lb[i]? =some (To o)∧i<ps.length:=by
 obtain⟨b,cc,lb,h1,h2,h3,h4,h5,_⟩:=Sl.at_ m.sl (i:=i) (x:=To o) (by simp[h])
 exact⟨b,cc,lb,h1,h2,h3,h4,h5⟩
theorem FZ.fk(l:FZ w ps at_){g:Int}(h:w.has g):∃P,ps[g.toNat]? =some (some P):=(l.hs g.toNat).1 h.2
end
theorem HX(cap:Int)(H:Hp):af Tryz.prog MU [i64 cap] H fun v H'=>aw (
  ah H H'∧((¬ (0≤cap∧cap≤65536)∧v= .tuple [.pointer none,i64 31].toArray)∨
   ((0≤cap∧cap≤65536)∧∃n S,v= .tuple [ptr n,i64 0].toArray∧dB H' n S 0 ⟨[false],List.replicate cap.toNat (0,0,0)⟩∧∀x,S x→H.size≤x))):=by
 refine bv MZ ?_
 refine vs ?_
 refine(lH cap H).mono ?_
 rintro _ H1 ⟨f1,⟨hb,rfl⟩| ⟨hb,c,C,rfl,c1,hC⟩⟩
 ·refine vs ?_
  exact⟨f1,.inl ⟨hb,rfl⟩⟩
 refine v1 aoZ ?_
 refine⟨by omega,?_⟩
 refine vs ?_
 have afU:∀k:Nat,cE [Value.int .i64 0] k=(List.replicate k (0:Int)).map i64:=fun k=>by
  induction k with
  |zero=>rfl
  |succ k ih=>simp only[cE,aoY,apc,ao6]at*;rw[ih];rfl
 rw[afU]
 have yb:=c1.slt
 have z1:=f1.size
 have f3:ah H1 (((H1.new 370 [.pointer none]).new 3 ((List.replicate cap.toNat (0:Int)).map i64)).new 285 [ptr c,.slice (some ⟨H1.size,0,none⟩) 1 1,.slice (some ⟨H1.size+1,0,none⟩) cap.toNat cap.toNat]):=(((ag.refl _ _).new _ _).new _ _).new _ _
 have e2:ag (fun _=>False) ((H1.new 370 [.pointer none]).new 3 ((List.replicate cap.toNat (0:Int)).map i64)) (((H1.new 370 [.pointer none]).new 3 ((List.replicate cap.toNat (0:Int)).map i64)).new 285 [ptr c,.slice (some ⟨H1.size,0,none⟩) 1 1,.slice (some ⟨H1.size+1,0,none⟩) cap.toNat cap.toNat]):=(ag.refl _ _).new _ _
 have e1:ag (fun _=>False) (H1.new 370 [.pointer none]) ((H1.new 370 [.pointer none]).new 3 ((List.replicate cap.toNat (0:Int)).map i64)):=(ag.refl _ _).new _ _
 have bO:∀ (h:Nat) (P:Pl),([none]:List (Option Pl))[h]? ≠some (some P):=fun h P hP=>by rcases h with _|h<;>simp at hP
 refine⟨f1.trans f3,.inr ⟨hb,H1.size+1+1,DD (H1.size+1+1) C (some H1.size) (some (H1.size+1)) [none],rfl,⟨c,C,_,some H1.size,some (H1.size+1),[none],List.replicate cap.toNat 0,
  ⟨⟨_,aU (by simp only[ap]),?_⟩,c1.fresh f3,?_,fun h P hP=>absurd hP (bO h P),fun h=>by have:=yb _ h;omega,fun b hb=>?_,fun b hb=>?_,fun h P hP=>absurd hP (bO h P),fun h P hP=>absurd hP (bO h P),fun h h' P P' hP=>absurd hP (bO h P)⟩,
  ⟨rfl,fun h=>?_,rfl,fun h P hP=>absurd hP (bO h P),fun h P hP=>absurd hP (bO h P),fun h P hP=>absurd hP (bO h P),fun h P hP=>absurd hP (bO h P),by simp⟩,fun z=>Iff.rfl⟩,fun x hx=>?_⟩⟩
 ·rw[ao3]
  exact(Sl.bU (size:=1) (n:=cap.toNat) (xs:=(List.replicate cap.toNat (0:Int)).map i64) (by simp) (by simp only[ap])).ext e2 (fun _ _ h=>h)
 ·exact((Sl.bU (size:=1) (n:=1) (xs:=[.pointer none]) rfl rfl).ext e1 (fun _ _ h=>h)).ext e2 (fun _ _ h=>h)
 ·injection hb with hb
  subst hb
  exact⟨fun h=>by have:=yb _ h;omega,by omega,fun h=>by injection h with h;omega⟩
 ·injection hb with hb
  subst hb
  exact⟨fun h=>by have:=yb _ h;omega,by omega⟩
 ·rcases h with _|h<;>simp
 ·rcases hx with hx|rfl|hx|hx| ⟨i,P,hP,hx⟩
  ·exact hC x hx
  ·omega
  ·injection hx with hx;omega
  ·injection hx with hx;omega
  ·exact absurd hP (bO i P)
theorem F0{H:Hp}{n:Nat}{S:Nat→Prop}{st:Int}{w:Nw}(h:dB H n S st w):af Tryz.prog pO [ptr n] H fun v H'=>aw (
  (w.hs.length=65537∧v=i64 0∧H=H')∨
  (w.hs.length≠65537∧v=i64 w.hs.length∧∃S',dB H' n S' st w.make∧ag S H H'∧∀x,S' x→S x∨H.size≤x)):=by
 obtain⟨c,C,rv,fr,fa,ps,at_,m,l,hS⟩:=h
 obtain⟨av,ho,ha⟩:=m.own
 refine bv Cy ?_
 refine v1 (ae ho) ?_
 refine(j5 m.cells).mono ?_
 rintro _ H1 (⟨h1,rfl,rfl⟩| ⟨h1,rfl,C',c1,e1,zF⟩)
 ·refine vs ?_
  exact .inl ⟨h1,rfl,rfl⟩
 have gh:0<ps.length:=(aoj.1 l.h0).1
 have oQ:=l.hl
 have o1:=e1.own ho m.nC
 refine vs ?_
 refine am.cQ (aow (by omega)) ?_
 refine v1 (ae o1) ?_
 have z7:=m.cells.z7
 have eT:=m.slt
 have R1:=c1.slt
 have z1:=e1.size
 have e2:ag (fun _=>False) H1 (H1.new 374 [ptr n,.slice none 0 0]):=(ag.refl _ _).new _ _
 have hq2:(H1.new 374 [ptr n,.slice none 0 0]).own H1.size=some [ptr n,.slice none 0 0]:=az _ _ _
 have z2:(H1.new 374 [ptr n,.slice none 0 0]).size=H1.size+1:=by simp only[ap]
 generalize (H1.new 374 [ptr n,.slice none 0 0])=H2 at*
 have e0:ag (fun _=>False) H2 (H2.new 370 [ptr H1.size]):=(ag.refl _ _).new _ _
 have IK:=(m.sl.ext e1 (fun b hb h=>(m.OY b hb).1 h)).ext e2 (fun _ _ h=>h)
 have o2:=e2.own o1 (fun h=>h)
 refine Sl.append (IK.ext e0 (fun _ _ h=>h)) (Sl.bU (size:=1) (n:=1) (xs:=[ptr H1.size]) rfl z2.symm).rd rfl (by intro v hv;simp only[aoq]at hv;subst hv;rfl) (by omega) ?_
 intro v' H3 fr' s3 e3 Wv
 have Nx:ag (fun z=>fr=some z) H2 H3:=(e0.mono fun _ _ h=>h.elim).nu e3 (fun z _ h=>h)
 have o3:=Nx.own o2 (fun h=>(m.OY n h).2.1 rfl)
 obtain⟨a',WX,OW⟩:=cO.Ry s3.rd
 subst OW
 refine v1 o3 ?_
 generalize OW:Value.slice a' (ps.length+1) WX=v' at*
 have e4:ag (fun z=>z=n) H3 (H3.wr n [ptr c,v',av]):=(ag.refl (fun z=>z=n) _).wr (fun _=>rfl) _
 have hn:=aB ho
 have Ue:∀b,fr=some b→b<H.size:=fun b hb=>eT b (.inr (.inr (.inl hb)))
 have WZ:∀b,fa=some b→b<H.size:=fun b hb=>eT b (.inr (.inr (.inr (.inl hb))))
 have Ny:∀b,fr'=some b→fr=some b∨H2.size≤b:=fun b hb=>by
  rcases Wv with h| ⟨z,h,h5,_⟩
  ·exact .inl (h▸hb)
  ·rw[h]at hb;injection hb with hb;subst hb;rw[ap]at h5;exact .inr (by omega)
 have cd:∀ (h:Nat) P,(ps++[some (⟨H1.size,none,[]⟩:Pl)])[h]? =some (some P)→ps[h]? =some (some P)∨(h=ps.length∧P=⟨H1.size,none,[]⟩):=fun h P hP=>by
  rcases apK h ps.length with h5|h5|h5
  ·rw[aox h5]at hP;exact .inl hP
  ·subst h5
   rw[aoK (aov _),apw]at hP
   simp only[aoM,aos]at hP
   exact .inr ⟨rfl,hP.symm⟩
  ·rw[aoz (by rw[aor,aoA];omega)]at hP
   cases hP
 have hold:∀ (h:Nat) P,ps[h]? =some (some P)→∀x,P.S x→x<H.size:=fun h P hP x hx=>eT x (.inr (.inr (.inr (.inr ⟨h,P,hP,hx⟩))))
 have sd:∀x,(⟨H1.size,none,[]⟩:Pl).S x→x=H1.size:=fun x hx=>by rcases hx with h|h;exact h;cases h
 have Jd:∀ (x:Nat) (e:Int×Int),w.cs[x]? ≠some (((ps.length:Nat):Int),e):=fun x e hx=>by
  have:=(m.cells.home _ (aon hx)).2
  simp only at this
  omega
 refine .inr ⟨h1,rfl,DD n C' fr' fa (ps++[some ⟨H1.size,none,[]⟩]),⟨c,C',v',fr',fa,ps++[some ⟨H1.size,none,[]⟩],at_,
  ⟨⟨av,ai o3,?_⟩,?_,?_,fun h P hP=>?_,fun h=>?_,fun b hb=>⟨fun h=>?_,?_,fun h=>?_⟩,fun b hb=>⟨fun h=>?_,(m.JH b hb).2⟩,fun h P hP x hx=>⟨fun h=>?_,?_,fun h=>?_,fun h=>?_⟩,fun h P hP=>?_,fun h h' P P' hP hP' aP x hx xu=>?_⟩,
  ⟨?_,fun h=>?_,?_,fun h P hP=>?_,fun h P hP=>?_,fun h P hP x=>?_,fun h P hP=>?_,l.LI⟩,fun z=>Iff.rfl⟩,?_,fun x hx=>?_⟩
 ·exact(((ha.ext e1 (fun b hb h=>(m.JH b hb).1 h)).ext e2 (fun _ _ h=>h)).ext Nx (fun b hb h=>(m.OY b h).2.2 hb)).ext e4 (fun b hb h=>(m.JH b hb).2 h)
 ·exact((c1.ext e2 (fun _ _ h=>h)).ext Nx (fun x hx e=>by
   rcases zF x hx with h|h
   ·exact(m.OY x e).1 h
   ·have:=Ue x e;omega)).ext e4 (fun x hx e=>by
   rcases zF x hx with h|h
   ·exact m.nC (e▸h)
   ·omega)
 ·have:=s3.ext e4 (fun b hb e=>by
   rcases Ny b hb with h|h
   ·exact(m.OY b h).2.1 e
   ·omega)
  rw[aor,aoN]
  exact this
 ·rcases cd h P hP with h5| ⟨rfl,rfl⟩
  ·obtain⟨sv,q1,q2⟩:=m.jC h P h5
   have hd:=m.pd h P h5
   exact⟨sv,e4.own (Nx.own (e2.own (e1.own q1 (hd _ (.inl rfl)).1) (fun h=>h)) (hd _ (.inl rfl)).2.2.1) (hd _ (.inl rfl)).2.1,
    (((q2.ext e1 (fun b hb=>(hd b (.inr hb)).1)).ext e2 (fun _ _ h=>h)).ext Nx (fun b hb=>(hd b (.inr hb)).2.2.1)).ext e4 (fun b hb=>(hd b (.inr hb)).2.1)⟩
  ·exact⟨_,e4.own (Nx.own hq2 (fun e=>by have:=Ue H1.size e;omega)) (fun e=>by have h9:H1.size=n:=e;omega),Sl.nil _ _⟩
 ·rcases zF n h with h|h
  ·exact m.nC h
  ·omega
 ·rcases Ny b hb with h5|h5
  ·rcases zF b h with h6|h6
   ·exact(m.OY b h5).1 h6
   ·have:=Ue b h5;omega
  ·have:=R1 b h;omega
 ·rcases Ny b hb with h|h
  ·exact(m.OY b h).2.1
  ·omega
 ·rcases Ny b hb with h5|h5
  ·exact(m.OY b h5).2.2 h
  ·have:=WZ b h;omega
 ·rcases zF b h with h6|h6
  ·exact(m.JH b hb).1 h6
  ·have:=WZ b hb;omega
 ·rcases cd _ P hP with h5| ⟨_,rfl⟩
  ·rcases zF x h with h6|h6
   ·exact(m.pd _ P h5 x hx).1 h6
   ·have:=hold _ P h5 x hx;omega
  ·have:=sd x hx;have:=R1 x h;omega
 ·rcases cd _ P hP with h5| ⟨_,rfl⟩
  ·exact(m.pd _ P h5 x hx).2.1
  ·have:=sd x hx;omega
 ·rcases cd _ P hP with h5| ⟨_,rfl⟩
  ·rcases Ny x h with h6|h6
   ·exact(m.pd _ P h5 x hx).2.2.1 h6
   ·have:=hold _ P h5 x hx;omega
  ·have:=sd x hx
   rcases Ny x h with h6|h6
   ·have:=Ue x h6;omega
   ·omega
 ·rcases cd _ P hP with h5| ⟨_,rfl⟩
  ·exact(m.pd _ P h5 x hx).2.2.2 h
  ·have:=sd x hx;have:=WZ x h;omega
 ·rcases cd h P hP with h5| ⟨_,rfl⟩
  ·exact m.pr h P h5
  ·exact⟨(fun h=>by cases h),by simp⟩
 ·rcases cd _ P hP with h5| ⟨h5,rfl⟩
  ·rcases cd _ P' hP' with h6| ⟨h6,rfl⟩
   ·exact m.pp h h' P P' h5 h6 aP x hx xu
   ·have:=sd x xu;have:=hold _ P h5 x hx;omega
  ·rcases cd _ P' hP' with h6| ⟨h6,rfl⟩
   ·have:=sd x hx;have:=hold _ P' h6 x xu;omega
   ·omega
 ·simp[Nw.make,oQ]
 ·show(w.hs++[true])[h]? =some true↔_
  rcases apK h ps.length with h5|h5|h5
  ·rw[aox h5,aox (by omega)]
   exact l.hs h
  ·subst h5
   rw[aoK (aov _),aoK (by omega),apw,oQ,apw]
   simp
  ·rw[aoz (by rw[aor,aoA];omega),aoz (by rw[aor,aoA];omega)]
   simp
 ·rw[aox gh];exact l.h0
 ·rcases cd h P hP with h5| ⟨rfl,rfl⟩
  ·exact l.ok h P h5
  ·exact fun j _ hj=>by simp at hj
 ·rcases cd h P hP with h5| ⟨rfl,rfl⟩
  ·exact l.Tp h P h5
  ·exact fun i x hx=>by simp at hx
 ·rcases cd h P hP with h5| ⟨rfl,rfl⟩
  ·exact l.mem h P h5 x
  ·simp only[aqm,false_iff]
   rintro⟨_,e,he⟩
   exact Jd _ _ he
 ·rcases cd h P hP with h5| ⟨rfl,rfl⟩
  ·exact l.len h P h5
  ·show((0:Nat):Int)=w.len _
   unfold Nw.len
   rw[if_pos (by omega),apM.2 (fun x hx=>by
    have:=(m.cells.home x hx).2
    simp only[aoL]
    omega)]
 ·exact((e1.mono fun z _ hz=>(hS z).1 (.inl hz)).trans ((e2.mono fun _ _ h=>h.elim).trans (Nx.mono fun z _ hz=>(hS z).1 (.inr (.inr (.inl hz)))))).trans (e4.mono fun z _ hz=>(hS z).1 (.inr (.inl hz)))
 ·rcases hx with hx|rfl|hx|hx| ⟨i,P,hP,hx⟩
  ·rcases zF x hx with h|h
   ·exact .inl ((hS x).1 (.inl h))
   ·exact .inr h
  ·exact .inl ((hS x).1 (.inr (.inl rfl)))
  ·rcases Ny x hx with h|h
   ·exact .inl ((hS x).1 (.inr (.inr (.inl h))))
   ·exact .inr (by omega)
  ·exact .inl ((hS x).1 (.inr (.inr (.inr (.inl hx)))))
  ·rcases cd i P hP with h5| ⟨_,rfl⟩
   ·exact .inl ((hS x).1 (.inr (.inr (.inr (.inr ⟨i,P,h5,hx⟩)))))
   ·have:=sd x hx;exact .inr (by omega)
end Go.Proofs.YtjlnnljohemifaaGreat

namespace Go.Proofs.YtjlnnljohemifaaGreat
open Go Go.Vc
theorem mH.W1{l at_ mr:List Int}(h:mH l at_)(ho:∀z∈l,0≤z→mr[z.toNat]? =at_[z.toNat]?):mH l mr:=fun i x hx=>by
 obtain⟨a,b⟩:=h i x hx
 exact⟨a,by rw[ho x (aon hx) a];exact b⟩
theorem gM{ps:List (Option Pl)}{g:Nat}{P':Pl}(hg:g<ps.length){h:Nat}{Q:Pl}(hQ:(ps.set g (some P'))[h]? =some (some Q)):(h=g∧Q=P')∨(h≠g∧ps[h]? =some (some Q)):=by
 by_cases hh:h=g
 ·subst hh
  rw[aop hg]at hQ
  simp only[aos]at hQ
  exact .inl ⟨rfl,hQ.symm⟩
 ·rw[aoo (Ne.symm hh)]at hQ
  exact .inr ⟨hh,hQ⟩
theorem FZ.apart{w:Nw}{ps:List (Option Pl)}{at_:List Int}(l:FZ w ps at_){h h':Nat}{P Q:Pl}(hP:ps[h]? =some (some P))(hQ:ps[h']? =some (some Q))(aP:h≠h'){z:Int}(hz:z∈P.l):z∉Q.l:=fun hz'=>by
 obtain⟨_,e1,h1⟩:=(l.mem h P hP z).1 hz
 obtain⟨_,e2,h2⟩:=(l.mem h' Q hQ z).1 hz'
 rw[h1]at h2
 injection h2 with h2
 injection h2 with h2 _
 omega
theorem FZ.pos{w:Nw}{ps:List (Option Pl)}{at_:List Int}(l:FZ w ps at_){h:Nat}{P:Pl}(hP:ps[h]? =some (some P)):0<h:=by
 rcases ap5 h with hi|hi
 ·subst hi;rw[l.h0]at hP;cases hP
 ·exact hi
theorem CY{H:Hp}{n:Nat}{S:Nat→Prop}{st:Int}{w:Nw}(h:dB H n S st w)(g x k s:Int):af Tryz.prog ng [ptr n,i64 g,i64 x,tL k s] H fun v H'=>aw (
  (¬ (w.has g∧(0≤x∧x<w.cs.length)∧¬cY w.cs x)∧v= .bool false∧dB H' n S st w∧ag S H H')∨
  ((w.has g∧(0≤x∧x<w.cs.length)∧¬cY w.cs x)∧v= .bool true∧∃ (S':Nat→Prop) (q:Nat),(q:Int)≤kX 2 (w.len g)∧(0<w.len g→0<q)∧dB H' n S' (min (st+q) 4611686018427387904) (w.put x (g,k,s))∧ag S H H'∧∀z,S' z→S z∨H.size≤z)):=by
 obtain⟨c,C,rv,fr,fa,ps,at_,m,l,hS⟩:=h
 refine bv zv ?_
 refine vs ?_
 have f0:ah H (H.new 224 [i64 k,u64 s]):=(ag.refl _ _).new _ _
 have b0:(H.new 224 [i64 k,u64 s]).own H.size=some [i64 k,u64 s]:=az _ _ _
 have m0:=m.ext f0 (fun _ _ h=>h)
 generalize H.new 224 [i64 k,u64 s]=H0 at*
 obtain⟨av,HT,TZ⟩:=m0.own
 refine v2 (ae HT) (ae b0) ?_
 refine(lI m0.cells g x k s).mono ?_
 rintro _ H1 (⟨bO,rfl,c1,e1⟩| ⟨qw,rfl,c1,e1⟩)
 ·refine vs ?_
  exact .inl ⟨bO,rfl,⟨c,C,rv,fr,fa,ps,at_,m0.aJ c1 e1,l,hS⟩,(f0.mono fun _ _ h=>h.elim).trans (e1.mono fun z _ hz=>(hS z).1 (.inl hz))⟩
 obtain⟨hh,⟨gf,jZ⟩,bJ⟩:=id qw
 obtain⟨P,hP⟩:=l.fk hh
 have h1:=hh.1
 have z8:((g.toNat:Nat):Int)=g:=by omega
 have bK:=l.mem _ P hP
 have aZ:=l.len _ P hP
 rw[z8]at bK aZ
 obtain⟨c0,kE⟩:∃c0,w.cs[x.toNat]? =some c0:=⟨_,aoh (by omega)⟩
 have vC:¬0<c0.1:=fun h=>bJ ⟨gf,c0,kE,h⟩
 have cN:(w.put x (g,k,s)).cs[x.toNat]? =some (g,k,s):=aop (by omega)
 have li:∀y:Nat,y≠x.toNat→(w.put x (g,k,s)).cs[y]? =w.cs[y]? :=fun y hy=>aoo (Ne.symm hy)
 have PY:∀ (i:Nat) Q,ps[i]? =some (some Q)→x∉Q.l:=fun i Q hQ hm=>by
  obtain⟨_,e,he⟩:=(l.mem i Q hQ x).1 hm
  rw[kE]at he
  injection he with he
  subst he
  have:=l.pos hQ
  exact vC (by simp only;omega)
 have aP:∀ (i:Nat) Q,ps[i]? =some (some Q)→∀y∈Q.l,0≤y∧y.toNat≠x.toNat:=fun i Q hQ y hy=>by
  have h2:=((l.mem i Q hQ y).1 hy).1
  exact⟨h2,fun e=>PY i Q hQ (by rw[show x=y by omega];exact hy)⟩
 have W2:∀ (i:Nat) Q,ps[i]? =some (some Q)→eM (aQ (w.put x (g,k,s))) 2 Q.l:=fun i Q hQ=>
  (l.ok i Q hQ).JI fun z hz y hy=>(hY w x _ (aP i Q hQ z hz).2 (aP i Q hQ y hy).2).symm
 have F1:∀z∈P.l,cY (w.put x (g,k,s)).cs z:=fun z hz=>by
  obtain⟨z0,e,he⟩:=(bK z).1 hz
  exact⟨z0,_,by rw[li _ (aP _ P hP z hz).2];exact he,by simp only;omega⟩
 have W3:cY (w.put x (g,k,s)).cs x:=⟨gf,_,cN,by simp only;omega⟩
 have hlp:(w.put x (g,k,s)).len g=w.len g+1:=by rw[Nw.gm kE g,if_neg (fun hc=>by omega),if_pos ⟨by omega,rfl⟩];omega
 have nU:=m.cells.Ef
 have oQ:P.l.length<65536:=by
  have:=((w.put x (g,k,s)).zA g).2
  have h5:(w.put x (g,k,s)).cs.length=w.cs.length:=aok ..
  omega
 have m1:=m0.aJ c1 e1
 obtain⟨av1,Ns,_⟩:=m1.own
 obtain⟨f,cc,lb,rfl,rfl,hf,Uc,dk⟩:=m1.atp hP
 refine v1 (ae Ns) ?_
 refine⟨by omega,?_⟩
 simp(disch:=(first|omega| (simp only[Zs]<;>omega)|fail)) only[go_sem, ↓reduceIte,Zv,ae hf,aol,Uc,To]
 refine(FY (m1.Nv hP) (l.Tp _ P hP) oQ ⟨gf,by rw[l.LI];omega⟩ (PY _ P hP) W3 F1 (W2 _ P hP)).mono ?_
 rintro _ H2 ⟨rfl,cP,l',mr,q,pm,afW,iD,aa3,aih,afX,W4,hq,Vv,e2,ir⟩
 refine vs ?_
 have z0:=f0.size
 have z1:=e1.size
 have hT:∀z,(C z∨P.fp=some z∨fa=some z∨z=P.r)→C z∨P.S z∨fa=some z:=fun z hz=>by
  rcases hz with hz|hz|hz|hz
  ·exact .inl hz
  ·exact .inr (.inl (.inr hz))
  ·exact .inr (.inr hz)
  ·exact .inr (.inl (.inl hz))
 have nS:∀z,(C z∨P.fp=some z∨fa=some z∨z=P.r)→S z:=fun z hz=>(hS z).1 (by
  rcases hT z hz with hz|hz|hz
  ·exact .inl hz
  ·exact .inr (.inr (.inr (.inr ⟨_,P,hP,hz⟩)))
  ·exact .inr (.inr (.inr (.inl hz))))
 refine .inr ⟨qw,rfl,DD n C (some f) fa (ps.set g.toNat (some ⟨P.r,cP,l'⟩)),q,by rw[←aZ];exact Int.ofNat_le.2 hq,fun h=>Vv (by omega),
  ⟨c,C,_,some f,fa,_,mr,m1.JK hP (P':=⟨P.r,cP,l'⟩) rfl pm ir e2 hT,
   ⟨by rw[aok];exact l.hl,fun h=>?_,?_,fun h Q hQ=>?_,fun h Q hQ=>?_,fun h Q hQ y=>?_,fun h Q hQ=>?_,?_⟩,fun z=>Iff.rfl⟩,?_,fun z hz=>?_⟩
 ·show w.hs[h]? =some true↔_
  rw[l.hs h]
  by_cases LJ:h=g.toNat
  ·subst LJ
   rw[aop dk]
   exact⟨fun _=>⟨_,rfl⟩,fun _=>⟨P,hP⟩⟩
  ·rw[aoo (Ne.symm LJ)]
 ·rw[aoo (by omega)];exact l.h0
 ·rcases gM dk hQ with ⟨rfl,rfl⟩| ⟨h5,h6⟩
  ·exact iD
  ·exact W2 h Q h6
 ·rcases gM dk hQ with ⟨rfl,rfl⟩| ⟨h5,h6⟩
  ·exact afW
  ·exact(l.Tp h Q h6).W1 fun z hz z0=>W4 z z0 (fun e=>PY h Q h6 (e▸hz)) (l.apart h6 hP h5 hz)
 ·rcases gM dk hQ with ⟨rfl,rfl⟩| ⟨h5,h6⟩
  ·rw[z8]
   show y∈l'↔_
   rw[aa3 y]
   constructor
   ·rintro(rfl|hy)
    ·exact⟨gf,_,cN⟩
    ·obtain⟨y0,e,he⟩:=(bK y).1 hy
     exact⟨y0,e,by rw[li _ (aP _ P hP y hy).2];exact he⟩
   ·rintro⟨y0,e,he⟩
    by_cases mN:y.toNat=x.toNat
    ·exact .inl (by omega)
    ·rw[li _ mN]at he
     exact .inr ((bK y).2 ⟨y0,e,he⟩)
  ·rw[l.mem h Q h6 y]
   by_cases mN:y.toNat=x.toNat
   ·rw[mN,cN,kE]
    constructor
    ·rintro⟨y0,e,he⟩
     injection he with he
     subst he
     have:=l.pos h6
     exact absurd (show(0:Int)< ((h:Nat):Int) by omega) vC
    ·rintro⟨y0,e,he⟩
     injection he with he
     injection he with W5 he2
     omega
   ·rw[li _ mN]
 ·rcases gM dk hQ with ⟨rfl,rfl⟩| ⟨h5,h6⟩
  ·rw[z8,hlp]
   show(l'.length:Int)=_
   omega
  ·rw[l.len h Q h6,Nw.gm kE h,if_neg (fun hc=>by omega),if_neg (fun hc=>by omega)]
   omega
 ·rw[afX,l.LI];exact(aok ..).symm
 ·exact(f0.mono fun _ _ h=>h.elim).trans ((e1.mono fun z _ hz=>nS z (.inl hz)).trans (e2.mono fun z _ hz=>nS z hz))
 ·rcases hz with hz|rfl|hz|hz| ⟨i,Q,hQ,hz⟩
  ·exact .inl (nS z (.inl hz))
  ·exact .inl ((hS z).1 (.inr (.inl rfl)))
  ·exact .inl ((hS z).1 (.inr (.inr (.inl hz))))
  ·exact .inl (nS z (.inr (.inr (.inl hz))))
  ·rcases gM dk hQ with ⟨rfl,rfl⟩| ⟨h5,h6⟩
   ·rcases hz with rfl|hz
    ·exact .inl (nS _ (.inr (.inr (.inr rfl))))
    ·rcases ir with h| ⟨y,h,h7⟩
     ·exact .inl (nS z (.inr (.inl (h▸hz))))
     ·simp only at hz
      rw[h]at hz;injection hz with hz;exact .inr (by omega)
   ·exact .inl ((hS z).1 (.inr (.inr (.inr (.inr ⟨i,Q,h6,hz⟩)))))
theorem yk{H:Hp}{n:Nat}{S:Nat→Prop}{st:Int}{w:Nw}(h:dB H n S st w)(g:Int):af Tryz.prog sJ [ptr n,i64 g] H fun v H'=>aw (
  ((w.len g=0∧v= .tuple [i64 0,.bool false].toArray)∨∃x,w.first g x∧v= .tuple [i64 x,.bool true].toArray)∧H=H'):=by
 obtain⟨c,C,rv,fr,fa,ps,at_,m,l,hS⟩:=h
 obtain⟨av,ho,ha⟩:=m.own
 refine bv D4 ?_
 refine v1 (ae ho) ?_
 refine(sS m.cells g).mono ?_
 rintro _ _ ⟨rfl,rfl⟩
 refine vs ?_
 refine am.dec (fun h0=>?_) (fun h0=>?_)
 ·refine vs ?_
  exact⟨.inl ⟨h0,rfl⟩,rfl⟩
 have hg:0<g:=by
  by_cases hg:0<g
  ·exact hg
  ·exact absurd (Nw.HP.2 (.inl (by omega))) h0
 have afY:w.has g:=by
  refine⟨by omega,?_⟩
  by_cases hx:w.hs[g.toNat]? =some true
  ·exact hx
  ·refine absurd (Nw.HP.2 (.inr fun i c hc e=>hx ?_)) h0
   have:=m.cells.live c (aon hc) (by omega)
   rwa[e]at this
 obtain⟨P,hP⟩:=l.fk afY
 have z8:((g.toNat:Nat):Int)=g:=by omega
 have bK:=l.mem _ P hP
 have aZ:=l.len _ P hP
 rw[z8]at bK aZ
 have oQ:=(w.zA g).1
 obtain⟨f,cc,lb,rfl,rfl,hf,Uc,dk⟩:=m.atp hP
 obtain⟨sv,hr,hs⟩:=m.jC _ P hP
 obtain⟨x,hx⟩:∃x,P.l[0]? =some x:=⟨_,aoh (by omega)⟩
 obtain⟨b,c2,l2,rfl,fZ,hb,mq,_,DB⟩:=Sl.at_ hs (i:=0) (x:=i64 x) (by simp[hx])
 refine v1 (ae ho) ?_
 refine⟨by omega,?_⟩
 simp(disch:=(first|omega| (simp only[Zs]<;>omega)|fail)) only[go_sem, ↓reduceIte,Zv,ae hf,aol,Uc,To,ae hr]
 refine⟨by omega,?_⟩
 refine v2 (ae hb) (show l2[Int.toNat 0*1]? =some (i64 x)from mq) ?_
 have hxP:=aon hx
 obtain⟨gf,e,he⟩:=(bK x).1 hxP
 refine⟨.inr ⟨x,⟨hg,gf,⟨e,he⟩,fun y hy ⟨e',iG⟩ aP=>?_⟩,rfl⟩,rfl⟩
 have hyP:=(bK y).2 ⟨hy,e',iG⟩
 obtain⟨j,hj⟩:=aoS hyP
 have Y2:=(aoj.1 hj).1
 have h5:=FM (au w) dJ (l.ok _ P hP) j j (aov _) Y2
 rw[r7 hj,r7 hx]at h5
 rcases(au w).OD x y (Ne.symm aP)with h6|h6
 ·exact h6
 ·rw[h5]at h6;cases h6
theorem CZ{H:Hp}{n:Nat}{S:Nat→Prop}{st:Int}{w:Nw}(h:dB H n S st w)(x:Int):af Tryz.prog yS [ptr n,i64 x] H fun v H'=>aw (
  (¬cY w.cs x∧v= .bool false∧H=H')∨
  (cY w.cs x∧v= .bool true∧∃ (c0:Ce) (q:Nat),w.cs[x.toNat]? =some c0∧q≤2*kX 2 (w.len c0.1 - 1)∧∃S',dB H' n S' (min (st+q) 4611686018427387904) (w.put x (0,0,0))∧ag S H H'∧∀z,S' z→S z∨H.size≤z)):=by
 obtain⟨c,C,rv,fr,fa,ps,at_,m,l,hS⟩:=h
 obtain⟨av,ho,ha⟩:=m.own
 refine bv zu ?_
 refine v1 (ae ho) ?_
 refine(eC m.cells x).mono ?_
 rintro _ H1 (⟨bO,rfl,rfl⟩| ⟨bJ,c0,kE,rfl,c1,e1⟩)
 ·refine vs ?_
  exact .inl ⟨bO,rfl,rfl⟩
 obtain⟨gf,c0',JL,gh⟩:=id bJ
 rw[kE]at JL
 injection JL with JL
 subst JL
 obtain⟨P,hP⟩:=(l.hs c0.1.toNat).1 (m.cells.live _ (aon kE) gh)
 have z8:((c0.1.toNat:Nat):Int)=c0.1:=by omega
 have bK:=l.mem _ P hP
 have aZ:=l.len _ P hP
 rw[z8]at bK aZ
 have cN:(w.put x (0,0,0)).cs[x.toNat]? =some (0,0,0):=aop (aoj.1 kE).1
 have li:∀y:Nat,y≠x.toNat→(w.put x (0,0,0)).cs[y]? =w.cs[y]? :=fun y hy=>aoo (Ne.symm hy)
 have m1:=m.aJ c1 e1
 obtain⟨av1,Ns,QQ⟩:=m1.own
 have hxP:x∈P.l:=(bK x).2 ⟨gf,c0.2,kE⟩
 have F1:∀z∈P.l,cY w.cs z:=fun z hz=>by
  obtain⟨z0,e,he⟩:=(bK z).1 hz
  exact⟨z0,_,he,gh⟩
 obtain⟨i,hi⟩:=aoS hxP
 have qi:=(aoj.1 hi).1
 obtain⟨_,Y6⟩:=l.Tp _ P hP i x hi
 obtain⟨f,cc,lb,rfl,rfl,hf,Uc,dk⟩:=m1.atp hP
 obtain⟨fa',ac,la,rfl,hfa,W6,W7,_,_⟩:=Sl.at_ QQ (i:=x.toNat) (x:=i64 i) (by simp[Y6])
 have Ve:=(aoj.1 Y6).1
 refine v1 (ae Ns) ?_
 refine⟨by omega,?_⟩
 simp(disch:=(first|omega| (simp only[Zs]<;>omega)|fail)) only[go_sem, ↓reduceIte,Zv,ae hf,aol,Uc,To,ae Ns]
 refine⟨by omega,?_⟩
 refine v3 (ae W6) aol W7 ?_
 refine(CX (m1.Nv hP) (l.Tp _ P hP) qi F1 (l.ok _ P hP)).mono ?_
 rintro _ H2 ⟨l',mr,q,o,hq⟩
 rw[r7 hi]at o
 have hT:∀z,(C z∨P.fp=some z∨fa=some z∨z=P.r)→C z∨P.S z∨fa=some z:=fun z hz=>by
  rcases hz with hz|hz|hz|hz
  ·exact .inl hz
  ·exact .inr (.inl (.inr hz))
  ·exact .inr (.inr hz)
  ·exact .inr (.inl (.inl hz))
 have nS:∀z,(C z∨P.fp=some z∨fa=some z∨z=P.r)→S z:=fun z hz=>(hS z).1 (by
  rcases hT z hz with hz|hz|hz
  ·exact .inl hz
  ·exact .inr (.inr (.inr (.inr ⟨_,P,hP,hz⟩)))
  ·exact .inr (.inr (.inr (.inl hz))))
 have m2:=m1.JK hP (P':=⟨P.r,P.fp,l'⟩) rfl o.jC (.inl rfl) o.ext hT
 obtain⟨av2,Zf,_⟩:=m2.own
 refine v1 (ae Zf) ?_
 refine(j6 m2.cells x).mono ?_
 rintro _ H3 (⟨bO,_,_⟩| ⟨_,rfl,c3,e3⟩)
 ·exact absurd bJ bO
 refine vs ?_
 have m3:=m2.aJ c3 e3
 have aP:∀ (h:Nat) Q,h≠c0.1.toNat→ps[h]? =some (some Q)→∀y∈Q.l,y.toNat≠x.toNat:=fun h Q hh hQ y hy e=>by
  obtain⟨y0,e',he⟩:=(l.mem h Q hQ y).1 hy
  rw[e,kE]at he
  injection he with he
  rw[he]at hh
  simp only[Int.toNat_natCast]at hh
  exact hh rfl
 have Nz:∀y∈l',y.toNat≠x.toNat:=fun y hy e=>by
  obtain⟨h1,h2⟩:=(o.mem y).1 hy
  have:=((bK y).1 h1).1
  omega
 refine .inr ⟨bJ,rfl,c0,q,kE,by rw[←aZ];exact hq,DD n C (some f) fa (ps.set c0.1.toNat (some ⟨P.r,P.fp,l'⟩)),
  ⟨c,C,_,some f,fa,_,mr,m3,⟨by rw[aok];exact l.hl,fun h=>?_,?_,fun h Q hQ=>?_,fun h Q hQ=>?_,fun h Q hQ y=>?_,fun h Q hQ=>?_,?_⟩,fun z=>Iff.rfl⟩,?_,fun z hz=>?_⟩
 ·show w.hs[h]? =some true↔_
  rw[l.hs h]
  by_cases LJ:h=c0.1.toNat
  ·subst LJ
   rw[aop dk]
   exact⟨fun _=>⟨_,rfl⟩,fun _=>⟨P,hP⟩⟩
  ·rw[aoo (Ne.symm LJ)]
 ·rw[aoo (by omega)];exact l.h0
 ·rcases gM dk hQ with ⟨rfl,rfl⟩| ⟨h5,h6⟩
  ·exact o.heap.JI fun z hz y hy=>(hY w x _ (Nz z hz) (Nz y hy)).symm
  ·exact(l.ok h Q h6).JI fun z hz y hy=>(hY w x _ (aP h Q h5 h6 z hz) (aP h Q h5 h6 y hy)).symm
 ·rcases gM dk hQ with ⟨rfl,rfl⟩| ⟨h5,h6⟩
  ·exact o.ok
  ·exact(l.Tp h Q h6).W1 fun z hz z0=>o.off z z0 (l.apart h6 hP h5 hz)
 ·by_cases mN:y.toNat=x.toNat
  ·rw[mN,cN]
   have h0:=gM dk hQ
   constructor
   ·intro hy
    rcases h0 with ⟨rfl,rfl⟩| ⟨h5,h6⟩
    ·exact absurd mN (Nz y hy)
    ·exact absurd mN (aP h Q h5 h6 y hy)
   ·rintro⟨_,e,he⟩
    injection he with he
    injection he with W5 _
    rcases h0 with ⟨rfl,rfl⟩| ⟨h5,h6⟩
    ·omega
    ·have:=l.pos h6;omega
  ·rw[li _ mN]
   rcases gM dk hQ with ⟨rfl,rfl⟩| ⟨h5,h6⟩
   ·rw[z8]
    show y∈l'↔_
    rw[o.mem y,bK y]
    constructor
    ·exact fun h=>h.1
    ·exact fun h=>⟨h,fun e=>mN (by rw[e])⟩
   ·exact l.mem h Q h6 y
 ·rcases gM dk hQ with ⟨rfl,rfl⟩| ⟨h5,h6⟩
  ·rw[z8,Nw.gm kE c0.1,if_pos ⟨gh,rfl⟩,if_neg (fun hc=>by omega)]
   show(l'.length:Int)=_
   have:=o.len
   omega
  ·have:=l.pos h6
   rw[l.len h Q h6,Nw.gm kE h,if_neg (fun hc=>by omega),if_neg (fun hc=>by omega)]
   omega
 ·rw[o.LI,l.LI];exact(aok ..).symm
 ·exact(e1.mono fun z _ hz=>nS z (.inl hz)).trans ((o.ext.mono fun z _ hz=>nS z hz).trans (e3.mono fun z _ hz=>nS z (.inl hz)))
 ·rcases hz with hz|rfl|hz|hz| ⟨i,Q,hQ,hz⟩
  ·exact .inl (nS z (.inl hz))
  ·exact .inl ((hS z).1 (.inr (.inl rfl)))
  ·exact .inl ((hS z).1 (.inr (.inr (.inl hz))))
  ·exact .inl (nS z (.inr (.inr (.inl hz))))
  ·rcases gM dk hQ with ⟨rfl,rfl⟩| ⟨h5,h6⟩
   ·rcases hz with rfl|hz
    ·exact .inl (nS _ (.inr (.inr (.inr rfl))))
    ·exact .inl (nS z (.inr (.inl hz)))
   ·exact .inl ((hS z).1 (.inr (.inr (.inr (.inr ⟨i,Q,h6,hz⟩)))))
theorem Bs{H:Hp}{n:Nat}{S:Nat→Prop}{st:Int}{w:Nw}(h:dB H n S st w)(g:Int):af Tryz.prog lZ [ptr n,i64 g] H fun v H'=>aw (
  (w.len g=0∧v= .tuple [i64 0,.bool false].toArray∧H=H')∨
  (∃x,w.first g x∧v= .tuple [i64 x,.bool true].toArray∧∃q:Nat,q≤2*kX 2 (w.len g - 1)∧∃S',dB H' n S' (min (st+q) 4611686018427387904) (w.put x (0,0,0))∧ag S H H'∧∀z,S' z→S z∨H.size≤z)):=by
 refine bv xp ?_
 refine vs ?_
 refine(yk h g).mono ?_
 rintro _ _ ⟨⟨h0,rfl⟩| ⟨x,hx,rfl⟩,rfl⟩
 ·refine vs ?_
  exact .inl ⟨h0,rfl,rfl⟩
 ·refine vs ?_
  refine(CZ h x).mono ?_
  rintro _ H1 (⟨bO,_,_⟩| ⟨_,rfl,c0,q,kE,hq,S',d1,e1,Zg⟩)
  ·exact absurd hx.MF bO
  refine vs ?_
  obtain⟨e,iG⟩:=hx.2.2.1
  rw[kE]at iG
  injection iG with iG
  subst iG
  exact .inr ⟨x,hx,rfl,q,hq,S',d1,e1,Zg⟩
theorem zG{H:Hp}{n:Nat}{S:Nat→Prop}{st:Int}{w:Nw}(h:dB H n S st w)(x k s:Int):af Tryz.prog kN [ptr n,i64 x,tL k s] H fun v H'=>aw (
  (¬ (cY w.cs x∧∀y,w.cs[x.toNat]? =some y→¬fA y.2.1 y.2.2 k s)∧v= .bool false∧dB H' n S st w∧ah H H')∨
  (cY w.cs x∧∃y,w.cs[x.toNat]? =some y∧¬fA y.2.1 y.2.2 k s∧v= .bool true∧∃q:Nat,q≤2*kX 2 (w.len y.1 - 1)∧∃S',dB H' n S' (min (st+q) 4611686018427387904) (w.put x (y.1,k,s))∧ag S H H'∧∀z,S' z→S z∨H.size≤z)):=by
 obtain⟨c,C,rv,fr,fa,ps,at_,m,l,hS⟩:=h
 refine bv uw ?_
 refine vs ?_
 have f0:ah H (H.new 224 [i64 k,u64 s]):=(ag.refl _ _).new _ _
 have b0:(H.new 224 [i64 k,u64 s]).own H.size=some [i64 k,u64 s]:=az _ _ _
 have m0:=m.ext f0 (fun _ _ h=>h)
 generalize H.new 224 [i64 k,u64 s]=H0 at*
 obtain⟨av,HT,TZ⟩:=m0.own
 refine v2 (ae HT) (ae b0) ?_
 refine(jm m0.cells x k s).mono ?_
 rintro _ H1 (⟨bO,rfl,c1,e1⟩| ⟨bJ,rfl,y,hy,fB,c1,e1⟩)
 ·refine vs ?_
  exact .inl ⟨bO,rfl,⟨c,C,rv,fr,fa,ps,at_,m0.ext e1 (fun _ _ h=>h),l,hS⟩,f0.trans e1⟩
 have m1:=m0.aJ c1 e1
 obtain⟨av1,Ns,QQ⟩:=m1.own
 refine v1 (ae Ns) ?_
 obtain⟨gf,y',FH,gh⟩:=id bJ
 rw[hy]at FH
 injection FH with FH
 subst FH
 have cN:(w.put x (y.1,k,s)).cs[x.toNat]? =some (y.1,k,s):=aop (aoj.1 hy).1
 have li:∀z:Nat,z≠x.toNat→(w.put x (y.1,k,s)).cs[z]? =w.cs[z]? :=fun z hz=>aoo (Ne.symm hz)
 have Nu:cY (w.put x (y.1,k,s)).cs x:=⟨gf,_,cN,gh⟩
 refine(eC c1 x).mono ?_
 rintro _ H2 (⟨bO,_,_⟩| ⟨_,y2,DQ,rfl,c2,e2⟩)
 ·exact absurd Nu bO
 rw[cN]at DQ
 injection DQ with DQ
 subst DQ
 have m2:=m1.aJ c2 e2
 obtain⟨av2,Zf,Wf⟩:=m2.own
 obtain⟨P,hP⟩:=(l.hs y.1.toNat).1 (m.cells.live _ (aon hy) gh)
 have z8:((y.1.toNat:Nat):Int)=y.1:=by omega
 have LK:∀ (h:Nat) Q,ps[h]? =some (some Q)→∀z:Int,z∈Q.l↔0≤z∧∃e,(w.put x (y.1,k,s)).cs[z.toNat]? =some (((h:Nat):Int),e):=fun h Q hQ z=>by
  rw[l.mem h Q hQ z]
  by_cases W8:z.toNat=x.toNat
  ·rw[W8,cN,hy]
   constructor
   ·rintro⟨z0,e,he⟩
    injection he with he
    exact⟨z0,(k,s),by rw[he]⟩
   ·rintro⟨z0,e,he⟩
    injection he with he
    injection he with W5 _
    exact⟨z0,y.2,by rw[←W5]⟩
  ·rw[li _ W8]
 have bK:=LK _ P hP
 have aZ:=l.len _ P hP
 rw[z8]at bK aZ
 have hxP:x∈P.l:=(bK x).2 ⟨gf,_,cN⟩
 have F1:∀z∈P.l,cY (w.put x (y.1,k,s)).cs z:=fun z hz=>by
  obtain⟨z0,e,he⟩:=(bK z).1 hz
  exact⟨z0,_,he,gh⟩
 obtain⟨i,hi⟩:=aoS hxP
 have qi:=(aoj.1 hi).1
 obtain⟨_,Y6⟩:=l.Tp _ P hP i x hi
 have Ve:=(aoj.1 Y6).1
 obtain⟨f,cc,lb,rfl,rfl,hf,Uc,dk⟩:=m2.atp hP
 obtain⟨fa',ac,la,rfl,hfa,W6,W7,_,_⟩:=Sl.at_ Wf (i:=x.toNat) (x:=i64 i) (by simp[Y6])
 have DE:∀j,j<P.l.length→j≠i→(P.l.getD j 0).toNat≠x.toNat:=fun j hj aP e=>by
  have hgj:P.l[j]? =some (P.l.getD j 0):=by rw[aom,aoh hj];rfl
  have h0:=((bK _).1 (aon hgj)).1
  rw[show P.l.getD j 0=x by omega]at hgj
  exact aP ((l.Tp _ P hP).FK hgj hi)
 have hA:dE (aQ (w.put x (y.1,k,s))) 2 P.l i:=by
  have hb:=(l.ok _ P hP).but (au w) dJ i
  refine⟨fun j h1 h2 h3 h4=>?_,fun j h1 h2 h3 h4=>?_⟩
  ·have:=cG dJ h1
   rw[hY w x _ (DE j h2 h3) (DE _ (by omega) h4)]
   exact hb.1 j h1 h2 h3 h4
  ·have:=cG dJ h1
   have:=cG dJ h4
   rw[hY w x _ (DE j h2 (by omega)) (DE _ (by omega) (by omega))]
   exact hb.2 j h1 h2 h3 h4
 refine v1 (ae Zf) ?_
 refine⟨by omega,?_⟩
 simp(disch:=(first|omega| (simp only[Zs]<;>omega)|fail)) only[go_sem, ↓reduceIte,Zv,ae hf,aol,Uc,To,ae Zf]
 refine⟨by omega,?_⟩
 refine v3 (ae W6) aol W7 ?_
 refine(HW (m2.Nv hP) (l.Tp _ P hP) qi F1 hA).mono ?_
 rintro _ H3 ⟨rfl,l',mr,q,o,iD,hq⟩
 refine vs ?_
 have pE:=e1.trans e2
 have hT:∀z,(C z∨P.fp=some z∨fa=some z)→C z∨P.S z∨fa=some z:=fun z hz=>by
  rcases hz with hz|hz|hz
  ·exact .inl hz
  ·exact .inr (.inl (.inr hz))
  ·exact .inr (.inr hz)
 have nS:∀z,(C z∨P.fp=some z∨fa=some z)→S z:=fun z hz=>(hS z).1 (by
  rcases hT z hz with hz|hz|hz
  ·exact .inl hz
  ·exact .inr (.inr (.inr (.inr ⟨_,P,hP,hz⟩)))
  ·exact .inr (.inr (.inr (.inl hz))))
 have aP:∀ (h:Nat) Q,h≠y.1.toNat→ps[h]? =some (some Q)→∀z∈Q.l,z.toNat≠x.toNat:=fun h Q hh hQ z hz e=>by
  obtain⟨z0,e',he⟩:=(l.mem h Q hQ z).1 hz
  rw[e,hy]at he
  injection he with he
  rw[he]at hh
  simp only[Int.toNat_natCast]at hh
  exact hh rfl
 have hwl:∀h:Int,(w.put x (y.1,k,s)).len h=w.len h:=fun h=>by
  rw[Nw.gm hy h]
  simp only
  split<;>omega
 have hol:=o.len
 refine .inr ⟨bJ,y,hy,fB,rfl,q,by rw[←aZ];exact hq,DD n C (some f) fa (ps.set y.1.toNat (some ⟨P.r,P.fp,l'⟩)),
  ⟨c,C,_,some f,fa,_,mr,m2.JK hP (P':=⟨P.r,P.fp,l'⟩) rfl o.jC (.inl rfl) o.ext hT,
   ⟨by rw[aok];exact l.hl,fun h=>?_,?_,fun h Q hQ=>?_,fun h Q hQ=>?_,fun h Q hQ z=>?_,fun h Q hQ=>?_,?_⟩,fun z=>Iff.rfl⟩,?_,fun z hz=>?_⟩
 ·show w.hs[h]? =some true↔_
  rw[l.hs h]
  by_cases LJ:h=y.1.toNat
  ·subst LJ
   rw[aop dk]
   exact⟨fun _=>⟨_,rfl⟩,fun _=>⟨P,hP⟩⟩
  ·rw[aoo (Ne.symm LJ)]
 ·rw[aoo (by omega)];exact l.h0
 ·rcases gM dk hQ with ⟨rfl,rfl⟩| ⟨h5,h6⟩
  ·exact iD
  ·exact(l.ok h Q h6).JI fun z hz v hv=>(hY w x _ (aP h Q h5 h6 z hz) (aP h Q h5 h6 v hv)).symm
 ·rcases gM dk hQ with ⟨rfl,rfl⟩| ⟨h5,h6⟩
  ·exact o.ok
  ·exact(l.Tp h Q h6).W1 fun z hz z0=>o.off z z0 (l.apart h6 hP h5 hz)
 ·rcases gM dk hQ with ⟨rfl,rfl⟩| ⟨h5,h6⟩
  ·rw[z8]
   show z∈l'↔_
   rw[o.mem z,bK z]
  ·exact LK h Q h6 z
 ·rw[hwl]
  rcases gM dk hQ with ⟨rfl,rfl⟩| ⟨h5,h6⟩
  ·rw[z8]
   show(l'.length:Int)=_
   omega
  ·exact l.len h Q h6
 ·rw[o.LI,l.LI];exact(aok ..).symm
 ·exact(f0.mono fun _ _ h=>h.elim).trans ((pE.mono fun z _ hz=>nS z (.inl hz)).trans (o.ext.mono fun z _ hz=>nS z hz))
 ·rcases hz with hz|rfl|hz|hz| ⟨j,Q,hQ,hz⟩
  ·exact .inl (nS z (.inl hz))
  ·exact .inl ((hS z).1 (.inr (.inl rfl)))
  ·exact .inl ((hS z).1 (.inr (.inr (.inl hz))))
  ·exact .inl (nS z (.inr (.inr hz)))
  ·rcases gM dk hQ with ⟨rfl,rfl⟩| ⟨h5,h6⟩
   ·rcases hz with rfl|hz
    ·exact .inl ((hS _).1 (.inr (.inr (.inr (.inr ⟨_,P,hP,.inl rfl⟩)))))
    ·exact .inl (nS z (.inr (.inl hz)))
   ·exact .inl ((hS z).1 (.inr (.inr (.inr (.inr ⟨j,Q,h6,hz⟩)))))
theorem C0{ov:Value}{I:Hp→Nat→Prop}{T:Nat→Prop}{lt:Int→Int→Bool}{D:Int→Prop}(ho:Ng ov I T lt D){H:Hp}{r:Nat}{S:Nat→Prop}{d:Int}{l:List Int}{pl:Int→Option Int}
  (h:dm H r S d l pl)(hd:∀x,S x→¬T x){n:Nat}(hI:I H n)(hf:cU d)(x:Int)(hl:l.length≤1000000)(hp:CK l pl)(hD:∀z∈l,D z:=by intros;trivial):
  af Tryz.prog An [ptr r,ov,i64 x] H fun v H'=>aw (
   (pl x=none∧v= .bool false∧H=H')∨
   (∃i,pl x=some i∧v= .bool true∧dm H' r S d (cR lt d x l pl i).1 (cR lt d x l pl i).2.1∧I H' (n+(cR lt d x l pl i).2.2)∧ag (fun z=>S z∨T z) H H')):=by
 obtain⟨⟨sv,fp,mb,a1,a2,a3,s1,s2,s3,s4⟩,h2⟩:=id h
 have key:gZ true (Value.int .i64 0) ((pl x).map i64)= .tuple [i64 ((pl x).getD 0),.bool (pl x).isSome].toArray:=by cases pl x<;>rfl
 refine bv AK ?_
 refine v3 (ae a1) a3.look key ?_
 cases hx:pl x with
 |none=>
  simp(disch:=(first|omega| (simp only[Zs]<;>omega)|fail)) only[go_sem, ↓reduceIte,Zv,Option.isSome_none]
  exact .inl ⟨rfl,rfl,rfl⟩
 |some i=>
  obtain⟨i0,Uf⟩:=(hp x i).1 hx
  have qi:i.toNat<l.length:=(aoj.1 Uf).1
  obtain⟨f,rfl⟩:∃f,fp=some f:=by
   cases fp with
   |none=>obtain⟨_,e,_⟩:=a2;omega
   |some f=>exact⟨f,rfl⟩
  have Wn:=a2
  obtain⟨_,l1,c,rfl,g2,a5,a6,a7⟩:=Wn
  have g3:∀ (i:Nat) (x:Int),l[i]? =some x→l1[i]? =some (i64 x):=fun i x h=>by
   have aO:=(aoj.1 h).1
   have h1:(l.map i64)[i]? =some (i64 x):=by simp[h]
   rw[←a7,aoO (by omega)]at h1
   exact h1
  have jf:l[l.length - 1]? =some (l.getD (l.length - 1) 0):=by
   rw[aom,aoh (by omega)];rfl
  have W9:=g3 _ _ jf
  have e1:IntKind.i64.wrap ((l.length:Int) - 1)=((l.length - 1:Nat):Int):=by rw[wrap64 (by omega) (by omega)];omega
  simp(disch:=(first|omega| (simp only[Zs]<;>omega)|fail)) only[go_sem, ↓reduceIte,Zv,Option.isSome_some,Option.getD_some,ae a1,e1,Int.toNat_natCast]
  refine⟨by omega,?_⟩
  refine v5 (ae g2) (ae a1) aol W9 e1 ?_
  refine⟨by omega,?_⟩
  obtain⟨Lm,oR,T1⟩:=s4 f rfl
  have yg:Value.slice (if(c:Int)=((0:Nat):Int)then some (⟨f,0,none⟩:Addr)else Option.map (fun(x:Addr)=>x.add (((0:Nat):Int).toNat*1)) (some (⟨f,0,none⟩:Addr))) (((l.length - 1:Nat):Int).toNat - ((0:Nat):Int).toNat) ((c:Int).toNat - ((0:Nat):Int).toNat)= .slice (some ⟨f,0,none⟩) (l.length - 1) c:=by
   split<;>rfl
  refine v2 (ae a1) a1 ?_
  rw[yg]
  have ew:ag (fun z=>z=r) H (H.wr r [i64 d,.slice (some ⟨f,0,none⟩) (l.length - 1) c,.map (some mb)]):=(ag.refl (fun z=>z=r) _).wr (fun _=>rfl) _
  have b1:(H.wr r [i64 d,.slice (some ⟨f,0,none⟩) (l.length - 1) c,.map (some mb)]).own r=some [i64 d,.slice (some ⟨f,0,none⟩) (l.length - 1) c,.map (some mb)]:=ai a1
  have b3:=a3.ext ew (Ne.symm s3)
  refine v1 (ae b1) ?_
  refine b3.del fun H2 m2 e2=>?_
  rw[Ll]at m2
  have e02:ag S H H2:=(ew.mono fun z _ hz=>hz▸s1).trans (e2.mono fun z _ hz=>hz▸s2)
  have hr:dm H2 r S d l.dropLast (rT pl x):=by
   refine⟨⟨.slice (some ⟨f,0,none⟩) (l.length - 1) c,some f,mb,e2.own b1 s3,⟨by simp,l1,c,by rw[aoU],(e2.own ((ew.own g2 oR)) T1),by rw[aoU];omega,a6,?_⟩,m2,s1,s2,s3,s4⟩,
    fun z hz=>aoH (h2 z hz) e02.size⟩
   have hx7:((l.map i64).length)=l.length:=by simp
   rw[aoU,List.map_dropLast,apP,hx7,←a7,aqk]
   congr 1
   omega
  have QT:=ho.aM _ _ _ _ hI e02 (fun z hz hs=>hd z hs hz)
  refine vs ?_
  have oQ:l.dropLast.length=l.length - 1:=aoU
  refine am.dec (fun he=>?_) (fun he=>?_)<;>refine vs ?_
  ·refine .inr ⟨i,rfl,rfl,?_,?_,e02.mono fun z _ hz=>.inl hz⟩
   ·unfold cR;rw[if_pos he];exact hr
   ·unfold cR;rw[if_pos he];exact QT
  ·have Xa:l.getD (l.length - 1) 0∈l:=aon jf
   have my:i.toNat≠l.length - 1:=fun e=>by rw[e,jf]at Uf;injection Uf with Uf;exact he Uf
   refine(rU ho hr hd QT i (l.getD (l.length - 1) 0) ⟨i0,by omega⟩ (by omega) (hD _ Xa) (fun z hz=>hD z ((aql _).subset hz))).mono ?_
   rintro _ H3 ⟨rfl,r3,i3,e3⟩
   have Nx:=(e02.mono fun z _ hz=>Or.inl hz).trans e3
   refine vs ?_
   refine am.dec (fun uE=>?_) (fun uE=>?_)<;>refine vs ?_
   ·have Tq:=vE lt d (l.getD (l.length - 1) 0) i.toNat l.dropLast (rT pl x) i
    refine(FI ho r3 hd i3 hf i (l.getD (l.length - 1) 0) ⟨i0,by omega⟩ (by omega) (hD _ Xa) (fun z hz=>by
     rcases T2 lt d _ _ _ _ _ i0 (by omega) z hz with h|h
     ·rw[h];exact hD _ Xa
     ·exact hD z ((aql _).subset h))).mono ?_
    rintro _ H4 ⟨r4,i4,e4⟩
    refine vs ?_
    refine .inr ⟨i,rfl,rfl,?_,?_,Nx.trans e4⟩
    ·unfold cR;rw[if_neg he];simp only;rw[if_pos uE];exact r4
    ·unfold cR;rw[if_neg he];simp only;rw[if_pos uE,←aqt];exact i4
   ·refine .inr ⟨i,rfl,rfl,?_,?_,Nx⟩
    ·unfold cR;rw[if_neg he];simp only;rw[if_neg uE];exact r3
    ·unfold cR;rw[if_neg he];simp only;rw[if_neg uE];exact i3
end Go.Proofs.YtjlnnljohemifaaGreat
