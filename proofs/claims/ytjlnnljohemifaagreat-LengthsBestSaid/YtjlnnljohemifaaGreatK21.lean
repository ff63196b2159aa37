/- Texts put behind each other. -/
import Derived.Test.YtjlnnljohemifaaGreatK98
import Derived.Test.YtjlnnljohemifaaGreatK9
import Derived.Test.YtjlnnljohemifaaGreatK17
import Derived.Test.YtjlnnljohemifaaGreatK19
import Derived.Test.YtjlnnljohemifaaGreatK20
set_option linter.unusedVariables false
set_option linter.unusedSimpArgs false
namespace Go.Proofs.YtjlnnljohemifaaGreat
open Go Go.Vc
abbrev kU(x:Int)(g:Nat):Value:=.agg #[i64 x,.int .u32 (g:Int)]
structure Ar where
 g:List (Nat×Bool)
 wt:List Int
 nx:Nat
 ct:Int
 mo:Nat
def dv(L:List (Nat×Bool)):List Value:=L.flatMap fun y=>[.int .u32 (y.1:Int),.bool y.2]
theorem tn(L:List (Nat×Bool)):(dv L).length=L.length*2:=by
 induction L with
 |nil=>rfl
 |cons c r ih=>simp only[dv,anO,amh,ams,anj]at*;omega
theorem xt{L:List (Nat×Bool)}{i:Nat}{y:Nat×Bool}(hi:L[i]? =some y):(dv L)[i*2]? =some (.int .u32 (y.1:Int))∧(dv L)[i*2+1]? =some (.bool y.2):=by
 induction L generalizing i with
 |nil=>simp at hi
 |cons a r ih=>
  have e:dv (a::r)= .int .u32 (a.1:Int):: .bool a.2::dv r:=rfl
  rw[e]
  cases i with
  |zero=>simp at hi;subst hi;exact⟨rfl,rfl⟩
  |succ i=>
   have:=ih (by simpa using hi)
   rw[show(i+1)*2=i*2+2 by omega]
   exact this
theorem D3{L:List (Nat×Bool)}{i:Nat}{y:Nat×Bool}(hi:L[i]? =some y):(∀v:Nat,(dv L).set (i*2) (.int .u32 (v:Int))=dv (L.set i (v,y.2)))∧(∀b,(dv L).set (i*2+1) (.bool b)=dv (L.set i (y.1,b))):=by
 induction L generalizing i with
 |nil=>simp at hi
 |cons a r ih=>
  have e:dv (a::r)= .int .u32 (a.1:Int):: .bool a.2::dv r:=rfl
  cases i with
  |zero=>simp at hi;subst hi;exact⟨fun _=>rfl,fun _=>rfl⟩
  |succ i=>
   obtain⟨h1,h2⟩:=ih (by simpa using hi)
   refine⟨fun v=>?_,fun b=>?_⟩
   ·have e2:dv ((a::r).set (i+1) (v,y.2))= .int .u32 (a.1:Int):: .bool a.2::dv (r.set i (v,y.2)):=rfl
    rw[e,e2,show(i+1)*2=i*2+1+1 by omega]
    simp only[amP]
    rw[h1]
   ·have e2:dv ((a::r).set (i+1) (y.1,b))= .int .u32 (a.1:Int):: .bool a.2::dv (r.set i (y.1,b)):=rfl
    rw[e,e2,show(i+1)*2+1=i*2+1+1+1 by omega]
    simp only[amP]
    rw[h2]
def Ar.cf(A:Ar)(x:Int):Nat:=(A.g.getD x.toNat (0,false)).1
def Ar.live(A:Ar)(x:Int):Prop:=0≤x∧(A.g[x.toNat]?).map (·.2)=some true
instance(A:Ar)(x:Int):Decidable (A.live x):=by unfold Ar.live;exact inferInstance
def Ar.pick(A:Ar):Option (Int×Ar):=
 if A.wt≠[]then some (A.wt.getLastD 0,{A with wt:=A.wt.dropLast})else if A.nx=A.g.length then none else some ((A.nx:Int),{A with nx:=A.nx+1})
def Ar.out(A:Ar)(x:Int):Ar:={A with g:=A.g.set x.toNat (A.cf x+1,true),ct:=A.ct+1}
def Ar.back(A:Ar)(x:Int):Ar:={A with g:=A.g.set x.toNat (A.cf x,false),ct:=A.ct - 1,wt:=if A.cf x<A.mo then A.wt++[x]else A.wt}
def Ar.aY(A:Ar):Nat:=A.g.countP (·.2)
theorem count_set{L:List (Nat×Bool)}{i:Nat}{y:Nat×Bool}(h:L[i]? =some y)(v:Nat)(b:Bool):(L.set i (v,b)).countP (·.2)+y.2.toNat=L.countP (·.2)+b.toNat:=by
 induction L generalizing i with
 |nil=>simp at h
 |cons a r ih=>
  cases i with
  |zero=>
   simp at h
   subst h
   rw[anq,ane,ane]
   cases a.2<;>cases b<;>simp
  |succ i=>
   have:=ih (i:=i) (by simpa using h)
   rw[amP,ane,ane]
   omega
structure A8(A:Ar):Prop where
 wl:∀x∈A.wt,¬A.live x∧x<A.nx∧0≤x
 wd:A.wt.Nodup
 fr:∀x:Int,A.nx≤x→¬A.live x
 ct:A.ct=A.aY
 nx:A.nx≤A.g.length
structure Ue where
 a:Nat
 sb:Nat
 fo:Option Nat
def Ue.S(B:Ue)(z:Nat):Prop:=z=B.a∨z=B.sb∨B.fo=some z
structure Kh(H:Hp)(B:Ue)(A:Ar):Prop where
 own:∃tv,H.own B.a=some [.slice (some ⟨B.sb,0,none⟩) A.g.length A.g.length,tv,i64 A.nx,i64 A.ct,.int .u32 (A.mo:Int)]∧Sl H 1 tv A.wt.length (A.wt.map i64) B.fo
 sl:H.own B.sb=some (dv A.g)
 ne:B.a≠B.sb∧B.fo≠some B.a∧B.fo≠some B.sb
 len:A.g.length≤65536
 ok:A8 A
 gs:∀y∈A.g,y.1≤4294967295
 mo:A.mo≤4294967295
section
variable {H H' : Hp} {B : Ue} {A : Ar} {T : Nat → Prop}
theorem Kh.slt(m:Kh H B A):∀z,B.S z→z<H.size:=by
 obtain⟨tv,h1,h2⟩:=m.own
 rintro z (rfl|rfl|h)
 ·exact aO h1
 ·exact aO m.sl
 ·rw[h]at h2;exact Sl.lt h2
theorem Kh.ext(m:Kh H B A)(e:ai T H H')(hd:∀z,B.S z→¬T z):Kh H' B A:=by
 obtain⟨tv,h1,h2⟩:=m.own
 exact⟨⟨tv,e.own h1 (hd _ (.inl rfl)),h2.ext e (fun b hb=>hd b (.inr (.inr hb)))⟩,e.own m.sl (hd _ (.inr (.inl rfl))),m.ne,m.len,m.ok,m.gs,m.mo⟩
theorem Ar.get{A:Ar}{x:Int}(hx:0≤x∧x<A.g.length):∃b,A.g[x.toNat]? =some (A.cf x,b)∧(A.live x↔b=true):=by
 obtain⟨y,hy⟩:∃y,A.g[x.toNat]? =some y:=⟨_,al5 (by omega)⟩
 refine⟨y.2,?_,?_⟩
 ·unfold Ar.cf
  rw[al9,hy];rfl
 ·unfold Ar.live
  rw[hy]
  simp[hx.1]
theorem Ar.Cw{A:Ar}{x:Int}(h:A.live x):0≤x∧x<A.g.length:=by
 obtain⟨h0,h1⟩:=h
 cases hy:A.g[x.toNat]? with
 |none=>rw[hy]at h1;cases h1
 |some y=>
  have:=(al7.1 hy).1
  omega
theorem Kh.wtl(m:Kh H B A):A.wt.length≤65536∧∀x∈A.wt,0≤x∧x<A.g.length:=by
 have h1:∀x∈A.wt,0≤x∧x<A.g.length:=fun x hx=>by
  have:=m.ok.wl x hx
  have:=m.ok.nx
  omega
 exact⟨amM (bY m.ok.wd h1) m.len,h1⟩
theorem NA(k:Nat):cR [Value.int .u32 0,Value.bool false] k=dv (List.replicate k (0,false)):=by
 unfold cR dv
 induction k with
 |zero=>rfl
 |succ k ih=>rw[amR,amR,am7,anO,ih];rfl
theorem GW(H:Hp){n:Int}{mo:Nat}(hn:0≤n∧n≤65536)(hm:0<mo∧mo≤4294967295):ah Tryz.prog Lj [i64 n,.int .u32 (mo:Int)] H fun v H'=>ay (∃B,v= .tuple [ptr B.a,i64 0].toArray∧Kh H' B ⟨List.replicate n.toNat (0,false),[],0,0,mo⟩∧ax H H'∧∀z,B.S z→H.size≤z):=by
 refine be Lp ⟨rfl,?_⟩
 refine v1 wM.eq_1 ?_
 refine ak.dec (fun g=>absurd g (by omega)) (fun _=>?_)
 refine vs ?_
 refine ak.dec (fun g=>absurd g (by omega)) (fun _=>?_)
 refine vs ?_
 refine ak.dec (fun g=>absurd g (by omega)) (fun _=>?_)
 refine vs ?_
 refine⟨⟨by omega,by omega,by omega,by omega⟩,?_⟩
 refine vs ?_
 rw[NA]
 refine⟨⟨H.size+1,H.size,none⟩,rfl,⟨⟨.slice none 0 0,?_,Sl.nil _ _⟩,?_,⟨by simp only;omega,by simp,by simp⟩,by rw[amV];omega,⟨by simp,ani,fun x _ hx=>?_,by simp[Ar.aY,List.countP_replicate],anS _⟩,fun y hy=>by rw[(List.mem_replicate.1 hy).2];simp,hm.2⟩,((ai.refl _ _).new _ _).new _ _,fun z hz=>?_⟩
 ·rw[amV]
  exact bD (by simp only[au])
 rotate_left
 ·obtain⟨h0,h1⟩:=hx
  simp only[am9]at h1
  split at h1<;>simp at h1
 rotate_left
 ·simp only
  rw[cw (by simp only[au];omega),aG]
 ·rcases hz with h|h|h
  ·simp only at h;omega
  ·simp only at h;omega
  ·cases h
theorem vl(m:Kh H B A)(x:Int)(g:Nat):ah Tryz.prog Ae [ptr B.a,kU x g] H fun v H'=>ay (v= .bool (decide (A.live x∧A.cf x=g))∧ax H H'):=by
 obtain⟨tv,o1,_⟩:=m.own
 refine be AE ⟨rfl,?_⟩
 refine v1 jJ.eq_1 ?_
 have f0:ax H (H.new 114 [i64 x,.int .u32 (g:Int)]):=(ai.refl _ _).new _ _
 have b0:(H.new 114 [i64 x,.int .u32 (g:Int)]).own H.size=some [i64 x,.int .u32 (g:Int)]:=aG _ _ _
 have m0:=m.ext f0 (fun _ _ h=>h)
 generalize H.new 114 [i64 x,.int .u32 (g:Int)]=H0 at*
 obtain⟨tv0,o0,_⟩:=m0.own
 refine ak.dec (fun h0=>?_) (fun h0=>?_)<;>refine v2 (ae b0) (ae o0) ?_
 rotate_left
 ·rw[amm (fun h=>h0 h.1.1)]
  exact⟨rfl,f0⟩
 refine ak.dec (fun h1=>?_) (fun h1=>?_)<;>refine v2 (ae b0) (ae o0) ?_
 rotate_left
 ·rw[amm (fun h=>h1 (Ar.Cw h.1).2)]
  exact⟨rfl,f0⟩
 obtain⟨b,hb,xu⟩:=Ar.get (A:=A) (x:=x) ⟨h0,h1⟩
 obtain⟨c1,c2⟩:=xt hb
 have hl:=tn A.g
 refine⟨⟨by omega,by omega⟩,?_⟩
 refine v2 (ae m0.sl) al6 ?_
 have hdt:((dv A.g).drop (x.toNat*2)).take 2=[.int .u32 (A.cf x:Int),.bool b]:=by
  apply amN
  intro k
  match k with
  |0=>rw[amA (by omega),amF,Nat.add_zero];exact c1
  |1=>rw[amA (by omega),amF];exact c2
  |k+2=>rw[amk (by simp;omega)];rfl
 rw[hdt]
 refine⟨by omega,?_⟩
 refine v1 (ae b0) ?_
 have heq:Cx [(0,none,Shape.int),(1,none,Shape.bool)] [Value.int IntKind.u32 (A.cf x:Int),Value.bool b] [Value.int IntKind.u32 (g:Int),Value.bool true]=some (decide (A.cf x=g) && b):=by
  by_cases hg:A.cf x=g
  ·cases b<;>simp[Cx,tq,bB,hg,xw]
  ·have:¬ (A.cf x:Int)=(g:Int):=by omega
   cases b<;>simp[Cx,tq,bB,hg,xw,this]
 rw[heq]
 simp(disch:=(first|omega| (simp only[Zs]<;>omega)|fail)) only[go_sem, ↓reduceIte,Zv,Option.map_some]
 refine⟨amt Value.bool ?_,f0⟩
 by_cases hg:A.cf x=g
 ·rw[amj hg,aom]
  cases GN:b
  ·exact(amm (fun h=>by have:=xu.1 h.1;rw[GN]at this;cases this)).symm
  ·exact(amj ⟨xu.2 GN,hg⟩).symm
 ·rw[amm hg,amm (fun h=>hg h.2)]
  rfl
theorem IR(m:Kh H B A){x:Int}(hx:A.live x):ah Tryz.prog Do [ptr B.a,i64 x] H fun v H'=>ay (v= .tuple [kU x (A.cf x),.bool true].toArray∧ax H H'):=by
 obtain⟨tv,o1,_⟩:=m.own
 have xx:=Ar.Cw hx
 obtain⟨b,hb,xu⟩:=Ar.get (A:=A) (x:=x) xx
 obtain rfl:=xu.1 hx
 obtain⟨c1,c2⟩:=xt hb
 have hl:=tn A.g
 refine be DA ⟨rfl,?_⟩
 refine v1 mM.eq_1 ?_
 have f0:ax H (H.new 114 [Value.int .i64 0,Value.int .u32 0]):=(ai.refl _ _).new _ _
 have b0:(H.new 114 [Value.int .i64 0,Value.int .u32 0]).own H.size=some [Value.int .i64 0,Value.int .u32 0]:=aG _ _ _
 have m0:=m.ext f0 (fun _ _ h=>h)
 have z0:(H.new 114 [Value.int .i64 0,Value.int .u32 0]).size=H.size+1:=au _ _ _
 generalize H.new 114 [Value.int .i64 0,Value.int .u32 0]=H0 at*
 obtain⟨tv0,o0,_⟩:=m0.own
 refine ak.dec (fun h=>absurd h (by omega)) (fun _=>?_)
 refine v1 (ae o0) ?_
 refine ak.dec (fun h=>absurd h (by omega)) (fun _=>?_)
 refine v1 (ae o0) ?_
 refine⟨⟨by omega,by omega⟩,?_⟩
 refine v4 (ae m0.sl) al6 c2 (ae o0) ?_
 refine⟨⟨by omega,by omega⟩,?_⟩
 refine v5 (ae m0.sl) al6 Nat.add_zero c1 b0 ?_
 have e1:ai (fun z=>z=H.size) H0 (H0.wr H.size [Value.int .i64 x,Value.int .u32 (A.cf x:Int)]):=(ai.refl (fun z=>z=H.size) _).wr (fun _=>rfl) _
 have b1:(H0.wr H.size [Value.int .i64 x,Value.int .u32 (A.cf x:Int)]).own H.size=some [Value.int .i64 x,Value.int .u32 (A.cf x:Int)]:=aj b0
 refine v1 (ae b1) ?_
 exact⟨rfl,f0.then e1 (fun z hz=>by omega)⟩
end
end Go.Proofs.YtjlnnljohemifaaGreat

namespace Go.Proofs.YtjlnnljohemifaaGreat
open Go Go.Vc
theorem Uf{H:Hp}{v:Value}{size n:Nat}{xs:List Value}{fp:Option Nat}(h:Sl H size v n xs fp):∃a c,v= .slice a n c∧n≤c:=by
 obtain⟨_,h⟩:=h
 cases fp with
 |none=>obtain⟨rfl,rfl⟩:=h;exact⟨_,_,rfl,ami _⟩
 |some b=>obtain⟨l,c,rfl,_,hc,_⟩:=h;exact⟨_,_,rfl,hc⟩
theorem ep.num{H:Hp}{a:Option Addr}{n c:Nat}{xs:List Int}(h:ep H 1 (.slice a n c) n (xs.map i64)){i:Nat}{x:Int}(hx:xs[i]? =some x):
  i<n∧∃b o lb,a=some ⟨b,o,none⟩∧H.rd b=some lb∧lb[o+i]? =some (i64 x):=by
 obtain⟨hl,hv⟩:=h
 rw[amu,ama]at hl
 have hi:=(al7.1 hx).1
 refine⟨by omega,?_⟩
 rcases hv with ⟨hn,_⟩| ⟨b,o,c2,l,hs,mu,zU,ht⟩
 ·omega
 ·injection hs with eR ON IL
  refine⟨b,o,l,eR,mu,?_⟩
  have h7:(xs.map i64)[i]? =some (i64 x):=by rw[amo,hx];rfl
  rw[←ht,amE,if_pos (by omega),amF]at h7
  exact h7
theorem gz{H:Hp}{a:Option Addr}{c:Nat}{xs:List Int}(h:ep H 1 (.slice a xs.length c) xs.length (xs.map i64))(x:Int)(hm:xs.length≤1000000000):
  ah Tryz.prog tS [.slice a xs.length c,i64 x] H fun v H'=>ay ((∃i:Int,v=i64 i∧((i= -1∧x∉xs)∨(0≤i∧xs[i.toNat]? =some x)))∧H'=H):=by
 refine be ue ⟨rfl,?_⟩
 refine v1 fj.eq_1 ?_
 refine bA.intro (fun m env H'=>H'=H∧∃j:Nat,m=xs.length - j∧j≤xs.length∧(∀e∈xs.take j,x≠e)∧env=[(0,.slice a xs.length c),(1,i64 x),(7,i64 xs.length),(8,i64 j)]) xs.length ⟨rfl,0,by omega,by omega,by simp,rfl⟩ ?_
 rintro m env H1 ⟨e1,j,hmj,hj,fZ,rfl⟩
 obtain rfl:=e1.symm
 refine vs ?_
 refine ak.dec (fun aR=>?_) (fun aR=>?_)<;>refine vs ?_
 ·have kJ:j<xs.length:=by omega
  obtain⟨e,he⟩:∃e,xs[j]? =some e:=⟨_,al5 kJ⟩
  obtain⟨_,b,o,lb,rfl,D4,bE⟩:=ep.num h he
  refine⟨⟨by omega,by omega⟩,?_⟩
  refine v4 D4 Int.toNat_natCast ama bE ?_
  refine ak.dec (fun hx=>?_) (fun hx=>?_)<;>refine vs ?_
  ·exact⟨⟨j,rfl,.inr ⟨by omega,by rw[Int.toNat_natCast,he,hx]⟩⟩,rfl⟩
  ·rw[wrap64 (n:=(j:Int)+1) (by omega) (by omega)]
   refine⟨xs.length - (j+1),by omega,trivial,j+1,rfl,by omega,?_,rfl⟩
   intro e' tL
   rw[amG,he]at tL
   rcases aml.1 tL with tL|tL
   ·exact fZ e' tL
   ·have:e'=e:=by simpa using tL
    rw[this];exact hx
 ·have kJ:j=xs.length:=by omega
  subst kJ
  rw[amB]at fZ
  exact⟨⟨-1,rfl,.inl ⟨rfl,fun hm=>fZ x hm rfl⟩⟩,rfl⟩
theorem xy{H:Hp}{a:Option Addr}{c:Nat}{xs:List Int}(h:ep H 1 (.slice a xs.length c) xs.length (xs.map i64))(x:Int)(hm:xs.length≤1000000000):
  ah Tryz.prog qT [.slice a xs.length c,i64 x] H fun v H'=>ay (v= .bool (decide (x∈xs))∧H'=H):=by
 refine be qV ⟨rfl,?_⟩
 refine v1 dQ.eq_1 ?_
 refine(gz h x hm).mono ?_
 rintro _ H1 ⟨⟨i,rfl,hi⟩,e⟩
 obtain rfl:=e.symm
 refine vs ?_
 refine⟨amt Value.bool ?_,rfl⟩
 rcases hi with ⟨rfl,h1⟩| ⟨h0,h1⟩
 ·rw[amm h1];rfl
 ·rw[amj (amb h1)]
  exact amj (by omega)
theorem FC{H:Hp}{a:Option Addr}{c:Nat}{xs:List Int}(f:FuncId)(tu:List Value)(q:Int→Bool)(h:ep H 1 (.slice a xs.length c) xs.length (xs.map i64))(FD:eV Tryz.prog f=true)
  (hf:∀x,ah Tryz.prog f (i64 x::tu) H fun v GF=>ay (v= .bool (q x)∧GF=H))(hm:xs.length≤1000000000):
  ah Tryz.prog gH [.slice a xs.length c,.func (.func f) #[] tu.toArray] H fun v H'=>ay ((∃i:Int,v=i64 i∧((i= -1∧∀x∈xs,q x=false)∨(0≤i∧(∀x∈xs.take i.toNat,q x=false)∧∃x,xs[i.toNat]? =some x∧q x=true)))∧H'=H):=by
 refine be gL ⟨rfl,?_⟩
 refine v1 cK.eq_1 ?_
 refine bA.intro (fun m env H'=>H'=H∧∃j:Nat,m=xs.length - j∧j≤xs.length∧(∀e∈xs.take j,q e=false)∧env=[(0,.slice a xs.length c),(1,.func (.func f) #[] tu.toArray),(7,i64 xs.length),(8,i64 j)]) xs.length ⟨rfl,0,by omega,by omega,by simp,rfl⟩ ?_
 rintro m env H1 ⟨e1,j,hmj,hj,fZ,rfl⟩
 obtain rfl:=e1.symm
 refine vs ?_
 refine ak.dec (fun aR=>?_) (fun aR=>?_)<;>refine vs ?_
 ·have kJ:j<xs.length:=by omega
  obtain⟨e,he⟩:∃e,xs[j]? =some e:=⟨_,al5 kJ⟩
  obtain⟨_,b,o,lb,rfl,D4,bE⟩:=ep.num h he
  refine⟨⟨by omega,by omega⟩,?_⟩
  refine v4 D4 Int.toNat_natCast ama bE ?_
  refine⟨FD,?_⟩
  refine ah.mono (by simpa using hf e) ?_
  rintro _ H2 ⟨rfl,e2⟩
  obtain rfl:=e2.symm
  refine vs ?_
  cases hx:q e
  ·refine vs ?_
   rw[wrap64 (n:=(j:Int)+1) (by omega) (by omega)]
   refine⟨xs.length - (j+1),by omega,trivial,j+1,rfl,by omega,?_,rfl⟩
   intro e' tL
   rw[amG,he]at tL
   rcases aml.1 tL with tL|tL
   ·exact fZ e' tL
   ·have:e'=e:=by simpa using tL
    rw[this];exact hx
  ·refine vs ?_
   exact⟨⟨j,rfl,.inr ⟨by omega,by rw[Int.toNat_natCast];exact fZ,e,by rw[Int.toNat_natCast];exact he,hx⟩⟩,rfl⟩
 ·have kJ:j=xs.length:=by omega
  subst kJ
  rw[amB]at fZ
  exact⟨⟨-1,rfl,.inl ⟨rfl,fZ⟩⟩,rfl⟩
theorem LR(k:Nat):cR [Value.int .i64 0] k=(List.replicate k (0:Int)).map i64:=by
 unfold cR
 induction k with
 |zero=>rfl
 |succ k ih=>rw[amR,amR,am7,amL,ih];rfl
theorem GX(l new:List Value)(i:Nat)(h:i+new.length≤l.length):(bq l i new).take i=l.take i:=by
 apply amN
 intro k
 by_cases hk:k<i
 ·rw[amA hk,amA hk,getElem?_splice new l i k h,if_neg (by omega)]
 ·rw[amk (by simp;omega),amk (by simp;omega)]
set_option maxRecDepth 100000 in
theorem D5{H:Hp}{v:Value}{xs:List Int}{fp:Option Nat}(s:Sl H 1 v xs.length (xs.map i64) fp)(f:FuncId)(tu:List Value)(q:Int→Bool)(FD:eV Tryz.prog f=true)
  (hf:∀H',ai (fun z=>fp=some z) H H'→∀x,ah Tryz.prog f (i64 x::tu) H' fun v GF=>ay (v= .bool (q x)∧GF=H'))(hm:xs.length≤1000000000):
  ah Tryz.prog pH [v,.func (.func f) #[] tu.toArray] H fun v' H'=>ay (Sl H' 1 v' (xs.filter fun x=> !q x).length ((xs.filter fun x=> !q x).map i64) fp∧ai (fun z=>fp=some z) H H'):=by
 obtain⟨a,c,rfl⟩:=Sl.shape s
 refine be pI ⟨rfl,?_⟩
 refine v1 dm.eq_1 ?_
 refine(FC f tu q s.rd FD (hf H (ai.refl _ _)) hm).mono ?_
 rintro _ H1 ⟨⟨i0,rfl,Fw⟩,e⟩
 obtain rfl:=e.symm
 refine vs ?_
 rcases Fw with ⟨rfl,fZ⟩| ⟨h0,fZ,x0,iq,Vo⟩
 ·refine ak.cE (by simp) ?_
  refine vs ?_
  have:xs.filter (fun x=> !q x)=xs:=by
   rw[aod]
   intro x hx
   rw[fZ x hx];rfl
  rw[this]
  exact⟨s,ai.refl _ _⟩
 obtain⟨i,rfl⟩:∃i:Nat,i0=(i:Int):=⟨i0.toNat,by omega⟩
 rw[Int.toNat_natCast]at fZ iq
 have hi:=(al7.1 iq).1
 refine ak.dec (fun h=>by omega) (fun _=>?_)
 refine vs ?_
 obtain⟨_,b,lb0,rfl,_,_⟩:=Sl.A6 s iq
 have mr:fp=some b:=by
  cases fp with
  |none=>have:=s.2.2;injection this with h1;cases h1
  |some b'=>obtain⟨_,_,h1,_⟩:=s.2;injection h1 with h1;injection h1 with h1;injection h1 with h1;rw[h1]
 subst mr
 have f0:(xs.take (i+1)).filter (fun x=> !q x)=xs.take i:=by
  rw[amG,iq,an3]
  have h1:(xs.take i).filter (fun x=> !q x)=xs.take i:=by
   rw[aod]
   intro x hx
   rw[fZ x hx];rfl
  rw[h1]
  simp[Vo]
 rw[wrap64 (by omega) (by omega)]
 refine bA.intro (fun m env H'=>∃ (i j:Nat) (ys:List Int),m=xs.length - j∧j≤xs.length∧i<j∧i=((xs.take j).filter fun x=> !q x).length∧ys.length=xs.length∧ys.take i=(xs.take j).filter (fun x=> !q x)∧ys.drop j=xs.drop j∧
  Sl H' 1 (.slice (some ⟨b,0,none⟩) xs.length c) xs.length (ys.map i64) (some b)∧ai (fun z=>some b=some z) H H'∧env=[(0,.slice (some ⟨b,0,none⟩) xs.length c),(1,.func (.func f) #[] tu.toArray),(5,i64 i),(6,i64 j)]) _
  ⟨i,i+1,xs,rfl,by omega,by omega,by rw[f0,amS];omega,rfl,f0.symm,rfl,s,ai.refl _ _,rfl⟩ ?_
 clear fZ iq Vo f0 hi h0
 rintro m env H2 ⟨i,j,ys,rfl,hj,KZ,tK,hyl,hyt,Vp,s2,e2,rfl⟩
 obtain⟨_,lb,c2,eR,q2,IL,Q5,Sd⟩:=id s2
 injection eR with _ _ eR
 subst eR
 rw[ama]at Q5 Sd
 refine vs ?_
 refine ak.dec (fun aR=>?_) (fun aR=>?_)<;>refine vs ?_
 ·have kJ:j<xs.length:=by omega
  obtain⟨x,hx⟩:∃x,xs[j]? =some x:=⟨_,al5 kJ⟩
  have qX:ys[j]? =some x:=by
   have h1:(ys.drop j)[0]? =(xs.drop j)[0]? :=by rw[Vp]
   rwa[amF,amF,Nat.add_zero,hx]at h1
  have bE:lb[j]? =some (i64 x):=s2.get q2 (by rw[amo,qX];rfl)
  have tk:xs.take (j+1)=xs.take j++[x]:=by rw[amG,hx];rfl
  have dj:∀zs:List Int,zs.length=xs.length→(∀k,j<k→zs[k]? =ys[k]?)→zs.drop (j+1)=xs.drop (j+1):=fun zs hz hk=>by
   apply amN
   intro k
   have h1:(ys.drop j)[k+1]? =(xs.drop j)[k+1]? :=by rw[Vp]
   rw[amF,amF]at h1 ⊢
   rw[hk _ (by omega),show j+1+k=j+(k+1) by omega]
   exact h1
  refine⟨⟨by omega,by omega⟩,?_⟩
  refine v5 (ae q2) al6 ama Int.toNat_natCast bE ?_
  refine⟨FD,?_⟩
  refine ah.mono (by simpa using hf H2 e2 x) ?_
  rintro _ H3 ⟨rfl,e⟩
  obtain rfl:=e.symm
  refine vs ?_
  cases hq:q x
  ·refine vs ?_
   refine⟨⟨by omega,by omega⟩,?_⟩
   refine v4 q2 al6 ama Int.toNat_natCast ?_
   refine⟨by omega,?_⟩
   have s3:=s2.vX q2 i (i64 x)
   have e3:ai (fun z=>some b=some z) H2 (H2.wr b (lb.set i (i64 x))):=(ai.refl (fun z=>some b=some z) _).wr (fun _=>rfl) _
   refine vs ?_
   rw[wrap64 (n:=(i:Int)+1) (by omega) (by omega),wrap64 (n:=(j:Int)+1) (by omega) (by omega)]
   have ff:(xs.take (j+1)).filter (fun x=> !q x)=(xs.take j).filter (fun x=> !q x)++[x]:=by
    rw[tk,an3]
    simp[hq]
   refine⟨xs.length - (j+1),by omega,i+1,j+1,ys.set i x,rfl,by omega,by omega,by rw[ff,amh,←tK];rfl,by rw[al8];exact hyl,?_,dj _ (by rw[al8];exact hyl) (fun k hk=>by rw[amc (by omega)]),?_,e2.trans e3,rfl⟩
   ·rw[ff,←hyt,amG,amd (by omega),List.take_set_of_le (by omega)]
    rfl
   ·rw[amO];exact s3
  ·refine vs ?_
   rw[wrap64 (n:=(j:Int)+1) (by omega) (by omega)]
   have ff:(xs.take (j+1)).filter (fun x=> !q x)=(xs.take j).filter (fun x=> !q x):=by
    rw[tk,an3]
    simp[hq]
   exact⟨xs.length - (j+1),by omega,i,j+1,ys,rfl,by omega,by omega,by rw[ff];exact tK,hyl,by rw[ff];exact hyt,dj ys hyl (fun k _=>rfl),s2,e2,rfl⟩
 ·obtain rfl:j=xs.length:=by omega
  rw[amB]at hyt tK
  refine⟨⟨by omega,by omega,by omega,by omega⟩,?_⟩
  refine vs ?_
  have hic:¬ (c:Int)=(i:Int):=by omega
  have hlz:(cR [Value.int .i64 0] (xs.length - i)).length=xs.length - i:=by rw[LR];simp
  rw[if_neg hic]
  refine .inr ⟨by simp only[Int.toNat_natCast];omega,b,i,lb,?_,by rw[q2];rfl,?_,?_,?_⟩
  ·simp[Addr.add]
   exact fun h=>h.symm
  ·rw[Int.toNat_natCast,Int.toNat_natCast,LR]
   exact FZ _
  ·rw[Int.toNat_natCast,Int.toNat_natCast]
   show i+(xs.length - i)*1≤lb.length
   omega
  ·rw[Int.toNat_natCast,Int.toNat_natCast]
   have e3:ai (fun z=>some b=some z) H2 (H2.wr b (bq lb i (cR [Value.int .i64 0] (xs.length - i)))):=(ai.refl (fun z=>some b=some z) _).wr (fun _=>rfl) _
   have q3:(H2.wr b (bq lb i (cR [Value.int .i64 0] (xs.length - i)))).own b=some (bq lb i (cR [Value.int .i64 0] (xs.length - i))):=aj q2
   refine vs ?_
   refine⟨⟨by omega,by omega,by omega,by omega⟩,?_⟩
   have rl:¬ (c:Int)=((0:Nat):Int):=by omega
   refine vs ?_
   rw[if_neg rl]
   rw[←hyt]
   refine⟨⟨by simp,bq lb i (cR [Value.int .i64 0] (xs.length - i)),c,?_,q3,?_,?_,?_⟩,e2.trans e3⟩
   ·have h1:(ys.take i).length=i:=by rw[amS];omega
    rw[h1]
    simp[Ni,Addr.add]
   ·rw[amS];omega
   ·rw[nq];omega
   ·rw[ama,amS,an4 (by omega),GX _ _ _ (by rw[hlz];omega),List.map_take,←Sd,an7,an4 (by omega)]
section
variable {H H' : Hp} {B : Ue} {A A' : Ar} {T : Nat → Prop} {x : Int}
theorem Ar.Cy{A A':Ar}{x:Int}(h:A.pick=some (x,A'))(ok:A8 A):(0≤x∧x<A.g.length)∧¬A.live x∧x∉A'.wt∧x<A'.nx∧A'.g=A.g∧A'.ct=A.ct∧A'.mo=A.mo:=by
 have IS:=ok.nx
 unfold Ar.pick at h
 split at h
 ·rename_i aT
  injection h with h
  injection h with h1 h2
  subst h1 h2
  have hw:A.wt=A.wt.dropLast++[A.wt.getLastD 0]:=by
   conv=>lhs;rw[←List.dropLast_concat_getLast aT]
   rw[anw,List.getLast?_eq_some_getLast aT]
   rfl
  have hm:A.wt.getLastD 0∈A.wt:=by rw[hw];simp
  have h5:=ok.wl _ hm
  refine⟨by omega,h5.1,fun hd=>?_,h5.2.1,rfl,rfl,rfl⟩
  have kU:=ok.wd
  rw[hw,amT]at kU
  exact kU.2.2 _ hd _ (by simp) rfl
 ·split at h
  ·cases h
  ·rename_i h1 h2
   injection h with h
   injection h with h3 h4
   subst h3 h4
   refine⟨by omega,ok.fr _ (anT _),fun hm=>?_,by simp only;omega,rfl,rfl,rfl⟩
   have:=ok.wl _ hm
   omega
theorem Ar.qG{A A':Ar}{x y:Int}{v:Nat}{b:Bool}(hx:0≤x∧x<A.g.length)(h:A'.g=A.g.set x.toNat (v,b))(hy:0≤y):A'.live y↔if y=x then b=true else A.live y:=by
 unfold Ar.live
 rw[h]
 by_cases e:y=x
 ·rw[if_pos e,e,amd (by omega)]
  simp[hx.1]
 ·rw[if_neg e,amc (by omega)]
theorem Ar.OU{A A':Ar}{x y:Int}{v:Nat}{b:Bool}(hx:0≤x∧x<A.g.length)(h:A'.g=A.g.set x.toNat (v,b))(hy:0≤y):A'.cf y=if y=x then v else A.cf y:=by
 unfold Ar.cf
 rw[h,al9,al9]
 by_cases e:y=x
 ·rw[if_pos e,e,amd (by omega)];rfl
 ·rw[if_neg e,amc (by omega)]
theorem A8.out{A A':Ar}{x:Int}(ok:A8 A')(hg:A'.g=A.g)(hx:0≤x∧x<A'.g.length)(hl:¬A'.live x)(hw:x∉A'.wt)(hn:x<A'.nx):A8 (A'.out x):=by
 obtain⟨b,hb,HS⟩:=Ar.get hx
 have WB:b=false:=by cases b;rfl;exact absurd (HS.2 rfl) hl
 refine⟨fun y hy=>?_,ok.wd,fun y hy wh=>?_,?_,?_⟩
 ·obtain⟨h1,h2,h3⟩:=ok.wl y hy
  refine⟨fun h=>?_,h2,h3⟩
  rw[Ar.qG (A:=A') hx rfl h3,if_neg (fun e=>hw (by rw[←e];exact hy))]at h
  exact h1 h
 ·have hy0:=wh.1
  have zV:(A'.nx:Int)≤y:=hy
  rw[Ar.qG (A:=A') hx rfl hy0,if_neg (by omega)]at wh
  exact ok.fr y zV wh
 ·have:=count_set hb (A'.cf x+1) true
  rw[WB]at this
  have h2:=ok.ct
  show A'.ct+1=(((A'.g.set x.toNat (A'.cf x+1,true)).countP (·.2):Nat):Int)
  unfold Ar.aY at h2
  simp at this
  omega
 ·show A'.nx≤(A'.g.set x.toNat _).length
  rw[al8];exact ok.nx
theorem A8.back{A:Ar}{x:Int}(ok:A8 A)(hl:A.live x):A8 (A.back x):=by
 have hx:=Ar.Cw hl
 obtain⟨b,hb,HS⟩:=Ar.get hx
 have hbt:=HS.1 hl
 have FY:x<A.nx:=amr fun h=>ok.fr x (by omega) hl
 have YG:x∉A.wt:=fun h=>(ok.wl x h).1 hl
 have YH:¬ (A.back x).live x:=fun h=>by
  rw[Ar.qG (A:=A) hx rfl hx.1,if_pos rfl]at h
  cases h
 have D6:∀y,0≤y→(A.back x).live y→A.live y:=fun y h0 h=>by
  rw[Ar.qG (A:=A) hx rfl h0]at h
  split at h
  ·cases h
  ·exact h
 refine⟨fun y hy=>?_,?_,fun y hy wh=>ok.fr y hy (D6 y wh.1 wh),?_,?_⟩
 ·have zV:y∈(if A.cf x<A.mo then A.wt++[x]else A.wt):=hy
  have KY:y∈A.wt∨y=x:=by
   split at zV
   ·rcases aml.1 zV with h|h
    ·exact .inl h
    ·exact .inr (amg.1 h)
   ·exact .inl zV
  rcases KY with h|h
  ·obtain⟨h1,h2,h3⟩:=ok.wl y h
   exact⟨fun h4=>h1 (D6 y h3 h4),h2,h3⟩
  ·rw[h];exact⟨YH,FY,hx.1⟩
 ·show(if A.cf x<A.mo then A.wt++[x]else A.wt).Nodup
  split
  ·rw[amT]
   refine⟨ok.wd,by simp,fun u hu v hv e=>YG ?_⟩
   rw[amg.1 hv]at e
   rw[←e];exact hu
  ·exact ok.wd
 ·have:=count_set hb (A.cf x) false
  rw[hbt]at this
  have h2:=ok.ct
  show A.ct - 1=(((A.g.set x.toNat (A.cf x,false)).countP (·.2):Nat):Int)
  unfold Ar.aY at h2
  simp at this
  omega
 ·show A.nx≤(A.g.set x.toNat _).length
  rw[al8];exact ok.nx
set_option maxRecDepth 100000 in
theorem FE(m:Kh H B A):ah Tryz.prog Af [ptr B.a] H fun v H'=>ay (
  (A.pick=none∧v= .tuple [i64 0,.bool false].toArray∧H'=H)∨(∃x A',A.pick=some (x,A')∧v= .tuple [i64 x,.bool true].toArray∧Kh H' B A'∧ai (fun z=>z=B.a) H H')):=by
 obtain⟨tv,o1,s1⟩:=m.own
 obtain⟨wa,wc,rfl⟩:=Sl.shape s1
 have hwl:=m.wtl.1
 have dw:=m.len
 have IS:=m.ok.nx
 refine be AG ⟨rfl,?_⟩
 refine v2 jK.eq_1 (ae o1) ?_
 refine ak.dec (fun h0=>?_) (fun h0=>?_)
 ·have aT:A.wt≠[]:=fun h=>by rw[h]at h0;simp at h0
  obtain⟨k,hk⟩:∃k,A.wt.length=k+1:=⟨A.wt.length - 1,by omega⟩
  obtain⟨x,hx⟩:∃x,A.wt[k]? =some x:=⟨_,al5 (by omega)⟩
  have nN:A.wt.getLastD 0=x:=by
   rw[anw,List.getLast?_eq_getElem?,hk,Nat.add_sub_cancel,hx]
   rfl
  have hdl:A.wt.dropLast=A.wt.take k:=by rw[anv,hk,Nat.add_sub_cancel]
  have Vq:A.pick=some (x,{A with wt:=A.wt.take k}):=by
   unfold Ar.pick
   rw[if_pos aT,nN,hdl]
  obtain⟨b,lb,c,PY,Q6,qb,qk,_,_,_⟩:∃b lb c,Value.slice wa A.wt.length wc= .slice (some ⟨b,0,none⟩) A.wt.length c∧B.fo=some b∧H.own b=some lb∧lb[k]? =some (i64 x)∧k<A.wt.length∧A.wt.length≤lb.length∧True:=by
   obtain⟨h1,b,lb,rfl,q2,q3⟩:=Sl.A6 s1 hx
   have vw:=s1
   revert vw
   cases Q6:B.fo with
   |none=>intro vw;have:=vw.2.2;injection this with h1;cases h1
   |some b'=>
    intro vw
    obtain⟨_,Vr,c',hs,ho,hc,zU,_⟩:=vw
    injection hs with eR ON IL
    injection eR with eR
    injection eR with eR
    subst eR IL
    rw[q2]at ho
    injection ho with ho
    subst ho
    exact⟨b,lb,wc,rfl,rfl,q2,q3,h1,by omega,trivial⟩
  injection PY with eR ON IL
  subst eR IL
  obtain⟨_,Vr,c',hs,ho,hc,zU,ht⟩:(A.wt.map i64).length=A.wt.length*1∧∃l c',Value.slice (some ⟨b,0,none⟩) A.wt.length wc= .slice (some ⟨b,0,none⟩) A.wt.length c'∧H.own b=some l∧A.wt.length≤c'∧c'*1≤l.length∧l.take (A.wt.length*1)=A.wt.map i64:=by
   have:=s1
   rw[Q6]at this
   exact this
  injection hs with _ _ hs
  subst hs
  rw[qb]at ho
  injection ho with ho
  subst ho
  rw[ama]at zU ht
  refine v1 (ae o1) ?_
  rw[wrap64 (n:=(A.wt.length:Int) - 1) (by omega) (by omega)]
  refine⟨⟨by omega,by omega⟩,?_⟩
  rw[show((A.wt.length:Int) - 1).toNat=k by omega]
  refine v5 (ae qb) al6 ama qk (ae o1) ?_
  rw[wrap64 (n:=(A.wt.length:Int) - 1) (by omega) (by omega)]
  refine⟨⟨by omega,by omega,by omega,by omega⟩,?_⟩
  refine v1 o1 ?_
  rw[if_neg (show¬ (wc:Int)=((0:Nat):Int) by omega)]
  have e1:∀l,ai (fun z=>z=B.a) H (H.wr B.a l):=fun l=>(ai.refl (fun z=>z=B.a) _).wr (fun _=>rfl) _
  have MT:(A.wt.take k).length=k:=by rw[amS];omega
  refine .inr ⟨x,_,Vq,rfl,⟨⟨_,aj o1,?_⟩,(e1 _).own m.sl (Ne.symm m.ne.1),m.ne,m.len,⟨fun y hy=>m.ok.wl y (List.mem_of_mem_take hy),m.ok.wd.sublist (List.take_sublist _ _),m.ok.fr,m.ok.ct,m.ok.nx⟩,m.gs,m.mo⟩,e1 _⟩
  have hb:b≠B.a:=fun e=>m.ne.2.1 (by rw[Q6,e])
  refine⟨by simp,?_⟩
  rw[Q6]
  refine⟨lb,wc,?_,(e1 _).own qb hb,by rw[MT];omega,by rw[ama];exact zU,?_⟩
  ·rw[MT,show((A.wt.length:Int) - 1).toNat - ((0:Nat):Int).toNat=k by omega]
   simp[Addr.add]
  ·rw[ama,List.map_take,←ht,an7]
   congr 1
   rw[MT]
   omega
 ·refine v1 (ae o1) ?_
  have he:A.wt=[]:=amD.1 (by omega)
  refine ak.dec (fun h1=>?_) (fun h1=>?_)
  ·refine vs ?_
   refine .inl ⟨?_,rfl,rfl⟩
   unfold Ar.pick
   rw[if_neg (by simp[he]),if_pos (by omega)]
  ·refine v2 (ae o1) o1 ?_
   rw[wrap64 (n:=(A.nx:Int)+1) (by omega) (by omega)]
   have e1:∀l,ai (fun z=>z=B.a) H (H.wr B.a l):=fun l=>(ai.refl (fun z=>z=B.a) _).wr (fun _=>rfl) _
   have q1:∀l,(H.wr B.a l).own B.a=some l:=fun l=>aj o1
   simp(disch:=(first|omega| (simp only[Zs]<;>omega)|fail)) only[go_sem, ↓reduceIte,Zv,ae (q1 _)]
   rw[wrap64 (n:=(A.nx:Int)+1 - 1) (by omega) (by omega)]
   have Vq:A.pick=some ((A.nx:Int),{A with nx:=A.nx+1}):=by
    unfold Ar.pick
    rw[if_neg (by simp[he]),if_neg (by omega)]
   rw[show(A.nx:Int)+1 - 1=(A.nx:Int) by omega]
   refine .inr ⟨_,_,Vq,rfl,⟨⟨.slice wa A.wt.length wc,q1 _,s1.ext (e1 _) (fun b hb e=>m.ne.2.1 (by rw[hb,e]))⟩,(e1 _).own m.sl (Ne.symm m.ne.1),m.ne,m.len,⟨fun y hy=>by have:=m.ok.wl y hy;exact⟨this.1,by simp only;omega,this.2.2⟩,m.ok.wd,fun y hy=>m.ok.fr y (by simp only at hy;omega),m.ok.ct,by simp only;omega⟩,m.gs,m.mo⟩,e1 _⟩
theorem Ar.OV(A:Ar):A.aY≤A.g.length:=List.countP_le_length
set_option maxRecDepth 100000 in
set_option maxHeartbeats 1000000 in
theorem FF(m:Kh H B A)(WC:∀x:Int,0≤x→x<A.g.length→A.cf x<4294967295):ah Tryz.prog Ad [ptr B.a] H fun v H'=>ay (
  (A.pick=none∧v= .tuple [kU 0 0,i64 32].toArray∧Kh H' B A∧ax H H')∨(∃x A',A.pick=some (x,A')∧v= .tuple [kU x (A.cf x+1),i64 0].toArray∧Kh H' B (A'.out x)∧ai B.S H H')):=by
 have fH:=m.slt
 refine be AD ⟨rfl,?_⟩
 refine v1 jI.eq_1 ?_
 have f0:ax H (H.new 114 [Value.int .i64 0,Value.int .u32 0]):=(ai.refl _ _).new _ _
 have b0:(H.new 114 [Value.int .i64 0,Value.int .u32 0]).own H.size=some [Value.int .i64 0,Value.int .u32 0]:=aG _ _ _
 have m0:=m.ext f0 (fun _ _ h=>h)
 generalize H.new 114 [Value.int .i64 0,Value.int .u32 0]=H0 at*
 have FG:∀z,B.S z→z≠H.size:=fun z hz=>by have:=fH z hz;omega
 refine(FE m0).mono ?_
 rintro _ H1 (⟨hp,rfl,e⟩| ⟨x,A',hp,rfl,m1,e1⟩)
 ·obtain rfl:=e.symm
  refine v1 b0 ?_
  have e1:ai (fun z=>z=H.size) H0 (H0.wr H.size [Value.int .i64 0,Value.int .u32 0]):=(ai.refl (fun z=>z=H.size) _).wr (fun _=>rfl) _
  have b1:(H0.wr H.size [Value.int .i64 0,Value.int .u32 0]).own H.size=some [Value.int .i64 0,Value.int .u32 0]:=aj b0
  refine v1 (ae b1) ?_
  exact .inl ⟨hp,rfl,m0.ext e1 (fun z hz e=>FG z hz e),f0.then e1 (fun z hz=>by omega)⟩
 obtain⟨xx,rB,YG,FY,hg,hct,hmo⟩:=Ar.Cy hp m.ok
 have b1:=e1.own b0 (fun e=>FG B.a (.inl rfl) e.symm)
 obtain⟨D2,o1,s1⟩:=m1.own
 have dw:=m1.len
 have aan:0≤x∧x<A'.g.length:=by rw[hg];exact xx
 obtain⟨b,hb,HS⟩:=Ar.get (A:=A') aan
 have WD:A'.cf x=A.cf x:=by unfold Ar.cf;rw[hg]
 have hgb:=WC x xx.1 xx.2
 obtain⟨c1,c2⟩:=xt hb
 obtain⟨w1,_⟩:=D3 hb
 have hl:=tn A'.g
 refine v1 (ae o1) ?_
 refine⟨⟨by omega,by omega⟩,?_⟩
 refine v5 (ae m1.sl) m1.sl al6 Nat.add_zero c1 ?_
 refine⟨by omega,?_⟩
 rw[Ug (n:=(A'.cf x:Int)+1) (by omega) (by omega),show(A'.cf x:Int)+1=((A'.cf x+1:Nat):Int) by omega]
 refine v1 w1 ?_
 have e2:ai (fun z=>z=B.sb) H1 (H1.wr B.sb (dv (A'.g.set x.toNat (A'.cf x+1,b)))):=(ai.refl (fun z=>z=B.sb) _).wr (fun _=>rfl) _
 have q2:(H1.wr B.sb (dv (A'.g.set x.toNat (A'.cf x+1,b)))).own B.sb=some (dv (A'.g.set x.toNat (A'.cf x+1,b))):=aj m1.sl
 generalize H1.wr B.sb (dv (A'.g.set x.toNat (A'.cf x+1,b)))=H2 at*
 have GN:(A'.g.set x.toNat (A'.cf x+1,b))[x.toNat]? =some (A'.cf x+1,b):=amd (by omega)
 obtain⟨d1,_⟩:=xt GN
 have w2:=(D3 GN).2 true
 rw[List.set_set]at w2
 have wh:=tn (A'.g.set x.toNat (A'.cf x+1,b))
 rw[al8]at wh
 refine v3 q2 al6 Nat.add_zero ?_
 refine⟨by omega,?_⟩
 refine v1 w2 ?_
 have e3:ai (fun z=>z=B.sb) H2 (H2.wr B.sb (dv (A'.g.set x.toNat (A'.cf x+1,true)))):=(ai.refl (fun z=>z=B.sb) _).wr (fun _=>rfl) _
 have q3:(H2.wr B.sb (dv (A'.g.set x.toNat (A'.cf x+1,true)))).own B.sb=some (dv (A'.g.set x.toNat (A'.cf x+1,true))):=aj q2
 generalize H2.wr B.sb (dv (A'.g.set x.toNat (A'.cf x+1,true)))=H3 at*
 have FA:=e2.trans e3
 have o3:=FA.own o1 m.ne.1
 have aeC:=m1.ok.ct
 have aao:=Ar.OV A'
 refine v2 (ae o3) o3 ?_
 rw[wrap64 (n:=A'.ct+1) (by omega) (by omega)]
 have e4:∀l,ai (fun z=>z=B.a) H3 (H3.wr B.a l):=fun l=>(ai.refl (fun z=>z=B.a) _).wr (fun _=>rfl) _
 have q4:∀l,(H3.wr B.a l).own B.a=some l:=fun l=>aj o3
 have Q7:=(e4 [.slice (some ⟨B.sb,0,none⟩) A'.g.length A'.g.length,D2,i64 A'.nx,i64 (A'.ct+1),.int .u32 (A'.mo:Int)]).own q3 (Ne.symm m.ne.1)
 have b3:=(e4 [.slice (some ⟨B.sb,0,none⟩) A'.g.length A'.g.length,D2,i64 A'.nx,i64 (A'.ct+1),.int .u32 (A'.mo:Int)]).own (FA.own b1 (fun e=>FG B.sb (.inr (.inl rfl)) e.symm)) (fun e=>FG B.a (.inl rfl) e.symm)
 have T9:(A'.g.set x.toNat (A'.cf x+1,true))[x.toNat]? =some (A'.cf x+1,true):=amd (by omega)
 obtain⟨d3,_⟩:=xt T9
 have s4:=(s1.ext FA (fun b hb e=>m.ne.2.2 (by rw[hb,e]))).ext (e4 [.slice (some ⟨B.sb,0,none⟩) A'.g.length A'.g.length,D2,i64 A'.nx,i64 (A'.ct+1),.int .u32 (A'.mo:Int)]) (fun b hb e=>m.ne.2.1 (by rw[hb,e]))
 have m4:Kh (H3.wr B.a [.slice (some ⟨B.sb,0,none⟩) A'.g.length A'.g.length,D2,i64 A'.nx,i64 (A'.ct+1),.int .u32 (A'.mo:Int)]) B (A'.out x):=by
  refine⟨⟨D2,?_,s4⟩,Q7,m.ne,?_,m1.ok.out hg aan (fun h=>rB (by unfold Ar.live at h ⊢;rw[hg]at h;exact h)) YG FY,fun y hy=>?_,m1.mo⟩
  ·show _=some [.slice (some ⟨B.sb,0,none⟩) (A'.g.set x.toNat (A'.cf x+1,true)).length (A'.g.set x.toNat (A'.cf x+1,true)).length,D2,i64 A'.nx,i64 (A'.ct+1),.int .u32 (A'.mo:Int)]
   rw[al8]
   exact q4 _
  ·show(A'.g.set x.toNat (A'.cf x+1,true)).length≤_
   rw[al8];exact dw
  ·rcases anp hy with h|h
   ·exact m1.gs y h
   ·rw[h];simp only;omega
 have e4':=e4 [.slice (some ⟨B.sb,0,none⟩) A'.g.length A'.g.length,D2,i64 A'.nx,i64 (A'.ct+1),.int .u32 (A'.mo:Int)]
 generalize H3.wr B.a [.slice (some ⟨B.sb,0,none⟩) A'.g.length A'.g.length,D2,i64 A'.nx,i64 (A'.ct+1),.int .u32 (A'.mo:Int)]=H4 at*
 have Bw:ai B.S H H4:=((f0.mono fun _ _ h=>h.elim).trans (e1.mono fun z _ h=>.inl h)).trans ((FA.mono fun z _ h=>.inr (.inl h)).trans (e4'.mono fun z _ h=>.inl h))
 refine v5 (ae Q7) al6 Nat.add_zero d3 b3 ?_
 have e5:ai (fun z=>z=H.size) H4 (H4.wr H.size [Value.int .i64 x,Value.int .u32 ((A'.cf x+1:Nat):Int)]):=(ai.refl (fun z=>z=H.size) _).wr (fun _=>rfl) _
 have b5:(H4.wr H.size [Value.int .i64 x,Value.int .u32 ((A'.cf x+1:Nat):Int)]).own H.size=some [Value.int .i64 x,Value.int .u32 ((A'.cf x+1:Nat):Int)]:=aj b3
 refine v1 (ae b5) ?_
 refine .inr ⟨x,A',hp,by rw[WD];rfl,m4.ext e5 (fun z hz e=>FG z hz e),⟨amM Bw.size e5.size,fun z hz hn=>?_⟩⟩
 rw[e5.aN z (amv hz Bw.size) (fun e=>by omega),Bw.aN z hz hn]
set_option maxRecDepth 100000 in
set_option maxHeartbeats 1000000 in
theorem FH(m:Kh H B A){x:Int}(hx:A.live x):ah Tryz.prog Aa [ptr B.a,kU x (A.cf x)] H fun v H'=>ay (v=i64 0∧∃Se,Kh H' ⟨B.a,B.sb,Se⟩ (A.back x)∧ai B.S H H'∧∀z,Se=some z→B.fo=some z∨H.size≤z):=by
 have fH:=m.slt
 have xx:=Ar.Cw hx
 obtain⟨b,hb,HS⟩:=Ar.get (A:=A) xx
 obtain rfl:=HS.1 hx
 have hl:=tn A.g
 have w1:=(D3 hb).2 false
 have dw:=m.len
 have aeC:=m.ok.ct
 have aao:=Ar.OV A
 refine be Ax ⟨rfl,?_⟩
 refine v1 qj.eq_1 ?_
 have f0:ax H (H.new 114 [i64 x,.int .u32 (A.cf x:Int)]):=(ai.refl _ _).new _ _
 have b0:(H.new 114 [i64 x,.int .u32 (A.cf x:Int)]).own H.size=some [i64 x,.int .u32 (A.cf x:Int)]:=aG _ _ _
 have m0:=m.ext f0 (fun _ _ h=>h)
 generalize H.new 114 [i64 x,.int .u32 (A.cf x:Int)]=H0 at*
 have FG:∀z,B.S z→z≠H.size:=fun z hz=>by have:=fH z hz;omega
 refine(vl m0 x (A.cf x)).mono ?_
 rintro _ H1 ⟨rfl,f1⟩
 rw[amj ⟨hx,rfl⟩]
 have m1:=m0.ext f1 (fun _ _ h=>h)
 have b1:=f1.own b0 (fun h=>h)
 obtain⟨D2,o1,s1⟩:=m1.own
 refine v2 (ae o1) (ae b1) ?_
 refine⟨⟨by omega,by omega⟩,?_⟩
 refine v2 m1.sl al6 ?_
 refine⟨by omega,?_⟩
 refine v1 w1 ?_
 have e2:ai (fun z=>z=B.sb) H1 (H1.wr B.sb (dv (A.g.set x.toNat (A.cf x,false)))):=(ai.refl (fun z=>z=B.sb) _).wr (fun _=>rfl) _
 have q2:(H1.wr B.sb (dv (A.g.set x.toNat (A.cf x,false)))).own B.sb=some (dv (A.g.set x.toNat (A.cf x,false))):=aj m1.sl
 generalize H1.wr B.sb (dv (A.g.set x.toNat (A.cf x,false)))=H2 at*
 have o2:=e2.own o1 m.ne.1
 have b2:=e2.own b1 (fun e=>FG B.sb (.inr (.inl rfl)) e.symm)
 refine v2 (ae o2) o2 ?_
 rw[wrap64 (n:=A.ct - 1) (by omega) (by omega)]
 have e3:∀l,ai (fun z=>z=B.a) H2 (H2.wr B.a l):=fun l=>(ai.refl (fun z=>z=B.a) _).wr (fun _=>rfl) _
 have q3:∀l,(H2.wr B.a l).own B.a=some l:=fun l=>aj o2
 have b3:=fun l=>(e3 l).own b2 (fun e=>FG B.a (.inl rfl) e.symm)
 have q2':=fun l=>(e3 l).own q2 (Ne.symm m.ne.1)
 have s3:=fun l=>(s1.ext e2 (fun b hb e=>m.ne.2.2 (by rw[hb,e]))).ext (e3 l) (fun b hb e=>m.ne.2.1 (by rw[hb,e]))
 obtain⟨l3,TB⟩:∃l3,l3=[.slice (some ⟨B.sb,0,none⟩) A.g.length A.g.length,D2,i64 A.nx,i64 (A.ct - 1),.int .u32 (A.mo:Int)]:=⟨_,rfl⟩
 have Q7:=q3 l3
 have WE:=b3 l3
 have Uh:=q2' l3
 have s3':=s3 l3
 have YI:=e3 l3
 rw[TB]at Q7 WE Uh s3' YI
 generalize H2.wr B.a [.slice (some ⟨B.sb,0,none⟩) A.g.length A.g.length,D2,i64 A.nx,i64 (A.ct - 1),.int .u32 (A.mo:Int)]=H3 at*
 have FA:ai B.S H H3:=((f0.mono fun _ _ h=>h.elim).trans (f1.mono fun _ _ h=>h.elim)).trans ((e2.mono fun z _ h=>.inr (.inl h)).trans (YI.mono fun z _ h=>.inl h))
 have uX:=m.ok.back hx
 have hgs:∀y∈(A.back x).g,y.1≤4294967295:=fun y hy=>by
  rcases anp hy with h|h
  ·exact m.gs y h
  ·rw[h]
   exact m.gs (A.cf x,true) (amb hb)
 have bm:(A.back x).g.length=A.g.length:=al8 ..
 refine v2 (ae WE) (ae Q7) ?_
 refine ak.dec (fun hm=>?_) (fun hm=>?_)
 rotate_left
 ·refine vs ?_
  have YJ:(A.back x).wt=A.wt:=by show(if A.cf x<A.mo then _ else _)=_;rw[if_neg (by omega)]
  refine⟨rfl,B.fo,⟨⟨D2,by rw[bm];exact Q7,by rw[YJ];exact s3'⟩,Uh,m.ne,by rw[bm];exact dw,uX,hgs,m.mo⟩,FA,fun z hz=>.inl hz⟩
 have YJ:(A.back x).wt=A.wt++[x]:=by show(if A.cf x<A.mo then _ else _)=_;rw[if_pos (by omega)]
 have hwl:=m.wtl.1
 obtain⟨ta,tc,rfl⟩:=Sl.shape s3'
 refine vs ?_
 refine qZ.intro (fun H'=>True) trivial ?_
 refine vs ?_
 have Wc:H.size<H3.size:=aO WE
 have has:B.a<H3.size:=aO Q7
 have fin:∀ (K:Value→Hp→Prop),(∀w' H4 fL,Sl H4 1 w' (A.wt++[x]).length ((A.wt++[x]).map i64) fL→(fL=B.fo∨∃z,fL=some z∧H3.size≤z∧z<H4.size)→ai (fun z=>B.fo=some z) H3 H4→K w' H4)→
   lR 3 1 8 [i64 0] (.slice ta A.wt.length tc) (.slice (some ⟨H3.size,0,none⟩) 1 1) (H3.new 3 [i64 x]) K:=fun K hK=>by
  exact Sc s3' x (by omega) fun w' H' fL h1 h2 h3=>hK w' H' fL h2 h1 h3
 refine IQ.intro ?C ?D
 case' C=>
  refine v2 (ae Q7) (ae WE) ?_
 case' D=>
  refine v2 (ae Q7) (ae WE) ?_
  refine IQ.intro ?E ?F
  case' E=>
   refine v2 (ae Q7) (ae WE) ?_
  case' F=>
   refine v2 (ae Q7) (ae WE) ?_
 all_goals
  refine fin _ fun w' H4 fL s4 mr e4=>?_
  obtain⟨wa,wc,rfl⟩:=Sl.shape s4
  have o4:=e4.own Q7 (fun e=>m.ne.2.1 e)
  have q4:=e4.own Uh (fun e=>m.ne.2.2 e)
  refine v1 o4 ?_
  have e5:∀l,ai (fun z=>z=B.a) H4 (H4.wr B.a l):=fun l=>(ai.refl (fun z=>z=B.a) _).wr (fun _=>rfl) _
  have aiC:=FA.size
  refine⟨rfl,fL,⟨⟨_,by rw[bm];exact aj o4,?_⟩,(e5 _).own q4 (Ne.symm m.ne.1),⟨m.ne.1,fun h=>?_,fun h=>?_⟩,by rw[bm];exact dw,uX,hgs,m.mo⟩,?_,fun z hz=>?_⟩
  ·rw[YJ]
   refine s4.ext (e5 _) (fun b hb e=>?_)
   rcases mr with h| ⟨y,h,h2,_⟩
   ·exact m.ne.2.1 (by rw[←h,hb,e])
   ·rw[h]at hb;injection hb with hb;omega
  ·rcases mr with h2| ⟨y,h2,h3,_⟩
   ·exact m.ne.2.1 (by rw[←h2];exact h)
   ·rw[h2]at h;injection h with h;simp only at h;omega
  ·rcases mr with h2| ⟨y,h2,h3,_⟩
   ·exact m.ne.2.2 (by rw[←h2];exact h)
   ·have:=aO Uh
    rw[h2]at h;injection h with h;simp only at h;omega
  ·exact(FA.trans (e4.mono fun z _ h=>.inr (.inr h))).trans ((e5 _).mono fun z _ h=>.inl h)
  ·rcases mr with h2| ⟨y,h2,h3,_⟩
   ·exact .inl (by rw[←h2];exact hz)
   ·rw[h2]at hz;injection hz with hz;exact .inr (by omega)
end
end Go.Proofs.YtjlnnljohemifaaGreat

namespace Go.Proofs.YtjlnnljohemifaaGreat
open Go Go.Vc
def Nw.oP(w:Nw)(g x:Int):Prop:=w.has g∧(0≤x∧x<w.cs.length)∧¬cZ w.cs x
def Nw.dc(w:Nw)(x k s:Int):Prop:=cZ w.cs x∧∀y,w.cs[x.toNat]? =some y→¬gu y.2.1 y.2.2 k s
def cC(I:Hp→(Nat→Prop)→Nw→Prop)(S:Nat→Prop)(H H':Hp)(w':Nw):Prop:=
 ∃S':Nat→Prop,I H' S' w'∧ai S H H'∧∀z,S' z→S z∨H.size≤z
theorem cC.same{I:Hp→(Nat→Prop)→Nw→Prop}{S:Nat→Prop}{H H':Hp}{w':Nw}(h:I H' S w')(e:ai S H H'):cC I S H H' w':=⟨S,h,e,fun z hz=>.inl hz⟩
structure zI(ov:Value)(I:Hp→(Nat→Prop)→Nw→Prop):Prop where
 slt:∀ {H S w},I H S w→∀z,S z→z<H.size
 ext:∀ {H H' S w} {T:Nat→Prop},I H S w→ai T H H'→(∀z,S z→¬T z)→I H' S w
 cells:∀ {H S w},I H S w→∃c C,CQ H c C w
 has:∀ {H S w} (g:Int),I H S w→jj Tryz.prog ov "Has" [i64 g] H fun v H'=>v= .bool (decide (w.has g))∧H=H'
 make:∀ {H S w},I H S w→jj Tryz.prog ov "Make" [] H fun v H'=>
  (w.hs.length=65537∧v=i64 0∧cC I S H H' w)∨(w.hs.length≠65537∧v=i64 w.hs.length∧cC I S H H' w.make)
 insert:∀ {H S w} (g x k s:Int),I H S w→jj Tryz.prog ov "Insert" [i64 g,i64 x,vV k s] H fun v H'=>
  (¬w.oP g x∧v= .bool false∧cC I S H H' w)∨(w.oP g x∧v= .bool true∧cC I S H H' (w.put x (g,k,s)))
 min:∀ {H S w} (g:Int),I H S w→jj Tryz.prog ov "Min" [i64 g] H fun v H'=>
  (w.len g=0∧v= .tuple [i64 0,.bool false].toArray∧cC I S H H' w)∨(∃x,w.first g x∧v= .tuple [i64 x,.bool true].toArray∧cC I S H H' w)
 extract:∀ {H S w} (g:Int),I H S w→jj Tryz.prog ov "Extract" [i64 g] H fun v H'=>
  (w.len g=0∧v= .tuple [i64 0,.bool false].toArray∧cC I S H H' w)∨(∃x,w.first g x∧v= .tuple [i64 x,.bool true].toArray∧cC I S H H' (w.put x (0,0,0)))
 qH:∀ {H S w} (x k s:Int),I H S w→jj Tryz.prog ov "Decrease" [i64 x,vV k s] H fun v H'=>
  (¬w.dc x k s∧v= .bool false∧cC I S H H' w)∨(w.dc x k s∧v= .bool true∧∃y,w.cs[x.toNat]? =some y∧cC I S H H' (w.put x (y.1,k,s)))
 entry:∀ {H S w} (x:Int),I H S w→jj Tryz.prog ov "Entry" [i64 x] H fun v H'=>I H' S w∧ax H H'∧
  ((¬cZ w.cs x∧v= .tuple [vV 0 0,.bool false].toArray)∨(cZ w.cs x∧∃y,w.cs[x.toNat]? =some y∧v= .tuple [vV y.2.1 y.2.2,.bool true].toArray))
structure WF(w:Nw)(A:Ar):Prop where
 len:w.cs.length=A.g.length
 live:∀x,cZ w.cs x↔A.live x
def F1(H:Hp)(s:Nat)(S:Nat→Prop)(w:Nw)(A:Ar)(q:Int):Prop:=∃ (t:TypeId) (vv:Value) (I:Hp→(Nat→Prop)→Nw→Prop) (Sn:Nat→Prop) (B:Ue) (k d:Int),
 zI (.iface t vv) I∧I H Sn w∧Kh H B A∧H.own s=some [i64 k,i64 d,ptr B.a,.iface t vv,u64 q]∧(∀z,Sn z→¬B.S z∧z≠s)∧¬B.S s∧(∀z,S z↔Sn z∨B.S z∨z=s)∧WF w A
theorem F1.slt{H:Hp}{s:Nat}{S:Nat→Prop}{w:Nw}{A:Ar}{q:Int}(h:F1 H s S w A q):∀z,S z→z<H.size:=by
 obtain⟨t,vv,I,Sn,B,k,d,n,hi,m,ho,d1,d2,hS,hl⟩:=h
 intro z hz
 rcases(hS z).1 hz with h|h|h
 ·exact n.slt hi z h
 ·exact m.slt z h
 ·rw[h];exact aO ho
theorem F1.ext{H H':Hp}{s:Nat}{S T:Nat→Prop}{w:Nw}{A:Ar}{q:Int}(h:F1 H s S w A q)(e:ai T H H')(hd:∀z,S z→¬T z):F1 H' s S w A q:=by
 obtain⟨t,vv,I,Sn,B,k,d,n,hi,m,ho,d1,d2,hS,hl⟩:=h
 exact⟨t,vv,I,Sn,B,k,d,n,n.ext hi e (fun z hz=>hd z ((hS z).2 (.inl hz))),m.ext e (fun z hz=>hd z ((hS z).2 (.inr (.inl hz)))),e.own ho (hd _ ((hS _).2 (.inr (.inr rfl)))),d1,d2,hS,hl⟩
theorem F1.lnk{H:Hp}{s:Nat}{S:Nat→Prop}{w:Nw}{A:Ar}{q:Int}(h:F1 H s S w A q):WF w A∧A8 A∧A.g.length≤65536:=by
 obtain⟨t,vv,I,Sn,B,k,d,n,hi,m,ho,d1,d2,hS,hl⟩:=h
 exact⟨hl,m.ok,m.len⟩
def PZ(s:Nat)(S:Nat→Prop)(H H':Hp)(w':Nw)(A':Ar)(q':Int):Prop:=∃S',F1 H' s S' w' A' q'∧ai S H H'∧∀z,S' z→S z∨H.size≤z
section
variable {H H' : Hp} {s : Nat} {S : Nat → Prop} {w : Nw} {A : Ar} {q : Int}
theorem MU(H:Hp)(T:TypeId)(z l:List Value):ax H ((H.new T z).wr H.size l)∧((H.new T z).wr H.size l).own H.size=some l∧((H.new T z).wr H.size l).size=H.size+1:=by
 have f0:ax H (H.new T z):=(ai.refl _ _).new _ _
 have e1:ai (fun x=>x=H.size) (H.new T z) ((H.new T z).wr H.size l):=(ai.refl (fun x=>x=H.size) _).wr (fun _=>rfl) _
 exact⟨f0.then e1 (fun z hz=>by omega),aj (aG _ _ _),by rw[gm,au]⟩
theorem Q8{H:Hp}{b:Nat}{l0:List Value}(h:H.own b=some l0)(l:List Value):ai (fun x=>x=b) H (H.wr b l)∧(H.wr b l).own b=some l:=⟨(ai.refl (fun x=>x=b) _).wr (fun _=>rfl) _,aj h⟩
theorem FI(h:F1 H s S w A q)(hl:w.hs.length<65537):ah Tryz.prog zX [ptr s] H fun v H'=>ay (v= .tuple [i64 w.hs.length,i64 0].toArray∧PZ s S H H' w.make A q):=by
 obtain⟨t,vv,I,Sn,B,k,d,n,hi,m,ho,d1,d2,hS,K4⟩:=h
 obtain⟨c,C,cq⟩:=n.cells hi
 have gD:=cq.pos
 refine be Aq ⟨rfl,?_⟩
 refine v2 jB.eq_1 (ae ho) ?_
 refine(n.make hi).mono ?_
 rintro _ H1 (⟨h1,_⟩| ⟨_,rfl,HT,hi',e1,eR⟩)
 ·omega
 refine vs ?_
 refine ak.dec (fun hh=>by omega) (fun _=>?_)
 refine vs ?_
 have EM:=m.slt
 have hos:=aO ho
 refine⟨rfl,fun z=>HT z∨B.S z∨z=s,⟨t,vv,I,HT,B,k,d,n,hi',m.ext e1 (fun z hz h=>(d1 z h).1 hz),e1.own ho (fun h=>(d1 _ h).2 rfl),fun z hz=>?_,d2,fun z=>Iff.rfl,⟨K4.len,K4.live⟩⟩,e1.mono fun z _ h=>(hS z).2 (.inl h),fun z hz=>?_⟩
 ·rcases eR z hz with h|h
  ·exact d1 z h
  ·exact⟨fun h2=>by have:=EM z h2;omega,by omega⟩
 ·rcases hz with h|h
  ·rcases eR z h with h|h
   ·exact .inl ((hS z).2 (.inl h))
   ·exact .inr h
  ·exact .inl ((hS z).2 (.inr h))
theorem WF.put{w:Nw}{A A':Ar}(l:WF w A){x:Int}(hx:0≤x∧x<A.g.length){y:Ce}{v:Nat}(hg:A'.g=A.g.set x.toNat (v,decide (0<y.1))):WF (w.put x y) A':=by
 have GM:0≤x∧x<w.cs.length:=by rw[l.len];exact hx
 refine⟨by rw[hg,al8];simp[Nw.put,l.len],fun z=>?_⟩
 by_cases h0:0≤z
 ·rw[Ar.qG hx hg h0,←bK,eC GM]
  by_cases e:z=x
  ·rw[if_pos e,if_pos e];simp
  ·rw[if_neg e,if_neg e,bK]
   exact l.live z
 ·exact⟨fun h=>absurd h.1 h0,fun h=>absurd h.1 h0⟩
set_option maxRecDepth 100000 in
set_option maxHeartbeats 1000000 in
theorem GY(h:F1 H s S w A q){g key:Int}(hg:w.has g)(WC:∀x:Int,0≤x→x<A.g.length→A.cf x<4294967295)(hq:0≤q∧q<18446744073709551615):ah Tryz.prog BJ [ptr s,i64 g,i64 key] H fun v H'=>ay (
  (A.pick=none∧v= .tuple [kU 0 0,i64 32].toArray∧PZ s S H H' w A q)∨(∃x A',A.pick=some (x,A')∧v= .tuple [kU x (A.cf x+1),i64 0].toArray∧PZ s S H H' (w.put x (g,key,q+1)) (A'.out x) (q+1))):=by
 have fH:=h.slt
 obtain⟨t,vv,I,Sn,B,k,d,n,hi,m,ho,d1,d2,hS,K4⟩:=h
 refine be B0 ⟨rfl,?_⟩
 refine v1 ln.eq_1 ?_
 have f0:ax H (H.new 114 [Value.int .i64 0,Value.int .u32 0]):=(ai.refl _ _).new _ _
 have b0:(H.new 114 [Value.int .i64 0,Value.int .u32 0]).own H.size=some [Value.int .i64 0,Value.int .u32 0]:=aG _ _ _
 have z0:(H.new 114 [Value.int .i64 0,Value.int .u32 0]).size=H.size+1:=au _ _ _
 generalize H.new 114 [Value.int .i64 0,Value.int .u32 0]=H0 at*
 have m0:=m.ext f0 (fun _ _ h=>h)
 have Fw:=n.ext hi f0 (fun _ _ h=>h)
 have o0:=f0.own ho (fun h=>h)
 have aT:∀z,S z→z≠H.size:=fun z hz=>by have:=fH z hz;omega
 refine v1 (ae o0) ?_
 refine(n.has g Fw).mono ?_
 rintro _ _ ⟨rfl,rfl⟩
 rw[amj hg]
 refine v1 (ae o0) ?_
 refine(FF m0 WC).mono ?_
 rintro _ H1 (⟨hp,rfl,m1,f1⟩| ⟨x,A',hp,rfl,m1,e1⟩)
 ·have b1:=f1.own b0 (fun h=>h)
  refine vs ?_
  obtain⟨f2,b2,z2⟩:=MU H1 114 [Value.int .i64 0,Value.int .u32 0] [i64 0,Value.int .u32 ((0:Nat):Int)]
  generalize (H1.new 114 [Value.int .i64 0,Value.int .u32 0]).wr H1.size [i64 0,Value.int .u32 ((0:Nat):Int)]=H2 at*
  have b3:=f2.own b1 (fun h=>h)
  refine ak.dec (fun hh=>by omega) (fun _=>?_)
  refine v1 b3 ?_
  obtain⟨e4,b4⟩:=Q8 b3 [Value.int .i64 0,Value.int .u32 0]
  refine v1 (ae b4) ?_
  have hse:ai S H (H2.wr H.size [Value.int .i64 0,Value.int .u32 0]):=by
   have h1:=(f0.trans f1).trans f2
   exact(h1.then e4 (fun z hz=>by omega)).mono fun _ _ h=>h.elim
  refine .inl ⟨hp,rfl,S,⟨t,vv,I,Sn,B,k,d,n,?_,?_,?_,d1,d2,hS,K4⟩,hse,fun z hz=>.inl hz⟩
  ·exact n.ext (n.ext (n.ext Fw f1 (fun _ _ h=>h)) f2 (fun _ _ h=>h)) e4 (fun z hz=>aT z ((hS z).2 (.inl hz)))
  ·exact(m1.ext f2 (fun _ _ h=>h)).ext e4 (fun z hz=>aT z ((hS z).2 (.inr (.inl hz))))
  ·exact e4.own (f2.own (f1.own o0 (fun h=>h)) (fun h=>h)) (aT s ((hS s).2 (.inr (.inr rfl))))
 ·obtain⟨xx,rB,_,_,hAg,_,_⟩:=Ar.Cy hp m.ok
  have b1:=e1.own b0 (fun h=>aT _ ((hS _).2 (.inr (.inl h))) rfl)
  have o1:=e1.own o0 d2
  have MS:=n.ext Fw e1 (fun z hz=>(d1 z hz).1)
  refine vs ?_
  obtain⟨f2,b2,z2⟩:=MU H1 114 [Value.int .i64 0,Value.int .u32 0] [i64 x,Value.int .u32 ((A.cf x+1:Nat):Int)]
  generalize (H1.new 114 [Value.int .i64 0,Value.int .u32 0]).wr H1.size [i64 x,Value.int .u32 ((A.cf x+1:Nat):Int)]=H2 at*
  have b3:=f2.own b1 (fun h=>h)
  have o2:=f2.own o1 (fun h=>h)
  have oq:=n.ext MS f2 (fun _ _ h=>h)
  have m2:=m1.ext f2 (fun _ _ h=>h)
  refine ak.dec (fun _=>?_) (fun hh=>absurd trivial hh)
  refine v2 (ae o2) o2 ?_
  rw[F2 (n:=q+1) (by omega) (by omega)]
  obtain⟨e4,o3⟩:=Q8 o2 [i64 k,i64 d,ptr B.a,.iface t vv,u64 (q+1)]
  have PE:=aO o2
  have Vs:=e1.size
  have aiE:=aO ho
  have b5:=e4.own b3 (fun e=>aT s ((hS s).2 (.inr (.inr rfl))) e.symm)
  have b6:=e4.own b2 (fun e=>by omega)
  have uU:=n.ext oq e4 (fun z hz=>(d1 z hz).2)
  have m3:=m2.ext e4 (fun z hz e=>d2 (by rw[←e];exact hz))
  generalize H2.wr s [i64 k,i64 d,ptr B.a,.iface t vv,u64 (q+1)]=H3 at*
  refine v2 (ae o3) (ae b6) ?_
  refine(n.insert g x key (q+1) uU).mono ?_
  obtain⟨c,C,cq⟩:=n.cells uU
  have FY:¬cZ w.cs x:=fun h=>rB ((K4.live x).1 h)
  rintro _ H4 (⟨cr,_⟩| ⟨_,rfl,HT,hi4,e5,Sd⟩)
  ·exact absurd ⟨hg,by rw[K4.len];exact xx,FY⟩ cr
  have hz4:=e4.size
  have HU:∀z,H.size≤z→¬Sn z:=fun z hz h=>by have:=fH z ((hS z).2 (.inl h));omega
  have b7:=e5.own b6 (HU _ (by omega))
  have b8:=e5.own b5 (HU _ (ami _))
  refine v2 (ae b7) b8 ?_
  obtain⟨e9,b9⟩:=Q8 b8 [i64 x,Value.int .u32 ((A.cf x+1:Nat):Int)]
  refine v1 (ae b9) ?_
  have o4:=e5.own o3 (fun h=>(d1 _ h).2 rfl)
  have m4:=m3.ext e5 (fun z hz h=>(d1 z h).1 hz)
  have EM:=m.slt
  have hz5:=e5.size
  have FG:∀z,B.S z→z<H.size:=EM
  have LS:∀z,HT z→Sn z∨H.size<z:=fun z hz=>(Sd z hz).imp_right fun h=>by omega
  refine .inr ⟨x,A',hp,rfl,fun z=>HT z∨B.S z∨z=s,⟨t,vv,I,HT,B,k,d,n,n.ext hi4 e9 (fun z hz e=>?_),m4.ext e9 (fun z hz e=>?_),e9.own o4 (aT s ((hS s).2 (.inr (.inr rfl)))),fun z hz=>?_,d2,fun z=>Iff.rfl,?_⟩,?_,fun z hz=>?_⟩
  ·rcases LS z hz with h|h
   ·exact HU z (by omega) h
   ·omega
  ·have:=FG z hz;omega
  ·rcases LS z hz with h|h
   ·exact d1 z h
   ·exact⟨fun h2=>by have:=FG z h2;omega,by omega⟩
  ·refine K4.put xx (v:=A.cf x+1) ?_
   have WD:A'.cf x=A.cf x:=by unfold Ar.cf;rw[hAg]
   show A'.g.set x.toNat (A'.cf x+1,true)=_
   rw[WD,hAg]
   exact amt (fun b=>A.g.set x.toNat (A.cf x+1,b)) (amj hg.1).symm
  ·have h1:ai S H H3:=((f0.mono fun _ _ h=>h.elim).trans (e1.mono fun z _ h=>(hS z).2 (.inr (.inl h)))).trans ((f2.mono fun _ _ h=>h.elim).trans (e4.mono fun z _ h=>(hS z).2 (.inr (.inr h))))
   have h2:=h1.trans (e5.mono fun z _ h=>(hS z).2 (.inl h))
   exact⟨amM h2.size e9.size,fun z hz hn=>by rw[e9.aN z (amv hz h2.size) (by omega),h2.aN z hz hn]⟩
  ·rcases hz with h|h
   ·rcases LS z h with h|h
    ·exact .inl ((hS z).2 (.inl h))
    ·exact .inr (by omega)
   ·exact .inl ((hS z).2 (.inr h))
end
end Go.Proofs.YtjlnnljohemifaaGreat

namespace Go.Proofs.YtjlnnljohemifaaGreat
open Go Go.Vc
section
variable {H H' H1 H2 : Hp} {s : Nat} {S S1 : Nat → Prop} {w w2 : Nw} {A A2 : Ar} {q q2 : Int}
theorem A9(l:WF w A){g x:Int}(h:w.first g x):A.live x:=by
 obtain⟨h1,h2,_⟩:=bN.1 h
 exact(l.live x).1 (bK.1 (by omega))
set_option maxRecDepth 100000 in
theorem IT(h:F1 H s S w A q){g:Int}(hg:w.has g):ah Tryz.prog Dm [ptr s,i64 g] H fun v H'=>ay (
  (w.len g=0∧v= .tuple [kU 0 0,i64 172].toArray∧PZ s S H H' w A q)∨(∃x,w.first g x∧v= .tuple [kU x (A.cf x),i64 0].toArray∧PZ s S H H' w A q)):=by
 have fH:=h.slt
 obtain⟨t,vv,I,Sn,B,k,d,n,hi,m,ho,d1,d2,hS,K4⟩:=h
 refine be Dy ⟨rfl,?_⟩
 refine v1 mL.eq_1 ?_
 have f0:ax H (H.new 114 [Value.int .i64 0,Value.int .u32 0]):=(ai.refl _ _).new _ _
 have b0:(H.new 114 [Value.int .i64 0,Value.int .u32 0]).own H.size=some [Value.int .i64 0,Value.int .u32 0]:=aG _ _ _
 have z0:(H.new 114 [Value.int .i64 0,Value.int .u32 0]).size=H.size+1:=au _ _ _
 generalize H.new 114 [Value.int .i64 0,Value.int .u32 0]=H0 at*
 have m0:=m.ext f0 (fun _ _ h=>h)
 have Fw:=n.ext hi f0 (fun _ _ h=>h)
 have o0:=f0.own ho (fun h=>h)
 have HU:∀z,H.size≤z→¬Sn z:=fun z hz h=>by have:=fH z ((hS z).2 (.inl h));omega
 have FG:∀z,B.S z→z<H.size:=m.slt
 have hos:=aO ho
 refine v1 (ae o0) ?_
 refine(n.has g Fw).mono ?_
 rintro _ _ ⟨rfl,rfl⟩
 rw[amj hg]
 refine v1 (ae o0) ?_
 refine(n.min g Fw).mono ?_
 have fin:∀ (H1 H2:Hp) (HT:Nat→Prop),I H1 HT w→ai Sn H0 H1→(∀z,HT z→Sn z∨H0.size≤z)→ai (fun z=>z=H.size∨H1.size≤z) H1 H2→PZ s S H H2 w A q:=fun H1 H2 HT MS e1 eR e2=>by
  have Vs:=e1.size
  have ez:=e2.size
  refine⟨fun z=>HT z∨B.S z∨z=s,⟨t,vv,I,HT,B,k,d,n,n.ext MS e2 (fun z hz e=>?_),(m0.ext e1 (fun z hz h=>(d1 z h).1 hz)).ext e2 (fun z hz e=>?_),e2.own (e1.own o0 (fun h=>(d1 _ h).2 rfl)) (fun e=>by omega),fun z hz=>?_,d2,fun z=>Iff.rfl,K4⟩,?_,fun z hz=>?_⟩
  ·rcases e with e|e
   ·rcases eR z hz with h|h
    ·exact HU z (by omega) h
    ·omega
   ·have:=n.slt MS z hz;omega
  ·have:=FG z hz;omega
  ·rcases eR z hz with h|h
   ·exact d1 z h
   ·exact⟨fun h2=>by have:=FG z h2;omega,by omega⟩
  ·have h1:ai S H H1:=(f0.mono fun _ _ h=>h.elim).trans (e1.mono fun z _ h=>(hS z).2 (.inl h))
   exact⟨amM h1.size e2.size,fun z hz hn=>by rw[e2.aN z (amv hz h1.size) (by omega),h1.aN z hz hn]⟩
  ·rcases hz with h|h
   ·rcases eR z h with h|h
    ·exact .inl ((hS z).2 (.inl h))
    ·exact .inr (by omega)
   ·exact .inl ((hS z).2 (.inr h))
 rintro _ H1 (⟨h0,rfl,HT,MS,e1,eR⟩| ⟨x,hx,rfl,HT,MS,e1,eR⟩)
 ·have b1:=e1.own b0 (HU _ (ami _))
  refine v1 b1 ?_
  obtain⟨e4,b4⟩:=Q8 b1 [Value.int .i64 0,Value.int .u32 0]
  refine v1 (ae b4) ?_
  exact .inl ⟨h0,rfl,fin H1 _ HT MS e1 eR (e4.mono fun z _ h=>.inl h)⟩
 ·have b1:=e1.own b0 (HU _ (ami _))
  have o1:=e1.own o0 (fun h=>(d1 _ h).2 rfl)
  have m1:=m0.ext e1 (fun z hz h=>(d1 z h).1 hz)
  refine v1 (ae o1) ?_
  refine(IR m1 (A9 K4 hx)).mono ?_
  rintro _ H2 ⟨rfl,f2⟩
  have b2:=f2.own b1 (fun h=>h)
  refine vs ?_
  obtain⟨f3,b3,z3⟩:=MU H2 114 [Value.int .i64 0,Value.int .u32 0] [i64 x,Value.int .u32 ((A.cf x:Nat):Int)]
  generalize (H2.new 114 [Value.int .i64 0,Value.int .u32 0]).wr H2.size [i64 x,Value.int .u32 ((A.cf x:Nat):Int)]=H3 at*
  have b5:=f3.own b2 (fun h=>h)
  refine v2 (ae b3) b5 ?_
  obtain⟨e4,b4⟩:=Q8 b5 [i64 x,Value.int .u32 ((A.cf x:Nat):Int)]
  refine v1 (ae b4) ?_
  exact .inr ⟨x,hx,rfl,fin H1 _ HT MS e1 eR (((f2.trans f3).mono fun _ _ h=>h.elim).trans (e4.mono fun z _ h=>.inl h))⟩
set_option maxRecDepth 100000 in
theorem IU(h:F1 H s S w A q){x:Int}(hx:A.live x):ah Tryz.prog Dn [ptr s,kU x (A.cf x)] H fun v H'=>ay (∃y,w.cs[x.toNat]? =some y∧v= .tuple [vV y.2.1 y.2.2,i64 0].toArray∧PZ s S H H' w A q):=by
 have fH:=h.slt
 obtain⟨t,vv,I,Sn,B,k,d,n,hi,m,ho,d1,d2,hS,K4⟩:=h
 refine be Dz ⟨rfl,?_⟩
 refine v1 sW.eq_1 ?_
 have f0:ax H ((H.new 114 [i64 x,.int .u32 (A.cf x:Int)]).new 224 [Value.int .i64 0,Value.int .u64 0]):=((ai.refl _ _).new _ _).new _ _
 have b0:((H.new 114 [i64 x,.int .u32 (A.cf x:Int)]).new 224 [Value.int .i64 0,Value.int .u64 0]).own H.size=some [i64 x,.int .u32 (A.cf x:Int)]:=by
  rw[cw (by simp only[au];omega),aG]
 have c0:((H.new 114 [i64 x,.int .u32 (A.cf x:Int)]).new 224 [Value.int .i64 0,Value.int .u64 0]).own (H.size+1)=some [Value.int .i64 0,Value.int .u64 0]:=bD (by simp only[au])
 have z0:((H.new 114 [i64 x,.int .u32 (A.cf x:Int)]).new 224 [Value.int .i64 0,Value.int .u64 0]).size=H.size+1+1:=by simp only[au]
 generalize (H.new 114 [i64 x,.int .u32 (A.cf x:Int)]).new 224 [Value.int .i64 0,Value.int .u64 0]=H0 at*
 have m0:=m.ext f0 (fun _ _ h=>h)
 have Fw:=n.ext hi f0 (fun _ _ h=>h)
 have o0:=f0.own ho (fun h=>h)
 have HU:∀z,H.size≤z→¬Sn z:=fun z hz h=>by have:=fH z ((hS z).2 (.inl h));omega
 have FG:∀z,B.S z→z<H.size:=m.slt
 have hos:=aO ho
 refine v2 (ae o0) (ae b0) ?_
 refine(vl m0 x (A.cf x)).mono ?_
 rintro _ H1 ⟨rfl,f1⟩
 rw[amj ⟨hx,rfl⟩]
 have m1:=m0.ext f1 (fun _ _ h=>h)
 have MS:=n.ext Fw f1 (fun _ _ h=>h)
 have o1:=f1.own o0 (fun h=>h)
 have b1:=f1.own b0 (fun h=>h)
 have c1:=f1.own c0 (fun h=>h)
 have z1:=f1.size
 have bS:cZ w.cs x:=(K4.live x).2 hx
 have fin:∀H2,I H2 Sn w→ai (fun z=>z=H.size+1∨H1.size≤z) H1 H2→PZ s S H H2 w A q:=fun H2 oq e2=>by
  have h1:ai S H H1:=(f0.trans f1).mono fun _ _ h=>h.elim
  refine⟨S,⟨t,vv,I,Sn,B,k,d,n,oq,m1.ext e2 (fun z hz e=>by have:=FG z hz;omega),e2.own o1 (fun e=>by omega),d1,d2,hS,K4⟩,⟨amM h1.size e2.size,fun z hz hn=>by rw[e2.aN z (amv hz h1.size) (by omega),h1.aN z hz hn]⟩,fun z hz=>.inl hz⟩
 refine vs ?_
 refine qZ.intro (fun H'=>H'.own s=some [i64 k,i64 d,ptr B.a,.iface t vv,u64 q]∧H'.own H.size=some [i64 x,.int .u32 (A.cf x:Int)]) ⟨o1,b1⟩ ?_
 refine vs ?_
 refine qF.intro (.iface t vv) (fun H' hI=>by refine v1 (ae hI.1) ?_;trivial) ?_
 refine vs ?_
 refine qF.intro (i64 x) (fun H' hI=>by refine v1 (ae hI.2) ?_;trivial) ?_
 refine vs ?_
 refine IQ.intro ?_ ?_
 ·refine vs ?_
  refine(n.entry x MS).mono ?_
  rintro _ H2 ⟨oq,f2,⟨cr,_⟩| ⟨_,y,hy,rfl⟩⟩
  ·exact absurd bS cr
  have o2:=f2.own o1 (fun h=>h)
  have b2:=f2.own b1 (fun h=>h)
  have c2:=f2.own c1 (fun h=>h)
  have z2:=f2.size
  refine And.intro ⟨o2,b2⟩ ?_
  refine vs ?_
  refine And.intro ⟨o2,b2⟩ ?_
  refine vs ?_
  refine And.intro ⟨o2,b2⟩ ?_
  refine vs ?_
  obtain⟨f3,b3,z3⟩:=MU H2 224 [Value.int .i64 0,Value.int .u64 0] [i64 y.2.1,u64 y.2.2]
  generalize (H2.new 224 [Value.int .i64 0,Value.int .u64 0]).wr H2.size [i64 y.2.1,u64 y.2.2]=H3 at*
  have c3:=f3.own c2 (fun h=>h)
  refine v2 (ae b3) c3 ?_
  obtain⟨e4,b4⟩:=Q8 c3 [i64 y.2.1,u64 y.2.2]
  refine v1 (ae b4) ?_
  exact⟨y,hy,rfl,fin _ (n.ext (n.ext oq f3 (fun _ _ h=>h)) e4 (fun z hz e=>HU z (by omega) hz)) (((f2.trans f3).mono fun _ _ h=>h.elim).trans (e4.mono fun z _ h=>.inl h))⟩
 ·refine vs ?_
  refine And.intro ⟨o1,b1⟩ ?_
  have f4:ax H1 (H1.new 224 [Value.int .i64 0,Value.int .u64 0]):=(ai.refl _ _).new _ _
  have b4:(H1.new 224 [Value.int .i64 0,Value.int .u64 0]).own H1.size=some [Value.int .i64 0,Value.int .u64 0]:=aG _ _ _
  have z4:(H1.new 224 [Value.int .i64 0,Value.int .u64 0]).size=H1.size+1:=au _ _ _
  generalize H1.new 224 [Value.int .i64 0,Value.int .u64 0]=H4 at*
  refine vs ?_
  refine(n.entry x (n.ext MS f4 (fun _ _ h=>h))).mono ?_
  rintro _ H2 ⟨oq,f2,⟨cr,_⟩| ⟨_,y,hy,rfl⟩⟩
  ·exact absurd bS cr
  have o2:=f2.own (f4.own o1 (fun h=>h)) (fun h=>h)
  have b2:=f2.own (f4.own b1 (fun h=>h)) (fun h=>h)
  have c2:=f2.own (f4.own c1 (fun h=>h)) (fun h=>h)
  have b5:=f2.own b4 (fun h=>h)
  have z2:=f2.size
  refine And.intro ⟨o2,b2⟩ ?_
  refine v1 b5 ?_
  obtain⟨e6,b6⟩:=Q8 b5 [i64 y.2.1,u64 y.2.2]
  have o6:=e6.own o2 (fun e=>by omega)
  have b26:=e6.own b2 (fun e=>by omega)
  have c6:=e6.own c2 (fun e=>by omega)
  have hn6:=n.ext oq e6 (fun z hz e=>HU z (by omega) hz)
  have e26:ai (fun z=>z=H.size+1∨H1.size≤z) H1 (H2.wr H1.size [i64 y.2.1,u64 y.2.2]):=((f4.trans f2).mono fun _ _ h=>h.elim).trans (e6.mono fun z _ h=>.inr (by omega))
  generalize H2.wr H1.size [i64 y.2.1,u64 y.2.2]=H6 at*
  first
   |refine And.intro ⟨o6,b26⟩ ?_
   |refine And.intro ⟨o2,b2⟩ ?_
  refine v2 (ae b6) c6 ?_
  obtain⟨e7,b7⟩:=Q8 c6 [i64 y.2.1,u64 y.2.2]
  refine v1 (ae b7) ?_
  exact⟨y,hy,rfl,fin _ (n.ext hn6 e7 (fun z hz e=>HU z (by omega) hz)) (e26.trans (e7.mono fun z _ h=>.inl h))⟩
end
end Go.Proofs.YtjlnnljohemifaaGreat

namespace Go.Proofs.YtjlnnljohemifaaGreat
open Go Go.Vc
section
variable {H H' H1 H2 : Hp} {s : Nat} {S S1 : Nat → Prop} {w w2 : Nw} {A A2 : Ar} {q q2 : Int}
theorem F1.tmp{b:Nat}{l:List Value}(h:F1 H1 s S1 w A q)(hb:¬S1 b):F1 (H1.wr b l) s S1 w A q:=h.ext ((ai.refl (fun x=>x=b) _).wr (fun _=>rfl) _:ai (fun x=>x=b) H1 _) (fun z hz e=>hb (by rw[←e];exact hz))
theorem F3(h:F1 H2 s S1 w A q)(e:ai S H H2)(hs:∀z,S1 z→S z∨H.size≤z):PZ s S H H2 w A q:=⟨S1,h,e,hs⟩
theorem F4{b:Nat}{l:List Value}(e:ai S H H1)(hb:H.size≤b):ai S H (H1.wr b l):=by
 have e2:ai (fun x=>x=b) H1 (H1.wr b l):=(ai.refl (fun x=>x=b) _).wr (fun _=>rfl) _
 exact⟨amM e.size e2.size,fun z hz hn=>by rw[e2.aN z (amv hz e.size) (by omega),e.aN z hz hn]⟩
set_option maxRecDepth 100000 in
set_option maxHeartbeats 1000000 in
theorem LU(h:F1 H s S w A q){g:Int}(hg:w.has g):ah Tryz.prog Gk [ptr s,i64 g] H fun v H'=>ay (
  (w.len g=0∧v= .tuple [kU 0 0,i64 0,i64 172].toArray∧PZ s S H H' w A q)∨(∃x y,w.first g x∧w.cs[x.toNat]? =some y∧v= .tuple [kU x (A.cf x),i64 y.2.1,i64 0].toArray∧PZ s S H H' w A q)):=by
 have fH:=h.slt
 have K4:=h.lnk.1
 refine be Gq ⟨rfl,?_⟩
 refine v1 wN.eq_1 ?_
 have f0:ax H (H.new 114 [Value.int .i64 0,Value.int .u32 0]):=(ai.refl _ _).new _ _
 have b0:(H.new 114 [Value.int .i64 0,Value.int .u32 0]).own H.size=some [Value.int .i64 0,Value.int .u32 0]:=aG _ _ _
 have z0:(H.new 114 [Value.int .i64 0,Value.int .u32 0]).size=H.size+1:=au _ _ _
 generalize H.new 114 [Value.int .i64 0,Value.int .u32 0]=H0 at*
 have h0:=h.ext f0 (fun _ _ h=>h)
 have Q9:∀z,H.size≤z→¬S z:=fun z hz h=>by have:=fH z h;omega
 refine(IT h0 hg).mono ?_
 rintro _ H1 (⟨Yy,rfl,S1,h1,e1,eR⟩| ⟨x,hx,rfl,S1,h1,e1,eR⟩)
 ·have b1:=e1.own b0 (Q9 _ (ami _))
  have Vs:=e1.size
  refine vs ?_
  obtain⟨f2,b2,z2⟩:=MU H1 114 [Value.int .i64 0,Value.int .u32 0] [i64 0,Value.int .u32 ((0:Nat):Int)]
  generalize (H1.new 114 [Value.int .i64 0,Value.int .u32 0]).wr H1.size [i64 0,Value.int .u32 ((0:Nat):Int)]=H2 at*
  have b3:=f2.own b1 (fun h=>h)
  refine ak.dec (fun hh=>by omega) (fun _=>?_)
  refine v1 b3 ?_
  obtain⟨e4,b4⟩:=Q8 b3 [Value.int .i64 0,Value.int .u32 0]
  have e2:ai S H H2:=((f0.mono fun _ _ h=>h.elim).trans e1).trans (f2.mono fun _ _ h=>h.elim)
  have Dk:¬S1 H.size:=fun h=>by rcases eR _ h with h|h;exact Q9 _ (ami _) h;omega
  have h3:=((h1.ext f2 (fun _ _ h=>h)).tmp Dk (l:=[Value.int .i64 0,Value.int .u32 0]))
  have e5:=F4 (l:=[Value.int .i64 0,Value.int .u32 0]) e2 (ami H.size)
  refine v1 (ae b4) ?_
  exact .inl ⟨Yy,rfl,F3 h3 e5 (fun z hz=>(eR z hz).imp_right fun h=>by omega)⟩
 ·have b1:=e1.own b0 (Q9 _ (ami _))
  have Vs:=e1.size
  have xu:=A9 K4 hx
  refine vs ?_
  obtain⟨f2,b2,z2⟩:=MU H1 114 [Value.int .i64 0,Value.int .u32 0] [i64 x,Value.int .u32 ((A.cf x:Nat):Int)]
  generalize (H1.new 114 [Value.int .i64 0,Value.int .u32 0]).wr H1.size [i64 x,Value.int .u32 ((A.cf x:Nat):Int)]=H2 at*
  have b3:=f2.own b1 (fun h=>h)
  have h2:=h1.ext f2 (fun _ _ h=>h)
  refine ak.dec (fun _=>?_) (fun hh=>absurd trivial hh)
  refine v1 (ae b2) ?_
  have WG:=h1.slt
  refine(IU h2 xu).mono ?_
  rintro _ H3 ⟨y,hy,rfl,S3,h3,e3,IL⟩
  have Dk:¬S1 H.size:=fun h=>by rcases eR _ h with h|h;exact Q9 _ (ami _) h;omega
  have zD:¬S1 H1.size:=fun h=>by have:=WG _ h;omega
  have b4:=e3.own b3 Dk
  have c4:=e3.own b2 zD
  have WH:=e3.size
  refine vs ?_
  obtain⟨f5,b5,z5⟩:=MU H3 224 [Value.int .i64 0,Value.int .u64 0] [i64 y.2.1,u64 y.2.2]
  generalize (H3.new 224 [Value.int .i64 0,Value.int .u64 0]).wr H3.size [i64 y.2.1,u64 y.2.2]=H5 at*
  have b6:=f5.own b4 (fun h=>h)
  have c6:=f5.own c4 (fun h=>h)
  have h5:=h3.ext f5 (fun _ _ h=>h)
  have hn3:∀b,¬S1 b→b<H2.size→¬S3 b:=fun b hb GN h=>by rcases IL _ h with h|h;exact hb h;omega
  have e5:ai S H H5:=by
   have e2:ai S H H2:=((f0.mono fun _ _ h=>h.elim).trans e1).trans (f2.mono fun _ _ h=>h.elim)
   have YI:ai S H H3:=⟨amM e2.size e3.size,fun z hz hn=>by rw[e3.aN z (amv hz e2.size) (fun h=>by rcases eR z h with h|h;exact hn h;omega),e2.aN z hz hn]⟩
   exact YI.trans (f5.mono fun _ _ h=>h.elim)
  refine qZ.intro (fun H'=>H'.own H3.size=some [i64 y.2.1,u64 y.2.2]) b5 ?_
  refine vs ?_
  refine qF.intro (i64 y.2.1) (fun H' hI=>by refine v1 (ae hI) ?_;trivial) ?_
  refine v1 (ae c6) ?_
  refine And.intro b5 ?_
  refine v1 b6 ?_
  obtain⟨e7,b7⟩:=Q8 b6 [i64 x,Value.int .u32 ((A.cf x:Nat):Int)]
  have b57:=e7.own b5 (fun e=>by omega)
  first
   |refine And.intro b57 ?_
   |refine And.intro b5 ?_
  have h7:=h5.tmp (hn3 _ Dk (by omega)) (l:=[i64 x,Value.int .u32 ((A.cf x:Nat):Int)])
  have e8:=F4 (l:=[i64 x,Value.int .u32 ((A.cf x:Nat):Int)]) e5 (ami H.size)
  refine v1 (ae b7) ?_
  refine .inr ⟨x,y,hx,hy,rfl,F3 h7 e8 (fun z hz=>?_)⟩
  rcases IL z hz with h|h
  ·exact(eR z h).imp_right fun h=>by omega
  ·exact .inr (by omega)
theorem P0{g x x':Int}(h:w.first g x)(h':w.first g x'):x'=x:=by
 obtain⟨_,h2,h3⟩:=bN.1 h
 obtain⟨_,h5,h6⟩:=bN.1 h'
 apply amr
 intro aT
 have:=(aq w).asym (h3 x' h5 aT)
 rw[h6 x h2 (Ne.symm aT)]at this
 cases this
set_option maxRecDepth 100000 in
set_option maxHeartbeats 1000000 in
theorem qI(h:F1 H s S w A q){g:Int}(hg:w.has g):ah Tryz.prog vy [ptr s,i64 g] H fun v H'=>ay (
  (w.len g=0∧v= .tuple [kU 0 0,i64 0,i64 172].toArray∧PZ s S H H' w A q)∨(∃x y,w.first g x∧w.cs[x.toNat]? =some y∧v= .tuple [kU x (A.cf x),i64 y.2.1,i64 0].toArray∧PZ s S H H' (w.put x (0,0,0)) (A.back x) q)):=by
 have fH:=h.slt
 have K4:=h.lnk.1
 refine be vI ⟨rfl,?_⟩
 refine v1 fO.eq_1 ?_
 have f0:ax H (H.new 114 [Value.int .i64 0,Value.int .u32 0]):=(ai.refl _ _).new _ _
 have b0:(H.new 114 [Value.int .i64 0,Value.int .u32 0]).own H.size=some [Value.int .i64 0,Value.int .u32 0]:=aG _ _ _
 have z0:(H.new 114 [Value.int .i64 0,Value.int .u32 0]).size=H.size+1:=au _ _ _
 generalize H.new 114 [Value.int .i64 0,Value.int .u32 0]=H0 at*
 have h0:=h.ext f0 (fun _ _ h=>h)
 have Q9:∀z,H.size≤z→¬S z:=fun z hz h=>by have:=fH z h;omega
 refine(LU h0 hg).mono ?_
 rintro _ H1 (⟨Yy,rfl,S1,h1,e1,eR⟩| ⟨x,y,hx,hy,rfl,S1,h1,e1,eR⟩)
 ·have b1:=e1.own b0 (Q9 _ (ami _))
  have Vs:=e1.size
  refine vs ?_
  obtain⟨f2,b2,z2⟩:=MU H1 114 [Value.int .i64 0,Value.int .u32 0] [i64 0,Value.int .u32 ((0:Nat):Int)]
  generalize (H1.new 114 [Value.int .i64 0,Value.int .u32 0]).wr H1.size [i64 0,Value.int .u32 ((0:Nat):Int)]=H2 at*
  have b3:=f2.own b1 (fun h=>h)
  refine ak.dec (fun hh=>by omega) (fun _=>?_)
  refine v1 b3 ?_
  obtain⟨e4,b4⟩:=Q8 b3 [Value.int .i64 0,Value.int .u32 0]
  have e2:ai S H H2:=((f0.mono fun _ _ h=>h.elim).trans e1).trans (f2.mono fun _ _ h=>h.elim)
  have Dk:¬S1 H.size:=fun h=>by rcases eR _ h with h|h;exact Q9 _ (ami _) h;omega
  have h3:=((h1.ext f2 (fun _ _ h=>h)).tmp Dk (l:=[Value.int .i64 0,Value.int .u32 0]))
  have e5:=F4 (l:=[Value.int .i64 0,Value.int .u32 0]) e2 (ami H.size)
  refine v1 (ae b4) ?_
  exact .inl ⟨Yy,rfl,F3 h3 e5 (fun z hz=>(eR z hz).imp_right fun h=>by omega)⟩
 ·have b1:=e1.own b0 (Q9 _ (ami _))
  have Vs:=e1.size
  have xu:=A9 K4 hx
  refine vs ?_
  obtain⟨f2,b2,z2⟩:=MU H1 114 [Value.int .i64 0,Value.int .u32 0] [i64 x,Value.int .u32 ((A.cf x:Nat):Int)]
  generalize (H1.new 114 [Value.int .i64 0,Value.int .u32 0]).wr H1.size [i64 x,Value.int .u32 ((A.cf x:Nat):Int)]=H2 at*
  have b3:=f2.own b1 (fun h=>h)
  have WG:=h1.slt
  have h2:=h1.ext f2 (fun _ _ h=>h)
  have Dk:¬S1 H.size:=fun h=>by rcases eR _ h with h|h;exact Q9 _ (ami _) h;omega
  have zD:¬S1 H1.size:=fun h=>by have:=WG _ h;omega
  obtain⟨t,vv,I,Sn,B,k,d,n,hi,m,ho,d1,d2,hS,_⟩:=h2
  refine ak.dec (fun _=>?_) (fun hh=>absurd trivial hh)
  refine v1 (ae ho) ?_
  refine(n.extract g hi).mono ?_
  have FG:∀z,B.S z→z<H2.size:=m.slt
  have hos:=aO ho
  rintro _ H3 (⟨Yy,_⟩| ⟨x',xi,rfl,HT,uU,e3,IL⟩)
  ·exfalso
   obtain⟨Sf,OW,_⟩:=bN.1 hx
   exact(xk Sf).1 Yy x OW
  obtain rfl:=P0 hx xi
  have ho3:=e3.own ho (fun h=>(d1 _ h).2 rfl)
  have b4:=e3.own b3 (fun h=>Dk ((hS _).2 (.inl h)))
  have c4:=e3.own b2 (fun h=>zD ((hS _).2 (.inl h)))
  have m3:=m.ext e3 (fun z hz h=>(d1 z h).1 hz)
  have WH:=e3.size
  refine v2 (ae ho3) (ae c4) ?_
  refine(FH m3 xu).mono ?_
  rintro _ H4 ⟨rfl,Se,m4,e4,Q6⟩
  have nB1:¬B.S H.size:=fun h=>Dk ((hS _).2 (.inr (.inl h)))
  have nB2:¬B.S H1.size:=fun h=>zD ((hS _).2 (.inr (.inl h)))
  have b5:=e4.own b4 nB1
  have c5:=e4.own c4 nB2
  have ho4:=e4.own ho3 d2
  have hz4:=e4.size
  refine v2 (ae c5) b5 ?_
  obtain⟨e6,b6⟩:=Q8 b5 [i64 x',Value.int .u32 ((A.cf x':Nat):Int)]
  refine v1 (ae b6) ?_
  have LS:∀z,HT z→Sn z∨H2.size≤z:=IL
  have hB':∀z,(Ue.mk B.a B.sb Se).S z→B.S z∨H3.size≤z:=fun z hz=>by
   rcases hz with h|h|h
   ·exact .inl (.inl h)
   ·exact .inl (.inr (.inl h))
   ·exact(Q6 z h).imp_left fun h=>.inr (.inr h)
  have hiT:I H4 HT (w.put x' (0,0,0)):=n.ext uU e4 (fun z hz hb=>by
   rcases LS z hz with h|h
   ·exact(d1 z h).1 hb
   ·have:=FG z hb;omega)
  have aat:=fun z hz=>n.slt uU z hz
  have nn1:∀b,¬S1 b→b<H2.size→¬HT b∧¬ (Ue.mk B.a B.sb Se).S b:=fun b hb GN=>by
   refine⟨fun h=>?_,fun h=>?_⟩
   ·rcases LS b h with h|h
    ·exact hb ((hS b).2 (.inl h))
    ·omega
   ·rcases hB' b h with h|h
    ·exact hb ((hS b).2 (.inr (.inl h)))
    ·omega
  have aeF:H.size≠s:=fun e=>Dk ((hS _).2 (.inr (.inr e)))
  have xx:=Ar.Cw xu
  have uB:F1 H4 s (fun z=>HT z∨(Ue.mk B.a B.sb Se).S z∨z=s) (w.put x' (0,0,0)) (A.back x') q:=by
   refine⟨t,vv,I,HT,⟨B.a,B.sb,Se⟩,k,d,n,hiT,m4,ho4,fun z hz=>?_,fun h=>?_,fun z=>Iff.rfl,K4.put xx rfl⟩
   ·rcases LS z hz with h|h
    ·refine⟨fun hb=>?_,(d1 z h).2⟩
     rcases hB' z hb with h2|h2
     ·exact(d1 z h).1 h2
     ·have:=aat z hz;omega
    ·refine⟨fun hb=>?_,fun e=>by omega⟩
     rcases hB' z hb with h2|h2
     ·have:=FG z h2;omega
     ·have:=aat z hz;omega
   ·rcases hB' _ h with h2|h2
    ·exact d2 h2
    ·omega
  have aeG:=uB.tmp (b:=H.size) (l:=[i64 x',Value.int .u32 ((A.cf x':Nat):Int)]) (fun h=>by
   obtain⟨q1,q2⟩:=nn1 _ Dk (by omega)
   rcases h with h|h|h
   ·exact q1 h
   ·exact q2 h
   ·exact aeF h)
  have e04:ai S H H4:=by
   have e2:ai S H H2:=((f0.mono fun _ _ h=>h.elim).trans e1).trans (f2.mono fun _ _ h=>h.elim)
   exact⟨by have:=e2.size;omega,fun z hz hn=>by
    have ez:=e2.size
    have OX:¬S1 z:=fun h=>by rcases eR z h with h|h;exact hn h;omega
    rw[e4.aN z (by omega) (fun h=>OX ((hS z).2 (.inr (.inl h)))),e3.aN z (by omega) (fun h=>OX ((hS z).2 (.inl h))),e2.aN z hz hn]⟩
  have ez:=f2.size
  refine .inr ⟨x',y,hx,hy,rfl,F3 aeG (F4 e04 (ami _)) (fun z hz=>?_)⟩
  have KY:S1 z∨H2.size≤z:=by
   rcases hz with h|h|h
   ·rcases LS z h with h|h
    ·exact .inl ((hS z).2 (.inl h))
    ·exact .inr h
   ·rcases hB' z h with h|h
    ·exact .inl ((hS z).2 (.inr (.inl h)))
    ·exact .inr (by omega)
   ·exact .inl ((hS z).2 (.inr (.inr h)))
  rcases KY with h|h
  ·exact(eR z h).imp_right fun h=>by omega
  ·exact .inr (by omega)
end
end Go.Proofs.YtjlnnljohemifaaGreat

namespace Go.Proofs.YtjlnnljohemifaaGreat
open Go Go.Vc
abbrev NB(kd dd:Int):Value:=.agg [i64 kd,i64 dd].toArray
def l9(kd dd:Int):Prop:=(1≤kd∧kd≤8)∧((kd=2∧2≤dd∧dd≤16)∨(kd≠2∧dd=0))
instance(kd dd:Int):Decidable (l9 kd dd):=by unfold l9;exact inferInstance
def Ra(kd dd:Int):Int:=if kd<1∨8<kd then 21 else if l9 kd dd then 0 else 22
theorem Sg{kd dd:Int}(h:kd<1∨8<kd):Ra kd dd=21:=by unfold Ra;rw[if_pos h]
theorem NC{kd dd:Int}(h:l9 kd dd):Ra kd dd=0:=by
 have:=h.1
 unfold Ra
 rw[if_neg (by omega),if_pos h]
theorem Sh{kd dd:Int}(h1:¬ (kd<1∨8<kd))(h:¬l9 kd dd):Ra kd dd=22:=by unfold Ra;rw[if_neg h1,if_neg h]
theorem LV{kd dd:Int}:Ra kd dd=0↔l9 kd dd:=by
 constructor
 ·intro h
  apply amr
  intro hn
  by_cases h1:kd<1∨8<kd
  ·rw[Sg h1]at h;cases h
  ·rw[Sh h1 hn]at h;cases h
 ·exact NC
theorem qJ(kd dd:Int)(H:Hp):ah Tryz.prog Ig [NB kd dd] H fun v H'=>ay (v=i64 (Ra kd dd)∧ax H H'):=by
 refine be It ⟨rfl,?_⟩
 refine v1 rR.eq_1 ?_
 have f0:ax H (H.new 23 [i64 kd,i64 dd]):=(ai.refl _ _).new _ _
 repeat' (refine ak.dec (fun _=>?_) (fun _=>?_)<;>try(refine v1 amp ?_))
 all_goals
  first
   | (exfalso;omega)
   | (refine⟨?_,f0⟩;exact(amt i64 (Sg (by omega))).symm)
   | (refine⟨?_,f0⟩;exact(amt i64 (NC (by unfold l9;omega))).symm)
   | (refine⟨?_,f0⟩;exact(amt i64 (Sh (by omega) (by unfold l9;omega))).symm)
theorem GZ(kd dd:Int)(H:Hp):ah Tryz.prog Ie [NB kd dd] H fun v H'=>ay (v=i64 (Ra kd dd)∧ax H H'):=by
 refine be Ir ⟨rfl,?_⟩
 refine v1 rP.eq_1 ?_
 have f0:ax H (H.new 23 [i64 kd,i64 dd]):=(ai.refl _ _).new _ _
 repeat' (refine ak.dec (fun _=>?_) (fun _=>?_)<;>try(refine v1 amp ?_))
 all_goals
  first
   | (exfalso;omega)
   | (refine⟨?_,f0⟩;exact(amt i64 (Sg (by omega))).symm)
   | (refine⟨?_,f0⟩;exact(amt i64 (NC (by unfold l9;omega))).symm)
   | (refine⟨?_,f0⟩;exact(amt i64 (Sh (by omega) (by unfold l9;omega))).symm)
theorem mc{kd dd:Int}(hf:l9 kd dd)(hk:kd=1∨kd=2)(H:Hp):ah Tryz.prog Ih [NB kd dd] H fun v H'=>ay (v=i64 (if kd=1 then 2 else dd)∧ax H H'):=by
 refine be Iu ⟨rfl,?_⟩
 refine v1 rS.eq_1 ?_
 have f0:ax H (H.new 23 [i64 kd,i64 dd]):=(ai.refl _ _).new _ _
 have o0:(H.new 23 [i64 kd,i64 dd]).own H.size=some [i64 kd,i64 dd]:=aG _ _ _
 generalize H.new 23 [i64 kd,i64 dd]=H0 at*
 refine(qJ kd dd H0).mono ?_
 rintro _ H1 ⟨rfl,f1⟩
 have o1:=f1.own o0 (fun h=>h)
 rw[NC hf]
 refine v2 (ae o1) amp ?_
 rcases hk with rfl|rfl
 ·refine ak.cE (by decide) ?_
  refine v2 (ae o1) amp ?_
  exact⟨rfl,f0.trans f1⟩
 ·refine ak.aX (by decide) ?_
  refine v2 (ae o1) amp ?_
  exact⟨rfl,f0.trans f1⟩
structure Si(w:Nw)(L:List Lk)(tops:List Int):Prop where
 bt:BB (aH w) (aV w) (bj L) (bu L) (br tops)
 tl:tops.length=w.hs.length
def dH(n:Nat)(H:Hp)(S:Nat→Prop)(w:Nw):Prop:=∃ (B:LB) (C:Nat→Prop) (L:List Lk) (rs tops:List Int),B.n=n∧c7 H B C w L rs tops∧Si w L tops∧∀z,S z↔B.S C z
theorem dH.slt{n:Nat}{H:Hp}{S:Nat→Prop}{w:Nw}(h:dH n H S w):∀z,S z→z<H.size:=by
 obtain⟨B,C,L,rs,tops,rfl,m,l,hS⟩:=h
 exact fun z hz=>m.slt z ((hS z).1 hz)
theorem dH.ext{n:Nat}{H H':Hp}{S T:Nat→Prop}{w:Nw}(h:dH n H S w)(e:ai T H H')(hd:∀z,S z→¬T z):dH n H' S w:=by
 obtain⟨B,C,L,rs,tops,rfl,m,l,hS⟩:=h
 exact⟨B,C,L,rs,tops,rfl,m.ext e (fun z hz=>hd z ((hS z).2 hz)),l,hS⟩
set_option maxRecDepth 100000 in
theorem zq{n:Nat}{H:Hp}{S:Nat→Prop}{w:Nw}(h:dH n H S w)(g x k s:Int):ah Tryz.prog mC [ptr n,i64 g,i64 x,vV k s] H fun v H'=>ay (
  (¬w.oP g x∧v= .bool false∧cC (dH n) S H H' w)∨(w.oP g x∧v= .bool true∧cC (dH n) S H H' (w.put x (g,k,s)))):=by
 obtain⟨B,C,L,rs,tops,rfl,m,l,hS⟩:=h
 refine be vQ ⟨rfl,?_⟩
 refine v1 mF.eq_1 ?_
 have f0:ax H (H.new 224 [i64 k,u64 s]):=(ai.refl _ _).new _ _
 have b0:(H.new 224 [i64 k,u64 s]).own H.size=some [i64 k,u64 s]:=aG _ _ _
 have m0:=m.fresh f0
 generalize H.new 224 [i64 k,u64 s]=H0 at*
 obtain⟨tv,Ki,_⟩:=m0.own
 refine v2 (ae Ki) (ae b0) ?_
 refine(nS m0.cells g x k s).mono ?_
 rintro _ H1 (⟨cr,rfl,c1,e1⟩| ⟨tw,rfl,c1,e1⟩)
 ·refine vs ?_
  exact .inl ⟨cr,rfl,cC.same ⟨B,C,L,rs,tops,rfl,m0.aK c1 e1 rfl,l,hS⟩ ((f0.mono fun _ _ h=>h.elim).trans (e1.mono fun z _ hz=>(hS z).2 (.inl hz)))⟩
 obtain⟨hh,hx,bS⟩:=id tw
 have m1:=m0.aK c1 e1 (by simp[Nw.put])
 have bm:=m1.len
 have rB:(w.put x (g,k,s)).cs.length=w.cs.length:=by simp[Nw.put]
 obtain⟨D2,o1,_⟩:=m1.own
 refine v1 (ae o1) ?_
 refine⟨⟨by omega,by omega⟩,?_⟩
 refine v3 m1.D1 al6 ama ?_
 refine⟨by rw[amu];omega,?_⟩
 refine vs ?_
 obtain⟨m2,e2⟩:c7 (H1.wr B.rk ((rs.map i64).set x.toNat (Value.int .i64 1))) B C _ L (rs.set x.toNat 1) tops∧ai (fun z=>z=B.rk) H1 (H1.wr B.rk ((rs.map i64).set x.toNat (Value.int .i64 1))):=m1.Ny x.toNat 1
 generalize H1.wr B.rk ((rs.map i64).set x.toNat (Value.int .i64 1))=H2 at*
 obtain⟨cc,lt,o2,q2,De,zC,OY⟩:=m2.hZ
 refine qZ.intro (fun H'=>H'.own B.n=some [ptr B.c,ptr B.t,.slice (some ⟨B.rk,0,none⟩) (rs.set x.toNat 1).length (rs.set x.toNat 1).length,.slice (some ⟨B.tp,0,none⟩) tops.length cc]) o2 ?_
 refine vs ?_
 refine qF.intro (.slice (some ⟨B.tp,0,none⟩) tops.length cc) (fun H' hI=>by refine v1 (ae hI) ?_;trivial) ?_
 refine v1 (ae o2) ?_
 have hg:=hh.1
 have dw:g<tops.length:=by
  have:=(al7.1 hh.2).1
  have:=l.tl
  omega
 have q3:=m2.fB q2 (dW (tops:=tops) (h:=g) (by omega) dw)
 have cU:=fun y=>eC hx (g,k,s) y
 have bo:TO (aH (w.put x (g,k,s))) (aV (w.put x (g,k,s))) (bj L) (bu L) (br tops) g x:=by
  refine l.bt.ins rfl (Int.not_lt.1 fun h=>bS (bK.1 h)) (by omega) (by omega) (by rw[cU,if_pos rfl]) (fun y hy=>by rw[cU,if_neg hy]) (fun a b ha hb tM pt=>dG hx _ ha hb tM pt)
 refine And.intro o2 ?_
 refine vs ?_
 refine⟨⟨by omega,by omega⟩,?_⟩
 refine v4 (ae q2) al6 ama q3 ?_
 refine And.intro o2 ?_
 refine vs ?_
 refine(j7 m2 bo.mg).mono ?_
 rintro _ H3 ⟨r,L3,rs3,rfl,m3,g3,_,e3⟩
 have bn:=bo.done g3
 obtain⟨d1,d2,d3,d4⟩:=m2.qY.1
 have no:¬ (C B.n∨B.n=B.tl∨B.n=B.rk):=by rintro(h|h|h);exact m2.out.1 h;omega;omega
 refine And.intro (e3.own o2 no) ?_
 have q4:=e3.own q2 (by obtain⟨_,⟨_,_,d7⟩,⟨_,d9⟩,d10⟩:=m2.qY;rintro(h|h|h);exact m2.out.2.2.2.2 h;omega;omega)
 refine vs ?_
 refine⟨⟨by omega,by omega⟩,?_⟩
 refine v3 q4 al6 ama ?_
 refine⟨by omega,?_⟩
 obtain⟨m4,e4⟩:=m3.nV q4 g.toNat r
 refine And.intro (e4.own (e3.own o2 no) d4) ?_
 refine vs ?_
 refine .inr ⟨tw,rfl,B.S C,⟨B,C,L3,rs3,_,rfl,m4,⟨?_,by rw[al8];exact l.tl⟩,fun z=>Iff.rfl⟩,?_,fun z hz=>.inl ((hS z).2 hz)⟩
 ·rw[eU (by omega) dw]
  exact bn
 ·have hC:∀z,C z→S z:=fun z h=>(hS z).2 (.inl h)
  have h1:S B.tl:=(hS _).2 (.inr (.inr (.inr (.inl rfl))))
  have h2:S B.rk:=(hS _).2 (.inr (.inr (.inr (.inr (.inl rfl)))))
  have h3:S B.tp:=(hS _).2 (.inr (.inr (.inr (.inr (.inr rfl)))))
  exact(((((f0.mono fun _ _ h=>h.elim).trans (e1.mono fun z _ h=>hC z h)).trans (e2.mono fun z _ h=>h▸h2)).trans (e3.mono fun z _ h=>by rcases h with h|rfl|rfl;exact hC z h;exact h1;exact h2)).trans (e4.mono fun z _ h=>h▸h3))
theorem BB.none{hm:Int→Int}{lt:Int→Int→Bool}{K:Int→Bool→Int}{U T:Int→Int}(h0:hm (-1)=0)(hh:∀x,¬0<hm x)(hk:∀x c,K x c= -1)(hu:∀x,U x= -1)(ht:∀g,T g= -1):BB hm lt K U T:=
 ⟨⟨h0,fun p c x h hx=>absurd (h.symm.trans (hk p c)) hx,fun x p h hp=>absurd (h.symm.trans (hu x)) hp,fun p _=>hk p _⟩,fun g h=>absurd (ht g) h,fun x hx=>absurd hx (hh x)⟩
theorem Cz(n:Nat)(x:Int)(c:Bool):bj (List.replicate n mw) x c= -1:=by
 by_cases h:0≤x∧x< (List.replicate n mw).length
 ·have h2:=h.2
  rw[amV]at h2
  rw[sf (y:=mw) h.1 (by rw[am9,if_pos (by omega)])]
  cases c<;>rfl
 ·exact R7 h c
theorem G0(n:Nat)(x:Int):bu (List.replicate n mw) x= -1:=by
 by_cases h:0≤x∧x< (List.replicate n mw).length
 ·have h2:=h.2
  rw[amV]at h2
  rw[xo (y:=mw) h.1 (by rw[am9,if_pos (by omega)])]
  rfl
 ·exact Nv h
def CA(cap:Int):Nw:=⟨[false],List.replicate cap.toNat (0,0,0)⟩
theorem nX(cap:Int)(x:Int):¬0<aH (CA cap) x:=by
 intro h
 obtain⟨h1,h2,e,he⟩:=aF h
 have h3:(List.replicate cap.toNat ((0,0,0):Ce))[x.toNat]? =some (aH (CA cap) x,e):=he
 have:=anX (amb h3)
 injection this with h4 h5
 omega
theorem D7(g:Int):br [-1] g= -1:=by
 unfold br
 split
 ·rw[al9]
  rcases hg:g.toNat with _|k
  ·rfl
  ·rfl
 ·rfl
theorem xz(k:Nat):cR [Value.int .i64 0] k=(List.replicate k (0:Int)).map i64:=by
 induction k with
 |zero=>rfl
 |succ k ih=>simp only[cR,amR,am7,amL]at*;rw[ih];rfl
theorem D8(cap:Int)(H:Hp):ah Tryz.prog Ij [i64 cap] H fun v H'=>ay (
  ax H H'∧((¬ (0≤cap∧cap≤65536)∧v= .tuple [.pointer none,i64 31].toArray)∨
   ((0≤cap∧cap≤65536)∧∃n S,v= .tuple [ptr n,i64 0].toArray∧dH n H' S (CA cap)∧∀x,S x→H.size≤x))):=by
 refine be Iw ⟨rfl,?_⟩
 refine v1 rV.eq_1 ?_
 refine(nT cap H).mono ?_
 rintro _ H1 ⟨f1,⟨hb,rfl⟩| ⟨hb,c,C,rfl,c1,hC⟩⟩
 ·refine vs ?_
  exact⟨f1,.inl ⟨hb,rfl⟩⟩
 refine v1 amp ?_
 refine(xp H1 hb).mono ?_
 rintro _ H2 ⟨t,tl,rfl,t2,f2,ht,MT⟩
 refine vs ?_
 refine⟨⟨by omega,by omega,by omega,by omega⟩,?_⟩
 refine vs ?_
 rw[xz]
 have zF:=c1.slt
 have z1:=f1.size
 have z2:=f2.size
 have HV:=aO t2.own
 have WI:=aO t2.nU
 have f3:ax H2 (((H2.new 3 ((List.replicate cap.toNat (0:Int)).map i64)).new 3 [Value.int .i64 (-1)]).new 279 [ptr c,ptr t,.slice (some ⟨H2.size,0,none⟩) cap.toNat cap.toNat,.slice (some ⟨H2.size+1,0,none⟩) 1 1]):=(((ai.refl _ _).new _ _).new _ _).new _ _
 have e1:ai (fun _=>False) (H2.new 3 ((List.replicate cap.toNat (0:Int)).map i64)) (((H2.new 3 ((List.replicate cap.toNat (0:Int)).map i64)).new 3 [Value.int .i64 (-1)]).new 279 [ptr c,ptr t,.slice (some ⟨H2.size,0,none⟩) cap.toNat cap.toNat,.slice (some ⟨H2.size+1,0,none⟩) 1 1]):=((ai.refl _ _).new _ _).new _ _
 have e2:ai (fun _=>False) ((H2.new 3 ((List.replicate cap.toNat (0:Int)).map i64)).new 3 [Value.int .i64 (-1)]) (((H2.new 3 ((List.replicate cap.toNat (0:Int)).map i64)).new 3 [Value.int .i64 (-1)]).new 279 [ptr c,ptr t,.slice (some ⟨H2.size,0,none⟩) cap.toNat cap.toNat,.slice (some ⟨H2.size+1,0,none⟩) 1 1]):=(ai.refl _ _).new _ _
 have ft:=f1.trans (f2.trans f3)
 refine⟨ft,.inr ⟨hb,H2.size+1+1,(LB.mk (H2.size+1+1) c t tl H2.size (H2.size+1)).S C,rfl,⟨⟨H2.size+1+1,c,t,tl,H2.size,H2.size+1⟩,C,_,List.replicate cap.toNat 0,[-1],rfl,
  ⟨⟨.slice (some ⟨H2.size+1,0,none⟩) 1 1,?_,?_⟩,c1.fresh (f2.trans f3),t2.fresh f3,?_,?_,?_,?_⟩,⟨BB.none rfl (nX cap) (Cz _) (G0 _) D7,rfl⟩,fun z=>Iff.rfl⟩,fun z hz=>?_⟩⟩
 ·rw[amV]
  exact bD (by simp only[au])
 ·exact(Sl.dE (size:=1) (n:=1) (xs:=[i64 (-1)]) rfl (by simp only[au])).ext e2 (fun _ _ h=>h)
 ·exact e1.own (aG _ _ _) (fun h=>h)
 ·simp[CA]
 ·have:=t2.ne
  refine⟨⟨?_,?_,?_,?_⟩,⟨?_,?_,?_⟩,⟨?_,?_⟩,?_⟩<;>simp only<;>omega
 ·refine⟨fun h=>?_,fun h=>?_,fun h=>?_,fun h=>?_,fun h=>?_⟩<;>(have h2:=zF _ h;first|omega| (simp only at h2;omega))
 ·rcases hz with hz|rfl|rfl|rfl|rfl|rfl
  ·exact hC z hz
  all_goals first|omega| (simp only;omega)
theorem CB{n:Nat}{H:Hp}{S:Nat→Prop}{w:Nw}(h:dH n H S w):ah Tryz.prog pe [ptr n] H fun v H'=>ay (
  (w.hs.length=65537∧v=i64 0∧cC (dH n) S H H' w)∨(w.hs.length≠65537∧v=i64 w.hs.length∧cC (dH n) S H H' w.make)):=by
 obtain⟨B,C,L,rs,tops,rfl,m,l,hS⟩:=id h
 obtain⟨tv,ho,EM⟩:=m.own
 refine be zg ⟨rfl,?_⟩
 refine v2 iU.eq_1 (ae ho) ?_
 refine(lX m.cells).mono ?_
 rintro _ H1 (⟨h1,rfl,rfl⟩| ⟨h1,rfl,C',c1,e1,Ba⟩)
 ·refine vs ?_
  exact .inl ⟨h1,rfl,cC.same h (ai.refl _ _)⟩
 have gD:=m.cells.pos
 have hhs:=m.cells.EM
 have MT:=l.tl
 have slt:=m.slt
 have LW:=c1.slt
 obtain⟨n1,n2,n3,n4,n5⟩:=m.out
 obtain⟨⟨d1,d2,d3,d4⟩,⟨d5,d6,d7⟩,⟨d8,d9⟩,d10⟩:=m.qY
 have o1:=e1.own ho n1
 refine vs ?_
 refine ak.cE (amj (by omega)) ?_
 refine v1 (ae o1) ?_
 have s1:=EM.ext e1 (fun b hb=>by injection hb with hb;exact hb▸n5)
 refine RU s1 (-1) (by omega) fun w' H2 b' wx s2 e2=>?_
 have o2:=e2.own o1 d4
 obtain⟨wa,wc,ND⟩:=Sl.shape s2
 subst ND
 refine v1 o2 ?_
 generalize ND:Value.slice wa (tops++[-1]).length wc=w' at*
 have e3:ai (fun z=>z=B.n) H2 (H2.wr B.n [ptr B.c,ptr B.t,.slice (some ⟨B.rk,0,none⟩) rs.length rs.length,w']):=(ai.refl (fun z=>z=B.n) _).wr (fun _=>rfl) _
 have z1:=e1.size
 have sl:∀z,z=B.n∨z=B.t∨z=B.tl∨z=B.rk∨z=B.tp→z<H.size:=fun z hz=>slt z (.inr hz)
 have hn:=sl _ (.inl rfl)
 have ht:=sl _ (.inr (.inl rfl))
 have WI:=sl _ (.inr (.inr (.inl rfl)))
 have hrk:=sl _ (.inr (.inr (.inr (.inl rfl))))
 have htp:=sl _ (.inr (.inr (.inr (.inr rfl))))
 have G1:∀z,C' z→z≠b'∧(z<H.size→C z):=fun z hz=>by
  have h5:=LW z hz
  rcases Ba z hz with h6|h6
  ·refine⟨fun e=>?_,fun _=>h6⟩
   rcases wx with h7|h7
   ·exact n5 (by rw[←h7,←e];exact h6)
   ·omega
  ·exact⟨by omega,fun h=>by omega⟩
 refine .inr ⟨h1,rfl,(LB.mk B.n B.c B.t B.tl B.rk b').S C',⟨⟨B.n,B.c,B.t,B.tl,B.rk,b'⟩,C',L,rs,tops++[-1],rfl,⟨⟨w',aj o2,s2.ext e3 (fun b hb=>by injection hb with hb;omega)⟩,?_,?_,?_,m.len,?_,?_⟩,⟨by rw[Cu];exact l.bt,?_⟩,fun z=>Iff.rfl⟩,?_,fun z hz=>?_⟩
 ·exact(c1.ext e2 (fun x hx e=>by
   rcases Ba x hx with h6|h6
   ·exact n5 (e▸h6)
   ·omega)).ext e3 (fun x hx e=>by
   rcases Ba x hx with h6|h6
   ·exact n1 (e▸h6)
   ·omega)
 ·exact((m.bW.ext e1 n2 n3).ext e2 d7 d9).ext e3 (Ne.symm d1) (Ne.symm d2)
 ·exact e3.own (e2.own (e1.own m.D1 n4) d10) (Ne.symm d3)
 ·refine⟨⟨d1,d2,d3,?_⟩,⟨d5,d6,?_⟩,⟨d8,?_⟩,?_⟩<;>simp only<;>omega
 ·refine⟨fun h=>?_,fun h=>?_,fun h=>?_,fun h=>?_,fun h=>?_⟩
  ·exact n1 ((G1 _ h).2 hn)
  ·exact n2 ((G1 _ h).2 ht)
  ·exact n3 ((G1 _ h).2 WI)
  ·exact n4 ((G1 _ h).2 hrk)
  ·exact(G1 _ h).1 rfl
 ·simp[Nw.make,MT]
 ·exact((e1.mono fun z _ h=>(hS z).2 (.inl h)).trans (e2.mono fun z _ h=>(hS z).2 (.inr (.inr (.inr (.inr (.inr h))))))).trans (e3.mono fun z _ h=>(hS z).2 (.inr (.inl h)))
 ·rcases hz with hz|rfl|rfl|rfl|rfl|rfl
  ·rcases Ba z hz with h6|h6
   ·exact .inl ((hS z).2 (.inl h6))
   ·exact .inr h6
  ·exact .inl ((hS _).2 (.inr (.inl rfl)))
  ·exact .inl ((hS _).2 (.inr (.inr (.inl rfl))))
  ·exact .inl ((hS _).2 (.inr (.inr (.inr (.inl rfl)))))
  ·exact .inl ((hS _).2 (.inr (.inr (.inr (.inr (.inl rfl))))))
  ·rcases wx with rfl|h7
   ·exact .inl ((hS _).2 (.inr (.inr (.inr (.inr (.inr rfl))))))
   ·exact .inr (by first|omega| (simp only;omega))
theorem Si.first{w:Nw}{L:List Lk}{tops:List Int}(l:Si w L tops){g x:Int}(h:w.first g x):br tops g=x:=by
 obtain⟨h1,h2,h3⟩:=bN.1 h
 have:=l.bt.first (x:=x) (by omega) (fun y hy aT=>h3 y (by omega) aT) (aq w)
 rwa[h2]at this
theorem tz{n:Nat}{H:Hp}{S:Nat→Prop}{w:Nw}(h:dH n H S w)(g:Int):ah Tryz.prog qd [ptr n,i64 g] H fun v H'=>ay (
  ((w.len g=0∧v= .tuple [i64 0,.bool false].toArray)∨∃x,w.first g x∧v= .tuple [i64 x,.bool true].toArray)∧H'=H):=by
 obtain⟨B,C,L,rs,tops,rfl,m,l,hS⟩:=h
 obtain⟨cc,lt,ho,q2,De,zC,OY⟩:=m.hZ
 refine be AQ ⟨rfl,?_⟩
 refine v2 jU.eq_1 (ae ho) ?_
 refine(xm m.cells g).mono ?_
 rintro _ _ ⟨rfl,rfl⟩
 refine vs ?_
 refine ak.dec (fun h0=>?_) (fun h0=>?_)
 ·refine vs ?_
  exact⟨.inl ⟨h0,rfl⟩,rfl⟩
 have hg:0<g:=amr fun hg=>h0 (Nw.IP.2 (.inl (by omega)))
 obtain⟨x,hx⟩:=xl hg h0
 have hh:=(bN.1 hx).2.1
 have dw:=((m.cells.hm x).2 (by omega)).2
 rw[hh,←l.tl]at dw
 have q3:=m.fB q2 (dW (tops:=tops) (h:=g) (by omega) dw)
 rw[l.first hx]at q3
 refine v1 (ae ho) ?_
 refine⟨⟨by omega,by omega⟩,?_⟩
 refine v4 (ae q2) al6 ama q3 ?_
 exact⟨.inr ⟨x,hx,rfl⟩,rfl⟩
set_option maxRecDepth 100000 in
theorem vZ{n:Nat}{H:Hp}{S:Nat→Prop}{w:Nw}(h:dH n H S w)(x k s:Int):ah Tryz.prog kw [ptr n,i64 x,vV k s] H fun v H'=>ay (
  (¬w.dc x k s∧v= .bool false∧cC (dH n) S H H' w)∨(w.dc x k s∧v= .bool true∧∃y,w.cs[x.toNat]? =some y∧cC (dH n) S H H' (w.put x (y.1,k,s)))):=by
 obtain⟨B,C,L,rs,tops,rfl,m,l,hS⟩:=h
 refine be tf ⟨rfl,?_⟩
 refine v1 kB.eq_1 ?_
 have f0:ax H (H.new 224 [i64 k,u64 s]):=(ai.refl _ _).new _ _
 have b0:(H.new 224 [i64 k,u64 s]).own H.size=some [i64 k,u64 s]:=aG _ _ _
 have m0:=m.fresh f0
 generalize H.new 224 [i64 k,u64 s]=H0 at*
 obtain⟨tv,Ki,_⟩:=m0.own
 refine v2 (ae Ki) (ae b0) ?_
 refine(jm m0.cells x k s).mono ?_
 have hC:∀z,C z→S z:=fun z h=>(hS z).2 (.inl h)
 have ff:ai S H H0:=f0.mono fun _ _ h=>h.elim
 rintro _ H1 (⟨cr,rfl,c1,e1⟩| ⟨bS,rfl,y,hy,gv,c1,e1⟩)
 ·refine vs ?_
  exact .inl ⟨cr,rfl,cC.same ⟨B,C,L,rs,tops,rfl,m0.ext e1 (fun _ _ h=>h),l,hS⟩ (ff.trans (e1.mono fun _ _ h=>h.elim))⟩
 have rB:(w.put x (y.1,k,s)).cs.length=w.cs.length:=by simp[Nw.put]
 have m1:=m0.aK c1 e1 rB
 have CC:w.dc x k s:=⟨bS,fun z hz=>by rw[hy]at hz;injection hz with hz;rw[←hz];exact gv⟩
 have hx:0≤x∧x<w.cs.length:=⟨bS.1,by have:=(al7.1 hy).1;have:=bS.1;omega⟩
 have Q3:aH w x=y.1:=ng bS.1 hy
 have dZ:=bK.2 bS
 have hw:aH (w.put x (y.1,k,s))=aH w:=by
  funext z
  rw[eC hx]
  split
  ·rename_i e;rw[e,Q3]
  ·rfl
 have FJ:cZ (w.put x (y.1,k,s)).cs x:=bK.1 (by rw[hw];exact dZ)
 obtain⟨D2,o1,_⟩:=m1.own
 refine v1 (ae o1) ?_
 refine(dt m1.cells x).mono ?_
 rintro _ H2 (⟨cr,_,_⟩| ⟨_,rfl,c2,e2⟩)
 ·exact absurd FJ cr
 have m2:=m1.aK c2 e2 rfl
 obtain⟨Nz,o2,_⟩:=m2.own
 have sJ:ai S H H2:=(ff.trans (e1.mono fun z _ h=>hC z h)).trans (e2.mono fun z _ h=>hC z h)
 have el:∀a b,0<aH w a→0<aH w b→a≠x→b≠x→aV (w.put x (y.1,k,s)) a b=aV w a b:=fun a b ha hb tM pt=>dG hx _ ha hb tM pt
 have ex:∀b,0<aH w b→b≠x→aV w x b=true→aV (w.put x (y.1,k,s)) x b=true:=fun b hb pt h=>Ct bS hy gv hb pt h
 refine v1 (ae o2) ?_
 refine(cN m2.bW (x:=x) (fun hu=>by have:=Cv.up l.bt.bt hu;have:=m2.len.1;omega)).mono ?_
 rintro _ H3 ⟨rfl,L3,t3,l3,k3,u3,e3⟩
 have m3:=m2.dL t3 e3 l3
 have h1:S B.tl:=(hS _).2 (.inr (.inr (.inr (.inl rfl))))
 have h2:S B.rk:=(hS _).2 (.inr (.inr (.inr (.inr (.inl rfl)))))
 have h3:S B.tp:=(hS _).2 (.inr (.inr (.inr (.inr (.inr rfl)))))
 have FA:ai S H H3:=sJ.trans (e3.mono fun z _ h=>h▸h1)
 unfold ix
 by_cases hu:bu L x= -1
 ·rw[if_pos hu]
  refine vs ?_
  have kk:bj L3=bj L:=by rw[k3];unfold kO;rw[if_pos hu]
  have uu:bu L3=bu L:=by
   rw[u3]
   funext z
   unfold c9 aI
   split
   ·rename_i e;rw[e,hu]
   ·rfl
  refine .inr ⟨CC,rfl,y,hy,cC.same ⟨B,C,L3,rs,tops,rfl,m3,⟨?_,l.tl⟩,hS⟩ FA⟩
  rw[hw,kk,uu]
  exact l.bt.TP dZ hu el ex (aq w)
 rw[if_neg hu]
 refine vs ?_
 have bo:=l.bt.low dZ hu el ex (aq w)
 rw[←hw,←k3,←u3]at bo
 have E0:=Cv.up l.bt.bt hu
 refine(lZ m3 bo.bt (x:=bu L x) (fun _=>by rw[hw,E0.2.2.2];exact dZ)).mono ?_
 rintro _ H4 ⟨L4,Vm,m4,b4,u4,e4⟩
 have bo4:TO (aH (w.put x (y.1,k,s))) (aV (w.put x (y.1,k,s))) (bj L4) (bu L4) (br tops) (aH (w.put x (y.1,k,s)) x) x:=⟨b4,by rw[u4];exact bo.t1,by rw[u4];exact bo.t2,by rw[u4];exact bo.ox,bo.nx,bo.g0⟩
 have Bw:ai S H H4:=FA.trans (e4.mono fun z _ h=>by rcases h with rfl|rfl;exact h1;exact h2)
 obtain⟨cc,lt,o4,q2,De,zC,OY⟩:=m4.hZ
 have dw:aH (w.put x (y.1,k,s)) x<tops.length:=by
  have:=((m4.cells.hm x).2 bo.g0).2
  have e5:(w.put x (y.1,k,s)).hs=w.hs:=rfl
  rw[e5]at this
  have:=l.tl
  omega
 have Sf:=bo.g0
 generalize hg:aH (w.put x (y.1,k,s)) x=g at*
 have q3:=m4.fB q2 (dW (tops:=tops) (h:=g) (by omega) dw)
 refine vs ?_
 refine qZ.intro (fun H'=>H'.own B.n=some [ptr B.c,ptr B.t,.slice (some ⟨B.rk,0,none⟩) Vm.length Vm.length,.slice (some ⟨B.tp,0,none⟩) tops.length cc]) o4 ?_
 refine vs ?_
 refine qF.intro (.slice (some ⟨B.tp,0,none⟩) tops.length cc) (fun H' hI=>by refine v1 (ae hI) ?_;trivial) ?_
 refine v1 (ae o4) ?_
 refine And.intro o4 ?_
 refine vs ?_
 refine⟨⟨by omega,by omega⟩,?_⟩
 refine v4 (ae q2) al6 ama q3 ?_
 refine And.intro o4 ?_
 refine vs ?_
 refine(j7 m4 bo4.mg).mono ?_
 rintro _ H5 ⟨r,L5,rs5,rfl,m5,g5,_,e5⟩
 have bn:=bo4.done g5
 obtain⟨d1,d2,d3,d4⟩:=m4.qY.1
 have no:¬ (C B.n∨B.n=B.tl∨B.n=B.rk):=by rintro(h|h|h);exact m4.out.1 h;omega;omega
 refine And.intro (e5.own o4 no) ?_
 have q4:=e5.own q2 (by obtain⟨_,⟨_,_,d7⟩,⟨_,d9⟩,d10⟩:=m4.qY;rintro(h|h|h);exact m4.out.2.2.2.2 h;omega;omega)
 refine vs ?_
 refine⟨⟨by omega,by omega⟩,?_⟩
 refine v3 q4 al6 ama ?_
 refine⟨by omega,?_⟩
 obtain⟨m6,e6⟩:=m5.nV q4 g.toNat r
 refine And.intro (e6.own (e5.own o4 no) d4) ?_
 refine vs ?_
 refine .inr ⟨CC,rfl,y,hy,cC.same ⟨B,C,L5,rs5,_,rfl,m6,⟨?_,by rw[al8];exact l.tl⟩,hS⟩ ?_⟩
 ·rw[eU (by omega) dw]
  exact bn
 ·exact(Bw.trans (e5.mono fun z _ h=>by rcases h with h|rfl|rfl;exact hC z h;exact h1;exact h2)).trans (e6.mono fun z _ h=>h▸h3)
set_option maxRecDepth 100000 in
set_option maxHeartbeats 1000000 in
theorem zr{n:Nat}{H:Hp}{S:Nat→Prop}{w:Nw}(h:dH n H S w)(x:Int):ah Tryz.prog vD [ptr n,i64 x] H fun v H'=>ay (
  (¬cZ w.cs x∧v= .bool false∧cC (dH n) S H H' w)∨(cZ w.cs x∧v= .bool true∧cC (dH n) S H H' (w.put x (0,0,0)))):=by
 obtain⟨B,C,L,rs,tops,rfl,m,l,hS⟩:=id h
 have hC:∀z,C z→S z:=fun z h=>(hS z).2 (.inl h)
 have s1:S B.tl:=(hS _).2 (.inr (.inr (.inr (.inl rfl))))
 have s2:S B.rk:=(hS _).2 (.inr (.inr (.inr (.inr (.inl rfl)))))
 have s3:S B.tp:=(hS _).2 (.inr (.inr (.inr (.inr (.inr rfl)))))
 obtain⟨tv,o0,_⟩:=m.own
 refine be vP ⟨rfl,?_⟩
 refine v2 fT.eq_1 (ae o0) ?_
 refine(dt m.cells x).mono ?_
 rintro _ H1 (⟨cr,rfl,rfl⟩| ⟨bS,rfl,c1,e1⟩)
 ·refine vs ?_
  exact .inl ⟨cr,rfl,cC.same h (ai.refl _ _)⟩
 have m1:=m.aK c1 e1 rfl
 obtain⟨D2,o1,_⟩:=m1.own
 have dZ:=bK.2 bS
 obtain⟨iq,jq,_⟩:=aF dZ
 have FY:x≠ -1:=by omega
 have ls:=aq w
 have t:=l.bt
 refine v1 (ae o1) ?_
 obtain⟨a1,b1,ea1⟩:=cO (bj L x false)
 obtain⟨a2,b2,ea2⟩:=cO (bj L x true)
 refine⟨.tuple [i64 a1,.bool b1].toArray,(oM m1.bW x).mono (by rintro v H' ⟨rfl,rfl⟩;exact⟨ea1,rfl⟩),?_⟩
 refine vs ?_
 refine⟨_,cB H1 _ a1 b1 ea1,?_⟩
 refine v1 (ae o1) ?_
 refine(cA m1.bW x).mono ?_
 rintro _ H' ⟨rfl,e⟩
 obtain rfl:=e.symm
 rw[ea2]
 refine vs ?_
 refine(cB H1 _ a2 b2 ea2).mono ?_
 rintro _ H' ⟨rfl,e⟩
 obtain rfl:=e.symm
 refine v1 (ae o1) ?_
 refine(cN m1.bW (x:=bj L x false) (fun hu=>by have:=Cv.up t.bt hu;have:=m1.len.1;omega)).mono ?_
 rintro _ H2 ⟨rfl,L2,t2,l2,k2,u2,e2⟩
 have m2:=m1.dL t2 e2 l2
 have bt2:Cv w L2:=by
  show Bt _ _ _ _
  rw[k2,u2];exact t.bt.TN _
 obtain⟨Nz,o2,_⟩:=m2.own
 refine v1 (ae o2) ?_
 refine(cN m2.bW (x:=bj L x true) (fun hu=>by have:=Cv.up bt2 hu;have:=m2.len.1;omega)).mono ?_
 rintro _ H3 ⟨rfl,L3,t3,l3,k3,u3,e3⟩
 rw[k2,u2]at k3
 rw[u2]at u3
 have m3:=m2.dL t3 e3 l3
 obtain⟨w1,w2,w3,w4⟩:=t.bt.bare x
 have hk:∀c,bj L x c= -1∨(aH w (bj L x c)=aH w x∧bu L3 (bj L x c)= -1):=fun c=>by
  by_cases hk:bj L x c= -1
  ·exact .inl hk
  ·refine .inr ⟨(t.bt.home hk).2.2.1,?_⟩
   rw[u3,w4,if_pos]
   cases c
   ·exact .inl rfl
   ·exact .inr rfl
 rw[←k3,←u3]at w1
 have mg:=Mg.start w1 dZ (hk false) (hk true) (fun e=>t.bt.two x e)
 refine vs ?_
 refine(j7 m3 mg).mono ?_
 rintro _ H4 ⟨r,L4,Vm,rfl,m4,g4,f4,e4⟩
 have f4:=f4 x (yj.start (fun hk=>(t.bt.home hk).2.2.2.2) (fun hk=>(t.bt.home hk).2.2.2.2))
 have d:=t.U9 ls dZ k3 u3 g4 f4
 have Bw:ai S H H4:=(((e1.mono fun z _ h=>hC z h).trans (e2.mono fun z _ h=>h▸s1)).trans (e3.mono fun z _ h=>h▸s1)).trans (e4.mono fun z _ h=>by rcases h with h|rfl|rfl;exact hC z h;exact s1;exact s2)
 obtain⟨tv4,o4,_⟩:=m4.own
 have cU:=fun y=>eC (w:=w) ⟨iq,jq⟩ (0,0,0) y
 have p0:aH (w.put x (0,0,0)) (-1)=0:=rfl
 have p1:aH (w.put x (0,0,0)) x=0:=by rw[cU,if_pos rfl]
 have p2:∀y,y≠x→aH (w.put x (0,0,0)) y=aH w y:=fun y hy=>by rw[cU,if_neg hy]
 have el:∀a b,0<aH w a→0<aH w b→a≠x→b≠x→aV (w.put x (0,0,0)) a b=aV w a b:=fun a b ha hb tM pt=>dG ⟨iq,jq⟩ _ ha hb tM pt
 have rB:(w.put x (0,0,0)).cs.length=w.cs.length:=by simp[Nw.put]
 refine v1 (ae o4) ?_
 refine(si m4.bW x).mono ?_
 rintro _ H' ⟨rfl,e⟩
 obtain rfl:=e.symm
 rw[d.ux]
 unfold ix
 by_cases hu:bu L x= -1
 ·rw[if_pos hu]
  obtain⟨cc,lt,o5,q5,De,zC,OY⟩:=m4.hZ
  have dw:aH w x<tops.length:=by
   have:=((m4.cells.hm x).2 dZ).2
   have:=l.tl
   omega
  refine v1 (ae o5) ?_
  refine⟨⟨by omega,by omega⟩,?_⟩
  refine v3 q5 al6 ama ?_
  refine⟨by omega,?_⟩
  obtain⟨m5,e5⟩:=m4.nV q5 (aH w x).toNat r
  obtain⟨tv6,o6,_⟩:=m5.own
  refine v1 (ae o6) ?_
  refine(cj m5.cells x).mono ?_
  rintro _ H6 (⟨cr,_,_⟩| ⟨_,rfl,c6,e6⟩)
  ·exact absurd bS cr
  have m6:=m5.aK c6 e6 rB
  refine vs ?_
  refine .inr ⟨bS,rfl,cC.same ⟨B,C,L4,Vm,_,rfl,m6,⟨?_,by rw[al8];exact l.tl⟩,hS⟩ ((Bw.trans (e5.mono fun z _ h=>h▸s3)).trans (e6.mono fun z _ h=>hC z h))⟩
  rw[eU (by omega) dw]
  exact d.Po t dZ hu p0 p1 p2 el
 ·rw[if_neg hu]
  have E0:=Cv.up t.bt hu
  obtain⟨w5,w6⟩:=d.cut t ls dZ hu
  obtain⟨a3,b3,YK⟩:=cO (bj L4 (bu L x) true)
  refine v1 (ae o4) ?_
  refine(cA m4.bW (bu L x)).mono ?_
  rintro _ H' ⟨rfl,e⟩
  obtain rfl:=e.symm
  rw[YK]
  refine vs ?_
  refine(cB _ _ a3 b3 YK).mono ?_
  rintro _ H' ⟨rfl,e⟩
  obtain rfl:=e.symm
  rw[d.kp _ true rfl hu]
  refine v1 (ae o4) ?_
  refine(cN m4.bW (x:=x) (fun Ui=>by have:=Cv.up d.bt Ui;have:=m4.len.1;omega)).mono ?_
  rintro _ H5 ⟨rfl,L5,t5,l5,k5,u5,e5⟩
  have m5:=m4.dL t5 e5 l5
  obtain⟨tv5,o5,_⟩:=m5.own
  refine vs ?_
  have Vt:=Bw.trans (e5.mono fun z _ h=>h▸s1)
  refine ak.dec (fun g=>?_) (fun g=>?_)<;>refine vs ?_
  ·have m6:=m5
   have Rb:=Vt
   have b6:Cv w L5:=by
    show Bt _ _ _ _
    rw[k5,u5];exact w5 g
   have u6:bu L5=if r= -1 then c9 (bu L4) x else aI (c9 (bu L4) x) r (bu L x):=by rw[if_pos g];exact u5
   refine(lZ m6 b6 (x:=bu L x) (fun _=>by rw[E0.2.2.2];exact dZ)).mono ?_
   rintro _ H7 ⟨L7,rs7,m7,b7,u7,e7⟩
   have e17:=Rb.trans (e7.mono fun z _ h=>by rcases h with rfl|rfl;exact s1;exact s2)
   obtain⟨tv7,o7,_⟩:=m7.own
   refine v1 (ae o7) ?_
   refine(cj m7.cells x).mono ?_
   rintro _ H8 (⟨cr,_,_⟩| ⟨_,rfl,c8,e8⟩)
   ·exact absurd bS cr
   have m8:=m7.aK c8 e8 rB
   refine vs ?_
   refine .inr ⟨bS,rfl,cC.same ⟨B,C,L7,rs7,tops,rfl,m8,⟨?_,l.tl⟩,hS⟩ (e17.trans (e8.mono fun z _ h=>hC z h))⟩
   exact d.below t ls (n:=w.cs.length) (fun y hy=>by obtain⟨y0,y1,_⟩:=aF hy;exact⟨y0,y1⟩) dZ hu b7 (by rw[u7,u6]) p0 p1 p2 el
  ·obtain⟨y1,y2,y3,y4⟩:=w6 g
   obtain⟨r1,r2,r3,r4⟩:=d.rx g
   obtain⟨q1,q2,_⟩:=aF (w:=w) (x:=r) (by omega)
   have hl5:=m5.len
   refine v1 (ae o5) ?_
   refine(fG m5.bW (p:=bu L x) (x:=r) (c:=(bj L (bu L x) true==x)) ⟨E0.1,by omega⟩ ⟨q1,by omega⟩ y3 (by rw[u5];exact y2) (by rw[k5];exact y1)).mono ?_
   rintro _ H6 ⟨rfl,L6,t6,l6,k6,Sj,e6⟩
   have m6:=m5.dL t6 e6 l6
   have Rb:=Vt.trans (e6.mono fun z _ h=>h▸s1)
   rw[k5]at k6
   rw[u5]at Sj
   have b6:Cv w L6:=by
    show Bt _ _ _ _
    rw[k6,Sj];exact y4
   have u6:bu L6=if r= -1 then c9 (bu L4) x else aI (c9 (bu L4) x) r (bu L x):=by rw[if_neg g];exact Sj
   refine vs ?_
   refine(lZ m6 b6 (x:=bu L x) (fun _=>by rw[E0.2.2.2];exact dZ)).mono ?_
   rintro _ H7 ⟨L7,rs7,m7,b7,u7,e7⟩
   have e17:=Rb.trans (e7.mono fun z _ h=>by rcases h with rfl|rfl;exact s1;exact s2)
   obtain⟨tv7,o7,_⟩:=m7.own
   refine v1 (ae o7) ?_
   refine(cj m7.cells x).mono ?_
   rintro _ H8 (⟨cr,_,_⟩| ⟨_,rfl,c8,e8⟩)
   ·exact absurd bS cr
   have m8:=m7.aK c8 e8 rB
   refine vs ?_
   refine .inr ⟨bS,rfl,cC.same ⟨B,C,L7,rs7,tops,rfl,m8,⟨?_,l.tl⟩,hS⟩ (e17.trans (e8.mono fun z _ h=>hC z h))⟩
   exact d.below t ls (n:=w.cs.length) (fun y hy=>by obtain⟨y0,y1,_⟩:=aF hy;exact⟨y0,y1⟩) dZ hu b7 (by rw[u7,u6]) p0 p1 p2 el
theorem xA{n:Nat}{H:Hp}{S:Nat→Prop}{w:Nw}(h:dH n H S w)(g:Int):ah Tryz.prog li [ptr n,i64 g] H fun v H'=>ay (
  (w.len g=0∧v= .tuple [i64 0,.bool false].toArray∧cC (dH n) S H H' w)∨(∃x,w.first g x∧v= .tuple [i64 x,.bool true].toArray∧cC (dH n) S H H' (w.put x (0,0,0)))):=by
 refine be ul ⟨rfl,?_⟩
 refine v1 fy.eq_1 ?_
 refine(tz h g).mono ?_
 rintro _ _ ⟨⟨h0,rfl⟩| ⟨x,hx,rfl⟩,rfl⟩
 ·refine vs ?_
  exact .inl ⟨h0,rfl,cC.same h (ai.refl _ _)⟩
 ·refine vs ?_
  refine(zr h x).mono ?_
  rintro _ H1 (⟨cr,_,_⟩| ⟨_,rfl,h1⟩)
  ·exact absurd (bK.1 (by have:=bN.1 hx;omega)) cr
  refine vs ?_
  exact .inr ⟨x,hx,rfl,h1⟩
theorem Kj(n:Nat):zI (.iface 210 (ptr n)) (dH n) where
 slt h:=h.slt
 ext h e hd:=h.ext e hd
 cells:=by
  rintro H S w ⟨B,C,L,rs,tops,rfl,m,l,hS⟩
  exact⟨B.c,C,m.cells⟩
 has:=by
  rintro H S w g ⟨B,C,L,rs,tops,rfl,m,l,hS⟩
  obtain⟨tv,ho,_⟩:=m.own
  exact⟨_,_,bG,ptr B.c,rfl,ic (off:=0) (by kernel_rfl) (ae ho) rfl,(kH m.cells g).mono fun v H' hp=>hp⟩
 make:=by
  intro H S w h
  exact⟨_,_,pe,ptr n,rfl,bF (by kernel_rfl),(CB h).mono fun v H' hp=>hp⟩
 insert:=by
  intro H S w g x k s h
  exact⟨_,_,mC,ptr n,rfl,bF (by kernel_rfl),(zq h g x k s).mono fun v H' hp=>hp⟩
 min:=by
  intro H S w g h
  refine⟨_,_,qd,ptr n,rfl,bF (by kernel_rfl),(tz h g).mono ?_⟩
  rintro v H' ⟨⟨h1,rfl⟩| ⟨x,h1,rfl⟩,rfl⟩
  ·exact .inl ⟨h1,rfl,cC.same h (ai.refl _ _)⟩
  ·exact .inr ⟨x,h1,rfl,cC.same h (ai.refl _ _)⟩
 extract:=by
  intro H S w g h
  exact⟨_,_,li,ptr n,rfl,bF (by kernel_rfl),(xA h g).mono fun v H' hp=>hp⟩
 qH:=by
  intro H S w x k s h
  exact⟨_,_,kw,ptr n,rfl,bF (by kernel_rfl),(vZ h x k s).mono fun v H' hp=>hp⟩
 entry:=by
  rintro H S w x ⟨B,C,L,rs,tops,rfl,m,l,hS⟩
  obtain⟨tv,ho,_⟩:=m.own
  refine⟨_,_,bk,ptr B.c,rfl,ic (off:=0) (by kernel_rfl) (ae ho) rfl,(jk m.cells x).mono ?_⟩
  rintro v H' ⟨c1,f,hv⟩
  exact⟨⟨B,C,L,rs,tops,rfl,m.fresh f,l,hS⟩,f,hv⟩
theorem dO:cT 2:=⟨by omega,by omega⟩
def swp(l:List Int)(i j:Nat):List Int:=(l.set i (l.getD j 0)).set j (l.getD i 0)
theorem ie(l:List Int)(i j:Nat):(swp l i j).length=l.length:=by unfold swp;simp
theorem CD{l:List Int}{i j:Nat}(hi:i<l.length)(hj:j<l.length)(k:Nat):(swp l i j).getD k 0=if k=j then l.getD i 0 else if k=i then l.getD j 0 else l.getD k 0:=by
 unfold swp
 rw[dF _ _ _ _ (by simpa using hj),dF _ _ _ _ hi]
 by_cases h1:j=k
 ·subst h1;simp
 ·rw[if_neg h1,if_neg (Ne.symm h1)]
  by_cases h2:i=k
  ·subst h2;simp
  ·rw[if_neg h2,if_neg (Ne.symm h2)]
theorem pM{l:List Int}{i j:Nat}(hi:i<l.length)(hj:j<l.length)(k:Nat):(swp l i j)[k]? =if k=j then l[i]? else if k=i then l[j]? else l[k]? :=by
 have hl:=ie l i j
 have hg:=CD hi hj k
 by_cases hk:k<l.length
 ·rw[al5 (by omega)]
  rw[al9,al5 (by omega)]at hg
  simp only[Option.getD_some]at hg
  rw[hg]
  have e:∀q,q<l.length→l[q]? =some (l.getD q 0):=fun q hq=>by rw[al9,al5 hq];rfl
  split
  ·rw[e i hi]
  ·split
   ·rw[e j hj]
   ·rw[e k hk]
 ·rw[amk (by omega),if_neg (by omega),if_neg (by omega),amk (by omega)]
theorem Uj{l:List Int}{i j:Nat}(hi:i<l.length)(hj:j<l.length)(z:Int):z∈swp l i j↔z∈l:=by
 constructor
 ·intro h
  obtain⟨k,hk⟩:=amy h
  rw[pM hi hj]at hk
  split at hk
  ·exact amb hk
  ·split at hk
   ·exact amb hk
   ·exact amb hk
 ·intro h
  obtain⟨k,hk⟩:=amy h
  by_cases h1:k=i
  ·subst h1
   refine amb (i:=j) ?_
   rw[pM hi hj,if_pos rfl,hk]
  ·by_cases h2:k=j
   ·subst h2
    refine amb (i:=i) ?_
    rw[pM hi hj]
    by_cases h3:i=k
    ·exact absurd h3.symm h1
    ·rw[if_neg h3,if_pos rfl,hk]
   ·refine amb (i:=k) ?_
    rw[pM hi hj,if_neg h2,if_neg h1,hk]
theorem LX{l:List Int}{i j m:Nat}(hi:i<m)(hj:j<m)(hm:m≤l.length):(swp l i j).take m=swp (l.take m) i j:=by
 apply amN
 intro k
 rw[pM (by rw[amS];omega) (by rw[amS];omega),amE,pM (by omega) (by omega),amE,amE,amE]
 rw[if_pos hi,if_pos hj]
 by_cases hk:k<m
 ·simp only[if_pos hk]
 ·simp only[if_neg hk,if_neg (show k≠j by omega),if_neg (show k≠i by omega)]
theorem Sk{l:List Int}{i j m:Nat}(hi:i<m)(hj:j<m)(hm:m≤l.length):(swp l i j).drop m=l.drop m:=by
 apply amN
 intro k
 rw[amF,amF,pM (by omega) (by omega),if_neg (by omega),if_neg (by omega)]
theorem dK.heap{lt:Int→Int→Bool}{l:List Int}{i:Nat}(h:dK lt 2 l i)(hB:∀j,1≤j→j<l.length→pa 2 j=i→lt (l.getD j 0) (l.getD i 0)=false)
  (hD:1≤i→i<l.length→lt (l.getD i 0) (l.getD (pa 2 i) 0)=false):eZ lt 2 l:=by
 intro j h1 h2
 by_cases e1:j=i
 ·subst e1;exact hD h1 h2
 ·by_cases e2:pa 2 j=i
  ·rw[e2];exact hB j h1 h2 e2
  ·exact h.1 j h1 h2 e1 e2
theorem WJ{lt:Int→Int→Bool}(ho:bC lt){l:List Int}{i:Nat}(hi:1≤i)(hl:i<l.length)(hA:dK lt 2 l i)(hB:∀j,1≤j→j<l.length→pa 2 j=i→lt (l.getD j 0) (l.getD i 0)=false)
  (aR:lt (l.getD i 0) (l.getD (pa 2 i) 0)=true):dK lt 2 (swp l (pa 2 i) i) (pa 2 i)∧∀j,1≤j→j< (swp l (pa 2 i) i).length→pa 2 j=pa 2 i→lt ((swp l (pa 2 i) i).getD j 0) ((swp l (pa 2 i) i).getD (pa 2 i) 0)=false:=by
 have hp:=cM dO hi
 have g:=CD (l:=l) (i:=pa 2 i) (j:=i) (by omega) hl
 rw[ie]
 have aeM:∀j,1≤j→j<l.length→pa 2 j=pa 2 i→j≠i→lt (l.getD j 0) (l.getD i 0)=false:=fun j h1 h2 h3 h4=>by
  have e4:=hA.1 j h1 h2 h4 (by omega)
  rw[h3]at e4
  cases hx:lt (l.getD j 0) (l.getD i 0)with
  |false=>rfl
  |true=>have:=ho.tr _ _ _ hx aR;rw[this]at e4;cases e4
 refine⟨⟨fun j h1 h2 h3 h4=>?_,fun j h1 h2 h3 h4=>?_⟩,fun j h1 h2 h3=>?_⟩
 ·rw[ie]at h2
  have Ws:=cM dO h1
  rw[g,g,if_neg h4]
  by_cases e1:j=i
  ·subst e1;exact absurd rfl h4
  ·rw[if_neg e1,if_neg h3]
   by_cases e2:pa 2 j=i
   ·rw[if_pos e2]
    exact hA.2 j h1 h2 e2 (by omega)
   ·rw[if_neg e2];exact hA.1 j h1 h2 e1 e2
 ·rw[ie]at h2
  have Pu:=cM dO h4
  rw[g,g,if_neg (show pa 2 (pa 2 i)≠i by omega),if_neg (show pa 2 (pa 2 i)≠pa 2 i by omega)]
  have e3:=hA.1 (pa 2 i) h4 (by omega) (by omega) (by omega)
  by_cases e1:j=i
  ·rw[if_pos e1];exact e3
  ·have Ws:=cM dO h1
   rw[if_neg e1,if_neg (by omega)]
   have e4:=hA.1 j h1 h2 e1 (by omega)
   rw[h3]at e4
   exact ho.nt _ _ _ e4 e3
 ·have Ws:=cM dO h1
  rw[g,g,if_neg (show pa 2 i≠i by omega),if_pos rfl]
  by_cases e1:j=i
  ·rw[if_pos e1];exact ho.asym aR
  ·rw[if_neg e1,if_neg (by omega)]
   exact aeM j h1 h2 h3 e1
theorem Sm{lt:Int→Int→Bool}(ho:bC lt){l:List Int}{i b:Nat}(hb:1≤b)(hl:b<l.length)(hp:pa 2 b=i)(hA:dK lt 2 l i)(uE:∀j,1≤j→j<l.length→pa 2 j=i→lt (l.getD j 0) (l.getD b 0)=false)
  (aR:lt (l.getD b 0) (l.getD i 0)=true):dK lt 2 (swp l i b) b∧lt ((swp l i b).getD b 0) ((swp l i b).getD (pa 2 b) 0)=false:=by
 have PU:=cM dO hb
 have g:=CD (l:=l) (i:=i) (j:=b) (by omega) hl
 refine⟨⟨fun j h1 h2 h3 h4=>?_,fun j h1 h2 h3 h4=>?_⟩,?_⟩
 ·rw[ie]at h2
  have Ws:=cM dO h1
  rw[g,g,if_neg h3,if_neg h4]
  by_cases e1:j=i
  ·subst e1
   rw[if_pos rfl,if_neg (by omega)]
   exact hA.2 b hb hl hp h1
  ·rw[if_neg e1]
   by_cases e2:pa 2 j=i
   ·rw[if_pos e2];exact uE j h1 h2 e2
   ·rw[if_neg e2];exact hA.1 j h1 h2 e1 e2
 ·rw[ie]at h2
  have Ws:=cM dO h1
  rw[g,g,if_neg (show j≠b by omega),if_neg (show j≠i by omega),if_neg (show pa 2 b≠b by omega),if_pos hp]
  have:=hA.1 j h1 h2 (by omega) (by omega)
  rw[h3]at this
  exact this
 ·rw[g,g,if_pos rfl,hp,if_neg (show i≠b by omega),if_pos rfl]
  exact ho.asym aR
def pN(l at_:List Int):Prop:=∀ (i:Nat) (x:Int),l[i]? =some x→0≤x∧at_[x.toNat]? =some (i:Int)
theorem pN.GQ{l at_:List Int}(h:pN l at_){i j:Nat}{x:Int}(hi:l[i]? =some x)(hj:l[j]? =some x):i=j:=by
 have h1:=(h i x hi).2
 have h2:=(h j x hj).2
 rw[h1]at h2
 injection h2 with h2
 omega
def CE(l at_:List Int)(i j:Nat):List Int:=(at_.set (l.getD j 0).toNat i).set (l.getD i 0).toNat j
theorem pN.swp{l at_:List Int}(h:pN l at_){i j:Nat}(hi:i<l.length)(hj:j<l.length)(KZ:i≠j):pN (swp l i j) (CE l at_ i j)∧(CE l at_ i j).length=at_.length∧∀z:Int,0≤z→z∉l→(CE l at_ i j)[z.toNat]? =at_[z.toNat]? :=by
 have e:∀q,q<l.length→l[q]? =some (l.getD q 0):=fun q hq=>by rw[al9,al5 hq];rfl
 obtain⟨a0,a1⟩:=h i _ (e i hi)
 obtain⟨b0,b1⟩:=h j _ (e j hj)
 have hal:=(al7.1 a1).1
 have hbl:=(al7.1 b1).1
 have aT:(l.getD i 0).toNat≠(l.getD j 0).toNat:=fun h0=>by
  rw[h0,b1]at a1
  injection a1 with a1
  omega
 unfold CE
 refine⟨fun k x hk=>?_,by simp,fun z hz hm=>?_⟩
 ·rw[pM hi hj]at hk
  split at hk
  ·rename_i Yz
   rw[e i hi]at hk
   injection hk with hk
   subst hk
   rw[amd (by simpa using hal),Yz]
   exact⟨a0,rfl⟩
  ·split at hk
   ·rename_i Yz hki
    rw[e j hj]at hk
    injection hk with hk
    subst hk
    rw[amc aT,amd hbl,hki]
    exact⟨b0,rfl⟩
   ·rename_i Yz hki
    obtain⟨c0,c1⟩:=h k x hk
    have n1:(l.getD i 0).toNat≠x.toNat:=fun h0=>by
     rw[h0,c1]at a1;injection a1 with a1;omega
    have n2:(l.getD j 0).toNat≠x.toNat:=fun h0=>by
     rw[h0,c1]at b1;injection b1 with b1;omega
    rw[amc n1,amc n2]
    exact⟨c0,c1⟩
 ·have n1:(l.getD i 0).toNat≠z.toNat:=fun h0=>hm (by rw[show z=l.getD i 0 by omega];exact amb (e i hi))
  have n2:(l.getD j 0).toNat≠z.toNat:=fun h0=>hm (by rw[show z=l.getD j 0 by omega];exact amb (e j hj))
  rw[amc n1,amc n2]
theorem pa2(j:Nat):((pa 2 j:Nat):Int)=if j=0 then 0 else((j:Int) - 1) / 2:=by
 unfold pa
 split
 ·rename_i h;subst h;rfl
 ·omega
theorem Sl.at_{H:Hp}{v:Value}{n:Nat}{xs:List Value}{fp:Option Nat}(h:Sl H 1 v n xs fp){i:Nat}{x:Value}(hx:xs[i]? =some x):∃b cc lb,v= .slice (some ⟨b,0,none⟩) n cc∧fp=some b∧H.own b=some lb∧lb[i]? =some x∧i<n∧n≤lb.length:=by
 have hi:=(al7.1 hx).1
 obtain⟨hl,hm⟩:=id h
 cases fp with
 |none=>obtain⟨e,_⟩:=hm;omega
 |some f=>
  obtain⟨lb,cc,hv,ho,h1,h2,h3⟩:=hm
  refine⟨f,cc,lb,hv,rfl,ho,?_,by omega,by omega⟩
  rw[←h3,amA (by omega)]at hx
  exact hx
structure jo(H:Hp)(n c:Nat)(C:Nat→Prop)(rv:Value)(r:Nat)(fp fa:Option Nat)(st:Int)(w:Nw)(l at_:List Int):Prop where
 own:∃av,H.own n=some [ptr c,rv,av]∧Sl H 1 av at_.length (at_.map i64) fa
 cells:bv H c C st w
 my:∃sv,H.own r=some [ptr n,sv]∧Sl H 1 sv l.length (l.map i64) fp
 nC:¬C n
 rC:¬C r
 rn:r≠n
 zt:∀b,fp=some b→¬C b∧b≠n∧b≠r∧fa≠some b
 Kk:∀b,fa=some b→¬C b∧b≠n∧b≠r
 ll:l.length≤65536
abbrev pv(r:Nat):Value:=.iface 370 (ptr r)
theorem uH{l:List Int}{i:Nat}{x:Int}(h:l[i]? =some x):l.getD i 0=x:=by rw[al9,h];rfl
theorem getD_take{l:List Int}{k m:Nat}(h:k<m):(l.take m).getD k 0=l.getD k 0:=by rw[al9,al9,amA h]
section
variable {H : Hp} {n c : Nat} {C : Nat → Prop} {rv : Value} {r : Nat} {fp fa : Option Nat} {st : Int} {w : Nw} {l at_ : List Int}
theorem sk(m:jo H n c C rv r fp fa st w l at_):ah Tryz.prog js [ptr r] H fun v H'=>ay (v=i64 l.length∧H=H'):=by
 obtain⟨sv,ho,hs⟩:=m.my
 obtain⟨a,cc,rfl⟩:=ep.RX hs.rd
 refine be Fj ⟨rfl,?_⟩
 refine v2 oF.eq_1 (ae ho) ?_
 exact⟨rfl,rfl⟩
theorem G2(m:jo H n c C rv r fp fa st w l at_){i j:Nat}(hi:i<l.length)(hj:j<l.length)(bS:∀z∈l,cZ w.cs z):ah Tryz.prog sR [ptr r,i64 i,i64 j] H fun v H'=>ay (
  v= .bool (aV w (l.getD i 0) (l.getD j 0))∧jo H' n c C rv r fp fa (min (st+1) 4611686018427387904) w l at_∧ai C H H'):=by
 obtain⟨av,hn,ha⟩:=m.own
 obtain⟨sv,ho,hs⟩:=m.my
 obtain⟨x,hx⟩:∃x,l[i]? =some x:=⟨_,al5 hi⟩
 obtain⟨y,hy⟩:∃y,l[j]? =some y:=⟨_,al5 hj⟩
 obtain⟨b,cc,lb,rfl,mr,hb,pt,_,_⟩:=Sl.at_ hs (i:=i) (x:=i64 x) (by simp[hx])
 obtain⟨b',WK,Vr,hv,oO,wx,hby,_,_⟩:=Sl.at_ hs (i:=j) (x:=i64 y) (by simp[hy])
 rw[mr]at oO
 injection oO with oO
 subst oO
 rw[hb]at wx
 injection wx with wx
 subst wx
 have pJ:=m.ll
 refine be DJ ⟨rfl,?_⟩
 refine v3 mV.eq_1 (ae ho) (ae hn) ?_
 refine⟨by omega,?_⟩
 refine v5 (ae hb) ama pt (ae ho) Int.toNat_natCast ?_
 refine⟨by omega,?_⟩
 refine v4 (ae hb) ama hby Int.toNat_natCast ?_
 have h1:=bS x (amb hx)
 have h2:=bS y (amb hy)
 refine(lW m.cells x y).mono ?_
 rintro _ H1 ⟨rfl,c1,e1⟩
 refine vs ?_
 have uB:=m.cells.st
 rw[if_pos ⟨h1,h2⟩,show hG st 1=min (st+1) 4611686018427387904 by unfold hG;rw[if_neg (by omega)];split<;>omega]at c1
 refine⟨by rw[uH hx,uH hy,DY h1 h2];rfl,⟨⟨av,e1.own hn m.nC,ha.ext e1 (fun b hb=>(m.Kk b hb).1)⟩,c1,⟨_,e1.own ho m.rC,hs.ext e1 (fun b hb=>(m.zt b hb).1)⟩,m.nC,m.rC,m.rn,m.zt,m.Kk,m.ll⟩,e1⟩
theorem G3(m:jo H n c C rv r fp fa st w l at_)(oU:pN l at_){i j:Nat}(hi:i<l.length)(hj:j<l.length)(KZ:i≠j):ah Tryz.prog sT [ptr r,i64 i,i64 j] H fun v H'=>ay (
  v= .tuple [].toArray∧jo H' n c C rv r fp fa st w (swp l i j) (CE l at_ i j)∧ai (fun z=>fp=some z∨fa=some z) H H'):=by
 obtain⟨av,hn,ha⟩:=m.own
 obtain⟨sv,ho,hs⟩:=m.my
 obtain⟨x,hx⟩:∃x,l[i]? =some x:=⟨_,al5 hi⟩
 obtain⟨y,hy⟩:∃y,l[j]? =some y:=⟨_,al5 hj⟩
 obtain⟨b,cc,lb,rfl,rfl,hb,pt,_,HS⟩:=Sl.at_ hs (i:=i) (x:=i64 x) (by simp[hx])
 obtain⟨b',WK,Vr,hv,oO,wx,hby,_,_⟩:=Sl.at_ hs (i:=j) (x:=i64 y) (by simp[hy])
 injection oO with oO
 subst oO
 rw[hb]at wx
 injection wx with wx
 subst wx
 obtain⟨iq,tM⟩:=oU i x hx
 obtain⟨hy0,hay⟩:=oU j y hy
 have hal:=(al7.1 tM).1
 have hyl:=(al7.1 hay).1
 obtain⟨f,fc,la,rfl,rfl,hf,Uk,_,hla⟩:=Sl.at_ ha (i:=x.toNat) (x:=i64 i) (by simp[tM])
 have pJ:=m.ll
 obtain⟨d1,d2,d3,d4⟩:=m.zt b rfl
 obtain⟨g1,g2,g3⟩:=m.Kk f rfl
 have WB:b≠f:=fun e=>d4 (by rw[e])
 refine be DL ⟨rfl,?_⟩
 refine v2 mX.eq_1 (ae ho) ?_
 refine⟨by omega,?_⟩
 refine v5 (ae hb) ama hby (ae ho) Int.toNat_natCast ?_
 refine⟨by omega,?_⟩
 refine v4 (ae hb) ama pt Int.toNat_natCast ?_
 refine⟨by omega,?_⟩
 refine v3 hb ama Int.toNat_natCast ?_
 refine⟨by omega,?_⟩
 refine v1 al6 ?_
 refine⟨by omega,?_⟩
 simp(disch:=(first|omega| (simp only[Zs]<;>omega)|fail)) only[go_sem, ↓reduceIte,Zv,aj hb,ama,Int.toNat_natCast]
 refine⟨by rw[al8];omega,?_⟩
 refine v1 al6 ?_
 have e1:ai (fun z=>z=b) H (H.wr b ((lb.set i (i64 y)).set j (i64 x))):=(ai.refl (fun z=>z=b) _).wr (fun _=>rfl) _
 have ob:(H.wr b ((lb.set i (i64 y)).set j (i64 x))).own b=some ((lb.set i (i64 y)).set j (i64 x)):=aj hb
 have s1:=(hs.vX hb i (i64 y)).vX (aj hb) j (i64 x)
 rw[OZ]at s1
 generalize H.wr b ((lb.set i (i64 y)).set j (i64 x))=H1 at*
 have P9:=e1.own ho (Ne.symm d3)
 have Dk:=e1.own hn (Ne.symm d2)
 have hf1:=e1.own hf (Ne.symm WB)
 have Vf:=ha.ext e1 (fun z hz h=>by injection hz with hz;exact WB (h.symm.trans hz.symm))
 have c1:=m.cells.ext e1 (fun z hz h=>d1 (h▸hz))
 have gi:((lb.set i (i64 y)).set j (i64 x))[i]? =some (i64 y):=by rw[amc (Ne.symm KZ),amd (by omega)]
 have gj:((lb.set i (i64 y)).set j (i64 x))[j]? =some (i64 x):=by rw[amd (by rw[al8];omega)]
 refine v4 (ae ho) (ae hn) (ae P9) (ae Dk) ?_
 refine⟨by omega,?_⟩
 refine v6 (ae ob) ama gi (ae P9) (ae Dk) Int.toNat_natCast ?_
 refine⟨by omega,?_⟩
 refine v4 (ae ob) ama gj Int.toNat_natCast ?_
 refine⟨by omega,?_⟩
 refine v3 hf1 ama al6 ?_
 refine⟨by omega,?_⟩
 refine v1 al6 ?_
 refine⟨by omega,?_⟩
 simp(disch:=(first|omega| (simp only[Zs]<;>omega)|fail)) only[go_sem, ↓reduceIte,Zv,aj hf1,ama,al6]
 refine⟨by rw[al8];omega,?_⟩
 refine v1 al6 ?_
 have e2:ai (fun z=>z=f) H1 (H1.wr f ((la.set y.toNat (i64 i)).set x.toNat (i64 j))):=(ai.refl (fun z=>z=f) _).wr (fun _=>rfl) _
 have s2:=(Vf.vX hf1 y.toNat (i64 i)).vX (aj hf1) x.toNat (i64 j)
 rw[OZ]at s2
 have ex:=uH hx
 have ey:=uH hy
 refine⟨rfl,⟨⟨_,e2.own Dk (Ne.symm g2),?_⟩,c1.ext e2 (fun z hz h=>g1 (h▸hz)),⟨_,e2.own P9 (Ne.symm g3),?_⟩,m.nC,m.rC,m.rn,m.zt,m.Kk,by rw[ie];exact m.ll⟩,(e1.mono fun z _ hz=>.inl (by rw[hz])).trans (e2.mono fun z _ hz=>.inr (by rw[hz]))⟩
 ·unfold CE
  rw[ex,ey,al8,al8,amO,amO]
  exact s2
 ·have:=s1.ext e2 (fun z hz h=>by injection hz with hz;exact WB (hz.trans h))
  unfold swp
  rw[ex,ey,al8,al8,amO,amO]
  exact this
end
structure qK(n c:Nat)(C:Nat→Prop)(rv:Value)(r:Nat)(fp fa:Option Nat)(st:Int)(w:Nw)(l at_:List Int)(mm:Nat)(H H':Hp)(l' pA:List Int)(q:Nat):Prop where
 my:jo H' n c C rv r fp fa (min (st+q) 4611686018427387904) w l' pA
 ok:pN l' pA
 mem:∀z,z∈l'↔z∈l
 len:l'.length=l.length
 drop:l'.drop mm=l.drop mm
 LY:pA.length=at_.length
 off:∀z:Int,0≤z→z∉l→pA[z.toNat]? =at_[z.toNat]?
 ext:ai (fun z=>C z∨fp=some z∨fa=some z) H H'
section
variable {H H1 : Hp} {n c : Nat} {C : Nat → Prop} {rv : Value} {r : Nat} {fp fa : Option Nat} {st : Int} {w : Nw} {l at_ l1 IV : List Int} {mm q : Nat}
theorem qK.refl(m:jo H n c C rv r fp fa st w l at_)(oU:pN l at_)(mm:Nat):qK n c C rv r fp fa st w l at_ mm H H l at_ 0:=
 ⟨by have:=m.cells.st;rw[show min (st+((0:Nat):Int)) 4611686018427387904=st by omega];exact m,oU,fun _=>Iff.rfl,rfl,rfl,rfl,fun _ _ _=>rfl,ai.refl _ _⟩
theorem qK.less(h:qK n c C rv r fp fa st w l at_ mm H H1 l1 IV q)(bS:∀z∈l,cZ w.cs z){i j:Nat}(hi:i<l.length)(hj:j<l.length):jj Tryz.prog (pv r) "Less" [i64 i,i64 j] H1 fun v H2=>
  v= .bool (aV w (l1.getD i 0) (l1.getD j 0))∧qK n c C rv r fp fa st w l at_ mm H H2 l1 IV (q+1):=by
 have hl:=h.len
 refine⟨_,_,sR,ptr r,rfl,bF (by kernel_rfl),(G2 h.my (by omega) (by omega) (fun z hz=>bS z ((h.mem z).1 hz))).mono ?_⟩
 rintro v H2 ⟨hv,m2,e2⟩
 refine⟨hv,?_,h.ok,h.mem,h.len,h.drop,h.LY,h.off,h.ext.trans (e2.mono fun z _ hz=>.inl hz)⟩
 rw[show min (st+((q+1:Nat):Int)) 4611686018427387904=min (min (st+(q:Int)) 4611686018427387904+1) 4611686018427387904 by omega]
 exact m2
theorem qK.swap(h:qK n c C rv r fp fa st w l at_ mm H H1 l1 IV q)(hm:mm≤l.length){i j:Nat}(hi:i<mm)(hj:j<mm)(KZ:i≠j):jj Tryz.prog (pv r) "Swap" [i64 i,i64 j] H1 fun v H2=>
  v= .tuple [].toArray∧qK n c C rv r fp fa st w l at_ mm H H2 (swp l1 i j) (CE l1 IV i j) q:=by
 have hl:=h.len
 refine⟨_,_,sT,ptr r,rfl,bF (by kernel_rfl),(G3 h.my h.ok (i:=i) (j:=j) (by omega) (by omega) KZ).mono ?_⟩
 rintro v H2 ⟨hv,m2,e2⟩
 obtain⟨a1,a2,a3⟩:=h.ok.swp (i:=i) (j:=j) (by omega) (by omega) KZ
 refine⟨hv,m2,a1,fun z=>by rw[Uj (by omega) (by omega),h.mem z],by rw[ie];exact h.len,by rw[Sk hi hj (by omega)];exact h.drop,a2.trans h.LY,fun z hz hm=>?_,h.ext.trans (e2.mono fun z _ hz=>.inr hz)⟩
 rw[a3 z hz (fun h2=>hm ((h.mem z).1 h2))]
 exact h.off z hz hm
set_option maxHeartbeats 1000000 in
theorem uI(m:jo H n c C rv r fp fa st w l at_)(oU:pN l at_){j mm:Nat}(hj:j<mm)(hm:mm≤l.length)(bS:∀z∈l,cZ w.cs z)(hA:dK (aV w) 2 (l.take mm) j)
  (hB:∀k,1≤k→k< (l.take mm).length→pa 2 k=j→aV w ((l.take mm).getD k 0) ((l.take mm).getD j 0)=false):
  ah Tryz.prog yI [pv r,i64 j] H fun v H'=>ay (v= .tuple [].toArray∧∃ (l' pA:List Int) (q:Nat),qK n c C rv r fp fa st w l at_ mm H H' l' pA q∧eZ (aV w) 2 (l'.take mm)∧q≤nQ 2 j∧(1≤j→0<q)):=by
 have ho:=aq w
 have pJ:=m.ll
 refine be zo ⟨rfl,?_⟩
 refine v1 ja.eq_1 ?_
 refine bA.intro (fun k env H'=>∃ (j':Nat) (l1 IV:List Int) (q:Nat),env=[(0,pv r),(1,i64 j')]∧k=j'∧j'<mm∧qK n c C rv r fp fa st w l at_ mm H H' l1 IV q∧dK (aV w) 2 (l1.take mm) j'∧
   (∀k,1≤k→k< (l1.take mm).length→pa 2 k=j'→aV w ((l1.take mm).getD k 0) ((l1.take mm).getD j' 0)=false)∧q+nQ 2 j'≤nQ 2 j∧(j'≠j→0<q)) j
  ⟨j,l,at_,0,rfl,rfl,hj,qK.refl m oU mm,hA,hB,by omega,fun h=>absurd rfl h⟩ ?_
 clear hA hB
 rintro j' env H1 ⟨_,l1,IV,q,rfl,rfl,hj',h1,hA,hB,hq,Vo⟩
 have vw:=h1.len
 have wu:=pa2 j'
 have aeP:IntKind.i64.wrap ((IntKind.i64.wrap ((j':Int) - 1)).tdiv 2)=((pa 2 j':Nat):Int):=by
  rw[wrap64 (n:=(j':Int) - 1) (by omega) (by omega),wu]
  split
  ·rename_i h;subst h;rfl
  ·rw[Int.tdiv_eq_ediv_of_nonneg (by omega),wrap64 (by omega) (by omega)]
 simp(disch:=(first|omega| (simp only[Zs]<;>omega)|fail)) only[go_sem, ↓reduceIte,Zv,if_neg (show¬ ((2:Int)=0) by decide)]
 rw[aeP]
 have MT:(l1.take mm).length=mm:=by rw[amS];omega
 by_cases h0:j'=0
 ·refine ak.cE (amj (by rw[wu,if_pos h0,h0];rfl)) ?_
  refine vs ?_
  exact⟨rfl,l1,IV,q,h1,hA.heap hB (fun h=>by omega),by omega,fun h=>Vo (by omega)⟩
 ·have MX:=cM dO (j:=j') (by omega)
  refine ak.aX (amm (by omega)) ?_
  refine vs ?_
  refine jj.mono (h1.less bS (i:=j') (j:=pa 2 j') (by omega) (by omega)) ?_
  rintro _ H2 ⟨rfl,h2⟩
  have E0:nQ 2 (j':Int)=nQ 2 ((pa 2 j':Nat):Int)+1:=by
   obtain⟨p,hp,Q0,p0,p1⟩:=qC dO (i:=(j':Int)) (by omega)
   rw[Int.toNat_natCast]at Q0
   rw[tm hp,show p=((pa 2 j':Nat):Int) by omega]
  refine vs ?_
  cases aR:aV w (l1.getD j' 0) (l1.getD (pa 2 j') 0)with
  |false=>
   refine vs ?_
   refine⟨rfl,l1,IV,q+1,h2,hA.heap hB (fun _ _=>?_),by omega,fun _=>by omega⟩
   rw[getD_take hj',getD_take (by omega)]
   exact aR
  |true=>
   refine vs ?_
   refine jj.mono (h2.swap hm (i:=pa 2 j') (j:=j') (by omega) hj' (by omega)) ?_
   rintro _ H3 ⟨rfl,h3⟩
   refine vs ?_
   obtain⟨g1,g2⟩:=WJ ho (l:=l1.take mm) (i:=j') (by omega) (by omega) hA hB (by rw[getD_take hj',getD_take (by omega)];exact aR)
   have ht:(swp l1 (pa 2 j') j').take mm=swp (l1.take mm) (pa 2 j') j':=LX (by omega) hj' (by omega)
   exact⟨pa 2 j',by omega,pa 2 j',_,_,q+1,rfl,rfl,by omega,h3,by rw[ht];exact g1,by rw[ht];exact g2,by omega,fun _=>by omega⟩
set_option maxHeartbeats 2000000 in
theorem xB(m:jo H n c C rv r fp fa st w l at_)(oU:pN l at_){i0 mm:Nat}(hi:i0<mm)(hm:mm≤l.length)(bS:∀z∈l,cZ w.cs z)(hA:dK (aV w) 2 (l.take mm) i0):
  ah Tryz.prog vH [pv r,i64 i0,i64 mm] H fun v H'=>ay (∃ (b:Bool) (l' pA:List Int) (q:Nat),v= .bool b∧qK n c C rv r fp fa st w l at_ mm H H' l' pA q∧q+2*nQ 2 i0≤2*nQ 2 ((mm:Int) - 1)∧
   (b=true→eZ (aV w) 2 (l'.take mm))∧(b=false→l'=l∧pA=at_∧∀k,1≤k→k< (l.take mm).length→pa 2 k=i0→aV w ((l.take mm).getD k 0) ((l.take mm).getD i0 0)=false)):=by
 have ho:=aq w
 have pJ:=m.ll
 refine be vU ⟨rfl,?_⟩
 refine v1 fX.eq_1 ?_
 have GR:∀k:Nat,k<mm→nQ 2 (k:Int)≤nQ 2 ((mm:Int) - 1):=fun k hk=>nR dO ((mm:Int) - 1).toNat _ _ (ami _) (by omega)
 refine bA.intro (fun k env H'=>∃ (i:Nat) (l1 IV:List Int) (q:Nat),env=[(0,pv r),(1,i64 i0),(2,i64 mm),(7,i64 i)]∧k=mm - i∧i<mm∧i0≤i∧qK n c C rv r fp fa st w l at_ mm H H' l1 IV q∧dK (aV w) 2 (l1.take mm) i∧
   q+2*nQ 2 i0≤2*nQ 2 i∧(i0<i→aV w ((l1.take mm).getD i 0) ((l1.take mm).getD (pa 2 i) 0)=false)∧(i=i0→l1=l∧IV=at_)) (mm - i0)
  ⟨i0,l,at_,0,rfl,rfl,hi,ami _,qK.refl m oU mm,hA,by omega,fun h=>by omega,fun _=>⟨rfl,rfl⟩⟩ ?_
 clear hA
 rintro k env H1 ⟨i,l1,IV,q,rfl,rfl,him,Fw,h1,hA,hq,hD,O0⟩
 have vw:=h1.len
 have MT:(l1.take mm).length=mm:=by rw[amS];omega
 have stay:∀ (H2:Hp) (q':Nat),qK n c C rv r fp fa st w l at_ mm H H2 l1 IV q'→q'+2*nQ 2 i0≤2*nQ 2 ((mm:Int) - 1)→(∀k,1≤k→k< (l1.take mm).length→pa 2 k=i→aV w ((l1.take mm).getD k 0) ((l1.take mm).getD i 0)=false)→
   ∃ (b:Bool) (l' pA:List Int) (q:Nat),Value.bool (decide ((i:Int)>i0))= .bool b∧qK n c C rv r fp fa st w l at_ mm H H2 l' pA q∧q+2*nQ 2 i0≤2*nQ 2 ((mm:Int) - 1)∧
    (b=true→eZ (aV w) 2 (l'.take mm))∧(b=false→l'=l∧pA=at_∧∀k,1≤k→k< (l.take mm).length→pa 2 k=i0→aV w ((l.take mm).getD k 0) ((l.take mm).getD i0 0)=false):=by
  intro H2 q' h2 hq' hB
  refine⟨_,l1,IV,q',rfl,h2,hq',fun h=>?_,fun h=>?_⟩
  ·have:=of_decide_eq_true h
   exact hA.heap hB (fun _ _=>hD (by omega))
  ·have:=of_decide_eq_false h
   have e:i=i0:=by omega
   obtain⟨e1,e2⟩:=O0 e
   subst e1 e2 e
   exact⟨rfl,rfl,hB⟩
 have PX:∀k:Nat,1≤k→(pa 2 k=i↔(2*i+1≤k∧k≤2*i+2)):=fun k hk=>by
  have:=RZ dO (i:=i) hk
  rw[this]
  omega
 refine vs ?_
 have hj1:IntKind.i64.wrap (IntKind.i64.wrap (2*(i:Int))+1)=((2*i+1:Nat):Int):=by
  rw[wrap64 (n:=2*(i:Int)) (by omega) (by omega),wrap64 (by omega) (by omega)];omega
 rw[hj1]
 refine ak.dec (fun Sp=>?_) (fun Sp=>?_)
 ·refine vs ?_
  exact stay H1 q h1 (by have:=GR i him;omega) (fun k h2 h3 h4=>by have:=(PX k h2).1 h4;omega)
 refine vs ?_
 refine ak.aX (amm (by omega)) ?_
 refine vs ?_
 have De:2*i+1<mm:=by omega
 refine WL (fun e H2=>e.find 0=some (pv r)∧e.find 1=some (i64 i0)∧e.find 2=some (i64 mm)∧e.find 7=some (i64 i)∧∃ (b:Nat) (q':Nat),e.find 9=some (i64 b)∧qK n c C rv r fp fa st w l at_ mm H H2 l1 IV q'∧q'≤q+1∧1≤b∧b<mm∧pa 2 b=i∧
   ∀k,1≤k→k< (l1.take mm).length→pa 2 k=i→aV w ((l1.take mm).getD k 0) ((l1.take mm).getD b 0)=false) ?_ ?_
 ·have HX:pa 2 (2*i+1)=i:=(PX _ (by omega)).2 ⟨by omega,by omega⟩
  refine vs ?_
  have kJ:IntKind.i64.wrap (((2*i+1:Nat):Int)+1)=((2*i+2:Nat):Int):=by rw[wrap64 (by omega) (by omega)];omega
  rw[kJ]
  refine ak.dec (fun h2=>?_) (fun h2=>?_)
  ·have wu:pa 2 (2*i+2)=i:=(PX _ (by omega)).2 ⟨by omega,by omega⟩
   refine vs ?_
   refine jj.mono (h1.less bS (i:=2*i+2) (j:=2*i+1) (by omega) (by omega)) ?_
   rintro _ H2 ⟨rfl,g2⟩
   refine vs ?_
   cases aR:aV w (l1.getD (2*i+2) 0) (l1.getD (2*i+1) 0)with
   |false=>
    refine vs ?_
    refine⟨trivial,trivial,trivial,trivial,2*i+1,q+1,rfl,g2,by omega,by omega,De,HX,fun k h3 h4 h5=>?_⟩
    have h6:=(PX k h3).1 h5
    rw[getD_take (by omega),getD_take (by omega)]
    by_cases h7:k=2*i+1
    ·rw[h7];exact ho.xS _
    ·rw[show k=2*i+2 by omega];exact aR
   |true=>
    refine vs ?_
    refine⟨trivial,trivial,trivial,trivial,2*i+2,q+1,rfl,g2,by omega,by omega,by omega,wu,fun k h3 h4 h5=>?_⟩
    have h6:=(PX k h3).1 h5
    rw[getD_take (by omega),getD_take (by omega)]
    by_cases h7:k=2*i+2
    ·rw[h7];exact ho.xS _
    ·rw[show k=2*i+1 by omega];exact ho.asym aR
  ·refine vs ?_
   refine⟨trivial,trivial,trivial,trivial,2*i+1,q,rfl,h1,by omega,by omega,De,HX,fun k h3 h4 h5=>?_⟩
   have h6:=(PX k h3).1 h5
   rw[show k=2*i+1 by omega]
   exact ho.xS _
 rintro e H2 ⟨e0,e1,e2,e7,b,q',e9,h2,hq',PS,Dj,PU,uE⟩
 refine v5 e0 e1 e2 e7 e9 ?_
 refine jj.mono (h2.less bS (i:=b) (j:=i) (by omega) (by omega)) ?_
 rintro _ H3 ⟨rfl,h3⟩
 have E0:nQ 2 (b:Int)=nQ 2 (i:Int)+1:=by
  obtain⟨p,hp,Q0,p0,p1⟩:=qC dO (i:=(b:Int)) (by omega)
  rw[Int.toNat_natCast,PU]at Q0
  rw[tm hp,show p=(i:Int) by omega]
 have hib:=cM dO PS
 refine v5 e0 e1 e2 e7 e9 ?_
 cases aR:aV w (l1.getD b 0) (l1.getD i 0)with
 |false=>
  refine v5 e0 e1 e2 e7 e9 ?_
  refine stay H3 (q'+1) h3 (by have:=GR b Dj;omega) (fun k h4 h5 h6=>?_)
  have h7:=uE k h4 h5 h6
  have h8:aV w ((l1.take mm).getD b 0) ((l1.take mm).getD i 0)=false:=by rw[getD_take Dj,getD_take him];exact aR
  exact ho.nt _ _ _ h7 h8
 |true=>
  refine v5 e0 e1 e2 e7 e9 ?_
  refine jj.mono (h3.swap hm (i:=i) (j:=b) him Dj (by omega)) ?_
  rintro _ H4 ⟨rfl,h4⟩
  refine v5 e0 e1 e2 e7 e9 ?_
  obtain⟨g1,g2⟩:=Sm ho (l:=l1.take mm) (i:=i) (b:=b) PS (by omega) PU hA uE (by rw[getD_take Dj,getD_take him];exact aR)
  have ht:(swp l1 i b).take mm=swp (l1.take mm) i b:=LX him Dj (by omega)
  exact⟨mm - b,by omega,b,_,_,q'+1,rfl,rfl,Dj,by omega,h4,by rw[ht];exact g1,by omega,fun _=>by rw[ht];exact g2,fun h=>by omega⟩
end
end Go.Proofs.YtjlnnljohemifaaGreat

namespace Go.Proofs.YtjlnnljohemifaaGreat
open Go Go.Vc
section
variable {H : Hp} {n c : Nat} {C : Nat → Prop} {rv : Value} {r : Nat} {fp fa : Option Nat} {st : Int} {w : Nw} {l at_ : List Int}
theorem G4(m:jo H n c C rv r fp fa st w l at_)(hl:l.length<65536){x:Int}(hx:0≤x∧x.toNat<at_.length):ah Tryz.prog sS [ptr r,.iface 3 (i64 x)] H fun v H'=>ay (
  v= .tuple [].toArray∧∃fL,jo H' n c C rv r fL fa st w (l++[x]) (at_.set x.toNat l.length)∧ai (fun z=>fp=some z∨fa=some z∨z=r) H H'∧(fL=fp∨∃z,fL=some z∧H.size≤z)):=by
 obtain⟨av,hn,ha⟩:=m.own
 obtain⟨sv,ho,hs⟩:=m.my
 obtain⟨y,hy⟩:∃y,at_[x.toNat]? =some y:=⟨_,al5 hx.2⟩
 obtain⟨f,fc,la,rfl,rfl,hf,Uk,_,hla⟩:=Sl.at_ ha (i:=x.toNat) (x:=i64 y) (by simp[hy])
 obtain⟨g1,g2,g3⟩:=m.Kk f rfl
 obtain⟨sa,sc,PY⟩:=ep.RX hs.rd
 refine be DK ⟨rfl,?_⟩
 refine v1 mW.eq_1 ?_
 refine v3 (ae ho) (ae hn) PY ?_
 refine⟨by omega,?_⟩
 refine v3 hf ama al6 ?_
 refine⟨by omega,?_⟩
 refine v1 al6 ?_
 have e1:ai (fun z=>z=f) H (H.wr f (la.set x.toNat (i64 l.length))):=(ai.refl (fun z=>z=f) _).wr (fun _=>rfl) _
 have s1:=ha.vX hf x.toNat (i64 l.length)
 have Dk:=e1.own hn (Ne.symm g2)
 have P9:=e1.own ho (Ne.symm g3)
 have eR:=hs.ext e1 (fun z hz h=>(m.zt z hz).2.2.2 (by rw[h]))
 have c1:=m.cells.ext e1 (fun z hz h=>g1 (h▸hz))
 generalize H.wr f (la.set x.toNat (i64 l.length))=H1 at*
 have e2:ai (fun _=>False) H1 (H1.new 3 [i64 x]):=(ai.refl _ _).new _ _
 refine v1 (ae ho) ?_
 refine Sl.append (eR.ext e2 (fun _ _ h=>h)) (Sl.dE (size:=1) (xs:=[i64 x]) rfl rfl).rd rfl (by intro v hv;simp only[amg]at hv;subst hv;rfl) (by omega) ?_
 intro sv' H3 fL s3 e3 mr
 have z1:=e1.size
 have hrs:=aO P9
 have OX:=aO Dk
 have HQ:ai (fun z=>fp=some z) H1 H3:=(e2.mono fun _ _ h=>h.elim).ut e3 (fun z _ h=>h)
 have ho3:=HQ.own P9 (fun h=>(m.zt r h).2.2.1 rfl)
 have hn3:=HQ.own Dk (fun h=>(m.zt n h).2.1 rfl)
 obtain⟨a',WK,O1⟩:=ep.RX s3.rd
 subst O1
 refine v1 ho3 ?_
 generalize O1:Value.slice a' (l.length+1) WK=v' at*
 have e4:ai (fun z=>z=r) H3 (H3.wr r [ptr n,v']):=(ai.refl (fun z=>z=r) _).wr (fun _=>rfl) _
 have hfs:=aO hf
 have FK:∀b,fL=some b→fp=some b∨H1.size≤b:=fun b hb=>by
  rcases mr with h| ⟨z,h,h5,_⟩
  ·exact .inl (h▸hb)
  ·rw[h]at hb;injection hb with hb;subst hb;rw[au]at h5;exact .inr (by omega)
 have zF:=c1.slt
 refine⟨rfl,fL,⟨⟨_,e4.own hn3 (Ne.symm m.rn),?_⟩,(c1.ext HQ (fun z hz h=>(m.zt z h).1 hz)).ext e4 (fun z hz h=>m.rC (h▸hz)),⟨_,aj ho3,?_⟩,m.nC,m.rC,m.rn,fun b hb=>?_,m.Kk,by rw[amh,amx];omega⟩,
  (e1.mono fun z _ hz=>.inr (.inl (by rw[hz]))).trans ((HQ.mono fun z _ hz=>.inl hz).trans (e4.mono fun z _ hz=>.inr (.inr hz))),?_⟩
 ·have:=((s1.ext HQ (fun z hz h=>(m.zt z h).2.2.2 hz)).ext e4 (fun z hz h=>by injection hz with hz;exact g3 (hz.trans h)))
  rw[al8,amO]
  exact this
 ·have:=s3.ext e4 (fun b hb h=>by
   rcases FK b hb with h5|h5
   ·exact(m.zt b h5).2.2.1 h
   ·omega)
  rw[amh,amU]
  exact this
 ·rcases FK b hb with h5|h5
  ·exact m.zt b h5
  ·refine⟨fun h=>?_,by omega,by omega,fun h=>?_⟩
   ·have:=zF b h;omega
   ·injection h with h;omega
 ·rcases mr with h| ⟨z,h,h5,_⟩
  ·exact .inl h
  ·exact .inr ⟨z,h,by rw[au]at h5;omega⟩
theorem IW(m:jo H n c C rv r fp fa st w l at_)(hl:0<l.length):ah Tryz.prog u9 [ptr r] H fun v H'=>ay (
  (∃x,v= .iface 3 (i64 x))∧jo H' n c C rv r fp fa st w l.dropLast at_∧ai (fun z=>z=r) H H'):=by
 obtain⟨av,hn,ha⟩:=m.own
 obtain⟨sv,ho,hs⟩:=m.my
 have pJ:=m.ll
 obtain⟨x,hx⟩:∃x,l[l.length - 1]? =some x:=⟨_,al5 (by omega)⟩
 obtain⟨f,cc,lb,rfl,rfl,hb,pt,_,HS⟩:=Sl.at_ hs (i:=l.length - 1) (x:=i64 x) (by simp[hx])
 have e1:IntKind.i64.wrap ((l.length:Int) - 1)=((l.length - 1:Nat):Int):=by rw[wrap64 (by omega) (by omega)];omega
 obtain⟨_,l2,c2,D9,g2,a5,a6,a7⟩:=id hs
 injection D9 with _ _ D9
 subst D9
 rw[hb]at g2
 injection g2 with g2
 subst g2
 refine be Fk ⟨rfl,?_⟩
 simp(disch:=(first|omega| (simp only[Zs]<;>omega)|fail)) only[go_sem, ↓reduceIte,Zv,oG,ae ho,e1,Int.toNat_natCast]
 refine⟨by omega,?_⟩
 simp(disch:=(first|omega| (simp only[Zs]<;>omega)|fail)) only[go_sem, ↓reduceIte,Zv,ae hb,ae ho,ama,pt,e1]
 refine⟨by omega,?_⟩
 have PY:Value.slice (if(cc:Int)=((0:Nat):Int)then some (⟨f,0,none⟩:Addr)else Option.map (fun(x:Addr)=>x.add (((0:Nat):Int).toNat*1)) (some (⟨f,0,none⟩:Addr))) (((l.length - 1:Nat):Int).toNat - ((0:Nat):Int).toNat) ((cc:Int).toNat - ((0:Nat):Int).toNat)= .slice (some ⟨f,0,none⟩) (l.length - 1) cc:=by
  split<;>rfl
 refine v2 (ae ho) ho ?_
 rw[PY]
 have ew:ai (fun z=>z=r) H (H.wr r [ptr n,.slice (some ⟨f,0,none⟩) (l.length - 1) cc]):=(ai.refl (fun z=>z=r) _).wr (fun _=>rfl) _
 obtain⟨d1,d2,d3,d4⟩:=m.zt f rfl
 refine⟨⟨_,rfl⟩,⟨⟨_,ew.own hn (Ne.symm m.rn),ha.ext ew (fun z hz h=>(m.Kk z hz).2.2 h)⟩,m.cells.ext ew (fun z hz h=>m.rC (h▸hz)),⟨_,aj ho,?_⟩,m.nC,m.rC,m.rn,m.zt,m.Kk,by rw[amC];omega⟩,ew⟩
 refine⟨by simp,lb,cc,by rw[amC],ew.own hb d3,by rw[amC];omega,a6,?_⟩
 have hx7:((l.map i64).length)=l.length:=by simp
 rw[amC,List.map_dropLast,anv,hx7,←a7,an7]
 congr 1
 omega
theorem G5(m:jo H n c C rv r fp fa st w l at_)(oU:pN l at_)(hl:l.length<65536){x:Int}(hx:0≤x∧x.toNat<at_.length)(rB:x∉l)(aeR:cZ w.cs x)(bS:∀z∈l,cZ w.cs z)(hh:eZ (aV w) 2 l):
  ah Tryz.prog vG [pv r,.iface 3 (i64 x)] H fun v H'=>ay (v= .tuple [].toArray∧∃ (fL:Option Nat) (l' pA:List Int) (q:Nat),jo H' n c C rv r fL fa (min (st+q) 4611686018427387904) w l' pA∧pN l' pA∧eZ (aV w) 2 l'∧(∀z,z∈l'↔z=x∨z∈l)∧l'.length=l.length+1∧
   pA.length=at_.length∧(∀z:Int,0≤z→z≠x→z∉l→pA[z.toNat]? =at_[z.toNat]?)∧q≤nQ 2 l.length∧(0<l.length→0<q)∧ai (fun z=>C z∨fp=some z∨fa=some z∨z=r) H H'∧(fL=fp∨∃z,fL=some z∧H.size≤z)):=by
 refine be vT ⟨rfl,?_⟩
 refine v1 fW.eq_1 ?_
 refine jj.mono (K:=fun v H'=>v= .tuple [].toArray∧∃fL,jo H' n c C rv r fL fa st w (l++[x]) (at_.set x.toNat l.length)∧ai (fun z=>fp=some z∨fa=some z∨z=r) H H'∧(fL=fp∨∃z,fL=some z∧H.size≤z)) ⟨_,_,sS,ptr r,rfl,bF (by kernel_rfl),G4 m hl hx⟩ ?_
 rintro _ H1 ⟨rfl,fL,m1,e1,oO⟩
 refine vs ?_
 refine jj.mono (K:=fun v H'=>v=i64 (l++[x]).length∧H1=H') ⟨_,_,js,ptr r,rfl,bF (by kernel_rfl),sk m1⟩ ?_
 rintro _ _ ⟨rfl,rfl⟩
 refine vs ?_
 have bm:(l++[x]).length=l.length+1:=by simp
 rw[show IntKind.i64.wrap (((l++[x]).length:Int) - 1)=((l.length:Nat):Int) by rw[bm,wrap64 (by omega) (by omega)];omega]
 have aeS:pN (l++[x]) (at_.set x.toNat l.length):=fun i z hz=>by
  rcases anC i l.length with h|h|h
  ·rw[amn h]at hz
   obtain⟨a,b⟩:=oU i z hz
   have aT:x.toNat≠z.toNat:=fun e=>rB (by rw[show x=z by omega];exact amb hz)
   rw[amc aT]
   exact⟨a,b⟩
  ·subst h
   rw[amw (ami _),am3]at hz
   simp only[amz,ame]at hz
   subst hz
   rw[amd hx.2]
   exact⟨hx.1,rfl⟩
  ·rw[amk (by omega)]at hz;cases hz
 have ht:(l++[x]).take (l++[x]).length=l++[x]:=amB
 have Sp:∀k,k<l.length→(l++[x]).getD k 0=l.getD k 0:=fun k hk=>by rw[al9,amn hk,al9]
 have MX:∀k:Nat,1≤k→k<l.length+1→pa 2 k≠l.length:=fun k h1 h2=>by have:=cM dO h1;omega
 refine(uI m1 aeS (j:=l.length) (mm:=(l++[x]).length) (by omega) (ami _) (fun z hz=>?_) (by
  rw[ht]
  refine⟨fun k h1 h2 h3 h4=>?_,fun k h1 h2 h3 h4=>absurd h3 (MX k h1 (by omega))⟩
  have:=cM dO h1
  rw[Sp k (by omega),Sp _ (by omega)]
  exact hh k h1 (by omega)) (fun k h1 h2 h3=>absurd h3 (MX k h1 (by rw[ht]at h2;omega)))).mono ?_
 ·rcases aml.1 hz with h|h
  ·exact bS z h
  ·rw[amg]at h;rw[h];exact aeR
 rintro _ H2 ⟨rfl,l',pA,q,g,kD,hq,Vo⟩
 have NE:=g.len
 rw[←NE,amB]at kD
 refine vs ?_
 refine⟨rfl,fL,l',pA,q,g.my,g.ok,kD,fun z=>?_,by omega,by rw[g.LY,al8],fun z hz h1 h2=>?_,hq,fun h=>Vo (by omega),(e1.mono fun z _ hz=>.inr hz).ut g.ext (fun z ZH hz=>?_),oO⟩
 ·rw[g.mem z,aml,amg]
  exact Or.comm
 ·rw[g.off z hz (fun h=>by rcases aml.1 h with h|h;exact h2 h;exact h1 (amg.1 h)),amc (by omega)]
 ·rcases hz with hz|hz|hz
  ·exact .inl hz
  ·rcases oO with h| ⟨y,h,h5⟩
   ·exact .inr (.inl (h▸hz))
   ·rw[h]at hz;injection hz with hz;omega
  ·exact .inr (.inr (.inl hz))
theorem IX(m:jo H n c C rv r fp fa st w l at_)(oU:pN l at_){i:Nat}(hi:i<l.length)(bS:∀z∈l,cZ w.cs z)(hA:dK (aV w) 2 l i):
  ah Tryz.prog wI [pv r,i64 i] H fun v H'=>ay (v= .tuple [].toArray∧∃ (l' pA:List Int) (q:Nat),qK n c C rv r fp fa st w l at_ l.length H H' l' pA q∧eZ (aV w) 2 l'∧q≤2*nQ 2 ((l.length:Int) - 1)):=by
 have pJ:=m.ll
 have ht:l.take l.length=l:=amB
 refine be xb ⟨rfl,?_⟩
 refine v1 gY.eq_1 ?_
 refine jj.mono (K:=fun v H'=>v=i64 l.length∧H=H') ⟨_,_,js,ptr r,rfl,bF (by kernel_rfl),sk m⟩ ?_
 rintro _ _ ⟨rfl,rfl⟩
 refine vs ?_
 refine(xB m oU hi (ami _) bS (by rw[ht];exact hA)).mono ?_
 rintro _ H1 ⟨b,l1,IV,q1,rfl,g1,U8,hT,hF⟩
 have vw:=g1.len
 cases b with
 |true=>
  have h:=hT rfl
  rw[←vw,amB]at h
  refine vs ?_
  exact⟨rfl,l1,IV,q1,g1,h,by omega⟩
 |false=>
  obtain⟨e1,e2,hB⟩:=hF rfl
  subst e1 e2
  refine vs ?_
  have hm:=(nR dO ((l1.length:Int) - 1).toNat (i:Int) ((l1.length:Int) - 1) (ami _) (by omega))
  refine(uI g1.my g1.ok (j:=i) (mm:=l1.length) hi (ami _) bS (by rw[ht];exact hA) hB).mono ?_
  rintro _ H2 ⟨rfl,l2,YL,q2,g2,kD,hq2,_⟩
  have wh:=g2.len
  rw[←wh,amB]at kD
  refine vs ?_
  refine⟨rfl,l2,YL,q1+q2,⟨?_,g2.ok,g2.mem,g2.len,g2.drop,g2.LY,g2.off,g1.ext.trans g2.ext⟩,kD,by omega⟩
  rw[show min (st+((q1+q2:Nat):Int)) 4611686018427387904=min (min (st+(q1:Int)) 4611686018427387904+(q2:Int)) 4611686018427387904 by omega]
  exact g2.my
end
end Go.Proofs.YtjlnnljohemifaaGreat

namespace Go.Proofs.YtjlnnljohemifaaGreat
open Go Go.Vc
theorem eZ.Kl{lt lt':Int→Int→Bool}{l:List Int}(h:eZ lt 2 l)(hfg:∀z∈l,∀y∈l,lt z y=lt' z y):eZ lt' 2 l:=by
 intro j h1 h2
 have hp:=cM dO h1
 have e:∀k,k<l.length→l.getD k 0∈l:=fun k hk=>by
  rw[al9,al5 hk];exact anW hk
 rw[←hfg _ (e j h2) _ (e _ (show pa 2 j<l.length by omega))]
 exact h j h1 h2
theorem Km{l at_:List Int}(h:pN l at_){x:Int}(hx:l[l.length - 1]? =some x)(z:Int):z∈l.dropLast↔z∈l∧z≠x:=by
 have hl:=(al7.1 hx).1
 rw[anv]
 constructor
 ·intro hz
  obtain⟨k,hk⟩:=amy hz
  rw[amE]at hk
  split at hk
  ·refine⟨amb hk,fun e=>?_⟩
   subst e
   have:=h.GQ hk hx
   omega
  ·cases hk
 ·rintro⟨hz,aT⟩
  obtain⟨k,hk⟩:=amy hz
  have hkl:=(al7.1 hk).1
  have:k≠l.length - 1:=fun e=>by rw[e,hx]at hk;injection hk with hk;exact aT hk.symm
  exact amb (i:=k) (by rw[amA (by omega)];exact hk)
theorem pN.dropLast{l at_:List Int}(h:pN l at_):pN l.dropLast at_:=fun i x hx=>by
 rw[anv,amE]at hx
 split at hx
 ·exact h i x hx
 ·cases hx
section
variable {H : Hp} {n c : Nat} {C : Nat → Prop} {rv : Value} {r : Nat} {fp fa : Option Nat} {st : Int} {w : Nw} {l at_ : List Int}
structure Out(n c:Nat)(C:Nat→Prop)(rv:Value)(r:Nat)(fp fa:Option Nat)(st:Int)(w:Nw)(l at_:List Int)(x:Int)(H H':Hp)(l' pA:List Int)(q:Nat):Prop where
 my:jo H' n c C rv r fp fa (min (st+q) 4611686018427387904) w l' pA
 ok:pN l' pA
 heap:eZ (aV w) 2 l'
 mem:∀z,z∈l'↔z∈l∧z≠x
 len:l'.length+1=l.length
 LY:pA.length=at_.length
 off:∀z:Int,0≤z→z∉l→pA[z.toNat]? =at_[z.toNat]?
 ext:ai (fun z=>C z∨fp=some z∨fa=some z∨z=r) H H'
theorem O2{H1:Hp}{l1 IV:List Int}{mm q:Nat}{x:Int}(h:qK n c C rv r fp fa st w l at_ mm H H1 l1 IV q)(hl:0<l.length)(hx:l1[l1.length - 1]? =some x)(hh:eZ (aV w) 2 (l1.take (l.length - 1))):
  jj Tryz.prog (pv r) "Pop" [] H1 fun v H'=>∃l' pA,Out n c C rv r fp fa st w l at_ x H H' l' pA q:=by
 have bm:=h.len
 refine⟨_,_,u9,ptr r,rfl,bF (by kernel_rfl),(IW h.my (by omega)).mono ?_⟩
 rintro v H2 ⟨_,m2,e2⟩
 refine⟨l1.dropLast,IV,m2,h.ok.dropLast,?_,fun z=>by rw[Km h.ok hx z,h.mem z],by rw[amC];omega,h.LY,h.off,(h.ext.mono fun z _ hz=>?_).trans (e2.mono fun z _ hz=>.inr (.inr (.inr hz)))⟩
 ·rw[anv,bm];exact hh
 ·rcases hz with hz|hz|hz
  ·exact .inl hz
  ·exact .inr (.inl hz)
  ·exact .inr (.inr (.inl hz))
theorem Ea(m:jo H n c C rv r fp fa st w l at_)(oU:pN l at_){i:Nat}(hi:i<l.length)(bS:∀z∈l,cZ w.cs z)(hh:eZ (aV w) 2 l):
  ah Tryz.prog sQ [pv r,i64 i] H fun v H'=>ay (∃ (l' pA:List Int) (q:Nat),Out n c C rv r fp fa st w l at_ (l.getD i 0) H H' l' pA q∧q≤2*nQ 2 ((l.length:Int) - 1)):=by
 have pJ:=m.ll
 refine be tg ⟨rfl,?_⟩
 refine v1 eQ.eq_1 ?_
 refine jj.mono (K:=fun v H'=>v=i64 l.length∧H=H') ⟨_,_,js,ptr r,rfl,bF (by kernel_rfl),sk m⟩ ?_
 rintro _ _ ⟨rfl,rfl⟩
 refine vs ?_
 rw[show IntKind.i64.wrap ((l.length:Int) - 1)=((l.length - 1:Nat):Int) by rw[wrap64 (by omega) (by omega)];omega]
 have h0:=qK.refl m oU l.length
 have hgi:l[i]? =some (l.getD i 0):=by rw[al9,al5 hi];rfl
 refine ak.dec (fun he=>?_) (fun he=>?_)
 ·refine vs ?_
  have tK:i=l.length - 1:=by omega
  refine jj.mono (O2 h0 (by omega) (x:=l.getD i 0) (by rw[←tK];exact hgi) (fun j h1 h2=>by
   rw[amS]at h2
   have:=cM dO h1
   rw[getD_take (by omega),getD_take (by omega)]
   exact hh j h1 (by omega))) ?_
  rintro v H2 ⟨l',pA,o⟩
  refine vs ?_
  exact⟨l',pA,0,o,by omega⟩
 ·refine vs ?_
  have FJ:i<l.length - 1:=by omega
  refine jj.mono (h0.swap (ami _) (i:=i) (j:=l.length - 1) hi (by omega) (by omega)) ?_
  rintro _ H1 ⟨rfl,h1⟩
  refine vs ?_
  have hg:=CD (l:=l) (i:=i) (j:=l.length - 1) hi (by omega)
  have vw:=h1.len
  have WM:dK (aV w) 2 ((swp l i (l.length - 1)).take (l.length - 1)) i:=by
   have hb:=hh.but (aq w) dO i
   refine⟨fun j h2 h3 h4 h5=>?_,fun j h2 h3 h4 h5=>?_⟩
   ·rw[amS]at h3
    have:=cM dO h2
    rw[getD_take (by omega),getD_take (by omega),hg,hg,if_neg (by omega),if_neg h4,if_neg (by omega),if_neg h5]
    exact hb.1 j h2 (by omega) h4 h5
   ·rw[amS]at h3
    have:=cM dO h2
    have:=cM dO h5
    rw[getD_take (by omega),getD_take (by omega),hg,hg,if_neg (by omega),if_neg (by omega),if_neg (by omega),if_neg (by omega)]
    exact hb.2 j h2 (by omega) h4 h5
  have NF:∀z∈swp l i (l.length - 1),cZ w.cs z:=fun z hz=>bS z ((h1.mem z).1 hz)
  have jq:(swp l i (l.length - 1))[l.length - 1]? =some (l.getD i 0):=by rw[pM hi (by omega),if_pos rfl];exact hgi
  have fin:∀ {H2:Hp} {l2 YL:List Int} {q:Nat},qK n c C rv r fp fa (min (st+((0:Nat):Int)) 4611686018427387904) w (swp l i (l.length - 1)) (CE l at_ i (l.length - 1)) (l.length - 1) H1 H2 l2 YL q→eZ (aV w) 2 (l2.take (l.length - 1))→
    jj Tryz.prog (pv r) "Pop" [] H2 fun v H'=>∃l' pA,Out n c C rv r fp fa st w l at_ (l.getD i 0) H H' l' pA q:=by
   intro H2 l2 YL q g kD
   have uB:=m.cells.st
   have g':qK n c C rv r fp fa st w l at_ l.length H H2 l2 YL q:=by
    refine⟨?_,g.ok,fun z=>by rw[g.mem z,h1.mem z],g.len.trans vw,?_,g.LY.trans h1.LY,fun z hz hm=>?_,h1.ext.trans g.ext⟩
    ·have:=g.my
     rw[show min (min (st+((0:Nat):Int)) 4611686018427387904+(q:Int)) 4611686018427387904=min (st+(q:Int)) 4611686018427387904 by omega]at this
     exact this
    ·rw[anH (by rw[g.len];omega),anH (ami _)]
    ·rw[g.off z hz (fun h=>hm ((h1.mem z).1 h))];exact h1.off z hz hm
   refine O2 g' (by omega) ?_ kD
   have hd:=g.drop
   have h2:(l2.drop (l.length - 1))[0]? =((swp l i (l.length - 1)).drop (l.length - 1))[0]? :=by rw[hd]
   rw[amF,amF,Nat.add_zero,jq]at h2
   rw[g.len,vw]
   exact h2
  have GR:=nR dO ((l.length:Int) - 1).toNat (((l.length - 1:Nat):Int) - 1) ((l.length:Int) - 1) (ami _) (by omega)
  refine(xB h1.my h1.ok (i0:=i) (mm:=l.length - 1) FJ (by rw[vw];omega) NF WM).mono ?_
  rintro _ H2 ⟨b,l2,YL,q1,rfl,g2,U8,hT,hF⟩
  cases b with
  |true=>
   refine vs ?_
   refine jj.mono (fin g2 (hT rfl)) ?_
   rintro v H3 ⟨l',pA,o⟩
   refine vs ?_
   exact⟨l',pA,q1,o,by omega⟩
  |false=>
   obtain⟨e1,e2,hB⟩:=hF rfl
   subst e1 e2
   have hmi:=nR dO (((l.length - 1:Nat):Int) - 1).toNat (i:Int) (((l.length - 1:Nat):Int) - 1) (ami _) (by omega)
   refine vs ?_
   refine(uI g2.my g2.ok (j:=i) (mm:=l.length - 1) FJ (by rw[vw];omega) NF WM hB).mono ?_
   rintro _ H3 ⟨rfl,l3,at3,q2,g3,kD,hq2,_⟩
   refine vs ?_
   have g23:qK n c C rv r fp fa (min (st+((0:Nat):Int)) 4611686018427387904) w (swp l i (l.length - 1)) (CE l at_ i (l.length - 1)) (l.length - 1) H1 H3 l3 at3 (q1+q2):=by
    refine⟨?_,g3.ok,g3.mem,g3.len,g3.drop,g3.LY,g3.off,g2.ext.trans g3.ext⟩
    have:=g3.my
    rw[show min (min (min (st+((0:Nat):Int)) 4611686018427387904+(q1:Int)) 4611686018427387904+(q2:Int)) 4611686018427387904=min (min (st+((0:Nat):Int)) 4611686018427387904+((q1+q2:Nat):Int)) 4611686018427387904 by omega]at this
    exact this
   refine jj.mono (fin g23 kD) ?_
   rintro v H4 ⟨l',pA,o⟩
   refine vs ?_
   exact⟨l',pA,q1+q2,o,by omega⟩
end
end Go.Proofs.YtjlnnljohemifaaGreat

namespace Go.Proofs.YtjlnnljohemifaaGreat
open Go Go.Vc
structure Pl where
 r:Nat
 fp:Option Nat
 l:List Int
def Pl.S(P:Pl)(x:Nat):Prop:=x=P.r∨P.fp=some x
def TC:Option Pl→Value
 |none=>.pointer none
 |some P=>ptr P.r
structure pB(H:Hp)(n c:Nat)(C:Nat→Prop)(rv:Value)(fr fa:Option Nat)(st:Int)(w:Nw)(ps:List (Option Pl))(at_:List Int):Prop where
 own:∃av,H.own n=some [ptr c,rv,av]∧Sl H 1 av at_.length (at_.map i64) fa
 cells:bv H c C st w
 sl:Sl H 1 rv ps.length (ps.map TC) fr
 my:∀ (h:Nat) P,ps[h]? =some (some P)→∃sv,H.own P.r=some [ptr n,sv]∧Sl H 1 sv P.l.length (P.l.map i64) P.fp
 nC:¬C n
 O3:∀b,fr=some b→¬C b∧b≠n∧fa≠some b
 Kk:∀b,fa=some b→¬C b∧b≠n
 pd:∀ (h:Nat) P,ps[h]? =some (some P)→∀x,P.S x→¬C x∧x≠n∧fr≠some x∧fa≠some x
 pr:∀ (h:Nat) P,ps[h]? =some (some P)→P.fp≠some P.r∧P.l.length≤65536
 pp:∀ (h h':Nat) P P',ps[h]? =some (some P)→ps[h']? =some (some P')→h≠h'→∀x,P.S x→¬P'.S x
def EN(n:Nat)(C:Nat→Prop)(fr fa:Option Nat)(ps:List (Option Pl))(z:Nat):Prop:=C z∨z=n∨fr=some z∨fa=some z∨∃ (h:Nat) (P:Pl),ps[h]? =some (some P)∧P.S z
structure G6(w:Nw)(ps:List (Option Pl))(at_:List Int):Prop where
 hl:ps.length=w.hs.length
 hs:∀h:Nat,w.hs[h]? =some true↔∃P,ps[h]? =some (some P)
 h0:ps[0]? =some none
 ok:∀ (h:Nat) P,ps[h]? =some (some P)→eZ (aV w) 2 P.l
 TD:∀ (h:Nat) P,ps[h]? =some (some P)→pN P.l at_
 mem:∀ (h:Nat) P,ps[h]? =some (some P)→∀x:Int,x∈P.l↔0≤x∧∃e,w.cs[x.toNat]? =some (((h:Nat):Int),e)
 len:∀ (h:Nat) P,ps[h]? =some (some P)→(P.l.length:Int)=w.len h
 LY:at_.length=w.cs.length
def dI(H:Hp)(n:Nat)(S:Nat→Prop)(st:Int)(w:Nw):Prop:=∃c C rv fr fa ps at_,pB H n c C rv fr fa st w ps at_∧G6 w ps at_∧(∀z,EN n C fr fa ps z↔S z)
section
variable {H H' : Hp} {n c : Nat} {C T : Nat → Prop} {rv : Value} {fr fa : Option Nat} {st WN : Int} {w w' : Nw} {ps : List (Option Pl)} {at_ pA : List Int} {S : Nat → Prop}
theorem pB.slt(h:pB H n c C rv fr fa st w ps at_):∀z,EN n C fr fa ps z→z<H.size:=by
 obtain⟨av,ho,ha⟩:=h.own
 rintro z (hz|rfl|hz|hz| ⟨i,P,hP,hz⟩)
 ·exact h.cells.slt z hz
 ·exact aO ho
 ·exact Sl.lt (hz▸h.sl)
 ·exact Sl.lt (hz▸ha)
 ·obtain⟨sv,h1,h2⟩:=h.my i P hP
  rcases hz with rfl|hz
  ·exact aO h1
  ·exact Sl.lt (hz▸h2)
theorem pB.ext(h:pB H n c C rv fr fa st w ps at_)(e:ai T H H')(hd:∀z,EN n C fr fa ps z→¬T z):pB H' n c C rv fr fa st w ps at_:=by
 obtain⟨av,ho,ha⟩:=h.own
 refine⟨⟨av,e.own ho (hd n (.inr (.inl rfl))),ha.ext e (fun b hb=>hd b (.inr (.inr (.inr (.inl hb)))))⟩,h.cells.ext e (fun x hx=>hd x (.inl hx)),h.sl.ext e (fun b hb=>hd b (.inr (.inr (.inl hb)))),fun i P hP=>?_,h.nC,h.O3,h.Kk,h.pd,h.pr,h.pp⟩
 obtain⟨sv,h1,h2⟩:=h.my i P hP
 exact⟨sv,e.own h1 (hd _ (.inr (.inr (.inr (.inr ⟨i,P,hP,.inl rfl⟩))))),h2.ext e (fun b hb=>hd b (.inr (.inr (.inr (.inr ⟨i,P,hP,.inr hb⟩)))))⟩
theorem pB.aK(h:pB H n c C rv fr fa st w ps at_)(c1:bv H' c C WN w')(e:ai C H H'):pB H' n c C rv fr fa WN w' ps at_:=by
 obtain⟨av,ho,ha⟩:=h.own
 refine⟨⟨av,e.own ho h.nC,ha.ext e (fun b hb=>(h.Kk b hb).1)⟩,c1,h.sl.ext e (fun b hb=>(h.O3 b hb).1),fun i P hP=>?_,h.nC,h.O3,h.Kk,h.pd,h.pr,h.pp⟩
 obtain⟨sv,h1,h2⟩:=h.my i P hP
 exact⟨sv,e.own h1 (h.pd i P hP _ (.inl rfl)).1,h2.ext e (fun b hb=>(h.pd i P hP b (.inr hb)).1)⟩
theorem dI.slt(h:dI H n S st w):∀z,S z→z<H.size:=by
 obtain⟨c,C,rv,fr,fa,ps,at_,m,l,hS⟩:=h
 exact fun z hz=>m.slt z ((hS z).2 hz)
theorem dI.ext(h:dI H n S st w)(e:ai T H H')(hd:∀z,S z→¬T z):dI H' n S st w:=by
 obtain⟨c,C,rv,fr,fa,ps,at_,m,l,hS⟩:=h
 exact⟨c,C,rv,fr,fa,ps,at_,m.ext e (fun z hz=>hd z ((hS z).1 hz)),l,hS⟩
theorem dI.fresh(h:dI H n S st w)(e:ax H H'):dI H' n S st w:=h.ext e fun _ _ h=>h
theorem pB.NG(m:pB H n c C rv fr fa st w ps at_){g:Nat}{P:Pl}(hP:ps[g]? =some (some P)):jo H n c C rv P.r P.fp fa st w P.l at_:=by
 have hd:=m.pd g P hP
 refine⟨m.own,m.cells,m.my g P hP,m.nC,(hd P.r (.inl rfl)).1,(hd P.r (.inl rfl)).2.1,fun b hb=>⟨(hd b (.inr hb)).1,(hd b (.inr hb)).2.1,fun h=>(m.pr g P hP).1 (by rw[hb,h]),(hd b (.inr hb)).2.2.2⟩,fun b hb=>⟨(m.Kk b hb).1,(m.Kk b hb).2,fun h=>(hd P.r (.inl rfl)).2.2.2 (by rw[hb,h])⟩,(m.pr g P hP).2⟩
theorem pB.Ko(m:pB H n c C rv fr fa st w ps at_){g:Nat}{P P':Pl}(hP:ps[g]? =some (some P))(hr:P'.r=P.r)(pm:jo H' n c C rv P'.r P'.fp fa WN w' P'.l pA)(mr:P'.fp=P.fp∨∃z,P'.fp=some z∧H.size≤z)
  (e:ai T H H')(hT:∀z,T z→C z∨P.S z∨fa=some z):pB H' n c C rv fr fa WN w' (ps.set g (some P')) pA:=by
 have fH:=m.slt
 have hg:=(al7.1 hP).1
 have hPS:∀x,P'.S x→P.S x∨H.size≤x:=fun x hx=>by
  rcases hx with rfl|hx
  ·exact .inl (.inl hr)
  ·rcases mr with h| ⟨z,h,h5⟩
   ·exact .inl (.inr (h▸hx))
   ·rw[h]at hx;injection hx with hx;exact .inr (by omega)
 have ce:∀ (h:Nat) Q,(ps.set g (some P'))[h]? =some (some Q)→(h=g∧Q=P')∨(h≠g∧ps[h]? =some (some Q)):=fun h Q hQ=>by
  by_cases hh:h=g
  ·subst hh
   rw[amd hg]at hQ
   simp only[ame]at hQ
   exact .inl ⟨rfl,hQ.symm⟩
  ·rw[amc (Ne.symm hh)]at hQ
   exact .inr ⟨hh,hQ⟩
 have hd:=m.pd g P hP
 refine⟨pm.own,pm.cells,?_,fun h Q hQ=>?_,m.nC,m.O3,m.Kk,fun h Q hQ x hx=>?_,fun h Q hQ=>?_,fun h h' Q Q' hQ hQ' aT x hx xi=>?_⟩
 ·have h1:(ps.set g (some P')).map TC=ps.map TC:=by
   rw[amO]
   refine amN fun i=>?_
   by_cases hi:i=g
   ·subst hi
    rw[amd (by rw[amu];exact hg),amo,hP]
    simp[TC,hr]
   ·rw[amc (Ne.symm hi)]
  rw[h1,al8]
  exact m.sl.ext e (fun b hb ht=>by
   rcases hT b ht with h|h|h
   ·exact(m.O3 b hb).1 h
   ·exact(hd b h).2.2.1 hb
   ·exact(m.O3 b hb).2.2 h)
 ·rcases ce h Q hQ with ⟨rfl,rfl⟩| ⟨h1,h2⟩
  ·exact pm.my
  ·obtain⟨sv,q1,q2⟩:=m.my h Q h2
   have cr:∀x,Q.S x→¬T x:=fun x hx ht=>by
    rcases hT x ht with h3|h3|h3
    ·exact(m.pd h Q h2 x hx).1 h3
    ·exact m.pp h g Q P h2 hP h1 x hx h3
    ·exact(m.pd h Q h2 x hx).2.2.2 h3
   exact⟨sv,e.own q1 (cr _ (.inl rfl)),q2.ext e (fun b hb=>cr b (.inr hb))⟩
 ·rcases ce h Q hQ with ⟨rfl,rfl⟩| ⟨h1,h2⟩
  ·rcases hPS x hx with h3|h3
   ·exact hd x h3
   ·refine⟨fun hc=>?_,fun hc=>?_,fun hc=>?_,fun hc=>?_⟩
    ·have:=fH x (.inl hc);omega
    ·have:=fH n (.inr (.inl rfl));omega
    ·have:=fH x (.inr (.inr (.inl hc)));omega
    ·have:=fH x (.inr (.inr (.inr (.inl hc))));omega
  ·exact m.pd h Q h2 x hx
 ·rcases ce h Q hQ with ⟨rfl,rfl⟩| ⟨h1,h2⟩
  ·refine⟨fun hc=>?_,pm.ll⟩
   exact(pm.zt _ hc).2.2.1 rfl
  ·exact m.pr h Q h2
 ·rcases ce h Q hQ with ⟨rfl,rfl⟩| ⟨h1,h2⟩
  ·rcases ce h' Q' hQ' with ⟨rfl,rfl⟩| ⟨h3,h4⟩
   ·exact aT rfl
   ·rcases hPS x hx with h5|h5
    ·exact m.pp _ h' P Q' hP h4 aT x h5 xi
    ·have:=fH x (.inr (.inr (.inr (.inr ⟨h',Q',h4,xi⟩))));omega
  ·rcases ce h' Q' hQ' with ⟨rfl,rfl⟩| ⟨h3,h4⟩
   ·rcases hPS x xi with h5|h5
    ·exact m.pp h _ Q P h2 hP aT x hx h5
    ·have:=fH x (.inr (.inr (.inr (.inr ⟨h,Q,h2,hx⟩))));omega
   ·exact m.pp h h' Q Q' h2 h4 aT x hx xi
theorem pB.atp(m:pB H n c C rv fr fa st w ps at_){i:Nat}{o:Option Pl}(h:ps[i]? =some o):∃f cc lb,rv= .slice (some ⟨f,0,none⟩) ps.length cc∧fr=some f∧H.own f=some lb∧lb[i]? =some (TC o)∧i<ps.length:=by
 obtain⟨b,cc,lb,h1,h2,h3,h4,h5,_⟩:=Sl.at_ m.sl (i:=i) (x:=TC o) (by simp[h])
 exact⟨b,cc,lb,h1,h2,h3,h4,h5⟩
theorem G6.gf(l:G6 w ps at_){g:Int}(h:w.has g):∃P,ps[g.toNat]? =some (some P):=(l.hs g.toNat).1 h.2
end
theorem IY(cap:Int)(H:Hp):ah Tryz.prog M4 [i64 cap] H fun v H'=>ay (
  ax H H'∧((¬ (0≤cap∧cap≤65536)∧v= .tuple [.pointer none,i64 31].toArray)∨
   ((0≤cap∧cap≤65536)∧∃n S,v= .tuple [ptr n,i64 0].toArray∧dI H' n S 0 ⟨[false],List.replicate cap.toNat (0,0,0)⟩∧∀x,S x→H.size≤x))):=by
 refine be M9 ⟨rfl,?_⟩
 refine v1 AC.eq_1 ?_
 refine(oI cap H).mono ?_
 rintro _ H1 ⟨f1,⟨hb,rfl⟩| ⟨hb,c,C,rfl,c1,hC⟩⟩
 ·refine vs ?_
  exact⟨f1,.inl ⟨hb,rfl⟩⟩
 refine v1 amp ?_
 refine⟨by omega,?_⟩
 refine vs ?_
 have aeX:∀k:Nat,cR [Value.int .i64 0] k=(List.replicate k (0:Int)).map i64:=fun k=>by
  induction k with
  |zero=>rfl
  |succ k ih=>simp only[cR,amR,am7,amL]at*;rw[ih];rfl
 rw[aeX]
 have zF:=c1.slt
 have z1:=f1.size
 have f3:ax H1 (((H1.new 370 [.pointer none]).new 3 ((List.replicate cap.toNat (0:Int)).map i64)).new 285 [ptr c,.slice (some ⟨H1.size,0,none⟩) 1 1,.slice (some ⟨H1.size+1,0,none⟩) cap.toNat cap.toNat]):=(((ai.refl _ _).new _ _).new _ _).new _ _
 have e2:ai (fun _=>False) ((H1.new 370 [.pointer none]).new 3 ((List.replicate cap.toNat (0:Int)).map i64)) (((H1.new 370 [.pointer none]).new 3 ((List.replicate cap.toNat (0:Int)).map i64)).new 285 [ptr c,.slice (some ⟨H1.size,0,none⟩) 1 1,.slice (some ⟨H1.size+1,0,none⟩) cap.toNat cap.toNat]):=(ai.refl _ _).new _ _
 have e1:ai (fun _=>False) (H1.new 370 [.pointer none]) ((H1.new 370 [.pointer none]).new 3 ((List.replicate cap.toNat (0:Int)).map i64)):=(ai.refl _ _).new _ _
 have cr:∀ (h:Nat) (P:Pl),([none]:List (Option Pl))[h]? ≠some (some P):=fun h P hP=>by rcases h with _|h<;>simp at hP
 refine⟨f1.trans f3,.inr ⟨hb,H1.size+1+1,EN (H1.size+1+1) C (some H1.size) (some (H1.size+1)) [none],rfl,⟨c,C,_,some H1.size,some (H1.size+1),[none],List.replicate cap.toNat 0,
  ⟨⟨_,bD (by simp only[au]),?_⟩,c1.fresh f3,?_,fun h P hP=>absurd hP (cr h P),fun h=>by have:=zF _ h;omega,fun b hb=>?_,fun b hb=>?_,fun h P hP=>absurd hP (cr h P),fun h P hP=>absurd hP (cr h P),fun h h' P P' hP=>absurd hP (cr h P)⟩,
  ⟨rfl,fun h=>?_,rfl,fun h P hP=>absurd hP (cr h P),fun h P hP=>absurd hP (cr h P),fun h P hP=>absurd hP (cr h P),fun h P hP=>absurd hP (cr h P),by simp⟩,fun z=>Iff.rfl⟩,fun x hx=>?_⟩⟩
 ·rw[amV]
  exact(Sl.dE (size:=1) (n:=cap.toNat) (xs:=(List.replicate cap.toNat (0:Int)).map i64) (by simp) (by simp only[au])).ext e2 (fun _ _ h=>h)
 ·exact((Sl.dE (size:=1) (n:=1) (xs:=[.pointer none]) rfl rfl).ext e1 (fun _ _ h=>h)).ext e2 (fun _ _ h=>h)
 ·injection hb with hb
  subst hb
  exact⟨fun h=>by have:=zF _ h;omega,by omega,fun h=>by injection h with h;omega⟩
 ·injection hb with hb
  subst hb
  exact⟨fun h=>by have:=zF _ h;omega,by omega⟩
 ·rcases h with _|h<;>simp
 ·rcases hx with hx|rfl|hx|hx| ⟨i,P,hP,hx⟩
  ·exact hC x hx
  ·omega
  ·injection hx with hx;omega
  ·injection hx with hx;omega
  ·exact absurd hP (cr i P)
theorem G7{H:Hp}{n:Nat}{S:Nat→Prop}{st:Int}{w:Nw}(h:dI H n S st w):ah Tryz.prog sP [ptr n] H fun v H'=>ay (
  (w.hs.length=65537∧v=i64 0∧H=H')∨
  (w.hs.length≠65537∧v=i64 w.hs.length∧∃S',dI H' n S' st w.make∧ai S H H'∧∀x,S' x→S x∨H.size≤x)):=by
 obtain⟨c,C,rv,fr,fa,ps,at_,m,l,hS⟩:=h
 obtain⟨av,ho,ha⟩:=m.own
 refine be DI ⟨rfl,?_⟩
 refine v2 mU.eq_1 (ae ho) ?_
 refine(mY m.cells).mono ?_
 rintro _ H1 (⟨h1,rfl,rfl⟩| ⟨h1,rfl,C',c1,e1,Ba⟩)
 ·refine vs ?_
  exact .inl ⟨h1,rfl,rfl⟩
 have gD:0<ps.length:=(al7.1 l.h0).1
 have pJ:=l.hl
 have o1:=e1.own ho m.nC
 refine vs ?_
 refine ak.cE (amj (by omega)) ?_
 refine v1 (ae o1) ?_
 have EM:=m.cells.EM
 have fH:=m.slt
 have Sq:=c1.slt
 have z1:=e1.size
 have e2:ai (fun _=>False) H1 (H1.new 374 [ptr n,.slice none 0 0]):=(ai.refl _ _).new _ _
 have hq2:(H1.new 374 [ptr n,.slice none 0 0]).own H1.size=some [ptr n,.slice none 0 0]:=aG _ _ _
 have z2:(H1.new 374 [ptr n,.slice none 0 0]).size=H1.size+1:=by simp only[au]
 generalize (H1.new 374 [ptr n,.slice none 0 0])=H2 at*
 have e0:ai (fun _=>False) H2 (H2.new 370 [ptr H1.size]):=(ai.refl _ _).new _ _
 have sl2:=(m.sl.ext e1 (fun b hb h=>(m.O3 b hb).1 h)).ext e2 (fun _ _ h=>h)
 have o2:=e2.own o1 (fun h=>h)
 refine Sl.append (sl2.ext e0 (fun _ _ h=>h)) (Sl.dE (size:=1) (n:=1) (xs:=[ptr H1.size]) rfl z2.symm).rd rfl (by intro v hv;simp only[amg]at hv;subst hv;rfl) (by omega) ?_
 intro v' H3 fr' s3 e3 RQ
 have NH:ai (fun z=>fr=some z) H2 H3:=(e0.mono fun _ _ h=>h.elim).ut e3 (fun z _ h=>h)
 have o3:=NH.own o2 (fun h=>(m.O3 n h).2.1 rfl)
 obtain⟨a',WK,O1⟩:=ep.RX s3.rd
 subst O1
 refine v1 o3 ?_
 generalize O1:Value.slice a' (ps.length+1) WK=v' at*
 have e4:ai (fun z=>z=n) H3 (H3.wr n [ptr c,v',av]):=(ai.refl (fun z=>z=n) _).wr (fun _=>rfl) _
 have hn:=aO ho
 have Ul:∀b,fr=some b→b<H.size:=fun b hb=>fH b (.inr (.inr (.inl hb)))
 have WO:∀b,fa=some b→b<H.size:=fun b hb=>fH b (.inr (.inr (.inr (.inl hb))))
 have NI:∀b,fr'=some b→fr=some b∨H2.size≤b:=fun b hb=>by
  rcases RQ with h| ⟨z,h,h5,_⟩
  ·exact .inl (h▸hb)
  ·rw[h]at hb;injection hb with hb;subst hb;rw[au]at h5;exact .inr (by omega)
 have ce:∀ (h:Nat) P,(ps++[some (⟨H1.size,none,[]⟩:Pl)])[h]? =some (some P)→ps[h]? =some (some P)∨(h=ps.length∧P=⟨H1.size,none,[]⟩):=fun h P hP=>by
  rcases anC h ps.length with h5|h5|h5
  ·rw[amn h5]at hP;exact .inl hP
  ·subst h5
   rw[amw (ami _),am3]at hP
   simp only[amz,ame]at hP
   exact .inr ⟨rfl,hP.symm⟩
  ·rw[amk (by rw[amh,amx];omega)]at hP
   cases hP
 have hold:∀ (h:Nat) P,ps[h]? =some (some P)→∀x,P.S x→x<H.size:=fun h P hP x hx=>fH x (.inr (.inr (.inr (.inr ⟨h,P,hP,hx⟩))))
 have zu:∀x,(⟨H1.size,none,[]⟩:Pl).S x→x=H1.size:=fun x hx=>by rcases hx with h|h;exact h;cases h
 have JR:∀ (x:Nat) (e:Int×Int),w.cs[x]? ≠some (((ps.length:Nat):Int),e):=fun x e hx=>by
  have:=(m.cells.home _ (amb hx)).2
  simp only at this
  omega
 refine .inr ⟨h1,rfl,EN n C' fr' fa (ps++[some ⟨H1.size,none,[]⟩]),⟨c,C',v',fr',fa,ps++[some ⟨H1.size,none,[]⟩],at_,
  ⟨⟨av,aj o3,?_⟩,?_,?_,fun h P hP=>?_,fun h=>?_,fun b hb=>⟨fun h=>?_,?_,fun h=>?_⟩,fun b hb=>⟨fun h=>?_,(m.Kk b hb).2⟩,fun h P hP x hx=>⟨fun h=>?_,?_,fun h=>?_,fun h=>?_⟩,fun h P hP=>?_,fun h h' P P' hP hP' aT x hx xi=>?_⟩,
  ⟨?_,fun h=>?_,?_,fun h P hP=>?_,fun h P hP=>?_,fun h P hP x=>?_,fun h P hP=>?_,l.LY⟩,fun z=>Iff.rfl⟩,?_,fun x hx=>?_⟩
 ·exact(((ha.ext e1 (fun b hb h=>(m.Kk b hb).1 h)).ext e2 (fun _ _ h=>h)).ext NH (fun b hb h=>(m.O3 b h).2.2 hb)).ext e4 (fun b hb h=>(m.Kk b hb).2 h)
 ·exact((c1.ext e2 (fun _ _ h=>h)).ext NH (fun x hx e=>by
   rcases Ba x hx with h|h
   ·exact(m.O3 x e).1 h
   ·have:=Ul x e;omega)).ext e4 (fun x hx e=>by
   rcases Ba x hx with h|h
   ·exact m.nC (e▸h)
   ·omega)
 ·have:=s3.ext e4 (fun b hb e=>by
   rcases NI b hb with h|h
   ·exact(m.O3 b h).2.1 e
   ·omega)
  rw[amh,amU]
  exact this
 ·rcases ce h P hP with h5| ⟨rfl,rfl⟩
  ·obtain⟨sv,q1,q2⟩:=m.my h P h5
   have hd:=m.pd h P h5
   exact⟨sv,e4.own (NH.own (e2.own (e1.own q1 (hd _ (.inl rfl)).1) (fun h=>h)) (hd _ (.inl rfl)).2.2.1) (hd _ (.inl rfl)).2.1,
    (((q2.ext e1 (fun b hb=>(hd b (.inr hb)).1)).ext e2 (fun _ _ h=>h)).ext NH (fun b hb=>(hd b (.inr hb)).2.2.1)).ext e4 (fun b hb=>(hd b (.inr hb)).2.1)⟩
  ·exact⟨_,e4.own (NH.own hq2 (fun e=>by have:=Ul H1.size e;omega)) (fun e=>by have h9:H1.size=n:=e;omega),Sl.nil _ _⟩
 ·rcases Ba n h with h|h
  ·exact m.nC h
  ·omega
 ·rcases NI b hb with h5|h5
  ·rcases Ba b h with h6|h6
   ·exact(m.O3 b h5).1 h6
   ·have:=Ul b h5;omega
  ·have:=Sq b h;omega
 ·rcases NI b hb with h|h
  ·exact(m.O3 b h).2.1
  ·omega
 ·rcases NI b hb with h5|h5
  ·exact(m.O3 b h5).2.2 h
  ·have:=WO b h;omega
 ·rcases Ba b h with h6|h6
  ·exact(m.Kk b hb).1 h6
  ·have:=WO b hb;omega
 ·rcases ce _ P hP with h5| ⟨_,rfl⟩
  ·rcases Ba x h with h6|h6
   ·exact(m.pd _ P h5 x hx).1 h6
   ·have:=hold _ P h5 x hx;omega
  ·have:=zu x hx;have:=Sq x h;omega
 ·rcases ce _ P hP with h5| ⟨_,rfl⟩
  ·exact(m.pd _ P h5 x hx).2.1
  ·have:=zu x hx;omega
 ·rcases ce _ P hP with h5| ⟨_,rfl⟩
  ·rcases NI x h with h6|h6
   ·exact(m.pd _ P h5 x hx).2.2.1 h6
   ·have:=hold _ P h5 x hx;omega
  ·have:=zu x hx
   rcases NI x h with h6|h6
   ·have:=Ul x h6;omega
   ·omega
 ·rcases ce _ P hP with h5| ⟨_,rfl⟩
  ·exact(m.pd _ P h5 x hx).2.2.2 h
  ·have:=zu x hx;have:=WO x h;omega
 ·rcases ce h P hP with h5| ⟨_,rfl⟩
  ·exact m.pr h P h5
  ·exact⟨(fun h=>by cases h),by simp⟩
 ·rcases ce _ P hP with h5| ⟨h5,rfl⟩
  ·rcases ce _ P' hP' with h6| ⟨h6,rfl⟩
   ·exact m.pp h h' P P' h5 h6 aT x hx xi
   ·have:=zu x xi;have:=hold _ P h5 x hx;omega
  ·rcases ce _ P' hP' with h6| ⟨h6,rfl⟩
   ·have:=zu x hx;have:=hold _ P' h6 x xi;omega
   ·omega
 ·simp[Nw.make,pJ]
 ·show(w.hs++[true])[h]? =some true↔_
  rcases anC h ps.length with h5|h5|h5
  ·rw[amn h5,amn (by omega)]
   exact l.hs h
  ·subst h5
   rw[amw (ami _),amw (by omega),am3,pJ,am3]
   simp
  ·rw[amk (by rw[amh,amx];omega),amk (by rw[amh,amx];omega)]
   simp
 ·rw[amn gD];exact l.h0
 ·rcases ce h P hP with h5| ⟨rfl,rfl⟩
  ·exact l.ok h P h5
  ·exact fun j _ hj=>by simp at hj
 ·rcases ce h P hP with h5| ⟨rfl,rfl⟩
  ·exact l.TD h P h5
  ·exact fun i x hx=>by simp at hx
 ·rcases ce h P hP with h5| ⟨rfl,rfl⟩
  ·exact l.mem h P h5 x
  ·simp only[aoa,false_iff]
   rintro⟨_,e,he⟩
   exact JR _ _ he
 ·rcases ce h P hP with h5| ⟨rfl,rfl⟩
  ·exact l.len h P h5
  ·show((0:Nat):Int)=w.len _
   unfold Nw.len
   rw[if_pos (by omega),anF.2 (fun x hx=>by
    have:=(m.cells.home x hx).2
    simp only[amQ]
    omega)]
 ·exact((e1.mono fun z _ hz=>(hS z).1 (.inl hz)).trans ((e2.mono fun _ _ h=>h.elim).trans (NH.mono fun z _ hz=>(hS z).1 (.inr (.inr (.inl hz)))))).trans (e4.mono fun z _ hz=>(hS z).1 (.inr (.inl hz)))
 ·rcases hx with hx|rfl|hx|hx| ⟨i,P,hP,hx⟩
  ·rcases Ba x hx with h|h
   ·exact .inl ((hS x).1 (.inl h))
   ·exact .inr h
  ·exact .inl ((hS x).1 (.inr (.inl rfl)))
  ·rcases NI x hx with h|h
   ·exact .inl ((hS x).1 (.inr (.inr (.inl h))))
   ·exact .inr (by omega)
  ·exact .inl ((hS x).1 (.inr (.inr (.inr (.inl hx)))))
  ·rcases ce i P hP with h5| ⟨_,rfl⟩
   ·exact .inl ((hS x).1 (.inr (.inr (.inr (.inr ⟨i,P,h5,hx⟩)))))
   ·have:=zu x hx;exact .inr (by omega)
end Go.Proofs.YtjlnnljohemifaaGreat

namespace Go.Proofs.YtjlnnljohemifaaGreat
open Go Go.Vc
theorem pN.WP{l at_ pA:List Int}(h:pN l at_)(ho:∀z∈l,0≤z→pA[z.toNat]? =at_[z.toNat]?):pN l pA:=fun i x hx=>by
 obtain⟨a,b⟩:=h i x hx
 exact⟨a,by rw[ho x (amb hx) a];exact b⟩
theorem jc{ps:List (Option Pl)}{g:Nat}{P':Pl}(hg:g<ps.length){h:Nat}{Q:Pl}(hQ:(ps.set g (some P'))[h]? =some (some Q)):(h=g∧Q=P')∨(h≠g∧ps[h]? =some (some Q)):=by
 by_cases hh:h=g
 ·subst hh
  rw[amd hg]at hQ
  simp only[ame]at hQ
  exact .inl ⟨rfl,hQ.symm⟩
 ·rw[amc (Ne.symm hh)]at hQ
  exact .inr ⟨hh,hQ⟩
theorem G6.apart{w:Nw}{ps:List (Option Pl)}{at_:List Int}(l:G6 w ps at_){h h':Nat}{P Q:Pl}(hP:ps[h]? =some (some P))(hQ:ps[h']? =some (some Q))(aT:h≠h'){z:Int}(hz:z∈P.l):z∉Q.l:=fun hz'=>by
 obtain⟨_,e1,h1⟩:=(l.mem h P hP z).1 hz
 obtain⟨_,e2,h2⟩:=(l.mem h' Q hQ z).1 hz'
 rw[h1]at h2
 injection h2 with h2
 injection h2 with h2 _
 omega
theorem G6.pos{w:Nw}{ps:List (Option Pl)}{at_:List Int}(l:G6 w ps at_){h:Nat}{P:Pl}(hP:ps[h]? =some (some P)):0<h:=by
 rcases anu h with hi|hi
 ·subst hi;rw[l.h0]at hP;cases hP
 ·exact hi
theorem Eb{H:Hp}{n:Nat}{S:Nat→Prop}{st:Int}{w:Nw}(h:dI H n S st w)(g x k s:Int):ah Tryz.prog qf [ptr n,i64 g,i64 x,vV k s] H fun v H'=>ay (
  (¬ (w.has g∧(0≤x∧x<w.cs.length)∧¬cZ w.cs x)∧v= .bool false∧dI H' n S st w∧ai S H H')∨
  ((w.has g∧(0≤x∧x<w.cs.length)∧¬cZ w.cs x)∧v= .bool true∧∃ (S':Nat→Prop) (q:Nat),(q:Int)≤nQ 2 (w.len g)∧(0<w.len g→0<q)∧dI H' n S' (min (st+q) 4611686018427387904) (w.put x (g,k,s))∧ai S H H'∧∀z,S' z→S z∨H.size≤z)):=by
 obtain⟨c,C,rv,fr,fa,ps,at_,m,l,hS⟩:=h
 refine be AX ⟨rfl,?_⟩
 refine v1 j0.eq_1 ?_
 have f0:ax H (H.new 224 [i64 k,u64 s]):=(ai.refl _ _).new _ _
 have b0:(H.new 224 [i64 k,u64 s]).own H.size=some [i64 k,u64 s]:=aG _ _ _
 have m0:=m.ext f0 (fun _ _ h=>h)
 generalize H.new 224 [i64 k,u64 s]=H0 at*
 obtain⟨av,Ki,T8⟩:=m0.own
 refine v2 (ae Ki) (ae b0) ?_
 refine(oJ m0.cells g x k s).mono ?_
 rintro _ H1 (⟨cr,rfl,c1,e1⟩| ⟨tw,rfl,c1,e1⟩)
 ·refine vs ?_
  exact .inl ⟨cr,rfl,⟨c,C,rv,fr,fa,ps,at_,m0.aK c1 e1,l,hS⟩,(f0.mono fun _ _ h=>h.elim).trans (e1.mono fun z _ hz=>(hS z).1 (.inl hz))⟩
 obtain⟨hh,⟨iq,jq⟩,bS⟩:=id tw
 obtain⟨P,hP⟩:=l.gf hh
 have h1:=hh.1
 have Bx:((g.toNat:Nat):Int)=g:=by omega
 have cF:=l.mem _ P hP
 have bm:=l.len _ P hP
 rw[Bx]at cF bm
 obtain⟨c0,rl⟩:∃c0,w.cs[x.toNat]? =some c0:=⟨_,al5 (by omega)⟩
 have De:¬0<c0.1:=fun h=>bS ⟨iq,c0,rl,h⟩
 have cU:(w.put x (g,k,s)).cs[x.toNat]? =some (g,k,s):=amd (by omega)
 have nY:∀y:Nat,y≠x.toNat→(w.put x (g,k,s)).cs[y]? =w.cs[y]? :=fun y hy=>amc (Ne.symm hy)
 have Qa:∀ (i:Nat) Q,ps[i]? =some (some Q)→x∉Q.l:=fun i Q hQ hm=>by
  obtain⟨_,e,he⟩:=(l.mem i Q hQ x).1 hm
  rw[rl]at he
  injection he with he
  subst he
  have:=l.pos hQ
  exact De (by simp only;omega)
 have aT:∀ (i:Nat) Q,ps[i]? =some (some Q)→∀y∈Q.l,0≤y∧y.toNat≠x.toNat:=fun i Q hQ y hy=>by
  have h2:=((l.mem i Q hQ y).1 hy).1
  exact⟨h2,fun e=>Qa i Q hQ (by rw[show x=y by omega];exact hy)⟩
 have WQ:∀ (i:Nat) Q,ps[i]? =some (some Q)→eZ (aV (w.put x (g,k,s))) 2 Q.l:=fun i Q hQ=>
  (l.ok i Q hQ).Kl fun z hz y hy=>(jv w x _ (aT i Q hQ z hz).2 (aT i Q hQ y hy).2).symm
 have G8:∀z∈P.l,cZ (w.put x (g,k,s)).cs z:=fun z hz=>by
  obtain⟨z0,e,he⟩:=(cF z).1 hz
  exact⟨z0,_,by rw[nY _ (aT _ P hP z hz).2];exact he,by simp only;omega⟩
 have WR:cZ (w.put x (g,k,s)).cs x:=⟨iq,_,cU,by simp only;omega⟩
 have hlp:(w.put x (g,k,s)).len g=w.len g+1:=by rw[Nw.ir rl g,if_neg (fun hc=>by omega),if_pos ⟨by omega,rfl⟩];omega
 have rq:=m.cells.Fu
 have pJ:P.l.length<65536:=by
  have:=((w.put x (g,k,s)).A5 g).2
  have h5:(w.put x (g,k,s)).cs.length=w.cs.length:=al8 ..
  omega
 have m1:=m0.aK c1 e1
 obtain⟨av1,P9,_⟩:=m1.own
 obtain⟨f,cc,lb,rfl,rfl,hf,Uk,dw⟩:=m1.atp hP
 refine v1 (ae P9) ?_
 refine⟨by omega,?_⟩
 simp(disch:=(first|omega| (simp only[Zs]<;>omega)|fail)) only[go_sem, ↓reduceIte,Zv,ae hf,ama,Uk,TC]
 refine(G5 (m1.NG hP) (l.TD _ P hP) pJ ⟨iq,by rw[l.LY];omega⟩ (Qa _ P hP) WR G8 (WQ _ P hP)).mono ?_
 rintro _ H2 ⟨rfl,fL,l',pA,q,pm,aeZ,kD,aaB,ag7,ae0,ae1,hq,Vo,e2,oO⟩
 refine vs ?_
 have z0:=f0.size
 have z1:=e1.size
 have hT:∀z,(C z∨P.fp=some z∨fa=some z∨z=P.r)→C z∨P.S z∨fa=some z:=fun z hz=>by
  rcases hz with hz|hz|hz|hz
  ·exact .inl hz
  ·exact .inr (.inl (.inr hz))
  ·exact .inr (.inr hz)
  ·exact .inr (.inl (.inl hz))
 have qS:∀z,(C z∨P.fp=some z∨fa=some z∨z=P.r)→S z:=fun z hz=>(hS z).1 (by
  rcases hT z hz with hz|hz|hz
  ·exact .inl hz
  ·exact .inr (.inr (.inr (.inr ⟨_,P,hP,hz⟩)))
  ·exact .inr (.inr (.inr (.inl hz))))
 refine .inr ⟨tw,rfl,EN n C (some f) fa (ps.set g.toNat (some ⟨P.r,fL,l'⟩)),q,by rw[←bm];exact Int.ofNat_le.2 hq,fun h=>Vo (by omega),
  ⟨c,C,_,some f,fa,_,pA,m1.Ko hP (P':=⟨P.r,fL,l'⟩) rfl pm oO e2 hT,
   ⟨by rw[al8];exact l.hl,fun h=>?_,?_,fun h Q hQ=>?_,fun h Q hQ=>?_,fun h Q hQ y=>?_,fun h Q hQ=>?_,?_⟩,fun z=>Iff.rfl⟩,?_,fun z hz=>?_⟩
 ·show w.hs[h]? =some true↔_
  rw[l.hs h]
  by_cases LZ:h=g.toNat
  ·subst LZ
   rw[amd dw]
   exact⟨fun _=>⟨_,rfl⟩,fun _=>⟨P,hP⟩⟩
  ·rw[amc (Ne.symm LZ)]
 ·rw[amc (by omega)];exact l.h0
 ·rcases jc dw hQ with ⟨rfl,rfl⟩| ⟨h5,h6⟩
  ·exact kD
  ·exact WQ h Q h6
 ·rcases jc dw hQ with ⟨rfl,rfl⟩| ⟨h5,h6⟩
  ·exact aeZ
  ·exact(l.TD h Q h6).WP fun z hz z0=>ae1 z z0 (fun e=>Qa h Q h6 (e▸hz)) (l.apart h6 hP h5 hz)
 ·rcases jc dw hQ with ⟨rfl,rfl⟩| ⟨h5,h6⟩
  ·rw[Bx]
   show y∈l'↔_
   rw[aaB y]
   constructor
   ·rintro(rfl|hy)
    ·exact⟨iq,_,cU⟩
    ·obtain⟨y0,e,he⟩:=(cF y).1 hy
     exact⟨y0,e,by rw[nY _ (aT _ P hP y hy).2];exact he⟩
   ·rintro⟨y0,e,he⟩
    by_cases qX:y.toNat=x.toNat
    ·exact .inl (by omega)
    ·rw[nY _ qX]at he
     exact .inr ((cF y).2 ⟨y0,e,he⟩)
  ·rw[l.mem h Q h6 y]
   by_cases qX:y.toNat=x.toNat
   ·rw[qX,cU,rl]
    constructor
    ·rintro⟨y0,e,he⟩
     injection he with he
     subst he
     have:=l.pos h6
     exact absurd (show(0:Int)< ((h:Nat):Int) by omega) De
    ·rintro⟨y0,e,he⟩
     injection he with he
     injection he with WS he2
     omega
   ·rw[nY _ qX]
 ·rcases jc dw hQ with ⟨rfl,rfl⟩| ⟨h5,h6⟩
  ·rw[Bx,hlp]
   show(l'.length:Int)=_
   omega
  ·rw[l.len h Q h6,Nw.ir rl h,if_neg (fun hc=>by omega),if_neg (fun hc=>by omega)]
   omega
 ·rw[ae0,l.LY];exact(al8 ..).symm
 ·exact(f0.mono fun _ _ h=>h.elim).trans ((e1.mono fun z _ hz=>qS z (.inl hz)).trans (e2.mono fun z _ hz=>qS z hz))
 ·rcases hz with hz|rfl|hz|hz| ⟨i,Q,hQ,hz⟩
  ·exact .inl (qS z (.inl hz))
  ·exact .inl ((hS z).1 (.inr (.inl rfl)))
  ·exact .inl ((hS z).1 (.inr (.inr (.inl hz))))
  ·exact .inl (qS z (.inr (.inr (.inl hz))))
  ·rcases jc dw hQ with ⟨rfl,rfl⟩| ⟨h5,h6⟩
   ·rcases hz with rfl|hz
    ·exact .inl (qS _ (.inr (.inr (.inr rfl))))
    ·rcases oO with h| ⟨y,h,h7⟩
     ·exact .inl (qS z (.inr (.inl (h▸hz))))
     ·simp only at hz
      rw[h]at hz;injection hz with hz;exact .inr (by omega)
   ·exact .inl ((hS z).1 (.inr (.inr (.inr (.inr ⟨i,Q,h6,hz⟩)))))
theorem zJ{H:Hp}{n:Nat}{S:Nat→Prop}{st:Int}{w:Nw}(h:dI H n S st w)(g:Int):ah Tryz.prog u0 [ptr n,i64 g] H fun v H'=>ay (
  ((w.len g=0∧v= .tuple [i64 0,.bool false].toArray)∨∃x,w.first g x∧v= .tuple [i64 x,.bool true].toArray)∧H=H'):=by
 obtain⟨c,C,rv,fr,fa,ps,at_,m,l,hS⟩:=h
 obtain⟨av,ho,ha⟩:=m.own
 refine be Fi ⟨rfl,?_⟩
 refine v2 oE.eq_1 (ae ho) ?_
 refine(vj m.cells g).mono ?_
 rintro _ _ ⟨rfl,rfl⟩
 refine vs ?_
 refine ak.dec (fun h0=>?_) (fun h0=>?_)
 ·refine vs ?_
  exact⟨.inl ⟨h0,rfl⟩,rfl⟩
 have hg:0<g:=by
  by_cases hg:0<g
  ·exact hg
  ·exact absurd (Nw.IP.2 (.inl (by omega))) h0
 have ae2:w.has g:=by
  refine⟨by omega,?_⟩
  by_cases hx:w.hs[g.toNat]? =some true
  ·exact hx
  ·refine absurd (Nw.IP.2 (.inr fun i c hc e=>hx ?_)) h0
   have:=m.cells.live c (amb hc) (by omega)
   rwa[e]at this
 obtain⟨P,hP⟩:=l.gf ae2
 have Bx:((g.toNat:Nat):Int)=g:=by omega
 have cF:=l.mem _ P hP
 have bm:=l.len _ P hP
 rw[Bx]at cF bm
 have pJ:=(w.A5 g).1
 obtain⟨f,cc,lb,rfl,rfl,hf,Uk,dw⟩:=m.atp hP
 obtain⟨sv,hr,hs⟩:=m.my _ P hP
 obtain⟨x,hx⟩:∃x,P.l[0]? =some x:=⟨_,al5 (by omega)⟩
 obtain⟨b,c2,l2,rfl,mr,hb,pt,_,HS⟩:=Sl.at_ hs (i:=0) (x:=i64 x) (by simp[hx])
 refine v1 (ae ho) ?_
 refine⟨by omega,?_⟩
 simp(disch:=(first|omega| (simp only[Zs]<;>omega)|fail)) only[go_sem, ↓reduceIte,Zv,ae hf,ama,Uk,TC,ae hr]
 refine⟨by omega,?_⟩
 refine v2 (ae hb) (show l2[Int.toNat 0*1]? =some (i64 x)from pt) ?_
 have hxP:=amb hx
 obtain⟨iq,e,he⟩:=(cF x).1 hxP
 refine⟨.inr ⟨x,⟨hg,iq,⟨e,he⟩,fun y hy ⟨e',tL⟩ aT=>?_⟩,rfl⟩,rfl⟩
 have hyP:=(cF y).2 ⟨hy,e',tL⟩
 obtain⟨j,hj⟩:=amy hyP
 have ZV:=(al7.1 hj).1
 have h5:=GS (aq w) dO (l.ok _ P hP) j j (ami _) ZV
 rw[uH hj,uH hx]at h5
 rcases(aq w).OI x y (Ne.symm aT)with h6|h6
 ·exact h6
 ·rw[h5]at h6;cases h6
theorem Ec{H:Hp}{n:Nat}{S:Nat→Prop}{st:Int}{w:Nw}(h:dI H n S st w)(x:Int):ah Tryz.prog Ao [ptr n,i64 x] H fun v H'=>ay (
  (¬cZ w.cs x∧v= .bool false∧H=H')∨
  (cZ w.cs x∧v= .bool true∧∃ (c0:Ce) (q:Nat),w.cs[x.toNat]? =some c0∧q≤2*nQ 2 (w.len c0.1 - 1)∧∃S',dI H' n S' (min (st+q) 4611686018427387904) (w.put x (0,0,0))∧ai S H H'∧∀z,S' z→S z∨H.size≤z)):=by
 obtain⟨c,C,rv,fr,fa,ps,at_,m,l,hS⟩:=h
 obtain⟨av,ho,ha⟩:=m.own
 refine be AW ⟨rfl,?_⟩
 refine v2 jZ.eq_1 (ae ho) ?_
 refine(eT m.cells x).mono ?_
 rintro _ H1 (⟨cr,rfl,rfl⟩| ⟨bS,c0,rl,rfl,c1,e1⟩)
 ·refine vs ?_
  exact .inl ⟨cr,rfl,rfl⟩
 obtain⟨iq,c0',Kp,gD⟩:=id bS
 rw[rl]at Kp
 injection Kp with Kp
 subst Kp
 obtain⟨P,hP⟩:=(l.hs c0.1.toNat).1 (m.cells.live _ (amb rl) gD)
 have Bx:((c0.1.toNat:Nat):Int)=c0.1:=by omega
 have cF:=l.mem _ P hP
 have bm:=l.len _ P hP
 rw[Bx]at cF bm
 have cU:(w.put x (0,0,0)).cs[x.toNat]? =some (0,0,0):=amd (al7.1 rl).1
 have nY:∀y:Nat,y≠x.toNat→(w.put x (0,0,0)).cs[y]? =w.cs[y]? :=fun y hy=>amc (Ne.symm hy)
 have m1:=m.aK c1 e1
 obtain⟨av1,P9,Vf⟩:=m1.own
 have hxP:x∈P.l:=(cF x).2 ⟨iq,c0.2,rl⟩
 have G8:∀z∈P.l,cZ w.cs z:=fun z hz=>by
  obtain⟨z0,e,he⟩:=(cF z).1 hz
  exact⟨z0,_,he,gD⟩
 obtain⟨i,hi⟩:=amy hxP
 have tK:=(al7.1 hi).1
 obtain⟨_,YC⟩:=l.TD _ P hP i x hi
 obtain⟨f,cc,lb,rfl,rfl,hf,Uk,dw⟩:=m1.atp hP
 obtain⟨fa',ac,la,rfl,hfa,WT,WU,_,_⟩:=Sl.at_ Vf (i:=x.toNat) (x:=i64 i) (by simp[YC])
 have hal:=(al7.1 YC).1
 refine v1 (ae P9) ?_
 refine⟨by omega,?_⟩
 simp(disch:=(first|omega| (simp only[Zs]<;>omega)|fail)) only[go_sem, ↓reduceIte,Zv,ae hf,ama,Uk,TC,ae P9]
 refine⟨by omega,?_⟩
 refine v3 (ae WT) ama WU ?_
 refine(Ea (m1.NG hP) (l.TD _ P hP) tK G8 (l.ok _ P hP)).mono ?_
 rintro _ H2 ⟨l',pA,q,o,hq⟩
 rw[uH hi]at o
 have hT:∀z,(C z∨P.fp=some z∨fa=some z∨z=P.r)→C z∨P.S z∨fa=some z:=fun z hz=>by
  rcases hz with hz|hz|hz|hz
  ·exact .inl hz
  ·exact .inr (.inl (.inr hz))
  ·exact .inr (.inr hz)
  ·exact .inr (.inl (.inl hz))
 have qS:∀z,(C z∨P.fp=some z∨fa=some z∨z=P.r)→S z:=fun z hz=>(hS z).1 (by
  rcases hT z hz with hz|hz|hz
  ·exact .inl hz
  ·exact .inr (.inr (.inr (.inr ⟨_,P,hP,hz⟩)))
  ·exact .inr (.inr (.inr (.inl hz))))
 have m2:=m1.Ko hP (P':=⟨P.r,P.fp,l'⟩) rfl o.my (.inl rfl) o.ext hT
 obtain⟨av2,ho2,_⟩:=m2.own
 refine v1 (ae ho2) ?_
 refine(mZ m2.cells x).mono ?_
 rintro _ H3 (⟨cr,_,_⟩| ⟨_,rfl,c3,e3⟩)
 ·exact absurd bS cr
 refine vs ?_
 have m3:=m2.aK c3 e3
 have aT:∀ (h:Nat) Q,h≠c0.1.toNat→ps[h]? =some (some Q)→∀y∈Q.l,y.toNat≠x.toNat:=fun h Q hh hQ y hy e=>by
  obtain⟨y0,e',he⟩:=(l.mem h Q hQ y).1 hy
  rw[e,rl]at he
  injection he with he
  rw[he]at hh
  simp only[Int.toNat_natCast]at hh
  exact hh rfl
 have NJ:∀y∈l',y.toNat≠x.toNat:=fun y hy e=>by
  obtain⟨h1,h2⟩:=(o.mem y).1 hy
  have:=((cF y).1 h1).1
  omega
 refine .inr ⟨bS,rfl,c0,q,rl,by rw[←bm];exact hq,EN n C (some f) fa (ps.set c0.1.toNat (some ⟨P.r,P.fp,l'⟩)),
  ⟨c,C,_,some f,fa,_,pA,m3,⟨by rw[al8];exact l.hl,fun h=>?_,?_,fun h Q hQ=>?_,fun h Q hQ=>?_,fun h Q hQ y=>?_,fun h Q hQ=>?_,?_⟩,fun z=>Iff.rfl⟩,?_,fun z hz=>?_⟩
 ·show w.hs[h]? =some true↔_
  rw[l.hs h]
  by_cases LZ:h=c0.1.toNat
  ·subst LZ
   rw[amd dw]
   exact⟨fun _=>⟨_,rfl⟩,fun _=>⟨P,hP⟩⟩
  ·rw[amc (Ne.symm LZ)]
 ·rw[amc (by omega)];exact l.h0
 ·rcases jc dw hQ with ⟨rfl,rfl⟩| ⟨h5,h6⟩
  ·exact o.heap.Kl fun z hz y hy=>(jv w x _ (NJ z hz) (NJ y hy)).symm
  ·exact(l.ok h Q h6).Kl fun z hz y hy=>(jv w x _ (aT h Q h5 h6 z hz) (aT h Q h5 h6 y hy)).symm
 ·rcases jc dw hQ with ⟨rfl,rfl⟩| ⟨h5,h6⟩
  ·exact o.ok
  ·exact(l.TD h Q h6).WP fun z hz z0=>o.off z z0 (l.apart h6 hP h5 hz)
 ·by_cases qX:y.toNat=x.toNat
  ·rw[qX,cU]
   have h0:=jc dw hQ
   constructor
   ·intro hy
    rcases h0 with ⟨rfl,rfl⟩| ⟨h5,h6⟩
    ·exact absurd qX (NJ y hy)
    ·exact absurd qX (aT h Q h5 h6 y hy)
   ·rintro⟨_,e,he⟩
    injection he with he
    injection he with WS _
    rcases h0 with ⟨rfl,rfl⟩| ⟨h5,h6⟩
    ·omega
    ·have:=l.pos h6;omega
  ·rw[nY _ qX]
   rcases jc dw hQ with ⟨rfl,rfl⟩| ⟨h5,h6⟩
   ·rw[Bx]
    show y∈l'↔_
    rw[o.mem y,cF y]
    constructor
    ·exact fun h=>h.1
    ·exact fun h=>⟨h,fun e=>qX (by rw[e])⟩
   ·exact l.mem h Q h6 y
 ·rcases jc dw hQ with ⟨rfl,rfl⟩| ⟨h5,h6⟩
  ·rw[Bx,Nw.ir rl c0.1,if_pos ⟨gD,rfl⟩,if_neg (fun hc=>by omega)]
   show(l'.length:Int)=_
   have:=o.len
   omega
  ·have:=l.pos h6
   rw[l.len h Q h6,Nw.ir rl h,if_neg (fun hc=>by omega),if_neg (fun hc=>by omega)]
   omega
 ·rw[o.LY,l.LY];exact(al8 ..).symm
 ·exact(e1.mono fun z _ hz=>qS z (.inl hz)).trans ((o.ext.mono fun z _ hz=>qS z hz).trans (e3.mono fun z _ hz=>qS z (.inl hz)))
 ·rcases hz with hz|rfl|hz|hz| ⟨i,Q,hQ,hz⟩
  ·exact .inl (qS z (.inl hz))
  ·exact .inl ((hS z).1 (.inr (.inl rfl)))
  ·exact .inl ((hS z).1 (.inr (.inr (.inl hz))))
  ·exact .inl (qS z (.inr (.inr (.inl hz))))
  ·rcases jc dw hQ with ⟨rfl,rfl⟩| ⟨h5,h6⟩
   ·rcases hz with rfl|hz
    ·exact .inl (qS _ (.inr (.inr (.inr rfl))))
    ·exact .inl (qS z (.inr (.inl hz)))
   ·exact .inl ((hS z).1 (.inr (.inr (.inr (.inr ⟨i,Q,h6,hz⟩)))))
theorem CF{H:Hp}{n:Nat}{S:Nat→Prop}{st:Int}{w:Nw}(h:dI H n S st w)(g:Int):ah Tryz.prog ph [ptr n,i64 g] H fun v H'=>ay (
  (w.len g=0∧v= .tuple [i64 0,.bool false].toArray∧H=H')∨
  (∃x,w.first g x∧v= .tuple [i64 x,.bool true].toArray∧∃q:Nat,q≤2*nQ 2 (w.len g - 1)∧∃S',dI H' n S' (min (st+q) 4611686018427387904) (w.put x (0,0,0))∧ai S H H'∧∀z,S' z→S z∨H.size≤z)):=by
 refine be zm ⟨rfl,?_⟩
 refine v1 iZ.eq_1 ?_
 refine(zJ h g).mono ?_
 rintro _ _ ⟨⟨h0,rfl⟩| ⟨x,hx,rfl⟩,rfl⟩
 ·refine vs ?_
  exact .inl ⟨h0,rfl,rfl⟩
 ·refine vs ?_
  refine(Ec h x).mono ?_
  rintro _ H1 (⟨cr,_,_⟩| ⟨_,rfl,c0,q,rl,hq,S',d1,e1,YM⟩)
  ·exact absurd hx.MQ cr
  refine vs ?_
  obtain⟨e,tL⟩:=hx.2.2.1
  rw[rl]at tL
  injection tL with tL
  subst tL
  exact .inr ⟨x,hx,rfl,q,hq,S',d1,e1,YM⟩
theorem Bb{H:Hp}{n:Nat}{S:Nat→Prop}{st:Int}{w:Nw}(h:dI H n S st w)(x k s:Int):ah Tryz.prog nJ [ptr n,i64 x,vV k s] H fun v H'=>ay (
  (¬ (cZ w.cs x∧∀y,w.cs[x.toNat]? =some y→¬gu y.2.1 y.2.2 k s)∧v= .bool false∧dI H' n S st w∧ax H H')∨
  (cZ w.cs x∧∃y,w.cs[x.toNat]? =some y∧¬gu y.2.1 y.2.2 k s∧v= .bool true∧∃q:Nat,q≤2*nQ 2 (w.len y.1 - 1)∧∃S',dI H' n S' (min (st+q) 4611686018427387904) (w.put x (y.1,k,s))∧ai S H H'∧∀z,S' z→S z∨H.size≤z)):=by
 obtain⟨c,C,rv,fr,fa,ps,at_,m,l,hS⟩:=h
 refine be xa ⟨rfl,?_⟩
 refine v1 gX.eq_1 ?_
 have f0:ax H (H.new 224 [i64 k,u64 s]):=(ai.refl _ _).new _ _
 have b0:(H.new 224 [i64 k,u64 s]).own H.size=some [i64 k,u64 s]:=aG _ _ _
 have m0:=m.ext f0 (fun _ _ h=>h)
 generalize H.new 224 [i64 k,u64 s]=H0 at*
 obtain⟨av,Ki,T8⟩:=m0.own
 refine v2 (ae Ki) (ae b0) ?_
 refine(lV m0.cells x k s).mono ?_
 rintro _ H1 (⟨cr,rfl,c1,e1⟩| ⟨bS,rfl,y,hy,gv,c1,e1⟩)
 ·refine vs ?_
  exact .inl ⟨cr,rfl,⟨c,C,rv,fr,fa,ps,at_,m0.ext e1 (fun _ _ h=>h),l,hS⟩,f0.trans e1⟩
 have m1:=m0.aK c1 e1
 obtain⟨av1,P9,Vf⟩:=m1.own
 refine v1 (ae P9) ?_
 obtain⟨iq,y',MR,gD⟩:=id bS
 rw[hy]at MR
 injection MR with MR
 subst MR
 have cU:(w.put x (y.1,k,s)).cs[x.toNat]? =some (y.1,k,s):=amd (al7.1 hy).1
 have nY:∀z:Nat,z≠x.toNat→(w.put x (y.1,k,s)).cs[z]? =w.cs[z]? :=fun z hz=>amc (Ne.symm hz)
 have NF:cZ (w.put x (y.1,k,s)).cs x:=⟨iq,_,cU,gD⟩
 refine(eT c1 x).mono ?_
 rintro _ H2 (⟨cr,_,_⟩| ⟨_,y2,zV,rfl,c2,e2⟩)
 ·exact absurd NF cr
 rw[cU]at zV
 injection zV with zV
 subst zV
 have m2:=m1.aK c2 e2
 obtain⟨av2,ho2,ha2⟩:=m2.own
 obtain⟨P,hP⟩:=(l.hs y.1.toNat).1 (m.cells.live _ (amb hy) gD)
 have Bx:((y.1.toNat:Nat):Int)=y.1:=by omega
 have L0:∀ (h:Nat) Q,ps[h]? =some (some Q)→∀z:Int,z∈Q.l↔0≤z∧∃e,(w.put x (y.1,k,s)).cs[z.toNat]? =some (((h:Nat):Int),e):=fun h Q hQ z=>by
  rw[l.mem h Q hQ z]
  by_cases Um:z.toNat=x.toNat
  ·rw[Um,cU,hy]
   constructor
   ·rintro⟨z0,e,he⟩
    injection he with he
    exact⟨z0,(k,s),by rw[he]⟩
   ·rintro⟨z0,e,he⟩
    injection he with he
    injection he with WS _
    exact⟨z0,y.2,by rw[←WS]⟩
  ·rw[nY _ Um]
 have cF:=L0 _ P hP
 have bm:=l.len _ P hP
 rw[Bx]at cF bm
 have hxP:x∈P.l:=(cF x).2 ⟨iq,_,cU⟩
 have G8:∀z∈P.l,cZ (w.put x (y.1,k,s)).cs z:=fun z hz=>by
  obtain⟨z0,e,he⟩:=(cF z).1 hz
  exact⟨z0,_,he,gD⟩
 obtain⟨i,hi⟩:=amy hxP
 have tK:=(al7.1 hi).1
 obtain⟨_,YC⟩:=l.TD _ P hP i x hi
 have hal:=(al7.1 YC).1
 obtain⟨f,cc,lb,rfl,rfl,hf,Uk,dw⟩:=m2.atp hP
 obtain⟨fa',ac,la,rfl,hfa,WT,WU,_,_⟩:=Sl.at_ ha2 (i:=x.toNat) (x:=i64 i) (by simp[YC])
 have K5:∀j,j<P.l.length→j≠i→(P.l.getD j 0).toNat≠x.toNat:=fun j hj aT e=>by
  have hgj:P.l[j]? =some (P.l.getD j 0):=by rw[al9,al5 hj];rfl
  have h0:=((cF _).1 (amb hgj)).1
  rw[show P.l.getD j 0=x by omega]at hgj
  exact aT ((l.TD _ P hP).GQ hgj hi)
 have hA:dK (aV (w.put x (y.1,k,s))) 2 P.l i:=by
  have hb:=(l.ok _ P hP).but (aq w) dO i
  refine⟨fun j h1 h2 h3 h4=>?_,fun j h1 h2 h3 h4=>?_⟩
  ·have:=cM dO h1
   rw[jv w x _ (K5 j h2 h3) (K5 _ (by omega) h4)]
   exact hb.1 j h1 h2 h3 h4
  ·have:=cM dO h1
   have:=cM dO h4
   rw[jv w x _ (K5 j h2 (by omega)) (K5 _ (by omega) (by omega))]
   exact hb.2 j h1 h2 h3 h4
 refine v1 (ae ho2) ?_
 refine⟨by omega,?_⟩
 simp(disch:=(first|omega| (simp only[Zs]<;>omega)|fail)) only[go_sem, ↓reduceIte,Zv,ae hf,ama,Uk,TC,ae ho2]
 refine⟨by omega,?_⟩
 refine v3 (ae WT) ama WU ?_
 refine(IX (m2.NG hP) (l.TD _ P hP) tK G8 hA).mono ?_
 rintro _ H3 ⟨rfl,l',pA,q,o,kD,hq⟩
 refine vs ?_
 have sJ:=e1.trans e2
 have hT:∀z,(C z∨P.fp=some z∨fa=some z)→C z∨P.S z∨fa=some z:=fun z hz=>by
  rcases hz with hz|hz|hz
  ·exact .inl hz
  ·exact .inr (.inl (.inr hz))
  ·exact .inr (.inr hz)
 have qS:∀z,(C z∨P.fp=some z∨fa=some z)→S z:=fun z hz=>(hS z).1 (by
  rcases hT z hz with hz|hz|hz
  ·exact .inl hz
  ·exact .inr (.inr (.inr (.inr ⟨_,P,hP,hz⟩)))
  ·exact .inr (.inr (.inr (.inl hz))))
 have aT:∀ (h:Nat) Q,h≠y.1.toNat→ps[h]? =some (some Q)→∀z∈Q.l,z.toNat≠x.toNat:=fun h Q hh hQ z hz e=>by
  obtain⟨z0,e',he⟩:=(l.mem h Q hQ z).1 hz
  rw[e,hy]at he
  injection he with he
  rw[he]at hh
  simp only[Int.toNat_natCast]at hh
  exact hh rfl
 have hwl:∀h:Int,(w.put x (y.1,k,s)).len h=w.len h:=fun h=>by
  rw[Nw.ir hy h]
  simp only
  split<;>omega
 have hol:=o.len
 refine .inr ⟨bS,y,hy,gv,rfl,q,by rw[←bm];exact hq,EN n C (some f) fa (ps.set y.1.toNat (some ⟨P.r,P.fp,l'⟩)),
  ⟨c,C,_,some f,fa,_,pA,m2.Ko hP (P':=⟨P.r,P.fp,l'⟩) rfl o.my (.inl rfl) o.ext hT,
   ⟨by rw[al8];exact l.hl,fun h=>?_,?_,fun h Q hQ=>?_,fun h Q hQ=>?_,fun h Q hQ z=>?_,fun h Q hQ=>?_,?_⟩,fun z=>Iff.rfl⟩,?_,fun z hz=>?_⟩
 ·show w.hs[h]? =some true↔_
  rw[l.hs h]
  by_cases LZ:h=y.1.toNat
  ·subst LZ
   rw[amd dw]
   exact⟨fun _=>⟨_,rfl⟩,fun _=>⟨P,hP⟩⟩
  ·rw[amc (Ne.symm LZ)]
 ·rw[amc (by omega)];exact l.h0
 ·rcases jc dw hQ with ⟨rfl,rfl⟩| ⟨h5,h6⟩
  ·exact kD
  ·exact(l.ok h Q h6).Kl fun z hz v hv=>(jv w x _ (aT h Q h5 h6 z hz) (aT h Q h5 h6 v hv)).symm
 ·rcases jc dw hQ with ⟨rfl,rfl⟩| ⟨h5,h6⟩
  ·exact o.ok
  ·exact(l.TD h Q h6).WP fun z hz z0=>o.off z z0 (l.apart h6 hP h5 hz)
 ·rcases jc dw hQ with ⟨rfl,rfl⟩| ⟨h5,h6⟩
  ·rw[Bx]
   show z∈l'↔_
   rw[o.mem z,cF z]
  ·exact L0 h Q h6 z
 ·rw[hwl]
  rcases jc dw hQ with ⟨rfl,rfl⟩| ⟨h5,h6⟩
  ·rw[Bx]
   show(l'.length:Int)=_
   omega
  ·exact l.len h Q h6
 ·rw[o.LY,l.LY];exact(al8 ..).symm
 ·exact(f0.mono fun _ _ h=>h.elim).trans ((sJ.mono fun z _ hz=>qS z (.inl hz)).trans (o.ext.mono fun z _ hz=>qS z hz))
 ·rcases hz with hz|rfl|hz|hz| ⟨j,Q,hQ,hz⟩
  ·exact .inl (qS z (.inl hz))
  ·exact .inl ((hS z).1 (.inr (.inl rfl)))
  ·exact .inl ((hS z).1 (.inr (.inr (.inl hz))))
  ·exact .inl (qS z (.inr (.inr hz)))
  ·rcases jc dw hQ with ⟨rfl,rfl⟩| ⟨h5,h6⟩
   ·rcases hz with rfl|hz
    ·exact .inl ((hS _).1 (.inr (.inr (.inr (.inr ⟨_,P,hP,.inl rfl⟩)))))
    ·exact .inl (qS z (.inr (.inl hz)))
   ·exact .inl ((hS z).1 (.inr (.inr (.inr (.inr ⟨j,Q,h6,hz⟩)))))
theorem Ed{ov:Value}{I:Hp→Nat→Prop}{T:Nat→Prop}{lt:Int→Int→Bool}{D:Int→Prop}(ho:Nq ov I T lt D){H:Hp}{r:Nat}{S:Nat→Prop}{d:Int}{l:List Int}{pl:Int→Option Int}
  (h:du H r S d l pl)(hd:∀x,S x→¬T x){n:Nat}(hI:I H n)(hf:cT d)(x:Int)(hl:l.length≤1000000)(hp:DW l pl)(hD:∀z∈l,D z:=by intros;trivial):
  ah Tryz.prog BN [ptr r,ov,i64 x] H fun v H'=>ay (
   (pl x=none∧v= .bool false∧H=H')∨
   (∃i,pl x=some i∧v= .bool true∧du H' r S d (cS lt d x l pl i).1 (cS lt d x l pl i).2.1∧I H' (n+(cS lt d x l pl i).2.2)∧ai (fun z=>S z∨T z) H H')):=by
 obtain⟨⟨sv,fp,mb,a1,a2,a3,s1,s2,s3,s4⟩,h2⟩:=id h
 have key:jt true (Value.int .i64 0) ((pl x).map i64)= .tuple [i64 ((pl x).getD 0),.bool (pl x).isSome].toArray:=by cases pl x<;>rfl
 refine be B7 ⟨rfl,?_⟩
 refine v4 lB.eq_1 (ae a1) a3.look key ?_
 cases hx:pl x with
 |none=>
  simp(disch:=(first|omega| (simp only[Zs]<;>omega)|fail)) only[go_sem, ↓reduceIte,Zv,Option.isSome_none]
  exact .inl ⟨rfl,rfl,rfl⟩
 |some i=>
  obtain⟨i0,WV⟩:=(hp x i).1 hx
  have tK:i.toNat<l.length:=(al7.1 WV).1
  obtain⟨f,rfl⟩:∃f,fp=some f:=by
   cases fp with
   |none=>obtain⟨_,e,_⟩:=a2;omega
   |some f=>exact⟨f,rfl⟩
  have Wb:=a2
  obtain⟨_,l1,c,rfl,g2,a5,a6,a7⟩:=Wb
  have g3:∀ (i:Nat) (x:Int),l[i]? =some x→l1[i]? =some (i64 x):=fun i x h=>by
   have aR:=(al7.1 h).1
   have h1:(l.map i64)[i]? =some (i64 x):=by simp[h]
   rw[←a7,amA (by omega)]at h1
   exact h1
  have nN:l[l.length - 1]? =some (l.getD (l.length - 1) 0):=by
   rw[al9,al5 (by omega)];rfl
  have WW:=g3 _ _ nN
  have e1:IntKind.i64.wrap ((l.length:Int) - 1)=((l.length - 1:Nat):Int):=by rw[wrap64 (by omega) (by omega)];omega
  simp(disch:=(first|omega| (simp only[Zs]<;>omega)|fail)) only[go_sem, ↓reduceIte,Zv,Option.isSome_some,Option.getD_some,ae a1,e1,Int.toNat_natCast]
  refine⟨by omega,?_⟩
  refine v5 (ae g2) (ae a1) ama WW e1 ?_
  refine⟨by omega,?_⟩
  obtain⟨PS,GN,T9⟩:=s4 f rfl
  have PY:Value.slice (if(c:Int)=((0:Nat):Int)then some (⟨f,0,none⟩:Addr)else Option.map (fun(x:Addr)=>x.add (((0:Nat):Int).toNat*1)) (some (⟨f,0,none⟩:Addr))) (((l.length - 1:Nat):Int).toNat - ((0:Nat):Int).toNat) ((c:Int).toNat - ((0:Nat):Int).toNat)= .slice (some ⟨f,0,none⟩) (l.length - 1) c:=by
   split<;>rfl
  refine v2 (ae a1) a1 ?_
  rw[PY]
  have ew:ai (fun z=>z=r) H (H.wr r [i64 d,.slice (some ⟨f,0,none⟩) (l.length - 1) c,.map (some mb)]):=(ai.refl (fun z=>z=r) _).wr (fun _=>rfl) _
  have b1:(H.wr r [i64 d,.slice (some ⟨f,0,none⟩) (l.length - 1) c,.map (some mb)]).own r=some [i64 d,.slice (some ⟨f,0,none⟩) (l.length - 1) c,.map (some mb)]:=aj a1
  have b3:=a3.ext ew (Ne.symm s3)
  refine v1 (ae b1) ?_
  refine b3.del fun H2 m2 e2=>?_
  rw[LI]at m2
  have e02:ai S H H2:=(ew.mono fun z _ hz=>hz▸s1).trans (e2.mono fun z _ hz=>hz▸s2)
  have hr:du H2 r S d l.dropLast (uC pl x):=by
   refine⟨⟨.slice (some ⟨f,0,none⟩) (l.length - 1) c,some f,mb,e2.own b1 s3,⟨by simp,l1,c,by rw[amC],(e2.own ((ew.own g2 GN)) T9),by rw[amC];omega,a6,?_⟩,m2,s1,s2,s3,s4⟩,
    fun z hz=>amv (h2 z hz) e02.size⟩
   have hx7:((l.map i64).length)=l.length:=by simp
   rw[amC,List.map_dropLast,anv,hx7,←a7,an7]
   congr 1
   omega
  have Q4:=ho.aN _ _ _ _ hI e02 (fun z hz hs=>hd z hs hz)
  refine vs ?_
  have pJ:l.dropLast.length=l.length - 1:=amC
  refine ak.dec (fun he=>?_) (fun he=>?_)<;>refine vs ?_
  ·refine .inr ⟨i,rfl,rfl,?_,?_,e02.mono fun z _ hz=>.inl hz⟩
   ·unfold cS;rw[if_pos he];exact hr
   ·unfold cS;rw[if_pos he];exact Q4
  ·have Ss:l.getD (l.length - 1) 0∈l:=amb nN
   have oq:i.toNat≠l.length - 1:=fun e=>by rw[e,nN]at WV;injection WV with WV;exact he WV
   refine(uD ho hr hd Q4 i (l.getD (l.length - 1) 0) ⟨i0,by omega⟩ (by omega) (hD _ Ss) (fun z hz=>hD z ((an8 _).subset hz))).mono ?_
   rintro _ H3 ⟨rfl,r3,i3,e3⟩
   have NH:=(e02.mono fun z _ hz=>Or.inl hz).trans e3
   refine vs ?_
   refine ak.dec (fun uB=>?_) (fun uB=>?_)<;>refine vs ?_
   ·have hul:=xW lt d (l.getD (l.length - 1) 0) i.toNat l.dropLast (uC pl x) i
    refine(GO ho r3 hd i3 hf i (l.getD (l.length - 1) 0) ⟨i0,by omega⟩ (by omega) (hD _ Ss) (fun z hz=>by
     rcases Ua lt d _ _ _ _ _ i0 (by omega) z hz with h|h
     ·rw[h];exact hD _ Ss
     ·exact hD z ((an8 _).subset h))).mono ?_
    rintro _ H4 ⟨r4,i4,e4⟩
    refine vs ?_
    refine .inr ⟨i,rfl,rfl,?_,?_,NH.trans e4⟩
    ·unfold cS;rw[if_neg he];simp only;rw[if_pos uB];exact r4
    ·unfold cS;rw[if_neg he];simp only;rw[if_pos uB,←aol];exact i4
   ·refine .inr ⟨i,rfl,rfl,?_,?_,NH⟩
    ·unfold cS;rw[if_neg he];simp only;rw[if_neg uB];exact r3
    ·unfold cS;rw[if_neg he];simp only;rw[if_neg uB];exact i3
end Go.Proofs.YtjlnnljohemifaaGreat
