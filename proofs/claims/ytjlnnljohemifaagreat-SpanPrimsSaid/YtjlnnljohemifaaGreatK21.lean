/- Texts put behind each other. -/
import Derived.Test.YtjlnnljohemifaaGreatK98
import Derived.Test.YtjlnnljohemifaaGreatK9
import Derived.Test.YtjlnnljohemifaaGreatK17
import Derived.Test.YtjlnnljohemifaaGreatK19
import Derived.Test.YtjlnnljohemifaaGreatK20
set_option maxRecDepth 100000
set_option maxHeartbeats 8000000
set_option linter.unusedVariables false
set_option linter.unusedSimpArgs false
namespace Go.Proofs.YtjlnnljohemifaaGreat
open Go Go.Vc
abbrev gA(x:Int)(g:Nat):Value:=.agg #[i64 x,.int .u32 (g:Int)]
structure Ar where
 g:List (Nat×Bool)
 wt:List Int
 nx:Nat
 ct:Int
 mo:Nat
def dq(L:List (Nat×Bool)):List Value:=L.flatMap fun y=>[.int .u32 (y.1:Int),.bool y.2]
theorem qt(L:List (Nat×Bool)):(dq L).length=L.length*2:=by
 induction L with
 |nil=>rfl
 |cons c r ih=>simp only[dq,apU,aoq,aoC,apk]at*;omega
theorem uL{L:List (Nat×Bool)}{i:Nat}{y:Nat×Bool}(hi:L[i]? =some y):(dq L)[i*2]? =some (.int .u32 (y.1:Int))∧(dq L)[i*2+1]? =some (.bool y.2):=by
 induction L generalizing i with
 |nil=>simp at hi
 |cons a r ih=>
  have e:dq (a::r)= .int .u32 (a.1:Int):: .bool a.2::dq r:=rfl
  rw[e]
  cases i with
  |zero=>simp at hi;subst hi;exact⟨rfl,rfl⟩
  |succ i=>
   have:=ih (by simpa using hi)
   rw[show(i+1)*2=i*2+2 by omega]
   exact this
theorem CP{L:List (Nat×Bool)}{i:Nat}{y:Nat×Bool}(hi:L[i]? =some y):(∀v:Nat,(dq L).set (i*2) (.int .u32 (v:Int))=dq (L.set i (v,y.2)))∧(∀b,(dq L).set (i*2+1) (.bool b)=dq (L.set i (y.1,b))):=by
 induction L generalizing i with
 |nil=>simp at hi
 |cons a r ih=>
  have e:dq (a::r)= .int .u32 (a.1:Int):: .bool a.2::dq r:=rfl
  cases i with
  |zero=>simp at hi;subst hi;exact⟨fun _=>rfl,fun _=>rfl⟩
  |succ i=>
   obtain⟨h1,h2⟩:=ih (by simpa using hi)
   refine⟨fun v=>?_,fun b=>?_⟩
   ·have e2:dq ((a::r).set (i+1) (v,y.2))= .int .u32 (a.1:Int):: .bool a.2::dq (r.set i (v,y.2)):=rfl
    rw[e,e2,show(i+1)*2=i*2+1+1 by omega]
    simp only[ao0]
    rw[h1]
   ·have e2:dq ((a::r).set (i+1) (y.1,b))= .int .u32 (a.1:Int):: .bool a.2::dq (r.set i (y.1,b)):=rfl
    rw[e,e2,show(i+1)*2+1=i*2+1+1+1 by omega]
    simp only[ao0]
    rw[h2]
def Ar.bC(A:Ar)(x:Int):Nat:=(A.g.getD x.toNat (0,false)).1
def Ar.live(A:Ar)(x:Int):Prop:=0≤x∧(A.g[x.toNat]?).map (·.2)=some true
instance(A:Ar)(x:Int):Decidable (A.live x):=by unfold Ar.live;exact inferInstance
def Ar.pick(A:Ar):Option (Int×Ar):=
 if A.wt≠[]then some (A.wt.getLastD 0,{A with wt:=A.wt.dropLast})else if A.nx=A.g.length then none else some ((A.nx:Int),{A with nx:=A.nx+1})
def Ar.out(A:Ar)(x:Int):Ar:={A with g:=A.g.set x.toNat (A.bC x+1,true),ct:=A.ct+1}
def Ar.back(A:Ar)(x:Int):Ar:={A with g:=A.g.set x.toNat (A.bC x,false),ct:=A.ct - 1,wt:=if A.bC x<A.mo then A.wt++[x]else A.wt}
def Ar.aS(A:Ar):Nat:=A.g.countP (·.2)
theorem count_set{L:List (Nat×Bool)}{i:Nat}{y:Nat×Bool}(h:L[i]? =some y)(v:Nat)(b:Bool):(L.set i (v,b)).countP (·.2)+y.2.toNat=L.countP (·.2)+b.toNat:=by
 induction L generalizing i with
 |nil=>simp at h
 |cons a r ih=>
  cases i with
  |zero=>
   simp at h
   subst h
   rw[apG,apt,apt]
   cases a.2<;>cases b<;>simp
  |succ i=>
   have:=ih (i:=i) (by simpa using h)
   rw[ao0,apt,apt]
   omega
structure xu(A:Ar):Prop where
 wl:∀x∈A.wt,¬A.live x∧x<A.nx∧0≤x
 wd:A.wt.Nodup
 fr:∀x:Int,A.nx≤x→¬A.live x
 ct:A.ct=A.aS
 nx:A.nx≤A.g.length
structure T5 where
 a:Nat
 sb:Nat
 fo:Option Nat
def T5.S(B:T5)(z:Nat):Prop:=z=B.a∨z=B.sb∨B.fo=some z
structure JD(H:Hp)(B:T5)(A:Ar):Prop where
 own:∃tv,H.own B.a=some [.slice (some ⟨B.sb,0,none⟩) A.g.length A.g.length,tv,i64 A.nx,i64 A.ct,.int .u32 (A.mo:Int)]∧Sl H 1 tv A.wt.length (A.wt.map i64) B.fo
 sl:H.own B.sb=some (dq A.g)
 ne:B.a≠B.sb∧B.fo≠some B.a∧B.fo≠some B.sb
 len:A.g.length≤65536
 ok:xu A
 gs:∀y∈A.g,y.1≤4294967295
 mo:A.mo≤4294967295
section
variable {H H' : Hp} {B : T5} {A : Ar} {T : Nat → Prop}
theorem JD.slt(m:JD H B A):∀z,B.S z→z<H.size:=by
 obtain⟨tv,h1,h2⟩:=m.own
 rintro z (rfl|rfl|h)
 ·exact aB h1
 ·exact aB m.sl
 ·rw[h]at h2;exact Sl.lt h2
theorem JD.ext(m:JD H B A)(e:ag T H H')(hd:∀z,B.S z→¬T z):JD H' B A:=by
 obtain⟨tv,h1,h2⟩:=m.own
 exact⟨⟨tv,e.own h1 (hd _ (.inl rfl)),h2.ext e (fun b hb=>hd b (.inr (.inr hb)))⟩,e.own m.sl (hd _ (.inr (.inl rfl))),m.ne,m.len,m.ok,m.gs,m.mo⟩
theorem Ar.get{A:Ar}{x:Int}(hx:0≤x∧x<A.g.length):∃b,A.g[x.toNat]? =some (A.bC x,b)∧(A.live x↔b=true):=by
 obtain⟨y,hy⟩:∃y,A.g[x.toNat]? =some y:=⟨_,aog (by omega)⟩
 refine⟨y.2,?_,?_⟩
 ·unfold Ar.bC
  rw[aol,hy];rfl
 ·unfold Ar.live
  rw[hy]
  simp[hx.1]
theorem Ar.Bi{A:Ar}{x:Int}(h:A.live x):0≤x∧x<A.g.length:=by
 obtain⟨h0,h1⟩:=h
 cases hy:A.g[x.toNat]? with
 |none=>rw[hy]at h1;cases h1
 |some y=>
  have:=(aoi.1 hy).1
  omega
theorem JD.wtl(m:JD H B A):A.wt.length≤65536∧∀x∈A.wt,0≤x∧x<A.g.length:=by
 have h1:∀x∈A.wt,0≤x∧x<A.g.length:=fun x hx=>by
  have:=m.ok.wl x hx
  have:=m.ok.nx
  omega
 exact⟨apa (bZ m.ok.wd h1) m.len,h1⟩
theorem No(k:Nat):cE [Value.int .u32 0,Value.bool false] k=dq (List.replicate k (0,false)):=by
 unfold cE dq
 induction k with
 |zero=>rfl
 |succ k ih=>rw[aoX,aoX,apb,apU,ih];rfl
theorem FN(H:Hp){n:Int}{mo:Nat}(hn:0≤n∧n≤65536)(hm:0<mo∧mo≤4294967295):af Tryz.prog KN [i64 n,.int .u32 (mo:Int)] H fun v H'=>aw (∃B,v= .tuple [ptr B.a,i64 0].toArray∧JD H' B ⟨List.replicate n.toNat (0,false),[],0,0,mo⟩∧ah H H'∧∀z,B.S z→H.size≤z):=by
 refine bq KV ?_
 refine vs ?_
 refine am.dec (fun g=>absurd g (by omega)) (fun _=>?_)
 refine vs ?_
 refine am.dec (fun g=>absurd g (by omega)) (fun _=>?_)
 refine vs ?_
 refine am.dec (fun g=>absurd g (by omega)) (fun _=>?_)
 refine vs ?_
 refine⟨⟨by omega,by omega,by omega,by omega⟩,?_⟩
 refine vs ?_
 rw[No]
 refine⟨⟨H.size+1,H.size,none⟩,rfl,⟨⟨.slice none 0 0,?_,Sl.nil _ _⟩,?_,⟨by simp only;omega,by simp,by simp⟩,by rw[ao2];omega,⟨by simp,apr,fun x _ hx=>?_,by simp[Ar.aS,List.countP_replicate],ap1 _⟩,fun y hy=>by rw[(List.mem_replicate.1 hy).2];simp,hm.2⟩,((ag.refl _ _).new _ _).new _ _,fun z hz=>?_⟩
 ·rw[ao2]
  exact aT (by simp only[ap])
 rotate_left
 ·obtain⟨h0,h1⟩:=hx
  simp only[apB]at h1
  split at h1<;>simp at h1
 rotate_left
 ·simp only
  rw[cu (by simp only[ap];omega),az]
 ·rcases hz with h|h|h
  ·simp only at h;omega
  ·simp only at h;omega
  ·cases h
theorem sT(m:JD H B A)(x:Int)(g:Nat):af Tryz.prog yH [ptr B.a,gA x g] H fun v H'=>aw (v= .bool (decide (A.live x∧A.bC x=g))∧ah H H'):=by
 obtain⟨tv,o1,_⟩:=m.own
 refine GO za ⟨rfl,?_⟩
 refine v1 nj.eq_1 ?_
 have f0:ah H (H.new 114 [i64 x,.int .u32 (g:Int)]):=(ag.refl _ _).new _ _
 have b0:(H.new 114 [i64 x,.int .u32 (g:Int)]).own H.size=some [i64 x,.int .u32 (g:Int)]:=az _ _ _
 have m0:=m.ext f0 (fun _ _ h=>h)
 generalize H.new 114 [i64 x,.int .u32 (g:Int)]=H0 at*
 obtain⟨tv0,o0,_⟩:=m0.own
 refine am.dec (fun h0=>?_) (fun h0=>?_)<;>refine v2 (ae b0) (ae o0) ?_
 rotate_left
 ·rw[aoI (fun h=>h0 h.1.1)]
  exact⟨rfl,f0⟩
 refine am.dec (fun h1=>?_) (fun h1=>?_)<;>refine v2 (ae b0) (ae o0) ?_
 rotate_left
 ·rw[aoI (fun h=>h1 (Ar.Bi h.1).2)]
  exact⟨rfl,f0⟩
 obtain⟨b,hb,jS⟩:=Ar.get (A:=A) (x:=x) ⟨h0,h1⟩
 obtain⟨c1,c2⟩:=uL hb
 have hl:=qt A.g
 refine⟨⟨by omega,by omega⟩,?_⟩
 refine v2 (ae m0.sl) aoh ?_
 have hdt:((dq A.g).drop (x.toNat*2)).take 2=[.int .u32 (A.bC x:Int),.bool b]:=by
  apply ao7
  intro k
  match k with
  |0=>rw[aoN (by omega),aoV,Nat.add_zero];exact c1
  |1=>rw[aoN (by omega),aoV];exact c2
  |k+2=>rw[aoy (by simp;omega)];rfl
 rw[hdt]
 refine⟨by omega,?_⟩
 refine v1 (ae b0) ?_
 have heq:xw [(0,none,Shape.int),(1,none,Shape.bool)] [Value.int IntKind.u32 (A.bC x:Int),Value.bool b] [Value.int IntKind.u32 (g:Int),Value.bool true]=some (decide (A.bC x=g) && b):=by
  by_cases hg:A.bC x=g
  ·cases b<;>simp[xw,nY,bj,hg,ee]
  ·have:¬ (A.bC x:Int)=(g:Int):=by omega
   cases b<;>simp[xw,nY,bj,hg,ee,this]
 rw[heq]
 simp(disch:=(first|omega| (simp only[Zs]<;>omega)|fail)) only[go_sem, ↓reduceIte,Zv,Option.map_some]
 refine⟨aoD Value.bool ?_,f0⟩
 by_cases hg:A.bC x=g
 ·rw[aov hg,apy]
  cases oQ:b
  ·exact(aoI (fun h=>by have:=jS.1 h.1;rw[oQ]at this;cases this)).symm
  ·exact(aov ⟨jS.2 oQ,hg⟩).symm
 ·rw[aoI hg,aoI (fun h=>hg h.2)]
  rfl
theorem HP(m:JD H B A){x:Int}(hx:A.live x):af Tryz.prog Cc [ptr B.a,i64 x] H fun v H'=>aw (v= .tuple [gA x (A.bC x),.bool true].toArray∧ah H H'):=by
 obtain⟨tv,o1,_⟩:=m.own
 have uM:=Ar.Bi hx
 obtain⟨b,hb,jS⟩:=Ar.get (A:=A) (x:=x) uM
 obtain rfl:=jS.1 hx
 obtain⟨c1,c2⟩:=uL hb
 have hl:=qt A.g
 refine bq Co ?_
 refine vs ?_
 have f0:ah H (H.new 114 [Value.int .i64 0,Value.int .u32 0]):=(ag.refl _ _).new _ _
 have b0:(H.new 114 [Value.int .i64 0,Value.int .u32 0]).own H.size=some [Value.int .i64 0,Value.int .u32 0]:=az _ _ _
 have m0:=m.ext f0 (fun _ _ h=>h)
 have z0:(H.new 114 [Value.int .i64 0,Value.int .u32 0]).size=H.size+1:=ap _ _ _
 generalize H.new 114 [Value.int .i64 0,Value.int .u32 0]=H0 at*
 obtain⟨tv0,o0,_⟩:=m0.own
 refine am.dec (fun h=>absurd h (by omega)) (fun _=>?_)
 refine v1 (ae o0) ?_
 refine am.dec (fun h=>absurd h (by omega)) (fun _=>?_)
 refine v1 (ae o0) ?_
 refine⟨⟨by omega,by omega⟩,?_⟩
 refine v4 (ae m0.sl) aoh c2 (ae o0) ?_
 refine⟨⟨by omega,by omega⟩,?_⟩
 refine v5 (ae m0.sl) aoh Nat.add_zero c1 b0 ?_
 have e1:ag (fun z=>z=H.size) H0 (H0.wr H.size [Value.int .i64 x,Value.int .u32 (A.bC x:Int)]):=(ag.refl (fun z=>z=H.size) _).wr (fun _=>rfl) _
 have b1:(H0.wr H.size [Value.int .i64 x,Value.int .u32 (A.bC x:Int)]).own H.size=some [Value.int .i64 x,Value.int .u32 (A.bC x:Int)]:=ai b0
 refine v1 (ae b1) ?_
 exact⟨rfl,f0.then e1 (fun z hz=>by omega)⟩
end
end Go.Proofs.YtjlnnljohemifaaGreat

namespace Go.Proofs.YtjlnnljohemifaaGreat
open Go Go.Vc
structure Ed where
 f:Int
 t:Int
 w:Int
 deriving DecidableEq
structure fj(n:Int)(es:List Ed):Prop where
 n0:0≤n
 n1:n≤4096
 len:es.length≤65536
 ends:∀e∈es,0≤e.f∧e.f<n∧0≤e.t∧e.t<n
def eE(e:Ed):List Value:=[i64 e.f,i64 e.t,i64 e.w]
def dW(es:List Ed):List Value:=es.flatMap eE
theorem rX(e:Ed)(es:List Ed):dW (e::es)=eE e++dW es:=rfl
theorem PS(es:List Ed):(dW es).length=es.length*3:=by
 induction es with
 |nil=>rfl
 |cons r rs ih=>rw[rX,aoq,ih,aoC];show 3+_=_;omega
theorem RN:∀ (rs:List Ed) (i:Nat) (r:Ed),rs[i]? =some r→((dW rs).drop (i*3)).take 3=eE r:=by
 intro rs
 induction rs with
 |nil=>intro i r h;simp at h
 |cons x rs ih=>
  intro i r h
  cases i with
  |zero=>
   simp only[aoL,aor]at h
   subst h
   rw[rX,aoZ,aqd]
   exact List.take_left' rfl
  |succ i=>
   rw[rX,show(i+1)*3=3+i*3 by omega,←aqc,List.drop_left' (by rfl)]
   exact ih i r (by simpa using h)
theorem cO.DN{H:Hp}{a:Option Addr}{n c:Nat}{rs:List Ed}(h:cO H 3 (.slice a n c) n (dW rs)){i:Nat}{r:Ed}(hx:rs[i]? =some r):
  i<n∧∃b o lb,a=some ⟨b,o,none⟩∧H.rd b=some lb∧o+i*3+3≤lb.length∧(lb.drop (o+i*3)).take 3=eE r:=by
 obtain⟨hl,hv⟩:=h
 rw[PS]at hl
 have hi:i<rs.length:=by
  rcases apz i rs.length with h|h
  ·exact h
  ·rw[aoy h]at hx;cases hx
 refine⟨by omega,?_⟩
 rcases hv with ⟨hn,_⟩| ⟨b,o,c2,l,hs,eW,nS,ht⟩
 ·omega
 ·injection hs with eK Kj GQ
  refine⟨b,o,l,eK,eW,by omega,?_⟩
  have h7:=RN rs i r hx
  rw[←ht,List.drop_take,aqj,aqc,apD (by omega)]at h7
  exact h7
theorem cJ{H:Hp}{v:Value}{size n:Nat}{xs:List Value}{fp:Option Nat}(h:Sl H size v n xs fp):∃a c,v= .slice a n c∧n≤c:=by
 obtain⟨_,h⟩:=h
 cases fp with
 |none=>obtain⟨rfl,rfl⟩:=h;exact⟨_,_,rfl,aou _⟩
 |some b=>obtain⟨l,c,rfl,_,hc,_⟩:=h;exact⟨_,_,rfl,hc⟩
theorem cO.num{H:Hp}{a:Option Addr}{n c:Nat}{xs:List Int}(h:cO H 1 (.slice a n c) n (xs.map i64)){i:Nat}{x:Int}(hx:xs[i]? =some x):
  i<n∧∃b o lb,a=some ⟨b,o,none⟩∧H.rd b=some lb∧lb[o+i]? =some (i64 x):=by
 obtain⟨hl,hv⟩:=h
 rw[aoE,aok]at hl
 have hi:=(aoi.1 hx).1
 refine⟨by omega,?_⟩
 rcases hv with ⟨hn,_⟩| ⟨b,o,c2,l,hs,eW,nS,ht⟩
 ·omega
 ·injection hs with eK Kj GQ
  refine⟨b,o,l,eK,eW,?_⟩
  have h7:(xs.map i64)[i]? =some (i64 x):=by rw[aoF,hx];rfl
  rw[←ht,aoU,if_pos (by omega),aoV]at h7
  exact h7
theorem cO.oU{H:Hp}{a:Option Addr}{n c:Nat}{rs:List Ed}(h:cO H 3 (.slice a n c) n (dW rs)){i:Nat}{r:Ed}(hx:rs[i]? =some r):
  i<n∧∃b o lb,a=some ⟨b,o,none⟩∧H.rd b=some lb∧o+i*3+3≤lb.length∧(lb.drop (o+i*3)).take 3=eE r∧lb[o+i*3]? =some (i64 r.f)∧lb[o+i*3+1]? =some (i64 r.t)∧lb[o+i*3+2]? =some (i64 r.w):=by
 obtain⟨h1,b,o,lb,h2,h3,h4,h5⟩:=cO.DN h hx
 have key:∀k v,(eE r)[k]? =some v→lb[o+i*3+k]? =some v:=fun k v hv=>by
  rw[←h5,aoU]at hv
  split at hv
  ·rw[aoV]at hv;exact hv
  ·cases hv
 exact⟨h1,b,o,lb,h2,h3,h4,h5,by simpa using key 0 _ rfl,key 1 _ rfl,key 2 _ rfl⟩
theorem fD{H:Hp}{a:Option Addr}{c:Nat}{xs:List Int}(h:cO H 1 (.slice a xs.length c) xs.length (xs.map i64))(x:Int)(hm:xs.length≤1000000000):
  af Tryz.prog qV [.slice a xs.length c,i64 x] H fun v H'=>aw ((∃i:Int,v=i64 i∧((i= -1∧x∉xs)∨(0≤i∧xs[i.toNat]? =some x)))∧H'=H):=by
 refine bq rD ?_
 refine vs ?_
 refine aW.intro (fun m env H'=>H'=H∧∃j:Nat,m=xs.length - j∧j≤xs.length∧(∀e∈xs.take j,x≠e)∧env=[(0,.slice a xs.length c),(1,i64 x),(7,i64 xs.length),(8,i64 j)]) xs.length ⟨rfl,0,by omega,by omega,by simp,rfl⟩ ?_
 rintro m env H1 ⟨e1,j,T6,hj,cX,rfl⟩
 obtain rfl:=e1.symm
 refine vs ?_
 refine am.dec (fun aO=>?_) (fun aO=>?_)<;>refine vs ?_
 ·have fS:j<xs.length:=by omega
  obtain⟨e,he⟩:∃e,xs[j]? =some e:=⟨_,aog fS⟩
  obtain⟨_,b,o,lb,rfl,Bj,bX⟩:=cO.num h he
  refine⟨⟨by omega,by omega⟩,?_⟩
  refine v4 Bj Int.toNat_natCast aok bX ?_
  refine am.dec (fun hx=>?_) (fun hx=>?_)<;>refine vs ?_
  ·exact⟨⟨j,rfl,.inr ⟨by omega,by rw[Int.toNat_natCast,he,hx]⟩⟩,rfl⟩
  ·rw[wrap64 (n:=(j:Int)+1) (by omega) (by omega)]
   refine⟨xs.length - (j+1),by omega,trivial,j+1,rfl,by omega,?_,rfl⟩
   intro e' iF
   rw[aoS,he]at iF
   rcases aot.1 iF with iF|iF
   ·exact cX e' iF
   ·have:e'=e:=by simpa using iF
    rw[this];exact hx
 ·have fS:j=xs.length:=by omega
  subst fS
  rw[aoO]at cX
  exact⟨⟨-1,rfl,.inl ⟨rfl,fun hm=>cX x hm rfl⟩⟩,rfl⟩
theorem uN{H:Hp}{a:Option Addr}{c:Nat}{xs:List Int}(h:cO H 1 (.slice a xs.length c) xs.length (xs.map i64))(x:Int)(hm:xs.length≤1000000000):
  af Tryz.prog nU [.slice a xs.length c,i64 x] H fun v H'=>aw (v= .bool (decide (x∈xs))∧H'=H):=by
 refine bq nV ?_
 refine vs ?_
 refine(fD h x hm).mono ?_
 rintro _ H1 ⟨⟨i,rfl,hi⟩,e⟩
 obtain rfl:=e.symm
 refine vs ?_
 refine⟨aoD Value.bool ?_,rfl⟩
 rcases hi with ⟨rfl,h1⟩| ⟨h0,h1⟩
 ·rw[aoI h1];rfl
 ·rw[aov (aom h1)]
  exact aov (by omega)
theorem Ek{H:Hp}{a:Option Addr}{c:Nat}{xs:List Int}(f:FuncId)(qu:List Value)(q:Int→Bool)(h:cO H 1 (.slice a xs.length c) xs.length (xs.map i64))(El:eF Tryz.prog f=true)
  (hf:∀x,af Tryz.prog f (i64 x::qu) H fun v GP=>aw (v= .bool (q x)∧GP=H))(hm:xs.length≤1000000000):
  af Tryz.prog fK [.slice a xs.length c,.func (.func f) #[] qu.toArray] H fun v H'=>aw ((∃i:Int,v=i64 i∧((i= -1∧∀x∈xs,q x=false)∨(0≤i∧(∀x∈xs.take i.toNat,q x=false)∧∃x,xs[i.toNat]? =some x∧q x=true)))∧H'=H):=by
 refine bq fN ?_
 refine vs ?_
 refine aW.intro (fun m env H'=>H'=H∧∃j:Nat,m=xs.length - j∧j≤xs.length∧(∀e∈xs.take j,q e=false)∧env=[(0,.slice a xs.length c),(1,.func (.func f) #[] qu.toArray),(7,i64 xs.length),(8,i64 j)]) xs.length ⟨rfl,0,by omega,by omega,by simp,rfl⟩ ?_
 rintro m env H1 ⟨e1,j,T6,hj,cX,rfl⟩
 obtain rfl:=e1.symm
 refine vs ?_
 refine am.dec (fun aO=>?_) (fun aO=>?_)<;>refine vs ?_
 ·have fS:j<xs.length:=by omega
  obtain⟨e,he⟩:∃e,xs[j]? =some e:=⟨_,aog fS⟩
  obtain⟨_,b,o,lb,rfl,Bj,bX⟩:=cO.num h he
  refine⟨⟨by omega,by omega⟩,?_⟩
  refine v4 Bj Int.toNat_natCast aok bX ?_
  refine⟨El,?_⟩
  refine af.mono (by simpa using hf e) ?_
  rintro _ H2 ⟨rfl,e2⟩
  obtain rfl:=e2.symm
  refine vs ?_
  cases hx:q e
  ·refine vs ?_
   rw[wrap64 (n:=(j:Int)+1) (by omega) (by omega)]
   refine⟨xs.length - (j+1),by omega,trivial,j+1,rfl,by omega,?_,rfl⟩
   intro e' iF
   rw[aoS,he]at iF
   rcases aot.1 iF with iF|iF
   ·exact cX e' iF
   ·have:e'=e:=by simpa using iF
    rw[this];exact hx
  ·refine vs ?_
   exact⟨⟨j,rfl,.inr ⟨by omega,by rw[Int.toNat_natCast];exact cX,e,by rw[Int.toNat_natCast];exact he,hx⟩⟩,rfl⟩
 ·have fS:j=xs.length:=by omega
  subst fS
  rw[aoO]at cX
  exact⟨⟨-1,rfl,.inl ⟨rfl,cX⟩⟩,rfl⟩
theorem Lv(k:Nat):cE [Value.int .i64 0] k=(List.replicate k (0:Int)).map i64:=by
 unfold cE
 induction k with
 |zero=>rfl
 |succ k ih=>rw[aoX,aoX,apb,ao5,ih];rfl
theorem FO(l new:List Value)(i:Nat)(h:i+new.length≤l.length):(bk l i new).take i=l.take i:=by
 apply ao7
 intro k
 by_cases hk:k<i
 ·rw[aoN hk,aoN hk,getElem?_splice new l i k h,if_neg (by omega)]
 ·rw[aoy (by simp;omega),aoy (by simp;omega)]
theorem CR{H:Hp}{v:Value}{xs:List Int}{fp:Option Nat}(s:Sl H 1 v xs.length (xs.map i64) fp)(f:FuncId)(qu:List Value)(q:Int→Bool)(El:eF Tryz.prog f=true)
  (hf:∀H',ag (fun z=>fp=some z) H H'→∀x,af Tryz.prog f (i64 x::qu) H' fun v GP=>aw (v= .bool (q x)∧GP=H'))(hm:xs.length≤1000000000):
  af Tryz.prog mA [v,.func (.func f) #[] qu.toArray] H fun v' H'=>aw (Sl H' 1 v' (xs.filter fun x=> !q x).length ((xs.filter fun x=> !q x).map i64) fp∧ag (fun z=>fp=some z) H H'):=by
 obtain⟨a,c,rfl⟩:=Sl.shape s
 refine bq mC ?_
 refine vs ?_
 refine(Ek f qu q s.rd El (hf H (ag.refl _ _)) hm).mono ?_
 rintro _ H1 ⟨⟨i0,rfl,FE⟩,e⟩
 obtain rfl:=e.symm
 refine vs ?_
 rcases FE with ⟨rfl,cX⟩| ⟨h0,cX,x0,gf,Vu⟩
 ·refine am.cQ (by simp) ?_
  refine vs ?_
  have:xs.filter (fun x=> !q x)=xs:=by
   rw[apK]
   intro x hx
   rw[cX x hx];rfl
  rw[this]
  exact⟨s,ag.refl _ _⟩
 obtain⟨i,rfl⟩:∃i:Nat,i0=(i:Int):=⟨i0.toNat,by omega⟩
 rw[Int.toNat_natCast]at cX gf
 have hi:=(aoi.1 gf).1
 refine am.dec (fun h=>by omega) (fun _=>?_)
 refine vs ?_
 obtain⟨_,b,lb0,rfl,_,_⟩:=Sl.zA s gf
 have fZ:fp=some b:=by
  cases fp with
  |none=>have:=s.2.2;injection this with h1;cases h1
  |some b'=>obtain⟨_,_,h1,_⟩:=s.2;injection h1 with h1;injection h1 with h1;injection h1 with h1;rw[h1]
 subst fZ
 have f0:(xs.take (i+1)).filter (fun x=> !q x)=xs.take i:=by
  rw[aoS,gf,aqg]
  have h1:(xs.take i).filter (fun x=> !q x)=xs.take i:=by
   rw[apK]
   intro x hx
   rw[cX x hx];rfl
  rw[h1]
  simp[Vu]
 rw[wrap64 (by omega) (by omega)]
 refine aW.intro (fun m env H'=>∃ (i j:Nat) (ys:List Int),m=xs.length - j∧j≤xs.length∧i<j∧i=((xs.take j).filter fun x=> !q x).length∧ys.length=xs.length∧ys.take i=(xs.take j).filter (fun x=> !q x)∧ys.drop j=xs.drop j∧
  Sl H' 1 (.slice (some ⟨b,0,none⟩) xs.length c) xs.length (ys.map i64) (some b)∧ag (fun z=>some b=some z) H H'∧env=[(0,.slice (some ⟨b,0,none⟩) xs.length c),(1,.func (.func f) #[] qu.toArray),(5,i64 i),(6,i64 j)]) _
  ⟨i,i+1,xs,rfl,by omega,by omega,by rw[f0,aoW];omega,rfl,f0.symm,rfl,s,ag.refl _ _,rfl⟩ ?_
 clear cX gf Vu f0 hi h0
 rintro m env H2 ⟨i,j,ys,rfl,hj,Kl,qh,Y9,hyt,hyd,s2,e2,rfl⟩
 obtain⟨_,lb,c2,eK,q2,GQ,WM,PT⟩:=id s2
 injection eK with _ _ eK
 subst eK
 rw[aok]at WM PT
 refine vs ?_
 refine am.dec (fun aO=>?_) (fun aO=>?_)<;>refine vs ?_
 ·have fS:j<xs.length:=by omega
  obtain⟨x,hx⟩:∃x,xs[j]? =some x:=⟨_,aog fS⟩
  have mM:ys[j]? =some x:=by
   have h1:(ys.drop j)[0]? =(xs.drop j)[0]? :=by rw[hyd]
   rwa[aoV,aoV,Nat.add_zero,hx]at h1
  have bX:lb[j]? =some (i64 x):=s2.get q2 (by rw[aoF,mM];rfl)
  have tk:xs.take (j+1)=xs.take j++[x]:=by rw[aoS,hx];rfl
  have dj:∀zs:List Int,zs.length=xs.length→(∀k,j<k→zs[k]? =ys[k]?)→zs.drop (j+1)=xs.drop (j+1):=fun zs hz hk=>by
   apply ao7
   intro k
   have h1:(ys.drop j)[k+1]? =(xs.drop j)[k+1]? :=by rw[hyd]
   rw[aoV,aoV]at h1 ⊢
   rw[hk _ (by omega),show j+1+k=j+(k+1) by omega]
   exact h1
  refine⟨⟨by omega,by omega⟩,?_⟩
  refine v5 (ae q2) aoh aok Int.toNat_natCast bX ?_
  refine⟨El,?_⟩
  refine af.mono (by simpa using hf H2 e2 x) ?_
  rintro _ H3 ⟨rfl,e⟩
  obtain rfl:=e.symm
  refine vs ?_
  cases hq:q x
  ·refine vs ?_
   refine⟨⟨by omega,by omega⟩,?_⟩
   refine v4 q2 aoh aok Int.toNat_natCast ?_
   refine⟨by omega,?_⟩
   have s3:=s2.uB q2 i (i64 x)
   have e3:ag (fun z=>some b=some z) H2 (H2.wr b (lb.set i (i64 x))):=(ag.refl (fun z=>some b=some z) _).wr (fun _=>rfl) _
   refine vs ?_
   rw[wrap64 (n:=(i:Int)+1) (by omega) (by omega),wrap64 (n:=(j:Int)+1) (by omega) (by omega)]
   have ff:(xs.take (j+1)).filter (fun x=> !q x)=(xs.take j).filter (fun x=> !q x)++[x]:=by
    rw[tk,aqg]
    simp[hq]
   refine⟨xs.length - (j+1),by omega,i+1,j+1,ys.set i x,rfl,by omega,by omega,by rw[ff,aoq,←qh];rfl,by rw[aoj];exact Y9,?_,dj _ (by rw[aoj];exact Y9) (fun k hk=>by rw[aon (by omega)]),?_,e2.trans e3,rfl⟩
   ·rw[ff,←hyt,aoS,aoo (by omega),List.take_set_of_le (by omega)]
    rfl
   ·rw[ao3];exact s3
  ·refine vs ?_
   rw[wrap64 (n:=(j:Int)+1) (by omega) (by omega)]
   have ff:(xs.take (j+1)).filter (fun x=> !q x)=(xs.take j).filter (fun x=> !q x):=by
    rw[tk,aqg]
    simp[hq]
   exact⟨xs.length - (j+1),by omega,i,j+1,ys,rfl,by omega,by omega,by rw[ff];exact qh,Y9,by rw[ff];exact hyt,dj ys Y9 (fun k _=>rfl),s2,e2,rfl⟩
 ·obtain rfl:j=xs.length:=by omega
  rw[aoO]at hyt qh
  refine⟨⟨by omega,by omega,by omega,by omega⟩,?_⟩
  refine vs ?_
  have hic:¬ (c:Int)=(i:Int):=by omega
  have hlz:(cE [Value.int .i64 0] (xs.length - i)).length=xs.length - i:=by rw[Lv];simp
  rw[if_neg hic]
  refine .inr ⟨by simp only[Int.toNat_natCast];omega,b,i,lb,?_,by rw[q2];rfl,?_,?_,?_⟩
  ·simp[Addr.add]
   exact fun h=>h.symm
  ·rw[Int.toNat_natCast,Int.toNat_natCast,Lv]
   exact rQ _
  ·rw[Int.toNat_natCast,Int.toNat_natCast]
   show i+(xs.length - i)*1≤lb.length
   omega
  ·rw[Int.toNat_natCast,Int.toNat_natCast]
   have e3:ag (fun z=>some b=some z) H2 (H2.wr b (bk lb i (cE [Value.int .i64 0] (xs.length - i)))):=(ag.refl (fun z=>some b=some z) _).wr (fun _=>rfl) _
   have q3:(H2.wr b (bk lb i (cE [Value.int .i64 0] (xs.length - i)))).own b=some (bk lb i (cE [Value.int .i64 0] (xs.length - i))):=ai q2
   refine vs ?_
   refine⟨⟨by omega,by omega,by omega,by omega⟩,?_⟩
   have kD:¬ (c:Int)=((0:Nat):Int):=by omega
   refine vs ?_
   rw[if_neg kD]
   rw[←hyt]
   refine⟨⟨by simp,bk lb i (cE [Value.int .i64 0] (xs.length - i)),c,?_,q3,?_,?_,?_⟩,e2.trans e3⟩
   ·have h1:(ys.take i).length=i:=by rw[aoW];omega
    rw[h1]
    simp[KI,Addr.add]
   ·rw[aoW];omega
   ·rw[kq];omega
   ·rw[aok,aoW,apD (by omega),FO _ _ _ (by rw[hlz];omega),List.map_take,←PT,aqj,apD (by omega)]
section
variable {H H' : Hp} {B : T5} {A A' : Ar} {T : Nat → Prop} {x : Int}
theorem Ar.vG{A A':Ar}{x:Int}(h:A.pick=some (x,A'))(ok:xu A):(0≤x∧x<A.g.length)∧¬A.live x∧x∉A'.wt∧x<A'.nx∧A'.g=A.g∧A'.ct=A.ct∧A'.mo=A.mo:=by
 have Km:=ok.nx
 unfold Ar.pick at h
 split at h
 ·rename_i aP
  injection h with h
  injection h with h1 h2
  subst h1 h2
  have hw:A.wt=A.wt.dropLast++[A.wt.getLastD 0]:=by
   conv=>lhs;rw[←List.dropLast_concat_getLast aP]
   rw[apP,List.getLast?_eq_some_getLast aP]
   rfl
  have hm:A.wt.getLastD 0∈A.wt:=by rw[hw];simp
  have h5:=ok.wl _ hm
  refine⟨by omega,h5.1,fun hd=>?_,h5.2.1,rfl,rfl,rfl⟩
  have gA:=ok.wd
  rw[hw,ao1]at gA
  exact gA.2.2 _ hd _ (by simp) rfl
 ·split at h
  ·cases h
  ·rename_i h1 h2
   injection h with h
   injection h with h3 h4
   subst h3 h4
   refine⟨by omega,ok.fr _ (apH _),fun hm=>?_,by simp only;omega,rfl,rfl,rfl⟩
   have:=ok.wl _ hm
   omega
theorem Ar.nI{A A':Ar}{x y:Int}{v:Nat}{b:Bool}(hx:0≤x∧x<A.g.length)(h:A'.g=A.g.set x.toNat (v,b))(hy:0≤y):A'.live y↔if y=x then b=true else A.live y:=by
 unfold Ar.live
 rw[h]
 by_cases e:y=x
 ·rw[if_pos e,e,aoo (by omega)]
  simp[hx.1]
 ·rw[if_neg e,aon (by omega)]
theorem Ar.EN{A A':Ar}{x y:Int}{v:Nat}{b:Bool}(hx:0≤x∧x<A.g.length)(h:A'.g=A.g.set x.toNat (v,b))(hy:0≤y):A'.bC y=if y=x then v else A.bC y:=by
 unfold Ar.bC
 rw[h,aol,aol]
 by_cases e:y=x
 ·rw[if_pos e,e,aoo (by omega)];rfl
 ·rw[if_neg e,aon (by omega)]
theorem xu.out{A A':Ar}{x:Int}(ok:xu A')(hg:A'.g=A.g)(hx:0≤x∧x<A'.g.length)(hl:¬A'.live x)(hw:x∉A'.wt)(hn:x<A'.nx):xu (A'.out x):=by
 obtain⟨b,hb,Dz⟩:=Ar.get hx
 have WN:b=false:=by cases b;rfl;exact absurd (Dz.2 rfl) hl
 refine⟨fun y hy=>?_,ok.wd,fun y hy oI=>?_,?_,?_⟩
 ·obtain⟨h1,h2,h3⟩:=ok.wl y hy
  refine⟨fun h=>?_,h2,h3⟩
  rw[Ar.nI (A:=A') hx rfl h3,if_neg (fun e=>hw (by rw[←e];exact hy))]at h
  exact h1 h
 ·have WA:=oI.1
  have DO:(A'.nx:Int)≤y:=hy
  rw[Ar.nI (A:=A') hx rfl WA,if_neg (by omega)]at oI
  exact ok.fr y DO oI
 ·have:=count_set hb (A'.bC x+1) true
  rw[WN]at this
  have h2:=ok.ct
  show A'.ct+1=(((A'.g.set x.toNat (A'.bC x+1,true)).countP (·.2):Nat):Int)
  unfold Ar.aS at h2
  simp at this
  omega
 ·show A'.nx≤(A'.g.set x.toNat _).length
  rw[aoj];exact ok.nx
theorem xu.back{A:Ar}{x:Int}(ok:xu A)(hl:A.live x):xu (A.back x):=by
 have hx:=Ar.Bi hl
 obtain⟨b,hb,Dz⟩:=Ar.get hx
 have hbt:=Dz.1 hl
 have Ds:x<A.nx:=aoH fun h=>ok.fr x (by omega) hl
 have Vv:x∉A.wt:=fun h=>(ok.wl x h).1 hl
 have hnl:¬ (A.back x).live x:=fun h=>by
  rw[Ar.nI (A:=A) hx rfl hx.1,if_pos rfl]at h
  cases h
 have CS:∀y,0≤y→(A.back x).live y→A.live y:=fun y h0 h=>by
  rw[Ar.nI (A:=A) hx rfl h0]at h
  split at h
  ·cases h
  ·exact h
 refine⟨fun y hy=>?_,?_,fun y hy oI=>ok.fr y hy (CS y oI.1 oI),?_,?_⟩
 ·have DO:y∈(if A.bC x<A.mo then A.wt++[x]else A.wt):=hy
  have Kk:y∈A.wt∨y=x:=by
   split at DO
   ·rcases aot.1 DO with h|h
    ·exact .inl h
    ·exact .inr (aop.1 h)
   ·exact .inl DO
  rcases Kk with h|h
  ·obtain⟨h1,h2,h3⟩:=ok.wl y h
   exact⟨fun h4=>h1 (CS y h3 h4),h2,h3⟩
  ·rw[h];exact⟨hnl,Ds,hx.1⟩
 ·show(if A.bC x<A.mo then A.wt++[x]else A.wt).Nodup
  split
  ·rw[ao1]
   refine⟨ok.wd,by simp,fun u hu v hv e=>Vv ?_⟩
   rw[aop.1 hv]at e
   rw[←e];exact hu
  ·exact ok.wd
 ·have:=count_set hb (A.bC x) false
  rw[hbt]at this
  have h2:=ok.ct
  show A.ct - 1=(((A.g.set x.toNat (A.bC x,false)).countP (·.2):Nat):Int)
  unfold Ar.aS at h2
  simp at this
  omega
 ·show A.nx≤(A.g.set x.toNat _).length
  rw[aoj];exact ok.nx
theorem Em(m:JD H B A):af Tryz.prog yI [ptr B.a] H fun v H'=>aw (
  (A.pick=none∧v= .tuple [i64 0,.bool false].toArray∧H'=H)∨(∃x A',A.pick=some (x,A')∧v= .tuple [i64 x,.bool true].toArray∧JD H' B A'∧ag (fun z=>z=B.a) H H')):=by
 obtain⟨tv,o1,s1⟩:=m.own
 obtain⟨wa,wc,rfl⟩:=Sl.shape s1
 have hwl:=m.wtl.1
 have dk:=m.len
 have Km:=m.ok.nx
 refine bq zb ?_
 refine v1 (ae o1) ?_
 refine am.dec (fun h0=>?_) (fun h0=>?_)
 ·have aP:A.wt≠[]:=fun h=>by rw[h]at h0;simp at h0
  obtain⟨k,hk⟩:∃k,A.wt.length=k+1:=⟨A.wt.length - 1,by omega⟩
  obtain⟨x,hx⟩:∃x,A.wt[k]? =some x:=⟨_,aog (by omega)⟩
  have jf:A.wt.getLastD 0=x:=by
   rw[apP,List.getLast?_eq_getElem?,hk,Nat.add_sub_cancel,hx]
   rfl
  have hdl:A.wt.dropLast=A.wt.take k:=by rw[apO,hk,Nat.add_sub_cancel]
  have Za:A.pick=some (x,{A with wt:=A.wt.take k}):=by
   unfold Ar.pick
   rw[if_pos aP,jf,hdl]
  obtain⟨b,lb,c,yf,QS,qb,qk,_,_,_⟩:∃b lb c,Value.slice wa A.wt.length wc= .slice (some ⟨b,0,none⟩) A.wt.length c∧B.fo=some b∧H.own b=some lb∧lb[k]? =some (i64 x)∧k<A.wt.length∧A.wt.length≤lb.length∧True:=by
   obtain⟨h1,b,lb,rfl,q2,q3⟩:=Sl.zA s1 hx
   have sF:=s1
   revert sF
   cases QS:B.fo with
   |none=>intro sF;have:=sF.2.2;injection this with h1;cases h1
   |some b'=>
    intro sF
    obtain⟨_,Vw,c',hs,ho,hc,nS,_⟩:=sF
    injection hs with eK Kj GQ
    injection eK with eK
    injection eK with eK
    subst eK GQ
    rw[q2]at ho
    injection ho with ho
    subst ho
    exact⟨b,lb,wc,rfl,rfl,q2,q3,h1,by omega,trivial⟩
  injection yf with eK Kj GQ
  subst eK GQ
  obtain⟨_,Vw,c',hs,ho,hc,nS,ht⟩:(A.wt.map i64).length=A.wt.length*1∧∃l c',Value.slice (some ⟨b,0,none⟩) A.wt.length wc= .slice (some ⟨b,0,none⟩) A.wt.length c'∧H.own b=some l∧A.wt.length≤c'∧c'*1≤l.length∧l.take (A.wt.length*1)=A.wt.map i64:=by
   have:=s1
   rw[QS]at this
   exact this
  injection hs with _ _ hs
  subst hs
  rw[qb]at ho
  injection ho with ho
  subst ho
  rw[aok]at nS ht
  refine v1 (ae o1) ?_
  rw[wrap64 (n:=(A.wt.length:Int) - 1) (by omega) (by omega)]
  refine⟨⟨by omega,by omega⟩,?_⟩
  rw[show((A.wt.length:Int) - 1).toNat=k by omega]
  refine v5 (ae qb) aoh aok qk (ae o1) ?_
  rw[wrap64 (n:=(A.wt.length:Int) - 1) (by omega) (by omega)]
  refine⟨⟨by omega,by omega,by omega,by omega⟩,?_⟩
  refine v1 o1 ?_
  rw[if_neg (show¬ (wc:Int)=((0:Nat):Int) by omega)]
  have e1:∀l,ag (fun z=>z=B.a) H (H.wr B.a l):=fun l=>(ag.refl (fun z=>z=B.a) _).wr (fun _=>rfl) _
  have MF:(A.wt.take k).length=k:=by rw[aoW];omega
  refine .inr ⟨x,_,Za,rfl,⟨⟨_,ai o1,?_⟩,(e1 _).own m.sl (Ne.symm m.ne.1),m.ne,m.len,⟨fun y hy=>m.ok.wl y (List.mem_of_mem_take hy),m.ok.wd.sublist (List.take_sublist _ _),m.ok.fr,m.ok.ct,m.ok.nx⟩,m.gs,m.mo⟩,e1 _⟩
  have hb:b≠B.a:=fun e=>m.ne.2.1 (by rw[QS,e])
  refine⟨by simp,?_⟩
  rw[QS]
  refine⟨lb,wc,?_,(e1 _).own qb hb,by rw[MF];omega,by rw[aok];exact nS,?_⟩
  ·rw[MF,show((A.wt.length:Int) - 1).toNat - ((0:Nat):Int).toNat=k by omega]
   simp[Addr.add]
  ·rw[aok,List.map_take,←ht,aqj]
   congr 1
   rw[MF]
   omega
 ·refine v1 (ae o1) ?_
  have he:A.wt=[]:=aoQ.1 (by omega)
  refine am.dec (fun h1=>?_) (fun h1=>?_)
  ·refine vs ?_
   refine .inl ⟨?_,rfl,rfl⟩
   unfold Ar.pick
   rw[if_neg (by simp[he]),if_pos (by omega)]
  ·refine v2 (ae o1) o1 ?_
   rw[wrap64 (n:=(A.nx:Int)+1) (by omega) (by omega)]
   have e1:∀l,ag (fun z=>z=B.a) H (H.wr B.a l):=fun l=>(ag.refl (fun z=>z=B.a) _).wr (fun _=>rfl) _
   have q1:∀l,(H.wr B.a l).own B.a=some l:=fun l=>ai o1
   simp(disch:=(first|omega| (simp only[Zs]<;>omega)|fail)) only[go_sem, ↓reduceIte,Zv,ae (q1 _)]
   rw[wrap64 (n:=(A.nx:Int)+1 - 1) (by omega) (by omega)]
   have Za:A.pick=some ((A.nx:Int),{A with nx:=A.nx+1}):=by
    unfold Ar.pick
    rw[if_neg (by simp[he]),if_neg (by omega)]
   rw[show(A.nx:Int)+1 - 1=(A.nx:Int) by omega]
   refine .inr ⟨_,_,Za,rfl,⟨⟨.slice wa A.wt.length wc,q1 _,s1.ext (e1 _) (fun b hb e=>m.ne.2.1 (by rw[hb,e]))⟩,(e1 _).own m.sl (Ne.symm m.ne.1),m.ne,m.len,⟨fun y hy=>by have:=m.ok.wl y hy;exact⟨this.1,by simp only;omega,this.2.2⟩,m.ok.wd,fun y hy=>m.ok.fr y (by simp only at hy;omega),m.ok.ct,by simp only;omega⟩,m.gs,m.mo⟩,e1 _⟩
theorem Ar.OQ(A:Ar):A.aS≤A.g.length:=aqh
theorem En(m:JD H B A)(WO:∀x:Int,0≤x→x<A.g.length→A.bC x<4294967295):af Tryz.prog yG [ptr B.a] H fun v H'=>aw (
  (A.pick=none∧v= .tuple [gA 0 0,i64 32].toArray∧JD H' B A∧ah H H')∨(∃x A',A.pick=some (x,A')∧v= .tuple [gA x (A.bC x+1),i64 0].toArray∧JD H' B (A'.out x)∧ag B.S H H')):=by
 have eT:=m.slt
 refine bq yZ ?_
 refine vs ?_
 have f0:ah H (H.new 114 [Value.int .i64 0,Value.int .u32 0]):=(ag.refl _ _).new _ _
 have b0:(H.new 114 [Value.int .i64 0,Value.int .u32 0]).own H.size=some [Value.int .i64 0,Value.int .u32 0]:=az _ _ _
 have m0:=m.ext f0 (fun _ _ h=>h)
 generalize H.new 114 [Value.int .i64 0,Value.int .u32 0]=H0 at*
 have Eo:∀z,B.S z→z≠H.size:=fun z hz=>by have:=eT z hz;omega
 refine(Em m0).mono ?_
 rintro _ H1 (⟨hp,rfl,e⟩| ⟨x,A',hp,rfl,m1,e1⟩)
 ·obtain rfl:=e.symm
  refine v1 b0 ?_
  have e1:ag (fun z=>z=H.size) H0 (H0.wr H.size [Value.int .i64 0,Value.int .u32 0]):=(ag.refl (fun z=>z=H.size) _).wr (fun _=>rfl) _
  have b1:(H0.wr H.size [Value.int .i64 0,Value.int .u32 0]).own H.size=some [Value.int .i64 0,Value.int .u32 0]:=ai b0
  refine v1 (ae b1) ?_
  exact .inl ⟨hp,rfl,m0.ext e1 (fun z hz e=>Eo z hz e),f0.then e1 (fun z hz=>by omega)⟩
 obtain⟨uM,mE,Vv,Ds,hg,hct,Vx⟩:=Ar.vG hp m.ok
 have b1:=e1.own b0 (fun e=>Eo B.a (.inl rfl) e.symm)
 obtain⟨CO,o1,s1⟩:=m1.own
 have dk:=m1.len
 have aaQ:0≤x∧x<A'.g.length:=by rw[hg];exact uM
 obtain⟨b,hb,Dz⟩:=Ar.get (A:=A') aaQ
 have PU:A'.bC x=A.bC x:=by unfold Ar.bC;rw[hg]
 have hgb:=WO x uM.1 uM.2
 obtain⟨c1,c2⟩:=uL hb
 obtain⟨w1,_⟩:=CP hb
 have hl:=qt A'.g
 refine v1 (ae o1) ?_
 refine⟨⟨by omega,by omega⟩,?_⟩
 refine v5 (ae m1.sl) m1.sl aoh Nat.add_zero c1 ?_
 refine⟨by omega,?_⟩
 rw[T7 (n:=(A'.bC x:Int)+1) (by omega) (by omega),show(A'.bC x:Int)+1=((A'.bC x+1:Nat):Int) by omega]
 refine v1 w1 ?_
 have e2:ag (fun z=>z=B.sb) H1 (H1.wr B.sb (dq (A'.g.set x.toNat (A'.bC x+1,b)))):=(ag.refl (fun z=>z=B.sb) _).wr (fun _=>rfl) _
 have q2:(H1.wr B.sb (dq (A'.g.set x.toNat (A'.bC x+1,b)))).own B.sb=some (dq (A'.g.set x.toNat (A'.bC x+1,b))):=ai m1.sl
 generalize H1.wr B.sb (dq (A'.g.set x.toNat (A'.bC x+1,b)))=H2 at*
 have oQ:(A'.g.set x.toNat (A'.bC x+1,b))[x.toNat]? =some (A'.bC x+1,b):=aoo (by omega)
 obtain⟨d1,_⟩:=uL oQ
 have w2:=(CP oQ).2 true
 rw[List.set_set]at w2
 have oI:=qt (A'.g.set x.toNat (A'.bC x+1,b))
 rw[aoj]at oI
 refine v3 q2 aoh Nat.add_zero ?_
 refine⟨by omega,?_⟩
 refine v1 w2 ?_
 have e3:ag (fun z=>z=B.sb) H2 (H2.wr B.sb (dq (A'.g.set x.toNat (A'.bC x+1,true)))):=(ag.refl (fun z=>z=B.sb) _).wr (fun _=>rfl) _
 have q3:(H2.wr B.sb (dq (A'.g.set x.toNat (A'.bC x+1,true)))).own B.sb=some (dq (A'.g.set x.toNat (A'.bC x+1,true))):=ai q2
 generalize H2.wr B.sb (dq (A'.g.set x.toNat (A'.bC x+1,true)))=H3 at*
 have Ej:=e2.trans e3
 have o3:=Ej.own o1 m.ne.1
 have afA:=m1.ok.ct
 have aaR:=Ar.OQ A'
 refine v2 (ae o3) o3 ?_
 rw[wrap64 (n:=A'.ct+1) (by omega) (by omega)]
 have e4:∀l,ag (fun z=>z=B.a) H3 (H3.wr B.a l):=fun l=>(ag.refl (fun z=>z=B.a) _).wr (fun _=>rfl) _
 have q4:∀l,(H3.wr B.a l).own B.a=some l:=fun l=>ai o3
 have QT:=(e4 [.slice (some ⟨B.sb,0,none⟩) A'.g.length A'.g.length,CO,i64 A'.nx,i64 (A'.ct+1),.int .u32 (A'.mo:Int)]).own q3 (Ne.symm m.ne.1)
 have b3:=(e4 [.slice (some ⟨B.sb,0,none⟩) A'.g.length A'.g.length,CO,i64 A'.nx,i64 (A'.ct+1),.int .u32 (A'.mo:Int)]).own (Ej.own b1 (fun e=>Eo B.sb (.inr (.inl rfl)) e.symm)) (fun e=>Eo B.a (.inl rfl) e.symm)
 have TZ:(A'.g.set x.toNat (A'.bC x+1,true))[x.toNat]? =some (A'.bC x+1,true):=aoo (by omega)
 obtain⟨d3,_⟩:=uL TZ
 have s4:=(s1.ext Ej (fun b hb e=>m.ne.2.2 (by rw[hb,e]))).ext (e4 [.slice (some ⟨B.sb,0,none⟩) A'.g.length A'.g.length,CO,i64 A'.nx,i64 (A'.ct+1),.int .u32 (A'.mo:Int)]) (fun b hb e=>m.ne.2.1 (by rw[hb,e]))
 have m4:JD (H3.wr B.a [.slice (some ⟨B.sb,0,none⟩) A'.g.length A'.g.length,CO,i64 A'.nx,i64 (A'.ct+1),.int .u32 (A'.mo:Int)]) B (A'.out x):=by
  refine⟨⟨CO,?_,s4⟩,QT,m.ne,?_,m1.ok.out hg aaQ (fun h=>mE (by unfold Ar.live at h ⊢;rw[hg]at h;exact h)) Vv Ds,fun y hy=>?_,m1.mo⟩
  ·show _=some [.slice (some ⟨B.sb,0,none⟩) (A'.g.set x.toNat (A'.bC x+1,true)).length (A'.g.set x.toNat (A'.bC x+1,true)).length,CO,i64 A'.nx,i64 (A'.ct+1),.int .u32 (A'.mo:Int)]
   rw[aoj]
   exact q4 _
  ·show(A'.g.set x.toNat (A'.bC x+1,true)).length≤_
   rw[aoj];exact dk
  ·rcases apg hy with h|h
   ·exact m1.gs y h
   ·rw[h];simp only;omega
 have e4':=e4 [.slice (some ⟨B.sb,0,none⟩) A'.g.length A'.g.length,CO,i64 A'.nx,i64 (A'.ct+1),.int .u32 (A'.mo:Int)]
 generalize H3.wr B.a [.slice (some ⟨B.sb,0,none⟩) A'.g.length A'.g.length,CO,i64 A'.nx,i64 (A'.ct+1),.int .u32 (A'.mo:Int)]=H4 at*
 have vH:ag B.S H H4:=((f0.mono fun _ _ h=>h.elim).trans (e1.mono fun z _ h=>.inl h)).trans ((Ej.mono fun z _ h=>.inr (.inl h)).trans (e4'.mono fun z _ h=>.inl h))
 refine v5 (ae QT) aoh Nat.add_zero d3 b3 ?_
 have e5:ag (fun z=>z=H.size) H4 (H4.wr H.size [Value.int .i64 x,Value.int .u32 ((A'.bC x+1:Nat):Int)]):=(ag.refl (fun z=>z=H.size) _).wr (fun _=>rfl) _
 have b5:(H4.wr H.size [Value.int .i64 x,Value.int .u32 ((A'.bC x+1:Nat):Int)]).own H.size=some [Value.int .i64 x,Value.int .u32 ((A'.bC x+1:Nat):Int)]:=ai b3
 refine v1 (ae b5) ?_
 refine .inr ⟨x,A',hp,by rw[PU];rfl,m4.ext e5 (fun z hz e=>Eo z hz e),⟨apa vH.size e5.size,fun z hz hn=>?_⟩⟩
 rw[e5.aM z (aoG hz vH.size) (fun e=>by omega),vH.aM z hz hn]
theorem Ep(m:JD H B A){x:Int}(hx:A.live x):af Tryz.prog yD [ptr B.a,gA x (A.bC x)] H fun v H'=>aw (v=i64 0∧∃RO,JD H' ⟨B.a,B.sb,RO⟩ (A.back x)∧ag B.S H H'∧∀z,RO=some z→B.fo=some z∨H.size≤z):=by
 have eT:=m.slt
 have uM:=Ar.Bi hx
 obtain⟨b,hb,Dz⟩:=Ar.get (A:=A) uM
 obtain rfl:=Dz.1 hx
 have hl:=qt A.g
 have w1:=(CP hb).2 false
 have dk:=m.len
 have afA:=m.ok.ct
 have aaR:=Ar.OQ A
 refine GO yW ⟨rfl,?_⟩
 refine v1 ni.eq_1 ?_
 have f0:ah H (H.new 114 [i64 x,.int .u32 (A.bC x:Int)]):=(ag.refl _ _).new _ _
 have b0:(H.new 114 [i64 x,.int .u32 (A.bC x:Int)]).own H.size=some [i64 x,.int .u32 (A.bC x:Int)]:=az _ _ _
 have m0:=m.ext f0 (fun _ _ h=>h)
 generalize H.new 114 [i64 x,.int .u32 (A.bC x:Int)]=H0 at*
 have Eo:∀z,B.S z→z≠H.size:=fun z hz=>by have:=eT z hz;omega
 refine(sT m0 x (A.bC x)).mono ?_
 rintro _ H1 ⟨rfl,f1⟩
 rw[aov ⟨hx,rfl⟩]
 have m1:=m0.ext f1 (fun _ _ h=>h)
 have b1:=f1.own b0 (fun h=>h)
 obtain⟨CO,o1,s1⟩:=m1.own
 refine v2 (ae o1) (ae b1) ?_
 refine⟨⟨by omega,by omega⟩,?_⟩
 refine v2 m1.sl aoh ?_
 refine⟨by omega,?_⟩
 refine v1 w1 ?_
 have e2:ag (fun z=>z=B.sb) H1 (H1.wr B.sb (dq (A.g.set x.toNat (A.bC x,false)))):=(ag.refl (fun z=>z=B.sb) _).wr (fun _=>rfl) _
 have q2:(H1.wr B.sb (dq (A.g.set x.toNat (A.bC x,false)))).own B.sb=some (dq (A.g.set x.toNat (A.bC x,false))):=ai m1.sl
 generalize H1.wr B.sb (dq (A.g.set x.toNat (A.bC x,false)))=H2 at*
 have o2:=e2.own o1 m.ne.1
 have b2:=e2.own b1 (fun e=>Eo B.sb (.inr (.inl rfl)) e.symm)
 refine v2 (ae o2) o2 ?_
 rw[wrap64 (n:=A.ct - 1) (by omega) (by omega)]
 have e3:∀l,ag (fun z=>z=B.a) H2 (H2.wr B.a l):=fun l=>(ag.refl (fun z=>z=B.a) _).wr (fun _=>rfl) _
 have q3:∀l,(H2.wr B.a l).own B.a=some l:=fun l=>ai o2
 have b3:=fun l=>(e3 l).own b2 (fun e=>Eo B.a (.inl rfl) e.symm)
 have q2':=fun l=>(e3 l).own q2 (Ne.symm m.ne.1)
 have s3:=fun l=>(s1.ext e2 (fun b hb e=>m.ne.2.2 (by rw[hb,e]))).ext (e3 l) (fun b hb e=>m.ne.2.1 (by rw[hb,e]))
 obtain⟨l3,RM⟩:∃l3,l3=[.slice (some ⟨B.sb,0,none⟩) A.g.length A.g.length,CO,i64 A.nx,i64 (A.ct - 1),.int .u32 (A.mo:Int)]:=⟨_,rfl⟩
 have QT:=q3 l3
 have WP:=b3 l3
 have T9:=q2' l3
 have s3':=s3 l3
 have Zb:=e3 l3
 rw[RM]at QT WP T9 s3' Zb
 generalize H2.wr B.a [.slice (some ⟨B.sb,0,none⟩) A.g.length A.g.length,CO,i64 A.nx,i64 (A.ct - 1),.int .u32 (A.mo:Int)]=H3 at*
 have Ej:ag B.S H H3:=((f0.mono fun _ _ h=>h.elim).trans (f1.mono fun _ _ h=>h.elim)).trans ((e2.mono fun z _ h=>.inr (.inl h)).trans (Zb.mono fun z _ h=>.inl h))
 have tV:=m.ok.back hx
 have hgs:∀y∈(A.back x).g,y.1≤4294967295:=fun y hy=>by
  rcases apg hy with h|h
  ·exact m.gs y h
  ·rw[h]
   exact m.gs (A.bC x,true) (aom hb)
 have aZ:(A.back x).g.length=A.g.length:=aoj ..
 refine v2 (ae WP) (ae QT) ?_
 refine am.dec (fun hm=>?_) (fun hm=>?_)
 rotate_left
 ·refine vs ?_
  have Wd:(A.back x).wt=A.wt:=by show(if A.bC x<A.mo then _ else _)=_;rw[if_neg (by omega)]
  refine⟨rfl,B.fo,⟨⟨CO,by rw[aZ];exact QT,by rw[Wd];exact s3'⟩,T9,m.ne,by rw[aZ];exact dk,tV,hgs,m.mo⟩,Ej,fun z hz=>.inl hz⟩
 have Wd:(A.back x).wt=A.wt++[x]:=by show(if A.bC x<A.mo then _ else _)=_;rw[if_pos (by omega)]
 have hwl:=m.wtl.1
 obtain⟨ta,tc,rfl⟩:=Sl.shape s3'
 refine vs ?_
 refine jB.intro (fun H'=>True) trivial ?_
 refine vs ?_
 have Wn:H.size<H3.size:=aB WP
 have has:B.a<H3.size:=aB QT
 have fin:∀ (K:Value→Hp→Prop),(∀w' H4 cP,Sl H4 1 w' (A.wt++[x]).length ((A.wt++[x]).map i64) cP→(cP=B.fo∨∃z,cP=some z∧H3.size≤z∧z<H4.size)→ag (fun z=>B.fo=some z) H3 H4→K w' H4)→
   gk 3 1 8 [i64 0] (.slice ta A.wt.length tc) (.slice (some ⟨H3.size,0,none⟩) 1 1) (H3.new 3 [i64 x]) K:=fun K hK=>by
  exact RL s3' x (by omega) fun w' H' cP h1 h2 h3=>hK w' H' cP h2 h1 h3
 refine EM.intro ?C ?D
 case' C=>
  refine v2 (ae QT) (ae WP) ?_
 case' D=>
  refine v2 (ae QT) (ae WP) ?_
  refine EM.intro ?E ?F
  case' E=>
   refine v2 (ae QT) (ae WP) ?_
  case' F=>
   refine v2 (ae QT) (ae WP) ?_
 all_goals
  refine fin _ fun w' H4 cP s4 fZ e4=>?_
  obtain⟨wa,wc,rfl⟩:=Sl.shape s4
  have o4:=e4.own QT (fun e=>m.ne.2.1 e)
  have q4:=e4.own T9 (fun e=>m.ne.2.2 e)
  refine v1 o4 ?_
  have e5:∀l,ag (fun z=>z=B.a) H4 (H4.wr B.a l):=fun l=>(ag.refl (fun z=>z=B.a) _).wr (fun _=>rfl) _
  have akk:=Ej.size
  refine⟨rfl,cP,⟨⟨_,by rw[aZ];exact ai o4,?_⟩,(e5 _).own q4 (Ne.symm m.ne.1),⟨m.ne.1,fun h=>?_,fun h=>?_⟩,by rw[aZ];exact dk,tV,hgs,m.mo⟩,?_,fun z hz=>?_⟩
  ·rw[Wd]
   refine s4.ext (e5 _) (fun b hb e=>?_)
   rcases fZ with h| ⟨y,h,h2,_⟩
   ·exact m.ne.2.1 (by rw[←h,hb,e])
   ·rw[h]at hb;injection hb with hb;omega
  ·rcases fZ with h2| ⟨y,h2,h3,_⟩
   ·exact m.ne.2.1 (by rw[←h2];exact h)
   ·rw[h2]at h;injection h with h;simp only at h;omega
  ·rcases fZ with h2| ⟨y,h2,h3,_⟩
   ·exact m.ne.2.2 (by rw[←h2];exact h)
   ·have:=aB T9
    rw[h2]at h;injection h with h;simp only at h;omega
  ·exact(Ej.trans (e4.mono fun z _ h=>.inr (.inr h))).trans ((e5 _).mono fun z _ h=>.inl h)
  ·rcases fZ with h2| ⟨y,h2,h3,_⟩
   ·exact .inl (by rw[←h2];exact hz)
   ·rw[h2]at hz;injection hz with hz;exact .inr (by omega)
end
end Go.Proofs.YtjlnnljohemifaaGreat

namespace Go.Proofs.YtjlnnljohemifaaGreat
open Go Go.Vc
def Nw.lM(w:Nw)(g x:Int):Prop:=w.has g∧(0≤x∧x<w.cs.length)∧¬cY w.cs x
def Nw.db(w:Nw)(x k s:Int):Prop:=cY w.cs x∧∀y,w.cs[x.toNat]? =some y→¬fA y.2.1 y.2.2 k s
def cB(I:Hp→(Nat→Prop)→Nw→Prop)(S:Nat→Prop)(H H':Hp)(w':Nw):Prop:=
 ∃S':Nat→Prop,I H' S' w'∧ag S H H'∧∀z,S' z→S z∨H.size≤z
theorem cB.same{I:Hp→(Nat→Prop)→Nw→Prop}{S:Nat→Prop}{H H':Hp}{w':Nw}(h:I H' S w')(e:ag S H H'):cB I S H H' w':=⟨S,h,e,fun z hz=>.inl hz⟩
structure yg(ov:Value)(I:Hp→(Nat→Prop)→Nw→Prop):Prop where
 slt:∀ {H S w},I H S w→∀z,S z→z<H.size
 ext:∀ {H H' S w} {T:Nat→Prop},I H S w→ag T H H'→(∀z,S z→¬T z)→I H' S w
 cells:∀ {H S w},I H S w→∃c C,CQ H c C w
 has:∀ {H S w} (g:Int),I H S w→gO Tryz.prog ov "Has" [i64 g] H fun v H'=>v= .bool (decide (w.has g))∧H=H'
 make:∀ {H S w},I H S w→gO Tryz.prog ov "Make" [] H fun v H'=>
  (w.hs.length=65537∧v=i64 0∧cB I S H H' w)∨(w.hs.length≠65537∧v=i64 w.hs.length∧cB I S H H' w.make)
 insert:∀ {H S w} (g x k s:Int),I H S w→gO Tryz.prog ov "Insert" [i64 g,i64 x,tK k s] H fun v H'=>
  (¬w.lM g x∧v= .bool false∧cB I S H H' w)∨(w.lM g x∧v= .bool true∧cB I S H H' (w.put x (g,k,s)))
 min:∀ {H S w} (g:Int),I H S w→gO Tryz.prog ov "Min" [i64 g] H fun v H'=>
  (w.len g=0∧v= .tuple [i64 0,.bool false].toArray∧cB I S H H' w)∨(∃x,w.first g x∧v= .tuple [i64 x,.bool true].toArray∧cB I S H H' w)
 extract:∀ {H S w} (g:Int),I H S w→gO Tryz.prog ov "Extract" [i64 g] H fun v H'=>
  (w.len g=0∧v= .tuple [i64 0,.bool false].toArray∧cB I S H H' w)∨(∃x,w.first g x∧v= .tuple [i64 x,.bool true].toArray∧cB I S H H' (w.put x (0,0,0)))
 ld:∀ {H S w} (x k s:Int),I H S w→gO Tryz.prog ov "Decrease" [i64 x,tK k s] H fun v H'=>
  (¬w.db x k s∧v= .bool false∧cB I S H H' w)∨(w.db x k s∧v= .bool true∧∃y,w.cs[x.toNat]? =some y∧cB I S H H' (w.put x (y.1,k,s)))
 entry:∀ {H S w} (x:Int),I H S w→gO Tryz.prog ov "Entry" [i64 x] H fun v H'=>I H' S w∧ah H H'∧
  ((¬cY w.cs x∧v= .tuple [tK 0 0,.bool false].toArray)∨(cY w.cs x∧∃y,w.cs[x.toNat]? =some y∧v= .tuple [tK y.2.1 y.2.2,.bool true].toArray))
structure RP(w:Nw)(A:Ar):Prop where
 len:w.cs.length=A.g.length
 live:∀x,cY w.cs x↔A.live x
def DA(H:Hp)(s:Nat)(S:Nat→Prop)(w:Nw)(A:Ar)(q:Int):Prop:=∃ (t:TypeId) (vv:Value) (I:Hp→(Nat→Prop)→Nw→Prop) (Sn:Nat→Prop) (B:T5) (k d:Int),
 yg (.iface t vv) I∧I H Sn w∧JD H B A∧H.own s=some [i64 k,i64 d,ptr B.a,.iface t vv,u64 q]∧(∀z,Sn z→¬B.S z∧z≠s)∧¬B.S s∧(∀z,S z↔Sn z∨B.S z∨z=s)∧RP w A
theorem DA.slt{H:Hp}{s:Nat}{S:Nat→Prop}{w:Nw}{A:Ar}{q:Int}(h:DA H s S w A q):∀z,S z→z<H.size:=by
 obtain⟨t,vv,I,Sn,B,k,d,n,hi,m,ho,d1,d2,hS,hl⟩:=h
 intro z hz
 rcases(hS z).1 hz with h|h|h
 ·exact n.slt hi z h
 ·exact m.slt z h
 ·rw[h];exact aB ho
theorem DA.ext{H H':Hp}{s:Nat}{S T:Nat→Prop}{w:Nw}{A:Ar}{q:Int}(h:DA H s S w A q)(e:ag T H H')(hd:∀z,S z→¬T z):DA H' s S w A q:=by
 obtain⟨t,vv,I,Sn,B,k,d,n,hi,m,ho,d1,d2,hS,hl⟩:=h
 exact⟨t,vv,I,Sn,B,k,d,n,n.ext hi e (fun z hz=>hd z ((hS z).2 (.inl hz))),m.ext e (fun z hz=>hd z ((hS z).2 (.inr (.inl hz)))),e.own ho (hd _ ((hS _).2 (.inr (.inr rfl)))),d1,d2,hS,hl⟩
theorem DA.lnk{H:Hp}{s:Nat}{S:Nat→Prop}{w:Nw}{A:Ar}{q:Int}(h:DA H s S w A q):RP w A∧xu A∧A.g.length≤65536:=by
 obtain⟨t,vv,I,Sn,B,k,d,n,hi,m,ho,d1,d2,hS,hl⟩:=h
 exact⟨hl,m.ok,m.len⟩
def Ko(s:Nat)(S:Nat→Prop)(H H':Hp)(w':Nw)(A':Ar)(q':Int):Prop:=∃S',DA H' s S' w' A' q'∧ag S H H'∧∀z,S' z→S z∨H.size≤z
section
variable {H H' : Hp} {s : Nat} {S : Nat → Prop} {w : Nw} {A : Ar} {q : Int}
theorem Np(H:Hp)(T:TypeId)(z l:List Value):ah H ((H.new T z).wr H.size l)∧((H.new T z).wr H.size l).own H.size=some l∧((H.new T z).wr H.size l).size=H.size+1:=by
 have f0:ah H (H.new T z):=(ag.refl _ _).new _ _
 have e1:ag (fun x=>x=H.size) (H.new T z) ((H.new T z).wr H.size l):=(ag.refl (fun x=>x=H.size) _).wr (fun _=>rfl) _
 exact⟨f0.then e1 (fun z hz=>by omega),ai (az _ _ _),by rw[eo,ap]⟩
theorem Lw{H:Hp}{b:Nat}{l0:List Value}(h:H.own b=some l0)(l:List Value):ag (fun x=>x=b) H (H.wr b l)∧(H.wr b l).own b=some l:=⟨(ag.refl (fun x=>x=b) _).wr (fun _=>rfl) _,ai h⟩
theorem Er(h:DA H s S w A q)(hl:w.hs.length<65537):af Tryz.prog yz [ptr s] H fun v H'=>aw (v= .tuple [i64 w.hs.length,i64 0].toArray∧Ko s S H H' w.make A q):=by
 obtain⟨t,vv,I,Sn,B,k,d,n,hi,m,ho,d1,d2,hS,HQ⟩:=h
 obtain⟨c,C,cq⟩:=n.cells hi
 have gh:=cq.pos
 refine bq yS ?_
 refine v1 (ae ho) ?_
 refine(n.make hi).mono ?_
 rintro _ H1 (⟨h1,_⟩| ⟨_,rfl,Es,hi',e1,eK⟩)
 ·omega
 refine vs ?_
 refine am.dec (fun hh=>by omega) (fun _=>?_)
 refine vs ?_
 have z6:=m.slt
 have hos:=aB ho
 refine⟨rfl,fun z=>Es z∨B.S z∨z=s,⟨t,vv,I,Es,B,k,d,n,hi',m.ext e1 (fun z hz h=>(d1 z h).1 hz),e1.own ho (fun h=>(d1 _ h).2 rfl),fun z hz=>?_,d2,fun z=>Iff.rfl,⟨HQ.len,HQ.live⟩⟩,e1.mono fun z _ h=>(hS z).2 (.inl h),fun z hz=>?_⟩
 ·rcases eK z hz with h|h
  ·exact d1 z h
  ·exact⟨fun h2=>by have:=z6 z h2;omega,by omega⟩
 ·rcases hz with h|h
  ·rcases eK z h with h|h
   ·exact .inl ((hS z).2 (.inl h))
   ·exact .inr h
  ·exact .inl ((hS z).2 (.inr h))
theorem RP.put{w:Nw}{A A':Ar}(l:RP w A){x:Int}(hx:0≤x∧x<A.g.length){y:Ce}{v:Nat}(hg:A'.g=A.g.set x.toNat (v,decide (0<y.1))):RP (w.put x y) A':=by
 have GS:0≤x∧x<w.cs.length:=by rw[l.len];exact hx
 refine⟨by rw[hg,aoj];simp[Nw.put,l.len],fun z=>?_⟩
 by_cases h0:0≤z
 ·rw[Ar.nI hx hg h0,←bz,dU GS]
  by_cases e:z=x
  ·rw[if_pos e,if_pos e];simp
  ·rw[if_neg e,if_neg e,bz]
   exact l.live z
 ·exact⟨fun h=>absurd h.1 h0,fun h=>absurd h.1 h0⟩
theorem FP(h:DA H s S w A q){g key:Int}(hg:w.has g)(WO:∀x:Int,0≤x→x<A.g.length→A.bC x<4294967295)(hq:0≤q∧q<18446744073709551615):af Tryz.prog Ai [ptr s,i64 g,i64 key] H fun v H'=>aw (
  (A.pick=none∧v= .tuple [gA 0 0,i64 32].toArray∧Ko s S H H' w A q)∨(∃x A',A.pick=some (x,A')∧v= .tuple [gA x (A.bC x+1),i64 0].toArray∧Ko s S H H' (w.put x (g,key,q+1)) (A'.out x) (q+1))):=by
 have eT:=h.slt
 obtain⟨t,vv,I,Sn,B,k,d,n,hi,m,ho,d1,d2,hS,HQ⟩:=h
 refine bq AD ?_
 refine vs ?_
 have f0:ah H (H.new 114 [Value.int .i64 0,Value.int .u32 0]):=(ag.refl _ _).new _ _
 have b0:(H.new 114 [Value.int .i64 0,Value.int .u32 0]).own H.size=some [Value.int .i64 0,Value.int .u32 0]:=az _ _ _
 have z0:(H.new 114 [Value.int .i64 0,Value.int .u32 0]).size=H.size+1:=ap _ _ _
 generalize H.new 114 [Value.int .i64 0,Value.int .u32 0]=H0 at*
 have m0:=m.ext f0 (fun _ _ h=>h)
 have FE:=n.ext hi f0 (fun _ _ h=>h)
 have o0:=f0.own ho (fun h=>h)
 have aP:∀z,S z→z≠H.size:=fun z hz=>by have:=eT z hz;omega
 refine v1 (ae o0) ?_
 refine(n.has g FE).mono ?_
 rintro _ _ ⟨rfl,rfl⟩
 rw[aov hg]
 refine v1 (ae o0) ?_
 refine(En m0 WO).mono ?_
 rintro _ H1 (⟨hp,rfl,m1,f1⟩| ⟨x,A',hp,rfl,m1,e1⟩)
 ·have b1:=f1.own b0 (fun h=>h)
  refine vs ?_
  obtain⟨f2,b2,z2⟩:=Np H1 114 [Value.int .i64 0,Value.int .u32 0] [i64 0,Value.int .u32 ((0:Nat):Int)]
  generalize (H1.new 114 [Value.int .i64 0,Value.int .u32 0]).wr H1.size [i64 0,Value.int .u32 ((0:Nat):Int)]=H2 at*
  have b3:=f2.own b1 (fun h=>h)
  refine am.dec (fun hh=>by omega) (fun _=>?_)
  refine v1 b3 ?_
  obtain⟨e4,b4⟩:=Lw b3 [Value.int .i64 0,Value.int .u32 0]
  refine v1 (ae b4) ?_
  have hse:ag S H (H2.wr H.size [Value.int .i64 0,Value.int .u32 0]):=by
   have h1:=(f0.trans f1).trans f2
   exact(h1.then e4 (fun z hz=>by omega)).mono fun _ _ h=>h.elim
  refine .inl ⟨hp,rfl,S,⟨t,vv,I,Sn,B,k,d,n,?_,?_,?_,d1,d2,hS,HQ⟩,hse,fun z hz=>.inl hz⟩
  ·exact n.ext (n.ext (n.ext FE f1 (fun _ _ h=>h)) f2 (fun _ _ h=>h)) e4 (fun z hz=>aP z ((hS z).2 (.inl hz)))
  ·exact(m1.ext f2 (fun _ _ h=>h)).ext e4 (fun z hz=>aP z ((hS z).2 (.inr (.inl hz))))
  ·exact e4.own (f2.own (f1.own o0 (fun h=>h)) (fun h=>h)) (aP s ((hS s).2 (.inr (.inr rfl))))
 ·obtain⟨uM,mE,_,_,hAg,_,_⟩:=Ar.vG hp m.ok
  have b1:=e1.own b0 (fun h=>aP _ ((hS _).2 (.inr (.inl h))) rfl)
  have o1:=e1.own o0 d2
  have PR:=n.ext FE e1 (fun z hz=>(d1 z hz).1)
  refine vs ?_
  obtain⟨f2,b2,z2⟩:=Np H1 114 [Value.int .i64 0,Value.int .u32 0] [i64 x,Value.int .u32 ((A.bC x+1:Nat):Int)]
  generalize (H1.new 114 [Value.int .i64 0,Value.int .u32 0]).wr H1.size [i64 x,Value.int .u32 ((A.bC x+1:Nat):Int)]=H2 at*
  have b3:=f2.own b1 (fun h=>h)
  have o2:=f2.own o1 (fun h=>h)
  have mw:=n.ext PR f2 (fun _ _ h=>h)
  have m2:=m1.ext f2 (fun _ _ h=>h)
  refine am.dec (fun _=>?_) (fun hh=>absurd trivial hh)
  refine v2 (ae o2) o2 ?_
  rw[rY (n:=q+1) (by omega) (by omega)]
  obtain⟨e4,o3⟩:=Lw o2 [i64 k,i64 d,ptr B.a,.iface t vv,u64 (q+1)]
  have PA:=aB o2
  have Lx:=e1.size
  have akm:=aB ho
  have b5:=e4.own b3 (fun e=>aP s ((hS s).2 (.inr (.inr rfl))) e.symm)
  have b6:=e4.own b2 (fun e=>by omega)
  have qK:=n.ext mw e4 (fun z hz=>(d1 z hz).2)
  have m3:=m2.ext e4 (fun z hz e=>d2 (by rw[←e];exact hz))
  generalize H2.wr s [i64 k,i64 d,ptr B.a,.iface t vv,u64 (q+1)]=H3 at*
  refine v2 (ae o3) (ae b6) ?_
  refine(n.insert g x key (q+1) qK).mono ?_
  obtain⟨c,C,cq⟩:=n.cells qK
  have Ds:¬cY w.cs x:=fun h=>mE ((HQ.live x).1 h)
  rintro _ H4 (⟨bO,_⟩| ⟨_,rfl,Es,hi4,e5,PT⟩)
  ·exact absurd ⟨hg,by rw[HQ.len];exact uM,Ds⟩ bO
  have WQ:=e4.size
  have JE:∀z,H.size≤z→¬Sn z:=fun z hz h=>by have:=eT z ((hS z).2 (.inl h));omega
  have b7:=e5.own b6 (JE _ (by omega))
  have b8:=e5.own b5 (JE _ (aou _))
  refine v2 (ae b7) b8 ?_
  obtain⟨e9,b9⟩:=Lw b8 [i64 x,Value.int .u32 ((A.bC x+1:Nat):Int)]
  refine v1 (ae b9) ?_
  have o4:=e5.own o3 (fun h=>(d1 _ h).2 rfl)
  have m4:=m3.ext e5 (fun z hz h=>(d1 z h).1 hz)
  have z6:=m.slt
  have hz5:=e5.size
  have Eo:∀z,B.S z→z<H.size:=z6
  have Ly:∀z,Es z→Sn z∨H.size<z:=fun z hz=>(PT z hz).imp_right fun h=>by omega
  refine .inr ⟨x,A',hp,rfl,fun z=>Es z∨B.S z∨z=s,⟨t,vv,I,Es,B,k,d,n,n.ext hi4 e9 (fun z hz e=>?_),m4.ext e9 (fun z hz e=>?_),e9.own o4 (aP s ((hS s).2 (.inr (.inr rfl)))),fun z hz=>?_,d2,fun z=>Iff.rfl,?_⟩,?_,fun z hz=>?_⟩
  ·rcases Ly z hz with h|h
   ·exact JE z (by omega) h
   ·omega
  ·have:=Eo z hz;omega
  ·rcases Ly z hz with h|h
   ·exact d1 z h
   ·exact⟨fun h2=>by have:=Eo z h2;omega,by omega⟩
  ·refine HQ.put uM (v:=A.bC x+1) ?_
   have PU:A'.bC x=A.bC x:=by unfold Ar.bC;rw[hAg]
   show A'.g.set x.toNat (A'.bC x+1,true)=_
   rw[PU,hAg]
   exact aoD (fun b=>A.g.set x.toNat (A.bC x+1,b)) (aov hg.1).symm
  ·have h1:ag S H H3:=((f0.mono fun _ _ h=>h.elim).trans (e1.mono fun z _ h=>(hS z).2 (.inr (.inl h)))).trans ((f2.mono fun _ _ h=>h.elim).trans (e4.mono fun z _ h=>(hS z).2 (.inr (.inr h))))
   have h2:=h1.trans (e5.mono fun z _ h=>(hS z).2 (.inl h))
   exact⟨apa h2.size e9.size,fun z hz hn=>by rw[e9.aM z (aoG hz h2.size) (by omega),h2.aM z hz hn]⟩
  ·rcases hz with h|h
   ·rcases Ly z h with h|h
    ·exact .inl ((hS z).2 (.inl h))
    ·exact .inr (by omega)
   ·exact .inl ((hS z).2 (.inr h))
end
end Go.Proofs.YtjlnnljohemifaaGreat

namespace Go.Proofs.YtjlnnljohemifaaGreat
open Go Go.Vc
section
variable {H H' H1 H2 : Hp} {s : Nat} {S S1 : Nat → Prop} {w w2 : Nw} {A A2 : Ar} {q q2 : Int}
theorem Ko.ext{T:Nat→Prop}(h:Ko s S H H1 w A q)(e:ag T H1 H2)(hT:∀z,T z→H.size≤z)(hS:∀z,T z→∀S1,DA H1 s S1 w A q→¬S1 z):Ko s S H H2 w A q:=by
 obtain⟨S2,h3,e2,h4⟩:=h
 refine⟨S2,h3.ext e (fun z hz ht=>hS z ht S2 h3 hz),⟨apa e2.size e.size,fun z hz hn=>?_⟩,h4⟩
 rw[e.aM z (aoG hz e2.size) (fun h=>by have:=hT z h;omega),e2.aM z hz hn]
theorem zB(l:RP w A){g x:Int}(h:w.first g x):A.live x:=by
 obtain⟨h1,h2,_⟩:=bM.1 h
 exact(l.live x).1 (bz.1 (by omega))
theorem HR(h:DA H s S w A q){g:Int}(hg:w.has g):af Tryz.prog Ca [ptr s,i64 g] H fun v H'=>aw (
  (w.len g=0∧v= .tuple [gA 0 0,i64 172].toArray∧Ko s S H H' w A q)∨(∃x,w.first g x∧v= .tuple [gA x (A.bC x),i64 0].toArray∧Ko s S H H' w A q)):=by
 have eT:=h.slt
 obtain⟨t,vv,I,Sn,B,k,d,n,hi,m,ho,d1,d2,hS,HQ⟩:=h
 refine bq Cm ?_
 refine vs ?_
 have f0:ah H (H.new 114 [Value.int .i64 0,Value.int .u32 0]):=(ag.refl _ _).new _ _
 have b0:(H.new 114 [Value.int .i64 0,Value.int .u32 0]).own H.size=some [Value.int .i64 0,Value.int .u32 0]:=az _ _ _
 have z0:(H.new 114 [Value.int .i64 0,Value.int .u32 0]).size=H.size+1:=ap _ _ _
 generalize H.new 114 [Value.int .i64 0,Value.int .u32 0]=H0 at*
 have m0:=m.ext f0 (fun _ _ h=>h)
 have FE:=n.ext hi f0 (fun _ _ h=>h)
 have o0:=f0.own ho (fun h=>h)
 have JE:∀z,H.size≤z→¬Sn z:=fun z hz h=>by have:=eT z ((hS z).2 (.inl h));omega
 have Eo:∀z,B.S z→z<H.size:=m.slt
 have hos:=aB ho
 refine v1 (ae o0) ?_
 refine(n.has g FE).mono ?_
 rintro _ _ ⟨rfl,rfl⟩
 rw[aov hg]
 refine v1 (ae o0) ?_
 refine(n.min g FE).mono ?_
 have fin:∀ (H1 H2:Hp) (Es:Nat→Prop),I H1 Es w→ag Sn H0 H1→(∀z,Es z→Sn z∨H0.size≤z)→ag (fun z=>z=H.size∨H1.size≤z) H1 H2→Ko s S H H2 w A q:=fun H1 H2 Es PR e1 eK e2=>by
  have Lx:=e1.size
  have dL:=e2.size
  refine⟨fun z=>Es z∨B.S z∨z=s,⟨t,vv,I,Es,B,k,d,n,n.ext PR e2 (fun z hz e=>?_),(m0.ext e1 (fun z hz h=>(d1 z h).1 hz)).ext e2 (fun z hz e=>?_),e2.own (e1.own o0 (fun h=>(d1 _ h).2 rfl)) (fun e=>by omega),fun z hz=>?_,d2,fun z=>Iff.rfl,HQ⟩,?_,fun z hz=>?_⟩
  ·rcases e with e|e
   ·rcases eK z hz with h|h
    ·exact JE z (by omega) h
    ·omega
   ·have:=n.slt PR z hz;omega
  ·have:=Eo z hz;omega
  ·rcases eK z hz with h|h
   ·exact d1 z h
   ·exact⟨fun h2=>by have:=Eo z h2;omega,by omega⟩
  ·have h1:ag S H H1:=(f0.mono fun _ _ h=>h.elim).trans (e1.mono fun z _ h=>(hS z).2 (.inl h))
   exact⟨apa h1.size e2.size,fun z hz hn=>by rw[e2.aM z (aoG hz h1.size) (by omega),h1.aM z hz hn]⟩
  ·rcases hz with h|h
   ·rcases eK z h with h|h
    ·exact .inl ((hS z).2 (.inl h))
    ·exact .inr (by omega)
   ·exact .inl ((hS z).2 (.inr h))
 rintro _ H1 (⟨h0,rfl,Es,PR,e1,eK⟩| ⟨x,hx,rfl,Es,PR,e1,eK⟩)
 ·have b1:=e1.own b0 (JE _ (aou _))
  refine v1 b1 ?_
  obtain⟨e4,b4⟩:=Lw b1 [Value.int .i64 0,Value.int .u32 0]
  refine v1 (ae b4) ?_
  exact .inl ⟨h0,rfl,fin H1 _ Es PR e1 eK (e4.mono fun z _ h=>.inl h)⟩
 ·have b1:=e1.own b0 (JE _ (aou _))
  have o1:=e1.own o0 (fun h=>(d1 _ h).2 rfl)
  have m1:=m0.ext e1 (fun z hz h=>(d1 z h).1 hz)
  refine v1 (ae o1) ?_
  refine(HP m1 (zB HQ hx)).mono ?_
  rintro _ H2 ⟨rfl,f2⟩
  have b2:=f2.own b1 (fun h=>h)
  refine vs ?_
  obtain⟨f3,b3,z3⟩:=Np H2 114 [Value.int .i64 0,Value.int .u32 0] [i64 x,Value.int .u32 ((A.bC x:Nat):Int)]
  generalize (H2.new 114 [Value.int .i64 0,Value.int .u32 0]).wr H2.size [i64 x,Value.int .u32 ((A.bC x:Nat):Int)]=H3 at*
  have b5:=f3.own b2 (fun h=>h)
  refine v2 (ae b3) b5 ?_
  obtain⟨e4,b4⟩:=Lw b5 [i64 x,Value.int .u32 ((A.bC x:Nat):Int)]
  refine v1 (ae b4) ?_
  exact .inr ⟨x,hx,rfl,fin H1 _ Es PR e1 eK (((f2.trans f3).mono fun _ _ h=>h.elim).trans (e4.mono fun z _ h=>.inl h))⟩
theorem yi(h:DA H s S w A q){x:Int}(hx:A.live x):af Tryz.prog Cb [ptr s,gA x (A.bC x)] H fun v H'=>aw (∃y,w.cs[x.toNat]? =some y∧v= .tuple [tK y.2.1 y.2.2,i64 0].toArray∧Ko s S H H' w A q):=by
 have eT:=h.slt
 obtain⟨t,vv,I,Sn,B,k,d,n,hi,m,ho,d1,d2,hS,HQ⟩:=h
 refine GO Cn ⟨rfl,?_⟩
 refine v1 pW.eq_1 ?_
 have f0:ah H ((H.new 114 [i64 x,.int .u32 (A.bC x:Int)]).new 224 [Value.int .i64 0,Value.int .u64 0]):=((ag.refl _ _).new _ _).new _ _
 have b0:((H.new 114 [i64 x,.int .u32 (A.bC x:Int)]).new 224 [Value.int .i64 0,Value.int .u64 0]).own H.size=some [i64 x,.int .u32 (A.bC x:Int)]:=by
  rw[cu (by simp only[ap];omega),az]
 have c0:((H.new 114 [i64 x,.int .u32 (A.bC x:Int)]).new 224 [Value.int .i64 0,Value.int .u64 0]).own (H.size+1)=some [Value.int .i64 0,Value.int .u64 0]:=aT (by simp only[ap])
 have z0:((H.new 114 [i64 x,.int .u32 (A.bC x:Int)]).new 224 [Value.int .i64 0,Value.int .u64 0]).size=H.size+1+1:=by simp only[ap]
 generalize (H.new 114 [i64 x,.int .u32 (A.bC x:Int)]).new 224 [Value.int .i64 0,Value.int .u64 0]=H0 at*
 have m0:=m.ext f0 (fun _ _ h=>h)
 have FE:=n.ext hi f0 (fun _ _ h=>h)
 have o0:=f0.own ho (fun h=>h)
 have JE:∀z,H.size≤z→¬Sn z:=fun z hz h=>by have:=eT z ((hS z).2 (.inl h));omega
 have Eo:∀z,B.S z→z<H.size:=m.slt
 have hos:=aB ho
 refine v2 (ae o0) (ae b0) ?_
 refine(sT m0 x (A.bC x)).mono ?_
 rintro _ H1 ⟨rfl,f1⟩
 rw[aov ⟨hx,rfl⟩]
 have m1:=m0.ext f1 (fun _ _ h=>h)
 have PR:=n.ext FE f1 (fun _ _ h=>h)
 have o1:=f1.own o0 (fun h=>h)
 have b1:=f1.own b0 (fun h=>h)
 have c1:=f1.own c0 (fun h=>h)
 have z1:=f1.size
 have bJ:cY w.cs x:=(HQ.live x).2 hx
 have fin:∀H2,I H2 Sn w→ag (fun z=>z=H.size+1∨H1.size≤z) H1 H2→Ko s S H H2 w A q:=fun H2 mw e2=>by
  have h1:ag S H H1:=(f0.trans f1).mono fun _ _ h=>h.elim
  refine⟨S,⟨t,vv,I,Sn,B,k,d,n,mw,m1.ext e2 (fun z hz e=>by have:=Eo z hz;omega),e2.own o1 (fun e=>by omega),d1,d2,hS,HQ⟩,⟨apa h1.size e2.size,fun z hz hn=>by rw[e2.aM z (aoG hz h1.size) (by omega),h1.aM z hz hn]⟩,fun z hz=>.inl hz⟩
 refine vs ?_
 refine jB.intro (fun H'=>H'.own s=some [i64 k,i64 d,ptr B.a,.iface t vv,u64 q]∧H'.own H.size=some [i64 x,.int .u32 (A.bC x:Int)]) ⟨o1,b1⟩ ?_
 refine vs ?_
 refine fJ.intro (.iface t vv) (fun H' hI=>by refine v1 (ae hI.1) ?_;trivial) ?_
 refine vs ?_
 refine fJ.intro (i64 x) (fun H' hI=>by refine v1 (ae hI.2) ?_;trivial) ?_
 refine vs ?_
 refine EM.intro ?_ ?_
 ·refine vs ?_
  refine(n.entry x PR).mono ?_
  rintro _ H2 ⟨mw,f2,⟨bO,_⟩| ⟨_,y,hy,rfl⟩⟩
  ·exact absurd bJ bO
  have o2:=f2.own o1 (fun h=>h)
  have b2:=f2.own b1 (fun h=>h)
  have c2:=f2.own c1 (fun h=>h)
  have z2:=f2.size
  refine And.intro ⟨o2,b2⟩ ?_
  refine vs ?_
  refine And.intro ⟨o2,b2⟩ ?_
  refine vs ?_
  refine And.intro ⟨o2,b2⟩ ?_
  refine vs ?_
  obtain⟨f3,b3,z3⟩:=Np H2 224 [Value.int .i64 0,Value.int .u64 0] [i64 y.2.1,u64 y.2.2]
  generalize (H2.new 224 [Value.int .i64 0,Value.int .u64 0]).wr H2.size [i64 y.2.1,u64 y.2.2]=H3 at*
  have c3:=f3.own c2 (fun h=>h)
  refine v2 (ae b3) c3 ?_
  obtain⟨e4,b4⟩:=Lw c3 [i64 y.2.1,u64 y.2.2]
  refine v1 (ae b4) ?_
  exact⟨y,hy,rfl,fin _ (n.ext (n.ext mw f3 (fun _ _ h=>h)) e4 (fun z hz e=>JE z (by omega) hz)) (((f2.trans f3).mono fun _ _ h=>h.elim).trans (e4.mono fun z _ h=>.inl h))⟩
 ·refine vs ?_
  refine And.intro ⟨o1,b1⟩ ?_
  have f4:ah H1 (H1.new 224 [Value.int .i64 0,Value.int .u64 0]):=(ag.refl _ _).new _ _
  have b4:(H1.new 224 [Value.int .i64 0,Value.int .u64 0]).own H1.size=some [Value.int .i64 0,Value.int .u64 0]:=az _ _ _
  have z4:(H1.new 224 [Value.int .i64 0,Value.int .u64 0]).size=H1.size+1:=ap _ _ _
  generalize H1.new 224 [Value.int .i64 0,Value.int .u64 0]=H4 at*
  refine vs ?_
  refine(n.entry x (n.ext PR f4 (fun _ _ h=>h))).mono ?_
  rintro _ H2 ⟨mw,f2,⟨bO,_⟩| ⟨_,y,hy,rfl⟩⟩
  ·exact absurd bJ bO
  have o2:=f2.own (f4.own o1 (fun h=>h)) (fun h=>h)
  have b2:=f2.own (f4.own b1 (fun h=>h)) (fun h=>h)
  have c2:=f2.own (f4.own c1 (fun h=>h)) (fun h=>h)
  have b5:=f2.own b4 (fun h=>h)
  have z2:=f2.size
  refine And.intro ⟨o2,b2⟩ ?_
  refine v1 b5 ?_
  obtain⟨e6,b6⟩:=Lw b5 [i64 y.2.1,u64 y.2.2]
  have o6:=e6.own o2 (fun e=>by omega)
  have b26:=e6.own b2 (fun e=>by omega)
  have c6:=e6.own c2 (fun e=>by omega)
  have hn6:=n.ext mw e6 (fun z hz e=>JE z (by omega) hz)
  have e26:ag (fun z=>z=H.size+1∨H1.size≤z) H1 (H2.wr H1.size [i64 y.2.1,u64 y.2.2]):=((f4.trans f2).mono fun _ _ h=>h.elim).trans (e6.mono fun z _ h=>.inr (by omega))
  generalize H2.wr H1.size [i64 y.2.1,u64 y.2.2]=H6 at*
  first
   |refine And.intro ⟨o6,b26⟩ ?_
   |refine And.intro ⟨o2,b2⟩ ?_
  refine v2 (ae b6) c6 ?_
  obtain⟨e7,b7⟩:=Lw c6 [i64 y.2.1,u64 y.2.2]
  refine v1 (ae b7) ?_
  exact⟨y,hy,rfl,fin _ (n.ext hn6 e7 (fun z hz e=>JE z (by omega) hz)) (e26.trans (e7.mono fun z _ h=>.inl h))⟩
end
end Go.Proofs.YtjlnnljohemifaaGreat

namespace Go.Proofs.YtjlnnljohemifaaGreat
open Go Go.Vc
section
variable {H H' H1 H2 : Hp} {s : Nat} {S S1 : Nat → Prop} {w w2 : Nw} {A A2 : Ar} {q q2 : Int}
theorem DA.tmp{b:Nat}{l:List Value}(h:DA H1 s S1 w A q)(hb:¬S1 b):DA (H1.wr b l) s S1 w A q:=h.ext ((ag.refl (fun x=>x=b) _).wr (fun _=>rfl) _:ag (fun x=>x=b) H1 _) (fun z hz e=>hb (by rw[←e];exact hz))
theorem EO(h:DA H2 s S1 w A q)(e:ag S H H2)(hs:∀z,S1 z→S z∨H.size≤z):Ko s S H H2 w A q:=⟨S1,h,e,hs⟩
theorem EP{b:Nat}{l:List Value}(e:ag S H H1)(hb:H.size≤b):ag S H (H1.wr b l):=by
 have e2:ag (fun x=>x=b) H1 (H1.wr b l):=(ag.refl (fun x=>x=b) _).wr (fun _=>rfl) _
 exact⟨apa e.size e2.size,fun z hz hn=>by rw[e2.aM z (aoG hz e.size) (by omega),e.aM z hz hn]⟩
theorem Lz(h:DA H s S w A q){g:Int}(hg:w.has g):af Tryz.prog Fc [ptr s,i64 g] H fun v H'=>aw (
  (w.len g=0∧v= .tuple [gA 0 0,i64 0,i64 172].toArray∧Ko s S H H' w A q)∨(∃x y,w.first g x∧w.cs[x.toNat]? =some y∧v= .tuple [gA x (A.bC x),i64 y.2.1,i64 0].toArray∧Ko s S H H' w A q)):=by
 have eT:=h.slt
 have HQ:=h.lnk.1
 refine bq Fj ?_
 refine vs ?_
 have f0:ah H (H.new 114 [Value.int .i64 0,Value.int .u32 0]):=(ag.refl _ _).new _ _
 have b0:(H.new 114 [Value.int .i64 0,Value.int .u32 0]).own H.size=some [Value.int .i64 0,Value.int .u32 0]:=az _ _ _
 have z0:(H.new 114 [Value.int .i64 0,Value.int .u32 0]).size=H.size+1:=ap _ _ _
 generalize H.new 114 [Value.int .i64 0,Value.int .u32 0]=H0 at*
 have h0:=h.ext f0 (fun _ _ h=>h)
 have QU:∀z,H.size≤z→¬S z:=fun z hz h=>by have:=eT z h;omega
 refine(HR h0 hg).mono ?_
 rintro _ H1 (⟨Vm,rfl,S1,h1,e1,eK⟩| ⟨x,hx,rfl,S1,h1,e1,eK⟩)
 ·have b1:=e1.own b0 (QU _ (aou _))
  have Lx:=e1.size
  refine vs ?_
  obtain⟨f2,b2,z2⟩:=Np H1 114 [Value.int .i64 0,Value.int .u32 0] [i64 0,Value.int .u32 ((0:Nat):Int)]
  generalize (H1.new 114 [Value.int .i64 0,Value.int .u32 0]).wr H1.size [i64 0,Value.int .u32 ((0:Nat):Int)]=H2 at*
  have b3:=f2.own b1 (fun h=>h)
  refine am.dec (fun hh=>by omega) (fun _=>?_)
  refine v1 b3 ?_
  obtain⟨e4,b4⟩:=Lw b3 [Value.int .i64 0,Value.int .u32 0]
  have e2:ag S H H2:=((f0.mono fun _ _ h=>h.elim).trans e1).trans (f2.mono fun _ _ h=>h.elim)
  have vV:¬S1 H.size:=fun h=>by rcases eK _ h with h|h;exact QU _ (aou _) h;omega
  have h3:=((h1.ext f2 (fun _ _ h=>h)).tmp vV (l:=[Value.int .i64 0,Value.int .u32 0]))
  have e5:=EP (l:=[Value.int .i64 0,Value.int .u32 0]) e2 (aou H.size)
  refine v1 (ae b4) ?_
  exact .inl ⟨Vm,rfl,EO h3 e5 (fun z hz=>(eK z hz).imp_right fun h=>by omega)⟩
 ·have b1:=e1.own b0 (QU _ (aou _))
  have Lx:=e1.size
  have jS:=zB HQ hx
  refine vs ?_
  obtain⟨f2,b2,z2⟩:=Np H1 114 [Value.int .i64 0,Value.int .u32 0] [i64 x,Value.int .u32 ((A.bC x:Nat):Int)]
  generalize (H1.new 114 [Value.int .i64 0,Value.int .u32 0]).wr H1.size [i64 x,Value.int .u32 ((A.bC x:Nat):Int)]=H2 at*
  have b3:=f2.own b1 (fun h=>h)
  have h2:=h1.ext f2 (fun _ _ h=>h)
  refine am.dec (fun _=>?_) (fun hh=>absurd trivial hh)
  refine v1 (ae b2) ?_
  have WR:=h1.slt
  refine(yi h2 jS).mono ?_
  rintro _ H3 ⟨y,hy,rfl,S3,h3,e3,GQ⟩
  have vV:¬S1 H.size:=fun h=>by rcases eK _ h with h|h;exact QU _ (aou _) h;omega
  have Dq:¬S1 H1.size:=fun h=>by have:=WR _ h;omega
  have b4:=e3.own b3 vV
  have c4:=e3.own b2 Dq
  have MG:=e3.size
  refine vs ?_
  obtain⟨f5,b5,z5⟩:=Np H3 224 [Value.int .i64 0,Value.int .u64 0] [i64 y.2.1,u64 y.2.2]
  generalize (H3.new 224 [Value.int .i64 0,Value.int .u64 0]).wr H3.size [i64 y.2.1,u64 y.2.2]=H5 at*
  have b6:=f5.own b4 (fun h=>h)
  have c6:=f5.own c4 (fun h=>h)
  have h5:=h3.ext f5 (fun _ _ h=>h)
  have hn3:∀b,¬S1 b→b<H2.size→¬S3 b:=fun b hb oQ h=>by rcases GQ _ h with h|h;exact hb h;omega
  have e5:ag S H H5:=by
   have e2:ag S H H2:=((f0.mono fun _ _ h=>h.elim).trans e1).trans (f2.mono fun _ _ h=>h.elim)
   have Zb:ag S H H3:=⟨apa e2.size e3.size,fun z hz hn=>by rw[e3.aM z (aoG hz e2.size) (fun h=>by rcases eK z h with h|h;exact hn h;omega),e2.aM z hz hn]⟩
   exact Zb.trans (f5.mono fun _ _ h=>h.elim)
  refine jB.intro (fun H'=>H'.own H3.size=some [i64 y.2.1,u64 y.2.2]) b5 ?_
  refine vs ?_
  refine fJ.intro (i64 y.2.1) (fun H' hI=>by refine v1 (ae hI) ?_;trivial) ?_
  refine v1 (ae c6) ?_
  refine And.intro b5 ?_
  refine v1 b6 ?_
  obtain⟨e7,b7⟩:=Lw b6 [i64 x,Value.int .u32 ((A.bC x:Nat):Int)]
  have b57:=e7.own b5 (fun e=>by omega)
  first
   |refine And.intro b57 ?_
   |refine And.intro b5 ?_
  have h7:=h5.tmp (hn3 _ vV (by omega)) (l:=[i64 x,Value.int .u32 ((A.bC x:Nat):Int)])
  have e8:=EP (l:=[i64 x,Value.int .u32 ((A.bC x:Nat):Int)]) e5 (aou H.size)
  refine v1 (ae b7) ?_
  refine .inr ⟨x,y,hx,hy,rfl,EO h7 e8 (fun z hz=>?_)⟩
  rcases GQ z hz with h|h
  ·exact(eK z h).imp_right fun h=>by omega
  ·exact .inr (by omega)
theorem PV{g x x':Int}(h:w.first g x)(h':w.first g x'):x'=x:=by
 obtain⟨_,h2,h3⟩:=bM.1 h
 obtain⟨_,h5,h6⟩:=bM.1 h'
 apply aoH
 intro aP
 have:=(ar w).asym (h3 x' h5 aP)
 rw[h6 x h2 (Ne.symm aP)]at this
 cases this
theorem zC(h:DA H s S w A q){g:Int}(hg:w.has g):af Tryz.prog jD [ptr s,i64 g] H fun v H'=>aw (
  (w.len g=0∧v= .tuple [gA 0 0,i64 0,i64 172].toArray∧Ko s S H H' w A q)∨(∃x y,w.first g x∧w.cs[x.toNat]? =some y∧v= .tuple [gA x (A.bC x),i64 y.2.1,i64 0].toArray∧Ko s S H H' (w.put x (0,0,0)) (A.back x) q)):=by
 have eT:=h.slt
 have HQ:=h.lnk.1
 refine bq tq ?_
 refine vs ?_
 have f0:ah H (H.new 114 [Value.int .i64 0,Value.int .u32 0]):=(ag.refl _ _).new _ _
 have b0:(H.new 114 [Value.int .i64 0,Value.int .u32 0]).own H.size=some [Value.int .i64 0,Value.int .u32 0]:=az _ _ _
 have z0:(H.new 114 [Value.int .i64 0,Value.int .u32 0]).size=H.size+1:=ap _ _ _
 generalize H.new 114 [Value.int .i64 0,Value.int .u32 0]=H0 at*
 have h0:=h.ext f0 (fun _ _ h=>h)
 have QU:∀z,H.size≤z→¬S z:=fun z hz h=>by have:=eT z h;omega
 refine(Lz h0 hg).mono ?_
 rintro _ H1 (⟨Vm,rfl,S1,h1,e1,eK⟩| ⟨x,y,hx,hy,rfl,S1,h1,e1,eK⟩)
 ·have b1:=e1.own b0 (QU _ (aou _))
  have Lx:=e1.size
  refine vs ?_
  obtain⟨f2,b2,z2⟩:=Np H1 114 [Value.int .i64 0,Value.int .u32 0] [i64 0,Value.int .u32 ((0:Nat):Int)]
  generalize (H1.new 114 [Value.int .i64 0,Value.int .u32 0]).wr H1.size [i64 0,Value.int .u32 ((0:Nat):Int)]=H2 at*
  have b3:=f2.own b1 (fun h=>h)
  refine am.dec (fun hh=>by omega) (fun _=>?_)
  refine v1 b3 ?_
  obtain⟨e4,b4⟩:=Lw b3 [Value.int .i64 0,Value.int .u32 0]
  have e2:ag S H H2:=((f0.mono fun _ _ h=>h.elim).trans e1).trans (f2.mono fun _ _ h=>h.elim)
  have vV:¬S1 H.size:=fun h=>by rcases eK _ h with h|h;exact QU _ (aou _) h;omega
  have h3:=((h1.ext f2 (fun _ _ h=>h)).tmp vV (l:=[Value.int .i64 0,Value.int .u32 0]))
  have e5:=EP (l:=[Value.int .i64 0,Value.int .u32 0]) e2 (aou H.size)
  refine v1 (ae b4) ?_
  exact .inl ⟨Vm,rfl,EO h3 e5 (fun z hz=>(eK z hz).imp_right fun h=>by omega)⟩
 ·have b1:=e1.own b0 (QU _ (aou _))
  have Lx:=e1.size
  have jS:=zB HQ hx
  refine vs ?_
  obtain⟨f2,b2,z2⟩:=Np H1 114 [Value.int .i64 0,Value.int .u32 0] [i64 x,Value.int .u32 ((A.bC x:Nat):Int)]
  generalize (H1.new 114 [Value.int .i64 0,Value.int .u32 0]).wr H1.size [i64 x,Value.int .u32 ((A.bC x:Nat):Int)]=H2 at*
  have b3:=f2.own b1 (fun h=>h)
  have WR:=h1.slt
  have h2:=h1.ext f2 (fun _ _ h=>h)
  have vV:¬S1 H.size:=fun h=>by rcases eK _ h with h|h;exact QU _ (aou _) h;omega
  have Dq:¬S1 H1.size:=fun h=>by have:=WR _ h;omega
  obtain⟨t,vv,I,Sn,B,k,d,n,hi,m,ho,d1,d2,hS,_⟩:=h2
  refine am.dec (fun _=>?_) (fun hh=>absurd trivial hh)
  refine v1 (ae ho) ?_
  refine(n.extract g hi).mono ?_
  have Eo:∀z,B.S z→z<H2.size:=m.slt
  have hos:=aB ho
  rintro _ H3 (⟨Vm,_⟩| ⟨x',xt,rfl,Es,qK,e3,GQ⟩)
  ·exfalso
   obtain⟨RQ,OR,_⟩:=bM.1 hx
   exact(uF RQ).1 Vm x OR
  obtain rfl:=PV hx xt
  have MH:=e3.own ho (fun h=>(d1 _ h).2 rfl)
  have b4:=e3.own b3 (fun h=>vV ((hS _).2 (.inl h)))
  have c4:=e3.own b2 (fun h=>Dq ((hS _).2 (.inl h)))
  have m3:=m.ext e3 (fun z hz h=>(d1 z h).1 hz)
  have MG:=e3.size
  refine v2 (ae MH) (ae c4) ?_
  refine(Ep m3 jS).mono ?_
  rintro _ H4 ⟨rfl,RO,m4,e4,QS⟩
  have nB1:¬B.S H.size:=fun h=>vV ((hS _).2 (.inr (.inl h)))
  have nB2:¬B.S H1.size:=fun h=>Dq ((hS _).2 (.inr (.inl h)))
  have b5:=e4.own b4 nB1
  have c5:=e4.own c4 nB2
  have ho4:=e4.own MH d2
  have WQ:=e4.size
  refine v2 (ae c5) b5 ?_
  obtain⟨e6,b6⟩:=Lw b5 [i64 x',Value.int .u32 ((A.bC x':Nat):Int)]
  refine v1 (ae b6) ?_
  have Ly:∀z,Es z→Sn z∨H2.size≤z:=GQ
  have hB':∀z,(T5.mk B.a B.sb RO).S z→B.S z∨H3.size≤z:=fun z hz=>by
   rcases hz with h|h|h
   ·exact .inl (.inl h)
   ·exact .inl (.inr (.inl h))
   ·exact(QS z h).imp_left fun h=>.inr (.inr h)
  have hiT:I H4 Es (w.put x' (0,0,0)):=n.ext qK e4 (fun z hz hb=>by
   rcases Ly z hz with h|h
   ·exact(d1 z h).1 hb
   ·have:=Eo z hb;omega)
  have aaV:=fun z hz=>n.slt qK z hz
  have nn1:∀b,¬S1 b→b<H2.size→¬Es b∧¬ (T5.mk B.a B.sb RO).S b:=fun b hb oQ=>by
   refine⟨fun h=>?_,fun h=>?_⟩
   ·rcases Ly b h with h|h
    ·exact hb ((hS b).2 (.inl h))
    ·omega
   ·rcases hB' b h with h|h
    ·exact hb ((hS b).2 (.inr (.inl h)))
    ·omega
  have afD:H.size≠s:=fun e=>vV ((hS _).2 (.inr (.inr e)))
  have uM:=Ar.Bi jS
  have uD:DA H4 s (fun z=>Es z∨(T5.mk B.a B.sb RO).S z∨z=s) (w.put x' (0,0,0)) (A.back x') q:=by
   refine⟨t,vv,I,Es,⟨B.a,B.sb,RO⟩,k,d,n,hiT,m4,ho4,fun z hz=>?_,fun h=>?_,fun z=>Iff.rfl,HQ.put uM rfl⟩
   ·rcases Ly z hz with h|h
    ·refine⟨fun hb=>?_,(d1 z h).2⟩
     rcases hB' z hb with h2|h2
     ·exact(d1 z h).1 h2
     ·have:=aaV z hz;omega
    ·refine⟨fun hb=>?_,fun e=>by omega⟩
     rcases hB' z hb with h2|h2
     ·have:=Eo z h2;omega
     ·have:=aaV z hz;omega
   ·rcases hB' _ h with h2|h2
    ·exact d2 h2
    ·omega
  have afE:=uD.tmp (b:=H.size) (l:=[i64 x',Value.int .u32 ((A.bC x':Nat):Int)]) (fun h=>by
   obtain⟨q1,q2⟩:=nn1 _ vV (by omega)
   rcases h with h|h|h
   ·exact q1 h
   ·exact q2 h
   ·exact afD h)
  have e04:ag S H H4:=by
   have e2:ag S H H2:=((f0.mono fun _ _ h=>h.elim).trans e1).trans (f2.mono fun _ _ h=>h.elim)
   exact⟨by have:=e2.size;omega,fun z hz hn=>by
    have dL:=e2.size
    have WS:¬S1 z:=fun h=>by rcases eK z h with h|h;exact hn h;omega
    rw[e4.aM z (by omega) (fun h=>WS ((hS z).2 (.inr (.inl h)))),e3.aM z (by omega) (fun h=>WS ((hS z).2 (.inl h))),e2.aM z hz hn]⟩
  have dL:=f2.size
  refine .inr ⟨x',y,hx,hy,rfl,EO afE (EP e04 (aou _)) (fun z hz=>?_)⟩
  have Kk:S1 z∨H2.size≤z:=by
   rcases hz with h|h|h
   ·rcases Ly z h with h|h
    ·exact .inl ((hS z).2 (.inl h))
    ·exact .inr h
   ·rcases hB' z h with h|h
    ·exact .inl ((hS z).2 (.inr (.inl h)))
    ·exact .inr (by omega)
   ·exact .inl ((hS z).2 (.inr (.inr h)))
  rcases Kk with h|h
  ·exact(eK z h).imp_right fun h=>by omega
  ·exact .inr (by omega)
end
end Go.Proofs.YtjlnnljohemifaaGreat

namespace Go.Proofs.YtjlnnljohemifaaGreat
open Go Go.Vc
abbrev Nq(kd dd:Int):Value:=.agg [i64 kd,i64 dd].toArray
def gD(kd dd:Int):Prop:=(1≤kd∧kd≤8)∧((kd=2∧2≤dd∧dd≤16)∨(kd≠2∧dd=0))
instance(kd dd:Int):Decidable (gD kd dd):=by unfold gD;exact inferInstance
def RR(kd dd:Int):Int:=if kd<1∨8<kd then 21 else if gD kd dd then 0 else 22
theorem RS{kd dd:Int}(h:kd<1∨8<kd):RR kd dd=21:=by unfold RR;rw[if_pos h]
theorem LA{kd dd:Int}(h:gD kd dd):RR kd dd=0:=by
 have:=h.1
 unfold RR
 rw[if_neg (by omega),if_pos h]
theorem RT{kd dd:Int}(h1:¬ (kd<1∨8<kd))(h:¬gD kd dd):RR kd dd=22:=by unfold RR;rw[if_neg h1,if_neg h]
theorem LC{kd dd:Int}:RR kd dd=0↔gD kd dd:=by
 constructor
 ·intro h
  apply aoH
  intro hn
  by_cases h1:kd<1∨8<kd
  ·rw[RS h1]at h;cases h
  ·rw[RT h1 hn]at h;cases h
 ·exact LA
theorem nJ(kd dd:Int)(H:Hp):af Tryz.prog G6 [Nq kd dd] H fun v H'=>aw (v=i64 (RR kd dd)∧ah H H'):=by
 refine bq Ho ?_
 refine vs ?_
 have f0:ah H (H.new 23 [i64 kd,i64 dd]):=(ag.refl _ _).new _ _
 repeat' (refine am.dec (fun _=>?_) (fun _=>?_)<;>try(refine v1 aoY ?_))
 all_goals
  first
   | (exfalso;omega)
   | (refine⟨?_,f0⟩;exact(aoD i64 (RS (by omega))).symm)
   | (refine⟨?_,f0⟩;exact(aoD i64 (LA (by unfold gD;omega))).symm)
   | (refine⟨?_,f0⟩;exact(aoD i64 (RT (by omega) (by unfold gD;omega))).symm)
theorem FQ(kd dd:Int)(H:Hp):af Tryz.prog G1 [Nq kd dd] H fun v H'=>aw (v=i64 (RR kd dd)∧ah H H'):=by
 refine bq Hj ?_
 refine vs ?_
 have f0:ah H (H.new 23 [i64 kd,i64 dd]):=(ag.refl _ _).new _ _
 repeat' (refine am.dec (fun _=>?_) (fun _=>?_)<;>try(refine v1 aoY ?_))
 all_goals
  first
   | (exfalso;omega)
   | (refine⟨?_,f0⟩;exact(aoD i64 (RS (by omega))).symm)
   | (refine⟨?_,f0⟩;exact(aoD i64 (LA (by unfold gD;omega))).symm)
   | (refine⟨?_,f0⟩;exact(aoD i64 (RT (by omega) (by unfold gD;omega))).symm)
theorem ou{kd dd:Int}(hf:gD kd dd)(hk:kd=1∨kd=2)(H:Hp):af Tryz.prog Hb [Nq kd dd] H fun v H'=>aw (v=i64 (if kd=1 then 2 else dd)∧ah H H'):=by
 refine bq Ht ?_
 refine vs ?_
 have f0:ah H (H.new 23 [i64 kd,i64 dd]):=(ag.refl _ _).new _ _
 have o0:(H.new 23 [i64 kd,i64 dd]).own H.size=some [i64 kd,i64 dd]:=az _ _ _
 generalize H.new 23 [i64 kd,i64 dd]=H0 at*
 refine(nJ kd dd H0).mono ?_
 rintro _ H1 ⟨rfl,f1⟩
 have o1:=f1.own o0 (fun h=>h)
 rw[LA hf]
 refine v2 (ae o1) aoY ?_
 rcases hk with rfl|rfl
 ·refine am.cQ (by decide) ?_
  refine v2 (ae o1) aoY ?_
  exact⟨rfl,f0.trans f1⟩
 ·refine am.aX (by decide) ?_
  refine v2 (ae o1) aoY ?_
  exact⟨rfl,f0.trans f1⟩
structure RU(w:Nw)(L:List Lk)(tops:List Int):Prop where
 bt:Ab (aG w) (aQ w) (bc L) (bv L) (bm tops)
 tl:tops.length=w.hs.length
def dA(n:Nat)(H:Hp)(S:Nat→Prop)(w:Nw):Prop:=∃ (B:LB) (C:Nat→Prop) (L:List Lk) (rs tops:List Int),B.n=n∧c7 H B C w L rs tops∧RU w L tops∧∀z,S z↔B.S C z
theorem dA.slt{n:Nat}{H:Hp}{S:Nat→Prop}{w:Nw}(h:dA n H S w):∀z,S z→z<H.size:=by
 obtain⟨B,C,L,rs,tops,rfl,m,l,hS⟩:=h
 exact fun z hz=>m.slt z ((hS z).1 hz)
theorem dA.ext{n:Nat}{H H':Hp}{S T:Nat→Prop}{w:Nw}(h:dA n H S w)(e:ag T H H')(hd:∀z,S z→¬T z):dA n H' S w:=by
 obtain⟨B,C,L,rs,tops,rfl,m,l,hS⟩:=h
 exact⟨B,C,L,rs,tops,rfl,m.ext e (fun z hz=>hd z ((hS z).2 hz)),l,hS⟩
theorem xx{n:Nat}{H:Hp}{S:Nat→Prop}{w:Nw}(h:dA n H S w)(g x k s:Int):af Tryz.prog jG [ptr n,i64 g,i64 x,tK k s] H fun v H'=>aw (
  (¬w.lM g x∧v= .bool false∧cB (dA n) S H H' w)∨(w.lM g x∧v= .bool true∧cB (dA n) S H H' (w.put x (g,k,s)))):=by
 obtain⟨B,C,L,rs,tops,rfl,m,l,hS⟩:=h
 refine GO tF ⟨rfl,?_⟩
 refine v1 jP.eq_1 ?_
 have f0:ah H (H.new 224 [i64 k,u64 s]):=(ag.refl _ _).new _ _
 have b0:(H.new 224 [i64 k,u64 s]).own H.size=some [i64 k,u64 s]:=az _ _ _
 have m0:=m.fresh f0
 generalize H.new 224 [i64 k,u64 s]=H0 at*
 obtain⟨tv,HS,_⟩:=m0.own
 refine v2 (ae HS) (ae b0) ?_
 refine(kY m0.cells g x k s).mono ?_
 rintro _ H1 (⟨bO,rfl,c1,e1⟩| ⟨qv,rfl,c1,e1⟩)
 ·refine vs ?_
  exact .inl ⟨bO,rfl,cB.same ⟨B,C,L,rs,tops,rfl,m0.aJ c1 e1 rfl,l,hS⟩ ((f0.mono fun _ _ h=>h.elim).trans (e1.mono fun z _ hz=>(hS z).2 (.inl hz)))⟩
 obtain⟨hh,hx,bJ⟩:=id qv
 have m1:=m0.aJ c1 e1 (by simp[Nw.put])
 have aZ:=m1.len
 have mE:(w.put x (g,k,s)).cs.length=w.cs.length:=by simp[Nw.put]
 obtain⟨CO,o1,_⟩:=m1.own
 refine v1 (ae o1) ?_
 refine⟨⟨by omega,by omega⟩,?_⟩
 refine v3 m1.CN aoh aok ?_
 refine⟨by rw[aoE];omega,?_⟩
 refine vs ?_
 obtain⟨m2,e2⟩:c7 (H1.wr B.rk ((rs.map i64).set x.toNat (Value.int .i64 1))) B C _ L (rs.set x.toNat 1) tops∧ag (fun z=>z=B.rk) H1 (H1.wr B.rk ((rs.map i64).set x.toNat (Value.int .i64 1))):=m1.Nl x.toNat 1
 generalize H1.wr B.rk ((rs.map i64).set x.toNat (Value.int .i64 1))=H2 at*
 obtain⟨cc,lt,o2,q2,vB,sB,OS⟩:=m2.fT
 refine jB.intro (fun H'=>H'.own B.n=some [ptr B.c,ptr B.t,.slice (some ⟨B.rk,0,none⟩) (rs.set x.toNat 1).length (rs.set x.toNat 1).length,.slice (some ⟨B.tp,0,none⟩) tops.length cc]) o2 ?_
 refine vs ?_
 refine fJ.intro (.slice (some ⟨B.tp,0,none⟩) tops.length cc) (fun H' hI=>by refine v1 (ae hI) ?_;trivial) ?_
 refine v1 (ae o2) ?_
 have hg:=hh.1
 have dk:g<tops.length:=by
  have:=(aoi.1 hh.2).1
  have:=l.tl
  omega
 have q3:=m2.eR q2 (dV (tops:=tops) (h:=g) (by omega) dk)
 have cN:=fun y=>dU hx (g,k,s) y
 have bo:TF (aG (w.put x (g,k,s))) (aQ (w.put x (g,k,s))) (bc L) (bv L) (bm tops) g x:=by
  refine l.bt.ins rfl (Int.not_lt.1 fun h=>bJ (bz.1 h)) (by omega) (by omega) (by rw[cN,if_pos rfl]) (fun y hy=>by rw[cN,if_neg hy]) (fun a b ha hb tR ml=>dw hx _ ha hb tR ml)
 refine And.intro o2 ?_
 refine vs ?_
 refine⟨⟨by omega,by omega⟩,?_⟩
 refine v4 (ae q2) aoh aok q3 ?_
 refine And.intro o2 ?_
 refine vs ?_
 refine(im m2 bo.mg).mono ?_
 rintro _ H3 ⟨r,L3,rs3,rfl,m3,g3,_,e3⟩
 have bn:=bo.done g3
 obtain⟨d1,d2,d3,d4⟩:=m2.mj.1
 have no:¬ (C B.n∨B.n=B.tl∨B.n=B.rk):=by rintro(h|h|h);exact m2.out.1 h;omega;omega
 refine And.intro (e3.own o2 no) ?_
 have q4:=e3.own q2 (by obtain⟨_,⟨_,_,d7⟩,⟨_,d9⟩,d10⟩:=m2.mj;rintro(h|h|h);exact m2.out.2.2.2.2 h;omega;omega)
 refine vs ?_
 refine⟨⟨by omega,by omega⟩,?_⟩
 refine v3 q4 aoh aok ?_
 refine⟨by omega,?_⟩
 obtain⟨m4,e4⟩:=m3.k9 q4 g.toNat r
 refine And.intro (e4.own (e3.own o2 no) d4) ?_
 refine vs ?_
 refine .inr ⟨qv,rfl,B.S C,⟨B,C,L3,rs3,_,rfl,m4,⟨?_,by rw[aoj];exact l.tl⟩,fun z=>Iff.rfl⟩,?_,fun z hz=>.inl ((hS z).2 hz)⟩
 ·rw[eD (by omega) dk]
  exact bn
 ·have hC:∀z,C z→S z:=fun z h=>(hS z).2 (.inl h)
  have h1:S B.tl:=(hS _).2 (.inr (.inr (.inr (.inl rfl))))
  have h2:S B.rk:=(hS _).2 (.inr (.inr (.inr (.inr (.inl rfl)))))
  have h3:S B.tp:=(hS _).2 (.inr (.inr (.inr (.inr (.inr rfl)))))
  exact(((((f0.mono fun _ _ h=>h.elim).trans (e1.mono fun z _ h=>hC z h)).trans (e2.mono fun z _ h=>h▸h2)).trans (e3.mono fun z _ h=>by rcases h with h|rfl|rfl;exact hC z h;exact h1;exact h2)).trans (e4.mono fun z _ h=>h▸h3))
theorem Ab.none{hm:Int→Int}{lt:Int→Int→Bool}{K:Int→Bool→Int}{U T:Int→Int}(h0:hm (-1)=0)(hh:∀x,¬0<hm x)(hk:∀x c,K x c= -1)(hu:∀x,U x= -1)(ht:∀g,T g= -1):Ab hm lt K U T:=
 ⟨⟨h0,fun p c x h hx=>absurd (h.symm.trans (hk p c)) hx,fun x p h hp=>absurd (h.symm.trans (hu x)) hp,fun p _=>hk p _⟩,fun g h=>absurd (ht g) h,fun x hx=>absurd hx (hh x)⟩
theorem Bl(n:Nat)(x:Int)(c:Bool):bc (List.replicate n jA) x c= -1:=by
 by_cases h:0≤x∧x< (List.replicate n jA).length
 ·have h2:=h.2
  rw[ao2]at h2
  rw[oR (y:=jA) h.1 (by rw[apB,if_pos (by omega)])]
  cases c<;>rfl
 ·exact RG h c
theorem FR(n:Nat)(x:Int):bv (List.replicate n jA) x= -1:=by
 by_cases h:0≤x∧x< (List.replicate n jA).length
 ·have h2:=h.2
  rw[ao2]at h2
  rw[uI (y:=jA) h.1 (by rw[apB,if_pos (by omega)])]
  rfl
 ·exact Nj h
def zD(cap:Int):Nw:=⟨[false],List.replicate cap.toNat (0,0,0)⟩
theorem lf(cap:Int)(x:Int):¬0<aG (zD cap) x:=by
 intro h
 obtain⟨h1,h2,e,he⟩:=aF h
 have h3:(List.replicate cap.toNat ((0,0,0):Ce))[x.toNat]? =some (aG (zD cap) x,e):=he
 have:=apu (aom h3)
 injection this with h4 h5
 omega
theorem CT(g:Int):bm [-1] g= -1:=by
 unfold bm
 split
 ·rw[aol]
  rcases hg:g.toNat with _|k
  ·rfl
  ·rfl
 ·rfl
theorem Bm(k:Nat):cE [Value.int .i64 0] k=(List.replicate k (0:Int)).map i64:=by
 induction k with
 |zero=>rfl
 |succ k ih=>simp only[cE,aoX,apb,ao5]at*;rw[ih];rfl
theorem CU(cap:Int)(H:Hp):af Tryz.prog Hd [i64 cap] H fun v H'=>aw (
  ah H H'∧((¬ (0≤cap∧cap≤65536)∧v= .tuple [.pointer none,i64 31].toArray)∨
   ((0≤cap∧cap≤65536)∧∃n S,v= .tuple [ptr n,i64 0].toArray∧dA n H' S (zD cap)∧∀x,S x→H.size≤x))):=by
 refine bq Hv ?_
 refine vs ?_
 refine(kZ cap H).mono ?_
 rintro _ H1 ⟨f1,⟨hb,rfl⟩| ⟨hb,c,C,rfl,c1,hC⟩⟩
 ·refine vs ?_
  exact⟨f1,.inl ⟨hb,rfl⟩⟩
 refine v1 aoY ?_
 refine(uJ H1 hb).mono ?_
 rintro _ H2 ⟨t,tl,rfl,t2,f2,ht,MF⟩
 refine vs ?_
 refine⟨⟨by omega,by omega,by omega,by omega⟩,?_⟩
 refine vs ?_
 rw[Bm]
 have ya:=c1.slt
 have z1:=f1.size
 have z2:=f2.size
 have GV:=aB t2.own
 have WT:=aB t2.k8
 have f3:ah H2 (((H2.new 3 ((List.replicate cap.toNat (0:Int)).map i64)).new 3 [Value.int .i64 (-1)]).new 279 [ptr c,ptr t,.slice (some ⟨H2.size,0,none⟩) cap.toNat cap.toNat,.slice (some ⟨H2.size+1,0,none⟩) 1 1]):=(((ag.refl _ _).new _ _).new _ _).new _ _
 have e1:ag (fun _=>False) (H2.new 3 ((List.replicate cap.toNat (0:Int)).map i64)) (((H2.new 3 ((List.replicate cap.toNat (0:Int)).map i64)).new 3 [Value.int .i64 (-1)]).new 279 [ptr c,ptr t,.slice (some ⟨H2.size,0,none⟩) cap.toNat cap.toNat,.slice (some ⟨H2.size+1,0,none⟩) 1 1]):=((ag.refl _ _).new _ _).new _ _
 have e2:ag (fun _=>False) ((H2.new 3 ((List.replicate cap.toNat (0:Int)).map i64)).new 3 [Value.int .i64 (-1)]) (((H2.new 3 ((List.replicate cap.toNat (0:Int)).map i64)).new 3 [Value.int .i64 (-1)]).new 279 [ptr c,ptr t,.slice (some ⟨H2.size,0,none⟩) cap.toNat cap.toNat,.slice (some ⟨H2.size+1,0,none⟩) 1 1]):=(ag.refl _ _).new _ _
 have ft:=f1.trans (f2.trans f3)
 refine⟨ft,.inr ⟨hb,H2.size+1+1,(LB.mk (H2.size+1+1) c t tl H2.size (H2.size+1)).S C,rfl,⟨⟨H2.size+1+1,c,t,tl,H2.size,H2.size+1⟩,C,_,List.replicate cap.toNat 0,[-1],rfl,
  ⟨⟨.slice (some ⟨H2.size+1,0,none⟩) 1 1,?_,?_⟩,c1.fresh (f2.trans f3),t2.fresh f3,?_,?_,?_,?_⟩,⟨Ab.none rfl (lf cap) (Bl _) (FR _) CT,rfl⟩,fun z=>Iff.rfl⟩,fun z hz=>?_⟩⟩
 ·rw[ao2]
  exact aT (by simp only[ap])
 ·exact(Sl.bU (size:=1) (n:=1) (xs:=[i64 (-1)]) rfl (by simp only[ap])).ext e2 (fun _ _ h=>h)
 ·exact e1.own (az _ _ _) (fun h=>h)
 ·simp[zD]
 ·have:=t2.ne
  refine⟨⟨?_,?_,?_,?_⟩,⟨?_,?_,?_⟩,⟨?_,?_⟩,?_⟩<;>simp only<;>omega
 ·refine⟨fun h=>?_,fun h=>?_,fun h=>?_,fun h=>?_,fun h=>?_⟩<;>(have h2:=ya _ h;first|omega| (simp only at h2;omega))
 ·rcases hz with hz|rfl|rfl|rfl|rfl|rfl
  ·exact hC z hz
  all_goals first|omega| (simp only;omega)
theorem Bn{n:Nat}{H:Hp}{S:Nat→Prop}{w:Nw}(h:dA n H S w):af Tryz.prog lW [ptr n] H fun v H'=>aw (
  (w.hs.length=65537∧v=i64 0∧cB (dA n) S H H' w)∨(w.hs.length≠65537∧v=i64 w.hs.length∧cB (dA n) S H H' w.make)):=by
 obtain⟨B,C,L,rs,tops,rfl,m,l,hS⟩:=id h
 obtain⟨tv,ho,z6⟩:=m.own
 refine bq xj ?_
 refine v1 (ae ho) ?_
 refine(jo m.cells).mono ?_
 rintro _ H1 (⟨h1,rfl,rfl⟩| ⟨h1,rfl,C',c1,e1,zE⟩)
 ·refine vs ?_
  exact .inl ⟨h1,rfl,cB.same h (ag.refl _ _)⟩
 have gh:=m.cells.pos
 have hhs:=m.cells.z6
 have MF:=l.tl
 have slt:=m.slt
 have LD:=c1.slt
 obtain⟨n1,n2,n3,n4,n5⟩:=m.out
 obtain⟨⟨d1,d2,d3,d4⟩,⟨d5,d6,d7⟩,⟨d8,d9⟩,d10⟩:=m.mj
 have o1:=e1.own ho n1
 refine vs ?_
 refine am.cQ (aov (by omega)) ?_
 refine v1 (ae o1) ?_
 have s1:=z6.ext e1 (fun b hb=>by injection hb with hb;exact hb▸n5)
 refine Rt s1 (-1) (by omega) fun w' H2 b' jX s2 e2=>?_
 have o2:=e2.own o1 d4
 obtain⟨wa,wc,OT⟩:=Sl.shape s2
 subst OT
 refine v1 o2 ?_
 generalize OT:Value.slice wa (tops++[-1]).length wc=w' at*
 have e3:ag (fun z=>z=B.n) H2 (H2.wr B.n [ptr B.c,ptr B.t,.slice (some ⟨B.rk,0,none⟩) rs.length rs.length,w']):=(ag.refl (fun z=>z=B.n) _).wr (fun _=>rfl) _
 have z1:=e1.size
 have sl:∀z,z=B.n∨z=B.t∨z=B.tl∨z=B.rk∨z=B.tp→z<H.size:=fun z hz=>slt z (.inr hz)
 have hn:=sl _ (.inl rfl)
 have ht:=sl _ (.inr (.inl rfl))
 have WT:=sl _ (.inr (.inr (.inl rfl)))
 have hrk:=sl _ (.inr (.inr (.inr (.inl rfl))))
 have htp:=sl _ (.inr (.inr (.inr (.inr rfl))))
 have FS:∀z,C' z→z≠b'∧(z<H.size→C z):=fun z hz=>by
  have h5:=LD z hz
  rcases zE z hz with h6|h6
  ·refine⟨fun e=>?_,fun _=>h6⟩
   rcases jX with h7|h7
   ·exact n5 (by rw[←h7,←e];exact h6)
   ·omega
  ·exact⟨by omega,fun h=>by omega⟩
 refine .inr ⟨h1,rfl,(LB.mk B.n B.c B.t B.tl B.rk b').S C',⟨⟨B.n,B.c,B.t,B.tl,B.rk,b'⟩,C',L,rs,tops++[-1],rfl,⟨⟨w',ai o2,s2.ext e3 (fun b hb=>by injection hb with hb;omega)⟩,?_,?_,?_,m.len,?_,?_⟩,⟨by rw[Bg];exact l.bt,?_⟩,fun z=>Iff.rfl⟩,?_,fun z hz=>?_⟩
 ·exact(c1.ext e2 (fun x hx e=>by
   rcases zE x hx with h6|h6
   ·exact n5 (e▸h6)
   ·omega)).ext e3 (fun x hx e=>by
   rcases zE x hx with h6|h6
   ·exact n1 (e▸h6)
   ·omega)
 ·exact((m.bY.ext e1 n2 n3).ext e2 d7 d9).ext e3 (Ne.symm d1) (Ne.symm d2)
 ·exact e3.own (e2.own (e1.own m.CN n4) d10) (Ne.symm d3)
 ·refine⟨⟨d1,d2,d3,?_⟩,⟨d5,d6,?_⟩,⟨d8,?_⟩,?_⟩<;>simp only<;>omega
 ·refine⟨fun h=>?_,fun h=>?_,fun h=>?_,fun h=>?_,fun h=>?_⟩
  ·exact n1 ((FS _ h).2 hn)
  ·exact n2 ((FS _ h).2 ht)
  ·exact n3 ((FS _ h).2 WT)
  ·exact n4 ((FS _ h).2 hrk)
  ·exact(FS _ h).1 rfl
 ·simp[Nw.make,MF]
 ·exact((e1.mono fun z _ h=>(hS z).2 (.inl h)).trans (e2.mono fun z _ h=>(hS z).2 (.inr (.inr (.inr (.inr (.inr h))))))).trans (e3.mono fun z _ h=>(hS z).2 (.inr (.inl h)))
 ·rcases hz with hz|rfl|rfl|rfl|rfl|rfl
  ·rcases zE z hz with h6|h6
   ·exact .inl ((hS z).2 (.inl h6))
   ·exact .inr h6
  ·exact .inl ((hS _).2 (.inr (.inl rfl)))
  ·exact .inl ((hS _).2 (.inr (.inr (.inl rfl))))
  ·exact .inl ((hS _).2 (.inr (.inr (.inr (.inl rfl)))))
  ·exact .inl ((hS _).2 (.inr (.inr (.inr (.inr (.inl rfl))))))
  ·rcases jX with rfl|h7
   ·exact .inl ((hS _).2 (.inr (.inr (.inr (.inr (.inr rfl))))))
   ·exact .inr (by first|omega| (simp only;omega))
theorem RU.first{w:Nw}{L:List Lk}{tops:List Int}(l:RU w L tops){g x:Int}(h:w.first g x):bm tops g=x:=by
 obtain⟨h1,h2,h3⟩:=bM.1 h
 have:=l.bt.first (x:=x) (by omega) (fun y hy aP=>h3 y (by omega) aP) (ar w)
 rwa[h2]at this
theorem qw{n:Nat}{H:Hp}{S:Nat→Prop}{w:Nw}(h:dA n H S w)(g:Int):af Tryz.prog mX [ptr n,i64 g] H fun v H'=>aw (
  ((w.len g=0∧v= .tuple [i64 0,.bool false].toArray)∨∃x,w.first g x∧v= .tuple [i64 x,.bool true].toArray)∧H'=H):=by
 obtain⟨B,C,L,rs,tops,rfl,m,l,hS⟩:=h
 obtain⟨cc,lt,ho,q2,vB,sB,OS⟩:=m.fT
 refine bq zm ?_
 refine v1 (ae ho) ?_
 refine(uH m.cells g).mono ?_
 rintro _ _ ⟨rfl,rfl⟩
 refine vs ?_
 refine am.dec (fun h0=>?_) (fun h0=>?_)
 ·refine vs ?_
  exact⟨.inl ⟨h0,rfl⟩,rfl⟩
 have hg:0<g:=aoH fun hg=>h0 (Nw.HO.2 (.inl (by omega)))
 obtain⟨x,hx⟩:=uG hg h0
 have hh:=(bM.1 hx).2.1
 have dk:=((m.cells.hm x).2 (by omega)).2
 rw[hh,←l.tl]at dk
 have q3:=m.eR q2 (dV (tops:=tops) (h:=g) (by omega) dk)
 rw[l.first hx]at q3
 refine v1 (ae ho) ?_
 refine⟨⟨by omega,by omega⟩,?_⟩
 refine v4 (ae q2) aoh aok q3 ?_
 exact⟨.inr ⟨x,hx,rfl⟩,rfl⟩
theorem tN{n:Nat}{H:Hp}{S:Nat→Prop}{w:Nw}(h:dA n H S w)(x k s:Int):af Tryz.prog iy [ptr n,i64 x,tK k s] H fun v H'=>aw (
  (¬w.db x k s∧v= .bool false∧cB (dA n) S H H' w)∨(w.db x k s∧v= .bool true∧∃y,w.cs[x.toNat]? =some y∧cB (dA n) S H H' (w.put x (y.1,k,s)))):=by
 obtain⟨B,C,L,rs,tops,rfl,m,l,hS⟩:=h
 refine GO qd ⟨rfl,?_⟩
 refine v1 iA.eq_1 ?_
 have f0:ah H (H.new 224 [i64 k,u64 s]):=(ag.refl _ _).new _ _
 have b0:(H.new 224 [i64 k,u64 s]).own H.size=some [i64 k,u64 s]:=az _ _ _
 have m0:=m.fresh f0
 generalize H.new 224 [i64 k,u64 s]=H0 at*
 obtain⟨tv,HS,_⟩:=m0.own
 refine v2 (ae HS) (ae b0) ?_
 refine(gQ m0.cells x k s).mono ?_
 have hC:∀z,C z→S z:=fun z h=>(hS z).2 (.inl h)
 have ff:ag S H H0:=f0.mono fun _ _ h=>h.elim
 rintro _ H1 (⟨bO,rfl,c1,e1⟩| ⟨bJ,rfl,y,hy,fB,c1,e1⟩)
 ·refine vs ?_
  exact .inl ⟨bO,rfl,cB.same ⟨B,C,L,rs,tops,rfl,m0.ext e1 (fun _ _ h=>h),l,hS⟩ (ff.trans (e1.mono fun _ _ h=>h.elim))⟩
 have mE:(w.put x (y.1,k,s)).cs.length=w.cs.length:=by simp[Nw.put]
 have m1:=m0.aJ c1 e1 mE
 have Bo:w.db x k s:=⟨bJ,fun z hz=>by rw[hy]at hz;injection hz with hz;rw[←hz];exact fB⟩
 have hx:0≤x∧x<w.cs.length:=⟨bJ.1,by have:=(aoi.1 hy).1;have:=bJ.1;omega⟩
 have ON:aG w x=y.1:=j6 bJ.1 hy
 have dH:=bz.2 bJ
 have hw:aG (w.put x (y.1,k,s))=aG w:=by
  funext z
  rw[dU hx]
  split
  ·rename_i e;rw[e,ON]
  ·rfl
 have Et:cY (w.put x (y.1,k,s)).cs x:=bz.1 (by rw[hw];exact dH)
 obtain⟨CO,o1,_⟩:=m1.own
 refine v1 (ae o1) ?_
 refine(di m1.cells x).mono ?_
 rintro _ H2 (⟨bO,_,_⟩| ⟨_,rfl,c2,e2⟩)
 ·exact absurd Et bO
 have m2:=m1.aJ c2 e2 rfl
 obtain⟨Nn,o2,_⟩:=m2.own
 have pD:ag S H H2:=(ff.trans (e1.mono fun z _ h=>hC z h)).trans (e2.mono fun z _ h=>hC z h)
 have el:∀a b,0<aG w a→0<aG w b→a≠x→b≠x→aQ (w.put x (y.1,k,s)) a b=aQ w a b:=fun a b ha hb tR ml=>dw hx _ ha hb tR ml
 have ex:∀b,0<aG w b→b≠x→aQ w x b=true→aQ (w.put x (y.1,k,s)) x b=true:=fun b hb ml h=>Bf bJ hy fB hb ml h
 refine v1 (ae o2) ?_
 refine(cH m2.bY (x:=x) (fun hu=>by have:=Bh.up l.bt.bt hu;have:=m2.len.1;omega)).mono ?_
 rintro _ H3 ⟨rfl,L3,t3,l3,k3,u3,e3⟩
 have m3:=m2.dF t3 e3 l3
 have h1:S B.tl:=(hS _).2 (.inr (.inr (.inr (.inl rfl))))
 have h2:S B.rk:=(hS _).2 (.inr (.inr (.inr (.inr (.inl rfl)))))
 have h3:S B.tp:=(hS _).2 (.inr (.inr (.inr (.inr (.inr rfl)))))
 have Ej:ag S H H3:=pD.trans (e3.mono fun z _ h=>h▸h1)
 unfold gC
 by_cases hu:bv L x= -1
 ·rw[if_pos hu]
  refine vs ?_
  have kk:bc L3=bc L:=by rw[k3];unfold iN;rw[if_pos hu]
  have uu:bv L3=bv L:=by
   rw[u3]
   funext z
   unfold c9 aH
   split
   ·rename_i e;rw[e,hu]
   ·rfl
  refine .inr ⟨Bo,rfl,y,hy,cB.same ⟨B,C,L3,rs,tops,rfl,m3,⟨?_,l.tl⟩,hS⟩ Ej⟩
  rw[hw,kk,uu]
  exact l.bt.TG dH hu el ex (ar w)
 rw[if_neg hu]
 refine vs ?_
 have bo:=l.bt.low dH hu el ex (ar w)
 rw[←hw,←k3,←u3]at bo
 have EZ:=Bh.up l.bt.bt hu
 refine(jq m3 bo.bt (x:=bv L x) (fun _=>by rw[hw,EZ.2.2.2];exact dH)).mono ?_
 rintro _ H4 ⟨L4,Vt,m4,b4,u4,e4⟩
 have bo4:TF (aG (w.put x (y.1,k,s))) (aQ (w.put x (y.1,k,s))) (bc L4) (bv L4) (bm tops) (aG (w.put x (y.1,k,s)) x) x:=⟨b4,by rw[u4];exact bo.t1,by rw[u4];exact bo.t2,by rw[u4];exact bo.ox,bo.nx,bo.g0⟩
 have vH:ag S H H4:=Ej.trans (e4.mono fun z _ h=>by rcases h with rfl|rfl;exact h1;exact h2)
 obtain⟨cc,lt,o4,q2,vB,sB,OS⟩:=m4.fT
 have dk:aG (w.put x (y.1,k,s)) x<tops.length:=by
  have:=((m4.cells.hm x).2 bo.g0).2
  have e5:(w.put x (y.1,k,s)).hs=w.hs:=rfl
  rw[e5]at this
  have:=l.tl
  omega
 have RQ:=bo.g0
 generalize hg:aG (w.put x (y.1,k,s)) x=g at*
 have q3:=m4.eR q2 (dV (tops:=tops) (h:=g) (by omega) dk)
 refine vs ?_
 refine jB.intro (fun H'=>H'.own B.n=some [ptr B.c,ptr B.t,.slice (some ⟨B.rk,0,none⟩) Vt.length Vt.length,.slice (some ⟨B.tp,0,none⟩) tops.length cc]) o4 ?_
 refine vs ?_
 refine fJ.intro (.slice (some ⟨B.tp,0,none⟩) tops.length cc) (fun H' hI=>by refine v1 (ae hI) ?_;trivial) ?_
 refine v1 (ae o4) ?_
 refine And.intro o4 ?_
 refine vs ?_
 refine⟨⟨by omega,by omega⟩,?_⟩
 refine v4 (ae q2) aoh aok q3 ?_
 refine And.intro o4 ?_
 refine vs ?_
 refine(im m4 bo4.mg).mono ?_
 rintro _ H5 ⟨r,L5,rs5,rfl,m5,g5,_,e5⟩
 have bn:=bo4.done g5
 obtain⟨d1,d2,d3,d4⟩:=m4.mj.1
 have no:¬ (C B.n∨B.n=B.tl∨B.n=B.rk):=by rintro(h|h|h);exact m4.out.1 h;omega;omega
 refine And.intro (e5.own o4 no) ?_
 have q4:=e5.own q2 (by obtain⟨_,⟨_,_,d7⟩,⟨_,d9⟩,d10⟩:=m4.mj;rintro(h|h|h);exact m4.out.2.2.2.2 h;omega;omega)
 refine vs ?_
 refine⟨⟨by omega,by omega⟩,?_⟩
 refine v3 q4 aoh aok ?_
 refine⟨by omega,?_⟩
 obtain⟨m6,e6⟩:=m5.k9 q4 g.toNat r
 refine And.intro (e6.own (e5.own o4 no) d4) ?_
 refine vs ?_
 refine .inr ⟨Bo,rfl,y,hy,cB.same ⟨B,C,L5,rs5,_,rfl,m6,⟨?_,by rw[aoj];exact l.tl⟩,hS⟩ ?_⟩
 ·rw[eD (by omega) dk]
  exact bn
 ·exact(vH.trans (e5.mono fun z _ h=>by rcases h with h|rfl|rfl;exact hC z h;exact h1;exact h2)).trans (e6.mono fun z _ h=>h▸h3)
theorem xy{n:Nat}{H:Hp}{S:Nat→Prop}{w:Nw}(h:dA n H S w)(x:Int):af Tryz.prog tg [ptr n,i64 x] H fun v H'=>aw (
  (¬cY w.cs x∧v= .bool false∧cB (dA n) S H H' w)∨(cY w.cs x∧v= .bool true∧cB (dA n) S H H' (w.put x (0,0,0)))):=by
 obtain⟨B,C,L,rs,tops,rfl,m,l,hS⟩:=id h
 have hC:∀z,C z→S z:=fun z h=>(hS z).2 (.inl h)
 have s1:S B.tl:=(hS _).2 (.inr (.inr (.inr (.inl rfl))))
 have s2:S B.rk:=(hS _).2 (.inr (.inr (.inr (.inr (.inl rfl)))))
 have s3:S B.tp:=(hS _).2 (.inr (.inr (.inr (.inr (.inr rfl)))))
 obtain⟨tv,o0,_⟩:=m.own
 refine bq tE ?_
 refine v1 (ae o0) ?_
 refine(di m.cells x).mono ?_
 rintro _ H1 (⟨bO,rfl,rfl⟩| ⟨bJ,rfl,c1,e1⟩)
 ·refine vs ?_
  exact .inl ⟨bO,rfl,cB.same h (ag.refl _ _)⟩
 have m1:=m.aJ c1 e1 rfl
 obtain⟨CO,o1,_⟩:=m1.own
 have dH:=bz.2 bJ
 obtain⟨gf,jY,_⟩:=aF dH
 have Ds:x≠ -1:=by omega
 have ls:=ar w
 have t:=l.bt
 refine v1 (ae o1) ?_
 obtain⟨a1,b1,ea1⟩:=cI (bc L x false)
 obtain⟨a2,b2,ea2⟩:=cI (bc L x true)
 refine⟨.tuple [i64 a1,.bool b1].toArray,(lK m1.bY x).mono (by rintro v H' ⟨rfl,rfl⟩;exact⟨ea1,rfl⟩),?_⟩
 refine vs ?_
 refine⟨_,cA H1 _ a1 b1 ea1,?_⟩
 refine v1 (ae o1) ?_
 refine(cz m1.bY x).mono ?_
 rintro _ H' ⟨rfl,e⟩
 obtain rfl:=e.symm
 rw[ea2]
 refine vs ?_
 refine(cA H1 _ a2 b2 ea2).mono ?_
 rintro _ H' ⟨rfl,e⟩
 obtain rfl:=e.symm
 refine v1 (ae o1) ?_
 refine(cH m1.bY (x:=bc L x false) (fun hu=>by have:=Bh.up t.bt hu;have:=m1.len.1;omega)).mono ?_
 rintro _ H2 ⟨rfl,L2,t2,l2,k2,u2,e2⟩
 have m2:=m1.dF t2 e2 l2
 have bt2:Bh w L2:=by
  show Bt _ _ _ _
  rw[k2,u2];exact t.bt.TE _
 obtain⟨Nn,o2,_⟩:=m2.own
 refine v1 (ae o2) ?_
 refine(cH m2.bY (x:=bc L x true) (fun hu=>by have:=Bh.up bt2 hu;have:=m2.len.1;omega)).mono ?_
 rintro _ H3 ⟨rfl,L3,t3,l3,k3,u3,e3⟩
 rw[k2,u2]at k3
 rw[u2]at u3
 have m3:=m2.dF t3 e3 l3
 obtain⟨w1,w2,w3,w4⟩:=t.bt.bare x
 have hk:∀c,bc L x c= -1∨(aG w (bc L x c)=aG w x∧bv L3 (bc L x c)= -1):=fun c=>by
  by_cases hk:bc L x c= -1
  ·exact .inl hk
  ·refine .inr ⟨(t.bt.home hk).2.2.1,?_⟩
   rw[u3,w4,if_pos]
   cases c
   ·exact .inl rfl
   ·exact .inr rfl
 rw[←k3,←u3]at w1
 have mg:=Mg.start w1 dH (hk false) (hk true) (fun e=>t.bt.two x e)
 refine vs ?_
 refine(im m3 mg).mono ?_
 rintro _ H4 ⟨r,L4,Vt,rfl,m4,g4,f4,e4⟩
 have f4:=f4 x (vU.start (fun hk=>(t.bt.home hk).2.2.2.2) (fun hk=>(t.bt.home hk).2.2.2.2))
 have d:=t.Vg ls dH k3 u3 g4 f4
 have vH:ag S H H4:=(((e1.mono fun z _ h=>hC z h).trans (e2.mono fun z _ h=>h▸s1)).trans (e3.mono fun z _ h=>h▸s1)).trans (e4.mono fun z _ h=>by rcases h with h|rfl|rfl;exact hC z h;exact s1;exact s2)
 obtain⟨tv4,o4,_⟩:=m4.own
 have cN:=fun y=>dU (w:=w) ⟨gf,jY⟩ (0,0,0) y
 have p0:aG (w.put x (0,0,0)) (-1)=0:=rfl
 have p1:aG (w.put x (0,0,0)) x=0:=by rw[cN,if_pos rfl]
 have p2:∀y,y≠x→aG (w.put x (0,0,0)) y=aG w y:=fun y hy=>by rw[cN,if_neg hy]
 have el:∀a b,0<aG w a→0<aG w b→a≠x→b≠x→aQ (w.put x (0,0,0)) a b=aQ w a b:=fun a b ha hb tR ml=>dw ⟨gf,jY⟩ _ ha hb tR ml
 have mE:(w.put x (0,0,0)).cs.length=w.cs.length:=by simp[Nw.put]
 refine v1 (ae o4) ?_
 refine(oS m4.bY x).mono ?_
 rintro _ H' ⟨rfl,e⟩
 obtain rfl:=e.symm
 rw[d.ux]
 unfold gC
 by_cases hu:bv L x= -1
 ·rw[if_pos hu]
  obtain⟨cc,lt,o5,q5,vB,sB,OS⟩:=m4.fT
  have dk:aG w x<tops.length:=by
   have:=((m4.cells.hm x).2 dH).2
   have:=l.tl
   omega
  refine v1 (ae o5) ?_
  refine⟨⟨by omega,by omega⟩,?_⟩
  refine v3 q5 aoh aok ?_
  refine⟨by omega,?_⟩
  obtain⟨m5,e5⟩:=m4.k9 q5 (aG w x).toNat r
  obtain⟨tv6,o6,_⟩:=m5.own
  refine v1 (ae o6) ?_
  refine(ci m5.cells x).mono ?_
  rintro _ H6 (⟨bO,_,_⟩| ⟨_,rfl,c6,e6⟩)
  ·exact absurd bJ bO
  have m6:=m5.aJ c6 e6 mE
  refine vs ?_
  refine .inr ⟨bJ,rfl,cB.same ⟨B,C,L4,Vt,_,rfl,m6,⟨?_,by rw[aoj];exact l.tl⟩,hS⟩ ((vH.trans (e5.mono fun z _ h=>h▸s3)).trans (e6.mono fun z _ h=>hC z h))⟩
  rw[eD (by omega) dk]
  exact d.Q9 t dH hu p0 p1 p2 el
 ·rw[if_neg hu]
  have EZ:=Bh.up t.bt hu
  obtain⟨w5,w6⟩:=d.cut t ls dH hu
  obtain⟨a3,b3,Zc⟩:=cI (bc L4 (bv L x) true)
  refine v1 (ae o4) ?_
  refine(cz m4.bY (bv L x)).mono ?_
  rintro _ H' ⟨rfl,e⟩
  obtain rfl:=e.symm
  rw[Zc]
  refine vs ?_
  refine(cA _ _ a3 b3 Zc).mono ?_
  rintro _ H' ⟨rfl,e⟩
  obtain rfl:=e.symm
  rw[d.kp _ true rfl hu]
  refine v1 (ae o4) ?_
  refine(cH m4.bY (x:=x) (fun hu2=>by have:=Bh.up d.bt hu2;have:=m4.len.1;omega)).mono ?_
  rintro _ H5 ⟨rfl,L5,t5,l5,k5,u5,e5⟩
  have m5:=m4.dF t5 e5 l5
  obtain⟨tv5,o5,_⟩:=m5.own
  refine vs ?_
  have Vy:=vH.trans (e5.mono fun z _ h=>h▸s1)
  refine am.dec (fun g=>?_) (fun g=>?_)<;>refine vs ?_
  ·have m6:=m5
   have LF:=Vy
   have b6:Bh w L5:=by
    show Bt _ _ _ _
    rw[k5,u5];exact w5 g
   have u6:bv L5=if r= -1 then c9 (bv L4) x else aH (c9 (bv L4) x) r (bv L x):=by rw[if_pos g];exact u5
   refine(jq m6 b6 (x:=bv L x) (fun _=>by rw[EZ.2.2.2];exact dH)).mono ?_
   rintro _ H7 ⟨L7,rs7,m7,b7,u7,e7⟩
   have WU:=LF.trans (e7.mono fun z _ h=>by rcases h with rfl|rfl;exact s1;exact s2)
   obtain⟨tv7,o7,_⟩:=m7.own
   refine v1 (ae o7) ?_
   refine(ci m7.cells x).mono ?_
   rintro _ H8 (⟨bO,_,_⟩| ⟨_,rfl,c8,e8⟩)
   ·exact absurd bJ bO
   have m8:=m7.aJ c8 e8 mE
   refine vs ?_
   refine .inr ⟨bJ,rfl,cB.same ⟨B,C,L7,rs7,tops,rfl,m8,⟨?_,l.tl⟩,hS⟩ (WU.trans (e8.mono fun z _ h=>hC z h))⟩
   exact d.below t ls (n:=w.cs.length) (fun y hy=>by obtain⟨y0,y1,_⟩:=aF hy;exact⟨y0,y1⟩) dH hu b7 (by rw[u7,u6]) p0 p1 p2 el
  ·obtain⟨y1,y2,y3,y4⟩:=w6 g
   obtain⟨r1,r2,r3,r4⟩:=d.rx g
   obtain⟨q1,q2,_⟩:=aF (w:=w) (x:=r) (by omega)
   have Tm:=m5.len
   refine v1 (ae o5) ?_
   refine(eY m5.bY (p:=bv L x) (x:=r) (c:=(bc L (bv L x) true==x)) ⟨EZ.1,by omega⟩ ⟨q1,by omega⟩ y3 (by rw[u5];exact y2) (by rw[k5];exact y1)).mono ?_
   rintro _ H6 ⟨rfl,L6,t6,l6,k6,RV,e6⟩
   have m6:=m5.dF t6 e6 l6
   have LF:=Vy.trans (e6.mono fun z _ h=>h▸s1)
   rw[k5]at k6
   rw[u5]at RV
   have b6:Bh w L6:=by
    show Bt _ _ _ _
    rw[k6,RV];exact y4
   have u6:bv L6=if r= -1 then c9 (bv L4) x else aH (c9 (bv L4) x) r (bv L x):=by rw[if_neg g];exact RV
   refine vs ?_
   refine(jq m6 b6 (x:=bv L x) (fun _=>by rw[EZ.2.2.2];exact dH)).mono ?_
   rintro _ H7 ⟨L7,rs7,m7,b7,u7,e7⟩
   have WU:=LF.trans (e7.mono fun z _ h=>by rcases h with rfl|rfl;exact s1;exact s2)
   obtain⟨tv7,o7,_⟩:=m7.own
   refine v1 (ae o7) ?_
   refine(ci m7.cells x).mono ?_
   rintro _ H8 (⟨bO,_,_⟩| ⟨_,rfl,c8,e8⟩)
   ·exact absurd bJ bO
   have m8:=m7.aJ c8 e8 mE
   refine vs ?_
   refine .inr ⟨bJ,rfl,cB.same ⟨B,C,L7,rs7,tops,rfl,m8,⟨?_,l.tl⟩,hS⟩ (WU.trans (e8.mono fun z _ h=>hC z h))⟩
   exact d.below t ls (n:=w.cs.length) (fun y hy=>by obtain⟨y0,y1,_⟩:=aF hy;exact⟨y0,y1⟩) dH hu b7 (by rw[u7,u6]) p0 p1 p2 el
theorem uO{n:Nat}{H:Hp}{S:Nat→Prop}{w:Nw}(h:dA n H S w)(g:Int):af Tryz.prog jc [ptr n,i64 g] H fun v H'=>aw (
  (w.len g=0∧v= .tuple [i64 0,.bool false].toArray∧cB (dA n) S H H' w)∨(∃x,w.first g x∧v= .tuple [i64 x,.bool true].toArray∧cB (dA n) S H H' (w.put x (0,0,0)))):=by
 refine bq rJ ?_
 refine vs ?_
 refine(qw h g).mono ?_
 rintro _ _ ⟨⟨h0,rfl⟩| ⟨x,hx,rfl⟩,rfl⟩
 ·refine vs ?_
  exact .inl ⟨h0,rfl,cB.same h (ag.refl _ _)⟩
 ·refine vs ?_
  refine(xy h x).mono ?_
  rintro _ H1 (⟨bO,_,_⟩| ⟨_,rfl,h1⟩)
  ·exact absurd (bz.1 (by have:=bM.1 hx;omega)) bO
  refine vs ?_
  exact .inr ⟨x,hx,rfl,h1⟩
theorem JF(n:Nat):yg (.iface 210 (ptr n)) (dA n) where
 slt h:=h.slt
 ext h e hd:=h.ext e hd
 cells:=by
  rintro H S w ⟨B,C,L,rs,tops,rfl,m,l,hS⟩
  exact⟨B.c,C,m.cells⟩
 has:=by
  rintro H S w g ⟨B,C,L,rs,tops,rfl,m,l,hS⟩
  obtain⟨tv,ho,_⟩:=m.own
  exact⟨_,_,bE,ptr B.c,rfl,fU (off:=0) (by kernel_rfl) (ae ho) rfl,(iG m.cells g).mono fun v H' hp=>hp⟩
 make:=by
  intro H S w h
  exact⟨_,_,lW,ptr n,rfl,bD (by kernel_rfl),(Bn h).mono fun v H' hp=>hp⟩
 insert:=by
  intro H S w g x k s h
  exact⟨_,_,jG,ptr n,rfl,bD (by kernel_rfl),(xx h g x k s).mono fun v H' hp=>hp⟩
 min:=by
  intro H S w g h
  refine⟨_,_,mX,ptr n,rfl,bD (by kernel_rfl),(qw h g).mono ?_⟩
  rintro v H' ⟨⟨h1,rfl⟩| ⟨x,h1,rfl⟩,rfl⟩
  ·exact .inl ⟨h1,rfl,cB.same h (ag.refl _ _)⟩
  ·exact .inr ⟨x,h1,rfl,cB.same h (ag.refl _ _)⟩
 extract:=by
  intro H S w g h
  exact⟨_,_,jc,ptr n,rfl,bD (by kernel_rfl),(uO h g).mono fun v H' hp=>hp⟩
 ld:=by
  intro H S w x k s h
  exact⟨_,_,iy,ptr n,rfl,bD (by kernel_rfl),(tN h x k s).mono fun v H' hp=>hp⟩
 entry:=by
  rintro H S w x ⟨B,C,L,rs,tops,rfl,m,l,hS⟩
  obtain⟨tv,ho,_⟩:=m.own
  refine⟨_,_,bh,ptr B.c,rfl,fU (off:=0) (by kernel_rfl) (ae ho) rfl,(gP m.cells x).mono ?_⟩
  rintro v H' ⟨c1,f,hv⟩
  exact⟨⟨B,C,L,rs,tops,rfl,m.fresh f,l,hS⟩,f,hv⟩
theorem dJ:cU 2:=⟨by omega,by omega⟩
def swp(l:List Int)(i j:Nat):List Int:=(l.set i (l.getD j 0)).set j (l.getD i 0)
theorem fV(l:List Int)(i j:Nat):(swp l i j).length=l.length:=by unfold swp;simp
theorem Bp{l:List Int}{i j:Nat}(hi:i<l.length)(hj:j<l.length)(k:Nat):(swp l i j).getD k 0=if k=j then l.getD i 0 else if k=i then l.getD j 0 else l.getD k 0:=by
 unfold swp
 rw[dv _ _ _ _ (by simpa using hj),dv _ _ _ _ hi]
 by_cases h1:j=k
 ·subst h1;simp
 ·rw[if_neg h1,if_neg (Ne.symm h1)]
  by_cases h2:i=k
  ·subst h2;simp
  ·rw[if_neg h2,if_neg (Ne.symm h2)]
theorem mF{l:List Int}{i j:Nat}(hi:i<l.length)(hj:j<l.length)(k:Nat):(swp l i j)[k]? =if k=j then l[i]? else if k=i then l[j]? else l[k]? :=by
 have hl:=fV l i j
 have hg:=Bp hi hj k
 by_cases hk:k<l.length
 ·rw[aog (by omega)]
  rw[aol,aog (by omega)]at hg
  simp only[Option.getD_some]at hg
  rw[hg]
  have e:∀q,q<l.length→l[q]? =some (l.getD q 0):=fun q hq=>by rw[aol,aog hq];rfl
  split
  ·rw[e i hi]
  ·split
   ·rw[e j hj]
   ·rw[e k hk]
 ·rw[aoy (by omega),if_neg (by omega),if_neg (by omega),aoy (by omega)]
theorem Ua{l:List Int}{i j:Nat}(hi:i<l.length)(hj:j<l.length)(z:Int):z∈swp l i j↔z∈l:=by
 constructor
 ·intro h
  obtain⟨k,hk⟩:=aoR h
  rw[mF hi hj]at hk
  split at hk
  ·exact aom hk
  ·split at hk
   ·exact aom hk
   ·exact aom hk
 ·intro h
  obtain⟨k,hk⟩:=aoR h
  by_cases h1:k=i
  ·subst h1
   refine aom (i:=j) ?_
   rw[mF hi hj,if_pos rfl,hk]
  ·by_cases h2:k=j
   ·subst h2
    refine aom (i:=i) ?_
    rw[mF hi hj]
    by_cases h3:i=k
    ·exact absurd h3.symm h1
    ·rw[if_neg h3,if_pos rfl,hk]
   ·refine aom (i:=k) ?_
    rw[mF hi hj,if_neg h2,if_neg h1,hk]
theorem LG{l:List Int}{i j m:Nat}(hi:i<m)(hj:j<m)(hm:m≤l.length):(swp l i j).take m=swp (l.take m) i j:=by
 apply ao7
 intro k
 rw[mF (by rw[aoW];omega) (by rw[aoW];omega),aoU,mF (by omega) (by omega),aoU,aoU,aoU]
 rw[if_pos hi,if_pos hj]
 by_cases hk:k<m
 ·simp only[if_pos hk]
 ·simp only[if_neg hk,if_neg (show k≠j by omega),if_neg (show k≠i by omega)]
theorem RW{l:List Int}{i j m:Nat}(hi:i<m)(hj:j<m)(hm:m≤l.length):(swp l i j).drop m=l.drop m:=by
 apply ao7
 intro k
 rw[aoV,aoV,mF (by omega) (by omega),if_neg (by omega),if_neg (by omega)]
theorem dE.heap{lt:Int→Int→Bool}{l:List Int}{i:Nat}(h:dE lt 2 l i)(hB:∀j,1≤j→j<l.length→pa 2 j=i→lt (l.getD j 0) (l.getD i 0)=false)
  (hD:1≤i→i<l.length→lt (l.getD i 0) (l.getD (pa 2 i) 0)=false):eM lt 2 l:=by
 intro j h1 h2
 by_cases e1:j=i
 ·subst e1;exact hD h1 h2
 ·by_cases e2:pa 2 j=i
  ·rw[e2];exact hB j h1 h2 e2
  ·exact h.1 j h1 h2 e1 e2
theorem WV{lt:Int→Int→Bool}(ho:bB lt){l:List Int}{i:Nat}(hi:1≤i)(hl:i<l.length)(hA:dE lt 2 l i)(hB:∀j,1≤j→j<l.length→pa 2 j=i→lt (l.getD j 0) (l.getD i 0)=false)
  (aO:lt (l.getD i 0) (l.getD (pa 2 i) 0)=true):dE lt 2 (swp l (pa 2 i) i) (pa 2 i)∧∀j,1≤j→j< (swp l (pa 2 i) i).length→pa 2 j=pa 2 i→lt ((swp l (pa 2 i) i).getD j 0) ((swp l (pa 2 i) i).getD (pa 2 i) 0)=false:=by
 have hp:=cG dJ hi
 have g:=Bp (l:=l) (i:=pa 2 i) (j:=i) (by omega) hl
 rw[fV]
 have afK:∀j,1≤j→j<l.length→pa 2 j=pa 2 i→j≠i→lt (l.getD j 0) (l.getD i 0)=false:=fun j h1 h2 h3 h4=>by
  have e4:=hA.1 j h1 h2 h4 (by omega)
  rw[h3]at e4
  cases hx:lt (l.getD j 0) (l.getD i 0)with
  |false=>rfl
  |true=>have:=ho.tr _ _ _ hx aO;rw[this]at e4;cases e4
 refine⟨⟨fun j h1 h2 h3 h4=>?_,fun j h1 h2 h3 h4=>?_⟩,fun j h1 h2 h3=>?_⟩
 ·rw[fV]at h2
  have WD:=cG dJ h1
  rw[g,g,if_neg h4]
  by_cases e1:j=i
  ·subst e1;exact absurd rfl h4
  ·rw[if_neg e1,if_neg h3]
   by_cases e2:pa 2 j=i
   ·rw[if_pos e2]
    exact hA.2 j h1 h2 e2 (by omega)
   ·rw[if_neg e2];exact hA.1 j h1 h2 e1 e2
 ·rw[fV]at h2
  have Pq:=cG dJ h4
  rw[g,g,if_neg (show pa 2 (pa 2 i)≠i by omega),if_neg (show pa 2 (pa 2 i)≠pa 2 i by omega)]
  have e3:=hA.1 (pa 2 i) h4 (by omega) (by omega) (by omega)
  by_cases e1:j=i
  ·rw[if_pos e1];exact e3
  ·have WD:=cG dJ h1
   rw[if_neg e1,if_neg (by omega)]
   have e4:=hA.1 j h1 h2 e1 (by omega)
   rw[h3]at e4
   exact ho.nt _ _ _ e4 e3
 ·have WD:=cG dJ h1
  rw[g,g,if_neg (show pa 2 i≠i by omega),if_pos rfl]
  by_cases e1:j=i
  ·rw[if_pos e1];exact ho.asym aO
  ·rw[if_neg e1,if_neg (by omega)]
   exact afK j h1 h2 h3 e1
theorem RX{lt:Int→Int→Bool}(ho:bB lt){l:List Int}{i b:Nat}(hb:1≤b)(hl:b<l.length)(hp:pa 2 b=i)(hA:dE lt 2 l i)(rU:∀j,1≤j→j<l.length→pa 2 j=i→lt (l.getD j 0) (l.getD b 0)=false)
  (aO:lt (l.getD b 0) (l.getD i 0)=true):dE lt 2 (swp l i b) b∧lt ((swp l i b).getD b 0) ((swp l i b).getD (pa 2 b) 0)=false:=by
 have PO:=cG dJ hb
 have g:=Bp (l:=l) (i:=i) (j:=b) (by omega) hl
 refine⟨⟨fun j h1 h2 h3 h4=>?_,fun j h1 h2 h3 h4=>?_⟩,?_⟩
 ·rw[fV]at h2
  have WD:=cG dJ h1
  rw[g,g,if_neg h3,if_neg h4]
  by_cases e1:j=i
  ·subst e1
   rw[if_pos rfl,if_neg (by omega)]
   exact hA.2 b hb hl hp h1
  ·rw[if_neg e1]
   by_cases e2:pa 2 j=i
   ·rw[if_pos e2];exact rU j h1 h2 e2
   ·rw[if_neg e2];exact hA.1 j h1 h2 e1 e2
 ·rw[fV]at h2
  have WD:=cG dJ h1
  rw[g,g,if_neg (show j≠b by omega),if_neg (show j≠i by omega),if_neg (show pa 2 b≠b by omega),if_pos hp]
  have:=hA.1 j h1 h2 (by omega) (by omega)
  rw[h3]at this
  exact this
 ·rw[g,g,if_pos rfl,hp,if_neg (show i≠b by omega),if_pos rfl]
  exact ho.asym aO
def mG(l at_:List Int):Prop:=∀ (i:Nat) (x:Int),l[i]? =some x→0≤x∧at_[x.toNat]? =some (i:Int)
theorem mG.FI{l at_:List Int}(h:mG l at_){i j:Nat}{x:Int}(hi:l[i]? =some x)(hj:l[j]? =some x):i=j:=by
 have h1:=(h i x hi).2
 have h2:=(h j x hj).2
 rw[h1]at h2
 injection h2 with h2
 omega
def Bq(l at_:List Int)(i j:Nat):List Int:=(at_.set (l.getD j 0).toNat i).set (l.getD i 0).toNat j
theorem mG.swp{l at_:List Int}(h:mG l at_){i j:Nat}(hi:i<l.length)(hj:j<l.length)(Kl:i≠j):mG (swp l i j) (Bq l at_ i j)∧(Bq l at_ i j).length=at_.length∧∀z:Int,0≤z→z∉l→(Bq l at_ i j)[z.toNat]? =at_[z.toNat]? :=by
 have e:∀q,q<l.length→l[q]? =some (l.getD q 0):=fun q hq=>by rw[aol,aog hq];rfl
 obtain⟨a0,a1⟩:=h i _ (e i hi)
 obtain⟨b0,b1⟩:=h j _ (e j hj)
 have Vd:=(aoi.1 a1).1
 have Vp:=(aoi.1 b1).1
 have aP:(l.getD i 0).toNat≠(l.getD j 0).toNat:=fun h0=>by
  rw[h0,b1]at a1
  injection a1 with a1
  omega
 unfold Bq
 refine⟨fun k x hk=>?_,by simp,fun z hz hm=>?_⟩
 ·rw[mF hi hj]at hk
  split at hk
  ·rename_i Y2
   rw[e i hi]at hk
   injection hk with hk
   subst hk
   rw[aoo (by simpa using Vd),Y2]
   exact⟨a0,rfl⟩
  ·split at hk
   ·rename_i Y2 HA
    rw[e j hj]at hk
    injection hk with hk
    subst hk
    rw[aon aP,aoo Vp,HA]
    exact⟨b0,rfl⟩
   ·rename_i Y2 HA
    obtain⟨c0,c1⟩:=h k x hk
    have n1:(l.getD i 0).toNat≠x.toNat:=fun h0=>by
     rw[h0,c1]at a1;injection a1 with a1;omega
    have n2:(l.getD j 0).toNat≠x.toNat:=fun h0=>by
     rw[h0,c1]at b1;injection b1 with b1;omega
    rw[aon n1,aon n2]
    exact⟨c0,c1⟩
 ·have n1:(l.getD i 0).toNat≠z.toNat:=fun h0=>hm (by rw[show z=l.getD i 0 by omega];exact aom (e i hi))
  have n2:(l.getD j 0).toNat≠z.toNat:=fun h0=>hm (by rw[show z=l.getD j 0 by omega];exact aom (e j hj))
  rw[aon n1,aon n2]
theorem pa2(j:Nat):((pa 2 j:Nat):Int)=if j=0 then 0 else((j:Int) - 1) / 2:=by
 unfold pa
 split
 ·rename_i h;subst h;rfl
 ·omega
theorem Sl.at_{H:Hp}{v:Value}{n:Nat}{xs:List Value}{fp:Option Nat}(h:Sl H 1 v n xs fp){i:Nat}{x:Value}(hx:xs[i]? =some x):∃b cc lb,v= .slice (some ⟨b,0,none⟩) n cc∧fp=some b∧H.own b=some lb∧lb[i]? =some x∧i<n∧n≤lb.length:=by
 have hi:=(aoi.1 hx).1
 obtain⟨hl,hm⟩:=id h
 cases fp with
 |none=>obtain⟨e,_⟩:=hm;omega
 |some f=>
  obtain⟨lb,cc,hv,ho,h1,h2,h3⟩:=hm
  refine⟨f,cc,lb,hv,rfl,ho,?_,by omega,by omega⟩
  rw[←h3,aoN (by omega)]at hx
  exact hx
structure gS(H:Hp)(n c:Nat)(C:Nat→Prop)(rv:Value)(r:Nat)(fp fa:Option Nat)(st:Int)(w:Nw)(l at_:List Int):Prop where
 own:∃av,H.own n=some [ptr c,rv,av]∧Sl H 1 av at_.length (at_.map i64) fa
 cells:bf H c C st w
 jC:∃sv,H.own r=some [ptr n,sv]∧Sl H 1 sv l.length (l.map i64) fp
 nC:¬C n
 rC:¬C r
 rn:r≠n
 xz:∀b,fp=some b→¬C b∧b≠n∧b≠r∧fa≠some b
 JG:∀b,fa=some b→¬C b∧b≠n∧b≠r
 ll:l.length≤65536
abbrev pv(r:Nat):Value:=.iface 370 (ptr r)
theorem rZ{l:List Int}{i:Nat}{x:Int}(h:l[i]? =some x):l.getD i 0=x:=by rw[aol,h];rfl
theorem getD_take{l:List Int}{k m:Nat}(h:k<m):(l.take m).getD k 0=l.getD k 0:=by rw[aol,aol,aoN h]
section
variable {H : Hp} {n c : Nat} {C : Nat → Prop} {rv : Value} {r : Nat} {fp fa : Option Nat} {st : Int} {w : Nw} {l at_ : List Int}
theorem oV(m:gS H n c C rv r fp fa st w l at_):af Tryz.prog gX [ptr r] H fun v H'=>aw (v=i64 l.length∧H=H'):=by
 obtain⟨sv,ho,hs⟩:=m.jC
 obtain⟨a,cc,rfl⟩:=cO.Rx hs.rd
 refine bq D4 ?_
 refine v1 (ae ho) ?_
 exact⟨rfl,rfl⟩
theorem FT(m:gS H n c C rv r fp fa st w l at_){i j:Nat}(hi:i<l.length)(hj:j<l.length)(bJ:∀z∈l,cY w.cs z):af Tryz.prog pP [ptr r,i64 i,i64 j] H fun v H'=>aw (
  v= .bool (aQ w (l.getD i 0) (l.getD j 0))∧gS H' n c C rv r fp fa (min (st+1) 4611686018427387904) w l at_∧ag C H H'):=by
 obtain⟨av,hn,ha⟩:=m.own
 obtain⟨sv,ho,hs⟩:=m.jC
 obtain⟨x,hx⟩:∃x,l[i]? =some x:=⟨_,aog hi⟩
 obtain⟨y,hy⟩:∃y,l[j]? =some y:=⟨_,aog hj⟩
 obtain⟨b,cc,lb,rfl,fZ,hb,ml,_,_⟩:=Sl.at_ hs (i:=i) (x:=i64 x) (by simp[hx])
 obtain⟨b',WW,Vw,hv,iq,jX,hby,_,_⟩:=Sl.at_ hs (i:=j) (x:=i64 y) (by simp[hy])
 rw[fZ]at iq
 injection iq with iq
 subst iq
 rw[hb]at jX
 injection jX with jX
 subst jX
 have oP:=m.ll
 refine bq Cx ?_
 refine v2 (ae ho) (ae hn) ?_
 refine⟨by omega,?_⟩
 refine v5 (ae hb) aok ml (ae ho) Int.toNat_natCast ?_
 refine⟨by omega,?_⟩
 refine v4 (ae hb) aok hby Int.toNat_natCast ?_
 have h1:=bJ x (aom hx)
 have h2:=bJ y (aom hy)
 refine(jn m.cells x y).mono ?_
 rintro _ H1 ⟨rfl,c1,e1⟩
 refine vs ?_
 have uD:=m.cells.st
 rw[if_pos ⟨h1,h2⟩,show fP st 1=min (st+1) 4611686018427387904 by unfold fP;rw[if_neg (by omega)];split<;>omega]at c1
 refine⟨by rw[rZ hx,rZ hy,CK h1 h2];rfl,⟨⟨av,e1.own hn m.nC,ha.ext e1 (fun b hb=>(m.JG b hb).1)⟩,c1,⟨_,e1.own ho m.rC,hs.ext e1 (fun b hb=>(m.xz b hb).1)⟩,m.nC,m.rC,m.rn,m.xz,m.JG,m.ll⟩,e1⟩
theorem FU(m:gS H n c C rv r fp fa st w l at_)(vp:mG l at_){i j:Nat}(hi:i<l.length)(hj:j<l.length)(Kl:i≠j):af Tryz.prog pR [ptr r,i64 i,i64 j] H fun v H'=>aw (
  v= .tuple [].toArray∧gS H' n c C rv r fp fa st w (swp l i j) (Bq l at_ i j)∧ag (fun z=>fp=some z∨fa=some z) H H'):=by
 obtain⟨av,hn,ha⟩:=m.own
 obtain⟨sv,ho,hs⟩:=m.jC
 obtain⟨x,hx⟩:∃x,l[i]? =some x:=⟨_,aog hi⟩
 obtain⟨y,hy⟩:∃y,l[j]? =some y:=⟨_,aog hj⟩
 obtain⟨b,cc,lb,rfl,rfl,hb,ml,_,Dz⟩:=Sl.at_ hs (i:=i) (x:=i64 x) (by simp[hx])
 obtain⟨b',WW,Vw,hv,iq,jX,hby,_,_⟩:=Sl.at_ hs (i:=j) (x:=i64 y) (by simp[hy])
 injection iq with iq
 subst iq
 rw[hb]at jX
 injection jX with jX
 subst jX
 obtain⟨gf,tR⟩:=vp i x hx
 obtain⟨WA,hay⟩:=vp j y hy
 have Vd:=(aoi.1 tR).1
 have Y9:=(aoi.1 hay).1
 obtain⟨f,fc,la,rfl,rfl,hf,Ub,_,hla⟩:=Sl.at_ ha (i:=x.toNat) (x:=i64 i) (by simp[tR])
 have oP:=m.ll
 obtain⟨d1,d2,d3,d4⟩:=m.xz b rfl
 obtain⟨g1,g2,g3⟩:=m.JG f rfl
 have WN:b≠f:=fun e=>d4 (by rw[e])
 refine GO Cz ⟨rfl,?_⟩
 refine v2 qf.eq_1 (ae ho) ?_
 refine⟨by omega,?_⟩
 refine v5 (ae hb) aok hby (ae ho) Int.toNat_natCast ?_
 refine⟨by omega,?_⟩
 refine v4 (ae hb) aok ml Int.toNat_natCast ?_
 refine⟨by omega,?_⟩
 refine v3 hb aok Int.toNat_natCast ?_
 refine⟨by omega,?_⟩
 refine v1 aoh ?_
 refine⟨by omega,?_⟩
 simp(disch:=(first|omega| (simp only[Zs]<;>omega)|fail)) only[go_sem, ↓reduceIte,Zv,ai hb,aok,Int.toNat_natCast]
 refine⟨by rw[aoj];omega,?_⟩
 refine v1 aoh ?_
 have e1:ag (fun z=>z=b) H (H.wr b ((lb.set i (i64 y)).set j (i64 x))):=(ag.refl (fun z=>z=b) _).wr (fun _=>rfl) _
 have ob:(H.wr b ((lb.set i (i64 y)).set j (i64 x))).own b=some ((lb.set i (i64 y)).set j (i64 x)):=ai hb
 have s1:=(hs.uB hb i (i64 y)).uB (ai hb) j (i64 x)
 rw[RY]at s1
 generalize H.wr b ((lb.set i (i64 y)).set j (i64 x))=H1 at*
 have Nr:=e1.own ho (Ne.symm d3)
 have vV:=e1.own hn (Ne.symm d2)
 have hf1:=e1.own hf (Ne.symm WN)
 have QO:=ha.ext e1 (fun z hz h=>by injection hz with hz;exact WN (h.symm.trans hz.symm))
 have c1:=m.cells.ext e1 (fun z hz h=>d1 (h▸hz))
 have gi:((lb.set i (i64 y)).set j (i64 x))[i]? =some (i64 y):=by rw[aon (Ne.symm Kl),aoo (by omega)]
 have gj:((lb.set i (i64 y)).set j (i64 x))[j]? =some (i64 x):=by rw[aoo (by rw[aoj];omega)]
 refine v4 (ae ho) (ae hn) (ae Nr) (ae vV) ?_
 refine⟨by omega,?_⟩
 refine v6 (ae ob) aok gi (ae Nr) (ae vV) Int.toNat_natCast ?_
 refine⟨by omega,?_⟩
 refine v4 (ae ob) aok gj Int.toNat_natCast ?_
 refine⟨by omega,?_⟩
 refine v3 hf1 aok aoh ?_
 refine⟨by omega,?_⟩
 refine v1 aoh ?_
 refine⟨by omega,?_⟩
 simp(disch:=(first|omega| (simp only[Zs]<;>omega)|fail)) only[go_sem, ↓reduceIte,Zv,ai hf1,aok,aoh]
 refine⟨by rw[aoj];omega,?_⟩
 refine v1 aoh ?_
 have e2:ag (fun z=>z=f) H1 (H1.wr f ((la.set y.toNat (i64 i)).set x.toNat (i64 j))):=(ag.refl (fun z=>z=f) _).wr (fun _=>rfl) _
 have s2:=(QO.uB hf1 y.toNat (i64 i)).uB (ai hf1) x.toNat (i64 j)
 rw[RY]at s2
 have ex:=rZ hx
 have ey:=rZ hy
 refine⟨rfl,⟨⟨_,e2.own vV (Ne.symm g2),?_⟩,c1.ext e2 (fun z hz h=>g1 (h▸hz)),⟨_,e2.own Nr (Ne.symm g3),?_⟩,m.nC,m.rC,m.rn,m.xz,m.JG,by rw[fV];exact m.ll⟩,(e1.mono fun z _ hz=>.inl (by rw[hz])).trans (e2.mono fun z _ hz=>.inr (by rw[hz]))⟩
 ·unfold Bq
  rw[ex,ey,aoj,aoj,ao3,ao3]
  exact s2
 ·have:=s1.ext e2 (fun z hz h=>by injection hz with hz;exact WN (hz.trans h))
  unfold swp
  rw[ex,ey,aoj,aoj,ao3,ao3]
  exact this
end
structure nK(n c:Nat)(C:Nat→Prop)(rv:Value)(r:Nat)(fp fa:Option Nat)(st:Int)(w:Nw)(l at_:List Int)(mm:Nat)(H H':Hp)(l' mq:List Int)(q:Nat):Prop where
 jC:gS H' n c C rv r fp fa (min (st+q) 4611686018427387904) w l' mq
 ok:mG l' mq
 mem:∀z,z∈l'↔z∈l
 len:l'.length=l.length
 drop:l'.drop mm=l.drop mm
 LH:mq.length=at_.length
 off:∀z:Int,0≤z→z∉l→mq[z.toNat]? =at_[z.toNat]?
 ext:ag (fun z=>C z∨fp=some z∨fa=some z) H H'
section
variable {H H1 : Hp} {n c : Nat} {C : Nat → Prop} {rv : Value} {r : Nat} {fp fa : Option Nat} {st : Int} {w : Nw} {l at_ l1 HT : List Int} {mm q : Nat}
theorem nK.refl(m:gS H n c C rv r fp fa st w l at_)(vp:mG l at_)(mm:Nat):nK n c C rv r fp fa st w l at_ mm H H l at_ 0:=
 ⟨by have:=m.cells.st;rw[show min (st+((0:Nat):Int)) 4611686018427387904=st by omega];exact m,vp,fun _=>Iff.rfl,rfl,rfl,rfl,fun _ _ _=>rfl,ag.refl _ _⟩
theorem nK.less(h:nK n c C rv r fp fa st w l at_ mm H H1 l1 HT q)(bJ:∀z∈l,cY w.cs z){i j:Nat}(hi:i<l.length)(hj:j<l.length):gO Tryz.prog (pv r) "Less" [i64 i,i64 j] H1 fun v H2=>
  v= .bool (aQ w (l1.getD i 0) (l1.getD j 0))∧nK n c C rv r fp fa st w l at_ mm H H2 l1 HT (q+1):=by
 have hl:=h.len
 refine⟨_,_,pP,ptr r,rfl,bD (by kernel_rfl),(FT h.jC (by omega) (by omega) (fun z hz=>bJ z ((h.mem z).1 hz))).mono ?_⟩
 rintro v H2 ⟨hv,m2,e2⟩
 refine⟨hv,?_,h.ok,h.mem,h.len,h.drop,h.LH,h.off,h.ext.trans (e2.mono fun z _ hz=>.inl hz)⟩
 rw[show min (st+((q+1:Nat):Int)) 4611686018427387904=min (min (st+(q:Int)) 4611686018427387904+1) 4611686018427387904 by omega]
 exact m2
theorem nK.swap(h:nK n c C rv r fp fa st w l at_ mm H H1 l1 HT q)(hm:mm≤l.length){i j:Nat}(hi:i<mm)(hj:j<mm)(Kl:i≠j):gO Tryz.prog (pv r) "Swap" [i64 i,i64 j] H1 fun v H2=>
  v= .tuple [].toArray∧nK n c C rv r fp fa st w l at_ mm H H2 (swp l1 i j) (Bq l1 HT i j) q:=by
 have hl:=h.len
 refine⟨_,_,pR,ptr r,rfl,bD (by kernel_rfl),(FU h.jC h.ok (i:=i) (j:=j) (by omega) (by omega) Kl).mono ?_⟩
 rintro v H2 ⟨hv,m2,e2⟩
 obtain⟨a1,a2,a3⟩:=h.ok.swp (i:=i) (j:=j) (by omega) (by omega) Kl
 refine⟨hv,m2,a1,fun z=>by rw[Ua (by omega) (by omega),h.mem z],by rw[fV];exact h.len,by rw[RW hi hj (by omega)];exact h.drop,a2.trans h.LH,fun z hz hm=>?_,h.ext.trans (e2.mono fun z _ hz=>.inr hz)⟩
 rw[a3 z hz (fun h2=>hm ((h.mem z).1 h2))]
 exact h.off z hz hm
theorem r7(m:gS H n c C rv r fp fa st w l at_)(vp:mG l at_){j mm:Nat}(hj:j<mm)(hm:mm≤l.length)(bJ:∀z∈l,cY w.cs z)(hA:dE (aQ w) 2 (l.take mm) j)
  (hB:∀k,1≤k→k< (l.take mm).length→pa 2 k=j→aQ w ((l.take mm).getD k 0) ((l.take mm).getD j 0)=false):
  af Tryz.prog wI [pv r,i64 j] H fun v H'=>aw (v= .tuple [].toArray∧∃ (l' mq:List Int) (q:Nat),nK n c C rv r fp fa st w l at_ mm H H' l' mq q∧eM (aQ w) 2 (l'.take mm)∧q≤kW 2 j∧(1≤j→0<q)):=by
 have ho:=ar w
 have oP:=m.ll
 refine bq xp ?_
 refine vs ?_
 refine aW.intro (fun k env H'=>∃ (j':Nat) (l1 HT:List Int) (q:Nat),env=[(0,pv r),(1,i64 j')]∧k=j'∧j'<mm∧nK n c C rv r fp fa st w l at_ mm H H' l1 HT q∧dE (aQ w) 2 (l1.take mm) j'∧
   (∀k,1≤k→k< (l1.take mm).length→pa 2 k=j'→aQ w ((l1.take mm).getD k 0) ((l1.take mm).getD j' 0)=false)∧q+kW 2 j'≤kW 2 j∧(j'≠j→0<q)) j
  ⟨j,l,at_,0,rfl,rfl,hj,nK.refl m vp mm,hA,hB,by omega,fun h=>absurd rfl h⟩ ?_
 clear hA hB
 rintro j' env H1 ⟨_,l1,HT,q,rfl,rfl,hj',h1,hA,hB,hq,Vu⟩
 have sF:=h1.len
 have qJ:=pa2 j'
 have afM:IntKind.i64.wrap ((IntKind.i64.wrap ((j':Int) - 1)).tdiv 2)=((pa 2 j':Nat):Int):=by
  rw[wrap64 (n:=(j':Int) - 1) (by omega) (by omega),qJ]
  split
  ·rename_i h;subst h;rfl
  ·rw[Int.tdiv_eq_ediv_of_nonneg (by omega),wrap64 (by omega) (by omega)]
 simp(disch:=(first|omega| (simp only[Zs]<;>omega)|fail)) only[go_sem, ↓reduceIte,Zv,if_neg (show¬ ((2:Int)=0) by decide)]
 rw[afM]
 have MF:(l1.take mm).length=mm:=by rw[aoW];omega
 by_cases h0:j'=0
 ·refine am.cQ (aov (by rw[qJ,if_pos h0,h0];rfl)) ?_
  refine vs ?_
  exact⟨rfl,l1,HT,q,h1,hA.heap hB (fun h=>by omega),by omega,fun h=>Vu (by omega)⟩
 ·have OU:=cG dJ (j:=j') (by omega)
  refine am.aX (aoI (by omega)) ?_
  refine vs ?_
  refine gO.mono (h1.less bJ (i:=j') (j:=pa 2 j') (by omega) (by omega)) ?_
  rintro _ H2 ⟨rfl,h2⟩
  have EZ:kW 2 (j':Int)=kW 2 ((pa 2 j':Nat):Int)+1:=by
   obtain⟨p,hp,QP,p0,p1⟩:=nF dJ (i:=(j':Int)) (by omega)
   rw[Int.toNat_natCast]at QP
   rw[qo hp,show p=((pa 2 j':Nat):Int) by omega]
  refine vs ?_
  cases aO:aQ w (l1.getD j' 0) (l1.getD (pa 2 j') 0)with
  |false=>
   refine vs ?_
   refine⟨rfl,l1,HT,q+1,h2,hA.heap hB (fun _ _=>?_),by omega,fun _=>by omega⟩
   rw[getD_take hj',getD_take (by omega)]
   exact aO
  |true=>
   refine vs ?_
   refine gO.mono (h2.swap hm (i:=pa 2 j') (j:=j') (by omega) hj' (by omega)) ?_
   rintro _ H3 ⟨rfl,h3⟩
   refine vs ?_
   obtain⟨g1,g2⟩:=WV ho (l:=l1.take mm) (i:=j') (by omega) (by omega) hA hB (by rw[getD_take hj',getD_take (by omega)];exact aO)
   have ht:(swp l1 (pa 2 j') j').take mm=swp (l1.take mm) (pa 2 j') j':=LG (by omega) hj' (by omega)
   exact⟨pa 2 j',by omega,pa 2 j',_,_,q+1,rfl,rfl,by omega,h3,by rw[ht];exact g1,by rw[ht];exact g2,by omega,fun _=>by omega⟩
theorem uP(m:gS H n c C rv r fp fa st w l at_)(vp:mG l at_){i0 mm:Nat}(hi:i0<mm)(hm:mm≤l.length)(bJ:∀z∈l,cY w.cs z)(hA:dE (aQ w) 2 (l.take mm) i0):
  af Tryz.prog tm [pv r,i64 i0,i64 mm] H fun v H'=>aw (∃ (b:Bool) (l' mq:List Int) (q:Nat),v= .bool b∧nK n c C rv r fp fa st w l at_ mm H H' l' mq q∧q+2*kW 2 i0≤2*kW 2 ((mm:Int) - 1)∧
   (b=true→eM (aQ w) 2 (l'.take mm))∧(b=false→l'=l∧mq=at_∧∀k,1≤k→k< (l.take mm).length→pa 2 k=i0→aQ w ((l.take mm).getD k 0) ((l.take mm).getD i0 0)=false)):=by
 have ho:=ar w
 have oP:=m.ll
 refine bq tJ ?_
 refine vs ?_
 have FJ:∀k:Nat,k<mm→kW 2 (k:Int)≤kW 2 ((mm:Int) - 1):=fun k hk=>kX dJ ((mm:Int) - 1).toNat _ _ (aou _) (by omega)
 refine aW.intro (fun k env H'=>∃ (i:Nat) (l1 HT:List Int) (q:Nat),env=[(0,pv r),(1,i64 i0),(2,i64 mm),(7,i64 i)]∧k=mm - i∧i<mm∧i0≤i∧nK n c C rv r fp fa st w l at_ mm H H' l1 HT q∧dE (aQ w) 2 (l1.take mm) i∧
   q+2*kW 2 i0≤2*kW 2 i∧(i0<i→aQ w ((l1.take mm).getD i 0) ((l1.take mm).getD (pa 2 i) 0)=false)∧(i=i0→l1=l∧HT=at_)) (mm - i0)
  ⟨i0,l,at_,0,rfl,rfl,hi,aou _,nK.refl m vp mm,hA,by omega,fun h=>by omega,fun _=>⟨rfl,rfl⟩⟩ ?_
 clear hA
 rintro k env H1 ⟨i,l1,HT,q,rfl,rfl,him,FE,h1,hA,hq,hD,Iv⟩
 have sF:=h1.len
 have MF:(l1.take mm).length=mm:=by rw[aoW];omega
 have stay:∀ (H2:Hp) (q':Nat),nK n c C rv r fp fa st w l at_ mm H H2 l1 HT q'→q'+2*kW 2 i0≤2*kW 2 ((mm:Int) - 1)→(∀k,1≤k→k< (l1.take mm).length→pa 2 k=i→aQ w ((l1.take mm).getD k 0) ((l1.take mm).getD i 0)=false)→
   ∃ (b:Bool) (l' mq:List Int) (q:Nat),Value.bool (decide ((i:Int)>i0))= .bool b∧nK n c C rv r fp fa st w l at_ mm H H2 l' mq q∧q+2*kW 2 i0≤2*kW 2 ((mm:Int) - 1)∧
    (b=true→eM (aQ w) 2 (l'.take mm))∧(b=false→l'=l∧mq=at_∧∀k,1≤k→k< (l.take mm).length→pa 2 k=i0→aQ w ((l.take mm).getD k 0) ((l.take mm).getD i0 0)=false):=by
  intro H2 q' h2 hq' hB
  refine⟨_,l1,HT,q',rfl,h2,hq',fun h=>?_,fun h=>?_⟩
  ·have:=of_decide_eq_true h
   exact hA.heap hB (fun _ _=>hD (by omega))
  ·have:=of_decide_eq_false h
   have e:i=i0:=by omega
   obtain⟨e1,e2⟩:=Iv e
   subst e1 e2 e
   exact⟨rfl,rfl,hB⟩
 have PQ:∀k:Nat,1≤k→(pa 2 k=i↔(2*i+1≤k∧k≤2*i+2)):=fun k hk=>by
  have:=RA dJ (i:=i) hk
  rw[this]
  omega
 refine vs ?_
 have hj1:IntKind.i64.wrap (IntKind.i64.wrap (2*(i:Int))+1)=((2*i+1:Nat):Int):=by
  rw[wrap64 (n:=2*(i:Int)) (by omega) (by omega),wrap64 (by omega) (by omega)];omega
 rw[hj1]
 refine am.dec (fun OB=>?_) (fun OB=>?_)
 ·refine vs ?_
  exact stay H1 q h1 (by have:=FJ i him;omega) (fun k h2 h3 h4=>by have:=(PQ k h2).1 h4;omega)
 refine vs ?_
 refine am.aX (aoI (by omega)) ?_
 refine vs ?_
 have vB:2*i+1<mm:=by omega
 refine Ns (fun e H2=>e.find 0=some (pv r)∧e.find 1=some (i64 i0)∧e.find 2=some (i64 mm)∧e.find 7=some (i64 i)∧∃ (b:Nat) (q':Nat),e.find 9=some (i64 b)∧nK n c C rv r fp fa st w l at_ mm H H2 l1 HT q'∧q'≤q+1∧1≤b∧b<mm∧pa 2 b=i∧
   ∀k,1≤k→k< (l1.take mm).length→pa 2 k=i→aQ w ((l1.take mm).getD k 0) ((l1.take mm).getD b 0)=false) ?_ ?_
 ·have BZ:pa 2 (2*i+1)=i:=(PQ _ (by omega)).2 ⟨by omega,by omega⟩
  refine vs ?_
  have fS:IntKind.i64.wrap (((2*i+1:Nat):Int)+1)=((2*i+2:Nat):Int):=by rw[wrap64 (by omega) (by omega)];omega
  rw[fS]
  refine am.dec (fun h2=>?_) (fun h2=>?_)
  ·have qJ:pa 2 (2*i+2)=i:=(PQ _ (by omega)).2 ⟨by omega,by omega⟩
   refine vs ?_
   refine gO.mono (h1.less bJ (i:=2*i+2) (j:=2*i+1) (by omega) (by omega)) ?_
   rintro _ H2 ⟨rfl,g2⟩
   refine vs ?_
   cases aO:aQ w (l1.getD (2*i+2) 0) (l1.getD (2*i+1) 0)with
   |false=>
    refine vs ?_
    refine⟨trivial,trivial,trivial,trivial,2*i+1,q+1,rfl,g2,by omega,by omega,vB,BZ,fun k h3 h4 h5=>?_⟩
    have h6:=(PQ k h3).1 h5
    rw[getD_take (by omega),getD_take (by omega)]
    by_cases h7:k=2*i+1
    ·rw[h7];exact ho.vx _
    ·rw[show k=2*i+2 by omega];exact aO
   |true=>
    refine vs ?_
    refine⟨trivial,trivial,trivial,trivial,2*i+2,q+1,rfl,g2,by omega,by omega,by omega,qJ,fun k h3 h4 h5=>?_⟩
    have h6:=(PQ k h3).1 h5
    rw[getD_take (by omega),getD_take (by omega)]
    by_cases h7:k=2*i+2
    ·rw[h7];exact ho.vx _
    ·rw[show k=2*i+1 by omega];exact ho.asym aO
  ·refine vs ?_
   refine⟨trivial,trivial,trivial,trivial,2*i+1,q,rfl,h1,by omega,by omega,vB,BZ,fun k h3 h4 h5=>?_⟩
   have h6:=(PQ k h3).1 h5
   rw[show k=2*i+1 by omega]
   exact ho.vx _
 rintro e H2 ⟨e0,e1,e2,e7,b,q',e9,h2,hq',Ll,EY,PO,rU⟩
 refine v5 e0 e1 e2 e7 e9 ?_
 refine gO.mono (h2.less bJ (i:=b) (j:=i) (by omega) (by omega)) ?_
 rintro _ H3 ⟨rfl,h3⟩
 have EZ:kW 2 (b:Int)=kW 2 (i:Int)+1:=by
  obtain⟨p,hp,QP,p0,p1⟩:=nF dJ (i:=(b:Int)) (by omega)
  rw[Int.toNat_natCast,PO]at QP
  rw[qo hp,show p=(i:Int) by omega]
 have hib:=cG dJ Ll
 refine v5 e0 e1 e2 e7 e9 ?_
 cases aO:aQ w (l1.getD b 0) (l1.getD i 0)with
 |false=>
  refine v5 e0 e1 e2 e7 e9 ?_
  refine stay H3 (q'+1) h3 (by have:=FJ b EY;omega) (fun k h4 h5 h6=>?_)
  have h7:=rU k h4 h5 h6
  have h8:aQ w ((l1.take mm).getD b 0) ((l1.take mm).getD i 0)=false:=by rw[getD_take EY,getD_take him];exact aO
  exact ho.nt _ _ _ h7 h8
 |true=>
  refine v5 e0 e1 e2 e7 e9 ?_
  refine gO.mono (h3.swap hm (i:=i) (j:=b) him EY (by omega)) ?_
  rintro _ H4 ⟨rfl,h4⟩
  refine v5 e0 e1 e2 e7 e9 ?_
  obtain⟨g1,g2⟩:=RX ho (l:=l1.take mm) (i:=i) (b:=b) Ll (by omega) PO hA rU (by rw[getD_take EY,getD_take him];exact aO)
  have ht:(swp l1 i b).take mm=swp (l1.take mm) i b:=LG him EY (by omega)
  exact⟨mm - b,by omega,b,_,_,q'+1,rfl,rfl,EY,by omega,h4,by rw[ht];exact g1,by omega,fun _=>by rw[ht];exact g2,fun h=>by omega⟩
end
end Go.Proofs.YtjlnnljohemifaaGreat

namespace Go.Proofs.YtjlnnljohemifaaGreat
open Go Go.Vc
section
variable {H : Hp} {n c : Nat} {C : Nat → Prop} {rv : Value} {r : Nat} {fp fa : Option Nat} {st : Int} {w : Nw} {l at_ : List Int}
theorem FV(m:gS H n c C rv r fp fa st w l at_)(hl:l.length<65536){x:Int}(hx:0≤x∧x.toNat<at_.length):af Tryz.prog pQ [ptr r,.iface 3 (i64 x)] H fun v H'=>aw (
  v= .tuple [].toArray∧∃cP,gS H' n c C rv r cP fa st w (l++[x]) (at_.set x.toNat l.length)∧ag (fun z=>fp=some z∨fa=some z∨z=r) H H'∧(cP=fp∨∃z,cP=some z∧H.size≤z)):=by
 obtain⟨av,hn,ha⟩:=m.own
 obtain⟨sv,ho,hs⟩:=m.jC
 obtain⟨y,hy⟩:∃y,at_[x.toNat]? =some y:=⟨_,aog hx.2⟩
 obtain⟨f,fc,la,rfl,rfl,hf,Ub,_,hla⟩:=Sl.at_ ha (i:=x.toNat) (x:=i64 y) (by simp[hy])
 obtain⟨g1,g2,g3⟩:=m.JG f rfl
 obtain⟨sa,sc,yf⟩:=cO.Rx hs.rd
 refine bq Cy ?_
 refine vs ?_
 refine v3 (ae ho) (ae hn) yf ?_
 refine⟨by omega,?_⟩
 refine v3 hf aok aoh ?_
 refine⟨by omega,?_⟩
 refine v1 aoh ?_
 have e1:ag (fun z=>z=f) H (H.wr f (la.set x.toNat (i64 l.length))):=(ag.refl (fun z=>z=f) _).wr (fun _=>rfl) _
 have s1:=ha.uB hf x.toNat (i64 l.length)
 have vV:=e1.own hn (Ne.symm g2)
 have Nr:=e1.own ho (Ne.symm g3)
 have eK:=hs.ext e1 (fun z hz h=>(m.xz z hz).2.2.2 (by rw[h]))
 have c1:=m.cells.ext e1 (fun z hz h=>g1 (h▸hz))
 generalize H.wr f (la.set x.toNat (i64 l.length))=H1 at*
 have e2:ag (fun _=>False) H1 (H1.new 3 [i64 x]):=(ag.refl _ _).new _ _
 refine v1 (ae ho) ?_
 refine Sl.append (eK.ext e2 (fun _ _ h=>h)) (Sl.bU (size:=1) (xs:=[i64 x]) rfl rfl).rd rfl (by intro v hv;simp only[aop]at hv;subst hv;rfl) (by omega) ?_
 intro Vz H3 cP s3 e3 fZ
 have z1:=e1.size
 have hrs:=aB Nr
 have WS:=aB vV
 have GR:ag (fun z=>fp=some z) H1 H3:=(e2.mono fun _ _ h=>h.elim).nq e3 (fun z _ h=>h)
 have MH:=GR.own Nr (fun h=>(m.xz r h).2.2.1 rfl)
 have hn3:=GR.own vV (fun h=>(m.xz n h).2.1 rfl)
 obtain⟨a',WW,OV⟩:=cO.Rx s3.rd
 subst OV
 refine v1 MH ?_
 generalize OV:Value.slice a' (l.length+1) WW=v' at*
 have e4:ag (fun z=>z=r) H3 (H3.wr r [ptr n,v']):=(ag.refl (fun z=>z=r) _).wr (fun _=>rfl) _
 have hfs:=aB hf
 have Eu:∀b,cP=some b→fp=some b∨H1.size≤b:=fun b hb=>by
  rcases fZ with h| ⟨z,h,h5,_⟩
  ·exact .inl (h▸hb)
  ·rw[h]at hb;injection hb with hb;subst hb;rw[ap]at h5;exact .inr (by omega)
 have ya:=c1.slt
 refine⟨rfl,cP,⟨⟨_,e4.own hn3 (Ne.symm m.rn),?_⟩,(c1.ext GR (fun z hz h=>(m.xz z h).1 hz)).ext e4 (fun z hz h=>m.rC (h▸hz)),⟨_,ai MH,?_⟩,m.nC,m.rC,m.rn,fun b hb=>?_,m.JG,by rw[aoq,aoz];omega⟩,
  (e1.mono fun z _ hz=>.inr (.inl (by rw[hz]))).trans ((GR.mono fun z _ hz=>.inl hz).trans (e4.mono fun z _ hz=>.inr (.inr hz))),?_⟩
 ·have:=((s1.ext GR (fun z hz h=>(m.xz z h).2.2.2 hz)).ext e4 (fun z hz h=>by injection hz with hz;exact g3 (hz.trans h)))
  rw[aoj,ao3]
  exact this
 ·have:=s3.ext e4 (fun b hb h=>by
   rcases Eu b hb with h5|h5
   ·exact(m.xz b h5).2.2.1 h
   ·omega)
  rw[aoq,aoM]
  exact this
 ·rcases Eu b hb with h5|h5
  ·exact m.xz b h5
  ·refine⟨fun h=>?_,by omega,by omega,fun h=>?_⟩
   ·have:=ya b h;omega
   ·injection h with h;omega
 ·rcases fZ with h| ⟨z,h,h5,_⟩
  ·exact .inl h
  ·exact .inr ⟨z,h,by rw[ap]at h5;omega⟩
theorem HU(m:gS H n c C rv r fp fa st w l at_)(hl:0<l.length):af Tryz.prog sJ [ptr r] H fun v H'=>aw (
  (∃x,v= .iface 3 (i64 x))∧gS H' n c C rv r fp fa st w l.dropLast at_∧ag (fun z=>z=r) H H'):=by
 obtain⟨av,hn,ha⟩:=m.own
 obtain⟨sv,ho,hs⟩:=m.jC
 have oP:=m.ll
 obtain⟨x,hx⟩:∃x,l[l.length - 1]? =some x:=⟨_,aog (by omega)⟩
 obtain⟨f,cc,lb,rfl,rfl,hb,ml,_,Dz⟩:=Sl.at_ hs (i:=l.length - 1) (x:=i64 x) (by simp[hx])
 have e1:IntKind.i64.wrap ((l.length:Int) - 1)=((l.length - 1:Nat):Int):=by rw[wrap64 (by omega) (by omega)];omega
 obtain⟨_,l2,c2,B1,g2,a5,a6,a7⟩:=id hs
 injection B1 with _ _ B1
 subst B1
 rw[hb]at g2
 injection g2 with g2
 subst g2
 refine bq D5 ?_
 simp(disch:=(first|omega| (simp only[Zs]<;>omega)|fail)) only[go_sem, ↓reduceIte,Zv,ae ho,e1,Int.toNat_natCast]
 refine⟨by omega,?_⟩
 simp(disch:=(first|omega| (simp only[Zs]<;>omega)|fail)) only[go_sem, ↓reduceIte,Zv,ae hb,ae ho,aok,ml,e1]
 refine⟨by omega,?_⟩
 have yf:Value.slice (if(cc:Int)=((0:Nat):Int)then some (⟨f,0,none⟩:Addr)else Option.map (fun(x:Addr)=>x.add (((0:Nat):Int).toNat*1)) (some (⟨f,0,none⟩:Addr))) (((l.length - 1:Nat):Int).toNat - ((0:Nat):Int).toNat) ((cc:Int).toNat - ((0:Nat):Int).toNat)= .slice (some ⟨f,0,none⟩) (l.length - 1) cc:=by
  split<;>rfl
 refine v2 (ae ho) ho ?_
 rw[yf]
 have ew:ag (fun z=>z=r) H (H.wr r [ptr n,.slice (some ⟨f,0,none⟩) (l.length - 1) cc]):=(ag.refl (fun z=>z=r) _).wr (fun _=>rfl) _
 obtain⟨d1,d2,d3,d4⟩:=m.xz f rfl
 refine⟨⟨_,rfl⟩,⟨⟨_,ew.own hn (Ne.symm m.rn),ha.ext ew (fun z hz h=>(m.JG z hz).2.2 h)⟩,m.cells.ext ew (fun z hz h=>m.rC (h▸hz)),⟨_,ai ho,?_⟩,m.nC,m.rC,m.rn,m.xz,m.JG,by rw[aoT];omega⟩,ew⟩
 refine⟨by simp,lb,cc,by rw[aoT],ew.own hb d3,by rw[aoT];omega,a6,?_⟩
 have hx7:((l.map i64).length)=l.length:=by simp
 rw[aoT,List.map_dropLast,apO,hx7,←a7,aqj]
 congr 1
 omega
theorem FW(m:gS H n c C rv r fp fa st w l at_)(vp:mG l at_)(hl:l.length<65536){x:Int}(hx:0≤x∧x.toNat<at_.length)(mE:x∉l)(RZ:cY w.cs x)(bJ:∀z∈l,cY w.cs z)(hh:eM (aQ w) 2 l):
  af Tryz.prog tj [pv r,.iface 3 (i64 x)] H fun v H'=>aw (v= .tuple [].toArray∧∃ (cP:Option Nat) (l' mq:List Int) (q:Nat),gS H' n c C rv r cP fa (min (st+q) 4611686018427387904) w l' mq∧mG l' mq∧eM (aQ w) 2 l'∧(∀z,z∈l'↔z=x∨z∈l)∧l'.length=l.length+1∧
   mq.length=at_.length∧(∀z:Int,0≤z→z≠x→z∉l→mq[z.toNat]? =at_[z.toNat]?)∧q≤kW 2 l.length∧(0<l.length→0<q)∧ag (fun z=>C z∨fp=some z∨fa=some z∨z=r) H H'∧(cP=fp∨∃z,cP=some z∧H.size≤z)):=by
 refine bq tI ?_
 refine vs ?_
 refine gO.mono (K:=fun v H'=>v= .tuple [].toArray∧∃cP,gS H' n c C rv r cP fa st w (l++[x]) (at_.set x.toNat l.length)∧ag (fun z=>fp=some z∨fa=some z∨z=r) H H'∧(cP=fp∨∃z,cP=some z∧H.size≤z)) ⟨_,_,pQ,ptr r,rfl,bD (by kernel_rfl),FV m hl hx⟩ ?_
 rintro _ H1 ⟨rfl,cP,m1,e1,iq⟩
 refine vs ?_
 refine gO.mono (K:=fun v H'=>v=i64 (l++[x]).length∧H1=H') ⟨_,_,gX,ptr r,rfl,bD (by kernel_rfl),oV m1⟩ ?_
 rintro _ _ ⟨rfl,rfl⟩
 refine vs ?_
 have aZ:(l++[x]).length=l.length+1:=by simp
 rw[show IntKind.i64.wrap (((l++[x]).length:Int) - 1)=((l.length:Nat):Int) by rw[aZ,wrap64 (by omega) (by omega)];omega]
 have afO:mG (l++[x]) (at_.set x.toNat l.length):=fun i z hz=>by
  rcases apJ i l.length with h|h|h
  ·rw[aow h]at hz
   obtain⟨a,b⟩:=vp i z hz
   have aP:x.toNat≠z.toNat:=fun e=>mE (by rw[show x=z by omega];exact aom hz)
   rw[aon aP]
   exact⟨a,b⟩
  ·subst h
   rw[aoJ (aou _),apv]at hz
   simp only[aoL,aor]at hz
   subst hz
   rw[aoo hx.2]
   exact⟨hx.1,rfl⟩
  ·rw[aoy (by omega)]at hz;cases hz
 have ht:(l++[x]).take (l++[x]).length=l++[x]:=aoO
 have OB:∀k,k<l.length→(l++[x]).getD k 0=l.getD k 0:=fun k hk=>by rw[aol,aow hk,aol]
 have OU:∀k:Nat,1≤k→k<l.length+1→pa 2 k≠l.length:=fun k h1 h2=>by have:=cG dJ h1;omega
 refine(r7 m1 afO (j:=l.length) (mm:=(l++[x]).length) (by omega) (aou _) (fun z hz=>?_) (by
  rw[ht]
  refine⟨fun k h1 h2 h3 h4=>?_,fun k h1 h2 h3 h4=>absurd h3 (OU k h1 (by omega))⟩
  have:=cG dJ h1
  rw[OB k (by omega),OB _ (by omega)]
  exact hh k h1 (by omega)) (fun k h1 h2 h3=>absurd h3 (OU k h1 (by rw[ht]at h2;omega)))).mono ?_
 ·rcases aot.1 hz with h|h
  ·exact bJ z h
  ·rw[aop]at h;rw[h];exact RZ
 rintro _ H2 ⟨rfl,l',mq,q,g,iC,hq,Vu⟩
 have EQ:=g.len
 rw[←EQ,aoO]at iC
 refine vs ?_
 refine⟨rfl,cP,l',mq,q,g.jC,g.ok,iC,fun z=>?_,by omega,by rw[g.LH,aoj],fun z hz h1 h2=>?_,hq,fun h=>Vu (by omega),(e1.mono fun z _ hz=>.inr hz).nq g.ext (fun z hzl hz=>?_),iq⟩
 ·rw[g.mem z,aot,aop]
  exact Or.comm
 ·rw[g.off z hz (fun h=>by rcases aot.1 h with h|h;exact h2 h;exact h1 (aop.1 h)),aon (by omega)]
 ·rcases hz with hz|hz|hz
  ·exact .inl hz
  ·rcases iq with h| ⟨y,h,h5⟩
   ·exact .inr (.inl (h▸hz))
   ·rw[h]at hz;injection hz with hz;omega
  ·exact .inr (.inr (.inl hz))
theorem HV(m:gS H n c C rv r fp fa st w l at_)(vp:mG l at_){i:Nat}(hi:i<l.length)(bJ:∀z∈l,cY w.cs z)(hA:dE (aQ w) 2 l i):
  af Tryz.prog ue [pv r,i64 i] H fun v H'=>aw (v= .tuple [].toArray∧∃ (l' mq:List Int) (q:Nat),nK n c C rv r fp fa st w l at_ l.length H H' l' mq q∧eM (aQ w) 2 l'∧q≤2*kW 2 ((l.length:Int) - 1)):=by
 have oP:=m.ll
 have ht:l.take l.length=l:=aoO
 refine bq uw ?_
 refine vs ?_
 refine gO.mono (K:=fun v H'=>v=i64 l.length∧H=H') ⟨_,_,gX,ptr r,rfl,bD (by kernel_rfl),oV m⟩ ?_
 rintro _ _ ⟨rfl,rfl⟩
 refine vs ?_
 refine(uP m vp hi (aou _) bJ (by rw[ht];exact hA)).mono ?_
 rintro _ H1 ⟨b,l1,HT,q1,rfl,g1,QQ,hT,hF⟩
 have sF:=g1.len
 cases b with
 |true=>
  have h:=hT rfl
  rw[←sF,aoO]at h
  refine vs ?_
  exact⟨rfl,l1,HT,q1,g1,h,by omega⟩
 |false=>
  obtain⟨e1,e2,hB⟩:=hF rfl
  subst e1 e2
  refine vs ?_
  have hm:=(kX dJ ((l1.length:Int) - 1).toNat (i:Int) ((l1.length:Int) - 1) (aou _) (by omega))
  refine(r7 g1.jC g1.ok (j:=i) (mm:=l1.length) hi (aou _) bJ (by rw[ht];exact hA) hB).mono ?_
  rintro _ H2 ⟨rfl,l2,Zd,q2,g2,iC,hq2,_⟩
  have oI:=g2.len
  rw[←oI,aoO]at iC
  refine vs ?_
  refine⟨rfl,l2,Zd,q1+q2,⟨?_,g2.ok,g2.mem,g2.len,g2.drop,g2.LH,g2.off,g1.ext.trans g2.ext⟩,iC,by omega⟩
  rw[show min (st+((q1+q2:Nat):Int)) 4611686018427387904=min (min (st+(q1:Int)) 4611686018427387904+(q2:Int)) 4611686018427387904 by omega]
  exact g2.jC
end
end Go.Proofs.YtjlnnljohemifaaGreat

namespace Go.Proofs.YtjlnnljohemifaaGreat
open Go Go.Vc
theorem eM.JH{lt lt':Int→Int→Bool}{l:List Int}(h:eM lt 2 l)(hfg:∀z∈l,∀y∈l,lt z y=lt' z y):eM lt' 2 l:=by
 intro j h1 h2
 have hp:=cG dJ h1
 have e:∀k,k<l.length→l.getD k 0∈l:=fun k hk=>by
  rw[aol,aog hk];exact List.getElem_mem hk
 rw[←hfg _ (e j h2) _ (e _ (show pa 2 j<l.length by omega))]
 exact h j h1 h2
theorem JI{l at_:List Int}(h:mG l at_){x:Int}(hx:l[l.length - 1]? =some x)(z:Int):z∈l.dropLast↔z∈l∧z≠x:=by
 have hl:=(aoi.1 hx).1
 rw[apO]
 constructor
 ·intro hz
  obtain⟨k,hk⟩:=aoR hz
  rw[aoU]at hk
  split at hk
  ·refine⟨aom hk,fun e=>?_⟩
   subst e
   have:=h.FI hk hx
   omega
  ·cases hk
 ·rintro⟨hz,aP⟩
  obtain⟨k,hk⟩:=aoR hz
  have Uc:=(aoi.1 hk).1
  have:k≠l.length - 1:=fun e=>by rw[e,hx]at hk;injection hk with hk;exact aP hk.symm
  exact aom (i:=k) (by rw[aoN (by omega)];exact hk)
theorem mG.dropLast{l at_:List Int}(h:mG l at_):mG l.dropLast at_:=fun i x hx=>by
 rw[apO,aoU]at hx
 split at hx
 ·exact h i x hx
 ·cases hx
section
variable {H : Hp} {n c : Nat} {C : Nat → Prop} {rv : Value} {r : Nat} {fp fa : Option Nat} {st : Int} {w : Nw} {l at_ : List Int}
structure Out(n c:Nat)(C:Nat→Prop)(rv:Value)(r:Nat)(fp fa:Option Nat)(st:Int)(w:Nw)(l at_:List Int)(x:Int)(H H':Hp)(l' mq:List Int)(q:Nat):Prop where
 jC:gS H' n c C rv r fp fa (min (st+q) 4611686018427387904) w l' mq
 ok:mG l' mq
 heap:eM (aQ w) 2 l'
 mem:∀z,z∈l'↔z∈l∧z≠x
 len:l'.length+1=l.length
 LH:mq.length=at_.length
 off:∀z:Int,0≤z→z∉l→mq[z.toNat]? =at_[z.toNat]?
 ext:ag (fun z=>C z∨fp=some z∨fa=some z∨z=r) H H'
theorem OW{H1:Hp}{l1 HT:List Int}{mm q:Nat}{x:Int}(h:nK n c C rv r fp fa st w l at_ mm H H1 l1 HT q)(hl:0<l.length)(hx:l1[l1.length - 1]? =some x)(hh:eM (aQ w) 2 (l1.take (l.length - 1))):
  gO Tryz.prog (pv r) "Pop" [] H1 fun v H'=>∃l' mq,Out n c C rv r fp fa st w l at_ x H H' l' mq q:=by
 have aZ:=h.len
 refine⟨_,_,sJ,ptr r,rfl,bD (by kernel_rfl),(HU h.jC (by omega)).mono ?_⟩
 rintro v H2 ⟨_,m2,e2⟩
 refine⟨l1.dropLast,HT,m2,h.ok.dropLast,?_,fun z=>by rw[JI h.ok hx z,h.mem z],by rw[aoT];omega,h.LH,h.off,(h.ext.mono fun z _ hz=>?_).trans (e2.mono fun z _ hz=>.inr (.inr (.inr hz)))⟩
 ·rw[apO,aZ];exact hh
 ·rcases hz with hz|hz|hz
  ·exact .inl hz
  ·exact .inr (.inl hz)
  ·exact .inr (.inr (.inl hz))
theorem CV(m:gS H n c C rv r fp fa st w l at_)(vp:mG l at_){i:Nat}(hi:i<l.length)(bJ:∀z∈l,cY w.cs z)(hh:eM (aQ w) 2 l):
  af Tryz.prog pO [pv r,i64 i] H fun v H'=>aw (∃ (l' mq:List Int) (q:Nat),Out n c C rv r fp fa st w l at_ (l.getD i 0) H H' l' mq q∧q≤2*kW 2 ((l.length:Int) - 1)):=by
 have oP:=m.ll
 refine bq qe ?_
 refine vs ?_
 refine gO.mono (K:=fun v H'=>v=i64 l.length∧H=H') ⟨_,_,gX,ptr r,rfl,bD (by kernel_rfl),oV m⟩ ?_
 rintro _ _ ⟨rfl,rfl⟩
 refine vs ?_
 rw[show IntKind.i64.wrap ((l.length:Int) - 1)=((l.length - 1:Nat):Int) by rw[wrap64 (by omega) (by omega)];omega]
 have h0:=nK.refl m vp l.length
 have hgi:l[i]? =some (l.getD i 0):=by rw[aol,aog hi];rfl
 refine am.dec (fun he=>?_) (fun he=>?_)
 ·refine vs ?_
  have qh:i=l.length - 1:=by omega
  refine gO.mono (OW h0 (by omega) (x:=l.getD i 0) (by rw[←qh];exact hgi) (fun j h1 h2=>by
   rw[aoW]at h2
   have:=cG dJ h1
   rw[getD_take (by omega),getD_take (by omega)]
   exact hh j h1 (by omega))) ?_
  rintro v H2 ⟨l',mq,o⟩
  refine vs ?_
  exact⟨l',mq,0,o,by omega⟩
 ·refine vs ?_
  have Et:i<l.length - 1:=by omega
  refine gO.mono (h0.swap (aou _) (i:=i) (j:=l.length - 1) hi (by omega) (by omega)) ?_
  rintro _ H1 ⟨rfl,h1⟩
  refine vs ?_
  have hg:=Bp (l:=l) (i:=i) (j:=l.length - 1) hi (by omega)
  have sF:=h1.len
  have hA1:dE (aQ w) 2 ((swp l i (l.length - 1)).take (l.length - 1)) i:=by
   have hb:=hh.but (ar w) dJ i
   refine⟨fun j h2 h3 h4 h5=>?_,fun j h2 h3 h4 h5=>?_⟩
   ·rw[aoW]at h3
    have:=cG dJ h2
    rw[getD_take (by omega),getD_take (by omega),hg,hg,if_neg (by omega),if_neg h4,if_neg (by omega),if_neg h5]
    exact hb.1 j h2 (by omega) h4 h5
   ·rw[aoW]at h3
    have:=cG dJ h2
    have:=cG dJ h5
    rw[getD_take (by omega),getD_take (by omega),hg,hg,if_neg (by omega),if_neg (by omega),if_neg (by omega),if_neg (by omega)]
    exact hb.2 j h2 (by omega) h4 h5
  have Nt:∀z∈swp l i (l.length - 1),cY w.cs z:=fun z hz=>bJ z ((h1.mem z).1 hz)
  have jY:(swp l i (l.length - 1))[l.length - 1]? =some (l.getD i 0):=by rw[mF hi (by omega),if_pos rfl];exact hgi
  have fin:∀ {H2:Hp} {l2 Zd:List Int} {q:Nat},nK n c C rv r fp fa (min (st+((0:Nat):Int)) 4611686018427387904) w (swp l i (l.length - 1)) (Bq l at_ i (l.length - 1)) (l.length - 1) H1 H2 l2 Zd q→eM (aQ w) 2 (l2.take (l.length - 1))→
    gO Tryz.prog (pv r) "Pop" [] H2 fun v H'=>∃l' mq,Out n c C rv r fp fa st w l at_ (l.getD i 0) H H' l' mq q:=by
   intro H2 l2 Zd q g iC
   have uD:=m.cells.st
   have g':nK n c C rv r fp fa st w l at_ l.length H H2 l2 Zd q:=by
    refine⟨?_,g.ok,fun z=>by rw[g.mem z,h1.mem z],g.len.trans sF,?_,g.LH.trans h1.LH,fun z hz hm=>?_,h1.ext.trans g.ext⟩
    ·have:=g.jC
     rw[show min (min (st+((0:Nat):Int)) 4611686018427387904+(q:Int)) 4611686018427387904=min (st+(q:Int)) 4611686018427387904 by omega]at this
     exact this
    ·rw[ap2 (by rw[g.len];omega),ap2 (aou _)]
    ·rw[g.off z hz (fun h=>hm ((h1.mem z).1 h))];exact h1.off z hz hm
   refine OW g' (by omega) ?_ iC
   have hd:=g.drop
   have h2:(l2.drop (l.length - 1))[0]? =((swp l i (l.length - 1)).drop (l.length - 1))[0]? :=by rw[hd]
   rw[aoV,aoV,Nat.add_zero,jY]at h2
   rw[g.len,sF]
   exact h2
  have FJ:=kX dJ ((l.length:Int) - 1).toNat (((l.length - 1:Nat):Int) - 1) ((l.length:Int) - 1) (aou _) (by omega)
  refine(uP h1.jC h1.ok (i0:=i) (mm:=l.length - 1) Et (by rw[sF];omega) Nt hA1).mono ?_
  rintro _ H2 ⟨b,l2,Zd,q1,rfl,g2,QQ,hT,hF⟩
  cases b with
  |true=>
   refine vs ?_
   refine gO.mono (fin g2 (hT rfl)) ?_
   rintro v H3 ⟨l',mq,o⟩
   refine vs ?_
   exact⟨l',mq,q1,o,by omega⟩
  |false=>
   obtain⟨e1,e2,hB⟩:=hF rfl
   subst e1 e2
   have hmi:=kX dJ (((l.length - 1:Nat):Int) - 1).toNat (i:Int) (((l.length - 1:Nat):Int) - 1) (aou _) (by omega)
   refine vs ?_
   refine(r7 g2.jC g2.ok (j:=i) (mm:=l.length - 1) Et (by rw[sF];omega) Nt hA1 hB).mono ?_
   rintro _ H3 ⟨rfl,l3,at3,q2,g3,iC,hq2,_⟩
   refine vs ?_
   have g23:nK n c C rv r fp fa (min (st+((0:Nat):Int)) 4611686018427387904) w (swp l i (l.length - 1)) (Bq l at_ i (l.length - 1)) (l.length - 1) H1 H3 l3 at3 (q1+q2):=by
    refine⟨?_,g3.ok,g3.mem,g3.len,g3.drop,g3.LH,g3.off,g2.ext.trans g3.ext⟩
    have:=g3.jC
    rw[show min (min (min (st+((0:Nat):Int)) 4611686018427387904+(q1:Int)) 4611686018427387904+(q2:Int)) 4611686018427387904=min (min (st+((0:Nat):Int)) 4611686018427387904+((q1+q2:Nat):Int)) 4611686018427387904 by omega]at this
    exact this
   refine gO.mono (fin g23 iC) ?_
   rintro v H4 ⟨l',mq,o⟩
   refine vs ?_
   exact⟨l',mq,q1+q2,o,by omega⟩
end
end Go.Proofs.YtjlnnljohemifaaGreat

namespace Go.Proofs.YtjlnnljohemifaaGreat
open Go Go.Vc
structure Pl where
 r:Nat
 fp:Option Nat
 l:List Int
def Pl.S(P:Pl)(x:Nat):Prop:=x=P.r∨P.fp=some x
def Tn:Option Pl→Value
 |none=>.pointer none
 |some P=>ptr P.r
structure mr(H:Hp)(n c:Nat)(C:Nat→Prop)(rv:Value)(fr fa:Option Nat)(st:Int)(w:Nw)(ps:List (Option Pl))(at_:List Int):Prop where
 own:∃av,H.own n=some [ptr c,rv,av]∧Sl H 1 av at_.length (at_.map i64) fa
 cells:bf H c C st w
 sl:Sl H 1 rv ps.length (ps.map Tn) fr
 jC:∀ (h:Nat) P,ps[h]? =some (some P)→∃sv,H.own P.r=some [ptr n,sv]∧Sl H 1 sv P.l.length (P.l.map i64) P.fp
 nC:¬C n
 OX:∀b,fr=some b→¬C b∧b≠n∧fa≠some b
 JG:∀b,fa=some b→¬C b∧b≠n
 pd:∀ (h:Nat) P,ps[h]? =some (some P)→∀x,P.S x→¬C x∧x≠n∧fr≠some x∧fa≠some x
 pr:∀ (h:Nat) P,ps[h]? =some (some P)→P.fp≠some P.r∧P.l.length≤65536
 pp:∀ (h h':Nat) P P',ps[h]? =some (some P)→ps[h']? =some (some P')→h≠h'→∀x,P.S x→¬P'.S x
def DB(n:Nat)(C:Nat→Prop)(fr fa:Option Nat)(ps:List (Option Pl))(z:Nat):Prop:=C z∨z=n∨fr=some z∨fa=some z∨∃ (h:Nat) (P:Pl),ps[h]? =some (some P)∧P.S z
structure FX(w:Nw)(ps:List (Option Pl))(at_:List Int):Prop where
 hl:ps.length=w.hs.length
 hs:∀h:Nat,w.hs[h]? =some true↔∃P,ps[h]? =some (some P)
 h0:ps[0]? =some none
 ok:∀ (h:Nat) P,ps[h]? =some (some P)→eM (aQ w) 2 P.l
 To:∀ (h:Nat) P,ps[h]? =some (some P)→mG P.l at_
 mem:∀ (h:Nat) P,ps[h]? =some (some P)→∀x:Int,x∈P.l↔0≤x∧∃e,w.cs[x.toNat]? =some (((h:Nat):Int),e)
 len:∀ (h:Nat) P,ps[h]? =some (some P)→(P.l.length:Int)=w.len h
 LH:at_.length=w.cs.length
def dB(H:Hp)(n:Nat)(S:Nat→Prop)(st:Int)(w:Nw):Prop:=∃c C rv fr fa ps at_,mr H n c C rv fr fa st w ps at_∧FX w ps at_∧(∀z,DB n C fr fa ps z↔S z)
section
variable {H H' : Hp} {n c : Nat} {C T : Nat → Prop} {rv : Value} {fr fa : Option Nat} {st WX : Int} {w w' : Nw} {ps : List (Option Pl)} {at_ mq : List Int} {S : Nat → Prop}
theorem mr.slt(h:mr H n c C rv fr fa st w ps at_):∀z,DB n C fr fa ps z→z<H.size:=by
 obtain⟨av,ho,ha⟩:=h.own
 rintro z (hz|rfl|hz|hz| ⟨i,P,hP,hz⟩)
 ·exact h.cells.slt z hz
 ·exact aB ho
 ·exact Sl.lt (hz▸h.sl)
 ·exact Sl.lt (hz▸ha)
 ·obtain⟨sv,h1,h2⟩:=h.jC i P hP
  rcases hz with rfl|hz
  ·exact aB h1
  ·exact Sl.lt (hz▸h2)
theorem mr.ext(h:mr H n c C rv fr fa st w ps at_)(e:ag T H H')(hd:∀z,DB n C fr fa ps z→¬T z):mr H' n c C rv fr fa st w ps at_:=by
 obtain⟨av,ho,ha⟩:=h.own
 refine⟨⟨av,e.own ho (hd n (.inr (.inl rfl))),ha.ext e (fun b hb=>hd b (.inr (.inr (.inr (.inl hb)))))⟩,h.cells.ext e (fun x hx=>hd x (.inl hx)),h.sl.ext e (fun b hb=>hd b (.inr (.inr (.inl hb)))),fun i P hP=>?_,h.nC,h.OX,h.JG,h.pd,h.pr,h.pp⟩
 obtain⟨sv,h1,h2⟩:=h.jC i P hP
 exact⟨sv,e.own h1 (hd _ (.inr (.inr (.inr (.inr ⟨i,P,hP,.inl rfl⟩))))),h2.ext e (fun b hb=>hd b (.inr (.inr (.inr (.inr ⟨i,P,hP,.inr hb⟩)))))⟩
theorem mr.aJ(h:mr H n c C rv fr fa st w ps at_)(c1:bf H' c C WX w')(e:ag C H H'):mr H' n c C rv fr fa WX w' ps at_:=by
 obtain⟨av,ho,ha⟩:=h.own
 refine⟨⟨av,e.own ho h.nC,ha.ext e (fun b hb=>(h.JG b hb).1)⟩,c1,h.sl.ext e (fun b hb=>(h.OX b hb).1),fun i P hP=>?_,h.nC,h.OX,h.JG,h.pd,h.pr,h.pp⟩
 obtain⟨sv,h1,h2⟩:=h.jC i P hP
 exact⟨sv,e.own h1 (h.pd i P hP _ (.inl rfl)).1,h2.ext e (fun b hb=>(h.pd i P hP b (.inr hb)).1)⟩
theorem dB.slt(h:dB H n S st w):∀z,S z→z<H.size:=by
 obtain⟨c,C,rv,fr,fa,ps,at_,m,l,hS⟩:=h
 exact fun z hz=>m.slt z ((hS z).2 hz)
theorem dB.ext(h:dB H n S st w)(e:ag T H H')(hd:∀z,S z→¬T z):dB H' n S st w:=by
 obtain⟨c,C,rv,fr,fa,ps,at_,m,l,hS⟩:=h
 exact⟨c,C,rv,fr,fa,ps,at_,m.ext e (fun z hz=>hd z ((hS z).1 hz)),l,hS⟩
theorem dB.fresh(h:dB H n S st w)(e:ah H H'):dB H' n S st w:=h.ext e fun _ _ h=>h
theorem mr.Nu(m:mr H n c C rv fr fa st w ps at_){g:Nat}{P:Pl}(hP:ps[g]? =some (some P)):gS H n c C rv P.r P.fp fa st w P.l at_:=by
 have hd:=m.pd g P hP
 refine⟨m.own,m.cells,m.jC g P hP,m.nC,(hd P.r (.inl rfl)).1,(hd P.r (.inl rfl)).2.1,fun b hb=>⟨(hd b (.inr hb)).1,(hd b (.inr hb)).2.1,fun h=>(m.pr g P hP).1 (by rw[hb,h]),(hd b (.inr hb)).2.2.2⟩,fun b hb=>⟨(m.JG b hb).1,(m.JG b hb).2,fun h=>(hd P.r (.inl rfl)).2.2.2 (by rw[hb,h])⟩,(m.pr g P hP).2⟩
theorem mr.JJ(m:mr H n c C rv fr fa st w ps at_){g:Nat}{P P':Pl}(hP:ps[g]? =some (some P))(hr:P'.r=P.r)(pm:gS H' n c C rv P'.r P'.fp fa WX w' P'.l mq)(fZ:P'.fp=P.fp∨∃z,P'.fp=some z∧H.size≤z)
  (e:ag T H H')(hT:∀z,T z→C z∨P.S z∨fa=some z):mr H' n c C rv fr fa WX w' (ps.set g (some P')) mq:=by
 have eT:=m.slt
 have hg:=(aoi.1 hP).1
 have hPS:∀x,P'.S x→P.S x∨H.size≤x:=fun x hx=>by
  rcases hx with rfl|hx
  ·exact .inl (.inl hr)
  ·rcases fZ with h| ⟨z,h,h5⟩
   ·exact .inl (.inr (h▸hx))
   ·rw[h]at hx;injection hx with hx;exact .inr (by omega)
 have cd:∀ (h:Nat) Q,(ps.set g (some P'))[h]? =some (some Q)→(h=g∧Q=P')∨(h≠g∧ps[h]? =some (some Q)):=fun h Q hQ=>by
  by_cases hh:h=g
  ·subst hh
   rw[aoo hg]at hQ
   simp only[aor]at hQ
   exact .inl ⟨rfl,hQ.symm⟩
  ·rw[aon (Ne.symm hh)]at hQ
   exact .inr ⟨hh,hQ⟩
 have hd:=m.pd g P hP
 refine⟨pm.own,pm.cells,?_,fun h Q hQ=>?_,m.nC,m.OX,m.JG,fun h Q hQ x hx=>?_,fun h Q hQ=>?_,fun h h' Q Q' hQ hQ' aP x hx xt=>?_⟩
 ·have h1:(ps.set g (some P')).map Tn=ps.map Tn:=by
   rw[ao3]
   refine ao7 fun i=>?_
   by_cases hi:i=g
   ·subst hi
    rw[aoo (by rw[aoE];exact hg),aoF,hP]
    simp[Tn,hr]
   ·rw[aon (Ne.symm hi)]
  rw[h1,aoj]
  exact m.sl.ext e (fun b hb ht=>by
   rcases hT b ht with h|h|h
   ·exact(m.OX b hb).1 h
   ·exact(hd b h).2.2.1 hb
   ·exact(m.OX b hb).2.2 h)
 ·rcases cd h Q hQ with ⟨rfl,rfl⟩| ⟨h1,h2⟩
  ·exact pm.jC
  ·obtain⟨sv,q1,q2⟩:=m.jC h Q h2
   have bO:∀x,Q.S x→¬T x:=fun x hx ht=>by
    rcases hT x ht with h3|h3|h3
    ·exact(m.pd h Q h2 x hx).1 h3
    ·exact m.pp h g Q P h2 hP h1 x hx h3
    ·exact(m.pd h Q h2 x hx).2.2.2 h3
   exact⟨sv,e.own q1 (bO _ (.inl rfl)),q2.ext e (fun b hb=>bO b (.inr hb))⟩
 ·rcases cd h Q hQ with ⟨rfl,rfl⟩| ⟨h1,h2⟩
  ·rcases hPS x hx with h3|h3
   ·exact hd x h3
   ·refine⟨fun hc=>?_,fun hc=>?_,fun hc=>?_,fun hc=>?_⟩
    ·have:=eT x (.inl hc);omega
    ·have:=eT n (.inr (.inl rfl));omega
    ·have:=eT x (.inr (.inr (.inl hc)));omega
    ·have:=eT x (.inr (.inr (.inr (.inl hc))));omega
  ·exact m.pd h Q h2 x hx
 ·rcases cd h Q hQ with ⟨rfl,rfl⟩| ⟨h1,h2⟩
  ·refine⟨fun hc=>?_,pm.ll⟩
   exact(pm.xz _ hc).2.2.1 rfl
  ·exact m.pr h Q h2
 ·rcases cd h Q hQ with ⟨rfl,rfl⟩| ⟨h1,h2⟩
  ·rcases cd h' Q' hQ' with ⟨rfl,rfl⟩| ⟨h3,h4⟩
   ·exact aP rfl
   ·rcases hPS x hx with h5|h5
    ·exact m.pp _ h' P Q' hP h4 aP x h5 xt
    ·have:=eT x (.inr (.inr (.inr (.inr ⟨h',Q',h4,xt⟩))));omega
  ·rcases cd h' Q' hQ' with ⟨rfl,rfl⟩| ⟨h3,h4⟩
   ·rcases hPS x xt with h5|h5
    ·exact m.pp h _ Q P h2 hP aP x hx h5
    ·have:=eT x (.inr (.inr (.inr (.inr ⟨h,Q,h2,hx⟩))));omega
   ·exact m.pp h h' Q Q' h2 h4 aP x hx xt
theorem mr.atp(m:mr H n c C rv fr fa st w ps at_){i:Nat}{o:Option Pl}(h:ps[i]? =some o):∃f cc lb,rv= .slice (some ⟨f,0,none⟩) ps.length cc∧fr=some f∧H.own f=some lb∧lb[i]? =some (Tn o)∧i<ps.length:=by
 obtain⟨b,cc,lb,h1,h2,h3,h4,h5,_⟩:=Sl.at_ m.sl (i:=i) (x:=Tn o) (by simp[h])
 exact⟨b,cc,lb,h1,h2,h3,h4,h5⟩
theorem FX.fk(l:FX w ps at_){g:Int}(h:w.has g):∃P,ps[g.toNat]? =some (some P):=(l.hs g.toNat).1 h.2
end
theorem HW(cap:Int)(H:Hp):af Tryz.prog MT [i64 cap] H fun v H'=>aw (
  ah H H'∧((¬ (0≤cap∧cap≤65536)∧v= .tuple [.pointer none,i64 31].toArray)∨
   ((0≤cap∧cap≤65536)∧∃n S,v= .tuple [ptr n,i64 0].toArray∧dB H' n S 0 ⟨[false],List.replicate cap.toNat (0,0,0)⟩∧∀x,S x→H.size≤x))):=by
 refine bq MY ?_
 refine vs ?_
 refine(lG cap H).mono ?_
 rintro _ H1 ⟨f1,⟨hb,rfl⟩| ⟨hb,c,C,rfl,c1,hC⟩⟩
 ·refine vs ?_
  exact⟨f1,.inl ⟨hb,rfl⟩⟩
 refine v1 aoY ?_
 refine⟨by omega,?_⟩
 refine vs ?_
 have afT:∀k:Nat,cE [Value.int .i64 0] k=(List.replicate k (0:Int)).map i64:=fun k=>by
  induction k with
  |zero=>rfl
  |succ k ih=>simp only[cE,aoX,apb,ao5]at*;rw[ih];rfl
 rw[afT]
 have ya:=c1.slt
 have z1:=f1.size
 have f3:ah H1 (((H1.new 370 [.pointer none]).new 3 ((List.replicate cap.toNat (0:Int)).map i64)).new 285 [ptr c,.slice (some ⟨H1.size,0,none⟩) 1 1,.slice (some ⟨H1.size+1,0,none⟩) cap.toNat cap.toNat]):=(((ag.refl _ _).new _ _).new _ _).new _ _
 have e2:ag (fun _=>False) ((H1.new 370 [.pointer none]).new 3 ((List.replicate cap.toNat (0:Int)).map i64)) (((H1.new 370 [.pointer none]).new 3 ((List.replicate cap.toNat (0:Int)).map i64)).new 285 [ptr c,.slice (some ⟨H1.size,0,none⟩) 1 1,.slice (some ⟨H1.size+1,0,none⟩) cap.toNat cap.toNat]):=(ag.refl _ _).new _ _
 have e1:ag (fun _=>False) (H1.new 370 [.pointer none]) ((H1.new 370 [.pointer none]).new 3 ((List.replicate cap.toNat (0:Int)).map i64)):=(ag.refl _ _).new _ _
 have bO:∀ (h:Nat) (P:Pl),([none]:List (Option Pl))[h]? ≠some (some P):=fun h P hP=>by rcases h with _|h<;>simp at hP
 refine⟨f1.trans f3,.inr ⟨hb,H1.size+1+1,DB (H1.size+1+1) C (some H1.size) (some (H1.size+1)) [none],rfl,⟨c,C,_,some H1.size,some (H1.size+1),[none],List.replicate cap.toNat 0,
  ⟨⟨_,aT (by simp only[ap]),?_⟩,c1.fresh f3,?_,fun h P hP=>absurd hP (bO h P),fun h=>by have:=ya _ h;omega,fun b hb=>?_,fun b hb=>?_,fun h P hP=>absurd hP (bO h P),fun h P hP=>absurd hP (bO h P),fun h h' P P' hP=>absurd hP (bO h P)⟩,
  ⟨rfl,fun h=>?_,rfl,fun h P hP=>absurd hP (bO h P),fun h P hP=>absurd hP (bO h P),fun h P hP=>absurd hP (bO h P),fun h P hP=>absurd hP (bO h P),by simp⟩,fun z=>Iff.rfl⟩,fun x hx=>?_⟩⟩
 ·rw[ao2]
  exact(Sl.bU (size:=1) (n:=cap.toNat) (xs:=(List.replicate cap.toNat (0:Int)).map i64) (by simp) (by simp only[ap])).ext e2 (fun _ _ h=>h)
 ·exact((Sl.bU (size:=1) (n:=1) (xs:=[.pointer none]) rfl rfl).ext e1 (fun _ _ h=>h)).ext e2 (fun _ _ h=>h)
 ·injection hb with hb
  subst hb
  exact⟨fun h=>by have:=ya _ h;omega,by omega,fun h=>by injection h with h;omega⟩
 ·injection hb with hb
  subst hb
  exact⟨fun h=>by have:=ya _ h;omega,by omega⟩
 ·rcases h with _|h<;>simp
 ·rcases hx with hx|rfl|hx|hx| ⟨i,P,hP,hx⟩
  ·exact hC x hx
  ·omega
  ·injection hx with hx;omega
  ·injection hx with hx;omega
  ·exact absurd hP (bO i P)
theorem FY{H:Hp}{n:Nat}{S:Nat→Prop}{st:Int}{w:Nw}(h:dB H n S st w):af Tryz.prog pN [ptr n] H fun v H'=>aw (
  (w.hs.length=65537∧v=i64 0∧H=H')∨
  (w.hs.length≠65537∧v=i64 w.hs.length∧∃S',dB H' n S' st w.make∧ag S H H'∧∀x,S' x→S x∨H.size≤x)):=by
 obtain⟨c,C,rv,fr,fa,ps,at_,m,l,hS⟩:=h
 obtain⟨av,ho,ha⟩:=m.own
 refine bq Cw ?_
 refine v1 (ae ho) ?_
 refine(j0 m.cells).mono ?_
 rintro _ H1 (⟨h1,rfl,rfl⟩| ⟨h1,rfl,C',c1,e1,zE⟩)
 ·refine vs ?_
  exact .inl ⟨h1,rfl,rfl⟩
 have gh:0<ps.length:=(aoi.1 l.h0).1
 have oP:=l.hl
 have o1:=e1.own ho m.nC
 refine vs ?_
 refine am.cQ (aov (by omega)) ?_
 refine v1 (ae o1) ?_
 have z6:=m.cells.z6
 have eT:=m.slt
 have R0:=c1.slt
 have z1:=e1.size
 have e2:ag (fun _=>False) H1 (H1.new 374 [ptr n,.slice none 0 0]):=(ag.refl _ _).new _ _
 have hq2:(H1.new 374 [ptr n,.slice none 0 0]).own H1.size=some [ptr n,.slice none 0 0]:=az _ _ _
 have z2:(H1.new 374 [ptr n,.slice none 0 0]).size=H1.size+1:=by simp only[ap]
 generalize (H1.new 374 [ptr n,.slice none 0 0])=H2 at*
 have e0:ag (fun _=>False) H2 (H2.new 370 [ptr H1.size]):=(ag.refl _ _).new _ _
 have IJ:=(m.sl.ext e1 (fun b hb h=>(m.OX b hb).1 h)).ext e2 (fun _ _ h=>h)
 have o2:=e2.own o1 (fun h=>h)
 refine Sl.append (IJ.ext e0 (fun _ _ h=>h)) (Sl.bU (size:=1) (n:=1) (xs:=[ptr H1.size]) rfl z2.symm).rd rfl (by intro v hv;simp only[aop]at hv;subst hv;rfl) (by omega) ?_
 intro v' H3 fr' s3 e3 Wu
 have Nv:ag (fun z=>fr=some z) H2 H3:=(e0.mono fun _ _ h=>h.elim).nq e3 (fun z _ h=>h)
 have o3:=Nv.own o2 (fun h=>(m.OX n h).2.1 rfl)
 obtain⟨a',WW,OV⟩:=cO.Rx s3.rd
 subst OV
 refine v1 o3 ?_
 generalize OV:Value.slice a' (ps.length+1) WW=v' at*
 have e4:ag (fun z=>z=n) H3 (H3.wr n [ptr c,v',av]):=(ag.refl (fun z=>z=n) _).wr (fun _=>rfl) _
 have hn:=aB ho
 have Ud:∀b,fr=some b→b<H.size:=fun b hb=>eT b (.inr (.inr (.inl hb)))
 have WY:∀b,fa=some b→b<H.size:=fun b hb=>eT b (.inr (.inr (.inr (.inl hb))))
 have Nx:∀b,fr'=some b→fr=some b∨H2.size≤b:=fun b hb=>by
  rcases Wu with h| ⟨z,h,h5,_⟩
  ·exact .inl (h▸hb)
  ·rw[h]at hb;injection hb with hb;subst hb;rw[ap]at h5;exact .inr (by omega)
 have cd:∀ (h:Nat) P,(ps++[some (⟨H1.size,none,[]⟩:Pl)])[h]? =some (some P)→ps[h]? =some (some P)∨(h=ps.length∧P=⟨H1.size,none,[]⟩):=fun h P hP=>by
  rcases apJ h ps.length with h5|h5|h5
  ·rw[aow h5]at hP;exact .inl hP
  ·subst h5
   rw[aoJ (aou _),apv]at hP
   simp only[aoL,aor]at hP
   exact .inr ⟨rfl,hP.symm⟩
  ·rw[aoy (by rw[aoq,aoz];omega)]at hP
   cases hP
 have hold:∀ (h:Nat) P,ps[h]? =some (some P)→∀x,P.S x→x<H.size:=fun h P hP x hx=>eT x (.inr (.inr (.inr (.inr ⟨h,P,hP,hx⟩))))
 have r9:∀x,(⟨H1.size,none,[]⟩:Pl).S x→x=H1.size:=fun x hx=>by rcases hx with h|h;exact h;cases h
 have Jc:∀ (x:Nat) (e:Int×Int),w.cs[x]? ≠some (((ps.length:Nat):Int),e):=fun x e hx=>by
  have:=(m.cells.home _ (aom hx)).2
  simp only at this
  omega
 refine .inr ⟨h1,rfl,DB n C' fr' fa (ps++[some ⟨H1.size,none,[]⟩]),⟨c,C',v',fr',fa,ps++[some ⟨H1.size,none,[]⟩],at_,
  ⟨⟨av,ai o3,?_⟩,?_,?_,fun h P hP=>?_,fun h=>?_,fun b hb=>⟨fun h=>?_,?_,fun h=>?_⟩,fun b hb=>⟨fun h=>?_,(m.JG b hb).2⟩,fun h P hP x hx=>⟨fun h=>?_,?_,fun h=>?_,fun h=>?_⟩,fun h P hP=>?_,fun h h' P P' hP hP' aP x hx xt=>?_⟩,
  ⟨?_,fun h=>?_,?_,fun h P hP=>?_,fun h P hP=>?_,fun h P hP x=>?_,fun h P hP=>?_,l.LH⟩,fun z=>Iff.rfl⟩,?_,fun x hx=>?_⟩
 ·exact(((ha.ext e1 (fun b hb h=>(m.JG b hb).1 h)).ext e2 (fun _ _ h=>h)).ext Nv (fun b hb h=>(m.OX b h).2.2 hb)).ext e4 (fun b hb h=>(m.JG b hb).2 h)
 ·exact((c1.ext e2 (fun _ _ h=>h)).ext Nv (fun x hx e=>by
   rcases zE x hx with h|h
   ·exact(m.OX x e).1 h
   ·have:=Ud x e;omega)).ext e4 (fun x hx e=>by
   rcases zE x hx with h|h
   ·exact m.nC (e▸h)
   ·omega)
 ·have:=s3.ext e4 (fun b hb e=>by
   rcases Nx b hb with h|h
   ·exact(m.OX b h).2.1 e
   ·omega)
  rw[aoq,aoM]
  exact this
 ·rcases cd h P hP with h5| ⟨rfl,rfl⟩
  ·obtain⟨sv,q1,q2⟩:=m.jC h P h5
   have hd:=m.pd h P h5
   exact⟨sv,e4.own (Nv.own (e2.own (e1.own q1 (hd _ (.inl rfl)).1) (fun h=>h)) (hd _ (.inl rfl)).2.2.1) (hd _ (.inl rfl)).2.1,
    (((q2.ext e1 (fun b hb=>(hd b (.inr hb)).1)).ext e2 (fun _ _ h=>h)).ext Nv (fun b hb=>(hd b (.inr hb)).2.2.1)).ext e4 (fun b hb=>(hd b (.inr hb)).2.1)⟩
  ·exact⟨_,e4.own (Nv.own hq2 (fun e=>by have:=Ud H1.size e;omega)) (fun e=>by have h9:H1.size=n:=e;omega),Sl.nil _ _⟩
 ·rcases zE n h with h|h
  ·exact m.nC h
  ·omega
 ·rcases Nx b hb with h5|h5
  ·rcases zE b h with h6|h6
   ·exact(m.OX b h5).1 h6
   ·have:=Ud b h5;omega
  ·have:=R0 b h;omega
 ·rcases Nx b hb with h|h
  ·exact(m.OX b h).2.1
  ·omega
 ·rcases Nx b hb with h5|h5
  ·exact(m.OX b h5).2.2 h
  ·have:=WY b h;omega
 ·rcases zE b h with h6|h6
  ·exact(m.JG b hb).1 h6
  ·have:=WY b hb;omega
 ·rcases cd _ P hP with h5| ⟨_,rfl⟩
  ·rcases zE x h with h6|h6
   ·exact(m.pd _ P h5 x hx).1 h6
   ·have:=hold _ P h5 x hx;omega
  ·have:=r9 x hx;have:=R0 x h;omega
 ·rcases cd _ P hP with h5| ⟨_,rfl⟩
  ·exact(m.pd _ P h5 x hx).2.1
  ·have:=r9 x hx;omega
 ·rcases cd _ P hP with h5| ⟨_,rfl⟩
  ·rcases Nx x h with h6|h6
   ·exact(m.pd _ P h5 x hx).2.2.1 h6
   ·have:=hold _ P h5 x hx;omega
  ·have:=r9 x hx
   rcases Nx x h with h6|h6
   ·have:=Ud x h6;omega
   ·omega
 ·rcases cd _ P hP with h5| ⟨_,rfl⟩
  ·exact(m.pd _ P h5 x hx).2.2.2 h
  ·have:=r9 x hx;have:=WY x h;omega
 ·rcases cd h P hP with h5| ⟨_,rfl⟩
  ·exact m.pr h P h5
  ·exact⟨(fun h=>by cases h),by simp⟩
 ·rcases cd _ P hP with h5| ⟨h5,rfl⟩
  ·rcases cd _ P' hP' with h6| ⟨h6,rfl⟩
   ·exact m.pp h h' P P' h5 h6 aP x hx xt
   ·have:=r9 x xt;have:=hold _ P h5 x hx;omega
  ·rcases cd _ P' hP' with h6| ⟨h6,rfl⟩
   ·have:=r9 x hx;have:=hold _ P' h6 x xt;omega
   ·omega
 ·simp[Nw.make,oP]
 ·show(w.hs++[true])[h]? =some true↔_
  rcases apJ h ps.length with h5|h5|h5
  ·rw[aow h5,aow (by omega)]
   exact l.hs h
  ·subst h5
   rw[aoJ (aou _),aoJ (by omega),apv,oP,apv]
   simp
  ·rw[aoy (by rw[aoq,aoz];omega),aoy (by rw[aoq,aoz];omega)]
   simp
 ·rw[aow gh];exact l.h0
 ·rcases cd h P hP with h5| ⟨rfl,rfl⟩
  ·exact l.ok h P h5
  ·exact fun j _ hj=>by simp at hj
 ·rcases cd h P hP with h5| ⟨rfl,rfl⟩
  ·exact l.To h P h5
  ·exact fun i x hx=>by simp at hx
 ·rcases cd h P hP with h5| ⟨rfl,rfl⟩
  ·exact l.mem h P h5 x
  ·simp only[aql,false_iff]
   rintro⟨_,e,he⟩
   exact Jc _ _ he
 ·rcases cd h P hP with h5| ⟨rfl,rfl⟩
  ·exact l.len h P h5
  ·show((0:Nat):Int)=w.len _
   unfold Nw.len
   rw[if_pos (by omega),apL.2 (fun x hx=>by
    have:=(m.cells.home x hx).2
    simp only[aoK]
    omega)]
 ·exact((e1.mono fun z _ hz=>(hS z).1 (.inl hz)).trans ((e2.mono fun _ _ h=>h.elim).trans (Nv.mono fun z _ hz=>(hS z).1 (.inr (.inr (.inl hz)))))).trans (e4.mono fun z _ hz=>(hS z).1 (.inr (.inl hz)))
 ·rcases hx with hx|rfl|hx|hx| ⟨i,P,hP,hx⟩
  ·rcases zE x hx with h|h
   ·exact .inl ((hS x).1 (.inl h))
   ·exact .inr h
  ·exact .inl ((hS x).1 (.inr (.inl rfl)))
  ·rcases Nx x hx with h|h
   ·exact .inl ((hS x).1 (.inr (.inr (.inl h))))
   ·exact .inr (by omega)
  ·exact .inl ((hS x).1 (.inr (.inr (.inr (.inl hx)))))
  ·rcases cd i P hP with h5| ⟨_,rfl⟩
   ·exact .inl ((hS x).1 (.inr (.inr (.inr (.inr ⟨i,P,h5,hx⟩)))))
   ·have:=r9 x hx;exact .inr (by omega)
end Go.Proofs.YtjlnnljohemifaaGreat

namespace Go.Proofs.YtjlnnljohemifaaGreat
open Go Go.Vc
theorem mG.WZ{l at_ mq:List Int}(h:mG l at_)(ho:∀z∈l,0≤z→mq[z.toNat]? =at_[z.toNat]?):mG l mq:=fun i x hx=>by
 obtain⟨a,b⟩:=h i x hx
 exact⟨a,by rw[ho x (aom hx) a];exact b⟩
theorem gL{ps:List (Option Pl)}{g:Nat}{P':Pl}(hg:g<ps.length){h:Nat}{Q:Pl}(hQ:(ps.set g (some P'))[h]? =some (some Q)):(h=g∧Q=P')∨(h≠g∧ps[h]? =some (some Q)):=by
 by_cases hh:h=g
 ·subst hh
  rw[aoo hg]at hQ
  simp only[aor]at hQ
  exact .inl ⟨rfl,hQ.symm⟩
 ·rw[aon (Ne.symm hh)]at hQ
  exact .inr ⟨hh,hQ⟩
theorem FX.apart{w:Nw}{ps:List (Option Pl)}{at_:List Int}(l:FX w ps at_){h h':Nat}{P Q:Pl}(hP:ps[h]? =some (some P))(hQ:ps[h']? =some (some Q))(aP:h≠h'){z:Int}(hz:z∈P.l):z∉Q.l:=fun hz'=>by
 obtain⟨_,e1,h1⟩:=(l.mem h P hP z).1 hz
 obtain⟨_,e2,h2⟩:=(l.mem h' Q hQ z).1 hz'
 rw[h1]at h2
 injection h2 with h2
 injection h2 with h2 _
 omega
theorem FX.pos{w:Nw}{ps:List (Option Pl)}{at_:List Int}(l:FX w ps at_){h:Nat}{P:Pl}(hP:ps[h]? =some (some P)):0<h:=by
 rcases ap4 h with hi|hi
 ·subst hi;rw[l.h0]at hP;cases hP
 ·exact hi
theorem CW{H:Hp}{n:Nat}{S:Nat→Prop}{st:Int}{w:Nw}(h:dB H n S st w)(g x k s:Int):af Tryz.prog mZ [ptr n,i64 g,i64 x,tK k s] H fun v H'=>aw (
  (¬ (w.has g∧(0≤x∧x<w.cs.length)∧¬cY w.cs x)∧v= .bool false∧dB H' n S st w∧ag S H H')∨
  ((w.has g∧(0≤x∧x<w.cs.length)∧¬cY w.cs x)∧v= .bool true∧∃ (S':Nat→Prop) (q:Nat),(q:Int)≤kW 2 (w.len g)∧(0<w.len g→0<q)∧dB H' n S' (min (st+q) 4611686018427387904) (w.put x (g,k,s))∧ag S H H'∧∀z,S' z→S z∨H.size≤z)):=by
 obtain⟨c,C,rv,fr,fa,ps,at_,m,l,hS⟩:=h
 refine bq zu ?_
 refine vs ?_
 have f0:ah H (H.new 224 [i64 k,u64 s]):=(ag.refl _ _).new _ _
 have b0:(H.new 224 [i64 k,u64 s]).own H.size=some [i64 k,u64 s]:=az _ _ _
 have m0:=m.ext f0 (fun _ _ h=>h)
 generalize H.new 224 [i64 k,u64 s]=H0 at*
 obtain⟨av,HS,TY⟩:=m0.own
 refine v2 (ae HS) (ae b0) ?_
 refine(lH m0.cells g x k s).mono ?_
 rintro _ H1 (⟨bO,rfl,c1,e1⟩| ⟨qv,rfl,c1,e1⟩)
 ·refine vs ?_
  exact .inl ⟨bO,rfl,⟨c,C,rv,fr,fa,ps,at_,m0.aJ c1 e1,l,hS⟩,(f0.mono fun _ _ h=>h.elim).trans (e1.mono fun z _ hz=>(hS z).1 (.inl hz))⟩
 obtain⟨hh,⟨gf,jY⟩,bJ⟩:=id qv
 obtain⟨P,hP⟩:=l.fk hh
 have h1:=hh.1
 have z7:((g.toNat:Nat):Int)=g:=by omega
 have bK:=l.mem _ P hP
 have aZ:=l.len _ P hP
 rw[z7]at bK aZ
 obtain⟨c0,kD⟩:∃c0,w.cs[x.toNat]? =some c0:=⟨_,aog (by omega)⟩
 have vB:¬0<c0.1:=fun h=>bJ ⟨gf,c0,kD,h⟩
 have cN:(w.put x (g,k,s)).cs[x.toNat]? =some (g,k,s):=aoo (by omega)
 have lh:∀y:Nat,y≠x.toNat→(w.put x (g,k,s)).cs[y]? =w.cs[y]? :=fun y hy=>aon (Ne.symm hy)
 have PW:∀ (i:Nat) Q,ps[i]? =some (some Q)→x∉Q.l:=fun i Q hQ hm=>by
  obtain⟨_,e,he⟩:=(l.mem i Q hQ x).1 hm
  rw[kD]at he
  injection he with he
  subst he
  have:=l.pos hQ
  exact vB (by simp only;omega)
 have aP:∀ (i:Nat) Q,ps[i]? =some (some Q)→∀y∈Q.l,0≤y∧y.toNat≠x.toNat:=fun i Q hQ y hy=>by
  have h2:=((l.mem i Q hQ y).1 hy).1
  exact⟨h2,fun e=>PW i Q hQ (by rw[show x=y by omega];exact hy)⟩
 have W1:∀ (i:Nat) Q,ps[i]? =some (some Q)→eM (aQ (w.put x (g,k,s))) 2 Q.l:=fun i Q hQ=>
  (l.ok i Q hQ).JH fun z hz y hy=>(hX w x _ (aP i Q hQ z hz).2 (aP i Q hQ y hy).2).symm
 have FZ:∀z∈P.l,cY (w.put x (g,k,s)).cs z:=fun z hz=>by
  obtain⟨z0,e,he⟩:=(bK z).1 hz
  exact⟨z0,_,by rw[lh _ (aP _ P hP z hz).2];exact he,by simp only;omega⟩
 have W2:cY (w.put x (g,k,s)).cs x:=⟨gf,_,cN,by simp only;omega⟩
 have hlp:(w.put x (g,k,s)).len g=w.len g+1:=by rw[Nw.gm kD g,if_neg (fun hc=>by omega),if_pos ⟨by omega,rfl⟩];omega
 have nT:=m.cells.Ee
 have oP:P.l.length<65536:=by
  have:=((w.put x (g,k,s)).zy g).2
  have h5:(w.put x (g,k,s)).cs.length=w.cs.length:=aoj ..
  omega
 have m1:=m0.aJ c1 e1
 obtain⟨av1,Nr,_⟩:=m1.own
 obtain⟨f,cc,lb,rfl,rfl,hf,Ub,dk⟩:=m1.atp hP
 refine v1 (ae Nr) ?_
 refine⟨by omega,?_⟩
 simp(disch:=(first|omega| (simp only[Zs]<;>omega)|fail)) only[go_sem, ↓reduceIte,Zv,ae hf,aok,Ub,Tn]
 refine(FW (m1.Nu hP) (l.To _ P hP) oP ⟨gf,by rw[l.LH];omega⟩ (PW _ P hP) W2 FZ (W1 _ P hP)).mono ?_
 rintro _ H2 ⟨rfl,cP,l',mq,q,pm,afV,iC,aa2,aig,afW,W3,hq,Vu,e2,iq⟩
 refine vs ?_
 have z0:=f0.size
 have z1:=e1.size
 have hT:∀z,(C z∨P.fp=some z∨fa=some z∨z=P.r)→C z∨P.S z∨fa=some z:=fun z hz=>by
  rcases hz with hz|hz|hz|hz
  ·exact .inl hz
  ·exact .inr (.inl (.inr hz))
  ·exact .inr (.inr hz)
  ·exact .inr (.inl (.inl hz))
 have nR:∀z,(C z∨P.fp=some z∨fa=some z∨z=P.r)→S z:=fun z hz=>(hS z).1 (by
  rcases hT z hz with hz|hz|hz
  ·exact .inl hz
  ·exact .inr (.inr (.inr (.inr ⟨_,P,hP,hz⟩)))
  ·exact .inr (.inr (.inr (.inl hz))))
 refine .inr ⟨qv,rfl,DB n C (some f) fa (ps.set g.toNat (some ⟨P.r,cP,l'⟩)),q,by rw[←aZ];exact Int.ofNat_le.2 hq,fun h=>Vu (by omega),
  ⟨c,C,_,some f,fa,_,mq,m1.JJ hP (P':=⟨P.r,cP,l'⟩) rfl pm iq e2 hT,
   ⟨by rw[aoj];exact l.hl,fun h=>?_,?_,fun h Q hQ=>?_,fun h Q hQ=>?_,fun h Q hQ y=>?_,fun h Q hQ=>?_,?_⟩,fun z=>Iff.rfl⟩,?_,fun z hz=>?_⟩
 ·show w.hs[h]? =some true↔_
  rw[l.hs h]
  by_cases LI:h=g.toNat
  ·subst LI
   rw[aoo dk]
   exact⟨fun _=>⟨_,rfl⟩,fun _=>⟨P,hP⟩⟩
  ·rw[aon (Ne.symm LI)]
 ·rw[aon (by omega)];exact l.h0
 ·rcases gL dk hQ with ⟨rfl,rfl⟩| ⟨h5,h6⟩
  ·exact iC
  ·exact W1 h Q h6
 ·rcases gL dk hQ with ⟨rfl,rfl⟩| ⟨h5,h6⟩
  ·exact afV
  ·exact(l.To h Q h6).WZ fun z hz z0=>W3 z z0 (fun e=>PW h Q h6 (e▸hz)) (l.apart h6 hP h5 hz)
 ·rcases gL dk hQ with ⟨rfl,rfl⟩| ⟨h5,h6⟩
  ·rw[z7]
   show y∈l'↔_
   rw[aa2 y]
   constructor
   ·rintro(rfl|hy)
    ·exact⟨gf,_,cN⟩
    ·obtain⟨y0,e,he⟩:=(bK y).1 hy
     exact⟨y0,e,by rw[lh _ (aP _ P hP y hy).2];exact he⟩
   ·rintro⟨y0,e,he⟩
    by_cases mM:y.toNat=x.toNat
    ·exact .inl (by omega)
    ·rw[lh _ mM]at he
     exact .inr ((bK y).2 ⟨y0,e,he⟩)
  ·rw[l.mem h Q h6 y]
   by_cases mM:y.toNat=x.toNat
   ·rw[mM,cN,kD]
    constructor
    ·rintro⟨y0,e,he⟩
     injection he with he
     subst he
     have:=l.pos h6
     exact absurd (show(0:Int)< ((h:Nat):Int) by omega) vB
    ·rintro⟨y0,e,he⟩
     injection he with he
     injection he with W4 he2
     omega
   ·rw[lh _ mM]
 ·rcases gL dk hQ with ⟨rfl,rfl⟩| ⟨h5,h6⟩
  ·rw[z7,hlp]
   show(l'.length:Int)=_
   omega
  ·rw[l.len h Q h6,Nw.gm kD h,if_neg (fun hc=>by omega),if_neg (fun hc=>by omega)]
   omega
 ·rw[afW,l.LH];exact(aoj ..).symm
 ·exact(f0.mono fun _ _ h=>h.elim).trans ((e1.mono fun z _ hz=>nR z (.inl hz)).trans (e2.mono fun z _ hz=>nR z hz))
 ·rcases hz with hz|rfl|hz|hz| ⟨i,Q,hQ,hz⟩
  ·exact .inl (nR z (.inl hz))
  ·exact .inl ((hS z).1 (.inr (.inl rfl)))
  ·exact .inl ((hS z).1 (.inr (.inr (.inl hz))))
  ·exact .inl (nR z (.inr (.inr (.inl hz))))
  ·rcases gL dk hQ with ⟨rfl,rfl⟩| ⟨h5,h6⟩
   ·rcases hz with rfl|hz
    ·exact .inl (nR _ (.inr (.inr (.inr rfl))))
    ·rcases iq with h| ⟨y,h,h7⟩
     ·exact .inl (nR z (.inr (.inl (h▸hz))))
     ·simp only at hz
      rw[h]at hz;injection hz with hz;exact .inr (by omega)
   ·exact .inl ((hS z).1 (.inr (.inr (.inr (.inr ⟨i,Q,h6,hz⟩)))))
theorem yj{H:Hp}{n:Nat}{S:Nat→Prop}{st:Int}{w:Nw}(h:dB H n S st w)(g:Int):af Tryz.prog sI [ptr n,i64 g] H fun v H'=>aw (
  ((w.len g=0∧v= .tuple [i64 0,.bool false].toArray)∨∃x,w.first g x∧v= .tuple [i64 x,.bool true].toArray)∧H=H'):=by
 obtain⟨c,C,rv,fr,fa,ps,at_,m,l,hS⟩:=h
 obtain⟨av,ho,ha⟩:=m.own
 refine bq D3 ?_
 refine v1 (ae ho) ?_
 refine(sR m.cells g).mono ?_
 rintro _ _ ⟨rfl,rfl⟩
 refine vs ?_
 refine am.dec (fun h0=>?_) (fun h0=>?_)
 ·refine vs ?_
  exact⟨.inl ⟨h0,rfl⟩,rfl⟩
 have hg:0<g:=by
  by_cases hg:0<g
  ·exact hg
  ·exact absurd (Nw.HO.2 (.inl (by omega))) h0
 have afX:w.has g:=by
  refine⟨by omega,?_⟩
  by_cases hx:w.hs[g.toNat]? =some true
  ·exact hx
  ·refine absurd (Nw.HO.2 (.inr fun i c hc e=>hx ?_)) h0
   have:=m.cells.live c (aom hc) (by omega)
   rwa[e]at this
 obtain⟨P,hP⟩:=l.fk afX
 have z7:((g.toNat:Nat):Int)=g:=by omega
 have bK:=l.mem _ P hP
 have aZ:=l.len _ P hP
 rw[z7]at bK aZ
 have oP:=(w.zy g).1
 obtain⟨f,cc,lb,rfl,rfl,hf,Ub,dk⟩:=m.atp hP
 obtain⟨sv,hr,hs⟩:=m.jC _ P hP
 obtain⟨x,hx⟩:∃x,P.l[0]? =some x:=⟨_,aog (by omega)⟩
 obtain⟨b,c2,l2,rfl,fZ,hb,ml,_,Dz⟩:=Sl.at_ hs (i:=0) (x:=i64 x) (by simp[hx])
 refine v1 (ae ho) ?_
 refine⟨by omega,?_⟩
 simp(disch:=(first|omega| (simp only[Zs]<;>omega)|fail)) only[go_sem, ↓reduceIte,Zv,ae hf,aok,Ub,Tn,ae hr]
 refine⟨by omega,?_⟩
 refine v2 (ae hb) (show l2[Int.toNat 0*1]? =some (i64 x)from ml) ?_
 have hxP:=aom hx
 obtain⟨gf,e,he⟩:=(bK x).1 hxP
 refine⟨.inr ⟨x,⟨hg,gf,⟨e,he⟩,fun y hy ⟨e',iF⟩ aP=>?_⟩,rfl⟩,rfl⟩
 have hyP:=(bK y).2 ⟨hy,e',iF⟩
 obtain⟨j,hj⟩:=aoR hyP
 have Y1:=(aoi.1 hj).1
 have h5:=FK (ar w) dJ (l.ok _ P hP) j j (aou _) Y1
 rw[rZ hj,rZ hx]at h5
 rcases(ar w).OC x y (Ne.symm aP)with h6|h6
 ·exact h6
 ·rw[h5]at h6;cases h6
theorem CX{H:Hp}{n:Nat}{S:Nat→Prop}{st:Int}{w:Nw}(h:dB H n S st w)(x:Int):af Tryz.prog yR [ptr n,i64 x] H fun v H'=>aw (
  (¬cY w.cs x∧v= .bool false∧H=H')∨
  (cY w.cs x∧v= .bool true∧∃ (c0:Ce) (q:Nat),w.cs[x.toNat]? =some c0∧q≤2*kW 2 (w.len c0.1 - 1)∧∃S',dB H' n S' (min (st+q) 4611686018427387904) (w.put x (0,0,0))∧ag S H H'∧∀z,S' z→S z∨H.size≤z)):=by
 obtain⟨c,C,rv,fr,fa,ps,at_,m,l,hS⟩:=h
 obtain⟨av,ho,ha⟩:=m.own
 refine bq zt ?_
 refine v1 (ae ho) ?_
 refine(eC m.cells x).mono ?_
 rintro _ H1 (⟨bO,rfl,rfl⟩| ⟨bJ,c0,kD,rfl,c1,e1⟩)
 ·refine vs ?_
  exact .inl ⟨bO,rfl,rfl⟩
 obtain⟨gf,c0',JK,gh⟩:=id bJ
 rw[kD]at JK
 injection JK with JK
 subst JK
 obtain⟨P,hP⟩:=(l.hs c0.1.toNat).1 (m.cells.live _ (aom kD) gh)
 have z7:((c0.1.toNat:Nat):Int)=c0.1:=by omega
 have bK:=l.mem _ P hP
 have aZ:=l.len _ P hP
 rw[z7]at bK aZ
 have cN:(w.put x (0,0,0)).cs[x.toNat]? =some (0,0,0):=aoo (aoi.1 kD).1
 have lh:∀y:Nat,y≠x.toNat→(w.put x (0,0,0)).cs[y]? =w.cs[y]? :=fun y hy=>aon (Ne.symm hy)
 have m1:=m.aJ c1 e1
 obtain⟨av1,Nr,QO⟩:=m1.own
 have hxP:x∈P.l:=(bK x).2 ⟨gf,c0.2,kD⟩
 have FZ:∀z∈P.l,cY w.cs z:=fun z hz=>by
  obtain⟨z0,e,he⟩:=(bK z).1 hz
  exact⟨z0,_,he,gh⟩
 obtain⟨i,hi⟩:=aoR hxP
 have qh:=(aoi.1 hi).1
 obtain⟨_,Y5⟩:=l.To _ P hP i x hi
 obtain⟨f,cc,lb,rfl,rfl,hf,Ub,dk⟩:=m1.atp hP
 obtain⟨fa',ac,la,rfl,hfa,W5,W6,_,_⟩:=Sl.at_ QO (i:=x.toNat) (x:=i64 i) (by simp[Y5])
 have Vd:=(aoi.1 Y5).1
 refine v1 (ae Nr) ?_
 refine⟨by omega,?_⟩
 simp(disch:=(first|omega| (simp only[Zs]<;>omega)|fail)) only[go_sem, ↓reduceIte,Zv,ae hf,aok,Ub,Tn,ae Nr]
 refine⟨by omega,?_⟩
 refine v3 (ae W5) aok W6 ?_
 refine(CV (m1.Nu hP) (l.To _ P hP) qh FZ (l.ok _ P hP)).mono ?_
 rintro _ H2 ⟨l',mq,q,o,hq⟩
 rw[rZ hi]at o
 have hT:∀z,(C z∨P.fp=some z∨fa=some z∨z=P.r)→C z∨P.S z∨fa=some z:=fun z hz=>by
  rcases hz with hz|hz|hz|hz
  ·exact .inl hz
  ·exact .inr (.inl (.inr hz))
  ·exact .inr (.inr hz)
  ·exact .inr (.inl (.inl hz))
 have nR:∀z,(C z∨P.fp=some z∨fa=some z∨z=P.r)→S z:=fun z hz=>(hS z).1 (by
  rcases hT z hz with hz|hz|hz
  ·exact .inl hz
  ·exact .inr (.inr (.inr (.inr ⟨_,P,hP,hz⟩)))
  ·exact .inr (.inr (.inr (.inl hz))))
 have m2:=m1.JJ hP (P':=⟨P.r,P.fp,l'⟩) rfl o.jC (.inl rfl) o.ext hT
 obtain⟨av2,Ze,_⟩:=m2.own
 refine v1 (ae Ze) ?_
 refine(j5 m2.cells x).mono ?_
 rintro _ H3 (⟨bO,_,_⟩| ⟨_,rfl,c3,e3⟩)
 ·exact absurd bJ bO
 refine vs ?_
 have m3:=m2.aJ c3 e3
 have aP:∀ (h:Nat) Q,h≠c0.1.toNat→ps[h]? =some (some Q)→∀y∈Q.l,y.toNat≠x.toNat:=fun h Q hh hQ y hy e=>by
  obtain⟨y0,e',he⟩:=(l.mem h Q hQ y).1 hy
  rw[e,kD]at he
  injection he with he
  rw[he]at hh
  simp only[Int.toNat_natCast]at hh
  exact hh rfl
 have Ny:∀y∈l',y.toNat≠x.toNat:=fun y hy e=>by
  obtain⟨h1,h2⟩:=(o.mem y).1 hy
  have:=((bK y).1 h1).1
  omega
 refine .inr ⟨bJ,rfl,c0,q,kD,by rw[←aZ];exact hq,DB n C (some f) fa (ps.set c0.1.toNat (some ⟨P.r,P.fp,l'⟩)),
  ⟨c,C,_,some f,fa,_,mq,m3,⟨by rw[aoj];exact l.hl,fun h=>?_,?_,fun h Q hQ=>?_,fun h Q hQ=>?_,fun h Q hQ y=>?_,fun h Q hQ=>?_,?_⟩,fun z=>Iff.rfl⟩,?_,fun z hz=>?_⟩
 ·show w.hs[h]? =some true↔_
  rw[l.hs h]
  by_cases LI:h=c0.1.toNat
  ·subst LI
   rw[aoo dk]
   exact⟨fun _=>⟨_,rfl⟩,fun _=>⟨P,hP⟩⟩
  ·rw[aon (Ne.symm LI)]
 ·rw[aon (by omega)];exact l.h0
 ·rcases gL dk hQ with ⟨rfl,rfl⟩| ⟨h5,h6⟩
  ·exact o.heap.JH fun z hz y hy=>(hX w x _ (Ny z hz) (Ny y hy)).symm
  ·exact(l.ok h Q h6).JH fun z hz y hy=>(hX w x _ (aP h Q h5 h6 z hz) (aP h Q h5 h6 y hy)).symm
 ·rcases gL dk hQ with ⟨rfl,rfl⟩| ⟨h5,h6⟩
  ·exact o.ok
  ·exact(l.To h Q h6).WZ fun z hz z0=>o.off z z0 (l.apart h6 hP h5 hz)
 ·by_cases mM:y.toNat=x.toNat
  ·rw[mM,cN]
   have h0:=gL dk hQ
   constructor
   ·intro hy
    rcases h0 with ⟨rfl,rfl⟩| ⟨h5,h6⟩
    ·exact absurd mM (Ny y hy)
    ·exact absurd mM (aP h Q h5 h6 y hy)
   ·rintro⟨_,e,he⟩
    injection he with he
    injection he with W4 _
    rcases h0 with ⟨rfl,rfl⟩| ⟨h5,h6⟩
    ·omega
    ·have:=l.pos h6;omega
  ·rw[lh _ mM]
   rcases gL dk hQ with ⟨rfl,rfl⟩| ⟨h5,h6⟩
   ·rw[z7]
    show y∈l'↔_
    rw[o.mem y,bK y]
    constructor
    ·exact fun h=>h.1
    ·exact fun h=>⟨h,fun e=>mM (by rw[e])⟩
   ·exact l.mem h Q h6 y
 ·rcases gL dk hQ with ⟨rfl,rfl⟩| ⟨h5,h6⟩
  ·rw[z7,Nw.gm kD c0.1,if_pos ⟨gh,rfl⟩,if_neg (fun hc=>by omega)]
   show(l'.length:Int)=_
   have:=o.len
   omega
  ·have:=l.pos h6
   rw[l.len h Q h6,Nw.gm kD h,if_neg (fun hc=>by omega),if_neg (fun hc=>by omega)]
   omega
 ·rw[o.LH,l.LH];exact(aoj ..).symm
 ·exact(e1.mono fun z _ hz=>nR z (.inl hz)).trans ((o.ext.mono fun z _ hz=>nR z hz).trans (e3.mono fun z _ hz=>nR z (.inl hz)))
 ·rcases hz with hz|rfl|hz|hz| ⟨i,Q,hQ,hz⟩
  ·exact .inl (nR z (.inl hz))
  ·exact .inl ((hS z).1 (.inr (.inl rfl)))
  ·exact .inl ((hS z).1 (.inr (.inr (.inl hz))))
  ·exact .inl (nR z (.inr (.inr (.inl hz))))
  ·rcases gL dk hQ with ⟨rfl,rfl⟩| ⟨h5,h6⟩
   ·rcases hz with rfl|hz
    ·exact .inl (nR _ (.inr (.inr (.inr rfl))))
    ·exact .inl (nR z (.inr (.inl hz)))
   ·exact .inl ((hS z).1 (.inr (.inr (.inr (.inr ⟨i,Q,h6,hz⟩)))))
theorem Br{H:Hp}{n:Nat}{S:Nat→Prop}{st:Int}{w:Nw}(h:dB H n S st w)(g:Int):af Tryz.prog lY [ptr n,i64 g] H fun v H'=>aw (
  (w.len g=0∧v= .tuple [i64 0,.bool false].toArray∧H=H')∨
  (∃x,w.first g x∧v= .tuple [i64 x,.bool true].toArray∧∃q:Nat,q≤2*kW 2 (w.len g - 1)∧∃S',dB H' n S' (min (st+q) 4611686018427387904) (w.put x (0,0,0))∧ag S H H'∧∀z,S' z→S z∨H.size≤z)):=by
 refine bq xo ?_
 refine vs ?_
 refine(yj h g).mono ?_
 rintro _ _ ⟨⟨h0,rfl⟩| ⟨x,hx,rfl⟩,rfl⟩
 ·refine vs ?_
  exact .inl ⟨h0,rfl,rfl⟩
 ·refine vs ?_
  refine(CX h x).mono ?_
  rintro _ H1 (⟨bO,_,_⟩| ⟨_,rfl,c0,q,kD,hq,S',d1,e1,Zf⟩)
  ·exact absurd hx.ME bO
  refine vs ?_
  obtain⟨e,iF⟩:=hx.2.2.1
  rw[kD]at iF
  injection iF with iF
  subst iF
  exact .inr ⟨x,hx,rfl,q,hq,S',d1,e1,Zf⟩
theorem zF{H:Hp}{n:Nat}{S:Nat→Prop}{st:Int}{w:Nw}(h:dB H n S st w)(x k s:Int):af Tryz.prog kM [ptr n,i64 x,tK k s] H fun v H'=>aw (
  (¬ (cY w.cs x∧∀y,w.cs[x.toNat]? =some y→¬fA y.2.1 y.2.2 k s)∧v= .bool false∧dB H' n S st w∧ah H H')∨
  (cY w.cs x∧∃y,w.cs[x.toNat]? =some y∧¬fA y.2.1 y.2.2 k s∧v= .bool true∧∃q:Nat,q≤2*kW 2 (w.len y.1 - 1)∧∃S',dB H' n S' (min (st+q) 4611686018427387904) (w.put x (y.1,k,s))∧ag S H H'∧∀z,S' z→S z∨H.size≤z)):=by
 obtain⟨c,C,rv,fr,fa,ps,at_,m,l,hS⟩:=h
 refine bq uv ?_
 refine vs ?_
 have f0:ah H (H.new 224 [i64 k,u64 s]):=(ag.refl _ _).new _ _
 have b0:(H.new 224 [i64 k,u64 s]).own H.size=some [i64 k,u64 s]:=az _ _ _
 have m0:=m.ext f0 (fun _ _ h=>h)
 generalize H.new 224 [i64 k,u64 s]=H0 at*
 obtain⟨av,HS,TY⟩:=m0.own
 refine v2 (ae HS) (ae b0) ?_
 refine(jm m0.cells x k s).mono ?_
 rintro _ H1 (⟨bO,rfl,c1,e1⟩| ⟨bJ,rfl,y,hy,fB,c1,e1⟩)
 ·refine vs ?_
  exact .inl ⟨bO,rfl,⟨c,C,rv,fr,fa,ps,at_,m0.ext e1 (fun _ _ h=>h),l,hS⟩,f0.trans e1⟩
 have m1:=m0.aJ c1 e1
 obtain⟨av1,Nr,QO⟩:=m1.own
 refine v1 (ae Nr) ?_
 obtain⟨gf,y',FF,gh⟩:=id bJ
 rw[hy]at FF
 injection FF with FF
 subst FF
 have cN:(w.put x (y.1,k,s)).cs[x.toNat]? =some (y.1,k,s):=aoo (aoi.1 hy).1
 have lh:∀z:Nat,z≠x.toNat→(w.put x (y.1,k,s)).cs[z]? =w.cs[z]? :=fun z hz=>aon (Ne.symm hz)
 have Nt:cY (w.put x (y.1,k,s)).cs x:=⟨gf,_,cN,gh⟩
 refine(eC c1 x).mono ?_
 rintro _ H2 (⟨bO,_,_⟩| ⟨_,y2,DO,rfl,c2,e2⟩)
 ·exact absurd Nt bO
 rw[cN]at DO
 injection DO with DO
 subst DO
 have m2:=m1.aJ c2 e2
 obtain⟨av2,Ze,We⟩:=m2.own
 obtain⟨P,hP⟩:=(l.hs y.1.toNat).1 (m.cells.live _ (aom hy) gh)
 have z7:((y.1.toNat:Nat):Int)=y.1:=by omega
 have LJ:∀ (h:Nat) Q,ps[h]? =some (some Q)→∀z:Int,z∈Q.l↔0≤z∧∃e,(w.put x (y.1,k,s)).cs[z.toNat]? =some (((h:Nat):Int),e):=fun h Q hQ z=>by
  rw[l.mem h Q hQ z]
  by_cases W7:z.toNat=x.toNat
  ·rw[W7,cN,hy]
   constructor
   ·rintro⟨z0,e,he⟩
    injection he with he
    exact⟨z0,(k,s),by rw[he]⟩
   ·rintro⟨z0,e,he⟩
    injection he with he
    injection he with W4 _
    exact⟨z0,y.2,by rw[←W4]⟩
  ·rw[lh _ W7]
 have bK:=LJ _ P hP
 have aZ:=l.len _ P hP
 rw[z7]at bK aZ
 have hxP:x∈P.l:=(bK x).2 ⟨gf,_,cN⟩
 have FZ:∀z∈P.l,cY (w.put x (y.1,k,s)).cs z:=fun z hz=>by
  obtain⟨z0,e,he⟩:=(bK z).1 hz
  exact⟨z0,_,he,gh⟩
 obtain⟨i,hi⟩:=aoR hxP
 have qh:=(aoi.1 hi).1
 obtain⟨_,Y5⟩:=l.To _ P hP i x hi
 have Vd:=(aoi.1 Y5).1
 obtain⟨f,cc,lb,rfl,rfl,hf,Ub,dk⟩:=m2.atp hP
 obtain⟨fa',ac,la,rfl,hfa,W5,W6,_,_⟩:=Sl.at_ We (i:=x.toNat) (x:=i64 i) (by simp[Y5])
 have DC:∀j,j<P.l.length→j≠i→(P.l.getD j 0).toNat≠x.toNat:=fun j hj aP e=>by
  have hgj:P.l[j]? =some (P.l.getD j 0):=by rw[aol,aog hj];rfl
  have h0:=((bK _).1 (aom hgj)).1
  rw[show P.l.getD j 0=x by omega]at hgj
  exact aP ((l.To _ P hP).FI hgj hi)
 have hA:dE (aQ (w.put x (y.1,k,s))) 2 P.l i:=by
  have hb:=(l.ok _ P hP).but (ar w) dJ i
  refine⟨fun j h1 h2 h3 h4=>?_,fun j h1 h2 h3 h4=>?_⟩
  ·have:=cG dJ h1
   rw[hX w x _ (DC j h2 h3) (DC _ (by omega) h4)]
   exact hb.1 j h1 h2 h3 h4
  ·have:=cG dJ h1
   have:=cG dJ h4
   rw[hX w x _ (DC j h2 (by omega)) (DC _ (by omega) (by omega))]
   exact hb.2 j h1 h2 h3 h4
 refine v1 (ae Ze) ?_
 refine⟨by omega,?_⟩
 simp(disch:=(first|omega| (simp only[Zs]<;>omega)|fail)) only[go_sem, ↓reduceIte,Zv,ae hf,aok,Ub,Tn,ae Ze]
 refine⟨by omega,?_⟩
 refine v3 (ae W5) aok W6 ?_
 refine(HV (m2.Nu hP) (l.To _ P hP) qh FZ hA).mono ?_
 rintro _ H3 ⟨rfl,l',mq,q,o,iC,hq⟩
 refine vs ?_
 have pD:=e1.trans e2
 have hT:∀z,(C z∨P.fp=some z∨fa=some z)→C z∨P.S z∨fa=some z:=fun z hz=>by
  rcases hz with hz|hz|hz
  ·exact .inl hz
  ·exact .inr (.inl (.inr hz))
  ·exact .inr (.inr hz)
 have nR:∀z,(C z∨P.fp=some z∨fa=some z)→S z:=fun z hz=>(hS z).1 (by
  rcases hT z hz with hz|hz|hz
  ·exact .inl hz
  ·exact .inr (.inr (.inr (.inr ⟨_,P,hP,hz⟩)))
  ·exact .inr (.inr (.inr (.inl hz))))
 have aP:∀ (h:Nat) Q,h≠y.1.toNat→ps[h]? =some (some Q)→∀z∈Q.l,z.toNat≠x.toNat:=fun h Q hh hQ z hz e=>by
  obtain⟨z0,e',he⟩:=(l.mem h Q hQ z).1 hz
  rw[e,hy]at he
  injection he with he
  rw[he]at hh
  simp only[Int.toNat_natCast]at hh
  exact hh rfl
 have hwl:∀h:Int,(w.put x (y.1,k,s)).len h=w.len h:=fun h=>by
  rw[Nw.gm hy h]
  simp only
  split<;>omega
 have hol:=o.len
 refine .inr ⟨bJ,y,hy,fB,rfl,q,by rw[←aZ];exact hq,DB n C (some f) fa (ps.set y.1.toNat (some ⟨P.r,P.fp,l'⟩)),
  ⟨c,C,_,some f,fa,_,mq,m2.JJ hP (P':=⟨P.r,P.fp,l'⟩) rfl o.jC (.inl rfl) o.ext hT,
   ⟨by rw[aoj];exact l.hl,fun h=>?_,?_,fun h Q hQ=>?_,fun h Q hQ=>?_,fun h Q hQ z=>?_,fun h Q hQ=>?_,?_⟩,fun z=>Iff.rfl⟩,?_,fun z hz=>?_⟩
 ·show w.hs[h]? =some true↔_
  rw[l.hs h]
  by_cases LI:h=y.1.toNat
  ·subst LI
   rw[aoo dk]
   exact⟨fun _=>⟨_,rfl⟩,fun _=>⟨P,hP⟩⟩
  ·rw[aon (Ne.symm LI)]
 ·rw[aon (by omega)];exact l.h0
 ·rcases gL dk hQ with ⟨rfl,rfl⟩| ⟨h5,h6⟩
  ·exact iC
  ·exact(l.ok h Q h6).JH fun z hz v hv=>(hX w x _ (aP h Q h5 h6 z hz) (aP h Q h5 h6 v hv)).symm
 ·rcases gL dk hQ with ⟨rfl,rfl⟩| ⟨h5,h6⟩
  ·exact o.ok
  ·exact(l.To h Q h6).WZ fun z hz z0=>o.off z z0 (l.apart h6 hP h5 hz)
 ·rcases gL dk hQ with ⟨rfl,rfl⟩| ⟨h5,h6⟩
  ·rw[z7]
   show z∈l'↔_
   rw[o.mem z,bK z]
  ·exact LJ h Q h6 z
 ·rw[hwl]
  rcases gL dk hQ with ⟨rfl,rfl⟩| ⟨h5,h6⟩
  ·rw[z7]
   show(l'.length:Int)=_
   omega
  ·exact l.len h Q h6
 ·rw[o.LH,l.LH];exact(aoj ..).symm
 ·exact(f0.mono fun _ _ h=>h.elim).trans ((pD.mono fun z _ hz=>nR z (.inl hz)).trans (o.ext.mono fun z _ hz=>nR z hz))
 ·rcases hz with hz|rfl|hz|hz| ⟨j,Q,hQ,hz⟩
  ·exact .inl (nR z (.inl hz))
  ·exact .inl ((hS z).1 (.inr (.inl rfl)))
  ·exact .inl ((hS z).1 (.inr (.inr (.inl hz))))
  ·exact .inl (nR z (.inr (.inr hz)))
  ·rcases gL dk hQ with ⟨rfl,rfl⟩| ⟨h5,h6⟩
   ·rcases hz with rfl|hz
    ·exact .inl ((hS _).1 (.inr (.inr (.inr (.inr ⟨_,P,hP,.inl rfl⟩)))))
    ·exact .inl (nR z (.inr (.inl hz)))
   ·exact .inl ((hS z).1 (.inr (.inr (.inr (.inr ⟨j,Q,h6,hz⟩)))))
theorem CY{ov:Value}{I:Hp→Nat→Prop}{T:Nat→Prop}{lt:Int→Int→Bool}{D:Int→Prop}(ho:Nf ov I T lt D){H:Hp}{r:Nat}{S:Nat→Prop}{d:Int}{l:List Int}{pl:Int→Option Int}
  (h:dm H r S d l pl)(hd:∀x,S x→¬T x){n:Nat}(hI:I H n)(hf:cU d)(x:Int)(hl:l.length≤1000000)(hp:CI l pl)(hD:∀z∈l,D z:=by intros;trivial):
  af Tryz.prog Am [ptr r,ov,i64 x] H fun v H'=>aw (
   (pl x=none∧v= .bool false∧H=H')∨
   (∃i,pl x=some i∧v= .bool true∧dm H' r S d (cR lt d x l pl i).1 (cR lt d x l pl i).2.1∧I H' (n+(cR lt d x l pl i).2.2)∧ag (fun z=>S z∨T z) H H')):=by
 obtain⟨⟨sv,fp,mb,a1,a2,a3,s1,s2,s3,s4⟩,h2⟩:=id h
 have key:gY true (Value.int .i64 0) ((pl x).map i64)= .tuple [i64 ((pl x).getD 0),.bool (pl x).isSome].toArray:=by cases pl x<;>rfl
 refine bq AJ ?_
 refine v3 (ae a1) a3.look key ?_
 cases hx:pl x with
 |none=>
  simp(disch:=(first|omega| (simp only[Zs]<;>omega)|fail)) only[go_sem, ↓reduceIte,Zv,Option.isSome_none]
  exact .inl ⟨rfl,rfl,rfl⟩
 |some i=>
  obtain⟨i0,Ue⟩:=(hp x i).1 hx
  have qh:i.toNat<l.length:=(aoi.1 Ue).1
  obtain⟨f,rfl⟩:∃f,fp=some f:=by
   cases fp with
   |none=>obtain⟨_,e,_⟩:=a2;omega
   |some f=>exact⟨f,rfl⟩
  have Wm:=a2
  obtain⟨_,l1,c,rfl,g2,a5,a6,a7⟩:=Wm
  have g3:∀ (i:Nat) (x:Int),l[i]? =some x→l1[i]? =some (i64 x):=fun i x h=>by
   have aO:=(aoi.1 h).1
   have h1:(l.map i64)[i]? =some (i64 x):=by simp[h]
   rw[←a7,aoN (by omega)]at h1
   exact h1
  have jf:l[l.length - 1]? =some (l.getD (l.length - 1) 0):=by
   rw[aol,aog (by omega)];rfl
  have W8:=g3 _ _ jf
  have e1:IntKind.i64.wrap ((l.length:Int) - 1)=((l.length - 1:Nat):Int):=by rw[wrap64 (by omega) (by omega)];omega
  simp(disch:=(first|omega| (simp only[Zs]<;>omega)|fail)) only[go_sem, ↓reduceIte,Zv,Option.isSome_some,Option.getD_some,ae a1,e1,Int.toNat_natCast]
  refine⟨by omega,?_⟩
  refine v5 (ae g2) (ae a1) aok W8 e1 ?_
  refine⟨by omega,?_⟩
  obtain⟨Ll,oQ,TZ⟩:=s4 f rfl
  have yf:Value.slice (if(c:Int)=((0:Nat):Int)then some (⟨f,0,none⟩:Addr)else Option.map (fun(x:Addr)=>x.add (((0:Nat):Int).toNat*1)) (some (⟨f,0,none⟩:Addr))) (((l.length - 1:Nat):Int).toNat - ((0:Nat):Int).toNat) ((c:Int).toNat - ((0:Nat):Int).toNat)= .slice (some ⟨f,0,none⟩) (l.length - 1) c:=by
   split<;>rfl
  refine v2 (ae a1) a1 ?_
  rw[yf]
  have ew:ag (fun z=>z=r) H (H.wr r [i64 d,.slice (some ⟨f,0,none⟩) (l.length - 1) c,.map (some mb)]):=(ag.refl (fun z=>z=r) _).wr (fun _=>rfl) _
  have b1:(H.wr r [i64 d,.slice (some ⟨f,0,none⟩) (l.length - 1) c,.map (some mb)]).own r=some [i64 d,.slice (some ⟨f,0,none⟩) (l.length - 1) c,.map (some mb)]:=ai a1
  have b3:=a3.ext ew (Ne.symm s3)
  refine v1 (ae b1) ?_
  refine b3.del fun H2 m2 e2=>?_
  rw[Lj]at m2
  have e02:ag S H H2:=(ew.mono fun z _ hz=>hz▸s1).trans (e2.mono fun z _ hz=>hz▸s2)
  have hr:dm H2 r S d l.dropLast (rS pl x):=by
   refine⟨⟨.slice (some ⟨f,0,none⟩) (l.length - 1) c,some f,mb,e2.own b1 s3,⟨by simp,l1,c,by rw[aoT],(e2.own ((ew.own g2 oQ)) TZ),by rw[aoT];omega,a6,?_⟩,m2,s1,s2,s3,s4⟩,
    fun z hz=>aoG (h2 z hz) e02.size⟩
   have hx7:((l.map i64).length)=l.length:=by simp
   rw[aoT,List.map_dropLast,apO,hx7,←a7,aqj]
   congr 1
   omega
  have QR:=ho.aM _ _ _ _ hI e02 (fun z hz hs=>hd z hs hz)
  refine vs ?_
  have oP:l.dropLast.length=l.length - 1:=aoT
  refine am.dec (fun he=>?_) (fun he=>?_)<;>refine vs ?_
  ·refine .inr ⟨i,rfl,rfl,?_,?_,e02.mono fun z _ hz=>.inl hz⟩
   ·unfold cR;rw[if_pos he];exact hr
   ·unfold cR;rw[if_pos he];exact QR
  ·have W9:l.getD (l.length - 1) 0∈l:=aom jf
   have mw:i.toNat≠l.length - 1:=fun e=>by rw[e,jf]at Ue;injection Ue with Ue;exact he Ue
   refine(rT ho hr hd QR i (l.getD (l.length - 1) 0) ⟨i0,by omega⟩ (by omega) (hD _ W9) (fun z hz=>hD z ((aqk _).subset hz))).mono ?_
   rintro _ H3 ⟨rfl,r3,i3,e3⟩
   have Nv:=(e02.mono fun z _ hz=>Or.inl hz).trans e3
   refine vs ?_
   refine am.dec (fun uD=>?_) (fun uD=>?_)<;>refine vs ?_
   ·have Tp:=vD lt d (l.getD (l.length - 1) 0) i.toNat l.dropLast (rS pl x) i
    refine(FG ho r3 hd i3 hf i (l.getD (l.length - 1) 0) ⟨i0,by omega⟩ (by omega) (hD _ W9) (fun z hz=>by
     rcases T1 lt d _ _ _ _ _ i0 (by omega) z hz with h|h
     ·rw[h];exact hD _ W9
     ·exact hD z ((aqk _).subset h))).mono ?_
    rintro _ H4 ⟨r4,i4,e4⟩
    refine vs ?_
    refine .inr ⟨i,rfl,rfl,?_,?_,Nv.trans e4⟩
    ·unfold cR;rw[if_neg he];simp only;rw[if_pos uD];exact r4
    ·unfold cR;rw[if_neg he];simp only;rw[if_pos uD,←aqs];exact i4
   ·refine .inr ⟨i,rfl,rfl,?_,?_,Nv⟩
    ·unfold cR;rw[if_neg he];simp only;rw[if_neg uD];exact r3
    ·unfold cR;rw[if_neg he];simp only;rw[if_neg uD];exact i3
end Go.Proofs.YtjlnnljohemifaaGreat
