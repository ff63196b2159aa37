/- Texts put behind each other. -/
import Derived.Test.YtjlnnljohemifaaGreatK98
import Derived.Test.YtjlnnljohemifaaGreatK9
import Derived.Test.YtjlnnljohemifaaGreatK17
import Derived.Test.YtjlnnljohemifaaGreatK19
import Derived.Test.YtjlnnljohemifaaGreatK20
set_option maxRecDepth 100000
set_option maxHeartbeats 8000000
set_option linter.unusedVariables false
set_option linter.unusedSimpArgs false
namespace Go.Proofs.YtjlnnljohemifaaGreat
open Go Go.Vc
abbrev fW(x:Int)(g:Nat):Value:=.agg #[i64 x,.int .u32 (g:Int)]
structure Ar where
 g:List (Nat×Bool)
 wt:List Int
 nx:Nat
 ct:Int
 mo:Nat
def dc(L:List (Nat×Bool)):List Value:=L.flatMap fun y=>[.int .u32 (y.1:Int),.bool y.2]
theorem oM(L:List (Nat×Bool)):(dc L).length=L.length*2:=by
 induction L with
 |nil=>rfl
 |cons c r ih=>simp only[dc,aoR,ank,anw,aoi]at*;omega
theorem tj{L:List (Nat×Bool)}{i:Nat}{y:Nat×Bool}(hi:L[i]? =some y):(dc L)[i*2]? =some (.int .u32 (y.1:Int))∧(dc L)[i*2+1]? =some (.bool y.2):=by
 induction L generalizing i with
 |nil=>simp at hi
 |cons a r ih=>
  have e:dc (a::r)= .int .u32 (a.1:Int):: .bool a.2::dc r:=rfl
  rw[e]
  cases i with
  |zero=>simp at hi;subst hi;exact⟨rfl,rfl⟩
  |succ i=>
   have:=ih (by simpa using hi)
   rw[show(i+1)*2=i*2+2 by omega]
   exact this
theorem BC{L:List (Nat×Bool)}{i:Nat}{y:Nat×Bool}(hi:L[i]? =some y):(∀v:Nat,(dc L).set (i*2) (.int .u32 (v:Int))=dc (L.set i (v,y.2)))∧(∀b,(dc L).set (i*2+1) (.bool b)=dc (L.set i (y.1,b))):=by
 induction L generalizing i with
 |nil=>simp at hi
 |cons a r ih=>
  have e:dc (a::r)= .int .u32 (a.1:Int):: .bool a.2::dc r:=rfl
  cases i with
  |zero=>simp at hi;subst hi;exact⟨fun _=>rfl,fun _=>rfl⟩
  |succ i=>
   obtain⟨h1,h2⟩:=ih (by simpa using hi)
   refine⟨fun v=>?_,fun b=>?_⟩
   ·have e2:dc ((a::r).set (i+1) (v,y.2))= .int .u32 (a.1:Int):: .bool a.2::dc (r.set i (v,y.2)):=rfl
    rw[e,e2,show(i+1)*2=i*2+1+1 by omega]
    simp only[anV]
    rw[h1]
   ·have e2:dc ((a::r).set (i+1) (y.1,b))= .int .u32 (a.1:Int):: .bool a.2::dc (r.set i (y.1,b)):=rfl
    rw[e,e2,show(i+1)*2+1=i*2+1+1+1 by omega]
    simp only[anV]
    rw[h2]
def Ar.bq(A:Ar)(x:Int):Nat:=(A.g.getD x.toNat (0,false)).1
def Ar.live(A:Ar)(x:Int):Prop:=0≤x∧(A.g[x.toNat]?).map (·.2)=some true
instance(A:Ar)(x:Int):Decidable (A.live x):=by unfold Ar.live;exact inferInstance
def Ar.pick(A:Ar):Option (Int×Ar):=
 if A.wt≠[]then some (A.wt.getLastD 0,{A with wt:=A.wt.dropLast})else if A.nx=A.g.length then none else some ((A.nx:Int),{A with nx:=A.nx+1})
def Ar.out(A:Ar)(x:Int):Ar:={A with g:=A.g.set x.toNat (A.bq x+1,true),ct:=A.ct+1}
def Ar.back(A:Ar)(x:Int):Ar:={A with g:=A.g.set x.toNat (A.bq x,false),ct:=A.ct - 1,wt:=if A.bq x<A.mo then A.wt++[x]else A.wt}
def Ar.aO(A:Ar):Nat:=A.g.countP (·.2)
theorem count_set{L:List (Nat×Bool)}{i:Nat}{y:Nat×Bool}(h:L[i]? =some y)(v:Nat)(b:Bool):(L.set i (v,b)).countP (·.2)+y.2.toNat=L.countP (·.2)+b.toNat:=by
 induction L generalizing i with
 |nil=>simp at h
 |cons a r ih=>
  cases i with
  |zero=>
   simp at h
   subst h
   rw[aoD,aoq,aoq]
   cases a.2<;>cases b<;>simp
  |succ i=>
   have:=ih (i:=i) (by simpa using h)
   rw[anV,aoq,aoq]
   omega
structure vO(A:Ar):Prop where
 wl:∀x∈A.wt,¬A.live x∧x<A.nx∧0≤x
 wd:A.wt.Nodup
 fr:∀x:Int,A.nx≤x→¬A.live x
 ct:A.ct=A.aO
 nx:A.nx≤A.g.length
structure SN where
 a:Nat
 sb:Nat
 fo:Option Nat
def SN.S(B:SN)(z:Nat):Prop:=z=B.a∨z=B.sb∨B.fo=some z
structure Im(H:Hp)(B:SN)(A:Ar):Prop where
 own:∃tv,H.own B.a=some [.slice (some ⟨B.sb,0,none⟩) A.g.length A.g.length,tv,i64 A.nx,i64 A.ct,.int .u32 (A.mo:Int)]∧Sl H 1 tv A.wt.length (A.wt.map i64) B.fo
 sl:H.own B.sb=some (dc A.g)
 ne:B.a≠B.sb∧B.fo≠some B.a∧B.fo≠some B.sb
 len:A.g.length≤65536
 ok:vO A
 gs:∀y∈A.g,y.1≤4294967295
 mo:A.mo≤4294967295
section
variable {H H' : Hp} {B : SN} {A : Ar} {T : Nat → Prop}
theorem Im.slt(m:Im H B A):∀z,B.S z→z<H.size:=by
 obtain⟨tv,h1,h2⟩:=m.own
 rintro z (rfl|rfl|h)
 ·exact az h1
 ·exact az m.sl
 ·rw[h]at h2;exact Sl.lt h2
theorem Im.ext(m:Im H B A)(e:ag T H H')(hd:∀z,B.S z→¬T z):Im H' B A:=by
 obtain⟨tv,h1,h2⟩:=m.own
 exact⟨⟨tv,e.own h1 (hd _ (.inl rfl)),h2.ext e (fun b hb=>hd b (.inr (.inr hb)))⟩,e.own m.sl (hd _ (.inr (.inl rfl))),m.ne,m.len,m.ok,m.gs,m.mo⟩
theorem Ar.get{A:Ar}{x:Int}(hx:0≤x∧x<A.g.length):∃b,A.g[x.toNat]? =some (A.bq x,b)∧(A.live x↔b=true):=by
 obtain⟨y,hy⟩:∃y,A.g[x.toNat]? =some y:=⟨_,am8 (by omega)⟩
 refine⟨y.2,?_,?_⟩
 ·unfold Ar.bq
  rw[anf,hy];rfl
 ·unfold Ar.live
  rw[hy]
  simp[hx.1]
theorem Ar.zP{A:Ar}{x:Int}(h:A.live x):0≤x∧x<A.g.length:=by
 obtain⟨h0,h1⟩:=h
 cases hy:A.g[x.toNat]? with
 |none=>rw[hy]at h1;cases h1
 |some y=>
  have:=(ana.1 hy).1
  omega
theorem Im.wtl(m:Im H B A):A.wt.length≤65536∧∀x∈A.wt,0≤x∧x<A.g.length:=by
 have h1:∀x∈A.wt,0≤x∧x<A.g.length:=fun x hx=>by
  have:=m.ok.wl x hx
  have:=m.ok.nx
  omega
 exact⟨an8 (bU m.ok.wd h1) m.len,h1⟩
theorem LX(k:Nat):cz [Value.int .u32 0,Value.bool false] k=dc (List.replicate k (0,false)):=by
 unfold cz dc
 induction k with
 |zero=>rfl
 |succ k ih=>rw[anS,anS,an9,aoR,ih];rfl
theorem Et(H:Hp){n:Int}{mo:Nat}(hn:0≤n∧n≤65536)(hm:0<mo∧mo≤4294967295):af Tryz.prog Js [i64 n,.int .u32 (mo:Int)] H fun v H'=>ar (∃B,v= .tuple [ptr B.a,i64 0].toArray∧Im H' B ⟨List.replicate n.toNat (0,false),[],0,0,mo⟩∧ah H H'∧∀z,B.S z→H.size≤z):=by
 refine aP JA ?_
 refine vs ?_
 refine ak.dec (fun g=>absurd g (by omega)) (fun _=>?_)
 refine vs ?_
 refine ak.dec (fun g=>absurd g (by omega)) (fun _=>?_)
 refine vs ?_
 refine ak.dec (fun g=>absurd g (by omega)) (fun _=>?_)
 refine vs ?_
 refine⟨⟨by omega,by omega,by omega,by omega⟩,?_⟩
 refine vs ?_
 rw[LX]
 refine⟨⟨H.size+1,H.size,none⟩,rfl,⟨⟨.slice none 0 0,?_,Sl.nil _ _⟩,?_,⟨by simp only;omega,by simp,by simp⟩,by rw[anX];omega,⟨by simp,aoo,fun x _ hx=>?_,by simp[Ar.aO,List.countP_replicate],aoY _⟩,fun y hy=>by rw[(List.mem_replicate.1 hy).2];simp,hm.2⟩,((ag.refl _ _).new _ _).new _ _,fun z hz=>?_⟩
 ·rw[anX]
  exact aQ (by simp only[am])
 rotate_left
 ·obtain⟨h0,h1⟩:=hx
  simp only[aoy]at h1
  split at h1<;>simp at h1
 rotate_left
 ·simp only
  rw[ce (by simp only[am];omega),ax]
 ·rcases hz with h|h|h
  ·simp only at h;omega
  ·simp only at h;omega
  ·cases h
theorem rj(m:Im H B A)(x:Int)(g:Nat):af Tryz.prog xd [ptr B.a,fW x g] H fun v H'=>ar (v= .bool (decide (A.live x∧A.bq x=g))∧ah H H'):=by
 obtain⟨tv,o1,_⟩:=m.own
 refine aP xz ?_
 refine vs ?_
 have f0:ah H (H.new 114 [i64 x,.int .u32 (g:Int)]):=(ag.refl _ _).new _ _
 have b0:(H.new 114 [i64 x,.int .u32 (g:Int)]).own H.size=some [i64 x,.int .u32 (g:Int)]:=ax _ _ _
 have m0:=m.ext f0 (fun _ _ h=>h)
 generalize H.new 114 [i64 x,.int .u32 (g:Int)]=H0 at*
 obtain⟨tv0,o0,_⟩:=m0.own
 refine ak.dec (fun h0=>?_) (fun h0=>?_)<;>refine v2 (ae b0) (ae o0) ?_
 rotate_left
 ·rw[anD (fun h=>h0 h.1.1)]
  exact⟨rfl,f0⟩
 refine ak.dec (fun h1=>?_) (fun h1=>?_)<;>refine v2 (ae b0) (ae o0) ?_
 rotate_left
 ·rw[anD (fun h=>h1 (Ar.zP h.1).2)]
  exact⟨rfl,f0⟩
 obtain⟨b,hb,ju⟩:=Ar.get (A:=A) (x:=x) ⟨h0,h1⟩
 obtain⟨c1,c2⟩:=tj hb
 have hl:=oM A.g
 refine⟨⟨by omega,by omega⟩,?_⟩
 refine v2 (ae m0.sl) am9 ?_
 have hdt:((dc A.g).drop (x.toNat*2)).take 2=[.int .u32 (A.bq x:Int),.bool b]:=by
  apply an5
  intro k
  match k with
  |0=>rw[anI (by omega),anQ,Nat.add_zero];exact c1
  |1=>rw[anI (by omega),anQ];exact c2
  |k+2=>rw[ans (by simp;omega)];rfl
 rw[hdt]
 refine⟨by omega,?_⟩
 refine v1 (ae b0) ?_
 have heq:vP [(0,none,Shape.int),(1,none,Shape.bool)] [Value.int IntKind.u32 (A.bq x:Int),Value.bool b] [Value.int IntKind.u32 (g:Int),Value.bool true]=some (decide (A.bq x=g) && b):=by
  by_cases hg:A.bq x=g
  ·cases b<;>simp[vP,mO,bc,hg,dR]
  ·have:¬ (A.bq x:Int)=(g:Int):=by omega
   cases b<;>simp[vP,mO,bc,hg,dR,this]
 rw[heq]
 simp(disch:=(first|omega| (simp only[Zs]<;>omega)|fail)) only[go_sem, ↓reduceIte,Zv,Option.map_some]
 refine⟨anx Value.bool ?_,f0⟩
 by_cases hg:A.bq x=g
 ·rw[anp hg,aov]
  cases nA:b
  ·exact(anD (fun h=>by have:=ju.1 h.1;rw[nA]at this;cases this)).symm
  ·exact(anp ⟨ju.2 nA,hg⟩).symm
 ·rw[anD hg,anD (fun h=>hg h.2)]
  rfl
theorem Gs(m:Im H B A){x:Int}(hx:A.live x):af Tryz.prog AP [ptr B.a,i64 x] H fun v H'=>ar (v= .tuple [fW x (A.bq x),.bool true].toArray∧ah H H'):=by
 obtain⟨tv,o1,_⟩:=m.own
 have tm:=Ar.zP hx
 obtain⟨b,hb,ju⟩:=Ar.get (A:=A) (x:=x) tm
 obtain rfl:=ju.1 hx
 obtain⟨c1,c2⟩:=tj hb
 have hl:=oM A.g
 refine aP A5 ?_
 refine vs ?_
 have f0:ah H (H.new 114 [Value.int .i64 0,Value.int .u32 0]):=(ag.refl _ _).new _ _
 have b0:(H.new 114 [Value.int .i64 0,Value.int .u32 0]).own H.size=some [Value.int .i64 0,Value.int .u32 0]:=ax _ _ _
 have m0:=m.ext f0 (fun _ _ h=>h)
 have z0:(H.new 114 [Value.int .i64 0,Value.int .u32 0]).size=H.size+1:=am _ _ _
 generalize H.new 114 [Value.int .i64 0,Value.int .u32 0]=H0 at*
 obtain⟨tv0,o0,_⟩:=m0.own
 refine ak.dec (fun h=>absurd h (by omega)) (fun _=>?_)
 refine v1 (ae o0) ?_
 refine ak.dec (fun h=>absurd h (by omega)) (fun _=>?_)
 refine v1 (ae o0) ?_
 refine⟨⟨by omega,by omega⟩,?_⟩
 refine v4 (ae m0.sl) am9 c2 (ae o0) ?_
 refine⟨⟨by omega,by omega⟩,?_⟩
 refine v5 (ae m0.sl) am9 Nat.add_zero c1 b0 ?_
 have e1:ag (fun z=>z=H.size) H0 (H0.wr H.size [Value.int .i64 x,Value.int .u32 (A.bq x:Int)]):=(ag.refl (fun z=>z=H.size) _).wr (fun _=>rfl) _
 have b1:(H0.wr H.size [Value.int .i64 x,Value.int .u32 (A.bq x:Int)]).own H.size=some [Value.int .i64 x,Value.int .u32 (A.bq x:Int)]:=ai b0
 refine v1 (ae b1) ?_
 exact⟨rfl,f0.then e1 (fun z hz=>by omega)⟩
end
end Go.Proofs.YtjlnnljohemifaaGreat

namespace Go.Proofs.YtjlnnljohemifaaGreat
open Go Go.Vc
structure Ed where
 f:Int
 t:Int
 w:Int
 deriving DecidableEq
structure eR(n:Int)(es:List Ed):Prop where
 n0:0≤n
 n1:n≤4096
 len:es.length≤65536
 ends:∀e∈es,0≤e.f∧e.f<n∧0≤e.t∧e.t<n
def ed(e:Ed):List Value:=[i64 e.f,i64 e.t,i64 e.w]
def dM(es:List Ed):List Value:=es.flatMap ed
theorem qm(e:Ed)(es:List Ed):dM (e::es)=ed e++dM es:=rfl
theorem OB(es:List Ed):(dM es).length=es.length*3:=by
 induction es with
 |nil=>rfl
 |cons r rs ih=>rw[qm,ank,ih,anw];show 3+_=_;omega
theorem Qx:∀ (rs:List Ed) (i:Nat) (r:Ed),rs[i]? =some r→((dM rs).drop (i*3)).take 3=ed r:=by
 intro rs
 induction rs with
 |nil=>intro i r h;simp at h
 |cons x rs ih=>
  intro i r h
  cases i with
  |zero=>
   simp only[anG,anl]at h
   subst h
   rw[qm,anU,apa]
   exact List.take_left' rfl
  |succ i=>
   rw[qm,show(i+1)*3=3+i*3 by omega,←ao9,List.drop_left' (by rfl)]
   exact ih i r (by simpa using h)
theorem cI.CA{H:Hp}{a:Option Addr}{n c:Nat}{rs:List Ed}(h:cI H 3 (.slice a n c) n (dM rs)){i:Nat}{r:Ed}(hx:rs[i]? =some r):
  i<n∧∃b o lb,a=some ⟨b,o,none⟩∧H.rd b=some lb∧o+i*3+3≤lb.length∧(lb.drop (o+i*3)).take 3=ed r:=by
 obtain⟨hl,hv⟩:=h
 rw[OB]at hl
 have hi:i<rs.length:=by
  rcases aow i rs.length with h|h
  ·exact h
  ·rw[ans h]at hx;cases hx
 refine⟨by omega,?_⟩
 rcases hv with ⟨hn,_⟩| ⟨b,o,c2,l,hs,eG,mJ,ht⟩
 ·omega
 ·injection hs with et I3 Fy
  refine⟨b,o,l,et,eG,by omega,?_⟩
  have h7:=Qx rs i r hx
  rw[←ht,List.drop_take,apg,ao9,aoA (by omega)]at h7
  exact h7
theorem cE{H:Hp}{v:Value}{size n:Nat}{xs:List Value}{fp:Option Nat}(h:Sl H size v n xs fp):∃a c,v= .slice a n c∧n≤c:=by
 obtain⟨_,h⟩:=h
 cases fp with
 |none=>obtain⟨rfl,rfl⟩:=h;exact⟨_,_,rfl,ano _⟩
 |some b=>obtain⟨l,c,rfl,_,hc,_⟩:=h;exact⟨_,_,rfl,hc⟩
theorem cI.num{H:Hp}{a:Option Addr}{n c:Nat}{xs:List Int}(h:cI H 1 (.slice a n c) n (xs.map i64)){i:Nat}{x:Int}(hx:xs[i]? =some x):
  i<n∧∃b o lb,a=some ⟨b,o,none⟩∧H.rd b=some lb∧lb[o+i]? =some (i64 x):=by
 obtain⟨hl,hv⟩:=h
 rw[anz,ane]at hl
 have hi:=(ana.1 hx).1
 refine⟨by omega,?_⟩
 rcases hv with ⟨hn,_⟩| ⟨b,o,c2,l,hs,eG,mJ,ht⟩
 ·omega
 ·injection hs with et I3 Fy
  refine⟨b,o,l,et,eG,?_⟩
  have h7:(xs.map i64)[i]? =some (i64 x):=by rw[anA,hx];rfl
  rw[←ht,anP,if_pos (by omega),anQ]at h7
  exact h7
theorem cI.nF{H:Hp}{a:Option Addr}{n c:Nat}{rs:List Ed}(h:cI H 3 (.slice a n c) n (dM rs)){i:Nat}{r:Ed}(hx:rs[i]? =some r):
  i<n∧∃b o lb,a=some ⟨b,o,none⟩∧H.rd b=some lb∧o+i*3+3≤lb.length∧(lb.drop (o+i*3)).take 3=ed r∧lb[o+i*3]? =some (i64 r.f)∧lb[o+i*3+1]? =some (i64 r.t)∧lb[o+i*3+2]? =some (i64 r.w):=by
 obtain⟨h1,b,o,lb,h2,h3,h4,h5⟩:=cI.CA h hx
 have key:∀k v,(ed r)[k]? =some v→lb[o+i*3+k]? =some v:=fun k v hv=>by
  rw[←h5,anP]at hv
  split at hv
  ·rw[anQ]at hv;exact hv
  ·cases hv
 exact⟨h1,b,o,lb,h2,h3,h4,h5,by simpa using key 0 _ rfl,key 1 _ rfl,key 2 _ rfl⟩
theorem fg{H:Hp}{a:Option Addr}{c:Nat}{xs:List Int}(h:cI H 1 (.slice a xs.length c) xs.length (xs.map i64))(x:Int)(hm:xs.length≤1000000000):
  af Tryz.prog pF [.slice a xs.length c,i64 x] H fun v H'=>ar ((∃i:Int,v=i64 i∧((i= -1∧x∉xs)∨(0≤i∧xs[i.toNat]? =some x)))∧H'=H):=by
 refine aP pN ?_
 refine vs ?_
 refine aT.intro (fun m env H'=>H'=H∧∃j:Nat,m=xs.length - j∧j≤xs.length∧(∀e∈xs.take j,x≠e)∧env=[(0,.slice a xs.length c),(1,i64 x),(7,i64 xs.length),(8,i64 j)]) xs.length ⟨rfl,0,by omega,by omega,by simp,rfl⟩ ?_
 rintro m env H1 ⟨e1,j,SO,hj,cR,rfl⟩
 obtain rfl:=e1.symm
 refine vs ?_
 refine ak.dec (fun aK=>?_) (fun aK=>?_)<;>refine vs ?_
 ·have fF:j<xs.length:=by omega
  obtain⟨e,he⟩:∃e,xs[j]? =some e:=⟨_,am8 fF⟩
  obtain⟨_,b,o,lb,rfl,zQ,bS⟩:=cI.num h he
  refine⟨⟨by omega,by omega⟩,?_⟩
  refine v4 zQ Int.toNat_natCast ane bS ?_
  refine ak.dec (fun hx=>?_) (fun hx=>?_)<;>refine vs ?_
  ·exact⟨⟨j,rfl,.inr ⟨by omega,by rw[Int.toNat_natCast,he,hx]⟩⟩,rfl⟩
  ·rw[wrap64 (n:=(j:Int)+1) (by omega) (by omega)]
   refine⟨xs.length - (j+1),by omega,trivial,j+1,rfl,by omega,?_,rfl⟩
   intro e' im
   rw[anN,he]at im
   rcases ann.1 im with im|im
   ·exact cR e' im
   ·have:e'=e:=by simpa using im
    rw[this];exact hx
 ·have fF:j=xs.length:=by omega
  subst fF
  rw[anJ]at cR
  exact⟨⟨-1,rfl,.inl ⟨rfl,fun hm=>cR x hm rfl⟩⟩,rfl⟩
theorem tn{H:Hp}{a:Option Addr}{c:Nat}{xs:List Int}(h:cI H 1 (.slice a xs.length c) xs.length (xs.map i64))(x:Int)(hm:xs.length≤1000000000):
  af Tryz.prog mL [.slice a xs.length c,i64 x] H fun v H'=>ar (v= .bool (decide (x∈xs))∧H'=H):=by
 refine aP mM ?_
 refine vs ?_
 refine(fg h x hm).mono ?_
 rintro _ H1 ⟨⟨i,rfl,hi⟩,e⟩
 obtain rfl:=e.symm
 refine vs ?_
 refine⟨anx Value.bool ?_,rfl⟩
 rcases hi with ⟨rfl,h1⟩| ⟨h0,h1⟩
 ·rw[anD h1];rfl
 ·rw[anp (ang h1)]
  exact anp (by omega)
theorem C4{H:Hp}{a:Option Addr}{c:Nat}{xs:List Int}(f:FuncId)(oN:List Value)(q:Int→Bool)(h:cI H 1 (.slice a xs.length c) xs.length (xs.map i64))(C5:ee Tryz.prog f=true)
  (hf:∀x,af Tryz.prog f (i64 x::oN) H fun v Fx=>ar (v= .bool (q x)∧Fx=H))(hm:xs.length≤1000000000):
  af Tryz.prog fu [.slice a xs.length c,.func (.func f) #[] oN.toArray] H fun v H'=>ar ((∃i:Int,v=i64 i∧((i= -1∧∀x∈xs,q x=false)∨(0≤i∧(∀x∈xs.take i.toNat,q x=false)∧∃x,xs[i.toNat]? =some x∧q x=true)))∧H'=H):=by
 refine aP fy ?_
 refine vs ?_
 refine aT.intro (fun m env H'=>H'=H∧∃j:Nat,m=xs.length - j∧j≤xs.length∧(∀e∈xs.take j,q e=false)∧env=[(0,.slice a xs.length c),(1,.func (.func f) #[] oN.toArray),(7,i64 xs.length),(8,i64 j)]) xs.length ⟨rfl,0,by omega,by omega,by simp,rfl⟩ ?_
 rintro m env H1 ⟨e1,j,SO,hj,cR,rfl⟩
 obtain rfl:=e1.symm
 refine vs ?_
 refine ak.dec (fun aK=>?_) (fun aK=>?_)<;>refine vs ?_
 ·have fF:j<xs.length:=by omega
  obtain⟨e,he⟩:∃e,xs[j]? =some e:=⟨_,am8 fF⟩
  obtain⟨_,b,o,lb,rfl,zQ,bS⟩:=cI.num h he
  refine⟨⟨by omega,by omega⟩,?_⟩
  refine v4 zQ Int.toNat_natCast ane bS ?_
  refine⟨C5,?_⟩
  refine af.mono (by simpa using hf e) ?_
  rintro _ H2 ⟨rfl,e2⟩
  obtain rfl:=e2.symm
  refine vs ?_
  cases hx:q e
  ·refine vs ?_
   rw[wrap64 (n:=(j:Int)+1) (by omega) (by omega)]
   refine⟨xs.length - (j+1),by omega,trivial,j+1,rfl,by omega,?_,rfl⟩
   intro e' im
   rw[anN,he]at im
   rcases ann.1 im with im|im
   ·exact cR e' im
   ·have:e'=e:=by simpa using im
    rw[this];exact hx
  ·refine vs ?_
   exact⟨⟨j,rfl,.inr ⟨by omega,by rw[Int.toNat_natCast];exact cR,e,by rw[Int.toNat_natCast];exact he,hx⟩⟩,rfl⟩
 ·have fF:j=xs.length:=by omega
  subst fF
  rw[anJ]at cR
  exact⟨⟨-1,rfl,.inl ⟨rfl,cR⟩⟩,rfl⟩
theorem J5(k:Nat):cz [Value.int .i64 0] k=(List.replicate k (0:Int)).map i64:=by
 unfold cz
 induction k with
 |zero=>rfl
 |succ k ih=>rw[anS,anS,an9,an3,ih];rfl
theorem Eu(l new:List Value)(i:Nat)(h:i+new.length≤l.length):(bf l i new).take i=l.take i:=by
 apply an5
 intro k
 by_cases hk:k<i
 ·rw[anI hk,anI hk,getElem?_splice new l i k h,if_neg (by omega)]
 ·rw[ans (by simp;omega),ans (by simp;omega)]
theorem BD{H:Hp}{v:Value}{xs:List Int}{fp:Option Nat}(s:Sl H 1 v xs.length (xs.map i64) fp)(f:FuncId)(oN:List Value)(q:Int→Bool)(C5:ee Tryz.prog f=true)
  (hf:∀H',ag (fun z=>fp=some z) H H'→∀x,af Tryz.prog f (i64 x::oN) H' fun v Fx=>ar (v= .bool (q x)∧Fx=H'))(hm:xs.length≤1000000000):
  af Tryz.prog lD [v,.func (.func f) #[] oN.toArray] H fun v' H'=>ar (Sl H' 1 v' (xs.filter fun x=> !q x).length ((xs.filter fun x=> !q x).map i64) fp∧ag (fun z=>fp=some z) H H'):=by
 obtain⟨a,c,rfl⟩:=Sl.shape s
 refine aP lE ?_
 refine vs ?_
 refine(C4 f oN q s.rd C5 (hf H (ag.refl _ _)) hm).mono ?_
 rintro _ H1 ⟨⟨i0,rfl,Ej⟩,e⟩
 obtain rfl:=e.symm
 refine vs ?_
 rcases Ej with ⟨rfl,cR⟩| ⟨h0,cR,x0,fO,Uh⟩
 ·refine ak.cK (by simp) ?_
  refine vs ?_
  have:xs.filter (fun x=> !q x)=xs:=by
   rw[aoH]
   intro x hx
   rw[cR x hx];rfl
  rw[this]
  exact⟨s,ag.refl _ _⟩
 obtain⟨i,rfl⟩:∃i:Nat,i0=(i:Int):=⟨i0.toNat,by omega⟩
 rw[Int.toNat_natCast]at cR fO
 have hi:=(ana.1 fO).1
 refine ak.dec (fun h=>by omega) (fun _=>?_)
 refine vs ?_
 obtain⟨_,b,lb0,rfl,_,_⟩:=Sl.xW s fO
 have fN:fp=some b:=by
  cases fp with
  |none=>have:=s.2.2;injection this with h1;cases h1
  |some b'=>obtain⟨_,_,h1,_⟩:=s.2;injection h1 with h1;injection h1 with h1;injection h1 with h1;rw[h1]
 subst fN
 have f0:(xs.take (i+1)).filter (fun x=> !q x)=xs.take i:=by
  rw[anN,fO,apd]
  have h1:(xs.take i).filter (fun x=> !q x)=xs.take i:=by
   rw[aoH]
   intro x hx
   rw[cR x hx];rfl
  rw[h1]
  simp[Uh]
 rw[wrap64 (by omega) (by omega)]
 refine aT.intro (fun m env H'=>∃ (i j:Nat) (ys:List Int),m=xs.length - j∧j≤xs.length∧i<j∧i=((xs.take j).filter fun x=> !q x).length∧ys.length=xs.length∧ys.take i=(xs.take j).filter (fun x=> !q x)∧ys.drop j=xs.drop j∧
  Sl H' 1 (.slice (some ⟨b,0,none⟩) xs.length c) xs.length (ys.map i64) (some b)∧ag (fun z=>some b=some z) H H'∧env=[(0,.slice (some ⟨b,0,none⟩) xs.length c),(1,.func (.func f) #[] oN.toArray),(5,i64 i),(6,i64 j)]) _
  ⟨i,i+1,xs,rfl,by omega,by omega,by rw[f0,anR];omega,rfl,f0.symm,rfl,s,ag.refl _ _,rfl⟩ ?_
 clear cR fO Uh f0 hi h0
 rintro m env H2 ⟨i,j,ys,rfl,hj,I5,oF,X0,hyt,hyd,s2,e2,rfl⟩
 obtain⟨_,lb,c2,et,q2,Fy,Vz,OC⟩:=id s2
 injection et with _ _ et
 subst et
 rw[ane]at Vz OC
 refine vs ?_
 refine ak.dec (fun aK=>?_) (fun aK=>?_)<;>refine vs ?_
 ·have fF:j<xs.length:=by omega
  obtain⟨x,hx⟩:∃x,xs[j]? =some x:=⟨_,am8 fF⟩
  have lO:ys[j]? =some x:=by
   have h1:(ys.drop j)[0]? =(xs.drop j)[0]? :=by rw[hyd]
   rwa[anQ,anQ,Nat.add_zero,hx]at h1
  have bS:lb[j]? =some (i64 x):=s2.get q2 (by rw[anA,lO];rfl)
  have tk:xs.take (j+1)=xs.take j++[x]:=by rw[anN,hx];rfl
  have dj:∀zs:List Int,zs.length=xs.length→(∀k,j<k→zs[k]? =ys[k]?)→zs.drop (j+1)=xs.drop (j+1):=fun zs hz hk=>by
   apply an5
   intro k
   have h1:(ys.drop j)[k+1]? =(xs.drop j)[k+1]? :=by rw[hyd]
   rw[anQ,anQ]at h1 ⊢
   rw[hk _ (by omega),show j+1+k=j+(k+1) by omega]
   exact h1
  refine⟨⟨by omega,by omega⟩,?_⟩
  refine v5 (ae q2) am9 ane Int.toNat_natCast bS ?_
  refine⟨C5,?_⟩
  refine af.mono (by simpa using hf H2 e2 x) ?_
  rintro _ H3 ⟨rfl,e⟩
  obtain rfl:=e.symm
  refine vs ?_
  cases hq:q x
  ·refine vs ?_
   refine⟨⟨by omega,by omega⟩,?_⟩
   refine v4 q2 am9 ane Int.toNat_natCast ?_
   refine⟨by omega,?_⟩
   have s3:=s2.sW q2 i (i64 x)
   have e3:ag (fun z=>some b=some z) H2 (H2.wr b (lb.set i (i64 x))):=(ag.refl (fun z=>some b=some z) _).wr (fun _=>rfl) _
   refine vs ?_
   rw[wrap64 (n:=(i:Int)+1) (by omega) (by omega),wrap64 (n:=(j:Int)+1) (by omega) (by omega)]
   have ff:(xs.take (j+1)).filter (fun x=> !q x)=(xs.take j).filter (fun x=> !q x)++[x]:=by
    rw[tk,apd]
    simp[hq]
   refine⟨xs.length - (j+1),by omega,i+1,j+1,ys.set i x,rfl,by omega,by omega,by rw[ff,ank,←oF];rfl,by rw[anb];exact X0,?_,dj _ (by rw[anb];exact X0) (fun k hk=>by rw[anh (by omega)]),?_,e2.trans e3,rfl⟩
   ·rw[ff,←hyt,anN,ani (by omega),List.take_set_of_le (by omega)]
    rfl
   ·rw[anY];exact s3
  ·refine vs ?_
   rw[wrap64 (n:=(j:Int)+1) (by omega) (by omega)]
   have ff:(xs.take (j+1)).filter (fun x=> !q x)=(xs.take j).filter (fun x=> !q x):=by
    rw[tk,apd]
    simp[hq]
   exact⟨xs.length - (j+1),by omega,i,j+1,ys,rfl,by omega,by omega,by rw[ff];exact oF,X0,by rw[ff];exact hyt,dj ys X0 (fun k _=>rfl),s2,e2,rfl⟩
 ·obtain rfl:j=xs.length:=by omega
  rw[anJ]at hyt oF
  refine⟨⟨by omega,by omega,by omega,by omega⟩,?_⟩
  refine vs ?_
  have hic:¬ (c:Int)=(i:Int):=by omega
  have hlz:(cz [Value.int .i64 0] (xs.length - i)).length=xs.length - i:=by rw[J5];simp
  rw[if_neg hic]
  refine .inr ⟨by simp only[Int.toNat_natCast];omega,b,i,lb,?_,by rw[q2];rfl,?_,?_,?_⟩
  ·simp[Addr.add]
   exact fun h=>h.symm
  ·rw[Int.toNat_natCast,Int.toNat_natCast,J5]
   exact qa _
  ·rw[Int.toNat_natCast,Int.toNat_natCast]
   show i+(xs.length - i)*1≤lb.length
   omega
  ·rw[Int.toNat_natCast,Int.toNat_natCast]
   have e3:ag (fun z=>some b=some z) H2 (H2.wr b (bf lb i (cz [Value.int .i64 0] (xs.length - i)))):=(ag.refl (fun z=>some b=some z) _).wr (fun _=>rfl) _
   have q3:(H2.wr b (bf lb i (cz [Value.int .i64 0] (xs.length - i)))).own b=some (bf lb i (cz [Value.int .i64 0] (xs.length - i))):=ai q2
   refine vs ?_
   refine⟨⟨by omega,by omega,by omega,by omega⟩,?_⟩
   have jQ:¬ (c:Int)=((0:Nat):Int):=by omega
   refine vs ?_
   rw[if_neg jQ]
   rw[←hyt]
   refine⟨⟨by simp,bf lb i (cz [Value.int .i64 0] (xs.length - i)),c,?_,q3,?_,?_,?_⟩,e2.trans e3⟩
   ·have h1:(ys.take i).length=i:=by rw[anR];omega
    rw[h1]
    simp[Jn,Addr.add]
   ·rw[anR];omega
   ·rw[jL];omega
   ·rw[ane,anR,aoA (by omega),Eu _ _ _ (by rw[hlz];omega),List.map_take,←OC,apg,aoA (by omega)]
section
variable {H H' : Hp} {B : SN} {A A' : Ar} {T : Nat → Prop} {x : Int}
theorem Ar.uj{A A':Ar}{x:Int}(h:A.pick=some (x,A'))(ok:vO A):(0≤x∧x<A.g.length)∧¬A.live x∧x∉A'.wt∧x<A'.nx∧A'.g=A.g∧A'.ct=A.ct∧A'.mo=A.mo:=by
 have I6:=ok.nx
 unfold Ar.pick at h
 split at h
 ·rename_i aM
  injection h with h
  injection h with h1 h2
  subst h1 h2
  have hw:A.wt=A.wt.dropLast++[A.wt.getLastD 0]:=by
   conv=>lhs;rw[←List.dropLast_concat_getLast aM]
   rw[aoM,List.getLast?_eq_some_getLast aM]
   rfl
  have hm:A.wt.getLastD 0∈A.wt:=by rw[hw];simp
  have h5:=ok.wl _ hm
  refine⟨by omega,h5.1,fun hd=>?_,h5.2.1,rfl,rfl,rfl⟩
  have fW:=ok.wd
  rw[hw,anW]at fW
  exact fW.2.2 _ hd _ (by simp) rfl
 ·split at h
  ·cases h
  ·rename_i h1 h2
   injection h with h
   injection h with h3 h4
   subst h3 h4
   refine⟨by omega,ok.fr _ (aoE _),fun hm=>?_,by simp only;omega,rfl,rfl,rfl⟩
   have:=ok.wl _ hm
   omega
theorem Ar.mz{A A':Ar}{x y:Int}{v:Nat}{b:Bool}(hx:0≤x∧x<A.g.length)(h:A'.g=A.g.set x.toNat (v,b))(hy:0≤y):A'.live y↔if y=x then b=true else A.live y:=by
 unfold Ar.live
 rw[h]
 by_cases e:y=x
 ·rw[if_pos e,e,ani (by omega)]
  simp[hx.1]
 ·rw[if_neg e,anh (by omega)]
theorem Ar.Dv{A A':Ar}{x y:Int}{v:Nat}{b:Bool}(hx:0≤x∧x<A.g.length)(h:A'.g=A.g.set x.toNat (v,b))(hy:0≤y):A'.bq y=if y=x then v else A.bq y:=by
 unfold Ar.bq
 rw[h,anf,anf]
 by_cases e:y=x
 ·rw[if_pos e,e,ani (by omega)];rfl
 ·rw[if_neg e,anh (by omega)]
theorem vO.out{A A':Ar}{x:Int}(ok:vO A')(hg:A'.g=A.g)(hx:0≤x∧x<A'.g.length)(hl:¬A'.live x)(hw:x∉A'.wt)(hn:x<A'.nx):vO (A'.out x):=by
 obtain⟨b,hb,Cm⟩:=Ar.get hx
 have VA:b=false:=by cases b;rfl;exact absurd (Cm.2 rfl) hl
 refine⟨fun y hy=>?_,ok.wd,fun y hy nj=>?_,?_,?_⟩
 ·obtain⟨h1,h2,h3⟩:=ok.wl y hy
  refine⟨fun h=>?_,h2,h3⟩
  rw[Ar.mz (A:=A') hx rfl h3,if_neg (fun e=>hw (by rw[←e];exact hy))]at h
  exact h1 h
 ·have Vn:=nj.1
  have CB:(A'.nx:Int)≤y:=hy
  rw[Ar.mz (A:=A') hx rfl Vn,if_neg (by omega)]at nj
  exact ok.fr y CB nj
 ·have:=count_set hb (A'.bq x+1) true
  rw[VA]at this
  have h2:=ok.ct
  show A'.ct+1=(((A'.g.set x.toNat (A'.bq x+1,true)).countP (·.2):Nat):Int)
  unfold Ar.aO at h2
  simp at this
  omega
 ·show A'.nx≤(A'.g.set x.toNat _).length
  rw[anb];exact ok.nx
theorem vO.back{A:Ar}{x:Int}(ok:vO A)(hl:A.live x):vO (A.back x):=by
 have hx:=Ar.zP hl
 obtain⟨b,hb,Cm⟩:=Ar.get hx
 have hbt:=Cm.1 hl
 have Cg:x<A.nx:=anC fun h=>ok.fr x (by omega) hl
 have Ui:x∉A.wt:=fun h=>(ok.wl x h).1 hl
 have hnl:¬ (A.back x).live x:=fun h=>by
  rw[Ar.mz (A:=A) hx rfl hx.1,if_pos rfl]at h
  cases h
 have BE:∀y,0≤y→(A.back x).live y→A.live y:=fun y h0 h=>by
  rw[Ar.mz (A:=A) hx rfl h0]at h
  split at h
  ·cases h
  ·exact h
 refine⟨fun y hy=>?_,?_,fun y hy nj=>ok.fr y hy (BE y nj.1 nj),?_,?_⟩
 ·have CB:y∈(if A.bq x<A.mo then A.wt++[x]else A.wt):=hy
  have I4:y∈A.wt∨y=x:=by
   split at CB
   ·rcases ann.1 CB with h|h
    ·exact .inl h
    ·exact .inr (anj.1 h)
   ·exact .inl CB
  rcases I4 with h|h
  ·obtain⟨h1,h2,h3⟩:=ok.wl y h
   exact⟨fun h4=>h1 (BE y h3 h4),h2,h3⟩
  ·rw[h];exact⟨hnl,Cg,hx.1⟩
 ·show(if A.bq x<A.mo then A.wt++[x]else A.wt).Nodup
  split
  ·rw[anW]
   refine⟨ok.wd,by simp,fun u hu v hv e=>Ui ?_⟩
   rw[anj.1 hv]at e
   rw[←e];exact hu
  ·exact ok.wd
 ·have:=count_set hb (A.bq x) false
  rw[hbt]at this
  have h2:=ok.ct
  show A.ct - 1=(((A.g.set x.toNat (A.bq x,false)).countP (·.2):Nat):Int)
  unfold Ar.aO at h2
  simp at this
  omega
 ·show A.nx≤(A.g.set x.toNat _).length
  rw[anb];exact ok.nx
theorem C6(m:Im H B A):af Tryz.prog xe [ptr B.a] H fun v H'=>ar (
  (A.pick=none∧v= .tuple [i64 0,.bool false].toArray∧H'=H)∨(∃x A',A.pick=some (x,A')∧v= .tuple [i64 x,.bool true].toArray∧Im H' B A'∧ag (fun z=>z=B.a) H H')):=by
 obtain⟨tv,o1,s1⟩:=m.own
 obtain⟨wa,wc,rfl⟩:=Sl.shape s1
 have ZG:=m.wtl.1
 have da:=m.len
 have I6:=m.ok.nx
 refine aP xA ?_
 refine v1 (ae o1) ?_
 refine ak.dec (fun h0=>?_) (fun h0=>?_)
 ·have aM:A.wt≠[]:=fun h=>by rw[h]at h0;simp at h0
  obtain⟨k,hk⟩:∃k,A.wt.length=k+1:=⟨A.wt.length - 1,by omega⟩
  obtain⟨x,hx⟩:∃x,A.wt[k]? =some x:=⟨_,am8 (by omega)⟩
  have iP:A.wt.getLastD 0=x:=by
   rw[aoM,List.getLast?_eq_getElem?,hk,Nat.add_sub_cancel,hx]
   rfl
  have hdl:A.wt.dropLast=A.wt.take k:=by rw[aoL,hk,Nat.add_sub_cancel]
  have X1:A.pick=some (x,{A with wt:=A.wt.take k}):=by
   unfold Ar.pick
   rw[if_pos aM,iP,hdl]
  obtain⟨b,lb,c,wF,Px,qb,qk,_,_,_⟩:∃b lb c,Value.slice wa A.wt.length wc= .slice (some ⟨b,0,none⟩) A.wt.length c∧B.fo=some b∧H.own b=some lb∧lb[k]? =some (i64 x)∧k<A.wt.length∧A.wt.length≤lb.length∧True:=by
   obtain⟨h1,b,lb,rfl,q2,q3⟩:=Sl.xW s1 hx
   have qP:=s1
   revert qP
   cases Px:B.fo with
   |none=>intro qP;have:=qP.2.2;injection this with h1;cases h1
   |some b'=>
    intro qP
    obtain⟨_,Uj,c',hs,ho,hc,mJ,_⟩:=qP
    injection hs with et I3 Fy
    injection et with et
    injection et with et
    subst et Fy
    rw[q2]at ho
    injection ho with ho
    subst ho
    exact⟨b,lb,wc,rfl,rfl,q2,q3,h1,by omega,trivial⟩
  injection wF with et I3 Fy
  subst et Fy
  obtain⟨_,Uj,c',hs,ho,hc,mJ,ht⟩:(A.wt.map i64).length=A.wt.length*1∧∃l c',Value.slice (some ⟨b,0,none⟩) A.wt.length wc= .slice (some ⟨b,0,none⟩) A.wt.length c'∧H.own b=some l∧A.wt.length≤c'∧c'*1≤l.length∧l.take (A.wt.length*1)=A.wt.map i64:=by
   have:=s1
   rw[Px]at this
   exact this
  injection hs with _ _ hs
  subst hs
  rw[qb]at ho
  injection ho with ho
  subst ho
  rw[ane]at mJ ht
  refine v1 (ae o1) ?_
  rw[wrap64 (n:=(A.wt.length:Int) - 1) (by omega) (by omega)]
  refine⟨⟨by omega,by omega⟩,?_⟩
  rw[show((A.wt.length:Int) - 1).toNat=k by omega]
  refine v5 (ae qb) am9 ane qk (ae o1) ?_
  rw[wrap64 (n:=(A.wt.length:Int) - 1) (by omega) (by omega)]
  refine⟨⟨by omega,by omega,by omega,by omega⟩,?_⟩
  refine v1 o1 ?_
  rw[if_neg (show¬ (wc:Int)=((0:Nat):Int) by omega)]
  have e1:∀l,ag (fun z=>z=B.a) H (H.wr B.a l):=fun l=>(ag.refl (fun z=>z=B.a) _).wr (fun _=>rfl) _
  have Lc:(A.wt.take k).length=k:=by rw[anR];omega
  refine .inr ⟨x,_,X1,rfl,⟨⟨_,ai o1,?_⟩,(e1 _).own m.sl (Ne.symm m.ne.1),m.ne,m.len,⟨fun y hy=>m.ok.wl y (List.mem_of_mem_take hy),m.ok.wd.sublist (List.take_sublist _ _),m.ok.fr,m.ok.ct,m.ok.nx⟩,m.gs,m.mo⟩,e1 _⟩
  have hb:b≠B.a:=fun e=>m.ne.2.1 (by rw[Px,e])
  refine⟨by simp,?_⟩
  rw[Px]
  refine⟨lb,wc,?_,(e1 _).own qb hb,by rw[Lc];omega,by rw[ane];exact mJ,?_⟩
  ·rw[Lc,show((A.wt.length:Int) - 1).toNat - ((0:Nat):Int).toNat=k by omega]
   simp[Addr.add]
  ·rw[ane,List.map_take,←ht,apg]
   congr 1
   rw[Lc]
   omega
 ·refine v1 (ae o1) ?_
  have he:A.wt=[]:=anL.1 (by omega)
  refine ak.dec (fun h1=>?_) (fun h1=>?_)
  ·refine vs ?_
   refine .inl ⟨?_,rfl,rfl⟩
   unfold Ar.pick
   rw[if_neg (by simp[he]),if_pos (by omega)]
  ·refine v2 (ae o1) o1 ?_
   rw[wrap64 (n:=(A.nx:Int)+1) (by omega) (by omega)]
   have e1:∀l,ag (fun z=>z=B.a) H (H.wr B.a l):=fun l=>(ag.refl (fun z=>z=B.a) _).wr (fun _=>rfl) _
   have q1:∀l,(H.wr B.a l).own B.a=some l:=fun l=>ai o1
   simp(disch:=(first|omega| (simp only[Zs]<;>omega)|fail)) only[go_sem, ↓reduceIte,Zv,ae (q1 _)]
   rw[wrap64 (n:=(A.nx:Int)+1 - 1) (by omega) (by omega)]
   have X1:A.pick=some ((A.nx:Int),{A with nx:=A.nx+1}):=by
    unfold Ar.pick
    rw[if_neg (by simp[he]),if_neg (by omega)]
   rw[show(A.nx:Int)+1 - 1=(A.nx:Int) by omega]
   refine .inr ⟨_,_,X1,rfl,⟨⟨.slice wa A.wt.length wc,q1 _,s1.ext (e1 _) (fun b hb e=>m.ne.2.1 (by rw[hb,e]))⟩,(e1 _).own m.sl (Ne.symm m.ne.1),m.ne,m.len,⟨fun y hy=>by have:=m.ok.wl y hy;exact⟨this.1,by simp only;omega,this.2.2⟩,m.ok.wd,fun y hy=>m.ok.fr y (by simp only at hy;omega),m.ok.ct,by simp only;omega⟩,m.gs,m.mo⟩,e1 _⟩
theorem Ar.No(A:Ar):A.aO≤A.g.length:=ape
theorem C7(m:Im H B A)(VB:∀x:Int,0≤x→x<A.g.length→A.bq x<4294967295):af Tryz.prog xb [ptr B.a] H fun v H'=>ar (
  (A.pick=none∧v= .tuple [fW 0 0,i64 32].toArray∧Im H' B A∧ah H H')∨(∃x A',A.pick=some (x,A')∧v= .tuple [fW x (A.bq x+1),i64 0].toArray∧Im H' B (A'.out x)∧ag B.S H H')):=by
 have eD:=m.slt
 refine aP xy ?_
 refine vs ?_
 have f0:ah H (H.new 114 [Value.int .i64 0,Value.int .u32 0]):=(ag.refl _ _).new _ _
 have b0:(H.new 114 [Value.int .i64 0,Value.int .u32 0]).own H.size=some [Value.int .i64 0,Value.int .u32 0]:=ax _ _ _
 have m0:=m.ext f0 (fun _ _ h=>h)
 generalize H.new 114 [Value.int .i64 0,Value.int .u32 0]=H0 at*
 have C8:∀z,B.S z→z≠H.size:=fun z hz=>by have:=eD z hz;omega
 refine(C6 m0).mono ?_
 rintro _ H1 (⟨hp,rfl,e⟩| ⟨x,A',hp,rfl,m1,e1⟩)
 ·obtain rfl:=e.symm
  refine v1 b0 ?_
  have e1:ag (fun z=>z=H.size) H0 (H0.wr H.size [Value.int .i64 0,Value.int .u32 0]):=(ag.refl (fun z=>z=H.size) _).wr (fun _=>rfl) _
  have b1:(H0.wr H.size [Value.int .i64 0,Value.int .u32 0]).own H.size=some [Value.int .i64 0,Value.int .u32 0]:=ai b0
  refine v1 (ae b1) ?_
  exact .inl ⟨hp,rfl,m0.ext e1 (fun z hz e=>C8 z hz e),f0.then e1 (fun z hz=>by omega)⟩
 obtain⟨tm,lG,Ui,Cg,hg,ZH,Uk⟩:=Ar.uj hp m.ok
 have b1:=e1.own b0 (fun e=>C8 B.a (.inl rfl) e.symm)
 obtain⟨BB,o1,s1⟩:=m1.own
 have da:=m1.len
 have ZI:0≤x∧x<A'.g.length:=by rw[hg];exact tm
 obtain⟨b,hb,Cm⟩:=Ar.get (A:=A') ZI
 have OD:A'.bq x=A.bq x:=by unfold Ar.bq;rw[hg]
 have hgb:=VB x tm.1 tm.2
 obtain⟨c1,c2⟩:=tj hb
 obtain⟨w1,_⟩:=BC hb
 have hl:=oM A'.g
 refine v1 (ae o1) ?_
 refine⟨⟨by omega,by omega⟩,?_⟩
 refine v5 (ae m1.sl) m1.sl am9 Nat.add_zero c1 ?_
 refine⟨by omega,?_⟩
 rw[SP (n:=(A'.bq x:Int)+1) (by omega) (by omega),show(A'.bq x:Int)+1=((A'.bq x+1:Nat):Int) by omega]
 refine v1 w1 ?_
 have e2:ag (fun z=>z=B.sb) H1 (H1.wr B.sb (dc (A'.g.set x.toNat (A'.bq x+1,b)))):=(ag.refl (fun z=>z=B.sb) _).wr (fun _=>rfl) _
 have q2:(H1.wr B.sb (dc (A'.g.set x.toNat (A'.bq x+1,b)))).own B.sb=some (dc (A'.g.set x.toNat (A'.bq x+1,b))):=ai m1.sl
 generalize H1.wr B.sb (dc (A'.g.set x.toNat (A'.bq x+1,b)))=H2 at*
 have nA:(A'.g.set x.toNat (A'.bq x+1,b))[x.toNat]? =some (A'.bq x+1,b):=ani (by omega)
 obtain⟨d1,_⟩:=tj nA
 have w2:=(BC nA).2 true
 rw[List.set_set]at w2
 have nj:=oM (A'.g.set x.toNat (A'.bq x+1,b))
 rw[anb]at nj
 refine v3 q2 am9 Nat.add_zero ?_
 refine⟨by omega,?_⟩
 refine v1 w2 ?_
 have e3:ag (fun z=>z=B.sb) H2 (H2.wr B.sb (dc (A'.g.set x.toNat (A'.bq x+1,true)))):=(ag.refl (fun z=>z=B.sb) _).wr (fun _=>rfl) _
 have q3:(H2.wr B.sb (dc (A'.g.set x.toNat (A'.bq x+1,true)))).own B.sb=some (dc (A'.g.set x.toNat (A'.bq x+1,true))):=ai q2
 generalize H2.wr B.sb (dc (A'.g.set x.toNat (A'.bq x+1,true)))=H3 at*
 have C3:=e2.trans e3
 have o3:=C3.own o1 m.ne.1
 have aey:=m1.ok.ct
 have ZJ:=Ar.No A'
 refine v2 (ae o3) o3 ?_
 rw[wrap64 (n:=A'.ct+1) (by omega) (by omega)]
 have e4:∀l,ag (fun z=>z=B.a) H3 (H3.wr B.a l):=fun l=>(ag.refl (fun z=>z=B.a) _).wr (fun _=>rfl) _
 have q4:∀l,(H3.wr B.a l).own B.a=some l:=fun l=>ai o3
 have Py:=(e4 [.slice (some ⟨B.sb,0,none⟩) A'.g.length A'.g.length,BB,i64 A'.nx,i64 (A'.ct+1),.int .u32 (A'.mo:Int)]).own q3 (Ne.symm m.ne.1)
 have b3:=(e4 [.slice (some ⟨B.sb,0,none⟩) A'.g.length A'.g.length,BB,i64 A'.nx,i64 (A'.ct+1),.int .u32 (A'.mo:Int)]).own (C3.own b1 (fun e=>C8 B.sb (.inr (.inl rfl)) e.symm)) (fun e=>C8 B.a (.inl rfl) e.symm)
 have SI:(A'.g.set x.toNat (A'.bq x+1,true))[x.toNat]? =some (A'.bq x+1,true):=ani (by omega)
 obtain⟨d3,_⟩:=tj SI
 have s4:=(s1.ext C3 (fun b hb e=>m.ne.2.2 (by rw[hb,e]))).ext (e4 [.slice (some ⟨B.sb,0,none⟩) A'.g.length A'.g.length,BB,i64 A'.nx,i64 (A'.ct+1),.int .u32 (A'.mo:Int)]) (fun b hb e=>m.ne.2.1 (by rw[hb,e]))
 have m4:Im (H3.wr B.a [.slice (some ⟨B.sb,0,none⟩) A'.g.length A'.g.length,BB,i64 A'.nx,i64 (A'.ct+1),.int .u32 (A'.mo:Int)]) B (A'.out x):=by
  refine⟨⟨BB,?_,s4⟩,Py,m.ne,?_,m1.ok.out hg ZI (fun h=>lG (by unfold Ar.live at h ⊢;rw[hg]at h;exact h)) Ui Cg,fun y hy=>?_,m1.mo⟩
  ·show _=some [.slice (some ⟨B.sb,0,none⟩) (A'.g.set x.toNat (A'.bq x+1,true)).length (A'.g.set x.toNat (A'.bq x+1,true)).length,BB,i64 A'.nx,i64 (A'.ct+1),.int .u32 (A'.mo:Int)]
   rw[anb]
   exact q4 _
  ·show(A'.g.set x.toNat (A'.bq x+1,true)).length≤_
   rw[anb];exact da
  ·rcases aoe hy with h|h
   ·exact m1.gs y h
   ·rw[h];simp only;omega
 have e4':=e4 [.slice (some ⟨B.sb,0,none⟩) A'.g.length A'.g.length,BB,i64 A'.nx,i64 (A'.ct+1),.int .u32 (A'.mo:Int)]
 generalize H3.wr B.a [.slice (some ⟨B.sb,0,none⟩) A'.g.length A'.g.length,BB,i64 A'.nx,i64 (A'.ct+1),.int .u32 (A'.mo:Int)]=H4 at*
 have ul:ag B.S H H4:=((f0.mono fun _ _ h=>h.elim).trans (e1.mono fun z _ h=>.inl h)).trans ((C3.mono fun z _ h=>.inr (.inl h)).trans (e4'.mono fun z _ h=>.inl h))
 refine v5 (ae Py) am9 Nat.add_zero d3 b3 ?_
 have e5:ag (fun z=>z=H.size) H4 (H4.wr H.size [Value.int .i64 x,Value.int .u32 ((A'.bq x+1:Nat):Int)]):=(ag.refl (fun z=>z=H.size) _).wr (fun _=>rfl) _
 have b5:(H4.wr H.size [Value.int .i64 x,Value.int .u32 ((A'.bq x+1:Nat):Int)]).own H.size=some [Value.int .i64 x,Value.int .u32 ((A'.bq x+1:Nat):Int)]:=ai b3
 refine v1 (ae b5) ?_
 refine .inr ⟨x,A',hp,by rw[OD];rfl,m4.ext e5 (fun z hz e=>C8 z hz e),⟨an8 ul.size e5.size,fun z hz hn=>?_⟩⟩
 rw[e5.aI z (anB hz ul.size) (fun e=>by omega),ul.aI z hz hn]
theorem C9(m:Im H B A){x:Int}(hx:A.live x):af Tryz.prog wX [ptr B.a,fW x (A.bq x)] H fun v H'=>ar (v=i64 0∧∃Qy,Im H' ⟨B.a,B.sb,Qy⟩ (A.back x)∧ag B.S H H'∧∀z,Qy=some z→B.fo=some z∨H.size≤z):=by
 have eD:=m.slt
 have tm:=Ar.zP hx
 obtain⟨b,hb,Cm⟩:=Ar.get (A:=A) tm
 obtain rfl:=Cm.1 hx
 have hl:=oM A.g
 have w1:=(BC hb).2 false
 have da:=m.len
 have aey:=m.ok.ct
 have ZJ:=Ar.No A
 refine aP xu ?_
 refine vs ?_
 have f0:ah H (H.new 114 [i64 x,.int .u32 (A.bq x:Int)]):=(ag.refl _ _).new _ _
 have b0:(H.new 114 [i64 x,.int .u32 (A.bq x:Int)]).own H.size=some [i64 x,.int .u32 (A.bq x:Int)]:=ax _ _ _
 have m0:=m.ext f0 (fun _ _ h=>h)
 generalize H.new 114 [i64 x,.int .u32 (A.bq x:Int)]=H0 at*
 have C8:∀z,B.S z→z≠H.size:=fun z hz=>by have:=eD z hz;omega
 refine(rj m0 x (A.bq x)).mono ?_
 rintro _ H1 ⟨rfl,f1⟩
 rw[anp ⟨hx,rfl⟩]
 have m1:=m0.ext f1 (fun _ _ h=>h)
 have b1:=f1.own b0 (fun h=>h)
 obtain⟨BB,o1,s1⟩:=m1.own
 refine v2 (ae o1) (ae b1) ?_
 refine⟨⟨by omega,by omega⟩,?_⟩
 refine v2 m1.sl am9 ?_
 refine⟨by omega,?_⟩
 refine v1 w1 ?_
 have e2:ag (fun z=>z=B.sb) H1 (H1.wr B.sb (dc (A.g.set x.toNat (A.bq x,false)))):=(ag.refl (fun z=>z=B.sb) _).wr (fun _=>rfl) _
 have q2:(H1.wr B.sb (dc (A.g.set x.toNat (A.bq x,false)))).own B.sb=some (dc (A.g.set x.toNat (A.bq x,false))):=ai m1.sl
 generalize H1.wr B.sb (dc (A.g.set x.toNat (A.bq x,false)))=H2 at*
 have o2:=e2.own o1 m.ne.1
 have b2:=e2.own b1 (fun e=>C8 B.sb (.inr (.inl rfl)) e.symm)
 refine v2 (ae o2) o2 ?_
 rw[wrap64 (n:=A.ct - 1) (by omega) (by omega)]
 have e3:∀l,ag (fun z=>z=B.a) H2 (H2.wr B.a l):=fun l=>(ag.refl (fun z=>z=B.a) _).wr (fun _=>rfl) _
 have q3:∀l,(H2.wr B.a l).own B.a=some l:=fun l=>ai o2
 have b3:=fun l=>(e3 l).own b2 (fun e=>C8 B.a (.inl rfl) e.symm)
 have q2':=fun l=>(e3 l).own q2 (Ne.symm m.ne.1)
 have s3:=fun l=>(s1.ext e2 (fun b hb e=>m.ne.2.2 (by rw[hb,e]))).ext (e3 l) (fun b hb e=>m.ne.2.1 (by rw[hb,e]))
 obtain⟨l3,Qw⟩:∃l3,l3=[.slice (some ⟨B.sb,0,none⟩) A.g.length A.g.length,BB,i64 A.nx,i64 (A.ct - 1),.int .u32 (A.mo:Int)]:=⟨_,rfl⟩
 have Py:=q3 l3
 have VC:=b3 l3
 have SQ:=q2' l3
 have s3':=s3 l3
 have X2:=e3 l3
 rw[Qw]at Py VC SQ s3' X2
 generalize H2.wr B.a [.slice (some ⟨B.sb,0,none⟩) A.g.length A.g.length,BB,i64 A.nx,i64 (A.ct - 1),.int .u32 (A.mo:Int)]=H3 at*
 have C3:ag B.S H H3:=((f0.mono fun _ _ h=>h.elim).trans (f1.mono fun _ _ h=>h.elim)).trans ((e2.mono fun z _ h=>.inr (.inl h)).trans (X2.mono fun z _ h=>.inl h))
 have sr:=m.ok.back hx
 have hgs:∀y∈(A.back x).g,y.1≤4294967295:=fun y hy=>by
  rcases aoe hy with h|h
  ·exact m.gs y h
  ·rw[h]
   exact m.gs (A.bq x,true) (ang hb)
 have aV:(A.back x).g.length=A.g.length:=anb ..
 refine v2 (ae VC) (ae Py) ?_
 refine ak.dec (fun hm=>?_) (fun hm=>?_)
 rotate_left
 ·refine vs ?_
  have UW:(A.back x).wt=A.wt:=by show(if A.bq x<A.mo then _ else _)=_;rw[if_neg (by omega)]
  refine⟨rfl,B.fo,⟨⟨BB,by rw[aV];exact Py,by rw[UW];exact s3'⟩,SQ,m.ne,by rw[aV];exact da,sr,hgs,m.mo⟩,C3,fun z hz=>.inl hz⟩
 have UW:(A.back x).wt=A.wt++[x]:=by show(if A.bq x<A.mo then _ else _)=_;rw[if_pos (by omega)]
 have ZG:=m.wtl.1
 obtain⟨ta,tc,rfl⟩:=Sl.shape s3'
 refine vs ?_
 refine jk.intro (fun H'=>True) trivial ?_
 refine vs ?_
 have U9:H.size<H3.size:=az VC
 have has:B.a<H3.size:=az Py
 have fin:∀ (K:Value→Hp→Prop),(∀w' H4 cJ,Sl H4 1 w' (A.wt++[x]).length ((A.wt++[x]).map i64) cJ→(cJ=B.fo∨∃z,cJ=some z∧H3.size≤z∧z<H4.size)→ag (fun z=>B.fo=some z) H3 H4→K w' H4)→
   fQ 3 1 8 [i64 0] (.slice ta A.wt.length tc) (.slice (some ⟨H3.size,0,none⟩) 1 1) (H3.new 3 [i64 x]) K:=fun K hK=>by
  exact Qv s3' x (by omega) fun w' H' cJ h1 h2 h3=>hK w' H' cJ h2 h1 h3
 refine Du.intro ?C ?D
 case' C=>
  refine v2 (ae Py) (ae VC) ?_
 case' D=>
  refine v2 (ae Py) (ae VC) ?_
  refine Du.intro ?E ?F
  case' E=>
   refine v2 (ae Py) (ae VC) ?_
  case' F=>
   refine v2 (ae Py) (ae VC) ?_
 all_goals
  refine fin _ fun w' H4 cJ s4 fN e4=>?_
  obtain⟨wa,wc,rfl⟩:=Sl.shape s4
  have o4:=e4.own Py (fun e=>m.ne.2.1 e)
  have q4:=e4.own SQ (fun e=>m.ne.2.2 e)
  refine v1 o4 ?_
  have e5:∀l,ag (fun z=>z=B.a) H4 (H4.wr B.a l):=fun l=>(ag.refl (fun z=>z=B.a) _).wr (fun _=>rfl) _
  have ajh:=C3.size
  refine⟨rfl,cJ,⟨⟨_,by rw[aV];exact ai o4,?_⟩,(e5 _).own q4 (Ne.symm m.ne.1),⟨m.ne.1,fun h=>?_,fun h=>?_⟩,by rw[aV];exact da,sr,hgs,m.mo⟩,?_,fun z hz=>?_⟩
  ·rw[UW]
   refine s4.ext (e5 _) (fun b hb e=>?_)
   rcases fN with h| ⟨y,h,h2,_⟩
   ·exact m.ne.2.1 (by rw[←h,hb,e])
   ·rw[h]at hb;injection hb with hb;omega
  ·rcases fN with h2| ⟨y,h2,h3,_⟩
   ·exact m.ne.2.1 (by rw[←h2];exact h)
   ·rw[h2]at h;injection h with h;simp only at h;omega
  ·rcases fN with h2| ⟨y,h2,h3,_⟩
   ·exact m.ne.2.2 (by rw[←h2];exact h)
   ·have:=az SQ
    rw[h2]at h;injection h with h;simp only at h;omega
  ·exact(C3.trans (e4.mono fun z _ h=>.inr (.inr h))).trans ((e5 _).mono fun z _ h=>.inl h)
  ·rcases fN with h2| ⟨y,h2,h3,_⟩
   ·exact .inl (by rw[←h2];exact hz)
   ·rw[h2]at hz;injection hz with hz;exact .inr (by omega)
end
end Go.Proofs.YtjlnnljohemifaaGreat

namespace Go.Proofs.YtjlnnljohemifaaGreat
open Go Go.Vc
def Nw.kT(w:Nw)(g x:Int):Prop:=w.has g∧(0≤x∧x<w.cs.length)∧¬cS w.cs x
def Nw.cW(w:Nw)(x k s:Int):Prop:=cS w.cs x∧∀y,w.cs[x.toNat]? =some y→¬eX y.2.1 y.2.2 k s
def cr(I:Hp→(Nat→Prop)→Nw→Prop)(S:Nat→Prop)(H H':Hp)(w':Nw):Prop:=
 ∃S':Nat→Prop,I H' S' w'∧ag S H H'∧∀z,S' z→S z∨H.size≤z
theorem cr.same{I:Hp→(Nat→Prop)→Nw→Prop}{S:Nat→Prop}{H H':Hp}{w':Nw}(h:I H' S w')(e:ag S H H'):cr I S H H' w':=⟨S,h,e,fun z hz=>.inl hz⟩
structure wG(ov:Value)(I:Hp→(Nat→Prop)→Nw→Prop):Prop where
 slt:∀ {H S w},I H S w→∀z,S z→z<H.size
 ext:∀ {H H' S w} {T:Nat→Prop},I H S w→ag T H H'→(∀z,S z→¬T z)→I H' S w
 cells:∀ {H S w},I H S w→∃c C,CQ H c C w
 has:∀ {H S w} (g:Int),I H S w→gC Tryz.prog ov "Has" [i64 g] H fun v H'=>v= .bool (decide (w.has g))∧H=H'
 make:∀ {H S w},I H S w→gC Tryz.prog ov "Make" [] H fun v H'=>
  (w.hs.length=65537∧v=i64 0∧cr I S H H' w)∨(w.hs.length≠65537∧v=i64 w.hs.length∧cr I S H H' w.make)
 insert:∀ {H S w} (g x k s:Int),I H S w→gC Tryz.prog ov "Insert" [i64 g,i64 x,rZ k s] H fun v H'=>
  (¬w.kT g x∧v= .bool false∧cr I S H H' w)∨(w.kT g x∧v= .bool true∧cr I S H H' (w.put x (g,k,s)))
 min:∀ {H S w} (g:Int),I H S w→gC Tryz.prog ov "Min" [i64 g] H fun v H'=>
  (w.len g=0∧v= .tuple [i64 0,.bool false].toArray∧cr I S H H' w)∨(∃x,w.first g x∧v= .tuple [i64 x,.bool true].toArray∧cr I S H H' w)
 extract:∀ {H S w} (g:Int),I H S w→gC Tryz.prog ov "Extract" [i64 g] H fun v H'=>
  (w.len g=0∧v= .tuple [i64 0,.bool false].toArray∧cr I S H H' w)∨(∃x,w.first g x∧v= .tuple [i64 x,.bool true].toArray∧cr I S H H' (w.put x (0,0,0)))
 kq:∀ {H S w} (x k s:Int),I H S w→gC Tryz.prog ov "Decrease" [i64 x,rZ k s] H fun v H'=>
  (¬w.cW x k s∧v= .bool false∧cr I S H H' w)∨(w.cW x k s∧v= .bool true∧∃y,w.cs[x.toNat]? =some y∧cr I S H H' (w.put x (y.1,k,s)))
 entry:∀ {H S w} (x:Int),I H S w→gC Tryz.prog ov "Entry" [i64 x] H fun v H'=>I H' S w∧ah H H'∧
  ((¬cS w.cs x∧v= .tuple [rZ 0 0,.bool false].toArray)∨(cS w.cs x∧∃y,w.cs[x.toNat]? =some y∧v= .tuple [rZ y.2.1 y.2.2,.bool true].toArray))
structure Qz(w:Nw)(A:Ar):Prop where
 len:w.cs.length=A.g.length
 live:∀x,cS w.cs x↔A.live x
def Cn(H:Hp)(s:Nat)(S:Nat→Prop)(w:Nw)(A:Ar)(q:Int):Prop:=∃ (t:TypeId) (vv:Value) (I:Hp→(Nat→Prop)→Nw→Prop) (Sn:Nat→Prop) (B:SN) (k d:Int),
 wG (.iface t vv) I∧I H Sn w∧Im H B A∧H.own s=some [i64 k,i64 d,ptr B.a,.iface t vv,u64 q]∧(∀z,Sn z→¬B.S z∧z≠s)∧¬B.S s∧(∀z,S z↔Sn z∨B.S z∨z=s)∧Qz w A
theorem Cn.slt{H:Hp}{s:Nat}{S:Nat→Prop}{w:Nw}{A:Ar}{q:Int}(h:Cn H s S w A q):∀z,S z→z<H.size:=by
 obtain⟨t,vv,I,Sn,B,k,d,n,hi,m,ho,d1,d2,hS,hl⟩:=h
 intro z hz
 rcases(hS z).1 hz with h|h|h
 ·exact n.slt hi z h
 ·exact m.slt z h
 ·rw[h];exact az ho
theorem Cn.ext{H H':Hp}{s:Nat}{S T:Nat→Prop}{w:Nw}{A:Ar}{q:Int}(h:Cn H s S w A q)(e:ag T H H')(hd:∀z,S z→¬T z):Cn H' s S w A q:=by
 obtain⟨t,vv,I,Sn,B,k,d,n,hi,m,ho,d1,d2,hS,hl⟩:=h
 exact⟨t,vv,I,Sn,B,k,d,n,n.ext hi e (fun z hz=>hd z ((hS z).2 (.inl hz))),m.ext e (fun z hz=>hd z ((hS z).2 (.inr (.inl hz)))),e.own ho (hd _ ((hS _).2 (.inr (.inr rfl)))),d1,d2,hS,hl⟩
theorem Cn.lnk{H:Hp}{s:Nat}{S:Nat→Prop}{w:Nw}{A:Ar}{q:Int}(h:Cn H s S w A q):Qz w A∧vO A∧A.g.length≤65536:=by
 obtain⟨t,vv,I,Sn,B,k,d,n,hi,m,ho,d1,d2,hS,hl⟩:=h
 exact⟨hl,m.ok,m.len⟩
def I7(s:Nat)(S:Nat→Prop)(H H':Hp)(w':Nw)(A':Ar)(q':Int):Prop:=∃S',Cn H' s S' w' A' q'∧ag S H H'∧∀z,S' z→S z∨H.size≤z
section
variable {H H' : Hp} {s : Nat} {S : Nat → Prop} {w : Nw} {A : Ar} {q : Int}
theorem LY(H:Hp)(T:TypeId)(z l:List Value):ah H ((H.new T z).wr H.size l)∧((H.new T z).wr H.size l).own H.size=some l∧((H.new T z).wr H.size l).size=H.size+1:=by
 have f0:ah H (H.new T z):=(ag.refl _ _).new _ _
 have e1:ag (fun x=>x=H.size) (H.new T z) ((H.new T z).wr H.size l):=(ag.refl (fun x=>x=H.size) _).wr (fun _=>rfl) _
 exact⟨f0.then e1 (fun z hz=>by omega),ai (ax _ _ _),by rw[dT,am]⟩
theorem J6{H:Hp}{b:Nat}{l0:List Value}(h:H.own b=some l0)(l:List Value):ag (fun x=>x=b) H (H.wr b l)∧(H.wr b l).own b=some l:=⟨(ag.refl (fun x=>x=b) _).wr (fun _=>rfl) _,ai h⟩
theorem Da(h:Cn H s S w A q)(hl:w.hs.length<65537):af Tryz.prog wT [ptr s] H fun v H'=>ar (v= .tuple [i64 w.hs.length,i64 0].toArray∧I7 s S H H' w.make A q):=by
 obtain⟨t,vv,I,Sn,B,k,d,n,hi,m,ho,d1,d2,hS,Gt⟩:=h
 obtain⟨c,C,cq⟩:=n.cells hi
 have fP:=cq.pos
 refine aP xo ?_
 refine v1 (ae ho) ?_
 refine(n.make hi).mono ?_
 rintro _ H1 (⟨h1,_⟩| ⟨_,rfl,Db,hi',e1,et⟩)
 ·omega
 refine vs ?_
 refine ak.dec (fun hh=>by omega) (fun _=>?_)
 refine vs ?_
 have yD:=m.slt
 have hos:=az ho
 refine⟨rfl,fun z=>Db z∨B.S z∨z=s,⟨t,vv,I,Db,B,k,d,n,hi',m.ext e1 (fun z hz h=>(d1 z h).1 hz),e1.own ho (fun h=>(d1 _ h).2 rfl),fun z hz=>?_,d2,fun z=>Iff.rfl,⟨Gt.len,Gt.live⟩⟩,e1.mono fun z _ h=>(hS z).2 (.inl h),fun z hz=>?_⟩
 ·rcases et z hz with h|h
  ·exact d1 z h
  ·exact⟨fun h2=>by have:=yD z h2;omega,by omega⟩
 ·rcases hz with h|h
  ·rcases et z h with h|h
   ·exact .inl ((hS z).2 (.inl h))
   ·exact .inr h
  ·exact .inl ((hS z).2 (.inr h))
theorem Qz.put{w:Nw}{A A':Ar}(l:Qz w A){x:Int}(hx:0≤x∧x<A.g.length){y:Ce}{v:Nat}(hg:A'.g=A.g.set x.toNat (v,decide (0<y.1))):Qz (w.put x y) A':=by
 have FA:0≤x∧x<w.cs.length:=by rw[l.len];exact hx
 refine⟨by rw[hg,anb];simp[Nw.put,l.len],fun z=>?_⟩
 by_cases h0:0≤z
 ·rw[Ar.mz hx hg h0,←bk,dK FA]
  by_cases e:z=x
  ·rw[if_pos e,if_pos e];simp
  ·rw[if_neg e,if_neg e,bk]
   exact l.live z
 ·exact⟨fun h=>absurd h.1 h0,fun h=>absurd h.1 h0⟩
theorem Ew(h:Cn H s S w A q){g key:Int}(hg:w.has g)(VB:∀x:Int,0≤x→x<A.g.length→A.bq x<4294967295)(hq:0≤q∧q<18446744073709551615):af Tryz.prog yO [ptr s,i64 g,i64 key] H fun v H'=>ar (
  (A.pick=none∧v= .tuple [fW 0 0,i64 32].toArray∧I7 s S H H' w A q)∨(∃x A',A.pick=some (x,A')∧v= .tuple [fW x (A.bq x+1),i64 0].toArray∧I7 s S H H' (w.put x (g,key,q+1)) (A'.out x) (q+1))):=by
 have eD:=h.slt
 obtain⟨t,vv,I,Sn,B,k,d,n,hi,m,ho,d1,d2,hS,Gt⟩:=h
 refine aP zf ?_
 refine vs ?_
 have f0:ah H (H.new 114 [Value.int .i64 0,Value.int .u32 0]):=(ag.refl _ _).new _ _
 have b0:(H.new 114 [Value.int .i64 0,Value.int .u32 0]).own H.size=some [Value.int .i64 0,Value.int .u32 0]:=ax _ _ _
 have z0:(H.new 114 [Value.int .i64 0,Value.int .u32 0]).size=H.size+1:=am _ _ _
 generalize H.new 114 [Value.int .i64 0,Value.int .u32 0]=H0 at*
 have m0:=m.ext f0 (fun _ _ h=>h)
 have Ej:=n.ext hi f0 (fun _ _ h=>h)
 have o0:=f0.own ho (fun h=>h)
 have aM:∀z,S z→z≠H.size:=fun z hz=>by have:=eD z hz;omega
 refine v1 (ae o0) ?_
 refine(n.has g Ej).mono ?_
 rintro _ _ ⟨rfl,rfl⟩
 rw[anp hg]
 refine v1 (ae o0) ?_
 refine(C7 m0 VB).mono ?_
 rintro _ H1 (⟨hp,rfl,m1,f1⟩| ⟨x,A',hp,rfl,m1,e1⟩)
 ·have b1:=f1.own b0 (fun h=>h)
  refine vs ?_
  obtain⟨f2,b2,z2⟩:=LY H1 114 [Value.int .i64 0,Value.int .u32 0] [i64 0,Value.int .u32 ((0:Nat):Int)]
  generalize (H1.new 114 [Value.int .i64 0,Value.int .u32 0]).wr H1.size [i64 0,Value.int .u32 ((0:Nat):Int)]=H2 at*
  have b3:=f2.own b1 (fun h=>h)
  refine ak.dec (fun hh=>by omega) (fun _=>?_)
  refine v1 b3 ?_
  obtain⟨e4,b4⟩:=J6 b3 [Value.int .i64 0,Value.int .u32 0]
  refine v1 (ae b4) ?_
  have hse:ag S H (H2.wr H.size [Value.int .i64 0,Value.int .u32 0]):=by
   have h1:=(f0.trans f1).trans f2
   exact(h1.then e4 (fun z hz=>by omega)).mono fun _ _ h=>h.elim
  refine .inl ⟨hp,rfl,S,⟨t,vv,I,Sn,B,k,d,n,?_,?_,?_,d1,d2,hS,Gt⟩,hse,fun z hz=>.inl hz⟩
  ·exact n.ext (n.ext (n.ext Ej f1 (fun _ _ h=>h)) f2 (fun _ _ h=>h)) e4 (fun z hz=>aM z ((hS z).2 (.inl hz)))
  ·exact(m1.ext f2 (fun _ _ h=>h)).ext e4 (fun z hz=>aM z ((hS z).2 (.inr (.inl hz))))
  ·exact e4.own (f2.own (f1.own o0 (fun h=>h)) (fun h=>h)) (aM s ((hS s).2 (.inr (.inr rfl))))
 ·obtain⟨tm,lG,_,_,hAg,_,_⟩:=Ar.uj hp m.ok
  have b1:=e1.own b0 (fun h=>aM _ ((hS _).2 (.inr (.inl h))) rfl)
  have o1:=e1.own o0 d2
  have OA:=n.ext Ej e1 (fun z hz=>(d1 z hz).1)
  refine vs ?_
  obtain⟨f2,b2,z2⟩:=LY H1 114 [Value.int .i64 0,Value.int .u32 0] [i64 x,Value.int .u32 ((A.bq x+1:Nat):Int)]
  generalize (H1.new 114 [Value.int .i64 0,Value.int .u32 0]).wr H1.size [i64 x,Value.int .u32 ((A.bq x+1:Nat):Int)]=H2 at*
  have b3:=f2.own b1 (fun h=>h)
  have o2:=f2.own o1 (fun h=>h)
  have ly:=n.ext OA f2 (fun _ _ h=>h)
  have m2:=m1.ext f2 (fun _ _ h=>h)
  refine ak.dec (fun _=>?_) (fun hh=>absurd trivial hh)
  refine v2 (ae o2) o2 ?_
  rw[qn (n:=q+1) (by omega) (by omega)]
  obtain⟨e4,o3⟩:=J6 o2 [i64 k,i64 d,ptr B.a,.iface t vv,u64 (q+1)]
  have Of:=az o2
  have J7:=e1.size
  have ajj:=az ho
  have b5:=e4.own b3 (fun e=>aM s ((hS s).2 (.inr (.inr rfl))) e.symm)
  have b6:=e4.own b2 (fun e=>by omega)
  have pe:=n.ext ly e4 (fun z hz=>(d1 z hz).2)
  have m3:=m2.ext e4 (fun z hz e=>d2 (by rw[←e];exact hz))
  generalize H2.wr s [i64 k,i64 d,ptr B.a,.iface t vv,u64 (q+1)]=H3 at*
  refine v2 (ae o3) (ae b6) ?_
  refine(n.insert g x key (q+1) pe).mono ?_
  obtain⟨c,C,cq⟩:=n.cells pe
  have Cg:¬cS w.cs x:=fun h=>lG ((Gt.live x).1 h)
  rintro _ H4 (⟨bJ,_⟩| ⟨_,rfl,Db,hi4,e5,OC⟩)
  ·exact absurd ⟨hg,by rw[Gt.len];exact tm,Cg⟩ bJ
  have VD:=e4.size
  have Io:∀z,H.size≤z→¬Sn z:=fun z hz h=>by have:=eD z ((hS z).2 (.inl h));omega
  have b7:=e5.own b6 (Io _ (by omega))
  have b8:=e5.own b5 (Io _ (ano _))
  refine v2 (ae b7) b8 ?_
  obtain⟨e9,b9⟩:=J6 b8 [i64 x,Value.int .u32 ((A.bq x+1:Nat):Int)]
  refine v1 (ae b9) ?_
  have o4:=e5.own o3 (fun h=>(d1 _ h).2 rfl)
  have m4:=m3.ext e5 (fun z hz h=>(d1 z h).1 hz)
  have yD:=m.slt
  have hz5:=e5.size
  have C8:∀z,B.S z→z<H.size:=yD
  have J8:∀z,Db z→Sn z∨H.size<z:=fun z hz=>(OC z hz).imp_right fun h=>by omega
  refine .inr ⟨x,A',hp,rfl,fun z=>Db z∨B.S z∨z=s,⟨t,vv,I,Db,B,k,d,n,n.ext hi4 e9 (fun z hz e=>?_),m4.ext e9 (fun z hz e=>?_),e9.own o4 (aM s ((hS s).2 (.inr (.inr rfl)))),fun z hz=>?_,d2,fun z=>Iff.rfl,?_⟩,?_,fun z hz=>?_⟩
  ·rcases J8 z hz with h|h
   ·exact Io z (by omega) h
   ·omega
  ·have:=C8 z hz;omega
  ·rcases J8 z hz with h|h
   ·exact d1 z h
   ·exact⟨fun h2=>by have:=C8 z h2;omega,by omega⟩
  ·refine Gt.put tm (v:=A.bq x+1) ?_
   have OD:A'.bq x=A.bq x:=by unfold Ar.bq;rw[hAg]
   show A'.g.set x.toNat (A'.bq x+1,true)=_
   rw[OD,hAg]
   exact anx (fun b=>A.g.set x.toNat (A.bq x+1,b)) (anp hg.1).symm
  ·have h1:ag S H H3:=((f0.mono fun _ _ h=>h.elim).trans (e1.mono fun z _ h=>(hS z).2 (.inr (.inl h)))).trans ((f2.mono fun _ _ h=>h.elim).trans (e4.mono fun z _ h=>(hS z).2 (.inr (.inr h))))
   have h2:=h1.trans (e5.mono fun z _ h=>(hS z).2 (.inl h))
   exact⟨an8 h2.size e9.size,fun z hz hn=>by rw[e9.aI z (anB hz h2.size) (by omega),h2.aI z hz hn]⟩
  ·rcases hz with h|h
   ·rcases J8 z h with h|h
    ·exact .inl ((hS z).2 (.inl h))
    ·exact .inr (by omega)
   ·exact .inl ((hS z).2 (.inr h))
end
end Go.Proofs.YtjlnnljohemifaaGreat

namespace Go.Proofs.YtjlnnljohemifaaGreat
open Go Go.Vc
section
variable {H H' H1 H2 : Hp} {s : Nat} {S S1 : Nat → Prop} {w w2 : Nw} {A A2 : Ar} {q q2 : Int}
theorem I7.ext{T:Nat→Prop}(h:I7 s S H H1 w A q)(e:ag T H1 H2)(hT:∀z,T z→H.size≤z)(hS:∀z,T z→∀S1,Cn H1 s S1 w A q→¬S1 z):I7 s S H H2 w A q:=by
 obtain⟨S2,h3,e2,h4⟩:=h
 refine⟨S2,h3.ext e (fun z hz ht=>hS z ht S2 h3 hz),⟨an8 e2.size e.size,fun z hz hn=>?_⟩,h4⟩
 rw[e.aI z (anB hz e2.size) (fun h=>by have:=hT z h;omega),e2.aI z hz hn]
theorem xX(l:Qz w A){g x:Int}(h:w.first g x):A.live x:=by
 obtain⟨h1,h2,_⟩:=bH.1 h
 exact(l.live x).1 (bk.1 (by omega))
theorem Gu(h:Cn H s S w A q){g:Int}(hg:w.has g):af Tryz.prog AN [ptr s,i64 g] H fun v H'=>ar (
  (w.len g=0∧v= .tuple [fW 0 0,i64 172].toArray∧I7 s S H H' w A q)∨(∃x,w.first g x∧v= .tuple [fW x (A.bq x),i64 0].toArray∧I7 s S H H' w A q)):=by
 have eD:=h.slt
 obtain⟨t,vv,I,Sn,B,k,d,n,hi,m,ho,d1,d2,hS,Gt⟩:=h
 refine aP AY ?_
 refine vs ?_
 have f0:ah H (H.new 114 [Value.int .i64 0,Value.int .u32 0]):=(ag.refl _ _).new _ _
 have b0:(H.new 114 [Value.int .i64 0,Value.int .u32 0]).own H.size=some [Value.int .i64 0,Value.int .u32 0]:=ax _ _ _
 have z0:(H.new 114 [Value.int .i64 0,Value.int .u32 0]).size=H.size+1:=am _ _ _
 generalize H.new 114 [Value.int .i64 0,Value.int .u32 0]=H0 at*
 have m0:=m.ext f0 (fun _ _ h=>h)
 have Ej:=n.ext hi f0 (fun _ _ h=>h)
 have o0:=f0.own ho (fun h=>h)
 have Io:∀z,H.size≤z→¬Sn z:=fun z hz h=>by have:=eD z ((hS z).2 (.inl h));omega
 have C8:∀z,B.S z→z<H.size:=m.slt
 have hos:=az ho
 refine v1 (ae o0) ?_
 refine(n.has g Ej).mono ?_
 rintro _ _ ⟨rfl,rfl⟩
 rw[anp hg]
 refine v1 (ae o0) ?_
 refine(n.min g Ej).mono ?_
 have fin:∀ (H1 H2:Hp) (Db:Nat→Prop),I H1 Db w→ag Sn H0 H1→(∀z,Db z→Sn z∨H0.size≤z)→ag (fun z=>z=H.size∨H1.size≤z) H1 H2→I7 s S H H2 w A q:=fun H1 H2 Db OA e1 et e2=>by
  have J7:=e1.size
  have dE:=e2.size
  refine⟨fun z=>Db z∨B.S z∨z=s,⟨t,vv,I,Db,B,k,d,n,n.ext OA e2 (fun z hz e=>?_),(m0.ext e1 (fun z hz h=>(d1 z h).1 hz)).ext e2 (fun z hz e=>?_),e2.own (e1.own o0 (fun h=>(d1 _ h).2 rfl)) (fun e=>by omega),fun z hz=>?_,d2,fun z=>Iff.rfl,Gt⟩,?_,fun z hz=>?_⟩
  ·rcases e with e|e
   ·rcases et z hz with h|h
    ·exact Io z (by omega) h
    ·omega
   ·have:=n.slt OA z hz;omega
  ·have:=C8 z hz;omega
  ·rcases et z hz with h|h
   ·exact d1 z h
   ·exact⟨fun h2=>by have:=C8 z h2;omega,by omega⟩
  ·have h1:ag S H H1:=(f0.mono fun _ _ h=>h.elim).trans (e1.mono fun z _ h=>(hS z).2 (.inl h))
   exact⟨an8 h1.size e2.size,fun z hz hn=>by rw[e2.aI z (anB hz h1.size) (by omega),h1.aI z hz hn]⟩
  ·rcases hz with h|h
   ·rcases et z h with h|h
    ·exact .inl ((hS z).2 (.inl h))
    ·exact .inr (by omega)
   ·exact .inl ((hS z).2 (.inr h))
 rintro _ H1 (⟨h0,rfl,Db,OA,e1,et⟩| ⟨x,hx,rfl,Db,OA,e1,et⟩)
 ·have b1:=e1.own b0 (Io _ (ano _))
  refine v1 b1 ?_
  obtain⟨e4,b4⟩:=J6 b1 [Value.int .i64 0,Value.int .u32 0]
  refine v1 (ae b4) ?_
  exact .inl ⟨h0,rfl,fin H1 _ Db OA e1 et (e4.mono fun z _ h=>.inl h)⟩
 ·have b1:=e1.own b0 (Io _ (ano _))
  have o1:=e1.own o0 (fun h=>(d1 _ h).2 rfl)
  have m1:=m0.ext e1 (fun z hz h=>(d1 z h).1 hz)
  refine v1 (ae o1) ?_
  refine(Gs m1 (xX Gt hx)).mono ?_
  rintro _ H2 ⟨rfl,f2⟩
  have b2:=f2.own b1 (fun h=>h)
  refine vs ?_
  obtain⟨f3,b3,z3⟩:=LY H2 114 [Value.int .i64 0,Value.int .u32 0] [i64 x,Value.int .u32 ((A.bq x:Nat):Int)]
  generalize (H2.new 114 [Value.int .i64 0,Value.int .u32 0]).wr H2.size [i64 x,Value.int .u32 ((A.bq x:Nat):Int)]=H3 at*
  have b5:=f3.own b2 (fun h=>h)
  refine v2 (ae b3) b5 ?_
  obtain⟨e4,b4⟩:=J6 b5 [i64 x,Value.int .u32 ((A.bq x:Nat):Int)]
  refine v1 (ae b4) ?_
  exact .inr ⟨x,hx,rfl,fin H1 _ Db OA e1 et (((f2.trans f3).mono fun _ _ h=>h.elim).trans (e4.mono fun z _ h=>.inl h))⟩
theorem wH(h:Cn H s S w A q){x:Int}(hx:A.live x):af Tryz.prog AO [ptr s,fW x (A.bq x)] H fun v H'=>ar (∃y,w.cs[x.toNat]? =some y∧v= .tuple [rZ y.2.1 y.2.2,i64 0].toArray∧I7 s S H H' w A q):=by
 have eD:=h.slt
 obtain⟨t,vv,I,Sn,B,k,d,n,hi,m,ho,d1,d2,hS,Gt⟩:=h
 refine aP AZ ?_
 refine vs ?_
 have f0:ah H ((H.new 114 [i64 x,.int .u32 (A.bq x:Int)]).new 224 [Value.int .i64 0,Value.int .u64 0]):=((ag.refl _ _).new _ _).new _ _
 have b0:((H.new 114 [i64 x,.int .u32 (A.bq x:Int)]).new 224 [Value.int .i64 0,Value.int .u64 0]).own H.size=some [i64 x,.int .u32 (A.bq x:Int)]:=by
  rw[ce (by simp only[am];omega),ax]
 have c0:((H.new 114 [i64 x,.int .u32 (A.bq x:Int)]).new 224 [Value.int .i64 0,Value.int .u64 0]).own (H.size+1)=some [Value.int .i64 0,Value.int .u64 0]:=aQ (by simp only[am])
 have z0:((H.new 114 [i64 x,.int .u32 (A.bq x:Int)]).new 224 [Value.int .i64 0,Value.int .u64 0]).size=H.size+1+1:=by simp only[am]
 generalize (H.new 114 [i64 x,.int .u32 (A.bq x:Int)]).new 224 [Value.int .i64 0,Value.int .u64 0]=H0 at*
 have m0:=m.ext f0 (fun _ _ h=>h)
 have Ej:=n.ext hi f0 (fun _ _ h=>h)
 have o0:=f0.own ho (fun h=>h)
 have Io:∀z,H.size≤z→¬Sn z:=fun z hz h=>by have:=eD z ((hS z).2 (.inl h));omega
 have C8:∀z,B.S z→z<H.size:=m.slt
 have hos:=az ho
 refine v2 (ae o0) (ae b0) ?_
 refine(rj m0 x (A.bq x)).mono ?_
 rintro _ H1 ⟨rfl,f1⟩
 rw[anp ⟨hx,rfl⟩]
 have m1:=m0.ext f1 (fun _ _ h=>h)
 have OA:=n.ext Ej f1 (fun _ _ h=>h)
 have o1:=f1.own o0 (fun h=>h)
 have b1:=f1.own b0 (fun h=>h)
 have c1:=f1.own c0 (fun h=>h)
 have z1:=f1.size
 have bE:cS w.cs x:=(Gt.live x).2 hx
 have fin:∀H2,I H2 Sn w→ag (fun z=>z=H.size+1∨H1.size≤z) H1 H2→I7 s S H H2 w A q:=fun H2 ly e2=>by
  have h1:ag S H H1:=(f0.trans f1).mono fun _ _ h=>h.elim
  refine⟨S,⟨t,vv,I,Sn,B,k,d,n,ly,m1.ext e2 (fun z hz e=>by have:=C8 z hz;omega),e2.own o1 (fun e=>by omega),d1,d2,hS,Gt⟩,⟨an8 h1.size e2.size,fun z hz hn=>by rw[e2.aI z (anB hz h1.size) (by omega),h1.aI z hz hn]⟩,fun z hz=>.inl hz⟩
 refine vs ?_
 refine jk.intro (fun H'=>H'.own s=some [i64 k,i64 d,ptr B.a,.iface t vv,u64 q]∧H'.own H.size=some [i64 x,.int .u32 (A.bq x:Int)]) ⟨o1,b1⟩ ?_
 refine vs ?_
 refine fk.intro (.iface t vv) (fun H' hI=>by refine v1 (ae hI.1) ?_;trivial) ?_
 refine vs ?_
 refine fk.intro (i64 x) (fun H' hI=>by refine v1 (ae hI.2) ?_;trivial) ?_
 refine vs ?_
 refine Du.intro ?_ ?_
 ·refine vs ?_
  refine(n.entry x OA).mono ?_
  rintro _ H2 ⟨ly,f2,⟨bJ,_⟩| ⟨_,y,hy,rfl⟩⟩
  ·exact absurd bE bJ
  have o2:=f2.own o1 (fun h=>h)
  have b2:=f2.own b1 (fun h=>h)
  have c2:=f2.own c1 (fun h=>h)
  have z2:=f2.size
  refine And.intro ⟨o2,b2⟩ ?_
  refine vs ?_
  refine And.intro ⟨o2,b2⟩ ?_
  refine vs ?_
  refine And.intro ⟨o2,b2⟩ ?_
  refine vs ?_
  obtain⟨f3,b3,z3⟩:=LY H2 224 [Value.int .i64 0,Value.int .u64 0] [i64 y.2.1,u64 y.2.2]
  generalize (H2.new 224 [Value.int .i64 0,Value.int .u64 0]).wr H2.size [i64 y.2.1,u64 y.2.2]=H3 at*
  have c3:=f3.own c2 (fun h=>h)
  refine v2 (ae b3) c3 ?_
  obtain⟨e4,b4⟩:=J6 c3 [i64 y.2.1,u64 y.2.2]
  refine v1 (ae b4) ?_
  exact⟨y,hy,rfl,fin _ (n.ext (n.ext ly f3 (fun _ _ h=>h)) e4 (fun z hz e=>Io z (by omega) hz)) (((f2.trans f3).mono fun _ _ h=>h.elim).trans (e4.mono fun z _ h=>.inl h))⟩
 ·refine vs ?_
  refine And.intro ⟨o1,b1⟩ ?_
  have f4:ah H1 (H1.new 224 [Value.int .i64 0,Value.int .u64 0]):=(ag.refl _ _).new _ _
  have b4:(H1.new 224 [Value.int .i64 0,Value.int .u64 0]).own H1.size=some [Value.int .i64 0,Value.int .u64 0]:=ax _ _ _
  have z4:(H1.new 224 [Value.int .i64 0,Value.int .u64 0]).size=H1.size+1:=am _ _ _
  generalize H1.new 224 [Value.int .i64 0,Value.int .u64 0]=H4 at*
  refine vs ?_
  refine(n.entry x (n.ext OA f4 (fun _ _ h=>h))).mono ?_
  rintro _ H2 ⟨ly,f2,⟨bJ,_⟩| ⟨_,y,hy,rfl⟩⟩
  ·exact absurd bE bJ
  have o2:=f2.own (f4.own o1 (fun h=>h)) (fun h=>h)
  have b2:=f2.own (f4.own b1 (fun h=>h)) (fun h=>h)
  have c2:=f2.own (f4.own c1 (fun h=>h)) (fun h=>h)
  have b5:=f2.own b4 (fun h=>h)
  have z2:=f2.size
  refine And.intro ⟨o2,b2⟩ ?_
  refine v1 b5 ?_
  obtain⟨e6,b6⟩:=J6 b5 [i64 y.2.1,u64 y.2.2]
  have o6:=e6.own o2 (fun e=>by omega)
  have b26:=e6.own b2 (fun e=>by omega)
  have c6:=e6.own c2 (fun e=>by omega)
  have ZK:=n.ext ly e6 (fun z hz e=>Io z (by omega) hz)
  have e26:ag (fun z=>z=H.size+1∨H1.size≤z) H1 (H2.wr H1.size [i64 y.2.1,u64 y.2.2]):=((f4.trans f2).mono fun _ _ h=>h.elim).trans (e6.mono fun z _ h=>.inr (by omega))
  generalize H2.wr H1.size [i64 y.2.1,u64 y.2.2]=H6 at*
  first
   |refine And.intro ⟨o6,b26⟩ ?_
   |refine And.intro ⟨o2,b2⟩ ?_
  refine v2 (ae b6) c6 ?_
  obtain⟨e7,b7⟩:=J6 c6 [i64 y.2.1,u64 y.2.2]
  refine v1 (ae b7) ?_
  exact⟨y,hy,rfl,fin _ (n.ext ZK e7 (fun z hz e=>Io z (by omega) hz)) (e26.trans (e7.mono fun z _ h=>.inl h))⟩
end
end Go.Proofs.YtjlnnljohemifaaGreat

namespace Go.Proofs.YtjlnnljohemifaaGreat
open Go Go.Vc
section
variable {H H' H1 H2 : Hp} {s : Nat} {S S1 : Nat → Prop} {w w2 : Nw} {A A2 : Ar} {q q2 : Int}
theorem Cn.tmp{b:Nat}{l:List Value}(h:Cn H1 s S1 w A q)(hb:¬S1 b):Cn (H1.wr b l) s S1 w A q:=h.ext ((ag.refl (fun x=>x=b) _).wr (fun _=>rfl) _:ag (fun x=>x=b) H1 _) (fun z hz e=>hb (by rw[←e];exact hz))
theorem Dw(h:Cn H2 s S1 w A q)(e:ag S H H2)(hs:∀z,S1 z→S z∨H.size≤z):I7 s S H H2 w A q:=⟨S1,h,e,hs⟩
theorem Dx{b:Nat}{l:List Value}(e:ag S H H1)(hb:H.size≤b):ag S H (H1.wr b l):=by
 have e2:ag (fun x=>x=b) H1 (H1.wr b l):=(ag.refl (fun x=>x=b) _).wr (fun _=>rfl) _
 exact⟨an8 e.size e2.size,fun z hz hn=>by rw[e2.aI z (anB hz e.size) (by omega),e.aI z hz hn]⟩
theorem J9(h:Cn H s S w A q){g:Int}(hg:w.has g):af Tryz.prog DS [ptr s,i64 g] H fun v H'=>ar (
  (w.len g=0∧v= .tuple [fW 0 0,i64 0,i64 172].toArray∧I7 s S H H' w A q)∨(∃x y,w.first g x∧w.cs[x.toNat]? =some y∧v= .tuple [fW x (A.bq x),i64 y.2.1,i64 0].toArray∧I7 s S H H' w A q)):=by
 have eD:=h.slt
 have Gt:=h.lnk.1
 refine aP DY ?_
 refine vs ?_
 have f0:ah H (H.new 114 [Value.int .i64 0,Value.int .u32 0]):=(ag.refl _ _).new _ _
 have b0:(H.new 114 [Value.int .i64 0,Value.int .u32 0]).own H.size=some [Value.int .i64 0,Value.int .u32 0]:=ax _ _ _
 have z0:(H.new 114 [Value.int .i64 0,Value.int .u32 0]).size=H.size+1:=am _ _ _
 generalize H.new 114 [Value.int .i64 0,Value.int .u32 0]=H0 at*
 have h0:=h.ext f0 (fun _ _ h=>h)
 have Pz:∀z,H.size≤z→¬S z:=fun z hz h=>by have:=eD z h;omega
 refine(Gu h0 hg).mono ?_
 rintro _ H1 (⟨T9,rfl,S1,h1,e1,et⟩| ⟨x,hx,rfl,S1,h1,e1,et⟩)
 ·have b1:=e1.own b0 (Pz _ (ano _))
  have J7:=e1.size
  refine vs ?_
  obtain⟨f2,b2,z2⟩:=LY H1 114 [Value.int .i64 0,Value.int .u32 0] [i64 0,Value.int .u32 ((0:Nat):Int)]
  generalize (H1.new 114 [Value.int .i64 0,Value.int .u32 0]).wr H1.size [i64 0,Value.int .u32 ((0:Nat):Int)]=H2 at*
  have b3:=f2.own b1 (fun h=>h)
  refine ak.dec (fun hh=>by omega) (fun _=>?_)
  refine v1 b3 ?_
  obtain⟨e4,b4⟩:=J6 b3 [Value.int .i64 0,Value.int .u32 0]
  have e2:ag S H H2:=((f0.mono fun _ _ h=>h.elim).trans e1).trans (f2.mono fun _ _ h=>h.elim)
  have uF:¬S1 H.size:=fun h=>by rcases et _ h with h|h;exact Pz _ (ano _) h;omega
  have h3:=((h1.ext f2 (fun _ _ h=>h)).tmp uF (l:=[Value.int .i64 0,Value.int .u32 0]))
  have e5:=Dx (l:=[Value.int .i64 0,Value.int .u32 0]) e2 (ano H.size)
  refine v1 (ae b4) ?_
  exact .inl ⟨T9,rfl,Dw h3 e5 (fun z hz=>(et z hz).imp_right fun h=>by omega)⟩
 ·have b1:=e1.own b0 (Pz _ (ano _))
  have J7:=e1.size
  have ju:=xX Gt hx
  refine vs ?_
  obtain⟨f2,b2,z2⟩:=LY H1 114 [Value.int .i64 0,Value.int .u32 0] [i64 x,Value.int .u32 ((A.bq x:Nat):Int)]
  generalize (H1.new 114 [Value.int .i64 0,Value.int .u32 0]).wr H1.size [i64 x,Value.int .u32 ((A.bq x:Nat):Int)]=H2 at*
  have b3:=f2.own b1 (fun h=>h)
  have h2:=h1.ext f2 (fun _ _ h=>h)
  refine ak.dec (fun _=>?_) (fun hh=>absurd trivial hh)
  refine v1 (ae b2) ?_
  have VE:=h1.slt
  refine(wH h2 ju).mono ?_
  rintro _ H3 ⟨y,hy,rfl,S3,h3,e3,Fy⟩
  have uF:¬S1 H.size:=fun h=>by rcases et _ h with h|h;exact Pz _ (ano _) h;omega
  have Cd:¬S1 H1.size:=fun h=>by have:=VE _ h;omega
  have b4:=e3.own b3 uF
  have c4:=e3.own b2 Cd
  have Ld:=e3.size
  refine vs ?_
  obtain⟨f5,b5,z5⟩:=LY H3 224 [Value.int .i64 0,Value.int .u64 0] [i64 y.2.1,u64 y.2.2]
  generalize (H3.new 224 [Value.int .i64 0,Value.int .u64 0]).wr H3.size [i64 y.2.1,u64 y.2.2]=H5 at*
  have b6:=f5.own b4 (fun h=>h)
  have c6:=f5.own c4 (fun h=>h)
  have h5:=h3.ext f5 (fun _ _ h=>h)
  have hn3:∀b,¬S1 b→b<H2.size→¬S3 b:=fun b hb nA h=>by rcases Fy _ h with h|h;exact hb h;omega
  have e5:ag S H H5:=by
   have e2:ag S H H2:=((f0.mono fun _ _ h=>h.elim).trans e1).trans (f2.mono fun _ _ h=>h.elim)
   have X2:ag S H H3:=⟨an8 e2.size e3.size,fun z hz hn=>by rw[e3.aI z (anB hz e2.size) (fun h=>by rcases et z h with h|h;exact hn h;omega),e2.aI z hz hn]⟩
   exact X2.trans (f5.mono fun _ _ h=>h.elim)
  refine jk.intro (fun H'=>H'.own H3.size=some [i64 y.2.1,u64 y.2.2]) b5 ?_
  refine vs ?_
  refine fk.intro (i64 y.2.1) (fun H' hI=>by refine v1 (ae hI) ?_;trivial) ?_
  refine v1 (ae c6) ?_
  refine And.intro b5 ?_
  refine v1 b6 ?_
  obtain⟨e7,b7⟩:=J6 b6 [i64 x,Value.int .u32 ((A.bq x:Nat):Int)]
  have b57:=e7.own b5 (fun e=>by omega)
  first
   |refine And.intro b57 ?_
   |refine And.intro b5 ?_
  have h7:=h5.tmp (hn3 _ uF (by omega)) (l:=[i64 x,Value.int .u32 ((A.bq x:Nat):Int)])
  have e8:=Dx (l:=[i64 x,Value.int .u32 ((A.bq x:Nat):Int)]) e5 (ano H.size)
  refine v1 (ae b7) ?_
  refine .inr ⟨x,y,hx,hy,rfl,Dw h7 e8 (fun z hz=>?_)⟩
  rcases Fy z hz with h|h
  ·exact(et z h).imp_right fun h=>by omega
  ·exact .inr (by omega)
theorem OE{g x x':Int}(h:w.first g x)(h':w.first g x'):x'=x:=by
 obtain⟨_,h2,h3⟩:=bH.1 h
 obtain⟨_,h5,h6⟩:=bH.1 h'
 apply anC
 intro aM
 have:=(aq w).asym (h3 x' h5 aM)
 rw[h6 x h2 (Ne.symm aM)]at this
 cases this
theorem xY(h:Cn H s S w A q){g:Int}(hg:w.has g):af Tryz.prog jo [ptr s,i64 g] H fun v H'=>ar (
  (w.len g=0∧v= .tuple [fW 0 0,i64 0,i64 172].toArray∧I7 s S H H' w A q)∨(∃x y,w.first g x∧w.cs[x.toNat]? =some y∧v= .tuple [fW x (A.bq x),i64 y.2.1,i64 0].toArray∧I7 s S H H' (w.put x (0,0,0)) (A.back x) q)):=by
 have eD:=h.slt
 have Gt:=h.lnk.1
 refine aP rM ?_
 refine vs ?_
 have f0:ah H (H.new 114 [Value.int .i64 0,Value.int .u32 0]):=(ag.refl _ _).new _ _
 have b0:(H.new 114 [Value.int .i64 0,Value.int .u32 0]).own H.size=some [Value.int .i64 0,Value.int .u32 0]:=ax _ _ _
 have z0:(H.new 114 [Value.int .i64 0,Value.int .u32 0]).size=H.size+1:=am _ _ _
 generalize H.new 114 [Value.int .i64 0,Value.int .u32 0]=H0 at*
 have h0:=h.ext f0 (fun _ _ h=>h)
 have Pz:∀z,H.size≤z→¬S z:=fun z hz h=>by have:=eD z h;omega
 refine(J9 h0 hg).mono ?_
 rintro _ H1 (⟨T9,rfl,S1,h1,e1,et⟩| ⟨x,y,hx,hy,rfl,S1,h1,e1,et⟩)
 ·have b1:=e1.own b0 (Pz _ (ano _))
  have J7:=e1.size
  refine vs ?_
  obtain⟨f2,b2,z2⟩:=LY H1 114 [Value.int .i64 0,Value.int .u32 0] [i64 0,Value.int .u32 ((0:Nat):Int)]
  generalize (H1.new 114 [Value.int .i64 0,Value.int .u32 0]).wr H1.size [i64 0,Value.int .u32 ((0:Nat):Int)]=H2 at*
  have b3:=f2.own b1 (fun h=>h)
  refine ak.dec (fun hh=>by omega) (fun _=>?_)
  refine v1 b3 ?_
  obtain⟨e4,b4⟩:=J6 b3 [Value.int .i64 0,Value.int .u32 0]
  have e2:ag S H H2:=((f0.mono fun _ _ h=>h.elim).trans e1).trans (f2.mono fun _ _ h=>h.elim)
  have uF:¬S1 H.size:=fun h=>by rcases et _ h with h|h;exact Pz _ (ano _) h;omega
  have h3:=((h1.ext f2 (fun _ _ h=>h)).tmp uF (l:=[Value.int .i64 0,Value.int .u32 0]))
  have e5:=Dx (l:=[Value.int .i64 0,Value.int .u32 0]) e2 (ano H.size)
  refine v1 (ae b4) ?_
  exact .inl ⟨T9,rfl,Dw h3 e5 (fun z hz=>(et z hz).imp_right fun h=>by omega)⟩
 ·have b1:=e1.own b0 (Pz _ (ano _))
  have J7:=e1.size
  have ju:=xX Gt hx
  refine vs ?_
  obtain⟨f2,b2,z2⟩:=LY H1 114 [Value.int .i64 0,Value.int .u32 0] [i64 x,Value.int .u32 ((A.bq x:Nat):Int)]
  generalize (H1.new 114 [Value.int .i64 0,Value.int .u32 0]).wr H1.size [i64 x,Value.int .u32 ((A.bq x:Nat):Int)]=H2 at*
  have b3:=f2.own b1 (fun h=>h)
  have VE:=h1.slt
  have h2:=h1.ext f2 (fun _ _ h=>h)
  have uF:¬S1 H.size:=fun h=>by rcases et _ h with h|h;exact Pz _ (ano _) h;omega
  have Cd:¬S1 H1.size:=fun h=>by have:=VE _ h;omega
  obtain⟨t,vv,I,Sn,B,k,d,n,hi,m,ho,d1,d2,hS,_⟩:=h2
  refine ak.dec (fun _=>?_) (fun hh=>absurd trivial hh)
  refine v1 (ae ho) ?_
  refine(n.extract g hi).mono ?_
  have C8:∀z,B.S z→z<H2.size:=m.slt
  have hos:=az ho
  rintro _ H3 (⟨T9,_⟩| ⟨x',vN,rfl,Db,pe,e3,Fy⟩)
  ·exfalso
   obtain⟨QA,Np,_⟩:=bH.1 hx
   exact(s8 QA).1 T9 x Np
  obtain rfl:=OE hx vN
  have Le:=e3.own ho (fun h=>(d1 _ h).2 rfl)
  have b4:=e3.own b3 (fun h=>uF ((hS _).2 (.inl h)))
  have c4:=e3.own b2 (fun h=>Cd ((hS _).2 (.inl h)))
  have m3:=m.ext e3 (fun z hz h=>(d1 z h).1 hz)
  have Ld:=e3.size
  refine v2 (ae Le) (ae c4) ?_
  refine(C9 m3 ju).mono ?_
  rintro _ H4 ⟨rfl,Qy,m4,e4,Px⟩
  have nB1:¬B.S H.size:=fun h=>uF ((hS _).2 (.inr (.inl h)))
  have nB2:¬B.S H1.size:=fun h=>Cd ((hS _).2 (.inr (.inl h)))
  have b5:=e4.own b4 nB1
  have c5:=e4.own c4 nB2
  have ZL:=e4.own Le d2
  have VD:=e4.size
  refine v2 (ae c5) b5 ?_
  obtain⟨e6,b6⟩:=J6 b5 [i64 x',Value.int .u32 ((A.bq x':Nat):Int)]
  refine v1 (ae b6) ?_
  have J8:∀z,Db z→Sn z∨H2.size≤z:=Fy
  have ZM:∀z,(SN.mk B.a B.sb Qy).S z→B.S z∨H3.size≤z:=fun z hz=>by
   rcases hz with h|h|h
   ·exact .inl (.inl h)
   ·exact .inl (.inr (.inl h))
   ·exact(Px z h).imp_left fun h=>.inr (.inr h)
  have hiT:I H4 Db (w.put x' (0,0,0)):=n.ext pe e4 (fun z hz hb=>by
   rcases J8 z hz with h|h
   ·exact(d1 z h).1 hb
   ·have:=C8 z hb;omega)
  have ZN:=fun z hz=>n.slt pe z hz
  have nn1:∀b,¬S1 b→b<H2.size→¬Db b∧¬ (SN.mk B.a B.sb Qy).S b:=fun b hb nA=>by
   refine⟨fun h=>?_,fun h=>?_⟩
   ·rcases J8 b h with h|h
    ·exact hb ((hS b).2 (.inl h))
    ·omega
   ·rcases ZM b h with h|h
    ·exact hb ((hS b).2 (.inr (.inl h)))
    ·omega
  have aeB:H.size≠s:=fun e=>uF ((hS _).2 (.inr (.inr e)))
  have tm:=Ar.zP ju
  have sY:Cn H4 s (fun z=>Db z∨(SN.mk B.a B.sb Qy).S z∨z=s) (w.put x' (0,0,0)) (A.back x') q:=by
   refine⟨t,vv,I,Db,⟨B.a,B.sb,Qy⟩,k,d,n,hiT,m4,ZL,fun z hz=>?_,fun h=>?_,fun z=>Iff.rfl,Gt.put tm rfl⟩
   ·rcases J8 z hz with h|h
    ·refine⟨fun hb=>?_,(d1 z h).2⟩
     rcases ZM z hb with h2|h2
     ·exact(d1 z h).1 h2
     ·have:=ZN z hz;omega
    ·refine⟨fun hb=>?_,fun e=>by omega⟩
     rcases ZM z hb with h2|h2
     ·have:=C8 z h2;omega
     ·have:=ZN z hz;omega
   ·rcases ZM _ h with h2|h2
    ·exact d2 h2
    ·omega
  have aeC:=sY.tmp (b:=H.size) (l:=[i64 x',Value.int .u32 ((A.bq x':Nat):Int)]) (fun h=>by
   obtain⟨q1,q2⟩:=nn1 _ uF (by omega)
   rcases h with h|h|h
   ·exact q1 h
   ·exact q2 h
   ·exact aeB h)
  have e04:ag S H H4:=by
   have e2:ag S H H2:=((f0.mono fun _ _ h=>h.elim).trans e1).trans (f2.mono fun _ _ h=>h.elim)
   exact⟨by have:=e2.size;omega,fun z hz hn=>by
    have dE:=e2.size
    have VF:¬S1 z:=fun h=>by rcases et z h with h|h;exact hn h;omega
    rw[e4.aI z (by omega) (fun h=>VF ((hS z).2 (.inr (.inl h)))),e3.aI z (by omega) (fun h=>VF ((hS z).2 (.inl h))),e2.aI z hz hn]⟩
  have dE:=f2.size
  refine .inr ⟨x',y,hx,hy,rfl,Dw aeC (Dx e04 (ano _)) (fun z hz=>?_)⟩
  have I4:S1 z∨H2.size≤z:=by
   rcases hz with h|h|h
   ·rcases J8 z h with h|h
    ·exact .inl ((hS z).2 (.inl h))
    ·exact .inr h
   ·rcases ZM z h with h|h
    ·exact .inl ((hS z).2 (.inr (.inl h)))
    ·exact .inr (by omega)
   ·exact .inl ((hS z).2 (.inr (.inr h)))
  rcases I4 with h|h
  ·exact(et z h).imp_right fun h=>by omega
  ·exact .inr (by omega)
end
end Go.Proofs.YtjlnnljohemifaaGreat

namespace Go.Proofs.YtjlnnljohemifaaGreat
open Go Go.Vc
abbrev LZ(kd dd:Int):Value:=.agg [i64 kd,i64 dd].toArray
def fZ(kd dd:Int):Prop:=(1≤kd∧kd≤8)∧((kd=2∧2≤dd∧dd≤16)∨(kd≠2∧dd=0))
instance(kd dd:Int):Decidable (fZ kd dd):=by unfold fZ;exact inferInstance
def QB(kd dd:Int):Int:=if kd<1∨8<kd then 21 else if fZ kd dd then 0 else 22
theorem QC{kd dd:Int}(h:kd<1∨8<kd):QB kd dd=21:=by unfold QB;rw[if_pos h]
theorem Ka{kd dd:Int}(h:fZ kd dd):QB kd dd=0:=by
 have:=h.1
 unfold QB
 rw[if_neg (by omega),if_pos h]
theorem QD{kd dd:Int}(h1:¬ (kd<1∨8<kd))(h:¬fZ kd dd):QB kd dd=22:=by unfold QB;rw[if_neg h1,if_neg h]
theorem Kb{kd dd:Int}:QB kd dd=0↔fZ kd dd:=by
 constructor
 ·intro h
  apply anC
  intro hn
  by_cases h1:kd<1∨8<kd
  ·rw[QC h1]at h;cases h
  ·rw[QD h1 hn]at h;cases h
 ·exact Ka
theorem mA(kd dd:Int)(H:Hp):af Tryz.prog FN [LZ kd dd] H fun v H'=>ar (v=i64 (QB kd dd)∧ah H H'):=by
 refine aP F2 ?_
 refine vs ?_
 have f0:ah H (H.new 23 [i64 kd,i64 dd]):=(ag.refl _ _).new _ _
 repeat' (refine ak.dec (fun _=>?_) (fun _=>?_)<;>try(refine v1 anT ?_))
 all_goals
  first
   | (exfalso;omega)
   | (refine⟨?_,f0⟩;exact(anx i64 (QC (by omega))).symm)
   | (refine⟨?_,f0⟩;exact(anx i64 (Ka (by unfold fZ;omega))).symm)
   | (refine⟨?_,f0⟩;exact(anx i64 (QD (by omega) (by unfold fZ;omega))).symm)
theorem Ex(kd dd:Int)(H:Hp):af Tryz.prog FI [LZ kd dd] H fun v H'=>ar (v=i64 (QB kd dd)∧ah H H'):=by
 refine aP FX ?_
 refine vs ?_
 have f0:ah H (H.new 23 [i64 kd,i64 dd]):=(ag.refl _ _).new _ _
 repeat' (refine ak.dec (fun _=>?_) (fun _=>?_)<;>try(refine v1 anT ?_))
 all_goals
  first
   | (exfalso;omega)
   | (refine⟨?_,f0⟩;exact(anx i64 (QC (by omega))).symm)
   | (refine⟨?_,f0⟩;exact(anx i64 (Ka (by unfold fZ;omega))).symm)
   | (refine⟨?_,f0⟩;exact(anx i64 (QD (by omega) (by unfold fZ;omega))).symm)
theorem mT{kd dd:Int}(hf:fZ kd dd)(hk:kd=1∨kd=2)(H:Hp):af Tryz.prog FQ [LZ kd dd] H fun v H'=>ar (v=i64 (if kd=1 then 2 else dd)∧ah H H'):=by
 refine aP F5 ?_
 refine vs ?_
 have f0:ah H (H.new 23 [i64 kd,i64 dd]):=(ag.refl _ _).new _ _
 have o0:(H.new 23 [i64 kd,i64 dd]).own H.size=some [i64 kd,i64 dd]:=ax _ _ _
 generalize H.new 23 [i64 kd,i64 dd]=H0 at*
 refine(mA kd dd H0).mono ?_
 rintro _ H1 ⟨rfl,f1⟩
 have o1:=f1.own o0 (fun h=>h)
 rw[Ka hf]
 refine v2 (ae o1) anT ?_
 rcases hk with rfl|rfl
 ·refine ak.cK (by decide) ?_
  refine v2 (ae o1) anT ?_
  exact⟨rfl,f0.trans f1⟩
 ·refine ak.aU (by decide) ?_
  refine v2 (ae o1) anT ?_
  exact⟨rfl,f0.trans f1⟩
structure QE(w:Nw)(L:List Lk)(tops:List Int):Prop where
 bt:yH (aD w) (aN w) (aX L) (bi L) (bh tops)
 tl:tops.length=w.hs.length
def dk(n:Nat)(H:Hp)(S:Nat→Prop)(w:Nw):Prop:=∃ (B:LB) (C:Nat→Prop) (L:List Lk) (rs tops:List Int),B.n=n∧cU H B C w L rs tops∧QE w L tops∧∀z,S z↔B.S C z
theorem dk.slt{n:Nat}{H:Hp}{S:Nat→Prop}{w:Nw}(h:dk n H S w):∀z,S z→z<H.size:=by
 obtain⟨B,C,L,rs,tops,rfl,m,l,hS⟩:=h
 exact fun z hz=>m.slt z ((hS z).1 hz)
theorem dk.ext{n:Nat}{H H':Hp}{S T:Nat→Prop}{w:Nw}(h:dk n H S w)(e:ag T H H')(hd:∀z,S z→¬T z):dk n H' S w:=by
 obtain⟨B,C,L,rs,tops,rfl,m,l,hS⟩:=h
 exact⟨B,C,L,rs,tops,rfl,m.ext e (fun z hz=>hd z ((hS z).2 hz)),l,hS⟩
theorem vQ{n:Nat}{H:Hp}{S:Nat→Prop}{w:Nw}(h:dk n H S w)(g x k s:Int):af Tryz.prog jr [ptr n,i64 g,i64 x,rZ k s] H fun v H'=>ar (
  (¬w.kT g x∧v= .bool false∧cr (dk n) S H H' w)∨(w.kT g x∧v= .bool true∧cr (dk n) S H H' (w.put x (g,k,s)))):=by
 obtain⟨B,C,L,rs,tops,rfl,m,l,hS⟩:=h
 refine aP rU ?_
 refine vs ?_
 have f0:ah H (H.new 224 [i64 k,u64 s]):=(ag.refl _ _).new _ _
 have b0:(H.new 224 [i64 k,u64 s]).own H.size=some [i64 k,u64 s]:=ax _ _ _
 have m0:=m.fresh f0
 generalize H.new 224 [i64 k,u64 s]=H0 at*
 obtain⟨tv,Gv,_⟩:=m0.own
 refine v2 (ae Gv) (ae b0) ?_
 refine(j9 m0.cells g x k s).mono ?_
 rintro _ H1 (⟨bJ,rfl,c1,e1⟩| ⟨oO,rfl,c1,e1⟩)
 ·refine vs ?_
  exact .inl ⟨bJ,rfl,cr.same ⟨B,C,L,rs,tops,rfl,m0.aG c1 e1 rfl,l,hS⟩ ((f0.mono fun _ _ h=>h.elim).trans (e1.mono fun z _ hz=>(hS z).2 (.inl hz)))⟩
 obtain⟨hh,hx,bE⟩:=id oO
 have m1:=m0.aG c1 e1 (by simp[Nw.put])
 have aV:=m1.len
 have lG:(w.put x (g,k,s)).cs.length=w.cs.length:=by simp[Nw.put]
 obtain⟨BB,o1,_⟩:=m1.own
 refine v1 (ae o1) ?_
 refine⟨⟨by omega,by omega⟩,?_⟩
 refine v3 m1.BA am9 ane ?_
 refine⟨by rw[anz];omega,?_⟩
 refine vs ?_
 obtain⟨m2,e2⟩:cU (H1.wr B.rk ((rs.map i64).set x.toNat (Value.int .i64 1))) B C _ L (rs.set x.toNat 1) tops∧ag (fun z=>z=B.rk) H1 (H1.wr B.rk ((rs.map i64).set x.toNat (Value.int .i64 1))):=m1.LV x.toNat 1
 generalize H1.wr B.rk ((rs.map i64).set x.toNat (Value.int .i64 1))=H2 at*
 obtain⟨cc,lt,o2,q2,ue,qJ,Nq⟩:=m2.fG
 refine jk.intro (fun H'=>H'.own B.n=some [ptr B.c,ptr B.t,.slice (some ⟨B.rk,0,none⟩) (rs.set x.toNat 1).length (rs.set x.toNat 1).length,.slice (some ⟨B.tp,0,none⟩) tops.length cc]) o2 ?_
 refine vs ?_
 refine fk.intro (.slice (some ⟨B.tp,0,none⟩) tops.length cc) (fun H' hI=>by refine v1 (ae hI) ?_;trivial) ?_
 refine v1 (ae o2) ?_
 have hg:=hh.1
 have da:g<tops.length:=by
  have:=(ana.1 hh.2).1
  have:=l.tl
  omega
 have q3:=m2.eC q2 (dL (tops:=tops) (h:=g) (by omega) da)
 have cH:=fun y=>dK hx (g,k,s) y
 have bo:Sj (aD (w.put x (g,k,s))) (aN (w.put x (g,k,s))) (aX L) (bi L) (bh tops) g x:=by
  refine l.bt.ins rfl (Int.not_lt.1 fun h=>bE (bk.1 h)) (by omega) (by omega) (by rw[cH,if_pos rfl]) (fun y hy=>by rw[cH,if_neg hy]) (fun a b ha hb sj lm=>di hx _ ha hb sj lm)
 refine And.intro o2 ?_
 refine vs ?_
 refine⟨⟨by omega,by omega⟩,?_⟩
 refine v4 (ae q2) am9 ane q3 ?_
 refine And.intro o2 ?_
 refine vs ?_
 refine(gT m2 bo.mg).mono ?_
 rintro _ H3 ⟨r,L3,rs3,rfl,m3,g3,_,e3⟩
 have bn:=bo.done g3
 obtain⟨d1,d2,d3,d4⟩:=m2.lj.1
 have no:¬ (C B.n∨B.n=B.tl∨B.n=B.rk):=by rintro(h|h|h);exact m2.out.1 h;omega;omega
 refine And.intro (e3.own o2 no) ?_
 have q4:=e3.own q2 (by obtain⟨_,⟨_,_,d7⟩,⟨_,d9⟩,d10⟩:=m2.lj;rintro(h|h|h);exact m2.out.2.2.2.2 h;omega;omega)
 refine vs ?_
 refine⟨⟨by omega,by omega⟩,?_⟩
 refine v3 q4 am9 ane ?_
 refine⟨by omega,?_⟩
 obtain⟨m4,e4⟩:=m3.kj q4 g.toNat r
 refine And.intro (e4.own (e3.own o2 no) d4) ?_
 refine vs ?_
 refine .inr ⟨oO,rfl,B.S C,⟨B,C,L3,rs3,_,rfl,m4,⟨?_,by rw[anb];exact l.tl⟩,fun z=>Iff.rfl⟩,?_,fun z hz=>.inl ((hS z).2 hz)⟩
 ·rw[ec (by omega) da]
  exact bn
 ·have hC:∀z,C z→S z:=fun z h=>(hS z).2 (.inl h)
  have h1:S B.tl:=(hS _).2 (.inr (.inr (.inr (.inl rfl))))
  have h2:S B.rk:=(hS _).2 (.inr (.inr (.inr (.inr (.inl rfl)))))
  have h3:S B.tp:=(hS _).2 (.inr (.inr (.inr (.inr (.inr rfl)))))
  exact(((((f0.mono fun _ _ h=>h.elim).trans (e1.mono fun z _ h=>hC z h)).trans (e2.mono fun z _ h=>h▸h2)).trans (e3.mono fun z _ h=>by rcases h with h|rfl|rfl;exact hC z h;exact h1;exact h2)).trans (e4.mono fun z _ h=>h▸h3))
theorem yH.none{hm:Int→Int}{lt:Int→Int→Bool}{K:Int→Bool→Int}{U T:Int→Int}(h0:hm (-1)=0)(hh:∀x,¬0<hm x)(hk:∀x c,K x c= -1)(hu:∀x,U x= -1)(ht:∀g,T g= -1):yH hm lt K U T:=
 ⟨⟨h0,fun p c x h hx=>absurd (h.symm.trans (hk p c)) hx,fun x p h hp=>absurd (h.symm.trans (hu x)) hp,fun p _=>hk p _⟩,fun g h=>absurd (ht g) h,fun x hx=>absurd hx (hh x)⟩
theorem zR(n:Nat)(x:Int)(c:Bool):aX (List.replicate n jj) x c= -1:=by
 by_cases h:0≤x∧x< (List.replicate n jj).length
 ·have h2:=h.2
  rw[anX]at h2
  rw[nB (y:=jj) h.1 (by rw[aoy,if_pos (by omega)])]
  cases c<;>rfl
 ·exact Qr h c
theorem Ey(n:Nat)(x:Int):bi (List.replicate n jj) x= -1:=by
 by_cases h:0≤x∧x< (List.replicate n jj).length
 ·have h2:=h.2
  rw[anX]at h2
  rw[tg (y:=jj) h.1 (by rw[aoy,if_pos (by omega)])]
  rfl
 ·exact LS h
def xZ(cap:Int):Nw:=⟨[false],List.replicate cap.toNat (0,0,0)⟩
theorem kw(cap:Int)(x:Int):¬0<aD (xZ cap) x:=by
 intro h
 obtain⟨h1,h2,e,he⟩:=aC h
 have h3:(List.replicate cap.toNat ((0,0,0):Ce))[x.toNat]? =some (aD (xZ cap) x,e):=he
 have:=aor (ang h3)
 injection this with h4 h5
 omega
theorem BF(g:Int):bh [-1] g= -1:=by
 unfold bh
 split
 ·rw[anf]
  rcases hg:g.toNat with _|k
  ·rfl
  ·rfl
 ·rfl
theorem zS(k:Nat):cz [Value.int .i64 0] k=(List.replicate k (0:Int)).map i64:=by
 induction k with
 |zero=>rfl
 |succ k ih=>simp only[cz,anS,an9,an3]at*;rw[ih];rfl
theorem BG(cap:Int)(H:Hp):af Tryz.prog FS [i64 cap] H fun v H'=>ar (
  ah H H'∧((¬ (0≤cap∧cap≤65536)∧v= .tuple [.pointer none,i64 31].toArray)∨
   ((0≤cap∧cap≤65536)∧∃n S,v= .tuple [ptr n,i64 0].toArray∧dk n H' S (xZ cap)∧∀x,S x→H.size≤x))):=by
 refine aP F7 ?_
 refine vs ?_
 refine(ke cap H).mono ?_
 rintro _ H1 ⟨f1,⟨hb,rfl⟩| ⟨hb,c,C,rfl,c1,hC⟩⟩
 ·refine vs ?_
  exact⟨f1,.inl ⟨hb,rfl⟩⟩
 refine v1 anT ?_
 refine(th H1 hb).mono ?_
 rintro _ H2 ⟨t,tl,rfl,t2,f2,ht,Lc⟩
 refine vs ?_
 refine⟨⟨by omega,by omega,by omega,by omega⟩,?_⟩
 refine vs ?_
 rw[zS]
 have wA:=c1.slt
 have z1:=f1.size
 have z2:=f2.size
 have FD:=az t2.own
 have VG:=az t2.kg
 have f3:ah H2 (((H2.new 3 ((List.replicate cap.toNat (0:Int)).map i64)).new 3 [Value.int .i64 (-1)]).new 279 [ptr c,ptr t,.slice (some ⟨H2.size,0,none⟩) cap.toNat cap.toNat,.slice (some ⟨H2.size+1,0,none⟩) 1 1]):=(((ag.refl _ _).new _ _).new _ _).new _ _
 have e1:ag (fun _=>False) (H2.new 3 ((List.replicate cap.toNat (0:Int)).map i64)) (((H2.new 3 ((List.replicate cap.toNat (0:Int)).map i64)).new 3 [Value.int .i64 (-1)]).new 279 [ptr c,ptr t,.slice (some ⟨H2.size,0,none⟩) cap.toNat cap.toNat,.slice (some ⟨H2.size+1,0,none⟩) 1 1]):=((ag.refl _ _).new _ _).new _ _
 have e2:ag (fun _=>False) ((H2.new 3 ((List.replicate cap.toNat (0:Int)).map i64)).new 3 [Value.int .i64 (-1)]) (((H2.new 3 ((List.replicate cap.toNat (0:Int)).map i64)).new 3 [Value.int .i64 (-1)]).new 279 [ptr c,ptr t,.slice (some ⟨H2.size,0,none⟩) cap.toNat cap.toNat,.slice (some ⟨H2.size+1,0,none⟩) 1 1]):=(ag.refl _ _).new _ _
 have ft:=f1.trans (f2.trans f3)
 refine⟨ft,.inr ⟨hb,H2.size+1+1,(LB.mk (H2.size+1+1) c t tl H2.size (H2.size+1)).S C,rfl,⟨⟨H2.size+1+1,c,t,tl,H2.size,H2.size+1⟩,C,_,List.replicate cap.toNat 0,[-1],rfl,
  ⟨⟨.slice (some ⟨H2.size+1,0,none⟩) 1 1,?_,?_⟩,c1.fresh (f2.trans f3),t2.fresh f3,?_,?_,?_,?_⟩,⟨yH.none rfl (kw cap) (zR _) (Ey _) BF,rfl⟩,fun z=>Iff.rfl⟩,fun z hz=>?_⟩⟩
 ·rw[anX]
  exact aQ (by simp only[am])
 ·exact(Sl.bP (size:=1) (n:=1) (xs:=[i64 (-1)]) rfl (by simp only[am])).ext e2 (fun _ _ h=>h)
 ·exact e1.own (ax _ _ _) (fun h=>h)
 ·simp[xZ]
 ·have:=t2.ne
  refine⟨⟨?_,?_,?_,?_⟩,⟨?_,?_,?_⟩,⟨?_,?_⟩,?_⟩<;>simp only<;>omega
 ·refine⟨fun h=>?_,fun h=>?_,fun h=>?_,fun h=>?_,fun h=>?_⟩<;>(have h2:=wA _ h;first|omega| (simp only at h2;omega))
 ·rcases hz with hz|rfl|rfl|rfl|rfl|rfl
  ·exact hC z hz
  all_goals first|omega| (simp only;omega)
theorem zT{n:Nat}{H:Hp}{S:Nat→Prop}{w:Nw}(h:dk n H S w):af Tryz.prog lf [ptr n] H fun v H'=>ar (
  (w.hs.length=65537∧v=i64 0∧cr (dk n) S H H' w)∨(w.hs.length≠65537∧v=i64 w.hs.length∧cr (dk n) S H H' w.make)):=by
 obtain⟨B,C,L,rs,tops,rfl,m,l,hS⟩:=id h
 obtain⟨tv,ho,yD⟩:=m.own
 refine aP vF ?_
 refine v1 (ae ho) ?_
 refine(iW m.cells).mono ?_
 rintro _ H1 (⟨h1,rfl,rfl⟩| ⟨h1,rfl,C',c1,e1,ya⟩)
 ·refine vs ?_
  exact .inl ⟨h1,rfl,cr.same h (ag.refl _ _)⟩
 have fP:=m.cells.pos
 have hhs:=m.cells.yD
 have Lc:=l.tl
 have slt:=m.slt
 have Kc:=c1.slt
 obtain⟨n1,n2,n3,n4,n5⟩:=m.out
 obtain⟨⟨d1,d2,d3,d4⟩,⟨d5,d6,d7⟩,⟨d8,d9⟩,d10⟩:=m.lj
 have o1:=e1.own ho n1
 refine vs ?_
 refine ak.cK (anp (by omega)) ?_
 refine v1 (ae o1) ?_
 have s1:=yD.ext e1 (fun b hb=>by injection hb with hb;exact hb▸n5)
 refine Qf s1 (-1) (by omega) fun w' H2 b' jz s2 e2=>?_
 have o2:=e2.own o1 d4
 obtain⟨wa,wc,Nr⟩:=Sl.shape s2
 subst Nr
 refine v1 o2 ?_
 generalize Nr:Value.slice wa (tops++[-1]).length wc=w' at*
 have e3:ag (fun z=>z=B.n) H2 (H2.wr B.n [ptr B.c,ptr B.t,.slice (some ⟨B.rk,0,none⟩) rs.length rs.length,w']):=(ag.refl (fun z=>z=B.n) _).wr (fun _=>rfl) _
 have z1:=e1.size
 have sl:∀z,z=B.n∨z=B.t∨z=B.tl∨z=B.rk∨z=B.tp→z<H.size:=fun z hz=>slt z (.inr hz)
 have hn:=sl _ (.inl rfl)
 have ht:=sl _ (.inr (.inl rfl))
 have VG:=sl _ (.inr (.inr (.inl rfl)))
 have hrk:=sl _ (.inr (.inr (.inr (.inl rfl))))
 have htp:=sl _ (.inr (.inr (.inr (.inr rfl))))
 have Ez:∀z,C' z→z≠b'∧(z<H.size→C z):=fun z hz=>by
  have h5:=Kc z hz
  rcases ya z hz with h6|h6
  ·refine⟨fun e=>?_,fun _=>h6⟩
   rcases jz with h7|h7
   ·exact n5 (by rw[←h7,←e];exact h6)
   ·omega
  ·exact⟨by omega,fun h=>by omega⟩
 refine .inr ⟨h1,rfl,(LB.mk B.n B.c B.t B.tl B.rk b').S C',⟨⟨B.n,B.c,B.t,B.tl,B.rk,b'⟩,C',L,rs,tops++[-1],rfl,⟨⟨w',ai o2,s2.ext e3 (fun b hb=>by injection hb with hb;omega)⟩,?_,?_,?_,m.len,?_,?_⟩,⟨by rw[zN];exact l.bt,?_⟩,fun z=>Iff.rfl⟩,?_,fun z hz=>?_⟩
 ·exact(c1.ext e2 (fun x hx e=>by
   rcases ya x hx with h6|h6
   ·exact n5 (e▸h6)
   ·omega)).ext e3 (fun x hx e=>by
   rcases ya x hx with h6|h6
   ·exact n1 (e▸h6)
   ·omega)
 ·exact((m.bT.ext e1 n2 n3).ext e2 d7 d9).ext e3 (Ne.symm d1) (Ne.symm d2)
 ·exact e3.own (e2.own (e1.own m.BA n4) d10) (Ne.symm d3)
 ·refine⟨⟨d1,d2,d3,?_⟩,⟨d5,d6,?_⟩,⟨d8,?_⟩,?_⟩<;>simp only<;>omega
 ·refine⟨fun h=>?_,fun h=>?_,fun h=>?_,fun h=>?_,fun h=>?_⟩
  ·exact n1 ((Ez _ h).2 hn)
  ·exact n2 ((Ez _ h).2 ht)
  ·exact n3 ((Ez _ h).2 VG)
  ·exact n4 ((Ez _ h).2 hrk)
  ·exact(Ez _ h).1 rfl
 ·simp[Nw.make,Lc]
 ·exact((e1.mono fun z _ h=>(hS z).2 (.inl h)).trans (e2.mono fun z _ h=>(hS z).2 (.inr (.inr (.inr (.inr (.inr h))))))).trans (e3.mono fun z _ h=>(hS z).2 (.inr (.inl h)))
 ·rcases hz with hz|rfl|rfl|rfl|rfl|rfl
  ·rcases ya z hz with h6|h6
   ·exact .inl ((hS z).2 (.inl h6))
   ·exact .inr h6
  ·exact .inl ((hS _).2 (.inr (.inl rfl)))
  ·exact .inl ((hS _).2 (.inr (.inr (.inl rfl))))
  ·exact .inl ((hS _).2 (.inr (.inr (.inr (.inl rfl)))))
  ·exact .inl ((hS _).2 (.inr (.inr (.inr (.inr (.inl rfl))))))
  ·rcases jz with rfl|h7
   ·exact .inl ((hS _).2 (.inr (.inr (.inr (.inr (.inr rfl))))))
   ·exact .inr (by first|omega| (simp only;omega))
theorem QE.first{w:Nw}{L:List Lk}{tops:List Int}(l:QE w L tops){g x:Int}(h:w.first g x):bh tops g=x:=by
 obtain⟨h1,h2,h3⟩:=bH.1 h
 have:=l.bt.first (x:=x) (by omega) (fun y hy aM=>h3 y (by omega) aM) (aq w)
 rwa[h2]at this
theorem oP{n:Nat}{H:Hp}{S:Nat→Prop}{w:Nw}(h:dk n H S w)(g:Int):af Tryz.prog lZ [ptr n,i64 g] H fun v H'=>ar (
  ((w.len g=0∧v= .tuple [i64 0,.bool false].toArray)∨∃x,w.first g x∧v= .tuple [i64 x,.bool true].toArray)∧H'=H):=by
 obtain⟨B,C,L,rs,tops,rfl,m,l,hS⟩:=h
 obtain⟨cc,lt,ho,q2,ue,qJ,Nq⟩:=m.fG
 refine aP xK ?_
 refine v1 (ae ho) ?_
 refine(tf m.cells g).mono ?_
 rintro _ _ ⟨rfl,rfl⟩
 refine vs ?_
 refine ak.dec (fun h0=>?_) (fun h0=>?_)
 ·refine vs ?_
  exact⟨.inl ⟨h0,rfl⟩,rfl⟩
 have hg:0<g:=anC fun hg=>h0 (Nw.Gr.2 (.inl (by omega)))
 obtain⟨x,hx⟩:=te hg h0
 have hh:=(bH.1 hx).2.1
 have da:=((m.cells.hm x).2 (by omega)).2
 rw[hh,←l.tl]at da
 have q3:=m.eC q2 (dL (tops:=tops) (h:=g) (by omega) da)
 rw[l.first hx]at q3
 refine v1 (ae ho) ?_
 refine⟨⟨by omega,by omega⟩,?_⟩
 refine v4 (ae q2) am9 ane q3 ?_
 exact⟨.inr ⟨x,hx,rfl⟩,rfl⟩
theorem sd{n:Nat}{H:Hp}{S:Nat→Prop}{w:Nw}(h:dk n H S w)(x k s:Int):af Tryz.prog hY [ptr n,i64 x,rZ k s] H fun v H'=>ar (
  (¬w.cW x k s∧v= .bool false∧cr (dk n) S H H' w)∨(w.cW x k s∧v= .bool true∧∃y,w.cs[x.toNat]? =some y∧cr (dk n) S H H' (w.put x (y.1,k,s)))):=by
 obtain⟨B,C,L,rs,tops,rfl,m,l,hS⟩:=h
 refine aP oD ?_
 refine vs ?_
 have f0:ah H (H.new 224 [i64 k,u64 s]):=(ag.refl _ _).new _ _
 have b0:(H.new 224 [i64 k,u64 s]).own H.size=some [i64 k,u64 s]:=ax _ _ _
 have m0:=m.fresh f0
 generalize H.new 224 [i64 k,u64 s]=H0 at*
 obtain⟨tv,Gv,_⟩:=m0.own
 refine v2 (ae Gv) (ae b0) ?_
 refine(gE m0.cells x k s).mono ?_
 have hC:∀z,C z→S z:=fun z h=>(hS z).2 (.inl h)
 have ff:ag S H H0:=f0.mono fun _ _ h=>h.elim
 rintro _ H1 (⟨bJ,rfl,c1,e1⟩| ⟨bE,rfl,y,hy,eY,c1,e1⟩)
 ·refine vs ?_
  exact .inl ⟨bJ,rfl,cr.same ⟨B,C,L,rs,tops,rfl,m0.ext e1 (fun _ _ h=>h),l,hS⟩ (ff.trans (e1.mono fun _ _ h=>h.elim))⟩
 have lG:(w.put x (y.1,k,s)).cs.length=w.cs.length:=by simp[Nw.put]
 have m1:=m0.aG c1 e1 lG
 have zU:w.cW x k s:=⟨bE,fun z hz=>by rw[hy]at hz;injection hz with hz;rw[←hz];exact eY⟩
 have hx:0≤x∧x<w.cs.length:=⟨bE.1,by have:=(ana.1 hy).1;have:=bE.1;omega⟩
 have Nk:aD w x=y.1:=jE bE.1 hy
 have dA:=bk.2 bE
 have hw:aD (w.put x (y.1,k,s))=aD w:=by
  funext z
  rw[dK hx]
  split
  ·rename_i e;rw[e,Nk]
  ·rfl
 have Dc:cS (w.put x (y.1,k,s)).cs x:=bk.1 (by rw[hw];exact dA)
 obtain⟨BB,o1,_⟩:=m1.own
 refine v1 (ae o1) ?_
 refine(c9 m1.cells x).mono ?_
 rintro _ H2 (⟨bJ,_,_⟩| ⟨_,rfl,c2,e2⟩)
 ·exact absurd Dc bJ
 have m2:=m1.aG c2 e2 rfl
 obtain⟨LW,o2,_⟩:=m2.own
 have nT:ag S H H2:=(ff.trans (e1.mono fun z _ h=>hC z h)).trans (e2.mono fun z _ h=>hC z h)
 have el:∀a b,0<aD w a→0<aD w b→a≠x→b≠x→aN (w.put x (y.1,k,s)) a b=aN w a b:=fun a b ha hb sj lm=>di hx _ ha hb sj lm
 have ex:∀b,0<aD w b→b≠x→aN w x b=true→aN (w.put x (y.1,k,s)) x b=true:=fun b hb lm h=>zM bE hy eY hb lm h
 refine v1 (ae o2) ?_
 refine(cC m2.bT (x:=x) (fun hu=>by have:=zO.up l.bt.bt hu;have:=m2.len.1;omega)).mono ?_
 rintro _ H3 ⟨rfl,L3,t3,l3,k3,u3,e3⟩
 have m3:=m2.dv t3 e3 l3
 have h1:S B.tl:=(hS _).2 (.inr (.inr (.inr (.inl rfl))))
 have h2:S B.rk:=(hS _).2 (.inr (.inr (.inr (.inr (.inl rfl)))))
 have h3:S B.tp:=(hS _).2 (.inr (.inr (.inr (.inr (.inr rfl)))))
 have C3:ag S H H3:=nT.trans (e3.mono fun z _ h=>h▸h1)
 unfold fY
 by_cases hu:bi L x= -1
 ·rw[if_pos hu]
  refine vs ?_
  have kk:aX L3=aX L:=by rw[k3];unfold iz;rw[if_pos hu]
  have uu:bi L3=bi L:=by
   rw[u3]
   funext z
   unfold cV aE
   split
   ·rename_i e;rw[e,hu]
   ·rfl
  refine .inr ⟨zU,rfl,y,hy,cr.same ⟨B,C,L3,rs,tops,rfl,m3,⟨?_,l.tl⟩,hS⟩ C3⟩
  rw[hw,kk,uu]
  exact l.bt.Sk dA hu el ex (aq w)
 rw[if_neg hu]
 refine vs ?_
 have bo:=l.bt.low dA hu el ex (aq w)
 rw[←hw,←k3,←u3]at bo
 have DH:=zO.up l.bt.bt hu
 refine(iY m3 bo.bt (x:=bi L x) (fun _=>by rw[hw,DH.2.2.2];exact dA)).mono ?_
 rintro _ H4 ⟨L4,Ug,m4,b4,u4,e4⟩
 have bo4:Sj (aD (w.put x (y.1,k,s))) (aN (w.put x (y.1,k,s))) (aX L4) (bi L4) (bh tops) (aD (w.put x (y.1,k,s)) x) x:=⟨b4,by rw[u4];exact bo.t1,by rw[u4];exact bo.t2,by rw[u4];exact bo.ox,bo.nx,bo.g0⟩
 have ul:ag S H H4:=C3.trans (e4.mono fun z _ h=>by rcases h with rfl|rfl;exact h1;exact h2)
 obtain⟨cc,lt,o4,q2,ue,qJ,Nq⟩:=m4.fG
 have da:aD (w.put x (y.1,k,s)) x<tops.length:=by
  have:=((m4.cells.hm x).2 bo.g0).2
  have e5:(w.put x (y.1,k,s)).hs=w.hs:=rfl
  rw[e5]at this
  have:=l.tl
  omega
 have QA:=bo.g0
 generalize hg:aD (w.put x (y.1,k,s)) x=g at*
 have q3:=m4.eC q2 (dL (tops:=tops) (h:=g) (by omega) da)
 refine vs ?_
 refine jk.intro (fun H'=>H'.own B.n=some [ptr B.c,ptr B.t,.slice (some ⟨B.rk,0,none⟩) Ug.length Ug.length,.slice (some ⟨B.tp,0,none⟩) tops.length cc]) o4 ?_
 refine vs ?_
 refine fk.intro (.slice (some ⟨B.tp,0,none⟩) tops.length cc) (fun H' hI=>by refine v1 (ae hI) ?_;trivial) ?_
 refine v1 (ae o4) ?_
 refine And.intro o4 ?_
 refine vs ?_
 refine⟨⟨by omega,by omega⟩,?_⟩
 refine v4 (ae q2) am9 ane q3 ?_
 refine And.intro o4 ?_
 refine vs ?_
 refine(gT m4 bo4.mg).mono ?_
 rintro _ H5 ⟨r,L5,rs5,rfl,m5,g5,_,e5⟩
 have bn:=bo4.done g5
 obtain⟨d1,d2,d3,d4⟩:=m4.lj.1
 have no:¬ (C B.n∨B.n=B.tl∨B.n=B.rk):=by rintro(h|h|h);exact m4.out.1 h;omega;omega
 refine And.intro (e5.own o4 no) ?_
 have q4:=e5.own q2 (by obtain⟨_,⟨_,_,d7⟩,⟨_,d9⟩,d10⟩:=m4.lj;rintro(h|h|h);exact m4.out.2.2.2.2 h;omega;omega)
 refine vs ?_
 refine⟨⟨by omega,by omega⟩,?_⟩
 refine v3 q4 am9 ane ?_
 refine⟨by omega,?_⟩
 obtain⟨m6,e6⟩:=m5.kj q4 g.toNat r
 refine And.intro (e6.own (e5.own o4 no) d4) ?_
 refine vs ?_
 refine .inr ⟨zU,rfl,y,hy,cr.same ⟨B,C,L5,rs5,_,rfl,m6,⟨?_,by rw[anb];exact l.tl⟩,hS⟩ ?_⟩
 ·rw[ec (by omega) da]
  exact bn
 ·exact(ul.trans (e5.mono fun z _ h=>by rcases h with h|rfl|rfl;exact hC z h;exact h1;exact h2)).trans (e6.mono fun z _ h=>h▸h3)
theorem vR{n:Nat}{H:Hp}{S:Nat→Prop}{w:Nw}(h:dk n H S w)(x:Int):af Tryz.prog rH [ptr n,i64 x] H fun v H'=>ar (
  (¬cS w.cs x∧v= .bool false∧cr (dk n) S H H' w)∨(cS w.cs x∧v= .bool true∧cr (dk n) S H H' (w.put x (0,0,0)))):=by
 obtain⟨B,C,L,rs,tops,rfl,m,l,hS⟩:=id h
 have hC:∀z,C z→S z:=fun z h=>(hS z).2 (.inl h)
 have s1:S B.tl:=(hS _).2 (.inr (.inr (.inr (.inl rfl))))
 have s2:S B.rk:=(hS _).2 (.inr (.inr (.inr (.inr (.inl rfl)))))
 have s3:S B.tp:=(hS _).2 (.inr (.inr (.inr (.inr (.inr rfl)))))
 obtain⟨tv,o0,_⟩:=m.own
 refine aP rT ?_
 refine v1 (ae o0) ?_
 refine(c9 m.cells x).mono ?_
 rintro _ H1 (⟨bJ,rfl,rfl⟩| ⟨bE,rfl,c1,e1⟩)
 ·refine vs ?_
  exact .inl ⟨bJ,rfl,cr.same h (ag.refl _ _)⟩
 have m1:=m.aG c1 e1 rfl
 obtain⟨BB,o1,_⟩:=m1.own
 have dA:=bk.2 bE
 obtain⟨fO,jA,_⟩:=aC dA
 have Cg:x≠ -1:=by omega
 have ls:=aq w
 have t:=l.bt
 refine v1 (ae o1) ?_
 obtain⟨a1,b1,ZO⟩:=cD (aX L x false)
 obtain⟨a2,b2,ZP⟩:=cD (aX L x true)
 refine⟨.tuple [i64 a1,.bool b1].toArray,(kR m1.bT x).mono (by rintro v H' ⟨rfl,rfl⟩;exact⟨ZO,rfl⟩),?_⟩
 refine vs ?_
 refine⟨_,cj H1 _ a1 b1 ZO,?_⟩
 refine v1 (ae o1) ?_
 refine(ci m1.bT x).mono ?_
 rintro _ H' ⟨rfl,e⟩
 obtain rfl:=e.symm
 rw[ZP]
 refine vs ?_
 refine(cj H1 _ a2 b2 ZP).mono ?_
 rintro _ H' ⟨rfl,e⟩
 obtain rfl:=e.symm
 refine v1 (ae o1) ?_
 refine(cC m1.bT (x:=aX L x false) (fun hu=>by have:=zO.up t.bt hu;have:=m1.len.1;omega)).mono ?_
 rintro _ H2 ⟨rfl,L2,t2,l2,k2,u2,e2⟩
 have m2:=m1.dv t2 e2 l2
 have bt2:zO w L2:=by
  show Bt _ _ _ _
  rw[k2,u2];exact t.bt.Si _
 obtain⟨LW,o2,_⟩:=m2.own
 refine v1 (ae o2) ?_
 refine(cC m2.bT (x:=aX L x true) (fun hu=>by have:=zO.up bt2 hu;have:=m2.len.1;omega)).mono ?_
 rintro _ H3 ⟨rfl,L3,t3,l3,k3,u3,e3⟩
 rw[k2,u2]at k3
 rw[u2]at u3
 have m3:=m2.dv t3 e3 l3
 obtain⟨w1,w2,w3,w4⟩:=t.bt.bare x
 have hk:∀c,aX L x c= -1∨(aD w (aX L x c)=aD w x∧bi L3 (aX L x c)= -1):=fun c=>by
  by_cases hk:aX L x c= -1
  ·exact .inl hk
  ·refine .inr ⟨(t.bt.home hk).2.2.1,?_⟩
   rw[u3,w4,if_pos]
   cases c
   ·exact .inl rfl
   ·exact .inr rfl
 rw[←k3,←u3]at w1
 have mg:=Mg.start w1 dA (hk false) (hk true) (fun e=>t.bt.two x e)
 refine vs ?_
 refine(gT m3 mg).mono ?_
 rintro _ H4 ⟨r,L4,Ug,rfl,m4,g4,f4,e4⟩
 have f4:=f4 x (uE.start (fun hk=>(t.bt.home hk).2.2.2.2) (fun hk=>(t.bt.home hk).2.2.2.2))
 have d:=t.T2 ls dA k3 u3 g4 f4
 have ul:ag S H H4:=(((e1.mono fun z _ h=>hC z h).trans (e2.mono fun z _ h=>h▸s1)).trans (e3.mono fun z _ h=>h▸s1)).trans (e4.mono fun z _ h=>by rcases h with h|rfl|rfl;exact hC z h;exact s1;exact s2)
 obtain⟨ZQ,o4,_⟩:=m4.own
 have cH:=fun y=>dK (w:=w) ⟨fO,jA⟩ (0,0,0) y
 have p0:aD (w.put x (0,0,0)) (-1)=0:=rfl
 have p1:aD (w.put x (0,0,0)) x=0:=by rw[cH,if_pos rfl]
 have p2:∀y,y≠x→aD (w.put x (0,0,0)) y=aD w y:=fun y hy=>by rw[cH,if_neg hy]
 have el:∀a b,0<aD w a→0<aD w b→a≠x→b≠x→aN (w.put x (0,0,0)) a b=aN w a b:=fun a b ha hb sj lm=>di ⟨fO,jA⟩ _ ha hb sj lm
 have lG:(w.put x (0,0,0)).cs.length=w.cs.length:=by simp[Nw.put]
 refine v1 (ae o4) ?_
 refine(nD m4.bT x).mono ?_
 rintro _ H' ⟨rfl,e⟩
 obtain rfl:=e.symm
 rw[d.ux]
 unfold fY
 by_cases hu:bi L x= -1
 ·rw[if_pos hu]
  obtain⟨cc,lt,o5,q5,ue,qJ,Nq⟩:=m4.fG
  have da:aD w x<tops.length:=by
   have:=((m4.cells.hm x).2 dA).2
   have:=l.tl
   omega
  refine v1 (ae o5) ?_
  refine⟨⟨by omega,by omega⟩,?_⟩
  refine v3 q5 am9 ane ?_
  refine⟨by omega,?_⟩
  obtain⟨m5,e5⟩:=m4.kj q5 (aD w x).toNat r
  obtain⟨tv6,o6,_⟩:=m5.own
  refine v1 (ae o6) ?_
  refine(bY m5.cells x).mono ?_
  rintro _ H6 (⟨bJ,_,_⟩| ⟨_,rfl,c6,e6⟩)
  ·exact absurd bE bJ
  have m6:=m5.aG c6 e6 lG
  refine vs ?_
  refine .inr ⟨bE,rfl,cr.same ⟨B,C,L4,Ug,_,rfl,m6,⟨?_,by rw[anb];exact l.tl⟩,hS⟩ ((ul.trans (e5.mono fun z _ h=>h▸s3)).trans (e6.mono fun z _ h=>hC z h))⟩
  rw[ec (by omega) da]
  exact d.PP t dA hu p0 p1 p2 el
 ·rw[if_neg hu]
  have DH:=zO.up t.bt hu
  obtain⟨w5,w6⟩:=d.cut t ls dA hu
  obtain⟨a3,b3,X3⟩:=cD (aX L4 (bi L x) true)
  refine v1 (ae o4) ?_
  refine(ci m4.bT (bi L x)).mono ?_
  rintro _ H' ⟨rfl,e⟩
  obtain rfl:=e.symm
  rw[X3]
  refine vs ?_
  refine(cj _ _ a3 b3 X3).mono ?_
  rintro _ H' ⟨rfl,e⟩
  obtain rfl:=e.symm
  rw[d.kp _ true rfl hu]
  refine v1 (ae o4) ?_
  refine(cC m4.bT (x:=x) (fun hu2=>by have:=zO.up d.bt hu2;have:=m4.len.1;omega)).mono ?_
  rintro _ H5 ⟨rfl,L5,t5,l5,k5,u5,e5⟩
  have m5:=m4.dv t5 e5 l5
  obtain⟨tv5,o5,_⟩:=m5.own
  refine vs ?_
  have Ul:=ul.trans (e5.mono fun z _ h=>h▸s1)
  refine ak.dec (fun g=>?_) (fun g=>?_)<;>refine vs ?_
  ·have m6:=m5
   have Ke:=Ul
   have b6:zO w L5:=by
    show Bt _ _ _ _
    rw[k5,u5];exact w5 g
   have u6:bi L5=if r= -1 then cV (bi L4) x else aE (cV (bi L4) x) r (bi L x):=by rw[if_pos g];exact u5
   refine(iY m6 b6 (x:=bi L x) (fun _=>by rw[DH.2.2.2];exact dA)).mono ?_
   rintro _ H7 ⟨L7,rs7,m7,b7,u7,e7⟩
   have VH:=Ke.trans (e7.mono fun z _ h=>by rcases h with rfl|rfl;exact s1;exact s2)
   obtain⟨tv7,o7,_⟩:=m7.own
   refine v1 (ae o7) ?_
   refine(bY m7.cells x).mono ?_
   rintro _ H8 (⟨bJ,_,_⟩| ⟨_,rfl,c8,e8⟩)
   ·exact absurd bE bJ
   have m8:=m7.aG c8 e8 lG
   refine vs ?_
   refine .inr ⟨bE,rfl,cr.same ⟨B,C,L7,rs7,tops,rfl,m8,⟨?_,l.tl⟩,hS⟩ (VH.trans (e8.mono fun z _ h=>hC z h))⟩
   exact d.below t ls (n:=w.cs.length) (fun y hy=>by obtain⟨y0,y1,_⟩:=aC hy;exact⟨y0,y1⟩) dA hu b7 (by rw[u7,u6]) p0 p1 p2 el
  ·obtain⟨y1,y2,y3,y4⟩:=w6 g
   obtain⟨r1,r2,r3,r4⟩:=d.rx g
   obtain⟨q1,q2,_⟩:=aC (w:=w) (x:=r) (by omega)
   have RY:=m5.len
   refine v1 (ae o5) ?_
   refine(eJ m5.bT (p:=bi L x) (x:=r) (c:=(aX L (bi L x) true==x)) ⟨DH.1,by omega⟩ ⟨q1,by omega⟩ y3 (by rw[u5];exact y2) (by rw[k5];exact y1)).mono ?_
   rintro _ H6 ⟨rfl,L6,t6,l6,k6,QF,e6⟩
   have m6:=m5.dv t6 e6 l6
   have Ke:=Ul.trans (e6.mono fun z _ h=>h▸s1)
   rw[k5]at k6
   rw[u5]at QF
   have b6:zO w L6:=by
    show Bt _ _ _ _
    rw[k6,QF];exact y4
   have u6:bi L6=if r= -1 then cV (bi L4) x else aE (cV (bi L4) x) r (bi L x):=by rw[if_neg g];exact QF
   refine vs ?_
   refine(iY m6 b6 (x:=bi L x) (fun _=>by rw[DH.2.2.2];exact dA)).mono ?_
   rintro _ H7 ⟨L7,rs7,m7,b7,u7,e7⟩
   have VH:=Ke.trans (e7.mono fun z _ h=>by rcases h with rfl|rfl;exact s1;exact s2)
   obtain⟨tv7,o7,_⟩:=m7.own
   refine v1 (ae o7) ?_
   refine(bY m7.cells x).mono ?_
   rintro _ H8 (⟨bJ,_,_⟩| ⟨_,rfl,c8,e8⟩)
   ·exact absurd bE bJ
   have m8:=m7.aG c8 e8 lG
   refine vs ?_
   refine .inr ⟨bE,rfl,cr.same ⟨B,C,L7,rs7,tops,rfl,m8,⟨?_,l.tl⟩,hS⟩ (VH.trans (e8.mono fun z _ h=>hC z h))⟩
   exact d.below t ls (n:=w.cs.length) (fun y hy=>by obtain⟨y0,y1,_⟩:=aC hy;exact⟨y0,y1⟩) dA hu b7 (by rw[u7,u6]) p0 p1 p2 el
theorem tq{n:Nat}{H:Hp}{S:Nat→Prop}{w:Nw}(h:dk n H S w)(g:Int):af Tryz.prog iN [ptr n,i64 g] H fun v H'=>ar (
  (w.len g=0∧v= .tuple [i64 0,.bool false].toArray∧cr (dk n) S H H' w)∨(∃x,w.first g x∧v= .tuple [i64 x,.bool true].toArray∧cr (dk n) S H H' (w.put x (0,0,0)))):=by
 refine aP pT ?_
 refine vs ?_
 refine(oP h g).mono ?_
 rintro _ _ ⟨⟨h0,rfl⟩| ⟨x,hx,rfl⟩,rfl⟩
 ·refine vs ?_
  exact .inl ⟨h0,rfl,cr.same h (ag.refl _ _)⟩
 ·refine vs ?_
  refine(vR h x).mono ?_
  rintro _ H1 (⟨bJ,_,_⟩| ⟨_,rfl,h1⟩)
  ·exact absurd (bk.1 (by have:=bH.1 hx;omega)) bJ
  refine vs ?_
  exact .inr ⟨x,hx,rfl,h1⟩
theorem Ip(n:Nat):wG (.iface 210 (ptr n)) (dk n) where
 slt h:=h.slt
 ext h e hd:=h.ext e hd
 cells:=by
  rintro H S w ⟨B,C,L,rs,tops,rfl,m,l,hS⟩
  exact⟨B.c,C,m.cells⟩
 has:=by
  rintro H S w g ⟨B,C,L,rs,tops,rfl,m,l,hS⟩
  obtain⟨tv,ho,_⟩:=m.own
  exact⟨_,_,bz,ptr B.c,rfl,fI (off:=0) (by kernel_rfl) (ae ho) rfl,(iq m.cells g).mono fun v H' hp=>hp⟩
 make:=by
  intro H S w h
  exact⟨_,_,lf,ptr n,rfl,bv (by kernel_rfl),(zT h).mono fun v H' hp=>hp⟩
 insert:=by
  intro H S w g x k s h
  exact⟨_,_,jr,ptr n,rfl,bv (by kernel_rfl),(vQ h g x k s).mono fun v H' hp=>hp⟩
 min:=by
  intro H S w g h
  refine⟨_,_,lZ,ptr n,rfl,bv (by kernel_rfl),(oP h g).mono ?_⟩
  rintro v H' ⟨⟨h1,rfl⟩| ⟨x,h1,rfl⟩,rfl⟩
  ·exact .inl ⟨h1,rfl,cr.same h (ag.refl _ _)⟩
  ·exact .inr ⟨x,h1,rfl,cr.same h (ag.refl _ _)⟩
 extract:=by
  intro H S w g h
  exact⟨_,_,iN,ptr n,rfl,bv (by kernel_rfl),(tq h g).mono fun v H' hp=>hp⟩
 kq:=by
  intro H S w x k s h
  exact⟨_,_,hY,ptr n,rfl,bv (by kernel_rfl),(sd h x k s).mono fun v H' hp=>hp⟩
 entry:=by
  rintro H S w x ⟨B,C,L,rs,tops,rfl,m,l,hS⟩
  obtain⟨tv,ho,_⟩:=m.own
  refine⟨_,_,aZ,ptr B.c,rfl,fI (off:=0) (by kernel_rfl) (ae ho) rfl,(gD m.cells x).mono ?_⟩
  rintro v H' ⟨c1,f,hv⟩
  exact⟨⟨B,C,L,rs,tops,rfl,m.fresh f,l,hS⟩,f,hv⟩
theorem dC:cO 2:=⟨by omega,by omega⟩
def swp(l:List Int)(i j:Nat):List Int:=(l.set i (l.getD j 0)).set j (l.getD i 0)
theorem fJ(l:List Int)(i j:Nat):(swp l i j).length=l.length:=by unfold swp;simp
theorem zV{l:List Int}{i j:Nat}(hi:i<l.length)(hj:j<l.length)(k:Nat):(swp l i j).getD k 0=if k=j then l.getD i 0 else if k=i then l.getD j 0 else l.getD k 0:=by
 unfold swp
 rw[dh _ _ _ _ (by simpa using hj),dh _ _ _ _ hi]
 by_cases h1:j=k
 ·subst h1;simp
 ·rw[if_neg h1,if_neg (Ne.symm h1)]
  by_cases h2:i=k
  ·subst h2;simp
  ·rw[if_neg h2,if_neg (Ne.symm h2)]
theorem lH{l:List Int}{i j:Nat}(hi:i<l.length)(hj:j<l.length)(k:Nat):(swp l i j)[k]? =if k=j then l[i]? else if k=i then l[j]? else l[k]? :=by
 have hl:=fJ l i j
 have hg:=zV hi hj k
 by_cases hk:k<l.length
 ·rw[am8 (by omega)]
  rw[anf,am8 (by omega)]at hg
  simp only[Option.getD_some]at hg
  rw[hg]
  have e:∀q,q<l.length→l[q]? =some (l.getD q 0):=fun q hq=>by rw[anf,am8 hq];rfl
  split
  ·rw[e i hi]
  ·split
   ·rw[e j hj]
   ·rw[e k hk]
 ·rw[ans (by omega),if_neg (by omega),if_neg (by omega),ans (by omega)]
theorem SR{l:List Int}{i j:Nat}(hi:i<l.length)(hj:j<l.length)(z:Int):z∈swp l i j↔z∈l:=by
 constructor
 ·intro h
  obtain⟨k,hk⟩:=anM h
  rw[lH hi hj]at hk
  split at hk
  ·exact ang hk
  ·split at hk
   ·exact ang hk
   ·exact ang hk
 ·intro h
  obtain⟨k,hk⟩:=anM h
  by_cases h1:k=i
  ·subst h1
   refine ang (i:=j) ?_
   rw[lH hi hj,if_pos rfl,hk]
  ·by_cases h2:k=j
   ·subst h2
    refine ang (i:=i) ?_
    rw[lH hi hj]
    by_cases h3:i=k
    ·exact absurd h3.symm h1
    ·rw[if_neg h3,if_pos rfl,hk]
   ·refine ang (i:=k) ?_
    rw[lH hi hj,if_neg h2,if_neg h1,hk]
theorem Kf{l:List Int}{i j m:Nat}(hi:i<m)(hj:j<m)(hm:m≤l.length):(swp l i j).take m=swp (l.take m) i j:=by
 apply an5
 intro k
 rw[lH (by rw[anR];omega) (by rw[anR];omega),anP,lH (by omega) (by omega),anP,anP,anP]
 rw[if_pos hi,if_pos hj]
 by_cases hk:k<m
 ·simp only[if_pos hk]
 ·simp only[if_neg hk,if_neg (show k≠j by omega),if_neg (show k≠i by omega)]
theorem QG{l:List Int}{i j m:Nat}(hi:i<m)(hj:j<m)(hm:m≤l.length):(swp l i j).drop m=l.drop m:=by
 apply an5
 intro k
 rw[anQ,anQ,lH (by omega) (by omega),if_neg (by omega),if_neg (by omega)]
theorem du.heap{lt:Int→Int→Bool}{l:List Int}{i:Nat}(h:du lt 2 l i)(hB:∀j,1≤j→j<l.length→pa 2 j=i→lt (l.getD j 0) (l.getD i 0)=false)
  (hD:1≤i→i<l.length→lt (l.getD i 0) (l.getD (pa 2 i) 0)=false):ez lt 2 l:=by
 intro j h1 h2
 by_cases e1:j=i
 ·subst e1;exact hD h1 h2
 ·by_cases e2:pa 2 j=i
  ·rw[e2];exact hB j h1 h2 e2
  ·exact h.1 j h1 h2 e1 e2
theorem VI{lt:Int→Int→Bool}(ho:bm lt){l:List Int}{i:Nat}(hi:1≤i)(hl:i<l.length)(hA:du lt 2 l i)(hB:∀j,1≤j→j<l.length→pa 2 j=i→lt (l.getD j 0) (l.getD i 0)=false)
  (aK:lt (l.getD i 0) (l.getD (pa 2 i) 0)=true):du lt 2 (swp l (pa 2 i) i) (pa 2 i)∧∀j,1≤j→j< (swp l (pa 2 i) i).length→pa 2 j=pa 2 i→lt ((swp l (pa 2 i) i).getD j 0) ((swp l (pa 2 i) i).getD (pa 2 i) 0)=false:=by
 have hp:=cB dC hi
 have g:=zV (l:=l) (i:=pa 2 i) (j:=i) (by omega) hl
 rw[fJ]
 have aeI:∀j,1≤j→j<l.length→pa 2 j=pa 2 i→j≠i→lt (l.getD j 0) (l.getD i 0)=false:=fun j h1 h2 h3 h4=>by
  have e4:=hA.1 j h1 h2 h4 (by omega)
  rw[h3]at e4
  cases hx:lt (l.getD j 0) (l.getD i 0)with
  |false=>rfl
  |true=>have:=ho.tr _ _ _ hx aK;rw[this]at e4;cases e4
 refine⟨⟨fun j h1 h2 h3 h4=>?_,fun j h1 h2 h3 h4=>?_⟩,fun j h1 h2 h3=>?_⟩
 ·rw[fJ]at h2
  have Vq:=cB dC h1
  rw[g,g,if_neg h4]
  by_cases e1:j=i
  ·subst e1;exact absurd rfl h4
  ·rw[if_neg e1,if_neg h3]
   by_cases e2:pa 2 j=i
   ·rw[if_pos e2]
    exact hA.2 j h1 h2 e2 (by omega)
   ·rw[if_neg e2];exact hA.1 j h1 h2 e1 e2
 ·rw[fJ]at h2
  have NY:=cB dC h4
  rw[g,g,if_neg (show pa 2 (pa 2 i)≠i by omega),if_neg (show pa 2 (pa 2 i)≠pa 2 i by omega)]
  have e3:=hA.1 (pa 2 i) h4 (by omega) (by omega) (by omega)
  by_cases e1:j=i
  ·rw[if_pos e1];exact e3
  ·have Vq:=cB dC h1
   rw[if_neg e1,if_neg (by omega)]
   have e4:=hA.1 j h1 h2 e1 (by omega)
   rw[h3]at e4
   exact ho.nt _ _ _ e4 e3
 ·have Vq:=cB dC h1
  rw[g,g,if_neg (show pa 2 i≠i by omega),if_pos rfl]
  by_cases e1:j=i
  ·rw[if_pos e1];exact ho.asym aK
  ·rw[if_neg e1,if_neg (by omega)]
   exact aeI j h1 h2 h3 e1
theorem QH{lt:Int→Int→Bool}(ho:bm lt){l:List Int}{i b:Nat}(hb:1≤b)(hl:b<l.length)(hp:pa 2 b=i)(hA:du lt 2 l i)(qh:∀j,1≤j→j<l.length→pa 2 j=i→lt (l.getD j 0) (l.getD b 0)=false)
  (aK:lt (l.getD b 0) (l.getD i 0)=true):du lt 2 (swp l i b) b∧lt ((swp l i b).getD b 0) ((swp l i b).getD (pa 2 b) 0)=false:=by
 have Ox:=cB dC hb
 have g:=zV (l:=l) (i:=i) (j:=b) (by omega) hl
 refine⟨⟨fun j h1 h2 h3 h4=>?_,fun j h1 h2 h3 h4=>?_⟩,?_⟩
 ·rw[fJ]at h2
  have Vq:=cB dC h1
  rw[g,g,if_neg h3,if_neg h4]
  by_cases e1:j=i
  ·subst e1
   rw[if_pos rfl,if_neg (by omega)]
   exact hA.2 b hb hl hp h1
  ·rw[if_neg e1]
   by_cases e2:pa 2 j=i
   ·rw[if_pos e2];exact qh j h1 h2 e2
   ·rw[if_neg e2];exact hA.1 j h1 h2 e1 e2
 ·rw[fJ]at h2
  have Vq:=cB dC h1
  rw[g,g,if_neg (show j≠b by omega),if_neg (show j≠i by omega),if_neg (show pa 2 b≠b by omega),if_pos hp]
  have:=hA.1 j h1 h2 (by omega) (by omega)
  rw[h3]at this
  exact this
 ·rw[g,g,if_pos rfl,hp,if_neg (show i≠b by omega),if_pos rfl]
  exact ho.asym aK
def lI(l at_:List Int):Prop:=∀ (i:Nat) (x:Int),l[i]? =some x→0≤x∧at_[x.toNat]? =some (i:Int)
theorem lI.En{l at_:List Int}(h:lI l at_){i j:Nat}{x:Int}(hi:l[i]? =some x)(hj:l[j]? =some x):i=j:=by
 have h1:=(h i x hi).2
 have h2:=(h j x hj).2
 rw[h1]at h2
 injection h2 with h2
 omega
def zW(l at_:List Int)(i j:Nat):List Int:=(at_.set (l.getD j 0).toNat i).set (l.getD i 0).toNat j
theorem lI.swp{l at_:List Int}(h:lI l at_){i j:Nat}(hi:i<l.length)(hj:j<l.length)(I5:i≠j):lI (swp l i j) (zW l at_ i j)∧(zW l at_ i j).length=at_.length∧∀z:Int,0≤z→z∉l→(zW l at_ i j)[z.toNat]? =at_[z.toNat]? :=by
 have e:∀q,q<l.length→l[q]? =some (l.getD q 0):=fun q hq=>by rw[anf,am8 hq];rfl
 obtain⟨a0,a1⟩:=h i _ (e i hi)
 obtain⟨b0,b1⟩:=h j _ (e j hj)
 have TY:=(ana.1 a1).1
 have Uc:=(ana.1 b1).1
 have aM:(l.getD i 0).toNat≠(l.getD j 0).toNat:=fun h0=>by
  rw[h0,b1]at a1
  injection a1 with a1
  omega
 unfold zW
 refine⟨fun k x hk=>?_,by simp,fun z hz hm=>?_⟩
 ·rw[lH hi hj]at hk
  split at hk
  ·rename_i XT
   rw[e i hi]at hk
   injection hk with hk
   subst hk
   rw[ani (by simpa using TY),XT]
   exact⟨a0,rfl⟩
  ·split at hk
   ·rename_i XT Gc
    rw[e j hj]at hk
    injection hk with hk
    subst hk
    rw[anh aM,ani Uc,Gc]
    exact⟨b0,rfl⟩
   ·rename_i XT Gc
    obtain⟨c0,c1⟩:=h k x hk
    have n1:(l.getD i 0).toNat≠x.toNat:=fun h0=>by
     rw[h0,c1]at a1;injection a1 with a1;omega
    have n2:(l.getD j 0).toNat≠x.toNat:=fun h0=>by
     rw[h0,c1]at b1;injection b1 with b1;omega
    rw[anh n1,anh n2]
    exact⟨c0,c1⟩
 ·have n1:(l.getD i 0).toNat≠z.toNat:=fun h0=>hm (by rw[show z=l.getD i 0 by omega];exact ang (e i hi))
  have n2:(l.getD j 0).toNat≠z.toNat:=fun h0=>hm (by rw[show z=l.getD j 0 by omega];exact ang (e j hj))
  rw[anh n1,anh n2]
theorem pa2(j:Nat):((pa 2 j:Nat):Int)=if j=0 then 0 else((j:Int) - 1) / 2:=by
 unfold pa
 split
 ·rename_i h;subst h;rfl
 ·omega
theorem Sl.at_{H:Hp}{v:Value}{n:Nat}{xs:List Value}{fp:Option Nat}(h:Sl H 1 v n xs fp){i:Nat}{x:Value}(hx:xs[i]? =some x):∃b cc lb,v= .slice (some ⟨b,0,none⟩) n cc∧fp=some b∧H.own b=some lb∧lb[i]? =some x∧i<n∧n≤lb.length:=by
 have hi:=(ana.1 hx).1
 obtain⟨hl,hm⟩:=id h
 cases fp with
 |none=>obtain⟨e,_⟩:=hm;omega
 |some f=>
  obtain⟨lb,cc,hv,ho,h1,h2,h3⟩:=hm
  refine⟨f,cc,lb,hv,rfl,ho,?_,by omega,by omega⟩
  rw[←h3,anI (by omega)]at hx
  exact hx
structure gG(H:Hp)(n c:Nat)(C:Nat→Prop)(rv:Value)(r:Nat)(fp fa:Option Nat)(st:Int)(w:Nw)(l at_:List Int):Prop where
 own:∃av,H.own n=some [ptr c,rv,av]∧Sl H 1 av at_.length (at_.map i64) fa
 cells:aY H c C st w
 jm:∃sv,H.own r=some [ptr n,sv]∧Sl H 1 sv l.length (l.map i64) fp
 nC:¬C n
 rC:¬C r
 rn:r≠n
 vS:∀b,fp=some b→¬C b∧b≠n∧b≠r∧fa≠some b
 Iq:∀b,fa=some b→¬C b∧b≠n∧b≠r
 ll:l.length≤65536
abbrev pv(r:Nat):Value:=.iface 370 (ptr r)
theorem qo{l:List Int}{i:Nat}{x:Int}(h:l[i]? =some x):l.getD i 0=x:=by rw[anf,h];rfl
theorem getD_take{l:List Int}{k m:Nat}(h:k<m):(l.take m).getD k 0=l.getD k 0:=by rw[anf,anf,anI h]
section
variable {H : Hp} {n c : Nat} {C : Nat → Prop} {rv : Value} {r : Nat} {fp fa : Option Nat} {st : Int} {w : Nw} {l at_ : List Int}
theorem nG(m:gG H n c C rv r fp fa st w l at_):af Tryz.prog gK [ptr r] H fun v H'=>ar (v=i64 l.length∧H=H'):=by
 obtain⟨sv,ho,hs⟩:=m.jm
 obtain⟨a,cc,rfl⟩:=cI.Qi hs.rd
 refine aP CP ?_
 refine v1 (ae ho) ?_
 exact⟨rfl,rfl⟩
theorem EA(m:gG H n c C rv r fp fa st w l at_){i j:Nat}(hi:i<l.length)(hj:j<l.length)(bE:∀z∈l,cS w.cs z):af Tryz.prog oo [ptr r,i64 i,i64 j] H fun v H'=>ar (
  v= .bool (aN w (l.getD i 0) (l.getD j 0))∧gG H' n c C rv r fp fa (min (st+1) 4611686018427387904) w l at_∧ag C H H'):=by
 obtain⟨av,hn,ha⟩:=m.own
 obtain⟨sv,ho,hs⟩:=m.jm
 obtain⟨x,hx⟩:∃x,l[i]? =some x:=⟨_,am8 hi⟩
 obtain⟨y,hy⟩:∃y,l[j]? =some y:=⟨_,am8 hj⟩
 obtain⟨b,cc,lb,rfl,fN,hb,lm,_,_⟩:=Sl.at_ hs (i:=i) (x:=i64 x) (by simp[hx])
 obtain⟨b',VJ,Uj,hv,gU,jz,ZR,_,_⟩:=Sl.at_ hs (i:=j) (x:=i64 y) (by simp[hy])
 rw[fN]at gU
 injection gU with gU
 subst gU
 rw[hb]at jz
 injection jz with jz
 subst jz
 have ny:=m.ll
 refine aP Bi ?_
 refine v2 (ae ho) (ae hn) ?_
 refine⟨by omega,?_⟩
 refine v5 (ae hb) ane lm (ae ho) Int.toNat_natCast ?_
 refine⟨by omega,?_⟩
 refine v4 (ae hb) ane ZR Int.toNat_natCast ?_
 have h1:=bE x (ang hx)
 have h2:=bE y (ang hy)
 refine(iV m.cells x y).mono ?_
 rintro _ H1 ⟨rfl,c1,e1⟩
 refine vs ?_
 have sY:=m.cells.st
 rw[if_pos ⟨h1,h2⟩,show fB st 1=min (st+1) 4611686018427387904 by unfold fB;rw[if_neg (by omega)];split<;>omega]at c1
 refine⟨by rw[qo hx,qo hy,Bx h1 h2];rfl,⟨⟨av,e1.own hn m.nC,ha.ext e1 (fun b hb=>(m.Iq b hb).1)⟩,c1,⟨_,e1.own ho m.rC,hs.ext e1 (fun b hb=>(m.vS b hb).1)⟩,m.nC,m.rC,m.rn,m.vS,m.Iq,m.ll⟩,e1⟩
theorem EB(m:gG H n c C rv r fp fa st w l at_)(tU:lI l at_){i j:Nat}(hi:i<l.length)(hj:j<l.length)(I5:i≠j):af Tryz.prog ot [ptr r,i64 i,i64 j] H fun v H'=>ar (
  v= .tuple [].toArray∧gG H' n c C rv r fp fa st w (swp l i j) (zW l at_ i j)∧ag (fun z=>fp=some z∨fa=some z) H H'):=by
 obtain⟨av,hn,ha⟩:=m.own
 obtain⟨sv,ho,hs⟩:=m.jm
 obtain⟨x,hx⟩:∃x,l[i]? =some x:=⟨_,am8 hi⟩
 obtain⟨y,hy⟩:∃y,l[j]? =some y:=⟨_,am8 hj⟩
 obtain⟨b,cc,lb,rfl,rfl,hb,lm,_,Cm⟩:=Sl.at_ hs (i:=i) (x:=i64 x) (by simp[hx])
 obtain⟨b',VJ,Uj,hv,gU,jz,ZR,_,_⟩:=Sl.at_ hs (i:=j) (x:=i64 y) (by simp[hy])
 injection gU with gU
 subst gU
 rw[hb]at jz
 injection jz with jz
 subst jz
 obtain⟨fO,sj⟩:=tU i x hx
 obtain⟨Vn,hay⟩:=tU j y hy
 have TY:=(ana.1 sj).1
 have X0:=(ana.1 hay).1
 obtain⟨f,fc,la,rfl,rfl,hf,SS,_,hla⟩:=Sl.at_ ha (i:=x.toNat) (x:=i64 i) (by simp[sj])
 have ny:=m.ll
 obtain⟨d1,d2,d3,d4⟩:=m.vS b rfl
 obtain⟨g1,g2,g3⟩:=m.Iq f rfl
 have VA:b≠f:=fun e=>d4 (by rw[e])
 refine aP Bl ?_
 refine v1 (ae ho) ?_
 refine⟨by omega,?_⟩
 refine v5 (ae hb) ane ZR (ae ho) Int.toNat_natCast ?_
 refine⟨by omega,?_⟩
 refine v4 (ae hb) ane lm Int.toNat_natCast ?_
 refine⟨by omega,?_⟩
 refine v3 hb ane Int.toNat_natCast ?_
 refine⟨by omega,?_⟩
 refine v1 am9 ?_
 refine⟨by omega,?_⟩
 simp(disch:=(first|omega| (simp only[Zs]<;>omega)|fail)) only[go_sem, ↓reduceIte,Zv,ai hb,ane,Int.toNat_natCast]
 refine⟨by rw[anb];omega,?_⟩
 refine v1 am9 ?_
 have e1:ag (fun z=>z=b) H (H.wr b ((lb.set i (i64 y)).set j (i64 x))):=(ag.refl (fun z=>z=b) _).wr (fun _=>rfl) _
 have ob:(H.wr b ((lb.set i (i64 y)).set j (i64 x))).own b=some ((lb.set i (i64 y)).set j (i64 x)):=ai hb
 have s1:=(hs.sW hb i (i64 y)).sW (ai hb) j (i64 x)
 rw[QI]at s1
 generalize H.wr b ((lb.set i (i64 y)).set j (i64 x))=H1 at*
 have L0:=e1.own ho (Ne.symm d3)
 have uF:=e1.own hn (Ne.symm d2)
 have Zz:=e1.own hf (Ne.symm VA)
 have Pt:=ha.ext e1 (fun z hz h=>by injection hz with hz;exact VA (h.symm.trans hz.symm))
 have c1:=m.cells.ext e1 (fun z hz h=>d1 (h▸hz))
 have gi:((lb.set i (i64 y)).set j (i64 x))[i]? =some (i64 y):=by rw[anh (Ne.symm I5),ani (by omega)]
 have gj:((lb.set i (i64 y)).set j (i64 x))[j]? =some (i64 x):=by rw[ani (by rw[anb];omega)]
 refine v4 (ae ho) (ae hn) (ae L0) (ae uF) ?_
 refine⟨by omega,?_⟩
 refine v6 (ae ob) ane gi (ae L0) (ae uF) Int.toNat_natCast ?_
 refine⟨by omega,?_⟩
 refine v4 (ae ob) ane gj Int.toNat_natCast ?_
 refine⟨by omega,?_⟩
 refine v3 Zz ane am9 ?_
 refine⟨by omega,?_⟩
 refine v1 am9 ?_
 refine⟨by omega,?_⟩
 simp(disch:=(first|omega| (simp only[Zs]<;>omega)|fail)) only[go_sem, ↓reduceIte,Zv,ai Zz,ane,am9]
 refine⟨by rw[anb];omega,?_⟩
 refine v1 am9 ?_
 have e2:ag (fun z=>z=f) H1 (H1.wr f ((la.set y.toNat (i64 i)).set x.toNat (i64 j))):=(ag.refl (fun z=>z=f) _).wr (fun _=>rfl) _
 have s2:=(Pt.sW Zz y.toNat (i64 i)).sW (ai Zz) x.toNat (i64 j)
 rw[QI]at s2
 have ex:=qo hx
 have ey:=qo hy
 refine⟨rfl,⟨⟨_,e2.own uF (Ne.symm g2),?_⟩,c1.ext e2 (fun z hz h=>g1 (h▸hz)),⟨_,e2.own L0 (Ne.symm g3),?_⟩,m.nC,m.rC,m.rn,m.vS,m.Iq,by rw[fJ];exact m.ll⟩,(e1.mono fun z _ hz=>.inl (by rw[hz])).trans (e2.mono fun z _ hz=>.inr (by rw[hz]))⟩
 ·unfold zW
  rw[ex,ey,anb,anb,anY,anY]
  exact s2
 ·have:=s1.ext e2 (fun z hz h=>by injection hz with hz;exact VA (hz.trans h))
  unfold swp
  rw[ex,ey,anb,anb,anY,anY]
  exact this
end
structure mB(n c:Nat)(C:Nat→Prop)(rv:Value)(r:Nat)(fp fa:Option Nat)(st:Int)(w:Nw)(l at_:List Int)(mm:Nat)(H H':Hp)(l' ln:List Int)(q:Nat):Prop where
 jm:gG H' n c C rv r fp fa (min (st+q) 4611686018427387904) w l' ln
 ok:lI l' ln
 mem:∀z,z∈l'↔z∈l
 len:l'.length=l.length
 drop:l'.drop mm=l.drop mm
 Kg:ln.length=at_.length
 off:∀z:Int,0≤z→z∉l→ln[z.toNat]? =at_[z.toNat]?
 ext:ag (fun z=>C z∨fp=some z∨fa=some z) H H'
section
variable {H H1 : Hp} {n c : Nat} {C : Nat → Prop} {rv : Value} {r : Nat} {fp fa : Option Nat} {st : Int} {w : Nw} {l at_ l1 Gw : List Int} {mm q : Nat}
theorem mB.refl(m:gG H n c C rv r fp fa st w l at_)(tU:lI l at_)(mm:Nat):mB n c C rv r fp fa st w l at_ mm H H l at_ 0:=
 ⟨by have:=m.cells.st;rw[show min (st+((0:Nat):Int)) 4611686018427387904=st by omega];exact m,tU,fun _=>Iff.rfl,rfl,rfl,rfl,fun _ _ _=>rfl,ag.refl _ _⟩
theorem mB.less(h:mB n c C rv r fp fa st w l at_ mm H H1 l1 Gw q)(bE:∀z∈l,cS w.cs z){i j:Nat}(hi:i<l.length)(hj:j<l.length):gC Tryz.prog (pv r) "Less" [i64 i,i64 j] H1 fun v H2=>
  v= .bool (aN w (l1.getD i 0) (l1.getD j 0))∧mB n c C rv r fp fa st w l at_ mm H H2 l1 Gw (q+1):=by
 have hl:=h.len
 refine⟨_,_,oo,ptr r,rfl,bv (by kernel_rfl),(EA h.jm (by omega) (by omega) (fun z hz=>bE z ((h.mem z).1 hz))).mono ?_⟩
 rintro v H2 ⟨hv,m2,e2⟩
 refine⟨hv,?_,h.ok,h.mem,h.len,h.drop,h.Kg,h.off,h.ext.trans (e2.mono fun z _ hz=>.inl hz)⟩
 rw[show min (st+((q+1:Nat):Int)) 4611686018427387904=min (min (st+(q:Int)) 4611686018427387904+1) 4611686018427387904 by omega]
 exact m2
theorem mB.swap(h:mB n c C rv r fp fa st w l at_ mm H H1 l1 Gw q)(hm:mm≤l.length){i j:Nat}(hi:i<mm)(hj:j<mm)(I5:i≠j):gC Tryz.prog (pv r) "Swap" [i64 i,i64 j] H1 fun v H2=>
  v= .tuple [].toArray∧mB n c C rv r fp fa st w l at_ mm H H2 (swp l1 i j) (zW l1 Gw i j) q:=by
 have hl:=h.len
 refine⟨_,_,ot,ptr r,rfl,bv (by kernel_rfl),(EB h.jm h.ok (i:=i) (j:=j) (by omega) (by omega) I5).mono ?_⟩
 rintro v H2 ⟨hv,m2,e2⟩
 obtain⟨a1,a2,a3⟩:=h.ok.swp (i:=i) (j:=j) (by omega) (by omega) I5
 refine⟨hv,m2,a1,fun z=>by rw[SR (by omega) (by omega),h.mem z],by rw[fJ];exact h.len,by rw[QG hi hj (by omega)];exact h.drop,a2.trans h.Kg,fun z hz hm=>?_,h.ext.trans (e2.mono fun z _ hz=>.inr hz)⟩
 rw[a3 z hz (fun h2=>hm ((h.mem z).1 h2))]
 exact h.off z hz hm
theorem qq(m:gG H n c C rv r fp fa st w l at_)(tU:lI l at_){j mm:Nat}(hj:j<mm)(hm:mm≤l.length)(bE:∀z∈l,cS w.cs z)(hA:du (aN w) 2 (l.take mm) j)
  (hB:∀k,1≤k→k< (l.take mm).length→pa 2 k=j→aN w ((l.take mm).getD k 0) ((l.take mm).getD j 0)=false):
  af Tryz.prog u0 [pv r,i64 j] H fun v H'=>ar (v= .tuple [].toArray∧∃ (l' ln:List Int) (q:Nat),mB n c C rv r fp fa st w l at_ mm H H' l' ln q∧ez (aN w) 2 (l'.take mm)∧q≤j7 2 j∧(1≤j→0<q)):=by
 have ho:=aq w
 have ny:=m.ll
 refine aP vL ?_
 refine vs ?_
 refine aT.intro (fun k env H'=>∃ (j':Nat) (l1 Gw:List Int) (q:Nat),env=[(0,pv r),(1,i64 j')]∧k=j'∧j'<mm∧mB n c C rv r fp fa st w l at_ mm H H' l1 Gw q∧du (aN w) 2 (l1.take mm) j'∧
   (∀k,1≤k→k< (l1.take mm).length→pa 2 k=j'→aN w ((l1.take mm).getD k 0) ((l1.take mm).getD j' 0)=false)∧q+j7 2 j'≤j7 2 j∧(j'≠j→0<q)) j
  ⟨j,l,at_,0,rfl,rfl,hj,mB.refl m tU mm,hA,hB,by omega,fun h=>absurd rfl h⟩ ?_
 clear hA hB
 rintro j' env H1 ⟨_,l1,Gw,q,rfl,rfl,hj',h1,hA,hB,hq,Uh⟩
 have qP:=h1.len
 have o8:=pa2 j'
 have aeK:IntKind.i64.wrap ((IntKind.i64.wrap ((j':Int) - 1)).tdiv 2)=((pa 2 j':Nat):Int):=by
  rw[wrap64 (n:=(j':Int) - 1) (by omega) (by omega),o8]
  split
  ·rename_i h;subst h;rfl
  ·rw[Int.tdiv_eq_ediv_of_nonneg (by omega),wrap64 (by omega) (by omega)]
 simp(disch:=(first|omega| (simp only[Zs]<;>omega)|fail)) only[go_sem, ↓reduceIte,Zv,if_neg (show¬ ((2:Int)=0) by decide)]
 rw[aeK]
 have Lc:(l1.take mm).length=mm:=by rw[anR];omega
 by_cases h0:j'=0
 ·refine ak.cK (anp (by rw[o8,if_pos h0,h0];rfl)) ?_
  refine vs ?_
  exact⟨rfl,l1,Gw,q,h1,hA.heap hB (fun h=>by omega),by omega,fun h=>Uh (by omega)⟩
 ·have Ns:=cB dC (j:=j') (by omega)
  refine ak.aU (anD (by omega)) ?_
  refine vs ?_
  refine gC.mono (h1.less bE (i:=j') (j:=pa 2 j') (by omega) (by omega)) ?_
  rintro _ H2 ⟨rfl,h2⟩
  have DH:j7 2 (j':Int)=j7 2 ((pa 2 j':Nat):Int)+1:=by
   obtain⟨p,hp,Pu,p0,p1⟩:=mu dC (i:=(j':Int)) (by omega)
   rw[Int.toNat_natCast]at Pu
   rw[oK hp,show p=((pa 2 j':Nat):Int) by omega]
  refine vs ?_
  cases aK:aN w (l1.getD j' 0) (l1.getD (pa 2 j') 0)with
  |false=>
   refine vs ?_
   refine⟨rfl,l1,Gw,q+1,h2,hA.heap hB (fun _ _=>?_),by omega,fun _=>by omega⟩
   rw[getD_take hj',getD_take (by omega)]
   exact aK
  |true=>
   refine vs ?_
   refine gC.mono (h2.swap hm (i:=pa 2 j') (j:=j') (by omega) hj' (by omega)) ?_
   rintro _ H3 ⟨rfl,h3⟩
   refine vs ?_
   obtain⟨g1,g2⟩:=VI ho (l:=l1.take mm) (i:=j') (by omega) (by omega) hA hB (by rw[getD_take hj',getD_take (by omega)];exact aK)
   have ht:(swp l1 (pa 2 j') j').take mm=swp (l1.take mm) (pa 2 j') j':=Kf (by omega) hj' (by omega)
   exact⟨pa 2 j',by omega,pa 2 j',_,_,q+1,rfl,rfl,by omega,h3,by rw[ht];exact g1,by rw[ht];exact g2,by omega,fun _=>by omega⟩
theorem tu(m:gG H n c C rv r fp fa st w l at_)(tU:lI l at_){i0 mm:Nat}(hi:i0<mm)(hm:mm≤l.length)(bE:∀z∈l,cS w.cs z)(hA:du (aN w) 2 (l.take mm) i0):
  af Tryz.prog rL [pv r,i64 i0,i64 mm] H fun v H'=>ar (∃ (b:Bool) (l' ln:List Int) (q:Nat),v= .bool b∧mB n c C rv r fp fa st w l at_ mm H H' l' ln q∧q+2*j7 2 i0≤2*j7 2 ((mm:Int) - 1)∧
   (b=true→ez (aN w) 2 (l'.take mm))∧(b=false→l'=l∧ln=at_∧∀k,1≤k→k< (l.take mm).length→pa 2 k=i0→aN w ((l.take mm).getD k 0) ((l.take mm).getD i0 0)=false)):=by
 have ho:=aq w
 have ny:=m.ll
 refine aP rY ?_
 refine vs ?_
 have Eo:∀k:Nat,k<mm→j7 2 (k:Int)≤j7 2 ((mm:Int) - 1):=fun k hk=>j8 dC ((mm:Int) - 1).toNat _ _ (ano _) (by omega)
 refine aT.intro (fun k env H'=>∃ (i:Nat) (l1 Gw:List Int) (q:Nat),env=[(0,pv r),(1,i64 i0),(2,i64 mm),(7,i64 i)]∧k=mm - i∧i<mm∧i0≤i∧mB n c C rv r fp fa st w l at_ mm H H' l1 Gw q∧du (aN w) 2 (l1.take mm) i∧
   q+2*j7 2 i0≤2*j7 2 i∧(i0<i→aN w ((l1.take mm).getD i 0) ((l1.take mm).getD (pa 2 i) 0)=false)∧(i=i0→l1=l∧Gw=at_)) (mm - i0)
  ⟨i0,l,at_,0,rfl,rfl,hi,ano _,mB.refl m tU mm,hA,by omega,fun h=>by omega,fun _=>⟨rfl,rfl⟩⟩ ?_
 clear hA
 rintro k env H1 ⟨i,l1,Gw,q,rfl,rfl,ZS,Ej,h1,hA,hq,hD,GY⟩
 have qP:=h1.len
 have Lc:(l1.take mm).length=mm:=by rw[anR];omega
 have stay:∀ (H2:Hp) (q':Nat),mB n c C rv r fp fa st w l at_ mm H H2 l1 Gw q'→q'+2*j7 2 i0≤2*j7 2 ((mm:Int) - 1)→(∀k,1≤k→k< (l1.take mm).length→pa 2 k=i→aN w ((l1.take mm).getD k 0) ((l1.take mm).getD i 0)=false)→
   ∃ (b:Bool) (l' ln:List Int) (q:Nat),Value.bool (decide ((i:Int)>i0))= .bool b∧mB n c C rv r fp fa st w l at_ mm H H2 l' ln q∧q+2*j7 2 i0≤2*j7 2 ((mm:Int) - 1)∧
    (b=true→ez (aN w) 2 (l'.take mm))∧(b=false→l'=l∧ln=at_∧∀k,1≤k→k< (l.take mm).length→pa 2 k=i0→aN w ((l.take mm).getD k 0) ((l.take mm).getD i0 0)=false):=by
  intro H2 q' h2 hq' hB
  refine⟨_,l1,Gw,q',rfl,h2,hq',fun h=>?_,fun h=>?_⟩
  ·have:=of_decide_eq_true h
   exact hA.heap hB (fun _ _=>hD (by omega))
  ·have:=of_decide_eq_false h
   have e:i=i0:=by omega
   obtain⟨e1,e2⟩:=GY e
   subst e1 e2 e
   exact⟨rfl,rfl,hB⟩
 have Oz:∀k:Nat,1≤k→(pa 2 k=i↔(2*i+1≤k∧k≤2*i+2)):=fun k hk=>by
  have:=Ql dC (i:=i) hk
  rw[this]
  omega
 refine vs ?_
 have hj1:IntKind.i64.wrap (IntKind.i64.wrap (2*(i:Int))+1)=((2*i+1:Nat):Int):=by
  rw[wrap64 (n:=2*(i:Int)) (by omega) (by omega),wrap64 (by omega) (by omega)];omega
 rw[hj1]
 refine ak.dec (fun M7=>?_) (fun M7=>?_)
 ·refine vs ?_
  exact stay H1 q h1 (by have:=Eo i ZS;omega) (fun k h2 h3 h4=>by have:=(Oz k h2).1 h4;omega)
 refine vs ?_
 refine ak.aU (anD (by omega)) ?_
 refine vs ?_
 have ue:2*i+1<mm:=by omega
 refine Ma (fun e H2=>e.find 0=some (pv r)∧e.find 1=some (i64 i0)∧e.find 2=some (i64 mm)∧e.find 7=some (i64 i)∧∃ (b:Nat) (q':Nat),e.find 9=some (i64 b)∧mB n c C rv r fp fa st w l at_ mm H H2 l1 Gw q'∧q'≤q+1∧1≤b∧b<mm∧pa 2 b=i∧
   ∀k,1≤k→k< (l1.take mm).length→pa 2 k=i→aN w ((l1.take mm).getD k 0) ((l1.take mm).getD b 0)=false) ?_ ?_
 ·have AD:pa 2 (2*i+1)=i:=(Oz _ (by omega)).2 ⟨by omega,by omega⟩
  refine vs ?_
  have fF:IntKind.i64.wrap (((2*i+1:Nat):Int)+1)=((2*i+2:Nat):Int):=by rw[wrap64 (by omega) (by omega)];omega
  rw[fF]
  refine ak.dec (fun h2=>?_) (fun h2=>?_)
  ·have o8:pa 2 (2*i+2)=i:=(Oz _ (by omega)).2 ⟨by omega,by omega⟩
   refine vs ?_
   refine gC.mono (h1.less bE (i:=2*i+2) (j:=2*i+1) (by omega) (by omega)) ?_
   rintro _ H2 ⟨rfl,g2⟩
   refine vs ?_
   cases aK:aN w (l1.getD (2*i+2) 0) (l1.getD (2*i+1) 0)with
   |false=>
    refine vs ?_
    refine⟨trivial,trivial,trivial,trivial,2*i+1,q+1,rfl,g2,by omega,by omega,ue,AD,fun k h3 h4 h5=>?_⟩
    have h6:=(Oz k h3).1 h5
    rw[getD_take (by omega),getD_take (by omega)]
    by_cases h7:k=2*i+1
    ·rw[h7];exact ho.ua _
    ·rw[show k=2*i+2 by omega];exact aK
   |true=>
    refine vs ?_
    refine⟨trivial,trivial,trivial,trivial,2*i+2,q+1,rfl,g2,by omega,by omega,by omega,o8,fun k h3 h4 h5=>?_⟩
    have h6:=(Oz k h3).1 h5
    rw[getD_take (by omega),getD_take (by omega)]
    by_cases h7:k=2*i+2
    ·rw[h7];exact ho.ua _
    ·rw[show k=2*i+1 by omega];exact ho.asym aK
  ·refine vs ?_
   refine⟨trivial,trivial,trivial,trivial,2*i+1,q,rfl,h1,by omega,by omega,ue,AD,fun k h3 h4 h5=>?_⟩
   have h6:=(Oz k h3).1 h5
   rw[show k=2*i+1 by omega]
   exact ho.ua _
 rintro e H2 ⟨e0,e1,e2,e7,b,q',e9,h2,hq',JV,DG,Ox,qh⟩
 refine v5 e0 e1 e2 e7 e9 ?_
 refine gC.mono (h2.less bE (i:=b) (j:=i) (by omega) (by omega)) ?_
 rintro _ H3 ⟨rfl,h3⟩
 have DH:j7 2 (b:Int)=j7 2 (i:Int)+1:=by
  obtain⟨p,hp,Pu,p0,p1⟩:=mu dC (i:=(b:Int)) (by omega)
  rw[Int.toNat_natCast,Ox]at Pu
  rw[oK hp,show p=(i:Int) by omega]
 have hib:=cB dC JV
 refine v5 e0 e1 e2 e7 e9 ?_
 cases aK:aN w (l1.getD b 0) (l1.getD i 0)with
 |false=>
  refine v5 e0 e1 e2 e7 e9 ?_
  refine stay H3 (q'+1) h3 (by have:=Eo b DG;omega) (fun k h4 h5 h6=>?_)
  have h7:=qh k h4 h5 h6
  have h8:aN w ((l1.take mm).getD b 0) ((l1.take mm).getD i 0)=false:=by rw[getD_take DG,getD_take ZS];exact aK
  exact ho.nt _ _ _ h7 h8
 |true=>
  refine v5 e0 e1 e2 e7 e9 ?_
  refine gC.mono (h3.swap hm (i:=i) (j:=b) ZS DG (by omega)) ?_
  rintro _ H4 ⟨rfl,h4⟩
  refine v5 e0 e1 e2 e7 e9 ?_
  obtain⟨g1,g2⟩:=QH ho (l:=l1.take mm) (i:=i) (b:=b) JV (by omega) Ox hA qh (by rw[getD_take DG,getD_take ZS];exact aK)
  have ht:(swp l1 i b).take mm=swp (l1.take mm) i b:=Kf ZS DG (by omega)
  exact⟨mm - b,by omega,b,_,_,q'+1,rfl,rfl,DG,by omega,h4,by rw[ht];exact g1,by omega,fun _=>by rw[ht];exact g2,fun h=>by omega⟩
end
end Go.Proofs.YtjlnnljohemifaaGreat

namespace Go.Proofs.YtjlnnljohemifaaGreat
open Go Go.Vc
section
variable {H : Hp} {n c : Nat} {C : Nat → Prop} {rv : Value} {r : Nat} {fp fa : Option Nat} {st : Int} {w : Nw} {l at_ : List Int}
theorem EC(m:gG H n c C rv r fp fa st w l at_)(hl:l.length<65536){x:Int}(hx:0≤x∧x.toNat<at_.length):af Tryz.prog oq [ptr r,.iface 3 (i64 x)] H fun v H'=>ar (
  v= .tuple [].toArray∧∃cJ,gG H' n c C rv r cJ fa st w (l++[x]) (at_.set x.toNat l.length)∧ag (fun z=>fp=some z∨fa=some z∨z=r) H H'∧(cJ=fp∨∃z,cJ=some z∧H.size≤z)):=by
 obtain⟨av,hn,ha⟩:=m.own
 obtain⟨sv,ho,hs⟩:=m.jm
 obtain⟨y,hy⟩:∃y,at_[x.toNat]? =some y:=⟨_,am8 hx.2⟩
 obtain⟨f,fc,la,rfl,rfl,hf,SS,_,hla⟩:=Sl.at_ ha (i:=x.toNat) (x:=i64 y) (by simp[hy])
 obtain⟨g1,g2,g3⟩:=m.Iq f rfl
 obtain⟨sa,sc,wF⟩:=cI.Qi hs.rd
 refine aP Bj ?_
 refine vs ?_
 refine v3 (ae ho) (ae hn) wF ?_
 refine⟨by omega,?_⟩
 refine v3 hf ane am9 ?_
 refine⟨by omega,?_⟩
 refine v1 am9 ?_
 have e1:ag (fun z=>z=f) H (H.wr f (la.set x.toNat (i64 l.length))):=(ag.refl (fun z=>z=f) _).wr (fun _=>rfl) _
 have s1:=ha.sW hf x.toNat (i64 l.length)
 have uF:=e1.own hn (Ne.symm g2)
 have L0:=e1.own ho (Ne.symm g3)
 have et:=hs.ext e1 (fun z hz h=>(m.vS z hz).2.2.2 (by rw[h]))
 have c1:=m.cells.ext e1 (fun z hz h=>g1 (h▸hz))
 generalize H.wr f (la.set x.toNat (i64 l.length))=H1 at*
 have e2:ag (fun _=>False) H1 (H1.new 3 [i64 x]):=(ag.refl _ _).new _ _
 refine v1 (ae ho) ?_
 refine Sl.append (et.ext e2 (fun _ _ h=>h)) (Sl.bP (size:=1) (xs:=[i64 x]) rfl rfl).rd rfl (by intro v hv;simp only[anj]at hv;subst hv;rfl) (by omega) ?_
 intro Um H3 cJ s3 e3 fN
 have z1:=e1.size
 have hrs:=az L0
 have VF:=az uF
 have Fz:ag (fun z=>fp=some z) H1 H3:=(e2.mono fun _ _ h=>h.elim).me e3 (fun z _ h=>h)
 have Le:=Fz.own L0 (fun h=>(m.vS r h).2.2.1 rfl)
 have hn3:=Fz.own uF (fun h=>(m.vS n h).2.1 rfl)
 obtain⟨a',VJ,Nt⟩:=cI.Qi s3.rd
 subst Nt
 refine v1 Le ?_
 generalize Nt:Value.slice a' (l.length+1) VJ=v' at*
 have e4:ag (fun z=>z=r) H3 (H3.wr r [ptr n,v']):=(ag.refl (fun z=>z=r) _).wr (fun _=>rfl) _
 have hfs:=az hf
 have Dd:∀b,cJ=some b→fp=some b∨H1.size≤b:=fun b hb=>by
  rcases fN with h| ⟨z,h,h5,_⟩
  ·exact .inl (h▸hb)
  ·rw[h]at hb;injection hb with hb;subst hb;rw[am]at h5;exact .inr (by omega)
 have wA:=c1.slt
 refine⟨rfl,cJ,⟨⟨_,e4.own hn3 (Ne.symm m.rn),?_⟩,(c1.ext Fz (fun z hz h=>(m.vS z h).1 hz)).ext e4 (fun z hz h=>m.rC (h▸hz)),⟨_,ai Le,?_⟩,m.nC,m.rC,m.rn,fun b hb=>?_,m.Iq,by rw[ank,ant];omega⟩,
  (e1.mono fun z _ hz=>.inr (.inl (by rw[hz]))).trans ((Fz.mono fun z _ hz=>.inl hz).trans (e4.mono fun z _ hz=>.inr (.inr hz))),?_⟩
 ·have:=((s1.ext Fz (fun z hz h=>(m.vS z h).2.2.2 hz)).ext e4 (fun z hz h=>by injection hz with hz;exact g3 (hz.trans h)))
  rw[anb,anY]
  exact this
 ·have:=s3.ext e4 (fun b hb h=>by
   rcases Dd b hb with h5|h5
   ·exact(m.vS b h5).2.2.1 h
   ·omega)
  rw[ank,anH]
  exact this
 ·rcases Dd b hb with h5|h5
  ·exact m.vS b h5
  ·refine⟨fun h=>?_,by omega,by omega,fun h=>?_⟩
   ·have:=wA b h;omega
   ·injection h with h;omega
 ·rcases fN with h| ⟨z,h,h5,_⟩
  ·exact .inl h
  ·exact .inr ⟨z,h,by rw[am]at h5;omega⟩
theorem Gx(m:gG H n c C rv r fp fa st w l at_)(hl:0<l.length):af Tryz.prog qU [ptr r] H fun v H'=>ar (
  (∃x,v= .iface 3 (i64 x))∧gG H' n c C rv r fp fa st w l.dropLast at_∧ag (fun z=>z=r) H H'):=by
 obtain⟨av,hn,ha⟩:=m.own
 obtain⟨sv,ho,hs⟩:=m.jm
 have ny:=m.ll
 obtain⟨x,hx⟩:∃x,l[l.length - 1]? =some x:=⟨_,am8 (by omega)⟩
 obtain⟨f,cc,lb,rfl,rfl,hb,lm,_,Cm⟩:=Sl.at_ hs (i:=l.length - 1) (x:=i64 x) (by simp[hx])
 have e1:IntKind.i64.wrap ((l.length:Int) - 1)=((l.length - 1:Nat):Int):=by rw[wrap64 (by omega) (by omega)];omega
 obtain⟨_,l2,c2,AF,g2,a5,a6,a7⟩:=id hs
 injection AF with _ _ AF
 subst AF
 rw[hb]at g2
 injection g2 with g2
 subst g2
 refine aP CR ?_
 simp(disch:=(first|omega| (simp only[Zs]<;>omega)|fail)) only[go_sem, ↓reduceIte,Zv,ae ho,e1,Int.toNat_natCast]
 refine⟨by omega,?_⟩
 simp(disch:=(first|omega| (simp only[Zs]<;>omega)|fail)) only[go_sem, ↓reduceIte,Zv,ae hb,ae ho,ane,lm,e1]
 refine⟨by omega,?_⟩
 have wF:Value.slice (if(cc:Int)=((0:Nat):Int)then some (⟨f,0,none⟩:Addr)else Option.map (fun(x:Addr)=>x.add (((0:Nat):Int).toNat*1)) (some (⟨f,0,none⟩:Addr))) (((l.length - 1:Nat):Int).toNat - ((0:Nat):Int).toNat) ((cc:Int).toNat - ((0:Nat):Int).toNat)= .slice (some ⟨f,0,none⟩) (l.length - 1) cc:=by
  split<;>rfl
 refine v2 (ae ho) ho ?_
 rw[wF]
 have ew:ag (fun z=>z=r) H (H.wr r [ptr n,.slice (some ⟨f,0,none⟩) (l.length - 1) cc]):=(ag.refl (fun z=>z=r) _).wr (fun _=>rfl) _
 obtain⟨d1,d2,d3,d4⟩:=m.vS f rfl
 refine⟨⟨_,rfl⟩,⟨⟨_,ew.own hn (Ne.symm m.rn),ha.ext ew (fun z hz h=>(m.Iq z hz).2.2 h)⟩,m.cells.ext ew (fun z hz h=>m.rC (h▸hz)),⟨_,ai ho,?_⟩,m.nC,m.rC,m.rn,m.vS,m.Iq,by rw[anO];omega⟩,ew⟩
 refine⟨by simp,lb,cc,by rw[anO],ew.own hb d3,by rw[anO];omega,a6,?_⟩
 have hx7:((l.map i64).length)=l.length:=by simp
 rw[anO,List.map_dropLast,aoL,hx7,←a7,apg]
 congr 1
 omega
theorem ED(m:gG H n c C rv r fp fa st w l at_)(tU:lI l at_)(hl:l.length<65536){x:Int}(hx:0≤x∧x.toNat<at_.length)(lG:x∉l)(QJ:cS w.cs x)(bE:∀z∈l,cS w.cs z)(hh:ez (aN w) 2 l):
  af Tryz.prog rK [pv r,.iface 3 (i64 x)] H fun v H'=>ar (v= .tuple [].toArray∧∃ (cJ:Option Nat) (l' ln:List Int) (q:Nat),gG H' n c C rv r cJ fa (min (st+q) 4611686018427387904) w l' ln∧lI l' ln∧ez (aN w) 2 l'∧(∀z,z∈l'↔z=x∨z∈l)∧l'.length=l.length+1∧
   ln.length=at_.length∧(∀z:Int,0≤z→z≠x→z∉l→ln[z.toNat]? =at_[z.toNat]?)∧q≤j7 2 l.length∧(0<l.length→0<q)∧ag (fun z=>C z∨fp=some z∨fa=some z∨z=r) H H'∧(cJ=fp∨∃z,cJ=some z∧H.size≤z)):=by
 refine aP rX ?_
 refine vs ?_
 refine gC.mono (K:=fun v H'=>v= .tuple [].toArray∧∃cJ,gG H' n c C rv r cJ fa st w (l++[x]) (at_.set x.toNat l.length)∧ag (fun z=>fp=some z∨fa=some z∨z=r) H H'∧(cJ=fp∨∃z,cJ=some z∧H.size≤z)) ⟨_,_,oq,ptr r,rfl,bv (by kernel_rfl),EC m hl hx⟩ ?_
 rintro _ H1 ⟨rfl,cJ,m1,e1,gU⟩
 refine vs ?_
 refine gC.mono (K:=fun v H'=>v=i64 (l++[x]).length∧H1=H') ⟨_,_,gK,ptr r,rfl,bv (by kernel_rfl),nG m1⟩ ?_
 rintro _ _ ⟨rfl,rfl⟩
 refine vs ?_
 have aV:(l++[x]).length=l.length+1:=by simp
 rw[show IntKind.i64.wrap (((l++[x]).length:Int) - 1)=((l.length:Nat):Int) by rw[aV,wrap64 (by omega) (by omega)];omega]
 have aeM:lI (l++[x]) (at_.set x.toNat l.length):=fun i z hz=>by
  rcases aoG i l.length with h|h|h
  ·rw[anq h]at hz
   obtain⟨a,b⟩:=tU i z hz
   have aM:x.toNat≠z.toNat:=fun e=>lG (by rw[show x=z by omega];exact ang hz)
   rw[anh aM]
   exact⟨a,b⟩
  ·subst h
   rw[anE (ano _),aos]at hz
   simp only[anG,anl]at hz
   subst hz
   rw[ani hx.2]
   exact⟨hx.1,rfl⟩
  ·rw[ans (by omega)]at hz;cases hz
 have ht:(l++[x]).take (l++[x]).length=l++[x]:=anJ
 have M7:∀k,k<l.length→(l++[x]).getD k 0=l.getD k 0:=fun k hk=>by rw[anf,anq hk,anf]
 have Ns:∀k:Nat,1≤k→k<l.length+1→pa 2 k≠l.length:=fun k h1 h2=>by have:=cB dC h1;omega
 refine(qq m1 aeM (j:=l.length) (mm:=(l++[x]).length) (by omega) (ano _) (fun z hz=>?_) (by
  rw[ht]
  refine⟨fun k h1 h2 h3 h4=>?_,fun k h1 h2 h3 h4=>absurd h3 (Ns k h1 (by omega))⟩
  have:=cB dC h1
  rw[M7 k (by omega),M7 _ (by omega)]
  exact hh k h1 (by omega)) (fun k h1 h2 h3=>absurd h3 (Ns k h1 (by rw[ht]at h2;omega)))).mono ?_
 ·rcases ann.1 hz with h|h
  ·exact bE z h
  ·rw[anj]at h;rw[h];exact QJ
 rintro _ H2 ⟨rfl,l',ln,q,g,ic,hq,Uh⟩
 have Dy:=g.len
 rw[←Dy,anJ]at ic
 refine vs ?_
 refine⟨rfl,cJ,l',ln,q,g.jm,g.ok,ic,fun z=>?_,by omega,by rw[g.Kg,anb],fun z hz h1 h2=>?_,hq,fun h=>Uh (by omega),(e1.mono fun z _ hz=>.inr hz).me g.ext (fun z Y7 hz=>?_),gU⟩
 ·rw[g.mem z,ann,anj]
  exact Or.comm
 ·rw[g.off z hz (fun h=>by rcases ann.1 h with h|h;exact h2 h;exact h1 (anj.1 h)),anh (by omega)]
 ·rcases hz with hz|hz|hz
  ·exact .inl hz
  ·rcases gU with h| ⟨y,h,h5⟩
   ·exact .inr (.inl (h▸hz))
   ·rw[h]at hz;injection hz with hz;omega
  ·exact .inr (.inr (.inl hz))
theorem Gy(m:gG H n c C rv r fp fa st w l at_)(tU:lI l at_){i:Nat}(hi:i<l.length)(bE:∀z∈l,cS w.cs z)(hA:du (aN w) 2 l i):
  af Tryz.prog sF [pv r,i64 i] H fun v H'=>ar (v= .tuple [].toArray∧∃ (l' ln:List Int) (q:Nat),mB n c C rv r fp fa st w l at_ l.length H H' l' ln q∧ez (aN w) 2 l'∧q≤2*j7 2 ((l.length:Int) - 1)):=by
 have ny:=m.ll
 have ht:l.take l.length=l:=anJ
 refine aP sU ?_
 refine vs ?_
 refine gC.mono (K:=fun v H'=>v=i64 l.length∧H=H') ⟨_,_,gK,ptr r,rfl,bv (by kernel_rfl),nG m⟩ ?_
 rintro _ _ ⟨rfl,rfl⟩
 refine vs ?_
 refine(tu m tU hi (ano _) bE (by rw[ht];exact hA)).mono ?_
 rintro _ H1 ⟨b,l1,Gw,q1,rfl,g1,Pv,hT,hF⟩
 have qP:=g1.len
 cases b with
 |true=>
  have h:=hT rfl
  rw[←qP,anJ]at h
  refine vs ?_
  exact⟨rfl,l1,Gw,q1,g1,h,by omega⟩
 |false=>
  obtain⟨e1,e2,hB⟩:=hF rfl
  subst e1 e2
  refine vs ?_
  have hm:=(j8 dC ((l1.length:Int) - 1).toNat (i:Int) ((l1.length:Int) - 1) (ano _) (by omega))
  refine(qq g1.jm g1.ok (j:=i) (mm:=l1.length) hi (ano _) bE (by rw[ht];exact hA) hB).mono ?_
  rintro _ H2 ⟨rfl,l2,X4,q2,g2,ic,hq2,_⟩
  have nj:=g2.len
  rw[←nj,anJ]at ic
  refine vs ?_
  refine⟨rfl,l2,X4,q1+q2,⟨?_,g2.ok,g2.mem,g2.len,g2.drop,g2.Kg,g2.off,g1.ext.trans g2.ext⟩,ic,by omega⟩
  rw[show min (st+((q1+q2:Nat):Int)) 4611686018427387904=min (min (st+(q1:Int)) 4611686018427387904+(q2:Int)) 4611686018427387904 by omega]
  exact g2.jm
end
end Go.Proofs.YtjlnnljohemifaaGreat

namespace Go.Proofs.YtjlnnljohemifaaGreat
open Go Go.Vc
theorem ez.Ir{lt lt':Int→Int→Bool}{l:List Int}(h:ez lt 2 l)(hfg:∀z∈l,∀y∈l,lt z y=lt' z y):ez lt' 2 l:=by
 intro j h1 h2
 have hp:=cB dC h1
 have e:∀k,k<l.length→l.getD k 0∈l:=fun k hk=>by
  rw[anf,am8 hk];exact List.getElem_mem hk
 rw[←hfg _ (e j h2) _ (e _ (show pa 2 j<l.length by omega))]
 exact h j h1 h2
theorem Is{l at_:List Int}(h:lI l at_){x:Int}(hx:l[l.length - 1]? =some x)(z:Int):z∈l.dropLast↔z∈l∧z≠x:=by
 have hl:=(ana.1 hx).1
 rw[aoL]
 constructor
 ·intro hz
  obtain⟨k,hk⟩:=anM hz
  rw[anP]at hk
  split at hk
  ·refine⟨ang hk,fun e=>?_⟩
   subst e
   have:=h.En hk hx
   omega
  ·cases hk
 ·rintro⟨hz,aM⟩
  obtain⟨k,hk⟩:=anM hz
  have ST:=(ana.1 hk).1
  have:k≠l.length - 1:=fun e=>by rw[e,hx]at hk;injection hk with hk;exact aM hk.symm
  exact ang (i:=k) (by rw[anI (by omega)];exact hk)
theorem lI.dropLast{l at_:List Int}(h:lI l at_):lI l.dropLast at_:=fun i x hx=>by
 rw[aoL,anP]at hx
 split at hx
 ·exact h i x hx
 ·cases hx
section
variable {H : Hp} {n c : Nat} {C : Nat → Prop} {rv : Value} {r : Nat} {fp fa : Option Nat} {st : Int} {w : Nw} {l at_ : List Int}
structure Out(n c:Nat)(C:Nat→Prop)(rv:Value)(r:Nat)(fp fa:Option Nat)(st:Int)(w:Nw)(l at_:List Int)(x:Int)(H H':Hp)(l' ln:List Int)(q:Nat):Prop where
 jm:gG H' n c C rv r fp fa (min (st+q) 4611686018427387904) w l' ln
 ok:lI l' ln
 heap:ez (aN w) 2 l'
 mem:∀z,z∈l'↔z∈l∧z≠x
 len:l'.length+1=l.length
 Kg:ln.length=at_.length
 off:∀z:Int,0≤z→z∉l→ln[z.toNat]? =at_[z.toNat]?
 ext:ag (fun z=>C z∨fp=some z∨fa=some z∨z=r) H H'
theorem Nu{H1:Hp}{l1 Gw:List Int}{mm q:Nat}{x:Int}(h:mB n c C rv r fp fa st w l at_ mm H H1 l1 Gw q)(hl:0<l.length)(hx:l1[l1.length - 1]? =some x)(hh:ez (aN w) 2 (l1.take (l.length - 1))):
  gC Tryz.prog (pv r) "Pop" [] H1 fun v H'=>∃l' ln,Out n c C rv r fp fa st w l at_ x H H' l' ln q:=by
 have aV:=h.len
 refine⟨_,_,qU,ptr r,rfl,bv (by kernel_rfl),(Gx h.jm (by omega)).mono ?_⟩
 rintro v H2 ⟨_,m2,e2⟩
 refine⟨l1.dropLast,Gw,m2,h.ok.dropLast,?_,fun z=>by rw[Is h.ok hx z,h.mem z],by rw[anO];omega,h.Kg,h.off,(h.ext.mono fun z _ hz=>?_).trans (e2.mono fun z _ hz=>.inr (.inr (.inr hz)))⟩
 ·rw[aoL,aV];exact hh
 ·rcases hz with hz|hz|hz
  ·exact .inl hz
  ·exact .inr (.inl hz)
  ·exact .inr (.inr (.inl hz))
theorem BH(m:gG H n c C rv r fp fa st w l at_)(tU:lI l at_){i:Nat}(hi:i<l.length)(bE:∀z∈l,cS w.cs z)(hh:ez (aN w) 2 l):
  af Tryz.prog om [pv r,i64 i] H fun v H'=>ar (∃ (l' ln:List Int) (q:Nat),Out n c C rv r fp fa st w l at_ (l.getD i 0) H H' l' ln q∧q≤2*j7 2 ((l.length:Int) - 1)):=by
 have ny:=m.ll
 refine aP oE ?_
 refine vs ?_
 refine gC.mono (K:=fun v H'=>v=i64 l.length∧H=H') ⟨_,_,gK,ptr r,rfl,bv (by kernel_rfl),nG m⟩ ?_
 rintro _ _ ⟨rfl,rfl⟩
 refine vs ?_
 rw[show IntKind.i64.wrap ((l.length:Int) - 1)=((l.length - 1:Nat):Int) by rw[wrap64 (by omega) (by omega)];omega]
 have h0:=mB.refl m tU l.length
 have hgi:l[i]? =some (l.getD i 0):=by rw[anf,am8 hi];rfl
 refine ak.dec (fun he=>?_) (fun he=>?_)
 ·refine vs ?_
  have oF:i=l.length - 1:=by omega
  refine gC.mono (Nu h0 (by omega) (x:=l.getD i 0) (by rw[←oF];exact hgi) (fun j h1 h2=>by
   rw[anR]at h2
   have:=cB dC h1
   rw[getD_take (by omega),getD_take (by omega)]
   exact hh j h1 (by omega))) ?_
  rintro v H2 ⟨l',ln,o⟩
  refine vs ?_
  exact⟨l',ln,0,o,by omega⟩
 ·refine vs ?_
  have Dc:i<l.length - 1:=by omega
  refine gC.mono (h0.swap (ano _) (i:=i) (j:=l.length - 1) hi (by omega) (by omega)) ?_
  rintro _ H1 ⟨rfl,h1⟩
  refine vs ?_
  have hg:=zV (l:=l) (i:=i) (j:=l.length - 1) hi (by omega)
  have qP:=h1.len
  have hA1:du (aN w) 2 ((swp l i (l.length - 1)).take (l.length - 1)) i:=by
   have hb:=hh.but (aq w) dC i
   refine⟨fun j h2 h3 h4 h5=>?_,fun j h2 h3 h4 h5=>?_⟩
   ·rw[anR]at h3
    have:=cB dC h2
    rw[getD_take (by omega),getD_take (by omega),hg,hg,if_neg (by omega),if_neg h4,if_neg (by omega),if_neg h5]
    exact hb.1 j h2 (by omega) h4 h5
   ·rw[anR]at h3
    have:=cB dC h2
    have:=cB dC h5
    rw[getD_take (by omega),getD_take (by omega),hg,hg,if_neg (by omega),if_neg (by omega),if_neg (by omega),if_neg (by omega)]
    exact hb.2 j h2 (by omega) h4 h5
  have Mb:∀z∈swp l i (l.length - 1),cS w.cs z:=fun z hz=>bE z ((h1.mem z).1 hz)
  have jA:(swp l i (l.length - 1))[l.length - 1]? =some (l.getD i 0):=by rw[lH hi (by omega),if_pos rfl];exact hgi
  have fin:∀ {H2:Hp} {l2 X4:List Int} {q:Nat},mB n c C rv r fp fa (min (st+((0:Nat):Int)) 4611686018427387904) w (swp l i (l.length - 1)) (zW l at_ i (l.length - 1)) (l.length - 1) H1 H2 l2 X4 q→ez (aN w) 2 (l2.take (l.length - 1))→
    gC Tryz.prog (pv r) "Pop" [] H2 fun v H'=>∃l' ln,Out n c C rv r fp fa st w l at_ (l.getD i 0) H H' l' ln q:=by
   intro H2 l2 X4 q g ic
   have sY:=m.cells.st
   have g':mB n c C rv r fp fa st w l at_ l.length H H2 l2 X4 q:=by
    refine⟨?_,g.ok,fun z=>by rw[g.mem z,h1.mem z],g.len.trans qP,?_,g.Kg.trans h1.Kg,fun z hz hm=>?_,h1.ext.trans g.ext⟩
    ·have:=g.jm
     rw[show min (min (st+((0:Nat):Int)) 4611686018427387904+(q:Int)) 4611686018427387904=min (st+(q:Int)) 4611686018427387904 by omega]at this
     exact this
    ·rw[aoZ (by rw[g.len];omega),aoZ (ano _)]
    ·rw[g.off z hz (fun h=>hm ((h1.mem z).1 h))];exact h1.off z hz hm
   refine Nu g' (by omega) ?_ ic
   have hd:=g.drop
   have h2:(l2.drop (l.length - 1))[0]? =((swp l i (l.length - 1)).drop (l.length - 1))[0]? :=by rw[hd]
   rw[anQ,anQ,Nat.add_zero,jA]at h2
   rw[g.len,qP]
   exact h2
  have Eo:=j8 dC ((l.length:Int) - 1).toNat (((l.length - 1:Nat):Int) - 1) ((l.length:Int) - 1) (ano _) (by omega)
  refine(tu h1.jm h1.ok (i0:=i) (mm:=l.length - 1) Dc (by rw[qP];omega) Mb hA1).mono ?_
  rintro _ H2 ⟨b,l2,X4,q1,rfl,g2,Pv,hT,hF⟩
  cases b with
  |true=>
   refine vs ?_
   refine gC.mono (fin g2 (hT rfl)) ?_
   rintro v H3 ⟨l',ln,o⟩
   refine vs ?_
   exact⟨l',ln,q1,o,by omega⟩
  |false=>
   obtain⟨e1,e2,hB⟩:=hF rfl
   subst e1 e2
   have hmi:=j8 dC (((l.length - 1:Nat):Int) - 1).toNat (i:Int) (((l.length - 1:Nat):Int) - 1) (ano _) (by omega)
   refine vs ?_
   refine(qq g2.jm g2.ok (j:=i) (mm:=l.length - 1) Dc (by rw[qP];omega) Mb hA1 hB).mono ?_
   rintro _ H3 ⟨rfl,l3,at3,q2,g3,ic,hq2,_⟩
   refine vs ?_
   have g23:mB n c C rv r fp fa (min (st+((0:Nat):Int)) 4611686018427387904) w (swp l i (l.length - 1)) (zW l at_ i (l.length - 1)) (l.length - 1) H1 H3 l3 at3 (q1+q2):=by
    refine⟨?_,g3.ok,g3.mem,g3.len,g3.drop,g3.Kg,g3.off,g2.ext.trans g3.ext⟩
    have:=g3.jm
    rw[show min (min (min (st+((0:Nat):Int)) 4611686018427387904+(q1:Int)) 4611686018427387904+(q2:Int)) 4611686018427387904=min (min (st+((0:Nat):Int)) 4611686018427387904+((q1+q2:Nat):Int)) 4611686018427387904 by omega]at this
    exact this
   refine gC.mono (fin g23 ic) ?_
   rintro v H4 ⟨l',ln,o⟩
   refine vs ?_
   exact⟨l',ln,q1+q2,o,by omega⟩
end
end Go.Proofs.YtjlnnljohemifaaGreat

namespace Go.Proofs.YtjlnnljohemifaaGreat
open Go Go.Vc
structure Pl where
 r:Nat
 fp:Option Nat
 l:List Int
def Pl.S(P:Pl)(x:Nat):Prop:=x=P.r∨P.fp=some x
def RZ:Option Pl→Value
 |none=>.pointer none
 |some P=>ptr P.r
structure lq(H:Hp)(n c:Nat)(C:Nat→Prop)(rv:Value)(fr fa:Option Nat)(st:Int)(w:Nw)(ps:List (Option Pl))(at_:List Int):Prop where
 own:∃av,H.own n=some [ptr c,rv,av]∧Sl H 1 av at_.length (at_.map i64) fa
 cells:aY H c C st w
 sl:Sl H 1 rv ps.length (ps.map RZ) fr
 jm:∀ (h:Nat) P,ps[h]? =some (some P)→∃sv,H.own P.r=some [ptr n,sv]∧Sl H 1 sv P.l.length (P.l.map i64) P.fp
 nC:¬C n
 Nv:∀b,fr=some b→¬C b∧b≠n∧fa≠some b
 Iq:∀b,fa=some b→¬C b∧b≠n
 pd:∀ (h:Nat) P,ps[h]? =some (some P)→∀x,P.S x→¬C x∧x≠n∧fr≠some x∧fa≠some x
 pr:∀ (h:Nat) P,ps[h]? =some (some P)→P.fp≠some P.r∧P.l.length≤65536
 pp:∀ (h h':Nat) P P',ps[h]? =some (some P)→ps[h']? =some (some P')→h≠h'→∀x,P.S x→¬P'.S x
def Co(n:Nat)(C:Nat→Prop)(fr fa:Option Nat)(ps:List (Option Pl))(z:Nat):Prop:=C z∨z=n∨fr=some z∨fa=some z∨∃ (h:Nat) (P:Pl),ps[h]? =some (some P)∧P.S z
structure EE(w:Nw)(ps:List (Option Pl))(at_:List Int):Prop where
 hl:ps.length=w.hs.length
 hs:∀h:Nat,w.hs[h]? =some true↔∃P,ps[h]? =some (some P)
 h0:ps[0]? =some none
 ok:∀ (h:Nat) P,ps[h]? =some (some P)→ez (aN w) 2 P.l
 R0:∀ (h:Nat) P,ps[h]? =some (some P)→lI P.l at_
 mem:∀ (h:Nat) P,ps[h]? =some (some P)→∀x:Int,x∈P.l↔0≤x∧∃e,w.cs[x.toNat]? =some (((h:Nat):Int),e)
 len:∀ (h:Nat) P,ps[h]? =some (some P)→(P.l.length:Int)=w.len h
 Kg:at_.length=w.cs.length
def dm(H:Hp)(n:Nat)(S:Nat→Prop)(st:Int)(w:Nw):Prop:=∃c C rv fr fa ps at_,lq H n c C rv fr fa st w ps at_∧EE w ps at_∧(∀z,Co n C fr fa ps z↔S z)
section
variable {H H' : Hp} {n c : Nat} {C T : Nat → Prop} {rv : Value} {fr fa : Option Nat} {st VK : Int} {w w' : Nw} {ps : List (Option Pl)} {at_ ln : List Int} {S : Nat → Prop}
theorem lq.slt(h:lq H n c C rv fr fa st w ps at_):∀z,Co n C fr fa ps z→z<H.size:=by
 obtain⟨av,ho,ha⟩:=h.own
 rintro z (hz|rfl|hz|hz| ⟨i,P,hP,hz⟩)
 ·exact h.cells.slt z hz
 ·exact az ho
 ·exact Sl.lt (hz▸h.sl)
 ·exact Sl.lt (hz▸ha)
 ·obtain⟨sv,h1,h2⟩:=h.jm i P hP
  rcases hz with rfl|hz
  ·exact az h1
  ·exact Sl.lt (hz▸h2)
theorem lq.ext(h:lq H n c C rv fr fa st w ps at_)(e:ag T H H')(hd:∀z,Co n C fr fa ps z→¬T z):lq H' n c C rv fr fa st w ps at_:=by
 obtain⟨av,ho,ha⟩:=h.own
 refine⟨⟨av,e.own ho (hd n (.inr (.inl rfl))),ha.ext e (fun b hb=>hd b (.inr (.inr (.inr (.inl hb)))))⟩,h.cells.ext e (fun x hx=>hd x (.inl hx)),h.sl.ext e (fun b hb=>hd b (.inr (.inr (.inl hb)))),fun i P hP=>?_,h.nC,h.Nv,h.Iq,h.pd,h.pr,h.pp⟩
 obtain⟨sv,h1,h2⟩:=h.jm i P hP
 exact⟨sv,e.own h1 (hd _ (.inr (.inr (.inr (.inr ⟨i,P,hP,.inl rfl⟩))))),h2.ext e (fun b hb=>hd b (.inr (.inr (.inr (.inr ⟨i,P,hP,.inr hb⟩)))))⟩
theorem lq.aG(h:lq H n c C rv fr fa st w ps at_)(c1:aY H' c C VK w')(e:ag C H H'):lq H' n c C rv fr fa VK w' ps at_:=by
 obtain⟨av,ho,ha⟩:=h.own
 refine⟨⟨av,e.own ho h.nC,ha.ext e (fun b hb=>(h.Iq b hb).1)⟩,c1,h.sl.ext e (fun b hb=>(h.Nv b hb).1),fun i P hP=>?_,h.nC,h.Nv,h.Iq,h.pd,h.pr,h.pp⟩
 obtain⟨sv,h1,h2⟩:=h.jm i P hP
 exact⟨sv,e.own h1 (h.pd i P hP _ (.inl rfl)).1,h2.ext e (fun b hb=>(h.pd i P hP b (.inr hb)).1)⟩
theorem dm.slt(h:dm H n S st w):∀z,S z→z<H.size:=by
 obtain⟨c,C,rv,fr,fa,ps,at_,m,l,hS⟩:=h
 exact fun z hz=>m.slt z ((hS z).2 hz)
theorem dm.ext(h:dm H n S st w)(e:ag T H H')(hd:∀z,S z→¬T z):dm H' n S st w:=by
 obtain⟨c,C,rv,fr,fa,ps,at_,m,l,hS⟩:=h
 exact⟨c,C,rv,fr,fa,ps,at_,m.ext e (fun z hz=>hd z ((hS z).1 hz)),l,hS⟩
theorem dm.fresh(h:dm H n S st w)(e:ah H H'):dm H' n S st w:=h.ext e fun _ _ h=>h
theorem lq.Mc(m:lq H n c C rv fr fa st w ps at_){g:Nat}{P:Pl}(hP:ps[g]? =some (some P)):gG H n c C rv P.r P.fp fa st w P.l at_:=by
 have hd:=m.pd g P hP
 refine⟨m.own,m.cells,m.jm g P hP,m.nC,(hd P.r (.inl rfl)).1,(hd P.r (.inl rfl)).2.1,fun b hb=>⟨(hd b (.inr hb)).1,(hd b (.inr hb)).2.1,fun h=>(m.pr g P hP).1 (by rw[hb,h]),(hd b (.inr hb)).2.2.2⟩,fun b hb=>⟨(m.Iq b hb).1,(m.Iq b hb).2,fun h=>(hd P.r (.inl rfl)).2.2.2 (by rw[hb,h])⟩,(m.pr g P hP).2⟩
theorem lq.It(m:lq H n c C rv fr fa st w ps at_){g:Nat}{P P':Pl}(hP:ps[g]? =some (some P))(hr:P'.r=P.r)(pm:gG H' n c C rv P'.r P'.fp fa VK w' P'.l ln)(fN:P'.fp=P.fp∨∃z,P'.fp=some z∧H.size≤z)
  (e:ag T H H')(hT:∀z,T z→C z∨P.S z∨fa=some z):lq H' n c C rv fr fa VK w' (ps.set g (some P')) ln:=by
 have eD:=m.slt
 have hg:=(ana.1 hP).1
 have hPS:∀x,P'.S x→P.S x∨H.size≤x:=fun x hx=>by
  rcases hx with rfl|hx
  ·exact .inl (.inl hr)
  ·rcases fN with h| ⟨z,h,h5⟩
   ·exact .inl (.inr (h▸hx))
   ·rw[h]at hx;injection hx with hx;exact .inr (by omega)
 have bV:∀ (h:Nat) Q,(ps.set g (some P'))[h]? =some (some Q)→(h=g∧Q=P')∨(h≠g∧ps[h]? =some (some Q)):=fun h Q hQ=>by
  by_cases hh:h=g
  ·subst hh
   rw[ani hg]at hQ
   simp only[anl]at hQ
   exact .inl ⟨rfl,hQ.symm⟩
  ·rw[anh (Ne.symm hh)]at hQ
   exact .inr ⟨hh,hQ⟩
 have hd:=m.pd g P hP
 refine⟨pm.own,pm.cells,?_,fun h Q hQ=>?_,m.nC,m.Nv,m.Iq,fun h Q hQ x hx=>?_,fun h Q hQ=>?_,fun h h' Q Q' hQ ZT aM x hx vN=>?_⟩
 ·have h1:(ps.set g (some P')).map RZ=ps.map RZ:=by
   rw[anY]
   refine an5 fun i=>?_
   by_cases hi:i=g
   ·subst hi
    rw[ani (by rw[anz];exact hg),anA,hP]
    simp[RZ,hr]
   ·rw[anh (Ne.symm hi)]
  rw[h1,anb]
  exact m.sl.ext e (fun b hb ht=>by
   rcases hT b ht with h|h|h
   ·exact(m.Nv b hb).1 h
   ·exact(hd b h).2.2.1 hb
   ·exact(m.Nv b hb).2.2 h)
 ·rcases bV h Q hQ with ⟨rfl,rfl⟩| ⟨h1,h2⟩
  ·exact pm.jm
  ·obtain⟨sv,q1,q2⟩:=m.jm h Q h2
   have bJ:∀x,Q.S x→¬T x:=fun x hx ht=>by
    rcases hT x ht with h3|h3|h3
    ·exact(m.pd h Q h2 x hx).1 h3
    ·exact m.pp h g Q P h2 hP h1 x hx h3
    ·exact(m.pd h Q h2 x hx).2.2.2 h3
   exact⟨sv,e.own q1 (bJ _ (.inl rfl)),q2.ext e (fun b hb=>bJ b (.inr hb))⟩
 ·rcases bV h Q hQ with ⟨rfl,rfl⟩| ⟨h1,h2⟩
  ·rcases hPS x hx with h3|h3
   ·exact hd x h3
   ·refine⟨fun hc=>?_,fun hc=>?_,fun hc=>?_,fun hc=>?_⟩
    ·have:=eD x (.inl hc);omega
    ·have:=eD n (.inr (.inl rfl));omega
    ·have:=eD x (.inr (.inr (.inl hc)));omega
    ·have:=eD x (.inr (.inr (.inr (.inl hc))));omega
  ·exact m.pd h Q h2 x hx
 ·rcases bV h Q hQ with ⟨rfl,rfl⟩| ⟨h1,h2⟩
  ·refine⟨fun hc=>?_,pm.ll⟩
   exact(pm.vS _ hc).2.2.1 rfl
  ·exact m.pr h Q h2
 ·rcases bV h Q hQ with ⟨rfl,rfl⟩| ⟨h1,h2⟩
  ·rcases bV h' Q' ZT with ⟨rfl,rfl⟩| ⟨h3,h4⟩
   ·exact aM rfl
   ·rcases hPS x hx with h5|h5
    ·exact m.pp _ h' P Q' hP h4 aM x h5 vN
    ·have:=eD x (.inr (.inr (.inr (.inr ⟨h',Q',h4,vN⟩))));omega
  ·rcases bV h' Q' ZT with ⟨rfl,rfl⟩| ⟨h3,h4⟩
   ·rcases hPS x vN with h5|h5
    ·exact m.pp h _ Q P h2 hP aM x hx h5
    ·have:=eD x (.inr (.inr (.inr (.inr ⟨h,Q,h2,hx⟩))));omega
   ·exact m.pp h h' Q Q' h2 h4 aM x hx vN
theorem lq.atp(m:lq H n c C rv fr fa st w ps at_){i:Nat}{o:Option Pl}(h:ps[i]? =some o):∃f cc lb,rv= .slice (some ⟨f,0,none⟩) ps.length cc∧fr=some f∧H.own f=some lb∧lb[i]? =some (RZ o)∧i<ps.length:=by
 obtain⟨b,cc,lb,h1,h2,h3,h4,h5,_⟩:=Sl.at_ m.sl (i:=i) (x:=RZ o) (by simp[h])
 exact⟨b,cc,lb,h1,h2,h3,h4,h5⟩
theorem EE.eT(l:EE w ps at_){g:Int}(h:w.has g):∃P,ps[g.toNat]? =some (some P):=(l.hs g.toNat).1 h.2
end
theorem Gz(cap:Int)(H:Hp):af Tryz.prog Lr [i64 cap] H fun v H'=>ar (
  ah H H'∧((¬ (0≤cap∧cap≤65536)∧v= .tuple [.pointer none,i64 31].toArray)∨
   ((0≤cap∧cap≤65536)∧∃n S,v= .tuple [ptr n,i64 0].toArray∧dm H' n S 0 ⟨[false],List.replicate cap.toNat (0,0,0)⟩∧∀x,S x→H.size≤x))):=by
 refine aP Lw ?_
 refine vs ?_
 refine(kN cap H).mono ?_
 rintro _ H1 ⟨f1,⟨hb,rfl⟩| ⟨hb,c,C,rfl,c1,hC⟩⟩
 ·refine vs ?_
  exact⟨f1,.inl ⟨hb,rfl⟩⟩
 refine v1 anT ?_
 refine⟨by omega,?_⟩
 refine vs ?_
 have aeR:∀k:Nat,cz [Value.int .i64 0] k=(List.replicate k (0:Int)).map i64:=fun k=>by
  induction k with
  |zero=>rfl
  |succ k ih=>simp only[cz,anS,an9,an3]at*;rw[ih];rfl
 rw[aeR]
 have wA:=c1.slt
 have z1:=f1.size
 have f3:ah H1 (((H1.new 370 [.pointer none]).new 3 ((List.replicate cap.toNat (0:Int)).map i64)).new 285 [ptr c,.slice (some ⟨H1.size,0,none⟩) 1 1,.slice (some ⟨H1.size+1,0,none⟩) cap.toNat cap.toNat]):=(((ag.refl _ _).new _ _).new _ _).new _ _
 have e2:ag (fun _=>False) ((H1.new 370 [.pointer none]).new 3 ((List.replicate cap.toNat (0:Int)).map i64)) (((H1.new 370 [.pointer none]).new 3 ((List.replicate cap.toNat (0:Int)).map i64)).new 285 [ptr c,.slice (some ⟨H1.size,0,none⟩) 1 1,.slice (some ⟨H1.size+1,0,none⟩) cap.toNat cap.toNat]):=(ag.refl _ _).new _ _
 have e1:ag (fun _=>False) (H1.new 370 [.pointer none]) ((H1.new 370 [.pointer none]).new 3 ((List.replicate cap.toNat (0:Int)).map i64)):=(ag.refl _ _).new _ _
 have bJ:∀ (h:Nat) (P:Pl),([none]:List (Option Pl))[h]? ≠some (some P):=fun h P hP=>by rcases h with _|h<;>simp at hP
 refine⟨f1.trans f3,.inr ⟨hb,H1.size+1+1,Co (H1.size+1+1) C (some H1.size) (some (H1.size+1)) [none],rfl,⟨c,C,_,some H1.size,some (H1.size+1),[none],List.replicate cap.toNat 0,
  ⟨⟨_,aQ (by simp only[am]),?_⟩,c1.fresh f3,?_,fun h P hP=>absurd hP (bJ h P),fun h=>by have:=wA _ h;omega,fun b hb=>?_,fun b hb=>?_,fun h P hP=>absurd hP (bJ h P),fun h P hP=>absurd hP (bJ h P),fun h h' P P' hP=>absurd hP (bJ h P)⟩,
  ⟨rfl,fun h=>?_,rfl,fun h P hP=>absurd hP (bJ h P),fun h P hP=>absurd hP (bJ h P),fun h P hP=>absurd hP (bJ h P),fun h P hP=>absurd hP (bJ h P),by simp⟩,fun z=>Iff.rfl⟩,fun x hx=>?_⟩⟩
 ·rw[anX]
  exact(Sl.bP (size:=1) (n:=cap.toNat) (xs:=(List.replicate cap.toNat (0:Int)).map i64) (by simp) (by simp only[am])).ext e2 (fun _ _ h=>h)
 ·exact((Sl.bP (size:=1) (n:=1) (xs:=[.pointer none]) rfl rfl).ext e1 (fun _ _ h=>h)).ext e2 (fun _ _ h=>h)
 ·injection hb with hb
  subst hb
  exact⟨fun h=>by have:=wA _ h;omega,by omega,fun h=>by injection h with h;omega⟩
 ·injection hb with hb
  subst hb
  exact⟨fun h=>by have:=wA _ h;omega,by omega⟩
 ·rcases h with _|h<;>simp
 ·rcases hx with hx|rfl|hx|hx| ⟨i,P,hP,hx⟩
  ·exact hC x hx
  ·omega
  ·injection hx with hx;omega
  ·injection hx with hx;omega
  ·exact absurd hP (bJ i P)
theorem EF{H:Hp}{n:Nat}{S:Nat→Prop}{st:Int}{w:Nw}(h:dm H n S st w):af Tryz.prog ol [ptr n] H fun v H'=>ar (
  (w.hs.length=65537∧v=i64 0∧H=H')∨
  (w.hs.length≠65537∧v=i64 w.hs.length∧∃S',dm H' n S' st w.make∧ag S H H'∧∀x,S' x→S x∨H.size≤x)):=by
 obtain⟨c,C,rv,fr,fa,ps,at_,m,l,hS⟩:=h
 obtain⟨av,ho,ha⟩:=m.own
 refine aP Bh ?_
 refine v1 (ae ho) ?_
 refine(jC m.cells).mono ?_
 rintro _ H1 (⟨h1,rfl,rfl⟩| ⟨h1,rfl,C',c1,e1,ya⟩)
 ·refine vs ?_
  exact .inl ⟨h1,rfl,rfl⟩
 have fP:0<ps.length:=(ana.1 l.h0).1
 have ny:=l.hl
 have o1:=e1.own ho m.nC
 refine vs ?_
 refine ak.cK (anp (by omega)) ?_
 refine v1 (ae o1) ?_
 have yD:=m.cells.yD
 have eD:=m.slt
 have QK:=c1.slt
 have z1:=e1.size
 have e2:ag (fun _=>False) H1 (H1.new 374 [ptr n,.slice none 0 0]):=(ag.refl _ _).new _ _
 have hq2:(H1.new 374 [ptr n,.slice none 0 0]).own H1.size=some [ptr n,.slice none 0 0]:=ax _ _ _
 have z2:(H1.new 374 [ptr n,.slice none 0 0]).size=H1.size+1:=by simp only[am]
 generalize (H1.new 374 [ptr n,.slice none 0 0])=H2 at*
 have e0:ag (fun _=>False) H2 (H2.new 370 [ptr H1.size]):=(ag.refl _ _).new _ _
 have Hf:=(m.sl.ext e1 (fun b hb h=>(m.Nv b hb).1 h)).ext e2 (fun _ _ h=>h)
 have o2:=e2.own o1 (fun h=>h)
 refine Sl.append (Hf.ext e0 (fun _ _ h=>h)) (Sl.bP (size:=1) (n:=1) (xs:=[ptr H1.size]) rfl z2.symm).rd rfl (by intro v hv;simp only[anj]at hv;subst hv;rfl) (by omega) ?_
 intro v' H3 fr' s3 e3 Vh
 have Md:ag (fun z=>fr=some z) H2 H3:=(e0.mono fun _ _ h=>h.elim).me e3 (fun z _ h=>h)
 have o3:=Md.own o2 (fun h=>(m.Nv n h).2.1 rfl)
 obtain⟨a',VJ,Nt⟩:=cI.Qi s3.rd
 subst Nt
 refine v1 o3 ?_
 generalize Nt:Value.slice a' (ps.length+1) VJ=v' at*
 have e4:ag (fun z=>z=n) H3 (H3.wr n [ptr c,v',av]):=(ag.refl (fun z=>z=n) _).wr (fun _=>rfl) _
 have hn:=az ho
 have SU:∀b,fr=some b→b<H.size:=fun b hb=>eD b (.inr (.inr (.inl hb)))
 have VL:∀b,fa=some b→b<H.size:=fun b hb=>eD b (.inr (.inr (.inr (.inl hb))))
 have Me:∀b,fr'=some b→fr=some b∨H2.size≤b:=fun b hb=>by
  rcases Vh with h| ⟨z,h,h5,_⟩
  ·exact .inl (h▸hb)
  ·rw[h]at hb;injection hb with hb;subst hb;rw[am]at h5;exact .inr (by omega)
 have bV:∀ (h:Nat) P,(ps++[some (⟨H1.size,none,[]⟩:Pl)])[h]? =some (some P)→ps[h]? =some (some P)∨(h=ps.length∧P=⟨H1.size,none,[]⟩):=fun h P hP=>by
  rcases aoG h ps.length with h5|h5|h5
  ·rw[anq h5]at hP;exact .inl hP
  ·subst h5
   rw[anE (ano _),aos]at hP
   simp only[anG,anl]at hP
   exact .inr ⟨rfl,hP.symm⟩
  ·rw[ans (by rw[ank,ant];omega)]at hP
   cases hP
 have hold:∀ (h:Nat) P,ps[h]? =some (some P)→∀x,P.S x→x<H.size:=fun h P hP x hx=>eD x (.inr (.inr (.inr (.inr ⟨h,P,hP,hx⟩))))
 have qt:∀x,(⟨H1.size,none,[]⟩:Pl).S x→x=H1.size:=fun x hx=>by rcases hx with h|h;exact h;cases h
 have HK:∀ (x:Nat) (e:Int×Int),w.cs[x]? ≠some (((ps.length:Nat):Int),e):=fun x e hx=>by
  have:=(m.cells.home _ (ang hx)).2
  simp only at this
  omega
 refine .inr ⟨h1,rfl,Co n C' fr' fa (ps++[some ⟨H1.size,none,[]⟩]),⟨c,C',v',fr',fa,ps++[some ⟨H1.size,none,[]⟩],at_,
  ⟨⟨av,ai o3,?_⟩,?_,?_,fun h P hP=>?_,fun h=>?_,fun b hb=>⟨fun h=>?_,?_,fun h=>?_⟩,fun b hb=>⟨fun h=>?_,(m.Iq b hb).2⟩,fun h P hP x hx=>⟨fun h=>?_,?_,fun h=>?_,fun h=>?_⟩,fun h P hP=>?_,fun h h' P P' hP hP' aM x hx vN=>?_⟩,
  ⟨?_,fun h=>?_,?_,fun h P hP=>?_,fun h P hP=>?_,fun h P hP x=>?_,fun h P hP=>?_,l.Kg⟩,fun z=>Iff.rfl⟩,?_,fun x hx=>?_⟩
 ·exact(((ha.ext e1 (fun b hb h=>(m.Iq b hb).1 h)).ext e2 (fun _ _ h=>h)).ext Md (fun b hb h=>(m.Nv b h).2.2 hb)).ext e4 (fun b hb h=>(m.Iq b hb).2 h)
 ·exact((c1.ext e2 (fun _ _ h=>h)).ext Md (fun x hx e=>by
   rcases ya x hx with h|h
   ·exact(m.Nv x e).1 h
   ·have:=SU x e;omega)).ext e4 (fun x hx e=>by
   rcases ya x hx with h|h
   ·exact m.nC (e▸h)
   ·omega)
 ·have:=s3.ext e4 (fun b hb e=>by
   rcases Me b hb with h|h
   ·exact(m.Nv b h).2.1 e
   ·omega)
  rw[ank,anH]
  exact this
 ·rcases bV h P hP with h5| ⟨rfl,rfl⟩
  ·obtain⟨sv,q1,q2⟩:=m.jm h P h5
   have hd:=m.pd h P h5
   exact⟨sv,e4.own (Md.own (e2.own (e1.own q1 (hd _ (.inl rfl)).1) (fun h=>h)) (hd _ (.inl rfl)).2.2.1) (hd _ (.inl rfl)).2.1,
    (((q2.ext e1 (fun b hb=>(hd b (.inr hb)).1)).ext e2 (fun _ _ h=>h)).ext Md (fun b hb=>(hd b (.inr hb)).2.2.1)).ext e4 (fun b hb=>(hd b (.inr hb)).2.1)⟩
  ·exact⟨_,e4.own (Md.own hq2 (fun e=>by have:=SU H1.size e;omega)) (fun e=>by have h9:H1.size=n:=e;omega),Sl.nil _ _⟩
 ·rcases ya n h with h|h
  ·exact m.nC h
  ·omega
 ·rcases Me b hb with h5|h5
  ·rcases ya b h with h6|h6
   ·exact(m.Nv b h5).1 h6
   ·have:=SU b h5;omega
  ·have:=QK b h;omega
 ·rcases Me b hb with h|h
  ·exact(m.Nv b h).2.1
  ·omega
 ·rcases Me b hb with h5|h5
  ·exact(m.Nv b h5).2.2 h
  ·have:=VL b h;omega
 ·rcases ya b h with h6|h6
  ·exact(m.Iq b hb).1 h6
  ·have:=VL b hb;omega
 ·rcases bV _ P hP with h5| ⟨_,rfl⟩
  ·rcases ya x h with h6|h6
   ·exact(m.pd _ P h5 x hx).1 h6
   ·have:=hold _ P h5 x hx;omega
  ·have:=qt x hx;have:=QK x h;omega
 ·rcases bV _ P hP with h5| ⟨_,rfl⟩
  ·exact(m.pd _ P h5 x hx).2.1
  ·have:=qt x hx;omega
 ·rcases bV _ P hP with h5| ⟨_,rfl⟩
  ·rcases Me x h with h6|h6
   ·exact(m.pd _ P h5 x hx).2.2.1 h6
   ·have:=hold _ P h5 x hx;omega
  ·have:=qt x hx
   rcases Me x h with h6|h6
   ·have:=SU x h6;omega
   ·omega
 ·rcases bV _ P hP with h5| ⟨_,rfl⟩
  ·exact(m.pd _ P h5 x hx).2.2.2 h
  ·have:=qt x hx;have:=VL x h;omega
 ·rcases bV h P hP with h5| ⟨_,rfl⟩
  ·exact m.pr h P h5
  ·exact⟨(fun h=>by cases h),by simp⟩
 ·rcases bV _ P hP with h5| ⟨h5,rfl⟩
  ·rcases bV _ P' hP' with h6| ⟨h6,rfl⟩
   ·exact m.pp h h' P P' h5 h6 aM x hx vN
   ·have:=qt x vN;have:=hold _ P h5 x hx;omega
  ·rcases bV _ P' hP' with h6| ⟨h6,rfl⟩
   ·have:=qt x hx;have:=hold _ P' h6 x vN;omega
   ·omega
 ·simp[Nw.make,ny]
 ·show(w.hs++[true])[h]? =some true↔_
  rcases aoG h ps.length with h5|h5|h5
  ·rw[anq h5,anq (by omega)]
   exact l.hs h
  ·subst h5
   rw[anE (ano _),anE (by omega),aos,ny,aos]
   simp
  ·rw[ans (by rw[ank,ant];omega),ans (by rw[ank,ant];omega)]
   simp
 ·rw[anq fP];exact l.h0
 ·rcases bV h P hP with h5| ⟨rfl,rfl⟩
  ·exact l.ok h P h5
  ·exact fun j _ hj=>by simp at hj
 ·rcases bV h P hP with h5| ⟨rfl,rfl⟩
  ·exact l.R0 h P h5
  ·exact fun i x hx=>by simp at hx
 ·rcases bV h P hP with h5| ⟨rfl,rfl⟩
  ·exact l.mem h P h5 x
  ·simp only[api,false_iff]
   rintro⟨_,e,he⟩
   exact HK _ _ he
 ·rcases bV h P hP with h5| ⟨rfl,rfl⟩
  ·exact l.len h P h5
  ·show((0:Nat):Int)=w.len _
   unfold Nw.len
   rw[if_pos (by omega),aoI.2 (fun x hx=>by
    have:=(m.cells.home x hx).2
    simp only[anF]
    omega)]
 ·exact((e1.mono fun z _ hz=>(hS z).1 (.inl hz)).trans ((e2.mono fun _ _ h=>h.elim).trans (Md.mono fun z _ hz=>(hS z).1 (.inr (.inr (.inl hz)))))).trans (e4.mono fun z _ hz=>(hS z).1 (.inr (.inl hz)))
 ·rcases hx with hx|rfl|hx|hx| ⟨i,P,hP,hx⟩
  ·rcases ya x hx with h|h
   ·exact .inl ((hS x).1 (.inl h))
   ·exact .inr h
  ·exact .inl ((hS x).1 (.inr (.inl rfl)))
  ·rcases Me x hx with h|h
   ·exact .inl ((hS x).1 (.inr (.inr (.inl h))))
   ·exact .inr (by omega)
  ·exact .inl ((hS x).1 (.inr (.inr (.inr (.inl hx)))))
  ·rcases bV i P hP with h5| ⟨_,rfl⟩
   ·exact .inl ((hS x).1 (.inr (.inr (.inr (.inr ⟨i,P,h5,hx⟩)))))
   ·have:=qt x hx;exact .inr (by omega)
end Go.Proofs.YtjlnnljohemifaaGreat

namespace Go.Proofs.YtjlnnljohemifaaGreat
open Go Go.Vc
theorem lI.VM{l at_ ln:List Int}(h:lI l at_)(ho:∀z∈l,0≤z→ln[z.toNat]? =at_[z.toNat]?):lI l ln:=fun i x hx=>by
 obtain⟨a,b⟩:=h i x hx
 exact⟨a,by rw[ho x (ang hx) a];exact b⟩
theorem gz{ps:List (Option Pl)}{g:Nat}{P':Pl}(hg:g<ps.length){h:Nat}{Q:Pl}(hQ:(ps.set g (some P'))[h]? =some (some Q)):(h=g∧Q=P')∨(h≠g∧ps[h]? =some (some Q)):=by
 by_cases hh:h=g
 ·subst hh
  rw[ani hg]at hQ
  simp only[anl]at hQ
  exact .inl ⟨rfl,hQ.symm⟩
 ·rw[anh (Ne.symm hh)]at hQ
  exact .inr ⟨hh,hQ⟩
theorem EE.apart{w:Nw}{ps:List (Option Pl)}{at_:List Int}(l:EE w ps at_){h h':Nat}{P Q:Pl}(hP:ps[h]? =some (some P))(hQ:ps[h']? =some (some Q))(aM:h≠h'){z:Int}(hz:z∈P.l):z∉Q.l:=fun hz'=>by
 obtain⟨_,e1,h1⟩:=(l.mem h P hP z).1 hz
 obtain⟨_,e2,h2⟩:=(l.mem h' Q hQ z).1 hz'
 rw[h1]at h2
 injection h2 with h2
 injection h2 with h2 _
 omega
theorem EE.pos{w:Nw}{ps:List (Option Pl)}{at_:List Int}(l:EE w ps at_){h:Nat}{P:Pl}(hP:ps[h]? =some (some P)):0<h:=by
 rcases ao1 h with hi|hi
 ·subst hi;rw[l.h0]at hP;cases hP
 ·exact hi
theorem BI{H:Hp}{n:Nat}{S:Nat→Prop}{st:Int}{w:Nw}(h:dm H n S st w)(g x k s:Int):af Tryz.prog ma [ptr n,i64 g,i64 x,rZ k s] H fun v H'=>ar (
  (¬ (w.has g∧(0≤x∧x<w.cs.length)∧¬cS w.cs x)∧v= .bool false∧dm H' n S st w∧ag S H H')∨
  ((w.has g∧(0≤x∧x<w.cs.length)∧¬cS w.cs x)∧v= .bool true∧∃ (S':Nat→Prop) (q:Nat),(q:Int)≤j7 2 (w.len g)∧(0<w.len g→0<q)∧dm H' n S' (min (st+q) 4611686018427387904) (w.put x (g,k,s))∧ag S H H'∧∀z,S' z→S z∨H.size≤z)):=by
 obtain⟨c,C,rv,fr,fa,ps,at_,m,l,hS⟩:=h
 refine aP xR ?_
 refine vs ?_
 have f0:ah H (H.new 224 [i64 k,u64 s]):=(ag.refl _ _).new _ _
 have b0:(H.new 224 [i64 k,u64 s]).own H.size=some [i64 k,u64 s]:=ax _ _ _
 have m0:=m.ext f0 (fun _ _ h=>h)
 generalize H.new 224 [i64 k,u64 s]=H0 at*
 obtain⟨av,Gv,SH⟩:=m0.own
 refine v2 (ae Gv) (ae b0) ?_
 refine(kO m0.cells g x k s).mono ?_
 rintro _ H1 (⟨bJ,rfl,c1,e1⟩| ⟨oO,rfl,c1,e1⟩)
 ·refine vs ?_
  exact .inl ⟨bJ,rfl,⟨c,C,rv,fr,fa,ps,at_,m0.aG c1 e1,l,hS⟩,(f0.mono fun _ _ h=>h.elim).trans (e1.mono fun z _ hz=>(hS z).1 (.inl hz))⟩
 obtain⟨hh,⟨fO,jA⟩,bE⟩:=id oO
 obtain⟨P,hP⟩:=l.eT hh
 have h1:=hh.1
 have yE:((g.toNat:Nat):Int)=g:=by omega
 have bF:=l.mem _ P hP
 have aV:=l.len _ P hP
 rw[yE]at bF aV
 obtain⟨c0,jQ⟩:∃c0,w.cs[x.toNat]? =some c0:=⟨_,am8 (by omega)⟩
 have ue:¬0<c0.1:=fun h=>bE ⟨fO,c0,jQ,h⟩
 have cH:(w.put x (g,k,s)).cs[x.toNat]? =some (g,k,s):=ani (by omega)
 have kA:∀y:Nat,y≠x.toNat→(w.put x (g,k,s)).cs[y]? =w.cs[y]? :=fun y hy=>anh (Ne.symm hy)
 have OF:∀ (i:Nat) Q,ps[i]? =some (some Q)→x∉Q.l:=fun i Q hQ hm=>by
  obtain⟨_,e,he⟩:=(l.mem i Q hQ x).1 hm
  rw[jQ]at he
  injection he with he
  subst he
  have:=l.pos hQ
  exact ue (by simp only;omega)
 have aM:∀ (i:Nat) Q,ps[i]? =some (some Q)→∀y∈Q.l,0≤y∧y.toNat≠x.toNat:=fun i Q hQ y hy=>by
  have h2:=((l.mem i Q hQ y).1 hy).1
  exact⟨h2,fun e=>OF i Q hQ (by rw[show x=y by omega];exact hy)⟩
 have VN:∀ (i:Nat) Q,ps[i]? =some (some Q)→ez (aN (w.put x (g,k,s))) 2 Q.l:=fun i Q hQ=>
  (l.ok i Q hQ).Ir fun z hz y hy=>(gN w x _ (aM i Q hQ z hz).2 (aM i Q hQ y hy).2).symm
 have EG:∀z∈P.l,cS (w.put x (g,k,s)).cs z:=fun z hz=>by
  obtain⟨z0,e,he⟩:=(bF z).1 hz
  exact⟨z0,_,by rw[kA _ (aM _ P hP z hz).2];exact he,by simp only;omega⟩
 have VO:cS (w.put x (g,k,s)).cs x:=⟨fO,_,cH,by simp only;omega⟩
 have hlp:(w.put x (g,k,s)).len g=w.len g+1:=by rw[Nw.fR jQ g,if_neg (fun hc=>by omega),if_pos ⟨by omega,rfl⟩];omega
 have mK:=m.cells.CY
 have ny:P.l.length<65536:=by
  have:=((w.put x (g,k,s)).xV g).2
  have h5:(w.put x (g,k,s)).cs.length=w.cs.length:=anb ..
  omega
 have m1:=m0.aG c1 e1
 obtain⟨av1,L0,_⟩:=m1.own
 obtain⟨f,cc,lb,rfl,rfl,hf,SS,da⟩:=m1.atp hP
 refine v1 (ae L0) ?_
 refine⟨by omega,?_⟩
 simp(disch:=(first|omega| (simp only[Zs]<;>omega)|fail)) only[go_sem, ↓reduceIte,Zv,ae hf,ane,SS,RZ]
 refine(ED (m1.Mc hP) (l.R0 _ P hP) ny ⟨fO,by rw[l.Kg];omega⟩ (OF _ P hP) VO EG (VN _ P hP)).mono ?_
 rintro _ H2 ⟨rfl,cJ,l',ln,q,pm,aeT,ic,ZU,ahd,aeU,VP,hq,Uh,e2,gU⟩
 refine vs ?_
 have z0:=f0.size
 have z1:=e1.size
 have hT:∀z,(C z∨P.fp=some z∨fa=some z∨z=P.r)→C z∨P.S z∨fa=some z:=fun z hz=>by
  rcases hz with hz|hz|hz|hz
  ·exact .inl hz
  ·exact .inr (.inl (.inr hz))
  ·exact .inr (.inr hz)
  ·exact .inr (.inl (.inl hz))
 have mI:∀z,(C z∨P.fp=some z∨fa=some z∨z=P.r)→S z:=fun z hz=>(hS z).1 (by
  rcases hT z hz with hz|hz|hz
  ·exact .inl hz
  ·exact .inr (.inr (.inr (.inr ⟨_,P,hP,hz⟩)))
  ·exact .inr (.inr (.inr (.inl hz))))
 refine .inr ⟨oO,rfl,Co n C (some f) fa (ps.set g.toNat (some ⟨P.r,cJ,l'⟩)),q,by rw[←aV];exact Int.ofNat_le.2 hq,fun h=>Uh (by omega),
  ⟨c,C,_,some f,fa,_,ln,m1.It hP (P':=⟨P.r,cJ,l'⟩) rfl pm gU e2 hT,
   ⟨by rw[anb];exact l.hl,fun h=>?_,?_,fun h Q hQ=>?_,fun h Q hQ=>?_,fun h Q hQ y=>?_,fun h Q hQ=>?_,?_⟩,fun z=>Iff.rfl⟩,?_,fun z hz=>?_⟩
 ·show w.hs[h]? =some true↔_
  rw[l.hs h]
  by_cases Kh:h=g.toNat
  ·subst Kh
   rw[ani da]
   exact⟨fun _=>⟨_,rfl⟩,fun _=>⟨P,hP⟩⟩
  ·rw[anh (Ne.symm Kh)]
 ·rw[anh (by omega)];exact l.h0
 ·rcases gz da hQ with ⟨rfl,rfl⟩| ⟨h5,h6⟩
  ·exact ic
  ·exact VN h Q h6
 ·rcases gz da hQ with ⟨rfl,rfl⟩| ⟨h5,h6⟩
  ·exact aeT
  ·exact(l.R0 h Q h6).VM fun z hz z0=>VP z z0 (fun e=>OF h Q h6 (e▸hz)) (l.apart h6 hP h5 hz)
 ·rcases gz da hQ with ⟨rfl,rfl⟩| ⟨h5,h6⟩
  ·rw[yE]
   show y∈l'↔_
   rw[ZU y]
   constructor
   ·rintro(rfl|hy)
    ·exact⟨fO,_,cH⟩
    ·obtain⟨y0,e,he⟩:=(bF y).1 hy
     exact⟨y0,e,by rw[kA _ (aM _ P hP y hy).2];exact he⟩
   ·rintro⟨y0,e,he⟩
    by_cases lO:y.toNat=x.toNat
    ·exact .inl (by omega)
    ·rw[kA _ lO]at he
     exact .inr ((bF y).2 ⟨y0,e,he⟩)
  ·rw[l.mem h Q h6 y]
   by_cases lO:y.toNat=x.toNat
   ·rw[lO,cH,jQ]
    constructor
    ·rintro⟨y0,e,he⟩
     injection he with he
     subst he
     have:=l.pos h6
     exact absurd (show(0:Int)< ((h:Nat):Int) by omega) ue
    ·rintro⟨y0,e,he⟩
     injection he with he
     injection he with VQ he2
     omega
   ·rw[kA _ lO]
 ·rcases gz da hQ with ⟨rfl,rfl⟩| ⟨h5,h6⟩
  ·rw[yE,hlp]
   show(l'.length:Int)=_
   omega
  ·rw[l.len h Q h6,Nw.fR jQ h,if_neg (fun hc=>by omega),if_neg (fun hc=>by omega)]
   omega
 ·rw[aeU,l.Kg];exact(anb ..).symm
 ·exact(f0.mono fun _ _ h=>h.elim).trans ((e1.mono fun z _ hz=>mI z (.inl hz)).trans (e2.mono fun z _ hz=>mI z hz))
 ·rcases hz with hz|rfl|hz|hz| ⟨i,Q,hQ,hz⟩
  ·exact .inl (mI z (.inl hz))
  ·exact .inl ((hS z).1 (.inr (.inl rfl)))
  ·exact .inl ((hS z).1 (.inr (.inr (.inl hz))))
  ·exact .inl (mI z (.inr (.inr (.inl hz))))
  ·rcases gz da hQ with ⟨rfl,rfl⟩| ⟨h5,h6⟩
   ·rcases hz with rfl|hz
    ·exact .inl (mI _ (.inr (.inr (.inr rfl))))
    ·rcases gU with h| ⟨y,h,h7⟩
     ·exact .inl (mI z (.inr (.inl (h▸hz))))
     ·simp only at hz
      rw[h]at hz;injection hz with hz;exact .inr (by omega)
   ·exact .inl ((hS z).1 (.inr (.inr (.inr (.inr ⟨i,Q,h6,hz⟩)))))
theorem wI{H:Hp}{n:Nat}{S:Nat→Prop}{st:Int}{w:Nw}(h:dm H n S st w)(g:Int):af Tryz.prog qS [ptr n,i64 g] H fun v H'=>ar (
  ((w.len g=0∧v= .tuple [i64 0,.bool false].toArray)∨∃x,w.first g x∧v= .tuple [i64 x,.bool true].toArray)∧H=H'):=by
 obtain⟨c,C,rv,fr,fa,ps,at_,m,l,hS⟩:=h
 obtain⟨av,ho,ha⟩:=m.own
 refine aP CO ?_
 refine v1 (ae ho) ?_
 refine(qZ m.cells g).mono ?_
 rintro _ _ ⟨rfl,rfl⟩
 refine vs ?_
 refine ak.dec (fun h0=>?_) (fun h0=>?_)
 ·refine vs ?_
  exact⟨.inl ⟨h0,rfl⟩,rfl⟩
 have hg:0<g:=by
  by_cases hg:0<g
  ·exact hg
  ·exact absurd (Nw.Gr.2 (.inl (by omega))) h0
 have aeV:w.has g:=by
  refine⟨by omega,?_⟩
  by_cases hx:w.hs[g.toNat]? =some true
  ·exact hx
  ·refine absurd (Nw.Gr.2 (.inr fun i c hc e=>hx ?_)) h0
   have:=m.cells.live c (ang hc) (by omega)
   rwa[e]at this
 obtain⟨P,hP⟩:=l.eT aeV
 have yE:((g.toNat:Nat):Int)=g:=by omega
 have bF:=l.mem _ P hP
 have aV:=l.len _ P hP
 rw[yE]at bF aV
 have ny:=(w.xV g).1
 obtain⟨f,cc,lb,rfl,rfl,hf,SS,da⟩:=m.atp hP
 obtain⟨sv,hr,hs⟩:=m.jm _ P hP
 obtain⟨x,hx⟩:∃x,P.l[0]? =some x:=⟨_,am8 (by omega)⟩
 obtain⟨b,c2,l2,rfl,fN,hb,lm,_,Cm⟩:=Sl.at_ hs (i:=0) (x:=i64 x) (by simp[hx])
 refine v1 (ae ho) ?_
 refine⟨by omega,?_⟩
 simp(disch:=(first|omega| (simp only[Zs]<;>omega)|fail)) only[go_sem, ↓reduceIte,Zv,ae hf,ane,SS,RZ,ae hr]
 refine⟨by omega,?_⟩
 refine v2 (ae hb) (show l2[Int.toNat 0*1]? =some (i64 x)from lm) ?_
 have ZV:=ang hx
 obtain⟨fO,e,he⟩:=(bF x).1 ZV
 refine⟨.inr ⟨x,⟨hg,fO,⟨e,he⟩,fun y hy ⟨e',im⟩ aM=>?_⟩,rfl⟩,rfl⟩
 have hyP:=(bF y).2 ⟨hy,e',im⟩
 obtain⟨j,hj⟩:=anM hyP
 have XS:=(ana.1 hj).1
 have h5:=Ep (aq w) dC (l.ok _ P hP) j j (ano _) XS
 rw[qo hj,qo hx]at h5
 rcases(aq w).M8 x y (Ne.symm aM)with h6|h6
 ·exact h6
 ·rw[h5]at h6;cases h6
theorem BJ{H:Hp}{n:Nat}{S:Nat→Prop}{st:Int}{w:Nw}(h:dm H n S st w)(x:Int):af Tryz.prog xn [ptr n,i64 x] H fun v H'=>ar (
  (¬cS w.cs x∧v= .bool false∧H=H')∨
  (cS w.cs x∧v= .bool true∧∃ (c0:Ce) (q:Nat),w.cs[x.toNat]? =some c0∧q≤2*j7 2 (w.len c0.1 - 1)∧∃S',dm H' n S' (min (st+q) 4611686018427387904) (w.put x (0,0,0))∧ag S H H'∧∀z,S' z→S z∨H.size≤z)):=by
 obtain⟨c,C,rv,fr,fa,ps,at_,m,l,hS⟩:=h
 obtain⟨av,ho,ha⟩:=m.own
 refine aP xQ ?_
 refine v1 (ae ho) ?_
 refine(dZ m.cells x).mono ?_
 rintro _ H1 (⟨bJ,rfl,rfl⟩| ⟨bE,c0,jQ,rfl,c1,e1⟩)
 ·refine vs ?_
  exact .inl ⟨bJ,rfl,rfl⟩
 obtain⟨fO,c0',Iu,fP⟩:=id bE
 rw[jQ]at Iu
 injection Iu with Iu
 subst Iu
 obtain⟨P,hP⟩:=(l.hs c0.1.toNat).1 (m.cells.live _ (ang jQ) fP)
 have yE:((c0.1.toNat:Nat):Int)=c0.1:=by omega
 have bF:=l.mem _ P hP
 have aV:=l.len _ P hP
 rw[yE]at bF aV
 have cH:(w.put x (0,0,0)).cs[x.toNat]? =some (0,0,0):=ani (ana.1 jQ).1
 have kA:∀y:Nat,y≠x.toNat→(w.put x (0,0,0)).cs[y]? =w.cs[y]? :=fun y hy=>anh (Ne.symm hy)
 have m1:=m.aG c1 e1
 obtain⟨av1,L0,Pt⟩:=m1.own
 have ZV:x∈P.l:=(bF x).2 ⟨fO,c0.2,jQ⟩
 have EG:∀z∈P.l,cS w.cs z:=fun z hz=>by
  obtain⟨z0,e,he⟩:=(bF z).1 hz
  exact⟨z0,_,he,fP⟩
 obtain⟨i,hi⟩:=anM ZV
 have oF:=(ana.1 hi).1
 obtain⟨_,XW⟩:=l.R0 _ P hP i x hi
 obtain⟨f,cc,lb,rfl,rfl,hf,SS,da⟩:=m1.atp hP
 obtain⟨fa',ac,la,rfl,hfa,VR,VS,_,_⟩:=Sl.at_ Pt (i:=x.toNat) (x:=i64 i) (by simp[XW])
 have TY:=(ana.1 XW).1
 refine v1 (ae L0) ?_
 refine⟨by omega,?_⟩
 simp(disch:=(first|omega| (simp only[Zs]<;>omega)|fail)) only[go_sem, ↓reduceIte,Zv,ae hf,ane,SS,RZ,ae L0]
 refine⟨by omega,?_⟩
 refine v3 (ae VR) ane VS ?_
 refine(BH (m1.Mc hP) (l.R0 _ P hP) oF EG (l.ok _ P hP)).mono ?_
 rintro _ H2 ⟨l',ln,q,o,hq⟩
 rw[qo hi]at o
 have hT:∀z,(C z∨P.fp=some z∨fa=some z∨z=P.r)→C z∨P.S z∨fa=some z:=fun z hz=>by
  rcases hz with hz|hz|hz|hz
  ·exact .inl hz
  ·exact .inr (.inl (.inr hz))
  ·exact .inr (.inr hz)
  ·exact .inr (.inl (.inl hz))
 have mI:∀z,(C z∨P.fp=some z∨fa=some z∨z=P.r)→S z:=fun z hz=>(hS z).1 (by
  rcases hT z hz with hz|hz|hz
  ·exact .inl hz
  ·exact .inr (.inr (.inr (.inr ⟨_,P,hP,hz⟩)))
  ·exact .inr (.inr (.inr (.inl hz))))
 have m2:=m1.It hP (P':=⟨P.r,P.fp,l'⟩) rfl o.jm (.inl rfl) o.ext hT
 obtain⟨av2,X5,_⟩:=m2.own
 refine v1 (ae X5) ?_
 refine(jD m2.cells x).mono ?_
 rintro _ H3 (⟨bJ,_,_⟩| ⟨_,rfl,c3,e3⟩)
 ·exact absurd bE bJ
 refine vs ?_
 have m3:=m2.aG c3 e3
 have aM:∀ (h:Nat) Q,h≠c0.1.toNat→ps[h]? =some (some Q)→∀y∈Q.l,y.toNat≠x.toNat:=fun h Q hh hQ y hy e=>by
  obtain⟨y0,e',he⟩:=(l.mem h Q hQ y).1 hy
  rw[e,jQ]at he
  injection he with he
  rw[he]at hh
  simp only[Int.toNat_natCast]at hh
  exact hh rfl
 have Mf:∀y∈l',y.toNat≠x.toNat:=fun y hy e=>by
  obtain⟨h1,h2⟩:=(o.mem y).1 hy
  have:=((bF y).1 h1).1
  omega
 refine .inr ⟨bE,rfl,c0,q,jQ,by rw[←aV];exact hq,Co n C (some f) fa (ps.set c0.1.toNat (some ⟨P.r,P.fp,l'⟩)),
  ⟨c,C,_,some f,fa,_,ln,m3,⟨by rw[anb];exact l.hl,fun h=>?_,?_,fun h Q hQ=>?_,fun h Q hQ=>?_,fun h Q hQ y=>?_,fun h Q hQ=>?_,?_⟩,fun z=>Iff.rfl⟩,?_,fun z hz=>?_⟩
 ·show w.hs[h]? =some true↔_
  rw[l.hs h]
  by_cases Kh:h=c0.1.toNat
  ·subst Kh
   rw[ani da]
   exact⟨fun _=>⟨_,rfl⟩,fun _=>⟨P,hP⟩⟩
  ·rw[anh (Ne.symm Kh)]
 ·rw[anh (by omega)];exact l.h0
 ·rcases gz da hQ with ⟨rfl,rfl⟩| ⟨h5,h6⟩
  ·exact o.heap.Ir fun z hz y hy=>(gN w x _ (Mf z hz) (Mf y hy)).symm
  ·exact(l.ok h Q h6).Ir fun z hz y hy=>(gN w x _ (aM h Q h5 h6 z hz) (aM h Q h5 h6 y hy)).symm
 ·rcases gz da hQ with ⟨rfl,rfl⟩| ⟨h5,h6⟩
  ·exact o.ok
  ·exact(l.R0 h Q h6).VM fun z hz z0=>o.off z z0 (l.apart h6 hP h5 hz)
 ·by_cases lO:y.toNat=x.toNat
  ·rw[lO,cH]
   have h0:=gz da hQ
   constructor
   ·intro hy
    rcases h0 with ⟨rfl,rfl⟩| ⟨h5,h6⟩
    ·exact absurd lO (Mf y hy)
    ·exact absurd lO (aM h Q h5 h6 y hy)
   ·rintro⟨_,e,he⟩
    injection he with he
    injection he with VQ _
    rcases h0 with ⟨rfl,rfl⟩| ⟨h5,h6⟩
    ·omega
    ·have:=l.pos h6;omega
  ·rw[kA _ lO]
   rcases gz da hQ with ⟨rfl,rfl⟩| ⟨h5,h6⟩
   ·rw[yE]
    show y∈l'↔_
    rw[o.mem y,bF y]
    constructor
    ·exact fun h=>h.1
    ·exact fun h=>⟨h,fun e=>lO (by rw[e])⟩
   ·exact l.mem h Q h6 y
 ·rcases gz da hQ with ⟨rfl,rfl⟩| ⟨h5,h6⟩
  ·rw[yE,Nw.fR jQ c0.1,if_pos ⟨fP,rfl⟩,if_neg (fun hc=>by omega)]
   show(l'.length:Int)=_
   have:=o.len
   omega
  ·have:=l.pos h6
   rw[l.len h Q h6,Nw.fR jQ h,if_neg (fun hc=>by omega),if_neg (fun hc=>by omega)]
   omega
 ·rw[o.Kg,l.Kg];exact(anb ..).symm
 ·exact(e1.mono fun z _ hz=>mI z (.inl hz)).trans ((o.ext.mono fun z _ hz=>mI z hz).trans (e3.mono fun z _ hz=>mI z (.inl hz)))
 ·rcases hz with hz|rfl|hz|hz| ⟨i,Q,hQ,hz⟩
  ·exact .inl (mI z (.inl hz))
  ·exact .inl ((hS z).1 (.inr (.inl rfl)))
  ·exact .inl ((hS z).1 (.inr (.inr (.inl hz))))
  ·exact .inl (mI z (.inr (.inr (.inl hz))))
  ·rcases gz da hQ with ⟨rfl,rfl⟩| ⟨h5,h6⟩
   ·rcases hz with rfl|hz
    ·exact .inl (mI _ (.inr (.inr (.inr rfl))))
    ·exact .inl (mI z (.inr (.inl hz)))
   ·exact .inl ((hS z).1 (.inr (.inr (.inr (.inr ⟨i,Q,h6,hz⟩)))))
theorem zX{H:Hp}{n:Nat}{S:Nat→Prop}{st:Int}{w:Nw}(h:dm H n S st w)(g:Int):af Tryz.prog li [ptr n,i64 g] H fun v H'=>ar (
  (w.len g=0∧v= .tuple [i64 0,.bool false].toArray∧H=H')∨
  (∃x,w.first g x∧v= .tuple [i64 x,.bool true].toArray∧∃q:Nat,q≤2*j7 2 (w.len g - 1)∧∃S',dm H' n S' (min (st+q) 4611686018427387904) (w.put x (0,0,0))∧ag S H H'∧∀z,S' z→S z∨H.size≤z)):=by
 refine aP vK ?_
 refine vs ?_
 refine(wI h g).mono ?_
 rintro _ _ ⟨⟨h0,rfl⟩| ⟨x,hx,rfl⟩,rfl⟩
 ·refine vs ?_
  exact .inl ⟨h0,rfl,rfl⟩
 ·refine vs ?_
  refine(BJ h x).mono ?_
  rintro _ H1 (⟨bJ,_,_⟩| ⟨_,rfl,c0,q,jQ,hq,S',d1,e1,X6⟩)
  ·exact absurd hx.Lb bJ
  refine vs ?_
  obtain⟨e,im⟩:=hx.2.2.1
  rw[jQ]at im
  injection im with im
  subst im
  exact .inr ⟨x,hx,rfl,q,hq,S',d1,e1,X6⟩
theorem yb{H:Hp}{n:Nat}{S:Nat→Prop}{st:Int}{w:Nw}(h:dm H n S st w)(x k s:Int):af Tryz.prog jZ [ptr n,i64 x,rZ k s] H fun v H'=>ar (
  (¬ (cS w.cs x∧∀y,w.cs[x.toNat]? =some y→¬eX y.2.1 y.2.2 k s)∧v= .bool false∧dm H' n S st w∧ah H H')∨
  (cS w.cs x∧∃y,w.cs[x.toNat]? =some y∧¬eX y.2.1 y.2.2 k s∧v= .bool true∧∃q:Nat,q≤2*j7 2 (w.len y.1 - 1)∧∃S',dm H' n S' (min (st+q) 4611686018427387904) (w.put x (y.1,k,s))∧ag S H H'∧∀z,S' z→S z∨H.size≤z)):=by
 obtain⟨c,C,rv,fr,fa,ps,at_,m,l,hS⟩:=h
 refine aP sT ?_
 refine vs ?_
 have f0:ah H (H.new 224 [i64 k,u64 s]):=(ag.refl _ _).new _ _
 have b0:(H.new 224 [i64 k,u64 s]).own H.size=some [i64 k,u64 s]:=ax _ _ _
 have m0:=m.ext f0 (fun _ _ h=>h)
 generalize H.new 224 [i64 k,u64 s]=H0 at*
 obtain⟨av,Gv,SH⟩:=m0.own
 refine v2 (ae Gv) (ae b0) ?_
 refine(iU m0.cells x k s).mono ?_
 rintro _ H1 (⟨bJ,rfl,c1,e1⟩| ⟨bE,rfl,y,hy,eY,c1,e1⟩)
 ·refine vs ?_
  exact .inl ⟨bJ,rfl,⟨c,C,rv,fr,fa,ps,at_,m0.ext e1 (fun _ _ h=>h),l,hS⟩,f0.trans e1⟩
 have m1:=m0.aG c1 e1
 obtain⟨av1,L0,Pt⟩:=m1.own
 refine v1 (ae L0) ?_
 obtain⟨fO,y',Ek,fP⟩:=id bE
 rw[hy]at Ek
 injection Ek with Ek
 subst Ek
 have cH:(w.put x (y.1,k,s)).cs[x.toNat]? =some (y.1,k,s):=ani (ana.1 hy).1
 have kA:∀z:Nat,z≠x.toNat→(w.put x (y.1,k,s)).cs[z]? =w.cs[z]? :=fun z hz=>anh (Ne.symm hz)
 have Mb:cS (w.put x (y.1,k,s)).cs x:=⟨fO,_,cH,fP⟩
 refine(dZ c1 x).mono ?_
 rintro _ H2 (⟨bJ,_,_⟩| ⟨_,y2,CB,rfl,c2,e2⟩)
 ·exact absurd Mb bJ
 rw[cH]at CB
 injection CB with CB
 subst CB
 have m2:=m1.aG c2 e2
 obtain⟨av2,X5,UX⟩:=m2.own
 obtain⟨P,hP⟩:=(l.hs y.1.toNat).1 (m.cells.live _ (ang hy) fP)
 have yE:((y.1.toNat:Nat):Int)=y.1:=by omega
 have Ki:∀ (h:Nat) Q,ps[h]? =some (some Q)→∀z:Int,z∈Q.l↔0≤z∧∃e,(w.put x (y.1,k,s)).cs[z.toNat]? =some (((h:Nat):Int),e):=fun h Q hQ z=>by
  rw[l.mem h Q hQ z]
  by_cases VT:z.toNat=x.toNat
  ·rw[VT,cH,hy]
   constructor
   ·rintro⟨z0,e,he⟩
    injection he with he
    exact⟨z0,(k,s),by rw[he]⟩
   ·rintro⟨z0,e,he⟩
    injection he with he
    injection he with VQ _
    exact⟨z0,y.2,by rw[←VQ]⟩
  ·rw[kA _ VT]
 have bF:=Ki _ P hP
 have aV:=l.len _ P hP
 rw[yE]at bF aV
 have ZV:x∈P.l:=(bF x).2 ⟨fO,_,cH⟩
 have EG:∀z∈P.l,cS (w.put x (y.1,k,s)).cs z:=fun z hz=>by
  obtain⟨z0,e,he⟩:=(bF z).1 hz
  exact⟨z0,_,he,fP⟩
 obtain⟨i,hi⟩:=anM ZV
 have oF:=(ana.1 hi).1
 obtain⟨_,XW⟩:=l.R0 _ P hP i x hi
 have TY:=(ana.1 XW).1
 obtain⟨f,cc,lb,rfl,rfl,hf,SS,da⟩:=m2.atp hP
 obtain⟨fa',ac,la,rfl,hfa,VR,VS,_,_⟩:=Sl.at_ UX (i:=x.toNat) (x:=i64 i) (by simp[XW])
 have Cp:∀j,j<P.l.length→j≠i→(P.l.getD j 0).toNat≠x.toNat:=fun j hj aM e=>by
  have hgj:P.l[j]? =some (P.l.getD j 0):=by rw[anf,am8 hj];rfl
  have h0:=((bF _).1 (ang hgj)).1
  rw[show P.l.getD j 0=x by omega]at hgj
  exact aM ((l.R0 _ P hP).En hgj hi)
 have hA:du (aN (w.put x (y.1,k,s))) 2 P.l i:=by
  have hb:=(l.ok _ P hP).but (aq w) dC i
  refine⟨fun j h1 h2 h3 h4=>?_,fun j h1 h2 h3 h4=>?_⟩
  ·have:=cB dC h1
   rw[gN w x _ (Cp j h2 h3) (Cp _ (by omega) h4)]
   exact hb.1 j h1 h2 h3 h4
  ·have:=cB dC h1
   have:=cB dC h4
   rw[gN w x _ (Cp j h2 (by omega)) (Cp _ (by omega) (by omega))]
   exact hb.2 j h1 h2 h3 h4
 refine v1 (ae X5) ?_
 refine⟨by omega,?_⟩
 simp(disch:=(first|omega| (simp only[Zs]<;>omega)|fail)) only[go_sem, ↓reduceIte,Zv,ae hf,ane,SS,RZ,ae X5]
 refine⟨by omega,?_⟩
 refine v3 (ae VR) ane VS ?_
 refine(Gy (m2.Mc hP) (l.R0 _ P hP) oF EG hA).mono ?_
 rintro _ H3 ⟨rfl,l',ln,q,o,ic,hq⟩
 refine vs ?_
 have nT:=e1.trans e2
 have hT:∀z,(C z∨P.fp=some z∨fa=some z)→C z∨P.S z∨fa=some z:=fun z hz=>by
  rcases hz with hz|hz|hz
  ·exact .inl hz
  ·exact .inr (.inl (.inr hz))
  ·exact .inr (.inr hz)
 have mI:∀z,(C z∨P.fp=some z∨fa=some z)→S z:=fun z hz=>(hS z).1 (by
  rcases hT z hz with hz|hz|hz
  ·exact .inl hz
  ·exact .inr (.inr (.inr (.inr ⟨_,P,hP,hz⟩)))
  ·exact .inr (.inr (.inr (.inl hz))))
 have aM:∀ (h:Nat) Q,h≠y.1.toNat→ps[h]? =some (some Q)→∀z∈Q.l,z.toNat≠x.toNat:=fun h Q hh hQ z hz e=>by
  obtain⟨z0,e',he⟩:=(l.mem h Q hQ z).1 hz
  rw[e,hy]at he
  injection he with he
  rw[he]at hh
  simp only[Int.toNat_natCast]at hh
  exact hh rfl
 have ZG:∀h:Int,(w.put x (y.1,k,s)).len h=w.len h:=fun h=>by
  rw[Nw.fR hy h]
  simp only
  split<;>omega
 have ZW:=o.len
 refine .inr ⟨bE,y,hy,eY,rfl,q,by rw[←aV];exact hq,Co n C (some f) fa (ps.set y.1.toNat (some ⟨P.r,P.fp,l'⟩)),
  ⟨c,C,_,some f,fa,_,ln,m2.It hP (P':=⟨P.r,P.fp,l'⟩) rfl o.jm (.inl rfl) o.ext hT,
   ⟨by rw[anb];exact l.hl,fun h=>?_,?_,fun h Q hQ=>?_,fun h Q hQ=>?_,fun h Q hQ z=>?_,fun h Q hQ=>?_,?_⟩,fun z=>Iff.rfl⟩,?_,fun z hz=>?_⟩
 ·show w.hs[h]? =some true↔_
  rw[l.hs h]
  by_cases Kh:h=y.1.toNat
  ·subst Kh
   rw[ani da]
   exact⟨fun _=>⟨_,rfl⟩,fun _=>⟨P,hP⟩⟩
  ·rw[anh (Ne.symm Kh)]
 ·rw[anh (by omega)];exact l.h0
 ·rcases gz da hQ with ⟨rfl,rfl⟩| ⟨h5,h6⟩
  ·exact ic
  ·exact(l.ok h Q h6).Ir fun z hz v hv=>(gN w x _ (aM h Q h5 h6 z hz) (aM h Q h5 h6 v hv)).symm
 ·rcases gz da hQ with ⟨rfl,rfl⟩| ⟨h5,h6⟩
  ·exact o.ok
  ·exact(l.R0 h Q h6).VM fun z hz z0=>o.off z z0 (l.apart h6 hP h5 hz)
 ·rcases gz da hQ with ⟨rfl,rfl⟩| ⟨h5,h6⟩
  ·rw[yE]
   show z∈l'↔_
   rw[o.mem z,bF z]
  ·exact Ki h Q h6 z
 ·rw[ZG]
  rcases gz da hQ with ⟨rfl,rfl⟩| ⟨h5,h6⟩
  ·rw[yE]
   show(l'.length:Int)=_
   omega
  ·exact l.len h Q h6
 ·rw[o.Kg,l.Kg];exact(anb ..).symm
 ·exact(f0.mono fun _ _ h=>h.elim).trans ((nT.mono fun z _ hz=>mI z (.inl hz)).trans (o.ext.mono fun z _ hz=>mI z hz))
 ·rcases hz with hz|rfl|hz|hz| ⟨j,Q,hQ,hz⟩
  ·exact .inl (mI z (.inl hz))
  ·exact .inl ((hS z).1 (.inr (.inl rfl)))
  ·exact .inl ((hS z).1 (.inr (.inr (.inl hz))))
  ·exact .inl (mI z (.inr (.inr hz)))
  ·rcases gz da hQ with ⟨rfl,rfl⟩| ⟨h5,h6⟩
   ·rcases hz with rfl|hz
    ·exact .inl ((hS _).1 (.inr (.inr (.inr (.inr ⟨_,P,hP,.inl rfl⟩)))))
    ·exact .inl (mI z (.inr (.inl hz)))
   ·exact .inl ((hS z).1 (.inr (.inr (.inr (.inr ⟨j,Q,h6,hz⟩)))))
theorem BK{ov:Value}{I:Hp→Nat→Prop}{T:Nat→Prop}{lt:Int→Int→Bool}{D:Int→Prop}(ho:LO ov I T lt D){H:Hp}{r:Nat}{S:Nat→Prop}{d:Int}{l:List Int}{pl:Int→Option Int}
  (h:db H r S d l pl)(hd:∀x,S x→¬T x){n:Nat}(hI:I H n)(hf:cO d)(x:Int)(hl:l.length≤1000000)(hp:Bv l pl)(hD:∀z∈l,D z:=by intros;trivial):
  af Tryz.prog yS [ptr r,ov,i64 x] H fun v H'=>ar (
   (pl x=none∧v= .bool false∧H=H')∨
   (∃i,pl x=some i∧v= .bool true∧db H' r S d (cM lt d x l pl i).1 (cM lt d x l pl i).2.1∧I H' (n+(cM lt d x l pl i).2.2)∧ag (fun z=>S z∨T z) H H')):=by
 obtain⟨⟨sv,fp,mb,a1,a2,a3,s1,s2,s3,s4⟩,h2⟩:=id h
 have key:gL true (Value.int .i64 0) ((pl x).map i64)= .tuple [i64 ((pl x).getD 0),.bool (pl x).isSome].toArray:=by cases pl x<;>rfl
 refine aP zm ?_
 refine v3 (ae a1) a3.look key ?_
 cases hx:pl x with
 |none=>
  simp(disch:=(first|omega| (simp only[Zs]<;>omega)|fail)) only[go_sem, ↓reduceIte,Zv,Option.isSome_none]
  exact .inl ⟨rfl,rfl,rfl⟩
 |some i=>
  obtain⟨i0,SV⟩:=(hp x i).1 hx
  have oF:i.toNat<l.length:=(ana.1 SV).1
  obtain⟨f,rfl⟩:∃f,fp=some f:=by
   cases fp with
   |none=>obtain⟨_,e,_⟩:=a2;omega
   |some f=>exact⟨f,rfl⟩
  have U8:=a2
  obtain⟨_,l1,c,rfl,g2,a5,a6,a7⟩:=U8
  have g3:∀ (i:Nat) (x:Int),l[i]? =some x→l1[i]? =some (i64 x):=fun i x h=>by
   have aK:=(ana.1 h).1
   have h1:(l.map i64)[i]? =some (i64 x):=by simp[h]
   rw[←a7,anI (by omega)]at h1
   exact h1
  have iP:l[l.length - 1]? =some (l.getD (l.length - 1) 0):=by
   rw[anf,am8 (by omega)];rfl
  have VU:=g3 _ _ iP
  have e1:IntKind.i64.wrap ((l.length:Int) - 1)=((l.length - 1:Nat):Int):=by rw[wrap64 (by omega) (by omega)];omega
  simp(disch:=(first|omega| (simp only[Zs]<;>omega)|fail)) only[go_sem, ↓reduceIte,Zv,Option.isSome_some,Option.getD_some,ae a1,e1,Int.toNat_natCast]
  refine⟨by omega,?_⟩
  refine v5 (ae g2) (ae a1) ane VU e1 ?_
  refine⟨by omega,?_⟩
  obtain⟨JV,nA,SI⟩:=s4 f rfl
  have wF:Value.slice (if(c:Int)=((0:Nat):Int)then some (⟨f,0,none⟩:Addr)else Option.map (fun(x:Addr)=>x.add (((0:Nat):Int).toNat*1)) (some (⟨f,0,none⟩:Addr))) (((l.length - 1:Nat):Int).toNat - ((0:Nat):Int).toNat) ((c:Int).toNat - ((0:Nat):Int).toNat)= .slice (some ⟨f,0,none⟩) (l.length - 1) c:=by
   split<;>rfl
  refine v2 (ae a1) a1 ?_
  rw[wF]
  have ew:ag (fun z=>z=r) H (H.wr r [i64 d,.slice (some ⟨f,0,none⟩) (l.length - 1) c,.map (some mb)]):=(ag.refl (fun z=>z=r) _).wr (fun _=>rfl) _
  have b1:(H.wr r [i64 d,.slice (some ⟨f,0,none⟩) (l.length - 1) c,.map (some mb)]).own r=some [i64 d,.slice (some ⟨f,0,none⟩) (l.length - 1) c,.map (some mb)]:=ai a1
  have b3:=a3.ext ew (Ne.symm s3)
  refine v1 (ae b1) ?_
  refine b3.del fun H2 m2 e2=>?_
  rw[JU]at m2
  have e02:ag S H H2:=(ew.mono fun z _ hz=>hz▸s1).trans (e2.mono fun z _ hz=>hz▸s2)
  have hr:db H2 r S d l.dropLast (qe pl x):=by
   refine⟨⟨.slice (some ⟨f,0,none⟩) (l.length - 1) c,some f,mb,e2.own b1 s3,⟨by simp,l1,c,by rw[anO],(e2.own ((ew.own g2 nA)) SI),by rw[anO];omega,a6,?_⟩,m2,s1,s2,s3,s4⟩,
    fun z hz=>anB (h2 z hz) e02.size⟩
   have hx7:((l.map i64).length)=l.length:=by simp
   rw[anO,List.map_dropLast,aoL,hx7,←a7,apg]
   congr 1
   omega
  have Pw:=ho.aI _ _ _ _ hI e02 (fun z hz hs=>hd z hs hz)
  refine vs ?_
  have ny:l.dropLast.length=l.length - 1:=anO
  refine ak.dec (fun he=>?_) (fun he=>?_)<;>refine vs ?_
  ·refine .inr ⟨i,rfl,rfl,?_,?_,e02.mono fun z _ hz=>.inl hz⟩
   ·unfold cM;rw[if_pos he];exact hr
   ·unfold cM;rw[if_pos he];exact Pw
  ·have VV:l.getD (l.length - 1) 0∈l:=ang iP
   have ly:i.toNat≠l.length - 1:=fun e=>by rw[e,iP]at SV;injection SV with SV;exact he SV
   refine(qf ho hr hd Pw i (l.getD (l.length - 1) 0) ⟨i0,by omega⟩ (by omega) (hD _ VV) (fun z hz=>hD z ((aph _).subset hz))).mono ?_
   rintro _ H3 ⟨rfl,r3,i3,e3⟩
   have Md:=(e02.mono fun z _ hz=>Or.inl hz).trans e3
   refine vs ?_
   refine ak.dec (fun sY=>?_) (fun sY=>?_)<;>refine vs ?_
   ·have R1:=ug lt d (l.getD (l.length - 1) 0) i.toNat l.dropLast (qe pl x) i
    refine(El ho r3 hd i3 hf i (l.getD (l.length - 1) 0) ⟨i0,by omega⟩ (by omega) (hD _ VV) (fun z hz=>by
     rcases SJ lt d _ _ _ _ _ i0 (by omega) z hz with h|h
     ·rw[h];exact hD _ VV
     ·exact hD z ((aph _).subset h))).mono ?_
    rintro _ H4 ⟨r4,i4,e4⟩
    refine vs ?_
    refine .inr ⟨i,rfl,rfl,?_,?_,Md.trans e4⟩
    ·unfold cM;rw[if_neg he];simp only;rw[if_pos sY];exact r4
    ·unfold cM;rw[if_neg he];simp only;rw[if_pos sY,←apq];exact i4
   ·refine .inr ⟨i,rfl,rfl,?_,?_,Md⟩
    ·unfold cM;rw[if_neg he];simp only;rw[if_neg sY];exact r3
    ·unfold cM;rw[if_neg he];simp only;rw[if_neg sY];exact i3
end Go.Proofs.YtjlnnljohemifaaGreat
