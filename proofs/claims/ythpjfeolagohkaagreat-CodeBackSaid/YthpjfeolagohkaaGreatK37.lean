/- Texts put behind each other. -/
import Derived.Test.YthpjfeolagohkaaGreatK98
import Derived.Test.YthpjfeolagohkaaGreatK19
import Derived.Test.YthpjfeolagohkaaGreatK20
import Derived.Test.YthpjfeolagohkaaGreatK21
import Derived.Test.YthpjfeolagohkaaGreatK23
import Derived.Test.YthpjfeolagohkaaGreatK29
import Derived.Test.YthpjfeolagohkaaGreatK36
set_option maxRecDepth 100000
set_option maxHeartbeats 8000000
set_option linter.unusedVariables false
set_option linter.unusedSimpArgs false
namespace Go.Proofs.YthpjfeolagohkaaGreat
open Go Go.Vc
structure QF(H:Hp)(sb mb mp s:Nat)(S:Nat→Prop)(w:Nw)(A:Ar)(q:Int)(L:List ((Int×Nat)×Value)):Prop where
 st:E0 H s S w A q
 o1:H.own sb=some [ptr s]
 o2:H.own mb=some [.map (some mp)]
 m:uX H mp L
 n1:¬S sb∧¬S mb∧¬S mp
 n2:mp≠sb∧mp≠mb
theorem QF.ext{H H':Hp}{sb mb mp s:Nat}{S T:Nat→Prop}{w:Nw}{A:Ar}{q:Int}{L:List ((Int×Nat)×Value)}(h:QF H sb mb mp s S w A q L)(e:ag T H H')(hd:∀z,S z∨z=sb∨z=mb∨z=mp→¬T z):QF H' sb mb mp s S w A q L:=
 ⟨h.st.ext e (fun z hz=>hd z (.inl hz)),e.own h.o1 (hd _ (by simp)),e.own h.o2 (hd _ (by simp)),h.m.ext e (hd _ (by simp)),h.n1,h.n2⟩
theorem QF.lt{H:Hp}{sb mb mp s:Nat}{S:Nat→Prop}{w:Nw}{A:Ar}{q:Int}{L:List ((Int×Nat)×Value)}(h:QF H sb mb mp s S w A q L):∀z,S z∨z=sb∨z=mb∨z=mp→z<H.size:=by
 rintro z (hz|rfl|rfl|rfl)
 ·exact h.st.slt z hz
 ·exact aB h.o1
 ·exact aB h.o2
 ·exact h.m.lt
theorem QF.to{H H':Hp}{sb mb mp s:Nat}{S S':Nat→Prop}{w w':Nw}{A A':Ar}{q q':Int}{L:List ((Int×Nat)×Value)}(h:QF H sb mb mp s S w A q L)(st:E0 H' s S' w' A' q')(e:ag S H H')(hs:∀z,S' z→S z∨H.size≤z):QF H' sb mb mp s S' w' A' q' L:=by
 have h1:=aB h.o1
 have h2:=aB h.o2
 have h3:=h.m.lt
 have hn:∀z,¬S z→z<H.size→¬S' z:=fun z h1 h2 h3=>by rcases hs z h3 with h|h;exact h1 h;omega
 exact⟨st,e.own h.o1 h.n1.1,e.own h.o2 h.n1.2.1,h.m.ext e h.n1.2.2,⟨hn _ h.n1.1 h1,hn _ h.n1.2.1 h2,hn _ h.n1.2.2 h3⟩,h.n2⟩
section
variable {H : Hp} {sb mb mp s n at_ : Nat} {S : Nat → Prop} {w : Nw} {A : Ar} {q : Int} {L : List ((Int × Nat) × Value)} {bT : List (Int × Nat)}
theorem qi(m:QF H sb mb mp s S w A (at_:Int) L)(h:Ic n w A L bT at_)(hp:bT.length<n)(lC:at_<1000000)(k:Int):
  af Tryz.prog gQ [i64 at_,i64 k,ptr sb,ptr mb] H fun v H'=>ar (v= .tuple [].toArray∧∃S' w' A' L',QF H' sb mb mp s S' w' A' ((at_:Int)+1) L'∧Ic n w' A' L' (bT++[(k,at_)]) (at_+1)∧ag (fun z=>S z∨z=mp) H H'∧∀z,S' z→S z∨H.size≤z):=by
 refine vr mixed (an:=yD) (by conv=>lhs;cbv) (nt:=17) (by kernel_rfl) (by simp) ?_
 refine v1 (ae m.o1) ?_
 refine(Gc m.st h.hs (fun x x0 _=>by have:=h.ge x x0;omega) (by omega)).mono ?_
 rintro _ H1 (⟨bS,_⟩| ⟨x,A',UT,rfl,S1,XT,e1,et⟩)
 ·exact absurd bS (h.room hp)
 obtain⟨ph,hJ⟩:=h.put UT k
 obtain⟨hx,_⟩:=Ar.zI UT h.ok
 have m1:=m.to XT e1 et
 have alm:=e1.size
 refine vs ?_
 obtain⟨f2,b2,z2⟩:=Rg H1 71 [Value.int .i64 0,Value.int .u32 0] [i64 x,Value.int .u32 ((A.bV x+1:Nat):Int)]
 generalize (H1.new 71 [Value.int .i64 0,Value.int .u32 0]).wr H1.size [i64 x,Value.int .u32 ((A.bV x+1:Nat):Int)]=H2 at*
 have m2:=m1.ext f2 (fun _ _ h=>h)
 refine v2 (ae m2.o2) (ae b2) ?_
 refine⟨Da _ _,?_⟩
 refine uX.Zx m2.m (a:=(x,A.bV x+1)) ph fun H3 mp3 e3=>?_
 refine vs ?_
 refine⟨rfl,S1,_,_,_,⟨m2.st.ext e3 (fun z hz e=>m2.n1.2.2 (by rw[←e];exact hz)),e3.own m2.o1 (Ne.symm m2.n2.1),e3.own m2.o2 (Ne.symm m2.n2.2),mp3,m2.n1,m2.n2⟩,hJ,?_,et⟩
 exact((e1.mono fun z _ h=>.inl h).trans (f2.mono fun z _ h=>h.elim)).trans (e3.mono fun z _ h=>.inr h)
end
end Go.Proofs.YthpjfeolagohkaaGreat

namespace Go.Proofs.YthpjfeolagohkaaGreat
open Go Go.Vc
structure gG(ws:List Int):Prop where
 n1:1≤ws.length
 n2:ws.length≤4096
 pos:∀x∈ws,1≤x
 sum:ws.sum≤9223372036854775807
theorem xL.sum{ws:List Int}{k:Nat}{s:IA}(h:xL ws k s):∀p∈s.bT,∀q∈s.bT,p.2≠q.2→p.1+q.1≤kW ws.length (fun i=>ws.getD i 0)∨∃i,i<ws.length∧ws.getD i 0<0:=by
 intro p hp q hq aQ
 by_cases Tg:∃i,i<ws.length∧ws.getD i 0<0
 ·exact .inr Tg
 ·refine .inl ?_
  rw[←h.wt p hp,←h.wt q hq,←zJ]
  have:∀n,n≤ws.length→kW n (fun i=>(if s.R i=p.2 then ws.getD i 0 else 0)+(if s.R i=q.2 then ws.getD i 0 else 0))≤kW n (fun i=>ws.getD i 0):=by
   intro n hn
   induction n with
   |zero=>exact aqr _
   |succ n ih=>
    have:=ih (by omega)
    have h0:0≤ws.getD n 0:=by
     apply aoJ
     intro hc
     exact Tg ⟨n,by omega,by omega⟩
    rw[jC,jC]
    split<;>split<;>omega
  exact this _ (aoB _)
theorem QG(ws:List Int):kW ws.length (fun i=>ws.getD i 0)=ws.sum:=by
 unfold kW
 rw[tI]
theorem Th{H:Hp}{s:Nat}{S:Nat→Prop}{w:Nw}{A:Ar}{q:Int}(st:E0 H s S w A q)(T1 T2:TypeId):
  QF (((H.new T1 [ptr s]).fh.new T2 [Value.map none]).wr (Array.size H+1+1) [Value.map (some (Array.size H+1))]) H.size (H.size+1+1) (H.size+1) s S w A q []∧am H (((H.new T1 [ptr s]).fh.new T2 [Value.map none]).wr (Array.size H+1+1) [Value.map (some (Array.size H+1))]):=by
 have eW:=st.slt
 have f1:am H (H.new T1 [ptr s]):=(ag.refl _ _).new _ _
 have b1:(H.new T1 [ptr s]).own H.size=some [ptr s]:=aD _ _ _
 have z1:(H.new T1 [ptr s]).size=H.size+1:=aq _ _ _
 generalize H.new T1 [ptr s]=H1 at*
 have f2:am H1 H1.fh:=(ag.refl _ _).fh
 have b2:=uX.new H1
 have z2:H1.fh.size=H1.size+1:=ii _
 generalize H1.fh=H2 at*
 have f3:am H2 (H2.new T2 [Value.map none]):=(ag.refl _ _).new _ _
 have b3:(H2.new T2 [Value.map none]).own H2.size=some [Value.map none]:=aD _ _ _
 have z3:(H2.new T2 [Value.map none]).size=H2.size+1:=aq _ _ _
 generalize H2.new T2 [Value.map none]=H3 at*
 rw[z2,z1]at b3
 rw[z1]at b2
 have e4:ag (fun x=>x=H.size+1+1) H3 (H3.wr (H.size+1+1) [Value.map (some (H.size+1))]):=(ag.refl (fun x=>x=H.size+1+1) _).wr (fun _=>rfl) _
 have b4:=ah (l:=[Value.map (some (H.size+1))]) b3
 have hf:am H (H3.wr (H.size+1+1) [Value.map (some (H.size+1))]):=((f1.trans f2).trans f3).then e4 (fun z hz=>by omega)
 have hn:∀k,¬S (H.size+k):=fun k h=>by have:=eW _ h;omega
 refine⟨⟨st.ext hf (fun _ _ h=>h),e4.own (f3.own (f2.own b1 (fun h=>h)) (fun h=>h)) (by omega),b4,(b2.ext f3 (fun h=>h)).ext e4 (by omega),⟨hn 0,hn 2,hn 1⟩,by omega,by omega⟩,hf⟩
theorem map_set{N:Nat}(f:Nat→Value){i:Nat}(hi:i<N)(v:Value):((List.range N).map f).set i v=(List.range N).map fun j=>if j=i then v else f j:=by
 apply ao7
 intro j
 rw[List.getElem?_set,aoG,aoG]
 by_cases e:i=j
 ·subst e
  rw[apz hi]
  simp[hi]
 ·by_cases hj:j<N
  ·rw[apz hj,if_neg e]
   simp[Ne.symm e]
  ·rw[aoC (by simp;omega),if_neg e]
   rfl
def I0(ws:List Int)(i:Nat):List (Int×Nat):=(List.range i).map fun j=>(ws.getD j 0,j)
theorem Od{ws:List Int}{i:Nat}{x:Int}(hx:ws[i]? =some x):I0 ws i++[(x,i)]=I0 ws (i+1):=by
 unfold I0
 rw[aqc,ao5,aqm,aou,hx]
 rfl
theorem QH(ws:List Int)(i:Nat):(I0 ws i).length=i:=by simp[I0]
theorem xg{H:Hp}{s:Nat}{S:Nat→Prop}{ws:List Int}{a:Option Addr}{c:Nat}(st:E0 H s S (Bf (ws.length:Int)) (QD (ws.length:Int) 4294967295) 0)(hr:∀H',ag S H H'→cK H' 1 (.slice a ws.length c) ws.length (ws.map i64))(hf:gG ws)(h2:2≤ws.length):
  af Tryz.prog B9 [ptr s,.slice a ws.length c] H fun v H'=>ar (∃b,v= .slice (some ⟨b,0,none⟩) (2*ws.length - 1) (2*ws.length - 1)∧H.size≤b∧Sl H' 1 v (2*ws.length - 1) ((List.range (2*ws.length - 1)).map fun i=>i64 ((BX ws).up i:Int)) (some b)∧ag S H H'):=by
 have CG:=hf.n2
 refine aZ Cm ?_
 refine vs ?_
 obtain⟨m0,f0⟩:=Th st 56 64
 generalize ((H.new 56 [ptr s]).fh.new 64 [Value.map none]).wr (H.size+1+1) [Value.map (some (H.size+1))]=H0 at*
 refine(EE m0.st (by simp[Bf])).mono ?_
 rintro _ H1 ⟨rfl,S1,XT,e1,et⟩
 have m1:=m0.to XT e1 et
 have z0:=f0.size
 have kD:ag S H H1:=(f0.mono fun _ _ h=>h.elim).trans e1
 have et:∀z,S1 z→S z∨H.size≤z:=fun z hz=>(et z hz).imp_right fun h=>by omega
 refine vs ?_
 refine aS.intro (fun mm env H'=>∃ (i:Nat) (S':Nat→Prop) (w':Nw) (A':Ar) (L':List ((Int×Nat)×Value)),mm=ws.length - i∧i≤ws.length∧QF H' H.size (H.size+1+1) (H.size+1) s S' w' A' (i:Int) L'∧Ic ws.length w' A' L' (I0 ws i) i∧ag S H H'∧(∀z,S' z→S z∨H.size≤z)∧
  env=[(1,.slice a ws.length c),(2,ptr H.size),(5,ptr (H.size+1+1)),(6,.func (.func gQ) #[] #[ptr H.size,ptr (H.size+1+1)]),(22,.slice a ws.length c),(23,i64 ws.length),(24,i64 i)]) ws.length ⟨0,S1,_,_,[],by omega,by omega,m1,Ic.zero _,kD,et,rfl⟩ ?_
 clear m1 XT e1 kD et
 rintro mm env H1 ⟨i,S1,w1,A1,L1,rfl,hi,m1,j1,x1,et,rfl⟩
 refine vs ?_
 refine ai.dec (fun aK=>?_) (fun aK=>?_)<;>refine vs ?_
 ·have jB:i<ws.length:=by omega
  obtain⟨x,hx⟩:∃x,ws[i]? =some x:=⟨_,aop jB⟩
  obtain⟨_,b,o,lb,rfl,uA,aV⟩:=cK.num (hr H1 x1) hx
  refine⟨⟨by omega,by omega⟩,?_⟩
  refine v4 uA Int.toNat_natCast aos aV ?_
  refine⟨by kernel_rfl,?_⟩
  refine af.mono (by simpa using qi m1 j1 (by rw[QH];exact jB) (by omega) x) ?_
  rintro _ H2 ⟨rfl,S2,w2,A2,L2,m2,j2,e2,ME⟩
  rw[Od hx]at j2
  refine vs ?_
  rw[wrap64 (n:=(i:Int)+1) (by omega) (by omega)]
  have z1:=x1.size
  refine⟨ws.length - (i+1),by omega,i+1,S2,w2,A2,L2,rfl,by omega,m2,j2,?_,fun z hz=>?_,rfl⟩
  ·exact⟨apc x1.size e2.size,fun z hz hn=>by rw[e2.aG z (by omega) (fun h=>by rcases h with h|h;exact(et z h).elim hn (fun h=>by omega);omega),x1.aG z hz hn]⟩
  ·rcases ME z hz with h|h
   ·exact et z h
   ·exact .inr (by omega)
 have jB:i=ws.length:=by omega
 subst jB
 clear aK hi
 obtain⟨N,hN⟩:∃N:Nat,N=2*ws.length - 1:=⟨_,rfl⟩
 rw[←hN]
 rw[wrap64 (n:=2*(ws.length:Int)) (by omega) (by omega),show(2*(ws.length:Int) - 1)=(N:Int) by omega,wrap64 (n:=(N:Int)) (by omega) (by omega)]
 refine⟨⟨by omega,by omega,by omega,by omega⟩,?_⟩
 refine v1 Int.toNat_natCast ?_
 have fn:am H1 (H1.new 3 (ce [i64 0] N)):=(ag.refl _ _).new _ _
 have zn:(H1.new 3 (ce [i64 0] N)).size=H1.size+1:=aq _ _ _
 have sn:Sl (H1.new 3 (ce [i64 0] N)) 1 (.slice (some ⟨H1.size,0,none⟩) N N) N ((List.range N).map fun i=>i64 ((jf ws).up i:Int)) (some H1.size):=by
  rw[uQ,aqn,show((List.range N).map fun i=>i64 ((jf ws).up i:Int))=List.replicate N (i64 0)from ?_]
  ·exact Sl.lit H1 _ 1 N _ (by simp)
  ·apply ao7
   intro j
   rw[aoG,apH]
   by_cases hj:j<N
   ·rw[apz hj,if_pos hj];rfl
   ·rw[aoC (by simp;omega),if_neg hj];rfl
 have hub:=m1.lt
 have alo:H.size+1+1<H1.size:=hub _ (by simp)
 have m2:=m1.ext fn (fun _ _ h=>h)
 have x2:ag S H (H1.new 3 (ce [i64 0] N)):=x1.trans (fn.mono fun z _ h=>h.elim)
 have acr:¬S1 H1.size:=fun h=>by have:=hub _ (.inl h);omega
 generalize alp:H1.size=ub at*
 generalize H1.new 3 (ce [i64 0] N)=H2 at*
 refine aS.intro (fun mm env H'=>∃ (k:Nat) (S':Nat→Prop) (w':Nw) (A':Ar) (L':List ((Int×Nat)×Value)),mm=ws.length - 1 - k∧k+1≤ws.length∧QF H' H.size (H.size+1+1) (H.size+1) s S' w' A' ((ws.length+k:Nat):Int) L'∧Ic ws.length w' A' L' (ot k (jf ws)).bT (ws.length+k)∧
  Sl H' 1 (.slice (some ⟨ub,0,none⟩) N N) N ((List.range N).map fun i=>i64 ((ot k (jf ws)).up i:Int)) (some ub)∧¬S' ub∧ag S H H'∧(∀z,S' z→S z∨H.size≤z)∧
  env=[(2,ptr H.size),(5,ptr (H.size+1+1)),(6,.func (.func gQ) #[] #[ptr H.size,ptr (H.size+1+1)]),(10,.slice (some ⟨ub,0,none⟩) N N),(11,i64 (ws.length+k:Nat))]) (ws.length - 1) ⟨0,S1,w1,A1,L1,by omega,by omega,m2,j1,sn,acr,x2,et,rfl⟩ ?_
 clear m1 j1 x1 et m2 sn acr x2 fn zn hub w1 A1 L1
 rintro mm env H3 ⟨k,S3,w3,A3,L3,rfl,hk,m3,j3,s3,acs,x3,G0,rfl⟩
 have hI:=xL.run ws k (by omega)
 have hIs:∀hh:k+1<ws.length,xL ws (k+1) (ot (k+1) (jf ws)):=fun hh=>xL.run ws (k+1) hh
 have Ti:ot (k+1) (jf ws)=(ot k (jf ws)).step:=rfl
 have lC:=hI.at_
 have aR:=hI.len
 have ZU:=hI.ids
 have agL:=hI.sum
 have UT:=IA.VT hI
 have ZI:=hI.wt
 rw[Ti]at hIs
 generalize hT:ot k (jf ws)=t at*
 refine vs ?_
 refine ai.dec (fun aK=>?_) (fun aK=>?_)<;>refine vs ?_
 ·have MJ:k+1<ws.length:=by omega
  obtain⟨la,lb,BP,BW,kP⟩:=UT MJ
  have MU:=kP.length_eq
  simp only[aoI]at MU
  have acu:=m3.lt
  refine v1 (ae m3.o1) ?_
  refine(nm m3.st j3.hs).mono ?_
  rintro _ H4 (⟨h0,_⟩| ⟨x,y,hx,hy,rfl,S4,st4,e4,Rc⟩)
  ·exact absurd h0 (j3.ne0 (fun e=>by rw[e]at aR;simp at aR;omega))
  obtain⟨x0,xn,id,hyd,hl,hm⟩:=j3.first hx hy
  have Vj:=Q5.eq ZU hl la
  have j4:=j3.take (by omega) ⟨x0,xn⟩ (by rw[←hyd];exact hy) hl hm
  rw[Vj]at j4
  have m4:=m3.to st4 e4 Rc
  have acv:¬S4 ub:=fun h=>(Rc _ h).elim acs (fun h=>by have:=s3.lt;omega)
  have s4:=s3.ext e4 (fun b hb=>by injection hb with hb;rw[←hb];exact acs)
  have z4:=e4.size
  have y4:ag S H H4:=⟨apc x3.size z4,fun z hz hn=>by rw[e4.aG z (by have:=x3.size;omega) (fun h=>(G0 z h).elim hn (fun h=>by omega)),x3.aG z hz hn]⟩
  have Rc:∀z,S4 z→S z∨H.size≤z:=fun z hz=>(Rc z hz).elim (G0 z) (fun h=>.inr (by have:=x3.size;omega))
  refine vs ?_
  obtain⟨f5,b5,z5⟩:=Rg H4 71 [Value.int .i64 0,Value.int .u32 0] [i64 x,Value.int .u32 ((A3.bV x:Nat):Int)]
  generalize hB:H4.size=hb at*
  generalize (H4.new 71 [Value.int .i64 0,Value.int .u32 0]).wr hb [i64 x,Value.int .u32 ((A3.bV x:Nat):Int)]=H5 at*
  have m5:=m4.ext f5 (fun _ _ h=>h)
  have s5:=s4.ext f5 (fun _ _ h=>h)
  refine v1 (ae m5.o1) ?_
  have alr:=m5.lt
  have agM:¬S4 hb:=fun h=>by have:=st4.slt _ h;omega
  refine(nm m5.st j4.hs).mono ?_
  have hw4:(wo t.bT t.a).length+1=t.bT.length:=by
   have:=(zK ZU la.m).length_eq
   rw[aoI]at this;omega
  rintro _ H6 (⟨h0,_⟩| ⟨x',y',uC,MI,rfl,S6,st6,e6,ZV⟩)
  ·exact absurd h0 (j4.ne0 (fun e=>by rw[e]at hw4;simp at hw4;omega))
  obtain⟨x0',xn',Yw,agN,Ku,hm'⟩:=j4.first uC MI
  have Pd:=Q5.eq (ZU.wo _) Ku lb
  have j6:=j4.take (by omega) ⟨x0',xn'⟩ (by rw[←agN];exact MI) Ku hm'
  rw[Pd]at j6
  have m6:=m5.to st6 e6 ZV
  have Yx:¬S6 ub:=fun h=>(ZV _ h).elim acv (fun h=>by have:=s5.lt;omega)
  have s6:=s5.ext e6 (fun b hb=>by injection hb with hb;rw[←hb];exact acv)
  have b6:=e6.own b5 agM
  have z6:=e6.size
  have hx3:=x3.size
  have y6:ag S H H6:=⟨by omega,fun z hz hn=>by rw[e6.aG z (by omega) (fun h=>(Rc z h).elim hn (fun h=>by omega)),f5.aG z (by omega) (fun h=>h),y4.aG z hz hn]⟩
  have ZV:∀z,S6 z→S z∨H.size≤z:=fun z hz=>(ZV z hz).elim (Rc z) (fun h=>.inr (by omega))
  refine vs ?_
  obtain⟨f7,b7,z7⟩:=Rg H6 71 [Value.int .i64 0,Value.int .u32 0] [i64 x',Value.int .u32 (((A3.back x).bV x':Nat):Int)]
  generalize hC:H6.size=hc at*
  generalize (H6.new 71 [Value.int .i64 0,Value.int .u32 0]).wr hc [i64 x',Value.int .u32 (((A3.back x).bV x':Nat):Int)]=H7 at*
  have m7:=m6.ext f7 (fun _ _ h=>h)
  have s7:=s6.ext f7 (fun _ _ h=>h)
  have b8:=f7.own b6 (fun h=>h)
  have y7:=y6.trans (f7.mono fun z _ h=>h.elim)
  have k1:id<N:=by
   have e1:=hI.lt _ la.m
   rw[←Vj]at e1
   simp only at e1
   omega
  have k2:Yw<N:=by
   have e1:=hI.lt _ BW
   rw[←Pd]at e1
   simp only at e1
   omega
  have s7':=s7
  obtain⟨_,ll,cc,hv,ho7,hc7,hc8,_⟩:=s7'
  injection hv with E6 C1 hv3
  subst hv3
  refine v3 (ae m7.o2) (ae b8) (ae b7) ?_
  refine⟨Da _ _,?_⟩
  refine uX.look m7.m (a:=(x,A3.bV x)) hm ?_
  refine v3 (ae m7.o2) (ae b8) (ae b7) ?_
  refine⟨Da _ _,?_⟩
  refine uX.look m7.m (a:=(x',(A3.back x).bV x')) hm' ?_
  refine vs ?_
  refine⟨⟨by omega,by omega⟩,?_⟩
  refine v4 ho7 Int.toNat_natCast aos aor ?_
  refine⟨by omega,?_⟩
  have e8:ag (fun z=>z=ub) H7 (H7.wr ub (ll.set id (i64 ((ws.length+k:Nat):Int)))):=(ag.refl (fun z=>z=ub) _).wr (fun _=>rfl) _
  have o8:(H7.wr ub (ll.set id (i64 ((ws.length+k:Nat):Int)))).own ub=some (ll.set id (i64 ((ws.length+k:Nat):Int))):=ah ho7
  have s8:=s7.sI ho7 id (i64 ((ws.length+k:Nat):Int))
  rw[map_set _ k1]at s8
  refine vs ?_
  refine⟨⟨by omega,by omega⟩,?_⟩
  refine v4 o8 Int.toNat_natCast aos aor ?_
  refine⟨by rw[aot];omega,?_⟩
  refine vs ?_
  generalize jx:ll.set id (i64 ((ws.length+k:Nat):Int))=ll8 at*
  have e9:ag (fun z=>z=ub) (H7.wr ub ll8) ((H7.wr ub ll8).wr ub (ll8.set Yw (i64 ((ws.length+k:Nat):Int)))):=(ag.refl (fun z=>z=ub) _).wr (fun _=>rfl) _
  have s9:=s8.sI o8 Yw (i64 ((ws.length+k:Nat):Int))
  rw[map_set _ k2]at s9
  rw[O4]at e9 s9
  generalize H7.wr ub (ll8.set Yw (i64 ((ws.length+k:Nat):Int)))=H9 at*
  have acw:∀z,S6 z∨z=H.size∨z=H.size+1+1∨z=H.size+1→z≠ub:=by
   rintro z (hz|hz|hz|hz) e
   ·exact Yx (by rw[←e];exact hz)
   ·omega
   ·omega
   ·omega
  have m9:=(m7.ext e8 (fun z hz e=>acw z hz e)).ext e9 (fun z hz e=>acw z hz e)
  have y9:ag S H H9:=⟨apc y7.size (apc e8.size e9.size),fun z hz hn=>by rw[e9.aG z (by have:=e8.size;have:=y7.size;omega) (by omega),e8.aG z (by have:=y7.size;omega) (by omega),y7.aG z hz hn]⟩
  have aiP:0≤t.a.1+t.b.1∧t.a.1+t.b.1≤9223372036854775807:=by
   have Tg:¬ ∃i,i<ws.length∧ws.getD i 0<0:=by
    rintro⟨i,hi,h0⟩
    have hm:ws.getD i 0∈ws:=by
     rw[aou,aop hi]
     exact aqj hi
    have:=hf.pos _ hm
    omega
   have E1:∀p∈t.bT,0≤p.1:=by
    intro p hp
    rw[←ZI p hp]
    refine KN fun i hi=>?_
    split
    ·apply aoJ
     intro h0
     exact Tg ⟨i,hi,by omega⟩
    ·exact aqr _
   have h1:=E1 _ la.m
   have h2:=E1 _ BW
   rcases agL _ la.m _ BW BP with h|h
   ·rw[QG]at h
    have:=hf.sum
    omega
   ·exact absurd h Tg
  have V9:y.2.1=t.a.1:=by rw[←Vj]
  have FU:y'.2.1=t.b.1:=by rw[←Pd]
  rw[V9,FU,wrap64 (n:=t.a.1+t.b.1) (by omega) (by omega)]
  refine⟨by kernel_rfl,?_⟩
  have ZW:(wo (wo t.bT t.a) t.b).length+2=t.bT.length:=by
   have:=(zK (ZU.wo _) lb.m).length_eq
   rw[aoI]at this;omega
  refine af.mono (by simpa using qi m9 j6 (by omega) (by omega) (t.a.1+t.b.1)) ?_
  rintro _ H10 ⟨rfl,S10,w10,A10,L10,m10,j10,e10,acx⟩
  refine vs ?_
  rw[wrap64 (n:=((ws.length+k:Nat):Int)+1) (by omega) (by omega)]
  have hz9:=y9.size
  have hs9:=s9.lt
  refine⟨ws.length - 1 - (k+1),by omega,k+1,S10,w10,A10,L10,rfl,by omega,?_,?_,?_,?_,?_,?_,?_⟩
  ·rw[show((ws.length+(k+1):Nat):Int)=((ws.length+k:Nat):Int)+1 by omega];exact m10
  ·rw[Ti]
   have:t.step.bT=wo (wo t.bT t.a) t.b++[(t.a.1+t.b.1,ws.length+k)]:=by unfold IA.step;rw[lC]
   rw[this]
   exact j10
  ·rw[Ti]
   have:(fun(i:Nat)=>i64 (t.step.up i:Int))=fun j=>if j=Yw then i64 ((ws.length+k:Nat):Int)else if j=id then i64 ((ws.length+k:Nat):Int)else i64 (t.up j:Int):=by
    funext j
    have e1:t.a.2=id:=by rw[←Vj]
    have e2:t.b.2=Yw:=by rw[←Pd]
    show i64 ((if j=t.a.2∨j=t.b.2 then t.at_ else t.up j:Nat):Int)=_
    rw[e1,e2,lC]
    by_cases h1:j=Yw
    ·rw[if_pos (.inr h1),if_pos h1]
    ·by_cases h2:j=id
     ·rw[if_pos (.inl h2),if_neg h1,if_pos h2]
     ·rw[if_neg (by omega),if_neg h1,if_neg h2]
   rw[this]
   exact s9.ext e10 (fun b hb=>by injection hb with hb;rw[←hb];rintro(h|h);exact Yx h;omega)
  ·intro h
   rcases acx ub h with h|h
   ·exact Yx h
   ·omega
  ·exact⟨apc y9.size e10.size,fun z hz hn=>by rw[e10.aG z (by omega) (fun h=>by rcases h with h|h;exact(ZV z h).elim hn (fun h=>by omega);omega),y9.aG z hz hn]⟩
  ·intro z hz
   rcases acx z hz with h|h
   ·exact ZV z h
   ·exact .inr (by omega)
  ·rw[show((ws.length+(k+1):Nat):Int)=((ws.length+k:Nat):Int)+1 by omega]
 ·have MJ:k+1=ws.length:=by omega
  refine⟨ub,rfl,by omega,?_,x3⟩
  unfold BX
  rw[show ws.length - 1=k by omega,hT]
  exact s3
instance(ws:List Int):Decidable (gG ws):=decidable_of_iff (1≤ws.length∧ws.length≤4096∧(∀x∈ws,1≤x)∧ws.sum≤9223372036854775807) ⟨fun⟨a,b,c,d⟩=>⟨a,b,c,d⟩,fun h=>⟨h.n1,h.n2,h.pos,h.sum⟩⟩
theorem zo:∀ (l:List Int),(∀x∈l,1≤x)→0≤l.sum:=by
 intro l
 induction l with
 |nil=>intro _;exact aqr _
 |cons a r ih=>
  intro h
  have h1:=h a (by simp)
  have h2:=ih (fun x hx=>h x (by simp[hx]))
  rw[List.sum_cons]
  omega
theorem DJ{ws:List Int}(h:∀x∈ws,1≤x)(j:Nat):(ws.take j).sum≤ws.sum:=by
 have h1:ws.sum=(ws.take j).sum+(ws.drop j).sum:=by rw[←List.sum_append,apt]
 have h2:=zo (ws.drop j) (fun x hx=>h x (List.mem_of_mem_drop hx))
 omega
theorem xB{ws:List Int}{j:Nat}{x:Int}(hx:ws[j]? =some x):(ws.take (j+1)).sum=(ws.take j).sum+x:=by
 rw[aoM,hx,List.sum_append]
 show _+[x].sum=_
 rw[List.sum_cons,List.sum_nil]
 omega
theorem Bs{H:Hp}{a:Option Addr}{c:Nat}{ws:List Int}(h:cK H 1 (.slice a ws.length c) ws.length (ws.map i64))(hb:∀x∈ws,x≤9223372036854775807):af Tryz.prog FA [.slice a ws.length c] H fun v H'=>ar (v= .bool (decide (gG ws))∧H'=H):=by
 refine aZ FF ?_
 refine vs ?_
 refine ai.dec (fun h1=>?_) (fun h1=>?_)<;>refine v1 aoW ?_
 ·have QI:¬gG ws:=fun hf=>by have:=hf.n1;omega
  rw[aoK QI]
  exact⟨rfl,rfl⟩
 refine ai.dec (fun h1'=>?_) (fun h1'=>?_)<;>refine v1 aoW ?_
 ·have QI:¬gG ws:=fun hf=>by have:=hf.n2;omega
  rw[aoK QI]
  exact⟨rfl,rfl⟩
 refine aS.intro (fun m env H'=>∃j:Nat,m=ws.length - j∧j≤ws.length∧H'=H∧(∀x∈ws.take j,1≤x)∧(ws.take j).sum≤9223372036854775807∧env=[(3,i64 (9223372036854775807 - (ws.take j).sum)),(14,.slice a ws.length c),(15,i64 ws.length),(16,i64 j)]) ws.length ⟨0,by omega,by omega,rfl,by simp,by simp,by simp⟩ ?_
 rintro m env H1 ⟨j,rfl,hj,rfl,hp,hs,rfl⟩
 refine vs ?_
 refine ai.dec (fun aK=>?_) (fun aK=>?_)<;>refine vs ?_
 ·have gf:j<ws.length:=by omega
  obtain⟨x,hx⟩:∃x,ws[j]? =some x:=⟨_,aop gf⟩
  obtain⟨_,b,o,lb,rfl,uA,aV⟩:=cK.num h hx
  have UD:=aow hx
  have hxb:=hb x UD
  have VX:=xB hx
  have PA:=zo _ hp
  refine⟨⟨by omega,by omega⟩,?_⟩
  refine v4 uA Int.toNat_natCast aos aV ?_
  refine ai.dec (fun h2=>?_) (fun h2=>?_)<;>refine v1 aoW ?_
  ·have QI:¬gG ws:=fun hf=>by have h3:=hf.pos x UD;omega
   rw[aoK QI]
   exact⟨rfl,rfl⟩
  refine ai.dec (fun JI=>?_) (fun JI=>?_)<;>refine v1 aoW ?_
  ·have QI:¬gG ws:=fun hf=>by
    have h4:=DJ hf.pos (j+1)
    have h5:=hf.sum
    omega
   rw[aoK QI]
   exact⟨rfl,rfl⟩
  ·rw[wrap64 (n:=9223372036854775807 - (ws.take j).sum - x) (by omega) (by omega),wrap64 (n:=(j:Int)+1) (by omega) (by omega)]
   refine⟨ws.length - (j+1),by omega,j+1,rfl,by omega,trivial,fun y hy=>?_,by omega,?_⟩
   ·rw[aoM,hx,aoL]at hy
    rcases hy with hy|hy
    ·exact hp y hy
    ·have:y=x:=by simpa using hy
     omega
   ·rw[VX,show(9223372036854775807:Int) - (ws.take j).sum - x=9223372036854775807 - ((ws.take j).sum+x) by omega]
    rfl
 ·have gf:j=ws.length:=by omega
  subst gf
  rw[aoQ]at hp hs
  refine⟨?_,rfl⟩
  rw[aoE ⟨by omega,by omega,hp,hs⟩]
  rfl
def kQ(ws:List Int):List Int:=if ws.length=1 then[1]else(Fc ws).map fun(n:Nat)=>(n:Int)
def Ie(kd dd:Int)(ws:List Int):Int×List Int:=if Rj kd dd≠0 then(Rj kd dd,[])else if gG ws then(0,kQ ws)else(201,[])
theorem Bu(ws:List Int):(kQ ws).length=ws.length:=by
 unfold kQ
 split
 ·rename_i h;simp[h]
 ·rw[aoA,RP]
def Tj(H:Hp)(sv:Value)(ls:List Int):Prop:=∃a c,sv= .slice a ls.length c∧cK H 1 sv ls.length (ls.map i64)
theorem Tj.nil(H:Hp):Tj H (.slice none 0 0) []:=⟨none,0,rfl,rfl,.inl ⟨rfl,none,0,rfl⟩⟩
theorem Sl.Yy{H H':Hp}{size n:Nat}{v:Value}{xs:List Value}{fp:Option Nat}(h:Sl H size v n xs fp)(e:am H H'):Sl H' size v n xs fp:=h.ext e (fun _ _ h=>h)
theorem I1{N:Nat}{f:Nat→Value}{i:Nat}(hi:i<N):((List.range N).map f)[i]? =some (f i):=by
 rw[aoG,apz hi];rfl
theorem uY{H:Hp}(kd dd:Int)(BQ:kM kd dd→Pb kd dd){a:Option Addr}{c:Nat}{ws:List Int}(h:cK H 1 (.slice a ws.length c) ws.length (ws.map i64))(hb:∀x∈ws,x≤9223372036854775807):
  af Tryz.prog Ab [Mb kd dd,.slice a ws.length c] H fun v H'=>ar (∃sv,v= .tuple [sv,i64 (Ie kd dd ws).1].toArray∧Tj H' sv (Ie kd dd ws).2∧am H H'):=by
 refine aZ Aw ?_
 refine vs ?_
 have f0:am H (H.new 23 [i64 kd,i64 dd]):=(ag.refl _ _).new _ _
 have o0:(H.new 23 [i64 kd,i64 dd]).own H.size=some [i64 kd,i64 dd]:=aD _ _ _
 generalize H.new 23 [i64 kd,i64 dd]=H0 at*
 refine(nq kd dd H0).mono ?_
 rintro _ H1 ⟨rfl,f1⟩
 have o1:=f1.own o0 (fun h=>h)
 have g1:=f0.trans f1
 refine vs ?_
 refine ai.dec (fun hc=>?_) (fun hc=>?_)<;>refine vs ?_
 rotate_left
 ·have hA:Ie kd dd ws=(Rj kd dd,[]):=by unfold Ie;rw[if_pos hc]
  rw[hA]
  exact⟨_,rfl,Tj.nil _,g1⟩
 have hK:=Mc.1 hc
 refine(Bs (h.fresh g1) hb).mono ?_
 rintro _ H1' ⟨rfl,e⟩
 obtain rfl:=e.symm
 refine vs ?_
 by_cases hF:gG ws
 rotate_left
 ·rw[aoK hF]
  refine v1 aoW ?_
  have hA:Ie kd dd ws=(201,[]):=by unfold Ie;rw[if_neg (by omega),if_neg hF]
  rw[hA]
  exact⟨_,rfl,Tj.nil _,g1⟩
 rw[aoE hF]
 have hA:Ie kd dd ws=(0,kQ ws):=by unfold Ie;rw[if_neg (by omega),if_pos hF]
 rw[hA]
 have EF:=hF.n1
 have CG:=hF.n2
 refine v1 aoW ?_
 refine ai.dec (fun h1=>?_) (fun h1=>?_)<;>refine vs ?_
 ·have hw:kQ ws=[1]:=by unfold kQ;rw[if_pos (by omega)]
  rw[hw]
  refine⟨_,rfl,⟨_,_,rfl,(Sl.cB (n:=1) (xs:=[i64 1]) rfl rfl).rd⟩,g1.trans ((ag.refl _ _).new _ _)⟩
 have h2:2≤ws.length:=by omega
 refine v1 (ae o1) ?_
 refine(J6 hK (BQ hK) (cap:=(ws.length:Int)) (mo:=4294967295) ⟨by omega,by omega⟩ ⟨by omega,by omega⟩ H1).mono ?_
 rintro _ H2 ⟨s,S,rfl,st,f2,hS⟩
 have g2:=g1.trans f2
 have Vd:∀z,S z→H.size≤z:=fun z hz=>by have:=hS z hz;have:=g1.size;omega
 refine vs ?_
 refine(xg st (fun H' e=>h.fresh (g2.then e Vd)) hF h2).mono ?_
 rintro _ H3 ⟨ub,rfl,hub,su,e3⟩
 have g3:=g2.then e3 Vd
 obtain⟨N,hN⟩:∃N:Nat,N=2*ws.length - 1:=⟨_,rfl⟩
 rw[←hN]at su ⊢
 refine v1 Int.toNat_natCast ?_
 refine⟨⟨by omega,by omega,by omega,by omega⟩,?_⟩
 have E:=MT.MP EF
 have zL:=E.up
 have agR:=E.Pu
 have hEd:Fc ws=(List.range ws.length).map (BX ws).d:=rfl
 generalize BX ws=t at*
 refine v1 Int.toNat_natCast ?_
 have fn:am H3 (H3.new 3 (ce [i64 0] N)):=(ag.refl _ _).new _ _
 have sd:Sl (H3.new 3 (ce [i64 0] N)) 1 (.slice (some ⟨H3.size,0,none⟩) N N) N ((List.range N).map fun j=>if N - 1≤j then i64 (t.d j:Int)else i64 0) (some H3.size):=by
  rw[uQ,aqn,show((List.range N).map fun j=>if N - 1≤j then i64 (t.d j:Int)else i64 0)=List.replicate N (i64 0)from ?_]
  ·exact Sl.lit H3 _ 1 N _ (by simp)
  ·apply ao7
   intro j
   rw[aoG,apH]
   by_cases hj:j<N
   ·rw[apz hj,if_pos hj,Option.map_some]
    by_cases gf:N - 1≤j
    ·rw[if_pos gf,show j=2*ws.length - 2 by omega,agR];rfl
    ·rw[if_neg gf]
   ·rw[aoC (by simp;omega),if_neg hj];rfl
 have hdb:ub<H3.size:=su.lt
 have su2:=Sl.Yy su fn
 have g4:=g3.trans fn
 have X9:=g3.size
 generalize hD:H3.size=db at*
 generalize H3.new 3 (ce [i64 0] N)=H4 at*
 rw[wrap64 (n:=(N:Int) - 2) (by omega) (by omega)]
 refine aS.intro (fun mm env H'=>∃r:Nat,mm=r∧r≤N - 1∧ag (fun z=>z=db) H4 H'∧Sl H' 1 (.slice (some ⟨db,0,none⟩) N N) N ((List.range N).map fun j=>if r≤j then i64 (t.d j:Int)else i64 0) (some db)∧
  env=[(7,i64 ws.length),(10,.slice (some ⟨ub,0,none⟩) N N),(11,.slice (some ⟨db,0,none⟩) N N),(12,i64 ((r:Int) - 1))]) (N - 1) ⟨N - 1,rfl,aoB _,ag.refl _ _,sd,by rw[show(((N - 1:Nat):Int) - 1)=(N:Int) - 2 by omega]⟩ ?_
 clear sd
 rintro mm env H5 ⟨r,e0,hr,e5,s5,rfl⟩
 obtain rfl:=e0.symm
 have su5:=su2.ext e5 (fun b hb=>by injection hb with hb;omega)
 have g5:am H H5:=g4.then e5 (fun z hz=>by omega)
 refine vs ?_
 refine ai.dec (fun MZ=>?_) (fun MZ=>?_)<;>refine vs ?_
 ·obtain⟨i,rfl⟩:∃i,r=i+1:=⟨r - 1,by omega⟩
  obtain⟨u1,u2,u3⟩:=zL i (by omega)
  have k1:=I1 (N:=N) (f:=fun i=>i64 (t.up i:Int)) (i:=i) (by omega)
  have k2:=I1 (N:=N) (f:=fun j=>if i+1≤j then i64 (t.d j:Int)else i64 0) (i:=t.up i) (by omega)
  rw[if_pos (by omega)]at k2
  have agS:=su5
  have s5':=s5
  obtain⟨_,lu,cu,hv,hou,hu1,hu2,_⟩:=agS
  injection hv with _ _ hv
  subst hv
  obtain⟨_,ld,cd,hv,Tk,hd1,lU,_⟩:=s5'
  injection hv with _ _ hv
  subst hv
  have c1:=Sl.get su5 hou k1
  have c2:=Sl.get s5 Tk k2
  have CD:(((i+1:Nat):Int) - 1)=(i:Int):=by omega
  rw[CD]
  have hdl:=E.dl (t.up i) (by have:=E.at_;omega)
  refine⟨⟨by omega,by omega⟩,?_⟩
  refine v5 (ae hou) Int.toNat_natCast aos aor c1 ?_
  refine⟨⟨by omega,by omega⟩,?_⟩
  refine v5 (ae Tk) Int.toNat_natCast aos aor c2 ?_
  refine⟨⟨by omega,by omega⟩,?_⟩
  refine v4 Tk Int.toNat_natCast aos aor ?_
  rw[wrap64 (n:=(t.d (t.up i):Int)+1) (by omega) (by omega)]
  refine⟨by omega,?_⟩
  have e6:ag (fun z=>z=db) H5 (H5.wr db (ld.set i (i64 ((t.d (t.up i):Int)+1)))):=(ag.refl (fun z=>z=db) _).wr (fun _=>rfl) _
  have s6:=s5.sI Tk i (i64 ((t.d (t.up i):Int)+1))
  rw[map_set _ (by omega:i<N)]at s6
  refine vs ?_
  rw[wrap64 (n:=(i:Int) - 1) (by omega) (by omega)]
  refine⟨i,by omega,i,rfl,by omega,e5.trans e6,?_,rfl⟩
  have:(fun j=>if j=i then i64 ((t.d (t.up i):Int)+1)else if i+1≤j then i64 (t.d j:Int)else i64 0)=fun j=>if i≤j then i64 (t.d j:Int)else i64 0:=by
   funext j
   by_cases hj:j=i
   ·rw[if_pos hj,if_pos (by omega),hj,u3];rfl
   ·rw[if_neg hj]
    by_cases gf:i+1≤j
    ·rw[if_pos gf,if_pos (by omega)]
    ·rw[if_neg gf,if_neg (by omega)]
  rw[this]at s6
  exact s6
 ·have hr0:r=0:=by omega
  subst hr0
  have hlw:kQ ws=(Fc ws).map fun(n:Nat)=>(n:Int):=by unfold kQ;rw[if_neg (by omega)]
  obtain⟨q0,ld,cd,hv,Tk,hd1,lU,EK⟩:=s5
  injection hv with _ _ hv
  subst hv
  refine⟨⟨by omega,by omega,by omega,by omega⟩,?_⟩
  refine v1 Int.toNat_natCast ?_
  have jx:(kQ ws).length=ws.length:=Bu ws
  rw[if_neg (by omega)]
  refine⟨_,rfl,⟨some ⟨db,0,none⟩,ws.length,?_,?_⟩,g5⟩
  ·rw[jx]
   simp[Addr.add]
  ·rw[jx]
   refine⟨by rw[aoA,jx,aos],.inr ⟨db,0,ws.length,ld,by simp[Addr.add],ae Tk,by omega,?_⟩⟩
   rw[apO,aos]
   have h6:ld.take ws.length=(ld.take (N*1)).take ws.length:=by rw[aqu,show min ws.length (N*1)=ws.length by omega]
   rw[h6,EK,hlw,hEd,apE,apE,←aqz,List.take_range,show min ws.length N=ws.length by omega]
   refine apu fun j _=>?_
   rw[if_pos (apG _)]
   rfl
theorem EL{H:Hp}{a a':Option Addr}{c c':Nat}{xs ys:List Int}(h:cK H 1 (.slice a xs.length c) xs.length (xs.map i64))(h':cK H 1 (.slice a' ys.length c') ys.length (ys.map i64))(hm:xs.length≤1000000000000):
  af Tryz.prog Jt [.slice a xs.length c,.slice a' ys.length c'] H fun v H'=>ar (v= .bool (decide (xs=ys))∧H=H'):=by
 refine aZ JA ?_
 refine vs ?_
 refine ai.dec (fun h2=>?_) (fun h2=>?_)
 rotate_left
 ·refine vs ?_
  exact⟨by rw[aoK (p:=xs=ys) (fun e=>h2 (by rw[e]))];rfl,rfl⟩
 refine vs ?_
 refine aS.intro (fun k env H'=>H'=H∧∃j:Nat,k=xs.length - j∧j≤xs.length∧xs.take j=ys.take j∧env=[(0,.slice a xs.length c),(1,.slice a' ys.length c'),(12,i64 xs.length),(13,i64 j)]) xs.length ⟨rfl,0,by omega,by omega,rfl,rfl⟩ ?_
 rintro k env _ ⟨rfl,j,hk,hj,Ky,rfl⟩
 refine vs ?_
 refine ai.dec (fun aK=>?_) (fun aK=>?_)<;>refine vs ?_
 ·have gf:j<xs.length:=by omega
  obtain⟨x,hx⟩:∃e,xs[j]? =some e:=⟨_,aop gf⟩
  obtain⟨y,hy⟩:∃e,ys[j]? =some e:=⟨_,aop (by omega)⟩
  obtain⟨_,b,o,lb,rfl,fw,aV⟩:=cK.num h hx
  obtain⟨_,b',o',Wd,rfl,Sx,zd⟩:=cK.num h' hy
  refine⟨⟨by omega,by omega⟩,?_⟩
  refine v4 fw Int.toNat_natCast aos aV ?_
  refine⟨⟨by omega,by omega⟩,?_⟩
  refine v4 Sx Int.toNat_natCast aos zd ?_
  refine ai.dec (fun h3=>?_) (fun h3=>?_)<;>refine vs ?_
  ·rw[wrap64 (n:=(j:Int)+1) (by omega) (by omega)]
   exact⟨xs.length - (j+1),by omega,trivial,j+1,rfl,by omega,by rw[aoM,aoM,hx,hy,Ky,h3],rfl⟩
  ·refine⟨?_,rfl⟩
   rw[aoK (fun e2=>h3 (by rw[e2,hy]at hx;injection hx with hx;exact hx.symm))]
   rfl
 ·have gf:j=xs.length:=by omega
  subst gf
  rw[aoQ,apn (by omega)]at Ky
  exact⟨by rw[aoE Ky];rfl,rfl⟩
theorem Db{H:Hp}{a:Option Addr}{c:Nat}{ws:List Int}(h:cK H 1 (.slice a ws.length c) ws.length (ws.map i64))(hb:∀x∈ws,x≤9223372036854775807)(hm:ws.length≤9223372036854775807):af Tryz.prog Hg [.slice a ws.length c] H fun v H'=>ar (v= .bool (decide (gG ws))∧H'=H):=by
 refine aZ Hu ?_
 refine vs ?_
 refine aS.intro (fun m env H'=>∃j:Nat,m=ws.length - j∧j≤ws.length∧H'=H∧(∀x∈ws.take j,1≤x)∧(ws.take j).sum≤9223372036854775807∧env=[(0,.slice a ws.length c),(3,i64 (9223372036854775807 - (ws.take j).sum)),(6,.slice a ws.length c),(7,i64 ws.length),(8,i64 j)]) ws.length ⟨0,by omega,by omega,rfl,by simp,by simp,by simp⟩ ?_
 rintro m env H1 ⟨j,rfl,hj,rfl,hp,hs,rfl⟩
 refine vs ?_
 refine ai.dec (fun aK=>?_) (fun aK=>?_)<;>refine vs ?_
 ·have gf:j<ws.length:=by omega
  obtain⟨x,hx⟩:∃x,ws[j]? =some x:=⟨_,aop gf⟩
  obtain⟨_,b,o,lb,rfl,uA,aV⟩:=cK.num h hx
  have UD:=aow hx
  have hxb:=hb x UD
  have VX:=xB hx
  have PA:=zo _ hp
  refine⟨⟨by omega,by omega⟩,?_⟩
  refine v4 uA Int.toNat_natCast aos aV ?_
  refine ai.dec (fun h2=>?_) (fun h2=>?_)<;>refine v1 aoW ?_
  ·have QI:¬gG ws:=fun hf=>by have h3:=hf.pos x UD;omega
   rw[aoK QI]
   exact⟨rfl,rfl⟩
  refine ai.dec (fun JI=>?_) (fun JI=>?_)<;>refine v1 aoW ?_
  ·have QI:¬gG ws:=fun hf=>by
    have h4:=DJ hf.pos (j+1)
    have h5:=hf.sum
    omega
   rw[aoK QI]
   exact⟨rfl,rfl⟩
  ·rw[wrap64 (n:=9223372036854775807 - (ws.take j).sum - x) (by omega) (by omega),wrap64 (n:=(j:Int)+1) (by omega) (by omega)]
   refine⟨ws.length - (j+1),by omega,j+1,rfl,by omega,trivial,fun y hy=>?_,by omega,?_⟩
   ·rw[aoM,hx,aoL]at hy
    rcases hy with hy|hy
    ·exact hp y hy
    ·have:y=x:=by simpa using hy
     omega
   ·rw[VX,show(9223372036854775807:Int) - (ws.take j).sum - x=9223372036854775807 - ((ws.take j).sum+x) by omega]
    rfl
 ·have gf:j=ws.length:=by omega
  subst gf
  rw[aoQ]at hp hs
  refine ai.dec (fun h1=>?_) (fun h1=>?_)<;>refine v1 aoW ?_
  ·refine⟨?_,rfl⟩
   have:gG ws↔(ws.length:Int)≤4096:=⟨fun h=>by have:=h.n2;omega,fun h=>⟨by omega,by omega,hp,hs⟩⟩
   exact aoD Value.bool (decide_eq_decide.2 this.symm)
  ·have QI:¬gG ws:=fun hf=>by have:=hf.n1;omega
   rw[aoK QI]
   exact⟨rfl,rfl⟩
theorem agT{x:Int}(h:(Lit.int .i64 x).wf=true): -9223372036854775808≤x∧x≤9223372036854775807:=by
 have e1:IntKind.i64.min= -9223372036854775808:=rfl
 have e2:IntKind.i64.max=9223372036854775807:=rfl
 simp only[Lit.wf,e1,e2,apf,ao0]at h
 omega
theorem DK{H:Hp}{v:Value}(h:DR H (false,[.sl [.i .i64]]) v):∃ (ks:List Int) (a:Option Addr) (c:Nat),v= .slice a ks.length c∧cK H 1 (.slice a ks.length c) ks.length (ks.map i64)∧ks.length≤maxLen∧∀x∈ks, -9223372036854775808≤x∧x≤9223372036854775807:=by
 obtain⟨rows,hr,hf,hm,a,c,rfl,hc⟩:=St h
 obtain⟨ks,h1,h2,h3⟩:=Qi hf
 rw[h1]at hr
 rw[←h2]at hr hm ⊢
 exact⟨ks,a,c,rfl,hr,hm,fun x hx=>agT (h3 x hx)⟩
theorem Oe{H:Hp}{v:Value}(h:DR H (true,[.k (.i .i64),.k (.i .i64)]) v):∃x y:Int,v= .agg #[i64 x,i64 y]:=by
 obtain⟨cs,rfl,_,_,rfl,⟨x,rfl,hx⟩,_,_,rfl,⟨y,rfl,hy⟩,rfl⟩:=h
 exact⟨x,y,rfl⟩
end Go.Proofs.YthpjfeolagohkaaGreat
