/- Texts put behind each other. -/
import Derived.Test.YtjlnnljohemifaaGreatK98
import Derived.Test.YtjlnnljohemifaaGreatK1
import Derived.Test.YtjlnnljohemifaaGreatK17
import Derived.Test.YtjlnnljohemifaaGreatK19
import Derived.Test.YtjlnnljohemifaaGreatK20
import Derived.Test.YtjlnnljohemifaaGreatK21
import Derived.Test.YtjlnnljohemifaaGreatK22
set_option linter.unusedVariables false
set_option linter.unusedSimpArgs false
namespace Go.Proofs.YtjlnnljohemifaaGreat
open Go Go.Vc
structure gA(ws:List Int):Prop where
 n1:1≤ws.length
 n2:ws.length≤4096
 pos:∀x∈ws,1≤x
 sum:ws.sum≤9223372036854775807
theorem zT.sum{ws:List Int}{k:Nat}{s:Jl}(h:zT ws k s):∀p∈s.bX,∀q∈s.bX,p.2≠q.2→p.1+q.1≤jd ws.length (fun i=>ws.getD i 0)∨∃i,i<ws.length∧ws.getD i 0<0:=by
 intro p hp q hq aT
 by_cases SA:∃i,i<ws.length∧ws.getD i 0<0
 ·exact .inr SA
 ·refine .inl ?_
  rw[←h.wt p hp,←h.wt q hq,←Bz]
  have:∀n,n≤ws.length→jd n (fun i=>(if s.R i=p.2 then ws.getD i 0 else 0)+(if s.R i=q.2 then ws.getD i 0 else 0))≤jd n (fun i=>ws.getD i 0):=by
   intro n hn
   induction n with
   |zero=>exact anT _
   |succ n ih=>
    have:=ih (by omega)
    have h0:0≤ws.getD n 0:=by
     apply amr
     intro hc
     exact SA ⟨n,by omega,by omega⟩
    rw[dA,dA]
    split<;>split<;>omega
  exact this _ (ami _)
theorem Qk(ws:List Int):jd ws.length (fun i=>ws.getD i 0)=ws.sum:=by
 unfold jd
 rw[pX]
theorem SC{H:Hp}{s:Nat}{S:Nat→Prop}{w:Nw}{A:Ar}{q:Int}(st:F1 H s S w A q)(T1 T2:TypeId):
  Qj (((H.new T1 [ptr s]).fY.new T2 [Value.map none]).wr (Array.size H+1+1) [Value.map (some (Array.size H+1))]) H.size (H.size+1+1) (H.size+1) s S w A q []∧ax H (((H.new T1 [ptr s]).fY.new T2 [Value.map none]).wr (Array.size H+1+1) [Value.map (some (Array.size H+1))]):=by
 have fH:=st.slt
 have f1:ax H (H.new T1 [ptr s]):=(ai.refl _ _).new _ _
 have b1:(H.new T1 [ptr s]).own H.size=some [ptr s]:=aG _ _ _
 have z1:(H.new T1 [ptr s]).size=H.size+1:=au _ _ _
 generalize H.new T1 [ptr s]=H1 at*
 have f2:ax H1 H1.fY:=(ai.refl _ _).fY
 have b2:=xF.new H1
 have z2:H1.fY.size=H1.size+1:=kC _
 generalize H1.fY=H2 at*
 have f3:ax H2 (H2.new T2 [Value.map none]):=(ai.refl _ _).new _ _
 have b3:(H2.new T2 [Value.map none]).own H2.size=some [Value.map none]:=aG _ _ _
 have z3:(H2.new T2 [Value.map none]).size=H2.size+1:=au _ _ _
 generalize H2.new T2 [Value.map none]=H3 at*
 rw[z2,z1]at b3
 rw[z1]at b2
 have e4:ai (fun x=>x=H.size+1+1) H3 (H3.wr (H.size+1+1) [Value.map (some (H.size+1))]):=(ai.refl (fun x=>x=H.size+1+1) _).wr (fun _=>rfl) _
 have b4:=aj (l:=[Value.map (some (H.size+1))]) b3
 have hf:ax H (H3.wr (H.size+1+1) [Value.map (some (H.size+1))]):=((f1.trans f2).trans f3).then e4 (fun z hz=>by omega)
 have hn:∀k,¬S (H.size+k):=fun k h=>by have:=fH _ h;omega
 refine⟨⟨st.ext hf (fun _ _ h=>h),e4.own (f3.own (f2.own b1 (fun h=>h)) (fun h=>h)) (by omega),b4,(b2.ext f3 (fun h=>h)).ext e4 (by omega),⟨hn 0,hn 2,hn 1⟩,by omega,by omega⟩,hf⟩
theorem map_set{N:Nat}(f:Nat→Value){i:Nat}(hi:i<N)(v:Value):((List.range N).map f).set i v=(List.range N).map fun j=>if j=i then v else f j:=by
 apply amN
 intro j
 rw[List.getElem?_set,amo,amo]
 by_cases e:i=j
 ·subst e
  rw[am8 hi]
  simp[hi]
 ·by_cases hj:j<N
  ·rw[am8 hj,if_neg e]
   simp[Ne.symm e]
  ·rw[amk (by simp;omega),if_neg e]
   rfl
def JB(ws:List Int)(i:Nat):List (Int×Nat):=(List.range i).map fun j=>(ws.getD j 0,j)
theorem NQ{ws:List Int}{i:Nat}{x:Int}(hx:ws[i]? =some x):JB ws i++[(x,i)]=JB ws (i+1):=by
 unfold JB
 rw[aof,amU,aog,al9,hx]
 rfl
theorem Ql(ws:List Int)(i:Nat):(JB ws i).length=i:=by simp[JB]
set_option maxRecDepth 100000 in
set_option maxHeartbeats 4000000 in
theorem zw{H:Hp}{s:Nat}{S:Nat→Prop}{ws:List Int}{a:Option Addr}{c:Nat}(st:F1 H s S (CA (ws.length:Int)) (Qh (ws.length:Int) 4294967295) 0)(hr:∀H',ai S H H'→ep H' 1 (.slice a ws.length c) ws.length (ws.map i64))(hf:gA ws)(h2:2≤ws.length):
  ah Tryz.prog Dl [ptr s,.slice a ws.length c] H fun v H'=>ay (∃b,v= .slice (some ⟨b,0,none⟩) (2*ws.length - 1) (2*ws.length - 1)∧H.size≤b∧Sl H' 1 v (2*ws.length - 1) ((List.range (2*ws.length - 1)).map fun i=>i64 ((yg ws).up i:Int)) (some b)∧ai S H H'):=by
 have zD:=hf.n2
 refine be Dw ⟨rfl,?_⟩
 refine v1 mK.eq_1 ?_
 obtain⟨m0,f0⟩:=SC st 81 107
 generalize ((H.new 81 [ptr s]).fY.new 107 [Value.map none]).wr (H.size+1+1) [Value.map (some (H.size+1))]=H0 at*
 refine(FI m0.st (by simp[CA])).mono ?_
 rintro _ H1 ⟨rfl,S1,Wp,e1,eR⟩
 have m1:=m0.to Wp e1 eR
 have z0:=f0.size
 have jq:ai S H H1:=(f0.mono fun _ _ h=>h.elim).trans e1
 have eR:∀z,S1 z→S z∨H.size≤z:=fun z hz=>(eR z hz).imp_right fun h=>by omega
 refine vs ?_
 refine bA.intro (fun mm env H'=>∃ (i:Nat) (S':Nat→Prop) (w':Nw) (A':Ar) (L':List ((Int×Nat)×Value)),mm=ws.length - i∧i≤ws.length∧Qj H' H.size (H.size+1+1) (H.size+1) s S' w' A' (i:Int) L'∧I3 ws.length w' A' L' (JB ws i) i∧ai S H H'∧(∀z,S' z→S z∨H.size≤z)∧
  env=[(1,.slice a ws.length c),(2,ptr H.size),(5,ptr (H.size+1+1)),(6,.func (.func jy) #[] #[ptr H.size,ptr (H.size+1+1)]),(22,.slice a ws.length c),(23,i64 ws.length),(24,i64 i)]) ws.length ⟨0,S1,_,_,[],by omega,by omega,m1,I3.zero _,jq,eR,rfl⟩ ?_
 clear m1 Wp e1 jq eR
 rintro mm env H1 ⟨i,S1,w1,A1,L1,rfl,hi,m1,j1,x1,eR,rfl⟩
 refine vs ?_
 refine ak.dec (fun aR=>?_) (fun aR=>?_)<;>refine vs ?_
 ·have oq:i<ws.length:=by omega
  obtain⟨x,hx⟩:∃x,ws[i]? =some x:=⟨_,al5 oq⟩
  obtain⟨_,b,o,lb,rfl,D4,bE⟩:=ep.num (hr H1 x1) hx
  refine⟨⟨by omega,by omega⟩,?_⟩
  refine v4 D4 Int.toNat_natCast ama bE ?_
  refine⟨by kernel_rfl,?_⟩
  refine ah.mono (by simpa using tB m1 j1 (by rw[Ql];exact oq) (by omega) x) ?_
  rintro _ H2 ⟨rfl,S2,w2,A2,L2,m2,j2,e2,ON⟩
  rw[NQ hx]at j2
  refine vs ?_
  rw[wrap64 (n:=(i:Int)+1) (by omega) (by omega)]
  have z1:=x1.size
  refine⟨ws.length - (i+1),by omega,i+1,S2,w2,A2,L2,rfl,by omega,m2,j2,?_,fun z hz=>?_,rfl⟩
  ·exact⟨amM x1.size e2.size,fun z hz hn=>by rw[e2.aN z (by omega) (fun h=>by rcases h with h|h;exact(eR z h).elim hn (fun h=>by omega);omega),x1.aN z hz hn]⟩
  ·rcases ON z hz with h|h
   ·exact eR z h
   ·exact .inr (by omega)
 have oq:i=ws.length:=by omega
 subst oq
 clear aR hi
 obtain⟨N,hN⟩:∃N:Nat,N=2*ws.length - 1:=⟨_,rfl⟩
 rw[←hN]
 rw[wrap64 (n:=2*(ws.length:Int)) (by omega) (by omega),show(2*(ws.length:Int) - 1)=(N:Int) by omega,wrap64 (n:=(N:Int)) (by omega) (by omega)]
 refine⟨⟨by omega,by omega,by omega,by omega⟩,?_⟩
 refine v1 Int.toNat_natCast ?_
 have fn:ax H1 (H1.new 3 (cR [i64 0] N)):=(ai.refl _ _).new _ _
 have zn:(H1.new 3 (cR [i64 0] N)).size=H1.size+1:=au _ _ _
 have sn:Sl (H1.new 3 (cR [i64 0] N)) 1 (.slice (some ⟨H1.size,0,none⟩) N N) N ((List.range N).map fun i=>i64 ((mz ws).up i:Int)) (some H1.size):=by
  rw[xz,List.map_replicate,show((List.range N).map fun i=>i64 ((mz ws).up i:Int))=List.replicate N (i64 0)from ?_]
  ·exact Sl.lit H1 _ 1 N _ (by simp)
  ·apply amN
   intro j
   rw[amo,am9]
   by_cases hj:j<N
   ·rw[am8 hj,if_pos hj];rfl
   ·rw[amk (by simp;omega),if_neg hj];rfl
 have hub:=m1.lt
 have ajy:H.size+1+1<H1.size:=hub _ (by simp)
 have m2:=m1.ext fn (fun _ _ h=>h)
 have x2:ai S H (H1.new 3 (cR [i64 0] N)):=x1.trans (fn.mono fun z _ h=>h.elim)
 have aaS:¬S1 H1.size:=fun h=>by have:=hub _ (.inl h);omega
 generalize ajz:H1.size=ub at*
 generalize H1.new 3 (cR [i64 0] N)=H2 at*
 refine bA.intro (fun mm env H'=>∃ (k:Nat) (S':Nat→Prop) (w':Nw) (A':Ar) (L':List ((Int×Nat)×Value)),mm=ws.length - 1 - k∧k+1≤ws.length∧Qj H' H.size (H.size+1+1) (H.size+1) s S' w' A' ((ws.length+k:Nat):Int) L'∧I3 ws.length w' A' L' (rK k (mz ws)).bX (ws.length+k)∧
  Sl H' 1 (.slice (some ⟨ub,0,none⟩) N N) N ((List.range N).map fun i=>i64 ((rK k (mz ws)).up i:Int)) (some ub)∧¬S' ub∧ai S H H'∧(∀z,S' z→S z∨H.size≤z)∧
  env=[(2,ptr H.size),(5,ptr (H.size+1+1)),(6,.func (.func jy) #[] #[ptr H.size,ptr (H.size+1+1)]),(10,.slice (some ⟨ub,0,none⟩) N N),(11,i64 (ws.length+k:Nat))]) (ws.length - 1) ⟨0,S1,w1,A1,L1,by omega,by omega,m2,j1,sn,aaS,x2,eR,rfl⟩ ?_
 clear m1 j1 x1 eR m2 sn aaS x2 fn zn hub w1 A1 L1
 rintro mm env H3 ⟨k,S3,w3,A3,L3,rfl,hk,m3,j3,s3,aaT,x3,IL,rfl⟩
 have hI:=zT.run ws k (by omega)
 have hIs:∀hh:k+1<ws.length,zT ws (k+1) (rK (k+1) (mz ws)):=fun hh=>zT.run ws (k+1) hh
 have SD:rK (k+1) (mz ws)=(rK k (mz ws)).step:=rfl
 have oU:=hI.at_
 have bm:=hI.len
 have YS:=hI.ids
 have W6:=hI.sum
 have Vq:=Jl.U7 hI
 have YJ:=hI.wt
 rw[SD]at hIs
 generalize hT:rK k (mz ws)=t at*
 refine vs ?_
 refine ak.dec (fun aR=>?_) (fun aR=>?_)<;>refine vs ?_
 ·have OD:k+1<ws.length:=by omega
  obtain⟨la,lb,zQ,Dj,JC⟩:=Vq OD
  have MX:=JC.length_eq
  simp only[ams]at MX
  have aaU:=m3.lt
  refine v1 (ae m3.o1) ?_
  refine(qI m3.st j3.hs).mono ?_
  rintro _ H4 (⟨h0,_⟩| ⟨x,y,hx,hy,rfl,S4,st4,e4,Q5⟩)
  ·exact absurd h0 (j3.ne0 (fun e=>by rw[e]at bm;simp at bm;omega))
  obtain⟨x0,xn,id,Vp,hl,hm⟩:=j3.first hx hy
  have Uv:=QZ.eq YS hl la
  have j4:=j3.take (by omega) ⟨x0,xn⟩ (by rw[←Vp];exact hy) hl hm
  rw[Uv]at j4
  have m4:=m3.to st4 e4 Q5
  have aaV:¬S4 ub:=fun h=>(Q5 _ h).elim aaT (fun h=>by have:=s3.lt;omega)
  have s4:=s3.ext e4 (fun b hb=>by injection hb with hb;rw[←hb];exact aaT)
  have z4:=e4.size
  have y4:ai S H H4:=⟨amM x3.size z4,fun z hz hn=>by rw[e4.aN z (by have:=x3.size;omega) (fun h=>(IL z h).elim hn (fun h=>by omega)),x3.aN z hz hn]⟩
  have Q5:∀z,S4 z→S z∨H.size≤z:=fun z hz=>(Q5 z hz).elim (IL z) (fun h=>.inr (by have:=x3.size;omega))
  refine vs ?_
  obtain⟨f5,b5,z5⟩:=MU H4 114 [Value.int .i64 0,Value.int .u32 0] [i64 x,Value.int .u32 ((A3.cf x:Nat):Int)]
  generalize hB:H4.size=hb at*
  generalize (H4.new 114 [Value.int .i64 0,Value.int .u32 0]).wr hb [i64 x,Value.int .u32 ((A3.cf x:Nat):Int)]=H5 at*
  have m5:=m4.ext f5 (fun _ _ h=>h)
  have s5:=s4.ext f5 (fun _ _ h=>h)
  refine v1 (ae m5.o1) ?_
  have ajB:=m5.lt
  have afn:¬S4 hb:=fun h=>by have:=st4.slt _ h;omega
  refine(qI m5.st j4.hs).mono ?_
  have hw4:(wo t.bX t.a).length+1=t.bX.length:=by
   have:=(BA YS la.m).length_eq
   rw[ams]at this;omega
  rintro _ H6 (⟨h0,_⟩| ⟨x',y',xi,MR,rfl,S6,st6,e6,YT⟩)
  ·exact absurd h0 (j4.ne0 (fun e=>by rw[e]at hw4;simp at hw4;omega))
  obtain⟨x0',xn',W7,afo,NE,hm'⟩:=j4.first xi MR
  have O8:=QZ.eq (YS.wo _) NE lb
  have j6:=j4.take (by omega) ⟨x0',xn'⟩ (by rw[←afo];exact MR) NE hm'
  rw[O8]at j6
  have m6:=m5.to st6 e6 YT
  have W8:¬S6 ub:=fun h=>(YT _ h).elim aaV (fun h=>by have:=s5.lt;omega)
  have s6:=s5.ext e6 (fun b hb=>by injection hb with hb;rw[←hb];exact aaV)
  have b6:=e6.own b5 afn
  have z6:=e6.size
  have hx3:=x3.size
  have y6:ai S H H6:=⟨by omega,fun z hz hn=>by rw[e6.aN z (by omega) (fun h=>(Q5 z h).elim hn (fun h=>by omega)),f5.aN z (by omega) (fun h=>h),y4.aN z hz hn]⟩
  have YT:∀z,S6 z→S z∨H.size≤z:=fun z hz=>(YT z hz).elim (Q5 z) (fun h=>.inr (by omega))
  refine vs ?_
  obtain⟨f7,b7,z7⟩:=MU H6 114 [Value.int .i64 0,Value.int .u32 0] [i64 x',Value.int .u32 (((A3.back x).cf x':Nat):Int)]
  generalize hC:H6.size=hc at*
  generalize (H6.new 114 [Value.int .i64 0,Value.int .u32 0]).wr hc [i64 x',Value.int .u32 (((A3.back x).cf x':Nat):Int)]=H7 at*
  have m7:=m6.ext f7 (fun _ _ h=>h)
  have s7:=s6.ext f7 (fun _ _ h=>h)
  have b8:=f7.own b6 (fun h=>h)
  have y7:=y6.trans (f7.mono fun z _ h=>h.elim)
  have k1:id<N:=by
   have e1:=hI.lt _ la.m
   rw[←Uv]at e1
   simp only at e1
   omega
  have k2:W7<N:=by
   have e1:=hI.lt _ Dj
   rw[←O8]at e1
   simp only at e1
   omega
  have s7':=s7
  obtain⟨_,ll,cc,hv,ho7,hc7,hc8,_⟩:=s7'
  injection hv with F6 D9 hv3
  subst hv3
  refine v3 (ae m7.o2) (ae b8) (ae b7) ?_
  refine⟨El _ _,?_⟩
  refine xF.look m7.m (a:=(x,A3.cf x)) hm ?_
  refine v3 (ae m7.o2) (ae b8) (ae b7) ?_
  refine⟨El _ _,?_⟩
  refine xF.look m7.m (a:=(x',(A3.back x).cf x')) hm' ?_
  refine vs ?_
  refine⟨⟨by omega,by omega⟩,?_⟩
  refine v4 ho7 Int.toNat_natCast ama al6 ?_
  refine⟨by omega,?_⟩
  have e8:ai (fun z=>z=ub) H7 (H7.wr ub (ll.set id (i64 ((ws.length+k:Nat):Int)))):=(ai.refl (fun z=>z=ub) _).wr (fun _=>rfl) _
  have o8:(H7.wr ub (ll.set id (i64 ((ws.length+k:Nat):Int)))).own ub=some (ll.set id (i64 ((ws.length+k:Nat):Int))):=aj ho7
  have s8:=s7.vX ho7 id (i64 ((ws.length+k:Nat):Int))
  rw[map_set _ k1]at s8
  refine vs ?_
  refine⟨⟨by omega,by omega⟩,?_⟩
  refine v4 o8 Int.toNat_natCast ama al6 ?_
  refine⟨by rw[al8];omega,?_⟩
  refine vs ?_
  generalize pJ:ll.set id (i64 ((ws.length+k:Nat):Int))=ll8 at*
  have e9:ai (fun z=>z=ub) (H7.wr ub ll8) ((H7.wr ub ll8).wr ub (ll8.set W7 (i64 ((ws.length+k:Nat):Int)))):=(ai.refl (fun z=>z=ub) _).wr (fun _=>rfl) _
  have s9:=s8.vX o8 W7 (i64 ((ws.length+k:Nat):Int))
  rw[map_set _ k2]at s9
  rw[OZ]at e9 s9
  generalize H7.wr ub (ll8.set W7 (i64 ((ws.length+k:Nat):Int)))=H9 at*
  have aaW:∀z,S6 z∨z=H.size∨z=H.size+1+1∨z=H.size+1→z≠ub:=by
   rintro z (hz|hz|hz|hz) e
   ·exact W8 (by rw[←e];exact hz)
   ·omega
   ·omega
   ·omega
  have m9:=(m7.ext e8 (fun z hz e=>aaW z hz e)).ext e9 (fun z hz e=>aaW z hz e)
  have y9:ai S H H9:=⟨amM y7.size (amM e8.size e9.size),fun z hz hn=>by rw[e9.aN z (by have:=e8.size;have:=y7.size;omega) (by omega),e8.aN z (by have:=y7.size;omega) (by omega),y7.aN z hz hn]⟩
  have ahn:0≤t.a.1+t.b.1∧t.a.1+t.b.1≤9223372036854775807:=by
   have SA:¬ ∃i,i<ws.length∧ws.getD i 0<0:=by
    rintro⟨i,hi,h0⟩
    have hm:ws.getD i 0∈ws:=by
     rw[al9,al5 hi]
     exact anW hi
    have:=hf.pos _ hm
    omega
   have HU:∀p∈t.bX,0≤p.1:=by
    intro p hp
    rw[←YJ p hp]
    refine Ld fun i hi=>?_
    split
    ·apply amr
     intro h0
     exact SA ⟨i,hi,by omega⟩
    ·exact anT _
   have h1:=HU _ la.m
   have h2:=HU _ Dj
   rcases W6 _ la.m _ Dj zQ with h|h
   ·rw[Qk]at h
    have:=hf.sum
    omega
   ·exact absurd h SA
  have Vf:y.2.1=t.a.1:=by rw[←Uv]
  have PS:y'.2.1=t.b.1:=by rw[←O8]
  rw[Vf,PS,wrap64 (n:=t.a.1+t.b.1) (by omega) (by omega)]
  refine⟨by kernel_rfl,?_⟩
  have hw6:(wo (wo t.bX t.a) t.b).length+2=t.bX.length:=by
   have:=(BA (YS.wo _) lb.m).length_eq
   rw[ams]at this;omega
  refine ah.mono (by simpa using tB m9 j6 (by omega) (by omega) (t.a.1+t.b.1)) ?_
  rintro _ H10 ⟨rfl,S10,w10,A10,L10,m10,j10,e10,aaY⟩
  refine vs ?_
  rw[wrap64 (n:=((ws.length+k:Nat):Int)+1) (by omega) (by omega)]
  have hz9:=y9.size
  have hs9:=s9.lt
  refine⟨ws.length - 1 - (k+1),by omega,k+1,S10,w10,A10,L10,rfl,by omega,?_,?_,?_,?_,?_,?_,?_⟩
  ·rw[show((ws.length+(k+1):Nat):Int)=((ws.length+k:Nat):Int)+1 by omega];exact m10
  ·rw[SD]
   have:t.step.bX=wo (wo t.bX t.a) t.b++[(t.a.1+t.b.1,ws.length+k)]:=by unfold Jl.step;rw[oU]
   rw[this]
   exact j10
  ·rw[SD]
   have:(fun(i:Nat)=>i64 (t.step.up i:Int))=fun j=>if j=W7 then i64 ((ws.length+k:Nat):Int)else if j=id then i64 ((ws.length+k:Nat):Int)else i64 (t.up j:Int):=by
    funext j
    have e1:t.a.2=id:=by rw[←Uv]
    have e2:t.b.2=W7:=by rw[←O8]
    show i64 ((if j=t.a.2∨j=t.b.2 then t.at_ else t.up j:Nat):Int)=_
    rw[e1,e2,oU]
    by_cases h1:j=W7
    ·rw[if_pos (.inr h1),if_pos h1]
    ·by_cases h2:j=id
     ·rw[if_pos (.inl h2),if_neg h1,if_pos h2]
     ·rw[if_neg (by omega),if_neg h1,if_neg h2]
   rw[this]
   exact s9.ext e10 (fun b hb=>by injection hb with hb;rw[←hb];rintro(h|h);exact W8 h;omega)
  ·intro h
   rcases aaY ub h with h|h
   ·exact W8 h
   ·omega
  ·exact⟨amM y9.size e10.size,fun z hz hn=>by rw[e10.aN z (by omega) (fun h=>by rcases h with h|h;exact(YT z h).elim hn (fun h=>by omega);omega),y9.aN z hz hn]⟩
  ·intro z hz
   rcases aaY z hz with h|h
   ·exact YT z h
   ·exact .inr (by omega)
  ·rw[show((ws.length+(k+1):Nat):Int)=((ws.length+k:Nat):Int)+1 by omega]
 ·have OD:k+1=ws.length:=by omega
  refine⟨ub,rfl,by omega,?_,x3⟩
  unfold yg
  rw[show ws.length - 1=k by omega,hT]
  exact s3
instance(ws:List Int):Decidable (gA ws):=decidable_of_iff (1≤ws.length∧ws.length≤4096∧(∀x∈ws,1≤x)∧ws.sum≤9223372036854775807) ⟨fun⟨a,b,c,d⟩=>⟨a,b,c,d⟩,fun h=>⟨h.n1,h.n2,h.pos,h.sum⟩⟩
theorem Bg:∀ (l:List Int),(∀x∈l,1≤x)→0≤l.sum:=by
 intro l
 induction l with
 |nil=>intro _;exact anT _
 |cons a r ih=>
  intro h
  have h1:=h a (by simp)
  have h2:=ih (fun x hx=>h x (by simp[hx]))
  rw[anN]
  omega
theorem EQ{ws:List Int}(h:∀x∈ws,1≤x)(j:Nat):(ws.take j).sum≤ws.sum:=by
 have h1:ws.sum=(ws.take j).sum+(ws.drop j).sum:=by rw[←List.sum_append,anK]
 have h2:=Bg (ws.drop j) (fun x hx=>h x (List.mem_of_mem_drop hx))
 omega
theorem zN{ws:List Int}{j:Nat}{x:Int}(hx:ws[j]? =some x):(ws.take (j+1)).sum=(ws.take j).sum+x:=by
 rw[amG,hx,List.sum_append]
 show _+[x].sum=_
 rw[anN,List.sum_nil]
 omega
theorem rE{H:Hp}{a:Option Addr}{c:Nat}{ws:List Int}(h:ep H 1 (.slice a ws.length c) ws.length (ws.map i64))(hb:∀x∈ws,x≤9223372036854775807):ah Tryz.prog Gj [.slice a ws.length c] H fun v H'=>ay (v= .bool (decide (gA ws))∧H'=H):=by
 refine be Gp ⟨rfl,?_⟩
 refine v1 qi.eq_1 ?_
 refine ak.dec (fun h1=>?_) (fun h1=>?_)<;>refine v1 amp ?_
 ·have Qm:¬gA ws:=fun hf=>by have:=hf.n1;omega
  rw[amm Qm]
  exact⟨rfl,rfl⟩
 refine ak.dec (fun h1'=>?_) (fun h1'=>?_)<;>refine v1 amp ?_
 ·have Qm:¬gA ws:=fun hf=>by have:=hf.n2;omega
  rw[amm Qm]
  exact⟨rfl,rfl⟩
 refine bA.intro (fun m env H'=>∃j:Nat,m=ws.length - j∧j≤ws.length∧H'=H∧(∀x∈ws.take j,1≤x)∧(ws.take j).sum≤9223372036854775807∧env=[(3,i64 (9223372036854775807 - (ws.take j).sum)),(14,.slice a ws.length c),(15,i64 ws.length),(16,i64 j)]) ws.length ⟨0,by omega,by omega,rfl,by simp,by simp,by simp⟩ ?_
 rintro m env H1 ⟨j,rfl,hj,rfl,hp,hs,rfl⟩
 refine vs ?_
 refine ak.dec (fun aR=>?_) (fun aR=>?_)<;>refine vs ?_
 ·have kJ:j<ws.length:=by omega
  obtain⟨x,hx⟩:∃x,ws[j]? =some x:=⟨_,al5 kJ⟩
  obtain⟨_,b,o,lb,rfl,D4,bE⟩:=ep.num h hx
  have Pt:=amb hx
  have hxb:=hb x Pt
  have Vz:=zN hx
  have PV:=Bg _ hp
  refine⟨⟨by omega,by omega⟩,?_⟩
  refine v4 D4 Int.toNat_natCast ama bE ?_
  refine ak.dec (fun h2=>?_) (fun h2=>?_)<;>refine v1 amp ?_
  ·have Qm:¬gA ws:=fun hf=>by have h3:=hf.pos x Pt;omega
   rw[amm Qm]
   exact⟨rfl,rfl⟩
  refine ak.dec (fun Nr=>?_) (fun Nr=>?_)<;>refine v1 amp ?_
  ·have Qm:¬gA ws:=fun hf=>by
    have h4:=EQ hf.pos (j+1)
    have h5:=hf.sum
    omega
   rw[amm Qm]
   exact⟨rfl,rfl⟩
  ·rw[wrap64 (n:=9223372036854775807 - (ws.take j).sum - x) (by omega) (by omega),wrap64 (n:=(j:Int)+1) (by omega) (by omega)]
   refine⟨ws.length - (j+1),by omega,j+1,rfl,by omega,trivial,fun y hy=>?_,by omega,?_⟩
   ·rw[amG,hx,aml]at hy
    rcases hy with hy|hy
    ·exact hp y hy
    ·have:y=x:=by simpa using hy
     omega
   ·rw[Vz,show(9223372036854775807:Int) - (ws.take j).sum - x=9223372036854775807 - ((ws.take j).sum+x) by omega]
    rfl
 ·have kJ:j=ws.length:=by omega
  subst kJ
  rw[amB]at hp hs
  refine⟨?_,rfl⟩
  rw[amj ⟨by omega,by omega,hp,hs⟩]
  rfl
def fC(ws:List Int):List Int:=if ws.length=1 then[1]else(tN ws).map fun(n:Nat)=>(n:Int)
def CN(kd dd:Int)(ws:List Int):Int×List Int:=if Ra kd dd≠0 then(Ra kd dd,[])else if gA ws then(0,fC ws)else(201,[])
theorem CO(ws:List Int):(fC ws).length=ws.length:=by
 unfold fC
 split
 ·rename_i h;simp[h]
 ·rw[amu,Rx]
def SE(H:Hp)(sv:Value)(ls:List Int):Prop:=∃a c,sv= .slice a ls.length c∧ep H 1 sv ls.length (ls.map i64)
theorem SE.nil(H:Hp):SE H (.slice none 0 0) []:=⟨none,0,rfl,rfl,.inl ⟨rfl,none,0,rfl⟩⟩
theorem Sl.W9{H H':Hp}{size n:Nat}{v:Value}{xs:List Value}{fp:Option Nat}(h:Sl H size v n xs fp)(e:ax H H'):Sl H' size v n xs fp:=h.ext e (fun _ _ h=>h)
theorem JD{N:Nat}{f:Nat→Value}{i:Nat}(hi:i<N):((List.range N).map f)[i]? =some (f i):=by
 rw[amo,am8 hi];rfl
set_option maxRecDepth 100000 in
set_option maxHeartbeats 4000000 in
theorem ik{H:Hp}(kd dd:Int)(Df:l9 kd dd→EP kd dd){a:Option Addr}{c:Nat}{ws:List Int}(h:ep H 1 (.slice a ws.length c) ws.length (ws.map i64))(hb:∀x∈ws,x≤9223372036854775807):
  ah Tryz.prog BH [NB kd dd,.slice a ws.length c] H fun v H'=>ay (∃sv,v= .tuple [sv,i64 (CN kd dd ws).1].toArray∧SE H' sv (CN kd dd ws).2∧ax H H'):=by
 refine be BY ⟨rfl,?_⟩
 refine v1 lj.eq_1 ?_
 have f0:ax H (H.new 23 [i64 kd,i64 dd]):=(ai.refl _ _).new _ _
 have o0:(H.new 23 [i64 kd,i64 dd]).own H.size=some [i64 kd,i64 dd]:=aG _ _ _
 generalize H.new 23 [i64 kd,i64 dd]=H0 at*
 refine(qJ kd dd H0).mono ?_
 rintro _ H1 ⟨rfl,f1⟩
 have o1:=f1.own o0 (fun h=>h)
 have g1:=f0.trans f1
 refine vs ?_
 refine ak.dec (fun hc=>?_) (fun hc=>?_)<;>refine vs ?_
 rotate_left
 ·have hA:CN kd dd ws=(Ra kd dd,[]):=by unfold CN;rw[if_pos hc]
  rw[hA]
  exact⟨_,rfl,SE.nil _,g1⟩
 have hK:=LV.1 hc
 refine(rE (h.fresh g1) hb).mono ?_
 rintro _ H1' ⟨rfl,e⟩
 obtain rfl:=e.symm
 refine vs ?_
 by_cases hF:gA ws
 rotate_left
 ·rw[amm hF]
  refine v1 amp ?_
  have hA:CN kd dd ws=(201,[]):=by unfold CN;rw[if_neg (by omega),if_neg hF]
  rw[hA]
  exact⟨_,rfl,SE.nil _,g1⟩
 rw[amj hF]
 have hA:CN kd dd ws=(0,fC ws):=by unfold CN;rw[if_neg (by omega),if_pos hF]
 rw[hA]
 have Dk:=hF.n1
 have zD:=hF.n2
 refine v1 amp ?_
 refine ak.dec (fun h1=>?_) (fun h1=>?_)<;>refine vs ?_
 ·have hw:fC ws=[1]:=by unfold fC;rw[if_pos (by omega)]
  rw[hw]
  refine⟨_,rfl,⟨_,_,rfl,(Sl.dE (n:=1) (xs:=[i64 1]) rfl rfl).rd⟩,g1.trans ((ai.refl _ _).new _ _)⟩
 have h2:2≤ws.length:=by omega
 refine v1 (ae o1) ?_
 refine(Kt hK (Df hK) (cap:=(ws.length:Int)) (mo:=4294967295) ⟨by omega,by omega⟩ ⟨by omega,by omega⟩ H1).mono ?_
 rintro _ H2 ⟨s,S,rfl,st,f2,hS⟩
 have g2:=g1.trans f2
 have Up:∀z,S z→H.size≤z:=fun z hz=>by have:=hS z hz;have:=g1.size;omega
 refine vs ?_
 refine(zw st (fun H' e=>h.fresh (g2.then e Up)) hF h2).mono ?_
 rintro _ H3 ⟨ub,rfl,hub,su,e3⟩
 have g3:=g2.then e3 Up
 obtain⟨N,hN⟩:∃N:Nat,N=2*ws.length - 1:=⟨_,rfl⟩
 rw[←hN]at su ⊢
 refine v1 Int.toNat_natCast ?_
 refine⟨⟨by omega,by omega,by omega,by omega⟩,?_⟩
 have E:=Lb.K9 Dk
 have E0:=E.up
 have afs:=E.Po
 have hEd:tN ws=(List.range ws.length).map (yg ws).d:=rfl
 generalize yg ws=t at*
 refine v1 Int.toNat_natCast ?_
 have fn:ax H3 (H3.new 3 (cR [i64 0] N)):=(ai.refl _ _).new _ _
 have sd:Sl (H3.new 3 (cR [i64 0] N)) 1 (.slice (some ⟨H3.size,0,none⟩) N N) N ((List.range N).map fun j=>if N - 1≤j then i64 (t.d j:Int)else i64 0) (some H3.size):=by
  rw[xz,List.map_replicate,show((List.range N).map fun j=>if N - 1≤j then i64 (t.d j:Int)else i64 0)=List.replicate N (i64 0)from ?_]
  ·exact Sl.lit H3 _ 1 N _ (by simp)
  ·apply amN
   intro j
   rw[amo,am9]
   by_cases hj:j<N
   ·rw[am8 hj,if_pos hj,Option.map_some]
    by_cases kJ:N - 1≤j
    ·rw[if_pos kJ,show j=2*ws.length - 2 by omega,afs];rfl
    ·rw[if_neg kJ]
   ·rw[amk (by simp;omega),if_neg hj];rfl
 have hdb:ub<H3.size:=su.lt
 have su2:=Sl.W9 su fn
 have g4:=g3.trans fn
 have WH:=g3.size
 generalize hD:H3.size=db at*
 generalize H3.new 3 (cR [i64 0] N)=H4 at*
 rw[wrap64 (n:=(N:Int) - 2) (by omega) (by omega)]
 refine bA.intro (fun mm env H'=>∃r:Nat,mm=r∧r≤N - 1∧ai (fun z=>z=db) H4 H'∧Sl H' 1 (.slice (some ⟨db,0,none⟩) N N) N ((List.range N).map fun j=>if r≤j then i64 (t.d j:Int)else i64 0) (some db)∧
  env=[(7,i64 ws.length),(10,.slice (some ⟨ub,0,none⟩) N N),(11,.slice (some ⟨db,0,none⟩) N N),(12,i64 ((r:Int) - 1))]) (N - 1) ⟨N - 1,rfl,ami _,ai.refl _ _,sd,by rw[show(((N - 1:Nat):Int) - 1)=(N:Int) - 2 by omega]⟩ ?_
 clear sd
 rintro mm env H5 ⟨r,e0,hr,e5,s5,rfl⟩
 obtain rfl:=e0.symm
 have su5:=su2.ext e5 (fun b hb=>by injection hb with hb;omega)
 have g5:ax H H5:=g4.then e5 (fun z hz=>by omega)
 refine vs ?_
 refine ak.dec (fun Sp=>?_) (fun Sp=>?_)<;>refine vs ?_
 ·obtain⟨i,rfl⟩:∃i,r=i+1:=⟨r - 1,by omega⟩
  obtain⟨u1,u2,u3⟩:=E0 i (by omega)
  have k1:=JD (N:=N) (f:=fun i=>i64 (t.up i:Int)) (i:=i) (by omega)
  have k2:=JD (N:=N) (f:=fun j=>if i+1≤j then i64 (t.d j:Int)else i64 0) (i:=t.up i) (by omega)
  rw[if_pos (by omega)]at k2
  have aft:=su5
  have s5':=s5
  obtain⟨_,lu,cu,hv,hou,VA,Ui,_⟩:=aft
  injection hv with _ _ hv
  subst hv
  obtain⟨_,ld,cd,hv,YU,hd1,oW,_⟩:=s5'
  injection hv with _ _ hv
  subst hv
  have c1:=Sl.get su5 hou k1
  have c2:=Sl.get s5 YU k2
  have Fw:(((i+1:Nat):Int) - 1)=(i:Int):=by omega
  rw[Fw]
  have hdl:=E.dl (t.up i) (by have:=E.at_;omega)
  refine⟨⟨by omega,by omega⟩,?_⟩
  refine v5 (ae hou) Int.toNat_natCast ama al6 c1 ?_
  refine⟨⟨by omega,by omega⟩,?_⟩
  refine v5 (ae YU) Int.toNat_natCast ama al6 c2 ?_
  refine⟨⟨by omega,by omega⟩,?_⟩
  refine v4 YU Int.toNat_natCast ama al6 ?_
  rw[wrap64 (n:=(t.d (t.up i):Int)+1) (by omega) (by omega)]
  refine⟨by omega,?_⟩
  have e6:ai (fun z=>z=db) H5 (H5.wr db (ld.set i (i64 ((t.d (t.up i):Int)+1)))):=(ai.refl (fun z=>z=db) _).wr (fun _=>rfl) _
  have s6:=s5.vX YU i (i64 ((t.d (t.up i):Int)+1))
  rw[map_set _ (by omega:i<N)]at s6
  refine vs ?_
  rw[wrap64 (n:=(i:Int) - 1) (by omega) (by omega)]
  refine⟨i,by omega,i,rfl,by omega,e5.trans e6,?_,rfl⟩
  have:(fun j=>if j=i then i64 ((t.d (t.up i):Int)+1)else if i+1≤j then i64 (t.d j:Int)else i64 0)=fun j=>if i≤j then i64 (t.d j:Int)else i64 0:=by
   funext j
   by_cases hj:j=i
   ·rw[if_pos hj,if_pos (by omega),hj,u3];rfl
   ·rw[if_neg hj]
    by_cases kJ:i+1≤j
    ·rw[if_pos kJ,if_pos (by omega)]
    ·rw[if_neg kJ,if_neg (by omega)]
  rw[this]at s6
  exact s6
 ·have hr0:r=0:=by omega
  subst hr0
  have hlw:fC ws=(tN ws).map fun(n:Nat)=>(n:Int):=by unfold fC;rw[if_neg (by omega)]
  obtain⟨q0,ld,cd,hv,YU,hd1,oW,FN⟩:=s5
  injection hv with _ _ hv
  subst hv
  refine⟨⟨by omega,by omega,by omega,by omega⟩,?_⟩
  refine v1 Int.toNat_natCast ?_
  have pJ:(fC ws).length=ws.length:=CO ws
  rw[if_neg (by omega)]
  refine⟨_,rfl,⟨some ⟨db,0,none⟩,ws.length,?_,?_⟩,g5⟩
  ·rw[pJ]
   simp[Addr.add]
  ·rw[pJ]
   refine⟨by rw[amu,pJ,ama],.inr ⟨db,0,ws.length,ld,by simp[Addr.add],ae YU,by omega,?_⟩⟩
   rw[List.drop_zero,ama]
   have h6:ld.take ws.length=(ld.take (N*1)).take ws.length:=by rw[an7,show min ws.length (N*1)=ws.length by omega]
   rw[h6,FN,hlw,hEd,anJ,anJ,←List.map_take,List.take_range,show min ws.length N=ws.length by omega]
   refine anE fun j _=>?_
   rw[if_pos (anS _)]
   rfl
def I4(s:Int×Nat):Value:=.agg [i64 s.1,u64 s.2].toArray
def CP(S:Int):Int×Nat:=(S / 18446744073709551616,(S%18446744073709551616).toNat)
theorem Mc{S T:Int}(h:CP S=CP T):S=T:=by
 unfold CP at h
 injection h with h1 h2
 omega
set_option maxHeartbeats 1000000 in
theorem FO{H:Hp}{a:Option Addr}{c:Nat}{xs:List Int}(f:FuncId)(tu:List Value)(q:Int→Bool)(Inv:Hp→Prop)(hI:Inv H)(mu:∀H',Inv H'→ep H' 1 (.slice a xs.length c) xs.length (xs.map i64))(FD:eV Tryz.prog f=true)
  (hf:∀H' x,x∈xs→Inv H'→ah Tryz.prog f (i64 x::tu) H' fun v GF=>ay (v= .bool (q x)∧Inv GF))(hm:xs.length≤1000000000):
  ah Tryz.prog gH [.slice a xs.length c,.func (.func f) #[] tu.toArray] H fun v H'=>ay (∃i:Int,v=i64 i∧(0≤i↔xs.any q=true)∧Inv H'):=by
 refine be gL ⟨rfl,?_⟩
 refine v1 cK.eq_1 ?_
 refine bA.intro (fun m env H'=>Inv H'∧∃j:Nat,m=xs.length - j∧j≤xs.length∧(∀e∈xs.take j,q e=false)∧env=[(0,.slice a xs.length c),(1,.func (.func f) #[] tu.toArray),(7,i64 xs.length),(8,i64 j)]) xs.length ⟨hI,0,by omega,by omega,by simp,rfl⟩ ?_
 rintro m env H1 ⟨i1,j,hmj,hj,fZ,rfl⟩
 have h1:=mu H1 i1
 refine vs ?_
 refine ak.dec (fun aR=>?_) (fun aR=>?_)<;>refine vs ?_
 ·have kJ:j<xs.length:=by omega
  obtain⟨e,he⟩:∃e,xs[j]? =some e:=⟨_,al5 kJ⟩
  obtain⟨_,b,o,lb,rfl,D4,bE⟩:=ep.num h1 he
  refine⟨⟨by omega,by omega⟩,?_⟩
  have cF:=amb he
  refine v4 D4 Int.toNat_natCast ama bE ?_
  refine⟨FD,?_⟩
  refine ah.mono (by simpa using hf H1 e cF i1) ?_
  rintro _ H2 ⟨rfl,i2⟩
  refine vs ?_
  cases hx:q e
  ·refine vs ?_
   rw[wrap64 (n:=(j:Int)+1) (by omega) (by omega)]
   refine⟨xs.length - (j+1),by omega,i2,j+1,rfl,by omega,?_,rfl⟩
   intro e' tL
   rw[amG,he]at tL
   rcases aml.1 tL with tL|tL
   ·exact fZ e' tL
   ·have:e'=e:=by simpa using tL
    rw[this];exact hx
  ·refine vs ?_
   exact⟨j,rfl,⟨fun _=>List.any_eq_true.2 ⟨e,cF,hx⟩,fun _=>by omega⟩,i2⟩
 ·refine⟨-1,rfl,?_,i1⟩
  have kJ:j=xs.length:=by omega
  subst kJ
  rw[amB]at fZ
  have:xs.any q=false:=aoj.2 fun e he=>by rw[fZ e he];simp
  rw[this]
  simp
theorem qP{H:Hp}{a:Option Addr}{c:Nat}{xs:List Int}(f:FuncId)(tu:List Value)(q:Int→Bool)(Inv:Hp→Prop)(hI:Inv H)(mu:∀H',Inv H'→ep H' 1 (.slice a xs.length c) xs.length (xs.map i64))(FD:eV Tryz.prog f=true)
  (hf:∀H' x,x∈xs→Inv H'→ah Tryz.prog f (i64 x::tu) H' fun v GF=>ay (v= .bool (q x)∧Inv GF))(hm:xs.length≤1000000000):
  ah Tryz.prog nD [.slice a xs.length c,.func (.func f) #[] tu.toArray] H fun v H'=>ay (v= .bool (xs.any q)∧Inv H'):=by
 refine be nK ⟨rfl,?_⟩
 refine v1 da.eq_1 ?_
 refine(FO f tu q Inv hI mu FD hf hm).mono ?_
 rintro _ H1 ⟨i,rfl,hi,i1⟩
 refine vs ?_
 refine⟨amt Value.bool ?_,i1⟩
 cases hx:xs.any q
 ·rw[hx]at hi
  exact amm (fun h=>by cases hi.1 h)
 ·rw[hx]at hi
  exact amj (hi.2 rfl)
theorem FP{H:Hp}{a a':Option Addr}{c c':Nat}{xs ys:List Int}(h:ep H 1 (.slice a xs.length c) xs.length (xs.map i64))(h':ep H 1 (.slice a' ys.length c') ys.length (ys.map i64))(hm:xs.length≤1000000000000):
  ah Tryz.prog JW [.slice a xs.length c,.slice a' ys.length c'] H fun v H'=>ay (v= .bool (decide (xs=ys))∧H=H'):=by
 refine be J2 ⟨rfl,?_⟩
 refine v1 tV.eq_1 ?_
 refine ak.dec (fun h2=>?_) (fun h2=>?_)
 rotate_left
 ·refine vs ?_
  exact⟨by rw[amm (p:=xs=ys) (fun e=>h2 (by rw[e]))];rfl,rfl⟩
 refine vs ?_
 refine bA.intro (fun k env H'=>H'=H∧∃j:Nat,k=xs.length - j∧j≤xs.length∧xs.take j=ys.take j∧env=[(0,.slice a xs.length c),(1,.slice a' ys.length c'),(12,i64 xs.length),(13,i64 j)]) xs.length ⟨rfl,0,by omega,by omega,rfl,rfl⟩ ?_
 rintro k env _ ⟨rfl,j,hk,hj,htk,rfl⟩
 refine vs ?_
 refine ak.dec (fun aR=>?_) (fun aR=>?_)<;>refine vs ?_
 ·have kJ:j<xs.length:=by omega
  obtain⟨x,hx⟩:∃e,xs[j]? =some e:=⟨_,al5 kJ⟩
  obtain⟨y,hy⟩:∃e,ys[j]? =some e:=⟨_,al5 (by omega)⟩
  obtain⟨_,b,o,lb,rfl,mu,bE⟩:=ep.num h hx
  obtain⟨_,b',o',Vr,rfl,SF,Hl⟩:=ep.num h' hy
  refine⟨⟨by omega,by omega⟩,?_⟩
  refine v4 mu Int.toNat_natCast ama bE ?_
  refine⟨⟨by omega,by omega⟩,?_⟩
  refine v4 SF Int.toNat_natCast ama Hl ?_
  refine ak.dec (fun h3=>?_) (fun h3=>?_)<;>refine vs ?_
  ·rw[wrap64 (n:=(j:Int)+1) (by omega) (by omega)]
   exact⟨xs.length - (j+1),by omega,trivial,j+1,rfl,by omega,by rw[amG,amG,hx,hy,htk,h3],rfl⟩
  ·refine⟨?_,rfl⟩
   rw[amm (fun e2=>h3 (by rw[e2,hy]at hx;injection hx with hx;exact hx.symm))]
   rfl
 ·have kJ:j=xs.length:=by omega
  subst kJ
  rw[amB,List.take_of_length_le (by omega)]at htk
  exact⟨by rw[amj htk];rfl,rfl⟩
theorem Em{H:Hp}{a:Option Addr}{c:Nat}{ws:List Int}(h:ep H 1 (.slice a ws.length c) ws.length (ws.map i64))(hb:∀x∈ws,x≤9223372036854775807)(hm:ws.length≤9223372036854775807):ah Tryz.prog If [.slice a ws.length c] H fun v H'=>ay (v= .bool (decide (gA ws))∧H'=H):=by
 refine be Is ⟨rfl,?_⟩
 refine v1 rQ.eq_1 ?_
 refine bA.intro (fun m env H'=>∃j:Nat,m=ws.length - j∧j≤ws.length∧H'=H∧(∀x∈ws.take j,1≤x)∧(ws.take j).sum≤9223372036854775807∧env=[(0,.slice a ws.length c),(3,i64 (9223372036854775807 - (ws.take j).sum)),(6,.slice a ws.length c),(7,i64 ws.length),(8,i64 j)]) ws.length ⟨0,by omega,by omega,rfl,by simp,by simp,by simp⟩ ?_
 rintro m env H1 ⟨j,rfl,hj,rfl,hp,hs,rfl⟩
 refine vs ?_
 refine ak.dec (fun aR=>?_) (fun aR=>?_)<;>refine vs ?_
 ·have kJ:j<ws.length:=by omega
  obtain⟨x,hx⟩:∃x,ws[j]? =some x:=⟨_,al5 kJ⟩
  obtain⟨_,b,o,lb,rfl,D4,bE⟩:=ep.num h hx
  have Pt:=amb hx
  have hxb:=hb x Pt
  have Vz:=zN hx
  have PV:=Bg _ hp
  refine⟨⟨by omega,by omega⟩,?_⟩
  refine v4 D4 Int.toNat_natCast ama bE ?_
  refine ak.dec (fun h2=>?_) (fun h2=>?_)<;>refine v1 amp ?_
  ·have Qm:¬gA ws:=fun hf=>by have h3:=hf.pos x Pt;omega
   rw[amm Qm]
   exact⟨rfl,rfl⟩
  refine ak.dec (fun Nr=>?_) (fun Nr=>?_)<;>refine v1 amp ?_
  ·have Qm:¬gA ws:=fun hf=>by
    have h4:=EQ hf.pos (j+1)
    have h5:=hf.sum
    omega
   rw[amm Qm]
   exact⟨rfl,rfl⟩
  ·rw[wrap64 (n:=9223372036854775807 - (ws.take j).sum - x) (by omega) (by omega),wrap64 (n:=(j:Int)+1) (by omega) (by omega)]
   refine⟨ws.length - (j+1),by omega,j+1,rfl,by omega,trivial,fun y hy=>?_,by omega,?_⟩
   ·rw[amG,hx,aml]at hy
    rcases hy with hy|hy
    ·exact hp y hy
    ·have:y=x:=by simpa using hy
     omega
   ·rw[Vz,show(9223372036854775807:Int) - (ws.take j).sum - x=9223372036854775807 - ((ws.take j).sum+x) by omega]
    rfl
 ·have kJ:j=ws.length:=by omega
  subst kJ
  rw[amB]at hp hs
  refine ak.dec (fun h1=>?_) (fun h1=>?_)<;>refine v1 amp ?_
  ·refine⟨?_,rfl⟩
   have:gA ws↔(ws.length:Int)≤4096:=⟨fun h=>by have:=h.n2;omega,fun h=>⟨by omega,by omega,hp,hs⟩⟩
   exact amt Value.bool (decide_eq_decide.2 this.symm)
  ·have Qm:¬gA ws:=fun hf=>by have:=hf.n1;omega
   rw[amm Qm]
   exact⟨rfl,rfl⟩
theorem afv{x:Int}(h:(Lit.int .i64 x).wf=true): -9223372036854775808≤x∧x≤9223372036854775807:=by
 have e1:IntKind.i64.min= -9223372036854775808:=rfl
 have e2:IntKind.i64.max=9223372036854775807:=rfl
 simp only[Lit.wf,e1,e2,amX,amQ]at h
 omega
theorem ER{H:Hp}{v:Value}(h:Fq H (false,[.sl [.i .i64]]) v):∃ (ks:List Int) (a:Option Addr) (c:Nat),v= .slice a ks.length c∧ep H 1 (.slice a ks.length c) ks.length (ks.map i64)∧ks.length≤maxLen∧∀x∈ks, -9223372036854775808≤x∧x≤9223372036854775807:=by
 obtain⟨rows,hr,hf,hm,a,c,rfl,hc⟩:=RR h
 obtain⟨ks,h1,h2,h3⟩:=PK hf
 rw[h1]at hr
 rw[←h2]at hr hm ⊢
 exact⟨ks,a,c,rfl,hr,hm,fun x hx=>afv (h3 x hx)⟩
theorem NR{H:Hp}{v:Value}(h:Fq H (true,[.k (.i .i64),.k (.i .i64)]) v):∃x y:Int,v= .agg #[i64 x,i64 y]:=by
 obtain⟨cs,rfl,_,_,rfl,⟨x,rfl,hx⟩,_,_,rfl,⟨y,rfl,hy⟩,rfl⟩:=h
 exact⟨x,y,rfl⟩
structure SB where
 n:Nat
 c:Nat
 t:Nat
 tl:Nat
 mp:Nat
def Hm(T:Int→Int):Int→Option Value:=fun h=>if T h= -1 then none else some (i64 (T h))
structure eA(H:Hp)(B:SB)(C:Nat→Prop)(w:Nw)(L:List Lk)(T:Int→Int):Prop where
 own:H.own B.n=some [ptr B.c,ptr B.t,.map (some B.mp)]
 cells:CQ H B.c C w
 bW:bP H B.t B.tl L
 Po:oH H B.mp (Hm T)
 len:L.length=w.cs.length
 qY:(B.n≠B.t∧B.n≠B.tl∧B.n≠B.mp)∧(B.t≠B.tl∧B.t≠B.mp)∧B.tl≠B.mp
 out:¬C B.n∧¬C B.t∧¬C B.tl∧¬C B.mp
def SB.S(B:SB)(C:Nat→Prop)(z:Nat):Prop:=C z∨z=B.n∨z=B.t∨z=B.tl∨z=B.mp
section
variable {H H' : Hp} {B : SB} {C V : Nat → Prop} {w w' : Nw} {L L' : List Lk} {T : Int → Int}
theorem eA.slt(h:eA H B C w L T):∀z,B.S C z→z<H.size:=by
 rintro z (hz|rfl|rfl|rfl|rfl)
 ·exact h.cells.slt z hz
 ·exact aO h.own
 ·exact aO h.bW.own
 ·exact aO h.bW.nU
 ·exact h.Po.lt
theorem eA.ext(h:eA H B C w L T)(e:ai V H H')(hd:∀z,B.S C z→¬V z):eA H' B C w L T:=
 ⟨e.own h.own (hd _ (.inr (.inl rfl))),h.cells.ext e (fun x hx=>hd x (.inl hx)),h.bW.ext e (hd _ (.inr (.inr (.inl rfl)))) (hd _ (.inr (.inr (.inr (.inl rfl))))),
  h.Po.ext e (hd _ (.inr (.inr (.inr (.inr rfl))))),h.len,h.qY,h.out⟩
theorem eA.fresh(h:eA H B C w L T)(e:ax H H'):eA H' B C w L T:=h.ext e fun _ _ h=>h
theorem eA.aK(h:eA H B C w L T)(c1:CQ H' B.c C w')(e:ai C H H')(hl:w'.cs.length=w.cs.length):eA H' B C w' L T:=by
 obtain⟨o1,o2,o3,o4⟩:=h.out
 exact⟨e.own h.own o1,c1,h.bW.ext e o2 o3,h.Po.ext e o4,by rw[hl];exact h.len,h.qY,h.out⟩
theorem eA.dL(h:eA H B C w L T)(t1:bP H' B.t B.tl L')(e:ai (fun z=>z=B.tl) H H')(hl:L'.length=L.length):eA H' B C w L' T:=by
 obtain⟨o1,o2,o3,o4⟩:=h.out
 obtain⟨⟨d1,d2,d3⟩,⟨d4,d5⟩,d6⟩:=h.qY
 exact⟨e.own h.own d2,h.cells.ext e (fun x hx hz=>o3 (hz▸hx)),t1,h.Po.ext e (Ne.symm d6),by rw[hl];exact h.len,h.qY,h.out⟩
theorem eA.nV(h:eA H B C w L T){T':Int→Int}(t1:oH H' B.mp (Hm T'))(e:ai (fun z=>z=B.mp) H H'):eA H' B C w L T':=by
 obtain⟨o1,o2,o3,o4⟩:=h.out
 obtain⟨⟨d1,d2,d3⟩,⟨d4,d5⟩,d6⟩:=h.qY
 exact⟨e.own h.own d3,h.cells.ext e (fun x hx hz=>o4 (hz▸hx)),h.bW.ext e d5 d6,t1,h.len,h.qY,h.out⟩
theorem SG(T:Int→Int)(h x:Int):(x= -1→Hm (kT T h x)=Nn (Hm T) h)∧(x≠ -1→Hm (kT T h x)=Ke (Hm T) h (i64 x)):=by
 constructor
 ·rintro rfl
  funext y
  unfold Hm kT Nn
  by_cases hy:y=h
  ·rw[if_pos hy,if_pos rfl,if_pos hy]
  ·rw[if_neg hy,if_neg hy]
 ·intro hx
  funext y
  unfold Hm kT Ke
  by_cases hy:y=h
  ·rw[if_pos hy,if_neg hx,if_pos hy]
  ·rw[if_neg hy,if_neg hy]
theorem oQ(h:eA H B C w L T)(g:Int):ah Tryz.prog BW [ptr B.n,i64 g] H fun v H'=>ay (v=i64 (T g)∧H'=H):=by
 refine be Ci ⟨rfl,?_⟩
 refine v3 lM.eq_1 (ae h.own) h.Po.look ?_
 unfold Hm
 by_cases hg:T g= -1
 ·rw[if_pos hg,hg]
  refine vs ?_
  exact⟨rfl,rfl⟩
 ·rw[if_neg hg]
  refine vs ?_
  exact⟨rfl,rfl⟩
theorem oR(h:eA H B C w L T)(g x:Int):ah Tryz.prog BU [ptr B.n,i64 g,i64 x] H fun v H'=>ay (eA H' B C w L (kT T g x)∧ai (fun z=>z=B.mp) H H'):=by
 obtain⟨h1,h2⟩:=SG T g x
 refine be Cg ⟨rfl,?_⟩
 refine v1 lK.eq_1 ?_
 refine ak.dec (fun hx=>?_) (fun hx=>?_)<;>refine v1 (ae h.own) ?_
 ·refine h.Po.del fun H1 t1 e1=>?_
  rw[←h1 hx]at t1
  refine vs ?_
  exact⟨h.nV t1 e1,e1⟩
 ·refine h.Po.YA fun H1 t1 e1=>?_
  rw[←h2 hx]at t1
  refine vs ?_
  exact⟨h.nV t1 e1,e1⟩
theorem Md{x a:Int}{b:Bool}(he:ix x= .tuple [i64 a,.bool b].toArray):(b=false∧x= -1)∨(b=true∧a=x∧x≠ -1):=by
 have h2:∀ {p q:Int} {r s:Bool},Value.tuple [i64 p,Value.bool r].toArray=Value.tuple [i64 q,Value.bool s].toArray→p=q∧r=s:=fun h=>by
  have h3:=amt Array.toList (Value.tuple.inj h)
  injection h3 with h4 h5
  injection h4 with _ h4
  injection h5 with h5 _
  injection h5 with h5
  exact⟨h4,h5⟩
 unfold ix at he
 split at he
 ·rename_i hx
  exact .inl ⟨(h2 he).2.symm,hx⟩
 ·rename_i hx
  exact .inr ⟨(h2 he).2.symm,(h2 he).1.symm,hx⟩
theorem oS(h:eA H B C w L T)(hb:Bt (aH w) (aV w) (bj L) (bu L)){x a:Int}{b:Bool}(he:ix x= .tuple [i64 a,.bool b].toArray):
  ah Tryz.prog BX [ptr B.n,i64 a,.bool b] H fun v H'=>ay (v=i64 x∧∃L',eA H' B C w L' T∧bj L'=kO (bj L) (bu L) x∧bu L'=c9 (bu L) x∧ai (fun z=>z=B.tl) H H'):=by
 refine be Cj ⟨rfl,?_⟩
 refine v1 lN.eq_1 ?_
 rcases Md he with ⟨rfl,rfl⟩| ⟨rfl,rfl,hx⟩
 ·refine vs ?_
  obtain⟨h1,h2⟩:=BC hb
  exact⟨rfl,L,h,h1.symm,h2.symm,ai.refl _ _⟩
 ·refine v1 (ae h.own) ?_
  refine(cN h.bW (x:=a) (fun hu=>by have:=Cv.up hb hu;have:=h.len;omega)).mono ?_
  rintro _ H1 ⟨rfl,L1,t1,l1,k1,u1,e1⟩
  refine vs ?_
  exact⟨rfl,L1,h.dL t1 e1 l1,k1,u1,e1⟩
set_option maxRecDepth 100000 in
set_option maxHeartbeats 4000000 in
theorem oT(h:eA H B C w L T){g a0 b0:Int}{R:Int→Prop}(m:Mg (aH w) (aV w) g R (bj L) (bu L) [] a0 b0):
  ah Tryz.prog BV [ptr B.n,i64 a0,i64 b0] H fun v H'=>ay (∃r L',v=i64 r∧eA H' B C w L' T∧Mg (aH w) (aV w) g R (bj L') (bu L') [] r (-1)∧
   (∀x0,yj (aV w) (bj L) (bu L) x0 (bj L) (bu L) [] a0 b0→yj (aV w) (bj L) (bu L) x0 (bj L') (bu L') [] r (-1))∧ai (fun z=>C z∨z=B.tl) H H'):=by
 refine be Ch ⟨rfl,?_⟩
 refine v1 lL.eq_1 ?_
 have zp:=h.cells.Fu
 refine bA.intro (fun mm env H'=>∃ (a b:Int) (dP:List Int) (wv:Value) (fp:Option Nat) (L':List Lk),mm=w.cs.length - dP.length∧eA H' B C w L' T∧Mg (aH w) (aV w) g R (bj L') (bu L') dP a b∧
  (∀x0,yj (aV w) (bj L) (bu L) x0 (bj L) (bu L) [] a0 b0→yj (aV w) (bj L) (bu L) x0 (bj L') (bu L') dP a b)∧
  (∀z,fp=some z→H.size≤z)∧Sl H' 1 wv dP.length (dP.map i64) fp∧ai (fun z=>C z∨z=B.tl∨H.size≤z) H H'∧
  env=[(0,ptr B.n),(1,i64 a),(2,i64 b),(7,wv)]) _ ⟨a0,b0,[],_,none,L,rfl,h,m,(fun _ h=>h),(fun z h=>by cases h),Sl.nil _ _,ai.refl _ _,rfl⟩ ?_
 rintro mm env H1 ⟨a,b,dP,wv,fp,L1,rfl,l1,m1,f1,mr,s1,e1,rfl⟩
 have z1:=e1.size
 clear m
 refine vs ?_
 refine ak.dec (fun ga=>?A) (fun ga=>?_)<;>refine vs ?_
 rotate_left
 refine ak.dec (fun gb=>?B) (fun gb=>?_)<;>refine vs ?_
 rotate_left
 ·have o1:=l1.own
  refine v1 (ae o1) ?_
  refine(cJ l1.cells b a).mono ?_
  rintro _ H2 ⟨rfl,c2,e2⟩
  have l2:=l1.aK c2 e2 rfl
  have s2:=s1.ext e2 (fun z hz ez=>by have:=mr z hz;have:=h.slt z (.inl ez);omega)
  have z2:=e2.size
  have ha:=m1.wa.resolve_left ga
  have hb:=m1.wb.resolve_left gb
  have zQ:=jn (w:=w) (a:=b) (b:=a) (by rw[hb.1];exact m1.pos) (by rw[ha.1];exact m1.pos)
  have aT:a≠b:=fun e=>ga (m1.ab e)
  rw[zQ]
  obtain⟨p,q,OF,hl,gp,gq,mm,fm⟩:∃p q,(if aV w b a=true then(p=b∧q=a)else(p=a∧q=b))∧aV w p q=true∧p≠ -1∧q≠ -1∧Mg (aH w) (aV w) g R (bj L1) (bu L1) dP p q∧
    (∀x0,yj (aV w) (bj L) (bu L) x0 (bj L) (bu L) [] a0 b0→yj (aV w) (bj L) (bu L) x0 (bj L1) (bu L1) dP p q):=by
   cases aR:aV w b a
   ·exact⟨a,b,by simp,((aq w).OI a b aT).resolve_right (by rw[aR];simp),ga,gb,m1,f1⟩
   ·exact⟨b,a,by simp,aR,gb,ga,m1.swap,fun x0 h0=>(f1 x0 h0).swap⟩
  have Pu:0<aH w p:=by rw[(mm.wa.resolve_left gp).1];exact mm.pos
  obtain⟨p0,p1,_⟩:=aF Pu
  have m3:=mm.Ry (aq w) gp gq hl
  have f3:=fun x0 h0=>(fm x0 h0).down (aq w) mm.bt gp
  have wl:(dP++[p]).length≤w.cs.length:=bY (m3.nodup (aq w)) fun x hx=>by
   have GM:=(m3.wy x hx).2.1
   have wu:=m3.pos
   obtain⟨x0,x1,_⟩:=aF (w:=w) (x:=x) (by omega)
   exact⟨x0,x1⟩
  rw[amh,amx]at wl
  cases aR:aV w b a<;>simp only[aR,if_true,if_false,anb]at OF<;>obtain⟨rfl,rfl⟩:=OF<;>refine vs ?_
  all_goals
   refine EK (B:=H.size) mr (by omega) s2 p (by omega) fun w' H3 fL oO s3 e3=>?_
   refine vs ?_
   have l3:=l2.ext e3 (fun z hz ez=>by have:=h.slt z hz;omega)
   have o3:=l3.own
   refine v1 (ae o3) ?_
   refine(cA l3.bW p).mono ?_
   rintro _ H' ⟨rfl,e⟩
   obtain rfl:=e.symm
   obtain⟨k1,k2,ek⟩:=cO (bj L1 p true)
   rw[ek]
   refine vs ?_
   refine(oS l3 mm.bt ek).mono ?_
   rintro _ H4 ⟨rfl,L4,l4,Vj,Vk,e4⟩
   have s4:=s3.ext e4 (fun z hz ez=>by have:=oO z hz;have:=h.slt B.tl (.inr (.inr (.inr (.inl rfl))));omega)
   refine vs ?_
   refine⟨w.cs.length - (dP.length+1),by omega,bj L1 p true,q,dP++[p],w',fL,L4,by simp,l4,?_,?_,oO,s4,((e1.trans (e2.mono fun z _ hz=>.inl hz)).trans (e3.mono fun z _ hz=>.inr (.inr hz))).trans (e4.mono fun z _ hz=>.inr (.inl hz)),rfl⟩
   ·rw[Vj,Vk];exact m3
   ·rw[Vj,Vk];exact f3
 case' A=>
  have m2:Mg (aH w) (aV w) g R (bj L1) (bu L1) dP b (-1):=ga▸m1.swap
  have f2:=fun x0 (h0:yj (aV w) (bj L) (bu L) x0 (bj L) (bu L) [] a0 b0)=>(f1 x0 h0).swap
  rw[ga]at f2
  have hr:(if b>a then b else a)=b:=by
   rcases m1.wb with h|h
   ·omega
   ·have hp:=m1.pos
    obtain⟨_,_⟩:=aF (w:=w) (x:=b) (by omega)
    omega
  rw[hr]
  clear hr
  generalize b=r at m2 f2
 case' B=>
  have m2:Mg (aH w) (aV w) g R (bj L1) (bu L1) dP a (-1):=gb▸m1
  have f2:=f1
  rw[gb]at f2
  have hr:(if b>a then b else a)=a:=by
   rcases m1.wa with h|h
   ·omega
   ·have hp:=m1.pos
    obtain⟨_,_⟩:=aF (w:=w) (x:=a) (by omega)
    omega
  rw[hr]
  clear hr
  generalize a=r at m2 f2
 all_goals
  obtain⟨wa,wc,rfl⟩:=Sl.shape s1
  refine vs ?_
  have wl:dP.length≤w.cs.length:=bY (m2.nodup (aq w)) fun x hx=>by
   have GM:=(m2.wy x hx).2.1
   have wu:=m2.pos
   obtain⟨x0,x1,_⟩:=aF (w:=w) (x:=x) (by omega)
   exact⟨x0,x1⟩
  refine bA.intro (fun mm env H'=>∃ (i:Nat) (r:Int) (L':List Lk),mm=i∧i≤dP.length∧eA H' B C w L' T∧Mg (aH w) (aV w) g R (bj L') (bu L') (dP.take i) r (-1)∧
   (∀x0,yj (aV w) (bj L) (bu L) x0 (bj L) (bu L) [] a0 b0→yj (aV w) (bj L) (bu L) x0 (bj L') (bu L') (dP.take i) r (-1))∧
   Sl H' 1 (.slice wa dP.length wc) dP.length (dP.map i64) fp∧ai (fun z=>C z∨z=B.tl∨H.size≤z) H H'∧
   env=[(0,ptr B.n),(7,.slice wa dP.length wc),(8,i64 r),(9,i64 ((i:Int) - 1))]) _ ⟨dP.length,r,L1,rfl,ami _,l1,by rw[amB];exact m2,by rw[amB];exact f2,s1,e1,?_⟩ ?_
  ·rw[wrap64 (by omega) (by omega)]
  rintro mm env H2 ⟨i,r2,L2,hmi,hi,l2,m3,f3,s2,e2,rfl⟩
  obtain rfl:=hmi.symm
  refine vs ?_
  refine ak.dec (fun gi=>?_) (fun gi=>?_)<;>refine vs ?_
  rotate_left
  ·obtain rfl:i=0:=by omega
   exact⟨r2,L2,rfl,l2,by simpa using m3,by simpa using f3,e2.mono fun z hz h=>h.elim .inl fun h=>.inr (by omega)⟩
  obtain⟨j,rfl⟩:∃j,i=j+1:=⟨i - 1,by omega⟩
  obtain⟨v,hv⟩:∃v,dP[j]? =some v:=⟨_,al5 (by omega)⟩
  have tk:dP.take (j+1)=dP.take j++[v]:=by rw[amG,hv];rfl
  rw[tk]at m3 f3
  have m4:=m3.back (aq w)
  have f4:=fun x0 h0=>(f3 x0 h0).back
  obtain⟨v1,v2,v3,v4,v5,v6⟩:=m3.wy v (by simp)
  obtain⟨q1,vb,lb,rfl,q2,q3⟩:=Sl.A6 s2 hv
  have hvb:∃b',fp=some b'∧b'=vb:=by
   cases fp with
   |none=>have:=s2.2.2;injection this with h1;cases h1
   |some b'=>obtain⟨_,_,h1,_⟩:=s2.2;injection h1 with h1;injection h1 with h1;injection h1 with h1;exact⟨b',rfl,h1.symm⟩
  obtain⟨b',rfl,rfl⟩:=hvb
  have hvb:=mr b' rfl
  have Vl:0<aH w v:=by rw[v2];exact m3.pos
  obtain⟨Ww,vv1,_⟩:=aF Vl
  have ji:((((j+1:Nat):Int) - 1)).toNat=j:=by omega
  refine⟨⟨by omega,by omega⟩,?_⟩
  simp(disch:=(first|omega| (simp only[Zs]<;>omega)|fail)) only[go_sem, ↓reduceIte,Zv,ae q2,al6,ama,ji,q3]
  refine ak.dec (fun gr=>?_) (fun gr=>?_)<;>refine vs ?_
  ·rw[if_pos gr,if_pos gr]at m4
   simp only[if_pos gr]at f4
   have f5:=f4
   have l3:=l2
   have m5:=m4
   have s3:=s2
   have e3:=e2
   simp(disch:=(first|omega| (simp only[Zs]<;>omega)|fail)) only[go_sem, ↓reduceIte,Zv,ae l3.own]
   refine(oN l3.bW (p:=v) ⟨Ww,by have:=l3.len;omega⟩).mono ?_
   rintro _ H4 ⟨rfl,L4,t4,Wv,k4,u4,e4⟩
   have l4:=l3.dL t4 e4 Wv
   refine vs ?_
   refine⟨j,by omega,j,v,L4,rfl,by omega,l4,?_,?_,s3.ext e4 (fun z hz ez=>by injection hz with hz;have:=h.slt B.tl (.inr (.inr (.inr (.inl rfl))));omega),e3.trans (e4.mono fun z _ hz=>.inr (.inl hz)),?_⟩
   ·rw[k4,u4];exact m5.yi (aq w)
   ·rw[k4,u4];exact fun x0 h0=>(f5 x0 h0).yi v1
   ·rw[show((j+1:Nat):Int) - 1 - 1=(j:Int) - 1 by omega,wrap64 (by omega) (by omega)]
  ·rw[if_neg gr,if_neg gr]at m4
   simp only[if_neg gr]at f4
   have Bu:=m3.wa.resolve_left gr
   obtain⟨r0,r1,_⟩:=aF (w:=w) (x:=r2) (by rw[Bu.1];exact m3.pos)
   have bm:=l2.len
   have hvr:v≠r2:=fun e=>by have:=v5 gr;rw[e,(aq w).xS]at this;cases this
   simp(disch:=(first|omega| (simp only[Zs]<;>omega)|fail)) only[go_sem, ↓reduceIte,Zv,ae l2.own]
   refine(fG l2.bW (p:=v) (x:=r2) (c:=true) ⟨Ww,by omega⟩ ⟨r0,by omega⟩ hvr Bu.2 v4).mono ?_
   rintro _ H3 ⟨rfl,L3,t3,ll3,kk3,uu3,HQ⟩
   have l3:=l2.dL t3 HQ ll3
   have m5:Mg (aH w) (aV w) g R (bj L3) (bu L3) (dP.take j) v (-1):=by rw[kk3,uu3];exact m4
   have f5:=f4
   rw[←kk3,←uu3]at f5
   have nb:b'≠B.tl:=fun e=>by have:=h.slt B.tl (.inr (.inr (.inr (.inl rfl))));omega
   have s3:=s2.ext HQ (fun z hz ez=>by injection hz with hz;exact nb (hz.trans ez))
   have e3:=e2.trans (HQ.mono fun z _ hz=>.inr (.inl hz))
   refine vs ?_
   simp(disch:=(first|omega| (simp only[Zs]<;>omega)|fail)) only[go_sem, ↓reduceIte,Zv,ae l3.own]
   refine(oN l3.bW (p:=v) ⟨Ww,by have:=l3.len;omega⟩).mono ?_
   rintro _ H4 ⟨rfl,L4,t4,Wv,k4,u4,e4⟩
   have l4:=l3.dL t4 e4 Wv
   refine vs ?_
   refine⟨j,by omega,j,v,L4,rfl,by omega,l4,?_,?_,s3.ext e4 (fun z hz ez=>by injection hz with hz;have:=h.slt B.tl (.inr (.inr (.inr (.inl rfl))));omega),e3.trans (e4.mono fun z _ hz=>.inr (.inl hz)),?_⟩
   ·rw[k4,u4];exact m5.yi (aq w)
   ·rw[k4,u4];exact fun x0 h0=>(f5 x0 h0).yi v1
   ·rw[show((j+1:Nat):Int) - 1 - 1=(j:Int) - 1 by omega,wrap64 (by omega) (by omega)]
end
end Go.Proofs.YtjlnnljohemifaaGreat

namespace Go.Proofs.YtjlnnljohemifaaGreat
open Go Go.Vc
def dS(n:Nat)(H:Hp)(S:Nat→Prop)(w:Nw):Prop:=∃ (B:SB) (C:Nat→Prop) (L:List Lk) (T:Int→Int),B.n=n∧eA H B C w L T∧BB (aH w) (aV w) (bj L) (bu L) T∧∀z,S z↔B.S C z
theorem dS.slt{n:Nat}{H:Hp}{S:Nat→Prop}{w:Nw}(h:dS n H S w):∀z,S z→z<H.size:=by
 obtain⟨B,C,L,T,rfl,m,l,hS⟩:=h
 exact fun z hz=>m.slt z ((hS z).1 hz)
theorem dS.ext{n:Nat}{H H':Hp}{S V:Nat→Prop}{w:Nw}(h:dS n H S w)(e:ai V H H')(hd:∀z,S z→¬V z):dS n H' S w:=by
 obtain⟨B,C,L,T,rfl,m,l,hS⟩:=h
 exact⟨B,C,L,T,rfl,m.ext e (fun z hz=>hd z ((hS z).2 hz)),l,hS⟩
theorem Qn:Hm (fun _=> -1)=fun _=>none:=by
 funext y
 unfold Hm
 rw[if_pos rfl]
theorem I5(cap:Int)(H:Hp):ah Tryz.prog M3 [i64 cap] H fun v H'=>ay (
  ax H H'∧((¬ (0≤cap∧cap≤65536)∧v= .tuple [.pointer none,i64 31].toArray)∨
   ((0≤cap∧cap≤65536)∧∃n S,v= .tuple [ptr n,i64 0].toArray∧dS n H' S (CA cap)∧∀x,S x→H.size≤x))):=by
 refine be M8 ⟨rfl,?_⟩
 refine v1 AB.eq_1 ?_
 refine(nT cap H).mono ?_
 rintro _ H1 ⟨f1,⟨hb,rfl⟩| ⟨hb,c,C,rfl,c1,hC⟩⟩
 ·refine vs ?_
  exact⟨f1,.inl ⟨hb,rfl⟩⟩
 refine v1 amp ?_
 refine(xp H1 hb).mono ?_
 rintro _ H2 ⟨t,tl,rfl,t2,f2,ht,MT⟩
 refine vs ?_
 have zF:=c1.slt
 have z1:=f1.size
 have z2:=f2.size
 have HV:=aO t2.own
 have WI:=aO t2.nU
 have f3:ax H2 (H2.fY.new 282 [ptr c,ptr t,.map (some H2.size)]):=((ai.refl _ _).fY).new _ _
 have e1:ai (fun _=>False) H2.fY (H2.fY.new 282 [ptr c,ptr t,.map (some H2.size)]):=(ai.refl _ _).new _ _
 have ft:=f1.trans (f2.trans f3)
 refine⟨ft,.inr ⟨hb,H2.size+1,(SB.mk (H2.size+1) c t tl H2.size).S C,rfl,⟨⟨H2.size+1,c,t,tl,H2.size⟩,C,_,fun _=> -1,rfl,
  ⟨?_,c1.fresh (f2.trans f3),t2.fresh f3,by rw[Qn];exact(oH.new H2).ext e1 (fun h=>h),?_,?_,?_⟩,BB.none rfl (nX cap) (Cz _) (G0 _) (fun _=>rfl),fun z=>Iff.rfl⟩,fun z hz=>?_⟩⟩
 ·exact bD (by simp only[kC])
 ·simp[CA]
 ·have:=t2.ne
  refine⟨⟨?_,?_,?_⟩,⟨?_,?_⟩,?_⟩<;>simp only<;>omega
 ·refine⟨fun h=>?_,fun h=>?_,fun h=>?_,fun h=>?_⟩<;>(have h2:=zF _ h;first|omega| (simp only at h2;omega))
 ·rcases hz with hz|rfl|rfl|rfl|rfl
  ·exact hC z hz
  all_goals first|omega| (simp only;omega)
theorem Hn{n:Nat}{H:Hp}{B:SB}{C:Nat→Prop}{w:Nw}{L:List Lk}{T:Int→Int}{S:Nat→Prop}(m:eA H B C w L T)(l:BB (aH w) (aV w) (bj L) (bu L) T)(hn:B.n=n)(hS:∀z,S z↔B.S C z):ah Tryz.prog dC [ptr B.c] H fun v H'=>ay (
  (w.hs.length=65537∧v=i64 0∧cC (dS n) S H H' w)∨(w.hs.length≠65537∧v=i64 w.hs.length∧cC (dS n) S H H' w.make)):=by
 subst hn
 refine(lX m.cells).mono ?_
 rintro _ H1 (⟨h1,rfl,rfl⟩| ⟨h1,rfl,C',c1,e1,Ba⟩)
 ·exact .inl ⟨h1,rfl,cC.same ⟨B,C,L,T,rfl,m,l,hS⟩ (ai.refl _ _)⟩
 obtain⟨n1,n2,n3,n4⟩:=m.out
 have slt:=m.slt
 have no:∀z,B.S (fun _=>False) z→¬C z→¬C' z:=fun z hz hn h=>by
  rcases Ba z h with h6|h6
  ·exact hn h6
  ·have:=slt z (hz.elim (fun h=>h.elim) .inr)
   omega
 refine .inr ⟨h1,rfl,B.S C',⟨B,C',L,T,rfl,⟨e1.own m.own n1,c1,m.bW.ext e1 n2 n3,m.Po.ext e1 n4,m.len,m.qY,no _ (.inr (.inl rfl)) n1,no _ (.inr (.inr (.inl rfl))) n2,no _ (.inr (.inr (.inr (.inl rfl)))) n3,no _ (.inr (.inr (.inr (.inr rfl)))) n4⟩,l,fun z=>Iff.rfl⟩,
  e1.mono fun z _ h=>(hS z).2 (.inl h),fun z hz=>?_⟩
 rcases hz with hz|hz
 ·rcases Ba z hz with h6|h6
  ·exact .inl ((hS z).2 (.inl h6))
  ·exact .inr h6
 ·exact .inl ((hS z).2 (.inr hz))
theorem En{n:Nat}{H:Hp}{S:Nat→Prop}{w:Nw}(h:dS n H S w)(g x k s:Int):ah Tryz.prog qe [ptr n,i64 g,i64 x,vV k s] H fun v H'=>ay (
  (¬w.oP g x∧v= .bool false∧cC (dS n) S H H' w)∨(w.oP g x∧v= .bool true∧cC (dS n) S H H' (w.put x (g,k,s)))):=by
 obtain⟨B,C,L,T,rfl,m,l,hS⟩:=h
 have hC:∀z,C z→S z:=fun z h=>(hS z).2 (.inl h)
 have s1:S B.tl:=(hS _).2 (.inr (.inr (.inr (.inl rfl))))
 have s2:S B.mp:=(hS _).2 (.inr (.inr (.inr (.inr rfl))))
 refine be AV ⟨rfl,?_⟩
 refine v1 jY.eq_1 ?_
 have f0:ax H (H.new 224 [i64 k,u64 s]):=(ai.refl _ _).new _ _
 have b0:(H.new 224 [i64 k,u64 s]).own H.size=some [i64 k,u64 s]:=aG _ _ _
 have m0:=m.fresh f0
 generalize H.new 224 [i64 k,u64 s]=H0 at*
 have ff:ai S H H0:=f0.mono fun _ _ h=>h.elim
 refine v2 (ae m0.own) (ae b0) ?_
 refine(nS m0.cells g x k s).mono ?_
 rintro _ H1 (⟨cr,rfl,c1,e1⟩| ⟨tw,rfl,c1,e1⟩)
 ·refine vs ?_
  exact .inl ⟨cr,rfl,cC.same ⟨B,C,L,T,rfl,m0.aK c1 e1 rfl,l,hS⟩ (ff.trans (e1.mono fun z _ hz=>hC z hz))⟩
 obtain⟨hh,hx,bS⟩:=id tw
 have m1:=m0.aK c1 e1 (by simp[Nw.put])
 have hg:=hh.1
 have cU:=fun y=>eC hx (g,k,s) y
 have bo:TO (aH (w.put x (g,k,s))) (aV (w.put x (g,k,s))) (bj L) (bu L) T g x:=by
  refine l.ins rfl (Int.not_lt.1 fun h=>bS (bK.1 h)) (by omega) (by omega) (by rw[cU,if_pos rfl]) (fun y hy=>by rw[cU,if_neg hy]) (fun a b ha hb tM pt=>dG hx _ ha hb tM pt)
 refine vs ?_
 refine(oQ m1 g).mono ?_
 rintro _ H' ⟨rfl,e⟩
 obtain rfl:=e.symm
 refine vs ?_
 refine(oT m1 bo.mg).mono ?_
 rintro _ H2 ⟨r,L2,rfl,m2,g2,_,e2⟩
 refine vs ?_
 refine(oR m2 g r).mono ?_
 rintro _ H3 ⟨m3,e3⟩
 refine vs ?_
 exact .inr ⟨tw,rfl,cC.same ⟨B,C,L2,_,rfl,m3,bo.done g2,hS⟩ (((ff.trans (e1.mono fun z _ h=>hC z h)).trans (e2.mono fun z _ h=>by rcases h with h|rfl;exact hC z h;exact s1)).trans (e3.mono fun z _ h=>h▸s2))⟩
theorem JE{w:Nw}{L:List Lk}{T:Int→Int}(l:BB (aH w) (aV w) (bj L) (bu L) T){g x:Int}(h:w.first g x):T g=x:=by
 obtain⟨h1,h2,h3⟩:=bN.1 h
 have:=l.first (x:=x) (by omega) (fun y hy aT=>h3 y (by omega) aT) (aq w)
 rwa[h2]at this
theorem zO{n:Nat}{H:Hp}{S:Nat→Prop}{w:Nw}(h:dS n H S w)(g:Int):ah Tryz.prog uZ [ptr n,i64 g] H fun v H'=>ay (
  ((w.len g=0∧v= .tuple [i64 0,.bool false].toArray)∨∃x,w.first g x∧v= .tuple [i64 x,.bool true].toArray)∧H'=H):=by
 obtain⟨B,C,L,T,rfl,m,l,hS⟩:=h
 refine be Fh ⟨rfl,?_⟩
 refine v1 oD.eq_1 ?_
 refine(oQ m g).mono ?_
 rintro _ H' ⟨rfl,e⟩
 obtain rfl:=e.symm
 refine vs ?_
 refine ak.dec (fun h0=>?_) (fun h0=>?_)<;>refine vs ?_
 ·refine⟨.inl ⟨?_,rfl⟩,rfl⟩
  by_cases hg:0<g
  ·refine amr fun hl=>?_
   obtain⟨x,hx⟩:=xl hg hl
   have h2:=(bN.1 hx).2.1
   have:=JE l hx
   have:=(aF (w:=w) (x:=x) (by omega)).1
   omega
  ·exact Nw.IP.2 (.inl (by omega))
 ·obtain⟨h1,h2,h3⟩:=l.t1 g h0
  have hl:w.len g≠0:=fun e=>(xk h2).1 e _ h1
  obtain⟨x,hx⟩:=xl h2 hl
  rw[JE l hx]
  exact⟨.inr ⟨x,hx,rfl⟩,rfl⟩
theorem Bh{n:Nat}{H:Hp}{S:Nat→Prop}{w:Nw}(h:dS n H S w)(x k s:Int):ah Tryz.prog nI [ptr n,i64 x,vV k s] H fun v H'=>ay (
  (¬w.dc x k s∧v= .bool false∧cC (dS n) S H H' w)∨(w.dc x k s∧v= .bool true∧∃y,w.cs[x.toNat]? =some y∧cC (dS n) S H H' (w.put x (y.1,k,s)))):=by
 obtain⟨B,C,L,T,rfl,m,l,hS⟩:=h
 have hC:∀z,C z→S z:=fun z h=>(hS z).2 (.inl h)
 have s1:S B.tl:=(hS _).2 (.inr (.inr (.inr (.inl rfl))))
 have s2:S B.mp:=(hS _).2 (.inr (.inr (.inr (.inr rfl))))
 refine be w9 ⟨rfl,?_⟩
 refine v1 gW.eq_1 ?_
 have f0:ax H (H.new 224 [i64 k,u64 s]):=(ai.refl _ _).new _ _
 have b0:(H.new 224 [i64 k,u64 s]).own H.size=some [i64 k,u64 s]:=aG _ _ _
 have m0:=m.fresh f0
 generalize H.new 224 [i64 k,u64 s]=H0 at*
 have ff:ai S H H0:=f0.mono fun _ _ h=>h.elim
 refine v2 (ae m0.own) (ae b0) ?_
 refine(jm m0.cells x k s).mono ?_
 rintro _ H1 (⟨cr,rfl,c1,e1⟩| ⟨bS,rfl,y,hy,gv,c1,e1⟩)
 ·refine vs ?_
  exact .inl ⟨cr,rfl,cC.same ⟨B,C,L,T,rfl,m0.ext e1 (fun _ _ h=>h),l,hS⟩ (ff.trans (e1.mono fun _ _ h=>h.elim))⟩
 have rB:(w.put x (y.1,k,s)).cs.length=w.cs.length:=by simp[Nw.put]
 have m1:=m0.aK c1 e1 rB
 have CC:w.dc x k s:=⟨bS,fun z hz=>by rw[hy]at hz;injection hz with hz;rw[←hz];exact gv⟩
 have hx:0≤x∧x<w.cs.length:=⟨bS.1,by have:=(al7.1 hy).1;have:=bS.1;omega⟩
 have Q3:aH w x=y.1:=ng bS.1 hy
 have dZ:=bK.2 bS
 have hw:aH (w.put x (y.1,k,s))=aH w:=by
  funext z
  rw[eC hx]
  split
  ·rename_i e;rw[e,Q3]
  ·rfl
 have FJ:cZ (w.put x (y.1,k,s)).cs x:=bK.1 (by rw[hw];exact dZ)
 refine v1 (ae m1.own) ?_
 refine(dt m1.cells x).mono ?_
 rintro _ H2 (⟨cr,_,_⟩| ⟨_,rfl,c2,e2⟩)
 ·exact absurd FJ cr
 have m2:=m1.aK c2 e2 rfl
 have sJ:ai S H H2:=(ff.trans (e1.mono fun z _ h=>hC z h)).trans (e2.mono fun z _ h=>hC z h)
 have el:∀a b,0<aH w a→0<aH w b→a≠x→b≠x→aV (w.put x (y.1,k,s)) a b=aV w a b:=fun a b ha hb tM pt=>dG hx _ ha hb tM pt
 have ex:∀b,0<aH w b→b≠x→aV w x b=true→aV (w.put x (y.1,k,s)) x b=true:=fun b hb pt h=>Ct bS hy gv hb pt h
 refine v1 (ae m2.own) ?_
 refine(cN m2.bW (x:=x) (fun hu=>by have:=Cv.up l.bt hu;have:=m2.len;omega)).mono ?_
 rintro _ H3 ⟨rfl,L3,t3,l3,k3,u3,e3⟩
 have m3:=m2.dL t3 e3 l3
 have FA:ai S H H3:=sJ.trans (e3.mono fun z _ h=>h▸s1)
 unfold ix
 by_cases hu:bu L x= -1
 ·rw[if_pos hu]
  refine vs ?_
  have kk:bj L3=bj L:=by rw[k3];unfold kO;rw[if_pos hu]
  have uu:bu L3=bu L:=by
   rw[u3]
   funext z
   unfold c9 aI
   split
   ·rename_i e;rw[e,hu]
   ·rfl
  refine .inr ⟨CC,rfl,y,hy,cC.same ⟨B,C,L3,T,rfl,m3,?_,hS⟩ FA⟩
  rw[hw,kk,uu]
  exact l.TP dZ hu el ex (aq w)
 rw[if_neg hu]
 refine vs ?_
 have bo:=l.low dZ hu el ex (aq w)
 rw[←hw,←k3,←u3]at bo
 refine(oQ m3 _).mono ?_
 rintro _ H' ⟨rfl,e⟩
 obtain rfl:=e.symm
 refine vs ?_
 refine(oT m3 bo.mg).mono ?_
 rintro _ H4 ⟨r,L4,rfl,m4,g4,_,e4⟩
 refine vs ?_
 refine(oR m4 _ r).mono ?_
 rintro _ H5 ⟨m5,e5⟩
 refine vs ?_
 exact .inr ⟨CC,rfl,y,hy,cC.same ⟨B,C,L4,_,rfl,m5,bo.done g4,hS⟩ ((FA.trans (e4.mono fun z _ h=>by rcases h with h|rfl;exact hC z h;exact s1)).trans (e5.mono fun z _ h=>h▸s2))⟩
set_option maxRecDepth 100000 in
set_option maxHeartbeats 1000000 in
theorem Eo{n:Nat}{H:Hp}{S:Nat→Prop}{w:Nw}(h:dS n H S w)(x:Int):ah Tryz.prog An [ptr n,i64 x] H fun v H'=>ay (
  (¬cZ w.cs x∧v= .bool false∧cC (dS n) S H H' w)∨(cZ w.cs x∧v= .bool true∧cC (dS n) S H H' (w.put x (0,0,0)))):=by
 obtain⟨B,C,L,T,rfl,m,t,hS⟩:=id h
 have hC:∀z,C z→S z:=fun z h=>(hS z).2 (.inl h)
 have s1:S B.tl:=(hS _).2 (.inr (.inr (.inr (.inl rfl))))
 have s2:S B.mp:=(hS _).2 (.inr (.inr (.inr (.inr rfl))))
 refine be AU ⟨rfl,?_⟩
 refine v2 qt.eq_1 (ae m.own) ?_
 refine(dt m.cells x).mono ?_
 rintro _ H1 (⟨cr,rfl,rfl⟩| ⟨bS,rfl,c1,e1⟩)
 ·refine vs ?_
  exact .inl ⟨cr,rfl,cC.same h (ai.refl _ _)⟩
 have m1:=m.aK c1 e1 rfl
 have dZ:=bK.2 bS
 obtain⟨iq,jq,_⟩:=aF dZ
 have FY:x≠ -1:=by omega
 have ls:=aq w
 obtain⟨⟨d1,d2,d3⟩,⟨d4,d5⟩,d6⟩:=m.qY
 refine vs ?_
 refine qZ.intro (fun H'=>H'.own B.n=some [ptr B.c,ptr B.t,.map (some B.mp)]) m1.own ?_
 refine vs ?_
 refine qF.intro (ptr B.t) (fun H' hI=>by refine v1 (ae hI) ?_;trivial) ?_
 refine v1 (ae m1.own) ?_
 refine And.intro m1.own ?_
 refine vs ?_
 obtain⟨a1,b1,ea1⟩:=cO (bj L x false)
 refine(oM m1.bW x).mono ?_
 rintro _ H' ⟨rfl,e⟩
 obtain rfl:=e.symm
 rw[ea1]
 refine And.intro m1.own ?_
 refine vs ?_
 refine(oS m1 t.bt ea1).mono ?_
 rintro _ H2 ⟨rfl,L2,m2,k2,u2,e2⟩
 refine And.intro m2.own ?_
 refine vs ?_
 have bt2:Cv w L2:=by
  show Bt _ _ _ _
  rw[k2,u2];exact t.bt.TN _
 have er:bj L2 x true=bj L x true:=by
  rw[k2,pU t.bt,if_neg]
  rintro⟨h1,h2⟩
  exact h1 (t.bt.two x h2.symm)
 obtain⟨a2,b2,ea2⟩:=cO (bj L2 x true)
 refine(cA m2.bW x).mono ?_
 rintro _ H' ⟨rfl,e⟩
 obtain rfl:=e.symm
 rw[ea2]
 refine And.intro m2.own ?_
 refine vs ?_
 refine(oS m2 bt2 ea2).mono ?_
 rintro _ H3 ⟨rfl,L3,m3,k3,u3,e3⟩
 refine And.intro m3.own ?_
 rw[er]at k3 u3
 rw[k2,u2]at k3
 rw[u2]at u3
 obtain⟨w1,w2,w3,w4⟩:=t.bt.bare x
 have hk:∀c,bj L x c= -1∨(aH w (bj L x c)=aH w x∧bu L3 (bj L x c)= -1):=fun c=>by
  by_cases hk:bj L x c= -1
  ·exact .inl hk
  ·refine .inr ⟨(t.bt.home hk).2.2.1,?_⟩
   rw[u3,w4,if_pos]
   cases c
   ·exact .inl rfl
   ·exact .inr rfl
 rw[←k3,←u3]at w1
 have mg:=Mg.start w1 dZ (hk false) (hk true) (fun e=>t.bt.two x e)
 rw[er]
 refine vs ?_
 refine(oT m3 mg).mono ?_
 rintro _ H4 ⟨r,L4,rfl,m4,g4,f4,e4⟩
 refine And.intro m4.own ?_
 refine vs ?_
 have f4:=f4 x (yj.start (fun hk=>(t.bt.home hk).2.2.2.2) (fun hk=>(t.bt.home hk).2.2.2.2))
 have d:=t.U9 ls dZ k3 u3 g4 f4
 have Bw:ai S H H4:=(((e1.mono fun z _ h=>hC z h).trans (e2.mono fun z _ h=>h▸s1)).trans (e3.mono fun z _ h=>h▸s1)).trans (e4.mono fun z _ h=>by rcases h with h|rfl;exact hC z h;exact s1)
 have cU:=fun y=>eC (w:=w) ⟨iq,jq⟩ (0,0,0) y
 have p0:aH (w.put x (0,0,0)) (-1)=0:=rfl
 have p1:aH (w.put x (0,0,0)) x=0:=by rw[cU,if_pos rfl]
 have p2:∀y,y≠x→aH (w.put x (0,0,0)) y=aH w y:=fun y hy=>by rw[cU,if_neg hy]
 have el:∀a b,0<aH w a→0<aH w b→a≠x→b≠x→aV (w.put x (0,0,0)) a b=aV w a b:=fun a b ha hb tM pt=>dG ⟨iq,jq⟩ _ ha hb tM pt
 have rB:(w.put x (0,0,0)).cs.length=w.cs.length:=by simp[Nw.put]
 refine v1 (ae m4.own) ?_
 refine(si m4.bW x).mono ?_
 rintro _ H' ⟨rfl,e⟩
 obtain rfl:=e.symm
 rw[d.ux]
 unfold ix
 by_cases hu:bu L x= -1
 ·rw[if_pos hu]
  refine vs ?_
  refine(oR m4 _ r).mono ?_
  rintro _ H5 ⟨m5,e5⟩
  refine v1 (ae m5.own) ?_
  refine(cj m5.cells x).mono ?_
  rintro _ H6 (⟨cr,_,_⟩| ⟨_,rfl,c6,e6⟩)
  ·exact absurd bS cr
  have m6:=m5.aK c6 e6 rB
  refine vs ?_
  exact .inr ⟨bS,rfl,cC.same ⟨B,C,L4,_,rfl,m6,d.Po t dZ hu p0 p1 p2 el,hS⟩ ((Bw.trans (e5.mono fun z _ h=>h▸s2)).trans (e6.mono fun z _ h=>hC z h))⟩
 ·rw[if_neg hu]
  have E0:=Cv.up t.bt hu
  obtain⟨w5,w6⟩:=d.cut t ls dZ hu
  obtain⟨a3,b3,YK⟩:=cO (bj L4 (bu L x) true)
  refine v1 (ae m4.own) ?_
  refine(cA m4.bW (bu L x)).mono ?_
  rintro _ H' ⟨rfl,e⟩
  obtain rfl:=e.symm
  rw[YK]
  refine v1 (ae m4.own) ?_
  refine(cN m4.bW (x:=x) (fun Ui=>by have:=Cv.up d.bt Ui;have:=m4.len;omega)).mono ?_
  rintro _ H5 ⟨rfl,L5,t5,l5,k5,u5,e5⟩
  have m5:=m4.dL t5 e5 l5
  refine vs ?_
  have Vt:=Bw.trans (e5.mono fun z _ h=>h▸s1)
  refine ak.dec (fun g=>?_) (fun g=>?_)<;>refine vs ?_
  ·refine v1 (ae m5.own) ?_
   refine(cj m5.cells x).mono ?_
   rintro _ H8 (⟨cr,_,_⟩| ⟨_,rfl,c8,e8⟩)
   ·exact absurd bS cr
   have m8:=m5.aK c8 e8 rB
   refine vs ?_
   have b6:Cv w L5:=by
    show Bt _ _ _ _
    rw[k5,u5];exact w5 g
   refine .inr ⟨bS,rfl,cC.same ⟨B,C,L5,T,rfl,m8,?_,hS⟩ (Vt.trans (e8.mono fun z _ h=>hC z h))⟩
   exact d.below t ls (n:=w.cs.length) (fun y hy=>by obtain⟨y0,y1,_⟩:=aF hy;exact⟨y0,y1⟩) dZ hu b6 (by rw[if_pos g];exact u5) p0 p1 p2 el
  ·obtain⟨y1,y2,y3,y4⟩:=w6 g
   obtain⟨r1,r2,r3,r4⟩:=d.rx g
   obtain⟨q1,q2,_⟩:=aF (w:=w) (x:=r) (by omega)
   have hl5:=m5.len
   rw[d.kp _ true rfl hu]at YK
   rcases Md YK with ⟨rfl,h2⟩| ⟨rfl,rfl,h3⟩
   ·have Wu:false=(bj L (bu L x) true==x):=by
     rw[h2]
     exact(beq_eq_false_iff_ne.2 (Ne.symm FY)).symm
    refine v1 (ae m5.own) ?_
    refine(fG m5.bW (p:=bu L x) (x:=r) (c:=false) ⟨E0.1,by omega⟩ ⟨q1,by omega⟩ y3 (by rw[u5];exact y2) (by rw[k5,Wu];exact y1)).mono ?_
    rintro _ H6 ⟨rfl,L6,t6,l6,k6,Sj,e6⟩
    have m6:=m5.dL t6 e6 l6
    have Rb:=Vt.trans (e6.mono fun z _ h=>h▸s1)
    rw[k5]at k6
    rw[u5]at Sj
    rw[Wu]at k6
    have b6:Cv w L6:=by
     show Bt _ _ _ _
     rw[k6,Sj];exact y4
    have u6:bu L6=if r= -1 then c9 (bu L4) x else aI (c9 (bu L4) x) r (bu L x):=by rw[if_neg g];exact Sj
    refine v1 (ae m6.own) ?_
    refine(cj m6.cells x).mono ?_
    rintro _ H8 (⟨cr,_,_⟩| ⟨_,rfl,c8,e8⟩)
    ·exact absurd bS cr
    have m8:=m6.aK c8 e8 rB
    refine vs ?_
    refine .inr ⟨bS,rfl,cC.same ⟨B,C,L6,T,rfl,m8,?_,hS⟩ (Rb.trans (e8.mono fun z _ h=>hC z h))⟩
    exact d.below t ls (n:=w.cs.length) (fun y hy=>by obtain⟨y0,y1,_⟩:=aF hy;exact⟨y0,y1⟩) dZ hu b6 u6 p0 p1 p2 el
   ·have Wu:decide (bj L (bu L x) true=x)=(bj L (bu L x) true==x):=by rw[Bool.eq_iff_iff];simp
    refine v1 (ae m5.own) ?_
    refine(fG m5.bW (p:=bu L x) (x:=r) (c:=decide (bj L (bu L x) true=x)) ⟨E0.1,by omega⟩ ⟨q1,by omega⟩ y3 (by rw[u5];exact y2) (by rw[k5,Wu];exact y1)).mono ?_
    rintro _ H6 ⟨rfl,L6,t6,l6,k6,Sj,e6⟩
    have m6:=m5.dL t6 e6 l6
    have Rb:=Vt.trans (e6.mono fun z _ h=>h▸s1)
    rw[k5]at k6
    rw[u5]at Sj
    rw[Wu]at k6
    have b6:Cv w L6:=by
     show Bt _ _ _ _
     rw[k6,Sj];exact y4
    have u6:bu L6=if r= -1 then c9 (bu L4) x else aI (c9 (bu L4) x) r (bu L x):=by rw[if_neg g];exact Sj
    refine v1 (ae m6.own) ?_
    refine(cj m6.cells x).mono ?_
    rintro _ H8 (⟨cr,_,_⟩| ⟨_,rfl,c8,e8⟩)
    ·exact absurd bS cr
    have m8:=m6.aK c8 e8 rB
    refine vs ?_
    refine .inr ⟨bS,rfl,cC.same ⟨B,C,L6,T,rfl,m8,?_,hS⟩ (Rb.trans (e8.mono fun z _ h=>hC z h))⟩
    exact d.below t ls (n:=w.cs.length) (fun y hy=>by obtain⟨y0,y1,_⟩:=aF hy;exact⟨y0,y1⟩) dZ hu b6 u6 p0 p1 p2 el
theorem CR{n:Nat}{H:Hp}{S:Nat→Prop}{w:Nw}(h:dS n H S w)(g:Int):ah Tryz.prog pg [ptr n,i64 g] H fun v H'=>ay (
  (w.len g=0∧v= .tuple [i64 0,.bool false].toArray∧cC (dS n) S H H' w)∨(∃x,w.first g x∧v= .tuple [i64 x,.bool true].toArray∧cC (dS n) S H H' (w.put x (0,0,0)))):=by
 refine be zk ⟨rfl,?_⟩
 refine v1 iY.eq_1 ?_
 refine(zO h g).mono ?_
 rintro _ _ ⟨⟨h0,rfl⟩| ⟨x,hx,rfl⟩,rfl⟩
 ·refine vs ?_
  exact .inl ⟨h0,rfl,cC.same h (ai.refl _ _)⟩
 ·refine vs ?_
  refine(Eo h x).mono ?_
  rintro _ H1 (⟨cr,_,_⟩| ⟨_,rfl,h1⟩)
  ·exact absurd (bK.1 (by have:=bN.1 hx;omega)) cr
  refine vs ?_
  exact .inr ⟨x,hx,rfl,h1⟩
theorem Qo(n:Nat):zI (.iface 214 (ptr n)) (dS n) where
 slt h:=h.slt
 ext h e hd:=h.ext e hd
 cells:=by
  rintro H S w ⟨B,C,L,T,rfl,m,l,hS⟩
  exact⟨B.c,C,m.cells⟩
 has:=by
  rintro H S w g ⟨B,C,L,T,rfl,m,l,hS⟩
  exact⟨_,_,bG,ptr B.c,rfl,ic (off:=0) (by kernel_rfl) (ae m.own) rfl,(kH m.cells g).mono fun v H' hp=>hp⟩
 make:=by
  rintro H S w ⟨B,C,L,T,rfl,m,l,hS⟩
  exact⟨_,_,dC,ptr B.c,rfl,ic (off:=0) (by kernel_rfl) (ae m.own) rfl,(Hn m l rfl hS).mono fun v H' hp=>hp⟩
 insert:=by
  intro H S w g x k s h
  exact⟨_,_,qe,ptr n,rfl,bF (by kernel_rfl),(En h g x k s).mono fun v H' hp=>hp⟩
 min:=by
  intro H S w g h
  refine⟨_,_,uZ,ptr n,rfl,bF (by kernel_rfl),(zO h g).mono ?_⟩
  rintro v H' ⟨⟨h1,rfl⟩| ⟨x,h1,rfl⟩,rfl⟩
  ·exact .inl ⟨h1,rfl,cC.same h (ai.refl _ _)⟩
  ·exact .inr ⟨x,h1,rfl,cC.same h (ai.refl _ _)⟩
 extract:=by
  intro H S w g h
  exact⟨_,_,pg,ptr n,rfl,bF (by kernel_rfl),(CR h g).mono fun v H' hp=>hp⟩
 qH:=by
  intro H S w x k s h
  exact⟨_,_,nI,ptr n,rfl,bF (by kernel_rfl),(Bh h x k s).mono fun v H' hp=>hp⟩
 entry:=by
  rintro H S w x ⟨B,C,L,T,rfl,m,l,hS⟩
  refine⟨_,_,bk,ptr B.c,rfl,ic (off:=0) (by kernel_rfl) (ae m.own) rfl,(jk m.cells x).mono ?_⟩
  rintro v H' ⟨c1,f,hv⟩
  exact⟨⟨B,C,L,T,rfl,m.fresh f,l,hS⟩,f,hv⟩
structure PB where
 n:Nat
 c:Nat
 tb:Nat
 tp:Nat
structure bQ(H:Hp)(B:PB)(C:Nat→Prop)(w:Nw)(L:List Lk)(tops:List Int):Prop where
 own:∃tv,H.own B.n=some [ptr B.c,.slice (some ⟨B.tb,0,none⟩) L.length L.length,tv]∧Sl H 1 tv tops.length (tops.map i64) (some B.tp)
 cells:CQ H B.c C w
 fI:H.own B.tb=some (aQ L)
 len:L.length=w.cs.length
 qY:B.n≠B.tb∧B.n≠B.tp∧B.tb≠B.tp
 out:¬C B.n∧¬C B.tb∧¬C B.tp
def PB.S(B:PB)(C:Nat→Prop)(z:Nat):Prop:=C z∨z=B.n∨z=B.tb∨z=B.tp
section
variable {H H' : Hp} {B : PB} {C V : Nat → Prop} {w w' : Nw} {L L' : List Lk} {tops : List Int}
theorem bQ.slt(h:bQ H B C w L tops):∀z,B.S C z→z<H.size:=by
 obtain⟨tv,h1,h2⟩:=h.own
 rintro z (hz|rfl|rfl|rfl)
 ·exact h.cells.slt z hz
 ·exact aO h1
 ·exact aO h.fI
 ·exact h2.lt
theorem bQ.ext(h:bQ H B C w L tops)(e:ai V H H')(hd:∀z,B.S C z→¬V z):bQ H' B C w L tops:=by
 obtain⟨tv,h1,h2⟩:=h.own
 exact⟨⟨tv,e.own h1 (hd _ (.inr (.inl rfl))),h2.ext e (fun b hb=>by injection hb with hb;exact hb▸hd _ (.inr (.inr (.inr rfl))))⟩,h.cells.ext e (fun x hx=>hd x (.inl hx)),
  e.own h.fI (hd _ (.inr (.inr (.inl rfl)))),h.len,h.qY,h.out⟩
theorem bQ.fresh(h:bQ H B C w L tops)(e:ax H H'):bQ H' B C w L tops:=h.ext e fun _ _ h=>h
theorem bQ.aK(h:bQ H B C w L tops)(c1:CQ H' B.c C w')(e:ai C H H')(hl:w'.cs.length=w.cs.length):bQ H' B C w' L tops:=by
 obtain⟨tv,h1,h2⟩:=h.own
 obtain⟨o1,o2,o3⟩:=h.out
 exact⟨⟨tv,e.own h1 o1,h2.ext e (fun b hb=>by injection hb with hb;exact hb▸o3)⟩,c1,e.own h.fI o2,by rw[hl];exact h.len,h.qY,h.out⟩
theorem bQ.O9(h:bQ H B C w L tops)(hl:L'.length=L.length):bQ (H.wr B.tb (aQ L')) B C w L' tops∧ai (fun z=>z=B.tb) H (H.wr B.tb (aQ L')):=by
 obtain⟨tv,h1,h2⟩:=h.own
 obtain⟨o1,o2,o3⟩:=h.out
 obtain⟨d1,d2,d3⟩:=h.qY
 have e:ai (fun z=>z=B.tb) H (H.wr B.tb (aQ L')):=(ai.refl (fun z=>z=B.tb) _).wr (fun _=>rfl) _
 exact⟨⟨⟨tv,by rw[hl];exact e.own h1 d1,h2.ext e (fun b hb=>by injection hb with hb;omega)⟩,h.cells.ext e (fun x hx hz=>o2 (hz▸hx)),aj h.fI,by rw[hl];exact h.len,h.qY,h.out⟩,e⟩
theorem bQ.hZ(h:bQ H B C w L tops):∃c l,H.own B.n=some [ptr B.c,.slice (some ⟨B.tb,0,none⟩) L.length L.length,.slice (some ⟨B.tp,0,none⟩) tops.length c]∧H.own B.tp=some l∧tops.length≤c∧c≤l.length∧l.take tops.length=tops.map i64:=by
 obtain⟨tv,h1,_,l,c,rfl,h3,h4,h5,h6⟩:=h.own
 rw[ama]at h5 h6
 exact⟨c,l,h1,h3,h4,h5,h6⟩
theorem bQ.fB(h:bQ H B C w L tops){l:List Value}(hl:H.own B.tp=some l){i:Nat}{x:Int}(hx:tops[i]? =some x):l[i]? =some (i64 x):=by
 obtain⟨c,l',_,h2,_,_,h5⟩:=h.hZ
 rw[hl]at h2
 injection h2 with h2
 subst h2
 have h7:(tops.map i64)[i]? =some (i64 x):=by rw[amo,hx];rfl
 rw[←h5,amE]at h7
 split at h7
 ·exact h7
 ·cases h7
theorem bQ.nV(h:bQ H B C w L tops){l:List Value}(hl:H.own B.tp=some l)(i:Nat)(v:Int):bQ (H.wr B.tp (l.set i (i64 v))) B C w L (tops.set i v)∧ai (fun z=>z=B.tp) H (H.wr B.tp (l.set i (i64 v))):=by
 obtain⟨c,l',h1,h2,h3,h4,h5⟩:=h.hZ
 rw[hl]at h2
 injection h2 with h2
 subst h2
 obtain⟨o1,o2,o3⟩:=h.out
 obtain⟨d1,d2,d3⟩:=h.qY
 have e:ai (fun z=>z=B.tp) H (H.wr B.tp (l.set i (i64 v))):=(ai.refl (fun z=>z=B.tp) _).wr (fun _=>rfl) _
 refine⟨⟨⟨_,e.own h1 d2,?_⟩,h.cells.ext e (fun x hx hz=>o3 (hz▸hx)),e.own h.fI d3,h.len,h.qY,h.out⟩,e⟩
 refine⟨by simp,l.set i (i64 v),c,by rw[al8],aj hl,by rw[al8];exact h3,by rw[al8,ama];exact h4,?_⟩
 rw[al8,ama,xY,h5,amO]
theorem bQ.rd(h:bQ H B C w L tops){x:Int}(hx:0≤x∧x<w.cs.length):x.toNat*3+2< (aQ L).length∧(aQ L)[x.toNat*3]? =some (i64 (bj L x false))∧(aQ L)[x.toNat*3+1]? =some (i64 (bj L x true))∧(aQ L)[x.toNat*3+2]? =some (i64 (bu L x)):=by
 have hl:=h.len
 have hf:=kI L
 obtain⟨y,hy⟩:∃y,L[x.toNat]? =some y:=⟨_,al5 (by omega)⟩
 obtain⟨h1,h2,h3⟩:=OS hy
 rw[sf hx.1 hy,sf hx.1 hy,xo hx.1 hy]
 exact⟨by omega,h1,h2,h3⟩
theorem bQ.NN(h:bQ H B C w L tops){x:Int}(hx:0≤x∧x<w.cs.length)(v:Int):∃L',bj L'=eF (bj L) x false v∧bu L'=bu L∧bQ (H.wr B.tb ((aQ L).set (x.toNat*3) (i64 v))) B C w L' tops∧ai (fun z=>z=B.tb) H (H.wr B.tb ((aQ L).set (x.toNat*3) (i64 v))):=by
 have hl:=h.len
 obtain⟨y,hy⟩:∃y,L[x.toNat]? =some y:=⟨_,al5 (by omega)⟩
 refine⟨L.set x.toNat (y.hX false v),uF hx.1 hy false v,uG hx.1 hy false v,?_⟩
 have:=xX hy false v
 rw[show x.toNat*3+false.toNat=x.toNat*3 from rfl]at this
 rw[this]
 exact h.O9 (al8 ..)
theorem bQ.NS(h:bQ H B C w L tops){x:Int}(hx:0≤x∧x<w.cs.length)(v:Int):∃L',bj L'=eF (bj L) x true v∧bu L'=bu L∧bQ (H.wr B.tb ((aQ L).set (x.toNat*3+1) (i64 v))) B C w L' tops∧ai (fun z=>z=B.tb) H (H.wr B.tb ((aQ L).set (x.toNat*3+1) (i64 v))):=by
 have hl:=h.len
 obtain⟨y,hy⟩:∃y,L[x.toNat]? =some y:=⟨_,al5 (by omega)⟩
 refine⟨L.set x.toNat (y.hX true v),uF hx.1 hy true v,uG hx.1 hy true v,?_⟩
 have:=xX hy true v
 rw[show x.toNat*3+true.toNat=x.toNat*3+1 from rfl]at this
 rw[this]
 exact h.O9 (al8 ..)
theorem bQ.Kv(h:bQ H B C w L tops){x:Int}(hx:0≤x∧x<w.cs.length)(v:Int):∃L',bj L'=bj L∧bu L'=aI (bu L) x v∧bQ (H.wr B.tb ((aQ L).set (x.toNat*3+2) (i64 v))) B C w L' tops∧ai (fun z=>z=B.tb) H (H.wr B.tb ((aQ L).set (x.toNat*3+2) (i64 v))):=by
 have hl:=h.len
 obtain⟨y,hy⟩:∃y,L[x.toNat]? =some y:=⟨_,al5 (by omega)⟩
 refine⟨L.set x.toNat ⟨y.a,y.b,v⟩,DZ hx.1 hy v,D0 hx.1 hy v,?_⟩
 rw[GU hy v]
 exact h.O9 (al8 ..)
variable {g : Int} {R : Int → Prop} {HZ ch : Int → List Int} {par : Int → Int} {W : List Int} {a b : Int}
theorem dh(m:bQ H B C w L tops)(pw:EG (aH w) (aV w) g R HZ ch par (ws [a,b]++W))(pl:JQ (bj L) (bu L) ch par):
  ah Tryz.prog yB [ptr B.n,i64 a,i64 b] H fun v H'=>ay (∃r L' dT bH,v=i64 r∧(r= -1→a= -1∧b= -1)∧bQ H' B C w L' tops∧EG (aH w) (aV w) g R HZ dT bH (ws [r]++W)∧JQ (bj L') (bu L') dT bH∧ai (fun z=>C z∨z=B.tb) H H'):=by
 refine be zc ⟨rfl,?_⟩
 refine v1 iQ.eq_1 ?_
 rw[pE,ec a,ec b]at pw
 refine ak.dec (fun ga=>?_) (fun ga=>?_)<;>refine vs ?_
 ·rw[if_pos ga]at pw
  rw[←ec b]at pw
  exact⟨b,L,ch,par,rfl,fun h=>⟨ga,h⟩,m,pw,pl,ai.refl _ _⟩
 rw[if_neg ga]at pw
 refine ak.dec (fun gb=>?_) (fun gb=>?_)<;>refine vs ?_
 ·rw[if_pos gb]at pw
  exact⟨a,L,ch,par,rfl,fun h=>⟨h,gb⟩,m,by rw[ec,if_neg ga];exact pw,pl,ai.refl _ _⟩
 rw[if_neg gb]at pw
 obtain⟨tv,o1,_⟩:=m.own
 refine v1 (ae o1) ?_
 refine(cJ m.cells b a).mono ?_
 rintro _ H2 ⟨rfl,c2,e2⟩
 have m2:=m.aK c2 e2 rfl
 have Uw:EG (aH w) (aV w) g R HZ ch par (a::b::W):=pw
 obtain⟨a1,a2,a3⟩:=Uw.wm a (by simp)
 obtain⟨b1,b2,b3⟩:=Uw.wm b (by simp)
 have zQ:=jn (w:=w) (a:=b) (b:=a) (by rw[b2];exact Uw.g0) (by rw[a2];exact Uw.g0)
 rw[zQ]
 have aT:a≠b:=fun e=>by have:=Uw.nd;rw[e]at this;simp at this
 obtain⟨p,q,OF,hl,pw2⟩:∃p q,(if aV w b a=true then(p=b∧q=a)else(p=a∧q=b))∧aV w p q=true∧EG (aH w) (aV w) g R HZ ch par (p::q::W):=by
  cases aR:aV w b a
  ·exact⟨a,b,by simp,((aq w).OI a b aT).resolve_right (by rw[aR];simp),Uw⟩
  ·exact⟨b,a,by simp,aR,Uw.perm (List.Perm.swap ..)⟩
 obtain⟨p1,p2,p3⟩:=pw2.wm p (by simp)
 obtain⟨q1,q2,q3⟩:=pw2.wm q (by simp)
 have afw:p≠q:=fun e=>by rw[e,(aq w).xS]at hl;cases hl
 have pw3:=pw2.link hl
 have TG:=pl.link pw2.pr p1 q3 afw
 obtain⟨px,py,_⟩:=aF (w:=w) (x:=p) (by rw[p2];exact Uw.g0)
 obtain⟨qx,qy,_⟩:=aF (w:=w) (x:=q) (by rw[q2];exact Uw.g0)
 have hold:bj L p false≠ -1→0≤bj L p false∧bj L p false<w.cs.length:=fun h=>by
  have h1:bj L p false∈ch p:=by rw[pl.hd]at h ⊢;exact eG h
  have h2:=(pw2.pr.dn p _ h1).2.2.2.1
  obtain⟨z0,z1,_⟩:=aF h2
  exact⟨z0,z1⟩
 have bm:=m2.len
 have ws1:ws [p]=[p]:=by rw[ec,if_neg p1]
 cases aR:aV w b a<;>simp only[aR,if_true,if_false,anb]at OF<;>obtain⟨rfl,rfl⟩:=OF<;>refine vs ?_
 all_goals
  obtain⟨Nz,o2,_⟩:=m2.own
  obtain⟨r0,r1,r2,r3⟩:=m2.rd ⟨px,py⟩
  refine v1 (ae o2) ?_
  refine⟨⟨by omega,by omega⟩,?_⟩
  refine v4 (ae m2.fI) al6 Nat.add_zero r1 ?_
  refine v1 (ae o2) ?_
  refine⟨⟨by omega,by omega⟩,?_⟩
  obtain⟨L3,k3,u3,m3,e3⟩:=m2.NS ⟨qx,qy⟩ (bj L p false)
  obtain⟨s0,_⟩:=m2.rd ⟨qx,qy⟩
  refine v3 m2.fI al6 Nat.add_zero ?_
  refine⟨by omega,?_⟩
  refine vs ?_
  generalize H2.wr B.tb ((aQ L).set (q.toNat*3+1) (i64 (bj L p false)))=H3 at*
  obtain⟨L4,k4,u4,m4,e4⟩:=m3.Kv ⟨qx,qy⟩ p
  obtain⟨s4,_⟩:=m3.rd ⟨qx,qy⟩
  refine⟨⟨by omega,by omega⟩,?_⟩
  refine v3 m3.fI al6 Nat.add_zero ?_
  refine⟨by omega,?_⟩
  refine vs ?_
  generalize H3.wr B.tb ((aQ L3).set (q.toNat*3+2) (i64 p))=H4 at*
  have e24:ai (fun z=>C z∨z=B.tb) H H4:=((e2.mono fun z _ h=>.inl h).trans (e3.mono fun z _ h=>.inr h)).trans (e4.mono fun z _ h=>.inr h)
  have W3:=m4.len
  refine ak.dec (fun go=>?_) (fun go=>?_)<;>refine vs ?_
  ·obtain⟨tv4,o4,_⟩:=m4.own
   obtain⟨L5,k5,u5,m5,e5⟩:=m4.NN ⟨px,py⟩ q
   obtain⟨s5,_⟩:=m4.rd ⟨px,py⟩
   refine v1 (ae o4) ?_
   refine⟨⟨by omega,by omega⟩,?_⟩
   refine v3 m4.fI al6 Nat.add_zero ?_
   refine⟨by omega,?_⟩
   refine vs ?_
   refine⟨p,L5,_,_,rfl,fun h=>absurd h p1,m5,by rw[ws1];exact pw3,?_,e24.trans (e5.mono fun z _ h=>.inr h)⟩
   rw[if_pos go]at TG
   rw[k5,u5,k4,u4,k3,u3]
   exact TG
  ·obtain⟨tv4,o4,_⟩:=m4.own
   obtain⟨ox,oy⟩:=hold go
   obtain⟨L5,k5,u5,m5,e5⟩:=m4.Kv ⟨ox,oy⟩ q
   obtain⟨s5,_⟩:=m4.rd ⟨ox,oy⟩
   refine v1 (ae o4) ?_
   refine⟨⟨by omega,by omega⟩,?_⟩
   refine v3 m4.fI al6 Nat.add_zero ?_
   refine⟨by omega,?_⟩
   refine vs ?_
   generalize H4.wr B.tb ((aQ L4).set ((bj L p false).toNat*3+2) (i64 q))=H5 at*
   obtain⟨tv5,o5,_⟩:=m5.own
   have hl5:=m5.len
   obtain⟨L6,k6,u6,m6,e6⟩:=m5.NN ⟨px,py⟩ q
   obtain⟨s6,_⟩:=m5.rd ⟨px,py⟩
   refine v1 (ae o5) ?_
   refine⟨⟨by omega,by omega⟩,?_⟩
   refine v3 m5.fI al6 Nat.add_zero ?_
   refine⟨by omega,?_⟩
   refine vs ?_
   refine⟨p,L6,_,_,rfl,fun h=>absurd h p1,m6,by rw[ws1];exact pw3,?_,(e24.trans (e5.mono fun z _ h=>.inr h)).trans (e6.mono fun z _ h=>.inr h)⟩
   rw[if_neg go]at TG
   rw[k6,u6,k5,u5,k4,u4,k3,u3]
   exact TG
theorem tC(m:bQ H B C w L tops){lt:Int→Int→Bool}(hs:bC lt)(q:Pr (aH w) lt ch par)(pl:JQ (bj L) (bu L) ch par){p x:Int}{l1 l2:List Int}(hp:ch p=l1++x::l2):
  ah Tryz.prog Aj [ptr B.n,i64 x] H fun v H'=>ay (∃L',bQ H' B C w L' tops∧JQ (bj L') (bu L') (aA ch p (l1++l2)) (aI par x (-1))∧ai (fun z=>z=B.tb) H H'):=by
 obtain⟨f1,f2,f7,f3,f4,f5,f6⟩:=pl.off q hs hp
 have hx:=(q.dn p x (by rw[hp];simp)).2.2.2.1
 obtain⟨x0,x1,_⟩:=aF hx
 obtain⟨y0,y1,_⟩:=aF (w:=w) (x:=bu L x) (by omega)
 obtain⟨tv,o1,_⟩:=m.own
 obtain⟨r0,r1,r2,r3⟩:=m.rd ⟨x0,x1⟩
 obtain⟨t0,t1,t2,t3⟩:=m.rd ⟨y0,y1⟩
 have hl:=m.len
 refine be AP ⟨rfl,?_⟩
 refine v2 jT.eq_1 (ae o1) ?_
 refine⟨⟨by omega,by omega⟩,?_⟩
 refine v5 (ae o1) (ae m.fI) al6 Nat.add_zero r3 ?_
 refine⟨⟨by omega,by omega⟩,?_⟩
 refine v4 (ae m.fI) al6 Nat.add_zero t1 ?_
 have bx:bu L x≠x:=f7
 refine ak.dec (fun g=>?_) (fun g=>?_)<;>refine vs ?_
 ·have vw:=f1.1 g
  rw[if_pos vw]at f6
  refine v6 (ae o1) (ae m.fI) al6 Nat.add_zero r2 r3 ?_
  refine⟨⟨by omega,by omega⟩,?_⟩
  obtain⟨L1,k1,u1,m1,e1⟩:=m.NN ⟨y0,y1⟩ (bj L x true)
  refine v3 m.fI al6 Nat.add_zero ?_
  refine⟨by omega,?_⟩
  refine vs ?_
  generalize H.wr B.tb ((aQ L).set ((bu L x).toNat*3) (i64 (bj L x true)))=H1 at*
  obtain⟨s0,s1,s2,s3⟩:=m1.rd ⟨x0,x1⟩
  have vw:=m1.len
  obtain⟨D2,o1,_⟩:=m1.own
  have en:bj L1 x true=bj L x true:=by
   rw[k1]
   unfold eF
   rw[if_neg (by simp[bx.symm])]
  have eu:bu L1 x=bu L x:=by rw[u1]
  rw[en]at s2
  rw[eu]at s3
  refine v4 (ae m1.fI) al6 Nat.add_zero s2 ?_
  refine ak.dec (fun gn=>?_) (fun gn=>?_)<;>refine vs ?_
  ·obtain⟨L2,k2,u2,m2,e2⟩:=m1.NS ⟨x0,x1⟩ (-1)
   refine v3 m1.fI al6 Nat.add_zero ?_
   refine⟨by omega,?_⟩
   obtain⟨v0,_⟩:=m2.rd ⟨x0,x1⟩
   obtain⟨L3,k3,u3,m3,e3⟩:=m2.Kv ⟨x0,x1⟩ (-1)
   refine vs ?_
   generalize H1.wr B.tb ((aQ L1).set (x.toNat*3+1) (Value.int .i64 (-1)))=H2 at*
   refine v3 m2.fI al6 Nat.add_zero ?_
   refine⟨by omega,?_⟩
   refine vs ?_
   refine⟨L3,m3,?_,(e1.trans e2).trans e3⟩
   rw[if_pos gn]at f6
   rw[k3,u3,k2,u2,k1,u1]
   exact f6
  ·obtain⟨z0,z1,_⟩:=aF (w:=w) (x:=bj L x true) (by rw[f5 gn];exact hx)
   obtain⟨v0,_⟩:=m1.rd ⟨z0,z1⟩
   refine v6 (ae o1) (ae m1.fI) al6 Nat.add_zero s2 s3 ?_
   refine⟨⟨by omega,by omega⟩,?_⟩
   obtain⟨L2,k2,u2,m2,e2⟩:=m1.Kv ⟨z0,z1⟩ (bu L x)
   refine v3 m1.fI al6 Nat.add_zero ?_
   refine⟨by omega,?_⟩
   refine vs ?_
   generalize H1.wr B.tb ((aQ L1).set ((bj L x true).toNat*3+2) (i64 (bu L x)))=H2 at*
   obtain⟨v1,_⟩:=m2.rd ⟨x0,x1⟩
   obtain⟨L3,k3,u3,m3,e3⟩:=m2.NS ⟨x0,x1⟩ (-1)
   refine v3 m2.fI al6 Nat.add_zero ?_
   refine⟨by omega,?_⟩
   obtain⟨v2,_⟩:=m3.rd ⟨x0,x1⟩
   obtain⟨L4,k4,u4,m4,e4⟩:=m3.Kv ⟨x0,x1⟩ (-1)
   refine vs ?_
   generalize H2.wr B.tb ((aQ L2).set (x.toNat*3+1) (Value.int .i64 (-1)))=H3 at*
   refine v3 m3.fI al6 Nat.add_zero ?_
   refine⟨by omega,?_⟩
   refine vs ?_
   refine⟨L4,m4,?_,((e1.trans e2).trans e3).trans e4⟩
   rw[if_neg gn]at f6
   rw[k4,u4,k3,u3,k2,u2,k1,u1]
   exact f6
 ·have vw:l1≠[]:=fun h=>g (f1.2 h)
  rw[if_neg vw]at f6
  refine v6 (ae o1) (ae m.fI) al6 Nat.add_zero r2 r3 ?_
  refine⟨⟨by omega,by omega⟩,?_⟩
  obtain⟨L1,k1,u1,m1,e1⟩:=m.NS ⟨y0,y1⟩ (bj L x true)
  refine v3 m.fI al6 Nat.add_zero ?_
  refine⟨by omega,?_⟩
  refine vs ?_
  generalize H.wr B.tb ((aQ L).set ((bu L x).toNat*3+1) (i64 (bj L x true)))=H1 at*
  obtain⟨s0,s1,s2,s3⟩:=m1.rd ⟨x0,x1⟩
  have vw:=m1.len
  obtain⟨D2,o1,_⟩:=m1.own
  have en:bj L1 x true=bj L x true:=by
   rw[k1]
   unfold eF
   rw[if_neg (by simp[bx.symm])]
  have eu:bu L1 x=bu L x:=by rw[u1]
  rw[en]at s2
  rw[eu]at s3
  refine v4 (ae m1.fI) al6 Nat.add_zero s2 ?_
  refine ak.dec (fun gn=>?_) (fun gn=>?_)<;>refine vs ?_
  ·obtain⟨L2,k2,u2,m2,e2⟩:=m1.NS ⟨x0,x1⟩ (-1)
   refine v3 m1.fI al6 Nat.add_zero ?_
   refine⟨by omega,?_⟩
   obtain⟨v0,_⟩:=m2.rd ⟨x0,x1⟩
   obtain⟨L3,k3,u3,m3,e3⟩:=m2.Kv ⟨x0,x1⟩ (-1)
   refine vs ?_
   generalize H1.wr B.tb ((aQ L1).set (x.toNat*3+1) (Value.int .i64 (-1)))=H2 at*
   refine v3 m2.fI al6 Nat.add_zero ?_
   refine⟨by omega,?_⟩
   refine vs ?_
   refine⟨L3,m3,?_,(e1.trans e2).trans e3⟩
   rw[if_pos gn]at f6
   rw[k3,u3,k2,u2,k1,u1]
   exact f6
  ·obtain⟨z0,z1,_⟩:=aF (w:=w) (x:=bj L x true) (by rw[f5 gn];exact hx)
   obtain⟨v0,_⟩:=m1.rd ⟨z0,z1⟩
   refine v6 (ae o1) (ae m1.fI) al6 Nat.add_zero s2 s3 ?_
   refine⟨⟨by omega,by omega⟩,?_⟩
   obtain⟨L2,k2,u2,m2,e2⟩:=m1.Kv ⟨z0,z1⟩ (bu L x)
   refine v3 m1.fI al6 Nat.add_zero ?_
   refine⟨by omega,?_⟩
   refine vs ?_
   generalize H1.wr B.tb ((aQ L1).set ((bj L x true).toNat*3+2) (i64 (bu L x)))=H2 at*
   obtain⟨v1,_⟩:=m2.rd ⟨x0,x1⟩
   obtain⟨L3,k3,u3,m3,e3⟩:=m2.NS ⟨x0,x1⟩ (-1)
   refine v3 m2.fI al6 Nat.add_zero ?_
   refine⟨by omega,?_⟩
   obtain⟨v2,_⟩:=m3.rd ⟨x0,x1⟩
   obtain⟨L4,k4,u4,m4,e4⟩:=m3.Kv ⟨x0,x1⟩ (-1)
   refine vs ?_
   generalize H2.wr B.tb ((aQ L2).set (x.toNat*3+1) (Value.int .i64 (-1)))=H3 at*
   refine v3 m3.fI al6 Nat.add_zero ?_
   refine⟨by omega,?_⟩
   refine vs ?_
   refine⟨L4,m4,?_,((e1.trans e2).trans e3).trans e4⟩
   rw[if_neg gn]at f6
   rw[k4,u4,k3,u3,k2,u2,k1,u1]
   exact f6
end
end Go.Proofs.YtjlnnljohemifaaGreat

namespace Go.Proofs.YtjlnnljohemifaaGreat
open Go Go.Vc
section
variable {H : Hp} {B : PB} {C V : Nat → Prop} {w : Nw} {L : List Lk} {tops : List Int} {ch HZ : Int → List Int} {par : Int → Int}
theorem Pr.len(q:Pr (aH w) (aV w) ch par)(x:Int):(ch x).length≤w.cs.length:=bY (q.nd x) fun c hc=>by
 obtain⟨z0,z1,_⟩:=aF (q.dn x c hc).2.2.2.1
 exact⟨z0,z1⟩
theorem KX.next{K:Int→Bool→Int}{Bk:Int→Int}:∀ {l1:List Int} {p x:Int} {l2:List Int},KX K Bk p (l1++x::l2)→K x true=l2.headD (-1):=fun h=>h.split.2.1
theorem CS(m:bQ H B C w L tops)(q:Pr (aH w) (aV w) ch par)(pl:JQ (bj L) (bu L) ch par){x:Int}(hx:0<aH w x):
  ah Tryz.prog yD [ptr B.n,i64 x] H fun v H'=>ay (∃fp,bQ H' B C w L tops∧ai C H H'∧Sl H' 1 v (ch x).length ((ch x).map i64) fp∧∀b,fp=some b→H.size≤b):=by
 obtain⟨x0,x1,_⟩:=aF hx
 have rq:=m.cells.Fu
 have bm:=q.len x
 refine be ze ⟨rfl,?_⟩
 obtain⟨tv,o1,_⟩:=m.own
 refine v2 iS.eq_1 (ae o1) ?_
 refine(dt m.cells x).mono ?_
 rintro _ H1 (⟨cr,_,_⟩| ⟨bS,rfl,c1,e1⟩)
 ·exact absurd (bK.1 hx) cr
 have m1:=m.aK c1 e1 rfl
 obtain⟨D2,o1,_⟩:=m1.own
 obtain⟨r0,r1,r2,r3⟩:=m1.rd ⟨x0,x1⟩
 have hl:=m1.len
 have z1:=e1.size
 refine v1 (ae o1) ?_
 refine⟨⟨by omega,by omega⟩,?_⟩
 refine v4 (ae m1.fI) al6 Nat.add_zero r1 ?_
 refine bA.intro (fun mm env H'=>∃ (d r:List Int) (wv:Value) (fp:Option Nat),mm=r.length∧ch x=d++r∧bQ H' B C w L tops∧(∀z,fp=some z→H.size≤z)∧Sl H' 1 wv d.length (d.map i64) fp∧ai (fun z=>C z∨H.size≤z) H H'∧
  env=[(0,ptr B.n),(7,wv),(8,i64 (r.headD (-1)))]) _ ⟨[],ch x,_,none,rfl,rfl,m1,(fun z h=>by cases h),Sl.nil _ _,e1.mono (fun z _ h=>.inl h),by rw[pl.hd]⟩ ?_
 rintro mm env H2 ⟨d,r,wv,fp,rfl,YV,m2,mr,s2,e2,rfl⟩
 have z2:=e2.size
 refine vs ?_
 cases r with
 |nil=>
  refine ak.dec (fun _=>?_) (fun h=>absurd rfl h)
  refine vs ?_
  rw[amW]at YV
  rw[YV]
  exact⟨fp,m2,e2.mono (fun z hz h=>h.elim id fun h=>by omega),s2,mr⟩
 |cons c r=>
  have hc:=q.dn x c (by rw[YV];simp)
  obtain⟨c0,c1,_⟩:=aF hc.2.2.2.1
  have IS:=pl.sg x
  rw[YV]at IS
  have IS:=IS.next
  have pJ:d.length+(r.length+1)=(ch x).length:=by rw[YV,amh,ams]
  refine ak.dec (fun h=>absurd h (by simp only[List.headD_cons];omega)) (fun _=>?_)
  refine vs ?_
  refine EK (B:=H.size) mr (by omega) s2 c (by omega) fun w' H3 fL oO s3 e3=>?_
  refine vs ?_
  have m3:=m2.ext e3 (fun z hz ez=>by have:=m.slt z hz;omega)
  obtain⟨YF,o3,_⟩:=m3.own
  obtain⟨t0,t1,t2,t3⟩:=m3.rd ⟨c0,c1⟩
  have TB:=m3.len
  simp(disch:=(first|omega| (simp only[Zs]<;>omega)|fail)) only[go_sem, ↓reduceIte,Zv,ae o3,List.headD_cons]
  refine⟨⟨by omega,by omega⟩,?_⟩
  refine v4 (ae m3.fI) al6 Nat.add_zero t2 ?_
  refine⟨r.length,by simp,d++[c],r,w',fL,rfl,by rw[YV];simp,m3,oO,s3,e2.trans (e3.mono fun z _ h=>.inr h),by rw[IS]⟩
set_option maxHeartbeats 2000000 in
theorem mf(m:bQ H B C w L tops)(q:Pr (aH w) (aV w) ch par)(pl:JQ (bj L) (bu L) ch par){x:Int}(hx:0<aH w x):
  ah Tryz.prog yC [ptr B.n,i64 x] H fun v H'=>ay (∃r L' dT bH,v=i64 r∧bQ H' B C w L' tops∧JQ (bj L') (bu L') dT bH∧
   EG (aH w) (aV w) (aH w x) (fun y=>0<aH w y∧par y= -1) (aA ch x []) dT bH (ws [r])∧ai (fun z=>C z∨z=B.tb) H H'):=by
 obtain⟨x0,x1,_⟩:=aF hx
 have rq:=m.cells.Fu
 have bm:=q.len x
 refine be zd ⟨rfl,?_⟩
 refine v1 iR.eq_1 ?_
 refine(CS m q pl hx).mono ?_
 rintro kv H1 ⟨fp,m1,e1,s1,mr⟩
 have z1:=e1.size
 obtain⟨D2,o1,_⟩:=m1.own
 obtain⟨r0,_⟩:=m1.rd ⟨x0,x1⟩
 have hl:=m1.len
 refine v1 (ae o1) ?_
 refine⟨⟨by omega,by omega⟩,?_⟩
 obtain⟨L2,k2,u2,m2,e2⟩:=m1.NN ⟨x0,x1⟩ (-1)
 refine v3 m1.fI al6 Nat.add_zero ?_
 refine⟨by omega,?_⟩
 refine vs ?_
 generalize H1.wr B.tb ((aQ L).set (x.toNat*3) (Value.int .i64 (-1)))=H2 at*
 have hN:∀z,B.S C z→z<H.size:=m.slt
 have sl2:B.tb<H.size:=hN _ (.inr (.inr (.inl rfl)))
 have s2:=s1.ext e2 (fun z hz ez=>by have:=mr z hz;omega)
 obtain⟨ka,kc,rfl⟩:=Sl.shape s2
 have sJ:ai (fun z=>C z∨z=B.tb∨H.size≤z) H H2:=(e1.mono fun z _ h=>.inl h).trans (e2.mono fun z _ h=>.inr (.inl h))
 refine vs ?_
 refine bA.intro (fun mm env H'=>∃ (i:Nat) (L':List Lk),mm=(ch x).length - i∧i≤(ch x).length∧bQ H' B C w L' tops∧Sl H' 1 (.slice ka (ch x).length kc) (ch x).length ((ch x).map i64) fp∧ai (fun z=>C z∨z=B.tb∨H.size≤z) H H'∧
  (∀y,bj L' y false=if y=x then -1 else bj L y false)∧(∀c,(c∈(ch x).take i→bj L' c true= -1∧bu L' c= -1)∧(c∉ (ch x).take i→bj L' c true=bj L c true∧bu L' c=bu L c))∧
  env=[(0,ptr B.n),(5,.slice ka (ch x).length kc),(22,.slice ka (ch x).length kc),(23,i64 (ch x).length),(24,i64 i)]) _ ⟨0,L2,rfl,by omega,m2,s2,sJ,fun y=>?_,fun c=>⟨fun h=>by simp at h,fun _=>?_⟩,rfl⟩ ?_
 ·rw[k2]
  unfold eF
  by_cases hy:y=x
  ·rw[if_pos ⟨hy,rfl⟩,if_pos hy]
  ·rw[if_neg (by simp[hy]),if_neg hy]
 ·rw[k2,u2]
  unfold eF
  rw[if_neg (by simp)]
  exact⟨rfl,rfl⟩
 rintro mm env H3 ⟨i,L3,rfl,hi,m3,s3,e3,kf3,kt3,rfl⟩
 refine vs ?_
 refine ak.dec (fun gi=>?_) (fun gi=>?_)<;>refine vs ?_
 ·have oq:i< (ch x).length:=by omega
  obtain⟨c,hc⟩:∃c,(ch x)[i]? =some c:=⟨_,al5 oq⟩
  have Jt:=amb hc
  obtain⟨c0,c1,_⟩:=aF (q.dn x c Jt).2.2.2.1
  obtain⟨_,kb,lb,rfl,q2,q3⟩:=Sl.A6 s3 hc
  refine⟨⟨by omega,by omega⟩,?_⟩
  refine v5 (ae q2) al6 ama Int.toNat_natCast q3 ?_
  obtain⟨YF,o3,_⟩:=m3.own
  obtain⟨t0,_⟩:=m3.rd ⟨c0,c1⟩
  have TB:=m3.len
  refine v1 (ae o3) ?_
  refine⟨⟨by omega,by omega⟩,?_⟩
  obtain⟨L4,k4,u4,m4,e4⟩:=m3.NS ⟨c0,c1⟩ (-1)
  refine v3 m3.fI al6 Nat.add_zero ?_
  refine⟨by omega,?_⟩
  obtain⟨t1,_⟩:=m4.rd ⟨c0,c1⟩
  have W3:=m4.len
  obtain⟨L5,k5,u5,m5,e5⟩:=m4.Kv ⟨c0,c1⟩ (-1)
  refine vs ?_
  generalize H3.wr B.tb ((aQ L3).set (c.toNat*3+1) (Value.int .i64 (-1)))=H4 at*
  refine⟨⟨by omega,by omega⟩,?_⟩
  refine v3 m4.fI al6 Nat.add_zero ?_
  refine⟨by omega,?_⟩
  refine vs ?_
  have s5:=(s3.ext e4 (fun z hz ez=>by have:=mr z hz;omega)).ext e5 (fun z hz ez=>by have:=mr z hz;omega)
  refine⟨(ch x).length - (i+1),by omega,i+1,L5,rfl,by omega,m5,s5,(e3.trans (e4.mono fun z _ h=>.inr (.inl h))).trans (e5.mono fun z _ h=>.inr (.inl h)),fun y=>?_,fun d=>?_,?_⟩
  ·rw[k5,k4]
   unfold eF
   rw[if_neg (by simp)]
   exact kf3 y
  ·have tk:(ch x).take (i+1)=(ch x).take i++[c]:=by rw[amG,hc];rfl
   rw[tk,k5,k4,u5,u4]
   unfold eF aI
   by_cases hd:d=c
   ·rw[if_pos ⟨hd,rfl⟩,if_pos hd]
    exact⟨fun _=>⟨rfl,rfl⟩,fun h=>absurd (show d∈(ch x).take i++[c] by simp[hd]) h⟩
   ·rw[if_neg (by simp[hd]),if_neg hd]
    refine⟨fun h=>(kt3 d).1 ?_,fun h=>(kt3 d).2 fun h2=>h (by simp[h2])⟩
    rcases aml.1 h with h|h
    ·exact h
    ·exact absurd (amg.1 h) hd
  ·rw[wrap64 (by omega) (by omega)]
   rfl
 obtain rfl:i=(ch x).length:=by omega
 rw[amB]at kt3
 have TG:=pl.bare q kf3 (fun c hc=>(kt3 c).1 hc) (fun c hc=>(kt3 c).2 hc)
 have pw3:=q.V8 hx
 have FK:∀z,fp=some z→z<H3.size:=fun z hz=>by rw[hz]at s3;exact s3.lt
 have z3:=e3.size
 refine bA.intro (fun mm env H'=>∃ (i:Nat) (t:List Int) (wv:Value) (fq:Option Nat) (L':List Lk) (dT:Int→List Int) (bH:Int→Int),mm=(ch x).length+2 - i∧i≤(ch x).length+1∧t.length≤i∧bQ H' B C w L' tops∧
  Sl H' 1 (.slice ka (ch x).length kc) (ch x).length ((ch x).map i64) fp∧(∀z,fq=some z→H3.size≤z)∧Sl H' 1 wv t.length (t.map i64) fq∧ai (fun z=>C z∨z=B.tb∨H.size≤z) H H'∧ai (fun z=>C z∨z=B.tb∨H3.size≤z) H3 H'∧
  EG (aH w) (aV w) (aH w x) (fun y=>0<aH w y∧par y= -1) (aA ch x []) dT bH (t++(ch x).drop i)∧JQ (bj L') (bu L') dT bH∧
  env=[(0,ptr B.n),(5,.slice ka (ch x).length kc),(8,wv),(9,i64 i)]) _ ⟨0,[],_,none,L3,_,_,rfl,by omega,by simp,m3,s3,(fun z h=>by cases h),Sl.nil _ _,e3,ai.refl _ _,by simpa using pw3,TG,rfl⟩ ?_
 rintro mm env H4 ⟨i,t,wv,fq,L4,Ux,Kw,rfl,hi,hti,m4,s4,K7,t4,e4,WZ,Xa,Xb,rfl⟩
 have z4:=e4.size
 have z34:=WZ.size
 refine vs ?_
 refine ak.dec (fun gi=>?_) (fun gi=>?_)<;>refine vs ?_
 ·have oq:i< (ch x).length:=by omega
  obtain⟨c,hc⟩:∃c,(ch x)[i]? =some c:=⟨_,al5 oq⟩
  have Jt:=amb hc
  have Qc:=q.ne Jt
  have dr:(ch x).drop i=c::(ch x).drop (i+1):=by
   rw[ang oq]
   congr 1
   rw[al5 oq]at hc
   injection hc
  obtain⟨_,kb,lb,rfl,q2,q3⟩:=Sl.A6 s4 hc
  refine ak.dec (fun g1=>?_) (fun g1=>?_)<;>refine vs ?_
  ·rw[wrap64 (by omega) (by omega)]at g1
   refine⟨⟨by omega,by omega⟩,?_⟩
   refine v5 (ae q2) al6 ama Int.toNat_natCast q3 ?_
   refine EK (B:=H3.size) K7 z34 t4 c (by omega) fun w' H5 fq' Sx t5 e5=>?_
   refine vs ?_
   have m5:=m4.ext e5 (fun z hz ez=>by have:=m.slt z hz;omega)
   have s5:=s4.ext e5 (fun z hz ez=>by have:=FK z hz;omega)
   refine⟨(ch x).length+2 - (i+2),by omega,i+2,t++[c],w',fq',L4,Ux,Kw,rfl,by omega,by simp;omega,m5,s5,Sx,t5,e4.trans (e5.mono fun z _ h=>.inr (.inr (by omega))),WZ.trans (e5.mono fun z _ h=>.inr (.inr h)),?_,Xb,?_⟩
   ·rw[dr]at Xa
    rw[anH (by omega)]
    rw[anH (by omega)]at Xa
    simpa using Xa
   ·rw[wrap64 (by omega) (by omega)];rfl
  ·rw[wrap64 (by omega) (by omega)]at g1
   have uU:i+1< (ch x).length:=by omega
   obtain⟨d,hd⟩:∃d,(ch x)[i+1]? =some d:=⟨_,al5 uU⟩
   have TV:=amb hd
   have Wr:=q.ne TV
   have dr2:(ch x).drop (i+1)=d::(ch x).drop (i+2):=by
    rw[ang uU]
    congr 1
    rw[al5 uU]at hd
    injection hd
   obtain⟨_,ES,lb2,ek,q5,q4⟩:=Sl.A6 s4 hd
   injection ek with ek
   injection ek with ek
   subst ek
   rw[q2]at q5
   injection q5 with q5
   subst q5
   refine⟨⟨by omega,by omega⟩,?_⟩
   refine v5 (ae q2) al6 ama Int.toNat_natCast q3 ?_
   rw[wrap64 (by omega) (by omega)]
   refine⟨⟨by omega,by omega⟩,?_⟩
   refine v5 (ae q2) al6 ama (show((i:Int)+1).toNat=i+1 by omega) q4 ?_
   have w2:ws [c,d]=[c,d]:=by rw[pE,ec,ec,if_neg Qc,if_neg Wr];rfl
   have Xc:EG (aH w) (aV w) (aH w x) (fun y=>0<aH w y∧par y= -1) (aA ch x []) Ux Kw (ws [c,d]++(t++(ch x).drop (i+2))):=by
    rw[w2]
    rw[dr,dr2]at Xa
    refine Xa.perm ?_
    have h1:(t++c::d::(ch x).drop (i+2)).Perm (c::(t++d::(ch x).drop (i+2))):=anU
    have h2:(t++d::(ch x).drop (i+2)).Perm (d::(t++(ch x).drop (i+2))):=anU
    exact h1.trans (h2.cons c)
   refine(dh m4 Xc Xb).mono ?_
   rintro _ H5 ⟨r,L5,YW,Qp,rfl,hr,m5,pw6,pl5,e5⟩
   have hrn:r≠ -1:=fun h=>Qc (hr h).1
   have z5:=e5.size
   have t5:=t4.ext e5 (fun z hz ez=>by have:=K7 z hz;rcases ez with h|h;have:=m.slt z (.inl h);omega;omega)
   have s5:=s4.ext e5 (fun z hz ez=>by have:=mr z hz;rcases ez with h|h;have:=m.slt z (.inl h);omega;omega)
   refine vs ?_
   refine EK (B:=H3.size) K7 (by omega) t5 r (by omega) fun w' H6 fq' Sx t6 e6=>?_
   refine vs ?_
   have m6:=m5.ext e6 (fun z hz ez=>by have:=m.slt z hz;omega)
   have s6:=s5.ext e6 (fun z hz ez=>by have:=FK z hz;omega)
   refine⟨(ch x).length+2 - (i+2),by omega,i+2,t++[r],w',fq',L5,YW,Qp,rfl,by omega,by simp;omega,m6,s6,Sx,t6,(e4.trans (e5.mono fun z _ h=>h.elim .inl fun h=>.inr (.inl h))).trans (e6.mono fun z _ h=>.inr (.inr (by omega))),(WZ.trans (e5.mono fun z _ h=>h.elim .inl fun h=>.inr (.inl h))).trans (e6.mono fun z _ h=>.inr (.inr h)),?_,pl5,?_⟩
   ·rw[ec,if_neg hrn]at pw6
    refine pw6.perm ?_
    rw[an5]
    exact(anU (l₁:=t) (a:=r) (l₂:=(ch x).drop (i+2))).symm
   ·rw[wrap64 (by omega) (by omega)];rfl
 rw[anH (by omega),amW]at Xa
 have MT:t.length≤65537:=by omega
 obtain⟨ta,tc,rfl⟩:=Sl.shape t4
 refine vs ?_
 refine bA.intro (fun mm env H'=>∃ (j:Nat) (r:Int) (L':List Lk) (dT:Int→List Int) (bH:Int→Int),mm=j∧j≤t.length∧bQ H' B C w L' tops∧
  Sl H' 1 (.slice ta t.length tc) t.length (t.map i64) fq∧ai (fun z=>C z∨z=B.tb∨H.size≤z) H H'∧
  EG (aH w) (aV w) (aH w x) (fun y=>0<aH w y∧par y= -1) (aA ch x []) dT bH (ws [r]++t.take j)∧JQ (bj L') (bu L') dT bH∧
  env=[(0,ptr B.n),(8,.slice ta t.length tc),(10,i64 r),(11,i64 ((j:Int) - 1))]) _ ⟨t.length, -1,L4,Ux,Kw,rfl,ami _,m4,t4,e4,by rw[ec,if_pos rfl,amB];exact Xa,Xb,?_⟩ ?_
 ·rw[wrap64 (by omega) (by omega)]
 rintro mm env H5 ⟨j,r,L5,YW,Qp,hmj,hj,m5,t5,e5,Xc,pl5,rfl⟩
 obtain rfl:=hmj.symm
 refine vs ?_
 refine ak.dec (fun gj=>?_) (fun gj=>?_)<;>refine vs ?_
 ·obtain⟨k,rfl⟩:∃k,j=k+1:=⟨j - 1,by omega⟩
  obtain⟨c,hc⟩:∃c,t[k]? =some c:=⟨_,al5 (by omega)⟩
  obtain⟨_,kb,lb,rfl,q2,q3⟩:=Sl.A6 t5 hc
  have ji:((((k+1:Nat):Int) - 1)).toNat=k:=by omega
  refine⟨⟨by omega,by omega⟩,?_⟩
  refine v5 (ae q2) al6 ama ji q3 ?_
  have tk:t.take (k+1)=t.take k++[c]:=by rw[amG,hc];rfl
  have Qc:c≠ -1:=(Xc.wm c (by rw[tk];simp)).1
  have pw6:EG (aH w) (aV w) (aH w x) (fun y=>0<aH w y∧par y= -1) (aA ch x []) YW Qp (ws [c,r]++t.take k):=by
   rw[tk]at Xc
   refine Xc.perm ?_
   rw[pE c [r],ec c,if_neg Qc]
   have h1:(ws [r]++(t.take k++[c])).Perm ((ws [r]++t.take k)++[c]):=by rw[an5]
   refine h1.trans (am1.trans ?_)
   rw[an5]
  refine(dh m5 pw6 pl5).mono ?_
  rintro _ H6 ⟨r2,L6,YP,NO,rfl,hr,m6,pw7,pl6,e6⟩
  have t6:=t5.ext e6 (fun z hz ez=>by have:=K7 z hz;rcases ez with h|h;have:=m.slt z (.inl h);omega;omega)
  refine vs ?_
  refine⟨k,by omega,k,r2,L6,YP,NO,rfl,by omega,m6,t6,e5.trans (e6.mono fun z _ h=>h.elim .inl fun h=>.inr (.inl h)),pw7,pl6,?_⟩
  rw[show((k+1:Nat):Int) - 1 - 1=(k:Int) - 1 by omega,wrap64 (by omega) (by omega)]
 ·obtain rfl:j=0:=by omega
  rw[List.take_zero,amW]at Xc
  exact⟨r,L5,YW,Qp,rfl,m5,pl5,Xc,e5.mono fun z hz h=>h.elim .inl fun h=>.inr (by omega)⟩
end
end Go.Proofs.YtjlnnljohemifaaGreat

namespace Go.Proofs.YtjlnnljohemifaaGreat
open Go Go.Vc
structure Me(w:Nw)(L:List Lk)(tops:List Int)(ch:Int→List Int)(par:Int→Int):Prop where
 t:TS (aH w) (aV w) ch par (br tops)
 pl:JQ (bj L) (bu L) ch par
 tl:tops.length=w.hs.length
def dJ(n:Nat)(H:Hp)(S:Nat→Prop)(w:Nw):Prop:=∃ (B:PB) (C:Nat→Prop) (L:List Lk) (tops:List Int) (ch:Int→List Int) (par:Int→Int),B.n=n∧bQ H B C w L tops∧Me w L tops ch par∧∀z,S z↔B.S C z
theorem dJ.slt{n:Nat}{H:Hp}{S:Nat→Prop}{w:Nw}(h:dJ n H S w):∀z,S z→z<H.size:=by
 obtain⟨B,C,L,tops,ch,par,rfl,m,l,hS⟩:=h
 exact fun z hz=>m.slt z ((hS z).1 hz)
theorem dJ.ext{n:Nat}{H H':Hp}{S V:Nat→Prop}{w:Nw}(h:dJ n H S w)(e:ai V H H')(hd:∀z,S z→¬V z):dJ n H' S w:=by
 obtain⟨B,C,L,tops,ch,par,rfl,m,l,hS⟩:=h
 exact⟨B,C,L,tops,ch,par,rfl,m.ext e (fun z hz=>hd z ((hS z).2 hz)),l,hS⟩
theorem Ep(cap:Int)(H:Hp):ah Tryz.prog Ii [i64 cap] H fun v H'=>ay (
  ax H H'∧((¬ (0≤cap∧cap≤65536)∧v= .tuple [.pointer none,i64 31].toArray)∨
   ((0≤cap∧cap≤65536)∧∃n S,v= .tuple [ptr n,i64 0].toArray∧dJ n H' S (CA cap)∧∀x,S x→H.size≤x))):=by
 refine be Iv ⟨rfl,?_⟩
 refine v1 rT.eq_1 ?_
 refine(nT cap H).mono ?_
 rintro _ H1 ⟨f1,⟨hb,rfl⟩| ⟨hb,c,C,rfl,c1,hC⟩⟩
 ·refine vs ?_
  exact⟨f1,.inl ⟨hb,rfl⟩⟩
 refine v1 amp ?_
 refine⟨⟨by omega,by omega,by omega,by omega⟩,?_⟩
 refine vs ?_
 rw[OT]
 have zF:=c1.slt
 have z1:=f1.size
 have f3:ax H1 (((H1.new 265 (aQ (List.replicate cap.toNat ⟨0,0,0⟩))).new 3 [Value.int .i64 (-1)]).new 263 [ptr c,.slice (some ⟨H1.size,0,none⟩) cap.toNat cap.toNat,.slice (some ⟨H1.size+1,0,none⟩) 1 1]):=(((ai.refl _ _).new _ _).new _ _).new _ _
 have e1:ai (fun _=>False) (H1.new 265 (aQ (List.replicate cap.toNat ⟨0,0,0⟩))) (((H1.new 265 (aQ (List.replicate cap.toNat ⟨0,0,0⟩))).new 3 [Value.int .i64 (-1)]).new 263 [ptr c,.slice (some ⟨H1.size,0,none⟩) cap.toNat cap.toNat,.slice (some ⟨H1.size+1,0,none⟩) 1 1]):=((ai.refl _ _).new _ _).new _ _
 have e2:ai (fun _=>False) ((H1.new 265 (aQ (List.replicate cap.toNat ⟨0,0,0⟩))).new 3 [Value.int .i64 (-1)]) (((H1.new 265 (aQ (List.replicate cap.toNat ⟨0,0,0⟩))).new 3 [Value.int .i64 (-1)]).new 263 [ptr c,.slice (some ⟨H1.size,0,none⟩) cap.toNat cap.toNat,.slice (some ⟨H1.size+1,0,none⟩) 1 1]):=(ai.refl _ _).new _ _
 obtain⟨B,hB⟩:∃B:PB,B=⟨H1.size+1+1,c,H1.size,H1.size+1⟩:=⟨_,rfl⟩
 have m0:bQ (((H1.new 265 (aQ (List.replicate cap.toNat ⟨0,0,0⟩))).new 3 [Value.int .i64 (-1)]).new 263 [ptr c,.slice (some ⟨H1.size,0,none⟩) cap.toNat cap.toNat,.slice (some ⟨H1.size+1,0,none⟩) 1 1]) B C (CA cap) (List.replicate cap.toNat ⟨0,0,0⟩) [-1]:=by
  subst hB
  refine⟨⟨.slice (some ⟨H1.size+1,0,none⟩) 1 1,?_,?_⟩,c1.fresh f3,?_,?_,?_,?_⟩
  ·rw[amV]
   exact bD (by simp only[au])
  ·exact(Sl.dE (size:=1) (n:=1) (xs:=[i64 (-1)]) rfl (by simp only[au])).ext e2 (fun _ _ h=>h)
  ·exact e1.own (aG _ _ _) (fun h=>h)
  ·simp[CA]
  ·refine⟨?_,?_,?_⟩<;>simp only<;>omega
  ·refine⟨fun h=>?_,fun h=>?_,fun h=>?_⟩<;>(have h2:=zF _ h;first|omega| (simp only at h2;omega))
 have FG:B.n=H1.size+1+1:=by rw[hB]
 have hBs:∀z,B.S C z→H1.size≤z∨C z:=fun z hz=>by
  rcases hz with hz|rfl|rfl|rfl
  ·exact .inr hz
  all_goals rw[hB];left;first|omega| (simp only;omega)
 have hBt:B.tb=H1.size:=by rw[hB]
 have ft:=f1.trans f3
 generalize ((H1.new 265 (aQ (List.replicate cap.toNat ⟨0,0,0⟩))).new 3 [Value.int .i64 (-1)]).new 263 [ptr c,.slice (some ⟨H1.size,0,none⟩) cap.toNat cap.toNat,.slice (some ⟨H1.size+1,0,none⟩) 1 1]=H2 at*
 obtain⟨tv0,o0,_⟩:=m0.own
 rw[amV,FG]at o0
 refine bA.intro (fun m env H'=>∃j:Nat,m=cap.toNat - j∧j≤cap.toNat∧ai (fun z=>z=B.tb) H2 H'∧bQ H' B C (CA cap) (List.replicate j mw++List.replicate (cap.toNat - j) ⟨0,0,0⟩) [-1]∧
  env=[(6,ptr (H1.size+1+1)),(26,i64 (cap.toNat:Nat)),(27,i64 j)]) cap.toNat ⟨0,by omega,by omega,ai.refl _ _,by simpa using m0,rfl⟩ ?_
 rintro m env H3 ⟨j,rfl,hj,e3,m3,rfl⟩
 have pJ:=kI (List.replicate j mw++List.replicate (cap.toNat - j) (⟨0,0,0⟩:Lk))
 have wh:(List.replicate j mw++List.replicate (cap.toNat - j) (⟨0,0,0⟩:Lk)).length=cap.toNat:=by simp;omega
 obtain⟨YF,o3,_⟩:=m3.own
 rw[wh]at pJ o3
 rw[FG]at o3
 refine vs ?_
 refine ak.dec (fun aR=>?_) (fun aR=>?_)<;>refine vs ?_
 ·refine v1 (ae o3) ?_
  refine⟨by omega,?_⟩
  refine v3 m3.fI al6 Int.toNat_natCast ?_
  refine⟨by omega,?_⟩
  have q3:=Jy (L:=List.replicate j mw++List.replicate (cap.toNat - j) (⟨0,0,0⟩:Lk)) (i:=j) (by omega) mw
  have q4:(List.replicate j mw++List.replicate (cap.toNat - j) (⟨0,0,0⟩:Lk)).set j mw=List.replicate (j+1) mw++List.replicate (cap.toNat - (j+1)) (⟨0,0,0⟩:Lk):=by
   rw[an6 _ _ (by simp),amV,am3,show cap.toNat - j=(cap.toNat - (j+1))+1 by omega,amR,anq,aob]
   simp
  rw[q4]at q3
  obtain⟨m4,e4⟩:=m3.O9 (L':=List.replicate (j+1) mw++List.replicate (cap.toNat - (j+1)) (⟨0,0,0⟩:Lk)) (by simp;omega)
  rw[show bq (aQ (List.replicate j mw++List.replicate (cap.toNat - j) (⟨0,0,0⟩:Lk))) (j*3) (aJ (Value.agg #[Value.int .i64 (-1),Value.int .i64 (-1),Value.int .i64 (-1)]))=_ from q3]
  refine vs ?_
  rw[wrap64 (n:=(j:Int)+1) (by omega) (by omega)]
  exact⟨cap.toNat - (j+1),by omega,j+1,rfl,by omega,e3.trans e4,m4,rfl⟩
 ·obtain rfl:j=cap.toNat:=by omega
  rw[am3,aoe,amW]at m3
  rw[←FG]
  refine⟨ft.then e3 (fun z hz=>by omega),.inr ⟨hb,B.n,B.S C,rfl,⟨B,C,_,[-1],fun _=>[],fun _=> -1,rfl,m3,⟨⟨⟨rfl,fun x c hc=>absurd hc (by simp),fun c x h hx=>absurd (Eq.symm h) hx,fun x=>ani⟩,
   ⟨fun x p h hp=>absurd (Eq.symm h) hp,fun g hg=>absurd (D7 g) hg,fun x hx=>absurd hx (nX cap x)⟩⟩,⟨fun x=>Cz _ _ _,fun x=>trivial,fun c _=>⟨Cz _ _ _,G0 _ _⟩⟩,rfl⟩,fun z=>Iff.rfl⟩,fun z hz=>?_⟩⟩
  rcases hBs z hz with h|h
  ·omega
  ·exact hC z h
theorem CT{n:Nat}{H:Hp}{S:Nat→Prop}{w:Nw}(h:dJ n H S w):ah Tryz.prog o9 [ptr n] H fun v H'=>ay (
  (w.hs.length=65537∧v=i64 0∧cC (dJ n) S H H' w)∨(w.hs.length≠65537∧v=i64 w.hs.length∧cC (dJ n) S H H' w.make)):=by
 obtain⟨B,C,L,tops,ch,par,rfl,m,l,hS⟩:=id h
 obtain⟨tv,ho,EM⟩:=m.own
 refine be zb ⟨rfl,?_⟩
 refine v2 iP.eq_1 (ae ho) ?_
 refine(lX m.cells).mono ?_
 rintro _ H1 (⟨h1,rfl,rfl⟩| ⟨h1,rfl,C',c1,e1,Ba⟩)
 ·refine vs ?_
  exact .inl ⟨h1,rfl,cC.same h (ai.refl _ _)⟩
 have gD:=m.cells.pos
 have hhs:=m.cells.EM
 have MT:=l.tl
 have slt:=m.slt
 have LW:=c1.slt
 obtain⟨n1,n2,n3⟩:=m.out
 obtain⟨d1,d2,d3⟩:=m.qY
 have o1:=e1.own ho n1
 refine vs ?_
 refine ak.cE (amj (by omega)) ?_
 refine v1 (ae o1) ?_
 have s1:=EM.ext e1 (fun b hb=>by injection hb with hb;exact hb▸n3)
 refine RU s1 (-1) (by omega) fun w' H2 b' wx s2 e2=>?_
 have o2:=e2.own o1 d2
 obtain⟨wa,wc,ND⟩:=Sl.shape s2
 subst ND
 refine v1 o2 ?_
 generalize ND:Value.slice wa (tops++[-1]).length wc=w' at*
 have e3:ai (fun z=>z=B.n) H2 (H2.wr B.n [ptr B.c,.slice (some ⟨B.tb,0,none⟩) L.length L.length,w']):=(ai.refl (fun z=>z=B.n) _).wr (fun _=>rfl) _
 have z1:=e1.size
 have hn:=slt _ (.inr (.inl rfl))
 have ht:=slt _ (.inr (.inr (.inl rfl)))
 have htp:=slt _ (.inr (.inr (.inr rfl)))
 have G1:∀z,C' z→z≠b'∧(z<H.size→C z):=fun z hz=>by
  have h5:=LW z hz
  rcases Ba z hz with h6|h6
  ·refine⟨fun e=>?_,fun _=>h6⟩
   rcases wx with h7|h7
   ·exact n3 (by rw[←h7,←e];exact h6)
   ·omega
  ·exact⟨by omega,fun h=>by omega⟩
 refine .inr ⟨h1,rfl,(PB.mk B.n B.c B.tb b').S C',⟨⟨B.n,B.c,B.tb,b'⟩,C',L,tops++[-1],ch,par,rfl,⟨⟨w',aj o2,s2.ext e3 (fun b hb=>by injection hb with hb;omega)⟩,?_,?_,m.len,?_,?_⟩,⟨by rw[Cu];exact l.t,l.pl,?_⟩,fun z=>Iff.rfl⟩,?_,fun z hz=>?_⟩
 ·exact(c1.ext e2 (fun x hx e=>by
   rcases Ba x hx with h6|h6
   ·exact n3 (e▸h6)
   ·omega)).ext e3 (fun x hx e=>by
   rcases Ba x hx with h6|h6
   ·exact n1 (e▸h6)
   ·omega)
 ·exact e3.own (e2.own (e1.own m.fI n2) d3) (Ne.symm d1)
 ·refine⟨d1,?_,?_⟩<;>simp only<;>omega
 ·exact⟨fun h=>n1 ((G1 _ h).2 hn),fun h=>n2 ((G1 _ h).2 ht),fun h=>(G1 _ h).1 rfl⟩
 ·simp[Nw.make,MT]
 ·exact((e1.mono fun z _ h=>(hS z).2 (.inl h)).trans (e2.mono fun z _ h=>(hS z).2 (.inr (.inr (.inr h))))).trans (e3.mono fun z _ h=>(hS z).2 (.inr (.inl h)))
 ·rcases hz with hz|rfl|rfl|rfl
  ·rcases Ba z hz with h6|h6
   ·exact .inl ((hS z).2 (.inl h6))
   ·exact .inr h6
  ·exact .inl ((hS _).2 (.inr (.inl rfl)))
  ·exact .inl ((hS _).2 (.inr (.inr (.inl rfl))))
  ·rcases wx with rfl|h7
   ·exact .inl ((hS _).2 (.inr (.inr (.inr rfl))))
   ·exact .inr (by first|omega| (simp only;omega))
theorem Me.first{w:Nw}{L:List Lk}{tops:List Int}{ch:Int→List Int}{par:Int→Int}(l:Me w L tops ch par){g x:Int}(h:w.first g x):br tops g=x:=by
 obtain⟨h1,h2,h3⟩:=bN.1 h
 have:=l.t.tp.first (x:=x) (by omega) (fun y hy aT=>h3 y (by omega) aT) (aq w)
 rwa[h2]at this
theorem tD{n:Nat}{H:Hp}{S:Nat→Prop}{w:Nw}(h:dJ n H S w)(g:Int):ah Tryz.prog qa [ptr n,i64 g] H fun v H'=>ay (
  ((w.len g=0∧v= .tuple [i64 0,.bool false].toArray)∨∃x,w.first g x∧v= .tuple [i64 x,.bool true].toArray)∧H'=H):=by
 obtain⟨B,C,L,tops,ch,par,rfl,m,l,hS⟩:=h
 obtain⟨cc,lt,ho,q2,De,zC,OY⟩:=m.hZ
 refine be AO ⟨rfl,?_⟩
 refine v2 jS.eq_1 (ae ho) ?_
 refine(xm m.cells g).mono ?_
 rintro _ _ ⟨rfl,rfl⟩
 refine vs ?_
 refine ak.dec (fun h0=>?_) (fun h0=>?_)
 ·refine vs ?_
  exact⟨.inl ⟨h0,rfl⟩,rfl⟩
 have hg:0<g:=amr fun hg=>h0 (Nw.IP.2 (.inl (by omega)))
 obtain⟨x,hx⟩:=xl hg h0
 have hh:=(bN.1 hx).2.1
 have dw:=((m.cells.hm x).2 (by omega)).2
 rw[hh,←l.tl]at dw
 have q3:=m.fB q2 (dW (tops:=tops) (h:=g) (by omega) dw)
 rw[l.first hx]at q3
 refine v1 (ae ho) ?_
 refine⟨⟨by omega,by omega⟩,?_⟩
 refine v4 (ae q2) al6 ama q3 ?_
 exact⟨.inr ⟨x,hx,rfl⟩,rfl⟩
set_option maxRecDepth 100000 in
theorem zx{n:Nat}{H:Hp}{S:Nat→Prop}{w:Nw}(h:dJ n H S w)(g x k s:Int):ah Tryz.prog mA [ptr n,i64 g,i64 x,vV k s] H fun v H'=>ay (
  (¬w.oP g x∧v= .bool false∧cC (dJ n) S H H' w)∨(w.oP g x∧v= .bool true∧cC (dJ n) S H H' (w.put x (g,k,s)))):=by
 obtain⟨B,C,L,tops,ch,par,rfl,m,l,hS⟩:=h
 have hC:∀z,C z→S z:=fun z h=>(hS z).2 (.inl h)
 have t1:S B.tb:=(hS _).2 (.inr (.inr (.inl rfl)))
 have t2:S B.tp:=(hS _).2 (.inr (.inr (.inr rfl)))
 refine be vL ⟨rfl,?_⟩
 refine v1 mE.eq_1 ?_
 have f0:ax H (H.new 224 [i64 k,u64 s]):=(ai.refl _ _).new _ _
 have b0:(H.new 224 [i64 k,u64 s]).own H.size=some [i64 k,u64 s]:=aG _ _ _
 have m0:=m.fresh f0
 generalize H.new 224 [i64 k,u64 s]=H0 at*
 have ff:ai S H H0:=f0.mono fun _ _ h=>h.elim
 obtain⟨tv,Ki,_⟩:=m0.own
 refine v2 (ae Ki) (ae b0) ?_
 refine(nS m0.cells g x k s).mono ?_
 rintro _ H1 (⟨cr,rfl,c1,e1⟩| ⟨tw,rfl,c1,e1⟩)
 ·refine vs ?_
  exact .inl ⟨cr,rfl,cC.same ⟨B,C,L,tops,ch,par,rfl,m0.aK c1 e1 rfl,l,hS⟩ (ff.trans (e1.mono fun z _ hz=>hC z hz))⟩
 obtain⟨hh,hx,bS⟩:=id tw
 have m2:=m0.aK c1 e1 (by simp[Nw.put])
 have hg:=hh.1
 have dw:g<tops.length:=by
  have:=(al7.1 hh.2).1
  have:=l.tl
  omega
 have cU:=fun y=>eC hx (g,k,s) y
 have bo:Tx (aH (w.put x (g,k,s))) (aV (w.put x (g,k,s))) ch par (br tops) g x:=by
  refine l.t.ins rfl (Int.not_lt.1 fun h=>bS (bK.1 h)) (by omega) (by omega) (by rw[cU,if_pos rfl]) (fun y hy=>by rw[cU,if_neg hy]) (fun a b ha hb tM pt=>dG hx _ ha hb tM pt)
 obtain⟨cc,lt,o2,q2,De,zC,OY⟩:=m2.hZ
 have q3:=m2.fB q2 (dW (tops:=tops) (h:=g) (by omega) dw)
 refine vs ?_
 refine qZ.intro (fun H'=>H'.own B.n=some [ptr B.c,.slice (some ⟨B.tb,0,none⟩) L.length L.length,.slice (some ⟨B.tp,0,none⟩) tops.length cc]) o2 ?_
 refine vs ?_
 refine qF.intro (.slice (some ⟨B.tp,0,none⟩) tops.length cc) (fun H' hI=>by refine v1 (ae hI) ?_;trivial) ?_
 refine v1 (ae o2) ?_
 refine And.intro o2 ?_
 refine vs ?_
 refine⟨⟨by omega,by omega⟩,?_⟩
 refine v4 (ae q2) al6 ama q3 ?_
 refine And.intro o2 ?_
 refine vs ?_
 have bw:=bo.w
 rw[show ws [br tops g,x]=ws [br tops g,x]++[] by simp]at bw
 refine(dh m2 bw l.pl).mono ?_
 rintro _ H3 ⟨r,L3,MV,sz,rfl,_,m3,w3,p3,e3⟩
 rw[amW]at w3
 have bn:=bo.done w3
 obtain⟨d1,d2,d3⟩:=m2.qY
 have no:¬ (C B.n∨B.n=B.tb):=by rintro(h|h);exact m2.out.1 h;omega
 refine And.intro (e3.own o2 no) ?_
 have q4:=e3.own q2 (by rintro(h|h);exact m2.out.2.2 h;omega)
 refine vs ?_
 refine⟨⟨by omega,by omega⟩,?_⟩
 refine v3 q4 al6 ama ?_
 refine⟨by omega,?_⟩
 obtain⟨m4,e4⟩:=m3.nV q4 g.toNat r
 refine And.intro (e4.own (e3.own o2 no) d2) ?_
 refine vs ?_
 refine .inr ⟨tw,rfl,cC.same ⟨B,C,L3,_,MV,sz,rfl,m4,⟨?_,p3,by rw[al8];exact l.tl⟩,hS⟩ (((ff.trans (e1.mono fun z _ h=>hC z h)).trans (e3.mono fun z _ h=>by rcases h with h|rfl;exact hC z h;exact t1)).trans (e4.mono fun z _ h=>h▸t2))⟩
 rw[eU (by omega) dw]
 exact bn
theorem Me.below{w:Nw}{L:List Lk}{tops:List Int}{ch:Int→List Int}{par:Int→Int}(l:Me w L tops ch par){x:Int}(hx:0<aH w x)(ht:br tops (aH w x)≠x):∃p l1 l2,ch p=l1++x::l2:=by
 have hp:par x≠ -1:=fun h=>ht (l.t.tp.t2 x hx h)
 obtain⟨l1,l2,h⟩:=List.append_of_mem (l.t.pr.up x _ rfl hp)
 exact⟨par x,l1,l2,h⟩
set_option maxRecDepth 100000 in
theorem we{n:Nat}{H:Hp}{S:Nat→Prop}{w:Nw}(h:dJ n H S w)(x k s:Int):ah Tryz.prog kj [ptr n,i64 x,vV k s] H fun v H'=>ay (
  (¬w.dc x k s∧v= .bool false∧cC (dJ n) S H H' w)∨(w.dc x k s∧v= .bool true∧∃y,w.cs[x.toNat]? =some y∧cC (dJ n) S H H' (w.put x (y.1,k,s)))):=by
 obtain⟨B,C,L,tops,ch,par,rfl,m,l,hS⟩:=h
 have hC:∀z,C z→S z:=fun z h=>(hS z).2 (.inl h)
 have t1:S B.tb:=(hS _).2 (.inr (.inr (.inl rfl)))
 have t2:S B.tp:=(hS _).2 (.inr (.inr (.inr rfl)))
 refine be sY ⟨rfl,?_⟩
 refine v1 kA.eq_1 ?_
 have f0:ax H (H.new 224 [i64 k,u64 s]):=(ai.refl _ _).new _ _
 have b0:(H.new 224 [i64 k,u64 s]).own H.size=some [i64 k,u64 s]:=aG _ _ _
 have m0:=m.fresh f0
 generalize H.new 224 [i64 k,u64 s]=H0 at*
 have ff:ai S H H0:=f0.mono fun _ _ h=>h.elim
 obtain⟨tv,Ki,_⟩:=m0.own
 refine v2 (ae Ki) (ae b0) ?_
 refine(jm m0.cells x k s).mono ?_
 rintro _ H1 (⟨cr,rfl,c1,e1⟩| ⟨bS,rfl,y,hy,gv,c1,e1⟩)
 ·refine vs ?_
  exact .inl ⟨cr,rfl,cC.same ⟨B,C,L,tops,ch,par,rfl,m0.ext e1 (fun _ _ h=>h),l,hS⟩ (ff.trans (e1.mono fun _ _ h=>h.elim))⟩
 have rB:(w.put x (y.1,k,s)).cs.length=w.cs.length:=by simp[Nw.put]
 have m1:=m0.aK c1 e1 rB
 have CC:w.dc x k s:=⟨bS,fun z hz=>by rw[hy]at hz;injection hz with hz;rw[←hz];exact gv⟩
 have hx:0≤x∧x<w.cs.length:=⟨bS.1,by have:=(al7.1 hy).1;have:=bS.1;omega⟩
 have Q3:aH w x=y.1:=ng bS.1 hy
 have dZ:=bK.2 bS
 have hw:aH (w.put x (y.1,k,s))=aH w:=by
  funext z
  rw[eC hx]
  split
  ·rename_i e;rw[e,Q3]
  ·rfl
 have FJ:cZ (w.put x (y.1,k,s)).cs x:=bK.1 (by rw[hw];exact dZ)
 obtain⟨D2,o1,_⟩:=m1.own
 refine v1 (ae o1) ?_
 refine(dt m1.cells x).mono ?_
 rintro _ H2 (⟨cr,_,_⟩| ⟨_,rfl,c2,e2⟩)
 ·exact absurd FJ cr
 have m2:=m1.aK c2 e2 rfl
 have sJ:ai S H H2:=(ff.trans (e1.mono fun z _ h=>hC z h)).trans (e2.mono fun z _ h=>hC z h)
 have el:∀a b,0<aH w a→0<aH w b→a≠x→b≠x→aV (w.put x (y.1,k,s)) a b=aV w a b:=fun a b ha hb tM pt=>dG hx _ ha hb tM pt
 have ex:∀b,0<aH w b→b≠x→aV w x b=true→aV (w.put x (y.1,k,s)) x b=true:=fun b hb pt h=>Ct bS hy gv hb pt h
 have dw:aH w x<tops.length:=by
  have:=((m.cells.hm x).2 dZ).2
  have:=l.tl
  omega
 obtain⟨cc,lt,o2,q2,De,zC,OY⟩:=m2.hZ
 have q3:=m2.fB q2 (dW (tops:=tops) (h:=aH w x) (by omega) dw)
 rw[hw]
 refine v1 (ae o2) ?_
 refine⟨⟨by omega,by omega⟩,?_⟩
 refine v4 (ae q2) al6 ama q3 ?_
 refine ak.dec (fun gt=>?_) (fun gt=>?_)<;>refine vs ?_
 ·have hu:par x= -1:=by
   have:=(l.t.tp.t1 (aH w x) (by rw[gt];omega)).2.2
   rwa[gt]at this
  refine .inr ⟨CC,rfl,y,hy,cC.same ⟨B,C,L,tops,ch,par,rfl,m2,⟨?_,l.pl,l.tl⟩,hS⟩ sJ⟩
  rw[hw]
  exact l.t.TP hu el ex
 obtain⟨p,l1,l2,hp⟩:=l.below dZ gt
 have po:=(l.t.off hp).low el ex
 refine(tC m2 (aq w) (by rw[hw];exact l.t.pr) l.pl hp).mono ?_
 rintro _ H4 ⟨L4,m4,p4,e4⟩
 have Bw:ai S H H4:=sJ.trans (e4.mono fun z _ h=>h▸t1)
 rw[←hw]at po
 have dw:aH (w.put x (y.1,k,s)) x<tops.length:=by rw[hw];exact dw
 have Sf:=po.g0
 refine vs ?_
 generalize hg:aH (w.put x (y.1,k,s)) x=g at*
 rw[←hw,hg]
 obtain⟨cc,lt,o4,q2,De,zC,OY⟩:=m4.hZ
 have q3:=m4.fB q2 (dW (tops:=tops) (h:=g) (by omega) dw)
 refine qZ.intro (fun H'=>H'.own B.n=some [ptr B.c,.slice (some ⟨B.tb,0,none⟩) L4.length L4.length,.slice (some ⟨B.tp,0,none⟩) tops.length cc]) o4 ?_
 refine vs ?_
 refine qF.intro (.slice (some ⟨B.tp,0,none⟩) tops.length cc) (fun H' hI=>by refine v1 (ae hI) ?_;trivial) ?_
 refine v1 (ae o4) ?_
 refine And.intro o4 ?_
 refine vs ?_
 refine⟨⟨by omega,by omega⟩,?_⟩
 refine v4 (ae q2) al6 ama q3 ?_
 refine And.intro o4 ?_
 refine vs ?_
 have bw:=po.w
 rw[show ws [br tops g,x]=ws [br tops g,x]++[] by simp]at bw
 refine(dh m4 bw p4).mono ?_
 rintro _ H5 ⟨r,L5,YW,Qp,rfl,_,m5,w5,p5,e5⟩
 rw[amW]at w5
 have bn:=po.done w5
 obtain⟨d1,d2,d3⟩:=m4.qY
 have no:¬ (C B.n∨B.n=B.tb):=by rintro(h|h);exact m4.out.1 h;omega
 refine And.intro (e5.own o4 no) ?_
 have q4:=e5.own q2 (by rintro(h|h);exact m4.out.2.2 h;omega)
 refine vs ?_
 refine⟨⟨by omega,by omega⟩,?_⟩
 refine v3 q4 al6 ama ?_
 refine⟨by omega,?_⟩
 obtain⟨m6,e6⟩:=m5.nV q4 g.toNat r
 refine And.intro (e6.own (e5.own o4 no) d2) ?_
 refine vs ?_
 refine .inr ⟨CC,rfl,y,hy,cC.same ⟨B,C,L5,_,YW,Qp,rfl,m6,⟨?_,p5,by rw[al8];exact l.tl⟩,hS⟩ ((Bw.trans (e5.mono fun z _ h=>by rcases h with h|rfl;exact hC z h;exact t1)).trans (e6.mono fun z _ h=>h▸t2))⟩
 rw[eU (by omega) dw]
 exact bn
set_option maxRecDepth 100000 in
set_option maxHeartbeats 1000000 in
theorem zy{n:Nat}{H:Hp}{S:Nat→Prop}{w:Nw}(h:dJ n H S w)(x:Int):ah Tryz.prog vA [ptr n,i64 x] H fun v H'=>ay (
  (¬cZ w.cs x∧v= .bool false∧cC (dJ n) S H H' w)∨(cZ w.cs x∧v= .bool true∧cC (dJ n) S H H' (w.put x (0,0,0)))):=by
 obtain⟨B,C,L,tops,ch,par,rfl,m,l,hS⟩:=id h
 have hC:∀z,C z→S z:=fun z h=>(hS z).2 (.inl h)
 have t1:S B.tb:=(hS _).2 (.inr (.inr (.inl rfl)))
 have t2:S B.tp:=(hS _).2 (.inr (.inr (.inr rfl)))
 obtain⟨tv,o0,_⟩:=m.own
 refine be vK ⟨rfl,?_⟩
 refine v2 mD.eq_1 (ae o0) ?_
 refine(dt m.cells x).mono ?_
 rintro _ H1 (⟨cr,rfl,rfl⟩| ⟨bS,rfl,c1,e1⟩)
 ·refine vs ?_
  exact .inl ⟨cr,rfl,cC.same h (ai.refl _ _)⟩
 have m1:=m.aK c1 e1 rfl
 have dZ:=bK.2 bS
 obtain⟨iq,jq,_⟩:=aF dZ
 have FY:x≠ -1:=by omega
 have ls:=aq w
 have cU:=fun y=>eC (w:=w) ⟨iq,jq⟩ (0,0,0) y
 have p0:aH (w.put x (0,0,0)) (-1)=0:=rfl
 have p1:aH (w.put x (0,0,0)) x=0:=by rw[cU,if_pos rfl]
 have p2:∀y,y≠x→aH (w.put x (0,0,0)) y=aH w y:=fun y hy=>by rw[cU,if_neg hy]
 have el:∀a b,0<aH w a→0<aH w b→a≠x→b≠x→aV (w.put x (0,0,0)) a b=aV w a b:=fun a b ha hb tM pt=>dG ⟨iq,jq⟩ _ ha hb tM pt
 have rB:(w.put x (0,0,0)).cs.length=w.cs.length:=by simp[Nw.put]
 have dw:aH w x<tops.length:=by
  have:=((m.cells.hm x).2 dZ).2
  have:=l.tl
  omega
 have e11:ai S H H1:=e1.mono fun z _ h=>hC z h
 obtain⟨cc,lt,o1,q2,De,zC,OY⟩:=m1.hZ
 have q3:=m1.fB q2 (dW (tops:=tops) (h:=aH w x) (by omega) dw)
 obtain⟨d1,d2,d3⟩:=m1.qY
 have no:¬ (C B.n∨B.n=B.tb):=by rintro(h|h);exact m1.out.1 h;omega
 have no2:¬ (C B.tp∨B.tp=B.tb):=by rintro(h|h);exact m1.out.2.2 h;omega
 refine v1 (ae o1) ?_
 refine⟨⟨by omega,by omega⟩,?_⟩
 refine v4 (ae q2) al6 ama q3 ?_
 refine ak.dec (fun gt=>?_) (fun gt=>?_)<;>refine vs ?_
 ·have hu:par x= -1:=by
   have:=(l.t.tp.t1 (aH w x) (by rw[gt];omega)).2.2
   rwa[gt]at this
  refine qZ.intro (fun H'=>H'.own B.n=some [ptr B.c,.slice (some ⟨B.tb,0,none⟩) L.length L.length,.slice (some ⟨B.tp,0,none⟩) tops.length cc]) o1 ?_
  refine vs ?_
  refine qF.intro (.slice (some ⟨B.tp,0,none⟩) tops.length cc) (fun H' hI=>by refine v1 (ae hI) ?_;trivial) ?_
  refine vs ?_
  refine(mf m1 l.t.pr l.pl dZ).mono ?_
  rintro _ H2 ⟨r,L2,oo,me,rfl,m2,pl2,w2,e2⟩
  refine And.intro (e2.own o1 no) ?_
  have q4:=e2.own q2 no2
  refine vs ?_
  refine⟨⟨by omega,by omega⟩,?_⟩
  refine v3 q4 al6 ama ?_
  refine⟨by omega,?_⟩
  obtain⟨m3,e3⟩:=m2.nV q4 (aH w x).toNat r
  refine And.intro (e3.own (e2.own o1 no) d2) ?_
  obtain⟨YF,o3,_⟩:=m3.own
  refine v1 (ae o3) ?_
  refine(cj m3.cells x).mono ?_
  rintro _ H4 (⟨cr,_,_⟩| ⟨_,rfl,c4,e4⟩)
  ·exact absurd bS cr
  have m4:=m3.aK c4 e4 rB
  refine vs ?_
  have w3:=w2.drop (x:=x) ⟨dZ,hu⟩ (by rw[w2.fr x ⟨dZ,hu⟩];unfold aA;rw[if_pos rfl]) ((w2.ml x dZ).2 (.inr ⟨dZ,hu⟩)) p0 p1 p2 el
  refine .inr ⟨bS,rfl,cC.same ⟨B,C,L2,_,oo,me,rfl,m4,⟨?_,pl2,by rw[al8];exact l.tl⟩,hS⟩ (((e11.trans (e2.mono fun z _ h=>by rcases h with h|rfl;exact hC z h;exact t1)).trans (e3.mono fun z _ h=>h▸t2)).trans (e4.mono fun z _ h=>hC z h))⟩
  rw[eU (by omega) dw]
  refine⟨w3.pr,w3.done (fun h aT hh=>?_) (fun y hy=>?_)⟩
  ·obtain⟨g1,g2,g3⟩:=l.t.tp.t1 h hh
   have hn:br tops h≠x:=fun e=>aT (by rw[←g1,e])
   exact⟨by rw[p2 _ hn];exact g1,g2,⟨by omega,g3⟩,hn⟩
  ·have h5:=l.t.tp.t2 y hy.1.1 hy.1.2
   rw[p2 _ hy.2]
   exact⟨fun e=>by rw[e,gt]at h5;exact hy.2 h5.symm,h5⟩
 obtain⟨p,l1,l2,hp⟩:=l.below dZ gt
 have po:=l.t.off hp
 refine(tC m1 ls l.t.pr l.pl hp).mono ?_
 rintro _ H2 ⟨L2,m2,pl2,e2⟩
 have sJ:ai S H H2:=e11.trans (e2.mono fun z _ h=>h▸t1)
 have hu:=po.ox.2.2
 obtain⟨cc,lt,o2,q2,De,zC,OY⟩:=m2.hZ
 have q3:=m2.fB q2 (dW (tops:=tops) (h:=aH w x) (by omega) dw)
 refine vs ?_
 refine qZ.intro (fun H'=>H'.own B.n=some [ptr B.c,.slice (some ⟨B.tb,0,none⟩) L2.length L2.length,.slice (some ⟨B.tp,0,none⟩) tops.length cc]) o2 ?_
 refine vs ?_
 refine qF.intro (.slice (some ⟨B.tp,0,none⟩) tops.length cc) (fun H' hI=>by refine v1 (ae hI) ?_;trivial) ?_
 refine vs ?_
 refine qF.intro (.slice (some ⟨B.tp,0,none⟩) tops.length cc) (fun H' hI=>by refine v1 (ae hI) ?_;trivial) ?_
 refine vs ?_
 refine⟨⟨by omega,by omega⟩,?_⟩
 refine vs ?_
 refine IQ.intro ?_ ?_
 ·refine v4 (ae q2) al6 ama q3 ?_
  refine And.intro o2 ?_
  refine vs ?_
  refine(mf m2 po.pr pl2 dZ).mono ?_
  rintro _ H3 ⟨r,L3,MV,sz,rfl,m3,TG,w3,e3⟩
  refine And.intro (e3.own o2 no) ?_
  have q4:=e3.own q2 no2
  refine vs ?_
  have w4:=w3.cG (t:=br tops (aH w x)) (fun hh=>by
   obtain⟨g1,g2,g3⟩:=po.t1 _ hh
   exact⟨⟨by omega,g3⟩,g1⟩)
  rw[←pE,show ws [br tops (aH w x),r]=ws [br tops (aH w x),r]++[] by simp]at w4
  refine(dh m3 w4 TG).mono ?_
  rintro _ H4 ⟨r2,L4,Ux,Kw,rfl,_,m4,w5,Xb,e4⟩
  rw[amW]at w5
  refine And.intro (e4.own (e3.own o2 no) no) ?_
  have q5:=e4.own q4 no2
  refine vs ?_
  refine⟨⟨by omega,by omega⟩,?_⟩
  refine v3 q5 al6 ama ?_
  refine⟨by omega,?_⟩
  obtain⟨m5,e5⟩:=m4.nV q5 (aH w x).toNat r2
  refine And.intro (e5.own (e4.own (e3.own o2 no) no) d2) ?_
  obtain⟨tv5,o5,_⟩:=m5.own
  refine v1 (ae o5) ?_
  refine(cj m5.cells x).mono ?_
  rintro _ H6 (⟨cr,_,_⟩| ⟨_,rfl,c6,e6⟩)
  ·exact absurd bS cr
  have m6:=m5.aK c6 e6 rB
  refine vs ?_
  have hR:(0<aH w x∧aI par x (-1) x= -1)∧x≠br tops (aH w x):=⟨⟨dZ,hu⟩,fun e=>po.nx e.symm⟩
  have je:aA (aA ch p (l1++l2)) x [] x=[]:=by unfold aA;rw[if_pos rfl]
  have w6:=w5.drop (x:=x) hR (by rw[w5.fr x hR];exact je) ((w5.ml x dZ).2 (.inr hR)) p0 p1 p2 el
  refine .inr ⟨bS,rfl,cC.same ⟨B,C,L4,_,Ux,Kw,rfl,m6,⟨?_,Xb,by rw[al8];exact l.tl⟩,hS⟩ ((((sJ.trans (e3.mono fun z _ h=>by rcases h with h|rfl;exact hC z h;exact t1)).trans (e4.mono fun z _ h=>by rcases h with h|rfl;exact hC z h;exact t1)).trans (e5.mono fun z _ h=>h▸t2)).trans (e6.mono fun z _ h=>hC z h))⟩
  rw[eU (by omega) dw]
  refine⟨w6.pr,w6.done (fun h aT hh=>?_) (fun y hy=>?_)⟩
  ·obtain⟨g1,g2,g3⟩:=po.t1 h hh
   have hn:br tops h≠x:=fun e=>aT (by rw[←g1,e])
   have zD:br tops h≠br tops (aH w x):=fun e=>by
    by_cases h4:br tops (aH w x)= -1
    ·rw[e]at hh;exact hh h4
    ·have:=(po.t1 _ h4).1
     rw[←e,g1]at this
     exact aT this
   exact⟨by rw[p2 _ hn];exact g1,g2,⟨⟨by omega,g3⟩,zD⟩,hn⟩
  ·have h5:=po.t2 y hy.1.1.1 hy.1.1.2 hy.2
   rw[p2 _ hy.2]
   exact⟨fun e=>by rw[e]at h5;exact hy.1.2 h5.symm,h5⟩
 ·refine vs ?_
  refine(mf m2 po.pr pl2 dZ).mono ?_
  rintro _ H3 ⟨r,L3,MV,sz,rfl,m3,TG,w3,e3⟩
  refine And.intro (e3.own o2 no) ?_
  have q4:=e3.own q2 no2
  refine vs ?_
  have q6:=m3.fB q4 (dW (tops:=tops) (h:=aH w x) (by omega) dw)
  refine v4 (ae q4) al6 ama q6 ?_
  refine And.intro (e3.own o2 no) ?_
  refine vs ?_
  have w4:=w3.cG (t:=br tops (aH w x)) (fun hh=>by
   obtain⟨g1,g2,g3⟩:=po.t1 _ hh
   exact⟨⟨by omega,g3⟩,g1⟩)
  rw[←pE,show ws [br tops (aH w x),r]=ws [br tops (aH w x),r]++[] by simp]at w4
  refine(dh m3 w4 TG).mono ?_
  rintro _ H4 ⟨r2,L4,Ux,Kw,rfl,_,m4,w5,Xb,e4⟩
  rw[amW]at w5
  refine And.intro (e4.own (e3.own o2 no) no) ?_
  have q5:=e4.own q4 no2
  refine vs ?_
  refine⟨⟨by omega,by omega⟩,?_⟩
  refine v3 q5 al6 ama ?_
  refine⟨by omega,?_⟩
  obtain⟨m5,e5⟩:=m4.nV q5 (aH w x).toNat r2
  refine And.intro (e5.own (e4.own (e3.own o2 no) no) d2) ?_
  obtain⟨tv5,o5,_⟩:=m5.own
  refine v1 (ae o5) ?_
  refine(cj m5.cells x).mono ?_
  rintro _ H6 (⟨cr,_,_⟩| ⟨_,rfl,c6,e6⟩)
  ·exact absurd bS cr
  have m6:=m5.aK c6 e6 rB
  refine vs ?_
  have hR:(0<aH w x∧aI par x (-1) x= -1)∧x≠br tops (aH w x):=⟨⟨dZ,hu⟩,fun e=>po.nx e.symm⟩
  have je:aA (aA ch p (l1++l2)) x [] x=[]:=by unfold aA;rw[if_pos rfl]
  have w6:=w5.drop (x:=x) hR (by rw[w5.fr x hR];exact je) ((w5.ml x dZ).2 (.inr hR)) p0 p1 p2 el
  refine .inr ⟨bS,rfl,cC.same ⟨B,C,L4,_,Ux,Kw,rfl,m6,⟨?_,Xb,by rw[al8];exact l.tl⟩,hS⟩ ((((sJ.trans (e3.mono fun z _ h=>by rcases h with h|rfl;exact hC z h;exact t1)).trans (e4.mono fun z _ h=>by rcases h with h|rfl;exact hC z h;exact t1)).trans (e5.mono fun z _ h=>h▸t2)).trans (e6.mono fun z _ h=>hC z h))⟩
  rw[eU (by omega) dw]
  refine⟨w6.pr,w6.done (fun h aT hh=>?_) (fun y hy=>?_)⟩
  ·obtain⟨g1,g2,g3⟩:=po.t1 h hh
   have hn:br tops h≠x:=fun e=>aT (by rw[←g1,e])
   have zD:br tops h≠br tops (aH w x):=fun e=>by
    by_cases h4:br tops (aH w x)= -1
    ·rw[e]at hh;exact hh h4
    ·have:=(po.t1 _ h4).1
     rw[←e,g1]at this
     exact aT this
   exact⟨by rw[p2 _ hn];exact g1,g2,⟨⟨by omega,g3⟩,zD⟩,hn⟩
  ·have h5:=po.t2 y hy.1.1.1 hy.1.1.2 hy.2
   rw[p2 _ hy.2]
   exact⟨fun e=>by rw[e]at h5;exact hy.1.2 h5.symm,h5⟩
theorem xG{n:Nat}{H:Hp}{S:Nat→Prop}{w:Nw}(h:dJ n H S w)(g:Int):ah Tryz.prog lh [ptr n,i64 g] H fun v H'=>ay (
  (w.len g=0∧v= .tuple [i64 0,.bool false].toArray∧cC (dJ n) S H H' w)∨(∃x,w.first g x∧v= .tuple [i64 x,.bool true].toArray∧cC (dJ n) S H H' (w.put x (0,0,0)))):=by
 refine be uh ⟨rfl,?_⟩
 refine v1 fw.eq_1 ?_
 refine(tD h g).mono ?_
 rintro _ _ ⟨⟨h0,rfl⟩| ⟨x,hx,rfl⟩,rfl⟩
 ·refine vs ?_
  exact .inl ⟨h0,rfl,cC.same h (ai.refl _ _)⟩
 ·refine vs ?_
  refine(zy h x).mono ?_
  rintro _ H1 (⟨cr,_,_⟩| ⟨_,rfl,h1⟩)
  ·exact absurd (bK.1 (by have:=bN.1 hx;omega)) cr
  refine vs ?_
  exact .inr ⟨x,hx,rfl,h1⟩
theorem Ky(n:Nat):zI (.iface 202 (ptr n)) (dJ n) where
 slt h:=h.slt
 ext h e hd:=h.ext e hd
 cells:=by
  rintro H S w ⟨B,C,L,tops,ch,par,rfl,m,l,hS⟩
  exact⟨B.c,C,m.cells⟩
 has:=by
  rintro H S w g ⟨B,C,L,tops,ch,par,rfl,m,l,hS⟩
  obtain⟨tv,ho,_⟩:=m.own
  exact⟨_,_,bG,ptr B.c,rfl,ic (off:=0) (by kernel_rfl) (ae ho) rfl,(kH m.cells g).mono fun v H' hp=>hp⟩
 make:=by
  intro H S w h
  exact⟨_,_,o9,ptr n,rfl,bF (by kernel_rfl),(CT h).mono fun v H' hp=>hp⟩
 insert:=by
  intro H S w g x k s h
  exact⟨_,_,mA,ptr n,rfl,bF (by kernel_rfl),(zx h g x k s).mono fun v H' hp=>hp⟩
 min:=by
  intro H S w g h
  refine⟨_,_,qa,ptr n,rfl,bF (by kernel_rfl),(tD h g).mono ?_⟩
  rintro v H' ⟨⟨h1,rfl⟩| ⟨x,h1,rfl⟩,rfl⟩
  ·exact .inl ⟨h1,rfl,cC.same h (ai.refl _ _)⟩
  ·exact .inr ⟨x,h1,rfl,cC.same h (ai.refl _ _)⟩
 extract:=by
  intro H S w g h
  exact⟨_,_,lh,ptr n,rfl,bF (by kernel_rfl),(xG h g).mono fun v H' hp=>hp⟩
 qH:=by
  intro H S w x k s h
  exact⟨_,_,kj,ptr n,rfl,bF (by kernel_rfl),(we h x k s).mono fun v H' hp=>hp⟩
 entry:=by
  rintro H S w x ⟨B,C,L,tops,ch,par,rfl,m,l,hS⟩
  obtain⟨tv,ho,_⟩:=m.own
  refine⟨_,_,bk,ptr B.c,rfl,ic (off:=0) (by kernel_rfl) (ae ho) rfl,(jk m.cells x).mono ?_⟩
  rintro v H' ⟨c1,f,hv⟩
  exact⟨⟨B,C,L,tops,ch,par,rfl,m.fresh f,l,hS⟩,f,hv⟩
section
variable {H H' : Hp} {ro ro' : Nat → Rl} {fb tb n : Nat} {l : List Value} {V : Int → Value} {ch : Int → List Int} {par : Int → Int} {kb : Int → Option Nat} {T : Nat → Prop}
theorem xH(m:ForM H ro fb tb n l V ch par kb){a:Option Addr}{c:Nat}{xs:List Int}(h:ep H 1 (.slice a xs.length c) xs.length (xs.map i64))(hr:∀x∈xs,(0≤x∧x<n)∧par x= -1)(hR:Gg ch xs)(hm:xs.length≤1000000):
  ah Tryz.prog Ai [ptr fb,.slice a xs.length c] H fun v H'=>ay (v= .bool true∧H'=H):=by
 refine be AN ⟨rfl,?_⟩
 refine v1 jR.eq_1 ?_
 refine bA.intro (fun m env H'=>H'=H∧∃j:Nat,m=xs.length - j∧j≤xs.length∧env=[(0,ptr fb),(1,.slice a xs.length c),(7,.slice a xs.length c),(8,i64 xs.length),(9,i64 j)]) xs.length ⟨rfl,0,by omega,by omega,rfl⟩ ?_
 rintro mm env H1 ⟨e1,j,rfl,hj,rfl⟩
 obtain rfl:=e1.symm
 refine vs ?_
 refine ak.dec (fun aR=>?_) (fun aR=>?_)<;>refine vs ?_
 ·have kJ:j<xs.length:=by omega
  obtain⟨x,hx⟩:∃x,xs[j]? =some x:=⟨_,al5 kJ⟩
  obtain⟨_,b,o,lb,rfl,D4,bE⟩:=ep.num h hx
  obtain⟨jq,GM⟩:=hr x (amb hx)
  refine⟨⟨by omega,by omega⟩,?_⟩
  refine v4 D4 Int.toNat_natCast ama bE ?_
  refine(jw m.t x).mono ?_
  rintro _ H' ⟨rfl,e⟩
  obtain rfl:=e.symm
  rw[amj jq,amj GM]
  refine vs ?_
  refine ak.dec (fun h0=>?_) (fun h0=>?_)
  ·obtain⟨k,rfl⟩:∃k,j=k+1:=⟨j - 1,by omega⟩
   obtain⟨y,hy⟩:∃y,xs[k]? =some y:=⟨_,al5 (by omega)⟩
   obtain⟨_,b',o',Vr,zQ,afx,Xd⟩:=ep.num h hy
   injection zQ with zQ
   injection zQ with afy La
   subst afy La
   have Eh:(ch y).length< (ch x).length:=by
    have:=anx.1 hR k (k+1) (by omega) (by omega) (by omega)
    rw[al5 (by omega)]at hx hy
    injection hx with hx
    injection hy with hy
    rw[hx,hy]at this
    exact this
   refine vs ?_
   rw[wrap64 (n:=((k+1:Nat):Int) - 1) (by omega) (by omega),show((k+1:Nat):Int) - 1=(k:Int) by omega]
   refine⟨⟨by omega,by omega⟩,?_⟩
   refine v4 afx Int.toNat_natCast ama Xd ?_
   refine(df m y).mono ?_
   rintro _ H' ⟨rfl,e⟩
   obtain rfl:=e.symm
   refine vs ?_
   refine(df m x).mono ?_
   rintro _ H' ⟨rfl,e⟩
   obtain rfl:=e.symm
   refine vs ?_
   refine ak.dec (fun Sp=>by omega) (fun _=>?_)
   refine vs ?_
   rw[wrap64 (n:=((k+1:Nat):Int)+1) (by omega) (by omega)]
   exact⟨xs.length - (k+1+1),by omega,trivial,k+1+1,rfl,by omega,rfl⟩
  ·refine vs ?_
   rw[wrap64 (n:=(j:Int)+1) (by omega) (by omega)]
   exact⟨xs.length - (j+1),by omega,trivial,j+1,rfl,by omega,rfl⟩
 ·exact⟨rfl,rfl⟩
theorem tE(t:qD H fb tb n l V par){x:Int}(hx:0≤x∧x<n){kv:Value}{m:Nat}{ks:List Int}{fp:Option Nat}(s:Sl H 1 kv m (ks.map i64) fp)(mr:fp≠some tb)(bS:∀k∈ks,0≤k∧k<n)(hl:ks.length≤1000000):
  ah Tryz.prog wF [ptr fb,i64 x,kv] H fun v H'=>ay (∃l',qD H' fb tb n l' (xq V x kv) (fun z=>if z∈ks then x else par z)∧ai (fun z=>z=tb) H H'):=by
 obtain rfl:m=ks.length:=by
  have:=s.1
  rw[amu,ama]at this
  exact this.symm
 obtain⟨ka,kc,rfl⟩:=Sl.shape s
 have pJ:=t.len
 refine be wY ⟨rfl,?_⟩
 refine v2 gQ.eq_1 (ae t.own) ?_
 refine⟨⟨by omega,by omega⟩,?_⟩
 refine v3 t.F0 al6 Nat.add_zero ?_
 refine⟨by omega,?_⟩
 obtain⟨t1,e1⟩:=t.xq hx (.slice ka ks.length kc)
 refine vs ?_
 have s1:=s.ext e1 (fun b hb e=>mr (by rw[hb,e]))
 have vw:=t1.len
 generalize H.wr tb (l.set (x.toNat*2) (.slice ka ks.length kc))=H1 at*
 refine bA.intro (fun mm env H'=>∃ (j:Nat) (l':List Value),mm=ks.length - j∧j≤ks.length∧qD H' fb tb n l' (xq V x (.slice ka ks.length kc)) (fun z=>if z∈ks.take j then x else par z)∧ai (fun z=>z=tb) H1 H'∧
  env=[(0,ptr fb),(1,i64 x),(16,.slice ka ks.length kc),(17,i64 ks.length),(18,i64 j)]) ks.length ⟨0,_,by omega,by omega,by simpa using t1,ai.refl _ _,rfl⟩ ?_
 rintro mm env H2 ⟨j,l2,rfl,hj,t2,e2,rfl⟩
 have s2:=s1.ext e2 (fun b hb e=>mr (by rw[hb,e]))
 have wh:=t2.len
 refine vs ?_
 refine ak.dec (fun aR=>?_) (fun aR=>?_)<;>refine vs ?_
 ·have kJ:j<ks.length:=by omega
  obtain⟨k,hk⟩:∃k,ks[j]? =some k:=⟨_,al5 kJ⟩
  obtain⟨_,b,lb,rfl,q2,q3⟩:=Sl.A6 s2 hk
  have YO:=bS k (amb hk)
  refine⟨⟨by omega,by omega⟩,?_⟩
  refine v6 (ae q2) al6 ama Int.toNat_natCast q3 (ae t2.own) ?_
  refine⟨⟨by omega,by omega⟩,?_⟩
  refine v3 t2.F0 al6 Nat.add_zero ?_
  refine⟨by omega,?_⟩
  obtain⟨t3,e3⟩:=t2.aI YO x
  refine vs ?_
  rw[wrap64 (n:=(j:Int)+1) (by omega) (by omega)]
  refine⟨ks.length - (j+1),by omega,j+1,l2.set (k.toNat*2+1) (i64 x),rfl,by omega,?_,e2.trans e3,rfl⟩
  have tk:ks.take (j+1)=ks.take j++[k]:=by rw[amG,hk];rfl
  have:(fun z=>if z∈ks.take (j+1)then x else par z)=aI (fun z=>if z∈ks.take j then x else par z) k x:=by
   funext z
   unfold aI
   rw[tk]
   by_cases hz:z=k
   ·rw[if_pos (by simp[hz]),if_pos hz]
   ·rw[if_neg hz]
    by_cases h2:z∈ks.take j
    ·rw[if_pos (amI _ h2)]
     exact(if_pos h2).symm
    ·rw[if_neg (by simp[h2,hz])]
     exact(if_neg h2).symm
  rw[this]
  exact t3
 ·obtain rfl:j=ks.length:=by omega
  rw[amB]at t2
  exact⟨l2,t2,e1.trans e2⟩
theorem RK.kbs{s:Nat}(r:RK s ro ro'){z:Nat}(hz:z<s)(h:KB ro' z):KB ro z:=by
 rcases h with h| ⟨x,h⟩
 ·refine .inl ?_
  by_cases hk:∃x,ro z= .sH x
  ·obtain⟨x,hx⟩:=hk
   obtain⟨y,hy⟩:=r.k z x hz hx
   rw[hy]at h;cases h
  ·rw[←r.o z hz (fun x hx=>hk ⟨x,hx⟩)];exact h
 ·refine .inr ?_
  apply amr
  intro hk
  rw[r.o z hz (fun x hx=>hk ⟨x,hx⟩)]at h
  exact hk ⟨x,h⟩
set_option maxHeartbeats 1000000 in
theorem Er(m:ForM H ro fb tb n l V ch par kb)(hz:∀z,H.size≤z→ro z= .no){x:Int}(hx:0≤x∧x<n)(px:par x= -1)(hl:(ch x).length≤65536):
  ah Tryz.prog wE [ptr fb,i64 x] H fun v H'=>ay (∃ro' l' V' vY fp,ForM H' ro' fb tb n l' V' (aA ch x []) (gg ch par x) vY∧RK H.size ro ro'∧(∀z,H'.size≤z→ro' z= .no)∧ai (KB ro) H H'∧
   Sl H' 1 v (ch x).length ((ch x).map i64) fp∧∀b,fp=some b→H.size≤b∧ro' b= .no):=by
 have ht:=m.t.len
 obtain⟨a1,a2⟩:=m.t.at_ x hx.1 hx.2
 have kx:=m.kd x hx.1 hx.2
 obtain⟨ka,kc,YX⟩:=Sl.shape kx
 rw[YX]at a1 kx
 refine be wW ⟨rfl,?_⟩
 refine v1 gP.eq_1 ?_
 refine(jw m.t x).mono ?_
 rintro _ H' ⟨rfl,e⟩
 obtain rfl:=e.symm
 rw[amj hx,amj px]
 refine v1 (ae m.t.own) ?_
 refine⟨⟨by omega,by omega⟩,?_⟩
 refine v5 (ae m.t.own) (ae m.t.F0) al6 Nat.add_zero a1 ?_
 refine⟨⟨by omega,by omega⟩,?_⟩
 refine v3 m.t.F0 al6 Nat.add_zero ?_
 refine⟨by omega,?_⟩
 obtain⟨Xe,YY,m1,r1,n1,e1⟩:=m.put hz hx (ai.refl _ H) (Sl.nil H 1) (w':=.slice none 0 0) (L':=[]) (.inr (.inl rfl)) (by simp)
 refine vs ?_
 have aa2:∀b,kb x=some b→b≠tb:=fun b hb e=>by
  have:=m.rk x b hx.1 hx.2 hb
  rw[e,m.rt]at this
  cases this
 have s1:=kx.ext (m.t.xq hx (.slice none 0 0)).2 (fun b hb=>aa2 b hb)
 generalize H.wr tb (l.set (x.toNat*2) (.slice none 0 0))=H1 at*
 refine bA.intro (fun mm env H'=>∃ (j:Nat) (l':List Value),mm=(ch x).length - j∧j≤(ch x).length∧ForM H' Xe fb tb n l' (xq V x (.slice none 0 0)) (aA ch x []) (fun z=>if z∈(ch x).take j then -1 else par z) YY∧ai (fun z=>z=tb) H1 H'∧
  env=[(0,ptr fb),(5,.slice ka (ch x).length kc),(27,.slice ka (ch x).length kc),(28,i64 (ch x).length),(29,i64 j)]) (ch x).length ⟨0,_,by omega,by omega,by simpa using m1,ai.refl _ _,rfl⟩ ?_
 rintro mm env H2 ⟨j,l2,rfl,hj,m2,e2,rfl⟩
 have s2:=s1.ext e2 (fun b hb=>aa2 b hb)
 have wh:=m2.t.len
 have hrt:Xe tb= .table:=m2.rt
 refine vs ?_
 refine ak.dec (fun aR=>?_) (fun aR=>?_)<;>refine vs ?_
 ·have kJ:j< (ch x).length:=by omega
  obtain⟨k,hk⟩:∃k,(ch x)[j]? =some k:=⟨_,al5 kJ⟩
  obtain⟨_,b,lb,rfl,q2,q3⟩:=Sl.A6 s2 hk
  have YO:=m.HR x k (amb hk)
  refine⟨⟨by omega,by omega⟩,?_⟩
  refine v6 (ae q2) al6 ama Int.toNat_natCast q3 (ae m2.t.own) ?_
  refine⟨⟨by omega,by omega⟩,?_⟩
  refine v3 m2.t.F0 al6 Nat.add_zero ?_
  refine⟨by omega,?_⟩
  obtain⟨m3,_⟩:=m2.aI YO (-1)
  obtain⟨_,e3⟩:=m2.t.aI YO (-1)
  refine vs ?_
  rw[wrap64 (n:=(j:Int)+1) (by omega) (by omega)]
  refine⟨(ch x).length - (j+1),by omega,j+1,l2.set (k.toNat*2+1) (i64 (-1)),rfl,by omega,?_,e2.trans e3,rfl⟩
  have tk:(ch x).take (j+1)=(ch x).take j++[k]:=by rw[amG,hk];rfl
  have:(fun z=>if z∈(ch x).take (j+1)then(-1:Int)else par z)=aI (fun z=>if z∈(ch x).take j then -1 else par z) k (-1):=by
   funext z
   unfold aI
   rw[tk]
   by_cases hz:z=k
   ·rw[if_pos (by simp[hz]),if_pos hz]
   ·rw[if_neg hz]
    by_cases h2:z∈(ch x).take j
    ·rw[if_pos (amI _ h2)]
     exact(if_pos h2).symm
    ·rw[if_neg (by simp[h2,hz])]
     exact(if_neg h2).symm
  rw[this]
  exact m3
 ·obtain rfl:j=(ch x).length:=by omega
  rw[amB]at m2
  refine(rD s2.rd (by omega)).mono ?_
  rintro v H3 ⟨f3,fp,s3,mr⟩
  have z2:=e2.size
  have z1:=e1.size
  have z3:=f3.size
  refine vs ?_
  refine⟨Xe,l2,_,YY,fp,m2.fresh f3,r1,fun z ez=>n1 z (by omega),?_,s3,fun b hb=>⟨by have:=mr b hb;omega,n1 b (by have:=mr b hb;omega)⟩⟩
  exact(e1.trans (e2.mono fun z ez h=>.inl (by rw[h];exact m.rt))).trans (f3.mono fun _ _ h=>h.elim)
def pD(j k:Nat):List Value:=(List.replicate j [Value.slice none 0 0,Value.int .i64 (-1)]).flatten++(List.replicate k [Value.slice none 0 0,Value.int .i64 0]).flatten
theorem ya(j:Nat)(a b:Value):((List.replicate j [a,b]).flatten).length=j*2:=by
 induction j with
 |zero=>rfl
 |succ j ih=>rw[amR,am7,amh,ih];simp;omega
theorem SH{j i:Nat}(a b:Value)(hi:i<j):((List.replicate j [a,b]).flatten)[i*2]? =some a∧((List.replicate j [a,b]).flatten)[i*2+1]? =some b:=by
 induction j generalizing i with
 |zero=>omega
 |succ j ih=>
  rw[amR,am7]
  cases i with
  |zero=>exact⟨rfl,rfl⟩
  |succ i=>
   have:=ih (i:=i) (by omega)
   rw[show(i+1)*2=i*2+1+1 by omega]
   exact this
theorem Qq(j k:Nat):(pD j k).length=(j+k)*2:=by unfold pD;rw[amh,ya,ya];omega
theorem Qr(j k:Nat):(pD j (k+1)).set (j*2+1) (Value.int .i64 (-1))=pD (j+1) k:=by
 unfold pD
 rw[an6 _ _ (by rw[ya];omega),ya,show j*2+1 - j*2=1 by omega,amR,am7,aob,List.flatten_append]
 simp
theorem Ho(H:Hp){n:Int}(hn:0≤n∧n≤65536):ah Tryz.prog Ll [i64 n] H fun v H'=>ay (∃fb tb l,v= .tuple [ptr fb,i64 0].toArray∧qD H' fb tb n.toNat l (fun _=>.slice none 0 0) (fun _=> -1)∧ax H H'∧H.size≤fb∧H.size≤tb):=by
 refine be Lr ⟨rfl,?_⟩
 refine v1 wP.eq_1 ?_
 refine ak.dec (fun g=>absurd g (by omega)) (fun _=>?_)
 refine vs ?_
 refine ak.dec (fun g=>absurd g (by omega)) (fun _=>?_)
 refine vs ?_
 refine⟨⟨by omega,by omega,by omega,by omega⟩,?_⟩
 refine vs ?_
 rw[show cR [Value.slice none 0 0,Value.int .i64 0] n.toNat=pD 0 n.toNat from rfl]
 obtain⟨N,hN⟩:∃N:Nat,n=(N:Int):=⟨n.toNat,by omega⟩
 subst hN
 rw[Int.toNat_natCast]
 have f0:ax H ((H.new 315 (pD 0 N)).new 313 [.slice (some ⟨H.size,0,none⟩) N N]):=((ai.refl _ _).new _ _).new _ _
 have t0:((H.new 315 (pD 0 N)).new 313 [.slice (some ⟨H.size,0,none⟩) N N]).own (H.size+1)=some [.slice (some ⟨H.size,0,none⟩) N N]:=bD (by simp only[au])
 have t1:((H.new 315 (pD 0 N)).new 313 [.slice (some ⟨H.size,0,none⟩) N N]).own H.size=some (pD 0 N):=by
  rw[cw (by simp only[au];omega),aG]
 generalize (H.new 315 (pD 0 N)).new 313 [.slice (some ⟨H.size,0,none⟩) N N]=H0 at*
 refine bA.intro (fun m env H'=>∃j:Nat,m=N - j∧j≤N∧ai (fun z=>z=H.size) H0 H'∧H'.own H.size=some (pD j (N - j))∧
  env=[(4,ptr (H.size+1)),(20,i64 N),(21,i64 j)]) N ⟨0,by omega,by omega,ai.refl _ _,t1,rfl⟩ ?_
 rintro m env H1 ⟨j,rfl,hj,e1,h1,rfl⟩
 have o1:=e1.own t0 (by omega)
 have vw:=Qq j (N - j)
 refine vs ?_
 refine ak.dec (fun aR=>?_) (fun aR=>?_)<;>refine vs ?_
 ·refine v1 (ae o1) ?_
  refine⟨⟨by omega,by omega⟩,?_⟩
  refine v4 h1 al6 Nat.add_zero Int.toNat_natCast ?_
  refine⟨by omega,?_⟩
  refine vs ?_
  have e2:ai (fun z=>z=H.size) H1 (H1.wr H.size ((pD j (N - j)).set (j*2+1) (Value.int .i64 (-1)))):=(ai.refl (fun z=>z=H.size) _).wr (fun _=>rfl) _
  have q2:(H1.wr H.size ((pD j (N - j)).set (j*2+1) (Value.int .i64 (-1)))).own H.size=some ((pD j (N - j)).set (j*2+1) (Value.int .i64 (-1))):=aj h1
  rw[wrap64 (n:=(j:Int)+1) (by omega) (by omega)]
  refine⟨N - (j+1),by omega,j+1,rfl,by omega,e1.trans e2,?_,rfl⟩
  rw[q2,show N - j=(N - (j+1))+1 by omega,Qr]
 ·obtain rfl:j=N:=by omega
  refine⟨H.size+1,H.size,_,rfl,⟨o1,h1,by rw[vw];omega,fun x h0 hx=>?_,by omega⟩,f0.then e1 (fun z hz=>by omega),by omega,by omega⟩
  unfold pD
  rw[am3,aoe,List.flatten_nil,amW]
  exact SH _ _ (by omega)
end
end Go.Proofs.YtjlnnljohemifaaGreat

namespace Go.Proofs.YtjlnnljohemifaaGreat
open Go Go.Vc
theorem Kz:∀ {l:List Int} {i:Nat} {x p:Int},l.Nodup→p∉l→l[i]? =some x→l.set i p=l.map (jr x p):=by
 intro l
 induction l with
 |nil=>intro i x p _ _ h;simp at h
 |cons a r ih=>
  intro i x p hn hp h
  have zD:=amq.1 hn
  have hpr:p∉r:=fun h=>hp (by simp[h])
  cases i with
  |zero=>
   simp only[amz,ame]at h
   subst h
   rw[anq,amL,nA,BG zD.1 hpr]
  |succ i=>
   have hx:r[i]? =some x:=by simpa using h
   have tM:a≠x:=fun e=>zD.1 (by rw[e];exact amb hx)
   have T4:a≠p:=fun e=>hp (by rw[e];simp)
   rw[amP,amL,gh tM T4,ih zD.2 hpr hx]
def SI(x p:Int):Rl→Rl
 | .sH y=>.sH (jr x p y)
 |r=>r
section
variable {H H' : Hp} {ro ro' : Nat → Rl} {fb tb n : Nat} {l : List Value} {V : Int → Value} {ch : Int → List Int} {par : Int → Int} {kb : Int → Option Nat} {T : Nat → Prop}
variable {hm : Int → Int} {lt : Int → Int → Bool} {rows : Int → List Int} {W : List Int}
theorem Sl.Uy{H:Hp}{v:Value}{m:Nat}{xs:List Int}{fp:Option Nat}(s:Sl H 1 v m (xs.map i64) fp){i:Nat}{x:Int}(hx:xs[i]? =some x):∃b lb c,v= .slice (some ⟨b,0,none⟩) m c∧fp=some b∧H.own b=some lb∧lb[i]? =some (i64 x)∧i<m∧m≤lb.length∧m=xs.length:=by
 obtain⟨a,c,rfl⟩:=Sl.shape s
 have hl:=s.1
 rw[amu,ama]at hl
 obtain⟨h1,b,lb,rfl,q2,q3⟩:=Sl.A6 s hx
 cases fp with
 |none=>have:=s.2.2;injection this with h1;cases h1
 |some b'=>
  obtain⟨_,Vr,c',hs,ho,hc,zU,_⟩:=s
  injection hs with eR ON IL
  injection eR with eR
  injection eR with eR
  subst eR
  rw[q2]at ho
  injection ho with ho
  subst ho
  exact⟨b,lb,c,rfl,rfl,q2,q3,h1,by omega,hl.symm⟩
theorem qD.afz{H:Hp}{fb tb n:Nat}{l:List Value}{V V':Int→Value}{U U':Int→Int}(t:qD H fb tb n l V U)(h:∀x:Int,0≤x→x<n→V' x=V x∧U' x=U x):qD H fb tb n l V' U':=
 ⟨t.own,t.F0,t.len,fun x h0 h1=>by obtain⟨e1,e2⟩:=h x h0 h1;rw[e1,e2];exact t.at_ x h0 h1,t.ne⟩
set_option maxRecDepth 100000 in
set_option maxHeartbeats 1000000 in
theorem FQ(m:ForM H ro fb tb n l V ch par kb)(hz:∀z,H.size≤z→ro z= .no)(w:mq hm lt ch par rows W){x p:Int}(hx:0≤x∧x<n)(hp:0≤p∧p<n)(K8:x∈ch p)(RD:par p≠ -1→0≤par p∧par p<n)(hn:n≤65536):
  ah Tryz.prog oZ [ptr fb,i64 x] H fun v H'=>ay (v= .bool true∧∃ro' l' V' vY,ForM H' ro' fb tb n l' V' (HP ch x p) (JS par x p) vY∧RK H.size ro ro'∧(∀z,H'.size≤z→ro' z= .no)∧ai (KB ro) H H'∧∀z,ro z= .no→ro' z= .no):=by
 obtain⟨d1,d2,d3,d4,d5⟩:=w.pr.dn p x K8
 have aR:=w.less K8
 have dZ:p≠x:=fun e=>by rw[e]at aR;omega
 have npp:p∉ch p:=fun h=>by have:=w.less h;omega
 have npx:p∉ch x:=fun h=>by have:=w.less h;omega
 have nxx:x∉ch x:=fun h=>by have:=w.less h;omega
 have rq:∀z,(ch z).length≤n:=fun z=>bY (w.pr.nd z) fun c hc=>m.HR z c hc
 have ajZ:=rq x
 have aj0:=rq p
 have pJ:=m.t.len
 obtain⟨x1,x2⟩:=m.t.at_ x hx.1 hx.2
 obtain⟨p1,p2⟩:=m.t.at_ p hp.1 hp.2
 have sx:=m.kd x hx.1 hx.2
 have sp:=m.kd p hp.1 hp.2
 obtain⟨oa,oc,YX⟩:=Sl.shape sx
 obtain⟨i,hi,e⟩:=anQ.1 K8
 obtain⟨bp,lp,cp,Vl,hkp,qp,qpi,tK,MX,_⟩:=Sl.Uy sp (i:=i) (x:=x) (by rw[al5 hi,e])
 have VB:=m.rk p bp hp.1 hp.2 hkp
 have hbt:bp≠tb:=fun e=>by rw[e,m.rt]at VB;cases VB
 have WB:bp≠fb:=fun e=>by rw[e,m.rf]at VB;cases VB
 have RA:∀b,kb x=some b→b≠tb∧b≠bp:=fun b hb=>by
  have:=m.rk x b hx.1 hx.2 hb
  refine⟨fun e=>(by rw[e,m.rt]at this;cases this),fun e=>?_⟩
  rw[e,VB]at this
  injection this with this
  exact dZ this
 rw[YX]at x1
 rw[Vl]at p1
 refine be yX ⟨rfl,?_⟩
 refine v1 iM.eq_1 ?_
 refine(sj m.t hx).mono ?_
 rintro _ H' ⟨⟨h,_⟩| ⟨_,rfl⟩,e⟩
 ·rw[d1]at h;exact absurd h d2
 obtain rfl:=e.symm
 rw[d1]
 refine v1 (ae m.t.own) ?_
 refine⟨⟨by omega,by omega⟩,?_⟩
 refine v5 (ae m.t.own) (ae m.t.F0) al6 Nat.add_zero x1 ?_
 refine⟨⟨by omega,by omega⟩,?_⟩
 refine v5 (ae m.t.own) (ae m.t.F0) al6 Nat.add_zero p1 ?_
 refine⟨⟨by omega,by omega⟩,?_⟩
 refine v5 (ae m.t.own) (ae m.t.F0) al6 Nat.add_zero p2 ?_
 rw[Vl]at sp
 refine(gz sp.rd x (by omega)).mono ?_
 rintro _ H' ⟨⟨j,rfl,hj⟩,e⟩
 obtain rfl:=e.symm
 obtain⟨hj0,hj⟩:=hj.resolve_left (fun h=>h.2 K8)
 obtain⟨k,rfl⟩:∃k:Nat,j=(k:Int):=⟨j.toNat,by omega⟩
 rw[Int.toNat_natCast]at hj
 have hkl:=(al7.1 hj).1
 refine vs ?_
 refine⟨⟨by omega,by omega⟩,?_⟩
 refine v4 qp al6 ama Int.toNat_natCast ?_
 refine⟨by omega,?_⟩
 refine vs ?_
 rw[hkp]at sp
 have sp1:=sp.vX qp k (i64 p)
 have Xf:ai (fun z=>z=bp) H (H.wr bp (lp.set k (i64 p))):=(ai.refl (fun z=>z=bp) _).wr (fun _=>rfl) _
 rw[←amO,Kz (w.pr.nd p) npp hj]at sp1
 have t1:=m.t.ext Xf (Ne.symm WB) (Ne.symm hbt)
 have sx1:=sx.ext Xf (fun b hb=>(RA b hb).2)
 generalize H.wr bp (lp.set k (i64 p))=H1 at*
 have Ss:((ch p).map (jr x p)).length=(ch p).length:=amu ..
 have cF:∀z,z∈(ch p).map (jr x p)↔(z=p∨(z∈ch p∧z≠x)):=fun z=>by
  rw[kW]
  by_cases h1:z=x
  ·rw[h1,nA]
   exact⟨fun h=>absurd h npp,fun h=>by rcases h with h|h;exact absurd h.symm dZ;exact absurd rfl h.2⟩
  ·by_cases h2:z=p
   ·rw[h2,uW];simp[K8]
   ·rw[gh h1 h2];simp[h1,h2]
 refine(tE t1 hx sp1 (fun h=>by injection h with h;exact hbt h) (fun c hc=>?_) (by omega)).mono ?_
 ·rcases(cF c).1 hc with h|h
  ·rw[h];exact hp
  ·exact m.HR p c h.1
 rintro _ H2 ⟨l2,t2,e2⟩
 refine vs ?_
 have sx2:=sx1.ext e2 (fun b hb=>(RA b hb).1)
 rw[YX]at sx2
 refine(tE t2 hp sx2 (fun h=>(RA tb h).1 rfl) (fun c hc=>m.HR x c hc) (by omega)).mono ?_
 rintro _ H3 ⟨l3,t3,e3⟩
 have TB:=t3.len
 refine v1 (ae t3.own) ?_
 refine⟨⟨by omega,by omega⟩,?_⟩
 refine v3 t3.F0 al6 Nat.add_zero ?_
 refine⟨by omega,?_⟩
 obtain⟨t4,e4⟩:=t3.aI hx (par p)
 refine vs ?_
 have W3:=t4.len
 generalize H3.wr tb (l3.set (x.toNat*2+1) (i64 (par p)))=H4 at*
 generalize l3.set (x.toNat*2+1) (i64 (par p))=l4 at*
 have Bw:ai (fun z=>z=tb) H1 H4:=(e2.trans e3).trans e4
 have YZ:x≠ -1:=w.pr.ne K8
 have gx:par p≠x:=fun e=>by
  by_cases hq:par p= -1
  ·exact YZ (by rw[←e,hq])
  ·have:=w.less (w.pr.up p _ rfl hq)
   rw[e]at this;omega
 have Y0:par p≠p:=fun e=>by
  have:=w.less (w.pr.up p p e d2)
  omega
 have t5:qD H4 fb tb n l4 (fun z=>V (jr x p z)) (JS par x p):=by
  refine t4.afz fun z h0 h1=>⟨?_,?_⟩
  ·by_cases e1:z=x
   ·rw[e1,nA];unfold xq;rw[if_neg dZ.symm,if_pos rfl,Vl]
   ·by_cases e2:z=p
    ·rw[e2,uW];unfold xq;rw[if_pos rfl,YX]
    ·rw[gh e1 e2];unfold xq;rw[if_neg e2,if_neg e1]
  ·show jr x p (par (jr x p z))=(if z=x then par p else if z∈ch x then p else if z∈(ch p).map (jr x p)then x else par z)
   by_cases e1:z=x
   ·rw[if_pos e1,e1,nA,gh gx Y0]
   ·rw[if_neg e1]
    by_cases e2:z=p
    ·rw[e2,uW,d1,uW,if_neg npx,if_pos ((cF p).2 (.inl rfl))]
    ·rw[gh e1 e2]
     by_cases e3:z∈ch x
     ·rw[if_pos e3,(w.pr.dn x z e3).1,nA]
     ·rw[if_neg e3]
      by_cases e4:z∈ch p
      ·rw[if_pos ((cF z).2 (.inr ⟨e4,e1⟩)),(w.pr.dn p z e4).1,uW]
      ·rw[if_neg (fun h=>by rcases(cF z).1 h with h|h;exact e2 h;exact e4 h.1)]
       rw[gh (fun h=>e3 (w.pr.up z x h YZ)) (fun h=>e4 (w.pr.up z p h d2))]
 have hRK:∀H5:Hp,ai (fun z=>z=bp∨z=tb∨kb (par p)=some z∧par p≠ -1) H H5→RK H.size ro (fun z=>SI x p (ro z))∧(∀z,H5.size≤z→SI x p (ro z)= .no)∧ai (KB ro) H H5:=fun H5 e5=>by
  refine⟨⟨fun z ez hk=>?_,fun z y ez hy=>⟨jr x p y,by rw[hy];rfl⟩,fun z ez=>.inl (by rw[hz z ez];rfl)⟩,fun z ez=>?_,e5.mono fun z _ h=>?_⟩
  ·cases hr:ro z with
   |sH y=>exact absurd hr (hk y)
   |_=>rfl
  ·have:=e5.size
   rw[hz z (by omega)];rfl
  ·rcases h with h|h| ⟨h,hq⟩
   ·exact .inr ⟨p,by rw[h];exact VB⟩
   ·exact .inl (by rw[h];exact m.rt)
   ·obtain⟨h0,h1⟩:=RD hq
    exact .inr ⟨par p,m.rk _ z h0 h1 h⟩
 have aa4:∀z:Int,¬ (0≤z∧z<n)→HP ch x p z=[]:=fun z ez=>by
  unfold HP
  rw[gh (fun e=>ez (by rw[e];exact hx)) (fun e=>ez (by rw[e];exact hp)),m.no z ez]
  rfl
 have hrS:∀z:Int,(0≤z∧z<n)→0≤jr x p z∧jr x p z<n:=fun z ez=>by
  by_cases e1:z=x
  ·rw[e1,nA];exact hp
  ·by_cases e2:z=p
   ·rw[e2,uW];exact hx
   ·rw[gh e1 e2];exact ez
 have VC:∀z c,c∈HP ch x p z→0≤c∧c<n:=fun z c hc=>by
  have:=hrS _ (m.HR _ _ (kW.1 hc))
  rwa[kV]at this
 have hkd:∀z:Int,0≤z→z<n→z≠par p→Sl H4 1 (V (jr x p z)) (HP ch x p z).length ((HP ch x p z).map i64) (kb (jr x p z)):=fun z h0 h1 hzg=>by
  by_cases e1:z=x
  ·unfold HP
   rw[e1,nA,hkp,Vl]
   rw[Ss]
   exact sp1.ext Bw (fun b hb=>by injection hb with hb;omega)
  ·by_cases e2:z=p
   ·unfold HP
    rw[e2,uW,YX,BG nxx npx]
    exact(sx2.ext e3 (fun b hb=>(RA b hb).1)).ext e4 (fun b hb=>(RA b hb).1)
   ·unfold HP
    rw[gh e1 e2]
    have nx:x∉ch z:=fun h=>e2 (by rw[← (w.pr.dn z x h).1,d1])
    have np:p∉ch z:=fun h=>hzg (w.pr.dn z p h).1.symm
    rw[BG nx np]
    refine((m.kd z h0 h1).ext Xf (fun b hb e=>?_)).ext Bw (fun b hb e=>?_)
    ·have:=m.rk z b h0 h1 hb
     rw[e,VB]at this
     injection this with this
     exact e2 this.symm
    ·have:=m.rk z b h0 h1 hb
     rw[e,m.rt]at this
     cases this
 have Xg:∀ (z:Int) b,0≤z→z<n→kb (jr x p z)=some b→SI x p (ro b)= .sH z:=fun z b h0 h1 hb=>by
  obtain⟨g0,g1⟩:=hrS z ⟨h0,h1⟩
  rw[m.rk _ b g0 g1 hb]
  show Rl.sH (jr x p (jr x p z))=_
  rw[kV]
 refine ak.dec (fun h0=>?_) (fun h0=>?_)<;>refine vs ?_
 ·obtain⟨r1,r2,r3⟩:=hRK H4 ((Xf.mono fun z _ h=>.inl h).trans (Bw.mono fun z _ h=>.inr (.inl h)))
  refine⟨rfl,_,l4,_,fun z=>kb (jr x p z),⟨t5,fun z g0 g1=>hkd z g0 g1 (by omega),by rw[m.rf];rfl,by rw[m.rt];rfl,Xg,VC,aa4⟩,r1,r2,r3,fun z h=>by show SI x p (ro z)=_;rw[h];rfl⟩
 ·obtain⟨g0,g1⟩:=RD h0
  have uV:=w.pr.up p _ rfl h0
  obtain⟨ig,hig,eg⟩:=anQ.1 uV
  have sg:=m.kd (par p) g0 g1
  obtain⟨bg,lg,cg,hvg,hkg,qg,qgi,aj3,dw,_⟩:=Sl.Uy sg (i:=ig) (x:=p) (by rw[al5 hig,eg])
  have Qf:=m.rk _ bg g0 g1 hkg
  have hgt:bg≠tb:=fun e=>by rw[e,m.rt]at Qf;cases Qf
  have hgb:bg≠bp:=fun e=>by rw[e,VB]at Qf;injection Qf with Qf;exact Y0 Qf.symm
  have hgf:bg≠fb:=fun e=>by rw[e,m.rf]at Qf;cases Qf
  obtain⟨a1,a2⟩:=t5.at_ _ g0 g1
  rw[gh gx Y0,hvg]at a1
  refine v1 (ae t5.own) ?_
  refine⟨⟨by omega,by omega⟩,?_⟩
  refine v4 (ae t5.F0) al6 Nat.add_zero a1 ?_
  have qg4:=Bw.own (Xf.own qg hgb) hgt
  have sg4:Sl H4 1 (.slice (some ⟨bg,0,none⟩) (ch (par p)).length cg) (ch (par p)).length ((ch (par p)).map i64) (some bg):=by
   rw[hvg,hkg]at sg
   exact(sg.ext Xf (fun b hb=>by injection hb with hb;omega)).ext Bw (fun b hb=>by injection hb with hb;omega)
  have aj5:=rq (par p)
  refine(gz sg4.rd p (by omega)).mono ?_
  rintro _ H' ⟨⟨j,rfl,hj⟩,e⟩
  obtain rfl:=e.symm
  obtain⟨hj0,hj⟩:=hj.resolve_left (fun h=>h.2 uV)
  obtain⟨k,rfl⟩:∃k:Nat,j=(k:Int):=⟨j.toNat,by omega⟩
  rw[Int.toNat_natCast]at hj
  have hkl:=(al7.1 hj).1
  refine vs ?_
  refine⟨⟨by omega,by omega⟩,?_⟩
  refine v4 qg4 al6 ama Int.toNat_natCast ?_
  refine⟨by omega,?_⟩
  refine vs ?_
  have sg5:=sg4.vX qg4 k (i64 x)
  have e5:ai (fun z=>z=bg) H4 (H4.wr bg (lg.set k (i64 x))):=(ai.refl (fun z=>z=bg) _).wr (fun _=>rfl) _
  have nxg:x∉ch (par p):=fun h=>Y0 (by rw[← (w.pr.dn _ x h).1,d1])
  have SJ:(ch (par p)).map (jr p x)=(ch (par p)).map (jr x p):=anE fun c _=>by
   unfold jr
   by_cases e1:c=x
   ·rw[if_neg (fun e=>dZ (by rw[←e,e1])),if_pos e1,if_pos e1]
   ·by_cases e2:c=p
    ·rw[if_pos e2,if_neg e1,if_pos e2]
    ·rw[if_neg e2,if_neg e1,if_neg e1,if_neg e2]
  rw[←amO,Kz (w.pr.nd _) nxg hj,SJ]at sg5
  obtain⟨r1,r2,r3⟩:=hRK _ (((Xf.mono fun z _ h=>.inl h).trans (Bw.mono fun z _ h=>.inr (.inl h))).trans (e5.mono fun z _ h=>.inr (.inr ⟨by rw[h];exact hkg,h0⟩)))
  refine⟨rfl,_,l4,_,fun z=>kb (jr x p z),⟨t5.ext e5 (fun e=>hgf e.symm) (fun e=>hgt e.symm),fun z q0 q1=>?_,by rw[m.rf];rfl,by rw[m.rt];rfl,Xg,VC,aa4⟩,r1,r2,r3,fun z h=>by show SI x p (ro z)=_;rw[h];rfl⟩
  by_cases hzg:z=par p
  ·unfold HP
   rw[hzg,gh gx Y0,hvg,hkg,amu]
   exact sg5
  ·refine(hkd z q0 q1 hzg).ext e5 (fun b hb e=>?_)
   have h7:=Xg z b q0 q1 hb
   rw[e,Qf]at h7
   have h8:Rl.sH (jr x p (par p))= .sH z:=h7
   injection h8 with h8
   rw[gh gx Y0]at h8
   exact hzg h8.symm
end
end Go.Proofs.YtjlnnljohemifaaGreat

namespace Go.Proofs.YtjlnnljohemifaaGreat
open Go Go.Vc
def I6(H:Hp)(v:Value)(xs:List Int)(nb:Option Nat):Prop:=
 ∃a c,v= .slice a xs.length c∧xs.length≤c∧(c=0∨∃b o l,a=some ⟨b,o,none⟩∧nb=some b∧H.own b=some l∧o+c≤l.length∧(l.drop o).take xs.length=xs.map i64)
section
variable {H H' : Hp} {ro ro' : Nat → Rl} {B : Nat} {v : Value} {xs : List Int} {T : Nat → Prop} {nb : Option Nat}
theorem I6.nil(H:Hp)(nb:Option Nat):I6 H (.slice none 0 0) [] nb:=⟨none,0,rfl,ami _,.inl rfl⟩
theorem I6.rd(h:I6 H v xs nb):ep H 1 v xs.length (xs.map i64):=by
 obtain⟨a,c,rfl,hc,h⟩:=h
 refine⟨by simp,?_⟩
 rcases h with rfl| ⟨b,o,l,rfl,_,h1,h2,h3⟩
 ·exact .inl ⟨by omega,a,0,by rw[show xs.length=0 by omega]⟩
 ·exact .inr ⟨b,o,c,l,rfl,ae h1,by omega,by rw[ama];exact h3⟩
theorem I6.ext(h:I6 H v xs nb)(e:ai T H H')(hT:∀z,nb=some z→¬T z):I6 H' v xs nb:=by
 obtain⟨a,c,hv,hc,h⟩:=h
 exact⟨a,c,hv,hc,h.imp_right fun⟨b,o,l,h1,h2,h3,h4⟩=>⟨b,o,l,h1,h2,e.own h3 (hT b h2),h4⟩⟩
theorem I6.cap(h:I6 H v xs nb):∃a c,v= .slice a xs.length c∧xs.length≤c:=by
 obtain⟨a,c,hv,hc,_⟩:=h
 exact⟨a,c,hv,hc⟩
theorem I6.lit{T:TypeId}(x:Int):I6 (H.new T [i64 x]) (.slice (some ⟨H.size,0,none⟩) 1 1) [x] (some H.size):=
 ⟨_,1,rfl,ami _,.inr ⟨H.size,0,[i64 x],rfl,rfl,aG _ _ _,by simp,rfl⟩⟩
theorem I6.tail{x:Int}{a:Option Addr}{c:Nat}(h:I6 H (.slice a (x::xs).length c) (x::xs) nb)(Qe:Decidable ((c:Int)=1)):
  I6 H (.slice (@ite (Option Addr) ((c:Int)=1) Qe a (Option.map (fun(y:Addr)=>y.add (Int.toNat 1*1)) a)) (((xs.length+1:Nat):Int).toNat - Int.toNat 1) ((c:Int).toNat - Int.toNat 1)) xs nb:=by
 rw[show((xs.length+1:Nat):Int).toNat - Int.toNat 1=xs.length by simp,show(c:Int).toNat - Int.toNat 1=c - 1 by simp]
 obtain⟨a',c',hv,hc,h⟩:=h
 injection hv with e1 e2 e3
 subst e1 e3
 rw[ams]at hc
 refine⟨_,c - 1,rfl,by omega,?_⟩
 by_cases h1:(c:Int)=1
 ·exact .inl (by omega)
 ·rw[if_neg h1]
  rcases h with h| ⟨b,o,l,rfl,h2,h3,h4,h5⟩
  ·omega
  ·refine .inr ⟨b,o+1,l,rfl,h2,h3,by omega,?_⟩
   rw[ams,amL]at h5
   have h6:(l.drop (o+1))=(l.drop o).drop 1:=by rw[aoh]
   rw[h6,List.take_drop,Nat.add_comm,h5]
   rfl
theorem I6.push{K:Value→Hp→Prop}{T:TypeId}(h:I6 H v xs nb)(x:Int)(hl:xs.length≤1000000)
  (hk:∀w' H' JF,(JF=nb∨∃z,JF=some z∧H.size≤z∧z<H'.size)→I6 H' w' (xs++[x]) JF→ai (fun z=>nb=some z) H H'→K w' H'):
  lR T 1 8 [i64 0] v (.slice (some ⟨H.size,0,none⟩) 1 1) (H.new T [i64 x]) K:=by
 have fl:ax H (H.new T [i64 x]):=(ai.refl _ _).new _ _
 have h1:=h.rd.fresh fl
 obtain⟨a,c,rfl,hc,h⟩:=h
 have hx:ep (H.new T [i64 x]) 1 (.slice (some ⟨H.size,0,none⟩) 1 1) 1 [i64 x]:=(Sl.dE (size:=1) (n:=1) (xs:=[i64 x]) rfl rfl).rd
 refine ep.rowOf hx (F:=fun m new=>(xs.length+m≤c→m=0→K (.slice a xs.length c) (H.new T [i64 x]))∧
  (xs.length+m≤c→m≠0→xI a fun b o=>aE (KA ((H.new T [i64 x]).own b) ((H.new T [i64 x]).Dg b)) fun l=>eB (o+(xs.length+m)*1≤l.length∧j5 new) (K (.slice a (xs.length+m) c) ((H.new T [i64 x]).wr b (bq l (o+xs.length*1) new))))∧
  (c<xs.length+m→Builtin.nextslicecap (xs.length+m) c*8≤2^48∧
   rowOf (H.new T [i64 x]) 1 (.slice a xs.length c) fun _ SK=>∀c',xs.length+m≤c'→K (.slice (some ⟨(H.new T [i64 x]).size,0,none⟩) (xs.length+m) c') ((H.new T [i64 x]).new T (SK++new++cR [i64 0] (c' - (xs.length+m)))))) ?_
 refine⟨fun _ h=>absurd h (by omega),fun zU _=>?_,fun aR=>⟨?_,?_⟩⟩
 ·rcases h with rfl| ⟨b,o,l,rfl,h2,h3,h4,h5⟩
  ·omega
  ·have VD:=fl.own h3 (fun h=>h)
   show aE (KA ((H.new T [i64 x]).own b) ((H.new T [i64 x]).Dg b)) _
   rw[VD]
   refine⟨⟨by omega,fun v hv=>by rw[amg.1 hv];rfl⟩,?_⟩
   have pJ:(xs++[x]).length=xs.length+1:=by simp
   have e2:ai (fun z=>z=b) (H.new T [i64 x]) ((H.new T [i64 x]).wr b (bq l (o+xs.length*1) [i64 x])):=(ai.refl (fun z=>z=b) _).wr (fun _=>rfl) _
   refine hk _ _ nb (.inl rfl) ⟨some ⟨b,o,none⟩,c,by rw[pJ],by rw[pJ];exact zU,.inr ⟨b,o,bq l (o+xs.length*1) [i64 x],rfl,h2,aj VD,by rw[nq];exact h4,?_⟩⟩ ((fl.mono fun _ _ h=>h.elim).trans (e2.mono fun z _ e=>by rw[e];exact h2))
   rw[ama]
   apply amN
   intro k
   rw[amU,pJ]
   by_cases hk:k<xs.length+1
   ·rw[amA hk,amF,getElem?_splice [i64 x] l _ _ (by simp;omega)]
    by_cases OD:k<xs.length
    ·rw[if_neg (by omega),amn (by simpa using OD),←h5,amA OD,amF]
    ·have:k=xs.length:=by omega
     rw[if_pos (by simp;omega),amw (by simp;omega),this]
     simp
   ·rw[amk (by simp;omega),amk (by simp;omega)]
 ·have h2:Builtin.nextslicecap (xs.length+1) c≤2*(xs.length+1):=nextslicecap_le aR
  have h3:=ana 8 h2
  omega
 ·refine ep.rowOf (n:=xs.length) (xs:=xs.map i64) h1 ?_
  intro c' Le
  have PE:(H.new T [i64 x]).size=H.size+1:=au _ _ _
  refine hk _ _ (some (H.new T [i64 x]).size) (.inr ⟨_,rfl,by omega,by simp only[au];omega⟩) ⟨_,c',by simp,by simpa using Le,.inr ⟨(H.new T [i64 x]).size,0,_,rfl,rfl,aG _ _ _,?_,?_⟩⟩ ((fl.mono fun _ _ h=>h.elim).trans ((ai.refl _ _).new _ _))
  ·simp only[amh,amu,ET,amx,ama]
   omega
  ·rw[List.drop_zero,amU]
   exact List.take_left' (by simp)
theorem RK.low{s s':Nat}(r:RK s' ro ro')(hs:s≤s')(hz:∀z,s≤z→ro z= .no):RK s ro ro':=(RK.refl hz).trans r hs
theorem RK.none{s:Nat}(r:RK s ro ro'){z:Nat}(hz:z<s)(h:ro z= .no):ro' z= .no:=by
 rw[r.o z hz (fun x e=>by rw[h]at e;cases e),h]
end
section
variable {H H' : Hp} {ro ro' : Nat → Rl} {fb tb nn c : Nat} {l : List Value} {V : Int → Value} {ch : Int → List Int} {par : Int → Int} {kb : Int → Option Nat} {C : Nat → Prop} {w : Nw} {lt : Int → Int → Bool} {rows : Int → List Int} {W : List Int}
theorem mq.Sv{hm:Int→Int}(f:mq (aH w) lt ch par rows W){x:Int}(hx:x∈W):0≤x∧x<w.cs.length:=by
 obtain⟨a,b,_⟩:=aF (f.wm x hx).2
 exact⟨a,b⟩
def KC(ro:Nat→Rl)(z:Nat):Prop:=KB ro z∨ro z= .cell
theorem FR(m:ForM H ro fb tb w.cs.length l V ch par kb)(hz:∀z,H.size≤z→ro z= .no)(hn:∃rest,H.own nn=some (ptr c::rest))(cq:CQ H c C w)(hC:∀z,C z→ro z= .cell)(aR:∀a b,aV w a b=true→lt a b=true)
  {x y:Int}(f:mq (aH w) lt ch par rows (x::y::W))(hh:aH w x=aH w y)(hd:(ch x).length=(ch y).length):
  ah Tryz.prog yz [ptr fb,.iface 198 (ptr nn),i64 x,i64 y] H fun v H'=>ay (∃p q ro' l' V' vY,v=i64 p∧((p=x∧q=y)∨(p=y∧q=x))∧ForM H' ro' fb tb w.cs.length l' V' (aA ch p (ch p++[q])) (aI par q p) vY∧
   mq (aH w) lt (aA ch p (ch p++[q])) (aI par q p) rows (p::W)∧CQ H' c C w∧RK H.size ro ro'∧(∀z,H'.size≤z→ro' z= .no)∧ai (KC ro) H H'):=by
 have xx:=f.Sv (hm:=aH w) (x:=x) (by simp)
 have V6:=f.Sv (hm:=aH w) (x:=y) (by simp)
 obtain⟨x1,x2⟩:=f.wm x (by simp)
 obtain⟨y1,y2⟩:=f.wm y (by simp)
 have Rc:x≠y:=fun e=>by have:=f.wn;rw[e]at this;simp at this
 have zp:=cq.Fu
 have Vh:(ch x).length≤w.cs.length:=bY (f.pr.nd x) fun c hc=>m.HR x c hc
 obtain⟨rest,ho⟩:=hn
 refine be yZ ⟨rfl,?_⟩
 refine v1 iO.eq_1 ?_
 refine⟨_,_,cQ,ptr c,rfl,ic (off:=0) (by kernel_rfl) (ae ho) rfl,(cJ cq y x).mono ?_⟩
 rintro _ H1 ⟨rfl,c1,e1⟩
 have m1:=m.ext e1 (fun z ez h=>by
  have:=hC z h
  rcases ez with h2|h2| ⟨_,h2⟩<;>(rw[this]at h2;cases h2))
 have z1:=e1.size
 have Vs:∀z,H1.size≤z→ro z= .no:=fun z h=>hz z (by omega)
 rw[jn (w:=w) (a:=y) (b:=x) y2 x2]
 cases qX:aV w y x
 ·refine vs ?_
  have hl:=aR _ _ (((aq w).OI x y Rc).resolve_right (by rw[qX];simp))
  refine(vk m1 Vs xx V6 x1 y1 Rc hd (by omega)).mono ?_
  rintro _ H2 ⟨rfl,re,l2,V2,ES,m2,r2,ez,e2⟩
  refine vs ?_
  refine⟨x,y,re,l2,V2,ES,rfl,.inl ⟨rfl,rfl⟩,m2,f.link hh hd hl,c1.ext e2 (fun z h hk=>?_),r2.low z1 hz,ez,(e1.mono fun z _ h=>.inr (hC z h)).trans (e2.mono fun z _ h=>.inl h)⟩
  have:=hC z h
  rcases hk with h2| ⟨_,h2⟩<;>(rw[this]at h2;cases h2)
 ·refine vs ?_
  have hl:=aR _ _ qX
  refine(vk m1 Vs V6 xx y1 x1 Rc.symm hd.symm (by omega)).mono ?_
  rintro _ H2 ⟨rfl,re,l2,V2,ES,m2,r2,ez,e2⟩
  refine vs ?_
  refine⟨y,x,re,l2,V2,ES,rfl,.inr ⟨rfl,rfl⟩,m2,(f.perm (List.Perm.swap ..)).link hh.symm hd.symm hl,c1.ext e2 (fun z h hk=>?_),r2.low z1 hz,ez,(e1.mono fun z _ h=>.inr (hC z h)).trans (e2.mono fun z _ h=>.inl h)⟩
  have:=hC z h
  rcases hk with h2| ⟨_,h2⟩<;>(rw[this]at h2;cases h2)
end
end Go.Proofs.YtjlnnljohemifaaGreat

namespace Go.Proofs.YtjlnnljohemifaaGreat
open Go Go.Vc
theorem ep.sub{H:Hp}{size n c:Nat}{a:Option Addr}{xs:List Value}(h:ep H size (.slice a n c) n xs){lo hi:Nat}(h1:lo≤hi)(h2:hi≤n){b':Option Addr}{c':Nat}(hb:lo<hi→b'=a.map (·.add (lo*size))):
  ep H size (.slice b' (hi - lo) c') (hi - lo) ((xs.drop (lo*size)).take ((hi - lo)*size)):=by
 obtain⟨hl,hv⟩:=h
 have e1:(hi - lo)*size=hi*size - lo*size:=Nat.sub_mul _ _ _
 have e2:hi*size≤n*size:=ana _ h2
 have e3:lo*size≤hi*size:=ana _ h1
 refine⟨by rw[amS,List.length_drop,hl];omega,?_⟩
 by_cases aR:lo<hi
 ·rcases hv with ⟨hn,_⟩| ⟨b,o,c2,l,hs,mu,zU,ht⟩
  ·omega
  ·right
   injection hs with eR ON IL
   subst eR
   rw[hb aR]
   refine⟨b,o+lo*size,c',l,?_,mu,by omega,?_⟩
   ·simp[Addr.add]
   ·rw[←ht,List.drop_take,aoh,an7,an4 (by omega)]
 ·left
  exact⟨by omega,b',c',by rw[show hi - lo=0 by omega]⟩
theorem SL{H:Hp}{a:Option Addr}{n c:Nat}{xs:List Int}(h:ep H 1 (.slice a n c) n (xs.map i64)){lo hi:Nat}{lo' hi':Int}(el:lo'=(lo:Int))(eh:hi'=(hi:Int))(h1:lo≤hi)(h2:hi≤n)(h3:n≤c):
  ∃a',Value.slice (if(c:Int)=lo' then a else Option.map (fun x:Addr=>x.add (lo'.toNat*1)) a) (hi'.toNat - lo'.toNat) ((c:Int).toNat - lo'.toNat)= .slice a' (hi - lo) (c - lo)∧
   ep H 1 (.slice a' (hi - lo) (c - lo)) (hi - lo) (((xs.drop lo).take (hi - lo)).map i64)∧hi - lo≤c - lo∧((xs.drop lo).take (hi - lo)).length=hi - lo:=by
 subst el;subst eh
 have hl:=h.1
 rw[amu,ama]at hl
 refine⟨_,rfl,?_,by omega,by rw[amS,List.length_drop];omega⟩
 have h4:=ep.sub h (lo:=lo) (hi:=hi) h1 h2 (c':=(c:Int).toNat - (lo:Int).toNat) (b':=if(c:Int)=(lo:Int)then a else Option.map (fun x:Addr=>x.add ((lo:Int).toNat*1)) a) (fun aR=>by rw[if_neg (by omega)];rfl)
 simp only[ama]at h4 ⊢
 rw[←List.map_drop,←List.map_take]at h4
 exact h4
def Hq(H:Hp)(ro:Nat→Rl)(B:Nat)(v:Value)(xs:List Int):Prop:=
 ∃a c,v= .slice a xs.length c∧xs.length≤c∧(xs=[]∨∃b o l,a=some ⟨b,o,none⟩∧b<B∧¬KC ro b∧H.rd b=some l∧o+xs.length≤l.length∧(l.drop o).take xs.length=xs.map i64)
section
variable {H H' H0 : Hp} {ro ro' Xh : Nat → Rl} {B : Nat} {v : Value} {xs : List Int} {T : Nat → Prop}
theorem Hq.rd(h:Hq H ro B v xs):ep H 1 v xs.length (xs.map i64):=by
 obtain⟨a,c,rfl,hc,h⟩:=h
 refine⟨by simp,?_⟩
 rcases h with rfl| ⟨b,o,l,rfl,_,_,h1,h2,h3⟩
 ·exact .inl ⟨rfl,a,c,rfl⟩
 ·exact .inr ⟨b,o,c,l,rfl,h1,by omega,by rw[ama];exact h3⟩
theorem Hq.ext(h:Hq H ro B v xs)(e:ai T H H')(hT:∀z,z<B→¬KC ro z→¬T z)(hr:∀z,z<H.size→KC ro' z→KC ro z):Hq H' ro' B v xs:=by
 obtain⟨a,c,hv,hc,h⟩:=h
 exact⟨a,c,hv,hc,h.imp_right fun⟨b,o,l,h1,h2,h3,h4,h5⟩=>⟨b,o,l,h1,h2,fun h=>h3 (hr b (Pa h4) h),e.rd h4 (hT b h2 h3),h5⟩⟩
theorem Hq.tail{x:Int}{a:Option Addr}{c:Nat}(h:Hq H ro B (.slice a (x::xs).length c) (x::xs))(Qe:Decidable ((c:Int)=1)):
  Hq H ro B (.slice (@ite (Option Addr) ((c:Int)=1) Qe a (Option.map (fun(y:Addr)=>y.add (Int.toNat 1*1)) a)) (((xs.length+1:Nat):Int).toNat - Int.toNat 1) ((c:Int).toNat - Int.toNat 1)) xs:=by
 rw[show((xs.length+1:Nat):Int).toNat - Int.toNat 1=xs.length by simp,show(c:Int).toNat - Int.toNat 1=c - 1 by simp]
 obtain⟨a',c',hv,hc,h⟩:=h
 injection hv with e1 e2 e3
 subst e1 e3
 rw[ams]at hc
 refine⟨_,c - 1,rfl,by omega,?_⟩
 by_cases h1:(c:Int)=1
 ·exact .inl (amD.1 (by omega))
 ·rw[if_neg h1]
  rcases h with h| ⟨b,o,l,rfl,h2,h3,h4,h5,h6⟩
  ·cases h
  ·rw[ams]at h5 h6
   refine .inr ⟨b,o+1,l,rfl,h2,h3,h4,by omega,?_⟩
   rw[amL]at h6
   have h7:(l.drop (o+1))=(l.drop o).drop 1:=by rw[aoh]
   rw[h7,List.take_drop,Nat.add_comm,h6]
   rfl
theorem Hq.head{x:Int}(h:Hq H ro B v (x::xs)):∃b o l c,v= .slice (some ⟨b,o,none⟩) (x::xs).length c∧H.rd b=some l∧b<H.size∧l[o]? =some (i64 x)∧(x::xs).length≤c:=by
 obtain⟨a,c,hv,hc,h⟩:=h
 rcases h with h| ⟨b,o,l,rfl,h2,h3,h4,h5,h6⟩
 ·cases h
 ·refine⟨b,o,l,c,hv,h4,Pa h4,?_,hc⟩
  have h7:((x::xs).map i64)[0]? =some (i64 x):=rfl
  rw[←h6,amE,if_pos (by simp),amF]at h7
  exact h7
theorem Hq.cap(h:Hq H ro B v xs):∃a c,v= .slice a xs.length c∧xs.length≤c:=by
 obtain⟨a,c,hv,hc,_⟩:=h
 exact⟨a,c,hv,hc⟩
theorem RK.kcs{s:Nat}(r:RK s ro ro'){z:Nat}(hz:z<s)(h:KC ro' z):KC ro z:=by
 rcases h with h|h
 ·exact .inl (r.kbs hz h)
 ·refine .inr ?_
  by_cases hk:∃x,ro z= .sH x
  ·obtain⟨x,hx⟩:=hk
   obtain⟨y,hy⟩:=r.k z x hz hx
   rw[hy]at h;cases h
  ·rw[←r.o z hz (fun x hx=>hk ⟨x,hx⟩)];exact h
structure sA(H0:Hp)(Xh:Nat→Rl)(nn fb tb c:Nat)(C:Nat→Prop)(w:Nw)(H:Hp)(ro:Nat→Rl)(l:List Value)(V:Int→Value)(ch:Int→List Int)(par:Int→Int)(kb:Int→Option Nat)(va vb:Value)(a b:List Int):Prop where
 m:ForM H ro fb tb w.cs.length l V ch par kb
 cq:CQ H c C w
 hC:∀z,C z→ro z= .cell
 own:∃rest,H.own nn=some (ptr c::rest)
 hn:ro nn= .Sa
 hz:∀z,H.size≤z→ro z= .no
 rk:RK H0.size Xh ro
 ra:Hq H ro H0.size va a
 rb:Hq H ro H0.size vb b
 e:ai (KC Xh) H0 H
variable {nn fb tb c : Nat} {C : Nat → Prop} {w : Nw} {l : List Value} {V : Int → Value} {ch : Int → List Int} {par : Int → Int} {kb : Int → Option Nat} {va vb : Value} {a b : List Int}
theorem sA.Uz(h:sA H0 Xh nn fb tb c C w H ro l V ch par kb va vb a b)(e:ai T H H')(hT:∀z,T z→H0.size≤z∧ro z= .no):sA H0 Xh nn fb tb c C w H' ro l V ch par kb va vb a b:=by
 have cr:∀z r,ro z=r→r≠ .no→¬T z:=fun z r h1 h2 ht=>h2 (by rw[←h1,(hT z ht).2])
 obtain⟨rest,ho⟩:=h.own
 have hs:=e.size
 refine⟨h.m.ext e (fun z hz=>?_),h.cq.ext e (fun z hz=>cr z _ (h.hC z hz) (by intro h;cases h)),h.hC,⟨rest,e.own ho (cr nn _ h.hn (by intro h;cases h))⟩,h.hn,fun z hz=>h.hz z (by omega),h.rk,
  h.ra.ext e (fun z hz _ ht=>by have:=(hT z ht).1;omega) (fun _ _ h=>h),h.rb.ext e (fun z hz _ ht=>by have:=(hT z ht).1;omega) (fun _ _ h=>h),?_⟩
 ·rcases hz with h1|h1| ⟨x,h1⟩<;>exact cr z _ h1 (by intro h;cases h)
 ·exact⟨amM h.e.size e.size,fun z hz hn=>by
   rw[e.aN z (amv hz h.e.size) (fun ht=>by have:=(hT z ht).1;omega),h.e.aN z hz hn]⟩
end
end Go.Proofs.YtjlnnljohemifaaGreat

namespace Go.Proofs.YtjlnnljohemifaaGreat
open Go Go.Vc
theorem Bi{H:Hp}{bx:Nat}{a:Option Addr}{c:Nat}{xs:List Int}(hb:H.own bx=some [.slice a xs.length c])(h:ep H 1 (.slice a xs.length c) xs.length (xs.map i64))(hm:xs.length≤1000000)(x:Int):
  ah Tryz.prog lf [i64 x,ptr bx] H fun v H'=>ay (v= .bool (decide (x∈xs))∧H'=H):=by
 refine xU mixed ug (nt:=7) (by kernel_rfl) (by simp) ?_
 refine v2 fu.eq_1 (ae hb) ?_
 refine(xy h x (by omega)).mono ?_
 rintro _ H' ⟨rfl,e⟩
 obtain rfl:=e.symm
 refine vs ?_
 exact⟨rfl,rfl⟩
section
variable {H H' : Hp} {ro ro' : Nat → Rl} {nn fb tb c : Nat} {C : Nat → Prop} {w : Nw} {l : List Value} {V : Int → Value} {ch : Int → List Int} {par : Int → Int} {kb : Int → Option Nat} {va vb : Value} {a b W0 : List Int} {lt : Int → Int → Bool} {rows : Int → List Int} {g : Int}
def Xi(e:Env)(fb nn bx:Nat)(va vo vn:Value)(k:Nat):Prop:=
 e.find 0=some (ptr fb)∧e.find 1=some (.iface 198 (ptr nn))∧e.find 2=some va∧e.find 7=some (ptr bx)∧e.find 10=some vo∧e.find 11=some vn∧e.find 12=some (i64 k)
theorem KD{P:Program}{A B:S}{env:Env}{H:Hp}{Kn:Env→Hp→Prop}{Kx:Nat→Env→Hp→Prop}{Kr:Env→Hp→Prop}(I:Env→Hp→Prop)(h:vc P A env H I Kx Kr)(k:∀e h,I e h→vc P B e h Kn Kx Kr):vc P (.seq A B) env H Kn Kx Kr:=
 EU A env H _ _ _ _ _ _ k (fun _ _ _ h=>h) (fun _ _ h=>h) h
theorem sA.afF(h:sA H ro nn fb tb c C w H' ro' l V ch par kb va vb a b):sA H ro nn fb tb c C w H' ro' l V ch par kb (.slice none 0 0) (.slice none 0 0) [] []:=
 ⟨h.m,h.cq,h.hC,h.own,h.hn,h.hz,h.rk,⟨none,0,rfl,ami _,.inl rfl⟩,⟨none,0,rfl,ami _,.inl rfl⟩,h.e⟩
theorem sA.afG{va':Value}{a':List Int}(h:sA H ro nn fb tb c C w H' ro' l V ch par kb va vb a b)(r:Hq H' ro' H.size va' a'):sA H ro nn fb tb c C w H' ro' l V ch par kb va' vb a' b:=
 ⟨h.m,h.cq,h.hC,h.own,h.hn,h.hz,h.rk,r,h.rb,h.e⟩
theorem sA.SM{vb':Value}{b':List Int}(h:sA H ro nn fb tb c C w H' ro' l V ch par kb va vb a b)(r:Hq H' ro' H.size vb' b'):sA H ro nn fb tb c C w H' ro' l V ch par kb va vb' a b':=
 ⟨h.m,h.cq,h.hC,h.own,h.hn,h.hz,h.rk,h.ra,r,h.e⟩
theorem sA.Es{H3:Hp}{vo:Value}{out:List Int}{nb JF fo:Option Nat}(h:sA H ro nn fb tb c C w H' ro' l V ch par kb va vb a b)(bx:H'.own H.size=some [vb])(so:Sl H' 1 vo out.length (out.map i64) fo)
  (hd:∀z,nb=some z∨fo=some z→H.size<z∧z<H'.size∧ro' z= .no)(Ub:∀z,nb=some z→fo=some z→False)(e3:ai (fun z=>nb=some z) H' H3)(E1:JF=nb∨∃z,JF=some z∧H'.size≤z∧z<H3.size):
  sA H ro nn fb tb c C w H3 ro' l V ch par kb va vb a b∧H3.own H.size=some [vb]∧Sl H3 1 vo out.length (out.map i64) fo∧(∀z,JF=some z∨fo=some z→H.size<z∧z<H3.size∧ro' z= .no)∧(∀z,JF=some z→fo=some z→False):=by
 have pt:=aO bx
 have hs:=e3.size
 refine⟨h.Uz e3 (fun z hz=>by have:=hd z (.inl hz);exact⟨by omega,this.2.2⟩),e3.own bx (fun hz=>by have:=hd _ (.inl hz);omega),so.ext e3 (fun z h1 h2=>Ub z h2 h1),fun z hz=>?_,fun z h1 h2=>?_⟩
 ·rcases hz with hz|hz
  ·rcases E1 with h1| ⟨y,h1,h2,h3⟩
   ·rw[h1]at hz
    have:=hd z (.inl hz)
    exact⟨this.1,by omega,this.2.2⟩
   ·rw[h1]at hz
    injection hz with hz
    subst hz
    exact⟨by omega,h3,h.hz _ h2⟩
  ·have:=hd z (.inr hz)
   exact⟨this.1,by omega,this.2.2⟩
 ·rcases E1 with h3| ⟨y,h3,h4,h5⟩
  ·exact Ub z (by rw[←h3];exact h1) h2
  ·rw[h3]at h1
   injection h1 with h1
   have:=hd z (.inr h2)
   omega
def SN(H0:Hp)(Xh:Nat→Rl)(nn fb tb c:Nat)(C:Nat→Prop)(w:Nw)(lt:Int→Int→Bool)(rows:Int→List Int)(W0:List Int)(g:Int)(HZ:Int→List Int)(k ia ib io:Nat)(pn:Nat→Prop)(H:Hp)(va vb vn vo:Value):Prop:=
 ∃ (a b now out:List Int) (nb fo:Option Nat) (ro:Nat→Rl) (l:List Value) (V:Int→Value) (ch:Int→List Int) (par:Int→Int) (kb:Int→Option Nat),
  sA H0 Xh nn fb tb c C w H ro l V ch par kb va vb a b∧mq (aH w) lt ch par rows (now++(a++(b++(out++W0))))∧p7 (aH w) ch g k ia ib io a b now out∧pn now.length∧
  H.own H0.size=some [vb]∧ro H0.size= .no∧I6 H vn now nb∧Sl H 1 vo out.length (out.map i64) fo∧(∀z,nb=some z∨fo=some z→H0.size<z∧z<H.size∧ro z= .no)∧(∀z,nb=some z→fo=some z→False)∧(∀z∈W0,ch z=HZ z)
set_option maxRecDepth 100000 in
set_option maxHeartbeats 8000000 in
theorem Et(h0:sA H ro nn fb tb c C w H ro l V ch par kb va vb a b)(aR:∀a b,aV w a b=true→lt a b=true)(f0:mq (aH w) lt ch par rows (a++(b++W0)))(hra:Gg ch a)(Xj:Gg ch b)(hg:∀c,c∈a∨c∈b→aH w c=g):
  ah Tryz.prog nG [ptr fb,.iface 198 (ptr nn),va,vb] H fun v H'=>ay (∃out ro' l' V' dT bH vY vo fo,v= .tuple [vo,.bool true].toArray∧sA H ro nn fb tb c C w H' ro' l' V' dT bH vY (.slice none 0 0) (.slice none 0 0) [] []∧
   Sl H' 1 vo out.length (out.map i64) fo∧(∀z,fo=some z→H.size≤z∧ro' z= .no)∧mq (aH w) lt dT bH rows (out++W0)∧Gg dT out∧(∀c∈out,aH w c=g)∧∀z∈W0,dT z=ch z):=by
 have zp:=h0.cq.Fu
 obtain⟨aa,ca,rfl,hca⟩:=h0.ra.cap
 obtain⟨ab,cb,rfl,Ia⟩:=h0.rb.cap
 obtain⟨n1,n2,n3⟩:=amT.1 f0.wn
 have bS:∀x∈a++(b++W0),(0≤x∧x<w.cs.length)∧par x= -1:=fun x hx=>⟨f0.Sv (hm:=aH w) hx,(f0.wm x hx).1⟩
 have hla:=bY n1 fun c hc=>(bS c (amI _ hc)).1
 have HS:=bY (amT.1 n2).1 fun c hc=>(bS c (am4 _ (amI _ hc))).1
 refine be wX ⟨rfl,?_⟩
 refine v1 nM.eq_1 ?_
 have e1:ai (fun z=>H.size≤z) H (H.new 24 [.slice ab b.length cb]):=((ai.refl _ _).new _ _:ax H _).mono fun _ _ h=>h.elim
 have bx1:(H.new 24 [.slice ab b.length cb]).own H.size=some [.slice ab b.length cb]:=aG _ _ _
 have z1:(H.new 24 [.slice ab b.length cb]).size=H.size+1:=au _ _ _
 have h1:=h0.Uz e1 (fun z hz=>⟨hz,h0.hz z hz⟩)
 generalize H.new 24 [.slice ab b.length cb]=H1 at*
 refine(xH h1.m h1.ra.rd (fun x hx=>bS x (amI _ hx)) hra (by omega)).mono ?_
 rintro _ H' ⟨rfl,e⟩
 obtain rfl:=e.symm
 refine v1 (ae bx1) ?_
 refine(xH h1.m h1.rb.rd (fun x hx=>bS x (am4 _ (amI _ hx))) Xj (by omega)).mono ?_
 rintro _ H' ⟨rfl,e⟩
 obtain rfl:=e.symm
 refine vs ?_
 refine(qP (H:=H1) lf [ptr H.size] (fun x=>decide (x∈b)) (fun H'=>H'=H1) rfl (fun H' hI=>by rw[hI];exact h1.ra.rd) (by kernel_rfl) (fun H' x hx hI=>?_) (by omega)).mono ?_
 ·rw[hI]
  exact Bi bx1 h1.rb.rd (by omega) x
 rintro _ H' ⟨rfl,e⟩
 obtain rfl:=e.symm
 have I7:(a.any fun x=>decide (x∈b))=false:=aoj.2 fun x hx=>by
  simp only[amQ]
  exact fun hb=>n3 x hx x (amI _ hb) rfl
 rw[I7]
 refine vs ?_
 have i0:p7 (aH w) ch g 0 0 0 0 a b [] []:=⟨hra,Xj,List.Pairwise.nil,fun _ _=>anS _,fun _ _=>anS _,by simp,by simp,fun c hc=>hg c (by simpa using hc)⟩
 have d0:∀z,((none:Option Nat)=some z∨(none:Option Nat)=some z)→H.size<z∧z<H1.size∧ro z= .no:=fun z hz=>by rcases hz with h|h<;>cases h
 have d00:∀z,(none:Option Nat)=some z→(none:Option Nat)=some z→False:=fun z h=>by cases h
 have cz0:SN H ro nn fb tb c C w lt rows W0 g ch 0 0 0 0 (fun n=>n≤1) H1 (.slice aa a.length ca) (.slice ab b.length cb) (.slice none 0 0) (.slice none 0 0):=
  ⟨a,b,[],[],none,none,ro,l,V,ch,par,kb,h1,f0,i0,anS _,bx1,h0.hz _ (ami _),I6.nil _ _,Sl.nil _ _,d0,d00,fun _ _=>rfl⟩
 refine bA.intro (fun mm env H'=>∃ (k:Nat) (va vb vn vo:Value),mm=w.cs.length+1 - k∧SN H ro nn fb tb c C w lt rows W0 g ch k k k k (fun n=>n≤1) H' va vb vn vo∧
  env=[(0,ptr fb),(1,.iface 198 (ptr nn)),(2,va),(7,ptr H.size),(10,vo),(11,vn),(12,i64 k)]) _ ⟨0,_,_,_,_,rfl,cz0,rfl⟩ ?_
 clear h1 i0 bx1 f0 hra Xj hg bS n1 n2 n3 hla HS I7 h0 e1 d0 d00 cz0 hca Ia
 rintro mm env H2 ⟨k,va,vb,vn,vo,rfl,TH,rfl⟩
 obtain⟨a,b,now,out,nb,fo,re,l2,V2,oo,me,ES,h2,f2,i2,Qs,sL,EV,FS,EW,oW,tF,Di⟩:=id TH
 obtain⟨aa,ca,rfl,hca⟩:=h2.ra.cap
 obtain⟨ab,cb,rfl,Ia⟩:=h2.rb.cap
 obtain⟨an,cn,rfl,Qc⟩:=FS.cap
 obtain⟨ao,co,rfl⟩:=Sl.shape EW
 have NT:=aO sL
 have kU:=f2.wn
 have fZ:=bY kU fun c hc=>f2.Sv (hm:=aH w) hc
 simp only[amh]at fZ
 refine v1 (ae sL) ?_
 rw[wrap64 (n:=(a.length:Int)+b.length) (by omega) (by omega),wrap64 (n:=(a.length:Int)+b.length+now.length) (by omega) (by omega)]
 refine ak.dec (fun We=>?_) (fun We=>?_)
 rotate_left
 ·refine vs ?_
  have T8:a=[]:=amD.1 (by omega)
  have RW:b=[]:=amD.1 (by omega)
  have PV:now=[]:=amD.1 (by omega)
  subst T8 RW PV
  refine⟨out,re,l2,V2,oo,me,ES,_,fo,rfl,h2.afF,EW,fun z hz=>⟨by have:=oW z (.inr hz);omega,(oW z (.inr hz)).2.2⟩,f2,i2.ro,fun c hc=>i2.hg c (.inr (.inr (.inr hc))),Di⟩
 have bm:∀z,(oo z).length≤w.cs.length:=fun z=>bY (f2.pr.nd z) fun c hc=>h2.m.HR z c hc
 have hk:k≤w.cs.length:=by
  by_cases T8:a=[]
  ·by_cases RW:b=[]
   ·obtain⟨x,hx⟩:∃x,x∈now:=by
     cases now with
     |nil=>subst T8 RW;simp at We
     |cons x r=>exact⟨x,by simp⟩
    have:=i2.kn x hx
    have:=bm x
    omega
   ·obtain⟨x,r,rfl⟩:=ann RW
    have:=i2.kb x (by simp)
    have:=bm x
    omega
  ·obtain⟨x,r,rfl⟩:=ann T8
   have:=i2.ka x (by simp)
   have:=bm x
   omega
 clear We bm fZ kU
 rw[SO,UA,Xk,Xl]
 refine KD (fun e h=>∃va vb vn vo,SN H ro nn fb tb c C w lt rows W0 g ch k (k+1) k k (fun n=>n≤2) h va vb vn vo∧Xi e fb nn H.size va vo vn k) ?_ ?_
 ·refine vs ?_
  refine ak.dec (fun ga=>?_) (fun ga=>?_)
  ·obtain⟨x,r,rfl⟩:∃x r,a=x::r:=ann (fun h=>by rw[h]at ga;simp at ga)
   obtain⟨pb,po,pl,pc,hv,mu,PU,bE,hpc⟩:=h2.ra.head
   injection hv with F6 D9 hv3
   subst F6 hv3
   refine vs ?_
   refine⟨⟨by omega,by omega⟩,?_⟩
   refine v5 mu bE Int.toNat_zero amH Nat.add_zero ?_
   refine(df h2.m x).mono ?_
   rintro _ H' ⟨rfl,e⟩
   obtain rfl:=e.symm
   refine vs ?_
   refine ak.dec (fun gd=>?_) (fun gd=>?_)
   ·refine vs ?_
    refine⟨⟨by omega,by omega⟩,?_⟩
    refine v5 mu bE Int.toNat_zero amH Nat.add_zero ?_
    refine FS.push x (by omega) fun w' H3 JF E1 Qt e3=>?_
    obtain⟨h3,Eu,NU,FN,Ew⟩:=h2.Es sL EW oW tF e3 E1
    refine vs ?_
    have xx:(x::r).length=r.length+1:=ams
    refine⟨⟨by omega,by omega,by omega,by omega⟩,?_⟩
    refine vs ?_
    have fp:now++(x::r++(b++(out++W0)))=now++[x]++(r++(b++(out++W0))):=by simp
    rw[fp]at f2
    exact⟨_,_,_,_,⟨r,b,now++[x],out,JF,fo,re,l2,V2,oo,me,ES,h3.afG (h3.ra.tail _),f2,i2.ZQ (by omega),by rw[amh,amx];omega,Eu,EV,Qt,NU,FN,Ew,Di⟩,rfl,rfl,rfl,rfl,rfl,rfl,rfl⟩
   ·refine vs ?_
    exact⟨_,_,_,_,⟨x::r,b,now,out,nb,fo,re,l2,V2,oo,me,ES,h2,f2,i2.Vd (fun c hc=>by injection hc with hc;rw[←hc];omega),by omega,sL,EV,FS,EW,oW,tF,Di⟩,rfl,rfl,rfl,rfl,rfl,rfl,rfl⟩
  ·refine vs ?_
   have T8:a=[]:=amD.1 (by omega)
   exact⟨_,_,_,_,⟨a,b,now,out,nb,fo,re,l2,V2,oo,me,ES,h2,f2,i2.Vd (fun c hc=>by rw[T8]at hc;cases hc),by omega,sL,EV,FS,EW,oW,tF,Di⟩,rfl,rfl,rfl,rfl,rfl,rfl,rfl⟩
 clear TH h2 f2 i2 Qs sL EV FS EW oW tF Di NT hca Ia Qc
 rintro e2 H2 ⟨va,vb,vn,vo,TH,hv⟩
 obtain⟨a,b,now,out,nb,fo,re,l2,V2,oo,me,ES,h2,f2,i2,Qs,sL,EV,FS,EW,oW,tF,Di⟩:=id TH
 obtain⟨ab,cb,rfl,Ia⟩:=h2.rb.cap
 obtain⟨an,cn,rfl,Qc⟩:=FS.cap
 have NT:=aO sL
 obtain⟨I8,F6,D9,I9,sB,sC,sD⟩:=hv
 refine KD (fun e h=>∃va vb vn vo,SN H ro nn fb tb c C w lt rows W0 g ch k (k+1) (k+1) k (fun n=>n≤3) h va vb vn vo∧Xi e fb nn H.size va vo vn k) ?_ ?_
 ·refine v8 I8 F6 D9 I9 sB sC sD (ae sL) ?_
  refine ak.dec (fun gb=>?_) (fun gb=>?_)
  ·obtain⟨x,r,rfl⟩:∃x r,b=x::r:=ann (fun h=>by rw[h]at gb;simp at gb)
   obtain⟨pb,po,pl,pc,hv,mu,PU,bE,hpc⟩:=h2.rb.head
   injection hv with SP aa8 SQ
   subst SP SQ
   refine v8 I8 F6 D9 I9 sB sC sD (ae sL) ?_
   refine⟨⟨by omega,by omega⟩,?_⟩
   refine v12 mu bE Int.toNat_zero amH Nat.add_zero I8 F6 D9 I9 sB sC sD ?_
   refine(df h2.m x).mono ?_
   rintro _ H' ⟨rfl,e⟩
   obtain rfl:=e.symm
   refine v7 I8 F6 D9 I9 sB sC sD ?_
   have xx:(x::r).length=r.length+1:=ams
   have fp:(now++(a++(x::r++(out++W0)))).Perm (now++[x]++(a++(r++(out++W0)))):=by
    rw[anG]
    intro z
    simp only[anP,anM,anm,List.count_nil]
    omega
   refine ak.dec (fun gd=>?_) (fun gd=>?_)
   ·refine vs ?_
    replace f2:=f2.perm fp
    refine qZ.intro (fun _=>True) trivial ?_
    refine vs ?_
    refine IQ.intro ?_ ?_
    ·refine v6 (ae sL) mu bE Int.toNat_zero amH Nat.add_zero ?_
     refine⟨⟨by omega,by omega⟩,?_⟩
     refine v6 (ae sL) mu bE Int.toNat_zero amH Nat.add_zero ?_
     refine IQ.intro ?_ ?_
     ·refine v6 (ae sL) mu bE Int.toNat_zero amH Nat.add_zero ?_
      refine IQ.intro ?_ ?_
      ·refine v6 (ae sL) mu bE Int.toNat_zero amH Nat.add_zero ?_
       refine IQ.intro ?_ ?_
       ·refine vs ?_
        refine FS.push x (by omega) fun w' H3 JF E1 Qt e3=>?_
        obtain⟨h3,Eu,NU,FN,Ew⟩:=h2.Es sL EW oW tF e3 E1
        refine v8 (ae Eu) Eu mu bE Int.toNat_zero amH Nat.add_zero al6 ?_
        refine⟨⟨by omega,by omega,by omega,by omega⟩,?_⟩
        refine v8 (ae Eu) Eu mu bE Int.toNat_zero amH Nat.add_zero al6 ?_
        have e4:∀v,ai (fun z=>z=H.size) H3 (H3.wr H.size [v]):=fun v=>(ai.refl (fun z=>z=H.size) _).wr (fun _=>rfl) _
        have UB:∀v,(H3.wr H.size [v]).own H.size=some [v]:=fun v=>aj Eu
        have h4:=fun v=>h3.Uz (e4 v) (fun z hz=>by rw[hz];exact⟨ami _,EV⟩)
        exact⟨_,_,_,_,⟨a,r,now++[x],out,JF,fo,re,l2,V2,oo,me,ES,(h4 _).SM ((h4 _).rb.tail _),f2,i2.Lg (by omega),by rw[amh,amx];omega,UB _,EV,Qt.ext (e4 _) (fun z hz e=>by have:=FN z (.inl hz);omega),NU.ext (e4 _) (fun z hz e=>by have:=FN z (.inr hz);omega),fun z hz=>by rw[gm];exact FN z hz,Ew,Di⟩,rfl,rfl,rfl,rfl,rfl,rfl,rfl⟩
       ·refine v6 (ae sL) mu bE Int.toNat_zero amH Nat.add_zero ?_
        refine⟨⟨by omega,by omega,by omega,by omega⟩,?_⟩
        refine v6 (ae sL) mu bE Int.toNat_zero amH Nat.add_zero ?_
        refine FS.push x (by omega) fun w' H3 JF E1 Qt e3=>?_
        obtain⟨h3,Eu,NU,FN,Ew⟩:=h2.Es sL EW oW tF e3 E1
        refine v8 (ae Eu) Eu mu bE Int.toNat_zero amH Nat.add_zero al6 ?_
        have e4:∀v,ai (fun z=>z=H.size) H3 (H3.wr H.size [v]):=fun v=>(ai.refl (fun z=>z=H.size) _).wr (fun _=>rfl) _
        have UB:∀v,(H3.wr H.size [v]).own H.size=some [v]:=fun v=>aj Eu
        have h4:=fun v=>h3.Uz (e4 v) (fun z hz=>by rw[hz];exact⟨ami _,EV⟩)
        exact⟨_,_,_,_,⟨a,r,now++[x],out,JF,fo,re,l2,V2,oo,me,ES,(h4 _).SM ((h4 _).rb.tail _),f2,i2.Lg (by omega),by rw[amh,amx];omega,UB _,EV,Qt.ext (e4 _) (fun z hz e=>by have:=FN z (.inl hz);omega),NU.ext (e4 _) (fun z hz e=>by have:=FN z (.inr hz);omega),fun z hz=>by rw[gm];exact FN z hz,Ew,Di⟩,rfl,rfl,rfl,rfl,rfl,rfl,rfl⟩
      ·refine v6 (ae sL) mu bE Int.toNat_zero amH Nat.add_zero ?_
       refine⟨⟨by omega,by omega,by omega,by omega⟩,?_⟩
       refine v6 (ae sL) mu bE Int.toNat_zero amH Nat.add_zero ?_
       refine FS.push x (by omega) fun w' H3 JF E1 Qt e3=>?_
       obtain⟨h3,Eu,NU,FN,Ew⟩:=h2.Es sL EW oW tF e3 E1
       refine v8 (ae Eu) Eu mu bE Int.toNat_zero amH Nat.add_zero al6 ?_
       have e4:∀v,ai (fun z=>z=H.size) H3 (H3.wr H.size [v]):=fun v=>(ai.refl (fun z=>z=H.size) _).wr (fun _=>rfl) _
       have UB:∀v,(H3.wr H.size [v]).own H.size=some [v]:=fun v=>aj Eu
       have h4:=fun v=>h3.Uz (e4 v) (fun z hz=>by rw[hz];exact⟨ami _,EV⟩)
       exact⟨_,_,_,_,⟨a,r,now++[x],out,JF,fo,re,l2,V2,oo,me,ES,(h4 _).SM ((h4 _).rb.tail _),f2,i2.Lg (by omega),by rw[amh,amx];omega,UB _,EV,Qt.ext (e4 _) (fun z hz e=>by have:=FN z (.inl hz);omega),NU.ext (e4 _) (fun z hz e=>by have:=FN z (.inr hz);omega),fun z hz=>by rw[gm];exact FN z hz,Ew,Di⟩,rfl,rfl,rfl,rfl,rfl,rfl,rfl⟩
     ·refine v6 (ae sL) mu bE Int.toNat_zero amH Nat.add_zero ?_
      refine⟨⟨by omega,by omega,by omega,by omega⟩,?_⟩
      refine v6 (ae sL) mu bE Int.toNat_zero amH Nat.add_zero ?_
      refine FS.push x (by omega) fun w' H3 JF E1 Qt e3=>?_
      obtain⟨h3,Eu,NU,FN,Ew⟩:=h2.Es sL EW oW tF e3 E1
      refine v8 (ae Eu) Eu mu bE Int.toNat_zero amH Nat.add_zero al6 ?_
      have e4:∀v,ai (fun z=>z=H.size) H3 (H3.wr H.size [v]):=fun v=>(ai.refl (fun z=>z=H.size) _).wr (fun _=>rfl) _
      have UB:∀v,(H3.wr H.size [v]).own H.size=some [v]:=fun v=>aj Eu
      have h4:=fun v=>h3.Uz (e4 v) (fun z hz=>by rw[hz];exact⟨ami _,EV⟩)
      exact⟨_,_,_,_,⟨a,r,now++[x],out,JF,fo,re,l2,V2,oo,me,ES,(h4 _).SM ((h4 _).rb.tail _),f2,i2.Lg (by omega),by rw[amh,amx];omega,UB _,EV,Qt.ext (e4 _) (fun z hz e=>by have:=FN z (.inl hz);omega),NU.ext (e4 _) (fun z hz e=>by have:=FN z (.inr hz);omega),fun z hz=>by rw[gm];exact FN z hz,Ew,Di⟩,rfl,rfl,rfl,rfl,rfl,rfl,rfl⟩
    ·refine v6 (ae sL) mu bE Int.toNat_zero amH Nat.add_zero ?_
     refine⟨⟨by omega,by omega,by omega,by omega⟩,?_⟩
     refine v6 (ae sL) mu bE Int.toNat_zero amH Nat.add_zero ?_
     refine⟨⟨by omega,by omega⟩,?_⟩
     refine v6 (ae sL) mu bE Int.toNat_zero amH Nat.add_zero ?_
     refine FS.push x (by omega) fun w' H3 JF E1 Qt e3=>?_
     obtain⟨h3,Eu,NU,FN,Ew⟩:=h2.Es sL EW oW tF e3 E1
     refine v8 (ae Eu) Eu mu bE Int.toNat_zero amH Nat.add_zero al6 ?_
     have e4:∀v,ai (fun z=>z=H.size) H3 (H3.wr H.size [v]):=fun v=>(ai.refl (fun z=>z=H.size) _).wr (fun _=>rfl) _
     have UB:∀v,(H3.wr H.size [v]).own H.size=some [v]:=fun v=>aj Eu
     have h4:=fun v=>h3.Uz (e4 v) (fun z hz=>by rw[hz];exact⟨ami _,EV⟩)
     exact⟨_,_,_,_,⟨a,r,now++[x],out,JF,fo,re,l2,V2,oo,me,ES,(h4 _).SM ((h4 _).rb.tail _),f2,i2.Lg (by omega),by rw[amh,amx];omega,UB _,EV,Qt.ext (e4 _) (fun z hz e=>by have:=FN z (.inl hz);omega),NU.ext (e4 _) (fun z hz e=>by have:=FN z (.inr hz);omega),fun z hz=>by rw[gm];exact FN z hz,Ew,Di⟩,rfl,rfl,rfl,rfl,rfl,rfl,rfl⟩
   ·refine vs ?_
    exact⟨_,_,_,_,⟨a,x::r,now,out,nb,fo,re,l2,V2,oo,me,ES,h2,f2,i2.Ve (fun c hc=>by injection hc with hc;rw[←hc];omega),by omega,sL,EV,FS,EW,oW,tF,Di⟩,rfl,rfl,rfl,rfl,rfl,rfl,rfl⟩
  ·refine v7 I8 F6 D9 I9 sB sC sD ?_
   have RW:b=[]:=amD.1 (by omega)
   exact⟨_,_,_,_,⟨a,b,now,out,nb,fo,re,l2,V2,oo,me,ES,h2,f2,i2.Ve (fun c hc=>by rw[RW]at hc;cases hc),by omega,sL,EV,FS,EW,oW,tF,Di⟩,rfl,rfl,rfl,rfl,rfl,rfl,rfl⟩
 clear TH h2 f2 i2 Qs sL EV FS EW oW tF Di NT Ia Qc I8 F6 D9 I9 sB sC sD
 rintro e3 H2 ⟨va,vb,vn,vo,TH,hv⟩
 obtain⟨a,b,now,out,nb,fo,re,l2,V2,oo,me,ES,h2,f2,i2,Qs,sL,EV,FS,EW,oW,tF,Di⟩:=id TH
 obtain⟨an,cn,rfl,Qc⟩:=FS.cap
 obtain⟨ao,co,rfl⟩:=Sl.shape EW
 have NT:=aO sL
 have fZ:=bY f2.wn fun c hc=>f2.Sv (hm:=aH w) hc
 simp only[amh]at fZ
 obtain⟨I8,F6,D9,I9,sB,sC,sD⟩:=hv
 refine KD (fun e h=>∃va vb vn vo,SN H ro nn fb tb c C w lt rows W0 g ch k (k+1) (k+1) (k+1) (fun n=>n=0∨n=2) h va vb vn vo∧Xi e fb nn H.size va vo vn k) ?_ ?_
 ·refine v8 I8 F6 D9 I9 sB sC sD (ae sL) ?_
  rw[if_neg (by decide:¬ (2:Int)=0),Int.tmod_eq_emod_of_nonneg (by omega)]
  refine v7 I8 F6 D9 I9 sB sC sD ?_
  refine ak.dec (fun gp=>?_) (fun gp=>?_)
  ·obtain⟨x,r,rfl⟩:∃x r,now=x::r:=ann (fun h=>by rw[h]at gp;simp at gp)
   have xx:(x::r).length=r.length+1:=ams
   obtain⟨a',c',O1,Le,hn'⟩:=id FS
   injection O1 with SP aa8 SQ
   subst SP SQ
   obtain⟨pb,po,pl,rfl,YZ,Xm,MX,hpt⟩:=hn'.resolve_left (by omega)
   have bE:pl[po]? =some (i64 x):=by
    have h7:((x::r).map i64)[0]? =some (i64 x):=rfl
    rw[←hpt,amE,if_pos (by simp),amF]at h7
    exact h7
   have mu:=ae Xm
   refine v7 I8 F6 D9 I9 sB sC sD ?_
   refine⟨⟨by omega,by omega⟩,?_⟩
   refine v5 mu bE Int.toNat_zero amH Nat.add_zero ?_
   refine Sc EW x (by omega) fun w' H3 Se Q6 NU e3=>?_
   have h3:=h2.Uz e3 (fun z hz=>by have:=oW z (.inr hz);exact⟨by omega,this.2.2⟩)
   have Eu:=e3.own sL (fun hz=>by have:=oW _ (.inr hz);omega)
   have Qt:=FS.ext e3 (fun z h1 h2=>tF z h1 h2)
   have IL:=e3.size
   refine v7 I8 F6 D9 I9 sB sC sD ?_
   refine⟨⟨by omega,by omega,by omega,by omega⟩,?_⟩
   refine v7 I8 F6 D9 I9 sB sC sD ?_
   have fp:(x::r++(a++(b++(out++W0)))).Perm (r++(a++(b++(out++[x]++W0)))):=by
    rw[anG]
    intro z
    simp only[anP,anM,anm,List.count_nil]
    omega
   have FN:∀z,nb=some z∨Se=some z→H.size<z∧z<H3.size∧re z= .no:=fun z hz=>by
    rcases hz with hz|hz
    ·have:=oW z (.inl hz)
     exact⟨this.1,by omega,this.2.2⟩
    ·rcases Q6 with h1| ⟨y,h1,Nr,VD⟩
     ·rw[h1]at hz
      have:=oW z (.inr hz)
      exact⟨this.1,by omega,this.2.2⟩
     ·rw[h1]at hz
      injection hz with hz
      subst hz
      exact⟨by omega,VD,h2.hz _ Nr⟩
   have Ew:∀z,nb=some z→Se=some z→False:=fun z h1 Nr=>by
    rcases Q6 with VD| ⟨y,VD,h4',h5'⟩
    ·exact tF z h1 (by rw[←VD];exact Nr)
    ·rw[VD]at Nr
     injection Nr with Nr
     have:=oW z (.inl h1)
     omega
   exact⟨_,_,_,_,⟨a,b,r,out++[x],nb,Se,re,l2,V2,oo,me,ES,h3,f2.perm fp,i2.ad8,by omega,Eu,EV,Qt.tail _,NU,FN,Ew,Di⟩,rfl,rfl,rfl,rfl,rfl,rfl,rfl⟩
  ·refine v7 I8 F6 D9 I9 sB sC sD ?_
   exact⟨_,_,_,_,⟨a,b,now,out,nb,fo,re,l2,V2,oo,me,ES,h2,f2,⟨i2.ra,i2.rb,i2.ro,i2.ka,i2.kb,i2.kn,fun c hc=>by have:=i2.ko c hc;omega,i2.hg⟩,by omega,sL,EV,FS,EW,oW,tF,Di⟩,rfl,rfl,rfl,rfl,rfl,rfl,rfl⟩
 clear TH h2 f2 i2 Qs sL EV FS EW oW tF Di NT Qc I8 F6 D9 I9 sB sC sD fZ
 rintro e4 H2 ⟨va,vb,vn,vo,TH,hv⟩
 obtain⟨a,b,now,out,nb,fo,re,l2,V2,oo,me,ES,h2,f2,i2,Qs,sL,EV,FS,EW,oW,tF,Di⟩:=id TH
 obtain⟨an,cn,rfl,Qc⟩:=FS.cap
 have NT:=aO sL
 obtain⟨I8,F6,D9,I9,sB,sC,sD⟩:=hv
 refine v8 I8 F6 D9 I9 sB sC sD (ae sL) ?_
 refine ak.dec (fun gp=>?_) (fun gp=>?_)
 ·obtain⟨x,y,rfl⟩:∃x y,now=[x,y]:=by
   match now,gp with
   | [x,y],_=>exact⟨x,y,rfl⟩
   | [],gp=>simp at gp
   | [_],gp=>simp at gp
   |_::_::_::_,gp=>simp at gp;omega
  obtain⟨a',c',O1,Le,hn'⟩:=id FS
  injection O1 with SP aa8 SQ
  subst SP SQ
  have wh:([x,y]:List Int).length=2:=rfl
  obtain⟨pb,po,pl,rfl,YZ,Xm,MX,hpt⟩:=hn'.resolve_left (by omega)
  have Xn:pl[po]? =some (i64 x):=by
   have h7:(([x,y]:List Int).map i64)[0]? =some (i64 x):=rfl
   rw[←hpt,amE,if_pos (by simp),amF]at h7
   exact h7
  have Xo:pl[po+1]? =some (i64 y):=by
   have h7:(([x,y]:List Int).map i64)[1]? =some (i64 y):=rfl
   rw[←hpt,amE,if_pos (by simp),amF]at h7
   exact h7
  have mu:=ae Xm
  refine v7 I8 F6 D9 I9 sB sC sD ?_
  refine⟨⟨by omega,by omega⟩,?_⟩
  refine v12 mu Xn Int.toNat_zero amH Nat.add_zero I8 F6 D9 I9 sB sC sD ?_
  refine⟨⟨by omega,by omega⟩,?_⟩
  refine v11 mu Xo Int.toNat_one aok I8 F6 D9 I9 sB sC sD ?_
  have FY:=i2.kn x (by simp)
  have hyn:=i2.kn y (by simp)
  have OW:=i2.hg x (.inr (.inr (.inl (by simp))))
  have hyg:=i2.hg y (.inr (.inr (.inl (by simp))))
  refine(FR h2.m h2.hz h2.own h2.cq h2.hC aR (W:=a++(b++(out++W0))) f2 (by omega) (by omega)).mono ?_
  rintro _ H3 ⟨p,q,Qu,l3,V3,Xp,rfl,OF,m3,f3,c3,r3,WH,e3⟩
  have aba:∀z,re z= .no→¬KC re z:=fun z h1 h2=>by
   rcases h2 with (h2| ⟨_,h2⟩)|h2<;>(rw[h1]at h2;cases h2)
  have IL:=e3.size
  obtain⟨rest,ho⟩:=h2.own
  have afI:¬KC re nn:=fun h=>by
   have:=h2.hn
   rcases h with (h| ⟨_,h⟩)|h<;>(rw[this]at h;cases h)
  have h3:sA H ro nn fb tb c C w H3 Qu l3 V3 (aA oo p (oo p++[q])) (aI me q p) Xp va vb a b:=by
   refine⟨m3,c3,fun z hz=>?_,⟨rest,e3.own ho afI⟩,?_,WH,h2.rk.trans r3 h2.e.size,h2.ra.ext e3 (fun z _ h=>h) (fun z hz h=>r3.kcs hz h),h2.rb.ext e3 (fun z _ h=>h) (fun z hz h=>r3.kcs hz h),?_⟩
   ·have h5:=h2.hC z hz
    rw[r3.o z (h2.cq.slt z hz) (fun x e=>by rw[h5]at e;cases e),h5]
   ·rw[r3.o nn (aO ho) (fun x e=>by rw[h2.hn]at e;cases e),h2.hn]
   ·exact⟨amM h2.e.size e3.size,fun z hz hn=>by
     rw[e3.aN z (amv hz h2.e.size) (fun h=>hn (h2.rk.kcs hz h)),h2.e.aN z hz hn]⟩
  have Eu:=e3.own sL (aba _ EV)
  have NU:=EW.ext e3 (fun z hz=>aba z (oW z (.inr hz)).2.2)
  have f4:ax H3 (H3.new 3 [i64 p]):=(ai.refl _ _).new _ _
  have f4':ai (fun _=>False) H3 (H3.new 3 [i64 p]):=f4
  have h4:=h3.Uz f4' (fun z hz=>hz.elim)
  have nw4:I6 (H3.new 3 [i64 p]) (.slice (some ⟨H3.size,0,none⟩) 1 1) [p] (some H3.size):=I6.lit p
  have YZ:=amq.1 f3.wn
  have uV:p∉a∧p∉b∧p∉out∧p∉W0:=by
   have:=YZ.1
   simp only[aml,not_or]at this
   exact⟨this.1,this.2.1,this.2.2.1,this.2.2.2⟩
  have i4:=i2.ZS (p:=p) (q:=q) (ami _) (OF.imp (fun h=>h.1) (fun h=>h.1)) ⟨uV.1,uV.2.1,uV.2.2.1⟩
  have hz4:(H3.new 3 [i64 p]).size=H3.size+1:=au _ _ _
  have hd4:∀z,some H3.size=some z∨fo=some z→H.size<z∧z< (H3.new 3 [i64 p]).size∧Qu z= .no:=fun z hz=>by
   rcases hz with hz|hz
   ·injection hz with hz
    subst hz
    exact⟨by omega,by omega,WH _ (ami _)⟩
   ·have:=oW z (.inr hz)
    exact⟨this.1,by omega,r3.none this.2.1 this.2.2⟩
  have afJ:∀z,some H3.size=some z→fo=some z→False:=fun z h1 Nr=>by
   injection h1 with h1
   have:=oW z (.inr Nr)
   omega
  refine v7 I8 F6 D9 I9 sB sC sD ?_
  rw[wrap64 (n:=(k:Int)+1) (by omega) (by omega)]
  refine⟨w.cs.length+1 - (k+1),by omega,k+1,va,vb,_,vo,rfl,⟨a,b,[p],out,some H3.size,fo,Qu,l3,V3,_,_,Xp,h4,f3,i4,by simp,f4.own Eu (fun h=>h),r3.none NT EV,nw4,NU.ext f4 (fun _ _ h=>h),hd4,afJ,fun z hz=>?_⟩,rfl⟩
  unfold aA
  rw[if_neg (fun e=>uV.2.2.2 (by rw[←e];exact hz))]
  exact Di z hz
 ·refine v7 I8 F6 D9 I9 sB sC sD ?_
  have PV:now=[]:=amD.1 (by omega)
  subst PV
  rw[wrap64 (n:=(k:Int)+1) (by omega) (by omega)]
  exact⟨w.cs.length+1 - (k+1),by omega,k+1,va,vb,_,vo,rfl,⟨a,b,[],out,nb,fo,re,l2,V2,oo,me,ES,h2,f2,i2.ZR (ami _),by simp,sL,EV,FS,EW,oW,tF,Di⟩,rfl⟩
end
end Go.Proofs.YtjlnnljohemifaaGreat
