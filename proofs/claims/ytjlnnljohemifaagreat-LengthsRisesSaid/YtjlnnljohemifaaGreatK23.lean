/-
  Texts put behind each other by a program: HufW, HufL, HufM, SumsP, SumV, CloneI, CfI, Same, Right26, Skew, Skew2, Skew3, Pair, Pair2, Pair3, Pair4, Carry2, Carry3, Bin1, Sub, Bin2, Bin3.
-/
import Derived.Test.YtjlnnljohemifaaGreatK1
import Derived.Test.YtjlnnljohemifaaGreatK17
import Derived.Test.YtjlnnljohemifaaGreatK19
import Derived.Test.YtjlnnljohemifaaGreatK20
import Derived.Test.YtjlnnljohemifaaGreatK21
import Derived.Test.YtjlnnljohemifaaGreatK22
set_option linter.unusedVariables false
set_option linter.unusedSimpArgs false
namespace Go.Proofs.YtjlnnljohemifaaGreat
open Go Go.Vc
structure gw(ws:List Int):Prop where
 n1:1≤ws.length
 n2:ws.length≤4096
 pos:∀x∈ws,1≤x
 sum:ws.sum≤9223372036854775807
theorem zM.sum{ws:List Int}{k:Nat}{s:IX}(h:zM ws k s):∀p∈s.bX,∀q∈s.bX,p.2≠q.2→p.1+q.1≤gA ws.length (fun i=>ws.getD i 0)∨∃i,i<ws.length∧ws.getD i 0<0:=by
 intro p hp q hq aS
 by_cases Sc:∃i,i<ws.length∧ws.getD i 0<0
 ·exact .inr Sc
 ·refine .inl ?_
  rw[←h.wt p hp,←h.wt q hq,←sD]
  have:∀n,n≤ws.length→gA n (fun i=>(if s.R i=p.2 then ws.getD i 0 else 0)+(if s.R i=q.2 then ws.getD i 0 else 0))≤gA n (fun i=>ws.getD i 0):=by
   intro n hn
   induction n with
   |zero=>exact Int.le_refl _
   |succ n ih=>
    have:=ih (by omega)
    have h0:0≤ws.getD n 0:=by
     apply Classical.byContradiction
     intro hc
     exact Sc ⟨n,by omega,by omega⟩
    rw[dS,dS]
    split<;>split<;>omega
  exact this _ (Nat.le_refl _)
theorem PU(ws:List Int):gA ws.length (fun i=>ws.getD i 0)=ws.sum:=by
 unfold gA
 rw[pM]
theorem Sd{H:Hp}{s:Nat}{S:Nat→Prop}{w:Nw}{A:Ar}{q:Int}(st:FL H s S w A q)(T1 T2:TypeId):
  PT (((H.new T1 [ptr s]).fX.new T2 [Value.map none]).wr (Array.size H+1+1) [Value.map (some (Array.size H+1))]) H.size (H.size+1+1) (H.size+1) s S w A q []∧ay H (((H.new T1 [ptr s]).fX.new T2 [Value.map none]).wr (Array.size H+1+1) [Value.map (some (Array.size H+1))]):=by
 have fF:=st.slt
 have f1:ay H (H.new T1 [ptr s]):=(ai.refl _ _).new _ _
 have b1:(H.new T1 [ptr s]).own H.size=some [ptr s]:=aG _ _ _
 have z1:(H.new T1 [ptr s]).size=H.size+1:=au _ _ _
 generalize H.new T1 [ptr s]=H1 at*
 have f2:ay H1 H1.fX:=(ai.refl _ _).fX
 have b2:=xz.new H1
 have z2:H1.fX.size=H1.size+1:=kq _
 generalize H1.fX=H2 at*
 have f3:ay H2 (H2.new T2 [Value.map none]):=(ai.refl _ _).new _ _
 have b3:(H2.new T2 [Value.map none]).own H2.size=some [Value.map none]:=aG _ _ _
 have z3:(H2.new T2 [Value.map none]).size=H2.size+1:=au _ _ _
 generalize H2.new T2 [Value.map none]=H3 at*
 rw[z2,z1]at b3
 rw[z1]at b2
 have e4:ai (fun x=>x=H.size+1+1) H3 (H3.wr (H.size+1+1) [Value.map (some (H.size+1))]):=(ai.refl (fun x=>x=H.size+1+1) _).wr (fun _=>rfl) _
 have b4:=aj (l:=[Value.map (some (H.size+1))]) b3
 have hf:ay H (H3.wr (H.size+1+1) [Value.map (some (H.size+1))]):=((f1.trans f2).trans f3).then e4 (fun z hz=>by omega)
 have hn:∀k,¬S (H.size+k):=fun k h=>by have:=fF _ h;omega
 refine⟨⟨st.ext hf (fun _ _ h=>h),e4.own (f3.own (f2.own b1 (fun h=>h)) (fun h=>h)) (by omega),b4,(b2.ext f3 (fun h=>h)).ext e4 (by omega),⟨hn 0,hn 2,hn 1⟩,by omega,by omega⟩,hf⟩
theorem map_set{N:Nat}(f:Nat→Value){i:Nat}(hi:i<N)(v:Value):((List.range N).map f).set i v=(List.range N).map fun j=>if j=i then v else f j:=by
 apply List.ext_getElem?
 intro j
 rw[List.getElem?_set,List.getElem?_map,List.getElem?_map]
 by_cases e:i=j
 ·subst e
  rw[List.getElem?_range hi]
  simp[hi]
 ·by_cases hj:j<N
  ·rw[List.getElem?_range hj,if_neg e]
   simp[Ne.symm e]
  ·rw[List.getElem?_eq_none (by simp;omega),if_neg e]
   rfl
def Jg(ws:List Int)(i:Nat):List (Int×Nat):=(List.range i).map fun j=>(ws.getD j 0,j)
theorem NC{ws:List Int}{i:Nat}{x:Int}(hx:ws[i]? =some x):Jg ws i++[(x,i)]=Jg ws (i+1):=by
 unfold Jg
 rw[List.range_succ,List.map_append,List.map_singleton,List.getD_eq_getElem?_getD,hx]
 rfl
theorem PV(ws:List Int)(i:Nat):(Jg ws i).length=i:=by simp[Jg]
set_option maxRecDepth 100000 in
set_option maxHeartbeats 4000000 in
theorem zp{H:Hp}{s:Nat}{S:Nat→Prop}{ws:List Int}{a:Option Addr}{c:Nat}(st:FL H s S (Cw (ws.length:Int)) (PR (ws.length:Int) 4294967295) 0)(hr:∀H',ai S H H'→ez H' 1 (.slice a ws.length c) ws.length (ws.map i64))(hf:gw ws)(h2:2≤ws.length):
  ah Tryz.prog Dc [ptr s,.slice a ws.length c] H fun v H'=>ax (∃b,v= .slice (some ⟨b,0,none⟩) (2*ws.length - 1) (2*ws.length - 1)∧H.size≤b∧Sl H' 1 v (2*ws.length - 1) ((List.range (2*ws.length - 1)).map fun i=>i64 ((tG ws).up i:Int)) (some b)∧ai S H H'):=by
 have By:=hf.n2
 refine bc Dn ⟨rfl,?_⟩
 refine v1 mD.eq_1 ?_
 obtain⟨m0,f0⟩:=Sd st 81 107
 generalize ((H.new 81 [ptr s]).fX.new 107 [Value.map none]).wr (H.size+1+1) [Value.map (some (H.size+1))]=H0 at*
 refine(Fs m0.st (by simp[Cw])).mono ?_
 rintro _ H1 ⟨rfl,S1,VW,e1,fK⟩
 have m1:=m0.to VW e1 fK
 have z0:=f0.size
 have j5:ai S H H1:=(f0.mono fun _ _ h=>h.elim).trans e1
 have fK:∀z,S1 z→S z∨H.size≤z:=fun z hz=>(fK z hz).imp_right fun h=>by omega
 refine vs ?_
 refine bD.intro (fun mm env H'=>∃ (i:Nat) (S':Nat→Prop) (w':Nw) (A':Ar) (L':List ((Int×Nat)×Value)),mm=ws.length - i∧i≤ws.length∧PT H' H.size (H.size+1+1) (H.size+1) s S' w' A' (i:Int) L'∧ID ws.length w' A' L' (Jg ws i) i∧ai S H H'∧(∀z,S' z→S z∨H.size≤z)∧
  env=[(1,.slice a ws.length c),(2,ptr H.size),(5,ptr (H.size+1+1)),(6,.func (.func ju) #[] #[ptr H.size,ptr (H.size+1+1)]),(22,.slice a ws.length c),(23,i64 ws.length),(24,i64 i)]) ws.length ⟨0,S1,_,_,[],by omega,by omega,m1,ID.zero _,j5,fK,rfl⟩ ?_
 clear m1 VW e1 j5 fK
 rintro mm env H1 ⟨i,S1,w1,A1,L1,rfl,hi,m1,j1,x1,fK,rfl⟩
 refine vs ?_
 refine am.dec (fun aR=>?_) (fun aR=>?_)<;>refine vs ?_
 ·have mX:i<ws.length:=by omega
  obtain⟨x,hx⟩:∃x,ws[i]? =some x:=⟨_,List.getElem?_eq_getElem mX⟩
  obtain⟨_,b,o,lb,rfl,DW,bM⟩:=ez.num (hr H1 x1) hx
  refine⟨⟨by omega,by omega⟩,?_⟩
  refine v4 DW Int.toNat_natCast Nat.mul_one bM ?_
  refine⟨by kernel_rfl,?_⟩
  refine ah.mono (by simpa using tj m1 j1 (by rw[PV];exact mX) (by omega) x) ?_
  rintro _ H2 ⟨rfl,S2,w2,A2,L2,m2,j2,e2,Ox⟩
  rw[NC hx]at j2
  refine vs ?_
  rw[wrap64 (n:=(i:Int)+1) (by omega) (by omega)]
  have z1:=x1.size
  refine⟨ws.length - (i+1),by omega,i+1,S2,w2,A2,L2,rfl,by omega,m2,j2,?_,fun z hz=>?_,rfl⟩
  ·exact⟨Nat.le_trans x1.size e2.size,fun z hz hn=>by rw[e2.aN z (by omega) (fun h=>by rcases h with h|h;exact(fK z h).elim hn (fun h=>by omega);omega),x1.aN z hz hn]⟩
  ·rcases Ox z hz with h|h
   ·exact fK z h
   ·exact .inr (by omega)
 have mX:i=ws.length:=by omega
 subst mX
 clear aR hi
 obtain⟨N,hN⟩:∃N:Nat,N=2*ws.length - 1:=⟨_,rfl⟩
 rw[←hN]
 rw[wrap64 (n:=2*(ws.length:Int)) (by omega) (by omega),show(2*(ws.length:Int) - 1)=(N:Int) by omega,wrap64 (n:=(N:Int)) (by omega) (by omega)]
 refine⟨⟨by omega,by omega,by omega,by omega⟩,?_⟩
 refine v1 Int.toNat_natCast ?_
 have fn:ay H1 (H1.new 3 (cQ [i64 0] N)):=(ai.refl _ _).new _ _
 have zn:(H1.new 3 (cQ [i64 0] N)).size=H1.size+1:=au _ _ _
 have sn:Sl (H1.new 3 (cQ [i64 0] N)) 1 (.slice (some ⟨H1.size,0,none⟩) N N) N ((List.range N).map fun i=>i64 ((mh ws).up i:Int)) (some H1.size):=by
  rw[xq,List.map_replicate,show((List.range N).map fun i=>i64 ((mh ws).up i:Int))=List.replicate N (i64 0)from ?_]
  ·exact Sl.lit H1 _ 1 N _ (by simp)
  ·apply List.ext_getElem?
   intro j
   rw[List.getElem?_map,List.getElem?_replicate]
   by_cases hj:j<N
   ·rw[List.getElem?_range hj,if_pos hj];rfl
   ·rw[List.getElem?_eq_none (by simp;omega),if_neg hj];rfl
 have hub:=m1.lt
 have ai4:H.size+1+1<H1.size:=hub _ (by simp)
 have m2:=m1.ext fn (fun _ _ h=>h)
 have x2:ai S H (H1.new 3 (cQ [i64 0] N)):=x1.trans (fn.mono fun z _ h=>h.elim)
 have aao:¬S1 H1.size:=fun h=>by have:=hub _ (.inl h);omega
 generalize ai5:H1.size=ub at*
 generalize H1.new 3 (cQ [i64 0] N)=H2 at*
 refine bD.intro (fun mm env H'=>∃ (k:Nat) (S':Nat→Prop) (w':Nw) (A':Ar) (L':List ((Int×Nat)×Value)),mm=ws.length - 1 - k∧k+1≤ws.length∧PT H' H.size (H.size+1+1) (H.size+1) s S' w' A' ((ws.length+k:Nat):Int) L'∧ID ws.length w' A' L' (rq k (mh ws)).bX (ws.length+k)∧
  Sl H' 1 (.slice (some ⟨ub,0,none⟩) N N) N ((List.range N).map fun i=>i64 ((rq k (mh ws)).up i:Int)) (some ub)∧¬S' ub∧ai S H H'∧(∀z,S' z→S z∨H.size≤z)∧
  env=[(2,ptr H.size),(5,ptr (H.size+1+1)),(6,.func (.func ju) #[] #[ptr H.size,ptr (H.size+1+1)]),(10,.slice (some ⟨ub,0,none⟩) N N),(11,i64 (ws.length+k:Nat))]) (ws.length - 1) ⟨0,S1,w1,A1,L1,by omega,by omega,m2,j1,sn,aao,x2,fK,rfl⟩ ?_
 clear m1 j1 x1 fK m2 sn aao x2 fn zn hub w1 A1 L1
 rintro mm env H3 ⟨k,S3,w3,A3,L3,rfl,hk,m3,j3,s3,aap,x3,Io,rfl⟩
 have hI:=zM.run ws k (by omega)
 have hIs:∀hh:k+1<ws.length,zM ws (k+1) (rq (k+1) (mh ws)):=fun hh=>zM.run ws (k+1) hh
 have Se:rq (k+1) (mh ws)=(rq k (mh ws)).step:=rfl
 have sw:=hI.at_
 have bm:=hI.len
 have Yu:=hI.ids
 have WF:=hI.sum
 have U4:=IX.UI hI
 have Yk:=hI.wt
 rw[Se]at hIs
 generalize hT:rq k (mh ws)=t at*
 refine vs ?_
 refine am.dec (fun aR=>?_) (fun aR=>?_)<;>refine vs ?_
 ·have Ju:k+1<ws.length:=by omega
  obtain⟨la,lb,zJ,Da,Jh⟩:=U4 Ju
  have MJ:=Jh.length_eq
  simp only[List.length_cons]at MJ
  have aaq:=m3.lt
  refine v1 (ae m3.o1) ?_
  refine(qu m3.st j3.hs).mono ?_
  rintro _ H4 (⟨h0,_⟩| ⟨x,y,hx,hy,rfl,S4,st4,e4,QK⟩)
  ·exact absurd h0 (j3.ne0 (fun e=>by rw[e]at bm;simp at bm;omega))
  obtain⟨x0,xn,id,UZ,hl,hm⟩:=j3.first hx hy
  have T9:=QE.eq Yu hl la
  have j4:=j3.take (by omega) ⟨x0,xn⟩ (by rw[←UZ];exact hy) hl hm
  rw[T9]at j4
  have m4:=m3.to st4 e4 QK
  have aar:¬S4 ub:=fun h=>(QK _ h).elim aap (fun h=>by have:=s3.lt;omega)
  have s4:=s3.ext e4 (fun b hb=>by injection hb with hb;rw[←hb];exact aap)
  have z4:=e4.size
  have y4:ai S H H4:=⟨Nat.le_trans x3.size z4,fun z hz hn=>by rw[e4.aN z (by have:=x3.size;omega) (fun h=>(Io z h).elim hn (fun h=>by omega)),x3.aN z hz hn]⟩
  have QK:∀z,S4 z→S z∨H.size≤z:=fun z hz=>(QK z hz).elim (Io z) (fun h=>.inr (by have:=x3.size;omega))
  refine vs ?_
  obtain⟨f5,b5,z5⟩:=OG H4 114 [Value.int .i64 0,Value.int .u32 0] [i64 x,Value.int .u32 ((A3.cf x:Nat):Int)]
  generalize hB:H4.size=hb at*
  generalize (H4.new 114 [Value.int .i64 0,Value.int .u32 0]).wr hb [i64 x,Value.int .u32 ((A3.cf x:Nat):Int)]=H5 at*
  have m5:=m4.ext f5 (fun _ _ h=>h)
  have s5:=s4.ext f5 (fun _ _ h=>h)
  refine v1 (ae m5.o1) ?_
  have ai7:=m5.lt
  have aeS:¬S4 hb:=fun h=>by have:=st4.slt _ h;omega
  refine(qu m5.st j4.hs).mono ?_
  have hw4:(wo t.bX t.a).length+1=t.bX.length:=by
   have:=(Bs Yu la.m).length_eq
   rw[List.length_cons]at this;omega
  rintro _ H6 (⟨h0,_⟩| ⟨x',y',xa,MD,rfl,S6,st6,e6,Yv⟩)
  ·exact absurd h0 (j4.ne0 (fun e=>by rw[e]at hw4;simp at hw4;omega))
  obtain⟨x0',xn',WG,aeT,Np,hm'⟩:=j4.first xa MD
  have OT:=QE.eq (Yu.wo _) Np lb
  have j6:=j4.take (by omega) ⟨x0',xn'⟩ (by rw[←aeT];exact MD) Np hm'
  rw[OT]at j6
  have m6:=m5.to st6 e6 Yv
  have WH:¬S6 ub:=fun h=>(Yv _ h).elim aar (fun h=>by have:=s5.lt;omega)
  have s6:=s5.ext e6 (fun b hb=>by injection hb with hb;rw[←hb];exact aar)
  have b6:=e6.own b5 aeS
  have z6:=e6.size
  have hx3:=x3.size
  have y6:ai S H H6:=⟨by omega,fun z hz hn=>by rw[e6.aN z (by omega) (fun h=>(QK z h).elim hn (fun h=>by omega)),f5.aN z (by omega) (fun h=>h),y4.aN z hz hn]⟩
  have Yv:∀z,S6 z→S z∨H.size≤z:=fun z hz=>(Yv z hz).elim (QK z) (fun h=>.inr (by omega))
  refine vs ?_
  obtain⟨f7,b7,z7⟩:=OG H6 114 [Value.int .i64 0,Value.int .u32 0] [i64 x',Value.int .u32 (((A3.back x).cf x':Nat):Int)]
  generalize hC:H6.size=hc at*
  generalize (H6.new 114 [Value.int .i64 0,Value.int .u32 0]).wr hc [i64 x',Value.int .u32 (((A3.back x).cf x':Nat):Int)]=H7 at*
  have m7:=m6.ext f7 (fun _ _ h=>h)
  have s7:=s6.ext f7 (fun _ _ h=>h)
  have b8:=f7.own b6 (fun h=>h)
  have y7:=y6.trans (f7.mono fun z _ h=>h.elim)
  have k1:id<N:=by
   have e1:=hI.lt _ la.m
   rw[←T9]at e1
   simp only at e1
   omega
  have k2:WG<N:=by
   have e1:=hI.lt _ Da
   rw[←OT]at e1
   simp only at e1
   omega
  have s7':=s7
  obtain⟨_,ll,cc,hv,ho7,hc7,hc8,_⟩:=s7'
  injection hv with FQ D1 hv3
  subst hv3
  refine v3 (ae m7.o2) (ae b8) (ae b7) ?_
  refine⟨Ed _ _,?_⟩
  refine xz.look m7.m (a:=(x,A3.cf x)) hm ?_
  refine v3 (ae m7.o2) (ae b8) (ae b7) ?_
  refine⟨Ed _ _,?_⟩
  refine xz.look m7.m (a:=(x',(A3.back x).cf x')) hm' ?_
  refine vs ?_
  refine⟨⟨by omega,by omega⟩,?_⟩
  refine v4 ho7 Int.toNat_natCast Nat.mul_one Nat.zero_add ?_
  refine⟨by omega,?_⟩
  have e8:ai (fun z=>z=ub) H7 (H7.wr ub (ll.set id (i64 ((ws.length+k:Nat):Int)))):=(ai.refl (fun z=>z=ub) _).wr (fun _=>rfl) _
  have o8:(H7.wr ub (ll.set id (i64 ((ws.length+k:Nat):Int)))).own ub=some (ll.set id (i64 ((ws.length+k:Nat):Int))):=aj ho7
  have s8:=s7.vP ho7 id (i64 ((ws.length+k:Nat):Int))
  rw[map_set _ k1]at s8
  refine vs ?_
  refine⟨⟨by omega,by omega⟩,?_⟩
  refine v4 o8 Int.toNat_natCast Nat.mul_one Nat.zero_add ?_
  refine⟨by rw[List.length_set];omega,?_⟩
  refine vs ?_
  generalize pt:ll.set id (i64 ((ws.length+k:Nat):Int))=ll8 at*
  have e9:ai (fun z=>z=ub) (H7.wr ub ll8) ((H7.wr ub ll8).wr ub (ll8.set WG (i64 ((ws.length+k:Nat):Int)))):=(ai.refl (fun z=>z=ub) _).wr (fun _=>rfl) _
  have s9:=s8.vP o8 WG (i64 ((ws.length+k:Nat):Int))
  rw[map_set _ k2]at s9
  rw[OK]at e9 s9
  generalize H7.wr ub (ll8.set WG (i64 ((ws.length+k:Nat):Int)))=H9 at*
  have aas:∀z,S6 z∨z=H.size∨z=H.size+1+1∨z=H.size+1→z≠ub:=by
   rintro z (hz|hz|hz|hz) e
   ·exact WH (by rw[←e];exact hz)
   ·omega
   ·omega
   ·omega
  have m9:=(m7.ext e8 (fun z hz e=>aas z hz e)).ext e9 (fun z hz e=>aas z hz e)
  have y9:ai S H H9:=⟨Nat.le_trans y7.size (Nat.le_trans e8.size e9.size),fun z hz hn=>by rw[e9.aN z (by have:=e8.size;have:=y7.size;omega) (by omega),e8.aN z (by have:=y7.size;omega) (by omega),y7.aN z hz hn]⟩
  have agT:0≤t.a.1+t.b.1∧t.a.1+t.b.1≤9223372036854775807:=by
   have Sc:¬ ∃i,i<ws.length∧ws.getD i 0<0:=by
    rintro⟨i,hi,h0⟩
    have hm:ws.getD i 0∈ws:=by
     rw[List.getD_eq_getElem?_getD,List.getElem?_eq_getElem hi]
     exact List.getElem_mem hi
    have:=hf.pos _ hm
    omega
   have Hz:∀p∈t.bX,0≤p.1:=by
    intro p hp
    rw[←Yk p hp]
    refine KT fun i hi=>?_
    split
    ·apply Classical.byContradiction
     intro h0
     exact Sc ⟨i,hi,by omega⟩
    ·exact Int.le_refl _
   have h1:=Hz _ la.m
   have h2:=Hz _ Da
   rcases WF _ la.m _ Da zJ with h|h
   ·rw[PU]at h
    have:=hf.sum
    omega
   ·exact absurd h Sc
  have UP:y.2.1=t.a.1:=by rw[←T9]
  have Lt:y'.2.1=t.b.1:=by rw[←OT]
  rw[UP,Lt,wrap64 (n:=t.a.1+t.b.1) (by omega) (by omega)]
  refine⟨by kernel_rfl,?_⟩
  have hw6:(wo (wo t.bX t.a) t.b).length+2=t.bX.length:=by
   have:=(Bs (Yu.wo _) lb.m).length_eq
   rw[List.length_cons]at this;omega
  refine ah.mono (by simpa using tj m9 j6 (by omega) (by omega) (t.a.1+t.b.1)) ?_
  rintro _ H10 ⟨rfl,S10,w10,A10,L10,m10,j10,e10,aat⟩
  refine vs ?_
  rw[wrap64 (n:=((ws.length+k:Nat):Int)+1) (by omega) (by omega)]
  have hz9:=y9.size
  have hs9:=s9.lt
  refine⟨ws.length - 1 - (k+1),by omega,k+1,S10,w10,A10,L10,rfl,by omega,?_,?_,?_,?_,?_,?_,?_⟩
  ·rw[show((ws.length+(k+1):Nat):Int)=((ws.length+k:Nat):Int)+1 by omega];exact m10
  ·rw[Se]
   have:t.step.bX=wo (wo t.bX t.a) t.b++[(t.a.1+t.b.1,ws.length+k)]:=by unfold IX.step;rw[sw]
   rw[this]
   exact j10
  ·rw[Se]
   have:(fun(i:Nat)=>i64 (t.step.up i:Int))=fun j=>if j=WG then i64 ((ws.length+k:Nat):Int)else if j=id then i64 ((ws.length+k:Nat):Int)else i64 (t.up j:Int):=by
    funext j
    have e1:t.a.2=id:=by rw[←T9]
    have e2:t.b.2=WG:=by rw[←OT]
    show i64 ((if j=t.a.2∨j=t.b.2 then t.at_ else t.up j:Nat):Int)=_
    rw[e1,e2,sw]
    by_cases h1:j=WG
    ·rw[if_pos (.inr h1),if_pos h1]
    ·by_cases h2:j=id
     ·rw[if_pos (.inl h2),if_neg h1,if_pos h2]
     ·rw[if_neg (by omega),if_neg h1,if_neg h2]
   rw[this]
   exact s9.ext e10 (fun b hb=>by injection hb with hb;rw[←hb];rintro(h|h);exact WH h;omega)
  ·intro h
   rcases aat ub h with h|h
   ·exact WH h
   ·omega
  ·exact⟨Nat.le_trans y9.size e10.size,fun z hz hn=>by rw[e10.aN z (by omega) (fun h=>by rcases h with h|h;exact(Yv z h).elim hn (fun h=>by omega);omega),y9.aN z hz hn]⟩
  ·intro z hz
   rcases aat z hz with h|h
   ·exact Yv z h
   ·exact .inr (by omega)
  ·rw[show((ws.length+(k+1):Nat):Int)=((ws.length+k:Nat):Int)+1 by omega]
 ·have Ju:k+1=ws.length:=by omega
  refine⟨ub,rfl,by omega,?_,x3⟩
  unfold tG
  rw[show ws.length - 1=k by omega,hT]
  exact s3
instance(ws:List Int):Decidable (gw ws):=decidable_of_iff (1≤ws.length∧ws.length≤4096∧(∀x∈ws,1≤x)∧ws.sum≤9223372036854775807) ⟨fun⟨a,b,c,d⟩=>⟨a,b,c,d⟩,fun h=>⟨h.n1,h.n2,h.pos,h.sum⟩⟩
theorem A6:∀ (l:List Int),(∀x∈l,1≤x)→0≤l.sum:=by
 intro l
 induction l with
 |nil=>intro _;exact Int.le_refl _
 |cons a r ih=>
  intro h
  have h1:=h a (by simp)
  have h2:=ih (fun x hx=>h x (by simp[hx]))
  rw[List.sum_cons]
  omega
theorem EG{ws:List Int}(h:∀x∈ws,1≤x)(j:Nat):(ws.take j).sum≤ws.sum:=by
 have h1:ws.sum=(ws.take j).sum+(ws.drop j).sum:=by rw[←List.sum_append,List.take_append_drop]
 have h2:=A6 (ws.drop j) (fun x hx=>h x (List.mem_of_mem_drop hx))
 omega
theorem zG{ws:List Int}{j:Nat}{x:Int}(hx:ws[j]? =some x):(ws.take (j+1)).sum=(ws.take j).sum+x:=by
 rw[List.take_add_one,hx,List.sum_append]
 show _+[x].sum=_
 rw[List.sum_cons,List.sum_nil]
 omega
theorem qX{H:Hp}{a:Option Addr}{c:Nat}{ws:List Int}(h:ez H 1 (.slice a ws.length c) ws.length (ws.map i64))(hb:∀x∈ws,x≤9223372036854775807):ah Tryz.prog FZ [.slice a ws.length c] H fun v H'=>ax (v= .bool (decide (gw ws))∧H'=H):=by
 refine bc F4 ⟨rfl,?_⟩
 refine v1 pX.eq_1 ?_
 refine am.dec (fun h1=>?_) (fun h1=>?_)<;>refine v1 decide_true ?_
 ·have PW:¬gw ws:=fun hf=>by have:=hf.n1;omega
  rw[decide_eq_false PW]
  exact⟨rfl,rfl⟩
 refine am.dec (fun h1'=>?_) (fun h1'=>?_)<;>refine v1 decide_true ?_
 ·have PW:¬gw ws:=fun hf=>by have:=hf.n2;omega
  rw[decide_eq_false PW]
  exact⟨rfl,rfl⟩
 refine bD.intro (fun m env H'=>∃j:Nat,m=ws.length - j∧j≤ws.length∧H'=H∧(∀x∈ws.take j,1≤x)∧(ws.take j).sum≤9223372036854775807∧env=[(3,i64 (9223372036854775807 - (ws.take j).sum)),(14,.slice a ws.length c),(15,i64 ws.length),(16,i64 j)]) ws.length ⟨0,by omega,by omega,rfl,by simp,by simp,by simp⟩ ?_
 rintro m env H1 ⟨j,rfl,hj,rfl,hp,hs,rfl⟩
 refine vs ?_
 refine am.dec (fun aR=>?_) (fun aR=>?_)<;>refine vs ?_
 ·have mA:j<ws.length:=by omega
  obtain⟨x,hx⟩:∃x,ws[j]? =some x:=⟨_,List.getElem?_eq_getElem mA⟩
  obtain⟨_,b,o,lb,rfl,DW,bM⟩:=ez.num h hx
  have Ta:=List.mem_of_getElem? hx
  have hxb:=hb x Ta
  have Vd:=zG hx
  have PD:=A6 _ hp
  refine⟨⟨by omega,by omega⟩,?_⟩
  refine v4 DW Int.toNat_natCast Nat.mul_one bM ?_
  refine am.dec (fun h2=>?_) (fun h2=>?_)<;>refine v1 decide_true ?_
  ·have PW:¬gw ws:=fun hf=>by have h3:=hf.pos x Ta;omega
   rw[decide_eq_false PW]
   exact⟨rfl,rfl⟩
  refine am.dec (fun Nc=>?_) (fun Nc=>?_)<;>refine v1 decide_true ?_
  ·have PW:¬gw ws:=fun hf=>by
    have h4:=EG hf.pos (j+1)
    have h5:=hf.sum
    omega
   rw[decide_eq_false PW]
   exact⟨rfl,rfl⟩
  ·rw[wrap64 (n:=9223372036854775807 - (ws.take j).sum - x) (by omega) (by omega),wrap64 (n:=(j:Int)+1) (by omega) (by omega)]
   refine⟨ws.length - (j+1),by omega,j+1,rfl,by omega,trivial,fun y hy=>?_,by omega,?_⟩
   ·rw[List.take_add_one,hx,List.mem_append]at hy
    rcases hy with hy|hy
    ·exact hp y hy
    ·have:y=x:=by simpa using hy
     omega
   ·rw[Vd,show(9223372036854775807:Int) - (ws.take j).sum - x=9223372036854775807 - ((ws.take j).sum+x) by omega]
    rfl
 ·have mA:j=ws.length:=by omega
  subst mA
  rw[List.take_length]at hp hs
  refine⟨?_,rfl⟩
  rw[decide_eq_true ⟨by omega,by omega,hp,hs⟩]
  rfl
def ij(ws:List Int):List Int:=if ws.length=1 then[1]else(yb ws).map fun(n:Nat)=>(n:Int)
def zq(kd dd:Int)(ws:List Int):Int×List Int:=if QP kd dd≠0 then(QP kd dd,[])else if gw ws then(0,ij ws)else(201,[])
theorem CJ(ws:List Int):(ij ws).length=ws.length:=by
 unfold ij
 split
 ·rename_i h;simp[h]
 ·rw[List.length_map,Ra]
def Sf(H:Hp)(sv:Value)(ls:List Int):Prop:=∃a c,sv= .slice a ls.length c∧ez H 1 sv ls.length (ls.map i64)
theorem Sf.nil(H:Hp):Sf H (.slice none 0 0) []:=⟨none,0,rfl,rfl,.inl ⟨rfl,none,0,rfl⟩⟩
theorem Sl.WI{H H':Hp}{size n:Nat}{v:Value}{xs:List Value}{fp:Option Nat}(h:Sl H size v n xs fp)(e:ay H H'):Sl H' size v n xs fp:=h.ext e (fun _ _ h=>h)
theorem Ji{N:Nat}{f:Nat→Value}{i:Nat}(hi:i<N):((List.range N).map f)[i]? =some (f i):=by
 rw[List.getElem?_map,List.getElem?_range hi];rfl
set_option maxRecDepth 100000 in
set_option maxHeartbeats 4000000 in
theorem dX{H:Hp}(kd dd:Int)(C7:lQ kd dd→EF kd dd){a:Option Addr}{c:Nat}{ws:List Int}(h:ez H 1 (.slice a ws.length c) ws.length (ws.map i64))(hb:∀x∈ws,x≤9223372036854775807):
  ah Tryz.prog BC [Nn kd dd,.slice a ws.length c] H fun v H'=>ax (∃sv,v= .tuple [sv,i64 (zq kd dd ws).1].toArray∧Sf H' sv (zq kd dd ws).2∧ay H H'):=by
 refine bc BT ⟨rfl,?_⟩
 refine v1 kX.eq_1 ?_
 have f0:ay H (H.new 23 [i64 kd,i64 dd]):=(ai.refl _ _).new _ _
 have o0:(H.new 23 [i64 kd,i64 dd]).own H.size=some [i64 kd,i64 dd]:=aG _ _ _
 generalize H.new 23 [i64 kd,i64 dd]=H0 at*
 refine(qv kd dd H0).mono ?_
 rintro _ H1 ⟨rfl,f1⟩
 have o1:=f1.own o0 (fun h=>h)
 have g1:=f0.trans f1
 refine vs ?_
 refine am.dec (fun hc=>?_) (fun hc=>?_)<;>refine vs ?_
 rotate_left
 ·have hA:zq kd dd ws=(QP kd dd,[]):=by unfold zq;rw[if_pos hc]
  rw[hA]
  exact⟨_,rfl,Sf.nil _,g1⟩
 have hK:=GC.1 hc
 refine(qX (h.fresh g1) hb).mono ?_
 rintro _ H1' ⟨rfl,e⟩
 obtain rfl:=e.symm
 refine vs ?_
 by_cases hF:gw ws
 rotate_left
 ·rw[decide_eq_false hF]
  refine v1 decide_true ?_
  have hA:zq kd dd ws=(201,[]):=by unfold zq;rw[if_neg (by omega),if_neg hF]
  rw[hA]
  exact⟨_,rfl,Sf.nil _,g1⟩
 rw[decide_eq_true hF]
 have hA:zq kd dd ws=(0,ij ws):=by unfold zq;rw[if_neg (by omega),if_pos hF]
 rw[hA]
 have Db:=hF.n1
 have By:=hF.n2
 refine v1 decide_true ?_
 refine am.dec (fun h1=>?_) (fun h1=>?_)<;>refine vs ?_
 ·have hw:ij ws=[1]:=by unfold ij;rw[if_pos (by omega)]
  rw[hw]
  refine⟨_,rfl,⟨_,_,rfl,(Sl.dQ (n:=1) (xs:=[i64 1]) rfl rfl).rd⟩,g1.trans ((ai.refl _ _).new _ _)⟩
 have h2:2≤ws.length:=by omega
 refine v1 (ae o1) ?_
 refine(J9 hK (C7 hK) (cap:=(ws.length:Int)) (mo:=4294967295) ⟨by omega,by omega⟩ ⟨by omega,by omega⟩ H1).mono ?_
 rintro _ H2 ⟨s,S,rfl,st,f2,hS⟩
 have g2:=g1.trans f2
 have T3:∀z,S z→H.size≤z:=fun z hz=>by have:=hS z hz;have:=g1.size;omega
 refine vs ?_
 refine(zp st (fun H' e=>h.fresh (g2.then e T3)) hF h2).mono ?_
 rintro _ H3 ⟨ub,rfl,hub,su,e3⟩
 have g3:=g2.then e3 T3
 obtain⟨N,hN⟩:∃N:Nat,N=2*ws.length - 1:=⟨_,rfl⟩
 rw[←hN]at su ⊢
 refine v1 Int.toNat_natCast ?_
 refine⟨⟨by omega,by omega,by omega,by omega⟩,?_⟩
 have E:=Jw.MI Db
 have EP:=E.up
 have aeX:=E.O5
 have hEd:yb ws=(List.range ws.length).map (tG ws).d:=rfl
 generalize tG ws=t at*
 refine v1 Int.toNat_natCast ?_
 have fn:ay H3 (H3.new 3 (cQ [i64 0] N)):=(ai.refl _ _).new _ _
 have sd:Sl (H3.new 3 (cQ [i64 0] N)) 1 (.slice (some ⟨H3.size,0,none⟩) N N) N ((List.range N).map fun j=>if N - 1≤j then i64 (t.d j:Int)else i64 0) (some H3.size):=by
  rw[xq,List.map_replicate,show((List.range N).map fun j=>if N - 1≤j then i64 (t.d j:Int)else i64 0)=List.replicate N (i64 0)from ?_]
  ·exact Sl.lit H3 _ 1 N _ (by simp)
  ·apply List.ext_getElem?
   intro j
   rw[List.getElem?_map,List.getElem?_replicate]
   by_cases hj:j<N
   ·rw[List.getElem?_range hj,if_pos hj,Option.map_some]
    by_cases mA:N - 1≤j
    ·rw[if_pos mA,show j=2*ws.length - 2 by omega,aeX];rfl
    ·rw[if_neg mA]
   ·rw[List.getElem?_eq_none (by simp;omega),if_neg hj];rfl
 have hdb:ub<H3.size:=su.lt
 have su2:=Sl.WI su fn
 have g4:=g3.trans fn
 have Wi:=g3.size
 generalize hD:H3.size=db at*
 generalize H3.new 3 (cQ [i64 0] N)=H4 at*
 rw[wrap64 (n:=(N:Int) - 2) (by omega) (by omega)]
 refine bD.intro (fun mm env H'=>∃r:Nat,mm=r∧r≤N - 1∧ai (fun z=>z=db) H4 H'∧Sl H' 1 (.slice (some ⟨db,0,none⟩) N N) N ((List.range N).map fun j=>if r≤j then i64 (t.d j:Int)else i64 0) (some db)∧
  env=[(7,i64 ws.length),(10,.slice (some ⟨ub,0,none⟩) N N),(11,.slice (some ⟨db,0,none⟩) N N),(12,i64 ((r:Int) - 1))]) (N - 1) ⟨N - 1,rfl,Nat.le_refl _,ai.refl _ _,sd,by rw[show(((N - 1:Nat):Int) - 1)=(N:Int) - 2 by omega]⟩ ?_
 clear sd
 rintro mm env H5 ⟨r,e0,hr,e5,s5,rfl⟩
 obtain rfl:=e0.symm
 have su5:=su2.ext e5 (fun b hb=>by injection hb with hb;omega)
 have g5:ay H H5:=g4.then e5 (fun z hz=>by omega)
 refine vs ?_
 refine am.dec (fun RX=>?_) (fun RX=>?_)<;>refine vs ?_
 ·obtain⟨i,rfl⟩:∃i,r=i+1:=⟨r - 1,by omega⟩
  obtain⟨u1,u2,u3⟩:=EP i (by omega)
  have k1:=Ji (N:=N) (f:=fun i=>i64 (t.up i:Int)) (i:=i) (by omega)
  have k2:=Ji (N:=N) (f:=fun j=>if i+1≤j then i64 (t.d j:Int)else i64 0) (i:=t.up i) (by omega)
  rw[if_pos (by omega)]at k2
  have aeY:=su5
  have s5':=s5
  obtain⟨_,lu,cu,hv,hou,hu1,hu2,_⟩:=aeY
  injection hv with _ _ hv
  subst hv
  obtain⟨_,ld,cd,hv,Yw,hd1,oN,_⟩:=s5'
  injection hv with _ _ hv
  subst hv
  have c1:=Sl.get su5 hou k1
  have c2:=Sl.get s5 Yw k2
  have Ff:(((i+1:Nat):Int) - 1)=(i:Int):=by omega
  rw[Ff]
  have hdl:=E.dl (t.up i) (by have:=E.at_;omega)
  refine⟨⟨by omega,by omega⟩,?_⟩
  refine v5 (ae hou) Int.toNat_natCast Nat.mul_one Nat.zero_add c1 ?_
  refine⟨⟨by omega,by omega⟩,?_⟩
  refine v5 (ae Yw) Int.toNat_natCast Nat.mul_one Nat.zero_add c2 ?_
  refine⟨⟨by omega,by omega⟩,?_⟩
  refine v4 Yw Int.toNat_natCast Nat.mul_one Nat.zero_add ?_
  rw[wrap64 (n:=(t.d (t.up i):Int)+1) (by omega) (by omega)]
  refine⟨by omega,?_⟩
  have e6:ai (fun z=>z=db) H5 (H5.wr db (ld.set i (i64 ((t.d (t.up i):Int)+1)))):=(ai.refl (fun z=>z=db) _).wr (fun _=>rfl) _
  have s6:=s5.vP Yw i (i64 ((t.d (t.up i):Int)+1))
  rw[map_set _ (by omega:i<N)]at s6
  refine vs ?_
  rw[wrap64 (n:=(i:Int) - 1) (by omega) (by omega)]
  refine⟨i,by omega,i,rfl,by omega,e5.trans e6,?_,rfl⟩
  have:(fun j=>if j=i then i64 ((t.d (t.up i):Int)+1)else if i+1≤j then i64 (t.d j:Int)else i64 0)=fun j=>if i≤j then i64 (t.d j:Int)else i64 0:=by
   funext j
   by_cases hj:j=i
   ·rw[if_pos hj,if_pos (by omega),hj,u3];rfl
   ·rw[if_neg hj]
    by_cases mA:i+1≤j
    ·rw[if_pos mA,if_pos (by omega)]
    ·rw[if_neg mA,if_neg (by omega)]
  rw[this]at s6
  exact s6
 ·have hr0:r=0:=by omega
  subst hr0
  have hlw:ij ws=(yb ws).map fun(n:Nat)=>(n:Int):=by unfold ij;rw[if_neg (by omega)]
  obtain⟨q0,ld,cd,hv,Yw,hd1,oN,Fx⟩:=s5
  injection hv with _ _ hv
  subst hv
  refine⟨⟨by omega,by omega,by omega,by omega⟩,?_⟩
  refine v1 Int.toNat_natCast ?_
  have pt:(ij ws).length=ws.length:=CJ ws
  rw[if_neg (by omega)]
  refine⟨_,rfl,⟨some ⟨db,0,none⟩,ws.length,?_,?_⟩,g5⟩
  ·rw[pt]
   simp[Addr.add]
  ·rw[pt]
   refine⟨by rw[List.length_map,pt,Nat.mul_one],.inr ⟨db,0,ws.length,ld,by simp[Addr.add],ae Yw,by omega,?_⟩⟩
   rw[List.drop_zero,Nat.mul_one]
   have h6:ld.take ws.length=(ld.take (N*1)).take ws.length:=by rw[List.take_take,show min ws.length (N*1)=ws.length by omega]
   rw[h6,Fx,hlw,hEd,List.map_map,List.map_map,←List.map_take,List.take_range,show min ws.length N=ws.length by omega]
   refine List.map_congr_left fun j _=>?_
   rw[if_pos (Nat.zero_le _)]
   rfl
def Sg(s:Int×Nat):Value:=.agg [i64 s.1,u64 s.2].toArray
def ND(S:Int):Int×Nat:=(S / 18446744073709551616,(S%18446744073709551616).toNat)
theorem Sh{S T:Int}(h:ND S=ND T):S=T:=by
 unfold ND at h
 injection h with h1 h2
 omega
set_option maxHeartbeats 1000000 in
theorem Fy{H:Hp}{a:Option Addr}{c:Nat}{xs:List Int}(f:FuncId)(tg:List Value)(q:Int→Bool)(Inv:Hp→Prop)(hI:Inv H)(mw:∀H',Inv H'→ez H' 1 (.slice a xs.length c) xs.length (xs.map i64))(Fl:eV Tryz.prog f=true)
  (hf:∀H' x,x∈xs→Inv H'→ah Tryz.prog f (i64 x::tg) H' fun v Gk=>ax (v= .bool (q x)∧Inv Gk))(hm:xs.length≤1000000000):
  ah Tryz.prog gD [.slice a xs.length c,.func (.func f) #[] tg.toArray] H fun v H'=>ax (∃i:Int,v=i64 i∧(0≤i↔xs.any q=true)∧Inv H'):=by
 refine bc gI ⟨rfl,?_⟩
 refine v1 cJ.eq_1 ?_
 refine bD.intro (fun m env H'=>Inv H'∧∃j:Nat,m=xs.length - j∧j≤xs.length∧(∀e∈xs.take j,q e=false)∧env=[(0,.slice a xs.length c),(1,.func (.func f) #[] tg.toArray),(7,i64 xs.length),(8,i64 j)]) xs.length ⟨hI,0,by omega,by omega,by simp,rfl⟩ ?_
 rintro m env H1 ⟨i1,j,hmj,hj,fY,rfl⟩
 have h1:=mw H1 i1
 refine vs ?_
 refine am.dec (fun aR=>?_) (fun aR=>?_)<;>refine vs ?_
 ·have mA:j<xs.length:=by omega
  obtain⟨e,he⟩:∃e,xs[j]? =some e:=⟨_,List.getElem?_eq_getElem mA⟩
  obtain⟨_,b,o,lb,rfl,DW,bM⟩:=ez.num h1 he
  refine⟨⟨by omega,by omega⟩,?_⟩
  have cF:=List.mem_of_getElem? he
  refine v4 DW Int.toNat_natCast Nat.mul_one bM ?_
  refine⟨Fl,?_⟩
  refine ah.mono (by simpa using hf H1 e cF i1) ?_
  rintro _ H2 ⟨rfl,i2⟩
  refine vs ?_
  cases hx:q e
  ·refine vs ?_
   rw[wrap64 (n:=(j:Int)+1) (by omega) (by omega)]
   refine⟨xs.length - (j+1),by omega,i2,j+1,rfl,by omega,?_,rfl⟩
   intro e' tD
   rw[List.take_add_one,he]at tD
   rcases List.mem_append.1 tD with tD|tD
   ·exact fY e' tD
   ·have:e'=e:=by simpa using tD
    rw[this];exact hx
  ·refine vs ?_
   exact⟨j,rfl,⟨fun _=>List.any_eq_true.2 ⟨e,cF,hx⟩,fun _=>by omega⟩,i2⟩
 ·refine⟨-1,rfl,?_,i1⟩
  have mA:j=xs.length:=by omega
  subst mA
  rw[List.take_length]at fY
  have:xs.any q=false:=List.any_eq_false.2 fun e he=>by rw[fY e he];simp
  rw[this]
  simp
theorem qD{H:Hp}{a:Option Addr}{c:Nat}{xs:List Int}(f:FuncId)(tg:List Value)(q:Int→Bool)(Inv:Hp→Prop)(hI:Inv H)(mw:∀H',Inv H'→ez H' 1 (.slice a xs.length c) xs.length (xs.map i64))(Fl:eV Tryz.prog f=true)
  (hf:∀H' x,x∈xs→Inv H'→ah Tryz.prog f (i64 x::tg) H' fun v Gk=>ax (v= .bool (q x)∧Inv Gk))(hm:xs.length≤1000000000):
  ah Tryz.prog nm [.slice a xs.length c,.func (.func f) #[] tg.toArray] H fun v H'=>ax (v= .bool (xs.any q)∧Inv H'):=by
 refine bc nD ⟨rfl,?_⟩
 refine v1 c9.eq_1 ?_
 refine(Fy f tg q Inv hI mw Fl hf hm).mono ?_
 rintro _ H1 ⟨i,rfl,hi,i1⟩
 refine vs ?_
 refine⟨congrArg Value.bool ?_,i1⟩
 cases hx:xs.any q
 ·rw[hx]at hi
  exact decide_eq_false (fun h=>by cases hi.1 h)
 ·rw[hx]at hi
  exact decide_eq_true (hi.2 rfl)
theorem vg{H:Hp}{a a':Option Addr}{c c':Nat}{xs ys:List Int}(h:ez H 1 (.slice a xs.length c) xs.length (xs.map i64))(h':ez H 1 (.slice a' ys.length c') ys.length (ys.map i64))(hm:xs.length≤1000000000000):
  ah Tryz.prog JE [.slice a xs.length c,.slice a' ys.length c'] H fun v H'=>ax (v= .bool (decide (xs=ys))∧H=H'):=by
 refine bc JK ⟨rfl,?_⟩
 refine v1 tO.eq_1 ?_
 refine am.dec (fun h2=>?_) (fun h2=>?_)
 rotate_left
 ·refine vs ?_
  exact⟨by rw[decide_eq_false (p:=xs=ys) (fun e=>h2 (by rw[e]))];rfl,rfl⟩
 refine vs ?_
 refine bD.intro (fun k env H'=>H'=H∧∃j:Nat,k=xs.length - j∧j≤xs.length∧xs.take j=ys.take j∧env=[(0,.slice a xs.length c),(1,.slice a' ys.length c'),(12,i64 xs.length),(13,i64 j)]) xs.length ⟨rfl,0,by omega,by omega,rfl,rfl⟩ ?_
 rintro k env _ ⟨rfl,j,hk,hj,htk,rfl⟩
 refine vs ?_
 refine am.dec (fun aR=>?_) (fun aR=>?_)<;>refine vs ?_
 ·have mA:j<xs.length:=by omega
  obtain⟨x,hx⟩:∃e,xs[j]? =some e:=⟨_,List.getElem?_eq_getElem mA⟩
  obtain⟨y,hy⟩:∃e,ys[j]? =some e:=⟨_,List.getElem?_eq_getElem (by omega)⟩
  obtain⟨_,b,o,lb,rfl,mw,bM⟩:=ez.num h hx
  obtain⟨_,b',o',TS,rfl,IE,GZ⟩:=ez.num h' hy
  refine⟨⟨by omega,by omega⟩,?_⟩
  refine v4 mw Int.toNat_natCast Nat.mul_one bM ?_
  refine⟨⟨by omega,by omega⟩,?_⟩
  refine v4 IE Int.toNat_natCast Nat.mul_one GZ ?_
  refine am.dec (fun h3=>?_) (fun h3=>?_)<;>refine vs ?_
  ·rw[wrap64 (n:=(j:Int)+1) (by omega) (by omega)]
   exact⟨xs.length - (j+1),by omega,trivial,j+1,rfl,by omega,by rw[List.take_add_one,List.take_add_one,hx,hy,htk,h3],rfl⟩
  ·refine⟨?_,rfl⟩
   rw[decide_eq_false (fun e2=>h3 (by rw[e2,hy]at hx;injection hx with hx;exact hx.symm))]
   rfl
 ·have mA:j=xs.length:=by omega
  subst mA
  rw[List.take_length,List.take_of_length_le (by omega)]at htk
  exact⟨by rw[decide_eq_true htk];rfl,rfl⟩
theorem Ee{H:Hp}{a:Option Addr}{c:Nat}{ws:List Int}(h:ez H 1 (.slice a ws.length c) ws.length (ws.map i64))(hb:∀x∈ws,x≤9223372036854775807)(hm:ws.length≤9000000000000000000):ah Tryz.prog HI [.slice a ws.length c] H fun v H'=>ax (v= .bool (decide (gw ws))∧H'=H):=by
 refine bc HS ⟨rfl,?_⟩
 refine v1 rE.eq_1 ?_
 refine bD.intro (fun m env H'=>∃j:Nat,m=ws.length - j∧j≤ws.length∧H'=H∧(∀x∈ws.take j,1≤x)∧(ws.take j).sum≤9223372036854775807∧env=[(0,.slice a ws.length c),(3,i64 (9223372036854775807 - (ws.take j).sum)),(6,.slice a ws.length c),(7,i64 ws.length),(8,i64 j)]) ws.length ⟨0,by omega,by omega,rfl,by simp,by simp,by simp⟩ ?_
 rintro m env H1 ⟨j,rfl,hj,rfl,hp,hs,rfl⟩
 refine vs ?_
 refine am.dec (fun aR=>?_) (fun aR=>?_)<;>refine vs ?_
 ·have mA:j<ws.length:=by omega
  obtain⟨x,hx⟩:∃x,ws[j]? =some x:=⟨_,List.getElem?_eq_getElem mA⟩
  obtain⟨_,b,o,lb,rfl,DW,bM⟩:=ez.num h hx
  have Ta:=List.mem_of_getElem? hx
  have hxb:=hb x Ta
  have Vd:=zG hx
  have PD:=A6 _ hp
  refine⟨⟨by omega,by omega⟩,?_⟩
  refine v4 DW Int.toNat_natCast Nat.mul_one bM ?_
  refine am.dec (fun h2=>?_) (fun h2=>?_)<;>refine v1 decide_true ?_
  ·have PW:¬gw ws:=fun hf=>by have h3:=hf.pos x Ta;omega
   rw[decide_eq_false PW]
   exact⟨rfl,rfl⟩
  refine am.dec (fun Nc=>?_) (fun Nc=>?_)<;>refine v1 decide_true ?_
  ·have PW:¬gw ws:=fun hf=>by
    have h4:=EG hf.pos (j+1)
    have h5:=hf.sum
    omega
   rw[decide_eq_false PW]
   exact⟨rfl,rfl⟩
  ·rw[wrap64 (n:=9223372036854775807 - (ws.take j).sum - x) (by omega) (by omega),wrap64 (n:=(j:Int)+1) (by omega) (by omega)]
   refine⟨ws.length - (j+1),by omega,j+1,rfl,by omega,trivial,fun y hy=>?_,by omega,?_⟩
   ·rw[List.take_add_one,hx,List.mem_append]at hy
    rcases hy with hy|hy
    ·exact hp y hy
    ·have:y=x:=by simpa using hy
     omega
   ·rw[Vd,show(9223372036854775807:Int) - (ws.take j).sum - x=9223372036854775807 - ((ws.take j).sum+x) by omega]
    rfl
 ·have mA:j=ws.length:=by omega
  subst mA
  rw[List.take_length]at hp hs
  refine am.dec (fun h1=>?_) (fun h1=>?_)<;>refine v1 decide_true ?_
  ·refine⟨?_,rfl⟩
   have:gw ws↔(ws.length:Int)≤4096:=⟨fun h=>by have:=h.n2;omega,fun h=>⟨by omega,by omega,hp,hs⟩⟩
   exact congrArg Value.bool (decide_eq_decide.2 this.symm)
  ·have PW:¬gw ws:=fun hf=>by have:=hf.n1;omega
   rw[decide_eq_false PW]
   exact⟨rfl,rfl⟩
structure SB where
 n:Nat
 c:Nat
 t:Nat
 tl:Nat
 mp:Nat
def G0(T:Int→Int):Int→Option Value:=fun h=>if T h= -1 then none else some (i64 (T h))
structure eB(H:Hp)(B:SB)(C:Nat→Prop)(w:Nw)(L:List Lk)(T:Int→Int):Prop where
 own:H.own B.n=some [ptr B.c,ptr B.t,.map (some B.mp)]
 cells:CQ H B.c C w
 bW:bP H B.t B.tl L
 O5:ou H B.mp (G0 T)
 len:L.length=w.cs.length
 qM:(B.n≠B.t∧B.n≠B.tl∧B.n≠B.mp)∧(B.t≠B.tl∧B.t≠B.mp)∧B.tl≠B.mp
 out:¬C B.n∧¬C B.t∧¬C B.tl∧¬C B.mp
def SB.S(B:SB)(C:Nat→Prop)(z:Nat):Prop:=C z∨z=B.n∨z=B.t∨z=B.tl∨z=B.mp
section
variable {H H' : Hp} {B : SB} {C V : Nat → Prop} {w w' : Nw} {L L' : List Lk} {T : Int → Int}
theorem eB.slt(h:eB H B C w L T):∀z,B.S C z→z<H.size:=by
 rintro z (hz|rfl|rfl|rfl|rfl)
 ·exact h.cells.slt z hz
 ·exact aO h.own
 ·exact aO h.bW.own
 ·exact aO h.bW.nN
 ·exact h.O5.lt
theorem eB.ext(h:eB H B C w L T)(e:ai V H H')(hd:∀z,B.S C z→¬V z):eB H' B C w L T:=
 ⟨e.own h.own (hd _ (.inr (.inl rfl))),h.cells.ext e (fun x hx=>hd x (.inl hx)),h.bW.ext e (hd _ (.inr (.inr (.inl rfl)))) (hd _ (.inr (.inr (.inr (.inl rfl))))),
  h.O5.ext e (hd _ (.inr (.inr (.inr (.inr rfl))))),h.len,h.qM,h.out⟩
theorem eB.fresh(h:eB H B C w L T)(e:ay H H'):eB H' B C w L T:=h.ext e fun _ _ h=>h
theorem eB.aK(h:eB H B C w L T)(c1:CQ H' B.c C w')(e:ai C H H')(hl:w'.cs.length=w.cs.length):eB H' B C w' L T:=by
 obtain⟨o1,o2,o3,o4⟩:=h.out
 exact⟨e.own h.own o1,c1,h.bW.ext e o2 o3,h.O5.ext e o4,by rw[hl];exact h.len,h.qM,h.out⟩
theorem eB.dJ(h:eB H B C w L T)(t1:bP H' B.t B.tl L')(e:ai (fun z=>z=B.tl) H H')(hl:L'.length=L.length):eB H' B C w L' T:=by
 obtain⟨o1,o2,o3,o4⟩:=h.out
 obtain⟨⟨d1,d2,d3⟩,⟨d4,d5⟩,d6⟩:=h.qM
 exact⟨e.own h.own d2,h.cells.ext e (fun x hx hz=>o3 (hz▸hx)),t1,h.O5.ext e (Ne.symm d6),by rw[hl];exact h.len,h.qM,h.out⟩
theorem eB.nO(h:eB H B C w L T){T':Int→Int}(t1:ou H' B.mp (G0 T'))(e:ai (fun z=>z=B.mp) H H'):eB H' B C w L T':=by
 obtain⟨o1,o2,o3,o4⟩:=h.out
 obtain⟨⟨d1,d2,d3⟩,⟨d4,d5⟩,d6⟩:=h.qM
 exact⟨e.own h.own d3,h.cells.ext e (fun x hx hz=>o4 (hz▸hx)),h.bW.ext e d5 d6,t1,h.len,h.qM,h.out⟩
theorem Si(T:Int→Int)(h x:Int):(x= -1→G0 (kL T h x)=M8 (G0 T) h)∧(x≠ -1→G0 (kL T h x)=JV (G0 T) h (i64 x)):=by
 constructor
 ·rintro rfl
  funext y
  unfold G0 kL M8
  by_cases hy:y=h
  ·rw[if_pos hy,if_pos rfl,if_pos hy]
  ·rw[if_neg hy,if_neg hy]
 ·intro hx
  funext y
  unfold G0 kL JV
  by_cases hy:y=h
  ·rw[if_pos hy,if_neg hx,if_pos hy]
  ·rw[if_neg hy,if_neg hy]
theorem oH(h:eB H B C w L T)(g:Int):ah Tryz.prog BR [ptr B.n,i64 g] H fun v H'=>ax (v=i64 (T g)∧H'=H):=by
 refine bc Cc ⟨rfl,?_⟩
 refine v3 lD.eq_1 (ae h.own) h.O5.look ?_
 unfold G0
 by_cases hg:T g= -1
 ·rw[if_pos hg,hg]
  refine vs ?_
  exact⟨rfl,rfl⟩
 ·rw[if_neg hg]
  refine vs ?_
  exact⟨rfl,rfl⟩
theorem oI(h:eB H B C w L T)(g x:Int):ah Tryz.prog BP [ptr B.n,i64 g,i64 x] H fun v H'=>ax (eB H' B C w L (kL T g x)∧ai (fun z=>z=B.mp) H H'):=by
 obtain⟨h1,h2⟩:=Si T g x
 refine bc Ca ⟨rfl,?_⟩
 refine v1 lB.eq_1 ?_
 refine am.dec (fun hx=>?_) (fun hx=>?_)<;>refine v1 (ae h.own) ?_
 ·refine h.O5.del fun H1 t1 e1=>?_
  rw[←h1 hx]at t1
  refine vs ?_
  exact⟨h.nO t1 e1,e1⟩
 ·refine h.O5.Yc fun H1 t1 e1=>?_
  rw[←h2 hx]at t1
  refine vs ?_
  exact⟨h.nO t1 e1,e1⟩
theorem LQ{x a:Int}{b:Bool}(he:it x= .tuple [i64 a,.bool b].toArray):(b=false∧x= -1)∨(b=true∧a=x∧x≠ -1):=by
 have h2:∀ {p q:Int} {r s:Bool},Value.tuple [i64 p,Value.bool r].toArray=Value.tuple [i64 q,Value.bool s].toArray→p=q∧r=s:=fun h=>by
  have h3:=congrArg Array.toList (Value.tuple.inj h)
  injection h3 with h4 h5
  injection h4 with _ h4
  injection h5 with h5 _
  injection h5 with h5
  exact⟨h4,h5⟩
 unfold it at he
 split at he
 ·rename_i hx
  exact .inl ⟨(h2 he).2.symm,hx⟩
 ·rename_i hx
  exact .inr ⟨(h2 he).2.symm,(h2 he).1.symm,hx⟩
theorem oJ(h:eB H B C w L T)(hb:Bt (aH w) (aT w) (bi L) (bu L)){x a:Int}{b:Bool}(he:it x= .tuple [i64 a,.bool b].toArray):
  ah Tryz.prog BS [ptr B.n,i64 a,.bool b] H fun v H'=>ax (v=i64 x∧∃L',eB H' B C w L' T∧bi L'=kI (bi L) (bu L) x∧bu L'=c7 (bu L) x∧ai (fun z=>z=B.tl) H H'):=by
 refine bc Cd ⟨rfl,?_⟩
 refine v1 lE.eq_1 ?_
 rcases LQ he with ⟨rfl,rfl⟩| ⟨rfl,rfl,hx⟩
 ·refine vs ?_
  obtain⟨h1,h2⟩:=Bw hb
  exact⟨rfl,L,h,h1.symm,h2.symm,ai.refl _ _⟩
 ·refine v1 (ae h.own) ?_
  refine(cM h.bW (x:=a) (fun hu=>by have:=Cr.up hb hu;have:=h.len;omega)).mono ?_
  rintro _ H1 ⟨rfl,L1,t1,l1,k1,u1,e1⟩
  refine vs ?_
  exact⟨rfl,L1,h.dJ t1 e1 l1,k1,u1,e1⟩
set_option maxRecDepth 100000 in
set_option maxHeartbeats 4000000 in
theorem oK(h:eB H B C w L T){g a0 b0:Int}{R:Int→Prop}(m:Mg (aH w) (aT w) g R (bi L) (bu L) [] a0 b0):
  ah Tryz.prog BQ [ptr B.n,i64 a0,i64 b0] H fun v H'=>ax (∃r L',v=i64 r∧eB H' B C w L' T∧Mg (aH w) (aT w) g R (bi L') (bu L') [] r (-1)∧
   (∀x0,ye (aT w) (bi L) (bu L) x0 (bi L) (bu L) [] a0 b0→ye (aT w) (bi L) (bu L) x0 (bi L') (bu L') [] r (-1))∧ai (fun z=>C z∨z=B.tl) H H'):=by
 refine bc Cb ⟨rfl,?_⟩
 refine v1 lC.eq_1 ?_
 have zh:=h.cells.Fc
 refine bD.intro (fun mm env H'=>∃ (a b:Int) (dN:List Int) (wv:Value) (fp:Option Nat) (L':List Lk),mm=w.cs.length - dN.length∧eB H' B C w L' T∧Mg (aH w) (aT w) g R (bi L') (bu L') dN a b∧
  (∀x0,ye (aT w) (bi L) (bu L) x0 (bi L) (bu L) [] a0 b0→ye (aT w) (bi L) (bu L) x0 (bi L') (bu L') dN a b)∧
  (∀z,fp=some z→H.size≤z)∧Sl H' 1 wv dN.length (dN.map i64) fp∧ai (fun z=>C z∨z=B.tl∨H.size≤z) H H'∧
  env=[(0,ptr B.n),(1,i64 a),(2,i64 b),(7,wv)]) _ ⟨a0,b0,[],_,none,L,rfl,h,m,(fun _ h=>h),(fun z h=>by cases h),Sl.nil _ _,ai.refl _ _,rfl⟩ ?_
 rintro mm env H1 ⟨a,b,dN,wv,fp,L1,rfl,l1,m1,f1,l9,s1,e1,rfl⟩
 have z1:=e1.size
 clear m
 refine vs ?_
 refine am.dec (fun ga=>?A) (fun ga=>?_)<;>refine vs ?_
 rotate_left
 refine am.dec (fun gb=>?B) (fun gb=>?_)<;>refine vs ?_
 rotate_left
 ·have o1:=l1.own
  refine v1 (ae o1) ?_
  refine(cI l1.cells b a).mono ?_
  rintro _ H2 ⟨rfl,c2,e2⟩
  have l2:=l1.aK c2 e2 rfl
  have s2:=s1.ext e2 (fun z hz eA=>by have:=l9 z hz;have:=h.slt z (.inl eA);omega)
  have z2:=e2.size
  have ha:=m1.wa.resolve_left ga
  have hb:=m1.wb.resolve_left gb
  have zJ:=jj (w:=w) (a:=b) (b:=a) (by rw[hb.1];exact m1.pos) (by rw[ha.1];exact m1.pos)
  have aS:a≠b:=fun e=>ga (m1.ab e)
  rw[zJ]
  obtain⟨p,q,Ol,hl,gp,gq,mm,fm⟩:∃p q,(if aT w b a=true then(p=b∧q=a)else(p=a∧q=b))∧aT w p q=true∧p≠ -1∧q≠ -1∧Mg (aH w) (aT w) g R (bi L1) (bu L1) dN p q∧
    (∀x0,ye (aT w) (bi L) (bu L) x0 (bi L) (bu L) [] a0 b0→ye (aT w) (bi L) (bu L) x0 (bi L1) (bu L1) dN p q):=by
   cases aR:aT w b a
   ·exact⟨a,b,by simp,((aq w).Oo a b aS).resolve_right (by rw[aR];simp),ga,gb,m1,f1⟩
   ·exact⟨b,a,by simp,aR,gb,ga,m1.swap,fun x0 h0=>(f1 x0 h0).swap⟩
  have O9:0<aH w p:=by rw[(mm.wa.resolve_left gp).1];exact mm.pos
  obtain⟨p0,p1,_⟩:=aF O9
  have m3:=mm.Rb (aq w) gp gq hl
  have f3:=fun x0 h0=>(fm x0 h0).down (aq w) mm.bt gp
  have wl:(dN++[p]).length≤w.cs.length:=bY (m3.nodup (aq w)) fun x hx=>by
   have Gr:=(m3.wy x hx).2.1
   have vW:=m3.pos
   obtain⟨x0,x1,_⟩:=aF (w:=w) (x:=x) (by omega)
   exact⟨x0,x1⟩
  rw[List.length_append,List.length_singleton]at wl
  cases aR:aT w b a<;>simp only[aR,if_true,if_false,Bool.false_eq_true]at Ol<;>obtain⟨rfl,rfl⟩:=Ol<;>refine vs ?_
  all_goals
   refine EB (B:=H.size) l9 (by omega) s2 p (by omega) fun w' H3 fJ oF s3 e3=>?_
   refine vs ?_
   have l3:=l2.ext e3 (fun z hz eA=>by have:=h.slt z hz;omega)
   have o3:=l3.own
   refine v1 (ae o3) ?_
   refine(cB l3.bW p).mono ?_
   rintro _ H' ⟨rfl,e⟩
   obtain rfl:=e.symm
   obtain⟨k1,k2,ek⟩:=cN (bi L1 p true)
   rw[ek]
   refine vs ?_
   refine(oJ l3 mm.bt ek).mono ?_
   rintro _ H4 ⟨rfl,L4,l4,UT,UU,e4⟩
   have s4:=s3.ext e4 (fun z hz eA=>by have:=oF z hz;have:=h.slt B.tl (.inr (.inr (.inr (.inl rfl))));omega)
   refine vs ?_
   refine⟨w.cs.length - (dN.length+1),by omega,bi L1 p true,q,dN++[p],w',fJ,L4,by simp,l4,?_,?_,oF,s4,((e1.trans (e2.mono fun z _ hz=>.inl hz)).trans (e3.mono fun z _ hz=>.inr (.inr hz))).trans (e4.mono fun z _ hz=>.inr (.inl hz)),rfl⟩
   ·rw[UT,UU];exact m3
   ·rw[UT,UU];exact f3
 case' A=>
  have m2:Mg (aH w) (aT w) g R (bi L1) (bu L1) dN b (-1):=ga▸m1.swap
  have f2:=fun x0 (h0:ye (aT w) (bi L) (bu L) x0 (bi L) (bu L) [] a0 b0)=>(f1 x0 h0).swap
  rw[ga]at f2
  have hr:(if b>a then b else a)=b:=by
   rcases m1.wb with h|h
   ·omega
   ·have hp:=m1.pos
    obtain⟨_,_⟩:=aF (w:=w) (x:=b) (by omega)
    omega
  rw[hr]
  clear hr
  generalize b=r at m2 f2
 case' B=>
  have m2:Mg (aH w) (aT w) g R (bi L1) (bu L1) dN a (-1):=gb▸m1
  have f2:=f1
  rw[gb]at f2
  have hr:(if b>a then b else a)=a:=by
   rcases m1.wa with h|h
   ·omega
   ·have hp:=m1.pos
    obtain⟨_,_⟩:=aF (w:=w) (x:=a) (by omega)
    omega
  rw[hr]
  clear hr
  generalize a=r at m2 f2
 all_goals
  obtain⟨wa,wc,rfl⟩:=Sl.shape s1
  refine vs ?_
  have wl:dN.length≤w.cs.length:=bY (m2.nodup (aq w)) fun x hx=>by
   have Gr:=(m2.wy x hx).2.1
   have vW:=m2.pos
   obtain⟨x0,x1,_⟩:=aF (w:=w) (x:=x) (by omega)
   exact⟨x0,x1⟩
  refine bD.intro (fun mm env H'=>∃ (i:Nat) (r:Int) (L':List Lk),mm=i∧i≤dN.length∧eB H' B C w L' T∧Mg (aH w) (aT w) g R (bi L') (bu L') (dN.take i) r (-1)∧
   (∀x0,ye (aT w) (bi L) (bu L) x0 (bi L) (bu L) [] a0 b0→ye (aT w) (bi L) (bu L) x0 (bi L') (bu L') (dN.take i) r (-1))∧
   Sl H' 1 (.slice wa dN.length wc) dN.length (dN.map i64) fp∧ai (fun z=>C z∨z=B.tl∨H.size≤z) H H'∧
   env=[(0,ptr B.n),(7,.slice wa dN.length wc),(8,i64 r),(9,i64 ((i:Int) - 1))]) _ ⟨dN.length,r,L1,rfl,Nat.le_refl _,l1,by rw[List.take_length];exact m2,by rw[List.take_length];exact f2,s1,e1,?_⟩ ?_
  ·rw[wrap64 (by omega) (by omega)]
  rintro mm env H2 ⟨i,r2,L2,hmi,hi,l2,m3,f3,s2,e2,rfl⟩
  obtain rfl:=hmi.symm
  refine vs ?_
  refine am.dec (fun gi=>?_) (fun gi=>?_)<;>refine vs ?_
  rotate_left
  ·obtain rfl:i=0:=by omega
   exact⟨r2,L2,rfl,l2,by simpa using m3,by simpa using f3,e2.mono fun z hz h=>h.elim .inl fun h=>.inr (by omega)⟩
  obtain⟨j,rfl⟩:∃j,i=j+1:=⟨i - 1,by omega⟩
  obtain⟨v,hv⟩:∃v,dN[j]? =some v:=⟨_,List.getElem?_eq_getElem (by omega)⟩
  have tk:dN.take (j+1)=dN.take j++[v]:=by rw[List.take_add_one,hv];rfl
  rw[tk]at m3 f3
  have m4:=m3.back (aq w)
  have f4:=fun x0 h0=>(f3 x0 h0).back
  obtain⟨v1,v2,v3,v4,v5,v6⟩:=m3.wy v (by simp)
  obtain⟨q1,vb,lb,rfl,q2,q3⟩:=Sl.AU s2 hv
  have ZR:∃b',fp=some b'∧b'=vb:=by
   cases fp with
   |none=>have:=s2.2.2;injection this with h1;cases h1
   |some b'=>obtain⟨_,_,h1,_⟩:=s2.2;injection h1 with h1;injection h1 with h1;injection h1 with h1;exact⟨b',rfl,h1.symm⟩
  obtain⟨b',rfl,rfl⟩:=ZR
  have ZR:=l9 b' rfl
  have UV:0<aH w v:=by rw[v2];exact m3.pos
  obtain⟨V7,vv1,_⟩:=aF UV
  have ji:((((j+1:Nat):Int) - 1)).toNat=j:=by omega
  refine⟨⟨by omega,by omega⟩,?_⟩
  simp(disch:=(first|omega| (simp only[Zs]<;>omega)|fail)) only[go_sem, ↓reduceIte,Zv,ae q2,Nat.zero_add,Nat.mul_one,ji,q3]
  refine am.dec (fun gr=>?_) (fun gr=>?_)<;>refine vs ?_
  ·rw[if_pos gr,if_pos gr]at m4
   simp only[if_pos gr]at f4
   have f5:=f4
   have l3:=l2
   have m5:=m4
   have s3:=s2
   have e3:=e2
   simp(disch:=(first|omega| (simp only[Zs]<;>omega)|fail)) only[go_sem, ↓reduceIte,Zv,ae l3.own]
   refine(oE l3.bW (p:=v) ⟨V7,by have:=l3.len;omega⟩).mono ?_
   rintro _ H4 ⟨rfl,L4,t4,V6,k4,u4,e4⟩
   have l4:=l3.dJ t4 e4 V6
   refine vs ?_
   refine⟨j,by omega,j,v,L4,rfl,by omega,l4,?_,?_,s3.ext e4 (fun z hz eA=>by injection hz with hz;have:=h.slt B.tl (.inr (.inr (.inr (.inl rfl))));omega),e3.trans (e4.mono fun z _ hz=>.inr (.inl hz)),?_⟩
   ·rw[k4,u4];exact m5.yd (aq w)
   ·rw[k4,u4];exact fun x0 h0=>(f5 x0 h0).yd v1
   ·rw[show((j+1:Nat):Int) - 1 - 1=(j:Int) - 1 by omega,wrap64 (by omega) (by omega)]
  ·rw[if_neg gr,if_neg gr]at m4
   simp only[if_neg gr]at f4
   have Bl:=m3.wa.resolve_left gr
   obtain⟨r0,r1,_⟩:=aF (w:=w) (x:=r2) (by rw[Bl.1];exact m3.pos)
   have bm:=l2.len
   have hvr:v≠r2:=fun e=>by have:=v5 gr;rw[e,(aq w).xN]at this;cases this
   simp(disch:=(first|omega| (simp only[Zs]<;>omega)|fail)) only[go_sem, ↓reduceIte,Zv,ae l2.own]
   refine(fE l2.bW (p:=v) (x:=r2) (c:=true) ⟨V7,by omega⟩ ⟨r0,by omega⟩ hvr Bl.2 v4).mono ?_
   rintro _ H3 ⟨rfl,L3,t3,ll3,ZS,ZT,Hu⟩
   have l3:=l2.dJ t3 Hu ll3
   have m5:Mg (aH w) (aT w) g R (bi L3) (bu L3) (dN.take j) v (-1):=by rw[ZS,ZT];exact m4
   have f5:=f4
   rw[←ZS,←ZT]at f5
   have nb:b'≠B.tl:=fun e=>by have:=h.slt B.tl (.inr (.inr (.inr (.inl rfl))));omega
   have s3:=s2.ext Hu (fun z hz eA=>by injection hz with hz;exact nb (hz.trans eA))
   have e3:=e2.trans (Hu.mono fun z _ hz=>.inr (.inl hz))
   refine vs ?_
   simp(disch:=(first|omega| (simp only[Zs]<;>omega)|fail)) only[go_sem, ↓reduceIte,Zv,ae l3.own]
   refine(oE l3.bW (p:=v) ⟨V7,by have:=l3.len;omega⟩).mono ?_
   rintro _ H4 ⟨rfl,L4,t4,V6,k4,u4,e4⟩
   have l4:=l3.dJ t4 e4 V6
   refine vs ?_
   refine⟨j,by omega,j,v,L4,rfl,by omega,l4,?_,?_,s3.ext e4 (fun z hz eA=>by injection hz with hz;have:=h.slt B.tl (.inr (.inr (.inr (.inl rfl))));omega),e3.trans (e4.mono fun z _ hz=>.inr (.inl hz)),?_⟩
   ·rw[k4,u4];exact m5.yd (aq w)
   ·rw[k4,u4];exact fun x0 h0=>(f5 x0 h0).yd v1
   ·rw[show((j+1:Nat):Int) - 1 - 1=(j:Int) - 1 by omega,wrap64 (by omega) (by omega)]
end
end Go.Proofs.YtjlnnljohemifaaGreat

namespace Go.Proofs.YtjlnnljohemifaaGreat
open Go Go.Vc
def dR(n:Nat)(H:Hp)(S:Nat→Prop)(w:Nw):Prop:=∃ (B:SB) (C:Nat→Prop) (L:List Lk) (T:Int→Int),B.n=n∧eB H B C w L T∧Bv (aH w) (aT w) (bi L) (bu L) T∧∀z,S z↔B.S C z
theorem dR.slt{n:Nat}{H:Hp}{S:Nat→Prop}{w:Nw}(h:dR n H S w):∀z,S z→z<H.size:=by
 obtain⟨B,C,L,T,rfl,m,l,hS⟩:=h
 exact fun z hz=>m.slt z ((hS z).1 hz)
theorem dR.ext{n:Nat}{H H':Hp}{S V:Nat→Prop}{w:Nw}(h:dR n H S w)(e:ai V H H')(hd:∀z,S z→¬V z):dR n H' S w:=by
 obtain⟨B,C,L,T,rfl,m,l,hS⟩:=h
 exact⟨B,C,L,T,rfl,m.ext e (fun z hz=>hd z ((hS z).2 hz)),l,hS⟩
theorem PX:G0 (fun _=> -1)=fun _=>none:=by
 funext y
 unfold G0
 rw[if_pos rfl]
theorem IF(cap:Int)(H:Hp):ah Tryz.prog MP [i64 cap] H fun v H'=>ax (
  ay H H'∧((¬ (0≤cap∧cap≤65536)∧v= .tuple [.pointer none,i64 31].toArray)∨
   ((0≤cap∧cap≤65536)∧∃n S,v= .tuple [ptr n,i64 0].toArray∧dR n H' S (Cw cap)∧∀x,S x→H.size≤x))):=by
 refine bc MU ⟨rfl,?_⟩
 refine v1 As.eq_1 ?_
 refine(nM cap H).mono ?_
 rintro _ H1 ⟨f1,⟨hb,rfl⟩| ⟨hb,c,C,rfl,c1,hC⟩⟩
 ·refine vs ?_
  exact⟨f1,.inl ⟨hb,rfl⟩⟩
 refine v1 decide_true ?_
 refine(xh H1 hb).mono ?_
 rintro _ H2 ⟨t,tl,rfl,t2,f2,ht,ME⟩
 refine vs ?_
 have zx:=c1.slt
 have z1:=f1.size
 have z2:=f2.size
 have HA:=aO t2.own
 have Wj:=aO t2.nN
 have f3:ay H2 (H2.fX.new 282 [ptr c,ptr t,.map (some H2.size)]):=((ai.refl _ _).fX).new _ _
 have e1:ai (fun _=>False) H2.fX (H2.fX.new 282 [ptr c,ptr t,.map (some H2.size)]):=(ai.refl _ _).new _ _
 have ft:=f1.trans (f2.trans f3)
 refine⟨ft,.inr ⟨hb,H2.size+1,(SB.mk (H2.size+1) c t tl H2.size).S C,rfl,⟨⟨H2.size+1,c,t,tl,H2.size⟩,C,_,fun _=> -1,rfl,
  ⟨?_,c1.fresh (f2.trans f3),t2.fresh f3,by rw[PX];exact(ou.new H2).ext e1 (fun h=>h),?_,?_,?_⟩,Bv.none rfl (nP cap) (Cv _) (GD _) (fun _=>rfl),fun z=>Iff.rfl⟩,fun z hz=>?_⟩⟩
 ·exact bC (by simp only[kq])
 ·simp[Cw]
 ·have:=t2.ne
  refine⟨⟨?_,?_,?_⟩,⟨?_,?_⟩,?_⟩<;>simp only<;>omega
 ·refine⟨fun h=>?_,fun h=>?_,fun h=>?_,fun h=>?_⟩<;>(have h2:=zx _ h;first|omega| (simp only at h2;omega))
 ·rcases hz with hz|rfl|rfl|rfl|rfl
  ·exact hC z hz
  all_goals first|omega| (simp only;omega)
theorem G1{n:Nat}{H:Hp}{B:SB}{C:Nat→Prop}{w:Nw}{L:List Lk}{T:Int→Int}{S:Nat→Prop}(m:eB H B C w L T)(l:Bv (aH w) (aT w) (bi L) (bu L) T)(hn:B.n=n)(hS:∀z,S z↔B.S C z):ah Tryz.prog dA [ptr B.c] H fun v H'=>ax (
  (w.hs.length=65537∧v=i64 0∧cD (dR n) S H H' w)∨(w.hs.length≠65537∧v=i64 w.hs.length∧cD (dR n) S H H' w.make)):=by
 subst hn
 refine(lN m.cells).mono ?_
 rintro _ H1 (⟨h1,rfl,rfl⟩| ⟨h1,rfl,C',c1,e1,AX⟩)
 ·exact .inl ⟨h1,rfl,cD.same ⟨B,C,L,T,rfl,m,l,hS⟩ (ai.refl _ _)⟩
 obtain⟨n1,n2,n3,n4⟩:=m.out
 have slt:=m.slt
 have no:∀z,B.S (fun _=>False) z→¬C z→¬C' z:=fun z hz hn h=>by
  rcases AX z h with h6|h6
  ·exact hn h6
  ·have:=slt z (hz.elim (fun h=>h.elim) .inr)
   omega
 refine .inr ⟨h1,rfl,B.S C',⟨B,C',L,T,rfl,⟨e1.own m.own n1,c1,m.bW.ext e1 n2 n3,m.O5.ext e1 n4,m.len,m.qM,no _ (.inr (.inl rfl)) n1,no _ (.inr (.inr (.inl rfl))) n2,no _ (.inr (.inr (.inr (.inl rfl)))) n3,no _ (.inr (.inr (.inr (.inr rfl)))) n4⟩,l,fun z=>Iff.rfl⟩,
  e1.mono fun z _ h=>(hS z).2 (.inl h),fun z hz=>?_⟩
 rcases hz with hz|hz
 ·rcases AX z hz with h6|h6
  ·exact .inl ((hS z).2 (.inl h6))
  ·exact .inr h6
 ·exact .inl ((hS z).2 (.inr hz))
theorem Ef{n:Nat}{H:Hp}{S:Nat→Prop}{w:Nw}(h:dR n H S w)(g x k s:Int):ah Tryz.prog pU [ptr n,i64 g,i64 x,vN k s] H fun v H'=>ax (
  (¬w.oG g x∧v= .bool false∧cD (dR n) S H H' w)∨(w.oG g x∧v= .bool true∧cD (dR n) S H H' (w.put x (g,k,s)))):=by
 obtain⟨B,C,L,T,rfl,m,l,hS⟩:=h
 have hC:∀z,C z→S z:=fun z h=>(hS z).2 (.inl h)
 have s1:S B.tl:=(hS _).2 (.inr (.inr (.inr (.inl rfl))))
 have s2:S B.mp:=(hS _).2 (.inr (.inr (.inr (.inr rfl))))
 refine bc AN ⟨rfl,?_⟩
 refine v1 jU.eq_1 ?_
 have f0:ay H (H.new 224 [i64 k,u64 s]):=(ai.refl _ _).new _ _
 have b0:(H.new 224 [i64 k,u64 s]).own H.size=some [i64 k,u64 s]:=aG _ _ _
 have m0:=m.fresh f0
 generalize H.new 224 [i64 k,u64 s]=H0 at*
 have ff:ai S H H0:=f0.mono fun _ _ h=>h.elim
 refine v2 (ae m0.own) (ae b0) ?_
 refine(nL m0.cells g x k s).mono ?_
 rintro _ H1 (⟨cw,rfl,c1,e1⟩| ⟨th,rfl,c1,e1⟩)
 ·refine vs ?_
  exact .inl ⟨cw,rfl,cD.same ⟨B,C,L,T,rfl,m0.aK c1 e1 rfl,l,hS⟩ (ff.trans (e1.mono fun z _ hz=>hC z hz))⟩
 obtain⟨hh,hx,bS⟩:=id th
 have m1:=m0.aK c1 e1 (by simp[Nw.put])
 have hg:=hh.1
 have cU:=fun y=>eD hx (g,k,s) y
 have bo:Ts (aH (w.put x (g,k,s))) (aT (w.put x (g,k,s))) (bi L) (bu L) T g x:=by
  refine l.ins rfl (Int.not_lt.1 fun h=>bS (bJ.1 h)) (by omega) (by omega) (by rw[cU,if_pos rfl]) (fun y hy=>by rw[cU,if_neg hy]) (fun a b ha hb tE oY=>dE hx _ ha hb tE oY)
 refine vs ?_
 refine(oH m1 g).mono ?_
 rintro _ H' ⟨rfl,e⟩
 obtain rfl:=e.symm
 refine vs ?_
 refine(oK m1 bo.mg).mono ?_
 rintro _ H2 ⟨r,L2,rfl,m2,g2,_,e2⟩
 refine vs ?_
 refine(oI m2 g r).mono ?_
 rintro _ H3 ⟨m3,e3⟩
 refine vs ?_
 exact .inr ⟨th,rfl,cD.same ⟨B,C,L2,_,rfl,m3,bo.done g2,hS⟩ (((ff.trans (e1.mono fun z _ h=>hC z h)).trans (e2.mono fun z _ h=>by rcases h with h|rfl;exact hC z h;exact s1)).trans (e3.mono fun z _ h=>h▸s2))⟩
theorem Jj{w:Nw}{L:List Lk}{T:Int→Int}(l:Bv (aH w) (aT w) (bi L) (bu L) T){g x:Int}(h:w.first g x):T g=x:=by
 obtain⟨h1,h2,h3⟩:=bN.1 h
 have:=l.first (x:=x) (by omega) (fun y hy aS=>h3 y (by omega) aS) (aq w)
 rwa[h2]at this
theorem zH{n:Nat}{H:Hp}{S:Nat→Prop}{w:Nw}(h:dR n H S w)(g:Int):ah Tryz.prog uT [ptr n,i64 g] H fun v H'=>ax (
  ((w.len g=0∧v= .tuple [i64 0,.bool false].toArray)∨∃x,w.first g x∧v= .tuple [i64 x,.bool true].toArray)∧H'=H):=by
 obtain⟨B,C,L,T,rfl,m,l,hS⟩:=h
 refine bc E2 ⟨rfl,?_⟩
 refine v1 om.eq_1 ?_
 refine(oH m g).mono ?_
 rintro _ H' ⟨rfl,e⟩
 obtain rfl:=e.symm
 refine vs ?_
 refine am.dec (fun h0=>?_) (fun h0=>?_)<;>refine vs ?_
 ·refine⟨.inl ⟨?_,rfl⟩,rfl⟩
  by_cases hg:0<g
  ·refine Classical.byContradiction fun hl=>?_
   obtain⟨x,hx⟩:=xe hg hl
   have h2:=(bN.1 hx).2.1
   have:=Jj l hx
   have:=(aF (w:=w) (x:=x) (by omega)).1
   omega
  ·exact Nw.Ir.2 (.inl (by omega))
 ·obtain⟨h1,h2,h3⟩:=l.t1 g h0
  have hl:w.len g≠0:=fun e=>(xd h2).1 e _ h1
  obtain⟨x,hx⟩:=xe h2 hl
  rw[Jj l hx]
  exact⟨.inr ⟨x,hx,rfl⟩,rfl⟩
theorem A8{n:Nat}{H:Hp}{S:Nat→Prop}{w:Nw}(h:dR n H S w)(x k s:Int):ah Tryz.prog nA [ptr n,i64 x,vN k s] H fun v H'=>ax (
  (¬w.da x k s∧v= .bool false∧cD (dR n) S H H' w)∨(w.da x k s∧v= .bool true∧∃y,w.cs[x.toNat]? =some y∧cD (dR n) S H H' (w.put x (y.1,k,s)))):=by
 obtain⟨B,C,L,T,rfl,m,l,hS⟩:=h
 have hC:∀z,C z→S z:=fun z h=>(hS z).2 (.inl h)
 have s1:S B.tl:=(hS _).2 (.inr (.inr (.inr (.inl rfl))))
 have s2:S B.mp:=(hS _).2 (.inr (.inr (.inr (.inr rfl))))
 refine bc wV ⟨rfl,?_⟩
 refine v1 gR.eq_1 ?_
 have f0:ay H (H.new 224 [i64 k,u64 s]):=(ai.refl _ _).new _ _
 have b0:(H.new 224 [i64 k,u64 s]).own H.size=some [i64 k,u64 s]:=aG _ _ _
 have m0:=m.fresh f0
 generalize H.new 224 [i64 k,u64 s]=H0 at*
 have ff:ai S H H0:=f0.mono fun _ _ h=>h.elim
 refine v2 (ae m0.own) (ae b0) ?_
 refine(jh m0.cells x k s).mono ?_
 rintro _ H1 (⟨cw,rfl,c1,e1⟩| ⟨bS,rfl,y,hy,gm,c1,e1⟩)
 ·refine vs ?_
  exact .inl ⟨cw,rfl,cD.same ⟨B,C,L,T,rfl,m0.ext e1 (fun _ _ h=>h),l,hS⟩ (ff.trans (e1.mono fun _ _ h=>h.elim))⟩
 have qV:(w.put x (y.1,k,s)).cs.length=w.cs.length:=by simp[Nw.put]
 have m1:=m0.aK c1 e1 qV
 have Cy:w.da x k s:=⟨bS,fun z hz=>by rw[hy]at hz;injection hz with hz;rw[←hz];exact gm⟩
 have hx:0≤x∧x<w.cs.length:=⟨bS.1,by have:=(List.getElem?_eq_some_iff.1 hy).1;have:=bS.1;omega⟩
 have QH:aH w x=y.1:=mT bS.1 hy
 have ec:=bJ.2 bS
 have hw:aH (w.put x (y.1,k,s))=aH w:=by
  funext z
  rw[eD hx]
  split
  ·rename_i e;rw[e,QH]
  ·rfl
 have Ft:cY (w.put x (y.1,k,s)).cs x:=bJ.1 (by rw[hw];exact ec)
 refine v1 (ae m1.own) ?_
 refine(dm m1.cells x).mono ?_
 rintro _ H2 (⟨cw,_,_⟩| ⟨_,rfl,c2,e2⟩)
 ·exact absurd Ft cw
 have m2:=m1.aK c2 e2 rfl
 have sA:ai S H H2:=(ff.trans (e1.mono fun z _ h=>hC z h)).trans (e2.mono fun z _ h=>hC z h)
 have el:∀a b,0<aH w a→0<aH w b→a≠x→b≠x→aT (w.put x (y.1,k,s)) a b=aT w a b:=fun a b ha hb tE oY=>dE hx _ ha hb tE oY
 have ex:∀b,0<aH w b→b≠x→aT w x b=true→aT (w.put x (y.1,k,s)) x b=true:=fun b hb oY h=>Cp bS hy gm hb oY h
 refine v1 (ae m2.own) ?_
 refine(cM m2.bW (x:=x) (fun hu=>by have:=Cr.up l.bt hu;have:=m2.len;omega)).mono ?_
 rintro _ H3 ⟨rfl,L3,t3,l3,k3,u3,e3⟩
 have m3:=m2.dJ t3 e3 l3
 have Fj:ai S H H3:=sA.trans (e3.mono fun z _ h=>h▸s1)
 unfold it
 by_cases hu:bu L x= -1
 ·rw[if_pos hu]
  refine vs ?_
  have kk:bi L3=bi L:=by rw[k3];unfold kI;rw[if_pos hu]
  have uu:bu L3=bu L:=by
   rw[u3]
   funext z
   unfold c7 aI
   split
   ·rename_i e;rw[e,hu]
   ·rfl
  refine .inr ⟨Cy,rfl,y,hy,cD.same ⟨B,C,L3,T,rfl,m3,?_,hS⟩ Fj⟩
  rw[hw,kk,uu]
  exact l.Tt ec hu el ex (aq w)
 rw[if_neg hu]
 refine vs ?_
 have bo:=l.low ec hu el ex (aq w)
 rw[←hw,←k3,←u3]at bo
 refine(oH m3 _).mono ?_
 rintro _ H' ⟨rfl,e⟩
 obtain rfl:=e.symm
 refine vs ?_
 refine(oK m3 bo.mg).mono ?_
 rintro _ H4 ⟨r,L4,rfl,m4,g4,_,e4⟩
 refine vs ?_
 refine(oI m4 _ r).mono ?_
 rintro _ H5 ⟨m5,e5⟩
 refine vs ?_
 exact .inr ⟨Cy,rfl,y,hy,cD.same ⟨B,C,L4,_,rfl,m5,bo.done g4,hS⟩ ((Fj.trans (e4.mono fun z _ h=>by rcases h with h|rfl;exact hC z h;exact s1)).trans (e5.mono fun z _ h=>h▸s2))⟩
set_option maxRecDepth 100000 in
set_option maxHeartbeats 1000000 in
theorem Eg{n:Nat}{H:Hp}{S:Nat→Prop}{w:Nw}(h:dR n H S w)(x:Int):ah Tryz.prog Af [ptr n,i64 x] H fun v H'=>ax (
  (¬cY w.cs x∧v= .bool false∧cD (dR n) S H H' w)∨(cY w.cs x∧v= .bool true∧cD (dR n) S H H' (w.put x (0,0,0)))):=by
 obtain⟨B,C,L,T,rfl,m,t,hS⟩:=id h
 have hC:∀z,C z→S z:=fun z h=>(hS z).2 (.inl h)
 have s1:S B.tl:=(hS _).2 (.inr (.inr (.inr (.inl rfl))))
 have s2:S B.mp:=(hS _).2 (.inr (.inr (.inr (.inr rfl))))
 refine bc AM ⟨rfl,?_⟩
 refine v2 qa.eq_1 (ae m.own) ?_
 refine(dm m.cells x).mono ?_
 rintro _ H1 (⟨cw,rfl,rfl⟩| ⟨bS,rfl,c1,e1⟩)
 ·refine vs ?_
  exact .inl ⟨cw,rfl,cD.same h (ai.refl _ _)⟩
 have m1:=m.aK c1 e1 rfl
 have ec:=bJ.2 bS
 obtain⟨ie,j5,_⟩:=aF ec
 have FI:x≠ -1:=by omega
 have ls:=aq w
 obtain⟨⟨d1,d2,d3⟩,⟨d4,d5⟩,d6⟩:=m.qM
 refine vs ?_
 refine rV.intro (fun H'=>H'.own B.n=some [ptr B.c,ptr B.t,.map (some B.mp)]) m1.own ?_
 refine vs ?_
 refine rW.intro (ptr B.t) (fun H' hI=>by refine v1 (ae hI) ?_;trivial) ?_
 refine v1 (ae m1.own) ?_
 refine And.intro m1.own ?_
 refine vs ?_
 obtain⟨a1,b1,Z2⟩:=cN (bi L x false)
 refine(oD m1.bW x).mono ?_
 rintro _ H' ⟨rfl,e⟩
 obtain rfl:=e.symm
 rw[Z2]
 refine And.intro m1.own ?_
 refine vs ?_
 refine(oJ m1 t.bt Z2).mono ?_
 rintro _ H2 ⟨rfl,L2,m2,k2,u2,e2⟩
 refine And.intro m2.own ?_
 refine vs ?_
 have bt2:Cr w L2:=by
  show Bt _ _ _ _
  rw[k2,u2];exact t.bt.Tr _
 have er:bi L2 x true=bi L x true:=by
  rw[k2,pK t.bt,if_neg]
  rintro⟨h1,h2⟩
  exact h1 (t.bt.two x h2.symm)
 obtain⟨a2,b2,Z3⟩:=cN (bi L2 x true)
 refine(cB m2.bW x).mono ?_
 rintro _ H' ⟨rfl,e⟩
 obtain rfl:=e.symm
 rw[Z3]
 refine And.intro m2.own ?_
 refine vs ?_
 refine(oJ m2 bt2 Z3).mono ?_
 rintro _ H3 ⟨rfl,L3,m3,k3,u3,e3⟩
 refine And.intro m3.own ?_
 rw[er]at k3 u3
 rw[k2,u2]at k3
 rw[u2]at u3
 obtain⟨w1,w2,w3,w4⟩:=t.bt.bare x
 have hk:∀c,bi L x c= -1∨(aH w (bi L x c)=aH w x∧bu L3 (bi L x c)= -1):=fun c=>by
  by_cases hk:bi L x c= -1
  ·exact .inl hk
  ·refine .inr ⟨(t.bt.home hk).2.2.1,?_⟩
   rw[u3,w4,if_pos]
   cases c
   ·exact .inl rfl
   ·exact .inr rfl
 rw[←k3,←u3]at w1
 have mg:=Mg.start w1 ec (hk false) (hk true) (fun e=>t.bt.two x e)
 rw[er]
 refine vs ?_
 refine(oK m3 mg).mono ?_
 rintro _ H4 ⟨r,L4,rfl,m4,g4,f4,e4⟩
 refine And.intro m4.own ?_
 refine vs ?_
 have f4:=f4 x (ye.start (fun hk=>(t.bt.home hk).2.2.2.2) (fun hk=>(t.bt.home hk).2.2.2.2))
 have d:=t.UK ls ec k3 u3 g4 f4
 have Bo:ai S H H4:=(((e1.mono fun z _ h=>hC z h).trans (e2.mono fun z _ h=>h▸s1)).trans (e3.mono fun z _ h=>h▸s1)).trans (e4.mono fun z _ h=>by rcases h with h|rfl;exact hC z h;exact s1)
 have cU:=fun y=>eD (w:=w) ⟨ie,j5⟩ (0,0,0) y
 have p0:aH (w.put x (0,0,0)) (-1)=0:=rfl
 have p1:aH (w.put x (0,0,0)) x=0:=by rw[cU,if_pos rfl]
 have p2:∀y,y≠x→aH (w.put x (0,0,0)) y=aH w y:=fun y hy=>by rw[cU,if_neg hy]
 have el:∀a b,0<aH w a→0<aH w b→a≠x→b≠x→aT (w.put x (0,0,0)) a b=aT w a b:=fun a b ha hb tE oY=>dE ⟨ie,j5⟩ _ ha hb tE oY
 have qV:(w.put x (0,0,0)).cs.length=w.cs.length:=by simp[Nw.put]
 refine v1 (ae m4.own) ?_
 refine(rT m4.bW x).mono ?_
 rintro _ H' ⟨rfl,e⟩
 obtain rfl:=e.symm
 rw[d.ux]
 unfold it
 by_cases hu:bu L x= -1
 ·rw[if_pos hu]
  refine vs ?_
  refine(oI m4 _ r).mono ?_
  rintro _ H5 ⟨m5,e5⟩
  refine v1 (ae m5.own) ?_
  refine(ck m5.cells x).mono ?_
  rintro _ H6 (⟨cw,_,_⟩| ⟨_,rfl,c6,e6⟩)
  ·exact absurd bS cw
  have m6:=m5.aK c6 e6 qV
  refine vs ?_
  exact .inr ⟨bS,rfl,cD.same ⟨B,C,L4,_,rfl,m6,d.O5 t ec hu p0 p1 p2 el,hS⟩ ((Bo.trans (e5.mono fun z _ h=>h▸s2)).trans (e6.mono fun z _ h=>hC z h))⟩
 ·rw[if_neg hu]
  have EP:=Cr.up t.bt hu
  obtain⟨w5,w6⟩:=d.cut t ls ec hu
  obtain⟨a3,b3,Yl⟩:=cN (bi L4 (bu L x) true)
  refine v1 (ae m4.own) ?_
  refine(cB m4.bW (bu L x)).mono ?_
  rintro _ H' ⟨rfl,e⟩
  obtain rfl:=e.symm
  rw[Yl]
  refine v1 (ae m4.own) ?_
  refine(cM m4.bW (x:=x) (fun hu2=>by have:=Cr.up d.bt hu2;have:=m4.len;omega)).mono ?_
  rintro _ H5 ⟨rfl,L5,t5,l5,k5,u5,e5⟩
  have m5:=m4.dJ t5 e5 l5
  refine vs ?_
  have U6:=Bo.trans (e5.mono fun z _ h=>h▸s1)
  refine am.dec (fun g=>?_) (fun g=>?_)<;>refine vs ?_
  ·refine v1 (ae m5.own) ?_
   refine(ck m5.cells x).mono ?_
   rintro _ H8 (⟨cw,_,_⟩| ⟨_,rfl,c8,e8⟩)
   ·exact absurd bS cw
   have m8:=m5.aK c8 e8 qV
   refine vs ?_
   have b6:Cr w L5:=by
    show Bt _ _ _ _
    rw[k5,u5];exact w5 g
   refine .inr ⟨bS,rfl,cD.same ⟨B,C,L5,T,rfl,m8,?_,hS⟩ (U6.trans (e8.mono fun z _ h=>hC z h))⟩
   exact d.below t ls (n:=w.cs.length) (fun y hy=>by obtain⟨y0,y1,_⟩:=aF hy;exact⟨y0,y1⟩) ec hu b6 (by rw[if_pos g];exact u5) p0 p1 p2 el
  ·obtain⟨y1,y2,y3,y4⟩:=w6 g
   obtain⟨r1,r2,r3,r4⟩:=d.rx g
   obtain⟨q1,q2,_⟩:=aF (w:=w) (x:=r) (by omega)
   have hl5:=m5.len
   rw[d.kp _ true rfl hu]at Yl
   rcases LQ Yl with ⟨rfl,h2⟩| ⟨rfl,rfl,h3⟩
   ·have V5:false=(bi L (bu L x) true==x):=by
     rw[h2]
     exact(beq_eq_false_iff_ne.2 (Ne.symm FI)).symm
    refine v1 (ae m5.own) ?_
    refine(fE m5.bW (p:=bu L x) (x:=r) (c:=false) ⟨EP.1,by omega⟩ ⟨q1,by omega⟩ y3 (by rw[u5];exact y2) (by rw[k5,V5];exact y1)).mono ?_
    rintro _ H6 ⟨rfl,L6,t6,l6,k6,RU,e6⟩
    have m6:=m5.dJ t6 e6 l6
    have QQ:=U6.trans (e6.mono fun z _ h=>h▸s1)
    rw[k5]at k6
    rw[u5]at RU
    rw[V5]at k6
    have b6:Cr w L6:=by
     show Bt _ _ _ _
     rw[k6,RU];exact y4
    have u6:bu L6=if r= -1 then c7 (bu L4) x else aI (c7 (bu L4) x) r (bu L x):=by rw[if_neg g];exact RU
    refine v1 (ae m6.own) ?_
    refine(ck m6.cells x).mono ?_
    rintro _ H8 (⟨cw,_,_⟩| ⟨_,rfl,c8,e8⟩)
    ·exact absurd bS cw
    have m8:=m6.aK c8 e8 qV
    refine vs ?_
    refine .inr ⟨bS,rfl,cD.same ⟨B,C,L6,T,rfl,m8,?_,hS⟩ (QQ.trans (e8.mono fun z _ h=>hC z h))⟩
    exact d.below t ls (n:=w.cs.length) (fun y hy=>by obtain⟨y0,y1,_⟩:=aF hy;exact⟨y0,y1⟩) ec hu b6 u6 p0 p1 p2 el
   ·have V5:decide (bi L (bu L x) true=x)=(bi L (bu L x) true==x):=by rw[Bool.eq_iff_iff];simp
    refine v1 (ae m5.own) ?_
    refine(fE m5.bW (p:=bu L x) (x:=r) (c:=decide (bi L (bu L x) true=x)) ⟨EP.1,by omega⟩ ⟨q1,by omega⟩ y3 (by rw[u5];exact y2) (by rw[k5,V5];exact y1)).mono ?_
    rintro _ H6 ⟨rfl,L6,t6,l6,k6,RU,e6⟩
    have m6:=m5.dJ t6 e6 l6
    have QQ:=U6.trans (e6.mono fun z _ h=>h▸s1)
    rw[k5]at k6
    rw[u5]at RU
    rw[V5]at k6
    have b6:Cr w L6:=by
     show Bt _ _ _ _
     rw[k6,RU];exact y4
    have u6:bu L6=if r= -1 then c7 (bu L4) x else aI (c7 (bu L4) x) r (bu L x):=by rw[if_neg g];exact RU
    refine v1 (ae m6.own) ?_
    refine(ck m6.cells x).mono ?_
    rintro _ H8 (⟨cw,_,_⟩| ⟨_,rfl,c8,e8⟩)
    ·exact absurd bS cw
    have m8:=m6.aK c8 e8 qV
    refine vs ?_
    refine .inr ⟨bS,rfl,cD.same ⟨B,C,L6,T,rfl,m8,?_,hS⟩ (QQ.trans (e8.mono fun z _ h=>hC z h))⟩
    exact d.below t ls (n:=w.cs.length) (fun y hy=>by obtain⟨y0,y1,_⟩:=aF hy;exact⟨y0,y1⟩) ec hu b6 u6 p0 p1 p2 el
theorem CK{n:Nat}{H:Hp}{S:Nat→Prop}{w:Nw}(h:dR n H S w)(g:Int):ah Tryz.prog oU [ptr n,i64 g] H fun v H'=>ax (
  (w.len g=0∧v= .tuple [i64 0,.bool false].toArray∧cD (dR n) S H H' w)∨(∃x,w.first g x∧v= .tuple [i64 x,.bool true].toArray∧cD (dR n) S H H' (w.put x (0,0,0)))):=by
 refine bc ze ⟨rfl,?_⟩
 refine v1 iW.eq_1 ?_
 refine(zH h g).mono ?_
 rintro _ _ ⟨⟨h0,rfl⟩| ⟨x,hx,rfl⟩,rfl⟩
 ·refine vs ?_
  exact .inl ⟨h0,rfl,cD.same h (ai.refl _ _)⟩
 ·refine vs ?_
  refine(Eg h x).mono ?_
  rintro _ H1 (⟨cw,_,_⟩| ⟨_,rfl,h1⟩)
  ·exact absurd (bJ.1 (by have:=bN.1 hx;omega)) cw
  refine vs ?_
  exact .inr ⟨x,hx,rfl,h1⟩
theorem PY(n:Nat):zB (.iface 214 (ptr n)) (dR n) where
 slt h:=h.slt
 ext h e hd:=h.ext e hd
 cells:=by
  rintro H S w ⟨B,C,L,T,rfl,m,l,hS⟩
  exact⟨B.c,C,m.cells⟩
 has:=by
  rintro H S w g ⟨B,C,L,T,rfl,m,l,hS⟩
  exact⟨_,_,bF,ptr B.c,rfl,hX (off:=0) (by kernel_rfl) (ae m.own) rfl,(kC m.cells g).mono fun v H' hp=>hp⟩
 make:=by
  rintro H S w ⟨B,C,L,T,rfl,m,l,hS⟩
  exact⟨_,_,dA,ptr B.c,rfl,hX (off:=0) (by kernel_rfl) (ae m.own) rfl,(G1 m l rfl hS).mono fun v H' hp=>hp⟩
 insert:=by
  intro H S w g x k s h
  exact⟨_,_,pU,ptr n,rfl,bE (by kernel_rfl),(Ef h g x k s).mono fun v H' hp=>hp⟩
 min:=by
  intro H S w g h
  refine⟨_,_,uT,ptr n,rfl,bE (by kernel_rfl),(zH h g).mono ?_⟩
  rintro v H' ⟨⟨h1,rfl⟩| ⟨x,h1,rfl⟩,rfl⟩
  ·exact .inl ⟨h1,rfl,cD.same h (ai.refl _ _)⟩
  ·exact .inr ⟨x,h1,rfl,cD.same h (ai.refl _ _)⟩
 extract:=by
  intro H S w g h
  exact⟨_,_,oU,ptr n,rfl,bE (by kernel_rfl),(CK h g).mono fun v H' hp=>hp⟩
 qt:=by
  intro H S w x k s h
  exact⟨_,_,nA,ptr n,rfl,bE (by kernel_rfl),(A8 h x k s).mono fun v H' hp=>hp⟩
 entry:=by
  rintro H S w x ⟨B,C,L,T,rfl,m,l,hS⟩
  refine⟨_,_,bk,ptr B.c,rfl,hX (off:=0) (by kernel_rfl) (ae m.own) rfl,(jg m.cells x).mono ?_⟩
  rintro v H' ⟨c1,f,hv⟩
  exact⟨⟨B,C,L,T,rfl,m.fresh f,l,hS⟩,f,hv⟩
structure PB where
 n:Nat
 c:Nat
 tb:Nat
 tp:Nat
structure bQ(H:Hp)(B:PB)(C:Nat→Prop)(w:Nw)(L:List Lk)(tops:List Int):Prop where
 own:∃tv,H.own B.n=some [ptr B.c,.slice (some ⟨B.tb,0,none⟩) L.length L.length,tv]∧Sl H 1 tv tops.length (tops.map i64) (some B.tp)
 cells:CQ H B.c C w
 fG:H.own B.tb=some (aP L)
 len:L.length=w.cs.length
 qM:B.n≠B.tb∧B.n≠B.tp∧B.tb≠B.tp
 out:¬C B.n∧¬C B.tb∧¬C B.tp
def PB.S(B:PB)(C:Nat→Prop)(z:Nat):Prop:=C z∨z=B.n∨z=B.tb∨z=B.tp
section
variable {H H' : Hp} {B : PB} {C V : Nat → Prop} {w w' : Nw} {L L' : List Lk} {tops : List Int}
theorem bQ.slt(h:bQ H B C w L tops):∀z,B.S C z→z<H.size:=by
 obtain⟨tv,h1,h2⟩:=h.own
 rintro z (hz|rfl|rfl|rfl)
 ·exact h.cells.slt z hz
 ·exact aO h1
 ·exact aO h.fG
 ·exact h2.lt
theorem bQ.ext(h:bQ H B C w L tops)(e:ai V H H')(hd:∀z,B.S C z→¬V z):bQ H' B C w L tops:=by
 obtain⟨tv,h1,h2⟩:=h.own
 exact⟨⟨tv,e.own h1 (hd _ (.inr (.inl rfl))),h2.ext e (fun b hb=>by injection hb with hb;exact hb▸hd _ (.inr (.inr (.inr rfl))))⟩,h.cells.ext e (fun x hx=>hd x (.inl hx)),
  e.own h.fG (hd _ (.inr (.inr (.inl rfl)))),h.len,h.qM,h.out⟩
theorem bQ.fresh(h:bQ H B C w L tops)(e:ay H H'):bQ H' B C w L tops:=h.ext e fun _ _ h=>h
theorem bQ.aK(h:bQ H B C w L tops)(c1:CQ H' B.c C w')(e:ai C H H')(hl:w'.cs.length=w.cs.length):bQ H' B C w' L tops:=by
 obtain⟨tv,h1,h2⟩:=h.own
 obtain⟨o1,o2,o3⟩:=h.out
 exact⟨⟨tv,e.own h1 o1,h2.ext e (fun b hb=>by injection hb with hb;exact hb▸o3)⟩,c1,e.own h.fG o2,by rw[hl];exact h.len,h.qM,h.out⟩
theorem bQ.OU(h:bQ H B C w L tops)(hl:L'.length=L.length):bQ (H.wr B.tb (aP L')) B C w L' tops∧ai (fun z=>z=B.tb) H (H.wr B.tb (aP L')):=by
 obtain⟨tv,h1,h2⟩:=h.own
 obtain⟨o1,o2,o3⟩:=h.out
 obtain⟨d1,d2,d3⟩:=h.qM
 have e:ai (fun z=>z=B.tb) H (H.wr B.tb (aP L')):=(ai.refl (fun z=>z=B.tb) _).wr (fun _=>rfl) _
 exact⟨⟨⟨tv,by rw[hl];exact e.own h1 d1,h2.ext e (fun b hb=>by injection hb with hb;omega)⟩,h.cells.ext e (fun x hx hz=>o2 (hz▸hx)),aj h.fG,by rw[hl];exact h.len,h.qM,h.out⟩,e⟩
theorem bQ.hG(h:bQ H B C w L tops):∃c l,H.own B.n=some [ptr B.c,.slice (some ⟨B.tb,0,none⟩) L.length L.length,.slice (some ⟨B.tp,0,none⟩) tops.length c]∧H.own B.tp=some l∧tops.length≤c∧c≤l.length∧l.take tops.length=tops.map i64:=by
 obtain⟨tv,h1,_,l,c,rfl,h3,h4,h5,h6⟩:=h.own
 rw[Nat.mul_one]at h5 h6
 exact⟨c,l,h1,h3,h4,h5,h6⟩
theorem bQ.fA(h:bQ H B C w L tops){l:List Value}(hl:H.own B.tp=some l){i:Nat}{x:Int}(hx:tops[i]? =some x):l[i]? =some (i64 x):=by
 obtain⟨c,l',_,h2,_,_,h5⟩:=h.hG
 rw[hl]at h2
 injection h2 with h2
 subst h2
 have h7:(tops.map i64)[i]? =some (i64 x):=by rw[List.getElem?_map,hx];rfl
 rw[←h5,List.getElem?_take]at h7
 split at h7
 ·exact h7
 ·cases h7
theorem bQ.nO(h:bQ H B C w L tops){l:List Value}(hl:H.own B.tp=some l)(i:Nat)(v:Int):bQ (H.wr B.tp (l.set i (i64 v))) B C w L (tops.set i v)∧ai (fun z=>z=B.tp) H (H.wr B.tp (l.set i (i64 v))):=by
 obtain⟨c,l',h1,h2,h3,h4,h5⟩:=h.hG
 rw[hl]at h2
 injection h2 with h2
 subst h2
 obtain⟨o1,o2,o3⟩:=h.out
 obtain⟨d1,d2,d3⟩:=h.qM
 have e:ai (fun z=>z=B.tp) H (H.wr B.tp (l.set i (i64 v))):=(ai.refl (fun z=>z=B.tp) _).wr (fun _=>rfl) _
 refine⟨⟨⟨_,e.own h1 d2,?_⟩,h.cells.ext e (fun x hx hz=>o3 (hz▸hx)),e.own h.fG d3,h.len,h.qM,h.out⟩,e⟩
 refine⟨by simp,l.set i (i64 v),c,by rw[List.length_set],aj hl,by rw[List.length_set];exact h3,by rw[List.length_set,Nat.mul_one];exact h4,?_⟩
 rw[List.length_set,Nat.mul_one,xT,h5,List.map_set]
theorem bQ.rd(h:bQ H B C w L tops){x:Int}(hx:0≤x∧x<w.cs.length):x.toNat*3+2< (aP L).length∧(aP L)[x.toNat*3]? =some (i64 (bi L x false))∧(aP L)[x.toNat*3+1]? =some (i64 (bi L x true))∧(aP L)[x.toNat*3+2]? =some (i64 (bu L x)):=by
 have hl:=h.len
 have hf:=kD L
 obtain⟨y,hy⟩:∃y,L[x.toNat]? =some y:=⟨_,List.getElem?_eq_getElem (by omega)⟩
 obtain⟨h1,h2,h3⟩:=OC hy
 rw[rS hx.1 hy,rS hx.1 hy,xg hx.1 hy]
 exact⟨by omega,h1,h2,h3⟩
theorem bQ.Nz(h:bQ H B C w L tops){x:Int}(hx:0≤x∧x<w.cs.length)(v:Int):∃L',bi L'=eG (bi L) x false v∧bu L'=bu L∧bQ (H.wr B.tb ((aP L).set (x.toNat*3) (i64 v))) B C w L' tops∧ai (fun z=>z=B.tb) H (H.wr B.tb ((aP L).set (x.toNat*3) (i64 v))):=by
 have hl:=h.len
 obtain⟨y,hy⟩:∃y,L[x.toNat]? =some y:=⟨_,List.getElem?_eq_getElem (by omega)⟩
 refine⟨L.set x.toNat (y.gY false v),uv hx.1 hy false v,uw hx.1 hy false v,?_⟩
 have:=xS hy false v
 rw[show x.toNat*3+false.toNat=x.toNat*3 from rfl]at this
 rw[this]
 exact h.OU (List.length_set ..)
theorem bQ.NE(h:bQ H B C w L tops){x:Int}(hx:0≤x∧x<w.cs.length)(v:Int):∃L',bi L'=eG (bi L) x true v∧bu L'=bu L∧bQ (H.wr B.tb ((aP L).set (x.toNat*3+1) (i64 v))) B C w L' tops∧ai (fun z=>z=B.tb) H (H.wr B.tb ((aP L).set (x.toNat*3+1) (i64 v))):=by
 have hl:=h.len
 obtain⟨y,hy⟩:∃y,L[x.toNat]? =some y:=⟨_,List.getElem?_eq_getElem (by omega)⟩
 refine⟨L.set x.toNat (y.gY true v),uv hx.1 hy true v,uw hx.1 hy true v,?_⟩
 have:=xS hy true v
 rw[show x.toNat*3+true.toNat=x.toNat*3+1 from rfl]at this
 rw[this]
 exact h.OU (List.length_set ..)
theorem bQ.Kb(h:bQ H B C w L tops){x:Int}(hx:0≤x∧x<w.cs.length)(v:Int):∃L',bi L'=bi L∧bu L'=aI (bu L) x v∧bQ (H.wr B.tb ((aP L).set (x.toNat*3+2) (i64 v))) B C w L' tops∧ai (fun z=>z=B.tb) H (H.wr B.tb ((aP L).set (x.toNat*3+2) (i64 v))):=by
 have hl:=h.len
 obtain⟨y,hy⟩:∃y,L[x.toNat]? =some y:=⟨_,List.getElem?_eq_getElem (by omega)⟩
 refine⟨L.set x.toNat ⟨y.a,y.b,v⟩,DR hx.1 hy v,DS hx.1 hy v,?_⟩
 rw[Gx hy v]
 exact h.OU (List.length_set ..)
variable {g : Int} {R : Int → Prop} {HE ch : Int → List Int} {par : Int → Int} {W : List Int} {a b : Int}
theorem df(m:bQ H B C w L tops)(pw:Ex (aH w) (aT w) g R HE ch par (ws [a,b]++W))(pl:Jy (bi L) (bu L) ch par):
  ah Tryz.prog yw [ptr B.n,i64 a,i64 b] H fun v H'=>ax (∃r L' dT bG,v=i64 r∧(r= -1→a= -1∧b= -1)∧bQ H' B C w L' tops∧Ex (aH w) (aT w) g R HE dT bG (ws [r]++W)∧Jy (bi L') (bu L') dT bG∧ai (fun z=>C z∨z=B.tb) H H'):=by
 refine bc yW ⟨rfl,?_⟩
 refine v1 iO.eq_1 ?_
 rw[ph,ed a,ed b]at pw
 refine am.dec (fun ga=>?_) (fun ga=>?_)<;>refine vs ?_
 ·rw[if_pos ga]at pw
  rw[←ed b]at pw
  exact⟨b,L,ch,par,rfl,fun h=>⟨ga,h⟩,m,pw,pl,ai.refl _ _⟩
 rw[if_neg ga]at pw
 refine am.dec (fun gb=>?_) (fun gb=>?_)<;>refine vs ?_
 ·rw[if_pos gb]at pw
  exact⟨a,L,ch,par,rfl,fun h=>⟨h,gb⟩,m,by rw[ed,if_neg ga];exact pw,pl,ai.refl _ _⟩
 rw[if_neg gb]at pw
 obtain⟨tv,o1,_⟩:=m.own
 refine v1 (ae o1) ?_
 refine(cI m.cells b a).mono ?_
 rintro _ H2 ⟨rfl,c2,e2⟩
 have m2:=m.aK c2 e2 rfl
 have Ua:Ex (aH w) (aT w) g R HE ch par (a::b::W):=pw
 obtain⟨a1,a2,a3⟩:=Ua.wm a (by simp)
 obtain⟨b1,b2,b3⟩:=Ua.wm b (by simp)
 have zJ:=jj (w:=w) (a:=b) (b:=a) (by rw[b2];exact Ua.g0) (by rw[a2];exact Ua.g0)
 rw[zJ]
 have aS:a≠b:=fun e=>by have:=Ua.nd;rw[e]at this;simp at this
 obtain⟨p,q,Ol,hl,pw2⟩:∃p q,(if aT w b a=true then(p=b∧q=a)else(p=a∧q=b))∧aT w p q=true∧Ex (aH w) (aT w) g R HE ch par (p::q::W):=by
  cases aR:aT w b a
  ·exact⟨a,b,by simp,((aq w).Oo a b aS).resolve_right (by rw[aR];simp),Ua⟩
  ·exact⟨b,a,by simp,aR,Ua.perm (List.Perm.swap ..)⟩
 obtain⟨p1,p2,p3⟩:=pw2.wm p (by simp)
 obtain⟨q1,q2,q3⟩:=pw2.wm q (by simp)
 have ae0:p≠q:=fun e=>by rw[e,(aq w).xN]at hl;cases hl
 have pw3:=pw2.link hl
 have Tl:=pl.link pw2.pr p1 q3 ae0
 obtain⟨px,py,_⟩:=aF (w:=w) (x:=p) (by rw[p2];exact Ua.g0)
 obtain⟨qx,qy,_⟩:=aF (w:=w) (x:=q) (by rw[q2];exact Ua.g0)
 have hold:bi L p false≠ -1→0≤bi L p false∧bi L p false<w.cs.length:=fun h=>by
  have h1:bi L p false∈ch p:=by rw[pl.hd]at h ⊢;exact eI h
  have h2:=(pw2.pr.dn p _ h1).2.2.2.1
  obtain⟨z0,z1,_⟩:=aF h2
  exact⟨z0,z1⟩
 have bm:=m2.len
 have ws1:ws [p]=[p]:=by rw[ed,if_neg p1]
 cases aR:aT w b a<;>simp only[aR,if_true,if_false,Bool.false_eq_true]at Ol<;>obtain⟨rfl,rfl⟩:=Ol<;>refine vs ?_
 all_goals
  obtain⟨Nk,o2,_⟩:=m2.own
  obtain⟨r0,r1,r2,r3⟩:=m2.rd ⟨px,py⟩
  refine v1 (ae o2) ?_
  refine⟨⟨by omega,by omega⟩,?_⟩
  refine v4 (ae m2.fG) Nat.zero_add Nat.add_zero r1 ?_
  refine v1 (ae o2) ?_
  refine⟨⟨by omega,by omega⟩,?_⟩
  obtain⟨L3,k3,u3,m3,e3⟩:=m2.NE ⟨qx,qy⟩ (bi L p false)
  obtain⟨s0,_⟩:=m2.rd ⟨qx,qy⟩
  refine v3 m2.fG Nat.zero_add Nat.add_zero ?_
  refine⟨by omega,?_⟩
  refine vs ?_
  generalize H2.wr B.tb ((aP L).set (q.toNat*3+1) (i64 (bi L p false)))=H3 at*
  obtain⟨L4,k4,u4,m4,e4⟩:=m3.Kb ⟨qx,qy⟩ p
  obtain⟨s4,_⟩:=m3.rd ⟨qx,qy⟩
  refine⟨⟨by omega,by omega⟩,?_⟩
  refine v3 m3.fG Nat.zero_add Nat.add_zero ?_
  refine⟨by omega,?_⟩
  refine vs ?_
  generalize H3.wr B.tb ((aP L3).set (q.toNat*3+2) (i64 p))=H4 at*
  have e24:ai (fun z=>C z∨z=B.tb) H H4:=((e2.mono fun z _ h=>.inl h).trans (e3.mono fun z _ h=>.inr h)).trans (e4.mono fun z _ h=>.inr h)
  have WC:=m4.len
  refine am.dec (fun go=>?_) (fun go=>?_)<;>refine vs ?_
  ·obtain⟨Z4,o4,_⟩:=m4.own
   obtain⟨L5,k5,u5,m5,e5⟩:=m4.Nz ⟨px,py⟩ q
   obtain⟨s5,_⟩:=m4.rd ⟨px,py⟩
   refine v1 (ae o4) ?_
   refine⟨⟨by omega,by omega⟩,?_⟩
   refine v3 m4.fG Nat.zero_add Nat.add_zero ?_
   refine⟨by omega,?_⟩
   refine vs ?_
   refine⟨p,L5,_,_,rfl,fun h=>absurd h p1,m5,by rw[ws1];exact pw3,?_,e24.trans (e5.mono fun z _ h=>.inr h)⟩
   rw[if_pos go]at Tl
   rw[k5,u5,k4,u4,k3,u3]
   exact Tl
  ·obtain⟨Z4,o4,_⟩:=m4.own
   obtain⟨ox,oy⟩:=hold go
   obtain⟨L5,k5,u5,m5,e5⟩:=m4.Kb ⟨ox,oy⟩ q
   obtain⟨s5,_⟩:=m4.rd ⟨ox,oy⟩
   refine v1 (ae o4) ?_
   refine⟨⟨by omega,by omega⟩,?_⟩
   refine v3 m4.fG Nat.zero_add Nat.add_zero ?_
   refine⟨by omega,?_⟩
   refine vs ?_
   generalize H4.wr B.tb ((aP L4).set ((bi L p false).toNat*3+2) (i64 q))=H5 at*
   obtain⟨tv5,o5,_⟩:=m5.own
   have hl5:=m5.len
   obtain⟨L6,k6,u6,m6,e6⟩:=m5.Nz ⟨px,py⟩ q
   obtain⟨s6,_⟩:=m5.rd ⟨px,py⟩
   refine v1 (ae o5) ?_
   refine⟨⟨by omega,by omega⟩,?_⟩
   refine v3 m5.fG Nat.zero_add Nat.add_zero ?_
   refine⟨by omega,?_⟩
   refine vs ?_
   refine⟨p,L6,_,_,rfl,fun h=>absurd h p1,m6,by rw[ws1];exact pw3,?_,(e24.trans (e5.mono fun z _ h=>.inr h)).trans (e6.mono fun z _ h=>.inr h)⟩
   rw[if_neg go]at Tl
   rw[k6,u6,k5,u5,k4,u4,k3,u3]
   exact Tl
theorem tm(m:bQ H B C w L tops){lt:Int→Int→Bool}(hs:bB lt)(q:Pr (aH w) lt ch par)(pl:Jy (bi L) (bu L) ch par){p x:Int}{l1 l2:List Int}(hp:ch p=l1++x::l2):
  ah Tryz.prog Ab [ptr B.n,i64 x] H fun v H'=>ax (∃L',bQ H' B C w L' tops∧Jy (bi L') (bu L') (aA ch p (l1++l2)) (aI par x (-1))∧ai (fun z=>z=B.tb) H H'):=by
 obtain⟨f1,f2,f7,f3,f4,f5,f6⟩:=pl.off q hs hp
 have hx:=(q.dn p x (by rw[hp];simp)).2.2.2.1
 obtain⟨x0,x1,_⟩:=aF hx
 obtain⟨y0,y1,_⟩:=aF (w:=w) (x:=bu L x) (by omega)
 obtain⟨tv,o1,_⟩:=m.own
 obtain⟨r0,r1,r2,r3⟩:=m.rd ⟨x0,x1⟩
 obtain⟨t0,t1,t2,t3⟩:=m.rd ⟨y0,y1⟩
 have hl:=m.len
 refine bc AH ⟨rfl,?_⟩
 refine v2 jP.eq_1 (ae o1) ?_
 refine⟨⟨by omega,by omega⟩,?_⟩
 refine v5 (ae o1) (ae m.fG) Nat.zero_add Nat.add_zero r3 ?_
 refine⟨⟨by omega,by omega⟩,?_⟩
 refine v4 (ae m.fG) Nat.zero_add Nat.add_zero t1 ?_
 have bx:bu L x≠x:=f7
 refine am.dec (fun g=>?_) (fun g=>?_)<;>refine vs ?_
 ·have vk:=f1.1 g
  rw[if_pos vk]at f6
  refine v6 (ae o1) (ae m.fG) Nat.zero_add Nat.add_zero r2 r3 ?_
  refine⟨⟨by omega,by omega⟩,?_⟩
  obtain⟨L1,k1,u1,m1,e1⟩:=m.Nz ⟨y0,y1⟩ (bi L x true)
  refine v3 m.fG Nat.zero_add Nat.add_zero ?_
  refine⟨by omega,?_⟩
  refine vs ?_
  generalize H.wr B.tb ((aP L).set ((bu L x).toNat*3) (i64 (bi L x true)))=H1 at*
  obtain⟨s0,s1,s2,s3⟩:=m1.rd ⟨x0,x1⟩
  have vk:=m1.len
  obtain⟨DU,o1,_⟩:=m1.own
  have en:bi L1 x true=bi L x true:=by
   rw[k1]
   unfold eG
   rw[if_neg (by simp[bx.symm])]
  have eu:bu L1 x=bu L x:=by rw[u1]
  rw[en]at s2
  rw[eu]at s3
  refine v4 (ae m1.fG) Nat.zero_add Nat.add_zero s2 ?_
  refine am.dec (fun gn=>?_) (fun gn=>?_)<;>refine vs ?_
  ·obtain⟨L2,k2,u2,m2,e2⟩:=m1.NE ⟨x0,x1⟩ (-1)
   refine v3 m1.fG Nat.zero_add Nat.add_zero ?_
   refine⟨by omega,?_⟩
   obtain⟨v0,_⟩:=m2.rd ⟨x0,x1⟩
   obtain⟨L3,k3,u3,m3,e3⟩:=m2.Kb ⟨x0,x1⟩ (-1)
   refine vs ?_
   generalize H1.wr B.tb ((aP L1).set (x.toNat*3+1) (Value.int .i64 (-1)))=H2 at*
   refine v3 m2.fG Nat.zero_add Nat.add_zero ?_
   refine⟨by omega,?_⟩
   refine vs ?_
   refine⟨L3,m3,?_,(e1.trans e2).trans e3⟩
   rw[if_pos gn]at f6
   rw[k3,u3,k2,u2,k1,u1]
   exact f6
  ·obtain⟨z0,z1,_⟩:=aF (w:=w) (x:=bi L x true) (by rw[f5 gn];exact hx)
   obtain⟨v0,_⟩:=m1.rd ⟨z0,z1⟩
   refine v6 (ae o1) (ae m1.fG) Nat.zero_add Nat.add_zero s2 s3 ?_
   refine⟨⟨by omega,by omega⟩,?_⟩
   obtain⟨L2,k2,u2,m2,e2⟩:=m1.Kb ⟨z0,z1⟩ (bu L x)
   refine v3 m1.fG Nat.zero_add Nat.add_zero ?_
   refine⟨by omega,?_⟩
   refine vs ?_
   generalize H1.wr B.tb ((aP L1).set ((bi L x true).toNat*3+2) (i64 (bu L x)))=H2 at*
   obtain⟨v1,_⟩:=m2.rd ⟨x0,x1⟩
   obtain⟨L3,k3,u3,m3,e3⟩:=m2.NE ⟨x0,x1⟩ (-1)
   refine v3 m2.fG Nat.zero_add Nat.add_zero ?_
   refine⟨by omega,?_⟩
   obtain⟨v2,_⟩:=m3.rd ⟨x0,x1⟩
   obtain⟨L4,k4,u4,m4,e4⟩:=m3.Kb ⟨x0,x1⟩ (-1)
   refine vs ?_
   generalize H2.wr B.tb ((aP L2).set (x.toNat*3+1) (Value.int .i64 (-1)))=H3 at*
   refine v3 m3.fG Nat.zero_add Nat.add_zero ?_
   refine⟨by omega,?_⟩
   refine vs ?_
   refine⟨L4,m4,?_,((e1.trans e2).trans e3).trans e4⟩
   rw[if_neg gn]at f6
   rw[k4,u4,k3,u3,k2,u2,k1,u1]
   exact f6
 ·have vk:l1≠[]:=fun h=>g (f1.2 h)
  rw[if_neg vk]at f6
  refine v6 (ae o1) (ae m.fG) Nat.zero_add Nat.add_zero r2 r3 ?_
  refine⟨⟨by omega,by omega⟩,?_⟩
  obtain⟨L1,k1,u1,m1,e1⟩:=m.NE ⟨y0,y1⟩ (bi L x true)
  refine v3 m.fG Nat.zero_add Nat.add_zero ?_
  refine⟨by omega,?_⟩
  refine vs ?_
  generalize H.wr B.tb ((aP L).set ((bu L x).toNat*3+1) (i64 (bi L x true)))=H1 at*
  obtain⟨s0,s1,s2,s3⟩:=m1.rd ⟨x0,x1⟩
  have vk:=m1.len
  obtain⟨DU,o1,_⟩:=m1.own
  have en:bi L1 x true=bi L x true:=by
   rw[k1]
   unfold eG
   rw[if_neg (by simp[bx.symm])]
  have eu:bu L1 x=bu L x:=by rw[u1]
  rw[en]at s2
  rw[eu]at s3
  refine v4 (ae m1.fG) Nat.zero_add Nat.add_zero s2 ?_
  refine am.dec (fun gn=>?_) (fun gn=>?_)<;>refine vs ?_
  ·obtain⟨L2,k2,u2,m2,e2⟩:=m1.NE ⟨x0,x1⟩ (-1)
   refine v3 m1.fG Nat.zero_add Nat.add_zero ?_
   refine⟨by omega,?_⟩
   obtain⟨v0,_⟩:=m2.rd ⟨x0,x1⟩
   obtain⟨L3,k3,u3,m3,e3⟩:=m2.Kb ⟨x0,x1⟩ (-1)
   refine vs ?_
   generalize H1.wr B.tb ((aP L1).set (x.toNat*3+1) (Value.int .i64 (-1)))=H2 at*
   refine v3 m2.fG Nat.zero_add Nat.add_zero ?_
   refine⟨by omega,?_⟩
   refine vs ?_
   refine⟨L3,m3,?_,(e1.trans e2).trans e3⟩
   rw[if_pos gn]at f6
   rw[k3,u3,k2,u2,k1,u1]
   exact f6
  ·obtain⟨z0,z1,_⟩:=aF (w:=w) (x:=bi L x true) (by rw[f5 gn];exact hx)
   obtain⟨v0,_⟩:=m1.rd ⟨z0,z1⟩
   refine v6 (ae o1) (ae m1.fG) Nat.zero_add Nat.add_zero s2 s3 ?_
   refine⟨⟨by omega,by omega⟩,?_⟩
   obtain⟨L2,k2,u2,m2,e2⟩:=m1.Kb ⟨z0,z1⟩ (bu L x)
   refine v3 m1.fG Nat.zero_add Nat.add_zero ?_
   refine⟨by omega,?_⟩
   refine vs ?_
   generalize H1.wr B.tb ((aP L1).set ((bi L x true).toNat*3+2) (i64 (bu L x)))=H2 at*
   obtain⟨v1,_⟩:=m2.rd ⟨x0,x1⟩
   obtain⟨L3,k3,u3,m3,e3⟩:=m2.NE ⟨x0,x1⟩ (-1)
   refine v3 m2.fG Nat.zero_add Nat.add_zero ?_
   refine⟨by omega,?_⟩
   obtain⟨v2,_⟩:=m3.rd ⟨x0,x1⟩
   obtain⟨L4,k4,u4,m4,e4⟩:=m3.Kb ⟨x0,x1⟩ (-1)
   refine vs ?_
   generalize H2.wr B.tb ((aP L2).set (x.toNat*3+1) (Value.int .i64 (-1)))=H3 at*
   refine v3 m3.fG Nat.zero_add Nat.add_zero ?_
   refine⟨by omega,?_⟩
   refine vs ?_
   refine⟨L4,m4,?_,((e1.trans e2).trans e3).trans e4⟩
   rw[if_neg gn]at f6
   rw[k4,u4,k3,u3,k2,u2,k1,u1]
   exact f6
end
end Go.Proofs.YtjlnnljohemifaaGreat

namespace Go.Proofs.YtjlnnljohemifaaGreat
open Go Go.Vc
section
variable {H : Hp} {B : PB} {C V : Nat → Prop} {w : Nw} {L : List Lk} {tops : List Int} {ch HE : Int → List Int} {par : Int → Int}
theorem Pr.len(q:Pr (aH w) (aT w) ch par)(x:Int):(ch x).length≤w.cs.length:=bY (q.nd x) fun c hc=>by
 obtain⟨z0,z1,_⟩:=aF (q.dn x c hc).2.2.2.1
 exact⟨z0,z1⟩
theorem KH.next{K:Int→Bool→Int}{Bk:Int→Int}:∀ {l1:List Int} {p x:Int} {l2:List Int},KH K Bk p (l1++x::l2)→K x true=l2.headD (-1):=fun h=>h.split.2.1
theorem CL(m:bQ H B C w L tops)(q:Pr (aH w) (aT w) ch par)(pl:Jy (bi L) (bu L) ch par){x:Int}(hx:0<aH w x):
  ah Tryz.prog yy [ptr B.n,i64 x] H fun v H'=>ax (∃fp,bQ H' B C w L tops∧ai C H H'∧Sl H' 1 v (ch x).length ((ch x).map i64) fp∧∀b,fp=some b→H.size≤b):=by
 obtain⟨x0,x1,_⟩:=aF hx
 have qQ:=m.cells.Fc
 have bm:=q.len x
 refine bc yY ⟨rfl,?_⟩
 obtain⟨tv,o1,_⟩:=m.own
 refine v2 iQ.eq_1 (ae o1) ?_
 refine(dm m.cells x).mono ?_
 rintro _ H1 (⟨cw,_,_⟩| ⟨bS,rfl,c1,e1⟩)
 ·exact absurd (bJ.1 hx) cw
 have m1:=m.aK c1 e1 rfl
 obtain⟨DU,o1,_⟩:=m1.own
 obtain⟨r0,r1,r2,r3⟩:=m1.rd ⟨x0,x1⟩
 have hl:=m1.len
 have z1:=e1.size
 refine v1 (ae o1) ?_
 refine⟨⟨by omega,by omega⟩,?_⟩
 refine v4 (ae m1.fG) Nat.zero_add Nat.add_zero r1 ?_
 refine bD.intro (fun mm env H'=>∃ (d r:List Int) (wv:Value) (fp:Option Nat),mm=r.length∧ch x=d++r∧bQ H' B C w L tops∧(∀z,fp=some z→H.size≤z)∧Sl H' 1 wv d.length (d.map i64) fp∧ai (fun z=>C z∨H.size≤z) H H'∧
  env=[(0,ptr B.n),(7,wv),(8,i64 (r.headD (-1)))]) _ ⟨[],ch x,_,none,rfl,rfl,m1,(fun z h=>by cases h),Sl.nil _ _,e1.mono (fun z _ h=>.inl h),by rw[pl.hd]⟩ ?_
 rintro mm env H2 ⟨d,r,wv,fp,rfl,Yx,m2,l9,s2,e2,rfl⟩
 have z2:=e2.size
 refine vs ?_
 cases r with
 |nil=>
  refine am.dec (fun _=>?_) (fun h=>absurd rfl h)
  refine vs ?_
  rw[List.append_nil]at Yx
  rw[Yx]
  exact⟨fp,m2,e2.mono (fun z hz h=>h.elim id fun h=>by omega),s2,l9⟩
 |cons c r=>
  have hc:=q.dn x c (by rw[Yx];simp)
  obtain⟨c0,c1,_⟩:=aF hc.2.2.2.1
  have JZ:=pl.sg x
  rw[Yx]at JZ
  have JZ:=JZ.next
  have pt:d.length+(r.length+1)=(ch x).length:=by rw[Yx,List.length_append,List.length_cons]
  refine am.dec (fun h=>absurd h (by simp only[List.headD_cons];omega)) (fun _=>?_)
  refine vs ?_
  refine EB (B:=H.size) l9 (by omega) s2 c (by omega) fun w' H3 fJ oF s3 e3=>?_
  refine vs ?_
  have m3:=m2.ext e3 (fun z hz eA=>by have:=m.slt z hz;omega)
  obtain⟨Yg,o3,_⟩:=m3.own
  obtain⟨t0,t1,t2,t3⟩:=m3.rd ⟨c0,c1⟩
  have Tf:=m3.len
  simp(disch:=(first|omega| (simp only[Zs]<;>omega)|fail)) only[go_sem, ↓reduceIte,Zv,ae o3,List.headD_cons]
  refine⟨⟨by omega,by omega⟩,?_⟩
  refine v4 (ae m3.fG) Nat.zero_add Nat.add_zero t2 ?_
  refine⟨r.length,by simp,d++[c],r,w',fJ,rfl,by rw[Yx];simp,m3,oF,s3,e2.trans (e3.mono fun z _ h=>.inr h),by rw[JZ]⟩
set_option maxHeartbeats 2000000 in
theorem lT(m:bQ H B C w L tops)(q:Pr (aH w) (aT w) ch par)(pl:Jy (bi L) (bu L) ch par){x:Int}(hx:0<aH w x):
  ah Tryz.prog yx [ptr B.n,i64 x] H fun v H'=>ax (∃r L' dT bG,v=i64 r∧bQ H' B C w L' tops∧Jy (bi L') (bu L') dT bG∧
   Ex (aH w) (aT w) (aH w x) (fun y=>0<aH w y∧par y= -1) (aA ch x []) dT bG (ws [r])∧ai (fun z=>C z∨z=B.tb) H H'):=by
 obtain⟨x0,x1,_⟩:=aF hx
 have qQ:=m.cells.Fc
 have bm:=q.len x
 refine bc yX ⟨rfl,?_⟩
 refine v1 iP.eq_1 ?_
 refine(CL m q pl hx).mono ?_
 rintro kv H1 ⟨fp,m1,e1,s1,l9⟩
 have z1:=e1.size
 obtain⟨DU,o1,_⟩:=m1.own
 obtain⟨r0,_⟩:=m1.rd ⟨x0,x1⟩
 have hl:=m1.len
 refine v1 (ae o1) ?_
 refine⟨⟨by omega,by omega⟩,?_⟩
 obtain⟨L2,k2,u2,m2,e2⟩:=m1.Nz ⟨x0,x1⟩ (-1)
 refine v3 m1.fG Nat.zero_add Nat.add_zero ?_
 refine⟨by omega,?_⟩
 refine vs ?_
 generalize H1.wr B.tb ((aP L).set (x.toNat*3) (Value.int .i64 (-1)))=H2 at*
 have hN:∀z,B.S C z→z<H.size:=m.slt
 have sl2:B.tb<H.size:=hN _ (.inr (.inr (.inl rfl)))
 have s2:=s1.ext e2 (fun z hz eA=>by have:=l9 z hz;omega)
 obtain⟨ka,kc,rfl⟩:=Sl.shape s2
 have sA:ai (fun z=>C z∨z=B.tb∨H.size≤z) H H2:=(e1.mono fun z _ h=>.inl h).trans (e2.mono fun z _ h=>.inr (.inl h))
 refine vs ?_
 refine bD.intro (fun mm env H'=>∃ (i:Nat) (L':List Lk),mm=(ch x).length - i∧i≤(ch x).length∧bQ H' B C w L' tops∧Sl H' 1 (.slice ka (ch x).length kc) (ch x).length ((ch x).map i64) fp∧ai (fun z=>C z∨z=B.tb∨H.size≤z) H H'∧
  (∀y,bi L' y false=if y=x then -1 else bi L y false)∧(∀c,(c∈(ch x).take i→bi L' c true= -1∧bu L' c= -1)∧(c∉ (ch x).take i→bi L' c true=bi L c true∧bu L' c=bu L c))∧
  env=[(0,ptr B.n),(5,.slice ka (ch x).length kc),(22,.slice ka (ch x).length kc),(23,i64 (ch x).length),(24,i64 i)]) _ ⟨0,L2,rfl,by omega,m2,s2,sA,fun y=>?_,fun c=>⟨fun h=>by simp at h,fun _=>?_⟩,rfl⟩ ?_
 ·rw[k2]
  unfold eG
  by_cases hy:y=x
  ·rw[if_pos ⟨hy,rfl⟩,if_pos hy]
  ·rw[if_neg (by simp[hy]),if_neg hy]
 ·rw[k2,u2]
  unfold eG
  rw[if_neg (by simp)]
  exact⟨rfl,rfl⟩
 rintro mm env H3 ⟨i,L3,rfl,hi,m3,s3,e3,kf3,kt3,rfl⟩
 refine vs ?_
 refine am.dec (fun gi=>?_) (fun gi=>?_)<;>refine vs ?_
 ·have mX:i< (ch x).length:=by omega
  obtain⟨c,hc⟩:∃c,(ch x)[i]? =some c:=⟨_,List.getElem?_eq_getElem mX⟩
  have I7:=List.mem_of_getElem? hc
  obtain⟨c0,c1,_⟩:=aF (q.dn x c I7).2.2.2.1
  obtain⟨_,kb,lb,rfl,q2,q3⟩:=Sl.AU s3 hc
  refine⟨⟨by omega,by omega⟩,?_⟩
  refine v5 (ae q2) Nat.zero_add Nat.mul_one Int.toNat_natCast q3 ?_
  obtain⟨Yg,o3,_⟩:=m3.own
  obtain⟨t0,_⟩:=m3.rd ⟨c0,c1⟩
  have Tf:=m3.len
  refine v1 (ae o3) ?_
  refine⟨⟨by omega,by omega⟩,?_⟩
  obtain⟨L4,k4,u4,m4,e4⟩:=m3.NE ⟨c0,c1⟩ (-1)
  refine v3 m3.fG Nat.zero_add Nat.add_zero ?_
  refine⟨by omega,?_⟩
  obtain⟨t1,_⟩:=m4.rd ⟨c0,c1⟩
  have WC:=m4.len
  obtain⟨L5,k5,u5,m5,e5⟩:=m4.Kb ⟨c0,c1⟩ (-1)
  refine vs ?_
  generalize H3.wr B.tb ((aP L3).set (c.toNat*3+1) (Value.int .i64 (-1)))=H4 at*
  refine⟨⟨by omega,by omega⟩,?_⟩
  refine v3 m4.fG Nat.zero_add Nat.add_zero ?_
  refine⟨by omega,?_⟩
  refine vs ?_
  have s5:=(s3.ext e4 (fun z hz eA=>by have:=l9 z hz;omega)).ext e5 (fun z hz eA=>by have:=l9 z hz;omega)
  refine⟨(ch x).length - (i+1),by omega,i+1,L5,rfl,by omega,m5,s5,(e3.trans (e4.mono fun z _ h=>.inr (.inl h))).trans (e5.mono fun z _ h=>.inr (.inl h)),fun y=>?_,fun d=>?_,?_⟩
  ·rw[k5,k4]
   unfold eG
   rw[if_neg (by simp)]
   exact kf3 y
  ·have tk:(ch x).take (i+1)=(ch x).take i++[c]:=by rw[List.take_add_one,hc];rfl
   rw[tk,k5,k4,u5,u4]
   unfold eG aI
   by_cases hd:d=c
   ·rw[if_pos ⟨hd,rfl⟩,if_pos hd]
    exact⟨fun _=>⟨rfl,rfl⟩,fun h=>absurd (show d∈(ch x).take i++[c] by simp[hd]) h⟩
   ·rw[if_neg (by simp[hd]),if_neg hd]
    refine⟨fun h=>(kt3 d).1 ?_,fun h=>(kt3 d).2 fun h2=>h (by simp[h2])⟩
    rcases List.mem_append.1 h with h|h
    ·exact h
    ·exact absurd (List.mem_singleton.1 h) hd
  ·rw[wrap64 (by omega) (by omega)]
   rfl
 obtain rfl:i=(ch x).length:=by omega
 rw[List.take_length]at kt3
 have Tl:=pl.bare q kf3 (fun c hc=>(kt3 c).1 hc) (fun c hc=>(kt3 c).2 hc)
 have pw3:=q.VG hx
 have Fu:∀z,fp=some z→z<H3.size:=fun z hz=>by rw[hz]at s3;exact s3.lt
 have z3:=e3.size
 refine bD.intro (fun mm env H'=>∃ (i:Nat) (t:List Int) (wv:Value) (fq:Option Nat) (L':List Lk) (dT:Int→List Int) (bG:Int→Int),mm=(ch x).length+2 - i∧i≤(ch x).length+1∧t.length≤i∧bQ H' B C w L' tops∧
  Sl H' 1 (.slice ka (ch x).length kc) (ch x).length ((ch x).map i64) fp∧(∀z,fq=some z→H3.size≤z)∧Sl H' 1 wv t.length (t.map i64) fq∧ai (fun z=>C z∨z=B.tb∨H.size≤z) H H'∧ai (fun z=>C z∨z=B.tb∨H3.size≤z) H3 H'∧
  Ex (aH w) (aT w) (aH w x) (fun y=>0<aH w y∧par y= -1) (aA ch x []) dT bG (t++(ch x).drop i)∧Jy (bi L') (bu L') dT bG∧
  env=[(0,ptr B.n),(5,.slice ka (ch x).length kc),(8,wv),(9,i64 i)]) _ ⟨0,[],_,none,L3,_,_,rfl,by omega,by simp,m3,s3,(fun z h=>by cases h),Sl.nil _ _,e3,ai.refl _ _,by simpa using pw3,Tl,rfl⟩ ?_
 rintro mm env H4 ⟨i,t,wv,fq,L4,Ub,Kc,rfl,hi,hti,m4,s4,KN,t4,e4,Wz,WJ,WK,rfl⟩
 have z4:=e4.size
 have z34:=Wz.size
 refine vs ?_
 refine am.dec (fun gi=>?_) (fun gi=>?_)<;>refine vs ?_
 ·have mX:i< (ch x).length:=by omega
  obtain⟨c,hc⟩:∃c,(ch x)[i]? =some c:=⟨_,List.getElem?_eq_getElem mX⟩
  have I7:=List.mem_of_getElem? hc
  have PM:=q.ne I7
  have dr:(ch x).drop i=c::(ch x).drop (i+1):=by
   rw[List.drop_eq_getElem_cons mX]
   congr 1
   rw[List.getElem?_eq_getElem mX]at hc
   injection hc
  obtain⟨_,kb,lb,rfl,q2,q3⟩:=Sl.AU s4 hc
  refine am.dec (fun g1=>?_) (fun g1=>?_)<;>refine vs ?_
  ·rw[wrap64 (by omega) (by omega)]at g1
   refine⟨⟨by omega,by omega⟩,?_⟩
   refine v5 (ae q2) Nat.zero_add Nat.mul_one Int.toNat_natCast q3 ?_
   refine EB (B:=H3.size) KN z34 t4 c (by omega) fun w' H5 fq' R7 t5 e5=>?_
   refine vs ?_
   have m5:=m4.ext e5 (fun z hz eA=>by have:=m.slt z hz;omega)
   have s5:=s4.ext e5 (fun z hz eA=>by have:=Fu z hz;omega)
   refine⟨(ch x).length+2 - (i+2),by omega,i+2,t++[c],w',fq',L4,Ub,Kc,rfl,by omega,by simp;omega,m5,s5,R7,t5,e4.trans (e5.mono fun z _ h=>.inr (.inr (by omega))),Wz.trans (e5.mono fun z _ h=>.inr (.inr h)),?_,WK,?_⟩
   ·rw[dr]at WJ
    rw[List.drop_of_length_le (by omega)]
    rw[List.drop_of_length_le (by omega)]at WJ
    simpa using WJ
   ·rw[wrap64 (by omega) (by omega)];rfl
  ·rw[wrap64 (by omega) (by omega)]at g1
   have uN:i+1< (ch x).length:=by omega
   obtain⟨d,hd⟩:∃d,(ch x)[i+1]? =some d:=⟨_,List.getElem?_eq_getElem uN⟩
   have Tz:=List.mem_of_getElem? hd
   have VY:=q.ne Tz
   have dr2:(ch x).drop (i+1)=d::(ch x).drop (i+2):=by
    rw[List.drop_eq_getElem_cons uN]
    congr 1
    rw[List.getElem?_eq_getElem uN]at hd
    injection hd
   obtain⟨_,EH,lb2,ek,q5,q4⟩:=Sl.AU s4 hd
   injection ek with ek
   injection ek with ek
   subst ek
   rw[q2]at q5
   injection q5 with q5
   subst q5
   refine⟨⟨by omega,by omega⟩,?_⟩
   refine v5 (ae q2) Nat.zero_add Nat.mul_one Int.toNat_natCast q3 ?_
   rw[wrap64 (by omega) (by omega)]
   refine⟨⟨by omega,by omega⟩,?_⟩
   refine v5 (ae q2) Nat.zero_add Nat.mul_one (show((i:Int)+1).toNat=i+1 by omega) q4 ?_
   have w2:ws [c,d]=[c,d]:=by rw[ph,ed,ed,if_neg PM,if_neg VY];rfl
   have WL:Ex (aH w) (aT w) (aH w x) (fun y=>0<aH w y∧par y= -1) (aA ch x []) Ub Kc (ws [c,d]++(t++(ch x).drop (i+2))):=by
    rw[w2]
    rw[dr,dr2]at WJ
    refine WJ.perm ?_
    have h1:(t++c::d::(ch x).drop (i+2)).Perm (c::(t++d::(ch x).drop (i+2))):=List.perm_middle
    have h2:(t++d::(ch x).drop (i+2)).Perm (d::(t++(ch x).drop (i+2))):=List.perm_middle
    exact h1.trans (h2.cons c)
   refine(df m4 WL WK).mono ?_
   rintro _ H5 ⟨r,L5,Yy,PZ,rfl,hr,m5,pw6,pl5,e5⟩
   have hrn:r≠ -1:=fun h=>PM (hr h).1
   have z5:=e5.size
   have t5:=t4.ext e5 (fun z hz eA=>by have:=KN z hz;rcases eA with h|h;have:=m.slt z (.inl h);omega;omega)
   have s5:=s4.ext e5 (fun z hz eA=>by have:=l9 z hz;rcases eA with h|h;have:=m.slt z (.inl h);omega;omega)
   refine vs ?_
   refine EB (B:=H3.size) KN (by omega) t5 r (by omega) fun w' H6 fq' R7 t6 e6=>?_
   refine vs ?_
   have m6:=m5.ext e6 (fun z hz eA=>by have:=m.slt z hz;omega)
   have s6:=s5.ext e6 (fun z hz eA=>by have:=Fu z hz;omega)
   refine⟨(ch x).length+2 - (i+2),by omega,i+2,t++[r],w',fq',L5,Yy,PZ,rfl,by omega,by simp;omega,m6,s6,R7,t6,(e4.trans (e5.mono fun z _ h=>h.elim .inl fun h=>.inr (.inl h))).trans (e6.mono fun z _ h=>.inr (.inr (by omega))),(Wz.trans (e5.mono fun z _ h=>h.elim .inl fun h=>.inr (.inl h))).trans (e6.mono fun z _ h=>.inr (.inr h)),?_,pl5,?_⟩
   ·rw[ed,if_neg hrn]at pw6
    refine pw6.perm ?_
    rw[List.append_assoc]
    exact(List.perm_middle (l₁:=t) (a:=r) (l₂:=(ch x).drop (i+2))).symm
   ·rw[wrap64 (by omega) (by omega)];rfl
 rw[List.drop_of_length_le (by omega),List.append_nil]at WJ
 have ME:t.length≤65537:=by omega
 obtain⟨ta,tc,rfl⟩:=Sl.shape t4
 refine vs ?_
 refine bD.intro (fun mm env H'=>∃ (j:Nat) (r:Int) (L':List Lk) (dT:Int→List Int) (bG:Int→Int),mm=j∧j≤t.length∧bQ H' B C w L' tops∧
  Sl H' 1 (.slice ta t.length tc) t.length (t.map i64) fq∧ai (fun z=>C z∨z=B.tb∨H.size≤z) H H'∧
  Ex (aH w) (aT w) (aH w x) (fun y=>0<aH w y∧par y= -1) (aA ch x []) dT bG (ws [r]++t.take j)∧Jy (bi L') (bu L') dT bG∧
  env=[(0,ptr B.n),(8,.slice ta t.length tc),(10,i64 r),(11,i64 ((j:Int) - 1))]) _ ⟨t.length, -1,L4,Ub,Kc,rfl,Nat.le_refl _,m4,t4,e4,by rw[ed,if_pos rfl,List.take_length];exact WJ,WK,?_⟩ ?_
 ·rw[wrap64 (by omega) (by omega)]
 rintro mm env H5 ⟨j,r,L5,Yy,PZ,hmj,hj,m5,t5,e5,WL,pl5,rfl⟩
 obtain rfl:=hmj.symm
 refine vs ?_
 refine am.dec (fun gj=>?_) (fun gj=>?_)<;>refine vs ?_
 ·obtain⟨k,rfl⟩:∃k,j=k+1:=⟨j - 1,by omega⟩
  obtain⟨c,hc⟩:∃c,t[k]? =some c:=⟨_,List.getElem?_eq_getElem (by omega)⟩
  obtain⟨_,kb,lb,rfl,q2,q3⟩:=Sl.AU t5 hc
  have ji:((((k+1:Nat):Int) - 1)).toNat=k:=by omega
  refine⟨⟨by omega,by omega⟩,?_⟩
  refine v5 (ae q2) Nat.zero_add Nat.mul_one ji q3 ?_
  have tk:t.take (k+1)=t.take k++[c]:=by rw[List.take_add_one,hc];rfl
  have PM:c≠ -1:=(WL.wm c (by rw[tk];simp)).1
  have pw6:Ex (aH w) (aT w) (aH w x) (fun y=>0<aH w y∧par y= -1) (aA ch x []) Yy PZ (ws [c,r]++t.take k):=by
   rw[tk]at WL
   refine WL.perm ?_
   rw[ph c [r],ed c,if_neg PM]
   have h1:(ws [r]++(t.take k++[c])).Perm ((ws [r]++t.take k)++[c]):=by rw[List.append_assoc]
   refine h1.trans (List.perm_append_comm.trans ?_)
   rw[List.append_assoc]
  refine(df m5 pw6 pl5).mono ?_
  rintro _ H6 ⟨r2,L6,Yr,NA,rfl,hr,m6,pw7,pl6,e6⟩
  have t6:=t5.ext e6 (fun z hz eA=>by have:=KN z hz;rcases eA with h|h;have:=m.slt z (.inl h);omega;omega)
  refine vs ?_
  refine⟨k,by omega,k,r2,L6,Yr,NA,rfl,by omega,m6,t6,e5.trans (e6.mono fun z _ h=>h.elim .inl fun h=>.inr (.inl h)),pw7,pl6,?_⟩
  rw[show((k+1:Nat):Int) - 1 - 1=(k:Int) - 1 by omega,wrap64 (by omega) (by omega)]
 ·obtain rfl:j=0:=by omega
  rw[List.take_zero,List.append_nil]at WL
  exact⟨r,L5,Yy,PZ,rfl,m5,pl5,WL,e5.mono fun z hz h=>h.elim .inl fun h=>.inr (by omega)⟩
end
end Go.Proofs.YtjlnnljohemifaaGreat

namespace Go.Proofs.YtjlnnljohemifaaGreat
open Go Go.Vc
structure LR(w:Nw)(L:List Lk)(tops:List Int)(ch:Int→List Int)(par:Int→Int):Prop where
 t:Tw (aH w) (aT w) ch par (br tops)
 pl:Jy (bi L) (bu L) ch par
 tl:tops.length=w.hs.length
def dH(n:Nat)(H:Hp)(S:Nat→Prop)(w:Nw):Prop:=∃ (B:PB) (C:Nat→Prop) (L:List Lk) (tops:List Int) (ch:Int→List Int) (par:Int→Int),B.n=n∧bQ H B C w L tops∧LR w L tops ch par∧∀z,S z↔B.S C z
theorem dH.slt{n:Nat}{H:Hp}{S:Nat→Prop}{w:Nw}(h:dH n H S w):∀z,S z→z<H.size:=by
 obtain⟨B,C,L,tops,ch,par,rfl,m,l,hS⟩:=h
 exact fun z hz=>m.slt z ((hS z).1 hz)
theorem dH.ext{n:Nat}{H H':Hp}{S V:Nat→Prop}{w:Nw}(h:dH n H S w)(e:ai V H H')(hd:∀z,S z→¬V z):dH n H' S w:=by
 obtain⟨B,C,L,tops,ch,par,rfl,m,l,hS⟩:=h
 exact⟨B,C,L,tops,ch,par,rfl,m.ext e (fun z hz=>hd z ((hS z).2 hz)),l,hS⟩
theorem Eh(cap:Int)(H:Hp):ah Tryz.prog HL [i64 cap] H fun v H'=>ax (
  ay H H'∧((¬ (0≤cap∧cap≤65536)∧v= .tuple [.pointer none,i64 31].toArray)∨
   ((0≤cap∧cap≤65536)∧∃n S,v= .tuple [ptr n,i64 0].toArray∧dH n H' S (Cw cap)∧∀x,S x→H.size≤x))):=by
 refine bc HW ⟨rfl,?_⟩
 refine v1 rI.eq_1 ?_
 refine(nM cap H).mono ?_
 rintro _ H1 ⟨f1,⟨hb,rfl⟩| ⟨hb,c,C,rfl,c1,hC⟩⟩
 ·refine vs ?_
  exact⟨f1,.inl ⟨hb,rfl⟩⟩
 refine v1 decide_true ?_
 refine⟨⟨by omega,by omega,by omega,by omega⟩,?_⟩
 refine vs ?_
 rw[OD]
 have zx:=c1.slt
 have z1:=f1.size
 have f3:ay H1 (((H1.new 265 (aP (List.replicate cap.toNat ⟨0,0,0⟩))).new 3 [Value.int .i64 (-1)]).new 263 [ptr c,.slice (some ⟨H1.size,0,none⟩) cap.toNat cap.toNat,.slice (some ⟨H1.size+1,0,none⟩) 1 1]):=(((ai.refl _ _).new _ _).new _ _).new _ _
 have e1:ai (fun _=>False) (H1.new 265 (aP (List.replicate cap.toNat ⟨0,0,0⟩))) (((H1.new 265 (aP (List.replicate cap.toNat ⟨0,0,0⟩))).new 3 [Value.int .i64 (-1)]).new 263 [ptr c,.slice (some ⟨H1.size,0,none⟩) cap.toNat cap.toNat,.slice (some ⟨H1.size+1,0,none⟩) 1 1]):=((ai.refl _ _).new _ _).new _ _
 have e2:ai (fun _=>False) ((H1.new 265 (aP (List.replicate cap.toNat ⟨0,0,0⟩))).new 3 [Value.int .i64 (-1)]) (((H1.new 265 (aP (List.replicate cap.toNat ⟨0,0,0⟩))).new 3 [Value.int .i64 (-1)]).new 263 [ptr c,.slice (some ⟨H1.size,0,none⟩) cap.toNat cap.toNat,.slice (some ⟨H1.size+1,0,none⟩) 1 1]):=(ai.refl _ _).new _ _
 obtain⟨B,hB⟩:∃B:PB,B=⟨H1.size+1+1,c,H1.size,H1.size+1⟩:=⟨_,rfl⟩
 have m0:bQ (((H1.new 265 (aP (List.replicate cap.toNat ⟨0,0,0⟩))).new 3 [Value.int .i64 (-1)]).new 263 [ptr c,.slice (some ⟨H1.size,0,none⟩) cap.toNat cap.toNat,.slice (some ⟨H1.size+1,0,none⟩) 1 1]) B C (Cw cap) (List.replicate cap.toNat ⟨0,0,0⟩) [-1]:=by
  subst hB
  refine⟨⟨.slice (some ⟨H1.size+1,0,none⟩) 1 1,?_,?_⟩,c1.fresh f3,?_,?_,?_,?_⟩
  ·rw[List.length_replicate]
   exact bC (by simp only[au])
  ·exact(Sl.dQ (size:=1) (n:=1) (xs:=[i64 (-1)]) rfl (by simp only[au])).ext e2 (fun _ _ h=>h)
  ·exact e1.own (aG _ _ _) (fun h=>h)
  ·simp[Cw]
  ·refine⟨?_,?_,?_⟩<;>simp only<;>omega
  ·refine⟨fun h=>?_,fun h=>?_,fun h=>?_⟩<;>(have h2:=zx _ h;first|omega| (simp only at h2;omega))
 have Fp:B.n=H1.size+1+1:=by rw[hB]
 have hBs:∀z,B.S C z→H1.size≤z∨C z:=fun z hz=>by
  rcases hz with hz|rfl|rfl|rfl
  ·exact .inr hz
  all_goals rw[hB];left;first|omega| (simp only;omega)
 have hBt:B.tb=H1.size:=by rw[hB]
 have ft:=f1.trans f3
 generalize ((H1.new 265 (aP (List.replicate cap.toNat ⟨0,0,0⟩))).new 3 [Value.int .i64 (-1)]).new 263 [ptr c,.slice (some ⟨H1.size,0,none⟩) cap.toNat cap.toNat,.slice (some ⟨H1.size+1,0,none⟩) 1 1]=H2 at*
 obtain⟨tv0,o0,_⟩:=m0.own
 rw[List.length_replicate,Fp]at o0
 refine bD.intro (fun m env H'=>∃j:Nat,m=cap.toNat - j∧j≤cap.toNat∧ai (fun z=>z=B.tb) H2 H'∧bQ H' B C (Cw cap) (List.replicate j me++List.replicate (cap.toNat - j) ⟨0,0,0⟩) [-1]∧
  env=[(6,ptr (H1.size+1+1)),(26,i64 (cap.toNat:Nat)),(27,i64 j)]) cap.toNat ⟨0,by omega,by omega,ai.refl _ _,by simpa using m0,rfl⟩ ?_
 rintro m env H3 ⟨j,rfl,hj,e3,m3,rfl⟩
 have pt:=kD (List.replicate j me++List.replicate (cap.toNat - j) (⟨0,0,0⟩:Lk))
 have vU:(List.replicate j me++List.replicate (cap.toNat - j) (⟨0,0,0⟩:Lk)).length=cap.toNat:=by simp;omega
 obtain⟨Yg,o3,_⟩:=m3.own
 rw[vU]at pt o3
 rw[Fp]at o3
 refine vs ?_
 refine am.dec (fun aR=>?_) (fun aR=>?_)<;>refine vs ?_
 ·refine v1 (ae o3) ?_
  refine⟨by omega,?_⟩
  refine v3 m3.fG Nat.zero_add Int.toNat_natCast ?_
  refine⟨by omega,?_⟩
  have q3:=Jc (L:=List.replicate j me++List.replicate (cap.toNat - j) (⟨0,0,0⟩:Lk)) (i:=j) (by omega) me
  have q4:(List.replicate j me++List.replicate (cap.toNat - j) (⟨0,0,0⟩:Lk)).set j me=List.replicate (j+1) me++List.replicate (cap.toNat - (j+1)) (⟨0,0,0⟩:Lk):=by
   rw[List.set_append_right _ _ (by simp),List.length_replicate,Nat.sub_self,show cap.toNat - j=(cap.toNat - (j+1))+1 by omega,List.replicate_succ,List.set_cons_zero,List.replicate_succ']
   simp
  rw[q4]at q3
  obtain⟨m4,e4⟩:=m3.OU (L':=List.replicate (j+1) me++List.replicate (cap.toNat - (j+1)) (⟨0,0,0⟩:Lk)) (by simp;omega)
  rw[show bq (aP (List.replicate j me++List.replicate (cap.toNat - j) (⟨0,0,0⟩:Lk))) (j*3) (aJ (Value.agg #[Value.int .i64 (-1),Value.int .i64 (-1),Value.int .i64 (-1)]))=_ from q3]
  refine vs ?_
  rw[wrap64 (n:=(j:Int)+1) (by omega) (by omega)]
  exact⟨cap.toNat - (j+1),by omega,j+1,rfl,by omega,e3.trans e4,m4,rfl⟩
 ·obtain rfl:j=cap.toNat:=by omega
  rw[Nat.sub_self,List.replicate_zero,List.append_nil]at m3
  rw[←Fp]
  refine⟨ft.then e3 (fun z hz=>by omega),.inr ⟨hb,B.n,B.S C,rfl,⟨B,C,_,[-1],fun _=>[],fun _=> -1,rfl,m3,⟨⟨⟨rfl,fun x c hc=>absurd hc (by simp),fun c x h hx=>absurd (Eq.symm h) hx,fun x=>List.nodup_nil⟩,
   ⟨fun x p h hp=>absurd (Eq.symm h) hp,fun g hg=>absurd (DZ g) hg,fun x hx=>absurd hx (nP cap x)⟩⟩,⟨fun x=>Cv _ _ _,fun x=>trivial,fun c _=>⟨Cv _ _ _,GD _ _⟩⟩,rfl⟩,fun z=>Iff.rfl⟩,fun z hz=>?_⟩⟩
  rcases hBs z hz with h|h
  ·omega
  ·exact hC z h
theorem CM{n:Nat}{H:Hp}{S:Nat→Prop}{w:Nw}(h:dH n H S w):ah Tryz.prog oS [ptr n] H fun v H'=>ax (
  (w.hs.length=65537∧v=i64 0∧cD (dH n) S H H' w)∨(w.hs.length≠65537∧v=i64 w.hs.length∧cD (dH n) S H H' w.make)):=by
 obtain⟨B,C,L,tops,ch,par,rfl,m,l,hS⟩:=id h
 obtain⟨tv,ho,Hv⟩:=m.own
 refine bc yV ⟨rfl,?_⟩
 refine v2 iN.eq_1 (ae ho) ?_
 refine(lN m.cells).mono ?_
 rintro _ H1 (⟨h1,rfl,rfl⟩| ⟨h1,rfl,C',c1,e1,AX⟩)
 ·refine vs ?_
  exact .inl ⟨h1,rfl,cD.same h (ai.refl _ _)⟩
 have iw:=m.cells.pos
 have hhs:=m.cells.Hv
 have ME:=l.tl
 have slt:=m.slt
 have LH:=c1.slt
 obtain⟨n1,n2,n3⟩:=m.out
 obtain⟨d1,d2,d3⟩:=m.qM
 have o1:=e1.own ho n1
 refine vs ?_
 refine am.cj (decide_eq_true (by omega)) ?_
 refine v1 (ae o1) ?_
 have s1:=Hv.ext e1 (fun b hb=>by injection hb with hb;exact hb▸n3)
 refine Rz s1 (-1) (by omega) fun w' H2 b' vY s2 e2=>?_
 have o2:=e2.own o1 d2
 obtain⟨wa,wc,OJ⟩:=Sl.shape s2
 subst OJ
 refine v1 o2 ?_
 generalize OJ:Value.slice wa (tops++[-1]).length wc=w' at*
 have e3:ai (fun z=>z=B.n) H2 (H2.wr B.n [ptr B.c,.slice (some ⟨B.tb,0,none⟩) L.length L.length,w']):=(ai.refl (fun z=>z=B.n) _).wr (fun _=>rfl) _
 have z1:=e1.size
 have hn:=slt _ (.inr (.inl rfl))
 have ht:=slt _ (.inr (.inr (.inl rfl)))
 have htp:=slt _ (.inr (.inr (.inr rfl)))
 have GF:∀z,C' z→z≠b'∧(z<H.size→C z):=fun z hz=>by
  have h5:=LH z hz
  rcases AX z hz with h6|h6
  ·refine⟨fun e=>?_,fun _=>h6⟩
   rcases vY with h7|h7
   ·exact n3 (by rw[←h7,←e];exact h6)
   ·omega
  ·exact⟨by omega,fun h=>by omega⟩
 refine .inr ⟨h1,rfl,(PB.mk B.n B.c B.tb b').S C',⟨⟨B.n,B.c,B.tb,b'⟩,C',L,tops++[-1],ch,par,rfl,⟨⟨w',aj o2,s2.ext e3 (fun b hb=>by injection hb with hb;omega)⟩,?_,?_,m.len,?_,?_⟩,⟨by rw[Cq];exact l.t,l.pl,?_⟩,fun z=>Iff.rfl⟩,?_,fun z hz=>?_⟩
 ·exact(c1.ext e2 (fun x hx e=>by
   rcases AX x hx with h6|h6
   ·exact n3 (e▸h6)
   ·omega)).ext e3 (fun x hx e=>by
   rcases AX x hx with h6|h6
   ·exact n1 (e▸h6)
   ·omega)
 ·exact e3.own (e2.own (e1.own m.fG n2) d3) (Ne.symm d1)
 ·refine⟨d1,?_,?_⟩<;>simp only<;>omega
 ·exact⟨fun h=>n1 ((GF _ h).2 hn),fun h=>n2 ((GF _ h).2 ht),fun h=>(GF _ h).1 rfl⟩
 ·simp[Nw.make,ME]
 ·exact((e1.mono fun z _ h=>(hS z).2 (.inl h)).trans (e2.mono fun z _ h=>(hS z).2 (.inr (.inr (.inr h))))).trans (e3.mono fun z _ h=>(hS z).2 (.inr (.inl h)))
 ·rcases hz with hz|rfl|rfl|rfl
  ·rcases AX z hz with h6|h6
   ·exact .inl ((hS z).2 (.inl h6))
   ·exact .inr h6
  ·exact .inl ((hS _).2 (.inr (.inl rfl)))
  ·exact .inl ((hS _).2 (.inr (.inr (.inl rfl))))
  ·rcases vY with rfl|h7
   ·exact .inl ((hS _).2 (.inr (.inr (.inr rfl))))
   ·exact .inr (by first|omega| (simp only;omega))
theorem LR.first{w:Nw}{L:List Lk}{tops:List Int}{ch:Int→List Int}{par:Int→Int}(l:LR w L tops ch par){g x:Int}(h:w.first g x):br tops g=x:=by
 obtain⟨h1,h2,h3⟩:=bN.1 h
 have:=l.t.tp.first (x:=x) (by omega) (fun y hy aS=>h3 y (by omega) aS) (aq w)
 rwa[h2]at this
theorem tn{n:Nat}{H:Hp}{S:Nat→Prop}{w:Nw}(h:dH n H S w)(g:Int):ah Tryz.prog pS [ptr n,i64 g] H fun v H'=>ax (
  ((w.len g=0∧v= .tuple [i64 0,.bool false].toArray)∨∃x,w.first g x∧v= .tuple [i64 x,.bool true].toArray)∧H'=H):=by
 obtain⟨B,C,L,tops,ch,par,rfl,m,l,hS⟩:=h
 obtain⟨cc,lt,ho,q2,Bn,xM,MF⟩:=m.hG
 refine bc AG ⟨rfl,?_⟩
 refine v2 jO.eq_1 (ae ho) ?_
 refine(xf m.cells g).mono ?_
 rintro _ _ ⟨rfl,rfl⟩
 refine vs ?_
 refine am.dec (fun h0=>?_) (fun h0=>?_)
 ·refine vs ?_
  exact⟨.inl ⟨h0,rfl⟩,rfl⟩
 have hg:0<g:=Classical.byContradiction fun hg=>h0 (Nw.Ir.2 (.inl (by omega)))
 obtain⟨x,hx⟩:=xe hg h0
 have hh:=(bN.1 hx).2.1
 have dv:=((m.cells.hm x).2 (by omega)).2
 rw[hh,←l.tl]at dv
 have q3:=m.fA q2 (dW (tops:=tops) (h:=g) (by omega) dv)
 rw[l.first hx]at q3
 refine v1 (ae ho) ?_
 refine⟨⟨by omega,by omega⟩,?_⟩
 refine v4 (ae q2) Nat.zero_add Nat.mul_one q3 ?_
 exact⟨.inr ⟨x,hx,rfl⟩,rfl⟩
set_option maxRecDepth 100000 in
theorem zr{n:Nat}{H:Hp}{S:Nat→Prop}{w:Nw}(h:dH n H S w)(g x k s:Int):ah Tryz.prog mi [ptr n,i64 g,i64 x,vN k s] H fun v H'=>ax (
  (¬w.oG g x∧v= .bool false∧cD (dH n) S H H' w)∨(w.oG g x∧v= .bool true∧cD (dH n) S H H' (w.put x (g,k,s)))):=by
 obtain⟨B,C,L,tops,ch,par,rfl,m,l,hS⟩:=h
 have hC:∀z,C z→S z:=fun z h=>(hS z).2 (.inl h)
 have t1:S B.tb:=(hS _).2 (.inr (.inr (.inl rfl)))
 have t2:S B.tp:=(hS _).2 (.inr (.inr (.inr rfl)))
 refine bc vD ⟨rfl,?_⟩
 refine v1 mr.eq_1 ?_
 have f0:ay H (H.new 224 [i64 k,u64 s]):=(ai.refl _ _).new _ _
 have b0:(H.new 224 [i64 k,u64 s]).own H.size=some [i64 k,u64 s]:=aG _ _ _
 have m0:=m.fresh f0
 generalize H.new 224 [i64 k,u64 s]=H0 at*
 have ff:ai S H H0:=f0.mono fun _ _ h=>h.elim
 obtain⟨tv,J0,_⟩:=m0.own
 refine v2 (ae J0) (ae b0) ?_
 refine(nL m0.cells g x k s).mono ?_
 rintro _ H1 (⟨cw,rfl,c1,e1⟩| ⟨th,rfl,c1,e1⟩)
 ·refine vs ?_
  exact .inl ⟨cw,rfl,cD.same ⟨B,C,L,tops,ch,par,rfl,m0.aK c1 e1 rfl,l,hS⟩ (ff.trans (e1.mono fun z _ hz=>hC z hz))⟩
 obtain⟨hh,hx,bS⟩:=id th
 have m2:=m0.aK c1 e1 (by simp[Nw.put])
 have hg:=hh.1
 have dv:g<tops.length:=by
  have:=(List.getElem?_eq_some_iff.1 hh.2).1
  have:=l.tl
  omega
 have cU:=fun y=>eD hx (g,k,s) y
 have bo:Tb (aH (w.put x (g,k,s))) (aT (w.put x (g,k,s))) ch par (br tops) g x:=by
  refine l.t.ins rfl (Int.not_lt.1 fun h=>bS (bJ.1 h)) (by omega) (by omega) (by rw[cU,if_pos rfl]) (fun y hy=>by rw[cU,if_neg hy]) (fun a b ha hb tE oY=>dE hx _ ha hb tE oY)
 obtain⟨cc,lt,o2,q2,Bn,xM,MF⟩:=m2.hG
 have q3:=m2.fA q2 (dW (tops:=tops) (h:=g) (by omega) dv)
 refine vs ?_
 refine rV.intro (fun H'=>H'.own B.n=some [ptr B.c,.slice (some ⟨B.tb,0,none⟩) L.length L.length,.slice (some ⟨B.tp,0,none⟩) tops.length cc]) o2 ?_
 refine vs ?_
 refine rW.intro (.slice (some ⟨B.tp,0,none⟩) tops.length cc) (fun H' hI=>by refine v1 (ae hI) ?_;trivial) ?_
 refine v1 (ae o2) ?_
 refine And.intro o2 ?_
 refine vs ?_
 refine⟨⟨by omega,by omega⟩,?_⟩
 refine v4 (ae q2) Nat.zero_add Nat.mul_one q3 ?_
 refine And.intro o2 ?_
 refine vs ?_
 have bw:=bo.w
 rw[show ws [br tops g,x]=ws [br tops g,x]++[] by simp]at bw
 refine(df m2 bw l.pl).mono ?_
 rintro _ H3 ⟨r,L3,MG,r9,rfl,_,m3,w3,p3,e3⟩
 rw[List.append_nil]at w3
 have bn:=bo.done w3
 obtain⟨d1,d2,d3⟩:=m2.qM
 have no:¬ (C B.n∨B.n=B.tb):=by rintro(h|h);exact m2.out.1 h;omega
 refine And.intro (e3.own o2 no) ?_
 have q4:=e3.own q2 (by rintro(h|h);exact m2.out.2.2 h;omega)
 refine vs ?_
 refine⟨⟨by omega,by omega⟩,?_⟩
 refine v3 q4 Nat.zero_add Nat.mul_one ?_
 refine⟨by omega,?_⟩
 obtain⟨m4,e4⟩:=m3.nO q4 g.toNat r
 refine And.intro (e4.own (e3.own o2 no) d2) ?_
 refine vs ?_
 refine .inr ⟨th,rfl,cD.same ⟨B,C,L3,_,MG,r9,rfl,m4,⟨?_,p3,by rw[List.length_set];exact l.tl⟩,hS⟩ (((ff.trans (e1.mono fun z _ h=>hC z h)).trans (e3.mono fun z _ h=>by rcases h with h|rfl;exact hC z h;exact t1)).trans (e4.mono fun z _ h=>h▸t2))⟩
 rw[eU (by omega) dv]
 exact bn
theorem LR.below{w:Nw}{L:List Lk}{tops:List Int}{ch:Int→List Int}{par:Int→Int}(l:LR w L tops ch par){x:Int}(hx:0<aH w x)(ht:br tops (aH w x)≠x):∃p l1 l2,ch p=l1++x::l2:=by
 have hp:par x≠ -1:=fun h=>ht (l.t.tp.t2 x hx h)
 obtain⟨l1,l2,h⟩:=List.append_of_mem (l.t.pr.up x _ rfl hp)
 exact⟨par x,l1,l2,h⟩
set_option maxRecDepth 100000 in
theorem vS{n:Nat}{H:Hp}{S:Nat→Prop}{w:Nw}(h:dH n H S w)(x k s:Int):ah Tryz.prog j8 [ptr n,i64 x,vN k s] H fun v H'=>ax (
  (¬w.da x k s∧v= .bool false∧cD (dH n) S H H' w)∨(w.da x k s∧v= .bool true∧∃y,w.cs[x.toNat]? =some y∧cD (dH n) S H H' (w.put x (y.1,k,s)))):=by
 obtain⟨B,C,L,tops,ch,par,rfl,m,l,hS⟩:=h
 have hC:∀z,C z→S z:=fun z h=>(hS z).2 (.inl h)
 have t1:S B.tb:=(hS _).2 (.inr (.inr (.inl rfl)))
 have t2:S B.tp:=(hS _).2 (.inr (.inr (.inr rfl)))
 refine bc sQ ⟨rfl,?_⟩
 refine v1 kg.eq_1 ?_
 have f0:ay H (H.new 224 [i64 k,u64 s]):=(ai.refl _ _).new _ _
 have b0:(H.new 224 [i64 k,u64 s]).own H.size=some [i64 k,u64 s]:=aG _ _ _
 have m0:=m.fresh f0
 generalize H.new 224 [i64 k,u64 s]=H0 at*
 have ff:ai S H H0:=f0.mono fun _ _ h=>h.elim
 obtain⟨tv,J0,_⟩:=m0.own
 refine v2 (ae J0) (ae b0) ?_
 refine(jh m0.cells x k s).mono ?_
 rintro _ H1 (⟨cw,rfl,c1,e1⟩| ⟨bS,rfl,y,hy,gm,c1,e1⟩)
 ·refine vs ?_
  exact .inl ⟨cw,rfl,cD.same ⟨B,C,L,tops,ch,par,rfl,m0.ext e1 (fun _ _ h=>h),l,hS⟩ (ff.trans (e1.mono fun _ _ h=>h.elim))⟩
 have qV:(w.put x (y.1,k,s)).cs.length=w.cs.length:=by simp[Nw.put]
 have m1:=m0.aK c1 e1 qV
 have Cy:w.da x k s:=⟨bS,fun z hz=>by rw[hy]at hz;injection hz with hz;rw[←hz];exact gm⟩
 have hx:0≤x∧x<w.cs.length:=⟨bS.1,by have:=(List.getElem?_eq_some_iff.1 hy).1;have:=bS.1;omega⟩
 have QH:aH w x=y.1:=mT bS.1 hy
 have ec:=bJ.2 bS
 have hw:aH (w.put x (y.1,k,s))=aH w:=by
  funext z
  rw[eD hx]
  split
  ·rename_i e;rw[e,QH]
  ·rfl
 have Ft:cY (w.put x (y.1,k,s)).cs x:=bJ.1 (by rw[hw];exact ec)
 obtain⟨DU,o1,_⟩:=m1.own
 refine v1 (ae o1) ?_
 refine(dm m1.cells x).mono ?_
 rintro _ H2 (⟨cw,_,_⟩| ⟨_,rfl,c2,e2⟩)
 ·exact absurd Ft cw
 have m2:=m1.aK c2 e2 rfl
 have sA:ai S H H2:=(ff.trans (e1.mono fun z _ h=>hC z h)).trans (e2.mono fun z _ h=>hC z h)
 have el:∀a b,0<aH w a→0<aH w b→a≠x→b≠x→aT (w.put x (y.1,k,s)) a b=aT w a b:=fun a b ha hb tE oY=>dE hx _ ha hb tE oY
 have ex:∀b,0<aH w b→b≠x→aT w x b=true→aT (w.put x (y.1,k,s)) x b=true:=fun b hb oY h=>Cp bS hy gm hb oY h
 have dv:aH w x<tops.length:=by
  have:=((m.cells.hm x).2 ec).2
  have:=l.tl
  omega
 obtain⟨cc,lt,o2,q2,Bn,xM,MF⟩:=m2.hG
 have q3:=m2.fA q2 (dW (tops:=tops) (h:=aH w x) (by omega) dv)
 rw[hw]
 refine v1 (ae o2) ?_
 refine⟨⟨by omega,by omega⟩,?_⟩
 refine v4 (ae q2) Nat.zero_add Nat.mul_one q3 ?_
 refine am.dec (fun gt=>?_) (fun gt=>?_)<;>refine vs ?_
 ·have hu:par x= -1:=by
   have:=(l.t.tp.t1 (aH w x) (by rw[gt];omega)).2.2
   rwa[gt]at this
  refine .inr ⟨Cy,rfl,y,hy,cD.same ⟨B,C,L,tops,ch,par,rfl,m2,⟨?_,l.pl,l.tl⟩,hS⟩ sA⟩
  rw[hw]
  exact l.t.Tt hu el ex
 obtain⟨p,l1,l2,hp⟩:=l.below ec gt
 have po:=(l.t.off hp).low el ex
 refine(tm m2 (aq w) (by rw[hw];exact l.t.pr) l.pl hp).mono ?_
 rintro _ H4 ⟨L4,m4,p4,e4⟩
 have Bo:ai S H H4:=sA.trans (e4.mono fun z _ h=>h▸t1)
 rw[←hw]at po
 have dv:aH (w.put x (y.1,k,s)) x<tops.length:=by rw[hw];exact dv
 have RQ:=po.g0
 refine vs ?_
 generalize hg:aH (w.put x (y.1,k,s)) x=g at*
 rw[←hw,hg]
 obtain⟨cc,lt,o4,q2,Bn,xM,MF⟩:=m4.hG
 have q3:=m4.fA q2 (dW (tops:=tops) (h:=g) (by omega) dv)
 refine rV.intro (fun H'=>H'.own B.n=some [ptr B.c,.slice (some ⟨B.tb,0,none⟩) L4.length L4.length,.slice (some ⟨B.tp,0,none⟩) tops.length cc]) o4 ?_
 refine vs ?_
 refine rW.intro (.slice (some ⟨B.tp,0,none⟩) tops.length cc) (fun H' hI=>by refine v1 (ae hI) ?_;trivial) ?_
 refine v1 (ae o4) ?_
 refine And.intro o4 ?_
 refine vs ?_
 refine⟨⟨by omega,by omega⟩,?_⟩
 refine v4 (ae q2) Nat.zero_add Nat.mul_one q3 ?_
 refine And.intro o4 ?_
 refine vs ?_
 have bw:=po.w
 rw[show ws [br tops g,x]=ws [br tops g,x]++[] by simp]at bw
 refine(df m4 bw p4).mono ?_
 rintro _ H5 ⟨r,L5,Yy,PZ,rfl,_,m5,w5,p5,e5⟩
 rw[List.append_nil]at w5
 have bn:=po.done w5
 obtain⟨d1,d2,d3⟩:=m4.qM
 have no:¬ (C B.n∨B.n=B.tb):=by rintro(h|h);exact m4.out.1 h;omega
 refine And.intro (e5.own o4 no) ?_
 have q4:=e5.own q2 (by rintro(h|h);exact m4.out.2.2 h;omega)
 refine vs ?_
 refine⟨⟨by omega,by omega⟩,?_⟩
 refine v3 q4 Nat.zero_add Nat.mul_one ?_
 refine⟨by omega,?_⟩
 obtain⟨m6,e6⟩:=m5.nO q4 g.toNat r
 refine And.intro (e6.own (e5.own o4 no) d2) ?_
 refine vs ?_
 refine .inr ⟨Cy,rfl,y,hy,cD.same ⟨B,C,L5,_,Yy,PZ,rfl,m6,⟨?_,p5,by rw[List.length_set];exact l.tl⟩,hS⟩ ((Bo.trans (e5.mono fun z _ h=>by rcases h with h|rfl;exact hC z h;exact t1)).trans (e6.mono fun z _ h=>h▸t2))⟩
 rw[eU (by omega) dv]
 exact bn
set_option maxRecDepth 100000 in
set_option maxHeartbeats 1000000 in
theorem zt{n:Nat}{H:Hp}{S:Nat→Prop}{w:Nw}(h:dH n H S w)(x:Int):ah Tryz.prog vq [ptr n,i64 x] H fun v H'=>ax (
  (¬cY w.cs x∧v= .bool false∧cD (dH n) S H H' w)∨(cY w.cs x∧v= .bool true∧cD (dH n) S H H' (w.put x (0,0,0)))):=by
 obtain⟨B,C,L,tops,ch,par,rfl,m,l,hS⟩:=id h
 have hC:∀z,C z→S z:=fun z h=>(hS z).2 (.inl h)
 have t1:S B.tb:=(hS _).2 (.inr (.inr (.inl rfl)))
 have t2:S B.tp:=(hS _).2 (.inr (.inr (.inr rfl)))
 obtain⟨tv,o0,_⟩:=m.own
 refine bc vC ⟨rfl,?_⟩
 refine v2 mq.eq_1 (ae o0) ?_
 refine(dm m.cells x).mono ?_
 rintro _ H1 (⟨cw,rfl,rfl⟩| ⟨bS,rfl,c1,e1⟩)
 ·refine vs ?_
  exact .inl ⟨cw,rfl,cD.same h (ai.refl _ _)⟩
 have m1:=m.aK c1 e1 rfl
 have ec:=bJ.2 bS
 obtain⟨ie,j5,_⟩:=aF ec
 have FI:x≠ -1:=by omega
 have ls:=aq w
 have cU:=fun y=>eD (w:=w) ⟨ie,j5⟩ (0,0,0) y
 have p0:aH (w.put x (0,0,0)) (-1)=0:=rfl
 have p1:aH (w.put x (0,0,0)) x=0:=by rw[cU,if_pos rfl]
 have p2:∀y,y≠x→aH (w.put x (0,0,0)) y=aH w y:=fun y hy=>by rw[cU,if_neg hy]
 have el:∀a b,0<aH w a→0<aH w b→a≠x→b≠x→aT (w.put x (0,0,0)) a b=aT w a b:=fun a b ha hb tE oY=>dE ⟨ie,j5⟩ _ ha hb tE oY
 have qV:(w.put x (0,0,0)).cs.length=w.cs.length:=by simp[Nw.put]
 have dv:aH w x<tops.length:=by
  have:=((m.cells.hm x).2 ec).2
  have:=l.tl
  omega
 have e11:ai S H H1:=e1.mono fun z _ h=>hC z h
 obtain⟨cc,lt,o1,q2,Bn,xM,MF⟩:=m1.hG
 have q3:=m1.fA q2 (dW (tops:=tops) (h:=aH w x) (by omega) dv)
 obtain⟨d1,d2,d3⟩:=m1.qM
 have no:¬ (C B.n∨B.n=B.tb):=by rintro(h|h);exact m1.out.1 h;omega
 have no2:¬ (C B.tp∨B.tp=B.tb):=by rintro(h|h);exact m1.out.2.2 h;omega
 refine v1 (ae o1) ?_
 refine⟨⟨by omega,by omega⟩,?_⟩
 refine v4 (ae q2) Nat.zero_add Nat.mul_one q3 ?_
 refine am.dec (fun gt=>?_) (fun gt=>?_)<;>refine vs ?_
 ·have hu:par x= -1:=by
   have:=(l.t.tp.t1 (aH w x) (by rw[gt];omega)).2.2
   rwa[gt]at this
  refine rV.intro (fun H'=>H'.own B.n=some [ptr B.c,.slice (some ⟨B.tb,0,none⟩) L.length L.length,.slice (some ⟨B.tp,0,none⟩) tops.length cc]) o1 ?_
  refine vs ?_
  refine rW.intro (.slice (some ⟨B.tp,0,none⟩) tops.length cc) (fun H' hI=>by refine v1 (ae hI) ?_;trivial) ?_
  refine vs ?_
  refine(lT m1 l.t.pr l.pl ec).mono ?_
  rintro _ H2 ⟨r,L2,n7,lS,rfl,m2,pl2,w2,e2⟩
  refine And.intro (e2.own o1 no) ?_
  have q4:=e2.own q2 no2
  refine vs ?_
  refine⟨⟨by omega,by omega⟩,?_⟩
  refine v3 q4 Nat.zero_add Nat.mul_one ?_
  refine⟨by omega,?_⟩
  obtain⟨m3,e3⟩:=m2.nO q4 (aH w x).toNat r
  refine And.intro (e3.own (e2.own o1 no) d2) ?_
  obtain⟨Yg,o3,_⟩:=m3.own
  refine v1 (ae o3) ?_
  refine(ck m3.cells x).mono ?_
  rintro _ H4 (⟨cw,_,_⟩| ⟨_,rfl,c4,e4⟩)
  ·exact absurd bS cw
  have m4:=m3.aK c4 e4 qV
  refine vs ?_
  have w3:=w2.drop (x:=x) ⟨ec,hu⟩ (by rw[w2.fr x ⟨ec,hu⟩];unfold aA;rw[if_pos rfl]) ((w2.lX x ec).2 (.inr ⟨ec,hu⟩)) p0 p1 p2 el
  refine .inr ⟨bS,rfl,cD.same ⟨B,C,L2,_,n7,lS,rfl,m4,⟨?_,pl2,by rw[List.length_set];exact l.tl⟩,hS⟩ (((e11.trans (e2.mono fun z _ h=>by rcases h with h|rfl;exact hC z h;exact t1)).trans (e3.mono fun z _ h=>h▸t2)).trans (e4.mono fun z _ h=>hC z h))⟩
  rw[eU (by omega) dv]
  refine⟨w3.pr,w3.done (fun h aS hh=>?_) (fun y hy=>?_)⟩
  ·obtain⟨g1,g2,g3⟩:=l.t.tp.t1 h hh
   have hn:br tops h≠x:=fun e=>aS (by rw[←g1,e])
   exact⟨by rw[p2 _ hn];exact g1,g2,⟨by omega,g3⟩,hn⟩
  ·have h5:=l.t.tp.t2 y hy.1.1 hy.1.2
   rw[p2 _ hy.2]
   exact⟨fun e=>by rw[e,gt]at h5;exact hy.2 h5.symm,h5⟩
 obtain⟨p,l1,l2,hp⟩:=l.below ec gt
 have po:=l.t.off hp
 refine(tm m1 ls l.t.pr l.pl hp).mono ?_
 rintro _ H2 ⟨L2,m2,pl2,e2⟩
 have sA:ai S H H2:=e11.trans (e2.mono fun z _ h=>h▸t1)
 have hu:=po.ox.2.2
 obtain⟨cc,lt,o2,q2,Bn,xM,MF⟩:=m2.hG
 have q3:=m2.fA q2 (dW (tops:=tops) (h:=aH w x) (by omega) dv)
 refine vs ?_
 refine rV.intro (fun H'=>H'.own B.n=some [ptr B.c,.slice (some ⟨B.tb,0,none⟩) L2.length L2.length,.slice (some ⟨B.tp,0,none⟩) tops.length cc]) o2 ?_
 refine vs ?_
 refine rW.intro (.slice (some ⟨B.tp,0,none⟩) tops.length cc) (fun H' hI=>by refine v1 (ae hI) ?_;trivial) ?_
 refine vs ?_
 refine rW.intro (.slice (some ⟨B.tp,0,none⟩) tops.length cc) (fun H' hI=>by refine v1 (ae hI) ?_;trivial) ?_
 refine vs ?_
 refine⟨⟨by omega,by omega⟩,?_⟩
 refine vs ?_
 refine Jd.intro ?_ ?_
 ·refine v4 (ae q2) Nat.zero_add Nat.mul_one q3 ?_
  refine And.intro o2 ?_
  refine vs ?_
  refine(lT m2 po.pr pl2 ec).mono ?_
  rintro _ H3 ⟨r,L3,MG,r9,rfl,m3,Tl,w3,e3⟩
  refine And.intro (e3.own o2 no) ?_
  have q4:=e3.own q2 no2
  refine vs ?_
  have w4:=w3.cG (t:=br tops (aH w x)) (fun hh=>by
   obtain⟨g1,g2,g3⟩:=po.t1 _ hh
   exact⟨⟨by omega,g3⟩,g1⟩)
  rw[←ph,show ws [br tops (aH w x),r]=ws [br tops (aH w x),r]++[] by simp]at w4
  refine(df m3 w4 Tl).mono ?_
  rintro _ H4 ⟨r2,L4,Ub,Kc,rfl,_,m4,w5,WK,e4⟩
  rw[List.append_nil]at w5
  refine And.intro (e4.own (e3.own o2 no) no) ?_
  have q5:=e4.own q4 no2
  refine vs ?_
  refine⟨⟨by omega,by omega⟩,?_⟩
  refine v3 q5 Nat.zero_add Nat.mul_one ?_
  refine⟨by omega,?_⟩
  obtain⟨m5,e5⟩:=m4.nO q5 (aH w x).toNat r2
  refine And.intro (e5.own (e4.own (e3.own o2 no) no) d2) ?_
  obtain⟨tv5,o5,_⟩:=m5.own
  refine v1 (ae o5) ?_
  refine(ck m5.cells x).mono ?_
  rintro _ H6 (⟨cw,_,_⟩| ⟨_,rfl,c6,e6⟩)
  ·exact absurd bS cw
  have m6:=m5.aK c6 e6 qV
  refine vs ?_
  have hR:(0<aH w x∧aI par x (-1) x= -1)∧x≠br tops (aH w x):=⟨⟨ec,hu⟩,fun e=>po.nx e.symm⟩
  have jb:aA (aA ch p (l1++l2)) x [] x=[]:=by unfold aA;rw[if_pos rfl]
  have w6:=w5.drop (x:=x) hR (by rw[w5.fr x hR];exact jb) ((w5.lX x ec).2 (.inr hR)) p0 p1 p2 el
  refine .inr ⟨bS,rfl,cD.same ⟨B,C,L4,_,Ub,Kc,rfl,m6,⟨?_,WK,by rw[List.length_set];exact l.tl⟩,hS⟩ ((((sA.trans (e3.mono fun z _ h=>by rcases h with h|rfl;exact hC z h;exact t1)).trans (e4.mono fun z _ h=>by rcases h with h|rfl;exact hC z h;exact t1)).trans (e5.mono fun z _ h=>h▸t2)).trans (e6.mono fun z _ h=>hC z h))⟩
  rw[eU (by omega) dv]
  refine⟨w6.pr,w6.done (fun h aS hh=>?_) (fun y hy=>?_)⟩
  ·obtain⟨g1,g2,g3⟩:=po.t1 h hh
   have hn:br tops h≠x:=fun e=>aS (by rw[←g1,e])
   have By:br tops h≠br tops (aH w x):=fun e=>by
    by_cases h4:br tops (aH w x)= -1
    ·rw[e]at hh;exact hh h4
    ·have:=(po.t1 _ h4).1
     rw[←e,g1]at this
     exact aS this
   exact⟨by rw[p2 _ hn];exact g1,g2,⟨⟨by omega,g3⟩,By⟩,hn⟩
  ·have h5:=po.t2 y hy.1.1.1 hy.1.1.2 hy.2
   rw[p2 _ hy.2]
   exact⟨fun e=>by rw[e]at h5;exact hy.1.2 h5.symm,h5⟩
 ·refine vs ?_
  refine(lT m2 po.pr pl2 ec).mono ?_
  rintro _ H3 ⟨r,L3,MG,r9,rfl,m3,Tl,w3,e3⟩
  refine And.intro (e3.own o2 no) ?_
  have q4:=e3.own q2 no2
  refine vs ?_
  have q6:=m3.fA q4 (dW (tops:=tops) (h:=aH w x) (by omega) dv)
  refine v4 (ae q4) Nat.zero_add Nat.mul_one q6 ?_
  refine And.intro (e3.own o2 no) ?_
  refine vs ?_
  have w4:=w3.cG (t:=br tops (aH w x)) (fun hh=>by
   obtain⟨g1,g2,g3⟩:=po.t1 _ hh
   exact⟨⟨by omega,g3⟩,g1⟩)
  rw[←ph,show ws [br tops (aH w x),r]=ws [br tops (aH w x),r]++[] by simp]at w4
  refine(df m3 w4 Tl).mono ?_
  rintro _ H4 ⟨r2,L4,Ub,Kc,rfl,_,m4,w5,WK,e4⟩
  rw[List.append_nil]at w5
  refine And.intro (e4.own (e3.own o2 no) no) ?_
  have q5:=e4.own q4 no2
  refine vs ?_
  refine⟨⟨by omega,by omega⟩,?_⟩
  refine v3 q5 Nat.zero_add Nat.mul_one ?_
  refine⟨by omega,?_⟩
  obtain⟨m5,e5⟩:=m4.nO q5 (aH w x).toNat r2
  refine And.intro (e5.own (e4.own (e3.own o2 no) no) d2) ?_
  obtain⟨tv5,o5,_⟩:=m5.own
  refine v1 (ae o5) ?_
  refine(ck m5.cells x).mono ?_
  rintro _ H6 (⟨cw,_,_⟩| ⟨_,rfl,c6,e6⟩)
  ·exact absurd bS cw
  have m6:=m5.aK c6 e6 qV
  refine vs ?_
  have hR:(0<aH w x∧aI par x (-1) x= -1)∧x≠br tops (aH w x):=⟨⟨ec,hu⟩,fun e=>po.nx e.symm⟩
  have jb:aA (aA ch p (l1++l2)) x [] x=[]:=by unfold aA;rw[if_pos rfl]
  have w6:=w5.drop (x:=x) hR (by rw[w5.fr x hR];exact jb) ((w5.lX x ec).2 (.inr hR)) p0 p1 p2 el
  refine .inr ⟨bS,rfl,cD.same ⟨B,C,L4,_,Ub,Kc,rfl,m6,⟨?_,WK,by rw[List.length_set];exact l.tl⟩,hS⟩ ((((sA.trans (e3.mono fun z _ h=>by rcases h with h|rfl;exact hC z h;exact t1)).trans (e4.mono fun z _ h=>by rcases h with h|rfl;exact hC z h;exact t1)).trans (e5.mono fun z _ h=>h▸t2)).trans (e6.mono fun z _ h=>hC z h))⟩
  rw[eU (by omega) dv]
  refine⟨w6.pr,w6.done (fun h aS hh=>?_) (fun y hy=>?_)⟩
  ·obtain⟨g1,g2,g3⟩:=po.t1 h hh
   have hn:br tops h≠x:=fun e=>aS (by rw[←g1,e])
   have By:br tops h≠br tops (aH w x):=fun e=>by
    by_cases h4:br tops (aH w x)= -1
    ·rw[e]at hh;exact hh h4
    ·have:=(po.t1 _ h4).1
     rw[←e,g1]at this
     exact aS this
   exact⟨by rw[p2 _ hn];exact g1,g2,⟨⟨by omega,g3⟩,By⟩,hn⟩
  ·have h5:=po.t2 y hy.1.1.1 hy.1.1.2 hy.2
   rw[p2 _ hy.2]
   exact⟨fun e=>by rw[e]at h5;exact hy.1.2 h5.symm,h5⟩
theorem xA{n:Nat}{H:Hp}{S:Nat→Prop}{w:Nw}(h:dH n H S w)(g:Int):ah Tryz.prog kV [ptr n,i64 g] H fun v H'=>ax (
  (w.len g=0∧v= .tuple [i64 0,.bool false].toArray∧cD (dH n) S H H' w)∨(∃x,w.first g x∧v= .tuple [i64 x,.bool true].toArray∧cD (dH n) S H H' (w.put x (0,0,0)))):=by
 refine bc tZ ⟨rfl,?_⟩
 refine v1 fu.eq_1 ?_
 refine(tn h g).mono ?_
 rintro _ _ ⟨⟨h0,rfl⟩| ⟨x,hx,rfl⟩,rfl⟩
 ·refine vs ?_
  exact .inl ⟨h0,rfl,cD.same h (ai.refl _ _)⟩
 ·refine vs ?_
  refine(zt h x).mono ?_
  rintro _ H1 (⟨cw,_,_⟩| ⟨_,rfl,h1⟩)
  ·exact absurd (bJ.1 (by have:=bN.1 hx;omega)) cw
  refine vs ?_
  exact .inr ⟨x,hx,rfl,h1⟩
theorem Ke(n:Nat):zB (.iface 202 (ptr n)) (dH n) where
 slt h:=h.slt
 ext h e hd:=h.ext e hd
 cells:=by
  rintro H S w ⟨B,C,L,tops,ch,par,rfl,m,l,hS⟩
  exact⟨B.c,C,m.cells⟩
 has:=by
  rintro H S w g ⟨B,C,L,tops,ch,par,rfl,m,l,hS⟩
  obtain⟨tv,ho,_⟩:=m.own
  exact⟨_,_,bF,ptr B.c,rfl,hX (off:=0) (by kernel_rfl) (ae ho) rfl,(kC m.cells g).mono fun v H' hp=>hp⟩
 make:=by
  intro H S w h
  exact⟨_,_,oS,ptr n,rfl,bE (by kernel_rfl),(CM h).mono fun v H' hp=>hp⟩
 insert:=by
  intro H S w g x k s h
  exact⟨_,_,mi,ptr n,rfl,bE (by kernel_rfl),(zr h g x k s).mono fun v H' hp=>hp⟩
 min:=by
  intro H S w g h
  refine⟨_,_,pS,ptr n,rfl,bE (by kernel_rfl),(tn h g).mono ?_⟩
  rintro v H' ⟨⟨h1,rfl⟩| ⟨x,h1,rfl⟩,rfl⟩
  ·exact .inl ⟨h1,rfl,cD.same h (ai.refl _ _)⟩
  ·exact .inr ⟨x,h1,rfl,cD.same h (ai.refl _ _)⟩
 extract:=by
  intro H S w g h
  exact⟨_,_,kV,ptr n,rfl,bE (by kernel_rfl),(xA h g).mono fun v H' hp=>hp⟩
 qt:=by
  intro H S w x k s h
  exact⟨_,_,j8,ptr n,rfl,bE (by kernel_rfl),(vS h x k s).mono fun v H' hp=>hp⟩
 entry:=by
  rintro H S w x ⟨B,C,L,tops,ch,par,rfl,m,l,hS⟩
  obtain⟨tv,ho,_⟩:=m.own
  refine⟨_,_,bk,ptr B.c,rfl,hX (off:=0) (by kernel_rfl) (ae ho) rfl,(jg m.cells x).mono ?_⟩
  rintro v H' ⟨c1,f,hv⟩
  exact⟨⟨B,C,L,tops,ch,par,rfl,m.fresh f,l,hS⟩,f,hv⟩
section
variable {H H' : Hp} {ro ro' : Nat → Rl} {fb tb n : Nat} {l : List Value} {V : Int → Value} {ch : Int → List Int} {par : Int → Int} {kb : Int → Option Nat} {T : Nat → Prop}
theorem xB(m:ForM H ro fb tb n l V ch par kb){a:Option Addr}{c:Nat}{xs:List Int}(h:ez H 1 (.slice a xs.length c) xs.length (xs.map i64))(hr:∀x∈xs,(0≤x∧x<n)∧par x= -1)(hR:FW ch xs)(hm:xs.length≤1000000):
  ah Tryz.prog Aa [ptr fb,.slice a xs.length c] H fun v H'=>ax (v= .bool true∧H'=H):=by
 refine bc AF ⟨rfl,?_⟩
 refine v1 jN.eq_1 ?_
 refine bD.intro (fun m env H'=>H'=H∧∃j:Nat,m=xs.length - j∧j≤xs.length∧env=[(0,ptr fb),(1,.slice a xs.length c),(7,.slice a xs.length c),(8,i64 xs.length),(9,i64 j)]) xs.length ⟨rfl,0,by omega,by omega,rfl⟩ ?_
 rintro mm env H1 ⟨e1,j,rfl,hj,rfl⟩
 obtain rfl:=e1.symm
 refine vs ?_
 refine am.dec (fun aR=>?_) (fun aR=>?_)<;>refine vs ?_
 ·have mA:j<xs.length:=by omega
  obtain⟨x,hx⟩:∃x,xs[j]? =some x:=⟨_,List.getElem?_eq_getElem mA⟩
  obtain⟨_,b,o,lb,rfl,DW,bM⟩:=ez.num h hx
  obtain⟨j5,Gr⟩:=hr x (List.mem_of_getElem? hx)
  refine⟨⟨by omega,by omega⟩,?_⟩
  refine v4 DW Int.toNat_natCast Nat.mul_one bM ?_
  refine(js m.t x).mono ?_
  rintro _ H' ⟨rfl,e⟩
  obtain rfl:=e.symm
  rw[decide_eq_true j5,decide_eq_true Gr]
  refine vs ?_
  refine am.dec (fun h0=>?_) (fun h0=>?_)
  ·obtain⟨k,rfl⟩:∃k,j=k+1:=⟨j - 1,by omega⟩
   obtain⟨y,hy⟩:∃y,xs[k]? =some y:=⟨_,List.getElem?_eq_getElem (by omega)⟩
   obtain⟨_,b',o',TS,zJ,ae1,WM⟩:=ez.num h hy
   injection zJ with zJ
   injection zJ with ae2 KP
   subst ae2 KP
   have D9:(ch y).length< (ch x).length:=by
    have:=List.pairwise_iff_getElem.1 hR k (k+1) (by omega) (by omega) (by omega)
    rw[List.getElem?_eq_getElem (by omega)]at hx hy
    injection hx with hx
    injection hy with hy
    rw[hx,hy]at this
    exact this
   refine vs ?_
   rw[wrap64 (n:=((k+1:Nat):Int) - 1) (by omega) (by omega),show((k+1:Nat):Int) - 1=(k:Int) by omega]
   refine⟨⟨by omega,by omega⟩,?_⟩
   refine v4 ae1 Int.toNat_natCast Nat.mul_one WM ?_
   refine(de m y).mono ?_
   rintro _ H' ⟨rfl,e⟩
   obtain rfl:=e.symm
   refine vs ?_
   refine(de m x).mono ?_
   rintro _ H' ⟨rfl,e⟩
   obtain rfl:=e.symm
   refine vs ?_
   refine am.dec (fun RX=>by omega) (fun _=>?_)
   refine vs ?_
   rw[wrap64 (n:=((k+1:Nat):Int)+1) (by omega) (by omega)]
   exact⟨xs.length - (k+1+1),by omega,trivial,k+1+1,rfl,by omega,rfl⟩
  ·refine vs ?_
   rw[wrap64 (n:=(j:Int)+1) (by omega) (by omega)]
   exact⟨xs.length - (j+1),by omega,trivial,j+1,rfl,by omega,rfl⟩
 ·exact⟨rfl,rfl⟩
theorem tq(t:qn H fb tb n l V par){x:Int}(hx:0≤x∧x<n){kv:Value}{m:Nat}{ks:List Int}{fp:Option Nat}(s:Sl H 1 kv m (ks.map i64) fp)(l9:fp≠some tb)(bS:∀k∈ks,0≤k∧k<n)(hl:ks.length≤1000000):
  ah Tryz.prog ww [ptr fb,i64 x,kv] H fun v H'=>ax (∃l',qn H' fb tb n l' (xi V x kv) (fun z=>if z∈ks then x else par z)∧ai (fun z=>z=tb) H H'):=by
 obtain rfl:m=ks.length:=by
  have:=s.1
  rw[List.length_map,Nat.mul_one]at this
  exact this.symm
 obtain⟨ka,kc,rfl⟩:=Sl.shape s
 have pt:=t.len
 refine bc wR ⟨rfl,?_⟩
 refine v2 gN.eq_1 (ae t.own) ?_
 refine⟨⟨by omega,by omega⟩,?_⟩
 refine v3 t.FK Nat.zero_add Nat.add_zero ?_
 refine⟨by omega,?_⟩
 obtain⟨t1,e1⟩:=t.xi hx (.slice ka ks.length kc)
 refine vs ?_
 have s1:=s.ext e1 (fun b hb e=>l9 (by rw[hb,e]))
 have vk:=t1.len
 generalize H.wr tb (l.set (x.toNat*2) (.slice ka ks.length kc))=H1 at*
 refine bD.intro (fun mm env H'=>∃ (j:Nat) (l':List Value),mm=ks.length - j∧j≤ks.length∧qn H' fb tb n l' (xi V x (.slice ka ks.length kc)) (fun z=>if z∈ks.take j then x else par z)∧ai (fun z=>z=tb) H1 H'∧
  env=[(0,ptr fb),(1,i64 x),(16,.slice ka ks.length kc),(17,i64 ks.length),(18,i64 j)]) ks.length ⟨0,_,by omega,by omega,by simpa using t1,ai.refl _ _,rfl⟩ ?_
 rintro mm env H2 ⟨j,l2,rfl,hj,t2,e2,rfl⟩
 have s2:=s1.ext e2 (fun b hb e=>l9 (by rw[hb,e]))
 have vU:=t2.len
 refine vs ?_
 refine am.dec (fun aR=>?_) (fun aR=>?_)<;>refine vs ?_
 ·have mA:j<ks.length:=by omega
  obtain⟨k,hk⟩:∃k,ks[j]? =some k:=⟨_,List.getElem?_eq_getElem mA⟩
  obtain⟨_,b,lb,rfl,q2,q3⟩:=Sl.AU s2 hk
  have Yq:=bS k (List.mem_of_getElem? hk)
  refine⟨⟨by omega,by omega⟩,?_⟩
  refine v6 (ae q2) Nat.zero_add Nat.mul_one Int.toNat_natCast q3 (ae t2.own) ?_
  refine⟨⟨by omega,by omega⟩,?_⟩
  refine v3 t2.FK Nat.zero_add Nat.add_zero ?_
  refine⟨by omega,?_⟩
  obtain⟨t3,e3⟩:=t2.aI Yq x
  refine vs ?_
  rw[wrap64 (n:=(j:Int)+1) (by omega) (by omega)]
  refine⟨ks.length - (j+1),by omega,j+1,l2.set (k.toNat*2+1) (i64 x),rfl,by omega,?_,e2.trans e3,rfl⟩
  have tk:ks.take (j+1)=ks.take j++[k]:=by rw[List.take_add_one,hk];rfl
  have:(fun z=>if z∈ks.take (j+1)then x else par z)=aI (fun z=>if z∈ks.take j then x else par z) k x:=by
   funext z
   unfold aI
   rw[tk]
   by_cases hz:z=k
   ·rw[if_pos (by simp[hz]),if_pos hz]
   ·rw[if_neg hz]
    by_cases h2:z∈ks.take j
    ·rw[if_pos (List.mem_append_left _ h2)]
     exact(if_pos h2).symm
    ·rw[if_neg (by simp[h2,hz])]
     exact(if_neg h2).symm
  rw[this]
  exact t3
 ·obtain rfl:j=ks.length:=by omega
  rw[List.take_length]at t2
  exact⟨l2,t2,e1.trans e2⟩
theorem RK.kbs{s:Nat}(r:RK s ro ro'){z:Nat}(hz:z<s)(h:KB ro' z):KB ro z:=by
 rcases h with h| ⟨x,h⟩
 ·refine .inl ?_
  by_cases hk:∃x,ro z= .sz x
  ·obtain⟨x,hx⟩:=hk
   obtain⟨y,hy⟩:=r.k z x hz hx
   rw[hy]at h;cases h
  ·rw[←r.o z hz (fun x hx=>hk ⟨x,hx⟩)];exact h
 ·refine .inr ?_
  apply Classical.byContradiction
  intro hk
  rw[r.o z hz (fun x hx=>hk ⟨x,hx⟩)]at h
  exact hk ⟨x,h⟩
set_option maxHeartbeats 1000000 in
theorem Ei(m:ForM H ro fb tb n l V ch par kb)(hz:∀z,H.size≤z→ro z= .no){x:Int}(hx:0≤x∧x<n)(px:par x= -1)(hl:(ch x).length≤65536):
  ah Tryz.prog wu [ptr fb,i64 x] H fun v H'=>ax (∃ro' l' V' vQ fp,ForM H' ro' fb tb n l' V' (aA ch x []) (gf ch par x) vQ∧RK H.size ro ro'∧(∀z,H'.size≤z→ro' z= .no)∧ai (KB ro) H H'∧
   Sl H' 1 v (ch x).length ((ch x).map i64) fp∧∀b,fp=some b→H.size≤b∧ro' b= .no):=by
 have ht:=m.t.len
 obtain⟨a1,a2⟩:=m.t.at_ x hx.1 hx.2
 have kx:=m.kd x hx.1 hx.2
 obtain⟨ka,kc,Yz⟩:=Sl.shape kx
 rw[Yz]at a1 kx
 refine bc wP ⟨rfl,?_⟩
 refine v1 gM.eq_1 ?_
 refine(js m.t x).mono ?_
 rintro _ H' ⟨rfl,e⟩
 obtain rfl:=e.symm
 rw[decide_eq_true hx,decide_eq_true px]
 refine v1 (ae m.t.own) ?_
 refine⟨⟨by omega,by omega⟩,?_⟩
 refine v5 (ae m.t.own) (ae m.t.FK) Nat.zero_add Nat.add_zero a1 ?_
 refine⟨⟨by omega,by omega⟩,?_⟩
 refine v3 m.t.FK Nat.zero_add Nat.add_zero ?_
 refine⟨by omega,?_⟩
 obtain⟨WN,YA,m1,r1,n1,e1⟩:=m.put hz hx (ai.refl _ H) (Sl.nil H 1) (w':=.slice none 0 0) (L':=[]) (.inr (.inl rfl)) (by simp)
 refine vs ?_
 have aax:∀b,kb x=some b→b≠tb:=fun b hb e=>by
  have:=m.rk x b hx.1 hx.2 hb
  rw[e,m.rt]at this
  cases this
 have s1:=kx.ext (m.t.xi hx (.slice none 0 0)).2 (fun b hb=>aax b hb)
 generalize H.wr tb (l.set (x.toNat*2) (.slice none 0 0))=H1 at*
 refine bD.intro (fun mm env H'=>∃ (j:Nat) (l':List Value),mm=(ch x).length - j∧j≤(ch x).length∧ForM H' WN fb tb n l' (xi V x (.slice none 0 0)) (aA ch x []) (fun z=>if z∈(ch x).take j then -1 else par z) YA∧ai (fun z=>z=tb) H1 H'∧
  env=[(0,ptr fb),(5,.slice ka (ch x).length kc),(27,.slice ka (ch x).length kc),(28,i64 (ch x).length),(29,i64 j)]) (ch x).length ⟨0,_,by omega,by omega,by simpa using m1,ai.refl _ _,rfl⟩ ?_
 rintro mm env H2 ⟨j,l2,rfl,hj,m2,e2,rfl⟩
 have s2:=s1.ext e2 (fun b hb=>aax b hb)
 have vU:=m2.t.len
 have hrt:WN tb= .table:=m2.rt
 refine vs ?_
 refine am.dec (fun aR=>?_) (fun aR=>?_)<;>refine vs ?_
 ·have mA:j< (ch x).length:=by omega
  obtain⟨k,hk⟩:∃k,(ch x)[j]? =some k:=⟨_,List.getElem?_eq_getElem mA⟩
  obtain⟨_,b,lb,rfl,q2,q3⟩:=Sl.AU s2 hk
  have Yq:=m.Hw x k (List.mem_of_getElem? hk)
  refine⟨⟨by omega,by omega⟩,?_⟩
  refine v6 (ae q2) Nat.zero_add Nat.mul_one Int.toNat_natCast q3 (ae m2.t.own) ?_
  refine⟨⟨by omega,by omega⟩,?_⟩
  refine v3 m2.t.FK Nat.zero_add Nat.add_zero ?_
  refine⟨by omega,?_⟩
  obtain⟨m3,_⟩:=m2.aI Yq (-1)
  obtain⟨_,e3⟩:=m2.t.aI Yq (-1)
  refine vs ?_
  rw[wrap64 (n:=(j:Int)+1) (by omega) (by omega)]
  refine⟨(ch x).length - (j+1),by omega,j+1,l2.set (k.toNat*2+1) (i64 (-1)),rfl,by omega,?_,e2.trans e3,rfl⟩
  have tk:(ch x).take (j+1)=(ch x).take j++[k]:=by rw[List.take_add_one,hk];rfl
  have:(fun z=>if z∈(ch x).take (j+1)then(-1:Int)else par z)=aI (fun z=>if z∈(ch x).take j then -1 else par z) k (-1):=by
   funext z
   unfold aI
   rw[tk]
   by_cases hz:z=k
   ·rw[if_pos (by simp[hz]),if_pos hz]
   ·rw[if_neg hz]
    by_cases h2:z∈(ch x).take j
    ·rw[if_pos (List.mem_append_left _ h2)]
     exact(if_pos h2).symm
    ·rw[if_neg (by simp[h2,hz])]
     exact(if_neg h2).symm
  rw[this]
  exact m3
 ·obtain rfl:j=(ch x).length:=by omega
  rw[List.take_length]at m2
  refine(qW s2.rd (by omega)).mono ?_
  rintro v H3 ⟨f3,fp,s3,l9⟩
  have z2:=e2.size
  have z1:=e1.size
  have z3:=f3.size
  refine vs ?_
  refine⟨WN,l2,_,YA,fp,m2.fresh f3,r1,fun z eA=>n1 z (by omega),?_,s3,fun b hb=>⟨by have:=l9 b hb;omega,n1 b (by have:=l9 b hb;omega)⟩⟩
  exact(e1.trans (e2.mono fun z eA h=>.inl (by rw[h];exact m.rt))).trans (f3.mono fun _ _ h=>h.elim)
def pg(j k:Nat):List Value:=(List.replicate j [Value.slice none 0 0,Value.int .i64 (-1)]).flatten++(List.replicate k [Value.slice none 0 0,Value.int .i64 0]).flatten
theorem xV(j:Nat)(a b:Value):((List.replicate j [a,b]).flatten).length=j*2:=by
 induction j with
 |zero=>rfl
 |succ j ih=>rw[List.replicate_succ,List.flatten_cons,List.length_append,ih];simp;omega
theorem Sj{j i:Nat}(a b:Value)(hi:i<j):((List.replicate j [a,b]).flatten)[i*2]? =some a∧((List.replicate j [a,b]).flatten)[i*2+1]? =some b:=by
 induction j generalizing i with
 |zero=>omega
 |succ j ih=>
  rw[List.replicate_succ,List.flatten_cons]
  cases i with
  |zero=>exact⟨rfl,rfl⟩
  |succ i=>
   have:=ih (i:=i) (by omega)
   rw[show(i+1)*2=i*2+1+1 by omega]
   exact this
theorem P0(j k:Nat):(pg j k).length=(j+k)*2:=by unfold pg;rw[List.length_append,xV,xV];omega
theorem P9(j k:Nat):(pg j (k+1)).set (j*2+1) (Value.int .i64 (-1))=pg (j+1) k:=by
 unfold pg
 rw[List.set_append_right _ _ (by rw[xV];omega),xV,show j*2+1 - j*2=1 by omega,List.replicate_succ,List.flatten_cons,List.replicate_succ',List.flatten_append]
 simp
theorem G2(H:Hp){n:Int}(hn:0≤n∧n≤65536):ah Tryz.prog K4 [i64 n] H fun v H'=>ax (∃fb tb l,v= .tuple [ptr fb,i64 0].toArray∧qn H' fb tb n.toNat l (fun _=>.slice none 0 0) (fun _=> -1)∧ay H H'∧H.size≤fb∧H.size≤tb):=by
 refine bc La ⟨rfl,?_⟩
 refine v1 wI.eq_1 ?_
 refine am.dec (fun g=>absurd g (by omega)) (fun _=>?_)
 refine vs ?_
 refine am.dec (fun g=>absurd g (by omega)) (fun _=>?_)
 refine vs ?_
 refine⟨⟨by omega,by omega,by omega,by omega⟩,?_⟩
 refine vs ?_
 rw[show cQ [Value.slice none 0 0,Value.int .i64 0] n.toNat=pg 0 n.toNat from rfl]
 obtain⟨N,hN⟩:∃N:Nat,n=(N:Int):=⟨n.toNat,by omega⟩
 subst hN
 rw[Int.toNat_natCast]
 have f0:ay H ((H.new 315 (pg 0 N)).new 313 [.slice (some ⟨H.size,0,none⟩) N N]):=((ai.refl _ _).new _ _).new _ _
 have t0:((H.new 315 (pg 0 N)).new 313 [.slice (some ⟨H.size,0,none⟩) N N]).own (H.size+1)=some [.slice (some ⟨H.size,0,none⟩) N N]:=bC (by simp only[au])
 have t1:((H.new 315 (pg 0 N)).new 313 [.slice (some ⟨H.size,0,none⟩) N N]).own H.size=some (pg 0 N):=by
  rw[cz (by simp only[au];omega),aG]
 generalize (H.new 315 (pg 0 N)).new 313 [.slice (some ⟨H.size,0,none⟩) N N]=H0 at*
 refine bD.intro (fun m env H'=>∃j:Nat,m=N - j∧j≤N∧ai (fun z=>z=H.size) H0 H'∧H'.own H.size=some (pg j (N - j))∧
  env=[(4,ptr (H.size+1)),(20,i64 N),(21,i64 j)]) N ⟨0,by omega,by omega,ai.refl _ _,t1,rfl⟩ ?_
 rintro m env H1 ⟨j,rfl,hj,e1,h1,rfl⟩
 have o1:=e1.own t0 (by omega)
 have vk:=P0 j (N - j)
 refine vs ?_
 refine am.dec (fun aR=>?_) (fun aR=>?_)<;>refine vs ?_
 ·refine v1 (ae o1) ?_
  refine⟨⟨by omega,by omega⟩,?_⟩
  refine v4 h1 Nat.zero_add Nat.add_zero Int.toNat_natCast ?_
  refine⟨by omega,?_⟩
  refine vs ?_
  have e2:ai (fun z=>z=H.size) H1 (H1.wr H.size ((pg j (N - j)).set (j*2+1) (Value.int .i64 (-1)))):=(ai.refl (fun z=>z=H.size) _).wr (fun _=>rfl) _
  have q2:(H1.wr H.size ((pg j (N - j)).set (j*2+1) (Value.int .i64 (-1)))).own H.size=some ((pg j (N - j)).set (j*2+1) (Value.int .i64 (-1))):=aj h1
  rw[wrap64 (n:=(j:Int)+1) (by omega) (by omega)]
  refine⟨N - (j+1),by omega,j+1,rfl,by omega,e1.trans e2,?_,rfl⟩
  rw[q2,show N - j=(N - (j+1))+1 by omega,P9]
 ·obtain rfl:j=N:=by omega
  refine⟨H.size+1,H.size,_,rfl,⟨o1,h1,by rw[vk];omega,fun x h0 hx=>?_,by omega⟩,f0.then e1 (fun z hz=>by omega),by omega,by omega⟩
  unfold pg
  rw[Nat.sub_self,List.replicate_zero,List.flatten_nil,List.append_nil]
  exact Sj _ _ (by omega)
end
end Go.Proofs.YtjlnnljohemifaaGreat

namespace Go.Proofs.YtjlnnljohemifaaGreat
open Go Go.Vc
theorem Kf:∀ {l:List Int} {i:Nat} {x p:Int},l.Nodup→p∉l→l[i]? =some x→l.set i p=l.map (jn x p):=by
 intro l
 induction l with
 |nil=>intro i x p _ _ h;simp at h
 |cons a r ih=>
  intro i x p hn hp h
  have By:=List.nodup_cons.1 hn
  have hpr:p∉r:=fun h=>hp (by simp[h])
  cases i with
  |zero=>
   simp only[List.getElem?_cons_zero,Option.some.injEq]at h
   subst h
   rw[List.set_cons_zero,List.map_cons,nk,BB By.1 hpr]
  |succ i=>
   have hx:r[i]? =some x:=by simpa using h
   have tE:a≠x:=fun e=>By.1 (by rw[e];exact List.mem_of_getElem? hx)
   have TG:a≠p:=fun e=>hp (by rw[e];simp)
   rw[List.set_cons_succ,List.map_cons,gg tE TG,ih By.2 hpr hx]
def Sk(x p:Int):Rl→Rl
 | .sz y=>.sz (jn x p y)
 |r=>r
section
variable {H H' : Hp} {ro ro' : Nat → Rl} {fb tb n : Nat} {l : List Value} {V : Int → Value} {ch : Int → List Int} {par : Int → Int} {kb : Int → Option Nat} {T : Nat → Prop}
variable {hm : Int → Int} {lt : Int → Int → Bool} {rows : Int → List Int} {W : List Int}
theorem Sl.Uc{H:Hp}{v:Value}{m:Nat}{xs:List Int}{fp:Option Nat}(s:Sl H 1 v m (xs.map i64) fp){i:Nat}{x:Int}(hx:xs[i]? =some x):∃b lb c,v= .slice (some ⟨b,0,none⟩) m c∧fp=some b∧H.own b=some lb∧lb[i]? =some (i64 x)∧i<m∧m≤lb.length∧m=xs.length:=by
 obtain⟨a,c,rfl⟩:=Sl.shape s
 have hl:=s.1
 rw[List.length_map,Nat.mul_one]at hl
 obtain⟨h1,b,lb,rfl,q2,q3⟩:=Sl.AU s hx
 cases fp with
 |none=>have:=s.2.2;injection this with h1;cases h1
 |some b'=>
  obtain⟨_,TS,c',hs,ho,hc,Bu,_⟩:=s
  injection hs with fK Ox Io
  injection fK with fK
  injection fK with fK
  subst fK
  rw[q2]at ho
  injection ho with ho
  subst ho
  exact⟨b,lb,c,rfl,rfl,q2,q3,h1,by omega,hl.symm⟩
theorem qn.ae3{H:Hp}{fb tb n:Nat}{l:List Value}{V V':Int→Value}{U U':Int→Int}(t:qn H fb tb n l V U)(h:∀x:Int,0≤x→x<n→V' x=V x∧U' x=U x):qn H fb tb n l V' U':=
 ⟨t.own,t.FK,t.len,fun x h0 h1=>by obtain⟨e1,e2⟩:=h x h0 h1;rw[e1,e2];exact t.at_ x h0 h1,t.ne⟩
set_option maxRecDepth 100000 in
set_option maxHeartbeats 1000000 in
theorem Fz(m:ForM H ro fb tb n l V ch par kb)(hz:∀z,H.size≤z→ro z= .no)(w:lY hm lt ch par rows W){x p:Int}(hx:0≤x∧x<n)(hp:0≤p∧p<n)(KO:x∈ch p)(Rh:par p≠ -1→0≤par p∧par p<n)(hn:n≤65536):
  ah Tryz.prog oR [ptr fb,i64 x] H fun v H'=>ax (v= .bool true∧∃ro' l' V' vQ,ForM H' ro' fb tb n l' V' (Ht ch x p) (JA par x p) vQ∧RK H.size ro ro'∧(∀z,H'.size≤z→ro' z= .no)∧ai (KB ro) H H'∧∀z,ro z= .no→ro' z= .no):=by
 obtain⟨d1,d2,d3,d4,d5⟩:=w.pr.dn p x KO
 have aR:=w.less KO
 have ec:p≠x:=fun e=>by rw[e]at aR;omega
 have npp:p∉ch p:=fun h=>by have:=w.less h;omega
 have npx:p∉ch x:=fun h=>by have:=w.less h;omega
 have nxx:x∉ch x:=fun h=>by have:=w.less h;omega
 have qQ:∀z,(ch z).length≤n:=fun z=>bY (w.pr.nd z) fun c hc=>m.Hw z c hc
 have ajv:=qQ x
 have ajw:=qQ p
 have pt:=m.t.len
 obtain⟨x1,x2⟩:=m.t.at_ x hx.1 hx.2
 obtain⟨p1,p2⟩:=m.t.at_ p hp.1 hp.2
 have sx:=m.kd x hx.1 hx.2
 have sp:=m.kd p hp.1 hp.2
 obtain⟨oa,oc,Yz⟩:=Sl.shape sx
 obtain⟨i,hi,e⟩:=List.mem_iff_getElem.1 KO
 obtain⟨bp,lp,cp,UV,hkp,qp,qpi,tC,MJ,_⟩:=Sl.Uc sp (i:=i) (x:=x) (by rw[List.getElem?_eq_getElem hi,e])
 have Ve:=m.rk p bp hp.1 hp.2 hkp
 have hbt:bp≠tb:=fun e=>by rw[e,m.rt]at Ve;cases Ve
 have Wc:bp≠fb:=fun e=>by rw[e,m.rf]at Ve;cases Ve
 have Re:∀b,kb x=some b→b≠tb∧b≠bp:=fun b hb=>by
  have:=m.rk x b hx.1 hx.2 hb
  refine⟨fun e=>(by rw[e,m.rt]at this;cases this),fun e=>?_⟩
  rw[e,Ve]at this
  injection this with this
  exact ec this
 rw[Yz]at x1
 rw[UV]at p1
 refine bc yR ⟨rfl,?_⟩
 refine v1 iK.eq_1 ?_
 refine(rU m.t hx).mono ?_
 rintro _ H' ⟨⟨h,_⟩| ⟨_,rfl⟩,e⟩
 ·rw[d1]at h;exact absurd h d2
 obtain rfl:=e.symm
 rw[d1]
 refine v1 (ae m.t.own) ?_
 refine⟨⟨by omega,by omega⟩,?_⟩
 refine v5 (ae m.t.own) (ae m.t.FK) Nat.zero_add Nat.add_zero x1 ?_
 refine⟨⟨by omega,by omega⟩,?_⟩
 refine v5 (ae m.t.own) (ae m.t.FK) Nat.zero_add Nat.add_zero p1 ?_
 refine⟨⟨by omega,by omega⟩,?_⟩
 refine v5 (ae m.t.own) (ae m.t.FK) Nat.zero_add Nat.add_zero p2 ?_
 rw[UV]at sp
 refine(gv sp.rd x (by omega)).mono ?_
 rintro _ H' ⟨⟨j,rfl,hj⟩,e⟩
 obtain rfl:=e.symm
 obtain⟨hj0,hj⟩:=hj.resolve_left (fun h=>h.2 KO)
 obtain⟨k,rfl⟩:∃k:Nat,j=(k:Int):=⟨j.toNat,by omega⟩
 rw[Int.toNat_natCast]at hj
 have Z6:=(List.getElem?_eq_some_iff.1 hj).1
 refine vs ?_
 refine⟨⟨by omega,by omega⟩,?_⟩
 refine v4 qp Nat.zero_add Nat.mul_one Int.toNat_natCast ?_
 refine⟨by omega,?_⟩
 refine vs ?_
 rw[hkp]at sp
 have sp1:=sp.vP qp k (i64 p)
 have WO:ai (fun z=>z=bp) H (H.wr bp (lp.set k (i64 p))):=(ai.refl (fun z=>z=bp) _).wr (fun _=>rfl) _
 rw[←List.map_set,Kf (w.pr.nd p) npp hj]at sp1
 have t1:=m.t.ext WO (Ne.symm Wc) (Ne.symm hbt)
 have sx1:=sx.ext WO (fun b hb=>(Re b hb).2)
 generalize H.wr bp (lp.set k (i64 p))=H1 at*
 have RZ:((ch p).map (jn x p)).length=(ch p).length:=List.length_map ..
 have cF:∀z,z∈(ch p).map (jn x p)↔(z=p∨(z∈ch p∧z≠x)):=fun z=>by
  rw[kO]
  by_cases h1:z=x
  ·rw[h1,nk]
   exact⟨fun h=>absurd h npp,fun h=>by rcases h with h|h;exact absurd h.symm ec;exact absurd rfl h.2⟩
  ·by_cases h2:z=p
   ·rw[h2,uP];simp[KO]
   ·rw[gg h1 h2];simp[h1,h2]
 refine(tq t1 hx sp1 (fun h=>by injection h with h;exact hbt h) (fun c hc=>?_) (by omega)).mono ?_
 ·rcases(cF c).1 hc with h|h
  ·rw[h];exact hp
  ·exact m.Hw p c h.1
 rintro _ H2 ⟨l2,t2,e2⟩
 refine vs ?_
 have sx2:=sx1.ext e2 (fun b hb=>(Re b hb).1)
 rw[Yz]at sx2
 refine(tq t2 hp sx2 (fun h=>(Re tb h).1 rfl) (fun c hc=>m.Hw x c hc) (by omega)).mono ?_
 rintro _ H3 ⟨l3,t3,e3⟩
 have Tf:=t3.len
 refine v1 (ae t3.own) ?_
 refine⟨⟨by omega,by omega⟩,?_⟩
 refine v3 t3.FK Nat.zero_add Nat.add_zero ?_
 refine⟨by omega,?_⟩
 obtain⟨t4,e4⟩:=t3.aI hx (par p)
 refine vs ?_
 have WC:=t4.len
 generalize H3.wr tb (l3.set (x.toNat*2+1) (i64 (par p)))=H4 at*
 generalize l3.set (x.toNat*2+1) (i64 (par p))=l4 at*
 have Bo:ai (fun z=>z=tb) H1 H4:=(e2.trans e3).trans e4
 have YB:x≠ -1:=w.pr.ne KO
 have gx:par p≠x:=fun e=>by
  by_cases hq:par p= -1
  ·exact YB (by rw[←e,hq])
  ·have:=w.less (w.pr.up p _ rfl hq)
   rw[e]at this;omega
 have YC:par p≠p:=fun e=>by
  have:=w.less (w.pr.up p p e d2)
  omega
 have t5:qn H4 fb tb n l4 (fun z=>V (jn x p z)) (JA par x p):=by
  refine t4.ae3 fun z h0 h1=>⟨?_,?_⟩
  ·by_cases e1:z=x
   ·rw[e1,nk];unfold xi;rw[if_neg ec.symm,if_pos rfl,UV]
   ·by_cases e2:z=p
    ·rw[e2,uP];unfold xi;rw[if_pos rfl,Yz]
    ·rw[gg e1 e2];unfold xi;rw[if_neg e2,if_neg e1]
  ·show jn x p (par (jn x p z))=(if z=x then par p else if z∈ch x then p else if z∈(ch p).map (jn x p)then x else par z)
   by_cases e1:z=x
   ·rw[if_pos e1,e1,nk,gg gx YC]
   ·rw[if_neg e1]
    by_cases e2:z=p
    ·rw[e2,uP,d1,uP,if_neg npx,if_pos ((cF p).2 (.inl rfl))]
    ·rw[gg e1 e2]
     by_cases e3:z∈ch x
     ·rw[if_pos e3,(w.pr.dn x z e3).1,nk]
     ·rw[if_neg e3]
      by_cases e4:z∈ch p
      ·rw[if_pos ((cF z).2 (.inr ⟨e4,e1⟩)),(w.pr.dn p z e4).1,uP]
      ·rw[if_neg (fun h=>by rcases(cF z).1 h with h|h;exact e2 h;exact e4 h.1)]
       rw[gg (fun h=>e3 (w.pr.up z x h YB)) (fun h=>e4 (w.pr.up z p h d2))]
 have hRK:∀H5:Hp,ai (fun z=>z=bp∨z=tb∨kb (par p)=some z∧par p≠ -1) H H5→RK H.size ro (fun z=>Sk x p (ro z))∧(∀z,H5.size≤z→Sk x p (ro z)= .no)∧ai (KB ro) H H5:=fun H5 e5=>by
  refine⟨⟨fun z eA hk=>?_,fun z y eA hy=>⟨jn x p y,by rw[hy];rfl⟩,fun z eA=>.inl (by rw[hz z eA];rfl)⟩,fun z eA=>?_,e5.mono fun z _ h=>?_⟩
  ·cases hr:ro z with
   |sz y=>exact absurd hr (hk y)
   |_=>rfl
  ·have:=e5.size
   rw[hz z (by omega)];rfl
  ·rcases h with h|h| ⟨h,hq⟩
   ·exact .inr ⟨p,by rw[h];exact Ve⟩
   ·exact .inl (by rw[h];exact m.rt)
   ·obtain⟨h0,h1⟩:=Rh hq
    exact .inr ⟨par p,m.rk _ z h0 h1 h⟩
 have aaz:∀z:Int,¬ (0≤z∧z<n)→Ht ch x p z=[]:=fun z eA=>by
  unfold Ht
  rw[gg (fun e=>eA (by rw[e];exact hx)) (fun e=>eA (by rw[e];exact hp)),m.no z eA]
  rfl
 have hrS:∀z:Int,(0≤z∧z<n)→0≤jn x p z∧jn x p z<n:=fun z eA=>by
  by_cases e1:z=x
  ·rw[e1,nk];exact hp
  ·by_cases e2:z=p
   ·rw[e2,uP];exact hx
   ·rw[gg e1 e2];exact eA
 have Vf:∀z c,c∈Ht ch x p z→0≤c∧c<n:=fun z c hc=>by
  have:=hrS _ (m.Hw _ _ (kO.1 hc))
  rwa[kN]at this
 have hkd:∀z:Int,0≤z→z<n→z≠par p→Sl H4 1 (V (jn x p z)) (Ht ch x p z).length ((Ht ch x p z).map i64) (kb (jn x p z)):=fun z h0 h1 hzg=>by
  by_cases e1:z=x
  ·unfold Ht
   rw[e1,nk,hkp,UV]
   rw[RZ]
   exact sp1.ext Bo (fun b hb=>by injection hb with hb;omega)
  ·by_cases e2:z=p
   ·unfold Ht
    rw[e2,uP,Yz,BB nxx npx]
    exact(sx2.ext e3 (fun b hb=>(Re b hb).1)).ext e4 (fun b hb=>(Re b hb).1)
   ·unfold Ht
    rw[gg e1 e2]
    have nx:x∉ch z:=fun h=>e2 (by rw[← (w.pr.dn z x h).1,d1])
    have np:p∉ch z:=fun h=>hzg (w.pr.dn z p h).1.symm
    rw[BB nx np]
    refine((m.kd z h0 h1).ext WO (fun b hb e=>?_)).ext Bo (fun b hb e=>?_)
    ·have:=m.rk z b h0 h1 hb
     rw[e,Ve]at this
     injection this with this
     exact e2 this.symm
    ·have:=m.rk z b h0 h1 hb
     rw[e,m.rt]at this
     cases this
 have WP:∀ (z:Int) b,0≤z→z<n→kb (jn x p z)=some b→Sk x p (ro b)= .sz z:=fun z b h0 h1 hb=>by
  obtain⟨g0,g1⟩:=hrS z ⟨h0,h1⟩
  rw[m.rk _ b g0 g1 hb]
  show Rl.sz (jn x p (jn x p z))=_
  rw[kN]
 refine am.dec (fun h0=>?_) (fun h0=>?_)<;>refine vs ?_
 ·obtain⟨r1,r2,r3⟩:=hRK H4 ((WO.mono fun z _ h=>.inl h).trans (Bo.mono fun z _ h=>.inr (.inl h)))
  refine⟨rfl,_,l4,_,fun z=>kb (jn x p z),⟨t5,fun z g0 g1=>hkd z g0 g1 (by omega),by rw[m.rf];rfl,by rw[m.rt];rfl,WP,Vf,aaz⟩,r1,r2,r3,fun z h=>by show Sk x p (ro z)=_;rw[h];rfl⟩
 ·obtain⟨g0,g1⟩:=Rh h0
  have uO:=w.pr.up p _ rfl h0
  obtain⟨ig,hig,eg⟩:=List.mem_iff_getElem.1 uO
  have sg:=m.kd (par p) g0 g1
  obtain⟨bg,lg,cg,hvg,hkg,qg,qgi,ajz,dv,_⟩:=Sl.Uc sg (i:=ig) (x:=p) (by rw[List.getElem?_eq_getElem hig,eg])
  have PP:=m.rk _ bg g0 g1 hkg
  have hgt:bg≠tb:=fun e=>by rw[e,m.rt]at PP;cases PP
  have hgb:bg≠bp:=fun e=>by rw[e,Ve]at PP;injection PP with PP;exact YC PP.symm
  have hgf:bg≠fb:=fun e=>by rw[e,m.rf]at PP;cases PP
  obtain⟨a1,a2⟩:=t5.at_ _ g0 g1
  rw[gg gx YC,hvg]at a1
  refine v1 (ae t5.own) ?_
  refine⟨⟨by omega,by omega⟩,?_⟩
  refine v4 (ae t5.FK) Nat.zero_add Nat.add_zero a1 ?_
  have qg4:=Bo.own (WO.own qg hgb) hgt
  have sg4:Sl H4 1 (.slice (some ⟨bg,0,none⟩) (ch (par p)).length cg) (ch (par p)).length ((ch (par p)).map i64) (some bg):=by
   rw[hvg,hkg]at sg
   exact(sg.ext WO (fun b hb=>by injection hb with hb;omega)).ext Bo (fun b hb=>by injection hb with hb;omega)
  have ajB:=qQ (par p)
  refine(gv sg4.rd p (by omega)).mono ?_
  rintro _ H' ⟨⟨j,rfl,hj⟩,e⟩
  obtain rfl:=e.symm
  obtain⟨hj0,hj⟩:=hj.resolve_left (fun h=>h.2 uO)
  obtain⟨k,rfl⟩:∃k:Nat,j=(k:Int):=⟨j.toNat,by omega⟩
  rw[Int.toNat_natCast]at hj
  have Z6:=(List.getElem?_eq_some_iff.1 hj).1
  refine vs ?_
  refine⟨⟨by omega,by omega⟩,?_⟩
  refine v4 qg4 Nat.zero_add Nat.mul_one Int.toNat_natCast ?_
  refine⟨by omega,?_⟩
  refine vs ?_
  have sg5:=sg4.vP qg4 k (i64 x)
  have e5:ai (fun z=>z=bg) H4 (H4.wr bg (lg.set k (i64 x))):=(ai.refl (fun z=>z=bg) _).wr (fun _=>rfl) _
  have nxg:x∉ch (par p):=fun h=>YC (by rw[← (w.pr.dn _ x h).1,d1])
  have Sm:(ch (par p)).map (jn p x)=(ch (par p)).map (jn x p):=List.map_congr_left fun c _=>by
   unfold jn
   by_cases e1:c=x
   ·rw[if_neg (fun e=>ec (by rw[←e,e1])),if_pos e1,if_pos e1]
   ·by_cases e2:c=p
    ·rw[if_pos e2,if_neg e1,if_pos e2]
    ·rw[if_neg e2,if_neg e1,if_neg e1,if_neg e2]
  rw[←List.map_set,Kf (w.pr.nd _) nxg hj,Sm]at sg5
  obtain⟨r1,r2,r3⟩:=hRK _ (((WO.mono fun z _ h=>.inl h).trans (Bo.mono fun z _ h=>.inr (.inl h))).trans (e5.mono fun z _ h=>.inr (.inr ⟨by rw[h];exact hkg,h0⟩)))
  refine⟨rfl,_,l4,_,fun z=>kb (jn x p z),⟨t5.ext e5 (fun e=>hgf e.symm) (fun e=>hgt e.symm),fun z q0 q1=>?_,by rw[m.rf];rfl,by rw[m.rt];rfl,WP,Vf,aaz⟩,r1,r2,r3,fun z h=>by show Sk x p (ro z)=_;rw[h];rfl⟩
  by_cases hzg:z=par p
  ·unfold Ht
   rw[hzg,gg gx YC,hvg,hkg,List.length_map]
   exact sg5
  ·refine(hkd z q0 q1 hzg).ext e5 (fun b hb e=>?_)
   have h7:=WP z b q0 q1 hb
   rw[e,PP]at h7
   have h8:Rl.sz (jn x p (par p))= .sz z:=h7
   injection h8 with h8
   rw[gg gx YC]at h8
   exact hzg h8.symm
end
end Go.Proofs.YtjlnnljohemifaaGreat

namespace Go.Proofs.YtjlnnljohemifaaGreat
open Go Go.Vc
def IG(H:Hp)(v:Value)(xs:List Int)(nb:Option Nat):Prop:=
 ∃a c,v= .slice a xs.length c∧xs.length≤c∧(c=0∨∃b o l,a=some ⟨b,o,none⟩∧nb=some b∧H.own b=some l∧o+c≤l.length∧(l.drop o).take xs.length=xs.map i64)
section
variable {H H' : Hp} {ro ro' : Nat → Rl} {B : Nat} {v : Value} {xs : List Int} {T : Nat → Prop} {nb : Option Nat}
theorem IG.nil(H:Hp)(nb:Option Nat):IG H (.slice none 0 0) [] nb:=⟨none,0,rfl,Nat.le_refl _,.inl rfl⟩
theorem IG.rd(h:IG H v xs nb):ez H 1 v xs.length (xs.map i64):=by
 obtain⟨a,c,rfl,hc,h⟩:=h
 refine⟨by simp,?_⟩
 rcases h with rfl| ⟨b,o,l,rfl,_,h1,h2,h3⟩
 ·exact .inl ⟨by omega,a,0,by rw[show xs.length=0 by omega]⟩
 ·exact .inr ⟨b,o,c,l,rfl,ae h1,by omega,by rw[Nat.mul_one];exact h3⟩
theorem IG.ext(h:IG H v xs nb)(e:ai T H H')(hT:∀z,nb=some z→¬T z):IG H' v xs nb:=by
 obtain⟨a,c,hv,hc,h⟩:=h
 exact⟨a,c,hv,hc,h.imp_right fun⟨b,o,l,h1,h2,h3,h4⟩=>⟨b,o,l,h1,h2,e.own h3 (hT b h2),h4⟩⟩
theorem IG.cap(h:IG H v xs nb):∃a c,v= .slice a xs.length c∧xs.length≤c:=by
 obtain⟨a,c,hv,hc,_⟩:=h
 exact⟨a,c,hv,hc⟩
theorem IG.lit{T:TypeId}(x:Int):IG (H.new T [i64 x]) (.slice (some ⟨H.size,0,none⟩) 1 1) [x] (some H.size):=
 ⟨_,1,rfl,Nat.le_refl _,.inr ⟨H.size,0,[i64 x],rfl,rfl,aG _ _ _,by simp,rfl⟩⟩
theorem IG.tail{x:Int}{a:Option Addr}{c:Nat}(h:IG H (.slice a (x::xs).length c) (x::xs) nb)(PO:Decidable ((c:Int)=1)):
  IG H (.slice (@ite (Option Addr) ((c:Int)=1) PO a (Option.map (fun(y:Addr)=>y.add (Int.toNat 1*1)) a)) (((xs.length+1:Nat):Int).toNat - Int.toNat 1) ((c:Int).toNat - Int.toNat 1)) xs nb:=by
 rw[show((xs.length+1:Nat):Int).toNat - Int.toNat 1=xs.length by simp,show(c:Int).toNat - Int.toNat 1=c - 1 by simp]
 obtain⟨a',c',hv,hc,h⟩:=h
 injection hv with e1 e2 e3
 subst e1 e3
 rw[List.length_cons]at hc
 refine⟨_,c - 1,rfl,by omega,?_⟩
 by_cases h1:(c:Int)=1
 ·exact .inl (by omega)
 ·rw[if_neg h1]
  rcases h with h| ⟨b,o,l,rfl,h2,h3,h4,h5⟩
  ·omega
  ·refine .inr ⟨b,o+1,l,rfl,h2,h3,by omega,?_⟩
   rw[List.length_cons,List.map_cons]at h5
   have h6:(l.drop (o+1))=(l.drop o).drop 1:=by rw[List.drop_drop]
   rw[h6,List.take_drop,Nat.add_comm,h5]
   rfl
theorem IG.push{K:Value→Hp→Prop}{T:TypeId}(h:IG H v xs nb)(x:Int)(hl:xs.length≤1000000)
  (hk:∀w' H' Jk,(Jk=nb∨∃z,Jk=some z∧H.size≤z∧z<H'.size)→IG H' w' (xs++[x]) Jk→ai (fun z=>nb=some z) H H'→K w' H'):
  lI T 1 8 [i64 0] v (.slice (some ⟨H.size,0,none⟩) 1 1) (H.new T [i64 x]) K:=by
 have fl:ay H (H.new T [i64 x]):=(ai.refl _ _).new _ _
 have h1:=h.rd.fresh fl
 obtain⟨a,c,rfl,hc,h⟩:=h
 have hx:ez (H.new T [i64 x]) 1 (.slice (some ⟨H.size,0,none⟩) 1 1) 1 [i64 x]:=(Sl.dQ (size:=1) (n:=1) (xs:=[i64 x]) rfl rfl).rd
 refine ez.rowOf hx (F:=fun m new=>(xs.length+m≤c→m=0→K (.slice a xs.length c) (H.new T [i64 x]))∧
  (xs.length+m≤c→m≠0→xC a fun b o=>aE (Kg ((H.new T [i64 x]).own b) ((H.new T [i64 x]).C8 b)) fun l=>eC (o+(xs.length+m)*1≤l.length∧jX new) (K (.slice a (xs.length+m) c) ((H.new T [i64 x]).wr b (bq l (o+xs.length*1) new))))∧
  (c<xs.length+m→Builtin.nextslicecap (xs.length+m) c*8≤2^48∧
   rowOf (H.new T [i64 x]) 1 (.slice a xs.length c) fun _ Sp=>∀c',xs.length+m≤c'→K (.slice (some ⟨(H.new T [i64 x]).size,0,none⟩) (xs.length+m) c') ((H.new T [i64 x]).new T (Sp++new++cQ [i64 0] (c' - (xs.length+m)))))) ?_
 refine⟨fun _ h=>absurd h (by omega),fun Bu _=>?_,fun aR=>⟨?_,?_⟩⟩
 ·rcases h with rfl| ⟨b,o,l,rfl,h2,h3,h4,h5⟩
  ·omega
  ·have Vg:=fl.own h3 (fun h=>h)
   show aE (Kg ((H.new T [i64 x]).own b) ((H.new T [i64 x]).C8 b)) _
   rw[Vg]
   refine⟨⟨by omega,fun v hv=>by rw[List.mem_singleton.1 hv];rfl⟩,?_⟩
   have pt:(xs++[x]).length=xs.length+1:=by simp
   have e2:ai (fun z=>z=b) (H.new T [i64 x]) ((H.new T [i64 x]).wr b (bq l (o+xs.length*1) [i64 x])):=(ai.refl (fun z=>z=b) _).wr (fun _=>rfl) _
   refine hk _ _ nb (.inl rfl) ⟨some ⟨b,o,none⟩,c,by rw[pt],by rw[pt];exact Bu,.inr ⟨b,o,bq l (o+xs.length*1) [i64 x],rfl,h2,aj Vg,by rw[ng];exact h4,?_⟩⟩ ((fl.mono fun _ _ h=>h.elim).trans (e2.mono fun z _ e=>by rw[e];exact h2))
   rw[Nat.mul_one]
   apply List.ext_getElem?
   intro k
   rw[List.map_append,pt]
   by_cases hk:k<xs.length+1
   ·rw[List.getElem?_take_of_lt hk,List.getElem?_drop,getElem?_splice [i64 x] l _ _ (by simp;omega)]
    by_cases Ju:k<xs.length
    ·rw[if_neg (by omega),List.getElem?_append_left (by simpa using Ju),←h5,List.getElem?_take_of_lt Ju,List.getElem?_drop]
    ·have:k=xs.length:=by omega
     rw[if_pos (by simp;omega),List.getElem?_append_right (by simp;omega),this]
     simp
   ·rw[List.getElem?_eq_none (by simp;omega),List.getElem?_eq_none (by simp;omega)]
 ·have h2:Builtin.nextslicecap (xs.length+1) c≤2*(xs.length+1):=nextslicecap_le aR
  have h3:=Nat.mul_le_mul_right 8 h2
  omega
 ·refine ez.rowOf (n:=xs.length) (xs:=xs.map i64) h1 ?_
  intro c' KU
  have Pm:(H.new T [i64 x]).size=H.size+1:=au _ _ _
  refine hk _ _ (some (H.new T [i64 x]).size) (.inr ⟨_,rfl,by omega,by simp only[au];omega⟩) ⟨_,c',by simp,by simpa using KU,.inr ⟨(H.new T [i64 x]).size,0,_,rfl,rfl,aG _ _ _,?_,?_⟩⟩ ((fl.mono fun _ _ h=>h.elim).trans ((ai.refl _ _).new _ _))
  ·simp only[List.length_append,List.length_map,EI,List.length_singleton,Nat.mul_one]
   omega
  ·rw[List.drop_zero,List.map_append]
   exact List.take_left' (by simp)
theorem RK.low{s s':Nat}(r:RK s' ro ro')(hs:s≤s')(hz:∀z,s≤z→ro z= .no):RK s ro ro':=(RK.refl hz).trans r hs
theorem RK.none{s:Nat}(r:RK s ro ro'){z:Nat}(hz:z<s)(h:ro z= .no):ro' z= .no:=by
 rw[r.o z hz (fun x e=>by rw[h]at e;cases e),h]
end
section
variable {H H' : Hp} {ro ro' : Nat → Rl} {fb tb nn c : Nat} {l : List Value} {V : Int → Value} {ch : Int → List Int} {par : Int → Int} {kb : Int → Option Nat} {C : Nat → Prop} {w : Nw} {lt : Int → Int → Bool} {rows : Int → List Int} {W : List Int}
theorem lY.R5{hm:Int→Int}(f:lY (aH w) lt ch par rows W){x:Int}(hx:x∈W):0≤x∧x<w.cs.length:=by
 obtain⟨a,b,_⟩:=aF (f.wm x hx).2
 exact⟨a,b⟩
def KC(ro:Nat→Rl)(z:Nat):Prop:=KB ro z∨ro z= .cell
theorem FA(m:ForM H ro fb tb w.cs.length l V ch par kb)(hz:∀z,H.size≤z→ro z= .no)(hn:∃rest,H.own nn=some (ptr c::rest))(cq:CQ H c C w)(hC:∀z,C z→ro z= .cell)(aR:∀a b,aT w a b=true→lt a b=true)
  {x y:Int}(f:lY (aH w) lt ch par rows (x::y::W))(hh:aH w x=aH w y)(hd:(ch x).length=(ch y).length):
  ah Tryz.prog yt [ptr fb,.iface 198 (ptr nn),i64 x,i64 y] H fun v H'=>ax (∃p q ro' l' V' vQ,v=i64 p∧((p=x∧q=y)∨(p=y∧q=x))∧ForM H' ro' fb tb w.cs.length l' V' (aA ch p (ch p++[q])) (aI par q p) vQ∧
   lY (aH w) lt (aA ch p (ch p++[q])) (aI par q p) rows (p::W)∧CQ H' c C w∧RK H.size ro ro'∧(∀z,H'.size≤z→ro' z= .no)∧ai (KC ro) H H'):=by
 have xm:=f.R5 (hm:=aH w) (x:=x) (by simp)
 have VE:=f.R5 (hm:=aH w) (x:=y) (by simp)
 obtain⟨x1,x2⟩:=f.wm x (by simp)
 obtain⟨y1,y2⟩:=f.wm y (by simp)
 have QR:x≠y:=fun e=>by have:=f.wn;rw[e]at this;simp at this
 have zh:=cq.Fc
 have UR:(ch x).length≤w.cs.length:=bY (f.pr.nd x) fun c hc=>m.Hw x c hc
 obtain⟨rest,ho⟩:=hn
 refine bc yT ⟨rfl,?_⟩
 refine v1 iM.eq_1 ?_
 refine⟨_,_,cP,ptr c,rfl,hX (off:=0) (by kernel_rfl) (ae ho) rfl,(cI cq y x).mono ?_⟩
 rintro _ H1 ⟨rfl,c1,e1⟩
 have m1:=m.ext e1 (fun z eA h=>by
  have:=hC z h
  rcases eA with h2|h2| ⟨_,h2⟩<;>(rw[this]at h2;cases h2))
 have z1:=e1.size
 have U5:∀z,H1.size≤z→ro z= .no:=fun z h=>hz z (by omega)
 rw[jj (w:=w) (a:=y) (b:=x) y2 x2]
 cases qL:aT w y x
 ·refine vs ?_
  have hl:=aR _ _ (((aq w).Oo x y QR).resolve_right (by rw[qL];simp))
  refine(vd m1 U5 xm VE x1 y1 QR hd (by omega)).mono ?_
  rintro _ H2 ⟨rfl,qO,l2,V2,EH,m2,r2,eA,e2⟩
  refine vs ?_
  refine⟨x,y,qO,l2,V2,EH,rfl,.inl ⟨rfl,rfl⟩,m2,f.link hh hd hl,c1.ext e2 (fun z h hk=>?_),r2.low z1 hz,eA,(e1.mono fun z _ h=>.inr (hC z h)).trans (e2.mono fun z _ h=>.inl h)⟩
  have:=hC z h
  rcases hk with h2| ⟨_,h2⟩<;>(rw[this]at h2;cases h2)
 ·refine vs ?_
  have hl:=aR _ _ qL
  refine(vd m1 U5 VE xm y1 x1 QR.symm hd.symm (by omega)).mono ?_
  rintro _ H2 ⟨rfl,qO,l2,V2,EH,m2,r2,eA,e2⟩
  refine vs ?_
  refine⟨y,x,qO,l2,V2,EH,rfl,.inr ⟨rfl,rfl⟩,m2,(f.perm (List.Perm.swap ..)).link hh.symm hd.symm hl,c1.ext e2 (fun z h hk=>?_),r2.low z1 hz,eA,(e1.mono fun z _ h=>.inr (hC z h)).trans (e2.mono fun z _ h=>.inl h)⟩
  have:=hC z h
  rcases hk with h2| ⟨_,h2⟩<;>(rw[this]at h2;cases h2)
end
end Go.Proofs.YtjlnnljohemifaaGreat

namespace Go.Proofs.YtjlnnljohemifaaGreat
open Go Go.Vc
theorem ez.sub{H:Hp}{size n c:Nat}{a:Option Addr}{xs:List Value}(h:ez H size (.slice a n c) n xs){lo hi:Nat}(h1:lo≤hi)(h2:hi≤n){b':Option Addr}{c':Nat}(hb:lo<hi→b'=a.map (·.add (lo*size))):
  ez H size (.slice b' (hi - lo) c') (hi - lo) ((xs.drop (lo*size)).take ((hi - lo)*size)):=by
 obtain⟨hl,hv⟩:=h
 have e1:(hi - lo)*size=hi*size - lo*size:=Nat.sub_mul _ _ _
 have e2:hi*size≤n*size:=Nat.mul_le_mul_right _ h2
 have e3:lo*size≤hi*size:=Nat.mul_le_mul_right _ h1
 refine⟨by rw[List.length_take,List.length_drop,hl];omega,?_⟩
 by_cases aR:lo<hi
 ·rcases hv with ⟨hn,_⟩| ⟨b,o,c2,l,hs,mw,Bu,ht⟩
  ·omega
  ·right
   injection hs with fK Ox Io
   subst fK
   rw[hb aR]
   refine⟨b,o+lo*size,c',l,?_,mw,by omega,?_⟩
   ·simp[Addr.add]
   ·rw[←ht,List.drop_take,List.drop_drop,List.take_take,Nat.min_eq_left (by omega)]
 ·left
  exact⟨by omega,b',c',by rw[show hi - lo=0 by omega]⟩
theorem Sq{H:Hp}{a:Option Addr}{n c:Nat}{xs:List Int}(h:ez H 1 (.slice a n c) n (xs.map i64)){lo hi:Nat}{lo' hi':Int}(el:lo'=(lo:Int))(eh:hi'=(hi:Int))(h1:lo≤hi)(h2:hi≤n)(h3:n≤c):
  ∃a',Value.slice (if(c:Int)=lo' then a else Option.map (fun x:Addr=>x.add (lo'.toNat*1)) a) (hi'.toNat - lo'.toNat) ((c:Int).toNat - lo'.toNat)= .slice a' (hi - lo) (c - lo)∧
   ez H 1 (.slice a' (hi - lo) (c - lo)) (hi - lo) (((xs.drop lo).take (hi - lo)).map i64)∧hi - lo≤c - lo∧((xs.drop lo).take (hi - lo)).length=hi - lo:=by
 subst el;subst eh
 have hl:=h.1
 rw[List.length_map,Nat.mul_one]at hl
 refine⟨_,rfl,?_,by omega,by rw[List.length_take,List.length_drop];omega⟩
 have h4:=ez.sub h (lo:=lo) (hi:=hi) h1 h2 (c':=(c:Int).toNat - (lo:Int).toNat) (b':=if(c:Int)=(lo:Int)then a else Option.map (fun x:Addr=>x.add ((lo:Int).toNat*1)) a) (fun aR=>by rw[if_neg (by omega)];rfl)
 simp only[Nat.mul_one]at h4 ⊢
 rw[←List.map_drop,←List.map_take]at h4
 exact h4
def G3(H:Hp)(ro:Nat→Rl)(B:Nat)(v:Value)(xs:List Int):Prop:=
 ∃a c,v= .slice a xs.length c∧xs.length≤c∧(xs=[]∨∃b o l,a=some ⟨b,o,none⟩∧b<B∧¬KC ro b∧H.rd b=some l∧o+xs.length≤l.length∧(l.drop o).take xs.length=xs.map i64)
section
variable {H H' H0 : Hp} {ro ro' WQ : Nat → Rl} {B : Nat} {v : Value} {xs : List Int} {T : Nat → Prop}
theorem G3.rd(h:G3 H ro B v xs):ez H 1 v xs.length (xs.map i64):=by
 obtain⟨a,c,rfl,hc,h⟩:=h
 refine⟨by simp,?_⟩
 rcases h with rfl| ⟨b,o,l,rfl,_,_,h1,h2,h3⟩
 ·exact .inl ⟨rfl,a,c,rfl⟩
 ·exact .inr ⟨b,o,c,l,rfl,h1,by omega,by rw[Nat.mul_one];exact h3⟩
theorem G3.ext(h:G3 H ro B v xs)(e:ai T H H')(hT:∀z,z<B→¬KC ro z→¬T z)(hr:∀z,z<H.size→KC ro' z→KC ro z):G3 H' ro' B v xs:=by
 obtain⟨a,c,hv,hc,h⟩:=h
 exact⟨a,c,hv,hc,h.imp_right fun⟨b,o,l,h1,h2,h3,h4,h5⟩=>⟨b,o,l,h1,h2,fun h=>h3 (hr b (OV h4) h),e.rd h4 (hT b h2 h3),h5⟩⟩
theorem G3.tail{x:Int}{a:Option Addr}{c:Nat}(h:G3 H ro B (.slice a (x::xs).length c) (x::xs))(PO:Decidable ((c:Int)=1)):
  G3 H ro B (.slice (@ite (Option Addr) ((c:Int)=1) PO a (Option.map (fun(y:Addr)=>y.add (Int.toNat 1*1)) a)) (((xs.length+1:Nat):Int).toNat - Int.toNat 1) ((c:Int).toNat - Int.toNat 1)) xs:=by
 rw[show((xs.length+1:Nat):Int).toNat - Int.toNat 1=xs.length by simp,show(c:Int).toNat - Int.toNat 1=c - 1 by simp]
 obtain⟨a',c',hv,hc,h⟩:=h
 injection hv with e1 e2 e3
 subst e1 e3
 rw[List.length_cons]at hc
 refine⟨_,c - 1,rfl,by omega,?_⟩
 by_cases h1:(c:Int)=1
 ·exact .inl (List.length_eq_zero_iff.1 (by omega))
 ·rw[if_neg h1]
  rcases h with h| ⟨b,o,l,rfl,h2,h3,h4,h5,h6⟩
  ·cases h
  ·rw[List.length_cons]at h5 h6
   refine .inr ⟨b,o+1,l,rfl,h2,h3,h4,by omega,?_⟩
   rw[List.map_cons]at h6
   have h7:(l.drop (o+1))=(l.drop o).drop 1:=by rw[List.drop_drop]
   rw[h7,List.take_drop,Nat.add_comm,h6]
   rfl
theorem G3.head{x:Int}(h:G3 H ro B v (x::xs)):∃b o l c,v= .slice (some ⟨b,o,none⟩) (x::xs).length c∧H.rd b=some l∧b<H.size∧l[o]? =some (i64 x)∧(x::xs).length≤c:=by
 obtain⟨a,c,hv,hc,h⟩:=h
 rcases h with h| ⟨b,o,l,rfl,h2,h3,h4,h5,h6⟩
 ·cases h
 ·refine⟨b,o,l,c,hv,h4,OV h4,?_,hc⟩
  have h7:((x::xs).map i64)[0]? =some (i64 x):=rfl
  rw[←h6,List.getElem?_take,if_pos (by simp),List.getElem?_drop]at h7
  exact h7
theorem G3.cap(h:G3 H ro B v xs):∃a c,v= .slice a xs.length c∧xs.length≤c:=by
 obtain⟨a,c,hv,hc,_⟩:=h
 exact⟨a,c,hv,hc⟩
theorem RK.kcs{s:Nat}(r:RK s ro ro'){z:Nat}(hz:z<s)(h:KC ro' z):KC ro z:=by
 rcases h with h|h
 ·exact .inl (r.kbs hz h)
 ·refine .inr ?_
  by_cases hk:∃x,ro z= .sz x
  ·obtain⟨x,hx⟩:=hk
   obtain⟨y,hy⟩:=r.k z x hz hx
   rw[hy]at h;cases h
  ·rw[←r.o z hz (fun x hx=>hk ⟨x,hx⟩)];exact h
structure se(H0:Hp)(WQ:Nat→Rl)(nn fb tb c:Nat)(C:Nat→Prop)(w:Nw)(H:Hp)(ro:Nat→Rl)(l:List Value)(V:Int→Value)(ch:Int→List Int)(par:Int→Int)(kb:Int→Option Nat)(va vb:Value)(a b:List Int):Prop where
 m:ForM H ro fb tb w.cs.length l V ch par kb
 cq:CQ H c C w
 hC:∀z,C z→ro z= .cell
 own:∃rest,H.own nn=some (ptr c::rest)
 hn:ro nn= .RM
 hz:∀z,H.size≤z→ro z= .no
 rk:RK H0.size WQ ro
 ra:G3 H ro H0.size va a
 rb:G3 H ro H0.size vb b
 e:ai (KC WQ) H0 H
variable {nn fb tb c : Nat} {C : Nat → Prop} {w : Nw} {l : List Value} {V : Int → Value} {ch : Int → List Int} {par : Int → Int} {kb : Int → Option Nat} {va vb : Value} {a b : List Int}
theorem se.Ud(h:se H0 WQ nn fb tb c C w H ro l V ch par kb va vb a b)(e:ai T H H')(hT:∀z,T z→H0.size≤z∧ro z= .no):se H0 WQ nn fb tb c C w H' ro l V ch par kb va vb a b:=by
 have cw:∀z r,ro z=r→r≠ .no→¬T z:=fun z r h1 h2 ht=>h2 (by rw[←h1,(hT z ht).2])
 obtain⟨rest,ho⟩:=h.own
 have hs:=e.size
 refine⟨h.m.ext e (fun z hz=>?_),h.cq.ext e (fun z hz=>cw z _ (h.hC z hz) (by intro h;cases h)),h.hC,⟨rest,e.own ho (cw nn _ h.hn (by intro h;cases h))⟩,h.hn,fun z hz=>h.hz z (by omega),h.rk,
  h.ra.ext e (fun z hz _ ht=>by have:=(hT z ht).1;omega) (fun _ _ h=>h),h.rb.ext e (fun z hz _ ht=>by have:=(hT z ht).1;omega) (fun _ _ h=>h),?_⟩
 ·rcases hz with h1|h1| ⟨x,h1⟩<;>exact cw z _ h1 (by intro h;cases h)
 ·exact⟨Nat.le_trans h.e.size e.size,fun z hz hn=>by
   rw[e.aN z (Nat.lt_of_lt_of_le hz h.e.size) (fun ht=>by have:=(hT z ht).1;omega),h.e.aN z hz hn]⟩
end
end Go.Proofs.YtjlnnljohemifaaGreat

namespace Go.Proofs.YtjlnnljohemifaaGreat
open Go Go.Vc
theorem A9{H:Hp}{bx:Nat}{a:Option Addr}{c:Nat}{xs:List Int}(hb:H.own bx=some [.slice a xs.length c])(h:ez H 1 (.slice a xs.length c) xs.length (xs.map i64))(hm:xs.length≤1000000)(x:Int):
  ah Tryz.prog kU [i64 x,ptr bx] H fun v H'=>ax (v= .bool (decide (x∈xs))∧H'=H):=by
 refine xP mixed tY (nt:=7) (by kernel_rfl) (by simp) ?_
 refine v2 fk.eq_1 (ae hb) ?_
 refine(xo h x (by omega)).mono ?_
 rintro _ H' ⟨rfl,e⟩
 obtain rfl:=e.symm
 refine vs ?_
 exact⟨rfl,rfl⟩
section
variable {H H' : Hp} {ro ro' : Nat → Rl} {nn fb tb c : Nat} {C : Nat → Prop} {w : Nw} {l : List Value} {V : Int → Value} {ch : Int → List Int} {par : Int → Int} {kb : Int → Option Nat} {va vb : Value} {a b W0 : List Int} {lt : Int → Int → Bool} {rows : Int → List Int} {g : Int}
def WR(e:Env)(fb nn bx:Nat)(va vo vn:Value)(k:Nat):Prop:=
 e.find 0=some (ptr fb)∧e.find 1=some (.iface 198 (ptr nn))∧e.find 2=some va∧e.find 7=some (ptr bx)∧e.find 10=some vo∧e.find 11=some vn∧e.find 12=some (i64 k)
theorem Kh{P:Program}{A B:S}{env:Env}{H:Hp}{Kn:Env→Hp→Prop}{Kx:Nat→Env→Hp→Prop}{Kr:Env→Hp→Prop}(I:Env→Hp→Prop)(h:vc P A env H I Kx Kr)(k:∀e h,I e h→vc P B e h Kn Kx Kr):vc P (.seq A B) env H Kn Kx Kr:=
 EJ A env H _ _ _ _ _ _ k (fun _ _ _ h=>h) (fun _ _ h=>h) h
theorem se.ae9(h:se H ro nn fb tb c C w H' ro' l V ch par kb va vb a b):se H ro nn fb tb c C w H' ro' l V ch par kb (.slice none 0 0) (.slice none 0 0) [] []:=
 ⟨h.m,h.cq,h.hC,h.own,h.hn,h.hz,h.rk,⟨none,0,rfl,Nat.le_refl _,.inl rfl⟩,⟨none,0,rfl,Nat.le_refl _,.inl rfl⟩,h.e⟩
theorem se.afa{va':Value}{a':List Int}(h:se H ro nn fb tb c C w H' ro' l V ch par kb va vb a b)(r:G3 H' ro' H.size va' a'):se H ro nn fb tb c C w H' ro' l V ch par kb va' vb a' b:=
 ⟨h.m,h.cq,h.hC,h.own,h.hn,h.hz,h.rk,r,h.rb,h.e⟩
theorem se.Ss{vb':Value}{b':List Int}(h:se H ro nn fb tb c C w H' ro' l V ch par kb va vb a b)(r:G3 H' ro' H.size vb' b'):se H ro nn fb tb c C w H' ro' l V ch par kb va vb' a b':=
 ⟨h.m,h.cq,h.hC,h.own,h.hn,h.hz,h.rk,h.ra,r,h.e⟩
theorem se.Ej{H3:Hp}{vo:Value}{out:List Int}{nb Jk fo:Option Nat}(h:se H ro nn fb tb c C w H' ro' l V ch par kb va vb a b)(bx:H'.own H.size=some [vb])(so:Sl H' 1 vo out.length (out.map i64) fo)
  (hd:∀z,nb=some z∨fo=some z→H.size<z∧z<H'.size∧ro' z= .no)(TN:∀z,nb=some z→fo=some z→False)(e3:ai (fun z=>nb=some z) H' H3)(EQ:Jk=nb∨∃z,Jk=some z∧H'.size≤z∧z<H3.size):
  se H ro nn fb tb c C w H3 ro' l V ch par kb va vb a b∧H3.own H.size=some [vb]∧Sl H3 1 vo out.length (out.map i64) fo∧(∀z,Jk=some z∨fo=some z→H.size<z∧z<H3.size∧ro' z= .no)∧(∀z,Jk=some z→fo=some z→False):=by
 have oY:=aO bx
 have hs:=e3.size
 refine⟨h.Ud e3 (fun z hz=>by have:=hd z (.inl hz);exact⟨by omega,this.2.2⟩),e3.own bx (fun hz=>by have:=hd _ (.inl hz);omega),so.ext e3 (fun z h1 h2=>TN z h2 h1),fun z hz=>?_,fun z h1 h2=>?_⟩
 ·rcases hz with hz|hz
  ·rcases EQ with h1| ⟨y,h1,h2,h3⟩
   ·rw[h1]at hz
    have:=hd z (.inl hz)
    exact⟨this.1,by omega,this.2.2⟩
   ·rw[h1]at hz
    injection hz with hz
    subst hz
    exact⟨by omega,h3,h.hz _ h2⟩
  ·have:=hd z (.inr hz)
   exact⟨this.1,by omega,this.2.2⟩
 ·rcases EQ with h3| ⟨y,h3,h4,h5⟩
  ·exact TN z (by rw[←h3];exact h1) h2
  ·rw[h3]at h1
   injection h1 with h1
   have:=hd z (.inr h2)
   omega
def St(H0:Hp)(WQ:Nat→Rl)(nn fb tb c:Nat)(C:Nat→Prop)(w:Nw)(lt:Int→Int→Bool)(rows:Int→List Int)(W0:List Int)(g:Int)(HE:Int→List Int)(k ia ib io:Nat)(pn:Nat→Prop)(H:Hp)(va vb vn vo:Value):Prop:=
 ∃ (a b now out:List Int) (nb fo:Option Nat) (ro:Nat→Rl) (l:List Value) (V:Int→Value) (ch:Int→List Int) (par:Int→Int) (kb:Int→Option Nat),
  se H0 WQ nn fb tb c C w H ro l V ch par kb va vb a b∧lY (aH w) lt ch par rows (now++(a++(b++(out++W0))))∧pP (aH w) ch g k ia ib io a b now out∧pn now.length∧
  H.own H0.size=some [vb]∧ro H0.size= .no∧IG H vn now nb∧Sl H 1 vo out.length (out.map i64) fo∧(∀z,nb=some z∨fo=some z→H0.size<z∧z<H.size∧ro z= .no)∧(∀z,nb=some z→fo=some z→False)∧(∀z∈W0,ch z=HE z)
set_option maxRecDepth 100000 in
set_option maxHeartbeats 8000000 in
theorem Ek(h0:se H ro nn fb tb c C w H ro l V ch par kb va vb a b)(aR:∀a b,aT w a b=true→lt a b=true)(f0:lY (aH w) lt ch par rows (a++(b++W0)))(hra:FW ch a)(WS:FW ch b)(hg:∀c,c∈a∨c∈b→aH w c=g):
  ah Tryz.prog nw [ptr fb,.iface 198 (ptr nn),va,vb] H fun v H'=>ax (∃out ro' l' V' dT bG vQ vo fo,v= .tuple [vo,.bool true].toArray∧se H ro nn fb tb c C w H' ro' l' V' dT bG vQ (.slice none 0 0) (.slice none 0 0) [] []∧
   Sl H' 1 vo out.length (out.map i64) fo∧(∀z,fo=some z→H.size≤z∧ro' z= .no)∧lY (aH w) lt dT bG rows (out++W0)∧FW dT out∧(∀c∈out,aH w c=g)∧∀z∈W0,dT z=ch z):=by
 have zh:=h0.cq.Fc
 obtain⟨aa,ca,rfl,hca⟩:=h0.ra.cap
 obtain⟨ab,cb,rfl,HF⟩:=h0.rb.cap
 obtain⟨n1,n2,n3⟩:=List.nodup_append.1 f0.wn
 have bS:∀x∈a++(b++W0),(0≤x∧x<w.cs.length)∧par x= -1:=fun x hx=>⟨f0.R5 (hm:=aH w) hx,(f0.wm x hx).1⟩
 have hla:=bY n1 fun c hc=>(bS c (List.mem_append_left _ hc)).1
 have Hx:=bY (List.nodup_append.1 n2).1 fun c hc=>(bS c (List.mem_append_right _ (List.mem_append_left _ hc))).1
 refine bc wQ ⟨rfl,?_⟩
 refine v1 nF.eq_1 ?_
 have e1:ai (fun z=>H.size≤z) H (H.new 24 [.slice ab b.length cb]):=((ai.refl _ _).new _ _:ay H _).mono fun _ _ h=>h.elim
 have bx1:(H.new 24 [.slice ab b.length cb]).own H.size=some [.slice ab b.length cb]:=aG _ _ _
 have z1:(H.new 24 [.slice ab b.length cb]).size=H.size+1:=au _ _ _
 have h1:=h0.Ud e1 (fun z hz=>⟨hz,h0.hz z hz⟩)
 generalize H.new 24 [.slice ab b.length cb]=H1 at*
 refine(xB h1.m h1.ra.rd (fun x hx=>bS x (List.mem_append_left _ hx)) hra (by omega)).mono ?_
 rintro _ H' ⟨rfl,e⟩
 obtain rfl:=e.symm
 refine v1 (ae bx1) ?_
 refine(xB h1.m h1.rb.rd (fun x hx=>bS x (List.mem_append_right _ (List.mem_append_left _ hx))) WS (by omega)).mono ?_
 rintro _ H' ⟨rfl,e⟩
 obtain rfl:=e.symm
 refine vs ?_
 refine(qD (H:=H1) kU [ptr H.size] (fun x=>decide (x∈b)) (fun H'=>H'=H1) rfl (fun H' hI=>by rw[hI];exact h1.ra.rd) (by kernel_rfl) (fun H' x hx hI=>?_) (by omega)).mono ?_
 ·rw[hI]
  exact A9 bx1 h1.rb.rd (by omega) x
 rintro _ H' ⟨rfl,e⟩
 obtain rfl:=e.symm
 have IH:(a.any fun x=>decide (x∈b))=false:=List.any_eq_false.2 fun x hx=>by
  simp only[decide_eq_true_eq]
  exact fun hb=>n3 x hx x (List.mem_append_left _ hb) rfl
 rw[IH]
 refine vs ?_
 have i0:pP (aH w) ch g 0 0 0 0 a b [] []:=⟨hra,WS,List.Pairwise.nil,fun _ _=>Nat.zero_le _,fun _ _=>Nat.zero_le _,by simp,by simp,fun c hc=>hg c (by simpa using hc)⟩
 have d0:∀z,((none:Option Nat)=some z∨(none:Option Nat)=some z)→H.size<z∧z<H1.size∧ro z= .no:=fun z hz=>by rcases hz with h|h<;>cases h
 have d00:∀z,(none:Option Nat)=some z→(none:Option Nat)=some z→False:=fun z h=>by cases h
 have cz0:St H ro nn fb tb c C w lt rows W0 g ch 0 0 0 0 (fun n=>n≤1) H1 (.slice aa a.length ca) (.slice ab b.length cb) (.slice none 0 0) (.slice none 0 0):=
  ⟨a,b,[],[],none,none,ro,l,V,ch,par,kb,h1,f0,i0,Nat.zero_le _,bx1,h0.hz _ (Nat.le_refl _),IG.nil _ _,Sl.nil _ _,d0,d00,fun _ _=>rfl⟩
 refine bD.intro (fun mm env H'=>∃ (k:Nat) (va vb vn vo:Value),mm=w.cs.length+1 - k∧St H ro nn fb tb c C w lt rows W0 g ch k k k k (fun n=>n≤1) H' va vb vn vo∧
  env=[(0,ptr fb),(1,.iface 198 (ptr nn)),(2,va),(7,ptr H.size),(10,vo),(11,vn),(12,i64 k)]) _ ⟨0,_,_,_,_,rfl,cz0,rfl⟩ ?_
 clear h1 i0 bx1 f0 hra WS hg bS n1 n2 n3 hla Hx IH h0 e1 d0 d00 cz0 hca HF
 rintro mm env H2 ⟨k,va,vb,vn,vo,rfl,Tm,rfl⟩
 obtain⟨a,b,now,out,nb,fo,qO,l2,V2,n7,lS,EH,h2,f2,i2,Qa,sC,EK,FC,EL,oN,tu,C9⟩:=id Tm
 obtain⟨aa,ca,rfl,hca⟩:=h2.ra.cap
 obtain⟨ab,cb,rfl,HF⟩:=h2.rb.cap
 obtain⟨an,cn,rfl,PM⟩:=FC.cap
 obtain⟨ao,co,rfl⟩:=Sl.shape EL
 have NF:=aO sC
 have kM:=f2.wn
 have fY:=bY kM fun c hc=>f2.R5 (hm:=aH w) hc
 simp only[List.length_append]at fY
 refine v1 (ae sC) ?_
 rw[wrap64 (n:=(a.length:Int)+b.length) (by omega) (by omega),wrap64 (n:=(a.length:Int)+b.length+now.length) (by omega) (by omega)]
 refine am.dec (fun VM=>?_) (fun VM=>?_)
 rotate_left
 ·refine vs ?_
  have TK:a=[]:=List.length_eq_zero_iff.1 (by omega)
  have RB:b=[]:=List.length_eq_zero_iff.1 (by omega)
  have PD:now=[]:=List.length_eq_zero_iff.1 (by omega)
  subst TK RB PD
  refine⟨out,qO,l2,V2,n7,lS,EH,_,fo,rfl,h2.ae9,EL,fun z hz=>⟨by have:=oN z (.inr hz);omega,(oN z (.inr hz)).2.2⟩,f2,i2.ro,fun c hc=>i2.hg c (.inr (.inr (.inr hc))),C9⟩
 have bm:∀z,(n7 z).length≤w.cs.length:=fun z=>bY (f2.pr.nd z) fun c hc=>h2.m.Hw z c hc
 have hk:k≤w.cs.length:=by
  by_cases TK:a=[]
  ·by_cases RB:b=[]
   ·obtain⟨x,hx⟩:∃x,x∈now:=by
     cases now with
     |nil=>subst TK RB;simp at VM
     |cons x r=>exact⟨x,by simp⟩
    have:=i2.kn x hx
    have:=bm x
    omega
   ·obtain⟨x,r,rfl⟩:=List.exists_cons_of_ne_nil RB
    have:=i2.kb x (by simp)
    have:=bm x
    omega
  ·obtain⟨x,r,rfl⟩:=List.exists_cons_of_ne_nil TK
   have:=i2.ka x (by simp)
   have:=bm x
   omega
 clear VM bm fY kM
 rw[Su,Ue,WT,WU]
 refine Kh (fun e h=>∃va vb vn vo,St H ro nn fb tb c C w lt rows W0 g ch k (k+1) k k (fun n=>n≤2) h va vb vn vo∧WR e fb nn H.size va vo vn k) ?_ ?_
 ·refine vs ?_
  refine am.dec (fun ga=>?_) (fun ga=>?_)
  ·obtain⟨x,r,rfl⟩:∃x r,a=x::r:=List.exists_cons_of_ne_nil (fun h=>by rw[h]at ga;simp at ga)
   obtain⟨pb,po,pl,pc,hv,mw,PC,bM,hpc⟩:=h2.ra.head
   injection hv with FQ D1 hv3
   subst FQ hv3
   refine vs ?_
   refine⟨⟨by omega,by omega⟩,?_⟩
   refine v5 mw bM Int.toNat_zero Nat.zero_mul Nat.add_zero ?_
   refine(de h2.m x).mono ?_
   rintro _ H' ⟨rfl,e⟩
   obtain rfl:=e.symm
   refine vs ?_
   refine am.dec (fun gd=>?_) (fun gd=>?_)
   ·refine vs ?_
    refine⟨⟨by omega,by omega⟩,?_⟩
    refine v5 mw bM Int.toNat_zero Nat.zero_mul Nat.add_zero ?_
    refine FC.push x (by omega) fun w' H3 Jk EQ Qb e3=>?_
    obtain⟨h3,El,NG,Fx,Em⟩:=h2.Ej sC EL oN tu e3 EQ
    refine vs ?_
    have xm:(x::r).length=r.length+1:=List.length_cons
    refine⟨⟨by omega,by omega,by omega,by omega⟩,?_⟩
    refine vs ?_
    have fp:now++(x::r++(b++(out++W0)))=now++[x]++(r++(b++(out++W0))):=by simp
    rw[fp]at f2
    exact⟨_,_,_,_,⟨r,b,now++[x],out,Jk,fo,qO,l2,V2,n7,lS,EH,h3.afa (h3.ra.tail _),f2,i2.Zn (by omega),by rw[List.length_append,List.length_singleton];omega,El,EK,Qb,NG,Fx,Em,C9⟩,rfl,rfl,rfl,rfl,rfl,rfl,rfl⟩
   ·refine vs ?_
    exact⟨_,_,_,_,⟨x::r,b,now,out,nb,fo,qO,l2,V2,n7,lS,EH,h2,f2,i2.UN (fun c hc=>by injection hc with hc;rw[←hc];omega),by omega,sC,EK,FC,EL,oN,tu,C9⟩,rfl,rfl,rfl,rfl,rfl,rfl,rfl⟩
  ·refine vs ?_
   have TK:a=[]:=List.length_eq_zero_iff.1 (by omega)
   exact⟨_,_,_,_,⟨a,b,now,out,nb,fo,qO,l2,V2,n7,lS,EH,h2,f2,i2.UN (fun c hc=>by rw[TK]at hc;cases hc),by omega,sC,EK,FC,EL,oN,tu,C9⟩,rfl,rfl,rfl,rfl,rfl,rfl,rfl⟩
 clear Tm h2 f2 i2 Qa sC EK FC EL oN tu C9 NF hca HF PM
 rintro e2 H2 ⟨va,vb,vn,vo,Tm,hv⟩
 obtain⟨a,b,now,out,nb,fo,qO,l2,V2,n7,lS,EH,h2,f2,i2,Qa,sC,EK,FC,EL,oN,tu,C9⟩:=id Tm
 obtain⟨ab,cb,rfl,HF⟩:=h2.rb.cap
 obtain⟨an,cn,rfl,PM⟩:=FC.cap
 have NF:=aO sC
 obtain⟨II,FQ,D1,IJ,sf,si,sj⟩:=hv
 refine Kh (fun e h=>∃va vb vn vo,St H ro nn fb tb c C w lt rows W0 g ch k (k+1) (k+1) k (fun n=>n≤3) h va vb vn vo∧WR e fb nn H.size va vo vn k) ?_ ?_
 ·refine v8 II FQ D1 IJ sf si sj (ae sC) ?_
  refine am.dec (fun gb=>?_) (fun gb=>?_)
  ·obtain⟨x,r,rfl⟩:∃x r,b=x::r:=List.exists_cons_of_ne_nil (fun h=>by rw[h]at gb;simp at gb)
   obtain⟨pb,po,pl,pc,hv,mw,PC,bM,hpc⟩:=h2.rb.head
   injection hv with Sv aaD Sw
   subst Sv Sw
   refine v8 II FQ D1 IJ sf si sj (ae sC) ?_
   refine⟨⟨by omega,by omega⟩,?_⟩
   refine v12 mw bM Int.toNat_zero Nat.zero_mul Nat.add_zero II FQ D1 IJ sf si sj ?_
   refine(de h2.m x).mono ?_
   rintro _ H' ⟨rfl,e⟩
   obtain rfl:=e.symm
   refine v7 II FQ D1 IJ sf si sj ?_
   have xm:(x::r).length=r.length+1:=List.length_cons
   have fp:(now++(a++(x::r++(out++W0)))).Perm (now++[x]++(a++(r++(out++W0)))):=by
    rw[List.perm_iff_count]
    intro z
    simp only[List.count_append,List.count_cons,List.cons_append,List.count_nil]
    omega
   refine am.dec (fun gd=>?_) (fun gd=>?_)
   ·refine vs ?_
    replace f2:=f2.perm fp
    refine rV.intro (fun _=>True) trivial ?_
    refine vs ?_
    refine Jd.intro ?_ ?_
    ·refine v6 (ae sC) mw bM Int.toNat_zero Nat.zero_mul Nat.add_zero ?_
     refine⟨⟨by omega,by omega⟩,?_⟩
     refine v6 (ae sC) mw bM Int.toNat_zero Nat.zero_mul Nat.add_zero ?_
     refine Jd.intro ?_ ?_
     ·refine v6 (ae sC) mw bM Int.toNat_zero Nat.zero_mul Nat.add_zero ?_
      refine Jd.intro ?_ ?_
      ·refine v6 (ae sC) mw bM Int.toNat_zero Nat.zero_mul Nat.add_zero ?_
       refine Jd.intro ?_ ?_
       ·refine vs ?_
        refine FC.push x (by omega) fun w' H3 Jk EQ Qb e3=>?_
        obtain⟨h3,El,NG,Fx,Em⟩:=h2.Ej sC EL oN tu e3 EQ
        refine v8 (ae El) El mw bM Int.toNat_zero Nat.zero_mul Nat.add_zero Nat.zero_add ?_
        refine⟨⟨by omega,by omega,by omega,by omega⟩,?_⟩
        refine v8 (ae El) El mw bM Int.toNat_zero Nat.zero_mul Nat.add_zero Nat.zero_add ?_
        have e4:∀v,ai (fun z=>z=H.size) H3 (H3.wr H.size [v]):=fun v=>(ai.refl (fun z=>z=H.size) _).wr (fun _=>rfl) _
        have Uf:∀v,(H3.wr H.size [v]).own H.size=some [v]:=fun v=>aj El
        have h4:=fun v=>h3.Ud (e4 v) (fun z hz=>by rw[hz];exact⟨Nat.le_refl _,EK⟩)
        exact⟨_,_,_,_,⟨a,r,now++[x],out,Jk,fo,qO,l2,V2,n7,lS,EH,(h4 _).Ss ((h4 _).rb.tail _),f2,i2.KW (by omega),by rw[List.length_append,List.length_singleton];omega,Uf _,EK,Qb.ext (e4 _) (fun z hz e=>by have:=Fx z (.inl hz);omega),NG.ext (e4 _) (fun z hz e=>by have:=Fx z (.inr hz);omega),fun z hz=>by rw[gh];exact Fx z hz,Em,C9⟩,rfl,rfl,rfl,rfl,rfl,rfl,rfl⟩
       ·refine v6 (ae sC) mw bM Int.toNat_zero Nat.zero_mul Nat.add_zero ?_
        refine⟨⟨by omega,by omega,by omega,by omega⟩,?_⟩
        refine v6 (ae sC) mw bM Int.toNat_zero Nat.zero_mul Nat.add_zero ?_
        refine FC.push x (by omega) fun w' H3 Jk EQ Qb e3=>?_
        obtain⟨h3,El,NG,Fx,Em⟩:=h2.Ej sC EL oN tu e3 EQ
        refine v8 (ae El) El mw bM Int.toNat_zero Nat.zero_mul Nat.add_zero Nat.zero_add ?_
        have e4:∀v,ai (fun z=>z=H.size) H3 (H3.wr H.size [v]):=fun v=>(ai.refl (fun z=>z=H.size) _).wr (fun _=>rfl) _
        have Uf:∀v,(H3.wr H.size [v]).own H.size=some [v]:=fun v=>aj El
        have h4:=fun v=>h3.Ud (e4 v) (fun z hz=>by rw[hz];exact⟨Nat.le_refl _,EK⟩)
        exact⟨_,_,_,_,⟨a,r,now++[x],out,Jk,fo,qO,l2,V2,n7,lS,EH,(h4 _).Ss ((h4 _).rb.tail _),f2,i2.KW (by omega),by rw[List.length_append,List.length_singleton];omega,Uf _,EK,Qb.ext (e4 _) (fun z hz e=>by have:=Fx z (.inl hz);omega),NG.ext (e4 _) (fun z hz e=>by have:=Fx z (.inr hz);omega),fun z hz=>by rw[gh];exact Fx z hz,Em,C9⟩,rfl,rfl,rfl,rfl,rfl,rfl,rfl⟩
      ·refine v6 (ae sC) mw bM Int.toNat_zero Nat.zero_mul Nat.add_zero ?_
       refine⟨⟨by omega,by omega,by omega,by omega⟩,?_⟩
       refine v6 (ae sC) mw bM Int.toNat_zero Nat.zero_mul Nat.add_zero ?_
       refine FC.push x (by omega) fun w' H3 Jk EQ Qb e3=>?_
       obtain⟨h3,El,NG,Fx,Em⟩:=h2.Ej sC EL oN tu e3 EQ
       refine v8 (ae El) El mw bM Int.toNat_zero Nat.zero_mul Nat.add_zero Nat.zero_add ?_
       have e4:∀v,ai (fun z=>z=H.size) H3 (H3.wr H.size [v]):=fun v=>(ai.refl (fun z=>z=H.size) _).wr (fun _=>rfl) _
       have Uf:∀v,(H3.wr H.size [v]).own H.size=some [v]:=fun v=>aj El
       have h4:=fun v=>h3.Ud (e4 v) (fun z hz=>by rw[hz];exact⟨Nat.le_refl _,EK⟩)
       exact⟨_,_,_,_,⟨a,r,now++[x],out,Jk,fo,qO,l2,V2,n7,lS,EH,(h4 _).Ss ((h4 _).rb.tail _),f2,i2.KW (by omega),by rw[List.length_append,List.length_singleton];omega,Uf _,EK,Qb.ext (e4 _) (fun z hz e=>by have:=Fx z (.inl hz);omega),NG.ext (e4 _) (fun z hz e=>by have:=Fx z (.inr hz);omega),fun z hz=>by rw[gh];exact Fx z hz,Em,C9⟩,rfl,rfl,rfl,rfl,rfl,rfl,rfl⟩
     ·refine v6 (ae sC) mw bM Int.toNat_zero Nat.zero_mul Nat.add_zero ?_
      refine⟨⟨by omega,by omega,by omega,by omega⟩,?_⟩
      refine v6 (ae sC) mw bM Int.toNat_zero Nat.zero_mul Nat.add_zero ?_
      refine FC.push x (by omega) fun w' H3 Jk EQ Qb e3=>?_
      obtain⟨h3,El,NG,Fx,Em⟩:=h2.Ej sC EL oN tu e3 EQ
      refine v8 (ae El) El mw bM Int.toNat_zero Nat.zero_mul Nat.add_zero Nat.zero_add ?_
      have e4:∀v,ai (fun z=>z=H.size) H3 (H3.wr H.size [v]):=fun v=>(ai.refl (fun z=>z=H.size) _).wr (fun _=>rfl) _
      have Uf:∀v,(H3.wr H.size [v]).own H.size=some [v]:=fun v=>aj El
      have h4:=fun v=>h3.Ud (e4 v) (fun z hz=>by rw[hz];exact⟨Nat.le_refl _,EK⟩)
      exact⟨_,_,_,_,⟨a,r,now++[x],out,Jk,fo,qO,l2,V2,n7,lS,EH,(h4 _).Ss ((h4 _).rb.tail _),f2,i2.KW (by omega),by rw[List.length_append,List.length_singleton];omega,Uf _,EK,Qb.ext (e4 _) (fun z hz e=>by have:=Fx z (.inl hz);omega),NG.ext (e4 _) (fun z hz e=>by have:=Fx z (.inr hz);omega),fun z hz=>by rw[gh];exact Fx z hz,Em,C9⟩,rfl,rfl,rfl,rfl,rfl,rfl,rfl⟩
    ·refine v6 (ae sC) mw bM Int.toNat_zero Nat.zero_mul Nat.add_zero ?_
     refine⟨⟨by omega,by omega,by omega,by omega⟩,?_⟩
     refine v6 (ae sC) mw bM Int.toNat_zero Nat.zero_mul Nat.add_zero ?_
     refine⟨⟨by omega,by omega⟩,?_⟩
     refine v6 (ae sC) mw bM Int.toNat_zero Nat.zero_mul Nat.add_zero ?_
     refine FC.push x (by omega) fun w' H3 Jk EQ Qb e3=>?_
     obtain⟨h3,El,NG,Fx,Em⟩:=h2.Ej sC EL oN tu e3 EQ
     refine v8 (ae El) El mw bM Int.toNat_zero Nat.zero_mul Nat.add_zero Nat.zero_add ?_
     have e4:∀v,ai (fun z=>z=H.size) H3 (H3.wr H.size [v]):=fun v=>(ai.refl (fun z=>z=H.size) _).wr (fun _=>rfl) _
     have Uf:∀v,(H3.wr H.size [v]).own H.size=some [v]:=fun v=>aj El
     have h4:=fun v=>h3.Ud (e4 v) (fun z hz=>by rw[hz];exact⟨Nat.le_refl _,EK⟩)
     exact⟨_,_,_,_,⟨a,r,now++[x],out,Jk,fo,qO,l2,V2,n7,lS,EH,(h4 _).Ss ((h4 _).rb.tail _),f2,i2.KW (by omega),by rw[List.length_append,List.length_singleton];omega,Uf _,EK,Qb.ext (e4 _) (fun z hz e=>by have:=Fx z (.inl hz);omega),NG.ext (e4 _) (fun z hz e=>by have:=Fx z (.inr hz);omega),fun z hz=>by rw[gh];exact Fx z hz,Em,C9⟩,rfl,rfl,rfl,rfl,rfl,rfl,rfl⟩
   ·refine vs ?_
    exact⟨_,_,_,_,⟨a,x::r,now,out,nb,fo,qO,l2,V2,n7,lS,EH,h2,f2,i2.UO (fun c hc=>by injection hc with hc;rw[←hc];omega),by omega,sC,EK,FC,EL,oN,tu,C9⟩,rfl,rfl,rfl,rfl,rfl,rfl,rfl⟩
  ·refine v7 II FQ D1 IJ sf si sj ?_
   have RB:b=[]:=List.length_eq_zero_iff.1 (by omega)
   exact⟨_,_,_,_,⟨a,b,now,out,nb,fo,qO,l2,V2,n7,lS,EH,h2,f2,i2.UO (fun c hc=>by rw[RB]at hc;cases hc),by omega,sC,EK,FC,EL,oN,tu,C9⟩,rfl,rfl,rfl,rfl,rfl,rfl,rfl⟩
 clear Tm h2 f2 i2 Qa sC EK FC EL oN tu C9 NF HF PM II FQ D1 IJ sf si sj
 rintro e3 H2 ⟨va,vb,vn,vo,Tm,hv⟩
 obtain⟨a,b,now,out,nb,fo,qO,l2,V2,n7,lS,EH,h2,f2,i2,Qa,sC,EK,FC,EL,oN,tu,C9⟩:=id Tm
 obtain⟨an,cn,rfl,PM⟩:=FC.cap
 obtain⟨ao,co,rfl⟩:=Sl.shape EL
 have NF:=aO sC
 have fY:=bY f2.wn fun c hc=>f2.R5 (hm:=aH w) hc
 simp only[List.length_append]at fY
 obtain⟨II,FQ,D1,IJ,sf,si,sj⟩:=hv
 refine Kh (fun e h=>∃va vb vn vo,St H ro nn fb tb c C w lt rows W0 g ch k (k+1) (k+1) (k+1) (fun n=>n=0∨n=2) h va vb vn vo∧WR e fb nn H.size va vo vn k) ?_ ?_
 ·refine v8 II FQ D1 IJ sf si sj (ae sC) ?_
  rw[if_neg (by decide:¬ (2:Int)=0),Int.tmod_eq_emod_of_nonneg (by omega)]
  refine v7 II FQ D1 IJ sf si sj ?_
  refine am.dec (fun gp=>?_) (fun gp=>?_)
  ·obtain⟨x,r,rfl⟩:∃x r,now=x::r:=List.exists_cons_of_ne_nil (fun h=>by rw[h]at gp;simp at gp)
   have xm:(x::r).length=r.length+1:=List.length_cons
   obtain⟨a',c',OM,KU,hn'⟩:=id FC
   injection OM with Sv aaD Sw
   subst Sv Sw
   obtain⟨pb,po,pl,rfl,YB,WV,MJ,hpt⟩:=hn'.resolve_left (by omega)
   have bM:pl[po]? =some (i64 x):=by
    have h7:((x::r).map i64)[0]? =some (i64 x):=rfl
    rw[←hpt,List.getElem?_take,if_pos (by simp),List.getElem?_drop]at h7
    exact h7
   have mw:=ae WV
   refine v7 II FQ D1 IJ sf si sj ?_
   refine⟨⟨by omega,by omega⟩,?_⟩
   refine v5 mw bM Int.toNat_zero Nat.zero_mul Nat.add_zero ?_
   refine RO EL x (by omega) fun w' H3 RP QL NG e3=>?_
   have h3:=h2.Ud e3 (fun z hz=>by have:=oN z (.inr hz);exact⟨by omega,this.2.2⟩)
   have El:=e3.own sC (fun hz=>by have:=oN _ (.inr hz);omega)
   have Qb:=FC.ext e3 (fun z h1 h2=>tu z h1 h2)
   have Io:=e3.size
   refine v7 II FQ D1 IJ sf si sj ?_
   refine⟨⟨by omega,by omega,by omega,by omega⟩,?_⟩
   refine v7 II FQ D1 IJ sf si sj ?_
   have fp:(x::r++(a++(b++(out++W0)))).Perm (r++(a++(b++(out++[x]++W0)))):=by
    rw[List.perm_iff_count]
    intro z
    simp only[List.count_append,List.count_cons,List.cons_append,List.count_nil]
    omega
   have Fx:∀z,nb=some z∨RP=some z→H.size<z∧z<H3.size∧qO z= .no:=fun z hz=>by
    rcases hz with hz|hz
    ·have:=oN z (.inl hz)
     exact⟨this.1,by omega,this.2.2⟩
    ·rcases QL with h1| ⟨y,h1,Nc,Vg⟩
     ·rw[h1]at hz
      have:=oN z (.inr hz)
      exact⟨this.1,by omega,this.2.2⟩
     ·rw[h1]at hz
      injection hz with hz
      subst hz
      exact⟨by omega,Vg,h2.hz _ Nc⟩
   have Em:∀z,nb=some z→RP=some z→False:=fun z h1 Nc=>by
    rcases QL with Vg| ⟨y,Vg,h4',h5'⟩
    ·exact tu z h1 (by rw[←Vg];exact Nc)
    ·rw[Vg]at Nc
     injection Nc with Nc
     have:=oN z (.inl h1)
     omega
   exact⟨_,_,_,_,⟨a,b,r,out++[x],nb,RP,qO,l2,V2,n7,lS,EH,h3,f2.perm fp,i2.adC,by omega,El,EK,Qb.tail _,NG,Fx,Em,C9⟩,rfl,rfl,rfl,rfl,rfl,rfl,rfl⟩
  ·refine v7 II FQ D1 IJ sf si sj ?_
   exact⟨_,_,_,_,⟨a,b,now,out,nb,fo,qO,l2,V2,n7,lS,EH,h2,f2,⟨i2.ra,i2.rb,i2.ro,i2.ka,i2.kb,i2.kn,fun c hc=>by have:=i2.ko c hc;omega,i2.hg⟩,by omega,sC,EK,FC,EL,oN,tu,C9⟩,rfl,rfl,rfl,rfl,rfl,rfl,rfl⟩
 clear Tm h2 f2 i2 Qa sC EK FC EL oN tu C9 NF PM II FQ D1 IJ sf si sj fY
 rintro e4 H2 ⟨va,vb,vn,vo,Tm,hv⟩
 obtain⟨a,b,now,out,nb,fo,qO,l2,V2,n7,lS,EH,h2,f2,i2,Qa,sC,EK,FC,EL,oN,tu,C9⟩:=id Tm
 obtain⟨an,cn,rfl,PM⟩:=FC.cap
 have NF:=aO sC
 obtain⟨II,FQ,D1,IJ,sf,si,sj⟩:=hv
 refine v8 II FQ D1 IJ sf si sj (ae sC) ?_
 refine am.dec (fun gp=>?_) (fun gp=>?_)
 ·obtain⟨x,y,rfl⟩:∃x y,now=[x,y]:=by
   match now,gp with
   | [x,y],_=>exact⟨x,y,rfl⟩
   | [],gp=>simp at gp
   | [_],gp=>simp at gp
   |_::_::_::_,gp=>simp at gp;omega
  obtain⟨a',c',OM,KU,hn'⟩:=id FC
  injection OM with Sv aaD Sw
  subst Sv Sw
  have vU:([x,y]:List Int).length=2:=rfl
  obtain⟨pb,po,pl,rfl,YB,WV,MJ,hpt⟩:=hn'.resolve_left (by omega)
  have WW:pl[po]? =some (i64 x):=by
   have h7:(([x,y]:List Int).map i64)[0]? =some (i64 x):=rfl
   rw[←hpt,List.getElem?_take,if_pos (by simp),List.getElem?_drop]at h7
   exact h7
  have WX:pl[po+1]? =some (i64 y):=by
   have h7:(([x,y]:List Int).map i64)[1]? =some (i64 y):=rfl
   rw[←hpt,List.getElem?_take,if_pos (by simp),List.getElem?_drop]at h7
   exact h7
  have mw:=ae WV
  refine v7 II FQ D1 IJ sf si sj ?_
  refine⟨⟨by omega,by omega⟩,?_⟩
  refine v12 mw WW Int.toNat_zero Nat.zero_mul Nat.add_zero II FQ D1 IJ sf si sj ?_
  refine⟨⟨by omega,by omega⟩,?_⟩
  refine v11 mw WX Int.toNat_one Nat.one_mul II FQ D1 IJ sf si sj ?_
  have FI:=i2.kn x (by simp)
  have hyn:=i2.kn y (by simp)
  have OH:=i2.hg x (.inr (.inr (.inl (by simp))))
  have hyg:=i2.hg y (.inr (.inr (.inl (by simp))))
  refine(FA h2.m h2.hz h2.own h2.cq h2.hC aR (W:=a++(b++(out++W0))) f2 (by omega) (by omega)).mono ?_
  rintro _ H3 ⟨p,q,Qc,l3,V3,WY,rfl,Ol,m3,f3,c3,r3,Wi,e3⟩
  have aaF:∀z,qO z= .no→¬KC qO z:=fun z h1 h2=>by
   rcases h2 with (h2| ⟨_,h2⟩)|h2<;>(rw[h1]at h2;cases h2)
  have Io:=e3.size
  obtain⟨rest,ho⟩:=h2.own
  have afc:¬KC qO nn:=fun h=>by
   have:=h2.hn
   rcases h with (h| ⟨_,h⟩)|h<;>(rw[this]at h;cases h)
  have h3:se H ro nn fb tb c C w H3 Qc l3 V3 (aA n7 p (n7 p++[q])) (aI lS q p) WY va vb a b:=by
   refine⟨m3,c3,fun z hz=>?_,⟨rest,e3.own ho afc⟩,?_,Wi,h2.rk.trans r3 h2.e.size,h2.ra.ext e3 (fun z _ h=>h) (fun z hz h=>r3.kcs hz h),h2.rb.ext e3 (fun z _ h=>h) (fun z hz h=>r3.kcs hz h),?_⟩
   ·have h5:=h2.hC z hz
    rw[r3.o z (h2.cq.slt z hz) (fun x e=>by rw[h5]at e;cases e),h5]
   ·rw[r3.o nn (aO ho) (fun x e=>by rw[h2.hn]at e;cases e),h2.hn]
   ·exact⟨Nat.le_trans h2.e.size e3.size,fun z hz hn=>by
     rw[e3.aN z (Nat.lt_of_lt_of_le hz h2.e.size) (fun h=>hn (h2.rk.kcs hz h)),h2.e.aN z hz hn]⟩
  have El:=e3.own sC (aaF _ EK)
  have NG:=EL.ext e3 (fun z hz=>aaF z (oN z (.inr hz)).2.2)
  have f4:ay H3 (H3.new 3 [i64 p]):=(ai.refl _ _).new _ _
  have f4':ai (fun _=>False) H3 (H3.new 3 [i64 p]):=f4
  have h4:=h3.Ud f4' (fun z hz=>hz.elim)
  have nw4:IG (H3.new 3 [i64 p]) (.slice (some ⟨H3.size,0,none⟩) 1 1) [p] (some H3.size):=IG.lit p
  have YB:=List.nodup_cons.1 f3.wn
  have uO:p∉a∧p∉b∧p∉out∧p∉W0:=by
   have:=YB.1
   simp only[List.mem_append,not_or]at this
   exact⟨this.1,this.2.1,this.2.2.1,this.2.2.2⟩
  have i4:=i2.Zp (p:=p) (q:=q) (Nat.le_refl _) (Ol.imp (fun h=>h.1) (fun h=>h.1)) ⟨uO.1,uO.2.1,uO.2.2.1⟩
  have hz4:(H3.new 3 [i64 p]).size=H3.size+1:=au _ _ _
  have hd4:∀z,some H3.size=some z∨fo=some z→H.size<z∧z< (H3.new 3 [i64 p]).size∧Qc z= .no:=fun z hz=>by
   rcases hz with hz|hz
   ·injection hz with hz
    subst hz
    exact⟨by omega,by omega,Wi _ (Nat.le_refl _)⟩
   ·have:=oN z (.inr hz)
    exact⟨this.1,by omega,r3.none this.2.1 this.2.2⟩
  have afd:∀z,some H3.size=some z→fo=some z→False:=fun z h1 Nc=>by
   injection h1 with h1
   have:=oN z (.inr Nc)
   omega
  refine v7 II FQ D1 IJ sf si sj ?_
  rw[wrap64 (n:=(k:Int)+1) (by omega) (by omega)]
  refine⟨w.cs.length+1 - (k+1),by omega,k+1,va,vb,_,vo,rfl,⟨a,b,[p],out,some H3.size,fo,Qc,l3,V3,_,_,WY,h4,f3,i4,by simp,f4.own El (fun h=>h),r3.none NF EK,nw4,NG.ext f4 (fun _ _ h=>h),hd4,afd,fun z hz=>?_⟩,rfl⟩
  unfold aA
  rw[if_neg (fun e=>uO.2.2.2 (by rw[←e];exact hz))]
  exact C9 z hz
 ·refine v7 II FQ D1 IJ sf si sj ?_
  have PD:now=[]:=List.length_eq_zero_iff.1 (by omega)
  subst PD
  rw[wrap64 (n:=(k:Int)+1) (by omega) (by omega)]
  exact⟨w.cs.length+1 - (k+1),by omega,k+1,va,vb,_,vo,rfl,⟨a,b,[],out,nb,fo,qO,l2,V2,n7,lS,EH,h2,f2,i2.Zo (Nat.le_refl _),by simp,sC,EK,FC,EL,oN,tu,C9⟩,rfl⟩
end
end Go.Proofs.YtjlnnljohemifaaGreat
