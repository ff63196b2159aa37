/- Texts put behind each other. -/
import Derived.Test.YthpjfeolagohkaaGreatK98
import Derived.Test.YthpjfeolagohkaaGreatK25
import Derived.Test.YthpjfeolagohkaaGreatK39
import Derived.Test.YthpjfeolagohkaaGreatK44
import Derived.Test.YthpjfeolagohkaaGreatK45
set_option maxRecDepth 100000
set_option maxHeartbeats 8000000
set_option linter.unusedVariables false
set_option linter.unusedSimpArgs false
namespace Go.Proofs.YthpjfeolagohkaaGreat
open Go Go.Vc
def adY(H H':Hp)(kd dd n:Int)(es:List Ed)(v:Value):Prop:=
 (¬jw kd dd∧v= .tuple [.slice none 0 0,i64 (Up kd dd)].toArray)∨(jw kd dd∧dG n es=false∧v= .tuple [.slice none 0 0,i64 201].toArray)∨
 (jw kd dd∧dG n es=true∧∃ (T:List Int) (sv:Value) (fp:Option Nat),v= .tuple [sv,i64 0].toArray∧Sl H' 1 sv T.length (T.map i64) fp∧(∀b,fp=some b→H.size≤b)∧nU n es T∧MH es T∧T.Pairwise (· < ·))
theorem TS(n:Nat):aV [Value.int .i64 0,Value.int .u32 0] n=lG (List.replicate n (0,0)):=by
 induction n with
 |zero=>rfl
 |succ n ih=>
  rw[aqQ]
  show[Value.int .i64 0,Value.int .u32 0]++aV [Value.int .i64 0,Value.int .u32 0] n=_
  rw[ih]
  rfl
theorem V6{H H':Hp}{lo N x b1 b2 b3 mp s:Nat}{gs g:Value}{S:Nat→Prop}{w:Nw}{A:Ar}(st:Fq H s S w A 0)(hS:∀z,S z→lo≤z)(QR:lo≤H.size)
  (o:H'.own x=some [i64 N,gs,ptr s,.slice (some ⟨b1,0,none⟩) N N,.slice (some ⟨b2,0,none⟩) N N,.slice (some ⟨b3,0,none⟩) N N,.map (some mp),.slice none 0 0])(o1:H'.own b1=some (aV [i64 0] N))(o2:H'.own b2=some (aV [i64 0] N))(o3:H'.own b3=some (aV [i64 0,.int .u32 0] N))(m:H'.mp mp=some ([],0))
  (f:ah H H')(hb:H.size≤x∧H.size≤b1∧H.size≤b2∧H.size≤b3∧H.size≤mp)(ne:x≠b1∧x≠b2∧x≠b3∧x≠mp∧b1≠b2∧b1≠b3∧b1≠mp∧b2≠b3∧b2≠mp∧b3≠mp):
  ∃B:Pa,([(3,g),(8,ptr s),(10,ptr x)]:Env)=[(3,g),(8,ptr s),(10,ptr B.x)]∧B.s=s∧wJ H' B lo N gs (.slice none 0 0) S w A 0 [] (List.replicate N 0) (List.replicate N 0) (List.replicate N (0,0))∧ah H H':=by
 have hn:∀z,H.size≤z→¬S z:=fun z hz h=>by have:=st.slt z h;omega
 have e0:aV [i64 0] N=List.replicate N (i64 0):=by rw[Cb,asf]
 refine⟨⟨x,b1,b2,b3,mp,s⟩,rfl,rfl,⟨o,?_,?_,by rw[o3,←TS],⟨[],0,m,rfl,art⟩,st.ext f (fun _ _ h=>h),⟨hn _ hb.1,hn _ hb.2.1,hn _ hb.2.2.1,hn _ hb.2.2.2.1,hn _ hb.2.2.2.2⟩,ne,hS,by simp only;omega⟩,f⟩
 ·rw[o1,e0,asf];rfl
 ·rw[o2,e0,asf]
theorem HH{H:Hp}(kd dd:Int)(Ek:jw kd dd→Ty kd dd){n:Int}{a:Option Addr}{c:Nat}{es:List Ed}(h:db H 3 (.slice a es.length c) es.length (dk es))(hm:es.length≤1000000000):
  af Tryz.prog Mf [OO kd dd,Dt n (.slice a es.length c)] H fun v H'=>ax (ah H H'∧adY H H' kd dd n es v):=by
 refine EL Mo ⟨rfl,?_⟩
 simp(disch:=(first|omega| (simp only[Zs]<;>omega)|fail)) only[go_sem, ↓reduceIte,Zv,Ep,Dt]
 have f0:ah H (H.new 23 [i64 kd,i64 dd]):=(ag.refl _ _).new _ _
 have b0:(H.new 23 [i64 kd,i64 dd]).own H.size=some [i64 kd,i64 dd]:=az _ _ _
 have z0:(H.new 23 [i64 kd,i64 dd]).size=H.size+1:=am _ _ _
 generalize H.new 23 [i64 kd,i64 dd]=H0 at*
 have f1:ah H0 (H0.new 26 [i64 n,.slice a es.length c]):=(ag.refl _ _).new _ _
 have b1:(H0.new 26 [i64 n,.slice a es.length c]).own H0.size=some [i64 n,.slice a es.length c]:=az _ _ _
 have z1:(H0.new 26 [i64 n,.slice a es.length c]).size=H0.size+1:=am _ _ _
 have a1:=f1.own b0 (fun h=>h)
 rw[z0]at b1 z1
 generalize H0.new 26 [i64 n,.slice a es.length c]=H1 at*
 refine v1 (ae a1) ?_
 refine(ot kd dd H1).mono ?_
 rintro _ H2 ⟨rfl,f2⟩
 have g2:=(f0.trans f1).trans f2
 have a2:=f2.own a1 (fun h=>h)
 have b2:=f2.own b1 (fun h=>h)
 refine vs ?_
 refine ar.dec (fun hc=>?_) (fun hc=>?_)<;>refine vs ?_
 rotate_left
 ·exact⟨g2,.inl ⟨fun hf=>hc (Q3 hf),rfl⟩⟩
 have hf:jw kd dd:=M2.1 (by omega)
 refine v1 (ae b2) ?_
 refine(j8 (n:=n) (h.fresh g2) hm).mono ?_
 rintro _ H3 ⟨rfl,f3⟩
 have g3:=g2.trans f3
 have a3:=f3.own a2 (fun h=>h)
 have b3:=f3.own b2 (fun h=>h)
 by_cases hr:dG n es=true
 rotate_left
 ·rw[if_neg hr]
  refine v1 aqZ ?_
  exact⟨g3,.inr (.inl ⟨hf,by simpa using hr,rfl⟩)⟩
 rw[if_pos hr]
 have tM:=(eQ n es).1 hr
 have LH:=tM.n0
 have yL:=tM.n1
 obtain⟨N,rfl⟩:∃N:Nat,n=(N:Int):=⟨n.toNat,by omega⟩
 refine v3 aqZ (ae a3) (ae b3) ?_
 refine af.mono (by simpa using KX (cap:=(N:Int)) (mo:=1) hf (Ek hf) (by omega) (by omega) H3) ?_
 rintro _ H4 ⟨s,S,rfl,st4,f4,hS4⟩
 have g4:=g3.trans f4
 have b4:=f4.own b3 (fun h=>h)
 refine v1 aqZ ?_
 refine(Fs st4 (by simp[As])).mono ?_
 rintro _ H5 ⟨rfl,S5,st5,e5,Q1⟩
 have z3:=g3.size
 have z4:=g4.size
 have g5:ah H H5:=g4.then e5 (fun z hz=>by have:=hS4 z hz;omega)
 have hS5:∀z,S5 z→H.size≤z:=fun z hz=>by
  rcases Q1 z hz with h|h
  ·have:=hS4 z h;omega
  ·omega
 have hgb:H.size+1<H3.size:=aB b3
 have b5:=e5.own b4 (fun h=>by have:=hS4 _ h;omega)
 refine uU (fun e H'=>∃B:Pa,e=[(3,ptr (H.size+1)),(8,ptr s),(10,ptr B.x)]∧B.s=s∧wJ H' B H.size N (.slice a es.length c) (.slice none 0 0) S5 (As (N:Int)).make (Ra (N:Int) 1) 0 [] (List.replicate N 0) (List.replicate N 0) (List.replicate N (0,0))∧ah H5 H') ?_ ?_
 ·refine vs ?_
  refine gP.intro (fun H'=>H'.own (H.size+1)=some [i64 N,.slice a es.length c]) b5 ?_
  refine vs ?_
  refine dP.intro (.agg #[i64 N,.slice a es.length c]) (fun H' hI=>by refine v1 (ae hI) ?_;exact⟨trivial,trivial⟩) ?_
  refine vs ?_
  refine dP.intro (i64 N) (fun H' hI=>by refine v1 (ae hI) ?_;exact⟨trivial,trivial⟩) ?_
  refine vs ?_
  refine dP.intro (i64 N) (fun H' hI=>by refine v1 (ae hI) ?_;exact⟨trivial,trivial⟩) ?_
  refine vs ?_
  refine dP.intro (i64 N) (fun H' hI=>by refine v1 (ae hI) ?_;exact⟨trivial,trivial⟩) ?_
  refine vs ?_
  have aop:=aB b5
  iterate 34
   all_goals try
    first
    |with_reducible refine zg.intro ?_ ?_
    |with_reducible refine dO.mk b5 ?_
    | ((with_reducible refine dO.mk ⟨by omega,by omega,by omega,by omega⟩ ?_);refine v1 Int.toNat_natCast ?_)
    | ((fail_if_success with_reducible refine Exists.intro ?_ ?_);refine vs ?_)
  all_goals
   simp only[Int.toNat_natCast]
   exact V6 st5 hS5 (by omega) (bz (by simp only[am,iJ])) (by refine vs ?_<;>trivial) (by exact vs trivial<;>trivial) (by exact vs trivial<;>trivial) (by exact vs trivial<;>trivial) (by repeat' first|exact ag.refl _ _|refine ag.new ?_ _ _|refine ag.iR ?_) (by omega) (by omega)
 rintro _ H6 ⟨B,rfl,rfl,m6,f6⟩
 have b6:=f6.own b5 (fun h=>h)
 have g6:=g5.trans f6
 refine v1 (ae b6) ?_
 refine(yk (n:=(N:Int)) (h.fresh g6) hm).mono ?_
 rintro _ H7 ⟨f7,⟨bO,_⟩| ⟨_,tb,fp,rfl,t7⟩⟩
 ·rw[hr]at bO;cases bO
 have m7:=m6.fresh f7
 have g7:=g6.trans f7
 have b7:=f7.own b6 (fun h=>h)
 have Ym:=m6.lt
 have G0:yf es N (As (N:Int)).make (Ra (N:Int) 1) [] (List.replicate N 0) (List.replicate N 0) (List.replicate N (0,0)):=yf.zero es N aqV aqV
 have D0:GrD es [] (List.replicate N 0):=by
  have h0:∀ (v k:Nat),k≠0→(List.replicate N 0)[v]? ≠some k:=fun v k hk hv=>by
   have:=arf (aqg hv)
   omega
  refine⟨?_,fun v=>h0 v 1 (by omega)⟩
  have e1:(fun v:Nat=>(List.replicate N 0)[v]? =some 2)=fun _=>False:=by
   funext v
   exact eq_false (h0 v 2 (by omega))
  rw[e1]
  exact yn.begin _
 rw[Int.toNat_natCast]at t7 ⊢
 refine v1 (ae b7) ?_
 have p7:HV H7 B H.size N (.slice a es.length c) es H6.size tb fp S5 (As (N:Int)).make (Ra (N:Int) 1) [] (List.replicate N 0) (List.replicate N 0) (List.replicate N (0,0)) [] (.slice none 0 0) none:=by
  refine⟨m7,t7,fun z hz h=>?_,Sl.nil _ _,fun b hb=>by cases hb⟩
  have:=Ym z h
  rcases hz with rfl| ⟨i,hi,hp⟩
  ·have:=t7.base;omega
  ·have:=(t7.low i hi z hp).1;omega
 refine aY.intro (fun mm env H'=>∃ (j:Nat) (S':Nat→Prop) (w':Nw) (A':Ar) (L':List ((Int×Nat)×Value)) (sl:List Nat) (bl:List Int) (hl:List (Int×Nat)) (T:List Int) (ov:Value) (FE:Option Nat),mm=N - j∧j≤N∧HV H' B H.size N (.slice a es.length c) es H6.size tb fp S' w' A' L' sl bl hl T ov FE∧yf es N w' A' L' sl bl hl∧GrD es T sl∧(∀v:Nat,v<j→sl[v]? =some 2)∧ah H H'∧
  env=[(8,ptr B.s),(10,ptr B.x),(11,.slice (some ⟨tb,0,none⟩) N N),(56,i64 N),(57,i64 j)]) N ⟨0,S5,_,_,[],_,_,_,[],_,none,rfl,arU _,p7,G0,D0,fun v hv=>by omega,g7,rfl⟩ ?_
 clear p7 G0 D0 m7 t7 g7 b7 f7 m6 f6 b6 g6 st5 e5 Q1 b5 g5 hS5 st4 f4 hS4 g4 b4 a3 b3 a2 b2 f3 g3 f2 g2
 rintro mm env H8 ⟨j,S8,w8,A8,L8,Ug,bl8,hl8,T8,ov8,V7,rfl,hj,p8,G8,D8,TT,g8,rfl⟩
 refine vs ?_
 refine ar.dec (fun aN=>?_) (fun aN=>?_)<;>refine vs ?_
 rotate_left
 ·have ie:j=N:=by omega
  subst ie
  obtain⟨AK,QR⟩:=D8.XF tM (fun v hv=>TT v (by omega))
  have gI:=Nx AK.AP
  have HI:=AD tM AK.AP AK.sub
  refine v1 (ae p8.m.o) ?_
  refine(qU p8.os (by omega)).mono ?_
  rintro _ H9 ⟨rfl,s9,e9⟩
  have o9:=e9.own p8.m.o (fun h=>(p8.od _ h).2.1 (.inr (.inl rfl)))
  refine v1 (ae o9) ?_
  obtain⟨k1,k2⟩:=JT tM (HG T8) AK QR
  refine⟨g8.then e9 (fun z hz=>(p8.od z hz).1),.inr (.inr ⟨hf,hr,jm T8,ov8,V7,rfl,by rw[nj];exact s9,fun b hb=>(p8.od b hb).1,k1,k2,TR gI⟩)⟩
 rw[UY]
 have ie:j<N:=by omega
 obtain⟨k,hk⟩:∃k,Ug[j]? =some k:=⟨_,aqb (by rw[G8.l1];exact ie)⟩
 have J0:=G8.two k (aqg hk)
 have hk1:k≠1:=fun e=>D8.2 j (by rw[hk,e])
 have ck:(Ug.map fun k:Nat=>i64 k)[j]? =some (i64 k):=by rw[aqz,hk];rfl
 refine v1 (ae p8.m.o) ?_
 refine⟨⟨by omega,by omega⟩,?_⟩
 refine v5 (ae p8.m.o1) Int.toNat_natCast aqd aqa ck ?_
 refine ar.dec (fun h0=>?_) (fun h0=>?_)<;>refine vs ?_
 rotate_left
 ·rw[wrap64 (n:=(j:Int)+1) (by omega) (by omega)]
  refine⟨N - (j+1),by omega,j+1,S8,w8,A8,L8,Ug,bl8,hl8,T8,ov8,V7,rfl,by omega,p8,G8,D8,fun v hv=>?_,g8,rfl⟩
  by_cases e:v=j
  ·subst e
   rw[hk]
   exact aqv some (by omega)
  ·exact TT v (by omega)
 have hk0:k=0:=by omega
 subst hk0
 obtain⟨gs0,gt0⟩:=O1.begin (bl:=bl8) tM D8 hk
 refine(jB p8.m tM h g8 (aqm _) ie (G8.root hk) p8.t p8.td gs0 rfl).mono ?_
 rintro _ H9 ⟨rfl,S9,w9,A9,L9,sl9,bl9,hl9,m9,G9,gs9,e9,hs9⟩
 have p9:=p8.go m9 e9 hs9
 have g9:ah H H9:=g8.then e9 (fun z hz=>p8.m.ge z (hz.imp_right .inr))
 refine vs ?_
 refine(JU p9 G9).mono ?_
 rintro _ RF ⟨x,gg,ky,er,S10,w10,A10,rfl,p10,N10,e10,aiR⟩
 have g10:ah H RF:=g9.then e10 (fun z hz=>p9.m.ge z (.inl hz))
 refine vs ?_
 obtain⟨f11,Vk,z11⟩:=PO RF 71 [Value.int .i64 0,Value.int .u32 0] [i64 x,Value.int .u32 (gg:Int)]
 generalize hhb:RF.size=hb at*
 generalize (RF.new 71 [Value.int .i64 0,Value.int .u32 0]).wr hb [i64 x,Value.int .u32 (gg:Int)]=H11 at*
 have p11:=p10.fresh f11
 have g11:=g10.trans f11
 have adZ:¬ (S10 hb∨hb=B.x∨B.row hb)∧V7≠some hb:=⟨fun h=>by have:=p10.m.lt hb h;omega,fun h=>by have:=p10.olt hb h;omega⟩
 refine aY.intro (fun mm env H'=>∃ (x:Int) (gg:Nat) (er:Int) (S':Nat→Prop) (w':Nw) (A':Ar) (L':List ((Int×Nat)×Value)) (sl:List Nat) (bl:List Int) (hl:List (Int×Nat)) (T:List Int) (ov:Value) (FE:Option Nat) (o:List Nat) (kk:Nat→Int) (hb:Nat),mm=N - o.length∧HV H' B H.size N (.slice a es.length c) es H6.size tb fp S' w' A' L' sl bl hl T ov FE∧Next es N w' A' L' sl bl hl x gg er∧O1 es (fun v:Nat=>Ug[v]? =some 2) o kk T sl bl []∧GrT es T T8 (fun v:Nat=>Ug[v]? =some 2) o∧j∈o∧H'.own hb=some [i64 x,Value.int .u32 (gg:Int)]∧(¬ (S' hb∨hb=B.x∨B.row hb)∧FE≠some hb)∧ah H H'∧
  env=[(8,ptr B.s),(10,ptr B.x),(11,.slice (some ⟨tb,0,none⟩) N N),(13,ptr hb),(15,i64 er),(56,i64 N),(57,i64 j)]) (N - 1) ⟨x,gg,er,S10,w10,A10,L9,sl9,bl9,hl9,T8,ov8,V7,[j],_,hb,rfl,p11,N10,gs9,gt0,by simp,Vk,adZ,g11,rfl⟩ ?_
 clear p11 N10 gs9 gt0 Vk adZ g11 f11 z11 hhb p10 e10 aiR g10 p9 m9 G9 e9 hs9 g9
 rintro mm env PI ⟨x,gg,er,S12,w12,A12,L12,ad0,TU,ad1,T12,ad3,TV,o,kk,hb,rfl,Rs,N12,ZH,V8,hjo,WW,ZI,g12,rfl⟩
 refine vs ?_
 refine ar.dec (fun he=>?_) (fun he=>?_)<;>refine vs ?_
 rotate_left
 ·rcases N12 with ⟨_,G12,bO⟩| ⟨h0,_⟩
  ·rw[wrap64 (n:=(j:Int)+1) (by omega) (by omega)]
   refine⟨N - (j+1),by omega,j+1,S12,w12,A12,L12,ad0,TU,ad1,T12,ad3,TV,rfl,by omega,Rs,G12,ZH.over D8.1 V8 bO,fun v hv=>(ZH.d v).2 ?_,g12,rfl⟩
   by_cases e:v=j
   ·subst e;exact .inr hjo
   ·exact .inl (TT v (by omega))
  ·exact absurd h0 he
 rcases N12 with ⟨h0,_⟩| ⟨_,v,EE,hvL,UG,G12⟩
 ·omega
 have hvN:v<N:=by
  have:=(aqc.1 EE).1
  have h2:=G12.l1
  rw[aqe]at h2
  omega
 obtain⟨V9,ad4,aox⟩:=ZH.enter tM V8 EE UG
 have hol:(o++[v]).length≤N:=Jw N _ V9.P.nd fun y hy=>by
  have:=(V9.d y).2 (.inr hy)
  have h1:=(aqc.1 this).1
  have h2:=G12.l1
  omega
 rw[aqj,aqn]at hol
 obtain⟨b,hbv⟩:∃b,TU[v]? =some b:=⟨_,aqb (by rw[G12.l2];exact hvN)⟩
 have VQ:TU.getD v 0=b:=by rw[aqf,hbv];rfl
 have cb:(TU.map i64)[v]? =some (i64 b):=by rw[aqz,hbv];rfl
 rw[VQ]at V9 ad4
 have aoy:=AD tM V8.AP (fun i hi=>(V8.ins i hi).1)
 refine v2 (ae Rs.m.o) (ae WW) ?_
 refine⟨JM _ _,?_⟩
 refine Cn.look Rs.m.m (a:=(x,gg)) hvL ?_
 refine vs ?_
 refine uU (fun e H'=>∃ov' ad5,e=[(8,ptr B.s),(10,ptr B.x),(11,.slice (some ⟨tb,0,none⟩) N N),(13,ptr hb),(16,i64 v),(56,i64 N),(57,i64 j)]∧HV H' B H.size N (.slice a es.length c) es H6.size tb fp S12 w12 A12 L12 ad0 TU ad1 (T12++[b]) ov' ad5∧H'.own hb=some [i64 x,Value.int .u32 (gg:Int)]∧ad5≠some hb∧ah H H') ?_ ?_
 ·refine gP.intro (fun _=>True) trivial ?_
  have fl:ah PI (PI.new 3 [i64 b]):=(ag.refl _ _).new _ _
  have lJ:=aB Rs.m.o
  have hyl:=aB Rs.m.o2
  have Vo:=aB WW
  have fin:∀K,(∀v' H2 bI,Sl H2 1 v' (T12.length+1) (T12.map i64++[i64 b]) bI→ag (fun z=>TV=some z) (PI.new 3 [i64 b]) H2→(bI=TV∨∃p,bI=some p∧(PI.new 3 [i64 b]).size≤p∧p<H2.size)→K v' H2)→fA 3 1 8 [i64 0] ad3 (.slice (some ⟨PI.size,0,none⟩) 1 1) (PI.new 3 [i64 b]) K:=fun K hk=>
   Sl.append (Rs.os.ext fl (fun _ _ h=>h)) (Sl.bU (size:=1) (n:=1) (xs:=[i64 b]) rfl rfl).rd rfl (mS [b]) (by omega) hk
  iterate 12
   all_goals try
    first
    |with_reducible refine zg.intro ?_ ?_
    |with_reducible refine dO.mk ⟨by omega,by omega⟩ ?_
    |with_reducible refine fin _ fun v' H2 bI s2 e2 hf2=>?_
    | ((fail_if_success with_reducible refine Exists.intro ?_ ?_);(fail_if_success refine fin _ ?_);refine v6 (ae Rs.m.o) (ae Rs.m.o2) Int.toNat_natCast aqd aqa cb ?_)
  all_goals
   obtain⟨va,SI,rfl,_⟩:=cH s2
   obtain⟨q1,q2⟩:=Rs.push fl s2 e2 hf2 rfl
   have ox:=e2.own (fl.own Rs.m.o (fun h=>h)) (fun h=>(Rs.od _ h).2.1 (.inr (.inl rfl)))
   refine v1 ox ?_
   refine⟨_,bI,trivial,q1,e2.own (fl.own WW (fun h=>h)) ZI.2,fun h=>?_,g12.then q2 (fun z hz=>?_)⟩
   ·rcases hf2 with h2| ⟨p,h2,h3,_⟩
    ·exact ZI.2 (by rw[←h2];exact h)
    ·rw[h]at h2
     injection h2 with h2
     have:=fl.size
     omega
   ·rcases hz with h|h
    ·exact(Rs.od z h).1
    ·rw[h];exact Rs.m.low.2.1
 rintro _ H13 ⟨aiS,WX,rfl,p13,Wa,aoz,g13⟩
 refine vs ?_
 refine(jB p13.m tM h g13 (aqm _) hvN G12 p13.t p13.td V9 (by simp)).mono ?_
 rintro _ Uh ⟨rfl,S14,w14,A14,L14,aiT,aiU,aiV,m14,G14,aiW,wF,aiX⟩
 have p14:=p13.go m14 wF aiX
 have g14:ah H Uh:=g13.then wF (fun z hz=>p13.m.ge z (hz.imp_right .inr))
 have Vo:=aB Wa
 have b14:=wF.own Wa (fun h=>ZI.1 (h.imp_right .inr))
 refine v1 (ae b14) ?_
 obtain⟨f15,b15,z15⟩:=PO Uh 71 [Value.int .i64 0,Value.int .u32 0] [i64 x,Value.int .u32 (gg:Int)]
 generalize hhb:Uh.size=oG at*
 generalize (Uh.new 71 [Value.int .i64 0,Value.int .u32 0]).wr oG [i64 x,Value.int .u32 (gg:Int)]=H15 at*
 have p15:=p14.fresh f15
 have g15:=g14.trans f15
 have ZJ:¬ (S14 oG∨oG=B.x∨B.row oG)∧WX≠some oG:=⟨fun h=>by have:=p14.m.lt oG h;omega,fun h=>by have:=p14.olt oG h;omega⟩
 refine(JU p15 G14).mono ?_
 rintro _ H16 ⟨x',gg',ky',er',S16,w16,A16,rfl,p16,N16,JD,ad8⟩
 have g16:ah H H16:=g15.then JD (fun z hz=>p15.m.ge z (.inl hz))
 have b16:=JD.own b15 (fun h=>ZJ.1 (.inl h))
 refine v1 b16 ?_
 obtain⟨YP,b17⟩:=MZ b16 [i64 x',Value.int .u32 (gg':Int)]
 generalize H16.wr oG [i64 x',Value.int .u32 (gg':Int)]=H17 at*
 have Yr:=f15.size
 have aoJ:=JD.size
 have aoK:=YP.size
 have aea:¬ (S16 oG∨oG=B.x∨B.row oG):=fun h=>ZJ.1 (by
  rcases h with h|h
  ·rcases ad8 oG h with h|h
   ·exact .inl h
   ·omega
  ·exact .inr h)
 have x17:ag S14 Uh H17:=⟨by omega,fun z hz hn=>by rw[YP.aM z (by omega) (by omega),JD.aM z (by omega) hn,f15.aM z (by omega) (fun h=>h)]⟩
 have p17:=p14.to (p16.m.st.ext YP (fun z hz e=>aea (.inl (by rw[←e];exact hz)))) x17 (fun z hz=>(ad8 z hz).imp_right fun h=>by omega)
 have g17:ah H H17:=g14.then x17 (fun z hz=>p14.m.ge z (.inl hz))
 exact⟨N - (o++[v]).length,by rw[aqj,aqn];omega,x',gg',er',S16,w16,A16,L14,aiT,aiU,aiV,T12++[b],aiS,WX,o++[v],_,oG,rfl,p17,N16,aiW,ad4,aqH _ hjo,b17,⟨aea,ZJ.2⟩,g17,rfl⟩
theorem HJ{n:Int}{es:List Ed}{T U:List Int}(hr:gL n es)(h:nU n es T)(hl:U.length≠T.length):¬SpR n es U:=fun h2=>hl (h2.2.Ze hr h)
theorem Ef{H:Hp}{T:Nat}{w u:Value}{xs ys:List Int}{fp:Option Nat}{K:Value→Hp→Prop}(s:Sl H 1 w xs.length (xs.map i64) fp)(r:db H 1 u ys.length (ys.map i64))(hl:xs.length+ys.length≤1000000000000)
  (hk:∀w' H' bI,Sl H' 1 w' (xs++ys).length ((xs++ys).map i64) bI→ag (fun b=>fp=some b) H H'→(bI=fp∨∃b,bI=some b∧H.size≤b∧b<H'.size)→K w' H'):
  fA T 1 8 [i64 0] w u H K:=by
 refine Sl.append s r rfl (mS ys) (by omega) ?_
 intro v' H' bI s' e' Lm
 exact hk v' H' bI (by rw[aqj,aqy];exact s') e' Lm
theorem wM{Hh:Hp}{v0 v1 v2:Value}(h0:EG Hh (true,[.k (.i .i64),.k (.i .i64)]) v0)(h1:EG Hh (true,[.k (.i .i64),.sl [.i .i64,.i .i64,.i .i64]]) v1)(h2:EG Hh (false,[.k (.i .u8)]) v2):af Tryz.prog CX [v0,v1,v2] Hh fun v H'=>ax (v= .bool true∧ah Hh H'):=by
 obtain⟨kd,dd,rfl⟩:=O9 h0
 obtain⟨n,es,a,c,rfl,hr,Ry,Yv,hn,Wr⟩:=Oz h1
 obtain⟨tn,rfl,ht0,FJ⟩:=Vb h2
 clear h0 h1 h2
 refine EL Da ⟨rfl,?_⟩
 simp(disch:=(first|omega| (simp only[Zs]<;>omega)|fail)) only[go_sem, ↓reduceIte,Zv,qB,Dt]
 have f0:ah Hh (Hh.new 23 [i64 kd,i64 dd]):=(ag.refl _ _).new _ _
 have a0:(Hh.new 23 [i64 kd,i64 dd]).own Hh.size=some [i64 kd,i64 dd]:=az _ _ _
 have z0:(Hh.new 23 [i64 kd,i64 dd]).size=Hh.size+1:=am _ _ _
 generalize Hh.new 23 [i64 kd,i64 dd]=H0 at*
 have f1:ah H0 (H0.new 26 [i64 n,.slice a es.length c]):=(ag.refl _ _).new _ _
 have b1:(H0.new 26 [i64 n,.slice a es.length c]).own H0.size=some [i64 n,.slice a es.length c]:=az _ _ _
 have a1:=f1.own a0 (fun h=>h)
 rw[z0]at b1
 generalize H0.new 26 [i64 n,.slice a es.length c]=H1 at*
 refine(xV H1).mono ?_
 rintro _ H2 ⟨rfl,f2⟩
 have g2:=(f0.trans f1).trans f2
 have a2:=f2.own a1 (fun h=>h)
 have b2:=f2.own b1 (fun h=>h)
 refine v1 (ae b2) ?_
 refine(DD H2 n a es.length c).mono ?_
 rintro _ H3 ⟨rfl,f3⟩
 have g3:=g2.trans f3
 have a3:=f3.own a2 (fun h=>h)
 have b3:=f3.own b2 (fun h=>h)
 refine vs ?_
 refine ar.dec (fun c1=>?_) (fun c1=>?_)<;>refine v2 (ae a3) (ae b3) ?_
 ·exact⟨rfl,g3⟩
 refine(G6 kd dd H3).mono ?_
 rintro _ H4 ⟨rfl,f4⟩
 have g4:=g3.trans f4
 have a4:=f4.own a3 (fun h=>h)
 have b4:=f4.own b3 (fun h=>h)
 refine vs ?_
 refine ar.dec (fun c2=>?_) (fun c2=>?_)<;>refine v1 (ae b4) ?_
 rotate_left
 ·exact⟨rfl,g4⟩
 have hK:=M2.1 c2
 refine(Du (n:=n) (hr.fresh g4) (by omega)).mono ?_
 rintro _ H5 ⟨rfl,f5⟩
 have g5:=g4.trans f5
 have a5:=f5.own a4 (fun h=>h)
 have b5:=f5.own b4 (fun h=>h)
 by_cases hR:dG n es=true
 rotate_left
 ·rw[show dG n es=false by simpa using hR]
  refine v1 ars ?_
  exact⟨rfl,g5⟩
 rw[hR]
 have tM:=(eQ n es).1 hR
 have LH:=tM.n0
 have yL:=tM.n1
 refine v3 ark (ae a5) (ae b5) ?_
 refine(HH kd dd (fun h=>TP h) (n:=n) (hr.fresh g5) (by omega)).mono ?_
 rintro v4 H6 ⟨f6,⟨bO,_⟩| ⟨_,bO,_⟩| ⟨_,_,T,sv,fp,rfl,s6,eB,AK,QR,hpw⟩⟩
 ·exact absurd hK bO
 ·rw[hR]at bO;cases bO
 have g6:=g5.trans f6
 have b6:=f6.own b5 (fun h=>h)
 obtain⟨sa,sc,rfl,hsc⟩:=cH s6
 have hTl:=AD tM AK.AP AK.sub
 have r6:=s6.rd
 clear s6
 refine v2 aqZ (ae b6) ?_
 refine(eX (n:=n) (hr.fresh g6) r6 (by omega) (by omega)).mono ?_
 rintro _ H7 ⟨f7,b,rfl,hb⟩
 obtain rfl:b=true:=hb.2 ⟨hR,AK⟩
 have g7:=g6.trans f7
 have b7:=f7.own b6 (fun h=>h)
 have r7:=r6.fresh f7
 refine v2 ark (ae b7) ?_
 refine(jn (n:=n) (hr.fresh g7) r7 (by omega) (by omega)).mono ?_
 rintro _ H8 ⟨f8,b',rfl,lI⟩
 obtain rfl:b'=true:=lI.2 ⟨⟨hR,AK⟩,QR⟩
 have g8:=g7.trans f8
 have b8:=f8.own b7 (fun h=>h)
 have r8:=r7.fresh f8
 refine v1 ark ?_
 refine ar.dec (fun hT=>?_) (fun hT=>?_)<;>refine vs ?_
 case' refine_1=>
  obtain⟨k,hk,hkl⟩:∃k:Nat,tn% (T.length:Int)=(k:Int)∧k<T.length:=⟨(tn% (T.length:Int)).toNat,by have:=Int.emod_nonneg tn (b:=(T.length:Int)) (by omega);omega,by have:=Int.emod_nonneg tn (b:=(T.length:Int)) (by omega);have:=Int.emod_lt_of_pos tn (b:=(T.length:Int)) (by omega);omega⟩
  rw[if_neg (by omega),wrap64 (n:=tn) (by omega) (by omega),Int.tmod_eq_emod_of_nonneg ht0,hk]
  refine vs ?_
  have fl:ah H8 (H8.new 3 []):=(ag.refl _ _).new _ _
  have l9:Sl (H8.new 3 []) 1 (.slice (some ⟨H8.size,0,none⟩) 0 0) (([]:List Int)).length (([]:List Int).map i64) (some H8.size):=Sl.bU (size:=1) (n:=0) (xs:=[]) rfl rfl
  have b9:=fl.own b8 (fun h=>h)
  have z9:(H8.new 3 []).size=H8.size+1:=am _ _ _
  have g9:=g8.trans fl
  have r9:=r8.fresh fl
  have hgb:=aB b8
  generalize FX:H8.size=lb at*
  generalize H8.new 3 []=H9 at*
  obtain⟨a2,CH,AH,aoN,tP⟩:=BT r9 (lo:=k) (hi:=T.length) (lo':=(k:Int)) (hi':=(T.length:Int)) rfl rfl (by omega) (by omega) hsc
  refine⟨⟨by omega,by omega,by omega,by omega⟩,?_⟩
  refine vs ?_
  rw[CH]
  refine SF (B:=lb) (ys:=(T.drop k).take (T.length - k)) (fun b hb=>by injection hb with hb;omega) (by omega) l9 (by rw[tP];exact AH) (by simp;omega) ?_
  intro w10 RF aoO aiZ s10 e10
  rw[aq3]at s10
  have b10:=e10.own b9 (fun h=>by omega)
  have F10:ah H8 RF:=fl.then e10 (fun z hz=>by omega)
  have r10:=r8.fresh F10
  obtain⟨wa,wc,rfl,_⟩:=cH s10
  obtain⟨a3,hv3,UE,aoR,Q0⟩:=BT r10 (lo:=0) (hi:=k) (lo':=((0:Nat):Int)) (hi':=(k:Int)) rfl rfl (by omega) (by omega) hsc
  refine vs ?_
  refine⟨⟨by omega,by omega,by omega,by omega⟩,?_⟩
  refine vs ?_
  rw[hv3]
  refine SF (B:=lb) (ys:=(T.drop 0).take (k - 0)) aiZ (by have:=e10.size;omega) s10 (by rw[Q0];exact UE) (by rw[tP];simp;omega) ?_
  intro w11 H11 aoS Yn s11 Yp
  have hM:(T.drop k).take (T.length - k)++(T.drop 0).take (k - 0)=T.drop k++T.take k:=by rw[List.take_of_length_le (by simp),asi,Nat.sub_zero]
  rw[hM]at s11
  have hMp:T.Perm (T.drop k++T.take k):=by
   have:=aru (l₁:=T.take k) (l₂:=T.drop k)
   rwa[arF]at this
  generalize T.drop k++T.take k=M at*
  have hMl:=hMp.length_eq
  obtain⟨ai1,ai2⟩:=JT tM hMp AK QR
  have Vk:=Yp.own b10 (fun h=>by omega)
  have F11:ah H8 H11:=F10.then Yp (fun z hz=>by omega)
  have g11:=g8.trans F11
  obtain⟨ma,mc,rfl,hmc⟩:=cH s11
  refine vs ?_
  refine gP.intro (fun H'=>H'.own (Hh.size+1)=some [i64 n,.slice a es.length c]) Vk ?_
  refine v1 (ae Vk) ?_
  refine And.intro Vk ?_
  refine vs ?_
  refine(jn (n:=n) (hr.fresh g11) s11.rd (by omega) (by omega)).mono ?_
  rintro _ PI ⟨f12,b',rfl,lI⟩
  obtain rfl:b'=true:=lI.2 ⟨⟨hR,ai1⟩,ai2⟩
  have g12:=g11.trans f12
  have WW:=f12.own Vk (fun h=>h)
  have s12:=s11.ext f12 (fun _ _ h=>h)
  refine And.intro WW ?_
  refine v1 ark ?_
  obtain⟨a4,hv4,hr4,aoV,PX⟩:=BT s12.rd (lo:=1) (hi:=M.length) (lo':=(1:Int)) (hi':=(M.length:Int)) rfl rfl (by omega) (by omega) hmc
  refine⟨⟨by omega,by omega,by omega,by omega⟩,?_⟩
  refine v1 (ae WW) ?_
  refine And.intro WW ?_
  refine vs ?_
  rw[hv4]
  have J1:=eX (H:=PI) (n:=n) (ks:=(M.drop 1).take (M.length - 1)) (a':=a4) (c':=mc - 1) (hr.fresh g12) (by rw[PX];exact hr4) (by omega) (by rw[PX];omega)
  have ai4:=HJ (U:=(M.drop 1).take (M.length - 1)) tM AK (by rw[PX];omega)
  rw[PX]at J1
  refine J1.mono ?_
  rintro _ H13 ⟨f13,b1',rfl,Nq⟩
  obtain rfl:b1'=false:=by
   cases b1'
   ·rfl
   ·exact absurd (Nq.1 rfl) ai4
  have g13:=g12.trans f13
  have Wa:=f13.own WW (fun h=>h)
  have s13:=s12.ext f13 (fun _ _ h=>h)
  refine And.intro Wa ?_
  refine vs ?_
  refine dP.intro (Dt n (.slice a es.length c)) (fun H' hI=>by refine v1 (ae hI) ?_;exact⟨rfl,trivial⟩) ?_
  refine vs ?_
  obtain⟨x,hx⟩:∃x,M[0]? =some x:=⟨_,aqb (by omega)⟩
  obtain⟨_,mb,mo,ml,rfl,ai5,aeb⟩:=db.num s13.rd hx
  rw[Nat.add_zero]at aeb
  refine⟨⟨by omega,by omega⟩,?_⟩
  refine v5 ai5 Int.toNat_zero aqT Nat.add_zero aeb ?_
  refine And.intro Wa ?_
  refine vs ?_
  have ai6:ah H13 (H13.new 3 [i64 x]):=(ag.refl _ _).new _ _
  have alj:=aB Wa
  refine And.intro (by first|exact Wa|exact ai6.own Wa (fun h=>h)) ?_
  refine vs ?_
  refine BS (B:=lb) Yn (by have:=(F11.trans (f12.trans f13)).size;omega) s13 _ (by omega) ?_
  intro w15 H15 aoW aoX s15 Tk
  have b15:=Tk.own Wa (fun h=>by omega)
  have F15:ah H8 H15:=(F11.trans (f12.trans f13)).then Tk (fun z hz=>by omega)
  have g15:=g8.trans F15
  obtain⟨na,nc,rfl,hnc⟩:=cH s15
  refine And.intro b15 ?_
  refine vs ?_
  have XJ:=HJ (U:=M++[x]) tM AK (by rw[aqj];simp;omega)
  refine(eX (n:=n) (ks:=M++[x]) (hr.fresh g15) s15.rd (by omega) (by rw[aqj];simp;omega)).mono ?_
  rintro _ H16 ⟨f16,b2',rfl,oG⟩
  obtain rfl:b2'=false:=by
   cases b2'
   ·rfl
   ·exact absurd (oG.1 rfl) XJ
  have b16:=f16.own b15 (fun h=>h)
  refine And.intro b16 ?_
  refine vs ?_
  replace r8:=r8.fresh (F15.trans f16)
  replace b8:=b16
  replace g8:=g15.trans f16
 all_goals
  refine v1 (ae b8) ?_
  refine aY.intro (fun mm env H'=>∃j:Nat,mm=es.length - j∧j≤es.length∧ah Hh H'∧H'.own (Hh.size+1)=some [i64 n,.slice a es.length c]∧db H' 1 (.slice sa T.length sc) T.length (T.map i64)∧
   env=[(4,ptr (Hh.size+1)),(7,.slice sa T.length sc),(85,i64 es.length),(86,i64 j)]) es.length ⟨0,by omega,by omega,g8,b8,r8,rfl⟩ ?_
  rintro mm env Hl ⟨j,rfl,hj,gl,bl,rl,rfl⟩
  refine vs ?_
  refine ar.dec (fun aN=>?_) (fun aN=>?_)<;>refine vs ?_
  rotate_left
  ·exact⟨rfl,gl⟩
  have dI:=aB bl
  have bO:=HJ (U:=T++[(j:Int)]) tM AK (by rw[aqj];simp)
  have fin:∀ (Hx:Hp) (w:Value) (fx:Option Nat),ah Hl Hx→Sl Hx 1 w (T++[(j:Int)]).length ((T++[(j:Int)]).map i64) fx→af Tryz.prog Eo [Dt n (.slice a es.length c),w] Hx fun v H'=>v= .bool false∧ah Hl H':=by
   intro Hx w fx fl s
   obtain⟨na,nc,rfl,hnc⟩:=cH s
   refine(eX (n:=n) (ks:=T++[(j:Int)]) (hr.fresh (gl.trans fl)) s.rd (by omega) (by rw[aqj];simp;omega)).mono ?_
   rintro _ H' ⟨f',b',rfl,lI⟩
   refine⟨?_,fl.trans f'⟩
   cases b'
   ·rfl
   ·exact absurd (lI.1 rfl) bO
  refine gP.intro (fun H'=>H'.own (Hh.size+1)=some [i64 n,.slice a es.length c]) bl ?_
  refine vs ?_
  refine dP.intro (Dt n (.slice a es.length c)) (fun H' hI=>by refine v1 (ae hI) ?_;exact⟨rfl,trivial⟩) ?_
  refine vs ?_
  have nl:∀ (Hx:Hp) (l:List Value),ah Hx (Hx.new 3 l):=fun Hx l=>(ag.refl _ _).new _ _
  refine zg.intro ?_ ?_
  ·refine vs ?_
   have f1:=nl Hl []
   have l1:Sl (Hl.new 3 []) 1 (.slice (some ⟨Hl.size,0,none⟩) 0 0) (([]:List Int)).length (([]:List Int).map i64) (some Hl.size):=Sl.bU (size:=1) (n:=0) (xs:=[]) rfl rfl
   have b1:=f1.own bl (fun h=>h)
   have z1:(Hl.new 3 []).size=Hl.size+1:=am _ _ _
   refine And.intro (by first|exact b1|exact bl) ?_
   refine vs ?_
   generalize fh:Hl.size=s1 at*
   generalize Hl.new 3 []=H1 at*
   refine zg.intro ?_ ?_
   ·refine vs ?_
    refine Ef (xs:=[]) (ys:=T) l1 (rl.fresh f1) (by simp;omega) ?_
    intro w2 H2 fp2 s2 e2 hf2
    have F2:ah Hl H2:=f1.then e2 (fun z hz=>by injection hz with hz;omega)
    have b2:=F2.own bl (fun h=>h)
    have z2:=F2.size
    refine And.intro b2 ?_
    refine vs ?_
    have f3:=nl H2 [i64 j]
    have Np:=f1.size
    have ed:=e2.size
    refine And.intro (by first|exact f3.own b2 (fun h=>h)|exact b2) ?_
    refine vs ?_
    refine Ef (xs:=[]++T) (ys:=[(j:Int)]) (s2.ext f3 (fun _ _ h=>h)) (Sl.bU (size:=1) (n:=1) (xs:=[i64 j]) rfl rfl).rd (by simp;omega) ?_
    intro w4 H4 fp4 s4 e4 hf4
    rw[aq3]at s4
    have F4:ah Hl H4:=(F2.trans f3).then e4 (fun z hz=>by rcases hf2 with h| ⟨p,h,h2,_⟩<;>rw[hz]at h<;>injection h with h<;>omega)
    refine And.intro (by first|exact F4.own bl (fun h=>h)|exact bl) ?_
    refine vs ?_
    refine(fin _ _ _ F4 s4).mono ?_
    rintro _ H5 ⟨rfl,F5⟩
    refine And.intro (F5.own bl (fun h=>h)) ?_
    refine vs ?_
    rw[wrap64 (n:=(j:Int)+1) (by omega) (by omega)]
    exact⟨es.length - (j+1),by omega,j+1,rfl,by omega,gl.trans F5,F5.own bl (fun h=>h),rl.fresh F5,rfl⟩
   ·refine vs ?_
    have f2:=nl H1 [i64 j]
    have q2:=az H1 3 [i64 j]
    have z2:(H1.new 3 [i64 j]).size=H1.size+1:=am _ _ _
    refine And.intro (by first|exact f2.own b1 (fun h=>h)|exact b1|exact bl) ?_
    refine vs ?_
    generalize Jv:H1.size=s2 at*
    generalize H1.new 3 [i64 j]=H2 at*
    refine Ef (xs:=[]) (ys:=T) (l1.ext f2 (fun _ _ h=>h)) (rl.fresh (f1.trans f2)) (by simp;omega) ?_
    intro w3 H3 fp3 s3 e3 hf3
    have F3:ah Hl H3:=(f1.trans f2).then e3 (fun z hz=>by injection hz with hz;omega)
    have b3:=F3.own bl (fun h=>h)
    have q3:=e3.own q2 (fun hz=>by injection hz with hz;omega)
    refine And.intro b3 ?_
    refine vs ?_
    refine Ef (xs:=[]++T) (ys:=[(j:Int)]) s3 ⟨rfl,.inr ⟨s2,0,1,_,rfl,ae q3,aqm _,rfl⟩⟩ (by simp;omega) ?_
    intro w4 H4 fp4 s4 e4 hf4
    rw[aq3]at s4
    have F4:ah Hl H4:=F3.then e4 (fun z hz=>by rcases hf3 with h| ⟨p,h,h2,_⟩<;>rw[hz]at h<;>injection h with h<;>omega)
    refine And.intro (by first|exact F4.own bl (fun h=>h)|exact bl) ?_
    refine vs ?_
    refine(fin _ _ _ F4 s4).mono ?_
    rintro _ H5 ⟨rfl,F5⟩
    refine And.intro (F5.own bl (fun h=>h)) ?_
    refine vs ?_
    rw[wrap64 (n:=(j:Int)+1) (by omega) (by omega)]
    exact⟨es.length - (j+1),by omega,j+1,rfl,by omega,gl.trans F5,F5.own bl (fun h=>h),rl.fresh F5,rfl⟩
  ·refine vs ?_
   have f1:=nl Hl [i64 j]
   have q1:=az Hl 3 [i64 j]
   have b1:=f1.own bl (fun h=>h)
   have z1:(Hl.new 3 [i64 j]).size=Hl.size+1:=am _ _ _
   refine And.intro (by first|exact b1|exact bl) ?_
   refine vs ?_
   generalize fh:Hl.size=s1 at*
   generalize Hl.new 3 [i64 j]=H1 at*
   have f2:=nl H1 []
   have l2:Sl (H1.new 3 []) 1 (.slice (some ⟨H1.size,0,none⟩) 0 0) (([]:List Int)).length (([]:List Int).map i64) (some H1.size):=Sl.bU (size:=1) (n:=0) (xs:=[]) rfl rfl
   have q2:=f2.own q1 (fun h=>h)
   refine And.intro (by first|exact f2.own b1 (fun h=>h)|exact b1|exact bl) ?_
   refine vs ?_
   generalize Jv:H1.size=s2 at*
   generalize H1.new 3 []=H2 at*
   refine Ef (xs:=[]) (ys:=T) l2 (rl.fresh (f1.trans f2)) (by simp;omega) ?_
   intro w3 H3 fp3 s3 e3 hf3
   have F3:ah Hl H3:=(f1.trans f2).then e3 (fun z hz=>by injection hz with hz;omega)
   have b3:=F3.own bl (fun h=>h)
   have q3:=e3.own q2 (fun hz=>by injection hz with hz;omega)
   refine And.intro b3 ?_
   refine vs ?_
   refine Ef (xs:=[]++T) (ys:=[(j:Int)]) s3 ⟨rfl,.inr ⟨s1,0,1,_,rfl,ae q3,aqm _,rfl⟩⟩ (by simp;omega) ?_
   intro w4 H4 fp4 s4 e4 hf4
   rw[aq3]at s4
   have ed:=f2.size
   have F4:ah Hl H4:=F3.then e4 (fun z hz=>by rcases hf3 with h| ⟨p,h,h2,_⟩<;>rw[hz]at h<;>injection h with h<;>omega)
   refine And.intro (by first|exact F4.own bl (fun h=>h)|exact bl) ?_
   refine vs ?_
   refine(fin _ _ _ F4 s4).mono ?_
   rintro _ H5 ⟨rfl,F5⟩
   refine And.intro (F5.own bl (fun h=>h)) ?_
   refine vs ?_
   rw[wrap64 (n:=(j:Int)+1) (by omega) (by omega)]
   exact⟨es.length - (j+1),by omega,j+1,rfl,by omega,gl.trans F5,F5.own bl (fun h=>h),rl.fresh F5,rfl⟩
end Go.Proofs.YthpjfeolagohkaaGreat
