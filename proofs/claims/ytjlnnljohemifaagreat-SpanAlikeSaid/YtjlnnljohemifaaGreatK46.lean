/- Texts put behind each other. -/
import Derived.Test.YtjlnnljohemifaaGreatK98
import Derived.Test.YtjlnnljohemifaaGreatK38
import Derived.Test.YtjlnnljohemifaaGreatK43
import Derived.Test.YtjlnnljohemifaaGreatK45
set_option maxRecDepth 100000
set_option maxHeartbeats 8000000
set_option linter.unusedVariables false
set_option linter.unusedSimpArgs false
namespace Go.Proofs.YtjlnnljohemifaaGreat
open Go Go.Vc
def abJ(H H':Hp)(kd dd n:Int)(es:List Ed)(v:Value):Prop:=
 (¬jk kd dd∧v= .tuple [.slice none 0 0,i64 (SU kd dd)].toArray)∨(jk kd dd∧dJ n es=false∧v= .tuple [.slice none 0 0,i64 201].toArray)∨
 (jk kd dd∧dJ n es=true∧∃ (T:List Int) (sv:Value) (fp:Option Nat),v= .tuple [sv,i64 0].toArray∧Sl H' 1 sv T.length (T.map i64) fp∧(∀b,fp=some b→H.size≤b)∧jR n es T∧PR es T∧T.Pairwise (· < ·))
theorem SC(n:Nat):cA [Value.int .i64 0,Value.int .u32 0] n=lm (List.replicate n (0,0)):=by
 induction n with
 |zero=>rfl
 |succ n ih=>
  rw[aoc]
  show[Value.int .i64 0,Value.int .u32 0]++cA [Value.int .i64 0,Value.int .u32 0] n=_
  rw[ih]
  rfl
theorem Ur{H H':Hp}{lo N x b1 b2 b3 mp s:Nat}{gs g:Value}{S:Nat→Prop}{w:Nw}{A:Ar}(st:Ec H s S w A 0)(hS:∀z,S z→lo≤z)(NF:lo≤H.size)
  (o:H'.own x=some [i64 N,gs,ptr s,.slice (some ⟨b1,0,none⟩) N N,.slice (some ⟨b2,0,none⟩) N N,.slice (some ⟨b3,0,none⟩) N N,.map (some mp),.slice none 0 0])(o1:H'.own b1=some (cA [i64 0] N))(o2:H'.own b2=some (cA [i64 0] N))(o3:H'.own b3=some (cA [i64 0,.int .u32 0] N))(m:H'.mp mp=some ([],0))
  (f:ai H H')(hb:H.size≤x∧H.size≤b1∧H.size≤b2∧H.size≤b3∧H.size≤mp)(ne:x≠b1∧x≠b2∧x≠b3∧x≠mp∧b1≠b2∧b1≠b3∧b1≠mp∧b2≠b3∧b2≠mp∧b3≠mp):
  ∃B:NG,([(3,g),(8,ptr s),(10,ptr x)]:Env)=[(3,g),(8,ptr s),(10,ptr B.x)]∧B.s=s∧vB H' B lo N gs (.slice none 0 0) S w A 0 [] (List.replicate N 0) (List.replicate N 0) (List.replicate N (0,0))∧ai H H':=by
 have hn:∀z,H.size≤z→¬S z:=fun z hz h=>by have:=st.slt z h;omega
 have e0:cA [i64 0] N=List.replicate N (i64 0):=by rw[AW,apC]
 refine⟨⟨x,b1,b2,b3,mp,s⟩,rfl,rfl,⟨o,?_,?_,by rw[o3,←SC],⟨[],0,m,rfl,aoG⟩,st.ext f (fun _ _ h=>h),⟨hn _ hb.1,hn _ hb.2.1,hn _ hb.2.2.1,hn _ hb.2.2.2.1,hn _ hb.2.2.2.2⟩,ne,hS,by simp only;omega⟩,f⟩
 ·rw[o1,e0,apC];rfl
 ·rw[o2,e0,apC]
theorem uU{H:Hp}(kd dd:Int)(Db:jk kd dd→R4 kd dd){n:Int}{a:Option Addr}{c:Nat}{es:List Ed}(h:dc H 3 (.slice a es.length c) es.length (eF es))(hm:es.length≤1000000000):
  af Tryz.prog KL [Nf kd dd,F8 n (.slice a es.length c)] H fun v H'=>aw (ai H H'∧abJ H H' kd dd n es v):=by
 refine Gv KS ⟨rfl,?_⟩
 simp(disch:=(first|omega| (simp only[Zs]<;>omega)|fail)) only[go_sem, ↓reduceIte,Zv,De,F8]
 have f0:ai H (H.new 23 [i64 kd,i64 dd]):=(ag.refl _ _).new _ _
 have b0:(H.new 23 [i64 kd,i64 dd]).own H.size=some [i64 kd,i64 dd]:=aB _ _ _
 have z0:(H.new 23 [i64 kd,i64 dd]).size=H.size+1:=aq _ _ _
 generalize H.new 23 [i64 kd,i64 dd]=H0 at*
 have f1:ai H0 (H0.new 52 [i64 n,.slice a es.length c]):=(ag.refl _ _).new _ _
 have b1:(H0.new 52 [i64 n,.slice a es.length c]).own H0.size=some [i64 n,.slice a es.length c]:=aB _ _ _
 have z1:(H0.new 52 [i64 n,.slice a es.length c]).size=H0.size+1:=aq _ _ _
 have a1:=f1.own b0 (fun h=>h)
 rw[z0]at b1 z1
 generalize H0.new 52 [i64 n,.slice a es.length c]=H1 at*
 refine v1 (ae a1) ?_
 refine(nG kd dd H1).mono ?_
 rintro _ H2 ⟨rfl,f2⟩
 have g2:=(f0.trans f1).trans f2
 have a2:=f2.own a1 (fun h=>h)
 have b2:=f2.own b1 (fun h=>h)
 refine vs ?_
 refine am.dec (fun hc=>?_) (fun hc=>?_)<;>refine vs ?_
 rotate_left
 ·exact⟨g2,.inl ⟨fun hf=>hc (PH hf),rfl⟩⟩
 have hf:jk kd dd:=Lu.1 (by omega)
 refine v1 (ae b2) ?_
 refine(j6 (n:=n) (h.fresh g2) hm).mono ?_
 rintro _ H3 ⟨rfl,f3⟩
 have g3:=g2.trans f3
 have a3:=f3.own a2 (fun h=>h)
 have b3:=f3.own b2 (fun h=>h)
 by_cases hr:dJ n es=true
 rotate_left
 ·rw[if_neg hr]
  refine v1 aoi ?_
  exact⟨g3,.inr (.inl ⟨hf,by simpa using hr,rfl⟩)⟩
 rw[if_pos hr]
 have qB:=(fQ n es).1 hr
 have L0:=qB.n0
 have xM:=qB.n1
 obtain⟨N,rfl⟩:∃N:Nat,n=(N:Int):=⟨n.toNat,by omega⟩
 refine v3 aoi (ae a3) (ae b3) ?_
 refine af.mono (by simpa using JC (cap:=(N:Int)) (mo:=1) hf (Db hf) (by omega) (by omega) H3) ?_
 rintro _ H4 ⟨s,S,rfl,st4,f4,hS4⟩
 have g4:=g3.trans f4
 have b4:=f4.own b3 (fun h=>h)
 refine v1 aoi ?_
 refine(Ee st4 (by simp[zj])).mono ?_
 rintro _ H5 ⟨rfl,S5,st5,e5,PE⟩
 have z3:=g3.size
 have z4:=g4.size
 have g5:ai H H5:=g4.then e5 (fun z hz=>by have:=hS4 z hz;omega)
 have hS5:∀z,S5 z→H.size≤z:=fun z hz=>by
  rcases PE z hz with h|h
  ·have:=hS4 z h;omega
  ·omega
 have hgb:H.size+1<H3.size:=aA b3
 have b5:=e5.own b4 (fun h=>by have:=hS4 _ h;omega)
 refine MJ (fun e H'=>∃B:NG,e=[(3,ptr (H.size+1)),(8,ptr s),(10,ptr B.x)]∧B.s=s∧vB H' B H.size N (.slice a es.length c) (.slice none 0 0) S5 (zj (N:Int)).make (PO (N:Int) 1) 0 [] (List.replicate N 0) (List.replicate N 0) (List.replicate N (0,0))∧ai H5 H') ?_ ?_
 ·refine vs ?_
  refine jX.intro (fun H'=>H'.own (H.size+1)=some [i64 N,.slice a es.length c]) b5 ?_
  refine vs ?_
  refine fV.intro (.agg #[i64 N,.slice a es.length c]) (fun H' hI=>by refine v1 (ae hI) ?_;exact⟨trivial,trivial⟩) ?_
  refine vs ?_
  refine fV.intro (i64 N) (fun H' hI=>by refine v1 (ae hI) ?_;exact⟨trivial,trivial⟩) ?_
  refine vs ?_
  refine fV.intro (i64 N) (fun H' hI=>by refine v1 (ae hI) ?_;exact⟨trivial,trivial⟩) ?_
  refine vs ?_
  refine fV.intro (i64 N) (fun H' hI=>by refine v1 (ae hI) ?_;exact⟨trivial,trivial⟩) ?_
  refine vs ?_
  have alI:=aA b5
  iterate 34
   all_goals try
    first
    |with_reducible refine EB.intro ?_ ?_
    |with_reducible refine dm.mk b5 ?_
    | ((with_reducible refine dm.mk ⟨by omega,by omega,by omega,by omega⟩ ?_);refine v1 Int.toNat_natCast ?_)
    | ((fail_if_success with_reducible refine Exists.intro ?_ ?_);refine vs ?_)
  all_goals
   simp only[Int.toNat_natCast]
   exact Ur st5 hS5 (by omega) (aV (by simp only[aq,iA])) (by refine vs ?_<;>trivial) (by exact vs trivial<;>trivial) (by exact vs trivial<;>trivial) (by exact vs trivial<;>trivial) (by repeat' first|exact ag.refl _ _|refine ag.new ?_ _ _|refine ag.iI ?_) (by omega) (by omega)
 rintro _ H6 ⟨B,rfl,rfl,m6,f6⟩
 have b6:=f6.own b5 (fun h=>h)
 have g6:=g5.trans f6
 refine v1 (ae b6) ?_
 refine(xl (n:=(N:Int)) (h.fresh g6) hm).mono ?_
 rintro _ H7 ⟨f7,⟨bK,_⟩| ⟨_,tb,fp,rfl,t7⟩⟩
 ·rw[hr]at bK;cases bK
 have m7:=m6.fresh f7
 have g7:=g6.trans f7
 have b7:=f7.own b6 (fun h=>h)
 have agw:=m6.lt
 have G0:xh es N (zj (N:Int)).make (PO (N:Int) 1) [] (List.replicate N 0) (List.replicate N 0) (List.replicate N (0,0)):=xh.zero es N aog aog
 have D0:Y2 es [] (List.replicate N 0):=by
  have h0:∀ (v k:Nat),k≠0→(List.replicate N 0)[v]? ≠some k:=fun v k hk hv=>by
   have:=aoF (anz hv)
   omega
  refine⟨?_,fun v=>h0 v 1 (by omega)⟩
  have e1:(fun v:Nat=>(List.replicate N 0)[v]? =some 2)=fun _=>False:=by
   funext v
   exact eq_false (h0 v 2 (by omega))
  rw[e1]
  exact xq.begin _
 rw[Int.toNat_natCast]at t7 ⊢
 refine v1 (ae b7) ?_
 have p7:GC H7 B H.size N (.slice a es.length c) es H6.size tb fp S5 (zj (N:Int)).make (PO (N:Int) 1) [] (List.replicate N 0) (List.replicate N 0) (List.replicate N (0,0)) [] (.slice none 0 0) none:=by
  refine⟨m7,t7,fun z hz h=>?_,Sl.nil _ _,fun b hb=>by cases hb⟩
  have:=agw z h
  rcases hz with rfl| ⟨i,hi,hp⟩
  ·have:=t7.base;omega
  ·have:=(t7.low i hi z hp).1;omega
 refine bk.intro (fun mm env H'=>∃ (j:Nat) (S':Nat→Prop) (w':Nw) (A':Ar) (L':List ((Int×Nat)×Value)) (sl:List Nat) (bl:List Int) (hl:List (Int×Nat)) (T:List Int) (ov:Value) (Ew:Option Nat),mm=N - j∧j≤N∧GC H' B H.size N (.slice a es.length c) es H6.size tb fp S' w' A' L' sl bl hl T ov Ew∧xh es N w' A' L' sl bl hl∧Y2 es T sl∧(∀v:Nat,v<j→sl[v]? =some 2)∧ai H H'∧
  env=[(8,ptr B.s),(10,ptr B.x),(11,.slice (some ⟨tb,0,none⟩) N N),(56,i64 N),(57,i64 j)]) N ⟨0,S5,_,_,[],_,_,_,[],_,none,rfl,ao2 _,p7,G0,D0,fun v hv=>by omega,g7,rfl⟩ ?_
 clear p7 G0 D0 m7 t7 g7 b7 f7 m6 f6 b6 g6 st5 e5 PE b5 g5 hS5 st4 f4 hS4 g4 b4 a3 b3 a2 b2 f3 g3 f2 g2
 rintro mm env H8 ⟨j,S8,w8,A8,L8,sl8,bl8,hl8,T8,ov8,Us,rfl,hj,p8,G8,D8,SD,g8,rfl⟩
 refine vs ?_
 refine am.dec (fun aO=>?_) (fun aO=>?_)<;>refine vs ?_
 rotate_left
 ·have gD:j=N:=by omega
  subst gD
  obtain⟨Gw,NF⟩:=D8.VQ qB (fun v hv=>SD v (by omega))
  have gk:=Mj Gw.xV
  have EW:=nM qB Gw.xV Gw.sub
  refine v1 (ae p8.m.o) ?_
  refine(pZ p8.os (by omega)).mono ?_
  rintro _ H9 ⟨rfl,s9,e9⟩
  have o9:=e9.own p8.m.o (fun h=>(p8.od _ h).2.1 (.inr (.inl rfl)))
  refine v1 (ae o9) ?_
  obtain⟨k1,k2⟩:=Qi qB (Gk T8) Gw NF
  refine⟨g8.then e9 (fun z hz=>(p8.od z hz).1),.inr (.inr ⟨hf,hr,iZ T8,ov8,Us,rfl,by rw[mL];exact s9,fun b hb=>(p8.od b hb).1,k1,k2,SA gk⟩)⟩
 rw[TA]
 have gD:j<N:=by omega
 obtain⟨k,hk⟩:∃k,sl8[j]? =some k:=⟨_,ans (by rw[G8.l1];exact gD)⟩
 have C6:=G8.two k (anz hk)
 have hk1:k≠1:=fun e=>D8.2 j (by rw[hk,e])
 have ck:(sl8.map fun k:Nat=>i64 k)[j]? =some (i64 k):=by rw[anR,hk];rfl
 refine v1 (ae p8.m.o) ?_
 refine⟨⟨by omega,by omega⟩,?_⟩
 refine v5 (ae p8.m.o1) Int.toNat_natCast anw ant ck ?_
 refine am.dec (fun h0=>?_) (fun h0=>?_)<;>refine vs ?_
 rotate_left
 ·rw[wrap64 (n:=(j:Int)+1) (by omega) (by omega)]
  refine⟨N - (j+1),by omega,j+1,S8,w8,A8,L8,sl8,bl8,hl8,T8,ov8,Us,rfl,by omega,p8,G8,D8,fun v hv=>?_,g8,rfl⟩
  by_cases e:v=j
  ·subst e
   rw[hk]
   exact anP some (by omega)
  ·exact SD v (by omega)
 have Uj:k=0:=by omega
 subst Uj
 obtain⟨gs0,gt0⟩:=Nx.begin (bl:=bl8) qB D8 hk
 refine(jq p8.m qB h g8 (anG _) gD (G8.root hk) p8.t p8.td gs0 rfl).mono ?_
 rintro _ H9 ⟨rfl,S9,w9,A9,L9,sl9,bl9,hl9,m9,G9,gs9,e9,hs9⟩
 have p9:=p8.go m9 e9 hs9
 have g9:ai H H9:=g8.then e9 (fun z hz=>p8.m.ge z (hz.imp_right .inr))
 refine vs ?_
 refine(IF p9 G9).mono ?_
 rintro _ H10 ⟨x,gg,ky,er,S10,w10,A10,rfl,p10,N10,e10,agy⟩
 have g10:ai H H10:=g9.then e10 (fun z hz=>p9.m.ge z (.inl hz))
 refine vs ?_
 obtain⟨f11,Zb,z11⟩:=Lq H10 114 [Value.int .i64 0,Value.int .u32 0] [i64 x,Value.int .u32 (gg:Int)]
 generalize hhb:H10.size=hb at*
 generalize (H10.new 114 [Value.int .i64 0,Value.int .u32 0]).wr hb [i64 x,Value.int .u32 (gg:Int)]=H11 at*
 have p11:=p10.fresh f11
 have g11:=g10.trans f11
 have abM:¬ (S10 hb∨hb=B.x∨B.row hb)∧Us≠some hb:=⟨fun h=>by have:=p10.m.lt hb h;omega,fun h=>by have:=p10.olt hb h;omega⟩
 refine bk.intro (fun mm env H'=>∃ (x:Int) (gg:Nat) (er:Int) (S':Nat→Prop) (w':Nw) (A':Ar) (L':List ((Int×Nat)×Value)) (sl:List Nat) (bl:List Int) (hl:List (Int×Nat)) (T:List Int) (ov:Value) (Ew:Option Nat) (o:List Nat) (kk:Nat→Int) (hb:Nat),mm=N - o.length∧GC H' B H.size N (.slice a es.length c) es H6.size tb fp S' w' A' L' sl bl hl T ov Ew∧Next es N w' A' L' sl bl hl x gg er∧Nx es (fun v:Nat=>sl8[v]? =some 2) o kk T sl bl []∧GrT es T T8 (fun v:Nat=>sl8[v]? =some 2) o∧j∈o∧H'.own hb=some [i64 x,Value.int .u32 (gg:Int)]∧(¬ (S' hb∨hb=B.x∨B.row hb)∧Ew≠some hb)∧ai H H'∧
  env=[(8,ptr B.s),(10,ptr B.x),(11,.slice (some ⟨tb,0,none⟩) N N),(13,ptr hb),(15,i64 er),(56,i64 N),(57,i64 j)]) (N - 1) ⟨x,gg,er,S10,w10,A10,L9,sl9,bl9,hl9,T8,ov8,Us,[j],_,hb,rfl,p11,N10,gs9,gt0,by simp,Zb,abM,g11,rfl⟩ ?_
 clear p11 N10 gs9 gt0 Zb abM g11 f11 z11 hhb p10 e10 agy g10 p9 m9 G9 e9 hs9 g9
 rintro mm env XC ⟨x,gg,er,S12,w12,A12,L12,abN,SE,abO,T12,abQ,SF,o,kk,hb,rfl,Qj,N12,XD,Ut,hjo,QF,XE,g12,rfl⟩
 refine vs ?_
 refine am.dec (fun he=>?_) (fun he=>?_)<;>refine vs ?_
 rotate_left
 ·rcases N12 with ⟨_,Zc,bK⟩| ⟨h0,_⟩
  ·rw[wrap64 (n:=(j:Int)+1) (by omega) (by omega)]
   refine⟨N - (j+1),by omega,j+1,S12,w12,A12,L12,abN,SE,abO,T12,abQ,SF,rfl,by omega,Qj,Zc,XD.over D8.1 Ut bK,fun v hv=>(XD.d v).2 ?_,g12,rfl⟩
   by_cases e:v=j
   ·subst e;exact .inr hjo
   ·exact .inl (SD v (by omega))
  ·exact absurd h0 he
 rcases N12 with ⟨h0,_⟩| ⟨_,v,Dt,hvL,OM,Zc⟩
 ·omega
 have hvN:v<N:=by
  have:=(anu.1 Dt).1
  have h2:=Zc.l1
  rw[anv]at h2
  omega
 obtain⟨Uu,abR,alS⟩:=XD.enter qB Ut Dt OM
 have ZN:(o++[v]).length≤N:=Ik N _ Uu.P.nd fun y hy=>by
  have:=(Uu.d y).2 (.inr hy)
  have h1:=(anu.1 this).1
  have h2:=Zc.l1
  omega
 rw[anD,anM]at ZN
 obtain⟨b,hbv⟩:∃b,SE[v]? =some b:=⟨_,ans (by rw[Zc.l2];exact hvN)⟩
 have Uo:SE.getD v 0=b:=by rw[anx,hbv];rfl
 have cb:(SE.map i64)[v]? =some (i64 b):=by rw[anR,hbv];rfl
 rw[Uo]at Uu abR
 have alT:=nM qB Ut.xV (fun i hi=>(Ut.ins i hi).1)
 refine v2 (ae Qj.m.o) (ae QF) ?_
 refine⟨Iv _ _,?_⟩
 refine Bi.look Qj.m.m (a:=(x,gg)) hvL ?_
 refine vs ?_
 refine MJ (fun e H'=>∃Za abS,e=[(8,ptr B.s),(10,ptr B.x),(11,.slice (some ⟨tb,0,none⟩) N N),(13,ptr hb),(16,i64 v),(56,i64 N),(57,i64 j)]∧GC H' B H.size N (.slice a es.length c) es H6.size tb fp S12 w12 A12 L12 abN SE abO (T12++[b]) Za abS∧H'.own hb=some [i64 x,Value.int .u32 (gg:Int)]∧abS≠some hb∧ai H H') ?_ ?_
 ·refine jX.intro (fun _=>True) trivial ?_
  have fl:ai XC (XC.new 3 [i64 b]):=(ag.refl _ _).new _ _
  have my:=aA Qj.m.o
  have YI:=aA Qj.m.o2
  have U5:=aA QF
  have fin:∀K,(∀v' H2 cO,Sl H2 1 v' (T12.length+1) (T12.map i64++[i64 b]) cO→ag (fun z=>SF=some z) (XC.new 3 [i64 b]) H2→(cO=SF∨∃p,cO=some p∧(XC.new 3 [i64 b]).size≤p∧p<H2.size)→K v' H2)→fW 3 1 8 [i64 0] abQ (.slice (some ⟨XC.size,0,none⟩) 1 1) (XC.new 3 [i64 b]) K:=fun K hk=>
   Sl.append (Qj.os.ext fl (fun _ _ h=>h)) (Sl.cf (size:=1) (n:=1) (xs:=[i64 b]) rfl rfl).rd rfl (rP [b]) (by omega) hk
  iterate 12
   all_goals try
    first
    |with_reducible refine EB.intro ?_ ?_
    |with_reducible refine dm.mk ⟨by omega,by omega⟩ ?_
    |with_reducible refine fin _ fun v' H2 cO s2 e2 hf2=>?_
    | ((fail_if_success with_reducible refine Exists.intro ?_ ?_);(fail_if_success refine fin _ ?_);refine v6 (ae Qj.m.o) (ae Qj.m.o2) Int.toNat_natCast anw ant cb ?_)
  all_goals
   obtain⟨va,Xc,rfl,_⟩:=dD s2
   obtain⟨q1,q2⟩:=Qj.push fl s2 e2 hf2 rfl
   have ox:=e2.own (fl.own Qj.m.o (fun h=>h)) (fun h=>(Qj.od _ h).2.1 (.inr (.inl rfl)))
   refine v1 ox ?_
   refine⟨_,cO,trivial,q1,e2.own (fl.own QF (fun h=>h)) XE.2,fun h=>?_,g12.then q2 (fun z hz=>?_)⟩
   ·rcases hf2 with h2| ⟨p,h2,h3,_⟩
    ·exact XE.2 (by rw[←h2];exact h)
    ·rw[h]at h2
     injection h2 with h2
     have:=fl.size
     omega
   ·rcases hz with h|h
    ·exact(Qj.od z h).1
    ·rw[h];exact Qj.m.low.2.1
 rintro _ H13 ⟨agz,Vx,rfl,p13,Uv,alU,g13⟩
 refine vs ?_
 refine(jq p13.m qB h g13 (anG _) hvN Zc p13.t p13.td Uu (by simp)).mono ?_
 rintro _ Zd ⟨rfl,S14,w14,A14,L14,agA,agB,agC,m14,G14,agD,vt,agE⟩
 have p14:=p13.go m14 vt agE
 have g14:ai H Zd:=g13.then vt (fun z hz=>p13.m.ge z (hz.imp_right .inr))
 have U5:=aA Uv
 have b14:=vt.own Uv (fun h=>XE.1 (h.imp_right .inr))
 refine v1 (ae b14) ?_
 obtain⟨f15,b15,z15⟩:=Lq Zd 114 [Value.int .i64 0,Value.int .u32 0] [i64 x,Value.int .u32 (gg:Int)]
 generalize hhb:Zd.size=rR at*
 generalize (Zd.new 114 [Value.int .i64 0,Value.int .u32 0]).wr rR [i64 x,Value.int .u32 (gg:Int)]=H15 at*
 have p15:=p14.fresh f15
 have g15:=g14.trans f15
 have XF:¬ (S14 rR∨rR=B.x∨B.row rR)∧Vx≠some rR:=⟨fun h=>by have:=p14.m.lt rR h;omega,fun h=>by have:=p14.olt rR h;omega⟩
 refine(IF p15 G14).mono ?_
 rintro _ H16 ⟨x',gg',ky',er',S16,w16,A16,rfl,p16,N16,Lw,abW⟩
 have g16:ai H H16:=g15.then Lw (fun z hz=>p15.m.ge z (.inl hz))
 have b16:=Lw.own b15 (fun h=>XF.1 (.inl h))
 refine v1 b16 ?_
 obtain⟨WK,b17⟩:=Lr b16 [i64 x',Value.int .u32 (gg':Int)]
 generalize H16.wr rR [i64 x',Value.int .u32 (gg':Int)]=H17 at*
 have al5:=f15.size
 have al6:=Lw.size
 have al7:=WK.size
 have abX:¬ (S16 rR∨rR=B.x∨B.row rR):=fun h=>XF.1 (by
  rcases h with h|h
  ·rcases abW rR h with h|h
   ·exact .inl h
   ·omega
  ·exact .inr h)
 have x17:ag S14 Zd H17:=⟨by omega,fun z hz hn=>by rw[WK.aM z (by omega) (by omega),Lw.aM z (by omega) hn,f15.aM z (by omega) (fun h=>h)]⟩
 have p17:=p14.to (p16.m.st.ext WK (fun z hz e=>abX (.inl (by rw[←e];exact hz)))) x17 (fun z hz=>(abW z hz).imp_right fun h=>by omega)
 have g17:ai H H17:=g14.then x17 (fun z hz=>p14.m.ge z (.inl hz))
 exact⟨N - (o++[v]).length,by rw[anD,anM];omega,x',gg',er',S16,w16,A16,L14,agA,agB,agC,T12++[b],agz,Vx,o++[v],_,rR,rfl,p17,N16,agD,abR,anL _ hjo,b17,⟨abX,XF.2⟩,g17,rfl⟩
theorem C2(H:Hp)(n:Int)(a:Option Addr)(k c:Nat):af Tryz.prog GL [F8 n (.slice a k c)] H fun v H'=>aw (v= .bool (decide (40<k∨(30<n∧n≤4096)))∧ai H H'):=by
 refine bm G2 ?_
 have f0:ai H (H.new 52 [i64 n,.slice a k c]):=(ag.refl _ _).new _ _
 have b0:=aB H 52 [i64 n,.slice a k c]
 simp(disch:=(first|omega| (simp only[Zs]<;>omega)|fail)) only[go_sem, ↓reduceIte,Zv,F8]
 generalize H.new 52 [i64 n,.slice a k c]=H0 at*
 refine am.dec (fun h1=>?_) (fun h1=>?_)<;>refine v1 (ae b0) ?_
 ·exact⟨anP Value.bool (by symm;simp;omega),f0⟩
 ·refine am.dec (fun h3=>?_) (fun h3=>?_)<;>refine v1 (ae b0) ?_
  ·exact⟨anP Value.bool (by rw[decide_eq_decide];omega),f0⟩
  ·exact⟨anP Value.bool (by symm;simp;omega),f0⟩
def Uw:List Ed:=[⟨0,1,1⟩,⟨1,2,2⟩,⟨2,0,3⟩]
theorem uV(H:Hp):af Tryz.prog z6 [] H fun v H'=>aw (v= .bool true∧ai H H'):=by
 refine bm Ao ?_
 refine vs ?_
 have fe:ai H (H.new 61 (eF Uw)):=(ag.refl _ _).new _ _
 have re:dc (H.new 61 (eF Uw)) 3 (.slice (some ⟨H.size,0,none⟩) Uw.length 3) Uw.length (eF Uw):=(Sl.lit H 61 3 3 (eF Uw) rfl).rd
 have hze:(H.new 61 (eF Uw)).size=H.size+1:=by rw[aq]
 have hE:H.new 61 [Value.int .i64 0,Value.int .i64 1,Value.int .i64 1,Value.int .i64 1,Value.int .i64 2,Value.int .i64 2,Value.int .i64 2,Value.int .i64 0,Value.int .i64 3]=H.new 61 (eF Uw):=rfl
 rw[hE]
 generalize H.new 61 (eF Uw)=H0 at*
 obtain⟨fw,q2,z2⟩:=Lq H0 52 [Value.int .i64 0,Value.slice none 0 0] [Value.int .i64 3,Value.slice (some ⟨H.size,0,none⟩) 3 3]
 rw[hze]at q2 fw
 generalize (H0.new 52 [Value.int .i64 0,Value.slice none 0 0]).wr (H.size+1) [Value.int .i64 3,Value.slice (some ⟨H.size,0,none⟩) 3 3]=H1 at*
 have r1:=re.fresh fw
 have f1:=fe.trans fw
 refine v1 (ae q2) ?_
 refine(uU 3 0 (fun h=>LP h) (n:=3) r1 (by decide)).mono ?_
 rintro _ H2 ⟨f2,⟨bK,_⟩| ⟨_,bK,_⟩| ⟨_,_,T,sv,fp,rfl,s2,gu,Gw,NF,hpw⟩⟩
 ·exact absurd (by decide) bK
 ·exact absurd bK (by decide)
 obtain rfl:=T7 Gw NF hpw
 obtain⟨sa,sc,rfl,_⟩:=dD s2
 have fl:ai H2 (H2.new 3 [i64 0,i64 1]):=(ag.refl _ _).new _ _
 refine v1 aoi ?_
 refine(El (xs:=[0,1]) (ys:=[0,1]) (s2.rd.fresh fl) (Sl.lit H2 3 1 2 [i64 0,i64 1] rfl).rd (by decide)).mono ?_
 rintro _ H3 ⟨rfl,e⟩
 obtain rfl:=e
 refine v1 aoi ?_
 exact⟨rfl,(f1.trans f2).trans fl⟩
end Go.Proofs.YtjlnnljohemifaaGreat
