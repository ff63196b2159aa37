/- Texts put behind each other. -/
import Derived.Test.YtjlnnljohemifaaGreatK98
import Derived.Test.YtjlnnljohemifaaGreatK21
import Derived.Test.YtjlnnljohemifaaGreatK22
import Derived.Test.YtjlnnljohemifaaGreatK27
import Derived.Test.YtjlnnljohemifaaGreatK29
set_option maxRecDepth 100000
set_option maxHeartbeats 8000000
set_option linter.unusedVariables false
set_option linter.unusedSimpArgs false
namespace Go.Proofs.YtjlnnljohemifaaGreat
open Go Go.Vc
section
variable {H H' H1 H2 : Hp} {s : Nat} {S S1 : Nat → Prop} {w w2 : Nw} {A A2 : Ar} {q q2 : Int}
theorem Ec.tmp{b:Nat}{l:List Value}(h:Ec H1 s S1 w A q)(hb:¬S1 b):Ec (H1.wr b l) s S1 w A q:=h.ext ((ag.refl (fun x=>x=b) _).wr (fun _=>rfl) _:ag (fun x=>x=b) H1 _) (fun z hz e=>hb (by rw[←e];exact hz))
theorem EG(h:Ec H2 s S1 w A q)(e:ag S H H2)(hs:∀z,S1 z→S z∨H.size≤z):Nd s S H H2 w A q:=⟨S1,h,e,hs⟩
theorem EH{b:Nat}{l:List Value}(e:ag S H H1)(hb:H.size≤b):ag S H (H1.wr b l):=by
 have e2:ag (fun x=>x=b) H1 (H1.wr b l):=(ag.refl (fun x=>x=b) _).wr (fun _=>rfl) _
 exact⟨aor e.size e2.size,fun z hz hn=>by rw[e2.aM z (anT hz e.size) (by omega),e.aM z hz hn]⟩
theorem Lt(h:Ec H s S w A q){g:Int}(hg:w.has g):af Tryz.prog Fj [ptr s,i64 g] H fun v H'=>aw (
  (w.len g=0∧v= .tuple [gk 0 0,i64 0,i64 172].toArray∧Nd s S H H' w A q)∨(∃x y,w.first g x∧w.cs[x.toNat]? =some y∧v= .tuple [gk x (A.bz x),i64 y.2.1,i64 0].toArray∧Nd s S H H' w A q)):=by
 have eQ:=h.slt
 have Hv:=h.lnk.1
 refine bm Fo ?_
 refine vs ?_
 have f0:ai H (H.new 114 [Value.int .i64 0,Value.int .u32 0]):=(ag.refl _ _).new _ _
 have b0:(H.new 114 [Value.int .i64 0,Value.int .u32 0]).own H.size=some [Value.int .i64 0,Value.int .u32 0]:=aB _ _ _
 have z0:(H.new 114 [Value.int .i64 0,Value.int .u32 0]).size=H.size+1:=aq _ _ _
 generalize H.new 114 [Value.int .i64 0,Value.int .u32 0]=H0 at*
 have h0:=h.ext f0 (fun _ _ h=>h)
 have QA:∀z,H.size≤z→¬S z:=fun z hz h=>by have:=eQ z h;omega
 refine(Hw h0 hg).mono ?_
 rintro _ H1 (⟨UX,rfl,S1,h1,e1,eM⟩| ⟨x,hx,rfl,S1,h1,e1,eM⟩)
 ·have b1:=e1.own b0 (QA _ (anG _))
  have Ol:=e1.size
  refine vs ?_
  obtain⟨f2,b2,z2⟩:=Lq H1 114 [Value.int .i64 0,Value.int .u32 0] [i64 0,Value.int .u32 ((0:Nat):Int)]
  generalize (H1.new 114 [Value.int .i64 0,Value.int .u32 0]).wr H1.size [i64 0,Value.int .u32 ((0:Nat):Int)]=H2 at*
  have b3:=f2.own b1 (fun h=>h)
  refine am.dec (fun hh=>by omega) (fun _=>?_)
  refine v1 b3 ?_
  obtain⟨e4,b4⟩:=Lr b3 [Value.int .i64 0,Value.int .u32 0]
  have e2:ag S H H2:=((f0.mono fun _ _ h=>h.elim).trans e1).trans (f2.mono fun _ _ h=>h.elim)
  have xM:¬S1 H.size:=fun h=>by rcases eM _ h with h|h;exact QA _ (anG _) h;omega
  have h3:=((h1.ext f2 (fun _ _ h=>h)).tmp xM (l:=[Value.int .i64 0,Value.int .u32 0]))
  have e5:=EH (l:=[Value.int .i64 0,Value.int .u32 0]) e2 (anG H.size)
  refine v1 (ae b4) ?_
  exact .inl ⟨UX,rfl,EG h3 e5 (fun z hz=>(eM z hz).imp_right fun h=>by omega)⟩
 ·have b1:=e1.own b0 (QA _ (anG _))
  have Ol:=e1.size
  have jQ:=zh Hv hx
  refine vs ?_
  obtain⟨f2,b2,z2⟩:=Lq H1 114 [Value.int .i64 0,Value.int .u32 0] [i64 x,Value.int .u32 ((A.bz x:Nat):Int)]
  generalize (H1.new 114 [Value.int .i64 0,Value.int .u32 0]).wr H1.size [i64 x,Value.int .u32 ((A.bz x:Nat):Int)]=H2 at*
  have b3:=f2.own b1 (fun h=>h)
  have h2:=h1.ext f2 (fun _ _ h=>h)
  refine am.dec (fun _=>?_) (fun hh=>absurd trivial hh)
  refine v1 (ae b2) ?_
  have WH:=h1.slt
  refine(xL h2 jQ).mono ?_
  rintro _ H3 ⟨y,hy,rfl,S3,h3,e3,Gx⟩
  have xM:¬S1 H.size:=fun h=>by rcases eM _ h with h|h;exact QA _ (anG _) h;omega
  have Dg:¬S1 H1.size:=fun h=>by have:=WH _ h;omega
  have b4:=e3.own b3 xM
  have c4:=e3.own b2 Dg
  have QB:=e3.size
  refine vs ?_
  obtain⟨f5,b5,z5⟩:=Lq H3 224 [Value.int .i64 0,Value.int .u64 0] [i64 y.2.1,u64 y.2.2]
  generalize (H3.new 224 [Value.int .i64 0,Value.int .u64 0]).wr H3.size [i64 y.2.1,u64 y.2.2]=H5 at*
  have b6:=f5.own b4 (fun h=>h)
  have c6:=f5.own c4 (fun h=>h)
  have h5:=h3.ext f5 (fun _ _ h=>h)
  have hn3:∀b,¬S1 b→b<H2.size→¬S3 b:=fun b hb rR h=>by rcases Gx _ h with h|h;exact hb h;omega
  have e5:ag S H H5:=by
   have e2:ag S H H2:=((f0.mono fun _ _ h=>h.elim).trans e1).trans (f2.mono fun _ _ h=>h.elim)
   have YK:ag S H H3:=⟨aor e2.size e3.size,fun z hz hn=>by rw[e3.aM z (anT hz e2.size) (fun h=>by rcases eM z h with h|h;exact hn h;omega),e2.aM z hz hn]⟩
   exact YK.trans (f5.mono fun _ _ h=>h.elim)
  refine jX.intro (fun H'=>H'.own H3.size=some [i64 y.2.1,u64 y.2.2]) b5 ?_
  refine vs ?_
  refine fV.intro (i64 y.2.1) (fun H' hI=>by refine v1 (ae hI) ?_;trivial) ?_
  refine v1 (ae c6) ?_
  refine And.intro b5 ?_
  refine v1 b6 ?_
  obtain⟨e7,b7⟩:=Lr b6 [i64 x,Value.int .u32 ((A.bz x:Nat):Int)]
  have b57:=e7.own b5 (fun e=>by omega)
  first
   |refine And.intro b57 ?_
   |refine And.intro b5 ?_
  have h7:=h5.tmp (hn3 _ xM (by omega)) (l:=[i64 x,Value.int .u32 ((A.bz x:Nat):Int)])
  have e8:=EH (l:=[i64 x,Value.int .u32 ((A.bz x:Nat):Int)]) e5 (anG H.size)
  refine v1 (ae b7) ?_
  refine .inr ⟨x,y,hx,hy,rfl,EG h7 e8 (fun z hz=>?_)⟩
  rcases Gx z hz with h|h
  ·exact(eM z h).imp_right fun h=>by omega
  ·exact .inr (by omega)
theorem PG{g x x':Int}(h:w.first g x)(h':w.first g x'):x'=x:=by
 obtain⟨_,h2,h3⟩:=bN.1 h
 obtain⟨_,h5,h6⟩:=bN.1 h'
 apply anW
 intro aP
 have:=(ar w).asym (h3 x' h5 aP)
 rw[h6 x h2 (Ne.symm aP)]at this
 cases this
theorem zi(h:Ec H s S w A q){g:Int}(hg:w.has g):af Tryz.prog jB [ptr s,i64 g] H fun v H'=>aw (
  (w.len g=0∧v= .tuple [gk 0 0,i64 0,i64 172].toArray∧Nd s S H H' w A q)∨(∃x y,w.first g x∧w.cs[x.toNat]? =some y∧v= .tuple [gk x (A.bz x),i64 y.2.1,i64 0].toArray∧Nd s S H H' (w.put x (0,0,0)) (A.back x) q)):=by
 have eQ:=h.slt
 have Hv:=h.lnk.1
 refine bm sY ?_
 refine vs ?_
 have f0:ai H (H.new 114 [Value.int .i64 0,Value.int .u32 0]):=(ag.refl _ _).new _ _
 have b0:(H.new 114 [Value.int .i64 0,Value.int .u32 0]).own H.size=some [Value.int .i64 0,Value.int .u32 0]:=aB _ _ _
 have z0:(H.new 114 [Value.int .i64 0,Value.int .u32 0]).size=H.size+1:=aq _ _ _
 generalize H.new 114 [Value.int .i64 0,Value.int .u32 0]=H0 at*
 have h0:=h.ext f0 (fun _ _ h=>h)
 have QA:∀z,H.size≤z→¬S z:=fun z hz h=>by have:=eQ z h;omega
 refine(Lt h0 hg).mono ?_
 rintro _ H1 (⟨UX,rfl,S1,h1,e1,eM⟩| ⟨x,y,hx,hy,rfl,S1,h1,e1,eM⟩)
 ·have b1:=e1.own b0 (QA _ (anG _))
  have Ol:=e1.size
  refine vs ?_
  obtain⟨f2,b2,z2⟩:=Lq H1 114 [Value.int .i64 0,Value.int .u32 0] [i64 0,Value.int .u32 ((0:Nat):Int)]
  generalize (H1.new 114 [Value.int .i64 0,Value.int .u32 0]).wr H1.size [i64 0,Value.int .u32 ((0:Nat):Int)]=H2 at*
  have b3:=f2.own b1 (fun h=>h)
  refine am.dec (fun hh=>by omega) (fun _=>?_)
  refine v1 b3 ?_
  obtain⟨e4,b4⟩:=Lr b3 [Value.int .i64 0,Value.int .u32 0]
  have e2:ag S H H2:=((f0.mono fun _ _ h=>h.elim).trans e1).trans (f2.mono fun _ _ h=>h.elim)
  have xM:¬S1 H.size:=fun h=>by rcases eM _ h with h|h;exact QA _ (anG _) h;omega
  have h3:=((h1.ext f2 (fun _ _ h=>h)).tmp xM (l:=[Value.int .i64 0,Value.int .u32 0]))
  have e5:=EH (l:=[Value.int .i64 0,Value.int .u32 0]) e2 (anG H.size)
  refine v1 (ae b4) ?_
  exact .inl ⟨UX,rfl,EG h3 e5 (fun z hz=>(eM z hz).imp_right fun h=>by omega)⟩
 ·have b1:=e1.own b0 (QA _ (anG _))
  have Ol:=e1.size
  have jQ:=zh Hv hx
  refine vs ?_
  obtain⟨f2,b2,z2⟩:=Lq H1 114 [Value.int .i64 0,Value.int .u32 0] [i64 x,Value.int .u32 ((A.bz x:Nat):Int)]
  generalize (H1.new 114 [Value.int .i64 0,Value.int .u32 0]).wr H1.size [i64 x,Value.int .u32 ((A.bz x:Nat):Int)]=H2 at*
  have b3:=f2.own b1 (fun h=>h)
  have WH:=h1.slt
  have h2:=h1.ext f2 (fun _ _ h=>h)
  have xM:¬S1 H.size:=fun h=>by rcases eM _ h with h|h;exact QA _ (anG _) h;omega
  have Dg:¬S1 H1.size:=fun h=>by have:=WH _ h;omega
  obtain⟨t,vv,I,Sn,B,k,d,n,hi,m,ho,d1,d2,hS,_⟩:=h2
  refine am.dec (fun _=>?_) (fun hh=>absurd trivial hh)
  refine v1 (ae ho) ?_
  refine(n.extract g hi).mono ?_
  have Ea:∀z,B.S z→z<H2.size:=m.slt
  have hos:=aA ho
  rintro _ H3 (⟨UX,_⟩| ⟨x',wZ,rfl,Ef,qz,e3,Gx⟩)
  ·exfalso
   obtain⟨RL,Om,_⟩:=bN.1 hx
   exact(uC RL).1 UX x Om
  obtain rfl:=PG hx wZ
  have Md:=e3.own ho (fun h=>(d1 _ h).2 rfl)
  have b4:=e3.own b3 (fun h=>xM ((hS _).2 (.inl h)))
  have c4:=e3.own b2 (fun h=>Dg ((hS _).2 (.inl h)))
  have m3:=m.ext e3 (fun z hz h=>(d1 z h).1 hz)
  have QB:=e3.size
  refine v2 (ae Md) (ae c4) ?_
  refine(Eb m3 jQ).mono ?_
  rintro _ H4 ⟨rfl,RG,m4,e4,Qy⟩
  have nB1:¬B.S H.size:=fun h=>xM ((hS _).2 (.inr (.inl h)))
  have nB2:¬B.S H1.size:=fun h=>Dg ((hS _).2 (.inr (.inl h)))
  have b5:=e4.own b4 nB1
  have c5:=e4.own c4 nB2
  have ho4:=e4.own Md d2
  have hz4:=e4.size
  refine v2 (ae c5) b5 ?_
  obtain⟨e6,b6⟩:=Lr b5 [i64 x',Value.int .u32 ((A.bz x':Nat):Int)]
  refine v1 (ae b6) ?_
  have Ls:∀z,Ef z→Sn z∨H2.size≤z:=Gx
  have hB':∀z,(TN.mk B.a B.sb RG).S z→B.S z∨H3.size≤z:=fun z hz=>by
   rcases hz with h|h|h
   ·exact .inl (.inl h)
   ·exact .inl (.inr (.inl h))
   ·exact(Qy z h).imp_left fun h=>.inr (.inr h)
  have hiT:I H4 Ef (w.put x' (0,0,0)):=n.ext qz e4 (fun z hz hb=>by
   rcases Ls z hz with h|h
   ·exact(d1 z h).1 hb
   ·have:=Ea z hb;omega)
  have aaH:=fun z hz=>n.slt qz z hz
  have nn1:∀b,¬S1 b→b<H2.size→¬Ef b∧¬ (TN.mk B.a B.sb RG).S b:=fun b hb rR=>by
   refine⟨fun h=>?_,fun h=>?_⟩
   ·rcases Ls b h with h|h
    ·exact hb ((hS b).2 (.inl h))
    ·omega
   ·rcases hB' b h with h|h
    ·exact hb ((hS b).2 (.inr (.inl h)))
    ·omega
  have ae3:H.size≠s:=fun e=>xM ((hS _).2 (.inr (.inr e)))
  have uJ:=Ar.AU jQ
  have tK:Ec H4 s (fun z=>Ef z∨(TN.mk B.a B.sb RG).S z∨z=s) (w.put x' (0,0,0)) (A.back x') q:=by
   refine⟨t,vv,I,Ef,⟨B.a,B.sb,RG⟩,k,d,n,hiT,m4,ho4,fun z hz=>?_,fun h=>?_,fun z=>Iff.rfl,Hv.put uJ rfl⟩
   ·rcases Ls z hz with h|h
    ·refine⟨fun hb=>?_,(d1 z h).2⟩
     rcases hB' z hb with h2|h2
     ·exact(d1 z h).1 h2
     ·have:=aaH z hz;omega
    ·refine⟨fun hb=>?_,fun e=>by omega⟩
     rcases hB' z hb with h2|h2
     ·have:=Ea z h2;omega
     ·have:=aaH z hz;omega
   ·rcases hB' _ h with h2|h2
    ·exact d2 h2
    ·omega
  have ae4:=tK.tmp (b:=H.size) (l:=[i64 x',Value.int .u32 ((A.bz x':Nat):Int)]) (fun h=>by
   obtain⟨q1,q2⟩:=nn1 _ xM (by omega)
   rcases h with h|h|h
   ·exact q1 h
   ·exact q2 h
   ·exact ae3 h)
  have e04:ag S H H4:=by
   have e2:ag S H H2:=((f0.mono fun _ _ h=>h.elim).trans e1).trans (f2.mono fun _ _ h=>h.elim)
   exact⟨by have:=e2.size;omega,fun z hz hn=>by
    have dM:=e2.size
    have WI:¬S1 z:=fun h=>by rcases eM z h with h|h;exact hn h;omega
    rw[e4.aM z (by omega) (fun h=>WI ((hS z).2 (.inr (.inl h)))),e3.aM z (by omega) (fun h=>WI ((hS z).2 (.inl h))),e2.aM z hz hn]⟩
  have dM:=f2.size
  refine .inr ⟨x',y,hx,hy,rfl,EG ae4 (EH e04 (anG _)) (fun z hz=>?_)⟩
  have JV:S1 z∨H2.size≤z:=by
   rcases hz with h|h|h
   ·rcases Ls z h with h|h
    ·exact .inl ((hS z).2 (.inl h))
    ·exact .inr h
   ·rcases hB' z h with h|h
    ·exact .inl ((hS z).2 (.inr (.inl h)))
    ·exact .inr (by omega)
   ·exact .inl ((hS z).2 (.inr (.inr h)))
  rcases JV with h|h
  ·exact(eM z h).imp_right fun h=>by omega
  ·exact .inr (by omega)
end
end Go.Proofs.YtjlnnljohemifaaGreat

namespace Go.Proofs.YtjlnnljohemifaaGreat
open Go Go.Vc
abbrev Nf(kd dd:Int):Value:=.agg [i64 kd,i64 dd].toArray
def jk(kd dd:Int):Prop:=(1≤kd∧kd≤8)∧((kd=2∧2≤dd∧dd≤16)∨(kd≠2∧dd=0))
instance(kd dd:Int):Decidable (jk kd dd):=by unfold jk;exact inferInstance
def SU(kd dd:Int):Int:=if kd<1∨8<kd then 21 else if jk kd dd then 0 else 22
theorem RM{kd dd:Int}(h:kd<1∨8<kd):SU kd dd=21:=by unfold SU;rw[if_pos h]
theorem PH{kd dd:Int}(h:jk kd dd):SU kd dd=0:=by
 have:=h.1
 unfold SU
 rw[if_neg (by omega),if_pos h]
theorem RN{kd dd:Int}(h1:¬ (kd<1∨8<kd))(h:¬jk kd dd):SU kd dd=22:=by unfold SU;rw[if_neg h1,if_neg h]
theorem Lu{kd dd:Int}:SU kd dd=0↔jk kd dd:=by
 constructor
 ·intro h
  apply anW
  intro hn
  by_cases h1:kd<1∨8<kd
  ·rw[RM h1]at h;cases h
  ·rw[RN h1 hn]at h;cases h
 ·exact PH
theorem nG(kd dd:Int)(H:Hp):af Tryz.prog GP [Nf kd dd] H fun v H'=>aw (v=i64 (SU kd dd)∧ai H H'):=by
 refine bm G6 ?_
 refine vs ?_
 have f0:ai H (H.new 23 [i64 kd,i64 dd]):=(ag.refl _ _).new _ _
 repeat' (refine am.dec (fun _=>?_) (fun _=>?_)<;>try(refine v1 aoi ?_))
 all_goals
  first
   | (exfalso;omega)
   | (refine⟨?_,f0⟩;exact(anP i64 (RM (by omega))).symm)
   | (refine⟨?_,f0⟩;exact(anP i64 (PH (by unfold jk;omega))).symm)
   | (refine⟨?_,f0⟩;exact(anP i64 (RN (by omega) (by unfold jk;omega))).symm)
theorem FO(kd dd:Int)(H:Hp):af Tryz.prog GK [Nf kd dd] H fun v H'=>aw (v=i64 (SU kd dd)∧ai H H'):=by
 refine bm G1 ?_
 refine vs ?_
 have f0:ai H (H.new 23 [i64 kd,i64 dd]):=(ag.refl _ _).new _ _
 repeat' (refine am.dec (fun _=>?_) (fun _=>?_)<;>try(refine v1 aoi ?_))
 all_goals
  first
   | (exfalso;omega)
   | (refine⟨?_,f0⟩;exact(anP i64 (RM (by omega))).symm)
   | (refine⟨?_,f0⟩;exact(anP i64 (PH (by unfold jk;omega))).symm)
   | (refine⟨?_,f0⟩;exact(anP i64 (RN (by omega) (by unfold jk;omega))).symm)
theorem ol{kd dd:Int}(hf:jk kd dd)(hk:kd=1∨kd=2)(H:Hp):af Tryz.prog GS [Nf kd dd] H fun v H'=>aw (v=i64 (if kd=1 then 2 else dd)∧ai H H'):=by
 refine bm Hb ?_
 refine vs ?_
 have f0:ai H (H.new 23 [i64 kd,i64 dd]):=(ag.refl _ _).new _ _
 have o0:(H.new 23 [i64 kd,i64 dd]).own H.size=some [i64 kd,i64 dd]:=aB _ _ _
 generalize H.new 23 [i64 kd,i64 dd]=H0 at*
 refine(nG kd dd H0).mono ?_
 rintro _ H1 ⟨rfl,f1⟩
 have o1:=f1.own o0 (fun h=>h)
 rw[PH hf]
 refine v2 (ae o1) aoi ?_
 rcases hk with rfl|rfl
 ·refine am.cF (by decide) ?_
  refine v2 (ae o1) aoi ?_
  exact⟨rfl,f0.trans f1⟩
 ·refine am.aW (by decide) ?_
  refine v2 (ae o1) aoi ?_
  exact⟨rfl,f0.trans f1⟩
structure RO(w:Nw)(L:List Lk)(tops:List Int):Prop where
 bt:AC (aG w) (aQ w) (aZ L) (bj L) (bi tops)
 tl:tops.length=w.hs.length
def dv(n:Nat)(H:Hp)(S:Nat→Prop)(w:Nw):Prop:=∃ (B:LB) (C:Nat→Prop) (L:List Lk) (rs tops:List Int),B.n=n∧cV H B C w L rs tops∧RO w L tops∧∀z,S z↔B.S C z
theorem dv.slt{n:Nat}{H:Hp}{S:Nat→Prop}{w:Nw}(h:dv n H S w):∀z,S z→z<H.size:=by
 obtain⟨B,C,L,rs,tops,rfl,m,l,hS⟩:=h
 exact fun z hz=>m.slt z ((hS z).1 hz)
theorem dv.ext{n:Nat}{H H':Hp}{S T:Nat→Prop}{w:Nw}(h:dv n H S w)(e:ag T H H')(hd:∀z,S z→¬T z):dv n H' S w:=by
 obtain⟨B,C,L,rs,tops,rfl,m,l,hS⟩:=h
 exact⟨B,C,L,rs,tops,rfl,m.ext e (fun z hz=>hd z ((hS z).2 hz)),l,hS⟩
theorem xa{n:Nat}{H:Hp}{S:Nat→Prop}{w:Nw}(h:dv n H S w)(g x k s:Int):af Tryz.prog jE [ptr n,i64 g,i64 x,tz k s] H fun v H'=>aw (
  (¬w.lI g x∧v= .bool false∧cz (dv n) S H H' w)∨(w.lI g x∧v= .bool true∧cz (dv n) S H H' (w.put x (g,k,s)))):=by
 obtain⟨B,C,L,rs,tops,rfl,m,l,hS⟩:=h
 refine Gv tm ⟨rfl,?_⟩
 refine v1 jN.eq_1 ?_
 have f0:ai H (H.new 224 [i64 k,u64 s]):=(ag.refl _ _).new _ _
 have b0:(H.new 224 [i64 k,u64 s]).own H.size=some [i64 k,u64 s]:=aB _ _ _
 have m0:=m.fresh f0
 generalize H.new 224 [i64 k,u64 s]=H0 at*
 obtain⟨tv,Hy,_⟩:=m0.own
 refine v2 (ae Hy) (ae b0) ?_
 refine(kZ m0.cells g x k s).mono ?_
 rintro _ H1 (⟨bK,rfl,c1,e1⟩| ⟨qm,rfl,c1,e1⟩)
 ·refine vs ?_
  exact .inl ⟨bK,rfl,cz.same ⟨B,C,L,rs,tops,rfl,m0.aJ c1 e1 rfl,l,hS⟩ ((f0.mono fun _ _ h=>h.elim).trans (e1.mono fun z _ hz=>(hS z).2 (.inl hz)))⟩
 obtain⟨hh,hx,bJ⟩:=id qm
 have m1:=m0.aJ c1 e1 (by simp[Nw.put])
 have aX:=m1.len
 have my:(w.put x (g,k,s)).cs.length=w.cs.length:=by simp[Nw.put]
 obtain⟨Cx,o1,_⟩:=m1.own
 refine v1 (ae o1) ?_
 refine⟨⟨by omega,by omega⟩,?_⟩
 refine v3 m1.Cw ant anw ?_
 refine⟨by rw[anQ];omega,?_⟩
 refine vs ?_
 obtain⟨m2,e2⟩:cV (H1.wr B.rk ((rs.map i64).set x.toNat (Value.int .i64 1))) B C _ L (rs.set x.toNat 1) tops∧ag (fun z=>z=B.rk) H1 (H1.wr B.rk ((rs.map i64).set x.toNat (Value.int .i64 1))):=m1.Na x.toNat 1
 generalize H1.wr B.rk ((rs.map i64).set x.toNat (Value.int .i64 1))=H2 at*
 obtain⟨cc,lt,o2,q2,xF,tF,On⟩:=m2.fN
 refine jX.intro (fun H'=>H'.own B.n=some [ptr B.c,ptr B.t,.slice (some ⟨B.rk,0,none⟩) (rs.set x.toNat 1).length (rs.set x.toNat 1).length,.slice (some ⟨B.tp,0,none⟩) tops.length cc]) o2 ?_
 refine vs ?_
 refine fV.intro (.slice (some ⟨B.tp,0,none⟩) tops.length cc) (fun H' hI=>by refine v1 (ae hI) ?_;trivial) ?_
 refine v1 (ae o2) ?_
 have hg:=hh.1
 have di:g<tops.length:=by
  have:=(anu.1 hh.2).1
  have:=l.tl
  omega
 have q3:=m2.eO q2 (dT (tops:=tops) (h:=g) (by omega) di)
 have cK:=fun y=>dS hx (g,k,s) y
 have bo:TC (aG (w.put x (g,k,s))) (aQ (w.put x (g,k,s))) (aZ L) (bj L) (bi tops) g x:=by
  refine l.bt.ins rfl (Int.not_lt.1 fun h=>bJ (bq.1 h)) (by omega) (by omega) (by rw[cK,if_pos rfl]) (fun y hy=>by rw[cK,if_neg hy]) (fun a b ha hb tG me=>du hx _ ha hb tG me)
 refine And.intro o2 ?_
 refine vs ?_
 refine⟨⟨by omega,by omega⟩,?_⟩
 refine v4 (ae q2) ant anw q3 ?_
 refine And.intro o2 ?_
 refine vs ?_
 refine(ic m2 bo.mg).mono ?_
 rintro _ H3 ⟨r,L3,rs3,rfl,m3,g3,_,e3⟩
 have bn:=bo.done g3
 obtain⟨d1,d2,d3,d4⟩:=m2.mc.1
 have no:¬ (C B.n∨B.n=B.tl∨B.n=B.rk):=by rintro(h|h|h);exact m2.out.1 h;omega;omega
 refine And.intro (e3.own o2 no) ?_
 have q4:=e3.own q2 (by obtain⟨_,⟨_,_,d7⟩,⟨_,d9⟩,d10⟩:=m2.mc;rintro(h|h|h);exact m2.out.2.2.2.2 h;omega;omega)
 refine vs ?_
 refine⟨⟨by omega,by omega⟩,?_⟩
 refine v3 q4 ant anw ?_
 refine⟨by omega,?_⟩
 obtain⟨m4,e4⟩:=m3.lc q4 g.toNat r
 refine And.intro (e4.own (e3.own o2 no) d4) ?_
 refine vs ?_
 refine .inr ⟨qm,rfl,B.S C,⟨B,C,L3,rs3,_,rfl,m4,⟨?_,by rw[anv];exact l.tl⟩,fun z=>Iff.rfl⟩,?_,fun z hz=>.inl ((hS z).2 hz)⟩
 ·rw[ez (by omega) di]
  exact bn
 ·have hC:∀z,C z→S z:=fun z h=>(hS z).2 (.inl h)
  have h1:S B.tl:=(hS _).2 (.inr (.inr (.inr (.inl rfl))))
  have h2:S B.rk:=(hS _).2 (.inr (.inr (.inr (.inr (.inl rfl)))))
  have h3:S B.tp:=(hS _).2 (.inr (.inr (.inr (.inr (.inr rfl)))))
  exact(((((f0.mono fun _ _ h=>h.elim).trans (e1.mono fun z _ h=>hC z h)).trans (e2.mono fun z _ h=>h▸h2)).trans (e3.mono fun z _ h=>by rcases h with h|rfl|rfl;exact hC z h;exact h1;exact h2)).trans (e4.mono fun z _ h=>h▸h3))
theorem AC.none{hm:Int→Int}{lt:Int→Int→Bool}{K:Int→Bool→Int}{U T:Int→Int}(h0:hm (-1)=0)(hh:∀x,¬0<hm x)(hk:∀x c,K x c= -1)(hu:∀x,U x= -1)(ht:∀g,T g= -1):AC hm lt K U T:=
 ⟨⟨h0,fun p c x h hx=>absurd (h.symm.trans (hk p c)) hx,fun x p h hp=>absurd (h.symm.trans (hu x)) hp,fun p _=>hk p _⟩,fun g h=>absurd (ht g) h,fun x hx=>absurd hx (hh x)⟩
theorem AV(n:Nat)(x:Int)(c:Bool):aZ (List.replicate n jw) x c= -1:=by
 by_cases h:0≤x∧x< (List.replicate n jw).length
 ·have h2:=h.2
  rw[aog]at h2
  rw[oL (y:=jw) h.1 (by rw[aoN,if_pos (by omega)])]
  cases c<;>rfl
 ·exact Rz h c
theorem FP(n:Nat)(x:Int):bj (List.replicate n jw) x= -1:=by
 by_cases h:0≤x∧x< (List.replicate n jw).length
 ·have h2:=h.2
  rw[aog]at h2
  rw[uF (y:=jw) h.1 (by rw[aoN,if_pos (by omega)])]
  rfl
 ·exact M8 h
def zj(cap:Int):Nw:=⟨[false],List.replicate cap.toNat (0,0,0)⟩
theorem lf(cap:Int)(x:Int):¬0<aG (zj cap) x:=by
 intro h
 obtain⟨h1,h2,e,he⟩:=aD h
 have h3:(List.replicate cap.toNat ((0,0,0):Ce))[x.toNat]? =some (aG (zj cap) x,e):=he
 have:=aoF (anz h3)
 injection this with h4 h5
 omega
theorem CC(g:Int):bi [-1] g= -1:=by
 unfold bi
 split
 ·rw[anx]
  rcases hg:g.toNat with _|k
  ·rfl
  ·rfl
 ·rfl
theorem AW(k:Nat):cA [Value.int .i64 0] k=(List.replicate k (0:Int)).map i64:=by
 induction k with
 |zero=>rfl
 |succ k ih=>simp only[cA,aoc,aos,aom]at*;rw[ih];rfl
theorem CD(cap:Int)(H:Hp):af Tryz.prog GV [i64 cap] H fun v H'=>aw (
  ai H H'∧((¬ (0≤cap∧cap≤65536)∧v= .tuple [.pointer none,i64 31].toArray)∨
   ((0≤cap∧cap≤65536)∧∃n S,v= .tuple [ptr n,i64 0].toArray∧dv n H' S (zj cap)∧∀x,S x→H.size≤x))):=by
 refine bm Hd ?_
 refine vs ?_
 refine(k8 cap H).mono ?_
 rintro _ H1 ⟨f1,⟨hb,rfl⟩| ⟨hb,c,C,rfl,c1,hC⟩⟩
 ·refine vs ?_
  exact⟨f1,.inl ⟨hb,rfl⟩⟩
 refine v1 aoi ?_
 refine(uG H1 hb).mono ?_
 rintro _ H2 ⟨t,tl,rfl,t2,f2,ht,Mc⟩
 refine vs ?_
 refine⟨⟨by omega,by omega,by omega,by omega⟩,?_⟩
 refine vs ?_
 rw[AW]
 have xE:=c1.slt
 have z1:=f1.size
 have z2:=f2.size
 have Gt:=aA t2.own
 have WJ:=aA t2.k9
 have f3:ai H2 (((H2.new 3 ((List.replicate cap.toNat (0:Int)).map i64)).new 3 [Value.int .i64 (-1)]).new 279 [ptr c,ptr t,.slice (some ⟨H2.size,0,none⟩) cap.toNat cap.toNat,.slice (some ⟨H2.size+1,0,none⟩) 1 1]):=(((ag.refl _ _).new _ _).new _ _).new _ _
 have e1:ag (fun _=>False) (H2.new 3 ((List.replicate cap.toNat (0:Int)).map i64)) (((H2.new 3 ((List.replicate cap.toNat (0:Int)).map i64)).new 3 [Value.int .i64 (-1)]).new 279 [ptr c,ptr t,.slice (some ⟨H2.size,0,none⟩) cap.toNat cap.toNat,.slice (some ⟨H2.size+1,0,none⟩) 1 1]):=((ag.refl _ _).new _ _).new _ _
 have e2:ag (fun _=>False) ((H2.new 3 ((List.replicate cap.toNat (0:Int)).map i64)).new 3 [Value.int .i64 (-1)]) (((H2.new 3 ((List.replicate cap.toNat (0:Int)).map i64)).new 3 [Value.int .i64 (-1)]).new 279 [ptr c,ptr t,.slice (some ⟨H2.size,0,none⟩) cap.toNat cap.toNat,.slice (some ⟨H2.size+1,0,none⟩) 1 1]):=(ag.refl _ _).new _ _
 have ft:=f1.trans (f2.trans f3)
 refine⟨ft,.inr ⟨hb,H2.size+1+1,(LB.mk (H2.size+1+1) c t tl H2.size (H2.size+1)).S C,rfl,⟨⟨H2.size+1+1,c,t,tl,H2.size,H2.size+1⟩,C,_,List.replicate cap.toNat 0,[-1],rfl,
  ⟨⟨.slice (some ⟨H2.size+1,0,none⟩) 1 1,?_,?_⟩,c1.fresh (f2.trans f3),t2.fresh f3,?_,?_,?_,?_⟩,⟨AC.none rfl (lf cap) (AV _) (FP _) CC,rfl⟩,fun z=>Iff.rfl⟩,fun z hz=>?_⟩⟩
 ·rw[aog]
  exact aV (by simp only[aq])
 ·exact(Sl.cf (size:=1) (n:=1) (xs:=[i64 (-1)]) rfl (by simp only[aq])).ext e2 (fun _ _ h=>h)
 ·exact e1.own (aB _ _ _) (fun h=>h)
 ·simp[zj]
 ·have:=t2.ne
  refine⟨⟨?_,?_,?_,?_⟩,⟨?_,?_,?_⟩,⟨?_,?_⟩,?_⟩<;>simp only<;>omega
 ·refine⟨fun h=>?_,fun h=>?_,fun h=>?_,fun h=>?_,fun h=>?_⟩<;>(have h2:=xE _ h;first|omega| (simp only at h2;omega))
 ·rcases hz with hz|rfl|rfl|rfl|rfl|rfl
  ·exact hC z hz
  all_goals first|omega| (simp only;omega)
theorem AX{n:Nat}{H:Hp}{S:Nat→Prop}{w:Nw}(h:dv n H S w):af Tryz.prog lR [ptr n] H fun v H'=>aw (
  (w.hs.length=65537∧v=i64 0∧cz (dv n) S H H' w)∨(w.hs.length≠65537∧v=i64 w.hs.length∧cz (dv n) S H H' w.make)):=by
 obtain⟨B,C,L,rs,tops,rfl,m,l,hS⟩:=id h
 obtain⟨tv,ho,zH⟩:=m.own
 refine bm wR ?_
 refine v1 (ae ho) ?_
 refine(jf m.cells).mono ?_
 rintro _ H1 (⟨h1,rfl,rfl⟩| ⟨h1,rfl,C',c1,e1,zk⟩)
 ·refine vs ?_
  exact .inl ⟨h1,rfl,cz.same h (ag.refl _ _)⟩
 have fY:=m.cells.pos
 have hhs:=m.cells.zH
 have Mc:=l.tl
 have slt:=m.slt
 have Lv:=c1.slt
 obtain⟨n1,n2,n3,n4,n5⟩:=m.out
 obtain⟨⟨d1,d2,d3,d4⟩,⟨d5,d6,d7⟩,⟨d8,d9⟩,d10⟩:=m.mc
 have o1:=e1.own ho n1
 refine vs ?_
 refine am.cF (anI (by omega)) ?_
 refine v1 (ae o1) ?_
 have s1:=zH.ext e1 (fun b hb=>by injection hb with hb;exact hb▸n5)
 refine Of s1 (-1) (by omega) fun w' H2 b' jy s2 e2=>?_
 have o2:=e2.own o1 d4
 obtain⟨wa,wc,Oo⟩:=Sl.shape s2
 subst Oo
 refine v1 o2 ?_
 generalize Oo:Value.slice wa (tops++[-1]).length wc=w' at*
 have e3:ag (fun z=>z=B.n) H2 (H2.wr B.n [ptr B.c,ptr B.t,.slice (some ⟨B.rk,0,none⟩) rs.length rs.length,w']):=(ag.refl (fun z=>z=B.n) _).wr (fun _=>rfl) _
 have z1:=e1.size
 have sl:∀z,z=B.n∨z=B.t∨z=B.tl∨z=B.rk∨z=B.tp→z<H.size:=fun z hz=>slt z (.inr hz)
 have hn:=sl _ (.inl rfl)
 have ht:=sl _ (.inr (.inl rfl))
 have WJ:=sl _ (.inr (.inr (.inl rfl)))
 have hrk:=sl _ (.inr (.inr (.inr (.inl rfl))))
 have htp:=sl _ (.inr (.inr (.inr (.inr rfl))))
 have FQ:∀z,C' z→z≠b'∧(z<H.size→C z):=fun z hz=>by
  have h5:=Lv z hz
  rcases zk z hz with h6|h6
  ·refine⟨fun e=>?_,fun _=>h6⟩
   rcases jy with h7|h7
   ·exact n5 (by rw[←h7,←e];exact h6)
   ·omega
  ·exact⟨by omega,fun h=>by omega⟩
 refine .inr ⟨h1,rfl,(LB.mk B.n B.c B.t B.tl B.rk b').S C',⟨⟨B.n,B.c,B.t,B.tl,B.rk,b'⟩,C',L,rs,tops++[-1],rfl,⟨⟨w',ah o2,s2.ext e3 (fun b hb=>by injection hb with hb;omega)⟩,?_,?_,?_,m.len,?_,?_⟩,⟨by rw[AS];exact l.bt,?_⟩,fun z=>Iff.rfl⟩,?_,fun z hz=>?_⟩
 ·exact(c1.ext e2 (fun x hx e=>by
   rcases zk x hx with h6|h6
   ·exact n5 (e▸h6)
   ·omega)).ext e3 (fun x hx e=>by
   rcases zk x hx with h6|h6
   ·exact n1 (e▸h6)
   ·omega)
 ·exact((m.bU.ext e1 n2 n3).ext e2 d7 d9).ext e3 (Ne.symm d1) (Ne.symm d2)
 ·exact e3.own (e2.own (e1.own m.Cw n4) d10) (Ne.symm d3)
 ·refine⟨⟨d1,d2,d3,?_⟩,⟨d5,d6,?_⟩,⟨d8,?_⟩,?_⟩<;>simp only<;>omega
 ·refine⟨fun h=>?_,fun h=>?_,fun h=>?_,fun h=>?_,fun h=>?_⟩
  ·exact n1 ((FQ _ h).2 hn)
  ·exact n2 ((FQ _ h).2 ht)
  ·exact n3 ((FQ _ h).2 WJ)
  ·exact n4 ((FQ _ h).2 hrk)
  ·exact(FQ _ h).1 rfl
 ·simp[Nw.make,Mc]
 ·exact((e1.mono fun z _ h=>(hS z).2 (.inl h)).trans (e2.mono fun z _ h=>(hS z).2 (.inr (.inr (.inr (.inr (.inr h))))))).trans (e3.mono fun z _ h=>(hS z).2 (.inr (.inl h)))
 ·rcases hz with hz|rfl|rfl|rfl|rfl|rfl
  ·rcases zk z hz with h6|h6
   ·exact .inl ((hS z).2 (.inl h6))
   ·exact .inr h6
  ·exact .inl ((hS _).2 (.inr (.inl rfl)))
  ·exact .inl ((hS _).2 (.inr (.inr (.inl rfl))))
  ·exact .inl ((hS _).2 (.inr (.inr (.inr (.inl rfl)))))
  ·exact .inl ((hS _).2 (.inr (.inr (.inr (.inr (.inl rfl))))))
  ·rcases jy with rfl|h7
   ·exact .inl ((hS _).2 (.inr (.inr (.inr (.inr (.inr rfl))))))
   ·exact .inr (by first|omega| (simp only;omega))
theorem RO.first{w:Nw}{L:List Lk}{tops:List Int}(l:RO w L tops){g x:Int}(h:w.first g x):bi tops g=x:=by
 obtain⟨h1,h2,h3⟩:=bN.1 h
 have:=l.bt.first (x:=x) (by omega) (fun y hy aP=>h3 y (by omega) aP) (ar w)
 rwa[h2]at this
theorem qn{n:Nat}{H:Hp}{S:Nat→Prop}{w:Nw}(h:dv n H S w)(g:Int):af Tryz.prog mX [ptr n,i64 g] H fun v H'=>aw (
  ((w.len g=0∧v= .tuple [i64 0,.bool false].toArray)∨∃x,w.first g x∧v= .tuple [i64 x,.bool true].toArray)∧H'=H):=by
 obtain⟨B,C,L,rs,tops,rfl,m,l,hS⟩:=h
 obtain⟨cc,lt,ho,q2,xF,tF,On⟩:=m.fN
 refine bm yW ?_
 refine v1 (ae ho) ?_
 refine(uE m.cells g).mono ?_
 rintro _ _ ⟨rfl,rfl⟩
 refine vs ?_
 refine am.dec (fun h0=>?_) (fun h0=>?_)
 ·refine vs ?_
  exact⟨.inl ⟨h0,rfl⟩,rfl⟩
 have hg:0<g:=anW fun hg=>h0 (Nw.Hs.2 (.inl (by omega)))
 obtain⟨x,hx⟩:=uD hg h0
 have hh:=(bN.1 hx).2.1
 have di:=((m.cells.hm x).2 (by omega)).2
 rw[hh,←l.tl]at di
 have q3:=m.eO q2 (dT (tops:=tops) (h:=g) (by omega) di)
 rw[l.first hx]at q3
 refine v1 (ae ho) ?_
 refine⟨⟨by omega,by omega⟩,?_⟩
 refine v4 (ae q2) ant anw q3 ?_
 exact⟨.inr ⟨x,hx,rfl⟩,rfl⟩
theorem tC{n:Nat}{H:Hp}{S:Nat→Prop}{w:Nw}(h:dv n H S w)(x k s:Int):af Tryz.prog iw [ptr n,i64 x,tz k s] H fun v H'=>aw (
  (¬w.cX x k s∧v= .bool false∧cz (dv n) S H H' w)∨(w.cX x k s∧v= .bool true∧∃y,w.cs[x.toNat]? =some y∧cz (dv n) S H H' (w.put x (y.1,k,s)))):=by
 obtain⟨B,C,L,rs,tops,rfl,m,l,hS⟩:=h
 refine Gv pV ⟨rfl,?_⟩
 refine v1 iz.eq_1 ?_
 have f0:ai H (H.new 224 [i64 k,u64 s]):=(ag.refl _ _).new _ _
 have b0:(H.new 224 [i64 k,u64 s]).own H.size=some [i64 k,u64 s]:=aB _ _ _
 have m0:=m.fresh f0
 generalize H.new 224 [i64 k,u64 s]=H0 at*
 obtain⟨tv,Hy,_⟩:=m0.own
 refine v2 (ae Hy) (ae b0) ?_
 refine(gM m0.cells x k s).mono ?_
 have hC:∀z,C z→S z:=fun z h=>(hS z).2 (.inl h)
 have ff:ag S H H0:=f0.mono fun _ _ h=>h.elim
 rintro _ H1 (⟨bK,rfl,c1,e1⟩| ⟨bJ,rfl,y,hy,fh,c1,e1⟩)
 ·refine vs ?_
  exact .inl ⟨bK,rfl,cz.same ⟨B,C,L,rs,tops,rfl,m0.ext e1 (fun _ _ h=>h),l,hS⟩ (ff.trans (e1.mono fun _ _ h=>h.elim))⟩
 have my:(w.put x (y.1,k,s)).cs.length=w.cs.length:=by simp[Nw.put]
 have m1:=m0.aJ c1 e1 my
 have AY:w.cX x k s:=⟨bJ,fun z hz=>by rw[hy]at hz;injection hz with hz;rw[←hz];exact fh⟩
 have hx:0≤x∧x<w.cs.length:=⟨bJ.1,by have:=(anu.1 hy).1;have:=bJ.1;omega⟩
 have Qv:aG w x=y.1:=j0 bJ.1 hy
 have dF:=bq.2 bJ
 have hw:aG (w.put x (y.1,k,s))=aG w:=by
  funext z
  rw[dS hx]
  split
  ·rename_i e;rw[e,Qv]
  ·rfl
 have Eh:cT (w.put x (y.1,k,s)).cs x:=bq.1 (by rw[hw];exact dF)
 obtain⟨Cx,o1,_⟩:=m1.own
 refine v1 (ae o1) ?_
 refine(de m1.cells x).mono ?_
 rintro _ H2 (⟨bK,_,_⟩| ⟨_,rfl,c2,e2⟩)
 ·exact absurd Eh bK
 have m2:=m1.aJ c2 e2 rfl
 obtain⟨Nb,o2,_⟩:=m2.own
 have o8:ag S H H2:=(ff.trans (e1.mono fun z _ h=>hC z h)).trans (e2.mono fun z _ h=>hC z h)
 have el:∀a b,0<aG w a→0<aG w b→a≠x→b≠x→aQ (w.put x (y.1,k,s)) a b=aQ w a b:=fun a b ha hb tG me=>du hx _ ha hb tG me
 have ex:∀b,0<aG w b→b≠x→aQ w x b=true→aQ (w.put x (y.1,k,s)) x b=true:=fun b hb me h=>AR bJ hy fh hb me h
 refine v1 (ae o2) ?_
 refine(cH m2.bU (x:=x) (fun hu=>by have:=AT.up l.bt.bt hu;have:=m2.len.1;omega)).mono ?_
 rintro _ H3 ⟨rfl,L3,t3,l3,k3,u3,e3⟩
 have m3:=m2.dC t3 e3 l3
 have h1:S B.tl:=(hS _).2 (.inr (.inr (.inr (.inl rfl))))
 have h2:S B.rk:=(hS _).2 (.inr (.inr (.inr (.inr (.inl rfl)))))
 have h3:S B.tp:=(hS _).2 (.inr (.inr (.inr (.inr (.inr rfl)))))
 have D4:ag S H H3:=o8.trans (e3.mono fun z _ h=>h▸h1)
 unfold gv
 by_cases hu:bj L x= -1
 ·rw[if_pos hu]
  refine vs ?_
  have kk:aZ L3=aZ L:=by rw[k3];unfold iJ;rw[if_pos hu]
  have uu:bj L3=bj L:=by
   rw[u3]
   funext z
   unfold cW aI
   split
   ·rename_i e;rw[e,hu]
   ·rfl
  refine .inr ⟨AY,rfl,y,hy,cz.same ⟨B,C,L3,rs,tops,rfl,m3,⟨?_,l.tl⟩,hS⟩ D4⟩
  rw[hw,kk,uu]
  exact l.bt.TD dF hu el ex (ar w)
 rw[if_neg hu]
 refine vs ?_
 have bo:=l.bt.low dF hu el ex (ar w)
 rw[←hw,←k3,←u3]at bo
 have EO:=AT.up l.bt.bt hu
 refine(jh m3 bo.bt (x:=bj L x) (fun _=>by rw[hw,EO.2.2.2];exact dF)).mono ?_
 rintro _ H4 ⟨L4,U9,m4,b4,u4,e4⟩
 have bo4:TC (aG (w.put x (y.1,k,s))) (aQ (w.put x (y.1,k,s))) (aZ L4) (bj L4) (bi tops) (aG (w.put x (y.1,k,s)) x) x:=⟨b4,by rw[u4];exact bo.t1,by rw[u4];exact bo.t2,by rw[u4];exact bo.ox,bo.nx,bo.g0⟩
 have vt:ag S H H4:=D4.trans (e4.mono fun z _ h=>by rcases h with rfl|rfl;exact h1;exact h2)
 obtain⟨cc,lt,o4,q2,xF,tF,On⟩:=m4.fN
 have di:aG (w.put x (y.1,k,s)) x<tops.length:=by
  have:=((m4.cells.hm x).2 bo.g0).2
  have e5:(w.put x (y.1,k,s)).hs=w.hs:=rfl
  rw[e5]at this
  have:=l.tl
  omega
 have RL:=bo.g0
 generalize hg:aG (w.put x (y.1,k,s)) x=g at*
 have q3:=m4.eO q2 (dT (tops:=tops) (h:=g) (by omega) di)
 refine vs ?_
 refine jX.intro (fun H'=>H'.own B.n=some [ptr B.c,ptr B.t,.slice (some ⟨B.rk,0,none⟩) U9.length U9.length,.slice (some ⟨B.tp,0,none⟩) tops.length cc]) o4 ?_
 refine vs ?_
 refine fV.intro (.slice (some ⟨B.tp,0,none⟩) tops.length cc) (fun H' hI=>by refine v1 (ae hI) ?_;trivial) ?_
 refine v1 (ae o4) ?_
 refine And.intro o4 ?_
 refine vs ?_
 refine⟨⟨by omega,by omega⟩,?_⟩
 refine v4 (ae q2) ant anw q3 ?_
 refine And.intro o4 ?_
 refine vs ?_
 refine(ic m4 bo4.mg).mono ?_
 rintro _ H5 ⟨r,L5,rs5,rfl,m5,g5,_,e5⟩
 have bn:=bo4.done g5
 obtain⟨d1,d2,d3,d4⟩:=m4.mc.1
 have no:¬ (C B.n∨B.n=B.tl∨B.n=B.rk):=by rintro(h|h|h);exact m4.out.1 h;omega;omega
 refine And.intro (e5.own o4 no) ?_
 have q4:=e5.own q2 (by obtain⟨_,⟨_,_,d7⟩,⟨_,d9⟩,d10⟩:=m4.mc;rintro(h|h|h);exact m4.out.2.2.2.2 h;omega;omega)
 refine vs ?_
 refine⟨⟨by omega,by omega⟩,?_⟩
 refine v3 q4 ant anw ?_
 refine⟨by omega,?_⟩
 obtain⟨m6,e6⟩:=m5.lc q4 g.toNat r
 refine And.intro (e6.own (e5.own o4 no) d4) ?_
 refine vs ?_
 refine .inr ⟨AY,rfl,y,hy,cz.same ⟨B,C,L5,rs5,_,rfl,m6,⟨?_,by rw[anv];exact l.tl⟩,hS⟩ ?_⟩
 ·rw[ez (by omega) di]
  exact bn
 ·exact(vt.trans (e5.mono fun z _ h=>by rcases h with h|rfl|rfl;exact hC z h;exact h1;exact h2)).trans (e6.mono fun z _ h=>h▸h3)
theorem xb{n:Nat}{H:Hp}{S:Nat→Prop}{w:Nw}(h:dv n H S w)(x:Int):af Tryz.prog sT [ptr n,i64 x] H fun v H'=>aw (
  (¬cT w.cs x∧v= .bool false∧cz (dv n) S H H' w)∨(cT w.cs x∧v= .bool true∧cz (dv n) S H H' (w.put x (0,0,0)))):=by
 obtain⟨B,C,L,rs,tops,rfl,m,l,hS⟩:=id h
 have hC:∀z,C z→S z:=fun z h=>(hS z).2 (.inl h)
 have s1:S B.tl:=(hS _).2 (.inr (.inr (.inr (.inl rfl))))
 have s2:S B.rk:=(hS _).2 (.inr (.inr (.inr (.inr (.inl rfl)))))
 have s3:S B.tp:=(hS _).2 (.inr (.inr (.inr (.inr (.inr rfl)))))
 obtain⟨tv,o0,_⟩:=m.own
 refine bm tj ?_
 refine v1 (ae o0) ?_
 refine(de m.cells x).mono ?_
 rintro _ H1 (⟨bK,rfl,rfl⟩| ⟨bJ,rfl,c1,e1⟩)
 ·refine vs ?_
  exact .inl ⟨bK,rfl,cz.same h (ag.refl _ _)⟩
 have m1:=m.aJ c1 e1 rfl
 obtain⟨Cx,o1,_⟩:=m1.own
 have dF:=bq.2 bJ
 obtain⟨fZ,kU,_⟩:=aD dF
 have Dl:x≠ -1:=by omega
 have ls:=ar w
 have t:=l.bt
 refine v1 (ae o1) ?_
 obtain⟨a1,b1,ea1⟩:=cI (aZ L x false)
 obtain⟨a2,b2,ea2⟩:=cI (aZ L x true)
 refine⟨.tuple [i64 a1,.bool b1].toArray,(lG m1.bU x).mono (by rintro v H' ⟨rfl,rfl⟩;exact⟨ea1,rfl⟩),?_⟩
 refine vs ?_
 refine⟨_,cw H1 _ a1 b1 ea1,?_⟩
 refine v1 (ae o1) ?_
 refine(cu m1.bU x).mono ?_
 rintro _ H' ⟨rfl,e⟩
 obtain rfl:=e.symm
 rw[ea2]
 refine vs ?_
 refine(cw H1 _ a2 b2 ea2).mono ?_
 rintro _ H' ⟨rfl,e⟩
 obtain rfl:=e.symm
 refine v1 (ae o1) ?_
 refine(cH m1.bU (x:=aZ L x false) (fun hu=>by have:=AT.up t.bt hu;have:=m1.len.1;omega)).mono ?_
 rintro _ H2 ⟨rfl,L2,t2,l2,k2,u2,e2⟩
 have m2:=m1.dC t2 e2 l2
 have bt2:AT w L2:=by
  show Bt _ _ _ _
  rw[k2,u2];exact t.bt.TB _
 obtain⟨Nb,o2,_⟩:=m2.own
 refine v1 (ae o2) ?_
 refine(cH m2.bU (x:=aZ L x true) (fun hu=>by have:=AT.up bt2 hu;have:=m2.len.1;omega)).mono ?_
 rintro _ H3 ⟨rfl,L3,t3,l3,k3,u3,e3⟩
 rw[k2,u2]at k3
 rw[u2]at u3
 have m3:=m2.dC t3 e3 l3
 obtain⟨w1,w2,w3,w4⟩:=t.bt.bare x
 have hk:∀c,aZ L x c= -1∨(aG w (aZ L x c)=aG w x∧bj L3 (aZ L x c)= -1):=fun c=>by
  by_cases hk:aZ L x c= -1
  ·exact .inl hk
  ·refine .inr ⟨(t.bt.home hk).2.2.1,?_⟩
   rw[u3,w4,if_pos]
   cases c
   ·exact .inl rfl
   ·exact .inr rfl
 rw[←k3,←u3]at w1
 have mg:=Mg.start w1 dF (hk false) (hk true) (fun e=>t.bt.two x e)
 refine vs ?_
 refine(ic m3 mg).mono ?_
 rintro _ H4 ⟨r,L4,U9,rfl,m4,g4,f4,e4⟩
 have f4:=f4 x (wP.start (fun hk=>(t.bt.home hk).2.2.2.2) (fun hk=>(t.bt.home hk).2.2.2.2))
 have d:=t.UW ls dF k3 u3 g4 f4
 have vt:ag S H H4:=(((e1.mono fun z _ h=>hC z h).trans (e2.mono fun z _ h=>h▸s1)).trans (e3.mono fun z _ h=>h▸s1)).trans (e4.mono fun z _ h=>by rcases h with h|rfl|rfl;exact hC z h;exact s1;exact s2)
 obtain⟨tv4,o4,_⟩:=m4.own
 have cK:=fun y=>dS (w:=w) ⟨fZ,kU⟩ (0,0,0) y
 have p0:aG (w.put x (0,0,0)) (-1)=0:=rfl
 have p1:aG (w.put x (0,0,0)) x=0:=by rw[cK,if_pos rfl]
 have p2:∀y,y≠x→aG (w.put x (0,0,0)) y=aG w y:=fun y hy=>by rw[cK,if_neg hy]
 have el:∀a b,0<aG w a→0<aG w b→a≠x→b≠x→aQ (w.put x (0,0,0)) a b=aQ w a b:=fun a b ha hb tG me=>du ⟨fZ,kU⟩ _ ha hb tG me
 have my:(w.put x (0,0,0)).cs.length=w.cs.length:=by simp[Nw.put]
 refine v1 (ae o4) ?_
 refine(oM m4.bU x).mono ?_
 rintro _ H' ⟨rfl,e⟩
 obtain rfl:=e.symm
 rw[d.ux]
 unfold gv
 by_cases hu:bj L x= -1
 ·rw[if_pos hu]
  obtain⟨cc,lt,o5,q5,xF,tF,On⟩:=m4.fN
  have di:aG w x<tops.length:=by
   have:=((m4.cells.hm x).2 dF).2
   have:=l.tl
   omega
  refine v1 (ae o5) ?_
  refine⟨⟨by omega,by omega⟩,?_⟩
  refine v3 q5 ant anw ?_
  refine⟨by omega,?_⟩
  obtain⟨m5,e5⟩:=m4.lc q5 (aG w x).toNat r
  obtain⟨tv6,o6,_⟩:=m5.own
  refine v1 (ae o6) ?_
  refine(cd m5.cells x).mono ?_
  rintro _ H6 (⟨bK,_,_⟩| ⟨_,rfl,c6,e6⟩)
  ·exact absurd bJ bK
  have m6:=m5.aJ c6 e6 my
  refine vs ?_
  refine .inr ⟨bJ,rfl,cz.same ⟨B,C,L4,U9,_,rfl,m6,⟨?_,by rw[anv];exact l.tl⟩,hS⟩ ((vt.trans (e5.mono fun z _ h=>h▸s3)).trans (e6.mono fun z _ h=>hC z h))⟩
  rw[ez (by omega) di]
  exact d.Ra t dF hu p0 p1 p2 el
 ·rw[if_neg hu]
  have EO:=AT.up t.bt hu
  obtain⟨w5,w6⟩:=d.cut t ls dF hu
  obtain⟨a3,b3,YL⟩:=cI (aZ L4 (bj L x) true)
  refine v1 (ae o4) ?_
  refine(cu m4.bU (bj L x)).mono ?_
  rintro _ H' ⟨rfl,e⟩
  obtain rfl:=e.symm
  rw[YL]
  refine vs ?_
  refine(cw _ _ a3 b3 YL).mono ?_
  rintro _ H' ⟨rfl,e⟩
  obtain rfl:=e.symm
  rw[d.kp _ true rfl hu]
  refine v1 (ae o4) ?_
  refine(cH m4.bU (x:=x) (fun hu2=>by have:=AT.up d.bt hu2;have:=m4.len.1;omega)).mono ?_
  rintro _ H5 ⟨rfl,L5,t5,l5,k5,u5,e5⟩
  have m5:=m4.dC t5 e5 l5
  obtain⟨tv5,o5,_⟩:=m5.own
  refine vs ?_
  have Vh:=vt.trans (e5.mono fun z _ h=>h▸s1)
  refine am.dec (fun g=>?_) (fun g=>?_)<;>refine vs ?_
  ·have m6:=m5
   have Lw:=Vh
   have b6:AT w L5:=by
    show Bt _ _ _ _
    rw[k5,u5];exact w5 g
   have u6:bj L5=if r= -1 then cW (bj L4) x else aI (cW (bj L4) x) r (bj L x):=by rw[if_pos g];exact u5
   refine(jh m6 b6 (x:=bj L x) (fun _=>by rw[EO.2.2.2];exact dF)).mono ?_
   rintro _ H7 ⟨L7,rs7,m7,b7,u7,e7⟩
   have WK:=Lw.trans (e7.mono fun z _ h=>by rcases h with rfl|rfl;exact s1;exact s2)
   obtain⟨tv7,o7,_⟩:=m7.own
   refine v1 (ae o7) ?_
   refine(cd m7.cells x).mono ?_
   rintro _ H8 (⟨bK,_,_⟩| ⟨_,rfl,c8,e8⟩)
   ·exact absurd bJ bK
   have m8:=m7.aJ c8 e8 my
   refine vs ?_
   refine .inr ⟨bJ,rfl,cz.same ⟨B,C,L7,rs7,tops,rfl,m8,⟨?_,l.tl⟩,hS⟩ (WK.trans (e8.mono fun z _ h=>hC z h))⟩
   exact d.below t ls (n:=w.cs.length) (fun y hy=>by obtain⟨y0,y1,_⟩:=aD hy;exact⟨y0,y1⟩) dF hu b7 (by rw[u7,u6]) p0 p1 p2 el
  ·obtain⟨y1,y2,y3,y4⟩:=w6 g
   obtain⟨r1,r2,r3,r4⟩:=d.rx g
   obtain⟨q1,q2,_⟩:=aD (w:=w) (x:=r) (by omega)
   have hl5:=m5.len
   refine v1 (ae o5) ?_
   refine(eV m5.bU (p:=bj L x) (x:=r) (c:=(aZ L (bj L x) true==x)) ⟨EO.1,by omega⟩ ⟨q1,by omega⟩ y3 (by rw[u5];exact y2) (by rw[k5];exact y1)).mono ?_
   rintro _ H6 ⟨rfl,L6,t6,l6,k6,RP,e6⟩
   have m6:=m5.dC t6 e6 l6
   have Lw:=Vh.trans (e6.mono fun z _ h=>h▸s1)
   rw[k5]at k6
   rw[u5]at RP
   have b6:AT w L6:=by
    show Bt _ _ _ _
    rw[k6,RP];exact y4
   have u6:bj L6=if r= -1 then cW (bj L4) x else aI (cW (bj L4) x) r (bj L x):=by rw[if_neg g];exact RP
   refine vs ?_
   refine(jh m6 b6 (x:=bj L x) (fun _=>by rw[EO.2.2.2];exact dF)).mono ?_
   rintro _ H7 ⟨L7,rs7,m7,b7,u7,e7⟩
   have WK:=Lw.trans (e7.mono fun z _ h=>by rcases h with rfl|rfl;exact s1;exact s2)
   obtain⟨tv7,o7,_⟩:=m7.own
   refine v1 (ae o7) ?_
   refine(cd m7.cells x).mono ?_
   rintro _ H8 (⟨bK,_,_⟩| ⟨_,rfl,c8,e8⟩)
   ·exact absurd bJ bK
   have m8:=m7.aJ c8 e8 my
   refine vs ?_
   refine .inr ⟨bJ,rfl,cz.same ⟨B,C,L7,rs7,tops,rfl,m8,⟨?_,l.tl⟩,hS⟩ (WK.trans (e8.mono fun z _ h=>hC z h))⟩
   exact d.below t ls (n:=w.cs.length) (fun y hy=>by obtain⟨y0,y1,_⟩:=aD hy;exact⟨y0,y1⟩) dF hu b7 (by rw[u7,u6]) p0 p1 p2 el
theorem uL{n:Nat}{H:Hp}{S:Nat→Prop}{w:Nw}(h:dv n H S w)(g:Int):af Tryz.prog iU [ptr n,i64 g] H fun v H'=>aw (
  (w.len g=0∧v= .tuple [i64 0,.bool false].toArray∧cz (dv n) S H H' w)∨(∃x,w.first g x∧v= .tuple [i64 x,.bool true].toArray∧cz (dv n) S H H' (w.put x (0,0,0)))):=by
 refine bm rJ ?_
 refine vs ?_
 refine(qn h g).mono ?_
 rintro _ _ ⟨⟨h0,rfl⟩| ⟨x,hx,rfl⟩,rfl⟩
 ·refine vs ?_
  exact .inl ⟨h0,rfl,cz.same h (ag.refl _ _)⟩
 ·refine vs ?_
  refine(xb h x).mono ?_
  rintro _ H1 (⟨bK,_,_⟩| ⟨_,rfl,h1⟩)
  ·exact absurd (bq.1 (by have:=bN.1 hx;omega)) bK
  refine vs ?_
  exact .inr ⟨x,hx,rfl,h1⟩
theorem Jt(n:Nat):xK (.iface 210 (ptr n)) (dv n) where
 slt h:=h.slt
 ext h e hd:=h.ext e hd
 cells:=by
  rintro H S w ⟨B,C,L,rs,tops,rfl,m,l,hS⟩
  exact⟨B.c,C,m.cells⟩
 has:=by
  rintro H S w g ⟨B,C,L,rs,tops,rfl,m,l,hS⟩
  obtain⟨tv,ho,_⟩:=m.own
  exact⟨_,_,bD,ptr B.c,rfl,fD (off:=0) (by kernel_rfl) (ae ho) rfl,(iD m.cells g).mono fun v H' hp=>hp⟩
 make:=by
  intro H S w h
  exact⟨_,_,lR,ptr n,rfl,bC (by kernel_rfl),(AX h).mono fun v H' hp=>hp⟩
 insert:=by
  intro H S w g x k s h
  exact⟨_,_,jE,ptr n,rfl,bC (by kernel_rfl),(xa h g x k s).mono fun v H' hp=>hp⟩
 min:=by
  intro H S w g h
  refine⟨_,_,mX,ptr n,rfl,bC (by kernel_rfl),(qn h g).mono ?_⟩
  rintro v H' ⟨⟨h1,rfl⟩| ⟨x,h1,rfl⟩,rfl⟩
  ·exact .inl ⟨h1,rfl,cz.same h (ag.refl _ _)⟩
  ·exact .inr ⟨x,h1,rfl,cz.same h (ag.refl _ _)⟩
 extract:=by
  intro H S w g h
  exact⟨_,_,iU,ptr n,rfl,bC (by kernel_rfl),(uL h g).mono fun v H' hp=>hp⟩
 ld:=by
  intro H S w x k s h
  exact⟨_,_,iw,ptr n,rfl,bC (by kernel_rfl),(tC h x k s).mono fun v H' hp=>hp⟩
 entry:=by
  rintro H S w x ⟨B,C,L,rs,tops,rfl,m,l,hS⟩
  obtain⟨tv,ho,_⟩:=m.own
  refine⟨_,_,bc,ptr B.c,rfl,fD (off:=0) (by kernel_rfl) (ae ho) rfl,(gL m.cells x).mono ?_⟩
  rintro v H' ⟨c1,f,hv⟩
  exact⟨⟨B,C,L,rs,tops,rfl,m.fresh f,l,hS⟩,f,hv⟩
end Go.Proofs.YtjlnnljohemifaaGreat
