/- Texts put behind each other. -/
import Derived.Test.YtnanofhkpglbaaaGreatDoorK32
set_option linter.unusedSimpArgs false
set_option linter.unusedVariables false
set_option maxRecDepth 100000
set_option maxHeartbeats 80000000
namespace Go.Proofs.YtnanofhkpglbaaaGreatDoor
open Go Go.Vc
section
variable{N:List Int}{g x a:Int}{b:Bool}
theorem HJ.head{w:Nw}{L:List Pc}{tops:List Int}{ch:Int->List Int}{au:Int->Int}{x:Int->List Int}(l:HJ w N L tops ch au x)(h:aO tops g≠ -1):∃A,x g=aO tops g::A:=by
 have z:=l.tp g;cases n:x g with
 |nil=>grind
 |cons c r=>grind
theorem BG{n:Nat}{H:Hp}{S:Nat->Prop}{w:Nw}(h:dQ n H S w)(x:Int):aD 434 [ptr n,i64 x] H fun v J=>ak (
  (¬cu w.cs x/\v= .bool false/\br (dQ n) S H J w)\/(cu w.cs x/\v= .bool true/\br (dQ n) S H J (w.put x (0,0,0)))):=by
 obtain⟨B,C,N,P,L,tops,ch,au,f,rfl,m,l,c⟩:=id h;have hC:∀z,C z->S z:=fun z h=>(c z).2 (.inl h);have tb_:S B.nb:=(c _).2 (.inr O);have tb2:S B.pb:=(c _).2 (.inr O);have tb3:S B.tb:=(c _).2 (.inr O);obtain⟨tv,o0,_⟩:=m.own;refine aL nO ?_;refine v1 (ae o0) ?_;refine(bC m.cells x).mono ?_;rintro _ H1 (⟨F,rfl,rfl⟩| ⟨q,rfl,c1,u⟩)
 ·refine vs ?_;exact .inl ⟨F,rfl,br.same h (aj.refl _ _)⟩
 have o:=m.aE c1 u rfl;have Q:=bf.2 q;obtain⟨j4,ED,_⟩:=aI Q;have ls:=ar w;obtain⟨g,d⟩:∃g,g=aH w x:=⟨_,rfl⟩;have wU:g<tops.length:=by
  have:=((m.cells.hm x).2 Q).2;have:=l.tl;omega
 obtain⟨Nv,RJ⟩:=l.ls g x O d.symm;obtain⟨A,hr⟩:=l.head Nv;obtain⟨cc,lt,o1,q1,Dx,JH,JI⟩:=o.ed;have q2:=o.cS q1 (ce (tops:=tops) (h:=g) O wU);have G:aj S H H1:=u.mono fun z _ h=>hC z h;rw[<-d];refine v1 (ae o1) ?_;refine⟨⟨O,O⟩,?_⟩;refine v4 (ae q1) ak7 ala q2 ?_;refine ai.dec (fun p=>?_) (fun p=>?_)<;>refine vs ?_
 ·refine(ol (S:=S) ⟨B,C,N,P,L,tops,ch,au,f,rfl,o,l,c⟩ g).mono ?_;rintro _ H2 (⟨Z7,_⟩| ⟨x',T4,rfl,S2,h2,K,T0⟩)
  ·exact absurd d.symm ((nX O).1 Z7 x)
  obtain rfl:x'=x:=by rw[<-p,l.first T4]
  refine vs ?_;have:=u.size;exact .inr ⟨q,rfl,S2,h2,G.trans K,Z⟩
 refine(qt o ls (x:=x) l.f l.pc d.symm O wU hr rfl).mono ?_;rintro _ H2 ⟨N2,P2,L2,BH,gG,A2,m2,j,p2,u2,_,K⟩;obtain⟨t,ht⟩:∃t,t=aO tops g:=⟨_,rfl⟩;rw[<-ht]at j p Nv RJ;have Mp:ay f g (t::A2) g=t::A2:=by unfold ay;grind
 have Kl:x∈ay f g (t::A2) g:=by
  have:=j.wY x Q u2;rw[<-d]at this;simpa using this
 obtain⟨A3,Ol,f3⟩:=j.from_ Kl;have htg:aH w t=g/\0<g:=by
  have:=j.rm g t Z;exact O
 have RG:t≠x:=fun e=>p e;refine vs ?_;refine(sK m2 f3 p2 (by unfold ay;rw[if_pos rfl])).mono ?_;rintro _ H3 ⟨N3,P3,L3,I,r,E,p3,e3⟩;rw[cP]at E;obtain⟨TS,o3,_⟩:=r.own;have Pb:=r.len;refine v1 (ae o3) ?_;refine(iW r.ring r.inv (x:=x) O).mono ?_;rintro _ H4 ⟨rfl,N4,P4,r4,l4,n4,i4,D⟩;have U:=r.nh r4 i4 D l4;have X:=E.SD (x:=x) (g:=g) (A:=I) r.inv (by rw[cP];unfold ay;grind);rw[cP,cP,<-n4]at X;obtain⟨Wh,o4,_⟩:=U.own;have Fl:aj S H H4:=((G.trans (K.mono Z)).trans (e3.mono Z)).trans (D.mono Z);have j1:=fun y=>dT (w:=w) ⟨j4,ED⟩ (0,0,0) y;have el:∀a b,0<aH w a->0<aH w b->a≠x->b≠x->aU (w.put x (0,0,0)) a b=aU w a b:=fun a b ha hb wA zS=>du ⟨j4,ED⟩ _ ha hb wA zS;have f6:=X.drop (hm':=aH (w.put x (0,0,0))) (lt':=aU (w.put x (0,0,0))) (by unfold ay;grind) rfl Z Z el;refine v1 (ae o4) ?_;refine(bZ U.cells x).mono ?_;rintro _ H5 (⟨F,_,_⟩| ⟨_,rfl,c5,M⟩)
 ·exact absurd q F
 have m5:=U.aE c5 M (by simp[Nw.put]);have XN:gG t= -1:=(j.rm g t Z).2.1;have htA:t∈ay f g I g:=by
  have h1:=f6.wY t Z (by unfold fh;omega);rw[j1,if_neg RG,htg.1]at h1;simpa using h1
 obtain⟨A6,_,f7⟩:=f6.from_ htA;rw[cP]at f7;refine vs ?_;refine .inr ⟨q,rfl,br.same ⟨B,C,N4,P4,L3,tops,_,_,_,rfl,m5,⟨f7,p3,fun g2=>?_,fun g2 y Om hy=>?_,by rw[l.tl];rfl⟩,c⟩ (Fl.trans (M.mono fun z _ h=>hC z h))⟩
 ·unfold ay;cases l;grind
 ·have Oc:y≠x:=Z;rw[j1,if_neg Oc]at hy;obtain⟨h3,h4⟩:=l.ls g2 y Om hy;have hT:aH w (aO tops g2)=g2:=by
   obtain⟨A',h5⟩:=l.head h3;exact(l.f.rm g2 _ Z).1
  grind
theorem Nx{H:Hp}{B:FB}{C:Nat->Prop}{w:Nw}{P:List Int}{L:List Pc}{tops:List Int}(m:bP H B C w N P L tops){t:Int}(I:0<aH w x)(Nl:0<=g)(j:g<tops.length)(Q:aO tops g=t)(X:t= -1\/0<aH w t)(RG:t≠x):
  aD 445 [ptr B.n,i64 g,i64 x] H fun v J=>ak (∃o P' r,bP J B C w o P' L (tops.set g.toNat r)/\bY o=(if t= -1 then bY N else qZ (bY N) t x)/\r=(if t= -1\/aU w x t=true then x else t)/\aj (fun z=>C z\/z=B.nb\/z=B.pb\/z=B.tp) H J):=by
 obtain⟨j4,ED⟩:=oh x I;obtain⟨A,lt,G,n,Dx,JH,JI⟩:=m.ed;have p:=m.cS n (ce (tops:=tops) (h:=g) O j);have ec:=m.len;rw[Q]at p;refine aL jl ?_;refine v1 (ae G) ?_;refine⟨O,?_⟩;refine v4 (ae n) ak7 ala p ?_;refine ai.dec (fun e=>?_) (fun e=>?_)<;>refine v1 (ae G) ?_
 ·refine⟨O,?_⟩;refine v3 n ak7 ala ?_;refine⟨O,?_⟩;obtain⟨l,c⟩:=m.fH n g.toNat x;refine vs ?_;exact⟨N,P,x,l,Z,O,c.mono O⟩
 have U:=X.resolve_left e;obtain⟨Nv,RJ⟩:=oh t U;refine⟨O,?_⟩;refine v4 (ae n) ak7 ala p ?_;refine(cY m.ring m.inv (x:=t) (y:=x) O O).mono ?_;rintro _ H2 ⟨rfl,f,u,r2,l2,n2,i2,c⟩;have l:=m.nh r2 i2 c l2;obtain⟨A,lt2,o2,D,_⟩:=l.ed;have M:=l.cS D (ce (tops:=tops) (h:=g) O j);rw[Q]at M;refine v1 (ae o2) ?_;refine⟨O,?_⟩;refine v4 (ae D) ak7 ala M ?_;refine(cv l.cells x t).mono ?_;rintro _ H3 ⟨rfl,c3,F⟩;have d:=l.aE c3 F rfl;rw[fQ (w:=w) (a:=x) (b:=t) I U];have K:aj (fun z=>C z\/z=B.nb\/z=B.pb\/z=B.tp) H H3:=(c.mono O).trans (F.mono fun z _ h=>.inl h);cases iD:aU w x t
 ·refine vs ?_;refine⟨f,u,t,?_,Z,by simp[e],K⟩;grind [Jx,ce]
 ·obtain⟨A,lt3,o3,q,_,hc5,_⟩:=d.ed;have q6:=d.cS q (ce (tops:=tops) (h:=g) O j);have Nd:=O;refine v1 (ae o3) ?_;refine⟨O,?_⟩;refine v3 q ak7 ala ?_;refine⟨O,?_⟩;obtain⟨m4,E⟩:=d.fH q g.toNat x;refine vs ?_;exact⟨f,u,x,m4,Z,by simp,K.trans (E.mono O)⟩
theorem HJ.vl{w:Nw}{z:List Int}{L:List Pc}{tops n:List Int}{ch:Int->List Int}{au:Int->Int}{x:Int->List Int}(l:HJ w N L tops ch au x){b r:Int}{h:List Int}(d:a≠b)(j:0<a)(v:0<b)
  (f:∀c,c∈h↔c∈x a\/c∈x b)(p:mi (bY z) h)(P:h.Nodup)(q:∀c,c∉x a->c∉x b->bY z c=bY N c)(A:h.headD (-1)=r)
  (u:∀g,g=a\/g=b->aO tops g≠ -1->r≠ -1/\(aO tops g≠r->aU w r (aO tops g)=true))(t:aO n=cR (cR (aO tops) a r) b (-1))(K:n.length=tops.length):
  HJ (w.join a b) z L n ch au (ay (ay x a h) b []):=by
 have e:=lN (w:=w) (a:=a) (b:=b) v;have m:=l.f.vl (hm':=aH (w.join a b)) rfl d j v e f p P q;rw[<-ik w a b]at m;refine⟨m,l.pc,fun g=>?_,fun g y o F=>?_,by rw[K,l.tl];simp[Nw.join]⟩
 ·rw[t];have:=l.tp g;unfold cR ay;split
  ·rfl
  ·split
   ·exact A.symm
   ·exact this
 ·rw[t,ik];rw[e]at F;have Q:=l.ls (aH w y) y;have U:=l.ls g y o;have I:=u (aH w y);have G:=(ar w).tr r (aO tops (aH w y)) y;unfold cR;grind
theorem Fx{n:Nat}{H:Hp}{S:Nat->Prop}{w:Nw}(h:dQ n H S w)(a b:Int):aD 438 [ptr n,i64 a,i64 b] H fun v J=>ak (
  (¬ (w.has a/\w.has b/\a≠b)/\v= .bool false/\br (dQ n) S H J w)\/((w.has a/\w.has b/\a≠b)/\v= .bool true/\br (dQ n) S H J (w.join a b))):=by
 obtain⟨B,C,N,P,L,tops,ch,au,e,rfl,m,l,F⟩:=id h;have hC:∀z,C z->S z:=fun z h=>(F z).2 (.inl h);have tb_:S B.nb:=(F _).2 (.inr O);have tb2:S B.pb:=(F _).2 (.inr O);have tb4:S B.tp:=(F _).2 (.inr O);obtain⟨tv,o0,_⟩:=m.own;refine aL qJ ?_;refine v1 (ae o0) ?_;refine(iQ m.cells a b).mono ?_;rintro _ H1 (⟨kV,rfl,rfl⟩| ⟨HI,rfl,G,e1⟩)
 ·refine vs ?_;exact .inl ⟨kV,rfl,br.same h (aj.refl _ _)⟩
 obtain⟨⟨ha,Nf⟩,⟨hb,Nb⟩,Fh⟩:=id HI;have E:=m.aE G e1 (by simp[Nw.join]);have hj:=lN (w:=w) (a:=a) (b:=b) O;have al:a<tops.length:=by
  have:=(ak8.1 Nf).1;have:=l.tl;omega
 have bl:b<tops.length:=by
  have:=(ak8.1 Nb).1;have:=l.tl;omega
 have ls:=ar w;have e1S:aj S H H1:=e1.mono fun z _ h=>hC z h;obtain⟨D,lt,o1,U,Dx,JH,JI⟩:=E.ed;have qb:=E.cS U (ce (tops:=tops) (h:=b) O bl);refine v1 (ae o1) ?_;refine⟨O,?_⟩;refine v4 (ae U) ak7 ala qb ?_;have hTb:aO tops b≠ -1->aH w (aO tops b)=b:=fun h=>by
  obtain⟨B',hB⟩:=l.head h;exact(l.f.rm b _ Z).1
 have hTa:aO tops a≠ -1->aH w (aO tops a)=a:=fun h=>by
  obtain⟨B',hB⟩:=l.head h;exact(l.f.rm a _ Z).1
 have emp:∀g,aO tops g= -1->e g=[]:=fun g h=>by
  have q:=l.tp g;rw[h]at q;cases hc:e g with
  |nil=>rfl
  |cons c r=>rw[hc]at q;exact absurd q.symm (l.f.ZT (h:=g) Z)
 have fin:∀ (p:Hp) (y A:List Int) (Mv:List Int) (r:Int) (j:List Int),bP p B C (w.join a b) y A L Mv->aj S H p->Mv.length=tops.length->aO Mv=cR (aO tops) a r->(∀I,aO I=cR (cR (aO tops) a r) b (-1)->I.length=tops.length->HJ (w.join a b) y L I ch au (ay (ay e a j) b []))->
   ∀K:Hp->Prop,(∀J,br (dQ B.n) S H J (w.join a b)->K J)->∃D l2,p.own B.n=some [ptr B.c,ptr B.r,.slice (some ⟨B.tb,0,none⟩) L.length L.length,.slice (some ⟨B.tp,0,none⟩) tops.length D]/\p.own B.tp=some l2/\b.toNat<l2.length/\K (p.wr B.tp (l2.set b.toNat (i64 (-1)))):=fun p y A Mv r j X e2 Oe RJ hL K hK=>by
  obtain⟨D,l2,Q,d,V9,y5,_⟩:=X.ed;obtain⟨m3,e3⟩:=X.fH d b.toNat (-1);rw[Oe]at Q V9;refine⟨D,l2,Q,d,O,hK _ (br.same ⟨B,C,y,A,L,_,ch,au,_,rfl,m3,hL _ (by grind [dJ]) Z,F⟩ (e2.trans (e3.mono fun z _ h=>h▸tb4)))⟩
 refine ai.dec (fun h0=>?_) (fun h0=>?_)<;>refine v1 (ae o1) ?_
 ·obtain⟨cc2,l2,Q,d,hd,hk⟩:=fin H1 N P tops (aO tops a) (e a) E e1S rfl (by funext z;unfold cR;grind) (fun I ht' Xd=>l.vl Fh O O Z (l.f.rc a) (l.f.rn a) (fun _ _ _=>rfl) (l.tp a).symm Z ht' Xd) _ (fun J hn=>(.inr ⟨HI,rfl,hn⟩:(¬ (w.has a/\w.has b/\a≠b)/\Value.bool true= .bool false/\br (dQ B.n) S H J w)\/((w.has a/\w.has b/\a≠b)/\Value.bool true= .bool true/\br (dQ B.n) S H J (w.join a b))));refine⟨O,?_⟩;rw[U]at d;injection d with d;subst d;refine v3 U ak7 ala ?_;refine⟨O,?_⟩;refine vs ?_;exact hk
 ·have ahn:=hTb h0;have RG:aO tops a≠aO tops b:=Z;refine⟨O,?_⟩;refine v4 (ae U) ak7 ala qb ?_;refine(Nx E (x:=aO tops b) (g:=a) (t:=aO tops a) Z O al rfl (by
   grind) RG).mono ?_
  rintro _ p ⟨y,A,r,X,o,hr,e2⟩;rw[ik]at hr;obtain⟨j,k1,k2,k3,k4,k5,k6⟩:∃j:List Int,(∀c,c∈j↔c∈e a\/c∈e b)/\mi (bY y) j/\j.Nodup/\(∀c,c∉e a->c∉e b->bY y c=bY N c)/\j.headD (-1)=r/\
    (∀g,g=a\/g=b->aO tops g≠ -1->r≠ -1/\(aO tops g≠r->aU w r (aO tops g)=true)):=by
   obtain⟨u,hB⟩:=l.head h0;by_cases M:aO tops a= -1
   ·rw[if_pos M]at o;rw[if_pos (.inl M)]at hr;refine⟨e b,Z,by rw[o];exact l.f.rc b,l.f.rn b,fun _ _ _=>by rw[o],Z,fun g hg ny=>?_⟩;grind
   ·rw[if_neg M]at o;obtain⟨f,hAq⟩:=l.head M;have G:=l.f.rc a;have c2:=l.f.rc b;have d1:=l.f.rn a;have d2:=l.f.rn b;have k9:∀c,c∈e a->c∈e b->False:=fun c q h2=>Fh (by rw[<- (l.f.rm a c q).1,(l.f.rm b c h2).1]);rw[hAq]at G d1 k9;rw[hB]at c2 d2 k9;have nd:((aO tops a::f)++(aO tops b::u)).Nodup:=Z;have cj:=mi.join G c2 nd;rw[<-o]at cj;have pm:(aO tops a::u++aO tops b::f).Perm ((aO tops a::f)++(aO tops b::u)):=by
     refine List.Perm.cons _ ?_;exact ama.trans ((List.Perm.cons _ ama).trans (by
      have:=@amA _ (aO tops b) u f;exact(List.Perm.cons _ Z).trans amA.symm))
    have fr:∀c,c∉e a->c∉e b->bY y c=bY N c:=fun c q h2=>by
     rw[o];grind [nA]
    have VQ:=ls.VQ (aO tops a) (aO tops b) RG;by_cases iD:aU w (aO tops b) (aO tops a)=true
    ·rw[if_pos (.inr iD)]at hr;have cr:=mi.VU (l1:=aO tops a::u) (l2:=aO tops b::f) cj;grind
    grind
  obtain⟨cc2,l2,Q,d,hd,hk⟩:=fin p y A _ r j X (e1S.trans (e2.mono Z)) Z (dJ O al r) (fun I ht' Xd=>l.vl Fh O O k1 k2 k3 k4 k5 k6 ht' Xd) _ (fun J hn=>(.inr ⟨HI,rfl,hn⟩:(¬ (w.has a/\w.has b/\a≠b)/\Value.bool true= .bool false/\br (dQ B.n) S H J w)\/((w.has a/\w.has b/\a≠b)/\Value.bool true= .bool true/\br (dQ B.n) S H J (w.join a b))));refine v1 (ae Q) ?_;refine⟨O,?_⟩;refine v3 d ak7 ala ?_;refine⟨O,?_⟩;refine vs ?_;exact hk
theorem RL(k:Nat):dm [Value.int .i64 0,Value.int .i64 0,Value.int .i64 0,Value.bool false] k=aN (List.replicate k ⟨0,0,0,false⟩):=by
 unfold dm aN;induction k with
 |zero=>rfl
 |succ k x=>rw[alZ,alZ,amw,amQ,x];rfl
theorem HK(cap:Int)(H:Hp):aD 94 [i64 cap] H fun v J=>ak (
  af H J/\((¬ (0<=cap/\cap<=65536)/\v= .tuple [.pointer none,i64 31].toArray)\/
   ((0<=cap/\cap<=65536)/\∃n S,v= .tuple [ptr n,i64 0].toArray/\dQ n J S (iU cap)/\∀x,S x->H.size<=x))):=by
 refine aL Ba ?_;refine vs ?_;refine(jX cap H).mono ?_;rintro _ F ⟨f,⟨d,rfl⟩| ⟨d,c,C,rfl,Q,hC⟩⟩
 ·refine vs ?_;exact⟨f,.inl ⟨d,rfl⟩⟩
 refine vs ?_;refine(Fw F d).mono ?_;rintro _ H2 ⟨r,G,E,N,P,rfl,e,hN,hid,hinv,u,hr,On,hpb⟩;have c2:=Q.fresh u;refine v1 alr ?_;refine⟨O,?_⟩;refine vs ?_;rw[RL];have XQ:=Q.slt;have z1:=f.size;have z2:=u.size;have hrs:r<H2.size/\G<H2.size/\E<H2.size:=⟨aB e.own,aB e.Mt,aB e.SW⟩;obtain⟨rn1,rn2,rn3⟩:=e.ne;have A:af H2 (((H2.new 240 (aN (List.replicate cap.toNat ⟨0,0,0,false⟩))).new 3 [Value.int .i64 (-1)]).new 238 [ptr c,ptr r,.slice (some ⟨H2.size,0,none⟩) cap.toNat cap.toNat,.slice (some ⟨H2.size+1,0,none⟩) 1 1]):=(bm.new _ _).new _ _;have e1:aj (fun _=>False) (H2.new 240 (aN (List.replicate cap.toNat ⟨0,0,0,false⟩))) (((H2.new 240 (aN (List.replicate cap.toNat ⟨0,0,0,false⟩))).new 3 [Value.int .i64 (-1)]).new 238 [ptr c,ptr r,.slice (some ⟨H2.size,0,none⟩) cap.toNat cap.toNat,.slice (some ⟨H2.size+1,0,none⟩) 1 1]):=bm.new _ _;have e2:aj (fun _=>False) ((H2.new 240 (aN (List.replicate cap.toNat ⟨0,0,0,false⟩))).new 3 [Value.int .i64 (-1)]) (((H2.new 240 (aN (List.replicate cap.toNat ⟨0,0,0,false⟩))).new 3 [Value.int .i64 (-1)]).new 238 [ptr c,ptr r,.slice (some ⟨H2.size,0,none⟩) cap.toNat cap.toNat,.slice (some ⟨H2.size+1,0,none⟩) 1 1]):=bm;obtain⟨B,t⟩:∃B:FB,B=⟨H2.size+1+1,c,r,G,E,H2.size,H2.size+1⟩:=⟨_,rfl⟩;have m0:bP (((H2.new 240 (aN (List.replicate cap.toNat ⟨0,0,0,false⟩))).new 3 [Value.int .i64 (-1)]).new 238 [ptr c,ptr r,.slice (some ⟨H2.size,0,none⟩) cap.toNat cap.toNat,.slice (some ⟨H2.size+1,0,none⟩) 1 1]) B C (iU cap) N P (List.replicate cap.toNat ⟨0,0,0,false⟩) [-1]:=by
  subst t;refine⟨⟨.slice (some ⟨H2.size+1,0,none⟩) 1 1,?_,?_⟩,c2.fresh A,e.ext A (fun h=>h) (fun h=>h) (fun h=>h),hinv,?_,?_,?_,?_⟩
  ·grind [az,ag]
  ·exact(Sl.bs (size:=1) (n:=1) (xs:=[i64 (-1)]) rfl (by simp only[ag])).ext e2 (fun _ _ h=>h)
  ·exact e1.own (am _ _ _) (fun h=>h)
  ·simp[iU,hN]
  ·grind
  ·grind
 have T2:B.n=H2.size+1+1:=by rw[t]
 have hBs:∀z,B.S C z->F.size<=z\/C z:=fun z K=>by
  rcases K with K|rfl|rfl|rfl|rfl|rfl|rfl
  ·grind
  all_goals rw[t];left;first|omega| (simp only;omega)
 have hBt:B.tb=H2.size:=by rw[t]
 have ft:=(f.trans u).trans A;generalize ((H2.new 240 (aN (List.replicate cap.toNat ⟨0,0,0,false⟩))).new 3 [Value.int .i64 (-1)]).new 238 [ptr c,ptr r,.slice (some ⟨H2.size,0,none⟩) cap.toNat cap.toNat,.slice (some ⟨H2.size+1,0,none⟩) 1 1]=X at*;have No:(iU cap).cs.length=cap.toNat:=by simp[iU]
 rw[<-T2];refine ba.intro (fun m env J=>∃ (j:Nat) (L':List Pc),m=cap.toNat - j/\j<=cap.toNat/\aj (fun z=>z=B.tb) X J/\bP J B C (iU cap) N P L' [-1]/\(∀z:Int,0<=z->z<j->fe L' z=lY)/\
  env=[(5,i64 0),(7,ptr B.n),(33,i64 (cap.toNat:Nat)),(34,i64 j)]) cap.toNat ⟨0,_,O,O,aj.refl _ _,m0,O,rfl⟩ ?_
 rintro m env H4 ⟨j,l,rfl,hj,U,p,g4,rfl⟩;obtain⟨cc,lt4,D,_⟩:=p.ed;have Wq:=p.len;refine vs ?_;refine ai.dec (fun iD=>?_) (fun iD=>?_)<;>refine vs ?_
 ·refine di.intro (fun J=>J.own B.n=some [ptr B.c,ptr B.r,.slice (some ⟨B.tb,0,none⟩) l.length l.length,.slice (some ⟨B.tp,0,none⟩) [(-1:Int)].length cc]) D ?_;refine vs ?_;refine bG.intro (.slice (some ⟨B.tb,0,none⟩) l.length l.length) (fun J hI=>by refine v1 (ae hI) ?_;trivial) ?_;refine vs ?_;refine(sJ H4).mono ?_;rintro _ H5 ⟨rfl,o⟩;have M:=o.own D (fun h=>h);refine And.intro M ?_;have q:=p.fresh o;refine vs ?_;refine⟨O,?_⟩;obtain⟨b0,_⟩:=q.rd (x:=(j:Int)) O;obtain⟨L6,k6,m6,I⟩:=q.Lq (x:=(j:Int)) O lY;refine v2 q.places ak7 ?_;refine⟨O,?_⟩;rw[show aQ (aN l) ((j:Int).toNat*4) (aK (Value.agg #[i64 (-1),i64 (-1),i64 0,Value.bool false]))=aQ (aN l) ((j:Int).toNat*4) [i64 lY.u,i64 lY.k,i64 lY.d,.bool lY.m]from rfl];have SS:=q.k9.1.2.2.2.1;generalize H5.wr B.tb (aQ (aN l) ((j:Int).toNat*4) [i64 lY.u,i64 lY.k,i64 lY.d,.bool lY.m])=H6 at*;refine vs ?_;refine And.intro (I.own M SS) ?_;refine vs ?_;refine⟨cap.toNat - (j+1),O,j+1,L6,rfl,O,(U.trans (o.mono fun _ _ h=>h.elim)).trans I,m6,fun z h0 h1=>?_,?_⟩
  ·rw[k6];unfold kD;grind
  grind [wrap64]
 ·obtain rfl:j=cap.toNat:=O;have Yg:∀z,fe l z=lY:=by grind [lY,fe]
  refine⟨ft.then U O,.inr ⟨d,B.n,B.S C,rfl,⟨B,C,N,P,l,[-1],fun _=>[],fun _=> -1,fun _=>[],rfl,p,⟨⟨⟨rfl,Z,O,Z⟩,
   fun x=>trivial,fun h=>trivial,Z,Z,amy,Z,fun c hc=>absurd hc (iV cap c),fun c _=>hid c⟩,fun x=>by rw[Yg];exact⟨rfl,rfl,rfl⟩,
   fun g=>zT g,fun g y hg hy=>absurd O (iV cap y),rfl⟩,fun z=>Iff.rfl⟩,fun z K=>?_⟩⟩
  grind
theorem PA(n:Nat):qq (.iface 177 (ptr n)) (dQ n) where
 slt h:=h.slt
 ext h e hd:=h.ext e hd
 cells:=by
  rintro H S w ⟨B,C,N,P,L,tops,ch,au,j,rfl,m,l,t⟩;exact⟨B.c,C,m.cells⟩
 has:=by
  rintro H S w g ⟨B,C,N,P,L,tops,ch,au,j,rfl,m,l,t⟩;obtain⟨d,r,_⟩:=m.own;exact⟨_,_,353,ptr B.c,rfl,cz (off:=0) Y (ae r) rfl,(ii m.cells g).mono fun v J c=>c⟩
 make:=by
  intro H S w h;exact⟨_,_,437,ptr n,rfl,aZ Y,(Fv h).mono fun v J c=>c⟩
 insert:=by
  intro H S w g x k s h;exact⟨_,_,436,ptr n,rfl,aZ Y,(BF h g x k s).mono fun v J c=>c⟩
 min:=by
  intro H S w g h;refine⟨_,_,439,ptr n,rfl,aZ Y,(yn h g).mono ?_⟩;rintro v J ⟨⟨y,rfl⟩| ⟨x,y,rfl⟩,rfl⟩
  ·exact .inl ⟨y,rfl,br.same h (aj.refl _ _)⟩
  ·exact .inr ⟨x,y,rfl,br.same h (aj.refl _ _)⟩
 extract:=by
  intro H S w g h;exact⟨_,_,435,ptr n,rfl,aZ Y,(ol h g).mono fun v J c=>c⟩
 jZ:=by
  intro H S w x k s h;exact⟨_,_,433,ptr n,rfl,aZ Y,(yo h x k s).mono fun v J c=>c⟩
 entry:=by
  rintro H S w x ⟨B,C,N,P,L,tops,ch,au,j,rfl,m,l,t⟩;obtain⟨d,r,_⟩:=m.own;refine⟨_,_,351,ptr B.c,rfl,cz (off:=0) Y (ae r) rfl,(gI m.cells x).mono ?_⟩;rintro v J ⟨p,f,o⟩;exact⟨⟨B,C,N,P,L,tops,ch,au,j,rfl,m.fresh f,l,t⟩,f,o⟩
 len:=by
  rintro H S w g ⟨B,C,N,P,L,tops,ch,au,j,rfl,m,l,t⟩;obtain⟨d,r,_⟩:=m.own;exact⟨_,_,356,ptr B.c,rfl,cz (off:=0) Y (ae r) rfl,(eU m.cells g).mono fun v J c=>c⟩
 home:=by
  rintro H S w x h;obtain⟨B,C,N,P,L,tops,ch,au,j,rfl,m,l,t⟩:=id h;obtain⟨d,r,_⟩:=m.own;refine⟨_,_,354,ptr B.c,rfl,cz (off:=0) Y (ae r) rfl,(bC m.cells x).mono ?_⟩;rintro v J (⟨y,rfl,rfl⟩| ⟨y,rfl,p,q⟩)
  ·exact .inl ⟨y,rfl,br.same h (aj.refl _ _)⟩
  ·exact .inr ⟨y,rfl,br.same ⟨B,C,N,P,L,tops,ch,au,j,rfl,m.aE p q rfl,l,t⟩ (q.mono fun z _ u=>(t z).2 (.inl u))⟩
 delete:=by
  intro H S w x h;exact⟨_,_,434,ptr n,rfl,aZ Y,(BG h x).mono fun v J c=>c⟩
 vl:=by
  intro H S w a b h;exact⟨_,_,438,ptr n,rfl,aZ Y,(Fx h a b).mono fun v J c=>c⟩
theorem sL(n:Nat)(H:Hp):aD 86 [ptr n,i64 0] H fun v J=>ak (v= .tuple [.iface 165 (ptr n),i64 0].toArray/\J=H):=by
 refine aL tL ?_;refine v1 alr ?_;exact⟨rfl,rfl⟩
theorem uB(n:Nat)(H:Hp):aD 93 [ptr n,i64 0] H fun v J=>ak (v= .tuple [.iface 177 (ptr n),i64 0].toArray/\J=H):=by
 refine aL mU ?_;refine v1 alr ?_;exact⟨rfl,rfl⟩
def SY(kd dd:Int):Prop:=∀ (cap:Int),(0<=cap/\cap<=65536)->∀H:Hp,aD 56 [xY kd dd,i64 cap] H fun v J=>ak (∃t h I x,v= .tuple [.iface t h,i64 0].toArray/\qq (.iface t h) I/\I J x (iU cap)/\af H J/\∀z,x z->H.size<=z)
def sM(cap:Int)(mo:Nat):Ar:=⟨List.replicate cap.toNat (0,false),[],0,0,mo⟩
theorem yp{kd dd cap:Int}{mo:Nat}(G:dP kd dd)(D:SY kd dd)(q:0<=cap/\cap<=65536)(hm:0<mo/\mo<=4294967295)(H:Hp):aD 17 [xY kd dd,i64 cap,.int .u32 (mo:Int)] H fun v J=>ak (∃s S,v= .tuple [ptr s,i64 0].toArray/\j0 J s S (iU cap) (sM cap mo) 0/\af H J/\∀z,S z->H.size<=z):=by
 refine aL Gf ?_;refine vs ?_;have N:af H (H.new 26 [i64 kd,i64 dd]):=bm;have E:(H.new 26 [i64 kd,i64 dd]).own H.size=some [i64 kd,i64 dd]:=am _ _ _;have z0:(H.new 26 [i64 kd,i64 dd]).size=H.size+1:=ag _ _ _;generalize H.new 26 [i64 kd,i64 dd]=P at*;refine(eS kd dd P).mono ?_;rintro _ A ⟨rfl,r⟩;rw[Hz G];have X:=r.own E (fun h=>h);have z1:=r.size;refine vs ?_;refine ai.dec (fun _=>?_) (fun m=>absurd trivial m);refine vs ?_;refine(Du A q hm).mono ?_;rintro _ K ⟨B,rfl,f,j,hB⟩;have u:=j.own X (fun h=>h);have z2:=j.size;refine vs ?_;refine ai.dec (fun _=>?_) (fun m=>absurd trivial m);refine v1 (ae u) ?_;refine(D _ q K).mono ?_;rintro _ l ⟨t,y,I,p,rfl,n,hi,e,U⟩;have o3:=e.own u (fun h=>h);have z3:=e.size;refine vs ?_;refine ai.dec (fun _=>?_) (fun m=>absurd trivial m);refine v1 (ae o3) ?_;have o:=f.slt;have M:=fun z c=>n.slt hi z c;have d:af l (l.new 112 [i64 kd,i64 dd,ptr B.a,.iface t y,u64 0]):=bm;have F:(l.new 112 [i64 kd,i64 dd,ptr B.a,.iface t y,u64 0]).own l.size=some [i64 kd,i64 dd,ptr B.a,.iface t y,u64 0]:=am _ _ _;refine⟨l.size,fun z=>p z\/B.S z\/z=l.size,rfl,⟨t,y,I,p,B,kd,dd,n,n.ext hi d (fun _ _ h=>h),(f.ext e (fun _ _ h=>h)).ext d (fun _ _ h=>h),F,fun z c=>⟨fun h=>?_,?_⟩,fun h=>?_,fun z=>Iff.rfl,⟨by simp[iU,sM],fun x=>?_⟩⟩,(((N.trans r).trans j).trans e).trans d,fun z c=>?_⟩
 ·have:=o z h;have:=U z c;omega
 ·have:=M z c;omega
 ·have:=o _ h;omega
 ·constructor
  ·intro h;exact absurd (bf.2 h) (iV cap x)
  ·rintro⟨h0,Q⟩;simp only[sM,List.getElem?_replicate]at Q;grind
 grind
structure SB where
 n:Nat
 c:Nat
 t:Nat
 tl:Nat
 mp:Nat
def Fy(T:Int->Int):Int->Option Value:=fun h=>if T h= -1 then none else some (i64 (T h))
structure eB(H:Hp)(B:SB)(C:Nat->Prop)(w:Nw)(L:List Lk)(T:Int->Int):Prop where
 own:H.own B.n=some [ptr B.c,ptr B.t,.map (some B.mp)]
 cells:CQ H B.c C w
 cf:bR H B.t B.tl L
 y7:ke H B.mp (Fy T)
 len:L.length=w.cs.length
 k9:(B.n≠B.t/\B.n≠B.tl/\B.n≠B.mp)/\(B.t≠B.tl/\B.t≠B.mp)/\B.tl≠B.mp
 out:¬C B.n/\¬C B.t/\¬C B.tl/\¬C B.mp
def SB.S(B:SB)(C:Nat->Prop)(z:Nat):Prop:=C z\/z=B.n\/z=B.t\/z=B.tl\/z=B.mp
section
variable {H J : Hp} {B : SB} {C V : Nat → Prop} {w w' : Nw} {L L' : List Lk} {T : Int → Int}
theorem eB.slt(h:eB H B C w L T):∀z,B.S C z->z<H.size:=by
 rintro z (x|rfl|rfl|rfl|rfl)
 ·exact h.cells.slt z x
 ·exact aB h.own
 ·exact aB h.cf.own
 ·exact aB h.cf.jY
 ·exact h.y7.lt
theorem eB.ext(h:eB H B C w L T)(e:aj V H J)(l:∀z,B.S C z->¬V z):eB J B C w L T:=
 ⟨e.own h.own (l _ (.inr (.inl rfl))),h.cells.ext e (fun x n=>l x (.inl n)),h.cf.ext e (l _ (.inr (.inr (.inl rfl)))) (l _ (.inr O)),
  h.y7.ext e (l _ (.inr O)),h.len,h.k9,h.out⟩
theorem eB.fresh(h:eB H B C w L T)(e:af H J):eB J B C w L T:=h.ext e fun _ _ h=>h
theorem eB.aE(h:eB H B C w L T)(x:CQ J B.c C w')(e:aj C H J)(z:w'.cs.length=w.cs.length):eB J B C w' L T:=by
 obtain⟨l,n,m,c⟩:=h.out;exact⟨e.own h.own l,x,h.cf.ext e n m,h.y7.ext e c,by rw[z];exact h.len,h.k9,h.out⟩
theorem eB.dU(h:eB H B C w L T)(m:bR J B.t B.tl L')(e:aj (fun z=>z=B.tl) H J)(n:L'.length=L.length):eB J B C w L' T:=by
 obtain⟨r,j,d,p⟩:=h.out;obtain⟨⟨c,x,v⟩,⟨y,t⟩,l⟩:=h.k9;exact⟨e.own h.own x,h.cells.ext e Z,m,h.y7.ext e (Ne.symm l),by rw[n];exact h.len,h.k9,h.out⟩
theorem eB.fH(h:eB H B C w L T){T':Int->Int}(m:ke J B.mp (Fy T'))(e:aj (fun z=>z=B.mp) H J):eB J B C w L T':=by
 obtain⟨t,r,j,d⟩:=h.out;obtain⟨⟨c,v,x⟩,⟨y,l⟩,n⟩:=h.k9;exact⟨e.own h.own x,h.cells.ext e Z,h.cf.ext e l n,m,h.len,h.k9,h.out⟩
theorem PC(T:Int->Int)(h x:Int):(x= -1->Fy (cR T h x)=KN (Fy T) h)/\(x≠ -1->Fy (cR T h x)=GY (Fy T) h (i64 x)):=by
 constructor
 ·rintro rfl;funext y;unfold Fy cR KN;grind
 ·intro z;funext y;unfold Fy cR GY;grind
theorem fk(h:eB H B C w L T)(g:Int):aD 483 [ptr B.n,i64 g] H fun v J=>ak (v=i64 (T g)/\J=H):=by
 refine aL xO ?_;refine v2 (ae h.own) h.y7.look ?_;unfold Fy;by_cases x:T g= -1
 ·rw[if_pos x,x];refine vs ?_;exact⟨rfl,rfl⟩
 ·rw[if_neg x];refine vs ?_;exact⟨rfl,rfl⟩
theorem fu(h:eB H B C w L T)(g x:Int):aD 481 [ptr B.n,i64 g,i64 x] H fun v J=>ak (eB J B C w L (cR T g x)/\aj (fun z=>z=B.mp) H J):=by
 obtain⟨e,y⟩:=PC T g x;refine aL xM ?_;refine vs ?_;refine ai.dec (fun m=>?_) (fun m=>?_)<;>refine v1 (ae h.own) ?_
 ·refine h.y7.del fun c n l=>?_;rw[<-e m]at n;refine vs ?_;exact⟨h.fH n l,l⟩
 ·refine h.y7.TH fun c n l=>?_;rw[<-y m]at n;refine vs ?_;exact⟨h.fH n l,l⟩
theorem JO(h:gz x= .tuple [i64 a,.bool b].toArray):(b=false/\x= -1)\/(b=true/\a=x/\x≠ -1):=by
 have z:∀ {p q:Int} {r s:Bool},Value.tuple [i64 p,Value.bool r].toArray=Value.tuple [i64 q,Value.bool s].toArray->p=q/\r=s:=Z;unfold gz at h;grind
theorem kE(h:eB H B C w L T)(n:Bt (aH w) (aU w) (bk L) (bq L))(y:gz x= .tuple [i64 a,.bool b].toArray):
  aD 484 [ptr B.n,i64 a,.bool b] H fun v J=>ak (v=i64 x/\∃L',eB J B C w L' T/\bk L'=iy (bk L) (bq L) x/\bq L'=df (bq L) x/\aj (fun z=>z=B.tl) H J):=by
 refine aL xP ?_;refine vs ?_;rcases JO y with ⟨rfl,rfl⟩| ⟨rfl,rfl,q⟩
 ·refine vs ?_;obtain⟨c,e⟩:=wZ n;exact⟨rfl,L,h,c.symm,e.symm,aj.refl _ _⟩
 ·refine v1 (ae h.own) ?_;refine(cK h.cf (x:=a) (fun t=>by have:=xX.up n t;have:=h.len;omega)).mono ?_;rintro _ p ⟨rfl,m,j,l1,r,d,l⟩;refine vs ?_;exact⟨rfl,m,h.dU j l l1,r,d,l⟩
theorem gW(h:eB H B C w L T){a0 b0:Int}{R:Int->Prop}(m:Mg (aH w) (aU w) g R (bk L) (bq L) [] a0 b0):
  aD 482 [ptr B.n,i64 a0,i64 b0] H fun v J=>ak (∃r L',v=i64 r/\eB J B C w L' T/\Mg (aH w) (aU w) g R (bk L') (bq L') [] r (-1)/\
   (∀n,oE (aU w) (bk L) (bq L) n (bk L) (bq L) [] a0 b0->oE (aU w) (bk L) (bq L) n (bk L') (bq L') [] r (-1))/\aj (fun z=>C z\/z=B.tl) H J):=by
 refine aL xN ?_;refine vs ?_;have uv:=h.cells.yY;refine ba.intro (fun mm env J=>∃ (a b:Int) (l:List Int) (wv:Value) (fp:Option Nat) (L':List Lk),mm=w.cs.length - l.length/\eB J B C w L' T/\Mg (aH w) (aU w) g R (bk L') (bq L') l a b/\
  (∀n,oE (aU w) (bk L) (bq L) n (bk L) (bq L) [] a0 b0->oE (aU w) (bk L) (bq L) n (bk L') (bq L') l a b)/\
  (∀z,fp=some z->H.size<=z)/\Sl J 1 wv l.length (l.map i64) fp/\aj (fun z=>C z\/z=B.tl\/H.size<=z) H J/\
  env=[(0,ptr B.n),(1,i64 a),(2,i64 b),(7,wv)]) _ ⟨a0,b0,[],_,none,L,rfl,h,m,(fun _ h=>h),Z,Sl.nil _ _,aj.refl _ _,rfl⟩ ?_
 rintro mm env H1 ⟨a,b,l,wv,fp,d,rfl,l1,y,f1,ww,s1,e1,rfl⟩;have z1:=e1.size;clear m;refine vs ?_;refine ai.dec (fun F=>?A) (fun F=>?_)<;>refine vs ?_;rotate_left;refine ai.dec (fun I=>?B) (fun I=>?_)<;>refine vs ?_;rotate_left
 ·have o1:=l1.own;refine v1 (ae o1) ?_;refine(cv l1.cells b a).mono ?_;rintro _ H2 ⟨rfl,c2,P⟩;have l2:=l1.aE c2 P rfl;have Q:=s1.ext P (fun z K Kj=>by have:=ww z K;have:=h.slt z (.inl Kj);omega);have z2:=P.size;have ha:=y.wa.resolve_left F;have hb:=y.wb.resolve_left I;have Fh:=fQ (w:=w) (a:=b) (b:=a) (by rw[hb.1];exact y.pos) (by rw[ha.1];exact y.pos);have ny:a≠b:=fun e=>F (y.ab e);rw[Fh];obtain⟨p,q,Wo,hl,gp,gq,mm,fm⟩:∃p q,(if aU w b a=true then(p=b/\q=a)else(p=a/\q=b))/\aU w p q=true/\p≠ -1/\q≠ -1/\Mg (aH w) (aU w) g R (bk d) (bq d) l p q/\
    (∀n,oE (aU w) (bk L) (bq L) n (bk L) (bq L) [] a0 b0->oE (aU w) (bk L) (bq L) n (bk d) (bq d) l p q):=by
   cases iD:aU w b a
   ·exact⟨a,b,by simp,by grind [aU,Nw.key,Nw.seq],F,I,y,f1⟩
   ·exact⟨b,a,by simp,iD,I,F,y.swap,fun n N=>(f1 n N).swap⟩
  have Rr:0<aH w p:=by rw[(mm.wa.resolve_left gp).1];exact mm.pos
  obtain⟨p0,p1,_⟩:=aI Rr;have u:=mm.Ox (ar w) gp gq hl;have f3:=fun n N=>(fm n N).down (ar w) mm.bt gp;have wl:(l++[p]).length<=w.cs.length:=ck (u.nodup (ar w)) fun x hx=>by
   have O6:=(u.wy x hx).2.1;have TR:=u.pos;obtain⟨n,x1,_⟩:=aI (w:=w) (x:=x) O;omega
  rw[alm,alR]at wl;cases iD:aU w b a<;>simp only[iD,if_true,if_false,al4]at Wo<;>obtain⟨rfl,rfl⟩:=Wo<;>refine vs ?_;all_goals
   refine xR (B:=H.size) ww O Q p O fun w' H3 Ii Pq s3 U=>?_;refine vs ?_;have t:=l2.ext U (fun z K Kj=>by have:=h.slt z K;omega);have o3:=t.own;refine v1 (ae o3) ?_;refine(cC t.cf p).mono ?_;rintro _ J ⟨rfl,e⟩;obtain rfl:=e.symm;obtain⟨k1,k2,ek⟩:=cL (bk d p true);rw[ek];refine vs ?_;refine(kE t mm.bt ek).mono ?_;rintro _ H4 ⟨rfl,D,X,kk4,uu4,o⟩;have s4:=s3.ext o (fun z K Kj=>by have:=Pq z K;have:=h.slt B.tl (.inr O);omega);refine vs ?_;refine⟨w.cs.length - (l.length+1),O,bk d p true,q,l++[p],w',Ii,D,by simp,X,?_,?_,Pq,s4,((e1.trans (P.mono Z)).trans (U.mono O)).trans (o.mono O),rfl⟩
   ·grind
   grind
 case' A=>
  have G:Mg (aH w) (aU w) g R (bk d) (bq d) l b (-1):=F▸y.swap;have M:=fun n (N:oE (aU w) (bk L) (bq L) n (bk L) (bq L) [] a0 b0)=>(f1 n N).swap;rw[F]at M;have E:(if b>a then b else a)=b:=by
   rcases y.wb with h|h
   ·omega
   ·have hp:=y.pos;obtain⟨_,_⟩:=aI (w:=w) (x:=b) O;omega
  rw[E];clear E;generalize b=r at G M
 case' B=>
  have G:Mg (aH w) (aU w) g R (bk d) (bq d) l a (-1):=I▸y;have M:=f1;rw[I]at M;have E:(if b>a then b else a)=a:=by
   rcases y.wa with h|h
   ·omega
   ·have hp:=y.pos;obtain⟨_,_⟩:=aI (w:=w) (x:=a) O;omega
  rw[E];clear E;generalize a=r at G M
 all_goals
  obtain⟨wa,wc,rfl⟩:=Sl.shape s1;refine vs ?_;have wl:l.length<=w.cs.length:=ck (G.nodup (ar w)) fun x hx=>by
   have O6:=(G.wy x hx).2.1;have TR:=G.pos;obtain⟨n,x1,_⟩:=aI (w:=w) (x:=x) O;omega
  refine ba.intro (fun mm env J=>∃ (i:Nat) (r:Int) (L':List Lk),mm=i/\i<=l.length/\eB J B C w L' T/\Mg (aH w) (aU w) g R (bk L') (bq L') (l.take i) r (-1)/\
   (∀n,oE (aU w) (bk L) (bq L) n (bk L) (bq L) [] a0 b0->oE (aU w) (bk L) (bq L) n (bk L') (bq L') (l.take i) r (-1))/\
   Sl J 1 (.slice wa l.length wc) l.length (l.map i64) fp/\aj (fun z=>C z\/z=B.tl\/H.size<=z) H J/\
   env=[(0,ptr B.n),(7,.slice wa l.length wc),(8,i64 r),(9,i64 ((i:Int) - 1))]) _ ⟨l.length,r,d,rfl,alj _,l1,Z,Z,s1,e1,?_⟩ ?_
  ·grind [wrap64]
  rintro mm env H2 ⟨i,r2,L2,hmi,hi,l2,u,f3,Q,P,rfl⟩;obtain rfl:=hmi.symm;refine vs ?_;refine ai.dec (fun gi=>?_) (fun gi=>?_)<;>refine vs ?_;rotate_left
  ·obtain rfl:i=0:=O;exact⟨r2,L2,rfl,l2,Z,Z,P.mono Z⟩
  obtain⟨j,rfl⟩:∃j,i=j+1:=⟨i - 1,O⟩;obtain⟨v,hv⟩:∃v,l[j]? =some v:=⟨_,ak9 O⟩;have tk:l.take (j+1)=l.take j++[v]:=by rw[alq,hv];rfl
  rw[tk]at u f3;have m4:=u.back (ar w);have f4:=fun n N=>(f3 n N).back;obtain⟨v1,v2,v3,v4,v5,v6⟩:=u.wy v (by simp);obtain⟨q1,vb,lb,rfl,q2,q3⟩:=Sl.wx Q hv;have XH:∃b',fp=some b'/\b'=vb:=by
   cases fp with
   |none=>have:=Q.2.2;grind
   |some b'=>obtain⟨_,_,h1,_⟩:=Q.2;grind
  obtain⟨b',rfl,rfl⟩:=XH;have XH:=ww b' rfl;have TU:0<aH w v:=by rw[v2];exact u.pos
  obtain⟨Wb,vv1,_⟩:=aI TU;have ji:((((j+1:Nat):Int) - 1)).toNat=j:=O;refine⟨O,?_⟩;simp(disch:=(first|exact aV|fail)) only[go_sem, ↓reduceIte,Zv,ae q2,ak7,ala,ji,q3];refine ai.dec (fun f=>?_) (fun f=>?_)<;>refine vs ?_
  ·rw[if_pos f,if_pos f]at m4;simp only[if_pos f]at f4;have f5:=f4;have t:=l2;have m5:=m4;have s3:=Q;have U:=P;simp(disch:=(first|exact aV|fail)) only[go_sem, ↓reduceIte,Zv,ae t.own];refine(kB t.cf (p:=v) ⟨Wb,by have:=t.len;omega⟩).mono ?_;rintro _ H4 ⟨rfl,D,t4,TT,k4,u4,o⟩;have X:=t.dU t4 o TT;refine vs ?_;refine⟨j,O,j,v,D,rfl,O,X,?_,?_,s3.ext o (fun z K Kj=>by injection K with K;have:=h.slt B.tl (.inr O);omega),U.trans (o.mono O),?_⟩
   ·rw[k4,u4];exact m5.tH (ar w)
   ·grind [oE.tH]
   grind [wrap64]
  ·rw[if_neg f,if_neg f]at m4;simp only[if_neg f]at f4;have Mp:=u.wa.resolve_left f;obtain⟨r0,r1,_⟩:=aI (w:=w) (x:=r2) O;have ec:=l2.len;have hvr:v≠r2:=fun e=>by have:=v5 f;rw[e,(ar w).Ih]at this;grind
   simp(disch:=(first|exact aV|fail)) only[go_sem, ↓reduceIte,Zv,ae l2.own];refine(fj l2.cf (p:=v) (x:=r2) (c:=true) ⟨Wb,O⟩ ⟨r0,O⟩ hvr Mp.2 v4).mono ?_;rintro _ H3 ⟨rfl,L3,t3,ll3,XI,XJ,O7⟩;have t:=l2.dU t3 O7 ll3;have m5:Mg (aH w) (aU w) g R (bk L3) (bq L3) (l.take j) v (-1):=by rw[XI,XJ];exact m4
   have f5:=f4;rw[<-XI,<-XJ]at f5;have nb:b'≠B.tl:=fun e=>by have:=h.slt B.tl (.inr O);omega
   have s3:=Q.ext O7 Z;have U:=P.trans (O7.mono O);refine vs ?_;simp(disch:=(first|exact aV|fail)) only[go_sem, ↓reduceIte,Zv,ae t.own];refine(kB t.cf (p:=v) O).mono ?_;rintro _ H4 ⟨rfl,D,t4,TT,k4,u4,o⟩;have X:=t.dU t4 o TT;refine vs ?_;refine⟨j,O,j,v,D,rfl,O,X,?_,?_,s3.ext o Z,U.trans (o.mono O),?_⟩
   ·rw[k4,u4];exact m5.tH (ar w)
   ·grind [oE.tH]
   grind [wrap64]
end
end
section
variable{x:Int}
def dG(n:Nat)(H:Hp)(S:Nat->Prop)(w:Nw):Prop:=∃ (B:SB) (C:Nat->Prop) (L:List Lk) (T:Int->Int),B.n=n/\eB H B C w L T/\tj (aH w) (aU w) (bk L) (bq L) T/\∀z,S z↔B.S C z
theorem dG.slt{n:Nat}{H:Hp}{S:Nat->Prop}{w:Nw}(h:dG n H S w):∀z,S z->z<H.size:=by
 obtain⟨B,C,L,T,rfl,m,l,x⟩:=h;exact fun z c=>m.slt z ((x z).1 c)
theorem dG.ext{n:Nat}{H J:Hp}{S V:Nat->Prop}{w:Nw}(h:dG n H S w)(e:aj V H J)(c:∀z,S z->¬V z):dG n J S w:=by
 obtain⟨B,C,L,T,rfl,m,l,x⟩:=h;exact⟨B,C,L,T,rfl,m.ext e Z,l,x⟩
theorem Ny:Fy (fun _=> -1)=fun _=>none:=by
 rfl
theorem Fz(cap:Int)(H:Hp):aD 98 [i64 cap] H fun v J=>ak (
  af H J/\((¬ (0<=cap/\cap<=65536)/\v= .tuple [.pointer none,i64 31].toArray)\/
   ((0<=cap/\cap<=65536)/\∃n S,v= .tuple [ptr n,i64 0].toArray/\dG n J S (iU cap)/\∀x,S x->H.size<=x))):=by
 refine aL KU ?_;refine vs ?_;refine(jX cap H).mono ?_;rintro _ o ⟨y,⟨m,rfl⟩| ⟨m,c,C,rfl,d,P⟩⟩
 ·refine vs ?_;exact⟨y,.inl ⟨m,rfl⟩⟩
 refine v1 alr ?_;refine(sr o m).mono ?_;rintro _ l ⟨t,q,rfl,e,r,K,N⟩;refine vs ?_;have A:=d.slt;have U:=y.size;have I:=r.size;have F:=aB e.own;have Q:=aB e.jY;have j:af l (l.gD.new 249 [ptr c,ptr t,.map (some l.size)]):=((aj.refl _ _).gD).new _ _;have f:aj (fun _=>False) l.gD (l.gD.new 249 [ptr c,ptr t,.map (some l.size)]):=bm;have u:=y.trans (r.trans j);refine⟨u,.inr ⟨m,l.size+1,(SB.mk (l.size+1) c t q l.size).S C,rfl,⟨⟨l.size+1,c,t,q,l.size⟩,C,_,fun _=> -1,rfl,
  ⟨?_,d.fresh (r.trans j),e.fresh j,by rw[Ny];exact(ke.new l).ext f (fun h=>h),?_,?_,?_⟩,tj.none rfl (iV cap) (x6 _) (Dy _) (fun _=>rfl),fun z=>Iff.rfl⟩,fun z p=>?_⟩⟩
 ·exact az (by simp only[jt])
 ·simp[iU]
 ·cases e;grind
 ·grind
 ·rcases p with p|rfl|rfl|rfl|rfl
  ·grind
  all_goals grind
theorem DO{n:Nat}{H:Hp}{B:SB}{C:Nat->Prop}{w:Nw}{L:List Lk}{T:Int->Int}{S:Nat->Prop}(m:eB H B C w L T)(l:tj (aH w) (aU w) (bk L) (bq L) T)(d:B.n=n)(y:∀z,S z↔B.S C z):aD 370 [ptr B.c] H fun v J=>ak (
  (w.hs.length=65537/\v=i64 0/\br (dG n) S H J w)\/(w.hs.length≠65537/\v=i64 w.hs.length/\br (dG n) S H J w.make)):=by
 subst d;refine(iP m.cells).mono ?_;rintro _ P (⟨r,rfl,rfl⟩| ⟨r,rfl,t,u,c,j⟩)
 ·exact .inl ⟨r,rfl,br.same ⟨B,C,L,T,rfl,m,l,y⟩ (aj.refl _ _)⟩
 obtain⟨p,q,o,f⟩:=m.out;have slt:=m.slt;have no:∀z,B.S (fun _=>False) z->¬C z->¬t z:=fun z x d h=>by
  rcases j z h with e|e
  ·grind
  ·have:=slt z (x.elim (fun h=>h.elim) .inr);omega
 refine .inr ⟨r,rfl,B.S t,⟨B,t,L,T,rfl,⟨c.own m.own p,u,m.cf.ext c q o,m.y7.ext c f,m.len,m.k9,no _ (.inr (.inl rfl)) p,no _ (.inr (.inr (.inl rfl))) q,no _ (.inr O) o,no _ (.inr O) f⟩,l,fun z=>Iff.rfl⟩,
  c.mono fun z _ h=>(y z).2 (.inl h),fun z x=>?_⟩
 rcases x with x|x
 ·rcases j z x with e|e
  ·exact .inl ((y z).2 (.inl e))
  omega
 ·exact .inl ((y z).2 (.inr x))
theorem Ag{n:Nat}{H:Hp}{S:Nat->Prop}{w:Nw}(h:dG n H S w)(g x k s:Int):aD 478 [ptr n,i64 g,i64 x,ms k s] H fun v J=>ak (
  (¬w.kC g x/\v= .bool false/\br (dG n) S H J w)\/(w.kC g x/\v= .bool true/\br (dG n) S H J (w.put x (g,k,s)))):=by
 obtain⟨B,C,L,T,rfl,m,l,t⟩:=h;have Q:∀z,C z->S z:=fun z h=>(t z).2 (.inl h);have s1:S B.tl:=(t _).2 (.inr O);have s2:S B.mp:=(t _).2 (.inr O);refine aL wk ?_;refine vs ?_;have q:af H (H.new 148 [i64 k,u64 s]):=bm;have b0:(H.new 148 [i64 k,u64 s]).own H.size=some [i64 k,u64 s]:=am _ _ _;have j:=m.fresh q;generalize H.new 148 [i64 k,u64 s]=H0 at*;have o:aj S H H0:=q.mono fun _ _ h=>h.elim;refine v2 (ae j.own) (ae b0) ?_;refine(jW j.cells g x k s).mono ?_;rintro _ H1 (⟨X,rfl,d,c⟩| ⟨u,rfl,d,c⟩)
 ·refine vs ?_;exact .inl ⟨X,rfl,br.same ⟨B,C,L,T,rfl,j.aE d c rfl,l,t⟩ (o.trans (c.mono Z))⟩
 obtain⟨M,f,E⟩:=id u;have P:=j.aE d c (by simp[Nw.put]);have hg:=M.1;have j1:=fun y=>dT f (g,k,s) y;have p:QR (aH (w.put x (g,k,s))) (aU (w.put x (g,k,s))) (bk L) (bq L) T g x:=by
  refine l.ins rfl (Int.not_lt.1 fun h=>E (bf.1 h)) O O Z Z (fun a b U G I D=>du f _ U G I D)
 refine vs ?_;refine(fk P g).mono ?_;rintro _ J ⟨rfl,e⟩;obtain rfl:=e.symm;refine vs ?_;refine(gW P p.mg).mono ?_;rintro _ H2 ⟨r,A,rfl,m2,N,_,K⟩;refine vs ?_;refine(fu m2 g r).mono ?_;rintro _ H3 ⟨m3,F⟩;refine vs ?_;exact .inr ⟨u,rfl,br.same ⟨B,C,A,_,rfl,m3,p.done N,t⟩ (((o.trans (c.mono fun z _ h=>Q z h)).trans (K.mono Z)).trans (F.mono Z))⟩
theorem Gt{w:Nw}{L:List Lk}{T:Int->Int}(l:tj (aH w) (aU w) (bk L) (bq L) T){g:Int}(h:w.first g x):T g=x:=by
 obtain⟨z,n,m⟩:=bh.1 h;have:=l.first (x:=x) O Z (ar w);grind
theorem uZ{n:Nat}{H:Hp}{S:Nat->Prop}{w:Nw}(h:dG n H S w)(g:Int):aD 480 [ptr n,i64 g] H fun v J=>ak (
  ((w.len g=0/\v= .tuple [i64 0,.bool false].toArray)\/∃x,w.first g x/\v= .tuple [i64 x,.bool true].toArray)/\J=H):=by
 obtain⟨B,C,L,T,rfl,m,l,p⟩:=h;refine aL Bh ?_;refine vs ?_;refine(fk m g).mono ?_;rintro _ J ⟨rfl,e⟩;obtain rfl:=e.symm;refine vs ?_;refine ai.dec (fun t=>?_) (fun t=>?_)<;>refine vs ?_
 ·refine⟨.inl ⟨?_,rfl⟩,rfl⟩;by_cases j:0<g
  ·refine alt fun y=>?_;obtain⟨x,z⟩:=so j y;have c:=(bh.1 z).2.1;have:=Gt l z;have:=(aI (w:=w) (x:=x) O).1;omega
  ·exact Nw.Fg.2 (.inl O)
 ·obtain⟨r,c,d⟩:=l.t1 g t;have y:w.len g≠0:=fun e=>(nX c).1 e _ r;obtain⟨x,z⟩:=so c y;rw[Gt l z];exact⟨.inr ⟨x,z,rfl⟩,rfl⟩
theorem wD{n:Nat}{H:Hp}{S:Nat->Prop}{w:Nw}(h:dG n H S w)(x k s:Int):aD 475 [ptr n,i64 x,ms k s] H fun v J=>ak (
  (¬w.dv x k s/\v= .bool false/\br (dG n) S H J w)\/(w.dv x k s/\v= .bool true/\∃y,w.cs[x.toNat]? =some y/\br (dG n) S H J (w.put x (y.1,k,s)))):=by
 obtain⟨B,C,L,T,rfl,m,l,c⟩:=h;have hC:∀z,C z->S z:=fun z h=>(c z).2 (.inl h);have s1:S B.tl:=(c _).2 (.inr O);have s2:S B.mp:=(c _).2 (.inr O);refine aL rZ ?_;refine vs ?_;have E:af H (H.new 148 [i64 k,u64 s]):=bm;have b0:(H.new 148 [i64 k,u64 s]).own H.size=some [i64 k,u64 s]:=am _ _ _;have q:=m.fresh E;generalize H.new 148 [i64 k,u64 s]=H0 at*;have X:aj S H H0:=E.mono fun _ _ h=>h.elim;refine v2 (ae q.own) (ae b0) ?_;refine(gJ q.cells x k s).mono ?_;rintro _ H1 (⟨K,rfl,Q,j⟩| ⟨d,rfl,y,p,lU,Q,j⟩)
 ·refine vs ?_;exact .inl ⟨K,rfl,br.same ⟨B,C,L,T,rfl,q.ext j (fun _ _ h=>h),l,c⟩ (X.trans (j.mono fun _ _ h=>h.elim))⟩
 have tC:(w.put x (y.1,k,s)).cs.length=w.cs.length:=by simp[Nw.put]
 have F:=q.aE Q j tC;have x9:w.dv x k s:=⟨d,Z⟩;have hx:0<=x/\x<w.cs.length:=⟨d.1,Z⟩;have hwx:aH w x=y.1:=iO d.1 p;have FZ:=bf.2 d;have hw:aH (w.put x (y.1,k,s))=aH w:=by
  funext z;rw[dT hx];split
  ·grind
  ·rfl
 have HC:cu (w.put x (y.1,k,s)).cs x:=bf.1 (by simp_all);refine v1 (ae F.own) ?_;refine(bC F.cells x).mono ?_;rintro _ H2 (⟨K,_,_⟩| ⟨_,rfl,c2,I⟩)
 ·exact absurd HC K
 have o:=F.aE c2 I rfl;have yZ:aj S H H2:=(X.trans (j.mono fun z _ h=>hC z h)).trans (I.mono fun z _ h=>hC z h);have D:∀a b,0<aH w a->0<aH w b->a≠x->b≠x->aU (w.put x (y.1,k,s)) a b=aU w a b:=fun a b ha P wA A=>du hx _ ha P wA A;have M:∀b,0<aH w b->b≠x->aU w x b=true->aU (w.put x (y.1,k,s)) x b=true:=fun b P A h=>xV d p lU P A h;refine v1 (ae o.own) ?_;refine(cK o.cf (x:=x) (fun t=>by have:=xX.up l.bt t;have:=o.len;omega)).mono ?_;rintro _ H3 ⟨rfl,f,t3,l3,k3,u3,G⟩;have N:=o.dU t3 G l3;have U:aj S H H3:=yZ.trans (G.mono Z);unfold gz;by_cases t:bq L x= -1
 ·rw[if_pos t];refine vs ?_;have kk:bk f=bk L:=by rw[k3];unfold iy;grind
  have uu:bq f=bq L:=by
   rw[u3];funext z;unfold df aM;split
   ·grind
   ·rfl
  refine .inr ⟨x9,rfl,y,p,br.same ⟨B,C,f,T,rfl,N,?_,c⟩ U⟩;rw[hw,kk,uu];exact l.QS FZ t D M (ar w)
 rw[if_neg t];refine vs ?_;have u:=l.low FZ t D M (ar w);rw[<-hw,<-k3,<-u3]at u;refine(fk N _).mono ?_;rintro _ J ⟨rfl,e⟩;obtain rfl:=e.symm;refine vs ?_;refine(gW N u.mg).mono ?_;rintro _ H4 ⟨r,L4,rfl,m4,g4,_,e4⟩;refine vs ?_;refine(fu m4 _ r).mono ?_;rintro _ H5 ⟨m5,e5⟩;refine vs ?_;exact .inr ⟨x9,rfl,y,p,br.same ⟨B,C,L4,_,rfl,m5,u.done g4,c⟩ ((U.trans (e4.mono Z)).trans (e5.mono Z))⟩
theorem DP{n:Nat}{H:Hp}{S:Nat->Prop}{w:Nw}(h:dG n H S w)(a b:Int):aD 479 [ptr n,i64 a,i64 b] H fun v J=>ak (
  (¬ (w.has a/\w.has b/\a≠b)/\v= .bool false/\br (dG n) S H J w)\/((w.has a/\w.has b/\a≠b)/\v= .bool true/\br (dG n) S H J (w.join a b))):=by
 obtain⟨B,C,L,T,rfl,m,t,x⟩:=id h;have K:∀z,C z->S z:=fun z h=>(x z).2 (.inl h);have s1:S B.tl:=(x _).2 (.inr O);have s2:S B.mp:=(x _).2 (.inr O);refine aL zv ?_;refine v1 (ae m.own) ?_;refine(iQ m.cells a b).mono ?_;rintro _ I (⟨F,rfl,rfl⟩| ⟨d,rfl,o,c⟩)
 ·refine vs ?_;exact .inl ⟨F,rfl,br.same h (aj.refl _ _)⟩
 obtain⟨⟨E,X⟩,⟨hb,Nb⟩,y⟩:=id d;have l:=m.aE o c (by simp[Nw.join]);have j:=lN (w:=w) (a:=a) (b:=b) O;have p:=t.join (hm':=aH (w.join a b)) rfl y O j;rw[<-ik w a b]at p t;refine vs ?_;refine(fk l a).mono ?_;rintro _ J ⟨rfl,e⟩;obtain rfl:=e.symm;refine vs ?_;refine(fk l b).mono ?_;rintro _ J ⟨rfl,e⟩;obtain rfl:=e.symm;refine vs ?_;refine(gW l p).mono ?_;rintro _ G ⟨r,q,rfl,N,A,_,f⟩;refine vs ?_;refine(fu N a r).mono ?_;rintro _ D ⟨Q,u⟩;refine vs ?_;refine(fu Q b (-1)).mono ?_;rintro _ M ⟨U,P⟩;refine vs ?_;exact .inr ⟨d,rfl,br.same ⟨B,C,q,_,rfl,U,t.GK rfl y O O j A,x⟩ ((((c.mono fun z _ h=>K z h).trans (f.mono Z)).trans (u.mono Z)).trans (P.mono Z))⟩
theorem om{n:Nat}{H:Hp}{S:Nat->Prop}{w:Nw}(h:dG n H S w)(x:Int):aD 476 [ptr n,i64 x] H fun v J=>ak (
  (¬cu w.cs x/\v= .bool false/\br (dG n) S H J w)\/(cu w.cs x/\v= .bool true/\br (dG n) S H J (w.put x (0,0,0)))):=by
 obtain⟨B,C,L,T,rfl,m,t,N⟩:=id h;have E:∀z,C z->S z:=fun z h=>(N z).2 (.inl h);have s1:S B.tl:=(N _).2 (.inr O);have s2:S B.mp:=(N _).2 (.inr O);refine aL wj ?_;refine v1 (ae m.own) ?_;refine(bC m.cells x).mono ?_;rintro _ H1 (⟨o,rfl,rfl⟩| ⟨q,rfl,c1,e1⟩)
 ·refine vs ?_;exact .inl ⟨o,rfl,br.same h (aj.refl _ _)⟩
 have G:=m.aE c1 e1 rfl;have F:=bf.2 q;obtain⟨j4,ED,_⟩:=aI F;have QJ:x≠ -1:=O;have ls:=ar w;obtain⟨⟨d1,d2,d3⟩,⟨d4,d5⟩,d6⟩:=m.k9;refine vs ?_;refine di.intro (fun J=>J.own B.n=some [ptr B.c,ptr B.t,.map (some B.mp)]) G.own ?_;refine vs ?_;refine bG.intro (ptr B.t) (fun J hI=>by refine v1 (ae hI) ?_;trivial) ?_;refine v1 (ae G.own) ?_;refine And.intro G.own ?_;refine vs ?_;obtain⟨a1,b1,ea1⟩:=cL (bk L x false);refine(kA G.cf x).mono ?_;rintro _ J ⟨rfl,e⟩;obtain rfl:=e.symm;rw[ea1];refine And.intro G.own ?_;refine vs ?_;refine(kE G t.bt ea1).mono ?_;rintro _ H2 ⟨rfl,L2,m2,k2,u2,e2⟩;refine And.intro m2.own ?_;refine vs ?_;have bt2:xX w L2:=by
  show Bt _ _ _ _;rw[k2,u2];exact t.bt.QQ _
 have er:bk L2 x true=bk L x true:=by
  rw[k2,nw t.bt,if_neg];rintro⟨h1,h2⟩;exact h1 (t.bt.two x h2.symm)
 obtain⟨a2,b2,XO⟩:=cL (bk L2 x true);refine(cC m2.cf x).mono ?_;rintro _ J ⟨rfl,e⟩;obtain rfl:=e.symm;rw[XO];refine And.intro m2.own ?_;refine vs ?_;refine(kE m2 bt2 XO).mono ?_;rintro _ H3 ⟨rfl,L3,m3,k3,u3,e3⟩;refine And.intro m3.own ?_;rw[er]at k3 u3;rw[k2,u2]at k3;rw[u2]at u3;obtain⟨w1,w2,w3,w4⟩:=t.bt.bare x;have K:∀c,bk L x c= -1\/(aH w (bk L x c)=aH w x/\bq L3 (bk L x c)= -1):=fun c=>by
  by_cases K:bk L x c= -1
  ·omega
  ·refine .inr ⟨(t.bt.home K).2.2.1,?_⟩;rw[u3,w4,if_pos];cases c
   ·omega
   omega
 rw[<-k3,<-u3]at w1;have mg:=Mg.start w1 F (K false) (K true) (fun e=>t.bt.two x e);rw[er];refine vs ?_;refine(gW m3 mg).mono ?_;rintro _ H4 ⟨r,I,rfl,j,g4,f4,e4⟩;refine And.intro j.own ?_;refine vs ?_;have f4:=f4 x (oE.start (fun K=>(t.bt.home K).2.2.2.2) (fun K=>(t.bt.home K).2.2.2.2));have d:=t.SC ls F k3 u3 g4 f4;have Fl:aj S H H4:=(((e1.mono fun z _ h=>E z h).trans (e2.mono Z)).trans (e3.mono Z)).trans (e4.mono Z);have j1:=fun y=>dT (w:=w) ⟨j4,ED⟩ (0,0,0) y;have p0:aH (w.put x (0,0,0)) (-1)=0:=rfl;have p1:aH (w.put x (0,0,0)) x=0:=Z;have p2:∀y,y≠x->aH (w.put x (0,0,0)) y=aH w y:=Z;have el:∀a b,0<aH w a->0<aH w b->a≠x->b≠x->aU (w.put x (0,0,0)) a b=aU w a b:=fun a b ha hb wA zS=>du ⟨j4,ED⟩ _ ha hb wA zS;have tC:(w.put x (0,0,0)).cs.length=w.cs.length:=by simp[Nw.put]
 refine v1 (ae j.own) ?_;refine(mZ j.cf x).mono ?_;rintro _ J ⟨rfl,e⟩;obtain rfl:=e.symm;rw[d.ux];unfold gz;by_cases f:bq L x= -1
 ·rw[if_pos f];refine vs ?_;refine(fu j _ r).mono ?_;rintro _ H5 ⟨l,e5⟩;refine v1 (ae l.own) ?_;refine(bZ l.cells x).mono ?_;rintro _ H6 (⟨o,_,_⟩| ⟨_,rfl,c6,P⟩)
  ·exact absurd q o
  have u:=l.aE c6 P tC;refine vs ?_;exact .inr ⟨q,rfl,br.same ⟨B,C,I,_,rfl,u,d.y7 t F f p0 p1 p2 el,N⟩ ((Fl.trans (e5.mono Z)).trans (P.mono fun z _ h=>E z h))⟩
 ·rw[if_neg f];have TN:=xX.up t.bt f;obtain⟨w5,w6⟩:=d.cut t ls F f;obtain⟨a3,b3,Wi⟩:=cL (bk I (bq L x) true);refine v1 (ae j.own) ?_;refine(cC j.cf (bq L x)).mono ?_;rintro _ J ⟨rfl,e⟩;obtain rfl:=e.symm;rw[Wi];refine v1 (ae j.own) ?_;refine(cK j.cf (x:=x) (fun hu2=>by have:=xX.up d.bt hu2;have:=j.len;omega)).mono ?_;rintro _ H5 ⟨rfl,L5,t5,l5,k5,u5,e5⟩;have l:=j.dU t5 e5 l5;refine vs ?_;have SU:=Fl.trans (e5.mono Z);refine ai.dec (fun g=>?_) (fun g=>?_)<;>refine vs ?_
  ·refine v1 (ae l.own) ?_;refine(bZ l.cells x).mono ?_;rintro _ H8 (⟨o,_,_⟩| ⟨_,rfl,M,A⟩)
   ·exact absurd q o
   have m8:=l.aE M A tC;refine vs ?_;have D:xX w L5:=by
    show Bt _ _ _ _;rw[k5,u5];exact w5 g
   refine .inr ⟨q,rfl,br.same ⟨B,C,L5,T,rfl,m8,?_,N⟩ (SU.trans (A.mono fun z _ h=>E z h))⟩;exact d.below t ls (n:=w.cs.length) (fun y X=>by obtain⟨y0,y1,_⟩:=aI X;omega) F f D Z p0 p1 p2 el
  ·obtain⟨y1,y2,y3,y4⟩:=w6 g;obtain⟨r1,r2,r3,r4⟩:=d.rx g;obtain⟨q1,q2,_⟩:=aI (w:=w) (x:=r) O;have hl5:=l.len;rw[d.kp _ true rfl f]at Wi;rcases JO Wi with ⟨rfl,h2⟩| ⟨rfl,rfl,h3⟩
   ·have hsd:false=(bk L (bq L x) true==x):=by
     rw[h2];exact Z
    refine v1 (ae l.own) ?_;refine(fj l.cf (p:=bq L x) (x:=r) (c:=false) O ⟨q1,O⟩ y3 (by simp_all) (by rw[k5,hsd];exact y1)).mono ?_;rintro _ H6 ⟨rfl,L6,t6,l6,Q,U,P⟩;have u:=l.dU t6 P l6;have Oi:=SU.trans (P.mono Z);rw[k5]at Q;rw[u5]at U;rw[hsd]at Q;have D:xX w L6:=by
     show Bt _ _ _ _;rw[Q,U];exact y4
    have u6:bq L6=if r= -1 then df (bq I) x else aM (df (bq I) x) r (bq L x):=by rw[if_neg g];exact U
    refine v1 (ae u.own) ?_;refine(bZ u.cells x).mono ?_;rintro _ H8 (⟨o,_,_⟩| ⟨_,rfl,M,A⟩)
    ·exact absurd q o
    have m8:=u.aE M A tC;refine vs ?_;refine .inr ⟨q,rfl,br.same ⟨B,C,L6,T,rfl,m8,?_,N⟩ (Oi.trans (A.mono fun z _ h=>E z h))⟩;exact d.below t ls (n:=w.cs.length) (fun y X=>by obtain⟨y0,y1,_⟩:=aI X;omega) F f D u6 p0 p1 p2 el
   ·have hsd:decide (bk L (bq L x) true=x)=(bk L (bq L x) true==x):=by rw[Bool.eq_iff_iff];simp
    refine v1 (ae l.own) ?_;refine(fj l.cf (p:=bq L x) (x:=r) (c:=decide (bk L (bq L x) true=x)) O ⟨q1,O⟩ y3 (by simp_all) (by simp_all)).mono ?_;rintro _ H6 ⟨rfl,L6,t6,l6,Q,U,P⟩;have u:=l.dU t6 P l6;have Oi:=SU.trans (P.mono Z);rw[k5]at Q;rw[u5]at U;rw[hsd]at Q;have D:xX w L6:=by
     show Bt _ _ _ _;rw[Q,U];exact y4
    have u6:bq L6=if r= -1 then df (bq I) x else aM (df (bq I) x) r (bq L x):=by rw[if_neg g];exact U
    refine v1 (ae u.own) ?_;refine(bZ u.cells x).mono ?_;rintro _ H8 (⟨o,_,_⟩| ⟨_,rfl,M,A⟩)
    ·exact absurd q o
    have m8:=u.aE M A tC;refine vs ?_;refine .inr ⟨q,rfl,br.same ⟨B,C,L6,T,rfl,m8,?_,N⟩ (Oi.trans (A.mono fun z _ h=>E z h))⟩;exact d.below t ls (n:=w.cs.length) (fun y X=>by obtain⟨y0,y1,_⟩:=aI X;omega) F f D u6 p0 p1 p2 el
theorem yq{n:Nat}{H:Hp}{S:Nat->Prop}{w:Nw}(h:dG n H S w)(g:Int):aD 477 [ptr n,i64 g] H fun v J=>ak (
  (w.len g=0/\v= .tuple [i64 0,.bool false].toArray/\br (dG n) S H J w)\/(∃x,w.first g x/\v= .tuple [i64 x,.bool true].toArray/\br (dG n) S H J (w.put x (0,0,0)))):=by
 refine aL ur ?_;refine vs ?_;refine(uZ h g).mono ?_;rintro _ _ ⟨⟨l,rfl⟩| ⟨x,z,rfl⟩,rfl⟩
 ·refine vs ?_;exact .inl ⟨l,rfl,br.same h (aj.refl _ _)⟩
 ·refine vs ?_;refine(om h x).mono ?_;rintro _ e (⟨c,_,_⟩| ⟨_,rfl,m⟩)
  ·exact absurd (bf.1 (by have:=bh.1 z;omega)) c
  refine vs ?_;exact .inr ⟨x,z,rfl,m⟩
theorem Nz(n:Nat):qq (.iface 185 (ptr n)) (dG n) where
 slt h:=h.slt
 ext h e hd:=h.ext e hd
 cells:=by
  rintro H S w ⟨B,C,L,T,rfl,m,l,y⟩;exact⟨B.c,C,m.cells⟩
 has:=by
  rintro H S w g ⟨B,C,L,T,rfl,m,l,y⟩;exact⟨_,_,353,ptr B.c,rfl,cz (off:=0) Y (ae m.own) rfl,(ii m.cells g).mono fun v J c=>c⟩
 make:=by
  rintro H S w ⟨B,C,L,T,rfl,m,l,y⟩;exact⟨_,_,370,ptr B.c,rfl,cz (off:=0) Y (ae m.own) rfl,(DO m l rfl y).mono fun v J c=>c⟩
 insert:=by
  intro H S w g x k s h;exact⟨_,_,478,ptr n,rfl,aZ Y,(Ag h g x k s).mono fun v J c=>c⟩
 min:=by
  intro H S w g h;refine⟨_,_,480,ptr n,rfl,aZ Y,(uZ h g).mono ?_⟩;rintro v J ⟨⟨t,rfl⟩| ⟨x,t,rfl⟩,rfl⟩
  ·exact .inl ⟨t,rfl,br.same h (aj.refl _ _)⟩
  ·exact .inr ⟨x,t,rfl,br.same h (aj.refl _ _)⟩
 extract:=by
  intro H S w g h;exact⟨_,_,477,ptr n,rfl,aZ Y,(yq h g).mono fun v J c=>c⟩
 jZ:=by
  intro H S w x k s h;exact⟨_,_,475,ptr n,rfl,aZ Y,(wD h x k s).mono fun v J c=>c⟩
 entry:=by
  rintro H S w x ⟨B,C,L,T,rfl,m,l,y⟩;refine⟨_,_,351,ptr B.c,rfl,cz (off:=0) Y (ae m.own) rfl,(gI m.cells x).mono ?_⟩;rintro v J ⟨r,f,d⟩;exact⟨⟨B,C,L,T,rfl,m.fresh f,l,y⟩,f,d⟩
 len:=by
  rintro H S w g ⟨B,C,L,T,rfl,m,l,y⟩;exact⟨_,_,356,ptr B.c,rfl,cz (off:=0) Y (ae m.own) rfl,(eU m.cells g).mono fun v J c=>c⟩
 home:=by
  rintro H S w x h;obtain⟨B,C,L,T,rfl,m,l,y⟩:=id h;refine⟨_,_,354,ptr B.c,rfl,cz (off:=0) Y (ae m.own) rfl,(bC m.cells x).mono ?_⟩;rintro v J (⟨t,rfl,rfl⟩| ⟨t,rfl,r,j⟩)
  ·exact .inl ⟨t,rfl,br.same h (aj.refl _ _)⟩
  ·exact .inr ⟨t,rfl,br.same ⟨B,C,L,T,rfl,m.aE r j rfl,l,y⟩ (j.mono fun z _ p=>(y z).2 (.inl p))⟩
 delete:=by
  intro H S w x h;exact⟨_,_,476,ptr n,rfl,aZ Y,(om h x).mono fun v J c=>c⟩
 vl:=by
  intro H S w a b h;exact⟨_,_,479,ptr n,rfl,aZ Y,(DP h a b).mono fun v J c=>c⟩
structure PB where
 n:Nat
 c:Nat
 tb:Nat
 tp:Nat
structure bS(H:Hp)(B:PB)(C:Nat->Prop)(w:Nw)(L:List Lk)(tops:List Int):Prop where
 own:∃tv,H.own B.n=some [ptr B.c,.slice (some ⟨B.tb,0,none⟩) L.length L.length,tv]/\Sl H 1 tv tops.length (tops.map i64) (some B.tp)
 cells:CQ H B.c C w
 fv:H.own B.tb=some (aP L)
 len:L.length=w.cs.length
 k9:B.n≠B.tb/\B.n≠B.tp/\B.tb≠B.tp
 out:¬C B.n/\¬C B.tb/\¬C B.tp
def PB.S(B:PB)(C:Nat->Prop)(z:Nat):Prop:=C z\/z=B.n\/z=B.tb\/z=B.tp
section
variable {H J : Hp} {B : PB} {C V : Nat → Prop} {w w' : Nw} {L L' : List Lk} {tops : List Int}
theorem bS.slt(h:bS H B C w L tops):∀z,B.S C z->z<H.size:=by
 obtain⟨m,x,l⟩:=h.own;rintro z (n|rfl|rfl|rfl)
 ·exact h.cells.slt z n
 ·exact aB x
 ·exact aB h.fv
 ·exact l.lt
theorem bS.ext(h:bS H B C w L tops)(e:aj V H J)(l:∀z,B.S C z->¬V z):bS J B C w L tops:=by
 obtain⟨y,m,c⟩:=h.own;exact⟨⟨y,e.own m (l _ (.inr (.inl rfl))),c.ext e (fun b n=>by injection n with n;exact n▸l _ (.inr (.inr (.inr rfl))))⟩,h.cells.ext e (fun x v=>l x (.inl v)),
  e.own h.fv (l _ (.inr (.inr (.inl rfl)))),h.len,h.k9,h.out⟩
theorem bS.fresh(h:bS H B C w L tops)(e:af H J):bS J B C w L tops:=h.ext e fun _ _ h=>h
theorem bS.aE(h:bS H B C w L tops)(x:CQ J B.c C w')(e:aj C H J)(n:w'.cs.length=w.cs.length):bS J B C w' L tops:=by
 obtain⟨v,z,l⟩:=h.own;obtain⟨m,c,y⟩:=h.out;exact⟨⟨v,e.own z m,l.ext e Z⟩,x,e.own h.fv c,by rw[n];exact h.len,h.k9,h.out⟩
theorem bS.Mw(h:bS H B C w L tops)(x:L'.length=L.length):bS (H.wr B.tb (aP L')) B C w L' tops/\aj (fun z=>z=B.tb) H (H.wr B.tb (aP L')):=by
 obtain⟨c,n,m⟩:=h.own;obtain⟨t,r,j⟩:=h.out;obtain⟨l,v,y⟩:=h.k9;have e:aj (fun z=>z=B.tb) H (H.wr B.tb (aP L')):=(aj.refl (fun z=>z=B.tb) _).wr (fun _=>rfl) _;exact⟨⟨⟨c,by rw[x];exact e.own n l,m.ext e Z⟩,h.cells.ext e Z,ah h.fv,by rw[x];exact h.len,h.k9,h.out⟩,e⟩
theorem bS.ed(h:bS H B C w L tops):∃c l,H.own B.n=some [ptr B.c,.slice (some ⟨B.tb,0,none⟩) L.length L.length,.slice (some ⟨B.tp,0,none⟩) tops.length c]/\H.own B.tp=some l/\tops.length<=c/\c<=l.length/\l.take tops.length=tops.map i64:=by
 obtain⟨e,x,_,l,c,rfl,z,n,m,v⟩:=h.own;grind
theorem bS.cS(h:bS H B C w L tops){l:List Value}(n:H.own B.tp=some l){i:Nat}(m:tops[i]? =some x):l[i]? =some (i64 x):=by
 obtain⟨c,l',_,z,_,_,v⟩:=h.ed;rw[n]at z;injection z with z;subst z;have e:(tops.map i64)[i]? =some (i64 x):=by rw[alz,m];rfl
 grind
theorem bS.fH(h:bS H B C w L tops){l:List Value}(n:H.own B.tp=some l)(i:Nat)(v:Int):bS (H.wr B.tp (l.set i (i64 v))) B C w L (tops.set i v)/\aj (fun z=>z=B.tp) H (H.wr B.tp (l.set i (i64 v))):=by
 obtain⟨c,l',t,x,d,p,r⟩:=h.ed;rw[n]at x;injection x with x;subst x;obtain⟨q,o,f⟩:=h.out;obtain⟨j,m,y⟩:=h.k9;have e:aj (fun z=>z=B.tp) H (H.wr B.tp (l.set i (i64 v))):=(aj.refl (fun z=>z=B.tp) _).wr (fun _=>rfl) _;refine⟨⟨⟨_,e.own t m,?_⟩,h.cells.ext e Z,e.own h.fv y,h.len,h.k9,h.out⟩,e⟩;refine⟨by simp,l.set i (i64 v),c,Z,ah n,Z,Z,?_⟩;rw[alb,ala,tq,r,alD]
theorem bS.rd(h:bS H B C w L tops)(l:0<=x/\x<w.cs.length):x.toNat*3+2< (aP L).length/\(aP L)[x.toNat*3]? =some (i64 (bk L x false))/\(aP L)[x.toNat*3+1]? =some (i64 (bk L x true))/\(aP L)[x.toNat*3+2]? =some (i64 (bq L x)):=by
 have e:=h.len;have v:=ij L;obtain⟨y,z⟩:∃y,L[x.toNat]? =some y:=⟨_,ak9 O⟩;obtain⟨n,m,c⟩:=Mn z;rw[pD l.1 z,pD l.1 z,sp l.1 z];exact⟨O,n,m,c⟩
theorem bS.Lq(h:bS H B C w L tops)(n:0<=x/\x<w.cs.length)(v:Int):∃L',bk L'=eK (bk L) x false v/\bq L'=bq L/\bS (H.wr B.tb ((aP L).set (x.toNat*3) (i64 v))) B C w L' tops/\aj (fun z=>z=B.tb) H (H.wr B.tb ((aP L).set (x.toNat*3) (i64 v))):=by
 have m:=h.len;obtain⟨y,l⟩:∃y,L[x.toNat]? =some y:=⟨_,ak9 O⟩;refine⟨L.set x.toNat (y.fR false v),pE n.1 l false v,pF n.1 l false v,?_⟩;have:=tB l false v;rw[show x.toNat*3+false.toNat=x.toNat*3 from rfl]at this;rw[this];exact h.Mw Z
theorem bS.Lt(h:bS H B C w L tops)(n:0<=x/\x<w.cs.length)(v:Int):∃L',bk L'=eK (bk L) x true v/\bq L'=bq L/\bS (H.wr B.tb ((aP L).set (x.toNat*3+1) (i64 v))) B C w L' tops/\aj (fun z=>z=B.tb) H (H.wr B.tb ((aP L).set (x.toNat*3+1) (i64 v))):=by
 have m:=h.len;obtain⟨y,l⟩:∃y,L[x.toNat]? =some y:=⟨_,ak9 O⟩;refine⟨L.set x.toNat (y.fR true v),pE n.1 l true v,pF n.1 l true v,?_⟩;have:=tB l true v;rw[show x.toNat*3+true.toNat=x.toNat*3+1 from rfl]at this;rw[this];exact h.Mw Z
theorem bS.HL(h:bS H B C w L tops)(n:0<=x/\x<w.cs.length)(v:Int):∃L',bk L'=bk L/\bq L'=aM (bq L) x v/\bS (H.wr B.tb ((aP L).set (x.toNat*3+2) (i64 v))) B C w L' tops/\aj (fun z=>z=B.tb) H (H.wr B.tb ((aP L).set (x.toNat*3+2) (i64 v))):=by
 have m:=h.len;obtain⟨y,l⟩:∃y,L[x.toNat]? =some y:=⟨_,ak9 O⟩;refine⟨L.set x.toNat ⟨y.a,y.b,v⟩,zN n.1 l v,zO n.1 l v,?_⟩;rw[Ds l v];exact h.Mw Z
variable {g : Int} {R : Int → Prop} {GG ch : Int → List Int} {au : Int → Int} {W : List Int} {a b : Int}
theorem cM(m:bS H B C w L tops)(n:w8 (aH w) (aU w) g R GG ch au (ws [a,b]++W))(pl:GI (bk L) (bq L) ch au):
  aD 430 [ptr B.n,i64 a,i64 b] H fun v J=>ak (∃r L' U dh,v=i64 r/\(r= -1->a= -1/\b= -1)/\bS J B C w L' tops/\w8 (aH w) (aU w) g R GG U dh (ws [r]++W)/\GI (bk L') (bq L') U dh/\aj (fun z=>C z\/z=B.tb) H J):=by
 refine aL uf ?_;refine vs ?_;rw[mv,ep a,ep b]at n;refine ai.dec (fun A=>?_) (fun A=>?_)<;>refine vs ?_
 ·rw[if_pos A]at n;rw[<-ep b]at n;exact⟨b,L,ch,au,rfl,O,m,n,pl,aj.refl _ _⟩
 rw[if_neg A]at n;refine ai.dec (fun K=>?_) (fun K=>?_)<;>refine vs ?_
 ·rw[if_pos K]at n;exact⟨a,L,ch,au,rfl,O,m,by grind [ep],pl,aj.refl _ _⟩
 rw[if_neg K]at n;obtain⟨tv,o1,_⟩:=m.own;refine v1 (ae o1) ?_;refine(cv m.cells b a).mono ?_;rintro _ H2 ⟨rfl,c2,I⟩;have y:=m.aE c2 I rfl;have c:w8 (aH w) (aU w) g R GG ch au (a::b::W):=n;obtain⟨a1,a2,a3⟩:=c.wm a (by simp);obtain⟨b1,b2,b3⟩:=c.wm b (by simp);have Fh:=fQ (w:=w) (a:=b) (b:=a) (by rw[b2];exact c.g0) (by rw[a2];exact c.g0);rw[Fh];have ny:a≠b:=fun e=>by cases c;grind
 obtain⟨p,q,M,hl,j⟩:∃p q,(if aU w b a=true then(p=b/\q=a)else(p=a/\q=b))/\aU w p q=true/\w8 (aH w) (aU w) g R GG ch au (p::q::W):=by
  cases D:aU w b a
  ·exact⟨a,b,by simp,by grind [aU,Nw.key,Nw.seq],c⟩
  grind [w8.perm]
 obtain⟨p1,p2,p3⟩:=j.wm p (by simp);obtain⟨q1,q2,q3⟩:=j.wm q (by simp);have acv:p≠q:=Z;have pw3:=j.link hl;have Ws:=pl.link j.pr p1 q3 acv;obtain⟨d,o,_⟩:=aI (w:=w) (x:=p) (by rw[p2];exact c.g0);obtain⟨f,u,_⟩:=aI (w:=w) (x:=q) (by rw[q2];exact c.g0);have hold:bk L p false≠ -1->0<=bk L p false/\bk L p false<w.cs.length:=fun h=>by
  have h1:bk L p false∈ch p:=by rw[pl.hd]at h ⊢;exact eM h
  have h2:=(j.pr.dn p _ h1).2.2.2.1;obtain⟨z0,z1,_⟩:=aI h2;omega
 have ec:=y.len;have ws1:ws [p]=[p]:=by rw[ep,if_neg p1]
 cases D:aU w b a<;>simp only[D,if_true,if_false,al4]at M<;>obtain⟨rfl,rfl⟩:=M<;>refine vs ?_;all_goals
  obtain⟨Nh,E,_⟩:=y.own;obtain⟨r0,r1,r2,r3⟩:=y.rd ⟨d,o⟩;refine v1 (ae E) ?_;refine⟨O,?_⟩;refine v4 (ae y.fv) ak7 Nat.add_zero r1 ?_;refine v1 (ae E) ?_;refine⟨O,?_⟩;obtain⟨L3,k3,u3,F,e3⟩:=y.Lt ⟨f,u⟩ (bk L p false);obtain⟨s0,_⟩:=y.rd ⟨f,u⟩;refine v3 y.fv ak7 Nat.add_zero ?_;refine⟨O,?_⟩;refine vs ?_;generalize H2.wr B.tb ((aP L).set (q.toNat*3+1) (i64 (bk L p false)))=H3 at*;obtain⟨L4,k4,u4,l,e4⟩:=F.HL ⟨f,u⟩ p;obtain⟨s4,_⟩:=F.rd ⟨f,u⟩;refine⟨O,?_⟩;refine v3 F.fv ak7 Nat.add_zero ?_;refine⟨O,?_⟩;refine vs ?_;generalize H3.wr B.tb ((aP L3).set (q.toNat*3+2) (i64 p))=H4 at*;have G:aj (fun z=>C z\/z=B.tb) H H4:=((I.mono fun z _ h=>.inl h).trans (e3.mono fun z _ h=>.inr h)).trans (e4.mono fun z _ h=>.inr h);have Wq:=l.len;refine ai.dec (fun go=>?_) (fun go=>?_)<;>refine vs ?_
  ·obtain⟨Wh,N,_⟩:=l.own;obtain⟨Q,k5,u5,t,P⟩:=l.Lq ⟨d,o⟩ q;obtain⟨s5,_⟩:=l.rd ⟨d,o⟩;refine v1 (ae N) ?_;refine⟨O,?_⟩;refine v3 l.fv ak7 Nat.add_zero ?_;refine⟨O,?_⟩;refine vs ?_;refine⟨p,Q,_,_,rfl,O,t,by rw[ws1];exact pw3,?_,G.trans (P.mono fun z _ h=>.inr h)⟩;grind
  ·obtain⟨Wh,N,_⟩:=l.own;obtain⟨X,oy⟩:=hold go;obtain⟨Q,k5,u5,t,P⟩:=l.HL ⟨X,oy⟩ q;obtain⟨s5,_⟩:=l.rd ⟨X,oy⟩;refine v1 (ae N) ?_;refine⟨O,?_⟩;refine v3 l.fv ak7 Nat.add_zero ?_;refine⟨O,?_⟩;refine vs ?_;generalize H4.wr B.tb ((aP L4).set ((bk L p false).toNat*3+2) (i64 q))=H5 at*;obtain⟨tv5,o5,_⟩:=t.own;have hl5:=t.len;obtain⟨L6,k6,u6,m6,e6⟩:=t.Lq ⟨d,o⟩ q;obtain⟨s6,_⟩:=t.rd ⟨d,o⟩;refine v1 (ae o5) ?_;refine⟨O,?_⟩;refine v3 t.fv ak7 Nat.add_zero ?_;refine⟨O,?_⟩;refine vs ?_;refine⟨p,L6,_,_,rfl,O,m6,by rw[ws1];exact pw3,?_,(G.trans (P.mono fun z _ h=>.inr h)).trans (e6.mono fun z _ h=>.inr h)⟩;grind
theorem oq(m:bS H B C w L tops){lt:Int->Int->Bool}(hs:bA lt)(q:Pr (aH w) lt ch au)(pl:GI (bk L) (bq L) ch au){p:Int}{l1 l2:List Int}(hp:ch p=l1++x::l2):
  aD 429 [ptr B.n,i64 x] H fun v J=>ak (∃L',bS J B C w L' tops/\GI (bk L') (bq L') (ay ch p (l1++l2)) (aM au x (-1))/\aj (fun z=>z=B.tb) H J):=by
 obtain⟨f1,f2,f7,f3,f4,f5,f6⟩:=pl.off q hs hp;have hx:=(q.dn p x Z).2.2.2.1;obtain⟨n,c,_⟩:=aI hx;obtain⟨y0,y1,_⟩:=aI (w:=w) (x:=bq L x) O;obtain⟨tv,r,_⟩:=m.own;obtain⟨r0,r1,r2,r3⟩:=m.rd ⟨n,c⟩;obtain⟨t0,t1,t2,t3⟩:=m.rd ⟨y0,y1⟩;have hl:=m.len;refine aL vZ ?_;refine v1 (ae r) ?_;refine⟨O,?_⟩;refine v5 (ae r) (ae m.fv) ak7 Nat.add_zero r3 ?_;refine⟨O,?_⟩;refine v4 (ae m.fv) ak7 Nat.add_zero t1 ?_;have bx:bq L x≠x:=f7;refine ai.dec (fun g=>?_) (fun g=>?_)<;>refine vs ?_
 ·have F:=f1.1 g;rw[if_pos F]at f6;refine v6 (ae r) (ae m.fv) ak7 Nat.add_zero r2 r3 ?_;refine⟨O,?_⟩;obtain⟨t,X,u1,l,K⟩:=m.Lq ⟨y0,y1⟩ (bk L x true);refine v3 m.fv ak7 Nat.add_zero ?_;refine⟨O,?_⟩;refine vs ?_;generalize H.wr B.tb ((aP L).set ((bq L x).toNat*3) (i64 (bk L x true)))=f at*;obtain⟨s0,s1,o,N⟩:=l.rd ⟨n,c⟩;have F:=l.len;obtain⟨Ni,r,_⟩:=l.own;have D:bk t x true=bk L x true:=by
   rw[X];unfold eK;omega
  have M:bq t x=bq L x:=by rw[u1]
  rw[D]at o;rw[M]at N;refine v4 (ae l.fv) ak7 Nat.add_zero o ?_;refine ai.dec (fun E=>?_) (fun E=>?_)<;>refine vs ?_
  ·obtain⟨P,k2,u2,e,j⟩:=l.Lt ⟨n,c⟩ (-1);refine v3 l.fv ak7 Nat.add_zero ?_;refine⟨O,?_⟩;obtain⟨v0,_⟩:=e.rd ⟨n,c⟩;obtain⟨A,k3,u3,y,d⟩:=e.HL ⟨n,c⟩ (-1);refine vs ?_;generalize f.wr B.tb ((aP t).set (x.toNat*3+1) (Value.int .i64 (-1)))=u at*;refine v3 e.fv ak7 Nat.add_zero ?_;refine⟨O,?_⟩;refine vs ?_;refine⟨A,y,?_,(K.trans j).trans d⟩;grind
  ·obtain⟨Q,U,_⟩:=aI (w:=w) (x:=bk L x true) O;obtain⟨v0,_⟩:=l.rd ⟨Q,U⟩;refine v6 (ae r) (ae l.fv) ak7 Nat.add_zero o N ?_;refine⟨O,?_⟩;obtain⟨P,k2,u2,e,j⟩:=l.HL ⟨Q,U⟩ (bq L x);refine v3 l.fv ak7 Nat.add_zero ?_;refine⟨O,?_⟩;refine vs ?_;generalize f.wr B.tb ((aP t).set ((bk L x true).toNat*3+2) (i64 (bq L x)))=u at*;obtain⟨v1,_⟩:=e.rd ⟨n,c⟩;obtain⟨A,k3,u3,y,d⟩:=e.Lt ⟨n,c⟩ (-1);refine v3 e.fv ak7 Nat.add_zero ?_;refine⟨O,?_⟩;obtain⟨v2,_⟩:=y.rd ⟨n,c⟩;obtain⟨I,k4,u4,m4,G⟩:=y.HL ⟨n,c⟩ (-1);refine vs ?_;generalize u.wr B.tb ((aP P).set (x.toNat*3+1) (Value.int .i64 (-1)))=H3 at*;refine v3 y.fv ak7 Nat.add_zero ?_;refine⟨O,?_⟩;refine vs ?_;refine⟨I,m4,?_,((K.trans j).trans d).trans G⟩;grind
 ·have F:l1≠[]:=fun h=>g (f1.2 h);rw[if_neg F]at f6;refine v6 (ae r) (ae m.fv) ak7 Nat.add_zero r2 r3 ?_;refine⟨O,?_⟩;obtain⟨t,X,u1,l,K⟩:=m.Lt ⟨y0,y1⟩ (bk L x true);refine v3 m.fv ak7 Nat.add_zero ?_;refine⟨O,?_⟩;refine vs ?_;generalize H.wr B.tb ((aP L).set ((bq L x).toNat*3+1) (i64 (bk L x true)))=f at*;obtain⟨s0,s1,o,N⟩:=l.rd ⟨n,c⟩;have F:=l.len;obtain⟨Ni,r,_⟩:=l.own;have D:bk t x true=bk L x true:=by
   rw[X];unfold eK;omega
  have M:bq t x=bq L x:=by rw[u1]
  rw[D]at o;rw[M]at N;refine v4 (ae l.fv) ak7 Nat.add_zero o ?_;refine ai.dec (fun E=>?_) (fun E=>?_)<;>refine vs ?_
  ·obtain⟨P,k2,u2,e,j⟩:=l.Lt ⟨n,c⟩ (-1);refine v3 l.fv ak7 Nat.add_zero ?_;refine⟨O,?_⟩;obtain⟨v0,_⟩:=e.rd ⟨n,c⟩;obtain⟨A,k3,u3,y,d⟩:=e.HL ⟨n,c⟩ (-1);refine vs ?_;generalize f.wr B.tb ((aP t).set (x.toNat*3+1) (Value.int .i64 (-1)))=u at*;refine v3 e.fv ak7 Nat.add_zero ?_;refine⟨O,?_⟩;refine vs ?_;refine⟨A,y,?_,(K.trans j).trans d⟩;grind
  ·obtain⟨Q,U,_⟩:=aI (w:=w) (x:=bk L x true) O;obtain⟨v0,_⟩:=l.rd ⟨Q,U⟩;refine v6 (ae r) (ae l.fv) ak7 Nat.add_zero o N ?_;refine⟨O,?_⟩;obtain⟨P,k2,u2,e,j⟩:=l.HL ⟨Q,U⟩ (bq L x);refine v3 l.fv ak7 Nat.add_zero ?_;refine⟨O,?_⟩;refine vs ?_;generalize f.wr B.tb ((aP t).set ((bk L x true).toNat*3+2) (i64 (bq L x)))=u at*;obtain⟨v1,_⟩:=e.rd ⟨n,c⟩;obtain⟨A,k3,u3,y,d⟩:=e.Lt ⟨n,c⟩ (-1);refine v3 e.fv ak7 Nat.add_zero ?_;refine⟨O,?_⟩;obtain⟨v2,_⟩:=y.rd ⟨n,c⟩;obtain⟨I,k4,u4,m4,G⟩:=y.HL ⟨n,c⟩ (-1);refine vs ?_;generalize u.wr B.tb ((aP P).set (x.toNat*3+1) (Value.int .i64 (-1)))=H3 at*;refine v3 y.fv ak7 Nat.add_zero ?_;refine⟨O,?_⟩;refine vs ?_;refine⟨I,m4,?_,((K.trans j).trans d).trans G⟩;grind
end
end
section
variable {H : Hp} {B : PB} {C V : Nat → Prop} {w : Nw} {L : List Lk} {tops : List Int} {ch GG : Int → List Int} {au : Int → Int}
theorem Pr.len(q:Pr (aH w) (aU w) ch au)(x:Int):(ch x).length<=w.cs.length:=ck (q.nd x) fun c h=>by
 obtain⟨z,l,_⟩:=aI (q.dn x c h).2.2.2.1;omega
theorem GH.next{K:Int->Bool->Int}{z:Int->Int}:∀ {l1:List Int} {p x:Int} {l2:List Int},GH K z p (l1++x::l2)->K x true=l2.headD (-1):=fun h=>h.split.2.1
theorem yr(m:bS H B C w L tops)(q:Pr (aH w) (aU w) ch au)(pl:GI (bk L) (bq L) ch au){x:Int}(A:0<aH w x):
  aD 432 [ptr B.n,i64 x] H fun v J=>ak (∃fp,bS J B C w L tops/\aj C H J/\Sl J 1 v (ch x).length ((ch x).map i64) fp/\∀b,fp=some b->H.size<=b):=by
 obtain⟨x0,x1,_⟩:=aI A;have No:=m.cells.yY;have ec:=q.len x;refine aL uh ?_;obtain⟨tv,o,_⟩:=m.own;refine v1 (ae o) ?_;refine(bC m.cells x).mono ?_;rintro _ H1 (⟨G,_,_⟩| ⟨mj,rfl,y,t⟩)
 ·exact absurd (bf.1 A) G
 have l:=m.aE y t rfl;obtain⟨Ni,o,_⟩:=l.own;obtain⟨r0,E,r2,r3⟩:=l.rd ⟨x0,x1⟩;have hl:=l.len;have z1:=t.size;refine v1 (ae o) ?_;refine⟨O,?_⟩;refine v4 (ae l.fv) ak7 Nat.add_zero E ?_;refine ba.intro (fun mm env J=>∃ (d r:List Int) (f:Value) (fp:Option Nat),mm=r.length/\ch x=d++r/\bS J B C w L tops/\(∀z,fp=some z->H.size<=z)/\Sl J 1 f d.length (d.map i64) fp/\aj (fun z=>C z\/H.size<=z) H J/\
  env=[(0,ptr B.n),(7,f),(8,i64 (r.headD (-1)))]) _ ⟨[],ch x,_,none,rfl,rfl,l,Z,Sl.nil _ _,t.mono Z,by rw[pl.hd]⟩ ?_
 rintro mm env H2 ⟨d,r,f,fp,rfl,p,K,P,F,j,rfl⟩;have z2:=j.size;refine vs ?_;cases r with
 |nil=>
  refine ai.dec (fun _=>?_) (fun h=>absurd rfl h);refine vs ?_;rw[alE]at p;rw[p];exact⟨fp,K,j.mono Z,F,P⟩
 |cons c r=>
  have U:=q.dn x c Z;obtain⟨N,y,_⟩:=aI U.2.2.2.1;have e:=pl.sg x;rw[p]at e;have e:=e.next;have wT:d.length+(r.length+1)=(ch x).length:=Z;refine ai.dec (fun h=>absurd h Z) (fun _=>?_);refine vs ?_;refine xR (B:=H.size) P O F c O fun w' H3 Q I X u=>?_;refine vs ?_;have n:=K.ext u (fun z D Kj=>by have:=m.slt z D;omega);obtain⟨TS,M,_⟩:=n.own;obtain⟨t0,t1,t2,t3⟩:=n.rd ⟨N,y⟩;have Pb:=n.len;simp(disch:=(first|exact aV|fail)) only[go_sem, ↓reduceIte,Zv,ae M,List.headD_cons];refine⟨O,?_⟩;refine v4 (ae n.fv) ak7 Nat.add_zero t2 ?_;refine⟨r.length,by simp,d++[c],r,w',Q,rfl,Z,n,I,X,j.trans (u.mono fun z _ h=>.inr h),by rw[e]⟩
theorem iX(m:bS H B C w L tops)(q:Pr (aH w) (aU w) ch au)(pl:GI (bk L) (bq L) ch au){x:Int}(hx:0<aH w x):
  aD 431 [ptr B.n,i64 x] H fun v J=>ak (∃r L' f A,v=i64 r/\bS J B C w L' tops/\GI (bk L') (bq L') f A/\
   w8 (aH w) (aU w) (aH w x) (fun y=>0<aH w y/\au y= -1) (ay ch x []) f A (ws [r])/\aj (fun z=>C z\/z=B.tb) H J):=by
 obtain⟨x0,x1,_⟩:=aI hx;have No:=m.cells.yY;have ec:=q.len x;refine aL ug ?_;refine vs ?_;refine(yr m q pl hx).mono ?_;rintro kv H1 ⟨fp,m1,e1,s1,ww⟩;have z1:=e1.size;obtain⟨Ni,o1,_⟩:=m1.own;obtain⟨r0,_⟩:=m1.rd ⟨x0,x1⟩;have hl:=m1.len;refine v1 (ae o1) ?_;refine⟨⟨O,O⟩,?_⟩;obtain⟨L2,k2,u2,m2,e2⟩:=m1.Lq ⟨x0,x1⟩ (-1);refine v3 m1.fv ak7 Nat.add_zero ?_;refine⟨O,?_⟩;refine vs ?_;generalize H1.wr B.tb ((aP L).set (x.toNat*3) (Value.int .i64 (-1)))=H2 at*;have hN:∀z,B.S C z->z<H.size:=m.slt;have sl2:B.tb<H.size:=hN _ (.inr (.inr (.inl rfl)));have s2:=s1.ext e2 (fun z l p=>by have:=ww z l;omega);obtain⟨ka,kc,rfl⟩:=Sl.shape s2;have yZ:aj (fun z=>C z\/z=B.tb\/H.size<=z) H H2:=(e1.mono fun z _ h=>.inl h).trans (e2.mono fun z _ h=>.inr (.inl h));refine vs ?_;refine ba.intro (fun mm env J=>∃ (i:Nat) (L':List Lk),mm=(ch x).length - i/\i<=(ch x).length/\bS J B C w L' tops/\Sl J 1 (.slice ka (ch x).length kc) (ch x).length ((ch x).map i64) fp/\aj (fun z=>C z\/z=B.tb\/H.size<=z) H J/\
  (∀y,bk L' y false=if y=x then -1 else bk L y false)/\(∀c,(c∈(ch x).take i->bk L' c true= -1/\bq L' c= -1)/\(c∉ (ch x).take i->bk L' c true=bk L c true/\bq L' c=bq L c))/\
  env=[(0,ptr B.n),(5,.slice ka (ch x).length kc),(22,.slice ka (ch x).length kc),(23,i64 (ch x).length),(24,i64 i)]) _ ⟨0,L2,rfl,O,m2,s2,yZ,fun y=>?_,fun c=>⟨fun h=>by simp at h,fun _=>?_⟩,rfl⟩ ?_
 ·rw[k2];unfold eK;by_cases hy:y=x
  ·rw[if_pos ⟨hy,rfl⟩,if_pos hy]
  ·rw[if_neg (by simp[hy]),if_neg hy]
 ·rw[k2,u2];unfold eK;rw[if_neg (by simp)];exact⟨rfl,rfl⟩
 rintro mm env H3 ⟨i,L3,rfl,hi,I,s3,e3,kf3,Yi,rfl⟩;refine vs ?_;refine ai.dec (fun gi=>?_) (fun gi=>?_)<;>refine vs ?_
 ·have X:i< (ch x).length:=O;obtain⟨c,e⟩:∃c,(ch x)[i]? =some c:=⟨_,ak9 X⟩;have hcm:=ali e;obtain⟨c0,c1,_⟩:=aI (q.dn x c hcm).2.2.2.1;obtain⟨_,kb,lb,rfl,K,G⟩:=Sl.wx s3 e;refine⟨⟨O,O⟩,?_⟩;refine v5 (ae K) ak7 ala Int.toNat_natCast G ?_;obtain⟨TS,o3,_⟩:=I.own;obtain⟨t0,_⟩:=I.rd ⟨c0,c1⟩;have Pb:=I.len;refine v1 (ae o3) ?_;refine⟨⟨O,O⟩,?_⟩;obtain⟨L4,k4,u4,u,F⟩:=I.Lt ⟨c0,c1⟩ (-1);refine v3 I.fv ak7 Nat.add_zero ?_;refine⟨O,?_⟩;obtain⟨t1,_⟩:=u.rd ⟨c0,c1⟩;have Wq:=u.len;obtain⟨M,k5,u5,P,n⟩:=u.HL ⟨c0,c1⟩ (-1);refine vs ?_;generalize H3.wr B.tb ((aP L3).set (c.toNat*3+1) (Value.int .i64 (-1)))=H4 at*;refine⟨⟨O,O⟩,?_⟩;refine v3 u.fv ak7 Nat.add_zero ?_;refine⟨O,?_⟩;refine vs ?_;have s5:=(s3.ext F (fun z l p=>by have:=ww z l;omega)).ext n (fun z l p=>by have:=ww z l;omega);refine⟨(ch x).length - (i+1),O,i+1,M,rfl,O,P,s5,(e3.trans (F.mono fun z _ h=>.inr (.inl h))).trans (n.mono fun z _ h=>.inr (.inl h)),fun y=>?_,fun d=>?_,?_⟩
  ·rw[k5,k4];unfold eK;rw[if_neg (by simp)];exact kf3 y
  ·have tk:(ch x).take (i+1)=(ch x).take i++[c]:=by rw[alq,e];rfl
   rw[tk,k5,k4,u5,u4];unfold eK aM;by_cases o:d=c
   ·rw[if_pos ⟨o,rfl⟩,if_pos o];exact⟨fun _=>⟨rfl,rfl⟩,fun h=>absurd (show d∈(ch x).take i++[c] by simp[o]) h⟩
   ·rw[if_neg (by simp[o]),if_neg o];refine⟨fun h=>(Yi d).1 ?_,fun h=>(Yi d).2 fun h2=>h (by simp[h2])⟩;rcases alu.1 h with h|h
    ·exact h
    ·exact absurd (alv.1 h) o
  ·rw[wrap64 O O];rfl
 obtain rfl:i=(ch x).length:=O;rw[alx]at Yi;have Ws:=pl.bare q kf3 (fun c e=>(Yi c).1 e) (fun c e=>(Yi c).2 e);have pw3:=q.Tu hx;have RD:∀z,fp=some z->z<H3.size:=fun z l=>by rw[l]at s3;exact s3.lt
 have z3:=e3.size;refine ba.intro (fun mm env J=>∃ (i:Nat) (t:List Int) (wv:Value) (fq:Option Nat) (L':List Lk) (f:Int->List Int) (A:Int->Int),mm=(ch x).length+2 - i/\i<=(ch x).length+1/\t.length<=i/\bS J B C w L' tops/\
  Sl J 1 (.slice ka (ch x).length kc) (ch x).length ((ch x).map i64) fp/\(∀z,fq=some z->H3.size<=z)/\Sl J 1 wv t.length (t.map i64) fq/\aj (fun z=>C z\/z=B.tb\/H.size<=z) H J/\aj (fun z=>C z\/z=B.tb\/H3.size<=z) H3 J/\
  w8 (aH w) (aU w) (aH w x) (fun y=>0<aH w y/\au y= -1) (ay ch x []) f A (t++(ch x).drop i)/\GI (bk L') (bq L') f A/\
  env=[(0,ptr B.n),(5,.slice ka (ch x).length kc),(8,wv),(9,i64 i)]) _ ⟨0,[],_,none,L3,_,_,rfl,O,by simp,I,s3,(fun z h=>by cases h),Sl.nil _ _,e3,aj.refl _ _,by simpa using pw3,Ws,rfl⟩ ?_
 rintro mm env H4 ⟨i,t,wv,fq,L4,RM,DQ,rfl,hi,hti,u,s4,Wr,t4,F,e34,Q,Uv,rfl⟩;have z4:=F.size;have z34:=e34.size;refine vs ?_;refine ai.dec (fun gi=>?_) (fun gi=>?_)<;>refine vs ?_
 ·have X:i< (ch x).length:=O;obtain⟨c,e⟩:∃c,(ch x)[i]? =some c:=⟨_,ak9 X⟩;have hcm:=ali e;have PD:=q.ne hcm;have dr:(ch x).drop i=c::(ch x).drop (i+1):=by
   rw[alO X];congr 1;rw[ak9 X]at e;injection e
  obtain⟨_,kb,lb,rfl,K,G⟩:=Sl.wx s4 e;refine ai.dec (fun g1=>?_) (fun g1=>?_)<;>refine vs ?_
  ·rw[wrap64 O O]at g1;refine⟨⟨O,O⟩,?_⟩;refine v5 (ae K) ak7 ala Int.toNat_natCast G ?_;refine xR (B:=H3.size) Wr z34 t4 c O fun w' H5 Ya Py D n=>?_;refine vs ?_;have P:=u.ext n (fun z l p=>by have:=m.slt z l;omega);have s5:=s4.ext n (fun z l p=>by have:=RD z l;omega);refine⟨(ch x).length+2 - (i+2),O,i+2,t++[c],w',Ya,L4,RM,DQ,rfl,O,by simp;omega,P,s5,Py,D,F.trans (n.mono fun z _ h=>.inr (.inr O)),e34.trans (n.mono fun z _ h=>.inr (.inr h)),?_,Uv,?_⟩
   ·rw[dr]at Q;rw[List.drop_of_length_le O];rw[List.drop_of_length_le O]at Q;simpa using Q
   ·rw[wrap64 O O];rfl
  ·rw[wrap64 O O]at g1;have Og:i+1< (ch x).length:=O;obtain⟨d,o⟩:∃d,(ch x)[i+1]? =some d:=⟨_,ak9 Og⟩;have hdm:=ali o;have hdn:=q.ne hdm;have dr2:(ch x).drop (i+1)=d::(ch x).drop (i+2):=by
    rw[alO Og];congr 1;rw[ak9 Og]at o;injection o
   obtain⟨_,EG,XV,E,q5,q4⟩:=Sl.wx s4 o;injection E with E;injection E with E;subst E;rw[K]at q5;injection q5 with q5;subst q5;refine⟨⟨O,O⟩,?_⟩;refine v5 (ae K) ak7 ala Int.toNat_natCast G ?_;rw[wrap64 O O];refine⟨⟨O,O⟩,?_⟩;refine v5 (ae K) ak7 ala (show((i:Int)+1).toNat=i+1 by omega) q4 ?_;have w2:ws [c,d]=[c,d]:=by rw[mv,ep,ep,if_neg PD,if_neg hdn];rfl
   have U:w8 (aH w) (aU w) (aH w x) (fun y=>0<aH w y/\au y= -1) (ay ch x []) RM DQ (ws [c,d]++(t++(ch x).drop (i+2))):=by
    rw[w2];rw[dr,dr2]at Q;refine Q.perm ?_;have h1:(t++c::d::(ch x).drop (i+2)).Perm (c::(t++d::(ch x).drop (i+2))):=amA;have h2:(t++d::(ch x).drop (i+2)).Perm (d::(t++(ch x).drop (i+2))):=amA;exact h1.trans (h2.cons c)
   refine(cM u U Uv).mono ?_;rintro _ H5 ⟨r,M,Wt,NA,rfl,hr,P,pw6,pl5,n⟩;have hrn:r≠ -1:=fun h=>PD (hr h).1;have z5:=n.size;have D:=t4.ext n (fun z l p=>by have:=Wr z l;rcases p with h|h;have:=m.slt z (.inl h);omega;omega);have s5:=s4.ext n (fun z l p=>by have:=ww z l;rcases p with h|h;have:=m.slt z (.inl h);omega;omega);refine vs ?_;refine xR (B:=H3.size) Wr O D r O fun w' H6 Ya Py t6 N=>?_;refine vs ?_;have m6:=P.ext N (fun z l p=>by have:=m.slt z l;omega);have s6:=s5.ext N (fun z l p=>by have:=RD z l;omega);refine⟨(ch x).length+2 - (i+2),O,i+2,t++[r],w',Ya,M,Wt,NA,rfl,O,by simp;omega,m6,s6,Py,t6,(F.trans (n.mono fun z _ h=>h.elim .inl fun h=>.inr (.inl h))).trans (N.mono fun z _ h=>.inr (.inr O)),(e34.trans (n.mono fun z _ h=>h.elim .inl fun h=>.inr (.inl h))).trans (N.mono fun z _ h=>.inr (.inr h)),?_,pl5,?_⟩
   ·rw[ep,if_neg hrn]at pw6;refine pw6.perm ?_;rw[amg];exact(amA (l₁:=t) (a:=r) (l₂:=(ch x).drop (i+2))).symm
   ·rw[wrap64 O O];rfl
 rw[List.drop_of_length_le O,alE]at Q;have XP:t.length<=65537:=O;obtain⟨ta,tc,rfl⟩:=Sl.shape t4;refine vs ?_;refine ba.intro (fun mm env J=>∃ (j:Nat) (r:Int) (L':List Lk) (f:Int->List Int) (A:Int->Int),mm=j/\j<=t.length/\bS J B C w L' tops/\
  Sl J 1 (.slice ta t.length tc) t.length (t.map i64) fq/\aj (fun z=>C z\/z=B.tb\/H.size<=z) H J/\
  w8 (aH w) (aU w) (aH w x) (fun y=>0<aH w y/\au y= -1) (ay ch x []) f A (ws [r]++t.take j)/\GI (bk L') (bq L') f A/\
  env=[(0,ptr B.n),(8,.slice ta t.length tc),(10,i64 r),(11,i64 ((j:Int) - 1))]) _ ⟨t.length, -1,L4,RM,DQ,rfl,alj _,u,t4,F,by rw[ep,if_pos rfl,alx];exact Q,Uv,?_⟩ ?_
 ·rw[wrap64 O O]
 rintro mm env H5 ⟨j,r,M,Wt,NA,hmj,hj,P,D,n,U,pl5,rfl⟩;obtain rfl:=hmj.symm;refine vs ?_;refine ai.dec (fun gj=>?_) (fun gj=>?_)<;>refine vs ?_
 ·obtain⟨k,rfl⟩:∃k,j=k+1:=⟨j - 1,O⟩;obtain⟨c,e⟩:∃c,t[k]? =some c:=⟨_,ak9 O⟩;obtain⟨_,kb,lb,rfl,K,G⟩:=Sl.wx D e;have ji:((((k+1:Nat):Int) - 1)).toNat=k:=O;refine⟨⟨O,O⟩,?_⟩;refine v5 (ae K) ak7 ala ji G ?_;have tk:t.take (k+1)=t.take k++[c]:=by rw[alq,e];rfl
  have PD:c≠ -1:=(U.wm c (by rw[tk];simp)).1;have pw6:w8 (aH w) (aU w) (aH w x) (fun y=>0<aH w y/\au y= -1) (ay ch x []) Wt NA (ws [c,r]++t.take k):=by
   rw[tk]at U;refine U.perm ?_;rw[mv c [r],ep c,if_neg PD];have h1:(ws [r]++(t.take k++[c])).Perm ((ws [r]++t.take k)++[c]):=by rw[amg]
   refine h1.trans (ama.trans ?_);rw[amg]
  refine(cM P pw6 pl5).mono ?_;rintro _ H6 ⟨r2,L6,Wp,Ls,rfl,hr,m6,pw7,pl6,N⟩;have t6:=D.ext N (fun z l p=>by have:=Wr z l;rcases p with h|h;have:=m.slt z (.inl h);omega;omega);refine vs ?_;refine⟨k,O,k,r2,L6,Wp,Ls,rfl,O,m6,t6,n.trans (N.mono fun z _ h=>h.elim .inl fun h=>.inr (.inl h)),pw7,pl6,?_⟩;rw[show((k+1:Nat):Int) - 1 - 1=(k:Int) - 1 by omega,wrap64 O O]
 ·obtain rfl:j=0:=O;rw[List.take_zero,alE]at U;exact⟨r,M,Wt,NA,rfl,P,pl5,U,n.mono fun z l h=>h.elim .inl fun h=>.inr O⟩
end
end Go.Proofs.YtnanofhkpglbaaaGreatDoor
