/- Texts put behind each other. -/
import Derived.Test.YtjkkkibiegfecaaGreatDoorK33
set_option linter.unusedSimpArgs false
set_option linter.unusedVariables false
set_option maxRecDepth 100000
set_option maxHeartbeats 8000000
namespace Go.Proofs.YtjkkkibiegfecaaGreatDoor
open Go Go.Vc
section
variable{x:Int}
theorem Jt.below{w:Nw}{L:List Lk}{tops:List Int}{ch:Int->List Int}{ax:Int->Int}(l:Jt w L tops ch ax)(e:0<aH w x)(m:aQ tops (aH w x)≠x):∃p l1 l2,ch p=l1++x::l2:=by
 have z:ax x≠ -1:=fun h=>m (l.t.tp.t2 x e h);obtain⟨l1,l2,h⟩:=List.append_of_mem (l.t.pr.up x _ rfl z);grind
theorem ru{n:Nat}{H:Hp}{S:Nat->Prop}{w:Nw}(h:dF n H S w)(x k s:Int):aF 295 [ptr n,i64 x,mE k s] H fun v J=>ak (
  (¬w.dD x k s/\v= .bool false/\br (dF n) S H J w)\/(w.dD x k s/\v= .bool true/\∃y,w.cs[x.toNat]? =some y/\br (dF n) S H J (w.put x (y.1,k,s)))):=by
 obtain⟨B,C,L,tops,ch,ax,rfl,m,l,e⟩:=h;have hC:∀z,C z->S z:=fun z h=>(e z).2 (.inl h);have t1:S B.tb:=(e _).2 (.inr (.inr (.inl rfl)));have t2:S B.tp:=(e _).2 (.inr (.inr (.inr rfl)));refine uS nX ⟨rfl,?_⟩;refine v1 hZ.eq_1 ?_;have f0:af H (H.new 190 [i64 k,u64 s]):=bD;have b0:(H.new 190 [i64 k,u64 s]).own H.size=some [i64 k,u64 s]:=am _ _ _;have K:=m.fresh f0;generalize H.new 190 [i64 k,u64 s]=H0 at*;have ff:aj S H H0:=f0.mono fun _ _ h=>h.elim;obtain⟨tv,Hk,_⟩:=K.own;refine v2 (ae Hk) (ae b0) ?_;refine(gH K.cells x k s).mono ?_;rintro _ H1 (⟨G,rfl,c1,o⟩| ⟨f,rfl,y,A,mi,c1,o⟩)
 ·refine vs ?_;exact .inl ⟨G,rfl,br.same ⟨B,C,L,tops,ch,ax,rfl,K.ext o (fun _ _ h=>h),l,e⟩ (ff.trans (o.mono fun _ _ h=>h.elim))⟩
 have tJ:(w.put x (y.1,k,s)).cs.length=w.cs.length:=by simp[Nw.put]
 have D:=K.aD c1 o tJ;have yp:w.dD x k s:=⟨f,Z⟩;have hx:0<=x/\x<w.cs.length:=⟨f.1,Z⟩;have Y3:aH w x=y.1:=iO f.1 A;have FO:=bg.2 f;have t:aH (w.put x (y.1,k,s))=aH w:=by
  funext z;rw[dW hx];split
  ·grind
  ·rfl
 have Hl:cz (w.put x (y.1,k,s)).cs x:=bg.1 (by simp_all);obtain⟨MM,o1,_⟩:=D.own;refine v1 (ae o1) ?_;refine(bF D.cells x).mono ?_;rintro _ H2 (⟨G,_,_⟩| ⟨_,rfl,c2,e2⟩)
 ·exact absurd Hl G
 have F:=D.aD c2 e2 rfl;have zg:aj S H H2:=(ff.trans (o.mono fun z _ h=>hC z h)).trans (e2.mono fun z _ h=>hC z h);have el:∀a b,0<aH w a->0<aH w b->a≠x->b≠x->aU (w.put x (y.1,k,s)) a b=aU w a b:=fun a b ha U wS I=>dC hx _ ha U wS I;have ex:∀b,0<aH w b->b≠x->aU w x b=true->aU (w.put x (y.1,k,s)) x b=true:=fun b U I h=>yf f A mi U I h;have P:aH w x<tops.length:=by
  have:=((m.cells.hm x).2 FO).2;have:=l.tl;omega
 obtain⟨Q,lt,o2,q,EA,Jm,JS⟩:=F.eh;have M:=F.cS q (ce (tops:=tops) (h:=aH w x) O P);rw[t];refine v1 (ae o2) ?_;refine⟨O,?_⟩;refine v4 (ae q) ajJ ajM M ?_;refine ai.dec (fun gt=>?_) (fun gt=>?_)<;>refine vs ?_
 ·have hu:ax x= -1:=by
   have:=(l.t.tp.t1 (aH w x) O).2.2;grind
  refine .inr ⟨yp,rfl,y,A,br.same ⟨B,C,L,tops,ch,ax,rfl,F,⟨?_,l.pl,l.tl⟩,e⟩ zg⟩;rw[t];exact l.t.Qc hu el ex
 obtain⟨p,l1,l2,hp⟩:=l.below FO gt;have N:=(l.t.off hp).low el ex;refine(oI F (au w) (by rw[t];exact l.t.pr) l.pl hp).mono ?_;rintro _ H4 ⟨E,j,p4,e4⟩;have Fh:aj S H H4:=zg.trans (e4.mono Z);rw[<-t]at N;have P:aH (w.put x (y.1,k,s)) x<tops.length:=by rw[t];exact P
 have MR:=N.g0;refine vs ?_;generalize hg:aH (w.put x (y.1,k,s)) x=g at*;rw[<-t,hg];obtain⟨Q,lt,d,q,EA,Jm,JS⟩:=j.eh;have M:=j.cS q (ce (tops:=tops) (h:=g) O P);refine cZ.intro (fun J=>J.own B.n=some [ptr B.c,.slice (some ⟨B.tb,0,none⟩) E.length E.length,.slice (some ⟨B.tp,0,none⟩) tops.length Q]) d ?_;refine vs ?_;refine bG.intro (.slice (some ⟨B.tp,0,none⟩) tops.length Q) (fun J hI=>by refine v1 (ae hI) ?_;trivial) ?_;refine v1 (ae d) ?_;refine And.intro d ?_;refine vs ?_;refine⟨⟨O,O⟩,?_⟩;refine v4 (ae q) ajJ ajM M ?_;refine And.intro d ?_;refine vs ?_;have X:=N.w;rw[show ws [aQ tops g,x]=ws [aQ tops g,x]++[] by simp]at X;refine(cN j X p4).mono ?_;rintro _ H5 ⟨r,L5,Vq,M4,rfl,_,m5,w5,p5,u⟩;rw[ake]at w5;have bn:=N.done w5;obtain⟨d1,d2,d3⟩:=j.ly;have no:¬ (C B.n\/B.n=B.tb):=by rintro(h|h);exact j.out.1 h;omega
 refine And.intro (u.own d no) ?_;have q4:=u.own q (by cases j;grind);refine vs ?_;refine⟨O,?_⟩;refine v3 q4 ajJ ajM ?_;refine⟨O,?_⟩;obtain⟨m6,e6⟩:=m5.fJ q4 g.toNat r;refine And.intro (e6.own (u.own d no) d2) ?_;refine vs ?_;refine .inr ⟨yp,rfl,y,A,br.same ⟨B,C,L5,_,Vq,M4,rfl,m6,⟨?_,p5,by rw[ajN];exact l.tl⟩,e⟩ ((Fh.trans (u.mono Z)).trans (e6.mono Z))⟩;grind [dN]
theorem kU{n:Nat}{H:Hp}{S:Nat->Prop}{w:Nw}(h:dF n H S w)(x:Int):aF 296 [ptr n,i64 x] H fun v J=>ak (
  (¬cz w.cs x/\v= .bool false/\br (dF n) S H J w)\/(cz w.cs x/\v= .bool true/\br (dF n) S H J (w.put x (0,0,0)))):=by
 obtain⟨B,C,L,tops,ch,ax,rfl,m,l,D⟩:=id h;have hC:∀z,C z->S z:=fun z h=>(D z).2 (.inl h);have t1:S B.tb:=(D _).2 (.inr (.inr (.inl rfl)));have t2:S B.tp:=(D _).2 (.inr (.inr (.inr rfl)));obtain⟨tv,o0,_⟩:=m.own;refine uS qR ⟨rfl,?_⟩;refine v2 jn.eq_1 (ae o0) ?_;refine(bF m.cells x).mono ?_;rintro _ H1 (⟨N,rfl,rfl⟩| ⟨F,rfl,c1,e1⟩)
 ·refine vs ?_;exact .inl ⟨N,rfl,br.same h (aj.refl _ _)⟩
 have Q:=m.aD c1 e1 rfl;have d:=bg.2 F;obtain⟨kh,Ew,_⟩:=aI d;have PT:x≠ -1:=O;have ls:=au w;have ke:=fun y=>dW (w:=w) ⟨kh,Ew⟩ (0,0,0) y;have p0:aH (w.put x (0,0,0)) (-1)=0:=rfl;have p1:aH (w.put x (0,0,0)) x=0:=Z;have p2:∀y,y≠x->aH (w.put x (0,0,0)) y=aH w y:=Z;have el:∀a b,0<aH w a->0<aH w b->a≠x->b≠x->aU (w.put x (0,0,0)) a b=aU w a b:=fun a b ha hb wS Ac=>dC ⟨kh,Ew⟩ _ ha hb wS Ac;have tJ:(w.put x (0,0,0)).cs.length=w.cs.length:=by simp[Nw.put]
 have M:aH w x<tops.length:=by
  have:=((m.cells.hm x).2 d).2;have:=l.tl;omega
 have e11:aj S H H1:=e1.mono fun z _ h=>hC z h;obtain⟨I,lt,o1,P,EA,Jm,JS⟩:=Q.eh;have q3:=Q.cS P (ce (tops:=tops) (h:=aH w x) O M);obtain⟨d1,d2,d3⟩:=Q.ly;have no:¬ (C B.n\/B.n=B.tb):=by rintro(h|h);exact Q.out.1 h;omega
 have Xl:¬ (C B.tp\/B.tp=B.tb):=by rintro(h|h);exact Q.out.2.2 h;omega
 refine v1 (ae o1) ?_;refine⟨O,?_⟩;refine v4 (ae P) ajJ ajM q3 ?_;refine ai.dec (fun gt=>?_) (fun gt=>?_)<;>refine vs ?_
 ·have hu:ax x= -1:=by
   have:=(l.t.tp.t1 (aH w x) O).2.2;grind
  refine cZ.intro (fun J=>J.own B.n=some [ptr B.c,.slice (some ⟨B.tb,0,none⟩) L.length L.length,.slice (some ⟨B.tp,0,none⟩) tops.length I]) o1 ?_;refine vs ?_;refine bG.intro (.slice (some ⟨B.tp,0,none⟩) tops.length I) (fun J hI=>by refine v1 (ae hI) ?_;trivial) ?_;refine vs ?_;refine(iW Q l.t.pr l.pl d).mono ?_;rintro _ H2 ⟨r,L2,BR,gD,rfl,E,Zp,w2,G⟩;refine And.intro (G.own o1 no) ?_;have A:=G.own P Xl;refine vs ?_;refine⟨O,?_⟩;refine v3 A ajJ ajM ?_;refine⟨O,?_⟩;obtain⟨u,e⟩:=E.fJ A (aH w x).toNat r;refine And.intro (e.own (G.own o1 no) d2) ?_;obtain⟨SU,o3,_⟩:=u.own;refine v1 (ae o3) ?_;refine(bZ u.cells x).mono ?_;rintro _ H4 (⟨N,_,_⟩| ⟨_,rfl,c4,j⟩)
  ·exact absurd F N
  have m4:=u.aD c4 j tJ;refine vs ?_;have X:=w2.drop (x:=x) ⟨d,hu⟩ (by rw[w2.fr x ⟨d,hu⟩];unfold aA;grind) ((w2.xi x d).2 O) p0 p1 p2 el;refine .inr ⟨F,rfl,br.same ⟨B,C,L2,_,BR,gD,rfl,m4,⟨?_,Zp,by rw[ajN];exact l.tl⟩,D⟩ (((e11.trans (G.mono Z)).trans (e.mono Z)).trans (j.mono fun z _ h=>hC z h))⟩;rw[dN O M];refine⟨X.pr,X.done (fun h nj hh=>?_) (fun y hy=>?_)⟩
  ·obtain⟨g1,g2,g3⟩:=l.t.tp.t1 h hh;grind
  ·have h5:=l.t.tp.t2 y hy.1.1 hy.1.2;grind
 obtain⟨p,l1,l2,hp⟩:=l.below d gt;have o:=l.t.off hp;refine(oI Q ls l.t.pr l.pl hp).mono ?_;rintro _ H2 ⟨L2,E,Zp,G⟩;have zg:aj S H H2:=e11.trans (G.mono Z);have hu:=o.ox.2.2;obtain⟨I,lt,q,P,EA,Jm,JS⟩:=E.eh;have q3:=E.cS P (ce (tops:=tops) (h:=aH w x) O M);refine vs ?_;refine cZ.intro (fun J=>J.own B.n=some [ptr B.c,.slice (some ⟨B.tb,0,none⟩) L2.length L2.length,.slice (some ⟨B.tp,0,none⟩) tops.length I]) q ?_;refine vs ?_;refine bG.intro (.slice (some ⟨B.tp,0,none⟩) tops.length I) (fun J hI=>by refine v1 (ae hI) ?_;trivial) ?_;refine vs ?_;refine bG.intro (.slice (some ⟨B.tp,0,none⟩) tops.length I) (fun J hI=>by refine v1 (ae hI) ?_;trivial) ?_;refine vs ?_;refine⟨O,?_⟩;refine vs ?_;refine tR.intro ?_ ?_
 ·refine v4 (ae P) ajJ ajM q3 ?_;refine And.intro q ?_;refine vs ?_;refine(iW E o.pr Zp d).mono ?_;rintro _ H3 ⟨r,L3,Zq,Ap,rfl,u,Vp,X,e⟩;refine And.intro (e.own q no) ?_;have A:=e.own P Xl;refine vs ?_;have w4:=X.lC (t:=aQ tops (aH w x)) (fun hh=>by
   cases o;grind)
  rw[<-mH,show ws [aQ tops (aH w x),r]=ws [aQ tops (aH w x),r]++[] by simp]at w4;refine(cN u w4 Vp).mono ?_;rintro _ H4 ⟨r2,L4,QY,DW,rfl,_,m4,f,TE,j⟩;rw[ake]at f;refine And.intro (j.own (e.own q no) no) ?_;have q5:=j.own A Xl;refine vs ?_;refine⟨O,?_⟩;refine v3 q5 ajJ ajM ?_;refine⟨O,?_⟩;obtain⟨U,e5⟩:=m4.fJ q5 (aH w x).toNat r2;refine And.intro (e5.own (j.own (e.own q no) no) d2) ?_;obtain⟨tv5,o5,_⟩:=U.own;refine v1 (ae o5) ?_;refine(bZ U.cells x).mono ?_;rintro _ H6 (⟨N,_,_⟩| ⟨_,rfl,c6,e6⟩)
  ·exact absurd F N
  have m6:=U.aD c6 e6 tJ;refine vs ?_;have K:(0<aH w x/\aN ax x (-1) x= -1)/\x≠aQ tops (aH w x):=O;have QB:aA (aA ch p (l1++l2)) x [] x=[]:=by unfold aA;grind
  have w6:=f.drop (x:=x) K (by rw[f.fr x K];exact QB) ((f.xi x d).2 (.inr K)) p0 p1 p2 el;refine .inr ⟨F,rfl,br.same ⟨B,C,L4,_,QY,DW,rfl,m6,⟨?_,TE,by rw[ajN];exact l.tl⟩,D⟩ ((((zg.trans (e.mono Z)).trans (j.mono Z)).trans (e5.mono Z)).trans (e6.mono fun z _ h=>hC z h))⟩;rw[dN O M];refine⟨w6.pr,w6.done (fun h nj hh=>?_) (fun y hy=>?_)⟩
  ·cases o;grind
  cases o;grind
 ·refine vs ?_;refine(iW E o.pr Zp d).mono ?_;rintro _ H3 ⟨r,L3,Zq,Ap,rfl,u,Vp,X,e⟩;refine And.intro (e.own q no) ?_;have A:=e.own P Xl;refine vs ?_;have q6:=u.cS A (ce (tops:=tops) (h:=aH w x) O M);refine v4 (ae A) ajJ ajM q6 ?_;refine And.intro (e.own q no) ?_;refine vs ?_;have w4:=X.lC (t:=aQ tops (aH w x)) (fun hh=>by
   cases o;grind)
  rw[<-mH,show ws [aQ tops (aH w x),r]=ws [aQ tops (aH w x),r]++[] by simp]at w4;refine(cN u w4 Vp).mono ?_;rintro _ H4 ⟨r2,L4,QY,DW,rfl,_,m4,f,TE,j⟩;rw[ake]at f;refine And.intro (j.own (e.own q no) no) ?_;have q5:=j.own A Xl;refine vs ?_;refine⟨O,?_⟩;refine v3 q5 ajJ ajM ?_;refine⟨O,?_⟩;obtain⟨U,e5⟩:=m4.fJ q5 (aH w x).toNat r2;refine And.intro (e5.own (j.own (e.own q no) no) d2) ?_;obtain⟨tv5,o5,_⟩:=U.own;refine v1 (ae o5) ?_;refine(bZ U.cells x).mono ?_;rintro _ H6 (⟨N,_,_⟩| ⟨_,rfl,c6,e6⟩)
  ·exact absurd F N
  have m6:=U.aD c6 e6 tJ;refine vs ?_;have K:(0<aH w x/\aN ax x (-1) x= -1)/\x≠aQ tops (aH w x):=O;have QB:aA (aA ch p (l1++l2)) x [] x=[]:=by unfold aA;grind
  have w6:=f.drop (x:=x) K (by rw[f.fr x K];exact QB) ((f.xi x d).2 (.inr K)) p0 p1 p2 el;refine .inr ⟨F,rfl,br.same ⟨B,C,L4,_,QY,DW,rfl,m6,⟨?_,TE,by rw[ajN];exact l.tl⟩,D⟩ ((((zg.trans (e.mono Z)).trans (j.mono Z)).trans (e5.mono Z)).trans (e6.mono fun z _ h=>hC z h))⟩;rw[dN O M];refine⟨w6.pr,w6.done (fun h nj hh=>?_) (fun y hy=>?_)⟩
  ·cases o;grind
  cases o;grind
theorem tf{n:Nat}{H:Hp}{S:Nat->Prop}{w:Nw}(h:dF n H S w)(g:Int):aF 297 [ptr n,i64 g] H fun v J=>ak (
  (w.len g=0/\v= .tuple [i64 0,.bool false].toArray/\br (dF n) S H J w)\/(∃x,w.first g x/\v= .tuple [i64 x,.bool true].toArray/\br (dF n) S H J (w.put x (0,0,0)))):=by
 refine aT pw ?_;refine vs ?_;refine(oJ h g).mono ?_;rintro _ _ ⟨⟨m,rfl⟩| ⟨x,z,rfl⟩,rfl⟩
 ·refine vs ?_;exact .inl ⟨m,rfl,br.same h (aj.refl _ _)⟩
 ·refine vs ?_;refine(kU h x).mono ?_;rintro _ t (⟨y,_,_⟩| ⟨_,rfl,e⟩)
  ·exact absurd (bg.1 (by have:=bi.1 z;omega)) y
  refine vs ?_;exact .inr ⟨x,z,rfl,e⟩
theorem Hw(n:Nat):qD (.iface 152 (ptr n)) (dF n) where
 slt h:=h.slt
 ext h e hd:=h.ext e hd
 cells:=by
  rintro H S w ⟨B,C,L,tops,ch,ax,rfl,m,l,r⟩;exact⟨B.c,C,m.cells⟩
 has:=by
  rintro H S w g ⟨B,C,L,tops,ch,ax,rfl,m,l,r⟩;obtain⟨d,j,_⟩:=m.own;exact⟨_,_,221,ptr B.c,rfl,cC (off:=0) Y (ae j) rfl,(ie m.cells g).mono fun v J y=>y⟩
 make:=by
  intro H S w h;exact⟨_,_,299,ptr n,rfl,ba Y,(yH h).mono fun v J y=>y⟩
 insert:=by
  intro H S w g x k s h;exact⟨_,_,298,ptr n,rfl,ba Y,(uM h g x k s).mono fun v J y=>y⟩
 min:=by
  intro H S w g h;refine⟨_,_,301,ptr n,rfl,ba Y,(oJ h g).mono ?_⟩;rintro v J ⟨⟨t,rfl⟩| ⟨x,t,rfl⟩,rfl⟩
  ·exact .inl ⟨t,rfl,br.same h (aj.refl _ _)⟩
  ·exact .inr ⟨x,t,rfl,br.same h (aj.refl _ _)⟩
 extract:=by
  intro H S w g h;exact⟨_,_,297,ptr n,rfl,ba Y,(tf h g).mono fun v J y=>y⟩
 j9:=by
  intro H S w x k s h;exact⟨_,_,295,ptr n,rfl,ba Y,(ru h x k s).mono fun v J y=>y⟩
 entry:=by
  rintro H S w x ⟨B,C,L,tops,ch,ax,rfl,m,l,r⟩;obtain⟨d,j,_⟩:=m.own;refine⟨_,_,219,ptr B.c,rfl,cC (off:=0) Y (ae j) rfl,(gG m.cells x).mono ?_⟩;rintro v J ⟨p,f,o⟩;exact⟨⟨B,C,L,tops,ch,ax,rfl,m.fresh f,l,r⟩,f,o⟩
 len:=by
  rintro H S w g ⟨B,C,L,tops,ch,ax,rfl,m,l,r⟩;obtain⟨d,j,_⟩:=m.own;exact⟨_,_,224,ptr B.c,rfl,cC (off:=0) Y (ae j) rfl,(eW m.cells g).mono fun v J y=>y⟩
 home:=by
  rintro H S w x h;obtain⟨B,C,L,tops,ch,ax,rfl,m,l,r⟩:=id h;obtain⟨d,j,_⟩:=m.own;refine⟨_,_,222,ptr B.c,rfl,cC (off:=0) Y (ae j) rfl,(bF m.cells x).mono ?_⟩;rintro v J (⟨t,rfl,rfl⟩| ⟨t,rfl,p,q⟩)
  ·exact .inl ⟨t,rfl,br.same h (aj.refl _ _)⟩
  ·exact .inr ⟨t,rfl,br.same ⟨B,C,L,tops,ch,ax,rfl,m.aD p q rfl,l,r⟩ (q.mono fun z _ u=>(r z).2 (.inl u))⟩
 delete:=by
  intro H S w x h;exact⟨_,_,296,ptr n,rfl,ba Y,(kU h x).mono fun v J y=>y⟩
 vI:=by
  intro H S w a b h;exact⟨_,_,300,ptr n,rfl,ba Y,(yI h a b).mono fun v J y=>y⟩
section
variable {H J : Hp} {ro ro' : Nat → Rl} {fb tb n : Nat} {l : List Value} {V : Int → Value} {ch : Int → List Int} {ax : Int → Int} {kb : Int → Option Nat} {T : Nat → Prop}
theorem tg(m:ForM H ro fb tb n l V ch ax kb){a:Option Addr}{c:Nat}{xs:List Int}(h:bX H 1 (.slice a xs.length c) xs.length (xs.map i64))(N:∀x∈xs,(0<=x/\x<n)/\ax x= -1)(q:B9 ch xs)(hm:xs.length<=1000000):
  aF 288 [ptr fb,.slice a xs.length c] H fun v J=>ak (v= .bool true/\J=H):=by
 refine aT wB ?_;refine vs ?_;refine bj.intro (fun m env J=>J=H/\∃j:Nat,m=xs.length - j/\j<=xs.length/\env=[(0,ptr fb),(1,.slice a xs.length c),(7,.slice a xs.length c),(8,i64 xs.length),(9,i64 j)]) xs.length Z ?_;rintro mm env D ⟨d,j,rfl,E,rfl⟩;obtain rfl:=d.symm;refine vs ?_;refine ai.dec (fun F=>?_) (fun F=>?_)<;>refine vs ?_
 ·have K:j<xs.length:=O;obtain⟨x,z⟩:∃x,xs[j]? =some x:=⟨_,ajL K⟩;obtain⟨_,b,o,lb,rfl,Q,P⟩:=bX.num h z;obtain⟨I,G⟩:=N x Z;refine⟨O,?_⟩;refine v4 Q Int.toNat_natCast ajM P ?_;refine(gT m.t x).mono ?_;rintro _ J ⟨rfl,e⟩;obtain rfl:=e.symm;rw[ajQ I,ajQ G];refine vs ?_;refine ai.dec (fun p=>?_) (fun p=>?_)
  ·obtain⟨k,rfl⟩:∃k,j=k+1:=⟨j - 1,O⟩;obtain⟨y,t⟩:∃y,xs[k]? =some y:=Z;obtain⟨_,b',o',S4,r,U,A⟩:=bX.num h t;injection r with r;injection r with f u;subst f u;have X:(ch y).length< (ch x).length:=by
    have:=List.pairwise_iff_getElem.1 q k (k+1) O O O;rw[ajL O]at z t;injection z with z;injection t with t;rw[z,t]at this;exact this
   refine vs ?_;rw[wrap64 (n:=((k+1:Nat):Int) - 1) O O,show((k+1:Nat):Int) - 1=(k:Int) by omega];refine⟨O,?_⟩;refine v4 U Int.toNat_natCast ajM A ?_;refine(dI m y).mono ?_;rintro _ J ⟨rfl,e⟩;obtain rfl:=e.symm;refine vs ?_;refine(dI m x).mono ?_;rintro _ J ⟨rfl,e⟩;obtain rfl:=e.symm;refine vs ?_;refine ai.dec (fun M=>O) (fun _=>?_);refine vs ?_;rw[wrap64 (n:=((k+1:Nat):Int)+1) O O];exact⟨xs.length - (k+1+1),O,trivial,k+1+1,rfl,O,rfl⟩
  ·refine vs ?_;rw[wrap64 (n:=(j:Int)+1) O O];exact⟨xs.length - (j+1),O,trivial,j+1,rfl,O,rfl⟩
 ·exact⟨rfl,rfl⟩
theorem oK(t:lZ H fb tb n l V ax)(N:0<=x/\x<n){d:Value}{m:Nat}{ks:List Int}{fp:Option Nat}(s:Sl H 1 d m (ks.map i64) fp)(D:fp≠some tb)(P:∀k∈ks,0<=k/\k<n)(E:ks.length<=1000000):
  aF 285 [ptr fb,i64 x,d] H fun v J=>ak (∃l',lZ J fb tb n l' (sM V x d) (fun z=>if z∈ks then x else ax z)/\aj (fun z=>z=tb) H J):=by
 obtain rfl:m=ks.length:=by
  have:=s.1;grind
 obtain⟨e,y,rfl⟩:=Sl.shape s;have ze:=t.len;refine aT sk ?_;refine v1 (ae t.own) ?_;refine⟨O,?_⟩;refine v3 t.sN ajJ Nat.add_zero ?_;refine⟨O,?_⟩;obtain⟨o,p⟩:=t.sM N (.slice e ks.length y);refine vs ?_;have s1:=s.ext p Z;have X:=o.len;generalize H.wr tb (l.set (x.toNat*2) (.slice e ks.length y))=f at*;refine bj.intro (fun mm env J=>∃ (j:Nat) (l':List Value),mm=ks.length - j/\j<=ks.length/\lZ J fb tb n l' (sM V x (.slice e ks.length y)) (fun z=>if z∈ks.take j then x else ax z)/\aj (fun z=>z=tb) f J/\
  env=[(0,ptr fb),(1,i64 x),(16,.slice e ks.length y),(17,i64 ks.length),(18,i64 j)]) ks.length ⟨0,_,O,O,by simpa using o,aj.refl _ _,rfl⟩ ?_
 rintro mm env G ⟨j,l2,rfl,M,h,r,rfl⟩;have s2:=s1.ext r Z;have Oq:=h.len;refine vs ?_;refine ai.dec (fun F=>?_) (fun F=>?_)<;>refine vs ?_
 ·have A:j<ks.length:=O;obtain⟨k,q⟩:∃k,ks[j]? =some k:=⟨_,ajL A⟩;obtain⟨_,b,lb,rfl,Q,U⟩:=Sl.wN s2 q;have K:=P k Z;refine⟨O,?_⟩;refine v6 (ae Q) ajJ ajM Int.toNat_natCast U (ae h.own) ?_;refine⟨O,?_⟩;refine v3 h.sN ajJ Nat.add_zero ?_;refine⟨O,?_⟩;obtain⟨t3,u⟩:=h.aN K x;refine vs ?_;rw[wrap64 (n:=(j:Int)+1) O O];refine⟨ks.length - (j+1),O,j+1,l2.set (k.toNat*2+1) (i64 x),rfl,O,?_,r.trans u,rfl⟩;have I:ks.take (j+1)=ks.take j++[k]:=by rw[aj2,q];rfl
  have:(fun z=>if z∈ks.take (j+1)then x else ax z)=aN (fun z=>if z∈ks.take j then x else ax z) k x:=by
   funext z;unfold aN;rw[I];by_cases hz:z=k
   ·grind
   ·grind
  grind
 ·obtain rfl:j=ks.length:=O;rw[aj8]at h;exact⟨l2,h,p.trans r⟩
theorem RK.kbs{s:Nat}(r:RK s ro ro'){z:Nat}(m:z<s)(h:KB ro' z):KB ro z:=by
 rcases h with h| ⟨x,h⟩
 ·refine .inl ?_;cases r;grind
 ·refine .inr ?_;cases r;grind
theorem At(m:ForM H ro fb tb n l V ch ax kb)(P:∀z,H.size<=z->ro z= .no)(y:0<=x/\x<n)(E:ax x= -1)(hl:(ch x).length<=65536):
  aF 282 [ptr fb,i64 x] H fun v J=>ak (∃ro' l' V' vC fp,ForM J ro' fb tb n l' V' (aA ch x []) (fj ch ax x) vC/\RK H.size ro ro'/\(∀z,J.size<=z->ro' z= .no)/\aj (KB ro) H J/\
   Sl J 1 v (ch x).length ((ch x).map i64) fp/\∀b,fp=some b->H.size<=b/\ro' b= .no):=by
 have ht:=m.t.len;obtain⟨a1,a2⟩:=m.t.at_ x y.1 y.2;have p:=m.kd x y.1 y.2;obtain⟨A,F,D⟩:=Sl.shape p;rw[D]at a1 p;refine aT si ?_;refine vs ?_;refine(gT m.t x).mono ?_;rintro _ J ⟨rfl,e⟩;obtain rfl:=e.symm;rw[ajQ y,ajQ E];refine v1 (ae m.t.own) ?_;refine⟨O,?_⟩;refine v5 (ae m.t.own) (ae m.t.sN) ajJ Nat.add_zero a1 ?_;refine⟨O,?_⟩;refine v3 m.t.sN ajJ Nat.add_zero ?_;refine⟨O,?_⟩;obtain⟨q,K,M,r1,n1,o⟩:=m.put P y (aj.refl _ H) (Sl.nil H 1) (w':=.slice none 0 0) (L':=[]) (.inr (.inl rfl)) (by simp);refine vs ?_;have agt:∀b,kb x=some b->b≠tb:=fun b U e=>by
  have:=m.rk x b y.1 y.2 U;rw[e,m.rt]at this;grind
 have s1:=p.ext (m.t.sM y (.slice none 0 0)).2 O;generalize H.wr tb (l.set (x.toNat*2) (.slice none 0 0))=N at*;refine bj.intro (fun mm env J=>∃ (j:Nat) (l':List Value),mm=(ch x).length - j/\j<=(ch x).length/\ForM J q fb tb n l' (sM V x (.slice none 0 0)) (aA ch x []) (fun z=>if z∈(ch x).take j then -1 else ax z) K/\aj (fun z=>z=tb) N J/\
  env=[(0,ptr fb),(5,.slice A (ch x).length F),(27,.slice A (ch x).length F),(28,i64 (ch x).length),(29,i64 j)]) (ch x).length ⟨0,_,O,O,by simpa using M,aj.refl _ _,rfl⟩ ?_
 rintro mm env H2 ⟨j,l2,rfl,hj,t,r,rfl⟩;have s2:=s1.ext r O;have Oq:=t.t.len;have hrt:q tb= .table:=t.rt;refine vs ?_;refine ai.dec (fun G=>?_) (fun G=>?_)<;>refine vs ?_
 ·have I:j< (ch x).length:=O;obtain⟨k,f⟩:∃k,(ch x)[j]? =some k:=⟨_,ajL I⟩;obtain⟨_,b,lb,rfl,X,q3⟩:=Sl.wN s2 f;have u:=m.Ex x k Z;refine⟨O,?_⟩;refine v6 (ae X) ajJ ajM Int.toNat_natCast q3 (ae t.t.own) ?_;refine⟨O,?_⟩;refine v3 t.t.sN ajJ Nat.add_zero ?_;refine⟨O,?_⟩;obtain⟨m3,_⟩:=t.aN u (-1);obtain⟨_,Q⟩:=t.t.aN u (-1);refine vs ?_;rw[wrap64 (n:=(j:Int)+1) O O];refine⟨(ch x).length - (j+1),O,j+1,l2.set (k.toNat*2+1) (i64 (-1)),rfl,O,?_,r.trans Q,rfl⟩;have tk:(ch x).take (j+1)=(ch x).take j++[k]:=by rw[aj2,f];rfl
  have:(fun z=>if z∈(ch x).take (j+1)then(-1:Int)else ax z)=aN (fun z=>if z∈(ch x).take j then -1 else ax z) k (-1):=by
   funext z;unfold aN;rw[tk];by_cases P:z=k
   ·grind
   ·grind
  grind
 ·obtain rfl:j=(ch x).length:=O;rw[aj8]at t;refine(mS s2.rd O).mono ?_;rintro v H3 ⟨d,fp,s3,yc⟩;have z2:=r.size;have z1:=o.size;have z3:=d.size;refine vs ?_;refine⟨q,l2,_,K,fp,t.fresh d,r1,Z,?_,s3,Z⟩;exact(o.trans (r.mono fun z JO h=>.inl (by rw[h];exact m.rt))).trans (d.mono fun _ _ h=>h.elim)
def kV(j k:Nat):List Value:=(List.replicate j [Value.slice none 0 0,Value.int .i64 (-1)]).flatten++(List.replicate k [Value.slice none 0 0,Value.int .i64 0]).flatten
theorem Gj(j:Nat)(a b:Value):((List.replicate j [a,b]).flatten).length=j*2:=by
 simp_all
theorem O0{j i:Nat}(a b:Value)(hi:i<j):((List.replicate j [a,b]).flatten)[i*2]? =some a/\((List.replicate j [a,b]).flatten)[i*2+1]? =some b:=by
 induction j generalizing i with
 |zero=>omega
 |succ j x=>
  rw[akv,ak2];cases i with
  |zero=>grind
  |succ i=>
   grind
theorem M5(j k:Nat):(kV j k).length=(j+k)*2:=by grind [kV,Gj]
theorem M6(j k:Nat):(kV j (k+1)).set (j*2+1) (Value.int .i64 (-1))=kV (j+1) k:=by
 unfold kV;rw[ala _ _ (by simp_all),Gj,show j*2+1 - j*2=1 by omega,akv,ak2,ale,List.flatten_append];simp
theorem DX(H:Hp){n:Int}(F:0<=n/\n<=65536):aF 123 [i64 n] H fun v J=>ak (∃fb tb l,v= .tuple [ptr fb,i64 0].toArray/\lZ J fb tb n.toNat l (fun _=>.slice none 0 0) (fun _=> -1)/\af H J/\H.size<=fb/\H.size<=tb):=by
 refine aT IM ?_;refine vs ?_;refine ai.dec (fun g=>absurd g O) (fun _=>?_);refine vs ?_;refine ai.dec (fun g=>absurd g O) (fun _=>?_);refine vs ?_;refine⟨O,?_⟩;refine vs ?_;rw[show dw [Value.slice none 0 0,Value.int .i64 0] n.toNat=kV 0 n.toNat from rfl];obtain⟨N,p⟩:∃N:Nat,n=(N:Int):=⟨n.toNat,O⟩;subst p;rw[Int.toNat_natCast];have d:af H ((H.new 290 (kV 0 N)).new 288 [.slice (some ⟨H.size,0,none⟩) N N]):=bD.new _ _;have f:((H.new 290 (kV 0 N)).new 288 [.slice (some ⟨H.size,0,none⟩) N N]).own (H.size+1)=some [.slice (some ⟨H.size,0,none⟩) N N]:=az (by simp only[ag]);have u:((H.new 290 (kV 0 N)).new 288 [.slice (some ⟨H.size,0,none⟩) N N]).own H.size=some (kV 0 N):=by
  rw[ay (by simp only[ag];omega),am]
 generalize (H.new 290 (kV 0 N)).new 288 [.slice (some ⟨H.size,0,none⟩) N N]=H0 at*;refine bj.intro (fun m env J=>∃j:Nat,m=N - j/\j<=N/\aj (fun z=>z=H.size) H0 J/\J.own H.size=some (kV j (N - j))/\
  env=[(4,ptr (H.size+1)),(20,i64 N),(21,i64 j)]) N ⟨0,O,O,aj.refl _ _,u,rfl⟩ ?_
 rintro m env h ⟨j,rfl,A,e,y,rfl⟩;have t:=e.own f O;have K:=M5 j (N - j);refine vs ?_;refine ai.dec (fun q=>?_) (fun q=>?_)<;>refine vs ?_
 ·refine v1 (ae t) ?_;refine⟨O,?_⟩;refine v4 y ajJ Nat.add_zero Int.toNat_natCast ?_;refine⟨O,?_⟩;refine vs ?_;have r:aj (fun z=>z=H.size) h (h.wr H.size ((kV j (N - j)).set (j*2+1) (Value.int .i64 (-1)))):=(aj.refl (fun z=>z=H.size) _).wr (fun _=>rfl) _;have o:(h.wr H.size ((kV j (N - j)).set (j*2+1) (Value.int .i64 (-1)))).own H.size=some ((kV j (N - j)).set (j*2+1) (Value.int .i64 (-1))):=ah y;rw[wrap64 (n:=(j:Int)+1) O O];refine⟨N - (j+1),O,j+1,rfl,O,e.trans r,?_,rfl⟩;rw[o,show N - j=(N - (j+1))+1 by omega,M6]
 ·obtain rfl:j=N:=O;refine⟨H.size+1,H.size,_,rfl,⟨t,y,O,fun x P Q=>?_,O⟩,d.then e O,O,O⟩;unfold kV;rw[alj,List.replicate_zero,List.flatten_nil,ake];exact O0 _ _ O
end
end
theorem Hx:∀ {l:List Int} {i:Nat} {x p:Int},l.Nodup->p∉l->l[i]? =some x->l.set i p=l.map (gg x p):=by
 intro l;induction l with
 |nil=>grind
 |cons a r t=>
  intro i x p z e h;have m:=aj1.1 z;have y:p∉r:=Z;cases i with
  |zero=>
   grind [nN,xn]
  |succ i=>
   grind [jK]
def Hy(x p:Int):Rl->Rl
 | .rF y=>.rF (gg x p y)
 |r=>r
section
variable {H J : Hp} {ro ro' : Nat → Rl} {fb tb n : Nat} {l : List Value} {V : Int → Value} {ch : Int → List Int} {ax : Int → Int} {kb : Int → Option Nat} {T : Nat → Prop}
variable {hm : Int → Int} {lt : Int → Int → Bool} {rows : Int → List Int} {W : List Int}
theorem Sl.QZ{H:Hp}{v:Value}{m:Nat}{xs:List Int}{fp:Option Nat}(s:Sl H 1 v m (xs.map i64) fp){i:Nat}{x:Int}(e:xs[i]? =some x):∃b h c,v= .slice (some ⟨b,0,none⟩) m c/\fp=some b/\H.own b=some h/\h[i]? =some (i64 x)/\i<m/\m<=h.length/\m=xs.length:=by
 obtain⟨a,c,rfl⟩:=Sl.shape s;have z:=s.1;rw[aka,ajM]at z;obtain⟨y,b,h,rfl,q,o⟩:=Sl.wN s e;cases fp with
 |none=>have:=s.2.2;grind
 |some b'=>
  obtain⟨_,p,c',d,j,t,r,_⟩:=s;grind
theorem lZ.abk{H:Hp}{fb tb n:Nat}{l:List Value}{V V':Int->Value}{U U':Int->Int}(t:lZ H fb tb n l V U)(h:∀x:Int,0<=x->x<n->V' x=V x/\U' x=U x):lZ H fb tb n l V' U':=
 ⟨t.own,t.sN,t.len,fun x z m=>by obtain⟨e,y⟩:=h x z m;rw[e,y];exact t.at_ x z m,t.ne⟩
theorem BS(m:ForM H ro fb tb n l V ch ax kb)(hz:∀z,H.size<=z->ro z= .no)(w:gX hm lt ch ax rows W){x p:Int}(f:0<=x/\x<n)(K:0<=p/\p<n)(G:x∈ch p)(R2:ax p≠ -1->0<=ax p/\ax p<n)(hn:n<=65536):
  aF 279 [ptr fb,i64 x] H fun v J=>ak (v= .bool true/\∃ro' l' V' vC,ForM J ro' fb tb n l' V' (Cn ch x p) (Gu ax x p) vC/\RK H.size ro ro'/\(∀z,J.size<=z->ro' z= .no)/\aj (KB ro) H J/\∀z,ro z= .no->ro' z= .no):=by
 obtain⟨Q,d2,d3,d4,d5⟩:=w.pr.dn p x G;have iC:=w.less G;have FO:p≠x:=Z;have npp:p∉ch p:=fun h=>by have:=w.less h;omega
 have npx:p∉ch x:=fun h=>by have:=w.less h;omega
 have nxx:x∉ch x:=fun h=>by have:=w.less h;omega
 have MU:∀z,(ch z).length<=n:=fun z=>cm (w.pr.nd z) fun c A=>m.Ex z c A;have agw:=MU x;have agx:=MU p;have ze:=m.t.len;obtain⟨x1,x2⟩:=m.t.at_ x f.1 f.2;obtain⟨p1,p2⟩:=m.t.at_ p K.1 K.2;have sx:=m.kd x f.1 f.2;have D:=m.kd p K.1 K.2;obtain⟨oa,oc,hvx⟩:=Sl.shape sx;obtain⟨i,hi,e⟩:=ak3.1 G;obtain⟨bp,lp,cp,SW,hkp,qp,qpi,MI,Y6,_⟩:=Sl.QZ D (i:=i) (x:=x) Z;have PY:=m.rk p bp K.1 K.2 hkp;have hbt:bp≠tb:=fun e=>by rw[e,m.rt]at PY;cases PY
 have hbf:bp≠fb:=fun e=>by rw[e,m.rf]at PY;cases PY
 have hkx:∀b,kb x=some b->b≠tb/\b≠bp:=fun b hb=>by
  have:=m.rk x b f.1 f.2 hb;refine⟨fun e=>(by rw[e,m.rt]at this;grind),fun e=>?_⟩;grind
 rw[hvx]at x1;rw[SW]at p1;refine uS ui ⟨rfl,?_⟩;refine v1 kO.eq_1 ?_;refine(nF m.t f).mono ?_;rintro _ J ⟨⟨h,_⟩| ⟨_,rfl⟩,e⟩
 ·rw[Q]at h;exact absurd h d2
 obtain rfl:=e.symm;rw[Q];refine v1 (ae m.t.own) ?_;refine⟨O,?_⟩;refine v5 (ae m.t.own) (ae m.t.sN) ajJ Nat.add_zero x1 ?_;refine⟨O,?_⟩;refine v5 (ae m.t.own) (ae m.t.sN) ajJ Nat.add_zero p1 ?_;refine⟨O,?_⟩;refine v5 (ae m.t.own) (ae m.t.sN) ajJ Nat.add_zero p2 ?_;rw[SW]at D;refine(fK D.rd x O).mono ?_;rintro _ J ⟨⟨j,rfl,r⟩,e⟩;obtain rfl:=e.symm;obtain⟨hj0,r⟩:=r.resolve_left (fun h=>h.2 G);obtain⟨k,rfl⟩:∃k:Nat,j=(k:Int):=Z;rw[Int.toNat_natCast]at r;have hkl:=(ajK.1 r).1;refine vs ?_;refine⟨⟨O,O⟩,?_⟩;refine v4 qp ajJ ajM Int.toNat_natCast ?_;refine⟨O,?_⟩;refine vs ?_;rw[hkp]at D;have sp1:=D.nQ qp k (i64 p);have u:aj (fun z=>z=bp) H (H.wr bp (lp.set k (i64 p))):=(aj.refl (fun z=>z=bp) _).wr (fun _=>rfl) _;rw[<-akd,Hx (w.pr.nd p) npp r]at sp1;have t1:=m.t.ext u (Ne.symm hbf) (Ne.symm hbt);have sx1:=sx.ext u Z;generalize H.wr bp (lp.set k (i64 p))=H1 at*;have hlm:((ch p).map (gg x p)).length=(ch p).length:=aka ..
 have pQ:∀z,z∈(ch p).map (gg x p)↔(z=p\/(z∈ch p/\z≠x)):=by grind [gg]
 refine(oK t1 f sp1 Z (fun c A=>?_) O).mono ?_
 ·rcases(pQ c).1 A with h|h
  ·omega
  ·exact m.Ex p c h.1
 rintro _ H2 ⟨l2,t2,t⟩;refine vs ?_;have sx2:=sx1.ext t Z;rw[hvx]at sx2;refine(oK t2 K sx2 Z (fun c A=>m.Ex x c A) O).mono ?_;rintro _ H3 ⟨l3,t3,P⟩;have OA:=t3.len;refine v1 (ae t3.own) ?_;refine⟨O,?_⟩;refine v3 t3.sN ajJ Nat.add_zero ?_;refine⟨O,?_⟩;obtain⟨t4,U⟩:=t3.aN f (ax p);refine vs ?_;have Vn:=t4.len;generalize H3.wr tb (l3.set (x.toNat*2+1) (i64 (ax p)))=H4 at*;generalize l3.set (x.toNat*2+1) (i64 (ax p))=l4 at*;have F:aj (fun z=>z=tb) H1 H4:=(t.trans P).trans U;have Xm:x≠ -1:=w.pr.ne G;have gx:ax p≠x:=fun e=>by
  by_cases hq:ax p= -1
  ·omega
  ·have:=w.less (w.pr.up p _ rfl hq);grind
 have gpp:ax p≠p:=fun e=>by
  have:=w.less (w.pr.up p p e d2);omega
 have M:lZ H4 fb tb n l4 (fun z=>V (gg x p z)) (Gu ax x p):=by
  refine t4.abk fun z q N=>⟨?_,?_⟩
  ·by_cases d:z=x
   ·rw[d,nN];unfold sM;grind
   ·by_cases t:z=p
    ·rw[t,AL];unfold sM;grind
    ·rw[jK d t];unfold sM;grind
  ·show gg x p (ax (gg x p z))=(if z=x then ax p else if z∈ch x then p else if z∈(ch p).map (gg x p)then x else ax z);by_cases d:z=x
   ·rw[if_pos d,d,nN,jK gx gpp]
   ·rw[if_neg d];by_cases t:z=p
    ·rw[t,AL,Q,AL,if_neg npx,if_pos Z]
    ·rw[jK d t];by_cases P:z∈ch x
     ·rw[if_pos P,(w.pr.dn x z P).1,nN]
     ·rw[if_neg P];by_cases U:z∈ch p
      ·rw[if_pos Z,(w.pr.dn p z U).1,AL]
      ·rw[if_neg Z];rw[jK (fun h=>P (w.pr.up z x h Xm)) (fun h=>U (w.pr.up z p h d2))]
 have hRK:∀H5:Hp,aj (fun z=>z=bp\/z=tb\/kb (ax p)=some z/\ax p≠ -1) H H5->RK H.size ro (fun z=>Hy x p (ro z))/\(∀z,H5.size<=z->Hy x p (ro z)= .no)/\aj (KB ro) H H5:=fun H5 I=>by
  refine⟨⟨fun z JO hk=>?_,by grind [Hy,gg],by grind [Hy,gg]⟩,fun z JO=>?_,I.mono fun z _ h=>?_⟩
  ·cases hr:ro z with
   |rF y=>grind
   |_=>rfl
  ·cases I;grind [Hy]
  ·rcases h with h|h| ⟨h,hq⟩
   ·exact .inr Z
   ·exact .inl (by rw[h];exact m.rt)
   ·obtain⟨q,N⟩:=R2 hq;exact .inr ⟨ax p,m.rk _ z q N h⟩
 have Xn:∀z:Int,¬ (0<=z/\z<n)->Cn ch x p z=[]:=fun z JO=>by
  unfold Cn;rw[jK O O,m.no z JO];rfl
 have hrS:∀z:Int,(0<=z/\z<n)->0<=gg x p z/\gg x p z<n:=by grind [gg]
 have R5:∀z c,c∈Cn ch x p z->0<=c/\c<n:=fun z c A=>by
  have:=hrS _ (m.Ex _ _ (mI.1 A));rwa[oS]at this
 have hkd:∀z:Int,0<=z->z<n->z≠ax p->Sl H4 1 (V (gg x p z)) (Cn ch x p z).length ((Cn ch x p z).map i64) (kb (gg x p z)):=fun z q N hzg=>by
  by_cases d:z=x
  ·unfold Cn;rw[d,nN,hkp,SW];rw[hlm];exact sp1.ext F Z
  ·by_cases t:z=p
   ·unfold Cn;rw[t,AL,hvx,xn nxx npx];exact(sx2.ext P Z).ext U Z
   ·unfold Cn;rw[jK d t];have nx:x∉ch z:=fun h=>t (by rw[<- (w.pr.dn z x h).1,Q]);have np:p∉ch z:=fun h=>hzg (w.pr.dn z p h).1.symm;rw[xn nx np];refine((m.kd z q N).ext u (fun b hb e=>?_)).ext F (fun b hb e=>?_)
    ·cases m;grind
    cases m;grind
 have Xo:∀ (z:Int) b,0<=z->z<n->kb (gg x p z)=some b->Hy x p (ro b)= .rF z:=fun z b q N hb=>by
  obtain⟨E,X⟩:=hrS z ⟨q,N⟩;cases m;grind [Hy,oS]
 refine ai.dec (fun q=>?_) (fun q=>?_)<;>refine vs ?_
 ·obtain⟨r1,r2,r3⟩:=hRK H4 ((u.mono fun z _ h=>.inl h).trans (F.mono O));refine⟨rfl,_,l4,_,fun z=>kb (gg x p z),⟨M,Z,by rw[m.rf];rfl,by rw[m.rt];rfl,Xo,R5,Xn⟩,r1,r2,r3,by grind [Hy,gg]⟩
 ·obtain⟨E,X⟩:=R2 q;have Nu:=w.pr.up p _ rfl q;obtain⟨ig,hig,eg⟩:=ak3.1 Nu;have sg:=m.kd (ax p) E X;obtain⟨o,lg,cg,hvg,hkg,qg,qgi,agA,xh,_⟩:=Sl.QZ sg (i:=ig) (x:=p) Z;have R3:=m.rk _ o E X hkg;have hgt:o≠tb:=fun e=>by rw[e,m.rt]at R3;cases R3
  have hgb:o≠bp:=Z;have hgf:o≠fb:=fun e=>by rw[e,m.rf]at R3;cases R3
  obtain⟨a1,a2⟩:=M.at_ _ E X;rw[jK gx gpp,hvg]at a1;refine v1 (ae M.own) ?_;refine⟨O,?_⟩;refine v4 (ae M.sN) ajJ Nat.add_zero a1 ?_;have qg4:=F.own (u.own qg hgb) hgt;have sg4:Sl H4 1 (.slice (some ⟨o,0,none⟩) (ch (ax p)).length cg) (ch (ax p)).length ((ch (ax p)).map i64) (some o):=by
   rw[hvg,hkg]at sg;exact(sg.ext u Z).ext F Z
  have agB:=MU (ax p);refine(fK sg4.rd p O).mono ?_;rintro _ J ⟨⟨j,rfl,r⟩,e⟩;obtain rfl:=e.symm;obtain⟨hj0,r⟩:=r.resolve_left (fun h=>h.2 Nu);obtain⟨k,rfl⟩:∃k:Nat,j=(k:Int):=Z;rw[Int.toNat_natCast]at r;have hkl:=(ajK.1 r).1;refine vs ?_;refine⟨⟨O,O⟩,?_⟩;refine v4 qg4 ajJ ajM Int.toNat_natCast ?_;refine⟨O,?_⟩;refine vs ?_;have sg5:=sg4.nQ qg4 k (i64 x);have I:aj (fun z=>z=o) H4 (H4.wr o (lg.set k (i64 x))):=(aj.refl (fun z=>z=o) _).wr (fun _=>rfl) _;have nxg:x∉ch (ax p):=fun h=>gpp (by rw[<- (w.pr.dn _ x h).1,Q]);have O1:(ch (ax p)).map (gg p x)=(ch (ax p)).map (gg x p):=akG (by grind [gg]);rw[<-akd,Hx (w.pr.nd _) nxg r,O1]at sg5;obtain⟨r1,r2,r3⟩:=hRK _ (((u.mono fun z _ h=>.inl h).trans (F.mono O)).trans (I.mono Z));refine⟨rfl,_,l4,_,fun z=>kb (gg x p z),⟨M.ext I O O,fun z q0 q1=>?_,by rw[m.rf];rfl,by rw[m.rt];rfl,Xo,R5,Xn⟩,r1,r2,r3,by grind [Hy,gg]⟩;by_cases hzg:z=ax p
  ·unfold Cn;grind [jK]
  grind [Sl.ext,jK]
end
def Fw(H:Hp)(v:Value)(xs:List Int)(nb:Option Nat):Prop:=
 ∃a c,v= .slice a xs.length c/\xs.length<=c/\(c=0\/∃b o l,a=some ⟨b,o,none⟩/\nb=some b/\H.own b=some l/\o+c<=l.length/\(l.drop o).take xs.length=xs.map i64)
section
variable {H J : Hp} {ro ro' : Nat → Rl} {B : Nat} {v : Value} {xs : List Int} {T : Nat → Prop} {nb : Option Nat}
theorem Fw.nil(H:Hp)(nb:Option Nat):Fw H (.slice none 0 0) [] nb:=⟨none,0,rfl,ajU _,.inl rfl⟩
theorem Fw.rd(h:Fw H v xs nb):bX H 1 v xs.length (xs.map i64):=by
 obtain⟨a,c,rfl,e,h⟩:=h;refine⟨by simp,?_⟩;rcases h with rfl| ⟨b,o,l,rfl,_,x,z,m⟩
 ·simp_all
 ·exact .inr ⟨b,o,c,l,rfl,ae x,O,Z⟩
theorem Fw.ext(h:Fw H v xs nb)(e:aj T H J)(r:∀z,nb=some z->¬T z):Fw J v xs nb:=by
 obtain⟨a,c,d,j,h⟩:=h;exact⟨a,c,d,j,h.imp_right fun⟨b,o,l,m,x,y,t⟩=>⟨b,o,l,m,x,e.own y (r b x),t⟩⟩
theorem Fw.cap(h:Fw H v xs nb):∃a c,v= .slice a xs.length c/\xs.length<=c:=by
 obtain⟨a,c,z,x,_⟩:=h;grind
theorem Fw.lit{T:TypeId}(x:Int):Fw (H.new T [i64 x]) (.slice (some ⟨H.size,0,none⟩) 1 1) [x] (some H.size):=
 ⟨_,1,rfl,ajU _,.inr ⟨H.size,0,[i64 x],rfl,rfl,am _ _ _,by simp,rfl⟩⟩
theorem Fw.tail{x:Int}{a:Option Addr}{c:Nat}(h:Fw H (.slice a (x::xs).length c) (x::xs) nb)(f:Decidable ((c:Int)=1)):
  Fw H (.slice (@ite (Option Addr) ((c:Int)=1) f a (Option.map (fun(y:Addr)=>y.add (Int.toNat 1*1)) a)) (((xs.length+1:Nat):Int).toNat - Int.toNat 1) ((c:Int).toNat - Int.toNat 1)) xs nb:=by
 rw[show((xs.length+1:Nat):Int).toNat - Int.toNat 1=xs.length by simp,show(c:Int).toNat - Int.toNat 1=c - 1 by simp];obtain⟨u,c',q,p,h⟩:=h;injection q with m P e;subst m e;rw[ajX]at p;refine⟨_,c - 1,rfl,O,?_⟩;by_cases t:(c:Int)=1
 ·omega
 ·rw[if_neg t];rcases h with h| ⟨b,o,l,rfl,r,j,A,z⟩
  ·omega
  ·refine .inr ⟨b,o+1,l,rfl,r,j,O,?_⟩;rw[ajX,akJ]at z;have d:(l.drop (o+1))=(l.drop o).drop 1:=by simp_all
   rw[d,List.take_drop,Nat.add_comm,z];rfl
theorem Fw.push{K:Value->Hp->Prop}{T:TypeId}(h:Fw H v xs nb)(x:Int)(D:xs.length<=1000000)
  (y:∀w' J t,(t=nb\/∃z,t=some z/\H.size<=z/\z<J.size)->Fw J w' (xs++[x]) t->aj (fun z=>nb=some z) H J->K w' J):
  eI T 1 8 [i64 0] v (.slice (some ⟨H.size,0,none⟩) 1 1) (H.new T [i64 x]) K:=by
 have e:af H (H.new T [i64 x]):=bD;have p:=h.rd.fresh e;obtain⟨a,c,rfl,I,h⟩:=h;have A:bX (H.new T [i64 x]) 1 (.slice (some ⟨H.size,0,none⟩) 1 1) 1 [i64 x]:=(Sl.bJ (size:=1) (n:=1) (xs:=[i64 x]) rfl rfl).rd;refine bX.rowOf A (F:=fun m new=>(xs.length+m<=c->m=0->K (.slice a xs.length c) (H.new T [i64 x]))/\
  (xs.length+m<=c->m≠0->qq a fun b o=>aE (EG ((H.new T [i64 x]).own b) ((H.new T [i64 x]).xd b)) fun l=>dZ (o+(xs.length+m)*1<=l.length/\dR new) (K (.slice a (xs.length+m) c) ((H.new T [i64 x]).wr b (aS l (o+xs.length*1) new))))/\
  (c<xs.length+m->Builtin.nextslicecap (xs.length+m) c*8<=2^48/\
   rowOf (H.new T [i64 x]) 1 (.slice a xs.length c) fun _ N=>∀c',xs.length+m<=c'->K (.slice (some ⟨(H.new T [i64 x]).size,0,none⟩) (xs.length+m) c') ((H.new T [i64 x]).new T (N++new++dw [i64 0] (c' - (xs.length+m)))))) ?_
 refine⟨O,fun M _=>?_,fun u=>⟨?_,?_⟩⟩
 ·rcases h with rfl| ⟨b,o,l,rfl,r,q,f,U⟩
  ·omega
  ·have j:=e.own q (fun h=>h);show aE (EG ((H.new T [i64 x]).own b) ((H.new T [i64 x]).xd b)) _;rw[j];refine⟨⟨O,fun v P=>by rw[aj6.1 P];rfl⟩,?_⟩;have d:(xs++[x]).length=xs.length+1:=by simp
   have Q:aj (fun z=>z=b) (H.new T [i64 x]) ((H.new T [i64 x]).wr b (aS l (o+xs.length*1) [i64 x])):=(aj.refl (fun z=>z=b) _).wr (fun _=>rfl) _;refine y _ _ nb (.inl rfl) ⟨some ⟨b,o,none⟩,c,by rw[d],O,.inr ⟨b,o,aS l (o+xs.length*1) [i64 x],rfl,r,ah j,by rw[eA];exact f,?_⟩⟩ ((e.mono fun _ _ h=>h.elim).trans Z);rw[ajM];apply akb;intro k;rw[akn,d];by_cases y:k<xs.length+1
   ·rw[akA y,aks,getElem?_splice [i64 x] l _ _ Z];grind
   grind
 ·have r:Builtin.nextslicecap (xs.length+1) c<=2*(xs.length+1):=nextslicecap_le u;omega
 ·refine bX.rowOf (n:=xs.length) (xs:=xs.map i64) p ?_;intro c' G;have E:(H.new T [i64 x]).size=H.size+1:=ag _ _ _;refine y _ _ (some (H.new T [i64 x]).size) (.inr ⟨_,rfl,O,by simp only[ag];omega⟩) ⟨_,c',by simp,Z,.inr ⟨(H.new T [i64 x]).size,0,_,rfl,rfl,am _ _ _,?_,?_⟩⟩ ((e.mono fun _ _ h=>h.elim).trans bD)
  ·simp only[ajW,aka,rK,ako,ajM];omega
  grind
theorem RK.low{s x:Nat}(r:RK x ro ro')(h:s<=x)(m:∀z,s<=z->ro z= .no):RK s ro ro':=(RK.refl m).trans r h
theorem RK.none{s:Nat}(r:RK s ro ro'){z:Nat}(x:z<s)(h:ro z= .no):ro' z= .no:=by
 cases r;grind
end
section
variable {H J : Hp} {ro ro' : Nat → Rl} {fb tb nn c : Nat} {l : List Value} {V : Int → Value} {ch : Int → List Int} {ax : Int → Int} {kb : Int → Option Nat} {C : Nat → Prop} {w : Nw} {lt : Int → Int → Bool} {rows : Int → List Int} {W : List Int}
theorem gX.win{hm:Int->Int}(f:gX (aH w) lt ch ax rows W){x:Int}(h:x∈W):0<=x/\x<w.cs.length:=by
 obtain⟨a,b,_⟩:=aI (f.wm x h).2;omega
def KC(ro:Nat->Rl)(z:Nat):Prop:=KB ro z\/ro z= .cell
theorem BT(m:ForM H ro fb tb w.cs.length l V ch ax kb)(hz:∀z,H.size<=z->ro z= .no)(hn:∃rest,H.own nn=some (ptr c::rest))(D:CQ H c C w)(j:∀z,C z->ro z= .cell)(E:∀a b,aU w a b=true->lt a b=true)
  {x y:Int}(f:gX (aH w) lt ch ax rows (x::y::W))(M:aH w x=aH w y)(u:(ch x).length=(ch y).length):
  aF 293 [ptr fb,.iface 148 (ptr nn),i64 x,i64 y] H fun v J=>ak (∃p q ro' l' V' vC,v=i64 p/\((p=x/\q=y)\/(p=y/\q=x))/\ForM J ro' fb tb w.cs.length l' V' (aA ch p (ch p++[q])) (aN ax q p) vC/\
   gX (aH w) lt (aA ch p (ch p++[q])) (aN ax q p) rows (p::W)/\CQ J c C w/\RK H.size ro ro'/\(∀z,J.size<=z->ro' z= .no)/\aj (KC ro) H J):=by
 have X:=f.win (hm:=aH w) (x:=x) (by simp);have hyr:=f.win (hm:=aH w) (x:=y) (by simp);obtain⟨x1,x2⟩:=f.wm x (by simp);obtain⟨y1,y2⟩:=f.wm y (by simp);have F:x≠y:=fun e=>by cases f;grind
 have uH:=D.zf;have Zf:(ch x).length<=w.cs.length:=cm (f.pr.nd x) fun c hc=>m.Ex x c hc;obtain⟨rest,ho⟩:=hn;refine aT ul ?_;refine vs ?_;refine⟨_,_,262,ptr c,rfl,cC (off:=0) Y (ae ho) rfl,(cB D y x).mono ?_⟩;rintro _ H1 ⟨rfl,G,o⟩;have m1:=m.ext o (fun z d h=>by
  have:=j z h;rcases d with t|t| ⟨_,t⟩<;>grind)
 have z1:=o.size;have PU:∀z,H1.size<=z->ro z= .no:=Z;rw[fT (w:=w) (a:=y) (b:=x) y2 x2];cases KM:aU w y x
 ·refine vs ?_;have K:=E _ _ (((au w).UN x y F).resolve_right (by rw[KM];simp));refine(qB m1 PU X hyr x1 y1 F u O).mono ?_;rintro _ H2 ⟨rfl,I,l2,P,N,Q,U,d,r⟩;refine vs ?_;refine⟨x,y,I,l2,P,N,rfl,.inl ⟨rfl,rfl⟩,Q,f.link M u K,G.ext r (fun z h A=>?_),U.low z1 hz,d,(o.mono fun z _ h=>.inr (j z h)).trans (r.mono fun z _ h=>.inl h)⟩;have:=j z h;rcases A with t| ⟨_,t⟩<;>grind
 ·refine vs ?_;have K:=E _ _ KM;refine(qB m1 PU hyr X y1 x1 F.symm u.symm O).mono ?_;rintro _ H2 ⟨rfl,I,l2,P,N,Q,U,d,r⟩;refine vs ?_;refine⟨y,x,I,l2,P,N,rfl,.inr ⟨rfl,rfl⟩,Q,(f.perm (List.Perm.swap ..)).link M.symm u.symm K,G.ext r (fun z h A=>?_),U.low z1 hz,d,(o.mono fun z _ h=>.inr (j z h)).trans (r.mono fun z _ h=>.inl h)⟩;have:=j z h;rcases A with t| ⟨_,t⟩<;>grind
end
section
variable{n lo hi:Nat}{x:Int}
theorem bX.sub{H:Hp}{size c:Nat}{a:Option Addr}{xs:List Value}(h:bX H size (.slice a n c) n xs)(x:lo<=hi)(z:hi<=n){b':Option Addr}{c':Nat}(m:lo<hi->b'=a.map (·.add (lo*size))):
  bX H size (.slice b' (hi - lo) c') (hi - lo) ((xs.drop (lo*size)).take ((hi - lo)*size)):=by
 obtain⟨P,d⟩:=h;have q:(hi - lo)*size=hi*size - lo*size:=Nat.sub_mul _ _ _;have f:hi*size<=n*size:=akO _ z;have u:lo*size<=hi*size:=akO _ x;refine⟨Z,?_⟩;by_cases e:lo<hi
 ·rcases d with ⟨K,_⟩| ⟨b,o,p,l,t,y,A,j⟩
  ·omega
  ·right;injection t with r F N;subst r;rw[m e];refine⟨b,o+lo*size,c',l,?_,y,O,?_⟩
   ·simp[Addr.add]
   ·rw[<-j,List.drop_take,List.drop_drop,alb,Nat.min_eq_left O]
 simp_all
theorem O2{H:Hp}{a:Option Addr}{c:Nat}{xs:List Int}(h:bX H 1 (.slice a n c) n (xs.map i64)){lo' hi':Int}(e:lo'=(lo:Int))(m:hi'=(hi:Int))(y:lo<=hi)(t:hi<=n)(j:n<=c):
  ∃z,Value.slice (if(c:Int)=lo' then a else Option.map (fun x:Addr=>x.add (lo'.toNat*1)) a) (hi'.toNat - lo'.toNat) ((c:Int).toNat - lo'.toNat)= .slice z (hi - lo) (c - lo)/\
   bX H 1 (.slice z (hi - lo) (c - lo)) (hi - lo) (((xs.drop lo).take (hi - lo)).map i64)/\hi - lo<=c - lo/\((xs.drop lo).take (hi - lo)).length=hi - lo:=by
 subst e;subst m;have r:=h.1;rw[aka,ajM]at r;refine⟨_,rfl,?_,O,Z⟩;have d:=bX.sub h (lo:=lo) (hi:=hi) y t (c':=(c:Int).toNat - (lo:Int).toNat) (b':=if(c:Int)=(lo:Int)then a else Option.map (fun x:Addr=>x.add ((lo:Int).toNat*1)) a) Z;simp_all
def BU(H:Hp)(ro:Nat->Rl)(B:Nat)(v:Value)(xs:List Int):Prop:=
 ∃a c,v= .slice a xs.length c/\xs.length<=c/\(xs=[]\/∃b o l,a=some ⟨b,o,none⟩/\b<B/\¬KC ro b/\H.rd b=some l/\o+xs.length<=l.length/\(l.drop o).take xs.length=xs.map i64)
section
variable {H J H0 : Hp} {ro ro' TF : Nat → Rl} {B : Nat} {v : Value} {xs : List Int} {T : Nat → Prop}
theorem BU.rd(h:BU H ro B v xs):bX H 1 v xs.length (xs.map i64):=by
 obtain⟨a,c,rfl,e,h⟩:=h;refine⟨by simp,?_⟩;rcases h with rfl| ⟨b,o,l,rfl,_,_,x,z,m⟩
 ·simp_all
 grind
theorem BU.ext(h:BU H ro B v xs)(e:aj T H J)(j:∀z,z<B->¬KC ro z->¬T z)(p:∀z,z<H.size->KC ro' z->KC ro z):BU J ro' B v xs:=by
 obtain⟨a,c,q,d,h⟩:=h;exact⟨a,c,q,d,h.imp_right fun⟨b,o,l,t,x,m,y,r⟩=>⟨b,o,l,t,x,fun h=>m (p b (FY y) h),e.rd y (j b x m),r⟩⟩
theorem BU.tail{a:Option Addr}{c:Nat}(h:BU H ro B (.slice a (x::xs).length c) (x::xs))(P:Decidable ((c:Int)=1)):
  BU H ro B (.slice (@ite (Option Addr) ((c:Int)=1) P a (Option.map (fun(y:Addr)=>y.add (Int.toNat 1*1)) a)) (((xs.length+1:Nat):Int).toNat - Int.toNat 1) ((c:Int).toNat - Int.toNat 1)) xs:=by
 rw[show((xs.length+1:Nat):Int).toNat - Int.toNat 1=xs.length by simp,show(c:Int).toNat - Int.toNat 1=c - 1 by simp];obtain⟨A,c',u,f,h⟩:=h;injection u with m K e;subst m e;rw[ajX]at f;refine⟨_,c - 1,rfl,O,?_⟩;by_cases t:(c:Int)=1
 ·grind
 ·rw[if_neg t];rcases h with h| ⟨b,o,l,rfl,r,j,d,p,z⟩
  ·cases h
  ·rw[ajX]at p z;refine .inr ⟨b,o+1,l,rfl,r,j,d,O,?_⟩;rw[akJ]at z;have q:(l.drop (o+1))=(l.drop o).drop 1:=by simp_all
   rw[q,List.take_drop,Nat.add_comm,z];rfl
theorem BU.head(h:BU H ro B v (x::xs)):∃b o l c,v= .slice (some ⟨b,o,none⟩) (x::xs).length c/\H.rd b=some l/\b<H.size/\l[o]? =some (i64 x)/\(x::xs).length<=c:=by
 obtain⟨a,c,e,m,h⟩:=h;rcases h with h| ⟨b,o,l,rfl,y,t,z,r,j⟩
 ·cases h
 ·refine⟨b,o,l,c,e,z,FY z,?_,m⟩;have d:((x::xs).map i64)[0]? =some (i64 x):=rfl;grind
theorem BU.cap(h:BU H ro B v xs):∃a c,v= .slice a xs.length c/\xs.length<=c:=by
 obtain⟨a,c,z,x,_⟩:=h;grind
theorem RK.kcs{s:Nat}(r:RK s ro ro'){z:Nat}(x:z<s)(h:KC ro' z):KC ro z:=by
 rcases h with h|h
 ·exact .inl (r.kbs x h)
 ·refine .inr ?_;cases r;grind
structure nJ(H0:Hp)(TF:Nat->Rl)(nn fb tb c:Nat)(C:Nat->Prop)(w:Nw)(H:Hp)(ro:Nat->Rl)(l:List Value)(V:Int->Value)(ch:Int->List Int)(ax:Int->Int)(kb:Int->Option Nat)(va vb:Value)(a b:List Int):Prop where
 m:ForM H ro fb tb w.cs.length l V ch ax kb
 cq:CQ H c C w
 hC:∀z,C z->ro z= .cell
 own:∃rest,H.own nn=some (ptr c::rest)
 hn:ro nn= .Ow
 hz:∀z,H.size<=z->ro z= .no
 rk:RK H0.size TF ro
 ra:BU H ro H0.size va a
 rb:BU H ro H0.size vb b
 e:aj (KC TF) H0 H
variable {nn fb tb c : Nat} {C : Nat → Prop} {w : Nw} {l : List Value} {V : Int → Value} {ch : Int → List Int} {ax : Int → Int} {kb : Int → Option Nat} {va vb : Value} {a b : List Int}
theorem nJ.Q0(h:nJ H0 TF nn fb tb c C w H ro l V ch ax kb va vb a b)(e:aj T H J)(p:∀z,T z->H0.size<=z/\ro z= .no):nJ H0 TF nn fb tb c C w J ro l V ch ax kb va vb a b:=by
 have t:∀z r,ro z=r->r≠ .no->¬T z:=Z;obtain⟨rest,d⟩:=h.own;have q:=e.size;refine⟨h.m.ext e (fun z m=>?_),h.cq.ext e (fun z m=>t z _ (h.hC z m) Z),h.hC,⟨rest,e.own d (t nn _ h.hn Z)⟩,h.hn,fun z m=>h.hz z O,h.rk,
  h.ra.ext e Z (fun _ _ h=>h),h.rb.ext e Z (fun _ _ h=>h),?_⟩
 ·rcases m with y|y| ⟨x,y⟩<;>grind
 ·exact⟨akc h.e.size e.size,fun z m j=>by
   rw[e.be z (aj0 m h.e.size) Z,h.e.be z m j]⟩
end
end
theorem BV{H:Hp}{a:Option Addr}{c:Nat}{xs:List Int}(f:FuncId)(h:List Value)(q:Int->Bool)(Inv:Hp->Prop)(M:Inv H)(U:∀J,Inv J->bX J 1 (.slice a xs.length c) xs.length (xs.map i64))(u:eR Tryz.prog f=true)
  (K:∀J x,x∈xs->Inv J->aF f (i64 x::h) J fun v d=>ak (v= .bool (q x)/\Inv d))(hm:xs.length<=1000000000):
  aF 286 [.slice a xs.length c,.func (.func f) #[] h.toArray] H fun v J=>ak (∃i:Int,v=i64 i/\(0<=i↔xs.any q=true)/\Inv J):=by
 refine aT fQ ?_;refine vs ?_;refine bj.intro (fun m env J=>Inv J/\∃j:Nat,m=xs.length - j/\j<=xs.length/\(∀e∈xs.take j,q e=false)/\env=[(0,.slice a xs.length c),(1,.func (.func f) #[] h.toArray),(7,i64 xs.length),(8,i64 j)]) xs.length Z ?_;rintro m env t ⟨y,j,hmj,X,E,rfl⟩;have p:=U t y;refine vs ?_;refine ai.dec (fun N=>?_) (fun N=>?_)<;>refine vs ?_
 ·have F:j<xs.length:=O;obtain⟨e,z⟩:∃e,xs[j]? =some e:=⟨_,ajL F⟩;obtain⟨_,b,o,lb,rfl,I,P⟩:=bX.num p z;refine⟨O,?_⟩;have Q:=ajV z;refine v4 I Int.toNat_natCast ajM P ?_;refine⟨u,?_⟩;refine ee.mono (by simpa using K t e Q y) ?_;rintro _ G ⟨rfl,r⟩;refine vs ?_;cases hx:q e
  ·refine vs ?_;rw[wrap64 (n:=(j:Int)+1) O O];refine⟨xs.length - (j+1),O,r,j+1,rfl,O,?_,rfl⟩;intro D A;rw[aj2,z]at A;grind
  ·refine vs ?_;exact⟨j,rfl,Z,r⟩
 ·refine⟨-1,rfl,?_,y⟩;grind
theorem wW{H:Hp}{a:Option Addr}{c:Nat}{xs:List Int}(f:FuncId)(z:List Value)(q:Int->Bool)(Inv:Hp->Prop)(y:Inv H)(j:∀J,Inv J->bX J 1 (.slice a xs.length c) xs.length (xs.map i64))(t:eR Tryz.prog f=true)
  (r:∀J x,x∈xs->Inv J->aF f (i64 x::z) J fun v e=>ak (v= .bool (q x)/\Inv e))(hm:xs.length<=1000000000):
  aF 289 [.slice a xs.length c,.func (.func f) #[] z.toArray] H fun v J=>ak (v= .bool (xs.any q)/\Inv J):=by
 refine aT jW ?_;refine vs ?_;refine(BV f z q Inv y j t r hm).mono ?_;rintro _ p ⟨i,rfl,hi,d⟩;refine vs ?_;refine⟨ajP Value.bool ?_,d⟩;cases m:xs.any q
 ·rw[m]at hi;exact ajO (fun h=>by cases hi.1 h)
 ·rw[m]at hi;exact ajQ (hi.2 rfl)
theorem wX{H:Hp}{z:Nat}{a:Option Addr}{c:Nat}{xs:List Int}(m:H.own z=some [.slice a xs.length c])(h:bX H 1 (.slice a xs.length c) xs.length (xs.map i64))(hm:xs.length<=1000000)(x:Int):
  aF 290 [i64 x,ptr z] H fun v J=>ak (v= .bool (decide (x∈xs))/\J=H):=by
 refine tE mixed (an:=pu) (by conv=>lhs;cbv) (nt:=7) Y (by simp) ?_;refine v1 (ae m) ?_;refine(sP h x O).mono ?_;rintro _ J ⟨rfl,e⟩;obtain rfl:=e.symm;refine vs ?_;exact⟨rfl,rfl⟩
section
variable {H J : Hp} {ro ro' : Nat → Rl} {nn fb tb c : Nat} {C : Nat → Prop} {w : Nw} {l : List Value} {V : Int → Value} {ch : Int → List Int} {ax : Int → Int} {kb : Int → Option Nat} {va vb : Value} {a b W0 : List Int} {lt : Int → Int → Bool} {rows : Int → List Int} {g : Int}
def TG(e:Env)(fb nn x:Nat)(va z h:Value)(k:Nat):Prop:=
 e.find 0=some (ptr fb)/\e.find 1=some (.iface 148 (ptr nn))/\e.find 2=some va/\e.find 7=some (ptr x)/\e.find 10=some z/\e.find 11=some h/\e.find 12=some (i64 k)
theorem Hz{P:Program}{A B:S}{env:Env}{H:Hp}{z:Env->Hp->Prop}{x:Nat->Env->Hp->Prop}{Kr:Env->Hp->Prop}(I:Env->Hp->Prop)(h:vc P A env H I x Kr)(k:∀e h,I e h->vc P B e h z x Kr):vc P (.seq A B) env H z x Kr:=
 AO A env H _ _ _ _ _ _ k (fun _ _ _ h=>h) (fun _ _ h=>h) h
theorem nJ.abr(h:nJ H ro nn fb tb c C w J ro' l V ch ax kb va vb a b):nJ H ro nn fb tb c C w J ro' l V ch ax kb (.slice none 0 0) (.slice none 0 0) [] []:=
 ⟨h.m,h.cq,h.hC,h.own,h.hn,h.hz,h.rk,⟨none,0,rfl,ajU _,.inl rfl⟩,⟨none,0,rfl,ajU _,.inl rfl⟩,h.e⟩
theorem nJ.abt{z:Value}{x:List Int}(h:nJ H ro nn fb tb c C w J ro' l V ch ax kb va vb a b)(r:BU J ro' H.size z x):nJ H ro nn fb tb c C w J ro' l V ch ax kb z vb x b:=
 ⟨h.m,h.cq,h.hC,h.own,h.hn,h.hz,h.rk,r,h.rb,h.e⟩
theorem nJ.O3{x:Value}{b':List Int}(h:nJ H ro nn fb tb c C w J ro' l V ch ax kb va vb a b)(r:BU J ro' H.size x b'):nJ H ro nn fb tb c C w J ro' l V ch ax kb va x a b':=
 ⟨h.m,h.cq,h.hC,h.own,h.hn,h.hz,h.rk,h.ra,r,h.e⟩
theorem nJ.Au{m:Hp}{q:Value}{out:List Int}{nb r e:Option Nat}(h:nJ H ro nn fb tb c C w J ro' l V ch ax kb va vb a b)(d:J.own H.size=some [vb])(u:Sl J 1 q out.length (out.map i64) e)
  (A:∀z,nb=some z\/e=some z->H.size<z/\z<J.size/\ro' z= .no)(K:∀z,nb=some z->e=some z->False)(t:aj (fun z=>nb=some z) J m)(f:r=nb\/∃z,r=some z/\J.size<=z/\z<m.size):
  nJ H ro nn fb tb c C w m ro' l V ch ax kb va vb a b/\m.own H.size=some [vb]/\Sl m 1 q out.length (out.map i64) e/\(∀z,r=some z\/e=some z->H.size<z/\z<m.size/\ro' z= .no)/\(∀z,r=some z->e=some z->False):=by
 have P:=aC d;have F:=t.size;refine⟨h.Q0 t Z,t.own d Z,u.ext t Z,fun z x=>?_,fun z j p=>?_⟩
 ·rcases x with x|x
  ·rcases f with j| ⟨y,j,p,o⟩
   ·grind
   ·rw[j]at x;injection x with x;subst x;exact⟨O,o,h.hz _ p⟩
  grind
 grind
def O4(H0:Hp)(TF:Nat->Rl)(nn fb tb c:Nat)(C:Nat->Prop)(w:Nw)(lt:Int->Int->Bool)(rows:Int->List Int)(W0:List Int)(g:Int)(h:Int->List Int)(k m e io:Nat)(y:Nat->Prop)(H:Hp)(va vb t r:Value):Prop:=
 ∃ (a b now out:List Int) (nb x:Option Nat) (ro:Nat->Rl) (l:List Value) (V:Int->Value) (ch:Int->List Int) (ax:Int->Int) (kb:Int->Option Nat),
  nJ H0 TF nn fb tb c C w H ro l V ch ax kb va vb a b/\gX (aH w) lt ch ax rows (now++(a++(b++(out++W0))))/\lD (aH w) ch g k m e io a b now out/\y now.length/\
  H.own H0.size=some [vb]/\ro H0.size= .no/\Fw H t now nb/\Sl H 1 r out.length (out.map i64) x/\(∀z,nb=some z\/x=some z->H0.size<z/\z<H.size/\ro z= .no)/\(∀z,nb=some z->x=some z->False)/\(∀z∈W0,ch z=h z)
theorem Av(h0:nJ H ro nn fb tb c C w H ro l V ch ax kb va vb a b)(iC:∀a b,aU w a b=true->lt a b=true)(f0:gX (aH w) lt ch ax rows (a++(b++W0)))(Xp:B9 ch a)(R6:B9 ch b)(hg:∀c,c∈a\/c∈b->aH w c=g):
  aF 283 [ptr fb,.iface 148 (ptr nn),va,vb] H fun v J=>ak (∃out ro' l' V' iw dt vC vo N,v= .tuple [vo,.bool true].toArray/\nJ H ro nn fb tb c C w J ro' l' V' iw dt vC (.slice none 0 0) (.slice none 0 0) [] []/\
   Sl J 1 vo out.length (out.map i64) N/\(∀z,N=some z->H.size<=z/\ro' z= .no)/\gX (aH w) lt iw dt rows (out++W0)/\B9 iw out/\(∀c∈out,aH w c=g)/\∀z∈W0,iw z=ch z):=by
 have uH:=h0.cq.zf;obtain⟨aa,ca,rfl,hca⟩:=h0.ra.cap;obtain⟨ab,cb,rfl,U1⟩:=h0.rb.cap;obtain⟨n1,n2,n3⟩:=akj.1 f0.wn;have mA:∀x∈a++(b++W0),(0<=x/\x<w.cs.length)/\ax x= -1:=fun x hx=>⟨f0.win (hm:=aH w) hx,(f0.wm x hx).1⟩;have OL:=cm n1 fun c hc=>(mA c Z).1;have E5:=cm (akj.1 n2).1 fun c hc=>(mA c Z).1;refine uS sj ⟨rfl,?_⟩;refine v1 jV.eq_1 ?_;have e1:aj (fun z=>H.size<=z) H (H.new 140 [.slice ab b.length cb]):=(bD:af H _).mono fun _ _ h=>h.elim;have Zr:(H.new 140 [.slice ab b.length cb]).own H.size=some [.slice ab b.length cb]:=am _ _ _;have z1:(H.new 140 [.slice ab b.length cb]).size=H.size+1:=ag _ _ _;have h1:=h0.Q0 e1 (fun z hz=>⟨hz,h0.hz z hz⟩);generalize H.new 140 [.slice ab b.length cb]=H1 at*;refine(tg h1.m h1.ra.rd Z Xp O).mono ?_;rintro _ J ⟨rfl,e⟩;obtain rfl:=e.symm;refine v1 (ae Zr) ?_;refine(tg h1.m h1.rb.rd Z R6 O).mono ?_;rintro _ J ⟨rfl,e⟩;obtain rfl:=e.symm;refine vs ?_;refine(wW (H:=H1) 290 [ptr H.size] (fun x=>decide (x∈b)) (fun J=>J=H1) rfl (fun J hI=>by rw[hI];exact h1.ra.rd) (by rfl) (fun J x hx hI=>?_) O).mono ?_
 ·rw[hI];exact wX Zr h1.rb.rd O x
 rintro _ J ⟨rfl,e⟩;obtain rfl:=e.symm;have Xq:(a.any fun x=>decide (x∈b))=false:=Z;rw[Xq];refine vs ?_;have i0:lD (aH w) ch g 0 0 0 0 a b [] []:=⟨Xp,R6,List.Pairwise.nil,O,O,by simp,by simp,Z⟩;have d0:∀z,((none:Option Nat)=some z\/(none:Option Nat)=some z)->H.size<z/\z<H1.size/\ro z= .no:=Z;have d00:∀z,(none:Option Nat)=some z->(none:Option Nat)=some z->False:=Z;have cz0:O4 H ro nn fb tb c C w lt rows W0 g ch 0 0 0 0 (fun n=>n<=1) H1 (.slice aa a.length ca) (.slice ab b.length cb) (.slice none 0 0) (.slice none 0 0):=
  ⟨a,b,[],[],none,none,ro,l,V,ch,ax,kb,h1,f0,i0,Nat.zero_le _,Zr,h0.hz _ (ajU _),Fw.nil _ _,Sl.nil _ _,d0,d00,fun _ _=>rfl⟩
 refine bj.intro (fun mm env J=>∃ (k:Nat) (va vb vn vo:Value),mm=w.cs.length+1 - k/\O4 H ro nn fb tb c C w lt rows W0 g ch k k k k (fun n=>n<=1) J va vb vn vo/\
  env=[(0,ptr fb),(1,.iface 148 (ptr nn)),(2,va),(7,ptr H.size),(10,vo),(11,vn),(12,i64 k)]) _ ⟨0,_,_,_,_,rfl,cz0,rfl⟩ ?_
 clear h1 i0 Zr f0 Xp R6 hg mA n1 n2 n3 OL E5 Xq h0 e1 d0 d00 cz0 hca U1;rintro mm env H2 ⟨k,va,vb,vn,vo,rfl,PZ,rfl⟩;obtain⟨a,b,now,out,nb,N,E,l2,V2,BR,gD,EB,m,f2,d,M7,t,X,A,F,Af,ry,Gk⟩:=id PZ;obtain⟨aa,ca,rfl,hca⟩:=m.ra.cap;obtain⟨ab,cb,rfl,U1⟩:=m.rb.cap;obtain⟨an,cn,rfl,OZ⟩:=A.cap;obtain⟨ao,co,rfl⟩:=Sl.shape F;have K8:=aC t;have eU:=f2.wn;have O5:=cm eU fun c hc=>f2.win (hm:=aH w) hc;simp only[ajW]at O5;refine v1 (ae t) ?_;rw[wrap64 (n:=(a.length:Int)+b.length) O O,wrap64 (n:=(a.length:Int)+b.length+now.length) O O];refine ai.dec (fun hgo=>?_) (fun hgo=>?_);rotate_left
 ·refine vs ?_;have RN:a=[]:=akg.1 O;have PO:b=[]:=Z;have RG:now=[]:=Z;subst RN PO RG;refine⟨out,E,l2,V2,BR,gD,EB,_,N,rfl,m.abr,F,Z,f2,d.ro,fun c hc=>d.hg c Z,Gk⟩
 have ec:∀z,(BR z).length<=w.cs.length:=fun z=>cm (f2.pr.nd z) fun c hc=>m.m.Ex z c hc;have hk:k<=w.cs.length:=by
  by_cases RN:a=[]
  ·by_cases PO:b=[]
   ·obtain⟨x,hx⟩:∃x,x∈now:=by
     cases now with
     |nil=>grind
     |cons x r=>grind
    have:=d.kn x hx;grind
   ·obtain⟨x,r,rfl⟩:=akD PO;have:=d.kb x (by simp);grind
  ·obtain⟨x,r,rfl⟩:=akD RN;have:=d.ka x (by simp);grind
 clear hgo ec O5 eU;rw[O6,Qq,SA,SC];refine Hz (fun e h=>∃va vb vn vo,O4 H ro nn fb tb c C w lt rows W0 g ch k (k+1) k k (fun n=>n<=2) h va vb vn vo/\TG e fb nn H.size va vo vn k) ?_ ?_
 ·refine vs ?_;refine ai.dec (fun ga=>?_) (fun ga=>?_)
  ·obtain⟨x,r,rfl⟩:∃x r,a=x::r:=akD Z;obtain⟨pb,po,pl,pc,hv,o,hpb,P,Xi⟩:=m.ra.head;injection hv with K Q hv3;subst K hv3;refine vs ?_;refine⟨O,?_⟩;refine v5 o P Int.toNat_zero aj7 Nat.add_zero ?_;refine(dI m.m x).mono ?_;rintro _ J ⟨rfl,e⟩;obtain rfl:=e.symm;refine vs ?_;refine ai.dec (fun gd=>?_) (fun gd=>?_)
   ·refine vs ?_;refine⟨O,?_⟩;refine v5 o P Int.toNat_zero aj7 Nat.add_zero ?_;refine A.push x O fun w' j O7 Ny M8 u=>?_;obtain⟨h3,f,K9,PW,Aw⟩:=m.Au t F Af ry u Ny;refine vs ?_;have JQ:(x::r).length=r.length+1:=ajX;refine⟨O,?_⟩;refine vs ?_;have fp:now++(x::r++(b++(out++W0)))=now++[x]++(r++(b++(out++W0))):=by simp
    rw[fp]at f2;exact⟨_,_,_,_,⟨r,b,now++[x],out,O7,N,E,l2,V2,BR,gD,EB,h3.abt (h3.ra.tail _),f2,d.V6 O,Z,f,X,M8,K9,PW,Aw,Gk⟩,rfl,rfl,rfl,rfl,rfl,rfl,rfl⟩
   ·refine vs ?_;exact⟨_,_,_,_,⟨x::r,b,now,out,nb,N,E,l2,V2,BR,gD,EB,m,f2,d.RD Z,O,t,X,A,F,Af,ry,Gk⟩,rfl,rfl,rfl,rfl,rfl,rfl,rfl⟩
  ·refine vs ?_;have RN:a=[]:=akg.1 O;exact⟨_,_,_,_,⟨a,b,now,out,nb,N,E,l2,V2,BR,gD,EB,m,f2,d.RD Z,O,t,X,A,F,Af,ry,Gk⟩,rfl,rfl,rfl,rfl,rfl,rfl,rfl⟩
 clear PZ m f2 d M7 t X A F Af ry Gk K8 hca U1 OZ;rintro e2 H2 ⟨va,vb,vn,vo,PZ,hv⟩;obtain⟨a,b,now,out,nb,N,E,l2,V2,BR,gD,EB,m,f2,d,M7,t,X,A,F,Af,ry,Gk⟩:=id PZ;obtain⟨ab,cb,rfl,U1⟩:=m.rb.cap;obtain⟨an,cn,rfl,OZ⟩:=A.cap;have K8:=aC t;obtain⟨U,K,Q,M,I,G,D⟩:=hv;refine Hz (fun e h=>∃va vb vn vo,O4 H ro nn fb tb c C w lt rows W0 g ch k (k+1) (k+1) k (fun n=>n<=3) h va vb vn vo/\TG e fb nn H.size va vo vn k) ?_ ?_
 ·refine v8 U K Q M I G D (ae t) ?_;refine ai.dec (fun gb=>?_) (fun gb=>?_)
  ·obtain⟨x,r,rfl⟩:∃x r,b=x::r:=akD Z;obtain⟨pb,po,pl,pc,hv,o,hpb,P,Xi⟩:=m.rb.head;injection hv with O8 Xr O9;subst O8 O9;refine v8 U K Q M I G D (ae t) ?_;refine⟨O,?_⟩;refine v12 o P Int.toNat_zero aj7 Nat.add_zero U K Q M I G D ?_;refine(dI m.m x).mono ?_;rintro _ J ⟨rfl,e⟩;obtain rfl:=e.symm;refine v7 U K Q M I G D ?_;have JQ:(x::r).length=r.length+1:=ajX;have fp:(now++(a++(x::r++(out++W0)))).Perm (now++[x]++(a++(r++(out++W0)))):=by
    rw[List.perm_iff_count];intro z;simp only[alp,List.count_cons,akI,List.count_nil];omega
   refine ai.dec (fun gd=>?_) (fun gd=>?_)
   ·refine vs ?_;replace f2:=f2.perm fp;refine cZ.intro (fun _=>True) trivial ?_;refine vs ?_;refine tR.intro ?_ ?_
    ·refine v6 (ae t) o P Int.toNat_zero aj7 Nat.add_zero ?_;refine⟨O,?_⟩;refine v6 (ae t) o P Int.toNat_zero aj7 Nat.add_zero ?_;refine tR.intro ?_ ?_
     ·refine v6 (ae t) o P Int.toNat_zero aj7 Nat.add_zero ?_;refine tR.intro ?_ ?_
      ·refine v6 (ae t) o P Int.toNat_zero aj7 Nat.add_zero ?_;refine tR.intro ?_ ?_
       ·refine vs ?_;refine A.push x O fun w' j O7 Ny M8 u=>?_;obtain⟨h3,f,K9,PW,Aw⟩:=m.Au t F Af ry u Ny;refine v8 (ae f) f o P Int.toNat_zero aj7 Nat.add_zero ajJ ?_;refine⟨O,?_⟩;refine v8 (ae f) f o P Int.toNat_zero aj7 Nat.add_zero ajJ ?_;have e4:∀v,aj (fun z=>z=H.size) j (j.wr H.size [v]):=fun v=>(aj.refl (fun z=>z=H.size) _).wr (fun _=>rfl) _;have Q1:∀v,(j.wr H.size [v]).own H.size=some [v]:=fun v=>ah f;have h4:=fun v=>h3.Q0 (e4 v) Z;exact⟨_,_,_,_,⟨a,r,now++[x],out,O7,N,E,l2,V2,BR,gD,EB,(h4 _).O3 ((h4 _).rb.tail _),f2,d.HU O,Z,Q1 _,X,M8.ext (e4 _) Z,K9.ext (e4 _) Z,fun z hz=>by rw[bH];grind,Aw,Gk⟩,rfl,rfl,rfl,rfl,rfl,rfl,rfl⟩
       ·refine v6 (ae t) o P Int.toNat_zero aj7 Nat.add_zero ?_;refine⟨O,?_⟩;refine v6 (ae t) o P Int.toNat_zero aj7 Nat.add_zero ?_;refine A.push x O fun w' j O7 Ny M8 u=>?_;obtain⟨h3,f,K9,PW,Aw⟩:=m.Au t F Af ry u Ny;refine v8 (ae f) f o P Int.toNat_zero aj7 Nat.add_zero ajJ ?_;have e4:∀v,aj (fun z=>z=H.size) j (j.wr H.size [v]):=fun v=>(aj.refl (fun z=>z=H.size) _).wr (fun _=>rfl) _;have Q1:∀v,(j.wr H.size [v]).own H.size=some [v]:=fun v=>ah f;have h4:=fun v=>h3.Q0 (e4 v) Z;exact⟨_,_,_,_,⟨a,r,now++[x],out,O7,N,E,l2,V2,BR,gD,EB,(h4 _).O3 ((h4 _).rb.tail _),f2,d.HU O,Z,Q1 _,X,M8.ext (e4 _) Z,K9.ext (e4 _) Z,fun z hz=>by rw[bH];grind,Aw,Gk⟩,rfl,rfl,rfl,rfl,rfl,rfl,rfl⟩
      ·refine v6 (ae t) o P Int.toNat_zero aj7 Nat.add_zero ?_;refine⟨O,?_⟩;refine v6 (ae t) o P Int.toNat_zero aj7 Nat.add_zero ?_;refine A.push x O fun w' j O7 Ny M8 u=>?_;obtain⟨h3,f,K9,PW,Aw⟩:=m.Au t F Af ry u Ny;refine v8 (ae f) f o P Int.toNat_zero aj7 Nat.add_zero ajJ ?_;have e4:∀v,aj (fun z=>z=H.size) j (j.wr H.size [v]):=fun v=>(aj.refl (fun z=>z=H.size) _).wr (fun _=>rfl) _;have Q1:∀v,(j.wr H.size [v]).own H.size=some [v]:=fun v=>ah f;have h4:=fun v=>h3.Q0 (e4 v) Z;exact⟨_,_,_,_,⟨a,r,now++[x],out,O7,N,E,l2,V2,BR,gD,EB,(h4 _).O3 ((h4 _).rb.tail _),f2,d.HU O,Z,Q1 _,X,M8.ext (e4 _) Z,K9.ext (e4 _) Z,fun z hz=>by rw[bH];grind,Aw,Gk⟩,rfl,rfl,rfl,rfl,rfl,rfl,rfl⟩
     ·refine v6 (ae t) o P Int.toNat_zero aj7 Nat.add_zero ?_;refine⟨O,?_⟩;refine v6 (ae t) o P Int.toNat_zero aj7 Nat.add_zero ?_;refine A.push x O fun w' j O7 Ny M8 u=>?_;obtain⟨h3,f,K9,PW,Aw⟩:=m.Au t F Af ry u Ny;refine v8 (ae f) f o P Int.toNat_zero aj7 Nat.add_zero ajJ ?_;have e4:∀v,aj (fun z=>z=H.size) j (j.wr H.size [v]):=fun v=>(aj.refl (fun z=>z=H.size) _).wr (fun _=>rfl) _;have Q1:∀v,(j.wr H.size [v]).own H.size=some [v]:=fun v=>ah f;have h4:=fun v=>h3.Q0 (e4 v) Z;exact⟨_,_,_,_,⟨a,r,now++[x],out,O7,N,E,l2,V2,BR,gD,EB,(h4 _).O3 ((h4 _).rb.tail _),f2,d.HU O,Z,Q1 _,X,M8.ext (e4 _) Z,K9.ext (e4 _) Z,fun z hz=>by rw[bH];grind,Aw,Gk⟩,rfl,rfl,rfl,rfl,rfl,rfl,rfl⟩
    ·refine v6 (ae t) o P Int.toNat_zero aj7 Nat.add_zero ?_;refine⟨O,?_⟩;refine v6 (ae t) o P Int.toNat_zero aj7 Nat.add_zero ?_;refine⟨O,?_⟩;refine v6 (ae t) o P Int.toNat_zero aj7 Nat.add_zero ?_;refine A.push x O fun w' j O7 Ny M8 u=>?_;obtain⟨h3,f,K9,PW,Aw⟩:=m.Au t F Af ry u Ny;refine v8 (ae f) f o P Int.toNat_zero aj7 Nat.add_zero ajJ ?_;have e4:∀v,aj (fun z=>z=H.size) j (j.wr H.size [v]):=fun v=>(aj.refl (fun z=>z=H.size) _).wr (fun _=>rfl) _;have Q1:∀v,(j.wr H.size [v]).own H.size=some [v]:=fun v=>ah f;have h4:=fun v=>h3.Q0 (e4 v) Z;exact⟨_,_,_,_,⟨a,r,now++[x],out,O7,N,E,l2,V2,BR,gD,EB,(h4 _).O3 ((h4 _).rb.tail _),f2,d.HU O,Z,Q1 _,X,M8.ext (e4 _) Z,K9.ext (e4 _) Z,fun z hz=>by rw[bH];grind,Aw,Gk⟩,rfl,rfl,rfl,rfl,rfl,rfl,rfl⟩
   ·refine vs ?_;exact⟨_,_,_,_,⟨a,x::r,now,out,nb,N,E,l2,V2,BR,gD,EB,m,f2,d.RE Z,O,t,X,A,F,Af,ry,Gk⟩,rfl,rfl,rfl,rfl,rfl,rfl,rfl⟩
  ·refine v7 U K Q M I G D ?_;have PO:b=[]:=akg.1 O;exact⟨_,_,_,_,⟨a,b,now,out,nb,N,E,l2,V2,BR,gD,EB,m,f2,d.RE Z,O,t,X,A,F,Af,ry,Gk⟩,rfl,rfl,rfl,rfl,rfl,rfl,rfl⟩
 clear PZ m f2 d M7 t X A F Af ry Gk K8 U1 OZ U K Q M I G D;rintro u H2 ⟨va,vb,vn,vo,PZ,hv⟩;obtain⟨a,b,now,out,nb,N,E,l2,V2,BR,gD,EB,m,f2,d,M7,t,X,A,F,Af,ry,Gk⟩:=id PZ;obtain⟨an,cn,rfl,OZ⟩:=A.cap;obtain⟨ao,co,rfl⟩:=Sl.shape F;have K8:=aC t;have O5:=cm f2.wn fun c hc=>f2.win (hm:=aH w) hc;simp only[ajW]at O5;obtain⟨U,K,Q,M,I,G,D⟩:=hv;refine Hz (fun e h=>∃va vb vn vo,O4 H ro nn fb tb c C w lt rows W0 g ch k (k+1) (k+1) (k+1) (fun n=>n=0\/n=2) h va vb vn vo/\TG e fb nn H.size va vo vn k) ?_ ?_
 ·refine v8 U K Q M I G D (ae t) ?_;rw[if_neg (by decide:¬ (2:Int)=0),Int.tmod_eq_emod_of_nonneg O];refine v7 U K Q M I G D ?_;refine ai.dec (fun gp=>?_) (fun gp=>?_)
  ·obtain⟨x,r,rfl⟩:∃x r,now=x::r:=akD Z;have JQ:(x::r).length=r.length+1:=ajX;obtain⟨a',c',Vg,FR,Wa⟩:=id A;injection Vg with O8 Xr O9;subst O8 O9;obtain⟨pb,po,pl,rfl,Xm,TH,Y6,Zt⟩:=Wa.resolve_left O;have P:pl[po]? =some (i64 x):=by
    have h7:((x::r).map i64)[0]? =some (i64 x):=rfl;rw[<-Zt,akM,if_pos (by simp),aks]at h7;exact h7
   have o:=ae TH;refine v7 U K Q M I G D ?_;refine⟨O,?_⟩;refine v5 o P Int.toNat_zero aj7 Nat.add_zero ?_;refine Oy F x O fun w' j S6 WP K9 u=>?_;have h3:=m.Q0 u Z;have f:=u.own t Z;have M8:=A.ext u O;have PS:=u.size;refine v7 U K Q M I G D ?_;refine⟨O,?_⟩;refine v7 U K Q M I G D ?_;have fp:(x::r++(a++(b++(out++W0)))).Perm (r++(a++(b++(out++[x]++W0)))):=by
    rw[List.perm_iff_count];intro z;simp only[alp,List.count_cons,akI,List.count_nil];omega
   have PW:∀z,nb=some z\/S6=some z->H.size<z/\z<j.size/\E z= .no:=fun z hz=>by
    cases m;grind
   have Aw:∀z,nb=some z->S6=some z->False:=Z;exact⟨_,_,_,_,⟨a,b,r,out++[x],nb,S6,E,l2,V2,BR,gD,EB,h3,f2.perm fp,d.Z1,O,f,X,M8.tail _,K9,PW,Aw,Gk⟩,rfl,rfl,rfl,rfl,rfl,rfl,rfl⟩
  ·refine v7 U K Q M I G D ?_;exact⟨_,_,_,_,⟨a,b,now,out,nb,N,E,l2,V2,BR,gD,EB,m,f2,⟨d.ra,d.rb,d.ro,d.ka,d.kb,d.kn,fun c hc=>by have:=d.ko c hc;omega,d.hg⟩,O,t,X,A,F,Af,ry,Gk⟩,rfl,rfl,rfl,rfl,rfl,rfl,rfl⟩
 clear PZ m f2 d M7 t X A F Af ry Gk K8 OZ U K Q M I G D O5;rintro e4 H2 ⟨va,vb,vn,vo,PZ,hv⟩;obtain⟨a,b,now,out,nb,N,E,l2,V2,BR,gD,EB,m,f2,d,M7,t,X,A,F,Af,ry,Gk⟩:=id PZ;obtain⟨an,cn,rfl,OZ⟩:=A.cap;have K8:=aC t;obtain⟨U,K,Q,M,I,G,D⟩:=hv;refine v8 U K Q M I G D (ae t) ?_;refine ai.dec (fun gp=>?_) (fun gp=>?_)
 ·obtain⟨x,y,rfl⟩:∃x y,now=[x,y]:=by
   match now,gp with
   | [x,y],_=>grind
  obtain⟨a',c',Vg,FR,Wa⟩:=id A;injection Vg with O8 Xr O9;subst O8 O9;have Oq:([x,y]:List Int).length=2:=rfl;obtain⟨pb,po,pl,rfl,Xm,TH,Y6,Zt⟩:=Wa.resolve_left O;have TI:pl[po]? =some (i64 x):=by
   have h7:(([x,y]:List Int).map i64)[0]? =some (i64 x):=rfl;rw[<-Zt,akM,if_pos (by simp),aks]at h7;exact h7
  have TJ:pl[po+1]? =some (i64 y):=by
   have h7:(([x,y]:List Int).map i64)[1]? =some (i64 y):=rfl;rw[<-Zt,akM,if_pos (by simp),aks]at h7;exact h7
  have o:=ae TH;refine v7 U K Q M I G D ?_;refine⟨O,?_⟩;refine v12 o TI Int.toNat_zero aj7 Nat.add_zero U K Q M I G D ?_;refine⟨O,?_⟩;refine v11 o TJ Int.toNat_one alf U K Q M I G D ?_;have PT:=d.kn x (by simp);have hyn:=d.kn y (by simp);have Vj:=d.hg x Z;have hyg:=d.hg y Z;refine(BT m.m m.hz m.own m.cq m.hC iC (W:=a++(b++(out++W0))) f2 O O).mono ?_;rintro _ j ⟨p,q,TK,l3,V3,R7,rfl,Vl,m3,f3,c3,r3,SN,u⟩;have abv:∀z,E z= .no->¬KC E z:=fun z h1 m=>by
   rcases m with (m| ⟨_,m⟩)|m<;>grind
  have PS:=u.size;obtain⟨rest,ho⟩:=m.own;have abw:¬KC E nn:=fun h=>by
   have:=m.hn;rcases h with (h| ⟨_,h⟩)|h<;>grind
  have h3:nJ H ro nn fb tb c C w j TK l3 V3 (aA BR p (BR p++[q])) (aN gD q p) R7 va vb a b:=by
   refine⟨m3,c3,fun z hz=>?_,⟨rest,u.own ho abw⟩,?_,SN,m.rk.trans r3 m.e.size,m.ra.ext u (fun z _ h=>h) (fun z hz h=>r3.kcs hz h),m.rb.ext u (fun z _ h=>h) (fun z hz h=>r3.kcs hz h),?_⟩
   ·cases m;cases r3;grind
   ·cases m;cases r3;grind
   ·exact⟨O,fun z hz hn=>by
     rw[u.be z O (fun h=>hn (m.rk.kcs hz h)),m.e.be z hz hn]⟩
  have f:=u.own t (abv _ X);have K9:=F.ext u Z;have f4:af j (j.new 3 [i64 p]):=bD;have f4':aj (fun _=>False) j (j.new 3 [i64 p]):=f4;have h4:=h3.Q0 f4' Z;have nw4:Fw (j.new 3 [i64 p]) (.slice (some ⟨j.size,0,none⟩) 1 1) [p] (some j.size):=Fw.lit p;have Xm:=aj1.1 f3.wn;have Nu:p∉a/\p∉b/\p∉out/\p∉W0:=by
   have:=Xm.1;simp only[aj4,not_or]at this;exact O
  have i4:=d.V8 (p:=p) (q:=q) (ajU _) O Z;have YY:(j.new 3 [i64 p]).size=j.size+1:=ag _ _ _;have hd4:∀z,some j.size=some z\/N=some z->H.size<z/\z< (j.new 3 [i64 p]).size/\TK z= .no:=fun z hz=>by
   grind [RK.none]
  have abx:∀z,some j.size=some z->N=some z->False:=Z;refine v7 U K Q M I G D ?_;rw[wrap64 (n:=(k:Int)+1) O O];refine⟨w.cs.length+1 - (k+1),O,k+1,va,vb,_,vo,rfl,⟨a,b,[p],out,some j.size,N,TK,l3,V3,_,_,R7,h4,f3,i4,by simp,f4.own f (fun h=>h),r3.none K8 X,nw4,K9.ext f4 (fun _ _ h=>h),hd4,abx,fun z hz=>?_⟩,rfl⟩;unfold aA;grind
 ·refine v7 U K Q M I G D ?_;have RG:now=[]:=Z;subst RG;rw[wrap64 (n:=(k:Int)+1) O O];exact⟨w.cs.length+1 - (k+1),O,k+1,va,vb,_,vo,rfl,⟨a,b,[],out,nb,N,E,l2,V2,BR,gD,EB,m,f2,d.V7 (ajU _),by simp,t,X,A,F,Af,ry,Gk⟩,rfl⟩
end
section
variable{g:Int}
structure Vr where
 n:Nat
 c:Nat
 fb:Nat
 tb:Nat
 rp:Nat
structure rz(H:Hp)(ro:Nat->Rl)(B:Vr)(C:Nat->Prop)(w:Nw)(l:List Value)(V:Int->Value)(ch:Int->List Int)(ax:Int->Int)(kb:Int->Option Nat)(eE:List Value)(rows:Int->List Int)(rb:Int->Option Nat):Prop where
 own:∃tv,H.own B.n=some [ptr B.c,ptr B.fb,tv]/\Sl H 1 tv eE.length eE (some B.rp)
 row:∀g:Int,0<=g->g<eE.length->∃sv,eE[g.toNat]? =some sv/\Sl H 1 sv (rows g).length ((rows g).map i64) (rb g)
 cells:CQ H B.c C w
 fo:ForM H ro B.fb B.tb w.cs.length l V ch ax kb
 hC:∀z,C z->ro z= .cell
 rn:ro B.n= .Ow
 rr:ro B.rp= .Je
 rA:∀ (g:Int) b,0<=g->g<eE.length->rb g=some b->ro b= .row g
 hz:∀z,H.size<=z->ro z= .no
def dM(ro:Nat->Rl)(z:Nat):Prop:=ro z≠ .no
section
variable {H J : Hp} {ro ro' : Nat → Rl} {B : Vr} {C T : Nat → Prop} {w w' : Nw} {l l' : List Value} {V V' : Int → Value} {ch iw : Int → List Int} {ax dt : Int → Int} {kb vC : Int → Option Nat} {eE : List Value} {rows : Int → List Int} {rb : Int → Option Nat} {lt : Int → Int → Bool} {W W0 L : List Int}
theorem rz.slt(m:rz H ro B C w l V ch ax kb eE rows rb):∀z,dM ro z->z<H.size:=fun z x=>by
 apply aj3;intro h;exact x (m.hz z O)
theorem ei{ro:Nat->Rl}{z:Nat}{r:Rl}(h:ro z=r)(x:r≠ .no):dM ro z:=fun e=>Z
theorem rz.ext(m:rz H ro B C w l V ch ax kb eE rows rb)(e:aj T H J)(t:∀z,dM ro z->¬T z):rz J ro B C w l V ch ax kb eE rows rb:=by
 obtain⟨u,r,p⟩:=m.own;have P:=e.size;refine⟨⟨u,e.own r (t _ (ei m.rn nofun)),p.ext e (fun b y=>by injection y with y;subst y;exact t _ (ei m.rr nofun))⟩,fun g d r=>?_,m.cells.ext e (fun z j=>t z (ei (m.hC z j) nofun)),m.fo.ext e (fun z j=>?_),m.hC,m.rn,m.rr,m.rA,fun z j=>m.hz z O⟩
 ·obtain⟨f,q,o⟩:=m.row g d r;exact⟨f,q,o.ext e (fun b y=>t b (ei (m.rA g b d r y) nofun))⟩
 ·rcases j with h|h| ⟨x,h⟩<;>exact t z (ei h nofun)
theorem rz.fresh(m:rz H ro B C w l V ch ax kb eE rows rb)(e:af H J):rz J ro B C w l V ch ax kb eE rows rb:=m.ext e fun _ _ h=>h
theorem rz.aD(m:rz H ro B C w l V ch ax kb eE rows rb)(d:CQ J B.c C w')(e:aj C H J)(o:w'.cs.length=w.cs.length):rz J ro B C w' l V ch ax kb eE rows rb:=by
 obtain⟨f,y,t⟩:=m.own;have A:=e.size;have q:∀z r,ro z=r->r≠ .cell->¬C z:=fun z r y t p=>t (by rw[<-y,m.hC z p]);refine⟨⟨f,e.own y (q _ _ m.rn nofun),t.ext e (fun b P=>by cases m;grind)⟩,fun g u y=>?_,d,?_,m.hC,m.rn,m.rr,m.rA,fun z j=>m.hz z O⟩
 ·cases m;grind [Sl.ext]
 ·rw[o];refine m.fo.ext e (fun z j=>?_);rcases j with h|h| ⟨x,h⟩<;>grind
theorem rz.Pa(m:rz H ro B C w l V ch ax kb eE rows rb)(f:ForM J ro' B.fb B.tb w.cs.length l' V' iw dt vC)(u:CQ J B.c C w)(r:RK H.size ro ro')(d:∀z,J.size<=z->ro' z= .no)(e:aj (KC ro) H J):rz J ro' B C w l' V' iw dt vC eE rows rb:=by
 obtain⟨K,h,y⟩:=m.own;have A:∀z q,ro z=q->(∀x,q≠ .rF x)->q≠ .table->q≠ .cell->¬KC ro z:=fun z q h y P F t=>by
  rcases t with (t| ⟨x,t⟩)|t
  ·grind
  ·grind
  grind
 have j:∀z q,ro z=q->q≠ .no->(∀x,q≠ .rF x)->ro' z=q:=fun z q h y P=>by
  rw[r.o z (m.slt z (ei h y)) Z,h]
 refine⟨⟨K,e.own h (A _ _ m.rn nofun nofun nofun),y.ext e (fun b o=>by cases m;grind)⟩,fun g p h=>?_,u,f,fun z d=>j z _ (m.hC z d) nofun nofun,j _ _ m.rn nofun nofun,j _ _ m.rr nofun nofun,fun g b p h o=>j b _ (m.rA g b p h o) nofun nofun,d⟩;cases m;grind [Sl.ext]
theorem rz.Pb(m:rz H ro B C w l V ch ax kb eE rows rb)(Q:0<=g/\g<eE.length){H1:Hp}(d:aj (fun z=>rb g=some z) H H1){A:List Value}(I:H1.own B.rp=some A){j:Value}{L':List Int}{o:Option Nat}(s:Sl H1 1 j L'.length (L'.map i64) o)(ho:∀b,o=some b->ro b= .no\/ro b= .row g):
  rz (H1.wr B.rp (A.set g.toNat j)) (fun z=>if o=some z then .row g else ro z) B C w l V ch ax kb (eE.set g.toNat j) (aA rows g L') (fun k=>if k=g then o else rb k)/\aj (dM ro) H (H1.wr B.rp (A.set g.toNat j))/\
   (∀z,dM (fun z=>if o=some z then .row g else ro z) z->dM ro z\/o=some z):=by
 obtain⟨tv,t,r⟩:=m.own;have e:aj (fun z=>z=B.rp) H1 (H1.wr B.rp (A.set g.toNat j)):=(aj.refl (fun z=>z=B.rp) _).wr (fun _=>rfl) _;have G:(H1.wr B.rp (A.set g.toNat j)).size=H1.size:=bH _ _ _;have hs0:=d.size;have P:∀z q,ro z=q->q≠ .no->q≠ .row g->(if o=some z then Rl.row g else ro z)=q:=Z;have ne:∀z q,ro z=q->q≠ .Je->z≠B.rp:=fun z q t r e=>r (by rw[<-t,e,m.rr]);have F:∀z q,ro z=q->q≠ .row g->¬rb g=some z:=fun z q t r N=>r (by cases m;grind);have hob:∀b,o=some b->b≠B.rp:=Z;obtain⟨X,tc,rfl⟩:=Sl.shape r;have D:X=some ⟨B.rp,0,none⟩:=by
  obtain⟨_,_,_,U,_⟩:=r;injection U with U
 subst D;have N:=r.ext d Z;refine⟨⟨⟨_,e.own (d.own t (F _ _ m.rn nofun)) (ne _ _ m.rn nofun),?_⟩,fun k f t=>?_,(m.cells.ext d (fun z y=>F z _ (m.hC z y) nofun)).ext e (fun z y=>ne z _ (m.hC z y) nofun),?_,fun z y=>P z _ (m.hC z y) nofun nofun,P _ _ m.rn nofun nofun,Z,fun k b f t u=>?_,fun z y=>?_⟩,
  (d.mono fun z _ h=>ei (m.rA g z Q.1 Q.2 h) nofun).trans (e.mono fun z _ h=>by rw[h];exact ei m.rr nofun),fun z y=>?_⟩
 ·rw[ajN];exact N.nQ I g.toNat j
 ·rw[ajN]at t;by_cases K:k=g
  ·subst K;refine⟨j,Z,?_⟩;unfold aA;rw[if_pos rfl,if_pos rfl];exact s.ext e O
  ·obtain⟨E,q1,M⟩:=m.row k f t;refine⟨E,Z,?_⟩;unfold aA;rw[if_neg K,if_neg K];exact(M.ext d (fun b u=>F b _ (m.rA k b f t u) Z)).ext e (fun b u=>ne b _ (m.rA k b f t u) nofun)
 ·have p:=(m.fo.ext d (fun z y=>by rcases y with h|h| ⟨x,h⟩<;>grind)).ext e (fun z y=>by rcases y with h|h| ⟨x,h⟩<;>grind);exact⟨p.t,p.kd,P _ _ p.rf nofun nofun,P _ _ p.rt nofun nofun,fun x b f t u=>P _ _ (p.rk x b f t u) nofun nofun,p.Ex,p.no⟩
 ·cases m;grind
 ·rw[G]at y;rw[if_neg (fun e=>?_),m.hz z O];cases o with
  |none=>cases e
  |some b=>
   injection e with e;have:=Sl.lt s;omega
 ·by_cases h:o=some z
  ·grind
  ·refine .inl fun r=>y ?_;grind
theorem rz.DY(m:rz H ro B C w l V ch ax kb eE rows rb)(z:0<=g/\g<eE.length):∃x e h,H.own B.n=some [ptr B.c,ptr B.fb,.slice (some ⟨B.rp,0,none⟩) eE.length e]/\H.own B.rp=some x/\x[g.toNat]? =some h/\g.toNat<x.length/\eE[g.toNat]? =some h/\
  Sl H 1 h (rows g).length ((rows g).map i64) (rb g):=by
 obtain⟨f,t,y⟩:=m.own;obtain⟨h,q,o⟩:=m.row g z.1 z.2;obtain⟨_,x,e,rfl,d,r,j,p⟩:=y;grind
theorem Sl.Xs{h:Value}{L:List Int}{fp:Option Nat}{Bd:Nat}(s:Sl H 1 h L.length (L.map i64) fp)(e:∀b,fp=some b->b<Bd/\¬KC ro b):BU H ro Bd h L:=by
 cases fp with
 |none=>
  obtain⟨_,x,rfl⟩:=s;exact⟨none,0,by rw[x],O,Z⟩
 |some b=>
  obtain⟨_,t,c,rfl,y,m,r,j⟩:=s;obtain⟨z,x⟩:=e b rfl;refine⟨_,c,rfl,m,.inr ⟨b,0,t,rfl,z,x,ae y,O,?_⟩⟩;grind
theorem vD(m:rz H ro B C w l V ch ax kb eE rows rb){lv:Value}{d:Int->List Int}(h12:d g=rows g)(Sa:BU H ro H.size lv L)(iC:∀a b,aU w a b=true->lt a b=true)(f:gX (aH w) lt ch ax d (L++W0))(hL:B9 ch L)(hg:∀c∈L,aH w c=g)(j:0<=g/\g<eE.length):
  aF 275 [ptr B.n,i64 g,lv] H fun v J=>ak (∃ro' l' V' iw dt vC Pd out rb',rz J ro' B C w l' V' iw dt vC Pd (aA rows g out) rb'/\gX (aH w) lt iw dt (aA d g out) W0/\Pd.length=eE.length/\(∀z∈W0,iw z=ch z)/\
   (∀z,dM ro' z->dM ro z\/H.size<=z)/\aj (dM ro) H J):=by
 obtain⟨lb,N,sv,y,P,F,E5,_,s2⟩:=m.DY j;obtain⟨va,vc,rfl⟩:=Sl.shape s2;obtain⟨Q,U,rfl,hcL⟩:=Sa.cap;have Xp:BU H ro H.size (.slice va (rows g).length vc) (rows g):=Sl.Xs s2 (fun b hb=>by
  have h5:=m.rA g b j.1 j.2 hb;refine⟨m.slt b (ei h5 nofun),fun t=>?_⟩;rcases t with (t| ⟨x,t⟩)|t<;>grind)
 have h0:nJ H ro B.n B.fb B.tb B.c C w H ro l V ch ax kb (.slice va (rows g).length vc) (.slice Q L.length U) (rows g) L:=⟨m.fo,m.cells,m.hC,⟨_,y⟩,m.rn,m.hz,RK.refl m.hz,Xp,Sa,aj.refl _ _⟩;have M:=f.loose g;have R3:∀c∈rows g,aH w c=g:=fun c t=>(f.rm g c Z).1;have X:=f.rr g;rw[h12]at M X;refine uS ug ⟨rfl,?_⟩;refine v1 kN.eq_1 ?_;refine cZ.intro (fun J=>J.own B.n=some [ptr B.c,ptr B.fb,.slice (some ⟨B.rp,0,none⟩) eE.length N]) y ?_;refine vs ?_;refine bG.intro (.slice (some ⟨B.rp,0,none⟩) eE.length N) (fun J hI=>by refine v1 (ae hI) ?_;trivial) ?_;refine vs ?_;have hgi:0<=g/\g< (eE.length:Int):=j;have key:∀K:Value->Hp->Prop,(∀out ro' l' V' iw dt vC p q J,nJ H ro B.n B.fb B.tb B.c C w J ro' l' V' iw dt vC (.slice none 0 0) (.slice none 0 0) [] []->Sl J 1 p out.length (out.map i64) q->(∀z,q=some z->H.size<=z/\ro' z= .no)->gX (aH w) lt iw dt (aA d g []) (out++W0)->B9 iw out->(∀c∈out,aH w c=g)->(∀z∈W0,iw z=ch z)->K (.tuple [p,.bool true].toArray) J)->
   aF 283 [ptr B.fb,.iface 148 (ptr B.n),.slice va (rows g).length vc,.slice Q L.length U] H K:=fun K hK=>by
  refine(Av h0 iC M X hL (fun c t=>by rcases t with h|h;exact R3 c h;exact hg c h)).mono ?_;rintro _ J ⟨out,ro',l',V',iw,dt,vC,p,q,rfl,h1,r,h3,h4,h5,h6,h7⟩;grind
 refine tR.intro ?A ?B;case' A=>
  refine v1 (ae y) ?_;refine And.intro y ?_;refine v1 (ae y) ?_;refine And.intro y ?_;refine vs ?_;refine⟨O,?_⟩;refine v4 (ae P) ajJ ajM F ?_;refine And.intro y ?_;refine vs ?_
 case' B=>
  refine v1 (ae y) ?_;refine And.intro y ?_;refine vs ?_;refine⟨O,?_⟩;refine vs ?_;refine tR.intro ?C ?D;case' C=>
   refine v1 (ae y) ?_;refine And.intro y ?_;refine v4 (ae P) ajJ ajM F ?_;refine And.intro y ?_;refine vs ?_
  case' D=>
   refine v4 (ae P) ajJ ajM F ?_;refine And.intro y ?_;refine v1 (ae y) ?_;refine And.intro y ?_;refine vs ?_
 all_goals
  refine key _ fun out ro2 l2 V2 BR gD EB p fo2 H2 r so2 WP f2 r2 g2 w2=>?_;obtain⟨vb,vc2,rfl⟩:=Sl.shape so2;have u:=m.Pa r.m r.cq r.rk r.hz r.e;obtain⟨WZ,tc2,sv2,o2,q3,q4,abA,_,_⟩:=u.DY j;have o2':H2.own B.n=some [ptr B.c,ptr B.fb,.slice (some ⟨B.rp,0,none⟩) eE.length N]:=r.e.own y (fun t=>by
   rcases t with (t| ⟨x,t⟩)|t<;>(rw[m.rn]at t;cases t))
  refine And.intro o2' ?_;refine vs ?_;refine⟨O,?_⟩;refine v3 q3 ajJ ajM ?_;refine⟨O,?_⟩;obtain⟨m3,G,Xj⟩:=u.Pb j (aj.refl _ _) q3 so2 Z;refine vs ?_;have Zu:B.n≠B.rp:=fun e=>by cases u;grind
  refine And.intro (((aj.refl (fun z=>z=B.rp) _).wr (fun _=>rfl) _:aj (fun z=>z=B.rp) H2 _).own o2' Zu) ?_;refine vs ?_;have E:=f2.row (g:=g) (by unfold aA;grind) r2 g2;rw[cP]at E;have hro:∀z,dM ro2 z->dM ro z\/H.size<=z:=fun z o=>by
   by_cases YE:z<H.size
   ·refine .inl fun h=>o ?_;exact r.rk.none YE h
   omega
  refine⟨_,l2,V2,BR,gD,EB,_,_,_,m3,E,ajN ..,w2,fun z o=>?_,?_⟩
  ·grind
  ·have I:aj (dM ro) H H2:=r.e.mono fun z _ h=>by
    rcases h with (h| ⟨x,h⟩)|h<;>exact ei h nofun
   exact⟨akc I.size G.size,fun z o hn=>by
    cases G;cases I;grind⟩
theorem yJ(m:rz H ro B C w l V ch ax kb eE rows rb){y:Value}(q:BU H ro H.size y L)(p:∀a b,aU w a b=true->lt a b=true)(f:gX (aH w) lt ch ax rows (L++W0))(r:B9 ch L)(j:∀c∈L,aH w c=g)(d:0<=g/\g<eE.length):
  aF 275 [ptr B.n,i64 g,y] H fun v J=>ak (∃ro' l' V' iw dt vC x t e,rz J ro' B C w l' V' iw dt vC x t e/\gX (aH w) lt iw dt t W0/\x.length=eE.length/\(∀z∈W0,iw z=ch z)/\
   (∀z,dM ro' z->dM ro z\/H.size<=z)/\aj (dM ro) H J):=
 (vD m rfl q p f r j d).mono fun _ _ ⟨ro',l',V',iw,dt,vC,x,_,e,h⟩=>⟨ro',l',V',iw,dt,vC,x,_,e,h⟩
end
end
end Go.Proofs.YtjkkkibiegfecaaGreatDoor
