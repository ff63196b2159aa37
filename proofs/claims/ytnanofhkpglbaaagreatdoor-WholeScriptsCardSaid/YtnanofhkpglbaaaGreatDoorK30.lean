/- Texts put behind each other. -/
import Derived.Test.YtnanofhkpglbaaaGreatDoorK29
set_option linter.unusedSimpArgs false
set_option linter.unusedVariables false
set_option maxRecDepth 100000
set_option maxHeartbeats 80000000
namespace Go.Proofs.YtnanofhkpglbaaaGreatDoor
open Go Go.Vc
section
variable{i j m:Nat}{x:Int}
theorem kK{n:Nat}{H:Hp}{S:Nat->Prop}{w:Nw}(h:dw n H S w)(x:Int):aD 453 [ptr n,i64 x] H fun v J=>ak (
  (¬cu w.cs x/\v= .bool false/\br (dw n) S H J w)\/(cu w.cs x/\v= .bool true/\br (dw n) S H J (w.put x (0,0,0)))):=by
 obtain⟨B,C,L,rs,tops,rfl,m,l,A⟩:=id h;have D:∀z,C z->S z:=fun z h=>(A z).2 (.inl h);have s1:S B.tl:=(A _).2 (.inr O);have s2:S B.rk:=(A _).2 (.inr O);have s3:S B.tp:=(A _).2 (.inr O);obtain⟨tv,o0,_⟩:=m.own;refine aL qL ?_;refine v1 (ae o0) ?_;refine(bC m.cells x).mono ?_;rintro _ H1 (⟨F,rfl,rfl⟩| ⟨K,rfl,c1,e1⟩)
 ·refine vs ?_;exact .inl ⟨F,rfl,br.same h (aj.refl _ _)⟩
 have U:=m.aE c1 e1 rfl;obtain⟨Ni,o1,_⟩:=U.own;have P:=bf.2 K;obtain⟨j4,ED,_⟩:=aI P;have QJ:x≠ -1:=O;have M:=ar w;have t:=l.bt;refine v1 (ae o1) ?_;obtain⟨a1,b1,ea1⟩:=cL (bk L x false);obtain⟨a2,b2,XO⟩:=cL (bk L x true);refine⟨.tuple [i64 a1,.bool b1].toArray,(kA U.cf x).mono (by rintro v J ⟨rfl,rfl⟩;grind),?_⟩;refine vs ?_;refine⟨_,cD H1 _ a1 b1 ea1,?_⟩;refine v1 (ae o1) ?_;refine(cC U.cf x).mono ?_;rintro _ J ⟨rfl,e⟩;obtain rfl:=e.symm;rw[XO];refine vs ?_;refine(cD H1 _ a2 b2 XO).mono ?_;rintro _ J ⟨rfl,e⟩;obtain rfl:=e.symm;refine v1 (ae o1) ?_;refine(cK U.cf (x:=bk L x false) (fun j=>by have:=xX.up t.bt j;have:=U.len.1;omega)).mono ?_;rintro _ H2 ⟨rfl,L2,t2,l2,k2,u2,e2⟩;have E:=U.dU t2 e2 l2;have bt2:xX w L2:=by
  show Bt _ _ _ _;rw[k2,u2];exact t.bt.QQ _
 obtain⟨Nh,o2,_⟩:=E.own;refine v1 (ae o2) ?_;refine(cK E.cf (x:=bk L x true) (fun j=>by have:=xX.up bt2 j;have:=E.len.1;omega)).mono ?_;rintro _ H3 ⟨rfl,L3,t3,l3,k3,X,e3⟩;rw[k2,u2]at k3;rw[u2]at X;have m3:=E.dU t3 e3 l3;obtain⟨w1,w2,w3,w4⟩:=t.bt.bare x;have u:∀c,bk L x c= -1\/(aH w (bk L x c)=aH w x/\bq L3 (bk L x c)= -1):=fun c=>by
  by_cases u:bk L x c= -1
  ·omega
  ·refine .inr ⟨(t.bt.home u).2.2.1,?_⟩;rw[X,w4,if_pos];cases c
   ·omega
   omega
 rw[<-k3,<-X]at w1;have mg:=Mg.start w1 P (u false) (u true) (fun e=>t.bt.two x e);refine vs ?_;refine(eZ m3 mg).mono ?_;rintro _ H4 ⟨r,Q,SQ,rfl,o,g4,f4,e4⟩;have f4:=f4 x (oE.start (fun u=>(t.bt.home u).2.2.2.2) (fun u=>(t.bt.home u).2.2.2.2));have d:=t.SC M P k3 X g4 f4;have Fl:aj S H H4:=(((e1.mono fun z _ h=>D z h).trans (e2.mono Z)).trans (e3.mono Z)).trans (e4.mono Z);obtain⟨Wh,o4,_⟩:=o.own;have j1:=fun y=>dT (w:=w) ⟨j4,ED⟩ (0,0,0) y;have p0:aH (w.put x (0,0,0)) (-1)=0:=rfl;have p1:aH (w.put x (0,0,0)) x=0:=Z;have p2:∀y,y≠x->aH (w.put x (0,0,0)) y=aH w y:=Z;have el:∀a b,0<aH w a->0<aH w b->a≠x->b≠x->aU (w.put x (0,0,0)) a b=aU w a b:=fun a b ha hb wA zS=>du ⟨j4,ED⟩ _ ha hb wA zS;have tC:(w.put x (0,0,0)).cs.length=w.cs.length:=by simp[Nw.put]
 refine v1 (ae o4) ?_;refine(mZ o.cf x).mono ?_;rintro _ J ⟨rfl,e⟩;obtain rfl:=e.symm;rw[d.ux];unfold gz;by_cases j:bq L x= -1
 ·rw[if_pos j];obtain⟨cc,lt,o5,q5,Dx,JH,JI⟩:=o.ed;have wU:aH w x<tops.length:=by
   have:=((o.cells.hm x).2 P).2;have:=l.tl;omega
  refine v1 (ae o5) ?_;refine⟨O,?_⟩;refine v3 q5 ak7 ala ?_;refine⟨O,?_⟩;obtain⟨f,G⟩:=o.fH q5 (aH w x).toNat r;obtain⟨tv6,o6,_⟩:=f.own;refine v1 (ae o6) ?_;refine(bZ f.cells x).mono ?_;rintro _ H6 (⟨F,_,_⟩| ⟨_,rfl,c6,W⟩)
  ·exact absurd K F
  have V:=f.aE c6 W tC;refine vs ?_;refine .inr ⟨K,rfl,br.same ⟨B,C,Q,SQ,_,rfl,V,⟨?_,by rw[alb];exact l.tl⟩,A⟩ ((Fl.trans (G.mono Z)).trans (W.mono fun z _ h=>D z h))⟩;rw[dJ O wU];exact d.y7 t P j p0 p1 p2 el
 ·rw[if_neg j];have TN:=xX.up t.bt j;obtain⟨w5,w6⟩:=d.cut t M P j;obtain⟨a3,b3,Wi⟩:=cL (bk Q (bq L x) true);refine v1 (ae o4) ?_;refine(cC o.cf (bq L x)).mono ?_;rintro _ J ⟨rfl,e⟩;obtain rfl:=e.symm;rw[Wi];refine vs ?_;refine(cD _ _ a3 b3 Wi).mono ?_;rintro _ J ⟨rfl,e⟩;obtain rfl:=e.symm;rw[d.kp _ true rfl j];refine v1 (ae o4) ?_;refine(cK o.cf (x:=x) (fun hu2=>by have:=xX.up d.bt hu2;have:=o.len.1;omega)).mono ?_;rintro _ H5 ⟨rfl,L5,t5,l5,k5,u5,G⟩;have f:=o.dU t5 G l5;obtain⟨tv5,o5,_⟩:=f.own;refine vs ?_;have SU:=Fl.trans (G.mono Z);refine ai.dec (fun g=>?_) (fun g=>?_)<;>refine vs ?_
  ·have V:=f;have Oi:=SU;have b6:xX w L5:=by
    show Bt _ _ _ _;rw[k5,u5];exact w5 g
   have u6:bq L5=if r= -1 then df (bq Q) x else aM (df (bq Q) x) r (bq L x):=by rw[if_pos g];exact u5
   refine(iS V b6 (x:=bq L x) O).mono ?_;rintro _ H7 ⟨L7,rs7,N,b7,u7,e7⟩;have e17:=Oi.trans (e7.mono Z);obtain⟨tv7,o7,_⟩:=N.own;refine v1 (ae o7) ?_;refine(bZ N.cells x).mono ?_;rintro _ H8 (⟨F,_,_⟩| ⟨_,rfl,c8,I⟩)
   ·exact absurd K F
   have m8:=N.aE c8 I tC;refine vs ?_;refine .inr ⟨K,rfl,br.same ⟨B,C,L7,rs7,tops,rfl,m8,⟨?_,l.tl⟩,A⟩ (e17.trans (I.mono fun z _ h=>D z h))⟩;exact d.below t M (n:=w.cs.length) (fun y hy=>by obtain⟨y0,y1,_⟩:=aI hy;omega) P j b7 Z p0 p1 p2 el
  ·obtain⟨y1,y2,y3,y4⟩:=w6 g;obtain⟨r1,r2,r3,r4⟩:=d.rx g;obtain⟨q1,q2,_⟩:=aI (w:=w) (x:=r) O;have hl5:=f.len;refine v1 (ae o5) ?_;refine(fj f.cf (p:=bq L x) (x:=r) (c:=(bk L (bq L x) true==x)) O ⟨q1,O⟩ y3 (by simp_all) (by simp_all)).mono ?_;rintro _ H6 ⟨rfl,L6,t6,l6,k6,u6',W⟩;have V:=f.dU t6 W l6;have Oi:=SU.trans (W.mono Z);rw[k5]at k6;rw[u5]at u6';have b6:xX w L6:=by
    show Bt _ _ _ _;rw[k6,u6'];exact y4
   have u6:bq L6=if r= -1 then df (bq Q) x else aM (df (bq Q) x) r (bq L x):=by rw[if_neg g];exact u6'
   refine vs ?_;refine(iS V b6 (x:=bq L x) O).mono ?_;rintro _ H7 ⟨L7,rs7,N,b7,u7,e7⟩;have e17:=Oi.trans (e7.mono Z);obtain⟨tv7,o7,_⟩:=N.own;refine v1 (ae o7) ?_;refine(bZ N.cells x).mono ?_;rintro _ H8 (⟨F,_,_⟩| ⟨_,rfl,c8,I⟩)
   ·exact absurd K F
   have m8:=N.aE c8 I tC;refine vs ?_;refine .inr ⟨K,rfl,br.same ⟨B,C,L7,rs7,tops,rfl,m8,⟨?_,l.tl⟩,A⟩ (e17.trans (I.mono fun z _ h=>D z h))⟩;exact d.below t M (n:=w.cs.length) (fun y hy=>by obtain⟨y0,y1,_⟩:=aI hy;omega) P j b7 Z p0 p1 p2 el
theorem sE{n:Nat}{H:Hp}{S:Nat->Prop}{w:Nw}(h:dw n H S w)(g:Int):aD 454 [ptr n,i64 g] H fun v J=>ak (
  (w.len g=0/\v= .tuple [i64 0,.bool false].toArray/\br (dw n) S H J w)\/(∃x,w.first g x/\v= .tuple [i64 x,.bool true].toArray/\br (dw n) S H J (w.put x (0,0,0)))):=by
 refine aL ph ?_;refine vs ?_;refine(nZ h g).mono ?_;rintro _ _ ⟨⟨a,rfl⟩| ⟨x,z,rfl⟩,rfl⟩
 ·refine vs ?_;exact .inl ⟨a,rfl,br.same h (aj.refl _ _)⟩
 ·refine vs ?_;refine(kK h x).mono ?_;rintro _ H1 (⟨e,_,_⟩| ⟨_,rfl,m⟩)
  ·exact absurd (bf.1 (by have:=bh.1 z;omega)) e
  refine vs ?_;exact .inr ⟨x,z,rfl,m⟩
theorem ik(w:Nw)(a b:Int):aU (w.join a b)=aU w:=by
 funext x y;exact sn w a b x y
theorem yc{n:Nat}{H:Hp}{S:Nat->Prop}{w:Nw}(h:dw n H S w)(a b:Int):aD 457 [ptr n,i64 a,i64 b] H fun v J=>ak (
  (¬ (w.has a/\w.has b/\a≠b)/\v= .bool false/\br (dw n) S H J w)\/((w.has a/\w.has b/\a≠b)/\v= .bool true/\br (dw n) S H J (w.join a b))):=by
 obtain⟨B,C,L,rs,tops,rfl,m,l,g⟩:=id h;have hC:∀z,C z->S z:=fun z h=>(g z).2 (.inl h);have s1:S B.tl:=(g _).2 (.inr O);have s2:S B.rk:=(g _).2 (.inr O);have s3:S B.tp:=(g _).2 (.inr O);obtain⟨tv,o0,_⟩:=m.own;refine aL ul ?_;refine v1 (ae o0) ?_;refine(iQ m.cells a b).mono ?_;rintro _ H1 (⟨kV,rfl,rfl⟩| ⟨P,rfl,G,o⟩)
 ·refine vs ?_;exact .inl ⟨kV,rfl,br.same h (aj.refl _ _)⟩
 obtain⟨⟨ha,Nf⟩,⟨hb,Nb⟩,u⟩:=id P;have e:=m.aE G o (by simp[Nw.join]);have I:a<tops.length:=by
  have:=(ak8.1 Nf).1;have:=l.tl;omega
 have V:b<tops.length:=by
  have:=(ak8.1 Nb).1;have:=l.tl;omega
 have K:=l.bt.join (hm':=aH (w.join a b)) rfl u O (lN O);rw[<-ik w a b]at K;obtain⟨y,lt,F,j,Dx,JH,JI⟩:=e.ed;have qa:=e.cS j (ce (tops:=tops) (h:=a) O I);have U:=e.cS j (ce (tops:=tops) (h:=b) O V);refine vs ?_;refine di.intro (fun J=>J.own B.n=some [ptr B.c,ptr B.t,.slice (some ⟨B.rk,0,none⟩) rs.length rs.length,.slice (some ⟨B.tp,0,none⟩) tops.length y]/\∃l,J.own B.tp=some l/\l[b.toNat]? =some (i64 (aO tops b))) Z ?_;refine vs ?_;refine bG.intro (.slice (some ⟨B.tp,0,none⟩) tops.length y) (fun J x=>by refine v1 (ae x.1) ?_;trivial) ?_;refine vs ?_;refine bG.intro (.slice (some ⟨B.tp,0,none⟩) tops.length y) (fun J x=>by refine v1 (ae x.1) ?_;trivial) ?_;refine vs ?_;refine⟨O,?_⟩;refine vs ?_;refine bG.intro (.slice (some ⟨B.tp,0,none⟩) tops.length y) (fun J x=>by refine v1 (ae x.1) ?_;trivial) ?_;refine vs ?_;refine⟨O,?_⟩;refine vs ?_;refine bG.intro (i64 (aO tops b)) (fun J x=>by obtain⟨_,l,X,h2⟩:=x;refine v4 (ae X) ak7 ala h2 ?_;trivial) ?_;refine v4 (ae j) ak7 ala qa ?_;refine And.intro Z ?_;refine vs ?_;refine(eZ e K).mono ?_;rintro _ p ⟨r,W,rs3,rfl,m3,E,_,t⟩;have tt:=l.bt;rw[<-ik w a b]at tt;have bn:=tt.GK rfl u O O (lN O) E;obtain⟨d1,d2,d3,D⟩:=e.k9.1;have no:¬ (C B.n\/B.n=B.tl\/B.n=B.rk):=by rintro(h|h|h);exact e.out.1 h;omega;omega
 have d:=t.own j (by cases e;grind);refine And.intro ⟨t.own F no,lt,d,U⟩ ?_;refine vs ?_;refine⟨O,?_⟩;refine v3 d ak7 ala ?_;have ql:=O;refine⟨O,?_⟩;obtain⟨A,f⟩:=m3.fH d a.toNat r;have o4:=f.own (t.own F no) D;have q4':(p.wr B.tp (lt.set a.toNat (i64 r))).own B.tp=some (lt.set a.toNat (i64 r)):=ah d;have qb':(lt.set a.toNat (i64 r))[b.toNat]? =some (i64 (aO tops b)):=by rw[alh O];exact U
 rw[show aQ lt a.toNat (aK (i64 r))=lt.set a.toNat (i64 r)from rfl];generalize p.wr B.tp (lt.set a.toNat (i64 r))=H4 at*;refine And.intro Z ?_;refine vs ?_;obtain⟨cc5,lt5,N,Q,V9,y5,Pj⟩:=A.ed;rw[alb]at N V9;refine v1 (ae N) ?_;refine⟨O,?_⟩;refine v3 Q ak7 ala ?_;refine⟨O,?_⟩;obtain⟨m6,M⟩:=A.fH Q b.toNat (-1);refine vs ?_;refine .inr ⟨P,rfl,br.same ⟨B,C,W,rs3,_,rfl,m6,⟨?_,by rw[alb,alb,l.tl];simp[Nw.join]⟩,g⟩ ?_⟩
 ·grind [dJ]
 ·exact(((o.mono fun z _ h=>hC z h).trans (t.mono Z)).trans (f.mono Z)).trans (M.mono Z)
theorem HE(n:Nat):qq (.iface 181 (ptr n)) (dw n) where
 slt h:=h.slt
 ext h e hd:=h.ext e hd
 cells:=by
  rintro H S w ⟨B,C,L,rs,tops,rfl,m,l,j⟩;exact⟨B.c,C,m.cells⟩
 has:=by
  rintro H S w g ⟨B,C,L,rs,tops,rfl,m,l,j⟩;obtain⟨p,d,_⟩:=m.own;exact⟨_,_,353,ptr B.c,rfl,cz (off:=0) Y (ae d) rfl,(ii m.cells g).mono fun v J y=>y⟩
 make:=by
  intro H S w h;exact⟨_,_,456,ptr n,rfl,aZ Y,(x8 h).mono fun v J y=>y⟩
 insert:=by
  intro H S w g x k s h;exact⟨_,_,455,ptr n,rfl,aZ Y,(uw h g x k s).mono fun v J y=>y⟩
 min:=by
  intro H S w g h;refine⟨_,_,458,ptr n,rfl,aZ Y,(nZ h g).mono ?_⟩;rintro v J ⟨⟨t,rfl⟩| ⟨x,t,rfl⟩,rfl⟩
  ·exact .inl ⟨t,rfl,br.same h (aj.refl _ _)⟩
  ·exact .inr ⟨x,t,rfl,br.same h (aj.refl _ _)⟩
 extract:=by
  intro H S w g h;exact⟨_,_,454,ptr n,rfl,aZ Y,(sE h g).mono fun v J y=>y⟩
 jZ:=by
  intro H S w x k s h;exact⟨_,_,452,ptr n,rfl,aZ Y,(qR h x k s).mono fun v J y=>y⟩
 entry:=by
  rintro H S w x ⟨B,C,L,rs,tops,rfl,m,l,j⟩;obtain⟨p,d,_⟩:=m.own;refine⟨_,_,351,ptr B.c,rfl,cz (off:=0) Y (ae d) rfl,(gI m.cells x).mono ?_⟩;rintro v J ⟨o,f,P⟩;exact⟨⟨B,C,L,rs,tops,rfl,m.fresh f,l,j⟩,f,P⟩
 len:=by
  rintro H S w g ⟨B,C,L,rs,tops,rfl,m,l,j⟩;obtain⟨p,d,_⟩:=m.own;exact⟨_,_,356,ptr B.c,rfl,cz (off:=0) Y (ae d) rfl,(eU m.cells g).mono fun v J y=>y⟩
 home:=by
  rintro H S w x h;obtain⟨B,C,L,rs,tops,rfl,m,l,j⟩:=id h;obtain⟨p,d,_⟩:=m.own;refine⟨_,_,354,ptr B.c,rfl,cz (off:=0) Y (ae d) rfl,(bC m.cells x).mono ?_⟩;rintro v J (⟨t,rfl,rfl⟩| ⟨t,rfl,o,u⟩)
  ·exact .inl ⟨t,rfl,br.same h (aj.refl _ _)⟩
  ·exact .inr ⟨t,rfl,br.same ⟨B,C,L,rs,tops,rfl,m.aE o u rfl,l,j⟩ (u.mono fun z _ A=>(j z).2 (.inl A))⟩
 delete:=by
  intro H S w x h;exact⟨_,_,453,ptr n,rfl,aZ Y,(kK h x).mono fun v J y=>y⟩
 vl:=by
  intro H S w a b h;exact⟨_,_,457,ptr n,rfl,aZ Y,(yc h a b).mono fun v J y=>y⟩
theorem eV:cV 2:=⟨O,O⟩
def swp(l:List Int)(i j:Nat):List Int:=(l.set i (l.getD j 0)).set j (l.getD i 0)
theorem gZ(l:List Int)(i j:Nat):(swp l i j).length=l.length:=by unfold swp;simp
theorem DA{l:List Int}(hi:i<l.length)(x:j<l.length)(k:Nat):(swp l i j).getD k 0=if k=j then l.getD i 0 else if k=i then l.getD j 0 else l.getD k 0:=by
 grind [swp]
theorem pH{l:List Int}(hi:i<l.length)(x:j<l.length)(k:Nat):(swp l i j)[k]? =if k=j then l[i]? else if k=i then l[j]? else l[k]? :=by
 grind [swp]
theorem Ru{l:List Int}(hi:i<l.length)(m:j<l.length)(z:Int):z∈swp l i j↔z∈l:=by
 constructor
 ·grind [swp]
 ·intro h;obtain⟨k,v⟩:=als h;by_cases x:k=i
  ·subst x;refine ali (i:=j) ?_;rw[pH hi m,if_pos rfl,v]
  ·by_cases a:k=j
   ·subst a;refine ali (i:=i) ?_;grind [pH]
   ·refine ali (i:=k) ?_;grind [pH]
theorem JL{l:List Int}(hi:i<m)(x:j<m)(hm:m<=l.length):(swp l i j).take m=swp (l.take m) i j:=by
 apply alB;grind [pH]
theorem Pk{l:List Int}(hi:i<m)(x:j<m)(hm:m<=l.length):(swp l i j).drop m=l.drop m:=by
 apply alB;grind [pH]
theorem dS.heap{lt:Int->Int->Bool}{l:List Int}(h:dS lt 2 l i)(v:∀j,1<=j->j<l.length->pa 2 j=i->lt (l.getD j 0) (l.getD i 0)=false)
  (e:1<=i->i<l.length->lt (l.getD i 0) (l.getD (pa 2 i) 0)=false):ej lt 2 l:=by
 intro j a m;by_cases x:j=i
 ·grind
 ·by_cases z:pa 2 j=i
  ·grind
  ·exact h.1 j a m x z
theorem T7{lt:Int->Int->Bool}(y:bA lt){l:List Int}(hi:1<=i)(o:i<l.length)(m:dS lt 2 l i)(u:∀j,1<=j->j<l.length->pa 2 j=i->lt (l.getD j 0) (l.getD i 0)=false)
  (f:lt (l.getD i 0) (l.getD (pa 2 i) 0)=true):dS lt 2 (swp l (pa 2 i) i) (pa 2 i)/\∀j,1<=j->j< (swp l (pa 2 i) i).length->pa 2 j=pa 2 i->lt ((swp l (pa 2 i) i).getD j 0) ((swp l (pa 2 i) i).getD (pa 2 i) 0)=false:=by
 have B:=db eV hi;have g:=DA (l:=l) (i:=pa 2 i) (j:=i) O o;rw[gZ];have L:∀j,1<=j->j<l.length->pa 2 j=pa 2 i->j≠i->lt (l.getD j 0) (l.getD i 0)=false:=fun j x h e a=>by
  have p:=m.1 j x h a O;cases y;grind
 refine⟨⟨fun j x h e a=>?_,fun j x h e a=>?_⟩,fun j x h e=>?_⟩
 ·rw[gZ]at h;have t:=db eV x;rw[g,g,if_neg a];by_cases z:j=i
  ·grind
  ·rw[if_neg z,if_neg e];by_cases v:pa 2 j=i
   ·rw[if_pos v];exact m.2 j x h v O
   ·rw[if_neg v];exact m.1 j x h z v
 ·rw[gZ]at h;have P:=db eV a;rw[g,g,if_neg (show pa 2 (pa 2 i)≠i by omega),if_neg (show pa 2 (pa 2 i)≠pa 2 i by omega)];have d:=m.1 (pa 2 i) a O O O;by_cases z:j=i
  ·rw[if_pos z];exact d
  ·have t:=db eV x;rw[if_neg z,if_neg O];have p:=m.1 j x h z O;cases y;grind
 ·have t:=db eV x;rw[g,g,if_neg (show pa 2 i≠i by omega),if_pos rfl];by_cases z:j=i
  ·rw[if_pos z];exact y.vk f
  grind
theorem Pm{lt:Int->Int->Bool}(o:bA lt){l:List Int}{b:Nat}(t:1<=b)(d:b<l.length)(m:pa 2 b=i)(a:dS lt 2 l i)(u:∀j,1<=j->j<l.length->pa 2 j=i->lt (l.getD j 0) (l.getD b 0)=false)
  (p:lt (l.getD b 0) (l.getD i 0)=true):dS lt 2 (swp l i b) b/\lt ((swp l i b).getD b 0) ((swp l i b).getD (pa 2 b) 0)=false:=by
 have B:=db eV t;have g:=DA (l:=l) (i:=i) (j:=b) O d;refine⟨⟨fun j x h e y=>?_,fun j x h e y=>?_⟩,?_⟩
 ·rw[gZ]at h;have f:=db eV x;rw[g,g,if_neg e,if_neg y];by_cases z:j=i
  ·subst z;rw[if_pos rfl,if_neg O];exact a.2 b t d m x
  ·rw[if_neg z];by_cases v:pa 2 j=i
   ·grind
   ·rw[if_neg v];exact a.1 j x h z v
 ·rw[gZ]at h;have f:=db eV x;rw[g,g,if_neg O,if_neg O,if_neg O,if_pos m];have:=a.1 j x h O O;grind
 ·rw[g,g,if_pos rfl,m,if_neg O,if_pos rfl];exact o.vk p
def je(l at_:List Int):Prop:=∀ (i:Nat) (x:Int),l[i]? =some x->0<=x/\at_[x.toNat]? =some (i:Int)
theorem je.zL{l at_:List Int}(h:je l at_)(hi:l[i]? =some x)(z:l[j]? =some x):i=j:=by
 have a:=(h i x hi).2;have m:=(h j x z).2;grind
def yd(l at_:List Int)(i j:Nat):List Int:=(at_.set (l.getD j 0).toNat i).set (l.getD i 0).toNat j
theorem je.swp{l at_:List Int}(h:je l at_)(hi:i<l.length)(g:j<l.length)(A:i≠j):je (swp l i j) (yd l at_ i j)/\(yd l at_ i j).length=at_.length/\∀z:Int,0<=z->z∉l->(yd l at_ i j)[z.toNat]? =at_[z.toNat]? :=by
 have e:∀q,q<l.length->l[q]? =some (l.getD q 0):=fun q L=>by rw[alf,ak9 L];rfl
 obtain⟨a0,a1⟩:=h i _ (e i hi);obtain⟨b0,v⟩:=h j _ (e j g);have u:=(ak8.1 a1).1;have B:=(ak8.1 v).1;have P:(l.getD i 0).toNat≠(l.getD j 0).toNat:=fun m=>by
  rw[m,v]at a1;injection a1 with a1;omega
 unfold yd;refine⟨fun k x a=>?_,by simp,fun z K hm=>?_⟩
 ·rw[pH hi g]at a;split at a
  ·rename_i t;rw[e i hi]at a;injection a with a;subst a;rw[aln (by simpa using u),t];exact⟨a0,rfl⟩
  ·split at a
   ·rename_i t o;rw[e j g]at a;injection a with a;subst a;rw[alh P,aln B,o];exact⟨b0,rfl⟩
   ·rename_i t o;obtain⟨f,y⟩:=h k x a;have d:(l.getD i 0).toNat≠x.toNat:=fun m=>by
     rw[m,y]at a1;injection a1 with a1;omega
    have p:(l.getD j 0).toNat≠x.toNat:=fun m=>by
     rw[m,y]at v;injection v with v;omega
    rw[alh d,alh p];exact⟨f,y⟩
 ·have d:(l.getD i 0).toNat≠z.toNat:=fun m=>hm (by rw[show z=l.getD i 0 by omega];exact ali (e i hi));have p:(l.getD j 0).toNat≠z.toNat:=fun m=>hm (by rw[show z=l.getD j 0 by omega];exact ali (e j g));rw[alh d,alh p]
theorem pa2(j:Nat):((pa 2 j:Nat):Int)=if j=0 then 0 else((j:Int) - 1) / 2:=by
 grind [pa]
theorem Sl.at_{H:Hp}{v:Value}{n:Nat}{xs:List Value}{fp:Option Nat}(h:Sl H 1 v n xs fp){x:Value}(a:xs[i]? =some x):∃b z lb,v= .slice (some ⟨b,0,none⟩) n z/\fp=some b/\H.own b=some lb/\lb[i]? =some x/\i<n/\n<=lb.length:=by
 have hi:=(ak8.1 a).1;obtain⟨m,hm⟩:=id h;grind
structure gK(H:Hp)(n c:Nat)(C:Nat->Prop)(rv:Value)(r:Nat)(fp fa:Option Nat)(st:Int)(w:Nw)(l at_:List Int):Prop where
 own:∃av,H.own n=some [ptr c,rv,av]/\Sl H 1 av at_.length (at_.map i64) fa
 cells:bj H c C st w
 jf:∃sv,H.own r=some [ptr n,sv]/\Sl H 1 sv l.length (l.map i64) fp
 nC:¬C n
 rC:¬C r
 rn:r≠n
 uA:∀b,fp=some b->¬C b/\b≠n/\b≠r/\fa≠some b
 HF:∀b,fa=some b->¬C b/\b≠n/\b≠r
 ll:l.length<=65536
abbrev pv(r:Nat):Value:=.iface 530 (ptr r)
theorem pI{l:List Int}(h:l[i]? =some x):l.getD i 0=x:=Z
theorem getD_take{l:List Int}{k:Nat}(h:k<m):(l.take m).getD k 0=l.getD k 0:=Z
section
variable {H : Hp} {n c : Nat} {C : Nat → Prop} {rv : Value} {r : Nat} {fp fa : Option Nat} {st : Int} {w : Nw} {l at_ : List Int}
theorem gL(m:gK H n c C rv r fp fa st w l at_):aD 495 [ptr r] H fun v J=>ak (v=i64 l.length/\H=J):=by
 obtain⟨e,x,h⟩:=m.jf;obtain⟨a,z,rfl⟩:=bD.Dj h.rd;refine aL Bj ?_;refine v1 (ae x) ?_;exact⟨rfl,rfl⟩
theorem DB(m:gK H n c C rv r fp fa st w l at_)(hi:i<l.length)(I:j<l.length)(P:∀z∈l,cu w.cs z):aD 503 [ptr r,i64 i,i64 j] H fun v J=>ak (
  v= .bool (aU w (l.getD i 0) (l.getD j 0))/\gK J n c C rv r fp fa (min (st+1) 4611686018427387904) w l at_/\aj C H J):=by
 obtain⟨A,L,K⟩:=m.own;obtain⟨E,t,d⟩:=m.jf;obtain⟨x,p⟩:∃x,l[i]? =some x:=⟨_,ak9 hi⟩;obtain⟨y,o⟩:∃y,l[j]? =some y:=Z;obtain⟨b,U,lb,rfl,Q,h,F,_,_⟩:=Sl.at_ d (i:=i) (x:=i64 x) (by simp[p]);obtain⟨b',W,M,D,g,e,N,_,_⟩:=Sl.at_ d (i:=j) (x:=i64 y) (by simp[o]);rw[Q]at g;injection g with g;subst g;rw[h]at e;injection e with e;subst e;have V:=m.ll;refine aL zz ?_;refine v2 (ae t) (ae L) ?_;refine⟨O,?_⟩;refine v5 (ae h) ala F (ae t) Int.toNat_natCast ?_;refine⟨O,?_⟩;refine v4 (ae h) ala N Int.toNat_natCast ?_;have u:=P x (ali p);have B:=P y (ali o);refine(iN m.cells x y).mono ?_;rintro _ H1 ⟨rfl,f,a⟩;refine vs ?_;have G:=m.cells.st;rw[if_pos ⟨u,B⟩,show fP st 1=min (st+1) 4611686018427387904 by unfold fP;rw[if_neg O];split<;>omega]at f;refine⟨by rw[pI p,pI o,tA u B];rfl,⟨⟨A,a.own L m.nC,K.ext a (fun b h=>(m.HF b h).1)⟩,f,⟨_,a.own t m.rC,d.ext a (fun b h=>(m.uA b h).1)⟩,m.nC,m.rC,m.rn,m.uA,m.HF,m.ll⟩,a⟩
theorem DC(m:gK H n c C rv r fp fa st w l at_)(K:je l at_)(hi:i<l.length)(hj:j<l.length)(hij:i≠j):aD 506 [ptr r,i64 i,i64 j] H fun v J=>ak (
  v= .tuple [].toArray/\gK J n c C rv r fp fa st w (swp l i j) (yd l at_ i j)/\aj (fun z=>fp=some z\/fa=some z) H J):=by
 obtain⟨av,F,A⟩:=m.own;obtain⟨sv,d,B⟩:=m.jf;obtain⟨x,P⟩:∃x,l[i]? =some x:=⟨_,ak9 hi⟩;obtain⟨y,L⟩:∃y,l[j]? =some y:=Z;obtain⟨b,cc,lb,rfl,rfl,h,zS,_,Fe⟩:=Sl.at_ B (i:=i) (x:=i64 x) (by simp[P]);obtain⟨b',Km,lb',hv,p,g,hby,_,_⟩:=Sl.at_ B (i:=j) (x:=i64 y) (by simp[L]);injection p with p;subst p;rw[h]at g;injection g with g;subst g;obtain⟨j4,E⟩:=K i x P;obtain⟨hy0,X⟩:=K j y L;have Nf:=(ak8.1 E).1;have hyl:=(ak8.1 X).1;obtain⟨f,fc,la,rfl,rfl,hf,T8,_,Pn⟩:=Sl.at_ A (i:=x.toNat) (x:=i64 i) Z;have wT:=m.ll;obtain⟨d1,U,W,d4⟩:=m.uA b rfl;obtain⟨g1,I,V⟩:=m.HF f rfl;have hbf:b≠f:=Z;refine aL zB ?_;refine v1 (ae d) ?_;refine⟨O,?_⟩;refine v5 (ae h) ala hby (ae d) Int.toNat_natCast ?_;refine⟨O,?_⟩;refine v4 (ae h) ala zS Int.toNat_natCast ?_;refine⟨O,?_⟩;refine v3 h ala Int.toNat_natCast ?_;refine⟨O,?_⟩;refine v1 ak7 ?_;refine⟨O,?_⟩;simp(disch:=(first|exact aV|fail)) only[go_sem, ↓reduceIte,Zv,ci h,ala,Int.toNat_natCast];refine⟨Z,?_⟩;refine v1 ak7 ?_;have a:aj (fun z=>z=b) H (H.wr b ((lb.set i (i64 y)).set j (i64 x))):=(aj.refl (fun z=>z=b) _).wr (fun _=>rfl) _;have N:(H.wr b ((lb.set i (i64 y)).set j (i64 x))).own b=some ((lb.set i (i64 y)).set j (i64 x)):=ah h;have s1:=(B.nG h i (i64 y)).nG (ah h) j (i64 x);rw[JM]at s1;generalize H.wr b ((lb.set i (i64 y)).set j (i64 x))=H1 at*;have u:=a.own d (Ne.symm W);have o:=a.own F (Ne.symm U);have t:=a.own hf (Ne.symm hbf);have M:=A.ext a Z;have Q:=m.cells.ext a Z;have G:((lb.set i (i64 y)).set j (i64 x))[i]? =some (i64 y):=Z;have D:((lb.set i (i64 y)).set j (i64 x))[j]? =some (i64 x):=by rw[aln (by rw[alb];omega)]
 refine v4 (ae d) (ae F) (ae u) (ae o) ?_;refine⟨O,?_⟩;refine v6 (ae N) ala G (ae u) (ae o) Int.toNat_natCast ?_;refine⟨O,?_⟩;refine v4 (ae N) ala D Int.toNat_natCast ?_;refine⟨O,?_⟩;refine v3 t ala ak7 ?_;refine⟨O,?_⟩;refine v1 ak7 ?_;refine⟨O,?_⟩;simp(disch:=(first|exact aV|fail)) only[go_sem, ↓reduceIte,Zv,ci t,ala,ak7];refine⟨Z,?_⟩;refine v1 ak7 ?_;have e:aj (fun z=>z=f) H1 (H1.wr f ((la.set y.toNat (i64 i)).set x.toNat (i64 j))):=(aj.refl (fun z=>z=f) _).wr (fun _=>rfl) _;have s2:=(M.nG t y.toNat (i64 i)).nG (ah t) x.toNat (i64 j);rw[JM]at s2;have ex:=pI P;have ey:=pI L;refine⟨rfl,⟨⟨_,e.own o (Ne.symm I),?_⟩,Q.ext e Z,⟨_,e.own u (Ne.symm V),?_⟩,m.nC,m.rC,m.rn,m.uA,m.HF,by rw[gZ];omega⟩,(a.mono Z).trans (e.mono Z)⟩
 ·unfold yd;simp_all
 ·have:=s1.ext e Z;unfold swp;simp_all
end
structure lW(n c:Nat)(C:Nat->Prop)(rv:Value)(r:Nat)(fp fa:Option Nat)(st:Int)(w:Nw)(l at_:List Int)(mm:Nat)(H J:Hp)(l' at':List Int)(q:Nat):Prop where
 jf:gK J n c C rv r fp fa (min (st+q) 4611686018427387904) w l' at'
 ok:je l' at'
 mem:∀z,z∈l'↔z∈l
 len:l'.length=l.length
 drop:l'.drop mm=l.drop mm
 HG:at'.length=at_.length
 off:∀z:Int,0<=z->z∉l->at'[z.toNat]? =at_[z.toNat]?
 ext:aj (fun z=>C z\/fp=some z\/fa=some z) H J
section
variable {H H1 : Hp} {n c : Nat} {C : Nat → Prop} {rv : Value} {r : Nat} {fp fa : Option Nat} {st : Int} {w : Nw} {l at_ l1 Fo : List Int} {mm q : Nat}
theorem lW.refl(m:gK H n c C rv r fp fa st w l at_)(x:je l at_)(mm:Nat):lW n c C rv r fp fa st w l at_ mm H H l at_ 0:=
 ⟨by have:=m.cells.st;grind,x,fun _=>Iff.rfl,rfl,rfl,rfl,fun _ _ _=>rfl,aj.refl _ _⟩
theorem lW.less(h:lW n c C rv r fp fa st w l at_ mm H H1 l1 Fo q)(m:∀z∈l,cu w.cs z)(hi:i<l.length)(y:j<l.length):fL Tryz.prog (pv r) "Less" [i64 i,i64 j] H1 fun v x=>
  v= .bool (aU w (l1.getD i 0) (l1.getD j 0))/\lW n c C rv r fp fa st w l at_ mm H x l1 Fo (q+1):=by
 have t:=h.len;refine⟨_,_,503,ptr r,rfl,aZ Y,(DB h.jf O O (fun z g=>m z ((h.mem z).1 g))).mono ?_⟩;rintro v x ⟨e,d,a⟩;refine⟨e,?_,h.ok,h.mem,h.len,h.drop,h.HG,h.off,h.ext.trans (a.mono Z)⟩;grind
theorem lW.swap(h:lW n c C rv r fp fa st w l at_ mm H H1 l1 Fo q)(hm:mm<=l.length)(hi:i<mm)(y:j<mm)(m:i≠j):fL Tryz.prog (pv r) "Swap" [i64 i,i64 j] H1 fun v a=>
  v= .tuple [].toArray/\lW n c C rv r fp fa st w l at_ mm H a (swp l1 i j) (yd l1 Fo i j) q:=by
 have p:=h.len;refine⟨_,_,506,ptr r,rfl,aZ Y,(DC h.jf h.ok (i:=i) (j:=j) O O m).mono ?_⟩;rintro v a ⟨t,d,e⟩;obtain⟨a1,a2,a3⟩:=h.ok.swp (i:=i) (j:=j) O O m;refine⟨t,d,a1,fun z=>by rw[Ru O O,h.mem z],by rw[gZ];exact h.len,by rw[Pk hi y O];exact h.drop,a2.trans h.HG,fun z x hm=>?_,h.ext.trans (e.mono fun z _ x=>.inr x)⟩;rw[a3 z x (fun g=>hm ((h.mem z).1 g))];exact h.off z x hm
theorem pJ(m:gK H n c C rv r fp fa st w l at_)(f:je l at_){mm:Nat}(B:j<mm)(hm:mm<=l.length)(u:∀z∈l,cu w.cs z)(x:dS (aU w) 2 (l.take mm) j)
  (a:∀k,1<=k->k< (l.take mm).length->pa 2 k=j->aU w ((l.take mm).getD k 0) ((l.take mm).getD j 0)=false):
  aD 497 [pv r,i64 j] H fun v J=>ak (v= .tuple [].toArray/\∃ (l' at':List Int) (q:Nat),lW n c C rv r fp fa st w l at_ mm H J l' at' q/\ej (aU w) 2 (l'.take mm)/\q<=ix 2 j/\(1<=j->0<q)):=by
 have P:=ar w;have W:=m.ll;refine aL ut ?_;refine vs ?_;refine ba.intro (fun k env J=>∃ (j':Nat) (l1 Fo:List Int) (q:Nat),env=[(0,pv r),(1,i64 j')]/\k=j'/\j'<mm/\lW n c C rv r fp fa st w l at_ mm H J l1 Fo q/\dS (aU w) 2 (l1.take mm) j'/\
   (∀k,1<=k->k< (l1.take mm).length->pa 2 k=j'->aU w ((l1.take mm).getD k 0) ((l1.take mm).getD j' 0)=false)/\q+ix 2 j'<=ix 2 j/\(j'≠j->0<q)) j
  ⟨j,l,at_,0,rfl,rfl,B,lW.refl m f mm,x,a,O,O⟩ ?_
 clear x a;rintro j' env H1 ⟨_,l1,Fo,q,rfl,rfl,t,e,x,a,D,M⟩;have U:=e.len;have d:=pa2 j';have A:IntKind.i64.wrap ((IntKind.i64.wrap ((j':Int) - 1)).tdiv 2)=((pa 2 j':Nat):Int):=by
  rw[wrap64 (n:=(j':Int) - 1) O O,d];split
  ·rename_i h;subst h;rfl
  ·grind [wrap64]
 simp(disch:=(first|exact aV|fail)) only[go_sem, ↓reduceIte,Zv,if_neg (show¬ ((2:Int)=0) by decide)];rw[A];have X:(l1.take mm).length=mm:=by rw[alC];omega
 by_cases g:j'=0
 ·refine ai.bK (ale (by rw[d,if_pos g,g];rfl)) ?_;refine vs ?_;exact⟨rfl,l1,Fo,q,e,x.heap a (fun h=>O),O,O⟩
 ·have G:=O;refine ai.aR (alc O) ?_;refine vs ?_;refine fL.mono (e.less u (i:=j') (j:=pa 2 j') O O) ?_;rintro _ K ⟨rfl,y⟩;have TN:ix 2 (j':Int)=ix 2 ((pa 2 j':Nat):Int)+1:=by
   obtain⟨p,V,L,p0,p1⟩:=lM eV (i:=(j':Int)) O;rw[Int.toNat_natCast]at L;grind [nW]
  refine vs ?_;cases I:aU w (l1.getD j' 0) (l1.getD (pa 2 j') 0)with
  |false=>
   refine vs ?_;refine⟨rfl,l1,Fo,q+1,y,x.heap a (fun _ _=>?_),O,fun _=>O⟩;grind
  |true=>
   refine vs ?_;refine fL.mono (y.swap hm (i:=pa 2 j') (j:=j') O t O) ?_;rintro _ F ⟨rfl,o⟩;refine vs ?_;obtain⟨N,Q⟩:=T7 P (l:=l1.take mm) (i:=j') O O x a Z;have E:(swp l1 (pa 2 j') j').take mm=swp (l1.take mm) (pa 2 j') j':=JL O t O;exact⟨pa 2 j',O,pa 2 j',_,_,q+1,rfl,rfl,O,o,Z,Z,O,fun _=>O⟩
theorem sG(m:gK H n c C rv r fp fa st w l at_)(hat:je l at_){i0 mm:Nat}(hi:i0<mm)(hm:mm<=l.length)(M:∀z∈l,cu w.cs z)(L:dS (aU w) 2 (l.take mm) i0):
  aD 496 [pv r,i64 i0,i64 mm] H fun v J=>ak (∃ (b:Bool) (l' at':List Int) (q:Nat),v= .bool b/\lW n c C rv r fp fa st w l at_ mm H J l' at' q/\q+2*ix 2 i0<=2*ix 2 ((mm:Int) - 1)/\
   (b=true->ej (aU w) 2 (l'.take mm))/\(b=false->l'=l/\at'=at_/\∀k,1<=k->k< (l.take mm).length->pa 2 k=i0->aU w ((l.take mm).getD k 0) ((l.take mm).getD i0 0)=false)):=by
 have A:=ar w;have wT:=m.ll;refine Rh qQ ⟨rfl,?_⟩;refine v1 jm.eq_1 ?_;have SP:∀k:Nat,k<mm->ix 2 (k:Int)<=ix 2 ((mm:Int) - 1):=fun k hk=>jV eV ((mm:Int) - 1).toNat _ _ (alj _) O;refine ba.intro (fun k env J=>∃ (i:Nat) (l1 Fo:List Int) (q:Nat),env=[(0,pv r),(1,i64 i0),(2,i64 mm),(7,i64 i)]/\k=mm - i/\i<mm/\i0<=i/\lW n c C rv r fp fa st w l at_ mm H J l1 Fo q/\dS (aU w) 2 (l1.take mm) i/\
   q+2*ix 2 i0<=2*ix 2 i/\(i0<i->aU w ((l1.take mm).getD i 0) ((l1.take mm).getD (pa 2 i) 0)=false)/\(i=i0->l1=l/\Fo=at_)) (mm - i0)
  ⟨i0,l,at_,0,rfl,rfl,hi,alj _,lW.refl m hat mm,L,O,fun h=>O,Z⟩ ?_
 clear L;rintro k env H1 ⟨i,l1,Fo,q,rfl,rfl,D,Nc,K,L,hq,hD,XE⟩;have V5:=K.len;have XP:(l1.take mm).length=mm:=by rw[alC];omega
 have stay:∀ (a:Hp) (x:Nat),lW n c C rv r fp fa st w l at_ mm H a l1 Fo x->x+2*ix 2 i0<=2*ix 2 ((mm:Int) - 1)->(∀k,1<=k->k< (l1.take mm).length->pa 2 k=i->aU w ((l1.take mm).getD k 0) ((l1.take mm).getD i 0)=false)->
   ∃ (b:Bool) (l' at':List Int) (q:Nat),Value.bool (decide ((i:Int)>i0))= .bool b/\lW n c C rv r fp fa st w l at_ mm H a l' at' q/\q+2*ix 2 i0<=2*ix 2 ((mm:Int) - 1)/\
    (b=true->ej (aU w) 2 (l'.take mm))/\(b=false->l'=l/\at'=at_/\∀k,1<=k->k< (l.take mm).length->pa 2 k=i0->aU w ((l.take mm).getD k 0) ((l.take mm).getD i0 0)=false):=by
  intro a x u hq' hB;refine⟨_,l1,Fo,x,rfl,u,hq',fun h=>?_,fun h=>?_⟩
  ·have:=of_decide_eq_true h;exact L.heap hB Z
  ·grind
 have G:∀k:Nat,1<=k->(pa 2 k=i↔(2*i+1<=k/\k<=2*i+2)):=by grind [pa]
 refine vs ?_;have hj1:IntKind.i64.wrap (IntKind.i64.wrap (2*(i:Int))+1)=((2*i+1:Nat):Int):=by
  rw[wrap64 (n:=2*(i:Int)) O O,wrap64 O O];omega
 rw[hj1];refine ai.dec (fun hge=>?_) (fun hge=>?_)
 ·refine vs ?_;exact stay H1 q K Z Z
 refine vs ?_;refine ai.aR Z ?_;refine vs ?_;have V:2*i+1<mm:=O;refine ez (fun e a=>e.find 0=some (pv r)/\e.find 1=some (i64 i0)/\e.find 2=some (i64 mm)/\e.find 7=some (i64 i)/\∃ (b:Nat) (x:Nat),e.find 9=some (i64 b)/\lW n c C rv r fp fa st w l at_ mm H a l1 Fo x/\x<=q+1/\1<=b/\b<mm/\pa 2 b=i/\
   ∀k,1<=k->k< (l1.take mm).length->pa 2 k=i->aU w ((l1.take mm).getD k 0) ((l1.take mm).getD b 0)=false) ?_ ?_
 ·have E:pa 2 (2*i+1)=i:=Z;refine vs ?_;have Pd:IntKind.i64.wrap (((2*i+1:Nat):Int)+1)=((2*i+2:Nat):Int):=by rw[wrap64 O O];omega
  rw[Pd];refine ai.dec (fun u=>?_) (fun u=>?_)
  ·have TR:pa 2 (2*i+2)=i:=Z;refine vs ?_;refine fL.mono (K.less M (i:=2*i+2) (j:=2*i+1) O O) ?_;rintro _ a ⟨rfl,F⟩;refine vs ?_;cases U:aU w (l1.getD (2*i+2) 0) (l1.getD (2*i+1) 0)with
   |false=>
    refine vs ?_;refine⟨trivial,trivial,trivial,trivial,2*i+1,q+1,rfl,F,O,O,V,E,fun k g B P=>?_⟩;have W:=(G k g).1 P;rw[getD_take O,getD_take O];by_cases N:k=2*i+1
    ·rw[N];exact A.Ih _
    ·rw[show k=2*i+2 by omega];exact U
   |true=>
    refine vs ?_;refine⟨trivial,trivial,trivial,trivial,2*i+2,q+1,rfl,F,O,O,O,TR,fun k g B P=>?_⟩;have W:=(G k g).1 P;rw[getD_take O,getD_take O];by_cases N:k=2*i+2
    ·rw[N];exact A.Ih _
    ·rw[show k=2*i+1 by omega];exact A.vk U
  ·refine vs ?_;refine⟨trivial,trivial,trivial,trivial,2*i+1,q,rfl,K,O,O,V,E,fun k g B P=>?_⟩;grind [aU]
 rintro e a ⟨y,t,d,o,b,x,f,u,hq',I,Q,X,T9⟩;refine v5 y t d o f ?_;refine fL.mono (u.less M (i:=b) (j:=i) O O) ?_;rintro _ H3 ⟨rfl,g⟩;have TN:ix 2 (b:Int)=ix 2 (i:Int)+1:=by
  obtain⟨p,hp,hpa,p0,p1⟩:=lM eV (i:=(b:Int)) O;rw[Int.toNat_natCast,X]at hpa;rw[nW hp,show p=(i:Int) by omega]
 have hib:=db eV I;refine v5 y t d o f ?_;cases U:aU w (l1.getD b 0) (l1.getD i 0)with
 |false=>
  refine v5 y t d o f ?_;refine stay H3 (x+1) g Z (fun k B P W=>?_);cases A;grind
 |true=>
  refine v5 y t d o f ?_;refine fL.mono (g.swap hm (i:=i) (j:=b) D Q O) ?_;rintro _ H4 ⟨rfl,B⟩;refine v5 y t d o f ?_;obtain⟨g1,F⟩:=Pm A (l:=l1.take mm) (i:=i) (b:=b) I O X L T9 Z;have ht:(swp l1 i b).take mm=swp (l1.take mm) i b:=JL D Q O;exact⟨mm - b,O,b,_,_,x+1,rfl,rfl,Q,O,B,Z,O,Z,fun h=>O⟩
end
end
section
variable {H : Hp} {n c : Nat} {C : Nat → Prop} {rv : Value} {r : Nat} {fp fa : Option Nat} {st : Int} {w : Nw} {l at_ : List Int}
theorem DD(m:gK H n c C rv r fp fa st w l at_)(hl:l.length<65536){x:Int}(hx:0<=x/\x.toNat<at_.length):aD 505 [ptr r,.iface 3 (i64 x)] H fun v J=>ak (
  v= .tuple [].toArray/\∃j,gK J n c C rv r j fa st w (l++[x]) (at_.set x.toNat l.length)/\aj (fun z=>fp=some z\/fa=some z\/z=r) H J/\(j=fp\/∃z,j=some z/\H.size<=z)):=by
 obtain⟨av,K,L⟩:=m.own;obtain⟨sv,u,U⟩:=m.jf;obtain⟨y,hy⟩:∃y,at_[x.toNat]? =some y:=⟨_,ak9 hx.2⟩;obtain⟨f,fc,V,rfl,rfl,o,T8,_,Pn⟩:=Sl.at_ L (i:=x.toNat) (x:=i64 y) (by simp[hy]);obtain⟨g1,X,g3⟩:=m.HF f rfl;obtain⟨sa,sc,Ua⟩:=bD.Dj U.rd;refine aL zA ?_;refine vs ?_;refine v3 (ae u) (ae K) Ua ?_;refine⟨O,?_⟩;refine v3 o ala ak7 ?_;refine⟨O,?_⟩;refine v1 ak7 ?_;have t:aj (fun z=>z=f) H (H.wr f (V.set x.toNat (i64 l.length))):=(aj.refl (fun z=>z=f) _).wr (fun _=>rfl) _;have s1:=L.nG o x.toNat (i64 l.length);have F:=t.own K (Ne.symm X);have N:=t.own u (Ne.symm g3);have Ik:=U.ext t (fun z g h=>(m.uA z g).2.2.2 (by rw[h]));have B:=m.cells.ext t Z;generalize H.wr f (V.set x.toNat (i64 l.length))=H1 at*;have P:aj (fun _=>False) H1 (H1.new 3 [i64 x]):=bm;refine v1 (ae u) ?_;refine Sl.append (Ik.ext P (fun _ _ h=>h)) (Sl.bs (size:=1) (xs:=[i64 x]) rfl rfl).rd rfl (by intro v W;simp only[alv]at W;subst W;rfl) O ?_;intro sv' H3 j G E ww;have z1:=t.size;have hrs:=aB N;have hns:=aB F;have d:aj (fun z=>fp=some z) H1 H3:=(P.mono fun _ _ h=>h.elim).lE E (fun z _ h=>h);have Q:=d.own N (fun h=>(m.uA r h).2.2.1 rfl);have hn3:=d.own F (fun h=>(m.uA n h).2.1 rfl);obtain⟨D,M,I⟩:=bD.Dj G.rd;subst I;refine v1 Q ?_;generalize I:Value.slice D (l.length+1) M=v' at*;have p:aj (fun z=>z=r) H3 (H3.wr r [ptr n,v']):=(aj.refl (fun z=>z=r) _).wr (fun _=>rfl) _;have hfs:=aB o;have A:∀b,j=some b->fp=some b\/H1.size<=b:=fun b a=>by
  rcases ww with h| ⟨z,h,e,_⟩
  ·grind
  ·rw[h]at a;injection a with a;subst a;rw[ag]at e;omega
 have XQ:=B.slt;refine⟨rfl,j,⟨⟨_,p.own hn3 (Ne.symm m.rn),?_⟩,(B.ext d (fun z g h=>(m.uA z h).1 g)).ext p (fun z g h=>m.rC (h▸g)),⟨_,ah Q,?_⟩,m.nC,m.rC,m.rn,fun b a=>?_,m.HF,Z⟩,
  (t.mono Z).trans ((d.mono Z).trans (p.mono O)),?_⟩
 ·have:=((s1.ext d (fun z g h=>(m.uA z h).2.2.2 g)).ext p Z);simp_all
 ·have:=G.ext p (fun b a h=>by
   rcases A b a with e|e
   ·exact(m.uA b e).2.2.1 h
   ·omega)
  grind
 ·rcases A b a with e|e
  ·exact m.uA b e
  grind
 grind
theorem Fp(m:gK H n c C rv r fp fa st w l at_)(D:0<l.length):aD 504 [ptr r] H fun v J=>ak (
  (∃x,v= .iface 3 (i64 x))/\gK J n c C rv r fp fa st w l.dropLast at_/\aj (fun z=>z=r) H J):=by
 obtain⟨U,A,P⟩:=m.own;obtain⟨X,e,p⟩:=m.jf;have E:=m.ll;obtain⟨x,F⟩:∃x,l[l.length - 1]? =some x:=⟨_,ak9 O⟩;obtain⟨f,cc,lb,rfl,rfl,y,L,_,M⟩:=Sl.at_ p (i:=l.length - 1) (x:=i64 x) (by simp[F]);have d:IntKind.i64.wrap ((l.length:Int) - 1)=((l.length - 1:Nat):Int):=by rw[wrap64 O O];omega
 obtain⟨_,l2,W,t,g,Q,o,u⟩:=id p;injection t with _ _ t;subst t;rw[y]at g;injection g with g;subst g;refine aL Bk ?_;simp(disch:=(first|exact aV|fail)) only[go_sem, ↓reduceIte,Zv,ae e,d,Int.toNat_natCast];refine⟨O,?_⟩;simp(disch:=(first|exact aV|fail)) only[go_sem, ↓reduceIte,Zv,ae y,ae e,ala,L,d];refine⟨O,?_⟩;have K:Value.slice (if(cc:Int)=((0:Nat):Int)then some (⟨f,0,none⟩:Addr)else Option.map (fun(x:Addr)=>x.add (((0:Nat):Int).toNat*1)) (some (⟨f,0,none⟩:Addr))) (((l.length - 1:Nat):Int).toNat - ((0:Nat):Int).toNat) ((cc:Int).toNat - ((0:Nat):Int).toNat)= .slice (some ⟨f,0,none⟩) (l.length - 1) cc:=by
  split<;>rfl
 refine v2 (ae e) e ?_;rw[K];have a:aj (fun z=>z=r) H (H.wr r [ptr n,.slice (some ⟨f,0,none⟩) (l.length - 1) cc]):=(aj.refl (fun z=>z=r) _).wr (fun _=>rfl) _;obtain⟨I,V,B,G⟩:=m.uA f rfl;refine⟨⟨_,rfl⟩,⟨⟨_,a.own A (Ne.symm m.rn),P.ext a (fun z j h=>(m.HF z j).2.2 h)⟩,m.cells.ext a (fun z j h=>m.rC (h▸j)),⟨_,ah e,?_⟩,m.nC,m.rC,m.rn,m.uA,m.HF,Z⟩,a⟩;refine⟨by simp,lb,cc,Z,a.own y B,Z,o,?_⟩;have N:((l.map i64).length)=l.length:=by simp
 rw[alV,List.map_dropLast,amc,N,<-u,amz];grind
theorem sH(m:gK H n c C rv r fp fa st w l at_)(L:je l at_)(N:l.length<65536){x:Int}(V:0<=x/\x.toNat<at_.length)(tC:x∉l)(Ub:cu w.cs x)(X:∀z∈l,cu w.cs z)(F:ej (aU w) 2 l):
  aD 494 [pv r,.iface 3 (i64 x)] H fun v J=>ak (v= .tuple [].toArray/\∃ (t:Option Nat) (l' at':List Int) (q:Nat),gK J n c C rv r t fa (min (st+q) 4611686018427387904) w l' at'/\je l' at'/\ej (aU w) 2 l'/\(∀z,z∈l'↔z=x\/z∈l)/\l'.length=l.length+1/\
   at'.length=at_.length/\(∀z:Int,0<=z->z≠x->z∉l->at'[z.toNat]? =at_[z.toNat]?)/\q<=ix 2 l.length/\(0<l.length->0<q)/\aj (fun z=>C z\/fp=some z\/fa=some z\/z=r) H J/\(t=fp\/∃z,t=some z/\H.size<=z)):=by
 refine aL qP ?_;refine vs ?_;refine fL.mono (K:=fun v J=>v= .tuple [].toArray/\∃t,gK J n c C rv r t fa st w (l++[x]) (at_.set x.toNat l.length)/\aj (fun z=>fp=some z\/fa=some z\/z=r) H J/\(t=fp\/∃z,t=some z/\H.size<=z)) ⟨_,_,505,ptr r,rfl,aZ Y,DD m N V⟩ ?_;rintro _ H1 ⟨rfl,t,B,P,o⟩;refine vs ?_;refine fL.mono (K:=fun v J=>v=i64 (l++[x]).length/\H1=J) ⟨_,_,495,ptr r,rfl,aZ Y,gL B⟩ ?_;rintro _ _ ⟨rfl,rfl⟩;refine vs ?_;have U:(l++[x]).length=l.length+1:=by simp
 rw[show IntKind.i64.wrap (((l++[x]).length:Int) - 1)=((l.length:Nat):Int) by rw[U,wrap64 O O];omega];have A:je (l++[x]) (at_.set x.toNat l.length):=fun i z e=>by
  rcases Nat.lt_trichotomy i l.length with h|h|h
  ·rw[List.getElem?_append_left h]at e;obtain⟨a,b⟩:=L i z e;grind
  ·grind
  grind
 have I:(l++[x]).take (l++[x]).length=l++[x]:=alx;have f:∀k,k<l.length->(l++[x]).getD k 0=l.getD k 0:=Z;have hpl:∀k:Nat,1<=k->k<l.length+1->pa 2 k≠l.length:=by grind [pa]
 refine(pJ B A (j:=l.length) (mm:=(l++[x]).length) O (alj _) (fun z e=>?_) (by
  rw[I];refine⟨fun k d p D M=>?_,Z⟩;have:=db eV d;rw[f k O,f _ O];exact F k d O) Z).mono ?_
 ·grind
 rintro _ G ⟨rfl,l',at',q,g,u,W,hq0⟩;have Q:=g.len;rw[<-Q,alx]at u;refine vs ?_;refine⟨rfl,t,l',at',q,g.jf,g.ok,u,fun z=>?_,O,by rw[g.HG,alb],fun z e d p=>?_,W,O,(P.mono Z).lE g.ext (fun z hzl e=>?_),o⟩
 ·rw[g.mem z,alu,alv];exact Or.comm
 ·rw[g.off z e (fun h=>by rcases alu.1 h with h|h;exact p h;exact d (alv.1 h)),alh O]
 ·rcases e with e|e|e
  ·exact .inl e
  ·rcases o with h| ⟨y,h,E⟩
   ·exact .inr (.inl (h▸e))
   ·rw[h]at e;injection e with e;omega
  ·exact .inr (.inr (.inl e))
theorem Fq(m:gK H n c C rv r fp fa st w l at_)(B:je l at_){i:Nat}(hi:i<l.length)(g:∀z∈l,cu w.cs z)(N:dS (aU w) 2 l i):
  aD 492 [pv r,i64 i] H fun v J=>ak (v= .tuple [].toArray/\∃ (l' at':List Int) (q:Nat),lW n c C rv r fp fa st w l at_ l.length H J l' at' q/\ej (aU w) 2 l'/\q<=2*ix 2 ((l.length:Int) - 1)):=by
 have Q:=m.ll;have I:l.take l.length=l:=alx;refine aL sf ?_;refine vs ?_;refine fL.mono (K:=fun v J=>v=i64 l.length/\H=J) ⟨_,_,495,ptr r,rfl,aZ Y,gL m⟩ ?_;rintro _ _ ⟨rfl,rfl⟩;refine vs ?_;refine(sG m B hi (alj _) g Z).mono ?_;rintro _ H1 ⟨b,l1,Fo,y,rfl,a,U,u,f⟩;have P:=a.len;cases b with
 |true=>
  have h:=u rfl;rw[<-P,alx]at h;refine vs ?_;exact⟨rfl,l1,Fo,y,a,h,O⟩
 |false=>
  obtain⟨d,p,o⟩:=f rfl;subst d p;refine vs ?_;have hm:=O;refine(pJ a.jf a.ok (j:=i) (mm:=l1.length) hi (alj _) g Z o).mono ?_;rintro _ F ⟨rfl,l2,t,A,x,e,W,_⟩;have L:=x.len;rw[<-L,alx]at e;refine vs ?_;refine⟨rfl,l2,t,y+A,⟨?_,x.ok,x.mem,x.len,x.drop,x.HG,x.off,a.ext.trans x.ext⟩,e,O⟩;cases x;grind
end
theorem ej.zW{lt lt':Int->Int->Bool}{l:List Int}(h:ej lt 2 l)(m:∀z∈l,∀y∈l,lt z y=lt' z y):ej lt' 2 l:=by
 intro j x a;have v:=db eV x;have e:∀k,k<l.length->l.getD k 0∈l:=Z;rw[<-m _ (e j a) _ Z];exact h j x a
theorem HH{l at_:List Int}(h:je l at_){x:Int}(v:l[l.length - 1]? =some x)(z:Int):z∈l.dropLast↔z∈l/\z≠x:=by
 have g:=(ak8.1 v).1;rw[amc];constructor
 ·intro a;obtain⟨k,m⟩:=als a;grind [je.zL]
 ·rintro⟨a,y⟩;obtain⟨k,m⟩:=als a;have e:=(ak8.1 m).1;have:k≠l.length - 1:=Z;exact ali (i:=k) Z
theorem je.dropLast{l at_:List Int}(h:je l at_):je l.dropLast at_:=fun i x z=>by
 rw[amc,amb]at z;split at z
 ·exact h i x z
 grind
section
variable {H : Hp} {n c : Nat} {C : Nat → Prop} {rv : Value} {r : Nat} {fp fa : Option Nat} {st : Int} {w : Nw} {l at_ : List Int}
structure Out(n c:Nat)(C:Nat->Prop)(rv:Value)(r:Nat)(fp fa:Option Nat)(st:Int)(w:Nw)(l at_:List Int)(x:Int)(H J:Hp)(l' at':List Int)(q:Nat):Prop where
 jf:gK J n c C rv r fp fa (min (st+q) 4611686018427387904) w l' at'
 ok:je l' at'
 heap:ej (aU w) 2 l'
 mem:∀z,z∈l'↔z∈l/\z≠x
 len:l'.length+1=l.length
 HG:at'.length=at_.length
 off:∀z:Int,0<=z->z∉l->at'[z.toNat]? =at_[z.toNat]?
 ext:aj (fun z=>C z\/fp=some z\/fa=some z\/z=r) H J
theorem Mr{H1:Hp}{l1 Fo:List Int}{mm q:Nat}{x:Int}(h:lW n c C rv r fp fa st w l at_ mm H H1 l1 Fo q)(d:0<l.length)(y:l1[l1.length - 1]? =some x)(e:ej (aU w) 2 (l1.take (l.length - 1))):
  fL Tryz.prog (pv r) "Pop" [] H1 fun v J=>∃l' at',Out n c C rv r fp fa st w l at_ x H J l' at' q:=by
 have g:=h.len;refine⟨_,_,504,ptr r,rfl,aZ Y,(Fp h.jf O).mono ?_⟩;rintro v j ⟨_,t,m⟩;refine⟨l1.dropLast,Fo,t,h.ok.dropLast,?_,fun z=>by rw[HH h.ok y z,h.mem z],by rw[alV];omega,h.HG,h.off,(h.ext.mono fun z _ a=>?_).trans (m.mono fun z _ a=>.inr (.inr (.inr a)))⟩
 ·rw[amc,g];exact e
 ·rcases a with a|a|a
  ·exact .inl a
  ·exact .inr (.inl a)
  ·exact .inr (.inr (.inl a))
theorem zY(m:gK H n c C rv r fp fa st w l at_)(hat:je l at_){i:Nat}(hi:i<l.length)(mj:∀z∈l,cu w.cs z)(I:ej (aU w) 2 l):
  aD 493 [pv r,i64 i] H fun v J=>ak (∃ (l' at':List Int) (q:Nat),Out n c C rv r fp fa st w l at_ (l.getD i 0) H J l' at' q/\q<=2*ix 2 ((l.length:Int) - 1)):=by
 have wT:=m.ll;refine aL nT ?_;refine vs ?_;refine fL.mono (K:=fun v J=>v=i64 l.length/\H=J) ⟨_,_,495,ptr r,rfl,aZ Y,gL m⟩ ?_;rintro _ _ ⟨rfl,rfl⟩;refine vs ?_;rw[show IntKind.i64.wrap ((l.length:Int) - 1)=((l.length - 1:Nat):Int) by rw[wrap64 O O];omega];have N:=lW.refl m hat l.length;have W:l[i]? =some (l.getD i 0):=by rw[alf,ak9 hi];rfl
 refine ai.dec (fun he=>?_) (fun he=>?_)
 ·refine vs ?_;have Nd:i=l.length - 1:=O;refine fL.mono (Mr N O (x:=l.getD i 0) (by rw[<-Nd];exact W) (fun j h a=>by
   rw[alC]at a;have:=db eV h;rw[getD_take O,getD_take O];exact I j h O)) ?_
  rintro v y ⟨l',at',o⟩;refine vs ?_;exact⟨l',at',0,o,O⟩
 ·refine vs ?_;have G:i<l.length - 1:=O;refine fL.mono (N.swap (alj _) (i:=i) (j:=l.length - 1) hi O O) ?_;rintro _ H1 ⟨rfl,h⟩;refine vs ?_;have B:=DA (l:=l) (i:=i) (j:=l.length - 1) hi O;have D:=h.len;have Q:dS (aU w) 2 ((swp l i (l.length - 1)).take (l.length - 1)) i:=by
   have U:=I.but (ar w) eV i;refine⟨fun j a L u t=>?_,fun j a L u t=>?_⟩
   ·rw[alC]at L;have:=db eV a;rw[getD_take O,getD_take O,B,B,if_neg O,if_neg u,if_neg O,if_neg t];exact U.1 j a O u t
   ·rw[alC]at L;have:=db eV a;have:=db eV t;rw[getD_take O,getD_take O,B,B,if_neg O,if_neg O,if_neg O,if_neg O];exact U.2 j a O u t
  have V:∀z∈swp l i (l.length - 1),cu w.cs z:=fun z M=>mj z ((h.mem z).1 M);have ED:(swp l i (l.length - 1))[l.length - 1]? =some (l.getD i 0):=by rw[pH hi O,if_pos rfl];exact W
  have fin:∀ {y:Hp} {l2 p:List Int} {q:Nat},lW n c C rv r fp fa (min (st+((0:Nat):Int)) 4611686018427387904) w (swp l i (l.length - 1)) (yd l at_ i (l.length - 1)) (l.length - 1) H1 y l2 p q->ej (aU w) 2 (l2.take (l.length - 1))->
    fL Tryz.prog (pv r) "Pop" [] y fun v J=>∃l' at',Out n c C rv r fp fa st w l at_ (l.getD i 0) H J l' at' q:=by
   intro y l2 p q g A;have ST:=m.cells.st;have g':lW n c C rv r fp fa st w l at_ l.length H y l2 p q:=by
    refine⟨?_,g.ok,fun z=>by rw[g.mem z,h.mem z],g.len.trans D,?_,g.HG.trans h.HG,fun z M hm=>?_,h.ext.trans g.ext⟩
    ·cases g;grind
    ·cases g;grind
    ·cases h;cases g;grind
   refine Mr g' O ?_ A;have hd:=g.drop;have a:(l2.drop (l.length - 1))[0]? =((swp l i (l.length - 1)).drop (l.length - 1))[0]? :=by rw[hd]
   rw[alU,alU,Nat.add_zero,ED]at a;rw[g.len,D];exact a
  have SP:=jV eV ((l.length:Int) - 1).toNat (((l.length - 1:Nat):Int) - 1) ((l.length:Int) - 1) (alj _) O;refine(sG h.jf h.ok (i0:=i) (mm:=l.length - 1) G O V Q).mono ?_;rintro _ y ⟨b,l2,p,d,rfl,f,hq1,hT,hF⟩;cases b with
  |true=>
   refine vs ?_;refine fL.mono (fin f (hT rfl)) ?_;rintro v F ⟨l',at',o⟩;refine vs ?_;exact⟨l',at',d,o,O⟩
  |false=>
   obtain⟨X,e2,hB⟩:=hF rfl;subst X e2;have hmi:=O;refine vs ?_;refine(pJ f.jf f.ok (j:=i) (mm:=l.length - 1) G O V Q hB).mono ?_;rintro _ F ⟨rfl,l3,E,P,e,A,hq2,_⟩;refine vs ?_;have g23:lW n c C rv r fp fa (min (st+((0:Nat):Int)) 4611686018427387904) w (swp l i (l.length - 1)) (yd l at_ i (l.length - 1)) (l.length - 1) H1 F l3 E (d+P):=by
    refine⟨?_,e.ok,e.mem,e.len,e.drop,e.HG,e.off,f.ext.trans e.ext⟩;have:=e.jf;rw[show min (min (min (st+((0:Nat):Int)) 4611686018427387904+(d:Int)) 4611686018427387904+(P:Int)) 4611686018427387904=min (min (st+((0:Nat):Int)) 4611686018427387904+((d+P:Nat):Int)) 4611686018427387904 by omega]at this;exact this
   refine fL.mono (fin g23 A) ?_;rintro v H4 ⟨l',at',o⟩;refine vs ?_;exact⟨l',at',d+P,o,O⟩
end
structure Pl where
 r:Nat
 fp:Option Nat
 l:List Int
def Pl.S(P:Pl)(x:Nat):Prop:=x=P.r\/P.fp=some x
def Oj:Option Pl->Value
 |none=>.pointer none
 |some P=>ptr P.r
structure im(H:Hp)(n c:Nat)(C:Nat->Prop)(rv:Value)(fr fa:Option Nat)(st:Int)(w:Nw)(ps:List (Option Pl))(at_:List Int):Prop where
 own:∃av,H.own n=some [ptr c,rv,av]/\Sl H 1 av at_.length (at_.map i64) fa
 cells:bj H c C st w
 sl:Sl H 1 rv ps.length (ps.map Oj) fr
 jf:∀ (h:Nat) P,ps[h]? =some (some P)->∃sv,H.own P.r=some [ptr n,sv]/\Sl H 1 sv P.l.length (P.l.map i64) P.fp
 nC:¬C n
 Po:∀b,fr=some b->¬C b/\b≠n/\fa≠some b
 HF:∀b,fa=some b->¬C b/\b≠n
 pd:∀ (h:Nat) P,ps[h]? =some (some P)->∀x,P.S x->¬C x/\x≠n/\fr≠some x/\fa≠some x
 pr:∀ (h:Nat) P,ps[h]? =some (some P)->P.fp≠some P.r/\P.l.length<=65536
 pp:∀ (h h':Nat) P P',ps[h]? =some (some P)->ps[h']? =some (some P')->h≠h'->∀x,P.S x->¬P'.S x
def ye(n:Nat)(C:Nat->Prop)(fr fa:Option Nat)(ps:List (Option Pl))(z:Nat):Prop:=C z\/z=n\/fr=some z\/fa=some z\/∃ (h:Nat) (P:Pl),ps[h]? =some (some P)/\P.S z
structure uU(w:Nw)(ps:List (Option Pl))(at_:List Int):Prop where
 hl:ps.length=w.hs.length
 hs:∀h:Nat,w.hs[h]? =some true↔∃P,ps[h]? =some (some P)
 h0:ps[0]? =some none
 ok:∀ (h:Nat) P,ps[h]? =some (some P)->ej (aU w) 2 P.l
 Ok:∀ (h:Nat) P,ps[h]? =some (some P)->je P.l at_
 mem:∀ (h:Nat) P,ps[h]? =some (some P)->∀x:Int,x∈P.l↔0<=x/\∃e,w.cs[x.toNat]? =some (((h:Nat):Int),e)
 len:∀ (h:Nat) P,ps[h]? =some (some P)->(P.l.length:Int)=w.len h
 HG:at_.length=w.cs.length
def dF(H:Hp)(n:Nat)(S:Nat->Prop)(st:Int)(w:Nw):Prop:=∃c C rv fr fa ps at_,im H n c C rv fr fa st w ps at_/\uU w ps at_/\(∀z,ye n C fr fa ps z↔S z)
section
variable {H J : Hp} {n c : Nat} {C T : Nat → Prop} {rv : Value} {fr fa : Option Nat} {st st' : Int} {w w' : Nw} {ps : List (Option Pl)} {at_ at' : List Int} {S : Nat → Prop}
theorem im.slt(h:im H n c C rv fr fa st w ps at_):∀z,ye n C fr fa ps z->z<H.size:=by
 obtain⟨y,g,e⟩:=h.own;rintro z (x|rfl|x|x| ⟨i,P,v,x⟩)
 ·exact h.cells.slt z x
 ·exact aB g
 ·exact Sl.lt (x▸h.sl)
 ·exact Sl.lt (x▸e)
 ·obtain⟨t,a,m⟩:=h.jf i P v;rcases x with rfl|x
  ·exact aB a
  ·exact Sl.lt (x▸m)
theorem im.ext(h:im H n c C rv fr fa st w ps at_)(e:aj T H J)(a:∀z,ye n C fr fa ps z->¬T z):im J n c C rv fr fa st w ps at_:=by
 obtain⟨g,d,j⟩:=h.own;refine⟨⟨g,e.own d (a n (.inr (.inl rfl))),j.ext e (fun b m=>a b (.inr Z))⟩,h.cells.ext e (fun x p=>a x (.inl p)),h.sl.ext e (fun b m=>a b (.inr (.inr (.inl m)))),fun i P v=>?_,h.nC,h.Po,h.HF,h.pd,h.pr,h.pp⟩;obtain⟨o,y,t⟩:=h.jf i P v;exact⟨o,e.own y (a _ (.inr (.inr (.inr (.inr ⟨i,P,v,.inl rfl⟩))))),t.ext e (fun b m=>a b (.inr (.inr (.inr (.inr ⟨i,P,v,.inr m⟩)))))⟩
theorem im.aE(h:im H n c C rv fr fa st w ps at_)(m:bj J c C st' w')(e:aj C H J):im J n c C rv fr fa st' w' ps at_:=by
 obtain⟨a,t,y⟩:=h.own;refine⟨⟨a,e.own t h.nC,y.ext e (fun b x=>(h.HF b x).1)⟩,m,h.sl.ext e (fun b x=>(h.Po b x).1),fun i P z=>?_,h.nC,h.Po,h.HF,h.pd,h.pr,h.pp⟩;obtain⟨j,v,g⟩:=h.jf i P z;exact⟨j,e.own v (h.pd i P z _ (.inl rfl)).1,g.ext e (fun b x=>(h.pd i P z b (.inr x)).1)⟩
theorem dF.slt(h:dF H n S st w):∀z,S z->z<H.size:=by
 obtain⟨c,C,rv,fr,fa,ps,at_,m,l,x⟩:=h;exact fun z a=>m.slt z ((x z).2 a)
theorem dF.ext(h:dF H n S st w)(e:aj T H J)(a:∀z,S z->¬T z):dF J n S st w:=by
 obtain⟨c,C,rv,fr,fa,ps,at_,m,l,x⟩:=h;exact⟨c,C,rv,fr,fa,ps,at_,m.ext e Z,l,x⟩
theorem dF.fresh(h:dF H n S st w)(e:af H J):dF J n S st w:=h.ext e fun _ _ h=>h
theorem im.zZ(m:im H n c C rv fr fa st w ps at_){g:Nat}{P:Pl}(a:ps[g]? =some (some P)):gK H n c C rv P.r P.fp fa st w P.l at_:=by
 have z:=m.pd g P a;refine⟨m.own,m.cells,m.jf g P a,m.nC,(z P.r (.inl rfl)).1,(z P.r (.inl rfl)).2.1,fun b x=>⟨(z b (.inr x)).1,(z b (.inr x)).2.1,fun h=>(m.pr g P a).1 Z,(z b (.inr x)).2.2.2⟩,fun b x=>⟨(m.HF b x).1,(m.HF b x).2,fun h=>(z P.r (.inl rfl)).2.2.2 Z⟩,(m.pr g P a).2⟩
theorem im.Cj(m:im H n c C rv fr fa st w ps at_){g:Nat}{P P':Pl}(f:ps[g]? =some (some P))(V:P'.r=P.r)(pm:gK J n c C rv P'.r P'.fp fa st' w' P'.l at')(M:P'.fp=P.fp\/∃z,P'.fp=some z/\H.size<=z)
  (e:aj T H J)(D:∀z,T z->C z\/P.S z\/fa=some z):im J n c C rv fr fa st' w' (ps.set g (some P')) at':=by
 have p:=m.slt;have hg:=(ak8.1 f).1;have F:∀x,P'.S x->P.S x\/H.size<=x:=fun x a=>by
  rcases a with rfl|a
  ·exact .inl (.inl V)
  ·rcases M with h| ⟨z,h,j⟩
   ·exact .inl (.inr (h▸a))
   grind
 have d:∀ (h:Nat) Q,(ps.set g (some P'))[h]? =some (some Q)->(h=g/\Q=P')\/(h≠g/\ps[h]? =some (some Q)):=Z;have hd:=m.pd g P f;refine⟨pm.own,pm.cells,?_,fun h Q y=>?_,m.nC,m.Po,m.HF,fun h Q y x a=>?_,fun h Q y=>?_,fun h B Q u y W N x a U=>?_⟩
 ·have o:(ps.set g (some P')).map Oj=ps.map Oj:=by
   rw[alD];refine alB fun i=>?_;by_cases hi:i=g
   ·subst hi;rw[aln Z,alz,f];simp[Oj,V]
   ·grind
  rw[o,alb];exact m.sl.ext e (fun b L G=>by
   rcases D b G with h|h|h
   ·exact(m.Po b L).1 h
   ·grind
   ·exact(m.Po b L).2.2 h)
 ·rcases d h Q y with ⟨rfl,rfl⟩| ⟨o,v⟩
  ·exact pm.jf
  ·obtain⟨sv,E,X⟩:=m.jf h Q v;have I:∀x,Q.S x->¬T x:=fun x a G=>by
    cases m;grind
   exact⟨sv,e.own E (I _ (.inl rfl)),X.ext e (fun b L=>I b (.inr L))⟩
 ·rcases d h Q y with ⟨rfl,rfl⟩| ⟨o,v⟩
  ·rcases F x a with A|A
   ·grind
   ·refine⟨fun t=>?_,fun t=>?_,fun t=>?_,fun t=>?_⟩
    ·have:=p x (.inl t);omega
    ·have:=p n (.inr (.inl rfl));omega
    ·have:=p x (.inr (.inr (.inl t)));omega
    ·have:=p x (.inr Z);omega
  ·exact m.pd h Q v x a
 ·rcases d h Q y with ⟨rfl,rfl⟩| ⟨o,v⟩
  ·refine⟨fun t=>?_,pm.ll⟩;exact(pm.uA _ t).2.2.1 rfl
  ·exact m.pr h Q v
 ·rcases d h Q y with ⟨rfl,rfl⟩| ⟨o,v⟩
  ·rcases d B u W with ⟨rfl,rfl⟩| ⟨A,K⟩
   ·omega
   ·rcases F x a with j|j
    ·exact m.pp _ B P u f K N x j U
    ·have:=p x (.inr Z);omega
  ·rcases d B u W with ⟨rfl,rfl⟩| ⟨A,K⟩
   ·rcases F x U with j|j
    ·exact m.pp h _ Q P v f N x a j
    ·have:=p x (.inr Z);omega
   ·exact m.pp h B Q u v K N x a U
theorem im.Wj(m:im H n c C rv fr fa st w ps at_){i:Nat}{o:Option Pl}(h:ps[i]? =some o):∃f z lb,rv= .slice (some ⟨f,0,none⟩) ps.length z/\fr=some f/\H.own f=some lb/\lb[i]? =some (Oj o)/\i<ps.length:=by
 obtain⟨b,z,lb,a,v,e,g,y,_⟩:=Sl.at_ m.sl (i:=i) (x:=Oj o) (by simp[h]);grind
theorem uU.ee(l:uU w ps at_){g:Int}(h:w.has g):∃P,ps[g.toNat]? =some (some P):=(l.hs g.toNat).1 h.2
end
theorem Fs(cap:Int)(H:Hp):aD 100 [i64 cap] H fun v J=>ak (
  af H J/\((¬ (0<=cap/\cap<=65536)/\v= .tuple [.pointer none,i64 31].toArray)\/
   ((0<=cap/\cap<=65536)/\∃n S,v= .tuple [ptr n,i64 0].toArray/\dF J n S 0 ⟨[false],List.replicate cap.toNat (0,0,0)⟩/\∀x,S x->H.size<=x))):=by
 refine aL KV ?_;refine vs ?_;refine(km cap H).mono ?_;rintro _ H1 ⟨e,⟨a,rfl⟩| ⟨a,c,C,rfl,g,p⟩⟩
 ·refine vs ?_;exact⟨e,.inl ⟨a,rfl⟩⟩
 refine v1 alr ?_;refine⟨O,?_⟩;refine vs ?_;have d:∀k:Nat,dm [Value.int .i64 0] k=(List.replicate k (0:Int)).map i64:=fun k=>by
  induction k with
  |zero=>rfl
  |succ k B=>simp only[dm,alZ,amw,alM]at*;grind
 rw[d];have f:=g.slt;have L:=e.size;have t:af H1 (((H1.new 530 [.pointer none]).new 3 ((List.replicate cap.toNat (0:Int)).map i64)).new 252 [ptr c,.slice (some ⟨H1.size,0,none⟩) 1 1,.slice (some ⟨H1.size+1,0,none⟩) cap.toNat cap.toNat]):=(bm.new _ _).new _ _;have y:aj (fun _=>False) ((H1.new 530 [.pointer none]).new 3 ((List.replicate cap.toNat (0:Int)).map i64)) (((H1.new 530 [.pointer none]).new 3 ((List.replicate cap.toNat (0:Int)).map i64)).new 252 [ptr c,.slice (some ⟨H1.size,0,none⟩) 1 1,.slice (some ⟨H1.size+1,0,none⟩) cap.toNat cap.toNat]):=bm;have j:aj (fun _=>False) (H1.new 530 [.pointer none]) ((H1.new 530 [.pointer none]).new 3 ((List.replicate cap.toNat (0:Int)).map i64)):=bm;have u:∀ (h:Nat) (P:Pl),([none]:List (Option Pl))[h]? ≠some (some P):=Z;refine⟨e.trans t,.inr ⟨a,H1.size+1+1,ye (H1.size+1+1) C (some H1.size) (some (H1.size+1)) [none],rfl,⟨c,C,_,some H1.size,some (H1.size+1),[none],List.replicate cap.toNat 0,
  ⟨⟨_,az (by simp only[ag]),?_⟩,g.fresh t,?_,Z,Z,fun b a=>?_,fun b a=>?_,Z,Z,Z⟩,
  ⟨rfl,fun h=>?_,rfl,Z,Z,Z,Z,by simp⟩,fun z=>Iff.rfl⟩,fun x m=>?_⟩⟩
 ·rw[alL];exact(Sl.bs (size:=1) (n:=cap.toNat) (xs:=(List.replicate cap.toNat (0:Int)).map i64) (by simp) (by simp only[ag])).ext y (fun _ _ h=>h)
 ·exact((Sl.bs (size:=1) (n:=1) (xs:=[.pointer none]) rfl rfl).ext j (fun _ _ h=>h)).ext y (fun _ _ h=>h)
 ·grind
 ·grind
 ·grind
 ·rcases m with m|rfl|m|m| ⟨i,P,o,m⟩
  ·grind
  ·omega
  ·grind
  ·grind
  grind
theorem DE{H:Hp}{n:Nat}{S:Nat->Prop}{st:Int}{w:Nw}(h:dF H n S st w):aD 489 [ptr n] H fun v J=>ak (
  (w.hs.length=65537/\v=i64 0/\H=J)\/
  (w.hs.length≠65537/\v=i64 w.hs.length/\∃V,dF J n V st w.make/\aj S H J/\∀x,V x->S x\/H.size<=x)):=by
 obtain⟨c,C,rv,fr,fa,ps,at_,m,l,d⟩:=h;obtain⟨G,Q,ha⟩:=m.own;refine aL zw ?_;refine v1 (ae Q) ?_;refine(ju m.cells).mono ?_;rintro _ H1 (⟨N,rfl,rfl⟩| ⟨N,rfl,I,D,o,hC'⟩)
 ·refine vs ?_;exact .inl ⟨N,rfl,rfl⟩
 have pG:0<ps.length:=(ak8.1 l.h0).1;have wT:=l.hl;have o1:=o.own Q m.nC;refine vs ?_;refine ai.bK Z ?_;refine v1 (ae o1) ?_;have Hv:=m.cells.Hv;have U:=m.slt;have abZ:=D.slt;have z1:=o.size;have f:aj (fun _=>False) H1 (H1.new 534 [ptr n,.slice none 0 0]):=bm;have hq2:(H1.new 534 [ptr n,.slice none 0 0]).own H1.size=some [ptr n,.slice none 0 0]:=am _ _ _;have z2:(H1.new 534 [ptr n,.slice none 0 0]).size=H1.size+1:=by simp only[ag]
 generalize (H1.new 534 [ptr n,.slice none 0 0])=K at*;have M:aj (fun _=>False) K (K.new 530 [ptr H1.size]):=bm;have sl2:=(m.sl.ext o (fun b a h=>(m.Po b a).1 h)).ext f (fun _ _ h=>h);have o2:=f.own o1 (fun h=>h);refine Sl.append (sl2.ext M (fun _ _ h=>h)) (Sl.bs (size:=1) (n:=1) (xs:=[ptr H1.size]) rfl z2.symm).rd rfl (by intro v E;simp only[alv]at E;subst E;rfl) O ?_;intro W H3 F s3 e3 hfr;have p:aj (fun z=>fr=some z) K H3:=(M.mono fun _ _ h=>h.elim).lE e3 (fun z _ h=>h);have o3:=p.own o2 (fun h=>(m.Po n h).2.1 rfl);obtain⟨a',Km,X⟩:=bD.Dj s3.rd;subst X;refine v1 o3 ?_;generalize X:Value.slice a' (ps.length+1) Km=W at*;have u:aj (fun z=>z=n) H3 (H3.wr n [ptr c,W,G]):=(aj.refl (fun z=>z=n) _).wr (fun _=>rfl) _;have hn:=aB Q;have agq:∀b,fr=some b->b<H.size:=fun b a=>U b (.inr (.inr (.inl a)));have agr:∀b,fa=some b->b<H.size:=fun b a=>U b (.inr Z);have ab0:∀b,F=some b->fr=some b\/K.size<=b:=fun b a=>by
  grind [ag]
 have B:∀ (h:Nat) P,(ps++[some (⟨H1.size,none,[]⟩:Pl)])[h]? =some (some P)->ps[h]? =some (some P)\/(h=ps.length/\P=⟨H1.size,none,[]⟩):=Z;have hold:∀ (h:Nat) P,ps[h]? =some (some P)->∀x,P.S x->x<H.size:=fun h P y x g=>U x (.inr Z);have ags:∀x,(⟨H1.size,none,[]⟩:Pl).S x->x=H1.size:=fun x g=>by rcases g with h|h;exact h;cases h
 have XR:∀ (x:Nat) (e:Int×Int),w.cs[x]? ≠some (((ps.length:Nat):Int),e):=fun x e g=>by
  have:=(m.cells.home _ (ali g)).2;omega
 refine .inr ⟨N,rfl,ye n I F fa (ps++[some ⟨H1.size,none,[]⟩]),⟨c,I,W,F,fa,ps++[some ⟨H1.size,none,[]⟩],at_,
  ⟨⟨G,ah o3,?_⟩,?_,?_,fun h P y=>?_,fun h=>?_,fun b a=>⟨fun h=>?_,?_,fun h=>?_⟩,fun b a=>⟨fun h=>?_,(m.HF b a).2⟩,fun h P y x g=>⟨fun h=>?_,?_,fun h=>?_,fun h=>?_⟩,fun h P y=>?_,fun h h' P P' y hP' ny x g T4=>?_⟩,
  ⟨?_,fun h=>?_,?_,fun h P y=>?_,fun h P y=>?_,fun h P y x=>?_,fun h P y=>?_,l.HG⟩,fun z=>Iff.rfl⟩,?_,fun x g=>?_⟩
 ·exact(((ha.ext o (fun b a h=>(m.HF b a).1 h)).ext f (fun _ _ h=>h)).ext p (fun b a h=>(m.Po b h).2.2 a)).ext u (fun b a h=>(m.HF b a).2 h)
 ·exact((D.ext f (fun _ _ h=>h)).ext p (fun x g e=>by
   cases m;grind)).ext u (fun x g e=>by
   cases m;grind)
 ·have:=s3.ext u (fun b a e=>by
   cases m;grind)
  rw[alm,alG];exact this
 ·rcases B h P y with t| ⟨rfl,rfl⟩
  ·obtain⟨sv,q1,q2⟩:=m.jf h P t;have L:=m.pd h P t;exact⟨sv,u.own (p.own (f.own (o.own q1 (L _ (.inl rfl)).1) (fun h=>h)) (L _ (.inl rfl)).2.2.1) Z,
    (((q2.ext o (fun b a=>(L b (.inr a)).1)).ext f (fun _ _ h=>h)).ext p (fun b a=>(L b (.inr a)).2.2.1)).ext u (fun b a=>(L b (.inr a)).2.1)⟩
  ·exact⟨_,u.own (p.own hq2 Z) Z,Sl.nil _ _⟩
 ·cases m;grind
 ·cases m;grind
 ·cases m;grind
 ·cases m;grind
 ·cases m;grind
 ·cases m;grind
 ·cases m;grind
 ·cases m;grind
 ·cases m;grind
 ·cases m;grind
 ·cases m;grind
 ·simp[Nw.make,wT]
 ·show(w.hs++[true])[h]? =some true↔_;cases l;grind
 ·cases l;grind
 ·rcases B h P y with t| ⟨rfl,rfl⟩
  ·exact l.ok h P t
  ·exact fun j _ hj=>Z
 ·rcases B h P y with t| ⟨rfl,rfl⟩
  ·exact l.Ok h P t
  ·exact fun i x g=>Z
 ·rcases B h P y with t| ⟨rfl,rfl⟩
  ·exact l.mem h P t x
  ·simp only[List.not_mem_nil,false_iff];rintro⟨_,e,he⟩;exact XR _ _ he
 ·rcases B h P y with t| ⟨rfl,rfl⟩
  ·exact l.len h P t
  ·show((0:Nat):Int)=w.len _;unfold Nw.len;rw[if_pos O,amI.2 (fun x g=>by
    have:=(m.cells.home x g).2;grind)]
 ·exact((o.mono fun z _ A=>(d z).1 (.inl A)).trans ((f.mono fun _ _ h=>h.elim).trans (p.mono fun z _ A=>(d z).1 (.inr (.inr (.inl A)))))).trans (u.mono fun z _ A=>(d z).1 (.inr (.inl A)))
 ·rcases g with g|rfl|g|g| ⟨i,P,y,g⟩
  ·rcases hC' x g with h|h
   ·exact .inl ((d x).1 (.inl h))
   omega
  ·exact .inl ((d x).1 (.inr (.inl rfl)))
  ·rcases ab0 x g with h|h
   ·exact .inl ((d x).1 (.inr (.inr (.inl h))))
   omega
  ·exact .inl ((d x).1 (.inr Z))
  ·rcases B i P y with t| ⟨_,rfl⟩
   ·exact .inl ((d x).1 (.inr Z))
   grind
section
variable{H:Hp}{n h:Nat}{st:Int}
theorem je.Rv{l at_ at':List Int}(h:je l at_)(v:∀z∈l,0<=z->at'[z.toNat]? =at_[z.toNat]?):je l at':=fun i x m=>by
 obtain⟨a,b⟩:=h i x m;grind
theorem hG{ps:List (Option Pl)}{g:Nat}{P':Pl}(z:g<ps.length){Q:Pl}(x:(ps.set g (some P'))[h]? =some (some Q)):(h=g/\Q=P')\/(h≠g/\ps[h]? =some (some Q)):=by
 grind
theorem uU.apart{w:Nw}{ps:List (Option Pl)}{at_:List Int}(l:uU w ps at_){x:Nat}{P Q:Pl}(a:ps[h]? =some (some P))(m:ps[x]? =some (some Q))(d:h≠x){z:Int}(v:z∈P.l):z∉Q.l:=fun e=>by
 obtain⟨_,g,t⟩:=(l.mem h P a z).1 v;obtain⟨_,y,j⟩:=(l.mem x Q m z).1 e;grind
theorem uU.pos{w:Nw}{ps:List (Option Pl)}{at_:List Int}(l:uU w ps at_){P:Pl}(x:ps[h]? =some (some P)):0<h:=by
 cases l;grind
theorem Aa{S:Nat->Prop}{w:Nw}(h:dF H n S st w)(g x k s:Int):aD 488 [ptr n,i64 g,i64 x,ms k s] H fun v J=>ak (
  (¬ (w.has g/\(0<=x/\x<w.cs.length)/\¬cu w.cs x)/\v= .bool false/\dF J n S st w/\aj S H J)\/
  ((w.has g/\(0<=x/\x<w.cs.length)/\¬cu w.cs x)/\v= .bool true/\∃ (V:Nat->Prop) (q:Nat),(q:Int)<=ix 2 (w.len g)/\(0<w.len g->0<q)/\dF J n V (min (st+q) 4611686018427387904) (w.put x (g,k,s))/\aj S H J/\∀z,V z->S z\/H.size<=z)):=by
 obtain⟨c,C,rv,fr,fa,ps,at_,m,l,p⟩:=h;refine aL wq ?_;refine vs ?_;have B:af H (H.new 148 [i64 k,u64 s]):=bm;have b0:(H.new 148 [i64 k,u64 s]).own H.size=some [i64 k,u64 s]:=am _ _ _;have K:=m.ext B (fun _ _ h=>h);generalize H.new 148 [i64 k,u64 s]=H0 at*;obtain⟨av,HB,SM⟩:=K.own;refine v2 (ae HB) (ae b0) ?_;refine(kq K.cells g x k s).mono ?_;rintro _ H1 (⟨kV,rfl,U,d⟩| ⟨HI,rfl,U,d⟩)
 ·refine vs ?_;exact .inl ⟨kV,rfl,⟨c,C,rv,fr,fa,ps,at_,K.aE U d,l,p⟩,(B.mono fun _ _ h=>h.elim).trans (d.mono fun z _ a=>(p z).1 (.inl a))⟩
 obtain⟨X,⟨I,ED⟩,mj⟩:=id HI;obtain⟨P,j⟩:=l.ee X;have h1:=X.1;have Pp:((g.toNat:Nat):Int)=g:=O;have pC:=l.mem _ P j;have ec:=l.len _ P j;rw[Pp]at pC ec;obtain⟨c0,E⟩:∃c0,w.cs[x.toNat]? =some c0:=Z;have Dx:¬0<c0.1:=fun h=>mj ⟨I,c0,E,h⟩;have j1:(w.put x (g,k,s)).cs[x.toNat]? =some (g,k,s):=aln O;have yf:∀y:Nat,y≠x.toNat->(w.put x (g,k,s)).cs[y]? =w.cs[y]? :=fun y A=>alh (Ne.symm A);have Uc:∀ (i:Nat) Q,ps[i]? =some (some Q)->x∉Q.l:=fun i Q t hm=>by
  cases l;grind
 have W:∀ (i:Nat) Q,ps[i]? =some (some Q)->∀y∈Q.l,0<=y/\y.toNat≠x.toNat:=fun i Q t y A=>by
  cases l;grind
 have XS:∀ (i:Nat) Q,ps[i]? =some (some Q)->ej (aU (w.put x (g,k,s))) 2 Q.l:=fun i Q t=>
  (l.ok i Q t).zW fun z a y A=>(gS w x _ (W i Q t z a).2 (W i Q t y A).2).symm
 have DF:∀z∈P.l,cu (w.put x (g,k,s)).cs z:=fun z a=>by
  obtain⟨N,e,he⟩:=(pC z).1 a;exact⟨N,_,by rw[yf _ (W _ P j z a).2];exact he,O⟩
 have Ud:cu (w.put x (g,k,s)).cs x:=⟨I,_,j1,O⟩;have hlp:(w.put x (g,k,s)).len g=w.len g+1:=by rw[Nw.gm E g,if_neg O,if_pos ⟨O,rfl⟩];omega
 have No:=m.cells.yY;have wT:P.l.length<65536:=by
  have:=((w.put x (g,k,s)).kl g).2;have o:(w.put x (g,k,s)).cs.length=w.cs.length:=alb ..
  omega
 have F:=K.aE U d;obtain⟨av1,ho1,_⟩:=F.own;obtain⟨f,cc,lb,rfl,rfl,hf,T8,L⟩:=F.Wj j;refine v1 (ae ho1) ?_;refine⟨O,?_⟩;simp(disch:=(first|exact aV|fail)) only[go_sem, ↓reduceIte,Zv,ae hf,ala,T8,Oj];refine(sH (F.zZ j) (l.Ok _ P j) wT ⟨I,by rw[l.HG];omega⟩ (Uc _ P j) Ud DF (XS _ P j)).mono ?_;rintro _ H2 ⟨rfl,D,l',at',q,pm,agt,XT,aec,aed,Rx,Ry,hq,hq0,G,Pq⟩;refine vs ?_;have N:=B.size;have z1:=d.size;have M:∀z,(C z\/P.fp=some z\/fa=some z\/z=P.r)->C z\/P.S z\/fa=some z:=fun z a=>by
  rcases a with a|a|a|a
  ·grind
  ·exact .inr (.inl (.inr a))
  ·grind
  ·exact .inr (.inl (.inl a))
 have Ms:∀z,(C z\/P.fp=some z\/fa=some z\/z=P.r)->S z:=fun z a=>(p z).1 (by
  rcases M z a with a|a|a
  ·exact .inl a
  ·exact .inr Z
  ·exact .inr Z)
 refine .inr ⟨HI,rfl,ye n C (some f) fa (ps.set g.toNat (some ⟨P.r,D,l'⟩)),q,Z,O,
  ⟨c,C,_,some f,fa,_,at',F.Cj j (P':=⟨P.r,D,l'⟩) rfl pm Pq G M,
   ⟨by rw[alb];exact l.hl,fun h=>?_,?_,fun h Q t=>?_,fun h Q t=>?_,fun h Q t y=>?_,fun h Q t=>?_,?_⟩,fun z=>Iff.rfl⟩,?_,fun z a=>?_⟩
 ·show w.hs[h]? =some true↔_;cases l;grind
 ·cases l;grind
 ·grind
 ·rcases hG L t with ⟨rfl,rfl⟩| ⟨o,u⟩
  ·omega
  ·exact(l.Ok h Q u).Rv fun z a N=>Ry z N Z (l.apart u j o a)
 ·rcases hG L t with ⟨rfl,rfl⟩| ⟨o,u⟩
  ·grind
  cases l;grind
 ·rcases hG L t with ⟨rfl,rfl⟩| ⟨o,u⟩
  ·grind
  cases l;grind [Nw.gm]
 ·rw[Rx,l.HG];exact(alb ..).symm
 ·exact(B.mono fun _ _ h=>h.elim).trans ((d.mono Z).trans (G.mono Z))
 ·rcases a with a|rfl|a|a| ⟨i,Q,t,a⟩
  ·grind
  ·exact .inl ((p z).1 (.inr (.inl rfl)))
  ·exact .inl ((p z).1 (.inr (.inr (.inl a))))
  ·grind
  ·rcases hG L t with ⟨rfl,rfl⟩| ⟨o,u⟩
   ·rcases a with rfl|a
    ·grind
    grind
   ·exact .inl ((p z).1 (.inr Z))
theorem uV{S:Nat->Prop}{w:Nw}(h:dF H n S st w)(g:Int):aD 491 [ptr n,i64 g] H fun v J=>ak (
  ((w.len g=0/\v= .tuple [i64 0,.bool false].toArray)\/∃x,w.first g x/\v= .tuple [i64 x,.bool true].toArray)/\H=J):=by
 obtain⟨c,C,rv,fr,fa,ps,at_,m,l,hS⟩:=h;obtain⟨av,B,ha⟩:=m.own;refine aL Bi ?_;refine v1 (ae B) ?_;refine(gR m.cells g).mono ?_;rintro _ _ ⟨rfl,rfl⟩;refine vs ?_;refine ai.dec (fun t=>?_) (fun t=>?_)
 ·refine vs ?_;exact⟨.inl ⟨t,rfl⟩,rfl⟩
 have d:0<g:=by
  by_cases d:0<g
  ·exact d
  ·grind [Nw.Fg]
 have V:w.has g:=by
  refine⟨O,?_⟩;by_cases z:w.hs[g.toNat]? =some true
  ·exact z
  ·refine absurd (Nw.Fg.2 (.inr fun i c hc e=>z ?_)) t;have:=m.cells.live c Z O;grind
 obtain⟨P,a⟩:=l.ee V;have I:((g.toNat:Nat):Int)=g:=O;have p:=l.mem _ P a;have D:=l.len _ P a;rw[I]at p D;have wT:=(w.kl g).1;obtain⟨f,cc,lb,rfl,rfl,U,W,wU⟩:=m.Wj a;obtain⟨sv,E,X⟩:=m.jf _ P a;obtain⟨x,z⟩:∃x,P.l[0]? =some x:=⟨_,ak9 O⟩;obtain⟨b,c2,l2,rfl,ww,K,F,_,Fe⟩:=Sl.at_ X (i:=0) (x:=i64 x) (by simp[z]);refine v1 (ae B) ?_;refine⟨O,?_⟩;simp(disch:=(first|exact aV|fail)) only[go_sem, ↓reduceIte,Zv,ae U,ala,W,Oj,ae E];refine⟨O,?_⟩;refine v2 (ae K) (show l2[Int.toNat 0*1]? =some (i64 x)from F) ?_;have XU:=ali z;obtain⟨j4,e,N⟩:=(p x).1 XU;refine⟨.inr ⟨x,⟨d,j4,⟨e,N⟩,fun y hy ⟨L,Q⟩ M=>?_⟩,rfl⟩,rfl⟩;have hyP:=(p y).2 ⟨hy,L,Q⟩;obtain⟨j,u⟩:=als hyP;have G:=(ak8.1 u).1;have A:=Dp (ar w) eV (l.ok _ P a) j j (alj _) G;rw[pI u,pI z]at A;rcases(ar w).VQ x y (Ne.symm M)with o|o
 ·exact o
 grind
theorem oe{S:Nat->Prop}{w:Nw}(h:dF H n S st w)(x:Int):aD 486 [ptr n,i64 x] H fun v J=>ak (
  (¬cu w.cs x/\v= .bool false/\H=J)\/
  (cu w.cs x/\v= .bool true/\∃ (c0:Ce) (q:Nat),w.cs[x.toNat]? =some c0/\q<=2*ix 2 (w.len c0.1 - 1)/\∃V,dF J n V (min (st+q) 4611686018427387904) (w.put x (0,0,0))/\aj S H J/\∀z,V z->S z\/H.size<=z)):=by
 obtain⟨c,C,rv,fr,fa,ps,at_,m,l,L⟩:=h;obtain⟨av,ho,ha⟩:=m.own;refine aL wo ?_;refine v1 (ae ho) ?_;refine(cW m.cells x).mono ?_;rintro _ H1 (⟨U,rfl,rfl⟩| ⟨N,c0,F,rfl,c1,G⟩)
 ·refine vs ?_;exact .inl ⟨U,rfl,rfl⟩
 obtain⟨j4,c0',A,pG⟩:=id N;rw[F]at A;injection A with A;subst A;obtain⟨P,j⟩:=(l.hs c0.1.toNat).1 (m.cells.live _ Z pG);have Pp:((c0.1.toNat:Nat):Int)=c0.1:=O;have E:=l.mem _ P j;have ec:=l.len _ P j;rw[Pp]at E ec;have j1:(w.put x (0,0,0)).cs[x.toNat]? =some (0,0,0):=aln Z;have yf:∀y:Nat,y≠x.toNat->(w.put x (0,0,0)).cs[y]? =w.cs[y]? :=fun y B=>alh (Ne.symm B);have K:=m.aE c1 G;obtain⟨av1,X,ha1⟩:=K.own;have XU:x∈P.l:=Z;have DF:∀z∈P.l,cu w.cs z:=fun z a=>by
  obtain⟨I,e,p⟩:=(E z).1 a;exact⟨I,_,p,pG⟩
 obtain⟨i,hi⟩:=als XU;have Nd:=(ak8.1 hi).1;obtain⟨_,hai⟩:=l.Ok _ P j i x hi;obtain⟨f,cc,lb,rfl,rfl,hf,T8,u⟩:=K.Wj j;obtain⟨fa',ac,la,rfl,hfa,Ue,Uf,_,_⟩:=Sl.at_ ha1 (i:=x.toNat) (x:=i64 i) Z;have Nf:=O;refine v1 (ae X) ?_;refine⟨O,?_⟩;simp(disch:=(first|exact aV|fail)) only[go_sem, ↓reduceIte,Zv,ae hf,ala,T8,Oj,ae X];refine⟨O,?_⟩;refine v3 (ae Ue) ala Uf ?_;refine(zY (K.zZ j) (l.Ok _ P j) Nd DF (l.ok _ P j)).mono ?_;rintro _ H2 ⟨l',at',q,o,hq⟩;rw[pI hi]at o;have M:∀z,(C z\/P.fp=some z\/fa=some z\/z=P.r)->C z\/P.S z\/fa=some z:=fun z a=>by
  rcases a with a|a|a|a
  ·grind
  ·exact .inr (.inl (.inr a))
  ·grind
  ·exact .inr (.inl (.inl a))
 have Ms:∀z,(C z\/P.fp=some z\/fa=some z\/z=P.r)->S z:=fun z a=>(L z).1 (by
  rcases M z a with a|a|a
  ·exact .inl a
  ·exact .inr Z
  ·exact .inr Z)
 have W:=K.Cj j (P':=⟨P.r,P.fp,l'⟩) rfl o.jf (.inl rfl) o.ext M;obtain⟨av2,ho2,_⟩:=W.own;refine v1 (ae ho2) ?_;refine(jv W.cells x).mono ?_;rintro _ H3 (⟨U,_,_⟩| ⟨_,rfl,c3,D⟩)
 ·exact absurd N U
 refine vs ?_;have m3:=W.aE c3 D;have ny:∀ (h:Nat) Q,h≠c0.1.toNat->ps[h]? =some (some Q)->∀y∈Q.l,y.toNat≠x.toNat:=fun h Q hh t y B e=>by
  obtain⟨y0,e',p⟩:=(l.mem h Q t y).1 B;grind
 have Ug:∀y∈l',y.toNat≠x.toNat:=fun y B e=>by
  cases o;grind
 refine .inr ⟨N,rfl,c0,q,F,Z,ye n C (some f) fa (ps.set c0.1.toNat (some ⟨P.r,P.fp,l'⟩)),
  ⟨c,C,_,some f,fa,_,at',m3,⟨by rw[alb];exact l.hl,fun h=>?_,?_,fun h Q t=>?_,fun h Q t=>?_,fun h Q t y=>?_,fun h Q t=>?_,?_⟩,fun z=>Iff.rfl⟩,?_,fun z a=>?_⟩
 ·show w.hs[h]? =some true↔_;rw[l.hs h];grind
 ·rw[alh O];exact l.h0
 ·rcases hG u t with ⟨rfl,rfl⟩| ⟨d,g⟩
  ·cases o;grind [ej.zW,gS]
  ·exact(l.ok h Q g).zW fun z a y B=>(gS w x _ Z Z).symm
 ·rcases hG u t with ⟨rfl,rfl⟩| ⟨d,g⟩
  ·exact o.ok
  ·exact(l.Ok h Q g).Rv fun z a I=>o.off z I (l.apart g j d a)
 ·by_cases Oc:y.toNat=x.toNat
  ·rw[Oc,j1];have h0:=hG u t;constructor
   ·grind
   ·rintro⟨_,e,p⟩;injection p with p;injection p with he1 _;rcases h0 with ⟨rfl,rfl⟩| ⟨d,g⟩
    ·omega
    ·have:=l.pos g;omega
  ·rw[yf _ Oc];rcases hG u t with ⟨rfl,rfl⟩| ⟨d,g⟩
   ·cases o;grind
   ·exact l.mem h Q g y
 ·rcases hG u t with ⟨rfl,rfl⟩| ⟨d,g⟩
  ·cases o;grind [Nw.gm]
  ·have:=l.pos g;rw[l.len h Q g,Nw.gm F h,if_neg O,if_neg O];omega
 ·rw[o.HG,l.HG];exact(alb ..).symm
 ·exact(G.mono Z).trans ((o.ext.mono Z).trans (D.mono Z))
 ·rcases a with a|rfl|a|a| ⟨i,Q,t,a⟩
  ·grind
  ·exact .inl ((L z).1 (.inr (.inl rfl)))
  ·exact .inl ((L z).1 (.inr (.inr (.inl a))))
  ·grind
  ·rcases hG u t with ⟨rfl,rfl⟩| ⟨d,g⟩
   ·rcases a with rfl|a
    ·grind
    grind
   ·exact .inl ((L z).1 (.inr Z))
theorem yg{S:Nat->Prop}{w:Nw}(h:dF H n S st w)(g:Int):aD 487 [ptr n,i64 g] H fun v J=>ak (
  (w.len g=0/\v= .tuple [i64 0,.bool false].toArray/\H=J)\/
  (∃x,w.first g x/\v= .tuple [i64 x,.bool true].toArray/\∃q:Nat,q<=2*ix 2 (w.len g - 1)/\∃a,dF J n a (min (st+q) 4611686018427387904) (w.put x (0,0,0))/\aj S H J/\∀z,a z->S z\/H.size<=z)):=by
 refine aL us ?_;refine vs ?_;refine(uV h g).mono ?_;rintro _ _ ⟨⟨d,rfl⟩| ⟨x,y,rfl⟩,rfl⟩
 ·refine vs ?_;exact .inl ⟨d,rfl,rfl⟩
 ·refine vs ?_;refine(oe h x).mono ?_;rintro _ H1 (⟨f,_,_⟩| ⟨_,rfl,B,q,o,u,a,t,j,p⟩)
  ·exact absurd y.Ki f
  refine vs ?_;obtain⟨e,m⟩:=y.2.2.1;rw[o]at m;injection m with m;subst m;exact .inr ⟨x,y,rfl,q,u,a,t,j,p⟩
theorem wB{S:Nat->Prop}{w:Nw}(h:dF H n S st w)(x k s:Int):aD 485 [ptr n,i64 x,ms k s] H fun v J=>ak (
  (¬ (cu w.cs x/\∀y,w.cs[x.toNat]? =some y->¬dY y.2.1 y.2.2 k s)/\v= .bool false/\dF J n S st w/\af H J)\/
  (cu w.cs x/\∃y,w.cs[x.toNat]? =some y/\¬dY y.2.1 y.2.2 k s/\v= .bool true/\∃q:Nat,q<=2*ix 2 (w.len y.1 - 1)/\∃S',dF J n S' (min (st+q) 4611686018427387904) (w.put x (y.1,k,s))/\aj S H J/\∀z,S' z->S z\/H.size<=z)):=by
 obtain⟨c,C,rv,fr,fa,ps,at_,m,l,p⟩:=h;refine aL se ?_;refine vs ?_;have D:af H (H.new 148 [i64 k,u64 s]):=bm;have b0:(H.new 148 [i64 k,u64 s]).own H.size=some [i64 k,u64 s]:=am _ _ _;have I:=m.ext D (fun _ _ h=>h);generalize H.new 148 [i64 k,u64 s]=H0 at*;obtain⟨av,HB,SM⟩:=I.own;refine v2 (ae HB) (ae b0) ?_;refine(iM I.cells x k s).mono ?_;rintro _ H1 (⟨E,rfl,G,u⟩| ⟨mj,rfl,y,hy,lU,G,u⟩)
 ·refine vs ?_;exact .inl ⟨E,rfl,⟨c,C,rv,fr,fa,ps,at_,I.ext u (fun _ _ h=>h),l,p⟩,D.trans u⟩
 have m1:=I.aE G u;obtain⟨av1,ho1,ha1⟩:=m1.own;refine v1 (ae ho1) ?_;obtain⟨j4,y',U,X⟩:=id mj;rw[hy]at U;injection U with U;subst U;have j1:(w.put x (y.1,k,s)).cs[x.toNat]? =some (y.1,k,s):=aln Z;have yf:∀z:Nat,z≠x.toNat->(w.put x (y.1,k,s)).cs[z]? =w.cs[z]? :=fun z a=>alh (Ne.symm a);have Rz:cu (w.put x (y.1,k,s)).cs x:=⟨j4,_,j1,X⟩;refine(cW G x).mono ?_;rintro _ H2 (⟨E,_,_⟩| ⟨_,y2,W,rfl,c2,e2⟩)
 ·exact absurd Rz E
 rw[j1]at W;injection W with W;subst W;have V:=m1.aE c2 e2;obtain⟨av2,ho2,ha2⟩:=V.own;obtain⟨P,t⟩:=(l.hs y.1.toNat).1 (m.cells.live _ Z X);have Pp:((y.1.toNat:Nat):Int)=y.1:=O;have Ps:∀ (h:Nat) Q,ps[h]? =some (some Q)->∀z:Int,z∈Q.l↔0<=z/\∃e,(w.put x (y.1,k,s)).cs[z.toNat]? =some (((h:Nat):Int),e):=fun h Q g z=>by
  cases l;grind
 have M:=Ps _ P t;have ec:=l.len _ P t;rw[Pp]at M ec;have XU:x∈P.l:=Z;have DF:∀z∈P.l,cu (w.put x (y.1,k,s)).cs z:=fun z a=>by
  obtain⟨z0,e,he⟩:=(M z).1 a;exact⟨z0,_,he,X⟩
 obtain⟨i,hi⟩:=als XU;have Nd:=(ak8.1 hi).1;obtain⟨_,hai⟩:=l.Ok _ P t i x hi;have Nf:=(ak8.1 hai).1;obtain⟨f,cc,lb,rfl,rfl,hf,T8,L⟩:=V.Wj t;obtain⟨fa',ac,la,rfl,hfa,Ue,Uf,_,_⟩:=Sl.at_ ha2 (i:=x.toNat) (x:=i64 i) Z;have hz0:∀j,j<P.l.length->j≠i->(P.l.getD j 0).toNat≠x.toNat:=fun j hj ny e=>by
  have hgj:P.l[j]? =some (P.l.getD j 0):=by rw[alf,ak9 hj];rfl
  have h0:=((M _).1 (ali hgj)).1;cases l;grind [je.zL]
 have hA:dS (aU (w.put x (y.1,k,s))) 2 P.l i:=by
  have hb:=(l.ok _ P t).but (ar w) eV i;refine⟨fun j B A K F=>?_,fun j B A K F=>?_⟩
  ·have:=db eV B;rw[gS w x _ (hz0 j A K) Z];exact hb.1 j B A K F
  ·have:=db eV B;have:=db eV F;rw[gS w x _ Z Z];exact hb.2 j B A K F
 refine v1 (ae ho2) ?_;refine⟨O,?_⟩;simp(disch:=(first|exact aV|fail)) only[go_sem, ↓reduceIte,Zv,ae hf,ala,T8,Oj,ae ho2];refine⟨O,?_⟩;refine v3 (ae Ue) ala Uf ?_;refine(Fq (V.zZ t) (l.Ok _ P t) Nd DF hA).mono ?_;rintro _ H3 ⟨rfl,l',at',q,o,XT,hq⟩;refine vs ?_;have yZ:=u.trans e2;have hT:∀z,(C z\/P.fp=some z\/fa=some z)->C z\/P.S z\/fa=some z:=fun z a=>by
  rcases a with a|a|a
  ·grind
  ·exact .inr (.inl (.inr a))
  grind
 have Ms:∀z,(C z\/P.fp=some z\/fa=some z)->S z:=fun z a=>(p z).1 (by
  rcases hT z a with a|a|a
  ·exact .inl a
  ·exact .inr Z
  ·exact .inr Z)
 have ny:∀ (h:Nat) Q,h≠y.1.toNat->ps[h]? =some (some Q)->∀z∈Q.l,z.toNat≠x.toNat:=Z;have Wd:∀h:Int,(w.put x (y.1,k,s)).len h=w.len h:=fun h=>by
  grind [Nw.gm]
 have hol:=o.len;refine .inr ⟨mj,y,hy,lU,rfl,q,Z,ye n C (some f) fa (ps.set y.1.toNat (some ⟨P.r,P.fp,l'⟩)),
  ⟨c,C,_,some f,fa,_,at',V.Cj t (P':=⟨P.r,P.fp,l'⟩) rfl o.jf (.inl rfl) o.ext hT,
   ⟨by rw[alb];exact l.hl,fun h=>?_,?_,fun h Q g=>?_,fun h Q g=>?_,fun h Q g z=>?_,fun h Q g=>?_,?_⟩,fun z=>Iff.rfl⟩,?_,fun z a=>?_⟩
 ·show w.hs[h]? =some true↔_;rw[l.hs h];grind
 ·rw[alh O];exact l.h0
 ·rcases hG L g with ⟨rfl,rfl⟩| ⟨N,d⟩
  ·omega
  ·exact(l.ok h Q d).zW fun z a v hv=>(gS w x _ Z Z).symm
 ·rcases hG L g with ⟨rfl,rfl⟩| ⟨N,d⟩
  ·exact o.ok
  ·exact(l.Ok h Q d).Rv fun z a z0=>o.off z z0 Z
 ·rcases hG L g with ⟨rfl,rfl⟩| ⟨N,d⟩
  ·cases o;grind
  grind
 ·rw[Wd];rcases hG L g with ⟨rfl,rfl⟩| ⟨N,d⟩
  ·grind
  ·exact l.len h Q d
 ·rw[o.HG,l.HG];exact(alb ..).symm
 ·exact(D.mono fun _ _ h=>h.elim).trans ((yZ.mono Z).trans (o.ext.mono Z))
 ·rcases a with a|rfl|a|a| ⟨j,Q,g,a⟩
  ·grind
  ·exact .inl ((p z).1 (.inr (.inl rfl)))
  ·exact .inl ((p z).1 (.inr (.inr (.inl a))))
  ·grind
  ·rcases hG L g with ⟨rfl,rfl⟩| ⟨N,d⟩
   ·rcases a with rfl|a
    ·exact .inl ((p _).1 (.inr (.inr (.inr (.inr ⟨_,P,t,.inl rfl⟩)))))
    grind
   ·exact .inl ((p z).1 (.inr Z))
end
end Go.Proofs.YtnanofhkpglbaaaGreatDoor
