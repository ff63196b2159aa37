/- Texts put behind each other. -/
import Derived.Test.YtnanofhkpglbaaaGreatDoorK33
set_option linter.unusedSimpArgs false
set_option linter.unusedVariables false
set_option maxRecDepth 100000
set_option maxHeartbeats 80000000
namespace Go.Proofs.YtnanofhkpglbaaaGreatDoor
open Go Go.Vc
section
variable{x:Int}
structure JP(w:Nw)(L:List Lk)(tops:List Int)(ch:Int->List Int)(au:Int->Int):Prop where
 t:L0 (aH w) (aU w) ch au (aO tops)
 pl:GI (bk L) (bq L) ch au
 tl:tops.length=w.hs.length
def dA(n:Nat)(H:Hp)(S:Nat->Prop)(w:Nw):Prop:=∃ (B:PB) (C:Nat->Prop) (L:List Lk) (tops:List Int) (ch:Int->List Int) (au:Int->Int),B.n=n/\bS H B C w L tops/\JP w L tops ch au/\∀z,S z↔B.S C z
theorem dA.slt{n:Nat}{H:Hp}{S:Nat->Prop}{w:Nw}(h:dA n H S w):∀z,S z->z<H.size:=by
 obtain⟨B,C,L,tops,ch,au,rfl,m,l,x⟩:=h;exact fun z e=>m.slt z ((x z).1 e)
theorem dA.ext{n:Nat}{H J:Hp}{S V:Nat->Prop}{w:Nw}(h:dA n H S w)(e:aj V H J)(g:∀z,S z->¬V z):dA n J S w:=by
 obtain⟨B,C,L,tops,ch,au,rfl,m,l,x⟩:=h;exact⟨B,C,L,tops,ch,au,rfl,m.ext e Z,l,x⟩
theorem Ah(cap:Int)(H:Hp):aD 92 [i64 cap] H fun v J=>ak (
  af H J/\((¬ (0<=cap/\cap<=65536)/\v= .tuple [.pointer none,i64 31].toArray)\/
   ((0<=cap/\cap<=65536)/\∃n S,v= .tuple [ptr n,i64 0].toArray/\dA n J S (iU cap)/\∀x,S x->H.size<=x))):=by
 refine aL E2 ?_;refine vs ?_;refine(jX cap H).mono ?_;rintro _ H1 ⟨t,⟨d,rfl⟩| ⟨d,c,C,rfl,o,hC⟩⟩
 ·refine vs ?_;exact⟨t,.inl ⟨d,rfl⟩⟩
 refine v1 alr ?_;refine⟨O,?_⟩;refine vs ?_;rw[Mo];have XQ:=o.slt;have z1:=t.size;have u:af H1 (((H1.new 232 (aP (List.replicate cap.toNat ⟨0,0,0⟩))).new 3 [Value.int .i64 (-1)]).new 230 [ptr c,.slice (some ⟨H1.size,0,none⟩) cap.toNat cap.toNat,.slice (some ⟨H1.size+1,0,none⟩) 1 1]):=(bm.new _ _).new _ _;have K:aj (fun _=>False) (H1.new 232 (aP (List.replicate cap.toNat ⟨0,0,0⟩))) (((H1.new 232 (aP (List.replicate cap.toNat ⟨0,0,0⟩))).new 3 [Value.int .i64 (-1)]).new 230 [ptr c,.slice (some ⟨H1.size,0,none⟩) cap.toNat cap.toNat,.slice (some ⟨H1.size+1,0,none⟩) 1 1]):=bm.new _ _;have F:aj (fun _=>False) ((H1.new 232 (aP (List.replicate cap.toNat ⟨0,0,0⟩))).new 3 [Value.int .i64 (-1)]) (((H1.new 232 (aP (List.replicate cap.toNat ⟨0,0,0⟩))).new 3 [Value.int .i64 (-1)]).new 230 [ptr c,.slice (some ⟨H1.size,0,none⟩) cap.toNat cap.toNat,.slice (some ⟨H1.size+1,0,none⟩) 1 1]):=bm;obtain⟨B,y⟩:∃B:PB,B=⟨H1.size+1+1,c,H1.size,H1.size+1⟩:=⟨_,rfl⟩;have E:bS (((H1.new 232 (aP (List.replicate cap.toNat ⟨0,0,0⟩))).new 3 [Value.int .i64 (-1)]).new 230 [ptr c,.slice (some ⟨H1.size,0,none⟩) cap.toNat cap.toNat,.slice (some ⟨H1.size+1,0,none⟩) 1 1]) B C (iU cap) (List.replicate cap.toNat ⟨0,0,0⟩) [-1]:=by
  subst y;refine⟨⟨.slice (some ⟨H1.size+1,0,none⟩) 1 1,?_,?_⟩,o.fresh u,?_,?_,?_,?_⟩
  ·grind [az,ag]
  ·exact(Sl.bs (size:=1) (n:=1) (xs:=[i64 (-1)]) rfl (by simp only[ag])).ext F (fun _ _ h=>h)
  ·exact K.own (am _ _ _) (fun h=>h)
  ·simp[iU]
  ·grind
  ·grind
 have r:B.n=H1.size+1+1:=by rw[y]
 have hBs:∀z,B.S C z->H1.size<=z\/C z:=fun z p=>by
  rcases p with p|rfl|rfl|rfl
  ·grind
  all_goals rw[y];left;first|omega| (simp only;omega)
 have hBt:B.tb=H1.size:=by rw[y]
 have Q:=t.trans u;generalize ((H1.new 232 (aP (List.replicate cap.toNat ⟨0,0,0⟩))).new 3 [Value.int .i64 (-1)]).new 230 [ptr c,.slice (some ⟨H1.size,0,none⟩) cap.toNat cap.toNat,.slice (some ⟨H1.size+1,0,none⟩) 1 1]=A at*;obtain⟨tv0,o0,_⟩:=E.own;rw[alL,r]at o0;refine ba.intro (fun m env J=>∃j:Nat,m=cap.toNat - j/\j<=cap.toNat/\aj (fun z=>z=B.tb) A J/\bS J B C (iU cap) (List.replicate j jz++List.replicate (cap.toNat - j) ⟨0,0,0⟩) [-1]/\
  env=[(6,ptr (H1.size+1+1)),(26,i64 (cap.toNat:Nat)),(27,i64 j)]) cap.toNat ⟨0,O,O,aj.refl _ _,Z,rfl⟩ ?_
 rintro m env H3 ⟨j,rfl,hj,f,e,rfl⟩;have G:=ij (List.replicate j jz++List.replicate (cap.toNat - j) (⟨0,0,0⟩:Lk));have I:(List.replicate j jz++List.replicate (cap.toNat - j) (⟨0,0,0⟩:Lk)).length=cap.toNat:=by simp;omega
 obtain⟨TS,q,_⟩:=e.own;rw[I]at G q;rw[r]at q;refine vs ?_;refine ai.dec (fun D=>?_) (fun D=>?_)<;>refine vs ?_
 ·refine v1 (ae q) ?_;refine⟨O,?_⟩;refine v3 e.fv ak7 Int.toNat_natCast ?_;refine⟨O,?_⟩;have P:=Gq (L:=List.replicate j jz++List.replicate (cap.toNat - j) (⟨0,0,0⟩:Lk)) (i:=j) O jz;have q4:(List.replicate j jz++List.replicate (cap.toNat - j) (⟨0,0,0⟩:Lk)).set j jz=List.replicate (j+1) jz++List.replicate (cap.toNat - (j+1)) (⟨0,0,0⟩:Lk):=by
   rw[amD _ _ (by simp),alL,amM,show cap.toNat - j=(cap.toNat - (j+1))+1 by omega,alZ,amN,amG];simp
  rw[q4]at P;obtain⟨X,N⟩:=e.Mw (L':=List.replicate (j+1) jz++List.replicate (cap.toNat - (j+1)) (⟨0,0,0⟩:Lk)) Z;rw[show aQ (aP (List.replicate j jz++List.replicate (cap.toNat - j) (⟨0,0,0⟩:Lk))) (j*3) (aK (Value.agg #[Value.int .i64 (-1),Value.int .i64 (-1),Value.int .i64 (-1)]))=_ from P];refine vs ?_;rw[wrap64 (n:=(j:Int)+1) O O];exact⟨cap.toNat - (j+1),O,j+1,rfl,O,f.trans N,X,rfl⟩
 ·obtain rfl:j=cap.toNat:=O;rw[amM,List.replicate_zero,alE]at e;rw[<-r];refine⟨Q.then f O,.inr ⟨d,B.n,B.S C,rfl,⟨B,C,_,[-1],fun _=>[],fun _=> -1,rfl,e,⟨⟨⟨rfl,Z,O,Z⟩,
   ⟨O,fun g U=>absurd (zT g) U,fun x M=>absurd M (iV cap x)⟩⟩,⟨fun x=>x6 _ _ _,fun x=>trivial,fun c _=>⟨x6 _ _ _,Dy _ _⟩⟩,rfl⟩,fun z=>Iff.rfl⟩,fun z p=>?_⟩⟩
  grind
theorem ys{n:Nat}{H:Hp}{S:Nat->Prop}{w:Nw}(h:dA n H S w):aD 426 [ptr n] H fun v J=>ak (
  (w.hs.length=65537/\v=i64 0/\br (dA n) S H J w)\/(w.hs.length≠65537/\v=i64 w.hs.length/\br (dA n) S H J w.make)):=by
 obtain⟨B,C,L,tops,ch,au,rfl,m,l,x⟩:=id h;obtain⟨tv,o,I⟩:=m.own;refine aL ud ?_;refine v1 (ae o) ?_;refine(iP m.cells).mono ?_;rintro _ H1 (⟨r,rfl,rfl⟩| ⟨r,rfl,t,p,e,Q⟩)
 ·refine vs ?_;exact .inl ⟨r,rfl,br.same h (aj.refl _ _)⟩
 have pG:=m.cells.pos;have hhs:=m.cells.Hv;have G:=l.tl;have slt:=m.slt;have T5:=p.slt;obtain⟨D,M,n3⟩:=m.out;obtain⟨K,F,N⟩:=m.k9;have u:=e.own o D;refine vs ?_;refine ai.bK Z ?_;refine v1 (ae u) ?_;have s1:=I.ext e Z;refine Mm s1 (-1) O fun w' d b' U A g=>?_;have P:=g.own u F;obtain⟨E,X,f⟩:=Sl.shape A;subst f;refine v1 P ?_;generalize f:Value.slice E (tops++[-1]).length X=w' at*;have y:aj (fun z=>z=B.n) d (d.wr B.n [ptr B.c,.slice (some ⟨B.tb,0,none⟩) L.length L.length,w']):=(aj.refl (fun z=>z=B.n) _).wr (fun _=>rfl) _;have z1:=e.size;have hn:=slt _ (.inr (.inl rfl));have ht:=slt _ (.inr (.inr (.inl rfl)));have XN:=slt _ (.inr (.inr (.inr rfl)));have hC1:∀z,t z->z≠b'/\(z<H.size->C z):=Z;refine .inr ⟨r,rfl,(PB.mk B.n B.c B.tb b').S t,⟨⟨B.n,B.c,B.tb,b'⟩,t,L,tops++[-1],ch,au,rfl,⟨⟨w',ah P,A.ext y Z⟩,?_,?_,m.len,?_,?_⟩,⟨by rw[xW];exact l.t,l.pl,?_⟩,fun z=>Iff.rfl⟩,?_,fun z j=>?_⟩
 ·exact(p.ext g Z).ext y Z
 ·exact y.own (g.own (e.own m.fv M) N) (Ne.symm K)
 ·grind
 ·grind
 ·simp[Nw.make,G]
 ·exact((e.mono fun z _ h=>(x z).2 (.inl h)).trans (g.mono fun z _ h=>(x z).2 (.inr (.inr (.inr h))))).trans (y.mono fun z _ h=>(x z).2 (.inr (.inl h)))
 ·rcases j with j|rfl|rfl|rfl
  ·rcases Q z j with q|q
   ·exact .inl ((x z).2 (.inl q))
   omega
  ·exact .inl ((x _).2 (.inr (.inl rfl)))
  ·exact .inl ((x _).2 (.inr (.inr (.inl rfl))))
  ·rcases U with rfl|h7
   ·exact .inl ((x _).2 (.inr (.inr (.inr rfl))))
   omega
theorem JP.first{w:Nw}{L:List Lk}{tops:List Int}{ch:Int->List Int}{au:Int->Int}(l:JP w L tops ch au){g:Int}(h:w.first g x):aO tops g=x:=by
 obtain⟨z,m,e⟩:=bh.1 h;have:=l.t.tp.first (x:=x) O Z (ar w);grind
theorem ot{n:Nat}{H:Hp}{S:Nat->Prop}{w:Nw}(h:dA n H S w)(g:Int):aD 428 [ptr n,i64 g] H fun v J=>ak (
  ((w.len g=0/\v= .tuple [i64 0,.bool false].toArray)\/∃x,w.first g x/\v= .tuple [i64 x,.bool true].toArray)/\J=H):=by
 obtain⟨B,C,L,tops,ch,au,rfl,m,l,o⟩:=h;obtain⟨q,lt,r,j,f,u,P⟩:=m.ed;refine aL vY ?_;refine v1 (ae r) ?_;refine(eU m.cells g).mono ?_;rintro _ _ ⟨rfl,rfl⟩;refine vs ?_;refine ai.dec (fun z=>?_) (fun z=>?_)
 ·refine vs ?_;exact⟨.inl ⟨z,rfl⟩,rfl⟩
 have y:0<g:=alt fun y=>z (Nw.Fg.2 (.inl O));obtain⟨x,e⟩:=so y z;have p:=(bh.1 e).2.1;have t:=((m.cells.hm x).2 O).2;rw[p,<-l.tl]at t;have d:=m.cS j (ce (tops:=tops) (h:=g) O t);rw[l.first e]at d;refine v1 (ae r) ?_;refine⟨O,?_⟩;refine v4 (ae j) ak7 ala d ?_;exact⟨.inr ⟨x,e,rfl⟩,rfl⟩
theorem uC{n:Nat}{H:Hp}{S:Nat->Prop}{w:Nw}(h:dA n H S w)(g x k s:Int):aD 425 [ptr n,i64 g,i64 x,ms k s] H fun v J=>ak (
  (¬w.kC g x/\v= .bool false/\br (dA n) S H J w)\/(w.kC g x/\v= .bool true/\br (dA n) S H J (w.put x (g,k,s)))):=by
 obtain⟨B,C,L,tops,ch,au,rfl,m,l,d⟩:=h;have hC:∀z,C z->S z:=fun z h=>(d z).2 (.inl h);have t1:S B.tb:=(d _).2 (.inr (.inr (.inl rfl)));have t2:S B.tp:=(d _).2 (.inr (.inr (.inr rfl)));refine aL qH ?_;refine vs ?_;have F:af H (H.new 148 [i64 k,u64 s]):=bm;have b0:(H.new 148 [i64 k,u64 s]).own H.size=some [i64 k,u64 s]:=am _ _ _;have q:=m.fresh F;generalize H.new 148 [i64 k,u64 s]=H0 at*;have N:aj S H H0:=F.mono fun _ _ h=>h.elim;obtain⟨tv,HB,_⟩:=q.own;refine v2 (ae HB) (ae b0) ?_;refine(jW q.cells g x k s).mono ?_;rintro _ H1 (⟨kV,rfl,o,j⟩| ⟨I,rfl,o,j⟩)
 ·refine vs ?_;exact .inl ⟨kV,rfl,br.same ⟨B,C,L,tops,ch,au,rfl,q.aE o j rfl,l,d⟩ (N.trans (j.mono Z))⟩
 obtain⟨Q,U,mj⟩:=id I;have e:=q.aE o j (by simp[Nw.put]);have hg:=Q.1;have wU:g<tops.length:=by
  have:=(ak8.1 Q.2).1;have:=l.tl;omega
 have j1:=fun y=>dT U (g,k,s) y;have u:QD (aH (w.put x (g,k,s))) (aU (w.put x (g,k,s))) ch au (aO tops) g x:=by
  refine l.t.ins rfl (Int.not_lt.1 fun h=>mj (bf.1 h)) O O Z Z (fun a b ha hb wA zS=>du U _ ha hb wA zS)
 obtain⟨A,lt,t,f,Dx,JH,JI⟩:=e.ed;have q3:=e.cS f (ce (tops:=tops) (h:=g) O wU);refine vs ?_;refine di.intro (fun J=>J.own B.n=some [ptr B.c,.slice (some ⟨B.tb,0,none⟩) L.length L.length,.slice (some ⟨B.tp,0,none⟩) tops.length A]) t ?_;refine vs ?_;refine bG.intro (.slice (some ⟨B.tp,0,none⟩) tops.length A) (fun J hI=>by refine v1 (ae hI) ?_;trivial) ?_;refine v1 (ae t) ?_;refine And.intro t ?_;refine vs ?_;refine⟨⟨O,O⟩,?_⟩;refine v4 (ae f) ak7 ala q3 ?_;refine And.intro t ?_;refine vs ?_;have P:=u.w;rw[show ws [aO tops g,x]=ws [aO tops g,x]++[] by simp]at P;refine(cM e P l.pl).mono ?_;rintro _ H3 ⟨r,M,E,Af,rfl,_,m3,D,p3,p⟩;rw[alE]at D;have bn:=u.done D;obtain⟨d1,X,d3⟩:=e.k9;have no:¬ (C B.n\/B.n=B.tb):=by rintro(h|h);exact e.out.1 h;omega
 refine And.intro (p.own t no) ?_;have G:=p.own f (by cases e;grind);refine vs ?_;refine⟨O,?_⟩;refine v3 G ak7 ala ?_;refine⟨O,?_⟩;obtain⟨m4,K⟩:=m3.fH G g.toNat r;refine And.intro (K.own (p.own t no) X) ?_;refine vs ?_;refine .inr ⟨I,rfl,br.same ⟨B,C,M,_,E,Af,rfl,m4,⟨?_,p3,by rw[alb];exact l.tl⟩,d⟩ (((N.trans (j.mono fun z _ h=>hC z h)).trans (p.mono Z)).trans (K.mono Z))⟩;grind [dJ]
theorem yt{n:Nat}{H:Hp}{S:Nat->Prop}{w:Nw}(h:dA n H S w)(a b:Int):aD 427 [ptr n,i64 a,i64 b] H fun v J=>ak (
  (¬ (w.has a/\w.has b/\a≠b)/\v= .bool false/\br (dA n) S H J w)\/((w.has a/\w.has b/\a≠b)/\v= .bool true/\br (dA n) S H J (w.join a b))):=by
 obtain⟨B,C,L,tops,ch,au,rfl,m,l,t⟩:=id h;have hC:∀z,C z->S z:=fun z h=>(t z).2 (.inl h);have t1:S B.tb:=(t _).2 (.inr (.inr (.inl rfl)));have t2:S B.tp:=(t _).2 (.inr (.inr (.inr rfl)));obtain⟨tv,o0,_⟩:=m.own;refine aL ue ?_;refine v1 (ae o0) ?_;refine(iQ m.cells a b).mono ?_;rintro _ H1 (⟨kV,rfl,rfl⟩| ⟨K,rfl,E,o⟩)
 ·refine vs ?_;exact .inl ⟨kV,rfl,br.same h (aj.refl _ _)⟩
 obtain⟨⟨ha,Nf⟩,⟨hb,Nb⟩,P⟩:=id K;have e:=m.aE E o (by simp[Nw.join]);have A:=lN (w:=w) (a:=a) (b:=b) O;have tt:=l.t;have p:=tt.join (hm':=aH (w.join a b)) rfl P O O A;rw[<-ik w a b]at p tt;have D:a<tops.length:=by
  have:=(ak8.1 Nf).1;have:=l.tl;omega
 have M:b<tops.length:=by
  have:=(ak8.1 Nb).1;have:=l.tl;omega
 obtain⟨g,lt,N,j,Dx,JH,JI⟩:=e.ed;have qa:=e.cS j (ce (tops:=tops) (h:=a) O D);have I:=e.cS j (ce (tops:=tops) (h:=b) O M);refine vs ?_;refine di.intro (fun J=>J.own B.n=some [ptr B.c,.slice (some ⟨B.tb,0,none⟩) L.length L.length,.slice (some ⟨B.tp,0,none⟩) tops.length g]/\∃l,J.own B.tp=some l/\l[b.toNat]? =some (i64 (aO tops b))) Z ?_;refine vs ?_;refine bG.intro (.slice (some ⟨B.tp,0,none⟩) tops.length g) (fun J x=>by refine v1 (ae x.1) ?_;trivial) ?_;refine vs ?_;refine bG.intro (.slice (some ⟨B.tp,0,none⟩) tops.length g) (fun J x=>by refine v1 (ae x.1) ?_;trivial) ?_;refine vs ?_;refine⟨O,?_⟩;refine vs ?_;refine bG.intro (.slice (some ⟨B.tp,0,none⟩) tops.length g) (fun J x=>by refine v1 (ae x.1) ?_;trivial) ?_;refine vs ?_;refine⟨O,?_⟩;refine vs ?_;refine bG.intro (i64 (aO tops b)) (fun J x=>by obtain⟨_,l,h1,h2⟩:=x;refine v4 (ae h1) ak7 ala h2 ?_;trivial) ?_;refine v4 (ae j) ak7 ala qa ?_;refine And.intro Z ?_;refine vs ?_;rw[show ws [aO tops a,aO tops b]=ws [aO tops a,aO tops b]++[] by simp]at p;refine(cM e p l.pl).mono ?_;rintro _ q ⟨r,G,X,Af,rfl,_,m3,u,p3,y⟩;rw[alE]at u;have bn:=tt.GK rfl P O O A u;obtain⟨d1,d2,d3⟩:=e.k9;have no:¬ (C B.n\/B.n=B.tb):=by rintro(h|h);exact e.out.1 h;omega
 have d:=y.own j (by cases e;grind);refine And.intro ⟨y.own N no,lt,d,I⟩ ?_;refine vs ?_;refine⟨O,?_⟩;refine v3 d ak7 ala ?_;have ql:=O;refine⟨O,?_⟩;obtain⟨F,f⟩:=m3.fH d a.toNat r;have o4:=f.own (y.own N no) d2;have q4':(q.wr B.tp (lt.set a.toNat (i64 r))).own B.tp=some (lt.set a.toNat (i64 r)):=ah d;have qb':(lt.set a.toNat (i64 r))[b.toNat]? =some (i64 (aO tops b)):=by rw[alh O];exact I
 rw[show aQ lt a.toNat (aK (i64 r))=lt.set a.toNat (i64 r)from rfl];generalize q.wr B.tp (lt.set a.toNat (i64 r))=H4 at*;refine And.intro Z ?_;refine vs ?_;obtain⟨cc5,lt5,Q,U,V9,y5,Pj⟩:=F.ed;rw[alb]at Q V9;refine v1 (ae Q) ?_;refine⟨O,?_⟩;refine v3 U ak7 ala ?_;refine⟨O,?_⟩;obtain⟨m6,e6⟩:=F.fH U b.toNat (-1);refine vs ?_;refine .inr ⟨K,rfl,br.same ⟨B,C,G,_,X,Af,rfl,m6,⟨?_,p3,by rw[alb,alb,l.tl];simp[Nw.join]⟩,t⟩ ?_⟩
 ·grind [dJ]
 ·exact(((o.mono fun z _ h=>hC z h).trans (y.mono Z)).trans (f.mono Z)).trans (e6.mono Z)
theorem JP.below{w:Nw}{L:List Lk}{tops:List Int}{ch:Int->List Int}{au:Int->Int}(l:JP w L tops ch au)(e:0<aH w x)(m:aO tops (aH w x)≠x):∃p l1 l2,ch p=l1++x::l2:=by
 have z:au x≠ -1:=fun h=>m (l.t.tp.t2 x e h);obtain⟨l1,l2,h⟩:=List.append_of_mem (l.t.pr.up x _ rfl z);grind
theorem qS{n:Nat}{H:Hp}{S:Nat->Prop}{w:Nw}(h:dA n H S w)(x k s:Int):aD 422 [ptr n,i64 x,ms k s] H fun v J=>ak (
  (¬w.dv x k s/\v= .bool false/\br (dA n) S H J w)\/(w.dv x k s/\v= .bool true/\∃y,w.cs[x.toNat]? =some y/\br (dA n) S H J (w.put x (y.1,k,s)))):=by
 obtain⟨B,C,L,tops,ch,au,rfl,m,l,e⟩:=h;have hC:∀z,C z->S z:=fun z h=>(e z).2 (.inl h);have t1:S B.tb:=(e _).2 (.inr (.inr (.inl rfl)));have t2:S B.tp:=(e _).2 (.inr (.inr (.inr rfl)));refine aL nN ?_;refine vs ?_;have f0:af H (H.new 148 [i64 k,u64 s]):=bm;have b0:(H.new 148 [i64 k,u64 s]).own H.size=some [i64 k,u64 s]:=am _ _ _;have K:=m.fresh f0;generalize H.new 148 [i64 k,u64 s]=H0 at*;have ff:aj S H H0:=f0.mono fun _ _ h=>h.elim;obtain⟨tv,HB,_⟩:=K.own;refine v2 (ae HB) (ae b0) ?_;refine(gJ K.cells x k s).mono ?_;rintro _ H1 (⟨G,rfl,c1,o⟩| ⟨f,rfl,y,A,lU,c1,o⟩)
 ·refine vs ?_;exact .inl ⟨G,rfl,br.same ⟨B,C,L,tops,ch,au,rfl,K.ext o (fun _ _ h=>h),l,e⟩ (ff.trans (o.mono fun _ _ h=>h.elim))⟩
 have tC:(w.put x (y.1,k,s)).cs.length=w.cs.length:=by simp[Nw.put]
 have D:=K.aE c1 o tC;have x9:w.dv x k s:=⟨f,Z⟩;have hx:0<=x/\x<w.cs.length:=⟨f.1,Z⟩;have hwx:aH w x=y.1:=iO f.1 A;have FZ:=bf.2 f;have t:aH (w.put x (y.1,k,s))=aH w:=by
  funext z;rw[dT hx];split
  ·grind
  ·rfl
 have HC:cu (w.put x (y.1,k,s)).cs x:=bf.1 (by simp_all);obtain⟨Ni,o1,_⟩:=D.own;refine v1 (ae o1) ?_;refine(bC D.cells x).mono ?_;rintro _ H2 (⟨G,_,_⟩| ⟨_,rfl,c2,e2⟩)
 ·exact absurd HC G
 have F:=D.aE c2 e2 rfl;have yZ:aj S H H2:=(ff.trans (o.mono fun z _ h=>hC z h)).trans (e2.mono fun z _ h=>hC z h);have el:∀a b,0<aH w a->0<aH w b->a≠x->b≠x->aU (w.put x (y.1,k,s)) a b=aU w a b:=fun a b ha U wA I=>du hx _ ha U wA I;have ex:∀b,0<aH w b->b≠x->aU w x b=true->aU (w.put x (y.1,k,s)) x b=true:=fun b U I h=>xV f A lU U I h;have P:aH w x<tops.length:=by
  have:=((m.cells.hm x).2 FZ).2;have:=l.tl;omega
 obtain⟨Q,lt,o2,q,Dx,JH,JI⟩:=F.ed;have M:=F.cS q (ce (tops:=tops) (h:=aH w x) O P);rw[t];refine v1 (ae o2) ?_;refine⟨O,?_⟩;refine v4 (ae q) ak7 ala M ?_;refine ai.dec (fun gt=>?_) (fun gt=>?_)<;>refine vs ?_
 ·have hu:au x= -1:=by
   have:=(l.t.tp.t1 (aH w x) O).2.2;grind
  refine .inr ⟨x9,rfl,y,A,br.same ⟨B,C,L,tops,ch,au,rfl,F,⟨?_,l.pl,l.tl⟩,e⟩ yZ⟩;rw[t];exact l.t.QS hu el ex
 obtain⟨p,l1,l2,hp⟩:=l.below FZ gt;have N:=(l.t.off hp).low el ex;refine(oq F (ar w) (by rw[t];exact l.t.pr) l.pl hp).mono ?_;rintro _ H4 ⟨E,j,p4,e4⟩;have Fl:aj S H H4:=yZ.trans (e4.mono Z);rw[<-t]at N;have P:aH (w.put x (y.1,k,s)) x<tops.length:=by rw[t];exact P
 have Nl:=N.g0;refine vs ?_;generalize hg:aH (w.put x (y.1,k,s)) x=g at*;rw[<-t,hg];obtain⟨Q,lt,d,q,Dx,JH,JI⟩:=j.ed;have M:=j.cS q (ce (tops:=tops) (h:=g) O P);refine di.intro (fun J=>J.own B.n=some [ptr B.c,.slice (some ⟨B.tb,0,none⟩) E.length E.length,.slice (some ⟨B.tp,0,none⟩) tops.length Q]) d ?_;refine vs ?_;refine bG.intro (.slice (some ⟨B.tp,0,none⟩) tops.length Q) (fun J hI=>by refine v1 (ae hI) ?_;trivial) ?_;refine v1 (ae d) ?_;refine And.intro d ?_;refine vs ?_;refine⟨⟨O,O⟩,?_⟩;refine v4 (ae q) ak7 ala M ?_;refine And.intro d ?_;refine vs ?_;have X:=N.w;rw[show ws [aO tops g,x]=ws [aO tops g,x]++[] by simp]at X;refine(cM j X p4).mono ?_;rintro _ H5 ⟨r,L5,Wt,NA,rfl,_,m5,w5,p5,u⟩;rw[alE]at w5;have bn:=N.done w5;obtain⟨d1,d2,d3⟩:=j.k9;have no:¬ (C B.n\/B.n=B.tb):=by rintro(h|h);exact j.out.1 h;omega
 refine And.intro (u.own d no) ?_;have q4:=u.own q (by cases j;grind);refine vs ?_;refine⟨O,?_⟩;refine v3 q4 ak7 ala ?_;refine⟨O,?_⟩;obtain⟨m6,e6⟩:=m5.fH q4 g.toNat r;refine And.intro (e6.own (u.own d no) d2) ?_;refine vs ?_;refine .inr ⟨x9,rfl,y,A,br.same ⟨B,C,L5,_,Wt,NA,rfl,m6,⟨?_,p5,by rw[alb];exact l.tl⟩,e⟩ ((Fl.trans (u.mono Z)).trans (e6.mono Z))⟩;grind [dJ]
theorem kL{n:Nat}{H:Hp}{S:Nat->Prop}{w:Nw}(h:dA n H S w)(x:Int):aD 423 [ptr n,i64 x] H fun v J=>ak (
  (¬cu w.cs x/\v= .bool false/\br (dA n) S H J w)\/(cu w.cs x/\v= .bool true/\br (dA n) S H J (w.put x (0,0,0)))):=by
 obtain⟨B,C,L,tops,ch,au,rfl,m,l,G⟩:=id h;have hC:∀z,C z->S z:=fun z h=>(G z).2 (.inl h);have t1:S B.tb:=(G _).2 (.inr (.inr (.inl rfl)));have t2:S B.tp:=(G _).2 (.inr (.inr (.inr rfl)));obtain⟨tv,o0,_⟩:=m.own;refine aL qG ?_;refine v1 (ae o0) ?_;refine(bC m.cells x).mono ?_;rintro _ H1 (⟨F,rfl,rfl⟩| ⟨K,rfl,c1,e1⟩)
 ·refine vs ?_;exact .inl ⟨F,rfl,br.same h (aj.refl _ _)⟩
 have N:=m.aE c1 e1 rfl;have j:=bf.2 K;obtain⟨j4,ED,_⟩:=aI j;have QJ:x≠ -1:=O;have ls:=ar w;have j1:=fun y=>dT (w:=w) ⟨j4,ED⟩ (0,0,0) y;have p0:aH (w.put x (0,0,0)) (-1)=0:=rfl;have p1:aH (w.put x (0,0,0)) x=0:=Z;have p2:∀y,y≠x->aH (w.put x (0,0,0)) y=aH w y:=Z;have el:∀a b,0<aH w a->0<aH w b->a≠x->b≠x->aU (w.put x (0,0,0)) a b=aU w a b:=fun a b ha hb wA zS=>du ⟨j4,ED⟩ _ ha hb wA zS;have tC:(w.put x (0,0,0)).cs.length=w.cs.length:=by simp[Nw.put]
 have D:aH w x<tops.length:=by
  have:=((m.cells.hm x).2 j).2;have:=l.tl;omega
 have e11:aj S H H1:=e1.mono fun z _ h=>hC z h;obtain⟨U,lt,o1,u,Dx,JH,JI⟩:=N.ed;have q3:=N.cS u (ce (tops:=tops) (h:=aH w x) O D);obtain⟨d1,d2,d3⟩:=N.k9;have no:¬ (C B.n\/B.n=B.tb):=by rintro(h|h);exact N.out.1 h;omega
 have Yj:¬ (C B.tp\/B.tp=B.tb):=by rintro(h|h);exact N.out.2.2 h;omega
 refine v1 (ae o1) ?_;refine⟨O,?_⟩;refine v4 (ae u) ak7 ala q3 ?_;refine ai.dec (fun gt=>?_) (fun gt=>?_)<;>refine vs ?_
 ·have hu:au x= -1:=by
   have:=(l.t.tp.t1 (aH w x) O).2.2;grind
  refine di.intro (fun J=>J.own B.n=some [ptr B.c,.slice (some ⟨B.tb,0,none⟩) L.length L.length,.slice (some ⟨B.tp,0,none⟩) tops.length U]) o1 ?_;refine vs ?_;refine bG.intro (.slice (some ⟨B.tp,0,none⟩) tops.length U) (fun J hI=>by refine v1 (ae hI) ?_;trivial) ?_;refine vs ?_;refine(iX N l.t.pr l.pl j).mono ?_;rintro _ H2 ⟨r,L2,BH,gG,rfl,M,pl2,w2,I⟩;refine And.intro (I.own o1 no) ?_;have P:=I.own u Yj;refine vs ?_;refine⟨O,?_⟩;refine v3 P ak7 ala ?_;refine⟨O,?_⟩;obtain⟨f,e⟩:=M.fH P (aH w x).toNat r;refine And.intro (e.own (I.own o1 no) d2) ?_;obtain⟨TS,o3,_⟩:=f.own;refine v1 (ae o3) ?_;refine(bZ f.cells x).mono ?_;rintro _ H4 (⟨F,_,_⟩| ⟨_,rfl,c4,g⟩)
  ·exact absurd K F
  have m4:=f.aE c4 g tC;refine vs ?_;have E:=w2.drop (x:=x) ⟨j,hu⟩ (by rw[w2.fr x ⟨j,hu⟩];unfold ay;grind) ((w2.wY x j).2 O) p0 p1 p2 el;refine .inr ⟨K,rfl,br.same ⟨B,C,L2,_,BH,gG,rfl,m4,⟨?_,pl2,by rw[alb];exact l.tl⟩,G⟩ (((e11.trans (I.mono Z)).trans (e.mono Z)).trans (g.mono fun z _ h=>hC z h))⟩;rw[dJ O D];refine⟨E.pr,E.done (fun h ny hh=>?_) (fun y hy=>?_)⟩
  ·obtain⟨g1,g2,g3⟩:=l.t.tp.t1 h hh;grind
  ·have h5:=l.t.tp.t2 y hy.1.1 hy.1.2;grind
 obtain⟨p,l1,l2,hp⟩:=l.below j gt;have q:=l.t.off hp;refine(oq N ls l.t.pr l.pl hp).mono ?_;rintro _ H2 ⟨L2,M,pl2,I⟩;have yZ:aj S H H2:=e11.trans (I.mono Z);have hu:=q.ox.2.2;obtain⟨U,lt,d,u,Dx,JH,JI⟩:=M.ed;have q3:=M.cS u (ce (tops:=tops) (h:=aH w x) O D);refine vs ?_;refine di.intro (fun J=>J.own B.n=some [ptr B.c,.slice (some ⟨B.tb,0,none⟩) L2.length L2.length,.slice (some ⟨B.tp,0,none⟩) tops.length U]) d ?_;refine vs ?_;refine bG.intro (.slice (some ⟨B.tp,0,none⟩) tops.length U) (fun J hI=>by refine v1 (ae hI) ?_;trivial) ?_;refine vs ?_;refine bG.intro (.slice (some ⟨B.tp,0,none⟩) tops.length U) (fun J hI=>by refine v1 (ae hI) ?_;trivial) ?_;refine vs ?_;refine⟨O,?_⟩;refine vs ?_;refine ry.intro ?_ ?_
 ·refine v4 (ae u) ak7 ala q3 ?_;refine And.intro d ?_;refine vs ?_;refine(iX M q.pr pl2 j).mono ?_;rintro _ H3 ⟨r,L3,ch3,Af,rfl,f,Ws,E,e⟩;refine And.intro (e.own d no) ?_;have P:=e.own u Yj;refine vs ?_;have w4:=E.lq (t:=aO tops (aH w x)) (fun hh=>by
   cases q;grind)
  rw[<-mv,show ws [aO tops (aH w x),r]=ws [aO tops (aH w x),r]++[] by simp]at w4;refine(cM f w4 Ws).mono ?_;rintro _ H4 ⟨r2,L4,RM,DQ,rfl,_,m4,o,Uv,g⟩;rw[alE]at o;refine And.intro (g.own (e.own d no) no) ?_;have q5:=g.own P Yj;refine vs ?_;refine⟨O,?_⟩;refine v3 q5 ak7 ala ?_;refine⟨O,?_⟩;obtain⟨Q,X⟩:=m4.fH q5 (aH w x).toNat r2;refine And.intro (X.own (g.own (e.own d no) no) d2) ?_;obtain⟨tv5,o5,_⟩:=Q.own;refine v1 (ae o5) ?_;refine(bZ Q.cells x).mono ?_;rintro _ H6 (⟨F,_,_⟩| ⟨_,rfl,c6,e6⟩)
  ·exact absurd K F
  have m6:=Q.aE c6 e6 tC;refine vs ?_;have A:(0<aH w x/\aM au x (-1) x= -1)/\x≠aO tops (aH w x):=O;have Oy:ay (ay ch p (l1++l2)) x [] x=[]:=by unfold ay;grind
  have w6:=o.drop (x:=x) A (by rw[o.fr x A];exact Oy) ((o.wY x j).2 (.inr A)) p0 p1 p2 el;refine .inr ⟨K,rfl,br.same ⟨B,C,L4,_,RM,DQ,rfl,m6,⟨?_,Uv,by rw[alb];exact l.tl⟩,G⟩ ((((yZ.trans (e.mono Z)).trans (g.mono Z)).trans (X.mono Z)).trans (e6.mono fun z _ h=>hC z h))⟩;rw[dJ O D];refine⟨w6.pr,w6.done (fun h ny hh=>?_) (fun y hy=>?_)⟩
  ·cases q;grind
  cases q;grind
 ·refine vs ?_;refine(iX M q.pr pl2 j).mono ?_;rintro _ H3 ⟨r,L3,ch3,Af,rfl,f,Ws,E,e⟩;refine And.intro (e.own d no) ?_;have P:=e.own u Yj;refine vs ?_;have q6:=f.cS P (ce (tops:=tops) (h:=aH w x) O D);refine v4 (ae P) ak7 ala q6 ?_;refine And.intro (e.own d no) ?_;refine vs ?_;have w4:=E.lq (t:=aO tops (aH w x)) (fun hh=>by
   cases q;grind)
  rw[<-mv,show ws [aO tops (aH w x),r]=ws [aO tops (aH w x),r]++[] by simp]at w4;refine(cM f w4 Ws).mono ?_;rintro _ H4 ⟨r2,L4,RM,DQ,rfl,_,m4,o,Uv,g⟩;rw[alE]at o;refine And.intro (g.own (e.own d no) no) ?_;have q5:=g.own P Yj;refine vs ?_;refine⟨O,?_⟩;refine v3 q5 ak7 ala ?_;refine⟨O,?_⟩;obtain⟨Q,X⟩:=m4.fH q5 (aH w x).toNat r2;refine And.intro (X.own (g.own (e.own d no) no) d2) ?_;obtain⟨tv5,o5,_⟩:=Q.own;refine v1 (ae o5) ?_;refine(bZ Q.cells x).mono ?_;rintro _ H6 (⟨F,_,_⟩| ⟨_,rfl,c6,e6⟩)
  ·exact absurd K F
  have m6:=Q.aE c6 e6 tC;refine vs ?_;have A:(0<aH w x/\aM au x (-1) x= -1)/\x≠aO tops (aH w x):=O;have Oy:ay (ay ch p (l1++l2)) x [] x=[]:=by unfold ay;grind
  have w6:=o.drop (x:=x) A (by rw[o.fr x A];exact Oy) ((o.wY x j).2 (.inr A)) p0 p1 p2 el;refine .inr ⟨K,rfl,br.same ⟨B,C,L4,_,RM,DQ,rfl,m6,⟨?_,Uv,by rw[alb];exact l.tl⟩,G⟩ ((((yZ.trans (e.mono Z)).trans (g.mono Z)).trans (X.mono Z)).trans (e6.mono fun z _ h=>hC z h))⟩;rw[dJ O D];refine⟨w6.pr,w6.done (fun h ny hh=>?_) (fun y hy=>?_)⟩
  ·cases q;grind
  cases q;grind
theorem sN{n:Nat}{H:Hp}{S:Nat->Prop}{w:Nw}(h:dA n H S w)(g:Int):aD 424 [ptr n,i64 g] H fun v J=>ak (
  (w.len g=0/\v= .tuple [i64 0,.bool false].toArray/\br (dA n) S H J w)\/(∃x,w.first g x/\v= .tuple [i64 x,.bool true].toArray/\br (dA n) S H J (w.put x (0,0,0)))):=by
 refine aL pe ?_;refine vs ?_;refine(ot h g).mono ?_;rintro _ _ ⟨⟨m,rfl⟩| ⟨x,z,rfl⟩,rfl⟩
 ·refine vs ?_;exact .inl ⟨m,rfl,br.same h (aj.refl _ _)⟩
 ·refine vs ?_;refine(kL h x).mono ?_;rintro _ t (⟨y,_,_⟩| ⟨_,rfl,e⟩)
  ·exact absurd (bf.1 (by have:=bh.1 z;omega)) y
  refine vs ?_;exact .inr ⟨x,z,rfl,e⟩
theorem HM(n:Nat):qq (.iface 173 (ptr n)) (dA n) where
 slt h:=h.slt
 ext h e hd:=h.ext e hd
 cells:=by
  rintro H S w ⟨B,C,L,tops,ch,au,rfl,m,l,r⟩;exact⟨B.c,C,m.cells⟩
 has:=by
  rintro H S w g ⟨B,C,L,tops,ch,au,rfl,m,l,r⟩;obtain⟨d,j,_⟩:=m.own;exact⟨_,_,353,ptr B.c,rfl,cz (off:=0) Y (ae j) rfl,(ii m.cells g).mono fun v J y=>y⟩
 make:=by
  intro H S w h;exact⟨_,_,426,ptr n,rfl,aZ Y,(ys h).mono fun v J y=>y⟩
 insert:=by
  intro H S w g x k s h;exact⟨_,_,425,ptr n,rfl,aZ Y,(uC h g x k s).mono fun v J y=>y⟩
 min:=by
  intro H S w g h;refine⟨_,_,428,ptr n,rfl,aZ Y,(ot h g).mono ?_⟩;rintro v J ⟨⟨t,rfl⟩| ⟨x,t,rfl⟩,rfl⟩
  ·exact .inl ⟨t,rfl,br.same h (aj.refl _ _)⟩
  ·exact .inr ⟨x,t,rfl,br.same h (aj.refl _ _)⟩
 extract:=by
  intro H S w g h;exact⟨_,_,424,ptr n,rfl,aZ Y,(sN h g).mono fun v J y=>y⟩
 jZ:=by
  intro H S w x k s h;exact⟨_,_,422,ptr n,rfl,aZ Y,(qS h x k s).mono fun v J y=>y⟩
 entry:=by
  rintro H S w x ⟨B,C,L,tops,ch,au,rfl,m,l,r⟩;obtain⟨d,j,_⟩:=m.own;refine⟨_,_,351,ptr B.c,rfl,cz (off:=0) Y (ae j) rfl,(gI m.cells x).mono ?_⟩;rintro v J ⟨p,f,o⟩;exact⟨⟨B,C,L,tops,ch,au,rfl,m.fresh f,l,r⟩,f,o⟩
 len:=by
  rintro H S w g ⟨B,C,L,tops,ch,au,rfl,m,l,r⟩;obtain⟨d,j,_⟩:=m.own;exact⟨_,_,356,ptr B.c,rfl,cz (off:=0) Y (ae j) rfl,(eU m.cells g).mono fun v J y=>y⟩
 home:=by
  rintro H S w x h;obtain⟨B,C,L,tops,ch,au,rfl,m,l,r⟩:=id h;obtain⟨d,j,_⟩:=m.own;refine⟨_,_,354,ptr B.c,rfl,cz (off:=0) Y (ae j) rfl,(bC m.cells x).mono ?_⟩;rintro v J (⟨t,rfl,rfl⟩| ⟨t,rfl,p,q⟩)
  ·exact .inl ⟨t,rfl,br.same h (aj.refl _ _)⟩
  ·exact .inr ⟨t,rfl,br.same ⟨B,C,L,tops,ch,au,rfl,m.aE p q rfl,l,r⟩ (q.mono fun z _ u=>(r z).2 (.inl u))⟩
 delete:=by
  intro H S w x h;exact⟨_,_,423,ptr n,rfl,aZ Y,(kL h x).mono fun v J y=>y⟩
 vl:=by
  intro H S w a b h;exact⟨_,_,427,ptr n,rfl,aZ Y,(yt h a b).mono fun v J y=>y⟩
section
variable {H J : Hp} {ro ro' : Nat → Rl} {fb tb n : Nat} {l : List Value} {V : Int → Value} {ch : Int → List Int} {au : Int → Int} {kb : Int → Option Nat} {T : Nat → Prop}
theorem sO(m:ForM H ro fb tb n l V ch au kb){a:Option Addr}{c:Nat}{xs:List Int}(h:bD H 1 (.slice a xs.length c) xs.length (xs.map i64))(K:∀x∈xs,(0<=x/\x<n)/\au x= -1)(p:B8 ch xs)(hm:xs.length<=1000000):
  aD 416 [ptr fb,.slice a xs.length c] H fun v J=>ak (v= .bool true/\J=H):=by
 refine aL vX ?_;refine vs ?_;refine ba.intro (fun m env J=>J=H/\∃j:Nat,m=xs.length - j/\j<=xs.length/\env=[(0,ptr fb),(1,.slice a xs.length c),(7,.slice a xs.length c),(8,i64 xs.length),(9,i64 j)]) xs.length Z ?_;rintro mm env I ⟨r,j,rfl,D,rfl⟩;obtain rfl:=r.symm;refine vs ?_;refine ai.dec (fun A=>?_) (fun A=>?_)<;>refine vs ?_
 ·have L:j<xs.length:=O;obtain⟨x,z⟩:∃x,xs[j]? =some x:=⟨_,ak9 L⟩;obtain⟨_,b,o,lb,rfl,F,u⟩:=bD.num h z;obtain⟨Q,U⟩:=K x Z;refine⟨O,?_⟩;refine v4 F Int.toNat_natCast ala u ?_;refine(gT m.t x).mono ?_;rintro _ J ⟨rfl,e⟩;obtain rfl:=e.symm;rw[ale Q,ale U];refine vs ?_;refine ai.dec (fun d=>?_) (fun d=>?_)
  ·obtain⟨k,rfl⟩:∃k,j=k+1:=⟨j - 1,O⟩;obtain⟨y,g⟩:∃y,xs[k]? =some y:=Z;obtain⟨_,b',X,E,t,N,P⟩:=bD.num h g;injection t with t;injection t with q f;subst q f;have M:(ch y).length< (ch x).length:=by
    have:=List.pairwise_iff_getElem.1 p k (k+1) O O O;rw[ak9 O]at z g;injection z with z;injection g with g;rw[z,g]at this;exact this
   refine vs ?_;rw[wrap64 (n:=((k+1:Nat):Int) - 1) O O,show((k+1:Nat):Int) - 1=(k:Int) by omega];refine⟨O,?_⟩;refine v4 N Int.toNat_natCast ala P ?_;refine(dD m y).mono ?_;rintro _ J ⟨rfl,e⟩;obtain rfl:=e.symm;refine vs ?_;refine(dD m x).mono ?_;rintro _ J ⟨rfl,e⟩;obtain rfl:=e.symm;refine vs ?_;refine ai.dec (fun G=>O) (fun _=>?_);refine vs ?_;rw[wrap64 (n:=((k+1:Nat):Int)+1) O O];exact⟨xs.length - (k+1+1),O,trivial,k+1+1,rfl,O,rfl⟩
  ·refine vs ?_;rw[wrap64 (n:=(j:Int)+1) O O];exact⟨xs.length - (j+1),O,trivial,j+1,rfl,O,rfl⟩
 ·exact⟨rfl,rfl⟩
theorem ou(t:lO H fb tb n l V au)(K:0<=x/\x<n){r:Value}{m:Nat}{ks:List Int}{fp:Option Nat}(s:Sl H 1 r m (ks.map i64) fp)(G:fp≠some tb)(u:∀k∈ks,0<=k/\k<n)(M:ks.length<=1000000):
  aD 414 [ptr fb,i64 x,r] H fun v J=>ak (∃l',lO J fb tb n l' (su V x r) (fun z=>if z∈ks then x else au z)/\aj (fun z=>z=tb) H J):=by
 obtain rfl:m=ks.length:=by
  have:=s.1;grind
 obtain⟨e,g,rfl⟩:=Sl.shape s;have wT:=t.len;refine aL rV ?_;refine v1 (ae t.own) ?_;refine⟨O,?_⟩;refine v3 t.sA ak7 Nat.add_zero ?_;refine⟨O,?_⟩;obtain⟨q,d⟩:=t.su K (.slice e ks.length g);refine vs ?_;have s1:=s.ext d Z;have E:=q.len;generalize H.wr tb (l.set (x.toNat*2) (.slice e ks.length g))=o at*;refine ba.intro (fun mm env J=>∃ (j:Nat) (l':List Value),mm=ks.length - j/\j<=ks.length/\lO J fb tb n l' (su V x (.slice e ks.length g)) (fun z=>if z∈ks.take j then x else au z)/\aj (fun z=>z=tb) o J/\
  env=[(0,ptr fb),(1,i64 x),(16,.slice e ks.length g),(17,i64 ks.length),(18,i64 j)]) ks.length ⟨0,_,O,O,by simpa using q,aj.refl _ _,rfl⟩ ?_
 rintro mm env I ⟨j,l2,rfl,D,h,y,rfl⟩;have Q:=s1.ext y Z;have X:=h.len;refine vs ?_;refine ai.dec (fun A=>?_) (fun A=>?_)<;>refine vs ?_
 ·have P:j<ks.length:=O;obtain⟨k,p⟩:∃k,ks[j]? =some k:=⟨_,ak9 P⟩;obtain⟨_,b,lb,rfl,F,N⟩:=Sl.wx Q p;have L:=u k Z;refine⟨O,?_⟩;refine v6 (ae F) ak7 ala Int.toNat_natCast N (ae h.own) ?_;refine⟨O,?_⟩;refine v3 h.sA ak7 Nat.add_zero ?_;refine⟨O,?_⟩;obtain⟨t3,f⟩:=h.aM L x;refine vs ?_;rw[wrap64 (n:=(j:Int)+1) O O];refine⟨ks.length - (j+1),O,j+1,l2.set (k.toNat*2+1) (i64 x),rfl,O,?_,y.trans f,rfl⟩;have U:ks.take (j+1)=ks.take j++[k]:=by rw[alq,p];rfl
  have:(fun z=>if z∈ks.take (j+1)then x else au z)=aM (fun z=>if z∈ks.take j then x else au z) k x:=by
   funext z;unfold aM;rw[U];by_cases hz:z=k
   ·grind
   ·grind
  grind
 ·obtain rfl:j=ks.length:=O;rw[alx]at h;exact⟨l2,h,d.trans y⟩
theorem RK.kbs{s:Nat}(r:RK s ro ro'){z:Nat}(m:z<s)(h:KB ro' z):KB ro z:=by
 rcases h with h| ⟨x,h⟩
 ·refine .inl ?_;cases r;grind
 ·refine .inr ?_;cases r;grind
theorem Ai(m:ForM H ro fb tb n l V ch au kb)(u:∀z,H.size<=z->ro z= .no)(g:0<=x/\x<n)(X:au x= -1)(hl:(ch x).length<=65536):
  aD 411 [ptr fb,i64 x] H fun v J=>ak (∃ro' l' N M fp,ForM J ro' fb tb n l' N (ay ch x []) (fh ch au x) M/\RK H.size ro ro'/\(∀z,J.size<=z->ro' z= .no)/\aj (KB ro) H J/\
   Sl J 1 v (ch x).length ((ch x).map i64) fp/\∀b,fp=some b->H.size<=b/\ro' b= .no):=by
 have ht:=m.t.len;obtain⟨a1,a2⟩:=m.t.at_ x g.1 g.2;have d:=m.kd x g.1 g.2;obtain⟨P,A,D⟩:=Sl.shape d;rw[D]at a1 d;refine aL rT ?_;refine vs ?_;refine(gT m.t x).mono ?_;rintro _ J ⟨rfl,e⟩;obtain rfl:=e.symm;rw[ale g,ale X];refine v1 (ae m.t.own) ?_;refine⟨O,?_⟩;refine v5 (ae m.t.own) (ae m.t.sA) ak7 Nat.add_zero a1 ?_;refine⟨O,?_⟩;refine v3 m.t.sA ak7 Nat.add_zero ?_;refine⟨O,?_⟩;obtain⟨p,L,E,r1,n1,q⟩:=m.put u g (aj.refl _ H) (Sl.nil H 1) (w':=.slice none 0 0) (L':=[]) (.inr (.inl rfl)) (by simp);refine vs ?_;have ahz:∀b,kb x=some b->b≠tb:=fun b U e=>by
  have:=m.rk x b g.1 g.2 U;rw[e,m.rt]at this;grind
 have s1:=d.ext (m.t.su g (.slice none 0 0)).2 O;generalize H.wr tb (l.set (x.toNat*2) (.slice none 0 0))=F at*;refine ba.intro (fun mm env J=>∃ (j:Nat) (l':List Value),mm=(ch x).length - j/\j<=(ch x).length/\ForM J p fb tb n l' (su V x (.slice none 0 0)) (ay ch x []) (fun z=>if z∈(ch x).take j then -1 else au z) L/\aj (fun z=>z=tb) F J/\
  env=[(0,ptr fb),(5,.slice P (ch x).length A),(27,.slice P (ch x).length A),(28,i64 (ch x).length),(29,i64 j)]) (ch x).length ⟨0,_,O,O,by simpa using E,aj.refl _ _,rfl⟩ ?_
 rintro mm env H2 ⟨j,l2,rfl,hj,y,t,rfl⟩;have K:=s1.ext t O;have Oe:=y.t.len;have hrt:p tb= .table:=y.rt;refine vs ?_;refine ai.dec (fun G=>?_) (fun G=>?_)<;>refine vs ?_
 ·have I:j< (ch x).length:=O;obtain⟨k,o⟩:∃k,(ch x)[j]? =some k:=⟨_,ak9 I⟩;obtain⟨_,b,lb,rfl,q2,q3⟩:=Sl.wx K o;have f:=m.EE x k Z;refine⟨O,?_⟩;refine v6 (ae q2) ak7 ala Int.toNat_natCast q3 (ae y.t.own) ?_;refine⟨O,?_⟩;refine v3 y.t.sA ak7 Nat.add_zero ?_;refine⟨O,?_⟩;obtain⟨m3,_⟩:=y.aM f (-1);obtain⟨_,Q⟩:=y.t.aM f (-1);refine vs ?_;rw[wrap64 (n:=(j:Int)+1) O O];refine⟨(ch x).length - (j+1),O,j+1,l2.set (k.toNat*2+1) (i64 (-1)),rfl,O,?_,t.trans Q,rfl⟩;have tk:(ch x).take (j+1)=(ch x).take j++[k]:=by rw[alq,o];rfl
  have:(fun z=>if z∈(ch x).take (j+1)then(-1:Int)else au z)=aM (fun z=>if z∈(ch x).take j then -1 else au z) k (-1):=by
   funext z;unfold aM;rw[tk];by_cases u:z=k
   ·grind
   ·grind
  grind
 ·obtain rfl:j=(ch x).length:=O;rw[alx]at y;refine(mE K.rd O).mono ?_;rintro v H3 ⟨r,fp,s3,ww⟩;have z2:=t.size;have z1:=q.size;have z3:=r.size;refine vs ?_;refine⟨p,l2,_,L,fp,y.fresh r,r1,Z,?_,s3,Z⟩;exact(q.trans (t.mono fun z Kj h=>.inl (by rw[h];exact m.rt))).trans (r.mono fun _ _ h=>h.elim)
def kM(j k:Nat):List Value:=(List.replicate j [Value.slice none 0 0,Value.int .i64 (-1)]).flatten++(List.replicate k [Value.slice none 0 0,Value.int .i64 0]).flatten
theorem Gu(j:Nat)(a b:Value):((List.replicate j [a,b]).flatten).length=j*2:=by
 simp_all
theorem PE{j i:Nat}(a b:Value)(hi:i<j):((List.replicate j [a,b]).flatten)[i*2]? =some a/\((List.replicate j [a,b]).flatten)[i*2+1]? =some b:=by
 induction j generalizing i with
 |zero=>omega
 |succ j x=>
  rw[alZ,amw];cases i with
  |zero=>grind
  |succ i=>
   grind
theorem NB(j k:Nat):(kM j k).length=(j+k)*2:=by grind [kM,Gu]
theorem NC(j k:Nat):(kM j (k+1)).set (j*2+1) (Value.int .i64 (-1))=kM (j+1) k:=by
 unfold kM;rw[amD _ _ (by simp_all),Gu,show j*2+1 - j*2=1 by omega,alZ,amw,amG,List.flatten_append];simp
theorem DR(H:Hp){n:Int}(K:0<=n/\n<=65536):aD 149 [i64 n] H fun v J=>ak (∃fb tb l,v= .tuple [ptr fb,i64 0].toArray/\lO J fb tb n.toNat l (fun _=>.slice none 0 0) (fun _=> -1)/\af H J/\H.size<=fb/\H.size<=tb):=by
 refine aL Jg ?_;refine vs ?_;refine ai.dec (fun g=>absurd g O) (fun _=>?_);refine vs ?_;refine ai.dec (fun g=>absurd g O) (fun _=>?_);refine vs ?_;refine⟨O,?_⟩;refine vs ?_;rw[show dm [Value.slice none 0 0,Value.int .i64 0] n.toNat=kM 0 n.toNat from rfl];obtain⟨N,p⟩:∃N:Nat,n=(N:Int):=⟨n.toNat,O⟩;subst p;rw[Int.toNat_natCast];have d:af H ((H.new 326 (kM 0 N)).new 324 [.slice (some ⟨H.size,0,none⟩) N N]):=bm.new _ _;have f:((H.new 326 (kM 0 N)).new 324 [.slice (some ⟨H.size,0,none⟩) N N]).own (H.size+1)=some [.slice (some ⟨H.size,0,none⟩) N N]:=az (by simp only[ag]);have u:((H.new 326 (kM 0 N)).new 324 [.slice (some ⟨H.size,0,none⟩) N N]).own H.size=some (kM 0 N):=by
  rw[ax (by simp only[ag];omega),am]
 generalize (H.new 326 (kM 0 N)).new 324 [.slice (some ⟨H.size,0,none⟩) N N]=H0 at*;refine ba.intro (fun m env J=>∃j:Nat,m=N - j/\j<=N/\aj (fun z=>z=H.size) H0 J/\J.own H.size=some (kM j (N - j))/\
  env=[(4,ptr (H.size+1)),(20,i64 N),(21,i64 j)]) N ⟨0,O,O,aj.refl _ _,u,rfl⟩ ?_
 rintro m env h ⟨j,rfl,L,e,y,rfl⟩;have t:=e.own f O;have A:=NB j (N - j);refine vs ?_;refine ai.dec (fun q=>?_) (fun q=>?_)<;>refine vs ?_
 ·refine v1 (ae t) ?_;refine⟨O,?_⟩;refine v4 y ak7 Nat.add_zero Int.toNat_natCast ?_;refine⟨O,?_⟩;refine vs ?_;have r:aj (fun z=>z=H.size) h (h.wr H.size ((kM j (N - j)).set (j*2+1) (Value.int .i64 (-1)))):=(aj.refl (fun z=>z=H.size) _).wr (fun _=>rfl) _;have o:(h.wr H.size ((kM j (N - j)).set (j*2+1) (Value.int .i64 (-1)))).own H.size=some ((kM j (N - j)).set (j*2+1) (Value.int .i64 (-1))):=ah y;rw[wrap64 (n:=(j:Int)+1) O O];refine⟨N - (j+1),O,j+1,rfl,O,e.trans r,?_,rfl⟩;rw[o,show N - j=(N - (j+1))+1 by omega,NC]
 ·obtain rfl:j=N:=O;refine⟨H.size+1,H.size,_,rfl,⟨t,y,O,fun x P F=>?_,O⟩,d.then e O,O,O⟩;unfold kM;rw[amM,List.replicate_zero,List.flatten_nil,alE];exact PE _ _ O
end
end
theorem HN:∀ {l:List Int} {i:Nat} {x p:Int},l.Nodup->p∉l->l[i]? =some x->l.set i p=l.map (fY x p):=by
 intro l;induction l with
 |nil=>grind
 |cons a r y=>
  intro i x p z e h;have m:=alo.1 z;have g:p∉r:=Z;cases i with
  |zero=>
   grind [nB,xa]
  |succ i=>
   grind [jJ]
def HO(x p:Int):Rl->Rl
 | .re y=>.re (fY x p y)
 |r=>r
section
variable {H J : Hp} {ro ro' : Nat → Rl} {fb tb n : Nat} {l : List Value} {V : Int → Value} {ch : Int → List Int} {au : Int → Int} {kb : Int → Option Nat} {T : Nat → Prop}
variable {hm : Int → Int} {lt : Int → Int → Bool} {rows : Int → List Int} {W : List Int}
theorem Sl.RN{H:Hp}{v:Value}{m:Nat}{xs:List Int}{fp:Option Nat}(s:Sl H 1 v m (xs.map i64) fp){i:Nat}{x:Int}(z:xs[i]? =some x):∃b lb c,v= .slice (some ⟨b,0,none⟩) m c/\fp=some b/\H.own b=some lb/\lb[i]? =some (i64 x)/\i<m/\m<=lb.length/\m=xs.length:=by
 obtain⟨a,c,rfl⟩:=Sl.shape s;have h:=s.1;rw[alA,ala]at h;obtain⟨e,b,lb,rfl,d,p⟩:=Sl.wx s z;cases fp with
 |none=>have:=s.2.2;grind
 |some b'=>
  obtain⟨_,j,c',r,t,g,y,_⟩:=s;grind
theorem lO.acx{H:Hp}{fb tb n:Nat}{l:List Value}{V z:Int->Value}{U U':Int->Int}(t:lO H fb tb n l V U)(h:∀x:Int,0<=x->x<n->z x=V x/\U' x=U x):lO H fb tb n l z U':=
 ⟨t.own,t.sA,t.len,fun x m e=>by obtain⟨g,y⟩:=h x m e;rw[g,y];exact t.at_ x m e,t.ne⟩
theorem BI(m:ForM H ro fb tb n l V ch au kb)(hz:∀z,H.size<=z->ro z= .no)(w:gX hm lt ch au rows W){x p:Int}(o:0<=x/\x<n)(L:0<=p/\p<n)(U:x∈ch p)(SX:au p≠ -1->0<=au p/\au p<n)(hn:n<=65536):
  aD 408 [ptr fb,i64 x] H fun v J=>ak (v= .bool true/\∃ro' l' V' wV,ForM J ro' fb tb n l' V' (Co ch x p) (GJ au x p) wV/\RK H.size ro ro'/\(∀z,J.size<=z->ro' z= .no)/\aj (KB ro) H J/\∀z,ro z= .no->ro' z= .no):=by
 obtain⟨F,d2,d3,d4,d5⟩:=w.pr.dn p x U;have iD:=w.less U;have FZ:p≠x:=Z;have npp:p∉ch p:=fun h=>by have:=w.less h;omega
 have npx:p∉ch x:=fun h=>by have:=w.less h;omega
 have nxx:x∉ch x:=fun h=>by have:=w.less h;omega
 have No:∀z,(ch z).length<=n:=fun z=>ck (w.pr.nd z) fun c P=>m.EE z c P;have ahC:=No x;have ahD:=No p;have wT:=m.t.len;obtain⟨x1,x2⟩:=m.t.at_ x o.1 o.2;obtain⟨p1,p2⟩:=m.t.at_ p L.1 L.2;have sx:=m.kd x o.1 o.2;have I:=m.kd p L.1 L.2;obtain⟨oa,oc,hvx⟩:=Sl.shape sx;obtain⟨i,hi,e⟩:=amx.1 U;obtain⟨bp,lp,cp,TU,hkp,qp,qpi,Nd,hpl,_⟩:=Sl.RN I (i:=i) (x:=x) Z;have QM:=m.rk p bp L.1 L.2 hkp;have hbt:bp≠tb:=fun e=>by rw[e,m.rt]at QM;cases QM
 have hbf:bp≠fb:=fun e=>by rw[e,m.rf]at QM;cases QM
 have hkx:∀b,kb x=some b->b≠tb/\b≠bp:=fun b E=>by
  have:=m.rk x b o.1 o.2 E;refine⟨fun e=>(by rw[e,m.rt]at this;grind),fun e=>?_⟩;grind
 rw[hvx]at x1;rw[TU]at p1;refine aL tZ ?_;refine vs ?_;refine(nf m.t o).mono ?_;rintro _ J ⟨⟨h,_⟩| ⟨_,rfl⟩,e⟩
 ·rw[F]at h;exact absurd h d2
 obtain rfl:=e.symm;rw[F];refine v1 (ae m.t.own) ?_;refine⟨O,?_⟩;refine v5 (ae m.t.own) (ae m.t.sA) ak7 Nat.add_zero x1 ?_;refine⟨O,?_⟩;refine v5 (ae m.t.own) (ae m.t.sA) ak7 Nat.add_zero p1 ?_;refine⟨O,?_⟩;refine v5 (ae m.t.own) (ae m.t.sA) ak7 Nat.add_zero p2 ?_;rw[TU]at I;refine(fI I.rd x O).mono ?_;rintro _ J ⟨⟨j,rfl,t⟩,e⟩;obtain rfl:=e.symm;obtain⟨hj0,t⟩:=t.resolve_left (fun h=>h.2 U);obtain⟨k,rfl⟩:∃k:Nat,j=(k:Int):=Z;rw[Int.toNat_natCast]at t;have hkl:=(ak8.1 t).1;refine vs ?_;refine⟨⟨O,O⟩,?_⟩;refine v4 qp ak7 ala Int.toNat_natCast ?_;refine⟨O,?_⟩;refine vs ?_;rw[hkp]at I;have sp1:=I.nG qp k (i64 p);have f:aj (fun z=>z=bp) H (H.wr bp (lp.set k (i64 p))):=(aj.refl (fun z=>z=bp) _).wr (fun _=>rfl) _;rw[<-alD,HN (w.pr.nd p) npp t]at sp1;have t1:=m.t.ext f (Ne.symm hbf) (Ne.symm hbt);have sx1:=sx.ext f Z;generalize H.wr bp (lp.set k (i64 p))=H1 at*;have hlm:((ch p).map (fY x p)).length=(ch p).length:=alA ..
 have pC:∀z,z∈(ch p).map (fY x p)↔(z=p\/(z∈ch p/\z≠x)):=by grind [fY]
 refine(ou t1 o sp1 Z (fun c P=>?_) O).mono ?_
 ·rcases(pC c).1 P with h|h
  ·omega
  ·exact m.EE p c h.1
 rintro _ H2 ⟨l2,t2,g⟩;refine vs ?_;have sx2:=sx1.ext g Z;rw[hvx]at sx2;refine(ou t2 L sx2 Z (fun c P=>m.EE x c P) O).mono ?_;rintro _ H3 ⟨l3,t3,u⟩;have Pb:=t3.len;refine v1 (ae t3.own) ?_;refine⟨O,?_⟩;refine v3 t3.sA ak7 Nat.add_zero ?_;refine⟨O,?_⟩;obtain⟨t4,N⟩:=t3.aM o (au p);refine vs ?_;have Wq:=t4.len;generalize H3.wr tb (l3.set (x.toNat*2+1) (i64 (au p)))=H4 at*;generalize l3.set (x.toNat*2+1) (i64 (au p))=l4 at*;have A:aj (fun z=>z=tb) H1 H4:=(g.trans u).trans N;have Yk:x≠ -1:=w.pr.ne U;have gx:au p≠x:=fun e=>by
  by_cases hq:au p= -1
  ·omega
  ·have:=w.less (w.pr.up p _ rfl hq);grind
 have gpp:au p≠p:=fun e=>by
  have:=w.less (w.pr.up p p e d2);omega
 have G:lO H4 fb tb n l4 (fun z=>V (fY x p z)) (GJ au x p):=by
  refine t4.acx fun z d K=>⟨?_,?_⟩
  ·by_cases r:z=x
   ·rw[r,nB];unfold su;grind
   ·by_cases g:z=p
    ·rw[g,AL];unfold su;grind
    ·rw[jJ r g];unfold su;grind
  ·show fY x p (au (fY x p z))=(if z=x then au p else if z∈ch x then p else if z∈(ch p).map (fY x p)then x else au z);by_cases r:z=x
   ·rw[if_pos r,r,nB,jJ gx gpp]
   ·rw[if_neg r];by_cases g:z=p
    ·rw[g,AL,F,AL,if_neg npx,if_pos Z]
    ·rw[jJ r g];by_cases u:z∈ch x
     ·rw[if_pos u,(w.pr.dn x z u).1,nB]
     ·rw[if_neg u];by_cases N:z∈ch p
      ·rw[if_pos Z,(w.pr.dn p z N).1,AL]
      ·rw[if_neg Z];rw[jJ (fun h=>u (w.pr.up z x h Yk)) (fun h=>N (w.pr.up z p h d2))]
 have hRK:∀H5:Hp,aj (fun z=>z=bp\/z=tb\/kb (au p)=some z/\au p≠ -1) H H5->RK H.size ro (fun z=>HO x p (ro z))/\(∀z,H5.size<=z->HO x p (ro z)= .no)/\aj (KB ro) H H5:=fun H5 Q=>by
  refine⟨⟨fun z Kj hk=>?_,by grind [HO,fY],by grind [HO,fY]⟩,fun z Kj=>?_,Q.mono fun z _ h=>?_⟩
  ·cases hr:ro z with
   |re y=>grind
   |_=>rfl
  ·cases Q;grind [HO]
  ·rcases h with h|h| ⟨h,hq⟩
   ·exact .inr Z
   ·exact .inl (by rw[h];exact m.rt)
   ·obtain⟨d,K⟩:=SX hq;exact .inr ⟨au p,m.rk _ z d K h⟩
 have Yl:∀z:Int,¬ (0<=z/\z<n)->Co ch x p z=[]:=fun z Kj=>by
  unfold Co;rw[jJ O O,m.no z Kj];rfl
 have hrS:∀z:Int,(0<=z/\z<n)->0<=fY x p z/\fY x p z<n:=by grind [fY]
 have SZ:∀z c,c∈Co ch x p z->0<=c/\c<n:=fun z c P=>by
  have:=hrS _ (m.EE _ _ (mw.1 P));rwa[oI]at this
 have hkd:∀z:Int,0<=z->z<n->z≠au p->Sl H4 1 (V (fY x p z)) (Co ch x p z).length ((Co ch x p z).map i64) (kb (fY x p z)):=fun z d K hzg=>by
  by_cases r:z=x
  ·unfold Co;rw[r,nB,hkp,TU];rw[hlm];exact sp1.ext A Z
  ·by_cases g:z=p
   ·unfold Co;rw[g,AL,hvx,xa nxx npx];exact(sx2.ext u Z).ext N Z
   ·unfold Co;rw[jJ r g];have nx:x∉ch z:=fun h=>g (by rw[<- (w.pr.dn z x h).1,F]);have np:p∉ch z:=fun h=>hzg (w.pr.dn z p h).1.symm;rw[xa nx np];refine((m.kd z d K).ext f (fun b E e=>?_)).ext A (fun b E e=>?_)
    ·cases m;grind
    cases m;grind
 have Ym:∀ (z:Int) b,0<=z->z<n->kb (fY x p z)=some b->HO x p (ro b)= .re z:=fun z b d K E=>by
  obtain⟨D,M⟩:=hrS z ⟨d,K⟩;cases m;grind [HO,oI]
 refine ai.dec (fun d=>?_) (fun d=>?_)<;>refine vs ?_
 ·obtain⟨r1,r2,r3⟩:=hRK H4 ((f.mono fun z _ h=>.inl h).trans (A.mono O));refine⟨rfl,_,l4,_,fun z=>kb (fY x p z),⟨G,Z,by rw[m.rf];rfl,by rw[m.rt];rfl,Ym,SZ,Yl⟩,r1,r2,r3,by grind [HO,fY]⟩
 ·obtain⟨D,M⟩:=SX d;have Ol:=w.pr.up p _ rfl d;obtain⟨ig,hig,eg⟩:=amx.1 Ol;have sg:=m.kd (au p) D M;obtain⟨q,lg,cg,hvg,hkg,qg,qgi,ahG,wU,_⟩:=Sl.RN sg (i:=ig) (x:=p) Z;have X:=m.rk _ q D M hkg;have hgt:q≠tb:=fun e=>by rw[e,m.rt]at X;cases X
  have hgb:q≠bp:=Z;have hgf:q≠fb:=fun e=>by rw[e,m.rf]at X;cases X
  obtain⟨a1,a2⟩:=G.at_ _ D M;rw[jJ gx gpp,hvg]at a1;refine v1 (ae G.own) ?_;refine⟨O,?_⟩;refine v4 (ae G.sA) ak7 Nat.add_zero a1 ?_;have qg4:=A.own (f.own qg hgb) hgt;have sg4:Sl H4 1 (.slice (some ⟨q,0,none⟩) (ch (au p)).length cg) (ch (au p)).length ((ch (au p)).map i64) (some q):=by
   rw[hvg,hkg]at sg;exact(sg.ext f Z).ext A Z
  have ahH:=No (au p);refine(fI sg4.rd p O).mono ?_;rintro _ J ⟨⟨j,rfl,t⟩,e⟩;obtain rfl:=e.symm;obtain⟨hj0,t⟩:=t.resolve_left (fun h=>h.2 Ol);obtain⟨k,rfl⟩:∃k:Nat,j=(k:Int):=Z;rw[Int.toNat_natCast]at t;have hkl:=(ak8.1 t).1;refine vs ?_;refine⟨⟨O,O⟩,?_⟩;refine v4 qg4 ak7 ala Int.toNat_natCast ?_;refine⟨O,?_⟩;refine vs ?_;have sg5:=sg4.nG qg4 k (i64 x);have Q:aj (fun z=>z=q) H4 (H4.wr q (lg.set k (i64 x))):=(aj.refl (fun z=>z=q) _).wr (fun _=>rfl) _;have nxg:x∉ch (au p):=fun h=>gpp (by rw[<- (w.pr.dn _ x h).1,F]);have PF:(ch (au p)).map (fY p x)=(ch (au p)).map (fY x p):=al7 (by grind [fY]);rw[<-alD,HN (w.pr.nd _) nxg t,PF]at sg5;obtain⟨r1,r2,r3⟩:=hRK _ (((f.mono fun z _ h=>.inl h).trans (A.mono O)).trans (Q.mono Z));refine⟨rfl,_,l4,_,fun z=>kb (fY x p z),⟨G.ext Q O O,fun z q0 q1=>?_,by rw[m.rf];rfl,by rw[m.rt];rfl,Ym,SZ,Yl⟩,r1,r2,r3,by grind [HO,fY]⟩;by_cases hzg:z=au p
  ·unfold Co;grind [jJ]
  grind [Sl.ext,jJ]
end
def FA(H:Hp)(v:Value)(xs:List Int)(nb:Option Nat):Prop:=
 ∃a c,v= .slice a xs.length c/\xs.length<=c/\(c=0\/∃b o l,a=some ⟨b,o,none⟩/\nb=some b/\H.own b=some l/\o+c<=l.length/\(l.drop o).take xs.length=xs.map i64)
section
variable {H J : Hp} {ro ro' : Nat → Rl} {B : Nat} {v : Value} {xs : List Int} {T : Nat → Prop} {nb : Option Nat}
theorem FA.nil(H:Hp)(nb:Option Nat):FA H (.slice none 0 0) [] nb:=⟨none,0,rfl,alj _,.inl rfl⟩
theorem FA.rd(h:FA H v xs nb):bD H 1 v xs.length (xs.map i64):=by
 obtain⟨a,c,rfl,e,h⟩:=h;refine⟨by simp,?_⟩;rcases h with rfl| ⟨b,o,l,rfl,_,x,z,m⟩
 ·simp_all
 ·exact .inr ⟨b,o,c,l,rfl,ae x,O,Z⟩
theorem FA.ext(h:FA H v xs nb)(e:aj T H J)(t:∀z,nb=some z->¬T z):FA J v xs nb:=by
 obtain⟨a,c,j,r,h⟩:=h;exact⟨a,c,j,r,h.imp_right fun⟨b,o,l,m,x,g,y⟩=>⟨b,o,l,m,x,e.own g (t b x),y⟩⟩
theorem FA.cap(h:FA H v xs nb):∃a c,v= .slice a xs.length c/\xs.length<=c:=by
 obtain⟨a,c,z,x,_⟩:=h;grind
theorem FA.lit{T:TypeId}(x:Int):FA (H.new T [i64 x]) (.slice (some ⟨H.size,0,none⟩) 1 1) [x] (some H.size):=
 ⟨_,1,rfl,alj _,.inr ⟨H.size,0,[i64 x],rfl,rfl,am _ _ _,by simp,rfl⟩⟩
theorem FA.tail{x:Int}{a:Option Addr}{c:Nat}(h:FA H (.slice a (x::xs).length c) (x::xs) nb)(q:Decidable ((c:Int)=1)):
  FA H (.slice (@ite (Option Addr) ((c:Int)=1) q a (Option.map (fun(y:Addr)=>y.add (Int.toNat 1*1)) a)) (((xs.length+1:Nat):Int).toNat - Int.toNat 1) ((c:Int).toNat - Int.toNat 1)) xs nb:=by
 rw[show((xs.length+1:Nat):Int).toNat - Int.toNat 1=xs.length by simp,show(c:Int).toNat - Int.toNat 1=c - 1 by simp];obtain⟨f,c',p,d,h⟩:=h;injection p with m u e;subst m e;rw[alk]at d;refine⟨_,c - 1,rfl,O,?_⟩;by_cases g:(c:Int)=1
 ·omega
 ·rw[if_neg g];rcases h with h| ⟨b,o,l,rfl,t,r,P,z⟩
  ·omega
  ·refine .inr ⟨b,o+1,l,rfl,t,r,O,?_⟩;rw[alk,alM]at z;have j:(l.drop (o+1))=(l.drop o).drop 1:=by simp_all
   rw[j,List.take_drop,Nat.add_comm,z];rfl
theorem FA.push{K:Value->Hp->Prop}{T:TypeId}(h:FA H v xs nb)(x:Int)(I:xs.length<=1000000)
  (g:∀w' J y,(y=nb\/∃z,y=some z/\H.size<=z/\z<J.size)->FA J w' (xs++[x]) y->aj (fun z=>nb=some z) H J->K w' J):
  eh T 1 8 [i64 0] v (.slice (some ⟨H.size,0,none⟩) 1 1) (H.new T [i64 x]) K:=by
 have e:af H (H.new T [i64 x]):=bm;have d:=h.rd.fresh e;obtain⟨a,c,rfl,Q,h⟩:=h;have P:bD (H.new T [i64 x]) 1 (.slice (some ⟨H.size,0,none⟩) 1 1) 1 [i64 x]:=(Sl.bs (size:=1) (n:=1) (xs:=[i64 x]) rfl rfl).rd;refine bD.rowOf P (F:=fun m new=>(xs.length+m<=c->m=0->K (.slice a xs.length c) (H.new T [i64 x]))/\
  (xs.length+m<=c->m≠0->p9 a fun b o=>aF (EO ((H.new T [i64 x]).own b) ((H.new T [i64 x]).wQ b)) fun l=>dW (o+(xs.length+m)*1<=l.length/\dK new) (K (.slice a (xs.length+m) c) ((H.new T [i64 x]).wr b (aQ l (o+xs.length*1) new))))/\
  (c<xs.length+m->Builtin.nextslicecap (xs.length+m) c*8<=2^48/\
   rowOf (H.new T [i64 x]) 1 (.slice a xs.length c) fun _ L=>∀c',xs.length+m<=c'->K (.slice (some ⟨(H.new T [i64 x]).size,0,none⟩) (xs.length+m) c') ((H.new T [i64 x]).new T (L++new++dm [i64 0] (c' - (xs.length+m)))))) ?_
 refine⟨O,fun G _=>?_,fun f=>⟨?_,?_⟩⟩
 ·rcases h with rfl| ⟨b,o,l,rfl,t,p,q,N⟩
  ·omega
  ·have r:=e.own p (fun h=>h);show aF (EO ((H.new T [i64 x]).own b) ((H.new T [i64 x]).wQ b)) _;rw[r];refine⟨⟨O,fun v u=>by rw[alv.1 u];rfl⟩,?_⟩;have j:(xs++[x]).length=xs.length+1:=by simp
   have A:aj (fun z=>z=b) (H.new T [i64 x]) ((H.new T [i64 x]).wr b (aQ l (o+xs.length*1) [i64 x])):=(aj.refl (fun z=>z=b) _).wr (fun _=>rfl) _;refine g _ _ nb (.inl rfl) ⟨some ⟨b,o,none⟩,c,by rw[j],O,.inr ⟨b,o,aQ l (o+xs.length*1) [i64 x],rfl,t,ah r,by rw[ew];exact q,?_⟩⟩ ((e.mono fun _ _ h=>h.elim).trans Z);rw[ala];apply alB;intro k;rw[alG,j];by_cases g:k<xs.length+1
   ·rw[al2 g,alU,getElem?_splice [i64 x] l _ _ Z];grind
   grind
 ·have t:Builtin.nextslicecap (xs.length+1) c<=2*(xs.length+1):=nextslicecap_le f;omega
 ·refine bD.rowOf (n:=xs.length) (xs:=xs.map i64) d ?_;intro c' U;have D:(H.new T [i64 x]).size=H.size+1:=ag _ _ _;refine g _ _ (some (H.new T [i64 x]).size) (.inr ⟨_,rfl,O,by simp only[ag];omega⟩) ⟨_,c',by simp,Z,.inr ⟨(H.new T [i64 x]).size,0,_,rfl,rfl,am _ _ _,?_,?_⟩⟩ ((e.mono fun _ _ h=>h.elim).trans bm)
  ·simp only[alm,alA,rz,alR,ala];omega
  grind
theorem RK.low{s x:Nat}(r:RK x ro ro')(h:s<=x)(m:∀z,s<=z->ro z= .no):RK s ro ro':=(RK.refl m).trans r h
theorem RK.none{s:Nat}(r:RK s ro ro'){z:Nat}(x:z<s)(h:ro z= .no):ro' z= .no:=by
 cases r;grind
end
section
variable {H J : Hp} {ro ro' : Nat → Rl} {fb tb nn c : Nat} {l : List Value} {V : Int → Value} {ch : Int → List Int} {au : Int → Int} {kb : Int → Option Nat} {C : Nat → Prop} {w : Nw} {lt : Int → Int → Bool} {rows : Int → List Int} {W : List Int}
theorem gX.win{hm:Int->Int}(f:gX (aH w) lt ch au rows W){x:Int}(h:x∈W):0<=x/\x<w.cs.length:=by
 obtain⟨a,b,_⟩:=aI (f.wm x h).2;omega
def KC(ro:Nat->Rl)(z:Nat):Prop:=KB ro z\/ro z= .cell
theorem BJ(m:ForM H ro fb tb w.cs.length l V ch au kb)(hz:∀z,H.size<=z->ro z= .no)(hn:∃rest,H.own nn=some (ptr c::rest))(I:CQ H c C w)(r:∀z,C z->ro z= .cell)(D:∀a b,aU w a b=true->lt a b=true)
  {x y:Int}(f:gX (aH w) lt ch au rows (x::y::W))(G:aH w x=aH w y)(o:(ch x).length=(ch y).length):
  aD 420 [ptr fb,.iface 169 (ptr nn),i64 x,i64 y] H fun v J=>ak (∃p q ro' l' V' wV,v=i64 p/\((p=x/\q=y)\/(p=y/\q=x))/\ForM J ro' fb tb w.cs.length l' V' (ay ch p (ch p++[q])) (aM au q p) wV/\
   gX (aH w) lt (ay ch p (ch p++[q])) (aM au q p) rows (p::W)/\CQ J c C w/\RK H.size ro ro'/\(∀z,J.size<=z->ro' z= .no)/\aj (KC ro) H J):=by
 have M:=f.win (hm:=aH w) (x:=x) (by simp);have E:=f.win (hm:=aH w) (x:=y) (by simp);obtain⟨x1,x2⟩:=f.wm x (by simp);obtain⟨y1,y2⟩:=f.wm y (by simp);have A:x≠y:=fun e=>by cases f;grind
 have uv:=I.yY;have hlx:(ch x).length<=w.cs.length:=ck (f.pr.nd x) fun c hc=>m.EE x c hc;obtain⟨rest,ho⟩:=hn;refine aL ub ?_;refine vs ?_;refine⟨_,_,391,ptr c,rfl,cz (off:=0) Y (ae ho) rfl,(cv I y x).mono ?_⟩;rintro _ H1 ⟨rfl,U,d⟩;have m1:=m.ext d (fun z j h=>by
  have:=r z h;rcases j with g|g| ⟨_,g⟩<;>grind)
 have z1:=d.size;have QK:∀z,H1.size<=z->ro z= .no:=Z;rw[fQ (w:=w) (a:=y) (b:=x) y2 x2];cases X:aU w y x
 ·refine vs ?_;have L:=D _ _ (((ar w).VQ x y A).resolve_right (by rw[X];simp));refine(qn m1 QK M E x1 y1 A o O).mono ?_;rintro _ H2 ⟨rfl,Q,l2,u,K,F,N,j,t⟩;refine vs ?_;refine⟨x,y,Q,l2,u,K,rfl,.inl ⟨rfl,rfl⟩,F,f.link G o L,U.ext t (fun z h P=>?_),N.low z1 hz,j,(d.mono fun z _ h=>.inr (r z h)).trans (t.mono fun z _ h=>.inl h)⟩;have:=r z h;rcases P with g| ⟨_,g⟩<;>grind
 ·refine vs ?_;have L:=D _ _ X;refine(qn m1 QK E M y1 x1 A.symm o.symm O).mono ?_;rintro _ H2 ⟨rfl,Q,l2,u,K,F,N,j,t⟩;refine vs ?_;refine⟨y,x,Q,l2,u,K,rfl,.inr ⟨rfl,rfl⟩,F,(f.perm (List.Perm.swap ..)).link G.symm o.symm L,U.ext t (fun z h P=>?_),N.low z1 hz,j,(d.mono fun z _ h=>.inr (r z h)).trans (t.mono fun z _ h=>.inl h)⟩;have:=r z h;rcases P with g| ⟨_,g⟩<;>grind
end
section
variable{n lo hi:Nat}{x:Int}
theorem bD.sub{H:Hp}{size c:Nat}{a:Option Addr}{xs:List Value}(h:bD H size (.slice a n c) n xs)(x:lo<=hi)(z:hi<=n){b':Option Addr}{c':Nat}(m:lo<hi->b'=a.map (·.add (lo*size))):
  bD H size (.slice b' (hi - lo) c') (hi - lo) ((xs.drop (lo*size)).take ((hi - lo)*size)):=by
 obtain⟨u,j⟩:=h;have p:(hi - lo)*size=hi*size - lo*size:=Nat.sub_mul _ _ _;have q:hi*size<=n*size:=amd _ z;have f:lo*size<=hi*size:=amd _ x;refine⟨Z,?_⟩;by_cases e:lo<hi
 ·rcases j with ⟨L,_⟩| ⟨b,o,d,l,y,g,P,r⟩
  ·omega
  ·right;injection y with t A K;subst t;rw[m e];refine⟨b,o+lo*size,c',l,?_,g,O,?_⟩
   ·simp[Addr.add]
   ·rw[<-r,List.drop_take,List.drop_drop,amz,Nat.min_eq_left O]
 simp_all
theorem PG{H:Hp}{a:Option Addr}{c:Nat}{xs:List Int}(h:bD H 1 (.slice a n c) n (xs.map i64)){lo' hi':Int}(e:lo'=(lo:Int))(m:hi'=(hi:Int))(g:lo<=hi)(y:hi<=n)(r:n<=c):
  ∃z,Value.slice (if(c:Int)=lo' then a else Option.map (fun x:Addr=>x.add (lo'.toNat*1)) a) (hi'.toNat - lo'.toNat) ((c:Int).toNat - lo'.toNat)= .slice z (hi - lo) (c - lo)/\
   bD H 1 (.slice z (hi - lo) (c - lo)) (hi - lo) (((xs.drop lo).take (hi - lo)).map i64)/\hi - lo<=c - lo/\((xs.drop lo).take (hi - lo)).length=hi - lo:=by
 subst e;subst m;have t:=h.1;rw[alA,ala]at t;refine⟨_,rfl,?_,O,Z⟩;have j:=bD.sub h (lo:=lo) (hi:=hi) g y (c':=(c:Int).toNat - (lo:Int).toNat) (b':=if(c:Int)=(lo:Int)then a else Option.map (fun x:Addr=>x.add ((lo:Int).toNat*1)) a) Z;simp_all
def BK(H:Hp)(ro:Nat->Rl)(B:Nat)(v:Value)(xs:List Int):Prop:=
 ∃a c,v= .slice a xs.length c/\xs.length<=c/\(xs=[]\/∃b o l,a=some ⟨b,o,none⟩/\b<B/\¬KC ro b/\H.rd b=some l/\o+xs.length<=l.length/\(l.drop o).take xs.length=xs.map i64)
section
variable {H J H0 : Hp} {ro ro' Yn : Nat → Rl} {B : Nat} {v : Value} {xs : List Int} {T : Nat → Prop}
theorem BK.rd(h:BK H ro B v xs):bD H 1 v xs.length (xs.map i64):=by
 obtain⟨a,c,rfl,e,h⟩:=h;refine⟨by simp,?_⟩;rcases h with rfl| ⟨b,o,l,rfl,_,_,x,z,m⟩
 ·simp_all
 grind
theorem BK.ext(h:BK H ro B v xs)(e:aj T H J)(r:∀z,z<B->¬KC ro z->¬T z)(d:∀z,z<H.size->KC ro' z->KC ro z):BK J ro' B v xs:=by
 obtain⟨a,c,p,j,h⟩:=h;exact⟨a,c,p,j,h.imp_right fun⟨b,o,l,y,x,m,g,t⟩=>⟨b,o,l,y,x,fun h=>m (d b (Ge g) h),e.rd g (r b x m),t⟩⟩
theorem BK.tail{a:Option Addr}{c:Nat}(h:BK H ro B (.slice a (x::xs).length c) (x::xs))(u:Decidable ((c:Int)=1)):
  BK H ro B (.slice (@ite (Option Addr) ((c:Int)=1) u a (Option.map (fun(y:Addr)=>y.add (Int.toNat 1*1)) a)) (((xs.length+1:Nat):Int).toNat - Int.toNat 1) ((c:Int).toNat - Int.toNat 1)) xs:=by
 rw[show((xs.length+1:Nat):Int).toNat - Int.toNat 1=xs.length by simp,show(c:Int).toNat - Int.toNat 1=c - 1 by simp];obtain⟨P,c',f,q,h⟩:=h;injection f with m L e;subst m e;rw[alk]at q;refine⟨_,c - 1,rfl,O,?_⟩;by_cases g:(c:Int)=1
 ·grind
 ·rw[if_neg g];rcases h with h| ⟨b,o,l,rfl,t,r,j,d,z⟩
  ·cases h
  ·rw[alk]at d z;refine .inr ⟨b,o+1,l,rfl,t,r,j,O,?_⟩;rw[alM]at z;have p:(l.drop (o+1))=(l.drop o).drop 1:=by simp_all
   rw[p,List.take_drop,Nat.add_comm,z];rfl
theorem BK.head(h:BK H ro B v (x::xs)):∃b o l c,v= .slice (some ⟨b,o,none⟩) (x::xs).length c/\H.rd b=some l/\b<H.size/\l[o]? =some (i64 x)/\(x::xs).length<=c:=by
 obtain⟨a,c,e,m,h⟩:=h;rcases h with h| ⟨b,o,l,rfl,g,y,z,t,r⟩
 ·cases h
 ·refine⟨b,o,l,c,e,z,Ge z,?_,m⟩;have j:((x::xs).map i64)[0]? =some (i64 x):=rfl;grind
theorem BK.cap(h:BK H ro B v xs):∃a c,v= .slice a xs.length c/\xs.length<=c:=by
 obtain⟨a,c,z,x,_⟩:=h;grind
theorem RK.kcs{s:Nat}(r:RK s ro ro'){z:Nat}(x:z<s)(h:KC ro' z):KC ro z:=by
 rcases h with h|h
 ·exact .inl (r.kbs x h)
 ·refine .inr ?_;cases r;grind
structure ni(H0:Hp)(Yn:Nat->Rl)(nn fb tb c:Nat)(C:Nat->Prop)(w:Nw)(H:Hp)(ro:Nat->Rl)(l:List Value)(V:Int->Value)(ch:Int->List Int)(au:Int->Int)(kb:Int->Option Nat)(va vb:Value)(a b:List Int):Prop where
 m:ForM H ro fb tb w.cs.length l V ch au kb
 cq:CQ H c C w
 hC:∀z,C z->ro z= .cell
 own:∃rest,H.own nn=some (ptr c::rest)
 hn:ro nn= .O8
 hz:∀z,H.size<=z->ro z= .no
 rk:RK H0.size Yn ro
 ra:BK H ro H0.size va a
 rb:BK H ro H0.size vb b
 e:aj (KC Yn) H0 H
variable {nn fb tb c : Nat} {C : Nat → Prop} {w : Nw} {l : List Value} {V : Int → Value} {ch : Int → List Int} {au : Int → Int} {kb : Int → Option Nat} {va vb : Value} {a b : List Int}
theorem ni.RO(h:ni H0 Yn nn fb tb c C w H ro l V ch au kb va vb a b)(e:aj T H J)(d:∀z,T z->H0.size<=z/\ro z= .no):ni H0 Yn nn fb tb c C w J ro l V ch au kb va vb a b:=by
 have y:∀z r,ro z=r->r≠ .no->¬T z:=Z;obtain⟨rest,j⟩:=h.own;have p:=e.size;refine⟨h.m.ext e (fun z m=>?_),h.cq.ext e (fun z m=>y z _ (h.hC z m) Z),h.hC,⟨rest,e.own j (y nn _ h.hn Z)⟩,h.hn,fun z m=>h.hz z O,h.rk,
  h.ra.ext e Z (fun _ _ h=>h),h.rb.ext e Z (fun _ _ h=>h),?_⟩
 ·rcases m with g|g| ⟨x,g⟩<;>grind
 ·exact⟨alw h.e.size e.size,fun z m t=>by
   rw[e.aW z (alp m h.e.size) Z,h.e.aW z m t]⟩
end
end
section
variable{H:Hp}{c:Nat}
theorem BL{a:Option Addr}{xs:List Int}(f:FuncId)(h:List Value)(q:Int->Bool)(Inv:Hp->Prop)(G:Inv H)(N:∀J,Inv J->bD J 1 (.slice a xs.length c) xs.length (xs.map i64))(p:eQ Tryz.prog f=true)
  (L:∀J x,x∈xs->Inv J->aD f (i64 x::h) J fun v r=>ak (v= .bool (q x)/\Inv r))(hm:xs.length<=1000000000):
  aD 306 [.slice a xs.length c,.func (.func f) #[] h.toArray] H fun v J=>ak (∃i:Int,v=i64 i/\(0<=i↔xs.any q=true)/\Inv J):=by
 refine aL fO ?_;refine vs ?_;refine ba.intro (fun m env J=>Inv J/\∃j:Nat,m=xs.length - j/\j<=xs.length/\(∀e∈xs.take j,q e=false)/\env=[(0,.slice a xs.length c),(1,.func (.func f) #[] h.toArray),(7,i64 xs.length),(8,i64 j)]) xs.length Z ?_;rintro m env y ⟨g,j,E,M,D,rfl⟩;have d:=N y g;refine vs ?_;refine ai.dec (fun K=>?_) (fun K=>?_)<;>refine vs ?_
 ·have A:j<xs.length:=O;obtain⟨e,z⟩:∃e,xs[j]? =some e:=⟨_,ak9 A⟩;obtain⟨_,b,o,lb,rfl,Q,u⟩:=bD.num d z;refine⟨O,?_⟩;have F:=ali z;refine v4 Q Int.toNat_natCast ala u ?_;refine⟨p,?_⟩;refine dO.mono (by simpa using L y e F g) ?_;rintro _ U ⟨rfl,t⟩;refine vs ?_;cases X:q e
  ·refine vs ?_;rw[wrap64 (n:=(j:Int)+1) O O];refine⟨xs.length - (j+1),O,t,j+1,rfl,O,?_,rfl⟩;intro I P;rw[alq,z]at P;grind
  ·refine vs ?_;exact⟨j,rfl,Z,t⟩
 ·refine⟨-1,rfl,?_,g⟩;grind
theorem wE{a:Option Addr}{xs:List Int}(f:FuncId)(z:List Value)(q:Int->Bool)(Inv:Hp->Prop)(g:Inv H)(r:∀J,Inv J->bD J 1 (.slice a xs.length c) xs.length (xs.map i64))(y:eQ Tryz.prog f=true)
  (t:∀J x,x∈xs->Inv J->aD f (i64 x::z) J fun v e=>ak (v= .bool (q x)/\Inv e))(hm:xs.length<=1000000000):
  aD 287 [.slice a xs.length c,.func (.func f) #[] z.toArray] H fun v J=>ak (v= .bool (xs.any q)/\Inv J):=by
 refine aL jS ?_;refine vs ?_;refine(BL f z q Inv g r y t hm).mono ?_;rintro _ d ⟨i,rfl,hi,j⟩;refine vs ?_;refine⟨ald Value.bool ?_,j⟩;cases m:xs.any q
 ·rw[m]at hi;exact alc (fun h=>by cases hi.1 h)
 ·rw[m]at hi;exact ale (hi.2 rfl)
end
end Go.Proofs.YtnanofhkpglbaaaGreatDoor
