/- Texts put behind each other. -/
import Derived.Test.YtjkkkibiegfecaaGreatDoorK31
set_option linter.unusedSimpArgs false
set_option linter.unusedVariables false
set_option maxRecDepth 100000
set_option maxHeartbeats 8000000
namespace Go.Proofs.YtjkkkibiegfecaaGreatDoor
open Go Go.Vc
section
variable {H J : Hp} {B : FB} {C V : Nat → Prop} {w : Nw} {N P : List Int} {L : List Pc} {tops : List Int} {ch : Int → List Int} {ax : Int → Int} {aq : Int → List Int} {W : List Int}
theorem yC(m:bQ H B C w N P L tops){lt:Int->Int->Bool}(hs:bC lt){x p g t:Int}{A:List Int}(f:dY (aH w) lt (bW N) ch ax aq W)(hp:HP (fh L) ch ax)(hx:x∈ch p)(hg:aH w x=g)(xh:g<tops.length)(hr:aq g=t::A)(ht:aQ tops g=t):
  aF 319 [ptr B.n,i64 g,i64 x] H fun v J=>ak (∃N' P' L' l,bQ J B C w N' P' L' tops/\dY (aH w) lt (bW N') (aA ch p l) (aN ax x (-1)) (aA aq g (t::x::A)) W/\HP (fh L') (aA ch p l) (aN ax x (-1))/\(ch p).Perm (x::l)/\
   aj (fun z=>z=B.nb\/z=B.pb\/z=B.tb) H J):=by
 obtain⟨x1,x2,x3,x4,x5⟩:=f.pr.dn p x hx;have FO:p≠x:=fun e=>by rw[e,hs.HO]at x5;cases x5
 have o:=f.Ex hx;obtain⟨I,G,_⟩:=aI (w:=w) (x:=p) O;have ec:=m.len;have uH:=m.cells.zf;have MU:(ch p).length<=w.cs.length:=cm (f.pr.nd p) fun c hc=>f.Ex hc;obtain⟨l,Nu,X⟩:=(f.cy p).from hx;have eU:=Nu.nodup_iff.1 (f.pr.nd p);have ze:(ch p).length=l.length+1:=by rw[Nu.length_eq,ajX]
 have f1:=f.V5 Nu X;have EA:aA ch p (x::l) p=x::l:=by unfold aA;grind
 obtain⟨ux,_,_⟩:=hp x;obtain⟨up,kp,dp⟩:=hp p;rw[x1]at ux;have htr:=f.Ze (g:=g) (x:=t) Z;have R2:=O;obtain⟨cc,ltp,o1,q1,_⟩:=m.eh;obtain⟨a0,a1,a2,a3,a4⟩:=m.rd o;obtain⟨b0,b1,b2,b3,b4⟩:=m.rd (x:=p) ⟨I,G⟩;rw[ux]at a1;rw[dp]at b3;refine aT so ?_;refine v1 (ae o1) ?_;refine⟨O,?_⟩;refine v4 (ae m.places) ajJ Nat.add_zero a1 ?_;refine⟨O,?_⟩;refine v4 (ae m.places) m.places ajJ b3 ?_;rw[wrap64 O O];obtain⟨L2,Q,m2,e2⟩:=m.Tx (x:=p) ⟨I,G⟩ (((ch p).length:Int) - 1);refine⟨O,?_⟩;refine vs ?_;generalize H.wr B.tb ((aO L).set (p.toNat*4+2) (i64 (((ch p).length:Int) - 1)))=H2 at*;obtain⟨c0,_⟩:=m2.rd (x:=p) ⟨I,G⟩;obtain⟨L3,F,U,e3⟩:=m2.eM (x:=p) ⟨I,G⟩ (-1);refine v2 m2.places ajJ ?_;refine⟨O,?_⟩;refine vs ?_;generalize H2.wr B.tb ((aO L2).set (p.toNat*4+1) (Value.int .i64 (-1)))=H3 at*;obtain⟨cc3,lt3,o3,q3,_⟩:=U.eh;refine v1 (ae o3) ?_;refine(DR U.ring (x:=x) O).mono ?_;rintro _ J ⟨rfl,e⟩;obtain rfl:=e.symm;refine vs ?_;have Ty:aj (fun z=>z=B.nb\/z=B.pb\/z=B.tb) H H3:=(e2.mono O).trans (e3.mono O);have WW:l=[]\/∃r y,l=r++[y]:=by
  rcases List.eq_nil_or_concat l with h| ⟨r,y,h⟩
  ·grind
  ·grind
 rcases WW with rfl| ⟨r,y,rfl⟩
 ·have RS:bW N x=x:=X;rw[RS];refine ai.bY (by simp) ?_;refine vs ?_;have q:=U;have Fh:=Ty;obtain⟨j,eL⟩:∃j,j=L3:=⟨_,rfl⟩;rw[<-eL]at q F;have k4x:fh j x=fh L x:=by rw[F,Q];unfold kH;grind
  have k4p:fh j p=⟨(fh L p).u, -1,((ch p).length:Int) - 1,(fh L p).m⟩:=by rw[F,Q];unfold kH;grind
  have k4o:∀z,z≠p->fh j z=fh L z:=fun z hz=>by rw[F,Q];unfold kH;grind
  have hsp:∀ {K:List Int},bW K=rD (bW N) x (bW P x)->dY (aH w) lt (bW K) (aA ch p []) (aN ax x (-1)) aq (x::W):=fun h=>by
   rw[h];have hpv:bW P x=x:=by
    have:=m.inv.pn x;grind
   rw[hpv,HR];have f2:=f1.Z0 EA;rwa[cP]at f2
  obtain⟨cc4,Zg,o4,q4,_⟩:=q.eh;refine v1 (ae o4) ?_;refine(iV q.ring q.inv (x:=x) O).mono ?_;rintro _ H5 ⟨rfl,K,P5,r5,l5,n5,i5,D⟩;have d:=q.nI r5 i5 D l5;have f5:=hsp n5;obtain⟨cc5,lt5,o5,q5,_⟩:=d.eh;have Y5:=d.len;refine v1 (ae o5) ?_;refine⟨O,?_⟩;obtain⟨d0,_⟩:=d.rd o;obtain⟨L6,k6,u,e6⟩:=d.aN o (-1);refine v3 d.places ajJ Nat.add_zero ?_;refine⟨O,?_⟩;refine vs ?_;generalize H5.wr B.tb ((aO j).set (x.toNat*4) (Value.int .i64 (-1)))=H6 at*;have hl6:=u.len;refine⟨O,?_⟩;obtain⟨g0,_⟩:=u.rd o;obtain⟨L7,k7,n,e7⟩:=u.dG o false;refine v3 u.places ajJ Nat.add_zero ?_;refine⟨O,?_⟩;refine vs ?_;generalize H6.wr B.tb ((aO L6).set (x.toNat*4+3) (Value.bool false))=H7 at*;obtain⟨cc7,lt7,o7,q7,_⟩:=n.eh;have q8:=n.cS q7 (ce (tops:=tops) (h:=g) O xh);rw[ht]at q8;have Xa:=n.len;refine v1 (ae o7) ?_;refine⟨O,?_⟩;refine v4 (ae q7) ajJ ajM q8 ?_;refine(de n.ring n.inv (x:=t) (y:=x) O O).mono ?_;rintro _ H8 ⟨rfl,N8,P8,r8,l8,n8,i8,M⟩;have m8:=n.nI r8 i8 M l8;have E:=f5.NG (t:=t) (A:=A) Z;rw[hg,<-n8]at E;refine vs ?_;refine⟨N8,P8,L7,[],m8,E,fun z=>?_,Nu,(((Fh.trans (D.mono O)).trans (e6.mono O)).trans (e7.mono O)).trans (M.mono O)⟩;rw[k7,k6];obtain⟨uz,kz,dz⟩:=hp z;by_cases T:z=x
  ·rw[T];rw[T]at kz dz;unfold kH aN aA;grind
  ·unfold kH aN aA;grind
 ·have hhd:bW N x=(r++[y]).headD (-1):=by
   cases r with
   |nil=>exact X.1
   |cons a r=>exact X.1
  have RS:bW N x≠x:=fun e=>by
   have T:=(aj1.1 eU).1;apply T;rw[e]at hhd;cases r with
   |nil=>grind
   |cons a r=>grind
  refine ai.dec (fun h=>absurd h RS) (fun _=>?_);obtain⟨r0,_⟩:=U.rd (x:=p) ⟨I,G⟩;obtain⟨j,k4,q,e4⟩:=U.eM (x:=p) ⟨I,G⟩ (bW N x);refine v2 U.places ajJ ?_;refine⟨O,?_⟩;refine vs ?_;generalize H3.wr B.tb ((aO L3).set (p.toNat*4+1) (i64 (bW N x)))=H4 at*;have Fh:=Ty.trans (e4.mono O);have k4x:fh j x=fh L x:=by rw[k4,F,Q];unfold kH;grind
  have k4p:fh j p=⟨(fh L p).u,bW N x,((ch p).length:Int) - 1,(fh L p).m⟩:=by rw[k4,F,Q];unfold kH;grind
  have k4o:∀z,z≠p->fh j z=fh L z:=fun z hz=>by rw[k4,F,Q];unfold kH;grind
  have hsp:∀ {K:List Int},bW K=rD (bW N) x (bW P x)->dY (aH w) lt (bW K) (aA ch p (r++[y])) (aN ax x (-1)) aq (x::W):=fun h=>by
   rw[h];have hpv:bW P x=y:=mz.last (A:=r) m.inv X;rw[hpv];have f2:=f1.off (A:=r) (y:=y) EA;rwa[cP]at f2
  obtain⟨cc4,Zg,o4,q4,_⟩:=q.eh;refine v1 (ae o4) ?_;refine(iV q.ring q.inv (x:=x) O).mono ?_;rintro _ H5 ⟨rfl,K,P5,r5,l5,n5,i5,D⟩;have d:=q.nI r5 i5 D l5;have f5:=hsp n5;obtain⟨cc5,lt5,o5,q5,_⟩:=d.eh;have Y5:=d.len;refine v1 (ae o5) ?_;refine⟨O,?_⟩;obtain⟨d0,_⟩:=d.rd o;obtain⟨L6,k6,u,e6⟩:=d.aN o (-1);refine v3 d.places ajJ Nat.add_zero ?_;refine⟨O,?_⟩;refine vs ?_;generalize H5.wr B.tb ((aO j).set (x.toNat*4) (Value.int .i64 (-1)))=H6 at*;have hl6:=u.len;refine⟨O,?_⟩;obtain⟨g0,_⟩:=u.rd o;obtain⟨L7,k7,n,e7⟩:=u.dG o false;refine v3 u.places ajJ Nat.add_zero ?_;refine⟨O,?_⟩;refine vs ?_;generalize H6.wr B.tb ((aO L6).set (x.toNat*4+3) (Value.bool false))=H7 at*;obtain⟨cc7,lt7,o7,q7,_⟩:=n.eh;have q8:=n.cS q7 (ce (tops:=tops) (h:=g) O xh);rw[ht]at q8;have Xa:=n.len;refine v1 (ae o7) ?_;refine⟨O,?_⟩;refine v4 (ae q7) ajJ ajM q8 ?_;refine(de n.ring n.inv (x:=t) (y:=x) O O).mono ?_;rintro _ H8 ⟨rfl,N8,P8,r8,l8,n8,i8,M⟩;have m8:=n.nI r8 i8 M l8;have E:=f5.NG (t:=t) (A:=A) Z;rw[hg,<-n8]at E;refine vs ?_;refine⟨N8,P8,L7,(r++[y]),m8,E,fun z=>?_,Nu,(((Fh.trans (D.mono O)).trans (e6.mono O)).trans (e7.mono O)).trans (M.mono O)⟩;rw[k7,k6];obtain⟨uz,kz,dz⟩:=hp z;by_cases T:z=x
  ·rw[T];rw[T]at kz dz;unfold kH aN aA;grind
  ·unfold kH aN aA;grind
end
section
variable{x g t:Int}
section
variable {H J : Hp} {B : FB} {C V : Nat → Prop} {w : Nw} {N P : List Int} {L : List Pc} {tops : List Int} {ch : Int → List Int} {ax : Int → Int} {aq : Int → List Int} {W : List Int}
theorem Ao(m:bQ H B C w N P L tops){lt:Int->Int->Bool}(M:bC lt){A:List Int}(f:dY (aH w) lt (bW N) ch ax aq W)(hp:HP (fh L) ch ax)(hg:aH w x=g)(MR:0<g)(xh:g<tops.length)(hr:aq g=t::A)(ht:aQ tops g=t):
  aF 320 [ptr B.n,i64 g,i64 x] H fun v J=>ak (∃c P' L' e n A',bQ J B C w c P' L' tops/\dY (aH w) lt (bW c) e n (aA aq g (t::A')) W/\HP (fh L') e n/\(∀z,ax z= -1->n z= -1)/\
   aj (fun z=>z=B.nb\/z=B.pb\/z=B.tb) H J):=by
 have e0:aA aq g (t::A)=aq:=by
  funext z;unfold aA;split
  ·grind
  ·rfl
 refine aT nD ?_;refine vs ?_;refine bj.intro (fun mm env J=>∃ (x:Int) (c P':List Int) (L':List Pc) (e:Int->List Int) (n:Int->Int) (A':List Int),mm=JT lt w.cs.length x/\aH w x=g/\bQ J B C w c P' L' tops/\dY (aH w) lt (bW c) e n (aA aq g (t::A')) W/\HP (fh L') e n/\(∀z,ax z= -1->n z= -1)/\
   aj (fun z=>z=B.nb\/z=B.pb\/z=B.tb) H J/\env=[(0,ptr B.n),(1,i64 g),(2,i64 x)]) _ ⟨x,N,P,L,ch,ax,A,rfl,hg,m,Z,hp,fun _ h=>h,aj.refl _ _,rfl⟩ ?_
 rintro mm env H1 ⟨y,Q,U,F,I,j,d,rfl,hy,a,r,q,X,u,rfl⟩;obtain⟨y0,y1,_⟩:=aI (w:=w) (x:=y) O;obtain⟨tv,p,_⟩:=a.own;obtain⟨a0,a1,a2,a3,a4⟩:=a.rd ⟨y0,y1⟩;obtain⟨uy,_,_⟩:=q y;have hl:=a.len;rw[uy]at a1;refine v1 (ae p) ?_;refine⟨O,?_⟩;refine v4 (ae a.places) ajJ Nat.add_zero a1 ?_;refine ai.dec (fun D=>?_) (fun D=>?_)<;>refine v1 (ae p) ?_
 ·exact⟨Q,U,F,I,j,d,a,r,q,X,u⟩
 refine⟨O,?_⟩;refine v3 (ae a.places) ajJ a4 ?_;have E:=r.pr.up y _ rfl D;obtain⟨_,_,h3,h4,h5⟩:=r.pr.dn _ _ E;cases hm:(fh F y).m
 ·refine v1 (ae p) ?_;refine⟨O,?_⟩;obtain⟨o,k2,T,K⟩:=a.dG ⟨y0,y1⟩ true;refine v2 a.places ajJ ?_;refine⟨O,?_⟩;refine vs ?_;refine⟨Q,U,o,I,j,d,T,r,fun z=>?_,X,u.trans (K.mono O)⟩;rw[k2];unfold kH;split
  ·grind
  ·exact q z
 ·refine v1 (ae p) ?_;refine⟨O,?_⟩;refine v4 (ae a.places) ajJ Nat.add_zero a1 ?_;refine(yC a M r q E hy xh (A:=d) (by unfold aA;grind) ht).mono ?_;rintro _ H2 ⟨N2,P2,o,l,T,G,p2,Nu,K⟩;rw[cP]at G;refine vs ?_;obtain⟨z0,z1,_⟩:=aI (w:=w) (x:=j y) O;refine⟨JT lt w.cs.length (j y),B8 M ⟨z0,O⟩ h5,j y,N2,P2,o,_,_,y::d,rfl,O,T,G,p2,fun z hz=>?_,u.trans K,rfl⟩;unfold aN;grind
theorem qF(m:bQ H B C w N P L tops){lt:Int->Int->Bool}(d:bC lt){A:List Int}(f:dY (aH w) lt (bW N) ch ax aq W)(c:HP (fh L) ch ax)(D:aH w x=g)(M:0<g)(j:g<tops.length)(E:aq g=t::A)(p:aQ tops g=t):
  aF 313 [ptr B.n,i64 g,i64 x] H fun v J=>ak (∃e P' L' y a A',bQ J B C w e P' L' tops/\dY (aH w) lt (bW e) y a (aA aq g (t::A')) W/\HP (fh L') y a/\a x= -1/\(∀z,ax z= -1->a z= -1)/\
   aj (fun z=>z=B.nb\/z=B.pb\/z=B.tb) H J):=by
 obtain⟨y0,y1,_⟩:=aI (w:=w) (x:=x) O;obtain⟨tv,o1,_⟩:=m.own;obtain⟨a0,a1,a2,a3,a4⟩:=m.rd ⟨y0,y1⟩;obtain⟨uy,_,_⟩:=c x;have hl:=m.len;rw[uy]at a1;refine aT n9 ?_;refine v1 (ae o1) ?_;refine⟨O,?_⟩;refine v4 (ae m.places) ajJ Nat.add_zero a1 ?_;refine ai.dec (fun n=>?_) (fun n=>?_)<;>refine vs ?_
 ·have e0:aA aq g (t::A)=aq:=by
   funext z;unfold aA;split
   ·grind
   ·rfl
  exact⟨N,P,L,ch,ax,A,m,Z,c,n,fun _ h=>h,aj.refl _ _⟩
 have q:=f.pr.up x _ rfl n;obtain⟨_,_,h3,h4,h5⟩:=f.pr.dn _ _ q;refine(yC m d f c q D j E p).mono ?_;rintro _ H2 ⟨N2,P2,L2,l,X,G,p2,Nu,U⟩;refine vs ?_;refine(Ao X d (x:=ax x) (A:=x::A) G p2 O M j (by unfold aA;grind) p).mono ?_;rintro _ H3 ⟨T,F,K,Q,Ap,u,m3,r,p3,o,I⟩;rw[cP]at r;refine vs ?_;exact⟨T,F,K,Q,Ap,u,m3,r,p3,o x (by unfold aN;omega),fun z hz=>o z (by unfold aN;omega),U.trans I⟩
end
end
theorem K5(a b:List Int):ws (a++b)=ws a++ws b:=by grind [ws]
theorem OU{l:List Int}{d:Nat}{y v:Int}(h:l[d]? =some y):(ws [y]++ws (l.set d v)).Perm (ws [v]++ws l):=by
 have x:=(ajK.1 h).1;have z:l=l.take d++y::l.drop (d+1):=by
  rw[ajL x]at h;injection h with h;rw[<-h,<-akm x,akZ]
 grind [K5,mH]
section
variable {H J : Hp} {B : FB} {C V : Nat → Prop} {w : Nw} {N P : List Int} {L : List Pc} {tops : List Int} {ch : Int → List Int} {ax : Int → Int} {aq : Int → List Int} {W : List Int}
structure MY(w:Nw)(g:Int)(nx:Int->Int)(Gr ch:Int->List Int)(ax:Int->Int)(aq:Int->List Int)(Fo rest W0:List Int):Prop where
 f:dY (aH w) (aU w) nx ch ax aq (ws Fo++(rest++W0))
 td:∀ (d:Nat) y,Fo[d]? =some y->y≠ -1->(ch y).length=d/\aH w y=g
 rh:∀y∈rest,aH w y=g
 c0:∀z∈W0,ch z=Gr z
 tl:Fo.length<=w.cs.length+1
theorem Fp(m:bQ H B C w N P L tops){roots W0:List Int}{g:Int}{b o rc:Nat}{lb:List Value}(hb:H.own b=some lb)(Nv:∀ (i:Nat) y,roots[i]? =some y->lb[o+i]? =some (i64 y))(hbs:¬B.S C b)(t0:MY w g (bW N) ch ch ax aq [] roots W0)(hp:HP (fh L) ch ax)(hrl:roots.length<=65536):
  aF 317 [ptr B.n,.slice (some ⟨b,o,none⟩) roots.length rc] H fun v J=>ak (∃A P' L' K Q n t,bQ J B C w A P' L' tops/\MY w g (bW A) ch K Q aq n [] W0/\HP (fh L') K Q/\
   Sl J 1 v n.length (n.map i64) t/\(∀z,t=some z->H.size<=z)/\aj (fun z=>C z\/z=B.nb\/z=B.pb\/z=B.tb) H J):=by
 have uH:=m.cells.zf;have MG:=aC hb;have hS:=m.slt;have ls:=au w;have hTb:∀ {z:Nat},(C z\/z=B.nb\/z=B.pb\/z=B.tb)->B.S C z:=fun h=>by
  rcases h with h|h|h|h
  ·exact .inl h
  ·exact .inr O
  ·exact .inr O
  ·exact .inr O
 refine aT qV ?_;refine vs ?_;refine bj.intro (fun mm env J=>∃ (i:Nat) (A P':List Int) (L':List Pc) (K:Int->List Int) (Q:Int->Int) (n:List Int) (j:Value) (t:Option Nat),mm=roots.length - i/\i<=roots.length/\bQ J B C w A P' L' tops/\MY w g (bW A) ch K Q aq n (roots.drop i) W0/\HP (fh L') K Q/\
   Sl J 1 j n.length (n.map i64) t/\(∀z,t=some z->H.size<=z)/\aj (fun z=>C z\/z=B.nb\/z=B.pb\/z=B.tb\/H.size<=z) H J/\
   env=[(0,ptr B.n),(5,j),(10,.slice (some ⟨b,o,none⟩) roots.length rc),(11,i64 roots.length),(12,i64 i)]) _ ⟨0,N,P,L,ch,ax,[],_,none,rfl,O,m,t0,hp,Sl.nil _ _,Z,aj.refl _ _,rfl⟩ ?_
 rintro mm env H1 ⟨i,N1,P1,L1,ch1,Xb,n,j,t,rfl,hi,m1,t1,p1,s1,u,e1,rfl⟩;refine vs ?_;refine ai.dec (fun gi=>?_) (fun gi=>?_)<;>refine vs ?_;rotate_left
 ·obtain rfl:i=roots.length:=O;rw[ald]at t1;exact⟨N1,P1,L1,ch1,Xb,n,t,m1,t1,p1,s1,u,e1.mono Z⟩
 have Oh:i<roots.length:=O;obtain⟨x,hx⟩:∃x,roots[i]? =some x:=⟨_,ajL Oh⟩;have dr:roots.drop i=x::roots.drop (i+1):=by
  rw[akm Oh];congr 1;rw[ajL Oh]at hx;injection hx
 have ob:H1.own b=some lb:=e1.own hb Z;refine⟨O,?_⟩;refine v4 (ae ob) ajM Int.toNat_natCast (Nv i x hx) ?_;rw[dr]at t1;have aa6:x∈ws n++(x::roots.drop (i+1)++W0):=by simp
 refine bj.intro (fun mm env J=>∃ (x:Int) (A P':List Int) (L':List Pc) (K:Int->List Int) (Q:Int->Int) (n:List Int) (j:Value) (t:Option Nat),mm=(ws n).length/\bQ J B C w A P' L' tops/\MY w g (bW A) ch K Q aq n (x::roots.drop (i+1)) W0/\HP (fh L') K Q/\
   Sl J 1 j n.length (n.map i64) t/\(∀z,t=some z->H.size<=z)/\aj (fun z=>C z\/z=B.nb\/z=B.pb\/z=B.tb\/H.size<=z) H J/\
   env=[(0,ptr B.n),(5,j),(7,i64 x),(10,.slice (some ⟨b,o,none⟩) roots.length rc),(11,i64 roots.length),(12,i64 i)]) _ ⟨x,N1,P1,L1,ch1,Xb,n,j,t,rfl,m1,t1,p1,s1,u,e1,rfl⟩ ?_
 clear hx dr aa6 m1 t1 p1 s1 u e1 ob;rintro mm env H2 ⟨x,E,P2,L2,l,gD,n,j,t,rfl,D,U,p2,s2,u,e2,rfl⟩;have JQ:=U.f.win (x:=x) (by simp);have Vj:=U.rh x (by simp);have Oq:=D.len;obtain⟨tv,o2,_⟩:=D.own;obtain⟨a0,a1,a2,a3,a4⟩:=D.rd JQ;rw[(p2 x).2.2]at a3;have tJ:(l x).length<=w.cs.length:=cm (U.f.pr.nd x) fun c hc=>U.f.Ex hc;refine v1 (ae o2) ?_;refine⟨O,?_⟩;refine v3 (ae D.places) ajJ a3 ?_;refine bj.intro (fun mm env J=>∃ (tb:List Int) (j:Value) (t:Option Nat),mm=(l x).length+1 - tb.length/\ws tb=ws n/\bQ J B C w E P2 L2 tops/\MY w g (bW E) ch l gD aq tb (x::roots.drop (i+1)) W0/\
   Sl J 1 j tb.length (tb.map i64) t/\(∀z,t=some z->H.size<=z)/\aj (fun z=>C z\/z=B.nb\/z=B.pb\/z=B.tb\/H.size<=z) H J/\
   env=[(0,ptr B.n),(5,j),(7,i64 x),(8,i64 (l x).length),(10,.slice (some ⟨b,o,none⟩) roots.length rc),(11,i64 roots.length),(12,i64 i)]) _ ⟨n,j,t,rfl,rfl,D,U,s2,u,e2,rfl⟩ ?_
 have YX:(ws n).length<=w.cs.length:=by
  have h1:=cm U.f.wn fun c hc=>U.f.win hc;rw[ajW]at h1;omega
 clear U D s2 u e2 o2 a1 a2 a3 a4;rintro mm env I ⟨tb,j,t,rfl,Vk,m3,r,s3,u,e3,rfl⟩;have z3:=e3.size;have WU:=r.tl;obtain⟨wa,wc,rfl⟩:=Sl.shape s3;refine vs ?_;refine ai.dec (fun gd=>?_) (fun gd=>?_)<;>refine vs ?_
 ·refine AX (B:=H.size) u z3 s3 (-1) O fun w' H4 Xc OV s4 T=>?_;refine vs ?_;refine⟨(l x).length+1 - (tb.length+1),O,tb++[-1],w',Xc,by simp,by grind [K5,eu],m3.ext T Z,⟨?_,fun d y hd X=>?_,r.rh,r.c0,?_⟩,s4,OV,e3.trans (T.mono O),rfl⟩
  ·cases r;grind [K5,eu]
  ·cases r;grind
  grind
 have Af:(l x).length<tb.length:=O;obtain⟨y,X⟩:∃y,tb[(l x).length]? =some y:=⟨_,ajL Af⟩;obtain⟨_,qb,ql,rfl,M,q3⟩:=Sl.wN s3 X;have hqb:t=some qb:=by
  cases t with
  |none=>have:=s3.2.2;grind
  |some b'=>obtain⟨_,_,h1,_⟩:=s3.2;grind
 subst hqb;have hqs:=u qb rfl;have afY:=aC M;have hql:=(ajK.1 q3).1;have hMq:∀z,B.S C z->z≠qb:=Z;refine⟨O,?_⟩;refine v5 (ae M) ajJ ajM Int.toNat_natCast q3 ?_;refine ai.dec (fun gy=>?_) (fun gy=>?_)<;>refine vs ?_
 ·refine⟨⟨O,O⟩,?_⟩;refine v4 M ajJ ajM Int.toNat_natCast ?_;refine⟨O,?_⟩;have s4:=s3.nQ M (l x).length (i64 x);have T:aj (fun z=>z=qb) I (I.wr qb (ql.set (l x).length (i64 x))):=(aj.refl (fun z=>z=qb) _).wr (fun _=>rfl) _;refine vs ?_;have F:=OU (v:=x) X;rw[eu y,if_pos gy,eu x,if_neg O,akh]at F;have m4:=m3.ext T O;have s5:Sl (I.wr qb (ql.set (l x).length (i64 x))) 1 (.slice (some ⟨qb,0,none⟩) (tb.set (l x).length x).length wc) (tb.set (l x).length x).length ((tb.set (l x).length x).map i64) (some qb):=by
   rw[ajN,akd];exact s4
  refine⟨roots.length - (i+1),O,i+1,E,P2,L2,l,gD,tb.set (l x).length x,_,some qb,rfl,O,m4,⟨?_,fun d z hd G=>?_,fun z G=>r.rh z (by simp[G]),r.c0,Z⟩,p2,s5,u,e3.trans (T.mono O),?_⟩
  ·cases r;grind [dY.perm]
  ·cases r;grind
  grind [wrap64]
 ·obtain⟨hyd,hyg⟩:=r.td _ y X gy;have F:=OU (v:= -1) X;rw[eu y,if_neg gy,eu (-1),if_pos rfl,akh]at F;obtain⟨f,Tz⟩:∃f,f=tb.set (l x).length (-1):=⟨_,rfl⟩;have f4:dY (aH w) (aU w) (bW E) l gD aq (y::x::(ws f++(roots.drop (i+1)++W0))):=by
   refine r.f.perm ?_;rw[<-Tz]at F;rw[List.perm_iff_count]at F ⊢;intro z;have:=F z;simp only[alp,akI,akh,List.count_cons,List.count_nil]at this ⊢;omega
  have adh:(ws tb).length=(ws f).length+1:=by
   rw[<-Tz]at F;have:=F.length_eq;simp only[akI,akh,ajX]at this;omega
  have htd:∀ (d:Nat) z,f[d]? =some z->z≠ -1->(l z).length=d/\aH w z=g:=fun d z hd G=>by
   cases r;grind
  refine⟨⟨O,O⟩,?_⟩;refine v4 M ajJ ajM Int.toNat_natCast ?_;refine⟨O,?_⟩;have s4:=s3.nQ M (l x).length (i64 (-1));have T:aj (fun z=>z=qb) I (I.wr qb (ql.set (l x).length (i64 (-1)))):=(aj.refl (fun z=>z=qb) _).wr (fun _=>rfl) _;have s5:Sl (I.wr qb (ql.set (l x).length (i64 (-1)))) 1 (.slice (some ⟨qb,0,none⟩) f.length wc) f.length (f.map i64) (some qb):=by
   rw[Tz,ajN,akd];exact s4
  have MZ:f.length=tb.length:=Z;refine vs ?_;have m4:=m3.ext T O;generalize I.wr qb (ql.set (l x).length (Value.int .i64 (-1)))=H4 at*;obtain⟨Va,o4,_⟩:=m4.own;refine v1 (ae o4) ?_;refine(cB m4.cells y x).mono ?_;rintro _ H5 ⟨rfl,c5,e5⟩;have m5:=m4.aD c5 e5 rfl;have KM:y≠x:=fun e=>by cases f4;grind
  have R2:0<aH w x:=(f4.wm x (by simp)).2.2;rw[fT (w:=w) (a:=y) (b:=x) O R2];have s6:=s5.ext e5 Z;obtain⟨p,q,Vl,hl,f5,hpg⟩:∃p q,(if aU w y x=true then(p=y/\q=x)else(p=x/\q=y))/\aU w p q=true/\dY (aH w) (aU w) (bW E) l gD aq (p::q::(ws f++(roots.drop (i+1)++W0)))/\aH w p=g/\aH w q=g:=by
   cases iC:aU w y x
   ·exact⟨x,y,by simp,by grind [aU,Nw.key,Nw.seq],f4.perm (List.Perm.swap ..),Vj,hyg⟩
   grind
  cases iC:aU w y x<;>simp only[iC,if_true,if_false,akC]at Vl<;>obtain⟨rfl,rfl⟩:=Vl<;>refine vs ?_;all_goals
   refine(DT m5 (x:=p) (y:=q) f5 p2 O hl).mono ?_;rintro _ H6 ⟨N6,P6,L6,Vm,K6,m6,f6,p6,hc6,ho6,e6⟩;have hn6:=f6.wn;rw[aj1]at hn6;have s7:=s6.ext e6 Z;refine vs ?_;refine⟨(ws f).length,Z,p,N6,P6,L6,Vm,K6,f,_,some qb,rfl,m6,⟨?_,fun d z hd G=>?_,fun z G=>?_,fun z G=>?_,O⟩,p6,s7,u,((e3.trans (T.mono O)).trans (e5.mono fun z _ h=>.inl h)).trans (e6.mono O),by rw[MZ]⟩
   ·refine f6.perm ?_;grind
   ·grind
   ·cases r;grind
   cases r;grind
end
section
variable{n i:Nat}{H:Hp}{N tops:List Int}{g x:Int}
structure Ht(w:Nw)(N:List Int)(L:List Pc)(tops:List Int)(ch:Int->List Int)(ax:Int->Int)(aq:Int->List Int):Prop where
 f:dY (aH w) (aU w) (bW N) ch ax aq []
 pc:HP (fh L) ch ax
 tp:∀g,aQ tops g=(aq g).headD (-1)
 ls:∀g y,0<g->aH w y=g->aQ tops g≠ -1/\(y≠aQ tops g->aU w (aQ tops g) y=true)
 tl:tops.length=w.hs.length
def dS(n:Nat)(H:Hp)(S:Nat->Prop)(w:Nw):Prop:=∃ (B:FB) (C:Nat->Prop) (N P:List Int) (L:List Pc) (tops:List Int) (ch:Int->List Int) (ax:Int->Int) (aq:Int->List Int),B.n=n/\bQ H B C w N P L tops/\Ht w N L tops ch ax aq/\∀z,S z↔B.S C z
theorem dS.slt{S:Nat->Prop}{w:Nw}(h:dS n H S w):∀z,S z->z<H.size:=by
 obtain⟨B,C,N,P,L,tops,ch,ax,aq,rfl,m,l,x⟩:=h;exact fun z a=>m.slt z ((x z).1 a)
theorem dS.ext{J:Hp}{S V:Nat->Prop}{w:Nw}(h:dS n H S w)(e:aj V H J)(a:∀z,S z->¬V z):dS n J S w:=by
 obtain⟨B,C,N,P,L,tops,ch,ax,aq,rfl,m,l,x⟩:=h;exact⟨B,C,N,P,L,tops,ch,ax,aq,rfl,m.ext e Z,l,x⟩
theorem Ht.first{w:Nw}{L:List Pc}{ch:Int->List Int}{ax:Int->Int}{aq:Int->List Int}(l:Ht w N L tops ch ax aq)(h:w.first g x):aQ tops g=x:=by
 obtain⟨m,c,v⟩:=bi.1 h;obtain⟨z,e⟩:=l.ls g x m c;apply aj3;intro n;have y:=e (Ne.symm n);have t:aH w (aQ tops g)=g:=by
  have hm:aQ tops g∈aq g:=by
   have:=l.tp g;rw[this]at z ⊢;exact eO z
  exact(l.f.rm g _ hm).1
 have a:=v _ t n;rw[(au w).vH y]at a;cases a
theorem yD{S:Nat->Prop}{w:Nw}(h:dS n H S w)(g:Int):aF 312 [ptr n,i64 g] H fun v J=>ak (
  ((w.len g=0/\v= .tuple [i64 0,.bool false].toArray)\/∃x,w.first g x/\v= .tuple [i64 x,.bool true].toArray)/\J=H):=by
 obtain⟨B,C,N,P,L,tops,ch,ax,aq,rfl,m,l,p⟩:=h;obtain⟨d,lt,y,t,q,o,f⟩:=m.eh;refine aT sn ?_;refine v1 (ae y) ?_;refine(eW m.cells g).mono ?_;rintro _ _ ⟨rfl,rfl⟩;refine vs ?_;refine ai.dec (fun z=>?_) (fun z=>?_)
 ·refine vs ?_;exact⟨.inl ⟨z,rfl⟩,rfl⟩
 have c:0<g:=aj3 fun c=>z (Nw.E7.2 (.inl O));obtain⟨x,a⟩:=sI c z;have j:=(bi.1 a).2.1;have e:=((m.cells.hm x).2 O).2;rw[j,<-l.tl]at e;have r:=m.cS t (ce (tops:=tops) (h:=g) O e);rw[l.first a]at r;refine v1 (ae y) ?_;refine⟨O,?_⟩;refine v4 (ae t) ajJ ajM r ?_;exact⟨.inr ⟨x,a,rfl⟩,rfl⟩
theorem BP{S:Nat->Prop}{w:Nw}(h:dS n H S w)(g x k s:Int):aF 309 [ptr n,i64 g,i64 x,mE k s] H fun v J=>ak (
  (¬w.kC g x/\v= .bool false/\br (dS n) S H J w)\/(w.kC g x/\v= .bool true/\br (dS n) S H J (w.put x (g,k,s)))):=by
 obtain⟨B,C,N,P,L,tops,ch,ax,aq,rfl,m,l,t⟩:=h;have hC:∀z,C z->S z:=fun z h=>(t z).2 (.inl h);refine aT nZ ?_;refine vs ?_;have A:af H (H.new 190 [i64 k,u64 s]):=bD;have b0:(H.new 190 [i64 k,u64 s]).own H.size=some [i64 k,u64 s]:=am _ _ _;have p:=m.fresh A;generalize H.new 190 [i64 k,u64 s]=H0 at*;have K:aj S H H0:=A.mono fun _ _ h=>h.elim;obtain⟨tv,Hk,_⟩:=p.own;refine v2 (ae Hk) (ae b0) ?_;refine(j2 p.cells g x k s).mono ?_;rintro _ H1 (⟨mT,rfl,q,r⟩| ⟨E,rfl,q,r⟩)
 ·refine vs ?_;exact .inl ⟨mT,rfl,br.same ⟨B,C,N,P,L,tops,ch,ax,aq,rfl,p.aD q r rfl,l,t⟩ (K.trans (r.mono Z))⟩
 obtain⟨U,M,mA⟩:=id E;have m2:=p.aD q r (by simp[Nw.put]);have hg:=U.1;have xh:g<tops.length:=by
  have:=(ajK.1 U.2).1;have:=l.tl;omega
 have ke:=fun y=>dW M (g,k,s) y;have kh:aH w x<=0:=Int.not_lt.1 fun h=>mA (bg.1 h);have u:∀a b,0<aH w a->0<aH w b->a≠x->b≠x->aU (w.put x (g,k,s)) a b=aU w a b:=fun a b ha hb wS Ac=>dC M _ ha hb wS Ac;have f2:dY (aH (w.put x (g,k,s))) (aU (w.put x (g,k,s))) (bW N) ch ax aq (x::[]):=l.f.put (g:=g) rfl kh O O Z Z u;refine vs ?_;refine(vA m2 f2 Z xh (l.tp g)).mono ?_;rintro _ H3 ⟨X,P3,Xd,ll,m3,OA,D,f3,hor,Qz,Zf,I,e3⟩;refine vs ?_;have hhm:∀y,aH w y=g->y≠x:=Z;have hTg:aQ tops g≠ -1->aH w (aQ tops g)=g:=fun h=>by
  have hm:aQ tops g∈aq g:=by
   have:=l.tp g;rw[this]at h ⊢;exact eO h
  exact(l.f.rm g _ hm).1
 refine .inr ⟨E,rfl,br.same ⟨B,C,X,P3,L,Xd,ch,ax,_,rfl,m3,⟨f3,l.pc,fun g2=>?_,fun g2 y Nx j=>?_,by rw[OA];exact l.tl⟩,t⟩ ((K.trans (r.mono fun z _ h=>hC z h)).trans (e3.mono fun z _ h=>by
  rcases h with h|h|h|h
  ·grind
  ·exact(t z).2 (.inr O)
  ·exact(t z).2 (.inr O)
  ·exact(t z).2 (.inr O)))⟩
 ·rw[D];unfold cR aA;cases l;grind
 ·rw[D];unfold cR;rw[ke]at j;by_cases T:g2=g
  ·rw[if_pos T];refine⟨Qz,fun G=>?_⟩;by_cases d:y=x
   ·grind
   ·rw[if_neg d]at j;obtain⟨c,F⟩:=l.ls g y O O;have f:=hhm _ (hTg c);rcases hor with o| ⟨o,_⟩
    ·rw[o]at G I ⊢;have h6:=I c f;by_cases hyT:y=aQ tops g
     ·grind
     ·have Q:=F hyT;rw[<-u _ _ O O f d]at Q;exact(au _).tr _ _ _ h6 Q
    grind
  ·rw[if_neg T];have d:y≠x:=O;rw[if_neg d]at j;obtain⟨c,F⟩:=l.ls g2 y Nx j;refine⟨c,fun G=>?_⟩;have f:aQ tops g2≠x:=fun e=>by
    have hm:aQ tops g2∈aq g2:=by
     have:=l.tp g2;rw[this]at c ⊢;exact eO c
    have o:=(l.f.rm g2 _ hm).1;grind
   have hT2:aH w (aQ tops g2)=g2:=by
    have hm:aQ tops g2∈aq g2:=by
     have:=l.tp g2;rw[this]at c ⊢;exact eO c
    exact(l.f.rm g2 _ hm).1
   grind
theorem bQ.bounds{B:FB}{C:Nat->Prop}{w:Nw}{P:List Int}{L:List Pc}(m:bQ H B C w N P L tops):w.cs.length<=65536/\N.length=w.cs.length:=⟨m.cells.zf,m.len.2⟩
theorem oF{w:Nw}:∀x,0<aH w x->0<=x/\x<w.cs.length:=fun x h=>by
 obtain⟨a,b,_⟩:=aI h;omega
theorem oG{S:Nat->Prop}{w:Nw}(h:dS n H S w)(g:Int):aF 308 [ptr n,i64 g] H fun v J=>ak (
  (w.len g=0/\v= .tuple [i64 0,.bool false].toArray/\br (dS n) S H J w)\/(∃x,w.first g x/\v= .tuple [i64 x,.bool true].toArray/\br (dS n) S H J (w.put x (0,0,0)))):=by
 refine aT nB ?_;refine vs ?_;refine(yD h g).mono ?_;rintro _ J ⟨⟨h0,rfl⟩| ⟨x,hx,rfl⟩,e⟩
 ·obtain rfl:=e.symm;refine vs ?_;exact .inl ⟨h0,rfl,br.same h (aj.refl _ _)⟩
 obtain rfl:=e.symm;refine vs ?_;obtain⟨B,C,N,P,L,tops,ch,ax,aq,rfl,m,l,T⟩:=h;obtain⟨hg,Vj,tJ⟩:=bi.1 hx;have QT:=l.first hx;have kh:=oF (w:=w) x O;have ls:=au w;obtain⟨A,hr⟩:∃A,aq g=x::A:=by
  have p:=l.tp g;rw[QT]at p;cases hc:aq g with
  |nil=>grind
  |cons c r=>grind
 have xh:g<tops.length:=by
  have:=((m.cells.hm x).2 O).2;have:=l.tl;omega
 refine(sY m l.f l.pc hr).mono ?_;rintro _ H1 ⟨N1,P1,L1,A1,m1,M,p1,e1⟩;have Zh:aA aq g (x::A1) g=x::A1:=by unfold aA;grind
 obtain⟨MM,o1,_⟩:=m1.own;obtain⟨U8,hN1⟩:=m1.bounds;have Vi:=M.rc g;have eU:=M.rn g;rw[Zh]at Vi eU;have mA:∀c∈x::A1,0<=c/\c<w.cs.length:=fun c hc=>M.Ze (g:=g) Z;have hgm:∀c∈x::A1,aH w c=g:=fun c hc=>(M.rm g c Z).1;have ec:=cm eU mA;rw[ajX]at ec;refine v1 (ae o1) ?_;refine(nH m1.ring Vi eU Z O).mono ?_;rintro rv H2 ⟨b2,s2,PV,f2⟩;obtain⟨ra,t,rfl⟩:=Sl.shape s2;have m2:=m1.fresh f2;have z2:=f2.size;obtain⟨ML,o2,_⟩:=m2.own;have hS1:=m1.slt;have aa8:¬B.S C b2:=Z;obtain⟨_,l2,c2,Nq,q2,PS,S3,U7⟩:=id s2;injection Nq with Nq af1 Xe;subst Nq Xe;rw[ajM]at S3 U7;have ze:(x::A1).length=A1.length+1:=ajX;refine vs ?_;refine⟨O,?_⟩;refine vs ?_;obtain⟨o,Nv,TA⟩:∃o,(∀ (i:Nat) y,A1[i]? =some y->l2[o+i]? =some (i64 y))/\(Value.slice (if(t:Int)=1 then some ⟨b2,0,none⟩else some ⟨b2,1,none⟩) A1.length (t - 1))= .slice (some ⟨b2,o,none⟩) A1.length (t - 1):=by
  rw[ajX]at PS U7;by_cases p:(t:Int)=1
  ·grind
  ·refine⟨1,fun i y I=>?_,Z⟩;have hi:=(ajK.1 I).1;have h7:((x::A1).map i64)[1+i]? =some (i64 y):=by rw[Nat.add_comm,akJ,ak5,aj9,I];rfl
   grind
 have hv8:∀ (Xf:Decidable ((t:Int)=1)),Value.slice (@ite (Option Addr) ((t:Int)=1) Xf (some (⟨b2,0,none⟩:Addr)) (Option.map (fun(x:Addr)=>x.add (Int.toNat 1*1)) (some (⟨b2,0,none⟩:Addr)))) (((A1.length+1:Nat):Int).toNat - Int.toNat 1) ((t:Int).toNat - Int.toNat 1)=Value.slice (some ⟨b2,o,none⟩) A1.length (t - 1):=fun Xf=>by
  rw[show((A1.length+1:Nat):Int).toNat - Int.toNat 1=A1.length by simp,show(t:Int).toNat - Int.toNat 1=t - 1 by simp,<-TA];by_cases p:(t:Int)=1
  ·grind
  ·rw[if_neg p,if_neg p];rfl
 rw[hv8];generalize hR8:Value.slice (some ⟨b2,o,none⟩) A1.length (t - 1)=R8 at*;have tb_:S B.nb:=(T _).2 (.inr O);have tb2:S B.pb:=(T _).2 (.inr O);have tb3:S B.tb:=(T _).2 (.inr O);have tb4:S B.tp:=(T _).2 (.inr O);have hC:∀z,C z->S z:=fun z h=>(T z).2 (.inl h);have zg:aj S H H2:=(e1.mono Z).trans (f2.mono fun _ _ h=>h.elim);refine v1 (ae o2) ?_;refine(nH m2.ring Vi eU Z O).mono ?_;rintro rv H3 ⟨b3,s3,SO,f3⟩;obtain⟨ka,kc,rfl⟩:=Sl.shape s3;have m3:=m2.fresh f3;have q3:=f3.own q2 (fun h=>h);have z3:=f3.size;have Ty:aj S H H3:=zg.trans (f3.mono fun _ _ h=>h.elim);have af4:¬B.S C b3:=Z;have hSz:∀z,S z->z<H1.size:=Z;refine vs ?_;refine bj.intro (fun mm env J=>∃ (i:Nat) (D P':List Int),mm=(x::A1).length - i/\i<=(x::A1).length/\bQ J B C w D P' L1 tops/\dY (aH w) (aU w) (bW D) (aA ch x []) (fj ch ax x) (aA aq g ((x::A1).drop i)) ((x::A1).take i).reverse/\
  Sl J 1 (.slice ka (x::A1).length kc) (x::A1).length ((x::A1).map i64) (some b3)/\aj (fun z=>z=B.nb\/z=B.pb) H3 J/\
  env=[(0,ptr B.n),(1,i64 g),(6,i64 x),(8,R8),(36,.slice ka (x::A1).length kc),(37,i64 (x::A1).length),(38,i64 i)]) _ ⟨0,N1,P1,rfl,O,m3,M,s3,aj.refl _ _,rfl⟩ ?_
 rintro mm env H4 ⟨i,N4,P4,rfl,hi,q,f4,s4,e4,rfl⟩;obtain⟨Va,o4,_⟩:=q.own;refine vs ?_;refine ai.dec (fun gi=>?_) (fun gi=>?_)<;>refine vs ?_
 ·have K:i< (x::A1).length:=O;obtain⟨c,MQ⟩:∃c,(x::A1)[i]? =some c:=⟨_,ajL K⟩;have Zi:=mA c Z;obtain⟨_,kb,lb,rfl,qb,qc⟩:=Sl.wN s4 MQ;have hkb:kb=b3:=by
   obtain⟨_,_,_,F,_⟩:=s4;injection F with F;injection F with F;injection F with F
  have dr:(x::A1).drop i=c::(x::A1).drop (i+1):=by
   rw[akm K];congr 1;rw[ajL K]at MQ;injection MQ
  have tk:(x::A1).take (i+1)=(x::A1).take i++[c]:=by rw[aj2,MQ];rfl
  have Vn:=q.len;refine⟨O,?_⟩;refine v6 (ae qb) ajJ ajM Int.toNat_natCast qc (ae o4) ?_;refine(iV q.ring q.inv (x:=c) O).mono ?_;rintro _ H5 ⟨rfl,N5,P5,r5,l5,n5,i5,f⟩;have m5:=q.nI r5 i5 f l5;have f5:=f4.RC (x:=c) (g:=g) (A:=(x::A1).drop (i+1)) q.inv (by unfold aA;grind);rw[cP,<-n5]at f5;refine vs ?_;refine⟨(x::A1).length - (i+1),O,i+1,N5,P5,rfl,O,m5,?_,s4.ext f Z,e4.trans f,?_⟩
  ·grind
  grind [wrap64]
 obtain rfl:i=(x::A1).length:=O;rw[ald,aj8]at f4;have Fh:aj S H H4:=Ty.trans (e4.mono Z);have z4:=e4.size;have q4:=e4.own q3 Z;obtain⟨cc,Zg,o4',q5,EA,Jm,JS⟩:=q.eh;refine v1 (ae o4') ?_;refine⟨O,?_⟩;refine v3 q5 ajJ ajM ?_;refine⟨O,?_⟩;obtain⟨m5,f⟩:=q.fJ q5 g.toNat (-1);refine vs ?_;have q6:=f.own q4 Z;have RZ:=Fh.trans (f.mono Z);have z5:=f.size;generalize H4.wr B.tp (Zg.set g.toNat (Value.int .i64 (-1)))=H5 at*;have t0:MY w g (bW N4) (aA ch x []) (aA ch x []) (fj ch ax x) (aA aq g []) [] A1 [x]:=by
  refine⟨f4.perm ?_,Z,Z,fun _ _=>rfl,by simp⟩;show List.Perm _ (A1++[x]);exact Z
 have abc:¬B.S C b2:=aa8;subst hR8;refine(Fp m5 q6 Nv abc t0 p1 O).mono ?_;rintro tv H6 ⟨N6,P6,L6,Vm,K6,Fo,fq,m6,t6,p6,s6,Vo,e6⟩;obtain⟨ta,tc,rfl⟩:=Sl.shape s6;have WU:=t6.tl;have Nr:aj S H H6:=RZ.trans (e6.mono Z);refine vs ?_;have hf6:=t6.f;rw[akh]at hf6;have TB:aQ (tops.set g.toNat (-1))=cR (aQ tops) g (([]:List Int).headD (-1)):=by grind [cR,aQ]
 refine bj.intro (fun mm env J=>∃ (i:Nat) (D P' OW l':List Int),mm=Fo.length - i/\i<=Fo.length/\bQ J B C w D P' L6 OW/\OW.length=tops.length/\aQ OW=cR (aQ tops) g (l'.headD (-1))/\
  dY (aH w) (aU w) (bW D) Vm K6 (aA aq g l') (ws (Fo.drop i)++[x])/\
  (∀c,aH w c=g->K6 c= -1->c∉ws (Fo.drop i)++[x]->l'.headD (-1)≠ -1/\(c≠l'.headD (-1)->aU w (l'.headD (-1)) c=true))/\
  Sl J 1 (.slice ta Fo.length tc) Fo.length (Fo.map i64) fq/\aj S H6 J/\
  env=[(0,ptr B.n),(1,i64 g),(6,i64 x),(57,.slice ta Fo.length tc),(58,i64 Fo.length),(59,i64 i)]) _ ⟨0,N6,P6,_,[],rfl,O,m6,Z,TB,hf6,fun c p h2 u=>?_,s6,aj.refl _ _,rfl⟩ ?_
 ·exfalso;rcases hf6.xi c O h2 with X|X
  ·rw[p]at X;unfold aA at X;grind
  grind
 rintro mm env H7 ⟨i,N7,P7,Jr,G,rfl,hi7,m7,Xa,Q,j,d,s7,e7,rfl⟩;have af6:Fo.length<=65537:=O;refine vs ?_;refine ai.dec (fun gi=>?_) (fun gi=>?_)<;>refine vs ?_
 ·have K:i<Fo.length:=O;obtain⟨r,Zj⟩:∃r,Fo[i]? =some r:=⟨_,ajL K⟩;obtain⟨_,kb,lb,rfl,qb,qc⟩:=Sl.wN s7 Zj;have hkb:fq=some kb:=by
   cases fq with
   |none=>have:=s7.2.2;grind
   |some b'=>obtain⟨_,_,p,_⟩:=s7.2;grind
  have af7:=Vo kb hkb;have dr:Fo.drop i=r::Fo.drop (i+1):=by
   rw[akm K];congr 1;rw[ajL K]at Zj;injection Zj
  refine⟨O,?_⟩;refine v5 (ae qb) ajJ ajM Int.toNat_natCast qc ?_;rw[dr,mH,eu]at j d;refine ai.dec (fun gr=>?_) (fun gr=>?_)<;>refine vs ?_;rotate_left
  ·rw[if_neg gr]at j d;simp only[akI,akh]at j d;obtain⟨_,R3⟩:=t6.td i r Zj gr;have U:aQ Jr g=G.headD (-1):=by rw[Q];unfold cR;omega
   refine(vA m7 j R3 O (by rw[U];unfold aA;grind)).mono ?_;rintro _ H8 ⟨N8,P8,Xg,l8,m8,hl8,ht8,E,hor,Qz,Zf,hlT,e8⟩;rw[cP]at E;rw[U]at hlT;have e8':aj S H7 H8:=e8.mono Z;refine vs ?_;refine⟨Fo.length - (i+1),O,i+1,N8,P8,Xg,l8,rfl,O,m8,O,?_,E,fun c p h2 u=>⟨Qz,fun nj=>?_⟩,s7.ext e8' Z,e7.trans e8',?_⟩
   ·rw[ht8,Q];funext z;unfold cR;omega
   ·cases ls;grind
   grind [wrap64]
  ·rw[if_pos gr]at j d;rw[akh]at j d;refine⟨Fo.length - (i+1),O,i+1,N7,P7,Jr,G,rfl,O,m7,Xa,Q,j,d,s7,e7,?_⟩;grind [wrap64]
 obtain rfl:i=Fo.length:=O;rw[ald]at j d;have Zk:ws ([]:List Int)++[x]=[x]:=rfl;rw[Zk]at j d;obtain⟨tv7,o7,_⟩:=m7.own;refine v1 (ae o7) ?_;refine(bZ m7.cells x).mono ?_;have abe:cz w.cs x:=bg.1 O;rintro _ H8 (⟨mT,_,_⟩| ⟨_,rfl,c8,e8⟩)
 ·exact absurd abe mT
 have m8:=m7.aD c8 e8 (by simp[Nw.put]);refine vs ?_;have ke:=fun y=>dW (w:=w) kh (0,0,0) y;have w0:aH (w.put x (0,0,0)) (-1)=0:=rfl;have w1:aH (w.put x (0,0,0)) x=0:=Z;have w2:∀y,y≠x->aH (w.put x (0,0,0)) y=aH w y:=Z;have el:∀a b,0<aH w a->0<aH w b->a≠x->b≠x->aU (w.put x (0,0,0)) a b=aU w a b:=fun a b ha hb wS Ac=>dC kh _ ha hb wS Ac;have E:=j.drop (hm':=aH (w.put x (0,0,0))) (lt':=aU (w.put x (0,0,0))) (by
  rw[t6.c0 x (by simp)];unfold aA;grind) w0 w1 w2 el
 have hrm:∀g2 c,c∈aA aq g G g2->aH w c=g2/\c≠x:=fun g2 c hc=>by
  cases j;grind
 refine .inr ⟨x,hx,rfl,br.same ⟨B,C,N7,P7,L6,Jr,Vm,K6,_,rfl,m8,⟨E,p6,fun g2=>?_,fun g2 y Nx I=>?_,by rw[Xa];exact l.tl⟩,T⟩ ((Nr.trans e7).trans (e8.mono fun z _ h=>hC z h))⟩
 ·rw[Q];unfold cR aA;split
  ·rfl
  ·exact l.tp g2
 ·by_cases h2:g2=g
  ·have U:aQ Jr g2=G.headD (-1):=by rw[Q,h2];unfold cR;omega
   rw[U];refine E.pr.lead (au _) (fun z hz=>oF z hz) Nx (fun c hc hcp=>?_) I;have QB:c≠x:=Z;rw[w2 c QB]at hc;obtain⟨u,X⟩:=d c O hcp Z;refine⟨u,fun nj=>?_⟩;obtain⟨h5,h6⟩:=hrm g _ (show G.headD (-1)∈aA aq g G g by unfold aA;grind [eO]);grind
  ·have U:aQ Jr g2=aQ tops g2:=by rw[Q];unfold cR;omega
   rw[U];have KM:y≠x:=Z;rw[w2 y KM]at I;obtain⟨u,X⟩:=l.ls g2 y Nx I;refine⟨u,fun nj=>?_⟩;have h5:aH w (aQ tops g2)=g2:=by
    have hm:aQ tops g2∈aq g2:=by
     have:=l.tp g2;rw[this]at u ⊢;exact eO u
    exact(l.f.rm g2 _ hm).1
   grind
theorem Fq{S:Nat->Prop}{w:Nw}(h:dS n H S w):aF 310 [ptr n] H fun v J=>ak (
  (w.hs.length=65537/\v=i64 0/\br (dS n) S H J w)\/(w.hs.length≠65537/\v=i64 w.hs.length/\br (dS n) S H J w.make)):=by
 obtain⟨B,C,N,P,L,tops,ch,ax,aq,rfl,m,l,a⟩:=id h;obtain⟨tv,o,X⟩:=m.own;refine aT qT ?_;refine v1 (ae o) ?_;refine(iP m.cells).mono ?_;rintro _ H1 (⟨j,rfl,rfl⟩| ⟨j,rfl,r,p,c,D⟩)
 ·refine vs ?_;exact .inl ⟨j,rfl,br.same h (aj.refl _ _)⟩
 have pV:=m.cells.pos;have hhs:=m.cells.JP;have WU:=l.tl;have slt:=m.slt;have Td:=p.slt;obtain⟨n1,n2,n3,n4,n5,n6⟩:=m.out;obtain⟨⟨K,T,F,Q,U⟩,⟨d6,d7,d8,I⟩,⟨d10,d11,d12⟩⟩:=m.ly;have u:=c.own o n1;refine vs ?_;refine ai.bY Z ?_;refine v1 (ae u) ?_;have s1:=X.ext c Z;refine LL s1 (-1) O fun w' d b' M s2 e=>?_;have A:=e.own u U;obtain⟨wa,wc,f⟩:=Sl.shape s2;subst f;refine v1 A ?_;generalize f:Value.slice wa (tops++[-1]).length wc=w' at*;have t:aj (fun z=>z=B.n) d (d.wr B.n [ptr B.c,ptr B.r,.slice (some ⟨B.tb,0,none⟩) L.length L.length,w']):=(aj.refl (fun z=>z=B.n) _).wr (fun _=>rfl) _;have z1:=c.size;have q1:=slt _ (.inr (.inl rfl));have q2:=slt _ (.inr (.inr (.inl rfl)));have q3:=slt _ (.inr (.inr (.inr (.inl rfl))));have q4:=slt _ (.inr (.inr (.inr (.inr (.inl rfl)))));have q5:=slt _ (.inr (.inr (.inr (.inr (.inr (.inl rfl))))));have q6:=slt _ (.inr (.inr (.inr (.inr (.inr (.inr rfl))))));have Y2:∀z,r z->z≠b'/\(z<H.size->C z):=Z;refine .inr ⟨j,rfl,(FB.mk B.n B.c B.r B.nb B.pb B.tb b').S r,⟨⟨B.n,B.c,B.r,B.nb,B.pb,B.tb,b'⟩,r,N,P,L,tops++[-1],ch,ax,aq,rfl,⟨⟨w',ah A,s2.ext t Z⟩,?_,?_,m.inv,?_,m.len,?_,?_⟩,⟨l.f,l.pc,fun g=>by rw[yi];exact l.tp g,fun g y E hy=>by rw[yi];exact l.ls g y E hy,?_⟩,fun z=>Iff.rfl⟩,?_,fun z x=>?_⟩
 ·exact(p.ext e Z).ext t Z
 ·exact((m.ring.ext c n2 n3 n4).ext e (Ne.symm d10) (Ne.symm d11) (Ne.symm d12)).ext t (Ne.symm K) (Ne.symm T) (Ne.symm F)
 ·exact t.own (e.own (c.own m.places n5) I) (Ne.symm Q)
 ·grind
 ·grind
 ·simp[Nw.make,WU]
 ·exact((c.mono fun z _ h=>(a z).2 (.inl h)).trans (e.mono fun z _ h=>(a z).2 (.inr O))).trans (t.mono fun z _ h=>(a z).2 (.inr (.inl h)))
 ·rcases x with x|x|x|x|x|x|x
  ·rcases D z x with q|q
   ·exact .inl ((a z).2 (.inl q))
   omega
  ·exact .inl ((a _).2 (.inr (.inl x)))
  ·exact .inl ((a _).2 (.inr (.inr (.inl x))))
  ·exact .inl ((a _).2 (.inr Z))
  ·exact .inl ((a _).2 (.inr Z))
  ·exact .inl ((a _).2 (.inr Z))
  ·rcases M with G|G
   ·exact .inl ((a _).2 (.inr Z))
   grind
def qG(n i:Nat):List Int:=(List.range i).map (fun(k:Nat)=>(k:Int))++List.replicate (n - i) 0
theorem Cj(h:i<=n):(qG n i).length=n:=by unfold qG;grind
theorem QU(h:i<n):(qG n i).set i (i:Int)=qG n (i+1):=by
 unfold qG;rw[ala _ _ (by simp),aka,List.length_range,alj,show n - i=(n - (i+1))+1 by omega,akv,alk,List.range_succ,akn];simp
theorem TC(n:Nat)(x:Int):bW (qG n n) x=x:=by
 grind [qG,bW]
theorem Fs(H:Hp){n:Int}(hn:0<=n/\n<=65536):aF 124 [i64 n] H fun v J=>ak (∃r l pb N P,v= .tuple [ptr r,i64 0].toArray/\gf J r l pb N P/\N.length=n.toNat/\(∀x,bW N x=x)/\xm (bW N) (bW P)/\af H J/\H.size<=r/\H.size<=l/\H.size<=pb):=by
 refine aT Ks ?_;refine vs ?_;refine ai.dec (fun g=>absurd g O) (fun _=>?_);refine vs ?_;refine ai.dec (fun g=>absurd g O) (fun _=>?_);refine vs ?_;have Q:(List.replicate n.toNat (0:Int))=qG n.toNat 0:=by unfold qG;simp
 refine cZ.intro (fun J=>True) trivial ?_;refine vs ?_;refine tR.intro ?A ?B;case' A=>
  refine vs ?_;refine⟨O,?_⟩;refine vs ?_;refine⟨O,?_⟩;refine vs ?_;rw[DF,Q];obtain⟨l,d⟩:∃l,l=H.size:=⟨_,rfl⟩;obtain⟨pb,q⟩:∃pb,pb=H.size+1:=⟨_,rfl⟩;have K:af H (((H.new 3 ((qG n.toNat 0).map i64)).new 3 ((qG n.toNat 0).map i64)).new 292 [.slice (some ⟨H.size,0,none⟩) n.toNat n.toNat,.slice (some ⟨H.size+1,0,none⟩) n.toNat n.toNat]):=(bD.new _ _).new _ _;have T:gf (((H.new 3 ((qG n.toNat 0).map i64)).new 3 ((qG n.toNat 0).map i64)).new 292 [.slice (some ⟨H.size,0,none⟩) n.toNat n.toNat,.slice (some ⟨H.size+1,0,none⟩) n.toNat n.toNat]) (H.size+1+1) l pb (qG n.toNat 0) (qG n.toNat 0):=by
   subst d q;refine⟨?_,?_,?_,rfl,O,O,O⟩
   ·rw[Cj (Nat.zero_le _)];exact az (by simp only[ag])
   ·rw[ay (by simp only[ag];omega),ay (by simp only[ag];omega),am]
   ·rw[ay (by simp only[ag];omega)];exact az (by simp only[ag])
  generalize ((H.new 3 ((qG n.toNat 0).map i64)).new 3 ((qG n.toNat 0).map i64)).new 292 [.slice (some ⟨H.size,0,none⟩) n.toNat n.toNat,.slice (some ⟨H.size+1,0,none⟩) n.toNat n.toNat]=o at*;have p:H.size<=l/\H.size<=pb:=O
 case' B=>
  refine vs ?_;refine⟨O,?_⟩;refine vs ?_;refine⟨O,?_⟩;refine vs ?_;rw[DF,Q];obtain⟨l,d⟩:∃l,l=H.size+1:=⟨_,rfl⟩;obtain⟨pb,q⟩:∃pb,pb=H.size:=⟨_,rfl⟩;have K:af H (((H.new 3 ((qG n.toNat 0).map i64)).new 3 ((qG n.toNat 0).map i64)).new 292 [.slice (some ⟨H.size+1,0,none⟩) n.toNat n.toNat,.slice (some ⟨H.size,0,none⟩) n.toNat n.toNat]):=(bD.new _ _).new _ _;have T:gf (((H.new 3 ((qG n.toNat 0).map i64)).new 3 ((qG n.toNat 0).map i64)).new 292 [.slice (some ⟨H.size+1,0,none⟩) n.toNat n.toNat,.slice (some ⟨H.size,0,none⟩) n.toNat n.toNat]) (H.size+1+1) l pb (qG n.toNat 0) (qG n.toNat 0):=by
   subst d q;refine⟨?_,?_,?_,rfl,O,O,O⟩
   ·rw[Cj (Nat.zero_le _)];exact az (by simp only[ag])
   ·rw[ay (by simp only[ag];omega)];exact az (by simp only[ag])
   ·rw[ay (by simp only[ag];omega),ay (by simp only[ag];omega),am]
  generalize ((H.new 3 ((qG n.toNat 0).map i64)).new 3 ((qG n.toNat 0).map i64)).new 292 [.slice (some ⟨H.size+1,0,none⟩) n.toNat n.toNat,.slice (some ⟨H.size,0,none⟩) n.toNat n.toNat]=o at*;have p:H.size<=l/\H.size<=pb:=O
 all_goals
  refine bj.intro (fun m env J=>∃j:Nat,m=n.toNat - j/\j<=n.toNat/\aj (fun z=>z=l\/z=pb) o J/\gf J (H.size+1+1) l pb (qG n.toNat j) (qG n.toNat j)/\
   env=[(4,ptr (H.size+1+1)),(18,i64 n),(19,i64 j)]) n.toNat ⟨0,O,O,aj.refl _ _,T,rfl⟩ ?_
  rintro m env c ⟨j,rfl,D,u,a,rfl⟩;have M:=Cj D;obtain⟨I,G,f⟩:=a.ne;refine vs ?_;refine ai.dec (fun E=>?_) (fun E=>?_)<;>refine vs ?_
  ·refine v1 (ae a.own) ?_;refine⟨O,?_⟩;refine v4 a.LU ajJ ajM Int.toNat_natCast ?_;refine⟨Z,?_⟩;refine vs ?_;have y:aj (fun z=>z=l) c (c.wr l (((qG n.toNat j).map i64).set j (i64 j))):=(aj.refl (fun z=>z=l) _).wr (fun _=>rfl) _;have q2:(c.wr l (((qG n.toNat j).map i64).set j (i64 j))).own l=some (((qG n.toNat j).map i64).set j (i64 j)):=ah a.LU;generalize c.wr l (((qG n.toNat j).map i64).set j (i64 j))=e at*;have U:=y.own a.R1 (Ne.symm f);refine⟨O,?_⟩;refine v5 U a.R1 ajJ ajM Int.toNat_natCast ?_;refine⟨Z,?_⟩;refine vs ?_;have t:aj (fun z=>z=pb) e (e.wr pb (((qG n.toNat j).map i64).set j (i64 j))):=(aj.refl (fun z=>z=pb) _).wr (fun _=>rfl) _;have q3:(e.wr pb (((qG n.toNat j).map i64).set j (i64 j))).own pb=some (((qG n.toNat j).map i64).set j (i64 j)):=ah U;have X:((qG n.toNat j).map i64).set j (i64 j)=(qG n.toNat (j+1)).map i64:=by rw[<-QU O,akd]
   rw[wrap64 (n:=(j:Int)+1) O O];refine⟨n.toNat - (j+1),O,j+1,rfl,O,(u.trans (y.mono fun z _ h=>.inl h)).trans (t.mono fun z _ h=>.inr h),⟨?_,?_,?_,rfl,a.ne⟩,rfl⟩
   ·have F:=t.own (y.own a.own I) G;rw[M]at F;rw[Cj O];exact F
   ·rw[<-X];exact t.own q2 f
   grind
  ·obtain rfl:j=n.toNat:=O;exact⟨_,l,pb,_,_,rfl,a,O,TC _,⟨by grind [qG,bW],by grind [qG,bW]⟩,K.then u O,O,p.1,p.2⟩
theorem yE{S:Nat->Prop}{w:Nw}(h:dS n H S w)(x k s:Int):aF 306 [ptr n,i64 x,mE k s] H fun v J=>ak (
  (¬w.dD x k s/\v= .bool false/\br (dS n) S H J w)\/(w.dD x k s/\v= .bool true/\∃y,w.cs[x.toNat]? =some y/\br (dS n) S H J (w.put x (y.1,k,s)))):=by
 obtain⟨B,C,N,P,L,tops,ch,ax,aq,rfl,m,l,o⟩:=h;have hC:∀z,C z->S z:=fun z h=>(o z).2 (.inl h);have tb_:S B.nb:=(o _).2 (.inr O);have tb2:S B.pb:=(o _).2 (.inr O);have tb3:S B.tb:=(o _).2 (.inr O);have tb4:S B.tp:=(o _).2 (.inr O);refine aT mD ?_;refine vs ?_;have f0:af H (H.new 190 [i64 k,u64 s]):=bD;have b0:(H.new 190 [i64 k,u64 s]).own H.size=some [i64 k,u64 s]:=am _ _ _;have m0:=m.fresh f0;generalize H.new 190 [i64 k,u64 s]=H0 at*;have ff:aj S H H0:=f0.mono fun _ _ h=>h.elim;obtain⟨tv,Hk,_⟩:=m0.own;refine v2 (ae Hk) (ae b0) ?_;refine(gH m0.cells x k s).mono ?_;rintro _ H1 (⟨mT,rfl,c1,e1⟩| ⟨mA,rfl,y,hy,mi,c1,e1⟩)
 ·refine vs ?_;exact .inl ⟨mT,rfl,br.same ⟨B,C,N,P,L,tops,ch,ax,aq,rfl,m0.ext e1 (fun _ _ h=>h),l,o⟩ (ff.trans (e1.mono fun _ _ h=>h.elim))⟩
 have tJ:(w.put x (y.1,k,s)).cs.length=w.cs.length:=by simp[Nw.put]
 have m1:=m0.aD c1 e1 tJ;have yp:w.dD x k s:=⟨mA,Z⟩;have hx:0<=x/\x<w.cs.length:=⟨mA.1,Z⟩;have Y3:aH w x=y.1:=iO mA.1 hy;have FO:=bg.2 mA;have d:aH (w.put x (y.1,k,s))=aH w:=by
  funext z;rw[dW hx];split
  ·grind
  ·rfl
 have Hl:cz (w.put x (y.1,k,s)).cs x:=bg.1 (by simp_all);have el:∀a b,0<aH w a->0<aH w b->a≠x->b≠x->aU (w.put x (y.1,k,s)) a b=aU w a b:=fun a b ha hb wS Ac=>dC hx _ ha hb wS Ac;have ex:∀b,0<aH w b->b≠x->aU w x b=true->aU (w.put x (y.1,k,s)) x b=true:=fun b hb Ac h=>yf mA hy mi hb Ac h;have ls:=au w;have D:=au (w.put x (y.1,k,s));obtain⟨g,hg⟩:∃g,g=aH w x:=⟨_,rfl⟩;have xh:g<tops.length:=by
  have:=((m.cells.hm x).2 FO).2;have:=l.tl;omega
 have QV:∀z,aH w z=g->aQ tops g≠ -1/\(z≠aQ tops g->aU w (aQ tops g) z=true):=fun z j=>l.ls g z O j;obtain⟨M0,QW⟩:=QV x hg.symm;obtain⟨T,I⟩:∃T,T=aQ tops g:=⟨_,rfl⟩;rw[<-I]at M0 QW QV;have agc:=FO;have hhl:(w.put x (y.1,k,s)).hs.length=w.hs.length:=by simp[Nw.put]
 obtain⟨A,hr⟩:∃A,aq g=T::A:=by
  have u:=l.tp g;rw[<-I]at u;cases hc:aq g with
  |nil=>grind
  |cons c r=>grind
 have hTg:=(l.f.rm g T Z).1;have hTp:=(l.f.rm g T Z).2.1;have hT0:0<aH w T:=O;generalize Xh:w.put x (y.1,k,s)=w' at*;obtain⟨MM,o1,_⟩:=m1.own;refine v1 (ae o1) ?_;refine(bF m1.cells x).mono ?_;rintro _ H2 (⟨mT,_,_⟩| ⟨_,rfl,c2,e2⟩)
 ·exact absurd Hl mT
 have K:=m1.aD c2 e2 rfl;have zg:aj S H H2:=(ff.trans (e1.mono fun z _ h=>hC z h)).trans (e2.mono fun z _ h=>hC z h);rw[d,<-hg];obtain⟨ML,o2,_⟩:=K.own;have Oq:=K.len;have Ta:0<=x/\x<w'.cs.length:=by rw[tJ];exact hx
 obtain⟨a0,a1,a2,a3,a4⟩:=K.rd Ta;obtain⟨ux,_,_⟩:=l.pc x;rw[ux]at a1;refine v1 (ae o2) ?_;refine⟨O,?_⟩;refine v4 (ae K.places) ajJ Nat.add_zero a1 ?_;have e0:aA aq g (T::A)=aq:=by
  funext z;unfold aA;split
  ·grind
  ·rfl
 have PX:(ax x= -1\/aU w' (ax x) x=true)->dY (aH w') (aU w') (bW N) ch ax (aA aq g (T::A)) []:=fun hor=>by
  rw[e0,d];refine l.f.other fun z c hc u h2 h3=>?_;by_cases j:z=x
  ·cases ls;grind
  ·by_cases QB:c=x
   ·rw[QB]at hc ⊢;obtain⟨d1,d2,_⟩:=l.f.pr.dn z x hc;grind
   grind
 refine ai.dec (fun h0=>?A) (fun h0=>?B);case' A=>
  refine vs ?_;obtain⟨H3,eH⟩:∃H3,H3=H2:=⟨_,rfl⟩;rw[<-eH]at K zg ⊢;obtain⟨Q,X,M,U,p,A3,F,f,p3,e3⟩:∃E P' L' iw dt A',bQ H3 B C w' E P' L' tops/\dY (aH w') (aU w') (bW E) iw dt (aA aq g (T::A')) []/\HP (fh L') iw dt/\aj S H H3:=⟨N,P,L,ch,ax,A,K,PX (.inl h0),l.pc,zg⟩
 case' B=>
  have Xi:=l.f.pr.up x _ rfl h0;obtain⟨_,_,hph,hp1,ST⟩:=l.f.pr.dn _ _ Xi;have FO:ax x≠x:=fun e=>by cases ls;grind
  refine v1 (ae o2) ?_;refine(cB K.cells x (ax x)).mono ?_;rintro _ H4 ⟨rfl,c4,e4⟩;have m4:=K.aD c4 e4 rfl;have Fh:=zg.trans (e4.mono fun z _ h=>hC z h);rw[fT (w:=w') (a:=x) (b:=ax x) (by simp_all) (by simp_all)];cases iC:aU w' x (ax x);case' false=>
   refine vs ?_;obtain⟨H3,eH⟩:∃H3,H3=H4:=⟨_,rfl⟩;rw[<-eH]at m4 Fh ⊢;obtain⟨Q,X,M,U,p,A3,F,f,p3,e3⟩:∃E P' L' iw dt A',bQ H3 B C w' E P' L' tops/\dY (aH w') (aU w') (bW E) iw dt (aA aq g (T::A')) []/\HP (fh L') iw dt/\aj S H H3:=⟨N,P,L,ch,ax,A,m4,PX (by grind [aU,Nw.key,Nw.seq]),l.pc,Fh⟩
  case' true=>
   refine vs ?_;refine(qF m4 ls (x:=x) (g:=g) (t:=T) (A:=A) (by rw[d];exact l.f) l.pc (by simp_all) O xh hr I.symm).mono ?_;rintro _ H3 ⟨Q,X,M,U,p,A3,F,f3',p3,u3,_,e5⟩;have e3:=Fh.trans (e5.mono Z);have f:dY (aH w') (aU w') (bW Q) U p (aA aq g (T::A3)) []:=by
    refine f3'.other fun z c hc u h2 h3=>?_;rw[d]at u h2;have QB:c≠x:=fun e=>by
     obtain⟨d1,d2,_⟩:=f3'.pr.dn z c hc;grind
    by_cases j:z=x
    ·grind
    ·grind
   refine vs ?_
 all_goals
  have Xj:aA aq g (T::A3) g=T::A3:=by unfold aA;grind
  obtain⟨cc,lt3,o3,q3,EA,Jm,JS⟩:=F.eh;have q4:=F.cS q3 (ce (tops:=tops) (h:=g) O xh);rw[<-I]at q4;refine v1 (ae o3) ?_;refine⟨O,?_⟩;refine v4 (ae q3) ajJ ajM q4 ?_;have TD:∀g2 z,g2≠g->0<g2->aH w' z=g2->aQ tops g2≠ -1/\(z≠aQ tops g2->aU w' (aQ tops g2) z=true):=fun g2 z nj Nx j=>by
   rw[d]at j;obtain⟨u,h2⟩:=l.ls g2 z Nx j;refine⟨u,fun G=>?_⟩;have h5:aH w (aQ tops g2)=g2:=by
    have hm:aQ tops g2∈aq g2:=by
     have:=l.tp g2;rw[this]at u ⊢;exact eO u
    exact(l.f.rm g2 _ hm).1
   grind
  have WS:∀g2,aQ tops g2=(aA aq g (T::A3) g2).headD (-1):=fun g2=>by
   unfold aA;cases l;grind
  refine ai.dec (fun h5=>?_) (fun h5=>?_)
  ·refine vs ?_;refine .inr ⟨yp,rfl,y,hy,?_⟩;rw[Xh];refine br.same ⟨B,C,Q,X,M,tops,U,p,_,rfl,F,⟨f,p3,WS,fun g2 z Nx j=>?_,by rw[l.tl,hhl]⟩,o⟩ e3;by_cases q:g2=g
   ·rw[q,<-I];refine⟨M0,fun G=>?_⟩;rw[d,q]at j;have h7:=(QV z j).2 G;rw[h5]at h7 G ⊢;exact ex z O G h7
   ·exact TD g2 z q Nx j
  refine v1 (ae o3) ?_;refine⟨O,?_⟩;refine v4 (ae q3) ajJ ajM q4 ?_;refine(cB F.cells x T).mono ?_;rintro _ H6 ⟨rfl,c6,e6⟩;have m6:=F.aD c6 e6 rfl;have Nr:=e3.trans (e6.mono fun z _ h=>hC z h);rw[fT (w:=w') (a:=x) (b:=T) (by rw[d];omega) (by rw[d];omega)];cases MZ:aU w' x T
  ·refine vs ?_;refine .inr ⟨yp,rfl,y,hy,?_⟩;rw[Xh];refine br.same ⟨B,C,Q,X,M,tops,U,p,_,rfl,m6,⟨f,p3,WS,fun g2 z Nx j=>?_,by rw[l.tl,hhl]⟩,o⟩ Nr;by_cases q:g2=g
   ·rw[q,<-I];refine⟨M0,fun G=>?_⟩;rw[d,q]at j;cases D;grind
   grind
  ·obtain⟨cc,lt6,o6,q6,EA,Jm,JS⟩:=m6.eh;refine v1 (ae o6) ?_;refine⟨O,?_⟩;refine v3 q6 ajJ ajM ?_;refine⟨O,?_⟩;obtain⟨m7,e7⟩:=m6.fJ q6 g.toNat x;refine vs ?_;have MX:p x= -1:=by
    apply aj3;intro hp;obtain⟨_,d2,d3,d4,d5⟩:=f.pr.dn _ _ (f.pr.up x _ rfl hp);rw[d]at d3 d4;by_cases e:p x=T
    ·rw[e]at d5;rw[D.vH d5]at MZ;cases MZ
    ·have h9:=(QV (p x) O).2 e;have abg:p x≠x:=fun e=>by rw[e,D.HO]at d5;cases d5
     rw[<-el _ _ O O h5 abg]at h9;rw[D.vH (D.tr _ _ _ h9 d5)]at MZ;cases MZ
   have hxm:x∈aA aq g (T::A3) g:=by
    rcases f.xi x (by rw[d];omega) MX with h|h
    ·rw[d,<-hg]at h;exact h
    ·cases h
   obtain⟨A7,_,f7⟩:=f.from_ hxm;rw[cP]at f7;refine .inr ⟨yp,rfl,y,hy,?_⟩;rw[Xh];refine br.same ⟨B,C,Q,X,M,_,U,p,_,rfl,m7,⟨f7,p3,fun g2=>?_,fun g2 z Nx j=>?_,by cases l;grind⟩,o⟩ (Nr.trans (e7.mono Z))
   ·rw[dN O xh];unfold cR aA;cases l;grind
   ·rw[dN O xh];unfold cR;by_cases q:g2=g
    ·rw[if_pos q];refine⟨O,fun G=>?_⟩;rw[d,q]at j;cases D;grind
    grind
theorem Ht.head{w:Nw}{L:List Pc}{ch:Int->List Int}{ax:Int->Int}{aq:Int->List Int}(l:Ht w N L tops ch ax aq)(h:aQ tops g≠ -1):∃A,aq g=aQ tops g::A:=by
 have x:=l.tp g;cases z:aq g with
 |nil=>grind
 |cons c r=>grind
theorem BQ{S:Nat->Prop}{w:Nw}(h:dS n H S w)(x:Int):aF 307 [ptr n,i64 x] H fun v J=>ak (
  (¬cz w.cs x/\v= .bool false/\br (dS n) S H J w)\/(cz w.cs x/\v= .bool true/\br (dS n) S H J (w.put x (0,0,0)))):=by
 obtain⟨B,C,N,P,L,tops,ch,ax,aq,rfl,m,l,c⟩:=id h;have hC:∀z,C z->S z:=fun z h=>(c z).2 (.inl h);have tb_:S B.nb:=(c _).2 (.inr O);have tb2:S B.pb:=(c _).2 (.inr O);have tb3:S B.tb:=(c _).2 (.inr O);obtain⟨tv,o0,_⟩:=m.own;refine aT nY ?_;refine v1 (ae o0) ?_;refine(bF m.cells x).mono ?_;rintro _ H1 (⟨K,rfl,rfl⟩| ⟨q,rfl,c1,f⟩)
 ·refine vs ?_;exact .inl ⟨K,rfl,br.same h (aj.refl _ _)⟩
 have o:=m.aD c1 f rfl;have T:=bg.2 q;obtain⟨kh,Ew,_⟩:=aI T;have ls:=au w;obtain⟨g,d⟩:∃g,g=aH w x:=⟨_,rfl⟩;have xh:g<tops.length:=by
  have:=((m.cells.hm x).2 T).2;have:=l.tl;omega
 obtain⟨M0,QW⟩:=l.ls g x O d.symm;obtain⟨A,hr⟩:=l.head M0;obtain⟨cc,lt,o1,q1,EA,Jm,JS⟩:=o.eh;have q2:=o.cS q1 (ce (tops:=tops) (h:=g) O xh);have U:aj S H H1:=f.mono fun z _ h=>hC z h;rw[<-d];refine v1 (ae o1) ?_;refine⟨⟨O,O⟩,?_⟩;refine v4 (ae q1) ajJ ajM q2 ?_;refine ai.dec (fun p=>?_) (fun p=>?_)<;>refine vs ?_
 ·refine(oG (S:=S) ⟨B,C,N,P,L,tops,ch,ax,aq,rfl,o,l,c⟩ g).mono ?_;rintro _ H2 (⟨YR,_⟩| ⟨x',Ta,rfl,S2,h2,u,hs2⟩)
  ·exact absurd d.symm ((ou O).1 YR x)
  obtain rfl:x'=x:=by rw[<-p,l.first Ta]
  refine vs ?_;have:=f.size;exact .inr ⟨q,rfl,S2,h2,U.trans u,Z⟩
 refine(qF o ls (x:=x) l.f l.pc d.symm O xh hr rfl).mono ?_;rintro _ H2 ⟨N2,P2,L2,BR,gD,A2,m2,j,p2,u2,_,u⟩;obtain⟨t,ht⟩:∃t,t=aQ tops g:=⟨_,rfl⟩;rw[<-ht]at j p M0 QW;have LP:aA aq g (t::A2) g=t::A2:=by unfold aA;grind
 have JQ:x∈aA aq g (t::A2) g:=by
  have:=j.xi x T u2;rw[<-d]at this;simpa using this
 obtain⟨A3,Nu,f3⟩:=j.from_ JQ;have htg:aH w t=g/\0<g:=by
  have:=j.rm g t Z;exact O
 have QT:t≠x:=fun e=>p e;refine vs ?_;refine(sY m2 f3 p2 (by unfold aA;rw[if_pos rfl])).mono ?_;rintro _ H3 ⟨N3,P3,L3,Q,r,D,p3,e3⟩;rw[cP]at D;obtain⟨SU,o3,_⟩:=r.own;have OA:=r.len;refine v1 (ae o3) ?_;refine(iV r.ring r.inv (x:=x) O).mono ?_;rintro _ H4 ⟨rfl,N4,P4,r4,l4,n4,i4,I⟩;have F:=r.nI r4 i4 I l4;have M:=D.RC (x:=x) (g:=g) (A:=Q) r.inv (by rw[cP];unfold aA;grind);rw[cP,cP,<-n4]at M;obtain⟨Va,o4,_⟩:=F.own;have Fh:aj S H H4:=((U.trans (u.mono Z)).trans (e3.mono Z)).trans (I.mono Z);have ke:=fun y=>dW (w:=w) ⟨kh,Ew⟩ (0,0,0) y;have el:∀a b,0<aH w a->0<aH w b->a≠x->b≠x->aU (w.put x (0,0,0)) a b=aU w a b:=fun a b ha hb wS Ac=>dC ⟨kh,Ew⟩ _ ha hb wS Ac;have E:=M.drop (hm':=aH (w.put x (0,0,0))) (lt':=aU (w.put x (0,0,0))) (by unfold aA;grind) rfl Z Z el;refine v1 (ae o4) ?_;refine(bZ F.cells x).mono ?_;rintro _ H5 (⟨K,_,_⟩| ⟨_,rfl,c5,G⟩)
 ·exact absurd q K
 have m5:=F.aD c5 G (by simp[Nw.put]);have WS:gD t= -1:=(j.rm g t Z).2.1;have htA:t∈aA aq g Q g:=by
  have h1:=E.xi t Z (by unfold fj;omega);rw[ke,if_neg QT,htg.1]at h1;simpa using h1
 obtain⟨A6,_,X⟩:=E.from_ htA;rw[cP]at X;refine vs ?_;refine .inr ⟨q,rfl,br.same ⟨B,C,N4,P4,L3,tops,_,_,_,rfl,m5,⟨X,p3,fun g2=>?_,fun g2 y Nx hy=>?_,by rw[l.tl];rfl⟩,c⟩ (Fh.trans (G.mono fun z _ h=>hC z h))⟩
 ·unfold aA;cases l;grind
 ·have KM:y≠x:=Z;rw[ke,if_neg KM]at hy;obtain⟨h3,h4⟩:=l.ls g2 y Nx hy;have hT:aH w (aQ tops g2)=g2:=by
   obtain⟨A',h5⟩:=l.head h3;exact(l.f.rm g2 _ Z).1
  grind
theorem M1{B:FB}{C:Nat->Prop}{w:Nw}{P:List Int}{L:List Pc}(m:bQ H B C w N P L tops){t:Int}(U:0<aH w x)(MR:0<=g)(j:g<tops.length)(F:aQ tops g=t)(E:t= -1\/0<aH w t)(QT:t≠x):
  aF 318 [ptr B.n,i64 g,i64 x] H fun v J=>ak (∃o P' r,bQ J B C w o P' L (tops.set g.toNat r)/\bW o=(if t= -1 then bW N else rD (bW N) t x)/\r=(if t= -1\/aU w x t=true then x else t)/\aj (fun z=>C z\/z=B.nb\/z=B.pb\/z=B.tp) H J):=by
 obtain⟨kh,Ew⟩:=oF x U;obtain⟨A,lt,I,n,EA,Jm,JS⟩:=m.eh;have p:=m.cS n (ce (tops:=tops) (h:=g) O j);have ec:=m.len;rw[F]at p;refine aT jp ?_;refine v1 (ae I) ?_;refine⟨O,?_⟩;refine v4 (ae n) ajJ ajM p ?_;refine ai.dec (fun e=>?_) (fun e=>?_)<;>refine v1 (ae I) ?_
 ·refine⟨O,?_⟩;refine v3 n ajJ ajM ?_;refine⟨O,?_⟩;obtain⟨l,c⟩:=m.fJ n g.toNat x;refine vs ?_;exact⟨N,P,x,l,Z,O,c.mono O⟩
 have Q:=E.resolve_left e;obtain⟨M0,QW⟩:=oF t Q;refine⟨O,?_⟩;refine v4 (ae n) ajJ ajM p ?_;refine(de m.ring m.inv (x:=t) (y:=x) O O).mono ?_;rintro _ H2 ⟨rfl,f,u,r2,l2,n2,X,c⟩;have l:=m.nI r2 X c l2;obtain⟨A,lt2,o2,G,_⟩:=l.eh;have D:=l.cS G (ce (tops:=tops) (h:=g) O j);rw[F]at D;refine v1 (ae o2) ?_;refine⟨O,?_⟩;refine v4 (ae G) ajJ ajM D ?_;refine(cB l.cells x t).mono ?_;rintro _ H3 ⟨rfl,c3,T⟩;have d:=l.aD c3 T rfl;rw[fT (w:=w) (a:=x) (b:=t) U Q];have K:aj (fun z=>C z\/z=B.nb\/z=B.pb\/z=B.tp) H H3:=(c.mono O).trans (T.mono fun z _ h=>.inl h);cases iC:aU w x t
 ·refine vs ?_;refine⟨f,u,t,?_,Z,by simp[e],K⟩;grind [I4,ce]
 ·obtain⟨A,lt3,o3,q,_,hc5,_⟩:=d.eh;have q6:=d.cS q (ce (tops:=tops) (h:=g) O j);have MI:=O;refine v1 (ae o3) ?_;refine⟨O,?_⟩;refine v3 q ajJ ajM ?_;refine⟨O,?_⟩;obtain⟨m4,M⟩:=d.fJ q g.toNat x;refine vs ?_;exact⟨f,u,x,m4,Z,by simp,K.trans (M.mono O)⟩
theorem Ht.vI{w:Nw}{h:List Int}{L:List Pc}{z:List Int}{ch:Int->List Int}{ax:Int->Int}{aq:Int->List Int}(l:Ht w N L tops ch ax aq){a b r:Int}{x:List Int}(j:a≠b)(t:0<a)(m:0<b)
  (o:∀c,c∈x↔c∈aq a\/c∈aq b)(d:mz (bW h) x)(u:x.Nodup)(p:∀c,c∉aq a->c∉aq b->bW h c=bW N c)(A:x.headD (-1)=r)
  (f:∀g,g=a\/g=b->aQ tops g≠ -1->r≠ -1/\(aQ tops g≠r->aU w r (aQ tops g)=true))(e:aQ z=cR (cR (aQ tops) a r) b (-1))(K:z.length=tops.length):
  Ht (w.join a b) h L z ch ax (aA (aA aq a x) b []):=by
 have v:=lY (w:=w) (a:=a) (b:=b) m;have n:=l.f.vI (hm':=aH (w.join a b)) rfl j t m v o d u p;rw[<-ik w a b]at n;refine⟨n,l.pc,fun g=>?_,fun g y q T=>?_,by rw[K,l.tl];simp[Nw.join]⟩
 ·rw[e];have:=l.tp g;unfold cR aA;split
  ·rfl
  ·split
   ·exact A.symm
   ·exact this
 ·rw[e,ik];rw[v]at T;have F:=l.ls (aH w y) y;have Q:=l.ls g y q;have U:=f (aH w y);have I:=(au w).tr r (aQ tops (aH w y)) y;unfold cR;grind
theorem Ft{S:Nat->Prop}{w:Nw}(h:dS n H S w)(a b:Int):aF 311 [ptr n,i64 a,i64 b] H fun v J=>ak (
  (¬ (w.has a/\w.has b/\a≠b)/\v= .bool false/\br (dS n) S H J w)\/((w.has a/\w.has b/\a≠b)/\v= .bool true/\br (dS n) S H J (w.join a b))):=by
 obtain⟨B,C,N,P,L,tops,ch,ax,aq,rfl,m,l,A⟩:=id h;have hC:∀z,C z->S z:=fun z h=>(A z).2 (.inl h);have tb_:S B.nb:=(A _).2 (.inr O);have tb2:S B.pb:=(A _).2 (.inr O);have tb4:S B.tp:=(A _).2 (.inr O);obtain⟨tv,o0,_⟩:=m.own;refine aT qU ?_;refine v1 (ae o0) ?_;refine(iQ m.cells a b).mono ?_;rintro _ H1 (⟨mT,rfl,rfl⟩| ⟨Hs,rfl,U,e1⟩)
 ·refine vs ?_;exact .inl ⟨mT,rfl,br.same h (aj.refl _ _)⟩
 obtain⟨⟨ha,Og⟩,⟨hb,MG⟩,Fc⟩:=id Hs;have D:=m.aD U e1 (by simp[Nw.join]);have hj:=lY (w:=w) (a:=a) (b:=b) O;have al:a<tops.length:=by
  have:=(ajK.1 Og).1;have:=l.tl;omega
 have bl:b<tops.length:=by
  have:=(ajK.1 MG).1;have:=l.tl;omega
 have ls:=au w;have e1S:aj S H H1:=e1.mono fun z _ h=>hC z h;obtain⟨I,lt,o1,F,EA,Jm,JS⟩:=D.eh;have qb:=D.cS F (ce (tops:=tops) (h:=b) O bl);refine v1 (ae o1) ?_;refine⟨O,?_⟩;refine v4 (ae F) ajJ ajM qb ?_;have hTb:aQ tops b≠ -1->aH w (aQ tops b)=b:=fun h=>by
  obtain⟨B',hB⟩:=l.head h;exact(l.f.rm b _ Z).1
 have hTa:aQ tops a≠ -1->aH w (aQ tops a)=a:=fun h=>by
  obtain⟨B',hB⟩:=l.head h;exact(l.f.rm a _ Z).1
 have emp:∀g,aQ tops g= -1->aq g=[]:=fun g h=>by
  have p:=l.tp g;rw[h]at p;cases hc:aq g with
  |nil=>rfl
  |cons c r=>rw[hc]at p;exact absurd p.symm (l.f.YD (h:=g) Z)
 have fin:∀ (d:Hp) (e u:List Int) (E:List Int) (r:Int) (y:List Int),bQ d B C (w.join a b) e u L E->aj S H d->E.length=tops.length->aQ E=cR (aQ tops) a r->(∀Q,aQ Q=cR (cR (aQ tops) a r) b (-1)->Q.length=tops.length->Ht (w.join a b) e L Q ch ax (aA (aA aq a y) b []))->
   ∀K:Hp->Prop,(∀J,br (dS B.n) S H J (w.join a b)->K J)->∃I l2,d.own B.n=some [ptr B.c,ptr B.r,.slice (some ⟨B.tb,0,none⟩) L.length L.length,.slice (some ⟨B.tp,0,none⟩) tops.length I]/\d.own B.tp=some l2/\b.toNat<l2.length/\K (d.wr B.tp (l2.set b.toNat (i64 (-1)))):=fun d e u E r y M X Oq QW hL K hK=>by
  obtain⟨I,l2,T,j,U3,Af,_⟩:=M.eh;obtain⟨m3,e3⟩:=M.fJ j b.toNat (-1);rw[Oq]at T U3;refine⟨I,l2,T,j,O,hK _ (br.same ⟨B,C,e,u,L,_,ch,ax,_,rfl,m3,hL _ (by grind [dN]) Z,A⟩ (X.trans (e3.mono fun z _ h=>h▸tb4)))⟩
 refine ai.dec (fun h0=>?_) (fun h0=>?_)<;>refine v1 (ae o1) ?_
 ·obtain⟨cc2,l2,T,j,hd,hk⟩:=fin H1 N P tops (aQ tops a) (aq a) D e1S rfl (by funext z;unfold cR;grind) (fun Q ht' V9=>l.vI Fc O O Z (l.f.rc a) (l.f.rn a) (fun _ _ _=>rfl) (l.tp a).symm Z ht' V9) _ (fun J hn=>(.inr ⟨Hs,rfl,hn⟩:(¬ (w.has a/\w.has b/\a≠b)/\Value.bool true= .bool false/\br (dS B.n) S H J w)\/((w.has a/\w.has b/\a≠b)/\Value.bool true= .bool true/\br (dS B.n) S H J (w.join a b))));refine⟨O,?_⟩;rw[F]at j;injection j with j;subst j;refine v3 F ajJ ajM ?_;refine⟨O,?_⟩;refine vs ?_;exact hk
 ·have agi:=hTb h0;have QT:aQ tops a≠aQ tops b:=Z;refine⟨O,?_⟩;refine v4 (ae F) ajJ ajM qb ?_;refine(M1 D (x:=aQ tops b) (g:=a) (t:=aQ tops a) Z O al rfl (by
   grind) QT).mono ?_
  rintro _ d ⟨e,u,r,M,q,hr,X⟩;rw[ik]at hr;obtain⟨y,k1,k2,k3,k4,k5,k6⟩:∃y:List Int,(∀c,c∈y↔c∈aq a\/c∈aq b)/\mz (bW e) y/\y.Nodup/\(∀c,c∉aq a->c∉aq b->bW e c=bW N c)/\y.headD (-1)=r/\
    (∀g,g=a\/g=b->aQ tops g≠ -1->r≠ -1/\(aQ tops g≠r->aU w r (aQ tops g)=true)):=by
   obtain⟨f,hB⟩:=l.head h0;by_cases G:aQ tops a= -1
   ·rw[if_pos G]at q;rw[if_pos (.inl G)]at hr;refine⟨aq b,Z,by rw[q];exact l.f.rc b,l.f.rn b,fun _ _ _=>by rw[q],Z,fun g hg nj=>?_⟩;grind
   ·rw[if_neg G]at q;obtain⟨o,hAq⟩:=l.head G;have U:=l.f.rc a;have c2:=l.f.rc b;have d1:=l.f.rn a;have d2:=l.f.rn b;have ly:∀c,c∈aq a->c∈aq b->False:=fun c p h2=>Fc (by rw[<- (l.f.rm a c p).1,(l.f.rm b c h2).1]);rw[hAq]at U d1 ly;rw[hB]at c2 d2 ly;have nd:((aQ tops a::o)++(aQ tops b::f)).Nodup:=Z;have cj:=mz.join U c2 nd;rw[<-q]at cj;have pm:(aQ tops a::f++aQ tops b::o).Perm ((aQ tops a::o)++(aQ tops b::f)):=by
     refine List.Perm.cons _ ?_;exact akL.trans ((List.Perm.cons _ akL).trans (by
      have:=@ak4 _ (aQ tops b) f o;exact(List.Perm.cons _ Z).trans ak4.symm))
    have fr:∀c,c∉aq a->c∉aq b->bW e c=bW N c:=fun c p h2=>by
     rw[q];grind [nM]
    have UN:=ls.UN (aQ tops a) (aQ tops b) QT;by_cases iC:aU w (aQ tops b) (aQ tops a)=true
    ·rw[if_pos (.inr iC)]at hr;have cr:=mz.UQ (l1:=aQ tops a::f) (l2:=aQ tops b::o) cj;grind
    grind
  obtain⟨cc2,l2,T,j,hd,hk⟩:=fin d e u _ r y M (e1S.trans (X.mono Z)) Z (dN O al r) (fun Q ht' V9=>l.vI Fc O O k1 k2 k3 k4 k5 k6 ht' V9) _ (fun J hn=>(.inr ⟨Hs,rfl,hn⟩:(¬ (w.has a/\w.has b/\a≠b)/\Value.bool true= .bool false/\br (dS B.n) S H J w)\/((w.has a/\w.has b/\a≠b)/\Value.bool true= .bool true/\br (dS B.n) S H J (w.join a b))));refine v1 (ae T) ?_;refine⟨O,?_⟩;refine v3 j ajJ ajM ?_;refine⟨O,?_⟩;refine vs ?_;exact hk
theorem QX(k:Nat):dw [Value.int .i64 0,Value.int .i64 0,Value.int .i64 0,Value.bool false] k=aO (List.replicate k ⟨0,0,0,false⟩):=by
 unfold dw aO;induction k with
 |zero=>rfl
 |succ k x=>rw[akv,akv,ak2,alo,x];rfl
theorem Hu(cap:Int)(H:Hp):aF 81 [i64 cap] H fun v J=>ak (
  af H J/\((¬ (0<=cap/\cap<=65536)/\v= .tuple [.pointer none,i64 31].toArray)\/
   ((0<=cap/\cap<=65536)/\∃n S,v= .tuple [ptr n,i64 0].toArray/\dS n J S (jD cap)/\∀x,S x->H.size<=x))):=by
 refine aT Bc ?_;refine vs ?_;refine(j4 cap H).mono ?_;rintro _ K ⟨o,⟨t,rfl⟩| ⟨t,c,C,rfl,T,hC⟩⟩
 ·refine vs ?_;exact⟨o,.inl ⟨t,rfl⟩⟩
 refine vs ?_;refine(Fs K t).mono ?_;rintro _ H2 ⟨r,U,D,N,P,rfl,a,hN,hid,hinv,f,hr,Ny,hpb⟩;have c2:=T.fresh f;refine v1 ajZ ?_;refine⟨O,?_⟩;refine vs ?_;rw[QX];have U8:=T.slt;have z1:=o.size;have z2:=f.size;have hrs:r<H2.size/\U<H2.size/\D<H2.size:=⟨aC a.own,aC a.LU,aC a.R1⟩;obtain⟨rn1,rn2,rn3⟩:=a.ne;have u:af H2 (((H2.new 229 (aO (List.replicate cap.toNat ⟨0,0,0,false⟩))).new 3 [Value.int .i64 (-1)]).new 227 [ptr c,ptr r,.slice (some ⟨H2.size,0,none⟩) cap.toNat cap.toNat,.slice (some ⟨H2.size+1,0,none⟩) 1 1]):=(bD.new _ _).new _ _;have e1:aj (fun _=>False) (H2.new 229 (aO (List.replicate cap.toNat ⟨0,0,0,false⟩))) (((H2.new 229 (aO (List.replicate cap.toNat ⟨0,0,0,false⟩))).new 3 [Value.int .i64 (-1)]).new 227 [ptr c,ptr r,.slice (some ⟨H2.size,0,none⟩) cap.toNat cap.toNat,.slice (some ⟨H2.size+1,0,none⟩) 1 1]):=bD.new _ _;have e2:aj (fun _=>False) ((H2.new 229 (aO (List.replicate cap.toNat ⟨0,0,0,false⟩))).new 3 [Value.int .i64 (-1)]) (((H2.new 229 (aO (List.replicate cap.toNat ⟨0,0,0,false⟩))).new 3 [Value.int .i64 (-1)]).new 227 [ptr c,ptr r,.slice (some ⟨H2.size,0,none⟩) cap.toNat cap.toNat,.slice (some ⟨H2.size+1,0,none⟩) 1 1]):=bD;obtain⟨B,e⟩:∃B:FB,B=⟨H2.size+1+1,c,r,U,D,H2.size,H2.size+1⟩:=⟨_,rfl⟩;have m0:bQ (((H2.new 229 (aO (List.replicate cap.toNat ⟨0,0,0,false⟩))).new 3 [Value.int .i64 (-1)]).new 227 [ptr c,ptr r,.slice (some ⟨H2.size,0,none⟩) cap.toNat cap.toNat,.slice (some ⟨H2.size+1,0,none⟩) 1 1]) B C (jD cap) N P (List.replicate cap.toNat ⟨0,0,0,false⟩) [-1]:=by
  subst e;refine⟨⟨.slice (some ⟨H2.size+1,0,none⟩) 1 1,?_,?_⟩,c2.fresh u,a.ext u (fun h=>h) (fun h=>h) (fun h=>h),hinv,?_,?_,?_,?_⟩
  ·grind [az,ag]
  ·exact(Sl.bJ (size:=1) (n:=1) (xs:=[i64 (-1)]) rfl (by simp only[ag])).ext e2 (fun _ _ h=>h)
  ·exact e1.own (am _ _ _) (fun h=>h)
  ·simp[jD,hN]
  ·grind
  ·grind
 have S8:B.n=H2.size+1+1:=by rw[e]
 have hBs:∀z,B.S C z->K.size<=z\/C z:=fun z A=>by
  rcases A with A|rfl|rfl|rfl|rfl|rfl|rfl
  ·grind
  all_goals rw[e];left;first|omega| (simp only;omega)
 have hBt:B.tb=H2.size:=by rw[e]
 have ft:=(o.trans f).trans u;generalize ((H2.new 229 (aO (List.replicate cap.toNat ⟨0,0,0,false⟩))).new 3 [Value.int .i64 (-1)]).new 227 [ptr c,ptr r,.slice (some ⟨H2.size,0,none⟩) cap.toNat cap.toNat,.slice (some ⟨H2.size+1,0,none⟩) 1 1]=M at*;have MU:(jD cap).cs.length=cap.toNat:=by simp[jD]
 rw[<-S8];refine bj.intro (fun m env J=>∃ (j:Nat) (L':List Pc),m=cap.toNat - j/\j<=cap.toNat/\aj (fun z=>z=B.tb) M J/\bQ J B C (jD cap) N P L' [-1]/\(∀z:Int,0<=z->z<j->fh L' z=mr)/\
  env=[(5,i64 0),(7,ptr B.n),(33,i64 (cap.toNat:Nat)),(34,i64 j)]) cap.toNat ⟨0,_,O,O,aj.refl _ _,m0,O,rfl⟩ ?_
 rintro m env E ⟨j,l,rfl,hj,F,d,g4,rfl⟩;obtain⟨cc,Zg,I,_⟩:=d.eh;have Vn:=d.len;refine vs ?_;refine ai.dec (fun iC=>?_) (fun iC=>?_)<;>refine vs ?_
 ·refine cZ.intro (fun J=>J.own B.n=some [ptr B.c,ptr B.r,.slice (some ⟨B.tb,0,none⟩) l.length l.length,.slice (some ⟨B.tp,0,none⟩) [(-1:Int)].length cc]) I ?_;refine vs ?_;refine bG.intro (.slice (some ⟨B.tb,0,none⟩) l.length l.length) (fun J hI=>by refine v1 (ae hI) ?_;trivial) ?_;refine vs ?_;refine(sX E).mono ?_;rintro _ X ⟨rfl,q⟩;have G:=q.own I (fun h=>h);refine And.intro G ?_;have p:=d.fresh q;refine vs ?_;refine⟨O,?_⟩;obtain⟨b0,_⟩:=p.rd (x:=(j:Int)) O;obtain⟨L6,k6,m6,Q⟩:=p.K4 (x:=(j:Int)) O mr;refine v2 p.places ajJ ?_;refine⟨O,?_⟩;rw[show aS (aO l) ((j:Int).toNat*4) (aK (Value.agg #[i64 (-1),i64 (-1),i64 0,Value.bool false]))=aS (aO l) ((j:Int).toNat*4) [i64 mr.u,i64 mr.k,i64 mr.d,.bool mr.m]from rfl];have RW:=p.ly.1.2.2.2.1;generalize X.wr B.tb (aS (aO l) ((j:Int).toNat*4) [i64 mr.u,i64 mr.k,i64 mr.d,.bool mr.m])=H6 at*;refine vs ?_;refine And.intro (Q.own G RW) ?_;refine vs ?_;refine⟨cap.toNat - (j+1),O,j+1,L6,rfl,O,(F.trans (q.mono fun _ _ h=>h.elim)).trans Q,m6,fun z h0 h1=>?_,?_⟩
  ·rw[k6];unfold kH;grind
  grind [wrap64]
 ·obtain rfl:j=cap.toNat:=O;have Xi:∀z,fh l z=mr:=by grind [mr,fh]
  refine⟨ft.then F O,.inr ⟨t,B.n,B.S C,rfl,⟨B,C,N,P,l,[-1],fun _=>[],fun _=> -1,fun _=>[],rfl,d,⟨⟨⟨rfl,Z,O,Z⟩,
   fun x=>trivial,fun h=>trivial,Z,Z,ak8,Z,fun c hc=>absurd hc (iU cap c),fun c _=>hid c⟩,fun x=>by rw[Xi];exact⟨rfl,rfl,rfl⟩,
   fun g=>Ad g,fun g y hg hy=>absurd O (iU cap y),rfl⟩,fun z=>Iff.rfl⟩,fun z A=>?_⟩⟩
  grind
theorem OX(n:Nat):qD (.iface 156 (ptr n)) (dS n) where
 slt h:=h.slt
 ext h e hd:=h.ext e hd
 cells:=by
  rintro H S w ⟨B,C,N,P,L,tops,ch,ax,aq,rfl,m,l,t⟩;exact⟨B.c,C,m.cells⟩
 has:=by
  rintro H S w g ⟨B,C,N,P,L,tops,ch,ax,aq,rfl,m,l,t⟩;obtain⟨j,r,_⟩:=m.own;exact⟨_,_,221,ptr B.c,rfl,cC (off:=0) Y (ae r) rfl,(ie m.cells g).mono fun v J c=>c⟩
 make:=by
  intro H S w h;exact⟨_,_,310,ptr n,rfl,ba Y,(Fq h).mono fun v J c=>c⟩
 insert:=by
  intro H S w g x k s h;exact⟨_,_,309,ptr n,rfl,ba Y,(BP h g x k s).mono fun v J c=>c⟩
 min:=by
  intro H S w g h;refine⟨_,_,312,ptr n,rfl,ba Y,(yD h g).mono ?_⟩;rintro v J ⟨⟨y,rfl⟩| ⟨x,y,rfl⟩,rfl⟩
  ·exact .inl ⟨y,rfl,br.same h (aj.refl _ _)⟩
  ·exact .inr ⟨x,y,rfl,br.same h (aj.refl _ _)⟩
 extract:=by
  intro H S w g h;exact⟨_,_,308,ptr n,rfl,ba Y,(oG h g).mono fun v J c=>c⟩
 j9:=by
  intro H S w x k s h;exact⟨_,_,306,ptr n,rfl,ba Y,(yE h x k s).mono fun v J c=>c⟩
 entry:=by
  rintro H S w x ⟨B,C,N,P,L,tops,ch,ax,aq,rfl,m,l,t⟩;obtain⟨j,r,_⟩:=m.own;refine⟨_,_,219,ptr B.c,rfl,cC (off:=0) Y (ae r) rfl,(gG m.cells x).mono ?_⟩;rintro v J ⟨d,f,q⟩;exact⟨⟨B,C,N,P,L,tops,ch,ax,aq,rfl,m.fresh f,l,t⟩,f,q⟩
 len:=by
  rintro H S w g ⟨B,C,N,P,L,tops,ch,ax,aq,rfl,m,l,t⟩;obtain⟨j,r,_⟩:=m.own;exact⟨_,_,224,ptr B.c,rfl,cC (off:=0) Y (ae r) rfl,(eW m.cells g).mono fun v J c=>c⟩
 home:=by
  rintro H S w x h;obtain⟨B,C,N,P,L,tops,ch,ax,aq,rfl,m,l,t⟩:=id h;obtain⟨j,r,_⟩:=m.own;refine⟨_,_,222,ptr B.c,rfl,cC (off:=0) Y (ae r) rfl,(bF m.cells x).mono ?_⟩;rintro v J (⟨y,rfl,rfl⟩| ⟨y,rfl,d,p⟩)
  ·exact .inl ⟨y,rfl,br.same h (aj.refl _ _)⟩
  ·exact .inr ⟨y,rfl,br.same ⟨B,C,N,P,L,tops,ch,ax,aq,rfl,m.aD d p rfl,l,t⟩ (p.mono fun z _ o=>(t z).2 (.inl o))⟩
 delete:=by
  intro H S w x h;exact⟨_,_,307,ptr n,rfl,ba Y,(BQ h x).mono fun v J c=>c⟩
 vI:=by
  intro H S w a b h;exact⟨_,_,311,ptr n,rfl,ba Y,(Ft h a b).mono fun v J c=>c⟩
theorem sZ(n:Nat)(H:Hp):aF 73 [ptr n,i64 0] H fun v J=>ak (v= .tuple [.iface 144 (ptr n),i64 0].toArray/\J=H):=by
 refine aT tU ?_;refine v1 ajZ ?_;exact⟨rfl,rfl⟩
theorem uL(n:Nat)(H:Hp):aF 80 [ptr n,i64 0] H fun v J=>ak (v= .tuple [.iface 156 (ptr n),i64 0].toArray/\J=H):=by
 refine aT nu ?_;refine v1 ajZ ?_;exact⟨rfl,rfl⟩
def R4(kd dd:Int):Prop:=∀ (cap:Int),(0<=cap/\cap<=65536)->∀H:Hp,aF 39 [BO kd dd,i64 cap] H fun v J=>ak (∃t h I x,v= .tuple [.iface t h,i64 0].toArray/\qD (.iface t h) I/\I J x (jD cap)/\af H J/\∀z,x z->H.size<=z)
end
end Go.Proofs.YtjkkkibiegfecaaGreatDoor
