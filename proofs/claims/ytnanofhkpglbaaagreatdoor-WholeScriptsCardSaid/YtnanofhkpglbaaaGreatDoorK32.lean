/- Texts put behind each other. -/
import Derived.Test.YtnanofhkpglbaaaGreatDoorK31
set_option linter.unusedSimpArgs false
set_option linter.unusedVariables false
set_option maxRecDepth 100000
set_option maxHeartbeats 80000000
namespace Go.Proofs.YtnanofhkpglbaaaGreatDoor
open Go Go.Vc
section
variable{x:Int}{i:Nat}
structure Pc where
 u:Int
 k:Int
 d:Int
 m:Bool
def RF(y:Pc):List Value:=[i64 y.u,i64 y.k,i64 y.d,.bool y.m]
def aN(L:List Pc):List Value:=L.flatMap RF
theorem X6{L:List Pc}{y:Pc}(hi:L[i]? =some y):(aN L)[i*4]? =some (i64 y.u)/\(aN L)[i*4+1]? =some (i64 y.k)/\(aN L)[i*4+2]? =some (i64 y.d)/\(aN L)[i*4+3]? =some (.bool y.m):=by
 induction L generalizing i with
 |nil=>grind
 |cons a r x=>
  have e:aN (a::r)=i64 a.u::i64 a.k::i64 a.d:: .bool a.m::aN r:=rfl;grind
theorem lX{L:List Pc}{y:Pc}(hi:L[i]? =some y):(∀v,(aN L).set (i*4) (i64 v)=aN (L.set i ⟨v,y.k,y.d,y.m⟩))/\(∀v,(aN L).set (i*4+1) (i64 v)=aN (L.set i ⟨y.u,v,y.d,y.m⟩))/\
  (∀v,(aN L).set (i*4+2) (i64 v)=aN (L.set i ⟨y.u,y.k,v,y.m⟩))/\(∀v,(aN L).set (i*4+3) (.bool v)=aN (L.set i ⟨y.u,y.k,y.d,v⟩))/\
  (∀z:Pc,aQ (aN L) (i*4) [i64 z.u,i64 z.k,i64 z.d,.bool z.m]=aN (L.set i z)):=by
 induction L generalizing i with
 |nil=>grind
 |cons a r l=>
  have e:aN (a::r)=i64 a.u::i64 a.k::i64 a.d:: .bool a.m::aN r:=rfl;cases i with
  |zero=>simp at hi;subst hi;exact⟨fun _=>rfl,fun _=>rfl,fun _=>rfl,fun _=>rfl,fun _=>rfl⟩
  |succ i=>
   obtain⟨n,m,c,g,x⟩:=l (by simpa using hi);have h:∀z:Pc,aN ((a::r).set (i+1) z)=i64 a.u::i64 a.k::i64 a.d:: .bool a.m::aN (r.set i z):=fun _=>rfl;refine⟨fun v=>?_,fun v=>?_,fun v=>?_,fun v=>?_,fun z=>?_⟩
   ·grind
   ·grind
   ·grind
   ·grind
   ·have x:=x z;simp only[aQ]at x ⊢;rw[e,h,show(i+1)*4=i*4+1+1+1+1 by omega];simp_all
def lY:Pc:=⟨-1, -1,0,false⟩
def fe(L:List Pc)(x:Int):Pc:=if 0<=x then(L[x.toNat]?).getD lY else lY
theorem DM{L:List Pc}{y:Pc}(z:0<=x)(h:L[x.toNat]? =some y):fe L x=y:=by grind [fe]
def kD(f:Int->Pc)(x:Int)(y:Pc):Int->Pc:=fun z=>if z=x then y else f z
theorem yl{L:List Pc}(h:0<=x/\x<L.length)(y:Pc):fe (L.set x.toNat y)=kD (fe L) x y:=by
 grind [kD,fe]
structure FB where
 n:Nat
 c:Nat
 r:Nat
 nb:Nat
 pb:Nat
 tb:Nat
 tp:Nat
def FB.S(B:FB)(C:Nat->Prop)(z:Nat):Prop:=C z\/z=B.n\/z=B.r\/z=B.nb\/z=B.pb\/z=B.tb\/z=B.tp
structure bP(H:Hp)(B:FB)(C:Nat->Prop)(w:Nw)(N P:List Int)(L:List Pc)(tops:List Int):Prop where
 own:∃tv,H.own B.n=some [ptr B.c,ptr B.r,.slice (some ⟨B.tb,0,none⟩) L.length L.length,tv]/\Sl H 1 tv tops.length (tops.map i64) (some B.tp)
 cells:CQ H B.c C w
 ring:fV H B.r B.nb B.pb N P
 inv:w9 (bY N) (bY P)
 places:H.own B.tb=some (aN L)
 len:L.length=w.cs.length/\N.length=w.cs.length
 k9:(B.n≠B.r/\B.n≠B.nb/\B.n≠B.pb/\B.n≠B.tb/\B.n≠B.tp)/\(B.tb≠B.r/\B.tb≠B.nb/\B.tb≠B.pb/\B.tb≠B.tp)/\(B.tp≠B.r/\B.tp≠B.nb/\B.tp≠B.pb)
 out:¬C B.n/\¬C B.r/\¬C B.nb/\¬C B.pb/\¬C B.tb/\¬C B.tp
section
variable {H J : Hp} {B : FB} {C V : Nat → Prop} {w w' : Nw} {N P N' P' : List Int} {L L' : List Pc} {tops : List Int}
theorem bP.slt(h:bP H B C w N P L tops):∀z,B.S C z->z<H.size:=by
 obtain⟨n,x,l⟩:=h.own;rintro z (a|rfl|rfl|rfl|rfl|rfl|rfl)
 ·exact h.cells.slt z a
 ·exact aB x
 ·exact aB h.ring.own
 ·exact aB h.ring.Mt
 ·exact aB h.ring.SW
 ·exact aB h.places
 ·exact l.lt
theorem bP.ext(h:bP H B C w N P L tops)(e:aj V H J)(l:∀z,B.S C z->¬V z):bP J B C w N P L tops:=by
 obtain⟨v,n,m⟩:=h.own;exact⟨⟨v,e.own n (l _ (.inr (.inl rfl))),m.ext e (fun b a=>by injection a with a;exact a▸l _ (.inr O))⟩,h.cells.ext e (fun x c=>l x (.inl c)),
  h.ring.ext e (l _ (.inr (.inr (.inl rfl)))) (l _ (.inr O)) (l _ (.inr O)),h.inv,e.own h.places (l _ (.inr O)),h.len,h.k9,h.out⟩
theorem bP.fresh(h:bP H B C w N P L tops)(e:af H J):bP J B C w N P L tops:=h.ext e fun _ _ h=>h
theorem bP.aE(h:bP H B C w N P L tops)(x:CQ J B.c C w')(e:aj C H J)(a:w'.cs.length=w.cs.length):bP J B C w' N P L tops:=by
 obtain⟨y,z,l⟩:=h.own;obtain⟨n,m,c,v,g,t⟩:=h.out;exact⟨⟨y,e.own z n,l.ext e Z⟩,x,h.ring.ext e m c v,h.inv,e.own h.places g,by rw[a];exact h.len,h.k9,h.out⟩
theorem bP.nh(h:bP H B C w N P L tops)(n:fV J B.r B.nb B.pb N' P')(hi:w9 (bY N') (bY P'))(e:aj (fun z=>z=B.nb\/z=B.pb) H J)(a:N'.length=N.length):bP J B C w N' P' L tops:=by
 obtain⟨m,x,l⟩:=h.own;obtain⟨q,o,f,u,A,K⟩:=h.out;obtain⟨⟨c,v,g,y,t⟩,⟨r,j,d,p⟩,⟨d10,d11,d12⟩⟩:=h.k9;exact⟨⟨m,e.own x O,l.ext e Z⟩,h.cells.ext e Z,n,hi,e.own h.places O,by rw[a];exact h.len,h.k9,h.out⟩
theorem bP.Pw(h:bP H B C w N P L tops)(x:L'.length=L.length):bP (H.wr B.tb (aN L')) B C w N P L' tops/\aj (fun z=>z=B.tb) H (H.wr B.tb (aN L')):=by
 obtain⟨g,c,v⟩:=h.own;obtain⟨p,q,o,f,u,A⟩:=h.out;obtain⟨⟨y,t,r,l,j⟩,⟨a,n,m,d⟩,⟨d10,d11,d12⟩⟩:=h.k9;have e:aj (fun z=>z=B.tb) H (H.wr B.tb (aN L')):=(aj.refl (fun z=>z=B.tb) _).wr (fun _=>rfl) _;exact⟨⟨⟨g,by rw[x];exact e.own c l,v.ext e Z⟩,h.cells.ext e Z,h.ring.ext e (Ne.symm a) (Ne.symm n) (Ne.symm m),h.inv,ah h.places,by rw[x];exact h.len,h.k9,h.out⟩,e⟩
theorem bP.ed(h:bP H B C w N P L tops):∃c l,H.own B.n=some [ptr B.c,ptr B.r,.slice (some ⟨B.tb,0,none⟩) L.length L.length,.slice (some ⟨B.tp,0,none⟩) tops.length c]/\H.own B.tp=some l/\tops.length<=c/\c<=l.length/\l.take tops.length=tops.map i64:=by
 obtain⟨v,x,_,l,c,rfl,z,a,n,m⟩:=h.own;grind
theorem bP.cS(h:bP H B C w N P L tops){l:List Value}(a:H.own B.tp=some l)(n:tops[i]? =some x):l[i]? =some (i64 x):=by
 obtain⟨c,l',_,z,_,_,m⟩:=h.ed;rw[a]at z;injection z with z;subst z;have v:(tops.map i64)[i]? =some (i64 x):=by rw[alz,n];rfl
 grind
theorem bP.fH(h:bP H B C w N P L tops){l:List Value}(a:H.own B.tp=some l)(i:Nat)(v:Int):bP (H.wr B.tp (l.set i (i64 v))) B C w N P L (tops.set i v)/\aj (fun z=>z=B.tp) H (H.wr B.tp (l.set i (i64 v))):=by
 obtain⟨c,l',g,x,f,u,y⟩:=h.ed;rw[a]at x;injection x with x;subst x;obtain⟨A,K,T,F,Q,U⟩:=h.out;obtain⟨⟨t,r,j,d,n⟩,⟨p,q,o,m⟩,⟨d10,d11,d12⟩⟩:=h.k9;have e:aj (fun z=>z=B.tp) H (H.wr B.tp (l.set i (i64 v))):=(aj.refl (fun z=>z=B.tp) _).wr (fun _=>rfl) _;refine⟨⟨⟨_,e.own g n,?_⟩,h.cells.ext e Z,h.ring.ext e (Ne.symm d10) (Ne.symm d11) (Ne.symm d12),h.inv,e.own h.places m,h.len,h.k9,h.out⟩,e⟩;refine⟨by simp,l.set i (i64 v),c,Z,ah a,Z,Z,?_⟩;rw[alb,ala,tq,y,alD]
theorem bP.rd(h:bP H B C w N P L tops)(z:0<=x/\x<w.cs.length):x.toNat*4+3< (aN L).length/\(aN L)[x.toNat*4]? =some (i64 (fe L x).u)/\(aN L)[x.toNat*4+1]? =some (i64 (fe L x).k)/\
  (aN L)[x.toNat*4+2]? =some (i64 (fe L x).d)/\(aN L)[x.toNat*4+3]? =some (.bool (fe L x).m):=by
 cases h;grind [X6,DM]
theorem bP.aM(h:bP H B C w N P L tops)(a:0<=x/\x<w.cs.length)(v:Int):∃L',fe L'=kD (fe L) x ⟨v,(fe L x).k,(fe L x).d,(fe L x).m⟩/\bP (H.wr B.tb ((aN L).set (x.toNat*4) (i64 v))) B C w N P L' tops/\aj (fun z=>z=B.tb) H (H.wr B.tb ((aN L).set (x.toNat*4) (i64 v))):=by
 have n:=h.len;obtain⟨y,l⟩:∃y,L[x.toNat]? =some y:=⟨_,ak9 O⟩;rw[DM a.1 l,(lX l).1];exact⟨_,yl O _,h.Pw Z⟩
theorem bP.eK(h:bP H B C w N P L tops)(a:0<=x/\x<w.cs.length)(v:Int):∃L',fe L'=kD (fe L) x ⟨(fe L x).u,v,(fe L x).d,(fe L x).m⟩/\bP (H.wr B.tb ((aN L).set (x.toNat*4+1) (i64 v))) B C w N P L' tops/\aj (fun z=>z=B.tb) H (H.wr B.tb ((aN L).set (x.toNat*4+1) (i64 v))):=by
 have n:=h.len;obtain⟨y,l⟩:∃y,L[x.toNat]? =some y:=⟨_,ak9 O⟩;rw[DM a.1 l,(lX l).2.1];exact⟨_,yl O _,h.Pw Z⟩
theorem bP.Up(h:bP H B C w N P L tops)(a:0<=x/\x<w.cs.length)(v:Int):∃L',fe L'=kD (fe L) x ⟨(fe L x).u,(fe L x).k,v,(fe L x).m⟩/\bP (H.wr B.tb ((aN L).set (x.toNat*4+2) (i64 v))) B C w N P L' tops/\aj (fun z=>z=B.tb) H (H.wr B.tb ((aN L).set (x.toNat*4+2) (i64 v))):=by
 have n:=h.len;obtain⟨y,l⟩:∃y,L[x.toNat]? =some y:=⟨_,ak9 O⟩;rw[DM a.1 l,(lX l).2.2.1];exact⟨_,yl O _,h.Pw Z⟩
theorem bP.dB(h:bP H B C w N P L tops)(a:0<=x/\x<w.cs.length)(v:Bool):∃L',fe L'=kD (fe L) x ⟨(fe L x).u,(fe L x).k,(fe L x).d,v⟩/\bP (H.wr B.tb ((aN L).set (x.toNat*4+3) (.bool v))) B C w N P L' tops/\aj (fun z=>z=B.tb) H (H.wr B.tb ((aN L).set (x.toNat*4+3) (.bool v))):=by
 have n:=h.len;obtain⟨y,l⟩:∃y,L[x.toNat]? =some y:=⟨_,ak9 O⟩;rw[DM a.1 l,(lX l).2.2.2.1];exact⟨_,yl O _,h.Pw Z⟩
theorem bP.Lq(h:bP H B C w N P L tops)(n:0<=x/\x<w.cs.length)(z:Pc):∃L',fe L'=kD (fe L) x z/\bP (H.wr B.tb (aQ (aN L) (x.toNat*4) [i64 z.u,i64 z.k,i64 z.d,.bool z.m])) B C w N P L' tops/\aj (fun z=>z=B.tb) H (H.wr B.tb (aQ (aN L) (x.toNat*4) [i64 z.u,i64 z.k,i64 z.d,.bool z.m])):=by
 have a:=h.len;obtain⟨y,l⟩:∃y,L[x.toNat]? =some y:=⟨_,ak9 O⟩;rw[(lX l).2.2.2.2];exact⟨_,yl O _,h.Pw Z⟩
end
end
section
variable{x g:Int}
def Il(f:Int->Pc)(ch:Int->List Int)(au:Int->Int):Prop:=∀x,(f x).u=au x/\(f x).k=(ch x).headD (-1)/\(f x).d=(ch x).length
section
variable {H J : Hp} {B : FB} {C V : Nat → Prop} {w : Nw} {N P : List Int} {L : List Pc} {tops : List Int} {ch : Int → List Int} {au : Int → Int} {aw : Int → List Int} {W : List Int}
theorem dV.win{lt:Int->Int->Bool}{z:Int->Int}(f:dV (aH w) lt z ch au aw W)(h:x∈W):0<=x/\x<w.cs.length:=by
 obtain⟨a,b,_⟩:=aI (f.wm x h).2.2;omega
theorem dV.rin{lt:Int->Int->Bool}{z:Int->Int}(f:dV (aH w) lt z ch au aw W)(h:x∈aw g):0<=x/\x<w.cs.length:=by
 obtain⟨l,_,n,_⟩:=f.rm g x h;obtain⟨a,b,_⟩:=aI (w:=w) (x:=x) O;omega
theorem dV.EE{lt:Int->Int->Bool}{z:Int->Int}(f:dV (aH w) lt z ch au aw W){p:Int}(h:x∈ch p):0<=x/\x<w.cs.length:=by
 obtain⟨a,b,_⟩:=aI (f.pr.dn p x h).2.2.2.1;omega
theorem uY(m:bP H B C w N P L tops)(f:dV (aH w) (aU w) (bY N) ch au aw (x::W))(p:aH w x=g)(q:g<tops.length)(K:aO tops g=(aw g).headD (-1)):
  aD 445 [ptr B.n,i64 g,i64 x] H fun v J=>ak (∃N' P' G l,bP J B C w N' P' L G/\G.length=tops.length/\aO G=cR (aO tops) g (l.headD (-1))/\
   dV (aH w) (aU w) (bY N') ch au (ay aw g l) W/\(l.headD (-1)=x\/(l.headD (-1)=aO tops g/\aO tops g≠ -1))/\l.headD (-1)≠ -1/\
   (x≠l.headD (-1)->aU w (l.headD (-1)) x=true)/\(aO tops g≠ -1->aO tops g≠l.headD (-1)->aU w (l.headD (-1)) (aO tops g)=true)/\aj (fun z=>C z\/z=B.nb\/z=B.pb\/z=B.tp) H J):=by
 have hx:=f.win (x:=x) (by simp);have QJ:=f.W5 (c:=x) (by simp);have SX:0<g:=by rw[<-p];exact(f.wm x (by simp)).2.2
 obtain⟨E,lt,o1,o,Dx,JH,JI⟩:=m.ed;have U:=m.cS o (ce (tops:=tops) (h:=g) O q);have ec:=m.len;refine aL jl ?_;refine v1 (ae o1) ?_;refine⟨⟨O,O⟩,?_⟩;refine v4 (ae o) ak7 ala U ?_;refine ai.dec (fun h0=>?_) (fun h0=>?_)<;>refine v1 (ae o1) ?_
 ·have j:aw g=[]:=by
   rw[h0]at K;cases F:aw g with
   |nil=>rfl
   |cons c r=>rw[F]at K;exact absurd K.symm (f.ZT (h:=g) (by rw[F];simp))
  refine⟨⟨O,O⟩,?_⟩;refine v3 o ak7 ala ?_;refine⟨O,?_⟩;obtain⟨d,u⟩:=m.fH o g.toNat x;refine vs ?_;have n:=f.W6 (by rw[p];exact j);rw[p]at n;exact⟨N,P,_,[x],d,alb ..,dJ O q x,n,.inl rfl,QJ,Z,O,u.mono O⟩
 obtain⟨t,A,j⟩:∃t A,aw g=t::A:=by
  cases F:aw g with
  |nil=>grind
  |cons c r=>grind
 have Q:aO tops g=t:=by rw[K,j];rfl
 rw[Q];rw[Q]at U;have htr:=f.rin (g:=g) (x:=t) Z;have htn:=f.ZT (c:=t) (h:=g) (by rw[j];simp);have RG:t≠x:=fun e=>(f.rm g t (by rw[j];simp)).2.2.2 (by rw[e];simp);refine⟨⟨O,O⟩,?_⟩;refine v4 (ae o) ak7 ala U ?_;refine(cY m.ring m.inv (x:=t) (y:=x) O O).mono ?_;rintro _ H2 ⟨rfl,D,M,r2,l2,n2,i2,u⟩;have d:=m.nh r2 i2 u l2;have n:=f.Oz (t:=t) (A:=A) (by rw[p];exact j);rw[p,<-n2]at n;obtain⟨E,lt2,o2,q3,_⟩:=d.ed;have q4:=d.cS q3 (ce (tops:=tops) (h:=g) O q);rw[Q]at q4;refine v1 (ae o2) ?_;refine⟨⟨O,O⟩,?_⟩;refine v4 (ae q3) ak7 ala q4 ?_;refine(cv d.cells x t).mono ?_;rintro _ H3 ⟨rfl,c3,e3⟩;have T:=d.aE c3 e3 rfl;have Fh:=fQ (w:=w) (a:=x) (b:=t) O (by have:=(f.rm g t (by rw[j];simp)).1;omega);rw[Fh];have X:aj (fun z=>C z\/z=B.nb\/z=B.pb\/z=B.tp) H H3:=(u.mono fun z _ h=>h.elim (fun h=>.inr (.inl h)) (fun h=>.inr (.inr (.inl h)))).trans (e3.mono fun z _ h=>.inl h);cases iD:aU w x t
 ·refine vs ?_;have hlx:=((ar w).VQ t x RG).resolve_right (by rw[iD];simp);refine⟨D,M,tops,t::x::A,T,rfl,?_,n,.inr ⟨rfl,htn⟩,htn,fun _=>hlx,Z,X⟩;funext z;show aO tops z=if z=g then t else aO tops z
  grind
 ·obtain⟨E,lt3,o3,I,_,hc5,_⟩:=T.ed;have q6:=T.cS I (ce (tops:=tops) (h:=g) O q);have Nd:=O;refine v1 (ae o3) ?_;refine⟨⟨O,O⟩,?_⟩;refine v3 I ak7 ala ?_;refine⟨O,?_⟩;obtain⟨m4,e4⟩:=T.fH I g.toNat x;refine vs ?_;have f3:=n.tH (g:=g) (l:=x::A++[t]) (by
   unfold ay;rw[if_pos rfl];exact ama (l₁:=[t]) (l₂:=x::A)) (by
   have:=n.rc g;unfold ay at this;rw[if_pos rfl]at this;exact mi.VU (l1:=[t]) (l2:=x::A) this)
  rw[cP]at f3;exact⟨D,M,_,x::A++[t],m4,alb ..,dJ O q x,f3,.inl rfl,QJ,Z,fun _ _=>iD,X.trans (e4.mono O)⟩
theorem DN(m:bP H B C w N P L tops){y:Int}(f:dV (aH w) (aU w) (bY N) ch au aw (x::y::W))(M:Il (fe L) ch au)(hh:aH w x=aH w y)(D:aU w x y=true):
  aD 450 [ptr B.n,i64 y,i64 x] H fun v J=>ak (∃N' P' L' I dh,bP J B C w N' P' L' tops/\dV (aH w) (aU w) (bY N') I dh aw (x::W)/\Il (fe L') I dh/\(I x).length=(ch x).length+1/\(∀z,z≠x->I z=ch z)/\
   aj (fun z=>z=B.nb\/z=B.pb\/z=B.tb) H J):=by
 have a:=f.win (x:=x) (by simp);have t:=f.win (x:=y) (by simp);have o:x≠y:=fun e=>by rw[e,(ar w).Ih]at D;cases D
 have ec:=m.len;obtain⟨tv,o1,_⟩:=m.own;obtain⟨px,E,dx⟩:=M x;obtain⟨py,ky,dy⟩:=M y;obtain⟨a0,a1,a2,a3,a4⟩:=m.rd a;have No:(ch x).length<=w.cs.length:=ck (f.pr.nd x) fun c h=>f.EE h;have uv:=m.cells.yY;refine aL pg ?_;refine v1 (ae o1) ?_;refine⟨O,?_⟩;refine v1 (ae o1) ?_;refine⟨O,?_⟩;refine v3 (ae m.places) ak7 a2 ?_;refine ai.dec (fun h0=>?_) (fun h0=>?_)<;>refine vs ?_
 ·have h:ch x=[]:=by
   rw[h0]at E;cases h:ch x with
   |nil=>rfl
   |cons c r=>rw[h]at E;exact absurd E.symm (f.pr.ne (x:=x) Z)
  have F:=f.Tv hh D h;obtain⟨H1,eH⟩:∃H1,H1=H:=⟨_,rfl⟩;rw[<-eH]at m ⊢;have j:=m;obtain⟨u,eN⟩:∃u,u=N:=⟨_,rfl⟩;obtain⟨A,eP⟩:∃A,A=P:=⟨_,rfl⟩;rw[<-eN,<-eP]at j;rw[<-eN]at F;have G:aj (fun z=>z=B.nb\/z=B.pb) H1 H1:=aj.refl _ _;have V5:([y]:List Int).length=(ch x).length+1:=by rw[h];rfl
  obtain⟨b0,_⟩:=j.rd a;obtain⟨d,Q,n,e2⟩:=j.eK a y;refine v2 j.places ak7 ?_;refine⟨O,?_⟩;refine vs ?_;generalize H1.wr B.tb ((aN L).set (x.toNat*4+1) (i64 y))=X at*;obtain⟨c0,c1,c2,c3,c4⟩:=n.rd a;have y5:(fe d x).d=(ch x).length:=by rw[Q];unfold kD;rw[if_pos rfl];exact dx
  obtain⟨L3,U,g,T⟩:=n.Up a ((fe d x).d+1);rw[y5]at c3 U g T;refine v4 (ae n.places) n.places ak7 c3 ?_;rw[wrap64 O O];refine⟨O,?_⟩;refine vs ?_;generalize X.wr B.tb ((aN d).set (x.toNat*4+2) (i64 ((ch x).length+1)))=H3 at*;obtain⟨d0,_⟩:=g.rd t;obtain⟨L4,k4,q,e4⟩:=g.aM t x;refine v3 g.places ak7 Nat.add_zero ?_;refine⟨O,?_⟩;refine vs ?_;generalize H3.wr B.tb ((aN L3).set (y.toNat*4) (i64 x))=H4 at*;obtain⟨g0,_⟩:=q.rd t;obtain⟨L5,k5,m5,e5⟩:=q.dB t false;refine v3 q.places ak7 Nat.add_zero ?_;refine⟨O,?_⟩;refine vs ?_;refine⟨u,A,L5,_,_,m5,F,fun z=>?_,?_,fun z hz=>?_,((((G.mono O).trans (e2.mono O)).trans (T.mono O)).trans (e4.mono O)).trans (e5.mono O)⟩
  ·rw[k5,k4,U,Q];unfold kD ay;by_cases l:z=y
   ·rw[l,if_pos rfl,if_neg o.symm,if_neg o.symm];simp only[if_neg o.symm,if_true];refine⟨by unfold aM;omega,?_,?_⟩
    ·exact ky
    omega
   ·rw[if_neg l];unfold aM;rw[if_neg l];by_cases h2:z=x
    ·grind
    ·simp only[if_neg l,if_neg h2];exact M z
  ·unfold ay;grind
  ·unfold ay;grind
 ·obtain⟨k,K,h⟩:∃k K,ch x=k::K:=by
   cases h:ch x with
   |nil=>grind
   |cons c r=>grind
  have hk:(fe L x).k=k:=by rw[E,h];rfl
  have hkr:=f.EE (p:=x) (x:=k) Z;have F:=f.under hh D h;rw[hk]at a2;refine v4 (ae o1) (ae m.places) ak7 a2 ?_;refine(cY m.ring m.inv (x:=k) (y:=y) O O).mono ?_;rintro _ H1 ⟨rfl,u,A,r1,l1,n1,i1,G⟩;have j:=m.nh r1 i1 G l1;rw[<-n1]at F;have V5:(y::K++[k]).length=(ch x).length+1:=by rw[h];simp
  refine vs ?_;obtain⟨b0,_⟩:=j.rd a;obtain⟨d,Q,n,e2⟩:=j.eK a y;refine v2 j.places ak7 ?_;refine⟨O,?_⟩;refine vs ?_;generalize H1.wr B.tb ((aN L).set (x.toNat*4+1) (i64 y))=X at*;obtain⟨c0,c1,c2,c3,c4⟩:=n.rd a;have y5:(fe d x).d=(ch x).length:=by rw[Q];unfold kD;rw[if_pos rfl];exact dx
  obtain⟨L3,U,g,T⟩:=n.Up a ((fe d x).d+1);rw[y5]at c3 U g T;refine v4 (ae n.places) n.places ak7 c3 ?_;rw[wrap64 O O];refine⟨O,?_⟩;refine vs ?_;generalize X.wr B.tb ((aN d).set (x.toNat*4+2) (i64 ((ch x).length+1)))=H3 at*;obtain⟨d0,_⟩:=g.rd t;obtain⟨L4,k4,q,e4⟩:=g.aM t x;refine v3 g.places ak7 Nat.add_zero ?_;refine⟨O,?_⟩;refine vs ?_;generalize H3.wr B.tb ((aN L3).set (y.toNat*4) (i64 x))=H4 at*;obtain⟨g0,_⟩:=q.rd t;obtain⟨L5,k5,m5,e5⟩:=q.dB t false;refine v3 q.places ak7 Nat.add_zero ?_;refine⟨O,?_⟩;refine vs ?_;refine⟨u,A,L5,_,_,m5,F,fun z=>?_,?_,fun z hz=>?_,((((G.mono O).trans (e2.mono O)).trans (T.mono O)).trans (e4.mono O)).trans (e5.mono O)⟩
  ·rw[k5,k4,U,Q];unfold kD ay;by_cases l:z=y
   ·rw[l,if_pos rfl,if_neg o.symm,if_neg o.symm];simp only[if_neg o.symm,if_true];refine⟨by unfold aM;omega,?_,?_⟩
    ·exact ky
    omega
   ·rw[if_neg l];unfold aM;rw[if_neg l];by_cases h2:z=x
    ·grind
    ·simp only[if_neg l,if_neg h2];exact M z
  ·unfold ay;grind
  ·unfold ay;grind
end
end
theorem sJ(H:Hp):aD 151 [] H fun v J=>ak (v= .agg #[i64 (-1),i64 (-1),i64 0,.bool false]/\af H J):=by
 refine aL xw ?_;have h:af H (H.new 240 [Value.int .i64 0,Value.int .i64 0,Value.int .i64 0,Value.bool false]):=bm;refine vs ?_;have q:((H.new 240 [Value.int .i64 0,Value.int .i64 0,Value.int .i64 0,Value.bool false]).wr H.size [Value.int .i64 (-1),Value.int .i64 (-1),Value.int .i64 0,Value.bool false]).own H.size=some [Value.int .i64 (-1),Value.int .i64 (-1),Value.int .i64 0,Value.bool false]:=ah (am _ _ _);have x:aj (fun z=>z=H.size) (H.new 240 [Value.int .i64 0,Value.int .i64 0,Value.int .i64 0,Value.bool false]) ((H.new 240 [Value.int .i64 0,Value.int .i64 0,Value.int .i64 0,Value.bool false]).wr H.size [Value.int .i64 (-1),Value.int .i64 (-1),Value.int .i64 0,Value.bool false]):=(aj.refl (fun z=>z=H.size) _).wr (fun _=>rfl) _;refine v1 (ae q) ?_;exact⟨rfl,h.then x O⟩
section
variable {H J : Hp} {B : FB} {C V : Nat → Prop} {w : Nw} {N P : List Int} {L : List Pc} {tops : List Int} {ch : Int → List Int} {au : Int → Int} {aw : Int → List Int} {W : List Int}
theorem sK(m:bP H B C w N P L tops){x g:Int}{A:List Int}(f:dV (aH w) (aU w) (bY N) ch au aw W)(hp:Il (fe L) ch au)(hr:aw g=x::A):
  aD 441 [ptr B.n,i64 x] H fun v J=>ak (∃N' P' L' A',bP J B C w N' P' L' tops/\dV (aH w) (aU w) (bY N') (ay ch x []) (fh ch au x) (ay aw g (x::A')) W/\Il (fe L') (ay ch x []) (fh ch au x)/\
   aj (fun z=>z=B.nb\/z=B.pb\/z=B.tb) H J):=by
 have U:=f.rin (g:=g) (x:=x) Z;have FZ:=(f.rm g x Z).2.1;have ec:=m.len;have uv:=m.cells.yY;obtain⟨tv,o1,_⟩:=m.own;obtain⟨px,o,dx⟩:=hp x;obtain⟨a0,a1,a2,a3,a4⟩:=m.rd U;refine aL pf ?_;refine v1 (ae o1) ?_;refine⟨O,?_⟩;refine v3 (ae m.places) ak7 a2 ?_;refine ai.dec (fun X=>?_) (fun X=>?_)<;>refine vs ?_
 ·have n:ch x=[]:=by
   rw[X]at o;cases n:ch x with
   |nil=>rfl
   |cons c r=>rw[n]at o;exact absurd o.symm (f.pr.ne (x:=x) Z)
  have e1:ay ch x []=ch:=by
   funext z;unfold ay;split
   ·grind
   ·rfl
  have u:fh ch au x=au:=by
   funext z;unfold fh;grind
  have t:ay aw g (x::A)=aw:=by
   funext z;unfold ay;split
   ·grind
   ·rfl
  exact⟨N,P,L,A,m,Z,Z,aj.refl _ _⟩
 obtain⟨k,K,n⟩:∃k K,ch x=k::K:=by
  cases n:ch x with
  |nil=>grind
  |cons c r=>grind
 have hk:(fe L x).k=k:=by rw[o,n];rfl
 rw[hk];have Wl:=f.cy x;have dZ:=f.pr.nd x;rw[n]at Wl dZ;have Q:∀c∈k::K,0<=c/\c<w.cs.length:=fun c q=>f.EE (p:=x) Z;have hkl:(k::K).length<=w.cs.length:=ck dZ Q;have hk1:(k::K).length=K.length+1:=alk;refine v1 (ae o1) ?_;refine(ng m.ring Wl dZ Z O).mono ?_;rintro kv H1 ⟨b,s1,hb,T⟩;have m1:=m.fresh T;have z1:=T.size;have hS:=m.slt;have htb:B.tb<H.size:=hS _ (.inr O);obtain⟨ka,kc,rfl⟩:=Sl.shape s1;refine vs ?_;refine ba.intro (fun mm env J=>∃ (i:Nat) (L':List Pc),mm=(k::K).length - i/\i<=(k::K).length/\bP J B C w N P L' tops/\Sl J 1 (.slice ka (k::K).length kc) (k::K).length ((k::K).map i64) (some b)/\aj (fun z=>z=B.tb) H J/\
  (∀z,(fe L' z).k=(fe L z).k/\(fe L' z).d=(fe L z).d/\(fe L' z).u=if z∈(k::K).take i then -1 else(fe L z).u)/\
  env=[(0,ptr B.n),(1,i64 x),(4,i64 k),(22,.slice ka (k::K).length kc),(23,i64 (k::K).length),(24,i64 i)]) _ ⟨0,L,rfl,O,m1,s1,T.mono Z,Z,rfl⟩ ?_
 rintro mm env H2 ⟨i,a,rfl,hi,l,s2,u,F,rfl⟩;refine vs ?_;refine ai.dec (fun gi=>?_) (fun gi=>?_)<;>refine vs ?_
 ·have Kk:i< (k::K).length:=O;obtain⟨c,Ns⟩:∃c,(k::K)[i]? =some c:=Z;have q:=Q c Z;obtain⟨_,kb,lb,rfl,q2,q3⟩:=Sl.wx s2 Ns;obtain⟨Nh,G,_⟩:=l.own;have Oe:=l.len;refine⟨O,?_⟩;refine v6 (ae q2) ak7 ala Int.toNat_natCast q3 (ae G) ?_;refine⟨O,?_⟩;obtain⟨b0,_⟩:=l.rd q;obtain⟨L3,k3,e,t⟩:=l.aM q (-1);refine v3 l.places ak7 Nat.add_zero ?_;refine⟨O,?_⟩;refine vs ?_;generalize H2.wr B.tb ((aN a).set (c.toNat*4) (Value.int .i64 (-1)))=D at*;obtain⟨c0,_⟩:=e.rd q;have Pb:=e.len;obtain⟨L4,k4,d,j⟩:=e.dB q false;refine⟨O,?_⟩;refine v3 e.places ak7 Nat.add_zero ?_;refine⟨O,?_⟩;refine vs ?_;refine⟨(k::K).length - (i+1),O,i+1,L4,rfl,O,d,(s2.ext t Z).ext j Z,(u.trans t).trans j,fun z=>?_,?_⟩
  ·have tk:(k::K).take (i+1)=(k::K).take i++[c]:=by rw[alq,Ns];rfl
   obtain⟨g3,g4,g5⟩:=F z;rw[tk,k4,k3];unfold kD;grind
  grind [wrap64]
 obtain rfl:i=(k::K).length:=O;rw[alx]at F;have hkr:=Q k (by simp);have E:=f.raise hr n;obtain⟨Nh,G,_⟩:=l.own;have Oe:=l.len;refine v1 (ae G) ?_;refine(cY l.ring l.inv (x:=x) (y:=k) O O).mono ?_;rintro _ D ⟨rfl,N3,P3,r3,l3,n3,i3,t⟩;have e:=l.nh r3 i3 t l3;rw[<-n3]at E;obtain⟨cc,lt,o3,_⟩:=e.ed;refine vs ?_;refine di.intro (fun J=>J.own B.n=some [ptr B.c,ptr B.r,.slice (some ⟨B.tb,0,none⟩) a.length a.length,.slice (some ⟨B.tp,0,none⟩) tops.length cc]) o3 ?_;refine vs ?_;refine bG.intro (.slice (some ⟨B.tb,0,none⟩) a.length a.length) (fun J hI=>by refine v1 (ae hI) ?_;trivial) ?_;refine vs ?_;refine(sJ D).mono ?_;rintro _ H4 ⟨rfl,j⟩;have o4:=j.own o3 (fun h=>h);refine And.intro o4 ?_;have d:=e.fresh j;refine vs ?_;refine⟨O,?_⟩;obtain⟨b0,_⟩:=d.rd U;obtain⟨L5,k5,m5,M⟩:=d.Lq U lY;refine v2 d.places ak7 ?_;refine⟨O,?_⟩;rw[show aQ (aN a) (x.toNat*4) (aK (Value.agg #[i64 (-1),i64 (-1),i64 0,Value.bool false]))=aQ (aN a) (x.toNat*4) [i64 lY.u,i64 lY.k,i64 lY.d,.bool lY.m]from rfl];have SS:=d.k9.1.2.2.2.1;generalize H4.wr B.tb (aQ (aN a) (x.toNat*4) [i64 lY.u,i64 lY.k,i64 lY.d,.bool lY.m])=H5 at*;refine vs ?_;refine And.intro (M.own o4 SS) ?_;refine vs ?_;refine⟨N3,P3,L5,K++k::A,m5,E,fun z=>?_,(((u.mono O).trans (t.mono O)).trans (j.mono fun z _ h=>h.elim)).trans (M.mono O)⟩;rw[k5];unfold kD ay fh;obtain⟨g3,g4,g5⟩:=F z;obtain⟨pz,kz,dz⟩:=hp z;by_cases I:z=x
 ·rw[if_pos I,if_pos I,I,if_neg (fun h=>by have:=(f.Ip h).1 g;grind),FZ];exact⟨rfl,rfl,rfl⟩
 grind
end
section
variable {H J : Hp} {B : FB} {C V : Nat → Prop} {w : Nw} {N P : List Int} {L : List Pc} {tops : List Int} {ch : Int → List Int} {au : Int → Int} {aw : Int → List Int} {W : List Int}
theorem ym(m:bP H B C w N P L tops){lt:Int->Int->Bool}(hs:bA lt){x p g t:Int}{A:List Int}(f:dV (aH w) lt (bY N) ch au aw W)(hp:Il (fe L) ch au)(hx:x∈ch p)(hg:aH w x=g)(wU:g<tops.length)(hr:aw g=t::A)(ht:aO tops g=t):
  aD 446 [ptr B.n,i64 g,i64 x] H fun v J=>ak (∃N' P' L' l,bP J B C w N' P' L' tops/\dV (aH w) lt (bY N') (ay ch p l) (aM au x (-1)) (ay aw g (t::x::A)) W/\Il (fe L') (ay ch p l) (aM au x (-1))/\(ch p).Perm (x::l)/\
   aj (fun z=>z=B.nb\/z=B.pb\/z=B.tb) H J):=by
 obtain⟨x1,x2,x3,x4,x5⟩:=f.pr.dn p x hx;have FZ:p≠x:=fun e=>by rw[e,hs.Ih]at x5;cases x5
 have o:=f.EE hx;obtain⟨I,G,_⟩:=aI (w:=w) (x:=p) O;have ec:=m.len;have uv:=m.cells.yY;have No:(ch p).length<=w.cs.length:=ck (f.pr.nd p) fun c hc=>f.EE hc;obtain⟨l,Ol,X⟩:=(f.cy p).from hx;have dZ:=Ol.nodup_iff.1 (f.pr.nd p);have wT:(ch p).length=l.length+1:=by rw[Ol.length_eq,alk]
 have f1:=f.W9 Ol X;have Dx:ay ch p (x::l) p=x::l:=by unfold ay;grind
 obtain⟨ux,_,_⟩:=hp x;obtain⟨up,kp,dp⟩:=hp p;rw[x1]at ux;have htr:=f.rin (g:=g) (x:=t) Z;have SX:=O;obtain⟨cc,ltp,o1,q1,_⟩:=m.ed;obtain⟨a0,a1,a2,a3,a4⟩:=m.rd o;obtain⟨b0,b1,b2,b3,b4⟩:=m.rd (x:=p) ⟨I,G⟩;rw[ux]at a1;rw[dp]at b3;refine aL rX ?_;refine v1 (ae o1) ?_;refine⟨O,?_⟩;refine v4 (ae m.places) ak7 Nat.add_zero a1 ?_;refine⟨O,?_⟩;refine v4 (ae m.places) m.places ak7 b3 ?_;rw[wrap64 O O];obtain⟨L2,Q,m2,e2⟩:=m.Up (x:=p) ⟨I,G⟩ (((ch p).length:Int) - 1);refine⟨O,?_⟩;refine vs ?_;generalize H.wr B.tb ((aN L).set (p.toNat*4+2) (i64 (((ch p).length:Int) - 1)))=H2 at*;obtain⟨c0,_⟩:=m2.rd (x:=p) ⟨I,G⟩;obtain⟨L3,F,U,e3⟩:=m2.eK (x:=p) ⟨I,G⟩ (-1);refine v2 m2.places ak7 ?_;refine⟨O,?_⟩;refine vs ?_;generalize H2.wr B.tb ((aN L2).set (p.toNat*4+1) (Value.int .i64 (-1)))=H3 at*;obtain⟨cc3,lt3,o3,q3,_⟩:=U.ed;refine v1 (ae o3) ?_;refine(DL U.ring (x:=x) O).mono ?_;rintro _ J ⟨rfl,e⟩;obtain rfl:=e.symm;refine vs ?_;have T6:aj (fun z=>z=B.nb\/z=B.pb\/z=B.tb) H H3:=(e2.mono O).trans (e3.mono O);have XS:l=[]\/∃r y,l=r++[y]:=by
  rcases List.eq_nil_or_concat l with h| ⟨r,y,h⟩
  ·grind
  ·grind
 rcases XS with rfl| ⟨r,y,rfl⟩
 ·have We:bY N x=x:=X;rw[We];refine ai.bK (by simp) ?_;refine vs ?_;have q:=U;have Fl:=T6;obtain⟨j,eL⟩:∃j,j=L3:=⟨_,rfl⟩;rw[<-eL]at q F;have k4x:fe j x=fe L x:=by rw[F,Q];unfold kD;grind
  have k4p:fe j p=⟨(fe L p).u, -1,((ch p).length:Int) - 1,(fe L p).m⟩:=by rw[F,Q];unfold kD;grind
  have k4o:∀z,z≠p->fe j z=fe L z:=fun z hz=>by rw[F,Q];unfold kD;grind
  have hsp:∀ {K:List Int},bY K=qZ (bY N) x (bY P x)->dV (aH w) lt (bY K) (ay ch p []) (aM au x (-1)) aw (x::W):=fun h=>by
   rw[h];have hpv:bY P x=x:=by
    have:=m.inv.pn x;grind
   rw[hpv,Io];have f2:=f1.abg Dx;rwa[cP]at f2
  obtain⟨cc4,lt4,o4,q4,_⟩:=q.ed;refine v1 (ae o4) ?_;refine(iW q.ring q.inv (x:=x) O).mono ?_;rintro _ H5 ⟨rfl,K,P5,r5,l5,n5,i5,D⟩;have d:=q.nh r5 i5 D l5;have f5:=hsp n5;obtain⟨cc5,lt5,o5,q5,_⟩:=d.ed;have hl5:=d.len;refine v1 (ae o5) ?_;refine⟨O,?_⟩;obtain⟨d0,_⟩:=d.rd o;obtain⟨L6,k6,u,e6⟩:=d.aM o (-1);refine v3 d.places ak7 Nat.add_zero ?_;refine⟨O,?_⟩;refine vs ?_;generalize H5.wr B.tb ((aN j).set (x.toNat*4) (Value.int .i64 (-1)))=H6 at*;have hl6:=u.len;refine⟨O,?_⟩;obtain⟨g0,_⟩:=u.rd o;obtain⟨L7,k7,n,e7⟩:=u.dB o false;refine v3 u.places ak7 Nat.add_zero ?_;refine⟨O,?_⟩;refine vs ?_;generalize H6.wr B.tb ((aN L6).set (x.toNat*4+3) (Value.bool false))=H7 at*;obtain⟨cc7,lt7,o7,q7,_⟩:=n.ed;have q8:=n.cS q7 (ce (tops:=tops) (h:=g) O wU);rw[ht]at q8;have X7:=n.len;refine v1 (ae o7) ?_;refine⟨O,?_⟩;refine v4 (ae q7) ak7 ala q8 ?_;refine(cY n.ring n.inv (x:=t) (y:=x) O O).mono ?_;rintro _ H8 ⟨rfl,N8,P8,r8,l8,n8,i8,M⟩;have m8:=n.nh r8 i8 M l8;have E:=f5.Oz (t:=t) (A:=A) Z;rw[hg,<-n8]at E;refine vs ?_;refine⟨N8,P8,L7,[],m8,E,fun z=>?_,Ol,(((Fl.trans (D.mono O)).trans (e6.mono O)).trans (e7.mono O)).trans (M.mono O)⟩;rw[k7,k6];obtain⟨uz,kz,dz⟩:=hp z;by_cases T:z=x
  ·rw[T];rw[T]at kz dz;unfold kD aM ay;grind
  ·unfold kD aM ay;grind
 ·have hhd:bY N x=(r++[y]).headD (-1):=by
   cases r with
   |nil=>exact X.1
   |cons a r=>exact X.1
  have We:bY N x≠x:=fun e=>by
   have T:=(alo.1 dZ).1;apply T;rw[e]at hhd;cases r with
   |nil=>grind
   |cons a r=>grind
  refine ai.dec (fun h=>absurd h We) (fun _=>?_);obtain⟨r0,_⟩:=U.rd (x:=p) ⟨I,G⟩;obtain⟨j,k4,q,e4⟩:=U.eK (x:=p) ⟨I,G⟩ (bY N x);refine v2 U.places ak7 ?_;refine⟨O,?_⟩;refine vs ?_;generalize H3.wr B.tb ((aN L3).set (p.toNat*4+1) (i64 (bY N x)))=H4 at*;have Fl:=T6.trans (e4.mono O);have k4x:fe j x=fe L x:=by rw[k4,F,Q];unfold kD;grind
  have k4p:fe j p=⟨(fe L p).u,bY N x,((ch p).length:Int) - 1,(fe L p).m⟩:=by rw[k4,F,Q];unfold kD;grind
  have k4o:∀z,z≠p->fe j z=fe L z:=fun z hz=>by rw[k4,F,Q];unfold kD;grind
  have hsp:∀ {K:List Int},bY K=qZ (bY N) x (bY P x)->dV (aH w) lt (bY K) (ay ch p (r++[y])) (aM au x (-1)) aw (x::W):=fun h=>by
   rw[h];have hpv:bY P x=y:=mi.last (A:=r) m.inv X;rw[hpv];have f2:=f1.off (A:=r) (y:=y) Dx;rwa[cP]at f2
  obtain⟨cc4,lt4,o4,q4,_⟩:=q.ed;refine v1 (ae o4) ?_;refine(iW q.ring q.inv (x:=x) O).mono ?_;rintro _ H5 ⟨rfl,K,P5,r5,l5,n5,i5,D⟩;have d:=q.nh r5 i5 D l5;have f5:=hsp n5;obtain⟨cc5,lt5,o5,q5,_⟩:=d.ed;have hl5:=d.len;refine v1 (ae o5) ?_;refine⟨O,?_⟩;obtain⟨d0,_⟩:=d.rd o;obtain⟨L6,k6,u,e6⟩:=d.aM o (-1);refine v3 d.places ak7 Nat.add_zero ?_;refine⟨O,?_⟩;refine vs ?_;generalize H5.wr B.tb ((aN j).set (x.toNat*4) (Value.int .i64 (-1)))=H6 at*;have hl6:=u.len;refine⟨O,?_⟩;obtain⟨g0,_⟩:=u.rd o;obtain⟨L7,k7,n,e7⟩:=u.dB o false;refine v3 u.places ak7 Nat.add_zero ?_;refine⟨O,?_⟩;refine vs ?_;generalize H6.wr B.tb ((aN L6).set (x.toNat*4+3) (Value.bool false))=H7 at*;obtain⟨cc7,lt7,o7,q7,_⟩:=n.ed;have q8:=n.cS q7 (ce (tops:=tops) (h:=g) O wU);rw[ht]at q8;have X7:=n.len;refine v1 (ae o7) ?_;refine⟨O,?_⟩;refine v4 (ae q7) ak7 ala q8 ?_;refine(cY n.ring n.inv (x:=t) (y:=x) O O).mono ?_;rintro _ H8 ⟨rfl,N8,P8,r8,l8,n8,i8,M⟩;have m8:=n.nh r8 i8 M l8;have E:=f5.Oz (t:=t) (A:=A) Z;rw[hg,<-n8]at E;refine vs ?_;refine⟨N8,P8,L7,(r++[y]),m8,E,fun z=>?_,Ol,(((Fl.trans (D.mono O)).trans (e6.mono O)).trans (e7.mono O)).trans (M.mono O)⟩;rw[k7,k6];obtain⟨uz,kz,dz⟩:=hp z;by_cases T:z=x
  ·rw[T];rw[T]at kz dz;unfold kD aM ay;grind
  ·unfold kD aM ay;grind
end
section
variable{x g t:Int}
section
variable {H J : Hp} {B : FB} {C V : Nat → Prop} {w : Nw} {N P : List Int} {L : List Pc} {tops : List Int} {ch : Int → List Int} {au : Int → Int} {aw : Int → List Int} {W : List Int}
theorem Ae(m:bP H B C w N P L tops){lt:Int->Int->Bool}(D:bA lt){A:List Int}(f:dV (aH w) lt (bY N) ch au aw W)(hp:Il (fe L) ch au)(hg:aH w x=g)(Nl:0<g)(wU:g<tops.length)(hr:aw g=t::A)(ht:aO tops g=t):
  aD 447 [ptr B.n,i64 g,i64 x] H fun v J=>ak (∃N' P' L' c n A',bP J B C w N' P' L' tops/\dV (aH w) lt (bY N') c n (ay aw g (t::A')) W/\Il (fe L') c n/\(∀z,au z= -1->n z= -1)/\
   aj (fun z=>z=B.nb\/z=B.pb\/z=B.tb) H J):=by
 have e0:ay aw g (t::A)=aw:=by
  funext z;unfold ay;split
  ·grind
  ·rfl
 refine aL mY ?_;refine vs ?_;refine ba.intro (fun mm env J=>∃ (x:Int) (N' P':List Int) (L':List Pc) (c:Int->List Int) (n:Int->Int) (A':List Int),mm=Ko lt w.cs.length x/\aH w x=g/\bP J B C w N' P' L' tops/\dV (aH w) lt (bY N') c n (ay aw g (t::A')) W/\Il (fe L') c n/\(∀z,au z= -1->n z= -1)/\
   aj (fun z=>z=B.nb\/z=B.pb\/z=B.tb) H J/\env=[(0,ptr B.n),(1,i64 g),(2,i64 x)]) _ ⟨x,N,P,L,ch,au,A,rfl,hg,m,Z,hp,fun _ h=>h,aj.refl _ _,rfl⟩ ?_
 rintro mm env H1 ⟨y,F,Q,T,U,r,j,rfl,hy,a,e,p,E,o,rfl⟩;obtain⟨X,y1,_⟩:=aI (w:=w) (x:=y) O;obtain⟨tv,d,_⟩:=a.own;obtain⟨a0,a1,a2,a3,a4⟩:=a.rd ⟨X,y1⟩;obtain⟨uy,_,_⟩:=p y;have hl:=a.len;rw[uy]at a1;refine v1 (ae d) ?_;refine⟨O,?_⟩;refine v4 (ae a.places) ak7 Nat.add_zero a1 ?_;refine ai.dec (fun G=>?_) (fun G=>?_)<;>refine v1 (ae d) ?_
 ·exact⟨F,Q,T,U,r,j,a,e,p,E,o⟩
 refine⟨O,?_⟩;refine v3 (ae a.places) ak7 a4 ?_;have M:=e.pr.up y _ rfl G;obtain⟨_,_,h3,h4,h5⟩:=e.pr.dn _ _ M;cases hm:(fe T y).m
 ·refine v1 (ae d) ?_;refine⟨O,?_⟩;obtain⟨q,k2,K,u⟩:=a.dB ⟨X,y1⟩ true;refine v2 a.places ak7 ?_;refine⟨O,?_⟩;refine vs ?_;refine⟨F,Q,q,U,r,j,K,e,fun z=>?_,E,o.trans (u.mono O)⟩;rw[k2];unfold kD;split
  ·grind
  ·exact p z
 ·refine v1 (ae d) ?_;refine⟨O,?_⟩;refine v4 (ae a.places) ak7 Nat.add_zero a1 ?_;refine(ym a D e p M hy wU (A:=j) (by unfold ay;grind) ht).mono ?_;rintro _ H2 ⟨N2,P2,q,l,K,I,p2,Ol,u⟩;rw[cP]at I;refine vs ?_;obtain⟨z0,z1,_⟩:=aI (w:=w) (x:=r y) O;refine⟨Ko lt w.cs.length (r y),B7 D ⟨z0,O⟩ h5,r y,N2,P2,q,_,_,y::j,rfl,O,K,I,p2,fun z hz=>?_,o.trans u,rfl⟩;unfold aM;grind
theorem qt(m:bP H B C w N P L tops){lt:Int->Int->Bool}(j:bA lt){A:List Int}(f:dV (aH w) lt (bY N) ch au aw W)(c:Il (fe L) ch au)(G:aH w x=g)(D:0<g)(r:g<tops.length)(M:aw g=t::A)(d:aO tops g=t):
  aD 440 [ptr B.n,i64 g,i64 x] H fun v J=>ak (∃N' P' L' e a A',bP J B C w N' P' L' tops/\dV (aH w) lt (bY N') e a (ay aw g (t::A')) W/\Il (fe L') e a/\a x= -1/\(∀z,au z= -1->a z= -1)/\
   aj (fun z=>z=B.nb\/z=B.pb\/z=B.tb) H J):=by
 obtain⟨y0,y1,_⟩:=aI (w:=w) (x:=x) O;obtain⟨tv,o1,_⟩:=m.own;obtain⟨a0,a1,a2,a3,a4⟩:=m.rd ⟨y0,y1⟩;obtain⟨uy,_,_⟩:=c x;have hl:=m.len;rw[uy]at a1;refine aL nQ ?_;refine v1 (ae o1) ?_;refine⟨O,?_⟩;refine v4 (ae m.places) ak7 Nat.add_zero a1 ?_;refine ai.dec (fun n=>?_) (fun n=>?_)<;>refine vs ?_
 ·have e0:ay aw g (t::A)=aw:=by
   funext z;unfold ay;split
   ·grind
   ·rfl
  exact⟨N,P,L,ch,au,A,m,Z,c,n,fun _ h=>h,aj.refl _ _⟩
 have p:=f.pr.up x _ rfl n;obtain⟨_,_,h3,h4,h5⟩:=f.pr.dn _ _ p;refine(ym m j f c p G r M d).mono ?_;rintro _ H2 ⟨N2,P2,L2,l,E,I,p2,Ol,Q⟩;refine vs ?_;refine(Ae E j (x:=au x) (A:=x::A) I p2 O D r (by unfold ay;grind) d).mono ?_;rintro _ H3 ⟨K,T,u,F,Af,o,X,y,p3,q,U⟩;rw[cP]at y;refine vs ?_;exact⟨K,T,u,F,Af,o,X,y,p3,q x (by unfold aM;omega),fun z hz=>q z (by unfold aM;omega),Q.trans U⟩
end
end
theorem Lr(a b:List Int):ws (a++b)=ws a++ws b:=by grind [ws]
theorem Px{l:List Int}{d:Nat}{y v:Int}(h:l[d]? =some y):(ws [y]++ws (l.set d v)).Perm (ws [v]++ws l):=by
 have x:=(ak8.1 h).1;have z:l=l.take d++y::l.drop (d+1):=by
  rw[ak9 x]at h;injection h with h;rw[<-h,<-alO x,amr]
 grind [Lr,mv]
section
variable {H J : Hp} {B : FB} {C V : Nat → Prop} {w : Nw} {N P : List Int} {L : List Pc} {tops : List Int} {ch : Int → List Int} {au : Int → Int} {aw : Int → List Int} {W : List Int}
structure Nt(w:Nw)(g:Int)(nx:Int->Int)(GG ch:Int->List Int)(au:Int->Int)(aw:Int->List Int)(Ft rest W0:List Int):Prop where
 f:dV (aH w) (aU w) nx ch au aw (ws Ft++(rest++W0))
 td:∀ (d:Nat) y,Ft[d]? =some y->y≠ -1->(ch y).length=d/\aH w y=g
 rh:∀y∈rest,aH w y=g
 c0:∀z∈W0,ch z=GG z
 tl:Ft.length<=w.cs.length+1
theorem Fu(m:bP H B C w N P L tops){roots W0:List Int}{g:Int}{b o rc:Nat}{lb:List Value}(hb:H.own b=some lb)(Mu:∀ (i:Nat) y,roots[i]? =some y->lb[o+i]? =some (i64 y))(hbs:¬B.S C b)(t0:Nt w g (bY N) ch ch au aw [] roots W0)(hp:Il (fe L) ch au)(hrl:roots.length<=65536):
  aD 444 [ptr B.n,.slice (some ⟨b,o,none⟩) roots.length rc] H fun v J=>ak (∃N' P' L' A F n t,bP J B C w N' P' L' tops/\Nt w g (bY N') ch A F aw n [] W0/\Il (fe L') A F/\
   Sl J 1 v n.length (n.map i64) t/\(∀z,t=some z->H.size<=z)/\aj (fun z=>C z\/z=B.nb\/z=B.pb\/z=B.tb) H J):=by
 have uv:=m.cells.yY;have Nb:=aB hb;have hS:=m.slt;have ls:=ar w;have hTb:∀ {z:Nat},(C z\/z=B.nb\/z=B.pb\/z=B.tb)->B.S C z:=fun h=>by
  rcases h with h|h|h|h
  ·exact .inl h
  ·exact .inr O
  ·exact .inr O
  ·exact .inr O
 refine aL qK ?_;refine vs ?_;refine ba.intro (fun mm env J=>∃ (i:Nat) (N' P':List Int) (L':List Pc) (A:Int->List Int) (F:Int->Int) (n:List Int) (j:Value) (t:Option Nat),mm=roots.length - i/\i<=roots.length/\bP J B C w N' P' L' tops/\Nt w g (bY N') ch A F aw n (roots.drop i) W0/\Il (fe L') A F/\
   Sl J 1 j n.length (n.map i64) t/\(∀z,t=some z->H.size<=z)/\aj (fun z=>C z\/z=B.nb\/z=B.pb\/z=B.tb\/H.size<=z) H J/\
   env=[(0,ptr B.n),(5,j),(10,.slice (some ⟨b,o,none⟩) roots.length rc),(11,i64 roots.length),(12,i64 i)]) _ ⟨0,N,P,L,ch,au,[],_,none,rfl,O,m,t0,hp,Sl.nil _ _,Z,aj.refl _ _,rfl⟩ ?_
 rintro mm env H1 ⟨i,N1,P1,L1,ch1,X8,n,j,t,rfl,hi,m1,t1,p1,s1,u,e1,rfl⟩;refine vs ?_;refine ai.dec (fun gi=>?_) (fun gi=>?_)<;>refine vs ?_;rotate_left
 ·obtain rfl:i=roots.length:=O;rw[amF]at t1;exact⟨N1,P1,L1,ch1,X8,n,t,m1,t1,p1,s1,u,e1.mono Z⟩
 have Kk:i<roots.length:=O;obtain⟨x,hx⟩:∃x,roots[i]? =some x:=⟨_,ak9 Kk⟩;have dr:roots.drop i=x::roots.drop (i+1):=by
  rw[alO Kk];congr 1;rw[ak9 Kk]at hx;injection hx
 have ob:H1.own b=some lb:=e1.own hb Z;refine⟨O,?_⟩;refine v4 (ae ob) ala Int.toNat_natCast (Mu i x hx) ?_;rw[dr]at t1;have ach:x∈ws n++(x::roots.drop (i+1)++W0):=by simp
 refine ba.intro (fun mm env J=>∃ (x:Int) (N' P':List Int) (L':List Pc) (A:Int->List Int) (F:Int->Int) (n:List Int) (j:Value) (t:Option Nat),mm=(ws n).length/\bP J B C w N' P' L' tops/\Nt w g (bY N') ch A F aw n (x::roots.drop (i+1)) W0/\Il (fe L') A F/\
   Sl J 1 j n.length (n.map i64) t/\(∀z,t=some z->H.size<=z)/\aj (fun z=>C z\/z=B.nb\/z=B.pb\/z=B.tb\/H.size<=z) H J/\
   env=[(0,ptr B.n),(5,j),(7,i64 x),(10,.slice (some ⟨b,o,none⟩) roots.length rc),(11,i64 roots.length),(12,i64 i)]) _ ⟨x,N1,P1,L1,ch1,X8,n,j,t,rfl,m1,t1,p1,s1,u,e1,rfl⟩ ?_
 clear hx dr ach m1 t1 p1 s1 u e1 ob;rintro mm env H2 ⟨x,E,P2,L2,l,gG,n,j,t,rfl,D,Q,p2,s2,u,e2,rfl⟩;have Kl:=Q.f.win (x:=x) (by simp);have Wm:=Q.rh x (by simp);have Oe:=D.len;obtain⟨tv,o2,_⟩:=D.own;obtain⟨a0,a1,a2,a3,a4⟩:=D.rd Kl;rw[(p2 x).2.2]at a3;have tC:(l x).length<=w.cs.length:=ck (Q.f.pr.nd x) fun c hc=>Q.f.EE hc;refine v1 (ae o2) ?_;refine⟨O,?_⟩;refine v3 (ae D.places) ak7 a3 ?_;refine ba.intro (fun mm env J=>∃ (tb:List Int) (j:Value) (t:Option Nat),mm=(l x).length+1 - tb.length/\ws tb=ws n/\bP J B C w E P2 L2 tops/\Nt w g (bY E) ch l gG aw tb (x::roots.drop (i+1)) W0/\
   Sl J 1 j tb.length (tb.map i64) t/\(∀z,t=some z->H.size<=z)/\aj (fun z=>C z\/z=B.nb\/z=B.pb\/z=B.tb\/H.size<=z) H J/\
   env=[(0,ptr B.n),(5,j),(7,i64 x),(8,i64 (l x).length),(10,.slice (some ⟨b,o,none⟩) roots.length rc),(11,i64 roots.length),(12,i64 i)]) _ ⟨n,j,t,rfl,rfl,D,Q,s2,u,e2,rfl⟩ ?_
 have hwt:(ws n).length<=w.cs.length:=by
  have h1:=ck Q.f.wn fun c hc=>Q.f.win hc;rw[alm]at h1;omega
 clear Q D s2 u e2 o2 a1 a2 a3 a4;rintro mm env U ⟨tb,j,t,rfl,Wn,m3,r,I,u,e3,rfl⟩;have z3:=e3.size;have XP:=r.tl;obtain⟨wa,wc,rfl⟩:=Sl.shape I;refine vs ?_;refine ai.dec (fun gd=>?_) (fun gd=>?_)<;>refine vs ?_
 ·refine xR (B:=H.size) u z3 I (-1) O fun w' H4 Ya Py s4 K=>?_;refine vs ?_;refine⟨(l x).length+1 - (tb.length+1),O,tb++[-1],w',Ya,by simp,by grind [Lr,ep],m3.ext K Z,⟨?_,fun d y hd X=>?_,r.rh,r.c0,?_⟩,s4,Py,e3.trans (K.mono O),rfl⟩
  ·cases r;grind [Lr,ep]
  ·cases r;grind
  grind
 have y5:(l x).length<tb.length:=O;obtain⟨y,X⟩:∃y,tb[(l x).length]? =some y:=⟨_,ak9 y5⟩;obtain⟨_,qb,ql,rfl,M,q3⟩:=Sl.wx I X;have hqb:t=some qb:=by
  cases t with
  |none=>have:=I.2.2;grind
  |some b'=>obtain⟨_,_,h1,_⟩:=I.2;grind
 subst hqb;have hqs:=u qb rfl;have ag3:=aB M;have hql:=(ak8.1 q3).1;have hMq:∀z,B.S C z->z≠qb:=Z;refine⟨O,?_⟩;refine v5 (ae M) ak7 ala Int.toNat_natCast q3 ?_;refine ai.dec (fun gy=>?_) (fun gy=>?_)<;>refine vs ?_
 ·refine⟨⟨O,O⟩,?_⟩;refine v4 M ak7 ala Int.toNat_natCast ?_;refine⟨O,?_⟩;have s4:=I.nG M (l x).length (i64 x);have K:aj (fun z=>z=qb) U (U.wr qb (ql.set (l x).length (i64 x))):=(aj.refl (fun z=>z=qb) _).wr (fun _=>rfl) _;refine vs ?_;have T:=Px (v:=x) X;rw[ep y,if_pos gy,ep x,if_neg O,alH]at T;have m4:=m3.ext K O;have s5:Sl (U.wr qb (ql.set (l x).length (i64 x))) 1 (.slice (some ⟨qb,0,none⟩) (tb.set (l x).length x).length wc) (tb.set (l x).length x).length ((tb.set (l x).length x).map i64) (some qb):=by
   rw[alb,alD];exact s4
  refine⟨roots.length - (i+1),O,i+1,E,P2,L2,l,gG,tb.set (l x).length x,_,some qb,rfl,O,m4,⟨?_,fun d z hd G=>?_,fun z G=>r.rh z (by simp[G]),r.c0,Z⟩,p2,s5,u,e3.trans (K.mono O),?_⟩
  ·cases r;grind [dV.perm]
  ·cases r;grind
  grind [wrap64]
 ·obtain⟨hyd,hyg⟩:=r.td _ y X gy;have T:=Px (v:= -1) X;rw[ep y,if_neg gy,ep (-1),if_pos rfl,alH]at T;obtain⟨f,Uq⟩:∃f,f=tb.set (l x).length (-1):=⟨_,rfl⟩;have f4:dV (aH w) (aU w) (bY E) l gG aw (y::x::(ws f++(roots.drop (i+1)++W0))):=by
   refine r.f.perm ?_;rw[<-Uq]at T;rw[List.perm_iff_count]at T ⊢;intro z;have:=T z;simp only[amR,alX,alH,List.count_cons,List.count_nil]at this ⊢;omega
  have aer:(ws tb).length=(ws f).length+1:=by
   rw[<-Uq]at T;have:=T.length_eq;simp only[alX,alH,alk]at this;omega
  have htd:∀ (d:Nat) z,f[d]? =some z->z≠ -1->(l z).length=d/\aH w z=g:=fun d z hd G=>by
   cases r;grind
  refine⟨⟨O,O⟩,?_⟩;refine v4 M ak7 ala Int.toNat_natCast ?_;refine⟨O,?_⟩;have s4:=I.nG M (l x).length (i64 (-1));have K:aj (fun z=>z=qb) U (U.wr qb (ql.set (l x).length (i64 (-1)))):=(aj.refl (fun z=>z=qb) _).wr (fun _=>rfl) _;have s5:Sl (U.wr qb (ql.set (l x).length (i64 (-1)))) 1 (.slice (some ⟨qb,0,none⟩) f.length wc) f.length (f.map i64) (some qb):=by
   rw[Uq,alb,alD];exact s4
  have Nu:f.length=tb.length:=Z;refine vs ?_;have m4:=m3.ext K O;generalize U.wr qb (ql.set (l x).length (Value.int .i64 (-1)))=H4 at*;obtain⟨Wh,o4,_⟩:=m4.own;refine v1 (ae o4) ?_;refine(cv m4.cells y x).mono ?_;rintro _ H5 ⟨rfl,c5,e5⟩;have m5:=m4.aE c5 e5 rfl;have Oc:y≠x:=fun e=>by cases f4;grind
  have SX:0<aH w x:=(f4.wm x (by simp)).2.2;rw[fQ (w:=w) (a:=y) (b:=x) O SX];have s6:=s5.ext e5 Z;obtain⟨p,q,Wo,hl,f5,hpg⟩:∃p q,(if aU w y x=true then(p=y/\q=x)else(p=x/\q=y))/\aU w p q=true/\dV (aH w) (aU w) (bY E) l gG aw (p::q::(ws f++(roots.drop (i+1)++W0)))/\aH w p=g/\aH w q=g:=by
   cases iD:aU w y x
   ·exact⟨x,y,by simp,by grind [aU,Nw.key,Nw.seq],f4.perm (List.Perm.swap ..),Wm,hyg⟩
   grind
  cases iD:aU w y x<;>simp only[iD,if_true,if_false,al4]at Wo<;>obtain⟨rfl,rfl⟩:=Wo<;>refine vs ?_;all_goals
   refine(DN m5 (x:=p) (y:=q) f5 p2 O hl).mono ?_;rintro _ H6 ⟨N6,P6,L6,Wp,Ls,m6,f6,p6,hc6,ho6,e6⟩;have hn6:=f6.wn;rw[alo]at hn6;have s7:=s6.ext e6 Z;refine vs ?_;refine⟨(ws f).length,Z,p,N6,P6,L6,Wp,Ls,f,_,some qb,rfl,m6,⟨?_,fun d z hd G=>?_,fun z G=>?_,fun z G=>?_,O⟩,p6,s7,u,((e3.trans (K.mono O)).trans (e5.mono fun z _ h=>.inl h)).trans (e6.mono O),by rw[Nu]⟩
   ·refine f6.perm ?_;grind
   ·grind
   ·cases r;grind
   cases r;grind
end
section
variable{n i:Nat}{H:Hp}
structure HJ(w:Nw)(N:List Int)(L:List Pc)(tops:List Int)(ch:Int->List Int)(au:Int->Int)(aw:Int->List Int):Prop where
 f:dV (aH w) (aU w) (bY N) ch au aw []
 pc:Il (fe L) ch au
 tp:∀g,aO tops g=(aw g).headD (-1)
 ls:∀g y,0<g->aH w y=g->aO tops g≠ -1/\(y≠aO tops g->aU w (aO tops g) y=true)
 tl:tops.length=w.hs.length
def dQ(n:Nat)(H:Hp)(S:Nat->Prop)(w:Nw):Prop:=∃ (B:FB) (C:Nat->Prop) (N P:List Int) (L:List Pc) (tops:List Int) (ch:Int->List Int) (au:Int->Int) (aw:Int->List Int),B.n=n/\bP H B C w N P L tops/\HJ w N L tops ch au aw/\∀z,S z↔B.S C z
theorem dQ.slt{S:Nat->Prop}{w:Nw}(h:dQ n H S w):∀z,S z->z<H.size:=by
 obtain⟨B,C,N,P,L,tops,ch,au,aw,rfl,m,l,x⟩:=h;exact fun z a=>m.slt z ((x z).1 a)
theorem dQ.ext{J:Hp}{S V:Nat->Prop}{w:Nw}(h:dQ n H S w)(e:aj V H J)(a:∀z,S z->¬V z):dQ n J S w:=by
 obtain⟨B,C,N,P,L,tops,ch,au,aw,rfl,m,l,x⟩:=h;exact⟨B,C,N,P,L,tops,ch,au,aw,rfl,m.ext e Z,l,x⟩
theorem HJ.first{w:Nw}{N:List Int}{L:List Pc}{tops:List Int}{ch:Int->List Int}{au:Int->Int}{aw:Int->List Int}(l:HJ w N L tops ch au aw){g x:Int}(h:w.first g x):aO tops g=x:=by
 obtain⟨m,c,v⟩:=bh.1 h;obtain⟨z,e⟩:=l.ls g x m c;apply alt;intro n;have y:=e (Ne.symm n);have t:aH w (aO tops g)=g:=by
  have hm:aO tops g∈aw g:=by
   have:=l.tp g;rw[this]at z ⊢;exact eM z
  exact(l.f.rm g _ hm).1
 have a:=v _ t n;rw[(ar w).vk y]at a;cases a
theorem yn{S:Nat->Prop}{w:Nw}(h:dQ n H S w)(g:Int):aD 439 [ptr n,i64 g] H fun v J=>ak (
  ((w.len g=0/\v= .tuple [i64 0,.bool false].toArray)\/∃x,w.first g x/\v= .tuple [i64 x,.bool true].toArray)/\J=H):=by
 obtain⟨B,C,N,P,L,tops,ch,au,aw,rfl,m,l,p⟩:=h;obtain⟨d,lt,y,t,q,o,f⟩:=m.ed;refine aL rW ?_;refine v1 (ae y) ?_;refine(eU m.cells g).mono ?_;rintro _ _ ⟨rfl,rfl⟩;refine vs ?_;refine ai.dec (fun z=>?_) (fun z=>?_)
 ·refine vs ?_;exact⟨.inl ⟨z,rfl⟩,rfl⟩
 have c:0<g:=alt fun c=>z (Nw.Fg.2 (.inl O));obtain⟨x,a⟩:=so c z;have j:=(bh.1 a).2.1;have e:=((m.cells.hm x).2 O).2;rw[j,<-l.tl]at e;have r:=m.cS t (ce (tops:=tops) (h:=g) O e);rw[l.first a]at r;refine v1 (ae y) ?_;refine⟨O,?_⟩;refine v4 (ae t) ak7 ala r ?_;exact⟨.inr ⟨x,a,rfl⟩,rfl⟩
theorem BF{S:Nat->Prop}{w:Nw}(h:dQ n H S w)(g x k s:Int):aD 436 [ptr n,i64 g,i64 x,ms k s] H fun v J=>ak (
  (¬w.kC g x/\v= .bool false/\br (dQ n) S H J w)\/(w.kC g x/\v= .bool true/\br (dQ n) S H J (w.put x (g,k,s)))):=by
 obtain⟨B,C,N,P,L,tops,ch,au,aw,rfl,m,l,t⟩:=h;have hC:∀z,C z->S z:=fun z h=>(t z).2 (.inl h);refine aL nP ?_;refine vs ?_;have A:af H (H.new 148 [i64 k,u64 s]):=bm;have b0:(H.new 148 [i64 k,u64 s]).own H.size=some [i64 k,u64 s]:=am _ _ _;have p:=m.fresh A;generalize H.new 148 [i64 k,u64 s]=H0 at*;have K:aj S H H0:=A.mono fun _ _ h=>h.elim;obtain⟨tv,HB,_⟩:=p.own;refine v2 (ae HB) (ae b0) ?_;refine(jW p.cells g x k s).mono ?_;rintro _ H1 (⟨kV,rfl,q,r⟩| ⟨E,rfl,q,r⟩)
 ·refine vs ?_;exact .inl ⟨kV,rfl,br.same ⟨B,C,N,P,L,tops,ch,au,aw,rfl,p.aE q r rfl,l,t⟩ (K.trans (r.mono Z))⟩
 obtain⟨U,M,mj⟩:=id E;have m2:=p.aE q r (by simp[Nw.put]);have hg:=U.1;have wU:g<tops.length:=by
  have:=(ak8.1 U.2).1;have:=l.tl;omega
 have j1:=fun y=>dT M (g,k,s) y;have j4:aH w x<=0:=Int.not_lt.1 fun h=>mj (bf.1 h);have u:∀a b,0<aH w a->0<aH w b->a≠x->b≠x->aU (w.put x (g,k,s)) a b=aU w a b:=fun a b ha hb wA zS=>du M _ ha hb wA zS;have f2:dV (aH (w.put x (g,k,s))) (aU (w.put x (g,k,s))) (bY N) ch au aw (x::[]):=l.f.put (g:=g) rfl j4 O O Z Z u;refine vs ?_;refine(uY m2 f2 Z wU (l.tp g)).mono ?_;rintro _ H3 ⟨X,P3,Yb,ll,m3,Pb,D,f3,hor,Rs,hlx,I,e3⟩;refine vs ?_;have hhm:∀y,aH w y=g->y≠x:=Z;have hTg:aO tops g≠ -1->aH w (aO tops g)=g:=fun h=>by
  have hm:aO tops g∈aw g:=by
   have:=l.tp g;rw[this]at h ⊢;exact eM h
  exact(l.f.rm g _ hm).1
 refine .inr ⟨E,rfl,br.same ⟨B,C,X,P3,L,Yb,ch,au,_,rfl,m3,⟨f3,l.pc,fun g2=>?_,fun g2 y Om j=>?_,by rw[Pb];exact l.tl⟩,t⟩ ((K.trans (r.mono fun z _ h=>hC z h)).trans (e3.mono fun z _ h=>by
  rcases h with h|h|h|h
  ·grind
  ·exact(t z).2 (.inr O)
  ·exact(t z).2 (.inr O)
  ·exact(t z).2 (.inr O)))⟩
 ·rw[D];unfold cR ay;cases l;grind
 ·rw[D];unfold cR;rw[j1]at j;by_cases T:g2=g
  ·rw[if_pos T];refine⟨Rs,fun G=>?_⟩;by_cases d:y=x
   ·grind
   ·rw[if_neg d]at j;obtain⟨c,F⟩:=l.ls g y O O;have f:=hhm _ (hTg c);rcases hor with o| ⟨o,_⟩
    ·rw[o]at G I ⊢;have h6:=I c f;by_cases hyT:y=aO tops g
     ·grind
     ·have Q:=F hyT;rw[<-u _ _ O O f d]at Q;exact(ar _).tr _ _ _ h6 Q
    grind
  ·rw[if_neg T];have d:y≠x:=O;rw[if_neg d]at j;obtain⟨c,F⟩:=l.ls g2 y Om j;refine⟨c,fun G=>?_⟩;have f:aO tops g2≠x:=fun e=>by
    have hm:aO tops g2∈aw g2:=by
     have:=l.tp g2;rw[this]at c ⊢;exact eM c
    have o:=(l.f.rm g2 _ hm).1;grind
   have hT2:aH w (aO tops g2)=g2:=by
    have hm:aO tops g2∈aw g2:=by
     have:=l.tp g2;rw[this]at c ⊢;exact eM c
    exact(l.f.rm g2 _ hm).1
   grind
theorem bP.bounds{B:FB}{C:Nat->Prop}{w:Nw}{N P:List Int}{L:List Pc}{tops:List Int}(m:bP H B C w N P L tops):w.cs.length<=65536/\N.length=w.cs.length:=⟨m.cells.yY,m.len.2⟩
theorem oh{w:Nw}:∀x,0<aH w x->0<=x/\x<w.cs.length:=fun x h=>by
 obtain⟨a,b,_⟩:=aI h;omega
theorem ol{S:Nat->Prop}{w:Nw}(h:dQ n H S w)(g:Int):aD 435 [ptr n,i64 g] H fun v J=>ak (
  (w.len g=0/\v= .tuple [i64 0,.bool false].toArray/\br (dQ n) S H J w)\/(∃x,w.first g x/\v= .tuple [i64 x,.bool true].toArray/\br (dQ n) S H J (w.put x (0,0,0)))):=by
 refine aL mX ?_;refine vs ?_;refine(yn h g).mono ?_;rintro _ J ⟨⟨h0,rfl⟩| ⟨x,hx,rfl⟩,e⟩
 ·obtain rfl:=e.symm;refine vs ?_;exact .inl ⟨h0,rfl,br.same h (aj.refl _ _)⟩
 obtain rfl:=e.symm;refine vs ?_;obtain⟨B,C,N,P,L,tops,ch,au,aw,rfl,m,l,T⟩:=h;obtain⟨hg,Wm,tC⟩:=bh.1 hx;have RG:=l.first hx;have j4:=oh (w:=w) x O;have ls:=ar w;obtain⟨A,hr⟩:∃A,aw g=x::A:=by
  have p:=l.tp g;rw[RG]at p;cases X:aw g with
  |nil=>grind
  |cons c r=>grind
 have wU:g<tops.length:=by
  have:=((m.cells.hm x).2 O).2;have:=l.tl;omega
 refine(sK m l.f l.pc hr).mono ?_;rintro _ H1 ⟨N1,P1,L1,A1,m1,D,p1,e1⟩;have hr1:ay aw g (x::A1) g=x::A1:=by unfold ay;grind
 obtain⟨Ni,o1,_⟩:=m1.own;obtain⟨XQ,hN1⟩:=m1.bounds;have Wl:=D.rc g;have dZ:=D.rn g;rw[hr1]at Wl dZ;have mj:∀c∈x::A1,0<=c/\c<w.cs.length:=fun c X=>D.rin (g:=g) Z;have hgm:∀c∈x::A1,aH w c=g:=fun c X=>(D.rm g c Z).1;have ec:=ck dZ mj;rw[alk]at ec;refine v1 (ae o1) ?_;refine(ng m1.ring Wl dZ Z O).mono ?_;rintro rv H2 ⟨b2,s2,RC,f2⟩;obtain⟨ra,t,rfl⟩:=Sl.shape s2;have m2:=m1.fresh f2;have z2:=f2.size;obtain⟨Nh,o2,_⟩:=m2.own;have hS1:=m1.slt;have ack:¬B.S C b2:=Z;obtain⟨_,l2,c2,Ik,q2,Mq,Lj,SR⟩:=id s2;injection Ik with Ik ag7 Yc;subst Ik Yc;rw[ala]at Lj SR;have wT:(x::A1).length=A1.length+1:=alk;refine vs ?_;refine⟨O,?_⟩;refine vs ?_;obtain⟨o,Mu,Ur⟩:∃o,(∀ (i:Nat) y,A1[i]? =some y->l2[o+i]? =some (i64 y))/\(Value.slice (if(t:Int)=1 then some ⟨b2,0,none⟩else some ⟨b2,1,none⟩) A1.length (t - 1))= .slice (some ⟨b2,o,none⟩) A1.length (t - 1):=by
  rw[alk]at Mq SR;by_cases p:(t:Int)=1
  ·grind
  ·refine⟨1,fun i y I=>?_,Z⟩;have hi:=(ak8.1 I).1;have h7:((x::A1).map i64)[1+i]? =some (i64 y):=by rw[Nat.add_comm,alM,amj,alz,I];rfl
   grind
 have hv8:∀ (Yd:Decidable ((t:Int)=1)),Value.slice (@ite (Option Addr) ((t:Int)=1) Yd (some (⟨b2,0,none⟩:Addr)) (Option.map (fun(x:Addr)=>x.add (Int.toNat 1*1)) (some (⟨b2,0,none⟩:Addr)))) (((A1.length+1:Nat):Int).toNat - Int.toNat 1) ((t:Int).toNat - Int.toNat 1)=Value.slice (some ⟨b2,o,none⟩) A1.length (t - 1):=fun Yd=>by
  rw[show((A1.length+1:Nat):Int).toNat - Int.toNat 1=A1.length by simp,show(t:Int).toNat - Int.toNat 1=t - 1 by simp,<-Ur];by_cases p:(t:Int)=1
  ·grind
  ·rw[if_neg p,if_neg p];rfl
 rw[hv8];generalize hR8:Value.slice (some ⟨b2,o,none⟩) A1.length (t - 1)=R8 at*;have tb_:S B.nb:=(T _).2 (.inr O);have tb2:S B.pb:=(T _).2 (.inr O);have tb3:S B.tb:=(T _).2 (.inr O);have tb4:S B.tp:=(T _).2 (.inr O);have hC:∀z,C z->S z:=fun z h=>(T z).2 (.inl h);have yZ:aj S H H2:=(e1.mono Z).trans (f2.mono fun _ _ h=>h.elim);refine v1 (ae o2) ?_;refine(ng m2.ring Wl dZ Z O).mono ?_;rintro rv H3 ⟨b3,s3,Rn,f3⟩;obtain⟨ka,kc,rfl⟩:=Sl.shape s3;have m3:=m2.fresh f3;have q3:=f3.own q2 (fun h=>h);have z3:=f3.size;have T6:aj S H H3:=yZ.trans (f3.mono fun _ _ h=>h.elim);have aha:¬B.S C b3:=Z;have hSz:∀z,S z->z<H1.size:=Z;refine vs ?_;refine ba.intro (fun mm env J=>∃ (i:Nat) (N' P':List Int),mm=(x::A1).length - i/\i<=(x::A1).length/\bP J B C w N' P' L1 tops/\dV (aH w) (aU w) (bY N') (ay ch x []) (fh ch au x) (ay aw g ((x::A1).drop i)) ((x::A1).take i).reverse/\
  Sl J 1 (.slice ka (x::A1).length kc) (x::A1).length ((x::A1).map i64) (some b3)/\aj (fun z=>z=B.nb\/z=B.pb) H3 J/\
  env=[(0,ptr B.n),(1,i64 g),(6,i64 x),(8,R8),(36,.slice ka (x::A1).length kc),(37,i64 (x::A1).length),(38,i64 i)]) _ ⟨0,N1,P1,rfl,O,m3,D,s3,aj.refl _ _,rfl⟩ ?_
 rintro mm env H4 ⟨i,N4,P4,rfl,hi,q,f4,s4,e4,rfl⟩;obtain⟨Wh,o4,_⟩:=q.own;refine vs ?_;refine ai.dec (fun gi=>?_) (fun gi=>?_)<;>refine vs ?_
 ·have K:i< (x::A1).length:=O;obtain⟨c,Ns⟩:∃c,(x::A1)[i]? =some c:=⟨_,ak9 K⟩;have hcm:=mj c Z;obtain⟨_,kb,lb,rfl,qb,qc⟩:=Sl.wx s4 Ns;have hkb:kb=b3:=by
   obtain⟨_,_,_,F,_⟩:=s4;injection F with F;injection F with F;injection F with F
  have dr:(x::A1).drop i=c::(x::A1).drop (i+1):=by
   rw[alO K];congr 1;rw[ak9 K]at Ns;injection Ns
  have tk:(x::A1).take (i+1)=(x::A1).take i++[c]:=by rw[alq,Ns];rfl
  have Wq:=q.len;refine⟨O,?_⟩;refine v6 (ae qb) ak7 ala Int.toNat_natCast qc (ae o4) ?_;refine(iW q.ring q.inv (x:=c) O).mono ?_;rintro _ H5 ⟨rfl,N5,P5,r5,l5,n5,i5,f⟩;have m5:=q.nh r5 i5 f l5;have f5:=f4.SD (x:=c) (g:=g) (A:=(x::A1).drop (i+1)) q.inv (by unfold ay;grind);rw[cP,<-n5]at f5;refine vs ?_;refine⟨(x::A1).length - (i+1),O,i+1,N5,P5,rfl,O,m5,?_,s4.ext f Z,e4.trans f,?_⟩
  ·grind
  grind [wrap64]
 obtain rfl:i=(x::A1).length:=O;rw[amF,alx]at f4;have Fl:aj S H H4:=T6.trans (e4.mono Z);have z4:=e4.size;have q4:=e4.own q3 Z;obtain⟨cc,lt4,o4',q5,Dx,JH,JI⟩:=q.ed;refine v1 (ae o4') ?_;refine⟨O,?_⟩;refine v3 q5 ak7 ala ?_;refine⟨O,?_⟩;obtain⟨m5,f⟩:=q.fH q5 g.toNat (-1);refine vs ?_;have q6:=f.own q4 Z;have SU:=Fl.trans (f.mono Z);have z5:=f.size;generalize H4.wr B.tp (lt4.set g.toNat (Value.int .i64 (-1)))=H5 at*;have t0:Nt w g (bY N4) (ay ch x []) (ay ch x []) (fh ch au x) (ay aw g []) [] A1 [x]:=by
  refine⟨f4.perm ?_,Z,Z,fun _ _=>rfl,by simp⟩;show List.Perm _ (A1++[x]);exact Z
 have aco:¬B.S C b2:=ack;subst hR8;refine(Fu m5 q6 Mu aco t0 p1 O).mono ?_;rintro tv H6 ⟨N6,P6,L6,Wp,Ls,Ft,fq,m6,t6,p6,s6,Wr,e6⟩;obtain⟨ta,tc,rfl⟩:=Sl.shape s6;have XP:=t6.tl;have Oi:aj S H H6:=SU.trans (e6.mono Z);refine vs ?_;have hf6:=t6.f;rw[alH]at hf6;have Us:aO (tops.set g.toNat (-1))=cR (aO tops) g (([]:List Int).headD (-1)):=by grind [cR,aO]
 refine ba.intro (fun mm env J=>∃ (i:Nat) (N' P' Pz l':List Int),mm=Ft.length - i/\i<=Ft.length/\bP J B C w N' P' L6 Pz/\Pz.length=tops.length/\aO Pz=cR (aO tops) g (l'.headD (-1))/\
  dV (aH w) (aU w) (bY N') Wp Ls (ay aw g l') (ws (Ft.drop i)++[x])/\
  (∀c,aH w c=g->Ls c= -1->c∉ws (Ft.drop i)++[x]->l'.headD (-1)≠ -1/\(c≠l'.headD (-1)->aU w (l'.headD (-1)) c=true))/\
  Sl J 1 (.slice ta Ft.length tc) Ft.length (Ft.map i64) fq/\aj S H6 J/\
  env=[(0,ptr B.n),(1,i64 g),(6,i64 x),(57,.slice ta Ft.length tc),(58,i64 Ft.length),(59,i64 i)]) _ ⟨0,N6,P6,_,[],rfl,O,m6,Z,Us,hf6,fun c p h2 u=>?_,s6,aj.refl _ _,rfl⟩ ?_
 ·exfalso;rcases hf6.wY c O h2 with E|E
  ·rw[p]at E;unfold ay at E;grind
  grind
 rintro mm env H7 ⟨i,N7,P7,JN,G,rfl,hi7,m7,X7,Q,j,d,s7,e7,rfl⟩;have ahc:Ft.length<=65537:=O;refine vs ?_;refine ai.dec (fun gi=>?_) (fun gi=>?_)<;>refine vs ?_
 ·have K:i<Ft.length:=O;obtain⟨r,hrr⟩:∃r,Ft[i]? =some r:=⟨_,ak9 K⟩;obtain⟨_,kb,lb,rfl,qb,qc⟩:=Sl.wx s7 hrr;have hkb:fq=some kb:=by
   cases fq with
   |none=>have:=s7.2.2;grind
   |some b'=>obtain⟨_,_,p,_⟩:=s7.2;grind
  have ahd:=Wr kb hkb;have dr:Ft.drop i=r::Ft.drop (i+1):=by
   rw[alO K];congr 1;rw[ak9 K]at hrr;injection hrr
  refine⟨O,?_⟩;refine v5 (ae qb) ak7 ala Int.toNat_natCast qc ?_;rw[dr,mv,ep]at j d;refine ai.dec (fun gr=>?_) (fun gr=>?_)<;>refine vs ?_;rotate_left
  ·rw[if_neg gr]at j d;simp only[alX,alH]at j d;obtain⟨_,hrg⟩:=t6.td i r hrr gr;have U:aO JN g=G.headD (-1):=by rw[Q];unfold cR;omega
   refine(uY m7 j hrg O (by rw[U];unfold ay;grind)).mono ?_;rintro _ H8 ⟨N8,P8,Ye,l8,m8,hl8,ht8,M,hor,Rs,hlx,hlT,e8⟩;rw[cP]at M;rw[U]at hlT;have e8':aj S H7 H8:=e8.mono Z;refine vs ?_;refine⟨Ft.length - (i+1),O,i+1,N8,P8,Ye,l8,rfl,O,m8,O,?_,M,fun c p h2 u=>⟨Rs,fun ny=>?_⟩,s7.ext e8' Z,e7.trans e8',?_⟩
   ·rw[ht8,Q];funext z;unfold cR;omega
   ·cases ls;grind
   grind [wrap64]
  ·rw[if_pos gr]at j d;rw[alH]at j d;refine⟨Ft.length - (i+1),O,i+1,N7,P7,JN,G,rfl,O,m7,X7,Q,j,d,s7,e7,?_⟩;grind [wrap64]
 obtain rfl:i=Ft.length:=O;rw[amF]at j d;have hw0:ws ([]:List Int)++[x]=[x]:=rfl;rw[hw0]at j d;obtain⟨tv7,o7,_⟩:=m7.own;refine v1 (ae o7) ?_;refine(bZ m7.cells x).mono ?_;have acq:cu w.cs x:=bf.1 O;rintro _ H8 (⟨kV,_,_⟩| ⟨_,rfl,c8,e8⟩)
 ·exact absurd acq kV
 have m8:=m7.aE c8 e8 (by simp[Nw.put]);refine vs ?_;have j1:=fun y=>dT (w:=w) j4 (0,0,0) y;have w0:aH (w.put x (0,0,0)) (-1)=0:=rfl;have w1:aH (w.put x (0,0,0)) x=0:=Z;have w2:∀y,y≠x->aH (w.put x (0,0,0)) y=aH w y:=Z;have el:∀a b,0<aH w a->0<aH w b->a≠x->b≠x->aU (w.put x (0,0,0)) a b=aU w a b:=fun a b ha hb wA zS=>du j4 _ ha hb wA zS;have M:=j.drop (hm':=aH (w.put x (0,0,0))) (lt':=aU (w.put x (0,0,0))) (by
  rw[t6.c0 x (by simp)];unfold ay;grind) w0 w1 w2 el
 have hrm:∀g2 c,c∈ay aw g G g2->aH w c=g2/\c≠x:=fun g2 c X=>by
  cases j;grind
 refine .inr ⟨x,hx,rfl,br.same ⟨B,C,N7,P7,L6,JN,Wp,Ls,_,rfl,m8,⟨M,p6,fun g2=>?_,fun g2 y Om I=>?_,by rw[X7];exact l.tl⟩,T⟩ ((Oi.trans e7).trans (e8.mono fun z _ h=>hC z h))⟩
 ·rw[Q];unfold cR ay;split
  ·rfl
  ·exact l.tp g2
 ·by_cases h2:g2=g
  ·have U:aO JN g2=G.headD (-1):=by rw[Q,h2];unfold cR;omega
   rw[U];refine M.pr.lead (ar _) (fun z hz=>oh z hz) Om (fun c X hcp=>?_) I;have Oy:c≠x:=Z;rw[w2 c Oy]at X;obtain⟨u,E⟩:=d c O hcp Z;refine⟨u,fun ny=>?_⟩;obtain⟨h5,h6⟩:=hrm g _ (show G.headD (-1)∈ay aw g G g by unfold ay;grind [eM]);grind
  ·have U:aO JN g2=aO tops g2:=by rw[Q];unfold cR;omega
   rw[U];have Oc:y≠x:=Z;rw[w2 y Oc]at I;obtain⟨u,E⟩:=l.ls g2 y Om I;refine⟨u,fun ny=>?_⟩;have h5:aH w (aO tops g2)=g2:=by
    have hm:aO tops g2∈aw g2:=by
     have:=l.tp g2;rw[this]at u ⊢;exact eM u
    exact(l.f.rm g2 _ hm).1
   grind
theorem Fv{S:Nat->Prop}{w:Nw}(h:dQ n H S w):aD 437 [ptr n] H fun v J=>ak (
  (w.hs.length=65537/\v=i64 0/\br (dQ n) S H J w)\/(w.hs.length≠65537/\v=i64 w.hs.length/\br (dQ n) S H J w.make)):=by
 obtain⟨B,C,N,P,L,tops,ch,au,aw,rfl,m,l,a⟩:=id h;obtain⟨tv,o,Hv⟩:=m.own;refine aL qI ?_;refine v1 (ae o) ?_;refine(iP m.cells).mono ?_;rintro _ H1 (⟨j,rfl,rfl⟩| ⟨j,rfl,r,p,c,M⟩)
 ·refine vs ?_;exact .inl ⟨j,rfl,br.same h (aj.refl _ _)⟩
 have pG:=m.cells.pos;have hhs:=m.cells.Hv;have XP:=l.tl;have slt:=m.slt;have T5:=p.slt;obtain⟨n1,n2,n3,n4,n5,n6⟩:=m.out;obtain⟨⟨T,F,Q,U,I⟩,⟨d6,d7,d8,G⟩,⟨d10,d11,d12⟩⟩:=m.k9;have u:=c.own o n1;refine vs ?_;refine ai.bK Z ?_;refine v1 (ae u) ?_;have s1:=Hv.ext c Z;refine Mm s1 (-1) O fun w' d b' E K e=>?_;have A:=e.own u I;obtain⟨wa,wc,f⟩:=Sl.shape K;subst f;refine v1 A ?_;generalize f:Value.slice wa (tops++[-1]).length wc=w' at*;have t:aj (fun z=>z=B.n) d (d.wr B.n [ptr B.c,ptr B.r,.slice (some ⟨B.tb,0,none⟩) L.length L.length,w']):=(aj.refl (fun z=>z=B.n) _).wr (fun _=>rfl) _;have z1:=c.size;have q1:=slt _ (.inr (.inl rfl));have q2:=slt _ (.inr (.inr (.inl rfl)));have q3:=slt _ (.inr (.inr (.inr (.inl rfl))));have q4:=slt _ (.inr (.inr (.inr (.inr (.inl rfl)))));have q5:=slt _ (.inr (.inr (.inr (.inr (.inr (.inl rfl))))));have q6:=slt _ (.inr (.inr (.inr (.inr (.inr (.inr rfl))))));have hC1:∀z,r z->z≠b'/\(z<H.size->C z):=Z;refine .inr ⟨j,rfl,(FB.mk B.n B.c B.r B.nb B.pb B.tb b').S r,⟨⟨B.n,B.c,B.r,B.nb,B.pb,B.tb,b'⟩,r,N,P,L,tops++[-1],ch,au,aw,rfl,⟨⟨w',ah A,K.ext t Z⟩,?_,?_,m.inv,?_,m.len,?_,?_⟩,⟨l.f,l.pc,fun g=>by rw[xW];exact l.tp g,fun g y X hy=>by rw[xW];exact l.ls g y X hy,?_⟩,fun z=>Iff.rfl⟩,?_,fun z x=>?_⟩
 ·exact(p.ext e Z).ext t Z
 ·exact((m.ring.ext c n2 n3 n4).ext e (Ne.symm d10) (Ne.symm d11) (Ne.symm d12)).ext t (Ne.symm T) (Ne.symm F) (Ne.symm Q)
 ·exact t.own (e.own (c.own m.places n5) G) (Ne.symm U)
 ·grind
 ·grind
 ·simp[Nw.make,XP]
 ·exact((c.mono fun z _ h=>(a z).2 (.inl h)).trans (e.mono fun z _ h=>(a z).2 (.inr O))).trans (t.mono fun z _ h=>(a z).2 (.inr (.inl h)))
 ·rcases x with x|x|x|x|x|x|x
  ·rcases M z x with q|q
   ·exact .inl ((a z).2 (.inl q))
   omega
  ·exact .inl ((a _).2 (.inr (.inl x)))
  ·exact .inl ((a _).2 (.inr (.inr (.inl x))))
  ·exact .inl ((a _).2 (.inr Z))
  ·exact .inl ((a _).2 (.inr Z))
  ·exact .inl ((a _).2 (.inr Z))
  ·rcases E with D|D
   ·exact .inl ((a _).2 (.inr Z))
   grind
def qu(n i:Nat):List Int:=(List.range i).map (fun(k:Nat)=>(k:Int))++List.replicate (n - i) 0
theorem Cl(h:i<=n):(qu n i).length=n:=by unfold qu;grind
theorem RH(h:i<n):(qu n i).set i (i:Int)=qu n (i+1):=by
 unfold qu;rw[amD _ _ (by simp),alA,List.length_range,amM,show n - i=(n - (i+1))+1 by omega,alZ,amN,amB,alG];simp
theorem Ut(n:Nat)(x:Int):bY (qu n n) x=x:=by
 grind [qu,bY]
theorem Fw(H:Hp){n:Int}(hn:0<=n/\n<=65536):aD 150 [i64 n] H fun v J=>ak (∃r l pb N P,v= .tuple [ptr r,i64 0].toArray/\fV J r l pb N P/\N.length=n.toNat/\(∀x,bY N x=x)/\w9 (bY N) (bY P)/\af H J/\H.size<=r/\H.size<=l/\H.size<=pb):=by
 refine aL KY ?_;refine vs ?_;refine ai.dec (fun g=>absurd g O) (fun _=>?_);refine vs ?_;refine ai.dec (fun g=>absurd g O) (fun _=>?_);refine vs ?_;have Q:(List.replicate n.toNat (0:Int))=qu n.toNat 0:=by unfold qu;simp
 refine di.intro (fun J=>True) trivial ?_;refine vs ?_;refine ry.intro ?A ?B;case' A=>
  refine vs ?_;refine⟨O,?_⟩;refine vs ?_;refine⟨O,?_⟩;refine vs ?_;rw[Dz,Q];obtain⟨l,d⟩:∃l,l=H.size:=⟨_,rfl⟩;obtain⟨pb,q⟩:∃pb,pb=H.size+1:=⟨_,rfl⟩;have K:af H (((H.new 3 ((qu n.toNat 0).map i64)).new 3 ((qu n.toNat 0).map i64)).new 328 [.slice (some ⟨H.size,0,none⟩) n.toNat n.toNat,.slice (some ⟨H.size+1,0,none⟩) n.toNat n.toNat]):=(bm.new _ _).new _ _;have T:fV (((H.new 3 ((qu n.toNat 0).map i64)).new 3 ((qu n.toNat 0).map i64)).new 328 [.slice (some ⟨H.size,0,none⟩) n.toNat n.toNat,.slice (some ⟨H.size+1,0,none⟩) n.toNat n.toNat]) (H.size+1+1) l pb (qu n.toNat 0) (qu n.toNat 0):=by
   subst d q;refine⟨?_,?_,?_,rfl,O,O,O⟩
   ·rw[Cl (Nat.zero_le _)];exact az (by simp only[ag])
   ·rw[ax (by simp only[ag];omega),ax (by simp only[ag];omega),am]
   ·rw[ax (by simp only[ag];omega)];exact az (by simp only[ag])
  generalize ((H.new 3 ((qu n.toNat 0).map i64)).new 3 ((qu n.toNat 0).map i64)).new 328 [.slice (some ⟨H.size,0,none⟩) n.toNat n.toNat,.slice (some ⟨H.size+1,0,none⟩) n.toNat n.toNat]=o at*;have p:H.size<=l/\H.size<=pb:=O
 case' B=>
  refine vs ?_;refine⟨O,?_⟩;refine vs ?_;refine⟨O,?_⟩;refine vs ?_;rw[Dz,Q];obtain⟨l,d⟩:∃l,l=H.size+1:=⟨_,rfl⟩;obtain⟨pb,q⟩:∃pb,pb=H.size:=⟨_,rfl⟩;have K:af H (((H.new 3 ((qu n.toNat 0).map i64)).new 3 ((qu n.toNat 0).map i64)).new 328 [.slice (some ⟨H.size+1,0,none⟩) n.toNat n.toNat,.slice (some ⟨H.size,0,none⟩) n.toNat n.toNat]):=(bm.new _ _).new _ _;have T:fV (((H.new 3 ((qu n.toNat 0).map i64)).new 3 ((qu n.toNat 0).map i64)).new 328 [.slice (some ⟨H.size+1,0,none⟩) n.toNat n.toNat,.slice (some ⟨H.size,0,none⟩) n.toNat n.toNat]) (H.size+1+1) l pb (qu n.toNat 0) (qu n.toNat 0):=by
   subst d q;refine⟨?_,?_,?_,rfl,O,O,O⟩
   ·rw[Cl (Nat.zero_le _)];exact az (by simp only[ag])
   ·rw[ax (by simp only[ag];omega)];exact az (by simp only[ag])
   ·rw[ax (by simp only[ag];omega),ax (by simp only[ag];omega),am]
  generalize ((H.new 3 ((qu n.toNat 0).map i64)).new 3 ((qu n.toNat 0).map i64)).new 328 [.slice (some ⟨H.size+1,0,none⟩) n.toNat n.toNat,.slice (some ⟨H.size,0,none⟩) n.toNat n.toNat]=o at*;have p:H.size<=l/\H.size<=pb:=O
 all_goals
  refine ba.intro (fun m env J=>∃j:Nat,m=n.toNat - j/\j<=n.toNat/\aj (fun z=>z=l\/z=pb) o J/\fV J (H.size+1+1) l pb (qu n.toNat j) (qu n.toNat j)/\
   env=[(4,ptr (H.size+1+1)),(18,i64 n),(19,i64 j)]) n.toNat ⟨0,O,O,aj.refl _ _,T,rfl⟩ ?_
  rintro m env c ⟨j,rfl,D,u,a,rfl⟩;have M:=Cl D;obtain⟨I,G,f⟩:=a.ne;refine vs ?_;refine ai.dec (fun E=>?_) (fun E=>?_)<;>refine vs ?_
  ·refine v1 (ae a.own) ?_;refine⟨O,?_⟩;refine v4 a.Mt ak7 ala Int.toNat_natCast ?_;refine⟨Z,?_⟩;refine vs ?_;have y:aj (fun z=>z=l) c (c.wr l (((qu n.toNat j).map i64).set j (i64 j))):=(aj.refl (fun z=>z=l) _).wr (fun _=>rfl) _;have q2:(c.wr l (((qu n.toNat j).map i64).set j (i64 j))).own l=some (((qu n.toNat j).map i64).set j (i64 j)):=ah a.Mt;generalize c.wr l (((qu n.toNat j).map i64).set j (i64 j))=e at*;have U:=y.own a.SW (Ne.symm f);refine⟨O,?_⟩;refine v5 U a.SW ak7 ala Int.toNat_natCast ?_;refine⟨Z,?_⟩;refine vs ?_;have t:aj (fun z=>z=pb) e (e.wr pb (((qu n.toNat j).map i64).set j (i64 j))):=(aj.refl (fun z=>z=pb) _).wr (fun _=>rfl) _;have q3:(e.wr pb (((qu n.toNat j).map i64).set j (i64 j))).own pb=some (((qu n.toNat j).map i64).set j (i64 j)):=ah U;have X:((qu n.toNat j).map i64).set j (i64 j)=(qu n.toNat (j+1)).map i64:=by rw[<-RH O,alD]
   rw[wrap64 (n:=(j:Int)+1) O O];refine⟨n.toNat - (j+1),O,j+1,rfl,O,(u.trans (y.mono fun z _ h=>.inl h)).trans (t.mono fun z _ h=>.inr h),⟨?_,?_,?_,rfl,a.ne⟩,rfl⟩
   ·have F:=t.own (y.own a.own I) G;rw[M]at F;rw[Cl O];exact F
   ·rw[<-X];exact t.own q2 f
   grind
  ·obtain rfl:j=n.toNat:=O;exact⟨_,l,pb,_,_,rfl,a,O,Ut _,⟨by grind [qu,bY],by grind [qu,bY]⟩,K.then u O,O,p.1,p.2⟩
theorem yo{S:Nat->Prop}{w:Nw}(h:dQ n H S w)(x k s:Int):aD 433 [ptr n,i64 x,ms k s] H fun v J=>ak (
  (¬w.dv x k s/\v= .bool false/\br (dQ n) S H J w)\/(w.dv x k s/\v= .bool true/\∃y,w.cs[x.toNat]? =some y/\br (dQ n) S H J (w.put x (y.1,k,s)))):=by
 obtain⟨B,C,N,P,L,tops,ch,au,aw,rfl,m,l,o⟩:=h;have hC:∀z,C z->S z:=fun z h=>(o z).2 (.inl h);have tb_:S B.nb:=(o _).2 (.inr O);have tb2:S B.pb:=(o _).2 (.inr O);have tb3:S B.tb:=(o _).2 (.inr O);have tb4:S B.tp:=(o _).2 (.inr O);refine aL mr ?_;refine vs ?_;have f0:af H (H.new 148 [i64 k,u64 s]):=bm;have b0:(H.new 148 [i64 k,u64 s]).own H.size=some [i64 k,u64 s]:=am _ _ _;have m0:=m.fresh f0;generalize H.new 148 [i64 k,u64 s]=H0 at*;have ff:aj S H H0:=f0.mono fun _ _ h=>h.elim;obtain⟨tv,HB,_⟩:=m0.own;refine v2 (ae HB) (ae b0) ?_;refine(gJ m0.cells x k s).mono ?_;rintro _ H1 (⟨kV,rfl,c1,e1⟩| ⟨mj,rfl,y,hy,lU,c1,e1⟩)
 ·refine vs ?_;exact .inl ⟨kV,rfl,br.same ⟨B,C,N,P,L,tops,ch,au,aw,rfl,m0.ext e1 (fun _ _ h=>h),l,o⟩ (ff.trans (e1.mono fun _ _ h=>h.elim))⟩
 have tC:(w.put x (y.1,k,s)).cs.length=w.cs.length:=by simp[Nw.put]
 have m1:=m0.aE c1 e1 tC;have x9:w.dv x k s:=⟨mj,Z⟩;have hx:0<=x/\x<w.cs.length:=⟨mj.1,Z⟩;have hwx:aH w x=y.1:=iO mj.1 hy;have FZ:=bf.2 mj;have d:aH (w.put x (y.1,k,s))=aH w:=by
  funext z;rw[dT hx];split
  ·grind
  ·rfl
 have HC:cu (w.put x (y.1,k,s)).cs x:=bf.1 (by simp_all);have el:∀a b,0<aH w a->0<aH w b->a≠x->b≠x->aU (w.put x (y.1,k,s)) a b=aU w a b:=fun a b ha hb wA zS=>du hx _ ha hb wA zS;have ex:∀b,0<aH w b->b≠x->aU w x b=true->aU (w.put x (y.1,k,s)) x b=true:=fun b hb zS h=>xV mj hy lU hb zS h;have ls:=ar w;have D:=ar (w.put x (y.1,k,s));obtain⟨g,hg⟩:∃g,g=aH w x:=⟨_,rfl⟩;have wU:g<tops.length:=by
  have:=((m.cells.hm x).2 FZ).2;have:=l.tl;omega
 have RI:∀z,aH w z=g->aO tops g≠ -1/\(z≠aO tops g->aU w (aO tops g) z=true):=fun z j=>l.ls g z O j;obtain⟨Nv,RJ⟩:=RI x hg.symm;obtain⟨T,I⟩:∃T,T=aO tops g:=⟨_,rfl⟩;rw[<-I]at Nv RJ RI;have ahi:=FZ;have hhl:(w.put x (y.1,k,s)).hs.length=w.hs.length:=by simp[Nw.put]
 obtain⟨A,hr⟩:∃A,aw g=T::A:=by
  have u:=l.tp g;rw[<-I]at u;cases hc:aw g with
  |nil=>grind
  |cons c r=>grind
 have hTg:=(l.f.rm g T Z).1;have hTp:=(l.f.rm g T Z).2.1;have hT0:0<aH w T:=O;generalize Yf:w.put x (y.1,k,s)=w' at*;obtain⟨Ni,o1,_⟩:=m1.own;refine v1 (ae o1) ?_;refine(bC m1.cells x).mono ?_;rintro _ H2 (⟨kV,_,_⟩| ⟨_,rfl,c2,e2⟩)
 ·exact absurd HC kV
 have K:=m1.aE c2 e2 rfl;have yZ:aj S H H2:=(ff.trans (e1.mono fun z _ h=>hC z h)).trans (e2.mono fun z _ h=>hC z h);rw[d,<-hg];obtain⟨Nh,o2,_⟩:=K.own;have Oe:=K.len;have T4:0<=x/\x<w'.cs.length:=by rw[tC];exact hx
 obtain⟨a0,a1,a2,a3,a4⟩:=K.rd T4;obtain⟨ux,_,_⟩:=l.pc x;rw[ux]at a1;refine v1 (ae o2) ?_;refine⟨O,?_⟩;refine v4 (ae K.places) ak7 Nat.add_zero a1 ?_;have e0:ay aw g (T::A)=aw:=by
  funext z;unfold ay;split
  ·grind
  ·rfl
 have QL:(au x= -1\/aU w' (au x) x=true)->dV (aH w') (aU w') (bY N) ch au (ay aw g (T::A)) []:=fun hor=>by
  rw[e0,d];refine l.f.other fun z c hc u h2 h3=>?_;by_cases j:z=x
  ·cases ls;grind
  ·by_cases Oy:c=x
   ·rw[Oy]at hc ⊢;obtain⟨d1,d2,_⟩:=l.f.pr.dn z x hc;grind
   grind
 refine ai.dec (fun h0=>?A) (fun h0=>?B);case' A=>
  refine vs ?_;obtain⟨H3,eH⟩:∃H3,H3=H2:=⟨_,rfl⟩;rw[<-eH]at K yZ ⊢;obtain⟨Q,E,M,U,p,A3,F,f,p3,e3⟩:∃N' P' L' X dh A',bP H3 B C w' N' P' L' tops/\dV (aH w') (aU w') (bY N') X dh (ay aw g (T::A')) []/\Il (fe L') X dh/\aj S H H3:=⟨N,P,L,ch,au,A,K,QL (.inl h0),l.pc,yZ⟩
 case' B=>
  have Yg:=l.f.pr.up x _ rfl h0;obtain⟨_,_,hph,hp1,TR⟩:=l.f.pr.dn _ _ Yg;have FZ:au x≠x:=fun e=>by cases ls;grind
  refine v1 (ae o2) ?_;refine(cv K.cells x (au x)).mono ?_;rintro _ H4 ⟨rfl,c4,e4⟩;have m4:=K.aE c4 e4 rfl;have Fl:=yZ.trans (e4.mono fun z _ h=>hC z h);rw[fQ (w:=w') (a:=x) (b:=au x) (by simp_all) (by simp_all)];cases iD:aU w' x (au x);case' false=>
   refine vs ?_;obtain⟨H3,eH⟩:∃H3,H3=H4:=⟨_,rfl⟩;rw[<-eH]at m4 Fl ⊢;obtain⟨Q,E,M,U,p,A3,F,f,p3,e3⟩:∃N' P' L' X dh A',bP H3 B C w' N' P' L' tops/\dV (aH w') (aU w') (bY N') X dh (ay aw g (T::A')) []/\Il (fe L') X dh/\aj S H H3:=⟨N,P,L,ch,au,A,m4,QL (by grind [aU,Nw.key,Nw.seq]),l.pc,Fl⟩
  case' true=>
   refine vs ?_;refine(qt m4 ls (x:=x) (g:=g) (t:=T) (A:=A) (by rw[d];exact l.f) l.pc (by simp_all) O wU hr I.symm).mono ?_;rintro _ H3 ⟨Q,E,M,U,p,A3,F,f3',p3,u3,_,e5⟩;have e3:=Fl.trans (e5.mono Z);have f:dV (aH w') (aU w') (bY Q) U p (ay aw g (T::A3)) []:=by
    refine f3'.other fun z c hc u h2 h3=>?_;rw[d]at u h2;have Oy:c≠x:=fun e=>by
     obtain⟨d1,d2,_⟩:=f3'.pr.dn z c hc;grind
    by_cases j:z=x
    ·grind
    ·grind
   refine vs ?_
 all_goals
  have Yh:ay aw g (T::A3) g=T::A3:=by unfold ay;grind
  obtain⟨cc,lt3,o3,q3,Dx,JH,JI⟩:=F.ed;have q4:=F.cS q3 (ce (tops:=tops) (h:=g) O wU);rw[<-I]at q4;refine v1 (ae o3) ?_;refine⟨O,?_⟩;refine v4 (ae q3) ak7 ala q4 ?_;have Uu:∀g2 z,g2≠g->0<g2->aH w' z=g2->aO tops g2≠ -1/\(z≠aO tops g2->aU w' (aO tops g2) z=true):=fun g2 z ny Om j=>by
   rw[d]at j;obtain⟨u,h2⟩:=l.ls g2 z Om j;refine⟨u,fun G=>?_⟩;have h5:aH w (aO tops g2)=g2:=by
    have hm:aO tops g2∈aw g2:=by
     have:=l.tp g2;rw[this]at u ⊢;exact eM u
    exact(l.f.rm g2 _ hm).1
   grind
  have XN:∀g2,aO tops g2=(ay aw g (T::A3) g2).headD (-1):=fun g2=>by
   unfold ay;cases l;grind
  refine ai.dec (fun h5=>?_) (fun h5=>?_)
  ·refine vs ?_;refine .inr ⟨x9,rfl,y,hy,?_⟩;rw[Yf];refine br.same ⟨B,C,Q,E,M,tops,U,p,_,rfl,F,⟨f,p3,XN,fun g2 z Om j=>?_,by rw[l.tl,hhl]⟩,o⟩ e3;by_cases q:g2=g
   ·rw[q,<-I];refine⟨Nv,fun G=>?_⟩;rw[d,q]at j;have h7:=(RI z j).2 G;rw[h5]at h7 G ⊢;exact ex z O G h7
   ·exact Uu g2 z q Om j
  refine v1 (ae o3) ?_;refine⟨O,?_⟩;refine v4 (ae q3) ak7 ala q4 ?_;refine(cv F.cells x T).mono ?_;rintro _ H6 ⟨rfl,c6,e6⟩;have m6:=F.aE c6 e6 rfl;have Oi:=e3.trans (e6.mono fun z _ h=>hC z h);rw[fQ (w:=w') (a:=x) (b:=T) (by rw[d];omega) (by rw[d];omega)];cases Nu:aU w' x T
  ·refine vs ?_;refine .inr ⟨x9,rfl,y,hy,?_⟩;rw[Yf];refine br.same ⟨B,C,Q,E,M,tops,U,p,_,rfl,m6,⟨f,p3,XN,fun g2 z Om j=>?_,by rw[l.tl,hhl]⟩,o⟩ Oi;by_cases q:g2=g
   ·rw[q,<-I];refine⟨Nv,fun G=>?_⟩;rw[d,q]at j;cases D;grind
   grind
  ·obtain⟨cc,lt6,o6,q6,Dx,JH,JI⟩:=m6.ed;refine v1 (ae o6) ?_;refine⟨O,?_⟩;refine v3 q6 ak7 ala ?_;refine⟨O,?_⟩;obtain⟨m7,e7⟩:=m6.fH q6 g.toNat x;refine vs ?_;have Nr:p x= -1:=by
    apply alt;intro hp;obtain⟨_,d2,d3,d4,d5⟩:=f.pr.dn _ _ (f.pr.up x _ rfl hp);rw[d]at d3 d4;by_cases e:p x=T
    ·rw[e]at d5;rw[D.vk d5]at Nu;cases Nu
    ·have h9:=(RI (p x) O).2 e;have acs:p x≠x:=fun e=>by rw[e,D.Ih]at d5;cases d5
     rw[<-el _ _ O O h5 acs]at h9;rw[D.vk (D.tr _ _ _ h9 d5)]at Nu;cases Nu
   have hxm:x∈ay aw g (T::A3) g:=by
    rcases f.wY x (by rw[d];omega) Nr with h|h
    ·rw[d,<-hg]at h;exact h
    ·cases h
   obtain⟨A7,_,f7⟩:=f.from_ hxm;rw[cP]at f7;refine .inr ⟨x9,rfl,y,hy,?_⟩;rw[Yf];refine br.same ⟨B,C,Q,E,M,_,U,p,_,rfl,m7,⟨f7,p3,fun g2=>?_,fun g2 z Om j=>?_,by cases l;grind⟩,o⟩ (Oi.trans (e7.mono Z))
   ·rw[dJ O wU];unfold cR ay;cases l;grind
   ·rw[dJ O wU];unfold cR;by_cases q:g2=g
    ·rw[if_pos q];refine⟨O,fun G=>?_⟩;rw[d,q]at j;cases D;grind
    grind
end
end Go.Proofs.YtnanofhkpglbaaaGreatDoor
