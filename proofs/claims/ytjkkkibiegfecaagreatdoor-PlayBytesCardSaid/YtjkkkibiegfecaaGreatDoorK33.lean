/- Texts put behind each other. -/
import Derived.Test.YtjkkkibiegfecaaGreatDoorK29
set_option linter.unusedSimpArgs false
set_option linter.unusedVariables false
set_option maxRecDepth 100000
set_option maxHeartbeats 8000000
namespace Go.Proofs.YtjkkkibiegfecaaGreatDoor
open Go Go.Vc
section
variable{x a:Int}{b:Bool}
structure SB where
 n:Nat
 c:Nat
 t:Nat
 tl:Nat
 mp:Nat
def Fu(T:Int->Int):Int->Option Value:=fun h=>if T h= -1 then none else some (i64 (T h))
structure eC(H:Hp)(B:SB)(C:Nat->Prop)(w:Nw)(L:List Lk)(T:Int->Int):Prop where
 own:H.own B.n=some [ptr B.c,ptr B.t,.map (some B.mp)]
 cells:CQ H B.c C w
 ci:bR H B.t B.tl L
 zd:kl H B.mp (Fu T)
 len:L.length=w.cs.length
 ly:(B.n≠B.t/\B.n≠B.tl/\B.n≠B.mp)/\(B.t≠B.tl/\B.t≠B.mp)/\B.tl≠B.mp
 out:¬C B.n/\¬C B.t/\¬C B.tl/\¬C B.mp
def SB.S(B:SB)(C:Nat->Prop)(z:Nat):Prop:=C z\/z=B.n\/z=B.t\/z=B.tl\/z=B.mp
section
variable {H J : Hp} {B : SB} {C V : Nat → Prop} {w w' : Nw} {L L' : List Lk} {T : Int → Int}
theorem eC.slt(h:eC H B C w L T):∀z,B.S C z->z<H.size:=by
 rintro z (x|rfl|rfl|rfl|rfl)
 ·exact h.cells.slt z x
 ·exact aC h.own
 ·exact aC h.ci.own
 ·exact aC h.ci.j5
 ·exact h.zd.lt
theorem eC.ext(h:eC H B C w L T)(e:aj V H J)(l:∀z,B.S C z->¬V z):eC J B C w L T:=
 ⟨e.own h.own (l _ (.inr (.inl rfl))),h.cells.ext e (fun x n=>l x (.inl n)),h.ci.ext e (l _ (.inr (.inr (.inl rfl)))) (l _ (.inr O)),
  h.zd.ext e (l _ (.inr O)),h.len,h.ly,h.out⟩
theorem eC.fresh(h:eC H B C w L T)(e:af H J):eC J B C w L T:=h.ext e fun _ _ h=>h
theorem eC.aD(h:eC H B C w L T)(x:CQ J B.c C w')(e:aj C H J)(z:w'.cs.length=w.cs.length):eC J B C w' L T:=by
 obtain⟨l,n,m,c⟩:=h.out;exact⟨e.own h.own l,x,h.ci.ext e n m,h.zd.ext e c,by rw[z];exact h.len,h.ly,h.out⟩
theorem eC.dX(h:eC H B C w L T)(m:bR J B.t B.tl L')(e:aj (fun z=>z=B.tl) H J)(n:L'.length=L.length):eC J B C w L' T:=by
 obtain⟨r,j,d,p⟩:=h.out;obtain⟨⟨c,x,v⟩,⟨y,t⟩,l⟩:=h.ly;exact⟨e.own h.own x,h.cells.ext e Z,m,h.zd.ext e (Ne.symm l),by rw[n];exact h.len,h.ly,h.out⟩
theorem eC.fJ(h:eC H B C w L T){T':Int->Int}(m:kl J B.mp (Fu T'))(e:aj (fun z=>z=B.mp) H J):eC J B C w L T':=by
 obtain⟨t,r,j,d⟩:=h.out;obtain⟨⟨c,v,x⟩,⟨y,l⟩,n⟩:=h.ly;exact⟨e.own h.own x,h.cells.ext e Z,h.ci.ext e l n,m,h.len,h.ly,h.out⟩
theorem OY(T:Int->Int)(h x:Int):(x= -1->Fu (cR T h x)=Kg (Fu T) h)/\(x≠ -1->Fu (cR T h x)=GH (Fu T) h (i64 x)):=by
 constructor
 ·rintro rfl;funext y;unfold Fu cR Kg;grind
 ·intro z;funext y;unfold Fu cR GH;grind
theorem fx(h:eC H B C w L T)(g:Int):aF 356 [ptr B.n,i64 g] H fun v J=>ak (v=i64 (T g)/\J=H):=by
 refine aT x6 ?_;refine v2 (ae h.own) h.zd.look ?_;unfold Fu;by_cases x:T g= -1
 ·rw[if_pos x,x];refine vs ?_;exact⟨rfl,rfl⟩
 ·rw[if_neg x];refine vs ?_;exact⟨rfl,rfl⟩
theorem fy(h:eC H B C w L T)(g x:Int):aF 354 [ptr B.n,i64 g,i64 x] H fun v J=>ak (eC J B C w L (cR T g x)/\aj (fun z=>z=B.mp) H J):=by
 obtain⟨e,y⟩:=OY T g x;refine aT xY ?_;refine vs ?_;refine ai.dec (fun m=>?_) (fun m=>?_)<;>refine v1 (ae h.own) ?_
 ·refine h.zd.del fun c n l=>?_;rw[<-e m]at n;refine vs ?_;exact⟨h.fJ n l,l⟩
 ·refine h.zd.Wt fun c n l=>?_;rw[<-y m]at n;refine vs ?_;exact⟨h.fJ n l,l⟩
theorem Js(h:gz x= .tuple [i64 a,.bool b].toArray):(b=false/\x= -1)\/(b=true/\a=x/\x≠ -1):=by
 have z:∀ {p q:Int} {r s:Bool},Value.tuple [i64 p,Value.bool r].toArray=Value.tuple [i64 q,Value.bool s].toArray->p=q/\r=s:=Z;unfold gz at h;grind
theorem kI(h:eC H B C w L T)(n:Bt (aH w) (aU w) (bm L) (bs L))(y:gz x= .tuple [i64 a,.bool b].toArray):
  aF 357 [ptr B.n,i64 a,.bool b] H fun v J=>ak (v=i64 x/\∃L',eC J B C w L' T/\bm L'=iy (bm L) (bs L) x/\bs L'=dq (bs L) x/\aj (fun z=>z=B.tl) H J):=by
 refine aT x8 ?_;refine vs ?_;rcases Js y with ⟨rfl,rfl⟩| ⟨rfl,rfl,q⟩
 ·refine vs ?_;obtain⟨c,e⟩:=xj n;exact⟨rfl,L,h,c.symm,e.symm,aj.refl _ _⟩
 ·refine v1 (ae h.own) ?_;refine(cL h.ci (x:=a) (fun t=>by have:=yj.up n t;have:=h.len;omega)).mono ?_;rintro _ p ⟨rfl,m,j,l1,r,d,l⟩;refine vs ?_;exact⟨rfl,m,h.dX j l l1,r,d,l⟩
theorem gW(h:eC H B C w L T){g a0 b0:Int}{R:Int->Prop}(m:Mg (aH w) (aU w) g R (bm L) (bs L) [] a0 b0):
  aF 355 [ptr B.n,i64 a0,i64 b0] H fun v J=>ak (∃r L',v=i64 r/\eC J B C w L' T/\Mg (aH w) (aU w) g R (bm L') (bs L') [] r (-1)/\
   (∀n,oO (aU w) (bm L) (bs L) n (bm L) (bs L) [] a0 b0->oO (aU w) (bm L) (bs L) n (bm L') (bs L') [] r (-1))/\aj (fun z=>C z\/z=B.tl) H J):=by
 refine aT xZ ?_;refine vs ?_;have uH:=h.cells.zf;refine bj.intro (fun mm env J=>∃ (a b:Int) (l:List Int) (wv:Value) (fp:Option Nat) (L':List Lk),mm=w.cs.length - l.length/\eC J B C w L' T/\Mg (aH w) (aU w) g R (bm L') (bs L') l a b/\
  (∀n,oO (aU w) (bm L) (bs L) n (bm L) (bs L) [] a0 b0->oO (aU w) (bm L) (bs L) n (bm L') (bs L') l a b)/\
  (∀z,fp=some z->H.size<=z)/\Sl J 1 wv l.length (l.map i64) fp/\aj (fun z=>C z\/z=B.tl\/H.size<=z) H J/\
  env=[(0,ptr B.n),(1,i64 a),(2,i64 b),(7,wv)]) _ ⟨a0,b0,[],_,none,L,rfl,h,m,(fun _ h=>h),Z,Sl.nil _ _,aj.refl _ _,rfl⟩ ?_
 rintro mm env H1 ⟨a,b,l,wv,fp,d,rfl,l1,y,X,yc,s1,e1,rfl⟩;have z1:=e1.size;clear m;refine vs ?_;refine ai.dec (fun F=>?A) (fun F=>?_)<;>refine vs ?_;rotate_left;refine ai.dec (fun U=>?B) (fun U=>?_)<;>refine vs ?_;rotate_left
 ·have o1:=l1.own;refine v1 (ae o1) ?_;refine(cB l1.cells b a).mono ?_;rintro _ H2 ⟨rfl,c2,P⟩;have l2:=l1.aD c2 P rfl;have s2:=s1.ext P (fun z K JO=>by have:=yc z K;have:=h.slt z (.inl JO);omega);have z2:=P.size;have ha:=y.wa.resolve_left F;have hb:=y.wb.resolve_left U;have Fc:=fT (w:=w) (a:=b) (b:=a) (by rw[hb.1];exact y.pos) (by rw[ha.1];exact y.pos);have nj:a≠b:=fun e=>F (y.ab e);rw[Fc];obtain⟨p,q,Vl,hl,gp,gq,mm,fm⟩:∃p q,(if aU w b a=true then(p=b/\q=a)else(p=a/\q=b))/\aU w p q=true/\p≠ -1/\q≠ -1/\Mg (aH w) (aU w) g R (bm d) (bs d) l p q/\
    (∀n,oO (aU w) (bm L) (bs L) n (bm L) (bs L) [] a0 b0->oO (aU w) (bm L) (bs L) n (bm d) (bs d) l p q):=by
   cases iC:aU w b a
   ·exact⟨a,b,by simp,by grind [aU,Nw.key,Nw.seq],F,U,y,X⟩
   ·exact⟨b,a,by simp,iC,U,F,y.swap,fun n N=>(X n N).swap⟩
  have Qy:0<aH w p:=by rw[(mm.wa.resolve_left gp).1];exact mm.pos
  obtain⟨p0,p1,_⟩:=aI Qy;have u:=mm.NF (au w) gp gq hl;have f3:=fun n N=>(fm n N).down (au w) mm.bt gp;have wl:(l++[p]).length<=w.cs.length:=cm (u.nodup (au w)) fun x hx=>by
   have Ou:=(u.wy x hx).2.1;have ST:=u.pos;obtain⟨n,x1,_⟩:=aI (w:=w) (x:=x) O;omega
  rw[ajW,ako]at wl;cases iC:aU w b a<;>simp only[iC,if_true,if_false,akC]at Vl<;>obtain⟨rfl,rfl⟩:=Vl<;>refine vs ?_;all_goals
   refine AX (B:=H.size) yc O s2 p O fun w' H3 LM OO s3 Q=>?_;refine vs ?_;have t:=l2.ext Q (fun z K JO=>by have:=h.slt z K;omega);have o3:=t.own;refine v1 (ae o3) ?_;refine(cF t.ci p).mono ?_;rintro _ J ⟨rfl,e⟩;obtain rfl:=e.symm;obtain⟨k1,k2,ek⟩:=cM (bm d p true);rw[ek];refine vs ?_;refine(kI t mm.bt ek).mono ?_;rintro _ H4 ⟨rfl,G,E,kk4,uu4,o⟩;have s4:=s3.ext o (fun z K JO=>by have:=OO z K;have:=h.slt B.tl (.inr O);omega);refine vs ?_;refine⟨w.cs.length - (l.length+1),O,bm d p true,q,l++[p],w',LM,G,by simp,E,?_,?_,OO,s4,((e1.trans (P.mono Z)).trans (Q.mono O)).trans (o.mono O),rfl⟩
   ·grind
   grind
 case' A=>
  have I:Mg (aH w) (aU w) g R (bm d) (bs d) l b (-1):=F▸y.swap;have D:=fun n (N:oO (aU w) (bm L) (bs L) n (bm L) (bs L) [] a0 b0)=>(X n N).swap;rw[F]at D;have M:(if b>a then b else a)=b:=by
   rcases y.wb with h|h
   ·omega
   ·have hp:=y.pos;obtain⟨_,_⟩:=aI (w:=w) (x:=b) O;omega
  rw[M];clear M;generalize b=r at I D
 case' B=>
  have I:Mg (aH w) (aU w) g R (bm d) (bs d) l a (-1):=U▸y;have D:=X;rw[U]at D;have M:(if b>a then b else a)=a:=by
   rcases y.wa with h|h
   ·omega
   ·have hp:=y.pos;obtain⟨_,_⟩:=aI (w:=w) (x:=a) O;omega
  rw[M];clear M;generalize a=r at I D
 all_goals
  obtain⟨wa,wc,rfl⟩:=Sl.shape s1;refine vs ?_;have wl:l.length<=w.cs.length:=cm (I.nodup (au w)) fun x hx=>by
   have Ou:=(I.wy x hx).2.1;have ST:=I.pos;obtain⟨n,x1,_⟩:=aI (w:=w) (x:=x) O;omega
  refine bj.intro (fun mm env J=>∃ (i:Nat) (r:Int) (L':List Lk),mm=i/\i<=l.length/\eC J B C w L' T/\Mg (aH w) (aU w) g R (bm L') (bs L') (l.take i) r (-1)/\
   (∀n,oO (aU w) (bm L) (bs L) n (bm L) (bs L) [] a0 b0->oO (aU w) (bm L) (bs L) n (bm L') (bs L') (l.take i) r (-1))/\
   Sl J 1 (.slice wa l.length wc) l.length (l.map i64) fp/\aj (fun z=>C z\/z=B.tl\/H.size<=z) H J/\
   env=[(0,ptr B.n),(7,.slice wa l.length wc),(8,i64 r),(9,i64 ((i:Int) - 1))]) _ ⟨l.length,r,d,rfl,ajU _,l1,Z,Z,s1,e1,?_⟩ ?_
  ·grind [wrap64]
  rintro mm env H2 ⟨i,r2,L2,YU,hi,l2,u,f3,s2,P,rfl⟩;obtain rfl:=YU.symm;refine vs ?_;refine ai.dec (fun gi=>?_) (fun gi=>?_)<;>refine vs ?_;rotate_left
  ·obtain rfl:i=0:=O;exact⟨r2,L2,rfl,l2,Z,Z,P.mono Z⟩
  obtain⟨j,rfl⟩:∃j,i=j+1:=⟨i - 1,O⟩;obtain⟨v,hv⟩:∃v,l[j]? =some v:=⟨_,ajL O⟩;have tk:l.take (j+1)=l.take j++[v]:=by rw[aj2,hv];rfl
  rw[tk]at u f3;have m4:=u.back (au w);have f4:=fun n N=>(f3 n N).back;obtain⟨v1,v2,v3,v4,v5,v6⟩:=u.wy v (by simp);obtain⟨q1,vb,lb,rfl,q2,q3⟩:=Sl.wN s2 hv;have WE:∃b',fp=some b'/\b'=vb:=by
   cases fp with
   |none=>have:=s2.2.2;grind
   |some b'=>obtain⟨_,_,h1,_⟩:=s2.2;grind
  obtain⟨b',rfl,rfl⟩:=WE;have WE:=yc b' rfl;have SW:0<aH w v:=by rw[v2];exact u.pos
  obtain⟨U5,vv1,_⟩:=aI SW;have ji:((((j+1:Nat):Int) - 1)).toNat=j:=O;refine⟨O,?_⟩;simp(disch:=(first|exact aV|fail)) only[go_sem, ↓reduceIte,Zv,ae q2,ajJ,ajM,ji,q3];refine ai.dec (fun f=>?_) (fun f=>?_)<;>refine vs ?_
  ·rw[if_pos f,if_pos f]at m4;simp only[if_pos f]at f4;have f5:=f4;have t:=l2;have m5:=m4;have s3:=s2;have Q:=P;simp(disch:=(first|exact aV|fail)) only[go_sem, ↓reduceIte,Zv,ae t.own];refine(kG t.ci (p:=v) ⟨U5,by have:=t.len;omega⟩).mono ?_;rintro _ H4 ⟨rfl,G,t4,SV,k4,u4,o⟩;have E:=t.dX t4 o SV;refine vs ?_;refine⟨j,O,j,v,G,rfl,O,E,?_,?_,s3.ext o (fun z K JO=>by injection K with K;have:=h.slt B.tl (.inr O);omega),Q.trans (o.mono O),?_⟩
   ·rw[k4,u4];exact m5.tO (au w)
   ·grind [oO.tO]
   grind [wrap64]
  ·rw[if_neg f,if_neg f]at m4;simp only[if_neg f]at f4;have LP:=u.wa.resolve_left f;obtain⟨r0,r1,_⟩:=aI (w:=w) (x:=r2) O;have ec:=l2.len;have hvr:v≠r2:=fun e=>by have:=v5 f;rw[e,(au w).HO]at this;grind
   simp(disch:=(first|exact aV|fail)) only[go_sem, ↓reduceIte,Zv,ae l2.own];refine(fu l2.ci (p:=v) (x:=r2) (c:=true) ⟨U5,O⟩ ⟨r0,O⟩ hvr LP.2 v4).mono ?_;rintro _ H3 ⟨rfl,L3,t3,ll3,WF,WG,Ov⟩;have t:=l2.dX t3 Ov ll3;have m5:Mg (aH w) (aU w) g R (bm L3) (bs L3) (l.take j) v (-1):=by rw[WF,WG];exact m4
   have f5:=f4;rw[<-WF,<-WG]at f5;have nb:b'≠B.tl:=fun e=>by have:=h.slt B.tl (.inr O);omega
   have s3:=s2.ext Ov Z;have Q:=P.trans (Ov.mono O);refine vs ?_;simp(disch:=(first|exact aV|fail)) only[go_sem, ↓reduceIte,Zv,ae t.own];refine(kG t.ci (p:=v) O).mono ?_;rintro _ H4 ⟨rfl,G,t4,SV,k4,u4,o⟩;have E:=t.dX t4 o SV;refine vs ?_;refine⟨j,O,j,v,G,rfl,O,E,?_,?_,s3.ext o Z,Q.trans (o.mono O),?_⟩
   ·rw[k4,u4];exact m5.tO (au w)
   ·grind [oO.tO]
   grind [wrap64]
end
end
section
variable{x:Int}
def dL(n:Nat)(H:Hp)(S:Nat->Prop)(w:Nw):Prop:=∃ (B:SB) (C:Nat->Prop) (L:List Lk) (T:Int->Int),B.n=n/\eC H B C w L T/\tz (aH w) (aU w) (bm L) (bs L) T/\∀z,S z↔B.S C z
theorem dL.slt{n:Nat}{H:Hp}{S:Nat->Prop}{w:Nw}(h:dL n H S w):∀z,S z->z<H.size:=by
 obtain⟨B,C,L,T,rfl,m,l,x⟩:=h;exact fun z c=>m.slt z ((x z).1 c)
theorem dL.ext{n:Nat}{H J:Hp}{S V:Nat->Prop}{w:Nw}(h:dL n H S w)(e:aj V H J)(c:∀z,S z->¬V z):dL n J S w:=by
 obtain⟨B,C,L,T,rfl,m,l,x⟩:=h;exact⟨B,C,L,T,rfl,m.ext e Z,l,x⟩
theorem M2:Fu (fun _=> -1)=fun _=>none:=by
 rfl
theorem Fv(cap:Int)(H:Hp):aF 85 [i64 cap] H fun v J=>ak (
  af H J/\((¬ (0<=cap/\cap<=65536)/\v= .tuple [.pointer none,i64 31].toArray)\/
   ((0<=cap/\cap<=65536)/\∃n S,v= .tuple [ptr n,i64 0].toArray/\dL n J S (jD cap)/\∀x,S x->H.size<=x))):=by
 refine aT Km ?_;refine vs ?_;refine(j4 cap H).mono ?_;rintro _ o ⟨y,⟨m,rfl⟩| ⟨m,c,C,rfl,d,P⟩⟩
 ·refine vs ?_;exact⟨y,.inl ⟨m,rfl⟩⟩
 refine v1 ajZ ?_;refine(sL o m).mono ?_;rintro _ l ⟨t,q,rfl,e,r,K,N⟩;refine vs ?_;have A:=d.slt;have U:=y.size;have I:=r.size;have F:=aC e.own;have Q:=aC e.j5;have j:af l (l.iG.new 238 [ptr c,ptr t,.map (some l.size)]):=((aj.refl _ _).iG).new _ _;have f:aj (fun _=>False) l.iG (l.iG.new 238 [ptr c,ptr t,.map (some l.size)]):=bD;have u:=y.trans (r.trans j);refine⟨u,.inr ⟨m,l.size+1,(SB.mk (l.size+1) c t q l.size).S C,rfl,⟨⟨l.size+1,c,t,q,l.size⟩,C,_,fun _=> -1,rfl,
  ⟨?_,d.fresh (r.trans j),e.fresh j,by rw[M2];exact(kl.new l).ext f (fun h=>h),?_,?_,?_⟩,tz.none rfl (iU cap) (yn _) (DE _) (fun _=>rfl),fun z=>Iff.rfl⟩,fun z p=>?_⟩⟩
 ·exact az (by simp only[jw])
 ·simp[jD]
 ·cases e;grind
 ·grind
 ·rcases p with p|rfl|rfl|rfl|rfl
  ·grind
  all_goals grind
theorem DU{n:Nat}{H:Hp}{B:SB}{C:Nat->Prop}{w:Nw}{L:List Lk}{T:Int->Int}{S:Nat->Prop}(m:eC H B C w L T)(l:tz (aH w) (aU w) (bm L) (bs L) T)(d:B.n=n)(y:∀z,S z↔B.S C z):aF 238 [ptr B.c] H fun v J=>ak (
  (w.hs.length=65537/\v=i64 0/\br (dL n) S H J w)\/(w.hs.length≠65537/\v=i64 w.hs.length/\br (dL n) S H J w.make)):=by
 subst d;refine(iP m.cells).mono ?_;rintro _ P (⟨r,rfl,rfl⟩| ⟨r,rfl,t,u,c,j⟩)
 ·exact .inl ⟨r,rfl,br.same ⟨B,C,L,T,rfl,m,l,y⟩ (aj.refl _ _)⟩
 obtain⟨p,q,o,f⟩:=m.out;have slt:=m.slt;have no:∀z,B.S (fun _=>False) z->¬C z->¬t z:=fun z x d h=>by
  rcases j z h with e|e
  ·grind
  ·have:=slt z (x.elim (fun h=>h.elim) .inr);omega
 refine .inr ⟨r,rfl,B.S t,⟨B,t,L,T,rfl,⟨c.own m.own p,u,m.ci.ext c q o,m.zd.ext c f,m.len,m.ly,no _ (.inr (.inl rfl)) p,no _ (.inr (.inr (.inl rfl))) q,no _ (.inr O) o,no _ (.inr O) f⟩,l,fun z=>Iff.rfl⟩,
  c.mono fun z _ h=>(y z).2 (.inl h),fun z x=>?_⟩
 rcases x with x|x
 ·rcases j z x with e|e
  ·exact .inl ((y z).2 (.inl e))
  omega
 ·exact .inl ((y z).2 (.inr x))
theorem Aq{n:Nat}{H:Hp}{S:Nat->Prop}{w:Nw}(h:dL n H S w)(g x k s:Int):aF 351 [ptr n,i64 g,i64 x,mE k s] H fun v J=>ak (
  (¬w.kC g x/\v= .bool false/\br (dL n) S H J w)\/(w.kC g x/\v= .bool true/\br (dL n) S H J (w.put x (g,k,s)))):=by
 obtain⟨B,C,L,T,rfl,m,l,t⟩:=h;have Q:∀z,C z->S z:=fun z h=>(t z).2 (.inl h);have s1:S B.tl:=(t _).2 (.inr O);have s2:S B.mp:=(t _).2 (.inr O);refine aT wJ ?_;refine vs ?_;have q:af H (H.new 190 [i64 k,u64 s]):=bD;have b0:(H.new 190 [i64 k,u64 s]).own H.size=some [i64 k,u64 s]:=am _ _ _;have j:=m.fresh q;generalize H.new 190 [i64 k,u64 s]=H0 at*;have o:aj S H H0:=q.mono fun _ _ h=>h.elim;refine v2 (ae j.own) (ae b0) ?_;refine(j2 j.cells g x k s).mono ?_;rintro _ H1 (⟨X,rfl,d,c⟩| ⟨u,rfl,d,c⟩)
 ·refine vs ?_;exact .inl ⟨X,rfl,br.same ⟨B,C,L,T,rfl,j.aD d c rfl,l,t⟩ (o.trans (c.mono Z))⟩
 obtain⟨M,f,E⟩:=id u;have P:=j.aD d c (by simp[Nw.put]);have hg:=M.1;have ke:=fun y=>dW f (g,k,s) y;have p:Qb (aH (w.put x (g,k,s))) (aU (w.put x (g,k,s))) (bm L) (bs L) T g x:=by
  refine l.ins rfl (Int.not_lt.1 fun h=>E (bg.1 h)) O O Z Z (fun a b U G I D=>dC f _ U G I D)
 refine vs ?_;refine(fx P g).mono ?_;rintro _ J ⟨rfl,e⟩;obtain rfl:=e.symm;refine vs ?_;refine(gW P p.mg).mono ?_;rintro _ H2 ⟨r,A,rfl,m2,N,_,K⟩;refine vs ?_;refine(fy m2 g r).mono ?_;rintro _ H3 ⟨m3,F⟩;refine vs ?_;exact .inr ⟨u,rfl,br.same ⟨B,C,A,_,rfl,m3,p.done N,t⟩ (((o.trans (c.mono fun z _ h=>Q z h)).trans (K.mono Z)).trans (F.mono Z))⟩
theorem Gi{w:Nw}{L:List Lk}{T:Int->Int}(l:tz (aH w) (aU w) (bm L) (bs L) T){g:Int}(h:w.first g x):T g=x:=by
 obtain⟨z,n,m⟩:=bi.1 h;have:=l.first (x:=x) O Z (au w);grind
theorem vB{n:Nat}{H:Hp}{S:Nat->Prop}{w:Nw}(h:dL n H S w)(g:Int):aF 353 [ptr n,i64 g] H fun v J=>ak (
  ((w.len g=0/\v= .tuple [i64 0,.bool false].toArray)\/∃x,w.first g x/\v= .tuple [i64 x,.bool true].toArray)/\J=H):=by
 obtain⟨B,C,L,T,rfl,m,l,p⟩:=h;refine aT Bj ?_;refine vs ?_;refine(fx m g).mono ?_;rintro _ J ⟨rfl,e⟩;obtain rfl:=e.symm;refine vs ?_;refine ai.dec (fun t=>?_) (fun t=>?_)<;>refine vs ?_
 ·refine⟨.inl ⟨?_,rfl⟩,rfl⟩;by_cases j:0<g
  ·refine aj3 fun y=>?_;obtain⟨x,z⟩:=sI j y;have c:=(bi.1 z).2.1;have:=Gi l z;have:=(aI (w:=w) (x:=x) O).1;omega
  ·exact Nw.E7.2 (.inl O)
 ·obtain⟨r,c,d⟩:=l.t1 g t;have y:w.len g≠0:=fun e=>(ou c).1 e _ r;obtain⟨x,z⟩:=sI c y;rw[Gi l z];exact⟨.inr ⟨x,z,rfl⟩,rfl⟩
theorem wV{n:Nat}{H:Hp}{S:Nat->Prop}{w:Nw}(h:dL n H S w)(x k s:Int):aF 348 [ptr n,i64 x,mE k s] H fun v J=>ak (
  (¬w.dD x k s/\v= .bool false/\br (dL n) S H J w)\/(w.dD x k s/\v= .bool true/\∃y,w.cs[x.toNat]? =some y/\br (dL n) S H J (w.put x (y.1,k,s)))):=by
 obtain⟨B,C,L,T,rfl,m,l,c⟩:=h;have hC:∀z,C z->S z:=fun z h=>(c z).2 (.inl h);have s1:S B.tl:=(c _).2 (.inr O);have s2:S B.mp:=(c _).2 (.inr O);refine aT sr ?_;refine vs ?_;have E:af H (H.new 190 [i64 k,u64 s]):=bD;have b0:(H.new 190 [i64 k,u64 s]).own H.size=some [i64 k,u64 s]:=am _ _ _;have q:=m.fresh E;generalize H.new 190 [i64 k,u64 s]=H0 at*;have X:aj S H H0:=E.mono fun _ _ h=>h.elim;refine v2 (ae q.own) (ae b0) ?_;refine(gH q.cells x k s).mono ?_;rintro _ H1 (⟨K,rfl,Q,j⟩| ⟨d,rfl,y,p,mi,Q,j⟩)
 ·refine vs ?_;exact .inl ⟨K,rfl,br.same ⟨B,C,L,T,rfl,q.ext j (fun _ _ h=>h),l,c⟩ (X.trans (j.mono fun _ _ h=>h.elim))⟩
 have tJ:(w.put x (y.1,k,s)).cs.length=w.cs.length:=by simp[Nw.put]
 have F:=q.aD Q j tJ;have yp:w.dD x k s:=⟨d,Z⟩;have hx:0<=x/\x<w.cs.length:=⟨d.1,Z⟩;have Y3:aH w x=y.1:=iO d.1 p;have FO:=bg.2 d;have hw:aH (w.put x (y.1,k,s))=aH w:=by
  funext z;rw[dW hx];split
  ·grind
  ·rfl
 have Hl:cz (w.put x (y.1,k,s)).cs x:=bg.1 (by simp_all);refine v1 (ae F.own) ?_;refine(bF F.cells x).mono ?_;rintro _ H2 (⟨K,_,_⟩| ⟨_,rfl,c2,I⟩)
 ·exact absurd Hl K
 have o:=F.aD c2 I rfl;have zg:aj S H H2:=(X.trans (j.mono fun z _ h=>hC z h)).trans (I.mono fun z _ h=>hC z h);have D:∀a b,0<aH w a->0<aH w b->a≠x->b≠x->aU (w.put x (y.1,k,s)) a b=aU w a b:=fun a b ha P wS A=>dC hx _ ha P wS A;have M:∀b,0<aH w b->b≠x->aU w x b=true->aU (w.put x (y.1,k,s)) x b=true:=fun b P A h=>yf d p mi P A h;refine v1 (ae o.own) ?_;refine(cL o.ci (x:=x) (fun t=>by have:=yj.up l.bt t;have:=o.len;omega)).mono ?_;rintro _ H3 ⟨rfl,f,t3,l3,k3,u3,G⟩;have N:=o.dX t3 G l3;have U:aj S H H3:=zg.trans (G.mono Z);unfold gz;by_cases t:bs L x= -1
 ·rw[if_pos t];refine vs ?_;have kk:bm f=bm L:=by rw[k3];unfold iy;grind
  have uu:bs f=bs L:=by
   rw[u3];funext z;unfold dq aN;split
   ·grind
   ·rfl
  refine .inr ⟨yp,rfl,y,p,br.same ⟨B,C,f,T,rfl,N,?_,c⟩ U⟩;rw[hw,kk,uu];exact l.Qc FO t D M (au w)
 rw[if_neg t];refine vs ?_;have u:=l.low FO t D M (au w);rw[<-hw,<-k3,<-u3]at u;refine(fx N _).mono ?_;rintro _ J ⟨rfl,e⟩;obtain rfl:=e.symm;refine vs ?_;refine(gW N u.mg).mono ?_;rintro _ H4 ⟨r,L4,rfl,m4,g4,_,e4⟩;refine vs ?_;refine(fy m4 _ r).mono ?_;rintro _ H5 ⟨m5,e5⟩;refine vs ?_;exact .inr ⟨yp,rfl,y,p,br.same ⟨B,C,L4,_,rfl,m5,u.done g4,c⟩ ((U.trans (e4.mono Z)).trans (e5.mono Z))⟩
theorem DV{n:Nat}{H:Hp}{S:Nat->Prop}{w:Nw}(h:dL n H S w)(a b:Int):aF 352 [ptr n,i64 a,i64 b] H fun v J=>ak (
  (¬ (w.has a/\w.has b/\a≠b)/\v= .bool false/\br (dL n) S H J w)\/((w.has a/\w.has b/\a≠b)/\v= .bool true/\br (dL n) S H J (w.join a b))):=by
 obtain⟨B,C,L,T,rfl,m,t,x⟩:=id h;have K:∀z,C z->S z:=fun z h=>(x z).2 (.inl h);have s1:S B.tl:=(x _).2 (.inr O);have s2:S B.mp:=(x _).2 (.inr O);refine aT zC ?_;refine v1 (ae m.own) ?_;refine(iQ m.cells a b).mono ?_;rintro _ I (⟨F,rfl,rfl⟩| ⟨d,rfl,o,c⟩)
 ·refine vs ?_;exact .inl ⟨F,rfl,br.same h (aj.refl _ _)⟩
 obtain⟨⟨E,X⟩,⟨hb,MG⟩,y⟩:=id d;have l:=m.aD o c (by simp[Nw.join]);have j:=lY (w:=w) (a:=a) (b:=b) O;have p:=t.join (hm':=aH (w.join a b)) rfl y O j;rw[<-ik w a b]at p t;refine vs ?_;refine(fx l a).mono ?_;rintro _ J ⟨rfl,e⟩;obtain rfl:=e.symm;refine vs ?_;refine(fx l b).mono ?_;rintro _ J ⟨rfl,e⟩;obtain rfl:=e.symm;refine vs ?_;refine(gW l p).mono ?_;rintro _ G ⟨r,q,rfl,N,A,_,f⟩;refine vs ?_;refine(fy N a r).mono ?_;rintro _ D ⟨Q,u⟩;refine vs ?_;refine(fy Q b (-1)).mono ?_;rintro _ M ⟨U,P⟩;refine vs ?_;exact .inr ⟨d,rfl,br.same ⟨B,C,q,_,rfl,U,t.Gv rfl y O O j A,x⟩ ((((c.mono fun z _ h=>K z h).trans (f.mono Z)).trans (u.mono Z)).trans (P.mono Z))⟩
theorem oH{n:Nat}{H:Hp}{S:Nat->Prop}{w:Nw}(h:dL n H S w)(x:Int):aF 349 [ptr n,i64 x] H fun v J=>ak (
  (¬cz w.cs x/\v= .bool false/\br (dL n) S H J w)\/(cz w.cs x/\v= .bool true/\br (dL n) S H J (w.put x (0,0,0)))):=by
 obtain⟨B,C,L,T,rfl,m,t,N⟩:=id h;have E:∀z,C z->S z:=fun z h=>(N z).2 (.inl h);have s1:S B.tl:=(N _).2 (.inr O);have s2:S B.mp:=(N _).2 (.inr O);refine uS wI ⟨rfl,?_⟩;refine v2 lL.eq_1 (ae m.own) ?_;refine(bF m.cells x).mono ?_;rintro _ H1 (⟨o,rfl,rfl⟩| ⟨q,rfl,c1,e1⟩)
 ·refine vs ?_;exact .inl ⟨o,rfl,br.same h (aj.refl _ _)⟩
 have G:=m.aD c1 e1 rfl;have F:=bg.2 q;obtain⟨kh,Ew,_⟩:=aI F;have PT:x≠ -1:=O;have ls:=au w;obtain⟨⟨d1,d2,d3⟩,⟨d4,d5⟩,d6⟩:=m.ly;refine vs ?_;refine cZ.intro (fun J=>J.own B.n=some [ptr B.c,ptr B.t,.map (some B.mp)]) G.own ?_;refine vs ?_;refine bG.intro (ptr B.t) (fun J hI=>by refine v1 (ae hI) ?_;trivial) ?_;refine v1 (ae G.own) ?_;refine And.intro G.own ?_;refine vs ?_;obtain⟨a1,b1,Y4⟩:=cM (bm L x false);refine(kF G.ci x).mono ?_;rintro _ J ⟨rfl,e⟩;obtain rfl:=e.symm;rw[Y4];refine And.intro G.own ?_;refine vs ?_;refine(kI G t.bt Y4).mono ?_;rintro _ H2 ⟨rfl,L2,m2,k2,u2,e2⟩;refine And.intro m2.own ?_;refine vs ?_;have bt2:yj w L2:=by
  show Bt _ _ _ _;rw[k2,u2];exact t.bt.Qa _
 have er:bm L2 x true=bm L x true:=by
  rw[k2,nL t.bt,if_neg];rintro⟨h1,h2⟩;exact h1 (t.bt.two x h2.symm)
 obtain⟨a2,b2,WT⟩:=cM (bm L2 x true);refine(cF m2.ci x).mono ?_;rintro _ J ⟨rfl,e⟩;obtain rfl:=e.symm;rw[WT];refine And.intro m2.own ?_;refine vs ?_;refine(kI m2 bt2 WT).mono ?_;rintro _ H3 ⟨rfl,L3,m3,k3,u3,e3⟩;refine And.intro m3.own ?_;rw[er]at k3 u3;rw[k2,u2]at k3;rw[u2]at u3;obtain⟨w1,w2,w3,w4⟩:=t.bt.bare x;have K:∀c,bm L x c= -1\/(aH w (bm L x c)=aH w x/\bs L3 (bm L x c)= -1):=fun c=>by
  by_cases K:bm L x c= -1
  ·omega
  ·refine .inr ⟨(t.bt.home K).2.2.1,?_⟩;rw[u3,w4,if_pos];cases c
   ·omega
   omega
 rw[<-k3,<-u3]at w1;have mg:=Mg.start w1 F (K false) (K true) (fun e=>t.bt.two x e);rw[er];refine vs ?_;refine(gW m3 mg).mono ?_;rintro _ H4 ⟨r,I,rfl,j,g4,f4,e4⟩;refine And.intro j.own ?_;refine vs ?_;have f4:=f4 x (oO.start (fun K=>(t.bt.home K).2.2.2.2) (fun K=>(t.bt.home K).2.2.2.2));have d:=t.RB ls F k3 u3 g4 f4;have Fh:aj S H H4:=(((e1.mono fun z _ h=>E z h).trans (e2.mono Z)).trans (e3.mono Z)).trans (e4.mono Z);have ke:=fun y=>dW (w:=w) ⟨kh,Ew⟩ (0,0,0) y;have p0:aH (w.put x (0,0,0)) (-1)=0:=rfl;have p1:aH (w.put x (0,0,0)) x=0:=Z;have p2:∀y,y≠x->aH (w.put x (0,0,0)) y=aH w y:=Z;have el:∀a b,0<aH w a->0<aH w b->a≠x->b≠x->aU (w.put x (0,0,0)) a b=aU w a b:=fun a b ha hb wS Ac=>dC ⟨kh,Ew⟩ _ ha hb wS Ac;have tJ:(w.put x (0,0,0)).cs.length=w.cs.length:=by simp[Nw.put]
 refine v1 (ae j.own) ?_;refine(nE j.ci x).mono ?_;rintro _ J ⟨rfl,e⟩;obtain rfl:=e.symm;rw[d.ux];unfold gz;by_cases f:bs L x= -1
 ·rw[if_pos f];refine vs ?_;refine(fy j _ r).mono ?_;rintro _ H5 ⟨l,e5⟩;refine v1 (ae l.own) ?_;refine(bZ l.cells x).mono ?_;rintro _ H6 (⟨o,_,_⟩| ⟨_,rfl,c6,P⟩)
  ·exact absurd q o
  have u:=l.aD c6 P tJ;refine vs ?_;exact .inr ⟨q,rfl,br.same ⟨B,C,I,_,rfl,u,d.zd t F f p0 p1 p2 el,N⟩ ((Fh.trans (e5.mono Z)).trans (P.mono fun z _ h=>E z h))⟩
 ·rw[if_neg f];have SP:=yj.up t.bt f;obtain⟨w5,w6⟩:=d.cut t ls F f;obtain⟨a3,b3,Vb⟩:=cM (bm I (bs L x) true);refine v1 (ae j.own) ?_;refine(cF j.ci (bs L x)).mono ?_;rintro _ J ⟨rfl,e⟩;obtain rfl:=e.symm;rw[Vb];refine v1 (ae j.own) ?_;refine(cL j.ci (x:=x) (fun hu2=>by have:=yj.up d.bt hu2;have:=j.len;omega)).mono ?_;rintro _ H5 ⟨rfl,L5,t5,l5,k5,u5,e5⟩;have l:=j.dX t5 e5 l5;refine vs ?_;have RZ:=Fh.trans (e5.mono Z);refine ai.dec (fun g=>?_) (fun g=>?_)<;>refine vs ?_
  ·refine v1 (ae l.own) ?_;refine(bZ l.cells x).mono ?_;rintro _ H8 (⟨o,_,_⟩| ⟨_,rfl,M,A⟩)
   ·exact absurd q o
   have m8:=l.aD M A tJ;refine vs ?_;have D:yj w L5:=by
    show Bt _ _ _ _;rw[k5,u5];exact w5 g
   refine .inr ⟨q,rfl,br.same ⟨B,C,L5,T,rfl,m8,?_,N⟩ (RZ.trans (A.mono fun z _ h=>E z h))⟩;exact d.below t ls (n:=w.cs.length) (fun y X=>by obtain⟨y0,y1,_⟩:=aI X;omega) F f D Z p0 p1 p2 el
  ·obtain⟨y1,y2,y3,y4⟩:=w6 g;obtain⟨r1,r2,r3,r4⟩:=d.rx g;obtain⟨q1,q2,_⟩:=aI (w:=w) (x:=r) O;have Y5:=l.len;rw[d.kp _ true rfl f]at Vb;rcases Js Vb with ⟨rfl,h2⟩| ⟨rfl,rfl,h3⟩
   ·have Zl:false=(bm L (bs L x) true==x):=by
     rw[h2];exact Z
    refine v1 (ae l.own) ?_;refine(fu l.ci (p:=bs L x) (x:=r) (c:=false) O ⟨q1,O⟩ y3 (by simp_all) (by rw[k5,Zl];exact y1)).mono ?_;rintro _ H6 ⟨rfl,L6,t6,l6,Q,U,P⟩;have u:=l.dX t6 P l6;have Nr:=RZ.trans (P.mono Z);rw[k5]at Q;rw[u5]at U;rw[Zl]at Q;have D:yj w L6:=by
     show Bt _ _ _ _;rw[Q,U];exact y4
    have u6:bs L6=if r= -1 then dq (bs I) x else aN (dq (bs I) x) r (bs L x):=by rw[if_neg g];exact U
    refine v1 (ae u.own) ?_;refine(bZ u.cells x).mono ?_;rintro _ H8 (⟨o,_,_⟩| ⟨_,rfl,M,A⟩)
    ·exact absurd q o
    have m8:=u.aD M A tJ;refine vs ?_;refine .inr ⟨q,rfl,br.same ⟨B,C,L6,T,rfl,m8,?_,N⟩ (Nr.trans (A.mono fun z _ h=>E z h))⟩;exact d.below t ls (n:=w.cs.length) (fun y X=>by obtain⟨y0,y1,_⟩:=aI X;omega) F f D u6 p0 p1 p2 el
   ·have Zl:decide (bm L (bs L x) true=x)=(bm L (bs L x) true==x):=by rw[Bool.eq_iff_iff];simp
    refine v1 (ae l.own) ?_;refine(fu l.ci (p:=bs L x) (x:=r) (c:=decide (bm L (bs L x) true=x)) O ⟨q1,O⟩ y3 (by simp_all) (by simp_all)).mono ?_;rintro _ H6 ⟨rfl,L6,t6,l6,Q,U,P⟩;have u:=l.dX t6 P l6;have Nr:=RZ.trans (P.mono Z);rw[k5]at Q;rw[u5]at U;rw[Zl]at Q;have D:yj w L6:=by
     show Bt _ _ _ _;rw[Q,U];exact y4
    have u6:bs L6=if r= -1 then dq (bs I) x else aN (dq (bs I) x) r (bs L x):=by rw[if_neg g];exact U
    refine v1 (ae u.own) ?_;refine(bZ u.cells x).mono ?_;rintro _ H8 (⟨o,_,_⟩| ⟨_,rfl,M,A⟩)
    ·exact absurd q o
    have m8:=u.aD M A tJ;refine vs ?_;refine .inr ⟨q,rfl,br.same ⟨B,C,L6,T,rfl,m8,?_,N⟩ (Nr.trans (A.mono fun z _ h=>E z h))⟩;exact d.below t ls (n:=w.cs.length) (fun y X=>by obtain⟨y0,y1,_⟩:=aI X;omega) F f D u6 p0 p1 p2 el
theorem yF{n:Nat}{H:Hp}{S:Nat->Prop}{w:Nw}(h:dL n H S w)(g:Int):aF 350 [ptr n,i64 g] H fun v J=>ak (
  (w.len g=0/\v= .tuple [i64 0,.bool false].toArray/\br (dL n) S H J w)\/(∃x,w.first g x/\v= .tuple [i64 x,.bool true].toArray/\br (dL n) S H J (w.put x (0,0,0)))):=by
 refine aT uE ?_;refine vs ?_;refine(vB h g).mono ?_;rintro _ _ ⟨⟨l,rfl⟩| ⟨x,z,rfl⟩,rfl⟩
 ·refine vs ?_;exact .inl ⟨l,rfl,br.same h (aj.refl _ _)⟩
 ·refine vs ?_;refine(oH h x).mono ?_;rintro _ e (⟨c,_,_⟩| ⟨_,rfl,m⟩)
  ·exact absurd (bg.1 (by have:=bi.1 z;omega)) c
  refine vs ?_;exact .inr ⟨x,z,rfl,m⟩
theorem M3(n:Nat):qD (.iface 164 (ptr n)) (dL n) where
 slt h:=h.slt
 ext h e hd:=h.ext e hd
 cells:=by
  rintro H S w ⟨B,C,L,T,rfl,m,l,y⟩;exact⟨B.c,C,m.cells⟩
 has:=by
  rintro H S w g ⟨B,C,L,T,rfl,m,l,y⟩;exact⟨_,_,221,ptr B.c,rfl,cC (off:=0) Y (ae m.own) rfl,(ie m.cells g).mono fun v J c=>c⟩
 make:=by
  rintro H S w ⟨B,C,L,T,rfl,m,l,y⟩;exact⟨_,_,238,ptr B.c,rfl,cC (off:=0) Y (ae m.own) rfl,(DU m l rfl y).mono fun v J c=>c⟩
 insert:=by
  intro H S w g x k s h;exact⟨_,_,351,ptr n,rfl,ba Y,(Aq h g x k s).mono fun v J c=>c⟩
 min:=by
  intro H S w g h;refine⟨_,_,353,ptr n,rfl,ba Y,(vB h g).mono ?_⟩;rintro v J ⟨⟨t,rfl⟩| ⟨x,t,rfl⟩,rfl⟩
  ·exact .inl ⟨t,rfl,br.same h (aj.refl _ _)⟩
  ·exact .inr ⟨x,t,rfl,br.same h (aj.refl _ _)⟩
 extract:=by
  intro H S w g h;exact⟨_,_,350,ptr n,rfl,ba Y,(yF h g).mono fun v J c=>c⟩
 j9:=by
  intro H S w x k s h;exact⟨_,_,348,ptr n,rfl,ba Y,(wV h x k s).mono fun v J c=>c⟩
 entry:=by
  rintro H S w x ⟨B,C,L,T,rfl,m,l,y⟩;refine⟨_,_,219,ptr B.c,rfl,cC (off:=0) Y (ae m.own) rfl,(gG m.cells x).mono ?_⟩;rintro v J ⟨r,f,d⟩;exact⟨⟨B,C,L,T,rfl,m.fresh f,l,y⟩,f,d⟩
 len:=by
  rintro H S w g ⟨B,C,L,T,rfl,m,l,y⟩;exact⟨_,_,224,ptr B.c,rfl,cC (off:=0) Y (ae m.own) rfl,(eW m.cells g).mono fun v J c=>c⟩
 home:=by
  rintro H S w x h;obtain⟨B,C,L,T,rfl,m,l,y⟩:=id h;refine⟨_,_,222,ptr B.c,rfl,cC (off:=0) Y (ae m.own) rfl,(bF m.cells x).mono ?_⟩;rintro v J (⟨t,rfl,rfl⟩| ⟨t,rfl,r,j⟩)
  ·exact .inl ⟨t,rfl,br.same h (aj.refl _ _)⟩
  ·exact .inr ⟨t,rfl,br.same ⟨B,C,L,T,rfl,m.aD r j rfl,l,y⟩ (j.mono fun z _ p=>(y z).2 (.inl p))⟩
 delete:=by
  intro H S w x h;exact⟨_,_,349,ptr n,rfl,ba Y,(oH h x).mono fun v J c=>c⟩
 vI:=by
  intro H S w a b h;exact⟨_,_,352,ptr n,rfl,ba Y,(DV h a b).mono fun v J c=>c⟩
structure PB where
 n:Nat
 c:Nat
 tb:Nat
 tp:Nat
structure bT(H:Hp)(B:PB)(C:Nat->Prop)(w:Nw)(L:List Lk)(tops:List Int):Prop where
 own:∃tv,H.own B.n=some [ptr B.c,.slice (some ⟨B.tb,0,none⟩) L.length L.length,tv]/\Sl H 1 tv tops.length (tops.map i64) (some B.tp)
 cells:CQ H B.c C w
 fz:H.own B.tb=some (aR L)
 len:L.length=w.cs.length
 ly:B.n≠B.tb/\B.n≠B.tp/\B.tb≠B.tp
 out:¬C B.n/\¬C B.tb/\¬C B.tp
def PB.S(B:PB)(C:Nat->Prop)(z:Nat):Prop:=C z\/z=B.n\/z=B.tb\/z=B.tp
section
variable {H J : Hp} {B : PB} {C V : Nat → Prop} {w w' : Nw} {L L' : List Lk} {tops : List Int}
theorem bT.slt(h:bT H B C w L tops):∀z,B.S C z->z<H.size:=by
 obtain⟨m,x,l⟩:=h.own;rintro z (n|rfl|rfl|rfl)
 ·exact h.cells.slt z n
 ·exact aC x
 ·exact aC h.fz
 ·exact l.lt
theorem bT.ext(h:bT H B C w L tops)(e:aj V H J)(l:∀z,B.S C z->¬V z):bT J B C w L tops:=by
 obtain⟨y,m,c⟩:=h.own;exact⟨⟨y,e.own m (l _ (.inr (.inl rfl))),c.ext e (fun b n=>by injection n with n;exact n▸l _ (.inr (.inr (.inr rfl))))⟩,h.cells.ext e (fun x v=>l x (.inl v)),
  e.own h.fz (l _ (.inr (.inr (.inl rfl)))),h.len,h.ly,h.out⟩
theorem bT.fresh(h:bT H B C w L tops)(e:af H J):bT J B C w L tops:=h.ext e fun _ _ h=>h
theorem bT.aD(h:bT H B C w L tops)(x:CQ J B.c C w')(e:aj C H J)(n:w'.cs.length=w.cs.length):bT J B C w' L tops:=by
 obtain⟨v,z,l⟩:=h.own;obtain⟨m,c,y⟩:=h.out;exact⟨⟨v,e.own z m,l.ext e Z⟩,x,e.own h.fz c,by rw[n];exact h.len,h.ly,h.out⟩
theorem bT.LV(h:bT H B C w L tops)(x:L'.length=L.length):bT (H.wr B.tb (aR L')) B C w L' tops/\aj (fun z=>z=B.tb) H (H.wr B.tb (aR L')):=by
 obtain⟨c,n,m⟩:=h.own;obtain⟨t,r,j⟩:=h.out;obtain⟨l,v,y⟩:=h.ly;have e:aj (fun z=>z=B.tb) H (H.wr B.tb (aR L')):=(aj.refl (fun z=>z=B.tb) _).wr (fun _=>rfl) _;exact⟨⟨⟨c,by rw[x];exact e.own n l,m.ext e Z⟩,h.cells.ext e Z,ah h.fz,by rw[x];exact h.len,h.ly,h.out⟩,e⟩
theorem bT.eh(h:bT H B C w L tops):∃c l,H.own B.n=some [ptr B.c,.slice (some ⟨B.tb,0,none⟩) L.length L.length,.slice (some ⟨B.tp,0,none⟩) tops.length c]/\H.own B.tp=some l/\tops.length<=c/\c<=l.length/\l.take tops.length=tops.map i64:=by
 obtain⟨e,x,_,l,c,rfl,z,n,m,v⟩:=h.own;grind
theorem bT.cS(h:bT H B C w L tops){l:List Value}(n:H.own B.tp=some l){i:Nat}(m:tops[i]? =some x):l[i]? =some (i64 x):=by
 obtain⟨c,l',_,z,_,_,v⟩:=h.eh;rw[n]at z;injection z with z;subst z;have e:(tops.map i64)[i]? =some (i64 x):=by rw[aj9,m];rfl
 grind
theorem bT.fJ(h:bT H B C w L tops){l:List Value}(n:H.own B.tp=some l)(i:Nat)(v:Int):bT (H.wr B.tp (l.set i (i64 v))) B C w L (tops.set i v)/\aj (fun z=>z=B.tp) H (H.wr B.tp (l.set i (i64 v))):=by
 obtain⟨c,l',t,x,d,p,r⟩:=h.eh;rw[n]at x;injection x with x;subst x;obtain⟨q,o,f⟩:=h.out;obtain⟨j,m,y⟩:=h.ly;have e:aj (fun z=>z=B.tp) H (H.wr B.tp (l.set i (i64 v))):=(aj.refl (fun z=>z=B.tp) _).wr (fun _=>rfl) _;refine⟨⟨⟨_,e.own t m,?_⟩,h.cells.ext e Z,e.own h.fz y,h.len,h.ly,h.out⟩,e⟩;refine⟨by simp,l.set i (i64 v),c,Z,ah n,Z,Z,?_⟩;rw[ajN,ajM,tD,r,akd]
theorem bT.rd(h:bT H B C w L tops)(l:0<=x/\x<w.cs.length):x.toNat*3+2< (aR L).length/\(aR L)[x.toNat*3]? =some (i64 (bm L x false))/\(aR L)[x.toNat*3+1]? =some (i64 (bm L x true))/\(aR L)[x.toNat*3+2]? =some (i64 (bs L x)):=by
 have e:=h.len;have v:=ii L;obtain⟨y,z⟩:∃y,L[x.toNat]? =some y:=⟨_,ajL O⟩;obtain⟨n,m,c⟩:=LN z;rw[pR l.1 z,pR l.1 z,sK l.1 z];exact⟨O,n,m,c⟩
theorem bT.K4(h:bT H B C w L tops)(n:0<=x/\x<w.cs.length)(v:Int):∃L',bm L'=eM (bm L) x false v/\bs L'=bs L/\bT (H.wr B.tb ((aR L).set (x.toNat*3) (i64 v))) B C w L' tops/\aj (fun z=>z=B.tb) H (H.wr B.tb ((aR L).set (x.toNat*3) (i64 v))):=by
 have m:=h.len;obtain⟨y,l⟩:∃y,L[x.toNat]? =some y:=⟨_,ajL O⟩;refine⟨L.set x.toNat (y.fU false v),pS n.1 l false v,pT n.1 l false v,?_⟩;have:=tI l false v;rw[show x.toNat*3+false.toNat=x.toNat*3 from rfl]at this;rw[this];exact h.LV Z
theorem bT.K7(h:bT H B C w L tops)(n:0<=x/\x<w.cs.length)(v:Int):∃L',bm L'=eM (bm L) x true v/\bs L'=bs L/\bT (H.wr B.tb ((aR L).set (x.toNat*3+1) (i64 v))) B C w L' tops/\aj (fun z=>z=B.tb) H (H.wr B.tb ((aR L).set (x.toNat*3+1) (i64 v))):=by
 have m:=h.len;obtain⟨y,l⟩:∃y,L[x.toNat]? =some y:=⟨_,ajL O⟩;refine⟨L.set x.toNat (y.fU true v),pS n.1 l true v,pT n.1 l true v,?_⟩;have:=tI l true v;rw[show x.toNat*3+true.toNat=x.toNat*3+1 from rfl]at this;rw[this];exact h.LV Z
theorem bT.Hv(h:bT H B C w L tops)(n:0<=x/\x<w.cs.length)(v:Int):∃L',bm L'=bm L/\bs L'=aN (bs L) x v/\bT (H.wr B.tb ((aR L).set (x.toNat*3+2) (i64 v))) B C w L' tops/\aj (fun z=>z=B.tb) H (H.wr B.tb ((aR L).set (x.toNat*3+2) (i64 v))):=by
 have m:=h.len;obtain⟨y,l⟩:∃y,L[x.toNat]? =some y:=⟨_,ajL O⟩;refine⟨L.set x.toNat ⟨y.a,y.b,v⟩,zU n.1 l v,zV n.1 l v,?_⟩;rw[Dr l v];exact h.LV Z
variable {g : Int} {R : Int → Prop} {Gr ch : Int → List Int} {ax : Int → Int} {W : List Int} {a b : Int}
theorem cN(m:bT H B C w L tops)(n:xl (aH w) (aU w) g R Gr ch ax (ws [a,b]++W))(pl:Gt (bm L) (bs L) ch ax):
  aF 303 [ptr B.n,i64 a,i64 b] H fun v J=>ak (∃r L' U dt,v=i64 r/\(r= -1->a= -1/\b= -1)/\bT J B C w L' tops/\xl (aH w) (aU w) g R Gr U dt (ws [r]++W)/\Gt (bm L') (bs L') U dt/\aj (fun z=>C z\/z=B.tb) H J):=by
 refine aT ur ?_;refine vs ?_;rw[mH,eu a,eu b]at n;refine ai.dec (fun A=>?_) (fun A=>?_)<;>refine vs ?_
 ·rw[if_pos A]at n;rw[<-eu b]at n;exact⟨b,L,ch,ax,rfl,O,m,n,pl,aj.refl _ _⟩
 rw[if_neg A]at n;refine ai.dec (fun K=>?_) (fun K=>?_)<;>refine vs ?_
 ·rw[if_pos K]at n;exact⟨a,L,ch,ax,rfl,O,m,by grind [eu],pl,aj.refl _ _⟩
 rw[if_neg K]at n;obtain⟨tv,o1,_⟩:=m.own;refine v1 (ae o1) ?_;refine(cB m.cells b a).mono ?_;rintro _ H2 ⟨rfl,c2,I⟩;have y:=m.aD c2 I rfl;have c:xl (aH w) (aU w) g R Gr ch ax (a::b::W):=n;obtain⟨a1,a2,a3⟩:=c.wm a (by simp);obtain⟨b1,b2,b3⟩:=c.wm b (by simp);have Fc:=fT (w:=w) (a:=b) (b:=a) (by rw[b2];exact c.g0) (by rw[a2];exact c.g0);rw[Fc];have nj:a≠b:=fun e=>by cases c;grind
 obtain⟨p,q,M,hl,j⟩:∃p q,(if aU w b a=true then(p=b/\q=a)else(p=a/\q=b))/\aU w p q=true/\xl (aH w) (aU w) g R Gr ch ax (p::q::W):=by
  cases D:aU w b a
  ·exact⟨a,b,by simp,by grind [aU,Nw.key,Nw.seq],c⟩
  grind [xl.perm]
 obtain⟨p1,p2,p3⟩:=j.wm p (by simp);obtain⟨q1,q2,q3⟩:=j.wm q (by simp);have abi:p≠q:=Z;have Zm:=j.link hl;have Vp:=pl.link j.pr p1 q3 abi;obtain⟨d,o,_⟩:=aI (w:=w) (x:=p) (by rw[p2];exact c.g0);obtain⟨f,u,_⟩:=aI (w:=w) (x:=q) (by rw[q2];exact c.g0);have hold:bm L p false≠ -1->0<=bm L p false/\bm L p false<w.cs.length:=fun h=>by
  have h1:bm L p false∈ch p:=by rw[pl.hd]at h ⊢;exact eO h
  have h2:=(j.pr.dn p _ h1).2.2.2.1;obtain⟨z0,z1,_⟩:=aI h2;omega
 have ec:=y.len;have ws1:ws [p]=[p]:=by rw[eu,if_neg p1]
 cases D:aU w b a<;>simp only[D,if_true,if_false,akC]at M<;>obtain⟨rfl,rfl⟩:=M<;>refine vs ?_;all_goals
  obtain⟨ML,E,_⟩:=y.own;obtain⟨r0,r1,r2,r3⟩:=y.rd ⟨d,o⟩;refine v1 (ae E) ?_;refine⟨O,?_⟩;refine v4 (ae y.fz) ajJ Nat.add_zero r1 ?_;refine v1 (ae E) ?_;refine⟨O,?_⟩;obtain⟨L3,k3,u3,F,e3⟩:=y.K7 ⟨f,u⟩ (bm L p false);obtain⟨s0,_⟩:=y.rd ⟨f,u⟩;refine v3 y.fz ajJ Nat.add_zero ?_;refine⟨O,?_⟩;refine vs ?_;generalize H2.wr B.tb ((aR L).set (q.toNat*3+1) (i64 (bm L p false)))=H3 at*;obtain⟨L4,k4,u4,l,e4⟩:=F.Hv ⟨f,u⟩ p;obtain⟨s4,_⟩:=F.rd ⟨f,u⟩;refine⟨O,?_⟩;refine v3 F.fz ajJ Nat.add_zero ?_;refine⟨O,?_⟩;refine vs ?_;generalize H3.wr B.tb ((aR L3).set (q.toNat*3+2) (i64 p))=H4 at*;have G:aj (fun z=>C z\/z=B.tb) H H4:=((I.mono fun z _ h=>.inl h).trans (e3.mono fun z _ h=>.inr h)).trans (e4.mono fun z _ h=>.inr h);have Vn:=l.len;refine ai.dec (fun go=>?_) (fun go=>?_)<;>refine vs ?_
  ·obtain⟨Va,N,_⟩:=l.own;obtain⟨Q,k5,u5,t,P⟩:=l.K4 ⟨d,o⟩ q;obtain⟨s5,_⟩:=l.rd ⟨d,o⟩;refine v1 (ae N) ?_;refine⟨O,?_⟩;refine v3 l.fz ajJ Nat.add_zero ?_;refine⟨O,?_⟩;refine vs ?_;refine⟨p,Q,_,_,rfl,O,t,by rw[ws1];exact Zm,?_,G.trans (P.mono fun z _ h=>.inr h)⟩;grind
  ·obtain⟨Va,N,_⟩:=l.own;obtain⟨X,oy⟩:=hold go;obtain⟨Q,k5,u5,t,P⟩:=l.Hv ⟨X,oy⟩ q;obtain⟨s5,_⟩:=l.rd ⟨X,oy⟩;refine v1 (ae N) ?_;refine⟨O,?_⟩;refine v3 l.fz ajJ Nat.add_zero ?_;refine⟨O,?_⟩;refine vs ?_;generalize H4.wr B.tb ((aR L4).set ((bm L p false).toNat*3+2) (i64 q))=H5 at*;obtain⟨tv5,o5,_⟩:=t.own;have Y5:=t.len;obtain⟨L6,k6,u6,m6,e6⟩:=t.K4 ⟨d,o⟩ q;obtain⟨s6,_⟩:=t.rd ⟨d,o⟩;refine v1 (ae o5) ?_;refine⟨O,?_⟩;refine v3 t.fz ajJ Nat.add_zero ?_;refine⟨O,?_⟩;refine vs ?_;refine⟨p,L6,_,_,rfl,O,m6,by rw[ws1];exact Zm,?_,(G.trans (P.mono fun z _ h=>.inr h)).trans (e6.mono fun z _ h=>.inr h)⟩;grind
theorem oI(m:bT H B C w L tops){lt:Int->Int->Bool}(hs:bC lt)(q:Pr (aH w) lt ch ax)(pl:Gt (bm L) (bs L) ch ax){p:Int}{l1 l2:List Int}(hp:ch p=l1++x::l2):
  aF 302 [ptr B.n,i64 x] H fun v J=>ak (∃L',bT J B C w L' tops/\Gt (bm L') (bs L') (aA ch p (l1++l2)) (aN ax x (-1))/\aj (fun z=>z=B.tb) H J):=by
 obtain⟨f1,f2,f7,f3,f4,f5,f6⟩:=pl.off q hs hp;have hx:=(q.dn p x Z).2.2.2.1;obtain⟨n,x1,_⟩:=aI hx;obtain⟨y0,y1,_⟩:=aI (w:=w) (x:=bs L x) O;obtain⟨tv,t,_⟩:=m.own;obtain⟨r0,r1,r2,r3⟩:=m.rd ⟨n,x1⟩;obtain⟨t0,t1,t2,t3⟩:=m.rd ⟨y0,y1⟩;have hl:=m.len;refine uS wD ⟨rfl,?_⟩;refine v2 lK.eq_1 (ae t) ?_;refine⟨O,?_⟩;refine v5 (ae t) (ae m.fz) ajJ Nat.add_zero r3 ?_;refine⟨O,?_⟩;refine v4 (ae m.fz) ajJ Nat.add_zero t1 ?_;have bx:bs L x≠x:=f7;refine ai.dec (fun g=>?_) (fun g=>?_)<;>refine vs ?_
 ·have A:=f1.1 g;rw[if_pos A]at f6;refine v6 (ae t) (ae m.fz) ajJ Nat.add_zero r2 r3 ?_;refine⟨O,?_⟩;obtain⟨y,D,u1,l,P⟩:=m.K4 ⟨y0,y1⟩ (bm L x true);refine v3 m.fz ajJ Nat.add_zero ?_;refine⟨O,?_⟩;refine vs ?_;generalize H.wr B.tb ((aR L).set ((bs L x).toNat*3) (i64 (bm L x true)))=d at*;obtain⟨s0,s1,s2,s3⟩:=l.rd ⟨n,x1⟩;have A:=l.len;obtain⟨MM,t,_⟩:=l.own;have U:bm y x true=bm L x true:=by
   rw[D];unfold eM;omega
  have I:bs y x=bs L x:=by rw[u1]
  rw[U]at s2;rw[I]at s3;refine v4 (ae l.fz) ajJ Nat.add_zero s2 ?_;refine ai.dec (fun G=>?_) (fun G=>?_)<;>refine vs ?_
  ·obtain⟨f,M,u2,c,r⟩:=l.K7 ⟨n,x1⟩ (-1);refine v3 l.fz ajJ Nat.add_zero ?_;refine⟨O,?_⟩;obtain⟨v0,_⟩:=c.rd ⟨n,x1⟩;obtain⟨u,E,u3,e,j⟩:=c.Hv ⟨n,x1⟩ (-1);refine vs ?_;generalize d.wr B.tb ((aR y).set (x.toNat*3+1) (Value.int .i64 (-1)))=o at*;refine v3 c.fz ajJ Nat.add_zero ?_;refine⟨O,?_⟩;refine vs ?_;refine⟨u,e,?_,(P.trans r).trans j⟩;grind
  ·obtain⟨K,F,_⟩:=aI (w:=w) (x:=bm L x true) O;obtain⟨v0,_⟩:=l.rd ⟨K,F⟩;refine v6 (ae t) (ae l.fz) ajJ Nat.add_zero s2 s3 ?_;refine⟨O,?_⟩;obtain⟨f,M,u2,c,r⟩:=l.Hv ⟨K,F⟩ (bs L x);refine v3 l.fz ajJ Nat.add_zero ?_;refine⟨O,?_⟩;refine vs ?_;generalize d.wr B.tb ((aR y).set ((bm L x true).toNat*3+2) (i64 (bs L x)))=o at*;obtain⟨v1,_⟩:=c.rd ⟨n,x1⟩;obtain⟨u,E,u3,e,j⟩:=c.K7 ⟨n,x1⟩ (-1);refine v3 c.fz ajJ Nat.add_zero ?_;refine⟨O,?_⟩;obtain⟨v2,_⟩:=e.rd ⟨n,x1⟩;obtain⟨N,k4,u4,X,Q⟩:=e.Hv ⟨n,x1⟩ (-1);refine vs ?_;generalize o.wr B.tb ((aR f).set (x.toNat*3+1) (Value.int .i64 (-1)))=H3 at*;refine v3 e.fz ajJ Nat.add_zero ?_;refine⟨O,?_⟩;refine vs ?_;refine⟨N,X,?_,((P.trans r).trans j).trans Q⟩;grind
 ·have A:l1≠[]:=fun h=>g (f1.2 h);rw[if_neg A]at f6;refine v6 (ae t) (ae m.fz) ajJ Nat.add_zero r2 r3 ?_;refine⟨O,?_⟩;obtain⟨y,D,u1,l,P⟩:=m.K7 ⟨y0,y1⟩ (bm L x true);refine v3 m.fz ajJ Nat.add_zero ?_;refine⟨O,?_⟩;refine vs ?_;generalize H.wr B.tb ((aR L).set ((bs L x).toNat*3+1) (i64 (bm L x true)))=d at*;obtain⟨s0,s1,s2,s3⟩:=l.rd ⟨n,x1⟩;have A:=l.len;obtain⟨MM,t,_⟩:=l.own;have U:bm y x true=bm L x true:=by
   rw[D];unfold eM;omega
  have I:bs y x=bs L x:=by rw[u1]
  rw[U]at s2;rw[I]at s3;refine v4 (ae l.fz) ajJ Nat.add_zero s2 ?_;refine ai.dec (fun G=>?_) (fun G=>?_)<;>refine vs ?_
  ·obtain⟨f,M,u2,c,r⟩:=l.K7 ⟨n,x1⟩ (-1);refine v3 l.fz ajJ Nat.add_zero ?_;refine⟨O,?_⟩;obtain⟨v0,_⟩:=c.rd ⟨n,x1⟩;obtain⟨u,E,u3,e,j⟩:=c.Hv ⟨n,x1⟩ (-1);refine vs ?_;generalize d.wr B.tb ((aR y).set (x.toNat*3+1) (Value.int .i64 (-1)))=o at*;refine v3 c.fz ajJ Nat.add_zero ?_;refine⟨O,?_⟩;refine vs ?_;refine⟨u,e,?_,(P.trans r).trans j⟩;grind
  ·obtain⟨K,F,_⟩:=aI (w:=w) (x:=bm L x true) O;obtain⟨v0,_⟩:=l.rd ⟨K,F⟩;refine v6 (ae t) (ae l.fz) ajJ Nat.add_zero s2 s3 ?_;refine⟨O,?_⟩;obtain⟨f,M,u2,c,r⟩:=l.Hv ⟨K,F⟩ (bs L x);refine v3 l.fz ajJ Nat.add_zero ?_;refine⟨O,?_⟩;refine vs ?_;generalize d.wr B.tb ((aR y).set ((bm L x true).toNat*3+2) (i64 (bs L x)))=o at*;obtain⟨v1,_⟩:=c.rd ⟨n,x1⟩;obtain⟨u,E,u3,e,j⟩:=c.K7 ⟨n,x1⟩ (-1);refine v3 c.fz ajJ Nat.add_zero ?_;refine⟨O,?_⟩;obtain⟨v2,_⟩:=e.rd ⟨n,x1⟩;obtain⟨N,k4,u4,X,Q⟩:=e.Hv ⟨n,x1⟩ (-1);refine vs ?_;generalize o.wr B.tb ((aR f).set (x.toNat*3+1) (Value.int .i64 (-1)))=H3 at*;refine v3 e.fz ajJ Nat.add_zero ?_;refine⟨O,?_⟩;refine vs ?_;refine⟨N,X,?_,((P.trans r).trans j).trans Q⟩;grind
end
end
section
variable {H : Hp} {B : PB} {C V : Nat → Prop} {w : Nw} {L : List Lk} {tops : List Int} {ch Gr : Int → List Int} {ax : Int → Int}
theorem Pr.len(q:Pr (aH w) (aU w) ch ax)(x:Int):(ch x).length<=w.cs.length:=cm (q.nd x) fun c h=>by
 obtain⟨z,l,_⟩:=aI (q.dn x c h).2.2.2.1;omega
theorem Gs.next{K:Int->Bool->Int}{z:Int->Int}:∀ {l1:List Int} {p x:Int} {l2:List Int},Gs K z p (l1++x::l2)->K x true=l2.headD (-1):=fun h=>h.split.2.1
theorem yG(m:bT H B C w L tops)(q:Pr (aH w) (aU w) ch ax)(pl:Gt (bm L) (bs L) ch ax){x:Int}(A:0<aH w x):
  aF 305 [ptr B.n,i64 x] H fun v J=>ak (∃fp,bT J B C w L tops/\aj C H J/\Sl J 1 v (ch x).length ((ch x).map i64) fp/\∀b,fp=some b->H.size<=b):=by
 obtain⟨X,x1,_⟩:=aI A;have MU:=m.cells.zf;have ec:=q.len x;refine aT ut ?_;obtain⟨tv,o,_⟩:=m.own;refine v1 (ae o) ?_;refine(bF m.cells x).mono ?_;rintro _ H1 (⟨I,_,_⟩| ⟨mA,rfl,y,t⟩)
 ·exact absurd (bg.1 A) I
 have l:=m.aD y t rfl;obtain⟨MM,o,_⟩:=l.own;obtain⟨r0,M,r2,r3⟩:=l.rd ⟨X,x1⟩;have hl:=l.len;have z1:=t.size;refine v1 (ae o) ?_;refine⟨O,?_⟩;refine v4 (ae l.fz) ajJ Nat.add_zero M ?_;refine bj.intro (fun mm env J=>∃ (d r:List Int) (f:Value) (fp:Option Nat),mm=r.length/\ch x=d++r/\bT J B C w L tops/\(∀z,fp=some z->H.size<=z)/\Sl J 1 f d.length (d.map i64) fp/\aj (fun z=>C z\/H.size<=z) H J/\
  env=[(0,ptr B.n),(7,f),(8,i64 (r.headD (-1)))]) _ ⟨[],ch x,_,none,rfl,rfl,l,Z,Sl.nil _ _,t.mono Z,by rw[pl.hd]⟩ ?_
 rintro mm env H2 ⟨d,r,f,fp,rfl,p,K,P,s2,j,rfl⟩;have z2:=j.size;refine vs ?_;cases r with
 |nil=>
  refine ai.dec (fun _=>?_) (fun h=>absurd rfl h);refine vs ?_;rw[ake]at p;rw[p];exact⟨fp,K,j.mono Z,s2,P⟩
 |cons c r=>
  have Q:=q.dn x c Z;obtain⟨F,y,_⟩:=aI Q.2.2.2.1;have e:=pl.sg x;rw[p]at e;have e:=e.next;have ze:d.length+(r.length+1)=(ch x).length:=Z;refine ai.dec (fun h=>absurd h Z) (fun _=>?_);refine vs ?_;refine AX (B:=H.size) P O s2 c O fun w' H3 N U s3 u=>?_;refine vs ?_;have n:=K.ext u (fun z G JO=>by have:=m.slt z G;omega);obtain⟨SU,D,_⟩:=n.own;obtain⟨t0,t1,E,t3⟩:=n.rd ⟨F,y⟩;have OA:=n.len;simp(disch:=(first|exact aV|fail)) only[go_sem, ↓reduceIte,Zv,ae D,List.headD_cons];refine⟨O,?_⟩;refine v4 (ae n.fz) ajJ Nat.add_zero E ?_;refine⟨r.length,by simp,d++[c],r,w',N,rfl,Z,n,U,s3,j.trans (u.mono fun z _ h=>.inr h),by rw[e]⟩
theorem iW(m:bT H B C w L tops)(q:Pr (aH w) (aU w) ch ax)(pl:Gt (bm L) (bs L) ch ax){x:Int}(hx:0<aH w x):
  aF 304 [ptr B.n,i64 x] H fun v J=>ak (∃r L' f A,v=i64 r/\bT J B C w L' tops/\Gt (bm L') (bs L') f A/\
   xl (aH w) (aU w) (aH w x) (fun y=>0<aH w y/\ax y= -1) (aA ch x []) f A (ws [r])/\aj (fun z=>C z\/z=B.tb) H J):=by
 obtain⟨x0,x1,_⟩:=aI hx;have MU:=m.cells.zf;have ec:=q.len x;refine aT us ?_;refine vs ?_;refine(yG m q pl hx).mono ?_;rintro kv H1 ⟨fp,m1,e1,s1,yc⟩;have z1:=e1.size;obtain⟨MM,o1,_⟩:=m1.own;obtain⟨r0,_⟩:=m1.rd ⟨x0,x1⟩;have hl:=m1.len;refine v1 (ae o1) ?_;refine⟨⟨O,O⟩,?_⟩;obtain⟨L2,k2,u2,m2,e2⟩:=m1.K4 ⟨x0,x1⟩ (-1);refine v3 m1.fz ajJ Nat.add_zero ?_;refine⟨O,?_⟩;refine vs ?_;generalize H1.wr B.tb ((aR L).set (x.toNat*3) (Value.int .i64 (-1)))=H2 at*;have hN:∀z,B.S C z->z<H.size:=m.slt;have Za:B.tb<H.size:=hN _ (.inr (.inr (.inl rfl)));have s2:=s1.ext e2 (fun z l p=>by have:=yc z l;omega);obtain⟨ka,kc,rfl⟩:=Sl.shape s2;have zg:aj (fun z=>C z\/z=B.tb\/H.size<=z) H H2:=(e1.mono fun z _ h=>.inl h).trans (e2.mono fun z _ h=>.inr (.inl h));refine vs ?_;refine bj.intro (fun mm env J=>∃ (i:Nat) (L':List Lk),mm=(ch x).length - i/\i<=(ch x).length/\bT J B C w L' tops/\Sl J 1 (.slice ka (ch x).length kc) (ch x).length ((ch x).map i64) fp/\aj (fun z=>C z\/z=B.tb\/H.size<=z) H J/\
  (∀y,bm L' y false=if y=x then -1 else bm L y false)/\(∀c,(c∈(ch x).take i->bm L' c true= -1/\bs L' c= -1)/\(c∉ (ch x).take i->bm L' c true=bm L c true/\bs L' c=bs L c))/\
  env=[(0,ptr B.n),(5,.slice ka (ch x).length kc),(22,.slice ka (ch x).length kc),(23,i64 (ch x).length),(24,i64 i)]) _ ⟨0,L2,rfl,O,m2,s2,zg,fun y=>?_,fun c=>⟨fun h=>by simp at h,fun _=>?_⟩,rfl⟩ ?_
 ·rw[k2];unfold eM;by_cases hy:y=x
  ·rw[if_pos ⟨hy,rfl⟩,if_pos hy]
  ·rw[if_neg (by simp[hy]),if_neg hy]
 ·rw[k2,u2];unfold eM;rw[if_neg (by simp)];exact⟨rfl,rfl⟩
 rintro mm env H3 ⟨i,L3,rfl,hi,I,s3,e3,kf3,Xk,rfl⟩;refine vs ?_;refine ai.dec (fun gi=>?_) (fun gi=>?_)<;>refine vs ?_
 ·have X:i< (ch x).length:=O;obtain⟨c,e⟩:∃c,(ch x)[i]? =some c:=⟨_,ajL X⟩;have Zi:=ajV e;obtain⟨c0,c1,_⟩:=aI (q.dn x c Zi).2.2.2.1;obtain⟨_,kb,lb,rfl,K,G⟩:=Sl.wN s3 e;refine⟨⟨O,O⟩,?_⟩;refine v5 (ae K) ajJ ajM Int.toNat_natCast G ?_;obtain⟨SU,o3,_⟩:=I.own;obtain⟨t0,_⟩:=I.rd ⟨c0,c1⟩;have OA:=I.len;refine v1 (ae o3) ?_;refine⟨⟨O,O⟩,?_⟩;obtain⟨L4,k4,u4,u,F⟩:=I.K7 ⟨c0,c1⟩ (-1);refine v3 I.fz ajJ Nat.add_zero ?_;refine⟨O,?_⟩;obtain⟨t1,_⟩:=u.rd ⟨c0,c1⟩;have Vn:=u.len;obtain⟨M,k5,u5,P,n⟩:=u.Hv ⟨c0,c1⟩ (-1);refine vs ?_;generalize H3.wr B.tb ((aR L3).set (c.toNat*3+1) (Value.int .i64 (-1)))=H4 at*;refine⟨⟨O,O⟩,?_⟩;refine v3 u.fz ajJ Nat.add_zero ?_;refine⟨O,?_⟩;refine vs ?_;have s5:=(s3.ext F (fun z l p=>by have:=yc z l;omega)).ext n (fun z l p=>by have:=yc z l;omega);refine⟨(ch x).length - (i+1),O,i+1,M,rfl,O,P,s5,(e3.trans (F.mono fun z _ h=>.inr (.inl h))).trans (n.mono fun z _ h=>.inr (.inl h)),fun y=>?_,fun d=>?_,?_⟩
  ·rw[k5,k4];unfold eM;rw[if_neg (by simp)];exact kf3 y
  ·have tk:(ch x).take (i+1)=(ch x).take i++[c]:=by rw[aj2,e];rfl
   rw[tk,k5,k4,u5,u4];unfold eM aN;by_cases o:d=c
   ·rw[if_pos ⟨o,rfl⟩,if_pos o];exact⟨fun _=>⟨rfl,rfl⟩,fun h=>absurd (show d∈(ch x).take i++[c] by simp[o]) h⟩
   ·rw[if_neg (by simp[o]),if_neg o];refine⟨fun h=>(Xk d).1 ?_,fun h=>(Xk d).2 fun h2=>h (by simp[h2])⟩;rcases aj4.1 h with h|h
    ·exact h
    ·exact absurd (aj6.1 h) o
  ·rw[wrap64 O O];rfl
 obtain rfl:i=(ch x).length:=O;rw[aj8]at Xk;have Vp:=pl.bare q kf3 (fun c e=>(Xk c).1 e) (fun c e=>(Xk c).2 e);have Zm:=q.Ss hx;have QQ:∀z,fp=some z->z<H3.size:=fun z l=>by rw[l]at s3;exact s3.lt
 have z3:=e3.size;refine bj.intro (fun mm env J=>∃ (i:Nat) (t:List Int) (wv:Value) (fq:Option Nat) (L':List Lk) (f:Int->List Int) (A:Int->Int),mm=(ch x).length+2 - i/\i<=(ch x).length+1/\t.length<=i/\bT J B C w L' tops/\
  Sl J 1 (.slice ka (ch x).length kc) (ch x).length ((ch x).map i64) fp/\(∀z,fq=some z->H3.size<=z)/\Sl J 1 wv t.length (t.map i64) fq/\aj (fun z=>C z\/z=B.tb\/H.size<=z) H J/\aj (fun z=>C z\/z=B.tb\/H3.size<=z) H3 J/\
  xl (aH w) (aU w) (aH w x) (fun y=>0<aH w y/\ax y= -1) (aA ch x []) f A (t++(ch x).drop i)/\Gt (bm L') (bs L') f A/\
  env=[(0,ptr B.n),(5,.slice ka (ch x).length kc),(8,wv),(9,i64 i)]) _ ⟨0,[],_,none,L3,_,_,rfl,O,by simp,I,s3,(fun z h=>by cases h),Sl.nil _ _,e3,aj.refl _ _,by simpa using Zm,Vp,rfl⟩ ?_
 rintro mm env H4 ⟨i,t,wv,fq,L4,QY,DW,rfl,hi,hti,u,s4,Vo,t4,F,e34,Q,TE,rfl⟩;have z4:=F.size;have z34:=e34.size;refine vs ?_;refine ai.dec (fun gi=>?_) (fun gi=>?_)<;>refine vs ?_
 ·have X:i< (ch x).length:=O;obtain⟨c,e⟩:∃c,(ch x)[i]? =some c:=⟨_,ajL X⟩;have Zi:=ajV e;have OZ:=q.ne Zi;have dr:(ch x).drop i=c::(ch x).drop (i+1):=by
   rw[akm X];congr 1;rw[ajL X]at e;injection e
  obtain⟨_,kb,lb,rfl,K,G⟩:=Sl.wN s4 e;refine ai.dec (fun g1=>?_) (fun g1=>?_)<;>refine vs ?_
  ·rw[wrap64 O O]at g1;refine⟨⟨O,O⟩,?_⟩;refine v5 (ae K) ajJ ajM Int.toNat_natCast G ?_;refine AX (B:=H3.size) Vo z34 t4 c O fun w' H5 Xc OV D n=>?_;refine vs ?_;have P:=u.ext n (fun z l p=>by have:=m.slt z l;omega);have s5:=s4.ext n (fun z l p=>by have:=QQ z l;omega);refine⟨(ch x).length+2 - (i+2),O,i+2,t++[c],w',Xc,L4,QY,DW,rfl,O,by simp;omega,P,s5,OV,D,F.trans (n.mono fun z _ h=>.inr (.inr O)),e34.trans (n.mono fun z _ h=>.inr (.inr h)),?_,TE,?_⟩
   ·rw[dr]at Q;rw[List.drop_of_length_le O];rw[List.drop_of_length_le O]at Q;simpa using Q
   ·rw[wrap64 O O];rfl
  ·rw[wrap64 O O]at g1;have RT:i+1< (ch x).length:=O;obtain⟨d,o⟩:∃d,(ch x)[i+1]? =some d:=⟨_,ajL RT⟩;have hdm:=ajV o;have hdn:=q.ne hdm;have dr2:(ch x).drop (i+1)=d::(ch x).drop (i+2):=by
    rw[akm RT];congr 1;rw[ajL RT]at o;injection o
   obtain⟨_,EB,WZ,E,q5,q4⟩:=Sl.wN s4 o;injection E with E;injection E with E;subst E;rw[K]at q5;injection q5 with q5;subst q5;refine⟨⟨O,O⟩,?_⟩;refine v5 (ae K) ajJ ajM Int.toNat_natCast G ?_;rw[wrap64 O O];refine⟨⟨O,O⟩,?_⟩;refine v5 (ae K) ajJ ajM (show((i:Int)+1).toNat=i+1 by omega) q4 ?_;have w2:ws [c,d]=[c,d]:=by rw[mH,eu,eu,if_neg OZ,if_neg hdn];rfl
   have U:xl (aH w) (aU w) (aH w x) (fun y=>0<aH w y/\ax y= -1) (aA ch x []) QY DW (ws [c,d]++(t++(ch x).drop (i+2))):=by
    rw[w2];rw[dr,dr2]at Q;refine Q.perm ?_;have h1:(t++c::d::(ch x).drop (i+2)).Perm (c::(t++d::(ch x).drop (i+2))):=ak4;have h2:(t++d::(ch x).drop (i+2)).Perm (d::(t++(ch x).drop (i+2))):=ak4;exact h1.trans (h2.cons c)
   refine(cN u U TE).mono ?_;rintro _ H5 ⟨r,M,Vq,M4,rfl,hr,P,Zn,Zo,n⟩;have hrn:r≠ -1:=fun h=>OZ (hr h).1;have z5:=n.size;have D:=t4.ext n (fun z l p=>by have:=Vo z l;rcases p with h|h;have:=m.slt z (.inl h);omega;omega);have s5:=s4.ext n (fun z l p=>by have:=yc z l;rcases p with h|h;have:=m.slt z (.inl h);omega;omega);refine vs ?_;refine AX (B:=H3.size) Vo O D r O fun w' H6 Xc OV t6 N=>?_;refine vs ?_;have m6:=P.ext N (fun z l p=>by have:=m.slt z l;omega);have s6:=s5.ext N (fun z l p=>by have:=QQ z l;omega);refine⟨(ch x).length+2 - (i+2),O,i+2,t++[r],w',Xc,M,Vq,M4,rfl,O,by simp;omega,m6,s6,OV,t6,(F.trans (n.mono fun z _ h=>h.elim .inl fun h=>.inr (.inl h))).trans (N.mono fun z _ h=>.inr (.inr O)),(e34.trans (n.mono fun z _ h=>h.elim .inl fun h=>.inr (.inl h))).trans (N.mono fun z _ h=>.inr (.inr h)),?_,Zo,?_⟩
   ·rw[eu,if_neg hrn]at Zn;refine Zn.perm ?_;rw[akR];exact(ak4 (l₁:=t) (a:=r) (l₂:=(ch x).drop (i+2))).symm
   ·rw[wrap64 O O];rfl
 rw[List.drop_of_length_le O,ake]at Q;have WU:t.length<=65537:=O;obtain⟨ta,tc,rfl⟩:=Sl.shape t4;refine vs ?_;refine bj.intro (fun mm env J=>∃ (j:Nat) (r:Int) (L':List Lk) (f:Int->List Int) (A:Int->Int),mm=j/\j<=t.length/\bT J B C w L' tops/\
  Sl J 1 (.slice ta t.length tc) t.length (t.map i64) fq/\aj (fun z=>C z\/z=B.tb\/H.size<=z) H J/\
  xl (aH w) (aU w) (aH w x) (fun y=>0<aH w y/\ax y= -1) (aA ch x []) f A (ws [r]++t.take j)/\Gt (bm L') (bs L') f A/\
  env=[(0,ptr B.n),(8,.slice ta t.length tc),(10,i64 r),(11,i64 ((j:Int) - 1))]) _ ⟨t.length, -1,L4,QY,DW,rfl,ajU _,u,t4,F,by rw[eu,if_pos rfl,aj8];exact Q,TE,?_⟩ ?_
 ·rw[wrap64 O O]
 rintro mm env H5 ⟨j,r,M,Vq,M4,hmj,hj,P,D,n,U,Zo,rfl⟩;obtain rfl:=hmj.symm;refine vs ?_;refine ai.dec (fun gj=>?_) (fun gj=>?_)<;>refine vs ?_
 ·obtain⟨k,rfl⟩:∃k,j=k+1:=⟨j - 1,O⟩;obtain⟨c,e⟩:∃c,t[k]? =some c:=⟨_,ajL O⟩;obtain⟨_,kb,lb,rfl,K,G⟩:=Sl.wN D e;have ji:((((k+1:Nat):Int) - 1)).toNat=k:=O;refine⟨⟨O,O⟩,?_⟩;refine v5 (ae K) ajJ ajM ji G ?_;have tk:t.take (k+1)=t.take k++[c]:=by rw[aj2,e];rfl
  have OZ:c≠ -1:=(U.wm c (by rw[tk];simp)).1;have Zn:xl (aH w) (aU w) (aH w x) (fun y=>0<aH w y/\ax y= -1) (aA ch x []) Vq M4 (ws [c,r]++t.take k):=by
   rw[tk]at U;refine U.perm ?_;rw[mH c [r],eu c,if_neg OZ];have h1:(ws [r]++(t.take k++[c])).Perm ((ws [r]++t.take k)++[c]):=by rw[akR]
   refine h1.trans (akL.trans ?_);rw[akR]
  refine(cN P Zn Zo).mono ?_;rintro _ H6 ⟨r2,L6,Vm,K6,rfl,hr,m6,pw7,pl6,N⟩;have t6:=D.ext N (fun z l p=>by have:=Vo z l;rcases p with h|h;have:=m.slt z (.inl h);omega;omega);refine vs ?_;refine⟨k,O,k,r2,L6,Vm,K6,rfl,O,m6,t6,n.trans (N.mono fun z _ h=>h.elim .inl fun h=>.inr (.inl h)),pw7,pl6,?_⟩;rw[show((k+1:Nat):Int) - 1 - 1=(k:Int) - 1 by omega,wrap64 O O]
 ·obtain rfl:j=0:=O;rw[List.take_zero,ake]at U;exact⟨r,M,Vq,M4,rfl,P,Zo,U,n.mono fun z l h=>h.elim .inl fun h=>.inr O⟩
end
section
variable{n:Nat}{H:Hp}
structure Jt(w:Nw)(L:List Lk)(tops:List Int)(ch:Int->List Int)(ax:Int->Int):Prop where
 t:Lv (aH w) (aU w) ch ax (aQ tops)
 pl:Gt (bm L) (bs L) ch ax
 tl:tops.length=w.hs.length
def dF(n:Nat)(H:Hp)(S:Nat->Prop)(w:Nw):Prop:=∃ (B:PB) (C:Nat->Prop) (L:List Lk) (tops:List Int) (ch:Int->List Int) (ax:Int->Int),B.n=n/\bT H B C w L tops/\Jt w L tops ch ax/\∀z,S z↔B.S C z
theorem dF.slt{S:Nat->Prop}{w:Nw}(h:dF n H S w):∀z,S z->z<H.size:=by
 obtain⟨B,C,L,tops,ch,ax,rfl,m,l,x⟩:=h;exact fun z c=>m.slt z ((x z).1 c)
theorem dF.ext{J:Hp}{S V:Nat->Prop}{w:Nw}(h:dF n H S w)(e:aj V H J)(c:∀z,S z->¬V z):dF n J S w:=by
 obtain⟨B,C,L,tops,ch,ax,rfl,m,l,x⟩:=h;exact⟨B,C,L,tops,ch,ax,rfl,m.ext e Z,l,x⟩
theorem As(cap:Int)(H:Hp):aF 79 [i64 cap] H fun v J=>ak (
  af H J/\((¬ (0<=cap/\cap<=65536)/\v= .tuple [.pointer none,i64 31].toArray)\/
   ((0<=cap/\cap<=65536)/\∃n S,v= .tuple [ptr n,i64 0].toArray/\dF n J S (jD cap)/\∀x,S x->H.size<=x))):=by
 refine aT ES ?_;refine vs ?_;refine(j4 cap H).mono ?_;rintro _ H1 ⟨y,⟨r,rfl⟩| ⟨r,c,C,rfl,q,hC⟩⟩
 ·refine vs ?_;exact⟨y,.inl ⟨r,rfl⟩⟩
 refine v1 ajZ ?_;refine⟨O,?_⟩;refine vs ?_;rw[LO];have U8:=q.slt;have z1:=y.size;have f:af H1 (((H1.new 221 (aR (List.replicate cap.toNat ⟨0,0,0⟩))).new 3 [Value.int .i64 (-1)]).new 219 [ptr c,.slice (some ⟨H1.size,0,none⟩) cap.toNat cap.toNat,.slice (some ⟨H1.size+1,0,none⟩) 1 1]):=(bD.new _ _).new _ _;have A:aj (fun _=>False) (H1.new 221 (aR (List.replicate cap.toNat ⟨0,0,0⟩))) (((H1.new 221 (aR (List.replicate cap.toNat ⟨0,0,0⟩))).new 3 [Value.int .i64 (-1)]).new 219 [ptr c,.slice (some ⟨H1.size,0,none⟩) cap.toNat cap.toNat,.slice (some ⟨H1.size+1,0,none⟩) 1 1]):=bD.new _ _;have K:aj (fun _=>False) ((H1.new 221 (aR (List.replicate cap.toNat ⟨0,0,0⟩))).new 3 [Value.int .i64 (-1)]) (((H1.new 221 (aR (List.replicate cap.toNat ⟨0,0,0⟩))).new 3 [Value.int .i64 (-1)]).new 219 [ptr c,.slice (some ⟨H1.size,0,none⟩) cap.toNat cap.toNat,.slice (some ⟨H1.size+1,0,none⟩) 1 1]):=bD;obtain⟨B,e⟩:∃B:PB,B=⟨H1.size+1+1,c,H1.size,H1.size+1⟩:=⟨_,rfl⟩;have M:bT (((H1.new 221 (aR (List.replicate cap.toNat ⟨0,0,0⟩))).new 3 [Value.int .i64 (-1)]).new 219 [ptr c,.slice (some ⟨H1.size,0,none⟩) cap.toNat cap.toNat,.slice (some ⟨H1.size+1,0,none⟩) 1 1]) B C (jD cap) (List.replicate cap.toNat ⟨0,0,0⟩) [-1]:=by
  subst e;refine⟨⟨.slice (some ⟨H1.size+1,0,none⟩) 1 1,?_,?_⟩,q.fresh f,?_,?_,?_,?_⟩
  ·grind [az,ag]
  ·exact(Sl.bJ (size:=1) (n:=1) (xs:=[i64 (-1)]) rfl (by simp only[ag])).ext K (fun _ _ h=>h)
  ·exact A.own (am _ _ _) (fun h=>h)
  ·simp[jD]
  ·grind
  ·grind
 have t:B.n=H1.size+1+1:=by rw[e]
 have hBs:∀z,B.S C z->H1.size<=z\/C z:=fun z d=>by
  rcases d with d|rfl|rfl|rfl
  ·grind
  all_goals rw[e];left;first|omega| (simp only;omega)
 have hBt:B.tb=H1.size:=by rw[e]
 have N:=y.trans f;generalize ((H1.new 221 (aR (List.replicate cap.toNat ⟨0,0,0⟩))).new 3 [Value.int .i64 (-1)]).new 219 [ptr c,.slice (some ⟨H1.size,0,none⟩) cap.toNat cap.toNat,.slice (some ⟨H1.size+1,0,none⟩) 1 1]=P at*;obtain⟨tv0,X,_⟩:=M.own;rw[akl,t]at X;refine bj.intro (fun m env J=>∃j:Nat,m=cap.toNat - j/\j<=cap.toNat/\aj (fun z=>z=B.tb) P J/\bT J B C (jD cap) (List.replicate j jC++List.replicate (cap.toNat - j) ⟨0,0,0⟩) [-1]/\
  env=[(6,ptr (H1.size+1+1)),(26,i64 (cap.toNat:Nat)),(27,i64 j)]) cap.toNat ⟨0,O,O,aj.refl _ _,Z,rfl⟩ ?_
 rintro m env H3 ⟨j,rfl,hj,o,l,rfl⟩;have I:=ii (List.replicate j jC++List.replicate (cap.toNat - j) (⟨0,0,0⟩:Lk));have U:(List.replicate j jC++List.replicate (cap.toNat - j) (⟨0,0,0⟩:Lk)).length=cap.toNat:=by simp;omega
 obtain⟨SU,p,_⟩:=l.own;rw[U]at I p;rw[t]at p;refine vs ?_;refine ai.dec (fun G=>?_) (fun G=>?_)<;>refine vs ?_
 ·refine v1 (ae p) ?_;refine⟨O,?_⟩;refine v3 l.fz ajJ Int.toNat_natCast ?_;refine⟨O,?_⟩;have u:=Ge (L:=List.replicate j jC++List.replicate (cap.toNat - j) (⟨0,0,0⟩:Lk)) (i:=j) O jC;have q4:(List.replicate j jC++List.replicate (cap.toNat - j) (⟨0,0,0⟩:Lk)).set j jC=List.replicate (j+1) jC++List.replicate (cap.toNat - (j+1)) (⟨0,0,0⟩:Lk):=by
   rw[ala _ _ (by simp),akl,alj,show cap.toNat - j=(cap.toNat - (j+1))+1 by omega,akv,alk,ale];simp
  rw[q4]at u;obtain⟨E,F⟩:=l.LV (L':=List.replicate (j+1) jC++List.replicate (cap.toNat - (j+1)) (⟨0,0,0⟩:Lk)) Z;rw[show aS (aR (List.replicate j jC++List.replicate (cap.toNat - j) (⟨0,0,0⟩:Lk))) (j*3) (aK (Value.agg #[Value.int .i64 (-1),Value.int .i64 (-1),Value.int .i64 (-1)]))=_ from u];refine vs ?_;rw[wrap64 (n:=(j:Int)+1) O O];exact⟨cap.toNat - (j+1),O,j+1,rfl,O,o.trans F,E,rfl⟩
 ·obtain rfl:j=cap.toNat:=O;rw[alj,List.replicate_zero,ake]at l;rw[<-t];refine⟨N.then o O,.inr ⟨r,B.n,B.S C,rfl,⟨B,C,_,[-1],fun _=>[],fun _=> -1,rfl,l,⟨⟨⟨rfl,Z,O,Z⟩,
   ⟨O,fun g Q=>absurd (Ad g) Q,fun x D=>absurd D (iU cap x)⟩⟩,⟨fun x=>yn _ _ _,fun x=>trivial,fun c _=>⟨yn _ _ _,DE _ _⟩⟩,rfl⟩,fun z=>Iff.rfl⟩,fun z d=>?_⟩⟩
  grind
theorem yH{S:Nat->Prop}{w:Nw}(h:dF n H S w):aF 299 [ptr n] H fun v J=>ak (
  (w.hs.length=65537/\v=i64 0/\br (dF n) S H J w)\/(w.hs.length≠65537/\v=i64 w.hs.length/\br (dF n) S H J w.make)):=by
 obtain⟨B,C,L,tops,ch,ax,rfl,m,l,x⟩:=id h;obtain⟨tv,o,U⟩:=m.own;refine aT uo ?_;refine v1 (ae o) ?_;refine(iP m.cells).mono ?_;rintro _ X (⟨r,rfl,rfl⟩| ⟨r,rfl,t,p,c,N⟩)
 ·refine vs ?_;exact .inl ⟨r,rfl,br.same h (aj.refl _ _)⟩
 have pV:=m.cells.pos;have hhs:=m.cells.JP;have I:=l.tl;have slt:=m.slt;have Td:=p.slt;obtain⟨G,D,n3⟩:=m.out;obtain⟨A,K,F⟩:=m.ly;have u:=c.own o G;refine vs ?_;refine ai.bY Z ?_;refine v1 (ae u) ?_;have s1:=U.ext c Z;refine LL s1 (-1) O fun w' d b' Q s2 e=>?_;have P:=e.own u K;obtain⟨M,E,f⟩:=Sl.shape s2;subst f;refine v1 P ?_;generalize f:Value.slice M (tops++[-1]).length E=w' at*;have y:aj (fun z=>z=B.n) d (d.wr B.n [ptr B.c,.slice (some ⟨B.tb,0,none⟩) L.length L.length,w']):=(aj.refl (fun z=>z=B.n) _).wr (fun _=>rfl) _;have z1:=c.size;have hn:=slt _ (.inr (.inl rfl));have ht:=slt _ (.inr (.inr (.inl rfl)));have WS:=slt _ (.inr (.inr (.inr rfl)));have Y2:∀z,t z->z≠b'/\(z<H.size->C z):=Z;refine .inr ⟨r,rfl,(PB.mk B.n B.c B.tb b').S t,⟨⟨B.n,B.c,B.tb,b'⟩,t,L,tops++[-1],ch,ax,rfl,⟨⟨w',ah P,s2.ext y Z⟩,?_,?_,m.len,?_,?_⟩,⟨by rw[yi];exact l.t,l.pl,?_⟩,fun z=>Iff.rfl⟩,?_,fun z j=>?_⟩
 ·exact(p.ext e Z).ext y Z
 ·exact y.own (e.own (c.own m.fz D) F) (Ne.symm A)
 ·grind
 ·grind
 ·simp[Nw.make,I]
 ·exact((c.mono fun z _ h=>(x z).2 (.inl h)).trans (e.mono fun z _ h=>(x z).2 (.inr (.inr (.inr h))))).trans (y.mono fun z _ h=>(x z).2 (.inr (.inl h)))
 ·rcases j with j|rfl|rfl|rfl
  ·rcases N z j with q|q
   ·exact .inl ((x z).2 (.inl q))
   omega
  ·exact .inl ((x _).2 (.inr (.inl rfl)))
  ·exact .inl ((x _).2 (.inr (.inr (.inl rfl))))
  ·rcases Q with rfl|h7
   ·exact .inl ((x _).2 (.inr (.inr (.inr rfl))))
   omega
theorem Jt.first{w:Nw}{L:List Lk}{tops:List Int}{ch:Int->List Int}{ax:Int->Int}(l:Jt w L tops ch ax){g x:Int}(h:w.first g x):aQ tops g=x:=by
 obtain⟨z,n,m⟩:=bi.1 h;have:=l.t.tp.first (x:=x) O Z (au w);grind
theorem oJ{S:Nat->Prop}{w:Nw}(h:dF n H S w)(g:Int):aF 301 [ptr n,i64 g] H fun v J=>ak (
  ((w.len g=0/\v= .tuple [i64 0,.bool false].toArray)\/∃x,w.first g x/\v= .tuple [i64 x,.bool true].toArray)/\J=H):=by
 obtain⟨B,C,L,tops,ch,ax,rfl,m,l,q⟩:=h;obtain⟨p,lt,t,r,o,f,u⟩:=m.eh;refine aT wC ?_;refine v1 (ae t) ?_;refine(eW m.cells g).mono ?_;rintro _ _ ⟨rfl,rfl⟩;refine vs ?_;refine ai.dec (fun z=>?_) (fun z=>?_)
 ·refine vs ?_;exact⟨.inl ⟨z,rfl⟩,rfl⟩
 have e:0<g:=aj3 fun e=>z (Nw.E7.2 (.inl O));obtain⟨x,c⟩:=sI e z;have d:=(bi.1 c).2.1;have y:=((m.cells.hm x).2 O).2;rw[d,<-l.tl]at y;have j:=m.cS r (ce (tops:=tops) (h:=g) O y);rw[l.first c]at j;refine v1 (ae t) ?_;refine⟨O,?_⟩;refine v4 (ae r) ajJ ajM j ?_;exact⟨.inr ⟨x,c,rfl⟩,rfl⟩
theorem uM{S:Nat->Prop}{w:Nw}(h:dF n H S w)(g x k s:Int):aF 298 [ptr n,i64 g,i64 x,mE k s] H fun v J=>ak (
  (¬w.kC g x/\v= .bool false/\br (dF n) S H J w)\/(w.kC g x/\v= .bool true/\br (dF n) S H J (w.put x (g,k,s)))):=by
 obtain⟨B,C,L,tops,ch,ax,rfl,m,l,j⟩:=h;have X:∀z,C z->S z:=fun z h=>(j z).2 (.inl h);have t1:S B.tb:=(j _).2 (.inr (.inr (.inl rfl)));have t2:S B.tp:=(j _).2 (.inr (.inr (.inr rfl)));refine uS qS ⟨rfl,?_⟩;refine v1 jo.eq_1 ?_;have K:af H (H.new 190 [i64 k,u64 s]):=bD;have b0:(H.new 190 [i64 k,u64 s]).own H.size=some [i64 k,u64 s]:=am _ _ _;have p:=m.fresh K;generalize H.new 190 [i64 k,u64 s]=H0 at*;have F:aj S H H0:=K.mono fun _ _ h=>h.elim;obtain⟨tv,Hk,_⟩:=p.own;refine v2 (ae Hk) (ae b0) ?_;refine(j2 p.cells g x k s).mono ?_;rintro _ H1 (⟨mT,rfl,q,t⟩| ⟨U,rfl,q,t⟩)
 ·refine vs ?_;exact .inl ⟨mT,rfl,br.same ⟨B,C,L,tops,ch,ax,rfl,p.aD q t rfl,l,j⟩ (F.trans (t.mono Z))⟩
 obtain⟨N,Q,mA⟩:=id U;have c:=p.aD q t (by simp[Nw.put]);have hg:=N.1;have xh:g<tops.length:=by
  have:=(ajK.1 N.2).1;have:=l.tl;omega
 have ke:=fun y=>dW Q (g,k,s) y;have f:PN (aH (w.put x (g,k,s))) (aU (w.put x (g,k,s))) ch ax (aQ tops) g x:=by
  refine l.t.ins rfl (Int.not_lt.1 fun h=>mA (bg.1 h)) O O Z Z (fun a b ha hb wS Ac=>dC Q _ ha hb wS Ac)
 obtain⟨P,lt,e,o,EA,Jm,JS⟩:=c.eh;have q3:=c.cS o (ce (tops:=tops) (h:=g) O xh);refine vs ?_;refine cZ.intro (fun J=>J.own B.n=some [ptr B.c,.slice (some ⟨B.tb,0,none⟩) L.length L.length,.slice (some ⟨B.tp,0,none⟩) tops.length P]) e ?_;refine vs ?_;refine bG.intro (.slice (some ⟨B.tp,0,none⟩) tops.length P) (fun J hI=>by refine v1 (ae hI) ?_;trivial) ?_;refine v1 (ae e) ?_;refine And.intro e ?_;refine vs ?_;refine⟨⟨O,O⟩,?_⟩;refine v4 (ae o) ajJ ajM q3 ?_;refine And.intro e ?_;refine vs ?_;have u:=f.w;rw[show ws [aQ tops g,x]=ws [aQ tops g,x]++[] by simp]at u;refine(cN c u l.pl).mono ?_;rintro _ H3 ⟨r,D,M,Ap,rfl,_,m3,G,p3,d⟩;rw[ake]at G;have bn:=f.done G;obtain⟨d1,E,d3⟩:=c.ly;have no:¬ (C B.n\/B.n=B.tb):=by rintro(h|h);exact c.out.1 h;omega
 refine And.intro (d.own e no) ?_;have I:=d.own o (by cases c;grind);refine vs ?_;refine⟨O,?_⟩;refine v3 I ajJ ajM ?_;refine⟨O,?_⟩;obtain⟨m4,A⟩:=m3.fJ I g.toNat r;refine And.intro (A.own (d.own e no) E) ?_;refine vs ?_;refine .inr ⟨U,rfl,br.same ⟨B,C,D,_,M,Ap,rfl,m4,⟨?_,p3,by rw[ajN];exact l.tl⟩,j⟩ (((F.trans (t.mono fun z _ h=>X z h)).trans (d.mono Z)).trans (A.mono Z))⟩;grind [dN]
theorem yI{S:Nat->Prop}{w:Nw}(h:dF n H S w)(a b:Int):aF 300 [ptr n,i64 a,i64 b] H fun v J=>ak (
  (¬ (w.has a/\w.has b/\a≠b)/\v= .bool false/\br (dF n) S H J w)\/((w.has a/\w.has b/\a≠b)/\v= .bool true/\br (dF n) S H J (w.join a b))):=by
 obtain⟨B,C,L,tops,ch,ax,rfl,m,l,t⟩:=id h;have hC:∀z,C z->S z:=fun z h=>(t z).2 (.inl h);have t1:S B.tb:=(t _).2 (.inr (.inr (.inl rfl)));have t2:S B.tp:=(t _).2 (.inr (.inr (.inr rfl)));obtain⟨tv,o0,_⟩:=m.own;refine uS uq ⟨rfl,?_⟩;refine v2 kQ.eq_1 (ae o0) ?_;refine(iQ m.cells a b).mono ?_;rintro _ H1 (⟨mT,rfl,rfl⟩| ⟨K,rfl,E,o⟩)
 ·refine vs ?_;exact .inl ⟨mT,rfl,br.same h (aj.refl _ _)⟩
 obtain⟨⟨ha,Og⟩,⟨hb,MG⟩,P⟩:=id K;have c:=m.aD E o (by simp[Nw.join]);have A:=lY (w:=w) (a:=a) (b:=b) O;have tt:=l.t;have p:=tt.join (hm':=aH (w.join a b)) rfl P O O A;rw[<-ik w a b]at p tt;have D:a<tops.length:=by
  have:=(ajK.1 Og).1;have:=l.tl;omega
 have M:b<tops.length:=by
  have:=(ajK.1 MG).1;have:=l.tl;omega
 obtain⟨e,lt,N,j,EA,Jm,JS⟩:=c.eh;have qa:=c.cS j (ce (tops:=tops) (h:=a) O D);have I:=c.cS j (ce (tops:=tops) (h:=b) O M);refine vs ?_;refine cZ.intro (fun J=>J.own B.n=some [ptr B.c,.slice (some ⟨B.tb,0,none⟩) L.length L.length,.slice (some ⟨B.tp,0,none⟩) tops.length e]/\∃l,J.own B.tp=some l/\l[b.toNat]? =some (i64 (aQ tops b))) Z ?_;refine vs ?_;refine bG.intro (.slice (some ⟨B.tp,0,none⟩) tops.length e) (fun J x=>by refine v1 (ae x.1) ?_;trivial) ?_;refine vs ?_;refine bG.intro (.slice (some ⟨B.tp,0,none⟩) tops.length e) (fun J x=>by refine v1 (ae x.1) ?_;trivial) ?_;refine vs ?_;refine⟨O,?_⟩;refine vs ?_;refine bG.intro (.slice (some ⟨B.tp,0,none⟩) tops.length e) (fun J x=>by refine v1 (ae x.1) ?_;trivial) ?_;refine vs ?_;refine⟨O,?_⟩;refine vs ?_;refine bG.intro (i64 (aQ tops b)) (fun J x=>by obtain⟨_,l,h1,h2⟩:=x;refine v4 (ae h1) ajJ ajM h2 ?_;trivial) ?_;refine v4 (ae j) ajJ ajM qa ?_;refine And.intro Z ?_;refine vs ?_;rw[show ws [aQ tops a,aQ tops b]=ws [aQ tops a,aQ tops b]++[] by simp]at p;refine(cN c p l.pl).mono ?_;rintro _ q ⟨r,G,X,Ap,rfl,_,m3,u,p3,y⟩;rw[ake]at u;have bn:=tt.Gv rfl P O O A u;obtain⟨d1,d2,d3⟩:=c.ly;have no:¬ (C B.n\/B.n=B.tb):=by rintro(h|h);exact c.out.1 h;omega
 have d:=y.own j (by cases c;grind);refine And.intro ⟨y.own N no,lt,d,I⟩ ?_;refine vs ?_;refine⟨O,?_⟩;refine v3 d ajJ ajM ?_;have ql:=O;refine⟨O,?_⟩;obtain⟨F,f⟩:=m3.fJ d a.toNat r;have o4:=f.own (y.own N no) d2;have q4':(q.wr B.tp (lt.set a.toNat (i64 r))).own B.tp=some (lt.set a.toNat (i64 r)):=ah d;have qb':(lt.set a.toNat (i64 r))[b.toNat]? =some (i64 (aQ tops b)):=by rw[ajT O];exact I
 rw[show aS lt a.toNat (aK (i64 r))=lt.set a.toNat (i64 r)from rfl];generalize q.wr B.tp (lt.set a.toNat (i64 r))=H4 at*;refine And.intro Z ?_;refine vs ?_;obtain⟨cc5,lt5,Q,U,U3,Af,PW⟩:=F.eh;rw[ajN]at Q U3;refine v1 (ae Q) ?_;refine⟨O,?_⟩;refine v3 U ajJ ajM ?_;refine⟨O,?_⟩;obtain⟨m6,e6⟩:=F.fJ U b.toNat (-1);refine vs ?_;refine .inr ⟨K,rfl,br.same ⟨B,C,G,_,X,Ap,rfl,m6,⟨?_,p3,by rw[ajN,ajN,l.tl];simp[Nw.join]⟩,t⟩ ?_⟩
 ·grind [dN]
 ·exact(((o.mono fun z _ h=>hC z h).trans (y.mono Z)).trans (f.mono Z)).trans (e6.mono Z)
end
end Go.Proofs.YtjkkkibiegfecaaGreatDoor
