/- Texts put behind each other. -/
import Derived.Test.YtnanofhkpglbaaaGreatDoorK98
import Derived.Test.YtnanofhkpglbaaaGreatDoorProg
set_option linter.unusedSimpArgs false
set_option linter.unusedVariables false
set_option maxRecDepth 100000
set_option maxHeartbeats 80000000
namespace Go.Proofs.YtnanofhkpglbaaaGreatDoor
structure bA(lt:Int->Int->Bool):Prop where
 Ih:∀a,lt a a=false
 tr:∀a b c,lt a b=true->lt b c=true->lt a c=true
 nt:∀a b c,lt a b=false->lt b c=false->lt a c=false
 VQ:∀a b,a≠b->lt a b=true\/lt b a=true
theorem bA.vk{lt:Int->Int->Bool}(h:bA lt){a b:Int}(w:lt a b=true):lt b a=false:=by
 cases h;grind
section
variable{p x r:Int}{c:Bool}{n:Nat}
theorem oH{α:Type}{p q:α->Bool}:∀ {l:List α},(∀i,p i=true->q i=true)->∀ {x:α},x∈l->p x=false->q x=true->l.countP p<l.countP q:=by
 intro l v x w m e;induction l with
 |nil=>cases w
 |cons a l t=>
  rw[List.countP_cons,List.countP_cons];have n:l.countP p<=l.countP q:=List.countP_mono_left Z;grind
section
variable {hm : Int → Int} {lt : Int → Int → Bool} {K : Int → Bool → Int} {U : Int → Int}
def eK(K:Int->Bool->Int)(p:Int)(c:Bool)(v:Int):Int->Bool->Int:=fun y d=>if y=p/\d=c then v else K y d
def aM(U:Int->Int)(x v:Int):Int->Int:=fun y=>if y=x then v else U y
def lj(K:Int->Bool->Int)(p:Int):Int->Bool->Int:=fun y d=>if y=p then K y (!d)else K y d
def q9(K:Int->Bool->Int)(p x:Int)(c:Bool):=eK K p c x
def iy(K:Int->Bool->Int)(U:Int->Int)(x:Int):Int->Bool->Int:=if U x= -1 then K else eK K (U x) (K (U x) true==x) (-1)
def df(U:Int->Int)(x:Int):Int->Int:=aM U x (-1)
structure Bt(hm:Int->Int)(lt:Int->Int->Bool)(K:Int->Bool->Int)(U:Int->Int):Prop where
 h0:hm (-1)=0
 ku:∀p c x,K p c=x->x≠ -1->U x=p/\p≠ -1
 uk:∀x p,U x=p->p≠ -1->(∃c,K p c=x)/\x≠ -1/\hm p=hm x/\0<hm x/\lt p x=true
 two:∀p,K p false=K p true->K p false= -1
theorem Bt.home(h:Bt hm lt K U)(w:K p c≠ -1):U (K p c)=p/\p≠ -1/\hm (K p c)=hm p/\0<hm p/\lt p (K p c)=true:=by
 cases h;grind
theorem Bt.kids(h:Bt hm lt K U)(m:x≠ -1){d:Bool}(w:K p c=x)(n:K p d=x):c=d:=by
 cases c<;>cases d
 ·rfl
 ·cases h;grind
 ·cases h;grind
 ·rfl
theorem Bt.side(h:Bt hm lt K U)(n:U x=p)(w:p≠ -1):K p (K p true==x)=x:=by
 obtain⟨⟨c,m⟩,e,_⟩:=h.uk x p n w;cases c
 ·by_cases v:K p true=x
  ·grind
  grind
 grind
theorem iz(h:Bt hm lt K U)(x:Int)(v:x≠ -1)(p:Int)(c:Bool):iy K U x p c=if K p c=x then -1 else K p c:=by
 unfold iy;by_cases m:U x= -1
 ·cases h;grind
 ·rw[if_neg m];unfold eK;by_cases w:K p c=x
  ·obtain⟨n,t⟩:=h.ku p c x w v;have e:p=U x/\c=(K (U x) true==x):=⟨n.symm,by rw[n];exact h.kids v w (h.side n t)⟩;grind
  ·rw[if_neg w,if_neg];rintro⟨rfl,rfl⟩;exact w (h.side rfl m)
theorem Bt.cut(h:Bt hm lt K U)(x:Int)(w:x≠ -1):Bt hm lt (iy K U x) (df U x):=by
 refine⟨h.h0,fun p c y m d=>?_,fun y p v j=>?_,fun p e=>?_⟩
 ·rw[iz h x w]at m;split at m
  ·omega
  ·rename_i t;obtain⟨o,n⟩:=h.ku p c y m d;refine⟨?_,n⟩;unfold df aM;omega
 ·unfold df aM at v;split at v
  ·omega
  ·rename_i t;obtain⟨⟨c,f⟩,n⟩:=h.uk y p v j;exact⟨⟨c,by grind [iz]⟩,n⟩
 ·rw[iz h x w,iz h x w]at e;rw[iz h x w];cases h;grind
theorem Bt.W4(h:Bt hm lt K U)(L:p≠ -1)(u:x≠ -1)(P:K p c= -1)(C:U x= -1)(j:hm p=hm x)(n:0<hm x)(o:lt p x=true):Bt hm lt (q9 K p x c) (aM U x p):=by
 refine⟨h.h0,fun q d y w F=>?_,fun y q w f=>?_,fun q t=>?_⟩
 ·unfold q9 eK at w;cases h;grind [aM]
 ·unfold aM at w;split at w
  ·rename_i m;subst m;subst w;exact⟨⟨c,by unfold q9 eK;grind⟩,u,j,n,o⟩
  ·obtain⟨⟨d,H⟩,v,e⟩:=h.uk y q w f;refine⟨⟨d,?_⟩,v,e⟩;unfold q9 eK;grind
 ·unfold q9 eK at t ⊢;cases h;grind
theorem Bt.tH(h:Bt hm lt K U)(p:Int):Bt hm lt (lj K p) U:=by
 refine⟨h.h0,fun q d y w j=>?_,fun y q w m=>?_,fun q t=>?_⟩
 ·cases h;grind [lj]
 ·obtain⟨⟨d,v⟩,n⟩:=h.uk y q w m;refine⟨?_,n⟩;by_cases e:q=p
  ·exact⟨!d,by grind [lj]⟩
  ·exact⟨d,by grind [lj]⟩
 cases h;grind [lj]
structure Mg(hm:Int->Int)(lt:Int->Int->Bool)(h:Int)(R:Int->Prop)(K:Int->Bool->Int)(U:Int->Int)(ti:List Int)(a b:Int):Prop where
 bt:Bt hm lt K U
 wa:a= -1\/(hm a=h/\U a= -1)
 wb:b= -1\/(hm b=h/\U b= -1)
 ab:a=b->a= -1
 wy:∀v∈ti,v≠ -1/\hm v=h/\U v= -1/\K v true= -1/\(a≠ -1->lt v a=true)/\(b≠ -1->lt v b=true)
 VR:ti.Pairwise fun x y=>lt x y=true
 wY:∀x,0<hm x->(U x= -1↔x∈ti\/x=a\/x=b\/R x)
 pos:0<h
 nr:∀x,R x->0<hm x/\x∉ti/\x≠a/\x≠b
theorem Mg.start{h a b:Int}(w:Bt hm lt K U)(m:0<h)(v:a= -1\/(hm a=h/\U a= -1))(e:b= -1\/(hm b=h/\U b= -1))(n:a=b->a= -1):Mg hm lt h (fun x=>0<hm x/\U x= -1/\x≠a/\x≠b) K U [] a b:=
 ⟨w,v,e,n,by simp,by simp,fun x t=>by
  cases w;grind,m,Z⟩
variable {h : Int} {R : Int → Prop} {ti : List Int} {a b : Int}
theorem Mg.swap(m:Mg hm lt h R K U ti a b):Mg hm lt h R K U ti b a:=
 ⟨m.bt,m.wb,m.wa,fun e=>by rw[e];exact m.ab e.symm,fun v n=>by cases m;grind,m.VR,fun x w=>by cases m;grind,m.pos,fun x w=>by cases m;grind⟩
theorem mQ{α:Type}{r:α->α->Prop}{l:List α}{x:α}:(l++[x]).Pairwise r↔l.Pairwise r/\∀y∈l,r y x:=by
 grind
theorem Mg.down(Q:bA lt)(m:Mg hm lt h R K U ti a b)(d:a≠ -1)(F:b≠ -1)(N:lt a b=true):
  Mg hm lt h R (if K a true= -1 then K else iy K U (K a true)) (if K a true= -1 then U else df U (K a true)) (ti++[a]) (K a true) b:=by
 obtain⟨a1,a2⟩:=m.wa.resolve_left d;obtain⟨H,I⟩:=m.wb.resolve_left F;by_cases t:K a true= -1
 ·rw[if_pos t,if_pos t,t];refine⟨m.bt,.inl rfl,m.wb,fun e=>rfl,fun v w=>?_,mQ.2 ⟨m.VR,fun v w=>(m.wy v w).2.2.2.2.1 d⟩,fun x j=>?_,m.pos,fun x j=>?_⟩
  ·cases m;grind
  ·rw[m.wY x j,alu,alv];constructor
   ·grind
   ·rintro((n|n)|n|n|n)
    ·grind
    ·omega
    ·rw[n,m.bt.h0]at j;omega
    ·omega
    grind
  ·obtain⟨n,o,P,f⟩:=m.nr x j;refine⟨n,?_,fun e=>by rw[e,m.bt.h0]at n;omega,f⟩;grind
 ·rw[if_neg t,if_neg t];obtain⟨V,G,D,M,u⟩:=m.bt.home t;have kb:K a true≠b:=Z;have X:∀v∈ti,v≠K a true:=fun v w e=>by
   cases m;grind
  have E:a≠K a true:=Z;refine⟨m.bt.cut _ t,.inr ⟨O,by unfold df aM;omega⟩,.inr ⟨H,?_⟩,O,fun v w=>?_,mQ.2 ⟨m.VR,fun v w=>(m.wy v w).2.2.2.2.1 d⟩,fun x j=>?_,m.pos,fun x j=>?_⟩
  ·unfold df aM;omega
  ·rcases alu.1 w with w|w
   ·obtain⟨n,o,P,f,L,C⟩:=m.wy v w;refine⟨n,o,?_,?_,fun _=>Q.tr _ _ _ (L d) u,C⟩
    ·unfold df aM;omega
    cases m;grind [iz]
   ·rw[alv]at w;subst w;refine⟨d,a1,?_,?_,fun _=>u,fun _=>N⟩
    ·unfold df aM;omega
    ·rw[iz m.bt _ t,if_pos rfl]
  ·rw[alu,alv];unfold df aM;cases m;grind
  cases m;grind
theorem Mg.back{v:Int}(m:Mg hm lt h R K U (ti++[v]) r (-1))(L:bA lt):
  Mg hm lt h R (if r= -1 then K else q9 K v r true) (if r= -1 then U else aM U r v) ti v (-1):=by
 obtain⟨v1,v2,v3,v4,v5,v6⟩:=m.wy v (by simp);obtain⟨s1,P⟩:=mQ.1 m.VR;have V:∀u∈ti,u≠v:=fun u n e=>by
  have:=P u n;rw[e,L.Ih]at this;cases this
 have C:∀x,R x->0<hm x/\x∉ti/\x≠v/\x≠ -1:=fun x t=>by
  obtain⟨w,d,f,o⟩:=m.nr x t;rw[alu,alv,not_or]at d;exact⟨w,d.1,d.2,o⟩
 by_cases j:r= -1
 ·rw[if_pos j,if_pos j];refine⟨m.bt,.inr ⟨v2,v3⟩,.inl rfl,fun e=>e,fun u n=>?_,s1,fun x t=>?_,m.pos,fun x t=>C x t⟩
  ·obtain⟨w,d,f,o,Q,I⟩:=m.wy u (by simp[n]);exact⟨w,d,f,o,fun _=>P u n,fun h=>absurd rfl h⟩
  ·rw[m.wY x t,alu,alv];constructor
   ·rintro((w|w)|w|w|w)
    ·exact .inl w
    ·exact .inr (.inl w)
    ·rw[w,j,m.bt.h0]at t;omega
    ·exact .inr (.inr (.inl w))
    ·exact .inr (.inr (.inr w))
   ·rintro(w|w|w|w)
    ·exact .inl (.inl w)
    ·exact .inl (.inr w)
    ·exact .inr (.inr (.inl w))
    ·exact .inr (.inr (.inr w))
 ·rw[if_neg j,if_neg j];obtain⟨F,G⟩:=m.wa.resolve_left j;have H:∀u∈ti++[v],u≠r:=fun u n e=>by
   have:=(m.wy u n).2.2.2.2.1 j;rw[e,L.Ih]at this;cases this
  have rv:=H v (by simp);refine⟨m.bt.W4 v1 j v4 G (by rw[v2,F]) (by rw[F];exact m.pos) (v5 j),.inr ⟨v2,?_⟩,.inl rfl,fun e=>e,fun u n=>?_,s1,fun x t=>?_,m.pos,fun x t=>C x t⟩
  ·unfold aM;rw[if_neg rv];exact v3
  ·obtain⟨w,d,f,o,Q,I⟩:=m.wy u (by simp[n]);refine⟨w,d,?_,?_,fun _=>P u n,fun h=>absurd rfl h⟩
   ·unfold aM;rw[if_neg (H u (by simp[n]))];exact f
   ·unfold q9 eK;rw[if_neg (fun e=>V u n e.1)];exact o
  ·unfold aM;by_cases e:x=r
   ·rw[if_pos e];constructor
    ·intro N;exact absurd N v1
    ·rintro(w|w|w|w)
     ·exact absurd e (H x (by simp[w]))
     ·exact absurd (w.symm.trans e) rv
     ·rw[w,m.bt.h0]at t;omega
     ·exact absurd e (m.nr x w).2.2.1
   ·rw[if_neg e,m.wY x t,alu,alv];constructor
    ·rintro((w|w)|w|w|w)
     ·exact .inl w
     ·exact .inr (.inl w)
     ·exact absurd w e
     ·exact .inr (.inr (.inl w))
     ·exact .inr (.inr (.inr w))
    ·rintro(w|w|w|w)
     ·exact .inl (.inl w)
     ·exact .inl (.inr w)
     ·exact .inr (.inr (.inl w))
     ·exact .inr (.inr (.inr w))
theorem Mg.tH(m:Mg hm lt h R K U ti r (-1))(t:bA lt):Mg hm lt h R (lj K r) U ti r (-1):=by
 by_cases n:r= -1
 ·have e:lj K r=K:=by
   funext y d;unfold lj;split
   ·rename_i e;subst e;subst n;have j:∀c,K (-1) c= -1:=fun c=>by
     by_cases w:K (-1) c= -1
     ·exact w
     ·exact absurd rfl (m.bt.home w).2.1
    grind
   ·rfl
  grind
 refine⟨m.bt.tH r,m.wa,m.wb,m.ab,fun v o=>?_,m.VR,m.wY,m.pos,m.nr⟩;cases m;cases t;grind [lj]
structure tj(hm:Int->Int)(lt:Int->Int->Bool)(K:Int->Bool->Int)(U:Int->Int)(T:Int->Int):Prop where
 bt:Bt hm lt K U
 t1:∀h,T h≠ -1->hm (T h)=h/\0<h/\U (T h)= -1
 t2:∀x,0<hm x->U x= -1->T (hm x)=x
def cR(T:Int->Int)(h x:Int):Int->Int:=fun y=>if y=h then x else T y
theorem Mg.done{T:Int->Int}(m:Mg hm lt h R K U [] r (-1))(o:∀g,g≠h->T g≠ -1->hm (T g)=g/\0<g/\R (T g))(t:∀x,R x->hm x≠h/\T (hm x)=x):tj hm lt K U (cR T h r):=by
 refine⟨m.bt,fun g j=>?_,fun x n v=>?_⟩
 ·cases m;grind [cR]
 ·unfold cR;rcases(m.wY x n).1 v with w|w|w|w
  ·grind
  ·subst w;have d:x≠ -1:=fun e=>by rw[e,m.bt.h0]at n;omega
   cases m;grind
  ·rw[w,m.bt.h0]at n;omega
  grind
theorem tj.first{T:Int->Int}(t:tj hm lt K U T)(m:0<hm x)(j:∀y,hm y=hm x->y≠x->lt x y=true)(n:bA lt):T (hm x)=x:=by
 refine t.t2 x m ?_;apply alt;intro d;obtain⟨_,o,v,f,w⟩:=t.bt.uk x _ rfl d;by_cases e:U x=x
 ·rw[e,n.Ih]at w;cases w
 ·have:=n.vk (j _ v e);grind
theorem tj.least{T:Int->Int}(t:tj hm lt K U T)(m:bA lt)(o:∀y,0<hm y->0<=y/\y<n){h:Int}(L:T h≠ -1){y:Int}(d:hm y=h)(v:y≠T h):lt (T h) y=true:=by
 obtain⟨F,N,Q⟩:=t.t1 h L;have key:∀k:Nat,∀y:Int,hm y=h->y≠T h->((List.range n).filter fun(i:Nat)=>lt i y).length<=k->lt (T h) y=true:=by
  intro k;induction k with
  |zero=>
   intro y d v P;by_cases j:U y= -1
   ·cases t;grind
   ·obtain⟨_,_,f,u,w⟩:=t.bt.uk y _ rfl j;have H:=o (U y) O;have:(U y).toNat∈(List.range n).filter fun(i:Nat)=>lt i y:=Z;grind
  |succ k C=>
   intro y d v P;by_cases j:U y= -1
   ·cases t;grind
   ·obtain⟨_,_,f,u,w⟩:=t.bt.uk y _ rfl j;by_cases e:U y=T h
    ·grind
    ·have H:=o (U y) O;refine m.tr _ _ _ (C (U y) O e ?_) w;have I:((List.range n).filter fun(i:Nat)=>lt i (U y)).length< ((List.range n).filter fun(i:Nat)=>lt i y).length:=by
      rw[<-List.countP_eq_length_filter,<-List.countP_eq_length_filter];have:∀l:List Nat,(∀i∈l,lt i (U y)=true->lt i y=true):=fun l i _ h=>m.tr _ _ _ h w;refine oH (fun i hi=>m.tr _ _ _ hi w) (x:=(U y).toNat) Z ?_ ?_
      ·cases m;grind
      ·grind
     omega
 exact key _ y d v (alj _)
theorem Bt.up0(h:Bt hm lt K U):U (-1)= -1:=alt fun w=>(h.uk (-1) _ rfl w).2.1 rfl
theorem wZ(h:Bt hm lt K U):iy K U (-1)=K/\df U (-1)=U:=by
 have w:=h.up0;refine⟨by unfold iy;grind,?_⟩;funext z;unfold df aM;grind
theorem Mg.Ox{h:Int}{R:Int->Prop}{ti:List Int}{a b:Int}(e:bA lt)(m:Mg hm lt h R K U ti a b)(w:a≠ -1)(n:b≠ -1)(v:lt a b=true):
  Mg hm lt h R (iy K U (K a true)) (df U (K a true)) (ti++[a]) (K a true) b:=by
 have:=m.down e w n v;cases m;grind [wZ]
theorem MG:∀ (n:Nat) (l:List Nat),l.Nodup->(∀x∈l,x<n)->l.length<=n:=by
 intro n;induction n with
 |zero=>
  intro l _ w;cases l with
  |nil=>grind
  |cons a l=>exact absurd (w a (by simp)) O
 |succ n j=>
  intro l v w;have m:=j (l.erase n) (v.erase n) fun x t=>by
   obtain⟨d,e⟩:=(List.Nodup.mem_erase_iff v).1 t;have:=w x e;omega
  rw[List.length_erase]at m;split at m<;>omega
theorem ck{l:List Int}(d:l.Nodup)(w:∀x∈l,0<=x/\x<n):l.length<=n:=by
 have m:(l.map Int.toNat).Nodup:=by
  rw[List.nodup_iff_pairwise_ne]at*;rw[List.pairwise_map];refine List.Pairwise.imp_of_mem (fun{a b} t j o e=>o ?_) d;have:=w a t;have:=w b j;omega
 have v:=MG n _ m fun x f=>by
  obtain⟨y,u,rfl⟩:=alQ.1 f;have:=w y u;omega
 rwa[alA]at v
theorem Mg.nodup{h:Int}{R:Int->Prop}{ti:List Int}{a b:Int}(n:bA lt)(m:Mg hm lt h R K U ti a b):ti.Nodup:=by
 rw[List.nodup_iff_pairwise_ne];exact m.VR.imp fun{x y} w e=>by rw[e,n.Ih]at w;cases w
def Ko(lt:Int->Int->Bool)(n:Nat)(x:Int):Nat:=(List.range n).countP fun(i:Nat)=>lt i x
theorem B7(w:bA lt)(v:0<=p/\p<n)(m:lt p x=true):Ko lt n p<Ko lt n x:=by
 unfold Ko;refine oH (fun i hi=>w.tr _ _ _ hi m) (x:=p.toNat) Z ?_ ?_
 ·cases w;grind
 grind
end
end
section
variable {hm hm' : Int → Int} {lt lt' : Int → Int → Bool} {K K0 : Int → Bool → Int} {U U0 : Int → Int}
theorem Bt.other(b:Bt hm lt K U)(w:hm' (-1)=0)(h:∀x p,U x=p->p≠ -1->hm p=hm x->0<hm x->lt p x=true->hm' p=hm' x/\0<hm' x/\lt' p x=true):Bt hm' lt' K U:=
 ⟨w,b.ku,fun x p m n=>by
  cases b;grind,b.two⟩
theorem Bt.alone(b:Bt hm lt K U){x:Int}(w:hm x<=0)(n:x≠ -1):U x= -1/\∀y,U y≠x:=by
 cases b;grind
theorem Bt.QQ(h:Bt hm lt K U)(x:Int):Bt hm lt (iy K U x) (df U x):=by
 by_cases w:x= -1
 ·subst w;obtain⟨n,m⟩:=wZ h;grind
 ·exact h.cut x w
theorem nw(h:Bt hm lt K U)(x p:Int)(c:Bool):iy K U x p c=if x≠ -1/\K p c=x then -1 else K p c:=by
 by_cases w:x= -1
 ·subst w;rw[(wZ h).1,if_neg (by simp)]
 ·rw[iz h x w];omega
theorem Bt.bare(h:Bt hm lt K U)(x:Int):
  Bt hm lt (iy (iy K U (K x false)) (df U (K x false)) (K x true)) (df (df U (K x false)) (K x true))/\
  (∀c,iy (iy K U (K x false)) (df U (K x false)) (K x true) x c= -1)/\
  (∀p c,p≠x->iy (iy K U (K x false)) (df U (K x false)) (K x true) p c=K p c)/\
  (∀y,df (df U (K x false)) (K x true) y=if y=K x false\/y=K x true then -1 else U y):=by
 have w:=h.QQ (K x false);refine⟨w.QQ _,fun c=>?_,fun p c t=>?_,fun y=>?_⟩
 ·rw[nw w,nw h];cases c
  ·omega
  omega
 ·have key:∀d,K x d≠ -1->K p c≠K x d:=fun d n e=>by
   have m:=(h.home (p:=x) (c:=d) n).1;have v:=(h.home (p:=p) (c:=c) O).1;grind
  grind [nw]
 ·unfold df aM;grind
structure oE(lt:Int->Int->Bool)(K0:Int->Bool->Int)(U0:Int->Int)(x0:Int)(K:Int->Bool->Int)(U:Int->Int)(ti:List Int)(a b:Int):Prop where
 wv:∀v∈ti,lt x0 v=true
 wa:a≠ -1->lt x0 a=true
 wb:b≠ -1->lt x0 b=true
 fr:∀y,lt x0 y=false->K y=K0 y/\U y=U0 y
variable {x0 a b : Int} {ti : List Int}
theorem oE.start(w:a≠ -1->lt x0 a=true)(n:b≠ -1->lt x0 b=true):oE lt K0 U0 x0 K0 U0 [] a b:=⟨by simp,w,n,Z⟩
theorem oE.swap(m:oE lt K0 U0 x0 K U ti a b):oE lt K0 U0 x0 K U ti b a:=⟨m.wv,m.wb,m.wa,m.fr⟩
theorem oE.down(j:bA lt)(w:Bt hm lt K U)(m:oE lt K0 U0 x0 K U ti a b)(f:a≠ -1):oE lt K0 U0 x0 (iy K U (K a true)) (df U (K a true)) (ti++[a]) (K a true) b:=by
 have t:=m.wa f;refine⟨fun v C=>?_,fun u=>j.tr _ _ _ t (w.home u).2.2.2.2,m.wb,fun y H=>?_⟩
 ·cases m;grind
 ·obtain⟨d,o⟩:=m.fr y H;rw[<-d,<-o];constructor
  ·funext c;rw[nw w,if_neg];rintro⟨n,P⟩;have:=(w.home (p:=a) (c:=true) n).1;have L:=(w.home (p:=y) (c:=c) O).1;grind
  ·unfold df aM;split
   ·rename_i e;by_cases n:K a true= -1
    ·rw[e,n,w.up0]
    ·have:=j.tr _ _ _ t (w.home n).2.2.2.2;grind
   ·rfl
theorem oE.back(m:oE lt K0 U0 x0 K U (ti++[b]) a (-1)):oE lt K0 U0 x0 (if a= -1 then K else q9 K b a true) (if a= -1 then U else aM U a b) ti b (-1):=by
 have e:=m.wv b (by simp);refine⟨fun v t=>m.wv v (by simp[t]),fun _=>e,O,fun y j=>?_⟩;obtain⟨n,d⟩:=m.fr y j;by_cases w:a= -1
 ·grind
 ·rw[if_neg w,if_neg w];have o:=m.wa w;constructor
  ·rw[<-n];funext c;unfold q9 eK;grind
  grind [aM]
theorem oE.tH(m:oE lt K0 U0 x0 K U ti a (-1))(w:a≠ -1):oE lt K0 U0 x0 (lj K a) U ti a (-1):=by
 refine⟨m.wv,m.wa,m.wb,fun y n=>?_⟩;cases m;grind [lj]
structure QR(hm:Int->Int)(lt:Int->Int->Bool)(K:Int->Bool->Int)(U:Int->Int)(T:Int->Int)(g x:Int):Prop where
 bt:Bt hm lt K U
 t1:∀h,T h≠ -1->hm (T h)=h/\0<h/\U (T h)= -1
 t2:∀y,0<hm y->U y= -1->y≠x->T (hm y)=y
 ox:hm x=g/\U x= -1
 nx:T g≠x
 g0:0<g
variable {T : Int → Int} {g x : Int}
theorem QR.mg(o:QR hm lt K U T g x):Mg hm lt g (fun y=>0<hm y/\U y= -1/\y≠T g/\y≠x) K U [] (T g) x:=
 Mg.start o.bt o.g0 (by
  cases o;grind) (.inr o.ox) (fun e=>absurd e o.nx)
theorem QR.done{K':Int->Bool->Int}{U':Int->Int}{r:Int}(o:QR hm lt K U T g x)(m:Mg hm lt g (fun y=>0<hm y/\U y= -1/\y≠T g/\y≠x) K' U' [] r (-1)):tj hm lt K' U' (cR T g r):=
 m.done (fun h n w=>by
  cases o;grind) (fun y v=>by
  cases o;grind)
theorem tj.ins(t:tj hm lt K U T)(u:hm' (-1)=0)(F:hm x<=0)(N:x≠ -1)(L:0<g)(o:hm' x=g)(w:∀y,y≠x->hm' y=hm y)(f:∀a b,0<hm a->0<hm b->a≠x->b≠x->lt' a b=lt a b):QR hm' lt' K U T g x:=by
 obtain⟨a1,a2⟩:=t.bt.alone F N;have Q:∀h,T h≠x:=fun h e=>by
  cases t;grind
 refine⟨t.bt.other u fun y p m V H n P=>?_,fun h I=>?_,fun y v m C=>?_,⟨o,a1⟩,Q g,L⟩
 ·have j:p≠x:=fun e=>a2 y O;have d:y≠x:=fun e=>by rw[e]at n;omega
  rw[w _ j,w _ d,f _ _ O n j d];exact⟨H,n,P⟩
 ·cases t;grind
 ·rw[w _ C]at v ⊢;exact t.t2 y v m
theorem tj.low(t:tj hm lt K U T)(j:0<hm x)(w:U x≠ -1)(u:∀a b,0<hm a->0<hm b->a≠x->b≠x->lt' a b=lt a b)(H:∀b,0<hm b->b≠x->lt x b=true->lt' x b=true)(I:bA lt):QR hm lt' (iy K U x) (df U x) T (hm x) x:=by
 have C:x≠ -1:=fun e=>by rw[e,t.bt.h0]at j;omega
 have f:=t.bt.cut x C;have v:∀y,df U x y=if y=x then -1 else U y:=fun y=>rfl
 refine⟨f.other t.bt.h0 fun y p w Q P n m=>⟨P,n,?_⟩,fun h N=>?_,fun y F w L=>?_,⟨rfl,by rw[v,if_pos rfl]⟩,fun e=>?_,j⟩
 ·have o:y≠x:=fun e=>by rw[v,if_pos e]at w;omega
  by_cases d:p=x
  ·rw[d]at m ⊢;exact H y n o m
  ·rw[u _ _ O n d o];exact m
 ·cases t;grind
 ·rw[v,if_neg L]at w;exact t.t2 y F w
 ·have:=(t.t1 (hm x) O).2.2;rw[e]at this;omega
theorem tj.QS(t:tj hm lt K U T)(H:0<hm x)(f:U x= -1)(j:∀a b,0<hm a->0<hm b->a≠x->b≠x->lt' a b=lt a b)(d:∀b,0<hm b->b≠x->lt x b=true->lt' x b=true)(L:bA lt):tj hm lt' K U T:=by
 have C:x≠ -1:=fun e=>by rw[e,t.bt.h0]at H;omega
 refine⟨t.bt.other t.bt.h0 fun y p u P o w n=>⟨o,w,?_⟩,t.t1,t.t2⟩;have v:y≠x:=fun e=>by rw[e,f]at u;omega
 by_cases m:p=x
 ·rw[m]at n ⊢;exact d y w v n
 ·rw[j _ _ O w m v];exact n
theorem Bt.drop(b:Bt hm lt K U)(F:U x= -1)(L:∀y,U y≠x)(j:hm' (-1)=0)(v:hm' x=0)(t:∀y,y≠x->hm' y=hm y)(o:∀a b,0<hm a->0<hm b->a≠x->b≠x->lt' a b=lt a b)
  (N:∀h,T h≠ -1->hm (T h)=h/\0<h/\U (T h)= -1/\T h≠x)(d:∀y,0<hm y->U y= -1->y≠x->T (hm y)=y):tj hm' lt' K U T:=by
 refine⟨b.other j fun y p m C f u H=>?_,fun h P=>?_,fun y w m=>?_⟩
 ·grind
 ·grind
 ·have n:y≠x:=fun e=>by rw[e,v]at w;omega
  rw[t _ n]at w ⊢;exact d y w m n
structure w7(hm:Int->Int)(lt:Int->Int->Bool)(K:Int->Bool->Int)(U:Int->Int)(T:Int->Int)(x:Int)(K2:Int->Bool->Int)(U2:Int->Int)(r:Int):Prop where
 bt:Bt hm lt K2 U2
 kx:∀c,K2 x c= -1
 kp:∀p c,U x=p->p≠ -1->K2 p c=K p c
 ux:U2 x=U x
 rx:r≠ -1->hm r=hm x/\U2 r= -1/\r≠x/\lt x r=true
 wY:∀y,0<hm y->(U2 y= -1↔y=r\/U y= -1)
theorem tj.SC(t:tj hm lt K U T)(w:bA lt)(I:0<hm x){v K2:Int->Bool->Int}{n U2:Int->Int}{r:Int}
  (d:v=iy (iy K U (K x false)) (df U (K x false)) (K x true))(o:n=df (df U (K x false)) (K x true))
  (m:Mg hm lt (hm x) (fun y=>0<hm y/\n y= -1/\y≠K x false/\y≠K x true) K2 U2 [] r (-1))(f:oE lt v n x K2 U2 [] r (-1)):w7 hm lt K U T x K2 U2 r:=by
 obtain⟨u,H,P,L⟩:=t.bt.bare x;rw[<-d,<-o]at u;rw[<-d]at H P;rw[<-o]at L;have ED:x≠ -1:=fun e=>by rw[e,t.bt.h0]at I;omega
 have kne:∀c,K x c≠x:=fun c e=>by
  have:=(t.bt.home (p:=x) (c:=c) O).2.2.2.2;rw[e,w.Ih]at this;grind
 obtain⟨C,V⟩:=f.fr x (w.Ih x);refine⟨m.bt,fun c=>by rw[C];grind,fun p c N Q=>?_,?_,fun E=>?_,fun y j=>?_⟩
 ·have F:=(t.bt.uk x p N Q).2.2.2.2;obtain⟨G,D⟩:=f.fr p (w.vk F);cases w;grind
 ·grind
 ·cases m;cases f;grind
 ·rw[m.wY y j];have hy1:y≠ -1:=fun e=>by rw[e,t.bt.h0]at j;omega
  have M:U y= -1->y≠K x false/\y≠K x true:=fun X=>by
   refine⟨fun e=>?_,fun e=>?_⟩
   ·have:=(t.bt.home (p:=x) (c:=false) O).1;grind
   ·have:=(t.bt.home (p:=x) (c:=true) O).1;grind
  grind
variable {K2 : Int → Bool → Int} {U2 : Int → Int} {r : Int}
theorem w7.none(d:w7 hm lt K U T x K2 U2 r)(n:x≠ -1)(y:Int):U2 y≠x:=fun e=>by
 obtain⟨⟨c,w⟩,m,_⟩:=d.bt.uk y x e n;rw[d.kx c]at w;omega
theorem w7.y7(d:w7 hm lt K U T x K2 U2 r)(t:tj hm lt K U T)(n:0<hm x)(w:U x= -1)(o:hm' (-1)=0)(m:hm' x=0)(v:∀y,y≠x->hm' y=hm y)(j:∀a b,0<hm a->0<hm b->a≠x->b≠x->lt' a b=lt a b):
  tj hm' lt' K2 U2 (cR T (hm x) r):=by
 have f:x≠ -1:=fun e=>by rw[e,t.bt.h0]at n;omega
 have C:=t.t2 x n w;refine d.bt.drop (by rw[d.ux,w]) (d.none f) o m v j (fun h u=>?_) (fun y P L H=>?_)
 ·cases d;cases t;grind [cR]
 cases d;cases t;grind [cR]
theorem w7.cut(d:w7 hm lt K U T x K2 U2 r)(t:tj hm lt K U T)(o:bA lt)(f:0<hm x)(w:U x≠ -1):
  (r= -1->Bt hm lt (iy K2 U2 x) (df U2 x))/\
  (r≠ -1->iy K2 U2 x (U x) (K (U x) true==x)= -1/\df U2 x r= -1/\U x≠r/\Bt hm lt (q9 (iy K2 U2 x) (U x) r (K (U x) true==x)) (aM (df U2 x) r (U x))):=by
 have u:x≠ -1:=fun e=>by rw[e,t.bt.h0]at f;omega
 have b:=d.bt.cut x u;obtain⟨_,_,P,Q,L⟩:=t.bt.uk x _ rfl w;refine⟨fun _=>b,fun j=>?_⟩;obtain⟨H,C,F,N⟩:=d.rx j;have m:iy K2 U2 x (U x) (K (U x) true==x)= -1:=by
  rw[iz d.bt x u,if_pos];rw[d.kp _ _ rfl w];exact t.bt.side rfl w
 have v:df U2 x r= -1:=by
  unfold df aM;rw[if_neg F];exact C
 have n:=o.tr _ _ _ L N;exact⟨m,v,(fun e=>by rw[e,o.Ih]at n;cases n),b.W4 w j m v (by rw[P,H]) (by rw[H];exact f) n⟩
theorem w7.below(d:w7 hm lt K U T x K2 U2 r)(t:tj hm lt K U T)(v:bA lt){n:Nat}(D:∀y,0<hm y->0<=y/\y<n)(hx:0<hm x)(X:U x≠ -1){f:Int->Bool->Int}{w:Int->Int}(b:Bt hm lt f w)(o:w=if r= -1 then df U2 x else aM (df U2 x) r (U x))
  (G:hm' (-1)=0)(Q:hm' x=0)(I:∀y,y≠x->hm' y=hm y)(V:∀a b,0<hm a->0<hm b->a≠x->b≠x->lt' a b=lt a b):tj hm' lt' f w T:=by
 have L:x≠ -1:=Z;obtain⟨_,_,h3,h4,P⟩:=t.bt.uk x _ rfl X;have E:U x≠x:=fun e=>by rw[e,v.Ih]at P;cases P
 have rr:∀y,0<hm y->y≠x->(w y= -1↔U y= -1):=fun y C M=>by
  rw[o];split
  ·rename_i m;unfold df aM;cases d;grind
  ·rename_i m;obtain⟨N,r2,r3,j⟩:=d.rx m;unfold df aM;by_cases F:y=r
   ·rw[if_pos F];refine⟨O,fun e=>?_⟩;rw[F]at e;have u:=t.t2 r O e;rw[N]at u;have H:=t.least v D (h:=hm x) O (y:=x) rfl O;rw[u]at H;rw[v.vk H]at j;cases j
   cases d;grind
 have ux:w x= -1:=by
  rw[o];split
  ·unfold df aM;omega
  ·rename_i m;obtain⟨N,r2,r3,j⟩:=d.rx m;unfold df aM;omega
 have no:∀y,w y≠x:=fun y=>by
  rw[o];split
  ·unfold df aM;split
   ·omega
   ·exact d.none L y
  ·unfold df aM;split
   ·exact E
   ·split
    ·omega
    ·exact d.none L y
 refine b.drop ux no G Q I V (fun h hh=>?_) (fun y C VS M=>t.t2 y C Z);cases t;grind
end
section
variable{p r:Int}
structure QT(hm:Int->Int)(lt:Int->Int->Bool)(U:Int->Int)(T:Int->Int):Prop where
 uk:∀x p,U x=p->p≠ -1->hm p=hm x/\0<hm x/\lt p x=true
 t1:∀h,T h≠ -1->hm (T h)=h/\0<h/\U (T h)= -1
 t2:∀x,0<hm x->U x= -1->T (hm x)=x
theorem QT.first{hm:Int->Int}{lt:Int->Int->Bool}{U T:Int->Int}(t:QT hm lt U T){x:Int}(m:0<hm x)(j:∀y,hm y=hm x->y≠x->lt x y=true)(n:bA lt):T (hm x)=x:=by
 refine t.t2 x m ?_;apply alt;intro d;obtain⟨v,o,w⟩:=t.uk x _ rfl d;by_cases e:U x=x
 ·rw[e,n.Ih]at w;cases w
 ·have:=n.vk (j _ v e);grind
section
variable {hm hm' : Int → Int} {lt lt' : Int → Int → Bool} {ch GG : Int → List Int} {au : Int → Int}
structure Pr(hm:Int->Int)(lt:Int->Int->Bool)(ch:Int->List Int)(au:Int->Int):Prop where
 h0:hm (-1)=0
 dn:∀x c,c∈ch x->au c=x/\x≠ -1/\hm x=hm c/\0<hm c/\lt x c=true
 up:∀c x,au c=x->x≠ -1->c∈ch x
 nd:∀x,(ch x).Nodup
theorem Pr.ne(p:Pr hm lt ch au){x c:Int}(h:c∈ch x):c≠ -1:=fun e=>by
 cases p;grind
def lm(ch:Int->List Int)(a b:Int):Int->List Int:=fun x=>if x=a then b::ch a else ch x
theorem Pr.link(p:Pr hm lt ch au){a b:Int}(m:a≠ -1)(v:au b= -1)(e:hm a=hm b)(n:0<hm b)(t:lt a b=true):Pr hm lt (lm ch a b) (aM au b a):=by
 refine⟨p.h0,fun x c w=>?_,fun c x w j=>?_,fun x=>?_⟩
 ·cases p;grind [aM,lm]
 ·cases p;grind [aM,lm]
 cases p;grind [lm]
def ay(ch:Int->List Int)(p:Int)(l:List Int):Int->List Int:=fun x=>if x=p then l else ch x
theorem Pr.off(q:Pr hm lt ch au){x:Int}{l1 l2:List Int}(n:ch p=l1++x::l2):Pr hm lt (ay ch p (l1++l2)) (aM au x (-1)):=by
 have L:=q.dn p x Z;have dZ:=q.nd p;rw[n,alK]at dZ;obtain⟨H,m,v⟩:=dZ;rw[alo]at m;have P:x∉l1++l2:=by
  rw[alu];rintro(h|h)
  ·exact v x h x (by simp) rfl
  ·grind
 have f:∀c,c∈l1++l2->c∈ch p:=fun c w=>by
  rw[n];rcases alu.1 w with h|h
  ·simp[h]
  ·simp[h]
 refine⟨q.h0,fun y c w=>?_,fun c y w u=>?_,fun y=>?_⟩
 ·unfold ay at w;unfold aM;by_cases e:y=p
  ·subst e;rw[if_pos rfl]at w;rw[if_neg Z];exact q.dn y c (f c w)
  ·rw[if_neg e]at w;have t:=q.dn y c w;rw[if_neg Z];exact t
 ·unfold aM at w;unfold ay;by_cases o:c=x
  ·omega
  ·rw[if_neg o]at w;have:=q.up c y w u;split
   ·rename_i e;rw[e,n,alu,alF]at this;rw[alu];grind
   omega
 ·unfold ay;split
  ·rw[alK];exact⟨H,m.2,fun a j b d=>v a j b (by simp[d])⟩
  ·exact q.nd y
def fh(ch:Int->List Int)(au:Int->Int)(x:Int):Int->Int:=fun c=>if c∈ch x then -1 else au c
theorem Pr.bare(q:Pr hm lt ch au)(x:Int):Pr hm lt (ay ch x []) (fh ch au x):=by
 refine⟨q.h0,fun y c w=>?_,fun c y w n=>?_,fun y=>?_⟩
 ·cases q;grind [ay,fh]
 ·cases q;grind [ay,fh]
 cases q;grind [ay]
theorem Pr.other(q:Pr hm lt ch au)(w:hm' (-1)=0)(h:∀x c,c∈ch x->hm x=hm c->0<hm c->lt x c=true->hm' x=hm' c/\0<hm' c/\lt' x c=true):Pr hm' lt' ch au:=
 ⟨w,fun x c n=>by
  cases q;grind,q.up,q.nd⟩
def GH(K:Int->Bool->Int)(B:Int->Int):Int->List Int->Prop
 |_,[]=>True
 |p,c::r=>B c=p/\K c true=r.headD (-1)/\GH K B c r
variable {K K' : Int → Bool → Int} {B B' : Int → Int}
theorem GH.frame:∀ {l:List Int} {p:Int},GH K B p l->(∀c∈l,K' c true=K c true/\B' c=B c)->GH K' B' p l:=by
 intro l;induction l with
 |nil=>intro p _ _;trivial
 |cons c r e=>
  intro p h w;obtain⟨n,m,v⟩:=h;obtain⟨t,j⟩:=w c (by simp);exact⟨O,O,Z⟩
theorem GH.behind{l:List Int}{w:Int}(h:GH K B p l)(o:∀c∈l,K' c true=K c true)(j:∀c∈l,c≠l.headD (-1)->B' c=B c)(v:l≠[]->B' (l.headD (-1))=w)(m:l.Nodup):GH K' B' w l:=by
 cases l with
 |nil=>trivial
 |cons c r=>
  obtain⟨e,t,n⟩:=h;have d:=(alo.1 m).1;refine⟨v (by simp),Z,n.frame Z⟩
theorem GH.split:∀ {l1:List Int} {p x:Int} {l2:List Int},GH K B p (l1++x::l2)->B x=l1.getLastD p/\K x true=l2.headD (-1)/\GH K B x l2/\(∀y,l1.getLast? =some y->K y true=x):=by
 intro l1;induction l1 with
 |nil=>intro p x l2 h;exact⟨h.1,h.2.1,h.2.2,Z⟩
 |cons c r v=>
  intro p x l2 h;obtain⟨e,t,w⟩:=h;obtain⟨o,n,m,f⟩:=v w;refine⟨?_,n,m,fun y j=>?_⟩
  ·grind
  ·cases r with
   |nil=>
    simp_all
   |cons d r=>
    grind
theorem GH.cut:∀ {l1:List Int} {p x:Int} {l2:List Int},GH K B p (l1++x::l2)->(l1++x::l2).Nodup->
  (∀c∈l1,l1.getLast? ≠some c->K' c true=K c true)->(∀c∈l1,B' c=B c)->(∀y,l1.getLast? =some y->K' y true=l2.headD (-1))->
  GH K' B' (l1.getLastD p) l2->GH K' B' p (l1++l2):=by
 intro l1;induction l1 with
 |nil=>simp_all
 |cons c r N=>
  intro p x l2 h F v m t n;obtain⟨u,H,P⟩:=h;have j:=alo.1 (show(c::(r++x::l2)).Nodup from F);have C:(c::r).getLastD p=r.getLastD c:=by cases r<;>rfl
  rw[C]at n;have hi:GH K' B' c (r++l2):=by
   refine N P j.2 (fun d w L=>v d (by simp[w]) fun e=>L ?_) (fun d w=>m d (by simp[w])) (fun y o=>t y ?_) n
   ·cases r with
    |nil=>cases w
    |cons f r=>rw[List.getLast?_cons_cons]at e;exact e
   ·cases r with
    |nil=>cases o
    |cons f r=>rw[List.getLast?_cons_cons];exact o
  refine⟨by rw[m c (by simp),u],?_,hi⟩;cases r with
  |nil=>simpa using t c (by simp)
  |cons d r=>
   have:(c::d::r).getLast? ≠some c:=by
    rw[List.getLast?_cons_cons];intro e;exact j.1 (List.mem_append_left _ (List.mem_of_getLast? e))
   rw[v c (by simp) this,H];simp
structure GI(K:Int->Bool->Int)(B:Int->Int)(ch:Int->List Int)(au:Int->Int):Prop where
 hd:∀x,K x false=(ch x).headD (-1)
 sg:∀x,GH K B x (ch x)
 rt:∀c,au c= -1->K c true= -1/\B c= -1
theorem eM{l:List Int}(h:l.headD (-1)≠ -1):l.headD (-1)∈l:=by
 cases l with
 |nil=>grind
 |cons a l=>simp
theorem GI.link(m:GI K B ch au)(p:Pr hm lt ch au){a b:Int}(H:a≠ -1)(L:au b= -1)(P:a≠b):
  GI (eK (eK K b true (K a false)) a false b) (if K a false= -1 then aM B b a else aM (aM B b a) (K a false) b) (lm ch a b) (aM au b a):=by
 have hold:K a false≠ -1->K a false∈ch a:=fun h=>by rw[m.hd]at h ⊢;exact eM h
 have n:∀x c,c∈ch x->c≠b:=fun x c w e=>by
  have:=p.dn x c w;grind
 have j:∀c,c≠b->eK (eK K b true (K a false)) a false b c true=K c true:=by grind [eK]
 have v:∀c,c≠b->(K a false≠ -1->c≠K a false)->(if K a false= -1 then aM B b a else aM (aM B b a) (K a false) b) c=B c:=by grind [aM]
 refine⟨fun x=>?_,fun x=>?_,fun c w=>?_⟩
 ·cases m;grind [lm,eK]
 ·unfold lm;by_cases t:x=a
  ·subst t;rw[if_pos rfl];refine⟨?_,?_,?_⟩
   ·grind [aM]
   ·cases m;grind [eK]
   ·refine(m.sg x).behind Z (fun c w f=>v c (n x c w) (fun _=>by rw[m.hd];exact f)) (fun C=>?_) (p.nd x);have o:K x false≠ -1:=by
     rw[m.hd];cases w:ch x with
     |nil=>grind
     |cons d r=>exact p.ne (x:=x) Z
    cases m;grind [aM]
  ·rw[if_neg t];exact(m.sg x).frame fun c w=>⟨j c (n x c w),v c (n x c w) fun _ e=>by
    have o:=p.dn x c w;have u:=p.dn a _ (hold (e▸p.ne w));grind⟩
 cases m;cases p;grind [aM]
theorem GI.off(m:GI K B ch au)(q:Pr hm lt ch au)(N:bA lt){x:Int}{l1 l2:List Int}(t:ch p=l1++x::l2):
  (K (B x) false=x↔l1=[])/\B x≠ -1/\B x≠x/\hm (B x)=hm x/\hm p=hm x/\(K x true≠ -1->hm (K x true)=hm x)/\
  GI (eK (if l1=[]then eK K (B x) false (K x true)else eK K (B x) true (K x true)) x true (-1)) (aM (if K x true= -1 then B else aM B (K x true) (B x)) x (-1)) (ay ch p (l1++l2)) (aM au x (-1)):=by
 have hx:=q.dn p x Z;have dZ:=q.nd p;have P:=dZ;rw[t]at P;have sg:=m.sg p;rw[t]at sg;obtain⟨M,C,E,b4⟩:=sg.split;obtain⟨n1,n2,L⟩:=alK.1 P;have V:=alo.1 n2;have FZ:p≠x:=fun e=>by cases N;grind
 have abe:∀c∈l1,c∈ch p:=fun c w=>by rw[t];simp[w]
 have abf:∀c∈l2,c∈ch p:=fun c w=>by rw[t];simp[w]
 have G:∀c∈l1,c≠x:=fun c w e=>L c w x (by simp) e;have D:∀c∈l2,c≠x:=fun c w e=>V.1 (e▸w);have cp:∀c,c∈ch p->c≠p:=fun c w e=>by cases q;cases N;grind
 have H:(l1=[]/\B x=p)\/(∃y,l1.getLast? =some y/\B x=y/\y∈l1):=by
  rw[M];cases f:l1.getLast? with
  |none=>simp_all
  |some y=>
   grind
 have X:B x≠x:=by
  rcases H with ⟨_,h⟩| ⟨y,_,h,n⟩
  ·omega
  ·grind
 have hkx:K x true≠ -1->K x true∈l2:=fun h=>by grind [eM]
 have first:K (B x) false=x↔l1=[]:=by
  rcases H with ⟨j,v⟩| ⟨y,j,v,n⟩
  ·rw[v,m.hd,t,j];simp
  ·constructor
   ·intro h;rw[v,m.hd]at h;have hxm:x∈ch y:=by rw[<-h];exact eM (by rw[h];exact q.ne (x:=p) Z)
    cases q;grind
   grind
 refine⟨first,?_,X,?_,hx.2.2.1,fun h=>?_,?_⟩
 ·rcases H with ⟨j,v⟩| ⟨y,j,v,n⟩
  ·omega
  ·rw[v];exact q.ne (abe y n)
 ·cases q;grind
 ·cases q;grind
 obtain⟨K2,o⟩:∃K2,K2=eK (if l1=[]then eK K (B x) false (K x true)else eK K (B x) true (K x true)) x true (-1):=⟨_,rfl⟩;obtain⟨B2,u⟩:∃B2,B2=aM (if K x true= -1 then B else aM B (K x true) (B x)) x (-1):=⟨_,rfl⟩;rw[<-o,<-u];have kf:∀y,K2 y false=if l1=[]/\y=p then K x true else K y false:=fun y=>by
  rw[o];grind [eK]
 have I:∀y,y≠x->(l1.getLast? ≠some y)->K2 y true=K y true:=fun y n f=>by
  rw[o];grind [eK]
 have F:∀y,y≠x->(K x true≠ -1->y≠K x true)->B2 y=B y:=fun y n hk=>by
  rw[u];grind [aM]
 refine⟨fun y=>?_,fun y=>?_,fun c w=>?_⟩
 ·rw[kf];unfold ay;by_cases n:y=p
  ·rw[if_pos n];by_cases h:l1=[]
   ·grind
   ·rw[if_neg (by simp[h]),m.hd,n,t];cases l1 with
    |nil=>grind
    |cons a r=>rfl
  cases m;grind
 ·unfold ay;by_cases n:y=p
  ·subst n;rw[if_pos rfl];refine sg.cut P (fun c w f=>I c (G c w) f) (fun c w=>F c (G c w) fun h e=>?_) (fun z hz=>?_) ?_
   ·exact L c w (K x true) (by simp[hkx h]) e
   ·have Q:=List.mem_of_getLast? hz;have ny:l1≠[]:=fun e=>by rw[e]at Q;cases Q
    rw[o,<-C];grind [eK]
   ·refine E.behind (fun c w=>I c (D c w) fun f=>L c (List.mem_of_getLast? f) c (by simp[w]) rfl) (fun c w he=>F c (D c w) O) (fun ny=>?_) V.2;have j:K x true≠ -1:=by
     rw[C];cases w:l2 with
     |nil=>grind
     |cons d r=>exact q.ne (abf d (by rw[w];simp))
    rw[u];grind [aM]
  ·rw[if_neg n];refine(m.sg y).frame fun c w=>?_;cases q;grind
 ·unfold aM at w;by_cases Oy:c=x
  ·rw[Oy,o,u];grind [aM,eK]
  cases m;cases q;grind
theorem GI.bare(m:GI K B ch au)(q:Pr hm lt ch au){x:Int}(w:∀y,K' y false=if y=x then -1 else K y false)(n:∀c∈ch x,K' c true= -1/\B' c= -1)(v:∀c,c∉ch x->K' c true=K c true/\B' c=B c):
  GI K' B' (ay ch x []) (fh ch au x):=by
 refine⟨fun y=>?_,fun y=>?_,fun c e=>?_⟩
 ·cases m;grind [ay]
 ·unfold ay;split
  ·trivial
  cases m;cases q;grind [GH.frame]
 cases m;grind [fh]
structure w8(hm:Int->Int)(lt:Int->Int->Bool)(g:Int)(R:Int->Prop)(GG:Int->List Int)(ch:Int->List Int)(au:Int->Int)(W:List Int):Prop where
 pr:Pr hm lt ch au
 nd:W.Nodup
 wm:∀x∈W,x≠ -1/\hm x=g/\au x= -1
 wY:∀x,0<hm x->(au x= -1↔x∈W\/R x)
 nr:∀x,R x->0<hm x/\x∉W
 fr:∀x,R x->ch x=GG x
 g0:0<g
variable {g a b : Int} {R : Int → Prop} {W W' : List Int}
theorem w8.perm(m:w8 hm lt g R GG ch au W)(h:W.Perm W'):w8 hm lt g R GG ch au W':=
 ⟨m.pr,h.nodup_iff.1 m.nd,fun x w=>m.wm x (h.mem_iff.2 w),fun x w=>by rw[m.wY x w,h.mem_iff],fun x w=>⟨(m.nr x w).1,fun n=>(m.nr x w).2 (h.mem_iff.2 n)⟩,m.fr,m.g0⟩
theorem w8.link(m:w8 hm lt g R GG ch au (a::b::W))(e:lt a b=true):w8 hm lt g R GG (lm ch a b) (aM au b a) (a::W):=by
 obtain⟨a1,a2,a3⟩:=m.wm a (by simp);obtain⟨t,n,v⟩:=m.wm b (by simp);have dZ:=m.nd;rw[alo,alo]at dZ;obtain⟨o,f,u⟩:=dZ;have d:a≠b:=Z;have j:a∉W:=Z;refine⟨m.pr.link a1 v O (by rw[n];exact m.g0) e,Z,fun x w=>?_,fun x w=>?_,fun x w=>⟨(m.nr x w).1,fun h=>(m.nr x w).2 ?_⟩,fun x w=>?_,m.g0⟩
 ·cases m;grind [aM]
 ·cases m;grind [aM]
 ·grind
 cases m;grind [lm]
def ws(l:List Int):List Int:=l.filter fun x=>decide (x≠ -1)
theorem ep(r:Int):ws [r]=if r= -1 then[]else[r]:=by
 unfold ws;grind
theorem mv(r:Int)(l:List Int):ws (r::l)=ws [r]++ws l:=by
 grind [ws]
theorem w8.done{T:Int->Int}(m:w8 hm lt g R GG ch au (ws [r]))(t:∀h,h≠g->T h≠ -1->hm (T h)=h/\0<h/\R (T h))(v:∀x,R x->hm x≠g/\T (hm x)=x):QT hm lt au (cR T g r):=by
 rw[ep]at m;refine⟨fun x p w n=>by have:=m.pr.dn p x (m.pr.up x p w n);grind,fun h e=>?_,fun x d j=>?_⟩
 ·cases m;grind [cR]
 cases m;grind [cR]
structure L0(hm:Int->Int)(lt:Int->Int->Bool)(ch:Int->List Int)(au:Int->Int)(T:Int->Int):Prop where
 pr:Pr hm lt ch au
 tp:QT hm lt au T
variable {T : Int → Int} {x : Int}
structure QD(hm:Int->Int)(lt:Int->Int->Bool)(ch:Int->List Int)(au:Int->Int)(T:Int->Int)(g x:Int):Prop where
 pr:Pr hm lt ch au
 t1:∀h,T h≠ -1->hm (T h)=h/\0<h/\au (T h)= -1
 t2:∀y,0<hm y->au y= -1->y≠x->T (hm y)=y
 ox:x≠ -1/\hm x=g/\au x= -1
 nx:T g≠x
 g0:0<g
theorem QD.w(o:QD hm lt ch au T g x):w8 hm lt g (fun y=>0<hm y/\au y= -1/\y≠x/\y≠T g) ch ch au (ws [T g,x]):=by
 have e:ws [T g,x]=if T g= -1 then[x]else[T g,x]:=by
  rw[mv,ep,ep,if_neg o.ox.1];grind
 rw[e];refine⟨o.pr,?_,fun y w=>?_,fun y w=>?_,fun y w=>⟨w.1,fun h=>?_⟩,fun _ _=>rfl,o.g0⟩
 ·cases o;grind
 ·cases o;grind
 ·constructor
  ·intro j;by_cases t:y=x
   ·grind
   ·by_cases n:y=T g
    ·left;rw[if_neg (fun h=>by rw[n,h,o.pr.h0]at w;omega)];simp[n]
    omega
  cases o;grind
 ·obtain⟨_,_,m,v⟩:=w;split at h
  ·simp[m]at h
  ·simp[m,v]at h
theorem QD.done{jD:Int->List Int}{dh:Int->Int}(o:QD hm lt ch au T g x)(m:w8 hm lt g (fun y=>0<hm y/\au y= -1/\y≠x/\y≠T g) ch jD dh (ws [r])):L0 hm lt jD dh (cR T g r):=by
 refine⟨m.pr,m.done (fun h n w=>?_) (fun y v=>?_)⟩
 ·cases o;grind
 cases o;grind
theorem Pr.alone(q:Pr hm lt ch au){x:Int}(w:hm x<=0)(n:x≠ -1):au x= -1/\ch x=[]:=by
 constructor
 ·cases q;grind
 ·cases h:ch x with
  |nil=>rfl
  |cons c r=>
   have:=q.dn x c Z;omega
theorem L0.ins(t:L0 hm lt ch au T)(L:hm' (-1)=0)(I:hm x<=0)(d:x≠ -1)(C:0<g)(H:hm' x=g)(n:∀y,y≠x->hm' y=hm y)(P:∀a b,0<hm a->0<hm b->a≠x->b≠x->lt' a b=lt a b):QD hm' lt' ch au T g x:=by
 obtain⟨a1,a2⟩:=t.pr.alone I d;have V:∀h,T h≠x:=fun h e=>by
  obtain⟨m,w,_⟩:=t.tp.t1 h O;grind
 refine⟨t.pr.other L fun y c j m w v=>?_,fun h F=>?_,fun y o Q N=>?_,⟨d,H,a1⟩,V g,C⟩
 ·have f:y≠x:=fun e=>by rw[e,a2]at j;cases j
  have u:c≠x:=fun e=>by rw[e]at w;omega
  rw[n _ f,n _ u,P _ _ O w f u];exact⟨m,w,v⟩
 ·obtain⟨m,w,v⟩:=t.tp.t1 h F;grind
 ·rw[n _ N]at o ⊢;exact t.tp.t2 y o Q
theorem L0.off(t:L0 hm lt ch au T){l1 l2:List Int}(j:ch p=l1++x::l2):QD hm lt (ay ch p (l1++l2)) (aM au x (-1)) T (hm x) x:=by
 obtain⟨H,P,L,n,C⟩:=t.pr.dn p x Z;have F:x≠ -1:=fun e=>by rw[e,t.pr.h0]at n;omega
 refine⟨t.pr.off j,fun h m=>?_,fun y d w v=>?_,by grind [aM],fun e=>?_,n⟩
 ·obtain⟨o,f,u⟩:=t.tp.t1 h m;grind [aM]
 ·unfold aM at w;rw[if_neg v]at w;exact t.tp.t2 y d w
 ·have:=(t.tp.t1 (hm x) O).2.2;grind
theorem QD.low(o:QD hm lt ch au T g x)(v:∀a b,0<hm a->0<hm b->a≠x->b≠x->lt' a b=lt a b)(t:∀b,0<hm b->b≠x->lt x b=true->lt' x b=true):QD hm lt' ch au T g x:=by
 refine⟨o.pr.other o.pr.h0 fun y c m w n j=>⟨w,n,?_⟩,o.t1,o.t2,o.ox,o.nx,o.g0⟩;have d:c≠x:=fun e=>by
  have:=o.pr.dn y c m;cases o;grind
 grind
theorem L0.QS(t:L0 hm lt ch au T)(f:au x= -1)(j:∀a b,0<hm a->0<hm b->a≠x->b≠x->lt' a b=lt a b)(d:∀b,0<hm b->b≠x->lt x b=true->lt' x b=true):L0 hm lt' ch au T:=by
 have key:Pr hm lt' ch au:=t.pr.other t.pr.h0 fun y c w n m o=>⟨n,m,by
  have u:c≠x:=fun e=>by
   have:=t.pr.dn y c w;grind
  grind⟩
 exact⟨key,fun c y w v=>(key.dn y c (key.up c y w v)).2.2,t.tp.t1,t.tp.t2⟩
theorem Pr.Tu(q:Pr hm lt ch au)(n:0<hm x):w8 hm lt (hm x) (fun y=>0<hm y/\au y= -1) (ay ch x []) (ay ch x []) (fh ch au x) (ch x):=by
 refine⟨q.bare x,q.nd x,fun y w=>⟨q.ne w,(q.dn x y w).2.2.1.symm,by unfold fh;grind⟩,fun y w=>?_,fun y w=>⟨w.1,fun h=>?_⟩,fun _ _=>rfl,n⟩
 ·unfold fh;grind
 cases q;grind
theorem w8.drop{W:List Int}(m:w8 hm lt g R GG ch au W)(P:R x)(F:ch x=[])(N:au x= -1)(f:hm' (-1)=0)(L:hm' x=0)(n:∀y,y≠x->hm' y=hm y)(o:∀a b,0<hm a->0<hm b->a≠x->b≠x->lt' a b=lt a b):
  w8 hm' lt' g (fun y=>R y/\y≠x) GG ch au W:=by
 have nx:∀y c,c∈ch y->y≠x/\c≠x:=fun y c v=>by
  refine⟨fun e=>?_,fun e=>?_⟩
  ·grind
  ·have:=m.pr.dn y c v;grind
 have C:=(m.nr x P).2;refine⟨m.pr.other f fun y c v u t H=>?_,m.nd,fun y w=>?_,fun y w=>?_,fun y w=>⟨?_,(m.nr y w.1).2⟩,fun y w=>m.fr y w.1,m.g0⟩
 ·obtain⟨j,d⟩:=nx y c v;rw[n _ j,n _ d,o _ _ O t j d];exact⟨u,t,H⟩
 ·cases m;grind
 ·cases m;grind
 ·rw[n _ w.2];exact(m.nr y w.1).1
theorem w8.lq(m:w8 hm lt g R GG ch au W){t:Int}(j:t≠ -1->R t/\hm t=g):w8 hm lt g (fun y=>R y/\y≠t) GG ch au (ws [t]++W):=by
 rw[ep];by_cases h:t= -1
 ·rw[if_pos h,alH];refine⟨m.pr,m.nd,m.wm,fun x w=>?_,fun x w=>m.nr x w.1,fun x w=>m.fr x w.1,m.g0⟩;rw[m.wY x w];have f:x≠t:=fun e=>by rw[e,h,m.pr.h0]at w;omega
  grind
 ·obtain⟨n,d⟩:=j h;obtain⟨o,v⟩:=m.nr t n;rw[if_neg h];refine⟨m.pr,alo.2 ⟨v,m.nd⟩,fun x w=>?_,fun x w=>?_,fun x w=>⟨(m.nr x w.1).1,fun h=>?_⟩,fun x w=>m.fr x w.1,m.g0⟩
  ·cases m;grind
  ·cases m;grind
  cases m;grind
end
end
section
variable{g c k p:Int}
section
variable {nx L8 : Int → Int} {a b x y z : Int} {r s l l1 l2 A B : List Int}
def kO(nx:Int->Int):Int->List Int->Int->Prop
 |a,[],z=>nx a=z
 |a,b::r,z=>nx a=b/\kO nx b r z
def mi(nx:Int->Int):List Int->Prop
 | []=>True
 |a::r=>kO nx a r a
theorem kO.VT:∀ {r:List Int} {a:Int},kO nx a (r++b::s) z↔kO nx a r b/\kO nx b s z:=by
 intro r;induction r with
 |nil=>rfl
 |cons c r v=>
  intro a;constructor
  ·rintro⟨w,n⟩;obtain⟨m,e⟩:=v.1 n;exact⟨⟨w,m⟩,e⟩
  ·rintro⟨⟨w,n⟩,m⟩;exact⟨w,v.2 ⟨n,m⟩⟩
theorem kO.first:∀ {r:List Int} {a w:Int},kO nx a r z->L8 w=nx a->(∀c∈r,L8 c=nx c)->kO L8 w r z:=by
 intro r;induction r with
 |nil=>intro a w h n _;exact n.trans h
 |cons c r v=>
  intro a w h n m;exact⟨n.trans h.1,v h.2 (m c (by simp)) Z⟩
theorem mi.frame(h:mi nx l)(w:∀c∈l,L8 c=nx c):mi L8 l:=by
 cases l with
 |nil=>trivial
 |cons a r=>exact kO.first h (w a (by simp)) Z
theorem mi.VU(h:mi nx (l1++l2)):mi nx (l2++l1):=by
 cases l1 with
 |nil=>grind
 |cons a r=>
  cases l2 with
  |nil=>grind
  |cons b s=>
   have w:kO nx a (r++b::s) a:=h;obtain⟨n,m⟩:=kO.VT.1 w;exact kO.VT.2 ⟨m,n⟩
theorem mi.from(h:mi nx l)(w:x∈l):∃A,l.Perm (x::A)/\mi nx (x::A):=by
 obtain⟨l1,l2,rfl⟩:=List.append_of_mem w;grind [mi.VU]
def qZ(nx:Int->Int)(x y:Int):Int->Int:=fun z=>if z=x then nx y else if z=y then nx x else nx z
theorem L9:qZ nx x y x=nx y:=by unfold qZ;omega
theorem Ma:qZ nx x y y=nx x:=by
 unfold qZ;grind
theorem nA(w:z≠x)(n:z≠y):qZ nx x y z=nx z:=by unfold qZ;omega
theorem mi.aW(h:mi nx l)(w:x∉l)(n:y∉l):mi (qZ nx x y) l:=h.frame (by grind [qZ])
theorem mi.join(w:mi nx (x::A))(n:mi nx (y::B))(e:((x::A)++(y::B)).Nodup):mi (qZ nx x y) (x::B++y::A):=by
 obtain⟨t,j,o⟩:=alK.1 e;have a1:=(alo.1 t).1;have d:=(alo.1 j).1;have m:∀c∈A,qZ nx x y c=nx c:=by grind [qZ]
 have v:∀c∈B,qZ nx x y c=nx c:=by grind [qZ]
 exact kO.VT.2 ⟨kO.first n L9 v,kO.first w Ma m⟩
theorem mi.part(h:mi nx (x::A++[y]))(e:(x::A++[y]).Nodup):qZ nx x y x=x/\mi (qZ nx x y) (y::A):=by
 have t:=alo.1 (show(x::(A++[y])).Nodup from e);obtain⟨j,d,o⟩:=alK.1 t.2;have w:kO nx x (A++[y]) x:=h;obtain⟨n,m⟩:=kO.VT.1 w;have v:∀c∈A,qZ nx x y c=nx c:=by grind [qZ]
 exact⟨L9.trans m,kO.first n Ma v⟩
theorem Io:qZ nx x x=nx:=by
 grind [qZ]
structure w9(nx pv:Int->Int):Prop where
 pn:∀x,pv (nx x)=x
 np:∀x,nx (pv x)=x
def QU(nx pv:Int->Int)(x y:Int):Int->Int:=fun z=>if z=nx x then y else if z=nx y then x else pv z
theorem w9.qZ{pv:Int->Int}(h:w9 nx pv)(x y:Int):w9 (qZ nx x y) (QU nx pv x y):=by
 have inj:∀u v,nx u=nx v->u=v:=fun u v e=>by rw[<-h.pn u,e,h.pn]
 constructor
 ·cases h;grind [QU,L9,Ma,nA]
 cases h;grind [QU,Ma,L9,nA]
theorem mi.last{pv:Int->Int}(h:w9 nx pv)(m:mi nx (x::A++[y])):pv x=y:=by
 have w:kO nx x (A++[y]) x:=m;have n:nx y=x:=(kO.VT.1 w).2;rw[<-n,h.pn]
variable {hm hm' : Int → Int} {lt lt' : Int → Int → Bool} {ch : Int → List Int} {au : Int → Int} {aw : Int → List Int} {W : List Int}
structure dV(hm:Int->Int)(lt:Int->Int->Bool)(nx:Int->Int)(ch:Int->List Int)(au:Int->Int)(aw:Int->List Int)(W:List Int):Prop where
 pr:Pr hm lt ch au
 cy:∀x,mi nx (ch x)
 rc:∀h,mi nx (aw h)
 rn:∀h,(aw h).Nodup
 rm:∀h c,c∈aw h->hm c=h/\au c= -1/\0<h/\c∉W
 wn:W.Nodup
 wm:∀c∈W,nx c=c/\au c= -1/\0<hm c
 wY:∀c,0<hm c->au c= -1->c∈aw (hm c)\/c∈W
 lone:∀c,hm c<=0->nx c=c
theorem dV.W5(m:dV hm lt nx ch au aw W)(h:c∈W):c≠ -1:=fun e=>by
 have:=(m.wm c h).2.2;rw[e,m.pr.h0]at this;omega
theorem dV.ZT(m:dV hm lt nx ch au aw W){h:Int}(n:c∈aw h):c≠ -1:=fun e=>by
 obtain⟨w,_,v,_⟩:=m.rm h c n;rw[e,m.pr.h0]at w;omega
theorem dV.Ip(m:dV hm lt nx ch au aw W){x:Int}(w:c∈ch x):(∀h,c∉aw h)/\c∉W:=by
 have n:=m.pr.dn x c w;cases m;grind
theorem dV.perm{W':List Int}(m:dV hm lt nx ch au aw W)(h:W.Perm W'):dV hm lt nx ch au aw W':=
 ⟨m.pr,m.cy,m.rc,m.rn,fun g c w=>by cases m;grind,h.nodup_iff.1 m.wn,fun c w=>m.wm c (h.mem_iff.2 w),fun c n v=>(m.wY c n v).imp_right h.mem_iff.1,m.lone⟩
theorem dV.tH(m:dV hm lt nx ch au aw W){l:List Int}(t:(aw g).Perm l)(v:mi nx l):dV hm lt nx ch au (ay aw g l) W:=by
 refine⟨m.pr,m.cy,fun h=>?_,fun h=>?_,fun h c e=>?_,m.wn,m.wm,fun c w n=>?_,m.lone⟩
 ·cases m;grind [ay]
 ·cases m;grind [ay]
 ·cases m;grind [ay]
 cases m;grind [ay]
theorem dV.Oz(m:dV hm lt nx ch au aw (x::W)){t:Int}{A:List Int}(j:aw (hm x)=t::A):dV hm lt (qZ nx t x) ch au (ay aw (hm x) (t::x::A)) W:=by
 obtain⟨o,L,C⟩:=m.wm x (by simp);have u:=(alo.1 m.wn).1;have d:=m.rm (hm x) t Z;have f:t≠x:=Z;have H:∀h,x∉aw h:=fun h w=>(m.rm h x w).2.2.2 (by simp);have P:∀h,t∈aw h->h=hm x:=fun h w=>by rw[<- (m.rm h t w).1,d.1]
 refine⟨m.pr,fun y=>(m.cy y).aW (fun h=>?_) (fun h=>?_),fun h=>?_,fun h=>?_,fun h c w=>?_,(alo.1 m.wn).2,fun c e=>?_,fun c n v=>?_,fun c e=>?_⟩
 ·exact(m.Ip h).1 (hm x) Z
 ·exact(m.Ip h).2 (by simp)
 ·unfold ay;split
  ·have n:=m.rc (hm x);rw[j]at n;have v:mi nx [x]:=o;refine n.join v ?_;cases m;grind
  cases m;grind [mi.aW]
 ·cases m;grind [ay]
 ·cases m;grind [ay]
 ·cases m;grind [nA]
 ·cases m;grind [ay]
 cases m;grind [nA]
theorem dV.W6(m:dV hm lt nx ch au aw (x::W))(j:aw (hm x)=[]):dV hm lt nx ch au (ay aw (hm x) [x]) W:=by
 obtain⟨n,o,f⟩:=m.wm x (by simp);have d:=(alo.1 m.wn).1;refine⟨m.pr,m.cy,fun h=>?_,fun h=>?_,fun h c t=>?_,(alo.1 m.wn).2,fun c w=>m.wm c (by simp[w]),fun c v e=>?_,m.lone⟩
 ·unfold ay;split
  ·exact n
  ·exact m.rc h
 ·cases m;grind [ay]
 ·cases m;grind [ay]
 cases m;grind [ay]
theorem dV.W7(m:dV hm lt nx ch au aw W){y:Int}{A:List Int}(e:aw g=x::A++[y]):dV hm lt (qZ nx x y) ch au (ay aw g (y::A)) (x::W):=by
 obtain⟨C,F,N,t⟩:=m.rm g x Z;obtain⟨Q,I,V,G⟩:=m.rm g y Z;have w:=m.rc g;have n:=m.rn g;rw[e]at w n;obtain⟨P,L⟩:=w.part n;have u:=alo.1 (show(x::(A++[y])).Nodup from n);have H:(A++[y]).Perm (y::A):=Z;have er:∀h c,c∈aw h->(c=x\/c=y)->h=g:=fun h c v f=>by
  cases m;grind
 refine⟨m.pr,fun z=>(m.cy z).aW (fun h=>(m.Ip h).1 g Z) (fun h=>(m.Ip h).1 g Z),fun h=>?_,fun h=>?_,fun h c v=>?_,alo.2 ⟨t,m.wn⟩,fun c o=>?_,fun c j d=>?_,fun c w=>?_⟩
 ·cases m;grind [ay,mi.aW]
 ·cases m;grind [ay]
 ·cases m;grind [ay]
 ·cases m;grind [nA]
 ·cases m;grind [ay]
 cases m;grind [nA]
theorem dV.W8(m:dV hm lt nx ch au aw W)(v:aw g=[x]):dV hm lt nx ch au (ay aw g []) (x::W):=by
 obtain⟨f,e,u,t⟩:=m.rm g x Z;have n:=m.rc g;rw[v]at n;refine⟨m.pr,m.cy,fun h=>?_,fun h=>?_,fun h c o=>?_,alo.2 ⟨t,m.wn⟩,fun c w=>?_,fun c j d=>?_,m.lone⟩
 ·unfold ay;split
  ·trivial
  ·exact m.rc h
 ·cases m;grind [ay]
 ·cases m;grind [ay]
 ·rcases alF.1 w with rfl|w
  ·exact⟨n,e,O⟩
  ·exact m.wm c w
 cases m;grind [ay]
theorem Pr.OA(q:Pr hm lt ch au){l:List Int}(h:(ch x).Perm l):Pr hm lt (ay ch x l) au:=by
 refine⟨q.h0,fun y c w=>?_,fun c y w n=>?_,fun y=>?_⟩
 ·cases q;grind [ay]
 ·cases q;grind [ay]
 cases q;grind [ay]
theorem cP(ch:Int->List Int)(x:Int)(l l':List Int):ay (ay ch x l) x l'=ay ch x l':=by
 grind [ay]
theorem F0(ch:Int->List Int)(x b:Int)(l:List Int):ay (lm ch x b) x l=ay ch x l:=by
 grind [ay,lm]
theorem dV.W9(m:dV hm lt nx ch au aw W){l:List Int}(w:(ch x).Perm l)(n:mi nx l):dV hm lt nx (ay ch x l) au aw W:=by
 refine⟨m.pr.OA w,fun y=>?_,m.rc,m.rn,m.rm,m.wn,m.wm,m.wY,m.lone⟩;cases m;grind [ay]
theorem dV.Tv(m:dV hm lt nx ch au aw (x::y::W))(v:hm x=hm y)(e:lt x y=true)(w:ch x=[]):dV hm lt nx (ay ch x [y]) (aM au y x) aw (x::W):=by
 obtain⟨L,C,F⟩:=m.wm x (by simp);obtain⟨d,o,f⟩:=m.wm y (by simp);have j:=m.W5 (c:=x) (by simp);have t:=m.wn;simp only[alo,alF,not_or]at t;have P:∀c,c≠y->aM au y x c=au c:=by grind [aM]
 have q:=m.pr.link j o v f e;have n:lm ch x y=ay ch x [y]:=by
  funext z;unfold lm ay;split
  ·rw[w]
  ·rfl
 rw[n]at q;refine⟨q,fun z=>?_,m.rc,m.rn,fun h c w=>?_,Z,fun c w=>?_,fun c u H=>?_,m.lone⟩
 ·unfold ay;split
  ·exact d
  ·exact m.cy z
 ·cases m;grind
 ·cases m;grind
 cases m;grind [aM]
theorem dV.under(m:dV hm lt nx ch au aw (x::y::W))(v:hm x=hm y)(o:lt x y=true){K:List Int}(w:ch x=k::K):dV hm lt (qZ nx k y) (ay ch x (y::K++[k])) (aM au y x) aw (x::W):=by
 obtain⟨M,E,X⟩:=m.wm x (by simp);obtain⟨P,L,C⟩:=m.wm y (by simp);have u:=m.W5 (c:=x) (by simp);have f:=m.wn;simp only[alo,alF,not_or]at f;have j:=m.Ip (c:=k) (x:=x) Z;have d:=m.pr.dn x k Z;have N:∀h,y∉aw h:=fun h v=>(m.rm h y v).2.2.2 (by simp);have F:∀z,y∉ch z:=fun z h=>(m.Ip h).2 (by simp);have G:∀z,k∈ch z->z=x:=fun z h=>by rw[<- (m.pr.dn z k h).1,d.1]
 have D:∀c,c≠y->aM au y x c=au c:=by grind [aM]
 have q:=m.pr.link u L v C o;have e:=q.OA (x:=x) (l:=y::K++[k]) (by
  grind [lm])
 rw[F0]at e;have Q:mi (qZ nx k y) (y::K++[k]):=by
  have n:=m.cy x;rw[w]at n;have dZ:=m.pr.nd x;have H:=F x;rw[w]at dZ H;have t:=n.join (y:=y) (B:=[]) P (by
   grind)
  exact mi.VU (l1:=[k]) (l2:=y::K) t
 refine⟨e,fun z=>?_,fun h=>(m.rc h).aW (j.1 h) (N h),m.rn,fun h c w=>?_,Z,fun c w=>?_,fun c n I=>?_,fun c V=>?_⟩
 ·cases m;grind [ay,mi.aW]
 ·cases m;grind
 ·cases m;grind [nA]
 ·cases m;grind [aM]
 cases m;grind [nA]
theorem dV.raise(m:dV hm lt nx ch au aw W){K:List Int}(f:aw g=x::A)(t:ch x=k::K):dV hm lt (qZ nx x k) (ay ch x []) (fh ch au x) (ay aw g (x::K++k::A)) W:=by
 obtain⟨Q,x2,x3,x4⟩:=m.rm g x Z;have j4:x≠ -1:=m.ZT (h:=g) Z;have X:=m.Ip (c:=k) (x:=x) Z;have C:=m.pr.dn x k Z;have re:∀c,c∈ch x->hm c=g/\0<hm c:=fun c h=>by have:=m.pr.dn x c h;omega
 have xc:∀z,x∉ch z:=fun z h=>(m.Ip h).1 g Z;have kc:∀z,k∈ch z->z=x:=fun z h=>by rw[<- (m.pr.dn z k h).1,C.1]
 have xr:∀h,x∈aw h->h=g:=fun h w=>by rw[<- (m.rm h x w).1,Q]
 have d:=m.rn g;rw[f]at d;have o:=m.pr.nd x;rw[t]at o;have E:((x::A)++(k::K)).Nodup:=by
  rw[alK];refine⟨d,o,fun u hu v hv e=>?_⟩;exact(m.Ip (c:=v) (x:=x) Z).1 g Z
 have N:((x::A)++(k::K)).Perm (x::K++k::A):=by
  refine List.Perm.cons x ?_;refine(ama (l₁:=A) (l₂:=k::K)).trans ?_;exact amA.symm
 have P:=m.rc g;rw[f]at P;have L:=m.cy x;rw[t]at L;refine⟨m.pr.bare x,fun z=>?_,fun h=>?_,fun h=>?_,fun h c w=>?_,m.wn,fun c M=>?_,fun c I V=>?_,fun c D=>?_⟩
 ·unfold ay;split
  ·trivial
  cases m;grind [mi.aW]
 ·cases m;grind [ay,mi.join,mi.aW]
 ·cases m;grind [ay]
 ·unfold ay at w;unfold fh;split at w
  ·rename_i e;rw[e];have F:=N.mem_iff.2 w;rcases alu.1 F with j|j
   ·cases m;grind
   ·have n:c∈ch x:=by rw[t];exact j
    obtain⟨H,G⟩:=re c n;rw[if_pos n];exact⟨H,rfl,O,(m.Ip n).2⟩
  cases m;grind
 ·cases m;grind [fh,nA]
 ·cases m;grind [ay,fh]
 cases m;grind [nA]
theorem dV.off(m:dV hm lt nx ch au aw W)(n:ch p=x::A++[y]):dV hm lt (qZ nx x y) (ay ch p (A++[y])) (aM au x (-1)) aw (x::W):=by
 have v:=m.pr.dn p x Z;have t:=m.pr.dn p y Z;have L8:=m.Ip (c:=x) (x:=p) Z;have j:=m.Ip (c:=y) (x:=p) Z;have C:∀c,c≠x->aM au x (-1) c=au c:=by grind [aM]
 have w:=m.cy p;have dZ:=m.pr.nd p;rw[n]at w dZ;obtain⟨L,d⟩:=w.part dZ;have q:=m.pr.off (l1:=[]) (l2:=A++[y]) (x:=x) (p:=p) Z;refine⟨q,fun z=>?_,fun h=>(m.rc h).aW (L8.1 h) (j.1 h),m.rn,fun h c P=>?_,alo.2 ⟨L8.2,m.wn⟩,fun c H=>?_,fun c o f=>?_,fun c u=>?_⟩
 ·unfold ay;split
  ·exact mi.VU (l1:=[y]) (l2:=A) d
  ·rename_i e;exact(m.cy z).aW (fun h=>e (by rw[<- (m.pr.dn z x h).1,v.1])) (fun h=>e (by rw[<- (m.pr.dn z y h).1,t.1]))
 ·cases m;grind
 ·cases m;grind [aM,nA]
 ·cases m;grind
 cases m;grind [nA]
theorem dV.abg(m:dV hm lt nx ch au aw W)(n:ch p=[x]):dV hm lt nx (ay ch p []) (aM au x (-1)) aw (x::W):=by
 have t:=m.pr.dn p x Z;have L8:=m.Ip (c:=x) (x:=p) Z;have u:∀c,c≠x->aM au x (-1) c=au c:=by grind [aM]
 have w:=m.cy p;rw[n]at w;have q:=m.pr.off (l1:=[]) (l2:=[]) (x:=x) (p:=p) Z;refine⟨q,fun z=>?_,m.rc,m.rn,fun h c o=>?_,alo.2 ⟨L8.2,m.wn⟩,fun c v=>?_,fun c j d=>?_,m.lone⟩
 ·unfold ay;split
  ·trivial
  ·exact m.cy z
 ·cases m;grind
 ·rcases alF.1 v with e|f
  ·rw[e];exact⟨w,by unfold aM;omega,t.2.2.2.1⟩
  cases m;grind
 cases m;grind
theorem dV.other(m:dV hm lt nx ch au aw W)(h:∀x c,c∈ch x->hm x=hm c->0<hm c->lt x c=true->lt' x c=true):dV hm lt' nx ch au aw W:=
 ⟨m.pr.other m.pr.h0 Z,m.cy,m.rc,m.rn,m.rm,m.wn,m.wm,m.wY,m.lone⟩
theorem dV.put(m:dV hm lt nx ch au aw W)(H:hm' (-1)=0)(C:hm x<=0)(F:x≠ -1)(Q:0<g)(f:hm' x=g)(v:∀y,y≠x->hm' y=hm y)(u:∀a b,0<hm a->0<hm b->a≠x->b≠x->lt' a b=lt a b):dV hm' lt' nx ch au aw (x::W):=by
 obtain⟨a1,a2⟩:=m.pr.alone C F;have I:∀h,x∉aw h:=fun h L=>by cases m;grind
 have N:x∉W:=fun h=>by have:=(m.wm x h).2.2;omega
 refine⟨m.pr.other H fun y c w t n P=>?_,m.cy,m.rc,m.rn,fun h c L=>?_,alo.2 ⟨N,m.wn⟩,fun c w=>?_,fun c t n=>?_,fun c w=>?_⟩
 ·have d:y≠x:=fun e=>by rw[e,a2]at w;cases w
  have o:c≠x:=fun e=>by rw[e]at n;omega
  rw[v _ d,v _ o,u _ _ O n d o];exact⟨t,n,P⟩
 ·cases m;grind
 ·cases m;grind
 ·cases m;grind
 ·by_cases j:c=x
  ·rw[j,f]at w;omega
  ·rw[v c j]at w;exact m.lone c w
theorem dV.drop(m:dV hm lt nx ch au aw (x::W))(H:ch x=[])(n:hm' (-1)=0)(d:hm' x=0)(o:∀y,y≠x->hm' y=hm y)(f:∀a b,0<hm a->0<hm b->a≠x->b≠x->lt' a b=lt a b):dV hm' lt' nx ch au aw W:=by
 obtain⟨Q,I,V⟩:=m.wm x (by simp);have j:=alo.1 m.wn;refine⟨m.pr.other n fun y c w v t u=>?_,m.cy,m.rc,m.rn,fun h c C=>?_,j.2,fun c L=>?_,fun c v t=>?_,fun c P=>?_⟩
 ·have F:y≠x:=Z;have N:c≠x:=fun e=>by rw[e]at w;exact(m.Ip w).2 (by simp)
  grind
 ·cases m;grind
 ·cases m;grind
 ·cases m;grind
 cases m;grind
end
end
section
variable {hm hm' : Int → Int} {lt lt' : Int → Int → Bool} {ch jD : Int → List Int} {au : Int → Int} {rows : Int → List Int} {W W' l l' : List Int} {x y a b c p g : Int}
def B8(ch:Int->List Int)(l:List Int):Prop:=l.Pairwise fun a b=>(ch a).length< (ch b).length
theorem B8.nodup(h:B8 ch l):l.Nodup:=List.Pairwise.imp Z h
theorem B8.frame(h:B8 ch l)(e:∀c∈l,(jD c).length=(ch c).length):B8 jD l:=
 List.Pairwise.imp_of_mem Z h
theorem B8.sub(h:B8 ch l)(w:l'.Sublist l):B8 ch l':=List.Pairwise.sublist w h
structure gX(hm:Int->Int)(lt:Int->Int->Bool)(ch:Int->List Int)(au:Int->Int)(rows:Int->List Int)(W:List Int):Prop where
 pr:Pr hm lt ch au
 dg:∀x (i:Nat) c,(ch x)[i]? =some c->(ch c).length=i
 rr:∀h,B8 ch (rows h)
 rm:∀h c,c∈rows h->hm c=h/\au c= -1/\0<h/\c∉W
 wn:W.Nodup
 wm:∀c∈W,au c= -1/\0<hm c
 wY:∀c,0<hm c->au c= -1->c∈rows (hm c)\/c∈W
theorem gX.less(m:gX hm lt ch au rows W)(h:c∈ch x):(ch c).length< (ch x).length:=by
 obtain⟨i,hi,e⟩:=amx.1 h;have:=m.dg x i c Z;omega
theorem gX.W5(m:gX hm lt ch au rows W)(h:c∈W):c≠ -1:=fun e=>by
 have:=(m.wm c h).2;rw[e,m.pr.h0]at this;omega
theorem gX.QV(m:gX hm lt ch au rows W)(h:au c= -1)(z:Int):c∉ch z:=fun w=>by
 have:=m.pr.dn z c w;omega
theorem gX.perm(m:gX hm lt ch au rows W)(h:W.Perm W'):gX hm lt ch au rows W':=
 ⟨m.pr,m.dg,m.rr,fun g c w=>by cases m;grind,h.nodup_iff.1 m.wn,fun c w=>m.wm c (h.mem_iff.2 w),fun c n v=>(m.wY c n v).imp_right h.mem_iff.1⟩
theorem gX.other(m:gX hm lt ch au rows W)(h:∀x c,c∈ch x->lt x c=true->lt' x c=true):gX hm lt' ch au rows W:=
 ⟨m.pr.other m.pr.h0 Z,m.dg,m.rr,m.rm,m.wn,m.wm,m.wY⟩
theorem gX.link(m:gX hm lt ch au rows (a::b::W))(d:hm a=hm b)(P:(ch a).length=(ch b).length)(o:lt a b=true):
  gX hm lt (ay ch a (ch a++[b])) (aM au b a) rows (a::W):=by
 obtain⟨a1,a2⟩:=m.wm a (by simp);obtain⟨e,t⟩:=m.wm b (by simp);have n:=m.wn;simp only[alo,alF,not_or]at n;have j:a≠ -1:=m.W5 (by simp);have H:a≠b:=n.1.1;have q:=m.pr.link j e d t o;have v:=q.OA (x:=a) (l:=ch a++[b]) (by
  grind [lm])
 rw[F0]at v;have C:=m.QV a1;have ne:∀c,c≠a->ay ch a (ch a++[b]) c=ch c:=by grind [ay]
 have L:ay ch a (ch a++[b]) a=ch a++[b]:=by unfold ay;grind
 refine⟨v,fun z i c w=>?_,fun h=>(m.rr h).frame fun c w=>?_,fun h c w=>?_,Z,fun c w=>?_,fun c f u=>?_⟩
 ·cases m;grind
 ·cases m;grind
 ·cases m;grind [aM]
 ·cases m;grind [aM]
 cases m;grind [aM]
theorem gX.loose(m:gX hm lt ch au rows W)(g:Int):gX hm lt ch au (ay rows g []) (rows g++W):=by
 refine⟨m.pr,m.dg,fun h=>?_,fun h c w=>?_,alK.2 ⟨(m.rr g).nodup,m.wn,fun u n v d e=>(m.rm g u n).2.2.2 Z⟩,fun c w=>?_,fun c t j=>?_⟩
 ·unfold ay;split
  ·exact List.Pairwise.nil
  ·exact m.rr h
 ·cases m;grind [ay]
 ·cases m;grind
 cases m;grind [ay]
theorem gX.row(m:gX hm lt ch au rows (l++W))(t:rows g=[])(d:B8 ch l)(j:∀c∈l,hm c=g):gX hm lt ch au (ay rows g l) W:=by
 obtain⟨o,n,f⟩:=alK.1 m.wn;refine⟨m.pr,m.dg,fun h=>?_,fun h c w=>?_,n,fun c w=>m.wm c Z,fun c v e=>?_⟩
 ·cases m;grind [ay]
 ·cases m;grind [ay]
 cases m;grind [ay]
theorem gX.split(m:gX hm lt ch au rows (x::W)):gX hm lt (ay ch x []) (fh ch au x) rows (x::(ch x++W)):=by
 obtain⟨j,P⟩:=m.wm x (by simp);have n:=alo.1 m.wn;have H:=m.QV j;have kd:∀c,c∈ch x->au c≠ -1:=fun c w e=>m.QV e x w;refine⟨m.pr.bare x,fun z i c w=>?_,fun h=>(m.rr h).frame fun c w=>?_,fun h c w=>?_,?_,fun c w=>?_,fun c d o=>?_⟩
 ·cases m;grind [ay]
 ·cases m;grind [ay]
 ·cases m;grind [fh]
 ·rw[alo,alK];refine⟨?_,m.pr.nd x,n.2,fun u t v f e=>kd u t (by cases m;grind)⟩;grind
 ·simp only[alF,alu]at w;unfold fh;rcases w with h|h|h
  ·grind
  ·rw[if_pos h];exact⟨rfl,(m.pr.dn x c h).2.2.2.1⟩
  cases m;grind
 cases m;grind [fh]
theorem gX.put(m:gX hm lt ch au rows W)(u:hm' (-1)=0)(L:hm x<=0)(C:x≠ -1)(Q:0<g)(N:hm' x=g)(v:∀y,y≠x->hm' y=hm y)(f:∀a b,0<hm a->0<hm b->a≠x->b≠x->lt' a b=lt a b):gX hm' lt' ch au rows (x::W)/\ch x=[]:=by
 obtain⟨a1,a2⟩:=m.pr.alone L C;have I:∀h,x∉rows h:=fun h P=>by cases m;grind
 have F:x∉W:=fun h=>by have:=(m.wm x h).2;omega
 refine⟨⟨m.pr.other u fun y c t n w H=>?_,m.dg,m.rr,fun h c P=>?_,alo.2 ⟨F,m.wn⟩,fun c t=>?_,fun c n w=>?_⟩,a2⟩
 ·have d:y≠x:=fun e=>by rw[e,a2]at t;cases t
  have o:c≠x:=fun e=>by rw[e]at w;omega
  rw[v _ d,v _ o,f _ _ O w d o];exact⟨n,w,H⟩
 ·cases m;grind
 ·cases m;grind
 ·by_cases j:c=x
  ·exact .inr (by simp[j])
  ·rw[v c j]at n ⊢;exact(m.wY c n w).imp_right fun h=>by simp[h]
theorem gX.drop(m:gX hm lt ch au rows (x::W))(P:ch x=[])(n:hm' (-1)=0)(o:hm' x=0)(f:∀y,y≠x->hm' y=hm y)(u:∀a b,0<hm a->0<hm b->a≠x->b≠x->lt a b=true->lt' a b=true):gX hm' lt' ch au rows W:=by
 obtain⟨d,Q⟩:=m.wm x (by simp);have j:=alo.1 m.wn;refine⟨m.pr.other n fun y c w v t H=>?_,m.dg,m.rr,fun h c C=>?_,j.2,fun c L=>?_,fun c v t=>?_⟩
 ·have F:y≠x:=Z;have N:c≠x:=fun e=>by rw[e]at w;exact m.QV d _ w
  grind
 ·cases m;grind
 ·cases m;grind
 cases m;grind
def fY(x p z:Int):Int:=if z=x then p else if z=p then x else z
theorem nB:fY x p x=p:=by unfold fY;omega
theorem AL:fY x p p=x:=by
 unfold fY;omega
theorem jJ(w:c≠x)(n:c≠p):fY x p c=c:=by unfold fY;omega
theorem oI(z:Int):fY x p (fY x p z)=z:=by
 grind [nB,AL,jJ]
theorem QW{u v:Int}(h:fY x p u=fY x p v):u=v:=by grind [oI]
def Co(ch:Int->List Int)(x p:Int):Int->List Int:=fun z=>(ch (fY x p z)).map (fY x p)
def GJ(au:Int->Int)(x p:Int):Int->Int:=fun z=>fY x p (au (fY x p z))
theorem xa(w:x∉l)(n:p∉l):l.map (fY x p)=l:=by
 have:l.map (fY x p)=l.map id:=al7 (by grind [fY]);simp_all
theorem F2(h:l.Nodup):(l.map (fY x p)).Nodup:=by
 grind [QW]
theorem QX(z:Int):(Co ch x p (fY x p z)).length=(ch z).length:=by unfold Co;rw[oI,alA]
theorem mw{z:Int}:z∈l.map (fY x p)↔fY x p z∈l:=by
 grind [oI]
theorem gX.swap(m:gX hm lt ch au rows W)(v:x∈ch p)(F:∀z c,c∈ch z->lt z c=true->lt' (fY x p z) (fY x p c)=true):
  gX hm lt' (Co ch x p) (GJ au x p) (fun h=>(rows h).map (fY x p)) (W.map (fY x p)):=by
 obtain⟨d,o,f,u,H⟩:=m.pr.dn p x v;have V:=m.pr.ne v;have N:∀z,hm (fY x p z)=hm z:=by grind [fY]
 have Q:fY x p (-1)= -1:=by grind [fY]
 have j:∀z,fY x p z= -1↔z= -1:=by grind [fY]
 have I:∀z,GJ au x p z= -1↔au (fY x p z)= -1:=fun z=>j _;refine⟨⟨m.pr.h0,fun z c w=>?_,fun c z w G=>?_,fun z=>F2 (m.pr.nd _)⟩,fun z i c w=>?_,fun h=>?_,fun h c w=>?_,F2 m.wn,fun c w=>?_,fun c n e=>?_⟩
 ·have t:=mw.1 w;obtain⟨n,e,P,L,C⟩:=m.pr.dn _ _ t;grind [GJ,oI]
 ·have n:au (fY x p c)=fY x p z:=by rw[<-w];unfold GJ;rw[oI]
  exact mw.2 (m.pr.up _ _ n Z)
 ·cases m;grind [Co,QX]
 ·unfold B8;rw[List.pairwise_map];exact(m.rr h).imp (by grind [fY,Co])
 ·cases m;grind [mw]
 ·cases m;grind [mw]
 cases m;grind [mw]
def lx(lt:Int->Int->Bool)(x:Int):Int->Int->Bool:=fun a b=>decide (a=x) || decide (b=x) || lt a b
theorem OB(h:lt a b=true):lx lt x a b=true:=by unfold lx;simp[h]
theorem Cp(h:lx lt x a b=true)(w:a≠x)(n:b≠x):lt a b=true:=by
 unfold lx at h;grind
structure Iq(hm:Int->Int)(lt:Int->Int->Bool)(ch:Int->List Int)(au:Int->Int)(rows:Int->List Int)(W:List Int)(x:Int):Prop where
 w:gX hm (lx lt x) ch au rows W
 by_:au x≠ -1->∀d∈ch x,lt (au x) d=true
theorem Iq.start(f:bA lt)(m:gX hm lt ch au rows W)(H:∀a b,0<hm a->0<hm b->a≠x->b≠x->lt' a b=lt a b):Iq hm lt' ch au rows W x:=by
 have nx:x∉ch x:=fun h=>by have:=m.less h;omega
 refine⟨m.other fun z c t h=>?_,fun o d j=>?_⟩
 ·by_cases w:z=x
  ·unfold lx;simp[w]
  ·by_cases n:c=x
   ·unfold lx;simp[n]
   ·obtain⟨_,_,v,e,_⟩:=m.pr.dn z c t;grind [OB]
 ·have u:=m.pr.up x _ rfl o;obtain⟨_,_,v,e,P⟩:=m.pr.dn _ _ u;obtain⟨_,_,L,C,F⟩:=m.pr.dn _ _ j;cases f;grind
theorem Iq.up(V:bA lt)(m:Iq hm lt ch au rows W x)(n:x∈ch p):Iq hm lt (Co ch x p) (GJ au x p) (fun h=>(rows h).map (fY x p)) (W.map (fY x p)) x:=by
 have u:=m.w.pr.dn p x n;have D:=m.w.less n;have P:p≠x:=Z;have E:au x=p:=u.1;have nx:∀c,c∈ch x->c≠x/\c≠p:=fun c v=>by
  have:=m.w.less v;grind
 refine⟨m.w.swap n fun z c v h=>?_,fun I d t=>?_⟩
 ·by_cases f:z=x
  ·cases m;grind [nB,jJ,OB]
  ·by_cases N:z=p
   ·rw[N,AL];unfold lx;simp
   ·by_cases G:c=x
    ·have:=(m.w.pr.dn z c v).1;grind
    grind [lx,AL,jJ]
 ·have L:GJ au x p x=fY x p (au p):=by unfold GJ;rw[nB]
  have Q:au p≠ -1:=fun e=>I (by rw[L,e];exact jJ (Ne.symm (m.w.pr.ne n)) (Ne.symm u.2.1));have H:=m.w.pr.up p _ rfl Q;have M:=m.w.less H;have o:au p≠x:=Z;have F:au p≠p:=Z;rw[L,jJ o F];have f:=Cp (m.w.pr.dn _ _ H).2.2.2.2 o P;unfold Co at t;rw[nB]at t;have w:=mw.1 t;by_cases C:d=p
  ·grind
  ·have j:d≠x:=fun e=>by
    rw[e,nB]at w;have:=m.w.less w;omega
   rw[jJ j C]at w;exact V.tr _ _ _ f (Cp (m.w.pr.dn p d w).2.2.2.2 P j)
theorem Iq.low(f:bA lt)(m:Iq hm lt ch au rows W x)(u:x∈ch p)(j:lt x p=true):∀d∈Co ch x p x,lt x d=true:=by
 intro d n;have H:=m.w.less u;have o:p≠x:=Z;unfold Co at n;rw[nB]at n;have w:=mw.1 n;by_cases t:d=p
 ·grind
 ·have v:d≠x:=fun e=>by
   rw[e,nB]at w;have:=m.w.less w;omega
  rw[jJ v t]at w;exact f.tr _ _ _ j (Cp (m.w.pr.dn p d w).2.2.2.2 o v)
theorem Iq.done(m:Iq hm lt ch au rows W x)(j:∀d∈ch x,lt x d=true)(o:au x≠ -1->lt (au x) x=true):gX hm lt ch au rows W:=by
 refine m.w.other fun z c v h=>?_;by_cases w:z=x
 ·grind
 ·by_cases n:c=x
  ·obtain⟨e,t,_⟩:=m.w.pr.dn z c v;grind
  ·exact Cp h w n
end
section
variable {hm hm' : Int → Int} {lt : Int → Int → Bool} {K K' : Int → Bool → Int} {U U' T : Int → Int} {a b r : Int}
theorem tj.join(t:tj hm lt K U T)(v:hm' (-1)=0)(d:a≠b)(j:0<a)(e:∀y,hm' y=if hm y=b then a else hm y):
  Mg hm' lt a (fun y=>0<hm' y/\U y= -1/\y≠T a/\y≠T b) K U [] (T a) (T b):=by
 refine Mg.start (t.bt.other v fun x p u f n w m=>?_) j ?_ ?_ ?_
 ·rw[e,e,n];refine⟨rfl,?_,m⟩;split<;>omega
 ·by_cases h:T a= -1
  ·exact .inl h
  ·obtain⟨n,_,w⟩:=t.t1 a h;exact .inr ⟨by rw[e,n,if_neg d],w⟩
 ·by_cases h:T b= -1
  ·exact .inl h
  ·obtain⟨n,_,w⟩:=t.t1 b h;exact .inr ⟨by rw[e,n,if_pos rfl],w⟩
 ·intro h;apply alt;intro w;have m:=(t.t1 a w).1;have o:=(t.t1 b (h▸w)).1;rw[h]at m;omega
theorem tj.GK(t:tj hm lt K U T)(H:hm' (-1)=0)(C:a≠b)(L:0<a)(F:0<b)(e:∀y,hm' y=if hm y=b then a else hm y)
  (m:Mg hm' lt a (fun y=>0<hm' y/\U y= -1/\y≠T a/\y≠T b) K' U' [] r (-1)):tj hm' lt K' U' (cR (cR T a r) b (-1)):=by
 have key:cR (cR T a r) b (-1)=cR (cR T b (-1)) a r:=by
  funext y;unfold cR;grind
 rw[key];refine m.done (fun g f w=>?_) (fun x u=>?_)
 ·unfold cR at w ⊢;split at w
  ·exact absurd rfl w
  ·rename_i v;rw[if_neg v];obtain⟨n,j,d⟩:=t.t1 g w;have o:hm' (T g)=g:=by rw[e,n,if_neg v]
   refine⟨o,j,O,d,fun h=>?_,fun h=>?_⟩
   ·have:=(t.t1 a (h▸w)).1;rw[<-h,n]at this;exact f this
   ·have:=(t.t1 b (h▸w)).1;rw[<-h,n]at this;exact v this
 ·obtain⟨n,j,d,o⟩:=u;have P:=t.t2 x;unfold cR;grind
end
section
variable {hm hm' : Int → Int} {lt lt' : Int → Int → Bool} {ch : Int → List Int} {au : Int → Int} {aw : Int → List Int} {W A : List Int} {nx pv : Int → Int} {x g T y : Int}
theorem Pr.root(q:Pr hm lt ch au)(v:bA lt){n:Nat}(e:∀x,0<hm x->0<=x/\x<n):∀ (k:Nat) {x:Int},Ko lt n x<=k->0<hm x->∃r,hm r=hm x/\au r= -1/\(r=x\/lt r x=true):=by
 intro k;induction k with
 |zero=>
  intro x d o;by_cases m:au x= -1
  ·grind
  ·obtain⟨_,_,t,j,w⟩:=q.dn _ _ (q.up x _ rfl m);have:=B7 v (n:=n) (e _ O) w;omega
 |succ k f=>
  intro x d o;by_cases m:au x= -1
  ·grind
  ·obtain⟨_,_,t,j,w⟩:=q.dn _ _ (q.up x _ rfl m);have:=B7 v (n:=n) (e _ O) w;cases v;grind
theorem Pr.lead(q:Pr hm lt ch au)(w:bA lt){n:Nat}(m:∀x,0<hm x->0<=x/\x<n)(v:0<g)(h:∀c,hm c=g->au c= -1->T≠ -1/\(c≠T->lt T c=true))(e:hm y=g):T≠ -1/\(y≠T->lt T y=true):=by
 obtain⟨r,t,j,d⟩:=q.root w m _ (alj _) (x:=y) O;cases w;grind
theorem dV.SD(m:dV hm lt nx ch au aw W)(hi:w9 nx pv)(v:aw g=x::A):dV hm lt (qZ nx x (pv x)) ch au (ay aw g A) (x::W):=by
 have n:=m.rc g;rw[v]at n;rcases List.eq_nil_or_concat A with h| ⟨B,y,h⟩
 ·subst h;have j:nx x=x:=n;have w:pv x=x:=by
   have:=hi.pn x;grind
  rw[w,Io];exact m.W8 v
 ·rw[List.concat_eq_append]at h;subst h;have w:pv x=y:=mi.last (A:=B) hi n;rw[w];have e:=m.W7 (A:=B) (y:=y) v;have t:=e.tH (g:=g) (l:=B++[y]) (by
   unfold ay;grind) (by
   have:=e.rc g;grind [ay,mi.VU])
  rwa[cP]at t
theorem dV.from_(m:dV hm lt nx ch au aw W)(v:x∈aw g):∃A,(aw g).Perm (x::A)/\dV hm lt nx ch au (ay aw g (x::A)) W:=by
 obtain⟨A,w,n⟩:=(m.rc g).from v;exact⟨A,w,m.tH w n⟩
end
section
variable {hm hm' : Int → Int} {lt : Int → Int → Bool} {nx L8 : Int → Int} {ch : Int → List Int} {au : Int → Int} {aw : Int → List Int} {a b : Int} {l : List Int}
theorem dV.vl(m:dV hm lt nx ch au aw [])(j:hm' (-1)=0)(P:a≠b)(H:0<a)(L:0<b)(e:∀y,hm' y=if hm y=b then a else hm y)
  (C:∀c,c∈l↔c∈aw a\/c∈aw b)(w:mi L8 l)(f:l.Nodup)(n:∀c,c∉aw a->c∉aw b->L8 c=nx c):dV hm' lt L8 ch au (ay (ay aw a l) b []) []:=by
 have N:=m.rm;have no:∀x c,c∈ch x->c∉aw a/\c∉aw b:=fun x c h=>⟨(m.Ip h).1 a,(m.Ip h).1 b⟩;refine⟨m.pr.other j fun x c w d u o=>?_,fun x=>(m.cy x).frame fun c w=>n c (no x c w).1 (no x c w).2,fun h=>?_,fun h=>?_,fun h c t=>?_,amy,by simp,fun c v F=>?_,fun c v=>?_⟩
 ·rw[e,e,d];refine⟨rfl,?_,o⟩;split<;>omega
 ·unfold ay;split
  ·trivial
  ·split
   ·exact w
   ·refine(m.rc h).frame fun c t=>n c ?_ ?_<;>grind
 ·unfold ay;have:=m.rn h;split
  ·simp
  ·split
   ·exact f
   ·exact this
 ·unfold ay at t;rw[e];grind
 ·have:=m.wY c;rw[e]at v ⊢;unfold ay;grind
 ·have:=m.lone c;rw[e]at v;rw[n c]<;>grind
end
section
variable {hm hm' : Int → Int} {lt : Int → Int → Bool} {ch jD : Int → List Int} {au dh T : Int → Int} {a b r : Int}
theorem L0.join(t:L0 hm lt ch au T)(v:hm' (-1)=0)(u:a≠b)(o:0<a)(H:0<b)(e:∀y,hm' y=if hm y=b then a else hm y):
  w8 hm' lt a (fun y=>0<hm' y/\au y= -1/\y≠T b/\y≠T a) ch ch au (ws [T a,T b]):=by
 have f:=t.tp.t1 a;have tb:=t.tp.t1 b;have mem:∀y,y∈ws [T a,T b]↔y≠ -1/\(y=T a\/y=T b):=by grind [ws]
 refine⟨t.pr.other v fun x c P j w m=>?_,?_,fun x n=>?_,fun x n=>?_,fun x n=>⟨n.1,?_⟩,fun _ _=>rfl,o⟩
 ·rw[e,e,j];refine⟨rfl,?_,m⟩;split<;>omega
 ·unfold ws;by_cases h:T a= -1
  ·by_cases w:T b= -1<;>simp[h,w]
  ·by_cases w:T b= -1
   ·simp[h,w]
   ·have m:T a≠T b:=fun d=>by
     have:=(f h).1;have:=(tb w).1;rw[d]at*;omega
    simp[h,w,m]
 ·rw[mem]at n;rw[e];grind
 ·grind
 ·rw[mem];grind
theorem L0.GK(t:L0 hm lt ch au T)(o:hm' (-1)=0)(P:a≠b)(H:0<a)(L:0<b)(e:∀y,hm' y=if hm y=b then a else hm y)
  (m:w8 hm' lt a (fun y=>0<hm' y/\au y= -1/\y≠T b/\y≠T a) ch jD dh (ws [r])):L0 hm' lt jD dh (cR (cR T a r) b (-1)):=by
 have key:cR (cR T a r) b (-1)=cR (cR T b (-1)) a r:=by
  funext y;unfold cR;grind
 rw[key];refine⟨m.pr,m.done (fun g C j=>?_) (fun x d=>?_)⟩
 ·unfold cR at j ⊢;have w:=t.tp.t1 g;have n:=t.tp.t1 a;have v:=t.tp.t1 b;grind
 ·obtain⟨w,n,v,f⟩:=d;have u:=t.tp.t2 x;unfold cR;grind
end
section
variable {hm : Int → Int} {ch : Int → List Int} {a b now out : List Int} {c g p q x y : Int} {k ia ib io : Nat}
structure lu(hm:Int->Int)(ch:Int->List Int)(g:Int)(k ia ib io:Nat)(a b now out:List Int):Prop where
 ra:B8 ch a
 rb:B8 ch b
 ro:B8 ch out
 ka:∀c∈a,ia<=(ch c).length
 kb:∀c∈b,ib<=(ch c).length
 kn:∀c∈now,(ch c).length=k
 ko:∀c∈out,(ch c).length<io
 hg:∀c,c∈a\/c∈b\/c∈now\/c∈out->hm c=g
theorem lu.Xa(h:lu hm ch g k k ib io (c::a) b now out)(e:(ch c).length=k):lu hm ch g k (k+1) ib io a b (now++[c]) out:=by
 have n:=amL.1 h.ra;refine⟨n.2,h.rb,h.ro,fun d w=>?_,h.kb,fun d w=>?_,h.ko,fun d w=>?_⟩
 ·grind
 ·cases h;grind
 ·refine h.hg d ?_;grind
theorem lu.Ir(h:lu hm ch g k ia k io a (c::b) now out)(e:(ch c).length=k):lu hm ch g k ia (k+1) io a b (now++[c]) out:=by
 have n:=amL.1 h.rb;refine⟨h.ra,n.2,h.ro,h.ka,fun d w=>?_,fun d w=>?_,h.ko,fun d w=>?_⟩
 ·grind
 ·cases h;grind
 ·refine h.hg d ?_;grind
theorem lu.SE(h:lu hm ch g k k ib io a b now out)(e:∀c,a.head? =some c->(ch c).length≠k):lu hm ch g k (k+1) ib io a b now out:=by
 refine⟨h.ra,h.rb,h.ro,fun d w=>?_,h.kb,h.kn,h.ko,h.hg⟩;cases a with
 |nil=>cases w
 |cons c a=>
  have n:=e c rfl;have m:=h.ka c (by simp);rcases alF.1 w with rfl|w
  ·omega
  ·have:=(amL.1 h.ra).1 d w;omega
theorem lu.SF(h:lu hm ch g k ia k io a b now out)(e:∀c,b.head? =some c->(ch c).length≠k):lu hm ch g k ia (k+1) io a b now out:=by
 refine⟨h.ra,h.rb,h.ro,h.ka,fun d w=>?_,h.kn,h.ko,h.hg⟩;cases b with
 |nil=>cases w
 |cons c b=>
  have n:=e c rfl;have m:=h.kb c (by simp);rcases alF.1 w with rfl|w
  ·omega
  ·have:=(amL.1 h.rb).1 d w;omega
theorem lu.abh(h:lu hm ch g k ia ib k a b (c::now) out):lu hm ch g k ia ib (k+1) a b now (out++[c]):=by
 have n:=h.kn c (by simp);refine⟨h.ra,h.rb,?_,h.ka,h.kb,fun d w=>h.kn d (by simp[w]),fun d w=>?_,fun d w=>h.hg d ?_⟩
 ·unfold B8;rw[List.pairwise_append];refine⟨h.ro,by simp,fun u m v e=>?_⟩;cases h;grind
 ·cases h;grind
 grind
theorem lu.Xb(h:lu hm ch g k (k+1) (k+1) io a b [] out)(n:io<=k+1):lu hm ch g (k+1) (k+1) (k+1) (k+1) a b [] out:=
 ⟨h.ra,h.rb,h.ro,h.ka,h.kb,by simp,fun c w=>by have:=h.ko c w;omega,h.hg⟩
theorem lu.Xc(h:lu hm ch g k (k+1) (k+1) io a b [x,y] out)(e:io<=k+1)(j:p=x\/p=y)(t:p∉a/\p∉b/\p∉out):lu hm (ay ch p (ch p++[q])) g (k+1) (k+1) (k+1) (k+1) a b [p] out:=by
 have ne:∀c,c≠p->ay ch p (ch p++[q]) c=ch c:=by grind [ay]
 have o:ay ch p (ch p++[q]) p=ch p++[q]:=by unfold ay;grind
 have n:∀c∈a,ay ch p (ch p++[q]) c=ch c:=Z;have m:∀c∈b,ay ch p (ch p++[q]) c=ch c:=Z;have v:∀c∈out,ay ch p (ch p++[q]) c=ch c:=Z;have d:p∈[x,y]:=Z;refine⟨h.ra.frame Z,h.rb.frame Z,h.ro.frame Z,fun c w=>by rw[n c w];exact h.ka c w,fun c w=>by rw[m c w];exact h.kb c w,fun c w=>?_,fun c w=>?_,fun c w=>h.hg c ?_⟩
 ·cases h;grind
 ·cases h;grind
 grind
end
theorem gX.vl{hm hm':Int->Int}{lt:Int->Int->Bool}{ch rows:Int->List Int}{au:Int->Int}{W:List Int}{a b:Int}(m:gX hm lt ch au rows W)(v:hm' (-1)=0)(o:a≠b)(d:0<a)(f:0<b)(e:∀y,hm' y=if hm y=b then a else hm y):
  gX hm' lt ch au (ay rows b []) (rows b++W):=by
 have l:=m.loose b;have n:∀c,0<hm c->0<hm' c:=Z;refine⟨m.pr.other v Z,l.dg,l.rr,fun h c w=>?_,l.wn,fun c w=>⟨(l.wm c w).1,n c (l.wm c w).2⟩,fun c t j=>?_⟩
 ·cases l;grind [ay]
 cases m;grind [ay]
end Go.Proofs.YtnanofhkpglbaaaGreatDoor
