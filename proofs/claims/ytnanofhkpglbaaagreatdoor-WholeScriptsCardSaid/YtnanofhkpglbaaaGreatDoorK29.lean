/- Texts put behind each other. -/
import Derived.Test.YtnanofhkpglbaaaGreatDoorK0
import Derived.Test.YtnanofhkpglbaaaGreatDoorK28
set_option linter.unusedSimpArgs false
set_option linter.unusedVariables false
set_option maxRecDepth 100000
set_option maxHeartbeats 80000000
namespace Go.Proofs.YtnanofhkpglbaaaGreatDoor
open Go Go.Vc
section
variable{x z a:Int}{s:Nat}
inductive Rl where
 |no
 |O8
 |cell
 |JE
 |Dt
 |table
 |row(g:Int)
 |re(x:Int)
def su(V:Int->Value)(x:Int)(v:Value):Int->Value:=fun z=>if z=x then v else V z
theorem TV(V:Int->Value)(x:Int)(v:Value):su V x v x=v:=by unfold su;grind
theorem TW{V:Int->Value}{v:Value}(h:z≠x):su V x v z=V z:=by unfold su;grind
theorem TY(U:Int->Int)(x v:Int):aM U x v x=v:=by unfold aM;omega
theorem TZ{U:Int->Int}{v:Int}(h:z≠x):aM U x v z=U z:=by unfold aM;omega
structure lO(H:Hp)(fb tb n:Nat)(l:List Value)(V:Int->Value)(U:Int->Int):Prop where
 own:H.own fb=some [.slice (some ⟨tb,0,none⟩) n n]
 sA:H.own tb=some l
 len:l.length=n*2
 at_:∀x:Int,0<=x->x<n->l[x.toNat*2]? =some (V x)/\l[x.toNat*2+1]? =some (i64 (U x))
 ne:fb≠tb
section
variable {H J : Hp} {fb tb n : Nat} {l : List Value} {V : Int → Value} {U : Int → Int} {T : Nat → Prop}
theorem lO.ext(h:lO H fb tb n l V U)(e:aj T H J)(z:¬T fb)(a:¬T tb):lO J fb tb n l V U:=⟨e.own h.own z,e.own h.sA a,h.len,h.at_,h.ne⟩
theorem lO.su(h:lO H fb tb n l V U)(y:0<=x/\x<n)(v:Value):lO (H.wr tb (l.set (x.toNat*2) v)) fb tb n (l.set (x.toNat*2) v) (su V x v) U/\aj (fun z=>z=tb) H (H.wr tb (l.set (x.toNat*2) v)):=by
 have e:aj (fun z=>z=tb) H (H.wr tb (l.set (x.toNat*2) v)):=(aj.refl (fun z=>z=tb) _).wr (fun _=>rfl) _;have g:=h.len;refine⟨⟨e.own h.own h.ne,ah h.sA,Z,fun z m c=>?_,h.ne⟩,e⟩;obtain⟨a1,a2⟩:=h.at_ z m c;refine⟨?_,Z⟩;by_cases a:z=x
 ·rw[a,TV,aln O]
 ·rw[TW a,alh O];exact a1
theorem lO.aM(h:lO H fb tb n l V U)(g:0<=x/\x<n)(u:Int):lO (H.wr tb (l.set (x.toNat*2+1) (i64 u))) fb tb n (l.set (x.toNat*2+1) (i64 u)) V (aM U x u)/\aj (fun z=>z=tb) H (H.wr tb (l.set (x.toNat*2+1) (i64 u))):=by
 have e:aj (fun z=>z=tb) H (H.wr tb (l.set (x.toNat*2+1) (i64 u))):=(aj.refl (fun z=>z=tb) _).wr (fun _=>rfl) _;have v:=h.len;refine⟨⟨e.own h.own h.ne,ah h.sA,Z,fun z m c=>?_,h.ne⟩,e⟩;obtain⟨a1,a2⟩:=h.at_ z m c;refine⟨Z,?_⟩;by_cases a:z=x
 ·rw[a,TY,aln O]
 ·rw[TZ a,alh O];exact a2
theorem lO.O9(h:lO H fb tb n l V U):fb<H.size/\tb<H.size:=⟨aB h.own,aB h.sA⟩
end
structure ForM(H:Hp)(ro:Nat->Rl)(fb tb n:Nat)(l:List Value)(V:Int->Value)(ch:Int->List Int)(au:Int->Int)(kb:Int->Option Nat):Prop where
 t:lO H fb tb n l V au
 kd:∀x:Int,0<=x->x<n->Sl H 1 (V x) (ch x).length ((ch x).map i64) (kb x)
 rf:ro fb= .Dt
 rt:ro tb= .table
 rk:∀ (x:Int) b,0<=x->x<n->kb x=some b->ro b= .re x
 EE:∀x c,c∈ch x->0<=c/\c<n
 no:∀x:Int,¬ (0<=x/\x<n)->ch x=[]
structure RK(s:Nat)(ro ro':Nat->Rl):Prop where
 o:∀z,z<s->(∀x,ro z≠ .re x)->ro' z=ro z
 k:∀z x,z<s->ro z= .re x->∃y,ro' z= .re y
 n:∀z,s<=z->ro' z= .no\/∃y,ro' z= .re y
theorem RK.refl{ro:Nat->Rl}(h:∀z,s<=z->ro z= .no):RK s ro ro:=⟨fun _ _ _=>rfl,Z,Z⟩
theorem RK.trans{e:Nat}{c v r3:Nat->Rl}(h:RK s c v)(a:RK e v r3)(y:s<=e):RK s c r3:=by
 refine⟨fun z m g=>?_,fun z x m t=>?_,fun z m=>?_⟩
 ·cases h;cases a;grind
 ·cases h;cases a;grind
 cases h;cases a;grind
def KB(ro:Nat->Rl)(z:Nat):Prop:=ro z= .table\/∃x,ro z= .re x
section
variable {H J : Hp} {ro ro' : Nat → Rl} {fb tb n : Nat} {l : List Value} {V : Int → Value} {ch : Int → List Int} {au : Int → Int} {kb : Int → Option Nat} {T : Nat → Prop}
theorem ForM.ext(m:ForM H ro fb tb n l V ch au kb)(e:aj T H J)(h:∀z,(ro z= .Dt\/KB ro z)->¬T z):ForM J ro fb tb n l V ch au kb:=
 ⟨m.t.ext e (h _ (.inl m.rf)) (h _ (.inr (.inl m.rt))),fun x a c=>(m.kd x a c).ext e (fun b v=>h _ (.inr (.inr ⟨x,m.rk x b a c v⟩))),m.rf,m.rt,m.rk,m.EE,m.no⟩
theorem ForM.fresh(m:ForM H ro fb tb n l V ch au kb)(e:af H J):ForM J ro fb tb n l V ch au kb:=m.ext e fun _ _ h=>h
theorem ForM.shape(m:ForM H ro fb tb n l V ch au kb)(h:0<=x/\x<n):∃a c,V x= .slice a (ch x).length c:=Sl.shape (m.kd x h.1 h.2)
theorem lP(t:lO H fb tb n l V au)(x:Int):aD 413 [ptr fb,i64 x] H fun v J=>ak (v= .bool (decide (0<=x/\x<n))/\J=H):=by
 refine aL vW ?_;refine vs ?_;refine ai.dec (fun z=>?_) (fun z=>?_)<;>refine v1 (ae t.own) ?_
 ·refine⟨?_,rfl⟩;rw[show(decide (0<=x/\x< (n:Int)))=decide (x< (n:Int)) by simp[z]];rfl
 ·refine⟨?_,rfl⟩;rw[alc (fun h=>z h.1)];rfl
theorem gT(t:lO H fb tb n l V au)(x:Int):aD 415 [ptr fb,i64 x] H fun v J=>ak (v= .bool (decide (0<=x/\x<n) && decide (au x= -1))/\J=H):=by
 refine aL ua ?_;refine vs ?_;refine(lP t x).mono ?_;rintro _ J ⟨rfl,e⟩;obtain rfl:=e.symm;by_cases h:0<=x/\x<n
 ·rw[ale h];have z:=t.len;obtain⟨a1,a2⟩:=t.at_ x h.1 h.2;refine v1 (ae t.own) ?_;refine⟨O,?_⟩;refine v3 (ae t.sA) ak7 a2 ?_;exact⟨rfl,rfl⟩
 ·rw[alc h];refine vs ?_;exact⟨rfl,rfl⟩
theorem dD(m:ForM H ro fb tb n l V ch au kb)(x:Int):aD 419 [ptr fb,i64 x] H fun v J=>ak (v=i64 (ch x).length/\J=H):=by
 refine aL qF ?_;refine vs ?_;refine(lP m.t x).mono ?_;rintro _ J ⟨rfl,e⟩;obtain rfl:=e.symm;by_cases h:0<=x/\x<n
 ·rw[ale h];have g:=m.t.len;obtain⟨a1,a2⟩:=m.t.at_ x h.1 h.2;obtain⟨a,c,z⟩:=m.shape h;rw[z]at a1;refine v1 (ae m.t.own) ?_;refine⟨O,?_⟩;refine v4 (ae m.t.sA) ak7 Nat.add_zero a1 ?_;exact⟨rfl,rfl⟩
 ·rw[alc h,m.no x h];refine vs ?_;exact⟨rfl,rfl⟩
theorem nf(t:lO H fb tb n l V au)(z:0<=x/\x<n):aD 406 [ptr fb,i64 x] H fun v J=>ak (((au x= -1/\v= .tuple [i64 0,.bool false].toArray)\/(au x≠ -1/\v= .tuple [i64 (au x),.bool true].toArray))/\J=H):=by
 refine aL xG ?_;refine vs ?_;refine(lP t x).mono ?_;rintro _ J ⟨rfl,e⟩;obtain rfl:=e.symm;rw[ale z];have a:=t.len;obtain⟨a1,a2⟩:=t.at_ x z.1 z.2;refine v1 (ae t.own) ?_;refine⟨O,?_⟩;refine v3 (ae t.sA) ak7 a2 ?_;refine ai.dec (fun h=>?_) (fun h=>?_)<;>refine vs ?_
 ·exact⟨.inl ⟨h,rfl⟩,rfl⟩
 refine v1 (ae t.own) ?_;refine⟨O,?_⟩;refine v3 (ae t.sA) ak7 a2 ?_;exact⟨.inr ⟨h,rfl⟩,rfl⟩
theorem Pa{H:Hp}{T:TypeId}{w:Value}{xs:List Int}{fp:Option Nat}{K:Value->Hp->Prop}(s:Sl H 1 w xs.length (xs.map i64) fp)(x:Int)(p:xs.length<=1000000000000)
  (r:∀w' J a,(a=fp\/∃b,a=some b/\H.size<=b/\b<J.size)->Sl J 1 w' (xs++[x]).length ((xs++[x]).map i64) a->aj (fun z=>fp=some z) H J->K w' J):
  eh T 1 8 [i64 0] w (.slice (some ⟨H.size,0,none⟩) 1 1) (H.new T [i64 x]) K:=by
 have m:af H (H.new T [i64 x]):=bm;refine Sl.append (s.ext m (fun _ _ h=>h)) (Sl.bs (size:=1) (n:=1) (xs:=[i64 x]) rfl rfl).rd rfl (tw [x]) O ?_;intro d J a o c t;refine r d J a (t.imp_right fun⟨b,e,g,y⟩=>⟨b,e,by rw[ag]at g;omega,y⟩) Z ⟨alw m.size c.size,fun z v j=>?_⟩;rw[c.aW z (alp v m.size) j,m.aW z v (fun h=>h)]
theorem ForM.put(m:ForM H ro fb tb n l V ch au kb)(o:∀z,H.size<=z->ro z= .no)(u:0<=a/\a<n){H2:Hp}(e:aj (fun z=>kb a=some z) H H2){w':Value}{L':List Int}{v:Option Nat}(s:Sl H2 1 w' L'.length (L'.map i64) v)
  (Q:v=kb a\/v=none\/∃b,v=some b/\H.size<=b/\b<H2.size)(hL:∀c∈L',0<=c/\c<n):
  ∃ro' D,ForM (H2.wr tb (l.set (a.toNat*2) w')) ro' fb tb n (l.set (a.toNat*2) w') (su V a w') (ay ch a L') au D/\RK H.size ro ro'/\(∀z,(H2.wr tb (l.set (a.toNat*2) w')).size<=z->ro' z= .no)/\aj (KB ro) H (H2.wr tb (l.set (a.toNat*2) w')):=by
 have L:∀z,kb a=some z->ro z= .re a:=fun z h=>m.rk a z u.1 u.2 h;have W:¬kb a=some fb:=fun h=>by have:=L _ h;rw[m.rf]at this;grind
 have G:¬kb a=some tb:=fun h=>by have:=L _ h;rw[m.rt]at this;grind
 obtain⟨z1,z2⟩:=m.t.O9;have E:=m.t.ext e W G;obtain⟨X,f⟩:=E.su u w';have hs:=e.size;have Wc:(H2.wr tb (l.set (a.toNat*2) w')).size=H2.size:=bE _ _ _;have I:∃ro':Nat->Rl,(∀b,v=some b->ro' b= .re a)/\(∀z,z<H.size->ro' z=ro z)/\RK H.size ro ro'/\∀z,H2.size<=z->ro' z= .no:=by
  rcases Q with h|h| ⟨b,h,QI,N⟩
  ·exact⟨ro,Z,fun _ _=>rfl,RK.refl o,Z⟩
  ·refine⟨ro,fun b g=>?_,fun _ _=>rfl,RK.refl o,Z⟩;grind
  ·refine⟨fun z=>if z=b then .re a else ro z,fun b' p=>?_,fun z j=>?_,⟨fun z j _=>?_,fun z x j C=>⟨x,?_⟩,fun z j=>?_⟩,fun z j=>?_⟩
   ·rw[h]at p;injection p with p;simp[p]
   ·show(if z=b then Rl.re a else ro z)=_;rw[if_neg O]
   ·show(if z=b then Rl.re a else ro z)=_;rw[if_neg O]
   ·show(if z=b then Rl.re a else ro z)=_;rw[if_neg O];exact C
   ·show(if z=b then Rl.re a else ro z)=_\/∃y,(if z=b then Rl.re a else ro z)=_;split
    ·exact .inr ⟨a,rfl⟩
    ·exact .inl (o z j)
   ·show(if z=b then Rl.re a else ro z)=_;rw[if_neg O];exact o z O
 obtain⟨ro',r1,F,M,r4⟩:=I;have hfl:∀b,v=some b->b≠tb:=Z;refine⟨ro',fun z=>if z=a then v else kb z,⟨X,fun x t r=>?_,by rw[F _ z1];exact m.rf,by rw[F _ z2];exact m.rt,fun x b t r g=>?_,fun x c P=>?_,fun x C=>?_⟩,M,Z,(e.mono fun z _ h=>.inr ⟨a,L z h⟩).trans (f.mono fun z _ h=>.inl (by rw[h];exact m.rt))⟩
 ·unfold su ay;by_cases K:x=a
  ·simp only[K,if_true];exact s.ext f O
  ·simp only[if_neg K];refine((m.kd x t r).ext e (fun b g N=>?_)).ext f (fun b g e=>?_)
   ·have d:=m.rk x b t r g;grind
   ·have d:=m.rk x b t r g;rw[e,m.rt]at d;cases d
 ·split at g
  ·grind
  ·have d:=m.rk x b t r g;grind
 ·unfold ay at P;split at P
  ·grind
  ·exact m.EE x c P
 ·unfold ay;rw[if_neg O];exact m.no x C
theorem ForM.aM(m:ForM H ro fb tb n l V ch au kb)(t:0<=x/\x<n)(u:Int):ForM (H.wr tb (l.set (x.toNat*2+1) (i64 u))) ro fb tb n (l.set (x.toNat*2+1) (i64 u)) V ch (aM au x u) kb/\aj (KB ro) H (H.wr tb (l.set (x.toNat*2+1) (i64 u))):=by
 obtain⟨r,a⟩:=m.t.aM t u;refine⟨⟨r,fun x c v=>(m.kd x c v).ext a (fun b y e=>?_),m.rf,m.rt,m.rk,m.EE,m.no⟩,a.mono fun z _ h=>.inl (by rw[h];exact m.rt)⟩;have g:=m.rk x b c v y;rw[e,m.rt]at g;cases g
theorem qn(m:ForM H ro fb tb n l V ch au kb)(E:∀z,H.size<=z->ro z= .no){b:Int}(g:0<=a/\a<n)(L:0<=b/\b<n)(pa:au a= -1)(pb:au b= -1)(W:a≠b)(G:(ch a).length=(ch b).length)(hl:(ch a).length<=65536):
  aD 421 [ptr fb,i64 a,i64 b] H fun v J=>ak (v= .bool true/\∃ro' l' Q p,ForM J ro' fb tb n l' Q (ay ch a (ch a++[b])) (aM au b a) p/\RK H.size ro ro'/\(∀z,J.size<=z->ro' z= .no)/\aj (KB ro) H J):=by
 have ht:=m.t.len;obtain⟨a1,a2⟩:=m.t.at_ a g.1 g.2;have X:=m.kd a g.1 g.2;have I:∀c∈ch a++[b],0<=c/\c<n:=fun c r=>by
  rcases alu.1 r with r|r
  ·exact m.EE a c r
  grind
 have C:∀z,kb a=some z->ro z= .re a:=fun z h=>m.rk a z g.1 g.2 h;have D:¬kb a=some fb:=fun h=>by have:=C _ h;rw[m.rf]at this;grind
 have M:¬kb a=some tb:=fun h=>by have:=C _ h;rw[m.rt]at this;grind
 refine aL uc ?_;refine vs ?_;refine(gT m.t a).mono ?_;rintro _ J ⟨rfl,e⟩;obtain rfl:=e.symm;rw[ale g,ale pa];refine vs ?_;refine(gT m.t b).mono ?_;rintro _ J ⟨rfl,e⟩;obtain rfl:=e.symm;rw[ale L,ale pb];refine vs ?_;refine ai.dec (fun h=>absurd h W) (fun _=>?_);refine vs ?_;refine(dD m a).mono ?_;rintro _ J ⟨rfl,e⟩;obtain rfl:=e.symm;refine vs ?_;refine(dD m b).mono ?_;rintro _ J ⟨rfl,e⟩;obtain rfl:=e.symm;rw[G];refine vs ?_;refine ai.bK (by simp) ?_;refine vs ?_;refine di.intro (fun J=>J.own fb=some [.slice (some ⟨tb,0,none⟩) n n]) m.t.own ?_;refine vs ?_;refine bG.intro (.slice (some ⟨tb,0,none⟩) n n) (fun J d=>by refine v1 (ae d) ?_;trivial) ?_;refine vs ?_;refine bG.intro (.slice (some ⟨tb,0,none⟩) n n) (fun J d=>by refine v1 (ae d) ?_;trivial) ?_;refine vs ?_;refine⟨O,?_⟩;refine vs ?_;obtain⟨z1,z2⟩:=m.t.O9;have P:af H (H.new 3 [i64 b]):=bm;have o1:=P.own m.t.own (fun h=>h);have q1:=P.own m.t.sA (fun h=>h);refine ry.intro ?A ?B;case' A=>
  refine v4 (ae m.t.sA) ak7 Nat.add_zero a1 ?_;refine And.intro m.t.own ?_;refine vs ?_;refine And.intro m.t.own ?_;refine vs ?_
 case' B=>
  refine vs ?_;refine And.intro m.t.own ?_;refine v5 (ae q1) (ae m.t.sA) ak7 Nat.add_zero a1 ?_;refine And.intro m.t.own ?_;refine vs ?_
 all_goals
  refine Pa X b O fun w' H2 Ii ww F f=>?_;obtain⟨wa,wc,rfl⟩:=Sl.shape F;have N:=m.t.ext f D M;refine And.intro N.own ?_;refine vs ?_;refine⟨O,?_⟩;refine v3 N.sA ak7 Nat.add_zero ?_;refine⟨O,?_⟩;obtain⟨ro',p,t,o,r4,j⟩:=m.put E g f F Z I;refine vs ?_;refine And.intro t.t.own ?_;refine vs ?_;have Pb:=t.t.len;generalize H2.wr tb (l.set (a.toNat*2) (Value.slice wa (ch a++[b]).length wc))=H3 at*;refine v1 (ae t.t.own) ?_;refine⟨O,?_⟩;refine v3 t.t.sA ak7 Nat.add_zero ?_;refine⟨O,?_⟩;obtain⟨m4,u⟩:=t.aM L a;refine vs ?_;refine⟨rfl,ro',_,_,p,m4,o,fun z y=>r4 z (by rw[bE]at y;exact y),?_⟩;refine⟨alw j.size u.size,fun z y K=>?_⟩;rw[u.aW z (alp y j.size) (fun h=>K ?_),j.aW z y K];rcases h with h| ⟨x,h⟩
  ·refine .inl ?_;cases o;grind
  ·refine .inr ?_;cases o;grind
end
end
abbrev dZ(x:Int)(g:Nat):Value:=.agg #[i64 x,.int .u32 (g:Int)]
def en(L:List (Nat×Bool)):List Value:=L.flatMap fun y=>[.int .u32 (y.1:Int),.bool y.2]
theorem nY(L:List (Nat×Bool)):(en L).length=L.length*2:=by
 induction L with
 |nil=>rfl
 |cons c r h=>grind [en]
theorem sB{L:List (Nat×Bool)}{i:Nat}{y:Nat×Bool}(hi:L[i]? =some y):(en L)[i*2]? =some (.int .u32 (y.1:Int))/\(en L)[i*2+1]? =some (.bool y.2):=by
 induction L generalizing i with
 |nil=>grind
 |cons a r h=>
  cases a;grind [en]
theorem zQ{L:List (Nat×Bool)}{i:Nat}{y:Nat×Bool}(hi:L[i]? =some y):(∀v:Nat,(en L).set (i*2) (.int .u32 (v:Int))=en (L.set i (v,y.2)))/\(∀b,(en L).set (i*2+1) (.bool b)=en (L.set i (y.1,b))):=by
 induction L generalizing i with
 |nil=>grind
 |cons a r h=>
  have e:en (a::r)= .int .u32 (a.1:Int):: .bool a.2::en r:=rfl;cases i with
  |zero=>grind [en]
  |succ i=>
   grind [en]
structure Nj where
 a:Nat
 sb:Nat
 fo:Option Nat
def Nj.S(B:Nj)(z:Nat):Prop:=z=B.a\/z=B.sb\/B.fo=some z
structure EF(H:Hp)(B:Nj)(A:Ar):Prop where
 own:∃tv,H.own B.a=some [.slice (some ⟨B.sb,0,none⟩) A.g.length A.g.length,tv,i64 A.nx,i64 A.ct,.int .u32 (A.mo:Int)]/\Sl H 1 tv A.wt.length (A.wt.map i64) B.fo
 sl:H.own B.sb=some (en A.g)
 ne:B.a≠B.sb/\B.fo≠some B.a/\B.fo≠some B.sb
 len:A.g.length<=65536
 ok:oF A
 gs:∀y∈A.g,y.1<=4294967295
 mo:A.mo<=4294967295
section
variable {H J : Hp} {B : Nj} {A : Ar} {T : Nat → Prop}
theorem EF.slt(m:EF H B A):∀z,B.S z->z<H.size:=by
 obtain⟨v,c,a⟩:=m.own;rintro z (rfl|rfl|h)
 ·exact aB c
 ·exact aB m.sl
 ·rw[h]at a;exact Sl.lt a
theorem EF.ext(m:EF H B A)(e:aj T H J)(h:∀z,B.S z->¬T z):EF J B A:=by
 obtain⟨g,a,c⟩:=m.own;exact⟨⟨g,e.own a (h _ (.inl rfl)),c.ext e (fun b v=>h b (.inr (.inr v)))⟩,e.own m.sl (h _ (.inr (.inl rfl))),m.ne,m.len,m.ok,m.gs,m.mo⟩
theorem EF.wtl(m:EF H B A):A.wt.length<=65536/\∀x∈A.wt,0<=x/\x<A.g.length:=by
 have h:∀x∈A.wt,0<=x/\x<A.g.length:=fun x z=>by
  have:=m.ok.wl x z;have:=m.ok.nx;omega
 exact⟨alw (ck m.ok.wd h) m.len,h⟩
theorem Li(k:Nat):dm [Value.int .u32 0,Value.bool false] k=en (List.replicate k (0,false)):=by
 unfold dm en;induction k with
 |zero=>rfl
 |succ k h=>grind
theorem Du(H:Hp){n:Int}{mo:Nat}(y:0<=n/\n<=65536)(hm:0<mo/\mo<=4294967295):aD 55 [i64 n,.int .u32 (mo:Int)] H fun v J=>ak (∃B,v= .tuple [ptr B.a,i64 0].toArray/\EF J B ⟨List.replicate n.toNat (0,false),[],0,0,mo⟩/\af H J/\∀z,B.S z->H.size<=z):=by
 refine aL AS ?_;refine vs ?_;refine ai.dec (fun g=>absurd g O) (fun _=>?_);refine vs ?_;refine ai.dec (fun g=>absurd g O) (fun _=>?_);refine vs ?_;refine ai.dec (fun g=>absurd g O) (fun _=>?_);refine vs ?_;refine⟨O,?_⟩;refine vs ?_;rw[Li];refine⟨⟨H.size+1,H.size,none⟩,rfl,⟨⟨.slice none 0 0,?_,Sl.nil _ _⟩,?_,Z,Z,⟨by simp,amy,fun x _ a=>?_,by simp[Ar.aY,List.countP_replicate],Nat.zero_le _⟩,Z,hm.2⟩,bm.new _ _,fun z m=>?_⟩
 ·grind [az,ag]
 rotate_left
 ·obtain⟨c,e⟩:=a;grind
 rotate_left
 ·simp only;rw[ax (by simp only[ag];omega),am]
 ·rcases m with h|h|h
  ·grind
  ·grind
  grind
theorem gU(m:EF H B A)(x:Int)(g:Nat):aD 215 [ptr B.a,dZ x g] H fun v J=>ak (v= .bool (decide (A.live x/\A.be x=g))/\af H J):=by
 obtain⟨C,L,_⟩:=m.own;refine aL vG ?_;refine vs ?_;have a:af H (H.new 52 [i64 x,.int .u32 (g:Int)]):=bm;have b0:(H.new 52 [i64 x,.int .u32 (g:Int)]).own H.size=some [i64 x,.int .u32 (g:Int)]:=am _ _ _;have r:=m.ext a (fun _ _ h=>h);generalize H.new 52 [i64 x,.int .u32 (g:Int)]=u at*;obtain⟨K,j,_⟩:=r.own;refine ai.dec (fun c=>?_) (fun c=>?_)<;>refine v2 (ae b0) (ae j) ?_;rotate_left
 ·rw[alc (fun h=>c h.1.1)];exact⟨rfl,a⟩
 refine ai.dec (fun e=>?_) (fun e=>?_)<;>refine v2 (ae b0) (ae j) ?_;rotate_left
 ·rw[alc (fun h=>e (Ar.kN h.1).2)];exact⟨rfl,a⟩
 obtain⟨b,o,t⟩:=Ar.get (A:=A) (x:=x) ⟨c,e⟩;obtain⟨d,p⟩:=sB o;have P:=nY A.g;refine⟨⟨O,O⟩,?_⟩;refine v2 (ae r.sl) ak7 ?_;have f:((en A.g).drop (x.toNat*2)).take 2=[.int .u32 (A.be x:Int),.bool b]:=by
  apply alB;intro k;match k with
  |0=>rw[al2 O,alU,Nat.add_zero];exact d
  |1=>rw[al2 O,alU];exact p
  |k+2=>rw[List.getElem?_eq_none (by simp;omega)];rfl
 rw[f];refine⟨O,?_⟩;refine v1 (ae b0) ?_;have heq:pw [(0,none,Shape.int),(1,none,Shape.bool)] [Value.int IntKind.u32 (A.be x:Int),Value.bool b] [Value.int IntKind.u32 (g:Int),Value.bool true]=some (decide (A.be x=g) && b):=by
  by_cases z:A.be x=g
  ·cases b<;>simp[pw,tJ,cH,z,Vc.lK]
  ·have:¬ (A.be x:Int)=(g:Int):=O;cases b<;>simp[pw,tJ,cH,z,Vc.lK,this]
 rw[heq];simp(disch:=(first|exact aV|fail)) only[go_sem, ↓reduceIte,Zv,Option.map_some];refine⟨ald Value.bool ?_,a⟩;by_cases z:A.be x=g
 ·rw[ale z,Bool.true_and];cases y:b
  ·exact(alc (fun h=>by have:=t.1 h.1;rw[y]at this;cases this)).symm
  ·exact(ale ⟨t.2 y,z⟩).symm
 ·rw[alc z,alc (fun h=>z h.2)];rfl
theorem Fi(m:EF H B A){x:Int}(y:A.live x):aD 251 [ptr B.a,i64 x] H fun v J=>ak (v= .tuple [dZ x (A.be x),.bool true].toArray/\af H J):=by
 obtain⟨L,P,_⟩:=m.own;have f:=Ar.kN y;obtain⟨b,p,o⟩:=Ar.get (A:=A) (x:=x) f;obtain rfl:=o.1 y;obtain⟨r,j⟩:=sB p;have u:=nY A.g;refine aL zk ?_;refine vs ?_;have g:af H (H.new 52 cB):=bm;have b0:(H.new 52 cB).own H.size=some cB:=am _ _ _;have c:=m.ext g (fun _ _ h=>h);have K:(H.new 52 cB).size=H.size+1:=ag _ _ _;generalize H.new 52 cB=a at*;obtain⟨C,e,_⟩:=c.own;refine ai.dec (fun h=>absurd h O) (fun _=>?_);refine v1 (ae e) ?_;refine ai.dec (fun h=>absurd h O) (fun _=>?_);refine v1 (ae e) ?_;refine⟨O,?_⟩;refine v4 (ae c.sl) ak7 j (ae e) ?_;refine⟨O,?_⟩;refine v5 (ae c.sl) ak7 Nat.add_zero r b0 ?_;have d:aj (fun z=>z=H.size) a (a.wr H.size [Value.int .i64 x,Value.int .u32 (A.be x:Int)]):=(aj.refl (fun z=>z=H.size) _).wr (fun _=>rfl) _;have t:(a.wr H.size [Value.int .i64 x,Value.int .u32 (A.be x:Int)]).own H.size=some [Value.int .i64 x,Value.int .u32 (A.be x:Int)]:=ah b0;refine v1 (ae t) ?_;exact⟨rfl,g.then d O⟩
end
section
variable{xs:List Int}{a:Option Addr}{c n:Nat}
theorem Ch{H:Hp}{v:Value}{size:Nat}{xs:List Value}{fp:Option Nat}(h:Sl H size v n xs fp):∃a c,v= .slice a n c/\n<=c:=by
 obtain⟨_,h⟩:=h;cases fp with
 |none=>obtain⟨rfl,rfl⟩:=h;exact⟨_,_,rfl,alj _⟩
 |some b=>obtain⟨l,c,rfl,_,z,_⟩:=h;exact⟨_,_,rfl,z⟩
theorem bD.num{H:Hp}(h:bD H 1 (.slice a n c) n (xs.map i64)){i:Nat}{x:Int}(m:xs[i]? =some x):
  i<n/\∃b o lb,a=some ⟨b,o,none⟩/\H.rd b=some lb/\lb[o+i]? =some (i64 x):=by
 obtain⟨v,r⟩:=h;rw[alA,ala]at v;have hi:=(ak8.1 m).1;refine⟨O,?_⟩;rcases r with ⟨p,_⟩| ⟨b,o,j,l,g,e,d,t⟩
 ·omega
 ·injection g with y f u;refine⟨b,o,l,y,e,?_⟩;have z:(xs.map i64)[i]? =some (i64 x):=by rw[alz,m];rfl
  rw[<-t,amb,if_pos O,alU]at z;exact z
theorem fI{H:Hp}(h:bD H 1 (.slice a xs.length c) xs.length (xs.map i64))(x:Int)(hm:xs.length<=1000000000):
  aD 407 [.slice a xs.length c,i64 x] H fun v J=>ak ((∃i:Int,v=i64 i/\((i= -1/\x∉xs)\/(0<=i/\xs[i.toNat]? =some x)))/\J=H):=by
 refine aL oU ?_;refine vs ?_;refine ba.intro (fun m env J=>J=H/\∃j:Nat,m=xs.length - j/\j<=xs.length/\(∀e∈xs.take j,x≠e)/\env=[(0,.slice a xs.length c),(1,i64 x),(7,i64 xs.length),(8,i64 j)]) xs.length Z ?_;rintro m env H1 ⟨y,j,C,L,t,rfl⟩;obtain rfl:=y.symm;refine vs ?_;refine ai.dec (fun p=>?_) (fun p=>?_)<;>refine vs ?_
 ·have z:j<xs.length:=O;obtain⟨e,g⟩:∃e,xs[j]? =some e:=⟨_,ak9 z⟩;obtain⟨_,b,o,lb,rfl,f,r⟩:=bD.num h g;refine⟨O,?_⟩;refine v4 f Int.toNat_natCast ala r ?_;refine ai.dec (fun u=>?_) (fun u=>?_)<;>refine vs ?_
  ·exact⟨⟨j,rfl,Z⟩,rfl⟩
  ·rw[wrap64 (n:=(j:Int)+1) O O];refine⟨xs.length - (j+1),O,trivial,j+1,rfl,O,?_,rfl⟩;intro P d;rw[alq,g]at d;grind
 ·have z:j=xs.length:=O;subst z;rw[alx]at t;exact⟨⟨-1,rfl,Z⟩,rfl⟩
theorem sC{H:Hp}(h:bD H 1 (.slice a xs.length c) xs.length (xs.map i64))(x:Int)(hm:xs.length<=1000000000):
  aD 418 [.slice a xs.length c,i64 x] H fun v J=>ak (v= .bool (decide (x∈xs))/\J=H):=by
 refine aL mq ?_;refine vs ?_;refine(fI h x hm).mono ?_;rintro _ H1 ⟨⟨i,rfl,hi⟩,e⟩;obtain rfl:=e.symm;refine vs ?_;refine⟨ald Value.bool ?_,rfl⟩;grind
theorem BC{H:Hp}(f:FuncId)(z:List Value)(q:Int->Bool)(h:bD H 1 (.slice a xs.length c) xs.length (xs.map i64))(u:eQ Tryz.prog f=true)
  (C:∀x,aD f (i64 x::z) H fun v t=>ak (v= .bool (q x)/\t=H))(hm:xs.length<=1000000000):
  aD 306 [.slice a xs.length c,.func (.func f) #[] z.toArray] H fun v J=>ak ((∃i:Int,v=i64 i/\((i= -1/\∀x∈xs,q x=false)\/(0<=i/\(∀x∈xs.take i.toNat,q x=false)/\∃x,xs[i.toNat]? =some x/\q x=true)))/\J=H):=by
 refine aL fO ?_;refine vs ?_;refine ba.intro (fun m env J=>J=H/\∃j:Nat,m=xs.length - j/\j<=xs.length/\(∀e∈xs.take j,q e=false)/\env=[(0,.slice a xs.length c),(1,.func (.func f) #[] z.toArray),(7,i64 xs.length),(8,i64 j)]) xs.length Z ?_;rintro m env H1 ⟨r,j,W,Q,p,rfl⟩;obtain rfl:=r.symm;refine vs ?_;refine ai.dec (fun K=>?_) (fun K=>?_)<;>refine vs ?_
 ·have g:j<xs.length:=O;obtain⟨e,y⟩:∃e,xs[j]? =some e:=⟨_,ak9 g⟩;obtain⟨_,b,o,lb,rfl,F,P⟩:=bD.num h y;refine⟨O,?_⟩;refine v4 F Int.toNat_natCast ala P ?_;refine⟨u,?_⟩;refine dO.mono (by simpa using C e) ?_;rintro _ H2 ⟨rfl,d⟩;obtain rfl:=d.symm;refine vs ?_;cases I:q e
  ·refine vs ?_;rw[wrap64 (n:=(j:Int)+1) O O];refine⟨xs.length - (j+1),O,trivial,j+1,rfl,O,?_,rfl⟩;intro N L;rw[alq,y]at L;grind
  ·refine vs ?_;exact⟨⟨j,rfl,Z⟩,rfl⟩
 ·have g:j=xs.length:=O;subst g;rw[alx]at p;exact⟨⟨-1,rfl,Z⟩,rfl⟩
theorem JF(k:Nat):dm [Value.int .i64 0] k=(List.replicate k (0:Int)).map i64:=by
 unfold dm;simp_all
theorem Dv(l new:List Value)(i:Nat)(h:i+new.length<=l.length):(aQ l i new).take i=l.take i:=by
 apply alB;grind [getElem?_splice]
theorem zR{H:Hp}{v:Value}{fp:Option Nat}(s:Sl H 1 v xs.length (xs.map i64) fp)(f:FuncId)(p:List Value)(q:Int->Bool)(Q:eQ Tryz.prog f=true)
  (W:∀J,aj (fun z=>fp=some z) H J->∀x,aD f (i64 x::p) J fun v X=>ak (v= .bool (q x)/\X=J))(hm:xs.length<=1000000000):
  aD 409 [v,.func (.func f) #[] p.toArray] H fun v' J=>ak (Sl J 1 v' (xs.filter fun x=> !q x).length ((xs.filter fun x=> !q x).map i64) fp/\aj (fun z=>fp=some z) H J):=by
 obtain⟨a,c,rfl⟩:=Sl.shape s;refine aL kT ?_;refine vs ?_;refine(BC f p q s.rd Q (W H (aj.refl _ _)) hm).mono ?_;rintro _ H1 ⟨⟨i0,rfl,Nc⟩,e⟩;obtain rfl:=e.symm;refine vs ?_;rcases Nc with ⟨rfl,t⟩| ⟨h0,t,x0,d,G⟩
 ·refine ai.bK (by simp) ?_;refine vs ?_;have:xs.filter (fun x=> !q x)=xs:=by
   rw[List.filter_eq_self];intro x r;rw[t x r];rfl
  rw[this];exact⟨s,aj.refl _ _⟩
 obtain⟨i,rfl⟩:∃i:Nat,i0=(i:Int):=Z;rw[Int.toNat_natCast]at t d;have hi:=(ak8.1 d).1;refine ai.dec (fun h=>O) (fun _=>?_);refine vs ?_;obtain⟨_,b,lb0,rfl,_,_⟩:=Sl.wx s d;have ww:fp=some b:=by
  cases fp with
  |none=>have:=s.2.2;grind
  |some b'=>obtain⟨_,_,y,_⟩:=s.2;grind
 subst ww;have F:(xs.take (i+1)).filter (fun x=> !q x)=xs.take i:=by
  rw[alq,d,amp];have y:(xs.take i).filter (fun x=> !q x)=xs.take i:=by
   rw[List.filter_eq_self];intro x r;rw[t x r];rfl
  rw[y];simp[G]
 rw[wrap64 O O];refine ba.intro (fun m env J=>∃ (i j:Nat) (g:List Int),m=xs.length - j/\j<=xs.length/\i<j/\i=((xs.take j).filter fun x=> !q x).length/\g.length=xs.length/\g.take i=(xs.take j).filter (fun x=> !q x)/\g.drop j=xs.drop j/\
  Sl J 1 (.slice (some ⟨b,0,none⟩) xs.length c) xs.length (g.map i64) (some b)/\aj (fun z=>some b=some z) H J/\env=[(0,.slice (some ⟨b,0,none⟩) xs.length c),(1,.func (.func f) #[] p.toArray),(5,i64 i),(6,i64 j)]) _
  ⟨i,i+1,xs,rfl,O,O,Z,rfl,F.symm,rfl,s,aj.refl _ _,rfl⟩ ?_
 clear t d G F hi h0;rintro m env H2 ⟨i,j,g,rfl,hj,hij,Nd,hyl,C,M,K,u,rfl⟩;obtain⟨_,lb,c2,L,q2,Mq,Lj,D⟩:=id K;injection L with _ _ L;subst L;rw[ala]at Lj D;refine vs ?_;refine ai.dec (fun iD=>?_) (fun iD=>?_)<;>refine vs ?_
 ·have Pd:j<xs.length:=O;obtain⟨x,r⟩:∃x,xs[j]? =some x:=⟨_,ak9 Pd⟩;have Oc:g[j]? =some x:=by
   have y:(g.drop j)[0]? =(xs.drop j)[0]? :=by rw[M]
   grind
  have Pe:lb[j]? =some (i64 x):=K.get q2 Z;have E:xs.take (j+1)=xs.take j++[x]:=by rw[alq,r];rfl
  have dj:∀o:List Int,o.length=xs.length->(∀k,j<k->o[k]? =g[k]?)->o.drop (j+1)=xs.drop (j+1):=fun o hz hk=>by
   apply alB;intro k;have y:(g.drop j)[k+1]? =(xs.drop j)[k+1]? :=by rw[M]
   grind
  refine⟨O,?_⟩;refine v5 (ae q2) ak7 ala Int.toNat_natCast Pe ?_;refine⟨Q,?_⟩;refine dO.mono (by simpa using W H2 u x) ?_;rintro _ H3 ⟨rfl,e⟩;obtain rfl:=e.symm;refine vs ?_;cases I:q x
  ·refine vs ?_;refine⟨O,?_⟩;refine v4 q2 ak7 ala Int.toNat_natCast ?_;refine⟨O,?_⟩;have s3:=K.nG q2 i (i64 x);have P:aj (fun z=>some b=some z) H2 (H2.wr b (lb.set i (i64 x))):=(aj.refl (fun z=>some b=some z) _).wr (fun _=>rfl) _;refine vs ?_;rw[wrap64 (n:=(i:Int)+1) O O,wrap64 (n:=(j:Int)+1) O O];have N:(xs.take (j+1)).filter (fun x=> !q x)=(xs.take j).filter (fun x=> !q x)++[x]:=by
    rw[E,amp];simp[I]
   refine⟨xs.length - (j+1),O,i+1,j+1,g.set i x,rfl,O,O,Z,Z,?_,Z,?_,u.trans P,rfl⟩
   ·rw[N,<-C,alq,aln O,List.take_set_of_le O];rfl
   simp_all
  ·refine vs ?_;rw[wrap64 (n:=(j:Int)+1) O O];have N:(xs.take (j+1)).filter (fun x=> !q x)=(xs.take j).filter (fun x=> !q x):=by
    rw[E,amp];simp[I]
   grind
 ·obtain rfl:j=xs.length:=O;rw[alx]at C Nd;refine⟨O,?_⟩;refine vs ?_;have hic:¬ (c:Int)=(i:Int):=O;have hlz:(dm [Value.int .i64 0] (xs.length - i)).length=xs.length - i:=by rw[JF];simp
  rw[if_neg hic];refine .inr ⟨O,b,i,lb,?_,by rw[q2];rfl,?_,?_,?_⟩
  ·simp[Addr.add];omega
  ·grind [JF,tw]
  ·grind
  ·rw[Int.toNat_natCast,Int.toNat_natCast];have P:aj (fun z=>some b=some z) H2 (H2.wr b (aQ lb i (dm [Value.int .i64 0] (xs.length - i)))):=(aj.refl (fun z=>some b=some z) _).wr (fun _=>rfl) _;have q3:(H2.wr b (aQ lb i (dm [Value.int .i64 0] (xs.length - i)))).own b=some (aQ lb i (dm [Value.int .i64 0] (xs.length - i))):=ah q2;refine vs ?_;refine⟨O,?_⟩;have hc0:¬ (c:Int)=((0:Nat):Int):=O;refine vs ?_;rw[if_neg hc0];rw[<-C];refine⟨⟨by simp,aQ lb i (dm [Value.int .i64 0] (xs.length - i)),c,?_,q3,?_,?_,?_⟩,u.trans P⟩
   ·have y:(g.take i).length=i:=by rw[alC];omega
    rw[y];rfl
   ·grind
   ·rw[ew];omega
   ·rw[ala,alC,Nat.min_eq_left O,Dv _ _ _ O,List.map_take,<-D,amz,Nat.min_eq_left O]
section
variable {H J : Hp} {B : Nj} {A A' : Ar} {T : Nat → Prop} {x : Int}
theorem BD(m:EF H B A):aD 250 [ptr B.a] H fun v J=>ak (
  (A.pick=none/\v= .tuple [i64 0,.bool false].toArray/\J=H)\/(∃x A',A.pick=some (x,A')/\v= .tuple [i64 x,.bool true].toArray/\EF J B A'/\aj (fun z=>z=B.a) H J)):=by
 obtain⟨tv,h,s1⟩:=m.own;obtain⟨N,j,rfl⟩:=Sl.shape s1;have Wd:=m.wtl.1;have wU:=m.len;have We:=m.ok.nx;refine aL vH ?_;refine v1 (ae h) ?_;refine ai.dec (fun Q=>?_) (fun Q=>?_)
 ·have ny:A.wt≠[]:=Z;obtain⟨k,P⟩:∃k,A.wt.length=k+1:=⟨A.wt.length - 1,O⟩;obtain⟨x,K⟩:∃x,A.wt[k]? =some x:=⟨_,ak9 O⟩;have Jt:A.wt.getLastD 0=x:=by
   rw[alY,List.getLast?_eq_getElem?,P,amO,K];rfl
  have hdl:A.wt.dropLast=A.wt.take k:=by rw[amc,P,amO]
  have p:A.pick=some (x,{A with wt:=A.wt.take k}):=by
   unfold Ar.pick;grind
  obtain⟨b,lb,c,D,d,o,qk,_,_,_⟩:∃b lb c,Value.slice N A.wt.length j= .slice (some ⟨b,0,none⟩) A.wt.length c/\B.fo=some b/\H.own b=some lb/\lb[k]? =some (i64 x)/\k<A.wt.length/\A.wt.length<=lb.length/\True:=by
   obtain⟨f,b,lb,rfl,q2,q3⟩:=Sl.wx s1 K;have g:=s1;revert g;cases d:B.fo with
   |none=>intro g;have:=g.2.2;grind
   |some b'=>
    intro g;obtain⟨_,X,c',r,t,W,L,_⟩:=g;grind
  injection D with I T0 G;subst I G;obtain⟨_,X,c',r,t,W,L,C⟩:(A.wt.map i64).length=A.wt.length*1/\∃l c',Value.slice (some ⟨b,0,none⟩) A.wt.length j= .slice (some ⟨b,0,none⟩) A.wt.length c'/\H.own b=some l/\A.wt.length<=c'/\c'*1<=l.length/\l.take (A.wt.length*1)=A.wt.map i64:=by
   have:=s1;rw[d]at this;exact this
  injection r with _ _ r;subst r;rw[o]at t;injection t with t;subst t;rw[ala]at L C;refine v1 (ae h) ?_;rw[wrap64 (n:=(A.wt.length:Int) - 1) O O];refine⟨O,?_⟩;rw[show((A.wt.length:Int) - 1).toNat=k by omega];refine v5 (ae o) ak7 ala qk (ae h) ?_;rw[wrap64 (n:=(A.wt.length:Int) - 1) O O];refine⟨O,?_⟩;refine v1 h ?_;rw[if_neg O];have a:∀l,aj (fun z=>z=B.a) H (H.wr B.a l):=fun l=>(aj.refl (fun z=>z=B.a) _).wr (fun _=>rfl) _;have M:(A.wt.take k).length=k:=by rw[alC];omega
  refine .inr ⟨x,_,p,rfl,⟨⟨_,ah h,?_⟩,(a _).own m.sl (Ne.symm m.ne.1),m.ne,m.len,⟨fun y E=>m.ok.wl y Z,m.ok.wd.sublist Z,m.ok.fr,m.ok.ct,m.ok.nx⟩,m.gs,m.mo⟩,a _⟩;have u:b≠B.a:=fun e=>m.ne.2.1 Z;refine⟨by simp,?_⟩;rw[d];refine⟨lb,j,?_,(a _).own o u,Z,O,?_⟩
  ·rw[M,show((A.wt.length:Int) - 1).toNat - ((0:Nat):Int).toNat=k by omega];rfl
  ·rw[ala,List.map_take,<-C,amz];grind
 ·refine v1 (ae h) ?_;have he:A.wt=[]:=alI.1 O;refine ai.dec (fun f=>?_) (fun f=>?_)
  ·refine vs ?_;refine .inl ⟨?_,rfl,rfl⟩;unfold Ar.pick;grind
  ·refine v2 (ae h) h ?_;rw[wrap64 (n:=(A.nx:Int)+1) O O];have a:∀l,aj (fun z=>z=B.a) H (H.wr B.a l):=fun l=>(aj.refl (fun z=>z=B.a) _).wr (fun _=>rfl) _;have F:∀l,(H.wr B.a l).own B.a=some l:=fun l=>ah h;simp(disch:=(first|exact aV|fail)) only[go_sem, ↓reduceIte,Zv,ae (F _)];rw[wrap64 (n:=(A.nx:Int)+1 - 1) O O];have p:A.pick=some ((A.nx:Int),{A with nx:=A.nx+1}):=by
    unfold Ar.pick;grind
   rw[show(A.nx:Int)+1 - 1=(A.nx:Int) by omega];refine .inr ⟨_,_,p,rfl,⟨⟨.slice N A.wt.length j,F _,s1.ext (a _) (fun b u e=>m.ne.2.1 Z)⟩,(a _).own m.sl (Ne.symm m.ne.1),m.ne,m.len,⟨Z,m.ok.wd,fun y E=>m.ok.fr y Z,m.ok.ct,Z⟩,m.gs,m.mo⟩,a _⟩
theorem BE(m:EF H B A)(Ll:∀x:Int,0<=x->x<A.g.length->A.be x<4294967295):aD 211 [ptr B.a] H fun v J=>ak (
  (A.pick=none/\v= .tuple [dZ 0 0,i64 32].toArray/\EF J B A/\af H J)\/(∃x A',A.pick=some (x,A')/\v= .tuple [dZ x (A.be x+1),i64 0].toArray/\EF J B (A'.out x)/\aj B.S H J)):=by
 have wz:=m.slt;refine aL vE ?_;refine vs ?_;have P:af H (H.new 52 cB):=bm;have b0:(H.new 52 cB).own H.size=some cB:=am _ _ _;have G:=m.ext P (fun _ _ h=>h);generalize H.new 52 cB=o at*;have Q:∀z,B.S z->z≠H.size:=Z;refine(BD G).mono ?_;rintro _ H1 (⟨p,rfl,e⟩| ⟨x,A',p,rfl,a,t⟩)
 ·obtain rfl:=e.symm;refine v1 b0 ?_;have t:aj (fun z=>z=H.size) o (o.wr H.size cB):=(aj.refl (fun z=>z=H.size) _).wr (fun _=>rfl) _;have f:(o.wr H.size cB).own H.size=some cB:=ah b0;refine v1 (ae f) ?_;exact .inl ⟨p,rfl,G.ext t O,P.then t O⟩
 obtain⟨C,tC,hxw,QJ,L,hct,hmo⟩:=Ar.oG p m.ok;have f:=t.own b0 (fun e=>Q B.a (.inl rfl) e.symm);obtain⟨c,D,s1⟩:=a.own;have wU:=a.len;have I:0<=x/\x<A'.g.length:=by rw[L];exact C
 obtain⟨b,d,Fe⟩:=Ar.get (A:=A') I;have Wf:A'.be x=A.be x:=by unfold Ar.be;rw[L]
 have hgb:=Ll x C.1 C.2;obtain⟨X,c2⟩:=sB d;obtain⟨w1,_⟩:=zQ d;have hl:=nY A'.g;refine v1 (ae D) ?_;refine⟨O,?_⟩;refine v5 (ae a.sl) a.sl ak7 Nat.add_zero X ?_;refine⟨O,?_⟩;rw[Cf (n:=(A'.be x:Int)+1) O O,show(A'.be x:Int)+1=((A'.be x+1:Nat):Int) by omega];refine v1 w1 ?_;have e2:aj (fun z=>z=B.sb) H1 (H1.wr B.sb (en (A'.g.set x.toNat (A'.be x+1,b)))):=(aj.refl (fun z=>z=B.sb) _).wr (fun _=>rfl) _;have q2:(H1.wr B.sb (en (A'.g.set x.toNat (A'.be x+1,b)))).own B.sb=some (en (A'.g.set x.toNat (A'.be x+1,b))):=ah a.sl;generalize H1.wr B.sb (en (A'.g.set x.toNat (A'.be x+1,b)))=H2 at*;have W:(A'.g.set x.toNat (A'.be x+1,b))[x.toNat]? =some (A'.be x+1,b):=Z;obtain⟨d1,_⟩:=sB W;have w2:=(zQ W).2 true;rw[List.set_set]at w2;have Oe:=nY (A'.g.set x.toNat (A'.be x+1,b));rw[alb]at Oe;refine v3 q2 ak7 Nat.add_zero ?_;refine⟨O,?_⟩;refine v1 w2 ?_;have e3:aj (fun z=>z=B.sb) H2 (H2.wr B.sb (en (A'.g.set x.toNat (A'.be x+1,true)))):=(aj.refl (fun z=>z=B.sb) _).wr (fun _=>rfl) _;have q3:(H2.wr B.sb (en (A'.g.set x.toNat (A'.be x+1,true)))).own B.sb=some (en (A'.g.set x.toNat (A'.be x+1,true))):=ah q2;generalize H2.wr B.sb (en (A'.g.set x.toNat (A'.be x+1,true)))=g at*;have r:=e2.trans e3;have K:=r.own D m.ne.1;have abG:=a.ok.ct;have XK:=Ar.LZ A';refine v2 (ae K) K ?_;rw[wrap64 (n:=A'.ct+1) O O];have j:∀l,aj (fun z=>z=B.a) g (g.wr B.a l):=fun l=>(aj.refl (fun z=>z=B.a) _).wr (fun _=>rfl) _;have q4:∀l,(g.wr B.a l).own B.a=some l:=fun l=>ah K;have M:=(j [.slice (some ⟨B.sb,0,none⟩) A'.g.length A'.g.length,c,i64 A'.nx,i64 (A'.ct+1),.int .u32 (A'.mo:Int)]).own q3 (Ne.symm m.ne.1);have F:=(j [.slice (some ⟨B.sb,0,none⟩) A'.g.length A'.g.length,c,i64 A'.nx,i64 (A'.ct+1),.int .u32 (A'.mo:Int)]).own (r.own f (fun e=>Q B.sb (.inr (.inl rfl)) e.symm)) Z;have Rn:(A'.g.set x.toNat (A'.be x+1,true))[x.toNat]? =some (A'.be x+1,true):=Z;obtain⟨d3,_⟩:=sB Rn;have s4:=(s1.ext r (fun b d e=>m.ne.2.2 Z)).ext (j [.slice (some ⟨B.sb,0,none⟩) A'.g.length A'.g.length,c,i64 A'.nx,i64 (A'.ct+1),.int .u32 (A'.mo:Int)]) (fun b d e=>m.ne.2.1 Z);have m4:EF (g.wr B.a [.slice (some ⟨B.sb,0,none⟩) A'.g.length A'.g.length,c,i64 A'.nx,i64 (A'.ct+1),.int .u32 (A'.mo:Int)]) B (A'.out x):=by
  refine⟨⟨c,?_,s4⟩,M,m.ne,?_,a.ok.out L I (fun h=>tC (by unfold Ar.live at h ⊢;grind)) hxw QJ,fun y hy=>?_,a.mo⟩
  ·show _=some [.slice (some ⟨B.sb,0,none⟩) (A'.g.set x.toNat (A'.be x+1,true)).length (A'.g.set x.toNat (A'.be x+1,true)).length,c,i64 A'.nx,i64 (A'.ct+1),.int .u32 (A'.mo:Int)];grind
  ·show(A'.g.set x.toNat (A'.be x+1,true)).length<=_;grind
  ·rcases al8 hy with h|h
   ·exact a.gs y h
   grind
 have e4':=j [.slice (some ⟨B.sb,0,none⟩) A'.g.length A'.g.length,c,i64 A'.nx,i64 (A'.ct+1),.int .u32 (A'.mo:Int)];generalize g.wr B.a [.slice (some ⟨B.sb,0,none⟩) A'.g.length A'.g.length,c,i64 A'.nx,i64 (A'.ct+1),.int .u32 (A'.mo:Int)]=H4 at*;have N:aj B.S H H4:=((P.mono fun _ _ h=>h.elim).trans (t.mono fun z _ h=>.inl h)).trans ((r.mono fun z _ h=>.inr (.inl h)).trans (e4'.mono fun z _ h=>.inl h));refine v5 (ae M) ak7 Nat.add_zero d3 F ?_;have u:aj (fun z=>z=H.size) H4 (H4.wr H.size [Value.int .i64 x,Value.int .u32 ((A'.be x+1:Nat):Int)]):=(aj.refl (fun z=>z=H.size) _).wr (fun _=>rfl) _;have E:(H4.wr H.size [Value.int .i64 x,Value.int .u32 ((A'.be x+1:Nat):Int)]).own H.size=some [Value.int .i64 x,Value.int .u32 ((A'.be x+1:Nat):Int)]:=ah F;refine v1 (ae E) ?_;refine .inr ⟨x,A',p,by rw[Wf];rfl,m4.ext u O,⟨alw N.size u.size,fun z hz hn=>?_⟩⟩;cases N;cases u;grind
theorem qo(m:EF H B A){x:Int}(p:A.live x):aD 214 [ptr B.a,dZ x (A.be x)] H fun v J=>ak (v=i64 0/\∃T1,EF J ⟨B.a,B.sb,T1⟩ (A.back x)/\aj B.S H J/\∀z,T1=some z->B.fo=some z\/H.size<=z):=by
 have wz:=m.slt;have Kl:=Ar.kN p;obtain⟨b,L,Fe⟩:=Ar.get (A:=A) Kl;obtain rfl:=Fe.1 p;have hl:=nY A.g;have w1:=(zQ L).2 false;have wU:=m.len;have abG:=m.ok.ct;have XK:=Ar.LZ A;refine aL vF ?_;refine vs ?_;have X:af H (H.new 52 [i64 x,.int .u32 (A.be x:Int)]):=bm;have b0:(H.new 52 [i64 x,.int .u32 (A.be x:Int)]).own H.size=some [i64 x,.int .u32 (A.be x:Int)]:=am _ _ _;have m0:=m.ext X (fun _ _ h=>h);generalize H.new 52 [i64 x,.int .u32 (A.be x:Int)]=H0 at*;have T2:∀z,B.S z->z≠H.size:=Z;refine(gU m0 x (A.be x)).mono ?_;rintro _ H1 ⟨rfl,P⟩;rw[ale ⟨p,rfl⟩];have N:=m0.ext P (fun _ _ h=>h);have I:=P.own b0 (fun h=>h);obtain⟨W,o1,s1⟩:=N.own;refine v2 (ae o1) (ae I) ?_;refine⟨O,?_⟩;refine v2 N.sl ak7 ?_;refine⟨O,?_⟩;refine v1 w1 ?_;have j:aj (fun z=>z=B.sb) H1 (H1.wr B.sb (en (A.g.set x.toNat (A.be x,false)))):=(aj.refl (fun z=>z=B.sb) _).wr (fun _=>rfl) _;have q2:(H1.wr B.sb (en (A.g.set x.toNat (A.be x,false)))).own B.sb=some (en (A.g.set x.toNat (A.be x,false))):=ah N.sl;generalize H1.wr B.sb (en (A.g.set x.toNat (A.be x,false)))=H2 at*;have Q:=j.own o1 m.ne.1;have b2:=j.own I (fun e=>T2 B.sb (.inr (.inl rfl)) e.symm);refine v2 (ae Q) Q ?_;rw[wrap64 (n:=A.ct - 1) O O];have d:∀l,aj (fun z=>z=B.a) H2 (H2.wr B.a l):=fun l=>(aj.refl (fun z=>z=B.a) _).wr (fun _=>rfl) _;have q3:∀l,(H2.wr B.a l).own B.a=some l:=fun l=>ah Q;have b3:=fun l=>(d l).own b2 Z;have q2':=fun l=>(d l).own q2 (Ne.symm m.ne.1);have s3:=fun l=>(s1.ext j (fun b L e=>m.ne.2.2 Z)).ext (d l) (fun b L e=>m.ne.2.1 Z);obtain⟨t,Pb⟩:∃t,t=[.slice (some ⟨B.sb,0,none⟩) A.g.length A.g.length,W,i64 A.nx,i64 (A.ct - 1),.int .u32 (A.mo:Int)]:=⟨_,rfl⟩;have a:=q3 t;have g:=b3 t;have o:=q2' t;have Z9:=s3 t;have G:=d t;rw[Pb]at a g o Z9 G;generalize H2.wr B.a [.slice (some ⟨B.sb,0,none⟩) A.g.length A.g.length,W,i64 A.nx,i64 (A.ct - 1),.int .u32 (A.mo:Int)]=H3 at*;have f:aj B.S H H3:=((X.mono fun _ _ h=>h.elim).trans (P.mono fun _ _ h=>h.elim)).trans ((j.mono fun z _ h=>.inr (.inl h)).trans (G.mono fun z _ h=>.inl h));have Fj:=m.ok.back p;have hgs:∀y∈(A.back x).g,y.1<=4294967295:=fun y hy=>by
  rcases al8 hy with h|h
  ·exact m.gs y h
  cases m;grind
 have ec:(A.back x).g.length=A.g.length:=alb ..
 refine v2 (ae g) (ae a) ?_;refine ai.dec (fun hm=>?_) (fun hm=>?_);rotate_left
 ·refine vs ?_;have hwt:(A.back x).wt=A.wt:=by show(if A.be x<A.mo then _ else _)=_;grind
  refine⟨rfl,B.fo,⟨⟨W,by rw[ec];exact a,Z⟩,o,m.ne,O,Fj,hgs,m.mo⟩,f,fun z hz=>.inl hz⟩
 have hwt:(A.back x).wt=A.wt++[x]:=by show(if A.be x<A.mo then _ else _)=_;grind
 have Wd:=m.wtl.1;obtain⟨ta,tc,rfl⟩:=Sl.shape Z9;refine vs ?_;refine di.intro (fun J=>True) trivial ?_;refine vs ?_;have hbs:H.size<H3.size:=aB g;have has:B.a<H3.size:=aB a;have fin:∀ (K:Value->Hp->Prop),(∀w' c r,Sl c 1 w' (A.wt++[x]).length ((A.wt++[x]).map i64) r->(r=B.fo\/∃z,r=some z/\H3.size<=z/\z<c.size)->aj (fun z=>B.fo=some z) H3 c->K w' c)->
   eh 3 1 8 [i64 0] (.slice ta A.wt.length tc) (.slice (some ⟨H3.size,0,none⟩) 1 1) (H3.new 3 [i64 x]) K:=fun K hK=>by
  grind [Pa]
 refine ry.intro ?C ?D;case' C=>
  refine v2 (ae a) (ae g) ?_
 case' D=>
  refine v2 (ae a) (ae g) ?_;refine ry.intro ?E ?F;case' E=>
   refine v2 (ae a) (ae g) ?_
  case' F=>
   refine v2 (ae a) (ae g) ?_
 all_goals
  refine fin _ fun w' c r s4 ww u=>?_;obtain⟨wa,wc,rfl⟩:=Sl.shape s4;have o4:=u.own a (fun e=>m.ne.2.1 e);have q4:=u.own o (fun e=>m.ne.2.2 e);refine v1 o4 ?_;have M:∀l,aj (fun z=>z=B.a) c (c.wr B.a l):=fun l=>(aj.refl (fun z=>z=B.a) _).wr (fun _=>rfl) _;have af1:=f.size;refine⟨rfl,r,⟨⟨_,by rw[ec];exact ah o4,?_⟩,(M _).own q4 (Ne.symm m.ne.1),⟨m.ne.1,fun h=>?_,fun h=>?_⟩,O,Fj,hgs,m.mo⟩,?_,fun z hz=>?_⟩
  ·cases m;grind [Sl.ext]
  ·cases m;grind
  ·rcases ww with h2| ⟨y,h2,h3,_⟩
   ·cases m;grind
   ·have:=aB o;grind
  ·exact(f.trans (u.mono fun z _ h=>.inr (.inr h))).trans ((M _).mono fun z _ h=>.inl h)
  grind
end
end
def Nw.kC(w:Nw)(g x:Int):Prop:=w.has g/\(0<=x/\x<w.cs.length)/\¬cu w.cs x
def Nw.dv(w:Nw)(x k s:Int):Prop:=cu w.cs x/\∀y,w.cs[x.toNat]? =some y->¬dY y.2.1 y.2.2 k s
def br(I:Hp->(Nat->Prop)->Nw->Prop)(S:Nat->Prop)(H J:Hp)(w':Nw):Prop:=
 ∃h:Nat->Prop,I J h w'/\aj S H J/\∀z,h z->S z\/H.size<=z
theorem br.same{I:Hp->(Nat->Prop)->Nw->Prop}{S:Nat->Prop}{H J:Hp}{w':Nw}(h:I J S w')(e:aj S H J):br I S H J w':=⟨S,h,e,fun z a=>.inl a⟩
structure qq(ov:Value)(I:Hp->(Nat->Prop)->Nw->Prop):Prop where
 slt:∀ {H S w},I H S w->∀z,S z->z<H.size
 ext:∀ {H J S w} {T:Nat->Prop},I H S w->aj T H J->(∀z,S z->¬T z)->I J S w
 cells:∀ {H S w},I H S w->∃c C,CQ H c C w
 has:∀ {H S w} (g:Int),I H S w->fL Tryz.prog ov "Has" [i64 g] H fun v J=>v= .bool (decide (w.has g))/\H=J
 make:∀ {H S w},I H S w->fL Tryz.prog ov "Make" [] H fun v J=>
  (w.hs.length=65537/\v=i64 0/\br I S H J w)\/(w.hs.length≠65537/\v=i64 w.hs.length/\br I S H J w.make)
 insert:∀ {H S w} (g x k s:Int),I H S w->fL Tryz.prog ov "Insert" [i64 g,i64 x,ms k s] H fun v J=>
  (¬w.kC g x/\v= .bool false/\br I S H J w)\/(w.kC g x/\v= .bool true/\br I S H J (w.put x (g,k,s)))
 min:∀ {H S w} (g:Int),I H S w->fL Tryz.prog ov "Min" [i64 g] H fun v J=>
  (w.len g=0/\v= .tuple [i64 0,.bool false].toArray/\br I S H J w)\/(∃x,w.first g x/\v= .tuple [i64 x,.bool true].toArray/\br I S H J w)
 extract:∀ {H S w} (g:Int),I H S w->fL Tryz.prog ov "Extract" [i64 g] H fun v J=>
  (w.len g=0/\v= .tuple [i64 0,.bool false].toArray/\br I S H J w)\/(∃x,w.first g x/\v= .tuple [i64 x,.bool true].toArray/\br I S H J (w.put x (0,0,0)))
 jZ:∀ {H S w} (x k s:Int),I H S w->fL Tryz.prog ov "Decrease" [i64 x,ms k s] H fun v J=>
  (¬w.dv x k s/\v= .bool false/\br I S H J w)\/(w.dv x k s/\v= .bool true/\∃y,w.cs[x.toNat]? =some y/\br I S H J (w.put x (y.1,k,s)))
 entry:∀ {H S w} (x:Int),I H S w->fL Tryz.prog ov "Entry" [i64 x] H fun v J=>I J S w/\af H J/\
  ((¬cu w.cs x/\v= .tuple [ms 0 0,.bool false].toArray)\/(cu w.cs x/\∃y,w.cs[x.toNat]? =some y/\v= .tuple [ms y.2.1 y.2.2,.bool true].toArray))
 len:∀ {H S w} (g:Int),I H S w->fL Tryz.prog ov "Len" [i64 g] H fun v J=>v=i64 (w.len g)/\H=J
 home:∀ {H S w} (x:Int),I H S w->fL Tryz.prog ov "Home" [i64 x] H fun v J=>
  (¬cu w.cs x/\v= .tuple [i64 0,.bool false].toArray/\br I S H J w)\/(cu w.cs x/\v= .tuple [i64 (aH w x),.bool true].toArray/\br I S H J w)
 delete:∀ {H S w} (x:Int),I H S w->fL Tryz.prog ov "Delete" [i64 x] H fun v J=>
  (¬cu w.cs x/\v= .bool false/\br I S H J w)\/(cu w.cs x/\v= .bool true/\br I S H J (w.put x (0,0,0)))
 vl:∀ {H S w} (a b:Int),I H S w->fL Tryz.prog ov "Meld" [i64 a,i64 b] H fun v J=>
  (¬ (w.has a/\w.has b/\a≠b)/\v= .bool false/\br I S H J w)\/((w.has a/\w.has b/\a≠b)/\v= .bool true/\br I S H J (w.join a b))
structure Ci(w:Nw)(A:Ar):Prop where
 len:w.cs.length=A.g.length
 live:∀x,cu w.cs x↔A.live x
def j0(H:Hp)(s:Nat)(S:Nat->Prop)(w:Nw)(A:Ar)(q:Int):Prop:=∃ (t:TypeId) (a:Value) (I:Hp->(Nat->Prop)->Nw->Prop) (h:Nat->Prop) (B:Nj) (k d:Int),
 qq (.iface t a) I/\I H h w/\EF H B A/\H.own s=some [i64 k,i64 d,ptr B.a,.iface t a,u64 q]/\(∀z,h z->¬B.S z/\z≠s)/\¬B.S s/\(∀z,S z↔h z\/B.S z\/z=s)/\Ci w A
theorem j0.slt{H:Hp}{s:Nat}{S:Nat->Prop}{w:Nw}{A:Ar}{q:Int}(h:j0 H s S w A q):∀z,S z->z<H.size:=by
 obtain⟨t,j,I,e,B,k,d,n,hi,m,c,g,y,a,r⟩:=h;intro z v;rcases(a z).1 v with h|h|h
 ·exact n.slt hi z h
 ·exact m.slt z h
 ·rw[h];exact aB c
theorem j0.ext{H J:Hp}{s:Nat}{S T:Nat->Prop}{w:Nw}{A:Ar}{q:Int}(h:j0 H s S w A q)(e:aj T H J)(p:∀z,S z->¬T z):j0 J s S w A q:=by
 obtain⟨t,j,I,a,B,k,d,n,hi,m,r,c,v,g,y⟩:=h;exact⟨t,j,I,a,B,k,d,n,n.ext hi e Z,m.ext e Z,e.own r Z,c,v,g,y⟩
theorem j0.Of{H:Hp}{s:Nat}{S:Nat->Prop}{w:Nw}{A:Ar}{q:Int}(h:j0 H s S w A q):Ci w A/\oF A/\A.g.length<=65536:=by
 obtain⟨t,y,I,a,B,k,d,n,hi,m,g,c,v,e,z⟩:=h;exact⟨z,m.ok,m.len⟩
def lQ(s:Nat)(S:Nat->Prop)(H J:Hp)(w':Nw)(A':Ar)(a:Int):Prop:=∃h,j0 J s h w' A' a/\aj S H J/\∀z,h z->S z\/H.size<=z
section
variable {H J : Hp} {s : Nat} {S : Nat → Prop} {w : Nw} {A : Ar} {q : Int}
theorem lR(H:Hp)(T:TypeId)(z l:List Value):af H ((H.new T z).wr H.size l)/\((H.new T z).wr H.size l).own H.size=some l/\((H.new T z).wr H.size l).size=H.size+1:=by
 have a:af H (H.new T z):=bm;have h:aj (fun x=>x=H.size) (H.new T z) ((H.new T z).wr H.size l):=(aj.refl (fun x=>x=H.size) _).wr (fun _=>rfl) _;exact⟨a.then h O,ah (am _ _ _),by rw[bE,ag]⟩
theorem Ij{H:Hp}{b:Nat}{z:List Value}(h:H.own b=some z)(l:List Value):aj (fun x=>x=b) H (H.wr b l)/\(H.wr b l).own b=some l:=⟨(aj.refl (fun x=>x=b) _).wr (fun _=>rfl) _,ah h⟩
theorem qs(h:j0 H s S w A q)(F:w.hs.length<65537):aD 161 [ptr s] H fun v J=>ak (v= .tuple [i64 w.hs.length,i64 0].toArray/\lQ s S H J w.make A q):=by
 obtain⟨t,o,I,f,B,k,d,n,hi,m,e,u,j,L,y⟩:=h;obtain⟨c,C,r⟩:=n.cells hi;have Q:=r.pos;refine aL vD ?_;refine v1 (ae e) ?_;refine(n.make hi).mono ?_;rintro _ H1 (⟨P,_⟩| ⟨_,rfl,g,hi',a,W⟩)
 ·omega
 refine vs ?_;refine ai.dec (fun K=>O) (fun _=>?_);refine vs ?_;have G:=m.slt;have N:=aB e;refine⟨rfl,fun z=>g z\/B.S z\/z=s,⟨t,o,I,g,B,k,d,n,hi',m.ext a Z,a.own e Z,fun z p=>?_,j,fun z=>Iff.rfl,⟨y.len,y.live⟩⟩,a.mono Z,fun z p=>?_⟩
 ·grind
 grind
theorem Ci.put{w:Nw}{A A':Ar}(l:Ci w A){x:Int}(c:0<=x/\x<A.g.length){y:Ce}{v:Nat}(m:A'.g=A.g.set x.toNat (v,decide (0<y.1))):Ci (w.put x y) A':=by
 have g:0<=x/\x<w.cs.length:=by rw[l.len];exact c
 refine⟨by rw[m,alb];simp[Nw.put,l.len],fun z=>?_⟩;by_cases a:0<=z
 ·rw[Ar.lf c m a,<-bf,dT g];by_cases e:z=x
  ·grind
  ·rw[if_neg e,if_neg e,bf];exact l.live z
 ·exact⟨fun h=>absurd h.1 a,fun h=>absurd h.1 a⟩
theorem sD(h:j0 H s S w A q){g key:Int}(X:w.has g)(Ll:∀x:Int,0<=x->x<A.g.length->A.be x<4294967295)(hq:0<=q/\q<18446744073709551615):aD 162 [ptr s,i64 g,i64 key] H fun v J=>ak (
  (A.pick=none/\v= .tuple [dZ 0 0,i64 32].toArray/\lQ s S H J w A q)\/(∃x A',A.pick=some (x,A')/\v= .tuple [dZ x (A.be x+1),i64 0].toArray/\lQ s S H J (w.put x (g,key,q+1)) (A'.out x) (q+1))):=by
 have wz:=h.slt;obtain⟨t,Q,I,W,B,k,d,n,hi,m,ho,d1,M,hS,L⟩:=h;refine aL mC ?_;refine vs ?_;have f:af H (H.new 52 cB):=bm;have b0:(H.new 52 cB).own H.size=some cB:=am _ _ _;have z0:(H.new 52 cB).size=H.size+1:=ag _ _ _;generalize H.new 52 cB=H0 at*;have m0:=m.ext f (fun _ _ h=>h);have Nc:=n.ext hi f (fun _ _ h=>h);have F:=f.own ho (fun h=>h);have ny:∀z,S z->z≠H.size:=Z;refine v1 (ae F) ?_;refine(n.has g Nc).mono ?_;rintro _ _ ⟨rfl,rfl⟩;rw[ale X];refine v1 (ae F) ?_;refine(BE m0 Ll).mono ?_;rintro _ H1 (⟨K,rfl,m1,P⟩| ⟨x,A',K,rfl,m1,p⟩)
 ·have D:=P.own b0 (fun h=>h);refine vs ?_;obtain⟨y,b2,z2⟩:=lR H1 52 cB [i64 0,Value.int .u32 ((0:Nat):Int)];generalize (H1.new 52 cB).wr H1.size [i64 0,Value.int .u32 ((0:Nat):Int)]=H2 at*;have u:=y.own D (fun h=>h);refine ai.dec (fun hh=>O) (fun _=>?_);refine v1 u ?_;obtain⟨a,b4⟩:=Ij u cB;refine v1 (ae b4) ?_;have hse:aj S H (H2.wr H.size cB):=by
   have E:=(f.trans P).trans y;exact(E.then a O).mono fun _ _ h=>h.elim
  refine .inl ⟨K,rfl,S,⟨t,Q,I,W,B,k,d,n,?_,?_,?_,d1,M,hS,L⟩,hse,fun z j=>.inl j⟩
  ·exact n.ext (n.ext (n.ext Nc P (fun _ _ h=>h)) y (fun _ _ h=>h)) a Z
  ·exact(m1.ext y (fun _ _ h=>h)).ext a Z
  ·exact a.own (y.own (P.own F (fun h=>h)) (fun h=>h)) Z
 ·obtain⟨Kl,tC,_,_,hAg,_,_⟩:=Ar.oG K m.ok;have D:=p.own b0 Z;have o1:=p.own F M;have XF:=n.ext Nc p Z;refine vs ?_;obtain⟨y,b2,z2⟩:=lR H1 52 cB [i64 x,Value.int .u32 ((A.be x+1:Nat):Int)];generalize (H1.new 52 cB).wr H1.size [i64 x,Value.int .u32 ((A.be x+1:Nat):Int)]=H2 at*;have u:=y.own D (fun h=>h);have N:=y.own o1 (fun h=>h);have Kk:=n.ext XF y (fun _ _ h=>h);have m2:=m1.ext y (fun _ _ h=>h);refine ai.dec (fun _=>?_) (fun hh=>absurd trivial hh);refine v2 (ae N) N ?_;rw[eG (n:=q+1) O O];obtain⟨a,o3⟩:=Ij N [i64 k,i64 d,ptr B.a,.iface t Q,u64 (q+1)];have Wc:=aB N;have QK:=p.size;have af3:=aB ho;have b5:=a.own u O;have b6:=a.own b2 (fun e=>O);have Og:=n.ext Kk a Z;have m3:=m2.ext a Z;generalize H2.wr s [i64 k,i64 d,ptr B.a,.iface t Q,u64 (q+1)]=H3 at*;refine v2 (ae o3) (ae b6) ?_;refine(n.insert g x key (q+1) Og).mono ?_;obtain⟨c,C,cq⟩:=n.cells Og;have QJ:¬cu w.cs x:=fun h=>tC ((L.live x).1 h);rintro _ H4 (⟨kV,_⟩| ⟨_,rfl,G,hi4,r,SR⟩)
  ·exact absurd ⟨X,by rw[L.len];exact Kl,QJ⟩ kV
  have Wg:=a.size;have Rs:∀z,H.size<=z->¬W z:=Z;have b7:=r.own b6 (Rs _ O);have b8:=r.own b5 Z;refine v2 (ae b7) b8 ?_;obtain⟨o,b9⟩:=Ij b8 [i64 x,Value.int .u32 ((A.be x+1:Nat):Int)];refine v1 (ae b9) ?_;have o4:=r.own o3 Z;have m4:=m3.ext r Z;have Hv:=m.slt;have hz5:=r.size;have T2:∀z,B.S z->z<H.size:=Hv;have abI:∀z,G z->W z\/H.size<z:=Z;refine .inr ⟨x,A',K,rfl,fun z=>G z\/B.S z\/z=s,⟨t,Q,I,G,B,k,d,n,n.ext hi4 o (fun z j e=>?_),m4.ext o (fun z j e=>?_),o.own o4 O,fun z j=>?_,M,fun z=>Iff.rfl,?_⟩,?_,fun z j=>?_⟩
  ·grind
  ·grind
  ·grind
  ·refine L.put Kl (v:=A.be x+1) ?_;have Wf:A'.be x=A.be x:=by unfold Ar.be;rw[hAg]
   show A'.g.set x.toNat (A'.be x+1,true)=_;rw[Wf,hAg];exact ald (fun b=>A.g.set x.toNat (A.be x+1,b)) (ale X.1).symm
  ·have E:aj S H H3:=((f.mono fun _ _ h=>h.elim).trans (p.mono Z)).trans ((y.mono fun _ _ h=>h.elim).trans (a.mono Z));have h2:=E.trans (r.mono Z);exact⟨alw h2.size o.size,fun z j hn=>by cases o;cases h2;grind⟩
  grind
end
section
variable{g x:Int}
section
variable {H J H1 H2 : Hp} {s : Nat} {S S1 : Nat → Prop} {w w2 : Nw} {A A2 : Ar} {q q2 : Int}
theorem lQ.same(h:j0 J s S w A q)(e:aj S H J):lQ s S H J w A q:=⟨S,h,e,fun z a=>.inl a⟩
theorem Gr(h:aj S H H1)(y:∀z,S1 z->S z\/H.size<=z)(v:lQ s S1 H1 H2 w2 A2 q2):lQ s S H H2 w2 A2 q2:=by
 obtain⟨c,e,a,t⟩:=v;have r:=h.size;refine⟨c,e,⟨alw h.size a.size,fun z m g=>?_⟩,fun z m=>?_⟩
 ·rw[a.aW z O Z,h.aW z m g]
 grind
theorem lS(l:Ci w A)(h:w.first g x):A.live x:=by
 cases l;grind [bh,bf]
theorem Fk(h:j0 H s S w A q)(hg:w.has g):aD 212 [ptr s,i64 g] H fun v J=>ak (
  (w.len g=0/\v= .tuple [dZ 0 0,i64 172].toArray/\lQ s S H J w A q)\/(∃x,w.first g x/\v= .tuple [dZ x (A.be x),i64 0].toArray/\lQ s S H J w A q)):=by
 have wz:=h.slt;obtain⟨t,vv,I,P,B,k,d,n,hi,m,D,d1,d2,hS,G⟩:=h;refine aL nJ ?_;refine vs ?_;have o:af H (H.new 52 cB):=bm;have b0:(H.new 52 cB).own H.size=some cB:=am _ _ _;have z0:(H.new 52 cB).size=H.size+1:=ag _ _ _;generalize H.new 52 cB=K at*;have E:=m.ext o (fun _ _ h=>h);have W:=n.ext hi o (fun _ _ h=>h);have u:=o.own D (fun h=>h);have Rs:∀z,H.size<=z->¬P z:=Z;have T2:∀z,B.S z->z<H.size:=m.slt;have hos:=aB D;refine v1 (ae u) ?_;refine(n.has g W).mono ?_;rintro _ _ ⟨rfl,rfl⟩;rw[ale hg];refine v1 (ae u) ?_;refine(n.min g W).mono ?_;have fin:∀ (H1 H2:Hp) (c:Nat->Prop),I H1 c w->aj P K H1->(∀z,c z->P z\/K.size<=z)->aj (fun z=>z=H.size\/H1.size<=z) H1 H2->lQ s S H H2 w A q:=fun H1 H2 c y a f j=>by
  have QK:=a.size;have Kj:=j.size;refine⟨fun z=>c z\/B.S z\/z=s,⟨t,vv,I,c,B,k,d,n,n.ext y j (fun z r e=>?_),(E.ext a Z).ext j (fun z r e=>?_),j.own (a.own u Z) (fun e=>O),fun z r=>?_,d2,fun z=>Iff.rfl,G⟩,?_,fun z r=>?_⟩
  ·rcases e with e|e
   ·grind
   ·have:=n.slt y z r;omega
  ·grind
  ·grind
  ·have h1:aj S H H1:=(o.mono fun _ _ h=>h.elim).trans (a.mono Z);exact⟨O,fun z r hn=>by rw[j.aW z O O,h1.aW z r hn]⟩
  grind
 rintro _ H1 (⟨h0,rfl,c,y,a,f⟩| ⟨x,M,rfl,c,y,a,f⟩)
 ·have p:=a.own b0 Z;refine v1 p ?_;obtain⟨C,L⟩:=Ij p cB;refine v1 (ae L) ?_;exact .inl ⟨h0,rfl,fin H1 _ c y a f (C.mono fun z _ h=>.inl h)⟩
 ·have p:=a.own b0 Z;have o1:=a.own u Z;have m1:=E.ext a Z;refine v1 (ae o1) ?_;refine(Fi m1 (lS G M)).mono ?_;rintro _ H2 ⟨rfl,N⟩;have X:=N.own p (fun h=>h);refine vs ?_;obtain⟨Q,b3,z3⟩:=lR H2 52 cB [i64 x,Value.int .u32 ((A.be x:Nat):Int)];generalize (H2.new 52 cB).wr H2.size [i64 x,Value.int .u32 ((A.be x:Nat):Int)]=H3 at*;have F:=Q.own X (fun h=>h);refine v2 (ae b3) F ?_;obtain⟨C,L⟩:=Ij F [i64 x,Value.int .u32 ((A.be x:Nat):Int)];refine v1 (ae L) ?_;exact .inr ⟨x,M,rfl,fin H1 _ c y a f (((N.trans Q).mono fun _ _ h=>h.elim).trans (C.mono fun z _ h=>.inl h))⟩
theorem jH(h:j0 H s S w A q)(hx:A.live x):aD 213 [ptr s,dZ x (A.be x)] H fun v J=>ak (∃y,w.cs[x.toNat]? =some y/\v= .tuple [ms y.2.1 y.2.2,i64 0].toArray/\lQ s S H J w A q):=by
 have wz:=h.slt;obtain⟨t,M,I,C,B,k,d,n,hi,m,ho,d1,d2,hS,Oh⟩:=h;refine aL nK ?_;refine vs ?_;have L:af H ((H.new 52 [i64 x,.int .u32 (A.be x:Int)]).new 148 ml):=bm.new _ _;have b0:((H.new 52 [i64 x,.int .u32 (A.be x:Int)]).new 148 ml).own H.size=some [i64 x,.int .u32 (A.be x:Int)]:=by
  rw[ax (by simp only[ag];omega),am]
 have c0:((H.new 52 [i64 x,.int .u32 (A.be x:Int)]).new 148 ml).own (H.size+1)=some ml:=az (by simp only[ag]);have z0:((H.new 52 [i64 x,.int .u32 (A.be x:Int)]).new 148 ml).size=H.size+1+1:=by simp only[ag]
 generalize (H.new 52 [i64 x,.int .u32 (A.be x:Int)]).new 148 ml=H0 at*;have m0:=m.ext L (fun _ _ h=>h);have Nc:=n.ext hi L (fun _ _ h=>h);have o0:=L.own ho (fun h=>h);have Rs:∀z,H.size<=z->¬C z:=Z;have T2:∀z,B.S z->z<H.size:=m.slt;have hos:=aB ho;refine v2 (ae o0) (ae b0) ?_;refine(gU m0 x (A.be x)).mono ?_;rintro _ H1 ⟨rfl,g⟩;rw[ale ⟨hx,rfl⟩];have m1:=m0.ext g (fun _ _ h=>h);have XF:=n.ext Nc g (fun _ _ h=>h);have f:=g.own o0 (fun h=>h);have u:=g.own b0 (fun h=>h);have X:=g.own c0 (fun h=>h);have z1:=g.size;have mj:cu w.cs x:=(Oh.live x).2 hx;have fin:∀H2,I H2 C w->aj (fun z=>z=H.size+1\/H1.size<=z) H1 H2->lQ s S H H2 w A q:=fun H2 o P=>by
  have h1:aj S H H1:=(L.trans g).mono fun _ _ h=>h.elim;refine⟨S,⟨t,M,I,C,B,k,d,n,o,m1.ext P Z,P.own f (fun e=>O),d1,d2,hS,Oh⟩,⟨alw h1.size P.size,fun z D hn=>by rw[P.aW z O O,h1.aW z D hn]⟩,fun z D=>.inl D⟩
 refine vs ?_;refine di.intro (fun J=>J.own s=some [i64 k,i64 d,ptr B.a,.iface t M,u64 q]/\J.own H.size=some [i64 x,.int .u32 (A.be x:Int)]) ⟨f,u⟩ ?_;refine vs ?_;refine bG.intro (.iface t M) (fun J Q=>by refine v1 (ae Q.1) ?_;trivial) ?_;refine vs ?_;refine bG.intro (i64 x) (fun J Q=>by refine v1 (ae Q.2) ?_;trivial) ?_;refine vs ?_;refine ry.intro ?_ ?_
 ·refine vs ?_;refine(n.entry x XF).mono ?_;rintro _ H2 ⟨o,a,⟨W,_⟩| ⟨_,y,G,rfl⟩⟩
  ·exact absurd mj W
  have r:=a.own f (fun h=>h);have c:=a.own u (fun h=>h);have F:=a.own X (fun h=>h);have z2:=a.size;refine And.intro ⟨r,c⟩ ?_;refine vs ?_;refine And.intro ⟨r,c⟩ ?_;refine vs ?_;refine And.intro ⟨r,c⟩ ?_;refine vs ?_;obtain⟨N,b3,z3⟩:=lR H2 148 ml [i64 y.2.1,u64 y.2.2];generalize (H2.new 148 ml).wr H2.size [i64 y.2.1,u64 y.2.2]=H3 at*;have c3:=N.own F (fun h=>h);refine v2 (ae b3) c3 ?_;obtain⟨e4,K⟩:=Ij c3 [i64 y.2.1,u64 y.2.2];refine v1 (ae K) ?_;exact⟨y,G,rfl,fin _ (n.ext (n.ext o N (fun _ _ h=>h)) e4 Z) (((a.trans N).mono fun _ _ h=>h.elim).trans (e4.mono fun z _ h=>.inl h))⟩
 ·refine vs ?_;refine And.intro ⟨f,u⟩ ?_;have p:af H1 (H1.new 148 ml):=bm;have K:(H1.new 148 ml).own H1.size=some ml:=am _ _ _;have z4:(H1.new 148 ml).size=H1.size+1:=ag _ _ _;generalize H1.new 148 ml=H4 at*;refine vs ?_;refine(n.entry x (n.ext XF p (fun _ _ h=>h))).mono ?_;rintro _ H2 ⟨o,a,⟨W,_⟩| ⟨_,y,G,rfl⟩⟩
  ·exact absurd mj W
  have r:=a.own (p.own f (fun h=>h)) (fun h=>h);have c:=a.own (p.own u (fun h=>h)) (fun h=>h);have F:=a.own (p.own X (fun h=>h)) (fun h=>h);have E:=a.own K (fun h=>h);have z2:=a.size;refine And.intro ⟨r,c⟩ ?_;refine v1 E ?_;obtain⟨j,b6⟩:=Ij E [i64 y.2.1,u64 y.2.2];have o6:=j.own r (fun e=>O);have b26:=j.own c (fun e=>O);have c6:=j.own F (fun e=>O);have hn6:=n.ext o j Z;have e26:aj (fun z=>z=H.size+1\/H1.size<=z) H1 (H2.wr H1.size [i64 y.2.1,u64 y.2.2]):=((p.trans a).mono fun _ _ h=>h.elim).trans (j.mono O);generalize H2.wr H1.size [i64 y.2.1,u64 y.2.2]=H6 at*;first
   |refine And.intro ⟨o6,b26⟩ ?_
   |refine And.intro ⟨r,c⟩ ?_
  refine v2 (ae b6) c6 ?_;obtain⟨e7,b7⟩:=Ij c6 [i64 y.2.1,u64 y.2.2];refine v1 (ae b7) ?_;exact⟨y,G,rfl,fin _ (n.ext hn6 e7 Z) (e26.trans (e7.mono fun z _ h=>.inl h))⟩
end
end
section
variable{g:Int}{b:Nat}
section
variable {H J H1 H2 : Hp} {s : Nat} {S S1 : Nat → Prop} {w w2 : Nw} {A A2 : Ar} {q q2 : Int}
theorem j0.tmp{l:List Value}(h:j0 H1 s S1 w A q)(z:¬S1 b):j0 (H1.wr b l) s S1 w A q:=h.ext ((aj.refl (fun x=>x=b) _).wr (fun _=>rfl) _:aj (fun x=>x=b) H1 _) Z
theorem iT(h:j0 H2 s S1 w A q)(e:aj S H H2)(a:∀z,S1 z->S z\/H.size<=z):lQ s S H H2 w A q:=⟨S1,h,e,a⟩
theorem tD{l:List Value}(e:aj S H H1)(c:H.size<=b):aj S H (H1.wr b l):=by
 have h:aj (fun x=>x=b) H1 (H1.wr b l):=(aj.refl (fun x=>x=b) _).wr (fun _=>rfl) _;exact⟨alw e.size h.size,fun z a m=>by rw[h.aW z (alp a e.size) O,e.aW z a m]⟩
theorem AY(h:j0 H s S w A q)(hg:w.has g):aD 163 [ptr s,i64 g] H fun v J=>ak (
  (w.len g=0/\v= .tuple [dZ 0 0,i64 0,i64 172].toArray/\lQ s S H J w A q)\/(∃x y,w.first g x/\w.cs[x.toNat]? =some y/\v= .tuple [dZ x (A.be x),i64 y.2.1,i64 0].toArray/\lQ s S H J w A q)):=by
 have wz:=h.slt;have Oh:=h.Of.1;refine aL rL ?_;refine vs ?_;have C:af H (H.new 52 cB):=bm;have b0:(H.new 52 cB).own H.size=some cB:=am _ _ _;have z0:(H.new 52 cB).size=H.size+1:=ag _ _ _;generalize H.new 52 cB=H0 at*;have h0:=h.ext C (fun _ _ h=>h);have hSn:∀z,H.size<=z->¬S z:=Z;refine(Fk h0 hg).mono ?_;rintro _ H1 (⟨Z7,rfl,S1,d,a,Ik⟩| ⟨x,Q,rfl,S1,d,a,Ik⟩)
 ·have o:=a.own b0 Z;have QK:=a.size;refine vs ?_;obtain⟨m,f,z2⟩:=lR H1 52 cB [i64 0,Value.int .u32 ((0:Nat):Int)];generalize (H1.new 52 cB).wr H1.size [i64 0,Value.int .u32 ((0:Nat):Int)]=H2 at*;have c:=m.own o (fun h=>h);refine ai.dec (fun N=>O) (fun _=>?_);refine v1 c ?_;obtain⟨e4,u⟩:=Ij c cB;have P:aj S H H2:=((C.mono fun _ _ h=>h.elim).trans a).trans (m.mono fun _ _ h=>h.elim);have p:¬S1 H.size:=Z;have K:=((d.ext m (fun _ _ h=>h)).tmp p (l:=cB));have L:=tD (l:=cB) P (alj H.size);refine v1 (ae u) ?_;exact .inl ⟨Z7,rfl,iT K L Z⟩
 ·have o:=a.own b0 Z;have QK:=a.size;have XL:=lS Oh Q;refine vs ?_;obtain⟨m,f,z2⟩:=lR H1 52 cB [i64 x,Value.int .u32 ((A.be x:Nat):Int)];generalize (H1.new 52 cB).wr H1.size [i64 x,Value.int .u32 ((A.be x:Nat):Int)]=H2 at*;have c:=m.own o (fun h=>h);have h2:=d.ext m (fun _ _ h=>h);refine ai.dec (fun _=>?_) (fun N=>absurd trivial N);refine v1 (ae f) ?_;have T3:=d.slt;refine(jH h2 XL).mono ?_;rintro _ H3 ⟨y,hy,rfl,I,K,r,Mq⟩;have p:¬S1 H.size:=Z;have hn2:¬S1 H1.size:=Z;have u:=r.own c p;have c4:=r.own f hn2;have SN:=r.size;refine vs ?_;obtain⟨j,t,z5⟩:=lR H3 148 ml [i64 y.2.1,u64 y.2.2];generalize (H3.new 148 ml).wr H3.size [i64 y.2.1,u64 y.2.2]=H5 at*;have F:=j.own u (fun h=>h);have M:=j.own c4 (fun h=>h);have h5:=K.ext j (fun _ _ h=>h);have hn3:∀b,¬S1 b->b<H2.size->¬I b:=Z;have L:aj S H H5:=by
   have P:aj S H H2:=((C.mono fun _ _ h=>h.elim).trans a).trans (m.mono fun _ _ h=>h.elim);have E:aj S H H3:=⟨O,fun z W hn=>by rw[r.aW z O Z,P.aW z W hn]⟩;exact E.trans (j.mono fun _ _ h=>h.elim)
  refine di.intro (fun J=>J.own H3.size=some [i64 y.2.1,u64 y.2.2]) t ?_;refine vs ?_;refine bG.intro (i64 y.2.1) (fun J hI=>by refine v1 (ae hI) ?_;trivial) ?_;refine v1 (ae M) ?_;refine And.intro t ?_;refine v1 F ?_;obtain⟨X,D⟩:=Ij F [i64 x,Value.int .u32 ((A.be x:Nat):Int)];have G:=X.own t (fun e=>O);first
   |refine And.intro G ?_
   |refine And.intro t ?_
  have h7:=h5.tmp (hn3 _ p O) (l:=[i64 x,Value.int .u32 ((A.be x:Nat):Int)]);have e8:=tD (l:=[i64 x,Value.int .u32 ((A.be x:Nat):Int)]) L (alj H.size);refine v1 (ae D) ?_;refine .inr ⟨x,y,Q,hy,rfl,iT h7 e8 (fun z W=>?_)⟩;grind
theorem Nk{x z:Int}(h:w.first g x)(a:w.first g z):z=x:=by
 obtain⟨_,e,m⟩:=bh.1 h;obtain⟨_,c,y⟩:=bh.1 a;apply alt;intro v;have:=(ar w).vk (m z c v);grind
theorem lT(h:j0 H s S w A q)(hg:w.has g):aD 164 [ptr s,i64 g] H fun v J=>ak (
  (w.len g=0/\v= .tuple [dZ 0 0,i64 0,i64 172].toArray/\lQ s S H J w A q)\/(∃x y,w.first g x/\w.cs[x.toNat]? =some y/\v= .tuple [dZ x (A.be x),i64 y.2.1,i64 0].toArray/\lQ s S H J (w.put x (0,0,0)) (A.back x) q)):=by
 have wz:=h.slt;have Oh:=h.Of.1;refine aL jk ?_;refine vs ?_;have F:af H (H.new 52 cB):=bm;have b0:(H.new 52 cB).own H.size=some cB:=am _ _ _;have z0:(H.new 52 cB).size=H.size+1:=ag _ _ _;generalize H.new 52 cB=H0 at*;have h0:=h.ext F (fun _ _ h=>h);have hSn:∀z,H.size<=z->¬S z:=Z;refine(AY h0 hg).mono ?_;rintro _ H1 (⟨E,rfl,S1,P,e,Ik⟩| ⟨x,y,Q,hy,rfl,S1,P,e,Ik⟩)
 ·have L:=e.own b0 Z;have QK:=e.size;refine vs ?_;obtain⟨a,W,z2⟩:=lR H1 52 cB [i64 0,Value.int .u32 ((0:Nat):Int)];generalize (H1.new 52 cB).wr H1.size [i64 0,Value.int .u32 ((0:Nat):Int)]=H2 at*;have f:=a.own L (fun h=>h);refine ai.dec (fun D=>O) (fun _=>?_);refine v1 f ?_;obtain⟨r,C⟩:=Ij f cB;have K:aj S H H2:=((F.mono fun _ _ h=>h.elim).trans e).trans (a.mono fun _ _ h=>h.elim);have SS:¬S1 H.size:=Z;have h3:=((P.ext a (fun _ _ h=>h)).tmp SS (l:=cB));have e5:=tD (l:=cB) K (alj H.size);refine v1 (ae C) ?_;exact .inl ⟨E,rfl,iT h3 e5 Z⟩
 ·have L:=e.own b0 Z;have QK:=e.size;have X:=lS Oh Q;refine vs ?_;obtain⟨a,W,z2⟩:=lR H1 52 cB [i64 x,Value.int .u32 ((A.be x:Nat):Int)];generalize (H1.new 52 cB).wr H1.size [i64 x,Value.int .u32 ((A.be x:Nat):Int)]=H2 at*;have f:=a.own L (fun h=>h);have T3:=P.slt;have h2:=P.ext a (fun _ _ h=>h);have SS:¬S1 H.size:=Z;have hn2:¬S1 H1.size:=Z;obtain⟨t,vv,I,Sn,B,k,d,n,hi,m,N,d1,d2,hS,_⟩:=h2;refine ai.dec (fun _=>?_) (fun D=>absurd trivial D);refine v1 (ae N) ?_;refine(n.extract g hi).mono ?_;have T2:∀z,B.S z->z<H2.size:=m.slt;have hos:=aB N;rintro _ H3 (⟨E,_⟩| ⟨c,T4,rfl,o,M,j,Mq⟩)
  ·exfalso;grind [bh,nX]
  obtain rfl:=Nk Q T4;have ho3:=j.own N Z;have C:=j.own f Z;have c4:=j.own W Z;have m3:=m.ext j Z;have SN:=j.size;refine v2 (ae ho3) (ae c4) ?_;refine(qo m3 X).mono ?_;rintro _ H4 ⟨rfl,u,m4,r,XM⟩;have nB1:¬B.S H.size:=Z;have nB2:¬B.S H1.size:=Z;have G:=r.own C nB1;have c5:=r.own c4 nB2;have ho4:=r.own ho3 d2;have Wg:=r.size;refine v2 (ae c5) G ?_;obtain⟨e6,b6⟩:=Ij G [i64 c,Value.int .u32 ((A.be c:Nat):Int)];refine v1 (ae b6) ?_;have abI:∀z,o z->Sn z\/H2.size<=z:=Mq;have hB':∀z,(Nj.mk B.a B.sb u).S z->B.S z\/H3.size<=z:=fun z p=>by
   rcases p with h|h|h
   ·exact .inl (.inl h)
   ·exact .inl (.inr (.inl h))
   ·exact(XM z h).imp_left fun h=>.inr (.inr h)
  have hiT:I H4 o (w.put c (0,0,0)):=n.ext M r Z;have agc:=fun z p=>n.slt M z p;have nn1:∀b,¬S1 b->b<H2.size->¬o b/\¬ (Nj.mk B.a B.sb u).S b:=Z;have agd:H.size≠s:=Z;have Kl:=Ar.kN X;have ST:j0 H4 s (fun z=>o z\/(Nj.mk B.a B.sb u).S z\/z=s) (w.put c (0,0,0)) (A.back c) q:=by
   refine⟨t,vv,I,o,⟨B.a,B.sb,u⟩,k,d,n,hiT,m4,ho4,fun z p=>?_,fun h=>?_,fun z=>Iff.rfl,Oh.put Kl rfl⟩
   ·grind
   ·grind
  have abM:=ST.tmp (b:=H.size) (l:=[i64 c,Value.int .u32 ((A.be c:Nat):Int)]) Z;have e04:aj S H H4:=by
   have K:aj S H H2:=((F.mono fun _ _ h=>h.elim).trans e).trans (a.mono fun _ _ h=>h.elim);exact⟨O,fun z p hn=>by
    cases j;cases r;cases K;grind⟩
  have Kj:=a.size;refine .inr ⟨c,y,Q,hy,rfl,iT abM (tD e04 (alj _)) (fun z p=>?_)⟩;grind
end
end
section
variable{n:Nat}{H:Hp}{kd dd:Int}
abbrev xY(kd dd:Int):Value:=.agg [i64 kd,i64 dd].toArray
def dP(kd dd:Int):Prop:=(1<=kd/\kd<=8)/\((kd=2/\2<=dd/\dd<=16)\/(kd≠2/\dd=0))
instance(kd dd:Int):Decidable (dP kd dd):=by unfold dP;exact inferInstance
def JG(kd dd:Int):Int:=if kd<1\/8<kd then 21 else if dP kd dd then 0 else 22
theorem Pf(h:kd<1\/8<kd):JG kd dd=21:=by unfold JG;omega
theorem Hz(h:dP kd dd):JG kd dd=0:=by
 have:=h.1;unfold JG;grind
theorem Pg(z:¬ (kd<1\/8<kd))(h:¬dP kd dd):JG kd dd=22:=by unfold JG;grind
theorem xZ:JG kd dd=0↔dP kd dd:=by
 grind [Pf,Pg,Hz]
theorem eS(kd dd:Int)(H:Hp):aD 30 [xY kd dd] H fun v J=>ak (v=i64 (JG kd dd)/\af H J):=by
 refine aL EV ?_;refine vs ?_;have h:af H (H.new 26 [i64 kd,i64 dd]):=bm;repeat' (refine ai.dec (fun _=>?_) (fun _=>?_)<;>try(refine v1 alr ?_))
 all_goals
  first
   | (exfalso;omega)
   | (refine⟨?_,h⟩;exact(ald i64 (Pf O)).symm)
   | (refine⟨?_,h⟩;exact(ald i64 (Hz (by unfold dP;omega))).symm)
   | (refine⟨?_,h⟩;exact(ald i64 (Pg O (by unfold dP;omega))).symm)
theorem Dw(kd dd:Int)(H:Hp):aD 31 [xY kd dd] H fun v J=>ak (v=i64 (JG kd dd)/\af H J):=by
 refine aL EW ?_;refine vs ?_;have h:af H (H.new 26 [i64 kd,i64 dd]):=bm;repeat' (refine ai.dec (fun _=>?_) (fun _=>?_)<;>try(refine v1 alr ?_))
 all_goals
  first
   | (exfalso;omega)
   | (refine⟨?_,h⟩;exact(ald i64 (Pf O)).symm)
   | (refine⟨?_,h⟩;exact(ald i64 (Hz (by unfold dP;omega))).symm)
   | (refine⟨?_,h⟩;exact(ald i64 (Pg O (by unfold dP;omega))).symm)
theorem mF(e:dP kd dd)(g:kd=1\/kd=2)(H:Hp):aD 88 [xY kd dd] H fun v J=>ak (v=i64 (if kd=1 then 2 else dd)/\af H J):=by
 refine aL E1 ?_;refine vs ?_;have m:af H (H.new 26 [i64 kd,i64 dd]):=bm;have y:(H.new 26 [i64 kd,i64 dd]).own H.size=some [i64 kd,i64 dd]:=am _ _ _;generalize H.new 26 [i64 kd,i64 dd]=c at*;refine(eS kd dd c).mono ?_;rintro _ H1 ⟨rfl,z⟩;have a:=z.own y (fun h=>h);rw[Hz e];refine v2 (ae a) alr ?_;rcases g with rfl|rfl
 ·refine ai.bK (by decide) ?_;refine v2 (ae a) alr ?_;exact⟨rfl,m.trans z⟩
 ·refine ai.aR (by decide) ?_;refine v2 (ae a) alr ?_;exact⟨rfl,m.trans z⟩
structure Ph(w:Nw)(L:List Lk)(tops:List Int):Prop where
 bt:tj (aH w) (aU w) (bk L) (bq L) (aO tops)
 tl:tops.length=w.hs.length
def dw(n:Nat)(H:Hp)(S:Nat->Prop)(w:Nw):Prop:=∃ (B:LB) (C:Nat->Prop) (L:List Lk) (rs tops:List Int),B.n=n/\dc H B C w L rs tops/\Ph w L tops/\∀z,S z↔B.S C z
theorem dw.slt{S:Nat->Prop}{w:Nw}(h:dw n H S w):∀z,S z->z<H.size:=by
 obtain⟨B,C,L,rs,tops,rfl,m,l,a⟩:=h;exact fun z c=>m.slt z ((a z).1 c)
theorem dw.ext{J:Hp}{S T:Nat->Prop}{w:Nw}(h:dw n H S w)(e:aj T H J)(c:∀z,S z->¬T z):dw n J S w:=by
 obtain⟨B,C,L,rs,tops,rfl,m,l,a⟩:=h;exact⟨B,C,L,rs,tops,rfl,m.ext e Z,l,a⟩
theorem uw{S:Nat->Prop}{w:Nw}(h:dw n H S w)(g x k s:Int):aD 455 [ptr n,i64 g,i64 x,ms k s] H fun v J=>ak (
  (¬w.kC g x/\v= .bool false/\br (dw n) S H J w)\/(w.kC g x/\v= .bool true/\br (dw n) S H J (w.put x (g,k,s)))):=by
 obtain⟨B,C,L,rs,tops,rfl,m,l,c⟩:=h;refine aL qM ?_;refine vs ?_;have u:af H (H.new 148 [i64 k,u64 s]):=bm;have b0:(H.new 148 [i64 k,u64 s]).own H.size=some [i64 k,u64 s]:=am _ _ _;have p:=m.fresh u;generalize H.new 148 [i64 k,u64 s]=H0 at*;obtain⟨tv,HB,_⟩:=p.own;refine v2 (ae HB) (ae b0) ?_;refine(jW p.cells g x k s).mono ?_;rintro _ H1 (⟨kV,rfl,f,j⟩| ⟨W,rfl,f,j⟩)
 ·refine vs ?_;exact .inl ⟨kV,rfl,br.same ⟨B,C,L,rs,tops,rfl,p.aE f j rfl,l,c⟩ ((u.mono fun _ _ h=>h.elim).trans (j.mono fun z _ hz=>(c z).2 (.inl hz)))⟩
 obtain⟨N,Q,mj⟩:=id W;have o:=p.aE f j (by simp[Nw.put]);have ec:=o.len;have tC:(w.put x (g,k,s)).cs.length=w.cs.length:=by simp[Nw.put]
 obtain⟨Ni,o1,_⟩:=o.own;refine v1 (ae o1) ?_;refine⟨O,?_⟩;refine v3 o.zP ak7 ala ?_;refine⟨Z,?_⟩;refine vs ?_;obtain⟨e,M⟩:dc (H1.wr B.rk ((rs.map i64).set x.toNat (Value.int .i64 1))) B C _ L (rs.set x.toNat 1) tops/\aj (fun z=>z=B.rk) H1 (H1.wr B.rk ((rs.map i64).set x.toNat (Value.int .i64 1))):=o.Lh x.toNat 1;generalize H1.wr B.rk ((rs.map i64).set x.toNat (Value.int .i64 1))=H2 at*;obtain⟨K,lt,t,q2,Dx,JH,JI⟩:=e.ed;refine di.intro (fun J=>J.own B.n=some [ptr B.c,ptr B.t,.slice (some ⟨B.rk,0,none⟩) (rs.set x.toNat 1).length (rs.set x.toNat 1).length,.slice (some ⟨B.tp,0,none⟩) tops.length K]) t ?_;refine vs ?_;refine bG.intro (.slice (some ⟨B.tp,0,none⟩) tops.length K) (fun J hI=>by refine v1 (ae hI) ?_;trivial) ?_;refine v1 (ae t) ?_;have hg:=N.1;have wU:g<tops.length:=by
  have:=(ak8.1 N.2).1;have:=l.tl;omega
 have q3:=e.cS q2 (ce (tops:=tops) (h:=g) O wU);have j1:=fun y=>dT Q (g,k,s) y;have P:QR (aH (w.put x (g,k,s))) (aU (w.put x (g,k,s))) (bk L) (bq L) (aO tops) g x:=by
  refine l.bt.ins rfl (Int.not_lt.1 fun h=>mj (bf.1 h)) O O Z Z (fun a b ha hb wA zS=>du Q _ ha hb wA zS)
 refine And.intro t ?_;refine vs ?_;refine⟨⟨O,O⟩,?_⟩;refine v4 (ae q2) ak7 ala q3 ?_;refine And.intro t ?_;refine vs ?_;refine(eZ e P.mg).mono ?_;rintro _ H3 ⟨r,G,rs3,rfl,m3,E,_,d⟩;have bn:=P.done E;obtain⟨d1,d2,d3,D⟩:=e.k9.1;have no:¬ (C B.n\/B.n=B.tl\/B.n=B.rk):=by rintro(h|h|h);exact e.out.1 h;omega;omega
 refine And.intro (d.own t no) ?_;have I:=d.own q2 (by cases e;grind);refine vs ?_;refine⟨O,?_⟩;refine v3 I ak7 ala ?_;refine⟨O,?_⟩;obtain⟨m4,F⟩:=m3.fH I g.toNat r;refine And.intro (F.own (d.own t no) D) ?_;refine vs ?_;refine .inr ⟨W,rfl,B.S C,⟨B,C,G,rs3,_,rfl,m4,⟨?_,by rw[alb];exact l.tl⟩,fun z=>Iff.rfl⟩,?_,Z⟩
 ·grind [dJ]
 ·have X:∀z,C z->S z:=fun z h=>(c z).2 (.inl h);have h1:S B.tl:=(c _).2 (.inr O);have h2:S B.rk:=(c _).2 (.inr O);have h3:S B.tp:=(c _).2 (.inr O);exact(((((u.mono fun _ _ h=>h.elim).trans (j.mono fun z _ h=>X z h)).trans (M.mono Z)).trans (d.mono Z)).trans (F.mono Z))
theorem tj.none{hm:Int->Int}{lt:Int->Int->Bool}{K:Int->Bool->Int}{U T:Int->Int}(h:hm (-1)=0)(a:∀x,¬0<hm x)(z:∀x c,K x c= -1)(v:∀x,U x= -1)(m:∀g,T g= -1):tj hm lt K U T:=
 ⟨⟨h,Z,Z,fun p _=>z p _⟩,Z,Z⟩
theorem x6(n:Nat)(x:Int)(c:Bool):bk (List.replicate n jz) x c= -1:=by
 grind [jz,bk,Lk.re]
theorem Dy(n:Nat)(x:Int):bq (List.replicate n jz) x= -1:=by
 by_cases h:0<=x/\x< (List.replicate n jz).length
 ·have z:=h.2;rw[alL]at z;rw[sp (y:=jz) h.1 Z];rfl
 ·exact Lf h
def iU(cap:Int):Nw:=⟨[false],List.replicate cap.toNat (0,0,0)⟩
theorem iV(cap:Int)(x:Int):¬0<aH (iU cap) x:=by
 intro h;obtain⟨a,m,e,z⟩:=aI h;have c:(List.replicate cap.toNat ((0,0,0):Ce))[x.toNat]? =some (aH (iU cap) x,e):=z;grind
theorem zT(g:Int):aO [-1] g= -1:=by
 grind [aO]
theorem Dz(k:Nat):dm [Value.int .i64 0] k=(List.replicate k (0:Int)).map i64:=by
 induction k with
 |zero=>rfl
 |succ k h=>simp only[dm,alZ,amw,alM]at*;grind
theorem zU(cap:Int)(H:Hp):aD 96 [i64 cap] H fun v J=>ak (
  af H J/\((¬ (0<=cap/\cap<=65536)/\v= .tuple [.pointer none,i64 31].toArray)\/
   ((0<=cap/\cap<=65536)/\∃n S,v= .tuple [ptr n,i64 0].toArray/\dw n J S (iU cap)/\∀x,S x->H.size<=x))):=by
 refine aL E3 ?_;refine vs ?_;refine(jX cap H).mono ?_;rintro _ H1 ⟨e,⟨a,rfl⟩| ⟨a,c,C,rfl,r,u⟩⟩
 ·refine vs ?_;exact⟨e,.inl ⟨a,rfl⟩⟩
 refine v1 alr ?_;refine(sr H1 a).mono ?_;rintro _ H2 ⟨t,d,rfl,m,g,L,F⟩;refine vs ?_;refine⟨O,?_⟩;refine vs ?_;rw[Dz];have P:=r.slt;have Q:=e.size;have W:=g.size;have K:=aB m.own;have N:=aB m.jY;have y:af H2 (((H2.new 3 ((List.replicate cap.toNat (0:Int)).map i64)).new 3 [Value.int .i64 (-1)]).new 246 [ptr c,ptr t,.slice (some ⟨H2.size,0,none⟩) cap.toNat cap.toNat,.slice (some ⟨H2.size+1,0,none⟩) 1 1]):=(bm.new _ _).new _ _;have p:aj (fun _=>False) (H2.new 3 ((List.replicate cap.toNat (0:Int)).map i64)) (((H2.new 3 ((List.replicate cap.toNat (0:Int)).map i64)).new 3 [Value.int .i64 (-1)]).new 246 [ptr c,ptr t,.slice (some ⟨H2.size,0,none⟩) cap.toNat cap.toNat,.slice (some ⟨H2.size+1,0,none⟩) 1 1]):=bm.new _ _;have o:aj (fun _=>False) ((H2.new 3 ((List.replicate cap.toNat (0:Int)).map i64)).new 3 [Value.int .i64 (-1)]) (((H2.new 3 ((List.replicate cap.toNat (0:Int)).map i64)).new 3 [Value.int .i64 (-1)]).new 246 [ptr c,ptr t,.slice (some ⟨H2.size,0,none⟩) cap.toNat cap.toNat,.slice (some ⟨H2.size+1,0,none⟩) 1 1]):=bm;have f:=e.trans (g.trans y);refine⟨f,.inr ⟨a,H2.size+1+1,(LB.mk (H2.size+1+1) c t d H2.size (H2.size+1)).S C,rfl,⟨⟨H2.size+1+1,c,t,d,H2.size,H2.size+1⟩,C,_,List.replicate cap.toNat 0,[-1],rfl,
  ⟨⟨.slice (some ⟨H2.size+1,0,none⟩) 1 1,?_,?_⟩,r.fresh (g.trans y),m.fresh y,?_,?_,?_,?_⟩,⟨tj.none rfl (iV cap) (x6 _) (Dy _) zT,rfl⟩,fun z=>Iff.rfl⟩,fun z j=>?_⟩⟩
 ·grind [az,ag]
 ·exact(Sl.bs (size:=1) (n:=1) (xs:=[i64 (-1)]) rfl (by simp only[ag])).ext o (fun _ _ h=>h)
 ·exact p.own (am _ _ _) (fun h=>h)
 ·simp[iU]
 ·cases m;grind
 ·grind
 ·rcases j with j|rfl|rfl|rfl|rfl|rfl
  ·grind
  all_goals grind
theorem x8{S:Nat->Prop}{w:Nw}(h:dw n H S w):aD 456 [ptr n] H fun v J=>ak (
  (w.hs.length=65537/\v=i64 0/\br (dw n) S H J w)\/(w.hs.length≠65537/\v=i64 w.hs.length/\br (dw n) S H J w.make)):=by
 obtain⟨B,C,L,rs,tops,rfl,m,l,a⟩:=id h;obtain⟨tv,p,M⟩:=m.own;refine aL uj ?_;refine v1 (ae p) ?_;refine(iP m.cells).mono ?_;rintro _ H1 (⟨r,rfl,rfl⟩| ⟨r,rfl,t,j,c,G⟩)
 ·refine vs ?_;exact .inl ⟨r,rfl,br.same h (aj.refl _ _)⟩
 have pG:=m.cells.pos;have hhs:=m.cells.Hv;have E:=l.tl;have slt:=m.slt;have T5:=j.slt;obtain⟨X,n2,n3,n4,n5⟩:=m.out;obtain⟨⟨K,F,N,Q⟩,⟨d5,d6,W⟩,⟨d8,I⟩,d10⟩:=m.k9;have f:=c.own p X;refine vs ?_;refine ai.bK Z ?_;refine v1 (ae f) ?_;have s1:=M.ext c Z;refine Mm s1 (-1) O fun w' H2 b' D P e=>?_;have u:=e.own f Q;obtain⟨wa,wc,o⟩:=Sl.shape P;subst o;refine v1 u ?_;generalize o:Value.slice wa (tops++[-1]).length wc=w' at*;have g:aj (fun z=>z=B.n) H2 (H2.wr B.n [ptr B.c,ptr B.t,.slice (some ⟨B.rk,0,none⟩) rs.length rs.length,w']):=(aj.refl (fun z=>z=B.n) _).wr (fun _=>rfl) _;have z1:=c.size;have sl:∀z,z=B.n\/z=B.t\/z=B.tl\/z=B.rk\/z=B.tp->z<H.size:=fun z y=>slt z (.inr y);have hn:=sl _ (.inl rfl);have ht:=sl _ (.inr (.inl rfl));have agf:=sl _ (.inr (.inr (.inl rfl)));have hrk:=sl _ (.inr (.inr (.inr (.inl rfl))));have XN:=sl _ (.inr (.inr (.inr (.inr rfl))));have hC1:∀z,t z->z≠b'/\(z<H.size->C z):=Z;refine .inr ⟨r,rfl,(LB.mk B.n B.c B.t B.tl B.rk b').S t,⟨⟨B.n,B.c,B.t,B.tl,B.rk,b'⟩,t,L,rs,tops++[-1],rfl,⟨⟨w',ah u,P.ext g Z⟩,?_,?_,?_,m.len,?_,?_⟩,⟨by rw[xW];exact l.bt,?_⟩,fun z=>Iff.rfl⟩,?_,fun z y=>?_⟩
 ·exact(j.ext e Z).ext g Z
 ·exact((m.cf.ext c n2 n3).ext e W I).ext g (Ne.symm K) (Ne.symm F)
 ·exact g.own (e.own (c.own m.zP n4) d10) (Ne.symm N)
 ·grind
 ·grind
 ·simp[Nw.make,E]
 ·exact((c.mono fun z _ h=>(a z).2 (.inl h)).trans (e.mono fun z _ h=>(a z).2 (.inr O))).trans (g.mono fun z _ h=>(a z).2 (.inr (.inl h)))
 ·rcases y with y|rfl|rfl|rfl|rfl|rfl
  ·rcases G z y with d|d
   ·exact .inl ((a z).2 (.inl d))
   omega
  ·exact .inl ((a _).2 (.inr (.inl rfl)))
  ·exact .inl ((a _).2 (.inr (.inr (.inl rfl))))
  ·exact .inl ((a _).2 (.inr Z))
  ·exact .inl ((a _).2 (.inr Z))
  ·rcases D with rfl|h7
   ·exact .inl ((a _).2 (.inr O))
   omega
theorem Ph.first{w:Nw}{L:List Lk}{tops:List Int}(l:Ph w L tops){g x:Int}(h:w.first g x):aO tops g=x:=by
 obtain⟨z,a,m⟩:=bh.1 h;have:=l.bt.first (x:=x) O Z (ar w);grind
theorem nZ{S:Nat->Prop}{w:Nw}(h:dw n H S w)(g:Int):aD 458 [ptr n,i64 g] H fun v J=>ak (
  ((w.len g=0/\v= .tuple [i64 0,.bool false].toArray)\/∃x,w.first g x/\v= .tuple [i64 x,.bool true].toArray)/\J=H):=by
 obtain⟨B,C,L,rs,tops,rfl,m,l,d⟩:=h;obtain⟨j,lt,y,q2,p,o,f⟩:=m.ed;refine aL we ?_;refine v1 (ae y) ?_;refine(eU m.cells g).mono ?_;rintro _ _ ⟨rfl,rfl⟩;refine vs ?_;refine ai.dec (fun z=>?_) (fun z=>?_)
 ·refine vs ?_;exact⟨.inl ⟨z,rfl⟩,rfl⟩
 have c:0<g:=alt fun c=>z (Nw.Fg.2 (.inl O));obtain⟨x,a⟩:=so c z;have r:=(bh.1 a).2.1;have e:=((m.cells.hm x).2 O).2;rw[r,<-l.tl]at e;have t:=m.cS q2 (ce (tops:=tops) (h:=g) O e);rw[l.first a]at t;refine v1 (ae y) ?_;refine⟨O,?_⟩;refine v4 (ae q2) ak7 ala t ?_;exact⟨.inr ⟨x,a,rfl⟩,rfl⟩
theorem qR{S:Nat->Prop}{w:Nw}(h:dw n H S w)(x k s:Int):aD 452 [ptr n,i64 x,ms k s] H fun v J=>ak (
  (¬w.dv x k s/\v= .bool false/\br (dw n) S H J w)\/(w.dv x k s/\v= .bool true/\∃y,w.cs[x.toNat]? =some y/\br (dw n) S H J (w.put x (y.1,k,s)))):=by
 obtain⟨B,C,L,rs,tops,rfl,m,l,e⟩:=h;refine aL nR ?_;refine vs ?_;have f0:af H (H.new 148 [i64 k,u64 s]):=bm;have b0:(H.new 148 [i64 k,u64 s]).own H.size=some [i64 k,u64 s]:=am _ _ _;have P:=m.fresh f0;generalize H.new 148 [i64 k,u64 s]=H0 at*;obtain⟨tv,HB,_⟩:=P.own;refine v2 (ae HB) (ae b0) ?_;refine(gJ P.cells x k s).mono ?_;have hC:∀z,C z->S z:=fun z h=>(e z).2 (.inl h);have ff:aj S H H0:=f0.mono fun _ _ h=>h.elim;rintro _ H1 (⟨W,rfl,E,o⟩| ⟨f,rfl,y,u,lU,E,o⟩)
 ·refine vs ?_;exact .inl ⟨W,rfl,br.same ⟨B,C,L,rs,tops,rfl,P.ext o (fun _ _ h=>h),l,e⟩ (ff.trans (o.mono fun _ _ h=>h.elim))⟩
 have tC:(w.put x (y.1,k,s)).cs.length=w.cs.length:=by simp[Nw.put]
 have I:=P.aE E o tC;have x9:w.dv x k s:=⟨f,Z⟩;have hx:0<=x/\x<w.cs.length:=⟨f.1,Z⟩;have hwx:aH w x=y.1:=iO f.1 u;have FZ:=bf.2 f;have hw:aH (w.put x (y.1,k,s))=aH w:=by
  funext z;rw[dT hx];split
  ·grind
  ·rfl
 have HC:cu (w.put x (y.1,k,s)).cs x:=bf.1 (by simp_all);obtain⟨Ni,o1,_⟩:=I.own;refine v1 (ae o1) ?_;refine(bC I.cells x).mono ?_;rintro _ H2 (⟨W,_,_⟩| ⟨_,rfl,c2,e2⟩)
 ·exact absurd HC W
 have K:=I.aE c2 e2 rfl;obtain⟨Nh,o2,_⟩:=K.own;have yZ:aj S H H2:=(ff.trans (o.mono fun z _ h=>hC z h)).trans (e2.mono fun z _ h=>hC z h);have el:∀a b,0<aH w a->0<aH w b->a≠x->b≠x->aU (w.put x (y.1,k,s)) a b=aU w a b:=fun a b ha N wA Q=>du hx _ ha N wA Q;have ex:∀b,0<aH w b->b≠x->aU w x b=true->aU (w.put x (y.1,k,s)) x b=true:=fun b N Q h=>xV f u lU N Q h;refine v1 (ae o2) ?_;refine(cK K.cf (x:=x) (fun t=>by have:=xX.up l.bt.bt t;have:=K.len.1;omega)).mono ?_;rintro _ H3 ⟨rfl,F,t3,l3,k3,u3,e3⟩;have m3:=K.dU t3 e3 l3;have h1:S B.tl:=(e _).2 (.inr O);have h2:S B.rk:=(e _).2 (.inr O);have h3:S B.tp:=(e _).2 (.inr O);have T6:aj S H H3:=yZ.trans (e3.mono Z);unfold gz;by_cases t:bq L x= -1
 ·rw[if_pos t];refine vs ?_;have kk:bk F=bk L:=by rw[k3];unfold iy;grind
  have uu:bq F=bq L:=by
   rw[u3];funext z;unfold df aM;split
   ·grind
   ·rfl
  refine .inr ⟨x9,rfl,y,u,br.same ⟨B,C,F,rs,tops,rfl,m3,⟨?_,l.tl⟩,e⟩ T6⟩;rw[hw,kk,uu];exact l.bt.QS FZ t el ex (ar w)
 rw[if_neg t];refine vs ?_;have c:=l.bt.low FZ t el ex (ar w);rw[<-hw,<-k3,<-u3]at c;have TN:=xX.up l.bt.bt t;refine(iS m3 c.bt (x:=bq L x) (fun _=>by simp_all)).mono ?_;rintro _ H4 ⟨D,SQ,j,b4,G,e4⟩;have M:QR (aH (w.put x (y.1,k,s))) (aU (w.put x (y.1,k,s))) (bk D) (bq D) (aO tops) (aH (w.put x (y.1,k,s)) x) x:=⟨b4,by rw[G];exact c.t1,by rw[G];exact c.t2,by rw[G];exact c.ox,c.nx,c.g0⟩;have Fl:aj S H H4:=T6.trans (e4.mono Z);obtain⟨X,lt,p,q2,Dx,JH,JI⟩:=j.ed;have wU:aH (w.put x (y.1,k,s)) x<tops.length:=by
  have:=((j.cells.hm x).2 c.g0).2;have d:(w.put x (y.1,k,s)).hs=w.hs:=rfl;rw[d]at this;have:=l.tl;omega
 have Nl:=c.g0;generalize hg:aH (w.put x (y.1,k,s)) x=g at*;have q3:=j.cS q2 (ce (tops:=tops) (h:=g) O wU);refine vs ?_;refine di.intro (fun J=>J.own B.n=some [ptr B.c,ptr B.t,.slice (some ⟨B.rk,0,none⟩) SQ.length SQ.length,.slice (some ⟨B.tp,0,none⟩) tops.length X]) p ?_;refine vs ?_;refine bG.intro (.slice (some ⟨B.tp,0,none⟩) tops.length X) (fun J hI=>by refine v1 (ae hI) ?_;trivial) ?_;refine v1 (ae p) ?_;refine And.intro p ?_;refine vs ?_;refine⟨⟨O,O⟩,?_⟩;refine v4 (ae q2) ak7 ala q3 ?_;refine And.intro p ?_;refine vs ?_;refine(eZ j M.mg).mono ?_;rintro _ H5 ⟨r,L5,rs5,rfl,m5,g5,_,d⟩;have bn:=M.done g5;obtain⟨d1,d2,d3,d4⟩:=j.k9.1;have no:¬ (C B.n\/B.n=B.tl\/B.n=B.rk):=by rintro(h|h|h);exact j.out.1 h;omega;omega
 refine And.intro (d.own p no) ?_;have q4:=d.own q2 (by cases j;grind);refine vs ?_;refine⟨O,?_⟩;refine v3 q4 ak7 ala ?_;refine⟨O,?_⟩;obtain⟨m6,e6⟩:=m5.fH q4 g.toNat r;refine And.intro (e6.own (d.own p no) d4) ?_;refine vs ?_;refine .inr ⟨x9,rfl,y,u,br.same ⟨B,C,L5,rs5,_,rfl,m6,⟨?_,by rw[alb];exact l.tl⟩,e⟩ ?_⟩
 ·grind [dJ]
 ·exact(Fl.trans (d.mono Z)).trans (e6.mono Z)
end
end Go.Proofs.YtnanofhkpglbaaaGreatDoor
