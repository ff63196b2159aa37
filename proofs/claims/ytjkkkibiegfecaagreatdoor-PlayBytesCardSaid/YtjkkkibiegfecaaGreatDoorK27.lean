/- Texts put behind each other. -/
import Derived.Test.YtjkkkibiegfecaaGreatDoorK26
set_option linter.unusedSimpArgs false
set_option linter.unusedVariables false
set_option maxRecDepth 100000
set_option maxHeartbeats 8000000
namespace Go.Proofs.YtjkkkibiegfecaaGreatDoor
open Go Go.Vc
section
variable{x z a:Int}{s:Nat}
inductive Rl where
 |no
 |Ow
 |cell
 |Je
 |Ds
 |table
 |row(g:Int)
 |rF(x:Int)
def sM(V:Int->Value)(x:Int)(v:Value):Int->Value:=fun z=>if z=x then v else V z
theorem SX(V:Int->Value)(x:Int)(v:Value):sM V x v x=v:=by unfold sM;grind
theorem SY{V:Int->Value}{v:Value}(h:z≠x):sM V x v z=V z:=by unfold sM;grind
theorem SZ(U:Int->Int)(x v:Int):aN U x v x=v:=by unfold aN;omega
theorem S0{U:Int->Int}{v:Int}(h:z≠x):aN U x v z=U z:=by unfold aN;omega
structure lZ(H:Hp)(fb tb n:Nat)(l:List Value)(V:Int->Value)(U:Int->Int):Prop where
 own:H.own fb=some [.slice (some ⟨tb,0,none⟩) n n]
 sN:H.own tb=some l
 len:l.length=n*2
 at_:∀x:Int,0<=x->x<n->l[x.toNat*2]? =some (V x)/\l[x.toNat*2+1]? =some (i64 (U x))
 ne:fb≠tb
section
variable {H J : Hp} {fb tb n : Nat} {l : List Value} {V : Int → Value} {U : Int → Int} {T : Nat → Prop}
theorem lZ.ext(h:lZ H fb tb n l V U)(e:aj T H J)(z:¬T fb)(a:¬T tb):lZ J fb tb n l V U:=⟨e.own h.own z,e.own h.sN a,h.len,h.at_,h.ne⟩
theorem lZ.sM(h:lZ H fb tb n l V U)(t:0<=x/\x<n)(v:Value):lZ (H.wr tb (l.set (x.toNat*2) v)) fb tb n (l.set (x.toNat*2) v) (sM V x v) U/\aj (fun z=>z=tb) H (H.wr tb (l.set (x.toNat*2) v)):=by
 have e:aj (fun z=>z=tb) H (H.wr tb (l.set (x.toNat*2) v)):=(aj.refl (fun z=>z=tb) _).wr (fun _=>rfl) _;have y:=h.len;refine⟨⟨e.own h.own h.ne,ah h.sN,Z,fun z m c=>?_,h.ne⟩,e⟩;obtain⟨a1,a2⟩:=h.at_ z m c;refine⟨?_,Z⟩;by_cases a:z=x
 ·rw[a,SX,ajY O]
 ·rw[SY a,ajT O];exact a1
theorem lZ.aN(h:lZ H fb tb n l V U)(y:0<=x/\x<n)(u:Int):lZ (H.wr tb (l.set (x.toNat*2+1) (i64 u))) fb tb n (l.set (x.toNat*2+1) (i64 u)) V (aN U x u)/\aj (fun z=>z=tb) H (H.wr tb (l.set (x.toNat*2+1) (i64 u))):=by
 have e:aj (fun z=>z=tb) H (H.wr tb (l.set (x.toNat*2+1) (i64 u))):=(aj.refl (fun z=>z=tb) _).wr (fun _=>rfl) _;have v:=h.len;refine⟨⟨e.own h.own h.ne,ah h.sN,Z,fun z m c=>?_,h.ne⟩,e⟩;obtain⟨a1,a2⟩:=h.at_ z m c;refine⟨Z,?_⟩;by_cases a:z=x
 ·rw[a,SZ,ajY O]
 ·rw[S0 a,ajT O];exact a2
theorem lZ.Ox(h:lZ H fb tb n l V U):fb<H.size/\tb<H.size:=⟨aC h.own,aC h.sN⟩
end
structure ForM(H:Hp)(ro:Nat->Rl)(fb tb n:Nat)(l:List Value)(V:Int->Value)(ch:Int->List Int)(ax:Int->Int)(kb:Int->Option Nat):Prop where
 t:lZ H fb tb n l V ax
 kd:∀x:Int,0<=x->x<n->Sl H 1 (V x) (ch x).length ((ch x).map i64) (kb x)
 rf:ro fb= .Ds
 rt:ro tb= .table
 rk:∀ (x:Int) b,0<=x->x<n->kb x=some b->ro b= .rF x
 Ex:∀x c,c∈ch x->0<=c/\c<n
 no:∀x:Int,¬ (0<=x/\x<n)->ch x=[]
structure RK(s:Nat)(ro ro':Nat->Rl):Prop where
 o:∀z,z<s->(∀x,ro z≠ .rF x)->ro' z=ro z
 k:∀z x,z<s->ro z= .rF x->∃y,ro' z= .rF y
 n:∀z,s<=z->ro' z= .no\/∃y,ro' z= .rF y
theorem RK.refl{ro:Nat->Rl}(h:∀z,s<=z->ro z= .no):RK s ro ro:=⟨fun _ _ _=>rfl,Z,Z⟩
theorem RK.trans{e:Nat}{c v r3:Nat->Rl}(h:RK s c v)(a:RK e v r3)(t:s<=e):RK s c r3:=by
 refine⟨fun z m y=>?_,fun z x m r=>?_,fun z m=>?_⟩
 ·cases h;cases a;grind
 ·cases h;cases a;grind
 cases h;cases a;grind
def KB(ro:Nat->Rl)(z:Nat):Prop:=ro z= .table\/∃x,ro z= .rF x
section
variable {H J : Hp} {ro ro' : Nat → Rl} {fb tb n : Nat} {l : List Value} {V : Int → Value} {ch : Int → List Int} {ax : Int → Int} {kb : Int → Option Nat} {T : Nat → Prop}
theorem ForM.ext(m:ForM H ro fb tb n l V ch ax kb)(e:aj T H J)(h:∀z,(ro z= .Ds\/KB ro z)->¬T z):ForM J ro fb tb n l V ch ax kb:=
 ⟨m.t.ext e (h _ (.inl m.rf)) (h _ (.inr (.inl m.rt))),fun x a c=>(m.kd x a c).ext e (fun b v=>h _ (.inr (.inr ⟨x,m.rk x b a c v⟩))),m.rf,m.rt,m.rk,m.Ex,m.no⟩
theorem ForM.fresh(m:ForM H ro fb tb n l V ch ax kb)(e:af H J):ForM J ro fb tb n l V ch ax kb:=m.ext e fun _ _ h=>h
theorem ForM.shape(m:ForM H ro fb tb n l V ch ax kb)(h:0<=x/\x<n):∃a c,V x= .slice a (ch x).length c:=Sl.shape (m.kd x h.1 h.2)
theorem ma(t:lZ H fb tb n l V ax)(x:Int):aF 284 [ptr fb,i64 x] H fun v J=>ak (v= .bool (decide (0<=x/\x<n))/\J=H):=by
 refine aT wA ?_;refine vs ?_;refine ai.dec (fun z=>?_) (fun z=>?_)<;>refine v1 (ae t.own) ?_
 ·refine⟨?_,rfl⟩;rw[show(decide (0<=x/\x< (n:Int)))=decide (x< (n:Int)) by simp[z]];rfl
 ·refine⟨?_,rfl⟩;rw[ajO (fun h=>z h.1)];rfl
theorem gT(t:lZ H fb tb n l V ax)(x:Int):aF 287 [ptr fb,i64 x] H fun v J=>ak (v= .bool (decide (0<=x/\x<n) && decide (ax x= -1))/\J=H):=by
 refine aT uj ?_;refine vs ?_;refine(ma t x).mono ?_;rintro _ J ⟨rfl,e⟩;obtain rfl:=e.symm;by_cases h:0<=x/\x<n
 ·rw[ajQ h];have z:=t.len;obtain⟨a1,a2⟩:=t.at_ x h.1 h.2;refine v1 (ae t.own) ?_;refine⟨O,?_⟩;refine v3 (ae t.sN) ajJ a2 ?_;exact⟨rfl,rfl⟩
 ·rw[ajO h];refine vs ?_;exact⟨rfl,rfl⟩
theorem dI(m:ForM H ro fb tb n l V ch ax kb)(x:Int):aF 292 [ptr fb,i64 x] H fun v J=>ak (v=i64 (ch x).length/\J=H):=by
 refine aT qQ ?_;refine vs ?_;refine(ma m.t x).mono ?_;rintro _ J ⟨rfl,e⟩;obtain rfl:=e.symm;by_cases h:0<=x/\x<n
 ·rw[ajQ h];have y:=m.t.len;obtain⟨a1,a2⟩:=m.t.at_ x h.1 h.2;obtain⟨a,c,z⟩:=m.shape h;rw[z]at a1;refine v1 (ae m.t.own) ?_;refine⟨O,?_⟩;refine v4 (ae m.t.sN) ajJ Nat.add_zero a1 ?_;exact⟨rfl,rfl⟩
 ·rw[ajO h,m.no x h];refine vs ?_;exact⟨rfl,rfl⟩
theorem nF(t:lZ H fb tb n l V ax)(z:0<=x/\x<n):aF 277 [ptr fb,i64 x] H fun v J=>ak (((ax x= -1/\v= .tuple [i64 0,.bool false].toArray)\/(ax x≠ -1/\v= .tuple [i64 (ax x),.bool true].toArray))/\J=H):=by
 refine aT xS ?_;refine vs ?_;refine(ma t x).mono ?_;rintro _ J ⟨rfl,e⟩;obtain rfl:=e.symm;rw[ajQ z];have a:=t.len;obtain⟨a1,a2⟩:=t.at_ x z.1 z.2;refine v1 (ae t.own) ?_;refine⟨O,?_⟩;refine v3 (ae t.sN) ajJ a2 ?_;refine ai.dec (fun h=>?_) (fun h=>?_)<;>refine vs ?_
 ·exact⟨.inl ⟨h,rfl⟩,rfl⟩
 refine v1 (ae t.own) ?_;refine⟨O,?_⟩;refine v3 (ae t.sN) ajJ a2 ?_;exact⟨.inr ⟨h,rfl⟩,rfl⟩
theorem Oy{H:Hp}{T:TypeId}{w:Value}{xs:List Int}{fp:Option Nat}{K:Value->Hp->Prop}(s:Sl H 1 w xs.length (xs.map i64) fp)(x:Int)(o:xs.length<=1000000000000)
  (j:∀w' J a,(a=fp\/∃b,a=some b/\H.size<=b/\b<J.size)->Sl J 1 w' (xs++[x]).length ((xs++[x]).map i64) a->aj (fun z=>fp=some z) H J->K w' J):
  eI T 1 8 [i64 0] w (.slice (some ⟨H.size,0,none⟩) 1 1) (H.new T [i64 x]) K:=by
 have m:af H (H.new T [i64 x]):=bD;refine Sl.append (s.ext m (fun _ _ h=>h)) (Sl.bJ (size:=1) (n:=1) (xs:=[i64 x]) rfl rfl).rd rfl (ye [x]) O ?_;intro p J a f c r;refine j p J a (r.imp_right fun⟨b,e,y,t⟩=>⟨b,e,by rw[ag]at y;omega,t⟩) Z ⟨akc m.size c.size,fun z v d=>?_⟩;rw[c.be z (aj0 v m.size) d,m.be z v (fun h=>h)]
theorem ForM.put(m:ForM H ro fb tb n l V ch ax kb)(f:∀z,H.size<=z->ro z= .no)(P:0<=a/\a<n){H2:Hp}(e:aj (fun z=>kb a=some z) H H2){w':Value}{L':List Int}{v:Option Nat}(s:Sl H2 1 w' L'.length (L'.map i64) v)
  (W:v=kb a\/v=none\/∃b,v=some b/\H.size<=b/\b<H2.size)(hL:∀c∈L',0<=c/\c<n):
  ∃ro' M,ForM (H2.wr tb (l.set (a.toNat*2) w')) ro' fb tb n (l.set (a.toNat*2) w') (sM V a w') (aA ch a L') ax M/\RK H.size ro ro'/\(∀z,(H2.wr tb (l.set (a.toNat*2) w')).size<=z->ro' z= .no)/\aj (KB ro) H (H2.wr tb (l.set (a.toNat*2) w')):=by
 have C:∀z,kb a=some z->ro z= .rF a:=fun z h=>m.rk a z P.1 P.2 h;have I:¬kb a=some fb:=fun h=>by have:=C _ h;rw[m.rf]at this;grind
 have D:¬kb a=some tb:=fun h=>by have:=C _ h;rw[m.rt]at this;grind
 obtain⟨z1,z2⟩:=m.t.Ox;have X:=m.t.ext e I D;obtain⟨t3,u⟩:=X.sM P w';have hs:=e.size;have WH:(H2.wr tb (l.set (a.toNat*2) w')).size=H2.size:=bH _ _ _;have G:∃ro':Nat->Rl,(∀b,v=some b->ro' b= .rF a)/\(∀z,z<H.size->ro' z=ro z)/\RK H.size ro ro'/\∀z,H2.size<=z->ro' z= .no:=by
  rcases W with h|h| ⟨b,h,Oz,Q⟩
  ·exact⟨ro,Z,fun _ _=>rfl,RK.refl f,Z⟩
  ·refine⟨ro,fun b t=>?_,fun _ _=>rfl,RK.refl f,Z⟩;grind
  ·refine⟨fun z=>if z=b then .rF a else ro z,fun b' o=>?_,fun z d=>?_,⟨fun z d _=>?_,fun z x d K=>⟨x,?_⟩,fun z d=>?_⟩,fun z d=>?_⟩
   ·rw[h]at o;injection o with o;simp[o]
   ·show(if z=b then Rl.rF a else ro z)=_;rw[if_neg O]
   ·show(if z=b then Rl.rF a else ro z)=_;rw[if_neg O]
   ·show(if z=b then Rl.rF a else ro z)=_;rw[if_neg O];exact K
   ·show(if z=b then Rl.rF a else ro z)=_\/∃y,(if z=b then Rl.rF a else ro z)=_;split
    ·exact .inr ⟨a,rfl⟩
    ·exact .inl (f z d)
   ·show(if z=b then Rl.rF a else ro z)=_;rw[if_neg O];exact f z O
 obtain⟨ro',r1,N,E,r4⟩:=G;have hfl:∀b,v=some b->b≠tb:=Z;refine⟨ro',fun z=>if z=a then v else kb z,⟨t3,fun x r j=>?_,by rw[N _ z1];exact m.rf,by rw[N _ z2];exact m.rt,fun x b r j t=>?_,fun x c L=>?_,fun x K=>?_⟩,E,Z,(e.mono fun z _ h=>.inr ⟨a,C z h⟩).trans (u.mono fun z _ h=>.inl (by rw[h];exact m.rt))⟩
 ·unfold sM aA;by_cases F:x=a
  ·simp only[F,if_true];exact s.ext u O
  ·simp only[if_neg F];refine((m.kd x r j).ext e (fun b t Q=>?_)).ext u (fun b t e=>?_)
   ·have p:=m.rk x b r j t;grind
   ·have p:=m.rk x b r j t;rw[e,m.rt]at p;cases p
 ·split at t
  ·grind
  ·have p:=m.rk x b r j t;grind
 ·unfold aA at L;split at L
  ·grind
  ·exact m.Ex x c L
 ·unfold aA;rw[if_neg O];exact m.no x K
theorem ForM.aN(m:ForM H ro fb tb n l V ch ax kb)(r:0<=x/\x<n)(u:Int):ForM (H.wr tb (l.set (x.toNat*2+1) (i64 u))) ro fb tb n (l.set (x.toNat*2+1) (i64 u)) V ch (aN ax x u) kb/\aj (KB ro) H (H.wr tb (l.set (x.toNat*2+1) (i64 u))):=by
 obtain⟨j,a⟩:=m.t.aN r u;refine⟨⟨j,fun x c v=>(m.kd x c v).ext a (fun b t e=>?_),m.rf,m.rt,m.rk,m.Ex,m.no⟩,a.mono fun z _ h=>.inl (by rw[h];exact m.rt)⟩;have y:=m.rk x b c v t;rw[e,m.rt]at y;cases y
theorem qB(m:ForM H ro fb tb n l V ch ax kb)(X:∀z,H.size<=z->ro z= .no){b:Int}(y:0<=a/\a<n)(C:0<=b/\b<n)(pa:ax a= -1)(pb:ax b= -1)(I:a≠b)(D:(ch a).length=(ch b).length)(hl:(ch a).length<=65536):
  aF 294 [ptr fb,i64 a,i64 b] H fun v J=>ak (v= .bool true/\∃ro' l' W o,ForM J ro' fb tb n l' W (aA ch a (ch a++[b])) (aN ax b a) o/\RK H.size ro ro'/\(∀z,J.size<=z->ro' z= .no)/\aj (KB ro) H J):=by
 have ht:=m.t.len;obtain⟨a1,a2⟩:=m.t.at_ a y.1 y.2;have ka:=m.kd a y.1 y.2;have G:∀c∈ch a++[b],0<=c/\c<n:=fun c j=>by
  rcases aj4.1 j with j|j
  ·exact m.Ex a c j
  grind
 have K:∀z,kb a=some z->ro z= .rF a:=fun z h=>m.rk a z y.1 y.2 h;have M:¬kb a=some fb:=fun h=>by have:=K _ h;rw[m.rf]at this;grind
 have E:¬kb a=some tb:=fun h=>by have:=K _ h;rw[m.rt]at this;grind
 refine uS um ⟨rfl,?_⟩;refine v1 kP.eq_1 ?_;refine(gT m.t a).mono ?_;rintro _ J ⟨rfl,e⟩;obtain rfl:=e.symm;rw[ajQ y,ajQ pa];refine vs ?_;refine(gT m.t b).mono ?_;rintro _ J ⟨rfl,e⟩;obtain rfl:=e.symm;rw[ajQ C,ajQ pb];refine vs ?_;refine ai.dec (fun h=>absurd h I) (fun _=>?_);refine vs ?_;refine(dI m a).mono ?_;rintro _ J ⟨rfl,e⟩;obtain rfl:=e.symm;refine vs ?_;refine(dI m b).mono ?_;rintro _ J ⟨rfl,e⟩;obtain rfl:=e.symm;rw[D];refine vs ?_;refine ai.bY (by simp) ?_;refine vs ?_;refine cZ.intro (fun J=>J.own fb=some [.slice (some ⟨tb,0,none⟩) n n]) m.t.own ?_;refine vs ?_;refine bG.intro (.slice (some ⟨tb,0,none⟩) n n) (fun J p=>by refine v1 (ae p) ?_;trivial) ?_;refine vs ?_;refine bG.intro (.slice (some ⟨tb,0,none⟩) n n) (fun J p=>by refine v1 (ae p) ?_;trivial) ?_;refine vs ?_;refine⟨O,?_⟩;refine vs ?_;obtain⟨z1,z2⟩:=m.t.Ox;have L:af H (H.new 3 [i64 b]):=bD;have o1:=L.own m.t.own (fun h=>h);have q1:=L.own m.t.sN (fun h=>h);refine tR.intro ?A ?B;case' A=>
  refine v4 (ae m.t.sN) ajJ Nat.add_zero a1 ?_;refine And.intro m.t.own ?_;refine vs ?_;refine And.intro m.t.own ?_;refine vs ?_
 case' B=>
  refine vs ?_;refine And.intro m.t.own ?_;refine v5 (ae q1) (ae m.t.sN) ajJ Nat.add_zero a1 ?_;refine And.intro m.t.own ?_;refine vs ?_
 all_goals
  refine Oy ka b O fun w' Q LM yc s2 u=>?_;obtain⟨wa,wc,rfl⟩:=Sl.shape s2;have N:=m.t.ext u M E;refine And.intro N.own ?_;refine vs ?_;refine⟨O,?_⟩;refine v3 N.sN ajJ Nat.add_zero ?_;refine⟨O,?_⟩;obtain⟨ro',o,r,f,r4,d⟩:=m.put X y u s2 Z G;refine vs ?_;refine And.intro r.t.own ?_;refine vs ?_;have OA:=r.t.len;generalize Q.wr tb (l.set (a.toNat*2) (Value.slice wa (ch a++[b]).length wc))=H3 at*;refine v1 (ae r.t.own) ?_;refine⟨O,?_⟩;refine v3 r.t.sN ajJ Nat.add_zero ?_;refine⟨O,?_⟩;obtain⟨m4,P⟩:=r.aN C a;refine vs ?_;refine⟨rfl,ro',_,_,o,m4,f,fun z t=>r4 z (by rw[bH]at t;exact t),?_⟩;refine⟨akc d.size P.size,fun z t F=>?_⟩;rw[P.be z (aj0 t d.size) (fun h=>F ?_),d.be z t F];rcases h with h| ⟨x,h⟩
  ·refine .inl ?_;cases f;grind
  ·refine .inr ?_;cases f;grind
end
end
abbrev eU(x:Int)(g:Nat):Value:=.agg #[i64 x,.int .u32 (g:Int)]
def ep(L:List (Nat×Bool)):List Value:=L.flatMap fun y=>[.int .u32 (y.1:Int),.bool y.2]
theorem ow(L:List (Nat×Bool)):(ep L).length=L.length*2:=by
 induction L with
 |nil=>rfl
 |cons c r h=>grind [ep]
theorem sO{L:List (Nat×Bool)}{i:Nat}{y:Nat×Bool}(hi:L[i]? =some y):(ep L)[i*2]? =some (.int .u32 (y.1:Int))/\(ep L)[i*2+1]? =some (.bool y.2):=by
 induction L generalizing i with
 |nil=>grind
 |cons a r h=>
  cases a;grind [ep]
theorem zY{L:List (Nat×Bool)}{i:Nat}{y:Nat×Bool}(hi:L[i]? =some y):(∀v:Nat,(ep L).set (i*2) (.int .u32 (v:Int))=ep (L.set i (v,y.2)))/\(∀b,(ep L).set (i*2+1) (.bool b)=ep (L.set i (y.1,b))):=by
 induction L generalizing i with
 |nil=>grind
 |cons a r h=>
  have e:ep (a::r)= .int .u32 (a.1:Int):: .bool a.2::ep r:=rfl;cases i with
  |zero=>grind [ep]
  |succ i=>
   grind [ep]
structure MN where
 a:Nat
 sb:Nat
 fo:Option Nat
def MN.S(B:MN)(z:Nat):Prop:=z=B.a\/z=B.sb\/B.fo=some z
structure Ey(H:Hp)(B:MN)(A:Ar):Prop where
 own:∃tv,H.own B.a=some [.slice (some ⟨B.sb,0,none⟩) A.g.length A.g.length,tv,i64 A.nx,i64 A.ct,.int .u32 (A.mo:Int)]/\Sl H 1 tv A.wt.length (A.wt.map i64) B.fo
 sl:H.own B.sb=some (ep A.g)
 ne:B.a≠B.sb/\B.fo≠some B.a/\B.fo≠some B.sb
 len:A.g.length<=65536
 ok:oP A
 gs:∀y∈A.g,y.1<=4294967295
 mo:A.mo<=4294967295
section
variable {H J : Hp} {B : MN} {A : Ar} {T : Nat → Prop}
theorem Ey.slt(m:Ey H B A):∀z,B.S z->z<H.size:=by
 obtain⟨v,c,a⟩:=m.own;rintro z (rfl|rfl|h)
 ·exact aC c
 ·exact aC m.sl
 ·rw[h]at a;exact Sl.lt a
theorem Ey.ext(m:Ey H B A)(e:aj T H J)(h:∀z,B.S z->¬T z):Ey J B A:=by
 obtain⟨y,a,c⟩:=m.own;exact⟨⟨y,e.own a (h _ (.inl rfl)),c.ext e (fun b v=>h b (.inr (.inr v)))⟩,e.own m.sl (h _ (.inr (.inl rfl))),m.ne,m.len,m.ok,m.gs,m.mo⟩
theorem Ey.wtl(m:Ey H B A):A.wt.length<=65536/\∀x∈A.wt,0<=x/\x<A.g.length:=by
 have h:∀x∈A.wt,0<=x/\x<A.g.length:=fun x z=>by
  have:=m.ok.wl x z;have:=m.ok.nx;omega
 exact⟨akc (cm m.ok.wd h) m.len,h⟩
theorem KT(k:Nat):dw [Value.int .u32 0,Value.bool false] k=ep (List.replicate k (0,false)):=by
 unfold dw ep;induction k with
 |zero=>rfl
 |succ k h=>grind
theorem Dt(H:Hp){n:Int}{mo:Nat}(y:0<=n/\n<=65536)(hm:0<mo/\mo<=4294967295):aF 38 [i64 n,.int .u32 (mo:Int)] H fun v J=>ak (∃B,v= .tuple [ptr B.a,i64 0].toArray/\Ey J B ⟨List.replicate n.toNat (0,false),[],0,0,mo⟩/\af H J/\∀z,B.S z->H.size<=z):=by
 refine aT AQ ?_;refine vs ?_;refine ai.dec (fun g=>absurd g O) (fun _=>?_);refine vs ?_;refine ai.dec (fun g=>absurd g O) (fun _=>?_);refine vs ?_;refine ai.dec (fun g=>absurd g O) (fun _=>?_);refine vs ?_;refine⟨O,?_⟩;refine vs ?_;rw[KT];refine⟨⟨H.size+1,H.size,none⟩,rfl,⟨⟨.slice none 0 0,?_,Sl.nil _ _⟩,?_,Z,Z,⟨by simp,ak8,fun x _ a=>?_,by simp[Ar.aY,List.countP_replicate],Nat.zero_le _⟩,Z,hm.2⟩,bD.new _ _,fun z m=>?_⟩
 ·grind [az,ag]
 rotate_left
 ·obtain⟨c,e⟩:=a;grind
 rotate_left
 ·simp only;rw[ay (by simp only[ag];omega),am]
 ·rcases m with h|h|h
  ·grind
  ·grind
  grind
theorem gU(m:Ey H B A)(x:Int)(g:Nat):aF 165 [ptr B.a,eU x g] H fun v J=>ak (v= .bool (decide (A.live x/\A.bf x=g))/\af H J):=by
 obtain⟨C,L,_⟩:=m.own;refine uS vY ⟨rfl,?_⟩;refine v1 lI.eq_1 ?_;have a:af H (H.new 29 [i64 x,.int .u32 (g:Int)]):=bD;have b0:(H.new 29 [i64 x,.int .u32 (g:Int)]).own H.size=some [i64 x,.int .u32 (g:Int)]:=am _ _ _;have r:=m.ext a (fun _ _ h=>h);generalize H.new 29 [i64 x,.int .u32 (g:Int)]=u at*;obtain⟨K,j,_⟩:=r.own;refine ai.dec (fun c=>?_) (fun c=>?_)<;>refine v2 (ae b0) (ae j) ?_;rotate_left
 ·rw[ajO (fun h=>c h.1.1)];exact⟨rfl,a⟩
 refine ai.dec (fun e=>?_) (fun e=>?_)<;>refine v2 (ae b0) (ae j) ?_;rotate_left
 ·rw[ajO (fun h=>e (Ar.kW h.1).2)];exact⟨rfl,a⟩
 obtain⟨b,o,t⟩:=Ar.get (A:=A) (x:=x) ⟨c,e⟩;obtain⟨d,p⟩:=sO o;have P:=ow A.g;refine⟨⟨O,O⟩,?_⟩;refine v2 (ae r.sl) ajJ ?_;have f:((ep A.g).drop (x.toNat*2)).take 2=[.int .u32 (A.bf x:Int),.bool b]:=by
  apply akb;intro k;match k with
  |0=>rw[akA O,aks,Nat.add_zero];exact d
  |1=>rw[akA O,aks];exact p
  |k+2=>rw[List.getElem?_eq_none (by simp;omega)];rfl
 rw[f];refine⟨O,?_⟩;refine v1 (ae b0) ?_;have heq:ri [(0,none,Shape.int),(1,none,Shape.bool)] [Value.int IntKind.u32 (A.bf x:Int),Value.bool b] [Value.int IntKind.u32 (g:Int),Value.bool true]=some (decide (A.bf x=g) && b):=by
  by_cases z:A.bf x=g
  ·cases b<;>simp[ri,xf,cV,z,Vc.lV]
  ·have:¬ (A.bf x:Int)=(g:Int):=O;cases b<;>simp[ri,xf,cV,z,Vc.lV,this]
 rw[heq];simp(disch:=(first|exact aV|fail)) only[go_sem, ↓reduceIte,Zv,Option.map_some];refine⟨ajP Value.bool ?_,a⟩;by_cases z:A.bf x=g
 ·rw[ajQ z,Bool.true_and];cases y:b
  ·exact(ajO (fun h=>by have:=t.1 h.1;rw[y]at this;cases this)).symm
  ·exact(ajQ ⟨t.2 y,z⟩).symm
 ·rw[ajO z,ajO (fun h=>z h.2)];rfl
theorem Fe(m:Ey H B A){x:Int}(t:A.live x):aF 183 [ptr B.a,i64 x] H fun v J=>ak (v= .tuple [eU x (A.bf x),.bool true].toArray/\af H J):=by
 obtain⟨C,L,_⟩:=m.own;have u:=Ar.kW t;obtain⟨b,o,f⟩:=Ar.get (A:=A) (x:=x) u;obtain rfl:=f.1 t;obtain⟨j,d⟩:=sO o;have P:=ow A.g;refine aT zs ?_;refine vs ?_;have y:af H (H.new 29 cI):=bD;have b0:(H.new 29 cI).own H.size=some cI:=am _ _ _;have c:=m.ext y (fun _ _ h=>h);have F:(H.new 29 cI).size=H.size+1:=ag _ _ _;generalize H.new 29 cI=a at*;obtain⟨K,e,_⟩:=c.own;refine ai.dec (fun h=>absurd h O) (fun _=>?_);refine v1 (ae e) ?_;refine ai.dec (fun h=>absurd h O) (fun _=>?_);refine v1 (ae e) ?_;refine⟨O,?_⟩;refine v4 (ae c.sl) ajJ d (ae e) ?_;refine⟨O,?_⟩;refine v5 (ae c.sl) ajJ Nat.add_zero j b0 ?_;have p:aj (fun z=>z=H.size) a (a.wr H.size [Value.int .i64 x,Value.int .u32 (A.bf x:Int)]):=(aj.refl (fun z=>z=H.size) _).wr (fun _=>rfl) _;have r:(a.wr H.size [Value.int .i64 x,Value.int .u32 (A.bf x:Int)]).own H.size=some [Value.int .i64 x,Value.int .u32 (A.bf x:Int)]:=ah b0;refine v1 (ae r) ?_;exact⟨rfl,y.then p O⟩
end
section
variable{xs:List Int}{a:Option Addr}{c:Nat}
theorem bX.num{H:Hp}{n:Nat}(h:bX H 1 (.slice a n c) n (xs.map i64)){i:Nat}{x:Int}(m:xs[i]? =some x):
  i<n/\∃b o v,a=some ⟨b,o,none⟩/\H.rd b=some v/\v[o+i]? =some (i64 x):=by
 obtain⟨e,d⟩:=h;rw[aka,ajM]at e;have hi:=(ajK.1 m).1;refine⟨O,?_⟩;rcases d with ⟨u,_⟩| ⟨b,o,p,l,t,y,f,j⟩
 ·omega
 ·injection t with r P L;refine⟨b,o,l,r,y,?_⟩;have z:(xs.map i64)[i]? =some (i64 x):=by rw[aj9,m];rfl
  rw[<-j,akM,if_pos O,aks]at z;exact z
theorem fK{H:Hp}(h:bX H 1 (.slice a xs.length c) xs.length (xs.map i64))(x:Int)(hm:xs.length<=1000000000):
  aF 278 [.slice a xs.length c,i64 x] H fun v J=>ak ((∃i:Int,v=i64 i/\((i= -1/\x∉xs)\/(0<=i/\xs[i.toNat]? =some x)))/\J=H):=by
 refine aT pq ?_;refine vs ?_;refine bj.intro (fun m env J=>J=H/\∃j:Nat,m=xs.length - j/\j<=xs.length/\(∀e∈xs.take j,x≠e)/\env=[(0,.slice a xs.length c),(1,i64 x),(7,i64 xs.length),(8,i64 j)]) xs.length Z ?_;rintro m env L ⟨t,j,F,K,r,rfl⟩;obtain rfl:=t.symm;refine vs ?_;refine ai.dec (fun f=>?_) (fun f=>?_)<;>refine vs ?_
 ·have z:j<xs.length:=O;obtain⟨e,y⟩:∃e,xs[j]? =some e:=⟨_,ajL z⟩;obtain⟨_,b,o,N,rfl,u,d⟩:=bX.num h y;refine⟨O,?_⟩;refine v4 u Int.toNat_natCast ajM d ?_;refine ai.dec (fun P=>?_) (fun P=>?_)<;>refine vs ?_
  ·exact⟨⟨j,rfl,Z⟩,rfl⟩
  ·rw[wrap64 (n:=(j:Int)+1) O O];refine⟨xs.length - (j+1),O,trivial,j+1,rfl,O,?_,rfl⟩;intro C p;rw[aj2,y]at p;grind
 ·have z:j=xs.length:=O;subst z;rw[aj8]at r;exact⟨⟨-1,rfl,Z⟩,rfl⟩
theorem sP{H:Hp}(h:bX H 1 (.slice a xs.length c) xs.length (xs.map i64))(x:Int)(hm:xs.length<=1000000000):
  aF 291 [.slice a xs.length c,i64 x] H fun v J=>ak (v= .bool (decide (x∈xs))/\J=H):=by
 refine aT mC ?_;refine vs ?_;refine(fK h x hm).mono ?_;rintro _ z ⟨⟨i,rfl,hi⟩,e⟩;obtain rfl:=e.symm;refine vs ?_;refine⟨ajP Value.bool ?_,rfl⟩;grind
theorem BG{H:Hp}(f:FuncId)(z:List Value)(q:Int->Bool)(h:bX H 1 (.slice a xs.length c) xs.length (xs.map i64))(P:eR Tryz.prog f=true)
  (K:∀x,aF f (i64 x::z) H fun v r=>ak (v= .bool (q x)/\r=H))(hm:xs.length<=1000000000):
  aF 286 [.slice a xs.length c,.func (.func f) #[] z.toArray] H fun v J=>ak ((∃i:Int,v=i64 i/\((i= -1/\∀x∈xs,q x=false)\/(0<=i/\(∀x∈xs.take i.toNat,q x=false)/\∃x,xs[i.toNat]? =some x/\q x=true)))/\J=H):=by
 refine aT fQ ?_;refine vs ?_;refine bj.intro (fun m env J=>J=H/\∃j:Nat,m=xs.length - j/\j<=xs.length/\(∀e∈xs.take j,q e=false)/\env=[(0,.slice a xs.length c),(1,.func (.func f) #[] z.toArray),(7,i64 xs.length),(8,i64 j)]) xs.length Z ?_;rintro m env Q ⟨d,j,D,G,u,rfl⟩;obtain rfl:=d.symm;refine vs ?_;refine ai.dec (fun F=>?_) (fun F=>?_)<;>refine vs ?_
 ·have y:j<xs.length:=O;obtain⟨e,t⟩:∃e,xs[j]? =some e:=⟨_,ajL y⟩;obtain⟨_,b,o,E,rfl,N,L⟩:=bX.num h t;refine⟨O,?_⟩;refine v4 N Int.toNat_natCast ajM L ?_;refine⟨P,?_⟩;refine ee.mono (by simpa using K e) ?_;rintro _ W ⟨rfl,p⟩;obtain rfl:=p.symm;refine vs ?_;cases M:q e
  ·refine vs ?_;rw[wrap64 (n:=(j:Int)+1) O O];refine⟨xs.length - (j+1),O,trivial,j+1,rfl,O,?_,rfl⟩;intro I C;rw[aj2,t]at C;grind
  ·refine vs ?_;exact⟨⟨j,rfl,Z⟩,rfl⟩
 ·have y:j=xs.length:=O;subst y;rw[aj8]at u;exact⟨⟨-1,rfl,Z⟩,rfl⟩
theorem Jf(k:Nat):dw [Value.int .i64 0] k=(List.replicate k (0:Int)).map i64:=by
 unfold dw;simp_all
theorem Du(l new:List Value)(i:Nat)(h:i+new.length<=l.length):(aS l i new).take i=l.take i:=by
 apply akb;grind [getElem?_splice]
theorem zZ{H:Hp}{v:Value}{fp:Option Nat}(s:Sl H 1 v xs.length (xs.map i64) fp)(f:FuncId)(L:List Value)(q:Int->Bool)(G:eR Tryz.prog f=true)
  (D:∀J,aj (fun z=>fp=some z) H J->∀x,aF f (i64 x::L) J fun v H''=>ak (v= .bool (q x)/\H''=J))(hm:xs.length<=1000000000):
  aF 280 [v,.func (.func f) #[] L.toArray] H fun v' J=>ak (Sl J 1 v' (xs.filter fun x=> !q x).length ((xs.filter fun x=> !q x).map i64) fp/\aj (fun z=>fp=some z) H J):=by
 obtain⟨a,c,rfl⟩:=Sl.shape s;refine aT ld ?_;refine vs ?_;refine(BG f L q s.rd G (D H (aj.refl _ _)) hm).mono ?_;rintro _ H1 ⟨⟨i0,rfl,MH⟩,e⟩;obtain rfl:=e.symm;refine vs ?_;rcases MH with ⟨rfl,o⟩| ⟨h0,o,x0,P,E⟩
 ·refine ai.bY (by simp) ?_;refine vs ?_;have:xs.filter (fun x=> !q x)=xs:=by
   rw[List.filter_eq_self];intro x u;rw[o x u];rfl
  rw[this];exact⟨s,aj.refl _ _⟩
 obtain⟨i,rfl⟩:∃i:Nat,i0=(i:Int):=Z;rw[Int.toNat_natCast]at o P;have hi:=(ajK.1 P).1;refine ai.dec (fun h=>O) (fun _=>?_);refine vs ?_;obtain⟨_,b,lb0,rfl,_,_⟩:=Sl.wN s P;have yc:fp=some b:=by
  cases fp with
  |none=>have:=s.2.2;grind
  |some b'=>obtain⟨_,_,d,_⟩:=s.2;grind
 subst yc;have W:(xs.take (i+1)).filter (fun x=> !q x)=xs.take i:=by
  rw[aj2,P,akY];have d:(xs.take i).filter (fun x=> !q x)=xs.take i:=by
   rw[List.filter_eq_self];intro x u;rw[o x u];rfl
  rw[d];simp[E]
 rw[wrap64 O O];refine bj.intro (fun m env J=>∃ (i j:Nat) (y:List Int),m=xs.length - j/\j<=xs.length/\i<j/\i=((xs.take j).filter fun x=> !q x).length/\y.length=xs.length/\y.take i=(xs.take j).filter (fun x=> !q x)/\y.drop j=xs.drop j/\
  Sl J 1 (.slice (some ⟨b,0,none⟩) xs.length c) xs.length (y.map i64) (some b)/\aj (fun z=>some b=some z) H J/\env=[(0,.slice (some ⟨b,0,none⟩) xs.length c),(1,.func (.func f) #[] L.toArray),(5,i64 i),(6,i64 j)]) _
  ⟨i,i+1,xs,rfl,O,O,Z,rfl,W.symm,rfl,s,aj.refl _ _,rfl⟩ ?_
 clear o P E W hi h0;rintro m env r ⟨i,j,y,rfl,hj,hij,MI,hyl,Q,hyd,s2,K,rfl⟩;obtain⟨_,t,c2,N,p,PS,S3,X⟩:=id s2;injection N with _ _ N;subst N;rw[ajM]at S3 X;refine vs ?_;refine ai.dec (fun iC=>?_) (fun iC=>?_)<;>refine vs ?_
 ·have RR:j<xs.length:=O;obtain⟨x,u⟩:∃x,xs[j]? =some x:=⟨_,ajL RR⟩;have KM:y[j]? =some x:=by
   have d:(y.drop j)[0]? =(xs.drop j)[0]? :=by rw[hyd]
   grind
  have WI:t[j]? =some (i64 x):=s2.get p Z;have tk:xs.take (j+1)=xs.take j++[x]:=by rw[aj2,u];rfl
  have dj:∀C:List Int,C.length=xs.length->(∀k,j<k->C[k]? =y[k]?)->C.drop (j+1)=xs.drop (j+1):=fun C hz hk=>by
   apply akb;intro k;have d:(y.drop j)[k+1]? =(xs.drop j)[k+1]? :=by rw[hyd]
   grind
  refine⟨O,?_⟩;refine v5 (ae p) ajJ ajM Int.toNat_natCast WI ?_;refine⟨G,?_⟩;refine ee.mono (by simpa using D r K x) ?_;rintro _ H3 ⟨rfl,e⟩;obtain rfl:=e.symm;refine vs ?_;cases M:q x
  ·refine vs ?_;refine⟨O,?_⟩;refine v4 p ajJ ajM Int.toNat_natCast ?_;refine⟨O,?_⟩;have s3:=s2.nQ p i (i64 x);have F:aj (fun z=>some b=some z) r (r.wr b (t.set i (i64 x))):=(aj.refl (fun z=>some b=some z) _).wr (fun _=>rfl) _;refine vs ?_;rw[wrap64 (n:=(i:Int)+1) O O,wrap64 (n:=(j:Int)+1) O O];have I:(xs.take (j+1)).filter (fun x=> !q x)=(xs.take j).filter (fun x=> !q x)++[x]:=by
    rw[tk,akY];simp[M]
   refine⟨xs.length - (j+1),O,i+1,j+1,y.set i x,rfl,O,O,Z,Z,?_,Z,?_,K.trans F,rfl⟩
   ·rw[I,<-Q,aj2,ajY O,List.take_set_of_le O];rfl
   simp_all
  ·refine vs ?_;rw[wrap64 (n:=(j:Int)+1) O O];have I:(xs.take (j+1)).filter (fun x=> !q x)=(xs.take j).filter (fun x=> !q x):=by
    rw[tk,akY];simp[M]
   grind
 ·obtain rfl:j=xs.length:=O;rw[aj8]at Q MI;refine⟨O,?_⟩;refine vs ?_;have hic:¬ (c:Int)=(i:Int):=O;have hlz:(dw [Value.int .i64 0] (xs.length - i)).length=xs.length - i:=by rw[Jf];simp
  rw[if_neg hic];refine .inr ⟨O,b,i,t,?_,by rw[p];rfl,?_,?_,?_⟩
  ·simp[Addr.add];omega
  ·grind [Jf,ye]
  ·grind
  ·rw[Int.toNat_natCast,Int.toNat_natCast];have F:aj (fun z=>some b=some z) r (r.wr b (aS t i (dw [Value.int .i64 0] (xs.length - i)))):=(aj.refl (fun z=>some b=some z) _).wr (fun _=>rfl) _;have q3:(r.wr b (aS t i (dw [Value.int .i64 0] (xs.length - i)))).own b=some (aS t i (dw [Value.int .i64 0] (xs.length - i))):=ah p;refine vs ?_;refine⟨O,?_⟩;have hc0:¬ (c:Int)=((0:Nat):Int):=O;refine vs ?_;rw[if_neg hc0];rw[<-Q];refine⟨⟨by simp,aS t i (dw [Value.int .i64 0] (xs.length - i)),c,?_,q3,?_,?_,?_⟩,K.trans F⟩
   ·have d:(y.take i).length=i:=by rw[akf];omega
    rw[d];rfl
   ·grind
   ·rw[eA];omega
   ·rw[ajM,akf,Nat.min_eq_left O,Du _ _ _ O,List.map_take,<-X,alb,Nat.min_eq_left O]
section
variable {H J : Hp} {B : MN} {A A' : Ar} {T : Nat → Prop} {x : Int}
theorem BH(m:Ey H B A):aF 182 [ptr B.a] H fun v J=>ak (
  (A.pick=none/\v= .tuple [i64 0,.bool false].toArray/\J=H)\/(∃x A',A.pick=some (x,A')/\v= .tuple [i64 x,.bool true].toArray/\Ey J B A'/\aj (fun z=>z=B.a) H J)):=by
 obtain⟨tv,h,s1⟩:=m.own;obtain⟨W,p,rfl⟩:=Sl.shape s1;have U6:=m.wtl.1;have xh:=m.len;have RS:=m.ok.nx;refine aT vZ ?_;refine v1 (ae h) ?_;refine ai.dec (fun I=>?_) (fun I=>?_)
 ·have nj:A.wt≠[]:=Z;obtain⟨k,C⟩:∃k,A.wt.length=k+1:=⟨A.wt.length - 1,O⟩;obtain⟨x,N⟩:∃x,A.wt[k]? =some x:=⟨_,ajL O⟩;have IZ:A.wt.getLastD 0=x:=by
   rw[aku,List.getLast?_eq_getElem?,C,alm,N];rfl
  have hdl:A.wt.dropLast=A.wt.take k:=by rw[akN,C,alm]
  have f:A.pick=some (x,{A with wt:=A.wt.take k}):=by
   unfold Ar.pick;grind
  obtain⟨b,t,c,E,o,u,qk,_,_,_⟩:∃b t c,Value.slice W A.wt.length p= .slice (some ⟨b,0,none⟩) A.wt.length c/\B.fo=some b/\H.own b=some t/\t[k]? =some (i64 x)/\k<A.wt.length/\A.wt.length<=t.length/\True:=by
   obtain⟨P,b,t,rfl,q2,q3⟩:=Sl.wN s1 N;have r:=s1;revert r;cases o:B.fo with
   |none=>intro r;have:=r.2.2;grind
   |some b'=>
    intro r;obtain⟨_,S4,c',d,j,G,K,_⟩:=r;grind
  injection E with D hs2 M;subst D M;obtain⟨_,S4,c',d,j,G,K,F⟩:(A.wt.map i64).length=A.wt.length*1/\∃l c',Value.slice (some ⟨b,0,none⟩) A.wt.length p= .slice (some ⟨b,0,none⟩) A.wt.length c'/\H.own b=some l/\A.wt.length<=c'/\c'*1<=l.length/\l.take (A.wt.length*1)=A.wt.map i64:=by
   have:=s1;rw[o]at this;exact this
  injection d with _ _ d;subst d;rw[u]at j;injection j with j;subst j;rw[ajM]at K F;refine v1 (ae h) ?_;rw[wrap64 (n:=(A.wt.length:Int) - 1) O O];refine⟨O,?_⟩;rw[show((A.wt.length:Int) - 1).toNat=k by omega];refine v5 (ae u) ajJ ajM qk (ae h) ?_;rw[wrap64 (n:=(A.wt.length:Int) - 1) O O];refine⟨O,?_⟩;refine v1 h ?_;rw[if_neg O];have a:∀l,aj (fun z=>z=B.a) H (H.wr B.a l):=fun l=>(aj.refl (fun z=>z=B.a) _).wr (fun _=>rfl) _;have X:(A.wt.take k).length=k:=by rw[akf];omega
  refine .inr ⟨x,_,f,rfl,⟨⟨_,ah h,?_⟩,(a _).own m.sl (Ne.symm m.ne.1),m.ne,m.len,⟨fun y hy=>m.ok.wl y Z,m.ok.wd.sublist Z,m.ok.fr,m.ok.ct,m.ok.nx⟩,m.gs,m.mo⟩,a _⟩;have L:b≠B.a:=fun e=>m.ne.2.1 Z;refine⟨by simp,?_⟩;rw[o];refine⟨t,p,?_,(a _).own u L,Z,O,?_⟩
  ·rw[X,show((A.wt.length:Int) - 1).toNat - ((0:Nat):Int).toNat=k by omega];rfl
  ·rw[ajM,List.map_take,<-F,alb];grind
 ·refine v1 (ae h) ?_;have he:A.wt=[]:=akg.1 O;refine ai.dec (fun P=>?_) (fun P=>?_)
  ·refine vs ?_;refine .inl ⟨?_,rfl,rfl⟩;unfold Ar.pick;grind
  ·refine v2 (ae h) h ?_;rw[wrap64 (n:=(A.nx:Int)+1) O O];have a:∀l,aj (fun z=>z=B.a) H (H.wr B.a l):=fun l=>(aj.refl (fun z=>z=B.a) _).wr (fun _=>rfl) _;have Q:∀l,(H.wr B.a l).own B.a=some l:=fun l=>ah h;simp(disch:=(first|exact aV|fail)) only[go_sem, ↓reduceIte,Zv,ae (Q _)];rw[wrap64 (n:=(A.nx:Int)+1 - 1) O O];have f:A.pick=some ((A.nx:Int),{A with nx:=A.nx+1}):=by
    unfold Ar.pick;grind
   rw[show(A.nx:Int)+1 - 1=(A.nx:Int) by omega];refine .inr ⟨_,_,f,rfl,⟨⟨.slice W A.wt.length p,Q _,s1.ext (a _) (fun b L e=>m.ne.2.1 Z)⟩,(a _).own m.sl (Ne.symm m.ne.1),m.ne,m.len,⟨Z,m.ok.wd,fun y hy=>m.ok.fr y Z,m.ok.ct,Z⟩,m.gs,m.mo⟩,a _⟩
theorem BI(m:Ey H B A)(KU:∀x:Int,0<=x->x<A.g.length->A.bf x<4294967295):aF 161 [ptr B.a] H fun v J=>ak (
  (A.pick=none/\v= .tuple [eU 0 0,i64 32].toArray/\Ey J B A/\af H J)\/(∃x A',A.pick=some (x,A')/\v= .tuple [eU x (A.bf x+1),i64 0].toArray/\Ey J B (A'.out x)/\aj B.S H J)):=by
 have wO:=m.slt;refine aT vW ?_;refine vs ?_;have K:af H (H.new 29 cI):=bD;have b0:(H.new 29 cI).own H.size=some cI:=am _ _ _;have E:=m.ext K (fun _ _ h=>h);generalize H.new 29 cI=P at*;have G:∀z,B.S z->z≠H.size:=Z;refine(BH E).mono ?_;rintro _ j (⟨u,rfl,e⟩| ⟨x,A',u,rfl,a,r⟩)
 ·obtain rfl:=e.symm;refine v1 b0 ?_;have r:aj (fun z=>z=H.size) P (P.wr H.size cI):=(aj.refl (fun z=>z=H.size) _).wr (fun _=>rfl) _;have L:(P.wr H.size cI).own H.size=some cI:=ah b0;refine v1 (ae L) ?_;exact .inl ⟨u,rfl,E.ext r O,K.then r O⟩
 obtain⟨N,tJ,hxw,PT,F,hct,hmo⟩:=Ar.oQ u m.ok;have L:=r.own b0 (fun e=>G B.a (.inl rfl) e.symm);obtain⟨c,X,s1⟩:=a.own;have xh:=a.len;have M:0<=x/\x<A'.g.length:=by rw[F];exact N
 obtain⟨b,f,E5⟩:=Ar.get (A:=A') M;have YV:A'.bf x=A.bf x:=by unfold Ar.bf;rw[F]
 have hgb:=KU x N.1 N.2;obtain⟨c1,c2⟩:=sO f;obtain⟨w1,_⟩:=zY f;have hl:=ow A'.g;refine v1 (ae X) ?_;refine⟨O,?_⟩;refine v5 (ae a.sl) a.sl ajJ Nat.add_zero c1 ?_;refine⟨O,?_⟩;rw[Cf (n:=(A'.bf x:Int)+1) O O,show(A'.bf x:Int)+1=((A'.bf x+1:Nat):Int) by omega];refine v1 w1 ?_;have e2:aj (fun z=>z=B.sb) j (j.wr B.sb (ep (A'.g.set x.toNat (A'.bf x+1,b)))):=(aj.refl (fun z=>z=B.sb) _).wr (fun _=>rfl) _;have q2:(j.wr B.sb (ep (A'.g.set x.toNat (A'.bf x+1,b)))).own B.sb=some (ep (A'.g.set x.toNat (A'.bf x+1,b))):=ah a.sl;generalize j.wr B.sb (ep (A'.g.set x.toNat (A'.bf x+1,b)))=d at*;have D:(A'.g.set x.toNat (A'.bf x+1,b))[x.toNat]? =some (A'.bf x+1,b):=Z;obtain⟨d1,_⟩:=sO D;have w2:=(zY D).2 true;rw[List.set_set]at w2;have Oq:=ow (A'.g.set x.toNat (A'.bf x+1,b));rw[ajN]at Oq;refine v3 q2 ajJ Nat.add_zero ?_;refine⟨O,?_⟩;refine v1 w2 ?_;have e3:aj (fun z=>z=B.sb) d (d.wr B.sb (ep (A'.g.set x.toNat (A'.bf x+1,true)))):=(aj.refl (fun z=>z=B.sb) _).wr (fun _=>rfl) _;have q3:(d.wr B.sb (ep (A'.g.set x.toNat (A'.bf x+1,true)))).own B.sb=some (ep (A'.g.set x.toNat (A'.bf x+1,true))):=ah q2;generalize d.wr B.sb (ep (A'.g.set x.toNat (A'.bf x+1,true)))=t at*;have p:=e2.trans e3;have Q:=p.own X m.ne.1;have aas:=a.ok.ct;have WJ:=Ar.Lu A';refine v2 (ae Q) Q ?_;rw[wrap64 (n:=A'.ct+1) O O];have o:∀l,aj (fun z=>z=B.a) t (t.wr B.a l):=fun l=>(aj.refl (fun z=>z=B.a) _).wr (fun _=>rfl) _;have q4:∀l,(t.wr B.a l).own B.a=some l:=fun l=>ah Q;have q3':=(o [.slice (some ⟨B.sb,0,none⟩) A'.g.length A'.g.length,c,i64 A'.nx,i64 (A'.ct+1),.int .u32 (A'.mo:Int)]).own q3 (Ne.symm m.ne.1);have W:=(o [.slice (some ⟨B.sb,0,none⟩) A'.g.length A'.g.length,c,i64 A'.nx,i64 (A'.ct+1),.int .u32 (A'.mo:Int)]).own (p.own L (fun e=>G B.sb (.inr (.inl rfl)) e.symm)) Z;have SO:(A'.g.set x.toNat (A'.bf x+1,true))[x.toNat]? =some (A'.bf x+1,true):=Z;obtain⟨d3,_⟩:=sO SO;have s4:=(s1.ext p (fun b f e=>m.ne.2.2 Z)).ext (o [.slice (some ⟨B.sb,0,none⟩) A'.g.length A'.g.length,c,i64 A'.nx,i64 (A'.ct+1),.int .u32 (A'.mo:Int)]) (fun b f e=>m.ne.2.1 Z);have m4:Ey (t.wr B.a [.slice (some ⟨B.sb,0,none⟩) A'.g.length A'.g.length,c,i64 A'.nx,i64 (A'.ct+1),.int .u32 (A'.mo:Int)]) B (A'.out x):=by
  refine⟨⟨c,?_,s4⟩,q3',m.ne,?_,a.ok.out F M (fun h=>tJ (by unfold Ar.live at h ⊢;grind)) hxw PT,fun y hy=>?_,a.mo⟩
  ·show _=some [.slice (some ⟨B.sb,0,none⟩) (A'.g.set x.toNat (A'.bf x+1,true)).length (A'.g.set x.toNat (A'.bf x+1,true)).length,c,i64 A'.nx,i64 (A'.ct+1),.int .u32 (A'.mo:Int)];grind
  ·show(A'.g.set x.toNat (A'.bf x+1,true)).length<=_;grind
  ·rcases akH hy with h|h
   ·exact a.gs y h
   grind
 have e4':=o [.slice (some ⟨B.sb,0,none⟩) A'.g.length A'.g.length,c,i64 A'.nx,i64 (A'.ct+1),.int .u32 (A'.mo:Int)];generalize t.wr B.a [.slice (some ⟨B.sb,0,none⟩) A'.g.length A'.g.length,c,i64 A'.nx,i64 (A'.ct+1),.int .u32 (A'.mo:Int)]=H4 at*;have I:aj B.S H H4:=((K.mono fun _ _ h=>h.elim).trans (r.mono fun z _ h=>.inl h)).trans ((p.mono fun z _ h=>.inr (.inl h)).trans (e4'.mono fun z _ h=>.inl h));refine v5 (ae q3') ajJ Nat.add_zero d3 W ?_;have C:aj (fun z=>z=H.size) H4 (H4.wr H.size [Value.int .i64 x,Value.int .u32 ((A'.bf x+1:Nat):Int)]):=(aj.refl (fun z=>z=H.size) _).wr (fun _=>rfl) _;have b5:(H4.wr H.size [Value.int .i64 x,Value.int .u32 ((A'.bf x+1:Nat):Int)]).own H.size=some [Value.int .i64 x,Value.int .u32 ((A'.bf x+1:Nat):Int)]:=ah W;refine v1 (ae b5) ?_;refine .inr ⟨x,A',u,by rw[YV];rfl,m4.ext C O,⟨akc I.size C.size,fun z hz hn=>?_⟩⟩;cases I;cases C;grind
theorem qC(m:Ey H B A){x:Int}(u:A.live x):aF 164 [ptr B.a,eU x (A.bf x)] H fun v J=>ak (v=i64 0/\∃S6,Ey J ⟨B.a,B.sb,S6⟩ (A.back x)/\aj B.S H J/\∀z,S6=some z->B.fo=some z\/H.size<=z):=by
 have wO:=m.slt;have JQ:=Ar.kW u;obtain⟨b,W,E5⟩:=Ar.get (A:=A) JQ;obtain rfl:=E5.1 u;have hl:=ow A.g;have w1:=(zY W).2 false;have xh:=m.len;have aas:=m.ok.ct;have WJ:=Ar.Lu A;refine uS vX ⟨rfl,?_⟩;refine v1 lH.eq_1 ?_;have f0:af H (H.new 29 [i64 x,.int .u32 (A.bf x:Int)]):=bD;have b0:(H.new 29 [i64 x,.int .u32 (A.bf x:Int)]).own H.size=some [i64 x,.int .u32 (A.bf x:Int)]:=am _ _ _;have m0:=m.ext f0 (fun _ _ h=>h);generalize H.new 29 [i64 x,.int .u32 (A.bf x:Int)]=H0 at*;have S8:∀z,B.S z->z≠H.size:=Z;refine(gU m0 x (A.bf x)).mono ?_;rintro _ d ⟨rfl,Q⟩;rw[ajQ ⟨u,rfl⟩];have I:=m0.ext Q (fun _ _ h=>h);have X:=Q.own b0 (fun h=>h);obtain⟨M,o1,s1⟩:=I.own;refine v2 (ae o1) (ae X) ?_;refine⟨O,?_⟩;refine v2 I.sl ajJ ?_;refine⟨O,?_⟩;refine v1 w1 ?_;have o:aj (fun z=>z=B.sb) d (d.wr B.sb (ep (A.g.set x.toNat (A.bf x,false)))):=(aj.refl (fun z=>z=B.sb) _).wr (fun _=>rfl) _;have q2:(d.wr B.sb (ep (A.g.set x.toNat (A.bf x,false)))).own B.sb=some (ep (A.g.set x.toNat (A.bf x,false))):=ah I.sl;generalize d.wr B.sb (ep (A.g.set x.toNat (A.bf x,false)))=p at*;have G:=o.own o1 m.ne.1;have b2:=o.own X (fun e=>S8 B.sb (.inr (.inl rfl)) e.symm);refine v2 (ae G) G ?_;rw[wrap64 (n:=A.ct - 1) O O];have f:∀l,aj (fun z=>z=B.a) p (p.wr B.a l):=fun l=>(aj.refl (fun z=>z=B.a) _).wr (fun _=>rfl) _;have q3:∀l,(p.wr B.a l).own B.a=some l:=fun l=>ah G;have b3:=fun l=>(f l).own b2 Z;have q2':=fun l=>(f l).own q2 (Ne.symm m.ne.1);have s3:=fun l=>(s1.ext o (fun b W e=>m.ne.2.2 Z)).ext (f l) (fun b W e=>m.ne.2.1 Z);obtain⟨r,OA⟩:∃r,r=[.slice (some ⟨B.sb,0,none⟩) A.g.length A.g.length,M,i64 A.nx,i64 (A.ct - 1),.int .u32 (A.mo:Int)]:=⟨_,rfl⟩;have a:=q3 r;have t:=b3 r;have P:=q2' r;have YT:=s3 r;have YW:=f r;rw[OA]at a t P YT YW;generalize p.wr B.a [.slice (some ⟨B.sb,0,none⟩) A.g.length A.g.length,M,i64 A.nx,i64 (A.ct - 1),.int .u32 (A.mo:Int)]=H3 at*;have L:aj B.S H H3:=((f0.mono fun _ _ h=>h.elim).trans (Q.mono fun _ _ h=>h.elim)).trans ((o.mono fun z _ h=>.inr (.inl h)).trans (YW.mono fun z _ h=>.inl h));have KV:=m.ok.back u;have hgs:∀y∈(A.back x).g,y.1<=4294967295:=fun y hy=>by
  rcases akH hy with h|h
  ·exact m.gs y h
  cases m;grind
 have ec:(A.back x).g.length=A.g.length:=ajN ..
 refine v2 (ae t) (ae a) ?_;refine ai.dec (fun hm=>?_) (fun hm=>?_);rotate_left
 ·refine vs ?_;have YX:(A.back x).wt=A.wt:=by show(if A.bf x<A.mo then _ else _)=_;grind
  refine⟨rfl,B.fo,⟨⟨M,by rw[ec];exact a,Z⟩,P,m.ne,O,KV,hgs,m.mo⟩,L,fun z hz=>.inl hz⟩
 have YX:(A.back x).wt=A.wt++[x]:=by show(if A.bf x<A.mo then _ else _)=_;grind
 have U6:=m.wtl.1;obtain⟨ta,tc,rfl⟩:=Sl.shape YT;refine vs ?_;refine cZ.intro (fun J=>True) trivial ?_;refine vs ?_;have hbs:H.size<H3.size:=aC t;have has:B.a<H3.size:=aC a;have fin:∀ (K:Value->Hp->Prop),(∀w' c j,Sl c 1 w' (A.wt++[x]).length ((A.wt++[x]).map i64) j->(j=B.fo\/∃z,j=some z/\H3.size<=z/\z<c.size)->aj (fun z=>B.fo=some z) H3 c->K w' c)->
   eI 3 1 8 [i64 0] (.slice ta A.wt.length tc) (.slice (some ⟨H3.size,0,none⟩) 1 1) (H3.new 3 [i64 x]) K:=fun K hK=>by
  grind [Oy]
 refine tR.intro ?C ?D;case' C=>
  refine v2 (ae a) (ae t) ?_
 case' D=>
  refine v2 (ae a) (ae t) ?_;refine tR.intro ?E ?F;case' E=>
   refine v2 (ae a) (ae t) ?_
  case' F=>
   refine v2 (ae a) (ae t) ?_
 all_goals
  refine fin _ fun w' c j s4 yc N=>?_;obtain⟨wa,wc,rfl⟩:=Sl.shape s4;have o4:=N.own a (fun e=>m.ne.2.1 e);have q4:=N.own P (fun e=>m.ne.2.2 e);refine v1 o4 ?_;have e5:∀l,aj (fun z=>z=B.a) c (c.wr B.a l):=fun l=>(aj.refl (fun z=>z=B.a) _).wr (fun _=>rfl) _;have aeP:=L.size;refine⟨rfl,j,⟨⟨_,by rw[ec];exact ah o4,?_⟩,(e5 _).own q4 (Ne.symm m.ne.1),⟨m.ne.1,fun h=>?_,fun h=>?_⟩,O,KV,hgs,m.mo⟩,?_,fun z hz=>?_⟩
  ·cases m;grind [Sl.ext]
  ·cases m;grind
  ·rcases yc with h2| ⟨y,h2,h3,_⟩
   ·cases m;grind
   ·have:=aC P;grind
  ·exact(L.trans (N.mono fun z _ h=>.inr (.inr h))).trans ((e5 _).mono fun z _ h=>.inl h)
  grind
end
end
structure qD(ov:Value)(I:Hp->(Nat->Prop)->Nw->Prop):Prop where
 slt:∀ {H S w},I H S w->∀z,S z->z<H.size
 ext:∀ {H J S w} {T:Nat->Prop},I H S w->aj T H J->(∀z,S z->¬T z)->I J S w
 cells:∀ {H S w},I H S w->∃c C,CQ H c C w
 has:∀ {H S w} (g:Int),I H S w->fN Tryz.prog ov "Has" [i64 g] H fun v J=>v= .bool (decide (w.has g))/\H=J
 make:∀ {H S w},I H S w->fN Tryz.prog ov "Make" [] H fun v J=>
  (w.hs.length=65537/\v=i64 0/\br I S H J w)\/(w.hs.length≠65537/\v=i64 w.hs.length/\br I S H J w.make)
 insert:∀ {H S w} (g x k s:Int),I H S w->fN Tryz.prog ov "Insert" [i64 g,i64 x,mE k s] H fun v J=>
  (¬w.kC g x/\v= .bool false/\br I S H J w)\/(w.kC g x/\v= .bool true/\br I S H J (w.put x (g,k,s)))
 min:∀ {H S w} (g:Int),I H S w->fN Tryz.prog ov "Min" [i64 g] H fun v J=>
  (w.len g=0/\v= .tuple [i64 0,.bool false].toArray/\br I S H J w)\/(∃x,w.first g x/\v= .tuple [i64 x,.bool true].toArray/\br I S H J w)
 extract:∀ {H S w} (g:Int),I H S w->fN Tryz.prog ov "Extract" [i64 g] H fun v J=>
  (w.len g=0/\v= .tuple [i64 0,.bool false].toArray/\br I S H J w)\/(∃x,w.first g x/\v= .tuple [i64 x,.bool true].toArray/\br I S H J (w.put x (0,0,0)))
 j9:∀ {H S w} (x k s:Int),I H S w->fN Tryz.prog ov "Decrease" [i64 x,mE k s] H fun v J=>
  (¬w.dD x k s/\v= .bool false/\br I S H J w)\/(w.dD x k s/\v= .bool true/\∃y,w.cs[x.toNat]? =some y/\br I S H J (w.put x (y.1,k,s)))
 entry:∀ {H S w} (x:Int),I H S w->fN Tryz.prog ov "Entry" [i64 x] H fun v J=>I J S w/\af H J/\
  ((¬cz w.cs x/\v= .tuple [mE 0 0,.bool false].toArray)\/(cz w.cs x/\∃y,w.cs[x.toNat]? =some y/\v= .tuple [mE y.2.1 y.2.2,.bool true].toArray))
 len:∀ {H S w} (g:Int),I H S w->fN Tryz.prog ov "Len" [i64 g] H fun v J=>v=i64 (w.len g)/\H=J
 home:∀ {H S w} (x:Int),I H S w->fN Tryz.prog ov "Home" [i64 x] H fun v J=>
  (¬cz w.cs x/\v= .tuple [i64 0,.bool false].toArray/\br I S H J w)\/(cz w.cs x/\v= .tuple [i64 (aH w x),.bool true].toArray/\br I S H J w)
 delete:∀ {H S w} (x:Int),I H S w->fN Tryz.prog ov "Delete" [i64 x] H fun v J=>
  (¬cz w.cs x/\v= .bool false/\br I S H J w)\/(cz w.cs x/\v= .bool true/\br I S H J (w.put x (0,0,0)))
 vI:∀ {H S w} (a b:Int),I H S w->fN Tryz.prog ov "Meld" [i64 a,i64 b] H fun v J=>
  (¬ (w.has a/\w.has b/\a≠b)/\v= .bool false/\br I S H J w)\/((w.has a/\w.has b/\a≠b)/\v= .bool true/\br I S H J (w.join a b))
structure Cg(w:Nw)(A:Ar):Prop where
 len:w.cs.length=A.g.length
 live:∀x,cz w.cs x↔A.live x
def lf(H:Hp)(s:Nat)(S:Nat->Prop)(w:Nw)(A:Ar)(q:Int):Prop:=∃ (t:TypeId) (a:Value) (I:Hp->(Nat->Prop)->Nw->Prop) (h:Nat->Prop) (B:MN) (k d:Int),
 qD (.iface t a) I/\I H h w/\Ey H B A/\H.own s=some [i64 k,i64 d,ptr B.a,.iface t a,u64 q]/\(∀z,h z->¬B.S z/\z≠s)/\¬B.S s/\(∀z,S z↔h z\/B.S z\/z=s)/\Cg w A
theorem lf.slt{H:Hp}{s:Nat}{S:Nat->Prop}{w:Nw}{A:Ar}{q:Int}(h:lf H s S w A q):∀z,S z->z<H.size:=by
 obtain⟨t,p,I,e,B,k,d,n,hi,m,c,y,r,a,j⟩:=h;intro z v;rcases(a z).1 v with h|h|h
 ·exact n.slt hi z h
 ·exact m.slt z h
 ·rw[h];exact aC c
theorem lf.ext{H J:Hp}{s:Nat}{S T:Nat->Prop}{w:Nw}{A:Ar}{q:Int}(h:lf H s S w A q)(e:aj T H J)(o:∀z,S z->¬T z):lf J s S w A q:=by
 obtain⟨t,p,I,a,B,k,d,n,hi,m,j,c,v,y,r⟩:=h;exact⟨t,p,I,a,B,k,d,n,n.ext hi e Z,m.ext e Z,e.own j Z,c,v,y,r⟩
theorem lf.No{H:Hp}{s:Nat}{S:Nat->Prop}{w:Nw}{A:Ar}{q:Int}(h:lf H s S w A q):Cg w A/\oP A/\A.g.length<=65536:=by
 obtain⟨t,r,I,a,B,k,d,n,hi,m,y,c,v,e,z⟩:=h;exact⟨z,m.ok,m.len⟩
def mc(s:Nat)(S:Nat->Prop)(H J:Hp)(w':Nw)(A':Ar)(a:Int):Prop:=∃h,lf J s h w' A' a/\aj S H J/\∀z,h z->S z\/H.size<=z
section
variable {H J : Hp} {s : Nat} {S : Nat → Prop} {w : Nw} {A : Ar} {q : Int}
theorem oz(H:Hp)(T:TypeId)(z l:List Value):af H ((H.new T z).wr H.size l)/\((H.new T z).wr H.size l).own H.size=some l/\((H.new T z).wr H.size l).size=H.size+1:=by
 have a:af H (H.new T z):=bD;have h:aj (fun x=>x=H.size) (H.new T z) ((H.new T z).wr H.size l):=(aj.refl (fun x=>x=H.size) _).wr (fun _=>rfl) _;exact⟨a.then h O,ah (am _ _ _),by rw[bH,ag]⟩
theorem Jg{H:Hp}{b:Nat}{z:List Value}(h:H.own b=some z)(l:List Value):aj (fun x=>x=b) H (H.wr b l)/\(H.wr b l).own b=some l:=⟨(aj.refl (fun x=>x=b) _).wr (fun _=>rfl) _,ah h⟩
theorem BJ(h:lf H s S w A q)(Q:w.hs.length<65537):aF 127 [ptr s] H fun v J=>ak (v= .tuple [i64 w.hs.length,i64 0].toArray/\mc s S H J w.make A q):=by
 obtain⟨t,f,I,P,B,k,d,n,hi,m,e,L,p,F,r⟩:=h;obtain⟨c,C,j⟩:=n.cells hi;have G:=j.pos;refine aT vV ?_;refine v1 (ae e) ?_;refine(n.make hi).mono ?_;rintro _ u (⟨K,_⟩| ⟨_,rfl,y,hi',a,D⟩)
 ·omega
 refine vs ?_;refine ai.dec (fun N=>O) (fun _=>?_);refine vs ?_;have M:=m.slt;have W:=aC e;refine⟨rfl,fun z=>y z\/B.S z\/z=s,⟨t,f,I,y,B,k,d,n,hi',m.ext a Z,a.own e Z,fun z o=>?_,p,fun z=>Iff.rfl,⟨r.len,r.live⟩⟩,a.mono Z,fun z o=>?_⟩
 ·grind
 grind
theorem Cg.put{w:Nw}{A A':Ar}(l:Cg w A){x:Int}(c:0<=x/\x<A.g.length){y:Ce}{v:Nat}(m:A'.g=A.g.set x.toNat (v,decide (0<y.1))):Cg (w.put x y) A':=by
 have t:0<=x/\x<w.cs.length:=by rw[l.len];exact c
 refine⟨by rw[m,ajN];simp[Nw.put,l.len],fun z=>?_⟩;by_cases a:0<=z
 ·rw[Ar.lz c m a,<-bg,dW t];by_cases e:z=x
  ·grind
  ·rw[if_neg e,if_neg e,bg];exact l.live z
 ·exact⟨fun h=>absurd h.1 a,fun h=>absurd h.1 a⟩
theorem Dv(h:lf H s S w A q){g key:Int}(hg:w.has g)(KU:∀x:Int,0<=x->x<A.g.length->A.bf x<4294967295)(hq:0<=q/\q<18446744073709551615):aF 128 [ptr s,i64 g,i64 key] H fun v J=>ak (
  (A.pick=none/\v= .tuple [eU 0 0,i64 32].toArray/\mc s S H J w A q)\/(∃x A',A.pick=some (x,A')/\v= .tuple [eU x (A.bf x+1),i64 0].toArray/\mc s S H J (w.put x (g,key,q+1)) (A'.out x) (q+1))):=by
 have wO:=h.slt;obtain⟨t,W,I,D,B,k,d,n,hi,m,ho,d1,X,hS,K⟩:=h;refine aT mM ?_;refine vs ?_;have u:af H (H.new 29 cI):=bD;have b0:(H.new 29 cI).own H.size=some cI:=am _ _ _;have z0:(H.new 29 cI).size=H.size+1:=ag _ _ _;generalize H.new 29 cI=H0 at*;have m0:=m.ext u (fun _ _ h=>h);have MH:=n.ext hi u (fun _ _ h=>h);have N:=u.own ho (fun h=>h);have nj:∀z,S z->z≠H.size:=Z;refine v1 (ae N) ?_;refine(n.has g MH).mono ?_;rintro _ _ ⟨rfl,rfl⟩;rw[ajQ hg];refine v1 (ae N) ?_;refine(BI m0 KU).mono ?_;rintro _ r (⟨F,rfl,m1,L⟩| ⟨x,A',F,rfl,m1,o⟩)
 ·have E:=L.own b0 (fun h=>h);refine vs ?_;obtain⟨y,b2,z2⟩:=oz r 29 cI [i64 0,Value.int .u32 ((0:Nat):Int)];generalize (r.new 29 cI).wr r.size [i64 0,Value.int .u32 ((0:Nat):Int)]=G at*;have P:=y.own E (fun h=>h);refine ai.dec (fun hh=>O) (fun _=>?_);refine v1 P ?_;obtain⟨a,b4⟩:=Jg P cI;refine v1 (ae b4) ?_;have hse:aj S H (G.wr H.size cI):=by
   have h1:=(u.trans L).trans y;exact(h1.then a O).mono fun _ _ h=>h.elim
  refine .inl ⟨F,rfl,S,⟨t,W,I,D,B,k,d,n,?_,?_,?_,d1,X,hS,K⟩,hse,fun z p=>.inl p⟩
  ·exact n.ext (n.ext (n.ext MH L (fun _ _ h=>h)) y (fun _ _ h=>h)) a Z
  ·exact(m1.ext y (fun _ _ h=>h)).ext a Z
  ·exact a.own (y.own (L.own N (fun h=>h)) (fun h=>h)) Z
 ·obtain⟨JQ,tJ,_,_,hAg,_,_⟩:=Ar.oQ F m.ok;have E:=o.own b0 Z;have o1:=o.own N X;have WC:=n.ext MH o Z;refine vs ?_;obtain⟨y,b2,z2⟩:=oz r 29 cI [i64 x,Value.int .u32 ((A.bf x+1:Nat):Int)];generalize (r.new 29 cI).wr r.size [i64 x,Value.int .u32 ((A.bf x+1:Nat):Int)]=G at*;have P:=y.own E (fun h=>h);have Q:=y.own o1 (fun h=>h);have Oh:=n.ext WC y (fun _ _ h=>h);have m2:=m1.ext y (fun _ _ h=>h);refine ai.dec (fun _=>?_) (fun hh=>absurd trivial hh);refine v2 (ae Q) Q ?_;rw[eG (n:=q+1) O O];obtain⟨a,o3⟩:=Jg Q [i64 k,i64 d,ptr B.a,.iface t W,u64 (q+1)];have WH:=aC Q;have PU:=o.size;have aeR:=aC ho;have b5:=a.own P O;have b6:=a.own b2 (fun e=>O);have RT:=n.ext Oh a Z;have m3:=m2.ext a Z;generalize G.wr s [i64 k,i64 d,ptr B.a,.iface t W,u64 (q+1)]=H3 at*;refine v2 (ae o3) (ae b6) ?_;refine(n.insert g x key (q+1) RT).mono ?_;obtain⟨c,C,cq⟩:=n.cells RT;have PT:¬cz w.cs x:=fun h=>tJ ((K.live x).1 h);rintro _ H4 (⟨mT,_⟩| ⟨_,rfl,M,hi4,j,U7⟩)
  ·exact absurd ⟨hg,by rw[K.len];exact JQ,PT⟩ mT
  have YY:=a.size;have Qz:∀z,H.size<=z->¬D z:=Z;have b7:=j.own b6 (Qz _ O);have b8:=j.own b5 Z;refine v2 (ae b7) b8 ?_;obtain⟨f,b9⟩:=Jg b8 [i64 x,Value.int .u32 ((A.bf x+1:Nat):Int)];refine v1 (ae b9) ?_;have o4:=j.own o3 Z;have m4:=m3.ext j Z;have JP:=m.slt;have hz5:=j.size;have S8:∀z,B.S z->z<H.size:=JP;have aau:∀z,M z->D z\/H.size<z:=Z;refine .inr ⟨x,A',F,rfl,fun z=>M z\/B.S z\/z=s,⟨t,W,I,M,B,k,d,n,n.ext hi4 f (fun z p e=>?_),m4.ext f (fun z p e=>?_),f.own o4 O,fun z p=>?_,X,fun z=>Iff.rfl,?_⟩,?_,fun z p=>?_⟩
  ·grind
  ·grind
  ·grind
  ·refine K.put JQ (v:=A.bf x+1) ?_;have YV:A'.bf x=A.bf x:=by unfold Ar.bf;rw[hAg]
   show A'.g.set x.toNat (A'.bf x+1,true)=_;rw[YV,hAg];exact ajP (fun b=>A.g.set x.toNat (A.bf x+1,b)) (ajQ hg.1).symm
  ·have h1:aj S H H3:=((u.mono fun _ _ h=>h.elim).trans (o.mono Z)).trans ((y.mono fun _ _ h=>h.elim).trans (a.mono Z));have h2:=h1.trans (j.mono Z);exact⟨akc h2.size f.size,fun z p hn=>by cases f;cases h2;grind⟩
  grind
end
def jt(w:Nw)(g:Int)(i:Nat)(b:Int):Prop:=
 (b= -1/\∀x:Int,x<i->¬ (0<g/\aH w x=g))\/(0<=b/\b<i/\0<g/\aH w b=g/\∀x:Int,x<i->aH w x=g->x≠b->aU w b x=true)
section
variable {w : Nw} {g b : Int} {i : Nat}
theorem jt.skip(h:jt w g i b)(hi:¬ (0<g/\aH w i=g)):jt w g (i+1) b:=by
 rcases h with ⟨rfl,h⟩| ⟨z,a,m,c,v⟩
 ·exact .inl Z
 ·exact .inr Z
theorem jt.one(h:jt w g i (-1))(a:0<g)(hi:aH w i=g):jt w g (i+1) i:=by
 rcases h with ⟨_,h⟩| ⟨z,_⟩
 ·exact .inr Z
 ·omega
theorem jt.new(h:jt w g i b)(y:0<=b)(hi:aH w i=g)(r:aU w i b=true):jt w g (i+1) i:=by
 rcases h with ⟨rfl,_⟩| ⟨a,m,z,c,v⟩
 ·omega
 ·refine .inr ⟨O,O,z,hi,fun x d t j=>?_⟩;by_cases e:x=b
  ·grind
  ·exact(by grind [Nw.key,aU,Nw.seq])
theorem jt.old(h:jt w g i b)(y:0<=b)(hi:aH w i=g)(r:aU w i b≠true):jt w g (i+1) b:=by
 rcases h with ⟨rfl,_⟩| ⟨z,c,a,m,v⟩
 ·omega
 ·refine .inr ⟨z,O,a,m,fun x d t j=>?_⟩;by_cases e:x=i
  ·rw[e];exact(by grind [Nw.key,aU,Nw.seq])
  grind
theorem jt.zd(h:jt w g w.cs.length b):w.zd g=if b<0 then none else some b:=by
 have r:∀x:Int,0<g->aH w x=g->x<w.cs.length:=fun x z a=>(aI (w:=w) (x:=x) O).2.1;rcases h with ⟨rfl,h⟩| ⟨c,v,e,y,t⟩
 ·rw[if_pos O];unfold Nw.zd;rw[dif_neg];rintro⟨x,m⟩;obtain⟨z,a,_⟩:=bi.1 m;grind
 grind [Hg,bi]
end
theorem Dw{H:Hp}{v:Value}{w:Nw}{A:Nat->Prop}(h:cu H v w A)(g:Int):aF 114 [v,i64 g] H fun r J=>ak ((r=match w.zd g with|none=>.tuple [i64 0,.bool false].toArray|some x=>.tuple [i64 x,.bool true].toArray)/\af H J):=by
 have h':=h;obtain⟨f,u,t,a,rfl,h1,h2,h3,h4,a1,a2⟩:=h;refine aT II ?_;refine vs ?_;have d:af H (H.new 84 (dU w f u t a)):=bD;have o0:(H.new 84 (dU w f u t a)).own (H.size)=some (dU w f u t a):=by rw[am]
 generalize (H.new 84 (dU w f u t a))=W at*;refine bj.intro (fun m env y=>∃ (i:Nat) (b:Int),env=[(1,i64 g),(2,.pointer (some ⟨H.size,0,none⟩)),(6,i64 b),(10,.slice t w.cs.length a),(11,i64 w.cs.length),(12,i64 i)]/\af W y/\i<=w.cs.length/\m=w.cs.length - i/\jt w g i b) w.cs.length
  ⟨0, -1,rfl,aj.refl _ _,O,O,.inl ⟨rfl,fun x Q hh=>by
   have:=(aI (w:=w) (x:=x) O).1;omega⟩⟩ ?_
 rintro m env y ⟨i,b,rfl,c,hi,rfl,z⟩;refine vs ?_;refine ai.dec (fun mA=>?_) (fun mA=>?_)<;>refine vs ?_
 ·obtain⟨x,Q⟩:∃x,w.cs[i]? =some x:=⟨_,ajL O⟩;obtain⟨I,o,l,rfl,c1,c2,c3,c4,c5,c6,c7,c8⟩:=bX.cell (h2.fresh (d.trans c)) Q;have hxi:aH w i=x.1:=iO O Q;refine⟨O,?_⟩;refine v2 c1 Int.toNat_natCast ?_;refine⟨O,?_⟩;refine v1 c7 ?_;obtain⟨K,X,z2⟩:=oz y 196 [.int .i64 0,.int .i64 0,.int .u64 0] [i64 x.1,i64 x.2.1,u64 x.2.2];generalize (y.new 196 [.int .i64 0,.int .i64 0,.int .u64 0]).wr y.size [i64 x.1,i64 x.2.1,u64 x.2.2]=E at*;have next:∀ (j:Hp) (b':Int),af E j->jt w g (i+1) b'->∃M,M<w.cs.length - i/\∃ (C:Nat) (b_1:Int),[(1,i64 g),(2,Value.pointer (some ⟨H.size,0,none⟩)),(6,i64 b'),(10,.slice (some ⟨I,o,none⟩) w.cs.length a),(11,i64 w.cs.length),(12,i64 ((i:Int)+1))]=[(1,i64 g),(2,.pointer (some ⟨H.size,0,none⟩)),(6,i64 b_1),(10,.slice (some ⟨I,o,none⟩) w.cs.length a),(11,i64 w.cs.length),(12,i64 C)]/\af W j/\C<=w.cs.length/\M=w.cs.length - C/\jt w g C b_1:=
   fun j b' p hb'=>⟨w.cs.length - (i+1),O,i+1,b',rfl,(c.trans K).trans p,O,rfl,hb'⟩
  by_cases P:0<g
  ·refine v2 (ajQ P) (ae X) ?_;by_cases G:x.1=g
   ·refine v1 (ajQ G) ?_;have F:aH w i=g:=O;refine ai.dec (fun PO=>?_) (fun PO=>?_)
    ·refine vs ?_;rw[wrap64 O O];have:b= -1:=by rcases z with ⟨e,_⟩| ⟨h,_⟩<;>omega
     exact next _ i (aj.refl _ _) ((this▸z:jt w g i (-1)).one P F)
    ·have o2:=K.own (c.own o0 (fun h=>h)) (fun h=>h);refine v1 (ae o2) ?_;refine(zR (((h'.fresh d).fresh c).fresh K) i b).mono ?_;rintro _ j ⟨rfl,p⟩;have KJ:cz w.cs b:=by
      rcases z with ⟨e,_⟩| ⟨_,_,h3,h4,_⟩
      ·omega
      ·exact bg.1 O
     rw[tH (bg.1 O) KJ];by_cases L:aU w i b=true
     ·rw[L];refine vs ?_;rw[wrap64 O O];exact next _ i p (z.new O F L)
     ·rw[eq_false_of_ne_true L];refine vs ?_;rw[wrap64 O O];exact next _ b p (z.old O F L)
   ·refine v1 (ajO G) ?_;rw[wrap64 O O];exact next _ b (aj.refl _ _) (z.skip O)
  ·refine v1 (ajO P) ?_;rw[wrap64 O O];exact next _ b (aj.refl _ _) (z.skip fun h=>P h.1)
 ·have D:=z;rw[show i=w.cs.length by omega]at D;rw[D.zd];refine ai.dec (fun N=>?_) (fun N=>?_)<;>refine vs ?_
  ·rw[if_pos N];exact⟨rfl,d.trans c⟩
  ·rw[if_neg N];exact⟨rfl,d.trans c⟩
end Go.Proofs.YtjkkkibiegfecaaGreatDoor
