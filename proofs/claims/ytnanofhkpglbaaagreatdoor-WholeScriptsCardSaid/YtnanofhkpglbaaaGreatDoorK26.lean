/- Texts put behind each other. -/
import Derived.Test.YtnanofhkpglbaaaGreatDoorK24
import Derived.Test.YtnanofhkpglbaaaGreatDoorK25
set_option linter.unusedSimpArgs false
set_option linter.unusedVariables false
set_option maxRecDepth 100000
set_option maxHeartbeats 80000000
namespace Go.Proofs.YtnanofhkpglbaaaGreatDoor
open Go Go.Vc
section
variable{H J:Hp}{c b i T n B:Nat}{xs:List Int}{w:Value}{m:Int}
theorem tw(l:List Int):dK (l.map i64):=fun v h=>by
 obtain⟨x,_,rfl⟩:=alQ.1 h;rfl
theorem xR{fp:Option Nat}{K:Value->Hp->Prop}(p:∀b,fp=some b->B<=b)(d:B<=H.size)(s:Sl H 1 w xs.length (xs.map i64) fp)(x:Int)(q:xs.length<=1000000000000)
  (y:∀w' J a,(∀b,a=some b->B<=b)->Sl J 1 w' (xs++[x]).length ((xs++[x]).map i64) a->aj (fun z=>B<=z) H J->K w' J):
  eh T 1 8 [i64 0] w (.slice (some ⟨H.size,0,none⟩) 1 1) (H.new T [i64 x]) K:=by
 have l:af H (H.new T [i64 x]):=(aj.refl _ _).new _ _;refine Sl.append (s.ext l (fun _ _ h=>h)) (Sl.bs (size:=1) (n:=1) (xs:=[i64 x]) rfl rfl).rd rfl (tw [x]) O ?_;intro t J a f c g;refine y t J a (fun b e=>?_) Z ⟨alw l.size c.size,fun z v o=>?_⟩
 ·rcases g with h| ⟨b',m,r,j⟩
  ·grind
  ·rw[e]at m;injection m with m;have:=l.size;omega
 ·rw[c.aW z (alp v l.size) Z,l.aW z v (fun h=>h)]
theorem XB{K:Value->Hp->Prop}(v:B<=b)(l:B<=H.size)(s:Sl H 1 w xs.length (xs.map i64) (some b))(x:Int)(a:xs.length<=1000000000000)
  (g:∀w' J b',B<=b'->Sl J 1 w' (xs++[x]).length ((xs++[x]).map i64) (some b')->aj (fun z=>B<=z) H J->K w' J):
  eh T 1 8 [i64 0] w (.slice (some ⟨H.size,0,none⟩) 1 1) (H.new T [i64 x]) K:=by
 refine xR Z l s x a fun w' J h e n m=>?_;cases h with
 |none=>
  obtain⟨_,c,_⟩:=n;grind
 |some b'=>grind
theorem Mm{K:Value->Hp->Prop}(s:Sl H 1 w xs.length (xs.map i64) (some b))(x:Int)(j:xs.length<=1000000000000)
  (r:∀w' J b',(b'=b\/H.size<=b')->Sl J 1 w' (xs++[x]).length ((xs++[x]).map i64) (some b')->aj (fun z=>z=b) H J->K w' J):
  eh T 1 8 [i64 0] w (.slice (some ⟨H.size,0,none⟩) 1 1) (H.new T [i64 x]) K:=by
 have l:af H (H.new T [i64 x]):=(aj.refl _ _).new _ _;refine Sl.append (s.ext l (fun _ _ h=>h)) (Sl.bs (size:=1) (n:=1) (xs:=[i64 x]) rfl rfl).rd rfl (tw [x]) O ?_;intro g J Ii e a v;have y:aj (fun z=>z=b) H J:=⟨alw l.size a.size,fun z m d=>by
  rw[a.aW z (alp m l.size) Z,l.aW z m (fun h=>h)]⟩
 have p:Sl J 1 g (xs++[x]).length ((xs++[x]).map i64) Ii:=by rw[alm,alG];exact e
 rcases v with rfl| ⟨b',rfl,c,t⟩
 ·grind
 ·rw[ag]at c;grind
theorem Sl.num{a:Option Addr}(h:Sl H 1 (.slice a n c) n (xs.map i64) (some b)){x:Int}(z:xs[i]? =some x):
  i<n/\a=some ⟨b,0,none⟩/\∃lb,H.own b=some lb/\lb[i]? =some (i64 x):=by
 have w:=h.1;rw[alA,ala]at w;have hi:=(ak8.1 z).1;obtain⟨_,l,g,v,m,t,r,p⟩:=h;injection v with e j d;refine⟨O,e,l,m,?_⟩;have y:(xs.map i64)[i]? =some (i64 x):=by rw[alz,z];rfl
 grind
theorem bD.get{size:Nat}{v:Value}{xs:List Value}(h:bD H size v n xs){j:Nat}{x:Value}(g:j<size)(z:xs[i*size+j]? =some x):
  ∃b o c l,v= .slice (some ⟨b,o,none⟩) n c/\H.rd b=some l/\i<n/\l[o+i*size+j]? =some x:=by
 obtain⟨y,⟨rfl,a,c,rfl⟩| ⟨b,o,c,l,rfl,w,m,e⟩⟩:=h
 ·rw[List.getElem?_eq_none O]at z;cases z
 ·have t:i*size+j<n*size:=by
   have:=(ak8.1 z).1;omega
  refine⟨b,o,c,l,rfl,w,?_,?_⟩
  ·rcases al1 i n with h|h
   ·exact h
   ·have:=amd size h;omega
  grind
def xS(a b:Int):Int:=if a<b then -1 else if b<a then 1 else 0
theorem jT(a:Int)(H:Hp):aD 272 [i64 a] H fun v J=>ak (v= .bool false/\H=J):=by
 refine aL xz ?_;refine v1 alr ?_;exact⟨rfl,rfl⟩
theorem jn(a:Int)(H:Hp):aD 390 [u64 a] H fun v J=>ak (v= .bool false/\H=J):=by
 refine aL vV ?_;refine v1 alr ?_;exact⟨rfl,rfl⟩
theorem pq(a b:Int)(H:Hp):aD 387 [i64 a,i64 b] H fun v J=>ak (v=i64 (xS a b)/\H=J):=by
 refine aL tT ?_;refine vs ?_;refine(jT a H).mono ?_;rintro _ _ ⟨rfl,rfl⟩;refine vs ?_;refine(jT b H).mono ?_;rintro _ _ ⟨rfl,rfl⟩;refine vs ?_;refine ai.dec (fun h=>?_) (fun h=>?_)<;>refine vs ?_
 ·exact⟨ald i64 (by simp[xS,h]),rfl⟩
 ·refine ai.dec (fun x=>?_) (fun x=>?_)<;>refine vs ?_
  ·exact⟨ald i64 (by simp[xS,h,show b<a from x]),rfl⟩
  ·exact⟨ald i64 (by simp[xS,h,show¬b<a from x]),rfl⟩
theorem nU(a b:Int)(H:Hp):aD 388 [u64 a,u64 b] H fun v J=>ak (v=i64 (xS a b)/\H=J):=by
 refine aL rO ?_;refine vs ?_;refine(jn a H).mono ?_;rintro _ _ ⟨rfl,rfl⟩;refine vs ?_;refine(jn b H).mono ?_;rintro _ _ ⟨rfl,rfl⟩;refine vs ?_;refine ai.dec (fun h=>?_) (fun h=>?_)<;>refine vs ?_
 ·exact⟨ald i64 (by simp[xS,h]),rfl⟩
 ·refine ai.dec (fun x=>?_) (fun x=>?_)<;>refine vs ?_
  ·exact⟨ald i64 (by simp[xS,h,show b<a from x]),rfl⟩
  ·exact⟨ald i64 (by simp[xS,h,show¬b<a from x]),rfl⟩
def V6(xs:List Int):Int:=(xs.find? fun x=>x≠0).getD 0
theorem Bp{v:Value}(h:bD H 1 v n (xs.map i64))(K:n<=1000000)(f:∃a c,v= .slice a n c):
  aD 292 [v] H fun r J=>ak (r=i64 (V6 xs)/\H=J):=by
 obtain⟨a,c,rfl⟩:=f;have C:xs.length=n:=by have:=h.1;simpa using this
 refine aL Hn ?_;refine vs ?_;refine ba.intro (fun m env w=>∃k:Nat,env=[(3,i64 0),(6,.slice a n c),(7,i64 n),(8,i64 k)]/\w=H/\k<=n/\m=n - k/\∀j,j<k->xs[j]? =some 0) n Z ?_;rintro m env w ⟨k,rfl,rfl,A,rfl,y⟩;refine vs ?_;refine ai.dec (fun p=>?_) (fun p=>?_)<;>refine vs ?_
 ·have d:k<xs.length:=O;obtain⟨b,o,c',l,u,q,_,g⟩:=bD.get h (i:=k) (j:=0) (x:=i64 xs[k]) O Z;injection u with t P L;subst t;refine⟨O,?_⟩;simp only[ala,Nat.add_zero]at g;refine v4 q Int.toNat_natCast ala g ?_;refine ai.dec (fun e=>?_) (fun e=>?_)<;>refine vs ?_
  ·rw[wrap64 O O];refine⟨n - (k+1),O,k+1,rfl,trivial,O,rfl,fun j z=>?_⟩;grind
  ·refine⟨ald i64 ?_,rfl⟩;unfold V6;have:xs.find? (fun x=>x≠0)=some xs[k]:=by
    rw[List.find?_eq_some_iff_getElem];refine⟨by simpa using e,k,d,rfl,fun j z=>?_⟩;have:=y j z;rw[ak9 O]at this;injection this with this;simp[this]
   rw[this];rfl
 ·refine⟨ald i64 ?_,rfl⟩;unfold V6;have:xs.find? (fun x=>x≠0)=none:=by
   rw[List.find?_eq_none];intro x B;obtain⟨j,z,rfl⟩:=amx.1 B;have:=y j O;rw[ak9 z]at this;injection this with this;simp[this]
  grind
def Jv(k s x h:Int):Int:=V6 [xS k x,xS s h]
def dY(k s x h:Int):Prop:=k<x\/k=x/\s<h
instance(k s k' s':Int):Decidable (dY k s k' s'):=by unfold dY;infer_instance
theorem Jw(k s x s':Int):Jv k s x s'<0↔dY k s x s':=by
 unfold Jv dY V6 xS;grind
theorem lH(k s x z:Int)(H:Hp):aD 382 [ms k s,ms x z] H fun v J=>ak (v=i64 (Jv k s x z)/\af H J):=by
 refine aL Bg ?_;refine vs ?_;refine⟨_,(pq k x _).mono fun _ _ h=>⟨h.out.1,h.out.2.symm⟩,?_⟩;refine(nU s z _).mono ?_;rintro _ _ ⟨rfl,rfl⟩;refine vs ?_;refine(Bp (n:=2) (xs:=[xS k x,xS s z]) (Sl.bs (size:=1) rfl (by simp only[ag])).rd O ⟨_,_,rfl⟩).mono ?_;rintro _ _ ⟨rfl,rfl⟩;exact⟨rfl,(bm.new _ _).new _ _⟩
theorem Bq(k s x h:Int)(H:Hp):aD 375 [ms k s,ms x h] H fun v J=>ak (v= .bool (decide (dY k s x h))/\af H J):=by
 refine aL Hq ?_;refine vs ?_;refine(lH k s x h _).mono ?_;rintro _ _ ⟨rfl,z⟩;refine vs ?_;refine⟨ald Value.bool (by rw[decide_eq_decide];exact Jw _ _ _ _),?_⟩;exact(bm.new _ _).trans z
def fP(m n:Int):Int:=if n<=0 then m else if n>4611686018427387904 - m then 4611686018427387904 else m+n
theorem zF{r:List Value}(h:H.own b=some (i64 m::r))(hm:0<=m/\m<=4611686018427387904)(n:Int)(w:n<=4611686018427387904):
  aD 399 [ptr b,i64 n] H fun v J=>ak (v= .tuple [].toArray/\J=H.wr b (i64 (fP m n)::r)\/v= .tuple [].toArray/\J=H/\fP m n=m):=by
 refine aL tW ?_;refine vs ?_;refine ai.dec (fun x=>?_) (fun x=>?_)<;>refine v1 (ae h) ?_
 ·exact .inr ⟨rfl,rfl,by simp[fP,x]⟩
 ·rw[wrap64 O O];refine ai.dec (fun z=>?_) (fun z=>?_)<;>refine v2 (ae h) h ?_
  ·exact .inl ⟨rfl,by rw[fP,if_neg x,if_pos z]⟩
  ·exact .inl ⟨rfl,by rw[fP,if_neg x,if_neg z,wrap64 O O]⟩
abbrev Ce:=Int×Int×Int
def bO(cs:List Ce):List Value:=cs.flatMap fun c=>[i64 c.1,i64 c.2.1,u64 c.2.2]
theorem dl(cs:List Ce):(bO cs).length=cs.length*3:=by
 induction cs with
 |nil=>rfl
 |cons c r x=>simp only[bO,amQ,alm,alk,alP]at*;omega
theorem Gm(n:Nat):bO (List.replicate n (0,0,0))=dm [.int .i64 0,.int .i64 0,.int .u64 0] n:=by
 simp[bO,dm,List.flatMap_def,List.map_replicate]
theorem ei.lt2{s len:Nat}{rt:Nat->Nat}{most:Int}(h:ei H b s len rt most):s<H.size:=by
 obtain⟨⟨w,z,x,a1,a2,a3⟩,_⟩:=h;exact a2.lt
structure bB(H:Hp)(c:Nat)(S:Nat->Prop)(st:Int)(cs:List Ce)(len:Nat)(rt:Nat->Nat)(aY:Int->Option Int):Prop where
 rep:∃fb nb ns mb,H.own c=some [i64 st,.slice (some ⟨fb,0,none⟩) cs.length cs.length,ptr nb,.map (some mb)]/\H.own fb=some (bO cs)/\ei H nb ns len rt 65536/\ke H mb (fun i=>(aY i).map i64)/\
  (S c/\S fb/\S nb/\S ns/\S mb)/\(c≠fb/\c≠nb/\c≠ns/\c≠mb)/\(fb≠nb/\fb≠ns/\fb≠mb)/\(nb≠mb/\ns≠mb)
 st0:0<=st
 st1:st<=4611686018427387904
 yY:cs.length<=65536
 slt:∀x,S x->x<H.size
theorem bB.ext{S T:Nat->Prop}{st:Int}{cs:List Ce}{len:Nat}{rt:Nat->Nat}{aY:Int->Option Int}(h:bB H c S st cs len rt aY)
  (e:aj T H J)(z:∀x,S x->¬T x):bB J c S st cs len rt aY:=by
 obtain⟨⟨a,r,j,t,a1,a2,a3,a4,⟨s1,d,p,q,o⟩,w,l⟩,n,m,v,g⟩:=h;exact⟨⟨a,r,j,t,e.own a1 (z _ s1),e.own a2 (z _ d),a3.ext e (z _ p) (z _ q),a4.ext e (z _ o),Z,w,l⟩,n,m,v,fun x y=>alp (g x y) e.size⟩
theorem De(cap:Int)(H:Hp):aD 147 [i64 cap] H fun v J=>ak (
  af H J/\((¬ (0<=cap/\cap<=65536)/\v= .tuple [.pointer none,i64 31].toArray)\/
   (0<=cap/\cap<=65536)/\∃c S,v= .tuple [ptr c,i64 0].toArray/\bB J c S 0 (List.replicate cap.toNat (0,0,0)) 1 id (fun _=>none)/\(∀x,S x->H.size<=x))):=by
 refine aL Jf ?_;refine vs ?_;refine ai.dec (fun h=>?_) (fun h=>?_)<;>refine vs ?_
 ·exact⟨aj.refl _ _,.inl ⟨O,rfl⟩⟩
 ·refine ai.dec (fun n=>?_) (fun n=>?_)<;>refine vs ?_
  ·exact⟨aj.refl _ _,.inl ⟨O,rfl⟩⟩
  ·refine(C8 65536 H).mono ?_;rintro _ z ⟨l,⟨d,_⟩| ⟨_,a,g,rfl,m,y,t,r,j⟩⟩
   ·omega
   refine vs ?_;refine⟨O,?_⟩;refine vs ?_;have e:(z.new 501 (dm [.int .i64 0,.int .i64 0,.int .u64 0] cap.toNat)).own z.size=some (bO (List.replicate cap.toNat (0,0,0))):=by
    rw[Gm];exact am _ _ _
   have w:aj (fun _=>False) (z.new 501 (dm [.int .i64 0,.int .i64 0,.int .u64 0] cap.toNat)) _:=
    ((aj.refl _ _).gD).new 319 [.int .i64 0,.slice (some ⟨z.size,0,none⟩) cap.toNat cap.toNat,.pointer (some ⟨a,0,none⟩),.map (some (z.size+1))]
   have hm:ke (z.new 501 (dm [.int .i64 0,.int .i64 0,.int .u64 0] cap.toNat)).gD (z.size+1) (fun _=>none):=by
    have:=ke.new (z.new 501 (dm [.int .i64 0,.int .i64 0,.int .u64 0] cap.toNat));rwa[ag]at this
   have q:=l.size;have p:(List.replicate cap.toNat ((0,0,0):Ce)).length=cap.toNat:=Z;refine⟨(l.trans ((aj.refl _ _).new 501 _)).trans w,.inr ⟨O,z.size+1+1,fun x=>H.size<=x/\x<z.size+1+1+1,rfl,⟨⟨z.size,a,g,z.size+1,by grind [az,ag,jt],w.own e (fun h=>h),
    (m.ext ((aj.refl (fun _=>False) _).new 501 _) (fun h=>h) (fun h=>h)).ext w (fun h=>h) (fun h=>h),hm.ext ((aj.refl (fun _=>False) _).new _ _) (fun h=>h),?_,?_,?_,?_⟩,O,O,O,?_⟩,fun x h=>h.1⟩⟩
   ·omega
   ·omega
   ·omega
   ·omega
   ·intro x o;simp only[ag,jt];omega
theorem si{S:Nat->Prop}{st:Int}{cs:List Ce}{len:Nat}{rt:Nat->Nat}{aY:Int->Option Int}(h:bB H c S st cs len rt aY)(i:Int):
  aD 353 [ptr c,i64 i] H fun v J=>ak (v= .bool (decide (0<i/\i<len/\rt i.toNat=i.toNat))/\H=J):=by
 obtain⟨⟨l,y,t,g,a1,a2,a3,a4,x,z,w⟩,a,n,m,e⟩:=h;refine aL xB ?_;refine v1 (ae a1) ?_;refine(lD a3 i).mono ?_;rintro _ _ ⟨rfl,rfl⟩;refine vs ?_;exact⟨rfl,rfl⟩
def da(aY:Int->Option Int)(i:Int):Int:=(aY i).getD 0
theorem Df{S:Nat->Prop}{st:Int}{cs:List Ce}{len:Nat}{rt:Nat->Nat}{aY:Int->Option Int}(h:bB H c S st cs len rt aY)(i:Int):
  aD 356 [ptr c,i64 i] H fun v J=>ak (v=i64 (da aY i)/\H=J):=by
 obtain⟨⟨l,y,t,g,a1,a2,a3,a4,x,z,w⟩,a,n,m,e⟩:=h;refine aL xC ?_;refine v2 (ae a1) a4.look ?_;refine⟨?_,rfl⟩;unfold da;cases aY i<;>rfl
theorem nV{S:Nat->Prop}{st:Int}{cs:List Ce}{len:Nat}{rt:Nat->Nat}{aY:Int->Option Int}(h:bB H c S st cs len rt aY)(i:Int):
  aD 378 [ptr c,i64 i] H fun v J=>ak (v= .bool (decide (0<=i/\i<cs.length))/\H=J):=by
 obtain⟨⟨l,y,t,g,a1,a2,a3,a4,x,z,w⟩,a,n,m,e⟩:=h;refine aL tS ?_;refine vs ?_;refine ai.dec (fun h=>?_) (fun h=>?_)<;>refine v1 (ae a1) ?_
 ·exact⟨ald Value.bool Z,rfl⟩
 ·exact⟨ald Value.bool Z,rfl⟩
theorem pt{cs:List Ce}{c:Ce}(hi:cs[i]? =some c):
  (bO cs)[i*3]? =some (i64 c.1)/\(bO cs)[i*3+1]? =some (i64 c.2.1)/\(bO cs)[i*3+2]? =some (u64 c.2.2)/\((bO cs).drop (i*3+1)).take 2=[i64 c.2.1,u64 c.2.2]:=by
 have x:∀ (cs:List Ce) (i:Nat) (c:Ce),cs[i]? =some c->(bO cs)[i*3]? =some (i64 c.1)/\(bO cs)[i*3+1]? =some (i64 c.2.1)/\(bO cs)[i*3+2]? =some (u64 c.2.2):=by
  intro cs;induction cs with
  |nil=>grind
  |cons a r n=>
   intro i c h;have e:bO (a::r)=i64 a.1::i64 a.2.1::u64 a.2.2::bO r:=rfl;rw[e];cases i with
   |zero=>grind
   |succ i=>
    grind
 obtain⟨z,w,l⟩:=x cs i c hi;refine⟨z,w,l,?_⟩;apply alB;grind
def cu(cs:List Ce)(i:Int):Prop:=0<=i/\∃c,cs[i.toNat]? =some c/\0<c.1
instance(cs:List Ce)(i:Int):Decidable (cu cs i):=
 match h:cs[i.toNat]? with
 |none=>.isFalse fun⟨_,c,h1,_⟩=>Z
 |some c=>if h0:0<=i/\0<c.1 then .isTrue ⟨h0.1,c,h,h0.2⟩else .isFalse fun⟨h1,c',h2,h3⟩=>Z
theorem fC{S:Nat->Prop}{st:Int}{cs:List Ce}{len:Nat}{rt:Nat->Nat}{aY:Int->Option Int}(h:bB H c S st cs len rt aY)(i:Int):
  aD 365 [ptr c,i64 i] H fun v J=>ak (v= .bool (decide (cu cs i))/\H=J):=by
 have l:=nV h i;obtain⟨⟨j,u,B,f,a1,a2,a3,a4,e,g,y⟩,d,p,q,o⟩:=h;refine aL zq ?_;refine vs ?_;refine l.mono ?_;rintro _ _ ⟨rfl,rfl⟩;refine vs ?_;refine ai.dec (fun h=>?_) (fun h=>?_)<;>refine v1 (ae a1) ?_
 ·obtain⟨x,z⟩:∃x,cs[i.toNat]? =some x:=⟨_,ak9 O⟩;obtain⟨a,n,m,P⟩:=pt z;refine⟨O,?_⟩;refine v4 (ae a2) a Nat.add_zero ak7 ?_;exact⟨ald Value.bool (by rw[decide_eq_decide];exact⟨fun w=>⟨h.1,x,z,w⟩,fun⟨_,c,t,r⟩=>Z⟩),rfl⟩
 ·exact⟨ald Value.bool (alc (by rintro⟨x,c,n,m⟩;grind)).symm,rfl⟩
theorem tx(cs:List Ce)(i:Nat)(c:Ce)(hi:i<cs.length):aQ (bO cs) (i*3) [i64 c.1,i64 c.2.1,u64 c.2.2]=bO (cs.set i c):=by
 simp only[aQ];induction cs generalizing i with
 |nil=>rfl
 |cons a r h=>
  have e:bO (a::r)=i64 a.1::i64 a.2.1::u64 a.2.2::bO r:=rfl;cases i with
  |zero=>rfl
  |succ i=>
   have x:bO ((a::r).set (i+1) c)=i64 a.1::i64 a.2.1::u64 a.2.2::bO (r.set i c):=rfl;grind
theorem Br{S:Nat->Prop}{st:Int}{cs:List Ce}{len:Nat}{rt:Nat->Nat}{aY:Int->Option Int}(h:bB H c S st cs len rt aY):
  aD 370 [ptr c] H fun v J=>ak (
   (len=65537/\v=i64 0/\H=J)\/
   (len≠65537/\v=i64 len/\∃w,bB J c w st cs (len+1) (fun i=>if i=len then i else rt i) aY/\aj S H J/\∀x,w x->S x\/H.size<=x)):=by
 obtain⟨⟨y,f,U,o,a1,a2,a3,a4,n,m,e⟩,t,r,j,d⟩:=h;refine aL vO ?_;refine v1 (ae a1) ?_;refine(Bm a3).mono ?_;rintro _ u (⟨p,rfl,rfl⟩| ⟨p,rfl,a,l,z,B⟩)
 ·refine vs ?_;exact .inl ⟨O,rfl,rfl⟩
 ·refine vs ?_;obtain⟨s1,W,I,V,G⟩:=n;obtain⟨P,L,A,C⟩:=m;obtain⟨⟨K,T,F⟩,g,N⟩:=e;have l1:=aB a1;have l2:=aB a2;have Q:=a4.lt;refine .inr ⟨O,rfl,fun x=>S x\/x=a,⟨⟨y,f,a,o,z.own a1 O,z.own a2 O,l,a4.ext z O,Z,O,O,g,O⟩,t,r,j,fun x q=>q.elim (fun h=>alp (d x h) z.size) (fun h=>by rw[h];exact l.lt2)⟩,
   z.mono Z,?_⟩
  grind
theorem Dg{S:Nat->Prop}{st:Int}{cs:List Ce}{len:Nat}{rt:Nat->Nat}{aY:Int->Option Int}(h:bB H c S st cs len rt aY)(g i k s:Int)
  (hm:da aY g<=1000000/\0<=da aY g):
  aD 368 [ptr c,i64 g,i64 i,ms k s] H fun v J=>ak (
   let ok:=(0<g/\g<len/\rt g.toNat=g.toNat)/\(0<=i/\i<cs.length)/\¬cu cs i
   (¬ok/\v= .bool false/\bB J c S st cs len rt aY/\aj S H J)\/
   (ok/\v= .bool true/\bB J c S st (cs.set i.toNat (g,k,s)) len rt (fun j=>if j=g then some (da aY g+1)else aY j)/\aj S H J)):=by
 have U:aj (fun _=>False) H (H.new 148 [i64 k,u64 s]):=bm;have a:=h.ext U (fun _ _ h=>h);refine aL xF ?_;simp(disch:=(first|exact aV|fail)) only[go_sem, ↓reduceIte,Zv,ms];refine(si a g).mono ?_;rintro _ _ ⟨rfl,rfl⟩;refine vs ?_;have m:∀v,v=Value.bool false->¬ ((0<g/\g<len/\rt g.toNat=g.toNat)/\(0<=i/\i<cs.length)/\¬cu cs i)->
   ((¬ ((0<g/\g<len/\rt g.toNat=g.toNat)/\(0<=i/\i<cs.length)/\¬cu cs i)/\v= .bool false/\bB (H.new 148 [i64 k,u64 s]) c S st cs len rt aY/\aj S H (H.new 148 [i64 k,u64 s]))\/
   (((0<g/\g<len/\rt g.toNat=g.toNat)/\(0<=i/\i<cs.length)/\¬cu cs i)/\v= .bool true/\bB (H.new 148 [i64 k,u64 s]) c S st (cs.set i.toNat (g,k,s)) len rt (fun j=>if j=g then some (da aY g+1)else aY j)/\aj S H (H.new 148 [i64 k,u64 s]))):=
  fun v I W=>.inl ⟨W,I,a,bm⟩
 refine ai.dec (fun e=>?_) (fun e=>?_)<;>refine vs ?_
 ·refine(nV a i).mono ?_;rintro _ _ ⟨rfl,rfl⟩;refine vs ?_;refine ai.dec (fun hi=>?_) (fun hi=>?_)<;>refine vs ?_
  ·refine(fC a i).mono ?_;rintro _ _ ⟨rfl,rfl⟩;refine vs ?_;refine ai.dec (fun o=>?_) (fun o=>?_)<;>refine vs ?_
   ·exact m _ rfl Z
   ·obtain⟨⟨z,D,M,G,a1,a2,a3,a4,B,P,L⟩,T,F,h4,N⟩:=a;refine v1 (ae a1) ?_;refine⟨O,?_⟩;refine v1 a2 ?_;refine⟨by rw[dl];omega,?_⟩;rw[show aQ (bO cs) (i.toNat*3) (aK (Value.agg #[Value.int .i64 g,i64 k,u64 s]))=bO (cs.set i.toNat (g,k,s))from tx cs i.toNat (g,k,s) O];obtain⟨s1,s2,s3,s4,s5⟩:=B;obtain⟨A,X,d3,C⟩:=P;obtain⟨⟨r,d,n⟩,p,q⟩:=L;have w:aj (fun x=>x=z) (H.new 148 [i64 k,u64 s]) ((H.new 148 [i64 k,u64 s]).wr z (bO (cs.set i.toNat (g,k,s)))):=(aj.refl (fun x=>x=z) _).wr (fun _=>rfl) _;have y:=w.own a1 A;have f:((H.new 148 [i64 k,u64 s]).wr z (bO (cs.set i.toNat (g,k,s)))).own z=_:=ah a2;have u:=a3.ext w (Ne.symm r) (Ne.symm d);have t:=a4.ext w (Ne.symm n);have K:gO false (Value.int .i64 0) ((aY g).map i64)=i64 (da aY g):=by unfold da;cases aY g<;>rfl
    refine v3 (ae y) t.look K ?_;rw[wrap64 O O];refine t.TH fun E m2 l=>?_;refine vs ?_;refine .inr ⟨⟨e,hi,o⟩,rfl,⟨⟨z,D,M,G,by rw[alb];exact l.own y C,l.own f n,u.ext l p q,?_,Z,O,⟨r,d,n⟩,p,q⟩,T,F,Z,fun x V=>alp (N x V) (alw w.size l.size)⟩,?_⟩
    ·have:(fun j=>Option.map i64 (if j=g then some (da aY g+1)else aY j))=GY (fun j=>(aY j).map i64) g (i64 (da aY g+1)):=by
      funext j;unfold GY;grind
     grind
    ·exact(((aj.refl S H).new 148 [i64 k,u64 s]).trans (w.mono Z)).trans (l.mono Z)
  ·exact m _ rfl O
 ·exact m _ rfl (fun Q=>e Q.1)
theorem Na{n:Int}(x:0<=m)(h:m<=4611686018427387904):0<=fP m n/\fP m n<=4611686018427387904:=by
 grind [fP]
def pu(a b:Int)(x y:Ce):Prop:=Jv x.2.1 x.2.2 y.2.1 y.2.2<0\/Jv x.2.1 x.2.2 y.2.1 y.2.2=0/\a<b
instance(a b:Int)(x y:Ce):Decidable (pu a b x y):=inferInstanceAs (Decidable (_\/_/\_))
theorem zG{S:Nat->Prop}{st:Int}{cs:List Ce}{len:Nat}{rt:Nat->Nat}{aY:Int->Option Int}(h:bB H c S st cs len rt aY)(a b:Int):
  aD 391 [ptr c,i64 a,i64 b] H fun v J=>ak (
   (¬ (cu cs a/\cu cs b)/\v= .bool false/\H=J)\/
   (cu cs a/\cu cs b)/\∃x y,cs[a.toNat]? =some x/\cs[b.toNat]? =some y/\v= .bool (decide (pu a b x y))/\bB J c S (fP st 1) cs len rt aY/\aj S H J):=by
 have q:=h;obtain⟨⟨j,B,ns,u,a1,a2,a3,a4,Q,U,W⟩,C,K,E,X⟩:=h;refine aL tU ?_;refine vs ?_;refine(fC q a).mono ?_;rintro _ _ ⟨rfl,rfl⟩;refine vs ?_;refine ai.dec (fun l=>?_) (fun l=>?_)<;>refine vs ?_
 ·refine(fC q b).mono ?_;rintro _ _ ⟨rfl,rfl⟩;refine vs ?_;refine ai.dec (fun m=>?_) (fun m=>?_)<;>refine vs ?_
  ·obtain⟨SM,x,z,j4⟩:=id l;obtain⟨N9,y,t,hy0⟩:=id m;refine(zF a1 ⟨C,K⟩ 1 O).mono ?_;rintro v H1 hH;obtain⟨rfl,r,L,I,V⟩:v= .tuple [].toArray/\H1.own c=some [i64 (fP st 1),.slice (some ⟨j,0,none⟩) cs.length cs.length,ptr B,.map (some u)]/\H1.own j=some (bO cs)/\bB H1 c S (fP st 1) cs len rt aY/\aj S H H1:=by
    have F:=Na (n:=1) C K;rcases hH.out with ⟨rfl,rfl⟩| ⟨rfl,rfl,hs⟩
    ·obtain⟨s1,s2,s3,s4,s5⟩:=Q;obtain⟨A,G,D,M⟩:=U;have w:aj (fun x=>x=c) H (H.wr c [i64 (fP st 1),.slice (some ⟨j,0,none⟩) cs.length cs.length,ptr B,.map (some u)]):=(aj.refl (fun x=>x=c) _).wr (fun _=>rfl) _;exact⟨rfl,ah a1,w.own a2 (Ne.symm A),⟨⟨j,B,ns,u,ah a1,w.own a2 (Ne.symm A),a3.ext w (Ne.symm G) (Ne.symm D),a4.ext w (Ne.symm M),Z,O,W⟩,F.1,F.2,E,fun x z=>alp (X x z) w.size⟩,w.mono Z⟩
    ·rw[hs];exact⟨rfl,a1,a2,q,aj.refl _ _⟩
   have al:=(ak8.1 z).1;have bl:=(ak8.1 t).1;obtain⟨x1,x2,x3,P⟩:=pt z;obtain⟨y1,y2,y3,N⟩:=pt t;have fl:=dl cs;refine v1 (ae r) ?_;refine⟨O,?_⟩;refine v3 (ae r) (ae L) P ?_;refine⟨O,?_⟩;refine v2 (ae r) P ?_;refine⟨O,?_⟩;refine v3 (ae r) (ae L) N ?_;refine⟨O,?_⟩;refine v2 P N ?_;refine(lH x.2.1 x.2.2 y.2.1 y.2.2 _).mono ?_;rintro _ H2 ⟨rfl,T⟩;refine vs ?_;have d:=I.ext T (fun _ _ h=>h);have p:=V.trans (T.mono fun _ _ h=>h.elim);refine ai.dec (fun f=>?_) (fun f=>?_)<;>refine vs ?_
   ·exact .inr ⟨⟨l,m⟩,x,y,z,t,ald Value.bool (ale (show pu a b x y from .inl f)).symm,d,p⟩
   ·refine ai.dec (fun heq=>?_) (fun heq=>?_)<;>refine vs ?_
    ·exact .inr ⟨⟨l,m⟩,x,y,z,t,ald Value.bool (by rw[decide_eq_decide];exact⟨fun g=>.inr ⟨heq,g⟩,fun g=>g.elim O (·.2)⟩),d,p⟩
    ·exact .inr ⟨⟨l,m⟩,x,y,z,t,ald Value.bool (alc (show¬pu a b x y from fun g=>g.elim f (fun e=>heq e.1))).symm,d,p⟩
  ·exact .inl ⟨fun o=>m o.2,rfl,rfl⟩
 ·exact .inl ⟨fun o=>l o.1,rfl,rfl⟩
theorem bB.names{m:Hp}{S:Nat->Prop}{st:Int}{cs:List Ce}{len:Nat}{rt y:Nat->Nat}{aY:Int->Option Int}{w l a z:Nat}(h:bB H c S st cs len rt aY)
  (a1:H.own c=some [i64 st,.slice (some ⟨w,0,none⟩) cs.length cs.length,ptr l,.map (some z)])(a2:H.own w=some (bO cs))(a4:ke H z (fun i=>(aY i).map i64))
  (t:S c/\S w/\S l/\S a/\S z)(r:c≠w/\c≠l/\c≠a/\c≠z)(j:w≠l/\w≠a/\w≠z)(d:l≠z/\a≠z)
  (n:ei m l a len y 65536)(e:aj (fun x=>x=l\/x=a) H m):
  bB m c S st cs len y aY/\aj S H m/\m.own c=some [i64 st,.slice (some ⟨w,0,none⟩) cs.length cs.length,ptr l,.map (some z)]/\ke m z (fun i=>(aY i).map i64):=by
 obtain⟨s1,q,o,f,u⟩:=t;have v:=e.own a1 O;have g:=a4.ext e O;exact⟨⟨⟨w,l,a,z,v,e.own a2 O,n,g,Z,r,j,d⟩,h.st0,h.st1,h.yY,fun x p=>alp (h.slt x p) e.size⟩,e.mono Z,v,g⟩
theorem qj{S:Nat->Prop}{st:Int}{cs:List Ce}{len:Nat}{rt:Nat->Nat}{aY:Int->Option Int}(h:bB H c S st cs len rt aY)(P:∀x∈cs,x.1<len)(i:Int):
  aD 354 [ptr c,i64 i] H fun v J=>ak (
   (¬cu cs i/\v= .tuple [i64 0,.bool false].toArray/\H=J)\/
   (cu cs i/\∃x,cs[i.toNat]? =some x/\v= .tuple [i64 (rt x.1.toNat),.bool true].toArray/\bB J c S st cs len rt aY/\aj S H J)):=by
 have w:=h;obtain⟨⟨p,K,T,C,a1,a2,a3,a4,l,a,n,m⟩,q,o,f,u⟩:=h;refine aL vJ ?_;refine vs ?_;refine(fC w i).mono ?_;rintro _ _ ⟨rfl,rfl⟩;refine vs ?_;refine ai.dec (fun hi=>?_) (fun hi=>?_)<;>refine vs ?_
 ·obtain⟨B,x,z,L⟩:=id hi;have A:=(ak8.1 z).1;obtain⟨j,F,N,Q⟩:=pt z;refine v1 (ae a1) ?_;refine⟨O,?_⟩;refine v4 (ae a2) j Nat.add_zero ak7 ?_;refine(Bo a3 x.1).mono ?_;rintro _ d (⟨t,_⟩| ⟨_,rfl,r,y⟩)
  ·exact absurd Z t
  refine vs ?_;obtain⟨e,g,_⟩:=w.names a1 a2 a4 l a n m r y;exact .inr ⟨hi,x,z,rfl,e,g⟩
 ·exact .inl ⟨hi,rfl,rfl⟩
theorem zH{S:Nat->Prop}{st:Int}{cs:List Ce}{len:Nat}{rt:Nat->Nat}{aY:Int->Option Int}(h:bB H c S st cs len rt aY)(i:Int):
  aD 351 [ptr c,i64 i] H fun v J=>ak (bB J c S st cs len rt aY/\af H J/\(
   (¬cu cs i/\v= .tuple [ms 0 0,.bool false].toArray)\/
   (cu cs i/\∃x,cs[i.toNat]? =some x/\v= .tuple [ms x.2.1 x.2.2,.bool true].toArray))):=by
 have w:af H (H.new 148 ml):=bm;have a:=h.ext w (fun _ _ h=>h);refine aL tP ?_;refine vs ?_;refine(fC a i).mono ?_;rintro _ _ ⟨rfl,rfl⟩;refine vs ?_;refine ai.dec (fun hi=>?_) (fun hi=>?_)<;>refine vs ?_
 ·obtain⟨o,x,l,f⟩:=id hi;have u:=(ak8.1 l).1;obtain⟨A,C,K,n⟩:=pt l;have r:=dl cs;obtain⟨⟨t,P,L,B,a1,a2,a3,a4,m,e,g,y⟩,j,d,p,q⟩:=id a;refine v1 (ae a1) ?_;refine⟨O,?_⟩;refine v1 (ae a2) ?_;refine⟨O,?_⟩;simp(disch:=(first|exact aV|fail)) only[go_sem, ↓reduceIte,Zv,n,ci (am H 148 ml)];have z:af H ((H.new 148 ml).wr H.size [i64 x.2.1,u64 x.2.2]):=w.wr O _;exact⟨h.ext z (fun _ _ h=>h),z,.inr ⟨hi,x,l,rfl⟩⟩
 ·simp(disch:=(first|exact aV|fail)) only[go_sem, ↓reduceIte,Zv,ci (am H 148 ml)];have z:af H ((H.new 148 ml).wr H.size ml):=w.wr O _;exact⟨h.ext z (fun _ _ h=>h),z,.inl ⟨hi,rfl⟩⟩
def dB(m:Int->Option Int)(i n:Int):Int->Option Int:=fun j=>if j=i then some n else m j
def lI(m:Int->Option Int)(i:Int):Int->Option Int:=fun j=>if j=i then none else m j
theorem Dh(m:Int->Option Int)(i n:Int):GY (fun j=>(m j).map i64) i (i64 n)=fun j=>(dB m i n j).map i64:=by
 funext j;unfold GY dB;grind
theorem Di(m:Int->Option Int)(i:Int):KN (fun j=>(m j).map i64) i=fun j=>(lI m i j).map i64:=by
 funext j;unfold KN lI;grind
theorem mD(m:Int->Option Int)(g:Int):gO false (Value.int .i64 0) ((m g).map i64)=i64 (da m g):=by
 unfold da;cases m g<;>rfl
theorem Bu{S:Nat->Prop}{st:Int}{cs:List Ce}{len:Nat}{rt:Nat->Nat}{aY:Int->Option Int}(h:bB H c S st cs len rt aY)(a b:Int)(hm:∀j,0<=da aY j/\da aY j<=1000000):
  aD 371 [ptr c,i64 a,i64 b] H fun v J=>ak (
   let ok:=(0<a/\a<len/\rt a.toNat=a.toNat)/\(0<b/\b<len/\rt b.toNat=b.toNat)/\a≠b
   (¬ok/\v= .bool false/\H=J)\/
   (ok/\v= .bool true/\bB J c S st cs len (fun i=>if rt i=b.toNat then a.toNat else rt i) (if 0<da aY b then lI (dB aY a (da aY a+da aY b)) b else aY)/\aj S H J)):=by
 have K:=h;obtain⟨⟨C,W,I,f,a1,a2,a3,a4,r,w,e,l⟩,T,F,N,Q⟩:=h;have G:=hm a;have D:=hm b;refine aL vP ?_;refine v1 (ae a1) ?_;refine(Bn a3 a b).mono ?_;rintro _ B (⟨m,rfl,rfl⟩| ⟨m,rfl,u,y⟩)
 ·refine vs ?_;exact .inl ⟨m,rfl,rfl⟩
 ·obtain⟨P,d,n,g⟩:=K.names a1 a2 a4 r w e l u y;refine v3 (ae n) g.look mD ?_;refine ai.dec (fun t=>?_) (fun t=>?_)<;>refine vs ?_
  ·refine v3 (ae n) g.look mD ?_;rw[wrap64 O O];refine g.TH fun V q p=>?_;have L:=p.own n w.2.2.2;rw[Dh]at q;refine v1 (ae L) ?_;refine q.del fun H3 o A=>?_;rw[Di]at o;refine vs ?_;have z:aj (fun x=>x=f) B H3:=p.trans A;refine .inr ⟨m,rfl,?_,d.trans (z.mono Z)⟩;rw[if_pos t];exact⟨⟨C,W,I,f,z.own n w.2.2.2,z.own (y.own a2 O) e.2.2,u.ext z l.1 l.2,o,r,w,e,l⟩,T,F,N,fun x U=>alp (Q x U) (alw y.size z.size)⟩
  ·refine .inr ⟨m,rfl,?_,d⟩;rw[if_neg t];exact P
theorem Bv{S:Nat->Prop}{st:Int}{cs:List Ce}{len:Nat}{rt:Nat->Nat}{aY:Int->Option Int}(h:bB H c S st cs len rt aY)(N:∀x∈cs,x.1<len)(i:Int)(hm:∀j,0<=da aY j/\da aY j<=1000000):
  aD 364 [ptr c,i64 i] H fun v J=>ak (
   (¬cu cs i/\v= .bool false/\H=J)\/
   (cu cs i/\v= .bool true/\∃x,cs[i.toNat]? =some x/\
    bB J c S st (cs.set i.toNat (0,0,0)) len rt (if da aY (rt x.1.toNat) - 1=0 then lI (dB aY (rt x.1.toNat) (da aY (rt x.1.toNat) - 1)) (rt x.1.toNat)else dB aY (rt x.1.toNat) (da aY (rt x.1.toNat) - 1))/\aj S H J)):=by
 refine aL vL ?_;refine vs ?_;refine(qj h N i).mono ?_;rintro _ g (⟨hi,rfl,rfl⟩| ⟨hi,x,z,rfl,F,o⟩)
 ·refine vs ?_;exact .inl ⟨hi,rfl,rfl⟩
 ·have D:=(ak8.1 z).1;have V:=hi.1;have W:=dl cs;obtain⟨⟨a,K,T,C,a1,a2,a3,a4,d,m,w,l⟩,B,P,I,L⟩:=F;have G:=hm (rt x.1.toNat);refine v1 (ae a1) ?_;refine⟨O,?_⟩;refine v1 a2 ?_;refine⟨O,?_⟩;rw[show aQ (bO cs) (i.toNat*3) (aK (Value.agg #[Value.int .i64 0,Value.int .i64 0,Value.int .u64 0]))=bO (cs.set i.toNat (0,0,0))from tx cs i.toNat (0,0,0) O];have y:aj (fun x=>x=a) g (g.wr a (bO (cs.set i.toNat (0,0,0)))):=(aj.refl (fun x=>x=a) _).wr (fun _=>rfl) _;have f:=y.own a1 m.1;have u:(g.wr a (bO (cs.set i.toNat (0,0,0)))).own a=_:=ah a2;have c3:=a3.ext y (Ne.symm w.1) (Ne.symm w.2.1);have c4:=a4.ext y (Ne.symm w.2.2);refine v3 (ae f) c4.look mD ?_;rw[wrap64 O O];refine c4.TH fun H2 r n=>?_;rw[Dh]at r;have p:=n.own f m.2.2.2;have Q:da (dB aY (rt x.1.toNat) (da aY (rt x.1.toNat) - 1)) (rt x.1.toNat)=da aY (rt x.1.toNat) - 1:=by simp[da,dB]
  refine v4 (ae p) r.look mD Q ?_;have t:aj S g H2:=(y.mono Z).trans (n.mono Z);refine ai.dec (fun q=>?_) (fun q=>?_)<;>refine v1 (ae p) ?_
  ·refine r.del fun U A e=>?_;rw[Di]at A;refine vs ?_;refine .inr ⟨hi,rfl,x,z,?_,(o.trans t).trans (e.mono fun x _ z=>z▸d.2.2.2.2)⟩;rw[if_pos q];exact⟨⟨a,K,T,C,by rw[alb];exact e.own p m.2.2.2,(e.own (n.own u w.2.2) w.2.2),(c3.ext n l.1 l.2).ext e l.1 l.2,A,d,m,w,l⟩,B,P,Z,fun x z=>alp (L x z) (alw t.size e.size)⟩
  ·refine .inr ⟨hi,rfl,x,z,?_,o.trans t⟩;rw[if_neg q];exact⟨⟨a,K,T,C,Z,n.own u w.2.2,c3.ext n l.1 l.2,r,d,m,w,l⟩,B,P,Z,fun x z=>alp (L x z) t.size⟩
theorem K8(cs:List Ce)(i:Nat)(x:Ce)(k s:Int)(h:cs[i]? =some x):aQ (bO cs) (i*3+1) [i64 k,u64 s]=bO (cs.set i (x.1,k,s)):=by
 simp only[aQ];induction cs generalizing i with
 |nil=>rfl
 |cons a r w=>
  have e:bO (a::r)=i64 a.1::i64 a.2.1::u64 a.2.2::bO r:=rfl;cases i with
  |zero=>
   simp at h;subst h;rfl
  |succ i=>
   have z:bO ((a::r).set (i+1) (x.1,k,s))=i64 a.1::i64 a.2.1::u64 a.2.2::bO (r.set i (x.1,k,s)):=rfl;grind
theorem zI{S:Nat->Prop}{st:Int}{cs:List Ce}{len:Nat}{rt:Nat->Nat}{aY:Int->Option Int}(h:bB H c S st cs len rt aY)(i k s:Int):
  aD 361 [ptr c,i64 i,ms k s] H fun v J=>ak (
   (¬ (cu cs i/\∀x,cs[i.toNat]? =some x->¬dY x.2.1 x.2.2 k s)/\v= .bool false/\bB J c S st cs len rt aY/\af H J)\/
   (cu cs i/\v= .bool true/\∃x,cs[i.toNat]? =some x/\¬dY x.2.1 x.2.2 k s/\bB J c S st (cs.set i.toNat (x.1,k,s)) len rt aY/\aj S H J)):=by
 have n:af H (H.new 148 [i64 k,u64 s]):=bm;have e:=h.ext n (fun _ _ h=>h);refine aL tR ?_;simp(disch:=(first|exact aV|fail)) only[go_sem, ↓reduceIte,Zv,ms];refine(fC e i).mono ?_;rintro _ _ ⟨rfl,rfl⟩;refine vs ?_;refine ai.dec (fun hi=>?_) (fun hi=>?_)<;>refine vs ?_
 ·obtain⟨N,x,w,Q⟩:=id hi;have U:=(ak8.1 w).1;obtain⟨W,I,V,K⟩:=pt w;have T:=dl cs;obtain⟨⟨m,A,C,L,a1,a2,a3,a4,q,j,a,o⟩,f,u,F,B⟩:=id e;refine v1 (ae a1) ?_;refine⟨O,?_⟩;refine v1 (ae a2) ?_;refine⟨O,?_⟩;refine v1 K ?_;refine(Bq x.2.1 x.2.2 k s _).mono ?_;rintro _ r ⟨rfl,z⟩;have g:=z.own a1 (fun h=>h);have d:=z.own a2 (fun h=>h);have p:=z.own (am H 148 [i64 k,u64 s]) (fun h=>h);refine vs ?_;refine ai.dec (fun t=>?_) (fun t=>?_)<;>refine vs ?_
  ·exact .inl ⟨fun y=>y.2 x w t,rfl,e.ext z (fun _ _ h=>h),n.trans z⟩
  ·refine v2 (ae g) (ae p) ?_;refine⟨O,?_⟩;refine v3 (ae g) (ae p) d ?_;refine⟨O,?_⟩;refine vs ?_;have P:((bO cs).set (i.toNat*3+1) (i64 k)).set (i.toNat*3+1+1) (u64 s)=bO (cs.set i.toNat (x.1,k,s)):=K8 cs i.toNat x k s w;rw[P];have l:aj (fun x=>x=m) r (r.wr m (bO (cs.set i.toNat (x.1,k,s)))):=(aj.refl (fun x=>x=m) _).wr (fun _=>rfl) _;refine .inr ⟨hi,rfl,x,w,t,⟨⟨m,A,C,L,by rw[alb];exact l.own g j.1,ah d,(a3.ext z (fun h=>h) (fun h=>h)).ext l (Ne.symm a.1) (Ne.symm a.2.1),(a4.ext z (fun h=>h)).ext l (Ne.symm a.2.2),q,j,a,o⟩,f,u,Z,fun x w=>alp (B x w) (alw z.size l.size)⟩,
    ((n.trans z).mono fun _ _ h=>h.elim).trans (l.mono Z)⟩
 ·exact .inl ⟨fun y=>hi y.1,rfl,e,n⟩
structure Nw where
 hs:List Bool
 cs:List Ce
def Nw.has(w:Nw)(h:Int):Prop:=1<=h/\w.hs[h.toNat]? =some true
instance(w:Nw)(h:Int):Decidable (w.has h):=inferInstanceAs (Decidable (_/\_))
def Nw.len(w:Nw)(h:Int):Int:=if 0<h then(w.cs.countP fun c=>decide (c.1=h):Nat)else 0
def Nw.put(w:Nw)(i:Int)(c:Ce):Nw:=⟨w.hs,w.cs.set i.toNat c⟩
def Nw.make(w:Nw):Nw:=⟨w.hs++[true],w.cs⟩
def Nw.join(w:Nw)(a b:Int):Nw:=⟨w.hs.set b.toNat false,w.cs.map fun c=>if c.1=b then(a,c.2)else c⟩
def Nw.ahead(w:Nw)(a b:Int):Bool:=
 decide (cu w.cs a) && decide (cu w.cs b) && (match w.cs[a.toNat]?,w.cs[b.toNat]? with|some x,some y=>decide (pu a b x y)|_,_=>false)
theorem Nw.kl(w:Nw)(h:Int):0<=w.len h/\w.len h<=w.cs.length:=by
 unfold Nw.len;grind
structure lJ(w:Nw)(cs:List Ce)(len:Nat)(rt:Nat->Nat)(aY:Int->Option Int):Prop where
 hl:w.hs.length=len
 h0:w.hs[0]? =some false
 hh:∀h,1<=h->h<len->w.hs[h]? =some (decide (rt h=h))
 cl:w.cs=cs.map fun c=>(if 0<c.1 then((rt c.1.toNat:Nat):Int)else 0,c.2)
 lt:∀c∈cs,0<=c.1/\c.1<len
 mn:∀h:Int,da aY h=w.len h
 low:∀i,i<len->rt i<len
 K5:∀i,i<len->rt (rt i)=rt i
 nz:∀i,i<len->rt i=0->i=0
def bj(H:Hp)(c:Nat)(S:Nat->Prop)(st:Int)(w:Nw):Prop:=∃cs len rt aY,bB H c S st cs len rt aY/\lJ w cs len rt aY
theorem bj.ext{S T:Nat->Prop}{st:Int}{w:Nw}(h:bj H c S st w)(e:aj T H J)(a:∀x,S x->¬T x):bj J c S st w:=by
 obtain⟨cs,len,rt,aY,z,l⟩:=h;exact⟨cs,len,rt,aY,z.ext e a,l⟩
theorem bj.fresh{S:Nat->Prop}{st:Int}{w:Nw}(h:bj H c S st w)(e:af H J):bj J c S st w:=h.ext e fun _ _ h=>h
theorem bj.slt{S:Nat->Prop}{st:Int}{w:Nw}(h:bj H c S st w):∀x,S x->x<H.size:=by
 obtain⟨cs,len,rt,aY,z,l⟩:=h;exact z.slt
theorem bj.yY{S:Nat->Prop}{st:Int}{w:Nw}(h:bj H c S st w):w.cs.length<=65536:=by
 obtain⟨cs,len,rt,aY,x,z⟩:=h;rw[z.cl,alA];exact x.yY
theorem bj.st{S:Nat->Prop}{st:Int}{w:Nw}(h:bj H c S st w):0<=st/\st<=4611686018427387904:=by
 obtain⟨cs,len,rt,aY,x,z⟩:=h;exact⟨x.st0,x.st1⟩
theorem lJ.Ki{w:Nw}{cs:List Ce}{len:Nat}{rt:Nat->Nat}{aY:Int->Option Int}(h:lJ w cs len rt aY)(i:Int):cu w.cs i↔cu cs i:=by
 unfold cu;rw[h.cl];simp only[alz];constructor
 ·grind
 ·rintro⟨z,x,a,l⟩;refine⟨z,_,by rw[a];rfl,?_⟩;have n:=h.lt x Z;simp only[if_pos l];have m:rt x.1.toNat≠0:=fun e=>by have:=h.nz _ O e;omega
  omega
theorem lJ.get{w:Nw}{cs:List Ce}{len:Nat}{rt:Nat->Nat}{aY:Int->Option Int}(h:lJ w cs len rt aY){x:Ce}(z:cs[i]? =some x):w.cs[i]? =some (if 0<x.1 then((rt x.1.toNat:Nat):Int)else 0,x.2):=by
 rw[h.cl,alz,z];rfl
theorem lJ.K9{w:Nw}{cs:List Ce}{len:Nat}{rt:Nat->Nat}{aY:Int->Option Int}(h:lJ w cs len rt aY)(g:Int):w.has g↔(0<g/\g<len/\rt g.toNat=g.toNat):=by
 unfold Nw.has;constructor
 ·rintro⟨l,x⟩;have z:=(ak8.1 x).1;rw[h.hl]at z;rw[h.hh g.toNat O z]at x;grind
 ·rintro⟨l,x,a⟩;exact⟨O,by rw[h.hh g.toNat O O,ale a]⟩
theorem km(cap:Int)(H:Hp):aD 147 [i64 cap] H fun v J=>ak (
  af H J/\((¬ (0<=cap/\cap<=65536)/\v= .tuple [.pointer none,i64 31].toArray)\/
   (0<=cap/\cap<=65536)/\∃c S,v= .tuple [ptr c,i64 0].toArray/\bj J c S 0 ⟨[false],List.replicate cap.toNat (0,0,0)⟩/\(∀x,S x->H.size<=x))):=by
 refine(De cap H).mono ?_;rintro _ l ⟨f,⟨h,rfl⟩| ⟨h,c,S,rfl,z,w⟩⟩
 ·exact⟨f,.inl ⟨h,rfl⟩⟩
 ·refine⟨f,.inr ⟨h,c,S,rfl,⟨_,_,_,_,z,⟨rfl,rfl,O,?_,fun c a=>?_,fun h=>?_,fun i hi=>hi,fun i hi=>rfl,fun i hi h=>h⟩⟩,w⟩⟩
  ·simp
  ·grind
  ·unfold Nw.len da;split
   ·simp only[Option.getD_none,List.countP_replicate];grind
   ·rfl
theorem gQ{S:Nat->Prop}{st:Int}{w:Nw}(h:bj H c S st w)(i:Int):
  aD 353 [ptr c,i64 i] H fun v J=>ak (v= .bool (decide (w.has i))/\H=J):=by
 obtain⟨cs,len,rt,aY,x,z⟩:=h;refine(si x i).mono ?_;rintro _ _ ⟨rfl,rfl⟩;exact⟨ald Value.bool (by rw[decide_eq_decide,z.K9]),rfl⟩
theorem gR{S:Nat->Prop}{st:Int}{w:Nw}(h:bj H c S st w)(i:Int):
  aD 356 [ptr c,i64 i] H fun v J=>ak (v=i64 (w.len i)/\H=J):=by
 obtain⟨cs,len,rt,aY,x,z⟩:=h;refine(Df x i).mono ?_;rintro _ _ ⟨rfl,rfl⟩;exact⟨by rw[z.mn],rfl⟩
theorem ju{S:Nat->Prop}{st:Int}{w:Nw}(h:bj H c S st w):
  aD 370 [ptr c] H fun v J=>ak (
   (w.hs.length=65537/\v=i64 0/\H=J)\/
   (w.hs.length≠65537/\v=i64 w.hs.length/\∃a,bj J c a st w.make/\aj S H J/\∀x,a x->S x\/H.size<=x)):=by
 obtain⟨cs,len,rt,aY,r,z⟩:=h;refine(Br r).mono ?_;have n:=z.hl;rintro _ q (⟨e,rfl,rfl⟩| ⟨e,rfl,a,g,y,t⟩)
 ·exact .inl Z
 ·refine .inr ⟨O,by rw[n],a,⟨_,_,_,_,g,?_⟩,y,t⟩;have d:0<w.hs.length:=(ak8.1 z.h0).1;refine⟨by simp[Nw.make,n],?_,fun h a1 a2=>?_,?_,fun c j=>by have:=z.lt c j;omega,z.mn,fun i hi=>?_,fun i hi=>?_,fun i hi m=>?_⟩
  ·show(w.hs++[true])[0]? =some false;rw[List.getElem?_append_left d];exact z.h0
  ·show(w.hs++[true])[h]? =_;by_cases l:h=len
   ·grind
   ·rw[List.getElem?_append_left O,z.hh h a1 O,if_neg l]
  ·show w.cs=_;rw[z.cl];apply al7;intro x p;have:=z.lt x p;grind
  ·by_cases l:i=len
   ·simp[l]
   ·have:=z.low i O;grind
  ·by_cases l:i=len
   ·simp[l]
   ·have:=z.low i O;simp only[if_neg l];rw[if_neg O];exact z.K5 i O
  ·by_cases l:i=len
   ·grind
   ·simp only[if_neg l]at m;exact z.nz i O m
theorem Nw.gm{w:Nw}{i:Int}{x y:Ce}(z:w.cs[i.toNat]? =some x)(h:Int):(w.put i y).len h=w.len h - (if 0<h/\x.1=h then 1 else 0)+(if 0<h/\y.1=h then 1 else 0):=by
 unfold Nw.len Nw.put;grind
theorem kq{S:Nat->Prop}{st:Int}{w:Nw}(h:bj H c S st w)(g i k s:Int):
  aD 368 [ptr c,i64 g,i64 i,ms k s] H fun v J=>ak (
   (¬ (w.has g/\(0<=i/\i<w.cs.length)/\¬cu w.cs i)/\v= .bool false/\bj J c S st w/\aj S H J)\/
   ((w.has g/\(0<=i/\i<w.cs.length)/\¬cu w.cs i)/\v= .bool true/\bj J c S st (w.put i (g,k,s))/\aj S H J)):=by
 obtain⟨cs,len,rt,aY,t,z⟩:=h;have r:w.cs.length=cs.length:=by rw[z.cl,alA]
 have B:=w.kl g;have u:=t.yY;refine(Dg t g i k s (by rw[z.mn];omega)).mono ?_;rintro _ f (⟨e,rfl,l,a⟩| ⟨e,rfl,l,a⟩)
 ·exact .inl ⟨by rw[z.K9,z.Ki,r];exact e,rfl,⟨_,_,_,_,l,z⟩,a⟩
 ·refine .inr ⟨by rw[z.K9,z.Ki,r];exact e,rfl,⟨_,_,_,_,l,?_⟩,a⟩;obtain⟨x,q⟩:∃x,cs[i.toNat]? =some x:=⟨_,ak9 O⟩;have n:¬0<x.1:=fun n=>e.2.2 ⟨e.2.1.1,x,q,n⟩;have p:=z.get q;rw[if_neg n]at p;refine⟨z.hl,z.h0,z.hh,?_,fun y m=>?_,fun j=>?_,z.low,z.K5,z.nz⟩
  ·show w.cs.set i.toNat _=_;rw[z.cl,alD];grind
  ·rcases al8 m with m|rfl
   ·exact z.lt y m
   omega
  ·rw[Nw.gm p];by_cases d:j=g
   ·subst d;have o:=e.1.1;rw[if_neg O,if_pos ⟨o,rfl⟩,<-z.mn];simp[da]
   ·rw[if_neg O,if_neg O,<-z.mn];simp[da,d]
theorem cW{S:Nat->Prop}{st:Int}{w:Nw}(h:bj H c S st w)(i:Int):
  aD 354 [ptr c,i64 i] H fun v J=>ak (
   (¬cu w.cs i/\v= .tuple [i64 0,.bool false].toArray/\H=J)\/
   (cu w.cs i/\∃x,w.cs[i.toNat]? =some x/\v= .tuple [i64 x.1,.bool true].toArray/\bj J c S st w/\aj S H J)):=by
 obtain⟨cs,len,rt,aY,y,z⟩:=h;refine(qj y (fun x l=>(z.lt x l).2) i).mono ?_;rintro _ r (⟨e,rfl,rfl⟩| ⟨e,x,l,rfl,m,g⟩)
 ·exact .inl ⟨by rw[z.Ki];exact e,rfl,rfl⟩
 ·obtain⟨j,d,a,t⟩:=id e;rw[l]at a;injection a with a;subst a;have n:=z.get l;rw[if_pos t]at n;exact .inr ⟨by rw[z.Ki];exact e,_,n,rfl,⟨_,_,_,_,m,z⟩,g⟩
theorem iL{S:Nat->Prop}{st:Int}{w:Nw}(h:bj H c S st w)(i:Int):
  aD 351 [ptr c,i64 i] H fun v J=>ak (bj J c S st w/\af H J/\(
   (¬cu w.cs i/\v= .tuple [ms 0 0,.bool false].toArray)\/
   (cu w.cs i/\∃x,w.cs[i.toNat]? =some x/\v= .tuple [ms x.2.1 x.2.2,.bool true].toArray))):=by
 obtain⟨cs,len,rt,aY,n,z⟩:=h;refine(zH n i).mono ?_;rintro _ g ⟨l,a,⟨e,rfl⟩| ⟨e,x,m,rfl⟩⟩
 ·exact⟨⟨_,_,_,_,l,z⟩,a,.inl ⟨by rw[z.Ki];exact e,rfl⟩⟩
 ·exact⟨⟨_,_,_,_,l,z⟩,a,.inr ⟨by rw[z.Ki];exact e,_,z.get m,rfl⟩⟩
theorem jv{S:Nat->Prop}{st:Int}{w:Nw}(h:bj H c S st w)(i:Int):
  aD 364 [ptr c,i64 i] H fun v J=>ak (
   (¬cu w.cs i/\v= .bool false/\H=J)\/
   (cu w.cs i/\v= .bool true/\bj J c S st (w.put i (0,0,0))/\aj S H J)):=by
 obtain⟨cs,len,rt,aY,g,z⟩:=h;have u:=g.yY;have f:w.cs.length=cs.length:=by rw[z.cl,alA]
 refine(Bv g (fun x a=>(z.lt x a).2) i (fun j=>by rw[z.mn];have:=w.kl j;omega)).mono ?_;rintro _ q (⟨e,rfl,rfl⟩| ⟨e,rfl,x,a,r,d⟩)
 ·exact .inl ⟨by rw[z.Ki];exact e,rfl,rfl⟩
 ·obtain⟨o,L,n,l⟩:=id e;rw[a]at n;injection n with n;subst n;have t:=z.get a;rw[if_pos l]at t;have B:=z.lt x Z;have P:rt x.1.toNat≠0:=fun e=>by have:=z.nz _ O e;omega
  refine .inr ⟨by rw[z.Ki];exact e,rfl,⟨_,_,_,_,r,z.hl,z.h0,z.hh,?_,fun y m=>?_,fun j=>?_,z.low,z.K5,z.nz⟩,d⟩
  ·show w.cs.set i.toNat _=_;rw[z.cl,alD];rfl
  ·rcases al8 m with m|rfl
   ·exact z.lt y m
   omega
  ·have l:=Nw.gm (y:=((0:Int),(0:Int),(0:Int))) t j;simp only at l;have hm:=z.mn j;by_cases p:j=rt x.1.toNat
   ·subst p;rw[if_pos ⟨O,rfl⟩,if_neg O]at l;rw[l,<-hm];grind [da,dB,lI]
   ·rw[if_neg O,if_neg O]at l;rw[l,<-hm];grind [da,dB,lI]
theorem iM{S:Nat->Prop}{st:Int}{w:Nw}(h:bj H c S st w)(i k s:Int):
  aD 361 [ptr c,i64 i,ms k s] H fun v J=>ak (
   (¬ (cu w.cs i/\∀x,w.cs[i.toNat]? =some x->¬dY x.2.1 x.2.2 k s)/\v= .bool false/\bj J c S st w/\af H J)\/
   (cu w.cs i/\v= .bool true/\∃x,w.cs[i.toNat]? =some x/\¬dY x.2.1 x.2.2 k s/\bj J c S st (w.put i (x.1,k,s))/\aj S H J)):=by
 obtain⟨cs,len,rt,aY,r,z⟩:=h;refine(zI r i k s).mono ?_;rintro _ p (⟨e,rfl,l,a⟩| ⟨e,rfl,x,n,d,l,a⟩)
 ·refine .inl ⟨fun g=>e ⟨(z.Ki i).1 g.1,fun x n=>?_⟩,rfl,⟨_,_,_,_,l,z⟩,a⟩;have:=g.2 _ (z.get n);omega
 ·have t:=z.get n;refine .inr ⟨(z.Ki i).2 e,rfl,_,t,d,⟨_,_,_,_,l,z.hl,z.h0,z.hh,?_,fun y m=>?_,fun j=>?_,z.low,z.K5,z.nz⟩,a⟩
  ·show w.cs.set i.toNat _=_;rw[z.cl,alD]
  ·rcases al8 m with m|rfl
   ·exact z.lt y m
   ·exact z.lt x Z
  ·rw[Nw.gm t,<-z.mn];omega
theorem AX(cs:List Ce)(a b h:Int)(x:a≠b):((cs.map fun c=>if c.1=b then(a,c.2)else c).countP fun c=>decide (c.1=h))=
  if h=a then(cs.countP fun c=>decide (c.1=a))+(cs.countP fun c=>decide (c.1=b))else if h=b then 0 else cs.countP fun c=>decide (c.1=h):=by
 induction cs with
 |nil=>simp
 |cons c cs z=>
  grind
theorem jw{S:Nat->Prop}{st:Int}{w:Nw}(h:bj H c S st w)(a b:Int):
  aD 371 [ptr c,i64 a,i64 b] H fun v J=>ak (
   (¬ (w.has a/\w.has b/\a≠b)/\v= .bool false/\H=J)\/
   ((w.has a/\w.has b/\a≠b)/\v= .bool true/\bj J c S st (w.join a b)/\aj S H J)):=by
 obtain⟨cs,len,rt,aY,z,x⟩:=h;have T:=z.yY;have K:w.cs.length=cs.length:=by rw[x.cl,alA]
 refine(Bu z a b (fun j=>by rw[x.mn];have:=w.kl j;omega)).mono ?_;rintro _ C (⟨e,rfl,rfl⟩| ⟨e,rfl,r,d⟩)
 ·exact .inl ⟨by rw[x.K9,x.K9];exact e,rfl,rfl⟩
 ·obtain⟨⟨a1,a2,a3⟩,⟨m,t,g⟩,n⟩:=e;have o:=x.hl;refine .inr ⟨⟨(x.K9 a).2 ⟨a1,a2,a3⟩,(x.K9 b).2 ⟨m,t,g⟩,n⟩,rfl,⟨_,_,_,_,r,by simp[Nw.join,o],?_,fun h p q=>?_,?_,x.lt,fun j=>?_,fun i hi=>?_,fun i hi=>?_,fun i hi F=>?_⟩,d⟩
  ·show(w.hs.set b.toNat false)[0]? =some false;rw[alh O];exact x.h0
  ·show(w.hs.set b.toNat false)[h]? =_;by_cases y:h=b.toNat
   ·subst y;rw[aln O,if_pos g,alc O]
   ·rw[alh (Ne.symm y),x.hh h p q];by_cases B:rt h=b.toNat
    ·rw[if_pos B];have:a.toNat≠h:=Z;grind
    grind
  ·show(w.cs.map _)=_;rw[x.cl,List.map_map];apply al7;grind
  ·have f:(w.join a b).len j=if j=a then w.len a+w.len b else if j=b then 0 else w.len j:=by
    unfold Nw.len Nw.join;simp only;by_cases u:0<j
    ·rw[if_pos u,AX w.cs a b j n,if_pos a1,if_pos m];grind
    ·omega
   rw[f];have P:=x.mn a;have L:=x.mn b;have A:=x.mn j;have lb:=w.kl b;by_cases z:j=a
   ·subst z;rw[if_pos rfl];split
    ·simp only[da,lI,dB,if_neg n,if_true,Option.getD_some];simp only[da]at P L;omega
    ·omega
   ·rw[if_neg z];by_cases l:j=b
    ·subst l;rw[if_pos rfl];grind [lI,da]
    ·rw[if_neg l];split
     ·rw[<-A];simp[da,lI,dB,z,l]
     omega
  ·cases x;grind
  ·cases x;grind
  cases x;grind
theorem iN{S:Nat->Prop}{st:Int}{w:Nw}(h:bj H c S st w)(a b:Int):
  aD 391 [ptr c,i64 a,i64 b] H fun v J=>ak (v= .bool (w.ahead a b)/\bj J c S (if cu w.cs a/\cu w.cs b then fP st 1 else st) w/\aj S H J):=by
 obtain⟨cs,len,rt,aY,l,z⟩:=h;refine(zG l a b).mono ?_;rintro _ q (⟨e,rfl,rfl⟩| ⟨e,x,y,d,p,rfl,r,j⟩)
 ·have t:¬ (cu w.cs a/\cu w.cs b):=fun g=>e ⟨(z.Ki a).1 g.1,(z.Ki b).1 g.2⟩;refine⟨ald Value.bool ?_,by rw[if_neg t];exact⟨_,_,_,_,l,z⟩,aj.refl _ _⟩;unfold Nw.ahead;grind
 ·have n:=(z.Ki a).2 e.1;have m:=(z.Ki b).2 e.2;refine⟨ald Value.bool ?_,by rw[if_pos ⟨n,m⟩];exact⟨_,_,_,_,r,z⟩,j⟩;unfold Nw.ahead;rw[ale n,ale m,z.get d,z.get p];rfl
theorem bj.Hv{S:Nat->Prop}{st:Int}{w:Nw}(h:bj H c S st w):w.hs.length<=65537:=by
 obtain⟨cs,len,rt,aY,⟨⟨z,a,n,l,_,_,g,_⟩,_⟩,x⟩:=h;have:=g.le;rw[x.hl];omega
theorem bj.home{S:Nat->Prop}{st:Int}{w:Nw}(h:bj H c S st w):∀x∈w.cs,0<=x.1/\x.1<w.hs.length:=by
 obtain⟨cs,len,rt,aY,n,z⟩:=h;intro x l;rw[z.cl]at l;obtain⟨y,a,rfl⟩:=alQ.1 l;have m:=z.lt y a;rw[z.hl];have v:=z.low y.1.toNat O;omega
theorem bj.live{S:Nat->Prop}{st:Int}{w:Nw}(h:bj H c S st w):∀x∈w.cs,0<x.1->w.hs[x.1.toNat]? =some true:=by
 obtain⟨cs,len,rt,aY,e,z⟩:=h;intro x l;rw[z.cl]at l;obtain⟨y,m,rfl⟩:=alQ.1 l;have g:=z.lt y m;simp only;split
 ·intro v;have a:=z.low y.1.toNat O;have n:=z.K5 y.1.toNat O;rw[show((rt y.1.toNat:Nat):Int).toNat=rt y.1.toNat by omega,z.hh _ O a,n];simp
 omega
end
end Go.Proofs.YtnanofhkpglbaaaGreatDoor
