/- Texts put behind each other. -/
import Derived.Test.YtjkkkibiegfecaaGreatDoorK21
import Derived.Test.YtjkkkibiegfecaaGreatDoorK22
set_option linter.unusedSimpArgs false
set_option linter.unusedVariables false
set_option maxRecDepth 100000
set_option maxHeartbeats 8000000
namespace Go.Proofs.YtjkkkibiegfecaaGreatDoor
open Go Go.Vc
section
variable{H J:Hp}{c i n b:Nat}{m:Int}
theorem bX.get{size:Nat}{v:Value}{xs:List Value}(h:bX H size v n xs){j:Nat}{x:Value}(g:j<size)(z:xs[i*size+j]? =some x):
  ∃b o c l,v= .slice (some ⟨b,o,none⟩) n c/\H.rd b=some l/\i<n/\l[o+i*size+j]? =some x:=by
 obtain⟨y,⟨rfl,a,c,rfl⟩| ⟨b,o,c,l,rfl,w,m,e⟩⟩:=h
 ·rw[List.getElem?_eq_none O]at z;cases z
 ·have t:i*size+j<n*size:=by
   have:=(ajK.1 z).1;omega
  refine⟨b,o,c,l,rfl,w,?_,?_⟩
  ·rcases aky i n with h|h
   ·exact h
   ·have:=akO size h;omega
  grind
def ya(a b:Int):Int:=if a<b then -1 else if b<a then 1 else 0
theorem jZ(a:Int)(H:Hp):aF 260 [i64 a] H fun v J=>ak (v= .bool false/\H=J):=by
 refine aT xR ?_;refine v1 ajZ ?_;exact⟨rfl,rfl⟩
theorem js(a:Int)(H:Hp):aF 261 [u64 a] H fun v J=>ak (v= .bool false/\H=J):=by
 refine aT wz ?_;refine v1 ajZ ?_;exact⟨rfl,rfl⟩
theorem pL(a b:Int)(H:Hp):aF 257 [i64 a,i64 b] H fun v J=>ak (v=i64 (ya a b)/\H=J):=by
 refine aT uc ?_;refine vs ?_;refine(jZ a H).mono ?_;rintro _ _ ⟨rfl,rfl⟩;refine vs ?_;refine(jZ b H).mono ?_;rintro _ _ ⟨rfl,rfl⟩;refine vs ?_;refine ai.dec (fun h=>?_) (fun h=>?_)<;>refine vs ?_
 ·exact⟨ajP i64 (by simp[ya,h]),rfl⟩
 ·refine ai.dec (fun x=>?_) (fun x=>?_)<;>refine vs ?_
  ·exact⟨ajP i64 (by simp[ya,h,show b<a from x]),rfl⟩
  ·exact⟨ajP i64 (by simp[ya,h,show¬b<a from x]),rfl⟩
theorem om(a b:Int)(H:Hp):aF 258 [u64 a,u64 b] H fun v J=>ak (v=i64 (ya a b)/\H=J):=by
 refine aT rX ?_;refine vs ?_;refine(js a H).mono ?_;rintro _ _ ⟨rfl,rfl⟩;refine vs ?_;refine(js b H).mono ?_;rintro _ _ ⟨rfl,rfl⟩;refine vs ?_;refine ai.dec (fun h=>?_) (fun h=>?_)<;>refine vs ?_
 ·exact⟨ajP i64 (by simp[ya,h]),rfl⟩
 ·refine ai.dec (fun x=>?_) (fun x=>?_)<;>refine vs ?_
  ·exact⟨ajP i64 (by simp[ya,h,show b<a from x]),rfl⟩
  ·exact⟨ajP i64 (by simp[ya,h,show¬b<a from x]),rfl⟩
def UY(xs:List Int):Int:=(xs.find? fun x=>x≠0).getD 0
theorem Bu{v:Value}{xs:List Int}(h:bX H 1 v n (xs.map i64))(K:n<=1000000)(f:∃a c,v= .slice a n c):
  aF 256 [v] H fun r J=>ak (r=i64 (UY xs)/\H=J):=by
 obtain⟨a,c,rfl⟩:=f;have C:xs.length=n:=by have:=h.1;simpa using this
 refine aT G5 ?_;refine vs ?_;refine bj.intro (fun m env w=>∃k:Nat,env=[(3,i64 0),(6,.slice a n c),(7,i64 n),(8,i64 k)]/\w=H/\k<=n/\m=n - k/\∀j,j<k->xs[j]? =some 0) n Z ?_;rintro m env w ⟨k,rfl,rfl,A,rfl,y⟩;refine vs ?_;refine ai.dec (fun p=>?_) (fun p=>?_)<;>refine vs ?_
 ·have d:k<xs.length:=O;obtain⟨b,o,c',l,u,q,_,g⟩:=bX.get h (i:=k) (j:=0) (x:=i64 xs[k]) O Z;injection u with t P L;subst t;refine⟨O,?_⟩;simp only[ajM,Nat.add_zero]at g;refine v4 q Int.toNat_natCast ajM g ?_;refine ai.dec (fun e=>?_) (fun e=>?_)<;>refine vs ?_
  ·rw[wrap64 O O];refine⟨n - (k+1),O,k+1,rfl,trivial,O,rfl,fun j z=>?_⟩;grind
  ·refine⟨ajP i64 ?_,rfl⟩;unfold UY;have:xs.find? (fun x=>x≠0)=some xs[k]:=by
    rw[List.find?_eq_some_iff_getElem];refine⟨by simpa using e,k,d,rfl,fun j z=>?_⟩;have:=y j z;rw[ajL O]at this;injection this with this;simp[this]
   rw[this];rfl
 ·refine⟨ajP i64 ?_,rfl⟩;unfold UY;have:xs.find? (fun x=>x≠0)=none:=by
   rw[List.find?_eq_none];intro x B;obtain⟨j,z,rfl⟩:=ak3.1 B;have:=y j O;rw[ajL z]at this;injection this with this;simp[this]
  grind
def I2(k s x h:Int):Int:=UY [ya k x,ya s h]
def ef(k s x h:Int):Prop:=k<x\/k=x/\s<h
instance(k s k' s':Int):Decidable (ef k s k' s'):=by unfold ef;infer_instance
theorem I3(k s x s':Int):I2 k s x s'<0↔ef k s x s':=by
 unfold I2 ef UY ya;grind
theorem lS(k s x z:Int)(H:Hp):aF 251 [mE k s,mE x z] H fun v J=>ak (v=i64 (I2 k s x z)/\af H J):=by
 refine aT Bi ?_;refine vs ?_;refine⟨_,(pL k x _).mono fun _ _ h=>⟨h.out.1,h.out.2.symm⟩,?_⟩;refine(om s z _).mono ?_;rintro _ _ ⟨rfl,rfl⟩;refine vs ?_;refine(Bu (n:=2) (xs:=[ya k x,ya s z]) (Sl.bJ (size:=1) rfl (by simp only[ag])).rd O ⟨_,_,rfl⟩).mono ?_;rintro _ _ ⟨rfl,rfl⟩;exact⟨rfl,(bD.new _ _).new _ _⟩
theorem Bv(k s x h:Int)(H:Hp):aF 243 [mE k s,mE x h] H fun v J=>ak (v= .bool (decide (ef k s x h))/\af H J):=by
 refine aT G4 ?_;refine vs ?_;refine(lS k s x h _).mono ?_;rintro _ _ ⟨rfl,z⟩;refine vs ?_;refine⟨ajP Value.bool (by rw[decide_eq_decide];exact I3 _ _ _ _),?_⟩;exact(bD.new _ _).trans z
def fR(m n:Int):Int:=if n<=0 then m else if n>4611686018427387904 - m then 4611686018427387904 else m+n
theorem zM{r:List Value}(h:H.own b=some (i64 m::r))(hm:0<=m/\m<=4611686018427387904)(n:Int)(w:n<=4611686018427387904):
  aF 270 [ptr b,i64 n] H fun v J=>ak (v= .tuple [].toArray/\J=H.wr b (i64 (fR m n)::r)\/v= .tuple [].toArray/\J=H/\fR m n=m):=by
 refine aT uf ?_;refine vs ?_;refine ai.dec (fun x=>?_) (fun x=>?_)<;>refine v1 (ae h) ?_
 ·exact .inr ⟨rfl,rfl,by simp[fR,x]⟩
 ·rw[wrap64 O O];refine ai.dec (fun z=>?_) (fun z=>?_)<;>refine v2 (ae h) h ?_
  ·exact .inl ⟨rfl,by rw[fR,if_neg x,if_pos z]⟩
  ·exact .inl ⟨rfl,by rw[fR,if_neg x,if_neg z,wrap64 O O]⟩
abbrev Ce:=Int×Int×Int
def bP(cs:List Ce):List Value:=cs.flatMap fun c=>[i64 c.1,i64 c.2.1,u64 c.2.2]
theorem du(cs:List Ce):(bP cs).length=cs.length*3:=by
 induction cs with
 |nil=>rfl
 |cons c r x=>simp only[bP,alo,ajW,ajX,akB]at*;omega
theorem Ga(n:Nat):bP (List.replicate n (0,0,0))=dw [.int .i64 0,.int .i64 0,.int .u64 0] n:=by
 simp[bP,dw,List.flatMap_def,List.map_replicate]
theorem en.lt2{s len:Nat}{rt:Nat->Nat}{most:Int}(h:en H b s len rt most):s<H.size:=by
 obtain⟨⟨w,z,x,a1,a2,a3⟩,_⟩:=h;exact a2.lt
structure bE(H:Hp)(c:Nat)(S:Nat->Prop)(st:Int)(cs:List Ce)(len:Nat)(rt:Nat->Nat)(aY:Int->Option Int):Prop where
 rep:∃fb nb ns mb,H.own c=some [i64 st,.slice (some ⟨fb,0,none⟩) cs.length cs.length,ptr nb,.map (some mb)]/\H.own fb=some (bP cs)/\en H nb ns len rt 65536/\kl H mb (fun i=>(aY i).map i64)/\
  (S c/\S fb/\S nb/\S ns/\S mb)/\(c≠fb/\c≠nb/\c≠ns/\c≠mb)/\(fb≠nb/\fb≠ns/\fb≠mb)/\(nb≠mb/\ns≠mb)
 st0:0<=st
 st1:st<=4611686018427387904
 zf:cs.length<=65536
 slt:∀x,S x->x<H.size
theorem bE.ext{S T:Nat->Prop}{st:Int}{cs:List Ce}{len:Nat}{rt:Nat->Nat}{aY:Int->Option Int}(h:bE H c S st cs len rt aY)
  (e:aj T H J)(z:∀x,S x->¬T x):bE J c S st cs len rt aY:=by
 obtain⟨⟨a,r,j,t,a1,a2,a3,a4,⟨s1,s2,s3,d,p⟩,w,l⟩,n,m,v,g⟩:=h;exact⟨⟨a,r,j,t,e.own a1 (z _ s1),e.own a2 (z _ s2),a3.ext e (z _ s3) (z _ d),a4.ext e (z _ p),Z,w,l⟩,n,m,v,fun x y=>aj0 (g x y) e.size⟩
theorem Dc(cap:Int)(H:Hp):aF 121 [i64 cap] H fun v J=>ak (
  af H J/\((¬ (0<=cap/\cap<=65536)/\v= .tuple [.pointer none,i64 31].toArray)\/
   (0<=cap/\cap<=65536)/\∃c S,v= .tuple [ptr c,i64 0].toArray/\bE J c S 0 (List.replicate cap.toNat (0,0,0)) 1 id (fun _=>none)/\(∀x,S x->H.size<=x))):=by
 refine aT IL ?_;refine vs ?_;refine ai.dec (fun h=>?_) (fun h=>?_)<;>refine vs ?_
 ·exact⟨aj.refl _ _,.inl ⟨O,rfl⟩⟩
 ·refine ai.dec (fun n=>?_) (fun n=>?_)<;>refine vs ?_
  ·exact⟨aj.refl _ _,.inl ⟨O,rfl⟩⟩
  ·refine(C3 65536 H).mono ?_;rintro _ z ⟨l,⟨d,_⟩| ⟨_,a,g,rfl,m,y,t,r,j⟩⟩
   ·omega
   refine vs ?_;refine⟨O,?_⟩;refine vs ?_;have e:(z.new 363 (dw [.int .i64 0,.int .i64 0,.int .u64 0] cap.toNat)).own z.size=some (bP (List.replicate cap.toNat (0,0,0))):=by
    rw[Ga];exact am _ _ _
   have w:aj (fun _=>False) (z.new 363 (dw [.int .i64 0,.int .i64 0,.int .u64 0] cap.toNat)) _:=
    ((aj.refl _ _).iG).new 283 [.int .i64 0,.slice (some ⟨z.size,0,none⟩) cap.toNat cap.toNat,.pointer (some ⟨a,0,none⟩),.map (some (z.size+1))]
   have hm:kl (z.new 363 (dw [.int .i64 0,.int .i64 0,.int .u64 0] cap.toNat)).iG (z.size+1) (fun _=>none):=by
    have:=kl.new (z.new 363 (dw [.int .i64 0,.int .i64 0,.int .u64 0] cap.toNat));rwa[ag]at this
   have q:=l.size;have p:(List.replicate cap.toNat ((0,0,0):Ce)).length=cap.toNat:=Z;refine⟨(l.trans ((aj.refl _ _).new 363 _)).trans w,.inr ⟨O,z.size+1+1,fun x=>H.size<=x/\x<z.size+1+1+1,rfl,⟨⟨z.size,a,g,z.size+1,by grind [az,ag,jw],w.own e (fun h=>h),
    (m.ext ((aj.refl (fun _=>False) _).new 363 _) (fun h=>h) (fun h=>h)).ext w (fun h=>h) (fun h=>h),hm.ext ((aj.refl (fun _=>False) _).new _ _) (fun h=>h),?_,?_,?_,?_⟩,O,O,O,?_⟩,fun x h=>h.1⟩⟩
   ·omega
   ·omega
   ·omega
   ·omega
   ·intro x o;simp only[ag,jw];omega
theorem sD{S:Nat->Prop}{st:Int}{cs:List Ce}{len:Nat}{rt:Nat->Nat}{aY:Int->Option Int}(h:bE H c S st cs len rt aY)(i:Int):
  aF 221 [ptr c,i64 i] H fun v J=>ak (v= .bool (decide (0<i/\i<len/\rt i.toNat=i.toNat))/\H=J):=by
 obtain⟨⟨l,y,t,g,a1,a2,a3,a4,x,z,w⟩,a,n,m,e⟩:=h;refine aT xM ?_;refine v1 (ae a1) ?_;refine(lM a3 i).mono ?_;rintro _ _ ⟨rfl,rfl⟩;refine vs ?_;exact⟨rfl,rfl⟩
def dh(aY:Int->Option Int)(i:Int):Int:=(aY i).getD 0
theorem Dd{S:Nat->Prop}{st:Int}{cs:List Ce}{len:Nat}{rt:Nat->Nat}{aY:Int->Option Int}(h:bE H c S st cs len rt aY)(i:Int):
  aF 224 [ptr c,i64 i] H fun v J=>ak (v=i64 (dh aY i)/\H=J):=by
 obtain⟨⟨l,y,t,g,a1,a2,a3,a4,x,z,w⟩,a,n,m,e⟩:=h;refine aT xN ?_;refine v2 (ae a1) a4.look ?_;refine⟨?_,rfl⟩;unfold dh;cases aY i<;>rfl
theorem oq{S:Nat->Prop}{st:Int}{cs:List Ce}{len:Nat}{rt:Nat->Nat}{aY:Int->Option Int}(h:bE H c S st cs len rt aY)(i:Int):
  aF 246 [ptr c,i64 i] H fun v J=>ak (v= .bool (decide (0<=i/\i<cs.length))/\H=J):=by
 obtain⟨⟨l,y,t,g,a1,a2,a3,a4,x,z,w⟩,a,n,m,e⟩:=h;refine aT ub ?_;refine vs ?_;refine ai.dec (fun h=>?_) (fun h=>?_)<;>refine v1 (ae a1) ?_
 ·exact⟨ajP Value.bool Z,rfl⟩
 ·exact⟨ajP Value.bool Z,rfl⟩
theorem pM{cs:List Ce}{c:Ce}(hi:cs[i]? =some c):
  (bP cs)[i*3]? =some (i64 c.1)/\(bP cs)[i*3+1]? =some (i64 c.2.1)/\(bP cs)[i*3+2]? =some (u64 c.2.2)/\((bP cs).drop (i*3+1)).take 2=[i64 c.2.1,u64 c.2.2]:=by
 have x:∀ (cs:List Ce) (i:Nat) (c:Ce),cs[i]? =some c->(bP cs)[i*3]? =some (i64 c.1)/\(bP cs)[i*3+1]? =some (i64 c.2.1)/\(bP cs)[i*3+2]? =some (u64 c.2.2):=by
  intro cs;induction cs with
  |nil=>grind
  |cons a r w=>
   intro i c h;have e:bP (a::r)=i64 a.1::i64 a.2.1::u64 a.2.2::bP r:=rfl;rw[e];cases i with
   |zero=>grind
   |succ i=>
    grind
 obtain⟨z,x1,x2⟩:=x cs i c hi;refine⟨z,x1,x2,?_⟩;apply akb;grind
def cz(cs:List Ce)(i:Int):Prop:=0<=i/\∃c,cs[i.toNat]? =some c/\0<c.1
instance(cs:List Ce)(i:Int):Decidable (cz cs i):=
 match h:cs[i.toNat]? with
 |none=>.isFalse fun⟨_,c,h1,_⟩=>Z
 |some c=>if h0:0<=i/\0<c.1 then .isTrue ⟨h0.1,c,h,h0.2⟩else .isFalse fun⟨h1,c',h2,h3⟩=>Z
theorem fF{S:Nat->Prop}{st:Int}{cs:List Ce}{len:Nat}{rt:Nat->Nat}{aY:Int->Option Int}(h:bE H c S st cs len rt aY)(i:Int):
  aF 233 [ptr c,i64 i] H fun v J=>ak (v= .bool (decide (cz cs i))/\H=J):=by
 have l:=oq h i;obtain⟨⟨t,o,f,q,a1,a2,a3,a4,n,m,e⟩,r,j,d,p⟩:=h;refine aT zw ?_;refine vs ?_;refine l.mono ?_;rintro _ _ ⟨rfl,rfl⟩;refine vs ?_;refine ai.dec (fun h=>?_) (fun h=>?_)<;>refine v1 (ae a1) ?_
 ·obtain⟨x,z⟩:∃x,cs[i.toNat]? =some x:=⟨_,ajL O⟩;obtain⟨a,x1,x2,x3⟩:=pM z;refine⟨O,?_⟩;refine v4 (ae a2) a Nat.add_zero ajJ ?_;exact⟨ajP Value.bool (by rw[decide_eq_decide];exact⟨fun w=>⟨h.1,x,z,w⟩,fun⟨_,c,g,y⟩=>Z⟩),rfl⟩
 ·exact⟨ajP Value.bool (ajO (by rintro⟨x,c,x1,x2⟩;grind)).symm,rfl⟩
theorem tF(cs:List Ce)(i:Nat)(c:Ce)(hi:i<cs.length):aS (bP cs) (i*3) [i64 c.1,i64 c.2.1,u64 c.2.2]=bP (cs.set i c):=by
 simp only[aS];induction cs generalizing i with
 |nil=>rfl
 |cons a r h=>
  have e:bP (a::r)=i64 a.1::i64 a.2.1::u64 a.2.2::bP r:=rfl;cases i with
  |zero=>rfl
  |succ i=>
   have x:bP ((a::r).set (i+1) c)=i64 a.1::i64 a.2.1::u64 a.2.2::bP (r.set i c):=rfl;grind
theorem Bw{S:Nat->Prop}{st:Int}{cs:List Ce}{len:Nat}{rt:Nat->Nat}{aY:Int->Option Int}(h:bE H c S st cs len rt aY):
  aF 238 [ptr c] H fun v J=>ak (
   (len=65537/\v=i64 0/\H=J)\/
   (len≠65537/\v=i64 len/\∃w,bE J c w st cs (len+1) (fun i=>if i=len then i else rt i) aY/\aj S H J/\∀x,w x->S x\/H.size<=x)):=by
 obtain⟨⟨y,f,U,o,a1,a2,a3,a4,n,m,e⟩,t,r,j,d⟩:=h;refine aT wk ?_;refine v1 (ae a1) ?_;refine(Bo a3).mono ?_;rintro _ u (⟨p,rfl,rfl⟩| ⟨p,rfl,a,l,z,B⟩)
 ·refine vs ?_;exact .inl ⟨O,rfl,rfl⟩
 ·refine vs ?_;obtain⟨s1,s2,s3,W,I⟩:=n;obtain⟨P,L,A,C⟩:=m;obtain⟨⟨K,T,F⟩,g,N⟩:=e;have l1:=aC a1;have l2:=aC a2;have Q:=a4.lt;refine .inr ⟨O,rfl,fun x=>S x\/x=a,⟨⟨y,f,a,o,z.own a1 O,z.own a2 O,l,a4.ext z O,Z,O,O,g,O⟩,t,r,j,fun x q=>q.elim (fun h=>aj0 (d x h) z.size) (fun h=>by rw[h];exact l.lt2)⟩,
   z.mono Z,?_⟩
  grind
theorem De{S:Nat->Prop}{st:Int}{cs:List Ce}{len:Nat}{rt:Nat->Nat}{aY:Int->Option Int}(h:bE H c S st cs len rt aY)(g i k s:Int)
  (hm:dh aY g<=1000000/\0<=dh aY g):
  aF 236 [ptr c,i64 g,i64 i,mE k s] H fun v J=>ak (
   let ok:=(0<g/\g<len/\rt g.toNat=g.toNat)/\(0<=i/\i<cs.length)/\¬cz cs i
   (¬ok/\v= .bool false/\bE J c S st cs len rt aY/\aj S H J)\/
   (ok/\v= .bool true/\bE J c S st (cs.set i.toNat (g,k,s)) len rt (fun j=>if j=g then some (dh aY g+1)else aY j)/\aj S H J)):=by
 have U:aj (fun _=>False) H (H.new 190 [i64 k,u64 s]):=bD;have a:=h.ext U (fun _ _ h=>h);refine aT xQ ?_;simp(disch:=(first|exact aV|fail)) only[go_sem, ↓reduceIte,Zv,mE];refine(sD a g).mono ?_;rintro _ _ ⟨rfl,rfl⟩;refine vs ?_;have m:∀v,v=Value.bool false->¬ ((0<g/\g<len/\rt g.toNat=g.toNat)/\(0<=i/\i<cs.length)/\¬cz cs i)->
   ((¬ ((0<g/\g<len/\rt g.toNat=g.toNat)/\(0<=i/\i<cs.length)/\¬cz cs i)/\v= .bool false/\bE (H.new 190 [i64 k,u64 s]) c S st cs len rt aY/\aj S H (H.new 190 [i64 k,u64 s]))\/
   (((0<g/\g<len/\rt g.toNat=g.toNat)/\(0<=i/\i<cs.length)/\¬cz cs i)/\v= .bool true/\bE (H.new 190 [i64 k,u64 s]) c S st (cs.set i.toNat (g,k,s)) len rt (fun j=>if j=g then some (dh aY g+1)else aY j)/\aj S H (H.new 190 [i64 k,u64 s]))):=
  fun v I W=>.inl ⟨W,I,a,bD⟩
 refine ai.dec (fun e=>?_) (fun e=>?_)<;>refine vs ?_
 ·refine(oq a i).mono ?_;rintro _ _ ⟨rfl,rfl⟩;refine vs ?_;refine ai.dec (fun hi=>?_) (fun hi=>?_)<;>refine vs ?_
  ·refine(fF a i).mono ?_;rintro _ _ ⟨rfl,rfl⟩;refine vs ?_;refine ai.dec (fun o=>?_) (fun o=>?_)<;>refine vs ?_
   ·exact m _ rfl Z
   ·obtain⟨⟨z,D,M,G,a1,a2,a3,a4,B,P,L⟩,T,F,h4,N⟩:=a;refine v1 (ae a1) ?_;refine⟨O,?_⟩;refine v1 a2 ?_;refine⟨by rw[du];omega,?_⟩;rw[show aS (bP cs) (i.toNat*3) (aK (Value.agg #[Value.int .i64 g,i64 k,u64 s]))=bP (cs.set i.toNat (g,k,s))from tF cs i.toNat (g,k,s) O];obtain⟨s1,s2,s3,s4,s5⟩:=B;obtain⟨A,X,d3,C⟩:=P;obtain⟨⟨r,d,n⟩,p,q⟩:=L;have w:aj (fun x=>x=z) (H.new 190 [i64 k,u64 s]) ((H.new 190 [i64 k,u64 s]).wr z (bP (cs.set i.toNat (g,k,s)))):=(aj.refl (fun x=>x=z) _).wr (fun _=>rfl) _;have y:=w.own a1 A;have f:((H.new 190 [i64 k,u64 s]).wr z (bP (cs.set i.toNat (g,k,s)))).own z=_:=ah a2;have u:=a3.ext w (Ne.symm r) (Ne.symm d);have t:=a4.ext w (Ne.symm n);have K:gN false (Value.int .i64 0) ((aY g).map i64)=i64 (dh aY g):=by unfold dh;cases aY g<;>rfl
    refine v3 (ae y) t.look K ?_;rw[wrap64 O O];refine t.Wt fun E m2 l=>?_;refine vs ?_;refine .inr ⟨⟨e,hi,o⟩,rfl,⟨⟨z,D,M,G,by rw[ajN];exact l.own y C,l.own f n,u.ext l p q,?_,Z,O,⟨r,d,n⟩,p,q⟩,T,F,Z,fun x V=>aj0 (N x V) (akc w.size l.size)⟩,?_⟩
    ·have:(fun j=>Option.map i64 (if j=g then some (dh aY g+1)else aY j))=GH (fun j=>(aY j).map i64) g (i64 (dh aY g+1)):=by
      funext j;unfold GH;grind
     grind
    ·exact(((aj.refl S H).new 190 [i64 k,u64 s]).trans (w.mono Z)).trans (l.mono Z)
  ·exact m _ rfl O
 ·exact m _ rfl (fun Q=>e Q.1)
theorem MF{n:Int}(x:0<=m)(h:m<=4611686018427387904):0<=fR m n/\fR m n<=4611686018427387904:=by
 grind [fR]
def pN(a b:Int)(x y:Ce):Prop:=I2 x.2.1 x.2.2 y.2.1 y.2.2<0\/I2 x.2.1 x.2.2 y.2.1 y.2.2=0/\a<b
instance(a b:Int)(x y:Ce):Decidable (pN a b x y):=inferInstanceAs (Decidable (_\/_/\_))
theorem zN{S:Nat->Prop}{st:Int}{cs:List Ce}{len:Nat}{rt:Nat->Nat}{aY:Int->Option Int}(h:bE H c S st cs len rt aY)(a b:Int):
  aF 262 [ptr c,i64 a,i64 b] H fun v J=>ak (
   (¬ (cz cs a/\cz cs b)/\v= .bool false/\H=J)\/
   (cz cs a/\cz cs b)/\∃x y,cs[a.toNat]? =some x/\cs[b.toNat]? =some y/\v= .bool (decide (pN a b x y))/\bE J c S (fR st 1) cs len rt aY/\aj S H J):=by
 have q:=h;obtain⟨⟨j,B,ns,u,a1,a2,a3,a4,N,Q,U⟩,A,C,M,E⟩:=h;refine aT ud ?_;refine vs ?_;refine(fF q a).mono ?_;rintro _ _ ⟨rfl,rfl⟩;refine vs ?_;refine ai.dec (fun l=>?_) (fun l=>?_)<;>refine vs ?_
 ·refine(fF q b).mono ?_;rintro _ _ ⟨rfl,rfl⟩;refine vs ?_;refine ai.dec (fun m=>?_) (fun m=>?_)<;>refine vs ?_
  ·obtain⟨RN,x,z,kh⟩:=id l;obtain⟨PO,y,t,hy0⟩:=id m;refine(zM a1 ⟨A,C⟩ 1 O).mono ?_;rintro v H1 X;obtain⟨rfl,r,P,W,I⟩:v= .tuple [].toArray/\H1.own c=some [i64 (fR st 1),.slice (some ⟨j,0,none⟩) cs.length cs.length,ptr B,.map (some u)]/\H1.own j=some (bP cs)/\bE H1 c S (fR st 1) cs len rt aY/\aj S H H1:=by
    have T:=MF (n:=1) A C;rcases X.out with ⟨rfl,rfl⟩| ⟨rfl,rfl,hs⟩
    ·obtain⟨s1,s2,s3,s4,s5⟩:=N;obtain⟨L,V,G,D⟩:=Q;have w:aj (fun x=>x=c) H (H.wr c [i64 (fR st 1),.slice (some ⟨j,0,none⟩) cs.length cs.length,ptr B,.map (some u)]):=(aj.refl (fun x=>x=c) _).wr (fun _=>rfl) _;exact⟨rfl,ah a1,w.own a2 (Ne.symm L),⟨⟨j,B,ns,u,ah a1,w.own a2 (Ne.symm L),a3.ext w (Ne.symm V) (Ne.symm G),a4.ext w (Ne.symm D),Z,O,U⟩,T.1,T.2,M,fun x z=>aj0 (E x z) w.size⟩,w.mono Z⟩
    ·rw[hs];exact⟨rfl,a1,a2,q,aj.refl _ _⟩
   have al:=(ajK.1 z).1;have bl:=(ajK.1 t).1;obtain⟨x1,x2,x3,x4⟩:=pM z;obtain⟨y1,y2,y3,F⟩:=pM t;have fl:=du cs;refine v1 (ae r) ?_;refine⟨O,?_⟩;refine v3 (ae r) (ae P) x4 ?_;refine⟨O,?_⟩;refine v2 (ae r) x4 ?_;refine⟨O,?_⟩;refine v3 (ae r) (ae P) F ?_;refine⟨O,?_⟩;refine v2 x4 F ?_;refine(lS x.2.1 x.2.2 y.2.1 y.2.2 _).mono ?_;rintro _ H2 ⟨rfl,K⟩;refine vs ?_;have d:=W.ext K (fun _ _ h=>h);have p:=I.trans (K.mono fun _ _ h=>h.elim);refine ai.dec (fun f=>?_) (fun f=>?_)<;>refine vs ?_
   ·exact .inr ⟨⟨l,m⟩,x,y,z,t,ajP Value.bool (ajQ (show pN a b x y from .inl f)).symm,d,p⟩
   ·refine ai.dec (fun heq=>?_) (fun heq=>?_)<;>refine vs ?_
    ·exact .inr ⟨⟨l,m⟩,x,y,z,t,ajP Value.bool (by rw[decide_eq_decide];exact⟨fun g=>.inr ⟨heq,g⟩,fun g=>g.elim O (·.2)⟩),d,p⟩
    ·exact .inr ⟨⟨l,m⟩,x,y,z,t,ajP Value.bool (ajO (show¬pN a b x y from fun g=>g.elim f (fun e=>heq e.1))).symm,d,p⟩
  ·exact .inl ⟨fun o=>m o.2,rfl,rfl⟩
 ·exact .inl ⟨fun o=>l o.1,rfl,rfl⟩
theorem bE.names{m:Hp}{S:Nat->Prop}{st:Int}{cs:List Ce}{len:Nat}{rt y:Nat->Nat}{aY:Int->Option Int}{w l a z:Nat}(h:bE H c S st cs len rt aY)
  (a1:H.own c=some [i64 st,.slice (some ⟨w,0,none⟩) cs.length cs.length,ptr l,.map (some z)])(a2:H.own w=some (bP cs))(a4:kl H z (fun i=>(aY i).map i64))
  (t:S c/\S w/\S l/\S a/\S z)(r:c≠w/\c≠l/\c≠a/\c≠z)(j:w≠l/\w≠a/\w≠z)(d:l≠z/\a≠z)
  (n:en m l a len y 65536)(e:aj (fun x=>x=l\/x=a) H m):
  bE m c S st cs len y aY/\aj S H m/\m.own c=some [i64 st,.slice (some ⟨w,0,none⟩) cs.length cs.length,ptr l,.map (some z)]/\kl m z (fun i=>(aY i).map i64):=by
 obtain⟨s1,s2,s3,q,o⟩:=t;have v:=e.own a1 O;have g:=a4.ext e O;exact⟨⟨⟨w,l,a,z,v,e.own a2 O,n,g,Z,r,j,d⟩,h.st0,h.st1,h.zf,fun x p=>aj0 (h.slt x p) e.size⟩,e.mono Z,v,g⟩
theorem qz{S:Nat->Prop}{st:Int}{cs:List Ce}{len:Nat}{rt:Nat->Nat}{aY:Int->Option Int}(h:bE H c S st cs len rt aY)(B:∀x∈cs,x.1<len)(i:Int):
  aF 222 [ptr c,i64 i] H fun v J=>ak (
   (¬cz cs i/\v= .tuple [i64 0,.bool false].toArray/\H=J)\/
   (cz cs i/\∃x,cs[i.toNat]? =some x/\v= .tuple [i64 (rt x.1.toNat),.bool true].toArray/\bE J c S st cs len rt aY/\aj S H J)):=by
 have w:=h;obtain⟨⟨d,C,K,A,a1,a2,a3,a4,l,a,n,m⟩,p,q,o,f⟩:=h;refine aT wg ?_;refine vs ?_;refine(fF w i).mono ?_;rintro _ _ ⟨rfl,rfl⟩;refine vs ?_;refine ai.dec (fun hi=>?_) (fun hi=>?_)<;>refine vs ?_
 ·obtain⟨u,x,z,P⟩:=id hi;have L:=(ajK.1 z).1;obtain⟨x1,x2,x3,x4⟩:=pM z;refine v1 (ae a1) ?_;refine⟨O,?_⟩;refine v4 (ae a2) x1 Nat.add_zero ajJ ?_;refine(Bq a3 x.1).mono ?_;rintro _ j (⟨t,_⟩| ⟨_,rfl,r,y⟩)
  ·exact absurd Z t
  refine vs ?_;obtain⟨e,g,_⟩:=w.names a1 a2 a4 l a n m r y;exact .inr ⟨hi,x,z,rfl,e,g⟩
 ·exact .inl ⟨hi,rfl,rfl⟩
theorem zO{S:Nat->Prop}{st:Int}{cs:List Ce}{len:Nat}{rt:Nat->Nat}{aY:Int->Option Int}(h:bE H c S st cs len rt aY)(i:Int):
  aF 219 [ptr c,i64 i] H fun v J=>ak (bE J c S st cs len rt aY/\af H J/\(
   (¬cz cs i/\v= .tuple [mE 0 0,.bool false].toArray)\/
   (cz cs i/\∃x,cs[i.toNat]? =some x/\v= .tuple [mE x.2.1 x.2.2,.bool true].toArray))):=by
 have w:af H (H.new 190 mB):=bD;have a:=h.ext w (fun _ _ h=>h);refine aT tY ?_;refine vs ?_;refine(fF a i).mono ?_;rintro _ _ ⟨rfl,rfl⟩;refine vs ?_;refine ai.dec (fun hi=>?_) (fun hi=>?_)<;>refine vs ?_
 ·obtain⟨q,x,l,o⟩:=id hi;have f:=(ajK.1 l).1;obtain⟨x1,x2,x3,x4⟩:=pM l;have t:=du cs;obtain⟨⟨y,B,P,u,a1,a2,a3,a4,n,m,e,g⟩,r,j,d,p⟩:=id a;refine v1 (ae a1) ?_;refine⟨O,?_⟩;refine v1 (ae a2) ?_;refine⟨O,?_⟩;simp(disch:=(first|exact aV|fail)) only[go_sem, ↓reduceIte,Zv,x4,cf (am H 190 mB)];have z:af H ((H.new 190 mB).wr H.size [i64 x.2.1,u64 x.2.2]):=w.wr O _;exact⟨h.ext z (fun _ _ h=>h),z,.inr ⟨hi,x,l,rfl⟩⟩
 ·simp(disch:=(first|exact aV|fail)) only[go_sem, ↓reduceIte,Zv,cf (am H 190 mB)];have z:af H ((H.new 190 mB).wr H.size mB):=w.wr O _;exact⟨h.ext z (fun _ _ h=>h),z,.inl ⟨hi,rfl⟩⟩
def dG(m:Int->Option Int)(i n:Int):Int->Option Int:=fun j=>if j=i then some n else m j
def lT(m:Int->Option Int)(i:Int):Int->Option Int:=fun j=>if j=i then none else m j
theorem Df(m:Int->Option Int)(i n:Int):GH (fun j=>(m j).map i64) i (i64 n)=fun j=>(dG m i n j).map i64:=by
 funext j;unfold GH dG;grind
theorem Dg(m:Int->Option Int)(i:Int):Kg (fun j=>(m j).map i64) i=fun j=>(lT m i j).map i64:=by
 funext j;unfold Kg lT;grind
theorem mR(m:Int->Option Int)(g:Int):gN false (Value.int .i64 0) ((m g).map i64)=i64 (dh m g):=by
 unfold dh;cases m g<;>rfl
theorem Bx{S:Nat->Prop}{st:Int}{cs:List Ce}{len:Nat}{rt:Nat->Nat}{aY:Int->Option Int}(h:bE H c S st cs len rt aY)(a b:Int)(hm:∀j,0<=dh aY j/\dh aY j<=1000000):
  aF 239 [ptr c,i64 a,i64 b] H fun v J=>ak (
   let ok:=(0<a/\a<len/\rt a.toNat=a.toNat)/\(0<b/\b<len/\rt b.toNat=b.toNat)/\a≠b
   (¬ok/\v= .bool false/\H=J)\/
   (ok/\v= .bool true/\bE J c S st cs len (fun i=>if rt i=b.toNat then a.toNat else rt i) (if 0<dh aY b then lT (dG aY a (dh aY a+dh aY b)) b else aY)/\aj S H J)):=by
 have K:=h;obtain⟨⟨C,W,I,f,a1,a2,a3,a4,r,w,e,l⟩,T,F,N,Q⟩:=h;have G:=hm a;have D:=hm b;refine aT wo ?_;refine v1 (ae a1) ?_;refine(Bp a3 a b).mono ?_;rintro _ B (⟨m,rfl,rfl⟩| ⟨m,rfl,u,y⟩)
 ·refine vs ?_;exact .inl ⟨m,rfl,rfl⟩
 ·obtain⟨P,d,n,g⟩:=K.names a1 a2 a4 r w e l u y;refine v3 (ae n) g.look mR ?_;refine ai.dec (fun t=>?_) (fun t=>?_)<;>refine vs ?_
  ·refine v3 (ae n) g.look mR ?_;rw[wrap64 O O];refine g.Wt fun V q p=>?_;have L:=p.own n w.2.2.2;rw[Df]at q;refine v1 (ae L) ?_;refine q.del fun H3 o A=>?_;rw[Dg]at o;refine vs ?_;have z:aj (fun x=>x=f) B H3:=p.trans A;refine .inr ⟨m,rfl,?_,d.trans (z.mono Z)⟩;rw[if_pos t];exact⟨⟨C,W,I,f,z.own n w.2.2.2,z.own (y.own a2 O) e.2.2,u.ext z l.1 l.2,o,r,w,e,l⟩,T,F,N,fun x U=>aj0 (Q x U) (akc y.size z.size)⟩
  ·refine .inr ⟨m,rfl,?_,d⟩;rw[if_neg t];exact P
theorem By{S:Nat->Prop}{st:Int}{cs:List Ce}{len:Nat}{rt:Nat->Nat}{aY:Int->Option Int}(h:bE H c S st cs len rt aY)(N:∀x∈cs,x.1<len)(i:Int)(hm:∀j,0<=dh aY j/\dh aY j<=1000000):
  aF 232 [ptr c,i64 i] H fun v J=>ak (
   (¬cz cs i/\v= .bool false/\H=J)\/
   (cz cs i/\v= .bool true/\∃x,cs[i.toNat]? =some x/\
    bE J c S st (cs.set i.toNat (0,0,0)) len rt (if dh aY (rt x.1.toNat) - 1=0 then lT (dG aY (rt x.1.toNat) (dh aY (rt x.1.toNat) - 1)) (rt x.1.toNat)else dG aY (rt x.1.toNat) (dh aY (rt x.1.toNat) - 1))/\aj S H J)):=by
 refine aT wi ?_;refine vs ?_;refine(qz h N i).mono ?_;rintro _ g (⟨hi,rfl,rfl⟩| ⟨hi,x,z,rfl,F,o⟩)
 ·refine vs ?_;exact .inl ⟨hi,rfl,rfl⟩
 ·have D:=(ajK.1 z).1;have V:=hi.1;have W:=du cs;obtain⟨⟨a,K,T,C,a1,a2,a3,a4,d,m,w,l⟩,B,P,I,L⟩:=F;have G:=hm (rt x.1.toNat);refine v1 (ae a1) ?_;refine⟨O,?_⟩;refine v1 a2 ?_;refine⟨O,?_⟩;rw[show aS (bP cs) (i.toNat*3) (aK (Value.agg #[Value.int .i64 0,Value.int .i64 0,Value.int .u64 0]))=bP (cs.set i.toNat (0,0,0))from tF cs i.toNat (0,0,0) O];have y:aj (fun x=>x=a) g (g.wr a (bP (cs.set i.toNat (0,0,0)))):=(aj.refl (fun x=>x=a) _).wr (fun _=>rfl) _;have f:=y.own a1 m.1;have u:(g.wr a (bP (cs.set i.toNat (0,0,0)))).own a=_:=ah a2;have c3:=a3.ext y (Ne.symm w.1) (Ne.symm w.2.1);have c4:=a4.ext y (Ne.symm w.2.2);refine v3 (ae f) c4.look mR ?_;rw[wrap64 O O];refine c4.Wt fun H2 r n=>?_;rw[Df]at r;have p:=n.own f m.2.2.2;have Q:dh (dG aY (rt x.1.toNat) (dh aY (rt x.1.toNat) - 1)) (rt x.1.toNat)=dh aY (rt x.1.toNat) - 1:=by simp[dh,dG]
  refine v4 (ae p) r.look mR Q ?_;have t:aj S g H2:=(y.mono Z).trans (n.mono Z);refine ai.dec (fun q=>?_) (fun q=>?_)<;>refine v1 (ae p) ?_
  ·refine r.del fun U A e=>?_;rw[Dg]at A;refine vs ?_;refine .inr ⟨hi,rfl,x,z,?_,(o.trans t).trans (e.mono fun x _ z=>z▸d.2.2.2.2)⟩;rw[if_pos q];exact⟨⟨a,K,T,C,by rw[ajN];exact e.own p m.2.2.2,(e.own (n.own u w.2.2) w.2.2),(c3.ext n l.1 l.2).ext e l.1 l.2,A,d,m,w,l⟩,B,P,Z,fun x z=>aj0 (L x z) (akc t.size e.size)⟩
  ·refine .inr ⟨hi,rfl,x,z,?_,o.trans t⟩;rw[if_neg q];exact⟨⟨a,K,T,C,Z,n.own u w.2.2,c3.ext n l.1 l.2,r,d,m,w,l⟩,B,P,Z,fun x z=>aj0 (L x z) t.size⟩
theorem KH(cs:List Ce)(i:Nat)(x:Ce)(k s:Int)(h:cs[i]? =some x):aS (bP cs) (i*3+1) [i64 k,u64 s]=bP (cs.set i (x.1,k,s)):=by
 simp only[aS];induction cs generalizing i with
 |nil=>rfl
 |cons a r w=>
  have e:bP (a::r)=i64 a.1::i64 a.2.1::u64 a.2.2::bP r:=rfl;cases i with
  |zero=>
   simp at h;subst h;rfl
  |succ i=>
   have z:bP ((a::r).set (i+1) (x.1,k,s))=i64 a.1::i64 a.2.1::u64 a.2.2::bP (r.set i (x.1,k,s)):=rfl;grind
theorem zP{S:Nat->Prop}{st:Int}{cs:List Ce}{len:Nat}{rt:Nat->Nat}{aY:Int->Option Int}(h:bE H c S st cs len rt aY)(i k s:Int):
  aF 229 [ptr c,i64 i,mE k s] H fun v J=>ak (
   (¬ (cz cs i/\∀x,cs[i.toNat]? =some x->¬ef x.2.1 x.2.2 k s)/\v= .bool false/\bE J c S st cs len rt aY/\af H J)\/
   (cz cs i/\v= .bool true/\∃x,cs[i.toNat]? =some x/\¬ef x.2.1 x.2.2 k s/\bE J c S st (cs.set i.toNat (x.1,k,s)) len rt aY/\aj S H J)):=by
 have n:af H (H.new 190 [i64 k,u64 s]):=bD;have e:=h.ext n (fun _ _ h=>h);refine aT ua ?_;simp(disch:=(first|exact aV|fail)) only[go_sem, ↓reduceIte,Zv,mE];refine(fF e i).mono ?_;rintro _ _ ⟨rfl,rfl⟩;refine vs ?_;refine ai.dec (fun hi=>?_) (fun hi=>?_)<;>refine vs ?_
 ·obtain⟨F,x,w,N⟩:=id hi;have Q:=(ajK.1 w).1;obtain⟨x1,x2,x3,x4⟩:=pM w;have K:=du cs;obtain⟨⟨m,A,C,L,a1,a2,a3,a4,q,j,a,o⟩,f,u,T,B⟩:=id e;refine v1 (ae a1) ?_;refine⟨O,?_⟩;refine v1 (ae a2) ?_;refine⟨O,?_⟩;refine v1 x4 ?_;refine(Bv x.2.1 x.2.2 k s _).mono ?_;rintro _ r ⟨rfl,z⟩;have g:=z.own a1 (fun h=>h);have d:=z.own a2 (fun h=>h);have p:=z.own (am H 190 [i64 k,u64 s]) (fun h=>h);refine vs ?_;refine ai.dec (fun t=>?_) (fun t=>?_)<;>refine vs ?_
  ·exact .inl ⟨fun y=>y.2 x w t,rfl,e.ext z (fun _ _ h=>h),n.trans z⟩
  ·refine v2 (ae g) (ae p) ?_;refine⟨O,?_⟩;refine v3 (ae g) (ae p) d ?_;refine⟨O,?_⟩;refine vs ?_;have P:((bP cs).set (i.toNat*3+1) (i64 k)).set (i.toNat*3+1+1) (u64 s)=bP (cs.set i.toNat (x.1,k,s)):=KH cs i.toNat x k s w;rw[P];have l:aj (fun x=>x=m) r (r.wr m (bP (cs.set i.toNat (x.1,k,s)))):=(aj.refl (fun x=>x=m) _).wr (fun _=>rfl) _;refine .inr ⟨hi,rfl,x,w,t,⟨⟨m,A,C,L,by rw[ajN];exact l.own g j.1,ah d,(a3.ext z (fun h=>h) (fun h=>h)).ext l (Ne.symm a.1) (Ne.symm a.2.1),(a4.ext z (fun h=>h)).ext l (Ne.symm a.2.2),q,j,a,o⟩,f,u,Z,fun x w=>aj0 (B x w) (akc z.size l.size)⟩,
    ((n.trans z).mono fun _ _ h=>h.elim).trans (l.mono Z)⟩
 ·exact .inl ⟨fun y=>hi y.1,rfl,e,n⟩
structure Nw where
 hs:List Bool
 cs:List Ce
def Nw.has(w:Nw)(h:Int):Prop:=1<=h/\w.hs[h.toNat]? =some true
instance(w:Nw)(h:Int):Decidable (w.has h):=inferInstanceAs (Decidable (_/\_))
def Nw.len(w:Nw)(h:Int):Int:=if 0<h then(w.cs.countP fun c=>decide (c.1=h):Nat)else 0
def Nw.put(w:Nw)(i:Int)(c:Ce):Nw:=⟨w.hs,w.cs.set i.toNat c⟩
def Nw.make(w:Nw):Nw:=⟨w.hs++[true],w.cs⟩
def Nw.join(w:Nw)(a b:Int):Nw:=⟨w.hs.set b.toNat false,w.cs.map fun c=>if c.1=b then(a,c.2)else c⟩
def Nw.ahead(w:Nw)(a b:Int):Bool:=
 decide (cz w.cs a) && decide (cz w.cs b) && (match w.cs[a.toNat]?,w.cs[b.toNat]? with|some x,some y=>decide (pN a b x y)|_,_=>false)
theorem Nw.kt(w:Nw)(h:Int):0<=w.len h/\w.len h<=w.cs.length:=by
 unfold Nw.len;grind
structure lU(w:Nw)(cs:List Ce)(len:Nat)(rt:Nat->Nat)(aY:Int->Option Int):Prop where
 hl:w.hs.length=len
 h0:w.hs[0]? =some false
 hh:∀h,1<=h->h<len->w.hs[h]? =some (decide (rt h=h))
 cl:w.cs=cs.map fun c=>(if 0<c.1 then((rt c.1.toNat:Nat):Int)else 0,c.2)
 lt:∀c∈cs,0<=c.1/\c.1<len
 mn:∀h:Int,dh aY h=w.len h
 low:∀i,i<len->rt i<len
 Kz:∀i,i<len->rt (rt i)=rt i
 nz:∀i,i<len->rt i=0->i=0
def bk(H:Hp)(c:Nat)(S:Nat->Prop)(st:Int)(w:Nw):Prop:=∃cs len rt aY,bE H c S st cs len rt aY/\lU w cs len rt aY
theorem bk.ext{S T:Nat->Prop}{st:Int}{w:Nw}(h:bk H c S st w)(e:aj T H J)(a:∀x,S x->¬T x):bk J c S st w:=by
 obtain⟨cs,len,rt,aY,z,l⟩:=h;exact⟨cs,len,rt,aY,z.ext e a,l⟩
theorem bk.fresh{S:Nat->Prop}{st:Int}{w:Nw}(h:bk H c S st w)(e:af H J):bk J c S st w:=h.ext e fun _ _ h=>h
theorem bk.slt{S:Nat->Prop}{st:Int}{w:Nw}(h:bk H c S st w):∀x,S x->x<H.size:=by
 obtain⟨cs,len,rt,aY,z,l⟩:=h;exact z.slt
theorem bk.zf{S:Nat->Prop}{st:Int}{w:Nw}(h:bk H c S st w):w.cs.length<=65536:=by
 obtain⟨cs,len,rt,aY,x,z⟩:=h;rw[z.cl,aka];exact x.zf
theorem bk.st{S:Nat->Prop}{st:Int}{w:Nw}(h:bk H c S st w):0<=st/\st<=4611686018427387904:=by
 obtain⟨cs,len,rt,aY,x,z⟩:=h;exact⟨x.st0,x.st1⟩
theorem lU.JN{w:Nw}{cs:List Ce}{len:Nat}{rt:Nat->Nat}{aY:Int->Option Int}(h:lU w cs len rt aY)(i:Int):cz w.cs i↔cz cs i:=by
 unfold cz;rw[h.cl];simp only[aj9];constructor
 ·grind
 ·rintro⟨z,x,a,l⟩;refine⟨z,_,by rw[a];rfl,?_⟩;have n:=h.lt x Z;simp only[if_pos l];have m:rt x.1.toNat≠0:=fun e=>by have:=h.nz _ O e;omega
  omega
theorem lU.get{w:Nw}{cs:List Ce}{len:Nat}{rt:Nat->Nat}{aY:Int->Option Int}(h:lU w cs len rt aY){x:Ce}(z:cs[i]? =some x):w.cs[i]? =some (if 0<x.1 then((rt x.1.toNat:Nat):Int)else 0,x.2):=by
 rw[h.cl,aj9,z];rfl
theorem lU.KI{w:Nw}{cs:List Ce}{len:Nat}{rt:Nat->Nat}{aY:Int->Option Int}(h:lU w cs len rt aY)(g:Int):w.has g↔(0<g/\g<len/\rt g.toNat=g.toNat):=by
 unfold Nw.has;constructor
 ·rintro⟨l,x⟩;have z:=(ajK.1 x).1;rw[h.hl]at z;rw[h.hh g.toNat O z]at x;grind
 ·rintro⟨l,x,a⟩;exact⟨O,by rw[h.hh g.toNat O O,ajQ a]⟩
theorem kw(cap:Int)(H:Hp):aF 121 [i64 cap] H fun v J=>ak (
  af H J/\((¬ (0<=cap/\cap<=65536)/\v= .tuple [.pointer none,i64 31].toArray)\/
   (0<=cap/\cap<=65536)/\∃c S,v= .tuple [ptr c,i64 0].toArray/\bk J c S 0 ⟨[false],List.replicate cap.toNat (0,0,0)⟩/\(∀x,S x->H.size<=x))):=by
 refine(Dc cap H).mono ?_;rintro _ l ⟨f,⟨h,rfl⟩| ⟨h,c,S,rfl,z,w⟩⟩
 ·exact⟨f,.inl ⟨h,rfl⟩⟩
 ·refine⟨f,.inr ⟨h,c,S,rfl,⟨_,_,_,_,z,⟨rfl,rfl,O,?_,fun c a=>?_,fun h=>?_,fun i hi=>hi,fun i hi=>rfl,fun i hi h=>h⟩⟩,w⟩⟩
  ·simp
  ·grind
  ·unfold Nw.len dh;split
   ·simp only[Option.getD_none,List.countP_replicate];grind
   ·rfl
theorem gQ{S:Nat->Prop}{st:Int}{w:Nw}(h:bk H c S st w)(i:Int):
  aF 221 [ptr c,i64 i] H fun v J=>ak (v= .bool (decide (w.has i))/\H=J):=by
 obtain⟨cs,len,rt,aY,x,z⟩:=h;refine(sD x i).mono ?_;rintro _ _ ⟨rfl,rfl⟩;exact⟨ajP Value.bool (by rw[decide_eq_decide,z.KI]),rfl⟩
theorem gR{S:Nat->Prop}{st:Int}{w:Nw}(h:bk H c S st w)(i:Int):
  aF 224 [ptr c,i64 i] H fun v J=>ak (v=i64 (w.len i)/\H=J):=by
 obtain⟨cs,len,rt,aY,x,z⟩:=h;refine(Dd x i).mono ?_;rintro _ _ ⟨rfl,rfl⟩;exact⟨by rw[z.mn],rfl⟩
theorem jx{S:Nat->Prop}{st:Int}{w:Nw}(h:bk H c S st w):
  aF 238 [ptr c] H fun v J=>ak (
   (w.hs.length=65537/\v=i64 0/\H=J)\/
   (w.hs.length≠65537/\v=i64 w.hs.length/\∃a,bk J c a st w.make/\aj S H J/\∀x,a x->S x\/H.size<=x)):=by
 obtain⟨cs,len,rt,aY,r,z⟩:=h;refine(Bw r).mono ?_;have n:=z.hl;rintro _ q (⟨e,rfl,rfl⟩| ⟨e,rfl,a,g,y,t⟩)
 ·exact .inl Z
 ·refine .inr ⟨O,by rw[n],a,⟨_,_,_,_,g,?_⟩,y,t⟩;have d:0<w.hs.length:=(ajK.1 z.h0).1;refine⟨by simp[Nw.make,n],?_,fun h a1 a2=>?_,?_,fun c j=>by have:=z.lt c j;omega,z.mn,fun i hi=>?_,fun i hi=>?_,fun i hi m=>?_⟩
  ·show(w.hs++[true])[0]? =some false;rw[List.getElem?_append_left d];exact z.h0
  ·show(w.hs++[true])[h]? =_;by_cases l:h=len
   ·grind
   ·rw[List.getElem?_append_left O,z.hh h a1 O,if_neg l]
  ·show w.cs=_;rw[z.cl];apply akG;intro x p;have:=z.lt x p;grind
  ·by_cases l:i=len
   ·simp[l]
   ·have:=z.low i O;grind
  ·by_cases l:i=len
   ·simp[l]
   ·have:=z.low i O;simp only[if_neg l];rw[if_neg O];exact z.Kz i O
  ·by_cases l:i=len
   ·grind
   ·simp only[if_neg l]at m;exact z.nz i O m
theorem Nw.gm{w:Nw}{i:Int}{x y:Ce}(z:w.cs[i.toNat]? =some x)(h:Int):(w.put i y).len h=w.len h - (if 0<h/\x.1=h then 1 else 0)+(if 0<h/\y.1=h then 1 else 0):=by
 unfold Nw.len Nw.put;grind
theorem kA{S:Nat->Prop}{st:Int}{w:Nw}(h:bk H c S st w)(g i k s:Int):
  aF 236 [ptr c,i64 g,i64 i,mE k s] H fun v J=>ak (
   (¬ (w.has g/\(0<=i/\i<w.cs.length)/\¬cz w.cs i)/\v= .bool false/\bk J c S st w/\aj S H J)\/
   ((w.has g/\(0<=i/\i<w.cs.length)/\¬cz w.cs i)/\v= .bool true/\bk J c S st (w.put i (g,k,s))/\aj S H J)):=by
 obtain⟨cs,len,rt,aY,t,z⟩:=h;have r:w.cs.length=cs.length:=by rw[z.cl,aka]
 have B:=w.kt g;have u:=t.zf;refine(De t g i k s (by rw[z.mn];omega)).mono ?_;rintro _ f (⟨e,rfl,l,a⟩| ⟨e,rfl,l,a⟩)
 ·exact .inl ⟨by rw[z.KI,z.JN,r];exact e,rfl,⟨_,_,_,_,l,z⟩,a⟩
 ·refine .inr ⟨by rw[z.KI,z.JN,r];exact e,rfl,⟨_,_,_,_,l,?_⟩,a⟩;obtain⟨x,q⟩:∃x,cs[i.toNat]? =some x:=⟨_,ajL O⟩;have n:¬0<x.1:=fun n=>e.2.2 ⟨e.2.1.1,x,q,n⟩;have p:=z.get q;rw[if_neg n]at p;refine⟨z.hl,z.h0,z.hh,?_,fun y m=>?_,fun j=>?_,z.low,z.Kz,z.nz⟩
  ·show w.cs.set i.toNat _=_;rw[z.cl,akd];grind
  ·rcases akH m with m|rfl
   ·exact z.lt y m
   omega
  ·rw[Nw.gm p];by_cases d:j=g
   ·subst d;have o:=e.1.1;rw[if_neg O,if_pos ⟨o,rfl⟩,<-z.mn];simp[dh]
   ·rw[if_neg O,if_neg O,<-z.mn];simp[dh,d]
theorem da{S:Nat->Prop}{st:Int}{w:Nw}(h:bk H c S st w)(i:Int):
  aF 222 [ptr c,i64 i] H fun v J=>ak (
   (¬cz w.cs i/\v= .tuple [i64 0,.bool false].toArray/\H=J)\/
   (cz w.cs i/\∃x,w.cs[i.toNat]? =some x/\v= .tuple [i64 x.1,.bool true].toArray/\bk J c S st w/\aj S H J)):=by
 obtain⟨cs,len,rt,aY,y,z⟩:=h;refine(qz y (fun x l=>(z.lt x l).2) i).mono ?_;rintro _ r (⟨e,rfl,rfl⟩| ⟨e,x,l,rfl,m,g⟩)
 ·exact .inl ⟨by rw[z.JN];exact e,rfl,rfl⟩
 ·obtain⟨j,d,a,t⟩:=id e;rw[l]at a;injection a with a;subst a;have n:=z.get l;rw[if_pos t]at n;exact .inr ⟨by rw[z.JN];exact e,_,n,rfl,⟨_,_,_,_,m,z⟩,g⟩
theorem iL{S:Nat->Prop}{st:Int}{w:Nw}(h:bk H c S st w)(i:Int):
  aF 219 [ptr c,i64 i] H fun v J=>ak (bk J c S st w/\af H J/\(
   (¬cz w.cs i/\v= .tuple [mE 0 0,.bool false].toArray)\/
   (cz w.cs i/\∃x,w.cs[i.toNat]? =some x/\v= .tuple [mE x.2.1 x.2.2,.bool true].toArray))):=by
 obtain⟨cs,len,rt,aY,n,z⟩:=h;refine(zO n i).mono ?_;rintro _ g ⟨l,a,⟨e,rfl⟩| ⟨e,x,m,rfl⟩⟩
 ·exact⟨⟨_,_,_,_,l,z⟩,a,.inl ⟨by rw[z.JN];exact e,rfl⟩⟩
 ·exact⟨⟨_,_,_,_,l,z⟩,a,.inr ⟨by rw[z.JN];exact e,_,z.get m,rfl⟩⟩
theorem jy{S:Nat->Prop}{st:Int}{w:Nw}(h:bk H c S st w)(i:Int):
  aF 232 [ptr c,i64 i] H fun v J=>ak (
   (¬cz w.cs i/\v= .bool false/\H=J)\/
   (cz w.cs i/\v= .bool true/\bk J c S st (w.put i (0,0,0))/\aj S H J)):=by
 obtain⟨cs,len,rt,aY,g,z⟩:=h;have u:=g.zf;have f:w.cs.length=cs.length:=by rw[z.cl,aka]
 refine(By g (fun x a=>(z.lt x a).2) i (fun j=>by rw[z.mn];have:=w.kt j;omega)).mono ?_;rintro _ q (⟨e,rfl,rfl⟩| ⟨e,rfl,x,a,r,d⟩)
 ·exact .inl ⟨by rw[z.JN];exact e,rfl,rfl⟩
 ·obtain⟨o,L,n,l⟩:=id e;rw[a]at n;injection n with n;subst n;have t:=z.get a;rw[if_pos l]at t;have B:=z.lt x Z;have P:rt x.1.toNat≠0:=fun e=>by have:=z.nz _ O e;omega
  refine .inr ⟨by rw[z.JN];exact e,rfl,⟨_,_,_,_,r,z.hl,z.h0,z.hh,?_,fun y m=>?_,fun j=>?_,z.low,z.Kz,z.nz⟩,d⟩
  ·show w.cs.set i.toNat _=_;rw[z.cl,akd];rfl
  ·rcases akH m with m|rfl
   ·exact z.lt y m
   omega
  ·have l:=Nw.gm (y:=((0:Int),(0:Int),(0:Int))) t j;simp only at l;have hm:=z.mn j;by_cases p:j=rt x.1.toNat
   ·subst p;rw[if_pos ⟨O,rfl⟩,if_neg O]at l;rw[l,<-hm];grind [dh,dG,lT]
   ·rw[if_neg O,if_neg O]at l;rw[l,<-hm];grind [dh,dG,lT]
theorem iM{S:Nat->Prop}{st:Int}{w:Nw}(h:bk H c S st w)(i k s:Int):
  aF 229 [ptr c,i64 i,mE k s] H fun v J=>ak (
   (¬ (cz w.cs i/\∀x,w.cs[i.toNat]? =some x->¬ef x.2.1 x.2.2 k s)/\v= .bool false/\bk J c S st w/\af H J)\/
   (cz w.cs i/\v= .bool true/\∃x,w.cs[i.toNat]? =some x/\¬ef x.2.1 x.2.2 k s/\bk J c S st (w.put i (x.1,k,s))/\aj S H J)):=by
 obtain⟨cs,len,rt,aY,r,z⟩:=h;refine(zP r i k s).mono ?_;rintro _ p (⟨e,rfl,l,a⟩| ⟨e,rfl,x,n,d,l,a⟩)
 ·refine .inl ⟨fun g=>e ⟨(z.JN i).1 g.1,fun x n=>?_⟩,rfl,⟨_,_,_,_,l,z⟩,a⟩;have:=g.2 _ (z.get n);omega
 ·have t:=z.get n;refine .inr ⟨(z.JN i).2 e,rfl,_,t,d,⟨_,_,_,_,l,z.hl,z.h0,z.hh,?_,fun y m=>?_,fun j=>?_,z.low,z.Kz,z.nz⟩,a⟩
  ·show w.cs.set i.toNat _=_;rw[z.cl,akd]
  ·rcases akH m with m|rfl
   ·exact z.lt y m
   ·exact z.lt x Z
  ·rw[Nw.gm t,<-z.mn];omega
theorem AW(cs:List Ce)(a b h:Int)(x:a≠b):((cs.map fun c=>if c.1=b then(a,c.2)else c).countP fun c=>decide (c.1=h))=
  if h=a then(cs.countP fun c=>decide (c.1=a))+(cs.countP fun c=>decide (c.1=b))else if h=b then 0 else cs.countP fun c=>decide (c.1=h):=by
 induction cs with
 |nil=>simp
 |cons c cs z=>
  grind
theorem jz{S:Nat->Prop}{st:Int}{w:Nw}(h:bk H c S st w)(a b:Int):
  aF 239 [ptr c,i64 a,i64 b] H fun v J=>ak (
   (¬ (w.has a/\w.has b/\a≠b)/\v= .bool false/\H=J)\/
   ((w.has a/\w.has b/\a≠b)/\v= .bool true/\bk J c S st (w.join a b)/\aj S H J)):=by
 obtain⟨cs,len,rt,aY,z,x⟩:=h;have T:=z.zf;have K:w.cs.length=cs.length:=by rw[x.cl,aka]
 refine(Bx z a b (fun j=>by rw[x.mn];have:=w.kt j;omega)).mono ?_;rintro _ C (⟨e,rfl,rfl⟩| ⟨e,rfl,r,d⟩)
 ·exact .inl ⟨by rw[x.KI,x.KI];exact e,rfl,rfl⟩
 ·obtain⟨⟨a1,a2,a3⟩,⟨m,t,g⟩,n⟩:=e;have o:=x.hl;refine .inr ⟨⟨(x.KI a).2 ⟨a1,a2,a3⟩,(x.KI b).2 ⟨m,t,g⟩,n⟩,rfl,⟨_,_,_,_,r,by simp[Nw.join,o],?_,fun h p q=>?_,?_,x.lt,fun j=>?_,fun i hi=>?_,fun i hi=>?_,fun i hi F=>?_⟩,d⟩
  ·show(w.hs.set b.toNat false)[0]? =some false;rw[ajT O];exact x.h0
  ·show(w.hs.set b.toNat false)[h]? =_;by_cases y:h=b.toNat
   ·subst y;rw[ajY O,if_pos g,ajO O]
   ·rw[ajT (Ne.symm y),x.hh h p q];by_cases B:rt h=b.toNat
    ·rw[if_pos B];have:a.toNat≠h:=Z;grind
    grind
  ·show(w.cs.map _)=_;rw[x.cl,List.map_map];apply akG;grind
  ·have f:(w.join a b).len j=if j=a then w.len a+w.len b else if j=b then 0 else w.len j:=by
    unfold Nw.len Nw.join;simp only;by_cases u:0<j
    ·rw[if_pos u,AW w.cs a b j n,if_pos a1,if_pos m];grind
    ·omega
   rw[f];have P:=x.mn a;have L:=x.mn b;have A:=x.mn j;have N:=w.kt b;by_cases z:j=a
   ·subst z;rw[if_pos rfl];split
    ·simp only[dh,lT,dG,if_neg n,if_true,Option.getD_some];simp only[dh]at P L;omega
    ·omega
   ·rw[if_neg z];by_cases l:j=b
    ·subst l;rw[if_pos rfl];grind [lT,dh]
    ·rw[if_neg l];split
     ·rw[<-A];simp[dh,lT,dG,z,l]
     omega
  ·cases x;grind
  ·cases x;grind
  cases x;grind
theorem iN{S:Nat->Prop}{st:Int}{w:Nw}(h:bk H c S st w)(a b:Int):
  aF 262 [ptr c,i64 a,i64 b] H fun v J=>ak (v= .bool (w.ahead a b)/\bk J c S (if cz w.cs a/\cz w.cs b then fR st 1 else st) w/\aj S H J):=by
 obtain⟨cs,len,rt,aY,l,z⟩:=h;refine(zN l a b).mono ?_;rintro _ q (⟨e,rfl,rfl⟩| ⟨e,x,y,d,p,rfl,r,j⟩)
 ·have t:¬ (cz w.cs a/\cz w.cs b):=fun g=>e ⟨(z.JN a).1 g.1,(z.JN b).1 g.2⟩;refine⟨ajP Value.bool ?_,by rw[if_neg t];exact⟨_,_,_,_,l,z⟩,aj.refl _ _⟩;unfold Nw.ahead;grind
 ·have n:=(z.JN a).2 e.1;have m:=(z.JN b).2 e.2;refine⟨ajP Value.bool ?_,by rw[if_pos ⟨n,m⟩];exact⟨_,_,_,_,r,z⟩,j⟩;unfold Nw.ahead;rw[ajQ n,ajQ m,z.get d,z.get p];rfl
end
end Go.Proofs.YtjkkkibiegfecaaGreatDoor
