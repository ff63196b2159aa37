/- Texts put behind each other. -/
import Derived.Test.YtjkkkibiegfecaaGreatDoorK98
import Derived.Test.YtjkkkibiegfecaaGreatDoorK12
import Derived.Test.YtjkkkibiegfecaaGreatDoorK21
import Derived.Test.YtjkkkibiegfecaaGreatDoorK22
set_option maxRecDepth 100000
set_option maxHeartbeats 8000000
set_option linter.unusedVariables false
set_option linter.unusedSimpArgs false
namespace Go.Proofs.YtjkkkibiegfecaaGreatDoor
open Go Go.Vc
theorem fh.get{H:Hp}{size n:Nat}{v:Value}{xs:List Value}(h:fh H size v n xs){i j:Nat}{x:Value}(hj:j<size)(hx:xs[i*size+j]? =some x):
  ∃b o c l,v= .slice (some ⟨b,o,none⟩) n c∧H.rd b=some l∧i<n∧l[o+i*size+j]? =some x:=by
 obtain⟨hl,⟨rfl,a,c,rfl⟩| ⟨b,o,c,l,rfl,h2,h3,h4⟩⟩:=h
 ·rw[List.getElem?_eq_none (by omega)]at hx;cases hx
 ·have bf:i*size+j<n*size:=by
   have:=(aoj.1 hx).1;omega
  refine⟨b,o,c,l,rfl,h2,?_,?_⟩
  ·rcases ao3 i n with h|h
   ·exact h
   ·have:=apl size h;omega
  grind
def BO(a b:Int):Int:=if a<b then -1 else if b<a then 1 else 0
theorem lV(a:Int)(H:Hp):ag Tryz.prog A9 [i64 a] H fun v H'=>ap (v= .bool false∧H=H'):=by
 refine aU BB ?_
 refine v1 aoE ?_
 exact⟨rfl,rfl⟩
theorem kP(a:Int)(H:Hp):ag Tryz.prog zk [u64 a] H fun v H'=>ap (v= .bool false∧H=H'):=by
 refine aU zM ?_
 refine v1 aoE ?_
 exact⟨rfl,rfl⟩
theorem sR(a b:Int)(H:Hp):ag Tryz.prog w8 [i64 a,i64 b] H fun v H'=>ap (v=i64 (BO a b)∧H=H'):=by
 refine aU xz ?_
 refine vs ?_
 refine(lV a H).mono ?_
 rintro _ _ ⟨rfl,rfl⟩
 refine vs ?_
 refine(lV b H).mono ?_
 rintro _ _ ⟨rfl,rfl⟩
 refine vs ?_
 refine ar.dec (fun h=>?_) (fun h=>?_)<;>refine vs ?_
 ·exact⟨aoo i64 (by simp[BO,h]),rfl⟩
 ·refine ar.dec (fun h2=>?_) (fun h2=>?_)<;>refine vs ?_
  ·exact⟨aoo i64 (by simp[BO,h,show b<a from h2]),rfl⟩
  ·exact⟨aoo i64 (by simp[BO,h,show¬b<a from h2]),rfl⟩
theorem ry(a b:Int)(H:Hp):ag Tryz.prog uX [u64 a,u64 b] H fun v H'=>ap (v=i64 (BO a b)∧H=H'):=by
 refine aU vt ?_
 refine vs ?_
 refine(kP a H).mono ?_
 rintro _ _ ⟨rfl,rfl⟩
 refine vs ?_
 refine(kP b H).mono ?_
 rintro _ _ ⟨rfl,rfl⟩
 refine vs ?_
 refine ar.dec (fun h=>?_) (fun h=>?_)<;>refine vs ?_
 ·exact⟨aoo i64 (by simp[BO,h]),rfl⟩
 ·refine ar.dec (fun h2=>?_) (fun h2=>?_)<;>refine vs ?_
  ·exact⟨aoo i64 (by simp[BO,h,show b<a from h2]),rfl⟩
  ·exact⟨aoo i64 (by simp[BO,h,show¬b<a from h2]),rfl⟩
def Zt(xs:List Int):Int:=(xs.find? fun x=>x≠0).getD 0
theorem ER{H:Hp}{v:Value}{n:Nat}{xs:List Int}(h:fh H 1 v n (xs.map i64))(hn:n≤1000000)(hs:∃a c,v= .slice a n c):
  ag Tryz.prog Ks [v] H fun r H'=>ap (r=i64 (Zt xs)∧H=H'):=by
 obtain⟨a,c,rfl⟩:=hs
 have bu:xs.length=n:=by have:=h.1;simpa using this
 refine aU KA ?_
 refine vs ?_
 refine bX.intro (fun m env H1=>∃k:Nat,env=[(3,i64 0),(6,.slice a n c),(7,i64 n),(8,i64 k)]∧H1=H∧k≤n∧m=n - k∧∀j,j<k→xs[j]? =some 0) n (by grind) ?_
 rintro m env H1 ⟨k,rfl,rfl,hk,rfl,hz⟩
 refine vs ?_
 refine ar.dec (fun bf=>?_) (fun bf=>?_)<;>refine vs ?_
 ·have hkn:k<xs.length:=by omega
  obtain⟨b,o,c',l,hv,hr,_,hg⟩:=fh.get h (i:=k) (j:=0) (x:=i64 xs[k]) (by omega) (by grind)
  injection hv with e1 e2 e3
  subst e1
  refine⟨by omega,?_⟩
  simp only[aok,Nat.add_zero]at hg
  refine v4 hr Int.toNat_natCast aok hg ?_
  refine ar.dec (fun h0=>?_) (fun h0=>?_)<;>refine vs ?_
  ·rw[wrap64 (by omega) (by omega)]
   refine⟨n - (k+1),by omega,k+1,rfl,trivial,by omega,rfl,fun j hj=>?_⟩
   grind
  ·refine⟨aoo i64 ?_,rfl⟩
   unfold Zt
   have:xs.find? (fun x=>x≠0)=some xs[k]:=by
    rw[List.find?_eq_some_iff_getElem]
    refine⟨by simpa using h0,k,hkn,rfl,fun j hj=>?_⟩
    have:=hz j hj
    rw[aol (by omega)]at this
    injection this with this
    simp[this]
   rw[this];rfl
 ·refine⟨aoo i64 ?_,rfl⟩
  unfold Zt
  have:xs.find? (fun x=>x≠0)=none:=by
   rw[List.find?_eq_none]
   intro x hx
   obtain⟨j,hj,rfl⟩:=apu.1 hx
   have:=hz j (by omega)
   rw[aol hj]at this
   injection this with this
   simp[this]
  grind
def MB(k s k' s':Int):Int:=Zt [BO k k',BO s s']
def fQ(k s k' s':Int):Prop:=k<k'∨k=k'∧s<s'
instance(k s k' s':Int):Decidable (fQ k s k' s'):=by unfold fQ;infer_instance
theorem MC(k s k' s':Int):MB k s k' s'<0↔fQ k s k' s':=by
 unfold MB fQ Zt BO
 grind
theorem oE(k s k' s':Int)(H:Hp):ag Tryz.prog Ez [tE k s,tE k' s'] H fun v H'=>ap (v=i64 (MB k s k' s')∧ai H H'):=by
 refine aU EF ?_
 refine vs ?_
 refine⟨_,(sR k k' _).mono fun _ _ h=>⟨h.out.1,h.out.2.symm⟩,?_⟩
 refine(ry s s' _).mono ?_
 rintro _ _ ⟨rfl,rfl⟩
 refine vs ?_
 refine(ER (n:=2) (xs:=[BO k k',BO s s']) (Sl.dM (size:=1) rfl (by simp only[ak])).rd (by omega) ⟨_,_,rfl⟩).mono ?_
 rintro _ _ ⟨rfl,rfl⟩
 exact⟨rfl,(((ah.refl _ _).new _ _).new _ _).new _ _⟩
theorem ES(k s k' s':Int)(H:Hp):ag Tryz.prog Kq [tE k s,tE k' s'] H fun v H'=>ap (v= .bool (decide (fQ k s k' s'))∧ai H H'):=by
 refine aU Kz ?_
 refine vs ?_
 refine(oE k s k' s' _).mono ?_
 rintro _ _ ⟨rfl,hf⟩
 refine vs ?_
 refine⟨aoo Value.bool (by rw[decide_eq_decide];exact MC _ _ _ _),?_⟩
 exact(((ah.refl _ _).new _ _).new _ _).trans hf
def gu(m n:Int):Int:=if n≤0 then m else if n>4611686018427387904 - m then 4611686018427387904 else m+n
theorem Di{H:Hp}{b:Nat}{m:Int}{r:List Value}(h:H.own b=some (i64 m::r))(hm:0≤m∧m≤4611686018427387904)(n:Int)(hn:n≤4611686018427387904):
  ag Tryz.prog w9 [ptr b,i64 n] H fun v H'=>ap (v= .tuple [].toArray∧H'=H.wr b (i64 (gu m n)::r)∨v= .tuple [].toArray∧H'=H∧gu m n=m):=by
 refine aU xD ?_
 refine vs ?_
 refine ar.dec (fun h0=>?_) (fun h0=>?_)<;>refine v1 (ae h) ?_
 ·exact .inr ⟨rfl,rfl,by simp[gu,h0]⟩
 ·rw[wrap64 (by omega) (by omega)]
  refine ar.dec (fun h1=>?_) (fun h1=>?_)<;>refine v2 (ae h) h ?_
  ·exact .inl ⟨rfl,by rw[gu,if_neg h0,if_pos h1]⟩
  ·exact .inl ⟨rfl,by rw[gu,if_neg h0,if_neg h1,wrap64 (by omega) (by omega)]⟩
abbrev Ce:=Int×Int×Int
def cw(cs:List Ce):List Value:=cs.flatMap fun c=>[i64 c.1,i64 c.2.1,u64 c.2.2]
theorem gJ(cs:List Ce):(cw cs).length=cs.length*3:=by
 induction cs with
 |nil=>rfl
 |cons c r ih=>simp only[cw,List.flatMap_cons,aos,aop,aoH]at*;omega
theorem QT(n:Nat):cw (List.replicate n (0,0,0))=dE [.int .i64 0,.int .i64 0,.int .u64 0] n:=by
 simp[cw,dE,List.flatMap_def,List.map_replicate]
theorem et.lt2{H:Hp}{b s len:Nat}{rt:Nat→Nat}{fy:Int}(h:et H b s len rt fy):s<H.size:=by
 obtain⟨⟨sv,cE,PI,a1,a2,a3⟩,_⟩:=h
 exact a2.lt
structure bH(H:Hp)(c:Nat)(S:Nat→Prop)(st:Int)(cs:List Ce)(len:Nat)(rt:Nat→Nat)(aQ:Int→Option Int):Prop where
 rep:∃fb nb ns mb,H.own c=some [i64 st,.slice (some ⟨fb,0,none⟩) cs.length cs.length,ptr nb,.map (some mb)]∧H.own fb=some (cw cs)∧et H nb ns len rt 65536∧mi H mb (fun i=>(aQ i).map i64)∧
  (S c∧S fb∧S nb∧S ns∧S mb)∧(c≠fb∧c≠nb∧c≠ns∧c≠mb)∧(fb≠nb∧fb≠ns∧fb≠mb)∧(nb≠mb∧ns≠mb)
 st0:0≤st
 st1:st≤4611686018427387904
 CI:cs.length≤65536
 slt:∀x,S x→x<H.size
theorem bH.ext{H H':Hp}{c:Nat}{S T:Nat→Prop}{st:Int}{cs:List Ce}{len:Nat}{rt:Nat→Nat}{aQ:Int→Option Int}(h:bH H c S st cs len rt aQ)
  (e:ah T H H')(hd:∀x,S x→¬T x):bH H' c S st cs len rt aQ:=by
 obtain⟨⟨fb,nb,ns,mb,a1,a2,a3,a4,⟨s1,s2,s3,s4,s5⟩,a6,a7⟩,h2,h3,h4,h5⟩:=h
 exact⟨⟨fb,nb,ns,mb,e.own a1 (hd _ s1),e.own a2 (hd _ s2),a3.ext e (hd _ s3) (hd _ s4),a4.ext e (hd _ s5),by grind,a6,a7⟩,h2,h3,h4,fun x hx=>aoz (h5 x hx) e.size⟩
theorem GL(cap:Int)(H:Hp):ag Tryz.prog uV [i64 cap] H fun v H'=>ap (
  ai H H'∧((¬ (0≤cap∧cap≤65536)∧v= .tuple [.pointer none,i64 31].toArray)∨
   (0≤cap∧cap≤65536)∧∃c S,v= .tuple [ptr c,i64 0].toArray∧bH H' c S 0 (List.replicate cap.toNat (0,0,0)) 1 id (fun _=>none)∧(∀x,S x→H.size≤x))):=by
 refine aU Ml ?_
 refine vs ?_
 refine ar.dec (fun h=>?_) (fun h=>?_)<;>refine vs ?_
 ·exact⟨ah.refl _ _,.inl ⟨by omega,rfl⟩⟩
 ·refine ar.dec (fun h2=>?_) (fun h2=>?_)<;>refine vs ?_
  ·exact⟨ah.refl _ _,.inl ⟨by omega,rfl⟩⟩
  ·refine(GA 65536 H).mono ?_
   rintro _ H1 ⟨hf,⟨hc,_⟩| ⟨_,nb,ns,rfl,hn,b1,b2,b3,b4⟩⟩
   ·omega
   refine vs ?_
   refine⟨by omega,?_⟩
   refine vs ?_
   have hs:(H1.new 363 (dE [.int .i64 0,.int .i64 0,.int .u64 0] cap.toNat)).own H1.size=some (cw (List.replicate cap.toNat (0,0,0))):=by
    rw[QT]
    exact aA _ _ _
   have he:ah (fun _=>False) (H1.new 363 (dE [.int .i64 0,.int .i64 0,.int .u64 0] cap.toNat)) _:=
    ((ah.refl _ _).js).new 283 [.int .i64 0,.slice (some ⟨H1.size,0,none⟩) cap.toNat cap.toNat,.pointer (some ⟨nb,0,none⟩),.map (some (H1.size+1))]
   have hm:mi (H1.new 363 (dE [.int .i64 0,.int .i64 0,.int .u64 0] cap.toNat)).js (H1.size+1) (fun _=>none):=by
    have:=mi.new (H1.new 363 (dE [.int .i64 0,.int .i64 0,.int .u64 0] cap.toNat))
    rwa[ak]at this
   have QJ:=hf.size
   have hl:(List.replicate cap.toNat ((0,0,0):Ce)).length=cap.toNat:=by grind
   refine⟨(hf.trans ((ah.refl _ _).new 363 _)).trans he,.inr ⟨by omega,H1.size+1+1,fun x=>H.size≤x∧x<H1.size+1+1+1,rfl,⟨⟨H1.size,nb,ns,H1.size+1,by grind [aR,ak,kS],he.own hs (fun h=>h),
    (hn.ext ((ah.refl (fun _=>False) _).new 363 _) (fun h=>h) (fun h=>h)).ext he (fun h=>h) (fun h=>h),hm.ext ((ah.refl (fun _=>False) _).new _ _) (fun h=>h),?_,?_,?_,?_⟩,by omega,by omega,by omega,?_⟩,fun x h=>h.1⟩⟩
   ·omega
   ·omega
   ·omega
   ·omega
   ·intro x hx
    simp only[ak,kS]
    omega
theorem vK{H:Hp}{c:Nat}{S:Nat→Prop}{st:Int}{cs:List Ce}{len:Nat}{rt:Nat→Nat}{aQ:Int→Option Int}(h:bH H c S st cs len rt aQ)(i:Int):
  ag Tryz.prog bJ [ptr c,i64 i] H fun v H'=>ap (v= .bool (decide (0<i∧i<len∧rt i.toNat=i.toNat))∧H=H'):=by
 obtain⟨⟨fb,nb,ns,mb,a1,a2,a3,a4,a5,a6,a7⟩,h2,h3,h4,h5⟩:=h
 refine aU Bw ?_
 refine v1 (ae a1) ?_
 refine(ou a3 i).mono ?_
 rintro _ _ ⟨rfl,rfl⟩
 refine vs ?_
 exact⟨rfl,rfl⟩
def db(aQ:Int→Option Int)(i:Int):Int:=(aQ i).getD 0
theorem GM{H:Hp}{c:Nat}{S:Nat→Prop}{st:Int}{cs:List Ce}{len:Nat}{rt:Nat→Nat}{aQ:Int→Option Int}(h:bH H c S st cs len rt aQ)(i:Int):
  ag Tryz.prog bK [ptr c,i64 i] H fun v H'=>ap (v=i64 (db aQ i)∧H=H'):=by
 obtain⟨⟨fb,nb,ns,mb,a1,a2,a3,a4,a5,a6,a7⟩,h2,h3,h4,h5⟩:=h
 refine aU Bx ?_
 refine v2 (ae a1) a4.look ?_
 refine⟨?_,rfl⟩
 unfold db
 cases aQ i<;>rfl
theorem rz{H:Hp}{c:Nat}{S:Nat→Prop}{st:Int}{cs:List Ce}{len:Nat}{rt:Nat→Nat}{aQ:Int→Option Int}(h:bH H c S st cs len rt aQ)(i:Int):
  ag Tryz.prog w7 [ptr c,i64 i] H fun v H'=>ap (v= .bool (decide (0≤i∧i<cs.length))∧H=H'):=by
 obtain⟨⟨fb,nb,ns,mb,a1,a2,a3,a4,a5,a6,a7⟩,h2,h3,h4,h5⟩:=h
 refine aU xy ?_
 refine vs ?_
 refine ar.dec (fun h=>?_) (fun h=>?_)<;>refine v1 (ae a1) ?_
 ·exact⟨aoo Value.bool (by grind),rfl⟩
 ·exact⟨aoo Value.bool (by grind),rfl⟩
theorem sS{cs:List Ce}{i:Nat}{c:Ce}(hi:cs[i]? =some c):
  (cw cs)[i*3]? =some (i64 c.1)∧(cw cs)[i*3+1]? =some (i64 c.2.1)∧(cw cs)[i*3+2]? =some (u64 c.2.2)∧((cw cs).drop (i*3+1)).take 2=[i64 c.2.1,u64 c.2.2]:=by
 have hx:∀ (cs:List Ce) (i:Nat) (c:Ce),cs[i]? =some c→(cw cs)[i*3]? =some (i64 c.1)∧(cw cs)[i*3+1]? =some (i64 c.2.1)∧(cw cs)[i*3+2]? =some (u64 c.2.2):=by
  intro cs
  induction cs with
  |nil=>grind
  |cons a r ih=>
   intro i c h
   have e:cw (a::r)=i64 a.1::i64 a.2.1::u64 a.2.2::cw r:=rfl
   rw[e]
   cases i with
   |zero=>grind
   |succ i=>
    grind
 obtain⟨x0,x1,x2⟩:=hx cs i c hi
 refine⟨x0,x1,x2,?_⟩
 apply aoM
 grind
def cI(cs:List Ce)(i:Int):Prop:=0≤i∧∃c,cs[i.toNat]? =some c∧0<c.1
instance(cs:List Ce)(i:Int):Decidable (cI cs i):=
 match h:cs[i.toNat]? with
 |none=>.isFalse fun⟨_,c,h1,_⟩=>by grind
 |some c=>if h0:0≤i∧0<c.1 then .isTrue ⟨h0.1,c,h,h0.2⟩else .isFalse fun⟨h1,c',h2,h3⟩=>by grind
theorem fJ{H:Hp}{c:Nat}{S:Nat→Prop}{st:Int}{cs:List Ce}{len:Nat}{rt:Nat→Nat}{aQ:Int→Option Int}(h:bH H c S st cs len rt aQ)(i:Int):
  ag Tryz.prog CW [ptr c,i64 i] H fun v H'=>ap (v= .bool (decide (cI cs i))∧H=H'):=by
 have ht:=rz h i
 obtain⟨⟨fb,nb,ns,mb,a1,a2,a3,a4,a5,a6,a7⟩,h2,h3,h4,h5⟩:=h
 refine aU C5 ?_
 refine vs ?_
 refine ht.mono ?_
 rintro _ _ ⟨rfl,rfl⟩
 refine vs ?_
 refine ar.dec (fun h=>?_) (fun h=>?_)<;>refine v1 (ae a1) ?_
 ·obtain⟨x,hx⟩:∃x,cs[i.toNat]? =some x:=⟨_,aol (by omega)⟩
  obtain⟨x0,x1,x2,x3⟩:=sS hx
  refine⟨by omega,?_⟩
  refine v4 (ae a2) x0 Nat.add_zero aoi ?_
  exact⟨aoo Value.bool (by rw[decide_eq_decide];exact⟨fun hh=>⟨h.1,x,hx,hh⟩,fun⟨_,c,e1,e2⟩=>by grind⟩),rfl⟩
 ·exact⟨aoo Value.bool (aow (by rintro⟨x,c,x1,x2⟩;grind)).symm,rfl⟩
theorem JF(cs:List Ce)(i:Nat)(c:Ce)(hi:i<cs.length):aX (cw cs) (i*3) [i64 c.1,i64 c.2.1,u64 c.2.2]=cw (cs.set i c):=by
 simp only[aX]
 induction cs generalizing i with
 |nil=>rfl
 |cons a r ih=>
  have e:cw (a::r)=i64 a.1::i64 a.2.1::u64 a.2.2::cw r:=rfl
  cases i with
  |zero=>rfl
  |succ i=>
   have e2:cw ((a::r).set (i+1) c)=i64 a.1::i64 a.2.1::u64 a.2.2::cw (r.set i c):=rfl
   grind
theorem ET{H:Hp}{c:Nat}{S:Nat→Prop}{st:Int}{cs:List Ce}{len:Nat}{rt:Nat→Nat}{aQ:Int→Option Int}(h:bH H c S st cs len rt aQ):
  ag Tryz.prog dN [ptr c] H fun v H'=>ap (
   (len=65537∧v=i64 0∧H=H')∨
   (len≠65537∧v=i64 len∧∃S',bH H' c S' st cs (len+1) (fun i=>if i=len then i else rt i) aQ∧ah S H H'∧∀x,S' x→S x∨H.size≤x)):=by
 obtain⟨⟨fb,nb,ns,mb,a1,a2,a3,a4,a5,a6,a7⟩,h2,h3,h4,h5⟩:=h
 refine aU zG ?_
 refine v1 (ae a1) ?_
 refine(EL a3).mono ?_
 rintro _ H1 (⟨hl,rfl,rfl⟩| ⟨hl,rfl,s',b1,b2,b3⟩)
 ·refine vs ?_
  exact .inl ⟨by omega,rfl,rfl⟩
 ·refine vs ?_
  obtain⟨s1,s2,s3,s4,s5⟩:=a5
  obtain⟨d1,d2,d3,d4⟩:=a6
  obtain⟨⟨d5,d6,d7⟩,d8,d9⟩:=a7
  have l1:=aE a1
  have l2:=aE a2
  have l3:=a4.lt
  refine .inr ⟨by omega,rfl,fun x=>S x∨x=s',⟨⟨fb,nb,s',mb,b2.own a1 (by omega),b2.own a2 (by omega),b1,a4.ext b2 (by omega),by grind,by omega,by omega,d8,by omega⟩,h2,h3,h4,fun x hx=>hx.elim (fun h=>aoz (h5 x h) b2.size) (fun h=>by rw[h];exact b1.lt2)⟩,
   b2.mono (by grind),?_⟩
  grind
theorem GN{H:Hp}{c:Nat}{S:Nat→Prop}{st:Int}{cs:List Ce}{len:Nat}{rt:Nat→Nat}{aQ:Int→Option Int}(h:bH H c S st cs len rt aQ)(g i k s:Int)
  (hm:db aQ g≤1000000∧0≤db aQ g):
  ag Tryz.prog jy [ptr c,i64 g,i64 i,tE k s] H fun v H'=>ap (
   let ok:=(0<g∧g<len∧rt g.toNat=g.toNat)∧(0≤i∧i<cs.length)∧¬cI cs i
   (¬ok∧v= .bool false∧bH H' c S st cs len rt aQ∧ah S H H')∨
   (ok∧v= .bool true∧bH H' c S st (cs.set i.toNat (g,k,s)) len rt (fun j=>if j=g then some (db aQ g+1)else aQ j)∧ah S H H')):=by
 have DZ:ah (fun _=>False) H (H.new 190 [i64 k,u64 s]):=(ah.refl _ _).new _ _
 have h':=h.ext DZ (fun _ _ h=>h)
 refine aU BA ?_
 simp(disch:=(first|omega| (simp only[Zs]<;>omega)|fail)) only[go_sem, ↓reduceIte,Zv,tE]
 refine(vK h' g).mono ?_
 rintro _ _ ⟨rfl,rfl⟩
 refine vs ?_
 have Sz:∀v,v=Value.bool false→¬ ((0<g∧g<len∧rt g.toNat=g.toNat)∧(0≤i∧i<cs.length)∧¬cI cs i)→
   ((¬ ((0<g∧g<len∧rt g.toNat=g.toNat)∧(0≤i∧i<cs.length)∧¬cI cs i)∧v= .bool false∧bH (H.new 190 [i64 k,u64 s]) c S st cs len rt aQ∧ah S H (H.new 190 [i64 k,u64 s]))∨
   (((0<g∧g<len∧rt g.toNat=g.toNat)∧(0≤i∧i<cs.length)∧¬cI cs i)∧v= .bool true∧bH (H.new 190 [i64 k,u64 s]) c S st (cs.set i.toNat (g,k,s)) len rt (fun j=>if j=g then some (db aQ g+1)else aQ j)∧ah S H (H.new 190 [i64 k,u64 s]))):=
  fun v hv hn=>.inl ⟨hn,hv,h',(ah.refl _ _).new _ _⟩
 refine ar.dec (fun hg=>?_) (fun hg=>?_)<;>refine vs ?_
 ·refine(rz h' i).mono ?_
  rintro _ _ ⟨rfl,rfl⟩
  refine vs ?_
  refine ar.dec (fun hi=>?_) (fun hi=>?_)<;>refine vs ?_
  ·refine(fJ h' i).mono ?_
   rintro _ _ ⟨rfl,rfl⟩
   refine vs ?_
   refine ar.dec (fun ci=>?_) (fun ci=>?_)<;>refine vs ?_
   ·exact Sz _ rfl (by grind)
   ·obtain⟨⟨fb,nb,ns,mb,a1,a2,a3,a4,a5,a6,a7⟩,h2,h3,h4,h5⟩:=h'
    refine v1 (ae a1) ?_
    refine⟨by omega,?_⟩
    refine v1 a2 ?_
    refine⟨by rw[gJ];omega,?_⟩
    rw[show aX (cw cs) (i.toNat*3) (aI (Value.agg #[Value.int .i64 g,i64 k,u64 s]))=cw (cs.set i.toNat (g,k,s))from JF cs i.toNat (g,k,s) (by omega)]
    obtain⟨s1,s2,s3,s4,s5⟩:=a5
    obtain⟨d1,d2,d3,d4⟩:=a6
    obtain⟨⟨d5,d6,d7⟩,d8,d9⟩:=a7
    have e1:ah (fun x=>x=fb) (H.new 190 [i64 k,u64 s]) ((H.new 190 [i64 k,u64 s]).wr fb (cw (cs.set i.toNat (g,k,s)))):=(ah.refl (fun x=>x=fb) _).wr (fun _=>rfl) _
    have a1':=e1.own a1 d1
    have Xd:((H.new 190 [i64 k,u64 s]).wr fb (cw (cs.set i.toNat (g,k,s)))).own fb=_:=af a2
    have a3':=a3.ext e1 (Ne.symm d5) (Ne.symm d6)
    have a4':=a4.ext e1 (Ne.symm d7)
    have el:iq false (Value.int .i64 0) ((aQ g).map i64)=i64 (db aQ g):=by unfold db;cases aQ g<;>rfl
    refine v3 (ae a1') a4'.look el ?_
    rw[wrap64 (by omega) (by omega)]
    refine a4'.upd fun H2 m2 e2=>?_
    refine vs ?_
    refine .inr ⟨⟨hg,hi,ci⟩,rfl,⟨⟨fb,nb,ns,mb,by rw[aom];exact e2.own a1' d4,e2.own Xd d7,a3'.ext e2 d8 d9,?_,by grind,by omega,⟨d5,d6,d7⟩,d8,d9⟩,h2,h3,by grind,fun x hx=>aoz (h5 x hx) (aoK e1.size e2.size)⟩,?_⟩
    ·have:(fun j=>Option.map i64 (if j=g then some (db aQ g+1)else aQ j))=Kh (fun j=>(aQ j).map i64) g (i64 (db aQ g+1)):=by
      funext j;unfold Kh;grind
     grind
    ·exact(((ah.refl S H).new 190 [i64 k,u64 s]).trans (e1.mono (by grind))).trans (e2.mono (by grind))
  ·exact Sz _ rfl (by omega)
 ·exact Sz _ rfl (fun hc=>hg hc.1)
theorem QU{m n:Int}(h0:0≤m)(h1:m≤4611686018427387904):0≤gu m n∧gu m n≤4611686018427387904:=by
 grind [gu]
def z7(a b:Int)(x y:Ce):Prop:=MB x.2.1 x.2.2 y.2.1 y.2.2<0∨MB x.2.1 x.2.2 y.2.1 y.2.2=0∧a<b
instance(a b:Int)(x y:Ce):Decidable (z7 a b x y):=inferInstanceAs (Decidable (_∨_∧_))
theorem Dj{H:Hp}{c:Nat}{S:Nat→Prop}{st:Int}{cs:List Ce}{len:Nat}{rt:Nat→Nat}{aQ:Int→Option Int}(h:bH H c S st cs len rt aQ)(a b:Int):
  ag Tryz.prog cP [ptr c,i64 a,i64 b] H fun v H'=>ap (
   (¬ (cI cs a∧cI cs b)∧v= .bool false∧H=H')∨
   (cI cs a∧cI cs b)∧∃x y,cs[a.toNat]? =some x∧cs[b.toNat]? =some y∧v= .bool (decide (z7 a b x y))∧bH H' c S (gu st 1) cs len rt aQ∧ah S H H'):=by
 have h':=h
 obtain⟨⟨fb,nb,ns,mb,a1,a2,a3,a4,a5,a6,a7⟩,h2,h3,h4,h5⟩:=h
 refine aU xB ?_
 refine vs ?_
 refine(fJ h' a).mono ?_
 rintro _ _ ⟨rfl,rfl⟩
 refine vs ?_
 refine ar.dec (fun ha=>?_) (fun ha=>?_)<;>refine vs ?_
 ·refine(fJ h' b).mono ?_
  rintro _ _ ⟨rfl,rfl⟩
  refine vs ?_
  refine ar.dec (fun hb=>?_) (fun hb=>?_)<;>refine vs ?_
  ·obtain⟨Wh,x,hx,im⟩:=id ha
   obtain⟨R3,y,hy,hy0⟩:=id hb
   refine(Di a1 ⟨h2,h3⟩ 1 (by omega)).mono ?_
   rintro v H1 hH
   obtain⟨rfl,b1,b2,b3,b4⟩:v= .tuple [].toArray∧H1.own c=some [i64 (gu st 1),.slice (some ⟨fb,0,none⟩) cs.length cs.length,ptr nb,.map (some mb)]∧H1.own fb=some (cw cs)∧bH H1 c S (gu st 1) cs len rt aQ∧ah S H H1:=by
    have yQ:=QU (n:=1) h2 h3
    rcases hH.out with ⟨rfl,rfl⟩| ⟨rfl,rfl,hs⟩
    ·obtain⟨s1,s2,s3,s4,s5⟩:=a5
     obtain⟨d1,d2,d3,d4⟩:=a6
     have e1:ah (fun x=>x=c) H (H.wr c [i64 (gu st 1),.slice (some ⟨fb,0,none⟩) cs.length cs.length,ptr nb,.map (some mb)]):=(ah.refl (fun x=>x=c) _).wr (fun _=>rfl) _
     exact⟨rfl,af a1,e1.own a2 (Ne.symm d1),⟨⟨fb,nb,ns,mb,af a1,e1.own a2 (Ne.symm d1),a3.ext e1 (Ne.symm d2) (Ne.symm d3),a4.ext e1 (Ne.symm d4),by grind,by omega,a7⟩,yQ.1,yQ.2,h4,fun x hx=>aoz (h5 x hx) e1.size⟩,e1.mono (by grind)⟩
    ·rw[hs]
     exact⟨rfl,a1,a2,h',ah.refl _ _⟩
   have al:=(aoj.1 hx).1
   have bl:=(aoj.1 hy).1
   obtain⟨x1,x2,x3,x4⟩:=sS hx
   obtain⟨y1,y2,y3,y4⟩:=sS hy
   have fl:=gJ cs
   refine v1 (ae b1) ?_
   refine⟨by omega,?_⟩
   refine v3 (ae b1) (ae b2) x4 ?_
   refine⟨by omega,?_⟩
   refine v2 (ae b1) x4 ?_
   refine⟨by omega,?_⟩
   refine v3 (ae b1) (ae b2) y4 ?_
   refine⟨by omega,?_⟩
   refine v2 x4 y4 ?_
   refine(oE x.2.1 x.2.2 y.2.1 y.2.2 _).mono ?_
   rintro _ H2 ⟨rfl,hf⟩
   refine vs ?_
   have b5:=b3.ext hf (fun _ _ h=>h)
   have b6:=b4.trans (hf.mono fun _ _ h=>h.elim)
   refine ar.dec (fun bf=>?_) (fun bf=>?_)<;>refine vs ?_
   ·exact .inr ⟨⟨ha,hb⟩,x,y,hx,hy,aoo Value.bool (aov (show z7 a b x y from .inl bf)).symm,b5,b6⟩
   ·refine ar.dec (fun heq=>?_) (fun heq=>?_)<;>refine vs ?_
    ·exact .inr ⟨⟨ha,hb⟩,x,y,hx,hy,aoo Value.bool (by rw[decide_eq_decide];exact⟨fun hh=>.inr ⟨heq,hh⟩,fun hh=>hh.elim (by omega) (·.2)⟩),b5,b6⟩
    ·exact .inr ⟨⟨ha,hb⟩,x,y,hx,hy,aoo Value.bool (aow (show¬z7 a b x y from fun hh=>hh.elim bf (fun e=>heq e.1))).symm,b5,b6⟩
  ·exact .inl ⟨fun hc=>hb hc.2,rfl,rfl⟩
 ·exact .inl ⟨fun hc=>ha hc.1,rfl,rfl⟩
theorem bH.names{H H1:Hp}{c:Nat}{S:Nat→Prop}{st:Int}{cs:List Ce}{len:Nat}{rt rt':Nat→Nat}{aQ:Int→Option Int}{fb nb ns mb:Nat}(h:bH H c S st cs len rt aQ)
  (a1:H.own c=some [i64 st,.slice (some ⟨fb,0,none⟩) cs.length cs.length,ptr nb,.map (some mb)])(a2:H.own fb=some (cw cs))(a4:mi H mb (fun i=>(aQ i).map i64))
  (a5:S c∧S fb∧S nb∧S ns∧S mb)(a6:c≠fb∧c≠nb∧c≠ns∧c≠mb)(a7:fb≠nb∧fb≠ns∧fb≠mb)(a8:nb≠mb∧ns≠mb)
  (n:et H1 nb ns len rt' 65536)(e:ah (fun x=>x=nb∨x=ns) H H1):
  bH H1 c S st cs len rt' aQ∧ah S H H1∧H1.own c=some [i64 st,.slice (some ⟨fb,0,none⟩) cs.length cs.length,ptr nb,.map (some mb)]∧mi H1 mb (fun i=>(aQ i).map i64):=by
 obtain⟨s1,s2,s3,s4,s5⟩:=a5
 have b1:=e.own a1 (by omega)
 have b4:=a4.ext e (by omega)
 exact⟨⟨⟨fb,nb,ns,mb,b1,e.own a2 (by omega),n,b4,by grind,a6,a7,a8⟩,h.st0,h.st1,h.CI,fun x hx=>aoz (h.slt x hx) e.size⟩,e.mono (by grind),b1,b4⟩
theorem tJ{H:Hp}{c:Nat}{S:Nat→Prop}{st:Int}{cs:List Ce}{len:Nat}{rt:Nat→Nat}{aQ:Int→Option Int}(h:bH H c S st cs len rt aQ)(hl:∀x∈cs,x.1<len)(i:Int):
  ag Tryz.prog bC [ptr c,i64 i] H fun v H'=>ap (
   (¬cI cs i∧v= .tuple [i64 0,.bool false].toArray∧H=H')∨
   (cI cs i∧∃x,cs[i.toNat]? =some x∧v= .tuple [i64 (rt x.1.toNat),.bool true].toArray∧bH H' c S st cs len rt aQ∧ah S H H')):=by
 have h':=h
 obtain⟨⟨fb,nb,ns,mb,a1,a2,a3,a4,a5,a6,a7,a8⟩,h2,h3,h4,h5⟩:=h
 refine aU zC ?_
 refine vs ?_
 refine(fJ h' i).mono ?_
 rintro _ _ ⟨rfl,rfl⟩
 refine vs ?_
 refine ar.dec (fun hi=>?_) (fun hi=>?_)<;>refine vs ?_
 ·obtain⟨FC,x,hx,im⟩:=id hi
  have rS:=(aoj.1 hx).1
  obtain⟨x1,x2,x3,x4⟩:=sS hx
  refine v1 (ae a1) ?_
  refine⟨by omega,?_⟩
  refine v4 (ae a2) x1 Nat.add_zero aoi ?_
  refine(EN a3 x.1).mono ?_
  rintro _ H1 (⟨hn,_⟩| ⟨_,rfl,n1,e1⟩)
  ·exact absurd (by grind) hn
  refine vs ?_
  obtain⟨b1,b2,_⟩:=h'.names a1 a2 a4 a5 a6 a7 a8 n1 e1
  exact .inr ⟨hi,x,hx,rfl,b1,b2⟩
 ·exact .inl ⟨hi,rfl,rfl⟩
theorem Dk{H:Hp}{c:Nat}{S:Nat→Prop}{st:Int}{cs:List Ce}{len:Nat}{rt:Nat→Nat}{aQ:Int→Option Int}(h:bH H c S st cs len rt aQ)(i:Int):
  ag Tryz.prog bj [ptr c,i64 i] H fun v H'=>ap (bH H' c S st cs len rt aQ∧ai H H'∧(
   (¬cI cs i∧v= .tuple [tE 0 0,.bool false].toArray)∨
   (cI cs i∧∃x,cs[i.toNat]? =some x∧v= .tuple [tE x.2.1 x.2.2,.bool true].toArray))):=by
 have e0:ai H (H.new 190 [.int .i64 0,.int .u64 0]):=(ah.refl _ _).new _ _
 have h':=h.ext e0 (fun _ _ h=>h)
 refine aU xu ?_
 refine vs ?_
 refine(fJ h' i).mono ?_
 rintro _ _ ⟨rfl,rfl⟩
 refine vs ?_
 refine ar.dec (fun hi=>?_) (fun hi=>?_)<;>refine vs ?_
 ·obtain⟨FC,x,hx,im⟩:=id hi
  have rS:=(aoj.1 hx).1
  obtain⟨x1,x2,x3,x4⟩:=sS hx
  have fl:=gJ cs
  obtain⟨⟨fb,nb,ns,mb,a1,a2,a3,a4,a5,a6,a7,a8⟩,h2,h3,h4,h5⟩:=id h'
  refine v1 (ae a1) ?_
  refine⟨by omega,?_⟩
  refine v1 (ae a2) ?_
  refine⟨by omega,?_⟩
  simp(disch:=(first|omega| (simp only[Zs]<;>omega)|fail)) only[go_sem, ↓reduceIte,Zv,x4,sN (aA H 190 [.int .i64 0,.int .u64 0])]
  have e1:ai H ((H.new 190 [.int .i64 0,.int .u64 0]).wr H.size [i64 x.2.1,u64 x.2.2]):=e0.wr (by omega) _
  exact⟨h.ext e1 (fun _ _ h=>h),e1,.inr ⟨hi,x,hx,rfl⟩⟩
 ·simp(disch:=(first|omega| (simp only[Zs]<;>omega)|fail)) only[go_sem, ↓reduceIte,Zv,sN (aA H 190 [.int .i64 0,.int .u64 0])]
  have e1:ai H ((H.new 190 [.int .i64 0,.int .u64 0]).wr H.size [.int .i64 0,.int .u64 0]):=e0.wr (by omega) _
  exact⟨h.ext e1 (fun _ _ h=>h),e1,.inl ⟨hi,rfl⟩⟩
def dB(m:Int→Option Int)(i n:Int):Int→Option Int:=fun j=>if j=i then some n else m j
def oF(m:Int→Option Int)(i:Int):Int→Option Int:=fun j=>if j=i then none else m j
theorem GO(m:Int→Option Int)(i n:Int):Kh (fun j=>(m j).map i64) i (i64 n)=fun j=>(dB m i n j).map i64:=by
 funext j;unfold Kh dB;grind
theorem GP(m:Int→Option Int)(i:Int):NU (fun j=>(m j).map i64) i=fun j=>(oF m i j).map i64:=by
 funext j;unfold NU oF;grind
theorem pE(m:Int→Option Int)(g:Int):iq false (Value.int .i64 0) ((m g).map i64)=i64 (db m g):=by
 unfold db;cases m g<;>rfl
theorem EU{H:Hp}{c:Nat}{S:Nat→Prop}{st:Int}{cs:List Ce}{len:Nat}{rt:Nat→Nat}{aQ:Int→Option Int}(h:bH H c S st cs len rt aQ)(a b:Int)(hm:∀j,0≤db aQ j∧db aQ j≤1000000):
  ag Tryz.prog iI [ptr c,i64 a,i64 b] H fun v H'=>ap (
   let ok:=(0<a∧a<len∧rt a.toNat=a.toNat)∧(0<b∧b<len∧rt b.toNat=b.toNat)∧a≠b
   (¬ok∧v= .bool false∧H=H')∨
   (ok∧v= .bool true∧bH H' c S st cs len (fun i=>if rt i=b.toNat then a.toNat else rt i) (if 0<db aQ b then oF (dB aQ a (db aQ a+db aQ b)) b else aQ)∧ah S H H')):=by
 have h':=h
 obtain⟨⟨fb,nb,ns,mb,a1,a2,a3,a4,a5,a6,a7,a8⟩,h2,h3,h4,h5⟩:=h
 have hma:=hm a
 have hmb:=hm b
 refine aU zH ?_
 refine v1 (ae a1) ?_
 refine(EM a3 a b).mono ?_
 rintro _ H1 (⟨hn,rfl,rfl⟩| ⟨hn,rfl,n1,e1⟩)
 ·refine vs ?_
  exact .inl ⟨hn,rfl,rfl⟩
 ·obtain⟨b1,b2,b3,b4⟩:=h'.names a1 a2 a4 a5 a6 a7 a8 n1 e1
  refine v3 (ae b3) b4.look pE ?_
  refine ar.dec (fun hb=>?_) (fun hb=>?_)<;>refine vs ?_
  ·refine v3 (ae b3) b4.look pE ?_
   rw[wrap64 (by omega) (by omega)]
   refine b4.upd fun H2 m2 e2=>?_
   have b5:=e2.own b3 a6.2.2.2
   rw[GO]at m2
   refine v1 (ae b5) ?_
   refine m2.del fun H3 m3 e3=>?_
   rw[GP]at m3
   refine vs ?_
   have CJ:ah (fun x=>x=mb) H1 H3:=e2.trans e3
   refine .inr ⟨hn,rfl,?_,b2.trans (CJ.mono (by grind))⟩
   rw[if_pos hb]
   exact⟨⟨fb,nb,ns,mb,CJ.own b3 a6.2.2.2,CJ.own (e1.own a2 (by omega)) a7.2.2,n1.ext CJ a8.1 a8.2,m3,a5,a6,a7,a8⟩,h2,h3,h4,fun x hx=>aoz (h5 x hx) (aoK e1.size CJ.size)⟩
  ·refine .inr ⟨hn,rfl,?_,b2⟩
   rw[if_neg hb]
   exact b1
theorem EV{H:Hp}{c:Nat}{S:Nat→Prop}{st:Int}{cs:List Ce}{len:Nat}{rt:Nat→Nat}{aQ:Int→Option Int}(h:bH H c S st cs len rt aQ)(hl:∀x∈cs,x.1<len)(i:Int)(hm:∀j,0≤db aQ j∧db aQ j≤1000000):
  ag Tryz.prog iH [ptr c,i64 i] H fun v H'=>ap (
   (¬cI cs i∧v= .bool false∧H=H')∨
   (cI cs i∧v= .bool true∧∃x,cs[i.toNat]? =some x∧
    bH H' c S st (cs.set i.toNat (0,0,0)) len rt (if db aQ (rt x.1.toNat) - 1=0 then oF (dB aQ (rt x.1.toNat) (db aQ (rt x.1.toNat) - 1)) (rt x.1.toNat)else dB aQ (rt x.1.toNat) (db aQ (rt x.1.toNat) - 1))∧ah S H H')):=by
 refine aU zE ?_
 refine vs ?_
 refine(tJ h hl i).mono ?_
 rintro _ H1 (⟨hi,rfl,rfl⟩| ⟨hi,x,hx,rfl,b1,b2⟩)
 ·refine vs ?_
  exact .inl ⟨hi,rfl,rfl⟩
 ·have rS:=(aoj.1 hx).1
  have FC:=hi.1
  have fl:=gJ cs
  obtain⟨⟨fb,nb,ns,mb,a1,a2,a3,a4,a5,a6,a7,a8⟩,h2,h3,h4,h5⟩:=b1
  have hmg:=hm (rt x.1.toNat)
  refine v1 (ae a1) ?_
  refine⟨by omega,?_⟩
  refine v1 a2 ?_
  refine⟨by omega,?_⟩
  rw[show aX (cw cs) (i.toNat*3) (aI (Value.agg #[Value.int .i64 0,Value.int .i64 0,Value.int .u64 0]))=cw (cs.set i.toNat (0,0,0))from JF cs i.toNat (0,0,0) (by omega)]
  have e2:ah (fun x=>x=fb) H1 (H1.wr fb (cw (cs.set i.toNat (0,0,0)))):=(ah.refl (fun x=>x=fb) _).wr (fun _=>rfl) _
  have c1:=e2.own a1 a6.1
  have c2:(H1.wr fb (cw (cs.set i.toNat (0,0,0)))).own fb=_:=af a2
  have c3:=a3.ext e2 (Ne.symm a7.1) (Ne.symm a7.2.1)
  have c4:=a4.ext e2 (Ne.symm a7.2.2)
  refine v3 (ae c1) c4.look pE ?_
  rw[wrap64 (by omega) (by omega)]
  refine c4.upd fun H2 m2 e3=>?_
  rw[GO]at m2
  have d1:=e3.own c1 a6.2.2.2
  have hs:db (dB aQ (rt x.1.toNat) (db aQ (rt x.1.toNat) - 1)) (rt x.1.toNat)=db aQ (rt x.1.toNat) - 1:=by simp[db,dB]
  refine v4 (ae d1) m2.look pE hs ?_
  have CJ:ah S H1 H2:=(e2.mono (by grind)).trans (e3.mono (by grind))
  refine ar.dec (fun h0=>?_) (fun h0=>?_)<;>refine v1 (ae d1) ?_
  ·refine m2.del fun H3 m3 e4=>?_
   rw[GP]at m3
   refine vs ?_
   refine .inr ⟨hi,rfl,x,hx,?_,(b2.trans CJ).trans (e4.mono fun x _ hx=>hx▸a5.2.2.2.2)⟩
   rw[if_pos h0]
   exact⟨⟨fb,nb,ns,mb,by rw[aom];exact e4.own d1 a6.2.2.2,(e4.own (e3.own c2 a7.2.2) a7.2.2),(c3.ext e3 a8.1 a8.2).ext e4 a8.1 a8.2,m3,a5,a6,a7,a8⟩,h2,h3,by grind,fun x hx=>aoz (h5 x hx) (aoK CJ.size e4.size)⟩
  ·refine .inr ⟨hi,rfl,x,hx,?_,b2.trans CJ⟩
   rw[if_neg h0]
   exact⟨⟨fb,nb,ns,mb,by grind,e3.own c2 a7.2.2,c3.ext e3 a8.1 a8.2,m2,a5,a6,a7,a8⟩,h2,h3,by grind,fun x hx=>aoz (h5 x hx) CJ.size⟩
theorem Ow(cs:List Ce)(i:Nat)(x:Ce)(k s:Int)(hx:cs[i]? =some x):aX (cw cs) (i*3+1) [i64 k,u64 s]=cw (cs.set i (x.1,k,s)):=by
 simp only[aX]
 induction cs generalizing i with
 |nil=>rfl
 |cons a r ih=>
  have e:cw (a::r)=i64 a.1::i64 a.2.1::u64 a.2.2::cw r:=rfl
  cases i with
  |zero=>
   simp at hx
   subst hx
   rfl
  |succ i=>
   have e2:cw ((a::r).set (i+1) (x.1,k,s))=i64 a.1::i64 a.2.1::u64 a.2.2::cw (r.set i (x.1,k,s)):=rfl
   grind
theorem Dl{H:Hp}{c:Nat}{S:Nat→Prop}{st:Int}{cs:List Ce}{len:Nat}{rt:Nat→Nat}{aQ:Int→Option Int}(h:bH H c S st cs len rt aQ)(i k s:Int):
  ag Tryz.prog gT [ptr c,i64 i,tE k s] H fun v H'=>ap (
   (¬ (cI cs i∧∀x,cs[i.toNat]? =some x→¬fQ x.2.1 x.2.2 k s)∧v= .bool false∧bH H' c S st cs len rt aQ∧ai H H')∨
   (cI cs i∧v= .bool true∧∃x,cs[i.toNat]? =some x∧¬fQ x.2.1 x.2.2 k s∧bH H' c S st (cs.set i.toNat (x.1,k,s)) len rt aQ∧ah S H H')):=by
 have e0:ai H (H.new 190 [i64 k,u64 s]):=(ah.refl _ _).new _ _
 have h':=h.ext e0 (fun _ _ h=>h)
 refine aU xx ?_
 simp(disch:=(first|omega| (simp only[Zs]<;>omega)|fail)) only[go_sem, ↓reduceIte,Zv,tE]
 refine(fJ h' i).mono ?_
 rintro _ _ ⟨rfl,rfl⟩
 refine vs ?_
 refine ar.dec (fun hi=>?_) (fun hi=>?_)<;>refine vs ?_
 ·obtain⟨FC,x,hx,im⟩:=id hi
  have rS:=(aoj.1 hx).1
  obtain⟨x1,x2,x3,x4⟩:=sS hx
  have fl:=gJ cs
  obtain⟨⟨fb,nb,ns,mb,a1,a2,a3,a4,a5,a6,a7,a8⟩,h2,h3,h4,h5⟩:=id h'
  refine v1 (ae a1) ?_
  refine⟨by omega,?_⟩
  refine v1 (ae a2) ?_
  refine⟨by omega,?_⟩
  refine v1 x4 ?_
  refine(ES x.2.1 x.2.2 k s _).mono ?_
  rintro _ H2 ⟨rfl,hf⟩
  have g1:=hf.own a1 (fun h=>h)
  have g2:=hf.own a2 (fun h=>h)
  have hr:=hf.own (aA H 190 [i64 k,u64 s]) (fun h=>h)
  refine vs ?_
  refine ar.dec (fun jI=>?_) (fun jI=>?_)<;>refine vs ?_
  ·exact .inl ⟨fun hc=>hc.2 x hx jI,rfl,h'.ext hf (fun _ _ h=>h),e0.trans hf⟩
  ·refine v2 (ae g1) (ae hr) ?_
   refine⟨by omega,?_⟩
   refine v3 (ae g1) (ae hr) g2 ?_
   refine⟨by omega,?_⟩
   refine vs ?_
   have QO:((cw cs).set (i.toNat*3+1) (i64 k)).set (i.toNat*3+1+1) (u64 s)=cw (cs.set i.toNat (x.1,k,s)):=Ow cs i.toNat x k s hx
   rw[QO]
   have e3:ah (fun x=>x=fb) H2 (H2.wr fb (cw (cs.set i.toNat (x.1,k,s)))):=(ah.refl (fun x=>x=fb) _).wr (fun _=>rfl) _
   refine .inr ⟨hi,rfl,x,hx,jI,⟨⟨fb,nb,ns,mb,by rw[aom];exact e3.own g1 a6.1,af g2,(a3.ext hf (fun h=>h) (fun h=>h)).ext e3 (Ne.symm a7.1) (Ne.symm a7.2.1),(a4.ext hf (fun h=>h)).ext e3 (Ne.symm a7.2.2),a5,a6,a7,a8⟩,h2,h3,by grind,fun x hx=>aoz (h5 x hx) (aoK hf.size e3.size)⟩,
    ((e0.trans hf).mono fun _ _ h=>h.elim).trans (e3.mono (by grind))⟩
 ·exact .inl ⟨fun hc=>hi hc.1,rfl,h',e0⟩
structure Nw where
 hs:List Bool
 cs:List Ce
def Nw.has(w:Nw)(h:Int):Prop:=1≤h∧w.hs[h.toNat]? =some true
instance(w:Nw)(h:Int):Decidable (w.has h):=inferInstanceAs (Decidable (_∧_))
def Nw.len(w:Nw)(h:Int):Int:=if 0<h then(w.cs.countP fun c=>decide (c.1=h):Nat)else 0
def Nw.put(w:Nw)(i:Int)(c:Ce):Nw:=⟨w.hs,w.cs.set i.toNat c⟩
def Nw.make(w:Nw):Nw:=⟨w.hs++[true],w.cs⟩
def Nw.join(w:Nw)(a b:Int):Nw:=⟨w.hs.set b.toNat false,w.cs.map fun c=>if c.1=b then(a,c.2)else c⟩
def Nw.ahead(w:Nw)(a b:Int):Bool:=
 decide (cI w.cs a) && decide (cI w.cs b) && (match w.cs[a.toNat]?,w.cs[b.toNat]? with|some x,some y=>decide (z7 a b x y)|_,_=>false)
theorem Nw.kT(w:Nw)(h:Int):0≤w.len h∧w.len h≤w.cs.length:=by
 unfold Nw.len
 grind
structure oG(w:Nw)(cs:List Ce)(len:Nat)(rt:Nat→Nat)(aQ:Int→Option Int):Prop where
 hl:w.hs.length=len
 h0:w.hs[0]? =some false
 hh:∀h,1≤h→h<len→w.hs[h]? =some (decide (rt h=h))
 cl:w.cs=cs.map fun c=>(if 0<c.1 then((rt c.1.toNat:Nat):Int)else 0,c.2)
 lt:∀c∈cs,0≤c.1∧c.1<len
 mn:∀h:Int,db aQ h=w.len h
 low:∀i,i<len→rt i<len
 Mt:∀i,i<len→rt (rt i)=rt i
 nz:∀i,i<len→rt i=0→i=0
def aZ(H:Hp)(c:Nat)(S:Nat→Prop)(st:Int)(w:Nw):Prop:=∃cs len rt aQ,bH H c S st cs len rt aQ∧oG w cs len rt aQ
theorem aZ.ext{H H':Hp}{c:Nat}{S T:Nat→Prop}{st:Int}{w:Nw}(h:aZ H c S st w)(e:ah T H H')(hd:∀x,S x→¬T x):aZ H' c S st w:=by
 obtain⟨cs,len,rt,aQ,h1,h2⟩:=h
 exact⟨cs,len,rt,aQ,h1.ext e hd,h2⟩
theorem aZ.fresh{H H':Hp}{c:Nat}{S:Nat→Prop}{st:Int}{w:Nw}(h:aZ H c S st w)(e:ai H H'):aZ H' c S st w:=h.ext e fun _ _ h=>h
theorem aZ.slt{H:Hp}{c:Nat}{S:Nat→Prop}{st:Int}{w:Nw}(h:aZ H c S st w):∀x,S x→x<H.size:=by
 obtain⟨cs,len,rt,aQ,h1,h2⟩:=h
 exact h1.slt
theorem aZ.CI{H:Hp}{c:Nat}{S:Nat→Prop}{st:Int}{w:Nw}(h:aZ H c S st w):w.cs.length≤65536:=by
 obtain⟨cs,len,rt,aQ,h1,h2⟩:=h
 rw[h2.cl,aoJ]
 exact h1.CI
theorem aZ.st{H:Hp}{c:Nat}{S:Nat→Prop}{st:Int}{w:Nw}(h:aZ H c S st w):0≤st∧st≤4611686018427387904:=by
 obtain⟨cs,len,rt,aQ,h1,h2⟩:=h
 exact⟨h1.st0,h1.st1⟩
theorem oG.Nn{w:Nw}{cs:List Ce}{len:Nat}{rt:Nat→Nat}{aQ:Int→Option Int}(h:oG w cs len rt aQ)(i:Int):cI w.cs i↔cI cs i:=by
 unfold cI
 rw[h.cl]
 simp only[aoF]
 constructor
 ·grind
 ·rintro⟨h0,x,hx,hp⟩
  refine⟨h0,_,by rw[hx];rfl,?_⟩
  have bf:=h.lt x (by grind)
  simp only[if_pos hp]
  have hnz:rt x.1.toNat≠0:=fun e=>by have:=h.nz _ (by omega) e;omega
  omega
theorem oG.get{w:Nw}{cs:List Ce}{len:Nat}{rt:Nat→Nat}{aQ:Int→Option Int}(h:oG w cs len rt aQ){i:Nat}{x:Ce}(hx:cs[i]? =some x):w.cs[i]? =some (if 0<x.1 then((rt x.1.toNat:Nat):Int)else 0,x.2):=by
 rw[h.cl,aoF,hx];rfl
theorem oG.Ox{w:Nw}{cs:List Ce}{len:Nat}{rt:Nat→Nat}{aQ:Int→Option Int}(h:oG w cs len rt aQ)(g:Int):w.has g↔(0<g∧g<len∧rt g.toNat=g.toNat):=by
 unfold Nw.has
 constructor
 ·rintro⟨h1,h2⟩
  have bf:=(aoj.1 h2).1
  rw[h.hl]at bf
  rw[h.hh g.toNat (by omega) bf]at h2
  grind
 ·rintro⟨h1,h2,h3⟩
  exact⟨by omega,by rw[h.hh g.toNat (by omega) (by omega),aov h3]⟩
theorem mr(cap:Int)(H:Hp):ag Tryz.prog uV [i64 cap] H fun v H'=>ap (
  ai H H'∧((¬ (0≤cap∧cap≤65536)∧v= .tuple [.pointer none,i64 31].toArray)∨
   (0≤cap∧cap≤65536)∧∃c S,v= .tuple [ptr c,i64 0].toArray∧aZ H' c S 0 ⟨[false],List.replicate cap.toNat (0,0,0)⟩∧(∀x,S x→H.size≤x))):=by
 refine(GL cap H).mono ?_
 rintro _ H1 ⟨f,⟨h,rfl⟩| ⟨h,c,S,rfl,h1,h2⟩⟩
 ·exact⟨f,.inl ⟨h,rfl⟩⟩
 ·refine⟨f,.inr ⟨h,c,S,rfl,⟨_,_,_,_,h1,⟨rfl,rfl,by omega,?_,fun c hc=>?_,fun h=>?_,fun i hi=>hi,fun i hi=>rfl,fun i hi h=>h⟩⟩,h2⟩⟩
  ·simp
  ·grind
  ·unfold Nw.len db
   split
   ·simp only[Option.getD_none,List.countP_replicate]
    grind
   ·rfl
theorem it{H:Hp}{c:Nat}{S:Nat→Prop}{st:Int}{w:Nw}(h:aZ H c S st w)(i:Int):
  ag Tryz.prog bJ [ptr c,i64 i] H fun v H'=>ap (v= .bool (decide (w.has i))∧H=H'):=by
 obtain⟨cs,len,rt,aQ,h1,h2⟩:=h
 refine(vK h1 i).mono ?_
 rintro _ _ ⟨rfl,rfl⟩
 exact⟨aoo Value.bool (by rw[decide_eq_decide,h2.Ox]),rfl⟩
theorem iu{H:Hp}{c:Nat}{S:Nat→Prop}{st:Int}{w:Nw}(h:aZ H c S st w)(i:Int):
  ag Tryz.prog bK [ptr c,i64 i] H fun v H'=>ap (v=i64 (w.len i)∧H=H'):=by
 obtain⟨cs,len,rt,aQ,h1,h2⟩:=h
 refine(GM h1 i).mono ?_
 rintro _ _ ⟨rfl,rfl⟩
 exact⟨by rw[h2.mn],rfl⟩
theorem kU{H:Hp}{c:Nat}{S:Nat→Prop}{st:Int}{w:Nw}(h:aZ H c S st w):
  ag Tryz.prog dN [ptr c] H fun v H'=>ap (
   (w.hs.length=65537∧v=i64 0∧H=H')∨
   (w.hs.length≠65537∧v=i64 w.hs.length∧∃S',aZ H' c S' st w.make∧ah S H H'∧∀x,S' x→S x∨H.size≤x)):=by
 obtain⟨cs,len,rt,aQ,h1,h2⟩:=h
 refine(ET h1).mono ?_
 have hl:=h2.hl
 rintro _ H1 (⟨e,rfl,rfl⟩| ⟨e,rfl,S',g1,g2,g3⟩)
 ·exact .inl (by grind)
 ·refine .inr ⟨by omega,by rw[hl],S',⟨_,_,_,_,g1,?_⟩,g2,g3⟩
  have gI:0<w.hs.length:=(aoj.1 h2.h0).1
  refine⟨by simp[Nw.make,hl],?_,fun h a1 a2=>?_,?_,fun c hc=>by have:=h2.lt c hc;omega,h2.mn,fun i hi=>?_,fun i hi=>?_,fun i hi hz=>?_⟩
  ·show(w.hs++[true])[0]? =some false
   rw[List.getElem?_append_left gI];exact h2.h0
  ·show(w.hs++[true])[h]? =_
   by_cases he:h=len
   ·grind
   ·rw[List.getElem?_append_left (by omega),h2.hh h a1 (by omega),if_neg he]
  ·show w.cs=_
   rw[h2.cl]
   apply ao9
   intro x hx
   have:=h2.lt x hx
   grind
  ·by_cases he:i=len
   ·simp[he]
   ·have:=h2.low i (by omega);grind
  ·by_cases he:i=len
   ·simp[he]
   ·have:=h2.low i (by omega)
    simp only[if_neg he]
    rw[if_neg (by omega)]
    exact h2.Mt i (by omega)
  ·by_cases he:i=len
   ·grind
   ·simp only[if_neg he]at hz;exact h2.nz i (by omega) hz
theorem Nw.gK{w:Nw}{i:Int}{x y:Ce}(hx:w.cs[i.toNat]? =some x)(h:Int):(w.put i y).len h=w.len h - (if 0<h∧x.1=h then 1 else 0)+(if 0<h∧y.1=h then 1 else 0):=by
 unfold Nw.len Nw.put
 grind
theorem mu{H:Hp}{c:Nat}{S:Nat→Prop}{st:Int}{w:Nw}(h:aZ H c S st w)(g i k s:Int):
  ag Tryz.prog jy [ptr c,i64 g,i64 i,tE k s] H fun v H'=>ap (
   (¬ (w.has g∧(0≤i∧i<w.cs.length)∧¬cI w.cs i)∧v= .bool false∧aZ H' c S st w∧ah S H H')∨
   ((w.has g∧(0≤i∧i<w.cs.length)∧¬cI w.cs i)∧v= .bool true∧aZ H' c S st (w.put i (g,k,s))∧ah S H H')):=by
 obtain⟨cs,len,rt,aQ,h1,h2⟩:=h
 have rV:w.cs.length=cs.length:=by rw[h2.cl,aoJ]
 have bu:=w.kT g
 have sT:=h1.CI
 refine(GN h1 g i k s (by rw[h2.mn];omega)).mono ?_
 rintro _ H1 (⟨e,rfl,g1,g2⟩| ⟨e,rfl,g1,g2⟩)
 ·exact .inl ⟨by rw[h2.Ox,h2.Nn,rV];exact e,rfl,⟨_,_,_,_,g1,h2⟩,g2⟩
 ·refine .inr ⟨by rw[h2.Ox,h2.Nn,rV];exact e,rfl,⟨_,_,_,_,g1,?_⟩,g2⟩
  obtain⟨x,hx⟩:∃x,cs[i.toNat]? =some x:=⟨_,aol (by omega)⟩
  have im:¬0<x.1:=fun im=>e.2.2 ⟨e.2.1.1,x,hx,im⟩
  have Xp:=h2.get hx
  rw[if_neg im]at Xp
  refine⟨h2.hl,h2.h0,h2.hh,?_,fun y hy=>?_,fun j=>?_,h2.low,h2.Mt,h2.nz⟩
  ·show w.cs.set i.toNat _=_
   rw[h2.cl,aoN]
   grind
  ·rcases apa hy with hy|rfl
   ·exact h2.lt y hy
   omega
  ·rw[Nw.gK Xp]
   by_cases hj:j=g
   ·subst hj
    have hg:=e.1.1
    rw[if_neg (by omega),if_pos ⟨hg,rfl⟩,←h2.mn]
    simp[db]
   ·rw[if_neg (by omega),if_neg (by omega),←h2.mn]
    simp[db,hj]
theorem cY{H:Hp}{c:Nat}{S:Nat→Prop}{st:Int}{w:Nw}(h:aZ H c S st w)(i:Int):
  ag Tryz.prog bC [ptr c,i64 i] H fun v H'=>ap (
   (¬cI w.cs i∧v= .tuple [i64 0,.bool false].toArray∧H=H')∨
   (cI w.cs i∧∃x,w.cs[i.toNat]? =some x∧v= .tuple [i64 x.1,.bool true].toArray∧aZ H' c S st w∧ah S H H')):=by
 obtain⟨cs,len,rt,aQ,h1,h2⟩:=h
 refine(tJ h1 (fun x hx=>(h2.lt x hx).2) i).mono ?_
 rintro _ H1 (⟨e,rfl,rfl⟩| ⟨e,x,hx,rfl,g1,g2⟩)
 ·exact .inl ⟨by rw[h2.Nn];exact e,rfl,rfl⟩
 ·obtain⟨e0,x',BP,hp⟩:=id e
  rw[hx]at BP
  injection BP with BP
  subst BP
  have hg:=h2.get hx
  rw[if_pos hp]at hg
  exact .inr ⟨by rw[h2.Nn];exact e,_,hg,rfl,⟨_,_,_,_,g1,h2⟩,g2⟩
theorem jJ{H:Hp}{c:Nat}{S:Nat→Prop}{st:Int}{w:Nw}(h:aZ H c S st w)(i:Int):
  ag Tryz.prog bj [ptr c,i64 i] H fun v H'=>ap (aZ H' c S st w∧ai H H'∧(
   (¬cI w.cs i∧v= .tuple [tE 0 0,.bool false].toArray)∨
   (cI w.cs i∧∃x,w.cs[i.toNat]? =some x∧v= .tuple [tE x.2.1 x.2.2,.bool true].toArray))):=by
 obtain⟨cs,len,rt,aQ,h1,h2⟩:=h
 refine(Dk h1 i).mono ?_
 rintro _ H1 ⟨g1,g2,⟨e,rfl⟩| ⟨e,x,hx,rfl⟩⟩
 ·exact⟨⟨_,_,_,_,g1,h2⟩,g2,.inl ⟨by rw[h2.Nn];exact e,rfl⟩⟩
 ·exact⟨⟨_,_,_,_,g1,h2⟩,g2,.inr ⟨by rw[h2.Nn];exact e,_,h2.get hx,rfl⟩⟩
theorem kV{H:Hp}{c:Nat}{S:Nat→Prop}{st:Int}{w:Nw}(h:aZ H c S st w)(i:Int):
  ag Tryz.prog iH [ptr c,i64 i] H fun v H'=>ap (
   (¬cI w.cs i∧v= .bool false∧H=H')∨
   (cI w.cs i∧v= .bool true∧aZ H' c S st (w.put i (0,0,0))∧ah S H H')):=by
 obtain⟨cs,len,rt,aQ,h1,h2⟩:=h
 have sT:=h1.CI
 have rV:w.cs.length=cs.length:=by rw[h2.cl,aoJ]
 refine(EV h1 (fun x hx=>(h2.lt x hx).2) i (fun j=>by rw[h2.mn];have:=w.kT j;omega)).mono ?_
 rintro _ H1 (⟨e,rfl,rfl⟩| ⟨e,rfl,x,hx,g1,g2⟩)
 ·exact .inl ⟨by rw[h2.Nn];exact e,rfl,rfl⟩
 ·obtain⟨e0,x',BP,hp⟩:=id e
  rw[hx]at BP
  injection BP with BP
  subst BP
  have hg:=h2.get hx
  rw[if_pos hp]at hg
  have bf:=h2.lt x (by grind)
  have hnz:rt x.1.toNat≠0:=fun e=>by have:=h2.nz _ (by omega) e;omega
  refine .inr ⟨by rw[h2.Nn];exact e,rfl,⟨_,_,_,_,g1,h2.hl,h2.h0,h2.hh,?_,fun y hy=>?_,fun j=>?_,h2.low,h2.Mt,h2.nz⟩,g2⟩
  ·show w.cs.set i.toNat _=_
   rw[h2.cl,aoN]
   rfl
  ·rcases apa hy with hy|rfl
   ·exact h2.lt y hy
   omega
  ·have hp:=Nw.gK (y:=((0:Int),(0:Int),(0:Int))) hg j
   simp only at hp
   have hm:=h2.mn j
   by_cases hj:j=rt x.1.toNat
   ·subst hj
    rw[if_pos ⟨by omega,rfl⟩,if_neg (by omega)]at hp
    rw[hp,←hm]
    grind [db,dB,oF]
   ·rw[if_neg (by omega),if_neg (by omega)]at hp
    rw[hp,←hm]
    grind [db,dB,oF]
theorem jK{H:Hp}{c:Nat}{S:Nat→Prop}{st:Int}{w:Nw}(h:aZ H c S st w)(i k s:Int):
  ag Tryz.prog gT [ptr c,i64 i,tE k s] H fun v H'=>ap (
   (¬ (cI w.cs i∧∀x,w.cs[i.toNat]? =some x→¬fQ x.2.1 x.2.2 k s)∧v= .bool false∧aZ H' c S st w∧ai H H')∨
   (cI w.cs i∧v= .bool true∧∃x,w.cs[i.toNat]? =some x∧¬fQ x.2.1 x.2.2 k s∧aZ H' c S st (w.put i (x.1,k,s))∧ah S H H')):=by
 obtain⟨cs,len,rt,aQ,h1,h2⟩:=h
 refine(Dl h1 i k s).mono ?_
 rintro _ H1 (⟨e,rfl,g1,g2⟩| ⟨e,rfl,x,hx,hl,g1,g2⟩)
 ·refine .inl ⟨fun hc=>e ⟨(h2.Nn i).1 hc.1,fun x hx=>?_⟩,rfl,⟨_,_,_,_,g1,h2⟩,g2⟩
  have:=hc.2 _ (h2.get hx)
  omega
 ·have hg:=h2.get hx
  refine .inr ⟨(h2.Nn i).2 e,rfl,_,hg,hl,⟨_,_,_,_,g1,h2.hl,h2.h0,h2.hh,?_,fun y hy=>?_,fun j=>?_,h2.low,h2.Mt,h2.nz⟩,g2⟩
  ·show w.cs.set i.toNat _=_
   rw[h2.cl,aoN]
  ·rcases apa hy with hy|rfl
   ·exact h2.lt y hy
   ·exact h2.lt x (by grind)
  ·rw[Nw.gK hg,←h2.mn]
   omega
theorem Ed(cs:List Ce)(a b h:Int)(eJ:a≠b):((cs.map fun c=>if c.1=b then(a,c.2)else c).countP fun c=>decide (c.1=h))=
  if h=a then(cs.countP fun c=>decide (c.1=a))+(cs.countP fun c=>decide (c.1=b))else if h=b then 0 else cs.countP fun c=>decide (c.1=h):=by
 induction cs with
 |nil=>simp
 |cons c cs ih=>
  grind
theorem kW{H:Hp}{c:Nat}{S:Nat→Prop}{st:Int}{w:Nw}(h:aZ H c S st w)(a b:Int):
  ag Tryz.prog iI [ptr c,i64 a,i64 b] H fun v H'=>ap (
   (¬ (w.has a∧w.has b∧a≠b)∧v= .bool false∧H=H')∨
   ((w.has a∧w.has b∧a≠b)∧v= .bool true∧aZ H' c S st (w.join a b)∧ah S H H')):=by
 obtain⟨cs,len,rt,aQ,h1,h2⟩:=h
 have sT:=h1.CI
 have rV:w.cs.length=cs.length:=by rw[h2.cl,aoJ]
 refine(EU h1 a b (fun j=>by rw[h2.mn];have:=w.kT j;omega)).mono ?_
 rintro _ H1 (⟨e,rfl,rfl⟩| ⟨e,rfl,g1,g2⟩)
 ·exact .inl ⟨by rw[h2.Ox,h2.Ox];exact e,rfl,rfl⟩
 ·obtain⟨⟨a1,a2,a3⟩,⟨b1,b2,b3⟩,eJ⟩:=e
  have Oy:=h2.hl
  refine .inr ⟨⟨(h2.Ox a).2 ⟨a1,a2,a3⟩,(h2.Ox b).2 ⟨b1,b2,b3⟩,eJ⟩,rfl,⟨_,_,_,_,g1,by simp[Nw.join,Oy],?_,fun h h1' h2'=>?_,?_,h2.lt,fun j=>?_,fun i hi=>?_,fun i hi=>?_,fun i hi hz=>?_⟩,g2⟩
  ·show(w.hs.set b.toNat false)[0]? =some false
   rw[aor (by omega)];exact h2.h0
  ·show(w.hs.set b.toNat false)[h]? =_
   by_cases hb:h=b.toNat
   ·subst hb
    rw[aot (by omega),if_pos b3,aow (by omega)]
   ·rw[aor (Ne.symm hb),h2.hh h h1' h2']
    by_cases hr:rt h=b.toNat
    ·rw[if_pos hr]
     have:a.toNat≠h:=fun e=>by rw[←e,a3]at hr;omega
     rw[aow (fun e=>hb (by rw[←e,hr])),aow this]
    ·rw[if_neg hr]
  ·show(w.cs.map _)=_
   rw[h2.cl,List.map_map]
   apply ao9
   intro x hx
   have:=h2.lt x hx
   simp only[Function.comp_apply]
   by_cases h0:0<x.1
   ·simp only[if_pos h0]
    by_cases hr:rt x.1.toNat=b.toNat
    ·rw[if_pos (by omega),if_pos hr]
     simp only[Prod.mk.injEq,and_true]
     omega
    ·rw[if_neg (by omega),if_neg hr]
   ·simp only[if_neg h0]
    rw[if_neg (by omega)]
  ·have Xq:(w.join a b).len j=if j=a then w.len a+w.len b else if j=b then 0 else w.len j:=by
    unfold Nw.len Nw.join
    simp only
    by_cases hj:0<j
    ·rw[if_pos hj,Ed w.cs a b j eJ,if_pos a1,if_pos b1]
     by_cases h1:j=a
     ·simp[h1]
     ·by_cases h3:j=b
      ·simp[h1,h3,Ne.symm eJ]
      ·simp[h1,h3,hj]
    ·rw[if_neg hj,if_neg (by omega),if_neg (by omega),if_neg hj]
   rw[Xq]
   have ma:=h2.mn a
   have mb:=h2.mn b
   have mj:=h2.mn j
   have lb:=w.kT b
   by_cases h1:j=a
   ·subst h1
    rw[if_pos rfl]
    split
    ·simp only[db,oF,dB,if_neg eJ,if_true,Option.getD_some]
     simp only[db]at ma mb
     omega
    ·omega
   ·rw[if_neg h1]
    by_cases h3:j=b
    ·subst h3
     rw[if_pos rfl]
     split
     ·simp[db,oF]
     ·omega
    ·rw[if_neg h3]
     split
     ·rw[←mj];simp[db,oF,dB,h1,h3]
     ·exact mj
  ·split
   ·omega
   ·exact h2.low i hi
  ·have:=h2.low i hi
   by_cases hr:rt i=b.toNat
   ·simp only[if_pos hr,a3]
    rw[if_neg (by omega)]
   ·simp only[if_neg hr,h2.Mt i hi,if_neg hr]
  ·split at hz
   ·omega
   ·exact h2.nz i hi hz
theorem jL{H:Hp}{c:Nat}{S:Nat→Prop}{st:Int}{w:Nw}(h:aZ H c S st w)(a b:Int):
  ag Tryz.prog cP [ptr c,i64 a,i64 b] H fun v H'=>ap (v= .bool (w.ahead a b)∧aZ H' c S (if cI w.cs a∧cI w.cs b then gu st 1 else st) w∧ah S H H'):=by
 obtain⟨cs,len,rt,aQ,h1,h2⟩:=h
 refine(Dj h1 a b).mono ?_
 rintro _ H1 (⟨e,rfl,rfl⟩| ⟨e,x,y,hx,hy,rfl,g1,g2⟩)
 ·have e':¬ (cI w.cs a∧cI w.cs b):=fun hc=>e ⟨(h2.Nn a).1 hc.1,(h2.Nn b).1 hc.2⟩
  refine⟨aoo Value.bool ?_,by rw[if_neg e'];exact⟨_,_,_,_,h1,h2⟩,ah.refl _ _⟩
  unfold Nw.ahead
  grind
 ·have ha:=(h2.Nn a).2 e.1
  have hb:=(h2.Nn b).2 e.2
  refine⟨aoo Value.bool ?_,by rw[if_pos ⟨ha,hb⟩];exact⟨_,_,_,_,g1,h2⟩,g2⟩
  unfold Nw.ahead
  rw[aov ha,aov hb,h2.get hx,h2.get hy]
  rfl
theorem fh.Oz{H:Hp}{size n:Nat}{v:Value}{xs:List Value}(h:fh H size v n xs):∃a c,v= .slice a n c:=by
 obtain⟨_,⟨rfl,a,c,rfl⟩| ⟨b,o,c,l,rfl,_⟩⟩:=h
 ·exact⟨_,_,rfl⟩
 ·exact⟨_,_,rfl⟩
theorem fh.cell{H:Hp}{a:Option Addr}{n c:Nat}{cs:List Ce}(h:fh H 3 (.slice a n c) n (cw cs)){i:Nat}{x:Ce}(hx:cs[i]? =some x):
  ∃b o l,a=some ⟨b,o,none⟩∧H.rd b=some l∧i<n∧o+i*3+3≤l.length∧l[o+i*3]? =some (i64 x.1)∧l[o+i*3+1]? =some (i64 x.2.1)∧l[o+i*3+2]? =some (u64 x.2.2)∧
   (l.drop (o+i*3)).take 3=[i64 x.1,i64 x.2.1,u64 x.2.2]∧(l.drop (o+i*3+1)).take 2=[i64 x.2.1,u64 x.2.2]:=by
 have hi:=(aoj.1 hx).1
 have fl:=gJ cs
 obtain⟨x1,x2,x3,_⟩:=sS hx
 obtain⟨hl,⟨rfl,_,_,e⟩| ⟨b,o,c',l,e,h2,h3,h4⟩⟩:=h
 ·omega
 ·injection e with e1 _ _
  subst e1
  have get:∀k,k<n*3→l[o+k]? =(cw cs)[k]? :=fun k hk=>by
   rw[←h4,aoX hk,aoT]
  have g1:=(get (i*3) (by omega)).trans x1
  have g2:=(get (i*3+1) (by omega)).trans x2
  have g3:=(get (i*3+2) (by omega)).trans x3
  rw[←Nat.add_assoc]at g2 g3
  have gl:o+i*3+3≤l.length:=by have:=(aoj.1 g3).1;omega
  refine⟨b,o,l,rfl,h2,by omega,gl,g1,g2,g3,?_,?_⟩
  ·apply aoM
   intro k
   rw[aoZ]
   match k with
   |0=>simpa using g1
   |1=>rw[if_pos (by omega),aoT];exact g2
   |2=>rw[if_pos (by omega),aoT];exact g3
   |k+3=>rw[if_neg (by omega)];rfl
  ·apply aoM
   intro k
   rw[aoZ]
   match k with
   |0=>simpa using g2
   |1=>rw[if_pos (by omega),aoT];exact g3
   |k+2=>rw[if_neg (by omega)];rfl
def JG(H:Hp)(v:Value)(w:Nw)(A:Nat→Prop):Prop:=
 ∃ha hc ca cc,v= .agg [.slice ha w.hs.length hc,.slice ca w.cs.length cc].toArray∧fh H 1 (.slice ha w.hs.length hc) w.hs.length (w.hs.map .bool)∧fh H 3 (.slice ca w.cs.length cc) w.cs.length (cw w.cs)∧w.hs.length≤65537∧w.cs.length≤65536∧
  (∀x,ha=some x→A x.block)∧(∀x,ca=some x→A x.block)
theorem JG.mono{H:Hp}{v:Value}{w:Nw}{A B:Nat→Prop}(h:JG H v w A)(eJ:∀b,A b→B b):JG H v w B:=by
 obtain⟨ha,hc,ca,cc,rfl,h1,h2,h3,h4,a1,a2⟩:=h
 exact⟨ha,hc,ca,cc,rfl,h1,h2,h3,h4,fun x hx=>eJ _ (a1 x hx),fun x hx=>eJ _ (a2 x hx)⟩
theorem JH(k s k' s':Int):(MB k s k' s'<0↔fQ k s k' s')∧(MB k s k' s'=0↔(k=k'∧s=s')):=by
 refine⟨MC k s k' s',?_⟩
 unfold MB Zt BO
 simp only[List.find?]
 by_cases h1:k<k'
 ·simp[h1];omega
 ·by_cases h2:k'<k
  ·simp[h1,h2];omega
  ·by_cases h3:s<s'
   ·simp[h1,h2,h3];omega
   ·by_cases h4:s'<s
    ·simp[h1,h2,h3,h4];omega
    ·simp[h1,h2,h3,h4];omega
theorem OA(a b:Int)(x y:Ce):z7 a b x y↔(fQ x.2.1 x.2.2 y.2.1 y.2.2∨(x.2.1=y.2.1∧x.2.2=y.2.2)∧a<b):=by
 unfold z7
 rw[(JH _ _ _ _).1,(JH _ _ _ _).2]
theorem SA{α:Type}(l:List α)(i:Nat)(x:α)(h:l[i]? =some x):l.set i x=l:=by
 apply aoM
 intro j
 by_cases hj:i=j
 ·subst hj
  rw[aot (aoj.1 h).1,h]
 ·rw[aor hj]
theorem aZ.EW{H:Hp}{c:Nat}{S:Nat→Prop}{st:Int}{w:Nw}(h:aZ H c S st w):w.hs.length≤65537:=by
 obtain⟨cs,len,rt,aQ,⟨⟨fb,nb,ns,mb,_,_,g,_⟩,_⟩,h2⟩:=h
 have:=g.le
 rw[h2.hl]
 omega
theorem aZ.home{H:Hp}{c:Nat}{S:Nat→Prop}{st:Int}{w:Nw}(h:aZ H c S st w):∀x∈w.cs,0≤x.1∧x.1<w.hs.length:=by
 obtain⟨cs,len,rt,aQ,h1,h2⟩:=h
 intro x hx
 rw[h2.cl]at hx
 obtain⟨y,hy,rfl⟩:=apj.1 hx
 have h3:=h2.lt y hy
 rw[h2.hl]
 have h4:=h2.low y.1.toNat (by omega)
 omega
theorem aZ.live{H:Hp}{c:Nat}{S:Nat→Prop}{st:Int}{w:Nw}(h:aZ H c S st w):∀x∈w.cs,0<x.1→w.hs[x.1.toNat]? =some true:=by
 obtain⟨cs,len,rt,aQ,h1,h2⟩:=h
 intro x hx
 rw[h2.cl]at hx
 obtain⟨y,hy,rfl⟩:=apj.1 hx
 have h3:=h2.lt y hy
 simp only
 split
 ·intro h0
  have h4:=h2.low y.1.toNat (by omega)
  have h5:=h2.Mt y.1.toNat (by omega)
  rw[show((rt y.1.toNat:Nat):Int).toNat=rt y.1.toNat by omega,h2.hh _ (by omega) h4,h5]
  simp
 omega
structure dq(H:Hp)(r:Nat)(S:Nat→Prop)(d:Int)(l:List Int)(pl:Int→Option Int):Prop where
 rep:∃sv fp mb,H.own r=some [i64 d,sv,.map (some mb)]∧Sl H 1 sv l.length (l.map i64) fp∧mi H mb (fun i=>(pl i).map i64)∧
  S r∧S mb∧r≠mb∧(∀b,fp=some b→S b∧b≠r∧b≠mb)
 slt:∀x,S x→x<H.size
theorem dq.ext{H H':Hp}{r:Nat}{S T:Nat→Prop}{d:Int}{l:List Int}{pl:Int→Option Int}(h:dq H r S d l pl)(e:ah T H H')(hd:∀x,S x→¬T x):dq H' r S d l pl:=by
 obtain⟨⟨sv,fp,mb,a1,a2,a3,s1,s2,s3,s4⟩,h2⟩:=h
 exact⟨⟨sv,fp,mb,e.own a1 (hd _ s1),a2.ext e (by grind),a3.ext e (hd _ s2),s1,s2,s3,s4⟩,fun x hx=>aoz (h2 x hx) e.size⟩
theorem yy(d:Int)(H:Hp):ag Tryz.prog Oa [i64 d] H fun v H'=>ap (
  ai H H'∧((¬cW d∧v= .tuple [.pointer none,i64 22].toArray)∨
   cW d∧∃r S,v= .tuple [ptr r,i64 0].toArray∧dq H' r S d [] (fun _=>none)∧∀x,S x→H.size≤x)):=by
 refine aU Og ?_
 refine vs ?_
 refine(oA d H).mono ?_
 rintro _ _ ⟨rfl,rfl⟩
 refine vs ?_
 refine ar.dec (fun h=>?_) (fun h=>?_)<;>refine vs ?_
 ·have e1:ai H (H.js.new 285 [i64 d,.slice none 0 0,.map (some H.size)]):=((ah.refl _ _).js).new _ _
  refine⟨e1,.inr ⟨h,H.size+1,fun x=>H.size≤x∧x<H.size+1+1,rfl,⟨⟨_,none,H.size,aR (by simp only[kS]),Sl.nil _ _,?_,?_,?_,?_,?_⟩,?_⟩,fun x hx=>hx.1⟩⟩
  ·exact(mi.new H).ext ((ah.refl (fun _=>False) _).new _ _) (fun h=>h)
  ·omega
  ·omega
  ·omega
  ·grind
  ·intro x hx
   simp only[ak,kS]
   omega
 ·exact⟨ah.refl _ _,.inl ⟨h,rfl⟩⟩
theorem yz{H:Hp}{r:Nat}{S:Nat→Prop}{d:Int}{l:List Int}{pl:Int→Option Int}(h:dq H r S d l pl):
  ag Tryz.prog Gj [ptr r] H fun v H'=>ap (v=i64 l.length∧H=H'):=by
 obtain⟨⟨sv,fp,mb,a1,a2,a3,s1,s2,s3,s4⟩,h2⟩:=h
 refine aU Gx ?_
 cases fp with
 |none=>
  obtain⟨_,e,rfl⟩:=a2
  refine v1 (ae a1) ?_
  exact⟨by rw[e];rfl,rfl⟩
 |some b=>
  obtain⟨_,l',c,rfl,a4⟩:=a2
  refine v1 (ae a1) ?_
  exact⟨rfl,rfl⟩
theorem KI{H:Hp}{r:Nat}{S:Nat→Prop}{d:Int}{l:List Int}{pl:Int→Option Int}(h:dq H r S d l pl)(i:Int):
  ag Tryz.prog Ir [ptr r,i64 i] H fun v H'=>ap (v=Om (if 0≤i then l[i.toNat]? else none)∧H=H'):=by
 obtain⟨⟨sv,fp,mb,a1,a2,a3,s1,s2,s3,s4⟩,h2⟩:=h
 refine aU IF ?_
 refine vs ?_
 refine ar.dec (fun h=>?_) (fun h=>?_)<;>refine v1 (ae a1) ?_
 ·exact⟨by rw[if_neg (by omega)];rfl,rfl⟩
 ·cases fp with
  |none=>
   obtain⟨_,e,rfl⟩:=a2
   have hl:l=[]:=by grind
   subst hl
   refine vs ?_
   refine ar.dl (by grind) ?_
   refine vs ?_
   exact⟨by rw[if_pos (by omega)];rfl,rfl⟩
  |some b=>
   obtain⟨_,l',c,rfl,a4,a5,a6,a7⟩:=a2
   refine vs ?_
   refine ar.dec (fun h3=>?_) (fun h3=>?_)<;>refine v1 (ae a1) ?_
   ·exact⟨by rw[if_pos (by omega),List.getElem?_eq_none (by omega)];rfl,rfl⟩
   ·obtain⟨x,hx⟩:∃x,l[i.toNat]? =some x:=⟨_,aol (by omega)⟩
    have PN:l'[i.toNat]? =some (i64 x):=by
     have h1:(l.map i64)[i.toNat]? =some (i64 x):=by simp[hx]
     rw[←a7,aoX (by omega)]at h1
     exact h1
    refine⟨by omega,?_⟩
    refine v3 (ae a4) aok PN ?_
    exact⟨by rw[if_pos (by omega),hx];rfl,rfl⟩
theorem lj{H:Hp}{r:Nat}{S:Nat→Prop}{d:Int}{l:List Int}{pl:Int→Option Int}(h:dq H r S d l pl)(i x:Int)(hi:0≤i∧i<l.length):
  ag Tryz.prog nX [ptr r,i64 i,i64 x] H fun v H'=>ap (v= .tuple [].toArray∧dq H' r S d (l.set i.toNat x) (dB pl x i)∧ah S H H'):=by
 obtain⟨⟨sv,fp,mb,a1,a2,a3,s1,s2,s3,s4⟩,h2⟩:=h
 refine aU Gz ?_
 cases fp with
 |none=>obtain⟨_,e,_⟩:=a2;omega
 |some b=>
  have Xd:=a2
  obtain⟨_,l',c,rfl,a4,a5,a6,a7⟩:=a2
  refine v1 (ae a1) ?_
  refine⟨by omega,?_⟩
  refine v2 a4 aok ?_
  refine⟨by omega,?_⟩
  obtain⟨Mz,yt,Ud⟩:=s4 b rfl
  have e1:ah (fun z=>z=b) H (H.wr b (l'.set i.toNat (i64 x))):=(ah.refl (fun z=>z=b) _).wr (fun _=>rfl) _
  have b1:=e1.own a1 (Ne.symm yt)
  have b2:=Xd.sf a4 i.toNat (i64 x)
  have b3:=a3.ext e1 (Ne.symm Ud)
  refine v1 (ae b1) ?_
  refine b3.upd fun H2 m2 e2=>?_
  rw[GO]at m2
  refine vs ?_
  refine⟨rfl,⟨⟨_,some b,mb,by exact e2.own b1 s3,?_,m2,s1,s2,s3,s4⟩,fun z hz=>aoz (h2 z hz) (aoK e1.size e2.size)⟩,(e1.mono (by grind)).trans (e2.mono (by grind))⟩
  rw[aom,aoN]
  exact b2.ext e2 (by grind)
structure OB(ov:Value)(I:Hp→Nat→Prop)(T:Nat→Prop)(lt:Int→Int→Bool)(D:Int→Prop:=fun _=>True):Prop where
 call:∀H n a b,D a→D b→I H n→fW Tryz.prog ov "Ahead" [i64 a,i64 b] H fun v H'=>v= .bool (lt a b)∧I H' (n+1)∧ah T H H'
 nil:Qz Tryz.prog (.func (.method "Ahead") #[ov] #[])
 aO:∀H H' n U,I H n→ah U H H'→(∀x,T x→¬U x)→I H' n
 tlt:∀H n,I H n→∀x,T x→x<H.size
structure UpR where
 l:List Int
 pl:Int→Option Int
 at_:Int
 asked:Nat
def fM(lt:Int→Int→Bool)(d x:Int):Nat→List Int→(Int→Option Int)→Int→UpR
 |0,l,pl,i=>⟨l.set i.toNat x,dB pl x i,i,0⟩
 |m+1,l,pl,i=>match bz d i with
  |none=>⟨l.set i.toNat x,dB pl x i,i,0⟩
  |some p=>
   if lt x (l.getD p.toNat 0)=true then
    let r:=fM lt d x m (l.set i.toNat (l.getD p.toNat 0)) (dB pl (l.getD p.toNat 0) i) p
    ⟨r.l,r.pl,r.at_,r.asked+1⟩
   else⟨l.set i.toNat x,dB pl x i,i,1⟩
theorem SC(lt:Int→Int→Bool)(d x:Int):∀ (m m':Nat) (l:List Int) (pl:Int→Option Int) (i:Int),i.toNat≤m→i.toNat≤m'→fM lt d x m l pl i=fM lt d x m' l pl i:=by
 intro m
 induction m with
 |zero=>
  intro m' l pl i h _
  have hn:bz d i=none:=by unfold bz;grind
  cases m'<;>simp[fM,hn]
 |succ m ih=>
  intro m' l pl i h h'
  cases hp:bz d i with
  |none=>cases m'<;>simp[fM,hp]
  |some p=>
   have hb:=fj hp
   cases m' with
   |zero=>omega
   |succ m'=>grind [fM]
theorem MD{l:List Int}{i:Nat}{y z:Int}(h:z∈l.set i y):z=y∨z∈l:=by grind
theorem U7(lt:Int→Int→Bool)(d x:Int):∀ (m:Nat) (l:List Int) (pl:Int→Option Int) (i:Int),0≤i→i<l.length→∀z∈(fM lt d x m l pl i).l,z=x∨z∈l:=by
 intro m
 induction m with
 |zero=>intro l pl i _ _ z hz;exact MD hz
 |succ m ih=>
  intro l pl i h0 h1 z hz
  cases hp:bz d i with
  |none=>simp only[fM,hp]at hz;grind
  |some p=>
   have hb:=fj hp
   simp only[fM,hp]at hz
   grind
theorem sU{ov:Value}{I:Hp→Nat→Prop}{T:Nat→Prop}{lt:Int→Int→Bool}{D:Int→Prop}(ho:OB ov I T lt D){H:Hp}{r:Nat}{S:Nat→Prop}{d:Int}{l:List Int}{pl:Int→Option Int}
  (h:dq H r S d l pl)(hd:∀x,S x→¬T x){n:Nat}(hI:I H n)(i x:Int)(hi:0≤i∧i<l.length)(hl:l.length≤1000000)(hx:D x:=by trivial)(hD:∀z∈l,D z:=by intros;trivial):
  ag Tryz.prog Is [ptr r,ov,i64 i,i64 x] H fun v H'=>ap (
   let R:=fM lt d x i.toNat l pl i
   v=i64 R.at_∧dq H' r S d R.l R.pl∧I H' (n+R.asked)∧ah (fun z=>S z∨T z) H H'):=by
 refine aU IG ?_
 refine vs ?_
 refine bX.intro (fun m env H1=>∃ (l1:List Int) (BQ:Int→Option Int) (i1:Int) (k:Nat),env=[(0,ptr r),(1,ov),(2,i64 i1),(3,i64 x)]∧(∀z∈l1,D z)∧m=i1.toNat∧0≤i1∧i1<l1.length∧l1.length=l.length∧
   dq H1 r S d l1 BQ∧I H1 (n+k)∧ah (fun z=>S z∨T z) H H1∧
   (fM lt d x i.toNat l pl i).l=(fM lt d x i1.toNat l1 BQ i1).l∧(fM lt d x i.toNat l pl i).pl=(fM lt d x i1.toNat l1 BQ i1).pl∧(fM lt d x i.toNat l pl i).at_=(fM lt d x i1.toNat l1 BQ i1).at_∧
   (fM lt d x i.toNat l pl i).asked=k+(fM lt d x i1.toNat l1 BQ i1).asked) i.toNat ⟨l,pl,i,0,rfl,hD,rfl,hi.1,hi.2,rfl,h,hI,ah.refl _ _,rfl,rfl,rfl,by omega⟩ ?_
 rintro m env H1 ⟨l1,BQ,i1,k,rfl,hD1,rfl,i0,il,ll,h1,hI1,e1,u1,u2,u3,u4⟩
 obtain⟨⟨sv,fp,mb,a1,a2,a3,s1,s2,s3,s4⟩,h2⟩:=id h1
 have key:∀o:Option Int,Om o= .tuple [i64 (o.getD 0),.bool o.isSome].toArray:=by intro o;cases o<;>rfl
 refine v1 (ae a1) ?_
 refine(Dh d i1 (by omega) H1).mono ?_
 rintro _ _ ⟨rfl,rfl⟩
 rw[key]
 have stop:∀ (H2:Hp) (k2:Nat),dq H2 r S d l1 BQ→I H2 (n+k+k2)→ah (fun z=>S z∨T z) H H2→fM lt d x i1.toNat l1 BQ i1=⟨l1.set i1.toNat x,dB BQ x i1,i1,k2⟩→
   ag Tryz.prog nX [ptr r,i64 i1,i64 x] H2 fun _ H'=>(i64 i1=i64 (fM lt d x i.toNat l pl i).at_∧dq H' r S d (fM lt d x i.toNat l pl i).l (fM lt d x i.toNat l pl i).pl∧
    I H' (n+(fM lt d x i.toNat l pl i).asked)∧ah (fun z=>S z∨T z) H H'):=by
  intro H2 k2 g1 g2 g3 g4
  refine(lj g1 i1 x ⟨i0,il⟩).mono ?_
  rintro _ H3 ⟨_,g5,g6⟩
  rw[u1,u2,u3,u4,g4]
  exact⟨rfl,g5,by cases ho;grind,g3.trans (g6.mono (by grind))⟩
 cases hp:bz d i1 with
 |none=>
  simp(disch:=(first|omega| (simp only[Zs]<;>omega)|fail)) only[go_sem, ↓reduceIte,Zv,Option.isSome_none]
  refine(stop H1 0 h1 hI1 e1 ?_).mono ?_
  ·cases hm:i1.toNat<;>simp[fM,hp,hm]
  ·rintro _ H3 ⟨g1,g2,g3,g4⟩
   refine vs ?_
   exact⟨g1,g2,g3,g4⟩
 |some p=>
  have QV:=fj hp
  obtain⟨b,rfl⟩:∃b,fp=some b:=by
   cases fp with
   |none=>obtain⟨_,e,_⟩:=a2;omega
   |some b=>grind
  obtain⟨_,l',c,rfl,a4,a5,a6,a7⟩:=a2
  obtain⟨y,hy⟩:∃y,l1[p.toNat]? =some y:=by grind
  have HV:l'[p.toNat]? =some (i64 y):=by
   have h1:(l1.map i64)[p.toNat]? =some (i64 y):=by simp[hy]
   rw[←a7,aoX (by omega)]at h1
   exact h1
  have hy3:l1.getD p.toNat 0=y:=by simp[List.getD,hy]
  simp(disch:=(first|omega| (simp only[Zs]<;>omega)|fail)) only[go_sem, ↓reduceIte,Zv,Option.isSome_some,Option.getD_some,ae a1]
  refine⟨by omega,?_⟩
  refine v3 (ae a4) aok HV ?_
  refine⟨ho.nil,?_⟩
  refine vs ?_
  refine fW.mono (ho.call H1 (n+k) x y hx (by grind) hI1) ?_
  rintro _ H2 ⟨rfl,SD,e2⟩
  have h2':=h1.ext e2 hd
  have oY:=e1.trans (e2.mono (by grind))
  have b1:=e2.own a1 (hd _ s1)
  have b4:=e2.own a4 (hd _ (s4 b rfl).1)
  refine vs ?_
  cases bf:lt x y with
  |false=>
   refine vs ?_
   refine(stop H2 1 h2' SD oY ?_).mono ?_
   ·obtain⟨q,hq⟩:∃q,i1.toNat=q+1:=⟨i1.toNat - 1,by omega⟩
    rw[hq]
    simp[fM,hp,hy,bf,hq]
   ·rintro _ H3 ⟨g1,g2,g3,g4⟩
    refine vs ?_
    exact⟨g1,g2,g3,g4⟩
  |true=>
   refine v1 (ae b1) ?_
   refine⟨by omega,?_⟩
   refine v3 (ae b4) aok HV ?_
   refine(lj h2' i1 y ⟨i0,il⟩).mono ?_
   rintro _ H3 ⟨_,g5,g6⟩
   refine vs ?_
   obtain⟨q,hq⟩:∃q,i1.toNat=q+1:=⟨i1.toNat - 1,by omega⟩
   have Wn:fM lt d x i1.toNat l1 BQ i1=⟨(fM lt d x p.toNat (l1.set i1.toNat y) (dB BQ y i1) p).l,(fM lt d x p.toNat (l1.set i1.toNat y) (dB BQ y i1) p).pl,(fM lt d x p.toNat (l1.set i1.toNat y) (dB BQ y i1) p).at_,
     (fM lt d x p.toNat (l1.set i1.toNat y) (dB BQ y i1) p).asked+1⟩:=by
    rw[SC lt d x p.toNat q _ _ p (aox _) (by omega),hq]
    simp only[fM,hp,hy3,bf,if_true,hq]
   refine⟨p.toNat,by omega,l1.set i1.toNat y,dB BQ y i1,p,k+1,rfl,by grind,rfl,by omega,by grind,by grind,g5,
    ho.aO _ _ _ _ SD g6 (by grind),oY.trans (g6.mono (by grind)),by grind,by grind,by grind,by grind⟩
theorem yA{ov:Value}{I:Hp→Nat→Prop}{T:Nat→Prop}{lt:Int→Int→Bool}{D:Int→Prop}(ho:OB ov I T lt D){H:Hp}{r:Nat}{S:Nat→Prop}{d:Int}{l:List Int}{pl:Int→Option Int}
  (h:dq H r S d l pl)(hd:∀x,S x→¬T x){n:Nat}(hI:I H n)(x:Int)(hl:l.length<1000000)(hDx:D x:=by trivial)(hD:∀z∈l,D z:=by intros;trivial):
  ag Tryz.prog Gi [ptr r,ov,i64 x] H fun v H'=>ap (
   let R:=fM lt d x l.length (l++[x]) pl l.length
   (pl x≠none∧v= .bool false∧H=H')∨
   (pl x=none∧v= .bool true∧∃S',dq H' r S' d R.l R.pl∧I H' (n+R.asked)∧ah (fun z=>S z∨T z) H H'∧∀z,S' z→S z∨H.size≤z)):=by
 obtain⟨⟨sv,fp,mb,a1,a2,a3,s1,s2,s3,s4⟩,h2⟩:=id h
 have key:iq true (Value.int .i64 0) ((pl x).map i64)= .tuple [i64 ((pl x).getD 0),.bool (pl x).isSome].toArray:=by cases pl x<;>rfl
 refine aU Gw ?_
 refine v3 (ae a1) a3.look key ?_
 cases hx:pl x with
 |some p=>
  simp(disch:=(first|omega| (simp only[Zs]<;>omega)|fail)) only[go_sem, ↓reduceIte,Zv,Option.isSome_some]
  exact .inl ⟨by simp,rfl,rfl⟩
 |none=>
  simp(disch:=(first|omega| (simp only[Zs]<;>omega)|fail)) only[go_sem, ↓reduceIte,Zv,Option.isSome_none,ae a1]
  have hb:=aE a1
  have e0:ah (fun _=>False) H (H.new 3 [i64 x]):=(ah.refl _ H).new 3 [i64 x]
  refine Sl.append (a2.ext e0 (fun _ _ h=>h)) (Sl.dM (size:=1) (xs:=[i64 x]) rfl rfl).rd rfl (D8 [x]) (by omega) ?_
  intro v' H2 di hs tV jg
  have b1:=tV.own (e0.own a1 (fun h=>h)) (by grind)
  have Es:=hs
  obtain⟨f,rfl⟩:∃f,di=some f:=by
   cases di with
   |none=>obtain⟨_,e,_⟩:=hs;omega
   |some f=>grind
  obtain⟨_,l',c',rfl,g1,g2,g3,g4⟩:=Es
  have hf:(fp=some f)∨H.size≤f:=by
   rcases jg with h| ⟨z,h,h5,h6⟩
   ·grind
   ·injection h with h;subst h;rw[ak]at h5;omega
  have Xk:f≠r∧f≠mb:=by
   rcases hf with h|h
   ·grind
   ·grind
  have e2:ah (fun z=>S z) H H2:=(e0.mono fun _ _ h=>h.elim).oz tV (by grind)
  have e3:ah (fun z=>S z) H (H2.wr r [i64 d,.slice (some ⟨f,0,none⟩) (l.length+1) c',.map (some mb)]):=e2.wr (fun _=>s1) _
  have hr:dq (H2.wr r [i64 d,.slice (some ⟨f,0,none⟩) (l.length+1) c',.map (some mb)]) r (fun z=>S z∨z=f) d (l++[x]) pl:=by
   have ew:ah (fun z=>z=r) H2 (H2.wr r [i64 d,.slice (some ⟨f,0,none⟩) (l.length+1) c',.map (some mb)]):=(ah.refl (fun z=>z=r) _).wr (fun _=>rfl) _
   refine⟨⟨.slice (some ⟨f,0,none⟩) (l.length+1) c',some f,mb,?_,?_,((a3.ext e0 (fun h=>h)).ext tV (by grind)).ext ew (Ne.symm s3),.inl s1,.inl s2,s3,by grind⟩,?_⟩
   ·exact af b1
   ·rw[aos,ape];exact hs.ext ew (by grind)
   ·rintro z (hz|rfl)
    ·exact aoz (h2 z hz) e3.size
    ·rw[eR];exact aE g1
  have rX:∀z,(S z∨z=f)→¬T z:=by
   rintro z (hz|rfl) ht
   ·grind
   ·rcases hf with h|h
    ·grind
    ·have:=ho.tlt H n hI _ ht;omega
  have SD:=ho.aO _ _ _ _ hI e3 (by grind)
  simp(disch:=(first|omega| (simp only[Zs]<;>omega)|fail)) only[go_sem, ↓reduceIte,Zv,b1,sN b1]
  rw[wrap64 (by omega) (by omega),show((l.length+1:Nat):Int) - 1=(l.length:Int) by omega]
  refine(sU ho hr rX SD l.length x (by grind) (by grind) hDx (by grind)).mono ?_
  rintro _ H3 ⟨_,r1,r2,r3⟩
  refine vs ?_
  refine .inr ⟨rfl,rfl,_,r1,r2,?_,?_⟩
  ·refine(e3.mono (by grind)).oz r3 ?_
   grind
  grind
theorem EX{ov:Value}{I:Hp→Nat→Prop}{T:Nat→Prop}{lt:Int→Int→Bool}{D:Int→Prop}(ho:OB ov I T lt D){H:Hp}{r:Nat}{S:Nat→Prop}{d:Int}{l:List Int}{pl:Int→Option Int}
  (h:dq H r S d l pl)(hd:∀x,S x→¬T x){n:Nat}(hI:I H n)(x:Int)(hl:l.length≤1000000)(hp:∀i,pl x=some i→0≤i∧i<l.length)(hDx:D x:=by trivial)(hD:∀z∈l,D z:=by intros;trivial):
  ag Tryz.prog CV [ptr r,ov,i64 x] H fun v H'=>ap (
   (pl x=none∧v= .bool false∧H=H')∨
   (∃i,pl x=some i∧v= .bool true∧dq H' r S d (fM lt d x i.toNat l pl i).l (fM lt d x i.toNat l pl i).pl∧I H' (n+(fM lt d x i.toNat l pl i).asked)∧ah (fun z=>S z∨T z) H H')):=by
 obtain⟨⟨sv,fp,mb,a1,a2,a3,s1,s2,s3,s4⟩,h2⟩:=id h
 have key:iq true (Value.int .i64 0) ((pl x).map i64)= .tuple [i64 ((pl x).getD 0),.bool (pl x).isSome].toArray:=by cases pl x<;>rfl
 refine aU C4 ?_
 refine v3 (ae a1) a3.look key ?_
 cases hx:pl x with
 |none=>
  simp(disch:=(first|omega| (simp only[Zs]<;>omega)|fail)) only[go_sem, ↓reduceIte,Zv,Option.isSome_none]
  exact .inl ⟨rfl,rfl,rfl⟩
 |some i=>
  simp(disch:=(first|omega| (simp only[Zs]<;>omega)|fail)) only[go_sem, ↓reduceIte,Zv,Option.isSome_some,Option.getD_some]
  refine(sU ho h hd hI i x (hp i hx) hl hDx hD).mono ?_
  rintro _ H3 ⟨_,r1,r2,r3⟩
  refine vs ?_
  exact .inr ⟨i,rfl,rfl,r1,r2,r3⟩
theorem BR(l:List Int):fK (l.map i64):=fun v hv=>by
 obtain⟨x,_,rfl⟩:=apj.1 hv
 rfl
theorem Ee{H:Hp}{T B:Nat}{w:Value}{xs:List Int}{fp:Option Nat}{K:Value→Hp→Prop}(jg:∀b,fp=some b→B≤b)(hB:B≤H.size)(s:Sl H 1 w xs.length (xs.map i64) fp)(x:Int)(hl:xs.length≤1000000000000)
  (hk:∀w' H' di,(∀b,di=some b→B≤b)→Sl H' 1 w' (xs++[x]).length ((xs++[x]).map i64) di→ah (fun z=>B≤z) H H'→K w' H'):
  gH T 1 8 [i64 0] w (.slice (some ⟨H.size,0,none⟩) 1 1) (H.new T [i64 x]) K:=by
 have fl:ai H (H.new T [i64 x]):=(ah.refl _ _).new _ _
 refine Sl.append (s.ext fl (fun _ _ h=>h)) (Sl.dM (size:=1) (n:=1) (xs:=[i64 x]) rfl rfl).rd rfl (BR [x]) (by omega) ?_
 intro v' H' di s' e' JC
 refine hk v' H' di (fun b hb=>?_) (by grind) ⟨aoK fl.size e'.size,fun z hz hn=>?_⟩
 ·rcases JC with h| ⟨b',AD,h1,h2⟩
  ·grind
  ·rw[hb]at AD;injection AD with AD;have:=fl.size;omega
 ·rw[e'.aO z (aoz hz fl.size) (by grind),fl.aO z hz (fun h=>h)]
theorem abi{H:Hp}{T B b:Nat}{w:Value}{xs:List Int}{K:Value→Hp→Prop}(hb:B≤b)(hB:B≤H.size)(s:Sl H 1 w xs.length (xs.map i64) (some b))(x:Int)(hl:xs.length≤1000000000000)
  (hk:∀w' H' b',B≤b'→Sl H' 1 w' (xs++[x]).length ((xs++[x]).map i64) (some b')→ah (fun z=>B≤z) H H'→K w' H'):
  gH T 1 8 [i64 0] w (.slice (some ⟨H.size,0,none⟩) 1 1) (H.new T [i64 x]) K:=by
 refine Ee (by grind) hB s x hl fun w' H' di hf s' e'=>?_
 cases di with
 |none=>
  obtain⟨_,h0,_⟩:=s'
  grind
 |some b'=>grind
theorem SE{H:Hp}{T b:Nat}{w:Value}{xs:List Int}{K:Value→Hp→Prop}(s:Sl H 1 w xs.length (xs.map i64) (some b))(x:Int)(hl:xs.length≤1000000000000)
  (hk:∀w' H' b',(b'=b∨H.size≤b')→Sl H' 1 w' (xs++[x]).length ((xs++[x]).map i64) (some b')→ah (fun z=>z=b) H H'→K w' H'):
  gH T 1 8 [i64 0] w (.slice (some ⟨H.size,0,none⟩) 1 1) (H.new T [i64 x]) K:=by
 have fl:ai H (H.new T [i64 x]):=(ah.refl _ _).new _ _
 refine Sl.append (s.ext fl (fun _ _ h=>h)) (Sl.dM (size:=1) (n:=1) (xs:=[i64 x]) rfl rfl).rd rfl (BR [x]) (by omega) ?_
 intro v' H' di s' e' JC
 have e2:ah (fun z=>z=b) H H':=⟨aoK fl.size e'.size,fun z hz hn=>by
  rw[e'.aO z (aoz hz fl.size) (by grind),fl.aO z hz (fun h=>h)]⟩
 have s2:Sl H' 1 v' (xs++[x]).length ((xs++[x]).map i64) di:=by rw[aos,ape];exact s'
 rcases JC with rfl| ⟨b',rfl,h1,h2⟩
 ·grind
 ·rw[ak]at h1
  grind
theorem Sl.num{H:Hp}{a:Option Addr}{n c:Nat}{xs:List Int}{b:Nat}(h:Sl H 1 (.slice a n c) n (xs.map i64) (some b)){i:Nat}{x:Int}(hx:xs[i]? =some x):
  i<n∧a=some ⟨b,0,none⟩∧∃lb,H.own b=some lb∧lb[i]? =some (i64 x):=by
 have hl:=h.1
 rw[aoJ,aok]at hl
 have hi:=(aoj.1 hx).1
 obtain⟨_,l,c2,hs,ho,hc,AB,ht⟩:=h
 injection hs with iY PJ No
 refine⟨by omega,iY,l,ho,?_⟩
 have h7:(xs.map i64)[i]? =some (i64 x):=by rw[aoF,hx];rfl
 grind
theorem pF{H:Hp}{v:Value}{n:Nat}{xs:List Int}(h:fh H 1 v n (xs.map i64))(hn:n≤1000000):
  ag Tryz.prog sk [v] H fun r H'=>ap (ai H H'∧∃fp,Sl H' 1 r n (xs.map i64) fp∧∀b,fp=some b→H.size≤b∧b<H'.size):=by
 refine aU sB ?_
 have hv:∃a c,v= .slice a n c:=by
  obtain⟨_,⟨rfl,a,c,rfl⟩| ⟨b,o,c,l,rfl,_⟩⟩:=h
  ·grind
  ·grind
 obtain⟨a,c,rfl⟩:=hv
 refine vs ?_
 cases a with
 |none=>
  have uJ:n=0:=by
   obtain⟨_,⟨rfl,_⟩| ⟨b,o,c,l,e,_⟩⟩:=h
   ·rfl
   ·cases e
  have hx:xs.map i64=[]:=aoI.1 (by have:=h.1;omega)
  simp(disch:=(first|omega| (simp only[Zs]<;>omega)|fail)) only[go_sem, ↓reduceIte,Zv,Option.isNone_none]
  rw[hx,uJ]
  exact⟨ah.refl _ _,none,Sl.nil H 1,by grind⟩
 |some ad=>
  simp(disch:=(first|omega| (simp only[Zs]<;>omega)|fail)) only[go_sem, ↓reduceIte,Zv,Option.isNone_some]
  have e0:ah (fun _=>False) H (H.new 3 []):=(ah.refl _ H).new 3 []
  refine Sl.append (Sl.dM (size:=1) (n:=0) (xs:=[]) rfl rfl) (h.fresh e0) rfl (BR xs) (by omega) ?_
  intro v' H2 di hs tV jg
  refine vs ?_
  refine⟨ah.oz e0 tV (by grind),di,by simpa[Kf]using hs,?_⟩
  intro z hz
  have QJ:=tV.size
  rw[ak]at QJ
  rcases jg with h| ⟨y,h,h5,h6⟩
  ·grind
  ·rw[h]at hz;injection hz with hz;subst hz;rw[ak]at h5;omega
theorem IL{H:Hp}{r:Nat}{S:Nat→Prop}{d:Int}{l:List Int}{pl:Int→Option Int}(h:dq H r S d l pl)(hl:l.length≤1000000):
  ag Tryz.prog Gk [ptr r] H fun v H'=>ap (ai H H'∧∃fp,Sl H' 1 v l.length (l.map i64) fp∧∀b,fp=some b→H.size≤b∧b<H'.size):=by
 obtain⟨⟨sv,fp,mb,a1,a2,a3,s1,s2,s3,s4⟩,h2⟩:=h
 refine aU Gy ?_
 refine v1 (ae a1) ?_
 refine(pF a2.rd hl).mono ?_
 rintro _ H2 ⟨h1,h3⟩
 refine vs ?_
 exact⟨h1,h3⟩
def bZ(lt:Int→Int→Bool)(l:List Int)(d i:Int):Nat→Int→Int×Nat
 |0,cS=>(cS,0)
 |m+1,cS=>
  if d*i+(d - m)<l.length then
   let r:=bZ lt l d i m (if lt (l.getD (d*i+(d - m)).toNat 0) (l.getD cS.toNat 0)=true then d*i+(d - m)else cS)
   (r.1,r.2+1)
  else bZ lt l d i m cS
theorem dq.read{H:Hp}{r:Nat}{S:Nat→Prop}{d:Int}{l:List Int}{pl:Int→Option Int}(h:dq H r S d l pl)(hl:0<l.length):
  ∃f l' c mb,H.own r=some [i64 d,.slice (some ⟨f,0,none⟩) l.length c,.map (some mb)]∧H.own f=some l'∧∀ (i:Nat) (x:Int),l[i]? =some x→l'[i]? =some (i64 x):=by
 obtain⟨⟨sv,fp,mb,a1,a2,a3,s1,s2,s3,s4⟩,h2⟩:=h
 cases fp with
 |none=>obtain⟨_,e,_⟩:=a2;omega
 |some f=>
  obtain⟨_,l',c,rfl,a4,a5,a6,a7⟩:=a2
  refine⟨f,l',c,mb,a1,a4,?_⟩
  intro i x hx
  have hi:=(aoj.1 hx).1
  have h1:(l.map i64)[i]? =some (i64 x):=by simp[hx]
  grind
theorem EY{ov:Value}{I:Hp→Nat→Prop}{T:Nat→Prop}{lt:Int→Int→Bool}{D:Int→Prop}(ho:OB ov I T lt D){H:Hp}{r:Nat}{S:Nat→Prop}{d:Int}{l:List Int}{pl:Int→Option Int}
  (h:dq H r S d l pl)(hd:∀x,S x→¬T x){n:Nat}(hI:I H n)(hf:cW d)(i:Int)(hi:0≤i∧i<l.length)(hl:l.length≤1000000)(hD:∀z∈l,D z:=by intros;trivial):
  ag Tryz.prog CX [ptr r,ov,i64 i] H fun v H'=>ap (
   ((l.length:Int)≤d*i+1∧v= .tuple [i64 0,.bool false].toArray∧H=H')∨
   (d*i+1<l.length∧v= .tuple [i64 (bZ lt l d i (d - 1).toNat (d*i+1)).1,.bool true].toArray∧dq H' r S d l pl∧I H' (n+(bZ lt l d i (d - 1).toNat (d*i+1)).2)∧ah T H H')):=by
 obtain⟨f,l',c,mb,a1,a2,a3⟩:=h.read (by omega)
 have hf1:=hf.1
 have hf2:=hf.2
 have hc:∀k,1≤k→k≤d→sO d i k=some (d*i+k):=by grind [sO,instDecidableCW]
 have hb:=BM (i:=i) hf (by omega) (by omega) (by omega:(1:Int)≤1) (by omega)
 refine aU C6 ?_
 refine v1 (ae a1) ?_
 refine(tG d i 1 H).mono ?_
 rintro _ _ ⟨rfl,rfl⟩
 rw[hc 1 (by omega) (by omega)]
 simp(disch:=(first|omega| (simp only[Zs]<;>omega)|fail)) only[go_sem, ↓reduceIte,Zv,Om,ae a1]
 refine ar.dec (fun h1=>?_) (fun h1=>?_)<;>refine vs ?_
 ·exact .inl ⟨by omega,rfl,rfl⟩
 ·refine bX.intro (fun m env H1=>∃ (cS:Int) (k:Nat),env=[(0,ptr r),(1,ov),(2,i64 i),(8,i64 cS),(10,i64 (d+1 - m))]∧(m:Int)≤d - 1∧0≤cS∧cS<l.length∧
   dq H1 r S d l pl∧I H1 (n+k)∧ah T H H1∧
   (bZ lt l d i (d - 1).toNat (d*i+1)).1=(bZ lt l d i m cS).1∧(bZ lt l d i (d - 1).toNat (d*i+1)).2=k+(bZ lt l d i m cS).2) (d - 1).toNat
   ⟨d*i+1,0,by grind,by omega,by omega,by omega,h,hI,ah.refl _ _,rfl,by omega⟩ ?_
  rintro m env H1 ⟨cS,k,rfl,hm,b0,b1,r1,i1,e1,u1,u2⟩
  obtain⟨f1,l1,c1,mb1,g1,g2,g3⟩:=r1.read (by omega)
  refine v1 (ae g1) ?_
  refine ar.dec (fun hk=>?_) (fun hk=>?_)<;>refine vs ?_
  ·obtain⟨q,rfl⟩:∃q,m=q+1:=⟨m - 1,by omega⟩
   rw[show d+1 - ((q+1:Nat):Int)=d - q by omega]at*
   refine v1 (ae g1) ?_
   refine(tG d i (d - q) H1).mono ?_
   rintro _ _ ⟨rfl,rfl⟩
   have Zu:=by omega
   rw[hc (d - q) (by omega) (by omega)]
   simp(disch:=(first|omega| (simp only[Zs]<;>omega)|fail)) only[go_sem, ↓reduceIte,Zv,Om,ae g1]
   refine ar.dec (fun rV=>?_) (fun rV=>?_)<;>refine vs ?_
   ·obtain⟨x,hx⟩:∃x,l[(d*i+(d - q)).toNat]? =some x:=by grind
    obtain⟨y,hy⟩:∃y,l[cS.toNat]? =some y:=by grind
    have BP:=g3 _ _ hx
    have nL:=g3 _ _ hy
    refine v1 (ae g1) ?_
    refine⟨by omega,?_⟩
    refine v4 (ae g1) (ae g2) aok BP ?_
    refine⟨by omega,?_⟩
    refine v3 (ae g2) aok nL ?_
    refine⟨ho.nil,?_⟩
    refine vs ?_
    refine fW.mono (ho.call H1 (n+k) x y (by grind) (by grind) i1) ?_
    rintro _ H2 ⟨rfl,SD,e2⟩
    have Xr:∀z,z=(if lt x y=true then d*i+(d - q)else cS)→bZ lt l d i (q+1) cS=((bZ lt l d i q z).1,(bZ lt l d i q z).2+1):=by
     intro z hz
     rw[bZ,if_pos rV]
     simp only[List.getD,hx,hy,Option.getD_some,hz]
    refine vs ?_
    refine ar.intro (fun bf=>?_) (fun bf=>?_)<;>refine vs ?_
    ·rw[wrap64 (by omega) (by omega)]
     exact⟨q,by omega,d*i+(d - q),k+1,by grind,by omega,by omega,by omega,r1.ext e2 hd,SD,e1.trans e2,
      by grind,by grind⟩
    ·rw[wrap64 (by omega) (by omega)]
     exact⟨q,by omega,cS,k+1,by grind,by omega,by omega,by omega,r1.ext e2 hd,SD,e1.trans e2,
      by grind,by grind⟩
   ·rw[wrap64 (by omega) (by omega)]
    have Xr:bZ lt l d i (q+1) cS=bZ lt l d i q cS:=by rw[bZ,if_neg rV]
    grind
  ·have h0:m=0:=by omega
   subst h0
   refine .inr ⟨by omega,?_,r1,?_,e1⟩
   ·rw[u1];rfl
   ·rw[u2];exact i1
def cQ(lt:Int→Int→Bool)(d x:Int):Nat→List Int→(Int→Option Int)→Int→List Int×(Int→Option Int)×Nat
 |0,l,pl,i=>(l.set i.toNat x,dB pl x i,0)
 |m+1,l,pl,i=>
  if(l.length:Int)≤d*i+1 then(l.set i.toNat x,dB pl x i,0)
  else
   let b:=bZ lt l d i (d - 1).toNat (d*i+1)
   let y:=l.getD b.1.toNat 0
   if lt y x=true then
    let r:=cQ lt d x m (l.set i.toNat y) (dB pl y i) b.1
    (r.1,r.2.1,r.2.2+b.2+1)
   else(l.set i.toNat x,dB pl x i,b.2+1)
theorem lW(lt:Int→Int→Bool)(l:List Int)(d i:Int)(h:0≤d*i):∀ (m:Nat) (cS:Int),(m:Int)≤d - 1→d*i+1≤cS→cS<l.length→d*i+1≤(bZ lt l d i m cS).1∧(bZ lt l d i m cS).1<l.length:=by
 intro m
 induction m with
 |zero=>grind [bZ]
 |succ m ih=>
  grind [bZ]
theorem oH{d i b:Int}(hf:cW d)(hi:0≤i)(hb:d*i+1≤b):i<b:=by
 have h1:=hf.1
 have:1*i≤d*i:=apm (by omega) hi
 omega
theorem OD(lt:Int→Int→Bool)(d x:Int)(hf:cW d):∀ (m m':Nat) (l:List Int) (pl:Int→Option Int) (i:Int),0≤i→l.length≤i.toNat+m→l.length≤i.toNat+m'→
  cQ lt d x m l pl i=cQ lt d x m' l pl i:=by
 have hz:∀ (m:Nat) (l:List Int) (pl:Int→Option Int) (i:Int),0≤i→l.length≤i.toNat→cQ lt d x m l pl i=(l.set i.toNat x,dB pl x i,0):=by
  intro m l pl i hi hl
  cases m with
  |zero=>rfl
  |succ m=>
   have h1:=hf.1
   have:1*i≤d*i:=apm (by omega) hi
   rw[cQ,if_pos (by omega)]
 intro m
 induction m with
 |zero=>grind
 |succ m ih=>
  intro m' l pl i hi h h'
  cases m' with
  |zero=>grind
  |succ m'=>
   rw[cQ,cQ]
   split
   ·rfl
   ·rename_i hc
    have h1:=hf.1
    have Ue:0≤d*i:=apo (by omega) hi
    have hb:=lW lt l d i Ue (d - 1).toNat (d*i+1) (by omega) (by omega) (by omega)
    have bf:=oH hf hi hb.1
    simp only
    split
    ·rw[ih m' _ _ _ (by omega) (by rw[aom];omega) (by rw[aom];omega)]
    ·rfl
theorem GQ{ov:Value}{I:Hp→Nat→Prop}{T:Nat→Prop}{lt:Int→Int→Bool}{D:Int→Prop}(ho:OB ov I T lt D){H:Hp}{r:Nat}{S:Nat→Prop}{d:Int}{l:List Int}{pl:Int→Option Int}
  (h:dq H r S d l pl)(hd:∀x,S x→¬T x){n:Nat}(hI:I H n)(hf:cW d)(i x:Int)(hi:0≤i∧i<l.length)(hl:l.length≤1000000)(hx:D x:=by trivial)(hD:∀z∈l,D z:=by intros;trivial):
  ag Tryz.prog Ey [ptr r,ov,i64 i,i64 x] H fun v H'=>ap (
   let R:=cQ lt d x l.length l pl i
   dq H' r S d R.1 R.2.1∧I H' (n+R.2.2)∧ah (fun z=>S z∨T z) H H'):=by
 refine aU EE ?_
 refine vs ?_
 refine bX.intro (fun m env H1=>∃ (l1:List Int) (BQ:Int→Option Int) (i1:Int) (k:Nat),env=[(0,ptr r),(1,ov),(2,i64 i1),(3,i64 x)]∧(∀z∈l1,D z)∧m=l1.length - i1.toNat∧0≤i1∧i1<l1.length∧l1.length=l.length∧
   dq H1 r S d l1 BQ∧I H1 (n+k)∧ah (fun z=>S z∨T z) H H1∧
   (cQ lt d x l.length l pl i).1=(cQ lt d x l1.length l1 BQ i1).1∧(cQ lt d x l.length l pl i).2.1=(cQ lt d x l1.length l1 BQ i1).2.1∧
   (cQ lt d x l.length l pl i).2.2=k+(cQ lt d x l1.length l1 BQ i1).2.2) (l.length - i.toNat) ⟨l,pl,i,0,rfl,hD,rfl,hi.1,hi.2,rfl,h,hI,ah.refl _ _,rfl,rfl,by omega⟩ ?_
 rintro m env H1 ⟨l1,BQ,i1,k,rfl,hD1,rfl,i0,il,ll,h1,hI1,e1,u1,u2,u3⟩
 have Zw:=hf.1
 have Ue:0≤d*i1:=apo (by omega) i0
 have stop:∀ (H2:Hp) (k2:Nat),dq H2 r S d l1 BQ→I H2 (n+k+k2)→ah (fun z=>S z∨T z) H H2→cQ lt d x l1.length l1 BQ i1=(l1.set i1.toNat x,dB BQ x i1,k2)→
   ag Tryz.prog nX [ptr r,i64 i1,i64 x] H2 fun _ H'=>(dq H' r S d (cQ lt d x l.length l pl i).1 (cQ lt d x l.length l pl i).2.1∧
    I H' (n+(cQ lt d x l.length l pl i).2.2)∧ah (fun z=>S z∨T z) H H'):=by
  intro H2 k2 g1 g2 g3 g4
  refine(lj g1 i1 x ⟨i0,il⟩).mono ?_
  rintro _ H3 ⟨_,g5,g6⟩
  rw[u1,u2,u3,g4]
  exact⟨g5,by rw[←Nat.add_assoc];exact ho.aO _ _ _ _ g2 g6 (by grind),g3.trans (g6.mono (by grind))⟩
 obtain⟨q,hq⟩:∃q,l1.length=q+1:=⟨l1.length - 1,by omega⟩
 refine vs ?_
 refine(EY ho h1 hd hI1 hf i1 ⟨i0,il⟩ (by omega) hD1).mono ?_
 rintro _ H2 (⟨hc,rfl,rfl⟩| ⟨hc,rfl,h2,SD,e2⟩)
 ·refine vs ?_
  refine(stop H1 0 h1 hI1 e1 ?_).mono ?_
  ·rw[hq,cQ,if_pos hc]
  ·rintro _ H3 ⟨g1,g2,g3⟩
   refine vs ?_
   exact⟨g1,g2,g3⟩
 ·have hb:=lW lt l1 d i1 Ue (d - 1).toNat (d*i1+1) (by omega) (by omega) hc
  have bf:=oH hf i0 hb.1
  obtain⟨f1,l',c1,mb1,g1,g2,g3⟩:=h2.read (by omega)
  obtain⟨y,hy⟩:∃y,l1[(bZ lt l1 d i1 (d - 1).toNat (d*i1+1)).1.toNat]? =some y:=⟨_,aol (by omega)⟩
  have nL:=g3 _ _ hy
  have hy3:l1.getD (bZ lt l1 d i1 (d - 1).toNat (d*i1+1)).1.toNat 0=y:=by rw[aon,hy];rfl
  have oY:=e1.trans (e2.mono (by grind))
  refine v1 (ae g1) ?_
  refine⟨by omega,?_⟩
  refine v3 (ae g2) aok nL ?_
  refine⟨ho.nil,?_⟩
  refine vs ?_
  refine fW.mono (ho.call H2 _ y x (hD1 y (aou hy)) hx SD) ?_
  rintro _ H3 ⟨rfl,hI3,e3⟩
  have h3:=h2.ext e3 hd
  have z8:=oY.trans (e3.mono (by grind))
  obtain⟨f4,l4,c4,mb4,k1,k2,k3⟩:=h3.read (by omega)
  have hy4:=k3 _ _ hy
  refine vs ?_
  cases FD:lt y x with
  |false=>
   refine vs ?_
   refine(stop H3 ((bZ lt l1 d i1 (d - 1).toNat (d*i1+1)).2+1) h3 (by omega) z8 ?_).mono ?_
   ·rw[hq,cQ,if_neg (by omega)]
    grind
   ·rintro _ H4 ⟨g1,g2,g3⟩
    refine vs ?_
    exact⟨g1,g2,g3⟩
  |true=>
   refine v1 (ae k1) ?_
   refine⟨by omega,?_⟩
   refine v3 (ae k2) aok hy4 ?_
   refine(lj h3 i1 y ⟨i0,il⟩).mono ?_
   rintro _ H4 ⟨_,g5,g6⟩
   refine vs ?_
   have hdn:cQ lt d x l1.length l1 BQ i1=((cQ lt d x (l1.set i1.toNat y).length (l1.set i1.toNat y) (dB BQ y i1) (bZ lt l1 d i1 (d - 1).toNat (d*i1+1)).1).1,
     (cQ lt d x (l1.set i1.toNat y).length (l1.set i1.toNat y) (dB BQ y i1) (bZ lt l1 d i1 (d - 1).toNat (d*i1+1)).1).2.1,
     (cQ lt d x (l1.set i1.toNat y).length (l1.set i1.toNat y) (dB BQ y i1) (bZ lt l1 d i1 (d - 1).toNat (d*i1+1)).1).2.2+(bZ lt l1 d i1 (d - 1).toNat (d*i1+1)).2+1):=by
    rw[OD lt d x hf (l1.set i1.toNat y).length q _ _ _ (by omega) (by omega) (by rw[aom];omega),hq,cQ,if_neg (by omega)]
    simp only[hy3,FD,if_true]
   refine⟨l1.length - (bZ lt l1 d i1 (d - 1).toNat (d*i1+1)).1.toNat,by omega,l1.set i1.toNat y,dB BQ y i1,(bZ lt l1 d i1 (d - 1).toNat (d*i1+1)).1,k+(bZ lt l1 d i1 (d - 1).toNat (d*i1+1)).2+1,rfl,fun z hz=>(MD hz).elim (fun e=>e▸hD1 y (aou hy)) (hD1 z),by simp_all,by omega,by simp_all,by simp_all,g5,?_,
    z8.trans (g6.mono (by grind)),by grind,by grind,by grind⟩
   have:=ho.aO _ _ _ _ hI3 g6 (by grind)
   grind
end Go.Proofs.YtjkkkibiegfecaaGreatDoor
