/- Texts put behind each other. -/
import Derived.Test.YtjlnnljohemifaaGreatK98
import Derived.Test.YtjlnnljohemifaaGreatK1
import Derived.Test.YtjlnnljohemifaaGreatK9
import Derived.Test.YtjlnnljohemifaaGreatK17
import Derived.Test.YtjlnnljohemifaaGreatK19
set_option maxRecDepth 100000
set_option maxHeartbeats 8000000
set_option linter.unusedVariables false
set_option linter.unusedSimpArgs false
namespace Go.Proofs.YtjlnnljohemifaaGreat
open Go Go.Vc
theorem rR(l:List Int):gK (l.map i64):=fun v hv=>by
 obtain⟨x,_,rfl⟩:=aoC.1 hv
 rfl
theorem yd{H:Hp}{T B:Nat}{w:Value}{xs:List Int}{fp:Option Nat}{K:Value→Hp→Prop}(fZ:∀b,fp=some b→B≤b)(hB:B≤H.size)(s:Sl H 1 w xs.length (xs.map i64) fp)(x:Int)(hl:xs.length≤1000000000000)
  (hk:∀w' H' cP,(∀b,cP=some b→B≤b)→Sl H' 1 w' (xs++[x]).length ((xs++[x]).map i64) cP→ag (fun z=>B≤z) H H'→K w' H'):
  gk T 1 8 [i64 0] w (.slice (some ⟨H.size,0,none⟩) 1 1) (H.new T [i64 x]) K:=by
 have fl:ah H (H.new T [i64 x]):=(ag.refl _ _).new _ _
 refine Sl.append (s.ext fl (fun _ _ h=>h)) (Sl.bU (size:=1) (n:=1) (xs:=[i64 x]) rfl rfl).rd rfl (rR [x]) (by omega) ?_
 intro v' H' cP s' e' OL
 refine hk v' H' cP (fun b hb=>?_) (by rw[aor,aoN];exact s') ⟨apb fl.size e'.size,fun z hz hn=>?_⟩
 ·rcases OL with h| ⟨b',jY,h1,h2⟩
  ·exact fZ b (by rw[←h];exact hb)
  ·rw[hb]at jY;injection jY with jY;have:=fl.size;omega
 ·rw[e'.aM z (aoH hz fl.size) (fun h=>hn (fZ z h)),fl.aM z hz (fun h=>h)]
theorem IE{H:Hp}{T B b:Nat}{w:Value}{xs:List Int}{K:Value→Hp→Prop}(hb:B≤b)(hB:B≤H.size)(s:Sl H 1 w xs.length (xs.map i64) (some b))(x:Int)(hl:xs.length≤1000000000000)
  (hk:∀w' H' b',B≤b'→Sl H' 1 w' (xs++[x]).length ((xs++[x]).map i64) (some b')→ag (fun z=>B≤z) H H'→K w' H'):
  gk T 1 8 [i64 0] w (.slice (some ⟨H.size,0,none⟩) 1 1) (H.new T [i64 x]) K:=by
 refine yd (fun b' h=>by injection h with h;omega) hB s x hl fun w' H' cP hf s' e'=>?_
 cases cP with
 |none=>
  obtain⟨_,h0,_⟩:=s'
  simp at h0
 |some b'=>exact hk w' H' b' (hf b' rfl) s' e'
theorem Ru{H:Hp}{T b:Nat}{w:Value}{xs:List Int}{K:Value→Hp→Prop}(s:Sl H 1 w xs.length (xs.map i64) (some b))(x:Int)(hl:xs.length≤1000000000000)
  (hk:∀w' H' b',(b'=b∨H.size≤b')→Sl H' 1 w' (xs++[x]).length ((xs++[x]).map i64) (some b')→ag (fun z=>z=b) H H'→K w' H'):
  gk T 1 8 [i64 0] w (.slice (some ⟨H.size,0,none⟩) 1 1) (H.new T [i64 x]) K:=by
 have fl:ah H (H.new T [i64 x]):=(ag.refl _ _).new _ _
 refine Sl.append (s.ext fl (fun _ _ h=>h)) (Sl.bU (size:=1) (n:=1) (xs:=[i64 x]) rfl rfl).rd rfl (rR [x]) (by omega) ?_
 intro v' H' cP s' e' OL
 have e2:ag (fun z=>z=b) H H':=⟨apb fl.size e'.size,fun z hz hn=>by
  rw[e'.aM z (aoH hz fl.size) (fun h=>hn (by injection h with h;exact h.symm)),fl.aM z hz (fun h=>h)]⟩
 have s2:Sl H' 1 v' (xs++[x]).length ((xs++[x]).map i64) cP:=by rw[aor,aoN];exact s'
 rcases OL with rfl| ⟨b',rfl,h1,h2⟩
 ·exact hk v' H' b (.inl rfl) s2 e2
 ·rw[ap]at h1
  exact hk v' H' b' (.inr (by omega)) s2 e2
theorem ON{H:Hp}{T B:Nat}{w u:Value}{xs ys:List Int}{fp:Option Nat}{K:Value→Hp→Prop}(fZ:∀b,fp=some b→B≤b)(hB:B≤H.size)(s:Sl H 1 w xs.length (xs.map i64) fp)(r:cO H 1 u ys.length (ys.map i64))(hl:xs.length+ys.length≤1000000000000)
  (hk:∀w' H' cP,(∀b,cP=some b→B≤b)→Sl H' 1 w' (xs++ys).length ((xs++ys).map i64) cP→ag (fun z=>B≤z) H H'→K w' H'):
  gk T 1 8 [i64 0] w u H K:=by
 refine Sl.append s r rfl (rR ys) (by omega) ?_
 intro v' H' cP s' e' OL
 refine hk v' H' cP (fun b hb=>?_) (by rw[aor,aoN];exact s') ⟨e'.size,fun z hz hn=>e'.aM z hz (fun h=>hn (fZ z h))⟩
 rcases OL with h| ⟨b',jY,h1,h2⟩
 ·exact fZ b (by rw[←h];exact hb)
 ·rw[hb]at jY;injection jY with jY;omega
theorem Sl.num{H:Hp}{a:Option Addr}{n c:Nat}{xs:List Int}{b:Nat}(h:Sl H 1 (.slice a n c) n (xs.map i64) (some b)){i:Nat}{x:Int}(hx:xs[i]? =some x):
  i<n∧a=some ⟨b,0,none⟩∧∃lb,H.own b=some lb∧lb[i]? =some (i64 x):=by
 have hl:=h.1
 rw[aoF,aol]at hl
 have hi:=(aoj.1 hx).1
 obtain⟨_,l,c2,hs,ho,hc,nT,ht⟩:=h
 injection hs with eK Kk GR
 refine⟨by omega,eK,l,ho,?_⟩
 have h7:(xs.map i64)[i]? =some (i64 x):=by rw[aoG,hx];rfl
 rw[←ht,aoV,if_pos (by omega)]at h7
 exact h7
theorem cO.get{H:Hp}{size n:Nat}{v:Value}{xs:List Value}(h:cO H size v n xs){i j:Nat}{x:Value}(hj:j<size)(hx:xs[i*size+j]? =some x):
  ∃b o c l,v= .slice (some ⟨b,o,none⟩) n c∧H.rd b=some l∧i<n∧l[o+i*size+j]? =some x:=by
 obtain⟨hl,⟨rfl,a,c,rfl⟩| ⟨b,o,c,l,rfl,h2,h3,h4⟩⟩:=h
 ·rw[aoz (by omega)]at hx;cases hx
 ·have aO:i*size+j<n*size:=by
   have:=(aoj.1 hx).1;omega
  refine⟨b,o,c,l,rfl,h2,?_,?_⟩
  ·rcases apA i n with h|h
   ·exact h
   ·have:=apJ size h;omega
  ·rw[←h4,aoO aO,aoW]at hx
   rw[←hx];congr 1;omega
def Bc(a b:Int):Int:=if a<b then -1 else if b<a then 1 else 0
theorem kV(a:Int)(H:Hp):af Tryz.prog Ak [i64 a] H fun v H'=>aw (v= .bool false∧H=H'):=by
 refine bv AF ?_
 refine v1 aoZ ?_
 exact⟨rfl,rfl⟩
theorem jS(a:Int)(H:Hp):af Tryz.prog yD [u64 a] H fun v H'=>aw (v= .bool false∧H=H'):=by
 refine bv yW ?_
 refine v1 aoZ ?_
 exact⟨rfl,rfl⟩
theorem rS(a b:Int)(H:Hp):af Tryz.prog vX [i64 a,i64 b] H fun v H'=>aw (v=i64 (Bc a b)∧H=H'):=by
 refine bv wK ?_
 refine vs ?_
 refine(kV a H).mono ?_
 rintro _ _ ⟨rfl,rfl⟩
 refine vs ?_
 refine(kV b H).mono ?_
 rintro _ _ ⟨rfl,rfl⟩
 refine vs ?_
 refine am.dec (fun h=>?_) (fun h=>?_)<;>refine vs ?_
 ·exact⟨aoE i64 (by simp[Bc,h]),rfl⟩
 ·refine am.dec (fun h2=>?_) (fun h2=>?_)<;>refine vs ?_
  ·exact⟨aoE i64 (by simp[Bc,h,show b<a from h2]),rfl⟩
  ·exact⟨aoE i64 (by simp[Bc,h,show¬b<a from h2]),rfl⟩
theorem qm(a b:Int)(H:Hp):af Tryz.prog tX [u64 a,u64 b] H fun v H'=>aw (v=i64 (Bc a b)∧H=H'):=by
 refine bv ug ?_
 refine vs ?_
 refine(jS a H).mono ?_
 rintro _ _ ⟨rfl,rfl⟩
 refine vs ?_
 refine(jS b H).mono ?_
 rintro _ _ ⟨rfl,rfl⟩
 refine vs ?_
 refine am.dec (fun h=>?_) (fun h=>?_)<;>refine vs ?_
 ·exact⟨aoE i64 (by simp[Bc,h]),rfl⟩
 ·refine am.dec (fun h2=>?_) (fun h2=>?_)<;>refine vs ?_
  ·exact⟨aoE i64 (by simp[Bc,h,show b<a from h2]),rfl⟩
  ·exact⟨aoE i64 (by simp[Bc,h,show¬b<a from h2]),rfl⟩
def Y4(xs:List Int):Int:=(xs.find? fun x=>x≠0).getD 0
theorem Ec{H:Hp}{v:Value}{n:Nat}{xs:List Int}(h:cO H 1 v n (xs.map i64))(hn:n≤1000000)(hs:∃a c,v= .slice a n c):
  af Tryz.prog Jj [v] H fun r H'=>aw (r=i64 (Y4 xs)∧H=H'):=by
 obtain⟨a,c,rfl⟩:=hs
 have aZ:xs.length=n:=by have:=h.1;simpa using this
 refine bv Jq ?_
 refine vs ?_
 refine aX.intro (fun m env H1=>∃k:Nat,env=[(3,i64 0),(6,.slice a n c),(7,i64 n),(8,i64 k)]∧H1=H∧k≤n∧m=n - k∧∀j,j<k→xs[j]? =some 0) n ⟨0,rfl,rfl,by omega,by omega,fun j hj=>by omega⟩ ?_
 rintro m env H1 ⟨k,rfl,rfl,hk,rfl,hz⟩
 refine vs ?_
 refine am.dec (fun aO=>?_) (fun aO=>?_)<;>refine vs ?_
 ·have hkn:k<xs.length:=by omega
  obtain⟨b,o,c',l,hv,hr,_,hg⟩:=cO.get h (i:=k) (j:=0) (x:=i64 xs[k]) (by omega) (by simp[hkn])
  injection hv with e1 e2 e3
  subst e1
  refine⟨by omega,?_⟩
  simp only[aol,Nat.add_zero]at hg
  refine v4 hr Int.toNat_natCast aol hg ?_
  refine am.dec (fun h0=>?_) (fun h0=>?_)<;>refine vs ?_
  ·rw[wrap64 (by omega) (by omega)]
   refine⟨n - (k+1),by omega,k+1,rfl,trivial,by omega,rfl,fun j hj=>?_⟩
   by_cases e:j=k
   ·subst e;rw[aoh hkn,h0]
   ·exact hz j (by omega)
  ·refine⟨aoE i64 ?_,rfl⟩
   unfold Y4
   have:xs.find? (fun x=>x≠0)=some xs[k]:=by
    rw[List.find?_eq_some_iff_getElem]
    refine⟨by simpa using h0,k,hkn,rfl,fun j hj=>?_⟩
    have:=hz j hj
    rw[aoh (by omega)]at this
    injection this with this
    simp[this]
   rw[this];rfl
 ·refine⟨aoE i64 ?_,rfl⟩
  unfold Y4
  have:xs.find? (fun x=>x≠0)=none:=by
   rw[List.find?_eq_none]
   intro x hx
   obtain⟨j,hj,rfl⟩:=aqc.1 hx
   have:=hz j (by omega)
   rw[aoh hj]at this
   injection this with this
   simp[this]
  rw[this];rfl
def Lh(k s k' s':Int):Int:=Y4 [Bc k k',Bc s s']
def fA(k s k' s':Int):Prop:=k<k'∨k=k'∧s<s'
instance(k s k' s':Int):Decidable (fA k s k' s'):=by unfold fA;infer_instance
theorem Li(k s k' s':Int):Lh k s k' s'<0↔fA k s k' s':=by
 unfold Lh fA Y4 Bc
 by_cases h1:k<k'
 ·simp[h1]
 ·by_cases h2:k'<k
  ·simp[h1,h2];omega
  ·by_cases h3:s<s'
   ·simp[h1,h2,h3];omega
   ·by_cases h4:s'<s
    ·simp[h1,h2,h3,h4]
    ·simp[h1,h2,h3,h4]
theorem nD(k s k' s':Int)(H:Hp):af Tryz.prog DV [tL k s,tL k' s'] H fun v H'=>aw (v=i64 (Lh k s k' s')∧ah H H'):=by
 refine bv D2 ?_
 refine vs ?_
 refine⟨_,(rS k k' _).mono fun _ _ h=>⟨h.out.1,h.out.2.symm⟩,?_⟩
 refine(qm s s' _).mono ?_
 rintro _ _ ⟨rfl,rfl⟩
 refine vs ?_
 refine(Ec (n:=2) (xs:=[Bc k k',Bc s s']) (Sl.bU (size:=1) rfl (by simp only[ap])).rd (by omega) ⟨_,_,rfl⟩).mono ?_
 rintro _ _ ⟨rfl,rfl⟩
 exact⟨rfl,(((ag.refl _ _).new _ _).new _ _).new _ _⟩
theorem Ee(k s k' s':Int)(H:Hp):af Tryz.prog Jl [tL k s,tL k' s'] H fun v H'=>aw (v= .bool (decide (fA k s k' s'))∧ah H H'):=by
 refine bv Js ?_
 refine vs ?_
 refine(nD k s k' s' _).mono ?_
 rintro _ _ ⟨rfl,hf⟩
 refine vs ?_
 refine⟨aoE Value.bool (by rw[decide_eq_decide];exact Li _ _ _ _),?_⟩
 exact(((ag.refl _ _).new _ _).new _ _).trans hf
def fP(m n:Int):Int:=if n≤0 then m else if n>4611686018427387904 - m then 4611686018427387904 else m+n
theorem CG{H:Hp}{b:Nat}{m:Int}{r:List Value}(h:H.own b=some (i64 m::r))(hm:0≤m∧m≤4611686018427387904)(n:Int)(hn:n≤4611686018427387904):
  af Tryz.prog wq [ptr b,i64 n] H fun v H'=>aw (v= .tuple [].toArray∧H'=H.wr b (i64 (fP m n)::r)∨v= .tuple [].toArray∧H'=H∧fP m n=m):=by
 refine bv wW ?_
 refine vs ?_
 refine am.dec (fun h0=>?_) (fun h0=>?_)<;>refine v1 (ae h) ?_
 ·exact .inr ⟨rfl,rfl,by simp[fP,h0]⟩
 ·rw[wrap64 (by omega) (by omega)]
  refine am.dec (fun h1=>?_) (fun h1=>?_)<;>refine v2 (ae h) h ?_
  ·exact .inl ⟨rfl,by rw[fP,if_neg h0,if_pos h1]⟩
  ·exact .inl ⟨rfl,by rw[fP,if_neg h0,if_neg h1,wrap64 (by omega) (by omega)]⟩
abbrev Ce:=Int×Int×Int
def cw(cs:List Ce):List Value:=cs.flatMap fun c=>[i64 c.1,i64 c.2.1,u64 c.2.2]
theorem jj(cs:List Ce):(cw cs).length=cs.length*3:=by
 induction cs with
 |nil=>rfl
 |cons c r ih=>simp only[cw,apV,aor,aoD,apl]at*;omega
theorem PN(n:Nat):cw (List.replicate n (0,0,0))=cE [.int .i64 0,.int .i64 0,.int .u64 0] n:=by
 simp[cw,cE,List.flatMap_def,aqr]
theorem eO.lt2{H:Hp}{b s len:Nat}{rt:Nat→Nat}{fO:Int}(h:eO H b s len rt fO):s<H.size:=by
 obtain⟨⟨sv,cD,sD,a1,a2,a3⟩,_⟩:=h
 exact a2.lt
structure bI(H:Hp)(c:Nat)(S:Nat→Prop)(st:Int)(cs:List Ce)(len:Nat)(rt:Nat→Nat)(aS:Int→Option Int):Prop where
 TO:∃fb nb ns mb,H.own c=some [i64 st,.slice (some ⟨fb,0,none⟩) cs.length cs.length,ptr nb,.map (some mb)]∧H.own fb=some (cw cs)∧eO H nb ns len rt 65536∧lG H mb (fun i=>(aS i).map i64)∧
  (S c∧S fb∧S nb∧S ns∧S mb)∧(c≠fb∧c≠nb∧c≠ns∧c≠mb)∧(fb≠nb∧fb≠ns∧fb≠mb)∧(nb≠mb∧ns≠mb)
 st0:0≤st
 Tl:st≤4611686018427387904
 Ef:cs.length≤65536
 slt:∀x,S x→x<H.size
theorem bI.ext{H H':Hp}{c:Nat}{S T:Nat→Prop}{st:Int}{cs:List Ce}{len:Nat}{rt:Nat→Nat}{aS:Int→Option Int}(h:bI H c S st cs len rt aS)
  (e:ag T H H')(hd:∀x,S x→¬T x):bI H' c S st cs len rt aS:=by
 obtain⟨⟨fb,nb,ns,mb,a1,a2,a3,a4,⟨s1,s2,s3,s4,s5⟩,a6,a7⟩,h2,h3,h4,h5⟩:=h
 exact⟨⟨fb,nb,ns,mb,e.own a1 (hd _ s1),e.own a2 (hd _ s2),a3.ext e (hd _ s3) (hd _ s4),a4.ext e (hd _ s5),⟨s1,s2,s3,s4,s5⟩,a6,a7⟩,h2,h3,h4,fun x hx=>aoH (h5 x hx) e.size⟩
theorem FD(cap:Int)(H:Hp):af Tryz.prog tY [i64 cap] H fun v H'=>aw (
  ah H H'∧((¬ (0≤cap∧cap≤65536)∧v= .tuple [.pointer none,i64 31].toArray)∨
   (0≤cap∧cap≤65536)∧∃c S,v= .tuple [ptr c,i64 0].toArray∧bI H' c S 0 (List.replicate cap.toNat (0,0,0)) 1 id (fun _=>none)∧(∀x,S x→H.size≤x))):=by
 refine bv KY ?_
 refine vs ?_
 refine am.dec (fun h=>?_) (fun h=>?_)<;>refine vs ?_
 ·exact⟨ag.refl _ _,.inl ⟨by omega,rfl⟩⟩
 ·refine am.dec (fun h2=>?_) (fun h2=>?_)<;>refine vs ?_
  ·exact⟨ag.refl _ _,.inl ⟨by omega,rfl⟩⟩
  ·refine(Fq 65536 H).mono ?_
   rintro _ H1 ⟨hf,⟨hc,_⟩| ⟨_,nb,ns,rfl,hn,b1,b2,b3,b4⟩⟩
   ·omega
   refine vs ?_
   refine⟨by omega,?_⟩
   refine vs ?_
   have hs:(H1.new 343 (cE [.int .i64 0,.int .i64 0,.int .u64 0] cap.toNat)).own H1.size=some (cw (List.replicate cap.toNat (0,0,0))):=by
    rw[PN]
    exact az _ _ _
   have he:ag (fun _=>False) (H1.new 343 (cE [.int .i64 0,.int .i64 0,.int .u64 0] cap.toNat)) _:=
    ((ag.refl _ _).im).new 308 [.int .i64 0,.slice (some ⟨H1.size,0,none⟩) cap.toNat cap.toNat,.pointer (some ⟨nb,0,none⟩),.map (some (H1.size+1))]
   have hm:lG (H1.new 343 (cE [.int .i64 0,.int .i64 0,.int .u64 0] cap.toNat)).im (H1.size+1) (fun _=>none):=by
    have:=lG.new (H1.new 343 (cE [.int .i64 0,.int .i64 0,.int .u64 0] cap.toNat))
    rwa[ap]at this
   have PD:=hf.size
   have hl:(List.replicate cap.toNat ((0,0,0):Ce)).length=cap.toNat:=ao3
   refine⟨(hf.trans ((ag.refl _ _).new 343 _)).trans he,.inr ⟨by omega,H1.size+1+1,fun x=>H.size≤x∧x<H1.size+1+1+1,rfl,⟨⟨H1.size,nb,ns,H1.size+1,by rw[hl];exact aU (by simp only[ap,iC]),he.own hs (fun h=>h),
    (hn.ext ((ag.refl (fun _=>False) _).new 343 _) (fun h=>h) (fun h=>h)).ext he (fun h=>h) (fun h=>h),hm.ext ((ag.refl (fun _=>False) _).new _ _) (fun h=>h),?_,?_,?_,?_⟩,by omega,by omega,by omega,?_⟩,fun x h=>h.1⟩⟩
   ·exact⟨by omega,by omega,by omega,by omega,by omega⟩
   ·exact⟨by omega,by omega,by omega,by omega⟩
   ·exact⟨by omega,by omega,by omega⟩
   ·exact⟨by omega,by omega⟩
   ·intro x hx
    simp only[ap,iC]
    exact hx.2
theorem uF{H:Hp}{c:Nat}{S:Nat→Prop}{st:Int}{cs:List Ce}{len:Nat}{rt:Nat→Nat}{aS:Int→Option Int}(h:bI H c S st cs len rt aS)(i:Int):
  af Tryz.prog bE [ptr c,i64 i] H fun v H'=>aw (v= .bool (decide (0<i∧i<len∧rt i.toNat=i.toNat))∧H=H'):=by
 obtain⟨⟨fb,nb,ns,mb,a1,a2,a3,a4,a5,a6,a7⟩,h2,h3,h4,h5⟩:=h
 refine bv AI ?_
 refine v1 (ae a1) ?_
 refine(Ft a3 i).mono ?_
 rintro _ _ ⟨rfl,rfl⟩
 refine vs ?_
 exact⟨rfl,rfl⟩
def dI(aS:Int→Option Int)(i:Int):Int:=(aS i).getD 0
theorem FE{H:Hp}{c:Nat}{S:Nat→Prop}{st:Int}{cs:List Ce}{len:Nat}{rt:Nat→Nat}{aS:Int→Option Int}(h:bI H c S st cs len rt aS)(i:Int):
  af Tryz.prog iW [ptr c,i64 i] H fun v H'=>aw (v=i64 (dI aS i)∧H=H'):=by
 obtain⟨⟨fb,nb,ns,mb,a1,a2,a3,a4,a5,a6,a7⟩,h2,h3,h4,h5⟩:=h
 refine bv AJ ?_
 refine v2 (ae a1) a4.look ?_
 refine⟨?_,rfl⟩
 unfold dI
 cases aS i<;>rfl
theorem qn{H:Hp}{c:Nat}{S:Nat→Prop}{st:Int}{cs:List Ce}{len:Nat}{rt:Nat→Nat}{aS:Int→Option Int}(h:bI H c S st cs len rt aS)(i:Int):
  af Tryz.prog wk [ptr c,i64 i] H fun v H'=>aw (v= .bool (decide (0≤i∧i<cs.length))∧H=H'):=by
 obtain⟨⟨fb,nb,ns,mb,a1,a2,a3,a4,a5,a6,a7⟩,h2,h3,h4,h5⟩:=h
 refine bv wT ?_
 refine vs ?_
 refine am.dec (fun h=>?_) (fun h=>?_)<;>refine v1 (ae a1) ?_
 ·exact⟨aoE Value.bool (by rw[decide_eq_decide];omega),rfl⟩
 ·exact⟨aoE Value.bool (aoJ (by omega)).symm,rfl⟩
theorem vD{cs:List Ce}{i:Nat}{c:Ce}(hi:cs[i]? =some c):
  (cw cs)[i*3]? =some (i64 c.1)∧(cw cs)[i*3+1]? =some (i64 c.2.1)∧(cw cs)[i*3+2]? =some (u64 c.2.2)∧((cw cs).drop (i*3+1)).take 2=[i64 c.2.1,u64 c.2.2]:=by
 have hx:∀ (cs:List Ce) (i:Nat) (c:Ce),cs[i]? =some c→(cw cs)[i*3]? =some (i64 c.1)∧(cw cs)[i*3+1]? =some (i64 c.2.1)∧(cw cs)[i*3+2]? =some (u64 c.2.2):=by
  intro cs
  induction cs with
  |nil=>intro i c h;simp at h
  |cons a r ih=>
   intro i c h
   have e:cw (a::r)=i64 a.1::i64 a.2.1::u64 a.2.2::cw r:=rfl
   rw[e]
   cases i with
   |zero=>simp at h;subst h;exact⟨rfl,rfl,rfl⟩
   |succ i=>
    have:=ih i c (by simpa using h)
    rw[show(i+1)*3=i*3+3 by omega]
    simpa using this
 obtain⟨x0,x1,x2⟩:=hx cs i c hi
 refine⟨x0,x1,x2,?_⟩
 apply ao8
 intro k
 rw[aoV]
 match k with
 |0=>simpa using x1
 |1=>rw[if_pos (by omega),aoW];exact x2
 |k+2=>rw[if_neg (by omega)];rfl
def cY(cs:List Ce)(i:Int):Prop:=0≤i∧∃c,cs[i.toNat]? =some c∧0<c.1
instance(cs:List Ce)(i:Int):Decidable (cY cs i):=
 match h:cs[i.toNat]? with
 |none=>.isFalse fun⟨_,c,h1,_⟩=>by rw[h]at h1;simp at h1
 |some c=>if h0:0≤i∧0<c.1 then .isTrue ⟨h0.1,c,h,h0.2⟩else .isFalse fun⟨h1,c',h2,h3⟩=>by rw[h]at h2;injection h2 with h2;subst h2;exact h0 ⟨h1,h3⟩
theorem fh{H:Hp}{c:Nat}{S:Nat→Prop}{st:Int}{cs:List Ce}{len:Nat}{rt:Nat→Nat}{aS:Int→Option Int}(h:bI H c S st cs len rt aS)(i:Int):
  af Tryz.prog Cg [ptr c,i64 i] H fun v H'=>aw (v= .bool (decide (cY cs i))∧H=H'):=by
 have ht:=qn h i
 obtain⟨⟨fb,nb,ns,mb,a1,a2,a3,a4,a5,a6,a7⟩,h2,h3,h4,h5⟩:=h
 refine bv Ct ?_
 refine vs ?_
 refine ht.mono ?_
 rintro _ _ ⟨rfl,rfl⟩
 refine vs ?_
 refine am.dec (fun h=>?_) (fun h=>?_)<;>refine v1 (ae a1) ?_
 ·obtain⟨x,hx⟩:∃x,cs[i.toNat]? =some x:=⟨_,aoh (by omega)⟩
  obtain⟨x0,x1,x2,x3⟩:=vD hx
  refine⟨by omega,?_⟩
  refine v4 (ae a2) x0 Nat.add_zero aoi ?_
  exact⟨aoE Value.bool (by rw[decide_eq_decide];exact⟨fun hh=>⟨h.1,x,hx,hh⟩,fun⟨_,c,e1,e2⟩=>by rw[hx]at e1;injection e1 with e1;subst e1;exact e2⟩),rfl⟩
 ·exact⟨aoE Value.bool (aoJ (by rintro⟨x,c,x1,x2⟩;have:=(aoj.1 x1).1;omega)).symm,rfl⟩
theorem IF(cs:List Ce)(i:Nat)(c:Ce)(hi:i<cs.length):bk (cw cs) (i*3) [i64 c.1,i64 c.2.1,u64 c.2.2]=cw (cs.set i c):=by
 simp only[bk]
 induction cs generalizing i with
 |nil=>simp at hi
 |cons a r ih=>
  have e:cw (a::r)=i64 a.1::i64 a.2.1::u64 a.2.2::cw r:=rfl
  cases i with
  |zero=>rfl
  |succ i=>
   have e2:cw ((a::r).set (i+1) c)=i64 a.1::i64 a.2.1::u64 a.2.2::cw (r.set i c):=rfl
   rw[e,e2,show(i+1)*3=i*3+1+1+1 by omega]
   simp only[ao1]
   rw[ih i (by simpa using hi)]
theorem Eg{H:Hp}{c:Nat}{S:Nat→Prop}{st:Int}{cs:List Ce}{len:Nat}{rt:Nat→Nat}{aS:Int→Option Int}(h:bI H c S st cs len rt aS):
  af Tryz.prog du [ptr c] H fun v H'=>aw (
   (len=65537∧v=i64 0∧H=H')∨
   (len≠65537∧v=i64 len∧∃S',bI H' c S' st cs (len+1) (fun i=>if i=len then i else rt i) aS∧ag S H H'∧∀x,S' x→S x∨H.size≤x)):=by
 obtain⟨⟨fb,nb,ns,mb,a1,a2,a3,a4,a5,a6,a7⟩,h2,h3,h4,h5⟩:=h
 refine bv zh ?_
 refine v1 (ae a1) ?_
 refine(D9 a3).mono ?_
 rintro _ H1 (⟨hl,rfl,rfl⟩| ⟨hl,rfl,s',b1,b2,b3⟩)
 ·refine vs ?_
  exact .inl ⟨by omega,rfl,rfl⟩
 ·refine vs ?_
  obtain⟨s1,s2,s3,s4,s5⟩:=a5
  obtain⟨d1,d2,d3,d4⟩:=a6
  obtain⟨⟨d5,d6,d7⟩,d8,d9⟩:=a7
  have l1:=aB a1
  have l2:=aB a2
  have l3:=a4.lt
  refine .inr ⟨by omega,rfl,fun x=>S x∨x=s',⟨⟨fb,nb,s',mb,b2.own a1 (by omega),b2.own a2 (by omega),b1,a4.ext b2 (by omega),⟨.inl s1,.inl s2,.inl s3,.inr rfl,.inl s5⟩,⟨d1,d2,by omega,d4⟩,⟨d5,by omega,d7⟩,d8,by omega⟩,h2,h3,h4,fun x hx=>hx.elim (fun h=>aoH (h5 x h) b2.size) (fun h=>by rw[h];exact b1.lt2)⟩,
   b2.mono (fun x _ hx=>hx.elim (fun e=>e▸s3) (fun e=>e▸s4)),?_⟩
  rintro x (hx|rfl)
  ·exact .inl hx
  ·rcases b3 with rfl|b3
   ·exact .inl s4
   ·exact .inr b3.1
theorem FF{H:Hp}{c:Nat}{S:Nat→Prop}{st:Int}{cs:List Ce}{len:Nat}{rt:Nat→Nat}{aS:Int→Option Int}(h:bI H c S st cs len rt aS)(g i k s:Int)
  (hm:dI aS g≤1000000∧0≤dI aS g):
  af Tryz.prog iX [ptr c,i64 g,i64 i,tL k s] H fun v H'=>aw (
   let ok:=(0<g∧g<len∧rt g.toNat=g.toNat)∧(0≤i∧i<cs.length)∧¬cY cs i
   (¬ok∧v= .bool false∧bI H' c S st cs len rt aS∧ag S H H')∨
   (ok∧v= .bool true∧bI H' c S st (cs.set i.toNat (g,k,s)) len rt (fun j=>if j=g then some (dI aS g+1)else aS j)∧ag S H H')):=by
 have kE:ag (fun _=>False) H (H.new 224 [i64 k,u64 s]):=(ag.refl _ _).new _ _
 have h':=h.ext kE (fun _ _ h=>h)
 refine bv AL ?_
 simp(disch:=(first|omega| (simp only[Zs]<;>omega)|fail)) only[go_sem, ↓reduceIte,Zv,tL]
 refine(uF h' g).mono ?_
 rintro _ _ ⟨rfl,rfl⟩
 refine vs ?_
 have Rv:∀v,v=Value.bool false→¬ ((0<g∧g<len∧rt g.toNat=g.toNat)∧(0≤i∧i<cs.length)∧¬cY cs i)→
   ((¬ ((0<g∧g<len∧rt g.toNat=g.toNat)∧(0≤i∧i<cs.length)∧¬cY cs i)∧v= .bool false∧bI (H.new 224 [i64 k,u64 s]) c S st cs len rt aS∧ag S H (H.new 224 [i64 k,u64 s]))∨
   (((0<g∧g<len∧rt g.toNat=g.toNat)∧(0≤i∧i<cs.length)∧¬cY cs i)∧v= .bool true∧bI (H.new 224 [i64 k,u64 s]) c S st (cs.set i.toNat (g,k,s)) len rt (fun j=>if j=g then some (dI aS g+1)else aS j)∧ag S H (H.new 224 [i64 k,u64 s]))):=
  fun v hv hn=>.inl ⟨hn,hv,h',(ag.refl _ _).new _ _⟩
 refine am.dec (fun hg=>?_) (fun hg=>?_)<;>refine vs ?_
 ·refine(qn h' i).mono ?_
  rintro _ _ ⟨rfl,rfl⟩
  refine vs ?_
  refine am.dec (fun hi=>?_) (fun hi=>?_)<;>refine vs ?_
  ·refine(fh h' i).mono ?_
   rintro _ _ ⟨rfl,rfl⟩
   refine vs ?_
   refine am.dec (fun bJ=>?_) (fun bJ=>?_)<;>refine vs ?_
   ·exact Rv _ rfl (fun hc=>hc.2.2 bJ)
   ·obtain⟨⟨fb,nb,ns,mb,a1,a2,a3,a4,a5,a6,a7⟩,h2,h3,h4,h5⟩:=h'
    refine v1 (ae a1) ?_
    refine⟨by omega,?_⟩
    refine v1 a2 ?_
    refine⟨by rw[jj];omega,?_⟩
    rw[show bk (cw cs) (i.toNat*3) (aI (Value.agg #[Value.int .i64 g,i64 k,u64 s]))=cw (cs.set i.toNat (g,k,s))from IF cs i.toNat (g,k,s) (by omega)]
    obtain⟨s1,s2,s3,s4,s5⟩:=a5
    obtain⟨d1,d2,d3,d4⟩:=a6
    obtain⟨⟨d5,d6,d7⟩,d8,d9⟩:=a7
    have e1:ag (fun x=>x=fb) (H.new 224 [i64 k,u64 s]) ((H.new 224 [i64 k,u64 s]).wr fb (cw (cs.set i.toNat (g,k,s)))):=(ag.refl (fun x=>x=fb) _).wr (fun _=>rfl) _
    have a1':=e1.own a1 d1
    have Wn:((H.new 224 [i64 k,u64 s]).wr fb (cw (cs.set i.toNat (g,k,s)))).own fb=_:=ai a2
    have a3':=a3.ext e1 (Ne.symm d5) (Ne.symm d6)
    have a4':=a4.ext e1 (Ne.symm d7)
    have el:gZ false (Value.int .i64 0) ((aS g).map i64)=i64 (dI aS g):=by unfold dI;cases aS g<;>rfl
    refine v3 (ae a1') a4'.look el ?_
    rw[wrap64 (by omega) (by omega)]
    refine a4'.Y5 fun H2 m2 e2=>?_
    refine vs ?_
    refine .inr ⟨⟨hg,hi,bJ⟩,rfl,⟨⟨fb,nb,ns,mb,by rw[aok];exact e2.own a1' d4,e2.own Wn d7,a3'.ext e2 d8 d9,?_,⟨s1,s2,s3,s4,s5⟩,⟨d1,d2,d3,d4⟩,⟨d5,d6,d7⟩,d8,d9⟩,h2,h3,by rw[aok];exact h4,fun x hx=>aoH (h5 x hx) (apb e1.size e2.size)⟩,?_⟩
    ·have:(fun j=>Option.map i64 (if j=g then some (dI aS g+1)else aS j))=JB (fun j=>(aS j).map i64) g (i64 (dI aS g+1)):=by
      funext j;unfold JB;by_cases hj:j=g<;>simp[hj]
     rw[this];exact m2
    ·exact(((ag.refl S H).new 224 [i64 k,u64 s]).trans (e1.mono fun x _ hx=>hx▸s2)).trans (e2.mono fun x _ hx=>hx▸s5)
  ·exact Rv _ rfl (fun hc=>hi hc.2.1)
 ·exact Rv _ rfl (fun hc=>hg hc.1)
theorem PO{m n:Int}(h0:0≤m)(h1:m≤4611686018427387904):0≤fP m n∧fP m n≤4611686018427387904:=by
 unfold fP;split
 ·exact⟨h0,h1⟩
 ·split<;>omega
def zy(a b:Int)(x y:Ce):Prop:=Lh x.2.1 x.2.2 y.2.1 y.2.2<0∨Lh x.2.1 x.2.2 y.2.1 y.2.2=0∧a<b
instance(a b:Int)(x y:Ce):Decidable (zy a b x y):=inferInstanceAs (Decidable (_∨_∧_))
theorem CH{H:Hp}{c:Nat}{S:Nat→Prop}{st:Int}{cs:List Ce}{len:Nat}{rt:Nat→Nat}{aS:Int→Option Int}(h:bI H c S st cs len rt aS)(a b:Int):
  af Tryz.prog cM [ptr c,i64 a,i64 b] H fun v H'=>aw (
   (¬ (cY cs a∧cY cs b)∧v= .bool false∧H=H')∨
   (cY cs a∧cY cs b)∧∃x y,cs[a.toNat]? =some x∧cs[b.toNat]? =some y∧v= .bool (decide (zy a b x y))∧bI H' c S (fP st 1) cs len rt aS∧ag S H H'):=by
 have h':=h
 obtain⟨⟨fb,nb,ns,mb,a1,a2,a3,a4,a5,a6,a7⟩,h2,h3,h4,h5⟩:=h
 refine bv wU ?_
 refine vs ?_
 refine(fh h' a).mono ?_
 rintro _ _ ⟨rfl,rfl⟩
 refine vs ?_
 refine am.dec (fun ha=>?_) (fun ha=>?_)<;>refine vs ?_
 ·refine(fh h' b).mono ?_
  rintro _ _ ⟨rfl,rfl⟩
  refine vs ?_
  refine am.dec (fun hb=>?_) (fun hb=>?_)<;>refine vs ?_
  ·obtain⟨TZ,x,hx,gf⟩:=id ha
   obtain⟨Rx,y,hy,WB⟩:=id hb
   refine(CG a1 ⟨h2,h3⟩ 1 (by omega)).mono ?_
   rintro v H1 hH
   obtain⟨rfl,b1,b2,b3,b4⟩:v= .tuple [].toArray∧H1.own c=some [i64 (fP st 1),.slice (some ⟨fb,0,none⟩) cs.length cs.length,ptr nb,.map (some mb)]∧H1.own fb=some (cw cs)∧bI H1 c S (fP st 1) cs len rt aS∧ag S H H1:=by
    have uE:=PO (n:=1) h2 h3
    rcases hH.out with ⟨rfl,rfl⟩| ⟨rfl,rfl,hs⟩
    ·obtain⟨s1,s2,s3,s4,s5⟩:=a5
     obtain⟨d1,d2,d3,d4⟩:=a6
     have e1:ag (fun x=>x=c) H (H.wr c [i64 (fP st 1),.slice (some ⟨fb,0,none⟩) cs.length cs.length,ptr nb,.map (some mb)]):=(ag.refl (fun x=>x=c) _).wr (fun _=>rfl) _
     exact⟨rfl,ai a1,e1.own a2 (Ne.symm d1),⟨⟨fb,nb,ns,mb,ai a1,e1.own a2 (Ne.symm d1),a3.ext e1 (Ne.symm d2) (Ne.symm d3),a4.ext e1 (Ne.symm d4),⟨s1,s2,s3,s4,s5⟩,⟨d1,d2,d3,d4⟩,a7⟩,uE.1,uE.2,h4,fun x hx=>aoH (h5 x hx) e1.size⟩,e1.mono fun x _ hx=>hx▸s1⟩
    ·rw[hs]
     exact⟨rfl,a1,a2,h',ag.refl _ _⟩
   have al:=(aoj.1 hx).1
   have bl:=(aoj.1 hy).1
   obtain⟨x1,x2,x3,x4⟩:=vD hx
   obtain⟨y1,y2,y3,y4⟩:=vD hy
   have fl:=jj cs
   refine v1 (ae b1) ?_
   refine⟨by omega,?_⟩
   refine v3 (ae b1) (ae b2) x4 ?_
   refine⟨by omega,?_⟩
   refine v2 (ae b1) x4 ?_
   refine⟨by omega,?_⟩
   refine v3 (ae b1) (ae b2) y4 ?_
   refine⟨by omega,?_⟩
   refine v2 x4 y4 ?_
   refine(nD x.2.1 x.2.2 y.2.1 y.2.2 _).mono ?_
   rintro _ H2 ⟨rfl,hf⟩
   refine vs ?_
   have b5:=b3.ext hf (fun _ _ h=>h)
   have b6:=b4.trans (hf.mono fun _ _ h=>h.elim)
   refine am.dec (fun aO=>?_) (fun aO=>?_)<;>refine vs ?_
   ·exact .inr ⟨⟨ha,hb⟩,x,y,hx,hy,aoE Value.bool (aow (show zy a b x y from .inl aO)).symm,b5,b6⟩
   ·refine am.dec (fun heq=>?_) (fun heq=>?_)<;>refine vs ?_
    ·exact .inr ⟨⟨ha,hb⟩,x,y,hx,hy,aoE Value.bool (by rw[decide_eq_decide];exact⟨fun hh=>.inr ⟨heq,hh⟩,fun hh=>hh.elim (fun e=>absurd e aO) (·.2)⟩),b5,b6⟩
    ·exact .inr ⟨⟨ha,hb⟩,x,y,hx,hy,aoE Value.bool (aoJ (show¬zy a b x y from fun hh=>hh.elim aO (fun e=>heq e.1))).symm,b5,b6⟩
  ·exact .inl ⟨fun hc=>hb hc.2,rfl,rfl⟩
 ·exact .inl ⟨fun hc=>ha hc.1,rfl,rfl⟩
theorem bI.names{H H1:Hp}{c:Nat}{S:Nat→Prop}{st:Int}{cs:List Ce}{len:Nat}{rt rt':Nat→Nat}{aS:Int→Option Int}{fb nb ns mb:Nat}(h:bI H c S st cs len rt aS)
  (a1:H.own c=some [i64 st,.slice (some ⟨fb,0,none⟩) cs.length cs.length,ptr nb,.map (some mb)])(a2:H.own fb=some (cw cs))(a4:lG H mb (fun i=>(aS i).map i64))
  (a5:S c∧S fb∧S nb∧S ns∧S mb)(a6:c≠fb∧c≠nb∧c≠ns∧c≠mb)(a7:fb≠nb∧fb≠ns∧fb≠mb)(a8:nb≠mb∧ns≠mb)
  (n:eO H1 nb ns len rt' 65536)(e:ag (fun x=>x=nb∨x=ns) H H1):
  bI H1 c S st cs len rt' aS∧ag S H H1∧H1.own c=some [i64 st,.slice (some ⟨fb,0,none⟩) cs.length cs.length,ptr nb,.map (some mb)]∧lG H1 mb (fun i=>(aS i).map i64):=by
 obtain⟨s1,s2,s3,s4,s5⟩:=a5
 have b1:=e.own a1 (by omega)
 have b4:=a4.ext e (by omega)
 exact⟨⟨⟨fb,nb,ns,mb,b1,e.own a2 (by omega),n,b4,⟨s1,s2,s3,s4,s5⟩,a6,a7,a8⟩,h.st0,h.Tl,h.Ef,fun x hx=>aoH (h.slt x hx) e.size⟩,e.mono fun x _ hx=>hx.elim (fun h=>h▸s3) (fun h=>h▸s4),b1,b4⟩
theorem sR{H:Hp}{c:Nat}{S:Nat→Prop}{st:Int}{cs:List Ce}{len:Nat}{rt:Nat→Nat}{aS:Int→Option Int}(h:bI H c S st cs len rt aS)(hl:∀x∈cs,x.1<len)(i:Int):
  af Tryz.prog ie [ptr c,i64 i] H fun v H'=>aw (
   (¬cY cs i∧v= .tuple [i64 0,.bool false].toArray∧H=H')∨
   (cY cs i∧∃x,cs[i.toNat]? =some x∧v= .tuple [i64 (rt x.1.toNat),.bool true].toArray∧bI H' c S st cs len rt aS∧ag S H H')):=by
 have h':=h
 obtain⟨⟨fb,nb,ns,mb,a1,a2,a3,a4,a5,a6,a7,a8⟩,h2,h3,h4,h5⟩:=h
 refine bv ze ?_
 refine vs ?_
 refine(fh h' i).mono ?_
 rintro _ _ ⟨rfl,rfl⟩
 refine vs ?_
 refine am.dec (fun hi=>?_) (fun hi=>?_)<;>refine vs ?_
 ·obtain⟨FG,x,hx,gf⟩:=id hi
  have mF:=(aoj.1 hx).1
  obtain⟨x1,x2,x3,x4⟩:=vD hx
  refine v1 (ae a1) ?_
  refine⟨by omega,?_⟩
  refine v4 (ae a2) x1 Nat.add_zero aoi ?_
  refine(Eb a3 x.1).mono ?_
  rintro _ H1 (⟨hn,_⟩| ⟨_,rfl,n1,e1⟩)
  ·exact absurd ⟨gf,hl x (aon hx)⟩ hn
  refine vs ?_
  obtain⟨b1,b2,_⟩:=h'.names a1 a2 a4 a5 a6 a7 a8 n1 e1
  exact .inr ⟨hi,x,hx,rfl,b1,b2⟩
 ·exact .inl ⟨hi,rfl,rfl⟩
theorem CI{H:Hp}{c:Nat}{S:Nat→Prop}{st:Int}{cs:List Ce}{len:Nat}{rt:Nat→Nat}{aS:Int→Option Int}(h:bI H c S st cs len rt aS)(i:Int):
  af Tryz.prog bh [ptr c,i64 i] H fun v H'=>aw (bI H' c S st cs len rt aS∧ah H H'∧(
   (¬cY cs i∧v= .tuple [tL 0 0,.bool false].toArray)∨
   (cY cs i∧∃x,cs[i.toNat]? =some x∧v= .tuple [tL x.2.1 x.2.2,.bool true].toArray))):=by
 have e0:ah H (H.new 224 [.int .i64 0,.int .u64 0]):=(ag.refl _ _).new _ _
 have h':=h.ext e0 (fun _ _ h=>h)
 refine bv wQ ?_
 refine vs ?_
 refine(fh h' i).mono ?_
 rintro _ _ ⟨rfl,rfl⟩
 refine vs ?_
 refine am.dec (fun hi=>?_) (fun hi=>?_)<;>refine vs ?_
 ·obtain⟨FG,x,hx,gf⟩:=id hi
  have mF:=(aoj.1 hx).1
  obtain⟨x1,x2,x3,x4⟩:=vD hx
  have fl:=jj cs
  obtain⟨⟨fb,nb,ns,mb,a1,a2,a3,a4,a5,a6,a7,a8⟩,h2,h3,h4,h5⟩:=id h'
  refine v1 (ae a1) ?_
  refine⟨by omega,?_⟩
  refine v1 (ae a2) ?_
  refine⟨by omega,?_⟩
  simp(disch:=(first|omega| (simp only[Zs]<;>omega)|fail)) only[go_sem, ↓reduceIte,Zv,x4,rN (az H 224 [.int .i64 0,.int .u64 0])]
  have e1:ah H ((H.new 224 [.int .i64 0,.int .u64 0]).wr H.size [i64 x.2.1,u64 x.2.2]):=e0.wr (fun h=>absurd h (Nat.lt_irrefl _)) _
  exact⟨h.ext e1 (fun _ _ h=>h),e1,.inr ⟨hi,x,hx,rfl⟩⟩
 ·simp(disch:=(first|omega| (simp only[Zs]<;>omega)|fail)) only[go_sem, ↓reduceIte,Zv,rN (az H 224 [.int .i64 0,.int .u64 0])]
  have e1:ah H ((H.new 224 [.int .i64 0,.int .u64 0]).wr H.size [.int .i64 0,.int .u64 0]):=e0.wr (fun h=>absurd h (Nat.lt_irrefl _)) _
  exact⟨h.ext e1 (fun _ _ h=>h),e1,.inl ⟨hi,rfl⟩⟩
def cZ(m:Int→Option Int)(i n:Int):Int→Option Int:=fun j=>if j=i then some n else m j
def rT(m:Int→Option Int)(i:Int):Int→Option Int:=fun j=>if j=i then none else m j
theorem Lj(m:Int→Option Int)(i n:Int):JB (fun j=>(m j).map i64) i (i64 n)=fun j=>(cZ m i n j).map i64:=by
 funext j;unfold JB cZ;by_cases hj:j=i<;>simp[hj]
theorem Ll(m:Int→Option Int)(i:Int):Nc (fun j=>(m j).map i64) i=fun j=>(rT m i j).map i64:=by
 funext j;unfold Nc rT;by_cases hj:j=i<;>simp[hj]
theorem DA(m:Int→Option Int)(g:Int):gZ false (Value.int .i64 0) ((m g).map i64)=i64 (dI m g):=by
 unfold dI;cases m g<;>rfl
theorem Eh{H:Hp}{c:Nat}{S:Nat→Prop}{st:Int}{cs:List Ce}{len:Nat}{rt:Nat→Nat}{aS:Int→Option Int}(h:bI H c S st cs len rt aS)(hl:∀x∈cs,x.1<len)(i:Int)(hm:∀j,0≤dI aS j∧dI aS j≤1000000):
  af Tryz.prog ij [ptr c,i64 i] H fun v H'=>aw (
   (¬cY cs i∧v= .bool false∧H=H')∨
   (cY cs i∧v= .bool true∧∃x,cs[i.toNat]? =some x∧
    bI H' c S st (cs.set i.toNat (0,0,0)) len rt (if dI aS (rt x.1.toNat) - 1=0 then rT (cZ aS (rt x.1.toNat) (dI aS (rt x.1.toNat) - 1)) (rt x.1.toNat)else cZ aS (rt x.1.toNat) (dI aS (rt x.1.toNat) - 1))∧ag S H H')):=by
 refine bv zg ?_
 refine vs ?_
 refine(sR h hl i).mono ?_
 rintro _ H1 (⟨hi,rfl,rfl⟩| ⟨hi,x,hx,rfl,b1,b2⟩)
 ·refine vs ?_
  exact .inl ⟨hi,rfl,rfl⟩
 ·have mF:=(aoj.1 hx).1
  have FG:=hi.1
  have fl:=jj cs
  obtain⟨⟨fb,nb,ns,mb,a1,a2,a3,a4,a5,a6,a7,a8⟩,h2,h3,h4,h5⟩:=b1
  have hmg:=hm (rt x.1.toNat)
  refine v1 (ae a1) ?_
  refine⟨by omega,?_⟩
  refine v1 a2 ?_
  refine⟨by omega,?_⟩
  rw[show bk (cw cs) (i.toNat*3) (aI (Value.agg #[Value.int .i64 0,Value.int .i64 0,Value.int .u64 0]))=cw (cs.set i.toNat (0,0,0))from IF cs i.toNat (0,0,0) (by omega)]
  have e2:ag (fun x=>x=fb) H1 (H1.wr fb (cw (cs.set i.toNat (0,0,0)))):=(ag.refl (fun x=>x=fb) _).wr (fun _=>rfl) _
  have c1:=e2.own a1 a6.1
  have c2:(H1.wr fb (cw (cs.set i.toNat (0,0,0)))).own fb=_:=ai a2
  have c3:=a3.ext e2 (Ne.symm a7.1) (Ne.symm a7.2.1)
  have c4:=a4.ext e2 (Ne.symm a7.2.2)
  refine v3 (ae c1) c4.look DA ?_
  rw[wrap64 (by omega) (by omega)]
  refine c4.Y5 fun H2 m2 e3=>?_
  rw[Lj]at m2
  have d1:=e3.own c1 a6.2.2.2
  have hs:dI (cZ aS (rt x.1.toNat) (dI aS (rt x.1.toNat) - 1)) (rt x.1.toNat)=dI aS (rt x.1.toNat) - 1:=by simp[dI,cZ]
  refine v4 (ae d1) m2.look DA hs ?_
  have GS:ag S H1 H2:=(e2.mono fun x _ hx=>hx▸a5.2.1).trans (e3.mono fun x _ hx=>hx▸a5.2.2.2.2)
  refine am.dec (fun h0=>?_) (fun h0=>?_)<;>refine v1 (ae d1) ?_
  ·refine m2.del fun H3 m3 e4=>?_
   rw[Ll]at m3
   refine vs ?_
   refine .inr ⟨hi,rfl,x,hx,?_,(b2.trans GS).trans (e4.mono fun x _ hx=>hx▸a5.2.2.2.2)⟩
   rw[if_pos h0]
   exact⟨⟨fb,nb,ns,mb,by rw[aok];exact e4.own d1 a6.2.2.2,(e4.own (e3.own c2 a7.2.2) a7.2.2),(c3.ext e3 a8.1 a8.2).ext e4 a8.1 a8.2,m3,a5,a6,a7,a8⟩,h2,h3,by rw[aok];exact h4,fun x hx=>aoH (h5 x hx) (apb GS.size e4.size)⟩
  ·refine .inr ⟨hi,rfl,x,hx,?_,b2.trans GS⟩
   rw[if_neg h0]
   exact⟨⟨fb,nb,ns,mb,by rw[aok];exact d1,e3.own c2 a7.2.2,c3.ext e3 a8.1 a8.2,m2,a5,a6,a7,a8⟩,h2,h3,by rw[aok];exact h4,fun x hx=>aoH (h5 x hx) GS.size⟩
theorem Nd(cs:List Ce)(i:Nat)(x:Ce)(k s:Int)(hx:cs[i]? =some x):bk (cw cs) (i*3+1) [i64 k,u64 s]=cw (cs.set i (x.1,k,s)):=by
 simp only[bk]
 induction cs generalizing i with
 |nil=>simp at hx
 |cons a r ih=>
  have e:cw (a::r)=i64 a.1::i64 a.2.1::u64 a.2.2::cw r:=rfl
  cases i with
  |zero=>
   simp at hx
   subst hx
   rfl
  |succ i=>
   have e2:cw ((a::r).set (i+1) (x.1,k,s))=i64 a.1::i64 a.2.1::u64 a.2.2::cw (r.set i (x.1,k,s)):=rfl
   rw[e,e2,show(i+1)*3+1=i*3+1+1+1+1 by omega]
   simp only[ao1]
   rw[ih i (by simpa using hx)]
theorem CJ{H:Hp}{c:Nat}{S:Nat→Prop}{st:Int}{cs:List Ce}{len:Nat}{rt:Nat→Nat}{aS:Int→Option Int}(h:bI H c S st cs len rt aS)(i k s:Int):
  af Tryz.prog gH [ptr c,i64 i,tL k s] H fun v H'=>aw (
   (¬ (cY cs i∧∀x,cs[i.toNat]? =some x→¬fA x.2.1 x.2.2 k s)∧v= .bool false∧bI H' c S st cs len rt aS∧ah H H')∨
   (cY cs i∧v= .bool true∧∃x,cs[i.toNat]? =some x∧¬fA x.2.1 x.2.2 k s∧bI H' c S st (cs.set i.toNat (x.1,k,s)) len rt aS∧ag S H H')):=by
 have e0:ah H (H.new 224 [i64 k,u64 s]):=(ag.refl _ _).new _ _
 have h':=h.ext e0 (fun _ _ h=>h)
 refine bv wS ?_
 simp(disch:=(first|omega| (simp only[Zs]<;>omega)|fail)) only[go_sem, ↓reduceIte,Zv,tL]
 refine(fh h' i).mono ?_
 rintro _ _ ⟨rfl,rfl⟩
 refine vs ?_
 refine am.dec (fun hi=>?_) (fun hi=>?_)<;>refine vs ?_
 ·obtain⟨FG,x,hx,gf⟩:=id hi
  have mF:=(aoj.1 hx).1
  obtain⟨x1,x2,x3,x4⟩:=vD hx
  have fl:=jj cs
  obtain⟨⟨fb,nb,ns,mb,a1,a2,a3,a4,a5,a6,a7,a8⟩,h2,h3,h4,h5⟩:=id h'
  refine v1 (ae a1) ?_
  refine⟨by omega,?_⟩
  refine v1 (ae a2) ?_
  refine⟨by omega,?_⟩
  refine v1 x4 ?_
  refine(Ee x.2.1 x.2.2 k s _).mono ?_
  rintro _ H2 ⟨rfl,hf⟩
  have g1:=hf.own a1 (fun h=>h)
  have g2:=hf.own a2 (fun h=>h)
  have hr:=hf.own (az H 224 [i64 k,u64 s]) (fun h=>h)
  refine vs ?_
  refine am.dec (fun fB=>?_) (fun fB=>?_)<;>refine vs ?_
  ·exact .inl ⟨fun hc=>hc.2 x hx fB,rfl,h'.ext hf (fun _ _ h=>h),e0.trans hf⟩
  ·refine v2 (ae g1) (ae hr) ?_
   refine⟨by omega,?_⟩
   refine v3 (ae g1) (ae hr) g2 ?_
   refine⟨by omega,?_⟩
   refine vs ?_
   have B1:((cw cs).set (i.toNat*3+1) (i64 k)).set (i.toNat*3+1+1) (u64 s)=cw (cs.set i.toNat (x.1,k,s)):=Nd cs i.toNat x k s hx
   rw[B1]
   have e3:ag (fun x=>x=fb) H2 (H2.wr fb (cw (cs.set i.toNat (x.1,k,s)))):=(ag.refl (fun x=>x=fb) _).wr (fun _=>rfl) _
   refine .inr ⟨hi,rfl,x,hx,fB,⟨⟨fb,nb,ns,mb,by rw[aok];exact e3.own g1 a6.1,ai g2,(a3.ext hf (fun h=>h) (fun h=>h)).ext e3 (Ne.symm a7.1) (Ne.symm a7.2.1),(a4.ext hf (fun h=>h)).ext e3 (Ne.symm a7.2.2),a5,a6,a7,a8⟩,h2,h3,by rw[aok];exact h4,fun x hx=>aoH (h5 x hx) (apb hf.size e3.size)⟩,
    ((e0.trans hf).mono fun _ _ h=>h.elim).trans (e3.mono fun x _ hx=>hx▸a5.2.1)⟩
 ·exact .inl ⟨fun hc=>hi hc.1,rfl,h',e0⟩
structure Nw where
 hs:List Bool
 cs:List Ce
def Nw.has(w:Nw)(h:Int):Prop:=1≤h∧w.hs[h.toNat]? =some true
instance(w:Nw)(h:Int):Decidable (w.has h):=inferInstanceAs (Decidable (_∧_))
def Nw.len(w:Nw)(h:Int):Int:=if 0<h then(w.cs.countP fun c=>decide (c.1=h):Nat)else 0
def Nw.put(w:Nw)(i:Int)(c:Ce):Nw:=⟨w.hs,w.cs.set i.toNat c⟩
def Nw.make(w:Nw):Nw:=⟨w.hs++[true],w.cs⟩
def Nw.ahead(w:Nw)(a b:Int):Bool:=
 decide (cY w.cs a) && decide (cY w.cs b) && (match w.cs[a.toNat]?,w.cs[b.toNat]? with|some x,some y=>decide (zy a b x y)|_,_=>false)
theorem Nw.zA(w:Nw)(h:Int):0≤w.len h∧w.len h≤w.cs.length:=by
 unfold Nw.len
 have:=aqi (p:=fun c:Ce=>decide (c.1=h)) (l:=w.cs)
 split<;>omega
structure nE(w:Nw)(cs:List Ce)(len:Nat)(rt:Nat→Nat)(aS:Int→Option Int):Prop where
 hl:w.hs.length=len
 h0:w.hs[0]? =some false
 hh:∀h,1≤h→h<len→w.hs[h]? =some (decide (rt h=h))
 cl:w.cs=cs.map fun c=>(if 0<c.1 then((rt c.1.toNat:Nat):Int)else 0,c.2)
 lt:∀c∈cs,0≤c.1∧c.1<len
 mn:∀h:Int,dI aS h=w.len h
 low:∀i,i<len→rt i<len
 K8:∀i,i<len→rt (rt i)=rt i
 nz:∀i,i<len→rt i=0→i=0
def bf(H:Hp)(c:Nat)(S:Nat→Prop)(st:Int)(w:Nw):Prop:=∃cs len rt aS,bI H c S st cs len rt aS∧nE w cs len rt aS
theorem bf.ext{H H':Hp}{c:Nat}{S T:Nat→Prop}{st:Int}{w:Nw}(h:bf H c S st w)(e:ag T H H')(hd:∀x,S x→¬T x):bf H' c S st w:=by
 obtain⟨cs,len,rt,aS,h1,h2⟩:=h
 exact⟨cs,len,rt,aS,h1.ext e hd,h2⟩
theorem bf.fresh{H H':Hp}{c:Nat}{S:Nat→Prop}{st:Int}{w:Nw}(h:bf H c S st w)(e:ah H H'):bf H' c S st w:=h.ext e fun _ _ h=>h
theorem bf.slt{H:Hp}{c:Nat}{S:Nat→Prop}{st:Int}{w:Nw}(h:bf H c S st w):∀x,S x→x<H.size:=by
 obtain⟨cs,len,rt,aS,h1,h2⟩:=h
 exact h1.slt
theorem bf.Ph{H:Hp}{c:Nat}{S:Nat→Prop}{st:Int}{w:Nw}(h:bf H c S st w):S c:=by
 obtain⟨cs,len,rt,aS,⟨⟨fb,nb,ns,mb,_,_,_,_,s,_⟩,_⟩,h2⟩:=h
 exact s.1
theorem bf.Ef{H:Hp}{c:Nat}{S:Nat→Prop}{st:Int}{w:Nw}(h:bf H c S st w):w.cs.length≤65536:=by
 obtain⟨cs,len,rt,aS,h1,h2⟩:=h
 rw[h2.cl,aoF]
 exact h1.Ef
theorem bf.st{H:Hp}{c:Nat}{S:Nat→Prop}{st:Int}{w:Nw}(h:bf H c S st w):0≤st∧st≤4611686018427387904:=by
 obtain⟨cs,len,rt,aS,h1,h2⟩:=h
 exact⟨h1.st0,h1.Tl⟩
theorem nE.MF{w:Nw}{cs:List Ce}{len:Nat}{rt:Nat→Nat}{aS:Int→Option Int}(h:nE w cs len rt aS)(i:Int):cY w.cs i↔cY cs i:=by
 unfold cY
 rw[h.cl]
 simp only[aoG]
 constructor
 ·rintro⟨h0,c,hc,hp⟩
  cases hx:cs[i.toNat]? with
  |none=>rw[hx]at hc;cases hc
  |some x=>
   rw[hx]at hc
   simp only[Option.map_some,aos]at hc
   subst hc
   refine⟨h0,x,rfl,?_⟩
   by_cases gf:0<x.1
   ·exact gf
   ·simp[gf]at hp
 ·rintro⟨h0,x,hx,hp⟩
  refine⟨h0,_,by rw[hx];rfl,?_⟩
  have aO:=h.lt x (aon hx)
  simp only[if_pos hp]
  have hnz:rt x.1.toNat≠0:=fun e=>by have:=h.nz _ (by omega) e;omega
  omega
theorem nE.get{w:Nw}{cs:List Ce}{len:Nat}{rt:Nat→Nat}{aS:Int→Option Int}(h:nE w cs len rt aS){i:Nat}{x:Ce}(hx:cs[i]? =some x):w.cs[i]? =some (if 0<x.1 then((rt x.1.toNat:Nat):Int)else 0,x.2):=by
 rw[h.cl,aoG,hx];rfl
theorem nE.WC{w:Nw}{cs:List Ce}{len:Nat}{rt:Nat→Nat}{aS:Int→Option Int}(h:nE w cs len rt aS)(g:Int):w.has g↔(0<g∧g<len∧rt g.toNat=g.toNat):=by
 unfold Nw.has
 constructor
 ·rintro⟨h1,h2⟩
  have aO:=(aoj.1 h2).1
  rw[h.hl]at aO
  rw[h.hh g.toNat (by omega) aO]at h2
  injection h2 with h2
  exact⟨by omega,by omega,of_decide_eq_true h2⟩
 ·rintro⟨h1,h2,h3⟩
  exact⟨by omega,by rw[h.hh g.toNat (by omega) (by omega),aow h3]⟩
theorem lH(cap:Int)(H:Hp):af Tryz.prog tY [i64 cap] H fun v H'=>aw (
  ah H H'∧((¬ (0≤cap∧cap≤65536)∧v= .tuple [.pointer none,i64 31].toArray)∨
   (0≤cap∧cap≤65536)∧∃c S,v= .tuple [ptr c,i64 0].toArray∧bf H' c S 0 ⟨[false],List.replicate cap.toNat (0,0,0)⟩∧(∀x,S x→H.size≤x))):=by
 refine(FD cap H).mono ?_
 rintro _ H1 ⟨f,⟨h,rfl⟩| ⟨h,c,S,rfl,h1,h2⟩⟩
 ·exact⟨f,.inl ⟨h,rfl⟩⟩
 ·refine⟨f,.inr ⟨h,c,S,rfl,⟨_,_,_,_,h1,⟨rfl,rfl,fun h h1 h2=>by omega,?_,fun c hc=>?_,fun h=>?_,fun i hi=>hi,fun i hi=>rfl,fun i hi h=>h⟩⟩,h2⟩⟩
  ·simp
  ·rw[apv hc];exact⟨by omega,by simp⟩
  ·unfold Nw.len dI
   split
   ·simp only[Option.getD_none,List.countP_replicate]
    rw[if_neg (by simp;omega)];rfl
   ·rfl
theorem hX{H:Hp}{c:Nat}{S:Nat→Prop}{st:Int}{w:Nw}(h:bf H c S st w)(i:Int):
  af Tryz.prog bE [ptr c,i64 i] H fun v H'=>aw (v= .bool (decide (w.has i))∧H=H'):=by
 obtain⟨cs,len,rt,aS,h1,h2⟩:=h
 refine(uF h1 i).mono ?_
 rintro _ _ ⟨rfl,rfl⟩
 exact⟨aoE Value.bool (by rw[decide_eq_decide,h2.WC]),rfl⟩
theorem sS{H:Hp}{c:Nat}{S:Nat→Prop}{st:Int}{w:Nw}(h:bf H c S st w)(i:Int):
  af Tryz.prog iW [ptr c,i64 i] H fun v H'=>aw (v=i64 (w.len i)∧H=H'):=by
 obtain⟨cs,len,rt,aS,h1,h2⟩:=h
 refine(FE h1 i).mono ?_
 rintro _ _ ⟨rfl,rfl⟩
 exact⟨by rw[h2.mn],rfl⟩
theorem j5{H:Hp}{c:Nat}{S:Nat→Prop}{st:Int}{w:Nw}(h:bf H c S st w):
  af Tryz.prog du [ptr c] H fun v H'=>aw (
   (w.hs.length=65537∧v=i64 0∧H=H')∨
   (w.hs.length≠65537∧v=i64 w.hs.length∧∃S',bf H' c S' st w.make∧ag S H H'∧∀x,S' x→S x∨H.size≤x)):=by
 obtain⟨cs,len,rt,aS,h1,h2⟩:=h
 refine(Eg h1).mono ?_
 have hl:=h2.hl
 rintro _ H1 (⟨e,rfl,rfl⟩| ⟨e,rfl,S',g1,g2,g3⟩)
 ·exact .inl ⟨by omega,rfl,rfl⟩
 ·refine .inr ⟨by omega,by rw[hl],S',⟨_,_,_,_,g1,?_⟩,g2,g3⟩
  have gh:0<w.hs.length:=(aoj.1 h2.h0).1
  refine⟨by simp[Nw.make,hl],?_,fun h a1 a2=>?_,?_,fun c hc=>by have:=h2.lt c hc;omega,h2.mn,fun i hi=>?_,fun i hi=>?_,fun i hi hz=>?_⟩
  ·show(w.hs++[true])[0]? =some false
   rw[aox gh];exact h2.h0
  ·show(w.hs++[true])[h]? =_
   by_cases he:h=len
   ·subst he
    rw[aoK (by omega),hl]
    simp
   ·rw[aox (by omega),h2.hh h a1 (by omega),if_neg he]
  ·show w.cs=_
   rw[h2.cl]
   apply aqf
   intro x hx
   have:=h2.lt x hx
   by_cases h0:0<x.1
   ·simp only[if_pos h0];rw[if_neg (by omega)]
   ·simp only[if_neg h0]
  ·by_cases he:i=len
   ·simp[he]
   ·have:=h2.low i (by omega);simp only[if_neg he];omega
  ·by_cases he:i=len
   ·simp[he]
   ·have:=h2.low i (by omega)
    simp only[if_neg he]
    rw[if_neg (by omega)]
    exact h2.K8 i (by omega)
  ·by_cases he:i=len
   ·simp only[if_pos he]at hz;omega
   ·simp only[if_neg he]at hz;exact h2.nz i (by omega) hz
theorem HN{α:Type}(p:α→Bool):∀ (l:List α) (i:Nat) (x y:α),l[i]? =some x→(l.set i y).countP p+(if p x=true then 1 else 0)=l.countP p+(if p y=true then 1 else 0):=by
 intro l
 induction l with
 |nil=>intro i x y h;simp at h
 |cons a l ih=>
  intro i x y h
  cases i with
  |zero=>
   simp only[aoM,aos]at h
   subst h
   simp only[apH,apu]
   omega
  |succ i=>
   have:=ih i x y (by simpa using h)
   simp only[ao1,apu]
   omega
theorem Nw.gm{w:Nw}{i:Int}{x y:Ce}(hx:w.cs[i.toNat]? =some x)(h:Int):(w.put i y).len h=w.len h - (if 0<h∧x.1=h then 1 else 0)+(if 0<h∧y.1=h then 1 else 0):=by
 unfold Nw.len Nw.put
 by_cases h0:0<h
 ·simp only[if_pos h0,h0,true_and]
  have:=HN (fun c:Ce=>decide (c.1=h)) w.cs i.toNat x y hx
  simp only[aoL]at this
  split at this<;>split at this<;>simp_all<;>omega
 ·simp only[if_neg h0,h0,false_and,if_false];rfl
theorem lI{H:Hp}{c:Nat}{S:Nat→Prop}{st:Int}{w:Nw}(h:bf H c S st w)(g i k s:Int):
  af Tryz.prog iX [ptr c,i64 g,i64 i,tL k s] H fun v H'=>aw (
   (¬ (w.has g∧(0≤i∧i<w.cs.length)∧¬cY w.cs i)∧v= .bool false∧bf H' c S st w∧ag S H H')∨
   ((w.has g∧(0≤i∧i<w.cs.length)∧¬cY w.cs i)∧v= .bool true∧bf H' c S st (w.put i (g,k,s))∧ag S H H')):=by
 obtain⟨cs,len,rt,aS,h1,h2⟩:=h
 have nU:w.cs.length=cs.length:=by rw[h2.cl,aoF]
 have aZ:=w.zA g
 have xt:=h1.Ef
 refine(FF h1 g i k s (by rw[h2.mn];omega)).mono ?_
 rintro _ H1 (⟨e,rfl,g1,g2⟩| ⟨e,rfl,g1,g2⟩)
 ·exact .inl ⟨by rw[h2.WC,h2.MF,nU];exact e,rfl,⟨_,_,_,_,g1,h2⟩,g2⟩
 ·refine .inr ⟨by rw[h2.WC,h2.MF,nU];exact e,rfl,⟨_,_,_,_,g1,?_⟩,g2⟩
  obtain⟨x,hx⟩:∃x,cs[i.toNat]? =some x:=⟨_,aoh (by omega)⟩
  have gf:¬0<x.1:=fun gf=>e.2.2 ⟨e.2.1.1,x,hx,gf⟩
  have OO:=h2.get hx
  rw[if_neg gf]at OO
  refine⟨h2.hl,h2.h0,h2.hh,?_,fun y hy=>?_,fun j=>?_,h2.low,h2.K8,h2.nz⟩
  ·show w.cs.set i.toNat _=_
   rw[h2.cl,ao4]
   simp only[if_pos e.1.1,e.1.2.2]
   congr 3
   omega
  ·rcases aph hy with hy|rfl
   ·exact h2.lt y hy
   ·exact⟨by have:=e.1.1;simp only;omega,e.1.2.1⟩
  ·rw[Nw.gm OO]
   by_cases hj:j=g
   ·subst hj
    have hg:=e.1.1
    rw[if_neg (by rintro⟨_,h⟩;omega),if_pos ⟨hg,rfl⟩,←h2.mn]
    simp[dI]
   ·rw[if_neg (by rintro⟨_,h⟩;omega),if_neg (by rintro⟨_,h⟩;exact hj h.symm),←h2.mn]
    simp[dI,hj]
theorem eC{H:Hp}{c:Nat}{S:Nat→Prop}{st:Int}{w:Nw}(h:bf H c S st w)(i:Int):
  af Tryz.prog ie [ptr c,i64 i] H fun v H'=>aw (
   (¬cY w.cs i∧v= .tuple [i64 0,.bool false].toArray∧H=H')∨
   (cY w.cs i∧∃x,w.cs[i.toNat]? =some x∧v= .tuple [i64 x.1,.bool true].toArray∧bf H' c S st w∧ag S H H')):=by
 obtain⟨cs,len,rt,aS,h1,h2⟩:=h
 refine(sR h1 (fun x hx=>(h2.lt x hx).2) i).mono ?_
 rintro _ H1 (⟨e,rfl,rfl⟩| ⟨e,x,hx,rfl,g1,g2⟩)
 ·exact .inl ⟨by rw[h2.MF];exact e,rfl,rfl⟩
 ·obtain⟨e0,x',xu,hp⟩:=id e
  rw[hx]at xu
  injection xu with xu
  subst xu
  have hg:=h2.get hx
  rw[if_pos hp]at hg
  exact .inr ⟨by rw[h2.MF];exact e,_,hg,rfl,⟨_,_,_,_,g1,h2⟩,g2⟩
theorem jk{H:Hp}{c:Nat}{S:Nat→Prop}{st:Int}{w:Nw}(h:bf H c S st w)(i:Int):
  af Tryz.prog bh [ptr c,i64 i] H fun v H'=>aw (bf H' c S st w∧ah H H'∧(
   (¬cY w.cs i∧v= .tuple [tL 0 0,.bool false].toArray)∨
   (cY w.cs i∧∃x,w.cs[i.toNat]? =some x∧v= .tuple [tL x.2.1 x.2.2,.bool true].toArray))):=by
 obtain⟨cs,len,rt,aS,h1,h2⟩:=h
 refine(CI h1 i).mono ?_
 rintro _ H1 ⟨g1,g2,⟨e,rfl⟩| ⟨e,x,hx,rfl⟩⟩
 ·exact⟨⟨_,_,_,_,g1,h2⟩,g2,.inl ⟨by rw[h2.MF];exact e,rfl⟩⟩
 ·exact⟨⟨_,_,_,_,g1,h2⟩,g2,.inr ⟨by rw[h2.MF];exact e,_,h2.get hx,rfl⟩⟩
theorem j6{H:Hp}{c:Nat}{S:Nat→Prop}{st:Int}{w:Nw}(h:bf H c S st w)(i:Int):
  af Tryz.prog ij [ptr c,i64 i] H fun v H'=>aw (
   (¬cY w.cs i∧v= .bool false∧H=H')∨
   (cY w.cs i∧v= .bool true∧bf H' c S st (w.put i (0,0,0))∧ag S H H')):=by
 obtain⟨cs,len,rt,aS,h1,h2⟩:=h
 have xt:=h1.Ef
 have nU:w.cs.length=cs.length:=by rw[h2.cl,aoF]
 refine(Eh h1 (fun x hx=>(h2.lt x hx).2) i (fun j=>by rw[h2.mn];have:=w.zA j;omega)).mono ?_
 rintro _ H1 (⟨e,rfl,rfl⟩| ⟨e,rfl,x,hx,g1,g2⟩)
 ·exact .inl ⟨by rw[h2.MF];exact e,rfl,rfl⟩
 ·obtain⟨e0,x',xu,hp⟩:=id e
  rw[hx]at xu
  injection xu with xu
  subst xu
  have hg:=h2.get hx
  rw[if_pos hp]at hg
  have aO:=h2.lt x (aon hx)
  have hnz:rt x.1.toNat≠0:=fun e=>by have:=h2.nz _ (by omega) e;omega
  refine .inr ⟨by rw[h2.MF];exact e,rfl,⟨_,_,_,_,g1,h2.hl,h2.h0,h2.hh,?_,fun y hy=>?_,fun j=>?_,h2.low,h2.K8,h2.nz⟩,g2⟩
  ·show w.cs.set i.toNat _=_
   rw[h2.cl,ao4]
   rfl
  ·rcases aph hy with hy|rfl
   ·exact h2.lt y hy
   ·exact⟨by simp only;omega,by simp only;omega⟩
  ·have hp:=Nw.gm (y:=((0:Int),(0:Int),(0:Int))) hg j
   simp only at hp
   have hm:=h2.mn j
   by_cases hj:j=rt x.1.toNat
   ·subst hj
    rw[if_pos ⟨by omega,rfl⟩,if_neg (by rintro⟨h1,h2⟩;omega)]at hp
    rw[hp,←hm]
    split
    ·rename_i hz
     simp only[dI]at hz
     simp only[dI,rT,if_true,Option.getD_none]
     omega
    ·simp[dI,cZ]
   ·rw[if_neg (by rintro⟨_,h⟩;exact hj h.symm),if_neg (by rintro⟨h1,h2⟩;omega)]at hp
    rw[hp,←hm]
    split
    ·simp[dI,cZ,rT,hj]
    ·simp[dI,cZ,hj]
theorem jm{H:Hp}{c:Nat}{S:Nat→Prop}{st:Int}{w:Nw}(h:bf H c S st w)(i k s:Int):
  af Tryz.prog gH [ptr c,i64 i,tL k s] H fun v H'=>aw (
   (¬ (cY w.cs i∧∀x,w.cs[i.toNat]? =some x→¬fA x.2.1 x.2.2 k s)∧v= .bool false∧bf H' c S st w∧ah H H')∨
   (cY w.cs i∧v= .bool true∧∃x,w.cs[i.toNat]? =some x∧¬fA x.2.1 x.2.2 k s∧bf H' c S st (w.put i (x.1,k,s))∧ag S H H')):=by
 obtain⟨cs,len,rt,aS,h1,h2⟩:=h
 refine(CJ h1 i k s).mono ?_
 rintro _ H1 (⟨e,rfl,g1,g2⟩| ⟨e,rfl,x,hx,hl,g1,g2⟩)
 ·refine .inl ⟨fun hc=>e ⟨(h2.MF i).1 hc.1,fun x hx=>?_⟩,rfl,⟨_,_,_,_,g1,h2⟩,g2⟩
  have:=hc.2 _ (h2.get hx)
  exact this
 ·have hg:=h2.get hx
  refine .inr ⟨(h2.MF i).2 e,rfl,_,hg,hl,⟨_,_,_,_,g1,h2.hl,h2.h0,h2.hh,?_,fun y hy=>?_,fun j=>?_,h2.low,h2.K8,h2.nz⟩,g2⟩
  ·show w.cs.set i.toNat _=_
   rw[h2.cl,ao4]
  ·rcases aph hy with hy|rfl
   ·exact h2.lt y hy
   ·exact h2.lt x (aon hx)
  ·rw[Nw.gm hg,←h2.mn]
   simp only
   split<;>omega
theorem jn{H:Hp}{c:Nat}{S:Nat→Prop}{st:Int}{w:Nw}(h:bf H c S st w)(a b:Int):
  af Tryz.prog cM [ptr c,i64 a,i64 b] H fun v H'=>aw (v= .bool (w.ahead a b)∧bf H' c S (if cY w.cs a∧cY w.cs b then fP st 1 else st) w∧ag S H H'):=by
 obtain⟨cs,len,rt,aS,h1,h2⟩:=h
 refine(CH h1 a b).mono ?_
 rintro _ H1 (⟨e,rfl,rfl⟩| ⟨e,x,y,hx,hy,rfl,g1,g2⟩)
 ·have e':¬ (cY w.cs a∧cY w.cs b):=fun hc=>e ⟨(h2.MF a).1 hc.1,(h2.MF b).1 hc.2⟩
  refine⟨aoE Value.bool ?_,by rw[if_neg e'];exact⟨_,_,_,_,h1,h2⟩,ag.refl _ _⟩
  unfold Nw.ahead
  by_cases ha:cY w.cs a
  ·by_cases hb:cY w.cs b
   ·exact absurd ⟨ha,hb⟩ e'
   ·simp[hb]
  ·simp[ha]
 ·have ha:=(h2.MF a).2 e.1
  have hb:=(h2.MF b).2 e.2
  refine⟨aoE Value.bool ?_,by rw[if_pos ⟨ha,hb⟩];exact⟨_,_,_,_,g1,h2⟩,g2⟩
  unfold Nw.ahead
  rw[aow ha,aow hb,h2.get hx,h2.get hy]
  rfl
theorem bf.z7{H:Hp}{c:Nat}{S:Nat→Prop}{st:Int}{w:Nw}(h:bf H c S st w):w.hs.length≤65537:=by
 obtain⟨cs,len,rt,aS,⟨⟨fb,nb,ns,mb,_,_,g,_⟩,_⟩,h2⟩:=h
 have:=g.le
 rw[h2.hl]
 omega
theorem bf.home{H:Hp}{c:Nat}{S:Nat→Prop}{st:Int}{w:Nw}(h:bf H c S st w):∀x∈w.cs,0≤x.1∧x.1<w.hs.length:=by
 obtain⟨cs,len,rt,aS,h1,h2⟩:=h
 intro x hx
 rw[h2.cl]at hx
 obtain⟨y,hy,rfl⟩:=aoC.1 hx
 have h3:=h2.lt y hy
 rw[h2.hl]
 have h4:=h2.low y.1.toNat (by omega)
 have h5:0<len:=by
  have:=(aoj.1 h2.h0).1
  rw[h2.hl]at this
  exact this
 simp only
 split<;>omega
theorem bf.live{H:Hp}{c:Nat}{S:Nat→Prop}{st:Int}{w:Nw}(h:bf H c S st w):∀x∈w.cs,0<x.1→w.hs[x.1.toNat]? =some true:=by
 obtain⟨cs,len,rt,aS,h1,h2⟩:=h
 intro x hx
 rw[h2.cl]at hx
 obtain⟨y,hy,rfl⟩:=aoC.1 hx
 have h3:=h2.lt y hy
 simp only
 split
 ·intro h0
  have h4:=h2.low y.1.toNat (by omega)
  have h5:=h2.K8 y.1.toNat (by omega)
  rw[show((rt y.1.toNat:Nat):Int).toNat=rt y.1.toNat by omega,h2.hh _ (by omega) h4,h5]
  simp
 ·intro h0;omega
theorem cO.Ry{H:Hp}{size n:Nat}{v:Value}{xs:List Value}(h:cO H size v n xs):∃a c,v= .slice a n c:=by
 obtain⟨_,⟨rfl,a,c,rfl⟩| ⟨b,o,c,l,rfl,_⟩⟩:=h
 ·exact⟨_,_,rfl⟩
 ·exact⟨_,_,rfl⟩
def IG(H:Hp)(v:Value)(w:Nw)(A:Nat→Prop):Prop:=
 ∃ha hc ca cc,v= .agg [.slice ha w.hs.length hc,.slice ca w.cs.length cc].toArray∧cO H 1 (.slice ha w.hs.length hc) w.hs.length (w.hs.map .bool)∧cO H 3 (.slice ca w.cs.length cc) w.cs.length (cw w.cs)∧w.hs.length≤65537∧w.cs.length≤65536∧
  (∀x,ha=some x→A x.block)∧(∀x,ca=some x→A x.block)
theorem cO.aM{H H':Hp}{size n c:Nat}{a:Option Addr}{xs:List Value}{S:Nat→Prop}(h:cO H size (.slice a n c) n xs)(e:ag S H H')(hs:∀x,a=some x→¬S x.block):cO H' size (.slice a n c) n xs:=by
 obtain⟨hl,h| ⟨b,o,c',l,h1,h2,h3⟩⟩:=h
 ·exact⟨hl,.inl h⟩
 ·refine⟨hl,.inr ⟨b,o,c',l,h1,e.rd h2 ?_,h3⟩⟩
  injection h1 with h1 _ _
  exact hs _ h1
theorem IG.ext{H H':Hp}{v:Value}{w:Nw}{A S:Nat→Prop}(h:IG H v w A)(e:ag S H H')(hs:∀b,A b→¬S b):IG H' v w A:=by
 obtain⟨ha,hc,ca,cc,rfl,h1,h2,h3,h4,a1,a2⟩:=h
 exact⟨ha,hc,ca,cc,rfl,cO.aM h1 e (fun x hx=>hs _ (a1 x hx)),cO.aM h2 e (fun x hx=>hs _ (a2 x hx)),h3,h4,a1,a2⟩
theorem IG.fresh{H H':Hp}{v:Value}{w:Nw}{A:Nat→Prop}(h:IG H v w A)(e:ah H H'):IG H' v w A:=h.ext e fun _ _ h=>h
theorem IH(k s k' s':Int):(Lh k s k' s'<0↔fA k s k' s')∧(Lh k s k' s'=0↔(k=k'∧s=s')):=by
 refine⟨Li k s k' s',?_⟩
 unfold Lh Y4 Bc
 simp only[List.find?]
 by_cases h1:k<k'
 ·simp[h1];omega
 ·by_cases h2:k'<k
  ·simp[h1,h2];omega
  ·by_cases h3:s<s'
   ·simp[h1,h2,h3];omega
   ·by_cases h4:s'<s
    ·simp[h1,h2,h3,h4];omega
    ·simp[h1,h2,h3,h4];omega
theorem Nf(a b:Int)(x y:Ce):zy a b x y↔(fA x.2.1 x.2.2 y.2.1 y.2.2∨(x.2.1=y.2.1∧x.2.2=y.2.2)∧a<b):=by
 unfold zy
 rw[(IH _ _ _ _).1,(IH _ _ _ _).2]
structure dm(H:Hp)(r:Nat)(S:Nat→Prop)(d:Int)(l:List Int)(pl:Int→Option Int):Prop where
 TO:∃sv fp mb,H.own r=some [i64 d,sv,.map (some mb)]∧Sl H 1 sv l.length (l.map i64) fp∧lG H mb (fun i=>(pl i).map i64)∧
  S r∧S mb∧r≠mb∧(∀b,fp=some b→S b∧b≠r∧b≠mb)
 slt:∀x,S x→x<H.size
theorem dm.ext{H H':Hp}{r:Nat}{S T:Nat→Prop}{d:Int}{l:List Int}{pl:Int→Option Int}(h:dm H r S d l pl)(e:ag T H H')(hd:∀x,S x→¬T x):dm H' r S d l pl:=by
 obtain⟨⟨sv,fp,mb,a1,a2,a3,s1,s2,s3,s4⟩,h2⟩:=h
 exact⟨⟨sv,fp,mb,e.own a1 (hd _ s1),a2.ext e (fun b hb=>hd _ (s4 b hb).1),a3.ext e (hd _ s2),s1,s2,s3,s4⟩,fun x hx=>aoH (h2 x hx) e.size⟩
theorem ye(d:Int)(H:Hp):af Tryz.prog MV [i64 d] H fun v H'=>aw (
  ah H H'∧((¬cU d∧v= .tuple [.pointer none,i64 22].toArray)∨
   cU d∧∃r S,v= .tuple [ptr r,i64 0].toArray∧dm H' r S d [] (fun _=>none)∧∀x,S x→H.size≤x)):=by
 refine bv M0 ?_
 refine vs ?_
 refine(nw d H).mono ?_
 rintro _ _ ⟨rfl,rfl⟩
 refine vs ?_
 refine am.dec (fun h=>?_) (fun h=>?_)<;>refine vs ?_
 ·have e1:ah H (H.im.new 310 [i64 d,.slice none 0 0,.map (some H.size)]):=((ag.refl _ _).im).new _ _
  refine⟨e1,.inr ⟨h,H.size+1,fun x=>H.size≤x∧x<H.size+1+1,rfl,⟨⟨_,none,H.size,aU (by simp only[iC]),Sl.nil _ _,?_,?_,?_,?_,?_⟩,?_⟩,fun x hx=>hx.1⟩⟩
  ·exact(lG.new H).ext ((ag.refl (fun _=>False) _).new _ _) (fun h=>h)
  ·omega
  ·omega
  ·omega
  ·intro b hb;cases hb
  ·intro x hx
   simp only[ap,iC]
   exact hx.2
 ·exact⟨ag.refl _ _,.inl ⟨h,rfl⟩⟩
theorem JC{H:Hp}{r:Nat}{S:Nat→Prop}{d:Int}{l:List Int}{pl:Int→Option Int}(h:dm H r S d l pl)(i:Int):
  af Tryz.prog Hf [ptr r,i64 i] H fun v H'=>aw (v=M6 (if 0≤i then l[i.toNat]? else none)∧H=H'):=by
 obtain⟨⟨sv,fp,mb,a1,a2,a3,s1,s2,s3,s4⟩,h2⟩:=h
 refine bv Hx ?_
 refine vs ?_
 refine am.dec (fun h=>?_) (fun h=>?_)<;>refine v1 (ae a1) ?_
 ·exact⟨by rw[if_neg (by omega)];rfl,rfl⟩
 ·cases fp with
  |none=>
   obtain⟨_,e,rfl⟩:=a2
   have hl:l=[]:=aoR.1 e
   subst hl
   refine vs ?_
   refine am.cQ (by simp only[aoL];omega) ?_
   refine vs ?_
   exact⟨by rw[if_pos (by omega)];rfl,rfl⟩
  |some b=>
   obtain⟨_,l',c,rfl,a4,a5,a6,a7⟩:=a2
   refine vs ?_
   refine am.dec (fun h3=>?_) (fun h3=>?_)<;>refine v1 (ae a1) ?_
   ·exact⟨by rw[if_pos (by omega),aoz (by omega)];rfl,rfl⟩
   ·obtain⟨x,hx⟩:∃x,l[i.toNat]? =some x:=⟨_,aoh (by omega)⟩
    have GU:l'[i.toNat]? =some (i64 x):=by
     have h1:(l.map i64)[i.toNat]? =some (i64 x):=by simp[hx]
     rw[←a7,aoO (by omega)]at h1
     exact h1
    refine⟨by omega,?_⟩
    refine v3 (ae a4) aol GU ?_
    exact⟨by rw[if_pos (by omega),hx];rfl,rfl⟩
theorem kq{H:Hp}{r:Nat}{S:Nat→Prop}{d:Int}{l:List Int}{pl:Int→Option Int}(h:dm H r S d l pl)(i x:Int)(hi:0≤i∧i<l.length):
  af Tryz.prog mW [ptr r,i64 i,i64 x] H fun v H'=>aw (v= .tuple [].toArray∧dm H' r S d (l.set i.toNat x) (cZ pl x i)∧ag S H H'):=by
 obtain⟨⟨sv,fp,mb,a1,a2,a3,s1,s2,s3,s4⟩,h2⟩:=h
 refine bv Fp ?_
 cases fp with
 |none=>obtain⟨_,e,_⟩:=a2;omega
 |some b=>
  have Wn:=a2
  obtain⟨_,l',c,rfl,a4,a5,a6,a7⟩:=a2
  refine v1 (ae a1) ?_
  refine⟨by omega,?_⟩
  refine v2 a4 aol ?_
  refine⟨by omega,?_⟩
  obtain⟨Lm,oR,T1⟩:=s4 b rfl
  have e1:ag (fun z=>z=b) H (H.wr b (l'.set i.toNat (i64 x))):=(ag.refl (fun z=>z=b) _).wr (fun _=>rfl) _
  have b1:=e1.own a1 (Ne.symm oR)
  have b2:=Wn.uC a4 i.toNat (i64 x)
  have b3:=a3.ext e1 (Ne.symm T1)
  refine v1 (ae b1) ?_
  refine b3.Y5 fun H2 m2 e2=>?_
  rw[Lj]at m2
  refine vs ?_
  refine⟨rfl,⟨⟨_,some b,mb,by exact e2.own b1 s3,?_,m2,s1,s2,s3,s4⟩,fun z hz=>aoH (h2 z hz) (apb e1.size e2.size)⟩,(e1.mono fun z _ hz=>hz▸Lm).trans (e2.mono fun z _ hz=>hz▸s2)⟩
  rw[aok,ao4]
  exact b2.ext e2 (fun z hz=>by injection hz with hz;exact hz▸T1)
structure Ng(ov:Value)(I:Hp→Nat→Prop)(T:Nat→Prop)(lt:Int→Int→Bool)(D:Int→Prop:=fun _=>True):Prop where
 call:∀H n a b,D a→D b→I H n→gP Tryz.prog ov "Ahead" [i64 a,i64 b] H fun v H'=>v= .bool (lt a b)∧I H' (n+1)∧ag T H H'
 nil:PP Tryz.prog (.func (.method "Ahead") #[ov] #[])
 aM:∀H H' n U,I H n→ag U H H'→(∀x,T x→¬U x)→I H' n
 tlt:∀H n,I H n→∀x,T x→x<H.size
structure UpR where
 l:List Int
 pl:Int→Option Int
 at_:Int
 asked:Nat
def fC(lt:Int→Int→Bool)(d x:Int):Nat→List Int→(Int→Option Int)→Int→UpR
 |0,l,pl,i=>⟨l.set i.toNat x,cZ pl x i,i,0⟩
 |m+1,l,pl,i=>match ba d i with
  |none=>⟨l.set i.toNat x,cZ pl x i,i,0⟩
  |some p=>
   if lt x (l.getD p.toNat 0)=true then
    let r:=fC lt d x m (l.set i.toNat (l.getD p.toNat 0)) (cZ pl (l.getD p.toNat 0) i) p
    ⟨r.l,r.pl,r.at_,r.asked+1⟩
   else⟨l.set i.toNat x,cZ pl x i,i,1⟩
theorem Rz(lt:Int→Int→Bool)(d x:Int):∀ (m m':Nat) (l:List Int) (pl:Int→Option Int) (i:Int),i.toNat≤m→i.toNat≤m'→fC lt d x m l pl i=fC lt d x m' l pl i:=by
 intro m
 induction m with
 |zero=>
  intro m' l pl i h _
  have hn:ba d i=none:=by unfold ba;rw[if_neg (by omega)]
  cases m'<;>simp[fC,hn]
 |succ m ih=>
  intro m' l pl i h h'
  cases hp:ba d i with
  |none=>cases m'<;>simp[fC,hp]
  |some p=>
   have hb:=eQ hp
   cases m' with
   |zero=>omega
   |succ m'=>simp only[fC,hp];rw[ih m' _ _ p (by omega) (by omega)]
theorem qo{l:List Int}{i:Nat}{y z:Int}(h:z∈l.set i y):z=y∨z∈l:=(aph h).symm
theorem T2(lt:Int→Int→Bool)(d x:Int):∀ (m:Nat) (l:List Int) (pl:Int→Option Int) (i:Int),0≤i→i<l.length→∀z∈(fC lt d x m l pl i).l,z=x∨z∈l:=by
 intro m
 induction m with
 |zero=>intro l pl i _ _ z hz;exact qo hz
 |succ m ih=>
  intro l pl i h0 h1 z hz
  cases hp:ba d i with
  |none=>simp only[fC,hp]at hz;exact qo hz
  |some p=>
   have hb:=eQ hp
   simp only[fC,hp]at hz
   split at hz
   ·rcases ih _ _ p (by omega) (by rw[aok];omega) z hz with h|h
    ·exact .inl h
    ·rcases qo h with h|h
     ·rw[h,aom,aoh (by omega)]
      exact .inr (List.getElem_mem _)
     ·exact .inr h
   ·exact qo hz
theorem rU{ov:Value}{I:Hp→Nat→Prop}{T:Nat→Prop}{lt:Int→Int→Bool}{D:Int→Prop}(ho:Ng ov I T lt D){H:Hp}{r:Nat}{S:Nat→Prop}{d:Int}{l:List Int}{pl:Int→Option Int}
  (h:dm H r S d l pl)(hd:∀x,S x→¬T x){n:Nat}(hI:I H n)(i x:Int)(hi:0≤i∧i<l.length)(hl:l.length≤1000000)(hx:D x:=by trivial)(hD:∀z∈l,D z:=by intros;trivial):
  af Tryz.prog Hg [ptr r,ov,i64 i,i64 x] H fun v H'=>aw (
   let R:=fC lt d x i.toNat l pl i
   v=i64 R.at_∧dm H' r S d R.l R.pl∧I H' (n+R.asked)∧ag (fun z=>S z∨T z) H H'):=by
 refine bv Hy ?_
 refine vs ?_
 refine aX.intro (fun m env H1=>∃ (l1:List Int) (Be:Int→Option Int) (i1:Int) (k:Nat),env=[(0,ptr r),(1,ov),(2,i64 i1),(3,i64 x)]∧(∀z∈l1,D z)∧m=i1.toNat∧0≤i1∧i1<l1.length∧l1.length=l.length∧
   dm H1 r S d l1 Be∧I H1 (n+k)∧ag (fun z=>S z∨T z) H H1∧
   (fC lt d x i.toNat l pl i).l=(fC lt d x i1.toNat l1 Be i1).l∧(fC lt d x i.toNat l pl i).pl=(fC lt d x i1.toNat l1 Be i1).pl∧(fC lt d x i.toNat l pl i).at_=(fC lt d x i1.toNat l1 Be i1).at_∧
   (fC lt d x i.toNat l pl i).asked=k+(fC lt d x i1.toNat l1 Be i1).asked) i.toNat ⟨l,pl,i,0,rfl,hD,rfl,hi.1,hi.2,rfl,h,hI,ag.refl _ _,rfl,rfl,rfl,by omega⟩ ?_
 rintro m env H1 ⟨l1,Be,i1,k,rfl,Vp,rfl,i0,il,ll,h1,hI1,e1,u1,u2,u3,u4⟩
 obtain⟨⟨sv,fp,mb,a1,a2,a3,s1,s2,s3,s4⟩,h2⟩:=id h1
 have key:∀o:Option Int,M6 o= .tuple [i64 (o.getD 0),.bool o.isSome].toArray:=by intro o;cases o<;>rfl
 refine v1 (ae a1) ?_
 refine(CC d i1 (by omega) H1).mono ?_
 rintro _ _ ⟨rfl,rfl⟩
 rw[key]
 have stop:∀ (H2:Hp) (k2:Nat),dm H2 r S d l1 Be→I H2 (n+k+k2)→ag (fun z=>S z∨T z) H H2→fC lt d x i1.toNat l1 Be i1=⟨l1.set i1.toNat x,cZ Be x i1,i1,k2⟩→
   af Tryz.prog mW [ptr r,i64 i1,i64 x] H2 fun _ H'=>(i64 i1=i64 (fC lt d x i.toNat l pl i).at_∧dm H' r S d (fC lt d x i.toNat l pl i).l (fC lt d x i.toNat l pl i).pl∧
    I H' (n+(fC lt d x i.toNat l pl i).asked)∧ag (fun z=>S z∨T z) H H'):=by
  intro H2 k2 g1 g2 g3 g4
  refine(kq g1 i1 x ⟨i0,il⟩).mono ?_
  rintro _ H3 ⟨_,g5,g6⟩
  rw[u1,u2,u3,u4,g4]
  exact⟨rfl,g5,by rw[←aqt];exact ho.aM _ _ _ _ g2 g6 (fun z hz hs=>hd z hs hz),g3.trans (g6.mono fun z _ hz=>.inl hz)⟩
 cases hp:ba d i1 with
 |none=>
  simp(disch:=(first|omega| (simp only[Zs]<;>omega)|fail)) only[go_sem, ↓reduceIte,Zv,Option.isSome_none]
  refine(stop H1 0 h1 hI1 e1 ?_).mono ?_
  ·cases hm:i1.toNat<;>simp[fC,hp,hm]
  ·rintro _ H3 ⟨g1,g2,g3,g4⟩
   refine vs ?_
   exact⟨g1,g2,g3,g4⟩
 |some p=>
  have PQ:=eQ hp
  obtain⟨b,rfl⟩:∃b,fp=some b:=by
   cases fp with
   |none=>obtain⟨_,e,_⟩:=a2;omega
   |some b=>exact⟨b,rfl⟩
  obtain⟨_,l',c,rfl,a4,a5,a6,a7⟩:=a2
  obtain⟨y,hy⟩:∃y,l1[p.toNat]? =some y:=⟨_,aoh (by omega)⟩
  have DQ:l'[p.toNat]? =some (i64 y):=by
   have h1:(l1.map i64)[p.toNat]? =some (i64 y):=by simp[hy]
   rw[←a7,aoO (by omega)]at h1
   exact h1
  have hy3:l1.getD p.toNat 0=y:=by simp[List.getD,hy]
  simp(disch:=(first|omega| (simp only[Zs]<;>omega)|fail)) only[go_sem, ↓reduceIte,Zv,Option.isSome_some,Option.getD_some,ae a1]
  refine⟨by omega,?_⟩
  refine v3 (ae a4) aol DQ ?_
  refine⟨ho.nil,?_⟩
  refine vs ?_
  refine gP.mono (ho.call H1 (n+k) x y hx (Vp y (aon hy)) hI1) ?_
  rintro _ H2 ⟨rfl,QT,e2⟩
  have RA:=h1.ext e2 hd
  have pE:=e1.trans (e2.mono fun z _ hz=>.inr hz)
  have b1:=e2.own a1 (hd _ s1)
  have b4:=e2.own a4 (hd _ (s4 b rfl).1)
  refine vs ?_
  cases aO:lt x y with
  |false=>
   refine vs ?_
   refine(stop H2 1 RA QT pE ?_).mono ?_
   ·obtain⟨q,hq⟩:∃q,i1.toNat=q+1:=⟨i1.toNat - 1,by omega⟩
    rw[hq]
    simp[fC,hp,hy,aO,hq]
   ·rintro _ H3 ⟨g1,g2,g3,g4⟩
    refine vs ?_
    exact⟨g1,g2,g3,g4⟩
  |true=>
   refine v1 (ae b1) ?_
   refine⟨by omega,?_⟩
   refine v3 (ae b4) aol DQ ?_
   refine(kq RA i1 y ⟨i0,il⟩).mono ?_
   rintro _ H3 ⟨_,g5,g6⟩
   refine vs ?_
   obtain⟨q,hq⟩:∃q,i1.toNat=q+1:=⟨i1.toNat - 1,by omega⟩
   have E0:fC lt d x i1.toNat l1 Be i1=⟨(fC lt d x p.toNat (l1.set i1.toNat y) (cZ Be y i1) p).l,(fC lt d x p.toNat (l1.set i1.toNat y) (cZ Be y i1) p).pl,(fC lt d x p.toNat (l1.set i1.toNat y) (cZ Be y i1) p).at_,
     (fC lt d x p.toNat (l1.set i1.toNat y) (cZ Be y i1) p).asked+1⟩:=by
    rw[Rz lt d x p.toNat q _ _ p (aov _) (by omega),hq]
    simp only[fC,hp,hy3,aO,if_true,hq]
   refine⟨p.toNat,by omega,l1.set i1.toNat y,cZ Be y i1,p,k+1,rfl,fun z hz=>(qo hz).elim (fun e=>e▸Vp y (aon hy)) (Vp z),rfl,by omega,by rw[aok];omega,by rw[aok];exact ll,g5,
    ho.aM _ _ _ _ QT g6 (fun z hz hs=>hd z hs hz),pE.trans (g6.mono fun z _ hz=>.inl hz),by rw[u1,E0],by rw[u2,E0],by rw[u3,E0],by rw[u4,E0];simp only;omega⟩
theorem HO{ov:Value}{I:Hp→Nat→Prop}{T:Nat→Prop}{lt:Int→Int→Bool}{D:Int→Prop}(ho:Ng ov I T lt D){H:Hp}{r:Nat}{S:Nat→Prop}{d:Int}{l:List Int}{pl:Int→Option Int}
  (h:dm H r S d l pl)(hd:∀x,S x→¬T x){n:Nat}(hI:I H n)(x:Int)(hl:l.length<1000000)(hDx:D x:=by trivial)(hD:∀z∈l,D z:=by intros;trivial):
  af Tryz.prog Fh [ptr r,ov,i64 x] H fun v H'=>aw (
   let R:=fC lt d x l.length (l++[x]) pl l.length
   (pl x≠none∧v= .bool false∧H=H')∨
   (pl x=none∧v= .bool true∧∃S',dm H' r S' d R.l R.pl∧I H' (n+R.asked)∧ag (fun z=>S z∨T z) H H'∧∀z,S' z→S z∨H.size≤z)):=by
 obtain⟨⟨sv,fp,mb,a1,a2,a3,s1,s2,s3,s4⟩,h2⟩:=id h
 have key:gZ true (Value.int .i64 0) ((pl x).map i64)= .tuple [i64 ((pl x).getD 0),.bool (pl x).isSome].toArray:=by cases pl x<;>rfl
 refine bv Fo ?_
 refine v3 (ae a1) a3.look key ?_
 cases hx:pl x with
 |some p=>
  simp(disch:=(first|omega| (simp only[Zs]<;>omega)|fail)) only[go_sem, ↓reduceIte,Zv,Option.isSome_some]
  exact .inl ⟨by simp,rfl,rfl⟩
 |none=>
  simp(disch:=(first|omega| (simp only[Zs]<;>omega)|fail)) only[go_sem, ↓reduceIte,Zv,Option.isSome_none,ae a1]
  have hb:=aB a1
  have e0:ag (fun _=>False) H (H.new 3 [i64 x]):=(ag.refl _ H).new 3 [i64 x]
  refine Sl.append (a2.ext e0 (fun _ _ h=>h)) (Sl.bU (size:=1) (xs:=[i64 x]) rfl rfl).rd rfl (uB [x]) (by omega) ?_
  intro v' H2 cP hs tM fZ
  have b1:=tM.own (e0.own a1 (fun h=>h)) (fun e=>(s4 r e).2.1 rfl)
  have Ea:=hs
  obtain⟨f,rfl⟩:∃f,cP=some f:=by
   cases cP with
   |none=>obtain⟨_,e,_⟩:=hs;omega
   |some f=>exact⟨f,rfl⟩
  obtain⟨_,l',c',rfl,g1,g2,g3,g4⟩:=Ea
  have hf:(fp=some f)∨H.size≤f:=by
   rcases fZ with h| ⟨z,h,h5,h6⟩
   ·exact .inl h.symm
   ·injection h with h;subst h;rw[ap]at h5;exact .inr (by omega)
  have Wv:f≠r∧f≠mb:=by
   rcases hf with h|h
   ·exact(s4 f h).2
   ·have:=a3.lt;omega
  have e2:ag (fun z=>S z) H H2:=(e0.mono fun _ _ h=>h.elim).nu tM (fun z _ hz=>(s4 z hz).1)
  have e3:ag (fun z=>S z) H (H2.wr r [i64 d,.slice (some ⟨f,0,none⟩) (l.length+1) c',.map (some mb)]):=e2.wr (fun _=>s1) _
  have hr:dm (H2.wr r [i64 d,.slice (some ⟨f,0,none⟩) (l.length+1) c',.map (some mb)]) r (fun z=>S z∨z=f) d (l++[x]) pl:=by
   have ew:ag (fun z=>z=r) H2 (H2.wr r [i64 d,.slice (some ⟨f,0,none⟩) (l.length+1) c',.map (some mb)]):=(ag.refl (fun z=>z=r) _).wr (fun _=>rfl) _
   refine⟨⟨.slice (some ⟨f,0,none⟩) (l.length+1) c',some f,mb,?_,?_,((a3.ext e0 (fun h=>h)).ext tM (fun e=>(s4 mb e).2.2 rfl)).ext ew (Ne.symm s3),.inl s1,.inl s2,s3,fun b e=>by cases e;exact⟨.inr rfl,Wv⟩⟩,?_⟩
   ·exact ai b1
   ·rw[aor,aoN];exact hs.ext ew (fun b e=>by injection e with e;subst e;exact Wv.1)
   ·rintro z (hz|rfl)
    ·exact aoH (h2 z hz) e3.size
    ·rw[eo];exact aB g1
  have iP:∀z,(S z∨z=f)→¬T z:=by
   rintro z (hz|rfl) ht
   ·exact hd z hz ht
   ·rcases hf with h|h
    ·exact hd _ (s4 _ h).1 ht
    ·have:=ho.tlt H n hI _ ht;omega
  have QT:=ho.aM _ _ _ _ hI e3 (fun z hz hs=>hd z hs hz)
  simp(disch:=(first|omega| (simp only[Zs]<;>omega)|fail)) only[go_sem, ↓reduceIte,Zv,b1,rN b1]
  rw[wrap64 (by omega) (by omega),show((l.length+1:Nat):Int) - 1=(l.length:Int) by omega]
  refine(rU ho hr iP QT l.length x ⟨by omega,by rw[aor,aoA];omega⟩ (by rw[aor];simp;omega) hDx (fun z hz=>by rcases aou.1 hz with h|h;exact hD z h;rw[aoq.1 h];exact hDx)).mono ?_
  rintro _ H3 ⟨_,r1,r2,r3⟩
  refine vs ?_
  refine .inr ⟨rfl,rfl,_,r1,r2,?_,?_⟩
  ·refine(e3.mono fun z _ hz=>Or.inl hz).nu r3 ?_
   rintro z hz ((h|rfl)|h)
   ·exact .inl h
   ·rcases hf with h|h
    ·exact .inl (s4 _ h).1
    ·omega
   ·exact .inr h
  ·rintro z (h|rfl)
   ·exact .inl h
   ·rcases hf with h|h
    ·exact .inl (s4 _ h).1
    ·exact .inr h
theorem Ei{ov:Value}{I:Hp→Nat→Prop}{T:Nat→Prop}{lt:Int→Int→Bool}{D:Int→Prop}(ho:Ng ov I T lt D){H:Hp}{r:Nat}{S:Nat→Prop}{d:Int}{l:List Int}{pl:Int→Option Int}
  (h:dm H r S d l pl)(hd:∀x,S x→¬T x){n:Nat}(hI:I H n)(x:Int)(hl:l.length≤1000000)(hp:∀i,pl x=some i→0≤i∧i<l.length)(hDx:D x:=by trivial)(hD:∀z∈l,D z:=by intros;trivial):
  af Tryz.prog Cf [ptr r,ov,i64 x] H fun v H'=>aw (
   (pl x=none∧v= .bool false∧H=H')∨
   (∃i,pl x=some i∧v= .bool true∧dm H' r S d (fC lt d x i.toNat l pl i).l (fC lt d x i.toNat l pl i).pl∧I H' (n+(fC lt d x i.toNat l pl i).asked)∧ag (fun z=>S z∨T z) H H')):=by
 obtain⟨⟨sv,fp,mb,a1,a2,a3,s1,s2,s3,s4⟩,h2⟩:=id h
 have key:gZ true (Value.int .i64 0) ((pl x).map i64)= .tuple [i64 ((pl x).getD 0),.bool (pl x).isSome].toArray:=by cases pl x<;>rfl
 refine bv Cs ?_
 refine v3 (ae a1) a3.look key ?_
 cases hx:pl x with
 |none=>
  simp(disch:=(first|omega| (simp only[Zs]<;>omega)|fail)) only[go_sem, ↓reduceIte,Zv,Option.isSome_none]
  exact .inl ⟨rfl,rfl,rfl⟩
 |some i=>
  simp(disch:=(first|omega| (simp only[Zs]<;>omega)|fail)) only[go_sem, ↓reduceIte,Zv,Option.isSome_some,Option.getD_some]
  refine(rU ho h hd hI i x (hp i hx) hl hDx hD).mono ?_
  rintro _ H3 ⟨_,r1,r2,r3⟩
  refine vs ?_
  exact .inr ⟨i,rfl,rfl,r1,r2,r3⟩
theorem Bf{H:Hp}{v:Value}{n:Nat}{xs:List Int}(h:cO H 1 v n (xs.map i64))(hn:n≤1000000):
  af Tryz.prog qR [v] H fun r H'=>aw (ah H H'∧∃fp,Sl H' 1 r n (xs.map i64) fp∧∀b,fp=some b→H.size≤b∧b<H'.size):=by
 refine bv ry ?_
 have hv:∃a c,v= .slice a n c:=by
  obtain⟨_,⟨rfl,a,c,rfl⟩| ⟨b,o,c,l,rfl,_⟩⟩:=h
  ·exact⟨_,_,rfl⟩
  ·exact⟨_,_,rfl⟩
 obtain⟨a,c,rfl⟩:=hv
 refine vs ?_
 cases a with
 |none=>
  have Ln:n=0:=by
   obtain⟨_,⟨rfl,_⟩| ⟨b,o,c,l,e,_⟩⟩:=h
   ·rfl
   ·cases e
  have hx:xs.map i64=[]:=aoR.1 (by have:=h.1;simpa[Ln]using this)
  simp(disch:=(first|omega| (simp only[Zs]<;>omega)|fail)) only[go_sem, ↓reduceIte,Zv,Option.isNone_none]
  rw[hx,Ln]
  exact⟨ag.refl _ _,none,Sl.nil H 1,fun b hb=>by cases hb⟩
 |some ad=>
  simp(disch:=(first|omega| (simp only[Zs]<;>omega)|fail)) only[go_sem, ↓reduceIte,Zv,Option.isNone_some]
  have e0:ag (fun _=>False) H (H.new 3 []):=(ag.refl _ H).new 3 []
  refine Sl.append (Sl.bU (size:=1) (n:=0) (xs:=[]) rfl rfl) (h.fresh e0) rfl (uB xs) (by omega) ?_
  intro v' H2 cP hs tM fZ
  refine vs ?_
  refine⟨ag.nu e0 tM (fun z hz OI=>by injection OI with OI;omega),cP,by simpa[KJ]using hs,?_⟩
  intro z hz
  have PD:=tM.size
  rw[ap]at PD
  rcases fZ with h| ⟨y,h,h5,h6⟩
  ·rw[h]at hz;injection hz with hz;omega
  ·rw[h]at hz;injection hz with hz;subst hz;rw[ap]at h5;omega
def bS(lt:Int→Int→Bool)(l:List Int)(d i:Int):Nat→Int→Int×Nat
 |0,bV=>(bV,0)
 |m+1,bV=>
  if d*i+(d - m)<l.length then
   let r:=bS lt l d i m (if lt (l.getD (d*i+(d - m)).toNat 0) (l.getD bV.toNat 0)=true then d*i+(d - m)else bV)
   (r.1,r.2+1)
  else bS lt l d i m bV
theorem dm.read{H:Hp}{r:Nat}{S:Nat→Prop}{d:Int}{l:List Int}{pl:Int→Option Int}(h:dm H r S d l pl)(hl:0<l.length):
  ∃f l' c mb,H.own r=some [i64 d,.slice (some ⟨f,0,none⟩) l.length c,.map (some mb)]∧H.own f=some l'∧∀ (i:Nat) (x:Int),l[i]? =some x→l'[i]? =some (i64 x):=by
 obtain⟨⟨sv,fp,mb,a1,a2,a3,s1,s2,s3,s4⟩,h2⟩:=h
 cases fp with
 |none=>obtain⟨_,e,_⟩:=a2;omega
 |some f=>
  obtain⟨_,l',c,rfl,a4,a5,a6,a7⟩:=a2
  refine⟨f,l',c,mb,a1,a4,?_⟩
  intro i x hx
  have hi:=(aoj.1 hx).1
  have h1:(l.map i64)[i]? =some (i64 x):=by simp[hx]
  rw[←a7,aoO (by omega)]at h1
  exact h1
theorem Ej{ov:Value}{I:Hp→Nat→Prop}{T:Nat→Prop}{lt:Int→Int→Bool}{D:Int→Prop}(ho:Ng ov I T lt D){H:Hp}{r:Nat}{S:Nat→Prop}{d:Int}{l:List Int}{pl:Int→Option Int}
  (h:dm H r S d l pl)(hd:∀x,S x→¬T x){n:Nat}(hI:I H n)(hf:cU d)(i:Int)(hi:0≤i∧i<l.length)(hl:l.length≤1000000)(hD:∀z∈l,D z:=by intros;trivial):
  af Tryz.prog Ch [ptr r,ov,i64 i] H fun v H'=>aw (
   ((l.length:Int)≤d*i+1∧v= .tuple [i64 0,.bool false].toArray∧H=H')∨
   (d*i+1<l.length∧v= .tuple [i64 (bS lt l d i (d - 1).toNat (d*i+1)).1,.bool true].toArray∧dm H' r S d l pl∧I H' (n+(bS lt l d i (d - 1).toNat (d*i+1)).2)∧ag T H H')):=by
 obtain⟨f,l',c,mb,a1,a2,a3⟩:=h.read (by omega)
 have hf1:=hf.1
 have hf2:=hf.2
 have hc:∀k,1≤k→k≤d→rO d i k=some (d*i+k):=fun k h1 h2=>by unfold rO;rw[if_pos ⟨hf,by omega,by omega,h1,h2⟩]
 have hb:=rP (i:=i) hf (by omega) (by omega) (by omega:(1:Int)≤1) (by omega)
 refine bv Cu ?_
 refine v1 (ae a1) ?_
 refine(sP d i 1 H).mono ?_
 rintro _ _ ⟨rfl,rfl⟩
 rw[hc 1 (by omega) (by omega)]
 simp(disch:=(first|omega| (simp only[Zs]<;>omega)|fail)) only[go_sem, ↓reduceIte,Zv,M6,ae a1]
 refine am.dec (fun h1=>?_) (fun h1=>?_)<;>refine vs ?_
 ·exact .inl ⟨by omega,rfl,rfl⟩
 ·refine aX.intro (fun m env H1=>∃ (bV:Int) (k:Nat),env=[(0,ptr r),(1,ov),(2,i64 i),(8,i64 bV),(10,i64 (d+1 - m))]∧(m:Int)≤d - 1∧0≤bV∧bV<l.length∧
   dm H1 r S d l pl∧I H1 (n+k)∧ag T H H1∧
   (bS lt l d i (d - 1).toNat (d*i+1)).1=(bS lt l d i m bV).1∧(bS lt l d i (d - 1).toNat (d*i+1)).2=k+(bS lt l d i m bV).2) (d - 1).toNat
   ⟨d*i+1,0,by rw[show d+1 - ((d - 1).toNat:Int)=2 by omega],by omega,by omega,by omega,h,hI,ag.refl _ _,rfl,by omega⟩ ?_
  rintro m env H1 ⟨bV,k,rfl,hm,b0,b1,r1,i1,e1,u1,u2⟩
  obtain⟨f1,l1,c1,mb1,g1,g2,g3⟩:=r1.read (by omega)
  refine v1 (ae g1) ?_
  refine am.dec (fun hk=>?_) (fun hk=>?_)<;>refine vs ?_
  ·obtain⟨q,rfl⟩:∃q,m=q+1:=⟨m - 1,by omega⟩
   rw[show d+1 - ((q+1:Nat):Int)=d - q by omega]at*
   refine v1 (ae g1) ?_
   refine(sP d i (d - q) H1).mono ?_
   rintro _ _ ⟨rfl,rfl⟩
   have GO:=rP (i:=i) hf (by omega) (by omega) (by omega:(1:Int)≤d - q) (by omega)
   rw[hc (d - q) (by omega) (by omega)]
   simp(disch:=(first|omega| (simp only[Zs]<;>omega)|fail)) only[go_sem, ↓reduceIte,Zv,M6,ae g1]
   refine am.dec (fun nU=>?_) (fun nU=>?_)<;>refine vs ?_
   ·obtain⟨x,hx⟩:∃x,l[(d*i+(d - q)).toNat]? =some x:=⟨_,aoh (by omega)⟩
    obtain⟨y,hy⟩:∃y,l[bV.toNat]? =some y:=⟨_,aoh (by omega)⟩
    have xu:=g3 _ _ hx
    have FH:=g3 _ _ hy
    refine v1 (ae g1) ?_
    refine⟨by omega,?_⟩
    refine v4 (ae g1) (ae g2) aol xu ?_
    refine⟨by omega,?_⟩
    refine v3 (ae g2) aol FH ?_
    refine⟨ho.nil,?_⟩
    refine vs ?_
    refine gP.mono (ho.call H1 (n+k) x y (hD x (aon hx)) (hD y (aon hy)) i1) ?_
    rintro _ H2 ⟨rfl,QT,e2⟩
    have EZ:∀z,z=(if lt x y=true then d*i+(d - q)else bV)→bS lt l d i (q+1) bV=((bS lt l d i q z).1,(bS lt l d i q z).2+1):=by
     intro z hz
     rw[bS,if_pos nU]
     simp only[List.getD,hx,hy,Option.getD_some,hz]
    refine vs ?_
    refine am.intro (fun aO=>?_) (fun aO=>?_)<;>refine vs ?_
    ·rw[wrap64 (by omega) (by omega)]
     exact⟨q,by omega,d*i+(d - q),k+1,by rw[show d+1 - (q:Int)=d - q+1 by omega],by omega,by omega,by omega,r1.ext e2 hd,QT,e1.trans e2,
      by rw[u1,EZ (d*i+(d - q)) (by rw[if_pos aO])],by rw[u2,EZ (d*i+(d - q)) (by rw[if_pos aO])];simp only;omega⟩
    ·rw[wrap64 (by omega) (by omega)]
     exact⟨q,by omega,bV,k+1,by rw[show d+1 - (q:Int)=d - q+1 by omega],by omega,by omega,by omega,r1.ext e2 hd,QT,e1.trans e2,
      by rw[u1,EZ bV (by rw[if_neg (by rw[aO];simp)])],by rw[u2,EZ bV (by rw[if_neg (by rw[aO];simp)])];simp only;omega⟩
   ·rw[wrap64 (by omega) (by omega)]
    have EZ:bS lt l d i (q+1) bV=bS lt l d i q bV:=by rw[bS,if_neg nU]
    exact⟨q,by omega,bV,k,by rw[show d+1 - (q:Int)=d - q+1 by omega],by omega,by omega,by omega,r1,i1,e1,by rw[u1,EZ],by rw[u2,EZ]⟩
  ·have h0:m=0:=by omega
   subst h0
   refine .inr ⟨by omega,?_,r1,?_,e1⟩
   ·rw[u1];rfl
   ·rw[u2];exact i1
def cV(lt:Int→Int→Bool)(d x:Int):Nat→List Int→(Int→Option Int)→Int→List Int×(Int→Option Int)×Nat
 |0,l,pl,i=>(l.set i.toNat x,cZ pl x i,0)
 |m+1,l,pl,i=>
  if(l.length:Int)≤d*i+1 then(l.set i.toNat x,cZ pl x i,0)
  else
   let b:=bS lt l d i (d - 1).toNat (d*i+1)
   let y:=l.getD b.1.toNat 0
   if lt y x=true then
    let r:=cV lt d x m (l.set i.toNat y) (cZ pl y i) b.1
    (r.1,r.2.1,r.2.2+b.2+1)
   else(l.set i.toNat x,cZ pl x i,b.2+1)
theorem kW(lt:Int→Int→Bool)(l:List Int)(d i:Int)(h:0≤d*i):∀ (m:Nat) (bV:Int),(m:Int)≤d - 1→d*i+1≤bV→bV<l.length→d*i+1≤(bS lt l d i m bV).1∧(bS lt l d i m bV).1<l.length:=by
 intro m
 induction m with
 |zero=>intro bV _ h1 h2;exact⟨h1,h2⟩
 |succ m ih=>
  intro bV hm h1 h2
  unfold bS
  split
  ·simp only
   split
   ·exact ih _ (by omega) (by omega) (by omega)
   ·exact ih _ (by omega) h1 h2
  ·exact ih _ (by omega) h1 h2
theorem nF{d i b:Int}(hf:cU d)(hi:0≤i)(hb:d*i+1≤b):i<b:=by
 have h1:=hf.1
 have:1*i≤d*i:=apS (by omega) hi
 omega
theorem Nh(lt:Int→Int→Bool)(d x:Int)(hf:cU d):∀ (m m':Nat) (l:List Int) (pl:Int→Option Int) (i:Int),0≤i→l.length≤i.toNat+m→l.length≤i.toNat+m'→
  cV lt d x m l pl i=cV lt d x m' l pl i:=by
 have hz:∀ (m:Nat) (l:List Int) (pl:Int→Option Int) (i:Int),0≤i→l.length≤i.toNat→cV lt d x m l pl i=(l.set i.toNat x,cZ pl x i,0):=by
  intro m l pl i hi hl
  cases m with
  |zero=>rfl
  |succ m=>
   have h1:=hf.1
   have:1*i≤d*i:=apS (by omega) hi
   rw[cV,if_pos (by omega)]
 intro m
 induction m with
 |zero=>intro m' l pl i hi h h';rw[hz 0 l pl i hi (by omega),hz m' l pl i hi (by omega)]
 |succ m ih=>
  intro m' l pl i hi h h'
  cases m' with
  |zero=>rw[hz 0 l pl i hi (by omega),hz (m+1) l pl i hi (by omega)]
  |succ m'=>
   rw[cV,cV]
   split
   ·rfl
   ·rename_i hc
    have h1:=hf.1
    have Tm:0≤d*i:=apZ (by omega) hi
    have hb:=kW lt l d i Tm (d - 1).toNat (d*i+1) (by omega) (by omega) (by omega)
    have aO:=nF hf hi hb.1
    simp only
    split
    ·rw[ih m' _ _ _ (by omega) (by rw[aok];omega) (by rw[aok];omega)]
    ·rfl
theorem FI{ov:Value}{I:Hp→Nat→Prop}{T:Nat→Prop}{lt:Int→Int→Bool}{D:Int→Prop}(ho:Ng ov I T lt D){H:Hp}{r:Nat}{S:Nat→Prop}{d:Int}{l:List Int}{pl:Int→Option Int}
  (h:dm H r S d l pl)(hd:∀x,S x→¬T x){n:Nat}(hI:I H n)(hf:cU d)(i x:Int)(hi:0≤i∧i<l.length)(hl:l.length≤1000000)(hx:D x:=by trivial)(hD:∀z∈l,D z:=by intros;trivial):
  af Tryz.prog DU [ptr r,ov,i64 i,i64 x] H fun v H'=>aw (
   let R:=cV lt d x l.length l pl i
   dm H' r S d R.1 R.2.1∧I H' (n+R.2.2)∧ag (fun z=>S z∨T z) H H'):=by
 refine bv D1 ?_
 refine vs ?_
 refine aX.intro (fun m env H1=>∃ (l1:List Int) (Be:Int→Option Int) (i1:Int) (k:Nat),env=[(0,ptr r),(1,ov),(2,i64 i1),(3,i64 x)]∧(∀z∈l1,D z)∧m=l1.length - i1.toNat∧0≤i1∧i1<l1.length∧l1.length=l.length∧
   dm H1 r S d l1 Be∧I H1 (n+k)∧ag (fun z=>S z∨T z) H H1∧
   (cV lt d x l.length l pl i).1=(cV lt d x l1.length l1 Be i1).1∧(cV lt d x l.length l pl i).2.1=(cV lt d x l1.length l1 Be i1).2.1∧
   (cV lt d x l.length l pl i).2.2=k+(cV lt d x l1.length l1 Be i1).2.2) (l.length - i.toNat) ⟨l,pl,i,0,rfl,hD,rfl,hi.1,hi.2,rfl,h,hI,ag.refl _ _,rfl,rfl,by omega⟩ ?_
 rintro m env H1 ⟨l1,Be,i1,k,rfl,Vp,rfl,i0,il,ll,h1,hI1,e1,u1,u2,u3⟩
 have Pn:=hf.1
 have Tm:0≤d*i1:=apZ (by omega) i0
 have stop:∀ (H2:Hp) (k2:Nat),dm H2 r S d l1 Be→I H2 (n+k+k2)→ag (fun z=>S z∨T z) H H2→cV lt d x l1.length l1 Be i1=(l1.set i1.toNat x,cZ Be x i1,k2)→
   af Tryz.prog mW [ptr r,i64 i1,i64 x] H2 fun _ H'=>(dm H' r S d (cV lt d x l.length l pl i).1 (cV lt d x l.length l pl i).2.1∧
    I H' (n+(cV lt d x l.length l pl i).2.2)∧ag (fun z=>S z∨T z) H H'):=by
  intro H2 k2 g1 g2 g3 g4
  refine(kq g1 i1 x ⟨i0,il⟩).mono ?_
  rintro _ H3 ⟨_,g5,g6⟩
  rw[u1,u2,u3,g4]
  exact⟨g5,by rw[←aqt];exact ho.aM _ _ _ _ g2 g6 (fun z hz hs=>hd z hs hz),g3.trans (g6.mono fun z _ hz=>.inl hz)⟩
 obtain⟨q,hq⟩:∃q,l1.length=q+1:=⟨l1.length - 1,by omega⟩
 refine vs ?_
 refine(Ej ho h1 hd hI1 hf i1 ⟨i0,il⟩ (by omega) Vp).mono ?_
 rintro _ H2 (⟨hc,rfl,rfl⟩| ⟨hc,rfl,h2,QT,e2⟩)
 ·refine vs ?_
  refine(stop H1 0 h1 hI1 e1 ?_).mono ?_
  ·rw[hq,cV,if_pos hc]
  ·rintro _ H3 ⟨g1,g2,g3⟩
   refine vs ?_
   exact⟨g1,g2,g3⟩
 ·have hb:=kW lt l1 d i1 Tm (d - 1).toNat (d*i1+1) (by omega) (by omega) hc
  have aO:=nF hf i0 hb.1
  obtain⟨f1,l',c1,mb1,g1,g2,g3⟩:=h2.read (by omega)
  obtain⟨y,hy⟩:∃y,l1[(bS lt l1 d i1 (d - 1).toNat (d*i1+1)).1.toNat]? =some y:=⟨_,aoh (by omega)⟩
  have FH:=g3 _ _ hy
  have hy3:l1.getD (bS lt l1 d i1 (d - 1).toNat (d*i1+1)).1.toNat 0=y:=by rw[aom,hy];rfl
  have pE:=e1.trans (e2.mono fun z _ hz=>.inr hz)
  refine v1 (ae g1) ?_
  refine⟨by omega,?_⟩
  refine v3 (ae g2) aol FH ?_
  refine⟨ho.nil,?_⟩
  refine vs ?_
  refine gP.mono (ho.call H2 _ y x (Vp y (aon hy)) hx QT) ?_
  rintro _ H3 ⟨rfl,hI3,e3⟩
  have h3:=h2.ext e3 hd
  have Ek:=pE.trans (e3.mono fun z _ hz=>.inr hz)
  obtain⟨f4,l4,c4,mb4,k1,k2,k3⟩:=h3.read (by omega)
  have hy4:=k3 _ _ hy
  refine vs ?_
  cases mN:lt y x with
  |false=>
   refine vs ?_
   refine(stop H3 ((bS lt l1 d i1 (d - 1).toNat (d*i1+1)).2+1) h3 (by rw[←aqt];exact hI3) Ek ?_).mono ?_
   ·rw[hq,cV,if_neg (by omega)]
    simp only[hy3,mN]
    rfl
   ·rintro _ H4 ⟨g1,g2,g3⟩
    refine vs ?_
    exact⟨g1,g2,g3⟩
  |true=>
   refine v1 (ae k1) ?_
   refine⟨by omega,?_⟩
   refine v3 (ae k2) aol hy4 ?_
   refine(kq h3 i1 y ⟨i0,il⟩).mono ?_
   rintro _ H4 ⟨_,g5,g6⟩
   refine vs ?_
   have WD:cV lt d x l1.length l1 Be i1=((cV lt d x (l1.set i1.toNat y).length (l1.set i1.toNat y) (cZ Be y i1) (bS lt l1 d i1 (d - 1).toNat (d*i1+1)).1).1,
     (cV lt d x (l1.set i1.toNat y).length (l1.set i1.toNat y) (cZ Be y i1) (bS lt l1 d i1 (d - 1).toNat (d*i1+1)).1).2.1,
     (cV lt d x (l1.set i1.toNat y).length (l1.set i1.toNat y) (cZ Be y i1) (bS lt l1 d i1 (d - 1).toNat (d*i1+1)).1).2.2+(bS lt l1 d i1 (d - 1).toNat (d*i1+1)).2+1):=by
    rw[Nh lt d x hf (l1.set i1.toNat y).length q _ _ _ (by omega) (by omega) (by rw[aok];omega),hq,cV,if_neg (by omega)]
    simp only[hy3,mN,if_true]
   refine⟨l1.length - (bS lt l1 d i1 (d - 1).toNat (d*i1+1)).1.toNat,by omega,l1.set i1.toNat y,cZ Be y i1,(bS lt l1 d i1 (d - 1).toNat (d*i1+1)).1,k+(bS lt l1 d i1 (d - 1).toNat (d*i1+1)).2+1,rfl,fun z hz=>(qo hz).elim (fun e=>e▸Vp y (aon hy)) (Vp z),by rw[aok],by omega,by rw[aok];omega,by rw[aok];exact ll,g5,?_,
    Ek.trans (g6.mono fun z _ hz=>.inl hz),by rw[u1,WD],by rw[u2,WD],by rw[u3,WD];simp only;omega⟩
   have:=ho.aM _ _ _ _ hI3 g6 (fun z hz hs=>hd z hs hz)
   rw[show n+(k+(bS lt l1 d i1 (d - 1).toNat (d*i1+1)).2+1)=n+k+(bS lt l1 d i1 (d - 1).toNat (d*i1+1)).2+1 by omega]
   exact this
def pa(d:Int)(j:Nat):Nat:=(((j:Int) - 1) / d).toNat
theorem nG{d:Int}(hf:cU d){i:Int}(h1:1≤i):∃p,ba d i=some p∧p.toNat=pa d i.toNat∧0≤p∧p<i:=by
 have hp:ba d i=some ((i - 1) / d):=by unfold ba;rw[if_pos ⟨hf,h1⟩]
 have hb:=eQ hp
 refine⟨_,hp,?_,hb.1,hb.2⟩
 unfold pa
 rw[show((i.toNat:Nat):Int)=i by omega]
theorem cG{d:Int}(hf:cU d){j:Nat}(h:1≤j):pa d j<j:=by
 obtain⟨p,_,h1,h2,h3⟩:=nG hf (i:=(j:Int)) (by omega)
 simp only[Int.toNat_natCast]at h1
 omega
theorem RB{d:Int}(hf:cU d){i j:Nat}(h:1≤j):pa d j=i↔(d*i+1≤j∧(j:Int)≤d*i+d):=by
 have hd:=hf.1
 unfold pa
 have e1:=Int.mul_ediv_add_emod ((j:Int) - 1) d
 have e2:=Int.emod_nonneg ((j:Int) - 1) (show d≠0 by omega)
 have e3:=Int.emod_lt_of_pos ((j:Int) - 1) (show 0<d by omega)
 have e4:0≤((j:Int) - 1) / d:=Int.ediv_nonneg (by omega) (by omega)
 constructor
 ·intro h
  have:((j:Int) - 1) / d=i:=by omega
  rw[this]at e1
  omega
 ·rintro⟨h1,h2⟩
  have h3:=sQ (d:=d) (i:=(i:Int)) (j:=(j:Int) - d*i) hd (by omega) (by omega) (by omega)
  rw[show d*(i:Int)+((j:Int) - d*i) - 1=(j:Int) - 1 by omega]at h3
  omega
theorem dv(l:List Int)(i j:Nat)(v:Int)(hi:i<l.length):(l.set i v).getD j 0=if i=j then v else l.getD j 0:=by
 rw[aom,List.getElem?_set,aom]
 by_cases h:i=j
 ·subst h;simp[hi]
 ·simp[h]
def eM(lt:Int→Int→Bool)(d:Int)(l:List Int):Prop:=∀j,1≤j→j<l.length→lt (l.getD j 0) (l.getD (pa d j) 0)=false
def dE(lt:Int→Int→Bool)(d:Int)(l:List Int)(i:Nat):Prop:=
 (∀j,1≤j→j<l.length→j≠i→pa d j≠i→lt (l.getD j 0) (l.getD (pa d j) 0)=false)∧
 (∀j,1≤j→j<l.length→pa d j=i→1≤i→lt (l.getD j 0) (l.getD (pa d i) 0)=false)
theorem eM.but{lt:Int→Int→Bool}(ho:bA lt){d:Int}(hf:cU d){l:List Int}(h:eM lt d l)(i:Nat):dE lt d l i:=by
 refine⟨fun j h1 h2 _ _=>h j h1 h2,fun j h1 h2 h3 h4=>?_⟩
 have e1:=h j h1 h2
 have e2:=h i h4 (by have:=cG hf h1;omega)
 rw[h3]at e1
 exact ho.nt _ _ _ e1 e2
theorem dE.set{lt:Int→Int→Bool}{d:Int}(hf:cU d){l:List Int}{i:Nat}(hi:i<l.length)(h:dE lt d l i){x:Int}(hB:∀j,1≤j→j<l.length→pa d j=i→lt (l.getD j 0) x=false)
  (hD:1≤i→lt x (l.getD (pa d i) 0)=false):eM lt d (l.set i x):=by
 intro j h1 h2
 rw[aok]at h2
 rw[dv _ _ _ _ hi,dv _ _ _ _ hi]
 have aO:=cG hf h1
 by_cases e1:i=j
 ·subst e1
  rw[if_pos rfl,if_neg (by omega)]
  exact hD h1
 ·rw[if_neg e1]
  by_cases e2:i=pa d j
  ·rw[if_pos e2];exact hB j h1 h2 e2.symm
  ·rw[if_neg e2];exact h.1 j h1 h2 (Ne.symm e1) (Ne.symm e2)
theorem JD{lt:Int→Int→Bool}(ho:bA lt){d:Int}(hf:cU d)(x:Int):∀ (m:Nat) (l:List Int) (pl:Int→Option Int) (i:Int),i.toNat≤m→0≤i→i<l.length→dE lt d l i.toNat→
  (∀j,1≤j→j<l.length→pa d j=i.toNat→lt (l.getD j 0) x=false)→eM lt d (fC lt d x m l pl i).l:=by
 intro m
 induction m with
 |zero=>
  intro l pl i hm h0 hl hA hB
  exact hA.set hf (by omega) hB (fun h=>by omega)
 |succ m ih=>
  intro l pl i hm h0 hl hA hB
  by_cases hi:1≤i
  ·obtain⟨p,hp,QR,p0,p1⟩:=nG hf hi
   unfold fC
   rw[hp]
   simp only[QR]
   cases aO:lt x (l.getD (pa d i.toNat) 0)with
   |false=>
    exact hA.set hf (by omega) hB (fun _=>aO)
   |true=>
    simp only[if_true]
    have qi:i.toNat<l.length:=by omega
    have hpi:=cG hf (j:=i.toNat) (by omega)
    refine ih _ _ p (by omega) p0 (by rw[aok];omega) ⟨fun j h1 h2 h3 h4=>?_,fun j h1 h2 h3 h4=>?_⟩ (fun j h1 h2 h3=>?_)
    ·rw[aok]at h2
     rw[QR]at h3 h4
     rw[dv _ _ _ _ qi,dv _ _ _ _ qi]
     have e1:i.toNat≠j:=fun e=>h4 (by rw[←e])
     rw[if_neg e1]
     by_cases e2:i.toNat=pa d j
     ·rw[if_pos e2]
      exact hA.2 j h1 h2 e2.symm (by omega)
     ·rw[if_neg e2]
      exact hA.1 j h1 h2 (Ne.symm e1) (Ne.symm e2)
    ·rw[aok]at h2
     rw[QR]at h3 h4 ⊢
     rw[dv _ _ _ _ qi,dv _ _ _ _ qi]
     have Ps:=cG hf h4
     rw[if_neg (show i.toNat≠pa d (pa d i.toNat) by omega)]
     have e3:=hA.1 (pa d i.toNat) h4 (by omega) (by omega) (by omega)
     by_cases e1:i.toNat=j
     ·rw[if_pos e1];exact e3
     ·rw[if_neg e1]
      have e4:=hA.1 j h1 h2 (Ne.symm e1) (by omega)
      rw[h3]at e4
      exact ho.nt _ _ _ e4 e3
    ·rw[aok]at h2
     rw[QR]at h3
     rw[dv _ _ _ _ qi]
     by_cases e1:i.toNat=j
     ·rw[if_pos e1];exact ho.asym aO
     ·rw[if_neg e1]
      have e4:=hA.1 j h1 h2 (Ne.symm e1) (by omega)
      rw[h3]at e4
      cases hx:lt (l.getD j 0) x with
      |false=>rfl
      |true=>have:=ho.tr _ _ _ hx aO;rw[this]at e4;cases e4
  ·have FG:i=0:=by omega
   subst FG
   have hn:ba d 0=none:=by unfold ba;rw[if_neg (by omega)]
   unfold fC
   rw[hn]
   exact hA.set hf (by omega) hB (fun h=>by simp at h)
theorem FJ(lt:Int→Int→Bool)(d x:Int):∀ (m:Nat) (l:List Int) (pl:Int→Option Int) (i:Int),(fC lt d x m l pl i).asked≤MD d m i:=by
 intro m
 induction m with
 |zero=>intro l pl i;simp[fC,MD]
 |succ m ih=>
  intro l pl i
  unfold fC MD
  cases hp:ba d i with
  |none=>simp
  |some p=>
   simp only
   split
   ·have:=ih (l.set i.toNat (l.getD p.toNat 0)) (cZ pl (l.getD p.toNat 0) i) p
    simp only;omega
   ·simp only;omega
theorem vE(lt:Int→Int→Bool)(d x:Int):∀ (m:Nat) (l:List Int) (pl:Int→Option Int) (i:Int),(fC lt d x m l pl i).l.length=l.length:=by
 intro m
 induction m with
 |zero=>intro l pl i;simp[fC]
 |succ m ih=>
  intro l pl i
  unfold fC
  cases hp:ba d i with
  |none=>simp
  |some p=>
   simp only
   split
   ·simp[ih]
   ·simp
theorem RC{lt:Int→Int→Bool}{d:Int}(hf:cU d)(x:Int)(l:List Int)(pl:Int→Option Int)(i:Int)(h0:0≤i):
  ((fC lt d x i.toNat l pl i).at_=i∧(fC lt d x i.toNat l pl i).l=l.set i.toNat x∧(fC lt d x i.toNat l pl i).pl=cZ pl x i∧(fC lt d x i.toNat l pl i).asked≤1∧(1≤i→lt x (l.getD (pa d i.toNat) 0)=false))∨
  ((fC lt d x i.toNat l pl i).at_<i∧1≤i∧lt x (l.getD (pa d i.toNat) 0)=true):=by
 by_cases hi:1≤i
 ·obtain⟨p,hp,QR,p0,p1⟩:=nG hf hi
  obtain⟨q,hq⟩:∃q,i.toNat=q+1:=⟨i.toNat - 1,by omega⟩
  have low:∀ (m:Nat) (l:List Int) (pl:Int→Option Int) (i:Int),(fC lt d x m l pl i).at_≤i:=by
   intro m
   induction m with
   |zero=>intro l pl i;simp[fC]
   |succ m ih=>
    intro l pl i
    unfold fC
    cases hp:ba d i with
    |none=>simp
    |some p=>
     have:=eQ hp
     simp only
     split
     ·have:=ih (l.set i.toNat (l.getD p.toNat 0)) (cZ pl (l.getD p.toNat 0) i) p
      simp only;omega
     ·simp only;omega
  rw[hq,fC,hp,←hq]
  simp only[QR]
  cases aO:lt x (l.getD (pa d i.toNat) 0)with
  |false=>exact .inl ⟨rfl,rfl,rfl,aov _,fun _=>rfl⟩
  |true=>
   have:=low q (l.set i.toNat (l.getD (pa d i.toNat) 0)) (cZ pl (l.getD (pa d i.toNat) 0) i) p
   exact .inr ⟨by simp only[if_true];omega,hi,rfl⟩
 ·have FG:i=0:=by omega
  subst FG
  exact .inl ⟨rfl,rfl,rfl,by simp[fC],fun h=>by omega⟩
def RD(l:List Int)(pl:Int→Option Int)(i:Int)(x:Int):Prop:=
 ∀z,z≠x→∀k,pl z=some k↔(0≤k∧k≠i∧l[k.toNat]? =some z)
def CK(l:List Int)(pl:Int→Option Int):Prop:=∀z k,pl z=some k↔(0≤k∧l[k.toNat]? =some z)
theorem CK.afo{l:List Int}{pl:Int→Option Int}(h:CK l pl){i x:Int}(hx:l[i.toNat]? =some x)(h0:0≤i):RD l pl i x:=by
 intro z hz k
 rw[h z k]
 constructor
 ·rintro⟨a,b⟩;exact⟨a,fun e=>by subst e;rw[hx]at b;injection b with b;exact hz b.symm,b⟩
 ·rintro⟨a,_,b⟩;exact⟨a,b⟩
theorem CK.FK{l:List Int}{pl:Int→Option Int}(h:CK l pl){i j:Nat}{z:Int}(hi:l[i]? =some z)(hj:l[j]? =some z):i=j:=by
 have h1:=(h z i).2 ⟨by omega,by simpa using hi⟩
 have h2:=(h z j).2 ⟨by omega,by simpa using hj⟩
 rw[h1]at h2
 injection h2 with h2
 omega
def II(l:List Int)(i:Int)(z:Int):Prop:=∃k:Nat,(k:Int)≠i∧l[k]? =some z
theorem RD.set{l:List Int}{pl:Int→Option Int}{i x:Int}(h:RD l pl i x)(h0:0≤i)(hl:i<l.length)(hx:¬II l i x):CK (l.set i.toNat x) (cZ pl x i):=by
 intro z k
 have qi:i.toNat<l.length:=by omega
 by_cases e:z=x
 ·subst e
  simp only[cZ,if_true]
  constructor
  ·intro hk;injection hk with hk;subst hk;exact⟨h0,by rw[aop qi]⟩
  ·rintro⟨a,b⟩
   by_cases e2:k=i
   ·rw[e2]
   ·exfalso
    rw[aoo (by omega)]at b
    exact hx ⟨k.toNat,by omega,b⟩
 ·simp only[cZ,if_neg e]
  rw[h z e k]
  constructor
  ·rintro⟨a,b,c⟩;exact⟨a,by rw[aoo (by omega)];exact c⟩
  ·rintro⟨a,b⟩
   have e2:k≠i:=fun e2=>by
    rw[e2,aop qi]at b;injection b with b;exact e b.symm
   exact⟨a,e2,by rw[aoo (by omega)]at b;exact b⟩
theorem RD.move{l:List Int}{pl:Int→Option Int}{i p x y:Int}(h:RD l pl i x)(h0:0≤i)(hl:i<l.length)(p0:0≤p)(hpi:p≠i)(hy:l[p.toNat]? =some y)(hx:¬II l i x):
  RD (l.set i.toNat y) (cZ pl y i) p x∧(¬II (l.set i.toNat y) p x)∧∀z,II (l.set i.toNat y) p z↔II l i z:=by
 have qi:i.toNat<l.length:=by omega
 have mN:y≠x:=fun e=>hx ⟨p.toNat,by omega,by rw[hy,e]⟩
 have aaJ:∀k:Int,0≤k→k≠i→l[k.toNat]? =some y→k=p:=by
  intro k k0 ki hk
  have h1:=(h y mN k).2 ⟨k0,ki,hk⟩
  have h2:=(h y mN p).2 ⟨p0,hpi,hy⟩
  rw[h1]at h2;injection h2
 have Lo:∀z,II (l.set i.toNat y) p z↔II l i z:=by
  intro z
  constructor
  ·rintro⟨k,k1,k2⟩
   by_cases e:i.toNat=k
   ·rw[←e,aop qi]at k2
    injection k2 with k2
    subst k2
    exact⟨p.toNat,by omega,hy⟩
   ·rw[aoo e]at k2
    exact⟨k,by omega,k2⟩
  ·rintro⟨k,k1,k2⟩
   by_cases e:(k:Int)=p
   ·refine⟨i.toNat,by omega,?_⟩
    rw[aop qi]
    rw[show k=p.toNat by omega,hy]at k2
    exact k2
   ·exact⟨k,e,by rw[aoo (by omega)];exact k2⟩
 refine⟨?_,fun hc=>hx ((Lo x).1 hc),Lo⟩
 intro z hz k
 by_cases e:z=y
 ·subst e
  simp only[cZ,if_true]
  constructor
  ·intro hk;injection hk with hk;subst hk;exact⟨h0,by omega,by rw[aop qi]⟩
  ·rintro⟨a,b,c⟩
   by_cases e2:k=i
   ·rw[e2]
   ·rw[aoo (by omega)]at c
    exact absurd (aaJ k a e2 c) b
 ·simp only[cZ,if_neg e]
  rw[h z hz k]
  constructor
  ·rintro⟨a,b,c⟩
   refine⟨a,fun e2=>?_,by rw[aoo (by omega)];exact c⟩
   rw[e2,hy]at c;injection c with c;exact e c.symm
  ·rintro⟨a,b,c⟩
   have e2:k≠i:=fun e2=>by rw[e2,aop qi]at c;injection c with c;exact e c.symm
   exact⟨a,e2,by rw[aoo (by omega)]at c;exact c⟩
theorem mem_set{l:List Int}{i:Nat}(hi:i<l.length)(x z:Int):z∈l.set i x↔z=x∨II l i z:=by
 constructor
 ·intro h
  obtain⟨k,hk⟩:=aoS h
  by_cases e:i=k
  ·subst e;rw[aop hi]at hk;injection hk with hk;exact .inl hk.symm
  ·rw[aoo e]at hk;exact .inr ⟨k,by omega,hk⟩
 ·rintro(rfl| ⟨k,k1,k2⟩)
  ·exact aon (i:=i) (aop hi)
  ·exact aon (i:=k) (by rw[aoo (by omega)];exact k2)
theorem CL{lt:Int→Int→Bool}{d:Int}(x:Int):∀ (m:Nat) (l:List Int) (pl:Int→Option Int) (i:Int),i.toNat≤m→0≤i→i<l.length→RD l pl i x→¬II l i x→
  CK (fC lt d x m l pl i).l (fC lt d x m l pl i).pl∧∀z,z∈(fC lt d x m l pl i).l↔z=x∨II l i z:=by
 intro m
 induction m with
 |zero=>
  intro l pl i hm h0 hl hP hx
  exact⟨hP.set h0 hl hx,fun z=>by have:=mem_set (l:=l) (i:=i.toNat) (by omega) x z;rw[show((i.toNat:Nat):Int)=i by omega]at this;exact this⟩
 |succ m ih=>
  intro l pl i hm h0 hl hP hx
  have Pj:CK (l.set i.toNat x) (cZ pl x i)∧∀z,z∈l.set i.toNat x↔z=x∨II l i z:=
   ⟨hP.set h0 hl hx,fun z=>by have:=mem_set (l:=l) (i:=i.toNat) (by omega) x z;rw[show((i.toNat:Nat):Int)=i by omega]at this;exact this⟩
  unfold fC
  cases hp:ba d i with
  |none=>exact Pj
  |some p=>
   have hb:=eQ hp
   simp only
   split
   ·have hy:l[p.toNat]? =some (l.getD p.toNat 0):=by
     rw[aom,aoh (by omega)];rfl
    obtain⟨m1,m2,m3⟩:=hP.move h0 hl hb.1 (by omega) hy hx
    obtain⟨r1,r2⟩:=ih (l.set i.toNat (l.getD p.toNat 0)) (cZ pl (l.getD p.toNat 0) i) p (by omega) hb.1 (by rw[aok];omega) m1 m2
    exact⟨r1,fun z=>by rw[r2 z,m3 z]⟩
   ·exact Pj
theorem Lp{lt:Int→Int→Bool}(ho:bA lt)(l:List Int)(d i:Int)(h:0≤d*i):∀ (m:Nat) (bV:Int),(m:Int)≤d - 1→d*i+1≤bV→bV<l.length→
  (∀c:Int,d*i+1≤c→c≤d*i+(d - m)→c<l.length→lt (l.getD c.toNat 0) (l.getD bV.toNat 0)=false)→
  ∀c:Int,d*i+1≤c→c≤d*i+d→c<l.length→lt (l.getD c.toNat 0) (l.getD (bS lt l d i m bV).1.toNat 0)=false:=by
 intro m
 induction m with
 |zero=>intro bV _ _ _ hc c c1 c2 c3;exact hc c c1 (by omega) c3
 |succ m ih=>
  intro bV hm h1 h2 hc c c1 c2 c3
  unfold bS
  split
  ·rename_i aO
   simp only
   split
   ·rename_i hl
    refine ih _ (by omega) (by omega) (by omega) (fun e e1 e2 e3=>?_) c c1 c2 c3
    by_cases he:e=d*i+(d - m)
    ·rw[he];exact ho.vy _
    ·have:=hc e e1 (by omega) e3
     cases hx:lt (l.getD e.toNat 0) (l.getD (d*i+(d - (m:Int))).toNat 0)with
     |false=>rfl
     |true=>
      have:=ho.tr _ _ _ hx hl
      simp_all
   ·rename_i hl
    refine ih _ (by omega) h1 h2 (fun e e1 e2 e3=>?_) c c1 c2 c3
    by_cases he:e=d*i+(d - m)
    ·rw[he];simpa using hl
    ·exact hc e e1 (by omega) e3
  ·rename_i aO
   refine ih _ (by omega) h1 h2 (fun e e1 e2 e3=>?_) c c1 c2 c3
   by_cases he:e=d*i+(d - m)
   ·omega
   ·exact hc e e1 (by omega) e3
theorem PR{lt:Int→Int→Bool}(ho:bA lt){d:Int}(hf:cU d)(x:Int):∀ (m:Nat) (l:List Int) (pl:Int→Option Int) (i:Int),l.length≤i.toNat+m→0≤i→i<l.length→dE lt d l i.toNat→
  (1≤i→lt x (l.getD (pa d i.toNat) 0)=false)→eM lt d (cV lt d x m l pl i).1:=by
 intro m
 induction m with
 |zero=>intro l pl i hm h0 hl;omega
 |succ m ih=>
  intro l pl i hm h0 hl hA hD
  have T3:=hf.1
  have Tm:0≤d*i:=apZ (by omega) h0
  have hit:((i.toNat:Nat):Int)=i:=by omega
  have PS:∀j:Nat,1≤j→(pa d j=i.toNat↔(d*i+1≤j∧(j:Int)≤d*i+d)):=fun j hj=>by have:=RB hf (i:=i.toNat) hj;rw[hit]at this;exact this
  unfold cV
  split
  ·rename_i hc
   exact hA.set hf (by omega) (fun j h1 h2 h3=>by have:=(PS j h1).1 h3;omega) (fun h=>hD (by omega))
  ·rename_i hc
   have hb:=kW lt l d i Tm (d - 1).toNat (d*i+1) (by omega) (by omega) (by omega)
   have oR:(bS lt l d i (d - 1).toNat (d*i+1)).1≤d*i+d:=by
    have key:∀ (m:Nat) (bV:Int),(m:Int)≤d - 1→bV≤d*i+d→(bS lt l d i m bV).1≤d*i+d:=by
     intro m
     induction m with
     |zero=>intro bV _ h;exact h
     |succ m ih=>
      intro bV hm h
      unfold bS
      split
      ·simp only;split
       ·exact ih _ (by omega) (by omega)
       ·exact ih _ (by omega) h
      ·exact ih _ (by omega) h
    exact key _ _ (by omega) (by omega)
   have Vq:=Lp ho l d i Tm (d - 1).toNat (d*i+1) (by omega) (by omega) (by omega) (fun c c1 c2 c3=>by rw[show c=d*i+1 by omega];exact ho.vy _)
   have aO:=nF hf h0 hb.1
   generalize bS lt l d i (d - 1).toNat (d*i+1)=B at*
   obtain⟨b,q⟩:=B
   simp only at hb oR Vq aO
   have hbp:pa d b.toNat=i.toNat:=(PS b.toNat (by omega)).2 ⟨by omega,by omega⟩
   have qi:i.toNat<l.length:=by omega
   have rV:∀j,1≤j→j<l.length→pa d j=i.toNat→lt (l.getD j 0) (l.getD b.toNat 0)=false:=fun j h1 h2 h3=>by
    have h4:=(PS j h1).1 h3
    have:=Vq j h4.1 h4.2 (by omega)
    simpa using this
   simp only
   by_cases hy:lt (l.getD b.toNat 0) x=true
   ·rw[if_pos hy]
    refine ih _ _ b (by rw[aok];omega) (by omega) (by rw[aok];omega) ⟨fun j h1 h2 h3 h4=>?_,fun j h1 h2 h3 h4=>?_⟩ (fun _=>?_)
    ·rw[aok]at h2
     rw[dv _ _ _ _ qi,dv _ _ _ _ qi]
     have WE:=cG hf h1
     by_cases e1:i.toNat=j
     ·subst e1
      rw[if_pos rfl,if_neg (by omega)]
      have:=hA.2 b.toNat (by omega) (by omega) hbp h1
      exact this
     ·rw[if_neg e1]
      by_cases e2:i.toNat=pa d j
      ·rw[if_pos e2];exact rV j h1 h2 e2.symm
      ·rw[if_neg e2];exact hA.1 j h1 h2 (Ne.symm e1) (Ne.symm e2)
    ·rw[aok]at h2
     rw[hbp,dv _ _ _ _ qi,dv _ _ _ _ qi,if_pos rfl]
     have WE:=cG hf h1
     rw[if_neg (by omega)]
     have:=hA.1 j h1 h2 (by omega) (by omega)
     rw[h3]at this
     exact this
    ·rw[hbp,dv _ _ _ _ qi,if_pos rfl]
     exact ho.asym hy
   ·rw[if_neg hy]
    exact hA.set hf qi (fun j h1 h2 h3=>ho.nt _ _ _ (rV j h1 h2 h3) (by simpa using hy)) (fun h=>hD (by omega))
theorem Lq(lt:Int→Int→Bool)(d x:Int):∀ (m:Nat) (l:List Int) (pl:Int→Option Int) (i:Int),(cV lt d x m l pl i).1.length=l.length:=by
 intro m
 induction m with
 |zero=>intro l pl i;simp[cV]
 |succ m ih=>
  intro l pl i
  unfold cV
  split
  ·simp
  ·simp only
   split
   ·simp[ih]
   ·simp
theorem Lr{lt:Int→Int→Bool}{d:Int}(hf:cU d)(x:Int):∀ (m:Nat) (l:List Int) (pl:Int→Option Int) (i:Int),0≤i→i<l.length→RD l pl i x→¬II l i x→
  CK (cV lt d x m l pl i).1 (cV lt d x m l pl i).2.1∧∀z,z∈(cV lt d x m l pl i).1↔z=x∨II l i z:=by
 intro m
 induction m with
 |zero=>
  intro l pl i h0 hl hP hx
  exact⟨hP.set h0 hl hx,fun z=>by have:=mem_set (l:=l) (i:=i.toNat) (by omega) x z;rw[show((i.toNat:Nat):Int)=i by omega]at this;exact this⟩
 |succ m ih=>
  intro l pl i h0 hl hP hx
  have Pj:CK (l.set i.toNat x) (cZ pl x i)∧∀z,z∈l.set i.toNat x↔z=x∨II l i z:=
   ⟨hP.set h0 hl hx,fun z=>by have:=mem_set (l:=l) (i:=i.toNat) (by omega) x z;rw[show((i.toNat:Nat):Int)=i by omega]at this;exact this⟩
  have T3:=hf.1
  have Tm:0≤d*i:=apZ (by omega) h0
  unfold cV
  split
  ·exact Pj
  ·have hb:=kW lt l d i Tm (d - 1).toNat (d*i+1) (by omega) (by omega) (by omega)
   have aO:=nF hf h0 hb.1
   simp only
   split
   ·have hy:l[(bS lt l d i (d - 1).toNat (d*i+1)).1.toNat]? =some (l.getD (bS lt l d i (d - 1).toNat (d*i+1)).1.toNat 0):=by
     rw[aom,aoh (by omega)];rfl
    obtain⟨m1,m2,m3⟩:=hP.move h0 hl (by omega) (by omega) hy hx
    obtain⟨r1,r2⟩:=ih _ _ _ (by omega) (by rw[aok];omega) m1 m2
    exact⟨r1,fun z=>by rw[r2 z,m3 z]⟩
   ·exact Pj
def kX(d i:Int):Nat:=MD d i.toNat i
theorem qq{d i p:Int}(h:ba d i=some p):kX d i=kX d p+1:=Rn h _ (aov _)
theorem kY{d:Int}(hf:cU d):∀ (m:Nat) (i j:Int),j.toNat≤m→i≤j→kX d i≤kX d j:=by
 intro m
 induction m with
 |zero=>
  intro i j hm Km
  have:kX d i=0:=by unfold kX;rw[show i.toNat=0 by omega];rfl
  omega
 |succ m ih=>
  intro i j hm Km
  by_cases hi:1≤i
  ·have T3:=hf.1
   have hp:ba d i=some ((i - 1) / d):=by unfold ba;rw[if_pos ⟨hf,hi⟩]
   have hq:ba d j=some ((j - 1) / d):=by unfold ba;rw[if_pos ⟨hf,by omega⟩]
   have hb:=eQ hq
   rw[qq hp,qq hq]
   have:=ih ((i - 1) / d) ((j - 1) / d) (by omega) (Int.ediv_le_ediv (by omega) (by omega))
   omega
  ·have:kX d i=0:=by
    unfold kX
    have hn:ba d i=none:=by unfold ba;rw[if_neg (by omega)]
    cases i.toNat<;>simp[MD,hn]
   omega
theorem Ls(lt:Int→Int→Bool)(l:List Int)(d i:Int):∀ (m:Nat) (bV:Int),(bS lt l d i m bV).2≤m:=by
 intro m
 induction m with
 |zero=>intro bV;simp[bS]
 |succ m ih=>
  intro bV
  unfold bS
  split
  ·simp only
   have:=ih (if lt (l.getD (d*i+(d - m)).toNat 0) (l.getD bV.toNat 0)=true then d*i+(d - m)else bV)
   omega
  ·have:=ih bV;omega
theorem Ni{lt:Int→Int→Bool}{d:Int}(hf:cU d)(x:Int):∀ (m:Nat) (l:List Int) (pl:Int→Option Int) (i:Int),l.length≤i.toNat+m→0≤i→i<l.length→
  ((cV lt d x m l pl i).2.2:Int)+d*(kX d i:Nat)≤d*(kX d ((l.length:Int) - 1):Nat):=by
 intro m
 induction m with
 |zero=>intro l pl i hm h0 hl;omega
 |succ m ih=>
  intro l pl i hm h0 hl
  have T3:=hf.1
  have Tm:0≤d*i:=apZ (by omega) h0
  have FL:∀k,k≤(l.length:Int) - 1→d*(kX d k:Nat)≤d*(kX d ((l.length:Int) - 1):Nat):=fun k hk=>
   Int.mul_le_mul_of_nonneg_left (by have:=kY hf ((l.length:Int) - 1).toNat k ((l.length:Int) - 1) (aov _) hk;omega) (by omega)
  unfold cV
  split
  ·have:=FL i (by omega);simp only;omega
  ·have hb:=kW lt l d i Tm (d - 1).toNat (d*i+1) (by omega) (by omega) (by omega)
   have aO:=nF hf h0 hb.1
   have akd:=Ls lt l d i (d - 1).toNat (d*i+1)
   have oR:(bS lt l d i (d - 1).toNat (d*i+1)).1≤d*i+d:=by
    have key:∀ (m:Nat) (bV:Int),(m:Int)≤d - 1→bV≤d*i+d→(bS lt l d i m bV).1≤d*i+d:=by
     intro m
     induction m with
     |zero=>intro bV _ h;exact h
     |succ m ih=>
      intro bV hm h
      unfold bS
      split
      ·simp only;split
       ·exact ih _ (by omega) (by omega)
       ·exact ih _ (by omega) h
      ·exact ih _ (by omega) h
    exact key _ _ (by omega) (by omega)
   generalize bS lt l d i (d - 1).toNat (d*i+1)=B at*
   have PQ:ba d B.1=some i:=by
    unfold ba
    rw[if_pos ⟨hf,by omega⟩]
    have:=sQ (d:=d) (i:=i) (j:=B.1 - d*i) T3 h0 (by omega) (by omega)
    rw[show d*i+(B.1 - d*i) - 1=B.1 - 1 by omega]at this
    rw[this]
   have E0:=qq PQ
   have hmul:d*((kX d i+1:Nat):Int)=d*(kX d i:Nat)+d:=by rw[Int.natCast_add,Int.mul_add];simp
   simp only
   split
   ·have:=ih (l.set i.toNat (l.getD B.1.toNat 0)) (cZ pl (l.getD B.1.toNat 0) i) B.1 (by rw[aok];omega) (by omega) (by rw[aok];omega)
    rw[aok,E0,hmul]at this
    simp only
    omega
   ·have:=FL B.1 (by omega)
    rw[E0,hmul]at this
    simp only
    omega
def cR(lt:Int→Int→Bool)(d x:Int)(l:List Int)(pl:Int→Option Int)(i:Int):List Int×(Int→Option Int)×Nat:=
 if l.getD (l.length - 1) 0=x then(l.dropLast,rT pl x,0)
 else
  let U:=fC lt d (l.getD (l.length - 1) 0) i.toNat l.dropLast (rT pl x) i
  if U.at_=i then
   let D:=cV lt d (l.getD (l.length - 1) 0) U.l.length U.l U.pl i
   (D.1,D.2.1,U.asked+D.2.2)
  else(U.l,U.pl,U.asked)
theorem yf(l:List Int)(j:Nat)(h:j<l.length - 1):l.dropLast.getD j 0=l.getD j 0:=by
 rw[aom,aom,List.getElem?_dropLast,if_pos h]
theorem Lt{lt:Int→Int→Bool}(ho:bA lt){d:Int}(hf:cU d){x i:Int}{l:List Int}{pl:Int→Option Int}(hh:eM lt d l)(hp:CK l pl)(hi:pl x=some i):
  eM lt d (cR lt d x l pl i).1∧CK (cR lt d x l pl i).1 (cR lt d x l pl i).2.1∧(cR lt d x l pl i).1.length=l.length - 1∧
   (∀z,z∈(cR lt d x l pl i).1↔z∈l∧z≠x)∧((cR lt d x l pl i).2.2:Int)≤d*(kX d ((l.length:Int) - 1):Nat)+1:=by
 obtain⟨h0,hx⟩:=(hp x i).1 hi
 have qi:i.toNat<l.length:=(aoj.1 hx).1
 have T3:=hf.1
 have jf:l[l.length - 1]? =some (l.getD (l.length - 1) 0):=by
  rw[aom,aoh (by omega)];rfl
 have qt:∀k,k<l.length - 1→l.dropLast[k]? =l[k]? :=fun k hk=>by rw[List.getElem?_dropLast,if_pos hk]
 have iD:eM lt d l.dropLast:=by
  intro j h1 h2
  rw[aoU]at h2
  have:=cG hf h1
  rw[yf _ _ h2,yf _ _ (by omega)]
  exact hh j h1 (by omega)
 unfold cR
 split
 ·rename_i he
  have my:i.toNat=l.length - 1:=hp.FK hx (by rw[jf,he])
  refine⟨iD,fun z k=>?_,by simp,fun z=>?_,?_⟩
  ·show rT pl x z=some k↔(0≤k∧l.dropLast[k.toNat]? =some z)
   unfold rT
   by_cases hz:z=x
   ·subst hz
    simp only[if_true]
    constructor
    ·intro h;cases h
    ·rintro⟨a,b⟩
     have hk:k.toNat<l.length - 1:=by have:=(aoj.1 b).1;rwa[aoU]at this
     rw[qt _ hk]at b
     have:=hp.FK b hx
     omega
   ·rw[if_neg hz,hp z k]
    constructor
    ·rintro⟨a,b⟩
     have hk:k.toNat<l.length:=(aoj.1 b).1
     have z6:k.toNat≠l.length - 1:=fun e=>by rw[e,jf,he]at b;injection b with b;exact hz b.symm
     exact⟨a,by rw[qt _ (by omega)];exact b⟩
    ·rintro⟨a,b⟩
     have hk:k.toNat<l.length - 1:=by have:=(aoj.1 b).1;rwa[aoU]at this
     exact⟨a,by rw[qt _ hk]at b;exact b⟩
  ·constructor
   ·intro h
    obtain⟨k,hk⟩:=aoS h
    have hk1:k<l.length - 1:=by have:=(aoj.1 hk).1;rwa[aoU]at this
    rw[qt _ hk1]at hk
    refine⟨aon hk,fun e=>?_⟩
    subst e
    have:=hp.FK hk hx
    omega
   ·rintro⟨h,hz⟩
    obtain⟨k,hk⟩:=aoS h
    have hk1:k<l.length:=(aoj.1 hk).1
    have z6:k≠l.length - 1:=fun e=>by rw[e,jf,he]at hk;injection hk with hk;exact hz hk.symm
    exact aon (i:=k) (by rw[qt _ (by omega)];exact hk)
  ·have:0≤d*(kX d ((l.length:Int) - 1):Nat):=apZ (by omega) (by omega)
   simp only
   omega
 ·rename_i aP
  generalize hy:l.getD (l.length - 1) 0=y at*
  have my:i.toNat<l.length - 1:=by
   rcases apA i.toNat (l.length - 1)with h|h
   ·exact h
   ·exfalso
    rw[show i.toNat=l.length - 1 by omega,jf]at hx
    injection hx with hx
    exact aP hx
  have hP:RD l.dropLast (rT pl x) i y:=by
   intro z hz k
   unfold rT
   by_cases e:z=x
   ·subst e
    simp only[if_true]
    constructor
    ·intro h;cases h
    ·rintro⟨a,b,c⟩
     have hk:k.toNat<l.length - 1:=by have:=(aoj.1 c).1;rwa[aoU]at this
     rw[qt _ hk]at c
     have:=hp.FK c hx
     omega
   ·rw[if_neg e,hp z k]
    constructor
    ·rintro⟨a,b⟩
     have hk:k.toNat<l.length:=(aoj.1 b).1
     have z6:k.toNat≠l.length - 1:=fun e2=>by rw[e2,jf]at b;injection b with b;exact hz b.symm
     exact⟨a,fun e2=>by rw[e2,hx]at b;injection b with b;exact e b.symm,by rw[qt _ (by omega)];exact b⟩
    ·rintro⟨a,_,b⟩
     have hk:k.toNat<l.length - 1:=by have:=(aoj.1 b).1;rwa[aoU]at this
     exact⟨a,by rw[qt _ hk]at b;exact b⟩
  have hO:¬II l.dropLast i y:=by
   rintro⟨k,k1,k2⟩
   have hk:k<l.length - 1:=by have:=(aoj.1 k2).1;rwa[aoU]at this
   rw[qt _ hk]at k2
   have:=hp.FK k2 jf
   omega
  have bK:∀z,(z=y∨II l.dropLast i z)↔(z∈l∧z≠x):=by
   intro z
   constructor
   ·rintro(rfl| ⟨k,k1,k2⟩)
    ·exact⟨aon jf,aP⟩
    ·have hk:k<l.length - 1:=by have:=(aoj.1 k2).1;rwa[aoU]at this
     rw[qt _ hk]at k2
     refine⟨aon k2,fun e=>?_⟩
     subst e
     have:=hp.FK k2 hx
     omega
   ·rintro⟨h,hz⟩
    obtain⟨k,hk⟩:=aoS h
    have hk1:k<l.length:=(aoj.1 hk).1
    by_cases e:k=l.length - 1
    ·rw[e,jf]at hk;injection hk with hk;exact .inl hk.symm
    ·exact .inr ⟨k,fun e2=>hz (by rw[show k=i.toNat by omega,hx]at hk;injection hk with hk;exact hk.symm),by rw[qt _ (by omega)];exact hk⟩
  have aZ:(i:Int)<l.dropLast.length:=by rw[aoU];omega
  have Nj:=iD.but ho hf i.toNat
  have E0:=CL (lt:=lt) (d:=d) y i.toNat l.dropLast (rT pl x) i (aov _) h0 aZ hP hO
  have FL:d*(kX d ((l.length:Int) - 1 - 1):Nat)≤d*(kX d ((l.length:Int) - 1):Nat):=
   Int.mul_le_mul_of_nonneg_left (by have:=kY hf ((l.length:Int) - 1).toNat ((l.length:Int) - 1 - 1) ((l.length:Int) - 1) (aov _) (by omega);omega) (by omega)
  rcases RC hf (lt:=lt) y l.dropLast (rT pl x) i h0 with ⟨s1,s2,s3,s4,s5⟩| ⟨s1,s2,s3⟩
  ·simp only
   rw[if_pos s1,s2,s3,aok]
   simp only
   have afp:i.toNat<l.dropLast.length:=by rw[aoU];omega
   have Lu:∀j,j≠i.toNat→(l.dropLast.set i.toNat y).getD j 0=l.dropLast.getD j 0:=fun j hj=>by rw[dv _ _ _ _ afp,if_neg (Ne.symm hj)]
   have hP2:RD (l.dropLast.set i.toNat y) (cZ (rT pl x) y i) i y:=by
    intro z hz k
    unfold cZ
    rw[if_neg hz,hP z hz k]
    constructor
    ·rintro⟨a,b,c⟩;exact⟨a,b,by rw[aoo (by omega)];exact c⟩
    ·rintro⟨a,b,c⟩;exact⟨a,b,by rw[aoo (by omega)]at c;exact c⟩
   have Lo:∀z,II (l.dropLast.set i.toNat y) i z↔II l.dropLast i z:=by
    intro z
    constructor
    ·rintro⟨k,k1,k2⟩;exact⟨k,k1,by rw[aoo (by omega)]at k2;exact k2⟩
    ·rintro⟨k,k1,k2⟩;exact⟨k,k1,by rw[aoo (by omega)];exact k2⟩
   have oJ:(i:Int)< (l.dropLast.set i.toNat y).length:=by rw[aok];exact aZ
   obtain⟨d1,d2⟩:=Lr (lt:=lt) hf y l.dropLast.length (l.dropLast.set i.toNat y) (cZ (rT pl x) y i) i h0 oJ hP2 (fun hc=>hO ((Lo y).1 hc))
   refine⟨?_,d1,by rw[Lq,aok,aoU],fun z=>by rw[d2 z,Lo z];exact bK z,?_⟩
   ·refine PR ho hf y _ _ _ i (by rw[aok];omega) h0 oJ ⟨fun j h1 h2 h3 h4=>?_,fun j h1 h2 h3 h4=>?_⟩ (fun h=>?_)
    ·rw[Lu j h3,Lu _ h4];exact Nj.1 j h1 (by simpa using h2) h3 h4
    ·have:=cG hf h1
     have:=cG hf h4
     rw[Lu j (by omega),Lu _ (by omega)]
     exact Nj.2 j h1 (by simpa using h2) h3 h4
    ·have:=cG hf (j:=i.toNat) (by omega)
     rw[Lu _ (by omega)]
     exact s5 h
   ·have:=Ni (lt:=lt) hf y l.dropLast.length (l.dropLast.set i.toNat y) (cZ (rT pl x) y i) i (by rw[aok];omega) h0 oJ
    have hdl:l.dropLast.length=l.length - 1:=aoU
    rw[aok,show((l.dropLast.length:Nat):Int) - 1=(l.length:Int) - 1 - 1 by omega]at this
    have h5:0≤d*(kX d i:Nat):=apZ (by omega) (by omega)
    omega
  ·simp only
   rw[if_neg (by omega)]
   have PT:=cG hf (j:=i.toNat) (by omega)
   refine⟨JD ho hf y _ _ _ i (aov _) h0 aZ Nj (fun j h1 h2 h3=>?_),E0.1,by rw[vE,aoU],fun z=>by rw[E0.2 z];exact bK z,?_⟩
   ·have e1:=Nj.2 j h1 h2 h3 (by omega)
    cases hxx:lt (l.dropLast.getD j 0) y with
    |false=>rfl
    |true=>have:=ho.tr _ _ _ hxx s3;rw[this]at e1;cases e1
   ·have e1:=FJ lt d y i.toNat l.dropLast (rT pl x) i
    have e2:=kY hf ((l.length:Int) - 1).toNat i ((l.length:Int) - 1) (aov _) (by omega)
    unfold kX at e2 ⊢
    have e3:(1:Int)*(MD d ((l.length:Int) - 1).toNat ((l.length:Int) - 1):Nat)≤d*(MD d ((l.length:Int) - 1).toNat ((l.length:Int) - 1):Nat):=
     apS (by omega) (by omega)
    dsimp only
    omega
theorem FM{lt:Int→Int→Bool}(ho:bA lt){d:Int}(hf:cU d){l:List Int}(hh:eM lt d l):∀ (m j:Nat),j≤m→j<l.length→lt (l.getD j 0) (l.getD 0 0)=false:=by
 intro m
 induction m with
 |zero=>intro j hj _;rw[show j=0 by omega];exact ho.vy _
 |succ m ih=>
  intro j hj hl
  by_cases h:1≤j
  ·have:=cG hf h
   exact ho.nt _ _ _ (hh j h hl) (ih (pa d j) (by omega) (by omega))
  ·rw[show j=0 by omega];exact ho.vy _
def Nw.key(w:Nw)(a:Int):Int:=(w.cs.getD a.toNat (0,0,0)).2.1
def Nw.seq(w:Nw)(a:Int):Int:=(w.cs.getD a.toNat (0,0,0)).2.2
def aQ(w:Nw)(a b:Int):Bool:=decide (w.key a<w.key b∨w.key a=w.key b∧(w.seq a<w.seq b∨w.seq a=w.seq b∧a<b))
theorem au(w:Nw):bA (aQ w):=by
 refine⟨fun a=>?_,fun a b c h1 h2=>?_,fun a b c h1 h2=>?_,fun a b h=>?_⟩
 ·exact aoJ (by omega)
 ·simp only[aQ,aoL]at*;omega
 ·simp only[aQ,decide_eq_false_iff_not]at*;omega
 ·simp only[aQ,aoL];omega
theorem CM{w:Nw}{a b:Int}(ha:cY w.cs a)(hb:cY w.cs b):w.ahead a b=aQ w a b:=by
 obtain⟨a0,x,hx,_⟩:=id ha
 obtain⟨b0,y,hy,_⟩:=id hb
 have k1:w.key a=x.2.1:=by unfold Nw.key;rw[aom,hx];rfl
 have k2:w.key b=y.2.1:=by unfold Nw.key;rw[aom,hy];rfl
 have k3:w.seq a=x.2.2:=by unfold Nw.seq;rw[aom,hx];rfl
 have k4:w.seq b=y.2.2:=by unfold Nw.seq;rw[aom,hy];rfl
 unfold Nw.ahead aQ
 rw[aow ha,aow hb,hx,hy,k1,k2,k3,k4]
 simp only[apz]
 refine decide_eq_decide.2 ?_
 rw[Nf,fA]
 omega
theorem hY(w:Nw)(x:Int)(c:Ce){a b:Int}(ha:a.toNat≠x.toNat)(hb:b.toNat≠x.toNat):aQ (w.put x c) a b=aQ w a b:=by
 have key:∀z:Int,z.toNat≠x.toNat→(w.put x c).key z=w.key z∧(w.put x c).seq z=w.seq z:=fun z hz=>by
  unfold Nw.key Nw.seq Nw.put
  simp only[aom]
  rw[aoo (Ne.symm hz)]
  exact⟨rfl,rfl⟩
 unfold aQ
 rw[(key a ha).1,(key a ha).2,(key b hb).1,(key b hb).2]
def Nw.first(w:Nw)(g x:Int):Prop:=0<g∧0≤x∧(∃e,w.cs[x.toNat]? =some (g,e))∧∀y,0≤y→(∃e,w.cs[y.toNat]? =some (g,e))→y≠x→aQ w x y=true
theorem Nw.HP{w:Nw}{g:Int}:w.len g=0↔(g≤0∨∀ (i:Nat) (c:Ce),w.cs[i]? =some c→c.1≠g):=by
 unfold Nw.len
 by_cases hg:0<g
 ·rw[if_pos hg]
  constructor
  ·intro h
   refine .inr fun i c hc e=>?_
   have h1:w.cs.countP (fun c=>decide (c.1=g))=0:=by omega
   exact(apM.1 h1) c (aon hc) (aow e)
  ·rintro(h|h)
   ·omega
   ·rw[apM.2 (fun c hc=>by
     obtain⟨i,hi⟩:=aoS hc
     simpa using h i c hi)]
    rfl
 ·rw[if_neg hg]
  exact⟨fun _=>.inl (by omega),fun _=>rfl⟩
theorem Nw.first.MF{w:Nw}{g x:Int}(h:w.first g x):cY w.cs x:=by
 obtain⟨e,he⟩:=h.2.2.1
 exact⟨h.2.1,_,he,h.1⟩
def RE(w w':Nw)(g:Int):Prop:=∀ (i:Nat) (e:Int×Int),w.cs[i]? =some (g,e)↔w'.cs[i]? =some (g,e)
theorem RE.put{w w':Nw}{g:Int}(h:RE w w' g)(hg:0<g)(x:Int)(hl:w.cs.length=w'.cs.length):RE (w.put x (0,0,0)) (w'.put x (0,0,0)) g:=by
 intro i e
 unfold Nw.put
 simp only[List.getElem?_set,hl]
 by_cases hi:x.toNat=i
 ·simp only[if_pos hi]
 ·simp only[if_neg hi]
  exact h i e
def aG(w:Nw)(x:Int):Int:=if 0≤x then(w.cs.getD x.toNat (0,0,0)).1 else 0
theorem j7{w:Nw}{x:Int}{y:Ce}(h0:0≤x)(h:w.cs[x.toNat]? =some y):aG w x=y.1:=by
 unfold aG
 rw[if_pos h0,aom,h]
 rfl
theorem aF{w:Nw}{x:Int}(h:0<aG w x):0≤x∧x<w.cs.length∧∃e,w.cs[x.toNat]? =some (aG w x,e):=by
 unfold aG at h ⊢
 split at h
 ·rename_i h0
  rw[if_pos h0]
  rw[aom]at h ⊢
  cases hc:w.cs[x.toNat]? with
  |none=>rw[hc]at h;simp at h
  |some y=>
   have:=(aoj.1 hc).1
   exact⟨h0,by omega,y.2,rfl⟩
 ·omega
theorem bz{w:Nw}{x:Int}:0<aG w x↔cY w.cs x:=by
 constructor
 ·intro h
  obtain⟨h0,_,e,he⟩:=aF h
  exact⟨h0,_,he,h⟩
 ·rintro⟨h0,y,hy,hp⟩
  rw[j7 h0 hy]
  exact hp
theorem bM{w:Nw}{g x:Int}:w.first g x↔(0<g∧aG w x=g∧∀y,aG w y=g→y≠x→aQ w x y=true):=by
 constructor
 ·rintro⟨h1,h2,⟨e,he⟩,h4⟩
  refine⟨h1,j7 h2 he,fun y hy aP=>?_⟩
  obtain⟨y0,_,e',iG⟩:=aF (w:=w) (x:=y) (by omega)
  rw[hy]at iG
  exact h4 y y0 ⟨e',iG⟩ aP
 ·rintro⟨h1,h2,h3⟩
  obtain⟨x0,_,e,he⟩:=aF (w:=w) (x:=x) (by omega)
  rw[h2]at he
  exact⟨h1,x0,⟨e,he⟩,fun y y0 ⟨e',iG⟩ aP=>h3 y (j7 y0 iG) aP⟩
theorem uG{w:Nw}{g:Int}(hg:0<g):w.len g=0↔∀x,aG w x≠g:=by
 rw[Nw.HP]
 constructor
 ·rintro(h|h) x hx
  ·omega
  ·obtain⟨_,_,e,he⟩:=aF (w:=w) (x:=x) (by omega)
   exact h _ _ he hx
 ·intro h
  refine .inr fun i c hc e=>h (i:Int) ?_
  rw[j7 (y:=c) (by omega) (by simpa using hc)]
  exact e
theorem dV{w:Nw}{i:Int}(hi:0≤i∧i<w.cs.length)(c:Ce)(x:Int):aG (w.put i c) x=if x=i then c.1 else aG w x:=by
 unfold aG Nw.put
 simp only
 by_cases hx:x=i
 ·subst hx
  rw[if_pos hi.1,if_pos rfl,aom,aop (by omega)]
  rfl
 ·rw[if_neg hx]
  split
  ·rw[aom,aoo (by omega),aom]
  ·rfl
theorem RF{lt:Int→Int→Bool}(hs:bA lt){P:Int→Prop}{n:Nat}(hP:∀x,P x→0≤x∧x<n){x:Int}(hx:P x):∃m,P m∧∀y,P y→y≠m→lt m y=true:=by
 have key:∀k:Nat,∀x,P x→((List.range n).countP fun(i:Nat)=>lt i x)≤k→∃m,P m∧∀y,P y→y≠m→lt m y=true:=by
  intro k
  induction k with
  |zero=>
   intro x hx hk
   refine⟨x,hx,fun y hy aP=>?_⟩
   rcases hs.OD x y (Ne.symm aP)with h|h
   ·exact h
   ·have DQ:=hP y hy
    have:=(apM.1 (Nat.le_zero.1 hk)) y.toNat (apj.2 (by omega))
    rw[show((y.toNat:Nat):Int)=y by omega]at this
    exact absurd h this
  |succ k ih=>
   intro x hx hk
   by_cases hz:∃y,P y∧lt y x=true
   ·obtain⟨y,hy,hl⟩:=hz
    refine ih y hy ?_
    have DQ:=hP y hy
    have h9:(List.range n).countP (fun(i:Nat)=>lt i y)< (List.range n).countP fun(i:Nat)=>lt i x:=by
     refine qP (fun i hi=>hs.tr _ _ _ hi hl) (x:=y.toNat) (apj.2 (by omega)) ?_ ?_
     ·rw[show((y.toNat:Nat):Int)=y by omega];exact hs.vy _
     ·rw[show((y.toNat:Nat):Int)=y by omega];exact hl
    omega
   ·refine⟨x,hx,fun y hy aP=>?_⟩
    rcases hs.OD x y (Ne.symm aP)with h|h
    ·exact h
    ·exact absurd ⟨y,hy,h⟩ hz
 exact key _ x hx (aov _)
theorem uH{w:Nw}{g:Int}(hg:0<g)(h:w.len g≠0):∃x,w.first g x:=by
 have h1:¬ ∀x,aG w x≠g:=fun hn=>h ((uG hg).2 hn)
 obtain⟨x,hx⟩:=Classical.not_forall.1 h1
 have hx:=Classical.not_not.1 hx
 obtain⟨m,hm,hl⟩:=RF (au w) (P:=fun x=>aG w x=g) (n:=w.cs.length) (fun x hx=>by obtain⟨a,b,_⟩:=aF (w:=w) (x:=x) (by omega);omega) hx
 exact⟨m,bM.2 ⟨hg,hm,hl⟩⟩
theorem dw{w:Nw}{i:Int}(hi:0≤i∧i<w.cs.length)(c:Ce){a b:Int}(ha:0<aG w a)(hb:0<aG w b)(Y6:a≠i)(hbi:b≠i):aQ (w.put i c) a b=aQ w a b:=by
 obtain⟨a0,_⟩:=aF ha
 obtain⟨b0,_⟩:=aF hb
 exact hY w i c (by omega) (by omega)
theorem Bg{w:Nw}{i k s:Int}(bJ:cY w.cs i){y:Ce}(hy:w.cs[i.toNat]? =some y)(hl:¬fA y.2.1 y.2.2 k s){b:Int}(hb:0<aG w b)(hbi:b≠i)(h:aQ w i b=true):aQ (w.put i (y.1,k,s)) i b=true:=by
 obtain⟨b0,_⟩:=aF hb
 have FG:=bJ.1
 have qi:=(aoj.1 hy).1
 have k1:(w.put i (y.1,k,s)).key i=k∧(w.put i (y.1,k,s)).seq i=s:=by
  unfold Nw.key Nw.seq Nw.put
  simp only[aom]
  rw[aop qi]
  exact⟨rfl,rfl⟩
 have k2:w.key i=y.2.1∧w.seq i=y.2.2:=by
  unfold Nw.key Nw.seq
  simp only[aom,hy]
  exact⟨rfl,rfl⟩
 have k3:(w.put i (y.1,k,s)).key b=w.key b∧(w.put i (y.1,k,s)).seq b=w.seq b:=by
  unfold Nw.key Nw.seq Nw.put
  simp only[aom]
  rw[aoo (by omega)]
  exact⟨rfl,rfl⟩
 unfold aQ at h ⊢
 rw[k2.1,k2.2]at h
 rw[k1.1,k1.2,k3.1,k3.2]
 unfold fA at hl
 simp only[aoL]at h ⊢
 omega
def CQ(H:Hp)(c:Nat)(C:Nat→Prop)(w:Nw):Prop:=∃st,bf H c C st w
section
variable {H H' : Hp} {c : Nat} {C T : Nat → Prop} {w : Nw}
theorem CQ.ext(h:CQ H c C w)(e:ag T H H')(hd:∀x,C x→¬T x):CQ H' c C w:=by obtain⟨st,h⟩:=h;exact⟨st,h.ext e hd⟩
theorem CQ.fresh(h:CQ H c C w)(e:ah H H'):CQ H' c C w:=h.ext e fun _ _ h=>h
theorem CQ.slt(h:CQ H c C w):∀x,C x→x<H.size:=by obtain⟨st,h⟩:=h;exact h.slt
theorem CQ.Ph(h:CQ H c C w):C c:=by obtain⟨st,h⟩:=h;exact h.Ph
theorem CQ.Ef(h:CQ H c C w):w.cs.length≤65536:=by obtain⟨st,h⟩:=h;exact h.Ef
theorem CQ.z7(h:CQ H c C w):w.hs.length≤65537:=by obtain⟨st,h⟩:=h;exact h.z7
theorem CQ.home(h:CQ H c C w):∀x∈w.cs,0≤x.1∧x.1<w.hs.length:=by obtain⟨st,h⟩:=h;exact h.home
theorem CQ.live(h:CQ H c C w):∀x∈w.cs,0<x.1→w.hs[x.1.toNat]? =some true:=by obtain⟨st,h⟩:=h;exact h.live
theorem CQ.hm(h:CQ H c C w)(x:Int):0≤aG w x∧(0<aG w x→w.has (aG w x)∧aG w x<w.hs.length):=by
 by_cases h0:0<aG w x
 ·obtain⟨h1,h2,e,he⟩:=aF h0
  have hm:=aon he
  have:=h.home _ hm
  have hl:=h.live _ hm h0
  exact⟨by omega,fun _=>⟨⟨by omega,hl⟩,this.2⟩⟩
 ·refine⟨?_,fun h=>absurd h h0⟩
  unfold aG
  split
  ·rw[aom]
   cases hc:w.cs[x.toNat]? with
   |none=>exact apI _
   |some y=>exact(h.home y (aon hc)).1
  ·exact apI _
theorem CQ.pos(h:CQ H c C w):0<w.hs.length:=by
 obtain⟨st,cs,len,rt,aS,h1,h2⟩:=h
 exact(aoj.1 h2.h0).1
theorem cF(h:CQ H c C w)(a b:Int):af Tryz.prog cM [ptr c,i64 a,i64 b] H fun v H'=>aw (v= .bool (w.ahead a b)∧CQ H' c C w∧ag C H H'):=by
 obtain⟨st,h⟩:=h
 refine(jn h a b).mono ?_
 rintro v H' ⟨h1,h2,h3⟩
 exact⟨h1,⟨_,h2⟩,h3⟩
theorem uI(h:CQ H c C w)(i:Int):af Tryz.prog iW [ptr c,i64 i] H fun v H'=>aw (v=i64 (w.len i)∧H=H'):=by
 obtain⟨st,h⟩:=h
 exact sS h i
theorem iH(h:CQ H c C w)(i:Int):af Tryz.prog bE [ptr c,i64 i] H fun v H'=>aw (v= .bool (decide (w.has i))∧H=H'):=by
 obtain⟨st,h⟩:=h
 exact hX h i
theorem jo(h:CQ H c C w):af Tryz.prog du [ptr c] H fun v H'=>aw (
  (w.hs.length=65537∧v=i64 0∧H=H')∨(w.hs.length≠65537∧v=i64 w.hs.length∧∃C',CQ H' c C' w.make∧ag C H H'∧∀x,C' x→C x∨H.size≤x)):=by
 obtain⟨st,h⟩:=h
 refine(j5 h).mono ?_
 rintro v H' (h1| ⟨h1,h2,S',h3,h4⟩)
 ·exact .inl h1
 ·exact .inr ⟨h1,h2,S',⟨_,h3⟩,h4⟩
theorem kZ(h:CQ H c C w)(g i k s:Int):af Tryz.prog iX [ptr c,i64 g,i64 i,tL k s] H fun v H'=>aw (
  (¬ (w.has g∧(0≤i∧i<w.cs.length)∧¬cY w.cs i)∧v= .bool false∧CQ H' c C w∧ag C H H')∨
  ((w.has g∧(0≤i∧i<w.cs.length)∧¬cY w.cs i)∧v= .bool true∧CQ H' c C (w.put i (g,k,s))∧ag C H H')):=by
 obtain⟨st,h⟩:=h
 refine(lI h g i k s).mono ?_
 rintro v H' (⟨h1,h2,h3,h4⟩| ⟨h1,h2,h3,h4⟩)
 ·exact .inl ⟨h1,h2,⟨_,h3⟩,h4⟩
 ·exact .inr ⟨h1,h2,⟨_,h3⟩,h4⟩
theorem di(h:CQ H c C w)(i:Int):af Tryz.prog ie [ptr c,i64 i] H fun v H'=>aw (
  (¬cY w.cs i∧v= .tuple [i64 0,.bool false].toArray∧H=H')∨(cY w.cs i∧v= .tuple [i64 (aG w i),.bool true].toArray∧CQ H' c C w∧ag C H H')):=by
 obtain⟨st,h⟩:=h
 refine(eC h i).mono ?_
 rintro v H' (h1| ⟨h1,x,hx,h2,h3,h4⟩)
 ·exact .inl h1
 ·exact .inr ⟨h1,by rw[h2,j7 h1.1 hx],⟨_,h3⟩,h4⟩
theorem gQ(h:CQ H c C w)(i:Int):af Tryz.prog bh [ptr c,i64 i] H fun v H'=>aw (CQ H' c C w∧ah H H'∧(
  (¬cY w.cs i∧v= .tuple [tL 0 0,.bool false].toArray)∨(cY w.cs i∧∃x,w.cs[i.toNat]? =some x∧v= .tuple [tL x.2.1 x.2.2,.bool true].toArray))):=by
 obtain⟨st,h⟩:=h
 refine(jk h i).mono ?_
 rintro v H' ⟨h1,h2,h3⟩
 exact⟨⟨_,h1⟩,h2,h3⟩
theorem ci(h:CQ H c C w)(i:Int):af Tryz.prog ij [ptr c,i64 i] H fun v H'=>aw (
  (¬cY w.cs i∧v= .bool false∧H=H')∨(cY w.cs i∧v= .bool true∧CQ H' c C (w.put i (0,0,0))∧ag C H H')):=by
 obtain⟨st,h⟩:=h
 refine(j6 h i).mono ?_
 rintro v H' (h1| ⟨h1,h2,h3,h4⟩)
 ·exact .inl h1
 ·exact .inr ⟨h1,h2,⟨_,h3⟩,h4⟩
theorem gR(h:CQ H c C w)(i k s:Int):af Tryz.prog gH [ptr c,i64 i,tL k s] H fun v H'=>aw (
  (¬ (cY w.cs i∧∀x,w.cs[i.toNat]? =some x→¬fA x.2.1 x.2.2 k s)∧v= .bool false∧CQ H' c C w∧ah H H')∨
  (cY w.cs i∧v= .bool true∧∃x,w.cs[i.toNat]? =some x∧¬fA x.2.1 x.2.2 k s∧CQ H' c C (w.put i (x.1,k,s))∧ag C H H')):=by
 obtain⟨st,h⟩:=h
 refine(jm h i k s).mono ?_
 rintro v H' (⟨h1,h2,h3,h4⟩| ⟨h1,h2,x,h3,h4,h5,h6⟩)
 ·exact .inl ⟨h1,h2,⟨_,h3⟩,h4⟩
 ·exact .inr ⟨h1,h2,x,h3,h4,⟨_,h5⟩,h6⟩
end
theorem k8(cap:Int)(H:Hp):af Tryz.prog tY [i64 cap] H fun v H'=>aw (
  ah H H'∧((¬ (0≤cap∧cap≤65536)∧v= .tuple [.pointer none,i64 31].toArray)∨
   (0≤cap∧cap≤65536)∧∃c C,v= .tuple [ptr c,i64 0].toArray∧CQ H' c C ⟨[false],List.replicate cap.toNat (0,0,0)⟩∧(∀x,C x→H.size≤x))):=by
 refine(lH cap H).mono ?_
 rintro v H' ⟨h1,h2| ⟨h2,c,C,h3,h4,h5⟩⟩
 ·exact⟨h1,.inl h2⟩
 ·exact⟨h1,.inr ⟨h2,c,C,h3,⟨_,h4⟩,h5⟩⟩
theorem gS{w:Nw}{a b:Int}(ha:0<aG w a)(hb:0<aG w b):w.ahead a b=aQ w a b:=CM (bz.1 ha) (bz.1 hb)
def bm(tops:List Int)(h:Int):Int:=if 0≤h then tops.getD h.toNat (-1)else -1
theorem dW{tops:List Int}{h:Int}(h0:0≤h)(hl:h<tops.length):tops[h.toNat]? =some (bm tops h):=by
 unfold bm
 rw[if_pos h0,aom]
 obtain⟨x,hx⟩:∃x,tops[h.toNat]? =some x:=⟨_,aoh (by omega)⟩
 rw[hx];rfl
theorem eD{tops:List Int}{h:Int}(h0:0≤h)(hl:h<tops.length)(x:Int):bm (tops.set h.toNat x)=iS (bm tops) h x:=by
 funext y
 show bm _ y=if y=h then x else bm tops y
 by_cases hy:y=h
 ·subst hy
  unfold bm
  rw[if_pos h0,if_pos rfl,aom,aop (by omega)]
  rfl
 ·rw[if_neg hy]
  unfold bm
  split
  ·rw[aom,aoo (by omega),aom]
  ·rfl
theorem Bh(tops:List Int):bm (tops++[-1])=bm tops:=by
 funext y
 unfold bm
 split
 ·rw[aom,aom]
  by_cases hy:y.toNat<tops.length
  ·rw[aox hy]
  ·rw[aoK (by omega),aoz (l:=tops) (by omega)]
   by_cases h2:y.toNat - tops.length=0
   ·rw[h2];rfl
   ·rw[aoz (by simp;omega)]
 ·rfl
end Go.Proofs.YtjlnnljohemifaaGreat

namespace Go.Proofs.YtjlnnljohemifaaGreat
open Go Go.Vc
structure Lk where
 a:Int
 b:Int
 u:Int
def RG(y:Lk):List Value:=[i64 y.a,i64 y.b,i64 y.u]
def aN(L:List Lk):List Value:=L.flatMap RG
theorem iI(L:List Lk):(aN L).length=L.length*3:=by
 induction L with
 |nil=>rfl
 |cons c r ih=>simp only[aN,apV,aor,RG,aoD,apl]at*;omega
def Lk.pD(y:Lk)(c:Bool):Int:=if c then y.b else y.a
def Lk.fQ(y:Lk)(c:Bool)(v:Int):Lk:=if c then⟨y.a,v,y.u⟩else⟨v,y.b,y.u⟩
theorem Lk.T4(y:Lk)(c d:Bool)(v:Int):(y.fQ c v).pD d=if d=c then v else y.pD d:=by cases c<;>cases d<;>rfl
theorem Lk.aaL(y:Lk)(c:Bool)(v:Int):(y.fQ c v).u=y.u:=by cases c<;>rfl
theorem OP{L:List Lk}{i:Nat}{y:Lk}(hi:L[i]? =some y):(aN L)[i*3]? =some (i64 y.a)∧(aN L)[i*3+1]? =some (i64 y.b)∧(aN L)[i*3+2]? =some (i64 y.u):=by
 induction L generalizing i with
 |nil=>simp at hi
 |cons a r ih=>
  have e:aN (a::r)=i64 a.a::i64 a.b::i64 a.u::aN r:=rfl
  rw[e]
  cases i with
  |zero=>simp at hi;subst hi;exact⟨rfl,rfl,rfl⟩
  |succ i=>
   have:=ih (by simpa using hi)
   rw[show(i+1)*3=i*3+3 by omega]
   exact this
theorem WF{L:List Lk}{i:Nat}{y:Lk}(hi:L[i]? =some y)(c:Bool):(aN L)[i*3+c.toNat]? =some (i64 (y.pD c)):=by
 obtain⟨h1,h2,h3⟩:=OP hi
 cases c
 ·exact h1
 ·exact h2
theorem vF{L:List Lk}{i:Nat}{y:Lk}(hi:L[i]? =some y)(c:Bool)(v:Int):(aN L).set (i*3+c.toNat) (i64 v)=aN (L.set i (y.fQ c v)):=by
 induction L generalizing i with
 |nil=>simp at hi
 |cons a r ih=>
  have e:aN (a::r)=i64 a.a::i64 a.b::i64 a.u::aN r:=rfl
  cases i with
  |zero=>
   simp at hi;subst hi
   cases c<;>rfl
  |succ i=>
   have e2:aN ((a::r).set (i+1) (y.fQ c v))=i64 a.a::i64 a.b::i64 a.u::aN (r.set i (y.fQ c v)):=rfl
   rw[e,e2,show(i+1)*3+c.toNat=i*3+c.toNat+1+1+1 by omega]
   simp only[ao1]
   rw[ih (by simpa using hi)]
theorem FN{L:List Lk}{i:Nat}{y:Lk}(hi:L[i]? =some y)(v:Int):(aN L).set (i*3+2) (i64 v)=aN (L.set i ⟨y.a,y.b,v⟩):=by
 induction L generalizing i with
 |nil=>simp at hi
 |cons a r ih=>
  have e:aN (a::r)=i64 a.a::i64 a.b::i64 a.u::aN r:=rfl
  cases i with
  |zero=>simp at hi;subst hi;rfl
  |succ i=>
   have e2:aN ((a::r).set (i+1) ⟨y.a,y.b,v⟩)=i64 a.a::i64 a.b::i64 a.u::aN (r.set i ⟨y.a,y.b,v⟩):=rfl
   rw[e,e2,show(i+1)*3+2=i*3+2+1+1+1 by omega]
   simp only[ao1]
   rw[ih (by simpa using hi)]
def bc(L:List Lk)(x:Int)(c:Bool):Int:=if 0≤x then(match L[x.toNat]? with|some y=>y.pD c|none=> -1)else -1
def bq(L:List Lk)(x:Int):Int:=if 0≤x then(match L[x.toNat]? with|some y=>y.u|none=> -1)else -1
theorem oS{L:List Lk}{x:Int}{y:Lk}(h0:0≤x)(h:L[x.toNat]? =some y)(c:Bool):bc L x c=y.pD c:=by unfold bc;rw[if_pos h0,h]
theorem uJ{L:List Lk}{x:Int}{y:Lk}(h0:0≤x)(h:L[x.toNat]? =some y):bq L x=y.u:=by unfold bq;rw[if_pos h0,h]
theorem RH{L:List Lk}{x:Int}(h:¬ (0≤x∧x<L.length))(c:Bool):bc L x c= -1:=by
 unfold bc
 split
 ·rw[aoz (by omega)]
 ·rfl
theorem Nk{L:List Lk}{x:Int}(h:¬ (0≤x∧x<L.length)):bq L x= -1:=by
 unfold bq
 split
 ·rw[aoz (by omega)]
 ·rfl
theorem rW{L:List Lk}{p:Int}{y:Lk}(h0:0≤p)(h:L[p.toNat]? =some y)(c:Bool)(v:Int):bc (L.set p.toNat (y.fQ c v))=ez (bc L) p c v:=by
 have aO:=(aoj.1 h).1
 funext z d
 unfold ez
 by_cases hz:z=p
 ·subst hz
  rw[oS h0 (aop aO),Lk.T4,oS h0 h]
  by_cases hd:d=c<;>simp[hd]
 ·rw[if_neg (fun h=>hz h.1)]
  unfold bc
  split
  ·rw[aoo (by omega)]
  ·rfl
theorem rX{L:List Lk}{p:Int}{y:Lk}(h0:0≤p)(h:L[p.toNat]? =some y)(c:Bool)(v:Int):bq (L.set p.toNat (y.fQ c v))=bq L:=by
 have aO:=(aoj.1 h).1
 funext z
 by_cases hz:z=p
 ·subst hz
  rw[uJ h0 (aop aO),Lk.aaL,uJ h0 h]
 ·unfold bq
  split
  ·rw[aoo (by omega)]
  ·rfl
theorem CN{L:List Lk}{p:Int}{y:Lk}(h0:0≤p)(h:L[p.toNat]? =some y)(v:Int):bc (L.set p.toNat ⟨y.a,y.b,v⟩)=bc L:=by
 have aO:=(aoj.1 h).1
 funext z d
 by_cases hz:z=p
 ·subst hz
  rw[oS h0 (aop aO),oS h0 h]
  rfl
 ·unfold bc
  split
  ·rw[aoo (by omega)]
  ·rfl
theorem CO{L:List Lk}{p:Int}{y:Lk}(h0:0≤p)(h:L[p.toNat]? =some y)(v:Int):bq (L.set p.toNat ⟨y.a,y.b,v⟩)=aH (bq L) p v:=by
 have aO:=(aoj.1 h).1
 funext z
 unfold aH
 by_cases hz:z=p
 ·subst hz
  rw[uJ h0 (aop aO),if_pos rfl]
 ·rw[if_neg hz]
  unfold bq
  split
  ·rw[aoo (by omega)]
  ·rfl
structure bP(H:Hp)(t tl:Nat)(L:List Lk):Prop where
 own:H.own t=some [.slice (some ⟨tl,0,none⟩) L.length L.length]
 k9:H.own tl=some (aN L)
 ne:t≠tl
theorem bP.ext{S:Nat→Prop}{H H':Hp}{t tl:Nat}{L:List Lk}(h:bP H t tl L)(e:ag S H H')(h1:¬S t)(h2:¬S tl):bP H' t tl L:=⟨e.own h.own h1,e.own h.k9 h2,h.ne⟩
theorem bP.fresh{H H':Hp}{t tl:Nat}{L:List Lk}(h:bP H t tl L)(e:ah H H'):bP H' t tl L:=h.ext e (fun h=>h) (fun h=>h)
theorem bP.put{H:Hp}{t tl:Nat}{L L':List Lk}(h:bP H t tl L)(hl:L'.length=L.length):bP (H.wr tl (aN L')) t tl L':=
 ⟨by rw[j0 h.ne.symm,hl];exact h.own,ai h.k9,h.ne⟩
section
variable {H : Hp} {t tl : Nat} {L : List Lk}
theorem fR(h:bP H t tl L)(x:Int):af Tryz.prog Av [ptr t,i64 x] H fun v H'=>aw (v= .bool (decide (0≤x∧x<L.length))∧H'=H):=by
 refine bv AR ?_
 refine vs ?_
 refine am.dec (fun g=>?_) (fun g=>?_)<;>refine v1 (ae h.own) ?_
 ·exact⟨aoE Value.bool (by rw[decide_eq_decide];omega),rfl⟩
 ·exact⟨aoE Value.bool (aoJ (by omega)).symm,rfl⟩
theorem lJ(H:Hp)(c:Bool):af Tryz.prog Jn [.bool c] H fun v H'=>aw (v=i64 c.toNat∧H'=H):=by
 refine bv Ju ?_
 refine vs ?_
 cases c<;>refine vs ?_<;>exact⟨rfl,rfl⟩
def gC(x:Int):Value:=if x= -1 then .tuple [i64 0,.bool false].toArray else .tuple [i64 x,.bool true].toArray
theorem lK(H:Hp)(x:Int):af Tryz.prog Jo [i64 x] H fun v H'=>aw (v=gC x∧H'=H):=by
 refine bv Jv ?_
 refine vs ?_
 unfold gC
 refine am.dec (fun g=>?_) (fun g=>?_)<;>refine vs ?_
 ·rw[if_pos g];exact⟨rfl,rfl⟩
 ·rw[if_neg g];exact⟨rfl,rfl⟩
theorem jp(h:bP H t tl L)(x:Int)(c:Bool):af Tryz.prog Au [ptr t,i64 x,.bool c] H fun v H'=>aw (v=i64 (bc L x c)∧H'=H):=by
 refine bv AQ ?_
 refine vs ?_
 refine(fR h x).mono ?_
 rintro _ H' ⟨rfl,e⟩
 obtain rfl:=e.symm
 refine vs ?_
 refine am.dec (fun g=>?_) (fun g=>?_)<;>refine vs ?_
 ·obtain⟨y,hy⟩:∃y,L[x.toNat]? =some y:=⟨_,aoh (by omega)⟩
  have hk:=WF hy c
  have hc:c.toNat<2:=by cases c<;>decide
  refine v1 (ae h.own) ?_
  refine⟨_,lJ H c,?_⟩
  refine⟨⟨by omega,by omega⟩,?_⟩
  refine v4 aoi Nat.add_zero aol Int.toNat_natCast ?_
  refine⟨⟨by omega,by omega⟩,?_⟩
  refine v6 (ae h.k9) aoi Nat.add_zero aol Int.toNat_natCast hk ?_
  rw[oS g.1 hy]
  exact⟨rfl,rfl⟩
 ·rw[RH g]
  exact⟨rfl,rfl⟩
theorem j8(h:bP H t tl L)(x:Int):af Tryz.prog wI [ptr t,i64 x] H fun v H'=>aw (v=i64 (bq L x)∧H'=H):=by
 refine bv xn ?_
 refine vs ?_
 refine(fR h x).mono ?_
 rintro _ H' ⟨rfl,e⟩
 obtain rfl:=e.symm
 refine vs ?_
 refine am.dec (fun g=>?_) (fun g=>?_)<;>refine vs ?_
 ·obtain⟨y,hy⟩:∃y,L[x.toNat]? =some y:=⟨_,aoh (by omega)⟩
  have hk:=(OP hy).2.2
  refine v1 (ae h.own) ?_
  refine⟨by omega,?_⟩
  refine v3 (ae h.k9) aoi hk ?_
  rw[uJ g.1 hy]
  exact⟨rfl,rfl⟩
 ·rw[Nk g]
  exact⟨rfl,rfl⟩
theorem lL(h:bP H t tl L)(x:Int):af Tryz.prog yO [ptr t,i64 x] H fun v H'=>aw (v=gC (bc L x false)∧H'=H):=by
 refine bv zo ?_
 refine vs ?_
 refine(jp h x false).mono ?_
 rintro _ H' ⟨rfl,e⟩
 obtain rfl:=e.symm
 refine vs ?_
 refine(lK H (bc L x false)).mono ?_
 rintro _ H' ⟨rfl,e⟩
 obtain rfl:=e.symm
 unfold gC
 by_cases g:bc L x false= -1
 ·simp only[if_pos g]
  refine vs ?_
  exact⟨(if_pos g).symm,rfl⟩
 ·simp only[if_neg g]
  refine vs ?_
  exact⟨(if_neg g).symm,rfl⟩
theorem cz(h:bP H t tl L)(x:Int):af Tryz.prog wH [ptr t,i64 x] H fun v H'=>aw (v=gC (bc L x true)∧H'=H):=by
 refine bv xm ?_
 refine vs ?_
 refine(jp h x true).mono ?_
 rintro _ H' ⟨rfl,e⟩
 obtain rfl:=e.symm
 refine vs ?_
 refine(lK H (bc L x true)).mono ?_
 rintro _ H' ⟨rfl,e⟩
 obtain rfl:=e.symm
 unfold gC
 by_cases g:bc L x true= -1
 ·simp only[if_pos g]
  refine vs ?_
  exact⟨(if_pos g).symm,rfl⟩
 ·simp only[if_neg g]
  refine vs ?_
  exact⟨(if_neg g).symm,rfl⟩
theorem oT(h:bP H t tl L)(x:Int):af Tryz.prog Ck [ptr t,i64 x] H fun v H'=>aw (v=gC (bq L x)∧H'=H):=by
 refine bv Cx ?_
 refine vs ?_
 refine(j8 h x).mono ?_
 rintro _ H' ⟨rfl,e⟩
 obtain rfl:=e.symm
 refine vs ?_
 refine(lK H (bq L x)).mono ?_
 rintro _ H' ⟨rfl,e⟩
 obtain rfl:=e.symm
 unfold gC
 by_cases g:bq L x= -1
 ·simp only[if_pos g]
  refine vs ?_
  exact⟨(if_pos g).symm,rfl⟩
 ·simp only[if_neg g]
  refine vs ?_
  exact⟨(if_neg g).symm,rfl⟩
theorem eY(h:bP H t tl L){p x:Int}{c:Bool}(hp:0≤p∧p<L.length)(hx:0≤x∧x<L.length)(dH:p≠x)(hu:bq L x= -1)(hk:bc L p c= -1):
  af Tryz.prog yP [ptr t,i64 p,i64 x,.bool c] H fun v H'=>aw (v= .bool true∧∃L',bP H' t tl L'∧L'.length=L.length∧bc L'=tV (bc L) p x c∧bq L'=aH (bq L) x p∧ag (fun z=>z=tl) H H'):=by
 refine bv zp ?_
 refine vs ?_
 refine(fR h p).mono ?_
 rintro _ H' ⟨rfl,e⟩
 obtain rfl:=e.symm
 rw[aow hp]
 refine vs ?_
 refine(fR h x).mono ?_
 rintro _ H' ⟨rfl,e⟩
 obtain rfl:=e.symm
 rw[aow hx]
 refine vs ?_
 refine am.dec (fun g=>absurd g dH) (fun _=>?_)
 refine vs ?_
 refine(j8 h x).mono ?_
 rintro _ H' ⟨rfl,e⟩
 obtain rfl:=e.symm
 rw[hu]
 refine v1 aoZ ?_
 refine(jp h p c).mono ?_
 rintro _ H' ⟨rfl,e⟩
 obtain rfl:=e.symm
 rw[hk]
 refine v1 aoZ ?_
 obtain⟨y,hy⟩:∃y,L[p.toNat]? =some y:=⟨_,aoh (by omega)⟩
 have hc:c.toNat<2:=by cases c<;>decide
 have oQ:=iI L
 refine v1 (ae h.own) ?_
 refine⟨_,lJ H c,?_⟩
 refine⟨⟨by omega,by omega⟩,?_⟩
 refine v4 aoi Nat.add_zero aol Int.toNat_natCast ?_
 refine⟨⟨by omega,by omega⟩,?_⟩
 refine v5 h.k9 aoi Nat.add_zero aol Int.toNat_natCast ?_
 refine⟨by omega,?_⟩
 have h1:=h.put (L':=L.set p.toNat (y.fQ c x)) (by rw[aok])
 have e1:ag (fun z=>z=tl) H (H.wr tl (aN (L.set p.toNat (y.fQ c x)))):=(ag.refl (fun z=>z=tl) _).wr (fun _=>rfl) _
 rw[←vF hy c x]at h1 e1
 have k1:=rW hp.1 hy c x
 have u1:=rX hp.1 hy c x
 have l1:(L.set p.toNat (y.fQ c x)).length=L.length:=aok ..
 generalize L.set p.toNat (y.fQ c x)=L1 at*
 refine vs ?_
 generalize H.wr tl ((aN L).set (p.toNat*3+c.toNat) (i64 x))=H1 at*
 obtain⟨y1,MQ⟩:∃y,L1[x.toNat]? =some y:=⟨_,aoh (by omega)⟩
 have afr:=iI L1
 refine v1 (ae h1.own) ?_
 refine⟨by omega,?_⟩
 refine v2 h1.k9 aoi ?_
 refine⟨by omega,?_⟩
 have h2:=h1.put (L':=L1.set x.toNat ⟨y1.a,y1.b,p⟩) (by rw[aok])
 have e2:ag (fun z=>z=tl) H1 (H1.wr tl (aN (L1.set x.toNat ⟨y1.a,y1.b,p⟩))):=(ag.refl (fun z=>z=tl) _).wr (fun _=>rfl) _
 rw[←FN MQ p]at h2 e2
 refine vs ?_
 exact⟨rfl,_,h2,by rw[aok,l1],by rw[CN hx.1 MQ,k1];rfl,by rw[CO hx.1 MQ,u1],e1.trans e2⟩
theorem cH(h:bP H t tl L){x:Int}(hv:bq L x≠ -1→0≤bq L x∧bq L x<L.length):
  af Tryz.prog As [ptr t,i64 x] H fun v H'=>aw (v=gC (bq L x)∧∃L',bP H' t tl L'∧L'.length=L.length∧bc L'=iO (bc L) (bq L) x∧bq L'=c9 (bq L) x∧ag (fun z=>z=tl) H H'):=by
 refine bv AP ?_
 refine vs ?_
 refine(j8 h x).mono ?_
 rintro _ H' ⟨rfl,e⟩
 obtain rfl:=e.symm
 refine vs ?_
 have oQ:=iI L
 refine am.dec (fun g=>?_) (fun g=>?_)<;>refine vs ?_
 ·refine⟨by unfold gC;rw[if_pos g];rfl,L,h,rfl,by unfold iO;rw[if_pos g],?_,ag.refl _ _⟩
  funext z
  unfold c9 aH
  split
  ·rename_i hz;rw[hz,g]
  ·rfl
 have hx:0≤x∧x<L.length:=aoI fun hn=>g (Nk hn)
 obtain⟨p0,p1⟩:=hv g
 generalize hpe:bq L x=p at*
 obtain⟨y,hy⟩:∃y,L[p.toNat]? =some y:=⟨_,aoh (by omega)⟩
 have hc:∀c:Bool,c.toNat<2:=fun c=>by cases c<;>decide
 refine v1 (ae h.own) ?_
 refine⟨_,jp h p true,?_⟩
 refine vs ?_
 refine⟨_,lJ H (decide (bc L p true=x)),?_⟩
 have WG:decide (bc L p true=x)=(bc L p true==x):=by by_cases e:bc L p true=x<;>simp[e]
 rw[WG]
 have GZ:=hc (bc L p true==x)
 generalize hce:(bc L p true==x)=c at*
 refine⟨⟨by omega,by omega⟩,?_⟩
 refine v4 aoi Nat.add_zero aol Int.toNat_natCast ?_
 refine⟨⟨by omega,by omega⟩,?_⟩
 refine v5 h.k9 aoi Nat.add_zero aol Int.toNat_natCast ?_
 refine⟨by omega,?_⟩
 have h1:=h.put (L':=L.set p.toNat (y.fQ c (-1))) (by rw[aok])
 have e1:ag (fun z=>z=tl) H (H.wr tl (aN (L.set p.toNat (y.fQ c (-1))))):=(ag.refl (fun z=>z=tl) _).wr (fun _=>rfl) _
 rw[←vF hy c (-1)]at h1 e1
 have k1:=rW p0 hy c (-1)
 have u1:=rX p0 hy c (-1)
 have l1:(L.set p.toNat (y.fQ c (-1))).length=L.length:=aok ..
 generalize L.set p.toNat (y.fQ c (-1))=L1 at*
 refine vs ?_
 generalize H.wr tl ((aN L).set (p.toNat*3+c.toNat) (i64 (-1)))=H1 at*
 obtain⟨y1,MQ⟩:∃y,L1[x.toNat]? =some y:=⟨_,aoh (by omega)⟩
 have afr:=iI L1
 refine v1 (ae h1.own) ?_
 refine⟨by omega,?_⟩
 refine v2 h1.k9 aoi ?_
 refine⟨by omega,?_⟩
 have h2:=h1.put (L':=L1.set x.toNat ⟨y1.a,y1.b, -1⟩) (by rw[aok])
 have e2:ag (fun z=>z=tl) H1 (H1.wr tl (aN (L1.set x.toNat ⟨y1.a,y1.b, -1⟩))):=(ag.refl (fun z=>z=tl) _).wr (fun _=>rfl) _
 rw[←FN MQ (-1)]at h2 e2
 refine vs ?_
 refine⟨by unfold gC;rw[if_neg g];rfl,_,h2,by rw[aok,l1],?_,by rw[CO hx.1 MQ,u1];rfl,e1.trans e2⟩
 rw[CN hx.1 MQ,k1]
 unfold iO
 rw[hpe,if_neg g,hce]
theorem RI{L:List Lk}{p:Int}{y:Lk}(h0:0≤p)(h:L[p.toNat]? =some y):bc (L.set p.toNat ⟨y.b,y.a,y.u⟩)=mS (bc L) p∧bq (L.set p.toNat ⟨y.b,y.a,y.u⟩)=bq L:=by
 have aO:=(aoj.1 h).1
 constructor
 ·funext z d
  unfold mS
  by_cases hz:z=p
  ·subst hz
   rw[oS h0 (aop aO),if_pos rfl,oS h0 h]
   cases d<;>rfl
  ·rw[if_neg hz]
   unfold bc
   split
   ·rw[aoo (by omega)]
   ·rfl
 ·funext z
  by_cases hz:z=p
  ·subst hz
   rw[uJ h0 (aop aO),uJ h0 h]
  ·unfold bq
   split
   ·rw[aoo (by omega)]
   ·rfl
theorem Nl{L:List Lk}{i:Nat}{y:Lk}(hi:L[i]? =some y):((aN L).set (i*3) (i64 y.b)).set (i*3+1) (i64 y.a)=aN (L.set i ⟨y.b,y.a,y.u⟩):=by
 induction L generalizing i with
 |nil=>simp at hi
 |cons a r ih=>
  have e:aN (a::r)=i64 a.a::i64 a.b::i64 a.u::aN r:=rfl
  cases i with
  |zero=>simp at hi;subst hi;rfl
  |succ i=>
   have e2:aN ((a::r).set (i+1) ⟨y.b,y.a,y.u⟩)=i64 a.a::i64 a.b::i64 a.u::aN (r.set i ⟨y.b,y.a,y.u⟩):=rfl
   rw[e,e2,show(i+1)*3=i*3+1+1+1 by omega,show i*3+1+1+1+1=i*3+1+1+1+1 by rfl]
   simp only[ao1]
   rw[ih (by simpa using hi)]
theorem lM(h:bP H t tl L){p:Int}(hp:0≤p∧p<L.length):
  af Tryz.prog yQ [ptr t,i64 p] H fun v H'=>aw (v= .bool true∧∃L',bP H' t tl L'∧L'.length=L.length∧bc L'=mS (bc L) p∧bq L'=bq L∧ag (fun z=>z=tl) H H'):=by
 refine bv zq ?_
 refine vs ?_
 refine(fR h p).mono ?_
 rintro _ H' ⟨rfl,e⟩
 obtain rfl:=e.symm
 rw[aow hp]
 obtain⟨y,hy⟩:∃y,L[p.toNat]? =some y:=⟨_,aoh (by omega)⟩
 have oQ:=iI L
 obtain⟨a1,a2,a3⟩:=OP hy
 refine v1 (ae h.own) ?_
 refine⟨by omega,?_⟩
 refine vs ?_
 have n1:Int.toNat 1=1:=rfl
 refine⟨⟨by omega,by omega⟩,?_⟩
 refine v8 (ae h.k9) aoi Nat.add_zero aol Int.toNat_zero n1 a1 a2 ?_
 refine⟨⟨by omega,by omega⟩,?_⟩
 refine v8 (ae h.k9) aoi Nat.add_zero aol Int.toNat_zero n1 a1 a2 ?_
 refine⟨⟨by omega,by omega⟩,?_⟩
 refine v6 h.k9 aoi Nat.add_zero aol Int.toNat_zero n1 ?_
 refine⟨by omega,?_⟩
 refine vs ?_
 refine⟨⟨by omega,by omega⟩,?_⟩
 have o1:(H.wr tl ((aN L).set (p.toNat*3) (i64 y.b))).own tl=_:=ai h.k9
 have e1:ag (fun z=>z=tl) H (H.wr tl ((aN L).set (p.toNat*3) (i64 y.b))):=(ag.refl (fun z=>z=tl) _).wr (fun _=>rfl) _
 have w1:=e1.own h.own h.ne
 generalize H.wr tl ((aN L).set (p.toNat*3) (i64 y.b))=H1 at*
 refine v6 o1 aoi Nat.add_zero aol Int.toNat_zero n1 ?_
 refine⟨by rw[aok];omega,?_⟩
 have e2:ag (fun z=>z=tl) H1 (H1.wr tl (((aN L).set (p.toNat*3) (i64 y.b)).set (p.toNat*3+1) (i64 y.a))):=(ag.refl (fun z=>z=tl) _).wr (fun _=>rfl) _
 have o2:(H1.wr tl (((aN L).set (p.toNat*3) (i64 y.b)).set (p.toNat*3+1) (i64 y.a))).own tl=_:=ai o1
 refine vs ?_
 obtain⟨k1,k2⟩:=RI hp.1 hy
 refine⟨rfl,L.set p.toNat ⟨y.b,y.a,y.u⟩,⟨by rw[aok];exact e2.own w1 h.ne,by rw[←Nl hy];exact o2,h.ne⟩,aok ..,k1,k2,e1.trans e2⟩
end
theorem OQ(n:Nat):cE [Value.int .i64 0,Value.int .i64 0,Value.int .i64 0] n=aN (List.replicate n ⟨0,0,0⟩):=by
 unfold cE
 induction n with
 |zero=>rfl
 |succ n ih=>rw[aoY,apc,ih,aoY];rfl
theorem IJ{L:List Lk}{i:Nat}(hi:i<L.length)(y:Lk):bk (aN L) (i*3) [i64 y.a,i64 y.b,i64 y.u]=aN (L.set i y):=by
 simp only[bk]
 induction L generalizing i with
 |nil=>simp at hi
 |cons a r ih=>
  have e:aN (a::r)=i64 a.a::i64 a.b::i64 a.u::aN r:=rfl
  cases i with
  |zero=>rfl
  |succ i=>
   have e2:aN ((a::r).set (i+1) y)=i64 a.a::i64 a.b::i64 a.u::aN (r.set i y):=rfl
   rw[e,e2,show(i+1)*3=i*3+1+1+1 by omega]
   simp only[ao1]
   rw[ih (by simpa using hi)]
def jA:Lk:=⟨-1, -1, -1⟩
theorem uK(H:Hp){n:Int}(hn:0≤n∧n≤65536):af Tryz.prog KR [i64 n] H fun v H'=>aw (∃t tl,v= .tuple [ptr t,i64 0].toArray∧bP H' t tl (List.replicate n.toNat jA)∧ah H H'∧H.size≤t∧H.size≤tl):=by
 refine bv K4 ?_
 refine vs ?_
 refine am.dec (fun g=>absurd g (by omega)) (fun _=>?_)
 refine vs ?_
 refine am.dec (fun g=>absurd g (by omega)) (fun _=>?_)
 refine vs ?_
 refine⟨⟨by omega,by omega,by omega,by omega⟩,?_⟩
 refine vs ?_
 rw[OQ]
 have f0:ah H ((H.new 322 (aN (List.replicate n.toNat ⟨0,0,0⟩))).new 320 [.slice (some ⟨H.size,0,none⟩) n.toNat n.toNat]):=((ag.refl _ _).new _ _).new _ _
 have t0:bP ((H.new 322 (aN (List.replicate n.toNat ⟨0,0,0⟩))).new 320 [.slice (some ⟨H.size,0,none⟩) n.toNat n.toNat]) (H.size+1) H.size (List.replicate n.toNat ⟨0,0,0⟩):=by
  refine⟨?_,?_,by omega⟩
  ·rw[ao3]
   exact aU (by simp only[ap])
  ·rw[cu (by simp only[ap];omega),az]
 generalize (H.new 322 (aN (List.replicate n.toNat ⟨0,0,0⟩))).new 320 [.slice (some ⟨H.size,0,none⟩) n.toNat n.toNat]=H1 at*
 have ow:=t0.own
 rw[ao3]at ow
 refine aX.intro (fun m env H'=>∃j:Nat,m=n.toNat - j∧j≤n.toNat∧ag (fun z=>z=H.size) H1 H'∧bP H' (H.size+1) H.size (List.replicate j jA++List.replicate (n.toNat - j) ⟨0,0,0⟩)∧
  env=[(4,ptr (H.size+1)),(20,i64 (n.toNat:Nat)),(21,i64 j)]) n.toNat ⟨0,by omega,by omega,ag.refl _ _,t0,rfl⟩ ?_
 rintro m env H2 ⟨j,rfl,hj,e2,t2,rfl⟩
 have oQ:=iI (List.replicate j jA++List.replicate (n.toNat - j) (⟨0,0,0⟩:Lk))
 have oJ:(List.replicate j jA++List.replicate (n.toNat - j) (⟨0,0,0⟩:Lk)).length=n.toNat:=by simp;omega
 have o2:=t2.own
 rw[oJ]at oQ o2
 refine vs ?_
 refine am.dec (fun aO=>?_) (fun aO=>?_)<;>refine vs ?_
 ·first|refine v1 (ae o2) ?_|skip
  refine⟨by omega,?_⟩
  refine v3 t2.k9 aoi Int.toNat_natCast ?_
  refine⟨by omega,?_⟩
  have e3:=IJ (L:=List.replicate j jA++List.replicate (n.toNat - j) (⟨0,0,0⟩:Lk)) (i:=j) (by omega) jA
  have e4:(List.replicate j jA++List.replicate (n.toNat - j) (⟨0,0,0⟩:Lk)).set j jA=List.replicate (j+1) jA++List.replicate (n.toNat - (j+1)) (⟨0,0,0⟩:Lk):=by
   rw[aqj _ _ (by simp),ao3,apw,show n.toNat - j=(n.toNat - (j+1))+1 by omega,aoY,apH,aqn]
   simp
  rw[e4]at e3
  have t3:=t2.put (L':=List.replicate (j+1) jA++List.replicate (n.toNat - (j+1)) (⟨0,0,0⟩:Lk)) (by simp;omega)
  have e5:ag (fun z=>z=H.size) H1 (H2.wr H.size (aN (List.replicate (j+1) jA++List.replicate (n.toNat - (j+1)) (⟨0,0,0⟩:Lk)))):=e2.wr (fun _=>rfl) _
  rw[show bk (aN (List.replicate j jA++List.replicate (n.toNat - j) (⟨0,0,0⟩:Lk))) (j*3) (aI (Value.agg #[Value.int .i64 (-1),Value.int .i64 (-1),Value.int .i64 (-1)]))=_ from e3]
  refine vs ?_
  rw[wrap64 (n:=(j:Int)+1) (by omega) (by omega)]
  exact⟨n.toNat - (j+1),by omega,j+1,rfl,by omega,e5,t3,rfl⟩
 ·have fS:j=n.toNat:=by omega
  subst fS
  rw[apw,aqo,apa]at t2
  exact⟨_,_,rfl,t2,f0.then e2 (fun z hz=>by omega),by omega,by omega⟩
end Go.Proofs.YtjlnnljohemifaaGreat

namespace Go.Proofs.YtjlnnljohemifaaGreat
open Go Go.Vc
structure LB where
 n:Nat
 c:Nat
 t:Nat
 tl:Nat
 rk:Nat
 tp:Nat
structure c7(H:Hp)(B:LB)(C:Nat→Prop)(w:Nw)(L:List Lk)(rs tops:List Int):Prop where
 own:∃tv,H.own B.n=some [ptr B.c,ptr B.t,.slice (some ⟨B.rk,0,none⟩) rs.length rs.length,tv]∧Sl H 1 tv tops.length (tops.map i64) (some B.tp)
 cells:CQ H B.c C w
 bY:bP H B.t B.tl L
 CP:H.own B.rk=some (rs.map i64)
 len:L.length=w.cs.length∧rs.length=w.cs.length
 ml:(B.n≠B.t∧B.n≠B.tl∧B.n≠B.rk∧B.n≠B.tp)∧(B.t≠B.tl∧B.t≠B.rk∧B.t≠B.tp)∧(B.tl≠B.rk∧B.tl≠B.tp)∧B.rk≠B.tp
 out:¬C B.n∧¬C B.t∧¬C B.tl∧¬C B.rk∧¬C B.tp
def LB.S(B:LB)(C:Nat→Prop)(z:Nat):Prop:=C z∨z=B.n∨z=B.t∨z=B.tl∨z=B.rk∨z=B.tp
section
variable {H H' : Hp} {B : LB} {C T : Nat → Prop} {w w' : Nw} {L L' : List Lk} {rs tops : List Int}
theorem c7.slt(h:c7 H B C w L rs tops):∀z,B.S C z→z<H.size:=by
 obtain⟨tv,h1,h2⟩:=h.own
 rintro z (hz|rfl|rfl|rfl|rfl|rfl)
 ·exact h.cells.slt z hz
 ·exact aB h1
 ·exact aB h.bY.own
 ·exact aB h.bY.k9
 ·exact aB h.CP
 ·exact h2.lt
theorem c7.ext(h:c7 H B C w L rs tops)(e:ag T H H')(hd:∀z,B.S C z→¬T z):c7 H' B C w L rs tops:=by
 obtain⟨tv,h1,h2⟩:=h.own
 exact⟨⟨tv,e.own h1 (hd _ (.inr (.inl rfl))),h2.ext e (fun b hb=>by injection hb with hb;exact hb▸hd _ (.inr (.inr (.inr (.inr (.inr rfl))))))⟩,h.cells.ext e (fun x hx=>hd x (.inl hx)),
  h.bY.ext e (hd _ (.inr (.inr (.inl rfl)))) (hd _ (.inr (.inr (.inr (.inl rfl))))),e.own h.CP (hd _ (.inr (.inr (.inr (.inr (.inl rfl)))))),h.len,h.ml,h.out⟩
theorem c7.fresh(h:c7 H B C w L rs tops)(e:ah H H'):c7 H' B C w L rs tops:=h.ext e fun _ _ h=>h
theorem c7.aJ(h:c7 H B C w L rs tops)(c1:CQ H' B.c C w')(e:ag C H H')(hl:w'.cs.length=w.cs.length):c7 H' B C w' L rs tops:=by
 obtain⟨tv,h1,h2⟩:=h.own
 obtain⟨o1,o2,o3,o4,o5⟩:=h.out
 exact⟨⟨tv,e.own h1 o1,h2.ext e (fun b hb=>by injection hb with hb;exact hb▸o5)⟩,c1,h.bY.ext e o2 o3,e.own h.CP o4,by rw[hl];exact h.len,h.ml,h.out⟩
theorem c7.dF(h:c7 H B C w L rs tops)(t1:bP H' B.t B.tl L')(e:ag (fun z=>z=B.tl) H H')(hl:L'.length=L.length):c7 H' B C w L' rs tops:=by
 obtain⟨tv,h1,h2⟩:=h.own
 obtain⟨o1,o2,o3,o4,o5⟩:=h.out
 obtain⟨⟨d1,d2,d3,d4⟩,⟨d5,d6,d7⟩,⟨d8,d9⟩,d10⟩:=h.ml
 exact⟨⟨tv,e.own h1 d2,h2.ext e (fun b hb=>by injection hb with hb;omega)⟩,h.cells.ext e (fun x hx hz=>o3 (hz▸hx)),t1,e.own h.CP (by omega),by rw[hl];exact h.len,h.ml,h.out⟩
theorem c7.Nn(h:c7 H B C w L rs tops)(i:Nat)(v:Int):c7 (H.wr B.rk ((rs.map i64).set i (i64 v))) B C w L (rs.set i v) tops∧ag (fun z=>z=B.rk) H (H.wr B.rk ((rs.map i64).set i (i64 v))):=by
 obtain⟨tv,h1,h2⟩:=h.own
 obtain⟨o1,o2,o3,o4,o5⟩:=h.out
 obtain⟨⟨d1,d2,d3,d4⟩,⟨d5,d6,d7⟩,⟨d8,d9⟩,d10⟩:=h.ml
 have e:ag (fun z=>z=B.rk) H (H.wr B.rk ((rs.map i64).set i (i64 v))):=(ag.refl (fun z=>z=B.rk) _).wr (fun _=>rfl) _
 refine⟨⟨⟨tv,by rw[aok];exact e.own h1 d3,h2.ext e (fun b hb=>by injection hb with hb;omega)⟩,h.cells.ext e (fun x hx hz=>o4 (hz▸hx)),h.bY.ext e (by omega) (by omega),?_,by rw[aok];exact h.len,h.ml,h.out⟩,e⟩
 rw[ao4]
 exact ai h.CP
theorem c7.fT(h:c7 H B C w L rs tops):∃c l,H.own B.n=some [ptr B.c,ptr B.t,.slice (some ⟨B.rk,0,none⟩) rs.length rs.length,.slice (some ⟨B.tp,0,none⟩) tops.length c]∧H.own B.tp=some l∧tops.length≤c∧c≤l.length∧l.take tops.length=tops.map i64:=by
 obtain⟨tv,h1,_,l,c,rfl,h3,h4,h5,h6⟩:=h.own
 rw[aol]at h5 h6
 exact⟨c,l,h1,h3,h4,h5,h6⟩
theorem c7.eR(h:c7 H B C w L rs tops){l:List Value}(hl:H.own B.tp=some l){i:Nat}{x:Int}(hx:tops[i]? =some x):l[i]? =some (i64 x):=by
 obtain⟨c,l',_,h2,_,_,h5⟩:=h.fT
 rw[hl]at h2
 injection h2 with h2
 subst h2
 have h7:(tops.map i64)[i]? =some (i64 x):=by rw[aoG,hx];rfl
 rw[←h5,aoV]at h7
 split at h7
 ·exact h7
 ·cases h7
theorem c7.ld(h:c7 H B C w L rs tops){l:List Value}(hl:H.own B.tp=some l)(i:Nat)(v:Int):c7 (H.wr B.tp (l.set i (i64 v))) B C w L rs (tops.set i v)∧ag (fun z=>z=B.tp) H (H.wr B.tp (l.set i (i64 v))):=by
 obtain⟨c,l',h1,h2,h3,h4,h5⟩:=h.fT
 rw[hl]at h2
 injection h2 with h2
 subst h2
 obtain⟨o1,o2,o3,o4,o5⟩:=h.out
 obtain⟨⟨d1,d2,d3,d4⟩,⟨d5,d6,d7⟩,⟨d8,d9⟩,d10⟩:=h.ml
 have e:ag (fun z=>z=B.tp) H (H.wr B.tp (l.set i (i64 v))):=(ag.refl (fun z=>z=B.tp) _).wr (fun _=>rfl) _
 refine⟨⟨⟨_,e.own h1 d4,?_⟩,h.cells.ext e (fun x hx hz=>o5 (hz▸hx)),h.bY.ext e (by omega) (by omega),e.own h.CP (by omega),h.len,h.ml,h.out⟩,e⟩
 refine⟨by simp,l.set i (i64 v),c,by rw[aok],ai hl,by rw[aok];exact h3,by rw[aok,aol];exact h4,?_⟩
 rw[aok,aol,vG,h5,ao4]
theorem cA(H:Hp)(x:Int):∀ (a:Int) (b:Bool),gC x= .tuple [i64 a,.bool b].toArray→af Tryz.prog Hj [i64 a,.bool b] H fun v H'=>aw (v=i64 x∧H'=H):=by
 intro a b he
 unfold gC at he
 refine bv HA ?_
 refine vs ?_
 have h2:∀ {p q:Int} {r s:Bool},Value.tuple [i64 p,Value.bool r].toArray=Value.tuple [i64 q,Value.bool s].toArray→p=q∧r=s:=fun h=>by
  have h3:=aoE Array.toList (Value.tuple.inj h)
  injection h3 with h4 h5
  injection h4 with _ h4
  injection h5 with h5 _
  injection h5 with h5
  exact⟨h4,h5⟩
 split at he
 ·rename_i hx
  obtain⟨rfl,rfl⟩:=h2 he
  refine vs ?_
  rw[hx]
  exact⟨rfl,rfl⟩
 ·obtain⟨rfl,rfl⟩:=h2 he
  refine vs ?_
  exact⟨rfl,rfl⟩
theorem cI(x:Int):∃ (a:Int) (b:Bool),gC x= .tuple [i64 a,.bool b].toArray:=by
 unfold gC
 split
 ·exact⟨_,_,rfl⟩
 ·exact⟨_,_,rfl⟩
def Y7(rs:List Int)(x:Int):Int:=if x= -1 then 0 else rs.getD x.toNat 0
theorem ep(h:c7 H B C w L rs tops){x:Int}(hx:x≠ -1→0≤x∧x<w.cs.length):af Tryz.prog tj [ptr B.n,i64 x] H fun v H'=>aw (v=i64 (Y7 rs x)∧H'=H):=by
 obtain⟨tv,h1,h2⟩:=h.own
 have hl:=h.len
 refine bv tI ?_
 refine vs ?_
 refine am.dec (fun g=>?_) (fun g=>?_)<;>refine vs ?_
 ·unfold Y7
  rw[if_pos g]
  exact⟨rfl,rfl⟩
 have hx:=hx g
 have hr:(rs.map i64)[x.toNat]? =some (i64 (Y7 rs x)):=by
  unfold Y7
  rw[if_neg g,aoG,aom,aoh (by omega)]
  rfl
 refine v1 (ae h1) ?_
 refine⟨⟨by omega,by omega⟩,?_⟩
 refine v4 (ae h.CP) aoi aol hr ?_
 exact⟨rfl,rfl⟩
theorem gL(h:c7 H B C w L rs tops){x:Int}(hx:0≤x∧x<w.cs.length)(hk:∀c,bc L x c≠ -1→0≤bc L x c∧bc L x c<w.cs.length):
  af Tryz.prog ti [ptr B.n,i64 x] H fun v H'=>aw (∃L' T5,c7 H' B C w L' T5 tops∧(bc L'=bc L∨bc L'=mS (bc L) x)∧bq L'=bq L∧ag (fun z=>z=B.tl∨z=B.rk) H H'):=by
 obtain⟨tv,h1,h2⟩:=h.own
 have hl:=h.len
 refine bv tH ?_
 refine v1 (ae h1) ?_
 obtain⟨a1,b1,e1⟩:=cI (bc L x false)
 obtain⟨a2,b2,e2⟩:=cI (bc L x true)
 refine⟨.tuple [i64 a1,.bool b1].toArray,(lL h.bY x).mono (by rintro v H' ⟨rfl,rfl⟩;exact⟨e1,rfl⟩),?_⟩
 refine vs ?_
 refine⟨_,cA H _ a1 b1 e1,?_⟩
 refine v1 (ae h1) ?_
 refine(cz h.bY x).mono ?_
 rintro _ H' ⟨rfl,e⟩
 obtain rfl:=e.symm
 rw[e2]
 refine vs ?_
 refine(cA H _ a2 b2 e2).mono ?_
 rintro _ H' ⟨rfl,e⟩
 obtain rfl:=e.symm
 refine vs ?_
 refine(ep h (hk false)).mono ?_
 rintro _ H' ⟨rfl,e⟩
 obtain rfl:=e.symm
 refine vs ?_
 refine(ep h (hk true)).mono ?_
 rintro _ H' ⟨rfl,e⟩
 obtain rfl:=e.symm
 refine vs ?_
 refine am.dec (fun g=>?_) (fun g=>?_)<;>refine vs ?_
 ·refine v1 (ae h1) ?_
  refine(lM h.bY (p:=x) (by omega)).mono ?_
  rintro _ H1 ⟨rfl,L1,t1,l1,k1,u1,e1⟩
  have m1:=h.dF t1 e1 l1
  obtain⟨CR,o1,_⟩:=m1.own
  refine v1 (ae o1) ?_
  refine⟨_,ep m1 (hk false),?_⟩
  refine vs ?_
  refine⟨⟨by omega,by omega⟩,?_⟩
  refine v3 m1.CP aoi aol ?_
  refine⟨by rw[aoF];omega,?_⟩
  obtain⟨m2,e2⟩:=m1.Nn x.toNat (IntKind.i64.wrap (Y7 rs (bc L x false)+1))
  refine vs ?_
  exact⟨L1,_,m2,.inr k1,u1,(e1.mono fun z _ hz=>.inl hz).trans (e2.mono fun z _ hz=>.inr hz)⟩
 ·refine v1 (ae h1) ?_
  refine⟨_,ep h (hk true),?_⟩
  refine vs ?_
  refine⟨⟨by omega,by omega⟩,?_⟩
  refine v3 h.CP aoi aol ?_
  refine⟨by rw[aoF];omega,?_⟩
  obtain⟨m2,e2⟩:=h.Nn x.toNat (IntKind.i64.wrap (Y7 rs (bc L x true)+1))
  refine vs ?_
  exact⟨L,_,m2,.inl rfl,rfl,e2.mono fun z _ hz=>.inr hz⟩
abbrev Bi(w:Nw)(L:List Lk):Prop:=Bt (aG w) (aQ w) (bc L) (bq L)
theorem Bi.pD{w:Nw}{L:List Lk}(h:Bi w L){x:Int}{c:Bool}(hk:bc L x c≠ -1):0≤bc L x c∧bc L x c<w.cs.length:=by
 obtain⟨_,_,h1,h2,_⟩:=Bt.home h hk
 obtain⟨a,b,_⟩:=aF (w:=w) (x:=bc L x c) (by omega)
 omega
theorem Bi.up{w:Nw}{L:List Lk}(h:Bi w L){x:Int}(hu:bq L x≠ -1):0≤bq L x∧bq L x<w.cs.length∧aQ w (bq L x) x=true∧aG w (bq L x)=aG w x:=by
 obtain⟨_,_,h1,h2,h3⟩:=h.uk x _ rfl hu
 obtain⟨a,b,_⟩:=aF (w:=w) (x:=bq L x) (by omega)
 exact⟨by omega,by omega,h3,h1⟩
theorem jq(h:c7 H B C w L rs tops)(hb:Bi w L){x:Int}(hx:x≠ -1→0<aG w x):
  af Tryz.prog wG [ptr B.n,i64 x] H fun v H'=>aw (∃L' T5,c7 H' B C w L' T5 tops∧Bi w L'∧bq L'=bq L∧ag (fun z=>z=B.tl∨z=B.rk) H H'):=by
 refine bv xl ?_
 refine vs ?_
 refine aX.intro (fun m env H'=>∃ (x:Int) (L':List Lk) (T5:List Int),m=(if x= -1 then 0 else MP (aQ w) w.cs.length x+1)∧(x≠ -1→0<aG w x)∧c7 H' B C w L' T5 tops∧Bi w L'∧bq L'=bq L∧ag (fun z=>z=B.tl∨z=B.rk) H H'∧
  env=[(0,ptr B.n),(1,i64 x)]) _ ⟨x,L,rs,rfl,hx,h,hb,rfl,ag.refl _ _,rfl⟩ ?_
 rintro m env H1 ⟨y,L1,rs1,rfl,hy,m1,b1,u1,e1,rfl⟩
 refine vs ?_
 refine am.dec (fun g=>?_) (fun g=>?_)<;>refine vs ?_
 ·exact⟨L1,rs1,m1,b1,u1,e1⟩
 obtain⟨y0,y1,_⟩:=aF (hy g)
 obtain⟨tv,o1,_⟩:=m1.own
 have sG:=m1.len
 obtain⟨r,hr⟩:∃r,(rs1.map i64)[y.toNat]? =some (i64 r):=⟨rs1[y.toNat]'(by omega),by rw[aoG,aoh (by omega)];rfl⟩
 refine v1 (ae o1) ?_
 refine⟨⟨by omega,by omega⟩,?_⟩
 refine v4 (ae m1.CP) aoi aol hr ?_
 refine(gL m1 ⟨y0,y1⟩ (fun c hk=>b1.pD hk)).mono ?_
 rintro v2 H2 ⟨L2,Y8,m2,k2,u2,e2⟩
 have b2:Bi w L2:=by
  rcases k2 with k2|k2
  ·show Bt _ _ _ _
   rw[k2,u2];exact b1
  ·show Bt _ _ _ _
   rw[k2,u2];exact Bt.sY b1 y
 obtain⟨No,o2,_⟩:=m2.own
 have oJ:=m2.len
 have pE:=e1.trans e2
 obtain⟨r2,vT⟩:∃r,(Y8.map i64)[y.toNat]? =some (i64 r):=⟨Y8[y.toNat]'(by omega),by rw[aoG,aoh (by omega)];rfl⟩
 refine v1 (ae o2) ?_
 refine⟨⟨by omega,by omega⟩,?_⟩
 refine v4 (ae m2.CP) aoi aol vT ?_
 refine am.dec (fun g2=>?_) (fun g2=>?_)<;>refine vs ?_
 ·exact⟨L2,Y8,m2,b2,u2.trans u1,pE⟩
 refine v1 (ae o2) ?_
 refine(oT m2.bY y).mono ?_
 rintro _ H' ⟨rfl,e⟩
 obtain rfl:=e.symm
 obtain⟨a1,c1,ea⟩:=cI (bq L2 y)
 rw[ea]
 refine vs ?_
 refine(cA H2 _ a1 c1 ea).mono ?_
 rintro _ H' ⟨rfl,e⟩
 obtain rfl:=e.symm
 refine vs ?_
 refine⟨_,?_,bq L2 y,L2,Y8,rfl,fun hu=>?_,m2,b2,u2.trans u1,pE,rfl⟩
 ·rw[if_neg g]
  split
  ·omega
  ·rename_i hu
   have:=b2.up hu
   have:=EL (au w) (n:=w.cs.length) (p:=bq L2 y) (x:=y) (by omega) this.2.2.1
   omega
 ·have:=b2.up hu
  rw[this.2.2.2]
  exact hy g
end
end Go.Proofs.YtjlnnljohemifaaGreat

namespace Go.Proofs.YtjlnnljohemifaaGreat
open Go Go.Vc
theorem Sl.shape{H:Hp}{w:Value}{n:Nat}{xs:List Value}{fp:Option Nat}(h:Sl H 1 w n xs fp):∃a c,w= .slice a n c:=by
 obtain⟨h1,h2⟩:=h
 cases fp with
 |none=>obtain⟨rfl,rfl⟩:=h2;exact⟨none,0,rfl⟩
 |some b=>obtain⟨l,c,rfl,_⟩:=h2;exact⟨_,c,rfl⟩
theorem Sl.zB{H:Hp}{a:Option Addr}{n c:Nat}{xs:List Int}{fp:Option Nat}(h:Sl H 1 (.slice a n c) n (xs.map i64) fp){i:Nat}{x:Int}(hx:xs[i]? =some x):
  i<n∧∃b lb,a=some ⟨b,0,none⟩∧H.own b=some lb∧lb[i]? =some (i64 x):=by
 cases fp with
 |none=>
  have h1:=h.1
  have h2:=h.2.1
  have:=(aoj.1 hx).1
  rw[aoF]at h1
  omega
 |some b=>
  obtain⟨h1,h2,lb,h3,h4⟩:=Sl.num h hx
  exact⟨h1,b,lb,h2,h3,h4⟩
section
variable {H : Hp} {B : LB} {C : Nat → Prop} {w : Nw} {L : List Lk} {rs tops : List Int}
theorem iq(h:c7 H B C w L rs tops){g a0 b0:Int}{R:Int→Prop}(m:Mg (aG w) (aQ w) g R (bc L) (bq L) [] a0 b0):
  af Tryz.prog ue [ptr B.n,i64 a0,i64 b0] H fun v H'=>aw (∃r L' T5,v=i64 r∧c7 H' B C w L' T5 tops∧Mg (aG w) (aQ w) g R (bc L') (bq L') [] r (-1)∧
   (∀x0,vV (aQ w) (bc L) (bq L) x0 (bc L) (bq L) [] a0 b0→vV (aQ w) (bc L) (bq L) x0 (bc L') (bq L') [] r (-1))∧ag (fun z=>C z∨z=B.tl∨z=B.rk) H H'):=by
 refine bv ut ?_
 refine vs ?_
 have xt:=h.cells.Ef
 refine aX.intro (fun mm env H'=>∃ (a b:Int) (dK:List Int) (wv:Value) (fp:Option Nat) (L':List Lk),mm=w.cs.length - dK.length∧c7 H' B C w L' rs tops∧Mg (aG w) (aQ w) g R (bc L') (bq L') dK a b∧
  (∀x0,vV (aQ w) (bc L) (bq L) x0 (bc L) (bq L) [] a0 b0→vV (aQ w) (bc L) (bq L) x0 (bc L') (bq L') dK a b)∧
  (∀z,fp=some z→H.size≤z)∧Sl H' 1 wv dK.length (dK.map i64) fp∧ag (fun z=>C z∨z=B.tl∨z=B.rk∨H.size≤z) H H'∧
  env=[(0,ptr B.n),(1,i64 a),(2,i64 b),(7,wv)]) _ ⟨a0,b0,[],_,none,L,rfl,h,m,(fun _ h=>h),(fun z h=>by cases h),Sl.nil _ _,ag.refl _ _,rfl⟩ ?_
 rintro mm env H1 ⟨a,b,dK,wv,fp,L1,rfl,l1,m1,f1,fZ,s1,e1,rfl⟩
 have z1:=e1.size
 clear m
 refine vs ?_
 refine am.dec (fun ga=>?A) (fun ga=>?_)<;>refine vs ?_
 rotate_left
 refine am.dec (fun gb=>?B) (fun gb=>?_)<;>refine vs ?_
 rotate_left
 ·obtain⟨CR,o1,_⟩:=l1.own
  refine v1 (ae o1) ?_
  refine(cF l1.cells b a).mono ?_
  rintro _ H2 ⟨rfl,c2,e2⟩
  have l2:=l1.aJ c2 e2 rfl
  have s2:=s1.ext e2 (fun z hz dL=>by have:=fZ z hz;have:=h.slt z (.inl dL);omega)
  have z2:=e2.size
  have ha:=m1.wa.resolve_left ga
  have hb:=m1.wb.resolve_left gb
  have BZ:=gS (w:=w) (a:=b) (b:=a) (by rw[hb.1];exact m1.pos) (by rw[ha.1];exact m1.pos)
  have aP:a≠b:=fun e=>ga (m1.ab e)
  rw[BZ]
  cases aO:aQ w b a
  ·refine vs ?_
   have hl:aQ w a b=true:=((au w).OD a b aP).resolve_right (by rw[aO];simp)
   have mm:Mg (aG w) (aQ w) g R (bc L1) (bq L1) dK a b:=m1
   have Ps:0<aG w a:=by rw[(mm.wa.resolve_left ga).1];exact mm.pos
   obtain⟨p0,p1,_⟩:=aF Ps
   have m3:=mm.Ra (au w) ga gb hl
   have wl:(dK++[a]).length≤w.cs.length:=bZ (m3.nodup (au w)) fun x hx=>by
    have GU:=(m3.wy x hx).2.1
    have qK:=m3.pos
    obtain⟨x0,x1,_⟩:=aF (w:=w) (x:=x) (by omega)
    exact⟨x0,x1⟩
   rw[aor,aoA]at wl
   refine yd (B:=H.size) fZ (by omega) s2 a (by omega) fun w' H3 cP ir s3 e3=>?_
   refine vs ?_
   have l3:=l2.ext e3 (fun z hz dL=>by have:=h.slt z hz;omega)
   obtain⟨Y9,o3,_⟩:=l3.own
   refine v1 (ae o3) ?_
   refine(cz l3.bY a).mono ?_
   rintro _ H' ⟨rfl,e⟩
   obtain rfl:=e.symm
   obtain⟨k1,k2,ek⟩:=cI (bc L1 a true)
   rw[ek]
   refine vs ?_
   refine(cA H3 _ k1 k2 ek).mono ?_
   rintro _ H' ⟨rfl,e⟩
   obtain rfl:=e.symm
   refine v1 (ae o3) ?_
   refine(cH l3.bY (x:=bc L1 a true) (fun hu=>by have:=Bi.up mm.bt hu;rw[l3.len.1];omega)).mono ?_
   rintro _ H4 ⟨rfl,L4,t4,WH,Vr,Vs,e4⟩
   have l4:=l3.dF t4 e4 WH
   have s4:=s3.ext e4 (fun z hz dL=>by have:=ir z hz;have:=h.slt B.tl (.inr (.inr (.inr (.inl rfl))));omega)
   obtain⟨k3,k4,ek2⟩:=cI (bq L1 (bc L1 a true))
   rw[ek2]
   refine vs ?_
   refine⟨w.cs.length - (dK.length+1),by omega,bc L1 a true,b,dK++[a],w',cP,L4,by simp,l4,?_,?_,ir,s4,((e1.trans (e2.mono fun z _ hz=>.inl hz)).trans (e3.mono fun z _ hz=>.inr (.inr (.inr hz)))).trans (e4.mono fun z _ hz=>.inr (.inl hz)),rfl⟩
   ·rw[Vr,Vs]
    exact m3
   ·rw[Vr,Vs]
    exact fun x0 h0=>(f1 x0 h0).down (au w) m1.bt ga
  ·refine vs ?_
   have hl:aQ w b a=true:=aO
   have mm:Mg (aG w) (aQ w) g R (bc L1) (bq L1) dK b a:=m1.swap
   have Ps:0<aG w b:=by rw[(mm.wa.resolve_left gb).1];exact mm.pos
   obtain⟨p0,p1,_⟩:=aF Ps
   have m3:=mm.Ra (au w) gb ga hl
   have wl:(dK++[b]).length≤w.cs.length:=bZ (m3.nodup (au w)) fun x hx=>by
    have GU:=(m3.wy x hx).2.1
    have qK:=m3.pos
    obtain⟨x0,x1,_⟩:=aF (w:=w) (x:=x) (by omega)
    exact⟨x0,x1⟩
   rw[aor,aoA]at wl
   refine yd (B:=H.size) fZ (by omega) s2 b (by omega) fun w' H3 cP ir s3 e3=>?_
   refine vs ?_
   have l3:=l2.ext e3 (fun z hz dL=>by have:=h.slt z hz;omega)
   obtain⟨Y9,o3,_⟩:=l3.own
   refine v1 (ae o3) ?_
   refine(cz l3.bY b).mono ?_
   rintro _ H' ⟨rfl,e⟩
   obtain rfl:=e.symm
   obtain⟨k1,k2,ek⟩:=cI (bc L1 b true)
   rw[ek]
   refine vs ?_
   refine(cA H3 _ k1 k2 ek).mono ?_
   rintro _ H' ⟨rfl,e⟩
   obtain rfl:=e.symm
   refine v1 (ae o3) ?_
   refine(cH l3.bY (x:=bc L1 b true) (fun hu=>by have:=Bi.up mm.bt hu;rw[l3.len.1];omega)).mono ?_
   rintro _ H4 ⟨rfl,L4,t4,WH,Vr,Vs,e4⟩
   have l4:=l3.dF t4 e4 WH
   have s4:=s3.ext e4 (fun z hz dL=>by have:=ir z hz;have:=h.slt B.tl (.inr (.inr (.inr (.inl rfl))));omega)
   obtain⟨k3,k4,ek2⟩:=cI (bq L1 (bc L1 b true))
   rw[ek2]
   refine vs ?_
   refine⟨w.cs.length - (dK.length+1),by omega,bc L1 b true,a,dK++[b],w',cP,L4,by simp,l4,?_,?_,ir,s4,((e1.trans (e2.mono fun z _ hz=>.inl hz)).trans (e3.mono fun z _ hz=>.inr (.inr (.inr hz)))).trans (e4.mono fun z _ hz=>.inr (.inl hz)),rfl⟩
   ·rw[Vr,Vs]
    exact m3
   ·rw[Vr,Vs]
    exact fun x0 h0=>(f1 x0 h0).swap.down (au w) m1.bt gb
 case' A=>
  have m2:Mg (aG w) (aQ w) g R (bc L1) (bq L1) dK b (-1):=ga▸m1.swap
  have f2:=fun x0 (h0:vV (aQ w) (bc L) (bq L) x0 (bc L) (bq L) [] a0 b0)=>(f1 x0 h0).swap
  rw[ga]at f2
  generalize hr:b=r at m2 f2
  refine am.cQ (by simpa using ga) ?_
 case' B=>
  have m2:Mg (aG w) (aQ w) g R (bc L1) (bq L1) dK a (-1):=gb▸m1
  have f2:=f1
  rw[gb]at f2
  generalize hr:a=r at m2 f2
  refine am.dec (fun h=>absurd (hr.trans h) ga) (fun _=>?_)
 all_goals
  refine vs ?_
  obtain⟨wa,wc,rfl⟩:=Sl.shape s1
  refine vs ?_
  have wl:dK.length≤w.cs.length:=bZ (m2.nodup (au w)) fun x hx=>by
   have GU:=(m2.wy x hx).2.1
   have qK:=m2.pos
   obtain⟨x0,x1,_⟩:=aF (w:=w) (x:=x) (by omega)
   exact⟨x0,x1⟩
  refine aX.intro (fun mm env H'=>∃ (i:Nat) (r:Int) (L':List Lk) (T5:List Int),mm=i∧i≤dK.length∧c7 H' B C w L' T5 tops∧Mg (aG w) (aQ w) g R (bc L') (bq L') (dK.take i) r (-1)∧
   (∀x0,vV (aQ w) (bc L) (bq L) x0 (bc L) (bq L) [] a0 b0→vV (aQ w) (bc L) (bq L) x0 (bc L') (bq L') (dK.take i) r (-1))∧
   Sl H' 1 (.slice wa dK.length wc) dK.length (dK.map i64) fp∧ag (fun z=>C z∨z=B.tl∨z=B.rk∨H.size≤z) H H'∧
   env=[(0,ptr B.n),(7,.slice wa dK.length wc),(9,i64 r),(10,i64 ((i:Int) - 1))]) _ ⟨dK.length,r,L1,rs,rfl,aov _,l1,by rw[aoP];exact m2,by rw[aoP];exact f2,s1,e1,?_⟩ ?_
  ·rw[wrap64 (by omega) (by omega)]
  rintro mm env H2 ⟨i,r2,L2,Y8,hmi,hi,l2,m3,f3,s2,e2,rfl⟩
  obtain rfl:=hmi.symm
  refine vs ?_
  refine am.dec (fun gi=>?_) (fun gi=>?_)<;>refine vs ?_
  rotate_left
  ·obtain rfl:i=0:=by omega
   exact⟨r2,L2,Y8,rfl,l2,by simpa using m3,by simpa using f3,e2.mono fun z hz h=>h.elim .inl fun h=>.inr (by omega)⟩
  obtain⟨j,rfl⟩:∃j,i=j+1:=⟨i - 1,by omega⟩
  obtain⟨v,hv⟩:∃v,dK[j]? =some v:=⟨_,aoh (by omega)⟩
  have tk:dK.take (j+1)=dK.take j++[v]:=by rw[aoT,hv];rfl
  rw[tk]at m3 f3
  have m4:=m3.back (au w)
  have f4:=fun x0 h0=>(f3 x0 h0).back
  obtain⟨v1,v2,v3,v4,v5,v6⟩:=m3.wy v (by simp)
  obtain⟨q1,vb,lb,rfl,q2,q3⟩:=Sl.zB s2 hv
  have hvb:∃b',fp=some b'∧b'=vb:=by
   cases fp with
   |none=>have:=s2.2.2;injection this with h1;cases h1
   |some b'=>obtain⟨_,_,h1,_⟩:=s2.2;injection h1 with h1;injection h1 with h1;injection h1 with h1;exact⟨b',rfl,h1.symm⟩
  obtain⟨b',rfl,rfl⟩:=hvb
  have hvb:=fZ b' rfl
  have Vt:0<aG w v:=by rw[v2];exact m3.pos
  obtain⟨WI,vv1,_⟩:=aF Vt
  have ji:((((j+1:Nat):Int) - 1)).toNat=j:=by omega
  obtain⟨No,o2,_⟩:=l2.own
  refine am.dec (fun gr=>?_) (fun gr=>?_)<;>refine vs ?_
  ·rw[if_pos gr,if_pos gr]at m4
   simp only[if_pos gr]at f4
   have f5:=f4
   have l3:=l2
   have m5:=m4
   have o3b:=q2
   have s3:=s2
   have e3:=e2
   refine⟨⟨by omega,by omega⟩,?_⟩
   simp(disch:=(first|omega| (simp only[Zs]<;>omega)|fail)) only[go_sem, ↓reduceIte,Zv,ae o3b,aoi,aol,ji,q3]
   refine(gL l3 ⟨WI,vv1⟩ (fun c hk=>Bi.pD m5.bt hk)).mono ?_
   rintro _ H4 ⟨L4,Vu,l4,k4,u4,e4⟩
   refine vs ?_
   refine⟨j,by omega,j,v,L4,Vu,rfl,by omega,l4,?_,?_,s3.ext e4 (fun z hz dL=>by injection hz with hz;have:=h.slt B.tl (.inr (.inr (.inr (.inl rfl))));have:=h.slt B.rk (.inr (.inr (.inr (.inr (.inl rfl)))));omega),e3.trans (e4.mono fun z _ hz=>.inr (hz.elim .inl fun h=>.inr (.inl h))),?_⟩
   ·rcases k4 with k4|k4
    ·rw[k4,u4];exact m5
    ·rw[k4,u4];exact m5.sY (au w)
   ·rcases k4 with k4|k4
    ·rw[k4,u4];exact f5
    ·rw[k4,u4];exact fun x0 h0=>(f5 x0 h0).sY v1
   ·rw[show((j+1:Nat):Int) - 1 - 1=(j:Int) - 1 by omega,wrap64 (by omega) (by omega)]
  ·rw[if_neg gr,if_neg gr]at m4
   simp only[if_neg gr]at f4
   have vT:=m3.wa.resolve_left gr
   obtain⟨r0,r1,_⟩:=aF (w:=w) (x:=r2) (by rw[vT.1];exact m3.pos)
   have aZ:=l2.len
   have hvr:v≠r2:=fun e=>by have:=v5 gr;rw[e,(au w).vy]at this;cases this
   simp(disch:=(first|omega| (simp only[Zs]<;>omega)|fail)) only[go_sem, ↓reduceIte,Zv,ae o2]
   refine⟨⟨by omega,by omega⟩,?_⟩
   simp(disch:=(first|omega| (simp only[Zs]<;>omega)|fail)) only[go_sem, ↓reduceIte,Zv,ae q2,aoi,aol,ji,q3]
   refine(eY l2.bY (p:=v) (x:=r2) (c:=true) ⟨WI,by omega⟩ ⟨r0,by omega⟩ hvr vT.2 v4).mono ?_
   rintro _ H3 ⟨rfl,L3,t3,ll3,kk3,uu3,GS⟩
   have l3:=l2.dF t3 GS ll3
   have m5:Mg (aG w) (aQ w) g R (bc L3) (bq L3) (dK.take j) v (-1):=by rw[kk3,uu3];exact m4
   have f5:=f4
   rw[←kk3,←uu3]at f5
   have nb:b'≠B.tl:=fun e=>by have:=h.slt B.tl (.inr (.inr (.inr (.inl rfl))));omega
   have o3b:=GS.own q2 nb
   have s3:=s2.ext GS (fun z hz dL=>by injection hz with hz;exact nb (hz.trans dL))
   have e3:=e2.trans (GS.mono fun z _ hz=>.inr (.inl hz))
   refine vs ?_
   refine⟨⟨by omega,by omega⟩,?_⟩
   simp(disch:=(first|omega| (simp only[Zs]<;>omega)|fail)) only[go_sem, ↓reduceIte,Zv,ae o3b,aoi,aol,ji,q3]
   refine(gL l3 ⟨WI,vv1⟩ (fun c hk=>Bi.pD m5.bt hk)).mono ?_
   rintro _ H4 ⟨L4,Vu,l4,k4,u4,e4⟩
   refine vs ?_
   refine⟨j,by omega,j,v,L4,Vu,rfl,by omega,l4,?_,?_,s3.ext e4 (fun z hz dL=>by injection hz with hz;have:=h.slt B.tl (.inr (.inr (.inr (.inl rfl))));have:=h.slt B.rk (.inr (.inr (.inr (.inr (.inl rfl)))));omega),e3.trans (e4.mono fun z _ hz=>.inr (hz.elim .inl fun h=>.inr (.inl h))),?_⟩
   ·rcases k4 with k4|k4
    ·rw[k4,u4];exact m5
    ·rw[k4,u4];exact m5.sY (au w)
   ·rcases k4 with k4|k4
    ·rw[k4,u4];exact f5
    ·rw[k4,u4];exact fun x0 h0=>(f5 x0 h0).sY v1
   ·rw[show((j+1:Nat):Int) - 1 - 1=(j:Int) - 1 by omega,wrap64 (by omega) (by omega)]
end
end Go.Proofs.YtjlnnljohemifaaGreat

namespace Go.Proofs.YtjlnnljohemifaaGreat
open Go Go.Vc
inductive Rl where
 |no
 |RJ
 |cell
 |Lv
 |FO
 |table
 |row(g:Int)
 |pD(x:Int)
def uL(V:Int→Value)(x:Int)(v:Value):Int→Value:=fun z=>if z=x then v else V z
theorem WJ(V:Int→Value)(x:Int)(v:Value):uL V x v x=v:=by unfold uL;rw[if_pos rfl]
theorem WK{V:Int→Value}{x z:Int}{v:Value}(h:z≠x):uL V x v z=V z:=by unfold uL;rw[if_neg h]
theorem WL(U:Int→Int)(x v:Int):aH U x v x=v:=by unfold aH;rw[if_pos rfl]
theorem WM{U:Int→Int}{x z v:Int}(h:z≠x):aH U x v z=U z:=by unfold aH;rw[if_neg h]
structure nH(H:Hp)(fb tb n:Nat)(l:List Value)(V:Int→Value)(U:Int→Int):Prop where
 own:H.own fb=some [.slice (some ⟨tb,0,none⟩) n n]
 EM:H.own tb=some l
 len:l.length=n*2
 at_:∀x:Int,0≤x→x<n→l[x.toNat*2]? =some (V x)∧l[x.toNat*2+1]? =some (i64 (U x))
 ne:fb≠tb
section
variable {H H' : Hp} {fb tb n : Nat} {l : List Value} {V : Int → Value} {U : Int → Int} {T : Nat → Prop}
theorem nH.ext(h:nH H fb tb n l V U)(e:ag T H H')(h1:¬T fb)(h2:¬T tb):nH H' fb tb n l V U:=⟨e.own h.own h1,e.own h.EM h2,h.len,h.at_,h.ne⟩
theorem nH.uL(h:nH H fb tb n l V U){x:Int}(hx:0≤x∧x<n)(v:Value):nH (H.wr tb (l.set (x.toNat*2) v)) fb tb n (l.set (x.toNat*2) v) (uL V x v) U∧ag (fun z=>z=tb) H (H.wr tb (l.set (x.toNat*2) v)):=by
 have e:ag (fun z=>z=tb) H (H.wr tb (l.set (x.toNat*2) v)):=(ag.refl (fun z=>z=tb) _).wr (fun _=>rfl) _
 have hl:=h.len
 refine⟨⟨e.own h.own h.ne,ai h.EM,by rw[aok];exact hl,fun z h0 h1=>?_,h.ne⟩,e⟩
 obtain⟨a1,a2⟩:=h.at_ z h0 h1
 refine⟨?_,by rw[aoo (by omega)];exact a2⟩
 by_cases hz:z=x
 ·rw[hz,WJ,aop (by omega)]
 ·rw[WK hz,aoo (by omega)];exact a1
theorem nH.aH(h:nH H fb tb n l V U){x:Int}(hx:0≤x∧x<n)(u:Int):nH (H.wr tb (l.set (x.toNat*2+1) (i64 u))) fb tb n (l.set (x.toNat*2+1) (i64 u)) V (aH U x u)∧ag (fun z=>z=tb) H (H.wr tb (l.set (x.toNat*2+1) (i64 u))):=by
 have e:ag (fun z=>z=tb) H (H.wr tb (l.set (x.toNat*2+1) (i64 u))):=(ag.refl (fun z=>z=tb) _).wr (fun _=>rfl) _
 have hl:=h.len
 refine⟨⟨e.own h.own h.ne,ai h.EM,by rw[aok];exact hl,fun z h0 h1=>?_,h.ne⟩,e⟩
 obtain⟨a1,a2⟩:=h.at_ z h0 h1
 refine⟨by rw[aoo (by omega)];exact a1,?_⟩
 by_cases hz:z=x
 ·rw[hz,WL,aop (by omega)]
 ·rw[WM hz,aoo (by omega)];exact a2
theorem nH.RL(h:nH H fb tb n l V U):fb<H.size∧tb<H.size:=⟨aB h.own,aB h.EM⟩
end
structure ForM(H:Hp)(ro:Nat→Rl)(fb tb n:Nat)(l:List Value)(V:Int→Value)(ch:Int→List Int)(par:Int→Int)(kb:Int→Option Nat):Prop where
 t:nH H fb tb n l V par
 kd:∀x:Int,0≤x→x<n→Sl H 1 (V x) (ch x).length ((ch x).map i64) (kb x)
 rf:ro fb= .FO
 rt:ro tb= .table
 rk:∀ (x:Int) b,0≤x→x<n→kb x=some b→ro b= .pD x
 GV:∀x c,c∈ch x→0≤c∧c<n
 no:∀x:Int,¬ (0≤x∧x<n)→ch x=[]
structure RK(s:Nat)(ro ro':Nat→Rl):Prop where
 o:∀z,z<s→(∀x,ro z≠ .pD x)→ro' z=ro z
 k:∀z x,z<s→ro z= .pD x→∃y,ro' z= .pD y
 n:∀z,s≤z→ro' z= .no∨∃y,ro' z= .pD y
theorem RK.refl{s:Nat}{ro:Nat→Rl}(h:∀z,s≤z→ro z= .no):RK s ro ro:=⟨fun _ _ _=>rfl,fun z x _ h=>⟨x,h⟩,fun z hz=>.inl (h z hz)⟩
theorem RK.trans{s s':Nat}{r1 r2 r3:Nat→Rl}(h:RK s r1 r2)(h':RK s' r2 r3)(hs:s≤s'):RK s r1 r3:=by
 refine⟨fun z hz hk=>?_,fun z x hz hx=>?_,fun z hz=>?_⟩
 ·have h1:=h.o z hz hk
  rw[h'.o z (by omega) (fun x=>by rw[h1];exact hk x),h1]
 ·obtain⟨y,hy⟩:=h.k z x hz hx
  exact h'.k z y (by omega) hy
 ·by_cases h1:z<s'
  ·rcases h.n z hz with h2| ⟨y,h2⟩
   ·rw[h'.o z h1 (fun x=>by rw[h2];intro e;cases e)]
    exact .inl h2
   ·exact .inr (h'.k z y h1 h2)
  ·exact h'.n z (by omega)
def KB(ro:Nat→Rl)(z:Nat):Prop:=ro z= .table∨∃x,ro z= .pD x
section
variable {H H' : Hp} {ro ro' : Nat → Rl} {fb tb n : Nat} {l : List Value} {V : Int → Value} {ch : Int → List Int} {par : Int → Int} {kb : Int → Option Nat} {T : Nat → Prop}
theorem ForM.ext(m:ForM H ro fb tb n l V ch par kb)(e:ag T H H')(hd:∀z,(ro z= .FO∨KB ro z)→¬T z):ForM H' ro fb tb n l V ch par kb:=
 ⟨m.t.ext e (hd _ (.inl m.rf)) (hd _ (.inr (.inl m.rt))),fun x h0 h1=>(m.kd x h0 h1).ext e (fun b hb=>hd _ (.inr (.inr ⟨x,m.rk x b h0 h1 hb⟩))),m.rf,m.rt,m.rk,m.GV,m.no⟩
theorem ForM.fresh(m:ForM H ro fb tb n l V ch par kb)(e:ah H H'):ForM H' ro fb tb n l V ch par kb:=m.ext e fun _ _ h=>h
theorem ForM.shape(m:ForM H ro fb tb n l V ch par kb){x:Int}(hx:0≤x∧x<n):∃a c,V x= .slice a (ch x).length c:=Sl.shape (m.kd x hx.1 hx.2)
theorem nI(t:nH H fb tb n l V par)(x:Int):af Tryz.prog yL [ptr fb,i64 x] H fun v H'=>aw (v= .bool (decide (0≤x∧x<n))∧H'=H):=by
 refine bv zi ?_
 refine vs ?_
 refine am.dec (fun h0=>?_) (fun h0=>?_)<;>refine v1 (ae t.own) ?_
 ·refine⟨?_,rfl⟩
  rw[show(decide (0≤x∧x< (n:Int)))=decide (x< (n:Int)) by simp[h0]]
  rfl
 ·refine⟨?_,rfl⟩
  rw[aoJ (fun h=>h0 h.1)]
  rfl
theorem hZ(t:nH H fb tb n l V par)(x:Int):af Tryz.prog wx [ptr fb,i64 x] H fun v H'=>aw (v= .bool (decide (0≤x∧x<n) && decide (par x= -1))∧H'=H):=by
 refine bv xb ?_
 refine vs ?_
 refine(nI t x).mono ?_
 rintro _ H' ⟨rfl,e⟩
 obtain rfl:=e.symm
 by_cases hx:0≤x∧x<n
 ·rw[aow hx]
  have hl:=t.len
  obtain⟨a1,a2⟩:=t.at_ x hx.1 hx.2
  refine v1 (ae t.own) ?_
  refine⟨⟨by omega,by omega⟩,?_⟩
  refine v3 (ae t.EM) aoi a2 ?_
  exact⟨rfl,rfl⟩
 ·rw[aoJ hx]
  refine vs ?_
  exact⟨rfl,rfl⟩
theorem dc(m:ForM H ro fb tb n l V ch par kb)(x:Int):af Tryz.prog s8 [ptr fb,i64 x] H fun v H'=>aw (v=i64 (ch x).length∧H'=H):=by
 refine bv tw ?_
 refine vs ?_
 refine(nI m.t x).mono ?_
 rintro _ H' ⟨rfl,e⟩
 obtain rfl:=e.symm
 by_cases hx:0≤x∧x<n
 ·rw[aow hx]
  have hl:=m.t.len
  obtain⟨a1,a2⟩:=m.t.at_ x hx.1 hx.2
  obtain⟨a,c,hv⟩:=m.shape hx
  rw[hv]at a1
  refine v1 (ae m.t.own) ?_
  refine⟨⟨by omega,by omega⟩,?_⟩
  refine v4 (ae m.t.EM) aoi Nat.add_zero a1 ?_
  exact⟨rfl,rfl⟩
 ·rw[aoJ hx,m.no x hx]
  refine vs ?_
  exact⟨rfl,rfl⟩
theorem oU(t:nH H fb tb n l V par){x:Int}(hx:0≤x∧x<n):af Tryz.prog Ao [ptr fb,i64 x] H fun v H'=>aw (((par x= -1∧v= .tuple [i64 0,.bool false].toArray)∨(par x≠ -1∧v= .tuple [i64 (par x),.bool true].toArray))∧H'=H):=by
 refine bv AM ?_
 refine vs ?_
 refine(nI t x).mono ?_
 rintro _ H' ⟨rfl,e⟩
 obtain rfl:=e.symm
 rw[aow hx]
 have hl:=t.len
 obtain⟨a1,a2⟩:=t.at_ x hx.1 hx.2
 refine v1 (ae t.own) ?_
 refine⟨⟨by omega,by omega⟩,?_⟩
 refine v3 (ae t.EM) aoi a2 ?_
 refine am.dec (fun h0=>?_) (fun h0=>?_)<;>refine vs ?_
 ·exact⟨.inl ⟨h0,rfl⟩,rfl⟩
 refine v1 (ae t.own) ?_
 refine⟨⟨by omega,by omega⟩,?_⟩
 refine v3 (ae t.EM) aoi a2 ?_
 exact⟨.inr ⟨h0,rfl⟩,rfl⟩
theorem RM{H:Hp}{T:TypeId}{w:Value}{xs:List Int}{fp:Option Nat}{K:Value→Hp→Prop}(s:Sl H 1 w xs.length (xs.map i64) fp)(x:Int)(hl:xs.length≤1000000000000)
  (hk:∀w' H' cP,(cP=fp∨∃b,cP=some b∧H.size≤b∧b<H'.size)→Sl H' 1 w' (xs++[x]).length ((xs++[x]).map i64) cP→ag (fun z=>fp=some z) H H'→K w' H'):
  gk T 1 8 [i64 0] w (.slice (some ⟨H.size,0,none⟩) 1 1) (H.new T [i64 x]) K:=by
 have fl:ah H (H.new T [i64 x]):=(ag.refl _ _).new _ _
 refine Sl.append (s.ext fl (fun _ _ h=>h)) (Sl.bU (size:=1) (n:=1) (xs:=[i64 x]) rfl rfl).rd rfl (rR [x]) (by omega) ?_
 intro v' H' cP s' e' OL
 refine hk v' H' cP (OL.imp_right fun⟨b,h1,h2,h3⟩=>⟨b,h1,by rw[ap]at h2;omega,h3⟩) (by rw[aor,aoN];exact s') ⟨apb fl.size e'.size,fun z hz hn=>?_⟩
 rw[e'.aM z (aoH hz fl.size) hn,fl.aM z hz (fun h=>h)]
theorem ForM.put(m:ForM H ro fb tb n l V ch par kb)(hz:∀z,H.size≤z→ro z= .no){a:Int}(ha:0≤a∧a<n){H2:Hp}(e:ag (fun z=>kb a=some z) H H2){w':Value}{L':List Int}{cP:Option Nat}(s:Sl H2 1 w' L'.length (L'.map i64) cP)
  (hf:cP=kb a∨cP=none∨∃b,cP=some b∧H.size≤b∧b<H2.size)(hL:∀c∈L',0≤c∧c<n):
  ∃ro' tN,ForM (H2.wr tb (l.set (a.toNat*2) w')) ro' fb tb n (l.set (a.toNat*2) w') (uL V a w') (ay ch a L') par tN∧RK H.size ro ro'∧(∀z,(H2.wr tb (l.set (a.toNat*2) w')).size≤z→ro' z= .no)∧ag (KB ro) H (H2.wr tb (l.set (a.toNat*2) w')):=by
 have Q9:∀z,kb a=some z→ro z= .pD a:=fun z h=>m.rk a z ha.1 ha.2 h
 have hfb:¬kb a=some fb:=fun h=>by have:=Q9 _ h;rw[m.rf]at this;cases this
 have Vo:¬kb a=some tb:=fun h=>by have:=Q9 _ h;rw[m.rt]at this;cases this
 obtain⟨z1,z2⟩:=m.t.RL
 have t2:=m.t.ext e hfb Vo
 obtain⟨t3,e3⟩:=t2.uL ha w'
 have hs:=e.size
 have PD:(H2.wr tb (l.set (a.toNat*2) w')).size=H2.size:=eo _ _ _
 have hr:∃ro':Nat→Rl,(∀b,cP=some b→ro' b= .pD a)∧(∀z,z<H.size→ro' z=ro z)∧RK H.size ro ro'∧∀z,H2.size≤z→ro' z= .no:=by
  rcases hf with h|h| ⟨b,h,Lm,oR⟩
  ·exact⟨ro,fun b hb=>Q9 b (by rw[←h];exact hb),fun _ _=>rfl,RK.refl hz,fun z dL=>hz z (by omega)⟩
  ·refine⟨ro,fun b hb=>?_,fun _ _=>rfl,RK.refl hz,fun z dL=>hz z (by omega)⟩
   rw[h]at hb
   cases hb
  ·refine⟨fun z=>if z=b then .pD a else ro z,fun b' jY=>?_,fun z dL=>?_,⟨fun z dL _=>?_,fun z x dL hx=>⟨x,?_⟩,fun z dL=>?_⟩,fun z dL=>?_⟩
   ·rw[h]at jY
    injection jY with jY
    simp[jY]
   ·show(if z=b then Rl.pD a else ro z)=_
    rw[if_neg (by omega)]
   ·show(if z=b then Rl.pD a else ro z)=_
    rw[if_neg (by omega)]
   ·show(if z=b then Rl.pD a else ro z)=_
    rw[if_neg (by omega)];exact hx
   ·show(if z=b then Rl.pD a else ro z)=_∨∃y,(if z=b then Rl.pD a else ro z)=_
    split
    ·exact .inr ⟨a,rfl⟩
    ·exact .inl (hz z dL)
   ·show(if z=b then Rl.pD a else ro z)=_
    rw[if_neg (by omega)];exact hz z (by omega)
 obtain⟨ro',r1,r2,r3,r4⟩:=hr
 have hfl:∀b,cP=some b→b≠tb:=fun b hb e=>by
  have:=r1 b hb
  rw[e,r2 tb (by omega),m.rt]at this
  cases this
 refine⟨ro',fun z=>if z=a then cP else kb z,⟨t3,fun x h0 h1=>?_,by rw[r2 _ z1];exact m.rf,by rw[r2 _ z2];exact m.rt,fun x b h0 h1 hb=>?_,fun x c hc=>?_,fun x hx=>?_⟩,r3,fun z dL=>r4 z (by omega),(e.mono fun z _ h=>.inr ⟨a,Q9 z h⟩).trans (e3.mono fun z _ h=>.inl (by rw[h];exact m.rt))⟩
 ·unfold uL ay
  by_cases hxa:x=a
  ·simp only[hxa,if_true]
   exact s.ext e3 (fun b hb=>hfl b hb)
  ·simp only[if_neg hxa]
   refine((m.kd x h0 h1).ext e (fun b hb oR=>?_)).ext e3 (fun b hb e=>?_)
   ·have h5:=m.rk x b h0 h1 hb
    rw[Q9 b oR]at h5
    injection h5 with h5
    exact hxa h5.symm
   ·have h5:=m.rk x b h0 h1 hb
    rw[e,m.rt]at h5
    cases h5
 ·split at hb
  ·rename_i e;rw[e];exact r1 b hb
  ·have h5:=m.rk x b h0 h1 hb
   have h6:=Sl.lt (b:=b) (by have:=m.kd x h0 h1;rw[hb]at this;exact this)
   rw[r2 b h6];exact h5
 ·unfold ay at hc
  split at hc
  ·exact hL c hc
  ·exact m.GV x c hc
 ·unfold ay
  rw[if_neg (fun e=>hx (by rw[e];exact ha))]
  exact m.no x hx
theorem ForM.aH(m:ForM H ro fb tb n l V ch par kb){x:Int}(hx:0≤x∧x<n)(u:Int):ForM (H.wr tb (l.set (x.toNat*2+1) (i64 u))) ro fb tb n (l.set (x.toNat*2+1) (i64 u)) V ch (aH par x u) kb∧ag (KB ro) H (H.wr tb (l.set (x.toNat*2+1) (i64 u))):=by
 obtain⟨t3,e3⟩:=m.t.aH hx u
 refine⟨⟨t3,fun x h0 h1=>(m.kd x h0 h1).ext e3 (fun b hb e=>?_),m.rf,m.rt,m.rk,m.GV,m.no⟩,e3.mono fun z _ h=>.inl (by rw[h];exact m.rt)⟩
 have h5:=m.rk x b h0 h1 hb
 rw[e,m.rt]at h5
 cases h5
theorem sT(m:ForM H ro fb tb n l V ch par kb)(hz:∀z,H.size≤z→ro z= .no){a b:Int}(ha:0≤a∧a<n)(hb:0≤b∧b<n)(pa:par a= -1)(pb:par b= -1)(BZ:a≠b)(hd:(ch a).length=(ch b).length)(hl:(ch a).length≤65536):
  af Tryz.prog wA [ptr fb,i64 a,i64 b] H fun v H'=>aw (v= .bool true∧∃ro' l' V' tN,ForM H' ro' fb tb n l' V' (ay ch a (ch a++[b])) (aH par b a) tN∧RK H.size ro ro'∧(∀z,H'.size≤z→ro' z= .no)∧ag (KB ro) H H'):=by
 have ht:=m.t.len
 obtain⟨a1,a2⟩:=m.t.at_ a ha.1 ha.2
 have ka:=m.kd a ha.1 ha.2
 have hcL:∀c∈ch a++[b],0≤c∧c<n:=fun c hc=>by
  rcases aou.1 hc with hc|hc
  ·exact m.GV a c hc
  ·rw[aoq.1 hc];exact hb
 have Q9:∀z,kb a=some z→ro z= .pD a:=fun z h=>m.rk a z ha.1 ha.2 h
 have hfb:¬kb a=some fb:=fun h=>by have:=Q9 _ h;rw[m.rf]at this;cases this
 have Vo:¬kb a=some tb:=fun h=>by have:=Q9 _ h;rw[m.rt]at this;cases this
 refine Fa xe ⟨rfl,?_⟩
 refine v1 mi.eq_1 ?_
 refine(hZ m.t a).mono ?_
 rintro _ H' ⟨rfl,e⟩
 obtain rfl:=e.symm
 rw[aow ha,aow pa]
 refine vs ?_
 refine(hZ m.t b).mono ?_
 rintro _ H' ⟨rfl,e⟩
 obtain rfl:=e.symm
 rw[aow hb,aow pb]
 refine vs ?_
 refine am.dec (fun h=>absurd h BZ) (fun _=>?_)
 refine vs ?_
 refine(dc m a).mono ?_
 rintro _ H' ⟨rfl,e⟩
 obtain rfl:=e.symm
 refine vs ?_
 refine(dc m b).mono ?_
 rintro _ H' ⟨rfl,e⟩
 obtain rfl:=e.symm
 rw[hd]
 refine vs ?_
 refine am.cQ (by simp) ?_
 refine vs ?_
 refine jB.intro (fun H'=>H'.own fb=some [.slice (some ⟨tb,0,none⟩) n n]) m.t.own ?_
 refine vs ?_
 refine fJ.intro (.slice (some ⟨tb,0,none⟩) n n) (fun H' hI=>by refine v1 (ae hI) ?_;trivial) ?_
 refine vs ?_
 refine fJ.intro (.slice (some ⟨tb,0,none⟩) n n) (fun H' hI=>by refine v1 (ae hI) ?_;trivial) ?_
 refine vs ?_
 refine⟨⟨by omega,by omega⟩,?_⟩
 refine vs ?_
 obtain⟨z1,z2⟩:=m.t.RL
 have f1:ah H (H.new 3 [i64 b]):=(ag.refl _ _).new _ _
 have o1:=f1.own m.t.own (fun h=>h)
 have q1:=f1.own m.t.EM (fun h=>h)
 refine EN.intro ?A ?B
 case' A=>
  refine v4 (ae m.t.EM) aoi Nat.add_zero a1 ?_
  refine And.intro m.t.own ?_
  refine vs ?_
  refine And.intro m.t.own ?_
  refine vs ?_
 case' B=>
  refine vs ?_
  refine And.intro m.t.own ?_
  refine v5 (ae q1) (ae m.t.EM) aoi Nat.add_zero a1 ?_
  refine And.intro m.t.own ?_
  refine vs ?_
 all_goals
  refine RM ka b (by omega) fun w' H2 cP fZ s2 e2=>?_
  obtain⟨wa,wc,rfl⟩:=Sl.shape s2
  have t2:=m.t.ext e2 hfb Vo
  refine And.intro t2.own ?_
  refine vs ?_
  refine⟨⟨by omega,by omega⟩,?_⟩
  refine v3 t2.EM aoi Nat.add_zero ?_
  refine⟨by omega,?_⟩
  obtain⟨ro',tN,m3,r3,r4,e3⟩:=m.put hz ha e2 s2 (fZ.imp_right .inr) hcL
  refine vs ?_
  refine And.intro m3.t.own ?_
  refine vs ?_
  have RN:=m3.t.len
  generalize H2.wr tb (l.set (a.toNat*2) (Value.slice wa (ch a++[b]).length wc))=H3 at*
  refine v1 (ae m3.t.own) ?_
  refine⟨⟨by omega,by omega⟩,?_⟩
  refine v3 m3.t.EM aoi Nat.add_zero ?_
  refine⟨by omega,?_⟩
  obtain⟨m4,e4⟩:=m3.aH hb a
  refine vs ?_
  refine⟨rfl,ro',_,_,tN,m4,r3,fun z dL=>r4 z (by rw[eo]at dL;exact dL),?_⟩
  refine⟨apb e3.size e4.size,fun z dL hn=>?_⟩
  rw[e4.aM z (aoH dL e3.size) (fun h=>hn ?_),e3.aM z dL hn]
  rcases h with h| ⟨x,h⟩
  ·refine .inl ?_
   by_cases hk:∃x,ro z= .pD x
   ·obtain⟨x,hx⟩:=hk
    obtain⟨y,hy⟩:=r3.k z x dL hx
    rw[hy]at h;cases h
   ·rw[←r3.o z dL (fun x hx=>hk ⟨x,hx⟩)];exact h
  ·refine .inr ?_
   apply aoI
   intro hk
   rw[r3.o z dL (fun x hx=>hk ⟨x,hx⟩)]at h
   exact hk ⟨x,h⟩
end
end Go.Proofs.YtjlnnljohemifaaGreat
