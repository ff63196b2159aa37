/- Texts put behind each other. -/
import Derived.Test.YtjlnnljohemifaaGreatK98
import Derived.Test.YtjlnnljohemifaaGreatK21
import Derived.Test.YtjlnnljohemifaaGreatK22
set_option maxRecDepth 100000
set_option maxHeartbeats 8000000
set_option linter.unusedVariables false
set_option linter.unusedSimpArgs false
namespace Go.Proofs.YtjlnnljohemifaaGreat
open Go Go.Vc
theorem rP(l:List Int):gz (l.map i64):=fun v hv=>by
 obtain⟨x,_,rfl⟩:=anS.1 hv
 rfl
theorem AO{H:Hp}{T B:Nat}{w:Value}{xs:List Int}{fp:Option Nat}{K:Value→Hp→Prop}(gu:∀b,fp=some b→B≤b)(hB:B≤H.size)(s:Sl H 1 w xs.length (xs.map i64) fp)(x:Int)(hl:xs.length≤1000000000000)
  (hk:∀w' H' cO,(∀b,cO=some b→B≤b)→Sl H' 1 w' (xs++[x]).length ((xs++[x]).map i64) cO→ag (fun z=>B≤z) H H'→K w' H'):
  fW T 1 8 [i64 0] w (.slice (some ⟨H.size,0,none⟩) 1 1) (H.new T [i64 x]) K:=by
 have fl:ai H (H.new T [i64 x]):=(ag.refl _ _).new _ _
 refine Sl.append (s.ext fl (fun _ _ h=>h)) (Sl.cf (size:=1) (n:=1) (xs:=[i64 x]) rfl rfl).rd rfl (rP [x]) (by omega) ?_
 intro v' H' cO s' e' Oe
 refine hk v' H' cO (fun b hb=>?_) (by rw[anD,an8];exact s') ⟨aor fl.size e'.size,fun z hz hn=>?_⟩
 ·rcases Oe with h| ⟨b',jy,h1,h2⟩
  ·exact gu b (by rw[←h];exact hb)
  ·rw[hb]at jy;injection jy with jy;have:=fl.size;omega
 ·rw[e'.aM z (anT hz fl.size) (fun h=>hn (gu z h)),fl.aM z hz (fun h=>h)]
theorem Lc{H:Hp}{T B b:Nat}{w:Value}{xs:List Int}{K:Value→Hp→Prop}(hb:B≤b)(hB:B≤H.size)(s:Sl H 1 w xs.length (xs.map i64) (some b))(x:Int)(hl:xs.length≤1000000000000)
  (hk:∀w' H' b',B≤b'→Sl H' 1 w' (xs++[x]).length ((xs++[x]).map i64) (some b')→ag (fun z=>B≤z) H H'→K w' H'):
  fW T 1 8 [i64 0] w (.slice (some ⟨H.size,0,none⟩) 1 1) (H.new T [i64 x]) K:=by
 refine AO (fun b' h=>by injection h with h;omega) hB s x hl fun w' H' cO hf s' e'=>?_
 cases cO with
 |none=>
  obtain⟨_,h0,_⟩:=s'
  simp at h0
 |some b'=>exact hk w' H' b' (hf b' rfl) s' e'
theorem Of{H:Hp}{T b:Nat}{w:Value}{xs:List Int}{K:Value→Hp→Prop}(s:Sl H 1 w xs.length (xs.map i64) (some b))(x:Int)(hl:xs.length≤1000000000000)
  (hk:∀w' H' b',(b'=b∨H.size≤b')→Sl H' 1 w' (xs++[x]).length ((xs++[x]).map i64) (some b')→ag (fun z=>z=b) H H'→K w' H'):
  fW T 1 8 [i64 0] w (.slice (some ⟨H.size,0,none⟩) 1 1) (H.new T [i64 x]) K:=by
 have fl:ai H (H.new T [i64 x]):=(ag.refl _ _).new _ _
 refine Sl.append (s.ext fl (fun _ _ h=>h)) (Sl.cf (size:=1) (n:=1) (xs:=[i64 x]) rfl rfl).rd rfl (rP [x]) (by omega) ?_
 intro v' H' cO s' e' Oe
 have e2:ag (fun z=>z=b) H H':=⟨aor fl.size e'.size,fun z hz hn=>by
  rw[e'.aM z (anT hz fl.size) (fun h=>hn (by injection h with h;exact h.symm)),fl.aM z hz (fun h=>h)]⟩
 have s2:Sl H' 1 v' (xs++[x]).length ((xs++[x]).map i64) cO:=by rw[anD,an8];exact s'
 rcases Oe with rfl| ⟨b',rfl,h1,h2⟩
 ·exact hk v' H' b (.inl rfl) s2 e2
 ·rw[aq]at h1
  exact hk v' H' b' (.inr (by omega)) s2 e2
theorem UZ{H:Hp}{T B:Nat}{w u:Value}{xs ys:List Int}{fp:Option Nat}{K:Value→Hp→Prop}(gu:∀b,fp=some b→B≤b)(hB:B≤H.size)(s:Sl H 1 w xs.length (xs.map i64) fp)(r:dc H 1 u ys.length (ys.map i64))(hl:xs.length+ys.length≤1000000000000)
  (hk:∀w' H' cO,(∀b,cO=some b→B≤b)→Sl H' 1 w' (xs++ys).length ((xs++ys).map i64) cO→ag (fun z=>B≤z) H H'→K w' H'):
  fW T 1 8 [i64 0] w u H K:=by
 refine Sl.append s r rfl (rP ys) (by omega) ?_
 intro v' H' cO s' e' Oe
 refine hk v' H' cO (fun b hb=>?_) (by rw[anD,an8];exact s') ⟨e'.size,fun z hz hn=>e'.aM z hz (fun h=>hn (gu z h))⟩
 rcases Oe with h| ⟨b',jy,h1,h2⟩
 ·exact gu b (by rw[←h];exact hb)
 ·rw[hb]at jy;injection jy with jy;omega
theorem Sl.num{H:Hp}{a:Option Addr}{n c:Nat}{xs:List Int}{b:Nat}(h:Sl H 1 (.slice a n c) n (xs.map i64) (some b)){i:Nat}{x:Int}(hx:xs[i]? =some x):
  i<n∧a=some ⟨b,0,none⟩∧∃lb,H.own b=some lb∧lb[i]? =some (i64 x):=by
 have hl:=h.1
 rw[anQ,anw]at hl
 have hi:=(anu.1 hx).1
 obtain⟨_,l,c2,hs,ho,hc,oY,ht⟩:=h
 injection hs with eM K7 Gx
 refine⟨by omega,eM,l,ho,?_⟩
 have h7:(xs.map i64)[i]? =some (i64 x):=by rw[anR,hx];rfl
 rw[←ht,an9,if_pos (by omega)]at h7
 exact h7
theorem dc.get{H:Hp}{size n:Nat}{v:Value}{xs:List Value}(h:dc H size v n xs){i j:Nat}{x:Value}(hj:j<size)(hx:xs[i*size+j]? =some x):
  ∃b o c l,v= .slice (some ⟨b,o,none⟩) n c∧H.rd b=some l∧i<n∧l[o+i*size+j]? =some x:=by
 obtain⟨hl,⟨rfl,a,c,rfl⟩| ⟨b,o,c,l,rfl,h2,h3,h4⟩⟩:=h
 ·rw[anK (by omega)]at hx;cases hx
 ·have aO:i*size+j<n*size:=by
   have:=(anu.1 hx).1;omega
  refine⟨b,o,c,l,rfl,h2,?_,?_⟩
  ·rcases aoL i n with h|h
   ·exact h
   ·have:=aoT size h;omega
  ·rw[←h4,an3 aO,aob]at hx
   rw[←hx];congr 1;omega
def uA(a b:Int):Int:=if a<b then -1 else if b<a then 1 else 0
theorem kV(a:Int)(H:Hp):af Tryz.prog Aa [i64 a] H fun v H'=>aw (v= .bool false∧H=H'):=by
 refine bm Au ?_
 refine v1 aoi ?_
 exact⟨rfl,rfl⟩
theorem jP(a:Int)(H:Hp):af Tryz.prog yi [u64 a] H fun v H'=>aw (v= .bool false∧H=H'):=by
 refine bm yG ?_
 refine v1 aoi ?_
 exact⟨rfl,rfl⟩
theorem ja(a b:Int)(H:Hp):af Tryz.prog vF [i64 a,i64 b] H fun v H'=>aw (v=i64 (uA a b)∧H=H'):=by
 refine bm we ?_
 refine vs ?_
 refine(kV a H).mono ?_
 rintro _ _ ⟨rfl,rfl⟩
 refine vs ?_
 refine(kV b H).mono ?_
 rintro _ _ ⟨rfl,rfl⟩
 refine vs ?_
 refine am.dec (fun h=>?_) (fun h=>?_)<;>refine vs ?_
 ·exact⟨anP i64 (by simp[uA,h]),rfl⟩
 ·refine am.dec (fun h2=>?_) (fun h2=>?_)<;>refine vs ?_
  ·exact⟨anP i64 (by simp[uA,h,show b<a from h2]),rfl⟩
  ·exact⟨anP i64 (by simp[uA,h,show¬b<a from h2]),rfl⟩
theorem iC(a b:Int)(H:Hp):af Tryz.prog tT [u64 a,u64 b] H fun v H'=>aw (v=i64 (uA a b)∧H=H'):=by
 refine bm ue ?_
 refine vs ?_
 refine(jP a H).mono ?_
 rintro _ _ ⟨rfl,rfl⟩
 refine vs ?_
 refine(jP b H).mono ?_
 rintro _ _ ⟨rfl,rfl⟩
 refine vs ?_
 refine am.dec (fun h=>?_) (fun h=>?_)<;>refine vs ?_
 ·exact⟨anP i64 (by simp[uA,h]),rfl⟩
 ·refine am.dec (fun h2=>?_) (fun h2=>?_)<;>refine vs ?_
  ·exact⟨anP i64 (by simp[uA,h,show b<a from h2]),rfl⟩
  ·exact⟨anP i64 (by simp[uA,h,show¬b<a from h2]),rfl⟩
def Wo(xs:List Int):Int:=(xs.find? fun x=>x≠0).getD 0
theorem sF{H:Hp}{v:Value}{n:Nat}{xs:List Int}(h:dc H 1 v n (xs.map i64))(hn:n≤1000000)(hs:∃a c,v= .slice a n c):
  af Tryz.prog I8 [v] H fun r H'=>aw (r=i64 (Wo xs)∧H=H'):=by
 obtain⟨a,c,rfl⟩:=hs
 have aX:xs.length=n:=by have:=h.1;simpa using this
 refine bm Jf ?_
 refine vs ?_
 refine bk.intro (fun m env H1=>∃k:Nat,env=[(3,i64 0),(6,.slice a n c),(7,i64 n),(8,i64 k)]∧H1=H∧k≤n∧m=n - k∧∀j,j<k→xs[j]? =some 0) n ⟨0,rfl,rfl,by omega,by omega,fun j hj=>by omega⟩ ?_
 rintro m env H1 ⟨k,rfl,rfl,hk,rfl,hz⟩
 refine vs ?_
 refine am.dec (fun aO=>?_) (fun aO=>?_)<;>refine vs ?_
 ·have hkn:k<xs.length:=by omega
  obtain⟨b,o,c',l,hv,hr,_,hg⟩:=dc.get h (i:=k) (j:=0) (x:=i64 xs[k]) (by omega) (by simp[hkn])
  injection hv with e1 e2 e3
  subst e1
  refine⟨by omega,?_⟩
  simp only[anw,Nat.add_zero]at hg
  refine v4 hr Int.toNat_natCast anw hg ?_
  refine am.dec (fun h0=>?_) (fun h0=>?_)<;>refine vs ?_
  ·rw[wrap64 (by omega) (by omega)]
   refine⟨n - (k+1),by omega,k+1,rfl,trivial,by omega,rfl,fun j hj=>?_⟩
   by_cases e:j=k
   ·subst e;rw[ans hkn,h0]
   ·exact hz j (by omega)
  ·refine⟨anP i64 ?_,rfl⟩
   unfold Wo
   have:xs.find? (fun x=>x≠0)=some xs[k]:=by
    rw[List.find?_eq_some_iff_getElem]
    refine⟨by simpa using h0,k,hkn,rfl,fun j hj=>?_⟩
    have:=hz j hj
    rw[ans (by omega)]at this
    injection this with this
    simp[this]
   rw[this];rfl
 ·refine⟨anP i64 ?_,rfl⟩
  unfold Wo
  have:xs.find? (fun x=>x≠0)=none:=by
   rw[List.find?_eq_none]
   intro x hx
   obtain⟨j,hj,rfl⟩:=apl.1 hx
   have:=hz j (by omega)
   rw[ans hj]at this
   injection this with this
   simp[this]
  rw[this];rfl
def DW(k s k' s':Int):Int:=Wo [uA k k',uA s s']
def ep(k s k' s':Int):Prop:=k<k'∨k=k'∧s<s'
instance(k s k' s':Int):Decidable (ep k s k' s'):=by unfold ep;infer_instance
theorem Ld(k s k' s':Int):DW k s k' s'<0↔ep k s k' s':=by
 unfold DW ep Wo uA
 by_cases h1:k<k'
 ·simp[h1]
 ·by_cases h2:k'<k
  ·simp[h1,h2];omega
  ·by_cases h3:s<s'
   ·simp[h1,h2,h3];omega
   ·by_cases h4:s'<s
    ·simp[h1,h2,h3,h4]
    ·simp[h1,h2,h3,h4]
theorem nu(k s k' s':Int)(H:Hp):af Tryz.prog DF [tz k s,tz k' s'] H fun v H'=>aw (v=i64 (DW k s k' s')∧ai H H'):=by
 refine bm DM ?_
 refine vs ?_
 refine⟨_,(ja k k' _).mono fun _ _ h=>⟨h.out.1,h.out.2.symm⟩,?_⟩
 refine(iC s s' _).mono ?_
 rintro _ _ ⟨rfl,rfl⟩
 refine vs ?_
 refine(sF (n:=2) (xs:=[uA k k',uA s s']) (Sl.cf (size:=1) rfl (by simp only[aq])).rd (by omega) ⟨_,_,rfl⟩).mono ?_
 rintro _ _ ⟨rfl,rfl⟩
 exact⟨rfl,(((ag.refl _ _).new _ _).new _ _).new _ _⟩
theorem DX(k s k' s':Int)(H:Hp):af Tryz.prog Ja [tz k s,tz k' s'] H fun v H'=>aw (v= .bool (decide (ep k s k' s'))∧ai H H'):=by
 refine bm Jh ?_
 refine vs ?_
 refine(nu k s k' s' _).mono ?_
 rintro _ _ ⟨rfl,hf⟩
 refine vs ?_
 refine⟨anP Value.bool (by rw[decide_eq_decide];exact Ld _ _ _ _),?_⟩
 exact(((ag.refl _ _).new _ _).new _ _).trans hf
def fK(m n:Int):Int:=if n≤0 then m else if n>4611686018427387904 - m then 4611686018427387904 else m+n
theorem Cn{H:Hp}{b:Nat}{m:Int}{r:List Value}(h:H.own b=some (i64 m::r))(hm:0≤m∧m≤4611686018427387904)(n:Int)(hn:n≤4611686018427387904):
  af Tryz.prog vM [ptr b,i64 n] H fun v H'=>aw (v= .tuple [].toArray∧H'=H.wr b (i64 (fK m n)::r)∨v= .tuple [].toArray∧H'=H∧fK m n=m):=by
 refine bm wD ?_
 refine vs ?_
 refine am.dec (fun h0=>?_) (fun h0=>?_)<;>refine v1 (ae h) ?_
 ·exact .inr ⟨rfl,rfl,by simp[fK,h0]⟩
 ·rw[wrap64 (by omega) (by omega)]
  refine am.dec (fun h1=>?_) (fun h1=>?_)<;>refine v2 (ae h) h ?_
  ·exact .inl ⟨rfl,by rw[fK,if_neg h0,if_pos h1]⟩
  ·exact .inl ⟨rfl,by rw[fK,if_neg h0,if_neg h1,wrap64 (by omega) (by omega)]⟩
abbrev Ce:=Int×Int×Int
def cC(cs:List Ce):List Value:=cs.flatMap fun c=>[i64 c.1,i64 c.2.1,u64 c.2.2]
theorem jb(cs:List Ce):(cC cs).length=cs.length*3:=by
 induction cs with
 |nil=>rfl
 |cons c r ih=>simp only[cC,ao6,anD,anO,aoH]at*;omega
theorem Pw(n:Nat):cC (List.replicate n (0,0,0))=cA [.int .i64 0,.int .i64 0,.int .u64 0] n:=by
 simp[cC,cA,List.flatMap_def,apC]
theorem eJ.lt2{H:Hp}{b s len:Nat}{rt:Nat→Nat}{fJ:Int}(h:eJ H b s len rt fJ):s<H.size:=by
 obtain⟨⟨sv,cB,sj,a1,a2,a3⟩,_⟩:=h
 exact a2.lt
structure bG(H:Hp)(c:Nat)(S:Nat→Prop)(st:Int)(cs:List Ce)(len:Nat)(rt:Nat→Nat)(aR:Int→Option Int):Prop where
 TE:∃fb nb ns mb,H.own c=some [i64 st,.slice (some ⟨fb,0,none⟩) cs.length cs.length,ptr nb,.map (some mb)]∧H.own fb=some (cC cs)∧eJ H nb ns len rt 65536∧ly H mb (fun i=>(aR i).map i64)∧
  (S c∧S fb∧S nb∧S ns∧S mb)∧(c≠fb∧c≠nb∧c≠ns∧c≠mb)∧(fb≠nb∧fb≠ns∧fb≠mb)∧(nb≠mb∧ns≠mb)
 st0:0≤st
 SQ:st≤4611686018427387904
 DY:cs.length≤65536
 slt:∀x,S x→x<H.size
theorem bG.ext{H H':Hp}{c:Nat}{S T:Nat→Prop}{st:Int}{cs:List Ce}{len:Nat}{rt:Nat→Nat}{aR:Int→Option Int}(h:bG H c S st cs len rt aR)
  (e:ag T H H')(hd:∀x,S x→¬T x):bG H' c S st cs len rt aR:=by
 obtain⟨⟨fb,nb,ns,mb,a1,a2,a3,a4,⟨s1,s2,s3,s4,s5⟩,a6,a7⟩,h2,h3,h4,h5⟩:=h
 exact⟨⟨fb,nb,ns,mb,e.own a1 (hd _ s1),e.own a2 (hd _ s2),a3.ext e (hd _ s3) (hd _ s4),a4.ext e (hd _ s5),⟨s1,s2,s3,s4,s5⟩,a6,a7⟩,h2,h3,h4,fun x hx=>anT (h5 x hx) e.size⟩
theorem Fy(cap:Int)(H:Hp):af Tryz.prog tU [i64 cap] H fun v H'=>aw (
  ai H H'∧((¬ (0≤cap∧cap≤65536)∧v= .tuple [.pointer none,i64 31].toArray)∨
   (0≤cap∧cap≤65536)∧∃c S,v= .tuple [ptr c,i64 0].toArray∧bG H' c S 0 (List.replicate cap.toNat (0,0,0)) 1 id (fun _=>none)∧(∀x,S x→H.size≤x))):=by
 refine bm KW ?_
 refine vs ?_
 refine am.dec (fun h=>?_) (fun h=>?_)<;>refine vs ?_
 ·exact⟨ag.refl _ _,.inl ⟨by omega,rfl⟩⟩
 ·refine am.dec (fun h2=>?_) (fun h2=>?_)<;>refine vs ?_
  ·exact⟨ag.refl _ _,.inl ⟨by omega,rfl⟩⟩
  ·refine(Ft 65536 H).mono ?_
   rintro _ H1 ⟨hf,⟨hc,_⟩| ⟨_,nb,ns,rfl,hn,b1,b2,b3,b4⟩⟩
   ·omega
   refine vs ?_
   refine⟨by omega,?_⟩
   refine vs ?_
   have hs:(H1.new 343 (cA [.int .i64 0,.int .i64 0,.int .u64 0] cap.toNat)).own H1.size=some (cC (List.replicate cap.toNat (0,0,0))):=by
    rw[Pw]
    exact aB _ _ _
   have he:ag (fun _=>False) (H1.new 343 (cA [.int .i64 0,.int .i64 0,.int .u64 0] cap.toNat)) _:=
    ((ag.refl _ _).iI).new 308 [.int .i64 0,.slice (some ⟨H1.size,0,none⟩) cap.toNat cap.toNat,.pointer (some ⟨nb,0,none⟩),.map (some (H1.size+1))]
   have hm:ly (H1.new 343 (cA [.int .i64 0,.int .i64 0,.int .u64 0] cap.toNat)).iI (H1.size+1) (fun _=>none):=by
    have:=ly.new (H1.new 343 (cA [.int .i64 0,.int .i64 0,.int .u64 0] cap.toNat))
    rwa[aq]at this
   have Pp:=hf.size
   have hl:(List.replicate cap.toNat ((0,0,0):Ce)).length=cap.toNat:=aog
   refine⟨(hf.trans ((ag.refl _ _).new 343 _)).trans he,.inr ⟨by omega,H1.size+1+1,fun x=>H.size≤x∧x<H1.size+1+1+1,rfl,⟨⟨H1.size,nb,ns,H1.size+1,by rw[hl];exact aV (by simp only[aq,iA]),he.own hs (fun h=>h),
    (hn.ext ((ag.refl (fun _=>False) _).new 343 _) (fun h=>h) (fun h=>h)).ext he (fun h=>h) (fun h=>h),hm.ext ((ag.refl (fun _=>False) _).new _ _) (fun h=>h),?_,?_,?_,?_⟩,by omega,by omega,by omega,?_⟩,fun x h=>h.1⟩⟩
   ·exact⟨by omega,by omega,by omega,by omega,by omega⟩
   ·exact⟨by omega,by omega,by omega,by omega⟩
   ·exact⟨by omega,by omega,by omega⟩
   ·exact⟨by omega,by omega⟩
   ·intro x hx
    simp only[aq,iA]
    exact hx.2
theorem uB{H:Hp}{c:Nat}{S:Nat→Prop}{st:Int}{cs:List Ce}{len:Nat}{rt:Nat→Nat}{aR:Int→Option Int}(h:bG H c S st cs len rt aR)(i:Int):
  af Tryz.prog bD [ptr c,i64 i] H fun v H'=>aw (v= .bool (decide (0<i∧i<len∧rt i.toNat=i.toNat))∧H=H'):=by
 obtain⟨⟨fb,nb,ns,mb,a1,a2,a3,a4,a5,a6,a7⟩,h2,h3,h4,h5⟩:=h
 refine bm Ax ?_
 refine v1 (ae a1) ?_
 refine(Fv a3 i).mono ?_
 rintro _ _ ⟨rfl,rfl⟩
 refine vs ?_
 exact⟨rfl,rfl⟩
def dG(aR:Int→Option Int)(i:Int):Int:=(aR i).getD 0
theorem Fz{H:Hp}{c:Nat}{S:Nat→Prop}{st:Int}{cs:List Ce}{len:Nat}{rt:Nat→Nat}{aR:Int→Option Int}(h:bG H c S st cs len rt aR)(i:Int):
  af Tryz.prog iO [ptr c,i64 i] H fun v H'=>aw (v=i64 (dG aR i)∧H=H'):=by
 obtain⟨⟨fb,nb,ns,mb,a1,a2,a3,a4,a5,a6,a7⟩,h2,h3,h4,h5⟩:=h
 refine bm Ay ?_
 refine v2 (ae a1) a4.look ?_
 refine⟨?_,rfl⟩
 unfold dG
 cases aR i<;>rfl
theorem qd{H:Hp}{c:Nat}{S:Nat→Prop}{st:Int}{cs:List Ce}{len:Nat}{rt:Nat→Nat}{aR:Int→Option Int}(h:bG H c S st cs len rt aR)(i:Int):
  af Tryz.prog vL [ptr c,i64 i] H fun v H'=>aw (v= .bool (decide (0≤i∧i<cs.length))∧H=H'):=by
 obtain⟨⟨fb,nb,ns,mb,a1,a2,a3,a4,a5,a6,a7⟩,h2,h3,h4,h5⟩:=h
 refine bm wA ?_
 refine vs ?_
 refine am.dec (fun h=>?_) (fun h=>?_)<;>refine v1 (ae a1) ?_
 ·exact⟨anP Value.bool (by rw[decide_eq_decide];omega),rfl⟩
 ·exact⟨anP Value.bool (anV (by omega)).symm,rfl⟩
theorem vm{cs:List Ce}{i:Nat}{c:Ce}(hi:cs[i]? =some c):
  (cC cs)[i*3]? =some (i64 c.1)∧(cC cs)[i*3+1]? =some (i64 c.2.1)∧(cC cs)[i*3+2]? =some (u64 c.2.2)∧((cC cs).drop (i*3+1)).take 2=[i64 c.2.1,u64 c.2.2]:=by
 have hx:∀ (cs:List Ce) (i:Nat) (c:Ce),cs[i]? =some c→(cC cs)[i*3]? =some (i64 c.1)∧(cC cs)[i*3+1]? =some (i64 c.2.1)∧(cC cs)[i*3+2]? =some (u64 c.2.2):=by
  intro cs
  induction cs with
  |nil=>intro i c h;simp at h
  |cons a r ih=>
   intro i c h
   have e:cC (a::r)=i64 a.1::i64 a.2.1::u64 a.2.2::cC r:=rfl
   rw[e]
   cases i with
   |zero=>simp at h;subst h;exact⟨rfl,rfl,rfl⟩
   |succ i=>
    have:=ih i c (by simpa using h)
    rw[show(i+1)*3=i*3+3 by omega]
    simpa using this
 obtain⟨x0,x1,x2⟩:=hx cs i c hi
 refine⟨x0,x1,x2,?_⟩
 apply aoo
 intro k
 rw[an9]
 match k with
 |0=>simpa using x1
 |1=>rw[if_pos (by omega),aob];exact x2
 |k+2=>rw[if_neg (by omega)];rfl
def cT(cs:List Ce)(i:Int):Prop:=0≤i∧∃c,cs[i.toNat]? =some c∧0<c.1
instance(cs:List Ce)(i:Int):Decidable (cT cs i):=
 match h:cs[i.toNat]? with
 |none=>.isFalse fun⟨_,c,h1,_⟩=>by rw[h]at h1;simp at h1
 |some c=>if h0:0≤i∧0<c.1 then .isTrue ⟨h0.1,c,h,h0.2⟩else .isFalse fun⟨h1,c',h2,h3⟩=>by rw[h]at h2;injection h2 with h2;subst h2;exact h0 ⟨h1,h3⟩
theorem eY{H:Hp}{c:Nat}{S:Nat→Prop}{st:Int}{cs:List Ce}{len:Nat}{rt:Nat→Nat}{aR:Int→Option Int}(h:bG H c S st cs len rt aR)(i:Int):
  af Tryz.prog BY [ptr c,i64 i] H fun v H'=>aw (v= .bool (decide (cT cs i))∧H=H'):=by
 have ht:=qd h i
 obtain⟨⟨fb,nb,ns,mb,a1,a2,a3,a4,a5,a6,a7⟩,h2,h3,h4,h5⟩:=h
 refine bm Cb ?_
 refine vs ?_
 refine ht.mono ?_
 rintro _ _ ⟨rfl,rfl⟩
 refine vs ?_
 refine am.dec (fun h=>?_) (fun h=>?_)<;>refine v1 (ae a1) ?_
 ·obtain⟨x,hx⟩:∃x,cs[i.toNat]? =some x:=⟨_,ans (by omega)⟩
  obtain⟨x0,x1,x2,x3⟩:=vm hx
  refine⟨by omega,?_⟩
  refine v4 (ae a2) x0 Nat.add_zero ant ?_
  exact⟨anP Value.bool (by rw[decide_eq_decide];exact⟨fun hh=>⟨h.1,x,hx,hh⟩,fun⟨_,c,e1,e2⟩=>by rw[hx]at e1;injection e1 with e1;subst e1;exact e2⟩),rfl⟩
 ·exact⟨anP Value.bool (anV (by rintro⟨x,c,x1,x2⟩;have:=(anu.1 x1).1;omega)).symm,rfl⟩
theorem Io(cs:List Ce)(i:Nat)(c:Ce)(hi:i<cs.length):bh (cC cs) (i*3) [i64 c.1,i64 c.2.1,u64 c.2.2]=cC (cs.set i c):=by
 simp only[bh]
 induction cs generalizing i with
 |nil=>simp at hi
 |cons a r ih=>
  have e:cC (a::r)=i64 a.1::i64 a.2.1::u64 a.2.2::cC r:=rfl
  cases i with
  |zero=>rfl
  |succ i=>
   have e2:cC ((a::r).set (i+1) c)=i64 a.1::i64 a.2.1::u64 a.2.2::cC (r.set i c):=rfl
   rw[e,e2,show(i+1)*3=i*3+1+1+1 by omega]
   simp only[aoe]
   rw[ih i (by simpa using hi)]
theorem DZ{H:Hp}{c:Nat}{S:Nat→Prop}{st:Int}{cs:List Ce}{len:Nat}{rt:Nat→Nat}{aR:Int→Option Int}(h:bG H c S st cs len rt aR):
  af Tryz.prog dq [ptr c] H fun v H'=>aw (
   (len=65537∧v=i64 0∧H=H')∨
   (len≠65537∧v=i64 len∧∃S',bG H' c S' st cs (len+1) (fun i=>if i=len then i else rt i) aR∧ag S H H'∧∀x,S' x→S x∨H.size≤x)):=by
 obtain⟨⟨fb,nb,ns,mb,a1,a2,a3,a4,a5,a6,a7⟩,h2,h3,h4,h5⟩:=h
 refine bm yR ?_
 refine v1 (ae a1) ?_
 refine(DU a3).mono ?_
 rintro _ H1 (⟨hl,rfl,rfl⟩| ⟨hl,rfl,s',b1,b2,b3⟩)
 ·refine vs ?_
  exact .inl ⟨by omega,rfl,rfl⟩
 ·refine vs ?_
  obtain⟨s1,s2,s3,s4,s5⟩:=a5
  obtain⟨d1,d2,d3,d4⟩:=a6
  obtain⟨⟨d5,d6,d7⟩,d8,d9⟩:=a7
  have l1:=aA a1
  have l2:=aA a2
  have l3:=a4.lt
  refine .inr ⟨by omega,rfl,fun x=>S x∨x=s',⟨⟨fb,nb,s',mb,b2.own a1 (by omega),b2.own a2 (by omega),b1,a4.ext b2 (by omega),⟨.inl s1,.inl s2,.inl s3,.inr rfl,.inl s5⟩,⟨d1,d2,by omega,d4⟩,⟨d5,by omega,d7⟩,d8,by omega⟩,h2,h3,h4,fun x hx=>hx.elim (fun h=>anT (h5 x h) b2.size) (fun h=>by rw[h];exact b1.lt2)⟩,
   b2.mono (fun x _ hx=>hx.elim (fun e=>e▸s3) (fun e=>e▸s4)),?_⟩
  rintro x (hx|rfl)
  ·exact .inl hx
  ·rcases b3 with rfl|b3
   ·exact .inl s4
   ·exact .inr b3.1
theorem FA{H:Hp}{c:Nat}{S:Nat→Prop}{st:Int}{cs:List Ce}{len:Nat}{rt:Nat→Nat}{aR:Int→Option Int}(h:bG H c S st cs len rt aR)(g i k s:Int)
  (hm:dG aR g≤1000000∧0≤dG aR g):
  af Tryz.prog iP [ptr c,i64 g,i64 i,tz k s] H fun v H'=>aw (
   let ok:=(0<g∧g<len∧rt g.toNat=g.toNat)∧(0≤i∧i<cs.length)∧¬cT cs i
   (¬ok∧v= .bool false∧bG H' c S st cs len rt aR∧ag S H H')∨
   (ok∧v= .bool true∧bG H' c S st (cs.set i.toNat (g,k,s)) len rt (fun j=>if j=g then some (dG aR g+1)else aR j)∧ag S H H')):=by
 have lu:ag (fun _=>False) H (H.new 224 [i64 k,u64 s]):=(ag.refl _ _).new _ _
 have h':=h.ext lu (fun _ _ h=>h)
 refine bm AA ?_
 simp(disch:=(first|omega| (simp only[Zs]<;>omega)|fail)) only[go_sem, ↓reduceIte,Zv,tz]
 refine(uB h' g).mono ?_
 rintro _ _ ⟨rfl,rfl⟩
 refine vs ?_
 have Ro:∀v,v=Value.bool false→¬ ((0<g∧g<len∧rt g.toNat=g.toNat)∧(0≤i∧i<cs.length)∧¬cT cs i)→
   ((¬ ((0<g∧g<len∧rt g.toNat=g.toNat)∧(0≤i∧i<cs.length)∧¬cT cs i)∧v= .bool false∧bG (H.new 224 [i64 k,u64 s]) c S st cs len rt aR∧ag S H (H.new 224 [i64 k,u64 s]))∨
   (((0<g∧g<len∧rt g.toNat=g.toNat)∧(0≤i∧i<cs.length)∧¬cT cs i)∧v= .bool true∧bG (H.new 224 [i64 k,u64 s]) c S st (cs.set i.toNat (g,k,s)) len rt (fun j=>if j=g then some (dG aR g+1)else aR j)∧ag S H (H.new 224 [i64 k,u64 s]))):=
  fun v hv hn=>.inl ⟨hn,hv,h',(ag.refl _ _).new _ _⟩
 refine am.dec (fun hg=>?_) (fun hg=>?_)<;>refine vs ?_
 ·refine(qd h' i).mono ?_
  rintro _ _ ⟨rfl,rfl⟩
  refine vs ?_
  refine am.dec (fun hi=>?_) (fun hi=>?_)<;>refine vs ?_
  ·refine(eY h' i).mono ?_
   rintro _ _ ⟨rfl,rfl⟩
   refine vs ?_
   refine am.dec (fun bJ=>?_) (fun bJ=>?_)<;>refine vs ?_
   ·exact Ro _ rfl (fun hc=>hc.2.2 bJ)
   ·obtain⟨⟨fb,nb,ns,mb,a1,a2,a3,a4,a5,a6,a7⟩,h2,h3,h4,h5⟩:=h'
    refine v1 (ae a1) ?_
    refine⟨by omega,?_⟩
    refine v1 a2 ?_
    refine⟨by rw[jb];omega,?_⟩
    rw[show bh (cC cs) (i.toNat*3) (aH (Value.agg #[Value.int .i64 g,i64 k,u64 s]))=cC (cs.set i.toNat (g,k,s))from Io cs i.toNat (g,k,s) (by omega)]
    obtain⟨s1,s2,s3,s4,s5⟩:=a5
    obtain⟨d1,d2,d3,d4⟩:=a6
    obtain⟨⟨d5,d6,d7⟩,d8,d9⟩:=a7
    have e1:ag (fun x=>x=fb) (H.new 224 [i64 k,u64 s]) ((H.new 224 [i64 k,u64 s]).wr fb (cC (cs.set i.toNat (g,k,s)))):=(ag.refl (fun x=>x=fb) _).wr (fun _=>rfl) _
    have a1':=e1.own a1 d1
    have Wd:((H.new 224 [i64 k,u64 s]).wr fb (cC (cs.set i.toNat (g,k,s)))).own fb=_:=ah a2
    have a3':=a3.ext e1 (Ne.symm d5) (Ne.symm d6)
    have a4':=a4.ext e1 (Ne.symm d7)
    have el:gR false (Value.int .i64 0) ((aR g).map i64)=i64 (dG aR g):=by unfold dG;cases aR g<;>rfl
    refine v3 (ae a1') a4'.look el ?_
    rw[wrap64 (by omega) (by omega)]
    refine a4'.YA fun H2 m2 e2=>?_
    refine vs ?_
    refine .inr ⟨⟨hg,hi,bJ⟩,rfl,⟨⟨fb,nb,ns,mb,by rw[anv];exact e2.own a1' d4,e2.own Wd d7,a3'.ext e2 d8 d9,?_,⟨s1,s2,s3,s4,s5⟩,⟨d1,d2,d3,d4⟩,⟨d5,d6,d7⟩,d8,d9⟩,h2,h3,by rw[anv];exact h4,fun x hx=>anT (h5 x hx) (aor e1.size e2.size)⟩,?_⟩
    ·have:(fun j=>Option.map i64 (if j=g then some (dG aR g+1)else aR j))=I1 (fun j=>(aR j).map i64) g (i64 (dG aR g+1)):=by
      funext j;unfold I1;by_cases hj:j=g<;>simp[hj]
     rw[this];exact m2
    ·exact(((ag.refl S H).new 224 [i64 k,u64 s]).trans (e1.mono fun x _ hx=>hx▸s2)).trans (e2.mono fun x _ hx=>hx▸s5)
  ·exact Ro _ rfl (fun hc=>hi hc.2.1)
 ·exact Ro _ rfl (fun hc=>hg hc.1)
theorem Px{m n:Int}(h0:0≤m)(h1:m≤4611686018427387904):0≤fK m n∧fK m n≤4611686018427387904:=by
 unfold fK;split
 ·exact⟨h0,h1⟩
 ·split<;>omega
def ze(a b:Int)(x y:Ce):Prop:=DW x.2.1 x.2.2 y.2.1 y.2.2<0∨DW x.2.1 x.2.2 y.2.1 y.2.2=0∧a<b
instance(a b:Int)(x y:Ce):Decidable (ze a b x y):=inferInstanceAs (Decidable (_∨_∧_))
theorem Co{H:Hp}{c:Nat}{S:Nat→Prop}{st:Int}{cs:List Ce}{len:Nat}{rt:Nat→Nat}{aR:Int→Option Int}(h:bG H c S st cs len rt aR)(a b:Int):
  af Tryz.prog cJ [ptr c,i64 a,i64 b] H fun v H'=>aw (
   (¬ (cT cs a∧cT cs b)∧v= .bool false∧H=H')∨
   (cT cs a∧cT cs b)∧∃x y,cs[a.toNat]? =some x∧cs[b.toNat]? =some y∧v= .bool (decide (ze a b x y))∧bG H' c S (fK st 1) cs len rt aR∧ag S H H'):=by
 have h':=h
 obtain⟨⟨fb,nb,ns,mb,a1,a2,a3,a4,a5,a6,a7⟩,h2,h3,h4,h5⟩:=h
 refine bm wB ?_
 refine vs ?_
 refine(eY h' a).mono ?_
 rintro _ _ ⟨rfl,rfl⟩
 refine vs ?_
 refine am.dec (fun ha=>?_) (fun ha=>?_)<;>refine vs ?_
 ·refine(eY h' b).mono ?_
  rintro _ _ ⟨rfl,rfl⟩
  refine vs ?_
  refine am.dec (fun hb=>?_) (fun hb=>?_)<;>refine vs ?_
  ·obtain⟨TH,x,hx,fZ⟩:=id ha
   obtain⟨Q0,y,hy,Wp⟩:=id hb
   refine(Cn a1 ⟨h2,h3⟩ 1 (by omega)).mono ?_
   rintro v H1 hH
   obtain⟨rfl,b1,b2,b3,b4⟩:v= .tuple [].toArray∧H1.own c=some [i64 (fK st 1),.slice (some ⟨fb,0,none⟩) cs.length cs.length,ptr nb,.map (some mb)]∧H1.own fb=some (cC cs)∧bG H1 c S (fK st 1) cs len rt aR∧ag S H H1:=by
    have tK:=Px (n:=1) h2 h3
    rcases hH.out with ⟨rfl,rfl⟩| ⟨rfl,rfl,hs⟩
    ·obtain⟨s1,s2,s3,s4,s5⟩:=a5
     obtain⟨d1,d2,d3,d4⟩:=a6
     have e1:ag (fun x=>x=c) H (H.wr c [i64 (fK st 1),.slice (some ⟨fb,0,none⟩) cs.length cs.length,ptr nb,.map (some mb)]):=(ag.refl (fun x=>x=c) _).wr (fun _=>rfl) _
     exact⟨rfl,ah a1,e1.own a2 (Ne.symm d1),⟨⟨fb,nb,ns,mb,ah a1,e1.own a2 (Ne.symm d1),a3.ext e1 (Ne.symm d2) (Ne.symm d3),a4.ext e1 (Ne.symm d4),⟨s1,s2,s3,s4,s5⟩,⟨d1,d2,d3,d4⟩,a7⟩,tK.1,tK.2,h4,fun x hx=>anT (h5 x hx) e1.size⟩,e1.mono fun x _ hx=>hx▸s1⟩
    ·rw[hs]
     exact⟨rfl,a1,a2,h',ag.refl _ _⟩
   have al:=(anu.1 hx).1
   have bl:=(anu.1 hy).1
   obtain⟨x1,x2,x3,x4⟩:=vm hx
   obtain⟨y1,y2,y3,y4⟩:=vm hy
   have fl:=jb cs
   refine v1 (ae b1) ?_
   refine⟨by omega,?_⟩
   refine v3 (ae b1) (ae b2) x4 ?_
   refine⟨by omega,?_⟩
   refine v2 (ae b1) x4 ?_
   refine⟨by omega,?_⟩
   refine v3 (ae b1) (ae b2) y4 ?_
   refine⟨by omega,?_⟩
   refine v2 x4 y4 ?_
   refine(nu x.2.1 x.2.2 y.2.1 y.2.2 _).mono ?_
   rintro _ H2 ⟨rfl,hf⟩
   refine vs ?_
   have b5:=b3.ext hf (fun _ _ h=>h)
   have b6:=b4.trans (hf.mono fun _ _ h=>h.elim)
   refine am.dec (fun aO=>?_) (fun aO=>?_)<;>refine vs ?_
   ·exact .inr ⟨⟨ha,hb⟩,x,y,hx,hy,anP Value.bool (anI (show ze a b x y from .inl aO)).symm,b5,b6⟩
   ·refine am.dec (fun heq=>?_) (fun heq=>?_)<;>refine vs ?_
    ·exact .inr ⟨⟨ha,hb⟩,x,y,hx,hy,anP Value.bool (by rw[decide_eq_decide];exact⟨fun hh=>.inr ⟨heq,hh⟩,fun hh=>hh.elim (fun e=>absurd e aO) (·.2)⟩),b5,b6⟩
    ·exact .inr ⟨⟨ha,hb⟩,x,y,hx,hy,anP Value.bool (anV (show¬ze a b x y from fun hh=>hh.elim aO (fun e=>heq e.1))).symm,b5,b6⟩
  ·exact .inl ⟨fun hc=>hb hc.2,rfl,rfl⟩
 ·exact .inl ⟨fun hc=>ha hc.1,rfl,rfl⟩
theorem bG.names{H H1:Hp}{c:Nat}{S:Nat→Prop}{st:Int}{cs:List Ce}{len:Nat}{rt rt':Nat→Nat}{aR:Int→Option Int}{fb nb ns mb:Nat}(h:bG H c S st cs len rt aR)
  (a1:H.own c=some [i64 st,.slice (some ⟨fb,0,none⟩) cs.length cs.length,ptr nb,.map (some mb)])(a2:H.own fb=some (cC cs))(a4:ly H mb (fun i=>(aR i).map i64))
  (a5:S c∧S fb∧S nb∧S ns∧S mb)(a6:c≠fb∧c≠nb∧c≠ns∧c≠mb)(a7:fb≠nb∧fb≠ns∧fb≠mb)(a8:nb≠mb∧ns≠mb)
  (n:eJ H1 nb ns len rt' 65536)(e:ag (fun x=>x=nb∨x=ns) H H1):
  bG H1 c S st cs len rt' aR∧ag S H H1∧H1.own c=some [i64 st,.slice (some ⟨fb,0,none⟩) cs.length cs.length,ptr nb,.map (some mb)]∧ly H1 mb (fun i=>(aR i).map i64):=by
 obtain⟨s1,s2,s3,s4,s5⟩:=a5
 have b1:=e.own a1 (by omega)
 have b4:=a4.ext e (by omega)
 exact⟨⟨⟨fb,nb,ns,mb,b1,e.own a2 (by omega),n,b4,⟨s1,s2,s3,s4,s5⟩,a6,a7,a8⟩,h.st0,h.SQ,h.DY,fun x hx=>anT (h.slt x hx) e.size⟩,e.mono fun x _ hx=>hx.elim (fun h=>h▸s3) (fun h=>h▸s4),b1,b4⟩
theorem sG{H:Hp}{c:Nat}{S:Nat→Prop}{st:Int}{cs:List Ce}{len:Nat}{rt:Nat→Nat}{aR:Int→Option Int}(h:bG H c S st cs len rt aR)(hl:∀x∈cs,x.1<len)(i:Int):
  af Tryz.prog hY [ptr c,i64 i] H fun v H'=>aw (
   (¬cT cs i∧v= .tuple [i64 0,.bool false].toArray∧H=H')∨
   (cT cs i∧∃x,cs[i.toNat]? =some x∧v= .tuple [i64 (rt x.1.toNat),.bool true].toArray∧bG H' c S st cs len rt aR∧ag S H H')):=by
 have h':=h
 obtain⟨⟨fb,nb,ns,mb,a1,a2,a3,a4,a5,a6,a7,a8⟩,h2,h3,h4,h5⟩:=h
 refine bm yO ?_
 refine vs ?_
 refine(eY h' i).mono ?_
 rintro _ _ ⟨rfl,rfl⟩
 refine vs ?_
 refine am.dec (fun hi=>?_) (fun hi=>?_)<;>refine vs ?_
 ·obtain⟨FC,x,hx,fZ⟩:=id hi
  have my:=(anu.1 hx).1
  obtain⟨x1,x2,x3,x4⟩:=vm hx
  refine v1 (ae a1) ?_
  refine⟨by omega,?_⟩
  refine v4 (ae a2) x1 Nat.add_zero ant ?_
  refine(DV a3 x.1).mono ?_
  rintro _ H1 (⟨hn,_⟩| ⟨_,rfl,n1,e1⟩)
  ·exact absurd ⟨fZ,hl x (anz hx)⟩ hn
  refine vs ?_
  obtain⟨b1,b2,_⟩:=h'.names a1 a2 a4 a5 a6 a7 a8 n1 e1
  exact .inr ⟨hi,x,hx,rfl,b1,b2⟩
 ·exact .inl ⟨hi,rfl,rfl⟩
theorem Cp{H:Hp}{c:Nat}{S:Nat→Prop}{st:Int}{cs:List Ce}{len:Nat}{rt:Nat→Nat}{aR:Int→Option Int}(h:bG H c S st cs len rt aR)(i:Int):
  af Tryz.prog bc [ptr c,i64 i] H fun v H'=>aw (bG H' c S st cs len rt aR∧ai H H'∧(
   (¬cT cs i∧v= .tuple [tz 0 0,.bool false].toArray)∨
   (cT cs i∧∃x,cs[i.toNat]? =some x∧v= .tuple [tz x.2.1 x.2.2,.bool true].toArray))):=by
 have e0:ai H (H.new 224 [.int .i64 0,.int .u64 0]):=(ag.refl _ _).new _ _
 have h':=h.ext e0 (fun _ _ h=>h)
 refine bm ww ?_
 refine vs ?_
 refine(eY h' i).mono ?_
 rintro _ _ ⟨rfl,rfl⟩
 refine vs ?_
 refine am.dec (fun hi=>?_) (fun hi=>?_)<;>refine vs ?_
 ·obtain⟨FC,x,hx,fZ⟩:=id hi
  have my:=(anu.1 hx).1
  obtain⟨x1,x2,x3,x4⟩:=vm hx
  have fl:=jb cs
  obtain⟨⟨fb,nb,ns,mb,a1,a2,a3,a4,a5,a6,a7,a8⟩,h2,h3,h4,h5⟩:=id h'
  refine v1 (ae a1) ?_
  refine⟨by omega,?_⟩
  refine v1 (ae a2) ?_
  refine⟨by omega,?_⟩
  simp(disch:=(first|omega| (simp only[Zs]<;>omega)|fail)) only[go_sem, ↓reduceIte,Zv,x4,rM (aB H 224 [.int .i64 0,.int .u64 0])]
  have e1:ai H ((H.new 224 [.int .i64 0,.int .u64 0]).wr H.size [i64 x.2.1,u64 x.2.2]):=e0.wr (fun h=>absurd h (Nat.lt_irrefl _)) _
  exact⟨h.ext e1 (fun _ _ h=>h),e1,.inr ⟨hi,x,hx,rfl⟩⟩
 ·simp(disch:=(first|omega| (simp only[Zs]<;>omega)|fail)) only[go_sem, ↓reduceIte,Zv,rM (aB H 224 [.int .i64 0,.int .u64 0])]
  have e1:ai H ((H.new 224 [.int .i64 0,.int .u64 0]).wr H.size [.int .i64 0,.int .u64 0]):=e0.wr (fun h=>absurd h (Nat.lt_irrefl _)) _
  exact⟨h.ext e1 (fun _ _ h=>h),e1,.inl ⟨hi,rfl⟩⟩
def cU(m:Int→Option Int)(i n:Int):Int→Option Int:=fun j=>if j=i then some n else m j
def rQ(m:Int→Option Int)(i:Int):Int→Option Int:=fun j=>if j=i then none else m j
theorem Le(m:Int→Option Int)(i n:Int):I1 (fun j=>(m j).map i64) i (i64 n)=fun j=>(cU m i n j).map i64:=by
 funext j;unfold I1 cU;by_cases hj:j=i<;>simp[hj]
theorem Lf(m:Int→Option Int)(i:Int):MF (fun j=>(m j).map i64) i=fun j=>(rQ m i j).map i64:=by
 funext j;unfold MF rQ;by_cases hj:j=i<;>simp[hj]
theorem Dk(m:Int→Option Int)(g:Int):gR false (Value.int .i64 0) ((m g).map i64)=i64 (dG m g):=by
 unfold dG;cases m g<;>rfl
theorem D1{H:Hp}{c:Nat}{S:Nat→Prop}{st:Int}{cs:List Ce}{len:Nat}{rt:Nat→Nat}{aR:Int→Option Int}(h:bG H c S st cs len rt aR)(hl:∀x∈cs,x.1<len)(i:Int)(hm:∀j,0≤dG aR j∧dG aR j≤1000000):
  af Tryz.prog hZ [ptr c,i64 i] H fun v H'=>aw (
   (¬cT cs i∧v= .bool false∧H=H')∨
   (cT cs i∧v= .bool true∧∃x,cs[i.toNat]? =some x∧
    bG H' c S st (cs.set i.toNat (0,0,0)) len rt (if dG aR (rt x.1.toNat) - 1=0 then rQ (cU aR (rt x.1.toNat) (dG aR (rt x.1.toNat) - 1)) (rt x.1.toNat)else cU aR (rt x.1.toNat) (dG aR (rt x.1.toNat) - 1))∧ag S H H')):=by
 refine bm yQ ?_
 refine vs ?_
 refine(sG h hl i).mono ?_
 rintro _ H1 (⟨hi,rfl,rfl⟩| ⟨hi,x,hx,rfl,b1,b2⟩)
 ·refine vs ?_
  exact .inl ⟨hi,rfl,rfl⟩
 ·have my:=(anu.1 hx).1
  have FC:=hi.1
  have fl:=jb cs
  obtain⟨⟨fb,nb,ns,mb,a1,a2,a3,a4,a5,a6,a7,a8⟩,h2,h3,h4,h5⟩:=b1
  have hmg:=hm (rt x.1.toNat)
  refine v1 (ae a1) ?_
  refine⟨by omega,?_⟩
  refine v1 a2 ?_
  refine⟨by omega,?_⟩
  rw[show bh (cC cs) (i.toNat*3) (aH (Value.agg #[Value.int .i64 0,Value.int .i64 0,Value.int .u64 0]))=cC (cs.set i.toNat (0,0,0))from Io cs i.toNat (0,0,0) (by omega)]
  have e2:ag (fun x=>x=fb) H1 (H1.wr fb (cC (cs.set i.toNat (0,0,0)))):=(ag.refl (fun x=>x=fb) _).wr (fun _=>rfl) _
  have c1:=e2.own a1 a6.1
  have c2:(H1.wr fb (cC (cs.set i.toNat (0,0,0)))).own fb=_:=ah a2
  have c3:=a3.ext e2 (Ne.symm a7.1) (Ne.symm a7.2.1)
  have c4:=a4.ext e2 (Ne.symm a7.2.2)
  refine v3 (ae c1) c4.look Dk ?_
  rw[wrap64 (by omega) (by omega)]
  refine c4.YA fun H2 m2 e3=>?_
  rw[Le]at m2
  have d1:=e3.own c1 a6.2.2.2
  have hs:dG (cU aR (rt x.1.toNat) (dG aR (rt x.1.toNat) - 1)) (rt x.1.toNat)=dG aR (rt x.1.toNat) - 1:=by simp[dG,cU]
  refine v4 (ae d1) m2.look Dk hs ?_
  have Gy:ag S H1 H2:=(e2.mono fun x _ hx=>hx▸a5.2.1).trans (e3.mono fun x _ hx=>hx▸a5.2.2.2.2)
  refine am.dec (fun h0=>?_) (fun h0=>?_)<;>refine v1 (ae d1) ?_
  ·refine m2.del fun H3 m3 e4=>?_
   rw[Lf]at m3
   refine vs ?_
   refine .inr ⟨hi,rfl,x,hx,?_,(b2.trans Gy).trans (e4.mono fun x _ hx=>hx▸a5.2.2.2.2)⟩
   rw[if_pos h0]
   exact⟨⟨fb,nb,ns,mb,by rw[anv];exact e4.own d1 a6.2.2.2,(e4.own (e3.own c2 a7.2.2) a7.2.2),(c3.ext e3 a8.1 a8.2).ext e4 a8.1 a8.2,m3,a5,a6,a7,a8⟩,h2,h3,by rw[anv];exact h4,fun x hx=>anT (h5 x hx) (aor Gy.size e4.size)⟩
  ·refine .inr ⟨hi,rfl,x,hx,?_,b2.trans Gy⟩
   rw[if_neg h0]
   exact⟨⟨fb,nb,ns,mb,by rw[anv];exact d1,e3.own c2 a7.2.2,c3.ext e3 a8.1 a8.2,m2,a5,a6,a7,a8⟩,h2,h3,by rw[anv];exact h4,fun x hx=>anT (h5 x hx) Gy.size⟩
theorem M2(cs:List Ce)(i:Nat)(x:Ce)(k s:Int)(hx:cs[i]? =some x):bh (cC cs) (i*3+1) [i64 k,u64 s]=cC (cs.set i (x.1,k,s)):=by
 simp only[bh]
 induction cs generalizing i with
 |nil=>simp at hx
 |cons a r ih=>
  have e:cC (a::r)=i64 a.1::i64 a.2.1::u64 a.2.2::cC r:=rfl
  cases i with
  |zero=>
   simp at hx
   subst hx
   rfl
  |succ i=>
   have e2:cC ((a::r).set (i+1) (x.1,k,s))=i64 a.1::i64 a.2.1::u64 a.2.2::cC (r.set i (x.1,k,s)):=rfl
   rw[e,e2,show(i+1)*3+1=i*3+1+1+1+1 by omega]
   simp only[aoe]
   rw[ih i (by simpa using hx)]
theorem Cq{H:Hp}{c:Nat}{S:Nat→Prop}{st:Int}{cs:List Ce}{len:Nat}{rt:Nat→Nat}{aR:Int→Option Int}(h:bG H c S st cs len rt aR)(i k s:Int):
  af Tryz.prog gB [ptr c,i64 i,tz k s] H fun v H'=>aw (
   (¬ (cT cs i∧∀x,cs[i.toNat]? =some x→¬ep x.2.1 x.2.2 k s)∧v= .bool false∧bG H' c S st cs len rt aR∧ai H H')∨
   (cT cs i∧v= .bool true∧∃x,cs[i.toNat]? =some x∧¬ep x.2.1 x.2.2 k s∧bG H' c S st (cs.set i.toNat (x.1,k,s)) len rt aR∧ag S H H')):=by
 have e0:ai H (H.new 224 [i64 k,u64 s]):=(ag.refl _ _).new _ _
 have h':=h.ext e0 (fun _ _ h=>h)
 refine bm wz ?_
 simp(disch:=(first|omega| (simp only[Zs]<;>omega)|fail)) only[go_sem, ↓reduceIte,Zv,tz]
 refine(eY h' i).mono ?_
 rintro _ _ ⟨rfl,rfl⟩
 refine vs ?_
 refine am.dec (fun hi=>?_) (fun hi=>?_)<;>refine vs ?_
 ·obtain⟨FC,x,hx,fZ⟩:=id hi
  have my:=(anu.1 hx).1
  obtain⟨x1,x2,x3,x4⟩:=vm hx
  have fl:=jb cs
  obtain⟨⟨fb,nb,ns,mb,a1,a2,a3,a4,a5,a6,a7,a8⟩,h2,h3,h4,h5⟩:=id h'
  refine v1 (ae a1) ?_
  refine⟨by omega,?_⟩
  refine v1 (ae a2) ?_
  refine⟨by omega,?_⟩
  refine v1 x4 ?_
  refine(DX x.2.1 x.2.2 k s _).mono ?_
  rintro _ H2 ⟨rfl,hf⟩
  have g1:=hf.own a1 (fun h=>h)
  have g2:=hf.own a2 (fun h=>h)
  have hr:=hf.own (aB H 224 [i64 k,u64 s]) (fun h=>h)
  refine vs ?_
  refine am.dec (fun fh=>?_) (fun fh=>?_)<;>refine vs ?_
  ·exact .inl ⟨fun hc=>hc.2 x hx fh,rfl,h'.ext hf (fun _ _ h=>h),e0.trans hf⟩
  ·refine v2 (ae g1) (ae hr) ?_
   refine⟨by omega,?_⟩
   refine v3 (ae g1) (ae hr) g2 ?_
   refine⟨by omega,?_⟩
   refine vs ?_
   have Gw:((cC cs).set (i.toNat*3+1) (i64 k)).set (i.toNat*3+1+1) (u64 s)=cC (cs.set i.toNat (x.1,k,s)):=M2 cs i.toNat x k s hx
   rw[Gw]
   have e3:ag (fun x=>x=fb) H2 (H2.wr fb (cC (cs.set i.toNat (x.1,k,s)))):=(ag.refl (fun x=>x=fb) _).wr (fun _=>rfl) _
   refine .inr ⟨hi,rfl,x,hx,fh,⟨⟨fb,nb,ns,mb,by rw[anv];exact e3.own g1 a6.1,ah g2,(a3.ext hf (fun h=>h) (fun h=>h)).ext e3 (Ne.symm a7.1) (Ne.symm a7.2.1),(a4.ext hf (fun h=>h)).ext e3 (Ne.symm a7.2.2),a5,a6,a7,a8⟩,h2,h3,by rw[anv];exact h4,fun x hx=>anT (h5 x hx) (aor hf.size e3.size)⟩,
    ((e0.trans hf).mono fun _ _ h=>h.elim).trans (e3.mono fun x _ hx=>hx▸a5.2.1)⟩
 ·exact .inl ⟨fun hc=>hi hc.1,rfl,h',e0⟩
end Go.Proofs.YtjlnnljohemifaaGreat
