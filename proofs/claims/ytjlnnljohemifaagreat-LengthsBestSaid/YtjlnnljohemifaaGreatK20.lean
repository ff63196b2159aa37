/- Texts put behind each other. -/
import Derived.Test.YtjlnnljohemifaaGreatK98
import Derived.Test.YtjlnnljohemifaaGreatK1
import Derived.Test.YtjlnnljohemifaaGreatK9
import Derived.Test.YtjlnnljohemifaaGreatK17
import Derived.Test.YtjlnnljohemifaaGreatK19
set_option linter.unusedVariables false
set_option linter.unusedSimpArgs false
namespace Go.Proofs.YtjlnnljohemifaaGreat
open Go Go.Vc
theorem FZ(l:List Int):j5 (l.map i64):=fun v hv=>by
 obtain⟨x,_,rfl⟩:=amJ.1 hv
 rfl
theorem EK{H:Hp}{T B:Nat}{w:Value}{xs:List Int}{fp:Option Nat}{K:Value→Hp→Prop}(mr:∀b,fp=some b→B≤b)(hB:B≤H.size)(s:Sl H 1 w xs.length (xs.map i64) fp)(x:Int)(hl:xs.length≤1000000000000)
  (hk:∀w' H' fL,(∀b,fL=some b→B≤b)→Sl H' 1 w' (xs++[x]).length ((xs++[x]).map i64) fL→ai (fun z=>B≤z) H H'→K w' H'):
  lR T 1 8 [i64 0] w (.slice (some ⟨H.size,0,none⟩) 1 1) (H.new T [i64 x]) K:=by
 have fl:ax H (H.new T [i64 x]):=(ai.refl _ _).new _ _
 refine Sl.append (s.ext fl (fun _ _ h=>h)) (Sl.dE (size:=1) (n:=1) (xs:=[i64 x]) rfl rfl).rd rfl (FZ [x]) (by omega) ?_
 intro v' H' fL s' e' Q1
 refine hk v' H' fL (fun b hb=>?_) (by rw[amh,amU];exact s') ⟨amM fl.size e'.size,fun z hz hn=>?_⟩
 ·rcases Q1 with h| ⟨b',wx,h1,h2⟩
  ·exact mr b (by rw[←h];exact hb)
  ·rw[hb]at wx;injection wx with wx;have:=fl.size;omega
 ·rw[e'.aN z (amv hz fl.size) (fun h=>hn (mr z h)),fl.aN z hz (fun h=>h)]
theorem aab{H:Hp}{T B b:Nat}{w:Value}{xs:List Int}{K:Value→Hp→Prop}(hb:B≤b)(hB:B≤H.size)(s:Sl H 1 w xs.length (xs.map i64) (some b))(x:Int)(hl:xs.length≤1000000000000)
  (hk:∀w' H' b',B≤b'→Sl H' 1 w' (xs++[x]).length ((xs++[x]).map i64) (some b')→ai (fun z=>B≤z) H H'→K w' H'):
  lR T 1 8 [i64 0] w (.slice (some ⟨H.size,0,none⟩) 1 1) (H.new T [i64 x]) K:=by
 refine EK (fun b' h=>by injection h with h;omega) hB s x hl fun w' H' fL hf s' e'=>?_
 cases fL with
 |none=>
  obtain⟨_,h0,_⟩:=s'
  simp at h0
 |some b'=>exact hk w' H' b' (hf b' rfl) s' e'
theorem RU{H:Hp}{T b:Nat}{w:Value}{xs:List Int}{K:Value→Hp→Prop}(s:Sl H 1 w xs.length (xs.map i64) (some b))(x:Int)(hl:xs.length≤1000000000000)
  (hk:∀w' H' b',(b'=b∨H.size≤b')→Sl H' 1 w' (xs++[x]).length ((xs++[x]).map i64) (some b')→ai (fun z=>z=b) H H'→K w' H'):
  lR T 1 8 [i64 0] w (.slice (some ⟨H.size,0,none⟩) 1 1) (H.new T [i64 x]) K:=by
 have fl:ax H (H.new T [i64 x]):=(ai.refl _ _).new _ _
 refine Sl.append (s.ext fl (fun _ _ h=>h)) (Sl.dE (size:=1) (n:=1) (xs:=[i64 x]) rfl rfl).rd rfl (FZ [x]) (by omega) ?_
 intro v' H' fL s' e' Q1
 have e2:ai (fun z=>z=b) H H':=⟨amM fl.size e'.size,fun z hz hn=>by
  rw[e'.aN z (amv hz fl.size) (fun h=>hn (by injection h with h;exact h.symm)),fl.aN z hz (fun h=>h)]⟩
 have s2:Sl H' 1 v' (xs++[x]).length ((xs++[x]).map i64) fL:=by rw[amh,amU];exact s'
 rcases Q1 with rfl| ⟨b',rfl,h1,h2⟩
 ·exact hk v' H' b (.inl rfl) s2 e2
 ·rw[au]at h1
  exact hk v' H' b' (.inr (by omega)) s2 e2
theorem Sl.num{H:Hp}{a:Option Addr}{n c:Nat}{xs:List Int}{b:Nat}(h:Sl H 1 (.slice a n c) n (xs.map i64) (some b)){i:Nat}{x:Int}(hx:xs[i]? =some x):
  i<n∧a=some ⟨b,0,none⟩∧∃lb,H.own b=some lb∧lb[i]? =some (i64 x):=by
 have hl:=h.1
 rw[amu,ama]at hl
 have hi:=(al7.1 hx).1
 obtain⟨_,l,c2,hs,ho,hc,zU,ht⟩:=h
 injection hs with eR ON IL
 refine⟨by omega,eR,l,ho,?_⟩
 have h7:(xs.map i64)[i]? =some (i64 x):=by rw[amo,hx];rfl
 rw[←ht,amE,if_pos (by omega)]at h7
 exact h7
theorem ep.get{H:Hp}{size n:Nat}{v:Value}{xs:List Value}(h:ep H size v n xs){i j:Nat}{x:Value}(hj:j<size)(hx:xs[i*size+j]? =some x):
  ∃b o c l,v= .slice (some ⟨b,o,none⟩) n c∧H.rd b=some l∧i<n∧l[o+i*size+j]? =some x:=by
 obtain⟨hl,⟨rfl,a,c,rfl⟩| ⟨b,o,c,l,rfl,h2,h3,h4⟩⟩:=h
 ·rw[amk (by omega)]at hx;cases hx
 ·have aR:i*size+j<n*size:=by
   have:=(al7.1 hx).1;omega
  refine⟨b,o,c,l,rfl,h2,?_,?_⟩
  ·rcases anh i n with h|h
   ·exact h
   ·have:=ana size h;omega
  ·rw[←h4,amA aR,amF]at hx
   rw[←hx];congr 1;omega
def xg(a b:Int):Int:=if a<b then -1 else if b<a then 1 else 0
theorem nO(a:Int)(H:Hp):ah Tryz.prog BK [i64 a] H fun v H'=>ay (v= .bool false∧H=H'):=by
 refine be B1 ⟨rfl,?_⟩
 refine v2 lq.eq_1 amp ?_
 exact⟨rfl,rfl⟩
theorem mH(a:Int)(H:Hp):ah Tryz.prog z8 [u64 a] H fun v H'=>ay (v= .bool false∧H=H'):=by
 refine be Aw ⟨rfl,?_⟩
 refine v2 jF.eq_1 amp ?_
 exact⟨rfl,rfl⟩
theorem lS(a b:Int)(H:Hp):ah Tryz.prog yn [i64 a,i64 b] H fun v H'=>ay (v=i64 (xg a b)∧H=H'):=by
 refine be yK ⟨rfl,?_⟩
 refine v1 iA.eq_1 ?_
 refine(nO a H).mono ?_
 rintro _ _ ⟨rfl,rfl⟩
 refine vs ?_
 refine(nO b H).mono ?_
 rintro _ _ ⟨rfl,rfl⟩
 refine vs ?_
 refine ak.dec (fun h=>?_) (fun h=>?_)<;>refine vs ?_
 ·exact⟨amt i64 (by simp[xg,h]),rfl⟩
 ·refine ak.dec (fun h2=>?_) (fun h2=>?_)<;>refine vs ?_
  ·exact⟨amt i64 (by simp[xg,h,show b<a from h2]),rfl⟩
  ·exact⟨amt i64 (by simp[xg,h,show¬b<a from h2]),rfl⟩
theorem kG(a b:Int)(H:Hp):ah Tryz.prog wA [u64 a,u64 b] H fun v H'=>ay (v=i64 (xg a b)∧H=H'):=by
 refine be wK ⟨rfl,?_⟩
 refine v1 gK.eq_1 ?_
 refine(mH a H).mono ?_
 rintro _ _ ⟨rfl,rfl⟩
 refine vs ?_
 refine(mH b H).mono ?_
 rintro _ _ ⟨rfl,rfl⟩
 refine vs ?_
 refine ak.dec (fun h=>?_) (fun h=>?_)<;>refine vs ?_
 ·exact⟨amt i64 (by simp[xg,h]),rfl⟩
 ·refine ak.dec (fun h2=>?_) (fun h2=>?_)<;>refine vs ?_
  ·exact⟨amt i64 (by simp[xg,h,show b<a from h2]),rfl⟩
  ·exact⟨amt i64 (by simp[xg,h,show¬b<a from h2]),rfl⟩
def Wo(xs:List Int):Int:=(xs.find? fun x=>x≠0).getD 0
theorem vh{H:Hp}{v:Value}{n:Nat}{xs:List Int}(h:ep H 1 v n (xs.map i64))(hn:n≤1000000)(hs:∃a c,v= .slice a n c):
  ah Tryz.prog JX [v] H fun r H'=>ay (r=i64 (Wo xs)∧H=H'):=by
 obtain⟨a,c,rfl⟩:=hs
 have bm:xs.length=n:=by have:=h.1;simpa using this
 refine be J3 ⟨rfl,?_⟩
 refine v1 tX.eq_1 ?_
 refine bA.intro (fun m env H1=>∃k:Nat,env=[(3,i64 0),(6,.slice a n c),(7,i64 n),(8,i64 k)]∧H1=H∧k≤n∧m=n - k∧∀j,j<k→xs[j]? =some 0) n ⟨0,rfl,rfl,by omega,by omega,fun j hj=>by omega⟩ ?_
 rintro m env H1 ⟨k,rfl,rfl,hk,rfl,hz⟩
 refine vs ?_
 refine ak.dec (fun aR=>?_) (fun aR=>?_)<;>refine vs ?_
 ·have hkn:k<xs.length:=by omega
  obtain⟨b,o,c',l,hv,hr,_,hg⟩:=ep.get h (i:=k) (j:=0) (x:=i64 xs[k]) (by omega) (by simp[hkn])
  injection hv with e1 e2 e3
  subst e1
  refine⟨by omega,?_⟩
  simp only[ama,Nat.add_zero]at hg
  refine v4 hr Int.toNat_natCast ama hg ?_
  refine ak.dec (fun h0=>?_) (fun h0=>?_)<;>refine vs ?_
  ·rw[wrap64 (by omega) (by omega)]
   refine⟨n - (k+1),by omega,k+1,rfl,trivial,by omega,rfl,fun j hj=>?_⟩
   by_cases e:j=k
   ·subst e;rw[al5 hkn,h0]
   ·exact hz j (by omega)
  ·refine⟨amt i64 ?_,rfl⟩
   unfold Wo
   have:xs.find? (fun x=>x≠0)=some xs[k]:=by
    rw[List.find?_eq_some_iff_getElem]
    refine⟨by simpa using h0,k,hkn,rfl,fun j hj=>?_⟩
    have:=hz j hj
    rw[al5 (by omega)]at this
    injection this with this
    simp[this]
   rw[this];rfl
 ·refine⟨amt i64 ?_,rfl⟩
  unfold Wo
  have:xs.find? (fun x=>x≠0)=none:=by
   rw[List.find?_eq_none]
   intro x hx
   obtain⟨j,hj,rfl⟩:=anQ.1 hx
   have:=hz j (by omega)
   rw[al5 hj]at this
   injection this with this
   simp[this]
  rw[this];rfl
def Fs(k s k' s':Int):Int:=Wo [xg k k',xg s s']
def gu(k s k' s':Int):Prop:=k<k'∨k=k'∧s<s'
instance(k s k' s':Int):Decidable (gu k s k' s'):=by unfold gu;infer_instance
theorem GI(k s k' s':Int):Fs k s k' s'<0↔gu k s k' s':=by
 unfold Fs gu Wo xg
 by_cases h1:k<k'
 ·simp[h1]
 ·by_cases h2:k'<k
  ·simp[h1,h2];omega
  ·by_cases h3:s<s'
   ·simp[h1,h2,h3];omega
   ·by_cases h4:s'<s
    ·simp[h1,h2,h3,h4]
    ·simp[h1,h2,h3,h4]
theorem PP(k s k' s':Int):Fs k s k' s'=0↔k=k'∧s=s':=by
 unfold Fs Wo xg
 by_cases h1:k<k'
 ·simp[h1];omega
 ·by_cases h2:k'<k
  ·simp[h1,h2];omega
  ·by_cases h3:s<s'
   ·simp[h1,h2,h3];omega
   ·by_cases h4:s'<s
    ·simp[h1,h2,h3,h4];omega
    ·simp[h1,h2,h3,h4];omega
theorem qz(k s k' s':Int)(H:Hp):ah Tryz.prog E7 [vV k s,vV k' s'] H fun v H'=>ay (v=i64 (Fs k s k' s')∧ax H H'):=by
 refine be Fg ⟨rfl,?_⟩
 refine v1 oC.eq_1 ?_
 refine⟨_,(lS k k' _).mono fun _ _ h=>⟨h.out.1,h.out.2.symm⟩,?_⟩
 refine(kG s s' _).mono ?_
 rintro _ _ ⟨rfl,rfl⟩
 refine vs ?_
 refine(vh (n:=2) (xs:=[xg k k',xg s s']) (Sl.dE (size:=1) rfl (by simp only[au])).rd (by omega) ⟨_,_,rfl⟩).mono ?_
 rintro _ _ ⟨rfl,rfl⟩
 exact⟨rfl,(((ai.refl _ _).new _ _).new _ _).new _ _⟩
theorem Ft(k s k' s':Int)(H:Hp):ah Tryz.prog JY [vV k s,vV k' s'] H fun v H'=>ay (v= .bool (decide (gu k s k' s'))∧ax H H'):=by
 refine be J4 ⟨rfl,?_⟩
 refine v1 ua.eq_1 ?_
 refine(qz k s k' s' _).mono ?_
 rintro _ _ ⟨rfl,hf⟩
 refine vs ?_
 refine⟨amt Value.bool (by rw[decide_eq_decide];exact GI _ _ _ _),?_⟩
 exact(((ai.refl _ _).new _ _).new _ _).trans hf
def hG(m n:Int):Int:=if n≤0 then m else if n>4611686018427387904 - m then 4611686018427387904 else m+n
theorem DS{H:Hp}{b:Nat}{m:Int}{r:List Value}(h:H.own b=some (i64 m::r))(hm:0≤m∧m≤4611686018427387904)(n:Int)(hn:n≤4611686018427387904):
  ah Tryz.prog yu [ptr b,i64 n] H fun v H'=>ay (v= .tuple [].toArray∧H'=H.wr b (i64 (hG m n)::r)∨v= .tuple [].toArray∧H'=H∧hG m n=m):=by
 refine be yU ⟨rfl,?_⟩
 refine v1 iK.eq_1 ?_
 refine ak.dec (fun h0=>?_) (fun h0=>?_)<;>refine v1 (ae h) ?_
 ·exact .inr ⟨rfl,rfl,by simp[hG,h0]⟩
 ·rw[wrap64 (by omega) (by omega)]
  refine ak.dec (fun h1=>?_) (fun h1=>?_)<;>refine v2 (ae h) h ?_
  ·exact .inl ⟨rfl,by rw[hG,if_neg h0,if_pos h1]⟩
  ·exact .inl ⟨rfl,by rw[hG,if_neg h0,if_neg h1,wrap64 (by omega) (by omega)]⟩
abbrev Ce:=Int×Int×Int
def cI(cs:List Ce):List Value:=cs.flatMap fun c=>[i64 c.1,i64 c.2.1,u64 c.2.2]
theorem lT(cs:List Ce):(cI cs).length=cs.length*3:=by
 induction cs with
 |nil=>rfl
 |cons c r ih=>simp only[cI,anO,amh,ams,anj]at*;omega
theorem PQ(n:Nat):cI (List.replicate n (0,0,0))=cR [.int .i64 0,.int .i64 0,.int .u64 0] n:=by
 simp[cI,cR,List.flatMap_def,List.map_replicate]
theorem fz.lt2{H:Hp}{b s len:Nat}{rt:Nat→Nat}{gZ:Int}(h:fz H b s len rt gZ):s<H.size:=by
 obtain⟨⟨sv,cG,PD,a1,a2,a3⟩,_⟩:=h
 exact a2.lt
structure bJ(H:Hp)(c:Nat)(S:Nat→Prop)(st:Int)(cs:List Ce)(len:Nat)(rt:Nat→Nat)(aY:Int→Option Int):Prop where
 rep:∃fb nb ns mb,H.own c=some [i64 st,.slice (some ⟨fb,0,none⟩) cs.length cs.length,ptr nb,.map (some mb)]∧H.own fb=some (cI cs)∧fz H nb ns len rt 65536∧oH H mb (fun i=>(aY i).map i64)∧
  (S c∧S fb∧S nb∧S ns∧S mb)∧(c≠fb∧c≠nb∧c≠ns∧c≠mb)∧(fb≠nb∧fb≠ns∧fb≠mb)∧(nb≠mb∧ns≠mb)
 st0:0≤st
 Wp:st≤4611686018427387904
 Fu:cs.length≤65536
 slt:∀x,S x→x<H.size
theorem bJ.ext{H H':Hp}{c:Nat}{S T:Nat→Prop}{st:Int}{cs:List Ce}{len:Nat}{rt:Nat→Nat}{aY:Int→Option Int}(h:bJ H c S st cs len rt aY)
  (e:ai T H H')(hd:∀x,S x→¬T x):bJ H' c S st cs len rt aY:=by
 obtain⟨⟨fb,nb,ns,mb,a1,a2,a3,a4,⟨s1,s2,s3,s4,s5⟩,a6,a7⟩,h2,h3,h4,h5⟩:=h
 exact⟨⟨fb,nb,ns,mb,e.own a1 (hd _ s1),e.own a2 (hd _ s2),a3.ext e (hd _ s3) (hd _ s4),a4.ext e (hd _ s5),⟨s1,s2,s3,s4,s5⟩,a6,a7⟩,h2,h3,h4,fun x hx=>amv (h5 x hx) e.size⟩
theorem GJ(cap:Int)(H:Hp):ah Tryz.prog wB [i64 cap] H fun v H'=>ay (
  ax H H'∧((¬ (0≤cap∧cap≤65536)∧v= .tuple [.pointer none,i64 31].toArray)∨
   (0≤cap∧cap≤65536)∧∃c S,v= .tuple [ptr c,i64 0].toArray∧bJ H' c S 0 (List.replicate cap.toNat (0,0,0)) 1 id (fun _=>none)∧(∀x,S x→H.size≤x))):=by
 refine be Lq ⟨rfl,?_⟩
 refine v1 wO.eq_1 ?_
 refine ak.dec (fun h=>?_) (fun h=>?_)<;>refine vs ?_
 ·exact⟨ai.refl _ _,.inl ⟨by omega,rfl⟩⟩
 ·refine ak.dec (fun h2=>?_) (fun h2=>?_)<;>refine vs ?_
  ·exact⟨ai.refl _ _,.inl ⟨by omega,rfl⟩⟩
  ·refine(Gw 65536 H).mono ?_
   rintro _ H1 ⟨hf,⟨hc,_⟩| ⟨_,nb,ns,rfl,hn,b1,b2,b3,b4⟩⟩
   ·omega
   refine vs ?_
   refine⟨by omega,?_⟩
   refine vs ?_
   have hs:(H1.new 343 (cR [.int .i64 0,.int .i64 0,.int .u64 0] cap.toNat)).own H1.size=some (cI (List.replicate cap.toNat (0,0,0))):=by
    rw[PQ]
    exact aG _ _ _
   have he:ai (fun _=>False) (H1.new 343 (cR [.int .i64 0,.int .i64 0,.int .u64 0] cap.toNat)) _:=
    ((ai.refl _ _).fY).new 308 [.int .i64 0,.slice (some ⟨H1.size,0,none⟩) cap.toNat cap.toNat,.pointer (some ⟨nb,0,none⟩),.map (some (H1.size+1))]
   have hm:oH (H1.new 343 (cR [.int .i64 0,.int .i64 0,.int .u64 0] cap.toNat)).fY (H1.size+1) (fun _=>none):=by
    have:=oH.new (H1.new 343 (cR [.int .i64 0,.int .i64 0,.int .u64 0] cap.toNat))
    rwa[au]at this
   have PE:=hf.size
   have hl:(List.replicate cap.toNat ((0,0,0):Ce)).length=cap.toNat:=amV
   refine⟨(hf.trans ((ai.refl _ _).new 343 _)).trans he,.inr ⟨by omega,H1.size+1+1,fun x=>H.size≤x∧x<H1.size+1+1+1,rfl,⟨⟨H1.size,nb,ns,H1.size+1,by rw[hl];exact bD (by simp only[au,kC]),he.own hs (fun h=>h),
    (hn.ext ((ai.refl (fun _=>False) _).new 343 _) (fun h=>h) (fun h=>h)).ext he (fun h=>h) (fun h=>h),hm.ext ((ai.refl (fun _=>False) _).new _ _) (fun h=>h),?_,?_,?_,?_⟩,by omega,by omega,by omega,?_⟩,fun x h=>h.1⟩⟩
   ·exact⟨by omega,by omega,by omega,by omega,by omega⟩
   ·exact⟨by omega,by omega,by omega,by omega⟩
   ·exact⟨by omega,by omega,by omega⟩
   ·exact⟨by omega,by omega⟩
   ·intro x hx
    simp only[au,kC]
    exact hx.2
theorem xh{H:Hp}{c:Nat}{S:Nat→Prop}{st:Int}{cs:List Ce}{len:Nat}{rt:Nat→Nat}{aY:Int→Option Int}(h:bJ H c S st cs len rt aY)(i:Int):
  ah Tryz.prog bG [ptr c,i64 i] H fun v H'=>ay (v= .bool (decide (0<i∧i<len∧rt i.toNat=i.toNat))∧H=H'):=by
 obtain⟨⟨fb,nb,ns,mb,a1,a2,a3,a4,a5,a6,a7⟩,h2,h3,h4,h5⟩:=h
 refine be B5 ⟨rfl,?_⟩
 refine v2 lz.eq_1 (ae a1) ?_
 refine(Gy a3 i).mono ?_
 rintro _ _ ⟨rfl,rfl⟩
 refine vs ?_
 exact⟨rfl,rfl⟩
def dN(aY:Int→Option Int)(i:Int):Int:=(aY i).getD 0
theorem GK{H:Hp}{c:Nat}{S:Nat→Prop}{st:Int}{cs:List Ce}{len:Nat}{rt:Nat→Nat}{aY:Int→Option Int}(h:bJ H c S st cs len rt aY)(i:Int):
  ah Tryz.prog kZ [ptr c,i64 i] H fun v H'=>ay (v=i64 (dN aY i)∧H=H'):=by
 obtain⟨⟨fb,nb,ns,mb,a1,a2,a3,a4,a5,a6,a7⟩,h2,h3,h4,h5⟩:=h
 refine be B6 ⟨rfl,?_⟩
 refine v3 lA.eq_1 (ae a1) a4.look ?_
 refine⟨?_,rfl⟩
 unfold dN
 cases aY i<;>rfl
theorem ti{H:Hp}{c:Nat}{S:Nat→Prop}{st:Int}{cs:List Ce}{len:Nat}{rt:Nat→Nat}{aY:Int→Option Int}(h:bJ H c S st cs len rt aY)(i:Int):
  ah Tryz.prog yt [ptr c,i64 i] H fun v H'=>ay (v= .bool (decide (0≤i∧i<cs.length))∧H=H'):=by
 obtain⟨⟨fb,nb,ns,mb,a1,a2,a3,a4,a5,a6,a7⟩,h2,h3,h4,h5⟩:=h
 refine be yR ⟨rfl,?_⟩
 refine v1 iH.eq_1 ?_
 refine ak.dec (fun h=>?_) (fun h=>?_)<;>refine v1 (ae a1) ?_
 ·exact⟨amt Value.bool (by rw[decide_eq_decide];omega),rfl⟩
 ·exact⟨amt Value.bool (amm (by omega)).symm,rfl⟩
theorem xV{cs:List Ce}{i:Nat}{c:Ce}(hi:cs[i]? =some c):
  (cI cs)[i*3]? =some (i64 c.1)∧(cI cs)[i*3+1]? =some (i64 c.2.1)∧(cI cs)[i*3+2]? =some (u64 c.2.2)∧((cI cs).drop (i*3+1)).take 2=[i64 c.2.1,u64 c.2.2]:=by
 have hx:∀ (cs:List Ce) (i:Nat) (c:Ce),cs[i]? =some c→(cI cs)[i*3]? =some (i64 c.1)∧(cI cs)[i*3+1]? =some (i64 c.2.1)∧(cI cs)[i*3+2]? =some (u64 c.2.2):=by
  intro cs
  induction cs with
  |nil=>intro i c h;simp at h
  |cons a r ih=>
   intro i c h
   have e:cI (a::r)=i64 a.1::i64 a.2.1::u64 a.2.2::cI r:=rfl
   rw[e]
   cases i with
   |zero=>simp at h;subst h;exact⟨rfl,rfl,rfl⟩
   |succ i=>
    have:=ih i c (by simpa using h)
    rw[show(i+1)*3=i*3+3 by omega]
    simpa using this
 obtain⟨x0,x1,x2⟩:=hx cs i c hi
 refine⟨x0,x1,x2,?_⟩
 apply amN
 intro k
 rw[amE]
 match k with
 |0=>simpa using x1
 |1=>rw[if_pos (by omega),amF];exact x2
 |k+2=>rw[if_neg (by omega)];rfl
def cZ(cs:List Ce)(i:Int):Prop:=0≤i∧∃c,cs[i.toNat]? =some c∧0<c.1
instance(cs:List Ce)(i:Int):Decidable (cZ cs i):=
 match h:cs[i.toNat]? with
 |none=>.isFalse fun⟨_,c,h1,_⟩=>by rw[h]at h1;simp at h1
 |some c=>if h0:0≤i∧0<c.1 then .isTrue ⟨h0.1,c,h,h0.2⟩else .isFalse fun⟨h1,c',h2,h3⟩=>by rw[h]at h2;injection h2 with h2;subst h2;exact h0 ⟨h1,h3⟩
theorem fM{H:Hp}{c:Nat}{S:Nat→Prop}{st:Int}{cs:List Ce}{len:Nat}{rt:Nat→Nat}{aY:Int→Option Int}(h:bJ H c S st cs len rt aY)(i:Int):
  ah Tryz.prog Dq [ptr c,i64 i] H fun v H'=>ay (v= .bool (decide (cZ cs i))∧H=H'):=by
 have ht:=ti h i
 obtain⟨⟨fb,nb,ns,mb,a1,a2,a3,a4,a5,a6,a7⟩,h2,h3,h4,h5⟩:=h
 refine be DD ⟨rfl,?_⟩
 refine v1 mP.eq_1 ?_
 refine ht.mono ?_
 rintro _ _ ⟨rfl,rfl⟩
 refine vs ?_
 refine ak.dec (fun h=>?_) (fun h=>?_)<;>refine v1 (ae a1) ?_
 ·obtain⟨x,hx⟩:∃x,cs[i.toNat]? =some x:=⟨_,al5 (by omega)⟩
  obtain⟨x0,x1,x2,x3⟩:=xV hx
  refine⟨by omega,?_⟩
  refine v4 (ae a2) x0 Nat.add_zero al6 ?_
  exact⟨amt Value.bool (by rw[decide_eq_decide];exact⟨fun hh=>⟨h.1,x,hx,hh⟩,fun⟨_,c,e1,e2⟩=>by rw[hx]at e1;injection e1 with e1;subst e1;exact e2⟩),rfl⟩
 ·exact⟨amt Value.bool (amm (by rintro⟨x,c,x1,x2⟩;have:=(al7.1 x1).1;omega)).symm,rfl⟩
theorem Jv(cs:List Ce)(i:Nat)(c:Ce)(hi:i<cs.length):bq (cI cs) (i*3) [i64 c.1,i64 c.2.1,u64 c.2.2]=cI (cs.set i c):=by
 simp only[bq]
 induction cs generalizing i with
 |nil=>simp at hi
 |cons a r ih=>
  have e:cI (a::r)=i64 a.1::i64 a.2.1::u64 a.2.2::cI r:=rfl
  cases i with
  |zero=>rfl
  |succ i=>
   have e2:cI ((a::r).set (i+1) c)=i64 a.1::i64 a.2.1::u64 a.2.2::cI (r.set i c):=rfl
   rw[e,e2,show(i+1)*3=i*3+1+1+1 by omega]
   simp only[amP]
   rw[ih i (by simpa using hi)]
theorem Fv{H:Hp}{c:Nat}{S:Nat→Prop}{st:Int}{cs:List Ce}{len:Nat}{rt:Nat→Nat}{aY:Int→Option Int}(h:bJ H c S st cs len rt aY):
  ah Tryz.prog dC [ptr c] H fun v H'=>ay (
   (len=65537∧v=i64 0∧H=H')∨
   (len≠65537∧v=i64 len∧∃S',bJ H' c S' st cs (len+1) (fun i=>if i=len then i else rt i) aY∧ai S H H'∧∀x,S' x→S x∨H.size≤x)):=by
 obtain⟨⟨fb,nb,ns,mb,a1,a2,a3,a4,a5,a6,a7⟩,h2,h3,h4,h5⟩:=h
 refine be AL ⟨rfl,?_⟩
 refine v2 jP.eq_1 (ae a1) ?_
 refine(Fm a3).mono ?_
 rintro _ H1 (⟨hl,rfl,rfl⟩| ⟨hl,rfl,s',b1,b2,b3⟩)
 ·refine vs ?_
  exact .inl ⟨by omega,rfl,rfl⟩
 ·refine vs ?_
  obtain⟨s1,s2,s3,s4,s5⟩:=a5
  obtain⟨d1,d2,d3,d4⟩:=a6
  obtain⟨⟨d5,d6,d7⟩,d8,d9⟩:=a7
  have l1:=aO a1
  have l2:=aO a2
  have l3:=a4.lt
  refine .inr ⟨by omega,rfl,fun x=>S x∨x=s',⟨⟨fb,nb,s',mb,b2.own a1 (by omega),b2.own a2 (by omega),b1,a4.ext b2 (by omega),⟨.inl s1,.inl s2,.inl s3,.inr rfl,.inl s5⟩,⟨d1,d2,by omega,d4⟩,⟨d5,by omega,d7⟩,d8,by omega⟩,h2,h3,h4,fun x hx=>hx.elim (fun h=>amv (h5 x h) b2.size) (fun h=>by rw[h];exact b1.lt2)⟩,
   b2.mono (fun x _ hx=>hx.elim (fun e=>e▸s3) (fun e=>e▸s4)),?_⟩
  rintro x (hx|rfl)
  ·exact .inl hx
  ·rcases b3 with rfl|b3
   ·exact .inl s4
   ·exact .inr b3.1
theorem GL{H:Hp}{c:Nat}{S:Nat→Prop}{st:Int}{cs:List Ce}{len:Nat}{rt:Nat→Nat}{aY:Int→Option Int}(h:bJ H c S st cs len rt aY)(g i k s:Int)
  (hm:dN aY g≤1000000∧0≤dN aY g):
  ah Tryz.prog k8 [ptr c,i64 g,i64 i,vV k s] H fun v H'=>ay (
   let ok:=(0<g∧g<len∧rt g.toNat=g.toNat)∧(0≤i∧i<cs.length)∧¬cZ cs i
   (¬ok∧v= .bool false∧bJ H' c S st cs len rt aY∧ai S H H')∨
   (ok∧v= .bool true∧bJ H' c S st (cs.set i.toNat (g,k,s)) len rt (fun j=>if j=g then some (dN aY g+1)else aY j)∧ai S H H')):=by
 have rl:ai (fun _=>False) H (H.new 224 [i64 k,u64 s]):=(ai.refl _ _).new _ _
 have h':=h.ext rl (fun _ _ h=>h)
 refine be B8 ⟨rfl,?_⟩
 simp(disch:=(first|omega| (simp only[Zs]<;>omega)|fail)) only[go_sem, ↓reduceIte,Zv,lC,vV]
 refine(xh h' g).mono ?_
 rintro _ _ ⟨rfl,rfl⟩
 refine vs ?_
 have RV:∀v,v=Value.bool false→¬ ((0<g∧g<len∧rt g.toNat=g.toNat)∧(0≤i∧i<cs.length)∧¬cZ cs i)→
   ((¬ ((0<g∧g<len∧rt g.toNat=g.toNat)∧(0≤i∧i<cs.length)∧¬cZ cs i)∧v= .bool false∧bJ (H.new 224 [i64 k,u64 s]) c S st cs len rt aY∧ai S H (H.new 224 [i64 k,u64 s]))∨
   (((0<g∧g<len∧rt g.toNat=g.toNat)∧(0≤i∧i<cs.length)∧¬cZ cs i)∧v= .bool true∧bJ (H.new 224 [i64 k,u64 s]) c S st (cs.set i.toNat (g,k,s)) len rt (fun j=>if j=g then some (dN aY g+1)else aY j)∧ai S H (H.new 224 [i64 k,u64 s]))):=
  fun v hv hn=>.inl ⟨hn,hv,h',(ai.refl _ _).new _ _⟩
 refine ak.dec (fun hg=>?_) (fun hg=>?_)<;>refine vs ?_
 ·refine(ti h' i).mono ?_
  rintro _ _ ⟨rfl,rfl⟩
  refine vs ?_
  refine ak.dec (fun hi=>?_) (fun hi=>?_)<;>refine vs ?_
  ·refine(fM h' i).mono ?_
   rintro _ _ ⟨rfl,rfl⟩
   refine vs ?_
   refine ak.dec (fun bS=>?_) (fun bS=>?_)<;>refine vs ?_
   ·exact RV _ rfl (fun hc=>hc.2.2 bS)
   ·obtain⟨⟨fb,nb,ns,mb,a1,a2,a3,a4,a5,a6,a7⟩,h2,h3,h4,h5⟩:=h'
    refine v1 (ae a1) ?_
    refine⟨by omega,?_⟩
    refine v1 a2 ?_
    refine⟨by rw[lT];omega,?_⟩
    rw[show bq (cI cs) (i.toNat*3) (aJ (Value.agg #[Value.int .i64 g,i64 k,u64 s]))=cI (cs.set i.toNat (g,k,s))from Jv cs i.toNat (g,k,s) (by omega)]
    obtain⟨s1,s2,s3,s4,s5⟩:=a5
    obtain⟨d1,d2,d3,d4⟩:=a6
    obtain⟨⟨d5,d6,d7⟩,d8,d9⟩:=a7
    have e1:ai (fun x=>x=fb) (H.new 224 [i64 k,u64 s]) ((H.new 224 [i64 k,u64 s]).wr fb (cI (cs.set i.toNat (g,k,s)))):=(ai.refl (fun x=>x=fb) _).wr (fun _=>rfl) _
    have a1':=e1.own a1 d1
    have Wb:((H.new 224 [i64 k,u64 s]).wr fb (cI (cs.set i.toNat (g,k,s)))).own fb=_:=aj a2
    have a3':=a3.ext e1 (Ne.symm d5) (Ne.symm d6)
    have a4':=a4.ext e1 (Ne.symm d7)
    have el:jt false (Value.int .i64 0) ((aY g).map i64)=i64 (dN aY g):=by unfold dN;cases aY g<;>rfl
    refine v3 (ae a1') a4'.look el ?_
    rw[wrap64 (by omega) (by omega)]
    refine a4'.YA fun H2 m2 e2=>?_
    refine vs ?_
    refine .inr ⟨⟨hg,hi,bS⟩,rfl,⟨⟨fb,nb,ns,mb,by rw[al8];exact e2.own a1' d4,e2.own Wb d7,a3'.ext e2 d8 d9,?_,⟨s1,s2,s3,s4,s5⟩,⟨d1,d2,d3,d4⟩,⟨d5,d6,d7⟩,d8,d9⟩,h2,h3,by rw[al8];exact h4,fun x hx=>amv (h5 x hx) (amM e1.size e2.size)⟩,?_⟩
    ·have:(fun j=>Option.map i64 (if j=g then some (dN aY g+1)else aY j))=Ke (fun j=>(aY j).map i64) g (i64 (dN aY g+1)):=by
      funext j;unfold Ke;by_cases hj:j=g<;>simp[hj]
     rw[this];exact m2
    ·exact(((ai.refl S H).new 224 [i64 k,u64 s]).trans (e1.mono fun x _ hx=>hx▸s2)).trans (e2.mono fun x _ hx=>hx▸s5)
  ·exact RV _ rfl (fun hc=>hi hc.2.1)
 ·exact RV _ rfl (fun hc=>hg hc.1)
theorem PR{m n:Int}(h0:0≤m)(h1:m≤4611686018427387904):0≤hG m n∧hG m n≤4611686018427387904:=by
 unfold hG;split
 ·exact⟨h0,h1⟩
 ·split<;>omega
def A4(a b:Int)(x y:Ce):Prop:=Fs x.2.1 x.2.2 y.2.1 y.2.2<0∨Fs x.2.1 x.2.2 y.2.1 y.2.2=0∧a<b
instance(a b:Int)(x y:Ce):Decidable (A4 a b x y):=inferInstanceAs (Decidable (_∨_∧_))
theorem DT{H:Hp}{c:Nat}{S:Nat→Prop}{st:Int}{cs:List Ce}{len:Nat}{rt:Nat→Nat}{aY:Int→Option Int}(h:bJ H c S st cs len rt aY)(a b:Int):
  ah Tryz.prog cQ [ptr c,i64 a,i64 b] H fun v H'=>ay (
   (¬ (cZ cs a∧cZ cs b)∧v= .bool false∧H=H')∨
   (cZ cs a∧cZ cs b)∧∃x y,cs[a.toNat]? =some x∧cs[b.toNat]? =some y∧v= .bool (decide (A4 a b x y))∧bJ H' c S (hG st 1) cs len rt aY∧ai S H H'):=by
 have h':=h
 obtain⟨⟨fb,nb,ns,mb,a1,a2,a3,a4,a5,a6,a7⟩,h2,h3,h4,h5⟩:=h
 refine be yS ⟨rfl,?_⟩
 refine v1 iI.eq_1 ?_
 refine(fM h' a).mono ?_
 rintro _ _ ⟨rfl,rfl⟩
 refine vs ?_
 refine ak.dec (fun ha=>?_) (fun ha=>?_)<;>refine vs ?_
 ·refine(fM h' b).mono ?_
  rintro _ _ ⟨rfl,rfl⟩
  refine vs ?_
  refine ak.dec (fun hb=>?_) (fun hb=>?_)<;>refine vs ?_
  ·obtain⟨T8,x,hx,iq⟩:=id ha
   obtain⟨RW,y,hy,hy0⟩:=id hb
   refine(DS a1 ⟨h2,h3⟩ 1 (by omega)).mono ?_
   rintro v H1 hH
   obtain⟨rfl,b1,b2,b3,b4⟩:v= .tuple [].toArray∧H1.own c=some [i64 (hG st 1),.slice (some ⟨fb,0,none⟩) cs.length cs.length,ptr nb,.map (some mb)]∧H1.own fb=some (cI cs)∧bJ H1 c S (hG st 1) cs len rt aY∧ai S H H1:=by
    have uB:=PR (n:=1) h2 h3
    rcases hH.out with ⟨rfl,rfl⟩| ⟨rfl,rfl,hs⟩
    ·obtain⟨s1,s2,s3,s4,s5⟩:=a5
     obtain⟨d1,d2,d3,d4⟩:=a6
     have e1:ai (fun x=>x=c) H (H.wr c [i64 (hG st 1),.slice (some ⟨fb,0,none⟩) cs.length cs.length,ptr nb,.map (some mb)]):=(ai.refl (fun x=>x=c) _).wr (fun _=>rfl) _
     exact⟨rfl,aj a1,e1.own a2 (Ne.symm d1),⟨⟨fb,nb,ns,mb,aj a1,e1.own a2 (Ne.symm d1),a3.ext e1 (Ne.symm d2) (Ne.symm d3),a4.ext e1 (Ne.symm d4),⟨s1,s2,s3,s4,s5⟩,⟨d1,d2,d3,d4⟩,a7⟩,uB.1,uB.2,h4,fun x hx=>amv (h5 x hx) e1.size⟩,e1.mono fun x _ hx=>hx▸s1⟩
    ·rw[hs]
     exact⟨rfl,a1,a2,h',ai.refl _ _⟩
   have al:=(al7.1 hx).1
   have bl:=(al7.1 hy).1
   obtain⟨x1,x2,x3,x4⟩:=xV hx
   obtain⟨y1,y2,y3,y4⟩:=xV hy
   have fl:=lT cs
   refine v1 (ae b1) ?_
   refine⟨by omega,?_⟩
   refine v3 (ae b1) (ae b2) x4 ?_
   refine⟨by omega,?_⟩
   refine v2 (ae b1) x4 ?_
   refine⟨by omega,?_⟩
   refine v3 (ae b1) (ae b2) y4 ?_
   refine⟨by omega,?_⟩
   refine v2 x4 y4 ?_
   refine(qz x.2.1 x.2.2 y.2.1 y.2.2 _).mono ?_
   rintro _ H2 ⟨rfl,hf⟩
   refine vs ?_
   have b5:=b3.ext hf (fun _ _ h=>h)
   have b6:=b4.trans (hf.mono fun _ _ h=>h.elim)
   refine ak.dec (fun aR=>?_) (fun aR=>?_)<;>refine vs ?_
   ·exact .inr ⟨⟨ha,hb⟩,x,y,hx,hy,amt Value.bool (amj (show A4 a b x y from .inl aR)).symm,b5,b6⟩
   ·refine ak.dec (fun heq=>?_) (fun heq=>?_)<;>refine vs ?_
    ·exact .inr ⟨⟨ha,hb⟩,x,y,hx,hy,amt Value.bool (by rw[decide_eq_decide];exact⟨fun hh=>.inr ⟨heq,hh⟩,fun hh=>hh.elim (fun e=>absurd e aR) (·.2)⟩),b5,b6⟩
    ·exact .inr ⟨⟨ha,hb⟩,x,y,hx,hy,amt Value.bool (amm (show¬A4 a b x y from fun hh=>hh.elim aR (fun e=>heq e.1))).symm,b5,b6⟩
  ·exact .inl ⟨fun hc=>hb hc.2,rfl,rfl⟩
 ·exact .inl ⟨fun hc=>ha hc.1,rfl,rfl⟩
theorem bJ.names{H H1:Hp}{c:Nat}{S:Nat→Prop}{st:Int}{cs:List Ce}{len:Nat}{rt rt':Nat→Nat}{aY:Int→Option Int}{fb nb ns mb:Nat}(h:bJ H c S st cs len rt aY)
  (a1:H.own c=some [i64 st,.slice (some ⟨fb,0,none⟩) cs.length cs.length,ptr nb,.map (some mb)])(a2:H.own fb=some (cI cs))(a4:oH H mb (fun i=>(aY i).map i64))
  (a5:S c∧S fb∧S nb∧S ns∧S mb)(a6:c≠fb∧c≠nb∧c≠ns∧c≠mb)(a7:fb≠nb∧fb≠ns∧fb≠mb)(a8:nb≠mb∧ns≠mb)
  (n:fz H1 nb ns len rt' 65536)(e:ai (fun x=>x=nb∨x=ns) H H1):
  bJ H1 c S st cs len rt' aY∧ai S H H1∧H1.own c=some [i64 st,.slice (some ⟨fb,0,none⟩) cs.length cs.length,ptr nb,.map (some mb)]∧oH H1 mb (fun i=>(aY i).map i64):=by
 obtain⟨s1,s2,s3,s4,s5⟩:=a5
 have b1:=e.own a1 (by omega)
 have b4:=a4.ext e (by omega)
 exact⟨⟨⟨fb,nb,ns,mb,b1,e.own a2 (by omega),n,b4,⟨s1,s2,s3,s4,s5⟩,a6,a7,a8⟩,h.st0,h.Wp,h.Fu,fun x hx=>amv (h.slt x hx) e.size⟩,e.mono fun x _ hx=>hx.elim (fun h=>h▸s3) (fun h=>h▸s4),b1,b4⟩
theorem vi{H:Hp}{c:Nat}{S:Nat→Prop}{st:Int}{cs:List Ce}{len:Nat}{rt:Nat→Nat}{aY:Int→Option Int}(h:bJ H c S st cs len rt aY)(hl:∀x∈cs,x.1<len)(i:Int):
  ah Tryz.prog jz [ptr c,i64 i] H fun v H'=>ay (
   (¬cZ cs i∧v= .tuple [i64 0,.bool false].toArray∧H=H')∨
   (cZ cs i∧∃x,cs[i.toNat]? =some x∧v= .tuple [i64 (rt x.1.toNat),.bool true].toArray∧bJ H' c S st cs len rt aY∧ai S H H')):=by
 have h':=h
 obtain⟨⟨fb,nb,ns,mb,a1,a2,a3,a4,a5,a6,a7,a8⟩,h2,h3,h4,h5⟩:=h
 refine be AI ⟨rfl,?_⟩
 refine v1 jM.eq_1 ?_
 refine(fM h' i).mono ?_
 rintro _ _ ⟨rfl,rfl⟩
 refine vs ?_
 refine ak.dec (fun hi=>?_) (fun hi=>?_)<;>refine vs ?_
 ·obtain⟨Fw,x,hx,iq⟩:=id hi
  have rB:=(al7.1 hx).1
  obtain⟨x1,x2,x3,x4⟩:=xV hx
  refine v1 (ae a1) ?_
  refine⟨by omega,?_⟩
  refine v4 (ae a2) x1 Nat.add_zero al6 ?_
  refine(Fp a3 x.1).mono ?_
  rintro _ H1 (⟨hn,_⟩| ⟨_,rfl,n1,e1⟩)
  ·exact absurd ⟨iq,hl x (amb hx)⟩ hn
  refine vs ?_
  obtain⟨b1,b2,_⟩:=h'.names a1 a2 a4 a5 a6 a7 a8 n1 e1
  exact .inr ⟨hi,x,hx,rfl,b1,b2⟩
 ·exact .inl ⟨hi,rfl,rfl⟩
theorem DU{H:Hp}{c:Nat}{S:Nat→Prop}{st:Int}{cs:List Ce}{len:Nat}{rt:Nat→Nat}{aY:Int→Option Int}(h:bJ H c S st cs len rt aY)(i:Int):
  ah Tryz.prog bk [ptr c,i64 i] H fun v H'=>ay (bJ H' c S st cs len rt aY∧ax H H'∧(
   (¬cZ cs i∧v= .tuple [vV 0 0,.bool false].toArray)∨
   (cZ cs i∧∃x,cs[i.toNat]? =some x∧v= .tuple [vV x.2.1 x.2.2,.bool true].toArray))):=by
 have e0:ax H (H.new 224 [.int .i64 0,.int .u64 0]):=(ai.refl _ _).new _ _
 have h':=h.ext e0 (fun _ _ h=>h)
 refine be yO ⟨rfl,?_⟩
 refine v1 iE.eq_1 ?_
 refine(fM h' i).mono ?_
 rintro _ _ ⟨rfl,rfl⟩
 refine vs ?_
 refine ak.dec (fun hi=>?_) (fun hi=>?_)<;>refine vs ?_
 ·obtain⟨Fw,x,hx,iq⟩:=id hi
  have rB:=(al7.1 hx).1
  obtain⟨x1,x2,x3,x4⟩:=xV hx
  have fl:=lT cs
  obtain⟨⟨fb,nb,ns,mb,a1,a2,a3,a4,a5,a6,a7,a8⟩,h2,h3,h4,h5⟩:=id h'
  refine v1 (ae a1) ?_
  refine⟨by omega,?_⟩
  refine v1 (ae a2) ?_
  refine⟨by omega,?_⟩
  simp(disch:=(first|omega| (simp only[Zs]<;>omega)|fail)) only[go_sem, ↓reduceIte,Zv,x4,us (aG H 224 [.int .i64 0,.int .u64 0])]
  have e1:ax H ((H.new 224 [.int .i64 0,.int .u64 0]).wr H.size [i64 x.2.1,u64 x.2.2]):=e0.wr (fun h=>absurd h (Nat.lt_irrefl _)) _
  exact⟨h.ext e1 (fun _ _ h=>h),e1,.inr ⟨hi,x,hx,rfl⟩⟩
 ·simp(disch:=(first|omega| (simp only[Zs]<;>omega)|fail)) only[go_sem, ↓reduceIte,Zv,us (aG H 224 [.int .i64 0,.int .u64 0])]
  have e1:ax H ((H.new 224 [.int .i64 0,.int .u64 0]).wr H.size [.int .i64 0,.int .u64 0]):=e0.wr (fun h=>absurd h (Nat.lt_irrefl _)) _
  exact⟨h.ext e1 (fun _ _ h=>h),e1,.inl ⟨hi,rfl⟩⟩
def cX(m:Int→Option Int)(i n:Int):Int→Option Int:=fun j=>if j=i then some n else m j
def uC(m:Int→Option Int)(i:Int):Int→Option Int:=fun j=>if j=i then none else m j
theorem LH(m:Int→Option Int)(i n:Int):Ke (fun j=>(m j).map i64) i (i64 n)=fun j=>(cX m i n j).map i64:=by
 funext j;unfold Ke cX;by_cases hj:j=i<;>simp[hj]
theorem LI(m:Int→Option Int)(i:Int):Nn (fun j=>(m j).map i64) i=fun j=>(uC m i j).map i64:=by
 funext j;unfold Nn uC;by_cases hj:j=i<;>simp[hj]
theorem EL(m:Int→Option Int)(g:Int):jt false (Value.int .i64 0) ((m g).map i64)=i64 (dN m g):=by
 unfold dN;cases m g<;>rfl
theorem Fx{H:Hp}{c:Nat}{S:Nat→Prop}{st:Int}{cs:List Ce}{len:Nat}{rt:Nat→Nat}{aY:Int→Option Int}(h:bJ H c S st cs len rt aY)(hl:∀x∈cs,x.1<len)(i:Int)(hm:∀j,0≤dN aY j∧dN aY j≤1000000):
  ah Tryz.prog jA [ptr c,i64 i] H fun v H'=>ay (
   (¬cZ cs i∧v= .bool false∧H=H')∨
   (cZ cs i∧v= .bool true∧∃x,cs[i.toNat]? =some x∧
    bJ H' c S st (cs.set i.toNat (0,0,0)) len rt (if dN aY (rt x.1.toNat) - 1=0 then uC (cX aY (rt x.1.toNat) (dN aY (rt x.1.toNat) - 1)) (rt x.1.toNat)else cX aY (rt x.1.toNat) (dN aY (rt x.1.toNat) - 1))∧ai S H H')):=by
 refine be AK ⟨rfl,?_⟩
 refine v1 jO.eq_1 ?_
 refine(vi h hl i).mono ?_
 rintro _ H1 (⟨hi,rfl,rfl⟩| ⟨hi,x,hx,rfl,b1,b2⟩)
 ·refine vs ?_
  exact .inl ⟨hi,rfl,rfl⟩
 ·have rB:=(al7.1 hx).1
  have Fw:=hi.1
  have fl:=lT cs
  obtain⟨⟨fb,nb,ns,mb,a1,a2,a3,a4,a5,a6,a7,a8⟩,h2,h3,h4,h5⟩:=b1
  have hmg:=hm (rt x.1.toNat)
  refine v1 (ae a1) ?_
  refine⟨by omega,?_⟩
  refine v1 a2 ?_
  refine⟨by omega,?_⟩
  rw[show bq (cI cs) (i.toNat*3) (aJ (Value.agg #[Value.int .i64 0,Value.int .i64 0,Value.int .u64 0]))=cI (cs.set i.toNat (0,0,0))from Jv cs i.toNat (0,0,0) (by omega)]
  have e2:ai (fun x=>x=fb) H1 (H1.wr fb (cI (cs.set i.toNat (0,0,0)))):=(ai.refl (fun x=>x=fb) _).wr (fun _=>rfl) _
  have c1:=e2.own a1 a6.1
  have c2:(H1.wr fb (cI (cs.set i.toNat (0,0,0)))).own fb=_:=aj a2
  have c3:=a3.ext e2 (Ne.symm a7.1) (Ne.symm a7.2.1)
  have c4:=a4.ext e2 (Ne.symm a7.2.2)
  refine v3 (ae c1) c4.look EL ?_
  rw[wrap64 (by omega) (by omega)]
  refine c4.YA fun H2 m2 e3=>?_
  rw[LH]at m2
  have d1:=e3.own c1 a6.2.2.2
  have hs:dN (cX aY (rt x.1.toNat) (dN aY (rt x.1.toNat) - 1)) (rt x.1.toNat)=dN aY (rt x.1.toNat) - 1:=by simp[dN,cX]
  refine v4 (ae d1) m2.look EL hs ?_
  have HQ:ai S H1 H2:=(e2.mono fun x _ hx=>hx▸a5.2.1).trans (e3.mono fun x _ hx=>hx▸a5.2.2.2.2)
  refine ak.dec (fun h0=>?_) (fun h0=>?_)<;>refine v1 (ae d1) ?_
  ·refine m2.del fun H3 m3 e4=>?_
   rw[LI]at m3
   refine vs ?_
   refine .inr ⟨hi,rfl,x,hx,?_,(b2.trans HQ).trans (e4.mono fun x _ hx=>hx▸a5.2.2.2.2)⟩
   rw[if_pos h0]
   exact⟨⟨fb,nb,ns,mb,by rw[al8];exact e4.own d1 a6.2.2.2,(e4.own (e3.own c2 a7.2.2) a7.2.2),(c3.ext e3 a8.1 a8.2).ext e4 a8.1 a8.2,m3,a5,a6,a7,a8⟩,h2,h3,by rw[al8];exact h4,fun x hx=>amv (h5 x hx) (amM HQ.size e4.size)⟩
  ·refine .inr ⟨hi,rfl,x,hx,?_,b2.trans HQ⟩
   rw[if_neg h0]
   exact⟨⟨fb,nb,ns,mb,by rw[al8];exact d1,e3.own c2 a7.2.2,c3.ext e3 a8.1 a8.2,m2,a5,a6,a7,a8⟩,h2,h3,by rw[al8];exact h4,fun x hx=>amv (h5 x hx) HQ.size⟩
theorem No(cs:List Ce)(i:Nat)(x:Ce)(k s:Int)(hx:cs[i]? =some x):bq (cI cs) (i*3+1) [i64 k,u64 s]=cI (cs.set i (x.1,k,s)):=by
 simp only[bq]
 induction cs generalizing i with
 |nil=>simp at hx
 |cons a r ih=>
  have e:cI (a::r)=i64 a.1::i64 a.2.1::u64 a.2.2::cI r:=rfl
  cases i with
  |zero=>
   simp at hx
   subst hx
   rfl
  |succ i=>
   have e2:cI ((a::r).set (i+1) (x.1,k,s))=i64 a.1::i64 a.2.1::u64 a.2.2::cI (r.set i (x.1,k,s)):=rfl
   rw[e,e2,show(i+1)*3+1=i*3+1+1+1+1 by omega]
   simp only[amP]
   rw[ih i (by simpa using hx)]
theorem DV{H:Hp}{c:Nat}{S:Nat→Prop}{st:Int}{cs:List Ce}{len:Nat}{rt:Nat→Nat}{aY:Int→Option Int}(h:bJ H c S st cs len rt aY)(i k s:Int):
  ah Tryz.prog iz [ptr c,i64 i,vV k s] H fun v H'=>ay (
   (¬ (cZ cs i∧∀x,cs[i.toNat]? =some x→¬gu x.2.1 x.2.2 k s)∧v= .bool false∧bJ H' c S st cs len rt aY∧ax H H')∨
   (cZ cs i∧v= .bool true∧∃x,cs[i.toNat]? =some x∧¬gu x.2.1 x.2.2 k s∧bJ H' c S st (cs.set i.toNat (x.1,k,s)) len rt aY∧ai S H H')):=by
 have e0:ax H (H.new 224 [i64 k,u64 s]):=(ai.refl _ _).new _ _
 have h':=h.ext e0 (fun _ _ h=>h)
 refine be yQ ⟨rfl,?_⟩
 simp(disch:=(first|omega| (simp only[Zs]<;>omega)|fail)) only[go_sem, ↓reduceIte,Zv,iG,vV]
 refine(fM h' i).mono ?_
 rintro _ _ ⟨rfl,rfl⟩
 refine vs ?_
 refine ak.dec (fun hi=>?_) (fun hi=>?_)<;>refine vs ?_
 ·obtain⟨Fw,x,hx,iq⟩:=id hi
  have rB:=(al7.1 hx).1
  obtain⟨x1,x2,x3,x4⟩:=xV hx
  have fl:=lT cs
  obtain⟨⟨fb,nb,ns,mb,a1,a2,a3,a4,a5,a6,a7,a8⟩,h2,h3,h4,h5⟩:=id h'
  refine v1 (ae a1) ?_
  refine⟨by omega,?_⟩
  refine v1 (ae a2) ?_
  refine⟨by omega,?_⟩
  refine v1 x4 ?_
  refine(Ft x.2.1 x.2.2 k s _).mono ?_
  rintro _ H2 ⟨rfl,hf⟩
  have g1:=hf.own a1 (fun h=>h)
  have g2:=hf.own a2 (fun h=>h)
  have hr:=hf.own (aG H 224 [i64 k,u64 s]) (fun h=>h)
  refine vs ?_
  refine ak.dec (fun gv=>?_) (fun gv=>?_)<;>refine vs ?_
  ·exact .inl ⟨fun hc=>hc.2 x hx gv,rfl,h'.ext hf (fun _ _ h=>h),e0.trans hf⟩
  ·refine v2 (ae g1) (ae hr) ?_
   refine⟨by omega,?_⟩
   refine v3 (ae g1) (ae hr) g2 ?_
   refine⟨by omega,?_⟩
   refine vs ?_
   have T3:((cI cs).set (i.toNat*3+1) (i64 k)).set (i.toNat*3+1+1) (u64 s)=cI (cs.set i.toNat (x.1,k,s)):=No cs i.toNat x k s hx
   rw[T3]
   have e3:ai (fun x=>x=fb) H2 (H2.wr fb (cI (cs.set i.toNat (x.1,k,s)))):=(ai.refl (fun x=>x=fb) _).wr (fun _=>rfl) _
   refine .inr ⟨hi,rfl,x,hx,gv,⟨⟨fb,nb,ns,mb,by rw[al8];exact e3.own g1 a6.1,aj g2,(a3.ext hf (fun h=>h) (fun h=>h)).ext e3 (Ne.symm a7.1) (Ne.symm a7.2.1),(a4.ext hf (fun h=>h)).ext e3 (Ne.symm a7.2.2),a5,a6,a7,a8⟩,h2,h3,by rw[al8];exact h4,fun x hx=>amv (h5 x hx) (amM hf.size e3.size)⟩,
    ((e0.trans hf).mono fun _ _ h=>h.elim).trans (e3.mono fun x _ hx=>hx▸a5.2.1)⟩
 ·exact .inl ⟨fun hc=>hi hc.1,rfl,h',e0⟩
structure Nw where
 hs:List Bool
 cs:List Ce
def Nw.has(w:Nw)(h:Int):Prop:=1≤h∧w.hs[h.toNat]? =some true
instance(w:Nw)(h:Int):Decidable (w.has h):=inferInstanceAs (Decidable (_∧_))
def Nw.len(w:Nw)(h:Int):Int:=if 0<h then(w.cs.countP fun c=>decide (c.1=h):Nat)else 0
def Nw.put(w:Nw)(i:Int)(c:Ce):Nw:=⟨w.hs,w.cs.set i.toNat c⟩
def Nw.make(w:Nw):Nw:=⟨w.hs++[true],w.cs⟩
def Nw.ahead(w:Nw)(a b:Int):Bool:=
 decide (cZ w.cs a) && decide (cZ w.cs b) && (match w.cs[a.toNat]?,w.cs[b.toNat]? with|some x,some y=>decide (A4 a b x y)|_,_=>false)
theorem Nw.A5(w:Nw)(h:Int):0≤w.len h∧w.len h≤w.cs.length:=by
 unfold Nw.len
 have:=List.countP_le_length (p:=fun c:Ce=>decide (c.1=h)) (l:=w.cs)
 split<;>omega
structure qA(w:Nw)(cs:List Ce)(len:Nat)(rt:Nat→Nat)(aY:Int→Option Int):Prop where
 hl:w.hs.length=len
 h0:w.hs[0]? =some false
 hh:∀h,1≤h→h<len→w.hs[h]? =some (decide (rt h=h))
 cl:w.cs=cs.map fun c=>(if 0<c.1 then((rt c.1.toNat:Nat):Int)else 0,c.2)
 lt:∀c∈cs,0≤c.1∧c.1<len
 mn:∀h:Int,dN aY h=w.len h
 low:∀i,i<len→rt i<len
 Lw:∀i,i<len→rt (rt i)=rt i
 nz:∀i,i<len→rt i=0→i=0
def bv(H:Hp)(c:Nat)(S:Nat→Prop)(st:Int)(w:Nw):Prop:=∃cs len rt aY,bJ H c S st cs len rt aY∧qA w cs len rt aY
theorem bv.ext{H H':Hp}{c:Nat}{S T:Nat→Prop}{st:Int}{w:Nw}(h:bv H c S st w)(e:ai T H H')(hd:∀x,S x→¬T x):bv H' c S st w:=by
 obtain⟨cs,len,rt,aY,h1,h2⟩:=h
 exact⟨cs,len,rt,aY,h1.ext e hd,h2⟩
theorem bv.fresh{H H':Hp}{c:Nat}{S:Nat→Prop}{st:Int}{w:Nw}(h:bv H c S st w)(e:ax H H'):bv H' c S st w:=h.ext e fun _ _ h=>h
theorem bv.slt{H:Hp}{c:Nat}{S:Nat→Prop}{st:Int}{w:Nw}(h:bv H c S st w):∀x,S x→x<H.size:=by
 obtain⟨cs,len,rt,aY,h1,h2⟩:=h
 exact h1.slt
theorem bv.Fu{H:Hp}{c:Nat}{S:Nat→Prop}{st:Int}{w:Nw}(h:bv H c S st w):w.cs.length≤65536:=by
 obtain⟨cs,len,rt,aY,h1,h2⟩:=h
 rw[h2.cl,amu]
 exact h1.Fu
theorem bv.st{H:Hp}{c:Nat}{S:Nat→Prop}{st:Int}{w:Nw}(h:bv H c S st w):0≤st∧st≤4611686018427387904:=by
 obtain⟨cs,len,rt,aY,h1,h2⟩:=h
 exact⟨h1.st0,h1.Wp⟩
theorem qA.MQ{w:Nw}{cs:List Ce}{len:Nat}{rt:Nat→Nat}{aY:Int→Option Int}(h:qA w cs len rt aY)(i:Int):cZ w.cs i↔cZ cs i:=by
 unfold cZ
 rw[h.cl]
 simp only[amo]
 constructor
 ·rintro⟨h0,c,hc,hp⟩
  cases hx:cs[i.toNat]? with
  |none=>rw[hx]at hc;cases hc
  |some x=>
   rw[hx]at hc
   simp only[Option.map_some,ame]at hc
   subst hc
   refine⟨h0,x,rfl,?_⟩
   by_cases iq:0<x.1
   ·exact iq
   ·simp[iq]at hp
 ·rintro⟨h0,x,hx,hp⟩
  refine⟨h0,_,by rw[hx];rfl,?_⟩
  have aR:=h.lt x (amb hx)
  simp only[if_pos hp]
  have hnz:rt x.1.toNat≠0:=fun e=>by have:=h.nz _ (by omega) e;omega
  omega
theorem qA.get{w:Nw}{cs:List Ce}{len:Nat}{rt:Nat→Nat}{aY:Int→Option Int}(h:qA w cs len rt aY){i:Nat}{x:Ce}(hx:cs[i]? =some x):w.cs[i]? =some (if 0<x.1 then((rt x.1.toNat:Nat):Int)else 0,x.2):=by
 rw[h.cl,amo,hx];rfl
theorem qA.Wq{w:Nw}{cs:List Ce}{len:Nat}{rt:Nat→Nat}{aY:Int→Option Int}(h:qA w cs len rt aY)(g:Int):w.has g↔(0<g∧g<len∧rt g.toNat=g.toNat):=by
 unfold Nw.has
 constructor
 ·rintro⟨h1,h2⟩
  have aR:=(al7.1 h2).1
  rw[h.hl]at aR
  rw[h.hh g.toNat (by omega) aR]at h2
  injection h2 with h2
  exact⟨by omega,by omega,of_decide_eq_true h2⟩
 ·rintro⟨h1,h2,h3⟩
  exact⟨by omega,by rw[h.hh g.toNat (by omega) (by omega),amj h3]⟩
theorem oI(cap:Int)(H:Hp):ah Tryz.prog wB [i64 cap] H fun v H'=>ay (
  ax H H'∧((¬ (0≤cap∧cap≤65536)∧v= .tuple [.pointer none,i64 31].toArray)∨
   (0≤cap∧cap≤65536)∧∃c S,v= .tuple [ptr c,i64 0].toArray∧bv H' c S 0 ⟨[false],List.replicate cap.toNat (0,0,0)⟩∧(∀x,S x→H.size≤x))):=by
 refine(GJ cap H).mono ?_
 rintro _ H1 ⟨f,⟨h,rfl⟩| ⟨h,c,S,rfl,h1,h2⟩⟩
 ·exact⟨f,.inl ⟨h,rfl⟩⟩
 ·refine⟨f,.inr ⟨h,c,S,rfl,⟨_,_,_,_,h1,⟨rfl,rfl,fun h h1 h2=>by omega,?_,fun c hc=>?_,fun h=>?_,fun i hi=>hi,fun i hi=>rfl,fun i hi h=>h⟩⟩,h2⟩⟩
  ·simp
  ·rw[anX hc];exact⟨by omega,by simp⟩
  ·unfold Nw.len dN
   split
   ·simp only[Option.getD_none,List.countP_replicate]
    rw[if_neg (by simp;omega)];rfl
   ·rfl
theorem ju{H:Hp}{c:Nat}{S:Nat→Prop}{st:Int}{w:Nw}(h:bv H c S st w)(i:Int):
  ah Tryz.prog bG [ptr c,i64 i] H fun v H'=>ay (v= .bool (decide (w.has i))∧H=H'):=by
 obtain⟨cs,len,rt,aY,h1,h2⟩:=h
 refine(xh h1 i).mono ?_
 rintro _ _ ⟨rfl,rfl⟩
 exact⟨amt Value.bool (by rw[decide_eq_decide,h2.Wq]),rfl⟩
theorem vj{H:Hp}{c:Nat}{S:Nat→Prop}{st:Int}{w:Nw}(h:bv H c S st w)(i:Int):
  ah Tryz.prog kZ [ptr c,i64 i] H fun v H'=>ay (v=i64 (w.len i)∧H=H'):=by
 obtain⟨cs,len,rt,aY,h1,h2⟩:=h
 refine(GK h1 i).mono ?_
 rintro _ _ ⟨rfl,rfl⟩
 exact⟨by rw[h2.mn],rfl⟩
theorem mY{H:Hp}{c:Nat}{S:Nat→Prop}{st:Int}{w:Nw}(h:bv H c S st w):
  ah Tryz.prog dC [ptr c] H fun v H'=>ay (
   (w.hs.length=65537∧v=i64 0∧H=H')∨
   (w.hs.length≠65537∧v=i64 w.hs.length∧∃S',bv H' c S' st w.make∧ai S H H'∧∀x,S' x→S x∨H.size≤x)):=by
 obtain⟨cs,len,rt,aY,h1,h2⟩:=h
 refine(Fv h1).mono ?_
 have hl:=h2.hl
 rintro _ H1 (⟨e,rfl,rfl⟩| ⟨e,rfl,S',g1,g2,g3⟩)
 ·exact .inl ⟨by omega,rfl,rfl⟩
 ·refine .inr ⟨by omega,by rw[hl],S',⟨_,_,_,_,g1,?_⟩,g2,g3⟩
  have gD:0<w.hs.length:=(al7.1 h2.h0).1
  refine⟨by simp[Nw.make,hl],?_,fun h a1 a2=>?_,?_,fun c hc=>by have:=h2.lt c hc;omega,h2.mn,fun i hi=>?_,fun i hi=>?_,fun i hi hz=>?_⟩
  ·show(w.hs++[true])[0]? =some false
   rw[amn gD];exact h2.h0
  ·show(w.hs++[true])[h]? =_
   by_cases he:h=len
   ·subst he
    rw[amw (by omega),hl]
    simp
   ·rw[amn (by omega),h2.hh h a1 (by omega),if_neg he]
  ·show w.cs=_
   rw[h2.cl]
   apply anE
   intro x hx
   have:=h2.lt x hx
   by_cases h0:0<x.1
   ·simp only[if_pos h0];rw[if_neg (by omega)]
   ·simp only[if_neg h0]
  ·by_cases he:i=len
   ·simp[he]
   ·have:=h2.low i (by omega);simp only[if_neg he];omega
  ·by_cases he:i=len
   ·simp[he]
   ·have:=h2.low i (by omega)
    simp only[if_neg he]
    rw[if_neg (by omega)]
    exact h2.Lw i (by omega)
  ·by_cases he:i=len
   ·simp only[if_pos he]at hz;omega
   ·simp only[if_neg he]at hz;exact h2.nz i (by omega) hz
theorem IM{α:Type}(p:α→Bool):∀ (l:List α) (i:Nat) (x y:α),l[i]? =some x→(l.set i y).countP p+(if p x=true then 1 else 0)=l.countP p+(if p y=true then 1 else 0):=by
 intro l
 induction l with
 |nil=>intro i x y h;simp at h
 |cons a l ih=>
  intro i x y h
  cases i with
  |zero=>
   simp only[amz,ame]at h
   subst h
   simp only[anq,ane]
   omega
  |succ i=>
   have:=ih i x y (by simpa using h)
   simp only[amP,ane]
   omega
theorem Nw.ir{w:Nw}{i:Int}{x y:Ce}(hx:w.cs[i.toNat]? =some x)(h:Int):(w.put i y).len h=w.len h - (if 0<h∧x.1=h then 1 else 0)+(if 0<h∧y.1=h then 1 else 0):=by
 unfold Nw.len Nw.put
 by_cases h0:0<h
 ·simp only[if_pos h0,h0,true_and]
  have:=IM (fun c:Ce=>decide (c.1=h)) w.cs i.toNat x y hx
  simp only[amQ]at this
  split at this<;>split at this<;>simp_all<;>omega
 ·simp only[if_neg h0,h0,false_and,if_false];rfl
theorem oJ{H:Hp}{c:Nat}{S:Nat→Prop}{st:Int}{w:Nw}(h:bv H c S st w)(g i k s:Int):
  ah Tryz.prog k8 [ptr c,i64 g,i64 i,vV k s] H fun v H'=>ay (
   (¬ (w.has g∧(0≤i∧i<w.cs.length)∧¬cZ w.cs i)∧v= .bool false∧bv H' c S st w∧ai S H H')∨
   ((w.has g∧(0≤i∧i<w.cs.length)∧¬cZ w.cs i)∧v= .bool true∧bv H' c S st (w.put i (g,k,s))∧ai S H H')):=by
 obtain⟨cs,len,rt,aY,h1,h2⟩:=h
 have rq:w.cs.length=cs.length:=by rw[h2.cl,amu]
 have bm:=w.A5 g
 have zp:=h1.Fu
 refine(GL h1 g i k s (by rw[h2.mn];omega)).mono ?_
 rintro _ H1 (⟨e,rfl,g1,g2⟩| ⟨e,rfl,g1,g2⟩)
 ·exact .inl ⟨by rw[h2.Wq,h2.MQ,rq];exact e,rfl,⟨_,_,_,_,g1,h2⟩,g2⟩
 ·refine .inr ⟨by rw[h2.Wq,h2.MQ,rq];exact e,rfl,⟨_,_,_,_,g1,?_⟩,g2⟩
  obtain⟨x,hx⟩:∃x,cs[i.toNat]? =some x:=⟨_,al5 (by omega)⟩
  have iq:¬0<x.1:=fun iq=>e.2.2 ⟨e.2.1.1,x,hx,iq⟩
  have Q3:=h2.get hx
  rw[if_neg iq]at Q3
  refine⟨h2.hl,h2.h0,h2.hh,?_,fun y hy=>?_,fun j=>?_,h2.low,h2.Lw,h2.nz⟩
  ·show w.cs.set i.toNat _=_
   rw[h2.cl,amO]
   simp only[if_pos e.1.1,e.1.2.2]
   congr 3
   omega
  ·rcases anp hy with hy|rfl
   ·exact h2.lt y hy
   ·exact⟨by have:=e.1.1;simp only;omega,e.1.2.1⟩
  ·rw[Nw.ir Q3]
   by_cases hj:j=g
   ·subst hj
    have hg:=e.1.1
    rw[if_neg (by rintro⟨_,h⟩;omega),if_pos ⟨hg,rfl⟩,←h2.mn]
    simp[dN]
   ·rw[if_neg (by rintro⟨_,h⟩;omega),if_neg (by rintro⟨_,h⟩;exact hj h.symm),←h2.mn]
    simp[dN,hj]
theorem eT{H:Hp}{c:Nat}{S:Nat→Prop}{st:Int}{w:Nw}(h:bv H c S st w)(i:Int):
  ah Tryz.prog jz [ptr c,i64 i] H fun v H'=>ay (
   (¬cZ w.cs i∧v= .tuple [i64 0,.bool false].toArray∧H=H')∨
   (cZ w.cs i∧∃x,w.cs[i.toNat]? =some x∧v= .tuple [i64 x.1,.bool true].toArray∧bv H' c S st w∧ai S H H')):=by
 obtain⟨cs,len,rt,aY,h1,h2⟩:=h
 refine(vi h1 (fun x hx=>(h2.lt x hx).2) i).mono ?_
 rintro _ H1 (⟨e,rfl,rfl⟩| ⟨e,x,hx,rfl,g1,g2⟩)
 ·exact .inl ⟨by rw[h2.MQ];exact e,rfl,rfl⟩
 ·obtain⟨e0,x',xi,hp⟩:=id e
  rw[hx]at xi
  injection xi with xi
  subst xi
  have hg:=h2.get hx
  rw[if_pos hp]at hg
  exact .inr ⟨by rw[h2.MQ];exact e,_,hg,rfl,⟨_,_,_,_,g1,h2⟩,g2⟩
theorem lU{H:Hp}{c:Nat}{S:Nat→Prop}{st:Int}{w:Nw}(h:bv H c S st w)(i:Int):
  ah Tryz.prog bk [ptr c,i64 i] H fun v H'=>ay (bv H' c S st w∧ax H H'∧(
   (¬cZ w.cs i∧v= .tuple [vV 0 0,.bool false].toArray)∨
   (cZ w.cs i∧∃x,w.cs[i.toNat]? =some x∧v= .tuple [vV x.2.1 x.2.2,.bool true].toArray))):=by
 obtain⟨cs,len,rt,aY,h1,h2⟩:=h
 refine(DU h1 i).mono ?_
 rintro _ H1 ⟨g1,g2,⟨e,rfl⟩| ⟨e,x,hx,rfl⟩⟩
 ·exact⟨⟨_,_,_,_,g1,h2⟩,g2,.inl ⟨by rw[h2.MQ];exact e,rfl⟩⟩
 ·exact⟨⟨_,_,_,_,g1,h2⟩,g2,.inr ⟨by rw[h2.MQ];exact e,_,h2.get hx,rfl⟩⟩
theorem mZ{H:Hp}{c:Nat}{S:Nat→Prop}{st:Int}{w:Nw}(h:bv H c S st w)(i:Int):
  ah Tryz.prog jA [ptr c,i64 i] H fun v H'=>ay (
   (¬cZ w.cs i∧v= .bool false∧H=H')∨
   (cZ w.cs i∧v= .bool true∧bv H' c S st (w.put i (0,0,0))∧ai S H H')):=by
 obtain⟨cs,len,rt,aY,h1,h2⟩:=h
 have zp:=h1.Fu
 have rq:w.cs.length=cs.length:=by rw[h2.cl,amu]
 refine(Fx h1 (fun x hx=>(h2.lt x hx).2) i (fun j=>by rw[h2.mn];have:=w.A5 j;omega)).mono ?_
 rintro _ H1 (⟨e,rfl,rfl⟩| ⟨e,rfl,x,hx,g1,g2⟩)
 ·exact .inl ⟨by rw[h2.MQ];exact e,rfl,rfl⟩
 ·obtain⟨e0,x',xi,hp⟩:=id e
  rw[hx]at xi
  injection xi with xi
  subst xi
  have hg:=h2.get hx
  rw[if_pos hp]at hg
  have aR:=h2.lt x (amb hx)
  have hnz:rt x.1.toNat≠0:=fun e=>by have:=h2.nz _ (by omega) e;omega
  refine .inr ⟨by rw[h2.MQ];exact e,rfl,⟨_,_,_,_,g1,h2.hl,h2.h0,h2.hh,?_,fun y hy=>?_,fun j=>?_,h2.low,h2.Lw,h2.nz⟩,g2⟩
  ·show w.cs.set i.toNat _=_
   rw[h2.cl,amO]
   rfl
  ·rcases anp hy with hy|rfl
   ·exact h2.lt y hy
   ·exact⟨by simp only;omega,by simp only;omega⟩
  ·have hp:=Nw.ir (y:=((0:Int),(0:Int),(0:Int))) hg j
   simp only at hp
   have hm:=h2.mn j
   by_cases hj:j=rt x.1.toNat
   ·subst hj
    rw[if_pos ⟨by omega,rfl⟩,if_neg (by rintro⟨h1,h2⟩;omega)]at hp
    rw[hp,←hm]
    split
    ·rename_i hz
     simp only[dN]at hz
     simp only[dN,uC,if_true,Option.getD_none]
     omega
    ·simp[dN,cX]
   ·rw[if_neg (by rintro⟨_,h⟩;exact hj h.symm),if_neg (by rintro⟨h1,h2⟩;omega)]at hp
    rw[hp,←hm]
    split
    ·simp[dN,cX,uC,hj]
    ·simp[dN,cX,hj]
theorem lV{H:Hp}{c:Nat}{S:Nat→Prop}{st:Int}{w:Nw}(h:bv H c S st w)(i k s:Int):
  ah Tryz.prog iz [ptr c,i64 i,vV k s] H fun v H'=>ay (
   (¬ (cZ w.cs i∧∀x,w.cs[i.toNat]? =some x→¬gu x.2.1 x.2.2 k s)∧v= .bool false∧bv H' c S st w∧ax H H')∨
   (cZ w.cs i∧v= .bool true∧∃x,w.cs[i.toNat]? =some x∧¬gu x.2.1 x.2.2 k s∧bv H' c S st (w.put i (x.1,k,s))∧ai S H H')):=by
 obtain⟨cs,len,rt,aY,h1,h2⟩:=h
 refine(DV h1 i k s).mono ?_
 rintro _ H1 (⟨e,rfl,g1,g2⟩| ⟨e,rfl,x,hx,hl,g1,g2⟩)
 ·refine .inl ⟨fun hc=>e ⟨(h2.MQ i).1 hc.1,fun x hx=>?_⟩,rfl,⟨_,_,_,_,g1,h2⟩,g2⟩
  have:=hc.2 _ (h2.get hx)
  exact this
 ·have hg:=h2.get hx
  refine .inr ⟨(h2.MQ i).2 e,rfl,_,hg,hl,⟨_,_,_,_,g1,h2.hl,h2.h0,h2.hh,?_,fun y hy=>?_,fun j=>?_,h2.low,h2.Lw,h2.nz⟩,g2⟩
  ·show w.cs.set i.toNat _=_
   rw[h2.cl,amO]
  ·rcases anp hy with hy|rfl
   ·exact h2.lt y hy
   ·exact h2.lt x (amb hx)
  ·rw[Nw.ir hg,←h2.mn]
   simp only
   split<;>omega
theorem lW{H:Hp}{c:Nat}{S:Nat→Prop}{st:Int}{w:Nw}(h:bv H c S st w)(a b:Int):
  ah Tryz.prog cQ [ptr c,i64 a,i64 b] H fun v H'=>ay (v= .bool (w.ahead a b)∧bv H' c S (if cZ w.cs a∧cZ w.cs b then hG st 1 else st) w∧ai S H H'):=by
 obtain⟨cs,len,rt,aY,h1,h2⟩:=h
 refine(DT h1 a b).mono ?_
 rintro _ H1 (⟨e,rfl,rfl⟩| ⟨e,x,y,hx,hy,rfl,g1,g2⟩)
 ·have e':¬ (cZ w.cs a∧cZ w.cs b):=fun hc=>e ⟨(h2.MQ a).1 hc.1,(h2.MQ b).1 hc.2⟩
  refine⟨amt Value.bool ?_,by rw[if_neg e'];exact⟨_,_,_,_,h1,h2⟩,ai.refl _ _⟩
  unfold Nw.ahead
  by_cases ha:cZ w.cs a
  ·by_cases hb:cZ w.cs b
   ·exact absurd ⟨ha,hb⟩ e'
   ·simp[hb]
  ·simp[ha]
 ·have ha:=(h2.MQ a).2 e.1
  have hb:=(h2.MQ b).2 e.2
  refine⟨amt Value.bool ?_,by rw[if_pos ⟨ha,hb⟩];exact⟨_,_,_,_,g1,h2⟩,g2⟩
  unfold Nw.ahead
  rw[amj ha,amj hb,h2.get hx,h2.get hy]
  rfl
theorem bv.EM{H:Hp}{c:Nat}{S:Nat→Prop}{st:Int}{w:Nw}(h:bv H c S st w):w.hs.length≤65537:=by
 obtain⟨cs,len,rt,aY,⟨⟨fb,nb,ns,mb,_,_,g,_⟩,_⟩,h2⟩:=h
 have:=g.le
 rw[h2.hl]
 omega
theorem bv.home{H:Hp}{c:Nat}{S:Nat→Prop}{st:Int}{w:Nw}(h:bv H c S st w):∀x∈w.cs,0≤x.1∧x.1<w.hs.length:=by
 obtain⟨cs,len,rt,aY,h1,h2⟩:=h
 intro x hx
 rw[h2.cl]at hx
 obtain⟨y,hy,rfl⟩:=amJ.1 hx
 have h3:=h2.lt y hy
 rw[h2.hl]
 have h4:=h2.low y.1.toNat (by omega)
 have h5:0<len:=by
  have:=(al7.1 h2.h0).1
  rw[h2.hl]at this
  exact this
 simp only
 split<;>omega
theorem bv.live{H:Hp}{c:Nat}{S:Nat→Prop}{st:Int}{w:Nw}(h:bv H c S st w):∀x∈w.cs,0<x.1→w.hs[x.1.toNat]? =some true:=by
 obtain⟨cs,len,rt,aY,h1,h2⟩:=h
 intro x hx
 rw[h2.cl]at hx
 obtain⟨y,hy,rfl⟩:=amJ.1 hx
 have h3:=h2.lt y hy
 simp only
 split
 ·intro h0
  have h4:=h2.low y.1.toNat (by omega)
  have h5:=h2.Lw y.1.toNat (by omega)
  rw[show((rt y.1.toNat:Nat):Int).toNat=rt y.1.toNat by omega,h2.hh _ (by omega) h4,h5]
  simp
 ·intro h0;omega
theorem ep.RX{H:Hp}{size n:Nat}{v:Value}{xs:List Value}(h:ep H size v n xs):∃a c,v= .slice a n c:=by
 obtain⟨_,⟨rfl,a,c,rfl⟩| ⟨b,o,c,l,rfl,_⟩⟩:=h
 ·exact⟨_,_,rfl⟩
 ·exact⟨_,_,rfl⟩
theorem Jw(k s k' s':Int):(Fs k s k' s'<0↔gu k s k' s')∧(Fs k s k' s'=0↔(k=k'∧s=s')):=by
 refine⟨GI k s k' s',?_⟩
 unfold Fs Wo xg
 simp only[List.find?]
 by_cases h1:k<k'
 ·simp[h1];omega
 ·by_cases h2:k'<k
  ·simp[h1,h2];omega
  ·by_cases h3:s<s'
   ·simp[h1,h2,h3];omega
   ·by_cases h4:s'<s
    ·simp[h1,h2,h3,h4];omega
    ·simp[h1,h2,h3,h4];omega
theorem Np(a b:Int)(x y:Ce):A4 a b x y↔(gu x.2.1 x.2.2 y.2.1 y.2.2∨(x.2.1=y.2.1∧x.2.2=y.2.2)∧a<b):=by
 unfold A4
 rw[(Jw _ _ _ _).1,(Jw _ _ _ _).2]
structure du(H:Hp)(r:Nat)(S:Nat→Prop)(d:Int)(l:List Int)(pl:Int→Option Int):Prop where
 rep:∃sv fp mb,H.own r=some [i64 d,sv,.map (some mb)]∧Sl H 1 sv l.length (l.map i64) fp∧oH H mb (fun i=>(pl i).map i64)∧
  S r∧S mb∧r≠mb∧(∀b,fp=some b→S b∧b≠r∧b≠mb)
 slt:∀x,S x→x<H.size
theorem du.ext{H H':Hp}{r:Nat}{S T:Nat→Prop}{d:Int}{l:List Int}{pl:Int→Option Int}(h:du H r S d l pl)(e:ai T H H')(hd:∀x,S x→¬T x):du H' r S d l pl:=by
 obtain⟨⟨sv,fp,mb,a1,a2,a3,s1,s2,s3,s4⟩,h2⟩:=h
 exact⟨⟨sv,fp,mb,e.own a1 (hd _ s1),a2.ext e (fun b hb=>hd _ (s4 b hb).1),a3.ext e (hd _ s2),s1,s2,s3,s4⟩,fun x hx=>amv (h2 x hx) e.size⟩
theorem zG(d:Int)(H:Hp):ah Tryz.prog M5 [i64 d] H fun v H'=>ay (
  ax H H'∧((¬cT d∧v= .tuple [.pointer none,i64 22].toArray)∨
   cT d∧∃r S,v= .tuple [ptr r,i64 0].toArray∧du H' r S d [] (fun _=>none)∧∀x,S x→H.size≤x)):=by
 refine be Na ⟨rfl,?_⟩
 refine v1 AF.eq_1 ?_
 refine(qu d H).mono ?_
 rintro _ _ ⟨rfl,rfl⟩
 refine vs ?_
 refine ak.dec (fun h=>?_) (fun h=>?_)<;>refine vs ?_
 ·have e1:ax H (H.fY.new 310 [i64 d,.slice none 0 0,.map (some H.size)]):=((ai.refl _ _).fY).new _ _
  refine⟨e1,.inr ⟨h,H.size+1,fun x=>H.size≤x∧x<H.size+1+1,rfl,⟨⟨_,none,H.size,bD (by simp only[kC]),Sl.nil _ _,?_,?_,?_,?_,?_⟩,?_⟩,fun x hx=>hx.1⟩⟩
  ·exact(oH.new H).ext ((ai.refl (fun _=>False) _).new _ _) (fun h=>h)
  ·omega
  ·omega
  ·omega
  ·intro b hb;cases hb
  ·intro x hx
   simp only[au,kC]
   exact hx.2
 ·exact⟨ai.refl _ _,.inl ⟨h,rfl⟩⟩
theorem Kf{H:Hp}{r:Nat}{S:Nat→Prop}{d:Int}{l:List Int}{pl:Int→Option Int}(h:du H r S d l pl)(i:Int):
  ah Tryz.prog Ik [ptr r,i64 i] H fun v H'=>ay (v=Nh (if 0≤i then l[i.toNat]? else none)∧H=H'):=by
 obtain⟨⟨sv,fp,mb,a1,a2,a3,s1,s2,s3,s4⟩,h2⟩:=h
 refine be Ix ⟨rfl,?_⟩
 refine v1 rW.eq_1 ?_
 refine ak.dec (fun h=>?_) (fun h=>?_)<;>refine v1 (ae a1) ?_
 ·exact⟨by rw[if_neg (by omega)];rfl,rfl⟩
 ·cases fp with
  |none=>
   obtain⟨_,e,rfl⟩:=a2
   have hl:l=[]:=amD.1 e
   subst hl
   refine vs ?_
   refine ak.cE (by simp only[amQ];omega) ?_
   refine vs ?_
   exact⟨by rw[if_pos (by omega)];rfl,rfl⟩
  |some b=>
   obtain⟨_,l',c,rfl,a4,a5,a6,a7⟩:=a2
   refine vs ?_
   refine ak.dec (fun h3=>?_) (fun h3=>?_)<;>refine v1 (ae a1) ?_
   ·exact⟨by rw[if_pos (by omega),amk (by omega)];rfl,rfl⟩
   ·obtain⟨x,hx⟩:∃x,l[i.toNat]? =some x:=⟨_,al5 (by omega)⟩
    have GM:l'[i.toNat]? =some (i64 x):=by
     have h1:(l.map i64)[i.toNat]? =some (i64 x):=by simp[hx]
     rw[←a7,amA (by omega)]at h1
     exact h1
    refine⟨by omega,?_⟩
    refine v3 (ae a4) ama GM ?_
    exact⟨by rw[if_pos (by omega),hx];rfl,rfl⟩
theorem nm{H:Hp}{r:Nat}{S:Nat→Prop}{d:Int}{l:List Int}{pl:Int→Option Int}(h:du H r S d l pl)(i x:Int)(hi:0≤i∧i<l.length):
  ah Tryz.prog p9 [ptr r,i64 i,i64 x] H fun v H'=>ay (v= .tuple [].toArray∧du H' r S d (l.set i.toNat x) (cX pl x i)∧ai S H H'):=by
 obtain⟨⟨sv,fp,mb,a1,a2,a3,s1,s2,s3,s4⟩,h2⟩:=h
 refine be Gu ⟨rfl,?_⟩
 cases fp with
 |none=>obtain⟨_,e,_⟩:=a2;omega
 |some b=>
  have Wb:=a2
  obtain⟨_,l',c,rfl,a4,a5,a6,a7⟩:=a2
  refine v2 qo.eq_1 (ae a1) ?_
  refine⟨by omega,?_⟩
  refine v2 a4 ama ?_
  refine⟨by omega,?_⟩
  obtain⟨PS,GN,T9⟩:=s4 b rfl
  have e1:ai (fun z=>z=b) H (H.wr b (l'.set i.toNat (i64 x))):=(ai.refl (fun z=>z=b) _).wr (fun _=>rfl) _
  have b1:=e1.own a1 (Ne.symm GN)
  have b2:=Wb.vX a4 i.toNat (i64 x)
  have b3:=a3.ext e1 (Ne.symm T9)
  refine v1 (ae b1) ?_
  refine b3.YA fun H2 m2 e2=>?_
  rw[LH]at m2
  refine vs ?_
  refine⟨rfl,⟨⟨_,some b,mb,by exact e2.own b1 s3,?_,m2,s1,s2,s3,s4⟩,fun z hz=>amv (h2 z hz) (amM e1.size e2.size)⟩,(e1.mono fun z _ hz=>hz▸PS).trans (e2.mono fun z _ hz=>hz▸s2)⟩
  rw[al8,amO]
  exact b2.ext e2 (fun z hz=>by injection hz with hz;exact hz▸T9)
structure Nq(ov:Value)(I:Hp→Nat→Prop)(T:Nat→Prop)(lt:Int→Int→Bool)(D:Int→Prop:=fun _=>True):Prop where
 call:∀H n a b,D a→D b→I H n→jj Tryz.prog ov "Ahead" [i64 a,i64 b] H fun v H'=>v= .bool (lt a b)∧I H' (n+1)∧ai T H H'
 nil:PT Tryz.prog (.func (.method "Ahead") #[ov] #[])
 aN:∀H H' n U,I H n→ai U H H'→(∀x,T x→¬U x)→I H' n
 tlt:∀H n,I H n→∀x,T x→x<H.size
structure UpR where
 l:List Int
 pl:Int→Option Int
 at_:Int
 asked:Nat
def gw(lt:Int→Int→Bool)(d x:Int):Nat→List Int→(Int→Option Int)→Int→UpR
 |0,l,pl,i=>⟨l.set i.toNat x,cX pl x i,i,0⟩
 |m+1,l,pl,i=>match bi d i with
  |none=>⟨l.set i.toNat x,cX pl x i,i,0⟩
  |some p=>
   if lt x (l.getD p.toNat 0)=true then
    let r:=gw lt d x m (l.set i.toNat (l.getD p.toNat 0)) (cX pl (l.getD p.toNat 0) i) p
    ⟨r.l,r.pl,r.at_,r.asked+1⟩
   else⟨l.set i.toNat x,cX pl x i,i,1⟩
theorem RY(lt:Int→Int→Bool)(d x:Int):∀ (m m':Nat) (l:List Int) (pl:Int→Option Int) (i:Int),i.toNat≤m→i.toNat≤m'→gw lt d x m l pl i=gw lt d x m' l pl i:=by
 intro m
 induction m with
 |zero=>
  intro m' l pl i h _
  have hn:bi d i=none:=by unfold bi;rw[if_neg (by omega)]
  cases m'<;>simp[gw,hn]
 |succ m ih=>
  intro m' l pl i h h'
  cases hp:bi d i with
  |none=>cases m'<;>simp[gw,hp]
  |some p=>
   have hb:=fA hp
   cases m' with
   |zero=>omega
   |succ m'=>simp only[gw,hp];rw[ih m' _ _ p (by omega) (by omega)]
theorem tj{l:List Int}{i:Nat}{y z:Int}(h:z∈l.set i y):z=y∨z∈l:=(anp h).symm
theorem Ua(lt:Int→Int→Bool)(d x:Int):∀ (m:Nat) (l:List Int) (pl:Int→Option Int) (i:Int),0≤i→i<l.length→∀z∈(gw lt d x m l pl i).l,z=x∨z∈l:=by
 intro m
 induction m with
 |zero=>intro l pl i _ _ z hz;exact tj hz
 |succ m ih=>
  intro l pl i h0 h1 z hz
  cases hp:bi d i with
  |none=>simp only[gw,hp]at hz;exact tj hz
  |some p=>
   have hb:=fA hp
   simp only[gw,hp]at hz
   split at hz
   ·rcases ih _ _ p (by omega) (by rw[al8];omega) z hz with h|h
    ·exact .inl h
    ·rcases tj h with h|h
     ·rw[h,al9,al5 (by omega)]
      exact .inr (anW _)
     ·exact .inr h
   ·exact tj hz
theorem uD{ov:Value}{I:Hp→Nat→Prop}{T:Nat→Prop}{lt:Int→Int→Bool}{D:Int→Prop}(ho:Nq ov I T lt D){H:Hp}{r:Nat}{S:Nat→Prop}{d:Int}{l:List Int}{pl:Int→Option Int}
  (h:du H r S d l pl)(hd:∀x,S x→¬T x){n:Nat}(hI:I H n)(i x:Int)(hi:0≤i∧i<l.length)(hl:l.length≤1000000)(hx:D x:=by trivial)(hD:∀z∈l,D z:=by intros;trivial):
  ah Tryz.prog Il [ptr r,ov,i64 i,i64 x] H fun v H'=>ay (
   let R:=gw lt d x i.toNat l pl i
   v=i64 R.at_∧du H' r S d R.l R.pl∧I H' (n+R.asked)∧ai (fun z=>S z∨T z) H H'):=by
 refine be Iy ⟨rfl,?_⟩
 refine v1 rX.eq_1 ?_
 refine bA.intro (fun m env H1=>∃ (l1:List Int) (Cs:Int→Option Int) (i1:Int) (k:Nat),env=[(0,ptr r),(1,ov),(2,i64 i1),(3,i64 x)]∧(∀z∈l1,D z)∧m=i1.toNat∧0≤i1∧i1<l1.length∧l1.length=l.length∧
   du H1 r S d l1 Cs∧I H1 (n+k)∧ai (fun z=>S z∨T z) H H1∧
   (gw lt d x i.toNat l pl i).l=(gw lt d x i1.toNat l1 Cs i1).l∧(gw lt d x i.toNat l pl i).pl=(gw lt d x i1.toNat l1 Cs i1).pl∧(gw lt d x i.toNat l pl i).at_=(gw lt d x i1.toNat l1 Cs i1).at_∧
   (gw lt d x i.toNat l pl i).asked=k+(gw lt d x i1.toNat l1 Cs i1).asked) i.toNat ⟨l,pl,i,0,rfl,hD,rfl,hi.1,hi.2,rfl,h,hI,ai.refl _ _,rfl,rfl,rfl,by omega⟩ ?_
 rintro m env H1 ⟨l1,Cs,i1,k,rfl,Vi,rfl,i0,il,ll,h1,hI1,e1,u1,u2,u3,u4⟩
 obtain⟨⟨sv,fp,mb,a1,a2,a3,s1,s2,s3,s4⟩,h2⟩:=id h1
 have key:∀o:Option Int,Nh o= .tuple [i64 (o.getD 0),.bool o.isSome].toArray:=by intro o;cases o<;>rfl
 refine v1 (ae a1) ?_
 refine(DN d i1 (by omega) H1).mono ?_
 rintro _ _ ⟨rfl,rfl⟩
 rw[key]
 have stop:∀ (H2:Hp) (k2:Nat),du H2 r S d l1 Cs→I H2 (n+k+k2)→ai (fun z=>S z∨T z) H H2→gw lt d x i1.toNat l1 Cs i1=⟨l1.set i1.toNat x,cX Cs x i1,i1,k2⟩→
   ah Tryz.prog p9 [ptr r,i64 i1,i64 x] H2 fun _ H'=>(i64 i1=i64 (gw lt d x i.toNat l pl i).at_∧du H' r S d (gw lt d x i.toNat l pl i).l (gw lt d x i.toNat l pl i).pl∧
    I H' (n+(gw lt d x i.toNat l pl i).asked)∧ai (fun z=>S z∨T z) H H'):=by
  intro H2 k2 g1 g2 g3 g4
  refine(nm g1 i1 x ⟨i0,il⟩).mono ?_
  rintro _ H3 ⟨_,g5,g6⟩
  rw[u1,u2,u3,u4,g4]
  exact⟨rfl,g5,by rw[←aol];exact ho.aN _ _ _ _ g2 g6 (fun z hz hs=>hd z hs hz),g3.trans (g6.mono fun z _ hz=>.inl hz)⟩
 cases hp:bi d i1 with
 |none=>
  simp(disch:=(first|omega| (simp only[Zs]<;>omega)|fail)) only[go_sem, ↓reduceIte,Zv,Option.isSome_none]
  refine(stop H1 0 h1 hI1 e1 ?_).mono ?_
  ·cases hm:i1.toNat<;>simp[gw,hp,hm]
  ·rintro _ H3 ⟨g1,g2,g3,g4⟩
   refine vs ?_
   exact⟨g1,g2,g3,g4⟩
 |some p=>
  have PU:=fA hp
  obtain⟨b,rfl⟩:∃b,fp=some b:=by
   cases fp with
   |none=>obtain⟨_,e,_⟩:=a2;omega
   |some b=>exact⟨b,rfl⟩
  obtain⟨_,l',c,rfl,a4,a5,a6,a7⟩:=a2
  obtain⟨y,hy⟩:∃y,l1[p.toNat]? =some y:=⟨_,al5 (by omega)⟩
  have zV:l'[p.toNat]? =some (i64 y):=by
   have h1:(l1.map i64)[p.toNat]? =some (i64 y):=by simp[hy]
   rw[←a7,amA (by omega)]at h1
   exact h1
  have hy3:l1.getD p.toNat 0=y:=by simp[List.getD,hy]
  simp(disch:=(first|omega| (simp only[Zs]<;>omega)|fail)) only[go_sem, ↓reduceIte,Zv,Option.isSome_some,Option.getD_some,ae a1]
  refine⟨by omega,?_⟩
  refine v3 (ae a4) ama zV ?_
  refine⟨ho.nil,?_⟩
  refine vs ?_
  refine jj.mono (ho.call H1 (n+k) x y hx (Vi y (amb hy)) hI1) ?_
  rintro _ H2 ⟨rfl,Q4,e2⟩
  have Nr:=h1.ext e2 hd
  have sJ:=e1.trans (e2.mono fun z _ hz=>.inr hz)
  have b1:=e2.own a1 (hd _ s1)
  have b4:=e2.own a4 (hd _ (s4 b rfl).1)
  refine vs ?_
  cases aR:lt x y with
  |false=>
   refine vs ?_
   refine(stop H2 1 Nr Q4 sJ ?_).mono ?_
   ·obtain⟨q,hq⟩:∃q,i1.toNat=q+1:=⟨i1.toNat - 1,by omega⟩
    rw[hq]
    simp[gw,hp,hy,aR,hq]
   ·rintro _ H3 ⟨g1,g2,g3,g4⟩
    refine vs ?_
    exact⟨g1,g2,g3,g4⟩
  |true=>
   refine v1 (ae b1) ?_
   refine⟨by omega,?_⟩
   refine v3 (ae b4) ama zV ?_
   refine(nm Nr i1 y ⟨i0,il⟩).mono ?_
   rintro _ H3 ⟨_,g5,g6⟩
   refine vs ?_
   obtain⟨q,hq⟩:∃q,i1.toNat=q+1:=⟨i1.toNat - 1,by omega⟩
   have E0:gw lt d x i1.toNat l1 Cs i1=⟨(gw lt d x p.toNat (l1.set i1.toNat y) (cX Cs y i1) p).l,(gw lt d x p.toNat (l1.set i1.toNat y) (cX Cs y i1) p).pl,(gw lt d x p.toNat (l1.set i1.toNat y) (cX Cs y i1) p).at_,
     (gw lt d x p.toNat (l1.set i1.toNat y) (cX Cs y i1) p).asked+1⟩:=by
    rw[RY lt d x p.toNat q _ _ p (ami _) (by omega),hq]
    simp only[gw,hp,hy3,aR,if_true,hq]
   refine⟨p.toNat,by omega,l1.set i1.toNat y,cX Cs y i1,p,k+1,rfl,fun z hz=>(tj hz).elim (fun e=>e▸Vi y (amb hy)) (Vi z),rfl,by omega,by rw[al8];omega,by rw[al8];exact ll,g5,
    ho.aN _ _ _ _ Q4 g6 (fun z hz hs=>hd z hs hz),sJ.trans (g6.mono fun z _ hz=>.inl hz),by rw[u1,E0],by rw[u2,E0],by rw[u3,E0],by rw[u4,E0];simp only;omega⟩
theorem IN{ov:Value}{I:Hp→Nat→Prop}{T:Nat→Prop}{lt:Int→Int→Bool}{D:Int→Prop}(ho:Nq ov I T lt D){H:Hp}{r:Nat}{S:Nat→Prop}{d:Int}{l:List Int}{pl:Int→Option Int}
  (h:du H r S d l pl)(hd:∀x,S x→¬T x){n:Nat}(hI:I H n)(x:Int)(hl:l.length<1000000)(hDx:D x:=by trivial)(hD:∀z∈l,D z:=by intros;trivial):
  ah Tryz.prog Gm [ptr r,ov,i64 x] H fun v H'=>ay (
   let R:=gw lt d x l.length (l++[x]) pl l.length
   (pl x≠none∧v= .bool false∧H=H')∨
   (pl x=none∧v= .bool true∧∃S',du H' r S' d R.l R.pl∧I H' (n+R.asked)∧ai (fun z=>S z∨T z) H H'∧∀z,S' z→S z∨H.size≤z)):=by
 obtain⟨⟨sv,fp,mb,a1,a2,a3,s1,s2,s3,s4⟩,h2⟩:=id h
 have key:jt true (Value.int .i64 0) ((pl x).map i64)= .tuple [i64 ((pl x).getD 0),.bool (pl x).isSome].toArray:=by cases pl x<;>rfl
 refine be Gt ⟨rfl,?_⟩
 refine v4 qn.eq_1 (ae a1) a3.look key ?_
 cases hx:pl x with
 |some p=>
  simp(disch:=(first|omega| (simp only[Zs]<;>omega)|fail)) only[go_sem, ↓reduceIte,Zv,Option.isSome_some]
  exact .inl ⟨by simp,rfl,rfl⟩
 |none=>
  simp(disch:=(first|omega| (simp only[Zs]<;>omega)|fail)) only[go_sem, ↓reduceIte,Zv,Option.isSome_none,ae a1]
  have hb:=aO a1
  have e0:ai (fun _=>False) H (H.new 3 [i64 x]):=(ai.refl _ H).new 3 [i64 x]
  refine Sl.append (a2.ext e0 (fun _ _ h=>h)) (Sl.dE (size:=1) (xs:=[i64 x]) rfl rfl).rd rfl (xd [x]) (by omega) ?_
  intro v' H2 fL hs vW mr
  have b1:=vW.own (e0.own a1 (fun h=>h)) (fun e=>(s4 r e).2.1 rfl)
  have Fo:=hs
  obtain⟨f,rfl⟩:∃f,fL=some f:=by
   cases fL with
   |none=>obtain⟨_,e,_⟩:=hs;omega
   |some f=>exact⟨f,rfl⟩
  obtain⟨_,l',c',rfl,g1,g2,g3,g4⟩:=Fo
  have hf:(fp=some f)∨H.size≤f:=by
   rcases mr with h| ⟨z,h,h5,h6⟩
   ·exact .inl h.symm
   ·injection h with h;subst h;rw[au]at h5;exact .inr (by omega)
  have RQ:f≠r∧f≠mb:=by
   rcases hf with h|h
   ·exact(s4 f h).2
   ·have:=a3.lt;omega
  have e2:ai (fun z=>S z) H H2:=(e0.mono fun _ _ h=>h.elim).ut vW (fun z _ hz=>(s4 z hz).1)
  have e3:ai (fun z=>S z) H (H2.wr r [i64 d,.slice (some ⟨f,0,none⟩) (l.length+1) c',.map (some mb)]):=e2.wr (fun _=>s1) _
  have hr:du (H2.wr r [i64 d,.slice (some ⟨f,0,none⟩) (l.length+1) c',.map (some mb)]) r (fun z=>S z∨z=f) d (l++[x]) pl:=by
   have ew:ai (fun z=>z=r) H2 (H2.wr r [i64 d,.slice (some ⟨f,0,none⟩) (l.length+1) c',.map (some mb)]):=(ai.refl (fun z=>z=r) _).wr (fun _=>rfl) _
   refine⟨⟨.slice (some ⟨f,0,none⟩) (l.length+1) c',some f,mb,?_,?_,((a3.ext e0 (fun h=>h)).ext vW (fun e=>(s4 mb e).2.2 rfl)).ext ew (Ne.symm s3),.inl s1,.inl s2,s3,fun b e=>by cases e;exact⟨.inr rfl,RQ⟩⟩,?_⟩
   ·exact aj b1
   ·rw[amh,amU];exact hs.ext ew (fun b e=>by injection e with e;subst e;exact RQ.1)
   ·rintro z (hz|rfl)
    ·exact amv (h2 z hz) e3.size
    ·rw[gm];exact aO g1
  have oW:∀z,(S z∨z=f)→¬T z:=by
   rintro z (hz|rfl) ht
   ·exact hd z hz ht
   ·rcases hf with h|h
    ·exact hd _ (s4 _ h).1 ht
    ·have:=ho.tlt H n hI _ ht;omega
  have Q4:=ho.aN _ _ _ _ hI e3 (fun z hz hs=>hd z hs hz)
  simp(disch:=(first|omega| (simp only[Zs]<;>omega)|fail)) only[go_sem, ↓reduceIte,Zv,b1,us b1]
  rw[wrap64 (by omega) (by omega),show((l.length+1:Nat):Int) - 1=(l.length:Int) by omega]
  refine(uD ho hr oW Q4 l.length x ⟨by omega,by rw[amh,amx];omega⟩ (by rw[amh];simp;omega) hDx (fun z hz=>by rcases aml.1 hz with h|h;exact hD z h;rw[amg.1 h];exact hDx)).mono ?_
  rintro _ H3 ⟨_,r1,r2,r3⟩
  refine vs ?_
  refine .inr ⟨rfl,rfl,_,r1,r2,?_,?_⟩
  ·refine(e3.mono fun z _ hz=>Or.inl hz).ut r3 ?_
   rintro z hz ((h|rfl)|h)
   ·exact .inl h
   ·rcases hf with h|h
    ·exact .inl (s4 _ h).1
    ·omega
   ·exact .inr h
  ·rintro z (h|rfl)
   ·exact .inl h
   ·rcases hf with h|h
    ·exact .inl (s4 _ h).1
    ·exact .inr h
theorem Fy{ov:Value}{I:Hp→Nat→Prop}{T:Nat→Prop}{lt:Int→Int→Bool}{D:Int→Prop}(ho:Nq ov I T lt D){H:Hp}{r:Nat}{S:Nat→Prop}{d:Int}{l:List Int}{pl:Int→Option Int}
  (h:du H r S d l pl)(hd:∀x,S x→¬T x){n:Nat}(hI:I H n)(x:Int)(hl:l.length≤1000000)(hp:∀i,pl x=some i→0≤i∧i<l.length)(hDx:D x:=by trivial)(hD:∀z∈l,D z:=by intros;trivial):
  ah Tryz.prog Dp [ptr r,ov,i64 x] H fun v H'=>ay (
   (pl x=none∧v= .bool false∧H=H')∨
   (∃i,pl x=some i∧v= .bool true∧du H' r S d (gw lt d x i.toNat l pl i).l (gw lt d x i.toNat l pl i).pl∧I H' (n+(gw lt d x i.toNat l pl i).asked)∧ai (fun z=>S z∨T z) H H')):=by
 obtain⟨⟨sv,fp,mb,a1,a2,a3,s1,s2,s3,s4⟩,h2⟩:=id h
 have key:jt true (Value.int .i64 0) ((pl x).map i64)= .tuple [i64 ((pl x).getD 0),.bool (pl x).isSome].toArray:=by cases pl x<;>rfl
 refine be DC ⟨rfl,?_⟩
 refine v4 mO.eq_1 (ae a1) a3.look key ?_
 cases hx:pl x with
 |none=>
  simp(disch:=(first|omega| (simp only[Zs]<;>omega)|fail)) only[go_sem, ↓reduceIte,Zv,Option.isSome_none]
  exact .inl ⟨rfl,rfl,rfl⟩
 |some i=>
  simp(disch:=(first|omega| (simp only[Zs]<;>omega)|fail)) only[go_sem, ↓reduceIte,Zv,Option.isSome_some,Option.getD_some]
  refine(uD ho h hd hI i x (hp i hx) hl hDx hD).mono ?_
  rintro _ H3 ⟨_,r1,r2,r3⟩
  refine vs ?_
  exact .inr ⟨i,rfl,rfl,r1,r2,r3⟩
theorem rD{H:Hp}{v:Value}{n:Nat}{xs:List Int}(h:ep H 1 v n (xs.map i64))(hn:n≤1000000):
  ah Tryz.prog tP [v] H fun r H'=>ay (ax H H'∧∃fp,Sl H' 1 r n (xs.map i64) fp∧∀b,fp=some b→H.size≤b∧b<H'.size):=by
 refine be tW ⟨rfl,?_⟩
 have hv:∃a c,v= .slice a n c:=by
  obtain⟨_,⟨rfl,a,c,rfl⟩| ⟨b,o,c,l,rfl,_⟩⟩:=h
  ·exact⟨_,_,rfl⟩
  ·exact⟨_,_,rfl⟩
 obtain⟨a,c,rfl⟩:=hv
 refine v1 fe.eq_1 ?_
 cases a with
 |none=>
  have PV:n=0:=by
   obtain⟨_,⟨rfl,_⟩| ⟨b,o,c,l,e,_⟩⟩:=h
   ·rfl
   ·cases e
  have hx:xs.map i64=[]:=amD.1 (by have:=h.1;simpa[PV]using this)
  simp(disch:=(first|omega| (simp only[Zs]<;>omega)|fail)) only[go_sem, ↓reduceIte,Zv,Option.isNone_none]
  rw[hx,PV]
  exact⟨ai.refl _ _,none,Sl.nil H 1,fun b hb=>by cases hb⟩
 |some ad=>
  simp(disch:=(first|omega| (simp only[Zs]<;>omega)|fail)) only[go_sem, ↓reduceIte,Zv,Option.isNone_some]
  have e0:ai (fun _=>False) H (H.new 3 []):=(ai.refl _ H).new 3 []
  refine Sl.append (Sl.dE (size:=1) (n:=0) (xs:=[]) rfl rfl) (h.fresh e0) rfl (xd xs) (by omega) ?_
  intro v' H2 fL hs vW mr
  refine vs ?_
  refine⟨ai.ut e0 vW (fun z hz OO=>by injection OO with OO;omega),fL,by simpa[Ni]using hs,?_⟩
  intro z hz
  have PE:=vW.size
  rw[au]at PE
  rcases mr with h| ⟨y,h,h5,h6⟩
  ·rw[h]at hz;injection hz with hz;omega
  ·rw[h]at hz;injection hz with hz;subst hz;rw[au]at h5;omega
def bT(lt:Int→Int→Bool)(l:List Int)(d i:Int):Nat→Int→Int×Nat
 |0,bU=>(bU,0)
 |m+1,bU=>
  if d*i+(d - m)<l.length then
   let r:=bT lt l d i m (if lt (l.getD (d*i+(d - m)).toNat 0) (l.getD bU.toNat 0)=true then d*i+(d - m)else bU)
   (r.1,r.2+1)
  else bT lt l d i m bU
theorem du.read{H:Hp}{r:Nat}{S:Nat→Prop}{d:Int}{l:List Int}{pl:Int→Option Int}(h:du H r S d l pl)(hl:0<l.length):
  ∃f l' c mb,H.own r=some [i64 d,.slice (some ⟨f,0,none⟩) l.length c,.map (some mb)]∧H.own f=some l'∧∀ (i:Nat) (x:Int),l[i]? =some x→l'[i]? =some (i64 x):=by
 obtain⟨⟨sv,fp,mb,a1,a2,a3,s1,s2,s3,s4⟩,h2⟩:=h
 cases fp with
 |none=>obtain⟨_,e,_⟩:=a2;omega
 |some f=>
  obtain⟨_,l',c,rfl,a4,a5,a6,a7⟩:=a2
  refine⟨f,l',c,mb,a1,a4,?_⟩
  intro i x hx
  have hi:=(al7.1 hx).1
  have h1:(l.map i64)[i]? =some (i64 x):=by simp[hx]
  rw[←a7,amA (by omega)]at h1
  exact h1
theorem Fz{ov:Value}{I:Hp→Nat→Prop}{T:Nat→Prop}{lt:Int→Int→Bool}{D:Int→Prop}(ho:Nq ov I T lt D){H:Hp}{r:Nat}{S:Nat→Prop}{d:Int}{l:List Int}{pl:Int→Option Int}
  (h:du H r S d l pl)(hd:∀x,S x→¬T x){n:Nat}(hI:I H n)(hf:cT d)(i:Int)(hi:0≤i∧i<l.length)(hl:l.length≤1000000)(hD:∀z∈l,D z:=by intros;trivial):
  ah Tryz.prog Dr [ptr r,ov,i64 i] H fun v H'=>ay (
   ((l.length:Int)≤d*i+1∧v= .tuple [i64 0,.bool false].toArray∧H=H')∨
   (d*i+1<l.length∧v= .tuple [i64 (bT lt l d i (d - 1).toNat (d*i+1)).1,.bool true].toArray∧du H' r S d l pl∧I H' (n+(bT lt l d i (d - 1).toNat (d*i+1)).2)∧ai T H H')):=by
 obtain⟨f,l',c,mb,a1,a2,a3⟩:=h.read (by omega)
 have hf1:=hf.1
 have hf2:=hf.2
 have hc:∀k,1≤k→k≤d→uv d i k=some (d*i+k):=fun k h1 h2=>by unfold uv;rw[if_pos ⟨hf,by omega,by omega,h1,h2⟩]
 have hb:=uw (i:=i) hf (by omega) (by omega) (by omega:(1:Int)≤1) (by omega)
 refine be DE ⟨rfl,?_⟩
 refine v2 mQ.eq_1 (ae a1) ?_
 refine(vf d i 1 H).mono ?_
 rintro _ _ ⟨rfl,rfl⟩
 rw[hc 1 (by omega) (by omega)]
 simp(disch:=(first|omega| (simp only[Zs]<;>omega)|fail)) only[go_sem, ↓reduceIte,Zv,Nh,ae a1]
 refine ak.dec (fun h1=>?_) (fun h1=>?_)<;>refine vs ?_
 ·exact .inl ⟨by omega,rfl,rfl⟩
 ·refine bA.intro (fun m env H1=>∃ (bU:Int) (k:Nat),env=[(0,ptr r),(1,ov),(2,i64 i),(8,i64 bU),(10,i64 (d+1 - m))]∧(m:Int)≤d - 1∧0≤bU∧bU<l.length∧
   du H1 r S d l pl∧I H1 (n+k)∧ai T H H1∧
   (bT lt l d i (d - 1).toNat (d*i+1)).1=(bT lt l d i m bU).1∧(bT lt l d i (d - 1).toNat (d*i+1)).2=k+(bT lt l d i m bU).2) (d - 1).toNat
   ⟨d*i+1,0,by rw[show d+1 - ((d - 1).toNat:Int)=2 by omega],by omega,by omega,by omega,h,hI,ai.refl _ _,rfl,by omega⟩ ?_
  rintro m env H1 ⟨bU,k,rfl,hm,b0,b1,r1,i1,e1,u1,u2⟩
  obtain⟨f1,l1,c1,mb1,g1,g2,g3⟩:=r1.read (by omega)
  refine v1 (ae g1) ?_
  refine ak.dec (fun hk=>?_) (fun hk=>?_)<;>refine vs ?_
  ·obtain⟨q,rfl⟩:∃q,m=q+1:=⟨m - 1,by omega⟩
   rw[show d+1 - ((q+1:Nat):Int)=d - q by omega]at*
   refine v1 (ae g1) ?_
   refine(vf d i (d - q) H1).mono ?_
   rintro _ _ ⟨rfl,rfl⟩
   have Ia:=uw (i:=i) hf (by omega) (by omega) (by omega:(1:Int)≤d - q) (by omega)
   rw[hc (d - q) (by omega) (by omega)]
   simp(disch:=(first|omega| (simp only[Zs]<;>omega)|fail)) only[go_sem, ↓reduceIte,Zv,Nh,ae g1]
   refine ak.dec (fun rq=>?_) (fun rq=>?_)<;>refine vs ?_
   ·obtain⟨x,hx⟩:∃x,l[(d*i+(d - q)).toNat]? =some x:=⟨_,al5 (by omega)⟩
    obtain⟨y,hy⟩:∃y,l[bU.toNat]? =some y:=⟨_,al5 (by omega)⟩
    have xi:=g3 _ _ hx
    have MR:=g3 _ _ hy
    refine v1 (ae g1) ?_
    refine⟨by omega,?_⟩
    refine v4 (ae g1) (ae g2) ama xi ?_
    refine⟨by omega,?_⟩
    refine v3 (ae g2) ama MR ?_
    refine⟨ho.nil,?_⟩
    refine vs ?_
    refine jj.mono (ho.call H1 (n+k) x y (hD x (amb hx)) (hD y (amb hy)) i1) ?_
    rintro _ H2 ⟨rfl,Q4,e2⟩
    have Dj:∀z,z=(if lt x y=true then d*i+(d - q)else bU)→bT lt l d i (q+1) bU=((bT lt l d i q z).1,(bT lt l d i q z).2+1):=by
     intro z hz
     rw[bT,if_pos rq]
     simp only[List.getD,hx,hy,Option.getD_some,hz]
    refine vs ?_
    refine ak.intro (fun aR=>?_) (fun aR=>?_)<;>refine vs ?_
    ·rw[wrap64 (by omega) (by omega)]
     exact⟨q,by omega,d*i+(d - q),k+1,by rw[show d+1 - (q:Int)=d - q+1 by omega],by omega,by omega,by omega,r1.ext e2 hd,Q4,e1.trans e2,
      by rw[u1,Dj (d*i+(d - q)) (by rw[if_pos aR])],by rw[u2,Dj (d*i+(d - q)) (by rw[if_pos aR])];simp only;omega⟩
    ·rw[wrap64 (by omega) (by omega)]
     exact⟨q,by omega,bU,k+1,by rw[show d+1 - (q:Int)=d - q+1 by omega],by omega,by omega,by omega,r1.ext e2 hd,Q4,e1.trans e2,
      by rw[u1,Dj bU (by rw[if_neg (by rw[aR];simp)])],by rw[u2,Dj bU (by rw[if_neg (by rw[aR];simp)])];simp only;omega⟩
   ·rw[wrap64 (by omega) (by omega)]
    have Dj:bT lt l d i (q+1) bU=bT lt l d i q bU:=by rw[bT,if_neg rq]
    exact⟨q,by omega,bU,k,by rw[show d+1 - (q:Int)=d - q+1 by omega],by omega,by omega,by omega,r1,i1,e1,by rw[u1,Dj],by rw[u2,Dj]⟩
  ·have h0:m=0:=by omega
   subst h0
   refine .inr ⟨by omega,?_,r1,?_,e1⟩
   ·rw[u1];rfl
   ·rw[u2];exact i1
def cV(lt:Int→Int→Bool)(d x:Int):Nat→List Int→(Int→Option Int)→Int→List Int×(Int→Option Int)×Nat
 |0,l,pl,i=>(l.set i.toNat x,cX pl x i,0)
 |m+1,l,pl,i=>
  if(l.length:Int)≤d*i+1 then(l.set i.toNat x,cX pl x i,0)
  else
   let b:=bT lt l d i (d - 1).toNat (d*i+1)
   let y:=l.getD b.1.toNat 0
   if lt y x=true then
    let r:=cV lt d x m (l.set i.toNat y) (cX pl y i) b.1
    (r.1,r.2.1,r.2.2+b.2+1)
   else(l.set i.toNat x,cX pl x i,b.2+1)
theorem nP(lt:Int→Int→Bool)(l:List Int)(d i:Int)(h:0≤d*i):∀ (m:Nat) (bU:Int),(m:Int)≤d - 1→d*i+1≤bU→bU<l.length→d*i+1≤(bT lt l d i m bU).1∧(bT lt l d i m bU).1<l.length:=by
 intro m
 induction m with
 |zero=>intro bU _ h1 h2;exact⟨h1,h2⟩
 |succ m ih=>
  intro bU hm h1 h2
  unfold bT
  split
  ·simp only
   split
   ·exact ih _ (by omega) (by omega) (by omega)
   ·exact ih _ (by omega) h1 h2
  ·exact ih _ (by omega) h1 h2
theorem qB{d i b:Int}(hf:cT d)(hi:0≤i)(hb:d*i+1≤b):i<b:=by
 have h1:=hf.1
 have:1*i≤d*i:=anA (by omega) hi
 omega
theorem Ns(lt:Int→Int→Bool)(d x:Int)(hf:cT d):∀ (m m':Nat) (l:List Int) (pl:Int→Option Int) (i:Int),0≤i→l.length≤i.toNat+m→l.length≤i.toNat+m'→
  cV lt d x m l pl i=cV lt d x m' l pl i:=by
 have hz:∀ (m:Nat) (l:List Int) (pl:Int→Option Int) (i:Int),0≤i→l.length≤i.toNat→cV lt d x m l pl i=(l.set i.toNat x,cX pl x i,0):=by
  intro m l pl i hi hl
  cases m with
  |zero=>rfl
  |succ m=>
   have h1:=hf.1
   have:1*i≤d*i:=anA (by omega) hi
   rw[cV,if_pos (by omega)]
 intro m
 induction m with
 |zero=>intro m' l pl i hi h h';rw[hz 0 l pl i hi (by omega),hz m' l pl i hi (by omega)]
 |succ m ih=>
  intro m' l pl i hi h h'
  cases m' with
  |zero=>rw[hz 0 l pl i hi (by omega),hz (m+1) l pl i hi (by omega)]
  |succ m'=>
   rw[cV,cV]
   split
   ·rfl
   ·rename_i hc
    have h1:=hf.1
    have TA:0≤d*i:=anr (by omega) hi
    have hb:=nP lt l d i TA (d - 1).toNat (d*i+1) (by omega) (by omega) (by omega)
    have aR:=qB hf hi hb.1
    simp only
    split
    ·rw[ih m' _ _ _ (by omega) (by rw[al8];omega) (by rw[al8];omega)]
    ·rfl
theorem GO{ov:Value}{I:Hp→Nat→Prop}{T:Nat→Prop}{lt:Int→Int→Bool}{D:Int→Prop}(ho:Nq ov I T lt D){H:Hp}{r:Nat}{S:Nat→Prop}{d:Int}{l:List Int}{pl:Int→Option Int}
  (h:du H r S d l pl)(hd:∀x,S x→¬T x){n:Nat}(hI:I H n)(hf:cT d)(i x:Int)(hi:0≤i∧i<l.length)(hl:l.length≤1000000)(hx:D x:=by trivial)(hD:∀z∈l,D z:=by intros;trivial):
  ah Tryz.prog E6 [ptr r,ov,i64 i,i64 x] H fun v H'=>ay (
   let R:=cV lt d x l.length l pl i
   du H' r S d R.1 R.2.1∧I H' (n+R.2.2)∧ai (fun z=>S z∨T z) H H'):=by
 refine be Ff ⟨rfl,?_⟩
 refine v1 oB.eq_1 ?_
 refine bA.intro (fun m env H1=>∃ (l1:List Int) (Cs:Int→Option Int) (i1:Int) (k:Nat),env=[(0,ptr r),(1,ov),(2,i64 i1),(3,i64 x)]∧(∀z∈l1,D z)∧m=l1.length - i1.toNat∧0≤i1∧i1<l1.length∧l1.length=l.length∧
   du H1 r S d l1 Cs∧I H1 (n+k)∧ai (fun z=>S z∨T z) H H1∧
   (cV lt d x l.length l pl i).1=(cV lt d x l1.length l1 Cs i1).1∧(cV lt d x l.length l pl i).2.1=(cV lt d x l1.length l1 Cs i1).2.1∧
   (cV lt d x l.length l pl i).2.2=k+(cV lt d x l1.length l1 Cs i1).2.2) (l.length - i.toNat) ⟨l,pl,i,0,rfl,hD,rfl,hi.1,hi.2,rfl,h,hI,ai.refl _ _,rfl,rfl,by omega⟩ ?_
 rintro m env H1 ⟨l1,Cs,i1,k,rfl,Vi,rfl,i0,il,ll,h1,hI1,e1,u1,u2,u3⟩
 have hd1:=hf.1
 have TA:0≤d*i1:=anr (by omega) i0
 have stop:∀ (H2:Hp) (k2:Nat),du H2 r S d l1 Cs→I H2 (n+k+k2)→ai (fun z=>S z∨T z) H H2→cV lt d x l1.length l1 Cs i1=(l1.set i1.toNat x,cX Cs x i1,k2)→
   ah Tryz.prog p9 [ptr r,i64 i1,i64 x] H2 fun _ H'=>(du H' r S d (cV lt d x l.length l pl i).1 (cV lt d x l.length l pl i).2.1∧
    I H' (n+(cV lt d x l.length l pl i).2.2)∧ai (fun z=>S z∨T z) H H'):=by
  intro H2 k2 g1 g2 g3 g4
  refine(nm g1 i1 x ⟨i0,il⟩).mono ?_
  rintro _ H3 ⟨_,g5,g6⟩
  rw[u1,u2,u3,g4]
  exact⟨g5,by rw[←aol];exact ho.aN _ _ _ _ g2 g6 (fun z hz hs=>hd z hs hz),g3.trans (g6.mono fun z _ hz=>.inl hz)⟩
 obtain⟨q,hq⟩:∃q,l1.length=q+1:=⟨l1.length - 1,by omega⟩
 refine vs ?_
 refine(Fz ho h1 hd hI1 hf i1 ⟨i0,il⟩ (by omega) Vi).mono ?_
 rintro _ H2 (⟨hc,rfl,rfl⟩| ⟨hc,rfl,h2,Q4,e2⟩)
 ·refine vs ?_
  refine(stop H1 0 h1 hI1 e1 ?_).mono ?_
  ·rw[hq,cV,if_pos hc]
  ·rintro _ H3 ⟨g1,g2,g3⟩
   refine vs ?_
   exact⟨g1,g2,g3⟩
 ·have hb:=nP lt l1 d i1 TA (d - 1).toNat (d*i1+1) (by omega) (by omega) hc
  have aR:=qB hf i0 hb.1
  obtain⟨f1,l',c1,mb1,g1,g2,g3⟩:=h2.read (by omega)
  obtain⟨y,hy⟩:∃y,l1[(bT lt l1 d i1 (d - 1).toNat (d*i1+1)).1.toNat]? =some y:=⟨_,al5 (by omega)⟩
  have MR:=g3 _ _ hy
  have hy3:l1.getD (bT lt l1 d i1 (d - 1).toNat (d*i1+1)).1.toNat 0=y:=by rw[al9,hy];rfl
  have sJ:=e1.trans (e2.mono fun z _ hz=>.inr hz)
  refine v1 (ae g1) ?_
  refine⟨by omega,?_⟩
  refine v3 (ae g2) ama MR ?_
  refine⟨ho.nil,?_⟩
  refine vs ?_
  refine jj.mono (ho.call H2 _ y x (Vi y (amb hy)) hx Q4) ?_
  rintro _ H3 ⟨rfl,hI3,e3⟩
  have h3:=h2.ext e3 hd
  have FA:=sJ.trans (e3.mono fun z _ hz=>.inr hz)
  obtain⟨f4,l4,c4,mb4,k1,k2,k3⟩:=h3.read (by omega)
  have hy4:=k3 _ _ hy
  refine vs ?_
  cases qX:lt y x with
  |false=>
   refine vs ?_
   refine(stop H3 ((bT lt l1 d i1 (d - 1).toNat (d*i1+1)).2+1) h3 (by rw[←aol];exact hI3) FA ?_).mono ?_
   ·rw[hq,cV,if_neg (by omega)]
    simp only[hy3,qX]
    rfl
   ·rintro _ H4 ⟨g1,g2,g3⟩
    refine vs ?_
    exact⟨g1,g2,g3⟩
  |true=>
   refine v1 (ae k1) ?_
   refine⟨by omega,?_⟩
   refine v3 (ae k2) ama hy4 ?_
   refine(nm h3 i1 y ⟨i0,il⟩).mono ?_
   rintro _ H4 ⟨_,g5,g6⟩
   refine vs ?_
   have Wr:cV lt d x l1.length l1 Cs i1=((cV lt d x (l1.set i1.toNat y).length (l1.set i1.toNat y) (cX Cs y i1) (bT lt l1 d i1 (d - 1).toNat (d*i1+1)).1).1,
     (cV lt d x (l1.set i1.toNat y).length (l1.set i1.toNat y) (cX Cs y i1) (bT lt l1 d i1 (d - 1).toNat (d*i1+1)).1).2.1,
     (cV lt d x (l1.set i1.toNat y).length (l1.set i1.toNat y) (cX Cs y i1) (bT lt l1 d i1 (d - 1).toNat (d*i1+1)).1).2.2+(bT lt l1 d i1 (d - 1).toNat (d*i1+1)).2+1):=by
    rw[Ns lt d x hf (l1.set i1.toNat y).length q _ _ _ (by omega) (by omega) (by rw[al8];omega),hq,cV,if_neg (by omega)]
    simp only[hy3,qX,if_true]
   refine⟨l1.length - (bT lt l1 d i1 (d - 1).toNat (d*i1+1)).1.toNat,by omega,l1.set i1.toNat y,cX Cs y i1,(bT lt l1 d i1 (d - 1).toNat (d*i1+1)).1,k+(bT lt l1 d i1 (d - 1).toNat (d*i1+1)).2+1,rfl,fun z hz=>(tj hz).elim (fun e=>e▸Vi y (amb hy)) (Vi z),by rw[al8],by omega,by rw[al8];omega,by rw[al8];exact ll,g5,?_,
    FA.trans (g6.mono fun z _ hz=>.inl hz),by rw[u1,Wr],by rw[u2,Wr],by rw[u3,Wr];simp only;omega⟩
   have:=ho.aN _ _ _ _ hI3 g6 (fun z hz hs=>hd z hs hz)
   rw[show n+(k+(bT lt l1 d i1 (d - 1).toNat (d*i1+1)).2+1)=n+k+(bT lt l1 d i1 (d - 1).toNat (d*i1+1)).2+1 by omega]
   exact this
def pa(d:Int)(j:Nat):Nat:=(((j:Int) - 1) / d).toNat
theorem qC{d:Int}(hf:cT d){i:Int}(h1:1≤i):∃p,bi d i=some p∧p.toNat=pa d i.toNat∧0≤p∧p<i:=by
 have hp:bi d i=some ((i - 1) / d):=by unfold bi;rw[if_pos ⟨hf,h1⟩]
 have hb:=fA hp
 refine⟨_,hp,?_,hb.1,hb.2⟩
 unfold pa
 rw[show((i.toNat:Nat):Int)=i by omega]
theorem cM{d:Int}(hf:cT d){j:Nat}(h:1≤j):pa d j<j:=by
 obtain⟨p,_,h1,h2,h3⟩:=qC hf (i:=(j:Int)) (by omega)
 simp only[Int.toNat_natCast]at h1
 omega
theorem RZ{d:Int}(hf:cT d){i j:Nat}(h:1≤j):pa d j=i↔(d*i+1≤j∧(j:Int)≤d*i+d):=by
 have hd:=hf.1
 unfold pa
 have e1:=Int.mul_ediv_add_emod ((j:Int) - 1) d
 have e2:=Int.emod_nonneg ((j:Int) - 1) (show d≠0 by omega)
 have e3:=Int.emod_lt_of_pos ((j:Int) - 1) (show 0<d by omega)
 have e4:0≤((j:Int) - 1) / d:=Int.ediv_nonneg (by omega) (by omega)
 constructor
 ·intro h
  have:((j:Int) - 1) / d=i:=by omega
  rw[this]at e1
  omega
 ·rintro⟨h1,h2⟩
  have h3:=vg (d:=d) (i:=(i:Int)) (j:=(j:Int) - d*i) hd (by omega) (by omega) (by omega)
  rw[show d*(i:Int)+((j:Int) - d*i) - 1=(j:Int) - 1 by omega]at h3
  omega
theorem dF(l:List Int)(i j:Nat)(v:Int)(hi:i<l.length):(l.set i v).getD j 0=if i=j then v else l.getD j 0:=by
 rw[al9,List.getElem?_set,al9]
 by_cases h:i=j
 ·subst h;simp[hi]
 ·simp[h]
def eZ(lt:Int→Int→Bool)(d:Int)(l:List Int):Prop:=∀j,1≤j→j<l.length→lt (l.getD j 0) (l.getD (pa d j) 0)=false
def dK(lt:Int→Int→Bool)(d:Int)(l:List Int)(i:Nat):Prop:=
 (∀j,1≤j→j<l.length→j≠i→pa d j≠i→lt (l.getD j 0) (l.getD (pa d j) 0)=false)∧
 (∀j,1≤j→j<l.length→pa d j=i→1≤i→lt (l.getD j 0) (l.getD (pa d i) 0)=false)
theorem eZ.but{lt:Int→Int→Bool}(ho:bC lt){d:Int}(hf:cT d){l:List Int}(h:eZ lt d l)(i:Nat):dK lt d l i:=by
 refine⟨fun j h1 h2 _ _=>h j h1 h2,fun j h1 h2 h3 h4=>?_⟩
 have e1:=h j h1 h2
 have e2:=h i h4 (by have:=cM hf h1;omega)
 rw[h3]at e1
 exact ho.nt _ _ _ e1 e2
theorem dK.set{lt:Int→Int→Bool}{d:Int}(hf:cT d){l:List Int}{i:Nat}(hi:i<l.length)(h:dK lt d l i){x:Int}(hB:∀j,1≤j→j<l.length→pa d j=i→lt (l.getD j 0) x=false)
  (hD:1≤i→lt x (l.getD (pa d i) 0)=false):eZ lt d (l.set i x):=by
 intro j h1 h2
 rw[al8]at h2
 rw[dF _ _ _ _ hi,dF _ _ _ _ hi]
 have aR:=cM hf h1
 by_cases e1:i=j
 ·subst e1
  rw[if_pos rfl,if_neg (by omega)]
  exact hD h1
 ·rw[if_neg e1]
  by_cases e2:i=pa d j
  ·rw[if_pos e2];exact hB j h1 h2 e2.symm
  ·rw[if_neg e2];exact h.1 j h1 h2 (Ne.symm e1) (Ne.symm e2)
theorem Kg{lt:Int→Int→Bool}(ho:bC lt){d:Int}(hf:cT d)(x:Int):∀ (m:Nat) (l:List Int) (pl:Int→Option Int) (i:Int),i.toNat≤m→0≤i→i<l.length→dK lt d l i.toNat→
  (∀j,1≤j→j<l.length→pa d j=i.toNat→lt (l.getD j 0) x=false)→eZ lt d (gw lt d x m l pl i).l:=by
 intro m
 induction m with
 |zero=>
  intro l pl i hm h0 hl hA hB
  exact hA.set hf (by omega) hB (fun h=>by omega)
 |succ m ih=>
  intro l pl i hm h0 hl hA hB
  by_cases hi:1≤i
  ·obtain⟨p,hp,Q0,p0,p1⟩:=qC hf hi
   unfold gw
   rw[hp]
   simp only[Q0]
   cases aR:lt x (l.getD (pa d i.toNat) 0)with
   |false=>
    exact hA.set hf (by omega) hB (fun _=>aR)
   |true=>
    simp only[if_true]
    have tK:i.toNat<l.length:=by omega
    have hpi:=cM hf (j:=i.toNat) (by omega)
    refine ih _ _ p (by omega) p0 (by rw[al8];omega) ⟨fun j h1 h2 h3 h4=>?_,fun j h1 h2 h3 h4=>?_⟩ (fun j h1 h2 h3=>?_)
    ·rw[al8]at h2
     rw[Q0]at h3 h4
     rw[dF _ _ _ _ tK,dF _ _ _ _ tK]
     have e1:i.toNat≠j:=fun e=>h4 (by rw[←e])
     rw[if_neg e1]
     by_cases e2:i.toNat=pa d j
     ·rw[if_pos e2]
      exact hA.2 j h1 h2 e2.symm (by omega)
     ·rw[if_neg e2]
      exact hA.1 j h1 h2 (Ne.symm e1) (Ne.symm e2)
    ·rw[al8]at h2
     rw[Q0]at h3 h4 ⊢
     rw[dF _ _ _ _ tK,dF _ _ _ _ tK]
     have Pu:=cM hf h4
     rw[if_neg (show i.toNat≠pa d (pa d i.toNat) by omega)]
     have e3:=hA.1 (pa d i.toNat) h4 (by omega) (by omega) (by omega)
     by_cases e1:i.toNat=j
     ·rw[if_pos e1];exact e3
     ·rw[if_neg e1]
      have e4:=hA.1 j h1 h2 (Ne.symm e1) (by omega)
      rw[h3]at e4
      exact ho.nt _ _ _ e4 e3
    ·rw[al8]at h2
     rw[Q0]at h3
     rw[dF _ _ _ _ tK]
     by_cases e1:i.toNat=j
     ·rw[if_pos e1];exact ho.asym aR
     ·rw[if_neg e1]
      have e4:=hA.1 j h1 h2 (Ne.symm e1) (by omega)
      rw[h3]at e4
      cases hx:lt (l.getD j 0) x with
      |false=>rfl
      |true=>have:=ho.tr _ _ _ hx aR;rw[this]at e4;cases e4
  ·have Fw:i=0:=by omega
   subst Fw
   have hn:bi d 0=none:=by unfold bi;rw[if_neg (by omega)]
   unfold gw
   rw[hn]
   exact hA.set hf (by omega) hB (fun h=>by simp at h)
theorem GP(lt:Int→Int→Bool)(d x:Int):∀ (m:Nat) (l:List Int) (pl:Int→Option Int) (i:Int),(gw lt d x m l pl i).asked≤MN d m i:=by
 intro m
 induction m with
 |zero=>intro l pl i;simp[gw,MN]
 |succ m ih=>
  intro l pl i
  unfold gw MN
  cases hp:bi d i with
  |none=>simp
  |some p=>
   simp only
   split
   ·have:=ih (l.set i.toNat (l.getD p.toNat 0)) (cX pl (l.getD p.toNat 0) i) p
    simp only;omega
   ·simp only;omega
theorem xW(lt:Int→Int→Bool)(d x:Int):∀ (m:Nat) (l:List Int) (pl:Int→Option Int) (i:Int),(gw lt d x m l pl i).l.length=l.length:=by
 intro m
 induction m with
 |zero=>intro l pl i;simp[gw]
 |succ m ih=>
  intro l pl i
  unfold gw
  cases hp:bi d i with
  |none=>simp
  |some p=>
   simp only
   split
   ·simp[ih]
   ·simp
theorem R0{lt:Int→Int→Bool}{d:Int}(hf:cT d)(x:Int)(l:List Int)(pl:Int→Option Int)(i:Int)(h0:0≤i):
  ((gw lt d x i.toNat l pl i).at_=i∧(gw lt d x i.toNat l pl i).l=l.set i.toNat x∧(gw lt d x i.toNat l pl i).pl=cX pl x i∧(gw lt d x i.toNat l pl i).asked≤1∧(1≤i→lt x (l.getD (pa d i.toNat) 0)=false))∨
  ((gw lt d x i.toNat l pl i).at_<i∧1≤i∧lt x (l.getD (pa d i.toNat) 0)=true):=by
 by_cases hi:1≤i
 ·obtain⟨p,hp,Q0,p0,p1⟩:=qC hf hi
  obtain⟨q,hq⟩:∃q,i.toNat=q+1:=⟨i.toNat - 1,by omega⟩
  have low:∀ (m:Nat) (l:List Int) (pl:Int→Option Int) (i:Int),(gw lt d x m l pl i).at_≤i:=by
   intro m
   induction m with
   |zero=>intro l pl i;simp[gw]
   |succ m ih=>
    intro l pl i
    unfold gw
    cases hp:bi d i with
    |none=>simp
    |some p=>
     have:=fA hp
     simp only
     split
     ·have:=ih (l.set i.toNat (l.getD p.toNat 0)) (cX pl (l.getD p.toNat 0) i) p
      simp only;omega
     ·simp only;omega
  rw[hq,gw,hp,←hq]
  simp only[Q0]
  cases aR:lt x (l.getD (pa d i.toNat) 0)with
  |false=>exact .inl ⟨rfl,rfl,rfl,ami _,fun _=>rfl⟩
  |true=>
   have:=low q (l.set i.toNat (l.getD (pa d i.toNat) 0)) (cX pl (l.getD (pa d i.toNat) 0) i) p
   exact .inr ⟨by simp only[if_true];omega,hi,rfl⟩
 ·have Fw:i=0:=by omega
  subst Fw
  exact .inl ⟨rfl,rfl,rfl,by simp[gw],fun h=>by omega⟩
def R4(l:List Int)(pl:Int→Option Int)(i:Int)(x:Int):Prop:=
 ∀z,z≠x→∀k,pl z=some k↔(0≤k∧k≠i∧l[k.toNat]? =some z)
def DW(l:List Int)(pl:Int→Option Int):Prop:=∀z k,pl z=some k↔(0≤k∧l[k.toNat]? =some z)
theorem DW.aep{l:List Int}{pl:Int→Option Int}(h:DW l pl){i x:Int}(hx:l[i.toNat]? =some x)(h0:0≤i):R4 l pl i x:=by
 intro z hz k
 rw[h z k]
 constructor
 ·rintro⟨a,b⟩;exact⟨a,fun e=>by subst e;rw[hx]at b;injection b with b;exact hz b.symm,b⟩
 ·rintro⟨a,_,b⟩;exact⟨a,b⟩
theorem DW.GQ{l:List Int}{pl:Int→Option Int}(h:DW l pl){i j:Nat}{z:Int}(hi:l[i]? =some z)(hj:l[j]? =some z):i=j:=by
 have h1:=(h z i).2 ⟨by omega,by simpa using hi⟩
 have h2:=(h z j).2 ⟨by omega,by simpa using hj⟩
 rw[h1]at h2
 injection h2 with h2
 omega
def Jx(l:List Int)(i:Int)(z:Int):Prop:=∃k:Nat,(k:Int)≠i∧l[k]? =some z
theorem R4.set{l:List Int}{pl:Int→Option Int}{i x:Int}(h:R4 l pl i x)(h0:0≤i)(hl:i<l.length)(hx:¬Jx l i x):DW (l.set i.toNat x) (cX pl x i):=by
 intro z k
 have tK:i.toNat<l.length:=by omega
 by_cases e:z=x
 ·subst e
  simp only[cX,if_true]
  constructor
  ·intro hk;injection hk with hk;subst hk;exact⟨h0,by rw[amd tK]⟩
  ·rintro⟨a,b⟩
   by_cases e2:k=i
   ·rw[e2]
   ·exfalso
    rw[amc (by omega)]at b
    exact hx ⟨k.toNat,by omega,b⟩
 ·simp only[cX,if_neg e]
  rw[h z e k]
  constructor
  ·rintro⟨a,b,c⟩;exact⟨a,by rw[amc (by omega)];exact c⟩
  ·rintro⟨a,b⟩
   have e2:k≠i:=fun e2=>by
    rw[e2,amd tK]at b;injection b with b;exact e b.symm
   exact⟨a,e2,by rw[amc (by omega)]at b;exact b⟩
theorem R4.move{l:List Int}{pl:Int→Option Int}{i p x y:Int}(h:R4 l pl i x)(h0:0≤i)(hl:i<l.length)(p0:0≤p)(hpi:p≠i)(hy:l[p.toNat]? =some y)(hx:¬Jx l i x):
  R4 (l.set i.toNat y) (cX pl y i) p x∧(¬Jx (l.set i.toNat y) p x)∧∀z,Jx (l.set i.toNat y) p z↔Jx l i z:=by
 have tK:i.toNat<l.length:=by omega
 have qX:y≠x:=fun e=>hx ⟨p.toNat,by omega,by rw[hy,e]⟩
 have aaf:∀k:Int,0≤k→k≠i→l[k.toNat]? =some y→k=p:=by
  intro k k0 ki hk
  have h1:=(h y qX k).2 ⟨k0,ki,hk⟩
  have h2:=(h y qX p).2 ⟨p0,hpi,hy⟩
  rw[h1]at h2;injection h2
 have LJ:∀z,Jx (l.set i.toNat y) p z↔Jx l i z:=by
  intro z
  constructor
  ·rintro⟨k,k1,k2⟩
   by_cases e:i.toNat=k
   ·rw[←e,amd tK]at k2
    injection k2 with k2
    subst k2
    exact⟨p.toNat,by omega,hy⟩
   ·rw[amc e]at k2
    exact⟨k,by omega,k2⟩
  ·rintro⟨k,k1,k2⟩
   by_cases e:(k:Int)=p
   ·refine⟨i.toNat,by omega,?_⟩
    rw[amd tK]
    rw[show k=p.toNat by omega,hy]at k2
    exact k2
   ·exact⟨k,e,by rw[amc (by omega)];exact k2⟩
 refine⟨?_,fun hc=>hx ((LJ x).1 hc),LJ⟩
 intro z hz k
 by_cases e:z=y
 ·subst e
  simp only[cX,if_true]
  constructor
  ·intro hk;injection hk with hk;subst hk;exact⟨h0,by omega,by rw[amd tK]⟩
  ·rintro⟨a,b,c⟩
   by_cases e2:k=i
   ·rw[e2]
   ·rw[amc (by omega)]at c
    exact absurd (aaf k a e2 c) b
 ·simp only[cX,if_neg e]
  rw[h z hz k]
  constructor
  ·rintro⟨a,b,c⟩
   refine⟨a,fun e2=>?_,by rw[amc (by omega)];exact c⟩
   rw[e2,hy]at c;injection c with c;exact e c.symm
  ·rintro⟨a,b,c⟩
   have e2:k≠i:=fun e2=>by rw[e2,amd tK]at c;injection c with c;exact e c.symm
   exact⟨a,e2,by rw[amc (by omega)]at c;exact c⟩
theorem mem_set{l:List Int}{i:Nat}(hi:i<l.length)(x z:Int):z∈l.set i x↔z=x∨Jx l i z:=by
 constructor
 ·intro h
  obtain⟨k,hk⟩:=amy h
  by_cases e:i=k
  ·subst e;rw[amd hi]at hk;injection hk with hk;exact .inl hk.symm
  ·rw[amc e]at hk;exact .inr ⟨k,by omega,hk⟩
 ·rintro(rfl| ⟨k,k1,k2⟩)
  ·exact amb (i:=i) (amd hi)
  ·exact amb (i:=k) (by rw[amc (by omega)];exact k2)
theorem DX{lt:Int→Int→Bool}{d:Int}(x:Int):∀ (m:Nat) (l:List Int) (pl:Int→Option Int) (i:Int),i.toNat≤m→0≤i→i<l.length→R4 l pl i x→¬Jx l i x→
  DW (gw lt d x m l pl i).l (gw lt d x m l pl i).pl∧∀z,z∈(gw lt d x m l pl i).l↔z=x∨Jx l i z:=by
 intro m
 induction m with
 |zero=>
  intro l pl i hm h0 hl hP hx
  exact⟨hP.set h0 hl hx,fun z=>by have:=mem_set (l:=l) (i:=i.toNat) (by omega) x z;rw[show((i.toNat:Nat):Int)=i by omega]at this;exact this⟩
 |succ m ih=>
  intro l pl i hm h0 hl hP hx
  have yg:DW (l.set i.toNat x) (cX pl x i)∧∀z,z∈l.set i.toNat x↔z=x∨Jx l i z:=
   ⟨hP.set h0 hl hx,fun z=>by have:=mem_set (l:=l) (i:=i.toNat) (by omega) x z;rw[show((i.toNat:Nat):Int)=i by omega]at this;exact this⟩
  unfold gw
  cases hp:bi d i with
  |none=>exact yg
  |some p=>
   have hb:=fA hp
   simp only
   split
   ·have hy:l[p.toNat]? =some (l.getD p.toNat 0):=by
     rw[al9,al5 (by omega)];rfl
    obtain⟨m1,m2,m3⟩:=hP.move h0 hl hb.1 (by omega) hy hx
    obtain⟨r1,r2⟩:=ih (l.set i.toNat (l.getD p.toNat 0)) (cX pl (l.getD p.toNat 0) i) p (by omega) hb.1 (by rw[al8];omega) m1 m2
    exact⟨r1,fun z=>by rw[r2 z,m3 z]⟩
   ·exact yg
theorem LK{lt:Int→Int→Bool}(ho:bC lt)(l:List Int)(d i:Int)(h:0≤d*i):∀ (m:Nat) (bU:Int),(m:Int)≤d - 1→d*i+1≤bU→bU<l.length→
  (∀c:Int,d*i+1≤c→c≤d*i+(d - m)→c<l.length→lt (l.getD c.toNat 0) (l.getD bU.toNat 0)=false)→
  ∀c:Int,d*i+1≤c→c≤d*i+d→c<l.length→lt (l.getD c.toNat 0) (l.getD (bT lt l d i m bU).1.toNat 0)=false:=by
 intro m
 induction m with
 |zero=>intro bU _ _ _ hc c c1 c2 c3;exact hc c c1 (by omega) c3
 |succ m ih=>
  intro bU hm h1 h2 hc c c1 c2 c3
  unfold bT
  split
  ·rename_i aR
   simp only
   split
   ·rename_i hl
    refine ih _ (by omega) (by omega) (by omega) (fun e e1 e2 e3=>?_) c c1 c2 c3
    by_cases he:e=d*i+(d - m)
    ·rw[he];exact ho.xS _
    ·have:=hc e e1 (by omega) e3
     cases hx:lt (l.getD e.toNat 0) (l.getD (d*i+(d - (m:Int))).toNat 0)with
     |false=>rfl
     |true=>
      have:=ho.tr _ _ _ hx hl
      simp_all
   ·rename_i hl
    refine ih _ (by omega) h1 h2 (fun e e1 e2 e3=>?_) c c1 c2 c3
    by_cases he:e=d*i+(d - m)
    ·rw[he];simpa using hl
    ·exact hc e e1 (by omega) e3
  ·rename_i aR
   refine ih _ (by omega) h1 h2 (fun e e1 e2 e3=>?_) c c1 c2 c3
   by_cases he:e=d*i+(d - m)
   ·omega
   ·exact hc e e1 (by omega) e3
theorem PW{lt:Int→Int→Bool}(ho:bC lt){d:Int}(hf:cT d)(x:Int):∀ (m:Nat) (l:List Int) (pl:Int→Option Int) (i:Int),l.length≤i.toNat+m→0≤i→i<l.length→dK lt d l i.toNat→
  (1≤i→lt x (l.getD (pa d i.toNat) 0)=false)→eZ lt d (cV lt d x m l pl i).1:=by
 intro m
 induction m with
 |zero=>intro l pl i hm h0 hl;omega
 |succ m ih=>
  intro l pl i hm h0 hl hA hD
  have Ub:=hf.1
  have TA:0≤d*i:=anr (by omega) h0
  have hit:((i.toNat:Nat):Int)=i:=by omega
  have PX:∀j:Nat,1≤j→(pa d j=i.toNat↔(d*i+1≤j∧(j:Int)≤d*i+d)):=fun j hj=>by have:=RZ hf (i:=i.toNat) hj;rw[hit]at this;exact this
  unfold cV
  split
  ·rename_i hc
   exact hA.set hf (by omega) (fun j h1 h2 h3=>by have:=(PX j h1).1 h3;omega) (fun h=>hD (by omega))
  ·rename_i hc
   have hb:=nP lt l d i TA (d - 1).toNat (d*i+1) (by omega) (by omega) (by omega)
   have GN:(bT lt l d i (d - 1).toNat (d*i+1)).1≤d*i+d:=by
    have key:∀ (m:Nat) (bU:Int),(m:Int)≤d - 1→bU≤d*i+d→(bT lt l d i m bU).1≤d*i+d:=by
     intro m
     induction m with
     |zero=>intro bU _ h;exact h
     |succ m ih=>
      intro bU hm h
      unfold bT
      split
      ·simp only;split
       ·exact ih _ (by omega) (by omega)
       ·exact ih _ (by omega) h
      ·exact ih _ (by omega) h
    exact key _ _ (by omega) (by omega)
   have hbl:=LK ho l d i TA (d - 1).toNat (d*i+1) (by omega) (by omega) (by omega) (fun c c1 c2 c3=>by rw[show c=d*i+1 by omega];exact ho.xS _)
   have aR:=qB hf h0 hb.1
   generalize bT lt l d i (d - 1).toNat (d*i+1)=B at*
   obtain⟨b,q⟩:=B
   simp only at hb GN hbl aR
   have hbp:pa d b.toNat=i.toNat:=(PX b.toNat (by omega)).2 ⟨by omega,by omega⟩
   have tK:i.toNat<l.length:=by omega
   have uE:∀j,1≤j→j<l.length→pa d j=i.toNat→lt (l.getD j 0) (l.getD b.toNat 0)=false:=fun j h1 h2 h3=>by
    have h4:=(PX j h1).1 h3
    have:=hbl j h4.1 h4.2 (by omega)
    simpa using this
   simp only
   by_cases hy:lt (l.getD b.toNat 0) x=true
   ·rw[if_pos hy]
    refine ih _ _ b (by rw[al8];omega) (by omega) (by rw[al8];omega) ⟨fun j h1 h2 h3 h4=>?_,fun j h1 h2 h3 h4=>?_⟩ (fun _=>?_)
    ·rw[al8]at h2
     rw[dF _ _ _ _ tK,dF _ _ _ _ tK]
     have Ws:=cM hf h1
     by_cases e1:i.toNat=j
     ·subst e1
      rw[if_pos rfl,if_neg (by omega)]
      have:=hA.2 b.toNat (by omega) (by omega) hbp h1
      exact this
     ·rw[if_neg e1]
      by_cases e2:i.toNat=pa d j
      ·rw[if_pos e2];exact uE j h1 h2 e2.symm
      ·rw[if_neg e2];exact hA.1 j h1 h2 (Ne.symm e1) (Ne.symm e2)
    ·rw[al8]at h2
     rw[hbp,dF _ _ _ _ tK,dF _ _ _ _ tK,if_pos rfl]
     have Ws:=cM hf h1
     rw[if_neg (by omega)]
     have:=hA.1 j h1 h2 (by omega) (by omega)
     rw[h3]at this
     exact this
    ·rw[hbp,dF _ _ _ _ tK,if_pos rfl]
     exact ho.asym hy
   ·rw[if_neg hy]
    exact hA.set hf tK (fun j h1 h2 h3=>ho.nt _ _ _ (uE j h1 h2 h3) (by simpa using hy)) (fun h=>hD (by omega))
theorem LL(lt:Int→Int→Bool)(d x:Int):∀ (m:Nat) (l:List Int) (pl:Int→Option Int) (i:Int),(cV lt d x m l pl i).1.length=l.length:=by
 intro m
 induction m with
 |zero=>intro l pl i;simp[cV]
 |succ m ih=>
  intro l pl i
  unfold cV
  split
  ·simp
  ·simp only
   split
   ·simp[ih]
   ·simp
theorem LM{lt:Int→Int→Bool}{d:Int}(hf:cT d)(x:Int):∀ (m:Nat) (l:List Int) (pl:Int→Option Int) (i:Int),0≤i→i<l.length→R4 l pl i x→¬Jx l i x→
  DW (cV lt d x m l pl i).1 (cV lt d x m l pl i).2.1∧∀z,z∈(cV lt d x m l pl i).1↔z=x∨Jx l i z:=by
 intro m
 induction m with
 |zero=>
  intro l pl i h0 hl hP hx
  exact⟨hP.set h0 hl hx,fun z=>by have:=mem_set (l:=l) (i:=i.toNat) (by omega) x z;rw[show((i.toNat:Nat):Int)=i by omega]at this;exact this⟩
 |succ m ih=>
  intro l pl i h0 hl hP hx
  have yg:DW (l.set i.toNat x) (cX pl x i)∧∀z,z∈l.set i.toNat x↔z=x∨Jx l i z:=
   ⟨hP.set h0 hl hx,fun z=>by have:=mem_set (l:=l) (i:=i.toNat) (by omega) x z;rw[show((i.toNat:Nat):Int)=i by omega]at this;exact this⟩
  have Ub:=hf.1
  have TA:0≤d*i:=anr (by omega) h0
  unfold cV
  split
  ·exact yg
  ·have hb:=nP lt l d i TA (d - 1).toNat (d*i+1) (by omega) (by omega) (by omega)
   have aR:=qB hf h0 hb.1
   simp only
   split
   ·have hy:l[(bT lt l d i (d - 1).toNat (d*i+1)).1.toNat]? =some (l.getD (bT lt l d i (d - 1).toNat (d*i+1)).1.toNat 0):=by
     rw[al9,al5 (by omega)];rfl
    obtain⟨m1,m2,m3⟩:=hP.move h0 hl (by omega) (by omega) hy hx
    obtain⟨r1,r2⟩:=ih _ _ _ (by omega) (by rw[al8];omega) m1 m2
    exact⟨r1,fun z=>by rw[r2 z,m3 z]⟩
   ·exact yg
def nQ(d i:Int):Nat:=MN d i.toNat i
theorem tm{d i p:Int}(h:bi d i=some p):nQ d i=nQ d p+1:=RJ h _ (ami _)
theorem nR{d:Int}(hf:cT d):∀ (m:Nat) (i j:Int),j.toNat≤m→i≤j→nQ d i≤nQ d j:=by
 intro m
 induction m with
 |zero=>
  intro i j hm KZ
  have:nQ d i=0:=by unfold nQ;rw[show i.toNat=0 by omega];rfl
  omega
 |succ m ih=>
  intro i j hm KZ
  by_cases hi:1≤i
  ·have Ub:=hf.1
   have hp:bi d i=some ((i - 1) / d):=by unfold bi;rw[if_pos ⟨hf,hi⟩]
   have hq:bi d j=some ((j - 1) / d):=by unfold bi;rw[if_pos ⟨hf,by omega⟩]
   have hb:=fA hq
   rw[tm hp,tm hq]
   have:=ih ((i - 1) / d) ((j - 1) / d) (by omega) (Int.ediv_le_ediv (by omega) (by omega))
   omega
  ·have:nQ d i=0:=by
    unfold nQ
    have hn:bi d i=none:=by unfold bi;rw[if_neg (by omega)]
    cases i.toNat<;>simp[MN,hn]
   omega
theorem LN(lt:Int→Int→Bool)(l:List Int)(d i:Int):∀ (m:Nat) (bU:Int),(bT lt l d i m bU).2≤m:=by
 intro m
 induction m with
 |zero=>intro bU;simp[bT]
 |succ m ih=>
  intro bU
  unfold bT
  split
  ·simp only
   have:=ih (if lt (l.getD (d*i+(d - m)).toNat 0) (l.getD bU.toNat 0)=true then d*i+(d - m)else bU)
   omega
  ·have:=ih bU;omega
theorem Nt{lt:Int→Int→Bool}{d:Int}(hf:cT d)(x:Int):∀ (m:Nat) (l:List Int) (pl:Int→Option Int) (i:Int),l.length≤i.toNat+m→0≤i→i<l.length→
  ((cV lt d x m l pl i).2.2:Int)+d*(nQ d i:Nat)≤d*(nQ d ((l.length:Int) - 1):Nat):=by
 intro m
 induction m with
 |zero=>intro l pl i hm h0 hl;omega
 |succ m ih=>
  intro l pl i hm h0 hl
  have Ub:=hf.1
  have TA:0≤d*i:=anr (by omega) h0
  have GR:∀k,k≤(l.length:Int) - 1→d*(nQ d k:Nat)≤d*(nQ d ((l.length:Int) - 1):Nat):=fun k hk=>
   anD (by have:=nR hf ((l.length:Int) - 1).toNat k ((l.length:Int) - 1) (ami _) hk;omega) (by omega)
  unfold cV
  split
  ·have:=GR i (by omega);simp only;omega
  ·have hb:=nP lt l d i TA (d - 1).toNat (d*i+1) (by omega) (by omega) (by omega)
   have aR:=qB hf h0 hb.1
   have ait:=LN lt l d i (d - 1).toNat (d*i+1)
   have GN:(bT lt l d i (d - 1).toNat (d*i+1)).1≤d*i+d:=by
    have key:∀ (m:Nat) (bU:Int),(m:Int)≤d - 1→bU≤d*i+d→(bT lt l d i m bU).1≤d*i+d:=by
     intro m
     induction m with
     |zero=>intro bU _ h;exact h
     |succ m ih=>
      intro bU hm h
      unfold bT
      split
      ·simp only;split
       ·exact ih _ (by omega) (by omega)
       ·exact ih _ (by omega) h
      ·exact ih _ (by omega) h
    exact key _ _ (by omega) (by omega)
   generalize bT lt l d i (d - 1).toNat (d*i+1)=B at*
   have PU:bi d B.1=some i:=by
    unfold bi
    rw[if_pos ⟨hf,by omega⟩]
    have:=vg (d:=d) (i:=i) (j:=B.1 - d*i) Ub h0 (by omega) (by omega)
    rw[show d*i+(B.1 - d*i) - 1=B.1 - 1 by omega]at this
    rw[this]
   have E0:=tm PU
   have hmul:d*((nQ d i+1:Nat):Int)=d*(nQ d i:Nat)+d:=by rw[Int.natCast_add,Int.mul_add];simp
   simp only
   split
   ·have:=ih (l.set i.toNat (l.getD B.1.toNat 0)) (cX pl (l.getD B.1.toNat 0) i) B.1 (by rw[al8];omega) (by omega) (by rw[al8];omega)
    rw[al8,E0,hmul]at this
    simp only
    omega
   ·have:=GR B.1 (by omega)
    rw[E0,hmul]at this
    simp only
    omega
def cS(lt:Int→Int→Bool)(d x:Int)(l:List Int)(pl:Int→Option Int)(i:Int):List Int×(Int→Option Int)×Nat:=
 if l.getD (l.length - 1) 0=x then(l.dropLast,uC pl x,0)
 else
  let U:=gw lt d (l.getD (l.length - 1) 0) i.toNat l.dropLast (uC pl x) i
  if U.at_=i then
   let D:=cV lt d (l.getD (l.length - 1) 0) U.l.length U.l U.pl i
   (D.1,D.2.1,U.asked+D.2.2)
  else(U.l,U.pl,U.asked)
theorem zH(l:List Int)(j:Nat)(h:j<l.length - 1):l.dropLast.getD j 0=l.getD j 0:=by
 rw[al9,al9,List.getElem?_dropLast,if_pos h]
theorem LO{lt:Int→Int→Bool}(ho:bC lt){d:Int}(hf:cT d){x i:Int}{l:List Int}{pl:Int→Option Int}(hh:eZ lt d l)(hp:DW l pl)(hi:pl x=some i):
  eZ lt d (cS lt d x l pl i).1∧DW (cS lt d x l pl i).1 (cS lt d x l pl i).2.1∧(cS lt d x l pl i).1.length=l.length - 1∧
   (∀z,z∈(cS lt d x l pl i).1↔z∈l∧z≠x)∧((cS lt d x l pl i).2.2:Int)≤d*(nQ d ((l.length:Int) - 1):Nat)+1:=by
 obtain⟨h0,hx⟩:=(hp x i).1 hi
 have tK:i.toNat<l.length:=(al7.1 hx).1
 have Ub:=hf.1
 have nN:l[l.length - 1]? =some (l.getD (l.length - 1) 0):=by
  rw[al9,al5 (by omega)];rfl
 have xj:∀k,k<l.length - 1→l.dropLast[k]? =l[k]? :=fun k hk=>by rw[List.getElem?_dropLast,if_pos hk]
 have kD:eZ lt d l.dropLast:=by
  intro j h1 h2
  rw[amC]at h2
  have:=cM hf h1
  rw[zH _ _ h2,zH _ _ (by omega)]
  exact hh j h1 (by omega)
 unfold cS
 split
 ·rename_i he
  have oq:i.toNat=l.length - 1:=hp.GQ hx (by rw[nN,he])
  refine⟨kD,fun z k=>?_,by simp,fun z=>?_,?_⟩
  ·show uC pl x z=some k↔(0≤k∧l.dropLast[k.toNat]? =some z)
   unfold uC
   by_cases hz:z=x
   ·subst hz
    simp only[if_true]
    constructor
    ·intro h;cases h
    ·rintro⟨a,b⟩
     have hk:k.toNat<l.length - 1:=by have:=(al7.1 b).1;rwa[amC]at this
     rw[xj _ hk]at b
     have:=hp.GQ b hx
     omega
   ·rw[if_neg hz,hp z k]
    constructor
    ·rintro⟨a,b⟩
     have hk:k.toNat<l.length:=(al7.1 b).1
     have OD:k.toNat≠l.length - 1:=fun e=>by rw[e,nN,he]at b;injection b with b;exact hz b.symm
     exact⟨a,by rw[xj _ (by omega)];exact b⟩
    ·rintro⟨a,b⟩
     have hk:k.toNat<l.length - 1:=by have:=(al7.1 b).1;rwa[amC]at this
     exact⟨a,by rw[xj _ hk]at b;exact b⟩
  ·constructor
   ·intro h
    obtain⟨k,hk⟩:=amy h
    have YB:k<l.length - 1:=by have:=(al7.1 hk).1;rwa[amC]at this
    rw[xj _ YB]at hk
    refine⟨amb hk,fun e=>?_⟩
    subst e
    have:=hp.GQ hk hx
    omega
   ·rintro⟨h,hz⟩
    obtain⟨k,hk⟩:=amy h
    have YB:k<l.length:=(al7.1 hk).1
    have OD:k≠l.length - 1:=fun e=>by rw[e,nN,he]at hk;injection hk with hk;exact hz hk.symm
    exact amb (i:=k) (by rw[xj _ (by omega)];exact hk)
  ·have:0≤d*(nQ d ((l.length:Int) - 1):Nat):=anr (by omega) (by omega)
   simp only
   omega
 ·rename_i aT
  generalize hy:l.getD (l.length - 1) 0=y at*
  have oq:i.toNat<l.length - 1:=by
   rcases anh i.toNat (l.length - 1)with h|h
   ·exact h
   ·exfalso
    rw[show i.toNat=l.length - 1 by omega,nN]at hx
    injection hx with hx
    exact aT hx
  have hP:R4 l.dropLast (uC pl x) i y:=by
   intro z hz k
   unfold uC
   by_cases e:z=x
   ·subst e
    simp only[if_true]
    constructor
    ·intro h;cases h
    ·rintro⟨a,b,c⟩
     have hk:k.toNat<l.length - 1:=by have:=(al7.1 c).1;rwa[amC]at this
     rw[xj _ hk]at c
     have:=hp.GQ c hx
     omega
   ·rw[if_neg e,hp z k]
    constructor
    ·rintro⟨a,b⟩
     have hk:k.toNat<l.length:=(al7.1 b).1
     have OD:k.toNat≠l.length - 1:=fun e2=>by rw[e2,nN]at b;injection b with b;exact hz b.symm
     exact⟨a,fun e2=>by rw[e2,hx]at b;injection b with b;exact e b.symm,by rw[xj _ (by omega)];exact b⟩
    ·rintro⟨a,_,b⟩
     have hk:k.toNat<l.length - 1:=by have:=(al7.1 b).1;rwa[amC]at this
     exact⟨a,by rw[xj _ hk]at b;exact b⟩
  have hO:¬Jx l.dropLast i y:=by
   rintro⟨k,k1,k2⟩
   have hk:k<l.length - 1:=by have:=(al7.1 k2).1;rwa[amC]at this
   rw[xj _ hk]at k2
   have:=hp.GQ k2 nN
   omega
  have cF:∀z,(z=y∨Jx l.dropLast i z)↔(z∈l∧z≠x):=by
   intro z
   constructor
   ·rintro(rfl| ⟨k,k1,k2⟩)
    ·exact⟨amb nN,aT⟩
    ·have hk:k<l.length - 1:=by have:=(al7.1 k2).1;rwa[amC]at this
     rw[xj _ hk]at k2
     refine⟨amb k2,fun e=>?_⟩
     subst e
     have:=hp.GQ k2 hx
     omega
   ·rintro⟨h,hz⟩
    obtain⟨k,hk⟩:=amy h
    have YB:k<l.length:=(al7.1 hk).1
    by_cases e:k=l.length - 1
    ·rw[e,nN]at hk;injection hk with hk;exact .inl hk.symm
    ·exact .inr ⟨k,fun e2=>hz (by rw[show k=i.toNat by omega,hx]at hk;injection hk with hk;exact hk.symm),by rw[xj _ (by omega)];exact hk⟩
  have bm:(i:Int)<l.dropLast.length:=by rw[amC];omega
  have Nu:=kD.but ho hf i.toNat
  have E0:=DX (lt:=lt) (d:=d) y i.toNat l.dropLast (uC pl x) i (ami _) h0 bm hP hO
  have GR:d*(nQ d ((l.length:Int) - 1 - 1):Nat)≤d*(nQ d ((l.length:Int) - 1):Nat):=
   anD (by have:=nR hf ((l.length:Int) - 1).toNat ((l.length:Int) - 1 - 1) ((l.length:Int) - 1) (ami _) (by omega);omega) (by omega)
  rcases R0 hf (lt:=lt) y l.dropLast (uC pl x) i h0 with ⟨s1,s2,s3,s4,s5⟩| ⟨s1,s2,s3⟩
  ·simp only
   rw[if_pos s1,s2,s3,al8]
   simp only
   have aer:i.toNat<l.dropLast.length:=by rw[amC];omega
   have LP:∀j,j≠i.toNat→(l.dropLast.set i.toNat y).getD j 0=l.dropLast.getD j 0:=fun j hj=>by rw[dF _ _ _ _ aer,if_neg (Ne.symm hj)]
   have hP2:R4 (l.dropLast.set i.toNat y) (cX (uC pl x) y i) i y:=by
    intro z hz k
    unfold cX
    rw[if_neg hz,hP z hz k]
    constructor
    ·rintro⟨a,b,c⟩;exact⟨a,b,by rw[amc (by omega)];exact c⟩
    ·rintro⟨a,b,c⟩;exact⟨a,b,by rw[amc (by omega)]at c;exact c⟩
   have LJ:∀z,Jx (l.dropLast.set i.toNat y) i z↔Jx l.dropLast i z:=by
    intro z
    constructor
    ·rintro⟨k,k1,k2⟩;exact⟨k,k1,by rw[amc (by omega)]at k2;exact k2⟩
    ·rintro⟨k,k1,k2⟩;exact⟨k,k1,by rw[amc (by omega)];exact k2⟩
   have wh:(i:Int)< (l.dropLast.set i.toNat y).length:=by rw[al8];exact bm
   obtain⟨d1,d2⟩:=LM (lt:=lt) hf y l.dropLast.length (l.dropLast.set i.toNat y) (cX (uC pl x) y i) i h0 wh hP2 (fun hc=>hO ((LJ y).1 hc))
   refine⟨?_,d1,by rw[LL,al8,amC],fun z=>by rw[d2 z,LJ z];exact cF z,?_⟩
   ·refine PW ho hf y _ _ _ i (by rw[al8];omega) h0 wh ⟨fun j h1 h2 h3 h4=>?_,fun j h1 h2 h3 h4=>?_⟩ (fun h=>?_)
    ·rw[LP j h3,LP _ h4];exact Nu.1 j h1 (by simpa using h2) h3 h4
    ·have:=cM hf h1
     have:=cM hf h4
     rw[LP j (by omega),LP _ (by omega)]
     exact Nu.2 j h1 (by simpa using h2) h3 h4
    ·have:=cM hf (j:=i.toNat) (by omega)
     rw[LP _ (by omega)]
     exact s5 h
   ·have:=Nt (lt:=lt) hf y l.dropLast.length (l.dropLast.set i.toNat y) (cX (uC pl x) y i) i (by rw[al8];omega) h0 wh
    have hdl:l.dropLast.length=l.length - 1:=amC
    rw[al8,show((l.dropLast.length:Nat):Int) - 1=(l.length:Int) - 1 - 1 by omega]at this
    have h5:0≤d*(nQ d i:Nat):=anr (by omega) (by omega)
    omega
  ·simp only
   rw[if_neg (by omega)]
   have MS:=cM hf (j:=i.toNat) (by omega)
   refine⟨Kg ho hf y _ _ _ i (ami _) h0 bm Nu (fun j h1 h2 h3=>?_),E0.1,by rw[xW,amC],fun z=>by rw[E0.2 z];exact cF z,?_⟩
   ·have e1:=Nu.2 j h1 h2 h3 (by omega)
    cases hxx:lt (l.dropLast.getD j 0) y with
    |false=>rfl
    |true=>have:=ho.tr _ _ _ hxx s3;rw[this]at e1;cases e1
   ·have e1:=GP lt d y i.toNat l.dropLast (uC pl x) i
    have e2:=nR hf ((l.length:Int) - 1).toNat i ((l.length:Int) - 1) (ami _) (by omega)
    unfold nQ at e2 ⊢
    have e3:(1:Int)*(MN d ((l.length:Int) - 1).toNat ((l.length:Int) - 1):Nat)≤d*(MN d ((l.length:Int) - 1).toNat ((l.length:Int) - 1):Nat):=
     anA (by omega) (by omega)
    dsimp only
    omega
theorem GS{lt:Int→Int→Bool}(ho:bC lt){d:Int}(hf:cT d){l:List Int}(hh:eZ lt d l):∀ (m j:Nat),j≤m→j<l.length→lt (l.getD j 0) (l.getD 0 0)=false:=by
 intro m
 induction m with
 |zero=>intro j hj _;rw[show j=0 by omega];exact ho.xS _
 |succ m ih=>
  intro j hj hl
  by_cases h:1≤j
  ·have:=cM hf h
   exact ho.nt _ _ _ (hh j h hl) (ih (pa d j) (by omega) (by omega))
  ·rw[show j=0 by omega];exact ho.xS _
def Nw.key(w:Nw)(a:Int):Int:=(w.cs.getD a.toNat (0,0,0)).2.1
def Nw.seq(w:Nw)(a:Int):Int:=(w.cs.getD a.toNat (0,0,0)).2.2
def aV(w:Nw)(a b:Int):Bool:=decide (w.key a<w.key b∨w.key a=w.key b∧(w.seq a<w.seq b∨w.seq a=w.seq b∧a<b))
theorem aq(w:Nw):bC (aV w):=by
 refine⟨fun a=>?_,fun a b c h1 h2=>?_,fun a b c h1 h2=>?_,fun a b h=>?_⟩
 ·exact amm (by omega)
 ·simp only[aV,amQ]at*;omega
 ·simp only[aV,decide_eq_false_iff_not]at*;omega
 ·simp only[aV,amQ];omega
theorem DY{w:Nw}{a b:Int}(ha:cZ w.cs a)(hb:cZ w.cs b):w.ahead a b=aV w a b:=by
 obtain⟨a0,x,hx,_⟩:=id ha
 obtain⟨b0,y,hy,_⟩:=id hb
 have k1:w.key a=x.2.1:=by unfold Nw.key;rw[al9,hx];rfl
 have k2:w.key b=y.2.1:=by unfold Nw.key;rw[al9,hy];rfl
 have k3:w.seq a=x.2.2:=by unfold Nw.seq;rw[al9,hx];rfl
 have k4:w.seq b=y.2.2:=by unfold Nw.seq;rw[al9,hy];rfl
 unfold Nw.ahead aV
 rw[amj ha,amj hb,hx,hy,k1,k2,k3,k4]
 simp only[aom]
 refine decide_eq_decide.2 ?_
 rw[Np,gu]
 omega
theorem jv(w:Nw)(x:Int)(c:Ce){a b:Int}(ha:a.toNat≠x.toNat)(hb:b.toNat≠x.toNat):aV (w.put x c) a b=aV w a b:=by
 have key:∀z:Int,z.toNat≠x.toNat→(w.put x c).key z=w.key z∧(w.put x c).seq z=w.seq z:=fun z hz=>by
  unfold Nw.key Nw.seq Nw.put
  simp only[al9]
  rw[amc (Ne.symm hz)]
  exact⟨rfl,rfl⟩
 unfold aV
 rw[(key a ha).1,(key a ha).2,(key b hb).1,(key b hb).2]
def Nw.first(w:Nw)(g x:Int):Prop:=0<g∧0≤x∧(∃e,w.cs[x.toNat]? =some (g,e))∧∀y,0≤y→(∃e,w.cs[y.toNat]? =some (g,e))→y≠x→aV w x y=true
theorem Nw.IP{w:Nw}{g:Int}:w.len g=0↔(g≤0∨∀ (i:Nat) (c:Ce),w.cs[i]? =some c→c.1≠g):=by
 unfold Nw.len
 by_cases hg:0<g
 ·rw[if_pos hg]
  constructor
  ·intro h
   refine .inr fun i c hc e=>?_
   have h1:w.cs.countP (fun c=>decide (c.1=g))=0:=by omega
   exact(anF.1 h1) c (amb hc) (amj e)
  ·rintro(h|h)
   ·omega
   ·rw[anF.2 (fun c hc=>by
     obtain⟨i,hi⟩:=amy hc
     simpa using h i c hi)]
    rfl
 ·rw[if_neg hg]
  exact⟨fun _=>.inl (by omega),fun _=>rfl⟩
theorem Nw.first.MQ{w:Nw}{g x:Int}(h:w.first g x):cZ w.cs x:=by
 obtain⟨e,he⟩:=h.2.2.1
 exact⟨h.2.1,_,he,h.1⟩
def aH(w:Nw)(x:Int):Int:=if 0≤x then(w.cs.getD x.toNat (0,0,0)).1 else 0
theorem ng{w:Nw}{x:Int}{y:Ce}(h0:0≤x)(h:w.cs[x.toNat]? =some y):aH w x=y.1:=by
 unfold aH
 rw[if_pos h0,al9,h]
 rfl
theorem aF{w:Nw}{x:Int}(h:0<aH w x):0≤x∧x<w.cs.length∧∃e,w.cs[x.toNat]? =some (aH w x,e):=by
 unfold aH at h ⊢
 split at h
 ·rename_i h0
  rw[if_pos h0]
  rw[al9]at h ⊢
  cases hc:w.cs[x.toNat]? with
  |none=>rw[hc]at h;simp at h
  |some y=>
   have:=(al7.1 hc).1
   exact⟨h0,by omega,y.2,rfl⟩
 ·omega
theorem bK{w:Nw}{x:Int}:0<aH w x↔cZ w.cs x:=by
 constructor
 ·intro h
  obtain⟨h0,_,e,he⟩:=aF h
  exact⟨h0,_,he,h⟩
 ·rintro⟨h0,y,hy,hp⟩
  rw[ng h0 hy]
  exact hp
theorem bN{w:Nw}{g x:Int}:w.first g x↔(0<g∧aH w x=g∧∀y,aH w y=g→y≠x→aV w x y=true):=by
 constructor
 ·rintro⟨h1,h2,⟨e,he⟩,h4⟩
  refine⟨h1,ng h2 he,fun y hy aT=>?_⟩
  obtain⟨y0,_,e',tL⟩:=aF (w:=w) (x:=y) (by omega)
  rw[hy]at tL
  exact h4 y y0 ⟨e',tL⟩ aT
 ·rintro⟨h1,h2,h3⟩
  obtain⟨x0,_,e,he⟩:=aF (w:=w) (x:=x) (by omega)
  rw[h2]at he
  exact⟨h1,x0,⟨e,he⟩,fun y y0 ⟨e',tL⟩ aT=>h3 y (ng y0 tL) aT⟩
theorem xk{w:Nw}{g:Int}(hg:0<g):w.len g=0↔∀x,aH w x≠g:=by
 rw[Nw.IP]
 constructor
 ·rintro(h|h) x hx
  ·omega
  ·obtain⟨_,_,e,he⟩:=aF (w:=w) (x:=x) (by omega)
   exact h _ _ he hx
 ·intro h
  refine .inr fun i c hc e=>h (i:Int) ?_
  rw[ng (y:=c) (by omega) (by simpa using hc)]
  exact e
theorem eC{w:Nw}{i:Int}(hi:0≤i∧i<w.cs.length)(c:Ce)(x:Int):aH (w.put i c) x=if x=i then c.1 else aH w x:=by
 unfold aH Nw.put
 simp only
 by_cases hx:x=i
 ·subst hx
  rw[if_pos hi.1,if_pos rfl,al9,amd (by omega)]
  rfl
 ·rw[if_neg hx]
  split
  ·rw[al9,amc (by omega),al9]
  ·rfl
theorem R5{lt:Int→Int→Bool}(hs:bC lt){P:Int→Prop}{n:Nat}(hP:∀x,P x→0≤x∧x<n){x:Int}(hx:P x):∃m,P m∧∀y,P y→y≠m→lt m y=true:=by
 have key:∀k:Nat,∀x,P x→((List.range n).countP fun(i:Nat)=>lt i x)≤k→∃m,P m∧∀y,P y→y≠m→lt m y=true:=by
  intro k
  induction k with
  |zero=>
   intro x hx hk
   refine⟨x,hx,fun y hy aT=>?_⟩
   rcases hs.OI x y (Ne.symm aT)with h|h
   ·exact h
   ·have zV:=hP y hy
    have:=(anF.1 (Nat.le_zero.1 hk)) y.toNat (am2.2 (by omega))
    rw[show((y.toNat:Nat):Int)=y by omega]at this
    exact absurd h this
  |succ k ih=>
   intro x hx hk
   by_cases hz:∃y,P y∧lt y x=true
   ·obtain⟨y,hy,hl⟩:=hz
    refine ih y hy ?_
    have zV:=hP y hy
    have h9:(List.range n).countP (fun(i:Nat)=>lt i y)< (List.range n).countP fun(i:Nat)=>lt i x:=by
     refine tO (fun i hi=>hs.tr _ _ _ hi hl) (x:=y.toNat) (am2.2 (by omega)) ?_ ?_
     ·rw[show((y.toNat:Nat):Int)=y by omega];exact hs.xS _
     ·rw[show((y.toNat:Nat):Int)=y by omega];exact hl
    omega
   ·refine⟨x,hx,fun y hy aT=>?_⟩
    rcases hs.OI x y (Ne.symm aT)with h|h
    ·exact h
    ·exact absurd ⟨y,hy,h⟩ hz
 exact key _ x hx (ami _)
theorem xl{w:Nw}{g:Int}(hg:0<g)(h:w.len g≠0):∃x,w.first g x:=by
 have h1:¬ ∀x,aH w x≠g:=fun hn=>h ((xk hg).2 hn)
 obtain⟨x,hx⟩:=Classical.not_forall.1 h1
 have hx:=Classical.not_not.1 hx
 obtain⟨m,hm,hl⟩:=R5 (aq w) (P:=fun x=>aH w x=g) (n:=w.cs.length) (fun x hx=>by obtain⟨a,b,_⟩:=aF (w:=w) (x:=x) (by omega);omega) hx
 exact⟨m,bN.2 ⟨hg,hm,hl⟩⟩
theorem dG{w:Nw}{i:Int}(hi:0≤i∧i<w.cs.length)(c:Ce){a b:Int}(ha:0<aH w a)(hb:0<aH w b)(YC:a≠i)(hbi:b≠i):aV (w.put i c) a b=aV w a b:=by
 obtain⟨a0,_⟩:=aF ha
 obtain⟨b0,_⟩:=aF hb
 exact jv w i c (by omega) (by omega)
theorem Ct{w:Nw}{i k s:Int}(bS:cZ w.cs i){y:Ce}(hy:w.cs[i.toNat]? =some y)(hl:¬gu y.2.1 y.2.2 k s){b:Int}(hb:0<aH w b)(hbi:b≠i)(h:aV w i b=true):aV (w.put i (y.1,k,s)) i b=true:=by
 obtain⟨b0,_⟩:=aF hb
 have Fw:=bS.1
 have tK:=(al7.1 hy).1
 have k1:(w.put i (y.1,k,s)).key i=k∧(w.put i (y.1,k,s)).seq i=s:=by
  unfold Nw.key Nw.seq Nw.put
  simp only[al9]
  rw[amd tK]
  exact⟨rfl,rfl⟩
 have k2:w.key i=y.2.1∧w.seq i=y.2.2:=by
  unfold Nw.key Nw.seq
  simp only[al9,hy]
  exact⟨rfl,rfl⟩
 have k3:(w.put i (y.1,k,s)).key b=w.key b∧(w.put i (y.1,k,s)).seq b=w.seq b:=by
  unfold Nw.key Nw.seq Nw.put
  simp only[al9]
  rw[amc (by omega)]
  exact⟨rfl,rfl⟩
 unfold aV at h ⊢
 rw[k2.1,k2.2]at h
 rw[k1.1,k1.2,k3.1,k3.2]
 unfold gu at hl
 simp only[amQ]at h ⊢
 omega
def CQ(H:Hp)(c:Nat)(C:Nat→Prop)(w:Nw):Prop:=∃st,bv H c C st w
section
variable {H H' : Hp} {c : Nat} {C T : Nat → Prop} {w : Nw}
theorem CQ.ext(h:CQ H c C w)(e:ai T H H')(hd:∀x,C x→¬T x):CQ H' c C w:=by obtain⟨st,h⟩:=h;exact⟨st,h.ext e hd⟩
theorem CQ.fresh(h:CQ H c C w)(e:ax H H'):CQ H' c C w:=h.ext e fun _ _ h=>h
theorem CQ.slt(h:CQ H c C w):∀x,C x→x<H.size:=by obtain⟨st,h⟩:=h;exact h.slt
theorem CQ.Fu(h:CQ H c C w):w.cs.length≤65536:=by obtain⟨st,h⟩:=h;exact h.Fu
theorem CQ.EM(h:CQ H c C w):w.hs.length≤65537:=by obtain⟨st,h⟩:=h;exact h.EM
theorem CQ.home(h:CQ H c C w):∀x∈w.cs,0≤x.1∧x.1<w.hs.length:=by obtain⟨st,h⟩:=h;exact h.home
theorem CQ.live(h:CQ H c C w):∀x∈w.cs,0<x.1→w.hs[x.1.toNat]? =some true:=by obtain⟨st,h⟩:=h;exact h.live
theorem CQ.hm(h:CQ H c C w)(x:Int):0≤aH w x∧(0<aH w x→w.has (aH w x)∧aH w x<w.hs.length):=by
 by_cases h0:0<aH w x
 ·obtain⟨h1,h2,e,he⟩:=aF h0
  have hm:=amb he
  have:=h.home _ hm
  have hl:=h.live _ hm h0
  exact⟨by omega,fun _=>⟨⟨by omega,hl⟩,this.2⟩⟩
 ·refine⟨?_,fun h=>absurd h h0⟩
  unfold aH
  split
  ·rw[al9]
   cases hc:w.cs[x.toNat]? with
   |none=>exact anT _
   |some y=>exact(h.home y (amb hc)).1
  ·exact anT _
theorem CQ.pos(h:CQ H c C w):0<w.hs.length:=by
 obtain⟨st,cs,len,rt,aY,h1,h2⟩:=h
 exact(al7.1 h2.h0).1
theorem cJ(h:CQ H c C w)(a b:Int):ah Tryz.prog cQ [ptr c,i64 a,i64 b] H fun v H'=>ay (v= .bool (w.ahead a b)∧CQ H' c C w∧ai C H H'):=by
 obtain⟨st,h⟩:=h
 refine(lW h a b).mono ?_
 rintro v H' ⟨h1,h2,h3⟩
 exact⟨h1,⟨_,h2⟩,h3⟩
theorem xm(h:CQ H c C w)(i:Int):ah Tryz.prog kZ [ptr c,i64 i] H fun v H'=>ay (v=i64 (w.len i)∧H=H'):=by
 obtain⟨st,h⟩:=h
 exact vj h i
theorem kH(h:CQ H c C w)(i:Int):ah Tryz.prog bG [ptr c,i64 i] H fun v H'=>ay (v= .bool (decide (w.has i))∧H=H'):=by
 obtain⟨st,h⟩:=h
 exact ju h i
theorem lX(h:CQ H c C w):ah Tryz.prog dC [ptr c] H fun v H'=>ay (
  (w.hs.length=65537∧v=i64 0∧H=H')∨(w.hs.length≠65537∧v=i64 w.hs.length∧∃C',CQ H' c C' w.make∧ai C H H'∧∀x,C' x→C x∨H.size≤x)):=by
 obtain⟨st,h⟩:=h
 refine(mY h).mono ?_
 rintro v H' (h1| ⟨h1,h2,S',h3,h4⟩)
 ·exact .inl h1
 ·exact .inr ⟨h1,h2,S',⟨_,h3⟩,h4⟩
theorem nS(h:CQ H c C w)(g i k s:Int):ah Tryz.prog k8 [ptr c,i64 g,i64 i,vV k s] H fun v H'=>ay (
  (¬ (w.has g∧(0≤i∧i<w.cs.length)∧¬cZ w.cs i)∧v= .bool false∧CQ H' c C w∧ai C H H')∨
  ((w.has g∧(0≤i∧i<w.cs.length)∧¬cZ w.cs i)∧v= .bool true∧CQ H' c C (w.put i (g,k,s))∧ai C H H')):=by
 obtain⟨st,h⟩:=h
 refine(oJ h g i k s).mono ?_
 rintro v H' (⟨h1,h2,h3,h4⟩| ⟨h1,h2,h3,h4⟩)
 ·exact .inl ⟨h1,h2,⟨_,h3⟩,h4⟩
 ·exact .inr ⟨h1,h2,⟨_,h3⟩,h4⟩
theorem dt(h:CQ H c C w)(i:Int):ah Tryz.prog jz [ptr c,i64 i] H fun v H'=>ay (
  (¬cZ w.cs i∧v= .tuple [i64 0,.bool false].toArray∧H=H')∨(cZ w.cs i∧v= .tuple [i64 (aH w i),.bool true].toArray∧CQ H' c C w∧ai C H H')):=by
 obtain⟨st,h⟩:=h
 refine(eT h i).mono ?_
 rintro v H' (h1| ⟨h1,x,hx,h2,h3,h4⟩)
 ·exact .inl h1
 ·exact .inr ⟨h1,by rw[h2,ng h1.1 hx],⟨_,h3⟩,h4⟩
theorem jk(h:CQ H c C w)(i:Int):ah Tryz.prog bk [ptr c,i64 i] H fun v H'=>ay (CQ H' c C w∧ax H H'∧(
  (¬cZ w.cs i∧v= .tuple [vV 0 0,.bool false].toArray)∨(cZ w.cs i∧∃x,w.cs[i.toNat]? =some x∧v= .tuple [vV x.2.1 x.2.2,.bool true].toArray))):=by
 obtain⟨st,h⟩:=h
 refine(lU h i).mono ?_
 rintro v H' ⟨h1,h2,h3⟩
 exact⟨⟨_,h1⟩,h2,h3⟩
theorem cj(h:CQ H c C w)(i:Int):ah Tryz.prog jA [ptr c,i64 i] H fun v H'=>ay (
  (¬cZ w.cs i∧v= .bool false∧H=H')∨(cZ w.cs i∧v= .bool true∧CQ H' c C (w.put i (0,0,0))∧ai C H H')):=by
 obtain⟨st,h⟩:=h
 refine(mZ h i).mono ?_
 rintro v H' (h1| ⟨h1,h2,h3,h4⟩)
 ·exact .inl h1
 ·exact .inr ⟨h1,h2,⟨_,h3⟩,h4⟩
theorem jm(h:CQ H c C w)(i k s:Int):ah Tryz.prog iz [ptr c,i64 i,vV k s] H fun v H'=>ay (
  (¬ (cZ w.cs i∧∀x,w.cs[i.toNat]? =some x→¬gu x.2.1 x.2.2 k s)∧v= .bool false∧CQ H' c C w∧ax H H')∨
  (cZ w.cs i∧v= .bool true∧∃x,w.cs[i.toNat]? =some x∧¬gu x.2.1 x.2.2 k s∧CQ H' c C (w.put i (x.1,k,s))∧ai C H H')):=by
 obtain⟨st,h⟩:=h
 refine(lV h i k s).mono ?_
 rintro v H' (⟨h1,h2,h3,h4⟩| ⟨h1,h2,x,h3,h4,h5,h6⟩)
 ·exact .inl ⟨h1,h2,⟨_,h3⟩,h4⟩
 ·exact .inr ⟨h1,h2,x,h3,h4,⟨_,h5⟩,h6⟩
end
theorem nT(cap:Int)(H:Hp):ah Tryz.prog wB [i64 cap] H fun v H'=>ay (
  ax H H'∧((¬ (0≤cap∧cap≤65536)∧v= .tuple [.pointer none,i64 31].toArray)∨
   (0≤cap∧cap≤65536)∧∃c C,v= .tuple [ptr c,i64 0].toArray∧CQ H' c C ⟨[false],List.replicate cap.toNat (0,0,0)⟩∧(∀x,C x→H.size≤x))):=by
 refine(oI cap H).mono ?_
 rintro v H' ⟨h1,h2| ⟨h2,c,C,h3,h4,h5⟩⟩
 ·exact⟨h1,.inl h2⟩
 ·exact⟨h1,.inr ⟨h2,c,C,h3,⟨_,h4⟩,h5⟩⟩
theorem jn{w:Nw}{a b:Int}(ha:0<aH w a)(hb:0<aH w b):w.ahead a b=aV w a b:=DY (bK.1 ha) (bK.1 hb)
def br(tops:List Int)(h:Int):Int:=if 0≤h then tops.getD h.toNat (-1)else -1
theorem dW{tops:List Int}{h:Int}(h0:0≤h)(hl:h<tops.length):tops[h.toNat]? =some (br tops h):=by
 unfold br
 rw[if_pos h0,al9]
 obtain⟨x,hx⟩:∃x,tops[h.toNat]? =some x:=⟨_,al5 (by omega)⟩
 rw[hx];rfl
theorem eU{tops:List Int}{h:Int}(h0:0≤h)(hl:h<tops.length)(x:Int):br (tops.set h.toNat x)=kT (br tops) h x:=by
 funext y
 show br _ y=if y=h then x else br tops y
 by_cases hy:y=h
 ·subst hy
  unfold br
  rw[if_pos h0,if_pos rfl,al9,amd (by omega)]
  rfl
 ·rw[if_neg hy]
  unfold br
  split
  ·rw[al9,amc (by omega),al9]
  ·rfl
theorem Cu(tops:List Int):br (tops++[-1])=br tops:=by
 funext y
 unfold br
 split
 ·rw[al9,al9]
  by_cases hy:y.toNat<tops.length
  ·rw[amn hy]
  ·rw[amw (by omega),amk (l:=tops) (by omega)]
   by_cases h2:y.toNat - tops.length=0
   ·rw[h2];rfl
   ·rw[amk (by simp;omega)]
 ·rfl
end Go.Proofs.YtjlnnljohemifaaGreat

namespace Go.Proofs.YtjlnnljohemifaaGreat
open Go Go.Vc
structure Lk where
 a:Int
 b:Int
 u:Int
def R6(y:Lk):List Value:=[i64 y.a,i64 y.b,i64 y.u]
def aQ(L:List Lk):List Value:=L.flatMap R6
theorem kI(L:List Lk):(aQ L).length=L.length*3:=by
 induction L with
 |nil=>rfl
 |cons c r ih=>simp only[aQ,anO,amh,R6,ams,anj]at*;omega
def Lk.sH(y:Lk)(c:Bool):Int:=if c then y.b else y.a
def Lk.hX(y:Lk)(c:Bool)(v:Int):Lk:=if c then⟨y.a,v,y.u⟩else⟨v,y.b,y.u⟩
theorem Lk.Uc(y:Lk)(c d:Bool)(v:Int):(y.hX c v).sH d=if d=c then v else y.sH d:=by cases c<;>cases d<;>rfl
theorem Lk.aah(y:Lk)(c:Bool)(v:Int):(y.hX c v).u=y.u:=by cases c<;>rfl
theorem OS{L:List Lk}{i:Nat}{y:Lk}(hi:L[i]? =some y):(aQ L)[i*3]? =some (i64 y.a)∧(aQ L)[i*3+1]? =some (i64 y.b)∧(aQ L)[i*3+2]? =some (i64 y.u):=by
 induction L generalizing i with
 |nil=>simp at hi
 |cons a r ih=>
  have e:aQ (a::r)=i64 a.a::i64 a.b::i64 a.u::aQ r:=rfl
  rw[e]
  cases i with
  |zero=>simp at hi;subst hi;exact⟨rfl,rfl,rfl⟩
  |succ i=>
   have:=ih (by simpa using hi)
   rw[show(i+1)*3=i*3+3 by omega]
   exact this
theorem Wt{L:List Lk}{i:Nat}{y:Lk}(hi:L[i]? =some y)(c:Bool):(aQ L)[i*3+c.toNat]? =some (i64 (y.sH c)):=by
 obtain⟨h1,h2,h3⟩:=OS hi
 cases c
 ·exact h1
 ·exact h2
theorem xX{L:List Lk}{i:Nat}{y:Lk}(hi:L[i]? =some y)(c:Bool)(v:Int):(aQ L).set (i*3+c.toNat) (i64 v)=aQ (L.set i (y.hX c v)):=by
 induction L generalizing i with
 |nil=>simp at hi
 |cons a r ih=>
  have e:aQ (a::r)=i64 a.a::i64 a.b::i64 a.u::aQ r:=rfl
  cases i with
  |zero=>
   simp at hi;subst hi
   cases c<;>rfl
  |succ i=>
   have e2:aQ ((a::r).set (i+1) (y.hX c v))=i64 a.a::i64 a.b::i64 a.u::aQ (r.set i (y.hX c v)):=rfl
   rw[e,e2,show(i+1)*3+c.toNat=i*3+c.toNat+1+1+1 by omega]
   simp only[amP]
   rw[ih (by simpa using hi)]
theorem GU{L:List Lk}{i:Nat}{y:Lk}(hi:L[i]? =some y)(v:Int):(aQ L).set (i*3+2) (i64 v)=aQ (L.set i ⟨y.a,y.b,v⟩):=by
 induction L generalizing i with
 |nil=>simp at hi
 |cons a r ih=>
  have e:aQ (a::r)=i64 a.a::i64 a.b::i64 a.u::aQ r:=rfl
  cases i with
  |zero=>simp at hi;subst hi;rfl
  |succ i=>
   have e2:aQ ((a::r).set (i+1) ⟨y.a,y.b,v⟩)=i64 a.a::i64 a.b::i64 a.u::aQ (r.set i ⟨y.a,y.b,v⟩):=rfl
   rw[e,e2,show(i+1)*3+2=i*3+2+1+1+1 by omega]
   simp only[amP]
   rw[ih (by simpa using hi)]
def bj(L:List Lk)(x:Int)(c:Bool):Int:=if 0≤x then(match L[x.toNat]? with|some y=>y.sH c|none=> -1)else -1
def bu(L:List Lk)(x:Int):Int:=if 0≤x then(match L[x.toNat]? with|some y=>y.u|none=> -1)else -1
theorem sf{L:List Lk}{x:Int}{y:Lk}(h0:0≤x)(h:L[x.toNat]? =some y)(c:Bool):bj L x c=y.sH c:=by unfold bj;rw[if_pos h0,h]
theorem xo{L:List Lk}{x:Int}{y:Lk}(h0:0≤x)(h:L[x.toNat]? =some y):bu L x=y.u:=by unfold bu;rw[if_pos h0,h]
theorem R7{L:List Lk}{x:Int}(h:¬ (0≤x∧x<L.length))(c:Bool):bj L x c= -1:=by
 unfold bj
 split
 ·rw[amk (by omega)]
 ·rfl
theorem Nv{L:List Lk}{x:Int}(h:¬ (0≤x∧x<L.length)):bu L x= -1:=by
 unfold bu
 split
 ·rw[amk (by omega)]
 ·rfl
theorem uF{L:List Lk}{p:Int}{y:Lk}(h0:0≤p)(h:L[p.toNat]? =some y)(c:Bool)(v:Int):bj (L.set p.toNat (y.hX c v))=eF (bj L) p c v:=by
 have aR:=(al7.1 h).1
 funext z d
 unfold eF
 by_cases hz:z=p
 ·subst hz
  rw[sf h0 (amd aR),Lk.Uc,sf h0 h]
  by_cases hd:d=c<;>simp[hd]
 ·rw[if_neg (fun h=>hz h.1)]
  unfold bj
  split
  ·rw[amc (by omega)]
  ·rfl
theorem uG{L:List Lk}{p:Int}{y:Lk}(h0:0≤p)(h:L[p.toNat]? =some y)(c:Bool)(v:Int):bu (L.set p.toNat (y.hX c v))=bu L:=by
 have aR:=(al7.1 h).1
 funext z
 by_cases hz:z=p
 ·subst hz
  rw[xo h0 (amd aR),Lk.aah,xo h0 h]
 ·unfold bu
  split
  ·rw[amc (by omega)]
  ·rfl
theorem DZ{L:List Lk}{p:Int}{y:Lk}(h0:0≤p)(h:L[p.toNat]? =some y)(v:Int):bj (L.set p.toNat ⟨y.a,y.b,v⟩)=bj L:=by
 have aR:=(al7.1 h).1
 funext z d
 by_cases hz:z=p
 ·subst hz
  rw[sf h0 (amd aR),sf h0 h]
  rfl
 ·unfold bj
  split
  ·rw[amc (by omega)]
  ·rfl
theorem D0{L:List Lk}{p:Int}{y:Lk}(h0:0≤p)(h:L[p.toNat]? =some y)(v:Int):bu (L.set p.toNat ⟨y.a,y.b,v⟩)=aI (bu L) p v:=by
 have aR:=(al7.1 h).1
 funext z
 unfold aI
 by_cases hz:z=p
 ·subst hz
  rw[xo h0 (amd aR),if_pos rfl]
 ·rw[if_neg hz]
  unfold bu
  split
  ·rw[amc (by omega)]
  ·rfl
structure bP(H:Hp)(t tl:Nat)(L:List Lk):Prop where
 own:H.own t=some [.slice (some ⟨tl,0,none⟩) L.length L.length]
 nU:H.own tl=some (aQ L)
 ne:t≠tl
theorem bP.ext{S:Nat→Prop}{H H':Hp}{t tl:Nat}{L:List Lk}(h:bP H t tl L)(e:ai S H H')(h1:¬S t)(h2:¬S tl):bP H' t tl L:=⟨e.own h.own h1,e.own h.nU h2,h.ne⟩
theorem bP.fresh{H H':Hp}{t tl:Nat}{L:List Lk}(h:bP H t tl L)(e:ax H H'):bP H' t tl L:=h.ext e (fun h=>h) (fun h=>h)
theorem bP.put{H:Hp}{t tl:Nat}{L L':List Lk}(h:bP H t tl L)(hl:L'.length=L.length):bP (H.wr tl (aQ L')) t tl L':=
 ⟨by rw[DM h.ne.symm,hl];exact h.own,aj h.nU,h.ne⟩
section
variable {H : Hp} {t tl : Nat} {L : List Lk}
theorem hY(h:bP H t tl L)(x:Int):ah Tryz.prog BT [ptr t,i64 x] H fun v H'=>ay (v= .bool (decide (0≤x∧x<L.length))∧H'=H):=by
 refine be Cf ⟨rfl,?_⟩
 refine v1 lJ.eq_1 ?_
 refine ak.dec (fun g=>?_) (fun g=>?_)<;>refine v1 (ae h.own) ?_
 ·exact⟨amt Value.bool (by rw[decide_eq_decide];omega),rfl⟩
 ·exact⟨amt Value.bool (amm (by omega)).symm,rfl⟩
theorem oK(H:Hp)(c:Bool):ah Tryz.prog J0 [.bool c] H fun v H'=>ay (v=i64 c.toNat∧H'=H):=by
 refine be J7 ⟨rfl,?_⟩
 refine v1 um.eq_1 ?_
 cases c<;>refine vs ?_<;>exact⟨rfl,rfl⟩
def ix(x:Int):Value:=if x= -1 then .tuple [i64 0,.bool false].toArray else .tuple [i64 x,.bool true].toArray
theorem oL(H:Hp)(x:Int):ah Tryz.prog J1 [i64 x] H fun v H'=>ay (v=ix x∧H'=H):=by
 refine be J8 ⟨rfl,?_⟩
 refine v1 uo.eq_1 ?_
 unfold ix
 refine ak.dec (fun g=>?_) (fun g=>?_)<;>refine vs ?_
 ·rw[if_pos g];exact⟨rfl,rfl⟩
 ·rw[if_neg g];exact⟨rfl,rfl⟩
theorem lY(h:bP H t tl L)(x:Int)(c:Bool):ah Tryz.prog BS [ptr t,i64 x,.bool c] H fun v H'=>ay (v=i64 (bj L x c)∧H'=H):=by
 refine be Cd ⟨rfl,?_⟩
 refine v1 lI.eq_1 ?_
 refine(hY h x).mono ?_
 rintro _ H' ⟨rfl,e⟩
 obtain rfl:=e.symm
 refine vs ?_
 refine ak.dec (fun g=>?_) (fun g=>?_)<;>refine vs ?_
 ·obtain⟨y,hy⟩:∃y,L[x.toNat]? =some y:=⟨_,al5 (by omega)⟩
  have hk:=Wt hy c
  have hc:c.toNat<2:=by cases c<;>decide
  refine v1 (ae h.own) ?_
  refine⟨_,oK H c,?_⟩
  refine⟨⟨by omega,by omega⟩,?_⟩
  refine v4 al6 Nat.add_zero ama Int.toNat_natCast ?_
  refine⟨⟨by omega,by omega⟩,?_⟩
  refine v6 (ae h.nU) al6 Nat.add_zero ama Int.toNat_natCast hk ?_
  rw[sf g.1 hy]
  exact⟨rfl,rfl⟩
 ·rw[R7 g]
  exact⟨rfl,rfl⟩
theorem nh(h:bP H t tl L)(x:Int):ah Tryz.prog yH [ptr t,i64 x] H fun v H'=>ay (v=i64 (bu L x)∧H'=H):=by
 refine be zj ⟨rfl,?_⟩
 refine v1 iX.eq_1 ?_
 refine(hY h x).mono ?_
 rintro _ H' ⟨rfl,e⟩
 obtain rfl:=e.symm
 refine vs ?_
 refine ak.dec (fun g=>?_) (fun g=>?_)<;>refine vs ?_
 ·obtain⟨y,hy⟩:∃y,L[x.toNat]? =some y:=⟨_,al5 (by omega)⟩
  have hk:=(OS hy).2.2
  refine v1 (ae h.own) ?_
  refine⟨by omega,?_⟩
  refine v3 (ae h.nU) al6 hk ?_
  rw[xo g.1 hy]
  exact⟨rfl,rfl⟩
 ·rw[Nv g]
  exact⟨rfl,rfl⟩
theorem oM(h:bP H t tl L)(x:Int):ah Tryz.prog Ak [ptr t,i64 x] H fun v H'=>ay (v=ix (bj L x false)∧H'=H):=by
 refine be AR ⟨rfl,?_⟩
 refine v1 jV.eq_1 ?_
 refine(lY h x false).mono ?_
 rintro _ H' ⟨rfl,e⟩
 obtain rfl:=e.symm
 refine vs ?_
 refine(oL H (bj L x false)).mono ?_
 rintro _ H' ⟨rfl,e⟩
 obtain rfl:=e.symm
 unfold ix
 by_cases g:bj L x false= -1
 ·simp only[if_pos g]
  refine vs ?_
  exact⟨(if_pos g).symm,rfl⟩
 ·simp only[if_neg g]
  refine vs ?_
  exact⟨(if_neg g).symm,rfl⟩
theorem cA(h:bP H t tl L)(x:Int):ah Tryz.prog yG [ptr t,i64 x] H fun v H'=>ay (v=ix (bj L x true)∧H'=H):=by
 refine be zi ⟨rfl,?_⟩
 refine v1 iW.eq_1 ?_
 refine(lY h x true).mono ?_
 rintro _ H' ⟨rfl,e⟩
 obtain rfl:=e.symm
 refine vs ?_
 refine(oL H (bj L x true)).mono ?_
 rintro _ H' ⟨rfl,e⟩
 obtain rfl:=e.symm
 unfold ix
 by_cases g:bj L x true= -1
 ·simp only[if_pos g]
  refine vs ?_
  exact⟨(if_pos g).symm,rfl⟩
 ·simp only[if_neg g]
  refine vs ?_
  exact⟨(if_neg g).symm,rfl⟩
theorem si(h:bP H t tl L)(x:Int):ah Tryz.prog Du [ptr t,i64 x] H fun v H'=>ay (v=ix (bu L x)∧H'=H):=by
 refine be DH ⟨rfl,?_⟩
 refine v1 mT.eq_1 ?_
 refine(nh h x).mono ?_
 rintro _ H' ⟨rfl,e⟩
 obtain rfl:=e.symm
 refine vs ?_
 refine(oL H (bu L x)).mono ?_
 rintro _ H' ⟨rfl,e⟩
 obtain rfl:=e.symm
 unfold ix
 by_cases g:bu L x= -1
 ·simp only[if_pos g]
  refine vs ?_
  exact⟨(if_pos g).symm,rfl⟩
 ·simp only[if_neg g]
  refine vs ?_
  exact⟨(if_neg g).symm,rfl⟩
set_option maxHeartbeats 1000000 in
theorem fG(h:bP H t tl L){p x:Int}{c:Bool}(hp:0≤p∧p<L.length)(hx:0≤x∧x<L.length)(dZ:p≠x)(hu:bu L x= -1)(hk:bj L p c= -1):
  ah Tryz.prog Al [ptr t,i64 p,i64 x,.bool c] H fun v H'=>ay (v= .bool true∧∃L',bP H' t tl L'∧L'.length=L.length∧bj L'=ww (bj L) p x c∧bu L'=aI (bu L) x p∧ai (fun z=>z=tl) H H'):=by
 refine be AS ⟨rfl,?_⟩
 refine v1 jW.eq_1 ?_
 refine(hY h p).mono ?_
 rintro _ H' ⟨rfl,e⟩
 obtain rfl:=e.symm
 rw[amj hp]
 refine vs ?_
 refine(hY h x).mono ?_
 rintro _ H' ⟨rfl,e⟩
 obtain rfl:=e.symm
 rw[amj hx]
 refine vs ?_
 refine ak.dec (fun g=>absurd g dZ) (fun _=>?_)
 refine vs ?_
 refine(nh h x).mono ?_
 rintro _ H' ⟨rfl,e⟩
 obtain rfl:=e.symm
 rw[hu]
 refine v1 amp ?_
 refine(lY h p c).mono ?_
 rintro _ H' ⟨rfl,e⟩
 obtain rfl:=e.symm
 rw[hk]
 refine v1 amp ?_
 obtain⟨y,hy⟩:∃y,L[p.toNat]? =some y:=⟨_,al5 (by omega)⟩
 have hc:c.toNat<2:=by cases c<;>decide
 have pJ:=kI L
 refine v1 (ae h.own) ?_
 refine⟨_,oK H c,?_⟩
 refine⟨⟨by omega,by omega⟩,?_⟩
 refine v4 al6 Nat.add_zero ama Int.toNat_natCast ?_
 refine⟨⟨by omega,by omega⟩,?_⟩
 refine v5 h.nU al6 Nat.add_zero ama Int.toNat_natCast ?_
 refine⟨by omega,?_⟩
 have h1:=h.put (L':=L.set p.toNat (y.hX c x)) (by rw[al8])
 have e1:ai (fun z=>z=tl) H (H.wr tl (aQ (L.set p.toNat (y.hX c x)))):=(ai.refl (fun z=>z=tl) _).wr (fun _=>rfl) _
 rw[←xX hy c x]at h1 e1
 have k1:=uF hp.1 hy c x
 have u1:=uG hp.1 hy c x
 have l1:(L.set p.toNat (y.hX c x)).length=L.length:=al8 ..
 generalize L.set p.toNat (y.hX c x)=L1 at*
 refine vs ?_
 generalize H.wr tl ((aQ L).set (p.toNat*3+c.toNat) (i64 x))=H1 at*
 obtain⟨y1,HY⟩:∃y,L1[x.toNat]? =some y:=⟨_,al5 (by omega)⟩
 have aes:=kI L1
 refine v1 (ae h1.own) ?_
 refine⟨by omega,?_⟩
 refine v2 h1.nU al6 ?_
 refine⟨by omega,?_⟩
 have h2:=h1.put (L':=L1.set x.toNat ⟨y1.a,y1.b,p⟩) (by rw[al8])
 have e2:ai (fun z=>z=tl) H1 (H1.wr tl (aQ (L1.set x.toNat ⟨y1.a,y1.b,p⟩))):=(ai.refl (fun z=>z=tl) _).wr (fun _=>rfl) _
 rw[←GU HY p]at h2 e2
 refine vs ?_
 exact⟨rfl,_,h2,by rw[al8,l1],by rw[DZ hx.1 HY,k1];rfl,by rw[D0 hx.1 HY,u1],e1.trans e2⟩
set_option maxHeartbeats 1000000 in
theorem cN(h:bP H t tl L){x:Int}(hv:bu L x≠ -1→0≤bu L x∧bu L x<L.length):
  ah Tryz.prog BR [ptr t,i64 x] H fun v H'=>ay (v=ix (bu L x)∧∃L',bP H' t tl L'∧L'.length=L.length∧bj L'=kO (bj L) (bu L) x∧bu L'=c9 (bu L) x∧ai (fun z=>z=tl) H H'):=by
 refine be Cc ⟨rfl,?_⟩
 refine v1 lH.eq_1 ?_
 refine(nh h x).mono ?_
 rintro _ H' ⟨rfl,e⟩
 obtain rfl:=e.symm
 refine vs ?_
 have pJ:=kI L
 refine ak.dec (fun g=>?_) (fun g=>?_)<;>refine vs ?_
 ·refine⟨by unfold ix;rw[if_pos g];rfl,L,h,rfl,by unfold kO;rw[if_pos g],?_,ai.refl _ _⟩
  funext z
  unfold c9 aI
  split
  ·rename_i hz;rw[hz,g]
  ·rfl
 have hx:0≤x∧x<L.length:=amr fun hn=>g (Nv hn)
 obtain⟨p0,p1⟩:=hv g
 generalize hpe:bu L x=p at*
 obtain⟨y,hy⟩:∃y,L[p.toNat]? =some y:=⟨_,al5 (by omega)⟩
 have hc:∀c:Bool,c.toNat<2:=fun c=>by cases c<;>decide
 refine v1 (ae h.own) ?_
 refine⟨_,lY h p true,?_⟩
 refine vs ?_
 refine⟨_,oK H (decide (bj L p true=x)),?_⟩
 have Wu:decide (bj L p true=x)=(bj L p true==x):=by by_cases e:bj L p true=x<;>simp[e]
 rw[Wu]
 have Jn:=hc (bj L p true==x)
 generalize hce:(bj L p true==x)=c at*
 refine⟨⟨by omega,by omega⟩,?_⟩
 refine v4 al6 Nat.add_zero ama Int.toNat_natCast ?_
 refine⟨⟨by omega,by omega⟩,?_⟩
 refine v5 h.nU al6 Nat.add_zero ama Int.toNat_natCast ?_
 refine⟨by omega,?_⟩
 have h1:=h.put (L':=L.set p.toNat (y.hX c (-1))) (by rw[al8])
 have e1:ai (fun z=>z=tl) H (H.wr tl (aQ (L.set p.toNat (y.hX c (-1))))):=(ai.refl (fun z=>z=tl) _).wr (fun _=>rfl) _
 rw[←xX hy c (-1)]at h1 e1
 have k1:=uF p0 hy c (-1)
 have u1:=uG p0 hy c (-1)
 have l1:(L.set p.toNat (y.hX c (-1))).length=L.length:=al8 ..
 generalize L.set p.toNat (y.hX c (-1))=L1 at*
 refine vs ?_
 generalize H.wr tl ((aQ L).set (p.toNat*3+c.toNat) (i64 (-1)))=H1 at*
 obtain⟨y1,HY⟩:∃y,L1[x.toNat]? =some y:=⟨_,al5 (by omega)⟩
 have aes:=kI L1
 refine v1 (ae h1.own) ?_
 refine⟨by omega,?_⟩
 refine v2 h1.nU al6 ?_
 refine⟨by omega,?_⟩
 have h2:=h1.put (L':=L1.set x.toNat ⟨y1.a,y1.b, -1⟩) (by rw[al8])
 have e2:ai (fun z=>z=tl) H1 (H1.wr tl (aQ (L1.set x.toNat ⟨y1.a,y1.b, -1⟩))):=(ai.refl (fun z=>z=tl) _).wr (fun _=>rfl) _
 rw[←GU HY (-1)]at h2 e2
 refine vs ?_
 refine⟨by unfold ix;rw[if_neg g];rfl,_,h2,by rw[al8,l1],?_,by rw[D0 hx.1 HY,u1];rfl,e1.trans e2⟩
 rw[DZ hx.1 HY,k1]
 unfold kO
 rw[hpe,if_neg g,hce]
theorem R9{L:List Lk}{p:Int}{y:Lk}(h0:0≤p)(h:L[p.toNat]? =some y):bj (L.set p.toNat ⟨y.b,y.a,y.u⟩)=pY (bj L) p∧bu (L.set p.toNat ⟨y.b,y.a,y.u⟩)=bu L:=by
 have aR:=(al7.1 h).1
 constructor
 ·funext z d
  unfold pY
  by_cases hz:z=p
  ·subst hz
   rw[sf h0 (amd aR),if_pos rfl,sf h0 h]
   cases d<;>rfl
  ·rw[if_neg hz]
   unfold bj
   split
   ·rw[amc (by omega)]
   ·rfl
 ·funext z
  by_cases hz:z=p
  ·subst hz
   rw[xo h0 (amd aR),xo h0 h]
  ·unfold bu
   split
   ·rw[amc (by omega)]
   ·rfl
theorem Nx{L:List Lk}{i:Nat}{y:Lk}(hi:L[i]? =some y):((aQ L).set (i*3) (i64 y.b)).set (i*3+1) (i64 y.a)=aQ (L.set i ⟨y.b,y.a,y.u⟩):=by
 induction L generalizing i with
 |nil=>simp at hi
 |cons a r ih=>
  have e:aQ (a::r)=i64 a.a::i64 a.b::i64 a.u::aQ r:=rfl
  cases i with
  |zero=>simp at hi;subst hi;rfl
  |succ i=>
   have e2:aQ ((a::r).set (i+1) ⟨y.b,y.a,y.u⟩)=i64 a.a::i64 a.b::i64 a.u::aQ (r.set i ⟨y.b,y.a,y.u⟩):=rfl
   rw[e,e2,show(i+1)*3=i*3+1+1+1 by omega,show i*3+1+1+1+1=i*3+1+1+1+1 by rfl]
   simp only[amP]
   rw[ih (by simpa using hi)]
set_option maxHeartbeats 1000000 in
theorem oN(h:bP H t tl L){p:Int}(hp:0≤p∧p<L.length):
  ah Tryz.prog Am [ptr t,i64 p] H fun v H'=>ay (v= .bool true∧∃L',bP H' t tl L'∧L'.length=L.length∧bj L'=pY (bj L) p∧bu L'=bu L∧ai (fun z=>z=tl) H H'):=by
 refine be AT ⟨rfl,?_⟩
 refine v1 jX.eq_1 ?_
 refine(hY h p).mono ?_
 rintro _ H' ⟨rfl,e⟩
 obtain rfl:=e.symm
 rw[amj hp]
 obtain⟨y,hy⟩:∃y,L[p.toNat]? =some y:=⟨_,al5 (by omega)⟩
 have pJ:=kI L
 obtain⟨a1,a2,a3⟩:=OS hy
 refine v1 (ae h.own) ?_
 refine⟨by omega,?_⟩
 refine vs ?_
 have n1:Int.toNat 1=1:=rfl
 refine⟨⟨by omega,by omega⟩,?_⟩
 refine v8 (ae h.nU) al6 Nat.add_zero ama Int.toNat_zero n1 a1 a2 ?_
 refine⟨⟨by omega,by omega⟩,?_⟩
 refine v8 (ae h.nU) al6 Nat.add_zero ama Int.toNat_zero n1 a1 a2 ?_
 refine⟨⟨by omega,by omega⟩,?_⟩
 refine v6 h.nU al6 Nat.add_zero ama Int.toNat_zero n1 ?_
 refine⟨by omega,?_⟩
 refine vs ?_
 refine⟨⟨by omega,by omega⟩,?_⟩
 have o1:(H.wr tl ((aQ L).set (p.toNat*3) (i64 y.b))).own tl=_:=aj h.nU
 have e1:ai (fun z=>z=tl) H (H.wr tl ((aQ L).set (p.toNat*3) (i64 y.b))):=(ai.refl (fun z=>z=tl) _).wr (fun _=>rfl) _
 have w1:=e1.own h.own h.ne
 generalize H.wr tl ((aQ L).set (p.toNat*3) (i64 y.b))=H1 at*
 refine v6 o1 al6 Nat.add_zero ama Int.toNat_zero n1 ?_
 refine⟨by rw[al8];omega,?_⟩
 have e2:ai (fun z=>z=tl) H1 (H1.wr tl (((aQ L).set (p.toNat*3) (i64 y.b)).set (p.toNat*3+1) (i64 y.a))):=(ai.refl (fun z=>z=tl) _).wr (fun _=>rfl) _
 have o2:(H1.wr tl (((aQ L).set (p.toNat*3) (i64 y.b)).set (p.toNat*3+1) (i64 y.a))).own tl=_:=aj o1
 refine vs ?_
 obtain⟨k1,k2⟩:=R9 hp.1 hy
 refine⟨rfl,L.set p.toNat ⟨y.b,y.a,y.u⟩,⟨by rw[al8];exact e2.own w1 h.ne,by rw[←Nx hy];exact o2,h.ne⟩,al8 ..,k1,k2,e1.trans e2⟩
end
theorem OT(n:Nat):cR [Value.int .i64 0,Value.int .i64 0,Value.int .i64 0] n=aQ (List.replicate n ⟨0,0,0⟩):=by
 unfold cR
 induction n with
 |zero=>rfl
 |succ n ih=>rw[amR,am7,ih,amR];rfl
theorem Jy{L:List Lk}{i:Nat}(hi:i<L.length)(y:Lk):bq (aQ L) (i*3) [i64 y.a,i64 y.b,i64 y.u]=aQ (L.set i y):=by
 simp only[bq]
 induction L generalizing i with
 |nil=>simp at hi
 |cons a r ih=>
  have e:aQ (a::r)=i64 a.a::i64 a.b::i64 a.u::aQ r:=rfl
  cases i with
  |zero=>rfl
  |succ i=>
   have e2:aQ ((a::r).set (i+1) y)=i64 a.a::i64 a.b::i64 a.u::aQ (r.set i y):=rfl
   rw[e,e2,show(i+1)*3=i*3+1+1+1 by omega]
   simp only[amP]
   rw[ih (by simpa using hi)]
def mw:Lk:=⟨-1, -1, -1⟩
set_option maxHeartbeats 1000000 in
theorem xp(H:Hp){n:Int}(hn:0≤n∧n≤65536):ah Tryz.prog Lm [i64 n] H fun v H'=>ay (∃t tl,v= .tuple [ptr t,i64 0].toArray∧bP H' t tl (List.replicate n.toNat mw)∧ax H H'∧H.size≤t∧H.size≤tl):=by
 refine be Ls ⟨rfl,?_⟩
 refine v1 wQ.eq_1 ?_
 refine ak.dec (fun g=>absurd g (by omega)) (fun _=>?_)
 refine vs ?_
 refine ak.dec (fun g=>absurd g (by omega)) (fun _=>?_)
 refine vs ?_
 refine⟨⟨by omega,by omega,by omega,by omega⟩,?_⟩
 refine vs ?_
 rw[OT]
 have f0:ax H ((H.new 322 (aQ (List.replicate n.toNat ⟨0,0,0⟩))).new 320 [.slice (some ⟨H.size,0,none⟩) n.toNat n.toNat]):=((ai.refl _ _).new _ _).new _ _
 have t0:bP ((H.new 322 (aQ (List.replicate n.toNat ⟨0,0,0⟩))).new 320 [.slice (some ⟨H.size,0,none⟩) n.toNat n.toNat]) (H.size+1) H.size (List.replicate n.toNat ⟨0,0,0⟩):=by
  refine⟨?_,?_,by omega⟩
  ·rw[amV]
   exact bD (by simp only[au])
  ·rw[cw (by simp only[au];omega),aG]
 generalize (H.new 322 (aQ (List.replicate n.toNat ⟨0,0,0⟩))).new 320 [.slice (some ⟨H.size,0,none⟩) n.toNat n.toNat]=H1 at*
 have ow:=t0.own
 rw[amV]at ow
 refine bA.intro (fun m env H'=>∃j:Nat,m=n.toNat - j∧j≤n.toNat∧ai (fun z=>z=H.size) H1 H'∧bP H' (H.size+1) H.size (List.replicate j mw++List.replicate (n.toNat - j) ⟨0,0,0⟩)∧
  env=[(4,ptr (H.size+1)),(20,i64 (n.toNat:Nat)),(21,i64 j)]) n.toNat ⟨0,by omega,by omega,ai.refl _ _,t0,rfl⟩ ?_
 rintro m env H2 ⟨j,rfl,hj,e2,t2,rfl⟩
 have pJ:=kI (List.replicate j mw++List.replicate (n.toNat - j) (⟨0,0,0⟩:Lk))
 have wh:(List.replicate j mw++List.replicate (n.toNat - j) (⟨0,0,0⟩:Lk)).length=n.toNat:=by simp;omega
 have o2:=t2.own
 rw[wh]at pJ o2
 refine vs ?_
 refine ak.dec (fun aR=>?_) (fun aR=>?_)<;>refine vs ?_
 ·first|refine v1 (ae o2) ?_|skip
  refine⟨by omega,?_⟩
  refine v3 t2.nU al6 Int.toNat_natCast ?_
  refine⟨by omega,?_⟩
  have e3:=Jy (L:=List.replicate j mw++List.replicate (n.toNat - j) (⟨0,0,0⟩:Lk)) (i:=j) (by omega) mw
  have e4:(List.replicate j mw++List.replicate (n.toNat - j) (⟨0,0,0⟩:Lk)).set j mw=List.replicate (j+1) mw++List.replicate (n.toNat - (j+1)) (⟨0,0,0⟩:Lk):=by
   rw[an6 _ _ (by simp),amV,am3,show n.toNat - j=(n.toNat - (j+1))+1 by omega,amR,anq,aob]
   simp
  rw[e4]at e3
  have t3:=t2.put (L':=List.replicate (j+1) mw++List.replicate (n.toNat - (j+1)) (⟨0,0,0⟩:Lk)) (by simp;omega)
  have e5:ai (fun z=>z=H.size) H1 (H2.wr H.size (aQ (List.replicate (j+1) mw++List.replicate (n.toNat - (j+1)) (⟨0,0,0⟩:Lk)))):=e2.wr (fun _=>rfl) _
  rw[show bq (aQ (List.replicate j mw++List.replicate (n.toNat - j) (⟨0,0,0⟩:Lk))) (j*3) (aJ (Value.agg #[Value.int .i64 (-1),Value.int .i64 (-1),Value.int .i64 (-1)]))=_ from e3]
  refine vs ?_
  rw[wrap64 (n:=(j:Int)+1) (by omega) (by omega)]
  exact⟨n.toNat - (j+1),by omega,j+1,rfl,by omega,e5,t3,rfl⟩
 ·have kJ:j=n.toNat:=by omega
  subst kJ
  rw[am3,aoe,amW]at t2
  exact⟨_,_,rfl,t2,f0.then e2 (fun z hz=>by omega),by omega,by omega⟩
end Go.Proofs.YtjlnnljohemifaaGreat

namespace Go.Proofs.YtjlnnljohemifaaGreat
open Go Go.Vc
structure LB where
 n:Nat
 c:Nat
 t:Nat
 tl:Nat
 rk:Nat
 tp:Nat
structure c7(H:Hp)(B:LB)(C:Nat→Prop)(w:Nw)(L:List Lk)(rs tops:List Int):Prop where
 own:∃tv,H.own B.n=some [ptr B.c,ptr B.t,.slice (some ⟨B.rk,0,none⟩) rs.length rs.length,tv]∧Sl H 1 tv tops.length (tops.map i64) (some B.tp)
 cells:CQ H B.c C w
 bW:bP H B.t B.tl L
 D1:H.own B.rk=some (rs.map i64)
 len:L.length=w.cs.length∧rs.length=w.cs.length
 qY:(B.n≠B.t∧B.n≠B.tl∧B.n≠B.rk∧B.n≠B.tp)∧(B.t≠B.tl∧B.t≠B.rk∧B.t≠B.tp)∧(B.tl≠B.rk∧B.tl≠B.tp)∧B.rk≠B.tp
 out:¬C B.n∧¬C B.t∧¬C B.tl∧¬C B.rk∧¬C B.tp
def LB.S(B:LB)(C:Nat→Prop)(z:Nat):Prop:=C z∨z=B.n∨z=B.t∨z=B.tl∨z=B.rk∨z=B.tp
section
variable {H H' : Hp} {B : LB} {C T : Nat → Prop} {w w' : Nw} {L L' : List Lk} {rs tops : List Int}
theorem c7.slt(h:c7 H B C w L rs tops):∀z,B.S C z→z<H.size:=by
 obtain⟨tv,h1,h2⟩:=h.own
 rintro z (hz|rfl|rfl|rfl|rfl|rfl)
 ·exact h.cells.slt z hz
 ·exact aO h1
 ·exact aO h.bW.own
 ·exact aO h.bW.nU
 ·exact aO h.D1
 ·exact h2.lt
theorem c7.ext(h:c7 H B C w L rs tops)(e:ai T H H')(hd:∀z,B.S C z→¬T z):c7 H' B C w L rs tops:=by
 obtain⟨tv,h1,h2⟩:=h.own
 exact⟨⟨tv,e.own h1 (hd _ (.inr (.inl rfl))),h2.ext e (fun b hb=>by injection hb with hb;exact hb▸hd _ (.inr (.inr (.inr (.inr (.inr rfl))))))⟩,h.cells.ext e (fun x hx=>hd x (.inl hx)),
  h.bW.ext e (hd _ (.inr (.inr (.inl rfl)))) (hd _ (.inr (.inr (.inr (.inl rfl))))),e.own h.D1 (hd _ (.inr (.inr (.inr (.inr (.inl rfl)))))),h.len,h.qY,h.out⟩
theorem c7.fresh(h:c7 H B C w L rs tops)(e:ax H H'):c7 H' B C w L rs tops:=h.ext e fun _ _ h=>h
theorem c7.aK(h:c7 H B C w L rs tops)(c1:CQ H' B.c C w')(e:ai C H H')(hl:w'.cs.length=w.cs.length):c7 H' B C w' L rs tops:=by
 obtain⟨tv,h1,h2⟩:=h.own
 obtain⟨o1,o2,o3,o4,o5⟩:=h.out
 exact⟨⟨tv,e.own h1 o1,h2.ext e (fun b hb=>by injection hb with hb;exact hb▸o5)⟩,c1,h.bW.ext e o2 o3,e.own h.D1 o4,by rw[hl];exact h.len,h.qY,h.out⟩
theorem c7.dL(h:c7 H B C w L rs tops)(t1:bP H' B.t B.tl L')(e:ai (fun z=>z=B.tl) H H')(hl:L'.length=L.length):c7 H' B C w L' rs tops:=by
 obtain⟨tv,h1,h2⟩:=h.own
 obtain⟨o1,o2,o3,o4,o5⟩:=h.out
 obtain⟨⟨d1,d2,d3,d4⟩,⟨d5,d6,d7⟩,⟨d8,d9⟩,d10⟩:=h.qY
 exact⟨⟨tv,e.own h1 d2,h2.ext e (fun b hb=>by injection hb with hb;omega)⟩,h.cells.ext e (fun x hx hz=>o3 (hz▸hx)),t1,e.own h.D1 (by omega),by rw[hl];exact h.len,h.qY,h.out⟩
theorem c7.Ny(h:c7 H B C w L rs tops)(i:Nat)(v:Int):c7 (H.wr B.rk ((rs.map i64).set i (i64 v))) B C w L (rs.set i v) tops∧ai (fun z=>z=B.rk) H (H.wr B.rk ((rs.map i64).set i (i64 v))):=by
 obtain⟨tv,h1,h2⟩:=h.own
 obtain⟨o1,o2,o3,o4,o5⟩:=h.out
 obtain⟨⟨d1,d2,d3,d4⟩,⟨d5,d6,d7⟩,⟨d8,d9⟩,d10⟩:=h.qY
 have e:ai (fun z=>z=B.rk) H (H.wr B.rk ((rs.map i64).set i (i64 v))):=(ai.refl (fun z=>z=B.rk) _).wr (fun _=>rfl) _
 refine⟨⟨⟨tv,by rw[al8];exact e.own h1 d3,h2.ext e (fun b hb=>by injection hb with hb;omega)⟩,h.cells.ext e (fun x hx hz=>o4 (hz▸hx)),h.bW.ext e (by omega) (by omega),?_,by rw[al8];exact h.len,h.qY,h.out⟩,e⟩
 rw[amO]
 exact aj h.D1
theorem c7.hZ(h:c7 H B C w L rs tops):∃c l,H.own B.n=some [ptr B.c,ptr B.t,.slice (some ⟨B.rk,0,none⟩) rs.length rs.length,.slice (some ⟨B.tp,0,none⟩) tops.length c]∧H.own B.tp=some l∧tops.length≤c∧c≤l.length∧l.take tops.length=tops.map i64:=by
 obtain⟨tv,h1,_,l,c,rfl,h3,h4,h5,h6⟩:=h.own
 rw[ama]at h5 h6
 exact⟨c,l,h1,h3,h4,h5,h6⟩
theorem c7.fB(h:c7 H B C w L rs tops){l:List Value}(hl:H.own B.tp=some l){i:Nat}{x:Int}(hx:tops[i]? =some x):l[i]? =some (i64 x):=by
 obtain⟨c,l',_,h2,_,_,h5⟩:=h.hZ
 rw[hl]at h2
 injection h2 with h2
 subst h2
 have h7:(tops.map i64)[i]? =some (i64 x):=by rw[amo,hx];rfl
 rw[←h5,amE]at h7
 split at h7
 ·exact h7
 ·cases h7
theorem c7.nV(h:c7 H B C w L rs tops){l:List Value}(hl:H.own B.tp=some l)(i:Nat)(v:Int):c7 (H.wr B.tp (l.set i (i64 v))) B C w L rs (tops.set i v)∧ai (fun z=>z=B.tp) H (H.wr B.tp (l.set i (i64 v))):=by
 obtain⟨c,l',h1,h2,h3,h4,h5⟩:=h.hZ
 rw[hl]at h2
 injection h2 with h2
 subst h2
 obtain⟨o1,o2,o3,o4,o5⟩:=h.out
 obtain⟨⟨d1,d2,d3,d4⟩,⟨d5,d6,d7⟩,⟨d8,d9⟩,d10⟩:=h.qY
 have e:ai (fun z=>z=B.tp) H (H.wr B.tp (l.set i (i64 v))):=(ai.refl (fun z=>z=B.tp) _).wr (fun _=>rfl) _
 refine⟨⟨⟨_,e.own h1 d4,?_⟩,h.cells.ext e (fun x hx hz=>o5 (hz▸hx)),h.bW.ext e (by omega) (by omega),e.own h.D1 (by omega),h.len,h.qY,h.out⟩,e⟩
 refine⟨by simp,l.set i (i64 v),c,by rw[al8],aj hl,by rw[al8];exact h3,by rw[al8,ama];exact h4,?_⟩
 rw[al8,ama,xY,h5,amO]
theorem cB(H:Hp)(x:Int):∀ (a:Int) (b:Bool),ix x= .tuple [i64 a,.bool b].toArray→ah Tryz.prog Io [i64 a,.bool b] H fun v H'=>ay (v=i64 x∧H'=H):=by
 intro a b he
 unfold ix at he
 refine be IA ⟨rfl,?_⟩
 refine v1 se.eq_1 ?_
 have h2:∀ {p q:Int} {r s:Bool},Value.tuple [i64 p,Value.bool r].toArray=Value.tuple [i64 q,Value.bool s].toArray→p=q∧r=s:=fun h=>by
  have h3:=amt Array.toList (Value.tuple.inj h)
  injection h3 with h4 h5
  injection h4 with _ h4
  injection h5 with h5 _
  injection h5 with h5
  exact⟨h4,h5⟩
 split at he
 ·rename_i hx
  obtain⟨rfl,rfl⟩:=h2 he
  refine vs ?_
  rw[hx]
  exact⟨rfl,rfl⟩
 ·obtain⟨rfl,rfl⟩:=h2 he
  refine vs ?_
  exact⟨rfl,rfl⟩
theorem cO(x:Int):∃ (a:Int) (b:Bool),ix x= .tuple [i64 a,.bool b].toArray:=by
 unfold ix
 split
 ·exact⟨_,_,rfl⟩
 ·exact⟨_,_,rfl⟩
def YD(rs:List Int)(x:Int):Int:=if x= -1 then 0 else rs.getD x.toNat 0
theorem eD(h:c7 H B C w L rs tops){x:Int}(hx:x≠ -1→0≤x∧x<w.cs.length):ah Tryz.prog vF [ptr B.n,i64 x] H fun v H'=>ay (v=i64 (YD rs x)∧H'=H):=by
 obtain⟨tv,h1,h2⟩:=h.own
 have hl:=h.len
 refine be vS ⟨rfl,?_⟩
 refine v1 fV.eq_1 ?_
 refine ak.dec (fun g=>?_) (fun g=>?_)<;>refine vs ?_
 ·unfold YD
  rw[if_pos g]
  exact⟨rfl,rfl⟩
 have hx:=hx g
 have hr:(rs.map i64)[x.toNat]? =some (i64 (YD rs x)):=by
  unfold YD
  rw[if_neg g,amo,al9,al5 (by omega)]
  rfl
 refine v1 (ae h1) ?_
 refine⟨⟨by omega,by omega⟩,?_⟩
 refine v4 (ae h.D1) al6 ama hr ?_
 exact⟨rfl,rfl⟩
set_option maxHeartbeats 1000000 in
theorem jb(h:c7 H B C w L rs tops){x:Int}(hx:0≤x∧x<w.cs.length)(hk:∀c,bj L x c≠ -1→0≤bj L x c∧bj L x c<w.cs.length):
  ah Tryz.prog vE [ptr B.n,i64 x] H fun v H'=>ay (∃L' Ud,c7 H' B C w L' Ud tops∧(bj L'=bj L∨bj L'=pY (bj L) x)∧bu L'=bu L∧ai (fun z=>z=B.tl∨z=B.rk) H H'):=by
 obtain⟨tv,h1,h2⟩:=h.own
 have hl:=h.len
 refine be vR ⟨rfl,?_⟩
 refine v2 fU.eq_1 (ae h1) ?_
 obtain⟨a1,b1,e1⟩:=cO (bj L x false)
 obtain⟨a2,b2,e2⟩:=cO (bj L x true)
 refine⟨.tuple [i64 a1,.bool b1].toArray,(oM h.bW x).mono (by rintro v H' ⟨rfl,rfl⟩;exact⟨e1,rfl⟩),?_⟩
 refine vs ?_
 refine⟨_,cB H _ a1 b1 e1,?_⟩
 refine v1 (ae h1) ?_
 refine(cA h.bW x).mono ?_
 rintro _ H' ⟨rfl,e⟩
 obtain rfl:=e.symm
 rw[e2]
 refine vs ?_
 refine(cB H _ a2 b2 e2).mono ?_
 rintro _ H' ⟨rfl,e⟩
 obtain rfl:=e.symm
 refine vs ?_
 refine(eD h (hk false)).mono ?_
 rintro _ H' ⟨rfl,e⟩
 obtain rfl:=e.symm
 refine vs ?_
 refine(eD h (hk true)).mono ?_
 rintro _ H' ⟨rfl,e⟩
 obtain rfl:=e.symm
 refine vs ?_
 refine ak.dec (fun g=>?_) (fun g=>?_)<;>refine vs ?_
 ·refine v1 (ae h1) ?_
  refine(oN h.bW (p:=x) (by omega)).mono ?_
  rintro _ H1 ⟨rfl,L1,t1,l1,k1,u1,e1⟩
  have m1:=h.dL t1 e1 l1
  obtain⟨D2,o1,_⟩:=m1.own
  refine v1 (ae o1) ?_
  refine⟨_,eD m1 (hk false),?_⟩
  refine vs ?_
  refine⟨⟨by omega,by omega⟩,?_⟩
  refine v3 m1.D1 al6 ama ?_
  refine⟨by rw[amu];omega,?_⟩
  obtain⟨m2,e2⟩:=m1.Ny x.toNat (IntKind.i64.wrap (YD rs (bj L x false)+1))
  refine vs ?_
  exact⟨L1,_,m2,.inr k1,u1,(e1.mono fun z _ hz=>.inl hz).trans (e2.mono fun z _ hz=>.inr hz)⟩
 ·refine v1 (ae h1) ?_
  refine⟨_,eD h (hk true),?_⟩
  refine vs ?_
  refine⟨⟨by omega,by omega⟩,?_⟩
  refine v3 h.D1 al6 ama ?_
  refine⟨by rw[amu];omega,?_⟩
  obtain⟨m2,e2⟩:=h.Ny x.toNat (IntKind.i64.wrap (YD rs (bj L x true)+1))
  refine vs ?_
  exact⟨L,_,m2,.inl rfl,rfl,e2.mono fun z _ hz=>.inr hz⟩
abbrev Cv(w:Nw)(L:List Lk):Prop:=Bt (aH w) (aV w) (bj L) (bu L)
theorem Cv.sH{w:Nw}{L:List Lk}(h:Cv w L){x:Int}{c:Bool}(hk:bj L x c≠ -1):0≤bj L x c∧bj L x c<w.cs.length:=by
 obtain⟨_,_,h1,h2,_⟩:=Bt.home h hk
 obtain⟨a,b,_⟩:=aF (w:=w) (x:=bj L x c) (by omega)
 omega
theorem Cv.up{w:Nw}{L:List Lk}(h:Cv w L){x:Int}(hu:bu L x≠ -1):0≤bu L x∧bu L x<w.cs.length∧aV w (bu L x) x=true∧aH w (bu L x)=aH w x:=by
 obtain⟨_,_,h1,h2,h3⟩:=h.uk x _ rfl hu
 obtain⟨a,b,_⟩:=aF (w:=w) (x:=bu L x) (by omega)
 exact⟨by omega,by omega,h3,h1⟩
theorem lZ(h:c7 H B C w L rs tops)(hb:Cv w L){x:Int}(hx:x≠ -1→0<aH w x):
  ah Tryz.prog yF [ptr B.n,i64 x] H fun v H'=>ay (∃L' Ud,c7 H' B C w L' Ud tops∧Cv w L'∧bu L'=bu L∧ai (fun z=>z=B.tl∨z=B.rk) H H'):=by
 refine be zh ⟨rfl,?_⟩
 refine v1 iV.eq_1 ?_
 refine bA.intro (fun m env H'=>∃ (x:Int) (L':List Lk) (Ud:List Int),m=(if x= -1 then 0 else MZ (aV w) w.cs.length x+1)∧(x≠ -1→0<aH w x)∧c7 H' B C w L' Ud tops∧Cv w L'∧bu L'=bu L∧ai (fun z=>z=B.tl∨z=B.rk) H H'∧
  env=[(0,ptr B.n),(1,i64 x)]) _ ⟨x,L,rs,rfl,hx,h,hb,rfl,ai.refl _ _,rfl⟩ ?_
 rintro m env H1 ⟨y,L1,rs1,rfl,hy,m1,b1,u1,e1,rfl⟩
 refine vs ?_
 refine ak.dec (fun g=>?_) (fun g=>?_)<;>refine vs ?_
 ·exact⟨L1,rs1,m1,b1,u1,e1⟩
 obtain⟨y0,y1,_⟩:=aF (hy g)
 obtain⟨tv,o1,_⟩:=m1.own
 have vw:=m1.len
 obtain⟨r,hr⟩:∃r,(rs1.map i64)[y.toNat]? =some (i64 r):=⟨rs1[y.toNat]'(by omega),by rw[amo,al5 (by omega)];rfl⟩
 refine v1 (ae o1) ?_
 refine⟨⟨by omega,by omega⟩,?_⟩
 refine v4 (ae m1.D1) al6 ama hr ?_
 refine(jb m1 ⟨y0,y1⟩ (fun c hk=>b1.sH hk)).mono ?_
 rintro v2 H2 ⟨L2,YE,m2,k2,u2,e2⟩
 have b2:Cv w L2:=by
  rcases k2 with k2|k2
  ·show Bt _ _ _ _
   rw[k2,u2];exact b1
  ·show Bt _ _ _ _
   rw[k2,u2];exact Bt.yi b1 y
 obtain⟨Nz,o2,_⟩:=m2.own
 have wh:=m2.len
 have sJ:=e1.trans e2
 obtain⟨r2,Bu⟩:∃r,(YE.map i64)[y.toNat]? =some (i64 r):=⟨YE[y.toNat]'(by omega),by rw[amo,al5 (by omega)];rfl⟩
 refine v1 (ae o2) ?_
 refine⟨⟨by omega,by omega⟩,?_⟩
 refine v4 (ae m2.D1) al6 ama Bu ?_
 refine ak.dec (fun g2=>?_) (fun g2=>?_)<;>refine vs ?_
 ·exact⟨L2,YE,m2,b2,u2.trans u1,sJ⟩
 refine v1 (ae o2) ?_
 refine(si m2.bW y).mono ?_
 rintro _ H' ⟨rfl,e⟩
 obtain rfl:=e.symm
 obtain⟨a1,c1,ea⟩:=cO (bu L2 y)
 rw[ea]
 refine vs ?_
 refine(cB H2 _ a1 c1 ea).mono ?_
 rintro _ H' ⟨rfl,e⟩
 obtain rfl:=e.symm
 refine vs ?_
 refine⟨_,?_,bu L2 y,L2,YE,rfl,fun hu=>?_,m2,b2,u2.trans u1,sJ,rfl⟩
 ·rw[if_neg g]
  split
  ·omega
  ·rename_i hu
   have:=b2.up hu
   have:=FX (aq w) (n:=w.cs.length) (p:=bu L2 y) (x:=y) (by omega) this.2.2.1
   omega
 ·have:=b2.up hu
  rw[this.2.2.2]
  exact hy g
end
end Go.Proofs.YtjlnnljohemifaaGreat

namespace Go.Proofs.YtjlnnljohemifaaGreat
open Go Go.Vc
theorem Sl.shape{H:Hp}{w:Value}{n:Nat}{xs:List Value}{fp:Option Nat}(h:Sl H 1 w n xs fp):∃a c,w= .slice a n c:=by
 obtain⟨h1,h2⟩:=h
 cases fp with
 |none=>obtain⟨rfl,rfl⟩:=h2;exact⟨none,0,rfl⟩
 |some b=>obtain⟨l,c,rfl,_⟩:=h2;exact⟨_,c,rfl⟩
theorem Sl.A6{H:Hp}{a:Option Addr}{n c:Nat}{xs:List Int}{fp:Option Nat}(h:Sl H 1 (.slice a n c) n (xs.map i64) fp){i:Nat}{x:Int}(hx:xs[i]? =some x):
  i<n∧∃b lb,a=some ⟨b,0,none⟩∧H.own b=some lb∧lb[i]? =some (i64 x):=by
 cases fp with
 |none=>
  have h1:=h.1
  have h2:=h.2.1
  have:=(al7.1 hx).1
  rw[amu]at h1
  omega
 |some b=>
  obtain⟨h1,h2,lb,h3,h4⟩:=Sl.num h hx
  exact⟨h1,b,lb,h2,h3,h4⟩
section
variable {H : Hp} {B : LB} {C : Nat → Prop} {w : Nw} {L : List Lk} {rs tops : List Int}
set_option maxRecDepth 100000 in
set_option maxHeartbeats 4000000 in
theorem j7(h:c7 H B C w L rs tops){g a0 b0:Int}{R:Int→Prop}(m:Mg (aH w) (aV w) g R (bj L) (bu L) [] a0 b0):
  ah Tryz.prog wH [ptr B.n,i64 a0,i64 b0] H fun v H'=>ay (∃r L' Ud,v=i64 r∧c7 H' B C w L' Ud tops∧Mg (aH w) (aV w) g R (bj L') (bu L') [] r (-1)∧
   (∀x0,yj (aV w) (bj L) (bu L) x0 (bj L) (bu L) [] a0 b0→yj (aV w) (bj L) (bu L) x0 (bj L') (bu L') [] r (-1))∧ai (fun z=>C z∨z=B.tl∨z=B.rk) H H'):=by
 refine be w8 ⟨rfl,?_⟩
 refine v1 gU.eq_1 ?_
 have zp:=h.cells.Fu
 refine bA.intro (fun mm env H'=>∃ (a b:Int) (dP:List Int) (wv:Value) (fp:Option Nat) (L':List Lk),mm=w.cs.length - dP.length∧c7 H' B C w L' rs tops∧Mg (aH w) (aV w) g R (bj L') (bu L') dP a b∧
  (∀x0,yj (aV w) (bj L) (bu L) x0 (bj L) (bu L) [] a0 b0→yj (aV w) (bj L) (bu L) x0 (bj L') (bu L') dP a b)∧
  (∀z,fp=some z→H.size≤z)∧Sl H' 1 wv dP.length (dP.map i64) fp∧ai (fun z=>C z∨z=B.tl∨z=B.rk∨H.size≤z) H H'∧
  env=[(0,ptr B.n),(1,i64 a),(2,i64 b),(7,wv)]) _ ⟨a0,b0,[],_,none,L,rfl,h,m,(fun _ h=>h),(fun z h=>by cases h),Sl.nil _ _,ai.refl _ _,rfl⟩ ?_
 rintro mm env H1 ⟨a,b,dP,wv,fp,L1,rfl,l1,m1,f1,mr,s1,e1,rfl⟩
 have z1:=e1.size
 clear m
 refine vs ?_
 refine ak.dec (fun ga=>?A) (fun ga=>?_)<;>refine vs ?_
 rotate_left
 refine ak.dec (fun gb=>?B) (fun gb=>?_)<;>refine vs ?_
 rotate_left
 ·obtain⟨D2,o1,_⟩:=l1.own
  refine v1 (ae o1) ?_
  refine(cJ l1.cells b a).mono ?_
  rintro _ H2 ⟨rfl,c2,e2⟩
  have l2:=l1.aK c2 e2 rfl
  have s2:=s1.ext e2 (fun z hz ez=>by have:=mr z hz;have:=h.slt z (.inl ez);omega)
  have z2:=e2.size
  have ha:=m1.wa.resolve_left ga
  have hb:=m1.wb.resolve_left gb
  have zQ:=jn (w:=w) (a:=b) (b:=a) (by rw[hb.1];exact m1.pos) (by rw[ha.1];exact m1.pos)
  have aT:a≠b:=fun e=>ga (m1.ab e)
  rw[zQ]
  cases aR:aV w b a
  ·refine vs ?_
   have hl:aV w a b=true:=((aq w).OI a b aT).resolve_right (by rw[aR];simp)
   have mm:Mg (aH w) (aV w) g R (bj L1) (bu L1) dP a b:=m1
   have Pu:0<aH w a:=by rw[(mm.wa.resolve_left ga).1];exact mm.pos
   obtain⟨p0,p1,_⟩:=aF Pu
   have m3:=mm.Ry (aq w) ga gb hl
   have wl:(dP++[a]).length≤w.cs.length:=bY (m3.nodup (aq w)) fun x hx=>by
    have GM:=(m3.wy x hx).2.1
    have wu:=m3.pos
    obtain⟨x0,x1,_⟩:=aF (w:=w) (x:=x) (by omega)
    exact⟨x0,x1⟩
   rw[amh,amx]at wl
   refine EK (B:=H.size) mr (by omega) s2 a (by omega) fun w' H3 fL oO s3 e3=>?_
   refine vs ?_
   have l3:=l2.ext e3 (fun z hz ez=>by have:=h.slt z hz;omega)
   obtain⟨YF,o3,_⟩:=l3.own
   refine v1 (ae o3) ?_
   refine(cA l3.bW a).mono ?_
   rintro _ H' ⟨rfl,e⟩
   obtain rfl:=e.symm
   obtain⟨k1,k2,ek⟩:=cO (bj L1 a true)
   rw[ek]
   refine vs ?_
   refine(cB H3 _ k1 k2 ek).mono ?_
   rintro _ H' ⟨rfl,e⟩
   obtain rfl:=e.symm
   refine v1 (ae o3) ?_
   refine(cN l3.bW (x:=bj L1 a true) (fun hu=>by have:=Cv.up mm.bt hu;rw[l3.len.1];omega)).mono ?_
   rintro _ H4 ⟨rfl,L4,t4,Wv,Vj,Vk,e4⟩
   have l4:=l3.dL t4 e4 Wv
   have s4:=s3.ext e4 (fun z hz ez=>by have:=oO z hz;have:=h.slt B.tl (.inr (.inr (.inr (.inl rfl))));omega)
   obtain⟨k3,k4,ek2⟩:=cO (bu L1 (bj L1 a true))
   rw[ek2]
   refine vs ?_
   refine⟨w.cs.length - (dP.length+1),by omega,bj L1 a true,b,dP++[a],w',fL,L4,by simp,l4,?_,?_,oO,s4,((e1.trans (e2.mono fun z _ hz=>.inl hz)).trans (e3.mono fun z _ hz=>.inr (.inr (.inr hz)))).trans (e4.mono fun z _ hz=>.inr (.inl hz)),rfl⟩
   ·rw[Vj,Vk]
    exact m3
   ·rw[Vj,Vk]
    exact fun x0 h0=>(f1 x0 h0).down (aq w) m1.bt ga
  ·refine vs ?_
   have hl:aV w b a=true:=aR
   have mm:Mg (aH w) (aV w) g R (bj L1) (bu L1) dP b a:=m1.swap
   have Pu:0<aH w b:=by rw[(mm.wa.resolve_left gb).1];exact mm.pos
   obtain⟨p0,p1,_⟩:=aF Pu
   have m3:=mm.Ry (aq w) gb ga hl
   have wl:(dP++[b]).length≤w.cs.length:=bY (m3.nodup (aq w)) fun x hx=>by
    have GM:=(m3.wy x hx).2.1
    have wu:=m3.pos
    obtain⟨x0,x1,_⟩:=aF (w:=w) (x:=x) (by omega)
    exact⟨x0,x1⟩
   rw[amh,amx]at wl
   refine EK (B:=H.size) mr (by omega) s2 b (by omega) fun w' H3 fL oO s3 e3=>?_
   refine vs ?_
   have l3:=l2.ext e3 (fun z hz ez=>by have:=h.slt z hz;omega)
   obtain⟨YF,o3,_⟩:=l3.own
   refine v1 (ae o3) ?_
   refine(cA l3.bW b).mono ?_
   rintro _ H' ⟨rfl,e⟩
   obtain rfl:=e.symm
   obtain⟨k1,k2,ek⟩:=cO (bj L1 b true)
   rw[ek]
   refine vs ?_
   refine(cB H3 _ k1 k2 ek).mono ?_
   rintro _ H' ⟨rfl,e⟩
   obtain rfl:=e.symm
   refine v1 (ae o3) ?_
   refine(cN l3.bW (x:=bj L1 b true) (fun hu=>by have:=Cv.up mm.bt hu;rw[l3.len.1];omega)).mono ?_
   rintro _ H4 ⟨rfl,L4,t4,Wv,Vj,Vk,e4⟩
   have l4:=l3.dL t4 e4 Wv
   have s4:=s3.ext e4 (fun z hz ez=>by have:=oO z hz;have:=h.slt B.tl (.inr (.inr (.inr (.inl rfl))));omega)
   obtain⟨k3,k4,ek2⟩:=cO (bu L1 (bj L1 b true))
   rw[ek2]
   refine vs ?_
   refine⟨w.cs.length - (dP.length+1),by omega,bj L1 b true,a,dP++[b],w',fL,L4,by simp,l4,?_,?_,oO,s4,((e1.trans (e2.mono fun z _ hz=>.inl hz)).trans (e3.mono fun z _ hz=>.inr (.inr (.inr hz)))).trans (e4.mono fun z _ hz=>.inr (.inl hz)),rfl⟩
   ·rw[Vj,Vk]
    exact m3
   ·rw[Vj,Vk]
    exact fun x0 h0=>(f1 x0 h0).swap.down (aq w) m1.bt gb
 case' A=>
  have m2:Mg (aH w) (aV w) g R (bj L1) (bu L1) dP b (-1):=ga▸m1.swap
  have f2:=fun x0 (h0:yj (aV w) (bj L) (bu L) x0 (bj L) (bu L) [] a0 b0)=>(f1 x0 h0).swap
  rw[ga]at f2
  generalize hr:b=r at m2 f2
  refine ak.cE (by simpa using ga) ?_
 case' B=>
  have m2:Mg (aH w) (aV w) g R (bj L1) (bu L1) dP a (-1):=gb▸m1
  have f2:=f1
  rw[gb]at f2
  generalize hr:a=r at m2 f2
  refine ak.dec (fun h=>absurd (hr.trans h) ga) (fun _=>?_)
 all_goals
  refine vs ?_
  obtain⟨wa,wc,rfl⟩:=Sl.shape s1
  refine vs ?_
  have wl:dP.length≤w.cs.length:=bY (m2.nodup (aq w)) fun x hx=>by
   have GM:=(m2.wy x hx).2.1
   have wu:=m2.pos
   obtain⟨x0,x1,_⟩:=aF (w:=w) (x:=x) (by omega)
   exact⟨x0,x1⟩
  refine bA.intro (fun mm env H'=>∃ (i:Nat) (r:Int) (L':List Lk) (Ud:List Int),mm=i∧i≤dP.length∧c7 H' B C w L' Ud tops∧Mg (aH w) (aV w) g R (bj L') (bu L') (dP.take i) r (-1)∧
   (∀x0,yj (aV w) (bj L) (bu L) x0 (bj L) (bu L) [] a0 b0→yj (aV w) (bj L) (bu L) x0 (bj L') (bu L') (dP.take i) r (-1))∧
   Sl H' 1 (.slice wa dP.length wc) dP.length (dP.map i64) fp∧ai (fun z=>C z∨z=B.tl∨z=B.rk∨H.size≤z) H H'∧
   env=[(0,ptr B.n),(7,.slice wa dP.length wc),(9,i64 r),(10,i64 ((i:Int) - 1))]) _ ⟨dP.length,r,L1,rs,rfl,ami _,l1,by rw[amB];exact m2,by rw[amB];exact f2,s1,e1,?_⟩ ?_
  ·rw[wrap64 (by omega) (by omega)]
  rintro mm env H2 ⟨i,r2,L2,YE,hmi,hi,l2,m3,f3,s2,e2,rfl⟩
  obtain rfl:=hmi.symm
  refine vs ?_
  refine ak.dec (fun gi=>?_) (fun gi=>?_)<;>refine vs ?_
  rotate_left
  ·obtain rfl:i=0:=by omega
   exact⟨r2,L2,YE,rfl,l2,by simpa using m3,by simpa using f3,e2.mono fun z hz h=>h.elim .inl fun h=>.inr (by omega)⟩
  obtain⟨j,rfl⟩:∃j,i=j+1:=⟨i - 1,by omega⟩
  obtain⟨v,hv⟩:∃v,dP[j]? =some v:=⟨_,al5 (by omega)⟩
  have tk:dP.take (j+1)=dP.take j++[v]:=by rw[amG,hv];rfl
  rw[tk]at m3 f3
  have m4:=m3.back (aq w)
  have f4:=fun x0 h0=>(f3 x0 h0).back
  obtain⟨v1,v2,v3,v4,v5,v6⟩:=m3.wy v (by simp)
  obtain⟨q1,vb,lb,rfl,q2,q3⟩:=Sl.A6 s2 hv
  have hvb:∃b',fp=some b'∧b'=vb:=by
   cases fp with
   |none=>have:=s2.2.2;injection this with h1;cases h1
   |some b'=>obtain⟨_,_,h1,_⟩:=s2.2;injection h1 with h1;injection h1 with h1;injection h1 with h1;exact⟨b',rfl,h1.symm⟩
  obtain⟨b',rfl,rfl⟩:=hvb
  have hvb:=mr b' rfl
  have Vl:0<aH w v:=by rw[v2];exact m3.pos
  obtain⟨Ww,vv1,_⟩:=aF Vl
  have ji:((((j+1:Nat):Int) - 1)).toNat=j:=by omega
  obtain⟨Nz,o2,_⟩:=l2.own
  refine ak.dec (fun gr=>?_) (fun gr=>?_)<;>refine vs ?_
  ·rw[if_pos gr,if_pos gr]at m4
   simp only[if_pos gr]at f4
   have f5:=f4
   have l3:=l2
   have m5:=m4
   have o3b:=q2
   have s3:=s2
   have e3:=e2
   refine⟨⟨by omega,by omega⟩,?_⟩
   simp(disch:=(first|omega| (simp only[Zs]<;>omega)|fail)) only[go_sem, ↓reduceIte,Zv,ae o3b,al6,ama,ji,q3]
   refine(jb l3 ⟨Ww,vv1⟩ (fun c hk=>Cv.sH m5.bt hk)).mono ?_
   rintro _ H4 ⟨L4,Vm,l4,k4,u4,e4⟩
   refine vs ?_
   refine⟨j,by omega,j,v,L4,Vm,rfl,by omega,l4,?_,?_,s3.ext e4 (fun z hz ez=>by injection hz with hz;have:=h.slt B.tl (.inr (.inr (.inr (.inl rfl))));have:=h.slt B.rk (.inr (.inr (.inr (.inr (.inl rfl)))));omega),e3.trans (e4.mono fun z _ hz=>.inr (hz.elim .inl fun h=>.inr (.inl h))),?_⟩
   ·rcases k4 with k4|k4
    ·rw[k4,u4];exact m5
    ·rw[k4,u4];exact m5.yi (aq w)
   ·rcases k4 with k4|k4
    ·rw[k4,u4];exact f5
    ·rw[k4,u4];exact fun x0 h0=>(f5 x0 h0).yi v1
   ·rw[show((j+1:Nat):Int) - 1 - 1=(j:Int) - 1 by omega,wrap64 (by omega) (by omega)]
  ·rw[if_neg gr,if_neg gr]at m4
   simp only[if_neg gr]at f4
   have Bu:=m3.wa.resolve_left gr
   obtain⟨r0,r1,_⟩:=aF (w:=w) (x:=r2) (by rw[Bu.1];exact m3.pos)
   have bm:=l2.len
   have hvr:v≠r2:=fun e=>by have:=v5 gr;rw[e,(aq w).xS]at this;cases this
   simp(disch:=(first|omega| (simp only[Zs]<;>omega)|fail)) only[go_sem, ↓reduceIte,Zv,ae o2]
   refine⟨⟨by omega,by omega⟩,?_⟩
   simp(disch:=(first|omega| (simp only[Zs]<;>omega)|fail)) only[go_sem, ↓reduceIte,Zv,ae q2,al6,ama,ji,q3]
   refine(fG l2.bW (p:=v) (x:=r2) (c:=true) ⟨Ww,by omega⟩ ⟨r0,by omega⟩ hvr Bu.2 v4).mono ?_
   rintro _ H3 ⟨rfl,L3,t3,ll3,kk3,uu3,HQ⟩
   have l3:=l2.dL t3 HQ ll3
   have m5:Mg (aH w) (aV w) g R (bj L3) (bu L3) (dP.take j) v (-1):=by rw[kk3,uu3];exact m4
   have f5:=f4
   rw[←kk3,←uu3]at f5
   have nb:b'≠B.tl:=fun e=>by have:=h.slt B.tl (.inr (.inr (.inr (.inl rfl))));omega
   have o3b:=HQ.own q2 nb
   have s3:=s2.ext HQ (fun z hz ez=>by injection hz with hz;exact nb (hz.trans ez))
   have e3:=e2.trans (HQ.mono fun z _ hz=>.inr (.inl hz))
   refine vs ?_
   refine⟨⟨by omega,by omega⟩,?_⟩
   simp(disch:=(first|omega| (simp only[Zs]<;>omega)|fail)) only[go_sem, ↓reduceIte,Zv,ae o3b,al6,ama,ji,q3]
   refine(jb l3 ⟨Ww,vv1⟩ (fun c hk=>Cv.sH m5.bt hk)).mono ?_
   rintro _ H4 ⟨L4,Vm,l4,k4,u4,e4⟩
   refine vs ?_
   refine⟨j,by omega,j,v,L4,Vm,rfl,by omega,l4,?_,?_,s3.ext e4 (fun z hz ez=>by injection hz with hz;have:=h.slt B.tl (.inr (.inr (.inr (.inl rfl))));have:=h.slt B.rk (.inr (.inr (.inr (.inr (.inl rfl)))));omega),e3.trans (e4.mono fun z _ hz=>.inr (hz.elim .inl fun h=>.inr (.inl h))),?_⟩
   ·rcases k4 with k4|k4
    ·rw[k4,u4];exact m5
    ·rw[k4,u4];exact m5.yi (aq w)
   ·rcases k4 with k4|k4
    ·rw[k4,u4];exact f5
    ·rw[k4,u4];exact fun x0 h0=>(f5 x0 h0).yi v1
   ·rw[show((j+1:Nat):Int) - 1 - 1=(j:Int) - 1 by omega,wrap64 (by omega) (by omega)]
end
end Go.Proofs.YtjlnnljohemifaaGreat

namespace Go.Proofs.YtjlnnljohemifaaGreat
open Go Go.Vc
inductive Rl where
 |no
 |Sa
 |cell
 |LQ
 |GV
 |table
 |row(g:Int)
 |sH(x:Int)
def xq(V:Int→Value)(x:Int)(v:Value):Int→Value:=fun z=>if z=x then v else V z
theorem Wx(V:Int→Value)(x:Int)(v:Value):xq V x v x=v:=by unfold xq;rw[if_pos rfl]
theorem Wy{V:Int→Value}{x z:Int}{v:Value}(h:z≠x):xq V x v z=V z:=by unfold xq;rw[if_neg h]
theorem Wz(U:Int→Int)(x v:Int):aI U x v x=v:=by unfold aI;rw[if_pos rfl]
theorem WA{U:Int→Int}{x z v:Int}(h:z≠x):aI U x v z=U z:=by unfold aI;rw[if_neg h]
structure qD(H:Hp)(fb tb n:Nat)(l:List Value)(V:Int→Value)(U:Int→Int):Prop where
 own:H.own fb=some [.slice (some ⟨tb,0,none⟩) n n]
 F0:H.own tb=some l
 len:l.length=n*2
 at_:∀x:Int,0≤x→x<n→l[x.toNat*2]? =some (V x)∧l[x.toNat*2+1]? =some (i64 (U x))
 ne:fb≠tb
section
variable {H H' : Hp} {fb tb n : Nat} {l : List Value} {V : Int → Value} {U : Int → Int} {T : Nat → Prop}
theorem qD.ext(h:qD H fb tb n l V U)(e:ai T H H')(h1:¬T fb)(h2:¬T tb):qD H' fb tb n l V U:=⟨e.own h.own h1,e.own h.F0 h2,h.len,h.at_,h.ne⟩
theorem qD.xq(h:qD H fb tb n l V U){x:Int}(hx:0≤x∧x<n)(v:Value):qD (H.wr tb (l.set (x.toNat*2) v)) fb tb n (l.set (x.toNat*2) v) (xq V x v) U∧ai (fun z=>z=tb) H (H.wr tb (l.set (x.toNat*2) v)):=by
 have e:ai (fun z=>z=tb) H (H.wr tb (l.set (x.toNat*2) v)):=(ai.refl (fun z=>z=tb) _).wr (fun _=>rfl) _
 have hl:=h.len
 refine⟨⟨e.own h.own h.ne,aj h.F0,by rw[al8];exact hl,fun z h0 h1=>?_,h.ne⟩,e⟩
 obtain⟨a1,a2⟩:=h.at_ z h0 h1
 refine⟨?_,by rw[amc (by omega)];exact a2⟩
 by_cases hz:z=x
 ·rw[hz,Wx,amd (by omega)]
 ·rw[Wy hz,amc (by omega)];exact a1
theorem qD.aI(h:qD H fb tb n l V U){x:Int}(hx:0≤x∧x<n)(u:Int):qD (H.wr tb (l.set (x.toNat*2+1) (i64 u))) fb tb n (l.set (x.toNat*2+1) (i64 u)) V (aI U x u)∧ai (fun z=>z=tb) H (H.wr tb (l.set (x.toNat*2+1) (i64 u))):=by
 have e:ai (fun z=>z=tb) H (H.wr tb (l.set (x.toNat*2+1) (i64 u))):=(ai.refl (fun z=>z=tb) _).wr (fun _=>rfl) _
 have hl:=h.len
 refine⟨⟨e.own h.own h.ne,aj h.F0,by rw[al8];exact hl,fun z h0 h1=>?_,h.ne⟩,e⟩
 obtain⟨a1,a2⟩:=h.at_ z h0 h1
 refine⟨by rw[amc (by omega)];exact a1,?_⟩
 by_cases hz:z=x
 ·rw[hz,Wz,amd (by omega)]
 ·rw[WA hz,amc (by omega)];exact a2
theorem qD.Sb(h:qD H fb tb n l V U):fb<H.size∧tb<H.size:=⟨aO h.own,aO h.F0⟩
end
structure ForM(H:Hp)(ro:Nat→Rl)(fb tb n:Nat)(l:List Value)(V:Int→Value)(ch:Int→List Int)(par:Int→Int)(kb:Int→Option Nat):Prop where
 t:qD H fb tb n l V par
 kd:∀x:Int,0≤x→x<n→Sl H 1 (V x) (ch x).length ((ch x).map i64) (kb x)
 rf:ro fb= .GV
 rt:ro tb= .table
 rk:∀ (x:Int) b,0≤x→x<n→kb x=some b→ro b= .sH x
 HR:∀x c,c∈ch x→0≤c∧c<n
 no:∀x:Int,¬ (0≤x∧x<n)→ch x=[]
structure RK(s:Nat)(ro ro':Nat→Rl):Prop where
 o:∀z,z<s→(∀x,ro z≠ .sH x)→ro' z=ro z
 k:∀z x,z<s→ro z= .sH x→∃y,ro' z= .sH y
 n:∀z,s≤z→ro' z= .no∨∃y,ro' z= .sH y
theorem RK.refl{s:Nat}{ro:Nat→Rl}(h:∀z,s≤z→ro z= .no):RK s ro ro:=⟨fun _ _ _=>rfl,fun z x _ h=>⟨x,h⟩,fun z hz=>.inl (h z hz)⟩
theorem RK.trans{s s':Nat}{r1 r2 r3:Nat→Rl}(h:RK s r1 r2)(h':RK s' r2 r3)(hs:s≤s'):RK s r1 r3:=by
 refine⟨fun z hz hk=>?_,fun z x hz hx=>?_,fun z hz=>?_⟩
 ·have h1:=h.o z hz hk
  rw[h'.o z (by omega) (fun x=>by rw[h1];exact hk x),h1]
 ·obtain⟨y,hy⟩:=h.k z x hz hx
  exact h'.k z y (by omega) hy
 ·by_cases h1:z<s'
  ·rcases h.n z hz with h2| ⟨y,h2⟩
   ·rw[h'.o z h1 (fun x=>by rw[h2];intro e;cases e)]
    exact .inl h2
   ·exact .inr (h'.k z y h1 h2)
  ·exact h'.n z (by omega)
def KB(ro:Nat→Rl)(z:Nat):Prop:=ro z= .table∨∃x,ro z= .sH x
section
variable {H H' : Hp} {ro ro' : Nat → Rl} {fb tb n : Nat} {l : List Value} {V : Int → Value} {ch : Int → List Int} {par : Int → Int} {kb : Int → Option Nat} {T : Nat → Prop}
theorem ForM.ext(m:ForM H ro fb tb n l V ch par kb)(e:ai T H H')(hd:∀z,(ro z= .GV∨KB ro z)→¬T z):ForM H' ro fb tb n l V ch par kb:=
 ⟨m.t.ext e (hd _ (.inl m.rf)) (hd _ (.inr (.inl m.rt))),fun x h0 h1=>(m.kd x h0 h1).ext e (fun b hb=>hd _ (.inr (.inr ⟨x,m.rk x b h0 h1 hb⟩))),m.rf,m.rt,m.rk,m.HR,m.no⟩
theorem ForM.fresh(m:ForM H ro fb tb n l V ch par kb)(e:ax H H'):ForM H' ro fb tb n l V ch par kb:=m.ext e fun _ _ h=>h
theorem ForM.shape(m:ForM H ro fb tb n l V ch par kb){x:Int}(hx:0≤x∧x<n):∃a c,V x= .slice a (ch x).length c:=Sl.shape (m.kd x hx.1 hx.2)
theorem qE(t:qD H fb tb n l V par)(x:Int):ah Tryz.prog Ah [ptr fb,i64 x] H fun v H'=>ay (v= .bool (decide (0≤x∧x<n))∧H'=H):=by
 refine be AM ⟨rfl,?_⟩
 refine v1 jQ.eq_1 ?_
 refine ak.dec (fun h0=>?_) (fun h0=>?_)<;>refine v1 (ae t.own) ?_
 ·refine⟨?_,rfl⟩
  rw[show(decide (0≤x∧x< (n:Int)))=decide (x< (n:Int)) by simp[h0]]
  rfl
 ·refine⟨?_,rfl⟩
  rw[amm (fun h=>h0 h.1)]
  rfl
theorem jw(t:qD H fb tb n l V par)(x:Int):ah Tryz.prog yy [ptr fb,i64 x] H fun v H'=>ay (v= .bool (decide (0≤x∧x<n) && decide (par x= -1))∧H'=H):=by
 refine be yY ⟨rfl,?_⟩
 refine v1 iN.eq_1 ?_
 refine(qE t x).mono ?_
 rintro _ H' ⟨rfl,e⟩
 obtain rfl:=e.symm
 by_cases hx:0≤x∧x<n
 ·rw[amj hx]
  have hl:=t.len
  obtain⟨a1,a2⟩:=t.at_ x hx.1 hx.2
  refine v1 (ae t.own) ?_
  refine⟨⟨by omega,by omega⟩,?_⟩
  refine v3 (ae t.F0) al6 a2 ?_
  exact⟨rfl,rfl⟩
 ·rw[amm hx]
  refine vs ?_
  exact⟨rfl,rfl⟩
theorem df(m:ForM H ro fb tb n l V ch par kb)(x:Int):ah Tryz.prog vz [ptr fb,i64 x] H fun v H'=>ay (v=i64 (ch x).length∧H'=H):=by
 refine be vJ ⟨rfl,?_⟩
 refine v1 fP.eq_1 ?_
 refine(qE m.t x).mono ?_
 rintro _ H' ⟨rfl,e⟩
 obtain rfl:=e.symm
 by_cases hx:0≤x∧x<n
 ·rw[amj hx]
  have hl:=m.t.len
  obtain⟨a1,a2⟩:=m.t.at_ x hx.1 hx.2
  obtain⟨a,c,hv⟩:=m.shape hx
  rw[hv]at a1
  refine v1 (ae m.t.own) ?_
  refine⟨⟨by omega,by omega⟩,?_⟩
  refine v4 (ae m.t.F0) al6 Nat.add_zero a1 ?_
  exact⟨rfl,rfl⟩
 ·rw[amm hx,m.no x hx]
  refine vs ?_
  exact⟨rfl,rfl⟩
theorem sj(t:qD H fb tb n l V par){x:Int}(hx:0≤x∧x<n):ah Tryz.prog BO [ptr fb,i64 x] H fun v H'=>ay (((par x= -1∧v= .tuple [i64 0,.bool false].toArray)∨(par x≠ -1∧v= .tuple [i64 (par x),.bool true].toArray))∧H'=H):=by
 refine be B9 ⟨rfl,?_⟩
 refine v1 lD.eq_1 ?_
 refine(qE t x).mono ?_
 rintro _ H' ⟨rfl,e⟩
 obtain rfl:=e.symm
 rw[amj hx]
 have hl:=t.len
 obtain⟨a1,a2⟩:=t.at_ x hx.1 hx.2
 refine v1 (ae t.own) ?_
 refine⟨⟨by omega,by omega⟩,?_⟩
 refine v3 (ae t.F0) al6 a2 ?_
 refine ak.dec (fun h0=>?_) (fun h0=>?_)<;>refine vs ?_
 ·exact⟨.inl ⟨h0,rfl⟩,rfl⟩
 refine v1 (ae t.own) ?_
 refine⟨⟨by omega,by omega⟩,?_⟩
 refine v3 (ae t.F0) al6 a2 ?_
 exact⟨.inr ⟨h0,rfl⟩,rfl⟩
theorem Sc{H:Hp}{T:TypeId}{w:Value}{xs:List Int}{fp:Option Nat}{K:Value→Hp→Prop}(s:Sl H 1 w xs.length (xs.map i64) fp)(x:Int)(hl:xs.length≤1000000000000)
  (hk:∀w' H' fL,(fL=fp∨∃b,fL=some b∧H.size≤b∧b<H'.size)→Sl H' 1 w' (xs++[x]).length ((xs++[x]).map i64) fL→ai (fun z=>fp=some z) H H'→K w' H'):
  lR T 1 8 [i64 0] w (.slice (some ⟨H.size,0,none⟩) 1 1) (H.new T [i64 x]) K:=by
 have fl:ax H (H.new T [i64 x]):=(ai.refl _ _).new _ _
 refine Sl.append (s.ext fl (fun _ _ h=>h)) (Sl.dE (size:=1) (n:=1) (xs:=[i64 x]) rfl rfl).rd rfl (FZ [x]) (by omega) ?_
 intro v' H' fL s' e' Q1
 refine hk v' H' fL (Q1.imp_right fun⟨b,h1,h2,h3⟩=>⟨b,h1,by rw[au]at h2;omega,h3⟩) (by rw[amh,amU];exact s') ⟨amM fl.size e'.size,fun z hz hn=>?_⟩
 rw[e'.aN z (amv hz fl.size) hn,fl.aN z hz (fun h=>h)]
theorem ForM.put(m:ForM H ro fb tb n l V ch par kb)(hz:∀z,H.size≤z→ro z= .no){a:Int}(ha:0≤a∧a<n){H2:Hp}(e:ai (fun z=>kb a=some z) H H2){w':Value}{L':List Int}{fL:Option Nat}(s:Sl H2 1 w' L'.length (L'.map i64) fL)
  (hf:fL=kb a∨fL=none∨∃b,fL=some b∧H.size≤b∧b<H2.size)(hL:∀c∈L',0≤c∧c<n):
  ∃ro' vY,ForM (H2.wr tb (l.set (a.toNat*2) w')) ro' fb tb n (l.set (a.toNat*2) w') (xq V a w') (aA ch a L') par vY∧RK H.size ro ro'∧(∀z,(H2.wr tb (l.set (a.toNat*2) w')).size≤z→ro' z= .no)∧ai (KB ro) H (H2.wr tb (l.set (a.toNat*2) w')):=by
 have Vn:∀z,kb a=some z→ro z= .sH a:=fun z h=>m.rk a z ha.1 ha.2 h
 have hfb:¬kb a=some fb:=fun h=>by have:=Vn _ h;rw[m.rf]at this;cases this
 have Vg:¬kb a=some tb:=fun h=>by have:=Vn _ h;rw[m.rt]at this;cases this
 obtain⟨z1,z2⟩:=m.t.Sb
 have t2:=m.t.ext e hfb Vg
 obtain⟨t3,e3⟩:=t2.xq ha w'
 have hs:=e.size
 have PE:(H2.wr tb (l.set (a.toNat*2) w')).size=H2.size:=gm _ _ _
 have hr:∃ro':Nat→Rl,(∀b,fL=some b→ro' b= .sH a)∧(∀z,z<H.size→ro' z=ro z)∧RK H.size ro ro'∧∀z,H2.size≤z→ro' z= .no:=by
  rcases hf with h|h| ⟨b,h,PS,GN⟩
  ·exact⟨ro,fun b hb=>Vn b (by rw[←h];exact hb),fun _ _=>rfl,RK.refl hz,fun z ez=>hz z (by omega)⟩
  ·refine⟨ro,fun b hb=>?_,fun _ _=>rfl,RK.refl hz,fun z ez=>hz z (by omega)⟩
   rw[h]at hb
   cases hb
  ·refine⟨fun z=>if z=b then .sH a else ro z,fun b' wx=>?_,fun z ez=>?_,⟨fun z ez _=>?_,fun z x ez hx=>⟨x,?_⟩,fun z ez=>?_⟩,fun z ez=>?_⟩
   ·rw[h]at wx
    injection wx with wx
    simp[wx]
   ·show(if z=b then Rl.sH a else ro z)=_
    rw[if_neg (by omega)]
   ·show(if z=b then Rl.sH a else ro z)=_
    rw[if_neg (by omega)]
   ·show(if z=b then Rl.sH a else ro z)=_
    rw[if_neg (by omega)];exact hx
   ·show(if z=b then Rl.sH a else ro z)=_∨∃y,(if z=b then Rl.sH a else ro z)=_
    split
    ·exact .inr ⟨a,rfl⟩
    ·exact .inl (hz z ez)
   ·show(if z=b then Rl.sH a else ro z)=_
    rw[if_neg (by omega)];exact hz z (by omega)
 obtain⟨ro',r1,r2,r3,r4⟩:=hr
 have hfl:∀b,fL=some b→b≠tb:=fun b hb e=>by
  have:=r1 b hb
  rw[e,r2 tb (by omega),m.rt]at this
  cases this
 refine⟨ro',fun z=>if z=a then fL else kb z,⟨t3,fun x h0 h1=>?_,by rw[r2 _ z1];exact m.rf,by rw[r2 _ z2];exact m.rt,fun x b h0 h1 hb=>?_,fun x c hc=>?_,fun x hx=>?_⟩,r3,fun z ez=>r4 z (by omega),(e.mono fun z _ h=>.inr ⟨a,Vn z h⟩).trans (e3.mono fun z _ h=>.inl (by rw[h];exact m.rt))⟩
 ·unfold xq aA
  by_cases hxa:x=a
  ·simp only[hxa,if_true]
   exact s.ext e3 (fun b hb=>hfl b hb)
  ·simp only[if_neg hxa]
   refine((m.kd x h0 h1).ext e (fun b hb GN=>?_)).ext e3 (fun b hb e=>?_)
   ·have h5:=m.rk x b h0 h1 hb
    rw[Vn b GN]at h5
    injection h5 with h5
    exact hxa h5.symm
   ·have h5:=m.rk x b h0 h1 hb
    rw[e,m.rt]at h5
    cases h5
 ·split at hb
  ·rename_i e;rw[e];exact r1 b hb
  ·have h5:=m.rk x b h0 h1 hb
   have h6:=Sl.lt (b:=b) (by have:=m.kd x h0 h1;rw[hb]at this;exact this)
   rw[r2 b h6];exact h5
 ·unfold aA at hc
  split at hc
  ·exact hL c hc
  ·exact m.HR x c hc
 ·unfold aA
  rw[if_neg (fun e=>hx (by rw[e];exact ha))]
  exact m.no x hx
theorem ForM.aI(m:ForM H ro fb tb n l V ch par kb){x:Int}(hx:0≤x∧x<n)(u:Int):ForM (H.wr tb (l.set (x.toNat*2+1) (i64 u))) ro fb tb n (l.set (x.toNat*2+1) (i64 u)) V ch (aI par x u) kb∧ai (KB ro) H (H.wr tb (l.set (x.toNat*2+1) (i64 u))):=by
 obtain⟨t3,e3⟩:=m.t.aI hx u
 refine⟨⟨t3,fun x h0 h1=>(m.kd x h0 h1).ext e3 (fun b hb e=>?_),m.rf,m.rt,m.rk,m.HR,m.no⟩,e3.mono fun z _ h=>.inl (by rw[h];exact m.rt)⟩
 have h5:=m.rk x b h0 h1 hb
 rw[e,m.rt]at h5
 cases h5
set_option maxHeartbeats 1000000 in
theorem vk(m:ForM H ro fb tb n l V ch par kb)(hz:∀z,H.size≤z→ro z= .no){a b:Int}(ha:0≤a∧a<n)(hb:0≤b∧b<n)(pa:par a= -1)(pb:par b= -1)(zQ:a≠b)(hd:(ch a).length=(ch b).length)(hl:(ch a).length≤65536):
  ah Tryz.prog yA [ptr fb,i64 a,i64 b] H fun v H'=>ay (v= .bool true∧∃ro' l' V' vY,ForM H' ro' fb tb n l' V' (aA ch a (ch a++[b])) (aI par b a) vY∧RK H.size ro ro'∧(∀z,H'.size≤z→ro' z= .no)∧ai (KB ro) H H'):=by
 have ht:=m.t.len
 obtain⟨a1,a2⟩:=m.t.at_ a ha.1 ha.2
 have ka:=m.kd a ha.1 ha.2
 have hcL:∀c∈ch a++[b],0≤c∧c<n:=fun c hc=>by
  rcases aml.1 hc with hc|hc
  ·exact m.HR a c hc
  ·rw[amg.1 hc];exact hb
 have Vn:∀z,kb a=some z→ro z= .sH a:=fun z h=>m.rk a z ha.1 ha.2 h
 have hfb:¬kb a=some fb:=fun h=>by have:=Vn _ h;rw[m.rf]at this;cases this
 have Vg:¬kb a=some tb:=fun h=>by have:=Vn _ h;rw[m.rt]at this;cases this
 refine be za ⟨rfl,?_⟩
 refine v1 pq.eq_1 ?_
 refine(jw m.t a).mono ?_
 rintro _ H' ⟨rfl,e⟩
 obtain rfl:=e.symm
 rw[amj ha,amj pa]
 refine vs ?_
 refine(jw m.t b).mono ?_
 rintro _ H' ⟨rfl,e⟩
 obtain rfl:=e.symm
 rw[amj hb,amj pb]
 refine vs ?_
 refine ak.dec (fun h=>absurd h zQ) (fun _=>?_)
 refine vs ?_
 refine(df m a).mono ?_
 rintro _ H' ⟨rfl,e⟩
 obtain rfl:=e.symm
 refine vs ?_
 refine(df m b).mono ?_
 rintro _ H' ⟨rfl,e⟩
 obtain rfl:=e.symm
 rw[hd]
 refine vs ?_
 refine ak.cE (by simp) ?_
 refine vs ?_
 refine qZ.intro (fun H'=>H'.own fb=some [.slice (some ⟨tb,0,none⟩) n n]) m.t.own ?_
 refine vs ?_
 refine qF.intro (.slice (some ⟨tb,0,none⟩) n n) (fun H' hI=>by refine v1 (ae hI) ?_;trivial) ?_
 refine vs ?_
 refine qF.intro (.slice (some ⟨tb,0,none⟩) n n) (fun H' hI=>by refine v1 (ae hI) ?_;trivial) ?_
 refine vs ?_
 refine⟨⟨by omega,by omega⟩,?_⟩
 refine vs ?_
 obtain⟨z1,z2⟩:=m.t.Sb
 have f1:ax H (H.new 3 [i64 b]):=(ai.refl _ _).new _ _
 have o1:=f1.own m.t.own (fun h=>h)
 have q1:=f1.own m.t.F0 (fun h=>h)
 refine IQ.intro ?A ?B
 case' A=>
  refine v4 (ae m.t.F0) al6 Nat.add_zero a1 ?_
  refine And.intro m.t.own ?_
  refine vs ?_
  refine And.intro m.t.own ?_
  refine vs ?_
 case' B=>
  refine vs ?_
  refine And.intro m.t.own ?_
  refine v5 (ae q1) (ae m.t.F0) al6 Nat.add_zero a1 ?_
  refine And.intro m.t.own ?_
  refine vs ?_
 all_goals
  refine Sc ka b (by omega) fun w' H2 fL mr s2 e2=>?_
  obtain⟨wa,wc,rfl⟩:=Sl.shape s2
  have t2:=m.t.ext e2 hfb Vg
  refine And.intro t2.own ?_
  refine vs ?_
  refine⟨⟨by omega,by omega⟩,?_⟩
  refine v3 t2.F0 al6 Nat.add_zero ?_
  refine⟨by omega,?_⟩
  obtain⟨ro',vY,m3,r3,r4,e3⟩:=m.put hz ha e2 s2 (mr.imp_right .inr) hcL
  refine vs ?_
  refine And.intro m3.t.own ?_
  refine vs ?_
  have TB:=m3.t.len
  generalize H2.wr tb (l.set (a.toNat*2) (Value.slice wa (ch a++[b]).length wc))=H3 at*
  refine v1 (ae m3.t.own) ?_
  refine⟨⟨by omega,by omega⟩,?_⟩
  refine v3 m3.t.F0 al6 Nat.add_zero ?_
  refine⟨by omega,?_⟩
  obtain⟨m4,e4⟩:=m3.aI hb a
  refine vs ?_
  refine⟨rfl,ro',_,_,vY,m4,r3,fun z ez=>r4 z (by rw[gm]at ez;exact ez),?_⟩
  refine⟨amM e3.size e4.size,fun z ez hn=>?_⟩
  rw[e4.aN z (amv ez e3.size) (fun h=>hn ?_),e3.aN z ez hn]
  rcases h with h| ⟨x,h⟩
  ·refine .inl ?_
   by_cases hk:∃x,ro z= .sH x
   ·obtain⟨x,hx⟩:=hk
    obtain⟨y,hy⟩:=r3.k z x ez hx
    rw[hy]at h;cases h
   ·rw[←r3.o z ez (fun x hx=>hk ⟨x,hx⟩)];exact h
  ·refine .inr ?_
   apply amr
   intro hk
   rw[r3.o z ez (fun x hx=>hk ⟨x,hx⟩)]at h
   exact hk ⟨x,h⟩
end
end Go.Proofs.YtjlnnljohemifaaGreat
