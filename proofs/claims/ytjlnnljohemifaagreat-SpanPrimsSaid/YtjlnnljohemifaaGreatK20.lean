/- Texts put behind each other. -/
import Derived.Test.YtjlnnljohemifaaGreatK98
import Derived.Test.YtjlnnljohemifaaGreatK1
import Derived.Test.YtjlnnljohemifaaGreatK9
import Derived.Test.YtjlnnljohemifaaGreatK17
import Derived.Test.YtjlnnljohemifaaGreatK19
set_option maxRecDepth 100000
set_option maxHeartbeats 8000000
set_option linter.unusedVariables false
set_option linter.unusedSimpArgs false
namespace Go.Proofs.YtjlnnljohemifaaGreat
open Go Go.Vc
theorem qa(l:List Int):gv (l.map i64):=fun v hv=>by
 obtain⟨x,_,rfl⟩:=anv.1 hv
 rfl
theorem wB{H:Hp}{T B:Nat}{w:Value}{xs:List Int}{fp:Option Nat}{K:Value→Hp→Prop}(fN:∀b,fp=some b→B≤b)(hB:B≤H.size)(s:Sl H 1 w xs.length (xs.map i64) fp)(x:Int)(hl:xs.length≤1000000000000)
  (hk:∀w' H' cJ,(∀b,cJ=some b→B≤b)→Sl H' 1 w' (xs++[x]).length ((xs++[x]).map i64) cJ→ag (fun z=>B≤z) H H'→K w' H'):
  fQ T 1 8 [i64 0] w (.slice (some ⟨H.size,0,none⟩) 1 1) (H.new T [i64 x]) K:=by
 have fl:ah H (H.new T [i64 x]):=(ag.refl _ _).new _ _
 refine Sl.append (s.ext fl (fun _ _ h=>h)) (Sl.bP (size:=1) (n:=1) (xs:=[i64 x]) rfl rfl).rd rfl (qa [x]) (by omega) ?_
 intro v' H' cJ s' e' Nh
 refine hk v' H' cJ (fun b hb=>?_) (by rw[ank,anH];exact s') ⟨an8 fl.size e'.size,fun z hz hn=>?_⟩
 ·rcases Nh with h| ⟨b',jz,h1,h2⟩
  ·exact fN b (by rw[←h];exact hb)
  ·rw[hb]at jz;injection jz with jz;have:=fl.size;omega
 ·rw[e'.aI z (anB hz fl.size) (fun h=>hn (fN z h)),fl.aI z hz (fun h=>h)]
theorem G7{H:Hp}{T B b:Nat}{w:Value}{xs:List Int}{K:Value→Hp→Prop}(hb:B≤b)(hB:B≤H.size)(s:Sl H 1 w xs.length (xs.map i64) (some b))(x:Int)(hl:xs.length≤1000000000000)
  (hk:∀w' H' b',B≤b'→Sl H' 1 w' (xs++[x]).length ((xs++[x]).map i64) (some b')→ag (fun z=>B≤z) H H'→K w' H'):
  fQ T 1 8 [i64 0] w (.slice (some ⟨H.size,0,none⟩) 1 1) (H.new T [i64 x]) K:=by
 refine wB (fun b' h=>by injection h with h;omega) hB s x hl fun w' H' cJ hf s' e'=>?_
 cases cJ with
 |none=>
  obtain⟨_,h0,_⟩:=s'
  simp at h0
 |some b'=>exact hk w' H' b' (hf b' rfl) s' e'
theorem Qf{H:Hp}{T b:Nat}{w:Value}{xs:List Int}{K:Value→Hp→Prop}(s:Sl H 1 w xs.length (xs.map i64) (some b))(x:Int)(hl:xs.length≤1000000000000)
  (hk:∀w' H' b',(b'=b∨H.size≤b')→Sl H' 1 w' (xs++[x]).length ((xs++[x]).map i64) (some b')→ag (fun z=>z=b) H H'→K w' H'):
  fQ T 1 8 [i64 0] w (.slice (some ⟨H.size,0,none⟩) 1 1) (H.new T [i64 x]) K:=by
 have fl:ah H (H.new T [i64 x]):=(ag.refl _ _).new _ _
 refine Sl.append (s.ext fl (fun _ _ h=>h)) (Sl.bP (size:=1) (n:=1) (xs:=[i64 x]) rfl rfl).rd rfl (qa [x]) (by omega) ?_
 intro v' H' cJ s' e' Nh
 have e2:ag (fun z=>z=b) H H':=⟨an8 fl.size e'.size,fun z hz hn=>by
  rw[e'.aI z (anB hz fl.size) (fun h=>hn (by injection h with h;exact h.symm)),fl.aI z hz (fun h=>h)]⟩
 have s2:Sl H' 1 v' (xs++[x]).length ((xs++[x]).map i64) cJ:=by rw[ank,anH];exact s'
 rcases Nh with rfl| ⟨b',rfl,h1,h2⟩
 ·exact hk v' H' b (.inl rfl) s2 e2
 ·rw[am]at h1
  exact hk v' H' b' (.inr (by omega)) s2 e2
theorem Nj{H:Hp}{T B:Nat}{w u:Value}{xs ys:List Int}{fp:Option Nat}{K:Value→Hp→Prop}(fN:∀b,fp=some b→B≤b)(hB:B≤H.size)(s:Sl H 1 w xs.length (xs.map i64) fp)(r:cI H 1 u ys.length (ys.map i64))(hl:xs.length+ys.length≤1000000000000)
  (hk:∀w' H' cJ,(∀b,cJ=some b→B≤b)→Sl H' 1 w' (xs++ys).length ((xs++ys).map i64) cJ→ag (fun z=>B≤z) H H'→K w' H'):
  fQ T 1 8 [i64 0] w u H K:=by
 refine Sl.append s r rfl (qa ys) (by omega) ?_
 intro v' H' cJ s' e' Nh
 refine hk v' H' cJ (fun b hb=>?_) (by rw[ank,anH];exact s') ⟨e'.size,fun z hz hn=>e'.aI z hz (fun h=>hn (fN z h))⟩
 rcases Nh with h| ⟨b',jz,h1,h2⟩
 ·exact fN b (by rw[←h];exact hb)
 ·rw[hb]at jz;injection jz with jz;omega
theorem Sl.num{H:Hp}{a:Option Addr}{n c:Nat}{xs:List Int}{b:Nat}(h:Sl H 1 (.slice a n c) n (xs.map i64) (some b)){i:Nat}{x:Int}(hx:xs[i]? =some x):
  i<n∧a=some ⟨b,0,none⟩∧∃lb,H.own b=some lb∧lb[i]? =some (i64 x):=by
 have hl:=h.1
 rw[anz,ane]at hl
 have hi:=(ana.1 hx).1
 obtain⟨_,l,c2,hs,ho,hc,mJ,ht⟩:=h
 injection hs with et I3 Fy
 refine⟨by omega,et,l,ho,?_⟩
 have h7:(xs.map i64)[i]? =some (i64 x):=by rw[anA,hx];rfl
 rw[←ht,anP,if_pos (by omega)]at h7
 exact h7
theorem cI.get{H:Hp}{size n:Nat}{v:Value}{xs:List Value}(h:cI H size v n xs){i j:Nat}{x:Value}(hj:j<size)(hx:xs[i*size+j]? =some x):
  ∃b o c l,v= .slice (some ⟨b,o,none⟩) n c∧H.rd b=some l∧i<n∧l[o+i*size+j]? =some x:=by
 obtain⟨hl,⟨rfl,a,c,rfl⟩| ⟨b,o,c,l,rfl,h2,h3,h4⟩⟩:=h
 ·rw[ans (by omega)]at hx;cases hx
 ·have aK:i*size+j<n*size:=by
   have:=(ana.1 hx).1;omega
  refine⟨b,o,c,l,rfl,h2,?_,?_⟩
  ·rcases aow i n with h|h
   ·exact h
   ·have:=aoF size h;omega
  ·rw[←h4,anI aK,anQ]at hx
   rw[←hx];congr 1;omega
def zJ(a b:Int):Int:=if a<b then -1 else if b<a then 1 else 0
theorem j5(a:Int)(H:Hp):af Tryz.prog yP [i64 a] H fun v H'=>ar (v= .bool false∧H=H'):=by
 refine aP zg ?_
 refine v1 anT ?_
 exact⟨rfl,rfl⟩
theorem jt(a:Int)(H:Hp):af Tryz.prog wW [u64 a] H fun v H'=>ar (v= .bool false∧H=H'):=by
 refine aP xt ?_
 refine v1 anT ?_
 exact⟨rfl,rfl⟩
theorem qd(a b:Int)(H:Hp):af Tryz.prog uG [i64 a,i64 b] H fun v H'=>ar (v=i64 (zJ a b)∧H=H'):=by
 refine aP u9 ?_
 refine vs ?_
 refine(j5 a H).mono ?_
 rintro _ _ ⟨rfl,rfl⟩
 refine vs ?_
 refine(j5 b H).mono ?_
 rintro _ _ ⟨rfl,rfl⟩
 refine vs ?_
 refine ak.dec (fun h=>?_) (fun h=>?_)<;>refine vs ?_
 ·exact⟨anx i64 (by simp[zJ,h]),rfl⟩
 ·refine ak.dec (fun h2=>?_) (fun h2=>?_)<;>refine vs ?_
  ·exact⟨anx i64 (by simp[zJ,h,show b<a from h2]),rfl⟩
  ·exact⟨anx i64 (by simp[zJ,h,show¬b<a from h2]),rfl⟩
theorem oH(a b:Int)(H:Hp):af Tryz.prog su [u64 a,u64 b] H fun v H'=>ar (v=i64 (zJ a b)∧H=H'):=by
 refine aP sG ?_
 refine vs ?_
 refine(jt a H).mono ?_
 rintro _ _ ⟨rfl,rfl⟩
 refine vs ?_
 refine(jt b H).mono ?_
 rintro _ _ ⟨rfl,rfl⟩
 refine vs ?_
 refine ak.dec (fun h=>?_) (fun h=>?_)<;>refine vs ?_
 ·exact⟨anx i64 (by simp[zJ,h]),rfl⟩
 ·refine ak.dec (fun h2=>?_) (fun h2=>?_)<;>refine vs ?_
  ·exact⟨anx i64 (by simp[zJ,h,show b<a from h2]),rfl⟩
  ·exact⟨anx i64 (by simp[zJ,h,show¬b<a from h2]),rfl⟩
def XU(xs:List Int):Int:=(xs.find? fun x=>x≠0).getD 0
theorem CW{H:Hp}{v:Value}{n:Nat}{xs:List Int}(h:cI H 1 v n (xs.map i64))(hn:n≤1000000)(hs:∃a c,v= .slice a n c):
  af Tryz.prog HQ [v] H fun r H'=>ar (r=i64 (XU xs)∧H=H'):=by
 obtain⟨a,c,rfl⟩:=hs
 have aV:xs.length=n:=by have:=h.1;simpa using this
 refine aP HX ?_
 refine vs ?_
 refine aT.intro (fun m env H1=>∃k:Nat,env=[(3,i64 0),(6,.slice a n c),(7,i64 n),(8,i64 k)]∧H1=H∧k≤n∧m=n - k∧∀j,j<k→xs[j]? =some 0) n ⟨0,rfl,rfl,by omega,by omega,fun j hj=>by omega⟩ ?_
 rintro m env H1 ⟨k,rfl,rfl,hk,rfl,hz⟩
 refine vs ?_
 refine ak.dec (fun aK=>?_) (fun aK=>?_)<;>refine vs ?_
 ·have hkn:k<xs.length:=by omega
  obtain⟨b,o,c',l,hv,hr,_,hg⟩:=cI.get h (i:=k) (j:=0) (x:=i64 xs[k]) (by omega) (by simp[hkn])
  injection hv with e1 e2 e3
  subst e1
  refine⟨by omega,?_⟩
  simp only[ane,Nat.add_zero]at hg
  refine v4 hr Int.toNat_natCast ane hg ?_
  refine ak.dec (fun h0=>?_) (fun h0=>?_)<;>refine vs ?_
  ·rw[wrap64 (by omega) (by omega)]
   refine⟨n - (k+1),by omega,k+1,rfl,trivial,by omega,rfl,fun j hj=>?_⟩
   by_cases e:j=k
   ·subst e;rw[am8 hkn,h0]
   ·exact hz j (by omega)
  ·refine⟨anx i64 ?_,rfl⟩
   unfold XU
   have:xs.find? (fun x=>x≠0)=some xs[k]:=by
    rw[List.find?_eq_some_iff_getElem]
    refine⟨by simpa using h0,k,hkn,rfl,fun j hj=>?_⟩
    have:=hz j hj
    rw[am8 (by omega)]at this
    injection this with this
    simp[this]
   rw[this];rfl
 ·refine⟨anx i64 ?_,rfl⟩
  unfold XU
  have:xs.find? (fun x=>x≠0)=none:=by
   rw[List.find?_eq_none]
   intro x hx
   obtain⟨j,hj,rfl⟩:=ao8.1 hx
   have:=hz j (by omega)
   rw[am8 hj]at this
   injection this with this
   simp[this]
  rw[this];rfl
def JR(k s k' s':Int):Int:=XU [zJ k k',zJ s s']
def eX(k s k' s':Int):Prop:=k<k'∨k=k'∧s<s'
instance(k s k' s':Int):Decidable (eX k s k' s'):=by unfold eX;infer_instance
theorem JS(k s k' s':Int):JR k s k' s'<0↔eX k s k' s':=by
 unfold JR eX XU zJ
 by_cases h1:k<k'
 ·simp[h1]
 ·by_cases h2:k'<k
  ·simp[h1,h2];omega
  ·by_cases h3:s<s'
   ·simp[h1,h2,h3];omega
   ·by_cases h4:s'<s
    ·simp[h1,h2,h3,h4]
    ·simp[h1,h2,h3,h4]
theorem ml(k s k' s':Int)(H:Hp):af Tryz.prog CG [rZ k s,rZ k' s'] H fun v H'=>ar (v=i64 (JR k s k' s')∧ah H H'):=by
 refine aP CM ?_
 refine vs ?_
 refine⟨_,(qd k k' _).mono fun _ _ h=>⟨h.out.1,h.out.2.symm⟩,?_⟩
 refine(oH s s' _).mono ?_
 rintro _ _ ⟨rfl,rfl⟩
 refine vs ?_
 refine(CW (n:=2) (xs:=[zJ k k',zJ s s']) (Sl.bP (size:=1) rfl (by simp only[am])).rd (by omega) ⟨_,_,rfl⟩).mono ?_
 rintro _ _ ⟨rfl,rfl⟩
 exact⟨rfl,(((ag.refl _ _).new _ _).new _ _).new _ _⟩
theorem CX(k s k' s':Int)(H:Hp):af Tryz.prog HS [rZ k s,rZ k' s'] H fun v H'=>ar (v= .bool (decide (eX k s k' s'))∧ah H H'):=by
 refine aP HZ ?_
 refine vs ?_
 refine(ml k s k' s' _).mono ?_
 rintro _ _ ⟨rfl,hf⟩
 refine vs ?_
 refine⟨anx Value.bool (by rw[decide_eq_decide];exact JS _ _ _ _),?_⟩
 exact(((ag.refl _ _).new _ _).new _ _).trans hf
def fB(m n:Int):Int:=if n≤0 then m else if n>4611686018427387904 - m then 4611686018427387904 else m+n
theorem Bq{H:Hp}{b:Nat}{m:Int}{r:List Value}(h:H.own b=some (i64 m::r))(hm:0≤m∧m≤4611686018427387904)(n:Int)(hn:n≤4611686018427387904):
  af Tryz.prog uN [ptr b,i64 n] H fun v H'=>ar (v= .tuple [].toArray∧H'=H.wr b (i64 (fB m n)::r)∨v= .tuple [].toArray∧H'=H∧fB m n=m):=by
 refine aP vr ?_
 refine vs ?_
 refine ak.dec (fun h0=>?_) (fun h0=>?_)<;>refine v1 (ae h) ?_
 ·exact .inr ⟨rfl,rfl,by simp[fB,h0]⟩
 ·rw[wrap64 (by omega) (by omega)]
  refine ak.dec (fun h1=>?_) (fun h1=>?_)<;>refine v2 (ae h) h ?_
  ·exact .inl ⟨rfl,by rw[fB,if_neg h0,if_pos h1]⟩
  ·exact .inl ⟨rfl,by rw[fB,if_neg h0,if_neg h1,wrap64 (by omega) (by omega)]⟩
abbrev Ce:=Int×Int×Int
def cf(cs:List Ce):List Value:=cs.flatMap fun c=>[i64 c.1,i64 c.2.1,u64 c.2.2]
theorem iS(cs:List Ce):(cf cs).length=cs.length*3:=by
 induction cs with
 |nil=>rfl
 |cons c r ih=>simp only[cf,aoR,ank,anw,aoi]at*;omega
theorem Ou(n:Nat):cf (List.replicate n (0,0,0))=cz [.int .i64 0,.int .i64 0,.int .u64 0] n:=by
 simp[cf,cz,List.flatMap_def,apn]
theorem eA.lt2{H:Hp}{b s len:Nat}{rt:Nat→Nat}{fA:Int}(h:eA H b s len rt fA):s<H.size:=by
 obtain⟨⟨sv,cw,qK,a1,a2,a3⟩,_⟩:=h
 exact a2.lt
structure bD(H:Hp)(c:Nat)(S:Nat→Prop)(st:Int)(cs:List Ce)(len:Nat)(rt:Nat→Nat)(aO:Int→Option Int):Prop where
 Sv:∃fb nb ns mb,H.own c=some [i64 st,.slice (some ⟨fb,0,none⟩) cs.length cs.length,ptr nb,.map (some mb)]∧H.own fb=some (cf cs)∧eA H nb ns len rt 65536∧kM H mb (fun i=>(aO i).map i64)∧
  (S c∧S fb∧S nb∧S ns∧S mb)∧(c≠fb∧c≠nb∧c≠ns∧c≠mb)∧(fb≠nb∧fb≠ns∧fb≠mb)∧(nb≠mb∧ns≠mb)
 st0:0≤st
 RW:st≤4611686018427387904
 CY:cs.length≤65536
 slt:∀x,S x→x<H.size
theorem bD.ext{H H':Hp}{c:Nat}{S T:Nat→Prop}{st:Int}{cs:List Ce}{len:Nat}{rt:Nat→Nat}{aO:Int→Option Int}(h:bD H c S st cs len rt aO)
  (e:ag T H H')(hd:∀x,S x→¬T x):bD H' c S st cs len rt aO:=by
 obtain⟨⟨fb,nb,ns,mb,a1,a2,a3,a4,⟨s1,s2,s3,s4,s5⟩,a6,a7⟩,h2,h3,h4,h5⟩:=h
 exact⟨⟨fb,nb,ns,mb,e.own a1 (hd _ s1),e.own a2 (hd _ s2),a3.ext e (hd _ s3) (hd _ s4),a4.ext e (hd _ s5),⟨s1,s2,s3,s4,s5⟩,a6,a7⟩,h2,h3,h4,fun x hx=>anB (h5 x hx) e.size⟩
theorem Eg(cap:Int)(H:Hp):af Tryz.prog sw [i64 cap] H fun v H'=>ar (
  ah H H'∧((¬ (0≤cap∧cap≤65536)∧v= .tuple [.pointer none,i64 31].toArray)∨
   (0≤cap∧cap≤65536)∧∃c S,v= .tuple [ptr c,i64 0].toArray∧bD H' c S 0 (List.replicate cap.toNat (0,0,0)) 1 id (fun _=>none)∧(∀x,S x→H.size≤x))):=by
 refine aP JC ?_
 refine vs ?_
 refine ak.dec (fun h=>?_) (fun h=>?_)<;>refine vs ?_
 ·exact⟨ag.refl _ _,.inl ⟨by omega,rfl⟩⟩
 ·refine ak.dec (fun h2=>?_) (fun h2=>?_)<;>refine vs ?_
  ·exact⟨ag.refl _ _,.inl ⟨by omega,rfl⟩⟩
  ·refine(D3 65536 H).mono ?_
   rintro _ H1 ⟨hf,⟨hc,_⟩| ⟨_,nb,ns,rfl,hn,b1,b2,b3,b4⟩⟩
   ·omega
   refine vs ?_
   refine⟨by omega,?_⟩
   refine vs ?_
   have hs:(H1.new 343 (cz [.int .i64 0,.int .i64 0,.int .u64 0] cap.toNat)).own H1.size=some (cf (List.replicate cap.toNat (0,0,0))):=by
    rw[Ou]
    exact ax _ _ _
   have he:ag (fun _=>False) (H1.new 343 (cz [.int .i64 0,.int .i64 0,.int .u64 0] cap.toNat)) _:=
    ((ag.refl _ _).gS).new 308 [.int .i64 0,.slice (some ⟨H1.size,0,none⟩) cap.toNat cap.toNat,.pointer (some ⟨nb,0,none⟩),.map (some (H1.size+1))]
   have hm:kM (H1.new 343 (cz [.int .i64 0,.int .i64 0,.int .u64 0] cap.toNat)).gS (H1.size+1) (fun _=>none):=by
    have:=kM.new (H1.new 343 (cz [.int .i64 0,.int .i64 0,.int .u64 0] cap.toNat))
    rwa[am]at this
   have Of:=hf.size
   have hl:(List.replicate cap.toNat ((0,0,0):Ce)).length=cap.toNat:=anX
   refine⟨(hf.trans ((ag.refl _ _).new 343 _)).trans he,.inr ⟨by omega,H1.size+1+1,fun x=>H.size≤x∧x<H1.size+1+1+1,rfl,⟨⟨H1.size,nb,ns,H1.size+1,by rw[hl];exact aQ (by simp only[am,hZ]),he.own hs (fun h=>h),
    (hn.ext ((ag.refl (fun _=>False) _).new 343 _) (fun h=>h) (fun h=>h)).ext he (fun h=>h) (fun h=>h),hm.ext ((ag.refl (fun _=>False) _).new _ _) (fun h=>h),?_,?_,?_,?_⟩,by omega,by omega,by omega,?_⟩,fun x h=>h.1⟩⟩
   ·exact⟨by omega,by omega,by omega,by omega,by omega⟩
   ·exact⟨by omega,by omega,by omega,by omega⟩
   ·exact⟨by omega,by omega,by omega⟩
   ·exact⟨by omega,by omega⟩
   ·intro x hx
    simp only[am,hZ]
    exact hx.2
theorem sZ{H:Hp}{c:Nat}{S:Nat→Prop}{st:Int}{cs:List Ce}{len:Nat}{rt:Nat→Nat}{aO:Int→Option Int}(h:bD H c S st cs len rt aO)(i:Int):
  af Tryz.prog bz [ptr c,i64 i] H fun v H'=>ar (v= .bool (decide (0<i∧i<len∧rt i.toNat=i.toNat))∧H=H'):=by
 obtain⟨⟨fb,nb,ns,mb,a1,a2,a3,a4,a5,a6,a7⟩,h2,h3,h4,h5⟩:=h
 refine aP zj ?_
 refine v1 (ae a1) ?_
 refine(D5 a3 i).mono ?_
 rintro _ _ ⟨rfl,rfl⟩
 refine vs ?_
 exact⟨rfl,rfl⟩
def dB(aO:Int→Option Int)(i:Int):Int:=(aO i).getD 0
theorem Eh{H:Hp}{c:Nat}{S:Nat→Prop}{st:Int}{cs:List Ce}{len:Nat}{rt:Nat→Nat}{aO:Int→Option Int}(h:bD H c S st cs len rt aO)(i:Int):
  af Tryz.prog iH [ptr c,i64 i] H fun v H'=>ar (v=i64 (dB aO i)∧H=H'):=by
 obtain⟨⟨fb,nb,ns,mb,a1,a2,a3,a4,a5,a6,a7⟩,h2,h3,h4,h5⟩:=h
 refine aP zk ?_
 refine v2 (ae a1) a4.look ?_
 refine⟨?_,rfl⟩
 unfold dB
 cases aO i<;>rfl
theorem oI{H:Hp}{c:Nat}{S:Nat→Prop}{st:Int}{cs:List Ce}{len:Nat}{rt:Nat→Nat}{aO:Int→Option Int}(h:bD H c S st cs len rt aO)(i:Int):
  af Tryz.prog uM [ptr c,i64 i] H fun v H'=>ar (v= .bool (decide (0≤i∧i<cs.length))∧H=H'):=by
 obtain⟨⟨fb,nb,ns,mb,a1,a2,a3,a4,a5,a6,a7⟩,h2,h3,h4,h5⟩:=h
 refine aP vm ?_
 refine vs ?_
 refine ak.dec (fun h=>?_) (fun h=>?_)<;>refine v1 (ae a1) ?_
 ·exact⟨anx Value.bool (by rw[decide_eq_decide];omega),rfl⟩
 ·exact⟨anx Value.bool (anD (by omega)).symm,rfl⟩
theorem uf{cs:List Ce}{i:Nat}{c:Ce}(hi:cs[i]? =some c):
  (cf cs)[i*3]? =some (i64 c.1)∧(cf cs)[i*3+1]? =some (i64 c.2.1)∧(cf cs)[i*3+2]? =some (u64 c.2.2)∧((cf cs).drop (i*3+1)).take 2=[i64 c.2.1,u64 c.2.2]:=by
 have hx:∀ (cs:List Ce) (i:Nat) (c:Ce),cs[i]? =some c→(cf cs)[i*3]? =some (i64 c.1)∧(cf cs)[i*3+1]? =some (i64 c.2.1)∧(cf cs)[i*3+2]? =some (u64 c.2.2):=by
  intro cs
  induction cs with
  |nil=>intro i c h;simp at h
  |cons a r ih=>
   intro i c h
   have e:cf (a::r)=i64 a.1::i64 a.2.1::u64 a.2.2::cf r:=rfl
   rw[e]
   cases i with
   |zero=>simp at h;subst h;exact⟨rfl,rfl,rfl⟩
   |succ i=>
    have:=ih i c (by simpa using h)
    rw[show(i+1)*3=i*3+3 by omega]
    simpa using this
 obtain⟨x0,x1,x2⟩:=hx cs i c hi
 refine⟨x0,x1,x2,?_⟩
 apply an5
 intro k
 rw[anP]
 match k with
 |0=>simpa using x1
 |1=>rw[if_pos (by omega),anQ];exact x2
 |k+2=>rw[if_neg (by omega)];rfl
def cS(cs:List Ce)(i:Int):Prop:=0≤i∧∃c,cs[i.toNat]? =some c∧0<c.1
instance(cs:List Ce)(i:Int):Decidable (cS cs i):=
 match h:cs[i.toNat]? with
 |none=>.isFalse fun⟨_,c,h1,_⟩=>by rw[h]at h1;simp at h1
 |some c=>if h0:0≤i∧0<c.1 then .isTrue ⟨h0.1,c,h,h0.2⟩else .isFalse fun⟨h1,c',h2,h3⟩=>by rw[h]at h2;injection h2 with h2;subst h2;exact h0 ⟨h1,h3⟩
theorem eO{H:Hp}{c:Nat}{S:Nat→Prop}{st:Int}{cs:List Ce}{len:Nat}{rt:Nat→Nat}{aO:Int→Option Int}(h:bD H c S st cs len rt aO)(i:Int):
  af Tryz.prog AR [ptr c,i64 i] H fun v H'=>ar (v= .bool (decide (cS cs i))∧H=H'):=by
 have ht:=oI h i
 obtain⟨⟨fb,nb,ns,mb,a1,a2,a3,a4,a5,a6,a7⟩,h2,h3,h4,h5⟩:=h
 refine aP Bb ?_
 refine vs ?_
 refine ht.mono ?_
 rintro _ _ ⟨rfl,rfl⟩
 refine vs ?_
 refine ak.dec (fun h=>?_) (fun h=>?_)<;>refine v1 (ae a1) ?_
 ·obtain⟨x,hx⟩:∃x,cs[i.toNat]? =some x:=⟨_,am8 (by omega)⟩
  obtain⟨x0,x1,x2,x3⟩:=uf hx
  refine⟨by omega,?_⟩
  refine v4 (ae a2) x0 Nat.add_zero am9 ?_
  exact⟨anx Value.bool (by rw[decide_eq_decide];exact⟨fun hh=>⟨h.1,x,hx,hh⟩,fun⟨_,c,e1,e2⟩=>by rw[hx]at e1;injection e1 with e1;subst e1;exact e2⟩),rfl⟩
 ·exact⟨anx Value.bool (anD (by rintro⟨x,c,x1,x2⟩;have:=(ana.1 x1).1;omega)).symm,rfl⟩
theorem Ha(cs:List Ce)(i:Nat)(c:Ce)(hi:i<cs.length):bf (cf cs) (i*3) [i64 c.1,i64 c.2.1,u64 c.2.2]=cf (cs.set i c):=by
 simp only[bf]
 induction cs generalizing i with
 |nil=>simp at hi
 |cons a r ih=>
  have e:cf (a::r)=i64 a.1::i64 a.2.1::u64 a.2.2::cf r:=rfl
  cases i with
  |zero=>rfl
  |succ i=>
   have e2:cf ((a::r).set (i+1) c)=i64 a.1::i64 a.2.1::u64 a.2.2::cf (r.set i c):=rfl
   rw[e,e2,show(i+1)*3=i*3+1+1+1 by omega]
   simp only[anV]
   rw[ih i (by simpa using hi)]
theorem CZ{H:Hp}{c:Nat}{S:Nat→Prop}{st:Int}{cs:List Ce}{len:Nat}{rt:Nat→Nat}{aO:Int→Option Int}(h:bD H c S st cs len rt aO):
  af Tryz.prog df [ptr c] H fun v H'=>ar (
   (len=65537∧v=i64 0∧H=H')∨
   (len≠65537∧v=i64 len∧∃S',bD H' c S' st cs (len+1) (fun i=>if i=len then i else rt i) aO∧ag S H H'∧∀x,S' x→S x∨H.size≤x)):=by
 obtain⟨⟨fb,nb,ns,mb,a1,a2,a3,a4,a5,a6,a7⟩,h2,h3,h4,h5⟩:=h
 refine aP xF ?_
 refine v1 (ae a1) ?_
 refine(CT a3).mono ?_
 rintro _ H1 (⟨hl,rfl,rfl⟩| ⟨hl,rfl,s',b1,b2,b3⟩)
 ·refine vs ?_
  exact .inl ⟨by omega,rfl,rfl⟩
 ·refine vs ?_
  obtain⟨s1,s2,s3,s4,s5⟩:=a5
  obtain⟨d1,d2,d3,d4⟩:=a6
  obtain⟨⟨d5,d6,d7⟩,d8,d9⟩:=a7
  have l1:=az a1
  have l2:=az a2
  have l3:=a4.lt
  refine .inr ⟨by omega,rfl,fun x=>S x∨x=s',⟨⟨fb,nb,s',mb,b2.own a1 (by omega),b2.own a2 (by omega),b1,a4.ext b2 (by omega),⟨.inl s1,.inl s2,.inl s3,.inr rfl,.inl s5⟩,⟨d1,d2,by omega,d4⟩,⟨d5,by omega,d7⟩,d8,by omega⟩,h2,h3,h4,fun x hx=>hx.elim (fun h=>anB (h5 x h) b2.size) (fun h=>by rw[h];exact b1.lt2)⟩,
   b2.mono (fun x _ hx=>hx.elim (fun e=>e▸s3) (fun e=>e▸s4)),?_⟩
  rintro x (hx|rfl)
  ·exact .inl hx
  ·rcases b3 with rfl|b3
   ·exact .inl s4
   ·exact .inr b3.1
theorem Ei{H:Hp}{c:Nat}{S:Nat→Prop}{st:Int}{cs:List Ce}{len:Nat}{rt:Nat→Nat}{aO:Int→Option Int}(h:bD H c S st cs len rt aO)(g i k s:Int)
  (hm:dB aO g≤1000000∧0≤dB aO g):
  af Tryz.prog iI [ptr c,i64 g,i64 i,rZ k s] H fun v H'=>ar (
   let ok:=(0<g∧g<len∧rt g.toNat=g.toNat)∧(0≤i∧i<cs.length)∧¬cS cs i
   (¬ok∧v= .bool false∧bD H' c S st cs len rt aO∧ag S H H')∨
   (ok∧v= .bool true∧bD H' c S st (cs.set i.toNat (g,k,s)) len rt (fun j=>if j=g then some (dB aO g+1)else aO j)∧ag S H H')):=by
 have jQ:ag (fun _=>False) H (H.new 224 [i64 k,u64 s]):=(ag.refl _ _).new _ _
 have h':=h.ext jQ (fun _ _ h=>h)
 refine aP zn ?_
 simp(disch:=(first|omega| (simp only[Zs]<;>omega)|fail)) only[go_sem, ↓reduceIte,Zv,rZ]
 refine(sZ h' g).mono ?_
 rintro _ _ ⟨rfl,rfl⟩
 refine vs ?_
 have Qg:∀v,v=Value.bool false→¬ ((0<g∧g<len∧rt g.toNat=g.toNat)∧(0≤i∧i<cs.length)∧¬cS cs i)→
   ((¬ ((0<g∧g<len∧rt g.toNat=g.toNat)∧(0≤i∧i<cs.length)∧¬cS cs i)∧v= .bool false∧bD (H.new 224 [i64 k,u64 s]) c S st cs len rt aO∧ag S H (H.new 224 [i64 k,u64 s]))∨
   (((0<g∧g<len∧rt g.toNat=g.toNat)∧(0≤i∧i<cs.length)∧¬cS cs i)∧v= .bool true∧bD (H.new 224 [i64 k,u64 s]) c S st (cs.set i.toNat (g,k,s)) len rt (fun j=>if j=g then some (dB aO g+1)else aO j)∧ag S H (H.new 224 [i64 k,u64 s]))):=
  fun v hv hn=>.inl ⟨hn,hv,h',(ag.refl _ _).new _ _⟩
 refine ak.dec (fun hg=>?_) (fun hg=>?_)<;>refine vs ?_
 ·refine(oI h' i).mono ?_
  rintro _ _ ⟨rfl,rfl⟩
  refine vs ?_
  refine ak.dec (fun hi=>?_) (fun hi=>?_)<;>refine vs ?_
  ·refine(eO h' i).mono ?_
   rintro _ _ ⟨rfl,rfl⟩
   refine vs ?_
   refine ak.dec (fun bE=>?_) (fun bE=>?_)<;>refine vs ?_
   ·exact Qg _ rfl (fun hc=>hc.2.2 bE)
   ·obtain⟨⟨fb,nb,ns,mb,a1,a2,a3,a4,a5,a6,a7⟩,h2,h3,h4,h5⟩:=h'
    refine v1 (ae a1) ?_
    refine⟨by omega,?_⟩
    refine v1 a2 ?_
    refine⟨by rw[iS];omega,?_⟩
    rw[show bf (cf cs) (i.toNat*3) (aF (Value.agg #[Value.int .i64 g,i64 k,u64 s]))=cf (cs.set i.toNat (g,k,s))from Ha cs i.toNat (g,k,s) (by omega)]
    obtain⟨s1,s2,s3,s4,s5⟩:=a5
    obtain⟨d1,d2,d3,d4⟩:=a6
    obtain⟨⟨d5,d6,d7⟩,d8,d9⟩:=a7
    have e1:ag (fun x=>x=fb) (H.new 224 [i64 k,u64 s]) ((H.new 224 [i64 k,u64 s]).wr fb (cf (cs.set i.toNat (g,k,s)))):=(ag.refl (fun x=>x=fb) _).wr (fun _=>rfl) _
    have a1':=e1.own a1 d1
    have U8:((H.new 224 [i64 k,u64 s]).wr fb (cf (cs.set i.toNat (g,k,s)))).own fb=_:=ai a2
    have a3':=a3.ext e1 (Ne.symm d5) (Ne.symm d6)
    have a4':=a4.ext e1 (Ne.symm d7)
    have el:gL false (Value.int .i64 0) ((aO g).map i64)=i64 (dB aO g):=by unfold dB;cases aO g<;>rfl
    refine v3 (ae a1') a4'.look el ?_
    rw[wrap64 (by omega) (by omega)]
    refine a4'.XV fun H2 m2 e2=>?_
    refine vs ?_
    refine .inr ⟨⟨hg,hi,bE⟩,rfl,⟨⟨fb,nb,ns,mb,by rw[anb];exact e2.own a1' d4,e2.own U8 d7,a3'.ext e2 d8 d9,?_,⟨s1,s2,s3,s4,s5⟩,⟨d1,d2,d3,d4⟩,⟨d5,d6,d7⟩,d8,d9⟩,h2,h3,by rw[anb];exact h4,fun x hx=>anB (h5 x hx) (an8 e1.size e2.size)⟩,?_⟩
    ·have:(fun j=>Option.map i64 (if j=g then some (dB aO g+1)else aO j))=Ij (fun j=>(aO j).map i64) g (i64 (dB aO g+1)):=by
      funext j;unfold Ij;by_cases hj:j=g<;>simp[hj]
     rw[this];exact m2
    ·exact(((ag.refl S H).new 224 [i64 k,u64 s]).trans (e1.mono fun x _ hx=>hx▸s2)).trans (e2.mono fun x _ hx=>hx▸s5)
  ·exact Qg _ rfl (fun hc=>hi hc.2.1)
 ·exact Qg _ rfl (fun hc=>hg hc.1)
theorem Ov{m n:Int}(h0:0≤m)(h1:m≤4611686018427387904):0≤fB m n∧fB m n≤4611686018427387904:=by
 unfold fB;split
 ·exact⟨h0,h1⟩
 ·split<;>omega
def xU(a b:Int)(x y:Ce):Prop:=JR x.2.1 x.2.2 y.2.1 y.2.2<0∨JR x.2.1 x.2.2 y.2.1 y.2.2=0∧a<b
instance(a b:Int)(x y:Ce):Decidable (xU a b x y):=inferInstanceAs (Decidable (_∨_∧_))
theorem Br{H:Hp}{c:Nat}{S:Nat→Prop}{st:Int}{cs:List Ce}{len:Nat}{rt:Nat→Nat}{aO:Int→Option Int}(h:bD H c S st cs len rt aO)(a b:Int):
  af Tryz.prog cG [ptr c,i64 a,i64 b] H fun v H'=>ar (
   (¬ (cS cs a∧cS cs b)∧v= .bool false∧H=H')∨
   (cS cs a∧cS cs b)∧∃x y,cs[a.toNat]? =some x∧cs[b.toNat]? =some y∧v= .bool (decide (xU a b x y))∧bD H' c S (fB st 1) cs len rt aO∧ag S H H'):=by
 have h':=h
 obtain⟨⟨fb,nb,ns,mb,a1,a2,a3,a4,a5,a6,a7⟩,h2,h3,h4,h5⟩:=h
 refine aP vp ?_
 refine vs ?_
 refine(eO h' a).mono ?_
 rintro _ _ ⟨rfl,rfl⟩
 refine vs ?_
 refine ak.dec (fun ha=>?_) (fun ha=>?_)<;>refine vs ?_
 ·refine(eO h' b).mono ?_
  rintro _ _ ⟨rfl,rfl⟩
  refine vs ?_
  refine ak.dec (fun hb=>?_) (fun hb=>?_)<;>refine vs ?_
  ·obtain⟨SH,x,hx,fO⟩:=id ha
   obtain⟨Qh,y,hy,Vn⟩:=id hb
   refine(Bq a1 ⟨h2,h3⟩ 1 (by omega)).mono ?_
   rintro v H1 hH
   obtain⟨rfl,b1,b2,b3,b4⟩:v= .tuple [].toArray∧H1.own c=some [i64 (fB st 1),.slice (some ⟨fb,0,none⟩) cs.length cs.length,ptr nb,.map (some mb)]∧H1.own fb=some (cf cs)∧bD H1 c S (fB st 1) cs len rt aO∧ag S H H1:=by
    have sY:=Ov (n:=1) h2 h3
    rcases hH.out with ⟨rfl,rfl⟩| ⟨rfl,rfl,hs⟩
    ·obtain⟨s1,s2,s3,s4,s5⟩:=a5
     obtain⟨d1,d2,d3,d4⟩:=a6
     have e1:ag (fun x=>x=c) H (H.wr c [i64 (fB st 1),.slice (some ⟨fb,0,none⟩) cs.length cs.length,ptr nb,.map (some mb)]):=(ag.refl (fun x=>x=c) _).wr (fun _=>rfl) _
     exact⟨rfl,ai a1,e1.own a2 (Ne.symm d1),⟨⟨fb,nb,ns,mb,ai a1,e1.own a2 (Ne.symm d1),a3.ext e1 (Ne.symm d2) (Ne.symm d3),a4.ext e1 (Ne.symm d4),⟨s1,s2,s3,s4,s5⟩,⟨d1,d2,d3,d4⟩,a7⟩,sY.1,sY.2,h4,fun x hx=>anB (h5 x hx) e1.size⟩,e1.mono fun x _ hx=>hx▸s1⟩
    ·rw[hs]
     exact⟨rfl,a1,a2,h',ag.refl _ _⟩
   have al:=(ana.1 hx).1
   have bl:=(ana.1 hy).1
   obtain⟨x1,x2,x3,x4⟩:=uf hx
   obtain⟨y1,y2,y3,y4⟩:=uf hy
   have fl:=iS cs
   refine v1 (ae b1) ?_
   refine⟨by omega,?_⟩
   refine v3 (ae b1) (ae b2) x4 ?_
   refine⟨by omega,?_⟩
   refine v2 (ae b1) x4 ?_
   refine⟨by omega,?_⟩
   refine v3 (ae b1) (ae b2) y4 ?_
   refine⟨by omega,?_⟩
   refine v2 x4 y4 ?_
   refine(ml x.2.1 x.2.2 y.2.1 y.2.2 _).mono ?_
   rintro _ H2 ⟨rfl,hf⟩
   refine vs ?_
   have b5:=b3.ext hf (fun _ _ h=>h)
   have b6:=b4.trans (hf.mono fun _ _ h=>h.elim)
   refine ak.dec (fun aK=>?_) (fun aK=>?_)<;>refine vs ?_
   ·exact .inr ⟨⟨ha,hb⟩,x,y,hx,hy,anx Value.bool (anp (show xU a b x y from .inl aK)).symm,b5,b6⟩
   ·refine ak.dec (fun heq=>?_) (fun heq=>?_)<;>refine vs ?_
    ·exact .inr ⟨⟨ha,hb⟩,x,y,hx,hy,anx Value.bool (by rw[decide_eq_decide];exact⟨fun hh=>.inr ⟨heq,hh⟩,fun hh=>hh.elim (fun e=>absurd e aK) (·.2)⟩),b5,b6⟩
    ·exact .inr ⟨⟨ha,hb⟩,x,y,hx,hy,anx Value.bool (anD (show¬xU a b x y from fun hh=>hh.elim aK (fun e=>heq e.1))).symm,b5,b6⟩
  ·exact .inl ⟨fun hc=>hb hc.2,rfl,rfl⟩
 ·exact .inl ⟨fun hc=>ha hc.1,rfl,rfl⟩
theorem bD.names{H H1:Hp}{c:Nat}{S:Nat→Prop}{st:Int}{cs:List Ce}{len:Nat}{rt rt':Nat→Nat}{aO:Int→Option Int}{fb nb ns mb:Nat}(h:bD H c S st cs len rt aO)
  (a1:H.own c=some [i64 st,.slice (some ⟨fb,0,none⟩) cs.length cs.length,ptr nb,.map (some mb)])(a2:H.own fb=some (cf cs))(a4:kM H mb (fun i=>(aO i).map i64))
  (a5:S c∧S fb∧S nb∧S ns∧S mb)(a6:c≠fb∧c≠nb∧c≠ns∧c≠mb)(a7:fb≠nb∧fb≠ns∧fb≠mb)(a8:nb≠mb∧ns≠mb)
  (n:eA H1 nb ns len rt' 65536)(e:ag (fun x=>x=nb∨x=ns) H H1):
  bD H1 c S st cs len rt' aO∧ag S H H1∧H1.own c=some [i64 st,.slice (some ⟨fb,0,none⟩) cs.length cs.length,ptr nb,.map (some mb)]∧kM H1 mb (fun i=>(aO i).map i64):=by
 obtain⟨s1,s2,s3,s4,s5⟩:=a5
 have b1:=e.own a1 (by omega)
 have b4:=a4.ext e (by omega)
 exact⟨⟨⟨fb,nb,ns,mb,b1,e.own a2 (by omega),n,b4,⟨s1,s2,s3,s4,s5⟩,a6,a7,a8⟩,h.st0,h.RW,h.CY,fun x hx=>anB (h.slt x hx) e.size⟩,e.mono fun x _ hx=>hx.elim (fun h=>h▸s3) (fun h=>h▸s4),b1,b4⟩
theorem qY{H:Hp}{c:Nat}{S:Nat→Prop}{st:Int}{cs:List Ce}{len:Nat}{rt:Nat→Nat}{aO:Int→Option Int}(h:bD H c S st cs len rt aO)(hl:∀x∈cs,x.1<len)(i:Int):
  af Tryz.prog gQ [ptr c,i64 i] H fun v H'=>ar (
   (¬cS cs i∧v= .tuple [i64 0,.bool false].toArray∧H=H')∨
   (cS cs i∧∃x,cs[i.toNat]? =some x∧v= .tuple [i64 (rt x.1.toNat),.bool true].toArray∧bD H' c S st cs len rt aO∧ag S H H')):=by
 have h':=h
 obtain⟨⟨fb,nb,ns,mb,a1,a2,a3,a4,a5,a6,a7,a8⟩,h2,h3,h4,h5⟩:=h
 refine aP xC ?_
 refine vs ?_
 refine(eO h' i).mono ?_
 rintro _ _ ⟨rfl,rfl⟩
 refine vs ?_
 refine ak.dec (fun hi=>?_) (fun hi=>?_)<;>refine vs ?_
 ·obtain⟨Ej,x,hx,fO⟩:=id hi
  have lG:=(ana.1 hx).1
  obtain⟨x1,x2,x3,x4⟩:=uf hx
  refine v1 (ae a1) ?_
  refine⟨by omega,?_⟩
  refine v4 (ae a2) x1 Nat.add_zero am9 ?_
  refine(CV a3 x.1).mono ?_
  rintro _ H1 (⟨hn,_⟩| ⟨_,rfl,n1,e1⟩)
  ·exact absurd ⟨fO,hl x (ang hx)⟩ hn
  refine vs ?_
  obtain⟨b1,b2,_⟩:=h'.names a1 a2 a4 a5 a6 a7 a8 n1 e1
  exact .inr ⟨hi,x,hx,rfl,b1,b2⟩
 ·exact .inl ⟨hi,rfl,rfl⟩
theorem Bs{H:Hp}{c:Nat}{S:Nat→Prop}{st:Int}{cs:List Ce}{len:Nat}{rt:Nat→Nat}{aO:Int→Option Int}(h:bD H c S st cs len rt aO)(i:Int):
  af Tryz.prog aZ [ptr c,i64 i] H fun v H'=>ar (bD H' c S st cs len rt aO∧ah H H'∧(
   (¬cS cs i∧v= .tuple [rZ 0 0,.bool false].toArray)∨
   (cS cs i∧∃x,cs[i.toNat]? =some x∧v= .tuple [rZ x.2.1 x.2.2,.bool true].toArray))):=by
 have e0:ah H (H.new 224 [.int .i64 0,.int .u64 0]):=(ag.refl _ _).new _ _
 have h':=h.ext e0 (fun _ _ h=>h)
 refine aP vj ?_
 refine vs ?_
 refine(eO h' i).mono ?_
 rintro _ _ ⟨rfl,rfl⟩
 refine vs ?_
 refine ak.dec (fun hi=>?_) (fun hi=>?_)<;>refine vs ?_
 ·obtain⟨Ej,x,hx,fO⟩:=id hi
  have lG:=(ana.1 hx).1
  obtain⟨x1,x2,x3,x4⟩:=uf hx
  have fl:=iS cs
  obtain⟨⟨fb,nb,ns,mb,a1,a2,a3,a4,a5,a6,a7,a8⟩,h2,h3,h4,h5⟩:=id h'
  refine v1 (ae a1) ?_
  refine⟨by omega,?_⟩
  refine v1 (ae a2) ?_
  refine⟨by omega,?_⟩
  simp(disch:=(first|omega| (simp only[Zs]<;>omega)|fail)) only[go_sem, ↓reduceIte,Zv,x4,pW (ax H 224 [.int .i64 0,.int .u64 0])]
  have e1:ah H ((H.new 224 [.int .i64 0,.int .u64 0]).wr H.size [i64 x.2.1,u64 x.2.2]):=e0.wr (fun h=>absurd h (Nat.lt_irrefl _)) _
  exact⟨h.ext e1 (fun _ _ h=>h),e1,.inr ⟨hi,x,hx,rfl⟩⟩
 ·simp(disch:=(first|omega| (simp only[Zs]<;>omega)|fail)) only[go_sem, ↓reduceIte,Zv,pW (ax H 224 [.int .i64 0,.int .u64 0])]
  have e1:ah H ((H.new 224 [.int .i64 0,.int .u64 0]).wr H.size [.int .i64 0,.int .u64 0]):=e0.wr (fun h=>absurd h (Nat.lt_irrefl _)) _
  exact⟨h.ext e1 (fun _ _ h=>h),e1,.inl ⟨hi,rfl⟩⟩
def cT(m:Int→Option Int)(i n:Int):Int→Option Int:=fun j=>if j=i then some n else m j
def qe(m:Int→Option Int)(i:Int):Int→Option Int:=fun j=>if j=i then none else m j
theorem JT(m:Int→Option Int)(i n:Int):Ij (fun j=>(m j).map i64) i (i64 n)=fun j=>(cT m i n j).map i64:=by
 funext j;unfold Ij cT;by_cases hj:j=i<;>simp[hj]
theorem JU(m:Int→Option Int)(i:Int):LL (fun j=>(m j).map i64) i=fun j=>(qe m i j).map i64:=by
 funext j;unfold LL qe;by_cases hj:j=i<;>simp[hj]
theorem Cl(m:Int→Option Int)(g:Int):gL false (Value.int .i64 0) ((m g).map i64)=i64 (dB m g):=by
 unfold dB;cases m g<;>rfl
theorem C0{H:Hp}{c:Nat}{S:Nat→Prop}{st:Int}{cs:List Ce}{len:Nat}{rt:Nat→Nat}{aO:Int→Option Int}(h:bD H c S st cs len rt aO)(hl:∀x∈cs,x.1<len)(i:Int)(hm:∀j,0≤dB aO j∧dB aO j≤1000000):
  af Tryz.prog gR [ptr c,i64 i] H fun v H'=>ar (
   (¬cS cs i∧v= .bool false∧H=H')∨
   (cS cs i∧v= .bool true∧∃x,cs[i.toNat]? =some x∧
    bD H' c S st (cs.set i.toNat (0,0,0)) len rt (if dB aO (rt x.1.toNat) - 1=0 then qe (cT aO (rt x.1.toNat) (dB aO (rt x.1.toNat) - 1)) (rt x.1.toNat)else cT aO (rt x.1.toNat) (dB aO (rt x.1.toNat) - 1))∧ag S H H')):=by
 refine aP xE ?_
 refine vs ?_
 refine(qY h hl i).mono ?_
 rintro _ H1 (⟨hi,rfl,rfl⟩| ⟨hi,x,hx,rfl,b1,b2⟩)
 ·refine vs ?_
  exact .inl ⟨hi,rfl,rfl⟩
 ·have lG:=(ana.1 hx).1
  have Ej:=hi.1
  have fl:=iS cs
  obtain⟨⟨fb,nb,ns,mb,a1,a2,a3,a4,a5,a6,a7,a8⟩,h2,h3,h4,h5⟩:=b1
  have hmg:=hm (rt x.1.toNat)
  refine v1 (ae a1) ?_
  refine⟨by omega,?_⟩
  refine v1 a2 ?_
  refine⟨by omega,?_⟩
  rw[show bf (cf cs) (i.toNat*3) (aF (Value.agg #[Value.int .i64 0,Value.int .i64 0,Value.int .u64 0]))=cf (cs.set i.toNat (0,0,0))from Ha cs i.toNat (0,0,0) (by omega)]
  have e2:ag (fun x=>x=fb) H1 (H1.wr fb (cf (cs.set i.toNat (0,0,0)))):=(ag.refl (fun x=>x=fb) _).wr (fun _=>rfl) _
  have c1:=e2.own a1 a6.1
  have c2:(H1.wr fb (cf (cs.set i.toNat (0,0,0)))).own fb=_:=ai a2
  have c3:=a3.ext e2 (Ne.symm a7.1) (Ne.symm a7.2.1)
  have c4:=a4.ext e2 (Ne.symm a7.2.2)
  refine v3 (ae c1) c4.look Cl ?_
  rw[wrap64 (by omega) (by omega)]
  refine c4.XV fun H2 m2 e3=>?_
  rw[JT]at m2
  have d1:=e3.own c1 a6.2.2.2
  have hs:dB (cT aO (rt x.1.toNat) (dB aO (rt x.1.toNat) - 1)) (rt x.1.toNat)=dB aO (rt x.1.toNat) - 1:=by simp[dB,cT]
  refine v4 (ae d1) m2.look Cl hs ?_
  have Fz:ag S H1 H2:=(e2.mono fun x _ hx=>hx▸a5.2.1).trans (e3.mono fun x _ hx=>hx▸a5.2.2.2.2)
  refine ak.dec (fun h0=>?_) (fun h0=>?_)<;>refine v1 (ae d1) ?_
  ·refine m2.del fun H3 m3 e4=>?_
   rw[JU]at m3
   refine vs ?_
   refine .inr ⟨hi,rfl,x,hx,?_,(b2.trans Fz).trans (e4.mono fun x _ hx=>hx▸a5.2.2.2.2)⟩
   rw[if_pos h0]
   exact⟨⟨fb,nb,ns,mb,by rw[anb];exact e4.own d1 a6.2.2.2,(e4.own (e3.own c2 a7.2.2) a7.2.2),(c3.ext e3 a8.1 a8.2).ext e4 a8.1 a8.2,m3,a5,a6,a7,a8⟩,h2,h3,by rw[anb];exact h4,fun x hx=>anB (h5 x hx) (an8 Fz.size e4.size)⟩
  ·refine .inr ⟨hi,rfl,x,hx,?_,b2.trans Fz⟩
   rw[if_neg h0]
   exact⟨⟨fb,nb,ns,mb,by rw[anb];exact d1,e3.own c2 a7.2.2,c3.ext e3 a8.1 a8.2,m2,a5,a6,a7,a8⟩,h2,h3,by rw[anb];exact h4,fun x hx=>anB (h5 x hx) Fz.size⟩
theorem LM(cs:List Ce)(i:Nat)(x:Ce)(k s:Int)(hx:cs[i]? =some x):bf (cf cs) (i*3+1) [i64 k,u64 s]=cf (cs.set i (x.1,k,s)):=by
 simp only[bf]
 induction cs generalizing i with
 |nil=>simp at hx
 |cons a r ih=>
  have e:cf (a::r)=i64 a.1::i64 a.2.1::u64 a.2.2::cf r:=rfl
  cases i with
  |zero=>
   simp at hx
   subst hx
   rfl
  |succ i=>
   have e2:cf ((a::r).set (i+1) (x.1,k,s))=i64 a.1::i64 a.2.1::u64 a.2.2::cf (r.set i (x.1,k,s)):=rfl
   rw[e,e2,show(i+1)*3+1=i*3+1+1+1+1 by omega]
   simp only[anV]
   rw[ih i (by simpa using hx)]
theorem Bu{H:Hp}{c:Nat}{S:Nat→Prop}{st:Int}{cs:List Ce}{len:Nat}{rt:Nat→Nat}{aO:Int→Option Int}(h:bD H c S st cs len rt aO)(i k s:Int):
  af Tryz.prog gm [ptr c,i64 i,rZ k s] H fun v H'=>ar (
   (¬ (cS cs i∧∀x,cs[i.toNat]? =some x→¬eX x.2.1 x.2.2 k s)∧v= .bool false∧bD H' c S st cs len rt aO∧ah H H')∨
   (cS cs i∧v= .bool true∧∃x,cs[i.toNat]? =some x∧¬eX x.2.1 x.2.2 k s∧bD H' c S st (cs.set i.toNat (x.1,k,s)) len rt aO∧ag S H H')):=by
 have e0:ah H (H.new 224 [i64 k,u64 s]):=(ag.refl _ _).new _ _
 have h':=h.ext e0 (fun _ _ h=>h)
 refine aP vl ?_
 simp(disch:=(first|omega| (simp only[Zs]<;>omega)|fail)) only[go_sem, ↓reduceIte,Zv,rZ]
 refine(eO h' i).mono ?_
 rintro _ _ ⟨rfl,rfl⟩
 refine vs ?_
 refine ak.dec (fun hi=>?_) (fun hi=>?_)<;>refine vs ?_
 ·obtain⟨Ej,x,hx,fO⟩:=id hi
  have lG:=(ana.1 hx).1
  obtain⟨x1,x2,x3,x4⟩:=uf hx
  have fl:=iS cs
  obtain⟨⟨fb,nb,ns,mb,a1,a2,a3,a4,a5,a6,a7,a8⟩,h2,h3,h4,h5⟩:=id h'
  refine v1 (ae a1) ?_
  refine⟨by omega,?_⟩
  refine v1 (ae a2) ?_
  refine⟨by omega,?_⟩
  refine v1 x4 ?_
  refine(CX x.2.1 x.2.2 k s _).mono ?_
  rintro _ H2 ⟨rfl,hf⟩
  have g1:=hf.own a1 (fun h=>h)
  have g2:=hf.own a2 (fun h=>h)
  have hr:=hf.own (ax H 224 [i64 k,u64 s]) (fun h=>h)
  refine vs ?_
  refine ak.dec (fun eY=>?_) (fun eY=>?_)<;>refine vs ?_
  ·exact .inl ⟨fun hc=>hc.2 x hx eY,rfl,h'.ext hf (fun _ _ h=>h),e0.trans hf⟩
  ·refine v2 (ae g1) (ae hr) ?_
   refine⟨by omega,?_⟩
   refine v3 (ae g1) (ae hr) g2 ?_
   refine⟨by omega,?_⟩
   refine vs ?_
   have AE:((cf cs).set (i.toNat*3+1) (i64 k)).set (i.toNat*3+1+1) (u64 s)=cf (cs.set i.toNat (x.1,k,s)):=LM cs i.toNat x k s hx
   rw[AE]
   have e3:ag (fun x=>x=fb) H2 (H2.wr fb (cf (cs.set i.toNat (x.1,k,s)))):=(ag.refl (fun x=>x=fb) _).wr (fun _=>rfl) _
   refine .inr ⟨hi,rfl,x,hx,eY,⟨⟨fb,nb,ns,mb,by rw[anb];exact e3.own g1 a6.1,ai g2,(a3.ext hf (fun h=>h) (fun h=>h)).ext e3 (Ne.symm a7.1) (Ne.symm a7.2.1),(a4.ext hf (fun h=>h)).ext e3 (Ne.symm a7.2.2),a5,a6,a7,a8⟩,h2,h3,by rw[anb];exact h4,fun x hx=>anB (h5 x hx) (an8 hf.size e3.size)⟩,
    ((e0.trans hf).mono fun _ _ h=>h.elim).trans (e3.mono fun x _ hx=>hx▸a5.2.1)⟩
 ·exact .inl ⟨fun hc=>hi hc.1,rfl,h',e0⟩
structure Nw where
 hs:List Bool
 cs:List Ce
def Nw.has(w:Nw)(h:Int):Prop:=1≤h∧w.hs[h.toNat]? =some true
instance(w:Nw)(h:Int):Decidable (w.has h):=inferInstanceAs (Decidable (_∧_))
def Nw.len(w:Nw)(h:Int):Int:=if 0<h then(w.cs.countP fun c=>decide (c.1=h):Nat)else 0
def Nw.put(w:Nw)(i:Int)(c:Ce):Nw:=⟨w.hs,w.cs.set i.toNat c⟩
def Nw.make(w:Nw):Nw:=⟨w.hs++[true],w.cs⟩
def Nw.ahead(w:Nw)(a b:Int):Bool:=
 decide (cS w.cs a) && decide (cS w.cs b) && (match w.cs[a.toNat]?,w.cs[b.toNat]? with|some x,some y=>decide (xU a b x y)|_,_=>false)
theorem Nw.xV(w:Nw)(h:Int):0≤w.len h∧w.len h≤w.cs.length:=by
 unfold Nw.len
 have:=ape (p:=fun c:Ce=>decide (c.1=h)) (l:=w.cs)
 split<;>omega
structure mq(w:Nw)(cs:List Ce)(len:Nat)(rt:Nat→Nat)(aO:Int→Option Int):Prop where
 hl:w.hs.length=len
 h0:w.hs[0]? =some false
 hh:∀h,1≤h→h<len→w.hs[h]? =some (decide (rt h=h))
 cl:w.cs=cs.map fun c=>(if 0<c.1 then((rt c.1.toNat:Nat):Int)else 0,c.2)
 lt:∀c∈cs,0≤c.1∧c.1<len
 mn:∀h:Int,dB aO h=w.len h
 low:∀i,i<len→rt i<len
 JI:∀i,i<len→rt (rt i)=rt i
 nz:∀i,i<len→rt i=0→i=0
def aY(H:Hp)(c:Nat)(S:Nat→Prop)(st:Int)(w:Nw):Prop:=∃cs len rt aO,bD H c S st cs len rt aO∧mq w cs len rt aO
theorem aY.ext{H H':Hp}{c:Nat}{S T:Nat→Prop}{st:Int}{w:Nw}(h:aY H c S st w)(e:ag T H H')(hd:∀x,S x→¬T x):aY H' c S st w:=by
 obtain⟨cs,len,rt,aO,h1,h2⟩:=h
 exact⟨cs,len,rt,aO,h1.ext e hd,h2⟩
theorem aY.fresh{H H':Hp}{c:Nat}{S:Nat→Prop}{st:Int}{w:Nw}(h:aY H c S st w)(e:ah H H'):aY H' c S st w:=h.ext e fun _ _ h=>h
theorem aY.slt{H:Hp}{c:Nat}{S:Nat→Prop}{st:Int}{w:Nw}(h:aY H c S st w):∀x,S x→x<H.size:=by
 obtain⟨cs,len,rt,aO,h1,h2⟩:=h
 exact h1.slt
theorem aY.NQ{H:Hp}{c:Nat}{S:Nat→Prop}{st:Int}{w:Nw}(h:aY H c S st w):S c:=by
 obtain⟨cs,len,rt,aO,⟨⟨fb,nb,ns,mb,_,_,_,_,s,_⟩,_⟩,h2⟩:=h
 exact s.1
theorem aY.CY{H:Hp}{c:Nat}{S:Nat→Prop}{st:Int}{w:Nw}(h:aY H c S st w):w.cs.length≤65536:=by
 obtain⟨cs,len,rt,aO,h1,h2⟩:=h
 rw[h2.cl,anz]
 exact h1.CY
theorem aY.st{H:Hp}{c:Nat}{S:Nat→Prop}{st:Int}{w:Nw}(h:aY H c S st w):0≤st∧st≤4611686018427387904:=by
 obtain⟨cs,len,rt,aO,h1,h2⟩:=h
 exact⟨h1.st0,h1.RW⟩
theorem mq.Lb{w:Nw}{cs:List Ce}{len:Nat}{rt:Nat→Nat}{aO:Int→Option Int}(h:mq w cs len rt aO)(i:Int):cS w.cs i↔cS cs i:=by
 unfold cS
 rw[h.cl]
 simp only[anA]
 constructor
 ·rintro⟨h0,c,hc,hp⟩
  cases hx:cs[i.toNat]? with
  |none=>rw[hx]at hc;cases hc
  |some x=>
   rw[hx]at hc
   simp only[Option.map_some,anl]at hc
   subst hc
   refine⟨h0,x,rfl,?_⟩
   by_cases fO:0<x.1
   ·exact fO
   ·simp[fO]at hp
 ·rintro⟨h0,x,hx,hp⟩
  refine⟨h0,_,by rw[hx];rfl,?_⟩
  have aK:=h.lt x (ang hx)
  simp only[if_pos hp]
  have hnz:rt x.1.toNat≠0:=fun e=>by have:=h.nz _ (by omega) e;omega
  omega
theorem mq.get{w:Nw}{cs:List Ce}{len:Nat}{rt:Nat→Nat}{aO:Int→Option Int}(h:mq w cs len rt aO){i:Nat}{x:Ce}(hx:cs[i]? =some x):w.cs[i]? =some (if 0<x.1 then((rt x.1.toNat:Nat):Int)else 0,x.2):=by
 rw[h.cl,anA,hx];rfl
theorem mq.Vo{w:Nw}{cs:List Ce}{len:Nat}{rt:Nat→Nat}{aO:Int→Option Int}(h:mq w cs len rt aO)(g:Int):w.has g↔(0<g∧g<len∧rt g.toNat=g.toNat):=by
 unfold Nw.has
 constructor
 ·rintro⟨h1,h2⟩
  have aK:=(ana.1 h2).1
  rw[h.hl]at aK
  rw[h.hh g.toNat (by omega) aK]at h2
  injection h2 with h2
  exact⟨by omega,by omega,of_decide_eq_true h2⟩
 ·rintro⟨h1,h2,h3⟩
  exact⟨by omega,by rw[h.hh g.toNat (by omega) (by omega),anp h3]⟩
theorem kN(cap:Int)(H:Hp):af Tryz.prog sw [i64 cap] H fun v H'=>ar (
  ah H H'∧((¬ (0≤cap∧cap≤65536)∧v= .tuple [.pointer none,i64 31].toArray)∨
   (0≤cap∧cap≤65536)∧∃c S,v= .tuple [ptr c,i64 0].toArray∧aY H' c S 0 ⟨[false],List.replicate cap.toNat (0,0,0)⟩∧(∀x,S x→H.size≤x))):=by
 refine(Eg cap H).mono ?_
 rintro _ H1 ⟨f,⟨h,rfl⟩| ⟨h,c,S,rfl,h1,h2⟩⟩
 ·exact⟨f,.inl ⟨h,rfl⟩⟩
 ·refine⟨f,.inr ⟨h,c,S,rfl,⟨_,_,_,_,h1,⟨rfl,rfl,fun h h1 h2=>by omega,?_,fun c hc=>?_,fun h=>?_,fun i hi=>hi,fun i hi=>rfl,fun i hi h=>h⟩⟩,h2⟩⟩
  ·simp
  ·rw[aor hc];exact⟨by omega,by simp⟩
  ·unfold Nw.len dB
   split
   ·simp only[Option.getD_none,List.countP_replicate]
    rw[if_neg (by simp;omega)];rfl
   ·rfl
theorem gM{H:Hp}{c:Nat}{S:Nat→Prop}{st:Int}{w:Nw}(h:aY H c S st w)(i:Int):
  af Tryz.prog bz [ptr c,i64 i] H fun v H'=>ar (v= .bool (decide (w.has i))∧H=H'):=by
 obtain⟨cs,len,rt,aO,h1,h2⟩:=h
 refine(sZ h1 i).mono ?_
 rintro _ _ ⟨rfl,rfl⟩
 exact⟨anx Value.bool (by rw[decide_eq_decide,h2.Vo]),rfl⟩
theorem qZ{H:Hp}{c:Nat}{S:Nat→Prop}{st:Int}{w:Nw}(h:aY H c S st w)(i:Int):
  af Tryz.prog iH [ptr c,i64 i] H fun v H'=>ar (v=i64 (w.len i)∧H=H'):=by
 obtain⟨cs,len,rt,aO,h1,h2⟩:=h
 refine(Eh h1 i).mono ?_
 rintro _ _ ⟨rfl,rfl⟩
 exact⟨by rw[h2.mn],rfl⟩
theorem jC{H:Hp}{c:Nat}{S:Nat→Prop}{st:Int}{w:Nw}(h:aY H c S st w):
  af Tryz.prog df [ptr c] H fun v H'=>ar (
   (w.hs.length=65537∧v=i64 0∧H=H')∨
   (w.hs.length≠65537∧v=i64 w.hs.length∧∃S',aY H' c S' st w.make∧ag S H H'∧∀x,S' x→S x∨H.size≤x)):=by
 obtain⟨cs,len,rt,aO,h1,h2⟩:=h
 refine(CZ h1).mono ?_
 have hl:=h2.hl
 rintro _ H1 (⟨e,rfl,rfl⟩| ⟨e,rfl,S',g1,g2,g3⟩)
 ·exact .inl ⟨by omega,rfl,rfl⟩
 ·refine .inr ⟨by omega,by rw[hl],S',⟨_,_,_,_,g1,?_⟩,g2,g3⟩
  have fP:0<w.hs.length:=(ana.1 h2.h0).1
  refine⟨by simp[Nw.make,hl],?_,fun h a1 a2=>?_,?_,fun c hc=>by have:=h2.lt c hc;omega,h2.mn,fun i hi=>?_,fun i hi=>?_,fun i hi hz=>?_⟩
  ·show(w.hs++[true])[0]? =some false
   rw[anq fP];exact h2.h0
  ·show(w.hs++[true])[h]? =_
   by_cases he:h=len
   ·subst he
    rw[anE (by omega),hl]
    simp
   ·rw[anq (by omega),h2.hh h a1 (by omega),if_neg he]
  ·show w.cs=_
   rw[h2.cl]
   apply apb
   intro x hx
   have:=h2.lt x hx
   by_cases h0:0<x.1
   ·simp only[if_pos h0];rw[if_neg (by omega)]
   ·simp only[if_neg h0]
  ·by_cases he:i=len
   ·simp[he]
   ·have:=h2.low i (by omega);simp only[if_neg he];omega
  ·by_cases he:i=len
   ·simp[he]
   ·have:=h2.low i (by omega)
    simp only[if_neg he]
    rw[if_neg (by omega)]
    exact h2.JI i (by omega)
  ·by_cases he:i=len
   ·simp only[if_pos he]at hz;omega
   ·simp only[if_neg he]at hz;exact h2.nz i (by omega) hz
theorem Gp{α:Type}(p:α→Bool):∀ (l:List α) (i:Nat) (x y:α),l[i]? =some x→(l.set i y).countP p+(if p x=true then 1 else 0)=l.countP p+(if p y=true then 1 else 0):=by
 intro l
 induction l with
 |nil=>intro i x y h;simp at h
 |cons a l ih=>
  intro i x y h
  cases i with
  |zero=>
   simp only[anG,anl]at h
   subst h
   simp only[aoD,aoq]
   omega
  |succ i=>
   have:=ih i x y (by simpa using h)
   simp only[anV,aoq]
   omega
theorem Nw.fR{w:Nw}{i:Int}{x y:Ce}(hx:w.cs[i.toNat]? =some x)(h:Int):(w.put i y).len h=w.len h - (if 0<h∧x.1=h then 1 else 0)+(if 0<h∧y.1=h then 1 else 0):=by
 unfold Nw.len Nw.put
 by_cases h0:0<h
 ·simp only[if_pos h0,h0,true_and]
  have:=Gp (fun c:Ce=>decide (c.1=h)) w.cs i.toNat x y hx
  simp only[anF]at this
  split at this<;>split at this<;>simp_all<;>omega
 ·simp only[if_neg h0,h0,false_and,if_false];rfl
theorem kO{H:Hp}{c:Nat}{S:Nat→Prop}{st:Int}{w:Nw}(h:aY H c S st w)(g i k s:Int):
  af Tryz.prog iI [ptr c,i64 g,i64 i,rZ k s] H fun v H'=>ar (
   (¬ (w.has g∧(0≤i∧i<w.cs.length)∧¬cS w.cs i)∧v= .bool false∧aY H' c S st w∧ag S H H')∨
   ((w.has g∧(0≤i∧i<w.cs.length)∧¬cS w.cs i)∧v= .bool true∧aY H' c S st (w.put i (g,k,s))∧ag S H H')):=by
 obtain⟨cs,len,rt,aO,h1,h2⟩:=h
 have mK:w.cs.length=cs.length:=by rw[h2.cl,anz]
 have aV:=w.xV g
 have vM:=h1.CY
 refine(Ei h1 g i k s (by rw[h2.mn];omega)).mono ?_
 rintro _ H1 (⟨e,rfl,g1,g2⟩| ⟨e,rfl,g1,g2⟩)
 ·exact .inl ⟨by rw[h2.Vo,h2.Lb,mK];exact e,rfl,⟨_,_,_,_,g1,h2⟩,g2⟩
 ·refine .inr ⟨by rw[h2.Vo,h2.Lb,mK];exact e,rfl,⟨_,_,_,_,g1,?_⟩,g2⟩
  obtain⟨x,hx⟩:∃x,cs[i.toNat]? =some x:=⟨_,am8 (by omega)⟩
  have fO:¬0<x.1:=fun fO=>e.2.2 ⟨e.2.1.1,x,hx,fO⟩
  have Nk:=h2.get hx
  rw[if_neg fO]at Nk
  refine⟨h2.hl,h2.h0,h2.hh,?_,fun y hy=>?_,fun j=>?_,h2.low,h2.JI,h2.nz⟩
  ·show w.cs.set i.toNat _=_
   rw[h2.cl,anY]
   simp only[if_pos e.1.1,e.1.2.2]
   congr 3
   omega
  ·rcases aoe hy with hy|rfl
   ·exact h2.lt y hy
   ·exact⟨by have:=e.1.1;simp only;omega,e.1.2.1⟩
  ·rw[Nw.fR Nk]
   by_cases hj:j=g
   ·subst hj
    have hg:=e.1.1
    rw[if_neg (by rintro⟨_,h⟩;omega),if_pos ⟨hg,rfl⟩,←h2.mn]
    simp[dB]
   ·rw[if_neg (by rintro⟨_,h⟩;omega),if_neg (by rintro⟨_,h⟩;exact hj h.symm),←h2.mn]
    simp[dB,hj]
theorem dZ{H:Hp}{c:Nat}{S:Nat→Prop}{st:Int}{w:Nw}(h:aY H c S st w)(i:Int):
  af Tryz.prog gQ [ptr c,i64 i] H fun v H'=>ar (
   (¬cS w.cs i∧v= .tuple [i64 0,.bool false].toArray∧H=H')∨
   (cS w.cs i∧∃x,w.cs[i.toNat]? =some x∧v= .tuple [i64 x.1,.bool true].toArray∧aY H' c S st w∧ag S H H')):=by
 obtain⟨cs,len,rt,aO,h1,h2⟩:=h
 refine(qY h1 (fun x hx=>(h2.lt x hx).2) i).mono ?_
 rintro _ H1 (⟨e,rfl,rfl⟩| ⟨e,x,hx,rfl,g1,g2⟩)
 ·exact .inl ⟨by rw[h2.Lb];exact e,rfl,rfl⟩
 ·obtain⟨e0,x',vN,hp⟩:=id e
  rw[hx]at vN
  injection vN with vN
  subst vN
  have hg:=h2.get hx
  rw[if_pos hp]at hg
  exact .inr ⟨by rw[h2.Lb];exact e,_,hg,rfl,⟨_,_,_,_,g1,h2⟩,g2⟩
theorem iT{H:Hp}{c:Nat}{S:Nat→Prop}{st:Int}{w:Nw}(h:aY H c S st w)(i:Int):
  af Tryz.prog aZ [ptr c,i64 i] H fun v H'=>ar (aY H' c S st w∧ah H H'∧(
   (¬cS w.cs i∧v= .tuple [rZ 0 0,.bool false].toArray)∨
   (cS w.cs i∧∃x,w.cs[i.toNat]? =some x∧v= .tuple [rZ x.2.1 x.2.2,.bool true].toArray))):=by
 obtain⟨cs,len,rt,aO,h1,h2⟩:=h
 refine(Bs h1 i).mono ?_
 rintro _ H1 ⟨g1,g2,⟨e,rfl⟩| ⟨e,x,hx,rfl⟩⟩
 ·exact⟨⟨_,_,_,_,g1,h2⟩,g2,.inl ⟨by rw[h2.Lb];exact e,rfl⟩⟩
 ·exact⟨⟨_,_,_,_,g1,h2⟩,g2,.inr ⟨by rw[h2.Lb];exact e,_,h2.get hx,rfl⟩⟩
theorem jD{H:Hp}{c:Nat}{S:Nat→Prop}{st:Int}{w:Nw}(h:aY H c S st w)(i:Int):
  af Tryz.prog gR [ptr c,i64 i] H fun v H'=>ar (
   (¬cS w.cs i∧v= .bool false∧H=H')∨
   (cS w.cs i∧v= .bool true∧aY H' c S st (w.put i (0,0,0))∧ag S H H')):=by
 obtain⟨cs,len,rt,aO,h1,h2⟩:=h
 have vM:=h1.CY
 have mK:w.cs.length=cs.length:=by rw[h2.cl,anz]
 refine(C0 h1 (fun x hx=>(h2.lt x hx).2) i (fun j=>by rw[h2.mn];have:=w.xV j;omega)).mono ?_
 rintro _ H1 (⟨e,rfl,rfl⟩| ⟨e,rfl,x,hx,g1,g2⟩)
 ·exact .inl ⟨by rw[h2.Lb];exact e,rfl,rfl⟩
 ·obtain⟨e0,x',vN,hp⟩:=id e
  rw[hx]at vN
  injection vN with vN
  subst vN
  have hg:=h2.get hx
  rw[if_pos hp]at hg
  have aK:=h2.lt x (ang hx)
  have hnz:rt x.1.toNat≠0:=fun e=>by have:=h2.nz _ (by omega) e;omega
  refine .inr ⟨by rw[h2.Lb];exact e,rfl,⟨_,_,_,_,g1,h2.hl,h2.h0,h2.hh,?_,fun y hy=>?_,fun j=>?_,h2.low,h2.JI,h2.nz⟩,g2⟩
  ·show w.cs.set i.toNat _=_
   rw[h2.cl,anY]
   rfl
  ·rcases aoe hy with hy|rfl
   ·exact h2.lt y hy
   ·exact⟨by simp only;omega,by simp only;omega⟩
  ·have hp:=Nw.fR (y:=((0:Int),(0:Int),(0:Int))) hg j
   simp only at hp
   have hm:=h2.mn j
   by_cases hj:j=rt x.1.toNat
   ·subst hj
    rw[if_pos ⟨by omega,rfl⟩,if_neg (by rintro⟨h1,h2⟩;omega)]at hp
    rw[hp,←hm]
    split
    ·rename_i hz
     simp only[dB]at hz
     simp only[dB,qe,if_true,Option.getD_none]
     omega
    ·simp[dB,cT]
   ·rw[if_neg (by rintro⟨_,h⟩;exact hj h.symm),if_neg (by rintro⟨h1,h2⟩;omega)]at hp
    rw[hp,←hm]
    split
    ·simp[dB,cT,qe,hj]
    ·simp[dB,cT,hj]
theorem iU{H:Hp}{c:Nat}{S:Nat→Prop}{st:Int}{w:Nw}(h:aY H c S st w)(i k s:Int):
  af Tryz.prog gm [ptr c,i64 i,rZ k s] H fun v H'=>ar (
   (¬ (cS w.cs i∧∀x,w.cs[i.toNat]? =some x→¬eX x.2.1 x.2.2 k s)∧v= .bool false∧aY H' c S st w∧ah H H')∨
   (cS w.cs i∧v= .bool true∧∃x,w.cs[i.toNat]? =some x∧¬eX x.2.1 x.2.2 k s∧aY H' c S st (w.put i (x.1,k,s))∧ag S H H')):=by
 obtain⟨cs,len,rt,aO,h1,h2⟩:=h
 refine(Bu h1 i k s).mono ?_
 rintro _ H1 (⟨e,rfl,g1,g2⟩| ⟨e,rfl,x,hx,hl,g1,g2⟩)
 ·refine .inl ⟨fun hc=>e ⟨(h2.Lb i).1 hc.1,fun x hx=>?_⟩,rfl,⟨_,_,_,_,g1,h2⟩,g2⟩
  have:=hc.2 _ (h2.get hx)
  exact this
 ·have hg:=h2.get hx
  refine .inr ⟨(h2.Lb i).2 e,rfl,_,hg,hl,⟨_,_,_,_,g1,h2.hl,h2.h0,h2.hh,?_,fun y hy=>?_,fun j=>?_,h2.low,h2.JI,h2.nz⟩,g2⟩
  ·show w.cs.set i.toNat _=_
   rw[h2.cl,anY]
  ·rcases aoe hy with hy|rfl
   ·exact h2.lt y hy
   ·exact h2.lt x (ang hx)
  ·rw[Nw.fR hg,←h2.mn]
   simp only
   split<;>omega
theorem iV{H:Hp}{c:Nat}{S:Nat→Prop}{st:Int}{w:Nw}(h:aY H c S st w)(a b:Int):
  af Tryz.prog cG [ptr c,i64 a,i64 b] H fun v H'=>ar (v= .bool (w.ahead a b)∧aY H' c S (if cS w.cs a∧cS w.cs b then fB st 1 else st) w∧ag S H H'):=by
 obtain⟨cs,len,rt,aO,h1,h2⟩:=h
 refine(Br h1 a b).mono ?_
 rintro _ H1 (⟨e,rfl,rfl⟩| ⟨e,x,y,hx,hy,rfl,g1,g2⟩)
 ·have e':¬ (cS w.cs a∧cS w.cs b):=fun hc=>e ⟨(h2.Lb a).1 hc.1,(h2.Lb b).1 hc.2⟩
  refine⟨anx Value.bool ?_,by rw[if_neg e'];exact⟨_,_,_,_,h1,h2⟩,ag.refl _ _⟩
  unfold Nw.ahead
  by_cases ha:cS w.cs a
  ·by_cases hb:cS w.cs b
   ·exact absurd ⟨ha,hb⟩ e'
   ·simp[hb]
  ·simp[ha]
 ·have ha:=(h2.Lb a).2 e.1
  have hb:=(h2.Lb b).2 e.2
  refine⟨anx Value.bool ?_,by rw[if_pos ⟨ha,hb⟩];exact⟨_,_,_,_,g1,h2⟩,g2⟩
  unfold Nw.ahead
  rw[anp ha,anp hb,h2.get hx,h2.get hy]
  rfl
theorem aY.yD{H:Hp}{c:Nat}{S:Nat→Prop}{st:Int}{w:Nw}(h:aY H c S st w):w.hs.length≤65537:=by
 obtain⟨cs,len,rt,aO,⟨⟨fb,nb,ns,mb,_,_,g,_⟩,_⟩,h2⟩:=h
 have:=g.le
 rw[h2.hl]
 omega
theorem aY.home{H:Hp}{c:Nat}{S:Nat→Prop}{st:Int}{w:Nw}(h:aY H c S st w):∀x∈w.cs,0≤x.1∧x.1<w.hs.length:=by
 obtain⟨cs,len,rt,aO,h1,h2⟩:=h
 intro x hx
 rw[h2.cl]at hx
 obtain⟨y,hy,rfl⟩:=anv.1 hx
 have h3:=h2.lt y hy
 rw[h2.hl]
 have h4:=h2.low y.1.toNat (by omega)
 have h5:0<len:=by
  have:=(ana.1 h2.h0).1
  rw[h2.hl]at this
  exact this
 simp only
 split<;>omega
theorem aY.live{H:Hp}{c:Nat}{S:Nat→Prop}{st:Int}{w:Nw}(h:aY H c S st w):∀x∈w.cs,0<x.1→w.hs[x.1.toNat]? =some true:=by
 obtain⟨cs,len,rt,aO,h1,h2⟩:=h
 intro x hx
 rw[h2.cl]at hx
 obtain⟨y,hy,rfl⟩:=anv.1 hx
 have h3:=h2.lt y hy
 simp only
 split
 ·intro h0
  have h4:=h2.low y.1.toNat (by omega)
  have h5:=h2.JI y.1.toNat (by omega)
  rw[show((rt y.1.toNat:Nat):Int).toNat=rt y.1.toNat by omega,h2.hh _ (by omega) h4,h5]
  simp
 ·intro h0;omega
theorem cI.Qi{H:Hp}{size n:Nat}{v:Value}{xs:List Value}(h:cI H size v n xs):∃a c,v= .slice a n c:=by
 obtain⟨_,⟨rfl,a,c,rfl⟩| ⟨b,o,c,l,rfl,_⟩⟩:=h
 ·exact⟨_,_,rfl⟩
 ·exact⟨_,_,rfl⟩
def Hb(H:Hp)(v:Value)(w:Nw)(A:Nat→Prop):Prop:=
 ∃ha hc ca cc,v= .agg [.slice ha w.hs.length hc,.slice ca w.cs.length cc].toArray∧cI H 1 (.slice ha w.hs.length hc) w.hs.length (w.hs.map .bool)∧cI H 3 (.slice ca w.cs.length cc) w.cs.length (cf w.cs)∧w.hs.length≤65537∧w.cs.length≤65536∧
  (∀x,ha=some x→A x.block)∧(∀x,ca=some x→A x.block)
theorem cI.aI{H H':Hp}{size n c:Nat}{a:Option Addr}{xs:List Value}{S:Nat→Prop}(h:cI H size (.slice a n c) n xs)(e:ag S H H')(hs:∀x,a=some x→¬S x.block):cI H' size (.slice a n c) n xs:=by
 obtain⟨hl,h| ⟨b,o,c',l,h1,h2,h3⟩⟩:=h
 ·exact⟨hl,.inl h⟩
 ·refine⟨hl,.inr ⟨b,o,c',l,h1,e.rd h2 ?_,h3⟩⟩
  injection h1 with h1 _ _
  exact hs _ h1
theorem Hb.ext{H H':Hp}{v:Value}{w:Nw}{A S:Nat→Prop}(h:Hb H v w A)(e:ag S H H')(hs:∀b,A b→¬S b):Hb H' v w A:=by
 obtain⟨ha,hc,ca,cc,rfl,h1,h2,h3,h4,a1,a2⟩:=h
 exact⟨ha,hc,ca,cc,rfl,cI.aI h1 e (fun x hx=>hs _ (a1 x hx)),cI.aI h2 e (fun x hx=>hs _ (a2 x hx)),h3,h4,a1,a2⟩
theorem Hb.fresh{H H':Hp}{v:Value}{w:Nw}{A:Nat→Prop}(h:Hb H v w A)(e:ah H H'):Hb H' v w A:=h.ext e fun _ _ h=>h
theorem Hc(k s k' s':Int):(JR k s k' s'<0↔eX k s k' s')∧(JR k s k' s'=0↔(k=k'∧s=s')):=by
 refine⟨JS k s k' s',?_⟩
 unfold JR XU zJ
 simp only[List.find?]
 by_cases h1:k<k'
 ·simp[h1];omega
 ·by_cases h2:k'<k
  ·simp[h1,h2];omega
  ·by_cases h3:s<s'
   ·simp[h1,h2,h3];omega
   ·by_cases h4:s'<s
    ·simp[h1,h2,h3,h4];omega
    ·simp[h1,h2,h3,h4];omega
theorem LN(a b:Int)(x y:Ce):xU a b x y↔(eX x.2.1 x.2.2 y.2.1 y.2.2∨(x.2.1=y.2.1∧x.2.2=y.2.2)∧a<b):=by
 unfold xU
 rw[(Hc _ _ _ _).1,(Hc _ _ _ _).2]
structure db(H:Hp)(r:Nat)(S:Nat→Prop)(d:Int)(l:List Int)(pl:Int→Option Int):Prop where
 Sv:∃sv fp mb,H.own r=some [i64 d,sv,.map (some mb)]∧Sl H 1 sv l.length (l.map i64) fp∧kM H mb (fun i=>(pl i).map i64)∧
  S r∧S mb∧r≠mb∧(∀b,fp=some b→S b∧b≠r∧b≠mb)
 slt:∀x,S x→x<H.size
theorem db.ext{H H':Hp}{r:Nat}{S T:Nat→Prop}{d:Int}{l:List Int}{pl:Int→Option Int}(h:db H r S d l pl)(e:ag T H H')(hd:∀x,S x→¬T x):db H' r S d l pl:=by
 obtain⟨⟨sv,fp,mb,a1,a2,a3,s1,s2,s3,s4⟩,h2⟩:=h
 exact⟨⟨sv,fp,mb,e.own a1 (hd _ s1),a2.ext e (fun b hb=>hd _ (s4 b hb).1),a3.ext e (hd _ s2),s1,s2,s3,s4⟩,fun x hx=>anB (h2 x hx) e.size⟩
theorem wC(d:Int)(H:Hp):af Tryz.prog Ls [i64 d] H fun v H'=>ar (
  ah H H'∧((¬cO d∧v= .tuple [.pointer none,i64 22].toArray)∨
   cO d∧∃r S,v= .tuple [ptr r,i64 0].toArray∧db H' r S d [] (fun _=>none)∧∀x,S x→H.size≤x)):=by
 refine aP Lx ?_
 refine vs ?_
 refine(mf d H).mono ?_
 rintro _ _ ⟨rfl,rfl⟩
 refine vs ?_
 refine ak.dec (fun h=>?_) (fun h=>?_)<;>refine vs ?_
 ·have e1:ah H (H.gS.new 310 [i64 d,.slice none 0 0,.map (some H.size)]):=((ag.refl _ _).gS).new _ _
  refine⟨e1,.inr ⟨h,H.size+1,fun x=>H.size≤x∧x<H.size+1+1,rfl,⟨⟨_,none,H.size,aQ (by simp only[hZ]),Sl.nil _ _,?_,?_,?_,?_,?_⟩,?_⟩,fun x hx=>hx.1⟩⟩
  ·exact(kM.new H).ext ((ag.refl (fun _=>False) _).new _ _) (fun h=>h)
  ·omega
  ·omega
  ·omega
  ·intro b hb;cases hb
  ·intro x hx
   simp only[am,hZ]
   exact hx.2
 ·exact⟨ag.refl _ _,.inl ⟨h,rfl⟩⟩
theorem Ik{H:Hp}{r:Nat}{S:Nat→Prop}{d:Int}{l:List Int}{pl:Int→Option Int}(h:db H r S d l pl)(i:Int):
  af Tryz.prog FT [ptr r,i64 i] H fun v H'=>ar (v=LF (if 0≤i then l[i.toNat]? else none)∧H=H'):=by
 obtain⟨⟨sv,fp,mb,a1,a2,a3,s1,s2,s3,s4⟩,h2⟩:=h
 refine aP F8 ?_
 refine vs ?_
 refine ak.dec (fun h=>?_) (fun h=>?_)<;>refine v1 (ae a1) ?_
 ·exact⟨by rw[if_neg (by omega)];rfl,rfl⟩
 ·cases fp with
  |none=>
   obtain⟨_,e,rfl⟩:=a2
   have hl:l=[]:=anL.1 e
   subst hl
   refine vs ?_
   refine ak.cK (by simp only[anF];omega) ?_
   refine vs ?_
   exact⟨by rw[if_pos (by omega)];rfl,rfl⟩
  |some b=>
   obtain⟨_,l',c,rfl,a4,a5,a6,a7⟩:=a2
   refine vs ?_
   refine ak.dec (fun h3=>?_) (fun h3=>?_)<;>refine v1 (ae a1) ?_
   ·exact⟨by rw[if_pos (by omega),ans (by omega)];rfl,rfl⟩
   ·obtain⟨x,hx⟩:∃x,l[i.toNat]? =some x:=⟨_,am8 (by omega)⟩
    have FA:l'[i.toNat]? =some (i64 x):=by
     have h1:(l.map i64)[i.toNat]? =some (i64 x):=by simp[hx]
     rw[←a7,anI (by omega)]at h1
     exact h1
    refine⟨by omega,?_⟩
    refine v3 (ae a4) ane FA ?_
    exact⟨by rw[if_pos (by omega),hx];rfl,rfl⟩
theorem jK{H:Hp}{r:Nat}{S:Nat→Prop}{d:Int}{l:List Int}{pl:Int→Option Int}(h:db H r S d l pl)(i x:Int)(hi:0≤i∧i<l.length):
  af Tryz.prog lX [ptr r,i64 i,i64 x] H fun v H'=>ar (v= .tuple [].toArray∧db H' r S d (l.set i.toNat x) (cT pl x i)∧ag S H H'):=by
 obtain⟨⟨sv,fp,mb,a1,a2,a3,s1,s2,s3,s4⟩,h2⟩:=h
 refine aP D2 ?_
 cases fp with
 |none=>obtain⟨_,e,_⟩:=a2;omega
 |some b=>
  have U8:=a2
  obtain⟨_,l',c,rfl,a4,a5,a6,a7⟩:=a2
  refine v1 (ae a1) ?_
  refine⟨by omega,?_⟩
  refine v2 a4 ane ?_
  refine⟨by omega,?_⟩
  obtain⟨JV,nA,SI⟩:=s4 b rfl
  have e1:ag (fun z=>z=b) H (H.wr b (l'.set i.toNat (i64 x))):=(ag.refl (fun z=>z=b) _).wr (fun _=>rfl) _
  have b1:=e1.own a1 (Ne.symm nA)
  have b2:=U8.sW a4 i.toNat (i64 x)
  have b3:=a3.ext e1 (Ne.symm SI)
  refine v1 (ae b1) ?_
  refine b3.XV fun H2 m2 e2=>?_
  rw[JT]at m2
  refine vs ?_
  refine⟨rfl,⟨⟨_,some b,mb,by exact e2.own b1 s3,?_,m2,s1,s2,s3,s4⟩,fun z hz=>anB (h2 z hz) (an8 e1.size e2.size)⟩,(e1.mono fun z _ hz=>hz▸JV).trans (e2.mono fun z _ hz=>hz▸s2)⟩
  rw[anb,anY]
  exact b2.ext e2 (fun z hz=>by injection hz with hz;exact hz▸SI)
structure LO(ov:Value)(I:Hp→Nat→Prop)(T:Nat→Prop)(lt:Int→Int→Bool)(D:Int→Prop:=fun _=>True):Prop where
 call:∀H n a b,D a→D b→I H n→gC Tryz.prog ov "Ahead" [i64 a,i64 b] H fun v H'=>v= .bool (lt a b)∧I H' (n+1)∧ag T H H'
 nil:Ow Tryz.prog (.func (.method "Ahead") #[ov] #[])
 aI:∀H H' n U,I H n→ag U H H'→(∀x,T x→¬U x)→I H' n
 tlt:∀H n,I H n→∀x,T x→x<H.size
structure UpR where
 l:List Int
 pl:Int→Option Int
 at_:Int
 asked:Nat
def eZ(lt:Int→Int→Bool)(d x:Int):Nat→List Int→(Int→Option Int)→Int→UpR
 |0,l,pl,i=>⟨l.set i.toNat x,cT pl x i,i,0⟩
 |m+1,l,pl,i=>match aW d i with
  |none=>⟨l.set i.toNat x,cT pl x i,i,0⟩
  |some p=>
   if lt x (l.getD p.toNat 0)=true then
    let r:=eZ lt d x m (l.set i.toNat (l.getD p.toNat 0)) (cT pl (l.getD p.toNat 0) i) p
    ⟨r.l,r.pl,r.at_,r.asked+1⟩
   else⟨l.set i.toNat x,cT pl x i,i,1⟩
theorem Qj(lt:Int→Int→Bool)(d x:Int):∀ (m m':Nat) (l:List Int) (pl:Int→Option Int) (i:Int),i.toNat≤m→i.toNat≤m'→eZ lt d x m l pl i=eZ lt d x m' l pl i:=by
 intro m
 induction m with
 |zero=>
  intro m' l pl i h _
  have hn:aW d i=none:=by unfold aW;rw[if_neg (by omega)]
  cases m'<;>simp[eZ,hn]
 |succ m ih=>
  intro m' l pl i h h'
  cases hp:aW d i with
  |none=>cases m'<;>simp[eZ,hp]
  |some p=>
   have hb:=eB hp
   cases m' with
   |zero=>omega
   |succ m'=>simp only[eZ,hp];rw[ih m' _ _ p (by omega) (by omega)]
theorem oJ{l:List Int}{i:Nat}{y z:Int}(h:z∈l.set i y):z=y∨z∈l:=(aoe h).symm
theorem SJ(lt:Int→Int→Bool)(d x:Int):∀ (m:Nat) (l:List Int) (pl:Int→Option Int) (i:Int),0≤i→i<l.length→∀z∈(eZ lt d x m l pl i).l,z=x∨z∈l:=by
 intro m
 induction m with
 |zero=>intro l pl i _ _ z hz;exact oJ hz
 |succ m ih=>
  intro l pl i h0 h1 z hz
  cases hp:aW d i with
  |none=>simp only[eZ,hp]at hz;exact oJ hz
  |some p=>
   have hb:=eB hp
   simp only[eZ,hp]at hz
   split at hz
   ·rcases ih _ _ p (by omega) (by rw[anb];omega) z hz with h|h
    ·exact .inl h
    ·rcases oJ h with h|h
     ·rw[h,anf,am8 (by omega)]
      exact .inr (List.getElem_mem _)
     ·exact .inr h
   ·exact oJ hz
theorem qf{ov:Value}{I:Hp→Nat→Prop}{T:Nat→Prop}{lt:Int→Int→Bool}{D:Int→Prop}(ho:LO ov I T lt D){H:Hp}{r:Nat}{S:Nat→Prop}{d:Int}{l:List Int}{pl:Int→Option Int}
  (h:db H r S d l pl)(hd:∀x,S x→¬T x){n:Nat}(hI:I H n)(i x:Int)(hi:0≤i∧i<l.length)(hl:l.length≤1000000)(hx:D x:=by trivial)(hD:∀z∈l,D z:=by intros;trivial):
  af Tryz.prog FU [ptr r,ov,i64 i,i64 x] H fun v H'=>ar (
   let R:=eZ lt d x i.toNat l pl i
   v=i64 R.at_∧db H' r S d R.l R.pl∧I H' (n+R.asked)∧ag (fun z=>S z∨T z) H H'):=by
 refine aP F9 ?_
 refine vs ?_
 refine aT.intro (fun m env H1=>∃ (l1:List Int) (zK:Int→Option Int) (i1:Int) (k:Nat),env=[(0,ptr r),(1,ov),(2,i64 i1),(3,i64 x)]∧(∀z∈l1,D z)∧m=i1.toNat∧0≤i1∧i1<l1.length∧l1.length=l.length∧
   db H1 r S d l1 zK∧I H1 (n+k)∧ag (fun z=>S z∨T z) H H1∧
   (eZ lt d x i.toNat l pl i).l=(eZ lt d x i1.toNat l1 zK i1).l∧(eZ lt d x i.toNat l pl i).pl=(eZ lt d x i1.toNat l1 zK i1).pl∧(eZ lt d x i.toNat l pl i).at_=(eZ lt d x i1.toNat l1 zK i1).at_∧
   (eZ lt d x i.toNat l pl i).asked=k+(eZ lt d x i1.toNat l1 zK i1).asked) i.toNat ⟨l,pl,i,0,rfl,hD,rfl,hi.1,hi.2,rfl,h,hI,ag.refl _ _,rfl,rfl,rfl,by omega⟩ ?_
 rintro m env H1 ⟨l1,zK,i1,k,rfl,Ub,rfl,i0,il,ll,h1,Zy,e1,u1,u2,u3,u4⟩
 obtain⟨⟨sv,fp,mb,a1,a2,a3,s1,s2,s3,s4⟩,h2⟩:=id h1
 have key:∀o:Option Int,LF o= .tuple [i64 (o.getD 0),.bool o.isSome].toArray:=by intro o;cases o<;>rfl
 refine v1 (ae a1) ?_
 refine(Bm d i1 (by omega) H1).mono ?_
 rintro _ _ ⟨rfl,rfl⟩
 rw[key]
 have stop:∀ (H2:Hp) (k2:Nat),db H2 r S d l1 zK→I H2 (n+k+k2)→ag (fun z=>S z∨T z) H H2→eZ lt d x i1.toNat l1 zK i1=⟨l1.set i1.toNat x,cT zK x i1,i1,k2⟩→
   af Tryz.prog lX [ptr r,i64 i1,i64 x] H2 fun _ H'=>(i64 i1=i64 (eZ lt d x i.toNat l pl i).at_∧db H' r S d (eZ lt d x i.toNat l pl i).l (eZ lt d x i.toNat l pl i).pl∧
    I H' (n+(eZ lt d x i.toNat l pl i).asked)∧ag (fun z=>S z∨T z) H H'):=by
  intro H2 k2 g1 g2 g3 g4
  refine(jK g1 i1 x ⟨i0,il⟩).mono ?_
  rintro _ H3 ⟨_,g5,g6⟩
  rw[u1,u2,u3,u4,g4]
  exact⟨rfl,g5,by rw[←apq];exact ho.aI _ _ _ _ g2 g6 (fun z hz hs=>hd z hs hz),g3.trans (g6.mono fun z _ hz=>.inl hz)⟩
 cases hp:aW d i1 with
 |none=>
  simp(disch:=(first|omega| (simp only[Zs]<;>omega)|fail)) only[go_sem, ↓reduceIte,Zv,Option.isSome_none]
  refine(stop H1 0 h1 Zy e1 ?_).mono ?_
  ·cases hm:i1.toNat<;>simp[eZ,hp,hm]
  ·rintro _ H3 ⟨g1,g2,g3,g4⟩
   refine vs ?_
   exact⟨g1,g2,g3,g4⟩
 |some p=>
  have Ox:=eB hp
  obtain⟨b,rfl⟩:∃b,fp=some b:=by
   cases fp with
   |none=>obtain⟨_,e,_⟩:=a2;omega
   |some b=>exact⟨b,rfl⟩
  obtain⟨_,l',c,rfl,a4,a5,a6,a7⟩:=a2
  obtain⟨y,hy⟩:∃y,l1[p.toNat]? =some y:=⟨_,am8 (by omega)⟩
  have CB:l'[p.toNat]? =some (i64 y):=by
   have h1:(l1.map i64)[p.toNat]? =some (i64 y):=by simp[hy]
   rw[←a7,anI (by omega)]at h1
   exact h1
  have hy3:l1.getD p.toNat 0=y:=by simp[List.getD,hy]
  simp(disch:=(first|omega| (simp only[Zs]<;>omega)|fail)) only[go_sem, ↓reduceIte,Zv,Option.isSome_some,Option.getD_some,ae a1]
  refine⟨by omega,?_⟩
  refine v3 (ae a4) ane CB ?_
  refine⟨ho.nil,?_⟩
  refine vs ?_
  refine gC.mono (ho.call H1 (n+k) x y hx (Ub y (ang hy)) Zy) ?_
  rintro _ H2 ⟨rfl,Pw,e2⟩
  have Qk:=h1.ext e2 hd
  have nT:=e1.trans (e2.mono fun z _ hz=>.inr hz)
  have b1:=e2.own a1 (hd _ s1)
  have b4:=e2.own a4 (hd _ (s4 b rfl).1)
  refine vs ?_
  cases aK:lt x y with
  |false=>
   refine vs ?_
   refine(stop H2 1 Qk Pw nT ?_).mono ?_
   ·obtain⟨q,hq⟩:∃q,i1.toNat=q+1:=⟨i1.toNat - 1,by omega⟩
    rw[hq]
    simp[eZ,hp,hy,aK,hq]
   ·rintro _ H3 ⟨g1,g2,g3,g4⟩
    refine vs ?_
    exact⟨g1,g2,g3,g4⟩
  |true=>
   refine v1 (ae b1) ?_
   refine⟨by omega,?_⟩
   refine v3 (ae b4) ane CB ?_
   refine(jK Qk i1 y ⟨i0,il⟩).mono ?_
   rintro _ H3 ⟨_,g5,g6⟩
   refine vs ?_
   obtain⟨q,hq⟩:∃q,i1.toNat=q+1:=⟨i1.toNat - 1,by omega⟩
   have DH:eZ lt d x i1.toNat l1 zK i1=⟨(eZ lt d x p.toNat (l1.set i1.toNat y) (cT zK y i1) p).l,(eZ lt d x p.toNat (l1.set i1.toNat y) (cT zK y i1) p).pl,(eZ lt d x p.toNat (l1.set i1.toNat y) (cT zK y i1) p).at_,
     (eZ lt d x p.toNat (l1.set i1.toNat y) (cT zK y i1) p).asked+1⟩:=by
    rw[Qj lt d x p.toNat q _ _ p (ano _) (by omega),hq]
    simp only[eZ,hp,hy3,aK,if_true,hq]
   refine⟨p.toNat,by omega,l1.set i1.toNat y,cT zK y i1,p,k+1,rfl,fun z hz=>(oJ hz).elim (fun e=>e▸Ub y (ang hy)) (Ub z),rfl,by omega,by rw[anb];omega,by rw[anb];exact ll,g5,
    ho.aI _ _ _ _ Pw g6 (fun z hz hs=>hd z hs hz),nT.trans (g6.mono fun z _ hz=>.inl hz),by rw[u1,DH],by rw[u2,DH],by rw[u3,DH],by rw[u4,DH];simp only;omega⟩
theorem Gq{ov:Value}{I:Hp→Nat→Prop}{T:Nat→Prop}{lt:Int→Int→Bool}{D:Int→Prop}(ho:LO ov I T lt D){H:Hp}{r:Nat}{S:Nat→Prop}{d:Int}{l:List Int}{pl:Int→Option Int}
  (h:db H r S d l pl)(hd:∀x,S x→¬T x){n:Nat}(hI:I H n)(x:Int)(hl:l.length<1000000)(hDx:D x:=by trivial)(hD:∀z∈l,D z:=by intros;trivial):
  af Tryz.prog DU [ptr r,ov,i64 x] H fun v H'=>ar (
   let R:=eZ lt d x l.length (l++[x]) pl l.length
   (pl x≠none∧v= .bool false∧H=H')∨
   (pl x=none∧v= .bool true∧∃S',db H' r S' d R.l R.pl∧I H' (n+R.asked)∧ag (fun z=>S z∨T z) H H'∧∀z,S' z→S z∨H.size≤z)):=by
 obtain⟨⟨sv,fp,mb,a1,a2,a3,s1,s2,s3,s4⟩,h2⟩:=id h
 have key:gL true (Value.int .i64 0) ((pl x).map i64)= .tuple [i64 ((pl x).getD 0),.bool (pl x).isSome].toArray:=by cases pl x<;>rfl
 refine aP D1 ?_
 refine v3 (ae a1) a3.look key ?_
 cases hx:pl x with
 |some p=>
  simp(disch:=(first|omega| (simp only[Zs]<;>omega)|fail)) only[go_sem, ↓reduceIte,Zv,Option.isSome_some]
  exact .inl ⟨by simp,rfl,rfl⟩
 |none=>
  simp(disch:=(first|omega| (simp only[Zs]<;>omega)|fail)) only[go_sem, ↓reduceIte,Zv,Option.isSome_none,ae a1]
  have hb:=az a1
  have e0:ag (fun _=>False) H (H.new 3 [i64 x]):=(ag.refl _ H).new 3 [i64 x]
  refine Sl.append (a2.ext e0 (fun _ _ h=>h)) (Sl.bP (size:=1) (xs:=[i64 x]) rfl rfl).rd rfl (sV [x]) (by omega) ?_
  intro v' H2 cJ hs r7 fN
  have b1:=r7.own (e0.own a1 (fun h=>h)) (fun e=>(s4 r e).2.1 rfl)
  have CU:=hs
  obtain⟨f,rfl⟩:∃f,cJ=some f:=by
   cases cJ with
   |none=>obtain⟨_,e,_⟩:=hs;omega
   |some f=>exact⟨f,rfl⟩
  obtain⟨_,l',c',rfl,g1,g2,g3,g4⟩:=CU
  have hf:(fp=some f)∨H.size≤f:=by
   rcases fN with h| ⟨z,h,h5,h6⟩
   ·exact .inl h.symm
   ·injection h with h;subst h;rw[am]at h5;exact .inr (by omega)
  have Vh:f≠r∧f≠mb:=by
   rcases hf with h|h
   ·exact(s4 f h).2
   ·have:=a3.lt;omega
  have e2:ag (fun z=>S z) H H2:=(e0.mono fun _ _ h=>h.elim).me r7 (fun z _ hz=>(s4 z hz).1)
  have e3:ag (fun z=>S z) H (H2.wr r [i64 d,.slice (some ⟨f,0,none⟩) (l.length+1) c',.map (some mb)]):=e2.wr (fun _=>s1) _
  have hr:db (H2.wr r [i64 d,.slice (some ⟨f,0,none⟩) (l.length+1) c',.map (some mb)]) r (fun z=>S z∨z=f) d (l++[x]) pl:=by
   have ew:ag (fun z=>z=r) H2 (H2.wr r [i64 d,.slice (some ⟨f,0,none⟩) (l.length+1) c',.map (some mb)]):=(ag.refl (fun z=>z=r) _).wr (fun _=>rfl) _
   refine⟨⟨.slice (some ⟨f,0,none⟩) (l.length+1) c',some f,mb,?_,?_,((a3.ext e0 (fun h=>h)).ext r7 (fun e=>(s4 mb e).2.2 rfl)).ext ew (Ne.symm s3),.inl s1,.inl s2,s3,fun b e=>by cases e;exact⟨.inr rfl,Vh⟩⟩,?_⟩
   ·exact ai b1
   ·rw[ank,anH];exact hs.ext ew (fun b e=>by injection e with e;subst e;exact Vh.1)
   ·rintro z (hz|rfl)
    ·exact anB (h2 z hz) e3.size
    ·rw[dT];exact az g1
  have iA:∀z,(S z∨z=f)→¬T z:=by
   rintro z (hz|rfl) ht
   ·exact hd z hz ht
   ·rcases hf with h|h
    ·exact hd _ (s4 _ h).1 ht
    ·have:=ho.tlt H n hI _ ht;omega
  have Pw:=ho.aI _ _ _ _ hI e3 (fun z hz hs=>hd z hs hz)
  simp(disch:=(first|omega| (simp only[Zs]<;>omega)|fail)) only[go_sem, ↓reduceIte,Zv,b1,pW b1]
  rw[wrap64 (by omega) (by omega),show((l.length+1:Nat):Int) - 1=(l.length:Int) by omega]
  refine(qf ho hr iA Pw l.length x ⟨by omega,by rw[ank,ant];omega⟩ (by rw[ank];simp;omega) hDx (fun z hz=>by rcases ann.1 hz with h|h;exact hD z h;rw[anj.1 h];exact hDx)).mono ?_
  rintro _ H3 ⟨_,r1,r2,r3⟩
  refine vs ?_
  refine .inr ⟨rfl,rfl,_,r1,r2,?_,?_⟩
  ·refine(e3.mono fun z _ hz=>Or.inl hz).me r3 ?_
   rintro z hz ((h|rfl)|h)
   ·exact .inl h
   ·rcases hf with h|h
    ·exact .inl (s4 _ h).1
    ·omega
   ·exact .inr h
  ·rintro z (h|rfl)
   ·exact .inl h
   ·rcases hf with h|h
    ·exact .inl (s4 _ h).1
    ·exact .inr h
theorem C1{ov:Value}{I:Hp→Nat→Prop}{T:Nat→Prop}{lt:Int→Int→Bool}{D:Int→Prop}(ho:LO ov I T lt D){H:Hp}{r:Nat}{S:Nat→Prop}{d:Int}{l:List Int}{pl:Int→Option Int}
  (h:db H r S d l pl)(hd:∀x,S x→¬T x){n:Nat}(hI:I H n)(x:Int)(hl:l.length≤1000000)(hp:∀i,pl x=some i→0≤i∧i<l.length)(hDx:D x:=by trivial)(hD:∀z∈l,D z:=by intros;trivial):
  af Tryz.prog AQ [ptr r,ov,i64 x] H fun v H'=>ar (
   (pl x=none∧v= .bool false∧H=H')∨
   (∃i,pl x=some i∧v= .bool true∧db H' r S d (eZ lt d x i.toNat l pl i).l (eZ lt d x i.toNat l pl i).pl∧I H' (n+(eZ lt d x i.toNat l pl i).asked)∧ag (fun z=>S z∨T z) H H')):=by
 obtain⟨⟨sv,fp,mb,a1,a2,a3,s1,s2,s3,s4⟩,h2⟩:=id h
 have key:gL true (Value.int .i64 0) ((pl x).map i64)= .tuple [i64 ((pl x).getD 0),.bool (pl x).isSome].toArray:=by cases pl x<;>rfl
 refine aP Ba ?_
 refine v3 (ae a1) a3.look key ?_
 cases hx:pl x with
 |none=>
  simp(disch:=(first|omega| (simp only[Zs]<;>omega)|fail)) only[go_sem, ↓reduceIte,Zv,Option.isSome_none]
  exact .inl ⟨rfl,rfl,rfl⟩
 |some i=>
  simp(disch:=(first|omega| (simp only[Zs]<;>omega)|fail)) only[go_sem, ↓reduceIte,Zv,Option.isSome_some,Option.getD_some]
  refine(qf ho h hd hI i x (hp i hx) hl hDx hD).mono ?_
  rintro _ H3 ⟨_,r1,r2,r3⟩
  refine vs ?_
  exact .inr ⟨i,rfl,rfl,r1,r2,r3⟩
theorem zL{H:Hp}{v:Value}{n:Nat}{xs:List Int}(h:cI H 1 v n (xs.map i64))(hn:n≤1000000):
  af Tryz.prog pq [v] H fun r H'=>ar (ah H H'∧∃fp,Sl H' 1 r n (xs.map i64) fp∧∀b,fp=some b→H.size≤b∧b<H'.size):=by
 refine aP pI ?_
 have hv:∃a c,v= .slice a n c:=by
  obtain⟨_,⟨rfl,a,c,rfl⟩| ⟨b,o,c,l,rfl,_⟩⟩:=h
  ·exact⟨_,_,rfl⟩
  ·exact⟨_,_,rfl⟩
 obtain⟨a,c,rfl⟩:=hv
 refine vs ?_
 cases a with
 |none=>
  have JW:n=0:=by
   obtain⟨_,⟨rfl,_⟩| ⟨b,o,c,l,e,_⟩⟩:=h
   ·rfl
   ·cases e
  have hx:xs.map i64=[]:=anL.1 (by have:=h.1;simpa[JW]using this)
  simp(disch:=(first|omega| (simp only[Zs]<;>omega)|fail)) only[go_sem, ↓reduceIte,Zv,Option.isNone_none]
  rw[hx,JW]
  exact⟨ag.refl _ _,none,Sl.nil H 1,fun b hb=>by cases hb⟩
 |some ad=>
  simp(disch:=(first|omega| (simp only[Zs]<;>omega)|fail)) only[go_sem, ↓reduceIte,Zv,Option.isNone_some]
  have e0:ag (fun _=>False) H (H.new 3 []):=(ag.refl _ H).new 3 []
  refine Sl.append (Sl.bP (size:=1) (n:=0) (xs:=[]) rfl rfl) (h.fresh e0) rfl (sV xs) (by omega) ?_
  intro v' H2 cJ hs r7 fN
  refine vs ?_
  refine⟨ag.me e0 r7 (fun z hz Nd=>by injection Nd with Nd;omega),cJ,by simpa[Jn]using hs,?_⟩
  intro z hz
  have Of:=r7.size
  rw[am]at Of
  rcases fN with h| ⟨y,h,h5,h6⟩
  ·rw[h]at hz;injection hz with hz;omega
  ·rw[h]at hz;injection hz with hz;subst hz;rw[am]at h5;omega
def bN(lt:Int→Int→Bool)(l:List Int)(d i:Int):Nat→Int→Int×Nat
 |0,bQ=>(bQ,0)
 |m+1,bQ=>
  if d*i+(d - m)<l.length then
   let r:=bN lt l d i m (if lt (l.getD (d*i+(d - m)).toNat 0) (l.getD bQ.toNat 0)=true then d*i+(d - m)else bQ)
   (r.1,r.2+1)
  else bN lt l d i m bQ
theorem db.read{H:Hp}{r:Nat}{S:Nat→Prop}{d:Int}{l:List Int}{pl:Int→Option Int}(h:db H r S d l pl)(hl:0<l.length):
  ∃f l' c mb,H.own r=some [i64 d,.slice (some ⟨f,0,none⟩) l.length c,.map (some mb)]∧H.own f=some l'∧∀ (i:Nat) (x:Int),l[i]? =some x→l'[i]? =some (i64 x):=by
 obtain⟨⟨sv,fp,mb,a1,a2,a3,s1,s2,s3,s4⟩,h2⟩:=h
 cases fp with
 |none=>obtain⟨_,e,_⟩:=a2;omega
 |some f=>
  obtain⟨_,l',c,rfl,a4,a5,a6,a7⟩:=a2
  refine⟨f,l',c,mb,a1,a4,?_⟩
  intro i x hx
  have hi:=(ana.1 hx).1
  have h1:(l.map i64)[i]? =some (i64 x):=by simp[hx]
  rw[←a7,anI (by omega)]at h1
  exact h1
theorem C2{ov:Value}{I:Hp→Nat→Prop}{T:Nat→Prop}{lt:Int→Int→Bool}{D:Int→Prop}(ho:LO ov I T lt D){H:Hp}{r:Nat}{S:Nat→Prop}{d:Int}{l:List Int}{pl:Int→Option Int}
  (h:db H r S d l pl)(hd:∀x,S x→¬T x){n:Nat}(hI:I H n)(hf:cO d)(i:Int)(hi:0≤i∧i<l.length)(hl:l.length≤1000000)(hD:∀z∈l,D z:=by intros;trivial):
  af Tryz.prog AS [ptr r,ov,i64 i] H fun v H'=>ar (
   ((l.length:Int)≤d*i+1∧v= .tuple [i64 0,.bool false].toArray∧H=H')∨
   (d*i+1<l.length∧v= .tuple [i64 (bN lt l d i (d - 1).toNat (d*i+1)).1,.bool true].toArray∧db H' r S d l pl∧I H' (n+(bN lt l d i (d - 1).toNat (d*i+1)).2)∧ag T H H')):=by
 obtain⟨f,l',c,mb,a1,a2,a3⟩:=h.read (by omega)
 have Zz:=hf.1
 have hf2:=hf.2
 have hc:∀k,1≤k→k≤d→pX d i k=some (d*i+k):=fun k h1 h2=>by unfold pX;rw[if_pos ⟨hf,by omega,by omega,h1,h2⟩]
 have hb:=pY (i:=i) hf (by omega) (by omega) (by omega:(1:Int)≤1) (by omega)
 refine aP Bc ?_
 refine v1 (ae a1) ?_
 refine(qW d i 1 H).mono ?_
 rintro _ _ ⟨rfl,rfl⟩
 rw[hc 1 (by omega) (by omega)]
 simp(disch:=(first|omega| (simp only[Zs]<;>omega)|fail)) only[go_sem, ↓reduceIte,Zv,LF,ae a1]
 refine ak.dec (fun h1=>?_) (fun h1=>?_)<;>refine vs ?_
 ·exact .inl ⟨by omega,rfl,rfl⟩
 ·refine aT.intro (fun m env H1=>∃ (bQ:Int) (k:Nat),env=[(0,ptr r),(1,ov),(2,i64 i),(8,i64 bQ),(10,i64 (d+1 - m))]∧(m:Int)≤d - 1∧0≤bQ∧bQ<l.length∧
   db H1 r S d l pl∧I H1 (n+k)∧ag T H H1∧
   (bN lt l d i (d - 1).toNat (d*i+1)).1=(bN lt l d i m bQ).1∧(bN lt l d i (d - 1).toNat (d*i+1)).2=k+(bN lt l d i m bQ).2) (d - 1).toNat
   ⟨d*i+1,0,by rw[show d+1 - ((d - 1).toNat:Int)=2 by omega],by omega,by omega,by omega,h,hI,ag.refl _ _,rfl,by omega⟩ ?_
  rintro m env H1 ⟨bQ,k,rfl,hm,b0,b1,r1,i1,e1,u1,u2⟩
  obtain⟨f1,l1,c1,mb1,g1,g2,g3⟩:=r1.read (by omega)
  refine v1 (ae g1) ?_
  refine ak.dec (fun hk=>?_) (fun hk=>?_)<;>refine vs ?_
  ·obtain⟨q,rfl⟩:∃q,m=q+1:=⟨m - 1,by omega⟩
   rw[show d+1 - ((q+1:Nat):Int)=d - q by omega]at*
   refine v1 (ae g1) ?_
   refine(qW d i (d - q) H1).mono ?_
   rintro _ _ ⟨rfl,rfl⟩
   have Fv:=pY (i:=i) hf (by omega) (by omega) (by omega:(1:Int)≤d - q) (by omega)
   rw[hc (d - q) (by omega) (by omega)]
   simp(disch:=(first|omega| (simp only[Zs]<;>omega)|fail)) only[go_sem, ↓reduceIte,Zv,LF,ae g1]
   refine ak.dec (fun mK=>?_) (fun mK=>?_)<;>refine vs ?_
   ·obtain⟨x,hx⟩:∃x,l[(d*i+(d - q)).toNat]? =some x:=⟨_,am8 (by omega)⟩
    obtain⟨y,hy⟩:∃y,l[bQ.toNat]? =some y:=⟨_,am8 (by omega)⟩
    have vN:=g3 _ _ hx
    have Ek:=g3 _ _ hy
    refine v1 (ae g1) ?_
    refine⟨by omega,?_⟩
    refine v4 (ae g1) (ae g2) ane vN ?_
    refine⟨by omega,?_⟩
    refine v3 (ae g2) ane Ek ?_
    refine⟨ho.nil,?_⟩
    refine vs ?_
    refine gC.mono (ho.call H1 (n+k) x y (hD x (ang hx)) (hD y (ang hy)) i1) ?_
    rintro _ H2 ⟨rfl,Pw,e2⟩
    have DG:∀z,z=(if lt x y=true then d*i+(d - q)else bQ)→bN lt l d i (q+1) bQ=((bN lt l d i q z).1,(bN lt l d i q z).2+1):=by
     intro z hz
     rw[bN,if_pos mK]
     simp only[List.getD,hx,hy,Option.getD_some,hz]
    refine vs ?_
    refine ak.intro (fun aK=>?_) (fun aK=>?_)<;>refine vs ?_
    ·rw[wrap64 (by omega) (by omega)]
     exact⟨q,by omega,d*i+(d - q),k+1,by rw[show d+1 - (q:Int)=d - q+1 by omega],by omega,by omega,by omega,r1.ext e2 hd,Pw,e1.trans e2,
      by rw[u1,DG (d*i+(d - q)) (by rw[if_pos aK])],by rw[u2,DG (d*i+(d - q)) (by rw[if_pos aK])];simp only;omega⟩
    ·rw[wrap64 (by omega) (by omega)]
     exact⟨q,by omega,bQ,k+1,by rw[show d+1 - (q:Int)=d - q+1 by omega],by omega,by omega,by omega,r1.ext e2 hd,Pw,e1.trans e2,
      by rw[u1,DG bQ (by rw[if_neg (by rw[aK];simp)])],by rw[u2,DG bQ (by rw[if_neg (by rw[aK];simp)])];simp only;omega⟩
   ·rw[wrap64 (by omega) (by omega)]
    have DG:bN lt l d i (q+1) bQ=bN lt l d i q bQ:=by rw[bN,if_neg mK]
    exact⟨q,by omega,bQ,k,by rw[show d+1 - (q:Int)=d - q+1 by omega],by omega,by omega,by omega,r1,i1,e1,by rw[u1,DG],by rw[u2,DG]⟩
  ·have h0:m=0:=by omega
   subst h0
   refine .inr ⟨by omega,?_,r1,?_,e1⟩
   ·rw[u1];rfl
   ·rw[u2];exact i1
def cP(lt:Int→Int→Bool)(d x:Int):Nat→List Int→(Int→Option Int)→Int→List Int×(Int→Option Int)×Nat
 |0,l,pl,i=>(l.set i.toNat x,cT pl x i,0)
 |m+1,l,pl,i=>
  if(l.length:Int)≤d*i+1 then(l.set i.toNat x,cT pl x i,0)
  else
   let b:=bN lt l d i (d - 1).toNat (d*i+1)
   let y:=l.getD b.1.toNat 0
   if lt y x=true then
    let r:=cP lt d x m (l.set i.toNat y) (cT pl y i) b.1
    (r.1,r.2.1,r.2.2+b.2+1)
   else(l.set i.toNat x,cT pl x i,b.2+1)
theorem j6(lt:Int→Int→Bool)(l:List Int)(d i:Int)(h:0≤d*i):∀ (m:Nat) (bQ:Int),(m:Int)≤d - 1→d*i+1≤bQ→bQ<l.length→d*i+1≤(bN lt l d i m bQ).1∧(bN lt l d i m bQ).1<l.length:=by
 intro m
 induction m with
 |zero=>intro bQ _ h1 h2;exact⟨h1,h2⟩
 |succ m ih=>
  intro bQ hm h1 h2
  unfold bN
  split
  ·simp only
   split
   ·exact ih _ (by omega) (by omega) (by omega)
   ·exact ih _ (by omega) h1 h2
  ·exact ih _ (by omega) h1 h2
theorem mr{d i b:Int}(hf:cO d)(hi:0≤i)(hb:d*i+1≤b):i<b:=by
 have h1:=hf.1
 have:1*i≤d*i:=aoO (by omega) hi
 omega
theorem LP(lt:Int→Int→Bool)(d x:Int)(hf:cO d):∀ (m m':Nat) (l:List Int) (pl:Int→Option Int) (i:Int),0≤i→l.length≤i.toNat+m→l.length≤i.toNat+m'→
  cP lt d x m l pl i=cP lt d x m' l pl i:=by
 have hz:∀ (m:Nat) (l:List Int) (pl:Int→Option Int) (i:Int),0≤i→l.length≤i.toNat→cP lt d x m l pl i=(l.set i.toNat x,cT pl x i,0):=by
  intro m l pl i hi hl
  cases m with
  |zero=>rfl
  |succ m=>
   have h1:=hf.1
   have:1*i≤d*i:=aoO (by omega) hi
   rw[cP,if_pos (by omega)]
 intro m
 induction m with
 |zero=>intro m' l pl i hi h h';rw[hz 0 l pl i hi (by omega),hz m' l pl i hi (by omega)]
 |succ m ih=>
  intro m' l pl i hi h h'
  cases m' with
  |zero=>rw[hz 0 l pl i hi (by omega),hz (m+1) l pl i hi (by omega)]
  |succ m'=>
   rw[cP,cP]
   split
   ·rfl
   ·rename_i hc
    have h1:=hf.1
    have RX:0≤d*i:=aoV (by omega) hi
    have hb:=j6 lt l d i RX (d - 1).toNat (d*i+1) (by omega) (by omega) (by omega)
    have aK:=mr hf hi hb.1
    simp only
    split
    ·rw[ih m' _ _ _ (by omega) (by rw[anb];omega) (by rw[anb];omega)]
    ·rfl
theorem El{ov:Value}{I:Hp→Nat→Prop}{T:Nat→Prop}{lt:Int→Int→Bool}{D:Int→Prop}(ho:LO ov I T lt D){H:Hp}{r:Nat}{S:Nat→Prop}{d:Int}{l:List Int}{pl:Int→Option Int}
  (h:db H r S d l pl)(hd:∀x,S x→¬T x){n:Nat}(hI:I H n)(hf:cO d)(i x:Int)(hi:0≤i∧i<l.length)(hl:l.length≤1000000)(hx:D x:=by trivial)(hD:∀z∈l,D z:=by intros;trivial):
  af Tryz.prog CF [ptr r,ov,i64 i,i64 x] H fun v H'=>ar (
   let R:=cP lt d x l.length l pl i
   db H' r S d R.1 R.2.1∧I H' (n+R.2.2)∧ag (fun z=>S z∨T z) H H'):=by
 refine aP CL ?_
 refine vs ?_
 refine aT.intro (fun m env H1=>∃ (l1:List Int) (zK:Int→Option Int) (i1:Int) (k:Nat),env=[(0,ptr r),(1,ov),(2,i64 i1),(3,i64 x)]∧(∀z∈l1,D z)∧m=l1.length - i1.toNat∧0≤i1∧i1<l1.length∧l1.length=l.length∧
   db H1 r S d l1 zK∧I H1 (n+k)∧ag (fun z=>S z∨T z) H H1∧
   (cP lt d x l.length l pl i).1=(cP lt d x l1.length l1 zK i1).1∧(cP lt d x l.length l pl i).2.1=(cP lt d x l1.length l1 zK i1).2.1∧
   (cP lt d x l.length l pl i).2.2=k+(cP lt d x l1.length l1 zK i1).2.2) (l.length - i.toNat) ⟨l,pl,i,0,rfl,hD,rfl,hi.1,hi.2,rfl,h,hI,ag.refl _ _,rfl,rfl,by omega⟩ ?_
 rintro m env H1 ⟨l1,zK,i1,k,rfl,Ub,rfl,i0,il,ll,h1,Zy,e1,u1,u2,u3⟩
 have NU:=hf.1
 have RX:0≤d*i1:=aoV (by omega) i0
 have stop:∀ (H2:Hp) (k2:Nat),db H2 r S d l1 zK→I H2 (n+k+k2)→ag (fun z=>S z∨T z) H H2→cP lt d x l1.length l1 zK i1=(l1.set i1.toNat x,cT zK x i1,k2)→
   af Tryz.prog lX [ptr r,i64 i1,i64 x] H2 fun _ H'=>(db H' r S d (cP lt d x l.length l pl i).1 (cP lt d x l.length l pl i).2.1∧
    I H' (n+(cP lt d x l.length l pl i).2.2)∧ag (fun z=>S z∨T z) H H'):=by
  intro H2 k2 g1 g2 g3 g4
  refine(jK g1 i1 x ⟨i0,il⟩).mono ?_
  rintro _ H3 ⟨_,g5,g6⟩
  rw[u1,u2,u3,g4]
  exact⟨g5,by rw[←apq];exact ho.aI _ _ _ _ g2 g6 (fun z hz hs=>hd z hs hz),g3.trans (g6.mono fun z _ hz=>.inl hz)⟩
 obtain⟨q,hq⟩:∃q,l1.length=q+1:=⟨l1.length - 1,by omega⟩
 refine vs ?_
 refine(C2 ho h1 hd Zy hf i1 ⟨i0,il⟩ (by omega) Ub).mono ?_
 rintro _ H2 (⟨hc,rfl,rfl⟩| ⟨hc,rfl,h2,Pw,e2⟩)
 ·refine vs ?_
  refine(stop H1 0 h1 Zy e1 ?_).mono ?_
  ·rw[hq,cP,if_pos hc]
  ·rintro _ H3 ⟨g1,g2,g3⟩
   refine vs ?_
   exact⟨g1,g2,g3⟩
 ·have hb:=j6 lt l1 d i1 RX (d - 1).toNat (d*i1+1) (by omega) (by omega) hc
  have aK:=mr hf i0 hb.1
  obtain⟨f1,l',c1,mb1,g1,g2,g3⟩:=h2.read (by omega)
  obtain⟨y,hy⟩:∃y,l1[(bN lt l1 d i1 (d - 1).toNat (d*i1+1)).1.toNat]? =some y:=⟨_,am8 (by omega)⟩
  have Ek:=g3 _ _ hy
  have hy3:l1.getD (bN lt l1 d i1 (d - 1).toNat (d*i1+1)).1.toNat 0=y:=by rw[anf,hy];rfl
  have nT:=e1.trans (e2.mono fun z _ hz=>.inr hz)
  refine v1 (ae g1) ?_
  refine⟨by omega,?_⟩
  refine v3 (ae g2) ane Ek ?_
  refine⟨ho.nil,?_⟩
  refine vs ?_
  refine gC.mono (ho.call H2 _ y x (Ub y (ang hy)) hx Pw) ?_
  rintro _ H3 ⟨rfl,hI3,e3⟩
  have h3:=h2.ext e3 hd
  have C3:=nT.trans (e3.mono fun z _ hz=>.inr hz)
  obtain⟨f4,l4,c4,mb4,k1,k2,k3⟩:=h3.read (by omega)
  have hy4:=k3 _ _ hy
  refine vs ?_
  cases lO:lt y x with
  |false=>
   refine vs ?_
   refine(stop H3 ((bN lt l1 d i1 (d - 1).toNat (d*i1+1)).2+1) h3 (by rw[←apq];exact hI3) C3 ?_).mono ?_
   ·rw[hq,cP,if_neg (by omega)]
    simp only[hy3,lO]
    rfl
   ·rintro _ H4 ⟨g1,g2,g3⟩
    refine vs ?_
    exact⟨g1,g2,g3⟩
  |true=>
   refine v1 (ae k1) ?_
   refine⟨by omega,?_⟩
   refine v3 (ae k2) ane hy4 ?_
   refine(jK h3 i1 y ⟨i0,il⟩).mono ?_
   rintro _ H4 ⟨_,g5,g6⟩
   refine vs ?_
   have Vp:cP lt d x l1.length l1 zK i1=((cP lt d x (l1.set i1.toNat y).length (l1.set i1.toNat y) (cT zK y i1) (bN lt l1 d i1 (d - 1).toNat (d*i1+1)).1).1,
     (cP lt d x (l1.set i1.toNat y).length (l1.set i1.toNat y) (cT zK y i1) (bN lt l1 d i1 (d - 1).toNat (d*i1+1)).1).2.1,
     (cP lt d x (l1.set i1.toNat y).length (l1.set i1.toNat y) (cT zK y i1) (bN lt l1 d i1 (d - 1).toNat (d*i1+1)).1).2.2+(bN lt l1 d i1 (d - 1).toNat (d*i1+1)).2+1):=by
    rw[LP lt d x hf (l1.set i1.toNat y).length q _ _ _ (by omega) (by omega) (by rw[anb];omega),hq,cP,if_neg (by omega)]
    simp only[hy3,lO,if_true]
   refine⟨l1.length - (bN lt l1 d i1 (d - 1).toNat (d*i1+1)).1.toNat,by omega,l1.set i1.toNat y,cT zK y i1,(bN lt l1 d i1 (d - 1).toNat (d*i1+1)).1,k+(bN lt l1 d i1 (d - 1).toNat (d*i1+1)).2+1,rfl,fun z hz=>(oJ hz).elim (fun e=>e▸Ub y (ang hy)) (Ub z),by rw[anb],by omega,by rw[anb];omega,by rw[anb];exact ll,g5,?_,
    C3.trans (g6.mono fun z _ hz=>.inl hz),by rw[u1,Vp],by rw[u2,Vp],by rw[u3,Vp];simp only;omega⟩
   have:=ho.aI _ _ _ _ hI3 g6 (fun z hz hs=>hd z hs hz)
   rw[show n+(k+(bN lt l1 d i1 (d - 1).toNat (d*i1+1)).2+1)=n+k+(bN lt l1 d i1 (d - 1).toNat (d*i1+1)).2+1 by omega]
   exact this
def pa(d:Int)(j:Nat):Nat:=(((j:Int) - 1) / d).toNat
theorem mu{d:Int}(hf:cO d){i:Int}(h1:1≤i):∃p,aW d i=some p∧p.toNat=pa d i.toNat∧0≤p∧p<i:=by
 have hp:aW d i=some ((i - 1) / d):=by unfold aW;rw[if_pos ⟨hf,h1⟩]
 have hb:=eB hp
 refine⟨_,hp,?_,hb.1,hb.2⟩
 unfold pa
 rw[show((i.toNat:Nat):Int)=i by omega]
theorem cB{d:Int}(hf:cO d){j:Nat}(h:1≤j):pa d j<j:=by
 obtain⟨p,_,h1,h2,h3⟩:=mu hf (i:=(j:Int)) (by omega)
 simp only[Int.toNat_natCast]at h1
 omega
theorem Ql{d:Int}(hf:cO d){i j:Nat}(h:1≤j):pa d j=i↔(d*i+1≤j∧(j:Int)≤d*i+d):=by
 have hd:=hf.1
 unfold pa
 have e1:=Int.mul_ediv_add_emod ((j:Int) - 1) d
 have e2:=Int.emod_nonneg ((j:Int) - 1) (show d≠0 by omega)
 have e3:=Int.emod_lt_of_pos ((j:Int) - 1) (show 0<d by omega)
 have e4:0≤((j:Int) - 1) / d:=Int.ediv_nonneg (by omega) (by omega)
 constructor
 ·intro h
  have:((j:Int) - 1) / d=i:=by omega
  rw[this]at e1
  omega
 ·rintro⟨h1,h2⟩
  have h3:=qX (d:=d) (i:=(i:Int)) (j:=(j:Int) - d*i) hd (by omega) (by omega) (by omega)
  rw[show d*(i:Int)+((j:Int) - d*i) - 1=(j:Int) - 1 by omega]at h3
  omega
theorem dh(l:List Int)(i j:Nat)(v:Int)(hi:i<l.length):(l.set i v).getD j 0=if i=j then v else l.getD j 0:=by
 rw[anf,List.getElem?_set,anf]
 by_cases h:i=j
 ·subst h;simp[hi]
 ·simp[h]
def ez(lt:Int→Int→Bool)(d:Int)(l:List Int):Prop:=∀j,1≤j→j<l.length→lt (l.getD j 0) (l.getD (pa d j) 0)=false
def du(lt:Int→Int→Bool)(d:Int)(l:List Int)(i:Nat):Prop:=
 (∀j,1≤j→j<l.length→j≠i→pa d j≠i→lt (l.getD j 0) (l.getD (pa d j) 0)=false)∧
 (∀j,1≤j→j<l.length→pa d j=i→1≤i→lt (l.getD j 0) (l.getD (pa d i) 0)=false)
theorem ez.but{lt:Int→Int→Bool}(ho:bm lt){d:Int}(hf:cO d){l:List Int}(h:ez lt d l)(i:Nat):du lt d l i:=by
 refine⟨fun j h1 h2 _ _=>h j h1 h2,fun j h1 h2 h3 h4=>?_⟩
 have e1:=h j h1 h2
 have e2:=h i h4 (by have:=cB hf h1;omega)
 rw[h3]at e1
 exact ho.nt _ _ _ e1 e2
theorem du.set{lt:Int→Int→Bool}{d:Int}(hf:cO d){l:List Int}{i:Nat}(hi:i<l.length)(h:du lt d l i){x:Int}(hB:∀j,1≤j→j<l.length→pa d j=i→lt (l.getD j 0) x=false)
  (hD:1≤i→lt x (l.getD (pa d i) 0)=false):ez lt d (l.set i x):=by
 intro j h1 h2
 rw[anb]at h2
 rw[dh _ _ _ _ hi,dh _ _ _ _ hi]
 have aK:=cB hf h1
 by_cases e1:i=j
 ·subst e1
  rw[if_pos rfl,if_neg (by omega)]
  exact hD h1
 ·rw[if_neg e1]
  by_cases e2:i=pa d j
  ·rw[if_pos e2];exact hB j h1 h2 e2.symm
  ·rw[if_neg e2];exact h.1 j h1 h2 (Ne.symm e1) (Ne.symm e2)
theorem Il{lt:Int→Int→Bool}(ho:bm lt){d:Int}(hf:cO d)(x:Int):∀ (m:Nat) (l:List Int) (pl:Int→Option Int) (i:Int),i.toNat≤m→0≤i→i<l.length→du lt d l i.toNat→
  (∀j,1≤j→j<l.length→pa d j=i.toNat→lt (l.getD j 0) x=false)→ez lt d (eZ lt d x m l pl i).l:=by
 intro m
 induction m with
 |zero=>
  intro l pl i hm h0 hl hA hB
  exact hA.set hf (by omega) hB (fun h=>by omega)
 |succ m ih=>
  intro l pl i hm h0 hl hA hB
  by_cases hi:1≤i
  ·obtain⟨p,hp,Pu,p0,p1⟩:=mu hf hi
   unfold eZ
   rw[hp]
   simp only[Pu]
   cases aK:lt x (l.getD (pa d i.toNat) 0)with
   |false=>
    exact hA.set hf (by omega) hB (fun _=>aK)
   |true=>
    simp only[if_true]
    have oF:i.toNat<l.length:=by omega
    have hpi:=cB hf (j:=i.toNat) (by omega)
    refine ih _ _ p (by omega) p0 (by rw[anb];omega) ⟨fun j h1 h2 h3 h4=>?_,fun j h1 h2 h3 h4=>?_⟩ (fun j h1 h2 h3=>?_)
    ·rw[anb]at h2
     rw[Pu]at h3 h4
     rw[dh _ _ _ _ oF,dh _ _ _ _ oF]
     have e1:i.toNat≠j:=fun e=>h4 (by rw[←e])
     rw[if_neg e1]
     by_cases e2:i.toNat=pa d j
     ·rw[if_pos e2]
      exact hA.2 j h1 h2 e2.symm (by omega)
     ·rw[if_neg e2]
      exact hA.1 j h1 h2 (Ne.symm e1) (Ne.symm e2)
    ·rw[anb]at h2
     rw[Pu]at h3 h4 ⊢
     rw[dh _ _ _ _ oF,dh _ _ _ _ oF]
     have NY:=cB hf h4
     rw[if_neg (show i.toNat≠pa d (pa d i.toNat) by omega)]
     have e3:=hA.1 (pa d i.toNat) h4 (by omega) (by omega) (by omega)
     by_cases e1:i.toNat=j
     ·rw[if_pos e1];exact e3
     ·rw[if_neg e1]
      have e4:=hA.1 j h1 h2 (Ne.symm e1) (by omega)
      rw[h3]at e4
      exact ho.nt _ _ _ e4 e3
    ·rw[anb]at h2
     rw[Pu]at h3
     rw[dh _ _ _ _ oF]
     by_cases e1:i.toNat=j
     ·rw[if_pos e1];exact ho.asym aK
     ·rw[if_neg e1]
      have e4:=hA.1 j h1 h2 (Ne.symm e1) (by omega)
      rw[h3]at e4
      cases hx:lt (l.getD j 0) x with
      |false=>rfl
      |true=>have:=ho.tr _ _ _ hx aK;rw[this]at e4;cases e4
  ·have Ej:i=0:=by omega
   subst Ej
   have hn:aW d 0=none:=by unfold aW;rw[if_neg (by omega)]
   unfold eZ
   rw[hn]
   exact hA.set hf (by omega) hB (fun h=>by simp at h)
theorem Em(lt:Int→Int→Bool)(d x:Int):∀ (m:Nat) (l:List Int) (pl:Int→Option Int) (i:Int),(eZ lt d x m l pl i).asked≤K9 d m i:=by
 intro m
 induction m with
 |zero=>intro l pl i;simp[eZ,K9]
 |succ m ih=>
  intro l pl i
  unfold eZ K9
  cases hp:aW d i with
  |none=>simp
  |some p=>
   simp only
   split
   ·have:=ih (l.set i.toNat (l.getD p.toNat 0)) (cT pl (l.getD p.toNat 0) i) p
    simp only;omega
   ·simp only;omega
theorem ug(lt:Int→Int→Bool)(d x:Int):∀ (m:Nat) (l:List Int) (pl:Int→Option Int) (i:Int),(eZ lt d x m l pl i).l.length=l.length:=by
 intro m
 induction m with
 |zero=>intro l pl i;simp[eZ]
 |succ m ih=>
  intro l pl i
  unfold eZ
  cases hp:aW d i with
  |none=>simp
  |some p=>
   simp only
   split
   ·simp[ih]
   ·simp
theorem Qm{lt:Int→Int→Bool}{d:Int}(hf:cO d)(x:Int)(l:List Int)(pl:Int→Option Int)(i:Int)(h0:0≤i):
  ((eZ lt d x i.toNat l pl i).at_=i∧(eZ lt d x i.toNat l pl i).l=l.set i.toNat x∧(eZ lt d x i.toNat l pl i).pl=cT pl x i∧(eZ lt d x i.toNat l pl i).asked≤1∧(1≤i→lt x (l.getD (pa d i.toNat) 0)=false))∨
  ((eZ lt d x i.toNat l pl i).at_<i∧1≤i∧lt x (l.getD (pa d i.toNat) 0)=true):=by
 by_cases hi:1≤i
 ·obtain⟨p,hp,Pu,p0,p1⟩:=mu hf hi
  obtain⟨q,hq⟩:∃q,i.toNat=q+1:=⟨i.toNat - 1,by omega⟩
  have low:∀ (m:Nat) (l:List Int) (pl:Int→Option Int) (i:Int),(eZ lt d x m l pl i).at_≤i:=by
   intro m
   induction m with
   |zero=>intro l pl i;simp[eZ]
   |succ m ih=>
    intro l pl i
    unfold eZ
    cases hp:aW d i with
    |none=>simp
    |some p=>
     have:=eB hp
     simp only
     split
     ·have:=ih (l.set i.toNat (l.getD p.toNat 0)) (cT pl (l.getD p.toNat 0) i) p
      simp only;omega
     ·simp only;omega
  rw[hq,eZ,hp,←hq]
  simp only[Pu]
  cases aK:lt x (l.getD (pa d i.toNat) 0)with
  |false=>exact .inl ⟨rfl,rfl,rfl,ano _,fun _=>rfl⟩
  |true=>
   have:=low q (l.set i.toNat (l.getD (pa d i.toNat) 0)) (cT pl (l.getD (pa d i.toNat) 0) i) p
   exact .inr ⟨by simp only[if_true];omega,hi,rfl⟩
 ·have Ej:i=0:=by omega
  subst Ej
  exact .inl ⟨rfl,rfl,rfl,by simp[eZ],fun h=>by omega⟩
def Qn(l:List Int)(pl:Int→Option Int)(i:Int)(x:Int):Prop:=
 ∀z,z≠x→∀k,pl z=some k↔(0≤k∧k≠i∧l[k.toNat]? =some z)
def Bv(l:List Int)(pl:Int→Option Int):Prop:=∀z k,pl z=some k↔(0≤k∧l[k.toNat]? =some z)
theorem Bv.ael{l:List Int}{pl:Int→Option Int}(h:Bv l pl){i x:Int}(hx:l[i.toNat]? =some x)(h0:0≤i):Qn l pl i x:=by
 intro z hz k
 rw[h z k]
 constructor
 ·rintro⟨a,b⟩;exact⟨a,fun e=>by subst e;rw[hx]at b;injection b with b;exact hz b.symm,b⟩
 ·rintro⟨a,_,b⟩;exact⟨a,b⟩
theorem Bv.En{l:List Int}{pl:Int→Option Int}(h:Bv l pl){i j:Nat}{z:Int}(hi:l[i]? =some z)(hj:l[j]? =some z):i=j:=by
 have h1:=(h z i).2 ⟨by omega,by simpa using hi⟩
 have h2:=(h z j).2 ⟨by omega,by simpa using hj⟩
 rw[h1]at h2
 injection h2 with h2
 omega
def Hd(l:List Int)(i:Int)(z:Int):Prop:=∃k:Nat,(k:Int)≠i∧l[k]? =some z
theorem Qn.set{l:List Int}{pl:Int→Option Int}{i x:Int}(h:Qn l pl i x)(h0:0≤i)(hl:i<l.length)(hx:¬Hd l i x):Bv (l.set i.toNat x) (cT pl x i):=by
 intro z k
 have oF:i.toNat<l.length:=by omega
 by_cases e:z=x
 ·subst e
  simp only[cT,if_true]
  constructor
  ·intro hk;injection hk with hk;subst hk;exact⟨h0,by rw[ani oF]⟩
  ·rintro⟨a,b⟩
   by_cases e2:k=i
   ·rw[e2]
   ·exfalso
    rw[anh (by omega)]at b
    exact hx ⟨k.toNat,by omega,b⟩
 ·simp only[cT,if_neg e]
  rw[h z e k]
  constructor
  ·rintro⟨a,b,c⟩;exact⟨a,by rw[anh (by omega)];exact c⟩
  ·rintro⟨a,b⟩
   have e2:k≠i:=fun e2=>by
    rw[e2,ani oF]at b;injection b with b;exact e b.symm
   exact⟨a,e2,by rw[anh (by omega)]at b;exact b⟩
theorem Qn.move{l:List Int}{pl:Int→Option Int}{i p x y:Int}(h:Qn l pl i x)(h0:0≤i)(hl:i<l.length)(p0:0≤p)(hpi:p≠i)(hy:l[p.toNat]? =some y)(hx:¬Hd l i x):
  Qn (l.set i.toNat y) (cT pl y i) p x∧(¬Hd (l.set i.toNat y) p x)∧∀z,Hd (l.set i.toNat y) p z↔Hd l i z:=by
 have oF:i.toNat<l.length:=by omega
 have lO:y≠x:=fun e=>hx ⟨p.toNat,by omega,by rw[hy,e]⟩
 have ZA:∀k:Int,0≤k→k≠i→l[k.toNat]? =some y→k=p:=by
  intro k k0 ki hk
  have h1:=(h y lO k).2 ⟨k0,ki,hk⟩
  have h2:=(h y lO p).2 ⟨p0,hpi,hy⟩
  rw[h1]at h2;injection h2
 have JX:∀z,Hd (l.set i.toNat y) p z↔Hd l i z:=by
  intro z
  constructor
  ·rintro⟨k,k1,k2⟩
   by_cases e:i.toNat=k
   ·rw[←e,ani oF]at k2
    injection k2 with k2
    subst k2
    exact⟨p.toNat,by omega,hy⟩
   ·rw[anh e]at k2
    exact⟨k,by omega,k2⟩
  ·rintro⟨k,k1,k2⟩
   by_cases e:(k:Int)=p
   ·refine⟨i.toNat,by omega,?_⟩
    rw[ani oF]
    rw[show k=p.toNat by omega,hy]at k2
    exact k2
   ·exact⟨k,e,by rw[anh (by omega)];exact k2⟩
 refine⟨?_,fun hc=>hx ((JX x).1 hc),JX⟩
 intro z hz k
 by_cases e:z=y
 ·subst e
  simp only[cT,if_true]
  constructor
  ·intro hk;injection hk with hk;subst hk;exact⟨h0,by omega,by rw[ani oF]⟩
  ·rintro⟨a,b,c⟩
   by_cases e2:k=i
   ·rw[e2]
   ·rw[anh (by omega)]at c
    exact absurd (ZA k a e2 c) b
 ·simp only[cT,if_neg e]
  rw[h z hz k]
  constructor
  ·rintro⟨a,b,c⟩
   refine⟨a,fun e2=>?_,by rw[anh (by omega)];exact c⟩
   rw[e2,hy]at c;injection c with c;exact e c.symm
  ·rintro⟨a,b,c⟩
   have e2:k≠i:=fun e2=>by rw[e2,ani oF]at c;injection c with c;exact e c.symm
   exact⟨a,e2,by rw[anh (by omega)]at c;exact c⟩
theorem mem_set{l:List Int}{i:Nat}(hi:i<l.length)(x z:Int):z∈l.set i x↔z=x∨Hd l i z:=by
 constructor
 ·intro h
  obtain⟨k,hk⟩:=anM h
  by_cases e:i=k
  ·subst e;rw[ani hi]at hk;injection hk with hk;exact .inl hk.symm
  ·rw[anh e]at hk;exact .inr ⟨k,by omega,hk⟩
 ·rintro(rfl| ⟨k,k1,k2⟩)
  ·exact ang (i:=i) (ani hi)
  ·exact ang (i:=k) (by rw[anh (by omega)];exact k2)
theorem Bw{lt:Int→Int→Bool}{d:Int}(x:Int):∀ (m:Nat) (l:List Int) (pl:Int→Option Int) (i:Int),i.toNat≤m→0≤i→i<l.length→Qn l pl i x→¬Hd l i x→
  Bv (eZ lt d x m l pl i).l (eZ lt d x m l pl i).pl∧∀z,z∈(eZ lt d x m l pl i).l↔z=x∨Hd l i z:=by
 intro m
 induction m with
 |zero=>
  intro l pl i hm h0 hl hP hx
  exact⟨hP.set h0 hl hx,fun z=>by have:=mem_set (l:=l) (i:=i.toNat) (by omega) x z;rw[show((i.toNat:Nat):Int)=i by omega]at this;exact this⟩
 |succ m ih=>
  intro l pl i hm h0 hl hP hx
  have NR:Bv (l.set i.toNat x) (cT pl x i)∧∀z,z∈l.set i.toNat x↔z=x∨Hd l i z:=
   ⟨hP.set h0 hl hx,fun z=>by have:=mem_set (l:=l) (i:=i.toNat) (by omega) x z;rw[show((i.toNat:Nat):Int)=i by omega]at this;exact this⟩
  unfold eZ
  cases hp:aW d i with
  |none=>exact NR
  |some p=>
   have hb:=eB hp
   simp only
   split
   ·have hy:l[p.toNat]? =some (l.getD p.toNat 0):=by
     rw[anf,am8 (by omega)];rfl
    obtain⟨m1,m2,m3⟩:=hP.move h0 hl hb.1 (by omega) hy hx
    obtain⟨r1,r2⟩:=ih (l.set i.toNat (l.getD p.toNat 0)) (cT pl (l.getD p.toNat 0) i) p (by omega) hb.1 (by rw[anb];omega) m1 m2
    exact⟨r1,fun z=>by rw[r2 z,m3 z]⟩
   ·exact NR
theorem JY{lt:Int→Int→Bool}(ho:bm lt)(l:List Int)(d i:Int)(h:0≤d*i):∀ (m:Nat) (bQ:Int),(m:Int)≤d - 1→d*i+1≤bQ→bQ<l.length→
  (∀c:Int,d*i+1≤c→c≤d*i+(d - m)→c<l.length→lt (l.getD c.toNat 0) (l.getD bQ.toNat 0)=false)→
  ∀c:Int,d*i+1≤c→c≤d*i+d→c<l.length→lt (l.getD c.toNat 0) (l.getD (bN lt l d i m bQ).1.toNat 0)=false:=by
 intro m
 induction m with
 |zero=>intro bQ _ _ _ hc c c1 c2 c3;exact hc c c1 (by omega) c3
 |succ m ih=>
  intro bQ hm h1 h2 hc c c1 c2 c3
  unfold bN
  split
  ·rename_i aK
   simp only
   split
   ·rename_i hl
    refine ih _ (by omega) (by omega) (by omega) (fun e e1 e2 e3=>?_) c c1 c2 c3
    by_cases he:e=d*i+(d - m)
    ·rw[he];exact ho.ua _
    ·have:=hc e e1 (by omega) e3
     cases hx:lt (l.getD e.toNat 0) (l.getD (d*i+(d - (m:Int))).toNat 0)with
     |false=>rfl
     |true=>
      have:=ho.tr _ _ _ hx hl
      simp_all
   ·rename_i hl
    refine ih _ (by omega) h1 h2 (fun e e1 e2 e3=>?_) c c1 c2 c3
    by_cases he:e=d*i+(d - m)
    ·rw[he];simpa using hl
    ·exact hc e e1 (by omega) e3
  ·rename_i aK
   refine ih _ (by omega) h1 h2 (fun e e1 e2 e3=>?_) c c1 c2 c3
   by_cases he:e=d*i+(d - m)
   ·omega
   ·exact hc e e1 (by omega) e3
theorem Oy{lt:Int→Int→Bool}(ho:bm lt){d:Int}(hf:cO d)(x:Int):∀ (m:Nat) (l:List Int) (pl:Int→Option Int) (i:Int),l.length≤i.toNat+m→0≤i→i<l.length→du lt d l i.toNat→
  (1≤i→lt x (l.getD (pa d i.toNat) 0)=false)→ez lt d (cP lt d x m l pl i).1:=by
 intro m
 induction m with
 |zero=>intro l pl i hm h0 hl;omega
 |succ m ih=>
  intro l pl i hm h0 hl hA hD
  have SK:=hf.1
  have RX:0≤d*i:=aoV (by omega) h0
  have hit:((i.toNat:Nat):Int)=i:=by omega
  have Oz:∀j:Nat,1≤j→(pa d j=i.toNat↔(d*i+1≤j∧(j:Int)≤d*i+d)):=fun j hj=>by have:=Ql hf (i:=i.toNat) hj;rw[hit]at this;exact this
  unfold cP
  split
  ·rename_i hc
   exact hA.set hf (by omega) (fun j h1 h2 h3=>by have:=(Oz j h1).1 h3;omega) (fun h=>hD (by omega))
  ·rename_i hc
   have hb:=j6 lt l d i RX (d - 1).toNat (d*i+1) (by omega) (by omega) (by omega)
   have nA:(bN lt l d i (d - 1).toNat (d*i+1)).1≤d*i+d:=by
    have key:∀ (m:Nat) (bQ:Int),(m:Int)≤d - 1→bQ≤d*i+d→(bN lt l d i m bQ).1≤d*i+d:=by
     intro m
     induction m with
     |zero=>intro bQ _ h;exact h
     |succ m ih=>
      intro bQ hm h
      unfold bN
      split
      ·simp only;split
       ·exact ih _ (by omega) (by omega)
       ·exact ih _ (by omega) h
      ·exact ih _ (by omega) h
    exact key _ _ (by omega) (by omega)
   have Uc:=JY ho l d i RX (d - 1).toNat (d*i+1) (by omega) (by omega) (by omega) (fun c c1 c2 c3=>by rw[show c=d*i+1 by omega];exact ho.ua _)
   have aK:=mr hf h0 hb.1
   generalize bN lt l d i (d - 1).toNat (d*i+1)=B at*
   obtain⟨b,q⟩:=B
   simp only at hb nA Uc aK
   have hbp:pa d b.toNat=i.toNat:=(Oz b.toNat (by omega)).2 ⟨by omega,by omega⟩
   have oF:i.toNat<l.length:=by omega
   have qh:∀j,1≤j→j<l.length→pa d j=i.toNat→lt (l.getD j 0) (l.getD b.toNat 0)=false:=fun j h1 h2 h3=>by
    have h4:=(Oz j h1).1 h3
    have:=Uc j h4.1 h4.2 (by omega)
    simpa using this
   simp only
   by_cases hy:lt (l.getD b.toNat 0) x=true
   ·rw[if_pos hy]
    refine ih _ _ b (by rw[anb];omega) (by omega) (by rw[anb];omega) ⟨fun j h1 h2 h3 h4=>?_,fun j h1 h2 h3 h4=>?_⟩ (fun _=>?_)
    ·rw[anb]at h2
     rw[dh _ _ _ _ oF,dh _ _ _ _ oF]
     have Vq:=cB hf h1
     by_cases e1:i.toNat=j
     ·subst e1
      rw[if_pos rfl,if_neg (by omega)]
      have:=hA.2 b.toNat (by omega) (by omega) hbp h1
      exact this
     ·rw[if_neg e1]
      by_cases e2:i.toNat=pa d j
      ·rw[if_pos e2];exact qh j h1 h2 e2.symm
      ·rw[if_neg e2];exact hA.1 j h1 h2 (Ne.symm e1) (Ne.symm e2)
    ·rw[anb]at h2
     rw[hbp,dh _ _ _ _ oF,dh _ _ _ _ oF,if_pos rfl]
     have Vq:=cB hf h1
     rw[if_neg (by omega)]
     have:=hA.1 j h1 h2 (by omega) (by omega)
     rw[h3]at this
     exact this
    ·rw[hbp,dh _ _ _ _ oF,if_pos rfl]
     exact ho.asym hy
   ·rw[if_neg hy]
    exact hA.set hf oF (fun j h1 h2 h3=>ho.nt _ _ _ (qh j h1 h2 h3) (by simpa using hy)) (fun h=>hD (by omega))
theorem JZ(lt:Int→Int→Bool)(d x:Int):∀ (m:Nat) (l:List Int) (pl:Int→Option Int) (i:Int),(cP lt d x m l pl i).1.length=l.length:=by
 intro m
 induction m with
 |zero=>intro l pl i;simp[cP]
 |succ m ih=>
  intro l pl i
  unfold cP
  split
  ·simp
  ·simp only
   split
   ·simp[ih]
   ·simp
theorem J0{lt:Int→Int→Bool}{d:Int}(hf:cO d)(x:Int):∀ (m:Nat) (l:List Int) (pl:Int→Option Int) (i:Int),0≤i→i<l.length→Qn l pl i x→¬Hd l i x→
  Bv (cP lt d x m l pl i).1 (cP lt d x m l pl i).2.1∧∀z,z∈(cP lt d x m l pl i).1↔z=x∨Hd l i z:=by
 intro m
 induction m with
 |zero=>
  intro l pl i h0 hl hP hx
  exact⟨hP.set h0 hl hx,fun z=>by have:=mem_set (l:=l) (i:=i.toNat) (by omega) x z;rw[show((i.toNat:Nat):Int)=i by omega]at this;exact this⟩
 |succ m ih=>
  intro l pl i h0 hl hP hx
  have NR:Bv (l.set i.toNat x) (cT pl x i)∧∀z,z∈l.set i.toNat x↔z=x∨Hd l i z:=
   ⟨hP.set h0 hl hx,fun z=>by have:=mem_set (l:=l) (i:=i.toNat) (by omega) x z;rw[show((i.toNat:Nat):Int)=i by omega]at this;exact this⟩
  have SK:=hf.1
  have RX:0≤d*i:=aoV (by omega) h0
  unfold cP
  split
  ·exact NR
  ·have hb:=j6 lt l d i RX (d - 1).toNat (d*i+1) (by omega) (by omega) (by omega)
   have aK:=mr hf h0 hb.1
   simp only
   split
   ·have hy:l[(bN lt l d i (d - 1).toNat (d*i+1)).1.toNat]? =some (l.getD (bN lt l d i (d - 1).toNat (d*i+1)).1.toNat 0):=by
     rw[anf,am8 (by omega)];rfl
    obtain⟨m1,m2,m3⟩:=hP.move h0 hl (by omega) (by omega) hy hx
    obtain⟨r1,r2⟩:=ih _ _ _ (by omega) (by rw[anb];omega) m1 m2
    exact⟨r1,fun z=>by rw[r2 z,m3 z]⟩
   ·exact NR
def j7(d i:Int):Nat:=K9 d i.toNat i
theorem oK{d i p:Int}(h:aW d i=some p):j7 d i=j7 d p+1:=P0 h _ (ano _)
theorem j8{d:Int}(hf:cO d):∀ (m:Nat) (i j:Int),j.toNat≤m→i≤j→j7 d i≤j7 d j:=by
 intro m
 induction m with
 |zero=>
  intro i j hm I5
  have:j7 d i=0:=by unfold j7;rw[show i.toNat=0 by omega];rfl
  omega
 |succ m ih=>
  intro i j hm I5
  by_cases hi:1≤i
  ·have SK:=hf.1
   have hp:aW d i=some ((i - 1) / d):=by unfold aW;rw[if_pos ⟨hf,hi⟩]
   have hq:aW d j=some ((j - 1) / d):=by unfold aW;rw[if_pos ⟨hf,by omega⟩]
   have hb:=eB hq
   rw[oK hp,oK hq]
   have:=ih ((i - 1) / d) ((j - 1) / d) (by omega) (Int.ediv_le_ediv (by omega) (by omega))
   omega
  ·have:j7 d i=0:=by
    unfold j7
    have hn:aW d i=none:=by unfold aW;rw[if_neg (by omega)]
    cases i.toNat<;>simp[K9,hn]
   omega
theorem J1(lt:Int→Int→Bool)(l:List Int)(d i:Int):∀ (m:Nat) (bQ:Int),(bN lt l d i m bQ).2≤m:=by
 intro m
 induction m with
 |zero=>intro bQ;simp[bN]
 |succ m ih=>
  intro bQ
  unfold bN
  split
  ·simp only
   have:=ih (if lt (l.getD (d*i+(d - m)).toNat 0) (l.getD bQ.toNat 0)=true then d*i+(d - m)else bQ)
   omega
  ·have:=ih bQ;omega
theorem LQ{lt:Int→Int→Bool}{d:Int}(hf:cO d)(x:Int):∀ (m:Nat) (l:List Int) (pl:Int→Option Int) (i:Int),l.length≤i.toNat+m→0≤i→i<l.length→
  ((cP lt d x m l pl i).2.2:Int)+d*(j7 d i:Nat)≤d*(j7 d ((l.length:Int) - 1):Nat):=by
 intro m
 induction m with
 |zero=>intro l pl i hm h0 hl;omega
 |succ m ih=>
  intro l pl i hm h0 hl
  have SK:=hf.1
  have RX:0≤d*i:=aoV (by omega) h0
  have Eo:∀k,k≤(l.length:Int) - 1→d*(j7 d k:Nat)≤d*(j7 d ((l.length:Int) - 1):Nat):=fun k hk=>
   Int.mul_le_mul_of_nonneg_left (by have:=j8 hf ((l.length:Int) - 1).toNat k ((l.length:Int) - 1) (ano _) hk;omega) (by omega)
  unfold cP
  split
  ·have:=Eo i (by omega);simp only;omega
  ·have hb:=j6 lt l d i RX (d - 1).toNat (d*i+1) (by omega) (by omega) (by omega)
   have aK:=mr hf h0 hb.1
   have ai9:=J1 lt l d i (d - 1).toNat (d*i+1)
   have nA:(bN lt l d i (d - 1).toNat (d*i+1)).1≤d*i+d:=by
    have key:∀ (m:Nat) (bQ:Int),(m:Int)≤d - 1→bQ≤d*i+d→(bN lt l d i m bQ).1≤d*i+d:=by
     intro m
     induction m with
     |zero=>intro bQ _ h;exact h
     |succ m ih=>
      intro bQ hm h
      unfold bN
      split
      ·simp only;split
       ·exact ih _ (by omega) (by omega)
       ·exact ih _ (by omega) h
      ·exact ih _ (by omega) h
    exact key _ _ (by omega) (by omega)
   generalize bN lt l d i (d - 1).toNat (d*i+1)=B at*
   have Ox:aW d B.1=some i:=by
    unfold aW
    rw[if_pos ⟨hf,by omega⟩]
    have:=qX (d:=d) (i:=i) (j:=B.1 - d*i) SK h0 (by omega) (by omega)
    rw[show d*i+(B.1 - d*i) - 1=B.1 - 1 by omega]at this
    rw[this]
   have DH:=oK Ox
   have hmul:d*((j7 d i+1:Nat):Int)=d*(j7 d i:Nat)+d:=by rw[Int.natCast_add,Int.mul_add];simp
   simp only
   split
   ·have:=ih (l.set i.toNat (l.getD B.1.toNat 0)) (cT pl (l.getD B.1.toNat 0) i) B.1 (by rw[anb];omega) (by omega) (by rw[anb];omega)
    rw[anb,DH,hmul]at this
    simp only
    omega
   ·have:=Eo B.1 (by omega)
    rw[DH,hmul]at this
    simp only
    omega
def cM(lt:Int→Int→Bool)(d x:Int)(l:List Int)(pl:Int→Option Int)(i:Int):List Int×(Int→Option Int)×Nat:=
 if l.getD (l.length - 1) 0=x then(l.dropLast,qe pl x,0)
 else
  let U:=eZ lt d (l.getD (l.length - 1) 0) i.toNat l.dropLast (qe pl x) i
  if U.at_=i then
   let D:=cP lt d (l.getD (l.length - 1) 0) U.l.length U.l U.pl i
   (D.1,D.2.1,U.asked+D.2.2)
  else(U.l,U.pl,U.asked)
theorem wD(l:List Int)(j:Nat)(h:j<l.length - 1):l.dropLast.getD j 0=l.getD j 0:=by
 rw[anf,anf,List.getElem?_dropLast,if_pos h]
theorem J2{lt:Int→Int→Bool}(ho:bm lt){d:Int}(hf:cO d){x i:Int}{l:List Int}{pl:Int→Option Int}(hh:ez lt d l)(hp:Bv l pl)(hi:pl x=some i):
  ez lt d (cM lt d x l pl i).1∧Bv (cM lt d x l pl i).1 (cM lt d x l pl i).2.1∧(cM lt d x l pl i).1.length=l.length - 1∧
   (∀z,z∈(cM lt d x l pl i).1↔z∈l∧z≠x)∧((cM lt d x l pl i).2.2:Int)≤d*(j7 d ((l.length:Int) - 1):Nat)+1:=by
 obtain⟨h0,hx⟩:=(hp x i).1 hi
 have oF:i.toNat<l.length:=(ana.1 hx).1
 have SK:=hf.1
 have iP:l[l.length - 1]? =some (l.getD (l.length - 1) 0):=by
  rw[anf,am8 (by omega)];rfl
 have oL:∀k,k<l.length - 1→l.dropLast[k]? =l[k]? :=fun k hk=>by rw[List.getElem?_dropLast,if_pos hk]
 have ic:ez lt d l.dropLast:=by
  intro j h1 h2
  rw[anO]at h2
  have:=cB hf h1
  rw[wD _ _ h2,wD _ _ (by omega)]
  exact hh j h1 (by omega)
 unfold cM
 split
 ·rename_i he
  have ly:i.toNat=l.length - 1:=hp.En hx (by rw[iP,he])
  refine⟨ic,fun z k=>?_,by simp,fun z=>?_,?_⟩
  ·show qe pl x z=some k↔(0≤k∧l.dropLast[k.toNat]? =some z)
   unfold qe
   by_cases hz:z=x
   ·subst hz
    simp only[if_true]
    constructor
    ·intro h;cases h
    ·rintro⟨a,b⟩
     have hk:k.toNat<l.length - 1:=by have:=(ana.1 b).1;rwa[anO]at this
     rw[oL _ hk]at b
     have:=hp.En b hx
     omega
   ·rw[if_neg hz,hp z k]
    constructor
    ·rintro⟨a,b⟩
     have hk:k.toNat<l.length:=(ana.1 b).1
     have yC:k.toNat≠l.length - 1:=fun e=>by rw[e,iP,he]at b;injection b with b;exact hz b.symm
     exact⟨a,by rw[oL _ (by omega)];exact b⟩
    ·rintro⟨a,b⟩
     have hk:k.toNat<l.length - 1:=by have:=(ana.1 b).1;rwa[anO]at this
     exact⟨a,by rw[oL _ hk]at b;exact b⟩
  ·constructor
   ·intro h
    obtain⟨k,hk⟩:=anM h
    have ZB:k<l.length - 1:=by have:=(ana.1 hk).1;rwa[anO]at this
    rw[oL _ ZB]at hk
    refine⟨ang hk,fun e=>?_⟩
    subst e
    have:=hp.En hk hx
    omega
   ·rintro⟨h,hz⟩
    obtain⟨k,hk⟩:=anM h
    have ZB:k<l.length:=(ana.1 hk).1
    have yC:k≠l.length - 1:=fun e=>by rw[e,iP,he]at hk;injection hk with hk;exact hz hk.symm
    exact ang (i:=k) (by rw[oL _ (by omega)];exact hk)
  ·have:0≤d*(j7 d ((l.length:Int) - 1):Nat):=aoV (by omega) (by omega)
   simp only
   omega
 ·rename_i aM
  generalize hy:l.getD (l.length - 1) 0=y at*
  have ly:i.toNat<l.length - 1:=by
   rcases aow i.toNat (l.length - 1)with h|h
   ·exact h
   ·exfalso
    rw[show i.toNat=l.length - 1 by omega,iP]at hx
    injection hx with hx
    exact aM hx
  have hP:Qn l.dropLast (qe pl x) i y:=by
   intro z hz k
   unfold qe
   by_cases e:z=x
   ·subst e
    simp only[if_true]
    constructor
    ·intro h;cases h
    ·rintro⟨a,b,c⟩
     have hk:k.toNat<l.length - 1:=by have:=(ana.1 c).1;rwa[anO]at this
     rw[oL _ hk]at c
     have:=hp.En c hx
     omega
   ·rw[if_neg e,hp z k]
    constructor
    ·rintro⟨a,b⟩
     have hk:k.toNat<l.length:=(ana.1 b).1
     have yC:k.toNat≠l.length - 1:=fun e2=>by rw[e2,iP]at b;injection b with b;exact hz b.symm
     exact⟨a,fun e2=>by rw[e2,hx]at b;injection b with b;exact e b.symm,by rw[oL _ (by omega)];exact b⟩
    ·rintro⟨a,_,b⟩
     have hk:k.toNat<l.length - 1:=by have:=(ana.1 b).1;rwa[anO]at this
     exact⟨a,by rw[oL _ hk]at b;exact b⟩
  have hO:¬Hd l.dropLast i y:=by
   rintro⟨k,k1,k2⟩
   have hk:k<l.length - 1:=by have:=(ana.1 k2).1;rwa[anO]at this
   rw[oL _ hk]at k2
   have:=hp.En k2 iP
   omega
  have bF:∀z,(z=y∨Hd l.dropLast i z)↔(z∈l∧z≠x):=by
   intro z
   constructor
   ·rintro(rfl| ⟨k,k1,k2⟩)
    ·exact⟨ang iP,aM⟩
    ·have hk:k<l.length - 1:=by have:=(ana.1 k2).1;rwa[anO]at this
     rw[oL _ hk]at k2
     refine⟨ang k2,fun e=>?_⟩
     subst e
     have:=hp.En k2 hx
     omega
   ·rintro⟨h,hz⟩
    obtain⟨k,hk⟩:=anM h
    have ZB:k<l.length:=(ana.1 hk).1
    by_cases e:k=l.length - 1
    ·rw[e,iP]at hk;injection hk with hk;exact .inl hk.symm
    ·exact .inr ⟨k,fun e2=>hz (by rw[show k=i.toNat by omega,hx]at hk;injection hk with hk;exact hk.symm),by rw[oL _ (by omega)];exact hk⟩
  have aV:(i:Int)<l.dropLast.length:=by rw[anO];omega
  have LR:=ic.but ho hf i.toNat
  have DH:=Bw (lt:=lt) (d:=d) y i.toNat l.dropLast (qe pl x) i (ano _) h0 aV hP hO
  have Eo:d*(j7 d ((l.length:Int) - 1 - 1):Nat)≤d*(j7 d ((l.length:Int) - 1):Nat):=
   Int.mul_le_mul_of_nonneg_left (by have:=j8 hf ((l.length:Int) - 1).toNat ((l.length:Int) - 1 - 1) ((l.length:Int) - 1) (ano _) (by omega);omega) (by omega)
  rcases Qm hf (lt:=lt) y l.dropLast (qe pl x) i h0 with ⟨s1,s2,s3,s4,s5⟩| ⟨s1,s2,s3⟩
  ·simp only
   rw[if_pos s1,s2,s3,anb]
   simp only
   have aem:i.toNat<l.dropLast.length:=by rw[anO];omega
   have J3:∀j,j≠i.toNat→(l.dropLast.set i.toNat y).getD j 0=l.dropLast.getD j 0:=fun j hj=>by rw[dh _ _ _ _ aem,if_neg (Ne.symm hj)]
   have hP2:Qn (l.dropLast.set i.toNat y) (cT (qe pl x) y i) i y:=by
    intro z hz k
    unfold cT
    rw[if_neg hz,hP z hz k]
    constructor
    ·rintro⟨a,b,c⟩;exact⟨a,b,by rw[anh (by omega)];exact c⟩
    ·rintro⟨a,b,c⟩;exact⟨a,b,by rw[anh (by omega)]at c;exact c⟩
   have JX:∀z,Hd (l.dropLast.set i.toNat y) i z↔Hd l.dropLast i z:=by
    intro z
    constructor
    ·rintro⟨k,k1,k2⟩;exact⟨k,k1,by rw[anh (by omega)]at k2;exact k2⟩
    ·rintro⟨k,k1,k2⟩;exact⟨k,k1,by rw[anh (by omega)];exact k2⟩
   have nj:(i:Int)< (l.dropLast.set i.toNat y).length:=by rw[anb];exact aV
   obtain⟨d1,d2⟩:=J0 (lt:=lt) hf y l.dropLast.length (l.dropLast.set i.toNat y) (cT (qe pl x) y i) i h0 nj hP2 (fun hc=>hO ((JX y).1 hc))
   refine⟨?_,d1,by rw[JZ,anb,anO],fun z=>by rw[d2 z,JX z];exact bF z,?_⟩
   ·refine Oy ho hf y _ _ _ i (by rw[anb];omega) h0 nj ⟨fun j h1 h2 h3 h4=>?_,fun j h1 h2 h3 h4=>?_⟩ (fun h=>?_)
    ·rw[J3 j h3,J3 _ h4];exact LR.1 j h1 (by simpa using h2) h3 h4
    ·have:=cB hf h1
     have:=cB hf h4
     rw[J3 j (by omega),J3 _ (by omega)]
     exact LR.2 j h1 (by simpa using h2) h3 h4
    ·have:=cB hf (j:=i.toNat) (by omega)
     rw[J3 _ (by omega)]
     exact s5 h
   ·have:=LQ (lt:=lt) hf y l.dropLast.length (l.dropLast.set i.toNat y) (cT (qe pl x) y i) i (by rw[anb];omega) h0 nj
    have hdl:l.dropLast.length=l.length - 1:=anO
    rw[anb,show((l.dropLast.length:Nat):Int) - 1=(l.length:Int) - 1 - 1 by omega]at this
    have h5:0≤d*(j7 d i:Nat):=aoV (by omega) (by omega)
    omega
  ·simp only
   rw[if_neg (by omega)]
   have OA:=cB hf (j:=i.toNat) (by omega)
   refine⟨Il ho hf y _ _ _ i (ano _) h0 aV LR (fun j h1 h2 h3=>?_),DH.1,by rw[ug,anO],fun z=>by rw[DH.2 z];exact bF z,?_⟩
   ·have e1:=LR.2 j h1 h2 h3 (by omega)
    cases hxx:lt (l.dropLast.getD j 0) y with
    |false=>rfl
    |true=>have:=ho.tr _ _ _ hxx s3;rw[this]at e1;cases e1
   ·have e1:=Em lt d y i.toNat l.dropLast (qe pl x) i
    have e2:=j8 hf ((l.length:Int) - 1).toNat i ((l.length:Int) - 1) (ano _) (by omega)
    unfold j7 at e2 ⊢
    have e3:(1:Int)*(K9 d ((l.length:Int) - 1).toNat ((l.length:Int) - 1):Nat)≤d*(K9 d ((l.length:Int) - 1).toNat ((l.length:Int) - 1):Nat):=
     aoO (by omega) (by omega)
    dsimp only
    omega
theorem Ep{lt:Int→Int→Bool}(ho:bm lt){d:Int}(hf:cO d){l:List Int}(hh:ez lt d l):∀ (m j:Nat),j≤m→j<l.length→lt (l.getD j 0) (l.getD 0 0)=false:=by
 intro m
 induction m with
 |zero=>intro j hj _;rw[show j=0 by omega];exact ho.ua _
 |succ m ih=>
  intro j hj hl
  by_cases h:1≤j
  ·have:=cB hf h
   exact ho.nt _ _ _ (hh j h hl) (ih (pa d j) (by omega) (by omega))
  ·rw[show j=0 by omega];exact ho.ua _
def Nw.key(w:Nw)(a:Int):Int:=(w.cs.getD a.toNat (0,0,0)).2.1
def Nw.seq(w:Nw)(a:Int):Int:=(w.cs.getD a.toNat (0,0,0)).2.2
def aN(w:Nw)(a b:Int):Bool:=decide (w.key a<w.key b∨w.key a=w.key b∧(w.seq a<w.seq b∨w.seq a=w.seq b∧a<b))
theorem aq(w:Nw):bm (aN w):=by
 refine⟨fun a=>?_,fun a b c h1 h2=>?_,fun a b c h1 h2=>?_,fun a b h=>?_⟩
 ·exact anD (by omega)
 ·simp only[aN,anF]at*;omega
 ·simp only[aN,decide_eq_false_iff_not]at*;omega
 ·simp only[aN,anF];omega
theorem Bx{w:Nw}{a b:Int}(ha:cS w.cs a)(hb:cS w.cs b):w.ahead a b=aN w a b:=by
 obtain⟨a0,x,hx,_⟩:=id ha
 obtain⟨b0,y,hy,_⟩:=id hb
 have k1:w.key a=x.2.1:=by unfold Nw.key;rw[anf,hx];rfl
 have k2:w.key b=y.2.1:=by unfold Nw.key;rw[anf,hy];rfl
 have k3:w.seq a=x.2.2:=by unfold Nw.seq;rw[anf,hx];rfl
 have k4:w.seq b=y.2.2:=by unfold Nw.seq;rw[anf,hy];rfl
 unfold Nw.ahead aN
 rw[anp ha,anp hb,hx,hy,k1,k2,k3,k4]
 simp only[aov]
 refine decide_eq_decide.2 ?_
 rw[LN,eX]
 omega
theorem gN(w:Nw)(x:Int)(c:Ce){a b:Int}(ha:a.toNat≠x.toNat)(hb:b.toNat≠x.toNat):aN (w.put x c) a b=aN w a b:=by
 have key:∀z:Int,z.toNat≠x.toNat→(w.put x c).key z=w.key z∧(w.put x c).seq z=w.seq z:=fun z hz=>by
  unfold Nw.key Nw.seq Nw.put
  simp only[anf]
  rw[anh (Ne.symm hz)]
  exact⟨rfl,rfl⟩
 unfold aN
 rw[(key a ha).1,(key a ha).2,(key b hb).1,(key b hb).2]
def Nw.first(w:Nw)(g x:Int):Prop:=0<g∧0≤x∧(∃e,w.cs[x.toNat]? =some (g,e))∧∀y,0≤y→(∃e,w.cs[y.toNat]? =some (g,e))→y≠x→aN w x y=true
theorem Nw.Gr{w:Nw}{g:Int}:w.len g=0↔(g≤0∨∀ (i:Nat) (c:Ce),w.cs[i]? =some c→c.1≠g):=by
 unfold Nw.len
 by_cases hg:0<g
 ·rw[if_pos hg]
  constructor
  ·intro h
   refine .inr fun i c hc e=>?_
   have h1:w.cs.countP (fun c=>decide (c.1=g))=0:=by omega
   exact(aoI.1 h1) c (ang hc) (anp e)
  ·rintro(h|h)
   ·omega
   ·rw[aoI.2 (fun c hc=>by
     obtain⟨i,hi⟩:=anM hc
     simpa using h i c hi)]
    rfl
 ·rw[if_neg hg]
  exact⟨fun _=>.inl (by omega),fun _=>rfl⟩
theorem Nw.first.Lb{w:Nw}{g x:Int}(h:w.first g x):cS w.cs x:=by
 obtain⟨e,he⟩:=h.2.2.1
 exact⟨h.2.1,_,he,h.1⟩
def Qo(w w':Nw)(g:Int):Prop:=∀ (i:Nat) (e:Int×Int),w.cs[i]? =some (g,e)↔w'.cs[i]? =some (g,e)
theorem Qo.put{w w':Nw}{g:Int}(h:Qo w w' g)(hg:0<g)(x:Int)(hl:w.cs.length=w'.cs.length):Qo (w.put x (0,0,0)) (w'.put x (0,0,0)) g:=by
 intro i e
 unfold Nw.put
 simp only[List.getElem?_set,hl]
 by_cases hi:x.toNat=i
 ·simp only[if_pos hi]
 ·simp only[if_neg hi]
  exact h i e
def aD(w:Nw)(x:Int):Int:=if 0≤x then(w.cs.getD x.toNat (0,0,0)).1 else 0
theorem jE{w:Nw}{x:Int}{y:Ce}(h0:0≤x)(h:w.cs[x.toNat]? =some y):aD w x=y.1:=by
 unfold aD
 rw[if_pos h0,anf,h]
 rfl
theorem aC{w:Nw}{x:Int}(h:0<aD w x):0≤x∧x<w.cs.length∧∃e,w.cs[x.toNat]? =some (aD w x,e):=by
 unfold aD at h ⊢
 split at h
 ·rename_i h0
  rw[if_pos h0]
  rw[anf]at h ⊢
  cases hc:w.cs[x.toNat]? with
  |none=>rw[hc]at h;simp at h
  |some y=>
   have:=(ana.1 hc).1
   exact⟨h0,by omega,y.2,rfl⟩
 ·omega
theorem bk{w:Nw}{x:Int}:0<aD w x↔cS w.cs x:=by
 constructor
 ·intro h
  obtain⟨h0,_,e,he⟩:=aC h
  exact⟨h0,_,he,h⟩
 ·rintro⟨h0,y,hy,hp⟩
  rw[jE h0 hy]
  exact hp
theorem bH{w:Nw}{g x:Int}:w.first g x↔(0<g∧aD w x=g∧∀y,aD w y=g→y≠x→aN w x y=true):=by
 constructor
 ·rintro⟨h1,h2,⟨e,he⟩,h4⟩
  refine⟨h1,jE h2 he,fun y hy aM=>?_⟩
  obtain⟨y0,_,e',im⟩:=aC (w:=w) (x:=y) (by omega)
  rw[hy]at im
  exact h4 y y0 ⟨e',im⟩ aM
 ·rintro⟨h1,h2,h3⟩
  obtain⟨x0,_,e,he⟩:=aC (w:=w) (x:=x) (by omega)
  rw[h2]at he
  exact⟨h1,x0,⟨e,he⟩,fun y y0 ⟨e',im⟩ aM=>h3 y (jE y0 im) aM⟩
theorem s8{w:Nw}{g:Int}(hg:0<g):w.len g=0↔∀x,aD w x≠g:=by
 rw[Nw.Gr]
 constructor
 ·rintro(h|h) x hx
  ·omega
  ·obtain⟨_,_,e,he⟩:=aC (w:=w) (x:=x) (by omega)
   exact h _ _ he hx
 ·intro h
  refine .inr fun i c hc e=>h (i:Int) ?_
  rw[jE (y:=c) (by omega) (by simpa using hc)]
  exact e
theorem dK{w:Nw}{i:Int}(hi:0≤i∧i<w.cs.length)(c:Ce)(x:Int):aD (w.put i c) x=if x=i then c.1 else aD w x:=by
 unfold aD Nw.put
 simp only
 by_cases hx:x=i
 ·subst hx
  rw[if_pos hi.1,if_pos rfl,anf,ani (by omega)]
  rfl
 ·rw[if_neg hx]
  split
  ·rw[anf,anh (by omega),anf]
  ·rfl
theorem Qp{lt:Int→Int→Bool}(hs:bm lt){P:Int→Prop}{n:Nat}(hP:∀x,P x→0≤x∧x<n){x:Int}(hx:P x):∃m,P m∧∀y,P y→y≠m→lt m y=true:=by
 have key:∀k:Nat,∀x,P x→((List.range n).countP fun(i:Nat)=>lt i x)≤k→∃m,P m∧∀y,P y→y≠m→lt m y=true:=by
  intro k
  induction k with
  |zero=>
   intro x hx hk
   refine⟨x,hx,fun y hy aM=>?_⟩
   rcases hs.M8 x y (Ne.symm aM)with h|h
   ·exact h
   ·have CB:=hP y hy
    have:=(aoI.1 (Nat.le_zero.1 hk)) y.toNat (aog.2 (by omega))
    rw[show((y.toNat:Nat):Int)=y by omega]at this
    exact absurd h this
  |succ k ih=>
   intro x hx hk
   by_cases hz:∃y,P y∧lt y x=true
   ·obtain⟨y,hy,hl⟩:=hz
    refine ih y hy ?_
    have CB:=hP y hy
    have h9:(List.range n).countP (fun(i:Nat)=>lt i y)< (List.range n).countP fun(i:Nat)=>lt i x:=by
     refine ph (fun i hi=>hs.tr _ _ _ hi hl) (x:=y.toNat) (aog.2 (by omega)) ?_ ?_
     ·rw[show((y.toNat:Nat):Int)=y by omega];exact hs.ua _
     ·rw[show((y.toNat:Nat):Int)=y by omega];exact hl
    omega
   ·refine⟨x,hx,fun y hy aM=>?_⟩
    rcases hs.M8 x y (Ne.symm aM)with h|h
    ·exact h
    ·exact absurd ⟨y,hy,h⟩ hz
 exact key _ x hx (ano _)
theorem te{w:Nw}{g:Int}(hg:0<g)(h:w.len g≠0):∃x,w.first g x:=by
 have h1:¬ ∀x,aD w x≠g:=fun hn=>h ((s8 hg).2 hn)
 obtain⟨x,hx⟩:=Classical.not_forall.1 h1
 have hx:=Classical.not_not.1 hx
 obtain⟨m,hm,hl⟩:=Qp (aq w) (P:=fun x=>aD w x=g) (n:=w.cs.length) (fun x hx=>by obtain⟨a,b,_⟩:=aC (w:=w) (x:=x) (by omega);omega) hx
 exact⟨m,bH.2 ⟨hg,hm,hl⟩⟩
theorem di{w:Nw}{i:Int}(hi:0≤i∧i<w.cs.length)(c:Ce){a b:Int}(ha:0<aD w a)(hb:0<aD w b)(XW:a≠i)(hbi:b≠i):aN (w.put i c) a b=aN w a b:=by
 obtain⟨a0,_⟩:=aC ha
 obtain⟨b0,_⟩:=aC hb
 exact gN w i c (by omega) (by omega)
theorem zM{w:Nw}{i k s:Int}(bE:cS w.cs i){y:Ce}(hy:w.cs[i.toNat]? =some y)(hl:¬eX y.2.1 y.2.2 k s){b:Int}(hb:0<aD w b)(hbi:b≠i)(h:aN w i b=true):aN (w.put i (y.1,k,s)) i b=true:=by
 obtain⟨b0,_⟩:=aC hb
 have Ej:=bE.1
 have oF:=(ana.1 hy).1
 have k1:(w.put i (y.1,k,s)).key i=k∧(w.put i (y.1,k,s)).seq i=s:=by
  unfold Nw.key Nw.seq Nw.put
  simp only[anf]
  rw[ani oF]
  exact⟨rfl,rfl⟩
 have k2:w.key i=y.2.1∧w.seq i=y.2.2:=by
  unfold Nw.key Nw.seq
  simp only[anf,hy]
  exact⟨rfl,rfl⟩
 have k3:(w.put i (y.1,k,s)).key b=w.key b∧(w.put i (y.1,k,s)).seq b=w.seq b:=by
  unfold Nw.key Nw.seq Nw.put
  simp only[anf]
  rw[anh (by omega)]
  exact⟨rfl,rfl⟩
 unfold aN at h ⊢
 rw[k2.1,k2.2]at h
 rw[k1.1,k1.2,k3.1,k3.2]
 unfold eX at hl
 simp only[anF]at h ⊢
 omega
def CQ(H:Hp)(c:Nat)(C:Nat→Prop)(w:Nw):Prop:=∃st,aY H c C st w
section
variable {H H' : Hp} {c : Nat} {C T : Nat → Prop} {w : Nw}
theorem CQ.ext(h:CQ H c C w)(e:ag T H H')(hd:∀x,C x→¬T x):CQ H' c C w:=by obtain⟨st,h⟩:=h;exact⟨st,h.ext e hd⟩
theorem CQ.fresh(h:CQ H c C w)(e:ah H H'):CQ H' c C w:=h.ext e fun _ _ h=>h
theorem CQ.slt(h:CQ H c C w):∀x,C x→x<H.size:=by obtain⟨st,h⟩:=h;exact h.slt
theorem CQ.NQ(h:CQ H c C w):C c:=by obtain⟨st,h⟩:=h;exact h.NQ
theorem CQ.CY(h:CQ H c C w):w.cs.length≤65536:=by obtain⟨st,h⟩:=h;exact h.CY
theorem CQ.yD(h:CQ H c C w):w.hs.length≤65537:=by obtain⟨st,h⟩:=h;exact h.yD
theorem CQ.home(h:CQ H c C w):∀x∈w.cs,0≤x.1∧x.1<w.hs.length:=by obtain⟨st,h⟩:=h;exact h.home
theorem CQ.live(h:CQ H c C w):∀x∈w.cs,0<x.1→w.hs[x.1.toNat]? =some true:=by obtain⟨st,h⟩:=h;exact h.live
theorem CQ.hm(h:CQ H c C w)(x:Int):0≤aD w x∧(0<aD w x→w.has (aD w x)∧aD w x<w.hs.length):=by
 by_cases h0:0<aD w x
 ·obtain⟨h1,h2,e,he⟩:=aC h0
  have hm:=ang he
  have:=h.home _ hm
  have hl:=h.live _ hm h0
  exact⟨by omega,fun _=>⟨⟨by omega,hl⟩,this.2⟩⟩
 ·refine⟨?_,fun h=>absurd h h0⟩
  unfold aD
  split
  ·rw[anf]
   cases hc:w.cs[x.toNat]? with
   |none=>exact aoE _
   |some y=>exact(h.home y (ang hc)).1
  ·exact aoE _
theorem CQ.pos(h:CQ H c C w):0<w.hs.length:=by
 obtain⟨st,cs,len,rt,aO,h1,h2⟩:=h
 exact(ana.1 h2.h0).1
theorem cA(h:CQ H c C w)(a b:Int):af Tryz.prog cG [ptr c,i64 a,i64 b] H fun v H'=>ar (v= .bool (w.ahead a b)∧CQ H' c C w∧ag C H H'):=by
 obtain⟨st,h⟩:=h
 refine(iV h a b).mono ?_
 rintro v H' ⟨h1,h2,h3⟩
 exact⟨h1,⟨_,h2⟩,h3⟩
theorem tf(h:CQ H c C w)(i:Int):af Tryz.prog iH [ptr c,i64 i] H fun v H'=>ar (v=i64 (w.len i)∧H=H'):=by
 obtain⟨st,h⟩:=h
 exact qZ h i
theorem iq(h:CQ H c C w)(i:Int):af Tryz.prog bz [ptr c,i64 i] H fun v H'=>ar (v= .bool (decide (w.has i))∧H=H'):=by
 obtain⟨st,h⟩:=h
 exact gM h i
theorem iW(h:CQ H c C w):af Tryz.prog df [ptr c] H fun v H'=>ar (
  (w.hs.length=65537∧v=i64 0∧H=H')∨(w.hs.length≠65537∧v=i64 w.hs.length∧∃C',CQ H' c C' w.make∧ag C H H'∧∀x,C' x→C x∨H.size≤x)):=by
 obtain⟨st,h⟩:=h
 refine(jC h).mono ?_
 rintro v H' (h1| ⟨h1,h2,S',h3,h4⟩)
 ·exact .inl h1
 ·exact .inr ⟨h1,h2,S',⟨_,h3⟩,h4⟩
theorem j9(h:CQ H c C w)(g i k s:Int):af Tryz.prog iI [ptr c,i64 g,i64 i,rZ k s] H fun v H'=>ar (
  (¬ (w.has g∧(0≤i∧i<w.cs.length)∧¬cS w.cs i)∧v= .bool false∧CQ H' c C w∧ag C H H')∨
  ((w.has g∧(0≤i∧i<w.cs.length)∧¬cS w.cs i)∧v= .bool true∧CQ H' c C (w.put i (g,k,s))∧ag C H H')):=by
 obtain⟨st,h⟩:=h
 refine(kO h g i k s).mono ?_
 rintro v H' (⟨h1,h2,h3,h4⟩| ⟨h1,h2,h3,h4⟩)
 ·exact .inl ⟨h1,h2,⟨_,h3⟩,h4⟩
 ·exact .inr ⟨h1,h2,⟨_,h3⟩,h4⟩
theorem c9(h:CQ H c C w)(i:Int):af Tryz.prog gQ [ptr c,i64 i] H fun v H'=>ar (
  (¬cS w.cs i∧v= .tuple [i64 0,.bool false].toArray∧H=H')∨(cS w.cs i∧v= .tuple [i64 (aD w i),.bool true].toArray∧CQ H' c C w∧ag C H H')):=by
 obtain⟨st,h⟩:=h
 refine(dZ h i).mono ?_
 rintro v H' (h1| ⟨h1,x,hx,h2,h3,h4⟩)
 ·exact .inl h1
 ·exact .inr ⟨h1,by rw[h2,jE h1.1 hx],⟨_,h3⟩,h4⟩
theorem gD(h:CQ H c C w)(i:Int):af Tryz.prog aZ [ptr c,i64 i] H fun v H'=>ar (CQ H' c C w∧ah H H'∧(
  (¬cS w.cs i∧v= .tuple [rZ 0 0,.bool false].toArray)∨(cS w.cs i∧∃x,w.cs[i.toNat]? =some x∧v= .tuple [rZ x.2.1 x.2.2,.bool true].toArray))):=by
 obtain⟨st,h⟩:=h
 refine(iT h i).mono ?_
 rintro v H' ⟨h1,h2,h3⟩
 exact⟨⟨_,h1⟩,h2,h3⟩
theorem bY(h:CQ H c C w)(i:Int):af Tryz.prog gR [ptr c,i64 i] H fun v H'=>ar (
  (¬cS w.cs i∧v= .bool false∧H=H')∨(cS w.cs i∧v= .bool true∧CQ H' c C (w.put i (0,0,0))∧ag C H H')):=by
 obtain⟨st,h⟩:=h
 refine(jD h i).mono ?_
 rintro v H' (h1| ⟨h1,h2,h3,h4⟩)
 ·exact .inl h1
 ·exact .inr ⟨h1,h2,⟨_,h3⟩,h4⟩
theorem gE(h:CQ H c C w)(i k s:Int):af Tryz.prog gm [ptr c,i64 i,rZ k s] H fun v H'=>ar (
  (¬ (cS w.cs i∧∀x,w.cs[i.toNat]? =some x→¬eX x.2.1 x.2.2 k s)∧v= .bool false∧CQ H' c C w∧ah H H')∨
  (cS w.cs i∧v= .bool true∧∃x,w.cs[i.toNat]? =some x∧¬eX x.2.1 x.2.2 k s∧CQ H' c C (w.put i (x.1,k,s))∧ag C H H')):=by
 obtain⟨st,h⟩:=h
 refine(iU h i k s).mono ?_
 rintro v H' (⟨h1,h2,h3,h4⟩| ⟨h1,h2,x,h3,h4,h5,h6⟩)
 ·exact .inl ⟨h1,h2,⟨_,h3⟩,h4⟩
 ·exact .inr ⟨h1,h2,x,h3,h4,⟨_,h5⟩,h6⟩
end
theorem ke(cap:Int)(H:Hp):af Tryz.prog sw [i64 cap] H fun v H'=>ar (
  ah H H'∧((¬ (0≤cap∧cap≤65536)∧v= .tuple [.pointer none,i64 31].toArray)∨
   (0≤cap∧cap≤65536)∧∃c C,v= .tuple [ptr c,i64 0].toArray∧CQ H' c C ⟨[false],List.replicate cap.toNat (0,0,0)⟩∧(∀x,C x→H.size≤x))):=by
 refine(kN cap H).mono ?_
 rintro v H' ⟨h1,h2| ⟨h2,c,C,h3,h4,h5⟩⟩
 ·exact⟨h1,.inl h2⟩
 ·exact⟨h1,.inr ⟨h2,c,C,h3,⟨_,h4⟩,h5⟩⟩
theorem gF{w:Nw}{a b:Int}(ha:0<aD w a)(hb:0<aD w b):w.ahead a b=aN w a b:=Bx (bk.1 ha) (bk.1 hb)
def bh(tops:List Int)(h:Int):Int:=if 0≤h then tops.getD h.toNat (-1)else -1
theorem dL{tops:List Int}{h:Int}(h0:0≤h)(hl:h<tops.length):tops[h.toNat]? =some (bh tops h):=by
 unfold bh
 rw[if_pos h0,anf]
 obtain⟨x,hx⟩:∃x,tops[h.toNat]? =some x:=⟨_,am8 (by omega)⟩
 rw[hx];rfl
theorem ec{tops:List Int}{h:Int}(h0:0≤h)(hl:h<tops.length)(x:Int):bh (tops.set h.toNat x)=iD (bh tops) h x:=by
 funext y
 show bh _ y=if y=h then x else bh tops y
 by_cases hy:y=h
 ·subst hy
  unfold bh
  rw[if_pos h0,if_pos rfl,anf,ani (by omega)]
  rfl
 ·rw[if_neg hy]
  unfold bh
  split
  ·rw[anf,anh (by omega),anf]
  ·rfl
theorem zN(tops:List Int):bh (tops++[-1])=bh tops:=by
 funext y
 unfold bh
 split
 ·rw[anf,anf]
  by_cases hy:y.toNat<tops.length
  ·rw[anq hy]
  ·rw[anE (by omega),ans (l:=tops) (by omega)]
   by_cases h2:y.toNat - tops.length=0
   ·rw[h2];rfl
   ·rw[ans (by simp;omega)]
 ·rfl
end Go.Proofs.YtjlnnljohemifaaGreat

namespace Go.Proofs.YtjlnnljohemifaaGreat
open Go Go.Vc
structure Lk where
 a:Int
 b:Int
 u:Int
def Qq(y:Lk):List Value:=[i64 y.a,i64 y.b,i64 y.u]
def aJ(L:List Lk):List Value:=L.flatMap Qq
theorem ir(L:List Lk):(aJ L).length=L.length*3:=by
 induction L with
 |nil=>rfl
 |cons c r ih=>simp only[aJ,aoR,ank,Qq,anw,aoi]at*;omega
def Lk.nS(y:Lk)(c:Bool):Int:=if c then y.b else y.a
def Lk.fC(y:Lk)(c:Bool)(v:Int):Lk:=if c then⟨y.a,v,y.u⟩else⟨v,y.b,y.u⟩
theorem Lk.SL(y:Lk)(c d:Bool)(v:Int):(y.fC c v).nS d=if d=c then v else y.nS d:=by cases c<;>cases d<;>rfl
theorem Lk.ZC(y:Lk)(c:Bool)(v:Int):(y.fC c v).u=y.u:=by cases c<;>rfl
theorem Nl{L:List Lk}{i:Nat}{y:Lk}(hi:L[i]? =some y):(aJ L)[i*3]? =some (i64 y.a)∧(aJ L)[i*3+1]? =some (i64 y.b)∧(aJ L)[i*3+2]? =some (i64 y.u):=by
 induction L generalizing i with
 |nil=>simp at hi
 |cons a r ih=>
  have e:aJ (a::r)=i64 a.a::i64 a.b::i64 a.u::aJ r:=rfl
  rw[e]
  cases i with
  |zero=>simp at hi;subst hi;exact⟨rfl,rfl,rfl⟩
  |succ i=>
   have:=ih (by simpa using hi)
   rw[show(i+1)*3=i*3+3 by omega]
   exact this
theorem Vr{L:List Lk}{i:Nat}{y:Lk}(hi:L[i]? =some y)(c:Bool):(aJ L)[i*3+c.toNat]? =some (i64 (y.nS c)):=by
 obtain⟨h1,h2,h3⟩:=Nl hi
 cases c
 ·exact h1
 ·exact h2
theorem uh{L:List Lk}{i:Nat}{y:Lk}(hi:L[i]? =some y)(c:Bool)(v:Int):(aJ L).set (i*3+c.toNat) (i64 v)=aJ (L.set i (y.fC c v)):=by
 induction L generalizing i with
 |nil=>simp at hi
 |cons a r ih=>
  have e:aJ (a::r)=i64 a.a::i64 a.b::i64 a.u::aJ r:=rfl
  cases i with
  |zero=>
   simp at hi;subst hi
   cases c<;>rfl
  |succ i=>
   have e2:aJ ((a::r).set (i+1) (y.fC c v))=i64 a.a::i64 a.b::i64 a.u::aJ (r.set i (y.fC c v)):=rfl
   rw[e,e2,show(i+1)*3+c.toNat=i*3+c.toNat+1+1+1 by omega]
   simp only[anV]
   rw[ih (by simpa using hi)]
theorem Er{L:List Lk}{i:Nat}{y:Lk}(hi:L[i]? =some y)(v:Int):(aJ L).set (i*3+2) (i64 v)=aJ (L.set i ⟨y.a,y.b,v⟩):=by
 induction L generalizing i with
 |nil=>simp at hi
 |cons a r ih=>
  have e:aJ (a::r)=i64 a.a::i64 a.b::i64 a.u::aJ r:=rfl
  cases i with
  |zero=>simp at hi;subst hi;rfl
  |succ i=>
   have e2:aJ ((a::r).set (i+1) ⟨y.a,y.b,v⟩)=i64 a.a::i64 a.b::i64 a.u::aJ (r.set i ⟨y.a,y.b,v⟩):=rfl
   rw[e,e2,show(i+1)*3+2=i*3+2+1+1+1 by omega]
   simp only[anV]
   rw[ih (by simpa using hi)]
def aX(L:List Lk)(x:Int)(c:Bool):Int:=if 0≤x then(match L[x.toNat]? with|some y=>y.nS c|none=> -1)else -1
def bi(L:List Lk)(x:Int):Int:=if 0≤x then(match L[x.toNat]? with|some y=>y.u|none=> -1)else -1
theorem nB{L:List Lk}{x:Int}{y:Lk}(h0:0≤x)(h:L[x.toNat]? =some y)(c:Bool):aX L x c=y.nS c:=by unfold aX;rw[if_pos h0,h]
theorem tg{L:List Lk}{x:Int}{y:Lk}(h0:0≤x)(h:L[x.toNat]? =some y):bi L x=y.u:=by unfold bi;rw[if_pos h0,h]
theorem Qr{L:List Lk}{x:Int}(h:¬ (0≤x∧x<L.length))(c:Bool):aX L x c= -1:=by
 unfold aX
 split
 ·rw[ans (by omega)]
 ·rfl
theorem LS{L:List Lk}{x:Int}(h:¬ (0≤x∧x<L.length)):bi L x= -1:=by
 unfold bi
 split
 ·rw[ans (by omega)]
 ·rfl
theorem qi{L:List Lk}{p:Int}{y:Lk}(h0:0≤p)(h:L[p.toNat]? =some y)(c:Bool)(v:Int):aX (L.set p.toNat (y.fC c v))=dW (aX L) p c v:=by
 have aK:=(ana.1 h).1
 funext z d
 unfold dW
 by_cases hz:z=p
 ·subst hz
  rw[nB h0 (ani aK),Lk.SL,nB h0 h]
  by_cases hd:d=c<;>simp[hd]
 ·rw[if_neg (fun h=>hz h.1)]
  unfold aX
  split
  ·rw[anh (by omega)]
  ·rfl
theorem qj{L:List Lk}{p:Int}{y:Lk}(h0:0≤p)(h:L[p.toNat]? =some y)(c:Bool)(v:Int):bi (L.set p.toNat (y.fC c v))=bi L:=by
 have aK:=(ana.1 h).1
 funext z
 by_cases hz:z=p
 ·subst hz
  rw[tg h0 (ani aK),Lk.ZC,tg h0 h]
 ·unfold bi
  split
  ·rw[anh (by omega)]
  ·rfl
theorem By{L:List Lk}{p:Int}{y:Lk}(h0:0≤p)(h:L[p.toNat]? =some y)(v:Int):aX (L.set p.toNat ⟨y.a,y.b,v⟩)=aX L:=by
 have aK:=(ana.1 h).1
 funext z d
 by_cases hz:z=p
 ·subst hz
  rw[nB h0 (ani aK),nB h0 h]
  rfl
 ·unfold aX
  split
  ·rw[anh (by omega)]
  ·rfl
theorem Bz{L:List Lk}{p:Int}{y:Lk}(h0:0≤p)(h:L[p.toNat]? =some y)(v:Int):bi (L.set p.toNat ⟨y.a,y.b,v⟩)=aE (bi L) p v:=by
 have aK:=(ana.1 h).1
 funext z
 unfold aE
 by_cases hz:z=p
 ·subst hz
  rw[tg h0 (ani aK),if_pos rfl]
 ·rw[if_neg hz]
  unfold bi
  split
  ·rw[anh (by omega)]
  ·rfl
structure bK(H:Hp)(t tl:Nat)(L:List Lk):Prop where
 own:H.own t=some [.slice (some ⟨tl,0,none⟩) L.length L.length]
 kg:H.own tl=some (aJ L)
 ne:t≠tl
theorem bK.ext{S:Nat→Prop}{H H':Hp}{t tl:Nat}{L:List Lk}(h:bK H t tl L)(e:ag S H H')(h1:¬S t)(h2:¬S tl):bK H' t tl L:=⟨e.own h.own h1,e.own h.kg h2,h.ne⟩
theorem bK.fresh{H H':Hp}{t tl:Nat}{L:List Lk}(h:bK H t tl L)(e:ah H H'):bK H' t tl L:=h.ext e (fun h=>h) (fun h=>h)
theorem bK.put{H:Hp}{t tl:Nat}{L L':List Lk}(h:bK H t tl L)(hl:L'.length=L.length):bK (H.wr tl (aJ L')) t tl L':=
 ⟨by rw[jB h.ne.symm,hl];exact h.own,ai h.kg,h.ne⟩
section
variable {H : Hp} {t tl : Nat} {L : List Lk}
theorem fD(h:bK H t tl L)(x:Int):af Tryz.prog yY [ptr t,i64 x] H fun v H'=>ar (v= .bool (decide (0≤x∧x<L.length))∧H'=H):=by
 refine aP zu ?_
 refine vs ?_
 refine ak.dec (fun g=>?_) (fun g=>?_)<;>refine v1 (ae h.own) ?_
 ·exact⟨anx Value.bool (by rw[decide_eq_decide];omega),rfl⟩
 ·exact⟨anx Value.bool (anD (by omega)).symm,rfl⟩
theorem kP(H:Hp)(c:Bool):af Tryz.prog HU [.bool c] H fun v H'=>ar (v=i64 c.toNat∧H'=H):=by
 refine aP Ib ?_
 refine vs ?_
 cases c<;>refine vs ?_<;>exact⟨rfl,rfl⟩
def fY(x:Int):Value:=if x= -1 then .tuple [i64 0,.bool false].toArray else .tuple [i64 x,.bool true].toArray
theorem kQ(H:Hp)(x:Int):af Tryz.prog HV [i64 x] H fun v H'=>ar (v=fY x∧H'=H):=by
 refine aP Ic ?_
 refine vs ?_
 unfold fY
 refine ak.dec (fun g=>?_) (fun g=>?_)<;>refine vs ?_
 ·rw[if_pos g];exact⟨rfl,rfl⟩
 ·rw[if_neg g];exact⟨rfl,rfl⟩
theorem iX(h:bK H t tl L)(x:Int)(c:Bool):af Tryz.prog yX [ptr t,i64 x,.bool c] H fun v H'=>ar (v=i64 (aX L x c)∧H'=H):=by
 refine aP zt ?_
 refine vs ?_
 refine(fD h x).mono ?_
 rintro _ H' ⟨rfl,e⟩
 obtain rfl:=e.symm
 refine vs ?_
 refine ak.dec (fun g=>?_) (fun g=>?_)<;>refine vs ?_
 ·obtain⟨y,hy⟩:∃y,L[x.toNat]? =some y:=⟨_,am8 (by omega)⟩
  have hk:=Vr hy c
  have hc:c.toNat<2:=by cases c<;>decide
  refine v1 (ae h.own) ?_
  refine⟨_,kP H c,?_⟩
  refine⟨⟨by omega,by omega⟩,?_⟩
  refine v4 am9 Nat.add_zero ane Int.toNat_natCast ?_
  refine⟨⟨by omega,by omega⟩,?_⟩
  refine v6 (ae h.kg) am9 Nat.add_zero ane Int.toNat_natCast hk ?_
  rw[nB g.1 hy]
  exact⟨rfl,rfl⟩
 ·rw[Qr g]
  exact⟨rfl,rfl⟩
theorem jF(h:bK H t tl L)(x:Int):af Tryz.prog uZ [ptr t,i64 x] H fun v H'=>ar (v=i64 (bi L x)∧H'=H):=by
 refine aP vI ?_
 refine vs ?_
 refine(fD h x).mono ?_
 rintro _ H' ⟨rfl,e⟩
 obtain rfl:=e.symm
 refine vs ?_
 refine ak.dec (fun g=>?_) (fun g=>?_)<;>refine vs ?_
 ·obtain⟨y,hy⟩:∃y,L[x.toNat]? =some y:=⟨_,am8 (by omega)⟩
  have hk:=(Nl hy).2.2
  refine v1 (ae h.own) ?_
  refine⟨by omega,?_⟩
  refine v3 (ae h.kg) am9 hk ?_
  rw[tg g.1 hy]
  exact⟨rfl,rfl⟩
 ·rw[LS g]
  exact⟨rfl,rfl⟩
theorem kR(h:bK H t tl L)(x:Int):af Tryz.prog xj [ptr t,i64 x] H fun v H'=>ar (v=fY (aX L x false)∧H'=H):=by
 refine aP xL ?_
 refine vs ?_
 refine(iX h x false).mono ?_
 rintro _ H' ⟨rfl,e⟩
 obtain rfl:=e.symm
 refine vs ?_
 refine(kQ H (aX L x false)).mono ?_
 rintro _ H' ⟨rfl,e⟩
 obtain rfl:=e.symm
 unfold fY
 by_cases g:aX L x false= -1
 ·simp only[if_pos g]
  refine vs ?_
  exact⟨(if_pos g).symm,rfl⟩
 ·simp only[if_neg g]
  refine vs ?_
  exact⟨(if_neg g).symm,rfl⟩
theorem ci(h:bK H t tl L)(x:Int):af Tryz.prog uY [ptr t,i64 x] H fun v H'=>ar (v=fY (aX L x true)∧H'=H):=by
 refine aP vH ?_
 refine vs ?_
 refine(iX h x true).mono ?_
 rintro _ H' ⟨rfl,e⟩
 obtain rfl:=e.symm
 refine vs ?_
 refine(kQ H (aX L x true)).mono ?_
 rintro _ H' ⟨rfl,e⟩
 obtain rfl:=e.symm
 unfold fY
 by_cases g:aX L x true= -1
 ·simp only[if_pos g]
  refine vs ?_
  exact⟨(if_pos g).symm,rfl⟩
 ·simp only[if_neg g]
  refine vs ?_
  exact⟨(if_neg g).symm,rfl⟩
theorem nD(h:bK H t tl L)(x:Int):af Tryz.prog AV [ptr t,i64 x] H fun v H'=>ar (v=fY (bi L x)∧H'=H):=by
 refine aP Bg ?_
 refine vs ?_
 refine(jF h x).mono ?_
 rintro _ H' ⟨rfl,e⟩
 obtain rfl:=e.symm
 refine vs ?_
 refine(kQ H (bi L x)).mono ?_
 rintro _ H' ⟨rfl,e⟩
 obtain rfl:=e.symm
 unfold fY
 by_cases g:bi L x= -1
 ·simp only[if_pos g]
  refine vs ?_
  exact⟨(if_pos g).symm,rfl⟩
 ·simp only[if_neg g]
  refine vs ?_
  exact⟨(if_neg g).symm,rfl⟩
theorem eJ(h:bK H t tl L){p x:Int}{c:Bool}(hp:0≤p∧p<L.length)(hx:0≤x∧x<L.length)(dA:p≠x)(hu:bi L x= -1)(hk:aX L p c= -1):
  af Tryz.prog xk [ptr t,i64 p,i64 x,.bool c] H fun v H'=>ar (v= .bool true∧∃L',bK H' t tl L'∧L'.length=L.length∧aX L'=sn (aX L) p x c∧bi L'=aE (bi L) x p∧ag (fun z=>z=tl) H H'):=by
 refine aP xM ?_
 refine vs ?_
 refine(fD h p).mono ?_
 rintro _ H' ⟨rfl,e⟩
 obtain rfl:=e.symm
 rw[anp hp]
 refine vs ?_
 refine(fD h x).mono ?_
 rintro _ H' ⟨rfl,e⟩
 obtain rfl:=e.symm
 rw[anp hx]
 refine vs ?_
 refine ak.dec (fun g=>absurd g dA) (fun _=>?_)
 refine vs ?_
 refine(jF h x).mono ?_
 rintro _ H' ⟨rfl,e⟩
 obtain rfl:=e.symm
 rw[hu]
 refine v1 anT ?_
 refine(iX h p c).mono ?_
 rintro _ H' ⟨rfl,e⟩
 obtain rfl:=e.symm
 rw[hk]
 refine v1 anT ?_
 obtain⟨y,hy⟩:∃y,L[p.toNat]? =some y:=⟨_,am8 (by omega)⟩
 have hc:c.toNat<2:=by cases c<;>decide
 have ny:=ir L
 refine v1 (ae h.own) ?_
 refine⟨_,kP H c,?_⟩
 refine⟨⟨by omega,by omega⟩,?_⟩
 refine v4 am9 Nat.add_zero ane Int.toNat_natCast ?_
 refine⟨⟨by omega,by omega⟩,?_⟩
 refine v5 h.kg am9 Nat.add_zero ane Int.toNat_natCast ?_
 refine⟨by omega,?_⟩
 have h1:=h.put (L':=L.set p.toNat (y.fC c x)) (by rw[anb])
 have e1:ag (fun z=>z=tl) H (H.wr tl (aJ (L.set p.toNat (y.fC c x)))):=(ag.refl (fun z=>z=tl) _).wr (fun _=>rfl) _
 rw[←uh hy c x]at h1 e1
 have k1:=qi hp.1 hy c x
 have u1:=qj hp.1 hy c x
 have l1:(L.set p.toNat (y.fC c x)).length=L.length:=anb ..
 generalize L.set p.toNat (y.fC c x)=L1 at*
 refine vs ?_
 generalize H.wr tl ((aJ L).set (p.toNat*3+c.toNat) (i64 x))=H1 at*
 obtain⟨y1,Ln⟩:∃y,L1[x.toNat]? =some y:=⟨_,am8 (by omega)⟩
 have aeo:=ir L1
 refine v1 (ae h1.own) ?_
 refine⟨by omega,?_⟩
 refine v2 h1.kg am9 ?_
 refine⟨by omega,?_⟩
 have h2:=h1.put (L':=L1.set x.toNat ⟨y1.a,y1.b,p⟩) (by rw[anb])
 have e2:ag (fun z=>z=tl) H1 (H1.wr tl (aJ (L1.set x.toNat ⟨y1.a,y1.b,p⟩))):=(ag.refl (fun z=>z=tl) _).wr (fun _=>rfl) _
 rw[←Er Ln p]at h2 e2
 refine vs ?_
 exact⟨rfl,_,h2,by rw[anb,l1],by rw[By hx.1 Ln,k1];rfl,by rw[Bz hx.1 Ln,u1],e1.trans e2⟩
theorem cC(h:bK H t tl L){x:Int}(hv:bi L x≠ -1→0≤bi L x∧bi L x<L.length):
  af Tryz.prog yW [ptr t,i64 x] H fun v H'=>ar (v=fY (bi L x)∧∃L',bK H' t tl L'∧L'.length=L.length∧aX L'=iz (aX L) (bi L) x∧bi L'=cV (bi L) x∧ag (fun z=>z=tl) H H'):=by
 refine aP zr ?_
 refine vs ?_
 refine(jF h x).mono ?_
 rintro _ H' ⟨rfl,e⟩
 obtain rfl:=e.symm
 refine vs ?_
 have ny:=ir L
 refine ak.dec (fun g=>?_) (fun g=>?_)<;>refine vs ?_
 ·refine⟨by unfold fY;rw[if_pos g];rfl,L,h,rfl,by unfold iz;rw[if_pos g],?_,ag.refl _ _⟩
  funext z
  unfold cV aE
  split
  ·rename_i hz;rw[hz,g]
  ·rfl
 have hx:0≤x∧x<L.length:=anC fun hn=>g (LS hn)
 obtain⟨p0,p1⟩:=hv g
 generalize hpe:bi L x=p at*
 obtain⟨y,hy⟩:∃y,L[p.toNat]? =some y:=⟨_,am8 (by omega)⟩
 have hc:∀c:Bool,c.toNat<2:=fun c=>by cases c<;>decide
 refine v1 (ae h.own) ?_
 refine⟨_,iX h p true,?_⟩
 refine vs ?_
 refine⟨_,kP H (decide (aX L p true=x)),?_⟩
 have Vs:decide (aX L p true=x)=(aX L p true==x):=by by_cases e:aX L p true=x<;>simp[e]
 rw[Vs]
 have FG:=hc (aX L p true==x)
 generalize hce:(aX L p true==x)=c at*
 refine⟨⟨by omega,by omega⟩,?_⟩
 refine v4 am9 Nat.add_zero ane Int.toNat_natCast ?_
 refine⟨⟨by omega,by omega⟩,?_⟩
 refine v5 h.kg am9 Nat.add_zero ane Int.toNat_natCast ?_
 refine⟨by omega,?_⟩
 have h1:=h.put (L':=L.set p.toNat (y.fC c (-1))) (by rw[anb])
 have e1:ag (fun z=>z=tl) H (H.wr tl (aJ (L.set p.toNat (y.fC c (-1))))):=(ag.refl (fun z=>z=tl) _).wr (fun _=>rfl) _
 rw[←uh hy c (-1)]at h1 e1
 have k1:=qi p0 hy c (-1)
 have u1:=qj p0 hy c (-1)
 have l1:(L.set p.toNat (y.fC c (-1))).length=L.length:=anb ..
 generalize L.set p.toNat (y.fC c (-1))=L1 at*
 refine vs ?_
 generalize H.wr tl ((aJ L).set (p.toNat*3+c.toNat) (i64 (-1)))=H1 at*
 obtain⟨y1,Ln⟩:∃y,L1[x.toNat]? =some y:=⟨_,am8 (by omega)⟩
 have aeo:=ir L1
 refine v1 (ae h1.own) ?_
 refine⟨by omega,?_⟩
 refine v2 h1.kg am9 ?_
 refine⟨by omega,?_⟩
 have h2:=h1.put (L':=L1.set x.toNat ⟨y1.a,y1.b, -1⟩) (by rw[anb])
 have e2:ag (fun z=>z=tl) H1 (H1.wr tl (aJ (L1.set x.toNat ⟨y1.a,y1.b, -1⟩))):=(ag.refl (fun z=>z=tl) _).wr (fun _=>rfl) _
 rw[←Er Ln (-1)]at h2 e2
 refine vs ?_
 refine⟨by unfold fY;rw[if_neg g];rfl,_,h2,by rw[anb,l1],?_,by rw[Bz hx.1 Ln,u1];rfl,e1.trans e2⟩
 rw[By hx.1 Ln,k1]
 unfold iz
 rw[hpe,if_neg g,hce]
theorem Qs{L:List Lk}{p:Int}{y:Lk}(h0:0≤p)(h:L[p.toNat]? =some y):aX (L.set p.toNat ⟨y.b,y.a,y.u⟩)=lT (aX L) p∧bi (L.set p.toNat ⟨y.b,y.a,y.u⟩)=bi L:=by
 have aK:=(ana.1 h).1
 constructor
 ·funext z d
  unfold lT
  by_cases hz:z=p
  ·subst hz
   rw[nB h0 (ani aK),if_pos rfl,nB h0 h]
   cases d<;>rfl
  ·rw[if_neg hz]
   unfold aX
   split
   ·rw[anh (by omega)]
   ·rfl
 ·funext z
  by_cases hz:z=p
  ·subst hz
   rw[tg h0 (ani aK),tg h0 h]
  ·unfold bi
   split
   ·rw[anh (by omega)]
   ·rfl
theorem LU{L:List Lk}{i:Nat}{y:Lk}(hi:L[i]? =some y):((aJ L).set (i*3) (i64 y.b)).set (i*3+1) (i64 y.a)=aJ (L.set i ⟨y.b,y.a,y.u⟩):=by
 induction L generalizing i with
 |nil=>simp at hi
 |cons a r ih=>
  have e:aJ (a::r)=i64 a.a::i64 a.b::i64 a.u::aJ r:=rfl
  cases i with
  |zero=>simp at hi;subst hi;rfl
  |succ i=>
   have e2:aJ ((a::r).set (i+1) ⟨y.b,y.a,y.u⟩)=i64 a.a::i64 a.b::i64 a.u::aJ (r.set i ⟨y.b,y.a,y.u⟩):=rfl
   rw[e,e2,show(i+1)*3=i*3+1+1+1 by omega,show i*3+1+1+1+1=i*3+1+1+1+1 by rfl]
   simp only[anV]
   rw[ih (by simpa using hi)]
theorem kS(h:bK H t tl L){p:Int}(hp:0≤p∧p<L.length):
  af Tryz.prog xl [ptr t,i64 p] H fun v H'=>ar (v= .bool true∧∃L',bK H' t tl L'∧L'.length=L.length∧aX L'=lT (aX L) p∧bi L'=bi L∧ag (fun z=>z=tl) H H'):=by
 refine aP xN ?_
 refine vs ?_
 refine(fD h p).mono ?_
 rintro _ H' ⟨rfl,e⟩
 obtain rfl:=e.symm
 rw[anp hp]
 obtain⟨y,hy⟩:∃y,L[p.toNat]? =some y:=⟨_,am8 (by omega)⟩
 have ny:=ir L
 obtain⟨a1,a2,a3⟩:=Nl hy
 refine v1 (ae h.own) ?_
 refine⟨by omega,?_⟩
 refine vs ?_
 have n1:Int.toNat 1=1:=rfl
 refine⟨⟨by omega,by omega⟩,?_⟩
 refine v8 (ae h.kg) am9 Nat.add_zero ane Int.toNat_zero n1 a1 a2 ?_
 refine⟨⟨by omega,by omega⟩,?_⟩
 refine v8 (ae h.kg) am9 Nat.add_zero ane Int.toNat_zero n1 a1 a2 ?_
 refine⟨⟨by omega,by omega⟩,?_⟩
 refine v6 h.kg am9 Nat.add_zero ane Int.toNat_zero n1 ?_
 refine⟨by omega,?_⟩
 refine vs ?_
 refine⟨⟨by omega,by omega⟩,?_⟩
 have o1:(H.wr tl ((aJ L).set (p.toNat*3) (i64 y.b))).own tl=_:=ai h.kg
 have e1:ag (fun z=>z=tl) H (H.wr tl ((aJ L).set (p.toNat*3) (i64 y.b))):=(ag.refl (fun z=>z=tl) _).wr (fun _=>rfl) _
 have w1:=e1.own h.own h.ne
 generalize H.wr tl ((aJ L).set (p.toNat*3) (i64 y.b))=H1 at*
 refine v6 o1 am9 Nat.add_zero ane Int.toNat_zero n1 ?_
 refine⟨by rw[anb];omega,?_⟩
 have e2:ag (fun z=>z=tl) H1 (H1.wr tl (((aJ L).set (p.toNat*3) (i64 y.b)).set (p.toNat*3+1) (i64 y.a))):=(ag.refl (fun z=>z=tl) _).wr (fun _=>rfl) _
 have o2:(H1.wr tl (((aJ L).set (p.toNat*3) (i64 y.b)).set (p.toNat*3+1) (i64 y.a))).own tl=_:=ai o1
 refine vs ?_
 obtain⟨k1,k2⟩:=Qs hp.1 hy
 refine⟨rfl,L.set p.toNat ⟨y.b,y.a,y.u⟩,⟨by rw[anb];exact e2.own w1 h.ne,by rw[←LU hy];exact o2,h.ne⟩,anb ..,k1,k2,e1.trans e2⟩
end
theorem Nn(n:Nat):cz [Value.int .i64 0,Value.int .i64 0,Value.int .i64 0] n=aJ (List.replicate n ⟨0,0,0⟩):=by
 unfold cz
 induction n with
 |zero=>rfl
 |succ n ih=>rw[anS,an9,ih,anS];rfl
theorem He{L:List Lk}{i:Nat}(hi:i<L.length)(y:Lk):bf (aJ L) (i*3) [i64 y.a,i64 y.b,i64 y.u]=aJ (L.set i y):=by
 simp only[bf]
 induction L generalizing i with
 |nil=>simp at hi
 |cons a r ih=>
  have e:aJ (a::r)=i64 a.a::i64 a.b::i64 a.u::aJ r:=rfl
  cases i with
  |zero=>rfl
  |succ i=>
   have e2:aJ ((a::r).set (i+1) y)=i64 a.a::i64 a.b::i64 a.u::aJ (r.set i y):=rfl
   rw[e,e2,show(i+1)*3=i*3+1+1+1 by omega]
   simp only[anV]
   rw[ih (by simpa using hi)]
def jj:Lk:=⟨-1, -1, -1⟩
theorem th(H:Hp){n:Int}(hn:0≤n∧n≤65536):af Tryz.prog Jv [i64 n] H fun v H'=>ar (∃t tl,v= .tuple [ptr t,i64 0].toArray∧bK H' t tl (List.replicate n.toNat jj)∧ah H H'∧H.size≤t∧H.size≤tl):=by
 refine aP JE ?_
 refine vs ?_
 refine ak.dec (fun g=>absurd g (by omega)) (fun _=>?_)
 refine vs ?_
 refine ak.dec (fun g=>absurd g (by omega)) (fun _=>?_)
 refine vs ?_
 refine⟨⟨by omega,by omega,by omega,by omega⟩,?_⟩
 refine vs ?_
 rw[Nn]
 have f0:ah H ((H.new 322 (aJ (List.replicate n.toNat ⟨0,0,0⟩))).new 320 [.slice (some ⟨H.size,0,none⟩) n.toNat n.toNat]):=((ag.refl _ _).new _ _).new _ _
 have t0:bK ((H.new 322 (aJ (List.replicate n.toNat ⟨0,0,0⟩))).new 320 [.slice (some ⟨H.size,0,none⟩) n.toNat n.toNat]) (H.size+1) H.size (List.replicate n.toNat ⟨0,0,0⟩):=by
  refine⟨?_,?_,by omega⟩
  ·rw[anX]
   exact aQ (by simp only[am])
  ·rw[ce (by simp only[am];omega),ax]
 generalize (H.new 322 (aJ (List.replicate n.toNat ⟨0,0,0⟩))).new 320 [.slice (some ⟨H.size,0,none⟩) n.toNat n.toNat]=H1 at*
 have ow:=t0.own
 rw[anX]at ow
 refine aT.intro (fun m env H'=>∃j:Nat,m=n.toNat - j∧j≤n.toNat∧ag (fun z=>z=H.size) H1 H'∧bK H' (H.size+1) H.size (List.replicate j jj++List.replicate (n.toNat - j) ⟨0,0,0⟩)∧
  env=[(4,ptr (H.size+1)),(20,i64 (n.toNat:Nat)),(21,i64 j)]) n.toNat ⟨0,by omega,by omega,ag.refl _ _,t0,rfl⟩ ?_
 rintro m env H2 ⟨j,rfl,hj,e2,t2,rfl⟩
 have ny:=ir (List.replicate j jj++List.replicate (n.toNat - j) (⟨0,0,0⟩:Lk))
 have nj:(List.replicate j jj++List.replicate (n.toNat - j) (⟨0,0,0⟩:Lk)).length=n.toNat:=by simp;omega
 have o2:=t2.own
 rw[nj]at ny o2
 refine vs ?_
 refine ak.dec (fun aK=>?_) (fun aK=>?_)<;>refine vs ?_
 ·first|refine v1 (ae o2) ?_|skip
  refine⟨by omega,?_⟩
  refine v3 t2.kg am9 Int.toNat_natCast ?_
  refine⟨by omega,?_⟩
  have e3:=He (L:=List.replicate j jj++List.replicate (n.toNat - j) (⟨0,0,0⟩:Lk)) (i:=j) (by omega) jj
  have e4:(List.replicate j jj++List.replicate (n.toNat - j) (⟨0,0,0⟩:Lk)).set j jj=List.replicate (j+1) jj++List.replicate (n.toNat - (j+1)) (⟨0,0,0⟩:Lk):=by
   rw[apf _ _ (by simp),anX,aos,show n.toNat - j=(n.toNat - (j+1))+1 by omega,anS,aoD,apj]
   simp
  rw[e4]at e3
  have t3:=t2.put (L':=List.replicate (j+1) jj++List.replicate (n.toNat - (j+1)) (⟨0,0,0⟩:Lk)) (by simp;omega)
  have e5:ag (fun z=>z=H.size) H1 (H2.wr H.size (aJ (List.replicate (j+1) jj++List.replicate (n.toNat - (j+1)) (⟨0,0,0⟩:Lk)))):=e2.wr (fun _=>rfl) _
  rw[show bf (aJ (List.replicate j jj++List.replicate (n.toNat - j) (⟨0,0,0⟩:Lk))) (j*3) (aF (Value.agg #[Value.int .i64 (-1),Value.int .i64 (-1),Value.int .i64 (-1)]))=_ from e3]
  refine vs ?_
  rw[wrap64 (n:=(j:Int)+1) (by omega) (by omega)]
  exact⟨n.toNat - (j+1),by omega,j+1,rfl,by omega,e5,t3,rfl⟩
 ·have fF:j=n.toNat:=by omega
  subst fF
  rw[aos,apk,an7]at t2
  exact⟨_,_,rfl,t2,f0.then e2 (fun z hz=>by omega),by omega,by omega⟩
end Go.Proofs.YtjlnnljohemifaaGreat

namespace Go.Proofs.YtjlnnljohemifaaGreat
open Go Go.Vc
structure LB where
 n:Nat
 c:Nat
 t:Nat
 tl:Nat
 rk:Nat
 tp:Nat
structure cU(H:Hp)(B:LB)(C:Nat→Prop)(w:Nw)(L:List Lk)(rs tops:List Int):Prop where
 own:∃tv,H.own B.n=some [ptr B.c,ptr B.t,.slice (some ⟨B.rk,0,none⟩) rs.length rs.length,tv]∧Sl H 1 tv tops.length (tops.map i64) (some B.tp)
 cells:CQ H B.c C w
 bT:bK H B.t B.tl L
 BA:H.own B.rk=some (rs.map i64)
 len:L.length=w.cs.length∧rs.length=w.cs.length
 lj:(B.n≠B.t∧B.n≠B.tl∧B.n≠B.rk∧B.n≠B.tp)∧(B.t≠B.tl∧B.t≠B.rk∧B.t≠B.tp)∧(B.tl≠B.rk∧B.tl≠B.tp)∧B.rk≠B.tp
 out:¬C B.n∧¬C B.t∧¬C B.tl∧¬C B.rk∧¬C B.tp
def LB.S(B:LB)(C:Nat→Prop)(z:Nat):Prop:=C z∨z=B.n∨z=B.t∨z=B.tl∨z=B.rk∨z=B.tp
section
variable {H H' : Hp} {B : LB} {C T : Nat → Prop} {w w' : Nw} {L L' : List Lk} {rs tops : List Int}
theorem cU.slt(h:cU H B C w L rs tops):∀z,B.S C z→z<H.size:=by
 obtain⟨tv,h1,h2⟩:=h.own
 rintro z (hz|rfl|rfl|rfl|rfl|rfl)
 ·exact h.cells.slt z hz
 ·exact az h1
 ·exact az h.bT.own
 ·exact az h.bT.kg
 ·exact az h.BA
 ·exact h2.lt
theorem cU.ext(h:cU H B C w L rs tops)(e:ag T H H')(hd:∀z,B.S C z→¬T z):cU H' B C w L rs tops:=by
 obtain⟨tv,h1,h2⟩:=h.own
 exact⟨⟨tv,e.own h1 (hd _ (.inr (.inl rfl))),h2.ext e (fun b hb=>by injection hb with hb;exact hb▸hd _ (.inr (.inr (.inr (.inr (.inr rfl))))))⟩,h.cells.ext e (fun x hx=>hd x (.inl hx)),
  h.bT.ext e (hd _ (.inr (.inr (.inl rfl)))) (hd _ (.inr (.inr (.inr (.inl rfl))))),e.own h.BA (hd _ (.inr (.inr (.inr (.inr (.inl rfl)))))),h.len,h.lj,h.out⟩
theorem cU.fresh(h:cU H B C w L rs tops)(e:ah H H'):cU H' B C w L rs tops:=h.ext e fun _ _ h=>h
theorem cU.aG(h:cU H B C w L rs tops)(c1:CQ H' B.c C w')(e:ag C H H')(hl:w'.cs.length=w.cs.length):cU H' B C w' L rs tops:=by
 obtain⟨tv,h1,h2⟩:=h.own
 obtain⟨o1,o2,o3,o4,o5⟩:=h.out
 exact⟨⟨tv,e.own h1 o1,h2.ext e (fun b hb=>by injection hb with hb;exact hb▸o5)⟩,c1,h.bT.ext e o2 o3,e.own h.BA o4,by rw[hl];exact h.len,h.lj,h.out⟩
theorem cU.dv(h:cU H B C w L rs tops)(t1:bK H' B.t B.tl L')(e:ag (fun z=>z=B.tl) H H')(hl:L'.length=L.length):cU H' B C w L' rs tops:=by
 obtain⟨tv,h1,h2⟩:=h.own
 obtain⟨o1,o2,o3,o4,o5⟩:=h.out
 obtain⟨⟨d1,d2,d3,d4⟩,⟨d5,d6,d7⟩,⟨d8,d9⟩,d10⟩:=h.lj
 exact⟨⟨tv,e.own h1 d2,h2.ext e (fun b hb=>by injection hb with hb;omega)⟩,h.cells.ext e (fun x hx hz=>o3 (hz▸hx)),t1,e.own h.BA (by omega),by rw[hl];exact h.len,h.lj,h.out⟩
theorem cU.LV(h:cU H B C w L rs tops)(i:Nat)(v:Int):cU (H.wr B.rk ((rs.map i64).set i (i64 v))) B C w L (rs.set i v) tops∧ag (fun z=>z=B.rk) H (H.wr B.rk ((rs.map i64).set i (i64 v))):=by
 obtain⟨tv,h1,h2⟩:=h.own
 obtain⟨o1,o2,o3,o4,o5⟩:=h.out
 obtain⟨⟨d1,d2,d3,d4⟩,⟨d5,d6,d7⟩,⟨d8,d9⟩,d10⟩:=h.lj
 have e:ag (fun z=>z=B.rk) H (H.wr B.rk ((rs.map i64).set i (i64 v))):=(ag.refl (fun z=>z=B.rk) _).wr (fun _=>rfl) _
 refine⟨⟨⟨tv,by rw[anb];exact e.own h1 d3,h2.ext e (fun b hb=>by injection hb with hb;omega)⟩,h.cells.ext e (fun x hx hz=>o4 (hz▸hx)),h.bT.ext e (by omega) (by omega),?_,by rw[anb];exact h.len,h.lj,h.out⟩,e⟩
 rw[anY]
 exact ai h.BA
theorem cU.fG(h:cU H B C w L rs tops):∃c l,H.own B.n=some [ptr B.c,ptr B.t,.slice (some ⟨B.rk,0,none⟩) rs.length rs.length,.slice (some ⟨B.tp,0,none⟩) tops.length c]∧H.own B.tp=some l∧tops.length≤c∧c≤l.length∧l.take tops.length=tops.map i64:=by
 obtain⟨tv,h1,_,l,c,rfl,h3,h4,h5,h6⟩:=h.own
 rw[ane]at h5 h6
 exact⟨c,l,h1,h3,h4,h5,h6⟩
theorem cU.eC(h:cU H B C w L rs tops){l:List Value}(hl:H.own B.tp=some l){i:Nat}{x:Int}(hx:tops[i]? =some x):l[i]? =some (i64 x):=by
 obtain⟨c,l',_,h2,_,_,h5⟩:=h.fG
 rw[hl]at h2
 injection h2 with h2
 subst h2
 have h7:(tops.map i64)[i]? =some (i64 x):=by rw[anA,hx];rfl
 rw[←h5,anP]at h7
 split at h7
 ·exact h7
 ·cases h7
theorem cU.kj(h:cU H B C w L rs tops){l:List Value}(hl:H.own B.tp=some l)(i:Nat)(v:Int):cU (H.wr B.tp (l.set i (i64 v))) B C w L rs (tops.set i v)∧ag (fun z=>z=B.tp) H (H.wr B.tp (l.set i (i64 v))):=by
 obtain⟨c,l',h1,h2,h3,h4,h5⟩:=h.fG
 rw[hl]at h2
 injection h2 with h2
 subst h2
 obtain⟨o1,o2,o3,o4,o5⟩:=h.out
 obtain⟨⟨d1,d2,d3,d4⟩,⟨d5,d6,d7⟩,⟨d8,d9⟩,d10⟩:=h.lj
 have e:ag (fun z=>z=B.tp) H (H.wr B.tp (l.set i (i64 v))):=(ag.refl (fun z=>z=B.tp) _).wr (fun _=>rfl) _
 refine⟨⟨⟨_,e.own h1 d4,?_⟩,h.cells.ext e (fun x hx hz=>o5 (hz▸hx)),h.bT.ext e (by omega) (by omega),e.own h.BA (by omega),h.len,h.lj,h.out⟩,e⟩
 refine⟨by simp,l.set i (i64 v),c,by rw[anb],ai hl,by rw[anb];exact h3,by rw[anb,ane];exact h4,?_⟩
 rw[anb,ane,ui,h5,anY]
theorem cj(H:Hp)(x:Int):∀ (a:Int) (b:Bool),fY x= .tuple [i64 a,.bool b].toArray→af Tryz.prog FW [i64 a,.bool b] H fun v H'=>ar (v=i64 x∧H'=H):=by
 intro a b he
 unfold fY at he
 refine aP Gb ?_
 refine vs ?_
 have h2:∀ {p q:Int} {r s:Bool},Value.tuple [i64 p,Value.bool r].toArray=Value.tuple [i64 q,Value.bool s].toArray→p=q∧r=s:=fun h=>by
  have h3:=anx Array.toList (Value.tuple.inj h)
  injection h3 with h4 h5
  injection h4 with _ h4
  injection h5 with h5 _
  injection h5 with h5
  exact⟨h4,h5⟩
 split at he
 ·rename_i hx
  obtain⟨rfl,rfl⟩:=h2 he
  refine vs ?_
  rw[hx]
  exact⟨rfl,rfl⟩
 ·obtain⟨rfl,rfl⟩:=h2 he
  refine vs ?_
  exact⟨rfl,rfl⟩
theorem cD(x:Int):∃ (a:Int) (b:Bool),fY x= .tuple [i64 a,.bool b].toArray:=by
 unfold fY
 split
 ·exact⟨_,_,rfl⟩
 ·exact⟨_,_,rfl⟩
def XX(rs:List Int)(x:Int):Int:=if x= -1 then 0 else rs.getD x.toNat 0
theorem dU(h:cU H B C w L rs tops){x:Int}(hx:x≠ -1→0≤x∧x<w.cs.length):af Tryz.prog rJ [ptr B.n,i64 x] H fun v H'=>ar (v=i64 (XX rs x)∧H'=H):=by
 obtain⟨tv,h1,h2⟩:=h.own
 have hl:=h.len
 refine aP rW ?_
 refine vs ?_
 refine ak.dec (fun g=>?_) (fun g=>?_)<;>refine vs ?_
 ·unfold XX
  rw[if_pos g]
  exact⟨rfl,rfl⟩
 have hx:=hx g
 have hr:(rs.map i64)[x.toNat]? =some (i64 (XX rs x)):=by
  unfold XX
  rw[if_neg g,anA,anf,am8 (by omega)]
  rfl
 refine v1 (ae h1) ?_
 refine⟨⟨by omega,by omega⟩,?_⟩
 refine v4 (ae h.BA) am9 ane hr ?_
 exact⟨rfl,rfl⟩
theorem gw(h:cU H B C w L rs tops){x:Int}(hx:0≤x∧x<w.cs.length)(hk:∀c,aX L x c≠ -1→0≤aX L x c∧aX L x c<w.cs.length):
  af Tryz.prog rI [ptr B.n,i64 x] H fun v H'=>ar (∃L' SM,cU H' B C w L' SM tops∧(aX L'=aX L∨aX L'=lT (aX L) x)∧bi L'=bi L∧ag (fun z=>z=B.tl∨z=B.rk) H H'):=by
 obtain⟨tv,h1,h2⟩:=h.own
 have hl:=h.len
 refine aP rV ?_
 refine v1 (ae h1) ?_
 obtain⟨a1,b1,e1⟩:=cD (aX L x false)
 obtain⟨a2,b2,e2⟩:=cD (aX L x true)
 refine⟨.tuple [i64 a1,.bool b1].toArray,(kR h.bT x).mono (by rintro v H' ⟨rfl,rfl⟩;exact⟨e1,rfl⟩),?_⟩
 refine vs ?_
 refine⟨_,cj H _ a1 b1 e1,?_⟩
 refine v1 (ae h1) ?_
 refine(ci h.bT x).mono ?_
 rintro _ H' ⟨rfl,e⟩
 obtain rfl:=e.symm
 rw[e2]
 refine vs ?_
 refine(cj H _ a2 b2 e2).mono ?_
 rintro _ H' ⟨rfl,e⟩
 obtain rfl:=e.symm
 refine vs ?_
 refine(dU h (hk false)).mono ?_
 rintro _ H' ⟨rfl,e⟩
 obtain rfl:=e.symm
 refine vs ?_
 refine(dU h (hk true)).mono ?_
 rintro _ H' ⟨rfl,e⟩
 obtain rfl:=e.symm
 refine vs ?_
 refine ak.dec (fun g=>?_) (fun g=>?_)<;>refine vs ?_
 ·refine v1 (ae h1) ?_
  refine(kS h.bT (p:=x) (by omega)).mono ?_
  rintro _ H1 ⟨rfl,L1,t1,l1,k1,u1,e1⟩
  have m1:=h.dv t1 e1 l1
  obtain⟨BB,o1,_⟩:=m1.own
  refine v1 (ae o1) ?_
  refine⟨_,dU m1 (hk false),?_⟩
  refine vs ?_
  refine⟨⟨by omega,by omega⟩,?_⟩
  refine v3 m1.BA am9 ane ?_
  refine⟨by rw[anz];omega,?_⟩
  obtain⟨m2,e2⟩:=m1.LV x.toNat (IntKind.i64.wrap (XX rs (aX L x false)+1))
  refine vs ?_
  exact⟨L1,_,m2,.inr k1,u1,(e1.mono fun z _ hz=>.inl hz).trans (e2.mono fun z _ hz=>.inr hz)⟩
 ·refine v1 (ae h1) ?_
  refine⟨_,dU h (hk true),?_⟩
  refine vs ?_
  refine⟨⟨by omega,by omega⟩,?_⟩
  refine v3 h.BA am9 ane ?_
  refine⟨by rw[anz];omega,?_⟩
  obtain⟨m2,e2⟩:=h.LV x.toNat (IntKind.i64.wrap (XX rs (aX L x true)+1))
  refine vs ?_
  exact⟨L,_,m2,.inl rfl,rfl,e2.mono fun z _ hz=>.inr hz⟩
abbrev zO(w:Nw)(L:List Lk):Prop:=Bt (aD w) (aN w) (aX L) (bi L)
theorem zO.nS{w:Nw}{L:List Lk}(h:zO w L){x:Int}{c:Bool}(hk:aX L x c≠ -1):0≤aX L x c∧aX L x c<w.cs.length:=by
 obtain⟨_,_,h1,h2,_⟩:=Bt.home h hk
 obtain⟨a,b,_⟩:=aC (w:=w) (x:=aX L x c) (by omega)
 omega
theorem zO.up{w:Nw}{L:List Lk}(h:zO w L){x:Int}(hu:bi L x≠ -1):0≤bi L x∧bi L x<w.cs.length∧aN w (bi L x) x=true∧aD w (bi L x)=aD w x:=by
 obtain⟨_,_,h1,h2,h3⟩:=h.uk x _ rfl hu
 obtain⟨a,b,_⟩:=aC (w:=w) (x:=bi L x) (by omega)
 exact⟨by omega,by omega,h3,h1⟩
theorem iY(h:cU H B C w L rs tops)(hb:zO w L){x:Int}(hx:x≠ -1→0<aD w x):
  af Tryz.prog uX [ptr B.n,i64 x] H fun v H'=>ar (∃L' SM,cU H' B C w L' SM tops∧zO w L'∧bi L'=bi L∧ag (fun z=>z=B.tl∨z=B.rk) H H'):=by
 refine aP vG ?_
 refine vs ?_
 refine aT.intro (fun m env H'=>∃ (x:Int) (L':List Lk) (SM:List Int),m=(if x= -1 then 0 else Lm (aN w) w.cs.length x+1)∧(x≠ -1→0<aD w x)∧cU H' B C w L' SM tops∧zO w L'∧bi L'=bi L∧ag (fun z=>z=B.tl∨z=B.rk) H H'∧
  env=[(0,ptr B.n),(1,i64 x)]) _ ⟨x,L,rs,rfl,hx,h,hb,rfl,ag.refl _ _,rfl⟩ ?_
 rintro m env H1 ⟨y,L1,rs1,rfl,hy,m1,b1,u1,e1,rfl⟩
 refine vs ?_
 refine ak.dec (fun g=>?_) (fun g=>?_)<;>refine vs ?_
 ·exact⟨L1,rs1,m1,b1,u1,e1⟩
 obtain⟨y0,y1,_⟩:=aC (hy g)
 obtain⟨tv,o1,_⟩:=m1.own
 have qP:=m1.len
 obtain⟨r,hr⟩:∃r,(rs1.map i64)[y.toNat]? =some (i64 r):=⟨rs1[y.toNat]'(by omega),by rw[anA,am8 (by omega)];rfl⟩
 refine v1 (ae o1) ?_
 refine⟨⟨by omega,by omega⟩,?_⟩
 refine v4 (ae m1.BA) am9 ane hr ?_
 refine(gw m1 ⟨y0,y1⟩ (fun c hk=>b1.nS hk)).mono ?_
 rintro v2 H2 ⟨L2,XY,m2,k2,u2,e2⟩
 have b2:zO w L2:=by
  rcases k2 with k2|k2
  ·show Bt _ _ _ _
   rw[k2,u2];exact b1
  ·show Bt _ _ _ _
   rw[k2,u2];exact Bt.rA b1 y
 obtain⟨LW,o2,_⟩:=m2.own
 have nj:=m2.len
 have nT:=e1.trans e2
 obtain⟨r2,uC⟩:∃r,(XY.map i64)[y.toNat]? =some (i64 r):=⟨XY[y.toNat]'(by omega),by rw[anA,am8 (by omega)];rfl⟩
 refine v1 (ae o2) ?_
 refine⟨⟨by omega,by omega⟩,?_⟩
 refine v4 (ae m2.BA) am9 ane uC ?_
 refine ak.dec (fun g2=>?_) (fun g2=>?_)<;>refine vs ?_
 ·exact⟨L2,XY,m2,b2,u2.trans u1,nT⟩
 refine v1 (ae o2) ?_
 refine(nD m2.bT y).mono ?_
 rintro _ H' ⟨rfl,e⟩
 obtain rfl:=e.symm
 obtain⟨a1,c1,ea⟩:=cD (bi L2 y)
 rw[ea]
 refine vs ?_
 refine(cj H2 _ a1 c1 ea).mono ?_
 rintro _ H' ⟨rfl,e⟩
 obtain rfl:=e.symm
 refine vs ?_
 refine⟨_,?_,bi L2 y,L2,XY,rfl,fun hu=>?_,m2,b2,u2.trans u1,nT,rfl⟩
 ·rw[if_neg g]
  split
  ·omega
  ·rename_i hu
   have:=b2.up hu
   have:=Ds (aq w) (n:=w.cs.length) (p:=bi L2 y) (x:=y) (by omega) this.2.2.1
   omega
 ·have:=b2.up hu
  rw[this.2.2.2]
  exact hy g
end
end Go.Proofs.YtjlnnljohemifaaGreat

namespace Go.Proofs.YtjlnnljohemifaaGreat
open Go Go.Vc
theorem Sl.shape{H:Hp}{w:Value}{n:Nat}{xs:List Value}{fp:Option Nat}(h:Sl H 1 w n xs fp):∃a c,w= .slice a n c:=by
 obtain⟨h1,h2⟩:=h
 cases fp with
 |none=>obtain⟨rfl,rfl⟩:=h2;exact⟨none,0,rfl⟩
 |some b=>obtain⟨l,c,rfl,_⟩:=h2;exact⟨_,c,rfl⟩
theorem Sl.xW{H:Hp}{a:Option Addr}{n c:Nat}{xs:List Int}{fp:Option Nat}(h:Sl H 1 (.slice a n c) n (xs.map i64) fp){i:Nat}{x:Int}(hx:xs[i]? =some x):
  i<n∧∃b lb,a=some ⟨b,0,none⟩∧H.own b=some lb∧lb[i]? =some (i64 x):=by
 cases fp with
 |none=>
  have h1:=h.1
  have h2:=h.2.1
  have:=(ana.1 hx).1
  rw[anz]at h1
  omega
 |some b=>
  obtain⟨h1,h2,lb,h3,h4⟩:=Sl.num h hx
  exact⟨h1,b,lb,h2,h3,h4⟩
section
variable {H : Hp} {B : LB} {C : Nat → Prop} {w : Nw} {L : List Lk} {rs tops : List Int}
theorem gT(h:cU H B C w L rs tops){g a0 b0:Int}{R:Int→Prop}(m:Mg (aD w) (aN w) g R (aX L) (bi L) [] a0 b0):
  af Tryz.prog sE [ptr B.n,i64 a0,i64 b0] H fun v H'=>ar (∃r L' SM,v=i64 r∧cU H' B C w L' SM tops∧Mg (aD w) (aN w) g R (aX L') (bi L') [] r (-1)∧
   (∀x0,uE (aN w) (aX L) (bi L) x0 (aX L) (bi L) [] a0 b0→uE (aN w) (aX L) (bi L) x0 (aX L') (bi L') [] r (-1))∧ag (fun z=>C z∨z=B.tl∨z=B.rk) H H'):=by
 refine aP sR ?_
 refine vs ?_
 have vM:=h.cells.CY
 refine aT.intro (fun mm env H'=>∃ (a b:Int) (dD:List Int) (wv:Value) (fp:Option Nat) (L':List Lk),mm=w.cs.length - dD.length∧cU H' B C w L' rs tops∧Mg (aD w) (aN w) g R (aX L') (bi L') dD a b∧
  (∀x0,uE (aN w) (aX L) (bi L) x0 (aX L) (bi L) [] a0 b0→uE (aN w) (aX L) (bi L) x0 (aX L') (bi L') dD a b)∧
  (∀z,fp=some z→H.size≤z)∧Sl H' 1 wv dD.length (dD.map i64) fp∧ag (fun z=>C z∨z=B.tl∨z=B.rk∨H.size≤z) H H'∧
  env=[(0,ptr B.n),(1,i64 a),(2,i64 b),(7,wv)]) _ ⟨a0,b0,[],_,none,L,rfl,h,m,(fun _ h=>h),(fun z h=>by cases h),Sl.nil _ _,ag.refl _ _,rfl⟩ ?_
 rintro mm env H1 ⟨a,b,dD,wv,fp,L1,rfl,l1,m1,f1,fN,s1,e1,rfl⟩
 have z1:=e1.size
 clear m
 refine vs ?_
 refine ak.dec (fun ga=>?A) (fun ga=>?_)<;>refine vs ?_
 rotate_left
 refine ak.dec (fun gb=>?B) (fun gb=>?_)<;>refine vs ?_
 rotate_left
 ·obtain⟨BB,o1,_⟩:=l1.own
  refine v1 (ae o1) ?_
  refine(cA l1.cells b a).mono ?_
  rintro _ H2 ⟨rfl,c2,e2⟩
  have l2:=l1.aG c2 e2 rfl
  have s2:=s1.ext e2 (fun z hz dE=>by have:=fN z hz;have:=h.slt z (.inl dE);omega)
  have z2:=e2.size
  have ha:=m1.wa.resolve_left ga
  have hb:=m1.wb.resolve_left gb
  have AC:=gF (w:=w) (a:=b) (b:=a) (by rw[hb.1];exact m1.pos) (by rw[ha.1];exact m1.pos)
  have aM:a≠b:=fun e=>ga (m1.ab e)
  rw[AC]
  cases aK:aN w b a
  ·refine vs ?_
   have hl:aN w a b=true:=((aq w).M8 a b aM).resolve_right (by rw[aK];simp)
   have mm:Mg (aD w) (aN w) g R (aX L1) (bi L1) dD a b:=m1
   have NY:0<aD w a:=by rw[(mm.wa.resolve_left ga).1];exact mm.pos
   obtain⟨p0,p1,_⟩:=aC NY
   have m3:=mm.PO (aq w) ga gb hl
   have wl:(dD++[a]).length≤w.cs.length:=bU (m3.nodup (aq w)) fun x hx=>by
    have FA:=(m3.wy x hx).2.1
    have o8:=m3.pos
    obtain⟨x0,x1,_⟩:=aC (w:=w) (x:=x) (by omega)
    exact⟨x0,x1⟩
   rw[ank,ant]at wl
   refine wB (B:=H.size) fN (by omega) s2 a (by omega) fun w' H3 cJ gU s3 e3=>?_
   refine vs ?_
   have l3:=l2.ext e3 (fun z hz dE=>by have:=h.slt z hz;omega)
   obtain⟨XZ,o3,_⟩:=l3.own
   refine v1 (ae o3) ?_
   refine(ci l3.bT a).mono ?_
   rintro _ H' ⟨rfl,e⟩
   obtain rfl:=e.symm
   obtain⟨k1,k2,ek⟩:=cD (aX L1 a true)
   rw[ek]
   refine vs ?_
   refine(cj H3 _ k1 k2 ek).mono ?_
   rintro _ H' ⟨rfl,e⟩
   obtain rfl:=e.symm
   refine v1 (ae o3) ?_
   refine(cC l3.bT (x:=aX L1 a true) (fun hu=>by have:=zO.up mm.bt hu;rw[l3.len.1];omega)).mono ?_
   rintro _ H4 ⟨rfl,L4,t4,Vt,Ud,Ue,e4⟩
   have l4:=l3.dv t4 e4 Vt
   have s4:=s3.ext e4 (fun z hz dE=>by have:=gU z hz;have:=h.slt B.tl (.inr (.inr (.inr (.inl rfl))));omega)
   obtain⟨k3,k4,ek2⟩:=cD (bi L1 (aX L1 a true))
   rw[ek2]
   refine vs ?_
   refine⟨w.cs.length - (dD.length+1),by omega,aX L1 a true,b,dD++[a],w',cJ,L4,by simp,l4,?_,?_,gU,s4,((e1.trans (e2.mono fun z _ hz=>.inl hz)).trans (e3.mono fun z _ hz=>.inr (.inr (.inr hz)))).trans (e4.mono fun z _ hz=>.inr (.inl hz)),rfl⟩
   ·rw[Ud,Ue]
    exact m3
   ·rw[Ud,Ue]
    exact fun x0 h0=>(f1 x0 h0).down (aq w) m1.bt ga
  ·refine vs ?_
   have hl:aN w b a=true:=aK
   have mm:Mg (aD w) (aN w) g R (aX L1) (bi L1) dD b a:=m1.swap
   have NY:0<aD w b:=by rw[(mm.wa.resolve_left gb).1];exact mm.pos
   obtain⟨p0,p1,_⟩:=aC NY
   have m3:=mm.PO (aq w) gb ga hl
   have wl:(dD++[b]).length≤w.cs.length:=bU (m3.nodup (aq w)) fun x hx=>by
    have FA:=(m3.wy x hx).2.1
    have o8:=m3.pos
    obtain⟨x0,x1,_⟩:=aC (w:=w) (x:=x) (by omega)
    exact⟨x0,x1⟩
   rw[ank,ant]at wl
   refine wB (B:=H.size) fN (by omega) s2 b (by omega) fun w' H3 cJ gU s3 e3=>?_
   refine vs ?_
   have l3:=l2.ext e3 (fun z hz dE=>by have:=h.slt z hz;omega)
   obtain⟨XZ,o3,_⟩:=l3.own
   refine v1 (ae o3) ?_
   refine(ci l3.bT b).mono ?_
   rintro _ H' ⟨rfl,e⟩
   obtain rfl:=e.symm
   obtain⟨k1,k2,ek⟩:=cD (aX L1 b true)
   rw[ek]
   refine vs ?_
   refine(cj H3 _ k1 k2 ek).mono ?_
   rintro _ H' ⟨rfl,e⟩
   obtain rfl:=e.symm
   refine v1 (ae o3) ?_
   refine(cC l3.bT (x:=aX L1 b true) (fun hu=>by have:=zO.up mm.bt hu;rw[l3.len.1];omega)).mono ?_
   rintro _ H4 ⟨rfl,L4,t4,Vt,Ud,Ue,e4⟩
   have l4:=l3.dv t4 e4 Vt
   have s4:=s3.ext e4 (fun z hz dE=>by have:=gU z hz;have:=h.slt B.tl (.inr (.inr (.inr (.inl rfl))));omega)
   obtain⟨k3,k4,ek2⟩:=cD (bi L1 (aX L1 b true))
   rw[ek2]
   refine vs ?_
   refine⟨w.cs.length - (dD.length+1),by omega,aX L1 b true,a,dD++[b],w',cJ,L4,by simp,l4,?_,?_,gU,s4,((e1.trans (e2.mono fun z _ hz=>.inl hz)).trans (e3.mono fun z _ hz=>.inr (.inr (.inr hz)))).trans (e4.mono fun z _ hz=>.inr (.inl hz)),rfl⟩
   ·rw[Ud,Ue]
    exact m3
   ·rw[Ud,Ue]
    exact fun x0 h0=>(f1 x0 h0).swap.down (aq w) m1.bt gb
 case' A=>
  have m2:Mg (aD w) (aN w) g R (aX L1) (bi L1) dD b (-1):=ga▸m1.swap
  have f2:=fun x0 (h0:uE (aN w) (aX L) (bi L) x0 (aX L) (bi L) [] a0 b0)=>(f1 x0 h0).swap
  rw[ga]at f2
  generalize hr:b=r at m2 f2
  refine ak.cK (by simpa using ga) ?_
 case' B=>
  have m2:Mg (aD w) (aN w) g R (aX L1) (bi L1) dD a (-1):=gb▸m1
  have f2:=f1
  rw[gb]at f2
  generalize hr:a=r at m2 f2
  refine ak.dec (fun h=>absurd (hr.trans h) ga) (fun _=>?_)
 all_goals
  refine vs ?_
  obtain⟨wa,wc,rfl⟩:=Sl.shape s1
  refine vs ?_
  have wl:dD.length≤w.cs.length:=bU (m2.nodup (aq w)) fun x hx=>by
   have FA:=(m2.wy x hx).2.1
   have o8:=m2.pos
   obtain⟨x0,x1,_⟩:=aC (w:=w) (x:=x) (by omega)
   exact⟨x0,x1⟩
  refine aT.intro (fun mm env H'=>∃ (i:Nat) (r:Int) (L':List Lk) (SM:List Int),mm=i∧i≤dD.length∧cU H' B C w L' SM tops∧Mg (aD w) (aN w) g R (aX L') (bi L') (dD.take i) r (-1)∧
   (∀x0,uE (aN w) (aX L) (bi L) x0 (aX L) (bi L) [] a0 b0→uE (aN w) (aX L) (bi L) x0 (aX L') (bi L') (dD.take i) r (-1))∧
   Sl H' 1 (.slice wa dD.length wc) dD.length (dD.map i64) fp∧ag (fun z=>C z∨z=B.tl∨z=B.rk∨H.size≤z) H H'∧
   env=[(0,ptr B.n),(7,.slice wa dD.length wc),(9,i64 r),(10,i64 ((i:Int) - 1))]) _ ⟨dD.length,r,L1,rs,rfl,ano _,l1,by rw[anJ];exact m2,by rw[anJ];exact f2,s1,e1,?_⟩ ?_
  ·rw[wrap64 (by omega) (by omega)]
  rintro mm env H2 ⟨i,r2,L2,XY,hmi,hi,l2,m3,f3,s2,e2,rfl⟩
  obtain rfl:=hmi.symm
  refine vs ?_
  refine ak.dec (fun gi=>?_) (fun gi=>?_)<;>refine vs ?_
  rotate_left
  ·obtain rfl:i=0:=by omega
   exact⟨r2,L2,XY,rfl,l2,by simpa using m3,by simpa using f3,e2.mono fun z hz h=>h.elim .inl fun h=>.inr (by omega)⟩
  obtain⟨j,rfl⟩:∃j,i=j+1:=⟨i - 1,by omega⟩
  obtain⟨v,hv⟩:∃v,dD[j]? =some v:=⟨_,am8 (by omega)⟩
  have tk:dD.take (j+1)=dD.take j++[v]:=by rw[anN,hv];rfl
  rw[tk]at m3 f3
  have m4:=m3.back (aq w)
  have f4:=fun x0 h0=>(f3 x0 h0).back
  obtain⟨v1,v2,v3,v4,v5,v6⟩:=m3.wy v (by simp)
  obtain⟨q1,vb,lb,rfl,q2,q3⟩:=Sl.xW s2 hv
  have ZD:∃b',fp=some b'∧b'=vb:=by
   cases fp with
   |none=>have:=s2.2.2;injection this with h1;cases h1
   |some b'=>obtain⟨_,_,h1,_⟩:=s2.2;injection h1 with h1;injection h1 with h1;injection h1 with h1;exact⟨b',rfl,h1.symm⟩
  obtain⟨b',rfl,rfl⟩:=ZD
  have ZD:=fN b' rfl
  have Uf:0<aD w v:=by rw[v2];exact m3.pos
  obtain⟨Vu,vv1,_⟩:=aC Uf
  have ji:((((j+1:Nat):Int) - 1)).toNat=j:=by omega
  obtain⟨LW,o2,_⟩:=l2.own
  refine ak.dec (fun gr=>?_) (fun gr=>?_)<;>refine vs ?_
  ·rw[if_pos gr,if_pos gr]at m4
   simp only[if_pos gr]at f4
   have f5:=f4
   have l3:=l2
   have m5:=m4
   have o3b:=q2
   have s3:=s2
   have e3:=e2
   refine⟨⟨by omega,by omega⟩,?_⟩
   simp(disch:=(first|omega| (simp only[Zs]<;>omega)|fail)) only[go_sem, ↓reduceIte,Zv,ae o3b,am9,ane,ji,q3]
   refine(gw l3 ⟨Vu,vv1⟩ (fun c hk=>zO.nS m5.bt hk)).mono ?_
   rintro _ H4 ⟨L4,Ug,l4,k4,u4,e4⟩
   refine vs ?_
   refine⟨j,by omega,j,v,L4,Ug,rfl,by omega,l4,?_,?_,s3.ext e4 (fun z hz dE=>by injection hz with hz;have:=h.slt B.tl (.inr (.inr (.inr (.inl rfl))));have:=h.slt B.rk (.inr (.inr (.inr (.inr (.inl rfl)))));omega),e3.trans (e4.mono fun z _ hz=>.inr (hz.elim .inl fun h=>.inr (.inl h))),?_⟩
   ·rcases k4 with k4|k4
    ·rw[k4,u4];exact m5
    ·rw[k4,u4];exact m5.rA (aq w)
   ·rcases k4 with k4|k4
    ·rw[k4,u4];exact f5
    ·rw[k4,u4];exact fun x0 h0=>(f5 x0 h0).rA v1
   ·rw[show((j+1:Nat):Int) - 1 - 1=(j:Int) - 1 by omega,wrap64 (by omega) (by omega)]
  ·rw[if_neg gr,if_neg gr]at m4
   simp only[if_neg gr]at f4
   have uC:=m3.wa.resolve_left gr
   obtain⟨r0,r1,_⟩:=aC (w:=w) (x:=r2) (by rw[uC.1];exact m3.pos)
   have aV:=l2.len
   have hvr:v≠r2:=fun e=>by have:=v5 gr;rw[e,(aq w).ua]at this;cases this
   simp(disch:=(first|omega| (simp only[Zs]<;>omega)|fail)) only[go_sem, ↓reduceIte,Zv,ae o2]
   refine⟨⟨by omega,by omega⟩,?_⟩
   simp(disch:=(first|omega| (simp only[Zs]<;>omega)|fail)) only[go_sem, ↓reduceIte,Zv,ae q2,am9,ane,ji,q3]
   refine(eJ l2.bT (p:=v) (x:=r2) (c:=true) ⟨Vu,by omega⟩ ⟨r0,by omega⟩ hvr uC.2 v4).mono ?_
   rintro _ H3 ⟨rfl,L3,t3,ll3,ZE,ZF,Fz⟩
   have l3:=l2.dv t3 Fz ll3
   have m5:Mg (aD w) (aN w) g R (aX L3) (bi L3) (dD.take j) v (-1):=by rw[ZE,ZF];exact m4
   have f5:=f4
   rw[←ZE,←ZF]at f5
   have nb:b'≠B.tl:=fun e=>by have:=h.slt B.tl (.inr (.inr (.inr (.inl rfl))));omega
   have o3b:=Fz.own q2 nb
   have s3:=s2.ext Fz (fun z hz dE=>by injection hz with hz;exact nb (hz.trans dE))
   have e3:=e2.trans (Fz.mono fun z _ hz=>.inr (.inl hz))
   refine vs ?_
   refine⟨⟨by omega,by omega⟩,?_⟩
   simp(disch:=(first|omega| (simp only[Zs]<;>omega)|fail)) only[go_sem, ↓reduceIte,Zv,ae o3b,am9,ane,ji,q3]
   refine(gw l3 ⟨Vu,vv1⟩ (fun c hk=>zO.nS m5.bt hk)).mono ?_
   rintro _ H4 ⟨L4,Ug,l4,k4,u4,e4⟩
   refine vs ?_
   refine⟨j,by omega,j,v,L4,Ug,rfl,by omega,l4,?_,?_,s3.ext e4 (fun z hz dE=>by injection hz with hz;have:=h.slt B.tl (.inr (.inr (.inr (.inl rfl))));have:=h.slt B.rk (.inr (.inr (.inr (.inr (.inl rfl)))));omega),e3.trans (e4.mono fun z _ hz=>.inr (hz.elim .inl fun h=>.inr (.inl h))),?_⟩
   ·rcases k4 with k4|k4
    ·rw[k4,u4];exact m5
    ·rw[k4,u4];exact m5.rA (aq w)
   ·rcases k4 with k4|k4
    ·rw[k4,u4];exact f5
    ·rw[k4,u4];exact fun x0 h0=>(f5 x0 h0).rA v1
   ·rw[show((j+1:Nat):Int) - 1 - 1=(j:Int) - 1 by omega,wrap64 (by omega) (by omega)]
end
end Go.Proofs.YtjlnnljohemifaaGreat

namespace Go.Proofs.YtjlnnljohemifaaGreat
open Go Go.Vc
inductive Rl where
 |no
 |Qt
 |cell
 |J4
 |Es
 |table
 |row(g:Int)
 |nS(x:Int)
def ti(V:Int→Value)(x:Int)(v:Value):Int→Value:=fun z=>if z=x then v else V z
theorem Vv(V:Int→Value)(x:Int)(v:Value):ti V x v x=v:=by unfold ti;rw[if_pos rfl]
theorem Vw{V:Int→Value}{x z:Int}{v:Value}(h:z≠x):ti V x v z=V z:=by unfold ti;rw[if_neg h]
theorem Vx(U:Int→Int)(x v:Int):aE U x v x=v:=by unfold aE;rw[if_pos rfl]
theorem Vy{U:Int→Int}{x z v:Int}(h:z≠x):aE U x v z=U z:=by unfold aE;rw[if_neg h]
structure mw(H:Hp)(fb tb n:Nat)(l:List Value)(V:Int→Value)(U:Int→Int):Prop where
 own:H.own fb=some [.slice (some ⟨tb,0,none⟩) n n]
 Dt:H.own tb=some l
 len:l.length=n*2
 at_:∀x:Int,0≤x→x<n→l[x.toNat*2]? =some (V x)∧l[x.toNat*2+1]? =some (i64 (U x))
 ne:fb≠tb
section
variable {H H' : Hp} {fb tb n : Nat} {l : List Value} {V : Int → Value} {U : Int → Int} {T : Nat → Prop}
theorem mw.ext(h:mw H fb tb n l V U)(e:ag T H H')(h1:¬T fb)(h2:¬T tb):mw H' fb tb n l V U:=⟨e.own h.own h1,e.own h.Dt h2,h.len,h.at_,h.ne⟩
theorem mw.ti(h:mw H fb tb n l V U){x:Int}(hx:0≤x∧x<n)(v:Value):mw (H.wr tb (l.set (x.toNat*2) v)) fb tb n (l.set (x.toNat*2) v) (ti V x v) U∧ag (fun z=>z=tb) H (H.wr tb (l.set (x.toNat*2) v)):=by
 have e:ag (fun z=>z=tb) H (H.wr tb (l.set (x.toNat*2) v)):=(ag.refl (fun z=>z=tb) _).wr (fun _=>rfl) _
 have hl:=h.len
 refine⟨⟨e.own h.own h.ne,ai h.Dt,by rw[anb];exact hl,fun z h0 h1=>?_,h.ne⟩,e⟩
 obtain⟨a1,a2⟩:=h.at_ z h0 h1
 refine⟨?_,by rw[anh (by omega)];exact a2⟩
 by_cases hz:z=x
 ·rw[hz,Vv,ani (by omega)]
 ·rw[Vw hz,anh (by omega)];exact a1
theorem mw.aE(h:mw H fb tb n l V U){x:Int}(hx:0≤x∧x<n)(u:Int):mw (H.wr tb (l.set (x.toNat*2+1) (i64 u))) fb tb n (l.set (x.toNat*2+1) (i64 u)) V (aE U x u)∧ag (fun z=>z=tb) H (H.wr tb (l.set (x.toNat*2+1) (i64 u))):=by
 have e:ag (fun z=>z=tb) H (H.wr tb (l.set (x.toNat*2+1) (i64 u))):=(ag.refl (fun z=>z=tb) _).wr (fun _=>rfl) _
 have hl:=h.len
 refine⟨⟨e.own h.own h.ne,ai h.Dt,by rw[anb];exact hl,fun z h0 h1=>?_,h.ne⟩,e⟩
 obtain⟨a1,a2⟩:=h.at_ z h0 h1
 refine⟨by rw[anh (by omega)];exact a1,?_⟩
 by_cases hz:z=x
 ·rw[hz,Vx,ani (by omega)]
 ·rw[Vy hz,anh (by omega)];exact a2
theorem mw.Qu(h:mw H fb tb n l V U):fb<H.size∧tb<H.size:=⟨az h.own,az h.Dt⟩
end
structure ForM(H:Hp)(ro:Nat→Rl)(fb tb n:Nat)(l:List Value)(V:Int→Value)(ch:Int→List Int)(par:Int→Int)(kb:Int→Option Nat):Prop where
 t:mw H fb tb n l V par
 kd:∀x:Int,0≤x→x<n→Sl H 1 (V x) (ch x).length ((ch x).map i64) (kb x)
 rf:ro fb= .Es
 rt:ro tb= .table
 rk:∀ (x:Int) b,0≤x→x<n→kb x=some b→ro b= .nS x
 FC:∀x c,c∈ch x→0≤c∧c<n
 no:∀x:Int,¬ (0≤x∧x<n)→ch x=[]
structure RK(s:Nat)(ro ro':Nat→Rl):Prop where
 o:∀z,z<s→(∀x,ro z≠ .nS x)→ro' z=ro z
 k:∀z x,z<s→ro z= .nS x→∃y,ro' z= .nS y
 n:∀z,s≤z→ro' z= .no∨∃y,ro' z= .nS y
theorem RK.refl{s:Nat}{ro:Nat→Rl}(h:∀z,s≤z→ro z= .no):RK s ro ro:=⟨fun _ _ _=>rfl,fun z x _ h=>⟨x,h⟩,fun z hz=>.inl (h z hz)⟩
theorem RK.trans{s s':Nat}{r1 r2 r3:Nat→Rl}(h:RK s r1 r2)(h':RK s' r2 r3)(hs:s≤s'):RK s r1 r3:=by
 refine⟨fun z hz hk=>?_,fun z x hz hx=>?_,fun z hz=>?_⟩
 ·have h1:=h.o z hz hk
  rw[h'.o z (by omega) (fun x=>by rw[h1];exact hk x),h1]
 ·obtain⟨y,hy⟩:=h.k z x hz hx
  exact h'.k z y (by omega) hy
 ·by_cases h1:z<s'
  ·rcases h.n z hz with h2| ⟨y,h2⟩
   ·rw[h'.o z h1 (fun x=>by rw[h2];intro e;cases e)]
    exact .inl h2
   ·exact .inr (h'.k z y h1 h2)
  ·exact h'.n z (by omega)
def KB(ro:Nat→Rl)(z:Nat):Prop:=ro z= .table∨∃x,ro z= .nS x
section
variable {H H' : Hp} {ro ro' : Nat → Rl} {fb tb n : Nat} {l : List Value} {V : Int → Value} {ch : Int → List Int} {par : Int → Int} {kb : Int → Option Nat} {T : Nat → Prop}
theorem ForM.ext(m:ForM H ro fb tb n l V ch par kb)(e:ag T H H')(hd:∀z,(ro z= .Es∨KB ro z)→¬T z):ForM H' ro fb tb n l V ch par kb:=
 ⟨m.t.ext e (hd _ (.inl m.rf)) (hd _ (.inr (.inl m.rt))),fun x h0 h1=>(m.kd x h0 h1).ext e (fun b hb=>hd _ (.inr (.inr ⟨x,m.rk x b h0 h1 hb⟩))),m.rf,m.rt,m.rk,m.FC,m.no⟩
theorem ForM.fresh(m:ForM H ro fb tb n l V ch par kb)(e:ah H H'):ForM H' ro fb tb n l V ch par kb:=m.ext e fun _ _ h=>h
theorem ForM.shape(m:ForM H ro fb tb n l V ch par kb){x:Int}(hx:0≤x∧x<n):∃a c,V x= .slice a (ch x).length c:=Sl.shape (m.kd x hx.1 hx.2)
theorem my(t:mw H fb tb n l V par)(x:Int):af Tryz.prog xg [ptr fb,i64 x] H fun v H'=>ar (v= .bool (decide (0≤x∧x<n))∧H'=H):=by
 refine aP xG ?_
 refine vs ?_
 refine ak.dec (fun h0=>?_) (fun h0=>?_)<;>refine v1 (ae t.own) ?_
 ·refine⟨?_,rfl⟩
  rw[show(decide (0≤x∧x< (n:Int)))=decide (x< (n:Int)) by simp[h0]]
  rfl
 ·refine⟨?_,rfl⟩
  rw[anD (fun h=>h0 h.1)]
  rfl
theorem gO(t:mw H fb tb n l V par)(x:Int):af Tryz.prog uQ [ptr fb,i64 x] H fun v H'=>ar (v= .bool (decide (0≤x∧x<n) && decide (par x= -1))∧H'=H):=by
 refine aP vx ?_
 refine vs ?_
 refine(my t x).mono ?_
 rintro _ H' ⟨rfl,e⟩
 obtain rfl:=e.symm
 by_cases hx:0≤x∧x<n
 ·rw[anp hx]
  have hl:=t.len
  obtain⟨a1,a2⟩:=t.at_ x hx.1 hx.2
  refine v1 (ae t.own) ?_
  refine⟨⟨by omega,by omega⟩,?_⟩
  refine v3 (ae t.Dt) am9 a2 ?_
  exact⟨rfl,rfl⟩
 ·rw[anD hx]
  refine vs ?_
  exact⟨rfl,rfl⟩
theorem cX(m:ForM H ro fb tb n l V ch par kb)(x:Int):af Tryz.prog rD [ptr fb,i64 x] H fun v H'=>ar (v=i64 (ch x).length∧H'=H):=by
 refine aP rN ?_
 refine vs ?_
 refine(my m.t x).mono ?_
 rintro _ H' ⟨rfl,e⟩
 obtain rfl:=e.symm
 by_cases hx:0≤x∧x<n
 ·rw[anp hx]
  have hl:=m.t.len
  obtain⟨a1,a2⟩:=m.t.at_ x hx.1 hx.2
  obtain⟨a,c,hv⟩:=m.shape hx
  rw[hv]at a1
  refine v1 (ae m.t.own) ?_
  refine⟨⟨by omega,by omega⟩,?_⟩
  refine v4 (ae m.t.Dt) am9 Nat.add_zero a1 ?_
  exact⟨rfl,rfl⟩
 ·rw[anD hx,m.no x hx]
  refine vs ?_
  exact⟨rfl,rfl⟩
theorem nE(t:mw H fb tb n l V par){x:Int}(hx:0≤x∧x<n):af Tryz.prog yT [ptr fb,i64 x] H fun v H'=>ar (((par x= -1∧v= .tuple [i64 0,.bool false].toArray)∨(par x≠ -1∧v= .tuple [i64 (par x),.bool true].toArray))∧H'=H):=by
 refine aP zo ?_
 refine vs ?_
 refine(my t x).mono ?_
 rintro _ H' ⟨rfl,e⟩
 obtain rfl:=e.symm
 rw[anp hx]
 have hl:=t.len
 obtain⟨a1,a2⟩:=t.at_ x hx.1 hx.2
 refine v1 (ae t.own) ?_
 refine⟨⟨by omega,by omega⟩,?_⟩
 refine v3 (ae t.Dt) am9 a2 ?_
 refine ak.dec (fun h0=>?_) (fun h0=>?_)<;>refine vs ?_
 ·exact⟨.inl ⟨h0,rfl⟩,rfl⟩
 refine v1 (ae t.own) ?_
 refine⟨⟨by omega,by omega⟩,?_⟩
 refine v3 (ae t.Dt) am9 a2 ?_
 exact⟨.inr ⟨h0,rfl⟩,rfl⟩
theorem Qv{H:Hp}{T:TypeId}{w:Value}{xs:List Int}{fp:Option Nat}{K:Value→Hp→Prop}(s:Sl H 1 w xs.length (xs.map i64) fp)(x:Int)(hl:xs.length≤1000000000000)
  (hk:∀w' H' cJ,(cJ=fp∨∃b,cJ=some b∧H.size≤b∧b<H'.size)→Sl H' 1 w' (xs++[x]).length ((xs++[x]).map i64) cJ→ag (fun z=>fp=some z) H H'→K w' H'):
  fQ T 1 8 [i64 0] w (.slice (some ⟨H.size,0,none⟩) 1 1) (H.new T [i64 x]) K:=by
 have fl:ah H (H.new T [i64 x]):=(ag.refl _ _).new _ _
 refine Sl.append (s.ext fl (fun _ _ h=>h)) (Sl.bP (size:=1) (n:=1) (xs:=[i64 x]) rfl rfl).rd rfl (qa [x]) (by omega) ?_
 intro v' H' cJ s' e' Nh
 refine hk v' H' cJ (Nh.imp_right fun⟨b,h1,h2,h3⟩=>⟨b,h1,by rw[am]at h2;omega,h3⟩) (by rw[ank,anH];exact s') ⟨an8 fl.size e'.size,fun z hz hn=>?_⟩
 rw[e'.aI z (anB hz fl.size) hn,fl.aI z hz (fun h=>h)]
theorem ForM.put(m:ForM H ro fb tb n l V ch par kb)(hz:∀z,H.size≤z→ro z= .no){a:Int}(ha:0≤a∧a<n){H2:Hp}(e:ag (fun z=>kb a=some z) H H2){w':Value}{L':List Int}{cJ:Option Nat}(s:Sl H2 1 w' L'.length (L'.map i64) cJ)
  (hf:cJ=kb a∨cJ=none∨∃b,cJ=some b∧H.size≤b∧b<H2.size)(hL:∀c∈L',0≤c∧c<n):
  ∃ro' r9,ForM (H2.wr tb (l.set (a.toNat*2) w')) ro' fb tb n (l.set (a.toNat*2) w') (ti V a w') (aw ch a L') par r9∧RK H.size ro ro'∧(∀z,(H2.wr tb (l.set (a.toNat*2) w')).size≤z→ro' z= .no)∧ag (KB ro) H (H2.wr tb (l.set (a.toNat*2) w')):=by
 have PN:∀z,kb a=some z→ro z= .nS a:=fun z h=>m.rk a z ha.1 ha.2 h
 have hfb:¬kb a=some fb:=fun h=>by have:=PN _ h;rw[m.rf]at this;cases this
 have Ua:¬kb a=some tb:=fun h=>by have:=PN _ h;rw[m.rt]at this;cases this
 obtain⟨z1,z2⟩:=m.t.Qu
 have t2:=m.t.ext e hfb Ua
 obtain⟨t3,e3⟩:=t2.ti ha w'
 have hs:=e.size
 have Of:(H2.wr tb (l.set (a.toNat*2) w')).size=H2.size:=dT _ _ _
 have hr:∃ro':Nat→Rl,(∀b,cJ=some b→ro' b= .nS a)∧(∀z,z<H.size→ro' z=ro z)∧RK H.size ro ro'∧∀z,H2.size≤z→ro' z= .no:=by
  rcases hf with h|h| ⟨b,h,JV,nA⟩
  ·exact⟨ro,fun b hb=>PN b (by rw[←h];exact hb),fun _ _=>rfl,RK.refl hz,fun z dE=>hz z (by omega)⟩
  ·refine⟨ro,fun b hb=>?_,fun _ _=>rfl,RK.refl hz,fun z dE=>hz z (by omega)⟩
   rw[h]at hb
   cases hb
  ·refine⟨fun z=>if z=b then .nS a else ro z,fun b' jz=>?_,fun z dE=>?_,⟨fun z dE _=>?_,fun z x dE hx=>⟨x,?_⟩,fun z dE=>?_⟩,fun z dE=>?_⟩
   ·rw[h]at jz
    injection jz with jz
    simp[jz]
   ·show(if z=b then Rl.nS a else ro z)=_
    rw[if_neg (by omega)]
   ·show(if z=b then Rl.nS a else ro z)=_
    rw[if_neg (by omega)]
   ·show(if z=b then Rl.nS a else ro z)=_
    rw[if_neg (by omega)];exact hx
   ·show(if z=b then Rl.nS a else ro z)=_∨∃y,(if z=b then Rl.nS a else ro z)=_
    split
    ·exact .inr ⟨a,rfl⟩
    ·exact .inl (hz z dE)
   ·show(if z=b then Rl.nS a else ro z)=_
    rw[if_neg (by omega)];exact hz z (by omega)
 obtain⟨ro',r1,r2,r3,r4⟩:=hr
 have hfl:∀b,cJ=some b→b≠tb:=fun b hb e=>by
  have:=r1 b hb
  rw[e,r2 tb (by omega),m.rt]at this
  cases this
 refine⟨ro',fun z=>if z=a then cJ else kb z,⟨t3,fun x h0 h1=>?_,by rw[r2 _ z1];exact m.rf,by rw[r2 _ z2];exact m.rt,fun x b h0 h1 hb=>?_,fun x c hc=>?_,fun x hx=>?_⟩,r3,fun z dE=>r4 z (by omega),(e.mono fun z _ h=>.inr ⟨a,PN z h⟩).trans (e3.mono fun z _ h=>.inl (by rw[h];exact m.rt))⟩
 ·unfold ti aw
  by_cases hxa:x=a
  ·simp only[hxa,if_true]
   exact s.ext e3 (fun b hb=>hfl b hb)
  ·simp only[if_neg hxa]
   refine((m.kd x h0 h1).ext e (fun b hb nA=>?_)).ext e3 (fun b hb e=>?_)
   ·have h5:=m.rk x b h0 h1 hb
    rw[PN b nA]at h5
    injection h5 with h5
    exact hxa h5.symm
   ·have h5:=m.rk x b h0 h1 hb
    rw[e,m.rt]at h5
    cases h5
 ·split at hb
  ·rename_i e;rw[e];exact r1 b hb
  ·have h5:=m.rk x b h0 h1 hb
   have h6:=Sl.lt (b:=b) (by have:=m.kd x h0 h1;rw[hb]at this;exact this)
   rw[r2 b h6];exact h5
 ·unfold aw at hc
  split at hc
  ·exact hL c hc
  ·exact m.FC x c hc
 ·unfold aw
  rw[if_neg (fun e=>hx (by rw[e];exact ha))]
  exact m.no x hx
theorem ForM.aE(m:ForM H ro fb tb n l V ch par kb){x:Int}(hx:0≤x∧x<n)(u:Int):ForM (H.wr tb (l.set (x.toNat*2+1) (i64 u))) ro fb tb n (l.set (x.toNat*2+1) (i64 u)) V ch (aE par x u) kb∧ag (KB ro) H (H.wr tb (l.set (x.toNat*2+1) (i64 u))):=by
 obtain⟨t3,e3⟩:=m.t.aE hx u
 refine⟨⟨t3,fun x h0 h1=>(m.kd x h0 h1).ext e3 (fun b hb e=>?_),m.rf,m.rt,m.rk,m.FC,m.no⟩,e3.mono fun z _ h=>.inl (by rw[h];exact m.rt)⟩
 have h5:=m.rk x b h0 h1 hb
 rw[e,m.rt]at h5
 cases h5
theorem q9(m:ForM H ro fb tb n l V ch par kb)(hz:∀z,H.size≤z→ro z= .no){a b:Int}(ha:0≤a∧a<n)(hb:0≤b∧b<n)(pa:par a= -1)(pb:par b= -1)(AC:a≠b)(hd:(ch a).length=(ch b).length)(hl:(ch a).length≤65536):
  af Tryz.prog uS [ptr fb,i64 a,i64 b] H fun v H'=>ar (v= .bool true∧∃ro' l' V' r9,ForM H' ro' fb tb n l' V' (aw ch a (ch a++[b])) (aE par b a) r9∧RK H.size ro ro'∧(∀z,H'.size≤z→ro' z= .no)∧ag (KB ro) H H'):=by
 have ht:=m.t.len
 obtain⟨a1,a2⟩:=m.t.at_ a ha.1 ha.2
 have ka:=m.kd a ha.1 ha.2
 have hcL:∀c∈ch a++[b],0≤c∧c<n:=fun c hc=>by
  rcases ann.1 hc with hc|hc
  ·exact m.FC a c hc
  ·rw[anj.1 hc];exact hb
 have PN:∀z,kb a=some z→ro z= .nS a:=fun z h=>m.rk a z ha.1 ha.2 h
 have hfb:¬kb a=some fb:=fun h=>by have:=PN _ h;rw[m.rf]at this;cases this
 have Ua:¬kb a=some tb:=fun h=>by have:=PN _ h;rw[m.rt]at this;cases this
 refine aP vz ?_
 refine vs ?_
 refine(gO m.t a).mono ?_
 rintro _ H' ⟨rfl,e⟩
 obtain rfl:=e.symm
 rw[anp ha,anp pa]
 refine vs ?_
 refine(gO m.t b).mono ?_
 rintro _ H' ⟨rfl,e⟩
 obtain rfl:=e.symm
 rw[anp hb,anp pb]
 refine vs ?_
 refine ak.dec (fun h=>absurd h AC) (fun _=>?_)
 refine vs ?_
 refine(cX m a).mono ?_
 rintro _ H' ⟨rfl,e⟩
 obtain rfl:=e.symm
 refine vs ?_
 refine(cX m b).mono ?_
 rintro _ H' ⟨rfl,e⟩
 obtain rfl:=e.symm
 rw[hd]
 refine vs ?_
 refine ak.cK (by simp) ?_
 refine vs ?_
 refine jk.intro (fun H'=>H'.own fb=some [.slice (some ⟨tb,0,none⟩) n n]) m.t.own ?_
 refine vs ?_
 refine fk.intro (.slice (some ⟨tb,0,none⟩) n n) (fun H' hI=>by refine v1 (ae hI) ?_;trivial) ?_
 refine vs ?_
 refine fk.intro (.slice (some ⟨tb,0,none⟩) n n) (fun H' hI=>by refine v1 (ae hI) ?_;trivial) ?_
 refine vs ?_
 refine⟨⟨by omega,by omega⟩,?_⟩
 refine vs ?_
 obtain⟨z1,z2⟩:=m.t.Qu
 have f1:ah H (H.new 3 [i64 b]):=(ag.refl _ _).new _ _
 have o1:=f1.own m.t.own (fun h=>h)
 have q1:=f1.own m.t.Dt (fun h=>h)
 refine Du.intro ?A ?B
 case' A=>
  refine v4 (ae m.t.Dt) am9 Nat.add_zero a1 ?_
  refine And.intro m.t.own ?_
  refine vs ?_
  refine And.intro m.t.own ?_
  refine vs ?_
 case' B=>
  refine vs ?_
  refine And.intro m.t.own ?_
  refine v5 (ae q1) (ae m.t.Dt) am9 Nat.add_zero a1 ?_
  refine And.intro m.t.own ?_
  refine vs ?_
 all_goals
  refine Qv ka b (by omega) fun w' H2 cJ fN s2 e2=>?_
  obtain⟨wa,wc,rfl⟩:=Sl.shape s2
  have t2:=m.t.ext e2 hfb Ua
  refine And.intro t2.own ?_
  refine vs ?_
  refine⟨⟨by omega,by omega⟩,?_⟩
  refine v3 t2.Dt am9 Nat.add_zero ?_
  refine⟨by omega,?_⟩
  obtain⟨ro',r9,m3,r3,r4,e3⟩:=m.put hz ha e2 s2 (fN.imp_right .inr) hcL
  refine vs ?_
  refine And.intro m3.t.own ?_
  refine vs ?_
  have Qw:=m3.t.len
  generalize H2.wr tb (l.set (a.toNat*2) (Value.slice wa (ch a++[b]).length wc))=H3 at*
  refine v1 (ae m3.t.own) ?_
  refine⟨⟨by omega,by omega⟩,?_⟩
  refine v3 m3.t.Dt am9 Nat.add_zero ?_
  refine⟨by omega,?_⟩
  obtain⟨m4,e4⟩:=m3.aE hb a
  refine vs ?_
  refine⟨rfl,ro',_,_,r9,m4,r3,fun z dE=>r4 z (by rw[dT]at dE;exact dE),?_⟩
  refine⟨an8 e3.size e4.size,fun z dE hn=>?_⟩
  rw[e4.aI z (anB dE e3.size) (fun h=>hn ?_),e3.aI z dE hn]
  rcases h with h| ⟨x,h⟩
  ·refine .inl ?_
   by_cases hk:∃x,ro z= .nS x
   ·obtain⟨x,hx⟩:=hk
    obtain⟨y,hy⟩:=r3.k z x dE hx
    rw[hy]at h;cases h
   ·rw[←r3.o z dE (fun x hx=>hk ⟨x,hx⟩)];exact h
  ·refine .inr ?_
   apply anC
   intro hk
   rw[r3.o z dE (fun x hx=>hk ⟨x,hx⟩)]at h
   exact hk ⟨x,h⟩
end
end Go.Proofs.YtjlnnljohemifaaGreat
