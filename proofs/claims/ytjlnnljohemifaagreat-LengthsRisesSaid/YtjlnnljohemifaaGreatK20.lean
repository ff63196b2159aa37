/-
  Texts put behind each other by a program: Push, Get, OrdI, Ord, Entry, Cells, Cells2, Nest, CellsW, Ref05, Row, Up, Add, Clone, First, Down, Heap, Ltw, JoinW, HmW, Cq, Spine, Left, Left2, Carry.
-/
import Derived.Test.YtjlnnljohemifaaGreatK1
import Derived.Test.YtjlnnljohemifaaGreatK9
import Derived.Test.YtjlnnljohemifaaGreatK17
import Derived.Test.YtjlnnljohemifaaGreatK19
set_option linter.unusedVariables false
set_option linter.unusedSimpArgs false
namespace Go.Proofs.YtjlnnljohemifaaGreat
open Go Go.Vc
theorem FJ(l:List Int):jX (l.map i64):=fun v hv=>by
 obtain⟨x,_,rfl⟩:=List.mem_map.1 hv
 rfl
theorem EB{H:Hp}{T B:Nat}{w:Value}{xs:List Int}{fp:Option Nat}{K:Value→Hp→Prop}(l9:∀b,fp=some b→B≤b)(hB:B≤H.size)(s:Sl H 1 w xs.length (xs.map i64) fp)(x:Int)(hl:xs.length≤1000000000000)
  (hk:∀w' H' fJ,(∀b,fJ=some b→B≤b)→Sl H' 1 w' (xs++[x]).length ((xs++[x]).map i64) fJ→ai (fun z=>B≤z) H H'→K w' H'):
  lI T 1 8 [i64 0] w (.slice (some ⟨H.size,0,none⟩) 1 1) (H.new T [i64 x]) K:=by
 have fl:ay H (H.new T [i64 x]):=(ai.refl _ _).new _ _
 refine Sl.append (s.ext fl (fun _ _ h=>h)) (Sl.dQ (size:=1) (n:=1) (xs:=[i64 x]) rfl rfl).rd rfl (FJ [x]) (by omega) ?_
 intro v' H' fJ s' e' QG
 refine hk v' H' fJ (fun b hb=>?_) (by rw[List.length_append,List.map_append];exact s') ⟨Nat.le_trans fl.size e'.size,fun z hz hn=>?_⟩
 ·rcases QG with h| ⟨b',vY,h1,h2⟩
  ·exact l9 b (by rw[←h];exact hb)
  ·rw[hb]at vY;injection vY with vY;have:=fl.size;omega
 ·rw[e'.aN z (Nat.lt_of_lt_of_le hz fl.size) (fun h=>hn (l9 z h)),fl.aN z hz (fun h=>h)]
theorem ZK{H:Hp}{T B b:Nat}{w:Value}{xs:List Int}{K:Value→Hp→Prop}(hb:B≤b)(hB:B≤H.size)(s:Sl H 1 w xs.length (xs.map i64) (some b))(x:Int)(hl:xs.length≤1000000000000)
  (hk:∀w' H' b',B≤b'→Sl H' 1 w' (xs++[x]).length ((xs++[x]).map i64) (some b')→ai (fun z=>B≤z) H H'→K w' H'):
  lI T 1 8 [i64 0] w (.slice (some ⟨H.size,0,none⟩) 1 1) (H.new T [i64 x]) K:=by
 refine EB (fun b' h=>by injection h with h;omega) hB s x hl fun w' H' fJ hf s' e'=>?_
 cases fJ with
 |none=>
  obtain⟨_,h0,_⟩:=s'
  simp at h0
 |some b'=>exact hk w' H' b' (hf b' rfl) s' e'
theorem Rz{H:Hp}{T b:Nat}{w:Value}{xs:List Int}{K:Value→Hp→Prop}(s:Sl H 1 w xs.length (xs.map i64) (some b))(x:Int)(hl:xs.length≤1000000000000)
  (hk:∀w' H' b',(b'=b∨H.size≤b')→Sl H' 1 w' (xs++[x]).length ((xs++[x]).map i64) (some b')→ai (fun z=>z=b) H H'→K w' H'):
  lI T 1 8 [i64 0] w (.slice (some ⟨H.size,0,none⟩) 1 1) (H.new T [i64 x]) K:=by
 have fl:ay H (H.new T [i64 x]):=(ai.refl _ _).new _ _
 refine Sl.append (s.ext fl (fun _ _ h=>h)) (Sl.dQ (size:=1) (n:=1) (xs:=[i64 x]) rfl rfl).rd rfl (FJ [x]) (by omega) ?_
 intro v' H' fJ s' e' QG
 have e2:ai (fun z=>z=b) H H':=⟨Nat.le_trans fl.size e'.size,fun z hz hn=>by
  rw[e'.aN z (Nat.lt_of_lt_of_le hz fl.size) (fun h=>hn (by injection h with h;exact h.symm)),fl.aN z hz (fun h=>h)]⟩
 have s2:Sl H' 1 v' (xs++[x]).length ((xs++[x]).map i64) fJ:=by rw[List.length_append,List.map_append];exact s'
 rcases QG with rfl| ⟨b',rfl,h1,h2⟩
 ·exact hk v' H' b (.inl rfl) s2 e2
 ·rw[au]at h1
  exact hk v' H' b' (.inr (by omega)) s2 e2
theorem Sl.num{H:Hp}{a:Option Addr}{n c:Nat}{xs:List Int}{b:Nat}(h:Sl H 1 (.slice a n c) n (xs.map i64) (some b)){i:Nat}{x:Int}(hx:xs[i]? =some x):
  i<n∧a=some ⟨b,0,none⟩∧∃lb,H.own b=some lb∧lb[i]? =some (i64 x):=by
 have hl:=h.1
 rw[List.length_map,Nat.mul_one]at hl
 have hi:=(List.getElem?_eq_some_iff.1 hx).1
 obtain⟨_,l,c2,hs,ho,hc,Bu,ht⟩:=h
 injection hs with fK Ox Io
 refine⟨by omega,fK,l,ho,?_⟩
 have h7:(xs.map i64)[i]? =some (i64 x):=by rw[List.getElem?_map,hx];rfl
 rw[←ht,List.getElem?_take,if_pos (by omega)]at h7
 exact h7
theorem ez.get{H:Hp}{size n:Nat}{v:Value}{xs:List Value}(h:ez H size v n xs){i j:Nat}{x:Value}(hj:j<size)(hx:xs[i*size+j]? =some x):
  ∃b o c l,v= .slice (some ⟨b,o,none⟩) n c∧H.rd b=some l∧i<n∧l[o+i*size+j]? =some x:=by
 obtain⟨hl,⟨rfl,a,c,rfl⟩| ⟨b,o,c,l,rfl,h2,h3,h4⟩⟩:=h
 ·rw[List.getElem?_eq_none (by omega)]at hx;cases hx
 ·have aR:i*size+j<n*size:=by
   have:=(List.getElem?_eq_some_iff.1 hx).1;omega
  refine⟨b,o,c,l,rfl,h2,?_,?_⟩
  ·rcases Nat.lt_or_ge i n with h|h
   ·exact h
   ·have:=Nat.mul_le_mul_right size h;omega
  ·rw[←h4,List.getElem?_take_of_lt aR,List.getElem?_drop]at hx
   rw[←hx];congr 1;omega
def Cn(a b:Int):Int:=if a<b then -1 else if b<a then 1 else 0
theorem nH(a:Int)(H:Hp):ah Tryz.prog BF [i64 a] H fun v H'=>ax (v= .bool false∧H=H'):=by
 refine bc BW ⟨rfl,?_⟩
 refine v2 k8.eq_1 decide_true ?_
 exact⟨rfl,rfl⟩
theorem mz(a:Int)(H:Hp):ah Tryz.prog zS [u64 a] H fun v H'=>ax (v= .bool false∧H=H'):=by
 refine bc Am ⟨rfl,?_⟩
 refine v2 jB.eq_1 decide_true ?_
 exact⟨rfl,rfl⟩
theorem uq(a b:Int)(H:Hp):ah Tryz.prog yf [i64 a,i64 b] H fun v H'=>ax (v=i64 (Cn a b)∧H=H'):=by
 refine bc yE ⟨rfl,?_⟩
 refine v1 iy.eq_1 ?_
 refine(nH a H).mono ?_
 rintro _ _ ⟨rfl,rfl⟩
 refine vs ?_
 refine(nH b H).mono ?_
 rintro _ _ ⟨rfl,rfl⟩
 refine vs ?_
 refine am.dec (fun h=>?_) (fun h=>?_)<;>refine vs ?_
 ·exact⟨congrArg i64 (by simp[Cn,h]),rfl⟩
 ·refine am.dec (fun h2=>?_) (fun h2=>?_)<;>refine vs ?_
  ·exact⟨congrArg i64 (by simp[Cn,h,show b<a from h2]),rfl⟩
  ·exact⟨congrArg i64 (by simp[Cn,h,show¬b<a from h2]),rfl⟩
theorem sW(a b:Int)(H:Hp):ah Tryz.prog wg [u64 a,u64 b] H fun v H'=>ax (v=i64 (Cn a b)∧H=H'):=by
 refine bc wD ⟨rfl,?_⟩
 refine v1 gH.eq_1 ?_
 refine(mz a H).mono ?_
 rintro _ _ ⟨rfl,rfl⟩
 refine vs ?_
 refine(mz b H).mono ?_
 rintro _ _ ⟨rfl,rfl⟩
 refine vs ?_
 refine am.dec (fun h=>?_) (fun h=>?_)<;>refine vs ?_
 ·exact⟨congrArg i64 (by simp[Cn,h]),rfl⟩
 ·refine am.dec (fun h2=>?_) (fun h2=>?_)<;>refine vs ?_
  ·exact⟨congrArg i64 (by simp[Cn,h,show b<a from h2]),rfl⟩
  ·exact⟨congrArg i64 (by simp[Cn,h,show¬b<a from h2]),rfl⟩
def Yb(xs:List Int):Int:=(xs.find? fun x=>x≠0).getD 0
theorem Fa{H:Hp}{v:Value}{n:Nat}{xs:List Int}(h:ez H 1 v n (xs.map i64))(hn:n≤1000000)(hs:∃a c,v= .slice a n c):
  ah Tryz.prog JF [v] H fun r H'=>ax (r=i64 (Yb xs)∧H=H'):=by
 obtain⟨a,c,rfl⟩:=hs
 have bm:xs.length=n:=by have:=h.1;simpa using this
 refine bc JL ⟨rfl,?_⟩
 refine v1 tQ.eq_1 ?_
 refine bD.intro (fun m env H1=>∃k:Nat,env=[(3,i64 0),(6,.slice a n c),(7,i64 n),(8,i64 k)]∧H1=H∧k≤n∧m=n - k∧∀j,j<k→xs[j]? =some 0) n ⟨0,rfl,rfl,by omega,by omega,fun j hj=>by omega⟩ ?_
 rintro m env H1 ⟨k,rfl,rfl,hk,rfl,hz⟩
 refine vs ?_
 refine am.dec (fun aR=>?_) (fun aR=>?_)<;>refine vs ?_
 ·have hkn:k<xs.length:=by omega
  obtain⟨b,o,c',l,hv,hr,_,hg⟩:=ez.get h (i:=k) (j:=0) (x:=i64 xs[k]) (by omega) (by simp[hkn])
  injection hv with e1 e2 e3
  subst e1
  refine⟨by omega,?_⟩
  simp only[Nat.mul_one,Nat.add_zero]at hg
  refine v4 hr Int.toNat_natCast Nat.mul_one hg ?_
  refine am.dec (fun h0=>?_) (fun h0=>?_)<;>refine vs ?_
  ·rw[wrap64 (by omega) (by omega)]
   refine⟨n - (k+1),by omega,k+1,rfl,trivial,by omega,rfl,fun j hj=>?_⟩
   by_cases e:j=k
   ·subst e;rw[List.getElem?_eq_getElem hkn,h0]
   ·exact hz j (by omega)
  ·refine⟨congrArg i64 ?_,rfl⟩
   unfold Yb
   have:xs.find? (fun x=>x≠0)=some xs[k]:=by
    rw[List.find?_eq_some_iff_getElem]
    refine⟨by simpa using h0,k,hkn,rfl,fun j hj=>?_⟩
    have:=hz j hj
    rw[List.getElem?_eq_getElem (by omega)]at this
    injection this with this
    simp[this]
   rw[this];rfl
 ·refine⟨congrArg i64 ?_,rfl⟩
  unfold Yb
  have:xs.find? (fun x=>x≠0)=none:=by
   rw[List.find?_eq_none]
   intro x hx
   obtain⟨j,hj,rfl⟩:=List.mem_iff_getElem.1 hx
   have:=hz j (by omega)
   rw[List.getElem?_eq_getElem hj]at this
   injection this with this
   simp[this]
  rw[this];rfl
def Lp(k s k' s':Int):Int:=Yb [Cn k k',Cn s s']
def gW(k s k' s':Int):Prop:=k<k'∨k=k'∧s<s'
instance(k s k' s':Int):Decidable (gW k s k' s'):=by unfold gW;infer_instance
theorem Lq(k s k' s':Int):Lp k s k' s'<0↔gW k s k' s':=by
 unfold Lp gW Yb Cn
 by_cases h1:k<k'
 ·simp[h1]
 ·by_cases h2:k'<k
  ·simp[h1,h2];omega
  ·by_cases h3:s<s'
   ·simp[h1,h2,h3];omega
   ·by_cases h4:s'<s
    ·simp[h1,h2,h3,h4]
    ·simp[h1,h2,h3,h4]
theorem qh(k s k' s':Int)(H:Hp):ah Tryz.prog EV [vN k s,vN k' s'] H fun v H'=>ax (v=i64 (Lp k s k' s')∧ay H H'):=by
 refine bc E1 ⟨rfl,?_⟩
 refine v1 ol.eq_1 ?_
 refine⟨_,(uq k k' _).mono fun _ _ h=>⟨h.out.1,h.out.2.symm⟩,?_⟩
 refine(sW s s' _).mono ?_
 rintro _ _ ⟨rfl,rfl⟩
 refine vs ?_
 refine(Fa (n:=2) (xs:=[Cn k k',Cn s s']) (Sl.dQ (size:=1) rfl (by simp only[au])).rd (by omega) ⟨_,_,rfl⟩).mono ?_
 rintro _ _ ⟨rfl,rfl⟩
 exact⟨rfl,(((ai.refl _ _).new _ _).new _ _).new _ _⟩
theorem Fb(k s k' s':Int)(H:Hp):ah Tryz.prog JG [vN k s,vN k' s'] H fun v H'=>ax (v= .bool (decide (gW k s k' s'))∧ay H H'):=by
 refine bc JM ⟨rfl,?_⟩
 refine v1 tT.eq_1 ?_
 refine(qh k s k' s' _).mono ?_
 rintro _ _ ⟨rfl,hf⟩
 refine vs ?_
 refine⟨congrArg Value.bool (by rw[decide_eq_decide];exact Lq _ _ _ _),?_⟩
 exact(((ai.refl _ _).new _ _).new _ _).trans hf
def gX(m n:Int):Int:=if n≤0 then m else if n>4611686018427387904 - m then 4611686018427387904 else m+n
theorem DJ{H:Hp}{b:Nat}{m:Int}{r:List Value}(h:H.own b=some (i64 m::r))(hm:0≤m∧m≤4611686018427387904)(n:Int)(hn:n≤4611686018427387904):
  ah Tryz.prog yn [ptr b,i64 n] H fun v H'=>ax (v= .tuple [].toArray∧H'=H.wr b (i64 (gX m n)::r)∨v= .tuple [].toArray∧H'=H∧gX m n=m):=by
 refine bc yO ⟨rfl,?_⟩
 refine v1 iI.eq_1 ?_
 refine am.dec (fun h0=>?_) (fun h0=>?_)<;>refine v1 (ae h) ?_
 ·exact .inr ⟨rfl,rfl,by simp[gX,h0]⟩
 ·rw[wrap64 (by omega) (by omega)]
  refine am.dec (fun h1=>?_) (fun h1=>?_)<;>refine v2 (ae h) h ?_
  ·exact .inl ⟨rfl,by rw[gX,if_neg h0,if_pos h1]⟩
  ·exact .inl ⟨rfl,by rw[gX,if_neg h0,if_neg h1,wrap64 (by omega) (by omega)]⟩
abbrev Ce:=Int×Int×Int
def cH(cs:List Ce):List Value:=cs.flatMap fun c=>[i64 c.1,i64 c.2.1,u64 c.2.2]
theorem lJ(cs:List Ce):(cH cs).length=cs.length*3:=by
 induction cs with
 |nil=>rfl
 |cons c r ih=>simp only[cH,List.flatMap_cons,List.length_append,List.length_cons,List.length_nil]at*;omega
theorem Py(n:Nat):cH (List.replicate n (0,0,0))=cQ [.int .i64 0,.int .i64 0,.int .u64 0] n:=by
 simp[cH,cQ,List.flatMap_def,List.map_replicate]
theorem fy.lt2{H:Hp}{b s len:Nat}{rt:Nat→Nat}{gU:Int}(h:fy H b s len rt gU):s<H.size:=by
 obtain⟨⟨sv,cG,Pk,a1,a2,a3⟩,_⟩:=h
 exact a2.lt
structure bI(H:Hp)(c:Nat)(S:Nat→Prop)(st:Int)(cs:List Ce)(len:Nat)(rt:Nat→Nat)(aX:Int→Option Int):Prop where
 rep:∃fb nb ns mb,H.own c=some [i64 st,.slice (some ⟨fb,0,none⟩) cs.length cs.length,ptr nb,.map (some mb)]∧H.own fb=some (cH cs)∧fy H nb ns len rt 65536∧ou H mb (fun i=>(aX i).map i64)∧
  (S c∧S fb∧S nb∧S ns∧S mb)∧(c≠fb∧c≠nb∧c≠ns∧c≠mb)∧(fb≠nb∧fb≠ns∧fb≠mb)∧(nb≠mb∧ns≠mb)
 st0:0≤st
 VW:st≤4611686018427387904
 Fc:cs.length≤65536
 slt:∀x,S x→x<H.size
theorem bI.ext{H H':Hp}{c:Nat}{S T:Nat→Prop}{st:Int}{cs:List Ce}{len:Nat}{rt:Nat→Nat}{aX:Int→Option Int}(h:bI H c S st cs len rt aX)
  (e:ai T H H')(hd:∀x,S x→¬T x):bI H' c S st cs len rt aX:=by
 obtain⟨⟨fb,nb,ns,mb,a1,a2,a3,a4,⟨s1,s2,s3,s4,s5⟩,a6,a7⟩,h2,h3,h4,h5⟩:=h
 exact⟨⟨fb,nb,ns,mb,e.own a1 (hd _ s1),e.own a2 (hd _ s2),a3.ext e (hd _ s3) (hd _ s4),a4.ext e (hd _ s5),⟨s1,s2,s3,s4,s5⟩,a6,a7⟩,h2,h3,h4,fun x hx=>Nat.lt_of_lt_of_le (h5 x hx) e.size⟩
theorem Gn(cap:Int)(H:Hp):ah Tryz.prog wh [i64 cap] H fun v H'=>ax (
  ay H H'∧((¬ (0≤cap∧cap≤65536)∧v= .tuple [.pointer none,i64 31].toArray)∨
   (0≤cap∧cap≤65536)∧∃c S,v= .tuple [ptr c,i64 0].toArray∧bI H' c S 0 (List.replicate cap.toNat (0,0,0)) 1 id (fun _=>none)∧(∀x,S x→H.size≤x))):=by
 refine bc K9 ⟨rfl,?_⟩
 refine v1 wH.eq_1 ?_
 refine am.dec (fun h=>?_) (fun h=>?_)<;>refine vs ?_
 ·exact⟨ai.refl _ _,.inl ⟨by omega,rfl⟩⟩
 ·refine am.dec (fun h2=>?_) (fun h2=>?_)<;>refine vs ?_
  ·exact⟨ai.refl _ _,.inl ⟨by omega,rfl⟩⟩
  ·refine(Gb 65536 H).mono ?_
   rintro _ H1 ⟨hf,⟨hc,_⟩| ⟨_,nb,ns,rfl,hn,b1,b2,b3,b4⟩⟩
   ·omega
   refine vs ?_
   refine⟨by omega,?_⟩
   refine vs ?_
   have hs:(H1.new 343 (cQ [.int .i64 0,.int .i64 0,.int .u64 0] cap.toNat)).own H1.size=some (cH (List.replicate cap.toNat (0,0,0))):=by
    rw[Py]
    exact aG _ _ _
   have he:ai (fun _=>False) (H1.new 343 (cQ [.int .i64 0,.int .i64 0,.int .u64 0] cap.toNat)) _:=
    ((ai.refl _ _).fX).new 308 [.int .i64 0,.slice (some ⟨H1.size,0,none⟩) cap.toNat cap.toNat,.pointer (some ⟨nb,0,none⟩),.map (some (H1.size+1))]
   have hm:ou (H1.new 343 (cQ [.int .i64 0,.int .i64 0,.int .u64 0] cap.toNat)).fX (H1.size+1) (fun _=>none):=by
    have:=ou.new (H1.new 343 (cQ [.int .i64 0,.int .i64 0,.int .u64 0] cap.toNat))
    rwa[au]at this
   have Pm:=hf.size
   have hl:(List.replicate cap.toNat ((0,0,0):Ce)).length=cap.toNat:=List.length_replicate
   refine⟨(hf.trans ((ai.refl _ _).new 343 _)).trans he,.inr ⟨by omega,H1.size+1+1,fun x=>H.size≤x∧x<H1.size+1+1+1,rfl,⟨⟨H1.size,nb,ns,H1.size+1,by rw[hl];exact bC (by simp only[au,kq]),he.own hs (fun h=>h),
    (hn.ext ((ai.refl (fun _=>False) _).new 343 _) (fun h=>h) (fun h=>h)).ext he (fun h=>h) (fun h=>h),hm.ext ((ai.refl (fun _=>False) _).new _ _) (fun h=>h),?_,?_,?_,?_⟩,by omega,by omega,by omega,?_⟩,fun x h=>h.1⟩⟩
   ·exact⟨by omega,by omega,by omega,by omega,by omega⟩
   ·exact⟨by omega,by omega,by omega,by omega⟩
   ·exact⟨by omega,by omega,by omega⟩
   ·exact⟨by omega,by omega⟩
   ·intro x hx
    simp only[au,kq]
    exact hx.2
theorem w9{H:Hp}{c:Nat}{S:Nat→Prop}{st:Int}{cs:List Ce}{len:Nat}{rt:Nat→Nat}{aX:Int→Option Int}(h:bI H c S st cs len rt aX)(i:Int):
  ah Tryz.prog bF [ptr c,i64 i] H fun v H'=>ax (v= .bool (decide (0<i∧i<len∧rt i.toNat=i.toNat))∧H=H'):=by
 obtain⟨⟨fb,nb,ns,mb,a1,a2,a3,a4,a5,a6,a7⟩,h2,h3,h4,h5⟩:=h
 refine bc BZ ⟨rfl,?_⟩
 refine v2 lf.eq_1 (ae a1) ?_
 refine(Gd a3 i).mono ?_
 rintro _ _ ⟨rfl,rfl⟩
 refine vs ?_
 exact⟨rfl,rfl⟩
def dL(aX:Int→Option Int)(i:Int):Int:=(aX i).getD 0
theorem Gp{H:Hp}{c:Nat}{S:Nat→Prop}{st:Int}{cs:List Ce}{len:Nat}{rt:Nat→Nat}{aX:Int→Option Int}(h:bI H c S st cs len rt aX)(i:Int):
  ah Tryz.prog kP [ptr c,i64 i] H fun v H'=>ax (v=i64 (dL aX i)∧H=H'):=by
 obtain⟨⟨fb,nb,ns,mb,a1,a2,a3,a4,a5,a6,a7⟩,h2,h3,h4,h5⟩:=h
 refine bc B0 ⟨rfl,?_⟩
 refine v3 lh.eq_1 (ae a1) a4.look ?_
 refine⟨?_,rfl⟩
 unfold dL
 cases aX i<;>rfl
theorem sX{H:Hp}{c:Nat}{S:Nat→Prop}{st:Int}{cs:List Ce}{len:Nat}{rt:Nat→Nat}{aX:Int→Option Int}(h:bI H c S st cs len rt aX)(i:Int):
  ah Tryz.prog yk [ptr c,i64 i] H fun v H'=>ax (v= .bool (decide (0≤i∧i<cs.length))∧H=H'):=by
 obtain⟨⟨fb,nb,ns,mb,a1,a2,a3,a4,a5,a6,a7⟩,h2,h3,h4,h5⟩:=h
 refine bc yL ⟨rfl,?_⟩
 refine v1 iF.eq_1 ?_
 refine am.dec (fun h=>?_) (fun h=>?_)<;>refine v1 (ae a1) ?_
 ·exact⟨congrArg Value.bool (by rw[decide_eq_decide];omega),rfl⟩
 ·exact⟨congrArg Value.bool (decide_eq_false (by omega)).symm,rfl⟩
theorem xQ{cs:List Ce}{i:Nat}{c:Ce}(hi:cs[i]? =some c):
  (cH cs)[i*3]? =some (i64 c.1)∧(cH cs)[i*3+1]? =some (i64 c.2.1)∧(cH cs)[i*3+2]? =some (u64 c.2.2)∧((cH cs).drop (i*3+1)).take 2=[i64 c.2.1,u64 c.2.2]:=by
 have hx:∀ (cs:List Ce) (i:Nat) (c:Ce),cs[i]? =some c→(cH cs)[i*3]? =some (i64 c.1)∧(cH cs)[i*3+1]? =some (i64 c.2.1)∧(cH cs)[i*3+2]? =some (u64 c.2.2):=by
  intro cs
  induction cs with
  |nil=>intro i c h;simp at h
  |cons a r ih=>
   intro i c h
   have e:cH (a::r)=i64 a.1::i64 a.2.1::u64 a.2.2::cH r:=rfl
   rw[e]
   cases i with
   |zero=>simp at h;subst h;exact⟨rfl,rfl,rfl⟩
   |succ i=>
    have:=ih i c (by simpa using h)
    rw[show(i+1)*3=i*3+3 by omega]
    simpa using this
 obtain⟨x0,x1,x2⟩:=hx cs i c hi
 refine⟨x0,x1,x2,?_⟩
 apply List.ext_getElem?
 intro k
 rw[List.getElem?_take]
 match k with
 |0=>simpa using x1
 |1=>rw[if_pos (by omega),List.getElem?_drop];exact x2
 |k+2=>rw[if_neg (by omega)];rfl
def cY(cs:List Ce)(i:Int):Prop:=0≤i∧∃c,cs[i.toNat]? =some c∧0<c.1
instance(cs:List Ce)(i:Int):Decidable (cY cs i):=
 match h:cs[i.toNat]? with
 |none=>.isFalse fun⟨_,c,h1,_⟩=>by rw[h]at h1;simp at h1
 |some c=>if h0:0≤i∧0<c.1 then .isTrue ⟨h0.1,c,h,h0.2⟩else .isFalse fun⟨h1,c',h2,h3⟩=>by rw[h]at h2;injection h2 with h2;subst h2;exact h0 ⟨h1,h3⟩
theorem fL{H:Hp}{c:Nat}{S:Nat→Prop}{st:Int}{cs:List Ce}{len:Nat}{rt:Nat→Nat}{aX:Int→Option Int}(h:bI H c S st cs len rt aX)(i:Int):
  ah Tryz.prog Dh [ptr c,i64 i] H fun v H'=>ax (v= .bool (decide (cY cs i))∧H=H'):=by
 have ht:=sX h i
 obtain⟨⟨fb,nb,ns,mb,a1,a2,a3,a4,a5,a6,a7⟩,h2,h3,h4,h5⟩:=h
 refine bc Du ⟨rfl,?_⟩
 refine v1 mI.eq_1 ?_
 refine ht.mono ?_
 rintro _ _ ⟨rfl,rfl⟩
 refine vs ?_
 refine am.dec (fun h=>?_) (fun h=>?_)<;>refine v1 (ae a1) ?_
 ·obtain⟨x,hx⟩:∃x,cs[i.toNat]? =some x:=⟨_,List.getElem?_eq_getElem (by omega)⟩
  obtain⟨x0,x1,x2,x3⟩:=xQ hx
  refine⟨by omega,?_⟩
  refine v4 (ae a2) x0 Nat.add_zero Nat.zero_add ?_
  exact⟨congrArg Value.bool (by rw[decide_eq_decide];exact⟨fun hh=>⟨h.1,x,hx,hh⟩,fun⟨_,c,e1,e2⟩=>by rw[hx]at e1;injection e1 with e1;subst e1;exact e2⟩),rfl⟩
 ·exact⟨congrArg Value.bool (decide_eq_false (by rintro⟨x,c,x1,x2⟩;have:=(List.getElem?_eq_some_iff.1 x1).1;omega)).symm,rfl⟩
theorem I9(cs:List Ce)(i:Nat)(c:Ce)(hi:i<cs.length):bq (cH cs) (i*3) [i64 c.1,i64 c.2.1,u64 c.2.2]=cH (cs.set i c):=by
 simp only[bq]
 induction cs generalizing i with
 |nil=>simp at hi
 |cons a r ih=>
  have e:cH (a::r)=i64 a.1::i64 a.2.1::u64 a.2.2::cH r:=rfl
  cases i with
  |zero=>rfl
  |succ i=>
   have e2:cH ((a::r).set (i+1) c)=i64 a.1::i64 a.2.1::u64 a.2.2::cH (r.set i c):=rfl
   rw[e,e2,show(i+1)*3=i*3+1+1+1 by omega]
   simp only[List.set_cons_succ]
   rw[ih i (by simpa using hi)]
theorem Fe{H:Hp}{c:Nat}{S:Nat→Prop}{st:Int}{cs:List Ce}{len:Nat}{rt:Nat→Nat}{aX:Int→Option Int}(h:bI H c S st cs len rt aX):
  ah Tryz.prog dA [ptr c] H fun v H'=>ax (
   (len=65537∧v=i64 0∧H=H')∨
   (len≠65537∧v=i64 len∧∃S',bI H' c S' st cs (len+1) (fun i=>if i=len then i else rt i) aX∧ai S H H'∧∀x,S' x→S x∨H.size≤x)):=by
 obtain⟨⟨fb,nb,ns,mb,a1,a2,a3,a4,a5,a6,a7⟩,h2,h3,h4,h5⟩:=h
 refine bc AD ⟨rfl,?_⟩
 refine v2 jL.eq_1 (ae a1) ?_
 refine(E7 a3).mono ?_
 rintro _ H1 (⟨hl,rfl,rfl⟩| ⟨hl,rfl,s',b1,b2,b3⟩)
 ·refine vs ?_
  exact .inl ⟨by omega,rfl,rfl⟩
 ·refine vs ?_
  obtain⟨s1,s2,s3,s4,s5⟩:=a5
  obtain⟨d1,d2,d3,d4⟩:=a6
  obtain⟨⟨d5,d6,d7⟩,d8,d9⟩:=a7
  have l1:=aO a1
  have l2:=aO a2
  have l3:=a4.lt
  refine .inr ⟨by omega,rfl,fun x=>S x∨x=s',⟨⟨fb,nb,s',mb,b2.own a1 (by omega),b2.own a2 (by omega),b1,a4.ext b2 (by omega),⟨.inl s1,.inl s2,.inl s3,.inr rfl,.inl s5⟩,⟨d1,d2,by omega,d4⟩,⟨d5,by omega,d7⟩,d8,by omega⟩,h2,h3,h4,fun x hx=>hx.elim (fun h=>Nat.lt_of_lt_of_le (h5 x h) b2.size) (fun h=>by rw[h];exact b1.lt2)⟩,
   b2.mono (fun x _ hx=>hx.elim (fun e=>e▸s3) (fun e=>e▸s4)),?_⟩
  rintro x (hx|rfl)
  ·exact .inl hx
  ·rcases b3 with rfl|b3
   ·exact .inl s4
   ·exact .inr b3.1
theorem Gq{H:Hp}{c:Nat}{S:Nat→Prop}{st:Int}{cs:List Ce}{len:Nat}{rt:Nat→Nat}{aX:Int→Option Int}(h:bI H c S st cs len rt aX)(g i k s:Int)
  (hm:dL aX g≤1000000∧0≤dL aX g):
  ah Tryz.prog kQ [ptr c,i64 g,i64 i,vN k s] H fun v H'=>ax (
   let ok:=(0<g∧g<len∧rt g.toNat=g.toNat)∧(0≤i∧i<cs.length)∧¬cY cs i
   (¬ok∧v= .bool false∧bI H' c S st cs len rt aX∧ai S H H')∨
   (ok∧v= .bool true∧bI H' c S st (cs.set i.toNat (g,k,s)) len rt (fun j=>if j=g then some (dL aX g+1)else aX j)∧ai S H H')):=by
 have qP:ai (fun _=>False) H (H.new 224 [i64 k,u64 s]):=(ai.refl _ _).new _ _
 have h':=h.ext qP (fun _ _ h=>h)
 refine bc B3 ⟨rfl,?_⟩
 simp(disch:=(first|omega| (simp only[Zs]<;>omega)|fail)) only[go_sem, ↓reduceIte,Zv,lj,vN]
 refine(w9 h' g).mono ?_
 rintro _ _ ⟨rfl,rfl⟩
 refine vs ?_
 have RA:∀v,v=Value.bool false→¬ ((0<g∧g<len∧rt g.toNat=g.toNat)∧(0≤i∧i<cs.length)∧¬cY cs i)→
   ((¬ ((0<g∧g<len∧rt g.toNat=g.toNat)∧(0≤i∧i<cs.length)∧¬cY cs i)∧v= .bool false∧bI (H.new 224 [i64 k,u64 s]) c S st cs len rt aX∧ai S H (H.new 224 [i64 k,u64 s]))∨
   (((0<g∧g<len∧rt g.toNat=g.toNat)∧(0≤i∧i<cs.length)∧¬cY cs i)∧v= .bool true∧bI (H.new 224 [i64 k,u64 s]) c S st (cs.set i.toNat (g,k,s)) len rt (fun j=>if j=g then some (dL aX g+1)else aX j)∧ai S H (H.new 224 [i64 k,u64 s]))):=
  fun v hv hn=>.inl ⟨hn,hv,h',(ai.refl _ _).new _ _⟩
 refine am.dec (fun hg=>?_) (fun hg=>?_)<;>refine vs ?_
 ·refine(sX h' i).mono ?_
  rintro _ _ ⟨rfl,rfl⟩
  refine vs ?_
  refine am.dec (fun hi=>?_) (fun hi=>?_)<;>refine vs ?_
  ·refine(fL h' i).mono ?_
   rintro _ _ ⟨rfl,rfl⟩
   refine vs ?_
   refine am.dec (fun bS=>?_) (fun bS=>?_)<;>refine vs ?_
   ·exact RA _ rfl (fun hc=>hc.2.2 bS)
   ·obtain⟨⟨fb,nb,ns,mb,a1,a2,a3,a4,a5,a6,a7⟩,h2,h3,h4,h5⟩:=h'
    refine v1 (ae a1) ?_
    refine⟨by omega,?_⟩
    refine v1 a2 ?_
    refine⟨by rw[lJ];omega,?_⟩
    rw[show bq (cH cs) (i.toNat*3) (aJ (Value.agg #[Value.int .i64 g,i64 k,u64 s]))=cH (cs.set i.toNat (g,k,s))from I9 cs i.toNat (g,k,s) (by omega)]
    obtain⟨s1,s2,s3,s4,s5⟩:=a5
    obtain⟨d1,d2,d3,d4⟩:=a6
    obtain⟨⟨d5,d6,d7⟩,d8,d9⟩:=a7
    have e1:ai (fun x=>x=fb) (H.new 224 [i64 k,u64 s]) ((H.new 224 [i64 k,u64 s]).wr fb (cH (cs.set i.toNat (g,k,s)))):=(ai.refl (fun x=>x=fb) _).wr (fun _=>rfl) _
    have a1':=e1.own a1 d1
    have VJ:((H.new 224 [i64 k,u64 s]).wr fb (cH (cs.set i.toNat (g,k,s)))).own fb=_:=aj a2
    have a3':=a3.ext e1 (Ne.symm d5) (Ne.symm d6)
    have a4':=a4.ext e1 (Ne.symm d7)
    have el:jp false (Value.int .i64 0) ((aX g).map i64)=i64 (dL aX g):=by unfold dL;cases aX g<;>rfl
    refine v3 (ae a1') a4'.look el ?_
    rw[wrap64 (by omega) (by omega)]
    refine a4'.Yc fun H2 m2 e2=>?_
    refine vs ?_
    refine .inr ⟨⟨hg,hi,bS⟩,rfl,⟨⟨fb,nb,ns,mb,by rw[List.length_set];exact e2.own a1' d4,e2.own VJ d7,a3'.ext e2 d8 d9,?_,⟨s1,s2,s3,s4,s5⟩,⟨d1,d2,d3,d4⟩,⟨d5,d6,d7⟩,d8,d9⟩,h2,h3,by rw[List.length_set];exact h4,fun x hx=>Nat.lt_of_lt_of_le (h5 x hx) (Nat.le_trans e1.size e2.size)⟩,?_⟩
    ·have:(fun j=>Option.map i64 (if j=g then some (dL aX g+1)else aX j))=JV (fun j=>(aX j).map i64) g (i64 (dL aX g+1)):=by
      funext j;unfold JV;by_cases hj:j=g<;>simp[hj]
     rw[this];exact m2
    ·exact(((ai.refl S H).new 224 [i64 k,u64 s]).trans (e1.mono fun x _ hx=>hx▸s2)).trans (e2.mono fun x _ hx=>hx▸s5)
  ·exact RA _ rfl (fun hc=>hi hc.2.1)
 ·exact RA _ rfl (fun hc=>hg hc.1)
theorem Pz{m n:Int}(h0:0≤m)(h1:m≤4611686018427387904):0≤gX m n∧gX m n≤4611686018427387904:=by
 unfold gX;split
 ·exact⟨h0,h1⟩
 ·split<;>omega
def AS(a b:Int)(x y:Ce):Prop:=Lp x.2.1 x.2.2 y.2.1 y.2.2<0∨Lp x.2.1 x.2.2 y.2.1 y.2.2=0∧a<b
instance(a b:Int)(x y:Ce):Decidable (AS a b x y):=inferInstanceAs (Decidable (_∨_∧_))
theorem DK{H:Hp}{c:Nat}{S:Nat→Prop}{st:Int}{cs:List Ce}{len:Nat}{rt:Nat→Nat}{aX:Int→Option Int}(h:bI H c S st cs len rt aX)(a b:Int):
  ah Tryz.prog cP [ptr c,i64 a,i64 b] H fun v H'=>ax (
   (¬ (cY cs a∧cY cs b)∧v= .bool false∧H=H')∨
   (cY cs a∧cY cs b)∧∃x y,cs[a.toNat]? =some x∧cs[b.toNat]? =some y∧v= .bool (decide (AS a b x y))∧bI H' c S (gX st 1) cs len rt aX∧ai S H H'):=by
 have h':=h
 obtain⟨⟨fb,nb,ns,mb,a1,a2,a3,a4,a5,a6,a7⟩,h2,h3,h4,h5⟩:=h
 refine bc yM ⟨rfl,?_⟩
 refine v1 iG.eq_1 ?_
 refine(fL h' a).mono ?_
 rintro _ _ ⟨rfl,rfl⟩
 refine vs ?_
 refine am.dec (fun ha=>?_) (fun ha=>?_)<;>refine vs ?_
 ·refine(fL h' b).mono ?_
  rintro _ _ ⟨rfl,rfl⟩
  refine vs ?_
  refine am.dec (fun hb=>?_) (fun hb=>?_)<;>refine vs ?_
  ·obtain⟨TK,x,hx,ie⟩:=id ha
   obtain⟨RB,y,hy,ZL⟩:=id hb
   refine(DJ a1 ⟨h2,h3⟩ 1 (by omega)).mono ?_
   rintro v H1 hH
   obtain⟨rfl,b1,b2,b3,b4⟩:v= .tuple [].toArray∧H1.own c=some [i64 (gX st 1),.slice (some ⟨fb,0,none⟩) cs.length cs.length,ptr nb,.map (some mb)]∧H1.own fb=some (cH cs)∧bI H1 c S (gX st 1) cs len rt aX∧ai S H H1:=by
    have w8:=Pz (n:=1) h2 h3
    rcases hH.out with ⟨rfl,rfl⟩| ⟨rfl,rfl,hs⟩
    ·obtain⟨s1,s2,s3,s4,s5⟩:=a5
     obtain⟨d1,d2,d3,d4⟩:=a6
     have e1:ai (fun x=>x=c) H (H.wr c [i64 (gX st 1),.slice (some ⟨fb,0,none⟩) cs.length cs.length,ptr nb,.map (some mb)]):=(ai.refl (fun x=>x=c) _).wr (fun _=>rfl) _
     exact⟨rfl,aj a1,e1.own a2 (Ne.symm d1),⟨⟨fb,nb,ns,mb,aj a1,e1.own a2 (Ne.symm d1),a3.ext e1 (Ne.symm d2) (Ne.symm d3),a4.ext e1 (Ne.symm d4),⟨s1,s2,s3,s4,s5⟩,⟨d1,d2,d3,d4⟩,a7⟩,w8.1,w8.2,h4,fun x hx=>Nat.lt_of_lt_of_le (h5 x hx) e1.size⟩,e1.mono fun x _ hx=>hx▸s1⟩
    ·rw[hs]
     exact⟨rfl,a1,a2,h',ai.refl _ _⟩
   have al:=(List.getElem?_eq_some_iff.1 hx).1
   have bl:=(List.getElem?_eq_some_iff.1 hy).1
   obtain⟨x1,x2,x3,x4⟩:=xQ hx
   obtain⟨y1,y2,y3,y4⟩:=xQ hy
   have fl:=lJ cs
   refine v1 (ae b1) ?_
   refine⟨by omega,?_⟩
   refine v3 (ae b1) (ae b2) x4 ?_
   refine⟨by omega,?_⟩
   refine v2 (ae b1) x4 ?_
   refine⟨by omega,?_⟩
   refine v3 (ae b1) (ae b2) y4 ?_
   refine⟨by omega,?_⟩
   refine v2 x4 y4 ?_
   refine(qh x.2.1 x.2.2 y.2.1 y.2.2 _).mono ?_
   rintro _ H2 ⟨rfl,hf⟩
   refine vs ?_
   have b5:=b3.ext hf (fun _ _ h=>h)
   have b6:=b4.trans (hf.mono fun _ _ h=>h.elim)
   refine am.dec (fun aR=>?_) (fun aR=>?_)<;>refine vs ?_
   ·exact .inr ⟨⟨ha,hb⟩,x,y,hx,hy,congrArg Value.bool (decide_eq_true (show AS a b x y from .inl aR)).symm,b5,b6⟩
   ·refine am.dec (fun heq=>?_) (fun heq=>?_)<;>refine vs ?_
    ·exact .inr ⟨⟨ha,hb⟩,x,y,hx,hy,congrArg Value.bool (by rw[decide_eq_decide];exact⟨fun hh=>.inr ⟨heq,hh⟩,fun hh=>hh.elim (fun e=>absurd e aR) (·.2)⟩),b5,b6⟩
    ·exact .inr ⟨⟨ha,hb⟩,x,y,hx,hy,congrArg Value.bool (decide_eq_false (show¬AS a b x y from fun hh=>hh.elim aR (fun e=>heq e.1))).symm,b5,b6⟩
  ·exact .inl ⟨fun hc=>hb hc.2,rfl,rfl⟩
 ·exact .inl ⟨fun hc=>ha hc.1,rfl,rfl⟩
theorem bI.names{H H1:Hp}{c:Nat}{S:Nat→Prop}{st:Int}{cs:List Ce}{len:Nat}{rt rt':Nat→Nat}{aX:Int→Option Int}{fb nb ns mb:Nat}(h:bI H c S st cs len rt aX)
  (a1:H.own c=some [i64 st,.slice (some ⟨fb,0,none⟩) cs.length cs.length,ptr nb,.map (some mb)])(a2:H.own fb=some (cH cs))(a4:ou H mb (fun i=>(aX i).map i64))
  (a5:S c∧S fb∧S nb∧S ns∧S mb)(a6:c≠fb∧c≠nb∧c≠ns∧c≠mb)(a7:fb≠nb∧fb≠ns∧fb≠mb)(a8:nb≠mb∧ns≠mb)
  (n:fy H1 nb ns len rt' 65536)(e:ai (fun x=>x=nb∨x=ns) H H1):
  bI H1 c S st cs len rt' aX∧ai S H H1∧H1.own c=some [i64 st,.slice (some ⟨fb,0,none⟩) cs.length cs.length,ptr nb,.map (some mb)]∧ou H1 mb (fun i=>(aX i).map i64):=by
 obtain⟨s1,s2,s3,s4,s5⟩:=a5
 have b1:=e.own a1 (by omega)
 have b4:=a4.ext e (by omega)
 exact⟨⟨⟨fb,nb,ns,mb,b1,e.own a2 (by omega),n,b4,⟨s1,s2,s3,s4,s5⟩,a6,a7,a8⟩,h.st0,h.VW,h.Fc,fun x hx=>Nat.lt_of_lt_of_le (h.slt x hx) e.size⟩,e.mono fun x _ hx=>hx.elim (fun h=>h▸s3) (fun h=>h▸s4),b1,b4⟩
theorem u0{H:Hp}{c:Nat}{S:Nat→Prop}{st:Int}{cs:List Ce}{len:Nat}{rt:Nat→Nat}{aX:Int→Option Int}(h:bI H c S st cs len rt aX)(hl:∀x∈cs,x.1<len)(i:Int):
  ah Tryz.prog jv [ptr c,i64 i] H fun v H'=>ax (
   (¬cY cs i∧v= .tuple [i64 0,.bool false].toArray∧H=H')∨
   (cY cs i∧∃x,cs[i.toNat]? =some x∧v= .tuple [i64 (rt x.1.toNat),.bool true].toArray∧bI H' c S st cs len rt aX∧ai S H H')):=by
 have h':=h
 obtain⟨⟨fb,nb,ns,mb,a1,a2,a3,a4,a5,a6,a7,a8⟩,h2,h3,h4,h5⟩:=h
 refine bc AA ⟨rfl,?_⟩
 refine v1 jI.eq_1 ?_
 refine(fL h' i).mono ?_
 rintro _ _ ⟨rfl,rfl⟩
 refine vs ?_
 refine am.dec (fun hi=>?_) (fun hi=>?_)<;>refine vs ?_
 ·obtain⟨Ff,x,hx,ie⟩:=id hi
  have qV:=(List.getElem?_eq_some_iff.1 hx).1
  obtain⟨x1,x2,x3,x4⟩:=xQ hx
  refine v1 (ae a1) ?_
  refine⟨by omega,?_⟩
  refine v4 (ae a2) x1 Nat.add_zero Nat.zero_add ?_
  refine(E9 a3 x.1).mono ?_
  rintro _ H1 (⟨hn,_⟩| ⟨_,rfl,n1,e1⟩)
  ·exact absurd ⟨ie,hl x (List.mem_of_getElem? hx)⟩ hn
  refine vs ?_
  obtain⟨b1,b2,_⟩:=h'.names a1 a2 a4 a5 a6 a7 a8 n1 e1
  exact .inr ⟨hi,x,hx,rfl,b1,b2⟩
 ·exact .inl ⟨hi,rfl,rfl⟩
theorem DL{H:Hp}{c:Nat}{S:Nat→Prop}{st:Int}{cs:List Ce}{len:Nat}{rt:Nat→Nat}{aX:Int→Option Int}(h:bI H c S st cs len rt aX)(i:Int):
  ah Tryz.prog bk [ptr c,i64 i] H fun v H'=>ax (bI H' c S st cs len rt aX∧ay H H'∧(
   (¬cY cs i∧v= .tuple [vN 0 0,.bool false].toArray)∨
   (cY cs i∧∃x,cs[i.toNat]? =some x∧v= .tuple [vN x.2.1 x.2.2,.bool true].toArray))):=by
 have e0:ay H (H.new 224 [.int .i64 0,.int .u64 0]):=(ai.refl _ _).new _ _
 have h':=h.ext e0 (fun _ _ h=>h)
 refine bc yI ⟨rfl,?_⟩
 refine v1 iC.eq_1 ?_
 refine(fL h' i).mono ?_
 rintro _ _ ⟨rfl,rfl⟩
 refine vs ?_
 refine am.dec (fun hi=>?_) (fun hi=>?_)<;>refine vs ?_
 ·obtain⟨Ff,x,hx,ie⟩:=id hi
  have qV:=(List.getElem?_eq_some_iff.1 hx).1
  obtain⟨x1,x2,x3,x4⟩:=xQ hx
  have fl:=lJ cs
  obtain⟨⟨fb,nb,ns,mb,a1,a2,a3,a4,a5,a6,a7,a8⟩,h2,h3,h4,h5⟩:=id h'
  refine v1 (ae a1) ?_
  refine⟨by omega,?_⟩
  refine v1 (ae a2) ?_
  refine⟨by omega,?_⟩
  simp(disch:=(first|omega| (simp only[Zs]<;>omega)|fail)) only[go_sem, ↓reduceIte,Zv,x4,ui (aG H 224 [.int .i64 0,.int .u64 0])]
  have e1:ay H ((H.new 224 [.int .i64 0,.int .u64 0]).wr H.size [i64 x.2.1,u64 x.2.2]):=e0.wr (fun h=>absurd h (Nat.lt_irrefl _)) _
  exact⟨h.ext e1 (fun _ _ h=>h),e1,.inr ⟨hi,x,hx,rfl⟩⟩
 ·simp(disch:=(first|omega| (simp only[Zs]<;>omega)|fail)) only[go_sem, ↓reduceIte,Zv,ui (aG H 224 [.int .i64 0,.int .u64 0])]
  have e1:ay H ((H.new 224 [.int .i64 0,.int .u64 0]).wr H.size [.int .i64 0,.int .u64 0]):=e0.wr (fun h=>absurd h (Nat.lt_irrefl _)) _
  exact⟨h.ext e1 (fun _ _ h=>h),e1,.inl ⟨hi,rfl⟩⟩
def cX(m:Int→Option Int)(i n:Int):Int→Option Int:=fun j=>if j=i then some n else m j
def ur(m:Int→Option Int)(i:Int):Int→Option Int:=fun j=>if j=i then none else m j
theorem Lr(m:Int→Option Int)(i n:Int):JV (fun j=>(m j).map i64) i (i64 n)=fun j=>(cX m i n j).map i64:=by
 funext j;unfold JV cX;by_cases hj:j=i<;>simp[hj]
theorem Ls(m:Int→Option Int)(i:Int):M8 (fun j=>(m j).map i64) i=fun j=>(ur m i j).map i64:=by
 funext j;unfold M8 ur;by_cases hj:j=i<;>simp[hj]
theorem EC(m:Int→Option Int)(g:Int):jp false (Value.int .i64 0) ((m g).map i64)=i64 (dL m g):=by
 unfold dL;cases m g<;>rfl
theorem Fg{H:Hp}{c:Nat}{S:Nat→Prop}{st:Int}{cs:List Ce}{len:Nat}{rt:Nat→Nat}{aX:Int→Option Int}(h:bI H c S st cs len rt aX)(hl:∀x∈cs,x.1<len)(i:Int)(hm:∀j,0≤dL aX j∧dL aX j≤1000000):
  ah Tryz.prog jw [ptr c,i64 i] H fun v H'=>ax (
   (¬cY cs i∧v= .bool false∧H=H')∨
   (cY cs i∧v= .bool true∧∃x,cs[i.toNat]? =some x∧
    bI H' c S st (cs.set i.toNat (0,0,0)) len rt (if dL aX (rt x.1.toNat) - 1=0 then ur (cX aX (rt x.1.toNat) (dL aX (rt x.1.toNat) - 1)) (rt x.1.toNat)else cX aX (rt x.1.toNat) (dL aX (rt x.1.toNat) - 1))∧ai S H H')):=by
 refine bc AC ⟨rfl,?_⟩
 refine v1 jK.eq_1 ?_
 refine(u0 h hl i).mono ?_
 rintro _ H1 (⟨hi,rfl,rfl⟩| ⟨hi,x,hx,rfl,b1,b2⟩)
 ·refine vs ?_
  exact .inl ⟨hi,rfl,rfl⟩
 ·have qV:=(List.getElem?_eq_some_iff.1 hx).1
  have Ff:=hi.1
  have fl:=lJ cs
  obtain⟨⟨fb,nb,ns,mb,a1,a2,a3,a4,a5,a6,a7,a8⟩,h2,h3,h4,h5⟩:=b1
  have hmg:=hm (rt x.1.toNat)
  refine v1 (ae a1) ?_
  refine⟨by omega,?_⟩
  refine v1 a2 ?_
  refine⟨by omega,?_⟩
  rw[show bq (cH cs) (i.toNat*3) (aJ (Value.agg #[Value.int .i64 0,Value.int .i64 0,Value.int .u64 0]))=cH (cs.set i.toNat (0,0,0))from I9 cs i.toNat (0,0,0) (by omega)]
  have e2:ai (fun x=>x=fb) H1 (H1.wr fb (cH (cs.set i.toNat (0,0,0)))):=(ai.refl (fun x=>x=fb) _).wr (fun _=>rfl) _
  have c1:=e2.own a1 a6.1
  have c2:(H1.wr fb (cH (cs.set i.toNat (0,0,0)))).own fb=_:=aj a2
  have c3:=a3.ext e2 (Ne.symm a7.1) (Ne.symm a7.2.1)
  have c4:=a4.ext e2 (Ne.symm a7.2.2)
  refine v3 (ae c1) c4.look EC ?_
  rw[wrap64 (by omega) (by omega)]
  refine c4.Yc fun H2 m2 e3=>?_
  rw[Lr]at m2
  have d1:=e3.own c1 a6.2.2.2
  have hs:dL (cX aX (rt x.1.toNat) (dL aX (rt x.1.toNat) - 1)) (rt x.1.toNat)=dL aX (rt x.1.toNat) - 1:=by simp[dL,cX]
  refine v4 (ae d1) m2.look EC hs ?_
  have Hu:ai S H1 H2:=(e2.mono fun x _ hx=>hx▸a5.2.1).trans (e3.mono fun x _ hx=>hx▸a5.2.2.2.2)
  refine am.dec (fun h0=>?_) (fun h0=>?_)<;>refine v1 (ae d1) ?_
  ·refine m2.del fun H3 m3 e4=>?_
   rw[Ls]at m3
   refine vs ?_
   refine .inr ⟨hi,rfl,x,hx,?_,(b2.trans Hu).trans (e4.mono fun x _ hx=>hx▸a5.2.2.2.2)⟩
   rw[if_pos h0]
   exact⟨⟨fb,nb,ns,mb,by rw[List.length_set];exact e4.own d1 a6.2.2.2,(e4.own (e3.own c2 a7.2.2) a7.2.2),(c3.ext e3 a8.1 a8.2).ext e4 a8.1 a8.2,m3,a5,a6,a7,a8⟩,h2,h3,by rw[List.length_set];exact h4,fun x hx=>Nat.lt_of_lt_of_le (h5 x hx) (Nat.le_trans Hu.size e4.size)⟩
  ·refine .inr ⟨hi,rfl,x,hx,?_,b2.trans Hu⟩
   rw[if_neg h0]
   exact⟨⟨fb,nb,ns,mb,by rw[List.length_set];exact d1,e3.own c2 a7.2.2,c3.ext e3 a8.1 a8.2,m2,a5,a6,a7,a8⟩,h2,h3,by rw[List.length_set];exact h4,fun x hx=>Nat.lt_of_lt_of_le (h5 x hx) Hu.size⟩
theorem M9(cs:List Ce)(i:Nat)(x:Ce)(k s:Int)(hx:cs[i]? =some x):bq (cH cs) (i*3+1) [i64 k,u64 s]=cH (cs.set i (x.1,k,s)):=by
 simp only[bq]
 induction cs generalizing i with
 |nil=>simp at hx
 |cons a r ih=>
  have e:cH (a::r)=i64 a.1::i64 a.2.1::u64 a.2.2::cH r:=rfl
  cases i with
  |zero=>
   simp at hx
   subst hx
   rfl
  |succ i=>
   have e2:cH ((a::r).set (i+1) (x.1,k,s))=i64 a.1::i64 a.2.1::u64 a.2.2::cH (r.set i (x.1,k,s)):=rfl
   rw[e,e2,show(i+1)*3+1=i*3+1+1+1+1 by omega]
   simp only[List.set_cons_succ]
   rw[ih i (by simpa using hx)]
theorem DM{H:Hp}{c:Nat}{S:Nat→Prop}{st:Int}{cs:List Ce}{len:Nat}{rt:Nat→Nat}{aX:Int→Option Int}(h:bI H c S st cs len rt aX)(i k s:Int):
  ah Tryz.prog ix [ptr c,i64 i,vN k s] H fun v H'=>ax (
   (¬ (cY cs i∧∀x,cs[i.toNat]? =some x→¬gW x.2.1 x.2.2 k s)∧v= .bool false∧bI H' c S st cs len rt aX∧ay H H')∨
   (cY cs i∧v= .bool true∧∃x,cs[i.toNat]? =some x∧¬gW x.2.1 x.2.2 k s∧bI H' c S st (cs.set i.toNat (x.1,k,s)) len rt aX∧ai S H H')):=by
 have e0:ay H (H.new 224 [i64 k,u64 s]):=(ai.refl _ _).new _ _
 have h':=h.ext e0 (fun _ _ h=>h)
 refine bc yK ⟨rfl,?_⟩
 simp(disch:=(first|omega| (simp only[Zs]<;>omega)|fail)) only[go_sem, ↓reduceIte,Zv,iE,vN]
 refine(fL h' i).mono ?_
 rintro _ _ ⟨rfl,rfl⟩
 refine vs ?_
 refine am.dec (fun hi=>?_) (fun hi=>?_)<;>refine vs ?_
 ·obtain⟨Ff,x,hx,ie⟩:=id hi
  have qV:=(List.getElem?_eq_some_iff.1 hx).1
  obtain⟨x1,x2,x3,x4⟩:=xQ hx
  have fl:=lJ cs
  obtain⟨⟨fb,nb,ns,mb,a1,a2,a3,a4,a5,a6,a7,a8⟩,h2,h3,h4,h5⟩:=id h'
  refine v1 (ae a1) ?_
  refine⟨by omega,?_⟩
  refine v1 (ae a2) ?_
  refine⟨by omega,?_⟩
  refine v1 x4 ?_
  refine(Fb x.2.1 x.2.2 k s _).mono ?_
  rintro _ H2 ⟨rfl,hf⟩
  have g1:=hf.own a1 (fun h=>h)
  have g2:=hf.own a2 (fun h=>h)
  have hr:=hf.own (aG H 224 [i64 k,u64 s]) (fun h=>h)
  refine vs ?_
  refine am.dec (fun gm=>?_) (fun gm=>?_)<;>refine vs ?_
  ·exact .inl ⟨fun hc=>hc.2 x hx gm,rfl,h'.ext hf (fun _ _ h=>h),e0.trans hf⟩
  ·refine v2 (ae g1) (ae hr) ?_
   refine⟨by omega,?_⟩
   refine v3 (ae g1) (ae hr) g2 ?_
   refine⟨by omega,?_⟩
   refine vs ?_
   have TF:((cH cs).set (i.toNat*3+1) (i64 k)).set (i.toNat*3+1+1) (u64 s)=cH (cs.set i.toNat (x.1,k,s)):=M9 cs i.toNat x k s hx
   rw[TF]
   have e3:ai (fun x=>x=fb) H2 (H2.wr fb (cH (cs.set i.toNat (x.1,k,s)))):=(ai.refl (fun x=>x=fb) _).wr (fun _=>rfl) _
   refine .inr ⟨hi,rfl,x,hx,gm,⟨⟨fb,nb,ns,mb,by rw[List.length_set];exact e3.own g1 a6.1,aj g2,(a3.ext hf (fun h=>h) (fun h=>h)).ext e3 (Ne.symm a7.1) (Ne.symm a7.2.1),(a4.ext hf (fun h=>h)).ext e3 (Ne.symm a7.2.2),a5,a6,a7,a8⟩,h2,h3,by rw[List.length_set];exact h4,fun x hx=>Nat.lt_of_lt_of_le (h5 x hx) (Nat.le_trans hf.size e3.size)⟩,
    ((e0.trans hf).mono fun _ _ h=>h.elim).trans (e3.mono fun x _ hx=>hx▸a5.2.1)⟩
 ·exact .inl ⟨fun hc=>hi hc.1,rfl,h',e0⟩
structure Nw where
 hs:List Bool
 cs:List Ce
def Nw.has(w:Nw)(h:Int):Prop:=1≤h∧w.hs[h.toNat]? =some true
instance(w:Nw)(h:Int):Decidable (w.has h):=inferInstanceAs (Decidable (_∧_))
def Nw.len(w:Nw)(h:Int):Int:=if 0<h then(w.cs.countP fun c=>decide (c.1=h):Nat)else 0
def Nw.put(w:Nw)(i:Int)(c:Ce):Nw:=⟨w.hs,w.cs.set i.toNat c⟩
def Nw.make(w:Nw):Nw:=⟨w.hs++[true],w.cs⟩
def Nw.ahead(w:Nw)(a b:Int):Bool:=
 decide (cY w.cs a) && decide (cY w.cs b) && (match w.cs[a.toNat]?,w.cs[b.toNat]? with|some x,some y=>decide (AS a b x y)|_,_=>false)
theorem Nw.AT(w:Nw)(h:Int):0≤w.len h∧w.len h≤w.cs.length:=by
 unfold Nw.len
 have:=List.countP_le_length (p:=fun c:Ce=>decide (c.1=h)) (l:=w.cs)
 split<;>omega
structure qi(w:Nw)(cs:List Ce)(len:Nat)(rt:Nat→Nat)(aX:Int→Option Int):Prop where
 hl:w.hs.length=len
 h0:w.hs[0]? =some false
 hh:∀h,1≤h→h<len→w.hs[h]? =some (decide (rt h=h))
 cl:w.cs=cs.map fun c=>(if 0<c.1 then((rt c.1.toNat:Nat):Int)else 0,c.2)
 lt:∀c∈cs,0≤c.1∧c.1<len
 mn:∀h:Int,dL aX h=w.len h
 low:∀i,i<len→rt i<len
 Lf:∀i,i<len→rt (rt i)=rt i
 nz:∀i,i<len→rt i=0→i=0
def bv(H:Hp)(c:Nat)(S:Nat→Prop)(st:Int)(w:Nw):Prop:=∃cs len rt aX,bI H c S st cs len rt aX∧qi w cs len rt aX
theorem bv.ext{H H':Hp}{c:Nat}{S T:Nat→Prop}{st:Int}{w:Nw}(h:bv H c S st w)(e:ai T H H')(hd:∀x,S x→¬T x):bv H' c S st w:=by
 obtain⟨cs,len,rt,aX,h1,h2⟩:=h
 exact⟨cs,len,rt,aX,h1.ext e hd,h2⟩
theorem bv.fresh{H H':Hp}{c:Nat}{S:Nat→Prop}{st:Int}{w:Nw}(h:bv H c S st w)(e:ay H H'):bv H' c S st w:=h.ext e fun _ _ h=>h
theorem bv.slt{H:Hp}{c:Nat}{S:Nat→Prop}{st:Int}{w:Nw}(h:bv H c S st w):∀x,S x→x<H.size:=by
 obtain⟨cs,len,rt,aX,h1,h2⟩:=h
 exact h1.slt
theorem bv.Fc{H:Hp}{c:Nat}{S:Nat→Prop}{st:Int}{w:Nw}(h:bv H c S st w):w.cs.length≤65536:=by
 obtain⟨cs,len,rt,aX,h1,h2⟩:=h
 rw[h2.cl,List.length_map]
 exact h1.Fc
theorem bv.st{H:Hp}{c:Nat}{S:Nat→Prop}{st:Int}{w:Nw}(h:bv H c S st w):0≤st∧st≤4611686018427387904:=by
 obtain⟨cs,len,rt,aX,h1,h2⟩:=h
 exact⟨h1.st0,h1.VW⟩
theorem qi.MC{w:Nw}{cs:List Ce}{len:Nat}{rt:Nat→Nat}{aX:Int→Option Int}(h:qi w cs len rt aX)(i:Int):cY w.cs i↔cY cs i:=by
 unfold cY
 rw[h.cl]
 simp only[List.getElem?_map]
 constructor
 ·rintro⟨h0,c,hc,hp⟩
  cases hx:cs[i.toNat]? with
  |none=>rw[hx]at hc;cases hc
  |some x=>
   rw[hx]at hc
   simp only[Option.map_some,Option.some.injEq]at hc
   subst hc
   refine⟨h0,x,rfl,?_⟩
   by_cases ie:0<x.1
   ·exact ie
   ·simp[ie]at hp
 ·rintro⟨h0,x,hx,hp⟩
  refine⟨h0,_,by rw[hx];rfl,?_⟩
  have aR:=h.lt x (List.mem_of_getElem? hx)
  simp only[if_pos hp]
  have hnz:rt x.1.toNat≠0:=fun e=>by have:=h.nz _ (by omega) e;omega
  omega
theorem qi.get{w:Nw}{cs:List Ce}{len:Nat}{rt:Nat→Nat}{aX:Int→Option Int}(h:qi w cs len rt aX){i:Nat}{x:Ce}(hx:cs[i]? =some x):w.cs[i]? =some (if 0<x.1 then((rt x.1.toNat:Nat):Int)else 0,x.2):=by
 rw[h.cl,List.getElem?_map,hx];rfl
theorem qi.VX{w:Nw}{cs:List Ce}{len:Nat}{rt:Nat→Nat}{aX:Int→Option Int}(h:qi w cs len rt aX)(g:Int):w.has g↔(0<g∧g<len∧rt g.toNat=g.toNat):=by
 unfold Nw.has
 constructor
 ·rintro⟨h1,h2⟩
  have aR:=(List.getElem?_eq_some_iff.1 h2).1
  rw[h.hl]at aR
  rw[h.hh g.toNat (by omega) aR]at h2
  injection h2 with h2
  exact⟨by omega,by omega,of_decide_eq_true h2⟩
 ·rintro⟨h1,h2,h3⟩
  exact⟨by omega,by rw[h.hh g.toNat (by omega) (by omega),decide_eq_true h3]⟩
theorem oz(cap:Int)(H:Hp):ah Tryz.prog wh [i64 cap] H fun v H'=>ax (
  ay H H'∧((¬ (0≤cap∧cap≤65536)∧v= .tuple [.pointer none,i64 31].toArray)∨
   (0≤cap∧cap≤65536)∧∃c S,v= .tuple [ptr c,i64 0].toArray∧bv H' c S 0 ⟨[false],List.replicate cap.toNat (0,0,0)⟩∧(∀x,S x→H.size≤x))):=by
 refine(Gn cap H).mono ?_
 rintro _ H1 ⟨f,⟨h,rfl⟩| ⟨h,c,S,rfl,h1,h2⟩⟩
 ·exact⟨f,.inl ⟨h,rfl⟩⟩
 ·refine⟨f,.inr ⟨h,c,S,rfl,⟨_,_,_,_,h1,⟨rfl,rfl,fun h h1 h2=>by omega,?_,fun c hc=>?_,fun h=>?_,fun i hi=>hi,fun i hi=>rfl,fun i hi h=>h⟩⟩,h2⟩⟩
  ·simp
  ·rw[List.eq_of_mem_replicate hc];exact⟨by omega,by simp⟩
  ·unfold Nw.len dL
   split
   ·simp only[Option.getD_none,List.countP_replicate]
    rw[if_neg (by simp;omega)];rfl
   ·rfl
theorem jq{H:Hp}{c:Nat}{S:Nat→Prop}{st:Int}{w:Nw}(h:bv H c S st w)(i:Int):
  ah Tryz.prog bF [ptr c,i64 i] H fun v H'=>ax (v= .bool (decide (w.has i))∧H=H'):=by
 obtain⟨cs,len,rt,aX,h1,h2⟩:=h
 refine(w9 h1 i).mono ?_
 rintro _ _ ⟨rfl,rfl⟩
 exact⟨congrArg Value.bool (by rw[decide_eq_decide,h2.VX]),rfl⟩
theorem u9{H:Hp}{c:Nat}{S:Nat→Prop}{st:Int}{w:Nw}(h:bv H c S st w)(i:Int):
  ah Tryz.prog kP [ptr c,i64 i] H fun v H'=>ax (v=i64 (w.len i)∧H=H'):=by
 obtain⟨cs,len,rt,aX,h1,h2⟩:=h
 refine(Gp h1 i).mono ?_
 rintro _ _ ⟨rfl,rfl⟩
 exact⟨by rw[h2.mn],rfl⟩
theorem mR{H:Hp}{c:Nat}{S:Nat→Prop}{st:Int}{w:Nw}(h:bv H c S st w):
  ah Tryz.prog dA [ptr c] H fun v H'=>ax (
   (w.hs.length=65537∧v=i64 0∧H=H')∨
   (w.hs.length≠65537∧v=i64 w.hs.length∧∃S',bv H' c S' st w.make∧ai S H H'∧∀x,S' x→S x∨H.size≤x)):=by
 obtain⟨cs,len,rt,aX,h1,h2⟩:=h
 refine(Fe h1).mono ?_
 have hl:=h2.hl
 rintro _ H1 (⟨e,rfl,rfl⟩| ⟨e,rfl,S',g1,g2,g3⟩)
 ·exact .inl ⟨by omega,rfl,rfl⟩
 ·refine .inr ⟨by omega,by rw[hl],S',⟨_,_,_,_,g1,?_⟩,g2,g3⟩
  have iw:0<w.hs.length:=(List.getElem?_eq_some_iff.1 h2.h0).1
  refine⟨by simp[Nw.make,hl],?_,fun h a1 a2=>?_,?_,fun c hc=>by have:=h2.lt c hc;omega,h2.mn,fun i hi=>?_,fun i hi=>?_,fun i hi hz=>?_⟩
  ·show(w.hs++[true])[0]? =some false
   rw[List.getElem?_append_left iw];exact h2.h0
  ·show(w.hs++[true])[h]? =_
   by_cases he:h=len
   ·subst he
    rw[List.getElem?_append_right (by omega),hl]
    simp
   ·rw[List.getElem?_append_left (by omega),h2.hh h a1 (by omega),if_neg he]
  ·show w.cs=_
   rw[h2.cl]
   apply List.map_congr_left
   intro x hx
   have:=h2.lt x hx
   by_cases h0:0<x.1
   ·simp only[if_pos h0];rw[if_neg (by omega)]
   ·simp only[if_neg h0]
  ·by_cases he:i=len
   ·simp[he]
   ·have:=h2.low i (by omega);simp only[if_neg he];omega
  ·by_cases he:i=len
   ·simp[he]
   ·have:=h2.low i (by omega)
    simp only[if_neg he]
    rw[if_neg (by omega)]
    exact h2.Lf i (by omega)
  ·by_cases he:i=len
   ·simp only[if_pos he]at hz;omega
   ·simp only[if_neg he]at hz;exact h2.nz i (by omega) hz
theorem Ip{α:Type}(p:α→Bool):∀ (l:List α) (i:Nat) (x y:α),l[i]? =some x→(l.set i y).countP p+(if p x=true then 1 else 0)=l.countP p+(if p y=true then 1 else 0):=by
 intro l
 induction l with
 |nil=>intro i x y h;simp at h
 |cons a l ih=>
  intro i x y h
  cases i with
  |zero=>
   simp only[List.getElem?_cons_zero,Option.some.injEq]at h
   subst h
   simp only[List.set_cons_zero,List.countP_cons]
   omega
  |succ i=>
   have:=ih i x y (by simpa using h)
   simp only[List.set_cons_succ,List.countP_cons]
   omega
theorem Nw.ii{w:Nw}{i:Int}{x y:Ce}(hx:w.cs[i.toNat]? =some x)(h:Int):(w.put i y).len h=w.len h - (if 0<h∧x.1=h then 1 else 0)+(if 0<h∧y.1=h then 1 else 0):=by
 unfold Nw.len Nw.put
 by_cases h0:0<h
 ·simp only[if_pos h0,h0,true_and]
  have:=Ip (fun c:Ce=>decide (c.1=h)) w.cs i.toNat x y hx
  simp only[decide_eq_true_eq]at this
  split at this<;>split at this<;>simp_all<;>omega
 ·simp only[if_neg h0,h0,false_and,if_false];rfl
theorem oA{H:Hp}{c:Nat}{S:Nat→Prop}{st:Int}{w:Nw}(h:bv H c S st w)(g i k s:Int):
  ah Tryz.prog kQ [ptr c,i64 g,i64 i,vN k s] H fun v H'=>ax (
   (¬ (w.has g∧(0≤i∧i<w.cs.length)∧¬cY w.cs i)∧v= .bool false∧bv H' c S st w∧ai S H H')∨
   ((w.has g∧(0≤i∧i<w.cs.length)∧¬cY w.cs i)∧v= .bool true∧bv H' c S st (w.put i (g,k,s))∧ai S H H')):=by
 obtain⟨cs,len,rt,aX,h1,h2⟩:=h
 have qQ:w.cs.length=cs.length:=by rw[h2.cl,List.length_map]
 have bm:=w.AT g
 have zh:=h1.Fc
 refine(Gq h1 g i k s (by rw[h2.mn];omega)).mono ?_
 rintro _ H1 (⟨e,rfl,g1,g2⟩| ⟨e,rfl,g1,g2⟩)
 ·exact .inl ⟨by rw[h2.VX,h2.MC,qQ];exact e,rfl,⟨_,_,_,_,g1,h2⟩,g2⟩
 ·refine .inr ⟨by rw[h2.VX,h2.MC,qQ];exact e,rfl,⟨_,_,_,_,g1,?_⟩,g2⟩
  obtain⟨x,hx⟩:∃x,cs[i.toNat]? =some x:=⟨_,List.getElem?_eq_getElem (by omega)⟩
  have ie:¬0<x.1:=fun ie=>e.2.2 ⟨e.2.1.1,x,hx,ie⟩
  have QH:=h2.get hx
  rw[if_neg ie]at QH
  refine⟨h2.hl,h2.h0,h2.hh,?_,fun y hy=>?_,fun j=>?_,h2.low,h2.Lf,h2.nz⟩
  ·show w.cs.set i.toNat _=_
   rw[h2.cl,List.map_set]
   simp only[if_pos e.1.1,e.1.2.2]
   congr 3
   omega
  ·rcases List.mem_or_eq_of_mem_set hy with hy|rfl
   ·exact h2.lt y hy
   ·exact⟨by have:=e.1.1;simp only;omega,e.1.2.1⟩
  ·rw[Nw.ii QH]
   by_cases hj:j=g
   ·subst hj
    have hg:=e.1.1
    rw[if_neg (by rintro⟨_,h⟩;omega),if_pos ⟨hg,rfl⟩,←h2.mn]
    simp[dL]
   ·rw[if_neg (by rintro⟨_,h⟩;omega),if_neg (by rintro⟨_,h⟩;exact hj h.symm),←h2.mn]
    simp[dL,hj]
theorem eT{H:Hp}{c:Nat}{S:Nat→Prop}{st:Int}{w:Nw}(h:bv H c S st w)(i:Int):
  ah Tryz.prog jv [ptr c,i64 i] H fun v H'=>ax (
   (¬cY w.cs i∧v= .tuple [i64 0,.bool false].toArray∧H=H')∨
   (cY w.cs i∧∃x,w.cs[i.toNat]? =some x∧v= .tuple [i64 x.1,.bool true].toArray∧bv H' c S st w∧ai S H H')):=by
 obtain⟨cs,len,rt,aX,h1,h2⟩:=h
 refine(u0 h1 (fun x hx=>(h2.lt x hx).2) i).mono ?_
 rintro _ H1 (⟨e,rfl,rfl⟩| ⟨e,x,hx,rfl,g1,g2⟩)
 ·exact .inl ⟨by rw[h2.MC];exact e,rfl,rfl⟩
 ·obtain⟨e0,x',xa,hp⟩:=id e
  rw[hx]at xa
  injection xa with xa
  subst xa
  have hg:=h2.get hx
  rw[if_pos hp]at hg
  exact .inr ⟨by rw[h2.MC];exact e,_,hg,rfl,⟨_,_,_,_,g1,h2⟩,g2⟩
theorem lK{H:Hp}{c:Nat}{S:Nat→Prop}{st:Int}{w:Nw}(h:bv H c S st w)(i:Int):
  ah Tryz.prog bk [ptr c,i64 i] H fun v H'=>ax (bv H' c S st w∧ay H H'∧(
   (¬cY w.cs i∧v= .tuple [vN 0 0,.bool false].toArray)∨
   (cY w.cs i∧∃x,w.cs[i.toNat]? =some x∧v= .tuple [vN x.2.1 x.2.2,.bool true].toArray))):=by
 obtain⟨cs,len,rt,aX,h1,h2⟩:=h
 refine(DL h1 i).mono ?_
 rintro _ H1 ⟨g1,g2,⟨e,rfl⟩| ⟨e,x,hx,rfl⟩⟩
 ·exact⟨⟨_,_,_,_,g1,h2⟩,g2,.inl ⟨by rw[h2.MC];exact e,rfl⟩⟩
 ·exact⟨⟨_,_,_,_,g1,h2⟩,g2,.inr ⟨by rw[h2.MC];exact e,_,h2.get hx,rfl⟩⟩
theorem mS{H:Hp}{c:Nat}{S:Nat→Prop}{st:Int}{w:Nw}(h:bv H c S st w)(i:Int):
  ah Tryz.prog jw [ptr c,i64 i] H fun v H'=>ax (
   (¬cY w.cs i∧v= .bool false∧H=H')∨
   (cY w.cs i∧v= .bool true∧bv H' c S st (w.put i (0,0,0))∧ai S H H')):=by
 obtain⟨cs,len,rt,aX,h1,h2⟩:=h
 have zh:=h1.Fc
 have qQ:w.cs.length=cs.length:=by rw[h2.cl,List.length_map]
 refine(Fg h1 (fun x hx=>(h2.lt x hx).2) i (fun j=>by rw[h2.mn];have:=w.AT j;omega)).mono ?_
 rintro _ H1 (⟨e,rfl,rfl⟩| ⟨e,rfl,x,hx,g1,g2⟩)
 ·exact .inl ⟨by rw[h2.MC];exact e,rfl,rfl⟩
 ·obtain⟨e0,x',xa,hp⟩:=id e
  rw[hx]at xa
  injection xa with xa
  subst xa
  have hg:=h2.get hx
  rw[if_pos hp]at hg
  have aR:=h2.lt x (List.mem_of_getElem? hx)
  have hnz:rt x.1.toNat≠0:=fun e=>by have:=h2.nz _ (by omega) e;omega
  refine .inr ⟨by rw[h2.MC];exact e,rfl,⟨_,_,_,_,g1,h2.hl,h2.h0,h2.hh,?_,fun y hy=>?_,fun j=>?_,h2.low,h2.Lf,h2.nz⟩,g2⟩
  ·show w.cs.set i.toNat _=_
   rw[h2.cl,List.map_set]
   rfl
  ·rcases List.mem_or_eq_of_mem_set hy with hy|rfl
   ·exact h2.lt y hy
   ·exact⟨by simp only;omega,by simp only;omega⟩
  ·have hp:=Nw.ii (y:=((0:Int),(0:Int),(0:Int))) hg j
   simp only at hp
   have hm:=h2.mn j
   by_cases hj:j=rt x.1.toNat
   ·subst hj
    rw[if_pos ⟨by omega,rfl⟩,if_neg (by rintro⟨h1,h2⟩;omega)]at hp
    rw[hp,←hm]
    split
    ·rename_i hz
     simp only[dL]at hz
     simp only[dL,ur,if_true,Option.getD_none]
     omega
    ·simp[dL,cX]
   ·rw[if_neg (by rintro⟨_,h⟩;exact hj h.symm),if_neg (by rintro⟨h1,h2⟩;omega)]at hp
    rw[hp,←hm]
    split
    ·simp[dL,cX,ur,hj]
    ·simp[dL,cX,hj]
theorem lL{H:Hp}{c:Nat}{S:Nat→Prop}{st:Int}{w:Nw}(h:bv H c S st w)(i k s:Int):
  ah Tryz.prog ix [ptr c,i64 i,vN k s] H fun v H'=>ax (
   (¬ (cY w.cs i∧∀x,w.cs[i.toNat]? =some x→¬gW x.2.1 x.2.2 k s)∧v= .bool false∧bv H' c S st w∧ay H H')∨
   (cY w.cs i∧v= .bool true∧∃x,w.cs[i.toNat]? =some x∧¬gW x.2.1 x.2.2 k s∧bv H' c S st (w.put i (x.1,k,s))∧ai S H H')):=by
 obtain⟨cs,len,rt,aX,h1,h2⟩:=h
 refine(DM h1 i k s).mono ?_
 rintro _ H1 (⟨e,rfl,g1,g2⟩| ⟨e,rfl,x,hx,hl,g1,g2⟩)
 ·refine .inl ⟨fun hc=>e ⟨(h2.MC i).1 hc.1,fun x hx=>?_⟩,rfl,⟨_,_,_,_,g1,h2⟩,g2⟩
  have:=hc.2 _ (h2.get hx)
  exact this
 ·have hg:=h2.get hx
  refine .inr ⟨(h2.MC i).2 e,rfl,_,hg,hl,⟨_,_,_,_,g1,h2.hl,h2.h0,h2.hh,?_,fun y hy=>?_,fun j=>?_,h2.low,h2.Lf,h2.nz⟩,g2⟩
  ·show w.cs.set i.toNat _=_
   rw[h2.cl,List.map_set]
  ·rcases List.mem_or_eq_of_mem_set hy with hy|rfl
   ·exact h2.lt y hy
   ·exact h2.lt x (List.mem_of_getElem? hx)
  ·rw[Nw.ii hg,←h2.mn]
   simp only
   split<;>omega
theorem lM{H:Hp}{c:Nat}{S:Nat→Prop}{st:Int}{w:Nw}(h:bv H c S st w)(a b:Int):
  ah Tryz.prog cP [ptr c,i64 a,i64 b] H fun v H'=>ax (v= .bool (w.ahead a b)∧bv H' c S (if cY w.cs a∧cY w.cs b then gX st 1 else st) w∧ai S H H'):=by
 obtain⟨cs,len,rt,aX,h1,h2⟩:=h
 refine(DK h1 a b).mono ?_
 rintro _ H1 (⟨e,rfl,rfl⟩| ⟨e,x,y,hx,hy,rfl,g1,g2⟩)
 ·have e':¬ (cY w.cs a∧cY w.cs b):=fun hc=>e ⟨(h2.MC a).1 hc.1,(h2.MC b).1 hc.2⟩
  refine⟨congrArg Value.bool ?_,by rw[if_neg e'];exact⟨_,_,_,_,h1,h2⟩,ai.refl _ _⟩
  unfold Nw.ahead
  by_cases ha:cY w.cs a
  ·by_cases hb:cY w.cs b
   ·exact absurd ⟨ha,hb⟩ e'
   ·simp[hb]
  ·simp[ha]
 ·have ha:=(h2.MC a).2 e.1
  have hb:=(h2.MC b).2 e.2
  refine⟨congrArg Value.bool ?_,by rw[if_pos ⟨ha,hb⟩];exact⟨_,_,_,_,g1,h2⟩,g2⟩
  unfold Nw.ahead
  rw[decide_eq_true ha,decide_eq_true hb,h2.get hx,h2.get hy]
  rfl
theorem bv.Hv{H:Hp}{c:Nat}{S:Nat→Prop}{st:Int}{w:Nw}(h:bv H c S st w):w.hs.length≤65537:=by
 obtain⟨cs,len,rt,aX,⟨⟨fb,nb,ns,mb,_,_,g,_⟩,_⟩,h2⟩:=h
 have:=g.le
 rw[h2.hl]
 omega
theorem bv.home{H:Hp}{c:Nat}{S:Nat→Prop}{st:Int}{w:Nw}(h:bv H c S st w):∀x∈w.cs,0≤x.1∧x.1<w.hs.length:=by
 obtain⟨cs,len,rt,aX,h1,h2⟩:=h
 intro x hx
 rw[h2.cl]at hx
 obtain⟨y,hy,rfl⟩:=List.mem_map.1 hx
 have h3:=h2.lt y hy
 rw[h2.hl]
 have h4:=h2.low y.1.toNat (by omega)
 have h5:0<len:=by
  have:=(List.getElem?_eq_some_iff.1 h2.h0).1
  rw[h2.hl]at this
  exact this
 simp only
 split<;>omega
theorem bv.live{H:Hp}{c:Nat}{S:Nat→Prop}{st:Int}{w:Nw}(h:bv H c S st w):∀x∈w.cs,0<x.1→w.hs[x.1.toNat]? =some true:=by
 obtain⟨cs,len,rt,aX,h1,h2⟩:=h
 intro x hx
 rw[h2.cl]at hx
 obtain⟨y,hy,rfl⟩:=List.mem_map.1 hx
 have h3:=h2.lt y hy
 simp only
 split
 ·intro h0
  have h4:=h2.low y.1.toNat (by omega)
  have h5:=h2.Lf y.1.toNat (by omega)
  rw[show((rt y.1.toNat:Nat):Int).toNat=rt y.1.toNat by omega,h2.hh _ (by omega) h4,h5]
  simp
 ·intro h0;omega
theorem ez.RC{H:Hp}{size n:Nat}{v:Value}{xs:List Value}(h:ez H size v n xs):∃a c,v= .slice a n c:=by
 obtain⟨_,⟨rfl,a,c,rfl⟩| ⟨b,o,c,l,rfl,_⟩⟩:=h
 ·exact⟨_,_,rfl⟩
 ·exact⟨_,_,rfl⟩
theorem Ja(k s k' s':Int):(Lp k s k' s'<0↔gW k s k' s')∧(Lp k s k' s'=0↔(k=k'∧s=s')):=by
 refine⟨Lq k s k' s',?_⟩
 unfold Lp Yb Cn
 simp only[List.find?]
 by_cases h1:k<k'
 ·simp[h1];omega
 ·by_cases h2:k'<k
  ·simp[h1,h2];omega
  ·by_cases h3:s<s'
   ·simp[h1,h2,h3];omega
   ·by_cases h4:s'<s
    ·simp[h1,h2,h3,h4];omega
    ·simp[h1,h2,h3,h4];omega
theorem Na(a b:Int)(x y:Ce):AS a b x y↔(gW x.2.1 x.2.2 y.2.1 y.2.2∨(x.2.1=y.2.1∧x.2.2=y.2.2)∧a<b):=by
 unfold AS
 rw[(Ja _ _ _ _).1,(Ja _ _ _ _).2]
structure dt(H:Hp)(r:Nat)(S:Nat→Prop)(d:Int)(l:List Int)(pl:Int→Option Int):Prop where
 rep:∃sv fp mb,H.own r=some [i64 d,sv,.map (some mb)]∧Sl H 1 sv l.length (l.map i64) fp∧ou H mb (fun i=>(pl i).map i64)∧
  S r∧S mb∧r≠mb∧(∀b,fp=some b→S b∧b≠r∧b≠mb)
 slt:∀x,S x→x<H.size
theorem dt.ext{H H':Hp}{r:Nat}{S T:Nat→Prop}{d:Int}{l:List Int}{pl:Int→Option Int}(h:dt H r S d l pl)(e:ai T H H')(hd:∀x,S x→¬T x):dt H' r S d l pl:=by
 obtain⟨⟨sv,fp,mb,a1,a2,a3,s1,s2,s3,s4⟩,h2⟩:=h
 exact⟨⟨sv,fp,mb,e.own a1 (hd _ s1),a2.ext e (fun b hb=>hd _ (s4 b hb).1),a3.ext e (hd _ s2),s1,s2,s3,s4⟩,fun x hx=>Nat.lt_of_lt_of_le (h2 x hx) e.size⟩
theorem zy(d:Int)(H:Hp):ah Tryz.prog MR [i64 d] H fun v H'=>ax (
  ay H H'∧((¬cT d∧v= .tuple [.pointer none,i64 22].toArray)∨
   cT d∧∃r S,v= .tuple [ptr r,i64 0].toArray∧dt H' r S d [] (fun _=>none)∧∀x,S x→H.size≤x)):=by
 refine bc MW ⟨rfl,?_⟩
 refine v1 Ax.eq_1 ?_
 refine(qd d H).mono ?_
 rintro _ _ ⟨rfl,rfl⟩
 refine vs ?_
 refine am.dec (fun h=>?_) (fun h=>?_)<;>refine vs ?_
 ·have e1:ay H (H.fX.new 310 [i64 d,.slice none 0 0,.map (some H.size)]):=((ai.refl _ _).fX).new _ _
  refine⟨e1,.inr ⟨h,H.size+1,fun x=>H.size≤x∧x<H.size+1+1,rfl,⟨⟨_,none,H.size,bC (by simp only[kq]),Sl.nil _ _,?_,?_,?_,?_,?_⟩,?_⟩,fun x hx=>hx.1⟩⟩
  ·exact(ou.new H).ext ((ai.refl (fun _=>False) _).new _ _) (fun h=>h)
  ·omega
  ·omega
  ·omega
  ·intro b hb;cases hb
  ·intro x hx
   simp only[au,kq]
   exact hx.2
 ·exact⟨ai.refl _ _,.inl ⟨h,rfl⟩⟩
theorem JW{H:Hp}{r:Nat}{S:Nat→Prop}{d:Int}{l:List Int}{pl:Int→Option Int}(h:dt H r S d l pl)(i:Int):
  ah Tryz.prog HN [ptr r,i64 i] H fun v H'=>ax (v=M2 (if 0≤i then l[i.toNat]? else none)∧H=H'):=by
 obtain⟨⟨sv,fp,mb,a1,a2,a3,s1,s2,s3,s4⟩,h2⟩:=h
 refine bc HY ⟨rfl,?_⟩
 refine v1 rL.eq_1 ?_
 refine am.dec (fun h=>?_) (fun h=>?_)<;>refine v1 (ae a1) ?_
 ·exact⟨by rw[if_neg (by omega)];rfl,rfl⟩
 ·cases fp with
  |none=>
   obtain⟨_,e,rfl⟩:=a2
   have hl:l=[]:=List.length_eq_zero_iff.1 e
   subst hl
   refine vs ?_
   refine am.cj (by simp only[decide_eq_true_eq];omega) ?_
   refine vs ?_
   exact⟨by rw[if_pos (by omega)];rfl,rfl⟩
  |some b=>
   obtain⟨_,l',c,rfl,a4,a5,a6,a7⟩:=a2
   refine vs ?_
   refine am.dec (fun h3=>?_) (fun h3=>?_)<;>refine v1 (ae a1) ?_
   ·exact⟨by rw[if_pos (by omega),List.getElem?_eq_none (by omega)];rfl,rfl⟩
   ·obtain⟨x,hx⟩:∃x,l[i.toNat]? =some x:=⟨_,List.getElem?_eq_getElem (by omega)⟩
    have Gr:l'[i.toNat]? =some (i64 x):=by
     have h1:(l.map i64)[i.toNat]? =some (i64 x):=by simp[hx]
     rw[←a7,List.getElem?_take_of_lt (by omega)]at h1
     exact h1
    refine⟨by omega,?_⟩
    refine v3 (ae a4) Nat.mul_one Gr ?_
    exact⟨by rw[if_pos (by omega),hx];rfl,rfl⟩
theorem mZ{H:Hp}{r:Nat}{S:Nat→Prop}{d:Int}{l:List Int}{pl:Int→Option Int}(h:dt H r S d l pl)(i x:Int)(hi:0≤i∧i<l.length):
  ah Tryz.prog pR [ptr r,i64 i,i64 x] H fun v H'=>ax (v= .tuple [].toArray∧dt H' r S d (l.set i.toNat x) (cX pl x i)∧ai S H H'):=by
 obtain⟨⟨sv,fp,mb,a1,a2,a3,s1,s2,s3,s4⟩,h2⟩:=h
 refine bc F9 ⟨rfl,?_⟩
 cases fp with
 |none=>obtain⟨_,e,_⟩:=a2;omega
 |some b=>
  have VJ:=a2
  obtain⟨_,l',c,rfl,a4,a5,a6,a7⟩:=a2
  refine v2 p8.eq_1 (ae a1) ?_
  refine⟨by omega,?_⟩
  refine v2 a4 Nat.mul_one ?_
  refine⟨by omega,?_⟩
  obtain⟨Lt,DN,TL⟩:=s4 b rfl
  have e1:ai (fun z=>z=b) H (H.wr b (l'.set i.toNat (i64 x))):=(ai.refl (fun z=>z=b) _).wr (fun _=>rfl) _
  have b1:=e1.own a1 (Ne.symm DN)
  have b2:=VJ.vP a4 i.toNat (i64 x)
  have b3:=a3.ext e1 (Ne.symm TL)
  refine v1 (ae b1) ?_
  refine b3.Yc fun H2 m2 e2=>?_
  rw[Lr]at m2
  refine vs ?_
  refine⟨rfl,⟨⟨_,some b,mb,by exact e2.own b1 s3,?_,m2,s1,s2,s3,s4⟩,fun z hz=>Nat.lt_of_lt_of_le (h2 z hz) (Nat.le_trans e1.size e2.size)⟩,(e1.mono fun z _ hz=>hz▸Lt).trans (e2.mono fun z _ hz=>hz▸s2)⟩
  rw[List.length_set,List.map_set]
  exact b2.ext e2 (fun z hz=>by injection hz with hz;exact hz▸TL)
structure Nb(ov:Value)(I:Hp→Nat→Prop)(T:Nat→Prop)(lt:Int→Int→Bool)(D:Int→Prop:=fun _=>True):Prop where
 call:∀H n a b,D a→D b→I H n→jf Tryz.prog ov "Ahead" [i64 a,i64 b] H fun v H'=>v= .bool (lt a b)∧I H' (n+1)∧ai T H H'
 nil:PA Tryz.prog (.func (.method "Ahead") #[ov] #[])
 aN:∀H H' n U,I H n→ai U H H'→(∀x,T x→¬U x)→I H' n
 tlt:∀H n,I H n→∀x,T x→x<H.size
structure UpR where
 l:List Int
 pl:Int→Option Int
 at_:Int
 asked:Nat
def gu(lt:Int→Int→Bool)(d x:Int):Nat→List Int→(Int→Option Int)→Int→UpR
 |0,l,pl,i=>⟨l.set i.toNat x,cX pl x i,i,0⟩
 |m+1,l,pl,i=>match bh d i with
  |none=>⟨l.set i.toNat x,cX pl x i,i,0⟩
  |some p=>
   if lt x (l.getD p.toNat 0)=true then
    let r:=gu lt d x m (l.set i.toNat (l.getD p.toNat 0)) (cX pl (l.getD p.toNat 0) i) p
    ⟨r.l,r.pl,r.at_,r.asked+1⟩
   else⟨l.set i.toNat x,cX pl x i,i,1⟩
theorem RD(lt:Int→Int→Bool)(d x:Int):∀ (m m':Nat) (l:List Int) (pl:Int→Option Int) (i:Int),i.toNat≤m→i.toNat≤m'→gu lt d x m l pl i=gu lt d x m' l pl i:=by
 intro m
 induction m with
 |zero=>
  intro m' l pl i h _
  have hn:bh d i=none:=by unfold bh;rw[if_neg (by omega)]
  cases m'<;>simp[gu,hn]
 |succ m ih=>
  intro m' l pl i h h'
  cases hp:bh d i with
  |none=>cases m'<;>simp[gu,hp]
  |some p=>
   have hb:=fz hp
   cases m' with
   |zero=>omega
   |succ m'=>simp only[gu,hp];rw[ih m' _ _ p (by omega) (by omega)]
theorem sY{l:List Int}{i:Nat}{y z:Int}(h:z∈l.set i y):z=y∨z∈l:=(List.mem_or_eq_of_mem_set h).symm
theorem TM(lt:Int→Int→Bool)(d x:Int):∀ (m:Nat) (l:List Int) (pl:Int→Option Int) (i:Int),0≤i→i<l.length→∀z∈(gu lt d x m l pl i).l,z=x∨z∈l:=by
 intro m
 induction m with
 |zero=>intro l pl i _ _ z hz;exact sY hz
 |succ m ih=>
  intro l pl i h0 h1 z hz
  cases hp:bh d i with
  |none=>simp only[gu,hp]at hz;exact sY hz
  |some p=>
   have hb:=fz hp
   simp only[gu,hp]at hz
   split at hz
   ·rcases ih _ _ p (by omega) (by rw[List.length_set];omega) z hz with h|h
    ·exact .inl h
    ·rcases sY h with h|h
     ·rw[h,List.getD_eq_getElem?_getD,List.getElem?_eq_getElem (by omega)]
      exact .inr (List.getElem_mem _)
     ·exact .inr h
   ·exact sY hz
theorem us{ov:Value}{I:Hp→Nat→Prop}{T:Nat→Prop}{lt:Int→Int→Bool}{D:Int→Prop}(ho:Nb ov I T lt D){H:Hp}{r:Nat}{S:Nat→Prop}{d:Int}{l:List Int}{pl:Int→Option Int}
  (h:dt H r S d l pl)(hd:∀x,S x→¬T x){n:Nat}(hI:I H n)(i x:Int)(hi:0≤i∧i<l.length)(hl:l.length≤1000000)(hx:D x:=by trivial)(hD:∀z∈l,D z:=by intros;trivial):
  ah Tryz.prog HO [ptr r,ov,i64 i,i64 x] H fun v H'=>ax (
   let R:=gu lt d x i.toNat l pl i
   v=i64 R.at_∧dt H' r S d R.l R.pl∧I H' (n+R.asked)∧ai (fun z=>S z∨T z) H H'):=by
 refine bc HZ ⟨rfl,?_⟩
 refine v1 rM.eq_1 ?_
 refine bD.intro (fun m env H1=>∃ (l1:List Int) (Co:Int→Option Int) (i1:Int) (k:Nat),env=[(0,ptr r),(1,ov),(2,i64 i1),(3,i64 x)]∧(∀z∈l1,D z)∧m=i1.toNat∧0≤i1∧i1<l1.length∧l1.length=l.length∧
   dt H1 r S d l1 Co∧I H1 (n+k)∧ai (fun z=>S z∨T z) H H1∧
   (gu lt d x i.toNat l pl i).l=(gu lt d x i1.toNat l1 Co i1).l∧(gu lt d x i.toNat l pl i).pl=(gu lt d x i1.toNat l1 Co i1).pl∧(gu lt d x i.toNat l pl i).at_=(gu lt d x i1.toNat l1 Co i1).at_∧
   (gu lt d x i.toNat l pl i).asked=k+(gu lt d x i1.toNat l1 Co i1).asked) i.toNat ⟨l,pl,i,0,rfl,hD,rfl,hi.1,hi.2,rfl,h,hI,ai.refl _ _,rfl,rfl,rfl,by omega⟩ ?_
 rintro m env H1 ⟨l1,Co,i1,k,rfl,US,rfl,i0,il,ll,h1,ZM,e1,u1,u2,u3,u4⟩
 obtain⟨⟨sv,fp,mb,a1,a2,a3,s1,s2,s3,s4⟩,h2⟩:=id h1
 have key:∀o:Option Int,M2 o= .tuple [i64 (o.getD 0),.bool o.isSome].toArray:=by intro o;cases o<;>rfl
 refine v1 (ae a1) ?_
 refine(DE d i1 (by omega) H1).mono ?_
 rintro _ _ ⟨rfl,rfl⟩
 rw[key]
 have stop:∀ (H2:Hp) (k2:Nat),dt H2 r S d l1 Co→I H2 (n+k+k2)→ai (fun z=>S z∨T z) H H2→gu lt d x i1.toNat l1 Co i1=⟨l1.set i1.toNat x,cX Co x i1,i1,k2⟩→
   ah Tryz.prog pR [ptr r,i64 i1,i64 x] H2 fun _ H'=>(i64 i1=i64 (gu lt d x i.toNat l pl i).at_∧dt H' r S d (gu lt d x i.toNat l pl i).l (gu lt d x i.toNat l pl i).pl∧
    I H' (n+(gu lt d x i.toNat l pl i).asked)∧ai (fun z=>S z∨T z) H H'):=by
  intro H2 k2 g1 g2 g3 g4
  refine(mZ g1 i1 x ⟨i0,il⟩).mono ?_
  rintro _ H3 ⟨_,g5,g6⟩
  rw[u1,u2,u3,u4,g4]
  exact⟨rfl,g5,by rw[←Nat.add_assoc];exact ho.aN _ _ _ _ g2 g6 (fun z hz hs=>hd z hs hz),g3.trans (g6.mono fun z _ hz=>.inl hz)⟩
 cases hp:bh d i1 with
 |none=>
  simp(disch:=(first|omega| (simp only[Zs]<;>omega)|fail)) only[go_sem, ↓reduceIte,Zv,Option.isSome_none]
  refine(stop H1 0 h1 ZM e1 ?_).mono ?_
  ·cases hm:i1.toNat<;>simp[gu,hp,hm]
  ·rintro _ H3 ⟨g1,g2,g3,g4⟩
   refine vs ?_
   exact⟨g1,g2,g3,g4⟩
 |some p=>
  have PC:=fz hp
  obtain⟨b,rfl⟩:∃b,fp=some b:=by
   cases fp with
   |none=>obtain⟨_,e,_⟩:=a2;omega
   |some b=>exact⟨b,rfl⟩
  obtain⟨_,l',c,rfl,a4,a5,a6,a7⟩:=a2
  obtain⟨y,hy⟩:∃y,l1[p.toNat]? =some y:=⟨_,List.getElem?_eq_getElem (by omega)⟩
  have zN:l'[p.toNat]? =some (i64 y):=by
   have h1:(l1.map i64)[p.toNat]? =some (i64 y):=by simp[hy]
   rw[←a7,List.getElem?_take_of_lt (by omega)]at h1
   exact h1
  have hy3:l1.getD p.toNat 0=y:=by simp[List.getD,hy]
  simp(disch:=(first|omega| (simp only[Zs]<;>omega)|fail)) only[go_sem, ↓reduceIte,Zv,Option.isSome_some,Option.getD_some,ae a1]
  refine⟨by omega,?_⟩
  refine v3 (ae a4) Nat.mul_one zN ?_
  refine⟨ho.nil,?_⟩
  refine vs ?_
  refine jf.mono (ho.call H1 (n+k) x y hx (US y (List.mem_of_getElem? hy)) ZM) ?_
  rintro _ H2 ⟨rfl,QI,e2⟩
  have Nc:=h1.ext e2 hd
  have sA:=e1.trans (e2.mono fun z _ hz=>.inr hz)
  have b1:=e2.own a1 (hd _ s1)
  have b4:=e2.own a4 (hd _ (s4 b rfl).1)
  refine vs ?_
  cases aR:lt x y with
  |false=>
   refine vs ?_
   refine(stop H2 1 Nc QI sA ?_).mono ?_
   ·obtain⟨q,hq⟩:∃q,i1.toNat=q+1:=⟨i1.toNat - 1,by omega⟩
    rw[hq]
    simp[gu,hp,hy,aR,hq]
   ·rintro _ H3 ⟨g1,g2,g3,g4⟩
    refine vs ?_
    exact⟨g1,g2,g3,g4⟩
  |true=>
   refine v1 (ae b1) ?_
   refine⟨by omega,?_⟩
   refine v3 (ae b4) Nat.mul_one zN ?_
   refine(mZ Nc i1 y ⟨i0,il⟩).mono ?_
   rintro _ H3 ⟨_,g5,g6⟩
   refine vs ?_
   obtain⟨q,hq⟩:∃q,i1.toNat=q+1:=⟨i1.toNat - 1,by omega⟩
   have EP:gu lt d x i1.toNat l1 Co i1=⟨(gu lt d x p.toNat (l1.set i1.toNat y) (cX Co y i1) p).l,(gu lt d x p.toNat (l1.set i1.toNat y) (cX Co y i1) p).pl,(gu lt d x p.toNat (l1.set i1.toNat y) (cX Co y i1) p).at_,
     (gu lt d x p.toNat (l1.set i1.toNat y) (cX Co y i1) p).asked+1⟩:=by
    rw[RD lt d x p.toNat q _ _ p (Nat.le_refl _) (by omega),hq]
    simp only[gu,hp,hy3,aR,if_true,hq]
   refine⟨p.toNat,by omega,l1.set i1.toNat y,cX Co y i1,p,k+1,rfl,fun z hz=>(sY hz).elim (fun e=>e▸US y (List.mem_of_getElem? hy)) (US z),rfl,by omega,by rw[List.length_set];omega,by rw[List.length_set];exact ll,g5,
    ho.aN _ _ _ _ QI g6 (fun z hz hs=>hd z hs hz),sA.trans (g6.mono fun z _ hz=>.inl hz),by rw[u1,EP],by rw[u2,EP],by rw[u3,EP],by rw[u4,EP];simp only;omega⟩
theorem Iq{ov:Value}{I:Hp→Nat→Prop}{T:Nat→Prop}{lt:Int→Int→Bool}{D:Int→Prop}(ho:Nb ov I T lt D){H:Hp}{r:Nat}{S:Nat→Prop}{d:Int}{l:List Int}{pl:Int→Option Int}
  (h:dt H r S d l pl)(hd:∀x,S x→¬T x){n:Nat}(hI:I H n)(x:Int)(hl:l.length<1000000)(hDx:D x:=by trivial)(hD:∀z∈l,D z:=by intros;trivial):
  ah Tryz.prog F2 [ptr r,ov,i64 x] H fun v H'=>ax (
   let R:=gu lt d x l.length (l++[x]) pl l.length
   (pl x≠none∧v= .bool false∧H=H')∨
   (pl x=none∧v= .bool true∧∃S',dt H' r S' d R.l R.pl∧I H' (n+R.asked)∧ai (fun z=>S z∨T z) H H'∧∀z,S' z→S z∨H.size≤z)):=by
 obtain⟨⟨sv,fp,mb,a1,a2,a3,s1,s2,s3,s4⟩,h2⟩:=id h
 have key:jp true (Value.int .i64 0) ((pl x).map i64)= .tuple [i64 ((pl x).getD 0),.bool (pl x).isSome].toArray:=by cases pl x<;>rfl
 refine bc F8 ⟨rfl,?_⟩
 refine v4 p7.eq_1 (ae a1) a3.look key ?_
 cases hx:pl x with
 |some p=>
  simp(disch:=(first|omega| (simp only[Zs]<;>omega)|fail)) only[go_sem, ↓reduceIte,Zv,Option.isSome_some]
  exact .inl ⟨by simp,rfl,rfl⟩
 |none=>
  simp(disch:=(first|omega| (simp only[Zs]<;>omega)|fail)) only[go_sem, ↓reduceIte,Zv,Option.isSome_none,ae a1]
  have hb:=aO a1
  have e0:ai (fun _=>False) H (H.new 3 [i64 x]):=(ai.refl _ H).new 3 [i64 x]
  refine Sl.append (a2.ext e0 (fun _ _ h=>h)) (Sl.dQ (size:=1) (xs:=[i64 x]) rfl rfl).rd rfl (wY [x]) (by omega) ?_
  intro v' H2 fJ hs vO l9
  have b1:=vO.own (e0.own a1 (fun h=>h)) (fun e=>(s4 r e).2.1 rfl)
  have E8:=hs
  obtain⟨f,rfl⟩:∃f,fJ=some f:=by
   cases fJ with
   |none=>obtain⟨_,e,_⟩:=hs;omega
   |some f=>exact⟨f,rfl⟩
  obtain⟨_,l',c',rfl,g1,g2,g3,g4⟩:=E8
  have hf:(fp=some f)∨H.size≤f:=by
   rcases l9 with h| ⟨z,h,h5,h6⟩
   ·exact .inl h.symm
   ·injection h with h;subst h;rw[au]at h5;exact .inr (by omega)
  have Ru:f≠r∧f≠mb:=by
   rcases hf with h|h
   ·exact(s4 f h).2
   ·have:=a3.lt;omega
  have e2:ai (fun z=>S z) H H2:=(e0.mono fun _ _ h=>h.elim).uj vO (fun z _ hz=>(s4 z hz).1)
  have e3:ai (fun z=>S z) H (H2.wr r [i64 d,.slice (some ⟨f,0,none⟩) (l.length+1) c',.map (some mb)]):=e2.wr (fun _=>s1) _
  have hr:dt (H2.wr r [i64 d,.slice (some ⟨f,0,none⟩) (l.length+1) c',.map (some mb)]) r (fun z=>S z∨z=f) d (l++[x]) pl:=by
   have ew:ai (fun z=>z=r) H2 (H2.wr r [i64 d,.slice (some ⟨f,0,none⟩) (l.length+1) c',.map (some mb)]):=(ai.refl (fun z=>z=r) _).wr (fun _=>rfl) _
   refine⟨⟨.slice (some ⟨f,0,none⟩) (l.length+1) c',some f,mb,?_,?_,((a3.ext e0 (fun h=>h)).ext vO (fun e=>(s4 mb e).2.2 rfl)).ext ew (Ne.symm s3),.inl s1,.inl s2,s3,fun b e=>by cases e;exact⟨.inr rfl,Ru⟩⟩,?_⟩
   ·exact aj b1
   ·rw[List.length_append,List.map_append];exact hs.ext ew (fun b e=>by injection e with e;subst e;exact Ru.1)
   ·rintro z (hz|rfl)
    ·exact Nat.lt_of_lt_of_le (h2 z hz) e3.size
    ·rw[gh];exact aO g1
  have oN:∀z,(S z∨z=f)→¬T z:=by
   rintro z (hz|rfl) ht
   ·exact hd z hz ht
   ·rcases hf with h|h
    ·exact hd _ (s4 _ h).1 ht
    ·have:=ho.tlt H n hI _ ht;omega
  have QI:=ho.aN _ _ _ _ hI e3 (fun z hz hs=>hd z hs hz)
  simp(disch:=(first|omega| (simp only[Zs]<;>omega)|fail)) only[go_sem, ↓reduceIte,Zv,b1,ui b1]
  rw[wrap64 (by omega) (by omega),show((l.length+1:Nat):Int) - 1=(l.length:Int) by omega]
  refine(us ho hr oN QI l.length x ⟨by omega,by rw[List.length_append,List.length_singleton];omega⟩ (by rw[List.length_append];simp;omega) hDx (fun z hz=>by rcases List.mem_append.1 hz with h|h;exact hD z h;rw[List.mem_singleton.1 h];exact hDx)).mono ?_
  rintro _ H3 ⟨_,r1,r2,r3⟩
  refine vs ?_
  refine .inr ⟨rfl,rfl,_,r1,r2,?_,?_⟩
  ·refine(e3.mono fun z _ hz=>Or.inl hz).uj r3 ?_
   rintro z hz ((h|rfl)|h)
   ·exact .inl h
   ·rcases hf with h|h
    ·exact .inl (s4 _ h).1
    ·omega
   ·exact .inr h
  ·rintro z (h|rfl)
   ·exact .inl h
   ·rcases hf with h|h
    ·exact .inl (s4 _ h).1
    ·exact .inr h
theorem Fh{ov:Value}{I:Hp→Nat→Prop}{T:Nat→Prop}{lt:Int→Int→Bool}{D:Int→Prop}(ho:Nb ov I T lt D){H:Hp}{r:Nat}{S:Nat→Prop}{d:Int}{l:List Int}{pl:Int→Option Int}
  (h:dt H r S d l pl)(hd:∀x,S x→¬T x){n:Nat}(hI:I H n)(x:Int)(hl:l.length≤1000000)(hp:∀i,pl x=some i→0≤i∧i<l.length)(hDx:D x:=by trivial)(hD:∀z∈l,D z:=by intros;trivial):
  ah Tryz.prog Dg [ptr r,ov,i64 x] H fun v H'=>ax (
   (pl x=none∧v= .bool false∧H=H')∨
   (∃i,pl x=some i∧v= .bool true∧dt H' r S d (gu lt d x i.toNat l pl i).l (gu lt d x i.toNat l pl i).pl∧I H' (n+(gu lt d x i.toNat l pl i).asked)∧ai (fun z=>S z∨T z) H H')):=by
 obtain⟨⟨sv,fp,mb,a1,a2,a3,s1,s2,s3,s4⟩,h2⟩:=id h
 have key:jp true (Value.int .i64 0) ((pl x).map i64)= .tuple [i64 ((pl x).getD 0),.bool (pl x).isSome].toArray:=by cases pl x<;>rfl
 refine bc Dt ⟨rfl,?_⟩
 refine v4 mH.eq_1 (ae a1) a3.look key ?_
 cases hx:pl x with
 |none=>
  simp(disch:=(first|omega| (simp only[Zs]<;>omega)|fail)) only[go_sem, ↓reduceIte,Zv,Option.isSome_none]
  exact .inl ⟨rfl,rfl,rfl⟩
 |some i=>
  simp(disch:=(first|omega| (simp only[Zs]<;>omega)|fail)) only[go_sem, ↓reduceIte,Zv,Option.isSome_some,Option.getD_some]
  refine(us ho h hd hI i x (hp i hx) hl hDx hD).mono ?_
  rintro _ H3 ⟨_,r1,r2,r3⟩
  refine vs ?_
  exact .inr ⟨i,rfl,rfl,r1,r2,r3⟩
theorem qW{H:Hp}{v:Value}{n:Nat}{xs:List Int}(h:ez H 1 v n (xs.map i64))(hn:n≤1000000):
  ah Tryz.prog tI [v] H fun r H'=>ax (ay H H'∧∃fp,Sl H' 1 r n (xs.map i64) fp∧∀b,fp=some b→H.size≤b∧b<H'.size):=by
 refine bc tP ⟨rfl,?_⟩
 have hv:∃a c,v= .slice a n c:=by
  obtain⟨_,⟨rfl,a,c,rfl⟩| ⟨b,o,c,l,rfl,_⟩⟩:=h
  ·exact⟨_,_,rfl⟩
  ·exact⟨_,_,rfl⟩
 obtain⟨a,c,rfl⟩:=hv
 refine v1 eZ.eq_1 ?_
 cases a with
 |none=>
  have PD:n=0:=by
   obtain⟨_,⟨rfl,_⟩| ⟨b,o,c,l,e,_⟩⟩:=h
   ·rfl
   ·cases e
  have hx:xs.map i64=[]:=List.length_eq_zero_iff.1 (by have:=h.1;simpa[PD]using this)
  simp(disch:=(first|omega| (simp only[Zs]<;>omega)|fail)) only[go_sem, ↓reduceIte,Zv,Option.isNone_none]
  rw[hx,PD]
  exact⟨ai.refl _ _,none,Sl.nil H 1,fun b hb=>by cases hb⟩
 |some ad=>
  simp(disch:=(first|omega| (simp only[Zs]<;>omega)|fail)) only[go_sem, ↓reduceIte,Zv,Option.isNone_some]
  have e0:ai (fun _=>False) H (H.new 3 []):=(ai.refl _ H).new 3 []
  refine Sl.append (Sl.dQ (size:=1) (n:=0) (xs:=[]) rfl rfl) (h.fresh e0) rfl (wY xs) (by omega) ?_
  intro v' H2 fJ hs vO l9
  refine vs ?_
  refine⟨ai.uj e0 vO (fun z hz Oy=>by injection Oy with Oy;omega),fJ,by simpa[M3]using hs,?_⟩
  intro z hz
  have Pm:=vO.size
  rw[au]at Pm
  rcases l9 with h| ⟨y,h,h5,h6⟩
  ·rw[h]at hz;injection hz with hz;omega
  ·rw[h]at hz;injection hz with hz;subst hz;rw[au]at h5;omega
def bT(lt:Int→Int→Bool)(l:List Int)(d i:Int):Nat→Int→Int×Nat
 |0,bU=>(bU,0)
 |m+1,bU=>
  if d*i+(d - m)<l.length then
   let r:=bT lt l d i m (if lt (l.getD (d*i+(d - m)).toNat 0) (l.getD bU.toNat 0)=true then d*i+(d - m)else bU)
   (r.1,r.2+1)
  else bT lt l d i m bU
theorem dt.read{H:Hp}{r:Nat}{S:Nat→Prop}{d:Int}{l:List Int}{pl:Int→Option Int}(h:dt H r S d l pl)(hl:0<l.length):
  ∃f l' c mb,H.own r=some [i64 d,.slice (some ⟨f,0,none⟩) l.length c,.map (some mb)]∧H.own f=some l'∧∀ (i:Nat) (x:Int),l[i]? =some x→l'[i]? =some (i64 x):=by
 obtain⟨⟨sv,fp,mb,a1,a2,a3,s1,s2,s3,s4⟩,h2⟩:=h
 cases fp with
 |none=>obtain⟨_,e,_⟩:=a2;omega
 |some f=>
  obtain⟨_,l',c,rfl,a4,a5,a6,a7⟩:=a2
  refine⟨f,l',c,mb,a1,a4,?_⟩
  intro i x hx
  have hi:=(List.getElem?_eq_some_iff.1 hx).1
  have h1:(l.map i64)[i]? =some (i64 x):=by simp[hx]
  rw[←a7,List.getElem?_take_of_lt (by omega)]at h1
  exact h1
theorem Fi{ov:Value}{I:Hp→Nat→Prop}{T:Nat→Prop}{lt:Int→Int→Bool}{D:Int→Prop}(ho:Nb ov I T lt D){H:Hp}{r:Nat}{S:Nat→Prop}{d:Int}{l:List Int}{pl:Int→Option Int}
  (h:dt H r S d l pl)(hd:∀x,S x→¬T x){n:Nat}(hI:I H n)(hf:cT d)(i:Int)(hi:0≤i∧i<l.length)(hl:l.length≤1000000)(hD:∀z∈l,D z:=by intros;trivial):
  ah Tryz.prog Di [ptr r,ov,i64 i] H fun v H'=>ax (
   ((l.length:Int)≤d*i+1∧v= .tuple [i64 0,.bool false].toArray∧H=H')∨
   (d*i+1<l.length∧v= .tuple [i64 (bT lt l d i (d - 1).toNat (d*i+1)).1,.bool true].toArray∧dt H' r S d l pl∧I H' (n+(bT lt l d i (d - 1).toNat (d*i+1)).2)∧ai T H H')):=by
 obtain⟨f,l',c,mb,a1,a2,a3⟩:=h.read (by omega)
 have ZN:=hf.1
 have hf2:=hf.2
 have hc:∀k,1≤k→k≤d→ul d i k=some (d*i+k):=fun k h1 h2=>by unfold ul;rw[if_pos ⟨hf,by omega,by omega,h1,h2⟩]
 have hb:=um (i:=i) hf (by omega) (by omega) (by omega:(1:Int)≤1) (by omega)
 refine bc Dv ⟨rfl,?_⟩
 refine v2 mJ.eq_1 (ae a1) ?_
 refine(uY d i 1 H).mono ?_
 rintro _ _ ⟨rfl,rfl⟩
 rw[hc 1 (by omega) (by omega)]
 simp(disch:=(first|omega| (simp only[Zs]<;>omega)|fail)) only[go_sem, ↓reduceIte,Zv,M2,ae a1]
 refine am.dec (fun h1=>?_) (fun h1=>?_)<;>refine vs ?_
 ·exact .inl ⟨by omega,rfl,rfl⟩
 ·refine bD.intro (fun m env H1=>∃ (bU:Int) (k:Nat),env=[(0,ptr r),(1,ov),(2,i64 i),(8,i64 bU),(10,i64 (d+1 - m))]∧(m:Int)≤d - 1∧0≤bU∧bU<l.length∧
   dt H1 r S d l pl∧I H1 (n+k)∧ai T H H1∧
   (bT lt l d i (d - 1).toNat (d*i+1)).1=(bT lt l d i m bU).1∧(bT lt l d i (d - 1).toNat (d*i+1)).2=k+(bT lt l d i m bU).2) (d - 1).toNat
   ⟨d*i+1,0,by rw[show d+1 - ((d - 1).toNat:Int)=2 by omega],by omega,by omega,by omega,h,hI,ai.refl _ _,rfl,by omega⟩ ?_
  rintro m env H1 ⟨bU,k,rfl,hm,b0,b1,r1,i1,e1,u1,u2⟩
  obtain⟨f1,l1,c1,mb1,g1,g2,g3⟩:=r1.read (by omega)
  refine v1 (ae g1) ?_
  refine am.dec (fun hk=>?_) (fun hk=>?_)<;>refine vs ?_
  ·obtain⟨q,rfl⟩:∃q,m=q+1:=⟨m - 1,by omega⟩
   rw[show d+1 - ((q+1:Nat):Int)=d - q by omega]at*
   refine v1 (ae g1) ?_
   refine(uY d i (d - q) H1).mono ?_
   rintro _ _ ⟨rfl,rfl⟩
   have HF:=um (i:=i) hf (by omega) (by omega) (by omega:(1:Int)≤d - q) (by omega)
   rw[hc (d - q) (by omega) (by omega)]
   simp(disch:=(first|omega| (simp only[Zs]<;>omega)|fail)) only[go_sem, ↓reduceIte,Zv,M2,ae g1]
   refine am.dec (fun qQ=>?_) (fun qQ=>?_)<;>refine vs ?_
   ·obtain⟨x,hx⟩:∃x,l[(d*i+(d - q)).toNat]? =some x:=⟨_,List.getElem?_eq_getElem (by omega)⟩
    obtain⟨y,hy⟩:∃y,l[bU.toNat]? =some y:=⟨_,List.getElem?_eq_getElem (by omega)⟩
    have xa:=g3 _ _ hx
    have MD:=g3 _ _ hy
    refine v1 (ae g1) ?_
    refine⟨by omega,?_⟩
    refine v4 (ae g1) (ae g2) Nat.mul_one xa ?_
    refine⟨by omega,?_⟩
    refine v3 (ae g2) Nat.mul_one MD ?_
    refine⟨ho.nil,?_⟩
    refine vs ?_
    refine jf.mono (ho.call H1 (n+k) x y (hD x (List.mem_of_getElem? hx)) (hD y (List.mem_of_getElem? hy)) i1) ?_
    rintro _ H2 ⟨rfl,QI,e2⟩
    have Da:∀z,z=(if lt x y=true then d*i+(d - q)else bU)→bT lt l d i (q+1) bU=((bT lt l d i q z).1,(bT lt l d i q z).2+1):=by
     intro z hz
     rw[bT,if_pos qQ]
     simp only[List.getD,hx,hy,Option.getD_some,hz]
    refine vs ?_
    refine am.intro (fun aR=>?_) (fun aR=>?_)<;>refine vs ?_
    ·rw[wrap64 (by omega) (by omega)]
     exact⟨q,by omega,d*i+(d - q),k+1,by rw[show d+1 - (q:Int)=d - q+1 by omega],by omega,by omega,by omega,r1.ext e2 hd,QI,e1.trans e2,
      by rw[u1,Da (d*i+(d - q)) (by rw[if_pos aR])],by rw[u2,Da (d*i+(d - q)) (by rw[if_pos aR])];simp only;omega⟩
    ·rw[wrap64 (by omega) (by omega)]
     exact⟨q,by omega,bU,k+1,by rw[show d+1 - (q:Int)=d - q+1 by omega],by omega,by omega,by omega,r1.ext e2 hd,QI,e1.trans e2,
      by rw[u1,Da bU (by rw[if_neg (by rw[aR];simp)])],by rw[u2,Da bU (by rw[if_neg (by rw[aR];simp)])];simp only;omega⟩
   ·rw[wrap64 (by omega) (by omega)]
    have Da:bT lt l d i (q+1) bU=bT lt l d i q bU:=by rw[bT,if_neg qQ]
    exact⟨q,by omega,bU,k,by rw[show d+1 - (q:Int)=d - q+1 by omega],by omega,by omega,by omega,r1,i1,e1,by rw[u1,Da],by rw[u2,Da]⟩
  ·have h0:m=0:=by omega
   subst h0
   refine .inr ⟨by omega,?_,r1,?_,e1⟩
   ·rw[u1];rfl
   ·rw[u2];exact i1
def cV(lt:Int→Int→Bool)(d x:Int):Nat→List Int→(Int→Option Int)→Int→List Int×(Int→Option Int)×Nat
 |0,l,pl,i=>(l.set i.toNat x,cX pl x i,0)
 |m+1,l,pl,i=>
  if(l.length:Int)≤d*i+1 then(l.set i.toNat x,cX pl x i,0)
  else
   let b:=bT lt l d i (d - 1).toNat (d*i+1)
   let y:=l.getD b.1.toNat 0
   if lt y x=true then
    let r:=cV lt d x m (l.set i.toNat y) (cX pl y i) b.1
    (r.1,r.2.1,r.2.2+b.2+1)
   else(l.set i.toNat x,cX pl x i,b.2+1)
theorem nI(lt:Int→Int→Bool)(l:List Int)(d i:Int)(h:0≤d*i):∀ (m:Nat) (bU:Int),(m:Int)≤d - 1→d*i+1≤bU→bU<l.length→d*i+1≤(bT lt l d i m bU).1∧(bT lt l d i m bU).1<l.length:=by
 intro m
 induction m with
 |zero=>intro bU _ h1 h2;exact⟨h1,h2⟩
 |succ m ih=>
  intro bU hm h1 h2
  unfold bT
  split
  ·simp only
   split
   ·exact ih _ (by omega) (by omega) (by omega)
   ·exact ih _ (by omega) h1 h2
  ·exact ih _ (by omega) h1 h2
theorem qj{d i b:Int}(hf:cT d)(hi:0≤i)(hb:d*i+1≤b):i<b:=by
 have h1:=hf.1
 have:1*i≤d*i:=Int.mul_le_mul_of_nonneg_right (by omega) hi
 omega
theorem Nd(lt:Int→Int→Bool)(d x:Int)(hf:cT d):∀ (m m':Nat) (l:List Int) (pl:Int→Option Int) (i:Int),0≤i→l.length≤i.toNat+m→l.length≤i.toNat+m'→
  cV lt d x m l pl i=cV lt d x m' l pl i:=by
 have hz:∀ (m:Nat) (l:List Int) (pl:Int→Option Int) (i:Int),0≤i→l.length≤i.toNat→cV lt d x m l pl i=(l.set i.toNat x,cX pl x i,0):=by
  intro m l pl i hi hl
  cases m with
  |zero=>rfl
  |succ m=>
   have h1:=hf.1
   have:1*i≤d*i:=Int.mul_le_mul_of_nonneg_right (by omega) hi
   rw[cV,if_pos (by omega)]
 intro m
 induction m with
 |zero=>intro m' l pl i hi h h';rw[hz 0 l pl i hi (by omega),hz m' l pl i hi (by omega)]
 |succ m ih=>
  intro m' l pl i hi h h'
  cases m' with
  |zero=>rw[hz 0 l pl i hi (by omega),hz (m+1) l pl i hi (by omega)]
  |succ m'=>
   rw[cV,cV]
   split
   ·rfl
   ·rename_i hc
    have h1:=hf.1
    have Te:0≤d*i:=Int.mul_nonneg (by omega) hi
    have hb:=nI lt l d i Te (d - 1).toNat (d*i+1) (by omega) (by omega) (by omega)
    have aR:=qj hf hi hb.1
    simp only
    split
    ·rw[ih m' _ _ _ (by omega) (by rw[List.length_set];omega) (by rw[List.length_set];omega)]
    ·rfl
theorem Gs{ov:Value}{I:Hp→Nat→Prop}{T:Nat→Prop}{lt:Int→Int→Bool}{D:Int→Prop}(ho:Nb ov I T lt D){H:Hp}{r:Nat}{S:Nat→Prop}{d:Int}{l:List Int}{pl:Int→Option Int}
  (h:dt H r S d l pl)(hd:∀x,S x→¬T x){n:Nat}(hI:I H n)(hf:cT d)(i x:Int)(hi:0≤i∧i<l.length)(hl:l.length≤1000000)(hx:D x:=by trivial)(hD:∀z∈l,D z:=by intros;trivial):
  ah Tryz.prog EU [ptr r,ov,i64 i,i64 x] H fun v H'=>ax (
   let R:=cV lt d x l.length l pl i
   dt H' r S d R.1 R.2.1∧I H' (n+R.2.2)∧ai (fun z=>S z∨T z) H H'):=by
 refine bc E0 ⟨rfl,?_⟩
 refine v1 oh.eq_1 ?_
 refine bD.intro (fun m env H1=>∃ (l1:List Int) (Co:Int→Option Int) (i1:Int) (k:Nat),env=[(0,ptr r),(1,ov),(2,i64 i1),(3,i64 x)]∧(∀z∈l1,D z)∧m=l1.length - i1.toNat∧0≤i1∧i1<l1.length∧l1.length=l.length∧
   dt H1 r S d l1 Co∧I H1 (n+k)∧ai (fun z=>S z∨T z) H H1∧
   (cV lt d x l.length l pl i).1=(cV lt d x l1.length l1 Co i1).1∧(cV lt d x l.length l pl i).2.1=(cV lt d x l1.length l1 Co i1).2.1∧
   (cV lt d x l.length l pl i).2.2=k+(cV lt d x l1.length l1 Co i1).2.2) (l.length - i.toNat) ⟨l,pl,i,0,rfl,hD,rfl,hi.1,hi.2,rfl,h,hI,ai.refl _ _,rfl,rfl,by omega⟩ ?_
 rintro m env H1 ⟨l1,Co,i1,k,rfl,US,rfl,i0,il,ll,h1,ZM,e1,u1,u2,u3⟩
 have hd1:=hf.1
 have Te:0≤d*i1:=Int.mul_nonneg (by omega) i0
 have stop:∀ (H2:Hp) (k2:Nat),dt H2 r S d l1 Co→I H2 (n+k+k2)→ai (fun z=>S z∨T z) H H2→cV lt d x l1.length l1 Co i1=(l1.set i1.toNat x,cX Co x i1,k2)→
   ah Tryz.prog pR [ptr r,i64 i1,i64 x] H2 fun _ H'=>(dt H' r S d (cV lt d x l.length l pl i).1 (cV lt d x l.length l pl i).2.1∧
    I H' (n+(cV lt d x l.length l pl i).2.2)∧ai (fun z=>S z∨T z) H H'):=by
  intro H2 k2 g1 g2 g3 g4
  refine(mZ g1 i1 x ⟨i0,il⟩).mono ?_
  rintro _ H3 ⟨_,g5,g6⟩
  rw[u1,u2,u3,g4]
  exact⟨g5,by rw[←Nat.add_assoc];exact ho.aN _ _ _ _ g2 g6 (fun z hz hs=>hd z hs hz),g3.trans (g6.mono fun z _ hz=>.inl hz)⟩
 obtain⟨q,hq⟩:∃q,l1.length=q+1:=⟨l1.length - 1,by omega⟩
 refine vs ?_
 refine(Fi ho h1 hd ZM hf i1 ⟨i0,il⟩ (by omega) US).mono ?_
 rintro _ H2 (⟨hc,rfl,rfl⟩| ⟨hc,rfl,h2,QI,e2⟩)
 ·refine vs ?_
  refine(stop H1 0 h1 ZM e1 ?_).mono ?_
  ·rw[hq,cV,if_pos hc]
  ·rintro _ H3 ⟨g1,g2,g3⟩
   refine vs ?_
   exact⟨g1,g2,g3⟩
 ·have hb:=nI lt l1 d i1 Te (d - 1).toNat (d*i1+1) (by omega) (by omega) hc
  have aR:=qj hf i0 hb.1
  obtain⟨f1,l',c1,mb1,g1,g2,g3⟩:=h2.read (by omega)
  obtain⟨y,hy⟩:∃y,l1[(bT lt l1 d i1 (d - 1).toNat (d*i1+1)).1.toNat]? =some y:=⟨_,List.getElem?_eq_getElem (by omega)⟩
  have MD:=g3 _ _ hy
  have hy3:l1.getD (bT lt l1 d i1 (d - 1).toNat (d*i1+1)).1.toNat 0=y:=by rw[List.getD_eq_getElem?_getD,hy];rfl
  have sA:=e1.trans (e2.mono fun z _ hz=>.inr hz)
  refine v1 (ae g1) ?_
  refine⟨by omega,?_⟩
  refine v3 (ae g2) Nat.mul_one MD ?_
  refine⟨ho.nil,?_⟩
  refine vs ?_
  refine jf.mono (ho.call H2 _ y x (US y (List.mem_of_getElem? hy)) hx QI) ?_
  rintro _ H3 ⟨rfl,hI3,e3⟩
  have h3:=h2.ext e3 hd
  have Fj:=sA.trans (e3.mono fun z _ hz=>.inr hz)
  obtain⟨f4,l4,c4,mb4,k1,k2,k3⟩:=h3.read (by omega)
  have hy4:=k3 _ _ hy
  refine vs ?_
  cases qL:lt y x with
  |false=>
   refine vs ?_
   refine(stop H3 ((bT lt l1 d i1 (d - 1).toNat (d*i1+1)).2+1) h3 (by rw[←Nat.add_assoc];exact hI3) Fj ?_).mono ?_
   ·rw[hq,cV,if_neg (by omega)]
    simp only[hy3,qL]
    rfl
   ·rintro _ H4 ⟨g1,g2,g3⟩
    refine vs ?_
    exact⟨g1,g2,g3⟩
  |true=>
   refine v1 (ae k1) ?_
   refine⟨by omega,?_⟩
   refine v3 (ae k2) Nat.mul_one hy4 ?_
   refine(mZ h3 i1 y ⟨i0,il⟩).mono ?_
   rintro _ H4 ⟨_,g5,g6⟩
   refine vs ?_
   have VY:cV lt d x l1.length l1 Co i1=((cV lt d x (l1.set i1.toNat y).length (l1.set i1.toNat y) (cX Co y i1) (bT lt l1 d i1 (d - 1).toNat (d*i1+1)).1).1,
     (cV lt d x (l1.set i1.toNat y).length (l1.set i1.toNat y) (cX Co y i1) (bT lt l1 d i1 (d - 1).toNat (d*i1+1)).1).2.1,
     (cV lt d x (l1.set i1.toNat y).length (l1.set i1.toNat y) (cX Co y i1) (bT lt l1 d i1 (d - 1).toNat (d*i1+1)).1).2.2+(bT lt l1 d i1 (d - 1).toNat (d*i1+1)).2+1):=by
    rw[Nd lt d x hf (l1.set i1.toNat y).length q _ _ _ (by omega) (by omega) (by rw[List.length_set];omega),hq,cV,if_neg (by omega)]
    simp only[hy3,qL,if_true]
   refine⟨l1.length - (bT lt l1 d i1 (d - 1).toNat (d*i1+1)).1.toNat,by omega,l1.set i1.toNat y,cX Co y i1,(bT lt l1 d i1 (d - 1).toNat (d*i1+1)).1,k+(bT lt l1 d i1 (d - 1).toNat (d*i1+1)).2+1,rfl,fun z hz=>(sY hz).elim (fun e=>e▸US y (List.mem_of_getElem? hy)) (US z),by rw[List.length_set],by omega,by rw[List.length_set];omega,by rw[List.length_set];exact ll,g5,?_,
    Fj.trans (g6.mono fun z _ hz=>.inl hz),by rw[u1,VY],by rw[u2,VY],by rw[u3,VY];simp only;omega⟩
   have:=ho.aN _ _ _ _ hI3 g6 (fun z hz hs=>hd z hs hz)
   rw[show n+(k+(bT lt l1 d i1 (d - 1).toNat (d*i1+1)).2+1)=n+k+(bT lt l1 d i1 (d - 1).toNat (d*i1+1)).2+1 by omega]
   exact this
def pa(d:Int)(j:Nat):Nat:=(((j:Int) - 1) / d).toNat
theorem qm{d:Int}(hf:cT d){i:Int}(h1:1≤i):∃p,bh d i=some p∧p.toNat=pa d i.toNat∧0≤p∧p<i:=by
 have hp:bh d i=some ((i - 1) / d):=by unfold bh;rw[if_pos ⟨hf,h1⟩]
 have hb:=fz hp
 refine⟨_,hp,?_,hb.1,hb.2⟩
 unfold pa
 rw[show((i.toNat:Nat):Int)=i by omega]
theorem cK{d:Int}(hf:cT d){j:Nat}(h:1≤j):pa d j<j:=by
 obtain⟨p,_,h1,h2,h3⟩:=qm hf (i:=(j:Int)) (by omega)
 simp only[Int.toNat_natCast]at h1
 omega
theorem RE{d:Int}(hf:cT d){i j:Nat}(h:1≤j):pa d j=i↔(d*i+1≤j∧(j:Int)≤d*i+d):=by
 have hd:=hf.1
 unfold pa
 have e1:=Int.mul_ediv_add_emod ((j:Int) - 1) d
 have e2:=Int.emod_nonneg ((j:Int) - 1) (show d≠0 by omega)
 have e3:=Int.emod_lt_of_pos ((j:Int) - 1) (show 0<d by omega)
 have e4:0≤((j:Int) - 1) / d:=Int.ediv_nonneg (by omega) (by omega)
 constructor
 ·intro h
  have:((j:Int) - 1) / d=i:=by omega
  rw[this]at e1
  omega
 ·rintro⟨h1,h2⟩
  have h3:=uZ (d:=d) (i:=(i:Int)) (j:=(j:Int) - d*i) hd (by omega) (by omega) (by omega)
  rw[show d*(i:Int)+((j:Int) - d*i) - 1=(j:Int) - 1 by omega]at h3
  omega
theorem dD(l:List Int)(i j:Nat)(v:Int)(hi:i<l.length):(l.set i v).getD j 0=if i=j then v else l.getD j 0:=by
 rw[List.getD_eq_getElem?_getD,List.getElem?_set,List.getD_eq_getElem?_getD]
 by_cases h:i=j
 ·subst h;simp[hi]
 ·simp[h]
def eY(lt:Int→Int→Bool)(d:Int)(l:List Int):Prop:=∀j,1≤j→j<l.length→lt (l.getD j 0) (l.getD (pa d j) 0)=false
def dI(lt:Int→Int→Bool)(d:Int)(l:List Int)(i:Nat):Prop:=
 (∀j,1≤j→j<l.length→j≠i→pa d j≠i→lt (l.getD j 0) (l.getD (pa d j) 0)=false)∧
 (∀j,1≤j→j<l.length→pa d j=i→1≤i→lt (l.getD j 0) (l.getD (pa d i) 0)=false)
theorem eY.but{lt:Int→Int→Bool}(ho:bB lt){d:Int}(hf:cT d){l:List Int}(h:eY lt d l)(i:Nat):dI lt d l i:=by
 refine⟨fun j h1 h2 _ _=>h j h1 h2,fun j h1 h2 h3 h4=>?_⟩
 have e1:=h j h1 h2
 have e2:=h i h4 (by have:=cK hf h1;omega)
 rw[h3]at e1
 exact ho.nt _ _ _ e1 e2
theorem dI.set{lt:Int→Int→Bool}{d:Int}(hf:cT d){l:List Int}{i:Nat}(hi:i<l.length)(h:dI lt d l i){x:Int}(hB:∀j,1≤j→j<l.length→pa d j=i→lt (l.getD j 0) x=false)
  (hD:1≤i→lt x (l.getD (pa d i) 0)=false):eY lt d (l.set i x):=by
 intro j h1 h2
 rw[List.length_set]at h2
 rw[dD _ _ _ _ hi,dD _ _ _ _ hi]
 have aR:=cK hf h1
 by_cases e1:i=j
 ·subst e1
  rw[if_pos rfl,if_neg (by omega)]
  exact hD h1
 ·rw[if_neg e1]
  by_cases e2:i=pa d j
  ·rw[if_pos e2];exact hB j h1 h2 e2.symm
  ·rw[if_neg e2];exact h.1 j h1 h2 (Ne.symm e1) (Ne.symm e2)
theorem JX{lt:Int→Int→Bool}(ho:bB lt){d:Int}(hf:cT d)(x:Int):∀ (m:Nat) (l:List Int) (pl:Int→Option Int) (i:Int),i.toNat≤m→0≤i→i<l.length→dI lt d l i.toNat→
  (∀j,1≤j→j<l.length→pa d j=i.toNat→lt (l.getD j 0) x=false)→eY lt d (gu lt d x m l pl i).l:=by
 intro m
 induction m with
 |zero=>
  intro l pl i hm h0 hl hA hB
  exact hA.set hf (by omega) hB (fun h=>by omega)
 |succ m ih=>
  intro l pl i hm h0 hl hA hB
  by_cases hi:1≤i
  ·obtain⟨p,hp,QF,p0,p1⟩:=qm hf hi
   unfold gu
   rw[hp]
   simp only[QF]
   cases aR:lt x (l.getD (pa d i.toNat) 0)with
   |false=>
    exact hA.set hf (by omega) hB (fun _=>aR)
   |true=>
    simp only[if_true]
    have tC:i.toNat<l.length:=by omega
    have hpi:=cK hf (j:=i.toNat) (by omega)
    refine ih _ _ p (by omega) p0 (by rw[List.length_set];omega) ⟨fun j h1 h2 h3 h4=>?_,fun j h1 h2 h3 h4=>?_⟩ (fun j h1 h2 h3=>?_)
    ·rw[List.length_set]at h2
     rw[QF]at h3 h4
     rw[dD _ _ _ _ tC,dD _ _ _ _ tC]
     have e1:i.toNat≠j:=fun e=>h4 (by rw[←e])
     rw[if_neg e1]
     by_cases e2:i.toNat=pa d j
     ·rw[if_pos e2]
      exact hA.2 j h1 h2 e2.symm (by omega)
     ·rw[if_neg e2]
      exact hA.1 j h1 h2 (Ne.symm e1) (Ne.symm e2)
    ·rw[List.length_set]at h2
     rw[QF]at h3 h4 ⊢
     rw[dD _ _ _ _ tC,dD _ _ _ _ tC]
     have O9:=cK hf h4
     rw[if_neg (show i.toNat≠pa d (pa d i.toNat) by omega)]
     have e3:=hA.1 (pa d i.toNat) h4 (by omega) (by omega) (by omega)
     by_cases e1:i.toNat=j
     ·rw[if_pos e1];exact e3
     ·rw[if_neg e1]
      have e4:=hA.1 j h1 h2 (Ne.symm e1) (by omega)
      rw[h3]at e4
      exact ho.nt _ _ _ e4 e3
    ·rw[List.length_set]at h2
     rw[QF]at h3
     rw[dD _ _ _ _ tC]
     by_cases e1:i.toNat=j
     ·rw[if_pos e1];exact ho.asym aR
     ·rw[if_neg e1]
      have e4:=hA.1 j h1 h2 (Ne.symm e1) (by omega)
      rw[h3]at e4
      cases hx:lt (l.getD j 0) x with
      |false=>rfl
      |true=>have:=ho.tr _ _ _ hx aR;rw[this]at e4;cases e4
  ·have Ff:i=0:=by omega
   subst Ff
   have hn:bh d 0=none:=by unfold bh;rw[if_neg (by omega)]
   unfold gu
   rw[hn]
   exact hA.set hf (by omega) hB (fun h=>by simp at h)
theorem Gt(lt:Int→Int→Bool)(d x:Int):∀ (m:Nat) (l:List Int) (pl:Int→Option Int) (i:Int),(gu lt d x m l pl i).asked≤MA d m i:=by
 intro m
 induction m with
 |zero=>intro l pl i;simp[gu,MA]
 |succ m ih=>
  intro l pl i
  unfold gu MA
  cases hp:bh d i with
  |none=>simp
  |some p=>
   simp only
   split
   ·have:=ih (l.set i.toNat (l.getD p.toNat 0)) (cX pl (l.getD p.toNat 0) i) p
    simp only;omega
   ·simp only;omega
theorem xR(lt:Int→Int→Bool)(d x:Int):∀ (m:Nat) (l:List Int) (pl:Int→Option Int) (i:Int),(gu lt d x m l pl i).l.length=l.length:=by
 intro m
 induction m with
 |zero=>intro l pl i;simp[gu]
 |succ m ih=>
  intro l pl i
  unfold gu
  cases hp:bh d i with
  |none=>simp
  |some p=>
   simp only
   split
   ·simp[ih]
   ·simp
theorem RF{lt:Int→Int→Bool}{d:Int}(hf:cT d)(x:Int)(l:List Int)(pl:Int→Option Int)(i:Int)(h0:0≤i):
  ((gu lt d x i.toNat l pl i).at_=i∧(gu lt d x i.toNat l pl i).l=l.set i.toNat x∧(gu lt d x i.toNat l pl i).pl=cX pl x i∧(gu lt d x i.toNat l pl i).asked≤1∧(1≤i→lt x (l.getD (pa d i.toNat) 0)=false))∨
  ((gu lt d x i.toNat l pl i).at_<i∧1≤i∧lt x (l.getD (pa d i.toNat) 0)=true):=by
 by_cases hi:1≤i
 ·obtain⟨p,hp,QF,p0,p1⟩:=qm hf hi
  obtain⟨q,hq⟩:∃q,i.toNat=q+1:=⟨i.toNat - 1,by omega⟩
  have low:∀ (m:Nat) (l:List Int) (pl:Int→Option Int) (i:Int),(gu lt d x m l pl i).at_≤i:=by
   intro m
   induction m with
   |zero=>intro l pl i;simp[gu]
   |succ m ih=>
    intro l pl i
    unfold gu
    cases hp:bh d i with
    |none=>simp
    |some p=>
     have:=fz hp
     simp only
     split
     ·have:=ih (l.set i.toNat (l.getD p.toNat 0)) (cX pl (l.getD p.toNat 0) i) p
      simp only;omega
     ·simp only;omega
  rw[hq,gu,hp,←hq]
  simp only[QF]
  cases aR:lt x (l.getD (pa d i.toNat) 0)with
  |false=>exact .inl ⟨rfl,rfl,rfl,Nat.le_refl _,fun _=>rfl⟩
  |true=>
   have:=low q (l.set i.toNat (l.getD (pa d i.toNat) 0)) (cX pl (l.getD (pa d i.toNat) 0) i) p
   exact .inr ⟨by simp only[if_true];omega,hi,rfl⟩
 ·have Ff:i=0:=by omega
  subst Ff
  exact .inl ⟨rfl,rfl,rfl,by simp[gu],fun h=>by omega⟩
def RG(l:List Int)(pl:Int→Option Int)(i:Int)(x:Int):Prop:=
 ∀z,z≠x→∀k,pl z=some k↔(0≤k∧k≠i∧l[k.toNat]? =some z)
def DO(l:List Int)(pl:Int→Option Int):Prop:=∀z k,pl z=some k↔(0≤k∧l[k.toNat]? =some z)
theorem DO.adT{l:List Int}{pl:Int→Option Int}(h:DO l pl){i x:Int}(hx:l[i.toNat]? =some x)(h0:0≤i):RG l pl i x:=by
 intro z hz k
 rw[h z k]
 constructor
 ·rintro⟨a,b⟩;exact⟨a,fun e=>by subst e;rw[hx]at b;injection b with b;exact hz b.symm,b⟩
 ·rintro⟨a,_,b⟩;exact⟨a,b⟩
theorem DO.Gu{l:List Int}{pl:Int→Option Int}(h:DO l pl){i j:Nat}{z:Int}(hi:l[i]? =some z)(hj:l[j]? =some z):i=j:=by
 have h1:=(h z i).2 ⟨by omega,by simpa using hi⟩
 have h2:=(h z j).2 ⟨by omega,by simpa using hj⟩
 rw[h1]at h2
 injection h2 with h2
 omega
def Jb(l:List Int)(i:Int)(z:Int):Prop:=∃k:Nat,(k:Int)≠i∧l[k]? =some z
theorem RG.set{l:List Int}{pl:Int→Option Int}{i x:Int}(h:RG l pl i x)(h0:0≤i)(hl:i<l.length)(hx:¬Jb l i x):DO (l.set i.toNat x) (cX pl x i):=by
 intro z k
 have tC:i.toNat<l.length:=by omega
 by_cases e:z=x
 ·subst e
  simp only[cX,if_true]
  constructor
  ·intro hk;injection hk with hk;subst hk;exact⟨h0,by rw[List.getElem?_set_self tC]⟩
  ·rintro⟨a,b⟩
   by_cases e2:k=i
   ·rw[e2]
   ·exfalso
    rw[List.getElem?_set_ne (by omega)]at b
    exact hx ⟨k.toNat,by omega,b⟩
 ·simp only[cX,if_neg e]
  rw[h z e k]
  constructor
  ·rintro⟨a,b,c⟩;exact⟨a,by rw[List.getElem?_set_ne (by omega)];exact c⟩
  ·rintro⟨a,b⟩
   have e2:k≠i:=fun e2=>by
    rw[e2,List.getElem?_set_self tC]at b;injection b with b;exact e b.symm
   exact⟨a,e2,by rw[List.getElem?_set_ne (by omega)]at b;exact b⟩
theorem RG.move{l:List Int}{pl:Int→Option Int}{i p x y:Int}(h:RG l pl i x)(h0:0≤i)(hl:i<l.length)(p0:0≤p)(hpi:p≠i)(hy:l[p.toNat]? =some y)(hx:¬Jb l i x):
  RG (l.set i.toNat y) (cX pl y i) p x∧(¬Jb (l.set i.toNat y) p x)∧∀z,Jb (l.set i.toNat y) p z↔Jb l i z:=by
 have tC:i.toNat<l.length:=by omega
 have qL:y≠x:=fun e=>hx ⟨p.toNat,by omega,by rw[hy,e]⟩
 have ZO:∀k:Int,0≤k→k≠i→l[k.toNat]? =some y→k=p:=by
  intro k k0 ki hk
  have h1:=(h y qL k).2 ⟨k0,ki,hk⟩
  have h2:=(h y qL p).2 ⟨p0,hpi,hy⟩
  rw[h1]at h2;injection h2
 have Lu:∀z,Jb (l.set i.toNat y) p z↔Jb l i z:=by
  intro z
  constructor
  ·rintro⟨k,k1,k2⟩
   by_cases e:i.toNat=k
   ·rw[←e,List.getElem?_set_self tC]at k2
    injection k2 with k2
    subst k2
    exact⟨p.toNat,by omega,hy⟩
   ·rw[List.getElem?_set_ne e]at k2
    exact⟨k,by omega,k2⟩
  ·rintro⟨k,k1,k2⟩
   by_cases e:(k:Int)=p
   ·refine⟨i.toNat,by omega,?_⟩
    rw[List.getElem?_set_self tC]
    rw[show k=p.toNat by omega,hy]at k2
    exact k2
   ·exact⟨k,e,by rw[List.getElem?_set_ne (by omega)];exact k2⟩
 refine⟨?_,fun hc=>hx ((Lu x).1 hc),Lu⟩
 intro z hz k
 by_cases e:z=y
 ·subst e
  simp only[cX,if_true]
  constructor
  ·intro hk;injection hk with hk;subst hk;exact⟨h0,by omega,by rw[List.getElem?_set_self tC]⟩
  ·rintro⟨a,b,c⟩
   by_cases e2:k=i
   ·rw[e2]
   ·rw[List.getElem?_set_ne (by omega)]at c
    exact absurd (ZO k a e2 c) b
 ·simp only[cX,if_neg e]
  rw[h z hz k]
  constructor
  ·rintro⟨a,b,c⟩
   refine⟨a,fun e2=>?_,by rw[List.getElem?_set_ne (by omega)];exact c⟩
   rw[e2,hy]at c;injection c with c;exact e c.symm
  ·rintro⟨a,b,c⟩
   have e2:k≠i:=fun e2=>by rw[e2,List.getElem?_set_self tC]at c;injection c with c;exact e c.symm
   exact⟨a,e2,by rw[List.getElem?_set_ne (by omega)]at c;exact c⟩
theorem mem_set{l:List Int}{i:Nat}(hi:i<l.length)(x z:Int):z∈l.set i x↔z=x∨Jb l i z:=by
 constructor
 ·intro h
  obtain⟨k,hk⟩:=List.getElem?_of_mem h
  by_cases e:i=k
  ·subst e;rw[List.getElem?_set_self hi]at hk;injection hk with hk;exact .inl hk.symm
  ·rw[List.getElem?_set_ne e]at hk;exact .inr ⟨k,by omega,hk⟩
 ·rintro(rfl| ⟨k,k1,k2⟩)
  ·exact List.mem_of_getElem? (i:=i) (List.getElem?_set_self hi)
  ·exact List.mem_of_getElem? (i:=k) (by rw[List.getElem?_set_ne (by omega)];exact k2)
theorem DP{lt:Int→Int→Bool}{d:Int}(x:Int):∀ (m:Nat) (l:List Int) (pl:Int→Option Int) (i:Int),i.toNat≤m→0≤i→i<l.length→RG l pl i x→¬Jb l i x→
  DO (gu lt d x m l pl i).l (gu lt d x m l pl i).pl∧∀z,z∈(gu lt d x m l pl i).l↔z=x∨Jb l i z:=by
 intro m
 induction m with
 |zero=>
  intro l pl i hm h0 hl hP hx
  exact⟨hP.set h0 hl hx,fun z=>by have:=mem_set (l:=l) (i:=i.toNat) (by omega) x z;rw[show((i.toNat:Nat):Int)=i by omega]at this;exact this⟩
 |succ m ih=>
  intro l pl i hm h0 hl hP hx
  have tG:DO (l.set i.toNat x) (cX pl x i)∧∀z,z∈l.set i.toNat x↔z=x∨Jb l i z:=
   ⟨hP.set h0 hl hx,fun z=>by have:=mem_set (l:=l) (i:=i.toNat) (by omega) x z;rw[show((i.toNat:Nat):Int)=i by omega]at this;exact this⟩
  unfold gu
  cases hp:bh d i with
  |none=>exact tG
  |some p=>
   have hb:=fz hp
   simp only
   split
   ·have hy:l[p.toNat]? =some (l.getD p.toNat 0):=by
     rw[List.getD_eq_getElem?_getD,List.getElem?_eq_getElem (by omega)];rfl
    obtain⟨m1,m2,m3⟩:=hP.move h0 hl hb.1 (by omega) hy hx
    obtain⟨r1,r2⟩:=ih (l.set i.toNat (l.getD p.toNat 0)) (cX pl (l.getD p.toNat 0) i) p (by omega) hb.1 (by rw[List.length_set];omega) m1 m2
    exact⟨r1,fun z=>by rw[r2 z,m3 z]⟩
   ·exact tG
theorem Lv{lt:Int→Int→Bool}(ho:bB lt)(l:List Int)(d i:Int)(h:0≤d*i):∀ (m:Nat) (bU:Int),(m:Int)≤d - 1→d*i+1≤bU→bU<l.length→
  (∀c:Int,d*i+1≤c→c≤d*i+(d - m)→c<l.length→lt (l.getD c.toNat 0) (l.getD bU.toNat 0)=false)→
  ∀c:Int,d*i+1≤c→c≤d*i+d→c<l.length→lt (l.getD c.toNat 0) (l.getD (bT lt l d i m bU).1.toNat 0)=false:=by
 intro m
 induction m with
 |zero=>intro bU _ _ _ hc c c1 c2 c3;exact hc c c1 (by omega) c3
 |succ m ih=>
  intro bU hm h1 h2 hc c c1 c2 c3
  unfold bT
  split
  ·rename_i aR
   simp only
   split
   ·rename_i hl
    refine ih _ (by omega) (by omega) (by omega) (fun e e1 e2 e3=>?_) c c1 c2 c3
    by_cases he:e=d*i+(d - m)
    ·rw[he];exact ho.xN _
    ·have:=hc e e1 (by omega) e3
     cases hx:lt (l.getD e.toNat 0) (l.getD (d*i+(d - (m:Int))).toNat 0)with
     |false=>rfl
     |true=>
      have:=ho.tr _ _ _ hx hl
      simp_all
   ·rename_i hl
    refine ih _ (by omega) h1 h2 (fun e e1 e2 e3=>?_) c c1 c2 c3
    by_cases he:e=d*i+(d - m)
    ·rw[he];simpa using hl
    ·exact hc e e1 (by omega) e3
  ·rename_i aR
   refine ih _ (by omega) h1 h2 (fun e e1 e2 e3=>?_) c c1 c2 c3
   by_cases he:e=d*i+(d - m)
   ·omega
   ·exact hc e e1 (by omega) e3
theorem PE{lt:Int→Int→Bool}(ho:bB lt){d:Int}(hf:cT d)(x:Int):∀ (m:Nat) (l:List Int) (pl:Int→Option Int) (i:Int),l.length≤i.toNat+m→0≤i→i<l.length→dI lt d l i.toNat→
  (1≤i→lt x (l.getD (pa d i.toNat) 0)=false)→eY lt d (cV lt d x m l pl i).1:=by
 intro m
 induction m with
 |zero=>intro l pl i hm h0 hl;omega
 |succ m ih=>
  intro l pl i hm h0 hl hA hD
  have TN:=hf.1
  have Te:0≤d*i:=Int.mul_nonneg (by omega) h0
  have hit:((i.toNat:Nat):Int)=i:=by omega
  have PF:∀j:Nat,1≤j→(pa d j=i.toNat↔(d*i+1≤j∧(j:Int)≤d*i+d)):=fun j hj=>by have:=RE hf (i:=i.toNat) hj;rw[hit]at this;exact this
  unfold cV
  split
  ·rename_i hc
   exact hA.set hf (by omega) (fun j h1 h2 h3=>by have:=(PF j h1).1 h3;omega) (fun h=>hD (by omega))
  ·rename_i hc
   have hb:=nI lt l d i Te (d - 1).toNat (d*i+1) (by omega) (by omega) (by omega)
   have DN:(bT lt l d i (d - 1).toNat (d*i+1)).1≤d*i+d:=by
    have key:∀ (m:Nat) (bU:Int),(m:Int)≤d - 1→bU≤d*i+d→(bT lt l d i m bU).1≤d*i+d:=by
     intro m
     induction m with
     |zero=>intro bU _ h;exact h
     |succ m ih=>
      intro bU hm h
      unfold bT
      split
      ·simp only;split
       ·exact ih _ (by omega) (by omega)
       ·exact ih _ (by omega) h
      ·exact ih _ (by omega) h
    exact key _ _ (by omega) (by omega)
   have ZP:=Lv ho l d i Te (d - 1).toNat (d*i+1) (by omega) (by omega) (by omega) (fun c c1 c2 c3=>by rw[show c=d*i+1 by omega];exact ho.xN _)
   have aR:=qj hf h0 hb.1
   generalize bT lt l d i (d - 1).toNat (d*i+1)=B at*
   obtain⟨b,q⟩:=B
   simp only at hb DN ZP aR
   have hbp:pa d b.toNat=i.toNat:=(PF b.toNat (by omega)).2 ⟨by omega,by omega⟩
   have tC:i.toNat<l.length:=by omega
   have ut:∀j,1≤j→j<l.length→pa d j=i.toNat→lt (l.getD j 0) (l.getD b.toNat 0)=false:=fun j h1 h2 h3=>by
    have h4:=(PF j h1).1 h3
    have:=ZP j h4.1 h4.2 (by omega)
    simpa using this
   simp only
   by_cases hy:lt (l.getD b.toNat 0) x=true
   ·rw[if_pos hy]
    refine ih _ _ b (by rw[List.length_set];omega) (by omega) (by rw[List.length_set];omega) ⟨fun j h1 h2 h3 h4=>?_,fun j h1 h2 h3 h4=>?_⟩ (fun _=>?_)
    ·rw[List.length_set]at h2
     rw[dD _ _ _ _ tC,dD _ _ _ _ tC]
     have VZ:=cK hf h1
     by_cases e1:i.toNat=j
     ·subst e1
      rw[if_pos rfl,if_neg (by omega)]
      have:=hA.2 b.toNat (by omega) (by omega) hbp h1
      exact this
     ·rw[if_neg e1]
      by_cases e2:i.toNat=pa d j
      ·rw[if_pos e2];exact ut j h1 h2 e2.symm
      ·rw[if_neg e2];exact hA.1 j h1 h2 (Ne.symm e1) (Ne.symm e2)
    ·rw[List.length_set]at h2
     rw[hbp,dD _ _ _ _ tC,dD _ _ _ _ tC,if_pos rfl]
     have VZ:=cK hf h1
     rw[if_neg (by omega)]
     have:=hA.1 j h1 h2 (by omega) (by omega)
     rw[h3]at this
     exact this
    ·rw[hbp,dD _ _ _ _ tC,if_pos rfl]
     exact ho.asym hy
   ·rw[if_neg hy]
    exact hA.set hf tC (fun j h1 h2 h3=>ho.nt _ _ _ (ut j h1 h2 h3) (by simpa using hy)) (fun h=>hD (by omega))
theorem Lw(lt:Int→Int→Bool)(d x:Int):∀ (m:Nat) (l:List Int) (pl:Int→Option Int) (i:Int),(cV lt d x m l pl i).1.length=l.length:=by
 intro m
 induction m with
 |zero=>intro l pl i;simp[cV]
 |succ m ih=>
  intro l pl i
  unfold cV
  split
  ·simp
  ·simp only
   split
   ·simp[ih]
   ·simp
theorem Lx{lt:Int→Int→Bool}{d:Int}(hf:cT d)(x:Int):∀ (m:Nat) (l:List Int) (pl:Int→Option Int) (i:Int),0≤i→i<l.length→RG l pl i x→¬Jb l i x→
  DO (cV lt d x m l pl i).1 (cV lt d x m l pl i).2.1∧∀z,z∈(cV lt d x m l pl i).1↔z=x∨Jb l i z:=by
 intro m
 induction m with
 |zero=>
  intro l pl i h0 hl hP hx
  exact⟨hP.set h0 hl hx,fun z=>by have:=mem_set (l:=l) (i:=i.toNat) (by omega) x z;rw[show((i.toNat:Nat):Int)=i by omega]at this;exact this⟩
 |succ m ih=>
  intro l pl i h0 hl hP hx
  have tG:DO (l.set i.toNat x) (cX pl x i)∧∀z,z∈l.set i.toNat x↔z=x∨Jb l i z:=
   ⟨hP.set h0 hl hx,fun z=>by have:=mem_set (l:=l) (i:=i.toNat) (by omega) x z;rw[show((i.toNat:Nat):Int)=i by omega]at this;exact this⟩
  have TN:=hf.1
  have Te:0≤d*i:=Int.mul_nonneg (by omega) h0
  unfold cV
  split
  ·exact tG
  ·have hb:=nI lt l d i Te (d - 1).toNat (d*i+1) (by omega) (by omega) (by omega)
   have aR:=qj hf h0 hb.1
   simp only
   split
   ·have hy:l[(bT lt l d i (d - 1).toNat (d*i+1)).1.toNat]? =some (l.getD (bT lt l d i (d - 1).toNat (d*i+1)).1.toNat 0):=by
     rw[List.getD_eq_getElem?_getD,List.getElem?_eq_getElem (by omega)];rfl
    obtain⟨m1,m2,m3⟩:=hP.move h0 hl (by omega) (by omega) hy hx
    obtain⟨r1,r2⟩:=ih _ _ _ (by omega) (by rw[List.length_set];omega) m1 m2
    exact⟨r1,fun z=>by rw[r2 z,m3 z]⟩
   ·exact tG
def nJ(d i:Int):Nat:=MA d i.toNat i
theorem sZ{d i p:Int}(h:bh d i=some p):nJ d i=nJ d p+1:=Ro h _ (Nat.le_refl _)
theorem nK{d:Int}(hf:cT d):∀ (m:Nat) (i j:Int),j.toNat≤m→i≤j→nJ d i≤nJ d j:=by
 intro m
 induction m with
 |zero=>
  intro i j hm KJ
  have:nJ d i=0:=by unfold nJ;rw[show i.toNat=0 by omega];rfl
  omega
 |succ m ih=>
  intro i j hm KJ
  by_cases hi:1≤i
  ·have TN:=hf.1
   have hp:bh d i=some ((i - 1) / d):=by unfold bh;rw[if_pos ⟨hf,hi⟩]
   have hq:bh d j=some ((j - 1) / d):=by unfold bh;rw[if_pos ⟨hf,by omega⟩]
   have hb:=fz hq
   rw[sZ hp,sZ hq]
   have:=ih ((i - 1) / d) ((j - 1) / d) (by omega) (Int.ediv_le_ediv (by omega) (by omega))
   omega
  ·have:nJ d i=0:=by
    unfold nJ
    have hn:bh d i=none:=by unfold bh;rw[if_neg (by omega)]
    cases i.toNat<;>simp[MA,hn]
   omega
theorem Ly(lt:Int→Int→Bool)(l:List Int)(d i:Int):∀ (m:Nat) (bU:Int),(bT lt l d i m bU).2≤m:=by
 intro m
 induction m with
 |zero=>intro bU;simp[bT]
 |succ m ih=>
  intro bU
  unfold bT
  split
  ·simp only
   have:=ih (if lt (l.getD (d*i+(d - m)).toNat 0) (l.getD bU.toNat 0)=true then d*i+(d - m)else bU)
   omega
  ·have:=ih bU;omega
theorem Nf{lt:Int→Int→Bool}{d:Int}(hf:cT d)(x:Int):∀ (m:Nat) (l:List Int) (pl:Int→Option Int) (i:Int),l.length≤i.toNat+m→0≤i→i<l.length→
  ((cV lt d x m l pl i).2.2:Int)+d*(nJ d i:Nat)≤d*(nJ d ((l.length:Int) - 1):Nat):=by
 intro m
 induction m with
 |zero=>intro l pl i hm h0 hl;omega
 |succ m ih=>
  intro l pl i hm h0 hl
  have TN:=hf.1
  have Te:0≤d*i:=Int.mul_nonneg (by omega) h0
  have Gv:∀k,k≤(l.length:Int) - 1→d*(nJ d k:Nat)≤d*(nJ d ((l.length:Int) - 1):Nat):=fun k hk=>
   Int.mul_le_mul_of_nonneg_left (by have:=nK hf ((l.length:Int) - 1).toNat k ((l.length:Int) - 1) (Nat.le_refl _) hk;omega) (by omega)
  unfold cV
  split
  ·have:=Gv i (by omega);simp only;omega
  ·have hb:=nI lt l d i Te (d - 1).toNat (d*i+1) (by omega) (by omega) (by omega)
   have aR:=qj hf h0 hb.1
   have ahZ:=Ly lt l d i (d - 1).toNat (d*i+1)
   have DN:(bT lt l d i (d - 1).toNat (d*i+1)).1≤d*i+d:=by
    have key:∀ (m:Nat) (bU:Int),(m:Int)≤d - 1→bU≤d*i+d→(bT lt l d i m bU).1≤d*i+d:=by
     intro m
     induction m with
     |zero=>intro bU _ h;exact h
     |succ m ih=>
      intro bU hm h
      unfold bT
      split
      ·simp only;split
       ·exact ih _ (by omega) (by omega)
       ·exact ih _ (by omega) h
      ·exact ih _ (by omega) h
    exact key _ _ (by omega) (by omega)
   generalize bT lt l d i (d - 1).toNat (d*i+1)=B at*
   have PC:bh d B.1=some i:=by
    unfold bh
    rw[if_pos ⟨hf,by omega⟩]
    have:=uZ (d:=d) (i:=i) (j:=B.1 - d*i) TN h0 (by omega) (by omega)
    rw[show d*i+(B.1 - d*i) - 1=B.1 - 1 by omega]at this
    rw[this]
   have EP:=sZ PC
   have hmul:d*((nJ d i+1:Nat):Int)=d*(nJ d i:Nat)+d:=by rw[Int.natCast_add,Int.mul_add];simp
   simp only
   split
   ·have:=ih (l.set i.toNat (l.getD B.1.toNat 0)) (cX pl (l.getD B.1.toNat 0) i) B.1 (by rw[List.length_set];omega) (by omega) (by rw[List.length_set];omega)
    rw[List.length_set,EP,hmul]at this
    simp only
    omega
   ·have:=Gv B.1 (by omega)
    rw[EP,hmul]at this
    simp only
    omega
def cS(lt:Int→Int→Bool)(d x:Int)(l:List Int)(pl:Int→Option Int)(i:Int):List Int×(Int→Option Int)×Nat:=
 if l.getD (l.length - 1) 0=x then(l.dropLast,ur pl x,0)
 else
  let U:=gu lt d (l.getD (l.length - 1) 0) i.toNat l.dropLast (ur pl x) i
  if U.at_=i then
   let D:=cV lt d (l.getD (l.length - 1) 0) U.l.length U.l U.pl i
   (D.1,D.2.1,U.asked+D.2.2)
  else(U.l,U.pl,U.asked)
theorem zA(l:List Int)(j:Nat)(h:j<l.length - 1):l.dropLast.getD j 0=l.getD j 0:=by
 rw[List.getD_eq_getElem?_getD,List.getD_eq_getElem?_getD,List.getElem?_dropLast,if_pos h]
theorem Lz{lt:Int→Int→Bool}(ho:bB lt){d:Int}(hf:cT d){x i:Int}{l:List Int}{pl:Int→Option Int}(hh:eY lt d l)(hp:DO l pl)(hi:pl x=some i):
  eY lt d (cS lt d x l pl i).1∧DO (cS lt d x l pl i).1 (cS lt d x l pl i).2.1∧(cS lt d x l pl i).1.length=l.length - 1∧
   (∀z,z∈(cS lt d x l pl i).1↔z∈l∧z≠x)∧((cS lt d x l pl i).2.2:Int)≤d*(nJ d ((l.length:Int) - 1):Nat)+1:=by
 obtain⟨h0,hx⟩:=(hp x i).1 hi
 have tC:i.toNat<l.length:=(List.getElem?_eq_some_iff.1 hx).1
 have TN:=hf.1
 have nG:l[l.length - 1]? =some (l.getD (l.length - 1) 0):=by
  rw[List.getD_eq_getElem?_getD,List.getElem?_eq_getElem (by omega)];rfl
 have xb:∀k,k<l.length - 1→l.dropLast[k]? =l[k]? :=fun k hk=>by rw[List.getElem?_dropLast,if_pos hk]
 have kw:eY lt d l.dropLast:=by
  intro j h1 h2
  rw[List.length_dropLast]at h2
  have:=cK hf h1
  rw[zA _ _ h2,zA _ _ (by omega)]
  exact hh j h1 (by omega)
 unfold cS
 split
 ·rename_i he
  have mX:i.toNat=l.length - 1:=hp.Gu hx (by rw[nG,he])
  refine⟨kw,fun z k=>?_,by simp,fun z=>?_,?_⟩
  ·show ur pl x z=some k↔(0≤k∧l.dropLast[k.toNat]? =some z)
   unfold ur
   by_cases hz:z=x
   ·subst hz
    simp only[if_true]
    constructor
    ·intro h;cases h
    ·rintro⟨a,b⟩
     have hk:k.toNat<l.length - 1:=by have:=(List.getElem?_eq_some_iff.1 b).1;rwa[List.length_dropLast]at this
     rw[xb _ hk]at b
     have:=hp.Gu b hx
     omega
   ·rw[if_neg hz,hp z k]
    constructor
    ·rintro⟨a,b⟩
     have hk:k.toNat<l.length:=(List.getElem?_eq_some_iff.1 b).1
     have Ju:k.toNat≠l.length - 1:=fun e=>by rw[e,nG,he]at b;injection b with b;exact hz b.symm
     exact⟨a,by rw[xb _ (by omega)];exact b⟩
    ·rintro⟨a,b⟩
     have hk:k.toNat<l.length - 1:=by have:=(List.getElem?_eq_some_iff.1 b).1;rwa[List.length_dropLast]at this
     exact⟨a,by rw[xb _ hk]at b;exact b⟩
  ·constructor
   ·intro h
    obtain⟨k,hk⟩:=List.getElem?_of_mem h
    have hk1:k<l.length - 1:=by have:=(List.getElem?_eq_some_iff.1 hk).1;rwa[List.length_dropLast]at this
    rw[xb _ hk1]at hk
    refine⟨List.mem_of_getElem? hk,fun e=>?_⟩
    subst e
    have:=hp.Gu hk hx
    omega
   ·rintro⟨h,hz⟩
    obtain⟨k,hk⟩:=List.getElem?_of_mem h
    have hk1:k<l.length:=(List.getElem?_eq_some_iff.1 hk).1
    have Ju:k≠l.length - 1:=fun e=>by rw[e,nG,he]at hk;injection hk with hk;exact hz hk.symm
    exact List.mem_of_getElem? (i:=k) (by rw[xb _ (by omega)];exact hk)
  ·have:0≤d*(nJ d ((l.length:Int) - 1):Nat):=Int.mul_nonneg (by omega) (by omega)
   simp only
   omega
 ·rename_i aS
  generalize hy:l.getD (l.length - 1) 0=y at*
  have mX:i.toNat<l.length - 1:=by
   rcases Nat.lt_or_ge i.toNat (l.length - 1)with h|h
   ·exact h
   ·exfalso
    rw[show i.toNat=l.length - 1 by omega,nG]at hx
    injection hx with hx
    exact aS hx
  have hP:RG l.dropLast (ur pl x) i y:=by
   intro z hz k
   unfold ur
   by_cases e:z=x
   ·subst e
    simp only[if_true]
    constructor
    ·intro h;cases h
    ·rintro⟨a,b,c⟩
     have hk:k.toNat<l.length - 1:=by have:=(List.getElem?_eq_some_iff.1 c).1;rwa[List.length_dropLast]at this
     rw[xb _ hk]at c
     have:=hp.Gu c hx
     omega
   ·rw[if_neg e,hp z k]
    constructor
    ·rintro⟨a,b⟩
     have hk:k.toNat<l.length:=(List.getElem?_eq_some_iff.1 b).1
     have Ju:k.toNat≠l.length - 1:=fun e2=>by rw[e2,nG]at b;injection b with b;exact hz b.symm
     exact⟨a,fun e2=>by rw[e2,hx]at b;injection b with b;exact e b.symm,by rw[xb _ (by omega)];exact b⟩
    ·rintro⟨a,_,b⟩
     have hk:k.toNat<l.length - 1:=by have:=(List.getElem?_eq_some_iff.1 b).1;rwa[List.length_dropLast]at this
     exact⟨a,by rw[xb _ hk]at b;exact b⟩
  have hO:¬Jb l.dropLast i y:=by
   rintro⟨k,k1,k2⟩
   have hk:k<l.length - 1:=by have:=(List.getElem?_eq_some_iff.1 k2).1;rwa[List.length_dropLast]at this
   rw[xb _ hk]at k2
   have:=hp.Gu k2 nG
   omega
  have cF:∀z,(z=y∨Jb l.dropLast i z)↔(z∈l∧z≠x):=by
   intro z
   constructor
   ·rintro(rfl| ⟨k,k1,k2⟩)
    ·exact⟨List.mem_of_getElem? nG,aS⟩
    ·have hk:k<l.length - 1:=by have:=(List.getElem?_eq_some_iff.1 k2).1;rwa[List.length_dropLast]at this
     rw[xb _ hk]at k2
     refine⟨List.mem_of_getElem? k2,fun e=>?_⟩
     subst e
     have:=hp.Gu k2 hx
     omega
   ·rintro⟨h,hz⟩
    obtain⟨k,hk⟩:=List.getElem?_of_mem h
    have hk1:k<l.length:=(List.getElem?_eq_some_iff.1 hk).1
    by_cases e:k=l.length - 1
    ·rw[e,nG]at hk;injection hk with hk;exact .inl hk.symm
    ·exact .inr ⟨k,fun e2=>hz (by rw[show k=i.toNat by omega,hx]at hk;injection hk with hk;exact hk.symm),by rw[xb _ (by omega)];exact hk⟩
  have bm:(i:Int)<l.dropLast.length:=by rw[List.length_dropLast];omega
  have Ng:=kw.but ho hf i.toNat
  have EP:=DP (lt:=lt) (d:=d) y i.toNat l.dropLast (ur pl x) i (Nat.le_refl _) h0 bm hP hO
  have Gv:d*(nJ d ((l.length:Int) - 1 - 1):Nat)≤d*(nJ d ((l.length:Int) - 1):Nat):=
   Int.mul_le_mul_of_nonneg_left (by have:=nK hf ((l.length:Int) - 1).toNat ((l.length:Int) - 1 - 1) ((l.length:Int) - 1) (Nat.le_refl _) (by omega);omega) (by omega)
  rcases RF hf (lt:=lt) y l.dropLast (ur pl x) i h0 with ⟨s1,s2,s3,s4,s5⟩| ⟨s1,s2,s3⟩
  ·simp only
   rw[if_pos s1,s2,s3,List.length_set]
   simp only
   have adV:i.toNat<l.dropLast.length:=by rw[List.length_dropLast];omega
   have LA:∀j,j≠i.toNat→(l.dropLast.set i.toNat y).getD j 0=l.dropLast.getD j 0:=fun j hj=>by rw[dD _ _ _ _ adV,if_neg (Ne.symm hj)]
   have hP2:RG (l.dropLast.set i.toNat y) (cX (ur pl x) y i) i y:=by
    intro z hz k
    unfold cX
    rw[if_neg hz,hP z hz k]
    constructor
    ·rintro⟨a,b,c⟩;exact⟨a,b,by rw[List.getElem?_set_ne (by omega)];exact c⟩
    ·rintro⟨a,b,c⟩;exact⟨a,b,by rw[List.getElem?_set_ne (by omega)]at c;exact c⟩
   have Lu:∀z,Jb (l.dropLast.set i.toNat y) i z↔Jb l.dropLast i z:=by
    intro z
    constructor
    ·rintro⟨k,k1,k2⟩;exact⟨k,k1,by rw[List.getElem?_set_ne (by omega)]at k2;exact k2⟩
    ·rintro⟨k,k1,k2⟩;exact⟨k,k1,by rw[List.getElem?_set_ne (by omega)];exact k2⟩
   have vU:(i:Int)< (l.dropLast.set i.toNat y).length:=by rw[List.length_set];exact bm
   obtain⟨d1,d2⟩:=Lx (lt:=lt) hf y l.dropLast.length (l.dropLast.set i.toNat y) (cX (ur pl x) y i) i h0 vU hP2 (fun hc=>hO ((Lu y).1 hc))
   refine⟨?_,d1,by rw[Lw,List.length_set,List.length_dropLast],fun z=>by rw[d2 z,Lu z];exact cF z,?_⟩
   ·refine PE ho hf y _ _ _ i (by rw[List.length_set];omega) h0 vU ⟨fun j h1 h2 h3 h4=>?_,fun j h1 h2 h3 h4=>?_⟩ (fun h=>?_)
    ·rw[LA j h3,LA _ h4];exact Ng.1 j h1 (by simpa using h2) h3 h4
    ·have:=cK hf h1
     have:=cK hf h4
     rw[LA j (by omega),LA _ (by omega)]
     exact Ng.2 j h1 (by simpa using h2) h3 h4
    ·have:=cK hf (j:=i.toNat) (by omega)
     rw[LA _ (by omega)]
     exact s5 h
   ·have:=Nf (lt:=lt) hf y l.dropLast.length (l.dropLast.set i.toNat y) (cX (ur pl x) y i) i (by rw[List.length_set];omega) h0 vU
    have hdl:l.dropLast.length=l.length - 1:=List.length_dropLast
    rw[List.length_set,show((l.dropLast.length:Nat):Int) - 1=(l.length:Int) - 1 - 1 by omega]at this
    have h5:0≤d*(nJ d i:Nat):=Int.mul_nonneg (by omega) (by omega)
    omega
  ·simp only
   rw[if_neg (by omega)]
   have QJ:=cK hf (j:=i.toNat) (by omega)
   refine⟨JX ho hf y _ _ _ i (Nat.le_refl _) h0 bm Ng (fun j h1 h2 h3=>?_),EP.1,by rw[xR,List.length_dropLast],fun z=>by rw[EP.2 z];exact cF z,?_⟩
   ·have e1:=Ng.2 j h1 h2 h3 (by omega)
    cases hxx:lt (l.dropLast.getD j 0) y with
    |false=>rfl
    |true=>have:=ho.tr _ _ _ hxx s3;rw[this]at e1;cases e1
   ·have e1:=Gt lt d y i.toNat l.dropLast (ur pl x) i
    have e2:=nK hf ((l.length:Int) - 1).toNat i ((l.length:Int) - 1) (Nat.le_refl _) (by omega)
    unfold nJ at e2 ⊢
    have e3:(1:Int)*(MA d ((l.length:Int) - 1).toNat ((l.length:Int) - 1):Nat)≤d*(MA d ((l.length:Int) - 1).toNat ((l.length:Int) - 1):Nat):=
     Int.mul_le_mul_of_nonneg_right (by omega) (by omega)
    dsimp only
    omega
theorem Gw{lt:Int→Int→Bool}(ho:bB lt){d:Int}(hf:cT d){l:List Int}(hh:eY lt d l):∀ (m j:Nat),j≤m→j<l.length→lt (l.getD j 0) (l.getD 0 0)=false:=by
 intro m
 induction m with
 |zero=>intro j hj _;rw[show j=0 by omega];exact ho.xN _
 |succ m ih=>
  intro j hj hl
  by_cases h:1≤j
  ·have:=cK hf h
   exact ho.nt _ _ _ (hh j h hl) (ih (pa d j) (by omega) (by omega))
  ·rw[show j=0 by omega];exact ho.xN _
def Nw.key(w:Nw)(a:Int):Int:=(w.cs.getD a.toNat (0,0,0)).2.1
def Nw.seq(w:Nw)(a:Int):Int:=(w.cs.getD a.toNat (0,0,0)).2.2
def aT(w:Nw)(a b:Int):Bool:=decide (w.key a<w.key b∨w.key a=w.key b∧(w.seq a<w.seq b∨w.seq a=w.seq b∧a<b))
theorem aq(w:Nw):bB (aT w):=by
 refine⟨fun a=>?_,fun a b c h1 h2=>?_,fun a b c h1 h2=>?_,fun a b h=>?_⟩
 ·exact decide_eq_false (by omega)
 ·simp only[aT,decide_eq_true_eq]at*;omega
 ·simp only[aT,decide_eq_false_iff_not]at*;omega
 ·simp only[aT,decide_eq_true_eq];omega
theorem DQ{w:Nw}{a b:Int}(ha:cY w.cs a)(hb:cY w.cs b):w.ahead a b=aT w a b:=by
 obtain⟨a0,x,hx,_⟩:=id ha
 obtain⟨b0,y,hy,_⟩:=id hb
 have k1:w.key a=x.2.1:=by unfold Nw.key;rw[List.getD_eq_getElem?_getD,hx];rfl
 have k2:w.key b=y.2.1:=by unfold Nw.key;rw[List.getD_eq_getElem?_getD,hy];rfl
 have k3:w.seq a=x.2.2:=by unfold Nw.seq;rw[List.getD_eq_getElem?_getD,hx];rfl
 have k4:w.seq b=y.2.2:=by unfold Nw.seq;rw[List.getD_eq_getElem?_getD,hy];rfl
 unfold Nw.ahead aT
 rw[decide_eq_true ha,decide_eq_true hb,hx,hy,k1,k2,k3,k4]
 simp only[Bool.true_and]
 refine decide_eq_decide.2 ?_
 rw[Na,gW]
 omega
theorem jr(w:Nw)(x:Int)(c:Ce){a b:Int}(ha:a.toNat≠x.toNat)(hb:b.toNat≠x.toNat):aT (w.put x c) a b=aT w a b:=by
 have key:∀z:Int,z.toNat≠x.toNat→(w.put x c).key z=w.key z∧(w.put x c).seq z=w.seq z:=fun z hz=>by
  unfold Nw.key Nw.seq Nw.put
  simp only[List.getD_eq_getElem?_getD]
  rw[List.getElem?_set_ne (Ne.symm hz)]
  exact⟨rfl,rfl⟩
 unfold aT
 rw[(key a ha).1,(key a ha).2,(key b hb).1,(key b hb).2]
def Nw.first(w:Nw)(g x:Int):Prop:=0<g∧0≤x∧(∃e,w.cs[x.toNat]? =some (g,e))∧∀y,0≤y→(∃e,w.cs[y.toNat]? =some (g,e))→y≠x→aT w x y=true
theorem Nw.Ir{w:Nw}{g:Int}:w.len g=0↔(g≤0∨∀ (i:Nat) (c:Ce),w.cs[i]? =some c→c.1≠g):=by
 unfold Nw.len
 by_cases hg:0<g
 ·rw[if_pos hg]
  constructor
  ·intro h
   refine .inr fun i c hc e=>?_
   have h1:w.cs.countP (fun c=>decide (c.1=g))=0:=by omega
   exact(List.countP_eq_zero.1 h1) c (List.mem_of_getElem? hc) (decide_eq_true e)
  ·rintro(h|h)
   ·omega
   ·rw[List.countP_eq_zero.2 (fun c hc=>by
     obtain⟨i,hi⟩:=List.getElem?_of_mem hc
     simpa using h i c hi)]
    rfl
 ·rw[if_neg hg]
  exact⟨fun _=>.inl (by omega),fun _=>rfl⟩
theorem Nw.first.MC{w:Nw}{g x:Int}(h:w.first g x):cY w.cs x:=by
 obtain⟨e,he⟩:=h.2.2.1
 exact⟨h.2.1,_,he,h.1⟩
def aH(w:Nw)(x:Int):Int:=if 0≤x then(w.cs.getD x.toNat (0,0,0)).1 else 0
theorem mT{w:Nw}{x:Int}{y:Ce}(h0:0≤x)(h:w.cs[x.toNat]? =some y):aH w x=y.1:=by
 unfold aH
 rw[if_pos h0,List.getD_eq_getElem?_getD,h]
 rfl
theorem aF{w:Nw}{x:Int}(h:0<aH w x):0≤x∧x<w.cs.length∧∃e,w.cs[x.toNat]? =some (aH w x,e):=by
 unfold aH at h ⊢
 split at h
 ·rename_i h0
  rw[if_pos h0]
  rw[List.getD_eq_getElem?_getD]at h ⊢
  cases hc:w.cs[x.toNat]? with
  |none=>rw[hc]at h;simp at h
  |some y=>
   have:=(List.getElem?_eq_some_iff.1 hc).1
   exact⟨h0,by omega,y.2,rfl⟩
 ·omega
theorem bJ{w:Nw}{x:Int}:0<aH w x↔cY w.cs x:=by
 constructor
 ·intro h
  obtain⟨h0,_,e,he⟩:=aF h
  exact⟨h0,_,he,h⟩
 ·rintro⟨h0,y,hy,hp⟩
  rw[mT h0 hy]
  exact hp
theorem bN{w:Nw}{g x:Int}:w.first g x↔(0<g∧aH w x=g∧∀y,aH w y=g→y≠x→aT w x y=true):=by
 constructor
 ·rintro⟨h1,h2,⟨e,he⟩,h4⟩
  refine⟨h1,mT h2 he,fun y hy aS=>?_⟩
  obtain⟨y0,_,e',tD⟩:=aF (w:=w) (x:=y) (by omega)
  rw[hy]at tD
  exact h4 y y0 ⟨e',tD⟩ aS
 ·rintro⟨h1,h2,h3⟩
  obtain⟨x0,_,e,he⟩:=aF (w:=w) (x:=x) (by omega)
  rw[h2]at he
  exact⟨h1,x0,⟨e,he⟩,fun y y0 ⟨e',tD⟩ aS=>h3 y (mT y0 tD) aS⟩
theorem xd{w:Nw}{g:Int}(hg:0<g):w.len g=0↔∀x,aH w x≠g:=by
 rw[Nw.Ir]
 constructor
 ·rintro(h|h) x hx
  ·omega
  ·obtain⟨_,_,e,he⟩:=aF (w:=w) (x:=x) (by omega)
   exact h _ _ he hx
 ·intro h
  refine .inr fun i c hc e=>h (i:Int) ?_
  rw[mT (y:=c) (by omega) (by simpa using hc)]
  exact e
theorem eD{w:Nw}{i:Int}(hi:0≤i∧i<w.cs.length)(c:Ce)(x:Int):aH (w.put i c) x=if x=i then c.1 else aH w x:=by
 unfold aH Nw.put
 simp only
 by_cases hx:x=i
 ·subst hx
  rw[if_pos hi.1,if_pos rfl,List.getD_eq_getElem?_getD,List.getElem?_set_self (by omega)]
  rfl
 ·rw[if_neg hx]
  split
  ·rw[List.getD_eq_getElem?_getD,List.getElem?_set_ne (by omega),List.getD_eq_getElem?_getD]
  ·rfl
theorem RH{lt:Int→Int→Bool}(hs:bB lt){P:Int→Prop}{n:Nat}(hP:∀x,P x→0≤x∧x<n){x:Int}(hx:P x):∃m,P m∧∀y,P y→y≠m→lt m y=true:=by
 have key:∀k:Nat,∀x,P x→((List.range n).countP fun(i:Nat)=>lt i x)≤k→∃m,P m∧∀y,P y→y≠m→lt m y=true:=by
  intro k
  induction k with
  |zero=>
   intro x hx hk
   refine⟨x,hx,fun y hy aS=>?_⟩
   rcases hs.Oo x y (Ne.symm aS)with h|h
   ·exact h
   ·have zN:=hP y hy
    have:=(List.countP_eq_zero.1 (Nat.le_zero.1 hk)) y.toNat (List.mem_range.2 (by omega))
    rw[show((y.toNat:Nat):Int)=y by omega]at this
    exact absurd h this
  |succ k ih=>
   intro x hx hk
   by_cases hz:∃y,P y∧lt y x=true
   ·obtain⟨y,hy,hl⟩:=hz
    refine ih y hy ?_
    have zN:=hP y hy
    have h9:(List.range n).countP (fun(i:Nat)=>lt i y)< (List.range n).countP fun(i:Nat)=>lt i x:=by
     refine tH (fun i hi=>hs.tr _ _ _ hi hl) (x:=y.toNat) (List.mem_range.2 (by omega)) ?_ ?_
     ·rw[show((y.toNat:Nat):Int)=y by omega];exact hs.xN _
     ·rw[show((y.toNat:Nat):Int)=y by omega];exact hl
    omega
   ·refine⟨x,hx,fun y hy aS=>?_⟩
    rcases hs.Oo x y (Ne.symm aS)with h|h
    ·exact h
    ·exact absurd ⟨y,hy,h⟩ hz
 exact key _ x hx (Nat.le_refl _)
theorem xe{w:Nw}{g:Int}(hg:0<g)(h:w.len g≠0):∃x,w.first g x:=by
 have h1:¬ ∀x,aH w x≠g:=fun hn=>h ((xd hg).2 hn)
 obtain⟨x,hx⟩:=Classical.not_forall.1 h1
 have hx:=Classical.not_not.1 hx
 obtain⟨m,hm,hl⟩:=RH (aq w) (P:=fun x=>aH w x=g) (n:=w.cs.length) (fun x hx=>by obtain⟨a,b,_⟩:=aF (w:=w) (x:=x) (by omega);omega) hx
 exact⟨m,bN.2 ⟨hg,hm,hl⟩⟩
theorem dE{w:Nw}{i:Int}(hi:0≤i∧i<w.cs.length)(c:Ce){a b:Int}(ha:0<aH w a)(hb:0<aH w b)(Yd:a≠i)(hbi:b≠i):aT (w.put i c) a b=aT w a b:=by
 obtain⟨a0,_⟩:=aF ha
 obtain⟨b0,_⟩:=aF hb
 exact jr w i c (by omega) (by omega)
theorem Cp{w:Nw}{i k s:Int}(bS:cY w.cs i){y:Ce}(hy:w.cs[i.toNat]? =some y)(hl:¬gW y.2.1 y.2.2 k s){b:Int}(hb:0<aH w b)(hbi:b≠i)(h:aT w i b=true):aT (w.put i (y.1,k,s)) i b=true:=by
 obtain⟨b0,_⟩:=aF hb
 have Ff:=bS.1
 have tC:=(List.getElem?_eq_some_iff.1 hy).1
 have k1:(w.put i (y.1,k,s)).key i=k∧(w.put i (y.1,k,s)).seq i=s:=by
  unfold Nw.key Nw.seq Nw.put
  simp only[List.getD_eq_getElem?_getD]
  rw[List.getElem?_set_self tC]
  exact⟨rfl,rfl⟩
 have k2:w.key i=y.2.1∧w.seq i=y.2.2:=by
  unfold Nw.key Nw.seq
  simp only[List.getD_eq_getElem?_getD,hy]
  exact⟨rfl,rfl⟩
 have k3:(w.put i (y.1,k,s)).key b=w.key b∧(w.put i (y.1,k,s)).seq b=w.seq b:=by
  unfold Nw.key Nw.seq Nw.put
  simp only[List.getD_eq_getElem?_getD]
  rw[List.getElem?_set_ne (by omega)]
  exact⟨rfl,rfl⟩
 unfold aT at h ⊢
 rw[k2.1,k2.2]at h
 rw[k1.1,k1.2,k3.1,k3.2]
 unfold gW at hl
 simp only[decide_eq_true_eq]at h ⊢
 omega
def CQ(H:Hp)(c:Nat)(C:Nat→Prop)(w:Nw):Prop:=∃st,bv H c C st w
section
variable {H H' : Hp} {c : Nat} {C T : Nat → Prop} {w : Nw}
theorem CQ.ext(h:CQ H c C w)(e:ai T H H')(hd:∀x,C x→¬T x):CQ H' c C w:=by obtain⟨st,h⟩:=h;exact⟨st,h.ext e hd⟩
theorem CQ.fresh(h:CQ H c C w)(e:ay H H'):CQ H' c C w:=h.ext e fun _ _ h=>h
theorem CQ.slt(h:CQ H c C w):∀x,C x→x<H.size:=by obtain⟨st,h⟩:=h;exact h.slt
theorem CQ.Fc(h:CQ H c C w):w.cs.length≤65536:=by obtain⟨st,h⟩:=h;exact h.Fc
theorem CQ.Hv(h:CQ H c C w):w.hs.length≤65537:=by obtain⟨st,h⟩:=h;exact h.Hv
theorem CQ.home(h:CQ H c C w):∀x∈w.cs,0≤x.1∧x.1<w.hs.length:=by obtain⟨st,h⟩:=h;exact h.home
theorem CQ.live(h:CQ H c C w):∀x∈w.cs,0<x.1→w.hs[x.1.toNat]? =some true:=by obtain⟨st,h⟩:=h;exact h.live
theorem CQ.hm(h:CQ H c C w)(x:Int):0≤aH w x∧(0<aH w x→w.has (aH w x)∧aH w x<w.hs.length):=by
 by_cases h0:0<aH w x
 ·obtain⟨h1,h2,e,he⟩:=aF h0
  have hm:=List.mem_of_getElem? he
  have:=h.home _ hm
  have hl:=h.live _ hm h0
  exact⟨by omega,fun _=>⟨⟨by omega,hl⟩,this.2⟩⟩
 ·refine⟨?_,fun h=>absurd h h0⟩
  unfold aH
  split
  ·rw[List.getD_eq_getElem?_getD]
   cases hc:w.cs[x.toNat]? with
   |none=>exact Int.le_refl _
   |some y=>exact(h.home y (List.mem_of_getElem? hc)).1
  ·exact Int.le_refl _
theorem CQ.pos(h:CQ H c C w):0<w.hs.length:=by
 obtain⟨st,cs,len,rt,aX,h1,h2⟩:=h
 exact(List.getElem?_eq_some_iff.1 h2.h0).1
theorem cI(h:CQ H c C w)(a b:Int):ah Tryz.prog cP [ptr c,i64 a,i64 b] H fun v H'=>ax (v= .bool (w.ahead a b)∧CQ H' c C w∧ai C H H'):=by
 obtain⟨st,h⟩:=h
 refine(lM h a b).mono ?_
 rintro v H' ⟨h1,h2,h3⟩
 exact⟨h1,⟨_,h2⟩,h3⟩
theorem xf(h:CQ H c C w)(i:Int):ah Tryz.prog kP [ptr c,i64 i] H fun v H'=>ax (v=i64 (w.len i)∧H=H'):=by
 obtain⟨st,h⟩:=h
 exact u9 h i
theorem kC(h:CQ H c C w)(i:Int):ah Tryz.prog bF [ptr c,i64 i] H fun v H'=>ax (v= .bool (decide (w.has i))∧H=H'):=by
 obtain⟨st,h⟩:=h
 exact jq h i
theorem lN(h:CQ H c C w):ah Tryz.prog dA [ptr c] H fun v H'=>ax (
  (w.hs.length=65537∧v=i64 0∧H=H')∨(w.hs.length≠65537∧v=i64 w.hs.length∧∃C',CQ H' c C' w.make∧ai C H H'∧∀x,C' x→C x∨H.size≤x)):=by
 obtain⟨st,h⟩:=h
 refine(mR h).mono ?_
 rintro v H' (h1| ⟨h1,h2,S',h3,h4⟩)
 ·exact .inl h1
 ·exact .inr ⟨h1,h2,S',⟨_,h3⟩,h4⟩
theorem nL(h:CQ H c C w)(g i k s:Int):ah Tryz.prog kQ [ptr c,i64 g,i64 i,vN k s] H fun v H'=>ax (
  (¬ (w.has g∧(0≤i∧i<w.cs.length)∧¬cY w.cs i)∧v= .bool false∧CQ H' c C w∧ai C H H')∨
  ((w.has g∧(0≤i∧i<w.cs.length)∧¬cY w.cs i)∧v= .bool true∧CQ H' c C (w.put i (g,k,s))∧ai C H H')):=by
 obtain⟨st,h⟩:=h
 refine(oA h g i k s).mono ?_
 rintro v H' (⟨h1,h2,h3,h4⟩| ⟨h1,h2,h3,h4⟩)
 ·exact .inl ⟨h1,h2,⟨_,h3⟩,h4⟩
 ·exact .inr ⟨h1,h2,⟨_,h3⟩,h4⟩
theorem dm(h:CQ H c C w)(i:Int):ah Tryz.prog jv [ptr c,i64 i] H fun v H'=>ax (
  (¬cY w.cs i∧v= .tuple [i64 0,.bool false].toArray∧H=H')∨(cY w.cs i∧v= .tuple [i64 (aH w i),.bool true].toArray∧CQ H' c C w∧ai C H H')):=by
 obtain⟨st,h⟩:=h
 refine(eT h i).mono ?_
 rintro v H' (h1| ⟨h1,x,hx,h2,h3,h4⟩)
 ·exact .inl h1
 ·exact .inr ⟨h1,by rw[h2,mT h1.1 hx],⟨_,h3⟩,h4⟩
theorem jg(h:CQ H c C w)(i:Int):ah Tryz.prog bk [ptr c,i64 i] H fun v H'=>ax (CQ H' c C w∧ay H H'∧(
  (¬cY w.cs i∧v= .tuple [vN 0 0,.bool false].toArray)∨(cY w.cs i∧∃x,w.cs[i.toNat]? =some x∧v= .tuple [vN x.2.1 x.2.2,.bool true].toArray))):=by
 obtain⟨st,h⟩:=h
 refine(lK h i).mono ?_
 rintro v H' ⟨h1,h2,h3⟩
 exact⟨⟨_,h1⟩,h2,h3⟩
theorem ck(h:CQ H c C w)(i:Int):ah Tryz.prog jw [ptr c,i64 i] H fun v H'=>ax (
  (¬cY w.cs i∧v= .bool false∧H=H')∨(cY w.cs i∧v= .bool true∧CQ H' c C (w.put i (0,0,0))∧ai C H H')):=by
 obtain⟨st,h⟩:=h
 refine(mS h i).mono ?_
 rintro v H' (h1| ⟨h1,h2,h3,h4⟩)
 ·exact .inl h1
 ·exact .inr ⟨h1,h2,⟨_,h3⟩,h4⟩
theorem jh(h:CQ H c C w)(i k s:Int):ah Tryz.prog ix [ptr c,i64 i,vN k s] H fun v H'=>ax (
  (¬ (cY w.cs i∧∀x,w.cs[i.toNat]? =some x→¬gW x.2.1 x.2.2 k s)∧v= .bool false∧CQ H' c C w∧ay H H')∨
  (cY w.cs i∧v= .bool true∧∃x,w.cs[i.toNat]? =some x∧¬gW x.2.1 x.2.2 k s∧CQ H' c C (w.put i (x.1,k,s))∧ai C H H')):=by
 obtain⟨st,h⟩:=h
 refine(lL h i k s).mono ?_
 rintro v H' (⟨h1,h2,h3,h4⟩| ⟨h1,h2,x,h3,h4,h5,h6⟩)
 ·exact .inl ⟨h1,h2,⟨_,h3⟩,h4⟩
 ·exact .inr ⟨h1,h2,x,h3,h4,⟨_,h5⟩,h6⟩
end
theorem nM(cap:Int)(H:Hp):ah Tryz.prog wh [i64 cap] H fun v H'=>ax (
  ay H H'∧((¬ (0≤cap∧cap≤65536)∧v= .tuple [.pointer none,i64 31].toArray)∨
   (0≤cap∧cap≤65536)∧∃c C,v= .tuple [ptr c,i64 0].toArray∧CQ H' c C ⟨[false],List.replicate cap.toNat (0,0,0)⟩∧(∀x,C x→H.size≤x))):=by
 refine(oz cap H).mono ?_
 rintro v H' ⟨h1,h2| ⟨h2,c,C,h3,h4,h5⟩⟩
 ·exact⟨h1,.inl h2⟩
 ·exact⟨h1,.inr ⟨h2,c,C,h3,⟨_,h4⟩,h5⟩⟩
theorem jj{w:Nw}{a b:Int}(ha:0<aH w a)(hb:0<aH w b):w.ahead a b=aT w a b:=DQ (bJ.1 ha) (bJ.1 hb)
def br(tops:List Int)(h:Int):Int:=if 0≤h then tops.getD h.toNat (-1)else -1
theorem dW{tops:List Int}{h:Int}(h0:0≤h)(hl:h<tops.length):tops[h.toNat]? =some (br tops h):=by
 unfold br
 rw[if_pos h0,List.getD_eq_getElem?_getD]
 obtain⟨x,hx⟩:∃x,tops[h.toNat]? =some x:=⟨_,List.getElem?_eq_getElem (by omega)⟩
 rw[hx];rfl
theorem eU{tops:List Int}{h:Int}(h0:0≤h)(hl:h<tops.length)(x:Int):br (tops.set h.toNat x)=kL (br tops) h x:=by
 funext y
 show br _ y=if y=h then x else br tops y
 by_cases hy:y=h
 ·subst hy
  unfold br
  rw[if_pos h0,if_pos rfl,List.getD_eq_getElem?_getD,List.getElem?_set_self (by omega)]
  rfl
 ·rw[if_neg hy]
  unfold br
  split
  ·rw[List.getD_eq_getElem?_getD,List.getElem?_set_ne (by omega),List.getD_eq_getElem?_getD]
  ·rfl
theorem Cq(tops:List Int):br (tops++[-1])=br tops:=by
 funext y
 unfold br
 split
 ·rw[List.getD_eq_getElem?_getD,List.getD_eq_getElem?_getD]
  by_cases hy:y.toNat<tops.length
  ·rw[List.getElem?_append_left hy]
  ·rw[List.getElem?_append_right (by omega),List.getElem?_eq_none (l:=tops) (by omega)]
   by_cases h2:y.toNat - tops.length=0
   ·rw[h2];rfl
   ·rw[List.getElem?_eq_none (by simp;omega)]
 ·rfl
end Go.Proofs.YtjlnnljohemifaaGreat

namespace Go.Proofs.YtjlnnljohemifaaGreat
open Go Go.Vc
structure Lk where
 a:Int
 b:Int
 u:Int
def RI(y:Lk):List Value:=[i64 y.a,i64 y.b,i64 y.u]
def aP(L:List Lk):List Value:=L.flatMap RI
theorem kD(L:List Lk):(aP L).length=L.length*3:=by
 induction L with
 |nil=>rfl
 |cons c r ih=>simp only[aP,List.flatMap_cons,List.length_append,RI,List.length_cons,List.length_nil]at*;omega
def Lk.sz(y:Lk)(c:Bool):Int:=if c then y.b else y.a
def Lk.gY(y:Lk)(c:Bool)(v:Int):Lk:=if c then⟨y.a,v,y.u⟩else⟨v,y.b,y.u⟩
theorem Lk.TO(y:Lk)(c d:Bool)(v:Int):(y.gY c v).sz d=if d=c then v else y.sz d:=by cases c<;>cases d<;>rfl
theorem Lk.ZQ(y:Lk)(c:Bool)(v:Int):(y.gY c v).u=y.u:=by cases c<;>rfl
theorem OC{L:List Lk}{i:Nat}{y:Lk}(hi:L[i]? =some y):(aP L)[i*3]? =some (i64 y.a)∧(aP L)[i*3+1]? =some (i64 y.b)∧(aP L)[i*3+2]? =some (i64 y.u):=by
 induction L generalizing i with
 |nil=>simp at hi
 |cons a r ih=>
  have e:aP (a::r)=i64 a.a::i64 a.b::i64 a.u::aP r:=rfl
  rw[e]
  cases i with
  |zero=>simp at hi;subst hi;exact⟨rfl,rfl,rfl⟩
  |succ i=>
   have:=ih (by simpa using hi)
   rw[show(i+1)*3=i*3+3 by omega]
   exact this
theorem V0{L:List Lk}{i:Nat}{y:Lk}(hi:L[i]? =some y)(c:Bool):(aP L)[i*3+c.toNat]? =some (i64 (y.sz c)):=by
 obtain⟨h1,h2,h3⟩:=OC hi
 cases c
 ·exact h1
 ·exact h2
theorem xS{L:List Lk}{i:Nat}{y:Lk}(hi:L[i]? =some y)(c:Bool)(v:Int):(aP L).set (i*3+c.toNat) (i64 v)=aP (L.set i (y.gY c v)):=by
 induction L generalizing i with
 |nil=>simp at hi
 |cons a r ih=>
  have e:aP (a::r)=i64 a.a::i64 a.b::i64 a.u::aP r:=rfl
  cases i with
  |zero=>
   simp at hi;subst hi
   cases c<;>rfl
  |succ i=>
   have e2:aP ((a::r).set (i+1) (y.gY c v))=i64 a.a::i64 a.b::i64 a.u::aP (r.set i (y.gY c v)):=rfl
   rw[e,e2,show(i+1)*3+c.toNat=i*3+c.toNat+1+1+1 by omega]
   simp only[List.set_cons_succ]
   rw[ih (by simpa using hi)]
theorem Gx{L:List Lk}{i:Nat}{y:Lk}(hi:L[i]? =some y)(v:Int):(aP L).set (i*3+2) (i64 v)=aP (L.set i ⟨y.a,y.b,v⟩):=by
 induction L generalizing i with
 |nil=>simp at hi
 |cons a r ih=>
  have e:aP (a::r)=i64 a.a::i64 a.b::i64 a.u::aP r:=rfl
  cases i with
  |zero=>simp at hi;subst hi;rfl
  |succ i=>
   have e2:aP ((a::r).set (i+1) ⟨y.a,y.b,v⟩)=i64 a.a::i64 a.b::i64 a.u::aP (r.set i ⟨y.a,y.b,v⟩):=rfl
   rw[e,e2,show(i+1)*3+2=i*3+2+1+1+1 by omega]
   simp only[List.set_cons_succ]
   rw[ih (by simpa using hi)]
def bi(L:List Lk)(x:Int)(c:Bool):Int:=if 0≤x then(match L[x.toNat]? with|some y=>y.sz c|none=> -1)else -1
def bu(L:List Lk)(x:Int):Int:=if 0≤x then(match L[x.toNat]? with|some y=>y.u|none=> -1)else -1
theorem rS{L:List Lk}{x:Int}{y:Lk}(h0:0≤x)(h:L[x.toNat]? =some y)(c:Bool):bi L x c=y.sz c:=by unfold bi;rw[if_pos h0,h]
theorem xg{L:List Lk}{x:Int}{y:Lk}(h0:0≤x)(h:L[x.toNat]? =some y):bu L x=y.u:=by unfold bu;rw[if_pos h0,h]
theorem RJ{L:List Lk}{x:Int}(h:¬ (0≤x∧x<L.length))(c:Bool):bi L x c= -1:=by
 unfold bi
 split
 ·rw[List.getElem?_eq_none (by omega)]
 ·rfl
theorem Nh{L:List Lk}{x:Int}(h:¬ (0≤x∧x<L.length)):bu L x= -1:=by
 unfold bu
 split
 ·rw[List.getElem?_eq_none (by omega)]
 ·rfl
theorem uv{L:List Lk}{p:Int}{y:Lk}(h0:0≤p)(h:L[p.toNat]? =some y)(c:Bool)(v:Int):bi (L.set p.toNat (y.gY c v))=eG (bi L) p c v:=by
 have aR:=(List.getElem?_eq_some_iff.1 h).1
 funext z d
 unfold eG
 by_cases hz:z=p
 ·subst hz
  rw[rS h0 (List.getElem?_set_self aR),Lk.TO,rS h0 h]
  by_cases hd:d=c<;>simp[hd]
 ·rw[if_neg (fun h=>hz h.1)]
  unfold bi
  split
  ·rw[List.getElem?_set_ne (by omega)]
  ·rfl
theorem uw{L:List Lk}{p:Int}{y:Lk}(h0:0≤p)(h:L[p.toNat]? =some y)(c:Bool)(v:Int):bu (L.set p.toNat (y.gY c v))=bu L:=by
 have aR:=(List.getElem?_eq_some_iff.1 h).1
 funext z
 by_cases hz:z=p
 ·subst hz
  rw[xg h0 (List.getElem?_set_self aR),Lk.ZQ,xg h0 h]
 ·unfold bu
  split
  ·rw[List.getElem?_set_ne (by omega)]
  ·rfl
theorem DR{L:List Lk}{p:Int}{y:Lk}(h0:0≤p)(h:L[p.toNat]? =some y)(v:Int):bi (L.set p.toNat ⟨y.a,y.b,v⟩)=bi L:=by
 have aR:=(List.getElem?_eq_some_iff.1 h).1
 funext z d
 by_cases hz:z=p
 ·subst hz
  rw[rS h0 (List.getElem?_set_self aR),rS h0 h]
  rfl
 ·unfold bi
  split
  ·rw[List.getElem?_set_ne (by omega)]
  ·rfl
theorem DS{L:List Lk}{p:Int}{y:Lk}(h0:0≤p)(h:L[p.toNat]? =some y)(v:Int):bu (L.set p.toNat ⟨y.a,y.b,v⟩)=aI (bu L) p v:=by
 have aR:=(List.getElem?_eq_some_iff.1 h).1
 funext z
 unfold aI
 by_cases hz:z=p
 ·subst hz
  rw[xg h0 (List.getElem?_set_self aR),if_pos rfl]
 ·rw[if_neg hz]
  unfold bu
  split
  ·rw[List.getElem?_set_ne (by omega)]
  ·rfl
structure bP(H:Hp)(t tl:Nat)(L:List Lk):Prop where
 own:H.own t=some [.slice (some ⟨tl,0,none⟩) L.length L.length]
 nN:H.own tl=some (aP L)
 ne:t≠tl
theorem bP.ext{S:Nat→Prop}{H H':Hp}{t tl:Nat}{L:List Lk}(h:bP H t tl L)(e:ai S H H')(h1:¬S t)(h2:¬S tl):bP H' t tl L:=⟨e.own h.own h1,e.own h.nN h2,h.ne⟩
theorem bP.fresh{H H':Hp}{t tl:Nat}{L:List Lk}(h:bP H t tl L)(e:ay H H'):bP H' t tl L:=h.ext e (fun h=>h) (fun h=>h)
theorem bP.put{H:Hp}{t tl:Nat}{L L':List Lk}(h:bP H t tl L)(hl:L'.length=L.length):bP (H.wr tl (aP L')) t tl L':=
 ⟨by rw[DD h.ne.symm,hl];exact h.own,aj h.nN,h.ne⟩
section
variable {H : Hp} {t tl : Nat} {L : List Lk}
theorem gZ(h:bP H t tl L)(x:Int):ah Tryz.prog BO [ptr t,i64 x] H fun v H'=>ax (v= .bool (decide (0≤x∧x<L.length))∧H'=H):=by
 refine bc B9 ⟨rfl,?_⟩
 refine v1 lA.eq_1 ?_
 refine am.dec (fun g=>?_) (fun g=>?_)<;>refine v1 (ae h.own) ?_
 ·exact⟨congrArg Value.bool (by rw[decide_eq_decide];omega),rfl⟩
 ·exact⟨congrArg Value.bool (decide_eq_false (by omega)).symm,rfl⟩
theorem oB(H:Hp)(c:Bool):ah Tryz.prog JI [.bool c] H fun v H'=>ax (v=i64 c.toNat∧H'=H):=by
 refine bc JP ⟨rfl,?_⟩
 refine v1 ue.eq_1 ?_
 cases c<;>refine vs ?_<;>exact⟨rfl,rfl⟩
def it(x:Int):Value:=if x= -1 then .tuple [i64 0,.bool false].toArray else .tuple [i64 x,.bool true].toArray
theorem oC(H:Hp)(x:Int):ah Tryz.prog JJ [i64 x] H fun v H'=>ax (v=it x∧H'=H):=by
 refine bc JQ ⟨rfl,?_⟩
 refine v1 uf.eq_1 ?_
 unfold it
 refine am.dec (fun g=>?_) (fun g=>?_)<;>refine vs ?_
 ·rw[if_pos g];exact⟨rfl,rfl⟩
 ·rw[if_neg g];exact⟨rfl,rfl⟩
theorem lO(h:bP H t tl L)(x:Int)(c:Bool):ah Tryz.prog BN [ptr t,i64 x,.bool c] H fun v H'=>ax (v=i64 (bi L x c)∧H'=H):=by
 refine bc B8 ⟨rfl,?_⟩
 refine v1 lz.eq_1 ?_
 refine(gZ h x).mono ?_
 rintro _ H' ⟨rfl,e⟩
 obtain rfl:=e.symm
 refine vs ?_
 refine am.dec (fun g=>?_) (fun g=>?_)<;>refine vs ?_
 ·obtain⟨y,hy⟩:∃y,L[x.toNat]? =some y:=⟨_,List.getElem?_eq_getElem (by omega)⟩
  have hk:=V0 hy c
  have hc:c.toNat<2:=by cases c<;>decide
  refine v1 (ae h.own) ?_
  refine⟨_,oB H c,?_⟩
  refine⟨⟨by omega,by omega⟩,?_⟩
  refine v4 Nat.zero_add Nat.add_zero Nat.mul_one Int.toNat_natCast ?_
  refine⟨⟨by omega,by omega⟩,?_⟩
  refine v6 (ae h.nN) Nat.zero_add Nat.add_zero Nat.mul_one Int.toNat_natCast hk ?_
  rw[rS g.1 hy]
  exact⟨rfl,rfl⟩
 ·rw[RJ g]
  exact⟨rfl,rfl⟩
theorem mU(h:bP H t tl L)(x:Int):ah Tryz.prog yC [ptr t,i64 x] H fun v H'=>ax (v=i64 (bu L x)∧H'=H):=by
 refine bc zd ⟨rfl,?_⟩
 refine v1 iV.eq_1 ?_
 refine(gZ h x).mono ?_
 rintro _ H' ⟨rfl,e⟩
 obtain rfl:=e.symm
 refine vs ?_
 refine am.dec (fun g=>?_) (fun g=>?_)<;>refine vs ?_
 ·obtain⟨y,hy⟩:∃y,L[x.toNat]? =some y:=⟨_,List.getElem?_eq_getElem (by omega)⟩
  have hk:=(OC hy).2.2
  refine v1 (ae h.own) ?_
  refine⟨by omega,?_⟩
  refine v3 (ae h.nN) Nat.zero_add hk ?_
  rw[xg g.1 hy]
  exact⟨rfl,rfl⟩
 ·rw[Nh g]
  exact⟨rfl,rfl⟩
theorem oD(h:bP H t tl L)(x:Int):ah Tryz.prog Ac [ptr t,i64 x] H fun v H'=>ax (v=it (bi L x false)∧H'=H):=by
 refine bc AJ ⟨rfl,?_⟩
 refine v1 jR.eq_1 ?_
 refine(lO h x false).mono ?_
 rintro _ H' ⟨rfl,e⟩
 obtain rfl:=e.symm
 refine vs ?_
 refine(oC H (bi L x false)).mono ?_
 rintro _ H' ⟨rfl,e⟩
 obtain rfl:=e.symm
 unfold it
 by_cases g:bi L x false= -1
 ·simp only[if_pos g]
  refine vs ?_
  exact⟨(if_pos g).symm,rfl⟩
 ·simp only[if_neg g]
  refine vs ?_
  exact⟨(if_neg g).symm,rfl⟩
theorem cB(h:bP H t tl L)(x:Int):ah Tryz.prog yB [ptr t,i64 x] H fun v H'=>ax (v=it (bi L x true)∧H'=H):=by
 refine bc zc ⟨rfl,?_⟩
 refine v1 iU.eq_1 ?_
 refine(lO h x true).mono ?_
 rintro _ H' ⟨rfl,e⟩
 obtain rfl:=e.symm
 refine vs ?_
 refine(oC H (bi L x true)).mono ?_
 rintro _ H' ⟨rfl,e⟩
 obtain rfl:=e.symm
 unfold it
 by_cases g:bi L x true= -1
 ·simp only[if_pos g]
  refine vs ?_
  exact⟨(if_pos g).symm,rfl⟩
 ·simp only[if_neg g]
  refine vs ?_
  exact⟨(if_neg g).symm,rfl⟩
theorem rT(h:bP H t tl L)(x:Int):ah Tryz.prog Dl [ptr t,i64 x] H fun v H'=>ax (v=it (bu L x)∧H'=H):=by
 refine bc Dy ⟨rfl,?_⟩
 refine v1 mM.eq_1 ?_
 refine(mU h x).mono ?_
 rintro _ H' ⟨rfl,e⟩
 obtain rfl:=e.symm
 refine vs ?_
 refine(oC H (bu L x)).mono ?_
 rintro _ H' ⟨rfl,e⟩
 obtain rfl:=e.symm
 unfold it
 by_cases g:bu L x= -1
 ·simp only[if_pos g]
  refine vs ?_
  exact⟨(if_pos g).symm,rfl⟩
 ·simp only[if_neg g]
  refine vs ?_
  exact⟨(if_neg g).symm,rfl⟩
set_option maxHeartbeats 1000000 in
theorem fE(h:bP H t tl L){p x:Int}{c:Bool}(hp:0≤p∧p<L.length)(hx:0≤x∧x<L.length)(ec:p≠x)(hu:bu L x= -1)(hk:bi L p c= -1):
  ah Tryz.prog Ad [ptr t,i64 p,i64 x,.bool c] H fun v H'=>ax (v= .bool true∧∃L',bP H' t tl L'∧L'.length=L.length∧bi L'=vX (bi L) p x c∧bu L'=aI (bu L) x p∧ai (fun z=>z=tl) H H'):=by
 refine bc AK ⟨rfl,?_⟩
 refine v1 jS.eq_1 ?_
 refine(gZ h p).mono ?_
 rintro _ H' ⟨rfl,e⟩
 obtain rfl:=e.symm
 rw[decide_eq_true hp]
 refine vs ?_
 refine(gZ h x).mono ?_
 rintro _ H' ⟨rfl,e⟩
 obtain rfl:=e.symm
 rw[decide_eq_true hx]
 refine vs ?_
 refine am.dec (fun g=>absurd g ec) (fun _=>?_)
 refine vs ?_
 refine(mU h x).mono ?_
 rintro _ H' ⟨rfl,e⟩
 obtain rfl:=e.symm
 rw[hu]
 refine v1 decide_true ?_
 refine(lO h p c).mono ?_
 rintro _ H' ⟨rfl,e⟩
 obtain rfl:=e.symm
 rw[hk]
 refine v1 decide_true ?_
 obtain⟨y,hy⟩:∃y,L[p.toNat]? =some y:=⟨_,List.getElem?_eq_getElem (by omega)⟩
 have hc:c.toNat<2:=by cases c<;>decide
 have pt:=kD L
 refine v1 (ae h.own) ?_
 refine⟨_,oB H c,?_⟩
 refine⟨⟨by omega,by omega⟩,?_⟩
 refine v4 Nat.zero_add Nat.add_zero Nat.mul_one Int.toNat_natCast ?_
 refine⟨⟨by omega,by omega⟩,?_⟩
 refine v5 h.nN Nat.zero_add Nat.add_zero Nat.mul_one Int.toNat_natCast ?_
 refine⟨by omega,?_⟩
 have h1:=h.put (L':=L.set p.toNat (y.gY c x)) (by rw[List.length_set])
 have e1:ai (fun z=>z=tl) H (H.wr tl (aP (L.set p.toNat (y.gY c x)))):=(ai.refl (fun z=>z=tl) _).wr (fun _=>rfl) _
 rw[←xS hy c x]at h1 e1
 have k1:=uv hp.1 hy c x
 have u1:=uw hp.1 hy c x
 have l1:(L.set p.toNat (y.gY c x)).length=L.length:=List.length_set ..
 generalize L.set p.toNat (y.gY c x)=L1 at*
 refine vs ?_
 generalize H.wr tl ((aP L).set (p.toNat*3+c.toNat) (i64 x))=H1 at*
 obtain⟨y1,HD⟩:∃y,L1[x.toNat]? =some y:=⟨_,List.getElem?_eq_getElem (by omega)⟩
 have adW:=kD L1
 refine v1 (ae h1.own) ?_
 refine⟨by omega,?_⟩
 refine v2 h1.nN Nat.zero_add ?_
 refine⟨by omega,?_⟩
 have h2:=h1.put (L':=L1.set x.toNat ⟨y1.a,y1.b,p⟩) (by rw[List.length_set])
 have e2:ai (fun z=>z=tl) H1 (H1.wr tl (aP (L1.set x.toNat ⟨y1.a,y1.b,p⟩))):=(ai.refl (fun z=>z=tl) _).wr (fun _=>rfl) _
 rw[←Gx HD p]at h2 e2
 refine vs ?_
 exact⟨rfl,_,h2,by rw[List.length_set,l1],by rw[DR hx.1 HD,k1];rfl,by rw[DS hx.1 HD,u1],e1.trans e2⟩
set_option maxHeartbeats 1000000 in
theorem cM(h:bP H t tl L){x:Int}(hv:bu L x≠ -1→0≤bu L x∧bu L x<L.length):
  ah Tryz.prog BM [ptr t,i64 x] H fun v H'=>ax (v=it (bu L x)∧∃L',bP H' t tl L'∧L'.length=L.length∧bi L'=kI (bi L) (bu L) x∧bu L'=c7 (bu L) x∧ai (fun z=>z=tl) H H'):=by
 refine bc B7 ⟨rfl,?_⟩
 refine v1 ly.eq_1 ?_
 refine(mU h x).mono ?_
 rintro _ H' ⟨rfl,e⟩
 obtain rfl:=e.symm
 refine vs ?_
 have pt:=kD L
 refine am.dec (fun g=>?_) (fun g=>?_)<;>refine vs ?_
 ·refine⟨by unfold it;rw[if_pos g];rfl,L,h,rfl,by unfold kI;rw[if_pos g],?_,ai.refl _ _⟩
  funext z
  unfold c7 aI
  split
  ·rename_i hz;rw[hz,g]
  ·rfl
 have hx:0≤x∧x<L.length:=Classical.byContradiction fun hn=>g (Nh hn)
 obtain⟨p0,p1⟩:=hv g
 generalize hpe:bu L x=p at*
 obtain⟨y,hy⟩:∃y,L[p.toNat]? =some y:=⟨_,List.getElem?_eq_getElem (by omega)⟩
 have hc:∀c:Bool,c.toNat<2:=fun c=>by cases c<;>decide
 refine v1 (ae h.own) ?_
 refine⟨_,lO h p true,?_⟩
 refine vs ?_
 refine⟨_,oB H (decide (bi L p true=x)),?_⟩
 have V5:decide (bi L p true=x)=(bi L p true==x):=by by_cases e:bi L p true=x<;>simp[e]
 rw[V5]
 have I1:=hc (bi L p true==x)
 generalize hce:(bi L p true==x)=c at*
 refine⟨⟨by omega,by omega⟩,?_⟩
 refine v4 Nat.zero_add Nat.add_zero Nat.mul_one Int.toNat_natCast ?_
 refine⟨⟨by omega,by omega⟩,?_⟩
 refine v5 h.nN Nat.zero_add Nat.add_zero Nat.mul_one Int.toNat_natCast ?_
 refine⟨by omega,?_⟩
 have h1:=h.put (L':=L.set p.toNat (y.gY c (-1))) (by rw[List.length_set])
 have e1:ai (fun z=>z=tl) H (H.wr tl (aP (L.set p.toNat (y.gY c (-1))))):=(ai.refl (fun z=>z=tl) _).wr (fun _=>rfl) _
 rw[←xS hy c (-1)]at h1 e1
 have k1:=uv p0 hy c (-1)
 have u1:=uw p0 hy c (-1)
 have l1:(L.set p.toNat (y.gY c (-1))).length=L.length:=List.length_set ..
 generalize L.set p.toNat (y.gY c (-1))=L1 at*
 refine vs ?_
 generalize H.wr tl ((aP L).set (p.toNat*3+c.toNat) (i64 (-1)))=H1 at*
 obtain⟨y1,HD⟩:∃y,L1[x.toNat]? =some y:=⟨_,List.getElem?_eq_getElem (by omega)⟩
 have adW:=kD L1
 refine v1 (ae h1.own) ?_
 refine⟨by omega,?_⟩
 refine v2 h1.nN Nat.zero_add ?_
 refine⟨by omega,?_⟩
 have h2:=h1.put (L':=L1.set x.toNat ⟨y1.a,y1.b, -1⟩) (by rw[List.length_set])
 have e2:ai (fun z=>z=tl) H1 (H1.wr tl (aP (L1.set x.toNat ⟨y1.a,y1.b, -1⟩))):=(ai.refl (fun z=>z=tl) _).wr (fun _=>rfl) _
 rw[←Gx HD (-1)]at h2 e2
 refine vs ?_
 refine⟨by unfold it;rw[if_neg g];rfl,_,h2,by rw[List.length_set,l1],?_,by rw[DS hx.1 HD,u1];rfl,e1.trans e2⟩
 rw[DR hx.1 HD,k1]
 unfold kI
 rw[hpe,if_neg g,hce]
theorem RL{L:List Lk}{p:Int}{y:Lk}(h0:0≤p)(h:L[p.toNat]? =some y):bi (L.set p.toNat ⟨y.b,y.a,y.u⟩)=pN (bi L) p∧bu (L.set p.toNat ⟨y.b,y.a,y.u⟩)=bu L:=by
 have aR:=(List.getElem?_eq_some_iff.1 h).1
 constructor
 ·funext z d
  unfold pN
  by_cases hz:z=p
  ·subst hz
   rw[rS h0 (List.getElem?_set_self aR),if_pos rfl,rS h0 h]
   cases d<;>rfl
  ·rw[if_neg hz]
   unfold bi
   split
   ·rw[List.getElem?_set_ne (by omega)]
   ·rfl
 ·funext z
  by_cases hz:z=p
  ·subst hz
   rw[xg h0 (List.getElem?_set_self aR),xg h0 h]
  ·unfold bu
   split
   ·rw[List.getElem?_set_ne (by omega)]
   ·rfl
theorem Ni{L:List Lk}{i:Nat}{y:Lk}(hi:L[i]? =some y):((aP L).set (i*3) (i64 y.b)).set (i*3+1) (i64 y.a)=aP (L.set i ⟨y.b,y.a,y.u⟩):=by
 induction L generalizing i with
 |nil=>simp at hi
 |cons a r ih=>
  have e:aP (a::r)=i64 a.a::i64 a.b::i64 a.u::aP r:=rfl
  cases i with
  |zero=>simp at hi;subst hi;rfl
  |succ i=>
   have e2:aP ((a::r).set (i+1) ⟨y.b,y.a,y.u⟩)=i64 a.a::i64 a.b::i64 a.u::aP (r.set i ⟨y.b,y.a,y.u⟩):=rfl
   rw[e,e2,show(i+1)*3=i*3+1+1+1 by omega,show i*3+1+1+1+1=i*3+1+1+1+1 by rfl]
   simp only[List.set_cons_succ]
   rw[ih (by simpa using hi)]
set_option maxHeartbeats 1000000 in
theorem oE(h:bP H t tl L){p:Int}(hp:0≤p∧p<L.length):
  ah Tryz.prog Ae [ptr t,i64 p] H fun v H'=>ax (v= .bool true∧∃L',bP H' t tl L'∧L'.length=L.length∧bi L'=pN (bi L) p∧bu L'=bu L∧ai (fun z=>z=tl) H H'):=by
 refine bc AL ⟨rfl,?_⟩
 refine v1 jT.eq_1 ?_
 refine(gZ h p).mono ?_
 rintro _ H' ⟨rfl,e⟩
 obtain rfl:=e.symm
 rw[decide_eq_true hp]
 obtain⟨y,hy⟩:∃y,L[p.toNat]? =some y:=⟨_,List.getElem?_eq_getElem (by omega)⟩
 have pt:=kD L
 obtain⟨a1,a2,a3⟩:=OC hy
 refine v1 (ae h.own) ?_
 refine⟨by omega,?_⟩
 refine vs ?_
 have n1:Int.toNat 1=1:=rfl
 refine⟨⟨by omega,by omega⟩,?_⟩
 refine v8 (ae h.nN) Nat.zero_add Nat.add_zero Nat.mul_one Int.toNat_zero n1 a1 a2 ?_
 refine⟨⟨by omega,by omega⟩,?_⟩
 refine v8 (ae h.nN) Nat.zero_add Nat.add_zero Nat.mul_one Int.toNat_zero n1 a1 a2 ?_
 refine⟨⟨by omega,by omega⟩,?_⟩
 refine v6 h.nN Nat.zero_add Nat.add_zero Nat.mul_one Int.toNat_zero n1 ?_
 refine⟨by omega,?_⟩
 refine vs ?_
 refine⟨⟨by omega,by omega⟩,?_⟩
 have o1:(H.wr tl ((aP L).set (p.toNat*3) (i64 y.b))).own tl=_:=aj h.nN
 have e1:ai (fun z=>z=tl) H (H.wr tl ((aP L).set (p.toNat*3) (i64 y.b))):=(ai.refl (fun z=>z=tl) _).wr (fun _=>rfl) _
 have w1:=e1.own h.own h.ne
 generalize H.wr tl ((aP L).set (p.toNat*3) (i64 y.b))=H1 at*
 refine v6 o1 Nat.zero_add Nat.add_zero Nat.mul_one Int.toNat_zero n1 ?_
 refine⟨by rw[List.length_set];omega,?_⟩
 have e2:ai (fun z=>z=tl) H1 (H1.wr tl (((aP L).set (p.toNat*3) (i64 y.b)).set (p.toNat*3+1) (i64 y.a))):=(ai.refl (fun z=>z=tl) _).wr (fun _=>rfl) _
 have o2:(H1.wr tl (((aP L).set (p.toNat*3) (i64 y.b)).set (p.toNat*3+1) (i64 y.a))).own tl=_:=aj o1
 refine vs ?_
 obtain⟨k1,k2⟩:=RL hp.1 hy
 refine⟨rfl,L.set p.toNat ⟨y.b,y.a,y.u⟩,⟨by rw[List.length_set];exact e2.own w1 h.ne,by rw[←Ni hy];exact o2,h.ne⟩,List.length_set ..,k1,k2,e1.trans e2⟩
end
theorem OD(n:Nat):cQ [Value.int .i64 0,Value.int .i64 0,Value.int .i64 0] n=aP (List.replicate n ⟨0,0,0⟩):=by
 unfold cQ
 induction n with
 |zero=>rfl
 |succ n ih=>rw[List.replicate_succ,List.flatten_cons,ih,List.replicate_succ];rfl
theorem Jc{L:List Lk}{i:Nat}(hi:i<L.length)(y:Lk):bq (aP L) (i*3) [i64 y.a,i64 y.b,i64 y.u]=aP (L.set i y):=by
 simp only[bq]
 induction L generalizing i with
 |nil=>simp at hi
 |cons a r ih=>
  have e:aP (a::r)=i64 a.a::i64 a.b::i64 a.u::aP r:=rfl
  cases i with
  |zero=>rfl
  |succ i=>
   have e2:aP ((a::r).set (i+1) y)=i64 a.a::i64 a.b::i64 a.u::aP (r.set i y):=rfl
   rw[e,e2,show(i+1)*3=i*3+1+1+1 by omega]
   simp only[List.set_cons_succ]
   rw[ih (by simpa using hi)]
def me:Lk:=⟨-1, -1, -1⟩
set_option maxHeartbeats 1000000 in
theorem xh(H:Hp){n:Int}(hn:0≤n∧n≤65536):ah Tryz.prog K5 [i64 n] H fun v H'=>ax (∃t tl,v= .tuple [ptr t,i64 0].toArray∧bP H' t tl (List.replicate n.toNat me)∧ay H H'∧H.size≤t∧H.size≤tl):=by
 refine bc Lb ⟨rfl,?_⟩
 refine v1 wJ.eq_1 ?_
 refine am.dec (fun g=>absurd g (by omega)) (fun _=>?_)
 refine vs ?_
 refine am.dec (fun g=>absurd g (by omega)) (fun _=>?_)
 refine vs ?_
 refine⟨⟨by omega,by omega,by omega,by omega⟩,?_⟩
 refine vs ?_
 rw[OD]
 have f0:ay H ((H.new 322 (aP (List.replicate n.toNat ⟨0,0,0⟩))).new 320 [.slice (some ⟨H.size,0,none⟩) n.toNat n.toNat]):=((ai.refl _ _).new _ _).new _ _
 have t0:bP ((H.new 322 (aP (List.replicate n.toNat ⟨0,0,0⟩))).new 320 [.slice (some ⟨H.size,0,none⟩) n.toNat n.toNat]) (H.size+1) H.size (List.replicate n.toNat ⟨0,0,0⟩):=by
  refine⟨?_,?_,by omega⟩
  ·rw[List.length_replicate]
   exact bC (by simp only[au])
  ·rw[cz (by simp only[au];omega),aG]
 generalize (H.new 322 (aP (List.replicate n.toNat ⟨0,0,0⟩))).new 320 [.slice (some ⟨H.size,0,none⟩) n.toNat n.toNat]=H1 at*
 have ow:=t0.own
 rw[List.length_replicate]at ow
 refine bD.intro (fun m env H'=>∃j:Nat,m=n.toNat - j∧j≤n.toNat∧ai (fun z=>z=H.size) H1 H'∧bP H' (H.size+1) H.size (List.replicate j me++List.replicate (n.toNat - j) ⟨0,0,0⟩)∧
  env=[(4,ptr (H.size+1)),(20,i64 (n.toNat:Nat)),(21,i64 j)]) n.toNat ⟨0,by omega,by omega,ai.refl _ _,t0,rfl⟩ ?_
 rintro m env H2 ⟨j,rfl,hj,e2,t2,rfl⟩
 have pt:=kD (List.replicate j me++List.replicate (n.toNat - j) (⟨0,0,0⟩:Lk))
 have vU:(List.replicate j me++List.replicate (n.toNat - j) (⟨0,0,0⟩:Lk)).length=n.toNat:=by simp;omega
 have o2:=t2.own
 rw[vU]at pt o2
 refine vs ?_
 refine am.dec (fun aR=>?_) (fun aR=>?_)<;>refine vs ?_
 ·first|refine v1 (ae o2) ?_|skip
  refine⟨by omega,?_⟩
  refine v3 t2.nN Nat.zero_add Int.toNat_natCast ?_
  refine⟨by omega,?_⟩
  have e3:=Jc (L:=List.replicate j me++List.replicate (n.toNat - j) (⟨0,0,0⟩:Lk)) (i:=j) (by omega) me
  have e4:(List.replicate j me++List.replicate (n.toNat - j) (⟨0,0,0⟩:Lk)).set j me=List.replicate (j+1) me++List.replicate (n.toNat - (j+1)) (⟨0,0,0⟩:Lk):=by
   rw[List.set_append_right _ _ (by simp),List.length_replicate,Nat.sub_self,show n.toNat - j=(n.toNat - (j+1))+1 by omega,List.replicate_succ,List.set_cons_zero,List.replicate_succ']
   simp
  rw[e4]at e3
  have t3:=t2.put (L':=List.replicate (j+1) me++List.replicate (n.toNat - (j+1)) (⟨0,0,0⟩:Lk)) (by simp;omega)
  have e5:ai (fun z=>z=H.size) H1 (H2.wr H.size (aP (List.replicate (j+1) me++List.replicate (n.toNat - (j+1)) (⟨0,0,0⟩:Lk)))):=e2.wr (fun _=>rfl) _
  rw[show bq (aP (List.replicate j me++List.replicate (n.toNat - j) (⟨0,0,0⟩:Lk))) (j*3) (aJ (Value.agg #[Value.int .i64 (-1),Value.int .i64 (-1),Value.int .i64 (-1)]))=_ from e3]
  refine vs ?_
  rw[wrap64 (n:=(j:Int)+1) (by omega) (by omega)]
  exact⟨n.toNat - (j+1),by omega,j+1,rfl,by omega,e5,t3,rfl⟩
 ·have mA:j=n.toNat:=by omega
  subst mA
  rw[Nat.sub_self,List.replicate_zero,List.append_nil]at t2
  exact⟨_,_,rfl,t2,f0.then e2 (fun z hz=>by omega),by omega,by omega⟩
end Go.Proofs.YtjlnnljohemifaaGreat

namespace Go.Proofs.YtjlnnljohemifaaGreat
open Go Go.Vc
structure LB where
 n:Nat
 c:Nat
 t:Nat
 tl:Nat
 rk:Nat
 tp:Nat
structure cZ(H:Hp)(B:LB)(C:Nat→Prop)(w:Nw)(L:List Lk)(rs tops:List Int):Prop where
 own:∃tv,H.own B.n=some [ptr B.c,ptr B.t,.slice (some ⟨B.rk,0,none⟩) rs.length rs.length,tv]∧Sl H 1 tv tops.length (tops.map i64) (some B.tp)
 cells:CQ H B.c C w
 bW:bP H B.t B.tl L
 DT:H.own B.rk=some (rs.map i64)
 len:L.length=w.cs.length∧rs.length=w.cs.length
 qM:(B.n≠B.t∧B.n≠B.tl∧B.n≠B.rk∧B.n≠B.tp)∧(B.t≠B.tl∧B.t≠B.rk∧B.t≠B.tp)∧(B.tl≠B.rk∧B.tl≠B.tp)∧B.rk≠B.tp
 out:¬C B.n∧¬C B.t∧¬C B.tl∧¬C B.rk∧¬C B.tp
def LB.S(B:LB)(C:Nat→Prop)(z:Nat):Prop:=C z∨z=B.n∨z=B.t∨z=B.tl∨z=B.rk∨z=B.tp
section
variable {H H' : Hp} {B : LB} {C T : Nat → Prop} {w w' : Nw} {L L' : List Lk} {rs tops : List Int}
theorem cZ.slt(h:cZ H B C w L rs tops):∀z,B.S C z→z<H.size:=by
 obtain⟨tv,h1,h2⟩:=h.own
 rintro z (hz|rfl|rfl|rfl|rfl|rfl)
 ·exact h.cells.slt z hz
 ·exact aO h1
 ·exact aO h.bW.own
 ·exact aO h.bW.nN
 ·exact aO h.DT
 ·exact h2.lt
theorem cZ.ext(h:cZ H B C w L rs tops)(e:ai T H H')(hd:∀z,B.S C z→¬T z):cZ H' B C w L rs tops:=by
 obtain⟨tv,h1,h2⟩:=h.own
 exact⟨⟨tv,e.own h1 (hd _ (.inr (.inl rfl))),h2.ext e (fun b hb=>by injection hb with hb;exact hb▸hd _ (.inr (.inr (.inr (.inr (.inr rfl))))))⟩,h.cells.ext e (fun x hx=>hd x (.inl hx)),
  h.bW.ext e (hd _ (.inr (.inr (.inl rfl)))) (hd _ (.inr (.inr (.inr (.inl rfl))))),e.own h.DT (hd _ (.inr (.inr (.inr (.inr (.inl rfl)))))),h.len,h.qM,h.out⟩
theorem cZ.fresh(h:cZ H B C w L rs tops)(e:ay H H'):cZ H' B C w L rs tops:=h.ext e fun _ _ h=>h
theorem cZ.aK(h:cZ H B C w L rs tops)(c1:CQ H' B.c C w')(e:ai C H H')(hl:w'.cs.length=w.cs.length):cZ H' B C w' L rs tops:=by
 obtain⟨tv,h1,h2⟩:=h.own
 obtain⟨o1,o2,o3,o4,o5⟩:=h.out
 exact⟨⟨tv,e.own h1 o1,h2.ext e (fun b hb=>by injection hb with hb;exact hb▸o5)⟩,c1,h.bW.ext e o2 o3,e.own h.DT o4,by rw[hl];exact h.len,h.qM,h.out⟩
theorem cZ.dJ(h:cZ H B C w L rs tops)(t1:bP H' B.t B.tl L')(e:ai (fun z=>z=B.tl) H H')(hl:L'.length=L.length):cZ H' B C w L' rs tops:=by
 obtain⟨tv,h1,h2⟩:=h.own
 obtain⟨o1,o2,o3,o4,o5⟩:=h.out
 obtain⟨⟨d1,d2,d3,d4⟩,⟨d5,d6,d7⟩,⟨d8,d9⟩,d10⟩:=h.qM
 exact⟨⟨tv,e.own h1 d2,h2.ext e (fun b hb=>by injection hb with hb;omega)⟩,h.cells.ext e (fun x hx hz=>o3 (hz▸hx)),t1,e.own h.DT (by omega),by rw[hl];exact h.len,h.qM,h.out⟩
theorem cZ.Nj(h:cZ H B C w L rs tops)(i:Nat)(v:Int):cZ (H.wr B.rk ((rs.map i64).set i (i64 v))) B C w L (rs.set i v) tops∧ai (fun z=>z=B.rk) H (H.wr B.rk ((rs.map i64).set i (i64 v))):=by
 obtain⟨tv,h1,h2⟩:=h.own
 obtain⟨o1,o2,o3,o4,o5⟩:=h.out
 obtain⟨⟨d1,d2,d3,d4⟩,⟨d5,d6,d7⟩,⟨d8,d9⟩,d10⟩:=h.qM
 have e:ai (fun z=>z=B.rk) H (H.wr B.rk ((rs.map i64).set i (i64 v))):=(ai.refl (fun z=>z=B.rk) _).wr (fun _=>rfl) _
 refine⟨⟨⟨tv,by rw[List.length_set];exact e.own h1 d3,h2.ext e (fun b hb=>by injection hb with hb;omega)⟩,h.cells.ext e (fun x hx hz=>o4 (hz▸hx)),h.bW.ext e (by omega) (by omega),?_,by rw[List.length_set];exact h.len,h.qM,h.out⟩,e⟩
 rw[List.map_set]
 exact aj h.DT
theorem cZ.hG(h:cZ H B C w L rs tops):∃c l,H.own B.n=some [ptr B.c,ptr B.t,.slice (some ⟨B.rk,0,none⟩) rs.length rs.length,.slice (some ⟨B.tp,0,none⟩) tops.length c]∧H.own B.tp=some l∧tops.length≤c∧c≤l.length∧l.take tops.length=tops.map i64:=by
 obtain⟨tv,h1,_,l,c,rfl,h3,h4,h5,h6⟩:=h.own
 rw[Nat.mul_one]at h5 h6
 exact⟨c,l,h1,h3,h4,h5,h6⟩
theorem cZ.fA(h:cZ H B C w L rs tops){l:List Value}(hl:H.own B.tp=some l){i:Nat}{x:Int}(hx:tops[i]? =some x):l[i]? =some (i64 x):=by
 obtain⟨c,l',_,h2,_,_,h5⟩:=h.hG
 rw[hl]at h2
 injection h2 with h2
 subst h2
 have h7:(tops.map i64)[i]? =some (i64 x):=by rw[List.getElem?_map,hx];rfl
 rw[←h5,List.getElem?_take]at h7
 split at h7
 ·exact h7
 ·cases h7
theorem cZ.nO(h:cZ H B C w L rs tops){l:List Value}(hl:H.own B.tp=some l)(i:Nat)(v:Int):cZ (H.wr B.tp (l.set i (i64 v))) B C w L rs (tops.set i v)∧ai (fun z=>z=B.tp) H (H.wr B.tp (l.set i (i64 v))):=by
 obtain⟨c,l',h1,h2,h3,h4,h5⟩:=h.hG
 rw[hl]at h2
 injection h2 with h2
 subst h2
 obtain⟨o1,o2,o3,o4,o5⟩:=h.out
 obtain⟨⟨d1,d2,d3,d4⟩,⟨d5,d6,d7⟩,⟨d8,d9⟩,d10⟩:=h.qM
 have e:ai (fun z=>z=B.tp) H (H.wr B.tp (l.set i (i64 v))):=(ai.refl (fun z=>z=B.tp) _).wr (fun _=>rfl) _
 refine⟨⟨⟨_,e.own h1 d4,?_⟩,h.cells.ext e (fun x hx hz=>o5 (hz▸hx)),h.bW.ext e (by omega) (by omega),e.own h.DT (by omega),h.len,h.qM,h.out⟩,e⟩
 refine⟨by simp,l.set i (i64 v),c,by rw[List.length_set],aj hl,by rw[List.length_set];exact h3,by rw[List.length_set,Nat.mul_one];exact h4,?_⟩
 rw[List.length_set,Nat.mul_one,xT,h5,List.map_set]
theorem cC(H:Hp)(x:Int):∀ (a:Int) (b:Bool),it x= .tuple [i64 a,.bool b].toArray→ah Tryz.prog HQ [i64 a,.bool b] H fun v H'=>ax (v=i64 x∧H'=H):=by
 intro a b he
 unfold it at he
 refine bc Ib ⟨rfl,?_⟩
 refine v1 rR.eq_1 ?_
 have h2:∀ {p q:Int} {r s:Bool},Value.tuple [i64 p,Value.bool r].toArray=Value.tuple [i64 q,Value.bool s].toArray→p=q∧r=s:=fun h=>by
  have h3:=congrArg Array.toList (Value.tuple.inj h)
  injection h3 with h4 h5
  injection h4 with _ h4
  injection h5 with h5 _
  injection h5 with h5
  exact⟨h4,h5⟩
 split at he
 ·rename_i hx
  obtain⟨rfl,rfl⟩:=h2 he
  refine vs ?_
  rw[hx]
  exact⟨rfl,rfl⟩
 ·obtain⟨rfl,rfl⟩:=h2 he
  refine vs ?_
  exact⟨rfl,rfl⟩
theorem cN(x:Int):∃ (a:Int) (b:Bool),it x= .tuple [i64 a,.bool b].toArray:=by
 unfold it
 split
 ·exact⟨_,_,rfl⟩
 ·exact⟨_,_,rfl⟩
def Ye(rs:List Int)(x:Int):Int:=if x= -1 then 0 else rs.getD x.toNat 0
theorem eE(h:cZ H B C w L rs tops){x:Int}(hx:x≠ -1→0≤x∧x<w.cs.length):ah Tryz.prog vx [ptr B.n,i64 x] H fun v H'=>ax (v=i64 (Ye rs x)∧H'=H):=by
 obtain⟨tv,h1,h2⟩:=h.own
 have hl:=h.len
 refine bc vK ⟨rfl,?_⟩
 refine v1 fU.eq_1 ?_
 refine am.dec (fun g=>?_) (fun g=>?_)<;>refine vs ?_
 ·unfold Ye
  rw[if_pos g]
  exact⟨rfl,rfl⟩
 have hx:=hx g
 have hr:(rs.map i64)[x.toNat]? =some (i64 (Ye rs x)):=by
  unfold Ye
  rw[if_neg g,List.getElem?_map,List.getD_eq_getElem?_getD,List.getElem?_eq_getElem (by omega)]
  rfl
 refine v1 (ae h1) ?_
 refine⟨⟨by omega,by omega⟩,?_⟩
 refine v4 (ae h.DT) Nat.zero_add Nat.mul_one hr ?_
 exact⟨rfl,rfl⟩
set_option maxHeartbeats 1000000 in
theorem iZ(h:cZ H B C w L rs tops){x:Int}(hx:0≤x∧x<w.cs.length)(hk:∀c,bi L x c≠ -1→0≤bi L x c∧bi L x c<w.cs.length):
  ah Tryz.prog vw [ptr B.n,i64 x] H fun v H'=>ax (∃L' TP,cZ H' B C w L' TP tops∧(bi L'=bi L∨bi L'=pN (bi L) x)∧bu L'=bu L∧ai (fun z=>z=B.tl∨z=B.rk) H H'):=by
 obtain⟨tv,h1,h2⟩:=h.own
 have hl:=h.len
 refine bc vJ ⟨rfl,?_⟩
 refine v2 fT.eq_1 (ae h1) ?_
 obtain⟨a1,b1,e1⟩:=cN (bi L x false)
 obtain⟨a2,b2,e2⟩:=cN (bi L x true)
 refine⟨.tuple [i64 a1,.bool b1].toArray,(oD h.bW x).mono (by rintro v H' ⟨rfl,rfl⟩;exact⟨e1,rfl⟩),?_⟩
 refine vs ?_
 refine⟨_,cC H _ a1 b1 e1,?_⟩
 refine v1 (ae h1) ?_
 refine(cB h.bW x).mono ?_
 rintro _ H' ⟨rfl,e⟩
 obtain rfl:=e.symm
 rw[e2]
 refine vs ?_
 refine(cC H _ a2 b2 e2).mono ?_
 rintro _ H' ⟨rfl,e⟩
 obtain rfl:=e.symm
 refine vs ?_
 refine(eE h (hk false)).mono ?_
 rintro _ H' ⟨rfl,e⟩
 obtain rfl:=e.symm
 refine vs ?_
 refine(eE h (hk true)).mono ?_
 rintro _ H' ⟨rfl,e⟩
 obtain rfl:=e.symm
 refine vs ?_
 refine am.dec (fun g=>?_) (fun g=>?_)<;>refine vs ?_
 ·refine v1 (ae h1) ?_
  refine(oE h.bW (p:=x) (by omega)).mono ?_
  rintro _ H1 ⟨rfl,L1,t1,l1,k1,u1,e1⟩
  have m1:=h.dJ t1 e1 l1
  obtain⟨DU,o1,_⟩:=m1.own
  refine v1 (ae o1) ?_
  refine⟨_,eE m1 (hk false),?_⟩
  refine vs ?_
  refine⟨⟨by omega,by omega⟩,?_⟩
  refine v3 m1.DT Nat.zero_add Nat.mul_one ?_
  refine⟨by rw[List.length_map];omega,?_⟩
  obtain⟨m2,e2⟩:=m1.Nj x.toNat (IntKind.i64.wrap (Ye rs (bi L x false)+1))
  refine vs ?_
  exact⟨L1,_,m2,.inr k1,u1,(e1.mono fun z _ hz=>.inl hz).trans (e2.mono fun z _ hz=>.inr hz)⟩
 ·refine v1 (ae h1) ?_
  refine⟨_,eE h (hk true),?_⟩
  refine vs ?_
  refine⟨⟨by omega,by omega⟩,?_⟩
  refine v3 h.DT Nat.zero_add Nat.mul_one ?_
  refine⟨by rw[List.length_map];omega,?_⟩
  obtain⟨m2,e2⟩:=h.Nj x.toNat (IntKind.i64.wrap (Ye rs (bi L x true)+1))
  refine vs ?_
  exact⟨L,_,m2,.inl rfl,rfl,e2.mono fun z _ hz=>.inr hz⟩
abbrev Cr(w:Nw)(L:List Lk):Prop:=Bt (aH w) (aT w) (bi L) (bu L)
theorem Cr.sz{w:Nw}{L:List Lk}(h:Cr w L){x:Int}{c:Bool}(hk:bi L x c≠ -1):0≤bi L x c∧bi L x c<w.cs.length:=by
 obtain⟨_,_,h1,h2,_⟩:=Bt.home h hk
 obtain⟨a,b,_⟩:=aF (w:=w) (x:=bi L x c) (by omega)
 omega
theorem Cr.up{w:Nw}{L:List Lk}(h:Cr w L){x:Int}(hu:bu L x≠ -1):0≤bu L x∧bu L x<w.cs.length∧aT w (bu L x) x=true∧aH w (bu L x)=aH w x:=by
 obtain⟨_,_,h1,h2,h3⟩:=h.uk x _ rfl hu
 obtain⟨a,b,_⟩:=aF (w:=w) (x:=bu L x) (by omega)
 exact⟨by omega,by omega,h3,h1⟩
theorem lP(h:cZ H B C w L rs tops)(hb:Cr w L){x:Int}(hx:x≠ -1→0<aH w x):
  ah Tryz.prog yA [ptr B.n,i64 x] H fun v H'=>ax (∃L' TP,cZ H' B C w L' TP tops∧Cr w L'∧bu L'=bu L∧ai (fun z=>z=B.tl∨z=B.rk) H H'):=by
 refine bc zb ⟨rfl,?_⟩
 refine v1 iT.eq_1 ?_
 refine bD.intro (fun m env H'=>∃ (x:Int) (L':List Lk) (TP:List Int),m=(if x= -1 then 0 else ML (aT w) w.cs.length x+1)∧(x≠ -1→0<aH w x)∧cZ H' B C w L' TP tops∧Cr w L'∧bu L'=bu L∧ai (fun z=>z=B.tl∨z=B.rk) H H'∧
  env=[(0,ptr B.n),(1,i64 x)]) _ ⟨x,L,rs,rfl,hx,h,hb,rfl,ai.refl _ _,rfl⟩ ?_
 rintro m env H1 ⟨y,L1,rs1,rfl,hy,m1,b1,u1,e1,rfl⟩
 refine vs ?_
 refine am.dec (fun g=>?_) (fun g=>?_)<;>refine vs ?_
 ·exact⟨L1,rs1,m1,b1,u1,e1⟩
 obtain⟨y0,y1,_⟩:=aF (hy g)
 obtain⟨tv,o1,_⟩:=m1.own
 have vk:=m1.len
 obtain⟨r,hr⟩:∃r,(rs1.map i64)[y.toNat]? =some (i64 r):=⟨rs1[y.toNat]'(by omega),by rw[List.getElem?_map,List.getElem?_eq_getElem (by omega)];rfl⟩
 refine v1 (ae o1) ?_
 refine⟨⟨by omega,by omega⟩,?_⟩
 refine v4 (ae m1.DT) Nat.zero_add Nat.mul_one hr ?_
 refine(iZ m1 ⟨y0,y1⟩ (fun c hk=>b1.sz hk)).mono ?_
 rintro v2 H2 ⟨L2,Yf,m2,k2,u2,e2⟩
 have b2:Cr w L2:=by
  rcases k2 with k2|k2
  ·show Bt _ _ _ _
   rw[k2,u2];exact b1
  ·show Bt _ _ _ _
   rw[k2,u2];exact Bt.yd b1 y
 obtain⟨Nk,o2,_⟩:=m2.own
 have vU:=m2.len
 have sA:=e1.trans e2
 obtain⟨r2,Bl⟩:∃r,(Yf.map i64)[y.toNat]? =some (i64 r):=⟨Yf[y.toNat]'(by omega),by rw[List.getElem?_map,List.getElem?_eq_getElem (by omega)];rfl⟩
 refine v1 (ae o2) ?_
 refine⟨⟨by omega,by omega⟩,?_⟩
 refine v4 (ae m2.DT) Nat.zero_add Nat.mul_one Bl ?_
 refine am.dec (fun g2=>?_) (fun g2=>?_)<;>refine vs ?_
 ·exact⟨L2,Yf,m2,b2,u2.trans u1,sA⟩
 refine v1 (ae o2) ?_
 refine(rT m2.bW y).mono ?_
 rintro _ H' ⟨rfl,e⟩
 obtain rfl:=e.symm
 obtain⟨a1,c1,ea⟩:=cN (bu L2 y)
 rw[ea]
 refine vs ?_
 refine(cC H2 _ a1 c1 ea).mono ?_
 rintro _ H' ⟨rfl,e⟩
 obtain rfl:=e.symm
 refine vs ?_
 refine⟨_,?_,bu L2 y,L2,Yf,rfl,fun hu=>?_,m2,b2,u2.trans u1,sA,rfl⟩
 ·rw[if_neg g]
  split
  ·omega
  ·rename_i hu
   have:=b2.up hu
   have:=FH (aq w) (n:=w.cs.length) (p:=bu L2 y) (x:=y) (by omega) this.2.2.1
   omega
 ·have:=b2.up hu
  rw[this.2.2.2]
  exact hy g
end
end Go.Proofs.YtjlnnljohemifaaGreat

namespace Go.Proofs.YtjlnnljohemifaaGreat
open Go Go.Vc
theorem Sl.shape{H:Hp}{w:Value}{n:Nat}{xs:List Value}{fp:Option Nat}(h:Sl H 1 w n xs fp):∃a c,w= .slice a n c:=by
 obtain⟨h1,h2⟩:=h
 cases fp with
 |none=>obtain⟨rfl,rfl⟩:=h2;exact⟨none,0,rfl⟩
 |some b=>obtain⟨l,c,rfl,_⟩:=h2;exact⟨_,c,rfl⟩
theorem Sl.AU{H:Hp}{a:Option Addr}{n c:Nat}{xs:List Int}{fp:Option Nat}(h:Sl H 1 (.slice a n c) n (xs.map i64) fp){i:Nat}{x:Int}(hx:xs[i]? =some x):
  i<n∧∃b lb,a=some ⟨b,0,none⟩∧H.own b=some lb∧lb[i]? =some (i64 x):=by
 cases fp with
 |none=>
  have h1:=h.1
  have h2:=h.2.1
  have:=(List.getElem?_eq_some_iff.1 hx).1
  rw[List.length_map]at h1
  omega
 |some b=>
  obtain⟨h1,h2,lb,h3,h4⟩:=Sl.num h hx
  exact⟨h1,b,lb,h2,h3,h4⟩
section
variable {H : Hp} {B : LB} {C : Nat → Prop} {w : Nw} {L : List Lk} {rs tops : List Int}
set_option maxRecDepth 100000 in
set_option maxHeartbeats 4000000 in
theorem jY(h:cZ H B C w L rs tops){g a0 b0:Int}{R:Int→Prop}(m:Mg (aH w) (aT w) g R (bi L) (bu L) [] a0 b0):
  ah Tryz.prog wz [ptr B.n,i64 a0,i64 b0] H fun v H'=>ax (∃r L' TP,v=i64 r∧cZ H' B C w L' TP tops∧Mg (aH w) (aT w) g R (bi L') (bu L') [] r (-1)∧
   (∀x0,ye (aT w) (bi L) (bu L) x0 (bi L) (bu L) [] a0 b0→ye (aT w) (bi L) (bu L) x0 (bi L') (bu L') [] r (-1))∧ai (fun z=>C z∨z=B.tl∨z=B.rk) H H'):=by
 refine bc wU ⟨rfl,?_⟩
 refine v1 gQ.eq_1 ?_
 have zh:=h.cells.Fc
 refine bD.intro (fun mm env H'=>∃ (a b:Int) (dN:List Int) (wv:Value) (fp:Option Nat) (L':List Lk),mm=w.cs.length - dN.length∧cZ H' B C w L' rs tops∧Mg (aH w) (aT w) g R (bi L') (bu L') dN a b∧
  (∀x0,ye (aT w) (bi L) (bu L) x0 (bi L) (bu L) [] a0 b0→ye (aT w) (bi L) (bu L) x0 (bi L') (bu L') dN a b)∧
  (∀z,fp=some z→H.size≤z)∧Sl H' 1 wv dN.length (dN.map i64) fp∧ai (fun z=>C z∨z=B.tl∨z=B.rk∨H.size≤z) H H'∧
  env=[(0,ptr B.n),(1,i64 a),(2,i64 b),(7,wv)]) _ ⟨a0,b0,[],_,none,L,rfl,h,m,(fun _ h=>h),(fun z h=>by cases h),Sl.nil _ _,ai.refl _ _,rfl⟩ ?_
 rintro mm env H1 ⟨a,b,dN,wv,fp,L1,rfl,l1,m1,f1,l9,s1,e1,rfl⟩
 have z1:=e1.size
 clear m
 refine vs ?_
 refine am.dec (fun ga=>?A) (fun ga=>?_)<;>refine vs ?_
 rotate_left
 refine am.dec (fun gb=>?B) (fun gb=>?_)<;>refine vs ?_
 rotate_left
 ·obtain⟨DU,o1,_⟩:=l1.own
  refine v1 (ae o1) ?_
  refine(cI l1.cells b a).mono ?_
  rintro _ H2 ⟨rfl,c2,e2⟩
  have l2:=l1.aK c2 e2 rfl
  have s2:=s1.ext e2 (fun z hz eA=>by have:=l9 z hz;have:=h.slt z (.inl eA);omega)
  have z2:=e2.size
  have ha:=m1.wa.resolve_left ga
  have hb:=m1.wb.resolve_left gb
  have zJ:=jj (w:=w) (a:=b) (b:=a) (by rw[hb.1];exact m1.pos) (by rw[ha.1];exact m1.pos)
  have aS:a≠b:=fun e=>ga (m1.ab e)
  rw[zJ]
  cases aR:aT w b a
  ·refine vs ?_
   have hl:aT w a b=true:=((aq w).Oo a b aS).resolve_right (by rw[aR];simp)
   have mm:Mg (aH w) (aT w) g R (bi L1) (bu L1) dN a b:=m1
   have O9:0<aH w a:=by rw[(mm.wa.resolve_left ga).1];exact mm.pos
   obtain⟨p0,p1,_⟩:=aF O9
   have m3:=mm.Rb (aq w) ga gb hl
   have wl:(dN++[a]).length≤w.cs.length:=bY (m3.nodup (aq w)) fun x hx=>by
    have Gr:=(m3.wy x hx).2.1
    have vW:=m3.pos
    obtain⟨x0,x1,_⟩:=aF (w:=w) (x:=x) (by omega)
    exact⟨x0,x1⟩
   rw[List.length_append,List.length_singleton]at wl
   refine EB (B:=H.size) l9 (by omega) s2 a (by omega) fun w' H3 fJ oF s3 e3=>?_
   refine vs ?_
   have l3:=l2.ext e3 (fun z hz eA=>by have:=h.slt z hz;omega)
   obtain⟨Yg,o3,_⟩:=l3.own
   refine v1 (ae o3) ?_
   refine(cB l3.bW a).mono ?_
   rintro _ H' ⟨rfl,e⟩
   obtain rfl:=e.symm
   obtain⟨k1,k2,ek⟩:=cN (bi L1 a true)
   rw[ek]
   refine vs ?_
   refine(cC H3 _ k1 k2 ek).mono ?_
   rintro _ H' ⟨rfl,e⟩
   obtain rfl:=e.symm
   refine v1 (ae o3) ?_
   refine(cM l3.bW (x:=bi L1 a true) (fun hu=>by have:=Cr.up mm.bt hu;rw[l3.len.1];omega)).mono ?_
   rintro _ H4 ⟨rfl,L4,t4,V6,UT,UU,e4⟩
   have l4:=l3.dJ t4 e4 V6
   have s4:=s3.ext e4 (fun z hz eA=>by have:=oF z hz;have:=h.slt B.tl (.inr (.inr (.inr (.inl rfl))));omega)
   obtain⟨k3,k4,ek2⟩:=cN (bu L1 (bi L1 a true))
   rw[ek2]
   refine vs ?_
   refine⟨w.cs.length - (dN.length+1),by omega,bi L1 a true,b,dN++[a],w',fJ,L4,by simp,l4,?_,?_,oF,s4,((e1.trans (e2.mono fun z _ hz=>.inl hz)).trans (e3.mono fun z _ hz=>.inr (.inr (.inr hz)))).trans (e4.mono fun z _ hz=>.inr (.inl hz)),rfl⟩
   ·rw[UT,UU]
    exact m3
   ·rw[UT,UU]
    exact fun x0 h0=>(f1 x0 h0).down (aq w) m1.bt ga
  ·refine vs ?_
   have hl:aT w b a=true:=aR
   have mm:Mg (aH w) (aT w) g R (bi L1) (bu L1) dN b a:=m1.swap
   have O9:0<aH w b:=by rw[(mm.wa.resolve_left gb).1];exact mm.pos
   obtain⟨p0,p1,_⟩:=aF O9
   have m3:=mm.Rb (aq w) gb ga hl
   have wl:(dN++[b]).length≤w.cs.length:=bY (m3.nodup (aq w)) fun x hx=>by
    have Gr:=(m3.wy x hx).2.1
    have vW:=m3.pos
    obtain⟨x0,x1,_⟩:=aF (w:=w) (x:=x) (by omega)
    exact⟨x0,x1⟩
   rw[List.length_append,List.length_singleton]at wl
   refine EB (B:=H.size) l9 (by omega) s2 b (by omega) fun w' H3 fJ oF s3 e3=>?_
   refine vs ?_
   have l3:=l2.ext e3 (fun z hz eA=>by have:=h.slt z hz;omega)
   obtain⟨Yg,o3,_⟩:=l3.own
   refine v1 (ae o3) ?_
   refine(cB l3.bW b).mono ?_
   rintro _ H' ⟨rfl,e⟩
   obtain rfl:=e.symm
   obtain⟨k1,k2,ek⟩:=cN (bi L1 b true)
   rw[ek]
   refine vs ?_
   refine(cC H3 _ k1 k2 ek).mono ?_
   rintro _ H' ⟨rfl,e⟩
   obtain rfl:=e.symm
   refine v1 (ae o3) ?_
   refine(cM l3.bW (x:=bi L1 b true) (fun hu=>by have:=Cr.up mm.bt hu;rw[l3.len.1];omega)).mono ?_
   rintro _ H4 ⟨rfl,L4,t4,V6,UT,UU,e4⟩
   have l4:=l3.dJ t4 e4 V6
   have s4:=s3.ext e4 (fun z hz eA=>by have:=oF z hz;have:=h.slt B.tl (.inr (.inr (.inr (.inl rfl))));omega)
   obtain⟨k3,k4,ek2⟩:=cN (bu L1 (bi L1 b true))
   rw[ek2]
   refine vs ?_
   refine⟨w.cs.length - (dN.length+1),by omega,bi L1 b true,a,dN++[b],w',fJ,L4,by simp,l4,?_,?_,oF,s4,((e1.trans (e2.mono fun z _ hz=>.inl hz)).trans (e3.mono fun z _ hz=>.inr (.inr (.inr hz)))).trans (e4.mono fun z _ hz=>.inr (.inl hz)),rfl⟩
   ·rw[UT,UU]
    exact m3
   ·rw[UT,UU]
    exact fun x0 h0=>(f1 x0 h0).swap.down (aq w) m1.bt gb
 case' A=>
  have m2:Mg (aH w) (aT w) g R (bi L1) (bu L1) dN b (-1):=ga▸m1.swap
  have f2:=fun x0 (h0:ye (aT w) (bi L) (bu L) x0 (bi L) (bu L) [] a0 b0)=>(f1 x0 h0).swap
  rw[ga]at f2
  generalize hr:b=r at m2 f2
  refine am.cj (by simpa using ga) ?_
 case' B=>
  have m2:Mg (aH w) (aT w) g R (bi L1) (bu L1) dN a (-1):=gb▸m1
  have f2:=f1
  rw[gb]at f2
  generalize hr:a=r at m2 f2
  refine am.dec (fun h=>absurd (hr.trans h) ga) (fun _=>?_)
 all_goals
  refine vs ?_
  obtain⟨wa,wc,rfl⟩:=Sl.shape s1
  refine vs ?_
  have wl:dN.length≤w.cs.length:=bY (m2.nodup (aq w)) fun x hx=>by
   have Gr:=(m2.wy x hx).2.1
   have vW:=m2.pos
   obtain⟨x0,x1,_⟩:=aF (w:=w) (x:=x) (by omega)
   exact⟨x0,x1⟩
  refine bD.intro (fun mm env H'=>∃ (i:Nat) (r:Int) (L':List Lk) (TP:List Int),mm=i∧i≤dN.length∧cZ H' B C w L' TP tops∧Mg (aH w) (aT w) g R (bi L') (bu L') (dN.take i) r (-1)∧
   (∀x0,ye (aT w) (bi L) (bu L) x0 (bi L) (bu L) [] a0 b0→ye (aT w) (bi L) (bu L) x0 (bi L') (bu L') (dN.take i) r (-1))∧
   Sl H' 1 (.slice wa dN.length wc) dN.length (dN.map i64) fp∧ai (fun z=>C z∨z=B.tl∨z=B.rk∨H.size≤z) H H'∧
   env=[(0,ptr B.n),(7,.slice wa dN.length wc),(9,i64 r),(10,i64 ((i:Int) - 1))]) _ ⟨dN.length,r,L1,rs,rfl,Nat.le_refl _,l1,by rw[List.take_length];exact m2,by rw[List.take_length];exact f2,s1,e1,?_⟩ ?_
  ·rw[wrap64 (by omega) (by omega)]
  rintro mm env H2 ⟨i,r2,L2,Yf,hmi,hi,l2,m3,f3,s2,e2,rfl⟩
  obtain rfl:=hmi.symm
  refine vs ?_
  refine am.dec (fun gi=>?_) (fun gi=>?_)<;>refine vs ?_
  rotate_left
  ·obtain rfl:i=0:=by omega
   exact⟨r2,L2,Yf,rfl,l2,by simpa using m3,by simpa using f3,e2.mono fun z hz h=>h.elim .inl fun h=>.inr (by omega)⟩
  obtain⟨j,rfl⟩:∃j,i=j+1:=⟨i - 1,by omega⟩
  obtain⟨v,hv⟩:∃v,dN[j]? =some v:=⟨_,List.getElem?_eq_getElem (by omega)⟩
  have tk:dN.take (j+1)=dN.take j++[v]:=by rw[List.take_add_one,hv];rfl
  rw[tk]at m3 f3
  have m4:=m3.back (aq w)
  have f4:=fun x0 h0=>(f3 x0 h0).back
  obtain⟨v1,v2,v3,v4,v5,v6⟩:=m3.wy v (by simp)
  obtain⟨q1,vb,lb,rfl,q2,q3⟩:=Sl.AU s2 hv
  have ZR:∃b',fp=some b'∧b'=vb:=by
   cases fp with
   |none=>have:=s2.2.2;injection this with h1;cases h1
   |some b'=>obtain⟨_,_,h1,_⟩:=s2.2;injection h1 with h1;injection h1 with h1;injection h1 with h1;exact⟨b',rfl,h1.symm⟩
  obtain⟨b',rfl,rfl⟩:=ZR
  have ZR:=l9 b' rfl
  have UV:0<aH w v:=by rw[v2];exact m3.pos
  obtain⟨V7,vv1,_⟩:=aF UV
  have ji:((((j+1:Nat):Int) - 1)).toNat=j:=by omega
  obtain⟨Nk,o2,_⟩:=l2.own
  refine am.dec (fun gr=>?_) (fun gr=>?_)<;>refine vs ?_
  ·rw[if_pos gr,if_pos gr]at m4
   simp only[if_pos gr]at f4
   have f5:=f4
   have l3:=l2
   have m5:=m4
   have o3b:=q2
   have s3:=s2
   have e3:=e2
   refine⟨⟨by omega,by omega⟩,?_⟩
   simp(disch:=(first|omega| (simp only[Zs]<;>omega)|fail)) only[go_sem, ↓reduceIte,Zv,ae o3b,Nat.zero_add,Nat.mul_one,ji,q3]
   refine(iZ l3 ⟨V7,vv1⟩ (fun c hk=>Cr.sz m5.bt hk)).mono ?_
   rintro _ H4 ⟨L4,UW,l4,k4,u4,e4⟩
   refine vs ?_
   refine⟨j,by omega,j,v,L4,UW,rfl,by omega,l4,?_,?_,s3.ext e4 (fun z hz eA=>by injection hz with hz;have:=h.slt B.tl (.inr (.inr (.inr (.inl rfl))));have:=h.slt B.rk (.inr (.inr (.inr (.inr (.inl rfl)))));omega),e3.trans (e4.mono fun z _ hz=>.inr (hz.elim .inl fun h=>.inr (.inl h))),?_⟩
   ·rcases k4 with k4|k4
    ·rw[k4,u4];exact m5
    ·rw[k4,u4];exact m5.yd (aq w)
   ·rcases k4 with k4|k4
    ·rw[k4,u4];exact f5
    ·rw[k4,u4];exact fun x0 h0=>(f5 x0 h0).yd v1
   ·rw[show((j+1:Nat):Int) - 1 - 1=(j:Int) - 1 by omega,wrap64 (by omega) (by omega)]
  ·rw[if_neg gr,if_neg gr]at m4
   simp only[if_neg gr]at f4
   have Bl:=m3.wa.resolve_left gr
   obtain⟨r0,r1,_⟩:=aF (w:=w) (x:=r2) (by rw[Bl.1];exact m3.pos)
   have bm:=l2.len
   have hvr:v≠r2:=fun e=>by have:=v5 gr;rw[e,(aq w).xN]at this;cases this
   simp(disch:=(first|omega| (simp only[Zs]<;>omega)|fail)) only[go_sem, ↓reduceIte,Zv,ae o2]
   refine⟨⟨by omega,by omega⟩,?_⟩
   simp(disch:=(first|omega| (simp only[Zs]<;>omega)|fail)) only[go_sem, ↓reduceIte,Zv,ae q2,Nat.zero_add,Nat.mul_one,ji,q3]
   refine(fE l2.bW (p:=v) (x:=r2) (c:=true) ⟨V7,by omega⟩ ⟨r0,by omega⟩ hvr Bl.2 v4).mono ?_
   rintro _ H3 ⟨rfl,L3,t3,ll3,ZS,ZT,Hu⟩
   have l3:=l2.dJ t3 Hu ll3
   have m5:Mg (aH w) (aT w) g R (bi L3) (bu L3) (dN.take j) v (-1):=by rw[ZS,ZT];exact m4
   have f5:=f4
   rw[←ZS,←ZT]at f5
   have nb:b'≠B.tl:=fun e=>by have:=h.slt B.tl (.inr (.inr (.inr (.inl rfl))));omega
   have o3b:=Hu.own q2 nb
   have s3:=s2.ext Hu (fun z hz eA=>by injection hz with hz;exact nb (hz.trans eA))
   have e3:=e2.trans (Hu.mono fun z _ hz=>.inr (.inl hz))
   refine vs ?_
   refine⟨⟨by omega,by omega⟩,?_⟩
   simp(disch:=(first|omega| (simp only[Zs]<;>omega)|fail)) only[go_sem, ↓reduceIte,Zv,ae o3b,Nat.zero_add,Nat.mul_one,ji,q3]
   refine(iZ l3 ⟨V7,vv1⟩ (fun c hk=>Cr.sz m5.bt hk)).mono ?_
   rintro _ H4 ⟨L4,UW,l4,k4,u4,e4⟩
   refine vs ?_
   refine⟨j,by omega,j,v,L4,UW,rfl,by omega,l4,?_,?_,s3.ext e4 (fun z hz eA=>by injection hz with hz;have:=h.slt B.tl (.inr (.inr (.inr (.inl rfl))));have:=h.slt B.rk (.inr (.inr (.inr (.inr (.inl rfl)))));omega),e3.trans (e4.mono fun z _ hz=>.inr (hz.elim .inl fun h=>.inr (.inl h))),?_⟩
   ·rcases k4 with k4|k4
    ·rw[k4,u4];exact m5
    ·rw[k4,u4];exact m5.yd (aq w)
   ·rcases k4 with k4|k4
    ·rw[k4,u4];exact f5
    ·rw[k4,u4];exact fun x0 h0=>(f5 x0 h0).yd v1
   ·rw[show((j+1:Nat):Int) - 1 - 1=(j:Int) - 1 by omega,wrap64 (by omega) (by omega)]
end
end Go.Proofs.YtjlnnljohemifaaGreat

namespace Go.Proofs.YtjlnnljohemifaaGreat
open Go Go.Vc
inductive Rl where
 |no
 |RM
 |cell
 |LC
 |Gy
 |table
 |row(g:Int)
 |sz(x:Int)
def xi(V:Int→Value)(x:Int)(v:Value):Int→Value:=fun z=>if z=x then v else V z
theorem V8(V:Int→Value)(x:Int)(v:Value):xi V x v x=v:=by unfold xi;rw[if_pos rfl]
theorem V9{V:Int→Value}{x z:Int}{v:Value}(h:z≠x):xi V x v z=V z:=by unfold xi;rw[if_neg h]
theorem Wa(U:Int→Int)(x v:Int):aI U x v x=v:=by unfold aI;rw[if_pos rfl]
theorem Wb{U:Int→Int}{x z v:Int}(h:z≠x):aI U x v z=U z:=by unfold aI;rw[if_neg h]
structure qn(H:Hp)(fb tb n:Nat)(l:List Value)(V:Int→Value)(U:Int→Int):Prop where
 own:H.own fb=some [.slice (some ⟨tb,0,none⟩) n n]
 FK:H.own tb=some l
 len:l.length=n*2
 at_:∀x:Int,0≤x→x<n→l[x.toNat*2]? =some (V x)∧l[x.toNat*2+1]? =some (i64 (U x))
 ne:fb≠tb
section
variable {H H' : Hp} {fb tb n : Nat} {l : List Value} {V : Int → Value} {U : Int → Int} {T : Nat → Prop}
theorem qn.ext(h:qn H fb tb n l V U)(e:ai T H H')(h1:¬T fb)(h2:¬T tb):qn H' fb tb n l V U:=⟨e.own h.own h1,e.own h.FK h2,h.len,h.at_,h.ne⟩
theorem qn.xi(h:qn H fb tb n l V U){x:Int}(hx:0≤x∧x<n)(v:Value):qn (H.wr tb (l.set (x.toNat*2) v)) fb tb n (l.set (x.toNat*2) v) (xi V x v) U∧ai (fun z=>z=tb) H (H.wr tb (l.set (x.toNat*2) v)):=by
 have e:ai (fun z=>z=tb) H (H.wr tb (l.set (x.toNat*2) v)):=(ai.refl (fun z=>z=tb) _).wr (fun _=>rfl) _
 have hl:=h.len
 refine⟨⟨e.own h.own h.ne,aj h.FK,by rw[List.length_set];exact hl,fun z h0 h1=>?_,h.ne⟩,e⟩
 obtain⟨a1,a2⟩:=h.at_ z h0 h1
 refine⟨?_,by rw[List.getElem?_set_ne (by omega)];exact a2⟩
 by_cases hz:z=x
 ·rw[hz,V8,List.getElem?_set_self (by omega)]
 ·rw[V9 hz,List.getElem?_set_ne (by omega)];exact a1
theorem qn.aI(h:qn H fb tb n l V U){x:Int}(hx:0≤x∧x<n)(u:Int):qn (H.wr tb (l.set (x.toNat*2+1) (i64 u))) fb tb n (l.set (x.toNat*2+1) (i64 u)) V (aI U x u)∧ai (fun z=>z=tb) H (H.wr tb (l.set (x.toNat*2+1) (i64 u))):=by
 have e:ai (fun z=>z=tb) H (H.wr tb (l.set (x.toNat*2+1) (i64 u))):=(ai.refl (fun z=>z=tb) _).wr (fun _=>rfl) _
 have hl:=h.len
 refine⟨⟨e.own h.own h.ne,aj h.FK,by rw[List.length_set];exact hl,fun z h0 h1=>?_,h.ne⟩,e⟩
 obtain⟨a1,a2⟩:=h.at_ z h0 h1
 refine⟨by rw[List.getElem?_set_ne (by omega)];exact a1,?_⟩
 by_cases hz:z=x
 ·rw[hz,Wa,List.getElem?_set_self (by omega)]
 ·rw[Wb hz,List.getElem?_set_ne (by omega)];exact a2
theorem qn.RN(h:qn H fb tb n l V U):fb<H.size∧tb<H.size:=⟨aO h.own,aO h.FK⟩
end
structure ForM(H:Hp)(ro:Nat→Rl)(fb tb n:Nat)(l:List Value)(V:Int→Value)(ch:Int→List Int)(par:Int→Int)(kb:Int→Option Nat):Prop where
 t:qn H fb tb n l V par
 kd:∀x:Int,0≤x→x<n→Sl H 1 (V x) (ch x).length ((ch x).map i64) (kb x)
 rf:ro fb= .Gy
 rt:ro tb= .table
 rk:∀ (x:Int) b,0≤x→x<n→kb x=some b→ro b= .sz x
 Hw:∀x c,c∈ch x→0≤c∧c<n
 no:∀x:Int,¬ (0≤x∧x<n)→ch x=[]
structure RK(s:Nat)(ro ro':Nat→Rl):Prop where
 o:∀z,z<s→(∀x,ro z≠ .sz x)→ro' z=ro z
 k:∀z x,z<s→ro z= .sz x→∃y,ro' z= .sz y
 n:∀z,s≤z→ro' z= .no∨∃y,ro' z= .sz y
theorem RK.refl{s:Nat}{ro:Nat→Rl}(h:∀z,s≤z→ro z= .no):RK s ro ro:=⟨fun _ _ _=>rfl,fun z x _ h=>⟨x,h⟩,fun z hz=>.inl (h z hz)⟩
theorem RK.trans{s s':Nat}{r1 r2 r3:Nat→Rl}(h:RK s r1 r2)(h':RK s' r2 r3)(hs:s≤s'):RK s r1 r3:=by
 refine⟨fun z hz hk=>?_,fun z x hz hx=>?_,fun z hz=>?_⟩
 ·have h1:=h.o z hz hk
  rw[h'.o z (by omega) (fun x=>by rw[h1];exact hk x),h1]
 ·obtain⟨y,hy⟩:=h.k z x hz hx
  exact h'.k z y (by omega) hy
 ·by_cases h1:z<s'
  ·rcases h.n z hz with h2| ⟨y,h2⟩
   ·rw[h'.o z h1 (fun x=>by rw[h2];intro e;cases e)]
    exact .inl h2
   ·exact .inr (h'.k z y h1 h2)
  ·exact h'.n z (by omega)
def KB(ro:Nat→Rl)(z:Nat):Prop:=ro z= .table∨∃x,ro z= .sz x
section
variable {H H' : Hp} {ro ro' : Nat → Rl} {fb tb n : Nat} {l : List Value} {V : Int → Value} {ch : Int → List Int} {par : Int → Int} {kb : Int → Option Nat} {T : Nat → Prop}
theorem ForM.ext(m:ForM H ro fb tb n l V ch par kb)(e:ai T H H')(hd:∀z,(ro z= .Gy∨KB ro z)→¬T z):ForM H' ro fb tb n l V ch par kb:=
 ⟨m.t.ext e (hd _ (.inl m.rf)) (hd _ (.inr (.inl m.rt))),fun x h0 h1=>(m.kd x h0 h1).ext e (fun b hb=>hd _ (.inr (.inr ⟨x,m.rk x b h0 h1 hb⟩))),m.rf,m.rt,m.rk,m.Hw,m.no⟩
theorem ForM.fresh(m:ForM H ro fb tb n l V ch par kb)(e:ay H H'):ForM H' ro fb tb n l V ch par kb:=m.ext e fun _ _ h=>h
theorem ForM.shape(m:ForM H ro fb tb n l V ch par kb){x:Int}(hx:0≤x∧x<n):∃a c,V x= .slice a (ch x).length c:=Sl.shape (m.kd x hx.1 hx.2)
theorem qo(t:qn H fb tb n l V par)(x:Int):ah Tryz.prog z8 [ptr fb,i64 x] H fun v H'=>ax (v= .bool (decide (0≤x∧x<n))∧H'=H):=by
 refine bc AE ⟨rfl,?_⟩
 refine v1 jM.eq_1 ?_
 refine am.dec (fun h0=>?_) (fun h0=>?_)<;>refine v1 (ae t.own) ?_
 ·refine⟨?_,rfl⟩
  rw[show(decide (0≤x∧x< (n:Int)))=decide (x< (n:Int)) by simp[h0]]
  rfl
 ·refine⟨?_,rfl⟩
  rw[decide_eq_false (fun h=>h0 h.1)]
  rfl
theorem js(t:qn H fb tb n l V par)(x:Int):ah Tryz.prog yq [ptr fb,i64 x] H fun v H'=>ax (v= .bool (decide (0≤x∧x<n) && decide (par x= -1))∧H'=H):=by
 refine bc yS ⟨rfl,?_⟩
 refine v1 iL.eq_1 ?_
 refine(qo t x).mono ?_
 rintro _ H' ⟨rfl,e⟩
 obtain rfl:=e.symm
 by_cases hx:0≤x∧x<n
 ·rw[decide_eq_true hx]
  have hl:=t.len
  obtain⟨a1,a2⟩:=t.at_ x hx.1 hx.2
  refine v1 (ae t.own) ?_
  refine⟨⟨by omega,by omega⟩,?_⟩
  refine v3 (ae t.FK) Nat.zero_add a2 ?_
  exact⟨rfl,rfl⟩
 ·rw[decide_eq_false hx]
  refine vs ?_
  exact⟨rfl,rfl⟩
theorem de(m:ForM H ro fb tb n l V ch par kb)(x:Int):ah Tryz.prog vp [ptr fb,i64 x] H fun v H'=>ax (v=i64 (ch x).length∧H'=H):=by
 refine bc vB ⟨rfl,?_⟩
 refine v1 fO.eq_1 ?_
 refine(qo m.t x).mono ?_
 rintro _ H' ⟨rfl,e⟩
 obtain rfl:=e.symm
 by_cases hx:0≤x∧x<n
 ·rw[decide_eq_true hx]
  have hl:=m.t.len
  obtain⟨a1,a2⟩:=m.t.at_ x hx.1 hx.2
  obtain⟨a,c,hv⟩:=m.shape hx
  rw[hv]at a1
  refine v1 (ae m.t.own) ?_
  refine⟨⟨by omega,by omega⟩,?_⟩
  refine v4 (ae m.t.FK) Nat.zero_add Nat.add_zero a1 ?_
  exact⟨rfl,rfl⟩
 ·rw[decide_eq_false hx,m.no x hx]
  refine vs ?_
  exact⟨rfl,rfl⟩
theorem rU(t:qn H fb tb n l V par){x:Int}(hx:0≤x∧x<n):ah Tryz.prog BJ [ptr fb,i64 x] H fun v H'=>ax (((par x= -1∧v= .tuple [i64 0,.bool false].toArray)∨(par x≠ -1∧v= .tuple [i64 (par x),.bool true].toArray))∧H'=H):=by
 refine bc B4 ⟨rfl,?_⟩
 refine v1 lm.eq_1 ?_
 refine(qo t x).mono ?_
 rintro _ H' ⟨rfl,e⟩
 obtain rfl:=e.symm
 rw[decide_eq_true hx]
 have hl:=t.len
 obtain⟨a1,a2⟩:=t.at_ x hx.1 hx.2
 refine v1 (ae t.own) ?_
 refine⟨⟨by omega,by omega⟩,?_⟩
 refine v3 (ae t.FK) Nat.zero_add a2 ?_
 refine am.dec (fun h0=>?_) (fun h0=>?_)<;>refine vs ?_
 ·exact⟨.inl ⟨h0,rfl⟩,rfl⟩
 refine v1 (ae t.own) ?_
 refine⟨⟨by omega,by omega⟩,?_⟩
 refine v3 (ae t.FK) Nat.zero_add a2 ?_
 exact⟨.inr ⟨h0,rfl⟩,rfl⟩
theorem RO{H:Hp}{T:TypeId}{w:Value}{xs:List Int}{fp:Option Nat}{K:Value→Hp→Prop}(s:Sl H 1 w xs.length (xs.map i64) fp)(x:Int)(hl:xs.length≤1000000000000)
  (hk:∀w' H' fJ,(fJ=fp∨∃b,fJ=some b∧H.size≤b∧b<H'.size)→Sl H' 1 w' (xs++[x]).length ((xs++[x]).map i64) fJ→ai (fun z=>fp=some z) H H'→K w' H'):
  lI T 1 8 [i64 0] w (.slice (some ⟨H.size,0,none⟩) 1 1) (H.new T [i64 x]) K:=by
 have fl:ay H (H.new T [i64 x]):=(ai.refl _ _).new _ _
 refine Sl.append (s.ext fl (fun _ _ h=>h)) (Sl.dQ (size:=1) (n:=1) (xs:=[i64 x]) rfl rfl).rd rfl (FJ [x]) (by omega) ?_
 intro v' H' fJ s' e' QG
 refine hk v' H' fJ (QG.imp_right fun⟨b,h1,h2,h3⟩=>⟨b,h1,by rw[au]at h2;omega,h3⟩) (by rw[List.length_append,List.map_append];exact s') ⟨Nat.le_trans fl.size e'.size,fun z hz hn=>?_⟩
 rw[e'.aN z (Nat.lt_of_lt_of_le hz fl.size) hn,fl.aN z hz (fun h=>h)]
theorem ForM.put(m:ForM H ro fb tb n l V ch par kb)(hz:∀z,H.size≤z→ro z= .no){a:Int}(ha:0≤a∧a<n){H2:Hp}(e:ai (fun z=>kb a=some z) H H2){w':Value}{L':List Int}{fJ:Option Nat}(s:Sl H2 1 w' L'.length (L'.map i64) fJ)
  (hf:fJ=kb a∨fJ=none∨∃b,fJ=some b∧H.size≤b∧b<H2.size)(hL:∀c∈L',0≤c∧c<n):
  ∃ro' vQ,ForM (H2.wr tb (l.set (a.toNat*2) w')) ro' fb tb n (l.set (a.toNat*2) w') (xi V a w') (aA ch a L') par vQ∧RK H.size ro ro'∧(∀z,(H2.wr tb (l.set (a.toNat*2) w')).size≤z→ro' z= .no)∧ai (KB ro) H (H2.wr tb (l.set (a.toNat*2) w')):=by
 have UX:∀z,kb a=some z→ro z= .sz a:=fun z h=>m.rk a z ha.1 ha.2 h
 have hfb:¬kb a=some fb:=fun h=>by have:=UX _ h;rw[m.rf]at this;cases this
 have UQ:¬kb a=some tb:=fun h=>by have:=UX _ h;rw[m.rt]at this;cases this
 obtain⟨z1,z2⟩:=m.t.RN
 have t2:=m.t.ext e hfb UQ
 obtain⟨t3,e3⟩:=t2.xi ha w'
 have hs:=e.size
 have Pm:(H2.wr tb (l.set (a.toNat*2) w')).size=H2.size:=gh _ _ _
 have hr:∃ro':Nat→Rl,(∀b,fJ=some b→ro' b= .sz a)∧(∀z,z<H.size→ro' z=ro z)∧RK H.size ro ro'∧∀z,H2.size≤z→ro' z= .no:=by
  rcases hf with h|h| ⟨b,h,Lt,DN⟩
  ·exact⟨ro,fun b hb=>UX b (by rw[←h];exact hb),fun _ _=>rfl,RK.refl hz,fun z eA=>hz z (by omega)⟩
  ·refine⟨ro,fun b hb=>?_,fun _ _=>rfl,RK.refl hz,fun z eA=>hz z (by omega)⟩
   rw[h]at hb
   cases hb
  ·refine⟨fun z=>if z=b then .sz a else ro z,fun b' vY=>?_,fun z eA=>?_,⟨fun z eA _=>?_,fun z x eA hx=>⟨x,?_⟩,fun z eA=>?_⟩,fun z eA=>?_⟩
   ·rw[h]at vY
    injection vY with vY
    simp[vY]
   ·show(if z=b then Rl.sz a else ro z)=_
    rw[if_neg (by omega)]
   ·show(if z=b then Rl.sz a else ro z)=_
    rw[if_neg (by omega)]
   ·show(if z=b then Rl.sz a else ro z)=_
    rw[if_neg (by omega)];exact hx
   ·show(if z=b then Rl.sz a else ro z)=_∨∃y,(if z=b then Rl.sz a else ro z)=_
    split
    ·exact .inr ⟨a,rfl⟩
    ·exact .inl (hz z eA)
   ·show(if z=b then Rl.sz a else ro z)=_
    rw[if_neg (by omega)];exact hz z (by omega)
 obtain⟨ro',r1,r2,r3,r4⟩:=hr
 have hfl:∀b,fJ=some b→b≠tb:=fun b hb e=>by
  have:=r1 b hb
  rw[e,r2 tb (by omega),m.rt]at this
  cases this
 refine⟨ro',fun z=>if z=a then fJ else kb z,⟨t3,fun x h0 h1=>?_,by rw[r2 _ z1];exact m.rf,by rw[r2 _ z2];exact m.rt,fun x b h0 h1 hb=>?_,fun x c hc=>?_,fun x hx=>?_⟩,r3,fun z eA=>r4 z (by omega),(e.mono fun z _ h=>.inr ⟨a,UX z h⟩).trans (e3.mono fun z _ h=>.inl (by rw[h];exact m.rt))⟩
 ·unfold xi aA
  by_cases hxa:x=a
  ·simp only[hxa,if_true]
   exact s.ext e3 (fun b hb=>hfl b hb)
  ·simp only[if_neg hxa]
   refine((m.kd x h0 h1).ext e (fun b hb DN=>?_)).ext e3 (fun b hb e=>?_)
   ·have h5:=m.rk x b h0 h1 hb
    rw[UX b DN]at h5
    injection h5 with h5
    exact hxa h5.symm
   ·have h5:=m.rk x b h0 h1 hb
    rw[e,m.rt]at h5
    cases h5
 ·split at hb
  ·rename_i e;rw[e];exact r1 b hb
  ·have h5:=m.rk x b h0 h1 hb
   have h6:=Sl.lt (b:=b) (by have:=m.kd x h0 h1;rw[hb]at this;exact this)
   rw[r2 b h6];exact h5
 ·unfold aA at hc
  split at hc
  ·exact hL c hc
  ·exact m.Hw x c hc
 ·unfold aA
  rw[if_neg (fun e=>hx (by rw[e];exact ha))]
  exact m.no x hx
theorem ForM.aI(m:ForM H ro fb tb n l V ch par kb){x:Int}(hx:0≤x∧x<n)(u:Int):ForM (H.wr tb (l.set (x.toNat*2+1) (i64 u))) ro fb tb n (l.set (x.toNat*2+1) (i64 u)) V ch (aI par x u) kb∧ai (KB ro) H (H.wr tb (l.set (x.toNat*2+1) (i64 u))):=by
 obtain⟨t3,e3⟩:=m.t.aI hx u
 refine⟨⟨t3,fun x h0 h1=>(m.kd x h0 h1).ext e3 (fun b hb e=>?_),m.rf,m.rt,m.rk,m.Hw,m.no⟩,e3.mono fun z _ h=>.inl (by rw[h];exact m.rt)⟩
 have h5:=m.rk x b h0 h1 hb
 rw[e,m.rt]at h5
 cases h5
set_option maxHeartbeats 1000000 in
theorem vd(m:ForM H ro fb tb n l V ch par kb)(hz:∀z,H.size≤z→ro z= .no){a b:Int}(ha:0≤a∧a<n)(hb:0≤b∧b<n)(pa:par a= -1)(pb:par b= -1)(zJ:a≠b)(hd:(ch a).length=(ch b).length)(hl:(ch a).length≤65536):
  ah Tryz.prog yu [ptr fb,i64 a,i64 b] H fun v H'=>ax (v= .bool true∧∃ro' l' V' vQ,ForM H' ro' fb tb n l' V' (aA ch a (ch a++[b])) (aI par b a) vQ∧RK H.size ro ro'∧(∀z,H'.size≤z→ro' z= .no)∧ai (KB ro) H H'):=by
 have ht:=m.t.len
 obtain⟨a1,a2⟩:=m.t.at_ a ha.1 ha.2
 have ka:=m.kd a ha.1 ha.2
 have hcL:∀c∈ch a++[b],0≤c∧c<n:=fun c hc=>by
  rcases List.mem_append.1 hc with hc|hc
  ·exact m.Hw a c hc
  ·rw[List.mem_singleton.1 hc];exact hb
 have UX:∀z,kb a=some z→ro z= .sz a:=fun z h=>m.rk a z ha.1 ha.2 h
 have hfb:¬kb a=some fb:=fun h=>by have:=UX _ h;rw[m.rf]at this;cases this
 have UQ:¬kb a=some tb:=fun h=>by have:=UX _ h;rw[m.rt]at this;cases this
 refine bc yU ⟨rfl,?_⟩
 refine v1 oX.eq_1 ?_
 refine(js m.t a).mono ?_
 rintro _ H' ⟨rfl,e⟩
 obtain rfl:=e.symm
 rw[decide_eq_true ha,decide_eq_true pa]
 refine vs ?_
 refine(js m.t b).mono ?_
 rintro _ H' ⟨rfl,e⟩
 obtain rfl:=e.symm
 rw[decide_eq_true hb,decide_eq_true pb]
 refine vs ?_
 refine am.dec (fun h=>absurd h zJ) (fun _=>?_)
 refine vs ?_
 refine(de m a).mono ?_
 rintro _ H' ⟨rfl,e⟩
 obtain rfl:=e.symm
 refine vs ?_
 refine(de m b).mono ?_
 rintro _ H' ⟨rfl,e⟩
 obtain rfl:=e.symm
 rw[hd]
 refine vs ?_
 refine am.cj (by simp) ?_
 refine vs ?_
 refine rV.intro (fun H'=>H'.own fb=some [.slice (some ⟨tb,0,none⟩) n n]) m.t.own ?_
 refine vs ?_
 refine rW.intro (.slice (some ⟨tb,0,none⟩) n n) (fun H' hI=>by refine v1 (ae hI) ?_;trivial) ?_
 refine vs ?_
 refine rW.intro (.slice (some ⟨tb,0,none⟩) n n) (fun H' hI=>by refine v1 (ae hI) ?_;trivial) ?_
 refine vs ?_
 refine⟨⟨by omega,by omega⟩,?_⟩
 refine vs ?_
 obtain⟨z1,z2⟩:=m.t.RN
 have f1:ay H (H.new 3 [i64 b]):=(ai.refl _ _).new _ _
 have o1:=f1.own m.t.own (fun h=>h)
 have q1:=f1.own m.t.FK (fun h=>h)
 refine Jd.intro ?A ?B
 case' A=>
  refine v4 (ae m.t.FK) Nat.zero_add Nat.add_zero a1 ?_
  refine And.intro m.t.own ?_
  refine vs ?_
  refine And.intro m.t.own ?_
  refine vs ?_
 case' B=>
  refine vs ?_
  refine And.intro m.t.own ?_
  refine v5 (ae q1) (ae m.t.FK) Nat.zero_add Nat.add_zero a1 ?_
  refine And.intro m.t.own ?_
  refine vs ?_
 all_goals
  refine RO ka b (by omega) fun w' H2 fJ l9 s2 e2=>?_
  obtain⟨wa,wc,rfl⟩:=Sl.shape s2
  have t2:=m.t.ext e2 hfb UQ
  refine And.intro t2.own ?_
  refine vs ?_
  refine⟨⟨by omega,by omega⟩,?_⟩
  refine v3 t2.FK Nat.zero_add Nat.add_zero ?_
  refine⟨by omega,?_⟩
  obtain⟨ro',vQ,m3,r3,r4,e3⟩:=m.put hz ha e2 s2 (l9.imp_right .inr) hcL
  refine vs ?_
  refine And.intro m3.t.own ?_
  refine vs ?_
  have Tf:=m3.t.len
  generalize H2.wr tb (l.set (a.toNat*2) (Value.slice wa (ch a++[b]).length wc))=H3 at*
  refine v1 (ae m3.t.own) ?_
  refine⟨⟨by omega,by omega⟩,?_⟩
  refine v3 m3.t.FK Nat.zero_add Nat.add_zero ?_
  refine⟨by omega,?_⟩
  obtain⟨m4,e4⟩:=m3.aI hb a
  refine vs ?_
  refine⟨rfl,ro',_,_,vQ,m4,r3,fun z eA=>r4 z (by rw[gh]at eA;exact eA),?_⟩
  refine⟨Nat.le_trans e3.size e4.size,fun z eA hn=>?_⟩
  rw[e4.aN z (Nat.lt_of_lt_of_le eA e3.size) (fun h=>hn ?_),e3.aN z eA hn]
  rcases h with h| ⟨x,h⟩
  ·refine .inl ?_
   by_cases hk:∃x,ro z= .sz x
   ·obtain⟨x,hx⟩:=hk
    obtain⟨y,hy⟩:=r3.k z x eA hx
    rw[hy]at h;cases h
   ·rw[←r3.o z eA (fun x hx=>hk ⟨x,hx⟩)];exact h
  ·refine .inr ?_
   apply Classical.byContradiction
   intro hk
   rw[r3.o z eA (fun x hx=>hk ⟨x,hx⟩)]at h
   exact hk ⟨x,h⟩
end
end Go.Proofs.YtjlnnljohemifaaGreat
