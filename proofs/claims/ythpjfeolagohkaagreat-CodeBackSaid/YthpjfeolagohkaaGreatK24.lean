/- Texts put behind each other. -/
import Derived.Test.YthpjfeolagohkaaGreatK98
import Derived.Test.YthpjfeolagohkaaGreatK19
import Derived.Test.YthpjfeolagohkaaGreatK20
import Derived.Test.YthpjfeolagohkaaGreatK21
import Derived.Test.YthpjfeolagohkaaGreatK23
set_option maxRecDepth 100000
set_option maxHeartbeats 8000000
set_option linter.unusedVariables false
set_option linter.unusedSimpArgs false
namespace Go.Proofs.YthpjfeolagohkaaGreat
open Go Go.Vc
abbrev Ce:=Int×Int×Int
def cD(cs:List Ce):List Value:=cs.flatMap fun c=>[i64 c.1,i64 c.2.1,u64 c.2.2]
theorem iO(cs:List Ce):(cD cs).length=cs.length*3:=by
 induction cs with
 |nil=>rfl
 |cons c r ih=>simp only[cD,apU,aoy,aoI,apo]at*;omega
theorem Qo(n:Nat):cD (List.replicate n (0,0,0))=ce [.int .i64 0,.int .i64 0,.int .u64 0] n:=by
 simp[cD,ce,List.flatMap_def,aqn]
theorem eO.lt2{H:Hp}{b s len:Nat}{rt:Nat→Nat}{eU:Int}(h:eO H b s len rt eU):s<H.size:=by
 obtain⟨⟨sv,cC,Qb,a1,a2,a3⟩,_⟩:=h
 exact a2.lt
structure bB(H:Hp)(c:Nat)(S:Nat→Prop)(st:Int)(cs:List Ce)(len:Nat)(rt:Nat→Nat)(aO:Int→Option Int):Prop where
 NC:∃fb nb ns mb,H.own c=some [i64 st,.slice (some ⟨fb,0,none⟩) cs.length cs.length,ptr nb,.map (some mb)]∧H.own fb=some (cD cs)∧eO H nb ns len rt 65536∧kX H mb (fun i=>(aO i).map i64)∧
  (S c∧S fb∧S nb∧S ns∧S mb)∧(c≠fb∧c≠nb∧c≠ns∧c≠mb)∧(fb≠nb∧fb≠ns∧fb≠mb)∧(nb≠mb∧ns≠mb)
 st0:0≤st
 XT:st≤4611686018427387904
 Er:cs.length≤65536
 slt:∀x,S x→x<H.size
theorem bB.ext{H H':Hp}{c:Nat}{S T:Nat→Prop}{st:Int}{cs:List Ce}{len:Nat}{rt:Nat→Nat}{aO:Int→Option Int}(h:bB H c S st cs len rt aO)
  (e:ag T H H')(hd:∀x,S x→¬T x):bB H' c S st cs len rt aO:=by
 obtain⟨⟨fb,nb,ns,mb,a1,a2,a3,a4,⟨s1,s2,s3,s4,s5⟩,a6,a7⟩,h2,h3,h4,h5⟩:=h
 exact⟨⟨fb,nb,ns,mb,e.own a1 (hd _ s1),e.own a2 (hd _ s2),a3.ext e (hd _ s3) (hd _ s4),a4.ext e (hd _ s5),⟨s1,s2,s3,s4,s5⟩,a6,a7⟩,h2,h3,h4,fun x hx=>aoO (h5 x hx) e.size⟩
theorem FY(cap:Int)(H:Hp):af Tryz.prog tT [i64 cap] H fun v H'=>ar (
  am H H'∧((¬ (0≤cap∧cap≤65536)∧v= .tuple [.pointer none,i64 31].toArray)∨
   (0≤cap∧cap≤65536)∧∃c S,v= .tuple [ptr c,i64 0].toArray∧bB H' c S 0 (List.replicate cap.toNat (0,0,0)) 1 id (fun _=>none)∧(∀x,S x→H.size≤x))):=by
 refine aZ Lx ?_
 refine vs ?_
 refine ai.dec (fun h=>?_) (fun h=>?_)<;>refine vs ?_
 ·exact⟨ag.refl _ _,.inl ⟨by omega,rfl⟩⟩
 ·refine ai.dec (fun h2=>?_) (fun h2=>?_)<;>refine vs ?_
  ·exact⟨ag.refl _ _,.inl ⟨by omega,rfl⟩⟩
  ·refine(FM 65536 H).mono ?_
   rintro _ H1 ⟨hf,⟨hc,_⟩| ⟨_,nb,ns,rfl,hn,b1,b2,b3,b4⟩⟩
   ·omega
   refine vs ?_
   refine⟨by omega,?_⟩
   refine vs ?_
   have hs:(H1.new 307 (ce [.int .i64 0,.int .i64 0,.int .u64 0] cap.toNat)).own H1.size=some (cD (List.replicate cap.toNat (0,0,0))):=by
    rw[Qo]
    exact aD _ _ _
   have he:ag (fun _=>False) (H1.new 307 (ce [.int .i64 0,.int .i64 0,.int .u64 0] cap.toNat)) _:=
    ((ag.refl _ _).fh).new 271 [.int .i64 0,.slice (some ⟨H1.size,0,none⟩) cap.toNat cap.toNat,.pointer (some ⟨nb,0,none⟩),.map (some (H1.size+1))]
   have hm:kX (H1.new 307 (ce [.int .i64 0,.int .i64 0,.int .u64 0] cap.toNat)).fh (H1.size+1) (fun _=>none):=by
    have:=kX.new (H1.new 307 (ce [.int .i64 0,.int .i64 0,.int .u64 0] cap.toNat))
    rwa[aq]at this
   have HG:=hf.size
   have hl:(List.replicate cap.toNat ((0,0,0):Ce)).length=cap.toNat:=aoY
   refine⟨(hf.trans ((ag.refl _ _).new 307 _)).trans he,.inr ⟨by omega,H1.size+1+1,fun x=>H.size≤x∧x<H1.size+1+1+1,rfl,⟨⟨H1.size,nb,ns,H1.size+1,by rw[hl];exact be (by simp only[aq,ii]),he.own hs (fun h=>h),
    (hn.ext ((ag.refl (fun _=>False) _).new 307 _) (fun h=>h) (fun h=>h)).ext he (fun h=>h) (fun h=>h),hm.ext ((ag.refl (fun _=>False) _).new _ _) (fun h=>h),?_,?_,?_,?_⟩,by omega,by omega,by omega,?_⟩,fun x h=>h.1⟩⟩
   ·exact⟨by omega,by omega,by omega,by omega,by omega⟩
   ·exact⟨by omega,by omega,by omega,by omega⟩
   ·exact⟨by omega,by omega,by omega⟩
   ·exact⟨by omega,by omega⟩
   ·intro x hx
    simp only[aq,ii]
    exact hx.2
theorem uB{H:Hp}{c:Nat}{S:Nat→Prop}{st:Int}{cs:List Ce}{len:Nat}{rt:Nat→Nat}{aO:Int→Option Int}(h:bB H c S st cs len rt aO)(i:Int):
  af Tryz.prog bu [ptr c,i64 i] H fun v H'=>ar (v= .bool (decide (0<i∧i<len∧rt i.toNat=i.toNat))∧H=H'):=by
 obtain⟨⟨fb,nb,ns,mb,a1,a2,a3,a4,a5,a6,a7⟩,h2,h3,h4,h5⟩:=h
 refine aZ AB ?_
 refine v1 (ae a1) ?_
 refine(FO a3 i).mono ?_
 rintro _ _ ⟨rfl,rfl⟩
 refine vs ?_
 exact⟨rfl,rfl⟩
def dK(aO:Int→Option Int)(i:Int):Int:=(aO i).getD 0
theorem FZ{H:Hp}{c:Nat}{S:Nat→Prop}{st:Int}{cs:List Ce}{len:Nat}{rt:Nat→Nat}{aO:Int→Option Int}(h:bB H c S st cs len rt aO)(i:Int):
  af Tryz.prog iA [ptr c,i64 i] H fun v H'=>ar (v=i64 (dK aO i)∧H=H'):=by
 obtain⟨⟨fb,nb,ns,mb,a1,a2,a3,a4,a5,a6,a7⟩,h2,h3,h4,h5⟩:=h
 refine aZ AC ?_
 refine v2 (ae a1) a4.look ?_
 refine⟨?_,rfl⟩
 unfold dK
 cases aO i<;>rfl
theorem p7{H:Hp}{c:Nat}{S:Nat→Prop}{st:Int}{cs:List Ce}{len:Nat}{rt:Nat→Nat}{aO:Int→Option Int}(h:bB H c S st cs len rt aO)(i:Int):
  af Tryz.prog vL [ptr c,i64 i] H fun v H'=>ar (v= .bool (decide (0≤i∧i<cs.length))∧H=H'):=by
 obtain⟨⟨fb,nb,ns,mb,a1,a2,a3,a4,a5,a6,a7⟩,h2,h3,h4,h5⟩:=h
 refine aZ wz ?_
 refine vs ?_
 refine ai.dec (fun h=>?_) (fun h=>?_)<;>refine v1 (ae a1) ?_
 ·exact⟨aoD Value.bool (by rw[decide_eq_decide];omega),rfl⟩
 ·exact⟨aoD Value.bool (aoK (by omega)).symm,rfl⟩
theorem vt{cs:List Ce}{i:Nat}{c:Ce}(hi:cs[i]? =some c):
  (cD cs)[i*3]? =some (i64 c.1)∧(cD cs)[i*3+1]? =some (i64 c.2.1)∧(cD cs)[i*3+2]? =some (u64 c.2.2)∧((cD cs).drop (i*3+1)).take 2=[i64 c.2.1,u64 c.2.2]:=by
 have hx:∀ (cs:List Ce) (i:Nat) (c:Ce),cs[i]? =some c→(cD cs)[i*3]? =some (i64 c.1)∧(cD cs)[i*3+1]? =some (i64 c.2.1)∧(cD cs)[i*3+2]? =some (u64 c.2.2):=by
  intro cs
  induction cs with
  |nil=>intro i c h;simp at h
  |cons a r ih=>
   intro i c h
   have e:cD (a::r)=i64 a.1::i64 a.2.1::u64 a.2.2::cD r:=rfl
   rw[e]
   cases i with
   |zero=>simp at h;subst h;exact⟨rfl,rfl,rfl⟩
   |succ i=>
    have:=ih i c (by simpa using h)
    rw[show(i+1)*3=i*3+3 by omega]
    simpa using this
 obtain⟨x0,x1,x2⟩:=hx cs i c hi
 refine⟨x0,x1,x2,?_⟩
 apply ao7
 intro k
 rw[aoU]
 match k with
 |0=>simpa using x1
 |1=>rw[if_pos (by omega),aoX];exact x2
 |k+2=>rw[if_neg (by omega)];rfl
def cU(cs:List Ce)(i:Int):Prop:=0≤i∧∃c,cs[i.toNat]? =some c∧0<c.1
instance(cs:List Ce)(i:Int):Decidable (cU cs i):=
 match h:cs[i.toNat]? with
 |none=>.isFalse fun⟨_,c,h1,_⟩=>by rw[h]at h1;simp at h1
 |some c=>if h0:0≤i∧0<c.1 then .isTrue ⟨h0.1,c,h,h0.2⟩else .isFalse fun⟨h1,c',h2,h3⟩=>by rw[h]at h2;injection h2 with h2;subst h2;exact h0 ⟨h1,h3⟩
theorem fg{H:Hp}{c:Nat}{S:Nat→Prop}{st:Int}{cs:List Ce}{len:Nat}{rt:Nat→Nat}{aO:Int→Option Int}(h:bB H c S st cs len rt aO)(i:Int):
  af Tryz.prog Cf [ptr c,i64 i] H fun v H'=>ar (v= .bool (decide (cU cs i))∧H=H'):=by
 have ht:=p7 h i
 obtain⟨⟨fb,nb,ns,mb,a1,a2,a3,a4,a5,a6,a7⟩,h2,h3,h4,h5⟩:=h
 refine aZ Cs ?_
 refine vs ?_
 refine ht.mono ?_
 rintro _ _ ⟨rfl,rfl⟩
 refine vs ?_
 refine ai.dec (fun h=>?_) (fun h=>?_)<;>refine v1 (ae a1) ?_
 ·obtain⟨x,hx⟩:∃x,cs[i.toNat]? =some x:=⟨_,aop (by omega)⟩
  obtain⟨x0,x1,x2,x3⟩:=vt hx
  refine⟨by omega,?_⟩
  refine v4 (ae a2) x0 Nat.add_zero aor ?_
  exact⟨aoD Value.bool (by rw[decide_eq_decide];exact⟨fun hh=>⟨h.1,x,hx,hh⟩,fun⟨_,c,e1,e2⟩=>by rw[hx]at e1;injection e1 with e1;subst e1;exact e2⟩),rfl⟩
 ·exact⟨aoD Value.bool (aoK (by rintro⟨x,c,x1,x2⟩;have:=(aoq.1 x1).1;omega)).symm,rfl⟩
theorem IS(cs:List Ce)(i:Nat)(c:Ce)(hi:i<cs.length):aY (cD cs) (i*3) [i64 c.1,i64 c.2.1,u64 c.2.2]=cD (cs.set i c):=by
 simp only[aY]
 induction cs generalizing i with
 |nil=>simp at hi
 |cons a r ih=>
  have e:cD (a::r)=i64 a.1::i64 a.2.1::u64 a.2.2::cD r:=rfl
  cases i with
  |zero=>rfl
  |succ i=>
   have e2:cD ((a::r).set (i+1) c)=i64 a.1::i64 a.2.1::u64 a.2.2::cD (r.set i c):=rfl
   rw[e,e2,show(i+1)*3=i*3+1+1+1 by omega]
   simp only[apb]
   rw[ih i (by simpa using hi)]
theorem Es{H:Hp}{c:Nat}{S:Nat→Prop}{st:Int}{cs:List Ce}{len:Nat}{rt:Nat→Nat}{aO:Int→Option Int}(h:bB H c S st cs len rt aO):
  af Tryz.prog dw [ptr c] H fun v H'=>ar (
   (len=65537∧v=i64 0∧H=H')∨
   (len≠65537∧v=i64 len∧∃S',bB H' c S' st cs (len+1) (fun i=>if i=len then i else rt i) aO∧ag S H H'∧∀x,S' x→S x∨H.size≤x)):=by
 obtain⟨⟨fb,nb,ns,mb,a1,a2,a3,a4,a5,a6,a7⟩,h2,h3,h4,h5⟩:=h
 refine aZ yK ?_
 refine v1 (ae a1) ?_
 refine(Ef a3).mono ?_
 rintro _ H1 (⟨hl,rfl,rfl⟩| ⟨hl,rfl,s',b1,b2,b3⟩)
 ·refine vs ?_
  exact .inl ⟨by omega,rfl,rfl⟩
 ·refine vs ?_
  obtain⟨s1,s2,s3,s4,s5⟩:=a5
  obtain⟨d1,d2,d3,d4⟩:=a6
  obtain⟨⟨d5,d6,d7⟩,d8,d9⟩:=a7
  have l1:=aB a1
  have l2:=aB a2
  have l3:=a4.lt
  refine .inr ⟨by omega,rfl,fun x=>S x∨x=s',⟨⟨fb,nb,s',mb,b2.own a1 (by omega),b2.own a2 (by omega),b1,a4.ext b2 (by omega),⟨.inl s1,.inl s2,.inl s3,.inr rfl,.inl s5⟩,⟨d1,d2,by omega,d4⟩,⟨d5,by omega,d7⟩,d8,by omega⟩,h2,h3,h4,fun x hx=>hx.elim (fun h=>aoO (h5 x h) b2.size) (fun h=>by rw[h];exact b1.lt2)⟩,
   b2.mono (fun x _ hx=>hx.elim (fun e=>e▸s3) (fun e=>e▸s4)),?_⟩
  rintro x (hx|rfl)
  ·exact .inl hx
  ·rcases b3 with rfl|b3
   ·exact .inl s4
   ·exact .inr b3.1
theorem F0{H:Hp}{c:Nat}{S:Nat→Prop}{st:Int}{cs:List Ce}{len:Nat}{rt:Nat→Nat}{aO:Int→Option Int}(h:bB H c S st cs len rt aO)(g i k s:Int)
  (hm:dK aO g≤1000000∧0≤dK aO g):
  af Tryz.prog iB [ptr c,i64 g,i64 i,tu k s] H fun v H'=>ar (
   let ok:=(0<g∧g<len∧rt g.toNat=g.toNat)∧(0≤i∧i<cs.length)∧¬cU cs i
   (¬ok∧v= .bool false∧bB H' c S st cs len rt aO∧ag S H H')∨
   (ok∧v= .bool true∧bB H' c S st (cs.set i.toNat (g,k,s)) len rt (fun j=>if j=g then some (dK aO g+1)else aO j)∧ag S H H')):=by
 have nE:ag (fun _=>False) H (H.new 182 [i64 k,u64 s]):=(ag.refl _ _).new _ _
 have h':=h.ext nE (fun _ _ h=>h)
 refine aZ AE ?_
 simp(disch:=(first|omega| (simp only[Zs]<;>omega)|fail)) only[go_sem, ↓reduceIte,Zv,tu]
 refine(uB h' g).mono ?_
 rintro _ _ ⟨rfl,rfl⟩
 refine vs ?_
 have SD:∀v,v=Value.bool false→¬ ((0<g∧g<len∧rt g.toNat=g.toNat)∧(0≤i∧i<cs.length)∧¬cU cs i)→
   ((¬ ((0<g∧g<len∧rt g.toNat=g.toNat)∧(0≤i∧i<cs.length)∧¬cU cs i)∧v= .bool false∧bB (H.new 182 [i64 k,u64 s]) c S st cs len rt aO∧ag S H (H.new 182 [i64 k,u64 s]))∨
   (((0<g∧g<len∧rt g.toNat=g.toNat)∧(0≤i∧i<cs.length)∧¬cU cs i)∧v= .bool true∧bB (H.new 182 [i64 k,u64 s]) c S st (cs.set i.toNat (g,k,s)) len rt (fun j=>if j=g then some (dK aO g+1)else aO j)∧ag S H (H.new 182 [i64 k,u64 s]))):=
  fun v hv hn=>.inl ⟨hn,hv,h',(ag.refl _ _).new _ _⟩
 refine ai.dec (fun hg=>?_) (fun hg=>?_)<;>refine vs ?_
 ·refine(p7 h' i).mono ?_
  rintro _ _ ⟨rfl,rfl⟩
  refine vs ?_
  refine ai.dec (fun hi=>?_) (fun hi=>?_)<;>refine vs ?_
  ·refine(fg h' i).mono ?_
   rintro _ _ ⟨rfl,rfl⟩
   refine vs ?_
   refine ai.dec (fun bE=>?_) (fun bE=>?_)<;>refine vs ?_
   ·exact SD _ rfl (fun hc=>hc.2.2 bE)
   ·obtain⟨⟨fb,nb,ns,mb,a1,a2,a3,a4,a5,a6,a7⟩,h2,h3,h4,h5⟩:=h'
    refine v1 (ae a1) ?_
    refine⟨by omega,?_⟩
    refine v1 a2 ?_
    refine⟨by rw[iO];omega,?_⟩
    rw[show aY (cD cs) (i.toNat*3) (aF (Value.agg #[Value.int .i64 g,i64 k,u64 s]))=cD (cs.set i.toNat (g,k,s))from IS cs i.toNat (g,k,s) (by omega)]
    obtain⟨s1,s2,s3,s4,s5⟩:=a5
    obtain⟨d1,d2,d3,d4⟩:=a6
    obtain⟨⟨d5,d6,d7⟩,d8,d9⟩:=a7
    have e1:ag (fun x=>x=fb) (H.new 182 [i64 k,u64 s]) ((H.new 182 [i64 k,u64 s]).wr fb (cD (cs.set i.toNat (g,k,s)))):=(ag.refl (fun x=>x=fb) _).wr (fun _=>rfl) _
    have a1':=e1.own a1 d1
    have XE:((H.new 182 [i64 k,u64 s]).wr fb (cD (cs.set i.toNat (g,k,s)))).own fb=_:=ah a2
    have a3':=a3.ext e1 (Ne.symm d5) (Ne.symm d6)
    have a4':=a4.ext e1 (Ne.symm d7)
    have el:gH false (Value.int .i64 0) ((aO g).map i64)=i64 (dK aO g):=by unfold dK;cases aO g<;>rfl
    refine v3 (ae a1') a4'.look el ?_
    rw[wrap64 (by omega) (by omega)]
    refine a4'.Zx fun H2 m2 e2=>?_
    refine vs ?_
    refine .inr ⟨⟨hg,hi,bE⟩,rfl,⟨⟨fb,nb,ns,mb,by rw[aot];exact e2.own a1' d4,e2.own XE d7,a3'.ext e2 d8 d9,?_,⟨s1,s2,s3,s4,s5⟩,⟨d1,d2,d3,d4⟩,⟨d5,d6,d7⟩,d8,d9⟩,h2,h3,by rw[aot];exact h4,fun x hx=>aoO (h5 x hx) (apc e1.size e2.size)⟩,?_⟩
    ·have:(fun j=>Option.map i64 (if j=g then some (dK aO g+1)else aO j))=Jn (fun j=>(aO j).map i64) g (i64 (dK aO g+1)):=by
      funext j;unfold Jn;by_cases hj:j=g<;>simp[hj]
     rw[this];exact m2
    ·exact(((ag.refl S H).new 182 [i64 k,u64 s]).trans (e1.mono fun x _ hx=>hx▸s2)).trans (e2.mono fun x _ hx=>hx▸s5)
  ·exact SD _ rfl (fun hc=>hi hc.2.1)
 ·exact SD _ rfl (fun hc=>hg hc.1)
theorem Qp{m n:Int}(h0:0≤m)(h1:m≤4611686018427387904):0≤fO m n∧fO m n≤4611686018427387904:=by
 unfold fO;split
 ·exact⟨h0,h1⟩
 ·split<;>omega
def ze(a b:Int)(x y:Ce):Prop:=LP x.2.1 x.2.2 y.2.1 y.2.2<0∨LP x.2.1 x.2.2 y.2.1 y.2.2=0∧a<b
instance(a b:Int)(x y:Ce):Decidable (ze a b x y):=inferInstanceAs (Decidable (_∨_∧_))
theorem CM{H:Hp}{c:Nat}{S:Nat→Prop}{st:Int}{cs:List Ce}{len:Nat}{rt:Nat→Nat}{aO:Int→Option Int}(h:bB H c S st cs len rt aO)(a b:Int):
  af Tryz.prog cM [ptr c,i64 a,i64 b] H fun v H'=>ar (
   (¬ (cU cs a∧cU cs b)∧v= .bool false∧H=H')∨
   (cU cs a∧cU cs b)∧∃x y,cs[a.toNat]? =some x∧cs[b.toNat]? =some y∧v= .bool (decide (ze a b x y))∧bB H' c S (fO st 1) cs len rt aO∧ag S H H'):=by
 have h':=h
 obtain⟨⟨fb,nb,ns,mb,a1,a2,a3,a4,a5,a6,a7⟩,h2,h3,h4,h5⟩:=h
 refine aZ wB ?_
 refine vs ?_
 refine(fg h' a).mono ?_
 rintro _ _ ⟨rfl,rfl⟩
 refine vs ?_
 refine ai.dec (fun ha=>?_) (fun ha=>?_)<;>refine vs ?_
 ·refine(fg h' b).mono ?_
  rintro _ _ ⟨rfl,rfl⟩
  refine vs ?_
  refine ai.dec (fun hb=>?_) (fun hb=>?_)<;>refine vs ?_
  ·obtain⟨Sz,x,hx,fL⟩:=id ha
   obtain⟨RU,y,hy,hy0⟩:=id hb
   refine(CL a1 ⟨h2,h3⟩ 1 (by omega)).mono ?_
   rintro v H1 hH
   obtain⟨rfl,b1,b2,b3,b4⟩:v= .tuple [].toArray∧H1.own c=some [i64 (fO st 1),.slice (some ⟨fb,0,none⟩) cs.length cs.length,ptr nb,.map (some mb)]∧H1.own fb=some (cD cs)∧bB H1 c S (fO st 1) cs len rt aO∧ag S H H1:=by
    have ma:=Qp (n:=1) h2 h3
    rcases hH.out with ⟨rfl,rfl⟩| ⟨rfl,rfl,hs⟩
    ·obtain⟨s1,s2,s3,s4,s5⟩:=a5
     obtain⟨d1,d2,d3,d4⟩:=a6
     have e1:ag (fun x=>x=c) H (H.wr c [i64 (fO st 1),.slice (some ⟨fb,0,none⟩) cs.length cs.length,ptr nb,.map (some mb)]):=(ag.refl (fun x=>x=c) _).wr (fun _=>rfl) _
     exact⟨rfl,ah a1,e1.own a2 (Ne.symm d1),⟨⟨fb,nb,ns,mb,ah a1,e1.own a2 (Ne.symm d1),a3.ext e1 (Ne.symm d2) (Ne.symm d3),a4.ext e1 (Ne.symm d4),⟨s1,s2,s3,s4,s5⟩,⟨d1,d2,d3,d4⟩,a7⟩,ma.1,ma.2,h4,fun x hx=>aoO (h5 x hx) e1.size⟩,e1.mono fun x _ hx=>hx▸s1⟩
    ·rw[hs]
     exact⟨rfl,a1,a2,h',ag.refl _ _⟩
   have al:=(aoq.1 hx).1
   have bl:=(aoq.1 hy).1
   obtain⟨x1,x2,x3,x4⟩:=vt hx
   obtain⟨y1,y2,y3,y4⟩:=vt hy
   have fl:=iO cs
   refine v1 (ae b1) ?_
   refine⟨by omega,?_⟩
   refine v3 (ae b1) (ae b2) x4 ?_
   refine⟨by omega,?_⟩
   refine v2 (ae b1) x4 ?_
   refine⟨by omega,?_⟩
   refine v3 (ae b1) (ae b2) y4 ?_
   refine⟨by omega,?_⟩
   refine v2 x4 y4 ?_
   refine(mZ x.2.1 x.2.2 y.2.1 y.2.2 _).mono ?_
   rintro _ H2 ⟨rfl,hf⟩
   refine vs ?_
   have b5:=b3.ext hf (fun _ _ h=>h)
   have b6:=b4.trans (hf.mono fun _ _ h=>h.elim)
   refine ai.dec (fun aK=>?_) (fun aK=>?_)<;>refine vs ?_
   ·exact .inr ⟨⟨ha,hb⟩,x,y,hx,hy,aoD Value.bool (aoE (show ze a b x y from .inl aK)).symm,b5,b6⟩
   ·refine ai.dec (fun heq=>?_) (fun heq=>?_)<;>refine vs ?_
    ·exact .inr ⟨⟨ha,hb⟩,x,y,hx,hy,aoD Value.bool (by rw[decide_eq_decide];exact⟨fun hh=>.inr ⟨heq,hh⟩,fun hh=>hh.elim (fun e=>absurd e aK) (·.2)⟩),b5,b6⟩
    ·exact .inr ⟨⟨ha,hb⟩,x,y,hx,hy,aoD Value.bool (aoK (show¬ze a b x y from fun hh=>hh.elim aK (fun e=>heq e.1))).symm,b5,b6⟩
  ·exact .inl ⟨fun hc=>hb hc.2,rfl,rfl⟩
 ·exact .inl ⟨fun hc=>ha hc.1,rfl,rfl⟩
theorem bB.names{H H1:Hp}{c:Nat}{S:Nat→Prop}{st:Int}{cs:List Ce}{len:Nat}{rt rt':Nat→Nat}{aO:Int→Option Int}{fb nb ns mb:Nat}(h:bB H c S st cs len rt aO)
  (a1:H.own c=some [i64 st,.slice (some ⟨fb,0,none⟩) cs.length cs.length,ptr nb,.map (some mb)])(a2:H.own fb=some (cD cs))(a4:kX H mb (fun i=>(aO i).map i64))
  (a5:S c∧S fb∧S nb∧S ns∧S mb)(a6:c≠fb∧c≠nb∧c≠ns∧c≠mb)(a7:fb≠nb∧fb≠ns∧fb≠mb)(a8:nb≠mb∧ns≠mb)
  (n:eO H1 nb ns len rt' 65536)(e:ag (fun x=>x=nb∨x=ns) H H1):
  bB H1 c S st cs len rt' aO∧ag S H H1∧H1.own c=some [i64 st,.slice (some ⟨fb,0,none⟩) cs.length cs.length,ptr nb,.map (some mb)]∧kX H1 mb (fun i=>(aO i).map i64):=by
 obtain⟨s1,s2,s3,s4,s5⟩:=a5
 have b1:=e.own a1 (by omega)
 have b4:=a4.ext e (by omega)
 exact⟨⟨⟨fb,nb,ns,mb,b1,e.own a2 (by omega),n,b4,⟨s1,s2,s3,s4,s5⟩,a6,a7,a8⟩,h.st0,h.XT,h.Er,fun x hx=>aoO (h.slt x hx) e.size⟩,e.mono fun x _ hx=>hx.elim (fun h=>h▸s3) (fun h=>h▸s4),b1,b4⟩
theorem si{H:Hp}{c:Nat}{S:Nat→Prop}{st:Int}{cs:List Ce}{len:Nat}{rt:Nat→Nat}{aO:Int→Option Int}(h:bB H c S st cs len rt aO)(hl:∀x∈cs,x.1<len)(i:Int):
  af Tryz.prog gR [ptr c,i64 i] H fun v H'=>ar (
   (¬cU cs i∧v= .tuple [i64 0,.bool false].toArray∧H=H')∨
   (cU cs i∧∃x,cs[i.toNat]? =some x∧v= .tuple [i64 (rt x.1.toNat),.bool true].toArray∧bB H' c S st cs len rt aO∧ag S H H')):=by
 have h':=h
 obtain⟨⟨fb,nb,ns,mb,a1,a2,a3,a4,a5,a6,a7,a8⟩,h2,h3,h4,h5⟩:=h
 refine aZ yH ?_
 refine vs ?_
 refine(fg h' i).mono ?_
 rintro _ _ ⟨rfl,rfl⟩
 refine vs ?_
 refine ai.dec (fun hi=>?_) (fun hi=>?_)<;>refine vs ?_
 ·obtain⟨CD,x,hx,fL⟩:=id hi
  have nL:=(aoq.1 hx).1
  obtain⟨x1,x2,x3,x4⟩:=vt hx
  refine v1 (ae a1) ?_
  refine⟨by omega,?_⟩
  refine v4 (ae a2) x1 Nat.add_zero aor ?_
  refine(Eg a3 x.1).mono ?_
  rintro _ H1 (⟨hn,_⟩| ⟨_,rfl,n1,e1⟩)
  ·exact absurd ⟨fL,hl x (aow hx)⟩ hn
  refine vs ?_
  obtain⟨b1,b2,_⟩:=h'.names a1 a2 a4 a5 a6 a7 a8 n1 e1
  exact .inr ⟨hi,x,hx,rfl,b1,b2⟩
 ·exact .inl ⟨hi,rfl,rfl⟩
theorem CN{H:Hp}{c:Nat}{S:Nat→Prop}{st:Int}{cs:List Ce}{len:Nat}{rt:Nat→Nat}{aO:Int→Option Int}(h:bB H c S st cs len rt aO)(i:Int):
  af Tryz.prog ba [ptr c,i64 i] H fun v H'=>ar (bB H' c S st cs len rt aO∧am H H'∧(
   (¬cU cs i∧v= .tuple [tu 0 0,.bool false].toArray)∨
   (cU cs i∧∃x,cs[i.toNat]? =some x∧v= .tuple [tu x.2.1 x.2.2,.bool true].toArray))):=by
 have e0:am H (H.new 182 [.int .i64 0,.int .u64 0]):=(ag.refl _ _).new _ _
 have h':=h.ext e0 (fun _ _ h=>h)
 refine aZ wq ?_
 refine vs ?_
 refine(fg h' i).mono ?_
 rintro _ _ ⟨rfl,rfl⟩
 refine vs ?_
 refine ai.dec (fun hi=>?_) (fun hi=>?_)<;>refine vs ?_
 ·obtain⟨CD,x,hx,fL⟩:=id hi
  have nL:=(aoq.1 hx).1
  obtain⟨x1,x2,x3,x4⟩:=vt hx
  have fl:=iO cs
  obtain⟨⟨fb,nb,ns,mb,a1,a2,a3,a4,a5,a6,a7,a8⟩,h2,h3,h4,h5⟩:=id h'
  refine v1 (ae a1) ?_
  refine⟨by omega,?_⟩
  refine v1 (ae a2) ?_
  refine⟨by omega,?_⟩
  simp(disch:=(first|omega| (simp only[Zs]<;>omega)|fail)) only[go_sem, ↓reduceIte,Zv,x4,re (aD H 182 [.int .i64 0,.int .u64 0])]
  have e1:am H ((H.new 182 [.int .i64 0,.int .u64 0]).wr H.size [i64 x.2.1,u64 x.2.2]):=e0.wr (fun h=>absurd h (Nat.lt_irrefl _)) _
  exact⟨h.ext e1 (fun _ _ h=>h),e1,.inr ⟨hi,x,hx,rfl⟩⟩
 ·simp(disch:=(first|omega| (simp only[Zs]<;>omega)|fail)) only[go_sem, ↓reduceIte,Zv,re (aD H 182 [.int .i64 0,.int .u64 0])]
  have e1:am H ((H.new 182 [.int .i64 0,.int .u64 0]).wr H.size [.int .i64 0,.int .u64 0]):=e0.wr (fun h=>absurd h (Nat.lt_irrefl _)) _
  exact⟨h.ext e1 (fun _ _ h=>h),e1,.inl ⟨hi,rfl⟩⟩
def cT(m:Int→Option Int)(i n:Int):Int→Option Int:=fun j=>if j=i then some n else m j
def rz(m:Int→Option Int)(i:Int):Int→Option Int:=fun j=>if j=i then none else m j
theorem LR(m:Int→Option Int)(i n:Int):Jn (fun j=>(m j).map i64) i (i64 n)=fun j=>(cT m i n j).map i64:=by
 funext j;unfold Jn cT;by_cases hj:j=i<;>simp[hj]
theorem LS(m:Int→Option Int)(i:Int):Ng (fun j=>(m j).map i64) i=fun j=>(rz m i j).map i64:=by
 funext j;unfold Ng rz;by_cases hj:j=i<;>simp[hj]
theorem DF(m:Int→Option Int)(g:Int):gH false (Value.int .i64 0) ((m g).map i64)=i64 (dK m g):=by
 unfold dK;cases m g<;>rfl
theorem Et{H:Hp}{c:Nat}{S:Nat→Prop}{st:Int}{cs:List Ce}{len:Nat}{rt:Nat→Nat}{aO:Int→Option Int}(h:bB H c S st cs len rt aO)(hl:∀x∈cs,x.1<len)(i:Int)(hm:∀j,0≤dK aO j∧dK aO j≤1000000):
  af Tryz.prog gS [ptr c,i64 i] H fun v H'=>ar (
   (¬cU cs i∧v= .bool false∧H=H')∨
   (cU cs i∧v= .bool true∧∃x,cs[i.toNat]? =some x∧
    bB H' c S st (cs.set i.toNat (0,0,0)) len rt (if dK aO (rt x.1.toNat) - 1=0 then rz (cT aO (rt x.1.toNat) (dK aO (rt x.1.toNat) - 1)) (rt x.1.toNat)else cT aO (rt x.1.toNat) (dK aO (rt x.1.toNat) - 1))∧ag S H H')):=by
 refine aZ yJ ?_
 refine vs ?_
 refine(si h hl i).mono ?_
 rintro _ H1 (⟨hi,rfl,rfl⟩| ⟨hi,x,hx,rfl,b1,b2⟩)
 ·refine vs ?_
  exact .inl ⟨hi,rfl,rfl⟩
 ·have nL:=(aoq.1 hx).1
  have CD:=hi.1
  have fl:=iO cs
  obtain⟨⟨fb,nb,ns,mb,a1,a2,a3,a4,a5,a6,a7,a8⟩,h2,h3,h4,h5⟩:=b1
  have hmg:=hm (rt x.1.toNat)
  refine v1 (ae a1) ?_
  refine⟨by omega,?_⟩
  refine v1 a2 ?_
  refine⟨by omega,?_⟩
  rw[show aY (cD cs) (i.toNat*3) (aF (Value.agg #[Value.int .i64 0,Value.int .i64 0,Value.int .u64 0]))=cD (cs.set i.toNat (0,0,0))from IS cs i.toNat (0,0,0) (by omega)]
  have e2:ag (fun x=>x=fb) H1 (H1.wr fb (cD (cs.set i.toNat (0,0,0)))):=(ag.refl (fun x=>x=fb) _).wr (fun _=>rfl) _
  have c1:=e2.own a1 a6.1
  have c2:(H1.wr fb (cD (cs.set i.toNat (0,0,0)))).own fb=_:=ah a2
  have c3:=a3.ext e2 (Ne.symm a7.1) (Ne.symm a7.2.1)
  have c4:=a4.ext e2 (Ne.symm a7.2.2)
  refine v3 (ae c1) c4.look DF ?_
  rw[wrap64 (by omega) (by omega)]
  refine c4.Zx fun H2 m2 e3=>?_
  rw[LR]at m2
  have d1:=e3.own c1 a6.2.2.2
  have hs:dK (cT aO (rt x.1.toNat) (dK aO (rt x.1.toNat) - 1)) (rt x.1.toNat)=dK aO (rt x.1.toNat) - 1:=by simp[dK,cT]
  refine v4 (ae d1) m2.look DF hs ?_
  have G1:ag S H1 H2:=(e2.mono fun x _ hx=>hx▸a5.2.1).trans (e3.mono fun x _ hx=>hx▸a5.2.2.2.2)
  refine ai.dec (fun h0=>?_) (fun h0=>?_)<;>refine v1 (ae d1) ?_
  ·refine m2.del fun H3 m3 e4=>?_
   rw[LS]at m3
   refine vs ?_
   refine .inr ⟨hi,rfl,x,hx,?_,(b2.trans G1).trans (e4.mono fun x _ hx=>hx▸a5.2.2.2.2)⟩
   rw[if_pos h0]
   exact⟨⟨fb,nb,ns,mb,by rw[aot];exact e4.own d1 a6.2.2.2,(e4.own (e3.own c2 a7.2.2) a7.2.2),(c3.ext e3 a8.1 a8.2).ext e4 a8.1 a8.2,m3,a5,a6,a7,a8⟩,h2,h3,by rw[aot];exact h4,fun x hx=>aoO (h5 x hx) (apc G1.size e4.size)⟩
  ·refine .inr ⟨hi,rfl,x,hx,?_,b2.trans G1⟩
   rw[if_neg h0]
   exact⟨⟨fb,nb,ns,mb,by rw[aot];exact d1,e3.own c2 a7.2.2,c3.ext e3 a8.1 a8.2,m2,a5,a6,a7,a8⟩,h2,h3,by rw[aot];exact h4,fun x hx=>aoO (h5 x hx) G1.size⟩
theorem NH(cs:List Ce)(i:Nat)(x:Ce)(k s:Int)(hx:cs[i]? =some x):aY (cD cs) (i*3+1) [i64 k,u64 s]=cD (cs.set i (x.1,k,s)):=by
 simp only[aY]
 induction cs generalizing i with
 |nil=>simp at hx
 |cons a r ih=>
  have e:cD (a::r)=i64 a.1::i64 a.2.1::u64 a.2.2::cD r:=rfl
  cases i with
  |zero=>
   simp at hx
   subst hx
   rfl
  |succ i=>
   have e2:cD ((a::r).set (i+1) (x.1,k,s))=i64 a.1::i64 a.2.1::u64 a.2.2::cD (r.set i (x.1,k,s)):=rfl
   rw[e,e2,show(i+1)*3+1=i*3+1+1+1+1 by omega]
   simp only[apb]
   rw[ih i (by simpa using hx)]
theorem CO{H:Hp}{c:Nat}{S:Nat→Prop}{st:Int}{cs:List Ce}{len:Nat}{rt:Nat→Nat}{aO:Int→Option Int}(h:bB H c S st cs len rt aO)(i k s:Int):
  af Tryz.prog gk [ptr c,i64 i,tu k s] H fun v H'=>ar (
   (¬ (cU cs i∧∀x,cs[i.toNat]? =some x→¬fN x.2.1 x.2.2 k s)∧v= .bool false∧bB H' c S st cs len rt aO∧am H H')∨
   (cU cs i∧v= .bool true∧∃x,cs[i.toNat]? =some x∧¬fN x.2.1 x.2.2 k s∧bB H' c S st (cs.set i.toNat (x.1,k,s)) len rt aO∧ag S H H')):=by
 have e0:am H (H.new 182 [i64 k,u64 s]):=(ag.refl _ _).new _ _
 have h':=h.ext e0 (fun _ _ h=>h)
 refine aZ ww ?_
 simp(disch:=(first|omega| (simp only[Zs]<;>omega)|fail)) only[go_sem, ↓reduceIte,Zv,tu]
 refine(fg h' i).mono ?_
 rintro _ _ ⟨rfl,rfl⟩
 refine vs ?_
 refine ai.dec (fun hi=>?_) (fun hi=>?_)<;>refine vs ?_
 ·obtain⟨CD,x,hx,fL⟩:=id hi
  have nL:=(aoq.1 hx).1
  obtain⟨x1,x2,x3,x4⟩:=vt hx
  have fl:=iO cs
  obtain⟨⟨fb,nb,ns,mb,a1,a2,a3,a4,a5,a6,a7,a8⟩,h2,h3,h4,h5⟩:=id h'
  refine v1 (ae a1) ?_
  refine⟨by omega,?_⟩
  refine v1 (ae a2) ?_
  refine⟨by omega,?_⟩
  refine v1 x4 ?_
  refine(Ep x.2.1 x.2.2 k s _).mono ?_
  rintro _ H2 ⟨rfl,hf⟩
  have g1:=hf.own a1 (fun h=>h)
  have g2:=hf.own a2 (fun h=>h)
  have hr:=hf.own (aD H 182 [i64 k,u64 s]) (fun h=>h)
  refine vs ?_
  refine ai.dec (fun fz=>?_) (fun fz=>?_)<;>refine vs ?_
  ·exact .inl ⟨fun hc=>hc.2 x hx fz,rfl,h'.ext hf (fun _ _ h=>h),e0.trans hf⟩
  ·refine v2 (ae g1) (ae hr) ?_
   refine⟨by omega,?_⟩
   refine v3 (ae g1) (ae hr) g2 ?_
   refine⟨by omega,?_⟩
   refine vs ?_
   have UJ:((cD cs).set (i.toNat*3+1) (i64 k)).set (i.toNat*3+1+1) (u64 s)=cD (cs.set i.toNat (x.1,k,s)):=NH cs i.toNat x k s hx
   rw[UJ]
   have e3:ag (fun x=>x=fb) H2 (H2.wr fb (cD (cs.set i.toNat (x.1,k,s)))):=(ag.refl (fun x=>x=fb) _).wr (fun _=>rfl) _
   refine .inr ⟨hi,rfl,x,hx,fz,⟨⟨fb,nb,ns,mb,by rw[aot];exact e3.own g1 a6.1,ah g2,(a3.ext hf (fun h=>h) (fun h=>h)).ext e3 (Ne.symm a7.1) (Ne.symm a7.2.1),(a4.ext hf (fun h=>h)).ext e3 (Ne.symm a7.2.2),a5,a6,a7,a8⟩,h2,h3,by rw[aot];exact h4,fun x hx=>aoO (h5 x hx) (apc hf.size e3.size)⟩,
    ((e0.trans hf).mono fun _ _ h=>h.elim).trans (e3.mono fun x _ hx=>hx▸a5.2.1)⟩
 ·exact .inl ⟨fun hc=>hi hc.1,rfl,h',e0⟩
structure Nw where
 hs:List Bool
 cs:List Ce
def Nw.has(w:Nw)(h:Int):Prop:=1≤h∧w.hs[h.toNat]? =some true
instance(w:Nw)(h:Int):Decidable (w.has h):=inferInstanceAs (Decidable (_∧_))
def Nw.len(w:Nw)(h:Int):Int:=if 0<h then(w.cs.countP fun c=>decide (c.1=h):Nat)else 0
def Nw.put(w:Nw)(i:Int)(c:Ce):Nw:=⟨w.hs,w.cs.set i.toNat c⟩
def Nw.make(w:Nw):Nw:=⟨w.hs++[true],w.cs⟩
def Nw.ahead(w:Nw)(a b:Int):Bool:=
 decide (cU w.cs a) && decide (cU w.cs b) && (match w.cs[a.toNat]?,w.cs[b.toNat]? with|some x,some y=>decide (ze a b x y)|_,_=>false)
theorem Nw.zf(w:Nw)(h:Int):0≤w.len h∧w.len h≤w.cs.length:=by
 unfold Nw.len
 have:=List.countP_le_length (p:=fun c:Ce=>decide (c.1=h)) (l:=w.cs)
 split<;>omega
structure ng(w:Nw)(cs:List Ce)(len:Nat)(rt:Nat→Nat)(aO:Int→Option Int):Prop where
 hl:w.hs.length=len
 h0:w.hs[0]? =some false
 hh:∀h,1≤h→h<len→w.hs[h]? =some (decide (rt h=h))
 cl:w.cs=cs.map fun c=>(if 0<c.1 then((rt c.1.toNat:Nat):Int)else 0,c.2)
 lt:∀c∈cs,0≤c.1∧c.1<len
 mn:∀h:Int,dK aO h=w.len h
 low:∀i,i<len→rt i<len
 LH:∀i,i<len→rt (rt i)=rt i
 nz:∀i,i<len→rt i=0→i=0
def bi(H:Hp)(c:Nat)(S:Nat→Prop)(st:Int)(w:Nw):Prop:=∃cs len rt aO,bB H c S st cs len rt aO∧ng w cs len rt aO
theorem bi.ext{H H':Hp}{c:Nat}{S T:Nat→Prop}{st:Int}{w:Nw}(h:bi H c S st w)(e:ag T H H')(hd:∀x,S x→¬T x):bi H' c S st w:=by
 obtain⟨cs,len,rt,aO,h1,h2⟩:=h
 exact⟨cs,len,rt,aO,h1.ext e hd,h2⟩
theorem bi.fresh{H H':Hp}{c:Nat}{S:Nat→Prop}{st:Int}{w:Nw}(h:bi H c S st w)(e:am H H'):bi H' c S st w:=h.ext e fun _ _ h=>h
theorem bi.slt{H:Hp}{c:Nat}{S:Nat→Prop}{st:Int}{w:Nw}(h:bi H c S st w):∀x,S x→x<H.size:=by
 obtain⟨cs,len,rt,aO,h1,h2⟩:=h
 exact h1.slt
theorem bi.Er{H:Hp}{c:Nat}{S:Nat→Prop}{st:Int}{w:Nw}(h:bi H c S st w):w.cs.length≤65536:=by
 obtain⟨cs,len,rt,aO,h1,h2⟩:=h
 rw[h2.cl,aoA]
 exact h1.Er
theorem bi.st{H:Hp}{c:Nat}{S:Nat→Prop}{st:Int}{w:Nw}(h:bi H c S st w):0≤st∧st≤4611686018427387904:=by
 obtain⟨cs,len,rt,aO,h1,h2⟩:=h
 exact⟨h1.st0,h1.XT⟩
theorem ng.MH{w:Nw}{cs:List Ce}{len:Nat}{rt:Nat→Nat}{aO:Int→Option Int}(h:ng w cs len rt aO)(i:Int):cU w.cs i↔cU cs i:=by
 unfold cU
 rw[h.cl]
 simp only[aoG]
 constructor
 ·rintro⟨h0,c,hc,hp⟩
  cases hx:cs[i.toNat]? with
  |none=>rw[hx]at hc;cases hc
  |some x=>
   rw[hx]at hc
   simp only[Option.map_some,aoz]at hc
   subst hc
   refine⟨h0,x,rfl,?_⟩
   by_cases fL:0<x.1
   ·exact fL
   ·simp[fL]at hp
 ·rintro⟨h0,x,hx,hp⟩
  refine⟨h0,_,by rw[hx];rfl,?_⟩
  have aK:=h.lt x (aow hx)
  simp only[if_pos hp]
  have hnz:rt x.1.toNat≠0:=fun e=>by have:=h.nz _ (by omega) e;omega
  omega
theorem ng.get{w:Nw}{cs:List Ce}{len:Nat}{rt:Nat→Nat}{aO:Int→Option Int}(h:ng w cs len rt aO){i:Nat}{x:Ce}(hx:cs[i]? =some x):w.cs[i]? =some (if 0<x.1 then((rt x.1.toNat:Nat):Int)else 0,x.2):=by
 rw[h.cl,aoG,hx];rfl
theorem ng.XU{w:Nw}{cs:List Ce}{len:Nat}{rt:Nat→Nat}{aO:Int→Option Int}(h:ng w cs len rt aO)(g:Int):w.has g↔(0<g∧g<len∧rt g.toNat=g.toNat):=by
 unfold Nw.has
 constructor
 ·rintro⟨h1,h2⟩
  have aK:=(aoq.1 h2).1
  rw[h.hl]at aK
  rw[h.hh g.toNat (by omega) aK]at h2
  injection h2 with h2
  exact⟨by omega,by omega,of_decide_eq_true h2⟩
 ·rintro⟨h1,h2,h3⟩
  exact⟨by omega,by rw[h.hh g.toNat (by omega) (by omega),aoE h3]⟩
theorem lf(cap:Int)(H:Hp):af Tryz.prog tT [i64 cap] H fun v H'=>ar (
  am H H'∧((¬ (0≤cap∧cap≤65536)∧v= .tuple [.pointer none,i64 31].toArray)∨
   (0≤cap∧cap≤65536)∧∃c S,v= .tuple [ptr c,i64 0].toArray∧bi H' c S 0 ⟨[false],List.replicate cap.toNat (0,0,0)⟩∧(∀x,S x→H.size≤x))):=by
 refine(FY cap H).mono ?_
 rintro _ H1 ⟨f,⟨h,rfl⟩| ⟨h,c,S,rfl,h1,h2⟩⟩
 ·exact⟨f,.inl ⟨h,rfl⟩⟩
 ·refine⟨f,.inr ⟨h,c,S,rfl,⟨_,_,_,_,h1,⟨rfl,rfl,fun h h1 h2=>by omega,?_,fun c hc=>?_,fun h=>?_,fun i hi=>hi,fun i hi=>rfl,fun i hi h=>h⟩⟩,h2⟩⟩
  ·simp
  ·rw[aqi hc];exact⟨by omega,by simp⟩
  ·unfold Nw.len dK
   split
   ·simp only[Option.getD_none,List.countP_replicate]
    rw[if_neg (by simp;omega)];rfl
   ·rfl
theorem gK{H:Hp}{c:Nat}{S:Nat→Prop}{st:Int}{w:Nw}(h:bi H c S st w)(i:Int):
  af Tryz.prog bu [ptr c,i64 i] H fun v H'=>ar (v= .bool (decide (w.has i))∧H=H'):=by
 obtain⟨cs,len,rt,aO,h1,h2⟩:=h
 refine(uB h1 i).mono ?_
 rintro _ _ ⟨rfl,rfl⟩
 exact⟨aoD Value.bool (by rw[decide_eq_decide,h2.XU]),rfl⟩
theorem sj{H:Hp}{c:Nat}{S:Nat→Prop}{st:Int}{w:Nw}(h:bi H c S st w)(i:Int):
  af Tryz.prog iA [ptr c,i64 i] H fun v H'=>ar (v=i64 (w.len i)∧H=H'):=by
 obtain⟨cs,len,rt,aO,h1,h2⟩:=h
 refine(FZ h1 i).mono ?_
 rintro _ _ ⟨rfl,rfl⟩
 exact⟨by rw[h2.mn],rfl⟩
theorem jG{H:Hp}{c:Nat}{S:Nat→Prop}{st:Int}{w:Nw}(h:bi H c S st w):
  af Tryz.prog dw [ptr c] H fun v H'=>ar (
   (w.hs.length=65537∧v=i64 0∧H=H')∨
   (w.hs.length≠65537∧v=i64 w.hs.length∧∃S',bi H' c S' st w.make∧ag S H H'∧∀x,S' x→S x∨H.size≤x)):=by
 obtain⟨cs,len,rt,aO,h1,h2⟩:=h
 refine(Es h1).mono ?_
 have hl:=h2.hl
 rintro _ H1 (⟨e,rfl,rfl⟩| ⟨e,rfl,S',g1,g2,g3⟩)
 ·exact .inl ⟨by omega,rfl,rfl⟩
 ·refine .inr ⟨by omega,by rw[hl],S',⟨_,_,_,_,g1,?_⟩,g2,g3⟩
  have fC:0<w.hs.length:=(aoq.1 h2.h0).1
  refine⟨by simp[Nw.make,hl],?_,fun h a1 a2=>?_,?_,fun c hc=>by have:=h2.lt c hc;omega,h2.mn,fun i hi=>?_,fun i hi=>?_,fun i hi hz=>?_⟩
  ·show(w.hs++[true])[0]? =some false
   rw[aoF fC];exact h2.h0
  ·show(w.hs++[true])[h]? =_
   by_cases he:h=len
   ·subst he
    rw[aoP (by omega),hl]
    simp
   ·rw[aoF (by omega),h2.hh h a1 (by omega),if_neg he]
  ·show w.cs=_
   rw[h2.cl]
   apply apu
   intro x hx
   have:=h2.lt x hx
   by_cases h0:0<x.1
   ·simp only[if_pos h0];rw[if_neg (by omega)]
   ·simp only[if_neg h0]
  ·by_cases he:i=len
   ·simp[he]
   ·have:=h2.low i (by omega);simp only[if_neg he];omega
  ·by_cases he:i=len
   ·simp[he]
   ·have:=h2.low i (by omega)
    simp only[if_neg he]
    rw[if_neg (by omega)]
    exact h2.LH i (by omega)
  ·by_cases he:i=len
   ·simp only[if_pos he]at hz;omega
   ·simp only[if_neg he]at hz;exact h2.nz i (by omega) hz
theorem HO{α:Type}(p:α→Bool):∀ (l:List α) (i:Nat) (x y:α),l[i]? =some x→(l.set i y).countP p+(if p x=true then 1 else 0)=l.countP p+(if p y=true then 1 else 0):=by
 intro l
 induction l with
 |nil=>intro i x y h;simp at h
 |cons a l ih=>
  intro i x y h
  cases i with
  |zero=>
   simp only[ao2,aoz]at h
   subst h
   simp only[apM,apW]
   omega
  |succ i=>
   have:=ih i x y (by simpa using h)
   simp only[apb,apW]
   omega
theorem Nw.fW{w:Nw}{i:Int}{x y:Ce}(hx:w.cs[i.toNat]? =some x)(h:Int):(w.put i y).len h=w.len h - (if 0<h∧x.1=h then 1 else 0)+(if 0<h∧y.1=h then 1 else 0):=by
 unfold Nw.len Nw.put
 by_cases h0:0<h
 ·simp only[if_pos h0,h0,true_and]
  have:=HO (fun c:Ce=>decide (c.1=h)) w.cs i.toNat x y hx
  simp only[ao0]at this
  split at this<;>split at this<;>simp_all<;>omega
 ·simp only[if_neg h0,h0,false_and,if_false];rfl
theorem lh{H:Hp}{c:Nat}{S:Nat→Prop}{st:Int}{w:Nw}(h:bi H c S st w)(g i k s:Int):
  af Tryz.prog iB [ptr c,i64 g,i64 i,tu k s] H fun v H'=>ar (
   (¬ (w.has g∧(0≤i∧i<w.cs.length)∧¬cU w.cs i)∧v= .bool false∧bi H' c S st w∧ag S H H')∨
   ((w.has g∧(0≤i∧i<w.cs.length)∧¬cU w.cs i)∧v= .bool true∧bi H' c S st (w.put i (g,k,s))∧ag S H H')):=by
 obtain⟨cs,len,rt,aO,h1,h2⟩:=h
 have tD:w.cs.length=cs.length:=by rw[h2.cl,aoA]
 have aR:=w.zf g
 have wY:=h1.Er
 refine(F0 h1 g i k s (by rw[h2.mn];omega)).mono ?_
 rintro _ H1 (⟨e,rfl,g1,g2⟩| ⟨e,rfl,g1,g2⟩)
 ·exact .inl ⟨by rw[h2.XU,h2.MH,tD];exact e,rfl,⟨_,_,_,_,g1,h2⟩,g2⟩
 ·refine .inr ⟨by rw[h2.XU,h2.MH,tD];exact e,rfl,⟨_,_,_,_,g1,?_⟩,g2⟩
  obtain⟨x,hx⟩:∃x,cs[i.toNat]? =some x:=⟨_,aop (by omega)⟩
  have fL:¬0<x.1:=fun fL=>e.2.2 ⟨e.2.1.1,x,hx,fL⟩
  have OV:=h2.get hx
  rw[if_neg fL]at OV
  refine⟨h2.hl,h2.h0,h2.hh,?_,fun y hy=>?_,fun j=>?_,h2.low,h2.LH,h2.nz⟩
  ·show w.cs.set i.toNat _=_
   rw[h2.cl,ao9]
   simp only[if_pos e.1.1,e.1.2.2]
   congr 3
   omega
  ·rcases apR hy with hy|rfl
   ·exact h2.lt y hy
   ·exact⟨by have:=e.1.1;simp only;omega,e.1.2.1⟩
  ·rw[Nw.fW OV]
   by_cases hj:j=g
   ·subst hj
    have hg:=e.1.1
    rw[if_neg (by rintro⟨_,h⟩;omega),if_pos ⟨hg,rfl⟩,←h2.mn]
    simp[dK]
   ·rw[if_neg (by rintro⟨_,h⟩;omega),if_neg (by rintro⟨_,h⟩;exact hj h.symm),←h2.mn]
    simp[dK,hj]
theorem eB{H:Hp}{c:Nat}{S:Nat→Prop}{st:Int}{w:Nw}(h:bi H c S st w)(i:Int):
  af Tryz.prog gR [ptr c,i64 i] H fun v H'=>ar (
   (¬cU w.cs i∧v= .tuple [i64 0,.bool false].toArray∧H=H')∨
   (cU w.cs i∧∃x,w.cs[i.toNat]? =some x∧v= .tuple [i64 x.1,.bool true].toArray∧bi H' c S st w∧ag S H H')):=by
 obtain⟨cs,len,rt,aO,h1,h2⟩:=h
 refine(si h1 (fun x hx=>(h2.lt x hx).2) i).mono ?_
 rintro _ H1 (⟨e,rfl,rfl⟩| ⟨e,x,hx,rfl,g1,g2⟩)
 ·exact .inl ⟨by rw[h2.MH];exact e,rfl,rfl⟩
 ·obtain⟨e0,x',uC,hp⟩:=id e
  rw[hx]at uC
  injection uC with uC
  subst uC
  have hg:=h2.get hx
  rw[if_pos hp]at hg
  exact .inr ⟨by rw[h2.MH];exact e,_,hg,rfl,⟨_,_,_,_,g1,h2⟩,g2⟩
theorem iP{H:Hp}{c:Nat}{S:Nat→Prop}{st:Int}{w:Nw}(h:bi H c S st w)(i:Int):
  af Tryz.prog ba [ptr c,i64 i] H fun v H'=>ar (bi H' c S st w∧am H H'∧(
   (¬cU w.cs i∧v= .tuple [tu 0 0,.bool false].toArray)∨
   (cU w.cs i∧∃x,w.cs[i.toNat]? =some x∧v= .tuple [tu x.2.1 x.2.2,.bool true].toArray))):=by
 obtain⟨cs,len,rt,aO,h1,h2⟩:=h
 refine(CN h1 i).mono ?_
 rintro _ H1 ⟨g1,g2,⟨e,rfl⟩| ⟨e,x,hx,rfl⟩⟩
 ·exact⟨⟨_,_,_,_,g1,h2⟩,g2,.inl ⟨by rw[h2.MH];exact e,rfl⟩⟩
 ·exact⟨⟨_,_,_,_,g1,h2⟩,g2,.inr ⟨by rw[h2.MH];exact e,_,h2.get hx,rfl⟩⟩
theorem jH{H:Hp}{c:Nat}{S:Nat→Prop}{st:Int}{w:Nw}(h:bi H c S st w)(i:Int):
  af Tryz.prog gS [ptr c,i64 i] H fun v H'=>ar (
   (¬cU w.cs i∧v= .bool false∧H=H')∨
   (cU w.cs i∧v= .bool true∧bi H' c S st (w.put i (0,0,0))∧ag S H H')):=by
 obtain⟨cs,len,rt,aO,h1,h2⟩:=h
 have wY:=h1.Er
 have tD:w.cs.length=cs.length:=by rw[h2.cl,aoA]
 refine(Et h1 (fun x hx=>(h2.lt x hx).2) i (fun j=>by rw[h2.mn];have:=w.zf j;omega)).mono ?_
 rintro _ H1 (⟨e,rfl,rfl⟩| ⟨e,rfl,x,hx,g1,g2⟩)
 ·exact .inl ⟨by rw[h2.MH];exact e,rfl,rfl⟩
 ·obtain⟨e0,x',uC,hp⟩:=id e
  rw[hx]at uC
  injection uC with uC
  subst uC
  have hg:=h2.get hx
  rw[if_pos hp]at hg
  have aK:=h2.lt x (aow hx)
  have hnz:rt x.1.toNat≠0:=fun e=>by have:=h2.nz _ (by omega) e;omega
  refine .inr ⟨by rw[h2.MH];exact e,rfl,⟨_,_,_,_,g1,h2.hl,h2.h0,h2.hh,?_,fun y hy=>?_,fun j=>?_,h2.low,h2.LH,h2.nz⟩,g2⟩
  ·show w.cs.set i.toNat _=_
   rw[h2.cl,ao9]
   rfl
  ·rcases apR hy with hy|rfl
   ·exact h2.lt y hy
   ·exact⟨by simp only;omega,by simp only;omega⟩
  ·have hp:=Nw.fW (y:=((0:Int),(0:Int),(0:Int))) hg j
   simp only at hp
   have hm:=h2.mn j
   by_cases hj:j=rt x.1.toNat
   ·subst hj
    rw[if_pos ⟨by omega,rfl⟩,if_neg (by rintro⟨h1,h2⟩;omega)]at hp
    rw[hp,←hm]
    split
    ·rename_i hz
     simp only[dK]at hz
     simp only[dK,rz,if_true,Option.getD_none]
     omega
    ·simp[dK,cT]
   ·rw[if_neg (by rintro⟨_,h⟩;exact hj h.symm),if_neg (by rintro⟨h1,h2⟩;omega)]at hp
    rw[hp,←hm]
    split
    ·simp[dK,cT,rz,hj]
    ·simp[dK,cT,hj]
theorem iQ{H:Hp}{c:Nat}{S:Nat→Prop}{st:Int}{w:Nw}(h:bi H c S st w)(i k s:Int):
  af Tryz.prog gk [ptr c,i64 i,tu k s] H fun v H'=>ar (
   (¬ (cU w.cs i∧∀x,w.cs[i.toNat]? =some x→¬fN x.2.1 x.2.2 k s)∧v= .bool false∧bi H' c S st w∧am H H')∨
   (cU w.cs i∧v= .bool true∧∃x,w.cs[i.toNat]? =some x∧¬fN x.2.1 x.2.2 k s∧bi H' c S st (w.put i (x.1,k,s))∧ag S H H')):=by
 obtain⟨cs,len,rt,aO,h1,h2⟩:=h
 refine(CO h1 i k s).mono ?_
 rintro _ H1 (⟨e,rfl,g1,g2⟩| ⟨e,rfl,x,hx,hl,g1,g2⟩)
 ·refine .inl ⟨fun hc=>e ⟨(h2.MH i).1 hc.1,fun x hx=>?_⟩,rfl,⟨_,_,_,_,g1,h2⟩,g2⟩
  have:=hc.2 _ (h2.get hx)
  exact this
 ·have hg:=h2.get hx
  refine .inr ⟨(h2.MH i).2 e,rfl,_,hg,hl,⟨_,_,_,_,g1,h2.hl,h2.h0,h2.hh,?_,fun y hy=>?_,fun j=>?_,h2.low,h2.LH,h2.nz⟩,g2⟩
  ·show w.cs.set i.toNat _=_
   rw[h2.cl,ao9]
  ·rcases apR hy with hy|rfl
   ·exact h2.lt y hy
   ·exact h2.lt x (aow hx)
  ·rw[Nw.fW hg,←h2.mn]
   simp only
   split<;>omega
theorem iR{H:Hp}{c:Nat}{S:Nat→Prop}{st:Int}{w:Nw}(h:bi H c S st w)(a b:Int):
  af Tryz.prog cM [ptr c,i64 a,i64 b] H fun v H'=>ar (v= .bool (w.ahead a b)∧bi H' c S (if cU w.cs a∧cU w.cs b then fO st 1 else st) w∧ag S H H'):=by
 obtain⟨cs,len,rt,aO,h1,h2⟩:=h
 refine(CM h1 a b).mono ?_
 rintro _ H1 (⟨e,rfl,rfl⟩| ⟨e,x,y,hx,hy,rfl,g1,g2⟩)
 ·have e':¬ (cU w.cs a∧cU w.cs b):=fun hc=>e ⟨(h2.MH a).1 hc.1,(h2.MH b).1 hc.2⟩
  refine⟨aoD Value.bool ?_,by rw[if_neg e'];exact⟨_,_,_,_,h1,h2⟩,ag.refl _ _⟩
  unfold Nw.ahead
  by_cases ha:cU w.cs a
  ·by_cases hb:cU w.cs b
   ·exact absurd ⟨ha,hb⟩ e'
   ·simp[hb]
  ·simp[ha]
 ·have ha:=(h2.MH a).2 e.1
  have hb:=(h2.MH b).2 e.2
  refine⟨aoD Value.bool ?_,by rw[if_pos ⟨ha,hb⟩];exact⟨_,_,_,_,g1,h2⟩,g2⟩
  unfold Nw.ahead
  rw[aoE ha,aoE hb,h2.get hx,h2.get hy]
  rfl
theorem bi.FL{H:Hp}{c:Nat}{S:Nat→Prop}{st:Int}{w:Nw}(h:bi H c S st w):w.hs.length≤65537:=by
 obtain⟨cs,len,rt,aO,⟨⟨fb,nb,ns,mb,_,_,g,_⟩,_⟩,h2⟩:=h
 have:=g.le
 rw[h2.hl]
 omega
theorem bi.home{H:Hp}{c:Nat}{S:Nat→Prop}{st:Int}{w:Nw}(h:bi H c S st w):∀x∈w.cs,0≤x.1∧x.1<w.hs.length:=by
 obtain⟨cs,len,rt,aO,h1,h2⟩:=h
 intro x hx
 rw[h2.cl]at hx
 obtain⟨y,hy,rfl⟩:=ao8.1 hx
 have h3:=h2.lt y hy
 rw[h2.hl]
 have h4:=h2.low y.1.toNat (by omega)
 have h5:0<len:=by
  have:=(aoq.1 h2.h0).1
  rw[h2.hl]at this
  exact this
 simp only
 split<;>omega
theorem bi.live{H:Hp}{c:Nat}{S:Nat→Prop}{st:Int}{w:Nw}(h:bi H c S st w):∀x∈w.cs,0<x.1→w.hs[x.1.toNat]? =some true:=by
 obtain⟨cs,len,rt,aO,h1,h2⟩:=h
 intro x hx
 rw[h2.cl]at hx
 obtain⟨y,hy,rfl⟩:=ao8.1 hx
 have h3:=h2.lt y hy
 simp only
 split
 ·intro h0
  have h4:=h2.low y.1.toNat (by omega)
  have h5:=h2.LH y.1.toNat (by omega)
  rw[show((rt y.1.toNat:Nat):Int).toNat=rt y.1.toNat by omega,h2.hh _ (by omega) h4,h5]
  simp
 ·intro h0;omega
theorem cK.SE{H:Hp}{size n:Nat}{v:Value}{xs:List Value}(h:cK H size v n xs):∃a c,v= .slice a n c:=by
 obtain⟨_,⟨rfl,a,c,rfl⟩| ⟨b,o,c,l,rfl,_⟩⟩:=h
 ·exact⟨_,_,rfl⟩
 ·exact⟨_,_,rfl⟩
theorem IT(k s k' s':Int):(LP k s k' s'<0↔fN k s k' s')∧(LP k s k' s'=0↔(k=k'∧s=s')):=by
 refine⟨LQ k s k' s',?_⟩
 unfold LP ZD A5
 simp only[List.find?]
 by_cases h1:k<k'
 ·simp[h1];omega
 ·by_cases h2:k'<k
  ·simp[h1,h2];omega
  ·by_cases h3:s<s'
   ·simp[h1,h2,h3];omega
   ·by_cases h4:s'<s
    ·simp[h1,h2,h3,h4];omega
    ·simp[h1,h2,h3,h4];omega
theorem NI(a b:Int)(x y:Ce):ze a b x y↔(fN x.2.1 x.2.2 y.2.1 y.2.2∨(x.2.1=y.2.1∧x.2.2=y.2.2)∧a<b):=by
 unfold ze
 rw[(IT _ _ _ _).1,(IT _ _ _ _).2]
structure di(H:Hp)(r:Nat)(S:Nat→Prop)(d:Int)(l:List Int)(pl:Int→Option Int):Prop where
 NC:∃sv fp mb,H.own r=some [i64 d,sv,.map (some mb)]∧Sl H 1 sv l.length (l.map i64) fp∧kX H mb (fun i=>(pl i).map i64)∧
  S r∧S mb∧r≠mb∧(∀b,fp=some b→S b∧b≠r∧b≠mb)
 slt:∀x,S x→x<H.size
theorem di.ext{H H':Hp}{r:Nat}{S T:Nat→Prop}{d:Int}{l:List Int}{pl:Int→Option Int}(h:di H r S d l pl)(e:ag T H H')(hd:∀x,S x→¬T x):di H' r S d l pl:=by
 obtain⟨⟨sv,fp,mb,a1,a2,a3,s1,s2,s3,s4⟩,h2⟩:=h
 exact⟨⟨sv,fp,mb,e.own a1 (hd _ s1),a2.ext e (fun b hb=>hd _ (s4 b hb).1),a3.ext e (hd _ s2),s1,s2,s3,s4⟩,fun x hx=>aoO (h2 x hx) e.size⟩
theorem xq(d:Int)(H:Hp):af Tryz.prog Np [i64 d] H fun v H'=>ar (
  am H H'∧((¬cQ d∧v= .tuple [.pointer none,i64 22].toArray)∨
   cQ d∧∃r S,v= .tuple [ptr r,i64 0].toArray∧di H' r S d [] (fun _=>none)∧∀x,S x→H.size≤x)):=by
 refine aZ Nv ?_
 refine vs ?_
 refine(mX d H).mono ?_
 rintro _ _ ⟨rfl,rfl⟩
 refine vs ?_
 refine ai.dec (fun h=>?_) (fun h=>?_)<;>refine vs ?_
 ·have e1:am H (H.fh.new 273 [i64 d,.slice none 0 0,.map (some H.size)]):=((ag.refl _ _).fh).new _ _
  refine⟨e1,.inr ⟨h,H.size+1,fun x=>H.size≤x∧x<H.size+1+1,rfl,⟨⟨_,none,H.size,be (by simp only[ii]),Sl.nil _ _,?_,?_,?_,?_,?_⟩,?_⟩,fun x hx=>hx.1⟩⟩
  ·exact(kX.new H).ext ((ag.refl (fun _=>False) _).new _ _) (fun h=>h)
  ·omega
  ·omega
  ·omega
  ·intro b hb;cases hb
  ·intro x hx
   simp only[aq,ii]
   exact hx.2
 ·exact⟨ag.refl _ _,.inl ⟨h,rfl⟩⟩
theorem JS{H:Hp}{r:Nat}{S:Nat→Prop}{d:Int}{l:List Int}{pl:Int→Option Int}(h:di H r S d l pl)(i:Int):
  af Tryz.prog Ho [ptr r,i64 i] H fun v H'=>ar (v=NE (if 0≤i then l[i.toNat]? else none)∧H=H'):=by
 obtain⟨⟨sv,fp,mb,a1,a2,a3,s1,s2,s3,s4⟩,h2⟩:=h
 refine aZ HB ?_
 refine vs ?_
 refine ai.dec (fun h=>?_) (fun h=>?_)<;>refine v1 (ae a1) ?_
 ·exact⟨by rw[if_neg (by omega)];rfl,rfl⟩
 ·cases fp with
  |none=>
   obtain⟨_,e,rfl⟩:=a2
   have hl:l=[]:=ao4.1 e
   subst hl
   refine vs ?_
   refine ai.bI (by simp only[ao0];omega) ?_
   refine vs ?_
   exact⟨by rw[if_pos (by omega)];rfl,rfl⟩
  |some b=>
   obtain⟨_,l',c,rfl,a4,a5,a6,a7⟩:=a2
   refine vs ?_
   refine ai.dec (fun h3=>?_) (fun h3=>?_)<;>refine v1 (ae a1) ?_
   ·exact⟨by rw[if_pos (by omega),aoC (by omega)];rfl,rfl⟩
   ·obtain⟨x,hx⟩:∃x,l[i.toNat]? =some x:=⟨_,aop (by omega)⟩
    have DG:l'[i.toNat]? =some (i64 x):=by
     have h1:(l.map i64)[i.toNat]? =some (i64 x):=by simp[hx]
     rw[←a7,aoT (by omega)]at h1
     exact h1
    refine⟨by omega,?_⟩
    refine v3 (ae a4) aos DG ?_
    exact⟨by rw[if_pos (by omega),hx];rfl,rfl⟩
theorem jL{H:Hp}{r:Nat}{S:Nat→Prop}{d:Int}{l:List Int}{pl:Int→Option Int}(h:di H r S d l pl)(i x:Int)(hi:0≤i∧i<l.length):
  af Tryz.prog mK [ptr r,i64 i,i64 x] H fun v H'=>ar (v= .tuple [].toArray∧di H' r S d (l.set i.toNat x) (cT pl x i)∧ag S H H'):=by
 obtain⟨⟨sv,fp,mb,a1,a2,a3,s1,s2,s3,s4⟩,h2⟩:=h
 refine aZ FJ ?_
 cases fp with
 |none=>obtain⟨_,e,_⟩:=a2;omega
 |some b=>
  have XE:=a2
  obtain⟨_,l',c,rfl,a4,a5,a6,a7⟩:=a2
  refine v1 (ae a1) ?_
  refine⟨by omega,?_⟩
  refine v2 a4 aos ?_
  refine⟨by omega,?_⟩
  obtain⟨FU,qv,Q9⟩:=s4 b rfl
  have e1:ag (fun z=>z=b) H (H.wr b (l'.set i.toNat (i64 x))):=(ag.refl (fun z=>z=b) _).wr (fun _=>rfl) _
  have b1:=e1.own a1 (Ne.symm qv)
  have b2:=XE.sI a4 i.toNat (i64 x)
  have b3:=a3.ext e1 (Ne.symm Q9)
  refine v1 (ae b1) ?_
  refine b3.Zx fun H2 m2 e2=>?_
  rw[LR]at m2
  refine vs ?_
  refine⟨rfl,⟨⟨_,some b,mb,by exact e2.own b1 s3,?_,m2,s1,s2,s3,s4⟩,fun z hz=>aoO (h2 z hz) (apc e1.size e2.size)⟩,(e1.mono fun z _ hz=>hz▸FU).trans (e2.mono fun z _ hz=>hz▸s2)⟩
  rw[aot,ao9]
  exact b2.ext e2 (fun z hz=>by injection hz with hz;exact hz▸Q9)
end Go.Proofs.YthpjfeolagohkaaGreat
