/- Texts put behind each other. -/
import Derived.Test.YthpjfeolagohkaaGreatK98
import Derived.Test.YthpjfeolagohkaaGreatK19
import Derived.Test.YthpjfeolagohkaaGreatK20
import Derived.Test.YthpjfeolagohkaaGreatK25
set_option maxRecDepth 100000
set_option maxHeartbeats 8000000
set_option linter.unusedVariables false
set_option linter.unusedSimpArgs false
namespace Go.Proofs.YthpjfeolagohkaaGreat
open Go Go.Vc
abbrev Ce:=Int×Int×Int
def cK(cs:List Ce):List Value:=cs.flatMap fun c=>[i64 c.1,i64 c.2.1,u64 c.2.2]
theorem jo(cs:List Ce):(cK cs).length=cs.length*3:=by
 induction cs with
 |nil=>rfl
 |cons c r ih=>simp only[cK,arN,aqj,aqx,arh]at*;omega
theorem QV(n:Nat):cK (List.replicate n (0,0,0))=aV [.int .i64 0,.int .i64 0,.int .u64 0] n:=by
 simp[cK,aV,List.flatMap_def,asf]
theorem bN.lt2{H:Hp}{b s len:Nat}{rt:Nat→Nat}{dF:Int}(h:bN H b s len rt dF):s<H.size:=by
 obtain⟨⟨sv,bV,Lf,a1,a2,a3⟩,_⟩:=h
 exact a2.lt
structure bK(H:Hp)(c:Nat)(S:Nat→Prop)(st:Int)(cs:List Ce)(len:Nat)(rt:Nat→Nat)(aS:Int→Option Int):Prop where
 Sm:∃fb nb ns mb,H.own c=some [i64 st,.slice (some ⟨fb,0,none⟩) cs.length cs.length,ptr nb,.map (some mb)]∧H.own fb=some (cK cs)∧bN H nb ns len rt 65536∧lM H mb (fun i=>(aS i).map i64)∧
  (S c∧S fb∧S nb∧S ns∧S mb)∧(c≠fb∧c≠nb∧c≠ns∧c≠mb)∧(fb≠nb∧fb≠ns∧fb≠mb)∧(nb≠mb∧ns≠mb)
 st0:0≤st
 Uj:st≤4611686018427387904
 Fe:cs.length≤65536
 slt:∀x,S x→x<H.size
theorem bK.ext{H H':Hp}{c:Nat}{S T:Nat→Prop}{st:Int}{cs:List Ce}{len:Nat}{rt:Nat→Nat}{aS:Int→Option Int}(h:bK H c S st cs len rt aS)
  (e:ag T H H')(hd:∀x,S x→¬T x):bK H' c S st cs len rt aS:=by
 obtain⟨⟨fb,nb,ns,mb,a1,a2,a3,a4,⟨s1,s2,s3,s4,s5⟩,a6,a7⟩,h2,h3,h4,h5⟩:=h
 exact⟨⟨fb,nb,ns,mb,e.own a1 (hd _ s1),e.own a2 (hd _ s2),a3.ext e (hd _ s3) (hd _ s4),a4.ext e (hd _ s5),⟨s1,s2,s3,s4,s5⟩,a6,a7⟩,h2,h3,h4,fun x hx=>aqw (h5 x hx) e.size⟩
theorem GO(cap:Int)(H:Hp):af Tryz.prog uW [i64 cap] H fun v H'=>ax (
  ah H H'∧((¬ (0≤cap∧cap≤65536)∧v= .tuple [.pointer none,i64 31].toArray)∨
   (0≤cap∧cap≤65536)∧∃c S,v= .tuple [ptr c,i64 0].toArray∧bK H' c S 0 (List.replicate cap.toNat (0,0,0)) 1 id (fun _=>none)∧(∀x,S x→H.size≤x))):=by
 refine bm Mu ?_
 refine vs ?_
 refine ar.dec (fun h=>?_) (fun h=>?_)<;>refine vs ?_
 ·exact⟨ag.refl _ _,.inl ⟨by omega,rfl⟩⟩
 ·refine ar.dec (fun h2=>?_) (fun h2=>?_)<;>refine vs ?_
  ·exact⟨ag.refl _ _,.inl ⟨by omega,rfl⟩⟩
  ·refine(vA 65536 H).mono ?_
   rintro _ H1 ⟨hf,⟨hc,_⟩| ⟨_,nb,ns,rfl,hn,b1,b2,b3,b4⟩⟩
   ·omega
   refine vs ?_
   refine⟨by omega,?_⟩
   refine vs ?_
   have hs:(H1.new 307 (aV [.int .i64 0,.int .i64 0,.int .u64 0] cap.toNat)).own H1.size=some (cK (List.replicate cap.toNat (0,0,0))):=by
    rw[QV]
    exact az _ _ _
   have he:ag (fun _=>False) (H1.new 307 (aV [.int .i64 0,.int .i64 0,.int .u64 0] cap.toNat)) _:=
    ((ag.refl _ _).iR).new 271 [.int .i64 0,.slice (some ⟨H1.size,0,none⟩) cap.toNat cap.toNat,.pointer (some ⟨nb,0,none⟩),.map (some (H1.size+1))]
   have hm:lM (H1.new 307 (aV [.int .i64 0,.int .i64 0,.int .u64 0] cap.toNat)).iR (H1.size+1) (fun _=>none):=by
    have:=lM.new (H1.new 307 (aV [.int .i64 0,.int .i64 0,.int .u64 0] cap.toNat))
    rwa[am]at this
   have QJ:=hf.size
   have hl:(List.replicate cap.toNat ((0,0,0):Ce)).length=cap.toNat:=aqV
   refine⟨(hf.trans ((ag.refl _ _).new 307 _)).trans he,.inr ⟨by omega,H1.size+1+1,fun x=>H.size≤x∧x<H1.size+1+1+1,rfl,⟨⟨H1.size,nb,ns,H1.size+1,by rw[hl];exact bz (by simp only[am,iJ]),he.own hs (fun h=>h),
    (hn.ext ((ag.refl (fun _=>False) _).new 307 _) (fun h=>h) (fun h=>h)).ext he (fun h=>h) (fun h=>h),hm.ext ((ag.refl (fun _=>False) _).new _ _) (fun h=>h),?_,?_,?_,?_⟩,by omega,by omega,by omega,?_⟩,fun x h=>h.1⟩⟩
   ·exact⟨by omega,by omega,by omega,by omega,by omega⟩
   ·exact⟨by omega,by omega,by omega,by omega⟩
   ·exact⟨by omega,by omega,by omega⟩
   ·exact⟨by omega,by omega⟩
   ·intro x hx
    simp only[am,iJ]
    exact hx.2
theorem vF{H:Hp}{c:Nat}{S:Nat→Prop}{st:Int}{cs:List Ce}{len:Nat}{rt:Nat→Nat}{aS:Int→Option Int}(h:bK H c S st cs len rt aS)(i:Int):
  af Tryz.prog bG [ptr c,i64 i] H fun v H'=>ax (v= .bool (decide (0<i∧i<len∧rt i.toNat=i.toNat))∧H=H'):=by
 obtain⟨⟨fb,nb,ns,mb,a1,a2,a3,a4,a5,a6,a7⟩,h2,h3,h4,h5⟩:=h
 refine bm Bz ?_
 refine v1 (ae a1) ?_
 refine(nO a3 i).mono ?_
 rintro _ _ ⟨rfl,rfl⟩
 refine vs ?_
 exact⟨rfl,rfl⟩
def ee(aS:Int→Option Int)(i:Int):Int:=(aS i).getD 0
theorem GP{H:Hp}{c:Nat}{S:Nat→Prop}{st:Int}{cs:List Ce}{len:Nat}{rt:Nat→Nat}{aS:Int→Option Int}(h:bK H c S st cs len rt aS)(i:Int):
  af Tryz.prog iX [ptr c,i64 i] H fun v H'=>ax (v=i64 (ee aS i)∧H=H'):=by
 obtain⟨⟨fb,nb,ns,mb,a1,a2,a3,a4,a5,a6,a7⟩,h2,h3,h4,h5⟩:=h
 refine bm BA ?_
 refine v2 (ae a1) a4.look ?_
 refine⟨?_,rfl⟩
 unfold ee
 cases aS i<;>rfl
theorem qX{H:Hp}{c:Nat}{S:Nat→Prop}{st:Int}{cs:List Ce}{len:Nat}{rt:Nat→Nat}{aS:Int→Option Int}(h:bK H c S st cs len rt aS)(i:Int):
  af Tryz.prog wW [ptr c,i64 i] H fun v H'=>ax (v= .bool (decide (0≤i∧i<cs.length))∧H=H'):=by
 obtain⟨⟨fb,nb,ns,mb,a1,a2,a3,a4,a5,a6,a7⟩,h2,h3,h4,h5⟩:=h
 refine bm xw ?_
 refine vs ?_
 refine ar.dec (fun h=>?_) (fun h=>?_)<;>refine v1 (ae a1) ?_
 ·exact⟨aqv Value.bool (by rw[decide_eq_decide];omega),rfl⟩
 ·exact⟨aqv Value.bool (aqA (by omega)).symm,rfl⟩
theorem wB{cs:List Ce}{i:Nat}{c:Ce}(hi:cs[i]? =some c):
  (cK cs)[i*3]? =some (i64 c.1)∧(cK cs)[i*3+1]? =some (i64 c.2.1)∧(cK cs)[i*3+2]? =some (u64 c.2.2)∧((cK cs).drop (i*3+1)).take 2=[i64 c.2.1,u64 c.2.2]:=by
 have hx:∀ (cs:List Ce) (i:Nat) (c:Ce),cs[i]? =some c→(cK cs)[i*3]? =some (i64 c.1)∧(cK cs)[i*3+1]? =some (i64 c.2.1)∧(cK cs)[i*3+2]? =some (u64 c.2.2):=by
  intro cs
  induction cs with
  |nil=>intro i c h;simp at h
  |cons a r ih=>
   intro i c h
   have e:cK (a::r)=i64 a.1::i64 a.2.1::u64 a.2.2::cK r:=rfl
   rw[e]
   cases i with
   |zero=>simp at h;subst h;exact⟨rfl,rfl,rfl⟩
   |succ i=>
    have:=ih i c (by simpa using h)
    rw[show(i+1)*3=i*3+3 by omega]
    simpa using this
 obtain⟨x0,x1,x2⟩:=hx cs i c hi
 refine⟨x0,x1,x2,?_⟩
 apply aqX
 intro k
 rw[aqG]
 match k with
 |0=>simpa using x1
 |1=>rw[if_pos (by omega),aqJ];exact x2
 |k+2=>rw[if_neg (by omega)];rfl
def df(cs:List Ce)(i:Int):Prop:=0≤i∧∃c,cs[i.toNat]? =some c∧0<c.1
instance(cs:List Ce)(i:Int):Decidable (df cs i):=
 match h:cs[i.toNat]? with
 |none=>.isFalse fun⟨_,c,h1,_⟩=>by rw[h]at h1;simp at h1
 |some c=>if h0:0≤i∧0<c.1 then .isTrue ⟨h0.1,c,h,h0.2⟩else .isFalse fun⟨h1,c',h2,h3⟩=>by rw[h]at h2;injection h2 with h2;subst h2;exact h0 ⟨h1,h3⟩
theorem fM{H:Hp}{c:Nat}{S:Nat→Prop}{st:Int}{cs:List Ce}{len:Nat}{rt:Nat→Nat}{aS:Int→Option Int}(h:bK H c S st cs len rt aS)(i:Int):
  af Tryz.prog C5 [ptr c,i64 i] H fun v H'=>ax (v= .bool (decide (df cs i))∧H=H'):=by
 have ht:=qX h i
 obtain⟨⟨fb,nb,ns,mb,a1,a2,a3,a4,a5,a6,a7⟩,h2,h3,h4,h5⟩:=h
 refine bm Dj ?_
 refine vs ?_
 refine ht.mono ?_
 rintro _ _ ⟨rfl,rfl⟩
 refine vs ?_
 refine ar.dec (fun h=>?_) (fun h=>?_)<;>refine v1 (ae a1) ?_
 ·obtain⟨x,hx⟩:∃x,cs[i.toNat]? =some x:=⟨_,aqb (by omega)⟩
  obtain⟨x0,x1,x2,x3⟩:=wB hx
  refine⟨by omega,?_⟩
  refine v4 (ae a2) x0 Nat.add_zero aqa ?_
  exact⟨aqv Value.bool (by rw[decide_eq_decide];exact⟨fun hh=>⟨h.1,x,hx,hh⟩,fun⟨_,c,e1,e2⟩=>by rw[hx]at e1;injection e1 with e1;subst e1;exact e2⟩),rfl⟩
 ·exact⟨aqv Value.bool (aqA (by rintro⟨x,c,x1,x2⟩;have:=(aqc.1 x1).1;omega)).symm,rfl⟩
theorem JE(cs:List Ce)(i:Nat)(c:Ce)(hi:i<cs.length):bh (cK cs) (i*3) [i64 c.1,i64 c.2.1,u64 c.2.2]=cK (cs.set i c):=by
 simp only[bh]
 induction cs generalizing i with
 |nil=>simp at hi
 |cons a r ih=>
  have e:cK (a::r)=i64 a.1::i64 a.2.1::u64 a.2.2::cK r:=rfl
  cases i with
  |zero=>rfl
  |succ i=>
   have e2:cK ((a::r).set (i+1) c)=i64 a.1::i64 a.2.1::u64 a.2.2::cK (r.set i c):=rfl
   rw[e,e2,show(i+1)*3=i*3+1+1+1 by omega]
   simp only[aqU]
   rw[ih i (by simpa using hi)]
theorem Ff{H:Hp}{c:Nat}{S:Nat→Prop}{st:Int}{cs:List Ce}{len:Nat}{rt:Nat→Nat}{aS:Int→Option Int}(h:bK H c S st cs len rt aS):
  af Tryz.prog dR [ptr c] H fun v H'=>ax (
   (len=65537∧v=i64 0∧H=H')∨
   (len≠65537∧v=i64 len∧∃S',bK H' c S' st cs (len+1) (fun i=>if i=len then i else rt i) aS∧ag S H H'∧∀x,S' x→S x∨H.size≤x)):=by
 obtain⟨⟨fb,nb,ns,mb,a1,a2,a3,a4,a5,a6,a7⟩,h2,h3,h4,h5⟩:=h
 refine bm zU ?_
 refine v1 (ae a1) ?_
 refine(tA a3).mono ?_
 rintro _ H1 (⟨hl,rfl,rfl⟩| ⟨hl,rfl,s',b1,b2,b3⟩)
 ·refine vs ?_
  exact .inl ⟨by omega,rfl,rfl⟩
 ·refine vs ?_
  obtain⟨s1,s2,s3,s4,s5⟩:=a5
  obtain⟨d1,d2,d3,d4⟩:=a6
  obtain⟨⟨d5,d6,d7⟩,d8,d9⟩:=a7
  have l1:=aB a1
  have l2:=aB a2
  have l3:=a4.lt
  refine .inr ⟨by omega,rfl,fun x=>S x∨x=s',⟨⟨fb,nb,s',mb,b2.own a1 (by omega),b2.own a2 (by omega),b1,a4.ext b2 (by omega),⟨.inl s1,.inl s2,.inl s3,.inr rfl,.inl s5⟩,⟨d1,d2,by omega,d4⟩,⟨d5,by omega,d7⟩,d8,by omega⟩,h2,h3,h4,fun x hx=>hx.elim (fun h=>aqw (h5 x h) b2.size) (fun h=>by rw[h];exact b1.lt2)⟩,
   b2.mono (fun x _ hx=>hx.elim (fun e=>e▸s3) (fun e=>e▸s4)),?_⟩
  rintro x (hx|rfl)
  ·exact .inl hx
  ·rcases b3 with rfl|b3
   ·exact .inl s4
   ·exact .inr b3.1
theorem GQ{H:Hp}{c:Nat}{S:Nat→Prop}{st:Int}{cs:List Ce}{len:Nat}{rt:Nat→Nat}{aS:Int→Option Int}(h:bK H c S st cs len rt aS)(g i k s:Int)
  (hm:ee aS g≤1000000∧0≤ee aS g):
  af Tryz.prog iY [ptr c,i64 g,i64 i,uw k s] H fun v H'=>ax (
   let ok:=(0<g∧g<len∧rt g.toNat=g.toNat)∧(0≤i∧i<cs.length)∧¬df cs i
   (¬ok∧v= .bool false∧bK H' c S st cs len rt aS∧ag S H H')∨
   (ok∧v= .bool true∧bK H' c S st (cs.set i.toNat (g,k,s)) len rt (fun j=>if j=g then some (ee aS g+1)else aS j)∧ag S H H')):=by
 have jW:ag (fun _=>False) H (H.new 182 [i64 k,u64 s]):=(ag.refl _ _).new _ _
 have h':=h.ext jW (fun _ _ h=>h)
 refine bm BC ?_
 simp(disch:=(first|omega| (simp only[Zs]<;>omega)|fail)) only[go_sem, ↓reduceIte,Zv,uw]
 refine(vF h' g).mono ?_
 rintro _ _ ⟨rfl,rfl⟩
 refine vs ?_
 have SQ:∀v,v=Value.bool false→¬ ((0<g∧g<len∧rt g.toNat=g.toNat)∧(0≤i∧i<cs.length)∧¬df cs i)→
   ((¬ ((0<g∧g<len∧rt g.toNat=g.toNat)∧(0≤i∧i<cs.length)∧¬df cs i)∧v= .bool false∧bK (H.new 182 [i64 k,u64 s]) c S st cs len rt aS∧ag S H (H.new 182 [i64 k,u64 s]))∨
   (((0<g∧g<len∧rt g.toNat=g.toNat)∧(0≤i∧i<cs.length)∧¬df cs i)∧v= .bool true∧bK (H.new 182 [i64 k,u64 s]) c S st (cs.set i.toNat (g,k,s)) len rt (fun j=>if j=g then some (ee aS g+1)else aS j)∧ag S H (H.new 182 [i64 k,u64 s]))):=
  fun v hv hn=>.inl ⟨hn,hv,h',(ag.refl _ _).new _ _⟩
 refine ar.dec (fun hg=>?_) (fun hg=>?_)<;>refine vs ?_
 ·refine(qX h' i).mono ?_
  rintro _ _ ⟨rfl,rfl⟩
  refine vs ?_
  refine ar.dec (fun hi=>?_) (fun hi=>?_)<;>refine vs ?_
  ·refine(fM h' i).mono ?_
   rintro _ _ ⟨rfl,rfl⟩
   refine vs ?_
   refine ar.dec (fun bH=>?_) (fun bH=>?_)<;>refine vs ?_
   ·exact SQ _ rfl (fun hc=>hc.2.2 bH)
   ·obtain⟨⟨fb,nb,ns,mb,a1,a2,a3,a4,a5,a6,a7⟩,h2,h3,h4,h5⟩:=h'
    refine v1 (ae a1) ?_
    refine⟨by omega,?_⟩
    refine v1 a2 ?_
    refine⟨by rw[jo];omega,?_⟩
    rw[show bh (cK cs) (i.toNat*3) (aH (Value.agg #[Value.int .i64 g,i64 k,u64 s]))=cK (cs.set i.toNat (g,k,s))from JE cs i.toNat (g,k,s) (by omega)]
    obtain⟨s1,s2,s3,s4,s5⟩:=a5
    obtain⟨d1,d2,d3,d4⟩:=a6
    obtain⟨⟨d5,d6,d7⟩,d8,d9⟩:=a7
    have e1:ag (fun x=>x=fb) (H.new 182 [i64 k,u64 s]) ((H.new 182 [i64 k,u64 s]).wr fb (cK (cs.set i.toNat (g,k,s)))):=(ag.refl (fun x=>x=fb) _).wr (fun _=>rfl) _
    have a1':=e1.own a1 d1
    have XY:((H.new 182 [i64 k,u64 s]).wr fb (cK (cs.set i.toNat (g,k,s)))).own fb=_:=ai a2
    have a3':=a3.ext e1 (Ne.symm d5) (Ne.symm d6)
    have a4':=a4.ext e1 (Ne.symm d7)
    have el:hX false (Value.int .i64 0) ((aS g).map i64)=i64 (ee aS g):=by unfold ee;cases aS g<;>rfl
    refine v3 (ae a1') a4'.look el ?_
    rw[wrap64 (by omega) (by omega)]
    refine a4'.lZ fun H2 m2 e2=>?_
    refine vs ?_
    refine .inr ⟨⟨hg,hi,bH⟩,rfl,⟨⟨fb,nb,ns,mb,by rw[aqe];exact e2.own a1' d4,e2.own XY d7,a3'.ext e2 d8 d9,?_,⟨s1,s2,s3,s4,s5⟩,⟨d1,d2,d3,d4⟩,⟨d5,d6,d7⟩,d8,d9⟩,h2,h3,by rw[aqe];exact h4,fun x hx=>aqw (h5 x hx) (aqW e1.size e2.size)⟩,?_⟩
    ·have:(fun j=>Option.map i64 (if j=g then some (ee aS g+1)else aS j))=Kc (fun j=>(aS j).map i64) g (i64 (ee aS g+1)):=by
      funext j;unfold Kc;by_cases hj:j=g<;>simp[hj]
     rw[this];exact m2
    ·exact(((ag.refl S H).new 182 [i64 k,u64 s]).trans (e1.mono fun x _ hx=>hx▸s2)).trans (e2.mono fun x _ hx=>hx▸s5)
  ·exact SQ _ rfl (fun hc=>hi hc.2.1)
 ·exact SQ _ rfl (fun hc=>hg hc.1)
theorem QW{m n:Int}(h0:0≤m)(h1:m≤4611686018427387904):0≤gf m n∧gf m n≤4611686018427387904:=by
 unfold gf;split
 ·exact⟨h0,h1⟩
 ·split<;>omega
def Am(a b:Int)(x y:Ce):Prop:=MJ x.2.1 x.2.2 y.2.1 y.2.2<0∨MJ x.2.1 x.2.2 y.2.1 y.2.2=0∧a<b
instance(a b:Int)(x y:Ce):Decidable (Am a b x y):=inferInstanceAs (Decidable (_∨_∧_))
theorem DF{H:Hp}{c:Nat}{S:Nat→Prop}{st:Int}{cs:List Ce}{len:Nat}{rt:Nat→Nat}{aS:Int→Option Int}(h:bK H c S st cs len rt aS)(a b:Int):
  af Tryz.prog cT [ptr c,i64 a,i64 b] H fun v H'=>ax (
   (¬ (df cs a∧df cs b)∧v= .bool false∧H=H')∨
   (df cs a∧df cs b)∧∃x y,cs[a.toNat]? =some x∧cs[b.toNat]? =some y∧v= .bool (decide (Am a b x y))∧bK H' c S (gf st 1) cs len rt aS∧ag S H H'):=by
 have h':=h
 obtain⟨⟨fb,nb,ns,mb,a1,a2,a3,a4,a5,a6,a7⟩,h2,h3,h4,h5⟩:=h
 refine bm xy ?_
 refine vs ?_
 refine(fM h' a).mono ?_
 rintro _ _ ⟨rfl,rfl⟩
 refine vs ?_
 refine ar.dec (fun ha=>?_) (fun ha=>?_)<;>refine vs ?_
 ·refine(fM h' b).mono ?_
  rintro _ _ ⟨rfl,rfl⟩
  refine vs ?_
  refine ar.dec (fun hb=>?_) (fun hb=>?_)<;>refine vs ?_
  ·obtain⟨Sp,x,hx,gB⟩:=id ha
   obtain⟨R7,y,hy,hy0⟩:=id hb
   refine(DE a1 ⟨h2,h3⟩ 1 (by omega)).mono ?_
   rintro v H1 hH
   obtain⟨rfl,b1,b2,b3,b4⟩:v= .tuple [].toArray∧H1.own c=some [i64 (gf st 1),.slice (some ⟨fb,0,none⟩) cs.length cs.length,ptr nb,.map (some mb)]∧H1.own fb=some (cK cs)∧bK H1 c S (gf st 1) cs len rt aS∧ag S H H1:=by
    have uO:=QW (n:=1) h2 h3
    rcases hH.out with ⟨rfl,rfl⟩| ⟨rfl,rfl,hs⟩
    ·obtain⟨s1,s2,s3,s4,s5⟩:=a5
     obtain⟨d1,d2,d3,d4⟩:=a6
     have e1:ag (fun x=>x=c) H (H.wr c [i64 (gf st 1),.slice (some ⟨fb,0,none⟩) cs.length cs.length,ptr nb,.map (some mb)]):=(ag.refl (fun x=>x=c) _).wr (fun _=>rfl) _
     exact⟨rfl,ai a1,e1.own a2 (Ne.symm d1),⟨⟨fb,nb,ns,mb,ai a1,e1.own a2 (Ne.symm d1),a3.ext e1 (Ne.symm d2) (Ne.symm d3),a4.ext e1 (Ne.symm d4),⟨s1,s2,s3,s4,s5⟩,⟨d1,d2,d3,d4⟩,a7⟩,uO.1,uO.2,h4,fun x hx=>aqw (h5 x hx) e1.size⟩,e1.mono fun x _ hx=>hx▸s1⟩
    ·rw[hs]
     exact⟨rfl,a1,a2,h',ag.refl _ _⟩
   have al:=(aqc.1 hx).1
   have bl:=(aqc.1 hy).1
   obtain⟨x1,x2,x3,x4⟩:=wB hx
   obtain⟨y1,y2,y3,y4⟩:=wB hy
   have fl:=jo cs
   refine v1 (ae b1) ?_
   refine⟨by omega,?_⟩
   refine v3 (ae b1) (ae b2) x4 ?_
   refine⟨by omega,?_⟩
   refine v2 (ae b1) x4 ?_
   refine⟨by omega,?_⟩
   refine v3 (ae b1) (ae b2) y4 ?_
   refine⟨by omega,?_⟩
   refine v2 x4 y4 ?_
   refine(n7 x.2.1 x.2.2 y.2.1 y.2.2 _).mono ?_
   rintro _ H2 ⟨rfl,hf⟩
   refine vs ?_
   have b5:=b3.ext hf (fun _ _ h=>h)
   have b6:=b4.trans (hf.mono fun _ _ h=>h.elim)
   refine ar.dec (fun aN=>?_) (fun aN=>?_)<;>refine vs ?_
   ·exact .inr ⟨⟨ha,hb⟩,x,y,hx,hy,aqv Value.bool (aqp (show Am a b x y from .inl aN)).symm,b5,b6⟩
   ·refine ar.dec (fun heq=>?_) (fun heq=>?_)<;>refine vs ?_
    ·exact .inr ⟨⟨ha,hb⟩,x,y,hx,hy,aqv Value.bool (by rw[decide_eq_decide];exact⟨fun hh=>.inr ⟨heq,hh⟩,fun hh=>hh.elim (fun e=>absurd e aN) (·.2)⟩),b5,b6⟩
    ·exact .inr ⟨⟨ha,hb⟩,x,y,hx,hy,aqv Value.bool (aqA (show¬Am a b x y from fun hh=>hh.elim aN (fun e=>heq e.1))).symm,b5,b6⟩
  ·exact .inl ⟨fun hc=>hb hc.2,rfl,rfl⟩
 ·exact .inl ⟨fun hc=>ha hc.1,rfl,rfl⟩
theorem bK.names{H H1:Hp}{c:Nat}{S:Nat→Prop}{st:Int}{cs:List Ce}{len:Nat}{rt rt':Nat→Nat}{aS:Int→Option Int}{fb nb ns mb:Nat}(h:bK H c S st cs len rt aS)
  (a1:H.own c=some [i64 st,.slice (some ⟨fb,0,none⟩) cs.length cs.length,ptr nb,.map (some mb)])(a2:H.own fb=some (cK cs))(a4:lM H mb (fun i=>(aS i).map i64))
  (a5:S c∧S fb∧S nb∧S ns∧S mb)(a6:c≠fb∧c≠nb∧c≠ns∧c≠mb)(a7:fb≠nb∧fb≠ns∧fb≠mb)(a8:nb≠mb∧ns≠mb)
  (n:bN H1 nb ns len rt' 65536)(e:ag (fun x=>x=nb∨x=ns) H H1):
  bK H1 c S st cs len rt' aS∧ag S H H1∧H1.own c=some [i64 st,.slice (some ⟨fb,0,none⟩) cs.length cs.length,ptr nb,.map (some mb)]∧lM H1 mb (fun i=>(aS i).map i64):=by
 obtain⟨s1,s2,s3,s4,s5⟩:=a5
 have b1:=e.own a1 (by omega)
 have b4:=a4.ext e (by omega)
 exact⟨⟨⟨fb,nb,ns,mb,b1,e.own a2 (by omega),n,b4,⟨s1,s2,s3,s4,s5⟩,a6,a7,a8⟩,h.st0,h.Uj,h.Fe,fun x hx=>aqw (h.slt x hx) e.size⟩,e.mono fun x _ hx=>hx.elim (fun h=>h▸s3) (fun h=>h▸s4),b1,b4⟩
theorem tG{H:Hp}{c:Nat}{S:Nat→Prop}{st:Int}{cs:List Ce}{len:Nat}{rt:Nat→Nat}{aS:Int→Option Int}(h:bK H c S st cs len rt aS)(hl:∀x∈cs,x.1<len)(i:Int):
  af Tryz.prog iu [ptr c,i64 i] H fun v H'=>ax (
   (¬df cs i∧v= .tuple [i64 0,.bool false].toArray∧H=H')∨
   (df cs i∧∃x,cs[i.toNat]? =some x∧v= .tuple [i64 (rt x.1.toNat),.bool true].toArray∧bK H' c S st cs len rt aS∧ag S H H')):=by
 have h':=h
 obtain⟨⟨fb,nb,ns,mb,a1,a2,a3,a4,a5,a6,a7,a8⟩,h2,h3,h4,h5⟩:=h
 refine bm zR ?_
 refine vs ?_
 refine(fM h' i).mono ?_
 rintro _ _ ⟨rfl,rfl⟩
 refine vs ?_
 refine ar.dec (fun hi=>?_) (fun hi=>?_)<;>refine vs ?_
 ·obtain⟨GR,x,hx,gB⟩:=id hi
  have lJ:=(aqc.1 hx).1
  obtain⟨x1,x2,x3,x4⟩:=wB hx
  refine v1 (ae a1) ?_
  refine⟨by omega,?_⟩
  refine v4 (ae a2) x1 Nat.add_zero aqa ?_
  refine(fG a3 x.1).mono ?_
  rintro _ H1 (⟨hn,_⟩| ⟨_,rfl,n1,e1⟩)
  ·exact absurd ⟨gB,hl x (aqg hx)⟩ hn
  refine vs ?_
  obtain⟨b1,b2,_⟩:=h'.names a1 a2 a4 a5 a6 a7 a8 n1 e1
  exact .inr ⟨hi,x,hx,rfl,b1,b2⟩
 ·exact .inl ⟨hi,rfl,rfl⟩
theorem DG{H:Hp}{c:Nat}{S:Nat→Prop}{st:Int}{cs:List Ce}{len:Nat}{rt:Nat→Nat}{aS:Int→Option Int}(h:bK H c S st cs len rt aS)(i:Int):
  af Tryz.prog bb [ptr c,i64 i] H fun v H'=>ax (bK H' c S st cs len rt aS∧ah H H'∧(
   (¬df cs i∧v= .tuple [uw 0 0,.bool false].toArray)∨
   (df cs i∧∃x,cs[i.toNat]? =some x∧v= .tuple [uw x.2.1 x.2.2,.bool true].toArray))):=by
 have e0:ah H (H.new 182 [.int .i64 0,.int .u64 0]):=(ag.refl _ _).new _ _
 have h':=h.ext e0 (fun _ _ h=>h)
 refine bm xq ?_
 refine vs ?_
 refine(fM h' i).mono ?_
 rintro _ _ ⟨rfl,rfl⟩
 refine vs ?_
 refine ar.dec (fun hi=>?_) (fun hi=>?_)<;>refine vs ?_
 ·obtain⟨GR,x,hx,gB⟩:=id hi
  have lJ:=(aqc.1 hx).1
  obtain⟨x1,x2,x3,x4⟩:=wB hx
  have fl:=jo cs
  obtain⟨⟨fb,nb,ns,mb,a1,a2,a3,a4,a5,a6,a7,a8⟩,h2,h3,h4,h5⟩:=id h'
  refine v1 (ae a1) ?_
  refine⟨by omega,?_⟩
  refine v1 (ae a2) ?_
  refine⟨by omega,?_⟩
  simp(disch:=(first|omega| (simp only[Zs]<;>omega)|fail)) only[go_sem, ↓reduceIte,Zv,x4,sE (az H 182 [.int .i64 0,.int .u64 0])]
  have e1:ah H ((H.new 182 [.int .i64 0,.int .u64 0]).wr H.size [i64 x.2.1,u64 x.2.2]):=e0.wr (fun h=>absurd h (Nat.lt_irrefl _)) _
  exact⟨h.ext e1 (fun _ _ h=>h),e1,.inr ⟨hi,x,hx,rfl⟩⟩
 ·simp(disch:=(first|omega| (simp only[Zs]<;>omega)|fail)) only[go_sem, ↓reduceIte,Zv,sE (az H 182 [.int .i64 0,.int .u64 0])]
  have e1:ah H ((H.new 182 [.int .i64 0,.int .u64 0]).wr H.size [.int .i64 0,.int .u64 0]):=e0.wr (fun h=>absurd h (Nat.lt_irrefl _)) _
  exact⟨h.ext e1 (fun _ _ h=>h),e1,.inl ⟨hi,rfl⟩⟩
def da(m:Int→Option Int)(i n:Int):Int→Option Int:=fun j=>if j=i then some n else m j
def sM(m:Int→Option Int)(i:Int):Int→Option Int:=fun j=>if j=i then none else m j
theorem ML(m:Int→Option Int)(i n:Int):Kc (fun j=>(m j).map i64) i (i64 n)=fun j=>(da m i n j).map i64:=by
 funext j;unfold Kc da;by_cases hj:j=i<;>simp[hj]
theorem MM(m:Int→Option Int)(i:Int):NT (fun j=>(m j).map i64) i=fun j=>(sM m i j).map i64:=by
 funext j;unfold NT sM;by_cases hj:j=i<;>simp[hj]
theorem Ey(m:Int→Option Int)(g:Int):hX false (Value.int .i64 0) ((m g).map i64)=i64 (ee m g):=by
 unfold ee;cases m g<;>rfl
theorem Fg{H:Hp}{c:Nat}{S:Nat→Prop}{st:Int}{cs:List Ce}{len:Nat}{rt:Nat→Nat}{aS:Int→Option Int}(h:bK H c S st cs len rt aS)(hl:∀x∈cs,x.1<len)(i:Int)(hm:∀j,0≤ee aS j∧ee aS j≤1000000):
  af Tryz.prog iw [ptr c,i64 i] H fun v H'=>ax (
   (¬df cs i∧v= .bool false∧H=H')∨
   (df cs i∧v= .bool true∧∃x,cs[i.toNat]? =some x∧
    bK H' c S st (cs.set i.toNat (0,0,0)) len rt (if ee aS (rt x.1.toNat) - 1=0 then sM (da aS (rt x.1.toNat) (ee aS (rt x.1.toNat) - 1)) (rt x.1.toNat)else da aS (rt x.1.toNat) (ee aS (rt x.1.toNat) - 1))∧ag S H H')):=by
 refine bm zT ?_
 refine vs ?_
 refine(tG h hl i).mono ?_
 rintro _ H1 (⟨hi,rfl,rfl⟩| ⟨hi,x,hx,rfl,b1,b2⟩)
 ·refine vs ?_
  exact .inl ⟨hi,rfl,rfl⟩
 ·have lJ:=(aqc.1 hx).1
  have GR:=hi.1
  have fl:=jo cs
  obtain⟨⟨fb,nb,ns,mb,a1,a2,a3,a4,a5,a6,a7,a8⟩,h2,h3,h4,h5⟩:=b1
  have hmg:=hm (rt x.1.toNat)
  refine v1 (ae a1) ?_
  refine⟨by omega,?_⟩
  refine v1 a2 ?_
  refine⟨by omega,?_⟩
  rw[show bh (cK cs) (i.toNat*3) (aH (Value.agg #[Value.int .i64 0,Value.int .i64 0,Value.int .u64 0]))=cK (cs.set i.toNat (0,0,0))from JE cs i.toNat (0,0,0) (by omega)]
  have e2:ag (fun x=>x=fb) H1 (H1.wr fb (cK (cs.set i.toNat (0,0,0)))):=(ag.refl (fun x=>x=fb) _).wr (fun _=>rfl) _
  have c1:=e2.own a1 a6.1
  have c2:(H1.wr fb (cK (cs.set i.toNat (0,0,0)))).own fb=_:=ai a2
  have c3:=a3.ext e2 (Ne.symm a7.1) (Ne.symm a7.2.1)
  have c4:=a4.ext e2 (Ne.symm a7.2.2)
  refine v3 (ae c1) c4.look Ey ?_
  rw[wrap64 (by omega) (by omega)]
  refine c4.lZ fun H2 m2 e3=>?_
  rw[ML]at m2
  have d1:=e3.own c1 a6.2.2.2
  have hs:ee (da aS (rt x.1.toNat) (ee aS (rt x.1.toNat) - 1)) (rt x.1.toNat)=ee aS (rt x.1.toNat) - 1:=by simp[ee,da]
  refine v4 (ae d1) m2.look Ey hs ?_
  have HT:ag S H1 H2:=(e2.mono fun x _ hx=>hx▸a5.2.1).trans (e3.mono fun x _ hx=>hx▸a5.2.2.2.2)
  refine ar.dec (fun h0=>?_) (fun h0=>?_)<;>refine v1 (ae d1) ?_
  ·refine m2.del fun H3 m3 e4=>?_
   rw[MM]at m3
   refine vs ?_
   refine .inr ⟨hi,rfl,x,hx,?_,(b2.trans HT).trans (e4.mono fun x _ hx=>hx▸a5.2.2.2.2)⟩
   rw[if_pos h0]
   exact⟨⟨fb,nb,ns,mb,by rw[aqe];exact e4.own d1 a6.2.2.2,(e4.own (e3.own c2 a7.2.2) a7.2.2),(c3.ext e3 a8.1 a8.2).ext e4 a8.1 a8.2,m3,a5,a6,a7,a8⟩,h2,h3,by rw[aqe];exact h4,fun x hx=>aqw (h5 x hx) (aqW HT.size e4.size)⟩
  ·refine .inr ⟨hi,rfl,x,hx,?_,b2.trans HT⟩
   rw[if_neg h0]
   exact⟨⟨fb,nb,ns,mb,by rw[aqe];exact d1,e3.own c2 a7.2.2,c3.ext e3 a8.1 a8.2,m2,a5,a6,a7,a8⟩,h2,h3,by rw[aqe];exact h4,fun x hx=>aqw (h5 x hx) HT.size⟩
theorem OA(cs:List Ce)(i:Nat)(x:Ce)(k s:Int)(hx:cs[i]? =some x):bh (cK cs) (i*3+1) [i64 k,u64 s]=cK (cs.set i (x.1,k,s)):=by
 simp only[bh]
 induction cs generalizing i with
 |nil=>simp at hx
 |cons a r ih=>
  have e:cK (a::r)=i64 a.1::i64 a.2.1::u64 a.2.2::cK r:=rfl
  cases i with
  |zero=>
   simp at hx
   subst hx
   rfl
  |succ i=>
   have e2:cK ((a::r).set (i+1) (x.1,k,s))=i64 a.1::i64 a.2.1::u64 a.2.2::cK (r.set i (x.1,k,s)):=rfl
   rw[e,e2,show(i+1)*3+1=i*3+1+1+1+1 by omega]
   simp only[aqU]
   rw[ih i (by simpa using hx)]
theorem DH{H:Hp}{c:Nat}{S:Nat→Prop}{st:Int}{cs:List Ce}{len:Nat}{rt:Nat→Nat}{aS:Int→Option Int}(h:bK H c S st cs len rt aS)(i k s:Int):
  af Tryz.prog gK [ptr c,i64 i,uw k s] H fun v H'=>ax (
   (¬ (df cs i∧∀x,cs[i.toNat]? =some x→¬fQ x.2.1 x.2.2 k s)∧v= .bool false∧bK H' c S st cs len rt aS∧ah H H')∨
   (df cs i∧v= .bool true∧∃x,cs[i.toNat]? =some x∧¬fQ x.2.1 x.2.2 k s∧bK H' c S st (cs.set i.toNat (x.1,k,s)) len rt aS∧ag S H H')):=by
 have e0:ah H (H.new 182 [i64 k,u64 s]):=(ag.refl _ _).new _ _
 have h':=h.ext e0 (fun _ _ h=>h)
 refine bm xu ?_
 simp(disch:=(first|omega| (simp only[Zs]<;>omega)|fail)) only[go_sem, ↓reduceIte,Zv,uw]
 refine(fM h' i).mono ?_
 rintro _ _ ⟨rfl,rfl⟩
 refine vs ?_
 refine ar.dec (fun hi=>?_) (fun hi=>?_)<;>refine vs ?_
 ·obtain⟨GR,x,hx,gB⟩:=id hi
  have lJ:=(aqc.1 hx).1
  obtain⟨x1,x2,x3,x4⟩:=wB hx
  have fl:=jo cs
  obtain⟨⟨fb,nb,ns,mb,a1,a2,a3,a4,a5,a6,a7,a8⟩,h2,h3,h4,h5⟩:=id h'
  refine v1 (ae a1) ?_
  refine⟨by omega,?_⟩
  refine v1 (ae a2) ?_
  refine⟨by omega,?_⟩
  refine v1 x4 ?_
  refine(Fc x.2.1 x.2.2 k s _).mono ?_
  rintro _ H2 ⟨rfl,hf⟩
  have g1:=hf.own a1 (fun h=>h)
  have g2:=hf.own a2 (fun h=>h)
  have hr:=hf.own (az H 182 [i64 k,u64 s]) (fun h=>h)
  refine vs ?_
  refine ar.dec (fun fR=>?_) (fun fR=>?_)<;>refine vs ?_
  ·exact .inl ⟨fun hc=>hc.2 x hx fR,rfl,h'.ext hf (fun _ _ h=>h),e0.trans hf⟩
  ·refine v2 (ae g1) (ae hr) ?_
   refine⟨by omega,?_⟩
   refine v3 (ae g1) (ae hr) g2 ?_
   refine⟨by omega,?_⟩
   refine vs ?_
   have AK:((cK cs).set (i.toNat*3+1) (i64 k)).set (i.toNat*3+1+1) (u64 s)=cK (cs.set i.toNat (x.1,k,s)):=OA cs i.toNat x k s hx
   rw[AK]
   have e3:ag (fun x=>x=fb) H2 (H2.wr fb (cK (cs.set i.toNat (x.1,k,s)))):=(ag.refl (fun x=>x=fb) _).wr (fun _=>rfl) _
   refine .inr ⟨hi,rfl,x,hx,fR,⟨⟨fb,nb,ns,mb,by rw[aqe];exact e3.own g1 a6.1,ai g2,(a3.ext hf (fun h=>h) (fun h=>h)).ext e3 (Ne.symm a7.1) (Ne.symm a7.2.1),(a4.ext hf (fun h=>h)).ext e3 (Ne.symm a7.2.2),a5,a6,a7,a8⟩,h2,h3,by rw[aqe];exact h4,fun x hx=>aqw (h5 x hx) (aqW hf.size e3.size)⟩,
    ((e0.trans hf).mono fun _ _ h=>h.elim).trans (e3.mono fun x _ hx=>hx▸a5.2.1)⟩
 ·exact .inl ⟨fun hc=>hi hc.1,rfl,h',e0⟩
structure Nw where
 hs:List Bool
 cs:List Ce
def Nw.has(w:Nw)(h:Int):Prop:=1≤h∧w.hs[h.toNat]? =some true
instance(w:Nw)(h:Int):Decidable (w.has h):=inferInstanceAs (Decidable (_∧_))
def Nw.len(w:Nw)(h:Int):Int:=if 0<h then(w.cs.countP fun c=>decide (c.1=h):Nat)else 0
def Nw.put(w:Nw)(i:Int)(c:Ce):Nw:=⟨w.hs,w.cs.set i.toNat c⟩
def Nw.make(w:Nw):Nw:=⟨w.hs++[true],w.cs⟩
def Nw.ahead(w:Nw)(a b:Int):Bool:=
 decide (df w.cs a) && decide (df w.cs b) && (match w.cs[a.toNat]?,w.cs[b.toNat]? with|some x,some y=>decide (Am a b x y)|_,_=>false)
theorem Nw.An(w:Nw)(h:Int):0≤w.len h∧w.len h≤w.cs.length:=by
 unfold Nw.len
 have:=ar9 (p:=fun c:Ce=>decide (c.1=h)) (l:=w.cs)
 split<;>omega
structure n9(w:Nw)(cs:List Ce)(len:Nat)(rt:Nat→Nat)(aS:Int→Option Int):Prop where
 hl:w.hs.length=len
 h0:w.hs[0]? =some false
 hh:∀h,1≤h→h<len→w.hs[h]? =some (decide (rt h=h))
 cl:w.cs=cs.map fun c=>(if 0<c.1 then((rt c.1.toNat:Nat):Int)else 0,c.2)
 lt:∀c∈cs,0≤c.1∧c.1<len
 mn:∀h:Int,ee aS h=w.len h
 low:∀i,i<len→rt i<len
 IE:∀i,i<len→rt (rt i)=rt i
 nz:∀i,i<len→rt i=0→i=0
def ba(H:Hp)(c:Nat)(S:Nat→Prop)(st:Int)(w:Nw):Prop:=∃cs len rt aS,bK H c S st cs len rt aS∧n9 w cs len rt aS
theorem ba.ext{H H':Hp}{c:Nat}{S T:Nat→Prop}{st:Int}{w:Nw}(h:ba H c S st w)(e:ag T H H')(hd:∀x,S x→¬T x):ba H' c S st w:=by
 obtain⟨cs,len,rt,aS,h1,h2⟩:=h
 exact⟨cs,len,rt,aS,h1.ext e hd,h2⟩
theorem ba.fresh{H H':Hp}{c:Nat}{S:Nat→Prop}{st:Int}{w:Nw}(h:ba H c S st w)(e:ah H H'):ba H' c S st w:=h.ext e fun _ _ h=>h
theorem ba.slt{H:Hp}{c:Nat}{S:Nat→Prop}{st:Int}{w:Nw}(h:ba H c S st w):∀x,S x→x<H.size:=by
 obtain⟨cs,len,rt,aS,h1,h2⟩:=h
 exact h1.slt
theorem ba.Qd{H:Hp}{c:Nat}{S:Nat→Prop}{st:Int}{w:Nw}(h:ba H c S st w):S c:=by
 obtain⟨cs,len,rt,aS,⟨⟨fb,nb,ns,mb,_,_,_,_,s,_⟩,_⟩,h2⟩:=h
 exact s.1
theorem ba.Fe{H:Hp}{c:Nat}{S:Nat→Prop}{st:Int}{w:Nw}(h:ba H c S st w):w.cs.length≤65536:=by
 obtain⟨cs,len,rt,aS,h1,h2⟩:=h
 rw[h2.cl,aqr]
 exact h1.Fe
theorem ba.st{H:Hp}{c:Nat}{S:Nat→Prop}{st:Int}{w:Nw}(h:ba H c S st w):0≤st∧st≤4611686018427387904:=by
 obtain⟨cs,len,rt,aS,h1,h2⟩:=h
 exact⟨h1.st0,h1.Uj⟩
theorem n9.Nr{w:Nw}{cs:List Ce}{len:Nat}{rt:Nat→Nat}{aS:Int→Option Int}(h:n9 w cs len rt aS)(i:Int):df w.cs i↔df cs i:=by
 unfold df
 rw[h.cl]
 simp only[aqz]
 constructor
 ·rintro⟨h0,c,hc,hp⟩
  cases hx:cs[i.toNat]? with
  |none=>rw[hx]at hc;cases hc
  |some x=>
   rw[hx]at hc
   simp only[Option.map_some,aqk]at hc
   subst hc
   refine⟨h0,x,rfl,?_⟩
   by_cases gB:0<x.1
   ·exact gB
   ·simp[gB]at hp
 ·rintro⟨h0,x,hx,hp⟩
  refine⟨h0,_,by rw[hx];rfl,?_⟩
  have aN:=h.lt x (aqg hx)
  simp only[if_pos hp]
  have hnz:rt x.1.toNat≠0:=fun e=>by have:=h.nz _ (by omega) e;omega
  omega
theorem n9.get{w:Nw}{cs:List Ce}{len:Nat}{rt:Nat→Nat}{aS:Int→Option Int}(h:n9 w cs len rt aS){i:Nat}{x:Ce}(hx:cs[i]? =some x):w.cs[i]? =some (if 0<x.1 then((rt x.1.toNat:Nat):Int)else 0,x.2):=by
 rw[h.cl,aqz,hx];rfl
theorem n9.Yw{w:Nw}{cs:List Ce}{len:Nat}{rt:Nat→Nat}{aS:Int→Option Int}(h:n9 w cs len rt aS)(g:Int):w.has g↔(0<g∧g<len∧rt g.toNat=g.toNat):=by
 unfold Nw.has
 constructor
 ·rintro⟨h1,h2⟩
  have aN:=(aqc.1 h2).1
  rw[h.hl]at aN
  rw[h.hh g.toNat (by omega) aN]at h2
  injection h2 with h2
  exact⟨by omega,by omega,of_decide_eq_true h2⟩
 ·rintro⟨h1,h2,h3⟩
  exact⟨by omega,by rw[h.hh g.toNat (by omega) (by omega),aqp h3]⟩
theorem lO(cap:Int)(H:Hp):af Tryz.prog uW [i64 cap] H fun v H'=>ax (
  ah H H'∧((¬ (0≤cap∧cap≤65536)∧v= .tuple [.pointer none,i64 31].toArray)∨
   (0≤cap∧cap≤65536)∧∃c S,v= .tuple [ptr c,i64 0].toArray∧ba H' c S 0 ⟨[false],List.replicate cap.toNat (0,0,0)⟩∧(∀x,S x→H.size≤x))):=by
 refine(GO cap H).mono ?_
 rintro _ H1 ⟨f,⟨h,rfl⟩| ⟨h,c,S,rfl,h1,h2⟩⟩
 ·exact⟨f,.inl ⟨h,rfl⟩⟩
 ·refine⟨f,.inr ⟨h,c,S,rfl,⟨_,_,_,_,h1,⟨rfl,rfl,fun h h1 h2=>by omega,?_,fun c hc=>?_,fun h=>?_,fun i hi=>hi,fun i hi=>rfl,fun i hi h=>h⟩⟩,h2⟩⟩
  ·simp
  ·rw[arf hc];exact⟨by omega,by simp⟩
  ·unfold Nw.len ee
   split
   ·simp only[Option.getD_none,List.countP_replicate]
    rw[if_neg (by simp;omega)];rfl
   ·rfl
theorem ij{H:Hp}{c:Nat}{S:Nat→Prop}{st:Int}{w:Nw}(h:ba H c S st w)(i:Int):
  af Tryz.prog bG [ptr c,i64 i] H fun v H'=>ax (v= .bool (decide (w.has i))∧H=H'):=by
 obtain⟨cs,len,rt,aS,h1,h2⟩:=h
 refine(vF h1 i).mono ?_
 rintro _ _ ⟨rfl,rfl⟩
 exact⟨aqv Value.bool (by rw[decide_eq_decide,h2.Yw]),rfl⟩
theorem tH{H:Hp}{c:Nat}{S:Nat→Prop}{st:Int}{w:Nw}(h:ba H c S st w)(i:Int):
  af Tryz.prog iX [ptr c,i64 i] H fun v H'=>ax (v=i64 (w.len i)∧H=H'):=by
 obtain⟨cs,len,rt,aS,h1,h2⟩:=h
 refine(GP h1 i).mono ?_
 rintro _ _ ⟨rfl,rfl⟩
 exact⟨by rw[h2.mn],rfl⟩
theorem j9{H:Hp}{c:Nat}{S:Nat→Prop}{st:Int}{w:Nw}(h:ba H c S st w):
  af Tryz.prog dR [ptr c] H fun v H'=>ax (
   (w.hs.length=65537∧v=i64 0∧H=H')∨
   (w.hs.length≠65537∧v=i64 w.hs.length∧∃S',ba H' c S' st w.make∧ag S H H'∧∀x,S' x→S x∨H.size≤x)):=by
 obtain⟨cs,len,rt,aS,h1,h2⟩:=h
 refine(Ff h1).mono ?_
 have hl:=h2.hl
 rintro _ H1 (⟨e,rfl,rfl⟩| ⟨e,rfl,S',g1,g2,g3⟩)
 ·exact .inl ⟨by omega,rfl,rfl⟩
 ·refine .inr ⟨by omega,by rw[hl],S',⟨_,_,_,_,g1,?_⟩,g2,g3⟩
  have gA:0<w.hs.length:=(aqc.1 h2.h0).1
  refine⟨by simp[Nw.make,hl],?_,fun h a1 a2=>?_,?_,fun c hc=>by have:=h2.lt c hc;omega,h2.mn,fun i hi=>?_,fun i hi=>?_,fun i hi hz=>?_⟩
  ·show(w.hs++[true])[0]? =some false
   rw[aqs gA];exact h2.h0
  ·show(w.hs++[true])[h]? =_
   by_cases he:h=len
   ·subst he
    rw[aqD (by omega),hl]
    simp
   ·rw[aqs (by omega),h2.hh h a1 (by omega),if_neg he]
  ·show w.cs=_
   rw[h2.cl]
   apply ar7
   intro x hx
   have:=h2.lt x hx
   by_cases h0:0<x.1
   ·simp only[if_pos h0];rw[if_neg (by omega)]
   ·simp only[if_neg h0]
  ·by_cases he:i=len
   ·simp[he]
   ·have:=h2.low i (by omega);simp only[if_neg he];omega
  ·by_cases he:i=len
   ·simp[he]
   ·have:=h2.low i (by omega)
    simp only[if_neg he]
    rw[if_neg (by omega)]
    exact h2.IE i (by omega)
  ·by_cases he:i=len
   ·simp only[if_pos he]at hz;omega
   ·simp only[if_neg he]at hz;exact h2.nz i (by omega) hz
theorem IL{α:Type}(p:α→Bool):∀ (l:List α) (i:Nat) (x y:α),l[i]? =some x→(l.set i y).countP p+(if p x=true then 1 else 0)=l.countP p+(if p y=true then 1 else 0):=by
 intro l
 induction l with
 |nil=>intro i x y h;simp at h
 |cons a l ih=>
  intro i x y h
  cases i with
  |zero=>
   simp only[aqE,aqk]at h
   subst h
   simp only[arv,ard]
   omega
  |succ i=>
   have:=ih i x y (by simpa using h)
   simp only[aqU,ard]
   omega
theorem Nw.gC{w:Nw}{i:Int}{x y:Ce}(hx:w.cs[i.toNat]? =some x)(h:Int):(w.put i y).len h=w.len h - (if 0<h∧x.1=h then 1 else 0)+(if 0<h∧y.1=h then 1 else 0):=by
 unfold Nw.len Nw.put
 by_cases h0:0<h
 ·simp only[if_pos h0,h0,true_and]
  have:=IL (fun c:Ce=>decide (c.1=h)) w.cs i.toNat x y hx
  simp only[aqI]at this
  split at this<;>split at this<;>simp_all<;>omega
 ·simp only[if_neg h0,h0,false_and,if_false];rfl
theorem lP{H:Hp}{c:Nat}{S:Nat→Prop}{st:Int}{w:Nw}(h:ba H c S st w)(g i k s:Int):
  af Tryz.prog iY [ptr c,i64 g,i64 i,uw k s] H fun v H'=>ax (
   (¬ (w.has g∧(0≤i∧i<w.cs.length)∧¬df w.cs i)∧v= .bool false∧ba H' c S st w∧ag S H H')∨
   ((w.has g∧(0≤i∧i<w.cs.length)∧¬df w.cs i)∧v= .bool true∧ba H' c S st (w.put i (g,k,s))∧ag S H H')):=by
 obtain⟨cs,len,rt,aS,h1,h2⟩:=h
 have tQ:w.cs.length=cs.length:=by rw[h2.cl,aqr]
 have bf:=w.An g
 have xW:=h1.Fe
 refine(GQ h1 g i k s (by rw[h2.mn];omega)).mono ?_
 rintro _ H1 (⟨e,rfl,g1,g2⟩| ⟨e,rfl,g1,g2⟩)
 ·exact .inl ⟨by rw[h2.Yw,h2.Nr,tQ];exact e,rfl,⟨_,_,_,_,g1,h2⟩,g2⟩
 ·refine .inr ⟨by rw[h2.Yw,h2.Nr,tQ];exact e,rfl,⟨_,_,_,_,g1,?_⟩,g2⟩
  obtain⟨x,hx⟩:∃x,cs[i.toNat]? =some x:=⟨_,aqb (by omega)⟩
  have gB:¬0<x.1:=fun gB=>e.2.2 ⟨e.2.1.1,x,hx,gB⟩
  have RH:=h2.get hx
  rw[if_neg gB]at RH
  refine⟨h2.hl,h2.h0,h2.hh,?_,fun y hy=>?_,fun j=>?_,h2.low,h2.IE,h2.nz⟩
  ·show w.cs.set i.toNat _=_
   rw[h2.cl,aqP]
   simp only[if_pos e.1.1,e.1.2.2]
   congr 3
   omega
  ·rcases aq8 hy with hy|rfl
   ·exact h2.lt y hy
   ·exact⟨by have:=e.1.1;simp only;omega,e.1.2.1⟩
  ·rw[Nw.gC RH]
   by_cases hj:j=g
   ·subst hj
    have hg:=e.1.1
    rw[if_neg (by rintro⟨_,h⟩;omega),if_pos ⟨hg,rfl⟩,←h2.mn]
    simp[ee]
   ·rw[if_neg (by rintro⟨_,h⟩;omega),if_neg (by rintro⟨_,h⟩;exact hj h.symm),←h2.mn]
    simp[ee,hj]
theorem eY{H:Hp}{c:Nat}{S:Nat→Prop}{st:Int}{w:Nw}(h:ba H c S st w)(i:Int):
  af Tryz.prog iu [ptr c,i64 i] H fun v H'=>ax (
   (¬df w.cs i∧v= .tuple [i64 0,.bool false].toArray∧H=H')∨
   (df w.cs i∧∃x,w.cs[i.toNat]? =some x∧v= .tuple [i64 x.1,.bool true].toArray∧ba H' c S st w∧ag S H H')):=by
 obtain⟨cs,len,rt,aS,h1,h2⟩:=h
 refine(tG h1 (fun x hx=>(h2.lt x hx).2) i).mono ?_
 rintro _ H1 (⟨e,rfl,rfl⟩| ⟨e,x,hx,rfl,g1,g2⟩)
 ·exact .inl ⟨by rw[h2.Nr];exact e,rfl,rfl⟩
 ·obtain⟨e0,x',xX,hp⟩:=id e
  rw[hx]at xX
  injection xX with xX
  subst xX
  have hg:=h2.get hx
  rw[if_pos hp]at hg
  exact .inr ⟨by rw[h2.Nr];exact e,_,hg,rfl,⟨_,_,_,_,g1,h2⟩,g2⟩
theorem jp{H:Hp}{c:Nat}{S:Nat→Prop}{st:Int}{w:Nw}(h:ba H c S st w)(i:Int):
  af Tryz.prog bb [ptr c,i64 i] H fun v H'=>ax (ba H' c S st w∧ah H H'∧(
   (¬df w.cs i∧v= .tuple [uw 0 0,.bool false].toArray)∨
   (df w.cs i∧∃x,w.cs[i.toNat]? =some x∧v= .tuple [uw x.2.1 x.2.2,.bool true].toArray))):=by
 obtain⟨cs,len,rt,aS,h1,h2⟩:=h
 refine(DG h1 i).mono ?_
 rintro _ H1 ⟨g1,g2,⟨e,rfl⟩| ⟨e,x,hx,rfl⟩⟩
 ·exact⟨⟨_,_,_,_,g1,h2⟩,g2,.inl ⟨by rw[h2.Nr];exact e,rfl⟩⟩
 ·exact⟨⟨_,_,_,_,g1,h2⟩,g2,.inr ⟨by rw[h2.Nr];exact e,_,h2.get hx,rfl⟩⟩
theorem ke{H:Hp}{c:Nat}{S:Nat→Prop}{st:Int}{w:Nw}(h:ba H c S st w)(i:Int):
  af Tryz.prog iw [ptr c,i64 i] H fun v H'=>ax (
   (¬df w.cs i∧v= .bool false∧H=H')∨
   (df w.cs i∧v= .bool true∧ba H' c S st (w.put i (0,0,0))∧ag S H H')):=by
 obtain⟨cs,len,rt,aS,h1,h2⟩:=h
 have xW:=h1.Fe
 have tQ:w.cs.length=cs.length:=by rw[h2.cl,aqr]
 refine(Fg h1 (fun x hx=>(h2.lt x hx).2) i (fun j=>by rw[h2.mn];have:=w.An j;omega)).mono ?_
 rintro _ H1 (⟨e,rfl,rfl⟩| ⟨e,rfl,x,hx,g1,g2⟩)
 ·exact .inl ⟨by rw[h2.Nr];exact e,rfl,rfl⟩
 ·obtain⟨e0,x',xX,hp⟩:=id e
  rw[hx]at xX
  injection xX with xX
  subst xX
  have hg:=h2.get hx
  rw[if_pos hp]at hg
  have aN:=h2.lt x (aqg hx)
  have hnz:rt x.1.toNat≠0:=fun e=>by have:=h2.nz _ (by omega) e;omega
  refine .inr ⟨by rw[h2.Nr];exact e,rfl,⟨_,_,_,_,g1,h2.hl,h2.h0,h2.hh,?_,fun y hy=>?_,fun j=>?_,h2.low,h2.IE,h2.nz⟩,g2⟩
  ·show w.cs.set i.toNat _=_
   rw[h2.cl,aqP]
   rfl
  ·rcases aq8 hy with hy|rfl
   ·exact h2.lt y hy
   ·exact⟨by simp only;omega,by simp only;omega⟩
  ·have hp:=Nw.gC (y:=((0:Int),(0:Int),(0:Int))) hg j
   simp only at hp
   have hm:=h2.mn j
   by_cases hj:j=rt x.1.toNat
   ·subst hj
    rw[if_pos ⟨by omega,rfl⟩,if_neg (by rintro⟨h1,h2⟩;omega)]at hp
    rw[hp,←hm]
    split
    ·rename_i hz
     simp only[ee]at hz
     simp only[ee,sM,if_true,Option.getD_none]
     omega
    ·simp[ee,da]
   ·rw[if_neg (by rintro⟨_,h⟩;exact hj h.symm),if_neg (by rintro⟨h1,h2⟩;omega)]at hp
    rw[hp,←hm]
    split
    ·simp[ee,da,sM,hj]
    ·simp[ee,da,hj]
theorem jq{H:Hp}{c:Nat}{S:Nat→Prop}{st:Int}{w:Nw}(h:ba H c S st w)(i k s:Int):
  af Tryz.prog gK [ptr c,i64 i,uw k s] H fun v H'=>ax (
   (¬ (df w.cs i∧∀x,w.cs[i.toNat]? =some x→¬fQ x.2.1 x.2.2 k s)∧v= .bool false∧ba H' c S st w∧ah H H')∨
   (df w.cs i∧v= .bool true∧∃x,w.cs[i.toNat]? =some x∧¬fQ x.2.1 x.2.2 k s∧ba H' c S st (w.put i (x.1,k,s))∧ag S H H')):=by
 obtain⟨cs,len,rt,aS,h1,h2⟩:=h
 refine(DH h1 i k s).mono ?_
 rintro _ H1 (⟨e,rfl,g1,g2⟩| ⟨e,rfl,x,hx,hl,g1,g2⟩)
 ·refine .inl ⟨fun hc=>e ⟨(h2.Nr i).1 hc.1,fun x hx=>?_⟩,rfl,⟨_,_,_,_,g1,h2⟩,g2⟩
  have:=hc.2 _ (h2.get hx)
  exact this
 ·have hg:=h2.get hx
  refine .inr ⟨(h2.Nr i).2 e,rfl,_,hg,hl,⟨_,_,_,_,g1,h2.hl,h2.h0,h2.hh,?_,fun y hy=>?_,fun j=>?_,h2.low,h2.IE,h2.nz⟩,g2⟩
  ·show w.cs.set i.toNat _=_
   rw[h2.cl,aqP]
  ·rcases aq8 hy with hy|rfl
   ·exact h2.lt y hy
   ·exact h2.lt x (aqg hx)
  ·rw[Nw.gC hg,←h2.mn]
   simp only
   split<;>omega
theorem jr{H:Hp}{c:Nat}{S:Nat→Prop}{st:Int}{w:Nw}(h:ba H c S st w)(a b:Int):
  af Tryz.prog cT [ptr c,i64 a,i64 b] H fun v H'=>ax (v= .bool (w.ahead a b)∧ba H' c S (if df w.cs a∧df w.cs b then gf st 1 else st) w∧ag S H H'):=by
 obtain⟨cs,len,rt,aS,h1,h2⟩:=h
 refine(DF h1 a b).mono ?_
 rintro _ H1 (⟨e,rfl,rfl⟩| ⟨e,x,y,hx,hy,rfl,g1,g2⟩)
 ·have e':¬ (df w.cs a∧df w.cs b):=fun hc=>e ⟨(h2.Nr a).1 hc.1,(h2.Nr b).1 hc.2⟩
  refine⟨aqv Value.bool ?_,by rw[if_neg e'];exact⟨_,_,_,_,h1,h2⟩,ag.refl _ _⟩
  unfold Nw.ahead
  by_cases ha:df w.cs a
  ·by_cases hb:df w.cs b
   ·exact absurd ⟨ha,hb⟩ e'
   ·simp[hb]
  ·simp[ha]
 ·have ha:=(h2.Nr a).2 e.1
  have hb:=(h2.Nr b).2 e.2
  refine⟨aqv Value.bool ?_,by rw[if_pos ⟨ha,hb⟩];exact⟨_,_,_,_,g1,h2⟩,g2⟩
  unfold Nw.ahead
  rw[aqp ha,aqp hb,h2.get hx,h2.get hy]
  rfl
theorem ba.AL{H:Hp}{c:Nat}{S:Nat→Prop}{st:Int}{w:Nw}(h:ba H c S st w):w.hs.length≤65537:=by
 obtain⟨cs,len,rt,aS,⟨⟨fb,nb,ns,mb,_,_,g,_⟩,_⟩,h2⟩:=h
 have:=g.le
 rw[h2.hl]
 omega
theorem ba.home{H:Hp}{c:Nat}{S:Nat→Prop}{st:Int}{w:Nw}(h:ba H c S st w):∀x∈w.cs,0≤x.1∧x.1<w.hs.length:=by
 obtain⟨cs,len,rt,aS,h1,h2⟩:=h
 intro x hx
 rw[h2.cl]at hx
 obtain⟨y,hy,rfl⟩:=aqK.1 hx
 have h3:=h2.lt y hy
 rw[h2.hl]
 have h4:=h2.low y.1.toNat (by omega)
 have h5:0<len:=by
  have:=(aqc.1 h2.h0).1
  rw[h2.hl]at this
  exact this
 simp only
 split<;>omega
theorem ba.live{H:Hp}{c:Nat}{S:Nat→Prop}{st:Int}{w:Nw}(h:ba H c S st w):∀x∈w.cs,0<x.1→w.hs[x.1.toNat]? =some true:=by
 obtain⟨cs,len,rt,aS,h1,h2⟩:=h
 intro x hx
 rw[h2.cl]at hx
 obtain⟨y,hy,rfl⟩:=aqK.1 hx
 have h3:=h2.lt y hy
 simp only
 split
 ·intro h0
  have h4:=h2.low y.1.toNat (by omega)
  have h5:=h2.IE y.1.toNat (by omega)
  rw[show((rt y.1.toNat:Nat):Int).toNat=rt y.1.toNat by omega,h2.hh _ (by omega) h4,h5]
  simp
 ·intro h0;omega
theorem db.SR{H:Hp}{size n:Nat}{v:Value}{xs:List Value}(h:db H size v n xs):∃a c,v= .slice a n c:=by
 obtain⟨_,⟨rfl,a,c,rfl⟩| ⟨b,o,c,l,rfl,_⟩⟩:=h
 ·exact⟨_,_,rfl⟩
 ·exact⟨_,_,rfl⟩
theorem JF(k s k' s':Int):(MJ k s k' s'<0↔fQ k s k' s')∧(MJ k s k' s'=0↔(k=k'∧s=s')):=by
 refine⟨MK k s k' s',?_⟩
 unfold MJ orI BY
 simp only[List.find?]
 by_cases h1:k<k'
 ·simp[h1];omega
 ·by_cases h2:k'<k
  ·simp[h1,h2];omega
  ·by_cases h3:s<s'
   ·simp[h1,h2,h3];omega
   ·by_cases h4:s'<s
    ·simp[h1,h2,h3,h4];omega
    ·simp[h1,h2,h3,h4];omega
theorem OB(a b:Int)(x y:Ce):Am a b x y↔(fQ x.2.1 x.2.2 y.2.1 y.2.2∨(x.2.1=y.2.1∧x.2.2=y.2.2)∧a<b):=by
 unfold Am
 rw[(JF _ _ _ _).1,(JF _ _ _ _).2]
structure dK(H:Hp)(r:Nat)(S:Nat→Prop)(d:Int)(l:List Int)(pl:Int→Option Int):Prop where
 Sm:∃sv fp mb,H.own r=some [i64 d,sv,.map (some mb)]∧Sl H 1 sv l.length (l.map i64) fp∧lM H mb (fun i=>(pl i).map i64)∧
  S r∧S mb∧r≠mb∧(∀b,fp=some b→S b∧b≠r∧b≠mb)
 slt:∀x,S x→x<H.size
theorem dK.ext{H H':Hp}{r:Nat}{S T:Nat→Prop}{d:Int}{l:List Int}{pl:Int→Option Int}(h:dK H r S d l pl)(e:ag T H H')(hd:∀x,S x→¬T x):dK H' r S d l pl:=by
 obtain⟨⟨sv,fp,mb,a1,a2,a3,s1,s2,s3,s4⟩,h2⟩:=h
 exact⟨⟨sv,fp,mb,e.own a1 (hd _ s1),a2.ext e (fun b hb=>hd _ (s4 b hb).1),a3.ext e (hd _ s2),s1,s2,s3,s4⟩,fun x hx=>aqw (h2 x hx) e.size⟩
theorem yN(d:Int)(H:Hp):af Tryz.prog N0 [i64 d] H fun v H'=>ax (
  ah H H'∧((¬cY d∧v= .tuple [.pointer none,i64 22].toArray)∨
   cY d∧∃r S,v= .tuple [ptr r,i64 0].toArray∧dK H' r S d [] (fun _=>none)∧∀x,S x→H.size≤x)):=by
 refine bm Od ?_
 refine vs ?_
 refine(nP d H).mono ?_
 rintro _ _ ⟨rfl,rfl⟩
 refine vs ?_
 refine ar.dec (fun h=>?_) (fun h=>?_)<;>refine vs ?_
 ·have e1:ah H (H.iR.new 273 [i64 d,.slice none 0 0,.map (some H.size)]):=((ag.refl _ _).iR).new _ _
  refine⟨e1,.inr ⟨h,H.size+1,fun x=>H.size≤x∧x<H.size+1+1,rfl,⟨⟨_,none,H.size,bz (by simp only[iJ]),Sl.nil _ _,?_,?_,?_,?_,?_⟩,?_⟩,fun x hx=>hx.1⟩⟩
  ·exact(lM.new H).ext ((ag.refl (fun _=>False) _).new _ _) (fun h=>h)
  ·omega
  ·omega
  ·omega
  ·intro b hb;cases hb
  ·intro x hx
   simp only[am,iJ]
   exact hx.2
 ·exact⟨ag.refl _ _,.inl ⟨h,rfl⟩⟩
theorem KK{H:Hp}{r:Nat}{S:Nat→Prop}{d:Int}{l:List Int}{pl:Int→Option Int}(h:dK H r S d l pl)(i:Int):
  af Tryz.prog Il [ptr r,i64 i] H fun v H'=>ax (v=Oj (if 0≤i then l[i.toNat]? else none)∧H=H'):=by
 obtain⟨⟨sv,fp,mb,a1,a2,a3,s1,s2,s3,s4⟩,h2⟩:=h
 refine bm IA ?_
 refine vs ?_
 refine ar.dec (fun h=>?_) (fun h=>?_)<;>refine v1 (ae a1) ?_
 ·exact⟨by rw[if_neg (by omega)];rfl,rfl⟩
 ·cases fp with
  |none=>
   obtain⟨_,e,rfl⟩:=a2
   have hl:l=[]:=aqN.1 e
   subst hl
   refine vs ?_
   refine ar.cP (by simp only[aqI];omega) ?_
   refine vs ?_
   exact⟨by rw[if_pos (by omega)];rfl,rfl⟩
  |some b=>
   obtain⟨_,l',c,rfl,a4,a5,a6,a7⟩:=a2
   refine vs ?_
   refine ar.dec (fun h3=>?_) (fun h3=>?_)<;>refine v1 (ae a1) ?_
   ·exact⟨by rw[if_pos (by omega),aqo (by omega)];rfl,rfl⟩
   ·obtain⟨x,hx⟩:∃x,l[i.toNat]? =some x:=⟨_,aqb (by omega)⟩
    have OC:l'[i.toNat]? =some (i64 x):=by
     have h1:(l.map i64)[i.toNat]? =some (i64 x):=by simp[hx]
     rw[←a7,aqF (by omega)]at h1
     exact h1
    refine⟨by omega,?_⟩
    refine v3 (ae a4) aqd OC ?_
    exact⟨by rw[if_pos (by omega),hx];rfl,rfl⟩
theorem kE{H:Hp}{r:Nat}{S:Nat→Prop}{d:Int}{l:List Int}{pl:Int→Option Int}(h:dK H r S d l pl)(i x:Int)(hi:0≤i∧i<l.length):
  af Tryz.prog nD [ptr r,i64 i,i64 x] H fun v H'=>ax (v= .tuple [].toArray∧dK H' r S d (l.set i.toNat x) (da pl x i)∧ag S H H'):=by
 obtain⟨⟨sv,fp,mb,a1,a2,a3,s1,s2,s3,s4⟩,h2⟩:=h
 refine bm GB ?_
 cases fp with
 |none=>obtain⟨_,e,_⟩:=a2;omega
 |some b=>
  have XY:=a2
  obtain⟨_,l',c,rfl,a4,a5,a6,a7⟩:=a2
  refine v1 (ae a1) ?_
  refine⟨by omega,?_⟩
  refine v2 a4 aqd ?_
  refine⟨by omega,?_⟩
  obtain⟨Nq,oG,SP⟩:=s4 b rfl
  have e1:ag (fun z=>z=b) H (H.wr b (l'.set i.toNat (i64 x))):=(ag.refl (fun z=>z=b) _).wr (fun _=>rfl) _
  have b1:=e1.own a1 (Ne.symm oG)
  have b2:=XY.qn a4 i.toNat (i64 x)
  have b3:=a3.ext e1 (Ne.symm SP)
  refine v1 (ae b1) ?_
  refine b3.lZ fun H2 m2 e2=>?_
  rw[ML]at m2
  refine vs ?_
  refine⟨rfl,⟨⟨_,some b,mb,by exact e2.own b1 s3,?_,m2,s1,s2,s3,s4⟩,fun z hz=>aqw (h2 z hz) (aqW e1.size e2.size)⟩,(e1.mono fun z _ hz=>hz▸Nq).trans (e2.mono fun z _ hz=>hz▸s2)⟩
  rw[aqe,aqP]
  exact b2.ext e2 (fun z hz=>by injection hz with hz;exact hz▸SP)
end Go.Proofs.YthpjfeolagohkaaGreat
