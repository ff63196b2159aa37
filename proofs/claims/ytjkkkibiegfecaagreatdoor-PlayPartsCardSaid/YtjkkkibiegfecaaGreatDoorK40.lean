/- Texts put behind each other. -/
import Derived.Test.YtjkkkibiegfecaaGreatDoorK98
import Derived.Test.YtjkkkibiegfecaaGreatDoorK6
import Derived.Test.YtjkkkibiegfecaaGreatDoorK21
import Derived.Test.YtjkkkibiegfecaaGreatDoorK22
import Derived.Test.YtjkkkibiegfecaaGreatDoorK23
import Derived.Test.YtjkkkibiegfecaaGreatDoorK27
import Derived.Test.YtjkkkibiegfecaaGreatDoorK33
import Derived.Test.YtjkkkibiegfecaaGreatDoorK35
import Derived.Test.YtjkkkibiegfecaaGreatDoorK37
import Derived.Test.YtjkkkibiegfecaaGreatDoorK38
import Derived.Lib.SplitLaws
set_option maxRecDepth 100000
set_option maxHeartbeats 8000000
set_option linter.unusedVariables false
set_option linter.unusedSimpArgs false
namespace Go.Proofs.YtjkkkibiegfecaaGreatDoor
open Go Go.Vc
abbrev u32(n:Int):Value:=.int .u32 n
abbrev jV(op:Int)(a b:Nat)(k:Int):Value:=.agg [i64 op,u32 a,u32 b,i64 k].toArray
def nH(i:Nat):List Value:=[aW (da i),i64 (cC i),.bool (bS i),.bool (keyOf i)]
def bR:List Value:=(List.range 11).flatMap nH
theorem fT{i:Nat}(h:i≤10):(bR.drop (i*4)).take 4=[aW (da i),i64 (cC i),.bool (bS i),.bool (keyOf i)]:=by
 rcases ops i h with rfl|rfl|rfl|rfl|rfl|rfl|rfl|rfl|rfl|rfl|rfl<;>rfl
theorem oV:bR.length=44:=rfl
theorem eD(H:Hp):ag Tryz.prog Gb [] H fun v H'=>ap (v= .slice (some ⟨H.size,0,none⟩) 11 11∧H'=H.new 116 bR):=by
 refine aU Gp ?_
 refine vs ?_
 exact⟨rfl,rfl⟩
def ww(op:Int)(a b:Nat)(k:Int):Value:=if 0≤op∧op≤10 then jV op (Ei op.toNat a) (Fj op.toNat b) (HB op.toNat k)else jV 0 0 0 0
theorem HC{i:Nat}(h:i≤10)(a b:Nat)(k:Int):ww i a b k=jV i (Ei i a) (Fj i b) (HB i k):=by
 unfold ww
 rw[if_pos (by omega),Int.toNat_natCast]
theorem DR{op:Int}(h:¬ (0≤op∧op≤10))(a b:Nat)(k:Int):ww op a b k=jV 0 0 0 0:=by
 unfold ww
 rw[if_neg h]
theorem jW(H:Hp)(op:Int)(a b:Nat)(k:Int):ag Tryz.prog Ga [jV op a b k] H fun v H'=>ap (v=ww op a b k∧ai H H'):=by
 refine Fz Gn ⟨rfl,?_⟩
 have f0:ai H ((H.new 52 [i64 op,u32 a,u32 b,i64 k]).new 52 [i64 0,u32 0,u32 0,i64 0]):=((ah.refl _ _).new _ _).new _ _
 have b1:((H.new 52 [i64 op,u32 a,u32 b,i64 k]).new 52 [i64 0,u32 0,u32 0,i64 0]).own H.size=some [i64 op,u32 a,u32 b,i64 k]:=by rw[bm (by rw[ak];omega)];exact aA _ _ _
 have b2:((H.new 52 [i64 op,u32 a,u32 b,i64 k]).new 52 [i64 0,u32 0,u32 0,i64 0]).own (H.size+1)=some [i64 0,u32 0,u32 0,i64 0]:=aR (by rw[ak])
 refine v1 vi.eq_1 ?_
 generalize (H.new 52 [i64 op,u32 a,u32 b,i64 k]).new 52 [i64 0,u32 0,u32 0,i64 0]=H0 at*
 have bad:¬ (0≤op∧op≤10)→_:=fun h=>h
 refine ar.dec (fun h1=>?_) (fun h1=>?_)<;>refine v1 (ae b1) ?_
 ·refine v1 b2 ?_
  simp(disch:=(first|omega| (simp only[Zs]<;>omega)|fail)) only[go_sem, ↓reduceIte,Zv,ae (af b2)]
  exact⟨by rw[DR (by omega)];rfl,f0.then ((ah.refl (fun z=>z=H.size+1) _).wr (fun _=>rfl) _) (fun z hz=>by omega)⟩
 refine ar.dec (fun h2=>?_) (fun h2=>?_)<;>refine v1 (ae b1) ?_
 ·refine v1 b2 ?_
  simp(disch:=(first|omega| (simp only[Zs]<;>omega)|fail)) only[go_sem, ↓reduceIte,Zv,ae (af b2)]
  exact⟨by rw[DR (by omega)];rfl,f0.then ((ah.refl (fun z=>z=H.size+1) _).wr (fun _=>rfl) _) (fun z hz=>by omega)⟩
 obtain⟨i,rfl⟩:∃i:Nat,op=i:=⟨op.toNat,by omega⟩
 have hi:i≤10:=by omega
 refine iD (fun e H'=>∃x,e=[(1,ptr H.size),(2,ptr (H.size+1)),(3,ptr x)]∧H0.size≤x∧ai H0 H'∧H'.own x=some (nH i)) ?_ ?_
 ·refine fV.intro (fun H'=>H'.own H.size=some [i64 i,u32 a,u32 b,i64 k]) b1 ?_
  refine vs ?_
  refine dV.intro (i64 i) (fun H' hI=>?_) ?_
  ·refine v1 (ae hI) ?_
   exact⟨trivial,trivial⟩
  refine vs ?_
  have Mz:H.size<H0.size:=aE b1
  have p1:=aA H0 116 bR
  have q1:ai H0 (H0.new 116 bR):=(ah.refl _ _).new _ _
  have i1:=q1.own b1 (fun h=>h)
  have z1:(H0.new 116 bR).size=H0.size+1:=by rw[ak]
  refine Fy.intro ?_ ?_
  ·refine vs ?_
   refine(eD H0).mono ?_
   rintro _ _ ⟨rfl,rfl⟩
   refine And.intro i1 ?_
   refine vs ?_
   generalize H0.new 116 bR=H1 at*
   refine⟨⟨by omega,by omega⟩,?_⟩
   have p2:=aA H1 116 [.string ⟨#[]⟩,i64 0,.bool false,.bool false]
   have q2:ai H1 (H1.new 116 [.string ⟨#[]⟩,i64 0,.bool false,.bool false]):=(ah.refl _ _).new _ _
   have i2:=q2.own i1 (fun h=>h)
   have p12:=q2.own p1 (fun h=>h)
   have fin:∀l',l'=[aW (da i),i64 (cC i),.bool (bS i),.bool (keyOf i)]→((H1.new 116 [.string ⟨#[]⟩,i64 0,.bool false,.bool false]).wr H1.size l').own H.size=some [i64 i,u32 a,u32 b,i64 k]∧ai H0 ((H1.new 116 [.string ⟨#[]⟩,i64 0,.bool false,.bool false]).wr H1.size l')∧((H1.new 116 [.string ⟨#[]⟩,i64 0,.bool false,.bool false]).wr H1.size l').own H1.size=some (nH i):=fun l' e=>by
    subst e
    refine⟨by rw[fH (by omega)];exact i2,(q1.trans q2).then ((ah.refl (fun z=>z=H1.size) _).wr (fun _=>rfl) _) (fun z hz=>by omega),af p2⟩
   refine Fy.intro ?_ ?_
   ·refine v4 (ae p1) Int.toNat_natCast aoi (fT hi) ?_
    refine⟨by rw[oV];omega,i1,?_⟩
    refine vs ?_
    refine And.intro (by first|exact i1|exact i2) ?_
    refine v2 (fT hi) p2 ?_
    obtain⟨g1,g2,g3⟩:=fin _ rfl
    refine And.intro (by first|exact g1|exact i2|exact i1) ?_
    refine vs ?_
    exact⟨_,rfl,by omega,g2,g3⟩
   ·refine vs ?_
    refine And.intro (by first|exact i1|exact i2) ?_
    refine v4 (ae p12) Int.toNat_natCast aoi (fT hi) ?_
    refine⟨by rw[oV];omega,(by first|exact i1|exact i2),?_⟩
    refine v2 (fT hi) p2 ?_
    obtain⟨g1,g2,g3⟩:=fin _ rfl
    refine And.intro (by first|exact g1|exact i2|exact i1) ?_
    refine vs ?_
    exact⟨_,rfl,by omega,g2,g3⟩
  ·have p3:=aA H0 116 [.string ⟨#[]⟩,i64 0,.bool false,.bool false]
   have q3:ai H0 (H0.new 116 [.string ⟨#[]⟩,i64 0,.bool false,.bool false]):=(ah.refl _ _).new _ _
   have i3:=q3.own b1 (fun h=>h)
   have z3:(H0.new 116 [.string ⟨#[]⟩,i64 0,.bool false,.bool false]).size=H0.size+1:=by rw[ak]
   refine vs ?_
   refine And.intro (by first|exact b1|exact i3) ?_
   refine vs ?_
   generalize H0.new 116 [.string ⟨#[]⟩,i64 0,.bool false,.bool false]=H1 at*
   refine(eD H1).mono ?_
   rintro _ _ ⟨rfl,rfl⟩
   have p4:=aA H1 116 bR
   have q4:ai H1 (H1.new 116 bR):=(ah.refl _ _).new _ _
   have i4:=q4.own i3 (fun h=>h)
   have p34:=q4.own p3 (fun h=>h)
   refine And.intro i4 ?_
   refine vs ?_
   generalize H1.new 116 bR=H2 at*
   refine⟨⟨by omega,by omega⟩,?_⟩
   refine v4 (ae p4) Int.toNat_natCast aoi (fT hi) ?_
   refine⟨by rw[oV];omega,i4,?_⟩
   refine v2 (fT hi) p34 ?_
   refine And.intro (by first|exact i4| (rw[fH (by omega)];exact i4)) ?_
   refine vs ?_
   exact⟨_,rfl,by omega,(q3.trans q4).then ((ah.refl (fun z=>z=H0.size) _).wr (fun _=>rfl) _) (fun z hz=>by omega),af p34⟩
 ·rintro e H1 ⟨x,rfl,hx,f1,o1⟩
  have o2:=f1.own b1 (fun h=>h)
  have o3:=f1.own b2 (fun h=>h)
  have yt:=aE b2
  have wr:∀ {A:Hp} (l:List Value),ah (fun z=>z=H.size) H0 A→ah (fun z=>z=H.size) H0 (A.wr H.size l):=fun l h=>h.wr (fun _=>rfl) _
  have FI:nH i=[aW (da i),i64 (cC i),.bool (bS i),.bool (keyOf i)]:=rfl
  have bN:x≠H.size:=by omega
  refine iD (fun e H'=>e.find 1=some (ptr H.size)∧e.find 2=some (ptr (H.size+1))∧e.find 3=some (ptr x)∧ah (fun z=>z=H.size) H0 H'∧H'.own x=some (nH i)∧H'.own H.size=some [i64 i,u32 (Ei i a),u32 b,i64 k]) ?_ ?_
  ·have e1:Ei i a=if cC i=0∧bS i=false then 0 else a:=by
    rcases ops i hi with rfl|rfl|rfl|rfl|rfl|rfl|rfl|rfl|rfl|rfl|rfl<;>simp[Ei,TF,cC,bS]
   have f1':ah (fun z=>z=H.size) H0 H1:=f1.mono fun _ _ h=>h.elim
   rw[e1]
   rw[FI]at o1 ⊢
   refine v1 (ae o1) ?_
   cases hh:bS i<;>rw[hh]at o1<;>refine ar.dec (fun h3=>?_) (fun h3=>?_)<;>refine v4 (ae o1) apz apD o2 ?_
   ·refine⟨trivial,trivial,trivial,wr _ f1',o1,?_⟩
    rw[if_pos ⟨by omega,trivial⟩]
    exact af o2
   all_goals
    refine⟨trivial,trivial,trivial,f1',o1,?_⟩
    rw[if_neg (by simp;try omega)]
  rintro e H2 ⟨v1,v2,v3,f2,o4,o5⟩
  have o6:=f2.own b2 (fun h=>by omega)
  refine iD (fun e H'=>e.find 1=some (ptr H.size)∧e.find 2=some (ptr (H.size+1))∧e.find 3=some (ptr x)∧ah (fun z=>z=H.size) H0 H'∧H'.own x=some (nH i)∧H'.own H.size=some [i64 i,u32 (Ei i a),u32 (Fj i b),i64 k]) ?_ ?_
  ·have e1:Fj i b=if cC i<2∧bS i=false then 0 else b:=by
    rcases ops i hi with rfl|rfl|rfl|rfl|rfl|rfl|rfl|rfl|rfl|rfl|rfl<;>simp[Fj,hasB,cC,bS]
   rw[e1]
   rw[FI]at o4 ⊢
   refine v4 (ae o4) v1 v2 v3 ?_
   cases hh:bS i<;>rw[hh]at o4<;>refine ar.dec (fun h3=>?_) (fun h3=>?_)<;>refine v7 (ae o4) apz apD o5 v1 v2 v3 ?_
   ·refine⟨trivial,trivial,trivial,wr _ f2,o4,?_⟩
    rw[if_pos ⟨by omega,trivial⟩]
    exact af o5
   all_goals
    refine⟨trivial,trivial,trivial,f2,o4,?_⟩
    rw[if_neg (by simp;try omega)]
  rintro e H3 ⟨w1,w2,w3,f3,o7,o8⟩
  refine iD (fun e H'=>e.find 1=some (ptr H.size)∧e.find 2=some (ptr (H.size+1))∧ah (fun z=>z=H.size) H0 H'∧H'.own H.size=some [i64 i,u32 (Ei i a),u32 (Fj i b),i64 (HB i k)]) ?_ ?_
  ·rw[FI]at o7
   refine v4 (ae o7) w1 w2 w3 ?_
   unfold HB
   cases hh:keyOf i<;>rw[hh]at o7<;>refine v6 apz apD o8 w1 w2 w3 ?_
   ·exact⟨trivial,trivial,wr _ f3,af o8⟩
   ·exact⟨trivial,trivial,f3,trivial⟩
  rintro e H4 ⟨x1,x2,f4,o9⟩
  have o10:=f4.own b2 (fun h=>by omega)
  refine v4 (ae o9) o10 x1 x2 ?_
  simp(disch:=(first|omega| (simp only[Zs]<;>omega)|fail)) only[go_sem, ↓reduceIte,Zv,ae (af o10)]
  refine⟨by rw[HC hi];rfl,f0.then ((f4.mono fun z _ (h:z=H.size)=>(Or.inl h:z=H.size∨z=H.size+1)).wr (fun _=>.inr rfl) _) (fun z hz=>by omega)⟩
theorem rec_eq(op a b k Qb a' b' k':Int):BX [(0,(none,.int)),(1,(none,.int)),(2,(none,.int)),(3,(none,.int))] [i64 op,u32 a,u32 b,i64 k] [i64 Qb,u32 a',u32 b',i64 k']=some (decide (op=Qb) && (decide (a=a') && (decide (b=b') && decide (k=k')))):=by
 by_cases h1:op=Qb<;>by_cases h2:a=a'<;>by_cases h3:b=b'<;>by_cases h4:k=k'<;>simp[BX,Vc.rE,CH,dI,h1,h2,h3,h4]
def ti(op:Int)(a b:Nat)(k:Int):Bool:=decide (0≤op∧op≤10∧Ei op.toNat a=a∧Fj op.toNat b=b∧HB op.toNat k=k)
theorem TG(op:Int)(a b:Nat)(k:Int):∃l,ww op a b k= .agg l.toArray∧l.length=4∧BX [(0,(none,.int)),(1,(none,.int)),(2,(none,.int)),(3,(none,.int))] l [i64 op,u32 a,u32 b,i64 k]=some (ti op a b k):=by
 by_cases h:0≤op∧op≤10
 ·obtain⟨i,rfl⟩:∃i:Nat,op=i:=⟨op.toNat,by omega⟩
  rw[HC (by omega)]
  refine⟨_,rfl,rfl,?_⟩
  rw[rec_eq]
  unfold ti
  simp only[aoq,Int.toNat_natCast]
  by_cases h1:Ei i a=a<;>by_cases h2:Fj i b=b<;>by_cases h3:HB i k=k<;>simp[h1,h2,h3]<;>omega
 ·rw[DR h]
  refine⟨_,rfl,rfl,?_⟩
  rw[rec_eq]
  unfold ti
  have:¬ ((0:Int)=op):=by omega
  have h2:¬ (0≤op∧op≤10∧Ei op.toNat a=a∧Fj op.toNat b=b∧HB op.toNat k=k):=fun h'=>h ⟨h'.1,h'.2.1⟩
  simp[this,h2]
theorem Cy(H:Hp)(op:Int)(a b:Nat)(k:Int):ag Tryz.prog Gf [jV op a b k] H fun v H'=>ap (v= .bool (ti op a b k)∧ai H H'):=by
 refine aU Gt ?_
 have f0:ai H (H.new 52 [i64 op,u32 a,u32 b,i64 k]):=(ah.refl _ _).new _ _
 have b1:=aA H 52 [i64 op,u32 a,u32 b,i64 k]
 obtain⟨l,hl,Vr,hq⟩:=TG op a b k
 refine vs ?_
 generalize H.new 52 [i64 op,u32 a,u32 b,i64 k]=H0 at*
 refine fV.intro (fun H'=>H'.own H.size=some [i64 op,u32 a,u32 b,i64 k]) b1 ?_
 refine vs ?_
 refine dV.intro (jV op a b k) (fun H' hI=>?_) ?_
 ·refine v1 (ae hI) ?_
  exact⟨trivial,trivial⟩
 refine v1 (ae b1) ?_
 refine And.intro b1 ?_
 refine vs ?_
 refine(jW H0 op a b k).mono ?_
 rintro _ H1 ⟨rfl,f1⟩
 refine And.intro (f1.own b1 (fun h=>h)) ?_
 simp(disch:=(first|omega| (simp only[Zs]<;>omega)|fail)) only[go_sem, ↓reduceIte,Zv,hl,hq,Option.map_some]
 exact⟨rfl,f0.trans f1⟩
section
variable {H : Hp} {s : Nat} {S : Nat → Prop} {t : kY}
abbrev RR(s:Nat)(S:Nat→Prop)(H:Hp)(p:kY×Rp)(v:Value)(H':Hp):Prop:=v=rpV p.2∧oM s S H H' p.1.w p.1.A p.1.q
abbrev TH(s:Nat):Value:=.agg [ptr s].toArray
abbrev Pb:List Value:=[.int .i64 0,.int .i64 0,.int .i64 0,.int .u32 0,.int .i64 0,.int .i64 0]
theorem TI(H:Hp)(s:Nat)(l:List Value):∃H0,((H.new 109 [ptr s]).new 52 l).new 31 Pb=H0∧ai H H0∧H0.own H.size=some [ptr s]∧H0.own (H.size+1)=some l∧H0.own (H.size+1+1)=some Pb∧H0.size=H.size+3:=by
 refine⟨_,rfl,(((ah.refl _ _).new _ _).new _ _).new _ _,?_,?_,aR (by simp only[ak]),by simp only[ak]⟩
 ·rw[bm (by simp only[ak];omega),bm (by simp only[ak];omega),aA]
 ·rw[bm (by simp only[ak];omega)]
  exact aR (by simp only[ak])
def TX(s:Nat)(S:Nat→Prop)(H:Hp)(b:Nat)(H':Hp)(w:Nw)(A:Ar)(q:Int):Prop:=∃S',nD H' s S' w A q∧ah S H H'∧(∀z,S' z→S z∨H.size≤z)∧¬S' b
theorem df{H0 H':Hp}{w:Nw}{A:Ar}{q:Int}{b:Nat}(f:ai H H0)(h:oM s S H0 H' w A q)(hb:¬S b)(yt:b<H0.size):TX s S H b H' w A q:=by
 obtain⟨S',h1,e1,h2⟩:=h
 have z:=f.size
 exact⟨S',h1,(f.mono fun _ _ h=>h.elim).trans e1,fun z hz=>(h2 z hz).imp_right fun h=>by omega,fun h=>by rcases h2 b h with h|h;exact hb h;omega⟩
theorem TX.wr{H':Hp}{w:Nw}{A:Ar}{q:Int}{b:Nat}(h:TX s S H b H' w A q)(hb:H.size≤b)(l:List Value):TX s S H b (H'.wr b l) w A q:=by
 obtain⟨S',h1,e1,h2,h3⟩:=h
 exact⟨S',h1.tmp h3,wQ e1 hb,h2,h3⟩
theorem TX.out{H':Hp}{w:Nw}{A:Ar}{q:Int}{b:Nat}(h:TX s S H b H' w A q):oM s S H H' w A q:=by
 obtain⟨S',h1,e1,h2,h3⟩:=h
 exact⟨S',h1,e1,h2⟩
theorem Lg(H:Hp)(b:Nat)(l:List Value):ah (fun x=>x=b) H (H.wr b l):=(ah.refl (fun x=>x=b) _).wr (fun _=>rfl) _
theorem gL(op:Int)(a b:Nat)(k:Int)(ha:a<4294967296)(H:Hp):ag Tryz.prog Iq [jV op a b k] H fun v H'=>ap (v=jk a b∧ai H H'):=by
 refine aU IE ?_
 refine vs ?_
 have f0:ai H ((H.new 52 [i64 op,u32 a,u32 b,i64 k]).new 29 [Value.int .i64 0,Value.int .u32 0]):=((ah.refl _ _).new _ _).new _ _
 have o1:((H.new 52 [i64 op,u32 a,u32 b,i64 k]).new 29 [Value.int .i64 0,Value.int .u32 0]).own (H.size+1)=some [Value.int .i64 0,Value.int .u32 0]:=aR (by simp only[ak])
 rw[wrap64 (by omega) (by omega)]
 generalize (H.new 52 [i64 op,u32 a,u32 b,i64 k]).new 29 [Value.int .i64 0,Value.int .u32 0]=H0 at*
 simp(disch:=(first|omega| (simp only[Zs]<;>omega)|fail)) only[go_sem, ↓reduceIte,Zv,ae (af o1)]
 exact⟨rfl,f0.then (Lg _ _ _) (fun z hz=>by omega)⟩
theorem Fk(h:nD H s S t.w t.A t.q)(hl:t.w.hs.length<65537)(op:Int){a b:Nat}{k:Int}(hr:jf a b k):ag Tryz.prog gS [TH s,jV op a b k] H fun v H'=>ap (RR s S H (MJ t) v H'):=by
 have bL:=h.slt
 obtain⟨r1,r2,r3,r4⟩:=hr
 refine aU xt ?_
 refine vs ?_
 obtain⟨H0,e0,f0,b0,b1,b2,z0⟩:=TI H s [i64 op,u32 a,u32 b,i64 k]
 rw[e0]
 have hn:¬S (H.size+1+1):=fun h=>by have:=bL _ h;omega
 have h0:=h.ext f0 (fun _ _ h=>h)
 refine(E2 h0 hl).mono ?_
 rintro _ H1 ⟨rfl,h1⟩
 have em:MJ t=(⟨t.w.make,t.A,t.q⟩,⟨0,t.w.hs.length,0,0,0,0⟩):=by unfold MJ;rw[if_neg (by omega)]
 rw[em]
 have o1:=aH h1 b2 hn
 have x:=df f0 h1 hn (by omega)
 refine v1 o1 ?_
 simp(disch:=(first|omega| (simp only[Zs]<;>omega)|fail)) only[go_sem, ↓reduceIte,Zv,af o1,ae (af o1)]
 exact⟨rfl,(x.wr (by omega) _).out⟩
theorem DS(h:nD H s S t.w t.A t.q)(op:Int){a b:Nat}{k:Int}(hr:jf a b k):ag Tryz.prog gg [TH s,jV op a b k] H fun v H'=>ap (RR s S H (t,SK t a) v H'):=by
 have bL:=h.slt
 obtain⟨r1,r2,r3,r4⟩:=hr
 refine aU vp ?_
 refine vs ?_
 obtain⟨H0,e0,f0,b0,b1,b2,z0⟩:=TI H s [i64 op,u32 a,u32 b,i64 k]
 rw[e0]
 have hn:¬S (H.size+1+1):=fun h=>by have:=bL _ h;omega
 have h0:=h.ext f0 (fun _ _ h=>h)
 rw[wrap64 (by omega) (by omega)]
 refine(MP h0 a).mono ?_
 rintro _ H1 ⟨rfl,h1⟩
 unfold SK
 by_cases hg:t.w.has a
 ·rw[if_pos hg,if_neg (fun h=>h hg)]
  have o1:=aH h1 b2 hn
  have x:=df f0 h1 hn (by omega)
  refine v1 o1 ?_
  simp(disch:=(first|omega| (simp only[Zs]<;>omega)|fail)) only[go_sem, ↓reduceIte,Zv,af o1,ae (af o1)]
  exact⟨rfl,(x.wr (by omega) _).out⟩
 ·rw[if_neg hg,if_pos hg]
  have o1:=aH h1 b2 hn
  have x:=df f0 h1 hn (by omega)
  refine v1 o1 ?_
  simp(disch:=(first|omega| (simp only[Zs]<;>omega)|fail)) only[go_sem, ↓reduceIte,Zv,af o1,ae (af o1)]
  exact⟨rfl,(x.wr (by omega) _).out⟩
theorem HD(h:nD H s S t.w t.A t.q)(op:Int){a b:Nat}{k:Int}(hr:jf a b k):ag Tryz.prog iE [TH s,jV op a b k] H fun v H'=>ap (RR s S H (OM t a b) v H'):=by
 have bL:=h.slt
 obtain⟨r1,r2,r3,r4⟩:=hr
 refine aU zt ?_
 refine vs ?_
 obtain⟨H0,e0,f0,b0,b1,b2,z0⟩:=TI H s [i64 op,u32 a,u32 b,i64 k]
 rw[e0]
 have hn:¬S (H.size+1+1):=fun h=>by have:=bL _ h;omega
 have h0:=h.ext f0 (fun _ _ h=>h)
 rw[wrap64 (by omega) (by omega),wrap64 (by omega) (by omega)]
 refine(KK h0 a b).mono ?_
 rintro _ H1 ⟨rfl,h1⟩
 unfold OM
 by_cases hg:t.w.has a∧t.w.has b
 ·by_cases eJ:(a:Int)=b
  ·rw[if_neg (fun h=>h.2.2 eJ)]at h1
   rw[if_neg (fun h=>h hg),if_pos eJ,if_neg (fun h=>h hg),if_pos eJ]
   have o1:=aH h1 b2 hn
   have x:=df f0 h1 hn (by omega)
   refine v1 o1 ?_
   simp(disch:=(first|omega| (simp only[Zs]<;>omega)|fail)) only[go_sem, ↓reduceIte,Zv,af o1,ae (af o1)]
   exact⟨rfl,(x.wr (by omega) _).out⟩
  ·rw[if_pos ⟨hg.1,hg.2,eJ⟩]at h1
   rw[if_neg (fun h=>h hg),if_neg eJ,if_neg (fun h=>h hg),if_neg eJ]
   have o1:=aH h1 b2 hn
   have x:=df f0 h1 hn (by omega)
   refine v1 o1 ?_
   simp(disch:=(first|omega| (simp only[Zs]<;>omega)|fail)) only[go_sem, ↓reduceIte,Zv,af o1,ae (af o1)]
   exact⟨rfl,(x.wr (by omega) _).out⟩
 ·rw[if_neg (fun h=>hg ⟨h.1,h.2.1⟩)]at h1
  rw[if_pos hg,if_pos hg]
  have o1:=aH h1 b2 hn
  have x:=df f0 h1 hn (by omega)
  refine v1 o1 ?_
  simp(disch:=(first|omega| (simp only[Zs]<;>omega)|fail)) only[go_sem, ↓reduceIte,Zv,af o1,ae (af o1)]
  exact⟨rfl,(x.wr (by omega) _).out⟩
theorem DT(h:nD H s S t.w t.A t.q)(OT:∀x:Int,0≤x→x<t.A.g.length→t.A.cB x<4294967295)(hq:0≤t.q∧t.q<18446744073709551615)(op:Int){a b:Nat}{k:Int}(hr:jf a b k):ag Tryz.prog fZ [TH s,jV op a b k] H fun v H'=>ap (RR s S H (OJ t a k) v H'):=by
 have bL:=h.slt
 obtain⟨r1,r2,r3,r4⟩:=hr
 refine aU vl ?_
 refine vs ?_
 obtain⟨H0,e0,f0,b0,b1,b2,z0⟩:=TI H s [i64 op,u32 a,u32 b,i64 k]
 rw[e0]
 have hn:¬S (H.size+1+1):=fun h=>by have:=bL _ h;omega
 have h0:=h.ext f0 (fun _ _ h=>h)
 rw[wrap64 (by omega) (by omega)]
 unfold OJ
 by_cases hg:t.w.has a
 ·rw[if_neg (fun h=>h hg)]
  refine(G1 h0 hg OT hq).mono ?_
  rintro _ H1 (⟨hp,rfl,h1⟩| ⟨x,A',hp,rfl,h1⟩)
  ·rw[hp]
   have o1:=aH h1 b2 hn
   have x:=df f0 h1 hn (by omega)
   refine v1 o1 ?_
   simp(disch:=(first|omega| (simp only[Zs]<;>omega)|fail)) only[go_sem, ↓reduceIte,Zv,af o1,ae (af o1)]
   exact⟨rfl,(x.wr (by omega) _).out⟩
  ·rw[hp]
   have o1:=aH h1 b2 hn
   have x:=df f0 h1 hn (by omega)
   refine v1 o1 ?_
   simp(disch:=(first|omega| (simp only[Zs]<;>omega)|fail)) only[go_sem, ↓reduceIte,Zv,af o1,ae (af o1)]
   exact⟨rfl,(x.wr (by omega) _).out⟩
 ·rw[if_pos hg]
  refine(KM h0 hg k).mono ?_
  rintro _ H1 ⟨rfl,h1⟩
  have o1:=aH h1 b2 hn
  have x:=df f0 h1 hn (by omega)
  refine v1 o1 ?_
  simp(disch:=(first|omega| (simp only[Zs]<;>omega)|fail)) only[go_sem, ↓reduceIte,Zv,af o1,ae (af o1)]
  exact⟨rfl,(x.wr (by omega) _).out⟩
theorem Jg(h:nD H s S t.w t.A t.q)(op:Int){a b:Nat}{k:Int}(hr:jf a b k):ag Tryz.prog jv [TH s,jV op a b k] H fun v H'=>ap (RR s S H (t,nB t a) v H'):=by
 have bL:=h.slt
 obtain⟨r1,r2,r3,r4⟩:=hr
 refine aU Bp ?_
 refine vs ?_
 obtain⟨H0,e0,f0,b0,b1,b2,z0⟩:=TI H s [i64 op,u32 a,u32 b,i64 k]
 rw[e0]
 have hn:¬S (H.size+1+1):=fun h=>by have:=bL _ h;omega
 have h0:=h.ext f0 (fun _ _ h=>h)
 rw[wrap64 (by omega) (by omega)]
 by_cases hg:t.w.has a
 ·refine(Ef h0 hg).mono ?_
  rintro _ H1 (⟨hl,rfl,h1⟩| ⟨x,y,hf,hy,rfl,h1⟩)
  ·have em:nB t a=er 172:=by unfold nB;rw[if_neg (fun h=>h hg),OI hl]
   rw[em]
   have o1:=aH h1 b2 hn
   have x:=df f0 h1 hn (by omega)
   refine v1 o1 ?_
   simp(disch:=(first|omega| (simp only[Zs]<;>omega)|fail)) only[go_sem, ↓reduceIte,Zv,af o1,ae (af o1)]
   exact⟨rfl,(x.wr (by omega) _).out⟩
  ·have em:nB t a=⟨0,0,x,t.A.cB x,t.w.key x,0⟩:=by unfold nB;rw[if_neg (fun h=>h hg),OH hf]
   rw[em]
   obtain⟨y',nL,_,e2,_⟩:=h.RN.1.G2 (oN h.RN.1 hf)
   rw[hy]at nL
   injection nL with nL
   subst nL
   rw[e2]
   have o1:=aH h1 b2 hn
   have x:=df f0 h1 hn (by omega)
   refine v1 o1 ?_
   simp(disch:=(first|omega| (simp only[Zs]<;>omega)|fail)) only[go_sem, ↓reduceIte,Zv,af o1,ae (af o1)]
   exact⟨rfl,(x.wr (by omega) _).out⟩
 ·have em:nB t a=er 171:=by unfold nB;rw[if_pos hg]
  rw[em]
  refine(JN h0 hg).mono ?_
  rintro _ H1 ⟨rfl,h1⟩
  have o1:=aH h1 b2 hn
  have x:=df f0 h1 hn (by omega)
  refine v1 o1 ?_
  simp(disch:=(first|omega| (simp only[Zs]<;>omega)|fail)) only[go_sem, ↓reduceIte,Zv,af o1,ae (af o1)]
  exact⟨rfl,(x.wr (by omega) _).out⟩
theorem Cz(h:nD H s S t.w t.A t.q)(op:Int){a b:Nat}{k:Int}(hr:jf a b k):ag Tryz.prog fL [TH s,jV op a b k] H fun v H'=>ap (RR s S H (GW t a) v H'):=by
 have bL:=h.slt
 obtain⟨r1,r2,r3,r4⟩:=hr
 refine aU ud ?_
 refine vs ?_
 obtain⟨H0,e0,f0,b0,b1,b2,z0⟩:=TI H s [i64 op,u32 a,u32 b,i64 k]
 rw[e0]
 have hn:¬S (H.size+1+1):=fun h=>by have:=bL _ h;omega
 have h0:=h.ext f0 (fun _ _ h=>h)
 rw[wrap64 (by omega) (by omega)]
 by_cases hg:t.w.has a
 ·refine(Ad h0 hg).mono ?_
  rintro _ H1 (⟨hl,rfl,h1⟩| ⟨x,y,hf,hy,rfl,h1⟩)
  ·have em:nB t a=er 172:=by unfold nB;rw[if_neg (fun h=>h hg),OI hl]
   unfold GW;rw[em]
   have o1:=aH h1 b2 hn
   have x:=df f0 h1 hn (by omega)
   refine v1 o1 ?_
   simp(disch:=(first|omega| (simp only[Zs]<;>omega)|fail)) only[go_sem, ↓reduceIte,Zv,af o1,ae (af o1)]
   exact⟨rfl,(x.wr (by omega) _).out⟩
  ·have em:nB t a=⟨0,0,x,t.A.cB x,t.w.key x,0⟩:=by unfold nB;rw[if_neg (fun h=>h hg),OH hf]
   unfold GW;rw[em]
   obtain⟨y',nL,_,e2,_⟩:=h.RN.1.G2 (oN h.RN.1 hf)
   rw[hy]at nL
   injection nL with nL
   subst nL
   rw[e2]
   have o1:=aH h1 b2 hn
   have x:=df f0 h1 hn (by omega)
   refine v1 o1 ?_
   simp(disch:=(first|omega| (simp only[Zs]<;>omega)|fail)) only[go_sem, ↓reduceIte,Zv,af o1,ae (af o1)]
   exact⟨rfl,(x.wr (by omega) _).out⟩
 ·have em:nB t a=er 171:=by unfold nB;rw[if_pos hg]
  unfold GW;rw[em]
  refine(Dw h0 hg).mono ?_
  rintro _ H1 ⟨rfl,h1⟩
  have o1:=aH h1 b2 hn
  have x:=df f0 h1 hn (by omega)
  refine v1 o1 ?_
  simp(disch:=(first|omega| (simp only[Zs]<;>omega)|fail)) only[go_sem, ↓reduceIte,Zv,af o1,ae (af o1)]
  exact⟨rfl,(x.wr (by omega) _).out⟩
theorem Jh(h:nD H s S t.w t.A t.q)(op:Int){a b:Nat}{k:Int}(hr:jf a b k):ag Tryz.prog jw [TH s,jV op a b k] H fun v H'=>ap (RR s S H (t,SL t a b) v H'):=by
 have bL:=h.slt
 obtain⟨r1,r2,r3,r4⟩:=hr
 refine aU Br ?_
 refine vs ?_
 obtain⟨H0,e0,f0,b0,b1,b2,z0⟩:=TI H s [i64 op,u32 a,u32 b,i64 k]
 rw[e0]
 have hn:¬S (H.size+1+1):=fun h=>by have:=bL _ h;omega
 have h0:=h.ext f0 (fun _ _ h=>h)
 have uJ:¬S H.size:=fun h=>by have:=bL _ h;omega
 refine fV.intro (fun H'=>H'.own H.size=some [ptr s]) b0 ?_
 refine vs ?_
 refine dV.intro (ptr s) (fun H' hI=>by refine v1 (ae hI) ?_;trivial) ?_
 refine v1 (ae b1) ?_
 refine And.intro b0 ?_
 refine vs ?_
 refine(gL op a b k r1 H0).mono ?_
 rintro _ H9 ⟨rfl,f9⟩
 have c0:=f9.own b0 (fun h=>h)
 have c2:=f9.own b2 (fun h=>h)
 have z9:=f9.size
 have h9:=h0.ext f9 (fun _ _ h=>h)
 refine And.intro c0 ?_
 refine vs ?_
 refine(MQ h9 a b).mono ?_
 rintro _ H1 ⟨rfl,h1⟩
 unfold SL
 by_cases hx:t.A.Ls a b
 ·rw[if_pos hx,if_neg (fun h=>h hx)]
  have o1:=aH h1 c2 hn
  have d0:=aH h1 c0 uJ
  have x:=df (f0.trans f9) h1 hn (by omega)
  refine And.intro d0 ?_
  refine v1 o1 ?_
  refine And.intro d0 ?_
  simp(disch:=(first|omega| (simp only[Zs]<;>omega)|fail)) only[go_sem, ↓reduceIte,Zv,af o1]
  refine And.intro d0 ?_
  simp(disch:=(first|omega| (simp only[Zs]<;>omega)|fail)) only[go_sem, ↓reduceIte,Zv,af o1,ae (af o1)]
  exact⟨rfl,(x.wr (by omega) _).out⟩
 ·rw[if_neg hx,if_pos hx]
  have o1:=aH h1 c2 hn
  have d0:=aH h1 c0 uJ
  have x:=df (f0.trans f9) h1 hn (by omega)
  refine And.intro d0 ?_
  refine v1 o1 ?_
  refine And.intro d0 ?_
  simp(disch:=(first|omega| (simp only[Zs]<;>omega)|fail)) only[go_sem, ↓reduceIte,Zv,af o1]
  refine And.intro d0 ?_
  simp(disch:=(first|omega| (simp only[Zs]<;>omega)|fail)) only[go_sem, ↓reduceIte,Zv,af o1,ae (af o1)]
  exact⟨rfl,(x.wr (by omega) _).out⟩
theorem HE(h:nD H s S t.w t.A t.q)(op:Int){a b:Nat}{k:Int}(hr:jf a b k):ag Tryz.prog iG [TH s,jV op a b k] H fun v H'=>ap (RR s S H (t,SM t a b) v H'):=by
 have bL:=h.slt
 obtain⟨r1,r2,r3,r4⟩:=hr
 refine aU zu ?_
 refine vs ?_
 obtain⟨H0,e0,f0,b0,b1,b2,z0⟩:=TI H s [i64 op,u32 a,u32 b,i64 k]
 rw[e0]
 have hn:¬S (H.size+1+1):=fun h=>by have:=bL _ h;omega
 have h0:=h.ext f0 (fun _ _ h=>h)
 have uJ:¬S H.size:=fun h=>by have:=bL _ h;omega
 refine fV.intro (fun H'=>H'.own H.size=some [ptr s]) b0 ?_
 refine vs ?_
 refine dV.intro (ptr s) (fun H' hI=>by refine v1 (ae hI) ?_;trivial) ?_
 refine v1 (ae b1) ?_
 refine And.intro b0 ?_
 refine vs ?_
 refine(gL op a b k r1 H0).mono ?_
 rintro _ H9 ⟨rfl,f9⟩
 have c0:=f9.own b0 (fun h=>h)
 have c2:=f9.own b2 (fun h=>h)
 have z9:=f9.size
 have h9:=h0.ext f9 (fun _ _ h=>h)
 refine And.intro c0 ?_
 refine vs ?_
 refine(KL h9 a b).mono ?_
 rintro _ H1 ⟨rfl,h1⟩
 unfold SM
 by_cases hx:t.A.Ls a b
 ·rw[if_pos hx,if_neg (fun h=>h hx)]
  have o1:=aH h1 c2 hn
  have d0:=aH h1 c0 uJ
  have x:=df (f0.trans f9) h1 hn (by omega)
  refine And.intro d0 ?_
  refine v1 o1 ?_
  refine And.intro d0 ?_
  simp(disch:=(first|omega| (simp only[Zs]<;>omega)|fail)) only[go_sem, ↓reduceIte,Zv,af o1]
  refine And.intro d0 ?_
  simp(disch:=(first|omega| (simp only[Zs]<;>omega)|fail)) only[go_sem, ↓reduceIte,Zv,af o1,ae (af o1)]
  exact⟨rfl,(x.wr (by omega) _).out⟩
 ·rw[if_neg hx,if_pos hx]
  have o1:=aH h1 c2 hn
  have d0:=aH h1 c0 uJ
  have x:=df (f0.trans f9) h1 hn (by omega)
  refine And.intro d0 ?_
  refine v1 o1 ?_
  refine And.intro d0 ?_
  simp(disch:=(first|omega| (simp only[Zs]<;>omega)|fail)) only[go_sem, ↓reduceIte,Zv,af o1]
  refine And.intro d0 ?_
  simp(disch:=(first|omega| (simp only[Zs]<;>omega)|fail)) only[go_sem, ↓reduceIte,Zv,af o1,ae (af o1)]
  exact⟨rfl,(x.wr (by omega) _).out⟩
theorem DU(h:nD H s S t.w t.A t.q)(op:Int){a b:Nat}{k:Int}(hr:jf a b k):ag Tryz.prog gf [TH s,jV op a b k] H fun v H'=>ap (RR s S H (OL t a b) v H'):=by
 have bL:=h.slt
 obtain⟨r1,r2,r3,r4⟩:=hr
 refine aU vm ?_
 refine vs ?_
 obtain⟨H0,e0,f0,b0,b1,b2,z0⟩:=TI H s [i64 op,u32 a,u32 b,i64 k]
 rw[e0]
 have hn:¬S (H.size+1+1):=fun h=>by have:=bL _ h;omega
 have h0:=h.ext f0 (fun _ _ h=>h)
 have uJ:¬S H.size:=fun h=>by have:=bL _ h;omega
 refine fV.intro (fun H'=>H'.own H.size=some [ptr s]) b0 ?_
 refine vs ?_
 refine dV.intro (ptr s) (fun H' hI=>by refine v1 (ae hI) ?_;trivial) ?_
 refine v1 (ae b1) ?_
 refine And.intro b0 ?_
 refine vs ?_
 refine(gL op a b k r1 H0).mono ?_
 rintro _ H9 ⟨rfl,f9⟩
 have c0:=f9.own b0 (fun h=>h)
 have c2:=f9.own b2 (fun h=>h)
 have z9:=f9.size
 have h9:=h0.ext f9 (fun _ _ h=>h)
 refine And.intro c0 ?_
 refine vs ?_
 refine(G4 h9 a b).mono ?_
 unfold OL
 rintro _ H1 (⟨hx,rfl,h1⟩| ⟨hx,rfl,h1⟩)
 ·rw[if_pos hx]
  have o1:=aH h1 c2 hn
  have d0:=aH h1 c0 uJ
  have x:=df (f0.trans f9) h1 hn (by omega)
  refine And.intro d0 ?_
  refine v1 o1 ?_
  refine And.intro d0 ?_
  simp(disch:=(first|omega| (simp only[Zs]<;>omega)|fail)) only[go_sem, ↓reduceIte,Zv,af o1]
  refine And.intro d0 ?_
  simp(disch:=(first|omega| (simp only[Zs]<;>omega)|fail)) only[go_sem, ↓reduceIte,Zv,af o1,ae (af o1)]
  exact⟨rfl,(x.wr (by omega) _).out⟩
 ·rw[if_neg (fun h=>h hx)]
  have o1:=aH h1 c2 hn
  have d0:=aH h1 c0 uJ
  have x:=df (f0.trans f9) h1 hn (by omega)
  refine And.intro d0 ?_
  refine v1 o1 ?_
  refine And.intro d0 ?_
  simp(disch:=(first|omega| (simp only[Zs]<;>omega)|fail)) only[go_sem, ↓reduceIte,Zv,af o1]
  refine And.intro d0 ?_
  simp(disch:=(first|omega| (simp only[Zs]<;>omega)|fail)) only[go_sem, ↓reduceIte,Zv,af o1,ae (af o1)]
  exact⟨rfl,(x.wr (by omega) _).out⟩
theorem An(h:nD H s S t.w t.A t.q)(op:Int){a b:Nat}{k:Int}(hr:jf a b k):ag Tryz.prog fi [TH s,jV op a b k] H fun v H'=>ap (RR s S H (OK t a b k) v H'):=by
 have bL:=h.slt
 obtain⟨r1,r2,r3,r4⟩:=hr
 refine aU sA ?_
 refine vs ?_
 obtain⟨H0,e0,f0,b0,b1,b2,z0⟩:=TI H s [i64 op,u32 a,u32 b,i64 k]
 rw[e0]
 have hn:¬S (H.size+1+1):=fun h=>by have:=bL _ h;omega
 have h0:=h.ext f0 (fun _ _ h=>h)
 have uJ:¬S H.size:=fun h=>by have:=bL _ h;omega
 have oX:¬S (H.size+1):=fun h=>by have:=bL _ h;omega
 refine fV.intro (fun H'=>H'.own H.size=some [ptr s]∧H'.own (H.size+1)=some [i64 op,u32 a,u32 b,i64 k]) ⟨b0,b1⟩ ?_
 refine vs ?_
 refine dV.intro (ptr s) (fun H' hI=>by refine v1 (ae hI.1) ?_;trivial) ?_
 refine vs ?_
 refine dV.intro (i64 k) (fun H' hI=>by refine v1 (ae hI.2) ?_;trivial) ?_
 refine v1 (ae b1) ?_
 refine And.intro ⟨b0,b1⟩ ?_
 refine vs ?_
 refine(gL op a b k r1 H0).mono ?_
 rintro _ H9 ⟨rfl,f9⟩
 have c0:=f9.own b0 (fun h=>h)
 have c1:=f9.own b1 (fun h=>h)
 have c2:=f9.own b2 (fun h=>h)
 have z9:=f9.size
 have h9:=h0.ext f9 (fun _ _ h=>h)
 refine And.intro ⟨c0,c1⟩ ?_
 refine vs ?_
 unfold OK
 by_cases hx:t.A.Ls a b
 ·obtain⟨hl,rfl⟩:=id hx
  rw[if_neg (fun h=>h hx)]
  refine(ya h9 hl k).mono ?_
  rintro _ H1 ⟨y,hy,Ly⟩
  obtain⟨y',nL,e1,e2,e3⟩:=h.RN.1.G2 hl
  rw[hy]at nL
  injection nL with nL
  subst nL
  rw[e1,e2,e3]at Ly
  rcases Ly with ⟨hk,rfl,h1⟩| ⟨hk,rfl,h1⟩
  ·rw[if_pos hk]
   have o1:=aH h1 c2 hn
   have d0:=aH h1 c0 uJ
   have d1:=aH h1 c1 oX
   have x:=df (f0.trans f9) h1 hn (by omega)
   refine And.intro ⟨d0,d1⟩ ?_
   refine v1 o1 ?_
   refine And.intro ⟨d0,d1⟩ ?_
   simp(disch:=(first|omega| (simp only[Zs]<;>omega)|fail)) only[go_sem, ↓reduceIte,Zv,af o1,ae (af o1)]
   exact⟨rfl,(x.wr (by omega) _).out⟩
  ·rw[if_neg (by omega)]
   have o1:=aH h1 c2 hn
   have d0:=aH h1 c0 uJ
   have d1:=aH h1 c1 oX
   have x:=df (f0.trans f9) h1 hn (by omega)
   refine And.intro ⟨d0,d1⟩ ?_
   refine v1 o1 ?_
   refine And.intro ⟨d0,d1⟩ ?_
   simp(disch:=(first|omega| (simp only[Zs]<;>omega)|fail)) only[go_sem, ↓reduceIte,Zv,af o1,ae (af o1)]
   exact⟨rfl,(x.wr (by omega) _).out⟩
 ·rw[if_pos hx]
  refine(BY h9 hx k).mono ?_
  rintro _ H1 ⟨rfl,h1⟩
  have o1:=aH h1 c2 hn
  have d0:=aH h1 c0 uJ
  have d1:=aH h1 c1 oX
  have x:=df (f0.trans f9) h1 hn (by omega)
  refine And.intro ⟨d0,d1⟩ ?_
  refine v1 o1 ?_
  refine And.intro ⟨d0,d1⟩ ?_
  simp(disch:=(first|omega| (simp only[Zs]<;>omega)|fail)) only[go_sem, ↓reduceIte,Zv,af o1,ae (af o1)]
  exact⟨rfl,(x.wr (by omega) _).out⟩
theorem Ji(h:nD H s S t.w t.A t.q)(op:Int){a b:Nat}{k:Int}(hr:jf a b k):ag Tryz.prog ju [TH s,jV op a b k] H fun v H'=>ap (RR s S H (t,er 181) v H'):=by
 have bL:=h.slt
 obtain⟨r1,r2,r3,r4⟩:=hr
 refine aU Bo ?_
 refine vs ?_
 obtain⟨H0,e0,f0,b0,b1,b2,z0⟩:=TI H s [i64 op,u32 a,u32 b,i64 k]
 rw[e0]
 have hn:¬S (H.size+1+1):=fun h=>by have:=bL _ h;omega
 have h0:=h.ext f0 (fun _ _ h=>h)
 simp(disch:=(first|omega| (simp only[Zs]<;>omega)|fail)) only[go_sem, ↓reduceIte,Zv,ae (af b2)]
 exact⟨rfl,((df f0 (oM.same h0 (ah.refl _ _)) hn (by omega)).wr (by omega) _).out⟩
def tQ:List Value:=[ju,gS,fZ,jv,fL,fi,gf,iE,gg,jw,iG].map fun f=>.func (.func f) #[] #[]
theorem Fl(H:Hp):ag Tryz.prog Kp [] H fun v H'=>ap (v= .agg tQ.toArray∧ai H H'):=by
 refine aU Ky ?_
 refine vs ?_
 simp(disch:=(first|omega| (simp only[Zs]<;>omega)|fail)) only[go_sem, ↓reduceIte,Zv,ae (af (aA _ _ _))]
 exact⟨rfl,((ah.refl _ _).new _ _).then (Lg _ _ _) (fun z hz=>by omega)⟩
def Ao(op:Int):Nat:=if 0≤op∧op≤10 then op.toNat else 0
theorem VC(op:Int):Ao op≤10:=by unfold Ao;split<;>omega
theorem Rx(op:Int)(a b:Nat)(k:Int):ww op a b k=jV (Ao op) (Ei (Ao op) a) (Fj (Ao op) b) (HB (Ao op) k):=by
 unfold ww Ao
 split
 ·rename_i h
  rw[show((op.toNat:Nat):Int)=op by omega]
 ·rfl
noncomputable def M3(t:kY)(op:Int)(a b:Nat)(k:Int):kY×Rp:=SN t (Ao op) (Ei (Ao op) a) (Fj (Ao op) b) (HB (Ao op) k)
theorem TJ{a b:Nat}{k:Int}(hr:jf a b k)(i:Nat):jf (Ei i a) (Fj i b) (HB i k):=by
 obtain⟨h1,h2,h3,h4⟩:=hr
 constructor<;>(first|unfold Ei|unfold Fj|unfold HB)<;>split<;>omega
theorem Jj(h:nD H s S t.w t.A t.q)(hl:t.w.hs.length<65537)(OT:∀x:Int,0≤x→x<t.A.g.length→t.A.cB x<4294967295)(hq:0≤t.q∧t.q<18446744073709551615)(op:Int){a b:Nat}{k:Int}(hr:jf a b k):
  ag Tryz.prog NY [ptr s,jV op a b k] H fun v H'=>ap (RR s S H (M3 t op a b k) v H'):=by
 have bL:=h.slt
 refine aU Oc ?_
 refine vs ?_
 have f0:ai H ((H.new 52 [i64 op,u32 a,u32 b,i64 k]).new 31 Pb):=((ah.refl _ _).new _ _).new _ _
 have b0:((H.new 52 [i64 op,u32 a,u32 b,i64 k]).new 31 Pb).own H.size=some [i64 op,u32 a,u32 b,i64 k]:=by rw[bm (by simp only[ak];omega)];exact aA _ _ _
 have b1:((H.new 52 [i64 op,u32 a,u32 b,i64 k]).new 31 Pb).own (H.size+1)=some Pb:=aR (by simp only[ak])
 have uJ:¬S H.size:=fun h=>by have:=bL _ h;omega
 have oX:¬S (H.size+1):=fun h=>by have:=bL _ h;omega
 generalize (H.new 52 [i64 op,u32 a,u32 b,i64 k]).new 31 Pb=H0 at*
 refine(jW H0 op a b k).mono ?_
 rintro _ H1 ⟨rfl,f1⟩
 rw[Rx]
 unfold M3
 have hi:=VC op
 have hc:=TJ hr (Ao op)
 generalize Ao op=i at*
 generalize Ei i a=a' at*
 generalize Fj i b=b' at*
 generalize HB i k=k' at*
 have c0:=f1.own b0 (fun h=>h)
 have c1:=f1.own b1 (fun h=>h)
 refine v1 c0 ?_
 have e2:=Lg H1 H.size [i64 i,u32 a',u32 b',i64 k']
 have d0:(H1.wr H.size [i64 i,u32 a',u32 b',i64 k']).own H.size=some [i64 i,u32 a',u32 b',i64 k']:=af c0
 have d1:=e2.own c1 (by omega)
 have h2:=((h.ext f0 (fun _ _ h=>h)).ext f1 (fun _ _ h=>h)).ext e2 (fun z hz e=>uJ (by rw[←e];exact hz))
 have ft:ai H (H1.wr H.size [i64 i,u32 a',u32 b',i64 k']):=(f0.trans f1).then e2 (fun z hz=>by omega)
 generalize H1.wr H.size [i64 i,u32 a',u32 b',i64 k']=H2 at*
 refine fV.intro (fun H'=>H'.own H.size=some [i64 i,u32 a',u32 b',i64 k']) d0 ?_
 refine vs ?_
 refine dV.intro (i64 i) (fun H' hI=>by refine v1 (ae hI) ?_;trivial) ?_
 refine vs ?_
 refine dV.intro (jV i a' b' k') (fun H' hI=>by refine v1 (ae hI) ?_;exact⟨trivial,trivial⟩) ?_
 refine vs ?_
 refine(Fl H2).mono ?_
 rintro _ H3 ⟨rfl,f3⟩
 have g0:=f3.own d0 (fun h=>h)
 have g1:=f3.own d1 (fun h=>h)
 have h3:=h2.ext f3 (fun _ _ h=>h)
 have z1:=aE g1
 refine And.intro g0 ?_
 rcases ops i hi with rfl|rfl|rfl|rfl|rfl|rfl|rfl|rfl|rfl|rfl|rfl
 all_goals
  refine vs ?_
  refine⟨by omega,?_⟩
  refine vs ?_
 ·rw[show tQ[(((0:Nat):Int)).toNat*1]? =some (.func (.func ju) #[] #[])from rfl]
  refine vs ?_
  refine And.intro (by kernel_rfl) ?_
  refine(Ji h3 _ hc).mono ?_
  rintro _ H4 ⟨rfl,h4⟩
  have o4:=aH h4 g1 oX
  have q4:=aH h4 g0 uJ
  have x:=df (ft.trans f3) h4 oX z1
  refine And.intro q4 ?_
  refine v1 o4 ?_
  refine And.intro q4 ?_
  simp(disch:=(first|omega| (simp only[Zs]<;>omega)|fail)) only[go_sem, ↓reduceIte,Zv,ae (af o4)]
  exact⟨rfl,(x.wr (by omega) _).out⟩
 ·rw[show tQ[(((1:Nat):Int)).toNat*1]? =some (.func (.func gS) #[] #[])from rfl]
  refine vs ?_
  refine And.intro (by kernel_rfl) ?_
  refine(Fk h3 hl _ hc).mono ?_
  rintro _ H4 ⟨rfl,h4⟩
  have o4:=aH h4 g1 oX
  have q4:=aH h4 g0 uJ
  have x:=df (ft.trans f3) h4 oX z1
  refine And.intro q4 ?_
  refine v1 o4 ?_
  refine And.intro q4 ?_
  simp(disch:=(first|omega| (simp only[Zs]<;>omega)|fail)) only[go_sem, ↓reduceIte,Zv,ae (af o4)]
  exact⟨rfl,(x.wr (by omega) _).out⟩
 ·rw[show tQ[(((2:Nat):Int)).toNat*1]? =some (.func (.func fZ) #[] #[])from rfl]
  refine vs ?_
  refine And.intro (by kernel_rfl) ?_
  refine(DT h3 OT hq _ hc).mono ?_
  rintro _ H4 ⟨rfl,h4⟩
  have o4:=aH h4 g1 oX
  have q4:=aH h4 g0 uJ
  have x:=df (ft.trans f3) h4 oX z1
  refine And.intro q4 ?_
  refine v1 o4 ?_
  refine And.intro q4 ?_
  simp(disch:=(first|omega| (simp only[Zs]<;>omega)|fail)) only[go_sem, ↓reduceIte,Zv,ae (af o4)]
  exact⟨rfl,(x.wr (by omega) _).out⟩
 ·rw[show tQ[(((3:Nat):Int)).toNat*1]? =some (.func (.func jv) #[] #[])from rfl]
  refine vs ?_
  refine And.intro (by kernel_rfl) ?_
  refine(Jg h3 _ hc).mono ?_
  rintro _ H4 ⟨rfl,h4⟩
  have o4:=aH h4 g1 oX
  have q4:=aH h4 g0 uJ
  have x:=df (ft.trans f3) h4 oX z1
  refine And.intro q4 ?_
  refine v1 o4 ?_
  refine And.intro q4 ?_
  simp(disch:=(first|omega| (simp only[Zs]<;>omega)|fail)) only[go_sem, ↓reduceIte,Zv,ae (af o4)]
  exact⟨rfl,(x.wr (by omega) _).out⟩
 ·rw[show tQ[(((4:Nat):Int)).toNat*1]? =some (.func (.func fL) #[] #[])from rfl]
  refine vs ?_
  refine And.intro (by kernel_rfl) ?_
  refine(Cz h3 _ hc).mono ?_
  rintro _ H4 ⟨rfl,h4⟩
  have o4:=aH h4 g1 oX
  have q4:=aH h4 g0 uJ
  have x:=df (ft.trans f3) h4 oX z1
  refine And.intro q4 ?_
  refine v1 o4 ?_
  refine And.intro q4 ?_
  simp(disch:=(first|omega| (simp only[Zs]<;>omega)|fail)) only[go_sem, ↓reduceIte,Zv,ae (af o4)]
  exact⟨rfl,(x.wr (by omega) _).out⟩
 ·rw[show tQ[(((5:Nat):Int)).toNat*1]? =some (.func (.func fi) #[] #[])from rfl]
  refine vs ?_
  refine And.intro (by kernel_rfl) ?_
  refine(An h3 _ hc).mono ?_
  rintro _ H4 ⟨rfl,h4⟩
  have o4:=aH h4 g1 oX
  have q4:=aH h4 g0 uJ
  have x:=df (ft.trans f3) h4 oX z1
  refine And.intro q4 ?_
  refine v1 o4 ?_
  refine And.intro q4 ?_
  simp(disch:=(first|omega| (simp only[Zs]<;>omega)|fail)) only[go_sem, ↓reduceIte,Zv,ae (af o4)]
  exact⟨rfl,(x.wr (by omega) _).out⟩
 ·rw[show tQ[(((6:Nat):Int)).toNat*1]? =some (.func (.func gf) #[] #[])from rfl]
  refine vs ?_
  refine And.intro (by kernel_rfl) ?_
  refine(DU h3 _ hc).mono ?_
  rintro _ H4 ⟨rfl,h4⟩
  have o4:=aH h4 g1 oX
  have q4:=aH h4 g0 uJ
  have x:=df (ft.trans f3) h4 oX z1
  refine And.intro q4 ?_
  refine v1 o4 ?_
  refine And.intro q4 ?_
  simp(disch:=(first|omega| (simp only[Zs]<;>omega)|fail)) only[go_sem, ↓reduceIte,Zv,ae (af o4)]
  exact⟨rfl,(x.wr (by omega) _).out⟩
 ·rw[show tQ[(((7:Nat):Int)).toNat*1]? =some (.func (.func iE) #[] #[])from rfl]
  refine vs ?_
  refine And.intro (by kernel_rfl) ?_
  refine(HD h3 _ hc).mono ?_
  rintro _ H4 ⟨rfl,h4⟩
  have o4:=aH h4 g1 oX
  have q4:=aH h4 g0 uJ
  have x:=df (ft.trans f3) h4 oX z1
  refine And.intro q4 ?_
  refine v1 o4 ?_
  refine And.intro q4 ?_
  simp(disch:=(first|omega| (simp only[Zs]<;>omega)|fail)) only[go_sem, ↓reduceIte,Zv,ae (af o4)]
  exact⟨rfl,(x.wr (by omega) _).out⟩
 ·rw[show tQ[(((8:Nat):Int)).toNat*1]? =some (.func (.func gg) #[] #[])from rfl]
  refine vs ?_
  refine And.intro (by kernel_rfl) ?_
  refine(DS h3 _ hc).mono ?_
  rintro _ H4 ⟨rfl,h4⟩
  have o4:=aH h4 g1 oX
  have q4:=aH h4 g0 uJ
  have x:=df (ft.trans f3) h4 oX z1
  refine And.intro q4 ?_
  refine v1 o4 ?_
  refine And.intro q4 ?_
  simp(disch:=(first|omega| (simp only[Zs]<;>omega)|fail)) only[go_sem, ↓reduceIte,Zv,ae (af o4)]
  exact⟨rfl,(x.wr (by omega) _).out⟩
 ·rw[show tQ[(((9:Nat):Int)).toNat*1]? =some (.func (.func jw) #[] #[])from rfl]
  refine vs ?_
  refine And.intro (by kernel_rfl) ?_
  refine(Jh h3 _ hc).mono ?_
  rintro _ H4 ⟨rfl,h4⟩
  have o4:=aH h4 g1 oX
  have q4:=aH h4 g0 uJ
  have x:=df (ft.trans f3) h4 oX z1
  refine And.intro q4 ?_
  refine v1 o4 ?_
  refine And.intro q4 ?_
  simp(disch:=(first|omega| (simp only[Zs]<;>omega)|fail)) only[go_sem, ↓reduceIte,Zv,ae (af o4)]
  exact⟨rfl,(x.wr (by omega) _).out⟩
 ·rw[show tQ[(((10:Nat):Int)).toNat*1]? =some (.func (.func iG) #[] #[])from rfl]
  refine vs ?_
  refine And.intro (by kernel_rfl) ?_
  refine(HE h3 _ hc).mono ?_
  rintro _ H4 ⟨rfl,h4⟩
  have o4:=aH h4 g1 oX
  have q4:=aH h4 g0 uJ
  have x:=df (ft.trans f3) h4 oX z1
  refine And.intro q4 ?_
  refine v1 o4 ?_
  refine And.intro q4 ?_
  simp(disch:=(first|omega| (simp only[Zs]<;>omega)|fail)) only[go_sem, ↓reduceIte,Zv,ae (af o4)]
  exact⟨rfl,(x.wr (by omega) _).out⟩
end
end Go.Proofs.YtjkkkibiegfecaaGreatDoor

namespace Go.Proofs.YtjkkkibiegfecaaGreatDoor
open Go Go.Vc
theorem CA{H:Hp}{v:Value}{fp:Option Nat}(c:UInt8)(ws:List (List UInt8))(h:Sl H 1 v ws.length (ws.map aW) fp)(hl:(Lib.join ws [c]).length≤1000000)(hn:ws.length≤1000000):
  ag Tryz.prog 107 [v,aW [c]] H fun v H'=>ap (v=aW (Lib.join ws [c])∧ai H H'):=fun w hw=>by
 obtain⟨h1,h2⟩:=h
 cases fp with
 |none=>
  obtain⟨h3,rfl⟩:=h2
  have:ws=[]:=aoI.1 h3
  subst this
  refine(Tryz.strings_Join_none none 0 ⟨[c].toArray⟩ w).mono ?_
  rintro e w' ⟨rfl,rfl⟩
  exact⟨_,rfl,⟨rfl,rfl⟩,rfl,by rw[←hw];exact ah.refl _ _⟩
 |some b=>
  obtain⟨l,cp,rfl,h3,h4,h5,h6⟩:=h2
  have li:=ae h3
  have hm:(ws.map fun x=>(⟨x.toArray⟩:ByteArray)).map (·.data.toList)=ws:=by
   rw[List.map_map]
   exact(ao9 fun x _=>rfl).trans (List.map_id ws)
  have Pd:∀ (j:Nat) (x:ByteArray),(ws.map fun x=>(⟨x.toArray⟩:ByteArray))[j]? =some x→w.cell? ⟨b,0+j,none⟩=some (.string x):=fun j x hx=>by
   rw[oC rfl (by rw[hw];exact li),aoi]
   rw[aoF]at hx
   cases hj:ws[j]? with
   |none=>rw[hj]at hx;cases hx
   |some y=>
    rw[hj]at hx
    injection hx with hx
    subst hx
    have h7:(ws.map aW)[j]? =some (aW y):=by rw[aoF,hj];rfl
    rw[←h6,aoZ]at h7
    split at h7
    ·exact h7
    ·cases h7
  have key:=Tryz.strings_Join b 0 cp (ws.map fun x=>(⟨x.toArray⟩:ByteArray)) ⟨[c].toArray⟩ w Pd (by rw[hw];exact aE h3) (by rw[aoJ];omega) (by rw[aoJ];omega) (by rw[hm];show(Lib.join ws [c]).length≤_;omega)
  rw[aoJ,hm]at key
  refine key.mono ?_
  rintro e w' ⟨rfl,hb⟩
  obtain⟨s1,s2⟩:=tg hb
  exact⟨_,rfl,s1,rfl,by rw[←hw];exact s2⟩
theorem Ry{op a b:Nat}{k:Int}(h:op≤10)(hr:jf a b k):∀w∈ee op a b k,w.length≤50:=by
 have la:=fI (u:=a) (by have:=hr.la;omega)
 have lb:=fI (u:=b) (by have:=hr.lb;omega)
 have lk:=ez hr.k0 hr.k1
 have lw:(da op).length≤8:=by rcases ops op h with rfl|rfl|rfl|rfl|rfl|rfl|rfl|rfl|rfl|rfl|rfl<;>simp[da]
 intro w hw
 unfold ee at hw
 rcases aoR.1 hw with rfl|hw
 ·omega
 rcases aoD.1 hw with hw|hw
 ·split at hw
  ·rw[aoB]at hw;subst hw;rw[aos,aop];omega
  split at hw
  ·rcases aoR.1 hw with rfl|hw
   ·omega
   ·rw[aoB]at hw;subst hw;omega
  split at hw
  ·rw[aoB]at hw;subst hw;omega
  ·cases hw
 ·split at hw
  ·rw[aoB]at hw;subst hw;omega
  ·cases hw
theorem M4{j:Nat}(h:j≤10)(ws:List (List UInt8)):dP j (Ei j (CB ws)) (Fj j (DV j ws)) (HB j (Fm j ws)):=by
 have ha:CB ws<4294967296:=by
  unfold CB
  split
  ·exact HF _
  ·omega
 have hb:DV j ws<4294967296:=by
  unfold DV
  split
  ·exact HF _
  ·split
   ·exact HF _
   ·omega
 have hk: -9223372036854775808≤Fm j ws∧Fm j ws≤9223372036854775807:=by
  unfold Fm
  split
  ·exact TK _
  ·omega
 unfold Ei Fj HB
 refine⟨h,?_,?_,?_,?_,fun e=>by rw[e];rfl,fun e=>by rw[e];rfl,fun e=>by rw[e];rfl⟩<;>split<;>omega
theorem Lh{op a b:Nat}{k:Int}(h:dP op a b k):ti op a b k=true:=by
 unfold ti
 rw[Int.toNat_natCast]
 have:=h.le
 refine aov ⟨by omega,by omega,?_,?_,?_⟩
 ·unfold Ei
  split
  ·rfl
  ·rename_i hc
   exact(h.na (by simpa using hc)).symm
 ·unfold Fj
  split
  ·rfl
  ·rename_i hc
   exact(h.nb (by simpa using hc)).symm
 ·unfold HB
  split
  ·rfl
  ·rename_i hc
   exact(h.nk (by simpa using hc)).symm
theorem VD{op:Int}{a b:Nat}{k:Int}(hr:jf a b k)(h:ti op a b k=true):∃i:Nat,op=i∧dP i a b k:=by
 obtain⟨g1,g2,g3,g4,g5⟩:=of_decide_eq_true h
 obtain⟨i,rfl⟩:∃i:Nat,op=i:=⟨op.toNat,by omega⟩
 rw[Int.toNat_natCast]at g3 g4 g5
 refine⟨i,rfl,by omega,hr.la,hr.lb,hr.k0,hr.k1,fun e=>?_,fun e=>?_,fun e=>?_⟩
 ·rw[←g3];unfold Ei;rw[e];rfl
 ·rw[←g4];unfold Fj;rw[e];rfl
 ·rw[←g5];unfold HB;rw[e];rfl
theorem DW{H:Hp}(he:yk H){op:Int}{a b:Nat}{k:Int}(hr:jf a b k):ag Tryz.prog Il [jV op a b k] H fun v H'=>ap (v=aW (if ti op a b k then fU op.toNat a b k else[])∧ai H H'):=by
 refine Fz IA ⟨rfl,?_⟩
 have f0:ai H (H.new 52 [i64 op,u32 a,u32 b,i64 k]):=(ah.refl _ _).new _ _
 have b1:=aA H 52 [i64 op,u32 a,u32 b,i64 k]
 refine v1 yq.eq_1 ?_
 generalize H.new 52 [i64 op,u32 a,u32 b,i64 k]=H0 at*
 refine(Cy H0 op a b k).mono ?_
 rintro _ Ha ⟨rfl,fa⟩
 have ba:=fa.own b1 (fun h=>h)
 cases hr0:ti op a b k
 ·refine v1 apz ?_
  exact⟨rfl,f0.trans fa⟩
 have FI:=of_decide_eq_true hr0
 obtain⟨g1,g2,g3,g4,g5⟩:=FI
 obtain⟨i,rfl⟩:∃i:Nat,op=i:=⟨op.toNat,by omega⟩
 have hi:i≤10:=by omega
 refine v1 apD ?_
 refine iD (fun e H'=>e.find 1=some (ptr H.size)∧∃x,e.find 3=some (ptr x)∧Ha.size≤x∧ai Ha H'∧H'.own x=some (nH i)) ?_ ?_
 ·refine fV.intro (fun H'=>H'.own H.size=some [i64 i,u32 a,u32 b,i64 k]) ba ?_
  refine vs ?_
  refine dV.intro (i64 i) (fun H' hI=>?_) ?_
  ·refine v1 (ae hI) ?_
   exact⟨trivial,trivial⟩
  refine vs ?_
  have Mz:H.size<Ha.size:=aE ba
  have p1:=aA Ha 116 bR
  have q1:ai Ha (Ha.new 116 bR):=(ah.refl _ _).new _ _
  have i1:=q1.own ba (fun h=>h)
  have z1:(Ha.new 116 bR).size=Ha.size+1:=by rw[ak]
  refine Fy.intro ?_ ?_
  ·refine vs ?_
   refine(eD Ha).mono ?_
   rintro _ _ ⟨rfl,rfl⟩
   refine And.intro i1 ?_
   refine vs ?_
   generalize Ha.new 116 bR=H1 at*
   refine⟨⟨by omega,by omega⟩,?_⟩
   have p2:=aA H1 116 [.string ⟨#[]⟩,i64 0,.bool false,.bool false]
   have q2:ai H1 (H1.new 116 [.string ⟨#[]⟩,i64 0,.bool false,.bool false]):=(ah.refl _ _).new _ _
   have i2:=q2.own i1 (fun h=>h)
   have p12:=q2.own p1 (fun h=>h)
   have fin:∀l',l'=[aW (da i),i64 (cC i),.bool (bS i),.bool (keyOf i)]→((H1.new 116 [.string ⟨#[]⟩,i64 0,.bool false,.bool false]).wr H1.size l').own H.size=some [i64 i,u32 a,u32 b,i64 k]∧ai Ha ((H1.new 116 [.string ⟨#[]⟩,i64 0,.bool false,.bool false]).wr H1.size l')∧((H1.new 116 [.string ⟨#[]⟩,i64 0,.bool false,.bool false]).wr H1.size l').own H1.size=some (nH i):=fun l' e=>by
    subst e
    refine⟨by rw[fH (by omega)];exact i2,(q1.trans q2).then ((ah.refl (fun z=>z=H1.size) _).wr (fun _=>rfl) _) (fun z hz=>by omega),af p2⟩
   refine Fy.intro ?_ ?_
   ·refine v4 (ae p1) Int.toNat_natCast aoi (fT hi) ?_
    refine⟨by rw[oV];omega,i1,?_⟩
    refine vs ?_
    refine And.intro (by first|exact i1|exact i2) ?_
    refine v2 (fT hi) p2 ?_
    obtain⟨g1,g2,g3⟩:=fin _ rfl
    refine And.intro (by first|exact g1|exact i2|exact i1) ?_
    refine vs ?_
    exact⟨trivial,_,rfl,by omega,g2,g3⟩
   ·refine vs ?_
    refine And.intro (by first|exact i1|exact i2) ?_
    refine v4 (ae p12) Int.toNat_natCast aoi (fT hi) ?_
    refine⟨by rw[oV];omega,(by first|exact i1|exact i2),?_⟩
    refine v2 (fT hi) p2 ?_
    obtain⟨g1,g2,g3⟩:=fin _ rfl
    refine And.intro (by first|exact g1|exact i2|exact i1) ?_
    refine vs ?_
    exact⟨trivial,_,rfl,by omega,g2,g3⟩
  ·have p3:=aA Ha 116 [.string ⟨#[]⟩,i64 0,.bool false,.bool false]
   have q3:ai Ha (Ha.new 116 [.string ⟨#[]⟩,i64 0,.bool false,.bool false]):=(ah.refl _ _).new _ _
   have i3:=q3.own ba (fun h=>h)
   have z3:(Ha.new 116 [.string ⟨#[]⟩,i64 0,.bool false,.bool false]).size=Ha.size+1:=by rw[ak]
   refine vs ?_
   refine And.intro (by first|exact ba|exact i3) ?_
   refine vs ?_
   generalize Ha.new 116 [.string ⟨#[]⟩,i64 0,.bool false,.bool false]=H1 at*
   refine(eD H1).mono ?_
   rintro _ _ ⟨rfl,rfl⟩
   have p4:=aA H1 116 bR
   have q4:ai H1 (H1.new 116 bR):=(ah.refl _ _).new _ _
   have i4:=q4.own i3 (fun h=>h)
   have p34:=q4.own p3 (fun h=>h)
   refine And.intro i4 ?_
   refine vs ?_
   generalize H1.new 116 bR=H2 at*
   refine⟨⟨by omega,by omega⟩,?_⟩
   refine v4 (ae p4) Int.toNat_natCast aoi (fT hi) ?_
   refine⟨by rw[oV];omega,i4,?_⟩
   refine v2 (fT hi) p34 ?_
   refine And.intro (by first|exact i4| (rw[fH (by omega)];exact i4)) ?_
   refine vs ?_
   exact⟨trivial,_,rfl,by omega,(q3.trans q4).then ((ah.refl (fun z=>z=Ha.size) _).wr (fun _=>rfl) _) (fun z hz=>by omega),af p34⟩
 rintro e H1 ⟨e1,x,e3,hx,f1,o1⟩
 have o2:=f1.own ba (fun h=>h)
 have FI:nH i=[aW (da i),i64 (cC i),.bool (bS i),.bool (keyOf i)]:=rfl
 rw[FI]at o1
 have eh1:=((he.fresh f0).fresh fa).fresh f1
 refine iD (fun e H'=>e.find 1=some (ptr H.size)∧e.find 3=some (ptr x)∧e.find 4=some (aW (Lib.decDigits a))∧e.find 5=some (aW (Lib.decDigits b))∧ai H1 H') ?_ ?_
 ·refine fV.intro (fun H'=>H'.own H.size=some [i64 i,u32 a,u32 b,i64 k]) o2 ?_
  refine v1 e1 ?_
  refine dV.intro (u32 a) (fun H' hI=>?_) ?_
  ·refine v2 (ae hI) e1 ?_
   exact⟨trivial,trivial⟩
  have wa:IntKind.i64.wrap (a:Int)=a:=wrap64 (by have:=hr.la;omega) (by have:=hr.la;omega)
  have wb:IntKind.i64.wrap (b:Int)=b:=wrap64 (by have:=hr.lb;omega) (by have:=hr.lb;omega)
  refine v1 e1 ?_
  refine dV.intro (u32 b) (fun H' hI=>?_) ?_
  ·refine v2 (ae hI) e1 ?_
   exact⟨trivial,trivial⟩
  refine v3 e1 wa wb ?_
  refine(bA eh1.wP (n:=(a:Int)) (by omega) (by have:=hr.la;omega)).mono ?_
  rintro _ H2 ⟨rfl,f2⟩
  refine And.intro (f2.own o2 (fun h=>h)) ?_
  refine v3 Lib.itoa_nonneg wa wb ?_
  refine(bA (eh1.fresh f2).wP (n:=(b:Int)) (by omega) (by have:=hr.lb;omega)).mono ?_
  rintro _ H3 ⟨rfl,f3⟩
  refine And.intro ((f2.trans f3).own o2 (fun h=>h)) ?_
  refine v3 Lib.itoa_nonneg e1 e3 ?_
  exact⟨trivial,trivial,trivial,trivial,f2.trans f3⟩
 rintro e H2 ⟨v1,v3,v4,v5,f2⟩
 have o3:=f2.own o1 (fun h=>h)
 simp(disch:=(first|omega| (simp only[Zs]<;>omega)|fail)) only[go_sem, ↓reduceIte,Zv,v1,v3,v4,v5,ae o3]
 have la:=fI (u:=a) (by have:=hr.la;omega)
 have lb:=fI (u:=b) (by have:=hr.lb;omega)
 have lk:=ez hr.k0 hr.k1
 have sl0:Sl (H2.new 9 [aW (da i)]) 1 (.slice (some ⟨H2.size,0,none⟩) 1 1) 1 ([da i].map aW) (some H2.size):=Sl.dM (size:=1) (n:=1) (xs:=[aW (da i)]) rfl rfl
 have f3:ai H2 (H2.new 9 [aW (da i)]):=(ah.refl _ _).new _ _
 have jH:(H2.new 9 [aW (da i)]).size=H2.size+1:=by rw[ak]
 generalize H2.new 9 [aW (da i)]=H3 at*
 have o4:=f3.own o3 (fun h=>h)
 have acl:∀ws:List (List UInt8),fK (ws.map aW):=fun ws v hv=>by
  obtain⟨x,_,rfl⟩:=apj.1 hv
  rfl
 refine iD (fun e H'=>e.find 1=some (ptr H.size)∧e.find 3=some (ptr x)∧∃v n ws fp,e.find 6=some v∧n=ws.length∧Sl H' 1 v n (ws.map aW) fp∧(∀b,fp=some b→H2.size≤b)∧ws=da i::(if bS i then[Lib.decDigits a++46::Lib.decDigits b]else if cC i=2 then[Lib.decDigits a,Lib.decDigits b]else if cC i=1 then[Lib.decDigits a]else[])∧ai H2 H') ?_ ?_
 ·simp(disch:=(first|omega| (simp only[Zs]<;>omega)|fail)) only[go_sem, ↓reduceIte,Zv,ae o4]
  have more:∀ (ys:List (List UInt8)) (n:Nat),ys.length=n→n≤2→∀ {K:Value→Hp→Prop},(∀v' H' di,Sl H' 1 v' (1+n) (([da i]++ys).map aW) di→(∀b,di=some b→H2.size≤b)→ai H2 H'→K v' H')→
    gH 9 1 16 [.string ⟨#[]⟩] (.slice (some ⟨H2.size,0,none⟩) 1 1) (.slice (some ⟨H3.size,0,none⟩) n n) (H3.new 9 (ys.map aW)) K:=fun ys n hy hn K hK=>by
   have f4:ai H3 (H3.new 9 (ys.map aW)):=(ah.refl _ _).new _ _
   refine Sl.append (sl0.ext f4 (fun _ _ h=>h)) (Sl.dM (size:=1) (n:=n) (xs:=ys.map aW) (by simp[hy]) rfl).rd rfl (acl ys) (by omega) ?_
   intro v' H' di s5 e5 jg
   refine hK v' H' di (by rw[ape];exact s5) ?_ ?_
   ·rintro c rfl
    rcases jg with jg| ⟨c',jg,AA,yO⟩
    ·injection jg with jg;omega
    ·injection jg with jg;have:=ak H3 9 (ys.map aW);omega
   ·exact(f3.trans f4).then e5 (fun z (hz:some H2.size=some z)=>by injection hz with hz;omega)
  cases hh:bS i<;>rw[hh]at o4<;>simp(disch:=(first|omega| (simp only[Zs]<;>omega)|fail)) only[go_sem, ↓reduceIte,Zv,ae o4]
  ·refine ar.dec (fun h2=>?_) (fun h2=>?_)<;>simp(disch:=(first|omega| (simp only[Zs]<;>omega)|fail)) only[go_sem, ↓reduceIte,Zv,ae o4]
   ·refine more [Lib.decDigits a,Lib.decDigits b] 2 rfl (by omega) fun v' H' di s5 jg f5=>?_
    refine vs ?_
    exact⟨trivial,trivial,_,_,_,di,rfl,rfl,s5,jg,by rw[if_neg (by simp),if_pos (by omega)];rfl,f5⟩
   refine ar.dec (fun h1=>?_) (fun h1=>?_)<;>simp(disch:=(first|omega| (simp only[Zs]<;>omega)|fail)) only[go_sem, ↓reduceIte,Zv,ae o4]
   ·refine more [Lib.decDigits a] 1 rfl (by omega) fun v' H' di s5 jg f5=>?_
    refine vs ?_
    exact⟨trivial,trivial,_,_,_,di,rfl,rfl,s5,jg,by rw[if_neg (by simp),if_neg (by omega),if_pos (by omega)];rfl,f5⟩
   ·exact⟨trivial,trivial,_,_,_,some H2.size,rfl,rfl,sl0,fun b h=>by injection h with h;omega,by rw[if_neg (by simp),if_neg (by omega),if_neg (by omega)],f3⟩
  ·rw[gU _ [46] (by simp only[aoV];omega)]
   refine vs ?_
   rw[gU (Lib.decDigits a++[46]) _ (by simp only[aos,aoV];omega)]
   refine vs ?_
   refine more [Lib.decDigits a++[46]++Lib.decDigits b] 1 rfl (by omega) fun v' H' di s5 jg f5=>?_
   refine vs ?_
   exact⟨trivial,trivial,_,_,_,di,rfl,rfl,s5,jg,by simp,f5⟩
 rintro e H4 ⟨w1,w3,v,n,ws,fp,w6,rfl,sl4,jg,ZM,f4⟩
 have o5:=f4.own o3 (fun h=>h)
 have ZV:=eh1.fresh f2
 refine iD (fun e H'=>∃v n ws fp,e.find 6=some v∧n=ws.length∧Sl H' 1 v n (ws.map aW) fp∧ws=ee i a b k∧ai H2 H') ?_ ?_
 ·simp(disch:=(first|omega| (simp only[Zs]<;>omega)|fail)) only[go_sem, ↓reduceIte,Zv,w1,w3,w6,ae o5]
  have o6:=(f1.trans (f2.trans f4)).own ba (fun h=>h)
  cases hh:keyOf i<;>rw[hh]at o5<;>simp(disch:=(first|omega| (simp only[Zs]<;>omega)|fail)) only[go_sem, ↓reduceIte,Zv,w1,w3,w6,ae o6]
  ·refine⟨v,_,ws,fp,rfl,rfl,sl4,?_,f4⟩
   unfold ee
   rw[ZM,if_neg (c:=keyOf i=true) (by rw[hh];simp),aoO]
  ·refine(bA (ZV.fresh f4).wP hr.k0 hr.k1).mono ?_
   rintro _ H5 ⟨rfl,f5⟩
   have bu:ws.length≤3:=by rw[ZM];split<;>(try split)<;>(try split)<;>simp
   have f6:ai H5 (H5.new 9 [aW (Lib.itoa k)]):=(ah.refl _ _).new _ _
   refine vs ?_
   refine Sl.append ((sl4.ext f5 (fun _ _ h=>h)).ext f6 (fun _ _ h=>h)) (Sl.dM (size:=1) (n:=1) (xs:=[aW (Lib.itoa k)]) rfl rfl).rd rfl (acl [Lib.itoa k]) (by omega) ?_
   intro v' H' di s7 e7 mC
   refine vs ?_
   refine⟨v',ws.length+1,ws++[Lib.itoa k],di,rfl,by simp,by rw[ape];exact s7,?_,?_⟩
   ·unfold ee
    rw[ZM,if_pos (c:=keyOf i=true) hh]
    rfl
   ·exact(f4.trans (f5.trans f6)).then e7 (fun z hz=>jg z hz)
 rintro e H5 ⟨v',n,ws',di,u6,rfl,sl5,rfl,f5⟩
 simp(disch:=(first|omega| (simp only[Zs]<;>omega)|fail)) only[go_sem, ↓reduceIte,Zv,u6]
 have bu:(ee i a b k).length≤4:=by unfold ee;rw[aop,aos];(split<;>(try split)<;>(try split))<;>cases keyOf i<;>simp
 refine(CA 32 _ sl5 ?_ (by omega)).mono ?_
 ·have:=join_le 32 (ee i a b k) 50 (Ry hi hr)
  have h8:(ee i a b k).length*51≤4*51:=apl _ bu
  omega
 rintro _ H6 ⟨rfl,f6⟩
 refine vs ?_
 refine⟨?_,f0.trans (fa.trans (f1.trans (f2.trans (f5.trans f6))))⟩
 rw[if_pos rfl]
 rfl
def Nr(kd dd:Int)(mo:Nat):Int:=if PR kd dd≠0 then PR kd dd else if mo=0 then 31 else 0
theorem Fo(H:Hp){n:Int}(hn:0≤n∧n≤65536):ag Tryz.prog D6 [i64 n,.int .u32 ((0:Nat):Int)] H fun v H'=>ap (v= .tuple [.pointer none,i64 31].toArray∧ai H H'):=by
 refine aU D7 ?_
 refine vs ?_
 refine ar.dec (fun g=>absurd g (by omega)) (fun _=>?_)
 refine vs ?_
 refine ar.dec (fun g=>absurd g (by omega)) (fun _=>?_)
 refine vs ?_
 refine ar.dec (fun _=>?_) (fun g=>absurd rfl g)
 refine vs ?_
 exact⟨rfl,ah.refl _ _⟩
theorem Jk{kd dd cap:Int}{mo:Nat}(hc:0≤cap∧cap≤65536)(he:Nr kd dd mo≠0)(H:Hp):ag Tryz.prog Jx [IQ kd dd,i64 cap,.int .u32 (mo:Int)] H fun v H'=>ap (v= .tuple [.pointer none,i64 (Nr kd dd mo)].toArray∧ai H H'):=by
 refine aU Jz ?_
 refine vs ?_
 have f0:ai H (H.new 23 [i64 kd,i64 dd]):=(ah.refl _ _).new _ _
 generalize H.new 23 [i64 kd,i64 dd]=H0 at*
 refine(oO kd dd H0).mono ?_
 rintro _ H1 ⟨rfl,f1⟩
 unfold Nr at he ⊢
 by_cases hk:PR kd dd=0
 ·rw[if_neg (fun h=>h hk)]at he ⊢
  rw[hk]
  have hm:mo=0:=by
   apply aoA
   intro h
   rw[if_neg h]at he
   exact he rfl
  subst hm
  refine vs ?_
  refine ar.dec (fun _=>?_) (fun hh=>absurd trivial hh)
  refine vs ?_
  refine(Fo H1 hc).mono ?_
  rintro _ H2 ⟨rfl,f2⟩
  refine vs ?_
  refine ar.dec (fun g=>absurd g (by decide)) (fun _=>?_)
  refine vs ?_
  exact⟨rfl,(f0.trans f1).trans f2⟩
 ·rw[if_pos hk]
  refine vs ?_
  refine ar.dec (fun g=>absurd g hk) (fun _=>?_)
  refine vs ?_
  exact⟨rfl,f0.trans f1⟩
theorem bd0(cap:Int)(mo:Nat):Bd ⟨yd cap,PZ cap mo,0⟩ 0:=by
 refine⟨Nat.one_pos,aox _,fun x=>?_,Int.le_refl _,Int.le_refl _⟩
 unfold Ar.cB PZ
 simp only[aon,List.getElem?_replicate]
 split<;>simp
def splitN:List UInt8→List (List UInt8)
 | []=>[[]]
 |c::r=>if c=10 then[]::splitN r else match splitN r with
  | []=>[[c]]
  |x::xs=>(c::x)::xs
theorem nM(l:List UInt8):splitN l≠[]:=by
 cases l with
 |nil=>simp[splitN]
 |cons c r=>unfold splitN;split<;>(try split)<;>simp
open Go.Lib in
theorem Ap(sep:List UInt8)(sv k:Nat)(s:List UInt8):splitK sep sv (k+1) s=if index s sep== -1 then[s]else s.take ((index s sep).toNat+sv)::splitK sep sv k (s.drop ((index s sep).toNat+sep.length)):=rfl
open Go.Lib in
theorem TL(l:List UInt8):splitK [10] 0 (count l [10]) l=splitN l:=by
 induction l with
 |nil=>rfl
 |cons c r ih=>
  unfold splitN
  by_cases hc:c=10
  ·subst hc
   rw[if_pos rfl,count_cons_eq,Nat.add_comm,←ih]
   rw[Ap,show index (10::r) [10]=0 from rfl]
   rfl
  ·rw[if_neg hc,count_cons_ne c 10 r hc,←ih]
   have e1:index (c::r) [10]=if index r [10]== -1 then -1 else index r [10]+1:=by
    show(if([10]:List UInt8).isPrefixOf (c::r)then(0:Int)else _)=_
    rw[if_neg]
    simp[List.isPrefixOf]
    exact fun h=>hc h.symm
   cases hk:count r [10]with
   |zero=>rfl
   |succ k=>
    have bN:index r [10]≠ -1:=fun h=>by rw[count_miss h]at hk;cases hk
    obtain⟨i,hi⟩:∃i:Nat,index r [10]=i:=by
     rcases indexB_cases ⟨r.toArray⟩ ⟨#[10]⟩with h| ⟨i,h,_⟩
     ·exact absurd (by simpa using h) bN
     ·exact⟨i,by simpa using h⟩
    rw[Ap,Ap,e1,hi,if_neg (show¬ ((i:Int)== -1)=true by simp),if_neg (show¬ ((i:Int)== -1)=true by simp),if_neg (show¬ ((i:Int)+1== -1)=true by simp;omega)]
    rw[show((i:Int)+1).toNat=i+1 by omega,Int.toNat_natCast]
    rfl
def acm(H:Hp):Prop:=∀w:World,w.heap=H→∃m,w.cell? ⟨1,0,none⟩=some (.int .i64 m)
theorem yn{H:Hp}(hm:acm H)(l:List UInt8)(hl:l.length≤1000000):ag Tryz.prog tu [aW l,aW [10]] H fun v H'=>ap (Sl H' 1 v (splitN l).length ((splitN l).map aW) (some H.size)∧ai H H'):=fun w hw=>by
 obtain⟨m,hm⟩:=hm w hw
 refine(Tryz.strings_Split ⟨l.toArray⟩ ⟨#[10]⟩ m w (by show l.toArray.size<_;simp;omega) hm (by decide)).mono ?_
 rintro e w' ⟨rfl,rfl⟩
 have e1:(Lib.splitB ⟨#[10]⟩ 0 (Lib.countB ⟨l.toArray⟩ ⟨#[10]⟩) ⟨l.toArray⟩).map Value.string=(splitN l).map aW:=by
  have h1:=Lib.splitB_data ⟨#[10]⟩ 0 (Lib.countB ⟨l.toArray⟩ ⟨#[10]⟩) ⟨l.toArray⟩
  have h2:Lib.splitK [10] 0 (Lib.count l [10]) l=splitN l:=TL l
  have h3:(Lib.splitB ⟨#[10]⟩ 0 (Lib.countB ⟨l.toArray⟩ ⟨#[10]⟩) ⟨l.toArray⟩).map (·.data.toList)=splitN l:=by
   rw[h1,←h2]
  rw[←h3,List.map_map]
  apply ao9
  intro b _
  rfl
 have e2:Lib.countB ⟨l.toArray⟩ ⟨#[10]⟩+1=(splitN l).length:=by
  rw[←Lib.splitB_all ⟨#[10]⟩ (by decide) 0 _ ⟨l.toArray⟩ rfl]
  have:=aoo List.length e1
  simpa using this
 rw[e1,e2]
 subst hw
 exact⟨_,rfl,⟨rfl,rfl⟩,Sl.lit w.heap 9 1 (splitN l).length ((splitN l).map aW) (by simp),(ah.refl _ _).new 9 ((splitN l).map aW)⟩
def gC(l:List UInt8):List (List UInt8):=if(splitN l).getLast (nM l)=[]then(splitN l).dropLast else splitN l
structure Li(r:Rp):Prop where
 c0: -9223372036854775808≤r.c
 c1:r.c≤9223372036854775807
 h0: -9223372036854775808≤r.h
 h1:r.h≤9223372036854775807
 s0: -9223372036854775808≤r.s
 s1:r.s≤9223372036854775807
 g1:r.g<4294967296
 k0: -9223372036854775808≤r.k
 k1:r.k≤9223372036854775807
 n0: -9223372036854775808≤r.n
 n1:r.n≤9223372036854775807
def nI(s:Int)(g:Nat):List UInt8:=[104,97,110,100,108,101,32]++Lib.itoa s++[46]++Lib.itoa g
def VE(k:Int):List UInt8:=[107,101,121,32]++Lib.itoa k
def gD(op:Int)(r:Rp):List UInt8:=
 if r.c≠0 then[101,114,114,111,114,32]++Lib.itoa r.c
 else if op=1∨op=10 then[104,101,97,112,32]++Lib.itoa r.h
 else if op=2 then nI r.s r.g
 else if op=3∨op=4 then nI r.s r.g++[32]++VE r.k
 else if op=6∨op=9 then VE r.k
 else if op=8 then[108,101,110,32]++Lib.itoa r.n
 else if op=5∨op=7 then[111,107]
 else[]
theorem mF{H:Hp}(ht:IJ H){x:Int}{g:Nat}(h0: -9223372036854775808≤x)(h1:x≤9223372036854775807)(hg:g<4294967296):ag Tryz.prog Ko [jk x g] H fun v H'=>ap (v=aW (nI x g)∧ai H H'):=by
 refine aU Kw ?_
 refine vs ?_
 have f0:ai H (H.new 29 [i64 x,.int .u32 (g:Int)]):=(ah.refl _ _).new _ _
 have b0:(H.new 29 [i64 x,.int .u32 (g:Int)]).own H.size=some [i64 x,.int .u32 (g:Int)]:=aA _ _ _
 generalize H.new 29 [i64 x,.int .u32 (g:Int)]=H0 at*
 refine fV.intro (fun H'=>H'.own H.size=some [i64 x,.int .u32 (g:Int)]) b0 ?_
 refine vs ?_
 refine dV.intro (.int .u32 (g:Int)) (fun H' hI=>?_) ?_
 ·refine v1 (ae hI) ?_
  exact⟨trivial,trivial⟩
 refine v1 (ae b0) ?_
 rw[wrap64 (by omega) (by omega)]
 have la:=ez h0 h1
 have lb:=ez (n:=(g:Int)) (by omega) (by omega)
 refine⟨b0,?_⟩
 refine vs ?_
 refine(bA (ht.fresh f0) h0 h1).mono ?_
 rintro _ H1 ⟨rfl,f1⟩
 refine⟨f1.own b0 (fun h=>h),?_⟩
 refine vs ?_
 rw[gU [104,97,110,100,108,101,32] _ (by simp only[aop,aoH];omega)]
 refine vs ?_
 rw[gU ([104,97,110,100,108,101,32]++Lib.itoa x) [46] (by simp only[aos,aop,aoH];omega)]
 refine vs ?_
 refine(bA ((ht.fresh f0).fresh f1) (n:=(g:Int)) (by omega) (by omega)).mono ?_
 rintro _ H2 ⟨rfl,f2⟩
 refine⟨f2.own (f1.own b0 (fun h=>h)) (fun h=>h),?_⟩
 refine vs ?_
 rw[gU ([104,97,110,100,108,101,32]++Lib.itoa x++[46]) (Lib.itoa g) (by simp only[aos,aop,aoH];omega)]
 refine vs ?_
 exact⟨rfl,(f0.trans f1).trans f2⟩
theorem Ej{x:Int}{g:Nat}(h0: -9223372036854775808≤x)(h1:x≤9223372036854775807)(hg:g<4294967296):(nI x g).length≤60:=by
 have la:=ez h0 h1
 have lb:=ez (n:=(g:Int)) (by omega) (by omega)
 unfold nI
 simp only[aos,aop,aoH]
 omega
theorem M5{x:Int}(h0: -9223372036854775808≤x)(h1:x≤9223372036854775807):(VE x).length≤30:=by
 have la:=ez h0 h1
 unfold VE
 simp only[aos,aop,aoH]
 omega
theorem wx{H:Hp}(ht:IJ H)(op:Int){r:Rp}(hr:Li r):ag Tryz.prog Me [i64 op,rpV r] H fun v H'=>ap (v=aW (gD op r)∧ai H H'):=by
 obtain⟨q1,q2,q3,q4,q5,q6,q7,q8,q9,q10,q11⟩:=hr
 refine aU Mk ?_
 refine vs ?_
 have f0:ai H (H.new 31 (rpL r)):=(ah.refl _ _).new _ _
 have b0:(H.new 31 (rpL r)).own H.size=some (rpL r):=aA _ _ _
 generalize H.new 31 (rpL r)=H0 at*
 have ZQ:=ht.fresh f0
 have lc:=ez q1 q2
 have lh:=ez q3 q4
 have lk:=M5 q8 q9
 have lk':=ez q8 q9
 have ln:=ez q10 q11
 have lx:=Ej q5 q6 q7
 unfold gD
 refine ar.dec (fun hc=>?_) (fun hc=>?_)<;>refine v1 (ae b0) ?_
 ·rw[if_neg (fun h=>h hc)]
  refine(bA ZQ q8 q9).mono ?_
  rintro _ H1 ⟨rfl,f1⟩
  have b1:=f1.own b0 (fun h=>h)
  have uI:=ZQ.fresh f1
  have F1:=f0.trans f1
  refine vs ?_
  rw[gU [107,101,121,32] _ (by simp only[aop,aoH];omega)]
  refine vs ?_
  rcases(show op=1∨op=2∨op=3∨op=4∨op=5∨op=6∨op=7∨op=8∨op=9∨op=10∨(op≠1∧op≠2∧op≠3∧op≠4∧op≠5∧op≠6∧op≠7∧op≠8∧op≠9∧op≠10) by omega)with rfl|rfl|rfl|rfl|rfl|rfl|rfl|rfl|rfl|rfl| ⟨o1,o2,o3,o4,o5,o6,o7,o8,o9,o10⟩
  ·simp(disch:=(first|omega| (simp only[Zs]<;>omega)|fail)) only[go_sem, ↓reduceIte,Zv,aoE,decide_false,Int.reduceEq,ae b1]
   refine(bA uI q3 q4).mono ?_
   rintro _ H2 ⟨rfl,f2⟩
   refine vs ?_
   rw[gU [104,101,97,112,32] _ (by simp only[aop,aoH];omega)]
   refine vs ?_
   exact⟨rfl,F1.trans f2⟩
  ·simp(disch:=(first|omega| (simp only[Zs]<;>omega)|fail)) only[go_sem, ↓reduceIte,Zv,aoE,decide_false,Int.reduceEq,ae b1]
   refine(mF uI q5 q6 q7).mono ?_
   rintro _ H2 ⟨rfl,f2⟩
   refine vs ?_
   exact⟨rfl,F1.trans f2⟩
  ·simp(disch:=(first|omega| (simp only[Zs]<;>omega)|fail)) only[go_sem, ↓reduceIte,Zv,aoE,decide_false,Int.reduceEq,ae b1]
   refine(mF uI q5 q6 q7).mono ?_
   rintro _ H2 ⟨rfl,f2⟩
   refine vs ?_
   rw[gU (nI r.s r.g) [32] (by simp only[aop,aoH];omega)]
   refine vs ?_
   rw[gU (nI r.s r.g++[32]) ([107,101,121,32]++Lib.itoa r.k) (by simp only[aos,aop,aoH];omega)]
   refine vs ?_
   exact⟨rfl,F1.trans f2⟩
  ·simp(disch:=(first|omega| (simp only[Zs]<;>omega)|fail)) only[go_sem, ↓reduceIte,Zv,aoE,decide_false,Int.reduceEq,ae b1]
   refine(mF uI q5 q6 q7).mono ?_
   rintro _ H2 ⟨rfl,f2⟩
   refine vs ?_
   rw[gU (nI r.s r.g) [32] (by simp only[aop,aoH];omega)]
   refine vs ?_
   rw[gU (nI r.s r.g++[32]) ([107,101,121,32]++Lib.itoa r.k) (by simp only[aos,aop,aoH];omega)]
   refine vs ?_
   exact⟨rfl,F1.trans f2⟩
  ·simp(disch:=(first|omega| (simp only[Zs]<;>omega)|fail)) only[go_sem, ↓reduceIte,Zv,aoE,decide_false,Int.reduceEq]
   exact⟨rfl,F1⟩
  ·simp(disch:=(first|omega| (simp only[Zs]<;>omega)|fail)) only[go_sem, ↓reduceIte,Zv,aoE,decide_false,Int.reduceEq]
   exact⟨rfl,F1⟩
  ·simp(disch:=(first|omega| (simp only[Zs]<;>omega)|fail)) only[go_sem, ↓reduceIte,Zv,aoE,decide_false,Int.reduceEq]
   exact⟨rfl,F1⟩
  ·simp(disch:=(first|omega| (simp only[Zs]<;>omega)|fail)) only[go_sem, ↓reduceIte,Zv,aoE,decide_false,Int.reduceEq,ae b1]
   refine(bA uI q10 q11).mono ?_
   rintro _ H2 ⟨rfl,f2⟩
   refine vs ?_
   rw[gU [108,101,110,32] _ (by simp only[aop,aoH];omega)]
   refine vs ?_
   exact⟨rfl,F1.trans f2⟩
  ·simp(disch:=(first|omega| (simp only[Zs]<;>omega)|fail)) only[go_sem, ↓reduceIte,Zv,aoE,decide_false,Int.reduceEq]
   exact⟨rfl,F1⟩
  ·simp(disch:=(first|omega| (simp only[Zs]<;>omega)|fail)) only[go_sem, ↓reduceIte,Zv,aoE,decide_false,Int.reduceEq,ae b1]
   refine(bA uI q3 q4).mono ?_
   rintro _ H2 ⟨rfl,f2⟩
   refine vs ?_
   rw[gU [104,101,97,112,32] _ (by simp only[aop,aoH];omega)]
   refine vs ?_
   exact⟨rfl,F1.trans f2⟩
  ·refine v10 (aow o1) (aow o2) (aow o3) (aow o4) (aow o5) (aow o6) (aow o7) (aow o8) (aow o9) (aow o10) ?_
   rw[if_neg (by omega),if_neg o2,if_neg (by omega),if_neg (by omega),if_neg o8,if_neg (by omega)]
   exact⟨rfl,F1⟩
 ·rw[if_pos hc]
  refine(bA ZQ q1 q2).mono ?_
  rintro _ H1 ⟨rfl,f1⟩
  refine vs ?_
  rw[gU [101,114,114,111,114,32] _ (by simp only[aop,aoH];omega)]
  refine vs ?_
  exact⟨rfl,f0.trans f1⟩
def Pe(c:Ce):Prop:=(-9223372036854775808≤c.2.1∧c.2.1≤9223372036854775807)∧0≤c.1∧c.1≤4294967296
def Rg(t:kY):Prop:=∀c∈t.w.cs,Pe c
variable {t : kY} {n : Nat}
theorem Lj(h:Rg t)(x:Int){c:Ce}(hc:Pe c)(A:Ar)(q:Int):Rg ⟨t.w.put x c,A,q⟩:=fun y hy=>by
 rcases apa hy with h1|rfl
 ·exact h y h1
 ·exact hc
theorem ce0:Pe (0,0,0):=by unfold Pe;simp
theorem Pf(h:Rg t)(x:Int): -9223372036854775808≤t.w.key x∧t.w.key x≤9223372036854775807:=by
 unfold Nw.key
 rw[aon]
 cases hx:t.w.cs[x.toNat]? with
 |none=>simp
 |some c=>exact(h c (aou hx)).1
theorem WG(h:Rg t)(x:Int):0≤aF t.w x∧aF t.w x≤4294967296:=by
 unfold aF
 split
 ·rw[aon]
  cases hx:t.w.cs[x.toNat]? with
  |none=>simp
  |some c=>exact(h c (aou hx)).2
 ·omega
theorem acn(h:Rg t)(op:Nat){a b:Nat}{k:Int}(hr:jf a b k):Rg (SN t op a b k).1:=by
 obtain⟨r1,r2,r3,r4⟩:=hr
 unfold SN
 split
 ·unfold MJ;split<;>exact h
 ·unfold OJ
  split
  ·exact h
  ·cases hp:t.A.pick with
   |none=>exact h
   |some xA=>exact Lj h _ (by unfold Pe;dsimp only;omega) _ _
 ·exact h
 ·unfold GW
  dsimp only
  split
  ·exact Lj h _ ce0 _ _
  ·exact h
 ·unfold OK
  split
  ·exact h
  ·split
   ·exact h
   ·have:=WG h a
    exact Lj h _ (by unfold Pe;dsimp only;omega) _ _
 ·unfold OL
  split
  ·exact h
  ·exact Lj h _ ce0 _ _
 ·unfold OM
  split
  ·exact h
  ·split
   ·exact h
   ·intro c hc
    obtain⟨c',h1,rfl⟩:=apj.1 hc
    have h2:=h c' h1
    unfold Pe at h2 ⊢
    split
    ·exact⟨h2.1,by dsimp only;omega⟩
    ·exact h2
 all_goals exact h
theorem dT(c:Int)(h:0≤c∧c≤1000):Li (er c):=by unfold er;constructor<;>dsimp only<;>omega
theorem TM(h:Rg t)(hb:Bd t n)(hn:n≤100000)(lk:IN t.w t.A)(hl:t.A.g.length≤65536)(g:Int):Li (nB t g):=by
 unfold nB
 split
 ·exact dT _ (by omega)
 ·cases ag7:t.w.HW g with
  |none=>exact dT _ (by omega)
  |some x=>
   obtain⟨PS,hh,_⟩:=bD.1 (SW ag7)
   obtain⟨x0,x1,_⟩:=aG (w:=t.w) (x:=x) (by omega)
   have:=lk.len
   have h1:=Pf h x
   have h2:=hb.g x
   constructor<;>dsimp only<;>omega
theorem aco(h:Rg t)(hb:Bd t n)(hn:n≤100000)(lk:IN t.w t.A)(ok:CL t.A)(hl:t.A.g.length≤65536)(op a b:Nat)(k:Int):Li (SN t op a b k).2:=by
 have bu:=lk.len
 have hh1:=hb.h1
 unfold SN
 split
 ·unfold MJ
  split
  ·exact dT _ (by omega)
  ·constructor<;>dsimp only<;>omega
 ·unfold OJ
  split
  ·exact dT _ (by omega)
  ·cases hp:t.A.pick with
   |none=>exact dT _ (by omega)
   |some xA=>
    obtain⟨x,A'⟩:=xA
    have h1:=(Ar.JZ hp ok).1
    have h2:=hb.g x
    constructor<;>dsimp only<;>omega
 ·exact TM h hb hn lk hl _
 ·exact TM h hb hn lk hl _
 ·unfold OK
  split
  ·exact dT _ (by omega)
  ·split<;>exact dT _ (by omega)
 ·unfold OL
  split
  ·exact dT _ (by omega)
  ·have h1:=Pf h a
   constructor<;>dsimp only<;>omega
 ·unfold OM
  split
  ·exact dT _ (by omega)
  ·split<;>exact dT _ (by omega)
 ·show Li (SK t a)
  unfold SK
  split
  ·exact dT _ (by omega)
  ·have h1:0≤t.w.len a∧t.w.len a≤65536:=by
    unfold Nw.len
    have:=List.countP_le_length (p:=fun c:Ce=>decide (c.1=(a:Int))) (l:=t.w.cs)
    split<;>omega
   constructor<;>dsimp only<;>omega
 ·show Li (SL t a b)
  unfold SL
  split
  ·exact dT _ (by omega)
  ·have h1:=Pf h a
   constructor<;>dsimp only<;>omega
 ·show Li (SM t a b)
  unfold SM
  split
  ·exact dT _ (by omega)
  ·have h1:=WG h a
   constructor<;>dsimp only<;>omega
 ·exact dT _ (by omega)
theorem rg0(cap:Int)(mo:Nat):Rg ⟨yd cap,PZ cap mo,0⟩:=fun c hc=>by
 have:c=(0,0,0):=List.eq_of_mem_replicate hc
 rw[this]
 exact ce0
end Go.Proofs.YtjkkkibiegfecaaGreatDoor

namespace Go.Proofs.YtjkkkibiegfecaaGreatDoor
open Go Go.Vc Go.Lib
theorem tR{H:Hp}(he:yk H)(l:List UInt8)(hl:l.length≤1000000):ag Tryz.prog uU [aW l] H fun v H'=>ap (ai H H'∧∃b,v= .tuple [i64 (As l),.bool b].toArray):=by
 refine(Cs he l hl).mono ?_
 rintro v H' ⟨f,⟨n,h0,h1,h2,rfl⟩| ⟨h,rfl⟩⟩
 ·exact⟨f,true,by rw[h2,HG h0 h1]⟩
 ·exact⟨f,false,by rw[M6 h]⟩
theorem jX{H:Hp}(he:yk H)(l:List UInt8)(hl:l.length≤1000000):ag Tryz.prog Gc [aW l] H fun v H'=>ap (v=u32 (mG l)∧ai H H'):=by
 refine aU Gq ?_
 refine vs ?_
 refine(tR he l hl).mono ?_
 rintro v H1 ⟨f1,b,rfl⟩
 refine vs ?_
 obtain⟨h0,h1⟩:=TK l
 refine⟨?_,f1⟩
 unfold mG
 have e:(if(4294967295:Int)< (if(0:Int)>As l then 0 else As l)then(4294967295:Int)else if(0:Int)>As l then 0 else As l)=(((min (max (As l) 0) 4294967295).toNat:Nat):Int):=by
  split<;>split<;>omega
 rw[e,PD (by omega) (by omega)]
 rfl
theorem VF(ws:List (List UInt8))(h:ws≠[]):ws[ws.length - 1]? =some (tS ws):=by
 unfold tS
 rw[←List.getLast?_eq_getElem?,apt]
 cases hx:ws.getLast? with
 |none=>exact absurd (List.getLast?_eq_none_iff.1 hx) h
 |some x=>rfl
def TN(s:List UInt8)(v:Value):Prop:=(∃ (op a b:Nat) (k:Int),dP op a b k∧s=fU op a b k∧v= .tuple [jV op a b k,i64 0].toArray)∨
 ((∀ (op a b:Nat) (k:Int),dP op a b k→s≠fU op a b k)∧v= .tuple [jV 0 0 0 0,i64 181].toArray)
theorem CC{H:Hp}(he:yk H)(l:List UInt8)(hl:l.length≤1000000):ag Tryz.prog F9 [aW l] H fun v H'=>ap (TN l v∧ai H H'):=by
 refine Fz Gm ⟨rfl,?_⟩
 have f0:ai H (H.new 52 [i64 0,u32 0,u32 0,i64 0]):=(ah.refl _ _).new _ _
 have b0:=aA H 52 [i64 0,u32 0,u32 0,i64 0]
 refine v1 vh.eq_1 ?_
 generalize H.new 52 [i64 0,u32 0,u32 0,i64 0]=H0 at*
 refine(Al (he.fresh f0) 32 l hl).mono ?_
 rintro _ _ ⟨rfl,rfl⟩
 obtain⟨lp1,lp2⟩:=Re 32 _ l (aox _)
 have bN:=JP 32 l
 have gI:=List.length_pos_iff.2 bN
 have BN:=VF _ bN
 have aje:=Ho 32 l
 generalize ZM:pieces 32 l=ws at*
 have f1:ai H0 (H0.new 9 (ws.map aW)):=(ah.refl _ _).new _ _
 have w1:=aA H0 9 (ws.map aW)
 have b1:=f1.own b0 (fun h=>h)
 have UF:(H0.new 9 (ws.map aW)).size=H0.size+1:=by rw[ak]
 generalize H0.new 9 (ws.map aW)=H1 at*
 refine vs ?_
 rw[wrap64 (n:=(ws.length:Int) - 1) (by omega) (by omega)]
 refine⟨⟨by omega,by omega⟩,?_⟩
 have ag8:((ws.length:Int) - 1).toNat=ws.length - 1:=by omega
 have Yw:(ws.map aW)[ws.length - 1]? =some (aW (tS ws)):=by rw[aoF,BN];rfl
 refine v5 (ae w1) ag8 aok aoi Yw ?_
 refine(eD H1).mono ?_
 rintro _ _ ⟨rfl,rfl⟩
 have f2:ai H1 (H1.new 116 bR):=(ah.refl _ _).new _ _
 have p2:=aA H1 116 bR
 have w2:=f2.own w1 (fun h=>h)
 have b2:=f2.own b1 (fun h=>h)
 have RJ:(H1.new 116 bR).size=H1.size+1:=by rw[ak]
 generalize H1.new 116 bR=H2 at*
 have ZV:yk H2:=((he.fresh f0).fresh f1).fresh f2
 have f02:ai H H2:=f0.trans (f1.trans f2)
 refine vs ?_
 refine bX.intro (fun m env H'=>ai H2 H'∧∃j:Nat,m=11 - j∧j≤11∧(∀op a b k,op<j→dP op a b k→l≠fU op a b k)∧env=[(0,aW l),(2,ptr H.size),(4,.slice (some ⟨H0.size,0,none⟩) ws.length ws.length),(5,aW (tS ws)),(20,.slice (some ⟨H1.size,0,none⟩) 11 11),(21,i64 11),(22,i64 j)]) 11 ⟨ah.refl _ _,0,by omega,by omega,fun op a b k h=>by omega,rfl⟩ ?_
 rintro m env H3 ⟨f3,j,hm,hj,bU,rfl⟩
 have p3:=f3.own p2 (fun h=>h)
 have w3:=f3.own w2 (fun h=>h)
 have b3:=f3.own b2 (fun h=>h)
 have eh3:=ZV.fresh f3
 refine vs ?_
 refine ar.dec (fun h11=>?_) (fun h11=>?_)<;>refine vs ?_
 ·have VG:j≤10:=by omega
  refine iD (fun e H'=>e.find 0=some (aW l)∧e.find 2=some (ptr H.size)∧e.find 4=some (.slice (some ⟨H0.size,0,none⟩) ws.length ws.length)∧e.find 5=some (aW (tS ws))∧e.find 20=some (.slice (some ⟨H1.size,0,none⟩) 11 11)∧e.find 21=some (i64 11)∧e.find 22=some (i64 j)∧ai H2 H'∧(∀a b k,dP j a b k→l≠fU j a b k)) ?_ ?_
  ·refine vs ?_
   refine⟨⟨by omega,by omega⟩,?_⟩
   refine v4 (ae p3) Int.toNat_natCast aoi (fT VG) ?_
   refine⟨by rw[oV];omega,?_⟩
   have q7:=aA H3 116 [.string ⟨#[]⟩,i64 0,.bool false,.bool false]
   have o7:=af (l:=[aW (da j),i64 (cC j),.bool (bS j),.bool (keyOf j)]) q7
   have f4:ai H3 ((H3.new 116 [.string ⟨#[]⟩,i64 0,.bool false,.bool false]).wr H3.size [aW (da j),i64 (cC j),.bool (bS j),.bool (keyOf j)]):=((ah.refl _ _).new _ _).wr (fun h=>absurd h (Nat.lt_irrefl _)) _
   refine v1 (fT VG) ?_
   generalize (H3.new 116 [.string ⟨#[]⟩,i64 0,.bool false,.bool false]).wr H3.size [aW (da j),i64 (cC j),.bool (bS j),.bool (keyOf j)]=H4 at*
   have w4:=f4.own w3 (fun h=>h)
   have eh4:=eh3.fresh f4
   obtain⟨w0,wr,hw0⟩:∃w0 wr,ws=w0::wr:=by
    cases ws with
    |nil=>exact absurd rfl bN
    |cons x r=>exact⟨x,r,rfl⟩
   have ag9:(ws.map aW)[0]? =some (aW w0):=by rw[hw0];rfl
   refine v1 (ae o7) ?_
   refine⟨⟨by omega,by omega⟩,?_⟩
   refine v6 (ae w4) Int.toNat_zero aoG aoi ag9 rj ?_
   have TO:∀a b k,dP j a b k→l=fU j a b k→ws=ee j a b k:=fun a b k h e=>by rw[←ZM,e];exact wz h.le
   refine ar.dec (fun hw=>?_) (fun hw=>?_)<;>refine vs ?_
   rotate_left
   ·refine⟨trivial,trivial,trivial,trivial,trivial,trivial,trivial,f3.trans f4,fun a b k h e=>hw ?_⟩
    have h5:=TO a b k h e
    rw[hw0]at h5
    injection h5 with h5
    exact h5.symm
   have q8:=aA H4 52 [i64 0,u32 0,u32 0,i64 0]
   have o8:=af (l:=[i64 j,u32 0,u32 0,i64 0]) q8
   have f5:ai H4 ((H4.new 52 [i64 0,u32 0,u32 0,i64 0]).wr H4.size [i64 j,u32 0,u32 0,i64 0]):=((ah.refl _ _).new _ _).wr (fun h=>absurd h (Nat.lt_irrefl _)) _
   have g7:=f5.own o7 (fun h=>h)
   have f45:=f3.trans (f4.trans f5)
   have hx8:H2.size≤H4.size:=(f3.trans f4).size
   have hx7:H3.size<H4.size:=aE o7
   have amm:=f3.size
   have hl8:=aE o8
   generalize (H4.new 52 [i64 0,u32 0,u32 0,i64 0]).wr H4.size [i64 j,u32 0,u32 0,i64 0]=H5 at*
   generalize hp7:H3.size=p7 at*
   generalize hp8:H4.size=p8 at*
   have fw:∀ {A:Hp} (l:List Value),ai H2 A→ai H2 (A.wr p8 l):=fun l h=>h.wr (fun bf=>by omega) l
   have wl:∀w∈ws,w.length≤1000000:=fun w hw=>aoK (lp1 w hw) hl
   refine iD (fun e H'=>e.find 0=some (aW l)∧e.find 2=some (ptr H.size)∧e.find 4=some (.slice (some ⟨H0.size,0,none⟩) ws.length ws.length)∧e.find 5=some (aW (tS ws))∧e.find 7=some (ptr p7)∧e.find 8=some (ptr p8)∧e.find 20=some (.slice (some ⟨H1.size,0,none⟩) 11 11)∧e.find 21=some (i64 11)∧e.find 22=some (i64 j)∧ai H2 H'∧
    H'.own p7=some [aW (da j),i64 (cC j),.bool (bS j),.bool (keyOf j)]∧H'.own p8=some [i64 j,u32 (CB ws),u32 ((if 1<ws.length then mG (Lib.cut (ws.getD 1 []) [46]).2.1 else 0:Nat):Int),i64 0]) ?_ ?_
   ·refine vs ?_
    refine ar.dec (fun h1=>?_) (fun h1=>?_)<;>refine vs ?_
    ·have w5:=(f4.trans f5).own w3 (fun h=>h)
     obtain⟨w1v,hw1⟩:∃x,ws[1]? =some x:=⟨_,aol (by omega)⟩
     have ahb:(ws.map aW)[1]? =some (aW w1v):=by rw[aoF,hw1];rfl
     have hgd:ws.getD 1 []=w1v:=by rw[aon,hw1];rfl
     have Ay:=wl w1v (aou hw1)
     have rV:=TC 46 w1v
     refine⟨⟨by omega,by omega⟩,?_⟩
     refine v5 (ae w5) Int.toNat_one apL aoi ahb ?_
     have eh5:=eh4.fresh f5
     refine(Ct eh5 46 w1v Ay).mono ?_
     rintro _ H6 ⟨rfl,f6⟩
     refine vs ?_
     refine(jX (eh5.fresh f6) _ (by omega)).mono ?_
     rintro _ H7 ⟨rfl,f7⟩
     refine vs ?_
     refine(jX ((eh5.fresh f6).fresh f7) _ (by omega)).mono ?_
     rintro _ H8 ⟨rfl,f8⟩
     have f58:=f6.trans (f7.trans f8)
     have o8':=f58.own o8 (fun h=>h)
     have g7':=f58.own g7 (fun h=>h)
     simp(disch:=(first|omega| (simp only[Zs]<;>omega)|fail)) only[go_sem, ↓reduceIte,Zv,o8',af o8']
     refine⟨trivial,trivial,trivial,trivial,trivial,trivial,trivial,trivial,trivial,?_,?_,?_⟩
     ·exact fw _ (f45.trans f58)
     ·first|exact g7'| (rw[fH (by omega)];exact g7')
     ·unfold CB
      rw[if_pos (by omega),if_pos (by omega),hgd]
    ·refine⟨trivial,trivial,trivial,trivial,trivial,trivial,trivial,trivial,trivial,f45,g7,?_⟩
     unfold CB
     rw[o8,if_neg (by omega),if_neg (by omega)]
     rfl
   rintro e H6 ⟨e0,e2,e4,e5,e7,e8,Uq,Ur,Us,f6,s7,s8⟩
   have eh6:=ZV.fresh f6
   have hlw:(tS ws).length≤1000000:=wl _ (aou BN)
   refine iD (fun e H'=>e.find 0=some (aW l)∧e.find 2=some (ptr H.size)∧e.find 4=some (.slice (some ⟨H0.size,0,none⟩) ws.length ws.length)∧e.find 5=some (aW (tS ws))∧e.find 7=some (ptr p7)∧e.find 8=some (ptr p8)∧e.find 20=some (.slice (some ⟨H1.size,0,none⟩) 11 11)∧e.find 21=some (i64 11)∧e.find 22=some (i64 j)∧ai H2 H'∧
    H'.own p7=some [aW (da j),i64 (cC j),.bool (bS j),.bool (keyOf j)]∧H'.own p8=some [i64 j,u32 (CB ws),u32 (DV j ws),i64 0]) ?_ ?_
   ·refine v10 e0 e2 e4 e5 e7 e8 Uq Ur Us (ae s7) ?_
    refine ar.dec (fun h1=>?_) (fun h1=>?_)<;>refine v9 e0 e2 e4 e5 e7 e8 Uq Ur Us ?_
    ·refine(jX eh6 _ hlw).mono ?_
     rintro _ H7 ⟨rfl,f7⟩
     have s8':=f7.own s8 (fun h=>h)
     have s7':=f7.own s7 (fun h=>h)
     simp(disch:=(first|omega| (simp only[Zs]<;>omega)|fail)) only[go_sem, ↓reduceIte,Zv,e8,s8',af s8']
     refine⟨trivial,trivial,trivial,trivial,trivial,trivial,trivial,trivial,trivial,fw _ (f6.trans f7),?_,?_⟩
     ·first|exact s7'| (rw[fH (by omega)];exact s7')
     ·unfold DV
      rw[if_pos (by omega)]
    ·refine⟨trivial,trivial,trivial,trivial,trivial,trivial,trivial,trivial,trivial,f6,s7,?_⟩
     rw[s8]
     unfold DV
     rw[if_neg (c:=cC j=2) (by omega)]
   rintro e H7 ⟨e0,e2,e4,e5,e7,e8,Uq,Ur,Us,f7,s7,s8⟩
   have eh7:=ZV.fresh f7
   refine iD (fun e H'=>e.find 0=some (aW l)∧e.find 2=some (ptr H.size)∧e.find 4=some (.slice (some ⟨H0.size,0,none⟩) ws.length ws.length)∧e.find 5=some (aW (tS ws))∧e.find 8=some (ptr p8)∧e.find 20=some (.slice (some ⟨H1.size,0,none⟩) 11 11)∧e.find 21=some (i64 11)∧e.find 22=some (i64 j)∧ai H2 H'∧
    H'.own p8=some [i64 j,u32 (CB ws),u32 (DV j ws),i64 (Fm j ws)]) ?_ ?_
   ·refine v10 e0 e2 e4 e5 e7 e8 Uq Ur Us (ae s7) ?_
    unfold Fm
    cases hh:keyOf j<;>refine v9 e0 e2 e4 e5 e7 e8 Uq Ur Us ?_
    ·exact⟨trivial,trivial,trivial,trivial,trivial,trivial,trivial,trivial,f7,s8⟩
    ·refine(tR eh7 _ hlw).mono ?_
     rintro _ H8 ⟨f8,b,rfl⟩
     have s8':=f8.own s8 (fun h=>h)
     simp(disch:=(first|omega| (simp only[Zs]<;>omega)|fail)) only[go_sem, ↓reduceIte,Zv,e8,s8',af s8']
     exact⟨trivial,trivial,trivial,trivial,trivial,trivial,trivial,trivial,fw _ (f7.trans f8),trivial⟩
   rintro e H8 ⟨e0,e2,e4,e5,e8,Uq,Ur,Us,f8,s8⟩
   refine v9 e0 e2 e4 e5 e8 Uq Ur Us (ae s8) ?_
   refine(jW H8 j (CB ws) (DV j ws) (Fm j ws)).mono ?_
   rintro _ H9 ⟨rfl,f9⟩
   rw[HC VG]
   have s9:=f9.own s8 (fun h=>h)
   refine v9 e0 e2 e4 e5 e8 Uq Ur Us s9 ?_
   have f10:=fw [i64 j,u32 (Ei j (CB ws)),u32 (Fj j (DV j ws)),i64 (HB j (Fm j ws))] (f8.trans f9)
   have s10:=af (l:=[i64 j,u32 (Ei j (CB ws)),u32 (Fj j (DV j ws)),i64 (HB j (Fm j ws))]) s9
   generalize H9.wr p8 [i64 j,u32 (Ei j (CB ws)),u32 (Fj j (DV j ws)),i64 (HB j (Fm j ws))]=H10 at*
   have Tj:=M4 VG ws
   have WD:=Lh Tj
   refine v1 (ae s10) ?_
   refine(DW (ZV.fresh f10) ⟨Tj.la,Tj.lb,Tj.k0,Tj.k1⟩).mono ?_
   rintro _ H11 ⟨rfl,f11⟩
   rw[WD,if_pos rfl,Int.toNat_natCast]
   have s11:=f11.own s10 (fun h=>h)
   have b11:=(f10.trans f11).own b2 (fun h=>h)
   refine v1 rj ?_
   refine ar.dec (fun hq=>?_) (fun hq=>?_)<;>refine v1 (ae s11) ?_
   ·refine v1 b11 ?_
    simp(disch:=(first|omega| (simp only[Zs]<;>omega)|fail)) only[go_sem, ↓reduceIte,Zv,ae (af b11)]
    refine⟨.inl ⟨j,_,_,_,Tj,hq.symm,rfl⟩,(f02.trans (f10.trans f11)).then ((ah.refl (fun z=>z=H.size) _).wr (fun _=>rfl) _) (fun z hz=>by omega)⟩
   ·refine⟨trivial,trivial,trivial,trivial,trivial,trivial,trivial,f10.trans f11,fun a b k h e=>hq ?_⟩
    obtain⟨t1,t2,t3⟩:=At h
    rw[←TO a b k h e]at t1 t2 t3
    rw[t1,t2,t3,e]
  ·rintro e H4 ⟨e0,e2,e4,e5,Uq,Ur,Us,f4,Yn⟩
   refine v7 e0 e2 e4 e5 Uq Ur Us ?_
   rw[wrap64 (n:=(j:Int)+1) (by omega) (by omega)]
   refine⟨10 - j,by omega,f4,j+1,by omega,by omega,fun op a b k h=>?_,rfl⟩
   by_cases h2:op=j
   ·subst h2;exact Yn a b k
   ·exact bU op a b k (by omega)
 ·refine v1 b3 ?_
  simp(disch:=(first|omega| (simp only[Zs]<;>omega)|fail)) only[go_sem, ↓reduceIte,Zv,ae (af b3)]
  refine⟨.inr ⟨fun op a b k h=>bU op a b k (by have:=h.le;omega) h,rfl⟩,(f02.trans f3).then ((ah.refl (fun z=>z=H.size) _).wr (fun _=>rfl) _) (fun z hz=>by omega)⟩
end Go.Proofs.YtjkkkibiegfecaaGreatDoor

namespace Go.Proofs.YtjkkkibiegfecaaGreatDoor
open Go Go.Vc
end Go.Proofs.YtjkkkibiegfecaaGreatDoor
