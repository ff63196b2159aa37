/- Texts put behind each other. -/
import Derived.Test.YtnanofhkpglbaaaGreatDoorK7
import Derived.Test.YtnanofhkpglbaaaGreatDoorK37
import Derived.Test.YtnanofhkpglbaaaGreatDoorK44
set_option linter.unusedSimpArgs false
set_option linter.unusedVariables false
set_option maxRecDepth 100000
set_option maxHeartbeats 80000000
namespace Go.Proofs.YtnanofhkpglbaaaGreatDoor
open Go Go.Vc
section
variable{b a i:Nat}{k q:Int}{J:Hp}
abbrev u32(n:Int):Value:=.int .u32 n
abbrev iw(op:Int)(a b:Nat)(k:Int):Value:=.agg [i64 op,u32 a,u32 b,i64 k].toArray
def kZ(i:Nat):List Value:=[aA (bV i),i64 (cE i),.bool (bv i),.bool (keyOf i)]
def bM:List Value:=(List.range 11).flatMap kZ
theorem fJ(h:i<=10):(bM.drop (i*4)).take 4=[aA (bV i),i64 (cE i),.bool (bv i),.bool (keyOf i)]:=by
 rcases ops i h with rfl|rfl|rfl|rfl|rfl|rfl|rfl|rfl|rfl|rfl|rfl<;>rfl
theorem me:bM.length=44:=rfl
theorem eo(H:Hp):aD 58 [] H fun v J=>ak (v= .slice (some ⟨H.size,0,none⟩) 11 11/\J=H.new 117 bM):=by
 refine aL CR ?_;refine vs ?_;exact⟨rfl,rfl⟩
def pT(op:Int)(a b:Nat)(k:Int):Value:=if 0<=op/\op<=10 then iw op (A0 op.toNat a) (Cn op.toNat b) (EI op.toNat k)else iw 0 0 0 0
theorem yM(h:i<=10)(a b:Nat)(k:Int):pT i a b k=iw i (A0 i a) (Cn i b) (EI i k):=by
 unfold pT;grind
theorem tG{op:Int}(h:¬ (0<=op/\op<=10))(a b:Nat)(k:Int):pT op a b k=iw 0 0 0 0:=by
 unfold pT;grind
theorem ja(H:Hp)(op:Int)(a b:Nat)(k:Int):aD 62 [iw op a b k] H fun v J=>ak (v=pT op a b k/\af H J):=by
 refine Rh CU ⟨rfl,?_⟩;have r:af H ((H.new 47 [i64 op,u32 a,u32 b,i64 k]).new 47 [i64 0,u32 0,u32 0,i64 0]):=bm.new _ _;have n:((H.new 47 [i64 op,u32 a,u32 b,i64 k]).new 47 [i64 0,u32 0,u32 0,i64 0]).own H.size=some [i64 op,u32 a,u32 b,i64 k]:=by rw[ax (by rw[ag];omega)];exact am _ _ _
 have w:((H.new 47 [i64 op,u32 a,u32 b,i64 k]).new 47 [i64 0,u32 0,u32 0,i64 0]).own (H.size+1)=some [i64 0,u32 0,u32 0,i64 0]:=az (by rw[ag]);refine v1 rF.eq_1 ?_;generalize (H.new 47 [i64 op,u32 a,u32 b,i64 k]).new 47 [i64 0,u32 0,u32 0,i64 0]=H0 at*;have bad:¬ (0<=op/\op<=10)->_:=fun h=>h;refine ai.dec (fun X=>?_) (fun X=>?_)<;>refine v1 (ae n) ?_
 ·refine v1 w ?_;refine v1 (ci w) ?_;exact⟨by rw[tG O];rfl,r.then ((aj.refl (fun z=>z=H.size+1) _).wr (fun _=>rfl) _) O⟩
 refine ai.dec (fun h2=>?_) (fun h2=>?_)<;>refine v1 (ae n) ?_
 ·refine v1 w ?_;refine v1 (ci w) ?_;exact⟨by rw[tG O];rfl,r.then ((aj.refl (fun z=>z=H.size+1) _).wr (fun _=>rfl) _) O⟩
 obtain⟨i,rfl⟩:∃i:Nat,op=i:=⟨op.toNat,O⟩;have hi:i<=10:=O;refine ez (fun e J=>∃x,e=[(1,ptr H.size),(2,ptr (H.size+1)),(3,ptr x)]/\H0.size<=x/\af H0 J/\J.own x=some (kZ i)) ?_ ?_
 ·refine di.intro (fun J=>J.own H.size=some [i64 i,u32 a,u32 b,i64 k]) n ?_;refine vs ?_;refine bG.intro (i64 i) (fun J hI=>?_) ?_
  ·refine v1 (ae hI) ?_;grind
  refine vs ?_;have QI:H.size<H0.size:=aB n;have K:=am H0 117 bM;have F:af H0 (H0.new 117 bM):=bm;have q:=F.own n (fun h=>h);have z1:(H0.new 117 bM).size=H0.size+1:=by rw[ag]
  refine ry.intro ?_ ?_
  ·refine vs ?_;refine(eo H0).mono ?_;rintro _ _ ⟨rfl,rfl⟩;refine And.intro q ?_;refine vs ?_;generalize H0.new 117 bM=H1 at*;refine⟨O,?_⟩;have f:=am H1 117 [.string ⟨#[]⟩,i64 0,.bool false,.bool false];have u:af H1 (H1.new 117 [.string ⟨#[]⟩,i64 0,.bool false,.bool false]):=bm;have i2:=u.own q (fun h=>h);have p12:=u.own K (fun h=>h);have fin:∀l',l'=[aA (bV i),i64 (cE i),.bool (bv i),.bool (keyOf i)]->((H1.new 117 [.string ⟨#[]⟩,i64 0,.bool false,.bool false]).wr H1.size l').own H.size=some [i64 i,u32 a,u32 b,i64 k]/\af H0 ((H1.new 117 [.string ⟨#[]⟩,i64 0,.bool false,.bool false]).wr H1.size l')/\((H1.new 117 [.string ⟨#[]⟩,i64 0,.bool false,.bool false]).wr H1.size l').own H1.size=some (kZ i):=fun l' e=>by
    subst e;refine⟨by grind [aG],(F.trans u).then ((aj.refl (fun z=>z=H1.size) _).wr (fun _=>rfl) _) O,ah f⟩
   refine ry.intro ?_ ?_
   ·refine v4 (ae K) Int.toNat_natCast ak7 (fJ hi) ?_;refine⟨by rw[me];omega,q,?_⟩;refine vs ?_;refine And.intro O ?_;refine v2 (fJ hi) f ?_;obtain⟨D,M,E⟩:=fin _ rfl;refine And.intro O ?_;refine vs ?_;grind
   ·refine vs ?_;refine And.intro O ?_;refine v4 (ae p12) Int.toNat_natCast ak7 (fJ hi) ?_;refine⟨by rw[me];omega,O,?_⟩;refine v2 (fJ hi) f ?_;obtain⟨D,M,E⟩:=fin _ rfl;refine And.intro O ?_;refine vs ?_;grind
  ·have p3:=am H0 117 [.string ⟨#[]⟩,i64 0,.bool false,.bool false];have Q:af H0 (H0.new 117 [.string ⟨#[]⟩,i64 0,.bool false,.bool false]):=bm;have i3:=Q.own n (fun h=>h);have z3:(H0.new 117 [.string ⟨#[]⟩,i64 0,.bool false,.bool false]).size=H0.size+1:=by rw[ag]
   refine vs ?_;refine And.intro O ?_;refine vs ?_;generalize H0.new 117 [.string ⟨#[]⟩,i64 0,.bool false,.bool false]=H1 at*;refine(eo H1).mono ?_;rintro _ _ ⟨rfl,rfl⟩;have p4:=am H1 117 bM;have B:af H1 (H1.new 117 bM):=bm;have L:=B.own i3 (fun h=>h);have T:=B.own p3 (fun h=>h);refine And.intro L ?_;refine vs ?_;generalize H1.new 117 bM=V at*;refine⟨O,?_⟩;refine v4 (ae p4) Int.toNat_natCast ak7 (fJ hi) ?_;refine⟨by rw[me];omega,L,?_⟩;refine v2 (fJ hi) T ?_;refine And.intro O ?_;refine vs ?_;exact⟨_,rfl,O,(Q.trans B).then ((aj.refl (fun z=>z=H0.size) _).wr (fun _=>rfl) _) O,ah T⟩
 ·rintro e H1 ⟨x,rfl,hx,j,c⟩;have o2:=j.own n (fun h=>h);have o3:=j.own w (fun h=>h);have RC:=aB w;have wr:∀ {A:Hp} (l:List Value),aj (fun z=>z=H.size) H0 A->aj (fun z=>z=H.size) H0 (A.wr H.size l):=fun l h=>h.wr (fun _=>rfl) _;have p:kZ i=[aA (bV i),i64 (cE i),.bool (bv i),.bool (keyOf i)]:=rfl;have ny:x≠H.size:=O;refine ez (fun e J=>e.find 1=some (ptr H.size)/\e.find 2=some (ptr (H.size+1))/\e.find 3=some (ptr x)/\aj (fun z=>z=H.size) H0 J/\J.own x=some (kZ i)/\J.own H.size=some [i64 i,u32 (A0 i a),u32 b,i64 k]) ?_ ?_
  ·have y:A0 i a=if cE i=0/\bv i=false then 0 else a:=by
    rcases ops i hi with rfl|rfl|rfl|rfl|rfl|rfl|rfl|rfl|rfl|rfl|rfl<;>rfl
   have f1':aj (fun z=>z=H.size) H0 H1:=j.mono fun _ _ h=>h.elim;rw[y];rw[p]at c ⊢;refine v1 (ae c) ?_;cases m:bv i<;>rw[m]at c<;>refine ai.dec (fun d=>?_) (fun d=>?_)<;>refine v4 (ae c) al6 al0 o2 ?_
   ·grind [ah]
   all_goals
    grind
  rintro e V ⟨v1,v2,v3,G,g,o5⟩;have o6:=G.own w (fun h=>O);refine ez (fun e J=>e.find 1=some (ptr H.size)/\e.find 2=some (ptr (H.size+1))/\e.find 3=some (ptr x)/\aj (fun z=>z=H.size) H0 J/\J.own x=some (kZ i)/\J.own H.size=some [i64 i,u32 (A0 i a),u32 (Cn i b),i64 k]) ?_ ?_
  ·have y:Cn i b=if cE i<2/\bv i=false then 0 else b:=by
    rcases ops i hi with rfl|rfl|rfl|rfl|rfl|rfl|rfl|rfl|rfl|rfl|rfl<;>rfl
   rw[y];rw[p]at g ⊢;refine v4 (ae g) v1 v2 v3 ?_;cases m:bv i<;>rw[m]at g<;>refine ai.dec (fun d=>?_) (fun d=>?_)<;>refine v7 (ae g) al6 al0 o5 v1 v2 v3 ?_
   ·grind [ah]
   all_goals
    grind
  rintro e H3 ⟨U,W,I,f3,o,o8⟩;refine ez (fun e J=>e.find 1=some (ptr H.size)/\e.find 2=some (ptr (H.size+1))/\aj (fun z=>z=H.size) H0 J/\J.own H.size=some [i64 i,u32 (A0 i a),u32 (Cn i b),i64 (EI i k)]) ?_ ?_
  ·rw[p]at o;refine v4 (ae o) U W I ?_;unfold EI;cases m:keyOf i<;>rw[m]at o<;>refine v6 al6 al0 o8 U W I ?_
   ·grind [ah]
   grind
  rintro e H4 ⟨x1,x2,P,o9⟩;have C:=P.own w (fun h=>O);refine v4 (ae o9) C x1 x2 ?_;simp(disch:=(first|exact aV|fail)) only[go_sem, ↓reduceIte,Zv,ci C];refine⟨by rw[yM hi];rfl,r.then ((P.mono fun z _ (h:z=H.size)=>(Or.inl h:z=H.size\/z=H.size+1)).wr (fun _=>.inr rfl) _) (fun z hz=>O)⟩
theorem rec_eq(op a b k z x b' h:Int):pw [(0,(none,.int)),(1,(none,.int)),(2,(none,.int)),(3,(none,.int))] [i64 op,u32 a,u32 b,i64 k] [i64 z,u32 x,u32 b',i64 h]=some (decide (op=z) && (decide (a=x) && (decide (b=b') && decide (k=h)))):=by
 by_cases w:op=z<;>by_cases n:a=x<;>by_cases m:b=b'<;>by_cases c:k=h<;>simp[pw,Vc.lK,tJ,cH,w,n,m,c]
def pU(op:Int)(a b:Nat)(k:Int):Bool:=decide (0<=op/\op<=10/\A0 op.toNat a=a/\Cn op.toNat b=b/\EI op.toNat k=k)
theorem Qj(op:Int)(a b:Nat)(k:Int):∃l,pT op a b k= .agg l.toArray/\l.length=4/\pw [(0,(none,.int)),(1,(none,.int)),(2,(none,.int)),(3,(none,.int))] l [i64 op,u32 a,u32 b,i64 k]=some (pU op a b k):=by
 by_cases h:0<=op/\op<=10
 ·obtain⟨i,rfl⟩:∃i:Nat,op=i:=⟨op.toNat,O⟩;rw[yM O];refine⟨_,rfl,rfl,?_⟩;rw[rec_eq];unfold pU;simp only[alg,Int.toNat_natCast];grind
 ·rw[tG h];refine⟨_,rfl,rfl,?_⟩;rw[rec_eq];unfold pU;have:¬ ((0:Int)=op):=O;grind
theorem yN(H:Hp)(op:Int)(a b:Nat)(k:Int):aD 106 [iw op a b k] H fun v J=>ak (v= .bool (pU op a b k)/\af H J):=by
 refine aL CY ?_;have n:af H (H.new 47 [i64 op,u32 a,u32 b,i64 k]):=bm;have x:=am H 47 [i64 op,u32 a,u32 b,i64 k];obtain⟨l,c,y,e⟩:=Qj op a b k;refine vs ?_;generalize H.new 47 [i64 op,u32 a,u32 b,i64 k]=w at*;refine di.intro (fun J=>J.own H.size=some [i64 op,u32 a,u32 b,i64 k]) x ?_;refine vs ?_;refine bG.intro (iw op a b k) (fun J m=>?_) ?_
 ·refine v1 (ae m) ?_;grind
 refine v1 (ae x) ?_;refine And.intro x ?_;refine vs ?_;refine(ja w op a b k).mono ?_;rintro _ g ⟨rfl,z⟩;refine And.intro (z.own x (fun h=>h)) ?_;simp(disch:=(first|exact aV|fail)) only[go_sem, ↓reduceIte,Zv,c,e,Option.map_some];exact⟨rfl,n.trans z⟩
section
variable {H : Hp} {s : Nat} {S : Nat → Prop} {t : jg}
abbrev Oo(s:Nat)(S:Nat->Prop)(H:Hp)(p:jg×Rp)(v:Value)(J:Hp):Prop:=v=PW p.2/\lQ s S H J p.1.w p.1.A p.1.q
abbrev Qk(s:Nat):Value:=.agg [ptr s].toArray
abbrev LJ:List Value:=AR
theorem Ql(H:Hp)(s:Nat)(l:List Value):∃x,((H.new 127 [ptr s]).new 47 l).new 54 LJ=x/\af H x/\x.own H.size=some [ptr s]/\x.own (H.size+1)=some l/\x.own (H.size+1+1)=some LJ/\x.size=H.size+3:=by
 refine⟨_,rfl,(bm.new _ _).new _ _,?_,?_,az (by simp only[ag]),by simp only[ag]⟩
 ·rw[ax (by simp only[ag];omega),ax (by simp only[ag];omega),am]
 ·rw[ax (by simp only[ag];omega)];exact az (by simp only[ag])
def TX(s:Nat)(S:Nat->Prop)(H:Hp)(b:Nat)(J:Hp)(w:Nw)(A:Ar)(q:Int):Prop:=∃x,j0 J s x w A q/\aj S H J/\(∀z,x z->S z\/H.size<=z)/\¬x b
theorem de{x:Hp}{w:Nw}{A:Ar}(f:af H x)(h:lQ s S x J w A q)(v:¬S b)(e:b<x.size):TX s S H b J w A q:=by
 obtain⟨a,m,n,c⟩:=h;have z:=f.size;exact⟨a,m,(f.mono fun _ _ h=>h.elim).trans n,Z,Z⟩
theorem TX.wr{w:Nw}{A:Ar}(h:TX s S H b J w A q)(c:H.size<=b)(l:List Value):TX s S H b (J.wr b l) w A q:=by
 obtain⟨z,n,a,m,x⟩:=h;exact⟨z,n.tmp x,tD a c,m,x⟩
theorem TX.out{w:Nw}{A:Ar}(h:TX s S H b J w A q):lQ s S H J w A q:=by
 obtain⟨x,a,z,n,m⟩:=h;exact⟨x,a,z,n⟩
theorem Ib(H:Hp)(b:Nat)(l:List Value):aj (fun x=>x=b) H (H.wr b l):=(aj.refl (fun x=>x=b) _).wr (fun _=>rfl) _
theorem gn(op:Int)(a b:Nat)(k:Int)(w:a<4294967296)(H:Hp):aD 166 [iw op a b k] H fun v J=>ak (v=dZ a b/\af H J):=by
 refine aL E7 ?_;refine vs ?_;have x:af H ((H.new 47 [i64 op,u32 a,u32 b,i64 k]).new 52 cB):=bm.new _ _;have h:((H.new 47 [i64 op,u32 a,u32 b,i64 k]).new 52 cB).own (H.size+1)=some cB:=az (by simp only[ag]);rw[wrap64 O O];generalize (H.new 47 [i64 op,u32 a,u32 b,i64 k]).new 52 cB=z at*;refine v1 (ci h) ?_;exact⟨rfl,x.then (Ib _ _ _) O⟩
theorem BX(h:j0 H s S t.w t.A t.q)(y:t.w.hs.length<65537)(op:Int)(r:gN a b k):aD 111 [Qk s,iw op a b k] H fun v J=>ak (Oo s S H (DX t) v J):=by
 have q:=h.slt;obtain⟨o,f,u,B⟩:=r;refine aL tO ?_;refine vs ?_;obtain⟨j,e,z,b0,p,c,P⟩:=Ql H s [i64 op,u32 a,u32 b,i64 k];rw[e];have n:¬S (H.size+1+1):=Z;have g:=h.ext z (fun _ _ h=>h);refine(qs g y).mono ?_;rintro _ d ⟨rfl,w⟩;have em:DX t=(⟨t.w.make,t.A,t.q⟩,⟨0,t.w.hs.length,0,0,0,0⟩):=by unfold DX;grind
 rw[em];have m:=aJ w c n;have x:=de z w n O;refine v1 m ?_;refine v1 (ci m) ?_;exact⟨rfl,(x.wr O _).out⟩
theorem Ay(h:j0 H s S t.w t.A t.q)(op:Int)(r:gN a b k):aD 118 [Qk s,iw op a b k] H fun v J=>ak (Oo s S H (t,JS t a) v J):=by
 have q:=h.slt;obtain⟨o,f,u,B⟩:=r;refine aL rK ?_;refine vs ?_;obtain⟨j,g,c,b0,p,e,P⟩:=Ql H s [i64 op,u32 a,u32 b,i64 k];rw[g];have m:¬S (H.size+1+1):=Z;have y:=h.ext c (fun _ _ h=>h);rw[wrap64 O O];refine(JW y a).mono ?_;rintro _ d ⟨rfl,w⟩;unfold JS;by_cases n:t.w.has a
 ·rw[if_pos n,if_neg (fun h=>h n)];have z:=aJ w e m;have x:=de c w m O;refine v1 z ?_;refine v1 (ci z) ?_;exact⟨rfl,(x.wr O _).out⟩
 ·rw[if_neg n,if_pos n];have z:=aJ w e m;have x:=de c w m O;refine v1 z ?_;refine v1 (ci z) ?_;exact⟨rfl,(x.wr O _).out⟩
theorem Ed(h:j0 H s S t.w t.A t.q)(op:Int)(j:gN a b k):aD 117 [Qk s,iw op a b k] H fun v J=>ak (Oo s S H (FH t a b) v J):=by
 have o:=h.slt;obtain⟨f,u,B,P⟩:=j;refine aL vz ?_;refine vs ?_;obtain⟨d,y,c,b0,q,g,L⟩:=Ql H s [i64 op,u32 a,u32 b,i64 k];rw[y];have m:¬S (H.size+1+1):=Z;have r:=h.ext c (fun _ _ h=>h);rw[wrap64 O O,wrap64 O O];refine(HU r a b).mono ?_;rintro _ p ⟨rfl,z⟩;unfold FH;by_cases n:t.w.has a/\t.w.has b
 ·by_cases e:(a:Int)=b
  ·rw[if_neg O]at z;rw[if_neg (fun h=>h n),if_pos e,if_neg (fun h=>h n),if_pos e];have w:=aJ z g m;have x:=de c z m O;refine v1 w ?_;refine v1 (ci w) ?_;exact⟨rfl,(x.wr O _).out⟩
  ·rw[if_pos Z]at z;rw[if_neg (fun h=>h n),if_neg e,if_neg (fun h=>h n),if_neg e];have w:=aJ z g m;have x:=de c z m O;refine v1 w ?_;refine v1 (ci w) ?_;exact⟨rfl,(x.wr O _).out⟩
 ·rw[if_neg Z]at z;rw[if_pos n,if_pos n];have w:=aJ z g m;have x:=de c z m O;refine v1 w ?_;refine v1 (ci w) ?_;exact⟨rfl,(x.wr O _).out⟩
theorem Az(h:j0 H s S t.w t.A t.q)(d:∀x:Int,0<=x->x<t.A.g.length->t.A.be x<4294967295)(p:0<=t.q/\t.q<18446744073709551615)(op:Int)(q:gN a b k):aD 112 [Qk s,iw op a b k] H fun v J=>ak (Oo s S H (FE t a k) v J):=by
 have u:=h.slt;obtain⟨B,P,L,A⟩:=q;refine aL rI ?_;refine vs ?_;obtain⟨o,j,m,b0,f,e,C⟩:=Ql H s [i64 op,u32 a,u32 b,i64 k];rw[j];have n:¬S (H.size+1+1):=Z;have y:=h.ext m (fun _ _ h=>h);rw[wrap64 O O];unfold FE;by_cases c:t.w.has a
 ·rw[if_neg (fun h=>h c)];refine(sD y c d p).mono ?_;rintro _ r (⟨g,rfl,z⟩| ⟨x,A',g,rfl,z⟩)
  ·rw[g];have w:=aJ z e n;have x:=de m z n O;refine v1 w ?_;refine v1 (ci w) ?_;exact⟨rfl,(x.wr O _).out⟩
  ·rw[g];have w:=aJ z e n;have x:=de m z n O;refine v1 w ?_;refine v1 (ci w) ?_;exact⟨rfl,(x.wr O _).out⟩
 ·rw[if_pos c];refine(HW y c k).mono ?_;rintro _ r ⟨rfl,z⟩;have w:=aJ z e n;have x:=de m z n O;refine v1 w ?_;refine v1 (ci w) ?_;exact⟨rfl,(x.wr O _).out⟩
theorem FQ(h:j0 H s S t.w t.A t.q)(op:Int)(o:gN a b k):aD 113 [Qk s,iw op a b k] H fun v J=>ak (Oo s S H (t,eA t a) v J):=by
 have L:=h.slt;obtain⟨A,C,K,T⟩:=o;refine aL xu ?_;refine vs ?_;obtain⟨u,p,m,b0,B,e,Q⟩:=Ql H s [i64 op,u32 a,u32 b,i64 k];rw[p];have n:¬S (H.size+1+1):=Z;have r:=h.ext m (fun _ _ h=>h);rw[wrap64 O O];by_cases g:t.w.has a
 ·refine(AY r g).mono ?_;rintro _ d (⟨P,rfl,z⟩| ⟨x,y,j,f,rfl,z⟩)
  ·have em:eA t a=er 172:=by unfold eA;grind [PY]
   rw[em];have w:=aJ z e n;have x:=de m z n O;refine v1 w ?_;refine v1 (ci w) ?_;exact⟨rfl,(x.wr O _).out⟩
  ·have em:eA t a=⟨0,0,x,t.A.be x,t.w.key x,0⟩:=by unfold eA;rw[if_neg (fun h=>h g),Lz j]
   rw[em];obtain⟨F,c,_,q,_⟩:=h.Of.1.nl (lS h.Of.1 j);rw[f]at c;injection c with c;subst c;rw[q];have w:=aJ z e n;have x:=de m z n O;refine v1 w ?_;refine v1 (ci w) ?_;exact⟨rfl,(x.wr O _).out⟩
 ·have em:eA t a=er 171:=by unfold eA;grind
  rw[em];refine(Gy r g).mono ?_;rintro _ d ⟨rfl,z⟩;have w:=aJ z e n;have x:=de m z n O;refine v1 w ?_;refine v1 (ci w) ?_;exact⟨rfl,(x.wr O _).out⟩
theorem yO(h:j0 H s S t.w t.A t.q)(op:Int)(o:gN a b k):aD 114 [Qk s,iw op a b k] H fun v J=>ak (Oo s S H (yE t a) v J):=by
 have L:=h.slt;obtain⟨A,C,K,T⟩:=o;refine aL qE ?_;refine vs ?_;obtain⟨u,p,m,b0,B,e,Q⟩:=Ql H s [i64 op,u32 a,u32 b,i64 k];rw[p];have n:¬S (H.size+1+1):=Z;have r:=h.ext m (fun _ _ h=>h);rw[wrap64 O O];by_cases g:t.w.has a
 ·refine(lT r g).mono ?_;rintro _ d (⟨P,rfl,z⟩| ⟨x,y,j,f,rfl,z⟩)
  ·have em:eA t a=er 172:=by unfold eA;grind [PY]
   unfold yE;rw[em];have w:=aJ z e n;have x:=de m z n O;refine v1 w ?_;refine v1 (ci w) ?_;exact⟨rfl,(x.wr O _).out⟩
  ·have em:eA t a=⟨0,0,x,t.A.be x,t.w.key x,0⟩:=by unfold eA;rw[if_neg (fun h=>h g),Lz j]
   unfold yE;rw[em];obtain⟨F,c,_,q,_⟩:=h.Of.1.nl (lS h.Of.1 j);rw[f]at c;injection c with c;subst c;rw[q];have w:=aJ z e n;have x:=de m z n O;refine v1 w ?_;refine v1 (ci w) ?_;exact⟨rfl,(x.wr O _).out⟩
 ·have em:eA t a=er 171:=by unfold eA;grind
  unfold yE;rw[em];refine(As r g).mono ?_;rintro _ d ⟨rfl,z⟩;have w:=aJ z e n;have x:=de m z n O;refine v1 w ?_;refine v1 (ci w) ?_;exact⟨rfl,(x.wr O _).out⟩
theorem FR(h:j0 H s S t.w t.A t.q)(op:Int)(P:gN a b k):aD 119 [Qk s,iw op a b k] H fun v J=>ak (Oo s S H (t,JT t a b) v J):=by
 have K:=h.slt;obtain⟨L,T,F,Q⟩:=P;refine aL xv ?_;refine vs ?_;obtain⟨d,o,y,b0,p,q,U⟩:=Ql H s [i64 op,u32 a,u32 b,i64 k];rw[o];have c:¬S (H.size+1+1):=Z;have f:=h.ext y (fun _ _ h=>h);have j:¬S H.size:=Z;refine di.intro (fun J=>J.own H.size=some [ptr s]) b0 ?_;refine vs ?_;refine bG.intro (ptr s) (fun J B=>by refine v1 (ae B) ?_;trivial) ?_;refine v1 (ae p) ?_;refine And.intro b0 ?_;refine vs ?_;refine(gn op a b k L d).mono ?_;rintro _ C ⟨rfl,n⟩;have g:=n.own b0 (fun h=>h);have r:=n.own q (fun h=>h);have W:=n.size;have u:=f.ext n (fun _ _ h=>h);refine And.intro g ?_;refine vs ?_;refine(JX u a b).mono ?_;rintro _ A ⟨rfl,m⟩;unfold JT;by_cases e:t.A.yC a b
 ·rw[if_pos e,if_neg (fun h=>h e)];have w:=aJ m r c;have z:=aJ m g j;have x:=de (y.trans n) m c O;refine And.intro z ?_;refine v1 w ?_;refine And.intro z ?_;refine v1 (ci w) ?_;refine And.intro z ?_;refine v1 (ci w) ?_;exact⟨rfl,(x.wr O _).out⟩
 ·rw[if_neg e,if_pos e];have w:=aJ m r c;have z:=aJ m g j;have x:=de (y.trans n) m c O;refine And.intro z ?_;refine v1 w ?_;refine And.intro z ?_;refine v1 (ci w) ?_;refine And.intro z ?_;refine v1 (ci w) ?_;exact⟨rfl,(x.wr O _).out⟩
theorem Ee(h:j0 H s S t.w t.A t.q)(op:Int)(P:gN a b k):aD 120 [Qk s,iw op a b k] H fun v J=>ak (Oo s S H (t,JU t a b) v J):=by
 have K:=h.slt;obtain⟨L,T,F,Q⟩:=P;refine aL vA ?_;refine vs ?_;obtain⟨d,o,y,b0,p,q,U⟩:=Ql H s [i64 op,u32 a,u32 b,i64 k];rw[o];have c:¬S (H.size+1+1):=Z;have f:=h.ext y (fun _ _ h=>h);have j:¬S H.size:=Z;refine di.intro (fun J=>J.own H.size=some [ptr s]) b0 ?_;refine vs ?_;refine bG.intro (ptr s) (fun J B=>by refine v1 (ae B) ?_;trivial) ?_;refine v1 (ae p) ?_;refine And.intro b0 ?_;refine vs ?_;refine(gn op a b k L d).mono ?_;rintro _ C ⟨rfl,n⟩;have g:=n.own b0 (fun h=>h);have r:=n.own q (fun h=>h);have W:=n.size;have u:=f.ext n (fun _ _ h=>h);refine And.intro g ?_;refine vs ?_;refine(HV u a b).mono ?_;rintro _ A ⟨rfl,m⟩;unfold JU;by_cases e:t.A.yC a b
 ·rw[if_pos e,if_neg (fun h=>h e)];have w:=aJ m r c;have z:=aJ m g j;have x:=de (y.trans n) m c O;refine And.intro z ?_;refine v1 w ?_;refine And.intro z ?_;refine v1 (ci w) ?_;refine And.intro z ?_;refine v1 (ci w) ?_;exact⟨rfl,(x.wr O _).out⟩
 ·rw[if_neg e,if_pos e];have w:=aJ m r c;have z:=aJ m g j;have x:=de (y.trans n) m c O;refine And.intro z ?_;refine v1 w ?_;refine And.intro z ?_;refine v1 (ci w) ?_;refine And.intro z ?_;refine v1 (ci w) ?_;exact⟨rfl,(x.wr O _).out⟩
theorem AA(h:j0 H s S t.w t.A t.q)(op:Int)(P:gN a b k):aD 116 [Qk s,iw op a b k] H fun v J=>ak (Oo s S H (FG t a b) v J):=by
 have K:=h.slt;obtain⟨L,T,F,Q⟩:=P;refine aL rJ ?_;refine vs ?_;obtain⟨d,o,g,b0,p,q,U⟩:=Ql H s [i64 op,u32 a,u32 b,i64 k];rw[o];have c:¬S (H.size+1+1):=Z;have f:=h.ext g (fun _ _ h=>h);have j:¬S H.size:=Z;refine di.intro (fun J=>J.own H.size=some [ptr s]) b0 ?_;refine vs ?_;refine bG.intro (ptr s) (fun J B=>by refine v1 (ae B) ?_;trivial) ?_;refine v1 (ae p) ?_;refine And.intro b0 ?_;refine vs ?_;refine(gn op a b k L d).mono ?_;rintro _ C ⟨rfl,m⟩;have e:=m.own b0 (fun h=>h);have r:=m.own q (fun h=>h);have W:=m.size;have u:=f.ext m (fun _ _ h=>h);refine And.intro e ?_;refine vs ?_;refine(D0 u a b).mono ?_;unfold FG;rintro _ A (⟨y,rfl,w⟩| ⟨y,rfl,w⟩)
 ·rw[if_pos y];have n:=aJ w r c;have z:=aJ w e j;have x:=de (g.trans m) w c O;refine And.intro z ?_;refine v1 n ?_;refine And.intro z ?_;refine v1 (ci n) ?_;refine And.intro z ?_;refine v1 (ci n) ?_;exact⟨rfl,(x.wr O _).out⟩
 ·rw[if_neg (fun h=>h y)];have n:=aJ w r c;have z:=aJ w e j;have x:=de (g.trans m) w c O;refine And.intro z ?_;refine v1 n ?_;refine And.intro z ?_;refine v1 (ci n) ?_;refine And.intro z ?_;refine v1 (ci n) ?_;exact⟨rfl,(x.wr O _).out⟩
theorem wK(h:j0 H s S t.w t.A t.q)(op:Int)(G:gN a b k):aD 115 [Qk s,iw op a b k] H fun v J=>ak (Oo s S H (FF t a b k) v J):=by
 have X:=h.slt;obtain⟨M,r2,r3,r4⟩:=G;refine aL oQ ?_;refine vs ?_;obtain⟨K,Q,d,b0,g,F,z0⟩:=Ql H s [i64 op,u32 a,u32 b,i64 k];rw[Q];have e:¬S (H.size+1+1):=Z;have V:=h.ext d (fun _ _ h=>h);have u:¬S H.size:=Z;have B:¬S (H.size+1):=Z;refine di.intro (fun J=>J.own H.size=some [ptr s]/\J.own (H.size+1)=some [i64 op,u32 a,u32 b,i64 k]) ⟨b0,g⟩ ?_;refine vs ?_;refine bG.intro (ptr s) (fun J f=>by refine v1 (ae f.1) ?_;trivial) ?_;refine vs ?_;refine bG.intro (i64 k) (fun J f=>by refine v1 (ae f.2) ?_;trivial) ?_;refine v1 (ae g) ?_;refine And.intro ⟨b0,g⟩ ?_;refine vs ?_;refine(gn op a b k M K).mono ?_;rintro _ E ⟨rfl,m⟩;have r:=m.own b0 (fun h=>h);have j:=m.own g (fun h=>h);have o:=m.own F (fun h=>h);have z9:=m.size;have P:=V.ext m (fun _ _ h=>h);refine And.intro ⟨r,j⟩ ?_;refine vs ?_;unfold FF;by_cases p:t.A.yC a b
 ·obtain⟨A,rfl⟩:=id p;rw[if_neg (fun h=>h p)];refine(uE P A k).mono ?_;rintro _ T ⟨y,D,C⟩;obtain⟨y',q,U,W,I⟩:=h.Of.1.nl A;rw[D]at q;injection q with q;subst q;rw[U,W,I]at C;rcases C with ⟨L,rfl,z⟩| ⟨L,rfl,z⟩
  ·rw[if_pos L];have c:=aJ z o e;have w:=aJ z r u;have n:=aJ z j B;have x:=de (d.trans m) z e O;refine And.intro ⟨w,n⟩ ?_;refine v1 c ?_;refine And.intro ⟨w,n⟩ ?_;refine v1 (ci c) ?_;exact⟨rfl,(x.wr O _).out⟩
  ·rw[if_neg O];have c:=aJ z o e;have w:=aJ z r u;have n:=aJ z j B;have x:=de (d.trans m) z e O;refine And.intro ⟨w,n⟩ ?_;refine v1 c ?_;refine And.intro ⟨w,n⟩ ?_;refine v1 (ci c) ?_;exact⟨rfl,(x.wr O _).out⟩
 ·rw[if_pos p];refine(yF P p k).mono ?_;rintro _ T ⟨rfl,z⟩;have c:=aJ z o e;have w:=aJ z r u;have n:=aJ z j B;have x:=de (d.trans m) z e O;refine And.intro ⟨w,n⟩ ?_;refine v1 c ?_;refine And.intro ⟨w,n⟩ ?_;refine v1 (ci c) ?_;exact⟨rfl,(x.wr O _).out⟩
theorem FS(h:j0 H s S t.w t.A t.q)(op:Int)(c:gN a b k):aD 110 [Qk s,iw op a b k] H fun v J=>ak (Oo s S H (t,er 181) v J):=by
 have y:=h.slt;obtain⟨r,j,d,p⟩:=c;refine aL xt ?_;refine vs ?_;obtain⟨e,w,x,b0,g,z,q⟩:=Ql H s [i64 op,u32 a,u32 b,i64 k];rw[w];have m:¬S (H.size+1+1):=Z;have n:=h.ext x (fun _ _ h=>h);refine v1 (ci z) ?_;exact⟨rfl,((de x (lQ.same n (aj.refl _ _)) m O).wr O _).out⟩
def qy:List Value:=[110,111,112,113,114,115,116,117,118,119,120].map fun f=>.func (.func f) #[] #[]
theorem BY(H:Hp):aD 67 [] H fun v J=>ak (v= .agg qy.toArray/\af H J):=by
 refine aL Hc ?_;refine vs ?_;simp(disch:=(first|exact aV|fail)) only[go_sem, ↓reduceIte,Zv,ci (am _ _ _)];exact⟨rfl,bm.then (Ib _ _ _) O⟩
def wL(op:Int):Nat:=if 0<=op/\op<=10 then op.toNat else 0
theorem MC(op:Int):wL op<=10:=by unfold wL;grind
theorem GB(op:Int)(a b:Nat)(k:Int):pT op a b k=iw (wL op) (A0 (wL op) a) (Cn (wL op) b) (EI (wL op) k):=by
 unfold pT wL;split
 ·grind
 ·rfl
noncomputable def FT(t:jg)(op:Int)(a b:Nat)(k:Int):jg×Rp:=RU t (wL op) (A0 (wL op) a) (Cn (wL op) b) (EI (wL op) k)
theorem LK(x:gN a b k)(i:Nat):gN (A0 i a) (Cn i b) (EI i k):=by
 obtain⟨h,z,w,n⟩:=x;constructor<;>grind [Cn,EI,A0]
theorem FU(h:j0 H s S t.w t.A t.q)(G:t.w.hs.length<65537)(V:∀x:Int,0<=x->x<t.A.g.length->t.A.be x<4294967295)(D:0<=t.q/\t.q<18446744073709551615)(op:Int)(M:gN a b k):
  aD 22 [ptr s,iw op a b k] H fun v J=>ak (Oo s S H (FT t op a b k) v J):=by
 have X:=h.slt;refine aL KR ?_;refine vs ?_;have K:af H ((H.new 47 [i64 op,u32 a,u32 b,i64 k]).new 54 LJ):=bm.new _ _;have b0:((H.new 47 [i64 op,u32 a,u32 b,i64 k]).new 54 LJ).own H.size=some [i64 op,u32 a,u32 b,i64 k]:=by rw[ax (by simp only[ag];omega)];exact am _ _ _
 have Q:((H.new 47 [i64 op,u32 a,u32 b,i64 k]).new 54 LJ).own (H.size+1)=some LJ:=az (by simp only[ag]);have d:¬S H.size:=Z;have m:¬S (H.size+1):=Z;generalize (H.new 47 [i64 op,u32 a,u32 b,i64 k]).new 54 LJ=T at*;refine(ja T op a b k).mono ?_;rintro _ u ⟨rfl,B⟩;rw[GB];unfold FT;have hi:=MC op;have j:=LK M (wL op);generalize wL op=i at*;generalize A0 i a=o at*;generalize Cn i b=b' at*;generalize EI i k=f at*;have A:=B.own b0 (fun h=>h);have U:=B.own Q (fun h=>h);refine v1 A ?_;have P:=Ib u H.size [i64 i,u32 o,u32 b',i64 f];have C:(u.wr H.size [i64 i,u32 o,u32 b',i64 f]).own H.size=some [i64 i,u32 o,u32 b',i64 f]:=ah A;have W:=P.own U O;have I:=((h.ext K (fun _ _ h=>h)).ext B (fun _ _ h=>h)).ext P Z;have y:af H (u.wr H.size [i64 i,u32 o,u32 b',i64 f]):=(K.trans B).then P O;generalize u.wr H.size [i64 i,u32 o,u32 b',i64 f]=F at*;refine di.intro (fun J=>J.own H.size=some [i64 i,u32 o,u32 b',i64 f]) C ?_;refine vs ?_;refine bG.intro (i64 i) (fun J L=>by refine v1 (ae L) ?_;trivial) ?_;refine vs ?_;refine bG.intro (iw i o b' f) (fun J L=>by refine v1 (ae L) ?_;grind) ?_;refine vs ?_;refine(BY F).mono ?_;rintro _ E ⟨rfl,c⟩;have e:=c.own C (fun h=>h);have g:=c.own W (fun h=>h);have r:=I.ext c (fun _ _ h=>h);have p:=aB g;refine And.intro e ?_;rcases ops i hi with rfl|rfl|rfl|rfl|rfl|rfl|rfl|rfl|rfl|rfl|rfl;all_goals
  refine vs ?_;refine⟨O,?_⟩;refine vs ?_
 ·rw[show qy[(((0:Nat):Int)).toNat*1]? =some (.func (.func 110) #[] #[])from rfl];refine vs ?_;refine And.intro (by rfl) ?_;refine(FS r _ j).mono ?_;rintro _ q ⟨rfl,z⟩;have w:=aJ z g m;have n:=aJ z e d;have x:=de (y.trans c) z m p;refine And.intro n ?_;refine v1 w ?_;refine And.intro n ?_;refine v1 (ci w) ?_;exact⟨rfl,(x.wr O _).out⟩
 ·rw[show qy[(((1:Nat):Int)).toNat*1]? =some (.func (.func 111) #[] #[])from rfl];refine vs ?_;refine And.intro (by rfl) ?_;refine(BX r G _ j).mono ?_;rintro _ q ⟨rfl,z⟩;have w:=aJ z g m;have n:=aJ z e d;have x:=de (y.trans c) z m p;refine And.intro n ?_;refine v1 w ?_;refine And.intro n ?_;refine v1 (ci w) ?_;exact⟨rfl,(x.wr O _).out⟩
 ·rw[show qy[(((2:Nat):Int)).toNat*1]? =some (.func (.func 112) #[] #[])from rfl];refine vs ?_;refine And.intro (by rfl) ?_;refine(Az r V D _ j).mono ?_;rintro _ q ⟨rfl,z⟩;have w:=aJ z g m;have n:=aJ z e d;have x:=de (y.trans c) z m p;refine And.intro n ?_;refine v1 w ?_;refine And.intro n ?_;refine v1 (ci w) ?_;exact⟨rfl,(x.wr O _).out⟩
 ·rw[show qy[(((3:Nat):Int)).toNat*1]? =some (.func (.func 113) #[] #[])from rfl];refine vs ?_;refine And.intro (by rfl) ?_;refine(FQ r _ j).mono ?_;rintro _ q ⟨rfl,z⟩;have w:=aJ z g m;have n:=aJ z e d;have x:=de (y.trans c) z m p;refine And.intro n ?_;refine v1 w ?_;refine And.intro n ?_;refine v1 (ci w) ?_;exact⟨rfl,(x.wr O _).out⟩
 ·rw[show qy[(((4:Nat):Int)).toNat*1]? =some (.func (.func 114) #[] #[])from rfl];refine vs ?_;refine And.intro (by rfl) ?_;refine(yO r _ j).mono ?_;rintro _ q ⟨rfl,z⟩;have w:=aJ z g m;have n:=aJ z e d;have x:=de (y.trans c) z m p;refine And.intro n ?_;refine v1 w ?_;refine And.intro n ?_;refine v1 (ci w) ?_;exact⟨rfl,(x.wr O _).out⟩
 ·rw[show qy[(((5:Nat):Int)).toNat*1]? =some (.func (.func 115) #[] #[])from rfl];refine vs ?_;refine And.intro (by rfl) ?_;refine(wK r _ j).mono ?_;rintro _ q ⟨rfl,z⟩;have w:=aJ z g m;have n:=aJ z e d;have x:=de (y.trans c) z m p;refine And.intro n ?_;refine v1 w ?_;refine And.intro n ?_;refine v1 (ci w) ?_;exact⟨rfl,(x.wr O _).out⟩
 ·rw[show qy[(((6:Nat):Int)).toNat*1]? =some (.func (.func 116) #[] #[])from rfl];refine vs ?_;refine And.intro (by rfl) ?_;refine(AA r _ j).mono ?_;rintro _ q ⟨rfl,z⟩;have w:=aJ z g m;have n:=aJ z e d;have x:=de (y.trans c) z m p;refine And.intro n ?_;refine v1 w ?_;refine And.intro n ?_;refine v1 (ci w) ?_;exact⟨rfl,(x.wr O _).out⟩
 ·rw[show qy[(((7:Nat):Int)).toNat*1]? =some (.func (.func 117) #[] #[])from rfl];refine vs ?_;refine And.intro (by rfl) ?_;refine(Ed r _ j).mono ?_;rintro _ q ⟨rfl,z⟩;have w:=aJ z g m;have n:=aJ z e d;have x:=de (y.trans c) z m p;refine And.intro n ?_;refine v1 w ?_;refine And.intro n ?_;refine v1 (ci w) ?_;exact⟨rfl,(x.wr O _).out⟩
 ·rw[show qy[(((8:Nat):Int)).toNat*1]? =some (.func (.func 118) #[] #[])from rfl];refine vs ?_;refine And.intro (by rfl) ?_;refine(Ay r _ j).mono ?_;rintro _ q ⟨rfl,z⟩;have w:=aJ z g m;have n:=aJ z e d;have x:=de (y.trans c) z m p;refine And.intro n ?_;refine v1 w ?_;refine And.intro n ?_;refine v1 (ci w) ?_;exact⟨rfl,(x.wr O _).out⟩
 ·rw[show qy[(((9:Nat):Int)).toNat*1]? =some (.func (.func 119) #[] #[])from rfl];refine vs ?_;refine And.intro (by rfl) ?_;refine(FR r _ j).mono ?_;rintro _ q ⟨rfl,z⟩;have w:=aJ z g m;have n:=aJ z e d;have x:=de (y.trans c) z m p;refine And.intro n ?_;refine v1 w ?_;refine And.intro n ?_;refine v1 (ci w) ?_;exact⟨rfl,(x.wr O _).out⟩
 ·rw[show qy[(((10:Nat):Int)).toNat*1]? =some (.func (.func 120) #[] #[])from rfl];refine vs ?_;refine And.intro (by rfl) ?_;refine(Ee r _ j).mono ?_;rintro _ q ⟨rfl,z⟩;have w:=aJ z g m;have n:=aJ z e d;have x:=de (y.trans c) z m p;refine And.intro n ?_;refine v1 w ?_;refine And.intro n ?_;refine v1 (ci w) ?_;exact⟨rfl,(x.wr O _).out⟩
end
end
end Go.Proofs.YtnanofhkpglbaaaGreatDoor
namespace Go.Proofs.YtnanofhkpglbaaaGreatDoor
open Go Go.Vc
variable{i a b op:Nat}{k:Int}{H:Hp}
theorem yP{v:Value}{fp:Option Nat}(c:UInt8)(ws:List (List UInt8))(h:Sl H 1 v ws.length (ws.map aA) fp)(L:(Lib.join ws [c]).length<=1000000)(A:ws.length<=1000000):
  aD 107 [v,aA [c]] H fun v J=>ak (v=aA (Lib.join ws [c])/\af H J):=fun w n=>by
 obtain⟨o,m⟩:=h;cases fp with
 |none=>
  obtain⟨a,rfl⟩:=m;have:ws=[]:=Z;subst this;refine(Tryz.strings_Join_none none 0 ⟨[c].toArray⟩ w).mono ?_;rintro e w' ⟨rfl,rfl⟩;exact⟨_,rfl,⟨rfl,rfl⟩,rfl,by rw[<-n];exact aj.refl _ _⟩
 |some b=>
  obtain⟨l,r,rfl,a,f,u,B⟩:=m;have q:=ae a;have hm:(ws.map fun x=>(⟨x.toArray⟩:ByteArray)).map (·.data.toList)=ws:=by
   rw[List.map_map];exact(al7 fun x _=>rfl).trans (List.map_id ws)
  have p:∀ (j:Nat) (x:ByteArray),(ws.map fun x=>(⟨x.toArray⟩:ByteArray))[j]? =some x->w.cell? ⟨b,0+j,none⟩=some (.string x):=fun j x z=>by
   rw[cJ rfl (by rw[n];exact q),ak7];rw[alz]at z;cases g:ws[j]? with
   |none=>grind
   |some y=>
    rw[g]at z;injection z with z;subst z;have P:(ws.map aA)[j]? =some (aA y):=by rw[alz,g];rfl
    grind
  have key:=Tryz.strings_Join b 0 r (ws.map fun x=>(⟨x.toArray⟩:ByteArray)) ⟨[c].toArray⟩ w p (by rw[n];exact aB a) Z Z Z;rw[alA,hm]at key;refine key.mono ?_;rintro e w' ⟨rfl,d⟩;obtain⟨s1,C⟩:=pQ d;exact⟨_,rfl,s1,rfl,Z⟩
theorem NP(h:op<=10)(x:gN a b k):∀w∈dL op a b k,w.length<=50:=by
 have z:=cF (u:=a) (by have:=x.la;omega);have lb:=cF (u:=b) (by have:=x.lb;omega);have n:=bU x.k0 x.k1;have m:(bV op).length<=8:=by rcases ops op h with rfl|rfl|rfl|rfl|rfl|rfl|rfl|rfl|rfl|rfl|rfl<;>simp[bV]
 grind [dL]
theorem J3{j:Nat}(h:j<=10)(ws:List (List UInt8)):dI j (A0 j (yQ ws)) (Cn j (AB j ws)) (EI j (BZ j ws)):=by
 have x:yQ ws<4294967296:=by
  unfold yQ;split
  ·exact Ef _
  ·omega
 have z:AB j ws<4294967296:=by
  unfold AB;split
  ·exact Ef _
  ·split
   ·exact Ef _
   ·omega
 have w: -9223372036854775808<=BZ j ws/\BZ j ws<=9223372036854775807:=by
  unfold BZ;split
  ·exact Qm _
  ·omega
 unfold A0 Cn EI;refine⟨h,?_,?_,?_,?_,Z,Z,Z⟩<;>split<;>omega
theorem Ic(h:dI op a b k):pU op a b k=true:=by
 cases h;grind [pU,Cn,EI,A0]
theorem R3{op:Int}(x:gN a b k)(h:pU op a b k=true):∃i:Nat,op=i/\dI i a b k:=by
 obtain⟨m,c,z,w,n⟩:=of_decide_eq_true h;obtain⟨i,rfl⟩:∃i:Nat,op=i:=Z;rw[Int.toNat_natCast]at z w n;refine⟨i,rfl,O,x.la,x.lb,x.k0,x.k1,fun e=>?_,fun e=>?_,fun e=>?_⟩
 ·rw[<-z];unfold A0;grind
 ·rw[<-w];unfold Cn;grind
 ·rw[<-n];unfold EI;grind
theorem AC(he:kY H){op:Int}(y:gN a b k):aD 63 [iw op a b k] H fun v J=>ak (v=aA (if pU op a b k then jq op.toNat a b k else[])/\af H J):=by
 refine Rh EZ ⟨rfl,?_⟩;have I:af H (H.new 47 [i64 op,u32 a,u32 b,i64 k]):=bm;have b1:=am H 47 [i64 op,u32 a,u32 b,i64 k];refine v1 uN.eq_1 ?_;generalize H.new 47 [i64 op,u32 a,u32 b,i64 k]=H0 at*;refine(yN H0 op a b k).mono ?_;rintro _ Ha ⟨rfl,Q⟩;have B:=Q.own b1 (fun h=>h);cases hr0:pU op a b k
 ·refine v1 al6 ?_;exact⟨rfl,I.trans Q⟩
 have G:=of_decide_eq_true hr0;obtain⟨g1,g2,g3,g4,g5⟩:=G;obtain⟨i,rfl⟩:∃i:Nat,op=i:=Z;have hi:i<=10:=O;refine v1 al0 ?_;refine ez (fun e J=>e.find 1=some (ptr H.size)/\∃x,e.find 3=some (ptr x)/\Ha.size<=x/\af Ha J/\J.own x=some (kZ i)) ?_ ?_
 ·refine di.intro (fun J=>J.own H.size=some [i64 i,u32 a,u32 b,i64 k]) B ?_;refine vs ?_;refine bG.intro (i64 i) (fun J A=>?_) ?_
  ·refine v1 (ae A) ?_;grind
  refine vs ?_;have QI:H.size<Ha.size:=aB B;have p1:=am Ha 117 bM;have q1:af Ha (Ha.new 117 bM):=bm;have D:=q1.own B (fun h=>h);have z1:(Ha.new 117 bM).size=Ha.size+1:=by rw[ag]
  refine ry.intro ?_ ?_
  ·refine vs ?_;refine(eo Ha).mono ?_;rintro _ _ ⟨rfl,rfl⟩;refine And.intro D ?_;refine vs ?_;generalize Ha.new 117 bM=w at*;refine⟨O,?_⟩;have X:=am w 117 [.string ⟨#[]⟩,i64 0,.bool false,.bool false];have q2:af w (w.new 117 [.string ⟨#[]⟩,i64 0,.bool false,.bool false]):=bm;have i2:=q2.own D (fun h=>h);have p12:=q2.own p1 (fun h=>h);have fin:∀l',l'=[aA (bV i),i64 (cE i),.bool (bv i),.bool (keyOf i)]->((w.new 117 [.string ⟨#[]⟩,i64 0,.bool false,.bool false]).wr w.size l').own H.size=some [i64 i,u32 a,u32 b,i64 k]/\af Ha ((w.new 117 [.string ⟨#[]⟩,i64 0,.bool false,.bool false]).wr w.size l')/\((w.new 117 [.string ⟨#[]⟩,i64 0,.bool false,.bool false]).wr w.size l').own w.size=some (kZ i):=fun l' e=>by
    subst e;refine⟨by grind [aG],(q1.trans q2).then ((aj.refl (fun z=>z=w.size) _).wr (fun _=>rfl) _) O,ah X⟩
   refine ry.intro ?_ ?_
   ·refine v4 (ae p1) Int.toNat_natCast ak7 (fJ hi) ?_;refine⟨by rw[me];omega,D,?_⟩;refine vs ?_;refine And.intro O ?_;refine v2 (fJ hi) X ?_;obtain⟨g1,g2,g3⟩:=fin _ rfl;refine And.intro O ?_;refine vs ?_;grind
   ·refine vs ?_;refine And.intro O ?_;refine v4 (ae p12) Int.toNat_natCast ak7 (fJ hi) ?_;refine⟨by rw[me];omega,O,?_⟩;refine v2 (fJ hi) X ?_;obtain⟨g1,g2,g3⟩:=fin _ rfl;refine And.intro O ?_;refine vs ?_;grind
  ·have p3:=am Ha 117 [.string ⟨#[]⟩,i64 0,.bool false,.bool false];have q3:af Ha (Ha.new 117 [.string ⟨#[]⟩,i64 0,.bool false,.bool false]):=bm;have i3:=q3.own B (fun h=>h);have z3:(Ha.new 117 [.string ⟨#[]⟩,i64 0,.bool false,.bool false]).size=Ha.size+1:=by rw[ag]
   refine vs ?_;refine And.intro O ?_;refine vs ?_;generalize Ha.new 117 [.string ⟨#[]⟩,i64 0,.bool false,.bool false]=w at*;refine(eo w).mono ?_;rintro _ _ ⟨rfl,rfl⟩;have p4:=am w 117 bM;have q4:af w (w.new 117 bM):=bm;have i4:=q4.own i3 (fun h=>h);have p34:=q4.own p3 (fun h=>h);refine And.intro i4 ?_;refine vs ?_;generalize w.new 117 bM=m at*;refine⟨O,?_⟩;refine v4 (ae p4) Int.toNat_natCast ak7 (fJ hi) ?_;refine⟨by rw[me];omega,i4,?_⟩;refine v2 (fJ hi) p34 ?_;refine And.intro O ?_;refine vs ?_;exact⟨trivial,_,rfl,O,(q3.trans q4).then ((aj.refl (fun z=>z=Ha.size) _).wr (fun _=>rfl) _) O,ah p34⟩
 rintro e w ⟨P,x,e3,hx,T,o1⟩;have M:=T.own B (fun h=>h);have G:kZ i=[aA (bV i),i64 (cE i),.bool (bv i),.bool (keyOf i)]:=rfl;rw[G]at o1;have W:=((he.fresh I).fresh Q).fresh T;refine ez (fun e J=>e.find 1=some (ptr H.size)/\e.find 3=some (ptr x)/\e.find 4=some (aA (Lib.decDigits a))/\e.find 5=some (aA (Lib.decDigits b))/\af w J) ?_ ?_
 ·refine di.intro (fun J=>J.own H.size=some [i64 i,u32 a,u32 b,i64 k]) M ?_;refine v1 P ?_;refine bG.intro (u32 a) (fun J A=>?_) ?_
  ·refine v2 (ae A) P ?_;grind
  have wa:IntKind.i64.wrap (a:Int)=a:=wrap64 O (by have:=y.la;omega);have wb:IntKind.i64.wrap (b:Int)=b:=wrap64 O (by have:=y.lb;omega);refine v1 P ?_;refine bG.intro (u32 b) (fun J A=>?_) ?_
  ·refine v2 (ae A) P ?_;grind
  refine v3 P wa wb ?_;refine(bi W.sA (n:=(a:Int)) O (by have:=y.la;omega)).mono ?_;rintro _ m ⟨rfl,d⟩;refine And.intro (d.own M (fun h=>h)) ?_;refine v3 Lib.itoa_nonneg wa wb ?_;refine(bi (W.fresh d).sA (n:=(b:Int)) O (by have:=y.lb;omega)).mono ?_;rintro _ f ⟨rfl,L⟩;refine And.intro ((d.trans L).own M (fun h=>h)) ?_;refine v3 Lib.itoa_nonneg P e3 ?_;exact⟨trivial,trivial,trivial,trivial,d.trans L⟩
 rintro e m ⟨v1,v3,v4,v5,d⟩;have E:=d.own o1 (fun h=>h);simp(disch:=(first|exact aV|fail)) only[go_sem, ↓reduceIte,Zv,v1,v3,v4,v5,ae E];have la:=cF (u:=a) (by have:=y.la;omega);have lb:=cF (u:=b) (by have:=y.lb;omega);have lk:=bU y.k0 y.k1;have sl0:Sl (m.new 9 [aA (bV i)]) 1 (.slice (some ⟨m.size,0,none⟩) 1 1) 1 ([bV i].map aA) (some m.size):=Sl.bs (size:=1) (n:=1) (xs:=[aA (bV i)]) rfl rfl;have L:af m (m.new 9 [aA (bV i)]):=bm;have Kj:(m.new 9 [aA (bV i)]).size=m.size+1:=by rw[ag]
 generalize m.new 9 [aA (bV i)]=f at*;have C:=L.own E (fun h=>h);have YN:∀ws:List (List UInt8),dK (ws.map aA):=fun ws v hv=>by
  obtain⟨x,_,rfl⟩:=alQ.1 hv;rfl
 refine ez (fun e J=>e.find 1=some (ptr H.size)/\e.find 3=some (ptr x)/\∃v n ws fp,e.find 6=some v/\n=ws.length/\Sl J 1 v n (ws.map aA) fp/\(∀b,fp=some b->m.size<=b)/\ws=bV i::(if bv i then[Lib.decDigits a++46::Lib.decDigits b]else if cE i=2 then[Lib.decDigits a,Lib.decDigits b]else if cE i=1 then[Lib.decDigits a]else[])/\af m J) ?_ ?_
 ·simp(disch:=(first|exact aV|fail)) only[go_sem, ↓reduceIte,Zv,ae C];have more:∀ (q:List (List UInt8)) (n:Nat),q.length=n->n<=2->∀ {K:Value->Hp->Prop},(∀j J r,Sl J 1 j (1+n) (([bV i]++q).map aA) r->(∀b,r=some b->m.size<=b)->af m J->K j J)->
    eh 9 1 16 [.string ⟨#[]⟩] (.slice (some ⟨m.size,0,none⟩) 1 1) (.slice (some ⟨f.size,0,none⟩) n n) (f.new 9 (q.map aA)) K:=fun q n hy hn K hK=>by
   have p:af f (f.new 9 (q.map aA)):=bm;refine Sl.append (sl0.ext p (fun _ _ h=>h)) (Sl.bs (size:=1) (n:=n) (xs:=q.map aA) (by simp[hy]) rfl).rd rfl (YN q) O ?_;intro j J r s5 e5 g;refine hK j J r Z ?_ ?_
   ·rintro c rfl;rcases g with g| ⟨c',g,Dx,JH⟩
    ·injection g with g;omega
    ·injection g with g;have:=ag f 9 (q.map aA);omega
   ·exact(L.trans p).then e5 Z
  cases V:bv i<;>rw[V]at C<;>simp(disch:=(first|exact aV|fail)) only[go_sem, ↓reduceIte,Zv,ae C]
  ·refine ai.dec (fun h2=>?_) (fun h2=>?_)<;>simp(disch:=(first|exact aV|fail)) only[go_sem, ↓reduceIte,Zv,ae C]
   ·refine more [Lib.decDigits a,Lib.decDigits b] 2 rfl O fun j J r s5 g o=>?_;refine vs ?_;grind
   refine ai.dec (fun h1=>?_) (fun h1=>?_)<;>simp(disch:=(first|exact aV|fail)) only[go_sem, ↓reduceIte,Zv,ae C]
   ·refine more [Lib.decDigits a] 1 rfl O fun j J r s5 g o=>?_;refine vs ?_;grind
   grind
  ·rw[bI _ [46] Z];refine vs ?_;rw[bI (Lib.decDigits a++[46]) _ Z];refine vs ?_;refine more [Lib.decDigits a++[46]++Lib.decDigits b] 1 rfl O fun j J r s5 g o=>?_;refine vs ?_;grind
 rintro e H4 ⟨w1,w3,v,n,ws,fp,w6,rfl,sl4,g,Wn,p⟩;have o5:=p.own E (fun h=>h);have eh2:=W.fresh d;refine ez (fun e J=>∃v n ws fp,e.find 6=some v/\n=ws.length/\Sl J 1 v n (ws.map aA) fp/\ws=dL i a b k/\af m J) ?_ ?_
 ·simp(disch:=(first|exact aV|fail)) only[go_sem, ↓reduceIte,Zv,w1,w3,w6,ae o5];have o6:=(T.trans (d.trans p)).own B (fun h=>h);cases V:keyOf i<;>rw[V]at o5<;>simp(disch:=(first|exact aV|fail)) only[go_sem, ↓reduceIte,Zv,w1,w3,w6,ae o6]
  ·refine⟨v,_,ws,fp,rfl,rfl,sl4,?_,p⟩;unfold dL;grind
  ·refine(bi (eh2.fresh p).sA y.k0 y.k1).mono ?_;rintro _ U ⟨rfl,o⟩;have ec:ws.length<=3:=by rw[Wn];grind
   have F:af U (U.new 9 [aA (Lib.itoa k)]):=bm;refine vs ?_;refine Sl.append ((sl4.ext o (fun _ _ h=>h)).ext F (fun _ _ h=>h)) (Sl.bs (size:=1) (n:=1) (xs:=[aA (Lib.itoa k)]) rfl rfl).rd rfl (YN [Lib.itoa k]) O ?_;intro j J r s7 e7 Pq;refine vs ?_;refine⟨j,ws.length+1,ws++[Lib.itoa k],r,rfl,by simp,Z,?_,?_⟩
   ·unfold dL;grind
   ·exact(p.trans (o.trans F)).then e7 O
 rintro e U ⟨j,n,ws',r,u6,rfl,sl5,rfl,o⟩;simp(disch:=(first|exact aV|fail)) only[go_sem, ↓reduceIte,Zv,u6];have ec:(dL i a b k).length<=4:=by unfold dL;rw[alk,alm];grind
 refine(yP 32 _ sl5 ?_ O).mono ?_
 ·have:=join_le 32 (dL i a b k) 50 (NP hi y);omega
 rintro _ H6 ⟨rfl,F⟩;refine vs ?_;refine⟨?_,I.trans (Q.trans (T.trans (d.trans (o.trans F))))⟩;rfl
def LL:List (List UInt8):=(List.range 11).map bV
theorem Qn(h:i<=10):(LL.map aA)[i]? =some (aA (bV i)):=by
 rcases ops i h with rfl|rfl|rfl|rfl|rfl|rfl|rfl|rfl|rfl|rfl|rfl<;>rfl
theorem qz(H:Hp)(op:Int):aD 36 [i64 op] H fun v J=>ak (v=aA (if 0<=op/\op<=10 then bV op.toNat else[])/\af H J):=by
 refine aL G7 ?_;refine vs ?_;refine ai.dec (fun h=>?_) (fun h=>?_)<;>refine vs ?_
 ·exact⟨by rw[if_neg O];rfl,aj.refl _ _⟩
 refine ai.dec (fun z=>?_) (fun z=>?_)<;>refine vs ?_
 ·exact⟨by rw[if_neg O];rfl,aj.refl _ _⟩
 have x:af H (H.new 9 (LL.map aA)):=bm;have w:=am H 9 (LL.map aA);refine⟨O,?_⟩;obtain⟨i,rfl⟩:∃i:Nat,op=i:=⟨op.toNat,O⟩;refine v3 Int.toNat_natCast ala ak7 ?_;refine Eg (v:=aA (bV i)) (Qn O) ?_;refine vs ?_;exact⟨by rw[if_pos O];rfl,x⟩
theorem yR(H:Hp)(hi:i<=10):aD 38 [i64 i] H fun v J=>ak (v= .bool (jA i)/\J=H):=by
 refine aL MY ?_;refine vs ?_;unfold jA;refine ai.dec (fun x=>?_) (fun x=>?_)<;>refine vs ?_
 ·exact⟨by grind [Cd],by trivial⟩
 ·exact⟨by grind [Cd],by trivial⟩
theorem pV(H:Hp)(hi:i<=10):aD 39 [i64 i] H fun v J=>ak (v= .bool (hasB i)/\J=H):=by
 refine aL MZ ?_;refine vs ?_;have key:∀b,b=hasB i->Cd [Value.bool b]= .bool (hasB i)/\H=H:=fun b h=>⟨by rw[h];rfl,rfl⟩;refine ai.dec (fun h=>?_) (fun x=>?_)<;>refine vs ?_
 ·exact key _ (by have e:i=5:=O;subst e;rfl)
 refine ai.dec (fun h=>?_) (fun z=>?_)<;>refine vs ?_
 ·exact key _ (by have e:i=6:=O;subst e;rfl)
 refine ai.dec (fun h=>?_) (fun w=>?_)<;>refine vs ?_
 ·exact key _ (by have e:i=7:=O;subst e;rfl)
 refine ai.dec (fun h=>?_) (fun a=>?_)<;>refine vs ?_
 ·exact key _ (by have e:i=9:=O;subst e;rfl)
 refine key _ ?_;have e:hasB i=(i==10):=by
  rcases ops i hi with rfl|rfl|rfl|rfl|rfl|rfl|rfl|rfl|rfl|rfl|rfl<;>first|rfl|omega
 grind
theorem sW(H:Hp)(hi:i<=10):aD 40 [i64 i] H fun v J=>ak (v= .bool (keyOf i)/\J=H):=by
 refine aL I5 ?_;refine vs ?_;refine ai.dec (fun h=>?_) (fun x=>?_)<;>refine vs ?_
 ·exact⟨by have e:i=2:=O;subst e;rfl,by trivial⟩
 refine⟨ald Value.bool ?_,by trivial⟩;have e:keyOf i=(i==5):=by
  rcases ops i hi with rfl|rfl|rfl|rfl|rfl|rfl|rfl|rfl|rfl|rfl|rfl<;>first|rfl|omega
 grind
theorem yS(H:Hp)(hi:i<=10):aD 37 [i64 i] H fun v J=>ak (v= .bool (bv i)/\J=H):=by
 refine aL CM ?_;refine vs ?_;refine(pV H hi).mono ?_;rintro _ _ ⟨rfl,rfl⟩;refine vs ?_;have e:bv i=(hasB i && !(i==7)):=by
  rcases ops i hi with rfl|rfl|rfl|rfl|rfl|rfl|rfl|rfl|rfl|rfl|rfl<;>rfl
 cases x:hasB i<;>refine vs ?_
 ·exact⟨by rw[e,x];rfl,by trivial⟩
 ·refine⟨?_,by trivial⟩;rw[e,x];by_cases h:i=7
  ·subst h;rfl
  ·rw[alc O];simp[h,Cd]
theorem R4(hi:i<=10):bV i≠[]:=by
 rcases ops i hi with rfl|rfl|rfl|rfl|rfl|rfl|rfl|rfl|rfl|rfl|rfl<;>simp[bV]
theorem AD(H:Hp)(op:Int)(a b:Nat)(k:Int):aD 43 [iw op a b k] H fun v J=>ak (v=pT op a b k/\af H J):=by
 refine Rh EY ⟨rfl,?_⟩;have D:af H ((H.new 47 [i64 op,u32 a,u32 b,i64 k]).new 47 [i64 0,u32 0,u32 0,i64 0]):=bm.new _ _;have W:((H.new 47 [i64 op,u32 a,u32 b,i64 k]).new 47 [i64 0,u32 0,u32 0,i64 0]).own H.size=some [i64 op,u32 a,u32 b,i64 k]:=by rw[ax (by rw[ag];omega)];exact am _ _ _
 have I:((H.new 47 [i64 op,u32 a,u32 b,i64 k]).new 47 [i64 0,u32 0,u32 0,i64 0]).own (H.size+1)=some [i64 0,u32 0,u32 0,i64 0]:=az (by rw[ag]);have C:((H.new 47 [i64 op,u32 a,u32 b,i64 k]).new 47 [i64 0,u32 0,u32 0,i64 0]).size=H.size+2:=by rw[ag,ag]
 refine v1 uM.eq_1 ?_;generalize (H.new 47 [i64 op,u32 a,u32 b,i64 k]).new 47 [i64 0,u32 0,u32 0,i64 0]=n at*;have d:=ah (l:=[i64 0,u32 0,u32 0,i64 0]) (am n 47 [i64 0,u32 0,u32 0,i64 0]);have m:af n ((n.new 47 [i64 0,u32 0,u32 0,i64 0]).wr n.size [i64 0,u32 0,u32 0,i64 0]):=bm.wr O _;rw[C]at d m;rw[show H.size+1+1=H.size+2 by omega];generalize (n.new 47 [i64 0,u32 0,u32 0,i64 0]).wr (H.size+2) [i64 0,u32 0,u32 0,i64 0]=T at*;have V:=m.own W (fun h=>h);have G:=m.own I (fun h=>h);refine(qz T op).mono ?_;rintro _ x ⟨rfl,c⟩;have p:=c.own V (fun h=>h);have g:=c.own G (fun h=>h);have y:=c.own d (fun h=>h);have o:=D.trans (m.trans c);refine v1 Hu ?_;by_cases j:0<=op/\op<=10;rotate_left
 ·rw[if_neg j];refine ai.bK (by simp) ?_;refine v2 (ae y) g ?_;refine v1 (ci g) ?_;exact⟨by rw[tG j];rfl,o.then ((aj.refl (fun z=>z=H.size+1) _).wr (fun _=>rfl) _) O⟩
 obtain⟨i,rfl⟩:∃i:Nat,op=i:=⟨op.toNat,O⟩;have hi:i<=10:=O;rw[if_pos j,Int.toNat_natCast];refine ai.aR (by simp[R4 hi]) ?_;refine v2 (ae p) y ?_;have L:∀ {A:Hp} (l:List Value),aj (fun z=>z=H.size+2) x A->aj (fun z=>z=H.size+2) x (A.wr (H.size+2) l):=fun l h=>h.wr (fun _=>rfl) _;have r:aj (fun z=>z=H.size+2) x (x.wr (H.size+2) [i64 i,u32 0,u32 0,i64 0]):=L _ (aj.refl _ _);have K:=ah (l:=[i64 i,u32 0,u32 0,i64 0]) y;generalize x.wr (H.size+2) [i64 i,u32 0,u32 0,i64 0]=F at*;have w:=fun{A:Hp} (f:aj (fun z=>z=H.size+2) x A)=>f.own p (fun h=>O);refine ez (fun e J=>e.find 1=some (ptr H.size)/\e.find 2=some (ptr (H.size+1))/\e.find 3=some (ptr (H.size+2))/\aj (fun z=>z=H.size+2) x J/\J.own (H.size+2)=some [i64 i,u32 (A0 i a),u32 0,i64 0]) ?_ ?_
 ·refine v1 (ae (w r)) ?_;refine(yR F hi).mono ?_;rintro _ _ ⟨rfl,rfl⟩;unfold A0;cases jA i<;>refine v2 (ae (w r)) K ?_
  ·grind
  ·exact⟨trivial,trivial,trivial,L _ r,ah K⟩
 rintro e Q ⟨v1,v2,v3,u,M⟩;refine ez (fun e J=>e.find 1=some (ptr H.size)/\e.find 2=some (ptr (H.size+1))/\e.find 3=some (ptr (H.size+2))/\aj (fun z=>z=H.size+2) x J/\J.own (H.size+2)=some [i64 i,u32 (A0 i a),u32 (Cn i b),i64 0]) ?_ ?_
 ·refine v4 v1 v2 v3 (ae (w u)) ?_;refine(pV Q hi).mono ?_;rintro _ _ ⟨rfl,rfl⟩;unfold Cn;cases hasB i<;>refine v5 v1 v2 v3 (ae (w u)) M ?_
  ·grind
  grind [ah]
 rintro e U ⟨v1,v2,v3,B,E⟩;refine ez (fun e J=>e.find 2=some (ptr (H.size+1))/\e.find 3=some (ptr (H.size+2))/\aj (fun z=>z=H.size+2) x J/\J.own (H.size+2)=some [i64 i,u32 (A0 i a),u32 (Cn i b),i64 (EI i k)]) ?_ ?_
 ·refine v4 v1 v2 v3 (ae (w B)) ?_;refine(sW U hi).mono ?_;rintro _ _ ⟨rfl,rfl⟩;unfold EI;cases keyOf i<;>refine v5 v1 v2 v3 (ae (w B)) E ?_
  ·grind
  grind [ah]
 rintro e H6 ⟨v2,v3,P,X⟩;have q:=P.own g (fun h=>O);refine v4 v2 v3 (ae X) q ?_;simp(disch:=(first|exact aV|fail)) only[go_sem, ↓reduceIte,Zv,ci q];refine⟨by rw[yM hi];rfl,o.then (((P.mono fun z _ (h:z=H.size+2)=>(Or.inl h:z=H.size+2\/z=H.size+1))).wr (fun _=>.inr rfl) _) (fun z C=>O)⟩
end Go.Proofs.YtnanofhkpglbaaaGreatDoor
set_option maxHeartbeats 8000000
namespace Go.Proofs.YtnanofhkpglbaaaGreatDoor
open Go Go.Vc
section
variable {H : Hp} {l : List Value} {t : jg} {Bs : Nat → Prop} {N : Nat}
theorem Eh(h:mu H l t Bs N)(U:N<=100000)(hp:0<t.w.hs.length)(Ll:∀x,t.A.be x<4294967295)(hq:0<=t.q/\t.q<18446744073709551615)(op:Int){a b:Nat}{k:Int}(hr:gN a b k):
  aD 14 [.agg l.toArray,iw op a b k] H fun v J=>ak (Tc Bs N H (FT t op a b k) v J):=by
 have hh:=h;obtain⟨V,D,Q,gc,I,A,K,F,T,G,rfl,h1,h2,h3,q⟩:=h;refine aL I0 ?_;simp(disch:=(first|exact aV|fail)) only[go_sem, ↓reduceIte,Zv];refine UM fun H0 f0 b0 bx b1 b2 z0=>?_;refine(AD H0 op a b k).mono ?_;rintro _ H1 ⟨rfl,f1⟩;rw[GB];unfold FT;have hi:=MC op;have A:=LK hr (wL op);generalize wL op=i at*;generalize A0 i a=c at*;generalize Cn i b=b' at*;generalize EI i k=k' at*;obtain⟨r1,r2,r3,r4⟩:=A;obtain⟨f2,m6,z2⟩:=lR H1 47 QG [i64 i,u32 c,u32 b',i64 k'];simp(disch:=(first|exact aV|fail)) only[go_sem, ↓reduceIte,Zv];generalize hc6:H1.size=c6 at*;generalize (H1.new 47 QG).wr c6 [i64 i,u32 c,u32 b',i64 k']=H2 at*;simp(disch:=(first|exact aV|fail)) only[go_sem, ↓reduceIte,Zv,ae m6];rw[wrap64 O O];obtain⟨f3,r,z3⟩:=lR H2 52 cB [i64 c,.int .u32 (b':Int)];generalize hc8:H2.size=c8 at*;generalize (H2.new 52 cB).wr c8 [i64 c,.int .u32 (b':Int)]=X at*;have C:=f3.own m6 (fun h=>h);have f123:=(f1.trans f2).trans f3;have e:=f0.trans f123;have m:=f123.own b0 (fun h=>h);have j:=f123.own b1 (fun h=>h);have d:=f123.own b2 (fun h=>h);have B:=hh.fresh e;have zx:=f1.size;have o0:=hh.same e (lo:=H.size+4);have o:∀ (W:Hp) (L:List Value),W.own (H.size+1+1)=some IY->(W.wr (H.size+1+1) L).rd (H.size+1+1)=some L:=fun W L h=>ae (ah h);have u:∀ (W:Hp) (L R:List Value),W.own (H.size+1+1+1)=some AR->((W.wr (H.size+1+1) L).wr (H.size+1+1+1) R).rd (H.size+1+1+1)=some R:=fun W L R h=>ae (ah (by rw[aG O];exact h));have gr:∀W,af X W->∀b,jx Bs X W b->Bs b\/(H.size+4<=b/\b<W.size):=fun W _ b P=>by
  rcases P with P|P
  ·exact Or.inl P
  ·exact Or.inr O
 have E:∀W,af X W->∀b,(Bs b\/(H.size+4<=b/\b<W.size))->b<W.size:=fun W f b P=>by
  rcases P with P|P
  ·have:=q b P;have:=f.size;omega
  ·exact P.2
 rcases ops i hi with rfl|rfl|rfl|rfl|rfl|rfl|rfl|rfl|rfl|rfl|rfl
 ·simp(disch:=(first|exact aV|fail)) only[go_sem, ↓reduceIte,Zv,(show decide (((0:Nat):Int)=1)=false from rfl),(show decide (((0:Nat):Int)=2)=false from rfl),(show decide (((0:Nat):Int)=3)=false from rfl),(show decide (((0:Nat):Int)=4)=false from rfl),(show decide (((0:Nat):Int)=5)=false from rfl),(show decide (((0:Nat):Int)=6)=false from rfl),(show decide (((0:Nat):Int)=7)=false from rfl),(show decide (((0:Nat):Int)=8)=false from rfl),(show decide (((0:Nat):Int)=9)=false from rfl),(show decide (((0:Nat):Int)=10)=false from rfl),ae m,j,d];simp(disch:=(first|exact aV|fail)) only[go_sem, ↓reduceIte,Zv,o _ _ j,u _ _ _ d];exact cZ (lo:=H.size+4) (a:=H.size+1+1) (b:=H.size+1+1+1) (p:=(t,er 181)) q e o0 O O
 ·simp(disch:=(first|exact aV|fail)) only[go_sem, ↓reduceIte,Zv,(show decide (((1:Nat):Int)=1)=true from rfl),ae m,ae C,ae r];refine(wI B hp).mono ?_;rintro _ W ⟨z,l',rfl,g⟩;obtain⟨RW,RX,RY,RZ,R0,F3,R1,Km,T',G',rfl,_⟩:=id g;have w:=z.own j (fun h=>h);have n:=z.own d (fun h=>h);simp(disch:=(first|exact aV|fail)) only[go_sem, ↓reduceIte,Zv,w,n];simp(disch:=(first|exact aV|fail)) only[go_sem, ↓reduceIte,Zv,o _ _ w,u _ _ _ n];exact cZ (lo:=H.size+4) (a:=H.size+1+1) (b:=H.size+1+1+1) (p:=DX t) q (e.trans z) (g.mono (gr W z) (E W z)) O O
 ·simp(disch:=(first|exact aV|fail)) only[go_sem, ↓reduceIte,Zv,(show decide (((2:Nat):Int)=1)=false from rfl),(show decide (((2:Nat):Int)=2)=true from rfl),ae m,ae C,ae r];refine(yG B U Ll hq c k').mono ?_;rintro _ W ⟨z,l',rfl,g⟩;obtain⟨RW,RX,RY,RZ,R0,F3,R1,Km,T',G',rfl,_⟩:=id g;have w:=z.own j (fun h=>h);have n:=z.own d (fun h=>h);simp(disch:=(first|exact aV|fail)) only[go_sem, ↓reduceIte,Zv,w,n];simp(disch:=(first|exact aV|fail)) only[go_sem, ↓reduceIte,Zv,o _ _ w,u _ _ _ n];exact cZ (lo:=H.size+4) (a:=H.size+1+1) (b:=H.size+1+1+1) (p:=FE t c k') q (e.trans z) (g.mono (gr W z) (E W z)) O O
 ·simp(disch:=(first|exact aV|fail)) only[go_sem, ↓reduceIte,Zv,(show decide (((3:Nat):Int)=1)=false from rfl),(show decide (((3:Nat):Int)=2)=false from rfl),(show decide (((3:Nat):Int)=3)=true from rfl),ae m,ae C,ae r];refine di.intro (fun J=>J.own H.size=some (gB t.A V T D Q G gc t.w I A K F t.q)) m ?_;simp(disch:=(first|exact aV|fail)) only[go_sem, ↓reduceIte,Zv];refine bG.intro (.agg (gB t.A V T D Q G gc t.w I A K F t.q).toArray) (fun J M=>?_) ?_
  ·simp(disch:=(first|exact aV|fail)) only[go_sem, ↓reduceIte,Zv,ae M];trivial
  simp(disch:=(first|exact aV|fail)) only[go_sem, ↓reduceIte,Zv];repeat' (first|exact m|refine ry.intro ?_ ?_|simp(disch:=(first|exact aV|fail)) only[go_sem, ↓reduceIte,Zv,ae m,ae r])
  all_goals
   refine(sR B U c).mono ?_;rintro _ W ⟨rfl,z⟩;have y:=z.own m (fun h=>h);have w:=z.own j (fun h=>h);have n:=z.own d (fun h=>h);refine⟨y,?_⟩;simp(disch:=(first|exact aV|fail)) only[go_sem, ↓reduceIte,Zv,w];refine⟨y,?_⟩;simp(disch:=(first|exact aV|fail)) only[go_sem, ↓reduceIte,Zv,n];refine⟨y,?_⟩;simp(disch:=(first|exact aV|fail)) only[go_sem, ↓reduceIte,Zv,o _ _ w,u _ _ _ n];exact cZ (lo:=H.size+4) (a:=H.size+1+1) (b:=H.size+1+1+1) (p:=(t,eA t c)) q (e.trans z) (hh.same (e.trans z) (lo:=H.size+4)) O O
 ·simp(disch:=(first|exact aV|fail)) only[go_sem, ↓reduceIte,Zv,(show decide (((4:Nat):Int)=1)=false from rfl),(show decide (((4:Nat):Int)=2)=false from rfl),(show decide (((4:Nat):Int)=3)=false from rfl),(show decide (((4:Nat):Int)=4)=true from rfl),ae m,ae C,ae r];refine(qW B U c).mono ?_;rintro _ W ⟨z,l',rfl,g⟩;obtain⟨RW,RX,RY,RZ,R0,F3,R1,Km,T',G',rfl,_⟩:=id g;have w:=z.own j (fun h=>h);have n:=z.own d (fun h=>h);simp(disch:=(first|exact aV|fail)) only[go_sem, ↓reduceIte,Zv,w,n];simp(disch:=(first|exact aV|fail)) only[go_sem, ↓reduceIte,Zv,o _ _ w,u _ _ _ n];exact cZ (lo:=H.size+4) (a:=H.size+1+1) (b:=H.size+1+1+1) (p:=yE t c) q (e.trans z) (g.mono (gr W z) (E W z)) O O
 ·simp(disch:=(first|exact aV|fail)) only[go_sem, ↓reduceIte,Zv,(show decide (((5:Nat):Int)=1)=false from rfl),(show decide (((5:Nat):Int)=2)=false from rfl),(show decide (((5:Nat):Int)=3)=false from rfl),(show decide (((5:Nat):Int)=4)=false from rfl),(show decide (((5:Nat):Int)=5)=true from rfl),ae m,ae C,ae r];refine(pL B U c b' k').mono ?_;rintro _ W ⟨z,l',rfl,g⟩;obtain⟨RW,RX,RY,RZ,R0,F3,R1,Km,T',G',rfl,_⟩:=id g;have w:=z.own j (fun h=>h);have n:=z.own d (fun h=>h);simp(disch:=(first|exact aV|fail)) only[go_sem, ↓reduceIte,Zv,w,n];simp(disch:=(first|exact aV|fail)) only[go_sem, ↓reduceIte,Zv,o _ _ w,u _ _ _ n];exact cZ (lo:=H.size+4) (a:=H.size+1+1) (b:=H.size+1+1+1) (p:=FF t c b' k') q (e.trans z) (g.mono (gr W z) (E W z)) O O
 ·simp(disch:=(first|exact aV|fail)) only[go_sem, ↓reduceIte,Zv,(show decide (((6:Nat):Int)=1)=false from rfl),(show decide (((6:Nat):Int)=2)=false from rfl),(show decide (((6:Nat):Int)=3)=false from rfl),(show decide (((6:Nat):Int)=4)=false from rfl),(show decide (((6:Nat):Int)=5)=false from rfl),(show decide (((6:Nat):Int)=6)=true from rfl),ae m,ae C,ae r];refine(yH B U c b').mono ?_;rintro _ W ⟨z,l',rfl,g⟩;obtain⟨RW,RX,RY,RZ,R0,F3,R1,Km,T',G',rfl,_⟩:=id g;have w:=z.own j (fun h=>h);have n:=z.own d (fun h=>h);simp(disch:=(first|exact aV|fail)) only[go_sem, ↓reduceIte,Zv,w,n];simp(disch:=(first|exact aV|fail)) only[go_sem, ↓reduceIte,Zv,o _ _ w,u _ _ _ n];exact cZ (lo:=H.size+4) (a:=H.size+1+1) (b:=H.size+1+1+1) (p:=FG t c b') q (e.trans z) (g.mono (gr W z) (E W z)) O O
 ·simp(disch:=(first|exact aV|fail)) only[go_sem, ↓reduceIte,Zv,(show decide (((7:Nat):Int)=1)=false from rfl),(show decide (((7:Nat):Int)=2)=false from rfl),(show decide (((7:Nat):Int)=3)=false from rfl),(show decide (((7:Nat):Int)=4)=false from rfl),(show decide (((7:Nat):Int)=5)=false from rfl),(show decide (((7:Nat):Int)=6)=false from rfl),(show decide (((7:Nat):Int)=7)=true from rfl),ae m,ae C,ae r];rw[wrap64 O O];refine(BT B U c b').mono ?_;rintro _ W ⟨z,l',rfl,g⟩;obtain⟨RW,RX,RY,RZ,R0,F3,R1,Km,T',G',rfl,_⟩:=id g;have w:=z.own j (fun h=>h);have n:=z.own d (fun h=>h);simp(disch:=(first|exact aV|fail)) only[go_sem, ↓reduceIte,Zv,w,n];simp(disch:=(first|exact aV|fail)) only[go_sem, ↓reduceIte,Zv,o _ _ w,u _ _ _ n];exact cZ (lo:=H.size+4) (a:=H.size+1+1) (b:=H.size+1+1+1) (p:=FH t c b') q (e.trans z) (g.mono (gr W z) (E W z)) O O
 ·simp(disch:=(first|exact aV|fail)) only[go_sem, ↓reduceIte,Zv,(show decide (((8:Nat):Int)=1)=false from rfl),(show decide (((8:Nat):Int)=2)=false from rfl),(show decide (((8:Nat):Int)=3)=false from rfl),(show decide (((8:Nat):Int)=4)=false from rfl),(show decide (((8:Nat):Int)=5)=false from rfl),(show decide (((8:Nat):Int)=6)=false from rfl),(show decide (((8:Nat):Int)=7)=false from rfl),(show decide (((8:Nat):Int)=8)=true from rfl),ae m,ae C,ae r];refine di.intro (fun J=>J.own H.size=some (gB t.A V T D Q G gc t.w I A K F t.q)) m ?_;simp(disch:=(first|exact aV|fail)) only[go_sem, ↓reduceIte,Zv];refine bG.intro (.agg (gB t.A V T D Q G gc t.w I A K F t.q).toArray) (fun J M=>?_) ?_
  ·simp(disch:=(first|exact aV|fail)) only[go_sem, ↓reduceIte,Zv,ae M];trivial
  simp(disch:=(first|exact aV|fail)) only[go_sem, ↓reduceIte,Zv];repeat' (first|exact m|refine ry.intro ?_ ?_|simp(disch:=(first|exact aV|fail)) only[go_sem, ↓reduceIte,Zv,ae m,ae r])
  all_goals
   refine(D4 B c).mono ?_;rintro _ W ⟨rfl,z⟩;have y:=z.own m (fun h=>h);have w:=z.own j (fun h=>h);have n:=z.own d (fun h=>h);refine⟨y,?_⟩;simp(disch:=(first|exact aV|fail)) only[go_sem, ↓reduceIte,Zv,w];refine⟨y,?_⟩;simp(disch:=(first|exact aV|fail)) only[go_sem, ↓reduceIte,Zv,n];refine⟨y,?_⟩;simp(disch:=(first|exact aV|fail)) only[go_sem, ↓reduceIte,Zv,o _ _ w,u _ _ _ n];exact cZ (lo:=H.size+4) (a:=H.size+1+1) (b:=H.size+1+1+1) (p:=(t,JS t c)) q (e.trans z) (hh.same (e.trans z) (lo:=H.size+4)) O O
 ·simp(disch:=(first|exact aV|fail)) only[go_sem, ↓reduceIte,Zv,(show decide (((9:Nat):Int)=1)=false from rfl),(show decide (((9:Nat):Int)=2)=false from rfl),(show decide (((9:Nat):Int)=3)=false from rfl),(show decide (((9:Nat):Int)=4)=false from rfl),(show decide (((9:Nat):Int)=5)=false from rfl),(show decide (((9:Nat):Int)=6)=false from rfl),(show decide (((9:Nat):Int)=7)=false from rfl),(show decide (((9:Nat):Int)=8)=false from rfl),(show decide (((9:Nat):Int)=9)=true from rfl),ae m,ae C,ae r];refine di.intro (fun J=>J.own H.size=some (gB t.A V T D Q G gc t.w I A K F t.q)) m ?_;simp(disch:=(first|exact aV|fail)) only[go_sem, ↓reduceIte,Zv];refine bG.intro (.agg (gB t.A V T D Q G gc t.w I A K F t.q).toArray) (fun J M=>?_) ?_
  ·simp(disch:=(first|exact aV|fail)) only[go_sem, ↓reduceIte,Zv,ae M];trivial
  simp(disch:=(first|exact aV|fail)) only[go_sem, ↓reduceIte,Zv];repeat' (first|exact m|refine ry.intro ?_ ?_|simp(disch:=(first|exact aV|fail)) only[go_sem, ↓reduceIte,Zv,ae m,ae r])
  all_goals
   refine(D3 B U c b').mono ?_;rintro _ W ⟨rfl,z⟩;have y:=z.own m (fun h=>h);have w:=z.own j (fun h=>h);have n:=z.own d (fun h=>h);refine⟨y,?_⟩;simp(disch:=(first|exact aV|fail)) only[go_sem, ↓reduceIte,Zv,w];refine⟨y,?_⟩;simp(disch:=(first|exact aV|fail)) only[go_sem, ↓reduceIte,Zv,n];refine⟨y,?_⟩;simp(disch:=(first|exact aV|fail)) only[go_sem, ↓reduceIte,Zv,o _ _ w,u _ _ _ n];exact cZ (lo:=H.size+4) (a:=H.size+1+1) (b:=H.size+1+1+1) (p:=(t,JT t c b')) q (e.trans z) (hh.same (e.trans z) (lo:=H.size+4)) O O
 ·simp(disch:=(first|exact aV|fail)) only[go_sem, ↓reduceIte,Zv,(show decide (((10:Nat):Int)=1)=false from rfl),(show decide (((10:Nat):Int)=2)=false from rfl),(show decide (((10:Nat):Int)=3)=false from rfl),(show decide (((10:Nat):Int)=4)=false from rfl),(show decide (((10:Nat):Int)=5)=false from rfl),(show decide (((10:Nat):Int)=6)=false from rfl),(show decide (((10:Nat):Int)=7)=false from rfl),(show decide (((10:Nat):Int)=8)=false from rfl),(show decide (((10:Nat):Int)=9)=false from rfl),(show decide (((10:Nat):Int)=10)=true from rfl),ae m,ae C,ae r];refine di.intro (fun J=>J.own H.size=some (gB t.A V T D Q G gc t.w I A K F t.q)) m ?_;simp(disch:=(first|exact aV|fail)) only[go_sem, ↓reduceIte,Zv];refine bG.intro (.agg (gB t.A V T D Q G gc t.w I A K F t.q).toArray) (fun J M=>?_) ?_
  ·simp(disch:=(first|exact aV|fail)) only[go_sem, ↓reduceIte,Zv,ae M];trivial
  simp(disch:=(first|exact aV|fail)) only[go_sem, ↓reduceIte,Zv];repeat' (first|exact m|refine ry.intro ?_ ?_|simp(disch:=(first|exact aV|fail)) only[go_sem, ↓reduceIte,Zv,ae m,ae r])
  all_goals
   refine(BS B U c b').mono ?_;rintro _ W ⟨rfl,z⟩;have y:=z.own m (fun h=>h);have w:=z.own j (fun h=>h);have n:=z.own d (fun h=>h);refine⟨y,?_⟩;simp(disch:=(first|exact aV|fail)) only[go_sem, ↓reduceIte,Zv,w];refine⟨y,?_⟩;simp(disch:=(first|exact aV|fail)) only[go_sem, ↓reduceIte,Zv,n];refine⟨y,?_⟩;simp(disch:=(first|exact aV|fail)) only[go_sem, ↓reduceIte,Zv,o _ _ w,u _ _ _ n];exact cZ (lo:=H.size+4) (a:=H.size+1+1) (b:=H.size+1+1+1) (p:=(t,JU t c b')) q (e.trans z) (hh.same (e.trans z) (lo:=H.size+4)) O O
end
section
variable{cap kd dd:Int}{mo:Nat}{H:Hp}
def wW(kd dd:Int)(mo:Nat):Int:=if JG kd dd≠0 then JG kd dd else if mo=0 then 31 else 0
theorem B0(H:Hp){n:Int}(x:0<=n/\n<=65536):aD 55 [i64 n,.int .u32 ((0:Nat):Int)] H fun v J=>ak (v= .tuple [.pointer none,i64 31].toArray/\af H J):=by
 refine aL AS ?_;refine vs ?_;refine ai.dec (fun g=>absurd g O) (fun _=>?_);refine vs ?_;refine ai.dec (fun g=>absurd g O) (fun _=>?_);refine vs ?_;refine ai.dec (fun _=>?_) (fun g=>absurd rfl g);refine vs ?_;exact⟨rfl,aj.refl _ _⟩
theorem FV(e:0<=cap/\cap<=65536)(x:wW kd dd mo≠0)(H:Hp):aD 17 [xY kd dd,i64 cap,.int .u32 (mo:Int)] H fun v J=>ak (v= .tuple [.pointer none,i64 (wW kd dd mo)].toArray/\af H J):=by
 refine aL Gf ?_;refine vs ?_;have w:af H (H.new 26 [i64 kd,i64 dd]):=bm;generalize H.new 26 [i64 kd,i64 dd]=n at*;refine(eS kd dd n).mono ?_;rintro _ m ⟨rfl,a⟩;unfold wW at x ⊢;by_cases z:JG kd dd=0
 ·rw[if_neg (fun h=>h z)]at x ⊢;rw[z];have hm:mo=0:=by
   apply alt;intro h;rw[if_neg h]at x;exact x rfl
  subst hm;refine vs ?_;refine ai.dec (fun _=>?_) (fun y=>absurd trivial y);refine vs ?_;refine(B0 m e).mono ?_;rintro _ r ⟨rfl,c⟩;refine vs ?_;refine ai.dec (fun g=>absurd g (by decide)) (fun _=>?_);refine vs ?_;exact⟨rfl,(w.trans a).trans c⟩
 ·rw[if_pos z];refine vs ?_;refine ai.dec (fun g=>absurd g z) (fun _=>?_);refine vs ?_;exact⟨rfl,w.trans a⟩
theorem Ei(w:0<=cap/\cap<=65536)(hm:mo<=4294967295)(H:Hp):aD 32 [i64 cap,.int .u32 (mo:Int)] H fun v J=>ak (af H J/\
  if mo=0 then v= .tuple [.agg wR.toArray,i64 31].toArray else v= .tuple [.agg [i64 cap,.int .u32 (mo:Int),.slice none 0 0,.slice none 0 0].toArray,i64 0].toArray):=by
 refine aL I2 ?_;refine vs ?_;have x:af H (H.new 33 wR):=bm;have b0:(H.new 33 wR).own H.size=some wR:=am _ _ _;generalize H.new 33 wR=z at*;refine ai.dec (fun g=>absurd g O) (fun _=>?_);refine vs ?_;refine ai.dec (fun g=>absurd g O) (fun _=>?_);refine vs ?_;by_cases h:mo=0
 ·subst h;rw[show decide (((0:Nat):Int)=0)=true from rfl];refine v1 b0 ?_;refine v1 (ci b0) ?_;rw[if_pos rfl];exact⟨x.then (bT _ _ _) O,rfl⟩
 ·rw[alc O];refine v1 b0 ?_;refine v1 (ci b0) ?_;rw[if_neg h];exact⟨x.then (bT _ _ _) O,rfl⟩
theorem YO(cap:Int)(mo:Nat):Ci (iU cap) (sM cap mo):=⟨by simp[iU,sM],fun x=>by
 constructor
 ·intro h;exact absurd (bf.2 h) (iV cap x)
 ·rintro⟨w,z⟩;simp only[sM,List.getElem?_replicate]at z;grind⟩
theorem YP(cap:Int)(mo:Nat)(x:Int):¬ (sM cap mo).live x:=fun h=>iV cap x (bf.2 (((YO cap mo).live x).2 h))
theorem YQ(cap:Int)(mo:Nat):oF (sM cap mo):=by
 refine⟨fun x h=>(by cases h),amy,fun x _=>YP cap mo x,?_,Nat.zero_le _⟩;show(0:Int)=((List.replicate cap.toNat ((0:Nat),false)).countP (·.2):Nat);rw[List.countP_replicate];simp
theorem B1(P:0<=cap/\cap<=65536)(hm:mo<=4294967295)(H:Hp):aD 10 [xY kd dd,i64 cap,.int .u32 (mo:Int)] H fun v J=>ak (af H J/\
  if wW kd dd mo=0 then∃l,v= .tuple [.agg l.toArray,i64 0].toArray/\mu J l ⟨iU cap,sM cap mo,0⟩ (fun b=>H.size<=b/\b<J.size) 0 else v= .tuple [.agg IY.toArray,i64 (wW kd dd mo)].toArray):=by
 refine aL G4 ?_;refine vs ?_;refine UL fun C f b0 T D=>?_;refine(Dw kd dd C).mono ?_;rintro _ K ⟨rfl,m⟩;have q:=m.own T (fun h=>h);unfold wW;by_cases d:JG kd dd=0
 ·rw[d];refine vs ?_;refine ai.dec (fun _=>?_) (fun B=>absurd trivial B);refine vs ?_;refine(Ei P hm K).mono ?_;rintro v z ⟨u,j⟩;have o:=u.own q (fun h=>h);by_cases L:mo=0
  ·rw[if_pos L]at j;subst j;obtain⟨w,r,V⟩:=lR z 33 wR wR;refine vs ?_;generalize (z.new 33 wR).wr z.size wR=p at*;refine ai.dec (fun g=>absurd g (by decide)) (fun _=>?_);have c3:=w.own o (fun h=>h);refine v1 c3 ?_;refine v1 (ci c3) ?_;refine⟨(((f.trans m).trans u).trans w).then (bT _ _ _) O,?_⟩;rw[show(if(0:Int)≠0 then(0:Int)else if mo=0 then 31 else 0)=31 by omega,if_neg (by decide)];rfl
  ·rw[if_neg L]at j;subst j;obtain⟨w,r,V⟩:=lR z 33 wR [i64 cap,.int .u32 (mo:Int),.slice none 0 0,.slice none 0 0];refine vs ?_;generalize G:z.size=c4 at*;generalize (z.new 33 wR).wr c4 [i64 cap,.int .u32 (mo:Int),.slice none 0 0,.slice none 0 0]=p at*;refine ai.dec (fun _=>?_) (fun B=>absurd trivial B);refine vs ?_;have c3:=w.own o (fun h=>h);have E:=aB o;refine di.intro (fun J=>J.own c4=some [i64 cap,.int .u32 (mo:Int),.slice none 0 0,.slice none 0 0]) r ?_;refine vs ?_;refine bG.intro (.agg [i64 cap,.int .u32 (mo:Int),.slice none 0 0,.slice none 0 0].toArray) (fun J W=>?_) ?_
   ·refine v1 (ae W) ?_;trivial
   refine vs ?_;refine(Dk cap p P).mono ?_;rintro _ H4 ⟨A,c⟩;obtain⟨e,y,a,n,rfl⟩:=A.val;refine⟨c.own r (fun h=>h),?_⟩;have c5:=c.own c3 (fun h=>h);refine v1 c5 ?_;refine⟨c.own r (fun h=>h),?_⟩;refine v1 (ci c5) ?_;have X:=w.size;have z4:=c.size;have M:=m.size;have Q:=((((f.trans m).trans u).trans w).trans c).then (bT H4 (H.size+1) [i64 cap,.int .u32 (mo:Int),.slice none 0 0,.slice none 0 0,.slice e (iU cap).hs.length y,.slice a (iU cap).cs.length n,u64 0]) O;have zE:(H4.wr (H.size+1) [i64 cap,.int .u32 (mo:Int),.slice none 0 0,.slice none 0 0,.slice e (iU cap).hs.length y,.slice a (iU cap).cs.length n,u64 0]).size=H4.size:=bE ..
   have I:=A.ext (bT H4 (H.size+1) [i64 cap,.int .u32 (mo:Int),.slice none 0 0,.slice none 0 0,.slice e (iU cap).hs.length y,.slice a (iU cap).cs.length n,u64 0]) (fun b x h=>by
    rcases x with x|x
    ·exact x
    ·omega)
   refine⟨Q,?_⟩;rw[show(if(0:Int)≠0 then(0:Int)else if mo=0 then 31 else 0)=0 by omega,if_pos rfl];have U:∀b,jx (fun _=>False) p H4 b->H.size<=b/\b< (H4.wr (H.size+1) [i64 cap,.int .u32 (mo:Int),.slice none 0 0,.slice none 0 0,.slice e (iU cap).hs.length y,.slice a (iU cap).cs.length n,u64 0]).size:=fun b x=>by
    rcases x with x|x
    ·grind
    ·omega
   refine⟨_,rfl,none,0,none,0,e,y,a,n,[],[],?_,⟨none,0,none,0,rfl,⟨rfl,Z⟩,⟨rfl,Z⟩,Z,Z,N0.new cap.toNat mo,YQ cap mo,alj _,alj _⟩,I.mono U,YO cap mo,fun b x=>x.2⟩;have F:((sM cap mo).g.length:Int)=cap:=by simp[sM];omega
   rw[F];rfl
 ·refine vs ?_;refine ai.dec (fun g=>absurd g d) (fun _=>?_);refine v1 q ?_;refine v1 (ci q) ?_;refine⟨(f.trans m).then (bT _ _ _) O,?_⟩;rw[if_pos d,if_neg d];rfl
theorem Ej(ws:List (List UInt8)):dK (ws.map aA):=fun v h=>by
 obtain⟨x,_,rfl⟩:=alQ.1 h;rfl
theorem mf(H:Hp)(l:List UInt8)(D:l.length<=1000000)(c:UInt8):aD 35 [aA l,.int .u8 c.toNat] H fun v J=>ak (
  af H J/\∃b,H.size<=b/\Sl J 1 v (pieces c l).length ((pieces c l).map aA) (some b)):=by
 refine aL I4 ?_;refine vs ?_;have a:l.toArray.size=l.length:=amh ..
 have s0:Sl (H.new 9 []) 1 (.slice (some ⟨H.size,0,none⟩) 0 0) 0 ([].map aA) (some H.size):=Sl.bs (size:=1) (n:=0) (xs:=[]) rfl rfl;have A:af H (H.new 9 []):=bm;have M:(H.new 9 []).size=H.size+1:=by rw[ag]
 generalize H.new 9 []=V at*;obtain⟨E,X⟩:=tE c _ l (alj _);refine ba.intro (fun m env J=>∃ (i from_:Nat) (ps:List (List UInt8)) (v:Value) (b:Nat),m=l.length - i/\i<=l.length/\from_<=i/\c∉ (l.take i).drop from_/\pieces c l=ps++pieces c (l.drop from_)/\env=[(0,aA l),(1,.int .u8 c.toNat),(5,v),(6,i64 from_),(7,i64 i)]/\af H J/\H.size<=b/\Sl J 1 v ps.length (ps.map aA) (some b)) l.length ⟨0,0,[],_,H.size,O,O,O,by simp,by simp,rfl,A,O,s0⟩ ?_;rintro m env r ⟨i,fr,ps,v,b,hm,hi,G,j,e,rfl,y,o,s1⟩;refine vs ?_;refine ai.dec (fun K=>?_) (fun K=>?_)<;>refine vs ?_
 ·obtain⟨x,g⟩:∃x,l[i]? =some x:=⟨_,ak9 O⟩;refine v4 pi Int.toNat_natCast g Cm ?_;refine ai.dec (fun P=>?_) (fun P=>?_)<;>refine vs ?_
  ·have I:x=c:=UInt8.toNat_inj.1 O;subst I;refine⟨⟨O,O,O⟩,?_⟩;refine v2 Int.toNat_natCast kU ?_;have w:af r (r.new 9 [aA ((l.take i).drop fr)]):=bm;have W:ps.length<=1000001:=by
    have:=ald List.length e;rw[alm]at this;omega
   refine Sl.append (s1.ext w (fun _ _ h=>h)) (Sl.bs (size:=1) (n:=1) (xs:=[aA ((l.take i).drop fr)]) rfl rfl).rd rfl (Ej [_]) O ?_;intro L J p B d u;obtain⟨b',rfl,f⟩:∃b',p=some b'/\H.size<=b':=by
    rcases u with rfl| ⟨b',rfl,q,C⟩
    ·exact⟨b,rfl,o⟩
    ·exact⟨b',rfl,alw (y.trans w).size q⟩
   refine vs ?_;rw[wrap64 (n:=(i:Int)+1) O O];have Q:l.drop fr=(l.take i).drop fr++x::l.drop (i+1):=by
    have T:l.drop i=x::l.drop (i+1):=by
     rw[alO O];rw[ak9 O]at g;injection g with g;rw[g]
    conv=>lhs;rw[<-amr i l,List.drop_append,T]
    rw[show fr - (l.take i).length=0 by rw[alC];omega,List.drop_zero]
   refine⟨l.length - (i+1),O,i+1,i+1,ps++[(l.take i).drop fr],L,b',rfl,O,O,?_,?_,rfl,?_,f,by rw[alG,alm];exact B⟩
   ·rw[List.drop_eq_nil_of_le (by rw[alC];omega)];simp
   ·rw[e,Q,n9 _ _ j,amg];rfl
   ·exact(y.trans w).then d (fun z (a:some b=some z)=>by injection a with a;omega)
  ·rw[wrap64 (n:=(i:Int)+1) O O];refine⟨l.length - (i+1),O,i+1,fr,ps,v,b,rfl,O,O,?_,e,rfl,y,o,s1⟩;rw[alq,g,List.drop_append,alu];rintro(h|h)
   ·exact j h
   ·rw[show fr - (l.take i).length=0 by rw[alC];omega,List.drop_zero]at h;simp at h;exact P (by rw[h])
 ·have U:i=l.length:=O;refine⟨⟨O,O,O⟩,?_⟩;refine v3 Int.toNat_natCast kU a ?_;have W:ps.length<=1000001:=by
   have:=ald List.length e;rw[alm]at this;omega
  have F:(l.take l.length).drop fr=l.drop fr:=by rw[alx]
  rw[F];have w:af r (r.new 9 [aA (l.drop fr)]):=bm;refine Sl.append (s1.ext w (fun _ _ h=>h)) (Sl.bs (size:=1) (n:=1) (xs:=[aA (l.drop fr)]) rfl rfl).rd rfl (Ej [_]) O ?_;intro L J p B d u;refine vs ?_;refine⟨(y.trans w).then d (fun z (a:some b=some z)=>by injection a with a;omega),?_⟩;subst U;rw[alx]at j;rw[fU _ j]at e;obtain⟨b',rfl,f⟩:∃b',p=some b'/\H.size<=b':=by
   rcases u with rfl| ⟨b',rfl,q,C⟩
   ·exact⟨b,rfl,o⟩
   ·exact⟨b',rfl,alw (y.trans w).size q⟩
  exact⟨b',f,by rw[e,alG,alm];exact B⟩
theorem AE(H:Hp)(l:List UInt8)(e:l.length<=1000000):aD 41 [aA l] H fun v J=>ak (
  ((∃u:Nat,u<4294967296/\l=Lib.decDigits u/\v= .tuple [u32 u,.bool true].toArray)\/((∀u:Nat,u<4294967296->l≠Lib.decDigits u)/\v= .tuple [u32 0,.bool false].toArray))/\H=J):=by
 refine aL EX ?_;refine vs ?_;refine(mJ H l e).mono ?_;rintro _ _ ⟨⟨n,z,w,x,rfl⟩| ⟨x,rfl⟩,rfl⟩<;>refine v2 al0 al6 ?_
 ·refine ai.dec (fun m=>?_) (fun m=>?_)<;>refine vs ?_
  ·refine⟨.inr ⟨fun u a h=>?_,rfl⟩,rfl⟩;have:=Jn z w O O (x.symm.trans (h.trans (Lib.itoa_nonneg u).symm));omega
  refine ai.dec (fun c=>?_) (fun c=>?_)<;>refine vs ?_
  ·refine⟨.inr ⟨fun u a h=>?_,rfl⟩,rfl⟩;have:=Jn z w O O (x.symm.trans (h.trans (Lib.itoa_nonneg u).symm));omega
  ·rw[Cf (n:=n) O O];refine⟨.inl ⟨n.toNat,O,?_,?_⟩,rfl⟩
   ·rw[x];have:n=(n.toNat:Int):=O;conv=>lhs;rw[this]
    rfl
   ·rw[show((n.toNat:Nat):Int)=n by omega];rfl
 ·refine⟨.inr ⟨fun u a h=>x u O O (by rw[Lib.itoa_nonneg];exact h),rfl⟩,rfl⟩
theorem bd0(cap:Int)(mo:Nat):Bd ⟨iU cap,sM cap mo,0⟩ 0:=by
 refine⟨Nat.one_pos,alj _,fun x=>?_,Int.le_refl _,Int.le_refl _⟩;unfold Ar.be sM;grind
theorem mu.ext{J:Hp}{l:List Value}{t:jg}{Bs Q:Nat->Prop}{N:Nat}(h:mu H l t Bs N)(e:aj Q H J)(x:∀b,Bs b->¬Q b):mu J l t Bs N:=by
 obtain⟨j,d,a,gc,g,r,z,w,T,G,rfl,n,m,c,v⟩:=h;exact⟨j,d,a,gc,g,r,z,w,T,G,rfl,n.ext e x,m.ext e x,c,fun b y=>alp (v b y) e.size⟩
def splitN:List UInt8->List (List UInt8)
 | []=>[[]]
 |c::r=>if c=10 then[]::splitN r else match splitN r with
  | []=>[[c]]
  |x::xs=>(c::x)::xs
theorem it(l:List UInt8):splitN l≠[]:=by
 cases l with
 |nil=>simp[splitN]
 |cons c r=>grind [splitN]
theorem J4(l:List UInt8)(c:UInt8){a:List (List UInt8)}{x:List UInt8}(h:splitN l=a++[x]):splitN (l++[c])=if c=10 then a++[x,[]]else a++[x++[c]]:=by
 induction l generalizing a x with
 |nil=>
  have g:a=[]/\x=[]:=by
   unfold splitN at h;cases a with
   |nil=>grind
   |cons b a=>simp at h
  grind [splitN]
 |cons b r v=>
  obtain⟨z,w,e⟩:∃z w,splitN r=z++[w]:=⟨_,_,(amk (it r)).symm⟩;have i:=v e;rw[alX];unfold splitN at h ⊢;rw[i];rw[e]at h;by_cases m:b=10
  ·rw[if_pos m]at h ⊢;have: []::z=a/\w=x:=by
    have n:([]::z)++[w]=a++[x]:=h;have:=List.append_inj' n rfl;exact Z
   grind
  ·rw[if_neg m]at h ⊢;cases z with
   |nil=>
    have n: []++[b::w]=a++[x]:=h;have:=List.append_inj' n rfl;grind
   |cons y z=>
    have n:((b::y)::z)++[w]=a++[x]:=h;have:=List.append_inj' n rfl;grind
open Go.Lib in
theorem Ek(sep:List UInt8)(x k:Nat)(s:List UInt8):splitK sep x (k+1) s=if index s sep== -1 then[s]else s.take ((index s sep).toNat+x)::splitK sep x k (s.drop ((index s sep).toNat+sep.length)):=rfl
open Go.Lib in
theorem Qo(l:List UInt8):splitK [10] 0 (count l [10]) l=splitN l:=by
 induction l with
 |nil=>rfl
 |cons c r w=>
  unfold splitN;by_cases x:c=10
  ·subst x;rw[if_pos rfl,count_cons_eq,Nat.add_comm,<-w];rfl
  ·rw[if_neg x,count_cons_ne c 10 r x,<-w];have a:index (c::r) [10]=if index r [10]== -1 then -1 else index r [10]+1:=by
    show(if([10]:List UInt8).isPrefixOf (c::r)then(0:Int)else _)=_;rw[if_neg];simp[List.isPrefixOf];exact fun h=>x h.symm
   cases z:count r [10]with
   |zero=>rfl
   |succ k=>
    have n:index r [10]≠ -1:=fun h=>by rw[count_miss h]at z;cases z
    obtain⟨i,hi⟩:∃i:Nat,index r [10]=i:=by
     rcases indexB_cases ⟨r.toArray⟩ ⟨#[10]⟩with h| ⟨i,h,_⟩
     ·grind
     grind
    rw[Ek,Ek,a,hi,if_neg Z,if_neg Z,if_neg Z];rfl
def YR(H:Hp):Prop:=∀w:World,w.heap=H->∃m,w.cell? ⟨0,0,none⟩=some (.int .i64 m)
theorem uG(hm:YR H)(l:List UInt8)(g:l.length<=1000000):aD 18 [aA l,aA [10]] H fun v J=>ak (Sl J 1 v (splitN l).length ((splitN l).map aA) (some H.size)/\af H J):=fun w h=>by
 obtain⟨m,hm⟩:=hm w h;refine(Tryz.strings_Split ⟨l.toArray⟩ ⟨#[10]⟩ m w (by show l.toArray.size<_;grind) hm (by decide)).mono ?_;rintro e w' ⟨rfl,rfl⟩;have x:(Lib.splitB ⟨#[10]⟩ 0 (Lib.countB ⟨l.toArray⟩ ⟨#[10]⟩) ⟨l.toArray⟩).map Value.string=(splitN l).map aA:=by
  have n:=Lib.splitB_data ⟨#[10]⟩ 0 (Lib.countB ⟨l.toArray⟩ ⟨#[10]⟩) ⟨l.toArray⟩;have c:Lib.splitK [10] 0 (Lib.count l [10]) l=splitN l:=Qo l;have a:(Lib.splitB ⟨#[10]⟩ 0 (Lib.countB ⟨l.toArray⟩ ⟨#[10]⟩) ⟨l.toArray⟩).map (·.data.toList)=splitN l:=by
   grind
  rw[<-a,List.map_map];apply al7;intro b _;rfl
 have z:Lib.countB ⟨l.toArray⟩ ⟨#[10]⟩+1=(splitN l).length:=by
  rw[<-Lib.splitB_all ⟨#[10]⟩ (by decide) 0 _ ⟨l.toArray⟩ rfl];have:=ald List.length x;simpa using this
 rw[x,z];subst h;exact⟨_,rfl,⟨rfl,rfl⟩,Sl.lit w.heap 9 1 (splitN l).length ((splitN l).map aA) (by simp),(aj.refl _ _).new 9 ((splitN l).map aA)⟩
theorem UT(L:List (List UInt8)):dK (L.map aA):=fun v h=>by
 obtain⟨x,_,rfl⟩:=alQ.1 h;rfl
theorem Td{T:TypeId}{n b:Nat}{w:Value}{L:List (List UInt8)}{x:List UInt8}{K:Value->Hp->Prop}(s:Sl H 1 w L.length (L.map aA) (some b))(o:H.own n=some [aA x])(d:L.length<=1000000)
  (c:∀w' J b',(b'=b\/H.size<=b')->Sl J 1 w' (L++[x]).length ((L++[x]).map aA) (some b')->aj (fun z=>z=b) H J->K w' J):
  eh T 1 16 [.string ⟨#[]⟩] w (.slice (some ⟨n,0,none⟩) 1 1) H K:=by
 have q:bD H 1 (.slice (some ⟨n,0,none⟩) 1 1) 1 ([x].map aA):=Sl.rd (fp:=some n) ⟨rfl,_,1,rfl,o,O,by simp,rfl⟩;refine Sl.append s q rfl (UT [x]) O fun v J r h a g=>?_;rw[<-alG]at h;have m:aj (fun z=>z=b) H J:=⟨a.size,fun z y p=>a.aW z y Z⟩;rcases g with rfl| ⟨b',rfl,e,j⟩
 ·exact c v J b (.inl rfl) (by rw[alm];exact h) m
 ·exact c v J b' (.inr e) (by rw[alm];exact h) m
def dM(l:List UInt8):List (List UInt8):=if(splitN l).getLast (it l)=[]then(splitN l).dropLast else splitN l
theorem AF(H:Hp)(l:List UInt8)(V:l.length<=1000000):aD 12 [aA l] H fun v J=>ak (∃fp,Sl J 1 v (dM l).length ((dM l).map aA) fp/\af H J/\∀z,fp=some z->H.size<=z):=by
 refine aL ES ?_;refine vs ?_;have P:af H (H.new 9 []):=bm;have s0:Sl (H.new 9 []) 1 (.slice (some ⟨H.size,0,none⟩) 0 0) 0 (([]:List (List UInt8)).map aA) (some H.size):=Sl.lit _ _ 1 0 [] rfl;generalize H.new 9 []=U at*;refine ba.intro (fun m env J=>∃ (i fr:Nat) (outs:List (List UInt8)) (v:Value) (b:Nat),m=l.length - i/\i<=l.length/\fr<=i/\outs.length<=i/\splitN (l.take i)=outs++[(l.take i).drop fr]/\Sl J 1 v outs.length (outs.map aA) (some b)/\H.size<=b/\af H J/\env=[(0,aA l),(3,v),(4,i64 fr),(5,i64 i)]) l.length
  ⟨0,0,[],_,H.size,O,O,O,by simp,rfl,s0,O,P,rfl⟩ ?_
 rintro m env a ⟨i,fr,outs,v,b,rfl,hi,I,D,n,s1,q,w,rfl⟩;refine vs ?_;refine ai.dec (fun j=>?_) (fun j=>?_)<;>refine vs ?_
 ·obtain⟨c,f⟩:∃c,l[i]? =some c:=⟨_,ak9 (by simpa using j)⟩;have u:i<l.length:=Z;have T:l.take (i+1)=l.take i++[c]:=by rw[alq,f];rfl
  have W:(l.take (i+1)).drop fr=(l.take i).drop fr++[c]:=Z;have d:=J4 (l.take i) c n;rw[<-T]at d;refine⟨O,?_⟩;refine v3 Int.toNat_natCast pi f ?_;by_cases y:c=10
  ·subst y;rw[if_pos rfl]at d;rw[show decide ((((10:UInt8).toNat:Nat):Int)=10)=true from rfl];refine v2 Int.toNat_natCast kU ?_;refine⟨O,?_⟩;refine v2 Int.toNat_natCast kU ?_;have x:af a (a.new 9 [aA ((l.take i).drop fr)]):=bm;refine Td (s1.ext x (fun _ _ h=>h)) (am _ _ _) O fun w' B b' o p g=>?_;refine vs ?_;rw[wrap64 O O];have Q:=x.size;have F:=w.size;have A:H.size<=b':=by
    rcases o with rfl|h
    ·exact q
    ·grind
   refine⟨l.length - (i+1),O,i+1,i+1,outs++[(l.take i).drop fr],w',b',rfl,O,O,Z,?_,p,A,(w.trans x).then g O,rfl⟩;grind
  ·rw[if_neg y]at d;rw[alc (show¬ ((c.toNat:Nat):Int)=10 from fun h=>y (by
    have L:c.toNat=(10:UInt8).toNat:=by
     show c.toNat=10;omega
    exact UInt8.toNat_inj.1 L))]
   refine vs ?_;rw[wrap64 O O];exact⟨l.length - (i+1),O,i+1,fr,outs,v,b,rfl,O,O,O,Z,s1,q,w,rfl⟩
 ·have u:i=l.length:=by
   have:¬i<l.length:=by simpa using j
   omega
  subst u;rw[alx]at n;have G:(splitN l).getLast (it l)=l.drop fr:=by simp only[n];simp
  refine ai.dec (fun r=>?_) (fun r=>?_)<;>refine v2 Int.toNat_natCast kU ?_
  ·have C:fr<l.length:=by simpa using r
   refine⟨O,?_⟩;simp(disch:=(first|exact aV|fail)) only[go_sem, ↓reduceIte,Zv,Int.toNat_natCast,kU,amh,alx];have x:af a (a.new 9 [aA (l.drop fr)]):=bm;refine Td (s1.ext x (fun _ _ h=>h)) (am _ _ _) O fun w' B b' o p g=>?_;refine vs ?_;have K:l.drop fr≠[]:=fun h=>by
    have:=ald List.length h;rw[List.length_drop]at this;simp at this;omega
   have e:dM l=outs++[l.drop fr]:=by
    unfold dM;grind
   rw[e];have Q:=x.size;have F:=w.size;refine⟨some b',p,(w.trans x).then g O,fun z M=>?_⟩;grind
  ·have C:¬fr<l.length:=by simpa using r
   have K:l.drop fr=[]:=Z;have e:dM l=outs:=by
    unfold dM;rw[if_pos Z,n];simp
   rw[e];exact⟨some b,s1,w,Z⟩
end
end Go.Proofs.YtnanofhkpglbaaaGreatDoor
