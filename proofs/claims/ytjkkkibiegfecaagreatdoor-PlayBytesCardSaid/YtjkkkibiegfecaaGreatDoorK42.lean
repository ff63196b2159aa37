/- Texts put behind each other. -/
import Derived.Test.YtjkkkibiegfecaaGreatDoorK6
import Derived.Test.YtjkkkibiegfecaaGreatDoorK35
import Derived.Test.YtjkkkibiegfecaaGreatDoorK40
set_option linter.unusedSimpArgs false
set_option linter.unusedVariables false
set_option maxRecDepth 100000
set_option maxHeartbeats 8000000
namespace Go.Proofs.YtjkkkibiegfecaaGreatDoor
open Go Go.Vc
section
variable{b a i:Nat}{k q:Int}{J:Hp}
abbrev u32(n:Int):Value:=.int .u32 n
abbrev gL(op:Int)(a b:Nat)(k:Int):Value:=.agg [i64 op,u32 a,u32 b,i64 k].toArray
def lq(i:Nat):List Value:=[aL (bU i),i64 (cH i),.bool (bA i),.bool (keyOf i)]
def bN:List Value:=(List.range 11).flatMap lq
theorem fL(h:i<=10):(bN.drop (i*4)).take 4=[aL (bU i),i64 (cH i),.bool (bA i),.bool (keyOf i)]:=by
 rcases ops i h with rfl|rfl|rfl|rfl|rfl|rfl|rfl|rfl|rfl|rfl|rfl<;>rfl
theorem mu:bN.length=44:=rfl
theorem et(H:Hp):aF 47 [] H fun v J=>ak (v= .slice (some ⟨H.size,0,none⟩) 11 11/\J=H.new 116 bN):=by
 refine aT CL ?_;refine vs ?_;exact⟨rfl,rfl⟩
def qe(op:Int)(a b:Nat)(k:Int):Value:=if 0<=op/\op<=10 then gL op (zh op.toNat a) (AZ op.toNat b) (Cl op.toNat k)else gL 0 0 0 0
theorem yU(h:i<=10)(a b:Nat)(k:Int):qe i a b k=gL i (zh i a) (AZ i b) (Cl i k):=by
 unfold qe;grind
theorem tN{op:Int}(h:¬ (0<=op/\op<=10))(a b:Nat)(k:Int):qe op a b k=gL 0 0 0 0:=by
 unfold qe;grind
theorem iZ(H:Hp)(op:Int)(a b:Nat)(k:Int):aF 40 [gL op a b k] H fun v J=>ak (v=qe op a b k/\af H J):=by
 refine uS CK ⟨rfl,?_⟩;have r:af H ((H.new 52 [i64 op,u32 a,u32 b,i64 k]).new 52 [i64 0,u32 0,u32 0,i64 0]):=bD.new _ _;have n:((H.new 52 [i64 op,u32 a,u32 b,i64 k]).new 52 [i64 0,u32 0,u32 0,i64 0]).own H.size=some [i64 op,u32 a,u32 b,i64 k]:=by rw[ay (by rw[ag];omega)];exact am _ _ _
 have w:((H.new 52 [i64 op,u32 a,u32 b,i64 k]).new 52 [i64 0,u32 0,u32 0,i64 0]).own (H.size+1)=some [i64 0,u32 0,u32 0,i64 0]:=az (by rw[ag]);refine v1 rO.eq_1 ?_;generalize (H.new 52 [i64 op,u32 a,u32 b,i64 k]).new 52 [i64 0,u32 0,u32 0,i64 0]=H0 at*;have bad:¬ (0<=op/\op<=10)->_:=fun h=>h;refine ai.dec (fun X=>?_) (fun X=>?_)<;>refine v1 (ae n) ?_
 ·refine v1 w ?_;refine v1 (cf w) ?_;exact⟨by rw[tN O];rfl,r.then ((aj.refl (fun z=>z=H.size+1) _).wr (fun _=>rfl) _) O⟩
 refine ai.dec (fun h2=>?_) (fun h2=>?_)<;>refine v1 (ae n) ?_
 ·refine v1 w ?_;refine v1 (cf w) ?_;exact⟨by rw[tN O];rfl,r.then ((aj.refl (fun z=>z=H.size+1) _).wr (fun _=>rfl) _) O⟩
 obtain⟨i,rfl⟩:∃i:Nat,op=i:=⟨op.toNat,O⟩;have hi:i<=10:=O;refine eS (fun e J=>∃x,e=[(1,ptr H.size),(2,ptr (H.size+1)),(3,ptr x)]/\H0.size<=x/\af H0 J/\J.own x=some (lq i)) ?_ ?_
 ·refine cZ.intro (fun J=>J.own H.size=some [i64 i,u32 a,u32 b,i64 k]) n ?_;refine vs ?_;refine bG.intro (i64 i) (fun J hI=>?_) ?_
  ·refine v1 (ae hI) ?_;grind
  refine vs ?_;have Oz:H.size<H0.size:=aC n;have K:=am H0 116 bN;have F:af H0 (H0.new 116 bN):=bD;have q:=F.own n (fun h=>h);have z1:(H0.new 116 bN).size=H0.size+1:=by rw[ag]
  refine tR.intro ?_ ?_
  ·refine vs ?_;refine(et H0).mono ?_;rintro _ _ ⟨rfl,rfl⟩;refine And.intro q ?_;refine vs ?_;generalize H0.new 116 bN=H1 at*;refine⟨O,?_⟩;have f:=am H1 116 [.string ⟨#[]⟩,i64 0,.bool false,.bool false];have u:af H1 (H1.new 116 [.string ⟨#[]⟩,i64 0,.bool false,.bool false]):=bD;have i2:=u.own q (fun h=>h);have p12:=u.own K (fun h=>h);have fin:∀l',l'=[aL (bU i),i64 (cH i),.bool (bA i),.bool (keyOf i)]->((H1.new 116 [.string ⟨#[]⟩,i64 0,.bool false,.bool false]).wr H1.size l').own H.size=some [i64 i,u32 a,u32 b,i64 k]/\af H0 ((H1.new 116 [.string ⟨#[]⟩,i64 0,.bool false,.bool false]).wr H1.size l')/\((H1.new 116 [.string ⟨#[]⟩,i64 0,.bool false,.bool false]).wr H1.size l').own H1.size=some (lq i):=fun l' e=>by
    subst e;refine⟨by grind [aG],(F.trans u).then ((aj.refl (fun z=>z=H1.size) _).wr (fun _=>rfl) _) O,ah f⟩
   refine tR.intro ?_ ?_
   ·refine v4 (ae K) Int.toNat_natCast ajJ (fL hi) ?_;refine⟨by rw[mu];omega,q,?_⟩;refine vs ?_;refine And.intro O ?_;refine v2 (fL hi) f ?_;obtain⟨D,M,E⟩:=fin _ rfl;refine And.intro O ?_;refine vs ?_;grind
   ·refine vs ?_;refine And.intro O ?_;refine v4 (ae p12) Int.toNat_natCast ajJ (fL hi) ?_;refine⟨by rw[mu];omega,O,?_⟩;refine v2 (fL hi) f ?_;obtain⟨D,M,E⟩:=fin _ rfl;refine And.intro O ?_;refine vs ?_;grind
  ·have p3:=am H0 116 [.string ⟨#[]⟩,i64 0,.bool false,.bool false];have Q:af H0 (H0.new 116 [.string ⟨#[]⟩,i64 0,.bool false,.bool false]):=bD;have i3:=Q.own n (fun h=>h);have z3:(H0.new 116 [.string ⟨#[]⟩,i64 0,.bool false,.bool false]).size=H0.size+1:=by rw[ag]
   refine vs ?_;refine And.intro O ?_;refine vs ?_;generalize H0.new 116 [.string ⟨#[]⟩,i64 0,.bool false,.bool false]=H1 at*;refine(et H1).mono ?_;rintro _ _ ⟨rfl,rfl⟩;have p4:=am H1 116 bN;have B:af H1 (H1.new 116 bN):=bD;have L:=B.own i3 (fun h=>h);have T:=B.own p3 (fun h=>h);refine And.intro L ?_;refine vs ?_;generalize H1.new 116 bN=V at*;refine⟨O,?_⟩;refine v4 (ae p4) Int.toNat_natCast ajJ (fL hi) ?_;refine⟨by rw[mu];omega,L,?_⟩;refine v2 (fL hi) T ?_;refine And.intro O ?_;refine vs ?_;exact⟨_,rfl,O,(Q.trans B).then ((aj.refl (fun z=>z=H0.size) _).wr (fun _=>rfl) _) O,ah T⟩
 ·rintro e H1 ⟨x,rfl,hx,j,c⟩;have o2:=j.own n (fun h=>h);have o3:=j.own w (fun h=>h);have PV:=aC w;have wr:∀ {A:Hp} (l:List Value),aj (fun z=>z=H.size) H0 A->aj (fun z=>z=H.size) H0 (A.wr H.size l):=fun l h=>h.wr (fun _=>rfl) _;have p:lq i=[aL (bU i),i64 (cH i),.bool (bA i),.bool (keyOf i)]:=rfl;have nj:x≠H.size:=O;refine eS (fun e J=>e.find 1=some (ptr H.size)/\e.find 2=some (ptr (H.size+1))/\e.find 3=some (ptr x)/\aj (fun z=>z=H.size) H0 J/\J.own x=some (lq i)/\J.own H.size=some [i64 i,u32 (zh i a),u32 b,i64 k]) ?_ ?_
  ·have y:zh i a=if cH i=0/\bA i=false then 0 else a:=by
    rcases ops i hi with rfl|rfl|rfl|rfl|rfl|rfl|rfl|rfl|rfl|rfl|rfl<;>rfl
   have f1':aj (fun z=>z=H.size) H0 H1:=j.mono fun _ _ h=>h.elim;rw[y];rw[p]at c ⊢;refine v1 (ae c) ?_;cases m:bA i<;>rw[m]at c<;>refine ai.dec (fun d=>?_) (fun d=>?_)<;>refine v4 (ae c) akF akw o2 ?_
   ·grind [ah]
   all_goals
    grind
  rintro e V ⟨v1,v2,v3,G,g,o5⟩;have o6:=G.own w (fun h=>O);refine eS (fun e J=>e.find 1=some (ptr H.size)/\e.find 2=some (ptr (H.size+1))/\e.find 3=some (ptr x)/\aj (fun z=>z=H.size) H0 J/\J.own x=some (lq i)/\J.own H.size=some [i64 i,u32 (zh i a),u32 (AZ i b),i64 k]) ?_ ?_
  ·have y:AZ i b=if cH i<2/\bA i=false then 0 else b:=by
    rcases ops i hi with rfl|rfl|rfl|rfl|rfl|rfl|rfl|rfl|rfl|rfl|rfl<;>rfl
   rw[y];rw[p]at g ⊢;refine v4 (ae g) v1 v2 v3 ?_;cases m:bA i<;>rw[m]at g<;>refine ai.dec (fun d=>?_) (fun d=>?_)<;>refine v7 (ae g) akF akw o5 v1 v2 v3 ?_
   ·grind [ah]
   all_goals
    grind
  rintro e H3 ⟨U,W,I,f3,o,o8⟩;refine eS (fun e J=>e.find 1=some (ptr H.size)/\e.find 2=some (ptr (H.size+1))/\aj (fun z=>z=H.size) H0 J/\J.own H.size=some [i64 i,u32 (zh i a),u32 (AZ i b),i64 (Cl i k)]) ?_ ?_
  ·rw[p]at o;refine v4 (ae o) U W I ?_;unfold Cl;cases m:keyOf i<;>rw[m]at o<;>refine v6 akF akw o8 U W I ?_
   ·grind [ah]
   grind
  rintro e H4 ⟨x1,x2,P,o9⟩;have C:=P.own w (fun h=>O);refine v4 (ae o9) C x1 x2 ?_;simp(disch:=(first|exact aV|fail)) only[go_sem, ↓reduceIte,Zv,cf C];refine⟨by rw[yU hi];rfl,r.then ((P.mono fun z _ (h:z=H.size)=>(Or.inl h:z=H.size\/z=H.size+1)).wr (fun _=>.inr rfl) _) (fun z hz=>O)⟩
theorem rec_eq(op a b k z x b' h:Int):ri [(0,(none,.int)),(1,(none,.int)),(2,(none,.int)),(3,(none,.int))] [i64 op,u32 a,u32 b,i64 k] [i64 z,u32 x,u32 b',i64 h]=some (decide (op=z) && (decide (a=x) && (decide (b=b') && decide (k=h)))):=by
 by_cases w:op=z<;>by_cases n:a=x<;>by_cases m:b=b'<;>by_cases c:k=h<;>simp[ri,Vc.lV,xf,cV,w,n,m,c]
def qf(op:Int)(a b:Nat)(k:Int):Bool:=decide (0<=op/\op<=10/\zh op.toNat a=a/\AZ op.toNat b=b/\Cl op.toNat k=k)
theorem Pp(op:Int)(a b:Nat)(k:Int):∃l,qe op a b k= .agg l.toArray/\l.length=4/\ri [(0,(none,.int)),(1,(none,.int)),(2,(none,.int)),(3,(none,.int))] l [i64 op,u32 a,u32 b,i64 k]=some (qf op a b k):=by
 by_cases h:0<=op/\op<=10
 ·obtain⟨i,rfl⟩:∃i:Nat,op=i:=⟨op.toNat,O⟩;rw[yU O];refine⟨_,rfl,rfl,?_⟩;rw[rec_eq];unfold qf;simp only[ajS,Int.toNat_natCast];grind
 ·rw[tN h];refine⟨_,rfl,rfl,?_⟩;rw[rec_eq];unfold qf;have:¬ ((0:Int)=op):=O;grind
theorem yV(H:Hp)(op:Int)(a b:Nat)(k:Int):aF 106 [gL op a b k] H fun v J=>ak (v= .bool (qf op a b k)/\af H J):=by
 refine aT CU ?_;have n:af H (H.new 52 [i64 op,u32 a,u32 b,i64 k]):=bD;have x:=am H 52 [i64 op,u32 a,u32 b,i64 k];obtain⟨l,c,y,e⟩:=Pp op a b k;refine vs ?_;generalize H.new 52 [i64 op,u32 a,u32 b,i64 k]=w at*;refine cZ.intro (fun J=>J.own H.size=some [i64 op,u32 a,u32 b,i64 k]) x ?_;refine vs ?_;refine bG.intro (gL op a b k) (fun J m=>?_) ?_
 ·refine v1 (ae m) ?_;grind
 refine v1 (ae x) ?_;refine And.intro x ?_;refine vs ?_;refine(iZ w op a b k).mono ?_;rintro _ g ⟨rfl,z⟩;refine And.intro (z.own x (fun h=>h)) ?_;simp(disch:=(first|exact aV|fail)) only[go_sem, ↓reduceIte,Zv,c,e,Option.map_some];exact⟨rfl,n.trans z⟩
section
variable {H : Hp} {s : Nat} {S : Nat → Prop} {t : iu}
abbrev Nz(s:Nat)(S:Nat->Prop)(H:Hp)(p:iu×Rp)(v:Value)(J:Hp):Prop:=v=MK p.2/\mc s S H J p.1.w p.1.A p.1.q
abbrev Pq(s:Nat):Value:=.agg [ptr s].toArray
abbrev Ld:List Value:=AP
theorem Ps(H:Hp)(s:Nat)(l:List Value):∃x,((H.new 109 [ptr s]).new 52 l).new 31 Ld=x/\af H x/\x.own H.size=some [ptr s]/\x.own (H.size+1)=some l/\x.own (H.size+1+1)=some Ld/\x.size=H.size+3:=by
 refine⟨_,rfl,(bD.new _ _).new _ _,?_,?_,az (by simp only[ag]),by simp only[ag]⟩
 ·rw[ay (by simp only[ag];omega),ay (by simp only[ag];omega),am]
 ·rw[ay (by simp only[ag];omega)];exact az (by simp only[ag])
def TX(s:Nat)(S:Nat->Prop)(H:Hp)(b:Nat)(J:Hp)(w:Nw)(A:Ar)(q:Int):Prop:=∃x,lf J s x w A q/\aj S H J/\(∀z,x z->S z\/H.size<=z)/\¬x b
theorem dl{x:Hp}{w:Nw}{A:Ar}(f:af H x)(h:mc s S x J w A q)(v:¬S b)(e:b<x.size):TX s S H b J w A q:=by
 obtain⟨a,m,n,c⟩:=h;have z:=f.size;exact⟨a,m,(f.mono fun _ _ h=>h.elim).trans n,Z,Z⟩
theorem TX.wr{w:Nw}{A:Ar}(h:TX s S H b J w A q)(c:H.size<=b)(l:List Value):TX s S H b (J.wr b l) w A q:=by
 obtain⟨z,n,a,m,x⟩:=h;exact⟨z,n.tmp x,tK a c,m,x⟩
theorem TX.out{w:Nw}{A:Ar}(h:TX s S H b J w A q):mc s S H J w A q:=by
 obtain⟨x,a,z,n,m⟩:=h;exact⟨x,a,z,n⟩
theorem HI(H:Hp)(b:Nat)(l:List Value):aj (fun x=>x=b) H (H.wr b l):=(aj.refl (fun x=>x=b) _).wr (fun _=>rfl) _
theorem gn(op:Int)(a b:Nat)(k:Int)(w:a<4294967296)(H:Hp):aF 132 [gL op a b k] H fun v J=>ak (v=eU a b/\af H J):=by
 refine aT EV ?_;refine vs ?_;have x:af H ((H.new 52 [i64 op,u32 a,u32 b,i64 k]).new 29 cI):=bD.new _ _;have h:((H.new 52 [i64 op,u32 a,u32 b,i64 k]).new 29 cI).own (H.size+1)=some cI:=az (by simp only[ag]);rw[wrap64 O O];generalize (H.new 52 [i64 op,u32 a,u32 b,i64 k]).new 29 cI=z at*;refine v1 (cf h) ?_;exact⟨rfl,x.then (HI _ _ _) O⟩
theorem B0(h:lf H s S t.w t.A t.q)(y:t.w.hs.length<65537)(op:Int)(r:gM a b k):aF 89 [Pq s,gL op a b k] H fun v J=>ak (Nz s S H (Dq t) v J):=by
 have q:=h.slt;obtain⟨o,f,u,B⟩:=r;refine aT tX ?_;refine vs ?_;obtain⟨j,e,z,b0,p,c,P⟩:=Ps H s [i64 op,u32 a,u32 b,i64 k];rw[e];have n:¬S (H.size+1+1):=Z;have g:=h.ext z (fun _ _ h=>h);refine(BJ g y).mono ?_;rintro _ d ⟨rfl,w⟩;have em:Dq t=(⟨t.w.make,t.A,t.q⟩,⟨0,t.w.hs.length,0,0,0,0⟩):=by unfold Dq;grind
 rw[em];have m:=aJ w c n;have x:=dl z w n O;refine v1 m ?_;refine v1 (cf m) ?_;exact⟨rfl,(x.wr O _).out⟩
theorem Az(h:lf H s S t.w t.A t.q)(op:Int)(r:gM a b k):aF 96 [Pq s,gL op a b k] H fun v J=>ak (Nz s S H (t,Jb t a) v J):=by
 have q:=h.slt;obtain⟨o,f,u,B⟩:=r;refine aT rU ?_;refine vs ?_;obtain⟨j,g,c,b0,p,e,P⟩:=Ps H s [i64 op,u32 a,u32 b,i64 k];rw[g];have m:¬S (H.size+1+1):=Z;have y:=h.ext c (fun _ _ h=>h);rw[wrap64 O O];refine(Ji y a).mono ?_;rintro _ d ⟨rfl,w⟩;unfold Jb;by_cases n:t.w.has a
 ·rw[if_pos n,if_neg (fun h=>h n)];have z:=aJ w e m;have x:=dl c w m O;refine v1 z ?_;refine v1 (cf z) ?_;exact⟨rfl,(x.wr O _).out⟩
 ·rw[if_neg n,if_pos n];have z:=aJ w e m;have x:=dl c w m O;refine v1 z ?_;refine v1 (cf z) ?_;exact⟨rfl,(x.wr O _).out⟩
theorem D5(h:lf H s S t.w t.A t.q)(op:Int)(j:gM a b k):aF 95 [Pq s,gL op a b k] H fun v J=>ak (Nz s S H (Fb t a b) v J):=by
 have o:=h.slt;obtain⟨f,u,B,P⟩:=j;refine aT vT ?_;refine vs ?_;obtain⟨d,y,c,b0,q,g,L⟩:=Ps H s [i64 op,u32 a,u32 b,i64 k];rw[y];have m:¬S (H.size+1+1):=Z;have r:=h.ext c (fun _ _ h=>h);rw[wrap64 O O,wrap64 O O];refine(Hh r a b).mono ?_;rintro _ p ⟨rfl,z⟩;unfold Fb;by_cases n:t.w.has a/\t.w.has b
 ·by_cases e:(a:Int)=b
  ·rw[if_neg O]at z;rw[if_neg (fun h=>h n),if_pos e,if_neg (fun h=>h n),if_pos e];have w:=aJ z g m;have x:=dl c z m O;refine v1 w ?_;refine v1 (cf w) ?_;exact⟨rfl,(x.wr O _).out⟩
  ·rw[if_pos Z]at z;rw[if_neg (fun h=>h n),if_neg e,if_neg (fun h=>h n),if_neg e];have w:=aJ z g m;have x:=dl c z m O;refine v1 w ?_;refine v1 (cf w) ?_;exact⟨rfl,(x.wr O _).out⟩
 ·rw[if_neg Z]at z;rw[if_pos n,if_pos n];have w:=aJ z g m;have x:=dl c z m O;refine v1 w ?_;refine v1 (cf w) ?_;exact⟨rfl,(x.wr O _).out⟩
theorem AA(h:lf H s S t.w t.A t.q)(d:∀x:Int,0<=x->x<t.A.g.length->t.A.bf x<4294967295)(p:0<=t.q/\t.q<18446744073709551615)(op:Int)(q:gM a b k):aF 90 [Pq s,gL op a b k] H fun v J=>ak (Nz s S H (E8 t a k) v J):=by
 have u:=h.slt;obtain⟨B,P,L,A⟩:=q;refine aT rS ?_;refine vs ?_;obtain⟨o,j,m,b0,f,e,C⟩:=Ps H s [i64 op,u32 a,u32 b,i64 k];rw[j];have n:¬S (H.size+1+1):=Z;have y:=h.ext m (fun _ _ h=>h);rw[wrap64 O O];unfold E8;by_cases c:t.w.has a
 ·rw[if_neg (fun h=>h c)];refine(Dv y c d p).mono ?_;rintro _ r (⟨g,rfl,z⟩| ⟨x,A',g,rfl,z⟩)
  ·rw[g];have w:=aJ z e n;have x:=dl m z n O;refine v1 w ?_;refine v1 (cf w) ?_;exact⟨rfl,(x.wr O _).out⟩
  ·rw[g];have w:=aJ z e n;have x:=dl m z n O;refine v1 w ?_;refine v1 (cf w) ?_;exact⟨rfl,(x.wr O _).out⟩
 ·rw[if_pos c];refine(Hj y c k).mono ?_;rintro _ r ⟨rfl,z⟩;have w:=aJ z e n;have x:=dl m z n O;refine v1 w ?_;refine v1 (cf w) ?_;exact⟨rfl,(x.wr O _).out⟩
theorem FG(h:lf H s S t.w t.A t.q)(op:Int)(o:gM a b k):aF 91 [Pq s,gL op a b k] H fun v J=>ak (Nz s S H (t,dP t a) v J):=by
 have L:=h.slt;obtain⟨A,C,K,T⟩:=o;refine aT xG ?_;refine vs ?_;obtain⟨u,p,m,b0,B,e,Q⟩:=Ps H s [i64 op,u32 a,u32 b,i64 k];rw[p];have n:¬S (H.size+1+1):=Z;have r:=h.ext m (fun _ _ h=>h);rw[wrap64 O O];by_cases g:t.w.has a
 ·refine(AY r g).mono ?_;rintro _ d (⟨P,rfl,z⟩| ⟨x,y,j,f,rfl,z⟩)
  ·have em:dP t a=er 172:=by unfold dP;grind [KO]
   rw[em];have w:=aJ z e n;have x:=dl m z n O;refine v1 w ?_;refine v1 (cf w) ?_;exact⟨rfl,(x.wr O _).out⟩
  ·have em:dP t a=⟨0,0,x,t.A.bf x,t.w.key x,0⟩:=by unfold dP;rw[if_neg (fun h=>h g),Hg j]
   rw[em];obtain⟨F,c,_,q,_⟩:=h.No.1.nG (mf h.No.1 j);rw[f]at c;injection c with c;subst c;rw[q];have w:=aJ z e n;have x:=dl m z n O;refine v1 w ?_;refine v1 (cf w) ?_;exact⟨rfl,(x.wr O _).out⟩
 ·have em:dP t a=er 171:=by unfold dP;grind
  rw[em];refine(Gg r g).mono ?_;rintro _ d ⟨rfl,z⟩;have w:=aJ z e n;have x:=dl m z n O;refine v1 w ?_;refine v1 (cf w) ?_;exact⟨rfl,(x.wr O _).out⟩
theorem yW(h:lf H s S t.w t.A t.q)(op:Int)(o:gM a b k):aF 92 [Pq s,gL op a b k] H fun v J=>ak (Nz s S H (sJ t a) v J):=by
 have L:=h.slt;obtain⟨A,C,K,T⟩:=o;refine aT qP ?_;refine vs ?_;obtain⟨u,p,m,b0,B,e,Q⟩:=Ps H s [i64 op,u32 a,u32 b,i64 k];rw[p];have n:¬S (H.size+1+1):=Z;have r:=h.ext m (fun _ _ h=>h);rw[wrap64 O O];by_cases g:t.w.has a
 ·refine(wP r g).mono ?_;rintro _ d (⟨P,rfl,z⟩| ⟨x,y,j,f,rfl,z⟩)
  ·have em:dP t a=er 172:=by unfold dP;grind [KO]
   unfold sJ;rw[em];have w:=aJ z e n;have x:=dl m z n O;refine v1 w ?_;refine v1 (cf w) ?_;exact⟨rfl,(x.wr O _).out⟩
  ·have em:dP t a=⟨0,0,x,t.A.bf x,t.w.key x,0⟩:=by unfold dP;rw[if_neg (fun h=>h g),Hg j]
   unfold sJ;rw[em];obtain⟨F,c,_,q,_⟩:=h.No.1.nG (mf h.No.1 j);rw[f]at c;injection c with c;subst c;rw[q];have w:=aJ z e n;have x:=dl m z n O;refine v1 w ?_;refine v1 (cf w) ?_;exact⟨rfl,(x.wr O _).out⟩
 ·have em:dP t a=er 171:=by unfold dP;grind
  unfold sJ;rw[em];refine(Ab r g).mono ?_;rintro _ d ⟨rfl,z⟩;have w:=aJ z e n;have x:=dl m z n O;refine v1 w ?_;refine v1 (cf w) ?_;exact⟨rfl,(x.wr O _).out⟩
theorem FH(h:lf H s S t.w t.A t.q)(op:Int)(P:gM a b k):aF 97 [Pq s,gL op a b k] H fun v J=>ak (Nz s S H (t,Jc t a b) v J):=by
 have K:=h.slt;obtain⟨L,T,F,Q⟩:=P;refine aT xH ?_;refine vs ?_;obtain⟨d,o,y,b0,p,q,U⟩:=Ps H s [i64 op,u32 a,u32 b,i64 k];rw[o];have c:¬S (H.size+1+1):=Z;have f:=h.ext y (fun _ _ h=>h);have j:¬S H.size:=Z;refine cZ.intro (fun J=>J.own H.size=some [ptr s]) b0 ?_;refine vs ?_;refine bG.intro (ptr s) (fun J B=>by refine v1 (ae B) ?_;trivial) ?_;refine v1 (ae p) ?_;refine And.intro b0 ?_;refine vs ?_;refine(gn op a b k L d).mono ?_;rintro _ C ⟨rfl,n⟩;have g:=n.own b0 (fun h=>h);have r:=n.own q (fun h=>h);have W:=n.size;have u:=f.ext n (fun _ _ h=>h);refine And.intro g ?_;refine vs ?_;refine(Jj u a b).mono ?_;rintro _ A ⟨rfl,m⟩;unfold Jc;by_cases e:t.A.yg a b
 ·rw[if_pos e,if_neg (fun h=>h e)];have w:=aJ m r c;have z:=aJ m g j;have x:=dl (y.trans n) m c O;refine And.intro z ?_;refine v1 w ?_;refine And.intro z ?_;refine v1 (cf w) ?_;refine And.intro z ?_;refine v1 (cf w) ?_;exact⟨rfl,(x.wr O _).out⟩
 ·rw[if_neg e,if_pos e];have w:=aJ m r c;have z:=aJ m g j;have x:=dl (y.trans n) m c O;refine And.intro z ?_;refine v1 w ?_;refine And.intro z ?_;refine v1 (cf w) ?_;refine And.intro z ?_;refine v1 (cf w) ?_;exact⟨rfl,(x.wr O _).out⟩
theorem D6(h:lf H s S t.w t.A t.q)(op:Int)(P:gM a b k):aF 98 [Pq s,gL op a b k] H fun v J=>ak (Nz s S H (t,Jd t a b) v J):=by
 have K:=h.slt;obtain⟨L,T,F,Q⟩:=P;refine aT vU ?_;refine vs ?_;obtain⟨d,o,y,b0,p,q,U⟩:=Ps H s [i64 op,u32 a,u32 b,i64 k];rw[o];have c:¬S (H.size+1+1):=Z;have f:=h.ext y (fun _ _ h=>h);have j:¬S H.size:=Z;refine cZ.intro (fun J=>J.own H.size=some [ptr s]) b0 ?_;refine vs ?_;refine bG.intro (ptr s) (fun J B=>by refine v1 (ae B) ?_;trivial) ?_;refine v1 (ae p) ?_;refine And.intro b0 ?_;refine vs ?_;refine(gn op a b k L d).mono ?_;rintro _ C ⟨rfl,n⟩;have g:=n.own b0 (fun h=>h);have r:=n.own q (fun h=>h);have W:=n.size;have u:=f.ext n (fun _ _ h=>h);refine And.intro g ?_;refine vs ?_;refine(Hi u a b).mono ?_;rintro _ A ⟨rfl,m⟩;unfold Jd;by_cases e:t.A.yg a b
 ·rw[if_pos e,if_neg (fun h=>h e)];have w:=aJ m r c;have z:=aJ m g j;have x:=dl (y.trans n) m c O;refine And.intro z ?_;refine v1 w ?_;refine And.intro z ?_;refine v1 (cf w) ?_;refine And.intro z ?_;refine v1 (cf w) ?_;exact⟨rfl,(x.wr O _).out⟩
 ·rw[if_neg e,if_pos e];have w:=aJ m r c;have z:=aJ m g j;have x:=dl (y.trans n) m c O;refine And.intro z ?_;refine v1 w ?_;refine And.intro z ?_;refine v1 (cf w) ?_;refine And.intro z ?_;refine v1 (cf w) ?_;exact⟨rfl,(x.wr O _).out⟩
theorem AB(h:lf H s S t.w t.A t.q)(op:Int)(P:gM a b k):aF 94 [Pq s,gL op a b k] H fun v J=>ak (Nz s S H (Fa t a b) v J):=by
 have K:=h.slt;obtain⟨L,T,F,Q⟩:=P;refine aT rT ?_;refine vs ?_;obtain⟨d,o,g,b0,p,q,U⟩:=Ps H s [i64 op,u32 a,u32 b,i64 k];rw[o];have c:¬S (H.size+1+1):=Z;have f:=h.ext g (fun _ _ h=>h);have j:¬S H.size:=Z;refine cZ.intro (fun J=>J.own H.size=some [ptr s]) b0 ?_;refine vs ?_;refine bG.intro (ptr s) (fun J B=>by refine v1 (ae B) ?_;trivial) ?_;refine v1 (ae p) ?_;refine And.intro b0 ?_;refine vs ?_;refine(gn op a b k L d).mono ?_;rintro _ C ⟨rfl,m⟩;have e:=m.own b0 (fun h=>h);have r:=m.own q (fun h=>h);have W:=m.size;have u:=f.ext m (fun _ _ h=>h);refine And.intro e ?_;refine vs ?_;refine(Dy u a b).mono ?_;unfold Fa;rintro _ A (⟨y,rfl,w⟩| ⟨y,rfl,w⟩)
 ·rw[if_pos y];have n:=aJ w r c;have z:=aJ w e j;have x:=dl (g.trans m) w c O;refine And.intro z ?_;refine v1 n ?_;refine And.intro z ?_;refine v1 (cf n) ?_;refine And.intro z ?_;refine v1 (cf n) ?_;exact⟨rfl,(x.wr O _).out⟩
 ·rw[if_neg (fun h=>h y)];have n:=aJ w r c;have z:=aJ w e j;have x:=dl (g.trans m) w c O;refine And.intro z ?_;refine v1 n ?_;refine And.intro z ?_;refine v1 (cf n) ?_;refine And.intro z ?_;refine v1 (cf n) ?_;exact⟨rfl,(x.wr O _).out⟩
theorem w8(h:lf H s S t.w t.A t.q)(op:Int)(G:gM a b k):aF 93 [Pq s,gL op a b k] H fun v J=>ak (Nz s S H (E9 t a b k) v J):=by
 have X:=h.slt;obtain⟨M,r2,r3,r4⟩:=G;refine aT ph ?_;refine vs ?_;obtain⟨K,Q,d,b0,g,F,z0⟩:=Ps H s [i64 op,u32 a,u32 b,i64 k];rw[Q];have e:¬S (H.size+1+1):=Z;have V:=h.ext d (fun _ _ h=>h);have u:¬S H.size:=Z;have B:¬S (H.size+1):=Z;refine cZ.intro (fun J=>J.own H.size=some [ptr s]/\J.own (H.size+1)=some [i64 op,u32 a,u32 b,i64 k]) ⟨b0,g⟩ ?_;refine vs ?_;refine bG.intro (ptr s) (fun J f=>by refine v1 (ae f.1) ?_;trivial) ?_;refine vs ?_;refine bG.intro (i64 k) (fun J f=>by refine v1 (ae f.2) ?_;trivial) ?_;refine v1 (ae g) ?_;refine And.intro ⟨b0,g⟩ ?_;refine vs ?_;refine(gn op a b k M K).mono ?_;rintro _ E ⟨rfl,m⟩;have r:=m.own b0 (fun h=>h);have j:=m.own g (fun h=>h);have o:=m.own F (fun h=>h);have z9:=m.size;have P:=V.ext m (fun _ _ h=>h);refine And.intro ⟨r,j⟩ ?_;refine vs ?_;unfold E9;by_cases p:t.A.yg a b
 ·obtain⟨A,rfl⟩:=id p;rw[if_neg (fun h=>h p)];refine(uI P A k).mono ?_;rintro _ T ⟨y,D,C⟩;obtain⟨y',q,U,W,I⟩:=h.No.1.nG A;rw[D]at q;injection q with q;subst q;rw[U,W,I]at C;rcases C with ⟨L,rfl,z⟩| ⟨L,rfl,z⟩
  ·rw[if_pos L];have c:=aJ z o e;have w:=aJ z r u;have n:=aJ z j B;have x:=dl (d.trans m) z e O;refine And.intro ⟨w,n⟩ ?_;refine v1 c ?_;refine And.intro ⟨w,n⟩ ?_;refine v1 (cf c) ?_;exact⟨rfl,(x.wr O _).out⟩
  ·rw[if_neg O];have c:=aJ z o e;have w:=aJ z r u;have n:=aJ z j B;have x:=dl (d.trans m) z e O;refine And.intro ⟨w,n⟩ ?_;refine v1 c ?_;refine And.intro ⟨w,n⟩ ?_;refine v1 (cf c) ?_;exact⟨rfl,(x.wr O _).out⟩
 ·rw[if_pos p];refine(yk P p k).mono ?_;rintro _ T ⟨rfl,z⟩;have c:=aJ z o e;have w:=aJ z r u;have n:=aJ z j B;have x:=dl (d.trans m) z e O;refine And.intro ⟨w,n⟩ ?_;refine v1 c ?_;refine And.intro ⟨w,n⟩ ?_;refine v1 (cf c) ?_;exact⟨rfl,(x.wr O _).out⟩
theorem FI(h:lf H s S t.w t.A t.q)(op:Int)(c:gM a b k):aF 88 [Pq s,gL op a b k] H fun v J=>ak (Nz s S H (t,er 181) v J):=by
 have y:=h.slt;obtain⟨r,j,d,p⟩:=c;refine aT xF ?_;refine vs ?_;obtain⟨e,w,x,b0,g,z,q⟩:=Ps H s [i64 op,u32 a,u32 b,i64 k];rw[w];have m:¬S (H.size+1+1):=Z;have n:=h.ext x (fun _ _ h=>h);refine v1 (cf z) ?_;exact⟨rfl,((dl x (mc.same n (aj.refl _ _)) m O).wr O _).out⟩
def qH:List Value:=[88,89,90,91,92,93,94,95,96,97,98].map fun f=>.func (.func f) #[] #[]
theorem B1(H:Hp):aF 41 [] H fun v J=>ak (v= .agg qH.toArray/\af H J):=by
 refine aT GQ ?_;refine vs ?_;simp(disch:=(first|exact aV|fail)) only[go_sem, ↓reduceIte,Zv,cf (am _ _ _)];exact⟨rfl,bD.then (HI _ _ _) O⟩
def ti(op:Int):Nat:=if 0<=op/\op<=10 then op.toNat else 0
theorem LZ(op:Int):ti op<=10:=by unfold ti;grind
theorem Gm(op:Int)(a b:Nat)(k:Int):qe op a b k=gL (ti op) (zh (ti op) a) (AZ (ti op) b) (Cl (ti op) k):=by
 unfold qe ti;split
 ·grind
 ·rfl
noncomputable def D7(t:iu)(op:Int)(a b:Nat)(k:Int):iu×Rp:=On t (ti op) (zh (ti op) a) (AZ (ti op) b) (Cl (ti op) k)
theorem Le(x:gM a b k)(i:Nat):gM (zh i a) (AZ i b) (Cl i k):=by
 obtain⟨h,z,w,n⟩:=x;constructor<;>grind [AZ,Cl,zh]
theorem FJ(h:lf H s S t.w t.A t.q)(G:t.w.hs.length<65537)(V:∀x:Int,0<=x->x<t.A.g.length->t.A.bf x<4294967295)(D:0<=t.q/\t.q<18446744073709551615)(op:Int)(M:gM a b k):
  aF 19 [ptr s,gL op a b k] H fun v J=>ak (Nz s S H (D7 t op a b k) v J):=by
 have X:=h.slt;refine aT Kk ?_;refine vs ?_;have K:af H ((H.new 52 [i64 op,u32 a,u32 b,i64 k]).new 31 Ld):=bD.new _ _;have b0:((H.new 52 [i64 op,u32 a,u32 b,i64 k]).new 31 Ld).own H.size=some [i64 op,u32 a,u32 b,i64 k]:=by rw[ay (by simp only[ag];omega)];exact am _ _ _
 have Q:((H.new 52 [i64 op,u32 a,u32 b,i64 k]).new 31 Ld).own (H.size+1)=some Ld:=az (by simp only[ag]);have d:¬S H.size:=Z;have m:¬S (H.size+1):=Z;generalize (H.new 52 [i64 op,u32 a,u32 b,i64 k]).new 31 Ld=T at*;refine(iZ T op a b k).mono ?_;rintro _ u ⟨rfl,B⟩;rw[Gm];unfold D7;have hi:=LZ op;have j:=Le M (ti op);generalize ti op=i at*;generalize zh i a=o at*;generalize AZ i b=b' at*;generalize Cl i k=f at*;have A:=B.own b0 (fun h=>h);have U:=B.own Q (fun h=>h);refine v1 A ?_;have P:=HI u H.size [i64 i,u32 o,u32 b',i64 f];have C:(u.wr H.size [i64 i,u32 o,u32 b',i64 f]).own H.size=some [i64 i,u32 o,u32 b',i64 f]:=ah A;have W:=P.own U O;have I:=((h.ext K (fun _ _ h=>h)).ext B (fun _ _ h=>h)).ext P Z;have y:af H (u.wr H.size [i64 i,u32 o,u32 b',i64 f]):=(K.trans B).then P O;generalize u.wr H.size [i64 i,u32 o,u32 b',i64 f]=F at*;refine cZ.intro (fun J=>J.own H.size=some [i64 i,u32 o,u32 b',i64 f]) C ?_;refine vs ?_;refine bG.intro (i64 i) (fun J L=>by refine v1 (ae L) ?_;trivial) ?_;refine vs ?_;refine bG.intro (gL i o b' f) (fun J L=>by refine v1 (ae L) ?_;grind) ?_;refine vs ?_;refine(B1 F).mono ?_;rintro _ E ⟨rfl,c⟩;have e:=c.own C (fun h=>h);have g:=c.own W (fun h=>h);have r:=I.ext c (fun _ _ h=>h);have p:=aC g;refine And.intro e ?_;rcases ops i hi with rfl|rfl|rfl|rfl|rfl|rfl|rfl|rfl|rfl|rfl|rfl;all_goals
  refine vs ?_;refine⟨O,?_⟩;refine vs ?_
 ·rw[show qH[(((0:Nat):Int)).toNat*1]? =some (.func (.func 88) #[] #[])from rfl];refine vs ?_;refine And.intro (by rfl) ?_;refine(FI r _ j).mono ?_;rintro _ q ⟨rfl,z⟩;have w:=aJ z g m;have n:=aJ z e d;have x:=dl (y.trans c) z m p;refine And.intro n ?_;refine v1 w ?_;refine And.intro n ?_;refine v1 (cf w) ?_;exact⟨rfl,(x.wr O _).out⟩
 ·rw[show qH[(((1:Nat):Int)).toNat*1]? =some (.func (.func 89) #[] #[])from rfl];refine vs ?_;refine And.intro (by rfl) ?_;refine(B0 r G _ j).mono ?_;rintro _ q ⟨rfl,z⟩;have w:=aJ z g m;have n:=aJ z e d;have x:=dl (y.trans c) z m p;refine And.intro n ?_;refine v1 w ?_;refine And.intro n ?_;refine v1 (cf w) ?_;exact⟨rfl,(x.wr O _).out⟩
 ·rw[show qH[(((2:Nat):Int)).toNat*1]? =some (.func (.func 90) #[] #[])from rfl];refine vs ?_;refine And.intro (by rfl) ?_;refine(AA r V D _ j).mono ?_;rintro _ q ⟨rfl,z⟩;have w:=aJ z g m;have n:=aJ z e d;have x:=dl (y.trans c) z m p;refine And.intro n ?_;refine v1 w ?_;refine And.intro n ?_;refine v1 (cf w) ?_;exact⟨rfl,(x.wr O _).out⟩
 ·rw[show qH[(((3:Nat):Int)).toNat*1]? =some (.func (.func 91) #[] #[])from rfl];refine vs ?_;refine And.intro (by rfl) ?_;refine(FG r _ j).mono ?_;rintro _ q ⟨rfl,z⟩;have w:=aJ z g m;have n:=aJ z e d;have x:=dl (y.trans c) z m p;refine And.intro n ?_;refine v1 w ?_;refine And.intro n ?_;refine v1 (cf w) ?_;exact⟨rfl,(x.wr O _).out⟩
 ·rw[show qH[(((4:Nat):Int)).toNat*1]? =some (.func (.func 92) #[] #[])from rfl];refine vs ?_;refine And.intro (by rfl) ?_;refine(yW r _ j).mono ?_;rintro _ q ⟨rfl,z⟩;have w:=aJ z g m;have n:=aJ z e d;have x:=dl (y.trans c) z m p;refine And.intro n ?_;refine v1 w ?_;refine And.intro n ?_;refine v1 (cf w) ?_;exact⟨rfl,(x.wr O _).out⟩
 ·rw[show qH[(((5:Nat):Int)).toNat*1]? =some (.func (.func 93) #[] #[])from rfl];refine vs ?_;refine And.intro (by rfl) ?_;refine(w8 r _ j).mono ?_;rintro _ q ⟨rfl,z⟩;have w:=aJ z g m;have n:=aJ z e d;have x:=dl (y.trans c) z m p;refine And.intro n ?_;refine v1 w ?_;refine And.intro n ?_;refine v1 (cf w) ?_;exact⟨rfl,(x.wr O _).out⟩
 ·rw[show qH[(((6:Nat):Int)).toNat*1]? =some (.func (.func 94) #[] #[])from rfl];refine vs ?_;refine And.intro (by rfl) ?_;refine(AB r _ j).mono ?_;rintro _ q ⟨rfl,z⟩;have w:=aJ z g m;have n:=aJ z e d;have x:=dl (y.trans c) z m p;refine And.intro n ?_;refine v1 w ?_;refine And.intro n ?_;refine v1 (cf w) ?_;exact⟨rfl,(x.wr O _).out⟩
 ·rw[show qH[(((7:Nat):Int)).toNat*1]? =some (.func (.func 95) #[] #[])from rfl];refine vs ?_;refine And.intro (by rfl) ?_;refine(D5 r _ j).mono ?_;rintro _ q ⟨rfl,z⟩;have w:=aJ z g m;have n:=aJ z e d;have x:=dl (y.trans c) z m p;refine And.intro n ?_;refine v1 w ?_;refine And.intro n ?_;refine v1 (cf w) ?_;exact⟨rfl,(x.wr O _).out⟩
 ·rw[show qH[(((8:Nat):Int)).toNat*1]? =some (.func (.func 96) #[] #[])from rfl];refine vs ?_;refine And.intro (by rfl) ?_;refine(Az r _ j).mono ?_;rintro _ q ⟨rfl,z⟩;have w:=aJ z g m;have n:=aJ z e d;have x:=dl (y.trans c) z m p;refine And.intro n ?_;refine v1 w ?_;refine And.intro n ?_;refine v1 (cf w) ?_;exact⟨rfl,(x.wr O _).out⟩
 ·rw[show qH[(((9:Nat):Int)).toNat*1]? =some (.func (.func 97) #[] #[])from rfl];refine vs ?_;refine And.intro (by rfl) ?_;refine(FH r _ j).mono ?_;rintro _ q ⟨rfl,z⟩;have w:=aJ z g m;have n:=aJ z e d;have x:=dl (y.trans c) z m p;refine And.intro n ?_;refine v1 w ?_;refine And.intro n ?_;refine v1 (cf w) ?_;exact⟨rfl,(x.wr O _).out⟩
 ·rw[show qH[(((10:Nat):Int)).toNat*1]? =some (.func (.func 98) #[] #[])from rfl];refine vs ?_;refine And.intro (by rfl) ?_;refine(D6 r _ j).mono ?_;rintro _ q ⟨rfl,z⟩;have w:=aJ z g m;have n:=aJ z e d;have x:=dl (y.trans c) z m p;refine And.intro n ?_;refine v1 w ?_;refine And.intro n ?_;refine v1 (cf w) ?_;exact⟨rfl,(x.wr O _).out⟩
end
end
section
variable{i a b op:Nat}{k:Int}
theorem yX{H:Hp}{v:Value}{fp:Option Nat}(c:UInt8)(ws:List (List UInt8))(h:Sl H 1 v ws.length (ws.map aL) fp)(L:(Lib.join ws [c]).length<=1000000)(A:ws.length<=1000000):
  aF 107 [v,aL [c]] H fun v J=>ak (v=aL (Lib.join ws [c])/\af H J):=fun w n=>by
 obtain⟨o,m⟩:=h;cases fp with
 |none=>
  obtain⟨a,rfl⟩:=m;have:ws=[]:=Z;subst this;refine(Tryz.strings_Join_none none 0 ⟨[c].toArray⟩ w).mono ?_;rintro e w' ⟨rfl,rfl⟩;exact⟨_,rfl,⟨rfl,rfl⟩,rfl,by rw[<-n];exact aj.refl _ _⟩
 |some b=>
  obtain⟨l,r,rfl,a,f,u,B⟩:=m;have q:=ae a;have hm:(ws.map fun x=>(⟨x.toArray⟩:ByteArray)).map (·.data.toList)=ws:=by
   rw[List.map_map];exact(akG fun x _=>rfl).trans (List.map_id ws)
  have p:∀ (j:Nat) (x:ByteArray),(ws.map fun x=>(⟨x.toArray⟩:ByteArray))[j]? =some x->w.cell? ⟨b,0+j,none⟩=some (.string x):=fun j x z=>by
   rw[lQ rfl (by rw[n];exact q),ajJ];rw[aj9]at z;cases g:ws[j]? with
   |none=>grind
   |some y=>
    rw[g]at z;injection z with z;subst z;have P:(ws.map aL)[j]? =some (aL y):=by rw[aj9,g];rfl
    grind
  have key:=Tryz.strings_Join b 0 r (ws.map fun x=>(⟨x.toArray⟩:ByteArray)) ⟨[c].toArray⟩ w p (by rw[n];exact aC a) Z Z Z;rw[aka,hm]at key;refine key.mono ?_;rintro e w' ⟨rfl,d⟩;obtain⟨s1,s2⟩:=p9 d;exact⟨_,rfl,s1,rfl,Z⟩
theorem Nd(h:op<=10)(x:gM a b k):∀w∈df op a b k,w.length<=50:=by
 have z:=cJ (u:=a) (by have:=x.la;omega);have n:=cJ (u:=b) (by have:=x.lb;omega);have m:=cA x.k0 x.k1;have c:(bU op).length<=8:=by rcases ops op h with rfl|rfl|rfl|rfl|rfl|rfl|rfl|rfl|rfl|rfl|rfl<;>simp[bU]
 grind [df]
theorem Jy{j:Nat}(h:j<=10)(ws:List (List UInt8)):ck j (zh j (yY ws)) (AZ j (AC j ws)) (Cl j (B3 j ws)):=by
 have x:yY ws<4294967296:=by
  unfold yY;split
  ·exact D8 _
  ·omega
 have z:AC j ws<4294967296:=by
  unfold AC;split
  ·exact D8 _
  ·split
   ·exact D8 _
   ·omega
 have w: -9223372036854775808<=B3 j ws/\B3 j ws<=9223372036854775807:=by
  unfold B3;split
  ·exact Pt _
  ·omega
 unfold zh AZ Cl;refine⟨h,?_,?_,?_,?_,Z,Z,Z⟩<;>split<;>omega
theorem HJ(h:ck op a b k):qf op a b k=true:=by
 cases h;grind [qf,AZ,Cl,zh]
theorem Q5{op:Int}(x:gM a b k)(h:qf op a b k=true):∃i:Nat,op=i/\ck i a b k:=by
 obtain⟨m,c,z,w,n⟩:=of_decide_eq_true h;obtain⟨i,rfl⟩:∃i:Nat,op=i:=Z;rw[Int.toNat_natCast]at z w n;refine⟨i,rfl,O,x.la,x.lb,x.k0,x.k1,fun e=>?_,fun e=>?_,fun e=>?_⟩
 ·rw[<-z];unfold zh;grind
 ·rw[<-w];unfold AZ;grind
 ·rw[<-n];unfold Cl;grind
theorem AD{H:Hp}(he:uP H){op:Int}(y:gM a b k):aF 51 [gL op a b k] H fun v J=>ak (v=aL (if qf op a b k then dT op.toNat a b k else[])/\af H J):=by
 refine uS EP ⟨rfl,?_⟩;have I:af H (H.new 52 [i64 op,u32 a,u32 b,i64 k]):=bD;have b1:=am H 52 [i64 op,u32 a,u32 b,i64 k];refine v1 uV.eq_1 ?_;generalize H.new 52 [i64 op,u32 a,u32 b,i64 k]=H0 at*;refine(yV H0 op a b k).mono ?_;rintro _ Ha ⟨rfl,Q⟩;have B:=Q.own b1 (fun h=>h);cases hr0:qf op a b k
 ·refine v1 akF ?_;exact⟨rfl,I.trans Q⟩
 have G:=of_decide_eq_true hr0;obtain⟨g1,g2,g3,g4,g5⟩:=G;obtain⟨i,rfl⟩:∃i:Nat,op=i:=Z;have hi:i<=10:=O;refine v1 akw ?_;refine eS (fun e J=>e.find 1=some (ptr H.size)/\∃x,e.find 3=some (ptr x)/\Ha.size<=x/\af Ha J/\J.own x=some (lq i)) ?_ ?_
 ·refine cZ.intro (fun J=>J.own H.size=some [i64 i,u32 a,u32 b,i64 k]) B ?_;refine vs ?_;refine bG.intro (i64 i) (fun J A=>?_) ?_
  ·refine v1 (ae A) ?_;grind
  refine vs ?_;have Oz:H.size<Ha.size:=aC B;have p1:=am Ha 116 bN;have q1:af Ha (Ha.new 116 bN):=bD;have D:=q1.own B (fun h=>h);have z1:(Ha.new 116 bN).size=Ha.size+1:=by rw[ag]
  refine tR.intro ?_ ?_
  ·refine vs ?_;refine(et Ha).mono ?_;rintro _ _ ⟨rfl,rfl⟩;refine And.intro D ?_;refine vs ?_;generalize Ha.new 116 bN=w at*;refine⟨O,?_⟩;have X:=am w 116 [.string ⟨#[]⟩,i64 0,.bool false,.bool false];have q2:af w (w.new 116 [.string ⟨#[]⟩,i64 0,.bool false,.bool false]):=bD;have i2:=q2.own D (fun h=>h);have p12:=q2.own p1 (fun h=>h);have fin:∀l',l'=[aL (bU i),i64 (cH i),.bool (bA i),.bool (keyOf i)]->((w.new 116 [.string ⟨#[]⟩,i64 0,.bool false,.bool false]).wr w.size l').own H.size=some [i64 i,u32 a,u32 b,i64 k]/\af Ha ((w.new 116 [.string ⟨#[]⟩,i64 0,.bool false,.bool false]).wr w.size l')/\((w.new 116 [.string ⟨#[]⟩,i64 0,.bool false,.bool false]).wr w.size l').own w.size=some (lq i):=fun l' e=>by
    subst e;refine⟨by grind [aG],(q1.trans q2).then ((aj.refl (fun z=>z=w.size) _).wr (fun _=>rfl) _) O,ah X⟩
   refine tR.intro ?_ ?_
   ·refine v4 (ae p1) Int.toNat_natCast ajJ (fL hi) ?_;refine⟨by rw[mu];omega,D,?_⟩;refine vs ?_;refine And.intro O ?_;refine v2 (fL hi) X ?_;obtain⟨g1,g2,g3⟩:=fin _ rfl;refine And.intro O ?_;refine vs ?_;grind
   ·refine vs ?_;refine And.intro O ?_;refine v4 (ae p12) Int.toNat_natCast ajJ (fL hi) ?_;refine⟨by rw[mu];omega,O,?_⟩;refine v2 (fL hi) X ?_;obtain⟨g1,g2,g3⟩:=fin _ rfl;refine And.intro O ?_;refine vs ?_;grind
  ·have p3:=am Ha 116 [.string ⟨#[]⟩,i64 0,.bool false,.bool false];have q3:af Ha (Ha.new 116 [.string ⟨#[]⟩,i64 0,.bool false,.bool false]):=bD;have i3:=q3.own B (fun h=>h);have z3:(Ha.new 116 [.string ⟨#[]⟩,i64 0,.bool false,.bool false]).size=Ha.size+1:=by rw[ag]
   refine vs ?_;refine And.intro O ?_;refine vs ?_;generalize Ha.new 116 [.string ⟨#[]⟩,i64 0,.bool false,.bool false]=w at*;refine(et w).mono ?_;rintro _ _ ⟨rfl,rfl⟩;have p4:=am w 116 bN;have q4:af w (w.new 116 bN):=bD;have i4:=q4.own i3 (fun h=>h);have p34:=q4.own p3 (fun h=>h);refine And.intro i4 ?_;refine vs ?_;generalize w.new 116 bN=m at*;refine⟨O,?_⟩;refine v4 (ae p4) Int.toNat_natCast ajJ (fL hi) ?_;refine⟨by rw[mu];omega,i4,?_⟩;refine v2 (fL hi) p34 ?_;refine And.intro O ?_;refine vs ?_;exact⟨trivial,_,rfl,O,(q3.trans q4).then ((aj.refl (fun z=>z=Ha.size) _).wr (fun _=>rfl) _) O,ah p34⟩
 rintro e w ⟨P,x,e3,hx,T,o1⟩;have M:=T.own B (fun h=>h);have G:lq i=[aL (bU i),i64 (cH i),.bool (bA i),.bool (keyOf i)]:=rfl;rw[G]at o1;have W:=((he.fresh I).fresh Q).fresh T;refine eS (fun e J=>e.find 1=some (ptr H.size)/\e.find 3=some (ptr x)/\e.find 4=some (aL (Lib.decDigits a))/\e.find 5=some (aL (Lib.decDigits b))/\af w J) ?_ ?_
 ·refine cZ.intro (fun J=>J.own H.size=some [i64 i,u32 a,u32 b,i64 k]) M ?_;refine v1 P ?_;refine bG.intro (u32 a) (fun J A=>?_) ?_
  ·refine v2 (ae A) P ?_;grind
  have wa:IntKind.i64.wrap (a:Int)=a:=wrap64 O (by have:=y.la;omega);have wb:IntKind.i64.wrap (b:Int)=b:=wrap64 O (by have:=y.lb;omega);refine v1 P ?_;refine bG.intro (u32 b) (fun J A=>?_) ?_
  ·refine v2 (ae A) P ?_;grind
  refine v3 P wa wb ?_;refine(bz W.sN (n:=(a:Int)) O (by have:=y.la;omega)).mono ?_;rintro _ m ⟨rfl,d⟩;refine And.intro (d.own M (fun h=>h)) ?_;refine v3 Lib.itoa_nonneg wa wb ?_;refine(bz (W.fresh d).sN (n:=(b:Int)) O (by have:=y.lb;omega)).mono ?_;rintro _ f ⟨rfl,L⟩;refine And.intro ((d.trans L).own M (fun h=>h)) ?_;refine v3 Lib.itoa_nonneg P e3 ?_;exact⟨trivial,trivial,trivial,trivial,d.trans L⟩
 rintro e m ⟨v1,v3,v4,v5,d⟩;have E:=d.own o1 (fun h=>h);simp(disch:=(first|exact aV|fail)) only[go_sem, ↓reduceIte,Zv,v1,v3,v4,v5,ae E];have la:=cJ (u:=a) (by have:=y.la;omega);have lb:=cJ (u:=b) (by have:=y.lb;omega);have lk:=cA y.k0 y.k1;have sl0:Sl (m.new 9 [aL (bU i)]) 1 (.slice (some ⟨m.size,0,none⟩) 1 1) 1 ([bU i].map aL) (some m.size):=Sl.bJ (size:=1) (n:=1) (xs:=[aL (bU i)]) rfl rfl;have L:af m (m.new 9 [aL (bU i)]):=bD;have JO:(m.new 9 [aL (bU i)]).size=m.size+1:=by rw[ag]
 generalize m.new 9 [aL (bU i)]=f at*;have C:=L.own E (fun h=>h);have XE:∀ws:List (List UInt8),dR (ws.map aL):=fun ws v hv=>by
  obtain⟨x,_,rfl⟩:=akx.1 hv;rfl
 refine eS (fun e J=>e.find 1=some (ptr H.size)/\e.find 3=some (ptr x)/\∃v n ws fp,e.find 6=some v/\n=ws.length/\Sl J 1 v n (ws.map aL) fp/\(∀b,fp=some b->m.size<=b)/\ws=bU i::(if bA i then[Lib.decDigits a++46::Lib.decDigits b]else if cH i=2 then[Lib.decDigits a,Lib.decDigits b]else if cH i=1 then[Lib.decDigits a]else[])/\af m J) ?_ ?_
 ·simp(disch:=(first|exact aV|fail)) only[go_sem, ↓reduceIte,Zv,ae C];have more:∀ (q:List (List UInt8)) (n:Nat),q.length=n->n<=2->∀ {K:Value->Hp->Prop},(∀j J r,Sl J 1 j (1+n) (([bU i]++q).map aL) r->(∀b,r=some b->m.size<=b)->af m J->K j J)->
    eI 9 1 16 [.string ⟨#[]⟩] (.slice (some ⟨m.size,0,none⟩) 1 1) (.slice (some ⟨f.size,0,none⟩) n n) (f.new 9 (q.map aL)) K:=fun q n hy hn K hK=>by
   have p:af f (f.new 9 (q.map aL)):=bD;refine Sl.append (sl0.ext p (fun _ _ h=>h)) (Sl.bJ (size:=1) (n:=n) (xs:=q.map aL) (by simp[hy]) rfl).rd rfl (XE q) O ?_;intro j J r s5 e5 g;refine hK j J r Z ?_ ?_
   ·rintro c rfl;rcases g with g| ⟨c',g,EA,Jm⟩
    ·injection g with g;omega
    ·injection g with g;have:=ag f 9 (q.map aL);omega
   ·exact(L.trans p).then e5 Z
  cases V:bA i<;>rw[V]at C<;>simp(disch:=(first|exact aV|fail)) only[go_sem, ↓reduceIte,Zv,ae C]
  ·refine ai.dec (fun h2=>?_) (fun h2=>?_)<;>simp(disch:=(first|exact aV|fail)) only[go_sem, ↓reduceIte,Zv,ae C]
   ·refine more [Lib.decDigits a,Lib.decDigits b] 2 rfl O fun j J r s5 g o=>?_;refine vs ?_;grind
   refine ai.dec (fun h1=>?_) (fun h1=>?_)<;>simp(disch:=(first|exact aV|fail)) only[go_sem, ↓reduceIte,Zv,ae C]
   ·refine more [Lib.decDigits a] 1 rfl O fun j J r s5 g o=>?_;refine vs ?_;grind
   grind
  ·rw[bK _ [46] Z];refine vs ?_;rw[bK (Lib.decDigits a++[46]) _ Z];refine vs ?_;refine more [Lib.decDigits a++[46]++Lib.decDigits b] 1 rfl O fun j J r s5 g o=>?_;refine vs ?_;grind
 rintro e H4 ⟨w1,w3,v,n,ws,fp,w6,rfl,sl4,g,Vk,p⟩;have o5:=p.own E (fun h=>h);have eh2:=W.fresh d;refine eS (fun e J=>∃v n ws fp,e.find 6=some v/\n=ws.length/\Sl J 1 v n (ws.map aL) fp/\ws=df i a b k/\af m J) ?_ ?_
 ·simp(disch:=(first|exact aV|fail)) only[go_sem, ↓reduceIte,Zv,w1,w3,w6,ae o5];have o6:=(T.trans (d.trans p)).own B (fun h=>h);cases V:keyOf i<;>rw[V]at o5<;>simp(disch:=(first|exact aV|fail)) only[go_sem, ↓reduceIte,Zv,w1,w3,w6,ae o6]
  ·refine⟨v,_,ws,fp,rfl,rfl,sl4,?_,p⟩;unfold df;grind
  ·refine(bz (eh2.fresh p).sN y.k0 y.k1).mono ?_;rintro _ U ⟨rfl,o⟩;have ec:ws.length<=3:=by rw[Vk];grind
   have F:af U (U.new 9 [aL (Lib.itoa k)]):=bD;refine vs ?_;refine Sl.append ((sl4.ext o (fun _ _ h=>h)).ext F (fun _ _ h=>h)) (Sl.bJ (size:=1) (n:=1) (xs:=[aL (Lib.itoa k)]) rfl rfl).rd rfl (XE [Lib.itoa k]) O ?_;intro j J r s7 e7 OO;refine vs ?_;refine⟨j,ws.length+1,ws++[Lib.itoa k],r,rfl,by simp,Z,?_,?_⟩
   ·unfold df;grind
   ·exact(p.trans (o.trans F)).then e7 O
 rintro e U ⟨j,n,ws',r,u6,rfl,sl5,rfl,o⟩;simp(disch:=(first|exact aV|fail)) only[go_sem, ↓reduceIte,Zv,u6];have ec:(df i a b k).length<=4:=by unfold df;rw[ajX,ajW];grind
 refine(yX 32 _ sl5 ?_ O).mono ?_
 ·have:=join_le 32 (df i a b k) 50 (Nd hi y);omega
 rintro _ H6 ⟨rfl,F⟩;refine vs ?_;refine⟨?_,I.trans (Q.trans (T.trans (d.trans (o.trans F))))⟩;rfl
def Lf:List (List UInt8):=(List.range 11).map bU
theorem Pu(h:i<=10):(Lf.map aL)[i]? =some (aL (bU i)):=by
 rcases ops i h with rfl|rfl|rfl|rfl|rfl|rfl|rfl|rfl|rfl|rfl|rfl<;>rfl
theorem qI(H:Hp)(op:Int):aF 56 [i64 op] H fun v J=>ak (v=aL (if 0<=op/\op<=10 then bU op.toNat else[])/\af H J):=by
 refine aT GR ?_;refine vs ?_;refine ai.dec (fun h=>?_) (fun h=>?_)<;>refine vs ?_
 ·exact⟨by rw[if_neg O];rfl,aj.refl _ _⟩
 refine ai.dec (fun z=>?_) (fun z=>?_)<;>refine vs ?_
 ·exact⟨by rw[if_neg O];rfl,aj.refl _ _⟩
 have x:af H (H.new 9 (Lf.map aL)):=bD;have w:=am H 9 (Lf.map aL);refine⟨O,?_⟩;obtain⟨i,rfl⟩:∃i:Nat,op=i:=⟨op.toNat,O⟩;refine v3 Int.toNat_natCast ajM ajJ ?_;refine D9 (v:=aL (bU i)) (Pu O) ?_;refine vs ?_;exact⟨by rw[if_pos O];rfl,x⟩
theorem yZ(H:Hp)(hi:i<=10):aF 58 [i64 i] H fun v J=>ak (v= .bool (iv i)/\J=H):=by
 refine aT Ms ?_;refine vs ?_;unfold iv;refine ai.dec (fun x=>?_) (fun x=>?_)<;>refine vs ?_
 ·exact⟨by grind [Cd],by trivial⟩
 ·exact⟨by grind [Cd],by trivial⟩
theorem qh(H:Hp)(hi:i<=10):aF 59 [i64 i] H fun v J=>ak (v= .bool (hasB i)/\J=H):=by
 refine aT Mt ?_;refine vs ?_;have key:∀b,b=hasB i->Cd [Value.bool b]= .bool (hasB i)/\H=H:=fun b h=>⟨by rw[h];rfl,rfl⟩;refine ai.dec (fun h=>?_) (fun x=>?_)<;>refine vs ?_
 ·exact key _ (by have e:i=5:=O;subst e;rfl)
 refine ai.dec (fun h=>?_) (fun z=>?_)<;>refine vs ?_
 ·exact key _ (by have e:i=6:=O;subst e;rfl)
 refine ai.dec (fun h=>?_) (fun w=>?_)<;>refine vs ?_
 ·exact key _ (by have e:i=7:=O;subst e;rfl)
 refine ai.dec (fun h=>?_) (fun a=>?_)<;>refine vs ?_
 ·exact key _ (by have e:i=9:=O;subst e;rfl)
 refine key _ ?_;have e:hasB i=(i==10):=by
  rcases ops i hi with rfl|rfl|rfl|rfl|rfl|rfl|rfl|rfl|rfl|rfl|rfl<;>first|rfl|omega
 grind
theorem tj(H:Hp)(hi:i<=10):aF 60 [i64 i] H fun v J=>ak (v= .bool (keyOf i)/\J=H):=by
 refine aT IC ?_;refine vs ?_;refine ai.dec (fun h=>?_) (fun x=>?_)<;>refine vs ?_
 ·exact⟨by have e:i=2:=O;subst e;rfl,by trivial⟩
 refine⟨ajP Value.bool ?_,by trivial⟩;have e:keyOf i=(i==5):=by
  rcases ops i hi with rfl|rfl|rfl|rfl|rfl|rfl|rfl|rfl|rfl|rfl|rfl<;>first|rfl|omega
 grind
theorem y5(H:Hp)(hi:i<=10):aF 57 [i64 i] H fun v J=>ak (v= .bool (bA i)/\J=H):=by
 refine aT CO ?_;refine vs ?_;refine(qh H hi).mono ?_;rintro _ _ ⟨rfl,rfl⟩;refine vs ?_;have e:bA i=(hasB i && !(i==7)):=by
  rcases ops i hi with rfl|rfl|rfl|rfl|rfl|rfl|rfl|rfl|rfl|rfl|rfl<;>rfl
 cases x:hasB i<;>refine vs ?_
 ·exact⟨by rw[e,x];rfl,by trivial⟩
 ·refine⟨?_,by trivial⟩;rw[e,x];by_cases h:i=7
  ·subst h;rfl
  ·rw[ajO O];simp[h,Cd]
theorem Q6(hi:i<=10):bU i≠[]:=by
 rcases ops i hi with rfl|rfl|rfl|rfl|rfl|rfl|rfl|rfl|rfl|rfl|rfl<;>simp[bU]
theorem AE(H:Hp)(op:Int)(a b:Nat)(k:Int):aF 44 [gL op a b k] H fun v J=>ak (v=qe op a b k/\af H J):=by
 refine uS EO ⟨rfl,?_⟩;have G:af H ((H.new 52 [i64 op,u32 a,u32 b,i64 k]).new 52 [i64 0,u32 0,u32 0,i64 0]):=bD.new _ _;have U:((H.new 52 [i64 op,u32 a,u32 b,i64 k]).new 52 [i64 0,u32 0,u32 0,i64 0]).own H.size=some [i64 op,u32 a,u32 b,i64 k]:=by rw[ay (by rw[ag];omega)];exact am _ _ _
 have W:((H.new 52 [i64 op,u32 a,u32 b,i64 k]).new 52 [i64 0,u32 0,u32 0,i64 0]).own (H.size+1)=some [i64 0,u32 0,u32 0,i64 0]:=az (by rw[ag]);have C:((H.new 52 [i64 op,u32 a,u32 b,i64 k]).new 52 [i64 0,u32 0,u32 0,i64 0]).size=H.size+2:=by rw[ag,ag]
 refine v1 uU.eq_1 ?_;generalize (H.new 52 [i64 op,u32 a,u32 b,i64 k]).new 52 [i64 0,u32 0,u32 0,i64 0]=n at*;have d:=ah (l:=[i64 0,u32 0,u32 0,i64 0]) (am n 52 [i64 0,u32 0,u32 0,i64 0]);have m:af n ((n.new 52 [i64 0,u32 0,u32 0,i64 0]).wr n.size [i64 0,u32 0,u32 0,i64 0]):=bD.wr O _;rw[C]at d m;rw[show H.size+1+1=H.size+2 by omega];generalize (n.new 52 [i64 0,u32 0,u32 0,i64 0]).wr (H.size+2) [i64 0,u32 0,u32 0,i64 0]=K at*;have I:=m.own U (fun h=>h);have V:=m.own W (fun h=>h);refine(qI K op).mono ?_;rintro _ x ⟨rfl,c⟩;have p:=c.own I (fun h=>h);have g:=c.own V (fun h=>h);have y:=c.own d (fun h=>h);have o:=G.trans (m.trans c);refine v1 Hb ?_;by_cases j:0<=op/\op<=10;rotate_left
 ·rw[if_neg j];refine ai.bY (by simp) ?_;refine v2 (ae y) g ?_;refine v1 (cf g) ?_;exact⟨by rw[tN j];rfl,o.then ((aj.refl (fun z=>z=H.size+1) _).wr (fun _=>rfl) _) O⟩
 obtain⟨i,rfl⟩:∃i:Nat,op=i:=⟨op.toNat,O⟩;have hi:i<=10:=O;rw[if_pos j,Int.toNat_natCast];refine ai.aX (by simp[Q6 hi]) ?_;refine v2 (ae p) y ?_;have L:∀ {A:Hp} (l:List Value),aj (fun z=>z=H.size+2) x A->aj (fun z=>z=H.size+2) x (A.wr (H.size+2) l):=fun l h=>h.wr (fun _=>rfl) _;have r:aj (fun z=>z=H.size+2) x (x.wr (H.size+2) [i64 i,u32 0,u32 0,i64 0]):=L _ (aj.refl _ _);have s3:=ah (l:=[i64 i,u32 0,u32 0,i64 0]) y;generalize x.wr (H.size+2) [i64 i,u32 0,u32 0,i64 0]=T at*;have w:=fun{A:Hp} (f:aj (fun z=>z=H.size+2) x A)=>f.own p (fun h=>O);refine eS (fun e J=>e.find 1=some (ptr H.size)/\e.find 2=some (ptr (H.size+1))/\e.find 3=some (ptr (H.size+2))/\aj (fun z=>z=H.size+2) x J/\J.own (H.size+2)=some [i64 i,u32 (zh i a),u32 0,i64 0]) ?_ ?_
 ·refine v1 (ae (w r)) ?_;refine(yZ T hi).mono ?_;rintro _ _ ⟨rfl,rfl⟩;unfold zh;cases iv i<;>refine v2 (ae (w r)) s3 ?_
  ·grind
  ·exact⟨trivial,trivial,trivial,L _ r,ah s3⟩
 rintro e F ⟨v1,v2,v3,u,D⟩;refine eS (fun e J=>e.find 1=some (ptr H.size)/\e.find 2=some (ptr (H.size+1))/\e.find 3=some (ptr (H.size+2))/\aj (fun z=>z=H.size+2) x J/\J.own (H.size+2)=some [i64 i,u32 (zh i a),u32 (AZ i b),i64 0]) ?_ ?_
 ·refine v4 v1 v2 v3 (ae (w u)) ?_;refine(qh F hi).mono ?_;rintro _ _ ⟨rfl,rfl⟩;unfold AZ;cases hasB i<;>refine v5 v1 v2 v3 (ae (w u)) D ?_
  ·grind
  grind [ah]
 rintro e Q ⟨v1,v2,v3,B,M⟩;refine eS (fun e J=>e.find 2=some (ptr (H.size+1))/\e.find 3=some (ptr (H.size+2))/\aj (fun z=>z=H.size+2) x J/\J.own (H.size+2)=some [i64 i,u32 (zh i a),u32 (AZ i b),i64 (Cl i k)]) ?_ ?_
 ·refine v4 v1 v2 v3 (ae (w B)) ?_;refine(tj Q hi).mono ?_;rintro _ _ ⟨rfl,rfl⟩;unfold Cl;cases keyOf i<;>refine v5 v1 v2 v3 (ae (w B)) M ?_
  ·grind
  grind [ah]
 rintro e X ⟨v2,v3,P,E⟩;have q:=P.own g (fun h=>O);refine v4 v2 v3 (ae E) q ?_;simp(disch:=(first|exact aV|fail)) only[go_sem, ↓reduceIte,Zv,cf q];refine⟨by rw[yU hi];rfl,o.then (((P.mono fun z _ (h:z=H.size+2)=>(Or.inl h:z=H.size+2\/z=H.size+1))).wr (fun _=>.inr rfl) _) (fun z C=>O)⟩
section
variable {H : Hp} {l : List Value} {t : iu} {Bs : Nat → Prop} {N : Nat}
theorem Ea(h:mF H l t Bs N)(U:N<=100000)(hp:0<t.w.hs.length)(KU:∀x,t.A.bf x<4294967295)(hq:0<=t.q/\t.q<18446744073709551615)(op:Int)(hr:gM a b k):
  aF 36 [.agg l.toArray,gL op a b k] H fun v J=>ak (RY Bs N H (D7 t op a b k) v J):=by
 have hh:=h;obtain⟨V,D,Q,gc,I,A,K,F,T,G,rfl,h1,h2,h3,q⟩:=h;refine aT Iy ?_;simp(disch:=(first|exact aV|fail)) only[go_sem, ↓reduceIte,Zv];refine Tc fun H0 f0 b0 bx b1 b2 z0=>?_;refine(AE H0 op a b k).mono ?_;rintro _ H1 ⟨rfl,f1⟩;rw[Gm];unfold D7;have hi:=LZ op;have A:=Le hr (ti op);generalize ti op=i at*;generalize zh i a=c at*;generalize AZ i b=b' at*;generalize Cl i k=k' at*;obtain⟨r1,r2,r3,r4⟩:=A;obtain⟨f2,m6,z2⟩:=oz H1 52 PQ [i64 i,u32 c,u32 b',i64 k'];simp(disch:=(first|exact aV|fail)) only[go_sem, ↓reduceIte,Zv];generalize hc6:H1.size=c6 at*;generalize (H1.new 52 PQ).wr c6 [i64 i,u32 c,u32 b',i64 k']=H2 at*;simp(disch:=(first|exact aV|fail)) only[go_sem, ↓reduceIte,Zv,ae m6];rw[wrap64 O O];obtain⟨f3,r,z3⟩:=oz H2 29 cI [i64 c,.int .u32 (b':Int)];generalize Zz:H2.size=c8 at*;generalize (H2.new 29 cI).wr c8 [i64 c,.int .u32 (b':Int)]=X at*;have C:=f3.own m6 (fun h=>h);have f123:=(f1.trans f2).trans f3;have e:=f0.trans f123;have m:=f123.own b0 (fun h=>h);have j:=f123.own b1 (fun h=>h);have d:=f123.own b2 (fun h=>h);have B:=hh.fresh e;have zx:=f1.size;have o0:=hh.same e (lo:=H.size+4);have o:∀ (W:Hp) (L:List Value),W.own (H.size+1+1)=some Iw->(W.wr (H.size+1+1) L).rd (H.size+1+1)=some L:=fun W L h=>ae (ah h);have u:∀ (W:Hp) (L R:List Value),W.own (H.size+1+1+1)=some AP->((W.wr (H.size+1+1) L).wr (H.size+1+1+1) R).rd (H.size+1+1+1)=some R:=fun W L R h=>ae (ah (by rw[aG O];exact h));have gr:∀W,af X W->∀b,jA Bs X W b->Bs b\/(H.size+4<=b/\b<W.size):=fun W _ b P=>by
  rcases P with P|P
  ·exact Or.inl P
  ·exact Or.inr O
 have E:∀W,af X W->∀b,(Bs b\/(H.size+4<=b/\b<W.size))->b<W.size:=fun W f b P=>by
  rcases P with P|P
  ·have:=q b P;have:=f.size;omega
  ·exact P.2
 rcases ops i hi with rfl|rfl|rfl|rfl|rfl|rfl|rfl|rfl|rfl|rfl|rfl
 ·simp(disch:=(first|exact aV|fail)) only[go_sem, ↓reduceIte,Zv,(show decide (((0:Nat):Int)=1)=false from rfl),(show decide (((0:Nat):Int)=2)=false from rfl),(show decide (((0:Nat):Int)=3)=false from rfl),(show decide (((0:Nat):Int)=4)=false from rfl),(show decide (((0:Nat):Int)=5)=false from rfl),(show decide (((0:Nat):Int)=6)=false from rfl),(show decide (((0:Nat):Int)=7)=false from rfl),(show decide (((0:Nat):Int)=8)=false from rfl),(show decide (((0:Nat):Int)=9)=false from rfl),(show decide (((0:Nat):Int)=10)=false from rfl),ae m,j,d];simp(disch:=(first|exact aV|fail)) only[go_sem, ↓reduceIte,Zv,o _ _ j,u _ _ _ d];exact db (lo:=H.size+4) (a:=H.size+1+1) (b:=H.size+1+1+1) (p:=(t,er 181)) q e o0 O O
 ·simp(disch:=(first|exact aV|fail)) only[go_sem, ↓reduceIte,Zv,(show decide (((1:Nat):Int)=1)=true from rfl),ae m,ae C,ae r];refine(wR B hp).mono ?_;rintro _ W ⟨z,l',rfl,g⟩;obtain⟨QC,QD,QE,QF,QG,FR,QH,JR,T',G',rfl,_⟩:=id g;have w:=z.own j (fun h=>h);have n:=z.own d (fun h=>h);simp(disch:=(first|exact aV|fail)) only[go_sem, ↓reduceIte,Zv,w,n];simp(disch:=(first|exact aV|fail)) only[go_sem, ↓reduceIte,Zv,o _ _ w,u _ _ _ n];exact db (lo:=H.size+4) (a:=H.size+1+1) (b:=H.size+1+1+1) (p:=Dq t) q (e.trans z) (g.mono (gr W z) (E W z)) O O
 ·simp(disch:=(first|exact aV|fail)) only[go_sem, ↓reduceIte,Zv,(show decide (((2:Nat):Int)=1)=false from rfl),(show decide (((2:Nat):Int)=2)=true from rfl),ae m,ae C,ae r];refine(yl B U KU hq c k').mono ?_;rintro _ W ⟨z,l',rfl,g⟩;obtain⟨QC,QD,QE,QF,QG,FR,QH,JR,T',G',rfl,_⟩:=id g;have w:=z.own j (fun h=>h);have n:=z.own d (fun h=>h);simp(disch:=(first|exact aV|fail)) only[go_sem, ↓reduceIte,Zv,w,n];simp(disch:=(first|exact aV|fail)) only[go_sem, ↓reduceIte,Zv,o _ _ w,u _ _ _ n];exact db (lo:=H.size+4) (a:=H.size+1+1) (b:=H.size+1+1+1) (p:=E8 t c k') q (e.trans z) (g.mono (gr W z) (E W z)) O O
 ·simp(disch:=(first|exact aV|fail)) only[go_sem, ↓reduceIte,Zv,(show decide (((3:Nat):Int)=1)=false from rfl),(show decide (((3:Nat):Int)=2)=false from rfl),(show decide (((3:Nat):Int)=3)=true from rfl),ae m,ae C,ae r];refine cZ.intro (fun J=>J.own H.size=some (gA t.A V T D Q G gc t.w I A K F t.q)) m ?_;simp(disch:=(first|exact aV|fail)) only[go_sem, ↓reduceIte,Zv];refine bG.intro (.agg (gA t.A V T D Q G gc t.w I A K F t.q).toArray) (fun J M=>?_) ?_
  ·simp(disch:=(first|exact aV|fail)) only[go_sem, ↓reduceIte,Zv,ae M];trivial
  simp(disch:=(first|exact aV|fail)) only[go_sem, ↓reduceIte,Zv];repeat' (first|exact m|refine tR.intro ?_ ?_|simp(disch:=(first|exact aV|fail)) only[go_sem, ↓reduceIte,Zv,ae m,ae r])
  all_goals
   refine(sR B U c).mono ?_;rintro _ W ⟨rfl,z⟩;have y:=z.own m (fun h=>h);have w:=z.own j (fun h=>h);have n:=z.own d (fun h=>h);refine⟨y,?_⟩;simp(disch:=(first|exact aV|fail)) only[go_sem, ↓reduceIte,Zv,w];refine⟨y,?_⟩;simp(disch:=(first|exact aV|fail)) only[go_sem, ↓reduceIte,Zv,n];refine⟨y,?_⟩;simp(disch:=(first|exact aV|fail)) only[go_sem, ↓reduceIte,Zv,o _ _ w,u _ _ _ n];exact db (lo:=H.size+4) (a:=H.size+1+1) (b:=H.size+1+1+1) (p:=(t,dP t c)) q (e.trans z) (hh.same (e.trans z) (lo:=H.size+4)) O O
 ·simp(disch:=(first|exact aV|fail)) only[go_sem, ↓reduceIte,Zv,(show decide (((4:Nat):Int)=1)=false from rfl),(show decide (((4:Nat):Int)=2)=false from rfl),(show decide (((4:Nat):Int)=3)=false from rfl),(show decide (((4:Nat):Int)=4)=true from rfl),ae m,ae C,ae r];refine(rj B U c).mono ?_;rintro _ W ⟨z,l',rfl,g⟩;obtain⟨QC,QD,QE,QF,QG,FR,QH,JR,T',G',rfl,_⟩:=id g;have w:=z.own j (fun h=>h);have n:=z.own d (fun h=>h);simp(disch:=(first|exact aV|fail)) only[go_sem, ↓reduceIte,Zv,w,n];simp(disch:=(first|exact aV|fail)) only[go_sem, ↓reduceIte,Zv,o _ _ w,u _ _ _ n];exact db (lo:=H.size+4) (a:=H.size+1+1) (b:=H.size+1+1+1) (p:=sJ t c) q (e.trans z) (g.mono (gr W z) (E W z)) O O
 ·simp(disch:=(first|exact aV|fail)) only[go_sem, ↓reduceIte,Zv,(show decide (((5:Nat):Int)=1)=false from rfl),(show decide (((5:Nat):Int)=2)=false from rfl),(show decide (((5:Nat):Int)=3)=false from rfl),(show decide (((5:Nat):Int)=4)=false from rfl),(show decide (((5:Nat):Int)=5)=true from rfl),ae m,ae C,ae r];refine(pU B U c b' k').mono ?_;rintro _ W ⟨z,l',rfl,g⟩;obtain⟨QC,QD,QE,QF,QG,FR,QH,JR,T',G',rfl,_⟩:=id g;have w:=z.own j (fun h=>h);have n:=z.own d (fun h=>h);simp(disch:=(first|exact aV|fail)) only[go_sem, ↓reduceIte,Zv,w,n];simp(disch:=(first|exact aV|fail)) only[go_sem, ↓reduceIte,Zv,o _ _ w,u _ _ _ n];exact db (lo:=H.size+4) (a:=H.size+1+1) (b:=H.size+1+1+1) (p:=E9 t c b' k') q (e.trans z) (g.mono (gr W z) (E W z)) O O
 ·simp(disch:=(first|exact aV|fail)) only[go_sem, ↓reduceIte,Zv,(show decide (((6:Nat):Int)=1)=false from rfl),(show decide (((6:Nat):Int)=2)=false from rfl),(show decide (((6:Nat):Int)=3)=false from rfl),(show decide (((6:Nat):Int)=4)=false from rfl),(show decide (((6:Nat):Int)=5)=false from rfl),(show decide (((6:Nat):Int)=6)=true from rfl),ae m,ae C,ae r];refine(ym B U c b').mono ?_;rintro _ W ⟨z,l',rfl,g⟩;obtain⟨QC,QD,QE,QF,QG,FR,QH,JR,T',G',rfl,_⟩:=id g;have w:=z.own j (fun h=>h);have n:=z.own d (fun h=>h);simp(disch:=(first|exact aV|fail)) only[go_sem, ↓reduceIte,Zv,w,n];simp(disch:=(first|exact aV|fail)) only[go_sem, ↓reduceIte,Zv,o _ _ w,u _ _ _ n];exact db (lo:=H.size+4) (a:=H.size+1+1) (b:=H.size+1+1+1) (p:=Fa t c b') q (e.trans z) (g.mono (gr W z) (E W z)) O O
 ·simp(disch:=(first|exact aV|fail)) only[go_sem, ↓reduceIte,Zv,(show decide (((7:Nat):Int)=1)=false from rfl),(show decide (((7:Nat):Int)=2)=false from rfl),(show decide (((7:Nat):Int)=3)=false from rfl),(show decide (((7:Nat):Int)=4)=false from rfl),(show decide (((7:Nat):Int)=5)=false from rfl),(show decide (((7:Nat):Int)=6)=false from rfl),(show decide (((7:Nat):Int)=7)=true from rfl),ae m,ae C,ae r];rw[wrap64 O O];refine(BN B U c b').mono ?_;rintro _ W ⟨z,l',rfl,g⟩;obtain⟨QC,QD,QE,QF,QG,FR,QH,JR,T',G',rfl,_⟩:=id g;have w:=z.own j (fun h=>h);have n:=z.own d (fun h=>h);simp(disch:=(first|exact aV|fail)) only[go_sem, ↓reduceIte,Zv,w,n];simp(disch:=(first|exact aV|fail)) only[go_sem, ↓reduceIte,Zv,o _ _ w,u _ _ _ n];exact db (lo:=H.size+4) (a:=H.size+1+1) (b:=H.size+1+1+1) (p:=Fb t c b') q (e.trans z) (g.mono (gr W z) (E W z)) O O
 ·simp(disch:=(first|exact aV|fail)) only[go_sem, ↓reduceIte,Zv,(show decide (((8:Nat):Int)=1)=false from rfl),(show decide (((8:Nat):Int)=2)=false from rfl),(show decide (((8:Nat):Int)=3)=false from rfl),(show decide (((8:Nat):Int)=4)=false from rfl),(show decide (((8:Nat):Int)=5)=false from rfl),(show decide (((8:Nat):Int)=6)=false from rfl),(show decide (((8:Nat):Int)=7)=false from rfl),(show decide (((8:Nat):Int)=8)=true from rfl),ae m,ae C,ae r];refine cZ.intro (fun J=>J.own H.size=some (gA t.A V T D Q G gc t.w I A K F t.q)) m ?_;simp(disch:=(first|exact aV|fail)) only[go_sem, ↓reduceIte,Zv];refine bG.intro (.agg (gA t.A V T D Q G gc t.w I A K F t.q).toArray) (fun J M=>?_) ?_
  ·simp(disch:=(first|exact aV|fail)) only[go_sem, ↓reduceIte,Zv,ae M];trivial
  simp(disch:=(first|exact aV|fail)) only[go_sem, ↓reduceIte,Zv];repeat' (first|exact m|refine tR.intro ?_ ?_|simp(disch:=(first|exact aV|fail)) only[go_sem, ↓reduceIte,Zv,ae m,ae r])
  all_goals
   refine(DC B c).mono ?_;rintro _ W ⟨rfl,z⟩;have y:=z.own m (fun h=>h);have w:=z.own j (fun h=>h);have n:=z.own d (fun h=>h);refine⟨y,?_⟩;simp(disch:=(first|exact aV|fail)) only[go_sem, ↓reduceIte,Zv,w];refine⟨y,?_⟩;simp(disch:=(first|exact aV|fail)) only[go_sem, ↓reduceIte,Zv,n];refine⟨y,?_⟩;simp(disch:=(first|exact aV|fail)) only[go_sem, ↓reduceIte,Zv,o _ _ w,u _ _ _ n];exact db (lo:=H.size+4) (a:=H.size+1+1) (b:=H.size+1+1+1) (p:=(t,Jb t c)) q (e.trans z) (hh.same (e.trans z) (lo:=H.size+4)) O O
 ·simp(disch:=(first|exact aV|fail)) only[go_sem, ↓reduceIte,Zv,(show decide (((9:Nat):Int)=1)=false from rfl),(show decide (((9:Nat):Int)=2)=false from rfl),(show decide (((9:Nat):Int)=3)=false from rfl),(show decide (((9:Nat):Int)=4)=false from rfl),(show decide (((9:Nat):Int)=5)=false from rfl),(show decide (((9:Nat):Int)=6)=false from rfl),(show decide (((9:Nat):Int)=7)=false from rfl),(show decide (((9:Nat):Int)=8)=false from rfl),(show decide (((9:Nat):Int)=9)=true from rfl),ae m,ae C,ae r];refine cZ.intro (fun J=>J.own H.size=some (gA t.A V T D Q G gc t.w I A K F t.q)) m ?_;simp(disch:=(first|exact aV|fail)) only[go_sem, ↓reduceIte,Zv];refine bG.intro (.agg (gA t.A V T D Q G gc t.w I A K F t.q).toArray) (fun J M=>?_) ?_
  ·simp(disch:=(first|exact aV|fail)) only[go_sem, ↓reduceIte,Zv,ae M];trivial
  simp(disch:=(first|exact aV|fail)) only[go_sem, ↓reduceIte,Zv];repeat' (first|exact m|refine tR.intro ?_ ?_|simp(disch:=(first|exact aV|fail)) only[go_sem, ↓reduceIte,Zv,ae m,ae r])
  all_goals
   refine(DB B U c b').mono ?_;rintro _ W ⟨rfl,z⟩;have y:=z.own m (fun h=>h);have w:=z.own j (fun h=>h);have n:=z.own d (fun h=>h);refine⟨y,?_⟩;simp(disch:=(first|exact aV|fail)) only[go_sem, ↓reduceIte,Zv,w];refine⟨y,?_⟩;simp(disch:=(first|exact aV|fail)) only[go_sem, ↓reduceIte,Zv,n];refine⟨y,?_⟩;simp(disch:=(first|exact aV|fail)) only[go_sem, ↓reduceIte,Zv,o _ _ w,u _ _ _ n];exact db (lo:=H.size+4) (a:=H.size+1+1) (b:=H.size+1+1+1) (p:=(t,Jc t c b')) q (e.trans z) (hh.same (e.trans z) (lo:=H.size+4)) O O
 ·simp(disch:=(first|exact aV|fail)) only[go_sem, ↓reduceIte,Zv,(show decide (((10:Nat):Int)=1)=false from rfl),(show decide (((10:Nat):Int)=2)=false from rfl),(show decide (((10:Nat):Int)=3)=false from rfl),(show decide (((10:Nat):Int)=4)=false from rfl),(show decide (((10:Nat):Int)=5)=false from rfl),(show decide (((10:Nat):Int)=6)=false from rfl),(show decide (((10:Nat):Int)=7)=false from rfl),(show decide (((10:Nat):Int)=8)=false from rfl),(show decide (((10:Nat):Int)=9)=false from rfl),(show decide (((10:Nat):Int)=10)=true from rfl),ae m,ae C,ae r];refine cZ.intro (fun J=>J.own H.size=some (gA t.A V T D Q G gc t.w I A K F t.q)) m ?_;simp(disch:=(first|exact aV|fail)) only[go_sem, ↓reduceIte,Zv];refine bG.intro (.agg (gA t.A V T D Q G gc t.w I A K F t.q).toArray) (fun J M=>?_) ?_
  ·simp(disch:=(first|exact aV|fail)) only[go_sem, ↓reduceIte,Zv,ae M];trivial
  simp(disch:=(first|exact aV|fail)) only[go_sem, ↓reduceIte,Zv];repeat' (first|exact m|refine tR.intro ?_ ?_|simp(disch:=(first|exact aV|fail)) only[go_sem, ↓reduceIte,Zv,ae m,ae r])
  all_goals
   refine(BM B U c b').mono ?_;rintro _ W ⟨rfl,z⟩;have y:=z.own m (fun h=>h);have w:=z.own j (fun h=>h);have n:=z.own d (fun h=>h);refine⟨y,?_⟩;simp(disch:=(first|exact aV|fail)) only[go_sem, ↓reduceIte,Zv,w];refine⟨y,?_⟩;simp(disch:=(first|exact aV|fail)) only[go_sem, ↓reduceIte,Zv,n];refine⟨y,?_⟩;simp(disch:=(first|exact aV|fail)) only[go_sem, ↓reduceIte,Zv,o _ _ w,u _ _ _ n];exact db (lo:=H.size+4) (a:=H.size+1+1) (b:=H.size+1+1+1) (p:=(t,Jd t c b')) q (e.trans z) (hh.same (e.trans z) (lo:=H.size+4)) O O
end
end
section
variable{cap kd dd:Int}{mo:Nat}{H:Hp}
def B4(kd dd:Int)(mo:Nat):Int:=if KX kd dd≠0 then KX kd dd else if mo=0 then 31 else 0
theorem B5(H:Hp){n:Int}(x:0<=n/\n<=65536):aF 38 [i64 n,.int .u32 ((0:Nat):Int)] H fun v J=>ak (v= .tuple [.pointer none,i64 31].toArray/\af H J):=by
 refine aT AQ ?_;refine vs ?_;refine ai.dec (fun g=>absurd g O) (fun _=>?_);refine vs ?_;refine ai.dec (fun g=>absurd g O) (fun _=>?_);refine vs ?_;refine ai.dec (fun _=>?_) (fun g=>absurd rfl g);refine vs ?_;exact⟨rfl,aj.refl _ _⟩
theorem FK(e:0<=cap/\cap<=65536)(x:B4 kd dd mo≠0)(H:Hp):aF 18 [BO kd dd,i64 cap,.int .u32 (mo:Int)] H fun v J=>ak (v= .tuple [.pointer none,i64 (B4 kd dd mo)].toArray/\af H J):=by
 refine aT F0 ?_;refine vs ?_;have w:af H (H.new 23 [i64 kd,i64 dd]):=bD;generalize H.new 23 [i64 kd,i64 dd]=n at*;refine(mh kd dd n).mono ?_;rintro _ m ⟨rfl,a⟩;unfold B4 at x ⊢;by_cases z:KX kd dd=0
 ·rw[if_neg (fun h=>h z)]at x ⊢;rw[z];have hm:mo=0:=by
   apply aj3;intro h;rw[if_neg h]at x;exact x rfl
  subst hm;refine vs ?_;refine ai.dec (fun _=>?_) (fun y=>absurd trivial y);refine vs ?_;refine(B5 m e).mono ?_;rintro _ r ⟨rfl,c⟩;refine vs ?_;refine ai.dec (fun g=>absurd g (by decide)) (fun _=>?_);refine vs ?_;exact⟨rfl,(w.trans a).trans c⟩
 ·rw[if_pos z];refine vs ?_;refine ai.dec (fun g=>absurd g z) (fun _=>?_);refine vs ?_;exact⟨rfl,w.trans a⟩
theorem Eb(w:0<=cap/\cap<=65536)(hm:mo<=4294967295)(H:Hp):aF 53 [i64 cap,.int .u32 (mo:Int)] H fun v J=>ak (af H J/\
  if mo=0 then v= .tuple [.agg xg.toArray,i64 31].toArray else v= .tuple [.agg [i64 cap,.int .u32 (mo:Int),.slice none 0 0,.slice none 0 0].toArray,i64 0].toArray):=by
 refine aT Iz ?_;refine vs ?_;have x:af H (H.new 80 xg):=bD;have b0:(H.new 80 xg).own H.size=some xg:=am _ _ _;generalize H.new 80 xg=z at*;refine ai.dec (fun g=>absurd g O) (fun _=>?_);refine vs ?_;refine ai.dec (fun g=>absurd g O) (fun _=>?_);refine vs ?_;by_cases h:mo=0
 ·subst h;rw[show decide (((0:Nat):Int)=0)=true from rfl];refine v1 b0 ?_;refine v1 (cf b0) ?_;rw[if_pos rfl];exact⟨x.then (bS _ _ _) O,rfl⟩
 ·rw[ajO O];refine v1 b0 ?_;refine v1 (cf b0) ?_;rw[if_neg h];exact⟨x.then (bS _ _ _) O,rfl⟩
theorem XF(cap:Int)(mo:Nat):Cg (jD cap) (uO cap mo):=⟨by simp[jD,uO],fun x=>by
 constructor
 ·intro h;exact absurd (bg.2 h) (iU cap x)
 ·rintro⟨w,z⟩;simp only[uO,List.getElem?_replicate]at z;grind⟩
theorem XG(cap:Int)(mo:Nat)(x:Int):¬ (uO cap mo).live x:=fun h=>iU cap x (bg.2 (((XF cap mo).live x).2 h))
theorem XH(cap:Int)(mo:Nat):oP (uO cap mo):=by
 refine⟨fun x h=>(by cases h),ak8,fun x _=>XG cap mo x,?_,Nat.zero_le _⟩;show(0:Int)=((List.replicate cap.toNat ((0:Nat),false)).countP (·.2):Nat);rw[List.countP_replicate];simp
theorem B6(P:0<=cap/\cap<=65536)(hm:mo<=4294967295)(H:Hp):aF 33 [BO kd dd,i64 cap,.int .u32 (mo:Int)] H fun v J=>ak (af H J/\
  if B4 kd dd mo=0 then∃l,v= .tuple [.agg l.toArray,i64 0].toArray/\mF J l ⟨jD cap,uO cap mo,0⟩ (fun b=>H.size<=b/\b<J.size) 0 else v= .tuple [.agg Iw.toArray,i64 (B4 kd dd mo)].toArray):=by
 refine aT GP ?_;refine vs ?_;refine Tb fun C f b0 T D=>?_;refine(DD kd dd C).mono ?_;rintro _ K ⟨rfl,m⟩;have q:=m.own T (fun h=>h);unfold B4;by_cases d:KX kd dd=0
 ·rw[d];refine vs ?_;refine ai.dec (fun _=>?_) (fun B=>absurd trivial B);refine vs ?_;refine(Eb P hm K).mono ?_;rintro v z ⟨u,j⟩;have o:=u.own q (fun h=>h);by_cases L:mo=0
  ·rw[if_pos L]at j;subst j;obtain⟨w,r,V⟩:=oz z 80 xg xg;refine vs ?_;generalize (z.new 80 xg).wr z.size xg=p at*;refine ai.dec (fun g=>absurd g (by decide)) (fun _=>?_);have c3:=w.own o (fun h=>h);refine v1 c3 ?_;refine v1 (cf c3) ?_;refine⟨(((f.trans m).trans u).trans w).then (bS _ _ _) O,?_⟩;rw[show(if(0:Int)≠0 then(0:Int)else if mo=0 then 31 else 0)=31 by omega,if_neg (by decide)];rfl
  ·rw[if_neg L]at j;subst j;obtain⟨w,r,V⟩:=oz z 80 xg [i64 cap,.int .u32 (mo:Int),.slice none 0 0,.slice none 0 0];refine vs ?_;generalize G:z.size=c4 at*;generalize (z.new 80 xg).wr c4 [i64 cap,.int .u32 (mo:Int),.slice none 0 0,.slice none 0 0]=p at*;refine ai.dec (fun _=>?_) (fun B=>absurd trivial B);refine vs ?_;have c3:=w.own o (fun h=>h);have E:=aC o;refine cZ.intro (fun J=>J.own c4=some [i64 cap,.int .u32 (mo:Int),.slice none 0 0,.slice none 0 0]) r ?_;refine vs ?_;refine bG.intro (.agg [i64 cap,.int .u32 (mo:Int),.slice none 0 0,.slice none 0 0].toArray) (fun J W=>?_) ?_
   ·refine v1 (ae W) ?_;trivial
   refine vs ?_;refine(Di cap p P).mono ?_;rintro _ H4 ⟨A,c⟩;obtain⟨e,y,a,n,rfl⟩:=A.val;refine⟨c.own r (fun h=>h),?_⟩;have c5:=c.own c3 (fun h=>h);refine v1 c5 ?_;refine⟨c.own r (fun h=>h),?_⟩;refine v1 (cf c5) ?_;have X:=w.size;have z4:=c.size;have M:=m.size;have Q:=((((f.trans m).trans u).trans w).trans c).then (bS H4 (H.size+1) [i64 cap,.int .u32 (mo:Int),.slice none 0 0,.slice none 0 0,.slice e (jD cap).hs.length y,.slice a (jD cap).cs.length n,u64 0]) O;have zE:(H4.wr (H.size+1) [i64 cap,.int .u32 (mo:Int),.slice none 0 0,.slice none 0 0,.slice e (jD cap).hs.length y,.slice a (jD cap).cs.length n,u64 0]).size=H4.size:=bH ..
   have I:=A.ext (bS H4 (H.size+1) [i64 cap,.int .u32 (mo:Int),.slice none 0 0,.slice none 0 0,.slice e (jD cap).hs.length y,.slice a (jD cap).cs.length n,u64 0]) (fun b x h=>by
    rcases x with x|x
    ·exact x
    ·omega)
   refine⟨Q,?_⟩;rw[show(if(0:Int)≠0 then(0:Int)else if mo=0 then 31 else 0)=0 by omega,if_pos rfl];have U:∀b,jA (fun _=>False) p H4 b->H.size<=b/\b< (H4.wr (H.size+1) [i64 cap,.int .u32 (mo:Int),.slice none 0 0,.slice none 0 0,.slice e (jD cap).hs.length y,.slice a (jD cap).cs.length n,u64 0]).size:=fun b x=>by
    rcases x with x|x
    ·grind
    ·omega
   refine⟨_,rfl,none,0,none,0,e,y,a,n,[],[],?_,⟨none,0,none,0,rfl,⟨rfl,Z⟩,⟨rfl,Z⟩,Z,Z,Nk.new cap.toNat mo,XH cap mo,ajU _,ajU _⟩,I.mono U,XF cap mo,fun b x=>x.2⟩;have F:((uO cap mo).g.length:Int)=cap:=by simp[uO];omega
   rw[F];rfl
 ·refine vs ?_;refine ai.dec (fun g=>absurd g d) (fun _=>?_);refine v1 q ?_;refine v1 (cf q) ?_;refine⟨(f.trans m).then (bS _ _ _) O,?_⟩;rw[if_pos d,if_neg d];rfl
theorem Ec(ws:List (List UInt8)):dR (ws.map aL):=fun v h=>by
 obtain⟨x,_,rfl⟩:=akx.1 h;rfl
theorem mv(H:Hp)(l:List UInt8)(G:l.length<=1000000)(c:UInt8):aF 55 [aL l,.int .u8 c.toNat] H fun v J=>ak (
  af H J/\∃b,H.size<=b/\Sl J 1 v (pieces c l).length ((pieces c l).map aL) (some b)):=by
 refine aT IB ?_;refine vs ?_;have a:l.toArray.size=l.length:=ak6 ..
 have s0:Sl (H.new 9 []) 1 (.slice (some ⟨H.size,0,none⟩) 0 0) 0 ([].map aL) (some H.size):=Sl.bJ (size:=1) (n:=0) (xs:=[]) rfl rfl;have L:af H (H.new 9 []):=bD;have D:(H.new 9 []).size=H.size+1:=by rw[ag]
 generalize H.new 9 []=I at*;obtain⟨M,E⟩:=tM c _ l (ajU _);refine bj.intro (fun m env J=>∃ (i from_:Nat) (ps:List (List UInt8)) (v:Value) (b:Nat),m=l.length - i/\i<=l.length/\from_<=i/\c∉ (l.take i).drop from_/\pieces c l=ps++pieces c (l.drop from_)/\env=[(0,aL l),(1,.int .u8 c.toNat),(5,v),(6,i64 from_),(7,i64 i)]/\af H J/\H.size<=b/\Sl J 1 v ps.length (ps.map aL) (some b)) l.length ⟨0,0,[],_,H.size,O,O,O,by simp,by simp,rfl,L,O,s0⟩ ?_;rintro m env r ⟨i,fr,ps,v,b,hm,hi,V,j,e,rfl,y,o,s1⟩;refine vs ?_;refine ai.dec (fun C=>?_) (fun C=>?_)<;>refine vs ?_
 ·obtain⟨x,g⟩:∃x,l[i]? =some x:=⟨_,ajL O⟩;refine v4 pE Int.toNat_natCast g Ck ?_;refine ai.dec (fun B=>?_) (fun B=>?_)<;>refine vs ?_
  ·have W:x=c:=UInt8.toNat_inj.1 O;subst W;refine⟨⟨O,O,O⟩,?_⟩;refine v2 Int.toNat_natCast pF ?_;have w:af r (r.new 9 [aL ((l.take i).drop fr)]):=bD;have U:ps.length<=1000001:=by
    have:=ajP List.length e;rw[ajW]at this;omega
   refine Sl.append (s1.ext w (fun _ _ h=>h)) (Sl.bJ (size:=1) (n:=1) (xs:=[aL ((l.take i).drop fr)]) rfl rfl).rd rfl (Ec [_]) O ?_;intro P J p s3 d u;obtain⟨b',rfl,f⟩:∃b',p=some b'/\H.size<=b':=by
    rcases u with rfl| ⟨b',rfl,q,A⟩
    ·exact⟨b,rfl,o⟩
    ·exact⟨b',rfl,akc (y.trans w).size q⟩
   refine vs ?_;rw[wrap64 (n:=(i:Int)+1) O O];have F:l.drop fr=(l.take i).drop fr++x::l.drop (i+1):=by
    have K:l.drop i=x::l.drop (i+1):=by
     rw[akm O];rw[ajL O]at g;injection g with g;rw[g]
    conv=>lhs;rw[<-akZ i l,List.drop_append,K]
    rw[show fr - (l.take i).length=0 by rw[akf];omega,List.drop_zero]
   refine⟨l.length - (i+1),O,i+1,i+1,ps++[(l.take i).drop fr],P,b',rfl,O,O,?_,?_,rfl,?_,f,by rw[akn,ajW];exact s3⟩
   ·rw[List.drop_eq_nil_of_le (by rw[akf];omega)];simp
   ·rw[e,F,oC _ _ j,akR];rfl
   ·exact(y.trans w).then d (fun z (a:some b=some z)=>by injection a with a;omega)
  ·rw[wrap64 (n:=(i:Int)+1) O O];refine⟨l.length - (i+1),O,i+1,fr,ps,v,b,rfl,O,O,?_,e,rfl,y,o,s1⟩;rw[aj2,g,List.drop_append,aj4];rintro(h|h)
   ·exact j h
   ·rw[show fr - (l.take i).length=0 by rw[akf];omega,List.drop_zero]at h;simp at h;exact B (by rw[h])
 ·have Q:i=l.length:=O;refine⟨⟨O,O,O⟩,?_⟩;refine v3 Int.toNat_natCast pF a ?_;have U:ps.length<=1000001:=by
   have:=ajP List.length e;rw[ajW]at this;omega
  have T:(l.take l.length).drop fr=l.drop fr:=by rw[aj8]
  rw[T];have w:af r (r.new 9 [aL (l.drop fr)]):=bD;refine Sl.append (s1.ext w (fun _ _ h=>h)) (Sl.bJ (size:=1) (n:=1) (xs:=[aL (l.drop fr)]) rfl rfl).rd rfl (Ec [_]) O ?_;intro P J p s3 d u;refine vs ?_;refine⟨(y.trans w).then d (fun z (a:some b=some z)=>by injection a with a;omega),?_⟩;subst Q;rw[aj8]at j;rw[fY _ j]at e;obtain⟨b',rfl,f⟩:∃b',p=some b'/\H.size<=b':=by
   rcases u with rfl| ⟨b',rfl,q,A⟩
   ·exact⟨b,rfl,o⟩
   ·exact⟨b',rfl,akc (y.trans w).size q⟩
  exact⟨b',f,by rw[e,akn,ajW];exact s3⟩
theorem AF(H:Hp)(l:List UInt8)(e:l.length<=1000000):aF 61 [aL l] H fun v J=>ak (
  ((∃u:Nat,u<4294967296/\l=Lib.decDigits u/\v= .tuple [u32 u,.bool true].toArray)\/((∀u:Nat,u<4294967296->l≠Lib.decDigits u)/\v= .tuple [u32 0,.bool false].toArray))/\H=J):=by
 refine aT EQ ?_;refine vs ?_;refine(mX H l e).mono ?_;rintro _ _ ⟨⟨n,z,w,x,rfl⟩| ⟨x,rfl⟩,rfl⟩<;>refine v2 akw akF ?_
 ·refine ai.dec (fun m=>?_) (fun m=>?_)<;>refine vs ?_
  ·refine⟨.inr ⟨fun u a h=>?_,rfl⟩,rfl⟩;have:=IT z w O O (x.symm.trans (h.trans (Lib.itoa_nonneg u).symm));omega
  refine ai.dec (fun c=>?_) (fun c=>?_)<;>refine vs ?_
  ·refine⟨.inr ⟨fun u a h=>?_,rfl⟩,rfl⟩;have:=IT z w O O (x.symm.trans (h.trans (Lib.itoa_nonneg u).symm));omega
  ·rw[Cf (n:=n) O O];refine⟨.inl ⟨n.toNat,O,?_,?_⟩,rfl⟩
   ·rw[x];have:n=(n.toNat:Int):=O;conv=>lhs;rw[this]
    rfl
   ·rw[show((n.toNat:Nat):Int)=n by omega];rfl
 ·refine⟨.inr ⟨fun u a h=>x u O O (by rw[Lib.itoa_nonneg];exact h),rfl⟩,rfl⟩
theorem bd0(cap:Int)(mo:Nat):Bd ⟨jD cap,uO cap mo,0⟩ 0:=by
 refine⟨Nat.one_pos,ajU _,fun x=>?_,Int.le_refl _,Int.le_refl _⟩;unfold Ar.bf uO;grind
theorem mF.ext{J:Hp}{l:List Value}{t:iu}{Bs Q:Nat->Prop}{N:Nat}(h:mF H l t Bs N)(e:aj Q H J)(x:∀b,Bs b->¬Q b):mF J l t Bs N:=by
 obtain⟨j,d,a,gc,g,r,z,w,T,G,rfl,n,m,c,v⟩:=h;exact⟨j,d,a,gc,g,r,z,w,T,G,rfl,n.ext e x,m.ext e x,c,fun b y=>aj0 (v b y) e.size⟩
def splitN:List UInt8->List (List UInt8)
 | []=>[[]]
 |c::r=>if c=10 then[]::splitN r else match splitN r with
  | []=>[[c]]
  |x::xs=>(c::x)::xs
theorem ir(l:List UInt8):splitN l≠[]:=by
 cases l with
 |nil=>simp[splitN]
 |cons c r=>grind [splitN]
theorem Jz(l:List UInt8)(c:UInt8){a:List (List UInt8)}{x:List UInt8}(h:splitN l=a++[x]):splitN (l++[c])=if c=10 then a++[x,[]]else a++[x++[c]]:=by
 induction l generalizing a x with
 |nil=>
  have g:a=[]/\x=[]:=by
   unfold splitN at h;cases a with
   |nil=>grind
   |cons b a=>simp at h
  grind [splitN]
 |cons b r v=>
  obtain⟨z,w,e⟩:∃z w,splitN r=z++[w]:=⟨_,_,(akT (ir r)).symm⟩;have i:=v e;rw[akI];unfold splitN at h ⊢;rw[i];rw[e]at h;by_cases m:b=10
  ·rw[if_pos m]at h ⊢;have: []::z=a/\w=x:=by
    have n:([]::z)++[w]=a++[x]:=h;have:=List.append_inj' n rfl;exact Z
   grind
  ·rw[if_neg m]at h ⊢;cases z with
   |nil=>
    have n: []++[b::w]=a++[x]:=h;have:=List.append_inj' n rfl;grind
   |cons y z=>
    have n:((b::y)::z)++[w]=a++[x]:=h;have:=List.append_inj' n rfl;grind
open Go.Lib in
theorem Ed(sep:List UInt8)(x k:Nat)(s:List UInt8):splitK sep x (k+1) s=if index s sep== -1 then[s]else s.take ((index s sep).toNat+x)::splitK sep x k (s.drop ((index s sep).toNat+sep.length)):=rfl
open Go.Lib in
theorem Pv(l:List UInt8):splitK [10] 0 (count l [10]) l=splitN l:=by
 induction l with
 |nil=>rfl
 |cons c r w=>
  unfold splitN;by_cases x:c=10
  ·subst x;rw[if_pos rfl,count_cons_eq,Nat.add_comm,<-w];rfl
  ·rw[if_neg x,count_cons_ne c 10 r x,<-w];have a:index (c::r) [10]=if index r [10]== -1 then -1 else index r [10]+1:=by
    show(if([10]:List UInt8).isPrefixOf (c::r)then(0:Int)else _)=_;rw[if_neg];simp[List.isPrefixOf];exact fun h=>x h.symm
   cases z:count r [10]with
   |zero=>rfl
   |succ k=>
    have n:index r [10]≠ -1:=fun h=>by rw[count_miss h]at z;cases z
    obtain⟨i,hi⟩:∃i:Nat,index r [10]=i:=by
     rcases indexB_cases ⟨r.toArray⟩ ⟨#[10]⟩with h| ⟨i,h,_⟩
     ·grind
     grind
    rw[Ed,Ed,a,hi,if_neg Z,if_neg Z,if_neg Z];rfl
def XI(H:Hp):Prop:=∀w:World,w.heap=H->∃m,w.cell? ⟨1,0,none⟩=some (.int .i64 m)
theorem uQ(hm:XI H)(l:List UInt8)(g:l.length<=1000000):aF 28 [aL l,aL [10]] H fun v J=>ak (Sl J 1 v (splitN l).length ((splitN l).map aL) (some H.size)/\af H J):=fun w h=>by
 obtain⟨m,hm⟩:=hm w h;refine(Tryz.strings_Split ⟨l.toArray⟩ ⟨#[10]⟩ m w (by show l.toArray.size<_;grind) hm (by decide)).mono ?_;rintro e w' ⟨rfl,rfl⟩;have x:(Lib.splitB ⟨#[10]⟩ 0 (Lib.countB ⟨l.toArray⟩ ⟨#[10]⟩) ⟨l.toArray⟩).map Value.string=(splitN l).map aL:=by
  have n:=Lib.splitB_data ⟨#[10]⟩ 0 (Lib.countB ⟨l.toArray⟩ ⟨#[10]⟩) ⟨l.toArray⟩;have c:Lib.splitK [10] 0 (Lib.count l [10]) l=splitN l:=Pv l;have a:(Lib.splitB ⟨#[10]⟩ 0 (Lib.countB ⟨l.toArray⟩ ⟨#[10]⟩) ⟨l.toArray⟩).map (·.data.toList)=splitN l:=by
   grind
  rw[<-a,List.map_map];apply akG;intro b _;rfl
 have z:Lib.countB ⟨l.toArray⟩ ⟨#[10]⟩+1=(splitN l).length:=by
  rw[<-Lib.splitB_all ⟨#[10]⟩ (by decide) 0 _ ⟨l.toArray⟩ rfl];have:=ajP List.length x;simpa using this
 rw[x,z];subst h;exact⟨_,rfl,⟨rfl,rfl⟩,Sl.lit w.heap 9 1 (splitN l).length ((splitN l).map aL) (by simp),(aj.refl _ _).new 9 ((splitN l).map aL)⟩
theorem TS(L:List (List UInt8)):dR (L.map aL):=fun v h=>by
 obtain⟨x,_,rfl⟩:=akx.1 h;rfl
theorem Sc{T:TypeId}{n b:Nat}{w:Value}{L:List (List UInt8)}{x:List UInt8}{K:Value->Hp->Prop}(s:Sl H 1 w L.length (L.map aL) (some b))(o:H.own n=some [aL x])(d:L.length<=1000000)
  (c:∀w' J b',(b'=b\/H.size<=b')->Sl J 1 w' (L++[x]).length ((L++[x]).map aL) (some b')->aj (fun z=>z=b) H J->K w' J):
  eI T 1 16 [.string ⟨#[]⟩] w (.slice (some ⟨n,0,none⟩) 1 1) H K:=by
 have q:bX H 1 (.slice (some ⟨n,0,none⟩) 1 1) 1 ([x].map aL):=Sl.rd (fp:=some n) ⟨rfl,_,1,rfl,o,O,by simp,rfl⟩;refine Sl.append s q rfl (TS [x]) O fun v J r h a g=>?_;rw[<-akn]at h;have m:aj (fun z=>z=b) H J:=⟨a.size,fun z y p=>a.be z y Z⟩;rcases g with rfl| ⟨b',rfl,e,j⟩
 ·exact c v J b (.inl rfl) (by rw[ajW];exact h) m
 ·exact c v J b' (.inr e) (by rw[ajW];exact h) m
def dO(l:List UInt8):List (List UInt8):=if(splitN l).getLast (ir l)=[]then(splitN l).dropLast else splitN l
theorem AG(H:Hp)(l:List UInt8)(I:l.length<=1000000):aF 34 [aL l] H fun v J=>ak (∃fp,Sl J 1 v (dO l).length ((dO l).map aL) fp/\af H J/\∀z,fp=some z->H.size<=z):=by
 refine aT EL ?_;refine vs ?_;have B:af H (H.new 9 []):=bD;have s0:Sl (H.new 9 []) 1 (.slice (some ⟨H.size,0,none⟩) 0 0) 0 (([]:List (List UInt8)).map aL) (some H.size):=Sl.lit _ _ 1 0 [] rfl;generalize H.new 9 []=Q at*;refine bj.intro (fun m env J=>∃ (i fr:Nat) (outs:List (List UInt8)) (v:Value) (b:Nat),m=l.length - i/\i<=l.length/\fr<=i/\outs.length<=i/\splitN (l.take i)=outs++[(l.take i).drop fr]/\Sl J 1 v outs.length (outs.map aL) (some b)/\H.size<=b/\af H J/\env=[(0,aL l),(3,v),(4,i64 fr),(5,i64 i)]) l.length
  ⟨0,0,[],_,H.size,O,O,O,by simp,rfl,s0,O,B,rfl⟩ ?_
 rintro m env a ⟨i,fr,outs,v,b,rfl,hi,W,G,n,s1,p,w,rfl⟩;refine vs ?_;refine ai.dec (fun j=>?_) (fun j=>?_)<;>refine vs ?_
 ·obtain⟨c,o⟩:∃c,l[i]? =some c:=⟨_,ajL (by simpa using j)⟩;have f:i<l.length:=Z;have K:l.take (i+1)=l.take i++[c]:=by rw[aj2,o];rfl
  have U:(l.take (i+1)).drop fr=(l.take i).drop fr++[c]:=Z;have d:=Jz (l.take i) c n;rw[<-K]at d;refine⟨O,?_⟩;refine v3 Int.toNat_natCast pE o ?_;by_cases y:c=10
  ·subst y;rw[if_pos rfl]at d;rw[show decide ((((10:UInt8).toNat:Nat):Int)=10)=true from rfl];refine v2 Int.toNat_natCast pF ?_;refine⟨O,?_⟩;refine v2 Int.toNat_natCast pF ?_;have x:af a (a.new 9 [aL ((l.take i).drop fr)]):=bD;refine Sc (s1.ext x (fun _ _ h=>h)) (am _ _ _) O fun w' u b' q s3 g=>?_;refine vs ?_;rw[wrap64 O O];have F:=x.size;have T:=w.size;have L:H.size<=b':=by
    rcases q with rfl|h
    ·exact p
    ·grind
   refine⟨l.length - (i+1),O,i+1,i+1,outs++[(l.take i).drop fr],w',b',rfl,O,O,Z,?_,s3,L,(w.trans x).then g O,rfl⟩;grind
  ·rw[if_neg y]at d;rw[ajO (show¬ ((c.toNat:Nat):Int)=10 from fun h=>y (by
    have P:c.toNat=(10:UInt8).toNat:=by
     show c.toNat=10;omega
    exact UInt8.toNat_inj.1 P))]
   refine vs ?_;rw[wrap64 O O];exact⟨l.length - (i+1),O,i+1,fr,outs,v,b,rfl,O,O,O,Z,s1,p,w,rfl⟩
 ·have f:i=l.length:=by
   have:¬i<l.length:=by simpa using j
   omega
  subst f;rw[aj8]at n;have V:(splitN l).getLast (ir l)=l.drop fr:=by simp only[n];simp
  refine ai.dec (fun r=>?_) (fun r=>?_)<;>refine v2 Int.toNat_natCast pF ?_
  ·have A:fr<l.length:=by simpa using r
   refine⟨O,?_⟩;simp(disch:=(first|exact aV|fail)) only[go_sem, ↓reduceIte,Zv,Int.toNat_natCast,pF,ak6,aj8];have x:af a (a.new 9 [aL (l.drop fr)]):=bD;refine Sc (s1.ext x (fun _ _ h=>h)) (am _ _ _) O fun w' u b' q s3 g=>?_;refine vs ?_;have C:l.drop fr≠[]:=fun h=>by
    have:=ajP List.length h;rw[List.length_drop]at this;simp at this;omega
   have e:dO l=outs++[l.drop fr]:=by
    unfold dO;grind
   rw[e];have F:=x.size;have T:=w.size;refine⟨some b',s3,(w.trans x).then g O,fun z D=>?_⟩;grind
  ·have A:¬fr<l.length:=by simpa using r
   have C:l.drop fr=[]:=Z;have e:dO l=outs:=by
    unfold dO;rw[if_pos Z,n];simp
   rw[e];exact⟨some b,s1,w,Z⟩
end
end Go.Proofs.YtjkkkibiegfecaaGreatDoor
