/- Texts put behind each other. -/
import Derived.Test.YtjkkkibiegfecaaGreatDoorK29
set_option linter.unusedSimpArgs false
set_option linter.unusedVariables false
set_option maxRecDepth 100000
set_option maxHeartbeats 8000000
namespace Go.Proofs.YtjkkkibiegfecaaGreatDoor
open Go Go.Vc
section
variable{i j:Nat}
theorem Sl.at_{H:Hp}{v:Value}{n:Nat}{xs:List Value}{fp:Option Nat}(h:Sl H 1 v n xs fp){x:Value}(a:xs[i]? =some x):∃b z lb,v= .slice (some ⟨b,0,none⟩) n z/\fp=some b/\H.own b=some lb/\lb[i]? =some x/\i<n/\n<=lb.length:=by
 have hi:=(ajK.1 a).1;obtain⟨m,hm⟩:=id h;grind
structure gI(H:Hp)(n c:Nat)(C:Nat->Prop)(rv:Value)(r:Nat)(fp fa:Option Nat)(st:Int)(w:Nw)(l at_:List Int):Prop where
 own:∃av,H.own n=some [ptr c,rv,av]/\Sl H 1 av at_.length (at_.map i64) fa
 cells:bk H c C st w
 jd:∃sv,H.own r=some [ptr n,sv]/\Sl H 1 sv l.length (l.map i64) fp
 nC:¬C n
 rC:¬C r
 rn:r≠n
 uK:∀b,fp=some b->¬C b/\b≠n/\b≠r/\fa≠some b
 Ho:∀b,fa=some b->¬C b/\b≠n/\b≠r
 ll:l.length<=65536
abbrev pv(r:Nat):Value:=.iface 399 (ptr r)
theorem pX{l:List Int}{x:Int}(h:l[i]? =some x):l.getD i 0=x:=Z
theorem getD_take{l:List Int}{k m:Nat}(h:k<m):(l.take m).getD k 0=l.getD k 0:=Z
section
variable {H : Hp} {n c : Nat} {C : Nat → Prop} {rv : Value} {r : Nat} {fp fa : Option Nat} {st : Int} {w : Nw} {l at_ : List Int}
theorem gJ(m:gI H n c C rv r fp fa st w l at_):aF 368 [ptr r] H fun v J=>ak (v=i64 l.length/\H=J):=by
 obtain⟨e,x,h⟩:=m.jd;obtain⟨a,z,rfl⟩:=bX.Dh h.rd;refine aT Bl ?_;refine v1 (ae x) ?_;exact⟨rfl,rfl⟩
theorem DH(m:gI H n c C rv r fp fa st w l at_)(hi:i<l.length)(I:j<l.length)(P:∀z∈l,cz w.cs z):aF 376 [ptr r,i64 i,i64 j] H fun v J=>ak (
  v= .bool (aU w (l.getD i 0) (l.getD j 0))/\gI J n c C rv r fp fa (min (st+1) 4611686018427387904) w l at_/\aj C H J):=by
 obtain⟨A,L,K⟩:=m.own;obtain⟨X,t,d⟩:=m.jd;obtain⟨x,p⟩:∃x,l[i]? =some x:=⟨_,ajL hi⟩;obtain⟨y,o⟩:∃y,l[j]? =some y:=Z;obtain⟨b,U,M,rfl,Q,h,F,_,_⟩:=Sl.at_ d (i:=i) (x:=i64 x) (by simp[p]);obtain⟨b',W,E,D,g,e,N,_,_⟩:=Sl.at_ d (i:=j) (x:=i64 y) (by simp[o]);rw[Q]at g;injection g with g;subst g;rw[h]at e;injection e with e;subst e;have V:=m.ll;refine aT zH ?_;refine v2 (ae t) (ae L) ?_;refine⟨O,?_⟩;refine v5 (ae h) ajM F (ae t) Int.toNat_natCast ?_;refine⟨O,?_⟩;refine v4 (ae h) ajM N Int.toNat_natCast ?_;have u:=P x (ajV p);have B:=P y (ajV o);refine(iN m.cells x y).mono ?_;rintro _ H1 ⟨rfl,f,a⟩;refine vs ?_;have G:=m.cells.st;rw[if_pos ⟨u,B⟩,show fR st 1=min (st+1) 4611686018427387904 by unfold fR;rw[if_neg O];split<;>omega]at f;refine⟨by rw[pX p,pX o,tH u B];rfl,⟨⟨A,a.own L m.nC,K.ext a (fun b h=>(m.Ho b h).1)⟩,f,⟨_,a.own t m.rC,d.ext a (fun b h=>(m.uK b h).1)⟩,m.nC,m.rC,m.rn,m.uK,m.Ho,m.ll⟩,a⟩
theorem DI(m:gI H n c C rv r fp fa st w l at_)(F:jc l at_)(hi:i<l.length)(hj:j<l.length)(hij:i≠j):aF 379 [ptr r,i64 i,i64 j] H fun v J=>ak (
  v= .tuple [].toArray/\gI J n c C rv r fp fa st w (swp l i j) (yr l at_ i j)/\aj (fun z=>fp=some z\/fa=some z) H J):=by
 obtain⟨av,N,K⟩:=m.own;obtain⟨sv,p,P⟩:=m.jd;obtain⟨x,L⟩:∃x,l[i]? =some x:=⟨_,ajL hi⟩;obtain⟨y,A⟩:∃y,l[j]? =some y:=Z;obtain⟨b,cc,e,rfl,rfl,h,Ac,_,E5⟩:=Sl.at_ P (i:=i) (x:=i64 x) (by simp[L]);obtain⟨b',JR,S4,hv,o,t,hby,_,_⟩:=Sl.at_ P (i:=j) (x:=i64 y) (by simp[A]);injection o with o;subst o;rw[h]at t;injection t with t;subst t;obtain⟨kh,X⟩:=F i x L;obtain⟨hy0,hay⟩:=F j y A;have Og:=(ajK.1 X).1;have hyl:=(ajK.1 hay).1;obtain⟨f,fc,la,rfl,rfl,hf,Tf,_,OL⟩:=Sl.at_ K (i:=x.toNat) (x:=i64 i) Z;have ze:=m.ll;obtain⟨d1,W,I,d4⟩:=m.uK b rfl;obtain⟨g1,V,G⟩:=m.Ho f rfl;have hbf:b≠f:=Z;refine uS zJ ⟨rfl,?_⟩;refine v2 oh.eq_1 (ae p) ?_;refine⟨O,?_⟩;refine v5 (ae h) ajM hby (ae p) Int.toNat_natCast ?_;refine⟨O,?_⟩;refine v4 (ae h) ajM Ac Int.toNat_natCast ?_;refine⟨O,?_⟩;refine v3 h ajM Int.toNat_natCast ?_;refine⟨O,?_⟩;refine v1 ajJ ?_;refine⟨O,?_⟩;simp(disch:=(first|exact aV|fail)) only[go_sem, ↓reduceIte,Zv,cf h,ajM,Int.toNat_natCast];refine⟨Z,?_⟩;refine v1 ajJ ?_;have a:aj (fun z=>z=b) H (H.wr b ((e.set i (i64 y)).set j (i64 x))):=(aj.refl (fun z=>z=b) _).wr (fun _=>rfl) _;have Q:(H.wr b ((e.set i (i64 y)).set j (i64 x))).own b=some ((e.set i (i64 y)).set j (i64 x)):=ah h;have s1:=(P.nQ h i (i64 y)).nQ (ah h) j (i64 x);rw[Jq]at s1;generalize H.wr b ((e.set i (i64 y)).set j (i64 x))=H1 at*;have B:=a.own p (Ne.symm I);have u:=a.own N (Ne.symm W);have d:=a.own hf (Ne.symm hbf);have E:=K.ext a Z;have U:=m.cells.ext a Z;have D:((e.set i (i64 y)).set j (i64 x))[i]? =some (i64 y):=Z;have M:((e.set i (i64 y)).set j (i64 x))[j]? =some (i64 x):=by rw[ajY (by rw[ajN];omega)]
 refine v4 (ae p) (ae N) (ae B) (ae u) ?_;refine⟨O,?_⟩;refine v6 (ae Q) ajM D (ae B) (ae u) Int.toNat_natCast ?_;refine⟨O,?_⟩;refine v4 (ae Q) ajM M Int.toNat_natCast ?_;refine⟨O,?_⟩;refine v3 d ajM ajJ ?_;refine⟨O,?_⟩;refine v1 ajJ ?_;refine⟨O,?_⟩;simp(disch:=(first|exact aV|fail)) only[go_sem, ↓reduceIte,Zv,cf d,ajM,ajJ];refine⟨Z,?_⟩;refine v1 ajJ ?_;have g:aj (fun z=>z=f) H1 (H1.wr f ((la.set y.toNat (i64 i)).set x.toNat (i64 j))):=(aj.refl (fun z=>z=f) _).wr (fun _=>rfl) _;have s2:=(E.nQ d y.toNat (i64 i)).nQ (ah d) x.toNat (i64 j);rw[Jq]at s2;have ex:=pX L;have ey:=pX A;refine⟨rfl,⟨⟨_,g.own u (Ne.symm V),?_⟩,U.ext g Z,⟨_,g.own B (Ne.symm G),?_⟩,m.nC,m.rC,m.rn,m.uK,m.Ho,by rw[hG];omega⟩,(a.mono Z).trans (g.mono Z)⟩
 ·unfold yr;simp_all
 ·have:=s1.ext g Z;unfold swp;simp_all
end
structure ml(n c:Nat)(C:Nat->Prop)(rv:Value)(r:Nat)(fp fa:Option Nat)(st:Int)(w:Nw)(l at_:List Int)(mm:Nat)(H J:Hp)(l' at':List Int)(q:Nat):Prop where
 jd:gI J n c C rv r fp fa (min (st+q) 4611686018427387904) w l' at'
 ok:jc l' at'
 mem:∀z,z∈l'↔z∈l
 len:l'.length=l.length
 drop:l'.drop mm=l.drop mm
 Hq:at'.length=at_.length
 off:∀z:Int,0<=z->z∉l->at'[z.toNat]? =at_[z.toNat]?
 ext:aj (fun z=>C z\/fp=some z\/fa=some z) H J
section
variable {H H1 : Hp} {n c : Nat} {C : Nat → Prop} {rv : Value} {r : Nat} {fp fa : Option Nat} {st : Int} {w : Nw} {l at_ l1 Fj : List Int} {mm q : Nat}
theorem ml.refl(m:gI H n c C rv r fp fa st w l at_)(x:jc l at_)(mm:Nat):ml n c C rv r fp fa st w l at_ mm H H l at_ 0:=
 ⟨by have:=m.cells.st;grind,x,fun _=>Iff.rfl,rfl,rfl,rfl,fun _ _ _=>rfl,aj.refl _ _⟩
theorem ml.less(h:ml n c C rv r fp fa st w l at_ mm H H1 l1 Fj q)(m:∀z∈l,cz w.cs z)(hi:i<l.length)(y:j<l.length):fN Tryz.prog (pv r) "Less" [i64 i,i64 j] H1 fun v x=>
  v= .bool (aU w (l1.getD i 0) (l1.getD j 0))/\ml n c C rv r fp fa st w l at_ mm H x l1 Fj (q+1):=by
 have t:=h.len;refine⟨_,_,376,ptr r,rfl,ba Y,(DH h.jd O O (fun z g=>m z ((h.mem z).1 g))).mono ?_⟩;rintro v x ⟨e,d,a⟩;refine⟨e,?_,h.ok,h.mem,h.len,h.drop,h.Hq,h.off,h.ext.trans (a.mono Z)⟩;grind
theorem ml.swap(h:ml n c C rv r fp fa st w l at_ mm H H1 l1 Fj q)(hm:mm<=l.length)(hi:i<mm)(y:j<mm)(m:i≠j):fN Tryz.prog (pv r) "Swap" [i64 i,i64 j] H1 fun v a=>
  v= .tuple [].toArray/\ml n c C rv r fp fa st w l at_ mm H a (swp l1 i j) (yr l1 Fj i j) q:=by
 have p:=h.len;refine⟨_,_,379,ptr r,rfl,ba Y,(DI h.jd h.ok (i:=i) (j:=j) O O m).mono ?_⟩;rintro v a ⟨t,d,e⟩;obtain⟨a1,a2,a3⟩:=h.ok.swp (i:=i) (j:=j) O O m;refine⟨t,d,a1,fun z=>by rw[QI O O,h.mem z],by rw[hG];exact h.len,by rw[OJ hi y O];exact h.drop,a2.trans h.Hq,fun z x hm=>?_,h.ext.trans (e.mono fun z _ x=>.inr x)⟩;rw[a3 z x (fun g=>hm ((h.mem z).1 g))];exact h.off z x hm
theorem pY(m:gI H n c C rv r fp fa st w l at_)(f:jc l at_){mm:Nat}(B:j<mm)(hm:mm<=l.length)(u:∀z∈l,cz w.cs z)(x:dV (aU w) 2 (l.take mm) j)
  (a:∀k,1<=k->k< (l.take mm).length->pa 2 k=j->aU w ((l.take mm).getD k 0) ((l.take mm).getD j 0)=false):
  aF 370 [pv r,i64 j] H fun v J=>ak (v= .tuple [].toArray/\∃ (l' at':List Int) (q:Nat),ml n c C rv r fp fa st w l at_ mm H J l' at' q/\eo (aU w) 2 (l'.take mm)/\q<=ix 2 j/\(1<=j->0<q)):=by
 have P:=au w;have W:=m.ll;refine aT uG ?_;refine vs ?_;refine bj.intro (fun k env J=>∃ (j':Nat) (l1 Fj:List Int) (q:Nat),env=[(0,pv r),(1,i64 j')]/\k=j'/\j'<mm/\ml n c C rv r fp fa st w l at_ mm H J l1 Fj q/\dV (aU w) 2 (l1.take mm) j'/\
   (∀k,1<=k->k< (l1.take mm).length->pa 2 k=j'->aU w ((l1.take mm).getD k 0) ((l1.take mm).getD j' 0)=false)/\q+ix 2 j'<=ix 2 j/\(j'≠j->0<q)) j
  ⟨j,l,at_,0,rfl,rfl,B,ml.refl m f mm,x,a,O,O⟩ ?_
 clear x a;rintro j' env H1 ⟨_,l1,Fj,q,rfl,rfl,t,e,x,a,D,M⟩;have U:=e.len;have d:=pa2 j';have A:IntKind.i64.wrap ((IntKind.i64.wrap ((j':Int) - 1)).tdiv 2)=((pa 2 j':Nat):Int):=by
  rw[wrap64 (n:=(j':Int) - 1) O O,d];split
  ·rename_i h;subst h;rfl
  ·grind [wrap64]
 simp(disch:=(first|exact aV|fail)) only[go_sem, ↓reduceIte,Zv,if_neg (show¬ ((2:Int)=0) by decide)];rw[A];have X:(l1.take mm).length=mm:=by rw[akf];omega
 by_cases g:j'=0
 ·refine ai.bY (ajQ (by rw[d,if_pos g,g];rfl)) ?_;refine vs ?_;exact⟨rfl,l1,Fj,q,e,x.heap a (fun h=>O),O,O⟩
 ·have G:=O;refine ai.aX (ajO O) ?_;refine vs ?_;refine fN.mono (e.less u (i:=j') (j:=pa 2 j') O O) ?_;rintro _ K ⟨rfl,y⟩;have SP:ix 2 (j':Int)=ix 2 ((pa 2 j':Nat):Int)+1:=by
   obtain⟨p,V,L,p0,p1⟩:=lX eX (i:=(j':Int)) O;rw[Int.toNat_natCast]at L;grind [ot]
  refine vs ?_;cases I:aU w (l1.getD j' 0) (l1.getD (pa 2 j') 0)with
  |false=>
   refine vs ?_;refine⟨rfl,l1,Fj,q+1,y,x.heap a (fun _ _=>?_),O,fun _=>O⟩;grind
  |true=>
   refine vs ?_;refine fN.mono (y.swap hm (i:=pa 2 j') (j:=j') O t O) ?_;rintro _ F ⟨rfl,o⟩;refine vs ?_;obtain⟨N,Q⟩:=Te P (l:=l1.take mm) (i:=j') O O x a Z;have E:(swp l1 (pa 2 j') j').take mm=swp (l1.take mm) (pa 2 j') j':=Jn O t O;exact⟨pa 2 j',O,pa 2 j',_,_,q+1,rfl,rfl,O,o,Z,Z,O,fun _=>O⟩
theorem sU(m:gI H n c C rv r fp fa st w l at_)(hat:jc l at_){i0 mm:Nat}(hi:i0<mm)(hm:mm<=l.length)(M:∀z∈l,cz w.cs z)(L:dV (aU w) 2 (l.take mm) i0):
  aF 369 [pv r,i64 i0,i64 mm] H fun v J=>ak (∃ (b:Bool) (l' at':List Int) (q:Nat),v= .bool b/\ml n c C rv r fp fa st w l at_ mm H J l' at' q/\q+2*ix 2 i0<=2*ix 2 ((mm:Int) - 1)/\
   (b=true->eo (aU w) 2 (l'.take mm))/\(b=false->l'=l/\at'=at_/\∀k,1<=k->k< (l.take mm).length->pa 2 k=i0->aU w ((l.take mm).getD k 0) ((l.take mm).getD i0 0)=false)):=by
 have A:=au w;have ze:=m.ll;refine uS re ⟨rfl,?_⟩;refine v1 jr.eq_1 ?_;have RP:∀k:Nat,k<mm->ix 2 (k:Int)<=ix 2 ((mm:Int) - 1):=fun k hk=>j1 eX ((mm:Int) - 1).toNat _ _ (ajU _) O;refine bj.intro (fun k env J=>∃ (i:Nat) (l1 Fj:List Int) (q:Nat),env=[(0,pv r),(1,i64 i0),(2,i64 mm),(7,i64 i)]/\k=mm - i/\i<mm/\i0<=i/\ml n c C rv r fp fa st w l at_ mm H J l1 Fj q/\dV (aU w) 2 (l1.take mm) i/\
   q+2*ix 2 i0<=2*ix 2 i/\(i0<i->aU w ((l1.take mm).getD i 0) ((l1.take mm).getD (pa 2 i) 0)=false)/\(i=i0->l1=l/\Fj=at_)) (mm - i0)
  ⟨i0,l,at_,0,rfl,rfl,hi,ajU _,ml.refl m hat mm,L,O,fun h=>O,Z⟩ ?_
 clear L;rintro k env H1 ⟨i,l1,Fj,q,rfl,rfl,D,MH,K,L,hq,hD,WA⟩;have UX:=K.len;have WU:(l1.take mm).length=mm:=by rw[akf];omega
 have stay:∀ (a:Hp) (x:Nat),ml n c C rv r fp fa st w l at_ mm H a l1 Fj x->x+2*ix 2 i0<=2*ix 2 ((mm:Int) - 1)->(∀k,1<=k->k< (l1.take mm).length->pa 2 k=i->aU w ((l1.take mm).getD k 0) ((l1.take mm).getD i 0)=false)->
   ∃ (b:Bool) (l' at':List Int) (q:Nat),Value.bool (decide ((i:Int)>i0))= .bool b/\ml n c C rv r fp fa st w l at_ mm H a l' at' q/\q+2*ix 2 i0<=2*ix 2 ((mm:Int) - 1)/\
    (b=true->eo (aU w) 2 (l'.take mm))/\(b=false->l'=l/\at'=at_/\∀k,1<=k->k< (l.take mm).length->pa 2 k=i0->aU w ((l.take mm).getD k 0) ((l.take mm).getD i0 0)=false):=by
  intro a x u hq' hB;refine⟨_,l1,Fj,x,rfl,u,hq',fun h=>?_,fun h=>?_⟩
  ·have:=of_decide_eq_true h;exact L.heap hB Z
  ·grind
 have G:∀k:Nat,1<=k->(pa 2 k=i↔(2*i+1<=k/\k<=2*i+2)):=by grind [pa]
 refine vs ?_;have hj1:IntKind.i64.wrap (IntKind.i64.wrap (2*(i:Int))+1)=((2*i+1:Nat):Int):=by
  rw[wrap64 (n:=2*(i:Int)) O O,wrap64 O O];omega
 rw[hj1];refine ai.dec (fun YZ=>?_) (fun YZ=>?_)
 ·refine vs ?_;exact stay H1 q K Z Z
 refine vs ?_;refine ai.aX Z ?_;refine vs ?_;have V:2*i+1<mm:=O;refine eS (fun e a=>e.find 0=some (pv r)/\e.find 1=some (i64 i0)/\e.find 2=some (i64 mm)/\e.find 7=some (i64 i)/\∃ (b:Nat) (x:Nat),e.find 9=some (i64 b)/\ml n c C rv r fp fa st w l at_ mm H a l1 Fj x/\x<=q+1/\1<=b/\b<mm/\pa 2 b=i/\
   ∀k,1<=k->k< (l1.take mm).length->pa 2 k=i->aU w ((l1.take mm).getD k 0) ((l1.take mm).getD b 0)=false) ?_ ?_
 ·have E:pa 2 (2*i+1)=i:=Z;refine vs ?_;have RR:IntKind.i64.wrap (((2*i+1:Nat):Int)+1)=((2*i+2:Nat):Int):=by rw[wrap64 O O];omega
  rw[RR];refine ai.dec (fun u=>?_) (fun u=>?_)
  ·have ST:pa 2 (2*i+2)=i:=Z;refine vs ?_;refine fN.mono (K.less M (i:=2*i+2) (j:=2*i+1) O O) ?_;rintro _ a ⟨rfl,F⟩;refine vs ?_;cases U:aU w (l1.getD (2*i+2) 0) (l1.getD (2*i+1) 0)with
   |false=>
    refine vs ?_;refine⟨trivial,trivial,trivial,trivial,2*i+1,q+1,rfl,F,O,O,V,E,fun k g B P=>?_⟩;have W:=(G k g).1 P;rw[getD_take O,getD_take O];by_cases N:k=2*i+1
    ·rw[N];exact A.HO _
    ·rw[show k=2*i+2 by omega];exact U
   |true=>
    refine vs ?_;refine⟨trivial,trivial,trivial,trivial,2*i+2,q+1,rfl,F,O,O,O,ST,fun k g B P=>?_⟩;have W:=(G k g).1 P;rw[getD_take O,getD_take O];by_cases N:k=2*i+2
    ·rw[N];exact A.HO _
    ·rw[show k=2*i+1 by omega];exact A.vH U
  ·refine vs ?_;refine⟨trivial,trivial,trivial,trivial,2*i+1,q,rfl,K,O,O,V,E,fun k g B P=>?_⟩;grind [aU]
 rintro e a ⟨y,t,d,o,b,x,f,u,hq',I,Q,X,Tg⟩;refine v5 y t d o f ?_;refine fN.mono (u.less M (i:=b) (j:=i) O O) ?_;rintro _ H3 ⟨rfl,g⟩;have SP:ix 2 (b:Int)=ix 2 (i:Int)+1:=by
  obtain⟨p,hp,hpa,p0,p1⟩:=lX eX (i:=(b:Int)) O;rw[Int.toNat_natCast,X]at hpa;rw[ot hp,show p=(i:Int) by omega]
 have hib:=di eX I;refine v5 y t d o f ?_;cases U:aU w (l1.getD b 0) (l1.getD i 0)with
 |false=>
  refine v5 y t d o f ?_;refine stay H3 (x+1) g Z (fun k B P W=>?_);cases A;grind
 |true=>
  refine v5 y t d o f ?_;refine fN.mono (g.swap hm (i:=i) (j:=b) D Q O) ?_;rintro _ H4 ⟨rfl,B⟩;refine v5 y t d o f ?_;obtain⟨g1,F⟩:=OK A (l:=l1.take mm) (i:=i) (b:=b) I O X L Tg Z;have ht:(swp l1 i b).take mm=swp (l1.take mm) i b:=Jn D Q O;exact⟨mm - b,O,b,_,_,x+1,rfl,rfl,Q,O,B,Z,O,Z,fun h=>O⟩
end
end
section
variable {H : Hp} {n c : Nat} {C : Nat → Prop} {rv : Value} {r : Nat} {fp fa : Option Nat} {st : Int} {w : Nw} {l at_ : List Int}
theorem DJ(m:gI H n c C rv r fp fa st w l at_)(hl:l.length<65536){x:Int}(hx:0<=x/\x.toNat<at_.length):aF 378 [ptr r,.iface 3 (i64 x)] H fun v J=>ak (
  v= .tuple [].toArray/\∃j,gI J n c C rv r j fa st w (l++[x]) (at_.set x.toNat l.length)/\aj (fun z=>fp=some z\/fa=some z\/z=r) H J/\(j=fp\/∃z,j=some z/\H.size<=z)):=by
 obtain⟨av,K,L⟩:=m.own;obtain⟨sv,u,U⟩:=m.jd;obtain⟨y,hy⟩:∃y,at_[x.toNat]? =some y:=⟨_,ajL hx.2⟩;obtain⟨f,fc,V,rfl,rfl,o,Tf,_,OL⟩:=Sl.at_ L (i:=x.toNat) (x:=i64 y) (by simp[hy]);obtain⟨g1,E,X⟩:=m.Ho f rfl;obtain⟨sa,sc,Th⟩:=bX.Dh U.rd;refine aT zI ?_;refine vs ?_;refine v3 (ae u) (ae K) Th ?_;refine⟨O,?_⟩;refine v3 o ajM ajJ ?_;refine⟨O,?_⟩;refine v1 ajJ ?_;have t:aj (fun z=>z=f) H (H.wr f (V.set x.toNat (i64 l.length))):=(aj.refl (fun z=>z=f) _).wr (fun _=>rfl) _;have s1:=L.nQ o x.toNat (i64 l.length);have F:=t.own K (Ne.symm E);have N:=t.own u (Ne.symm X);have Nq:=U.ext t (fun z g h=>(m.uK z g).2.2.2 (by rw[h]));have B:=m.cells.ext t Z;generalize H.wr f (V.set x.toNat (i64 l.length))=H1 at*;have P:aj (fun _=>False) H1 (H1.new 3 [i64 x]):=bD;refine v1 (ae u) ?_;refine Sl.append (Nq.ext P (fun _ _ h=>h)) (Sl.bJ (size:=1) (xs:=[i64 x]) rfl rfl).rd rfl (by intro v W;simp only[aj6]at W;subst W;rfl) O ?_;intro sv' H3 j s3 M yc;have z1:=t.size;have hrs:=aC N;have hns:=aC F;have d:aj (fun z=>fp=some z) H1 H3:=(P.mono fun _ _ h=>h.elim).lN M (fun z _ h=>h);have Q:=d.own N (fun h=>(m.uK r h).2.2.1 rfl);have hn3:=d.own F (fun h=>(m.uK n h).2.1 rfl);obtain⟨G,D,I⟩:=bX.Dh s3.rd;subst I;refine v1 Q ?_;generalize I:Value.slice G (l.length+1) D=v' at*;have p:aj (fun z=>z=r) H3 (H3.wr r [ptr n,v']):=(aj.refl (fun z=>z=r) _).wr (fun _=>rfl) _;have hfs:=aC o;have A:∀b,j=some b->fp=some b\/H1.size<=b:=fun b a=>by
  rcases yc with h| ⟨z,h,e,_⟩
  ·grind
  ·rw[h]at a;injection a with a;subst a;rw[ag]at e;omega
 have U8:=B.slt;refine⟨rfl,j,⟨⟨_,p.own hn3 (Ne.symm m.rn),?_⟩,(B.ext d (fun z g h=>(m.uK z h).1 g)).ext p (fun z g h=>m.rC (h▸g)),⟨_,ah Q,?_⟩,m.nC,m.rC,m.rn,fun b a=>?_,m.Ho,Z⟩,
  (t.mono Z).trans ((d.mono Z).trans (p.mono O)),?_⟩
 ·have:=((s1.ext d (fun z g h=>(m.uK z h).2.2.2 g)).ext p Z);simp_all
 ·have:=s3.ext p (fun b a h=>by
   rcases A b a with e|e
   ·exact(m.uK b e).2.2.1 h
   ·omega)
  grind
 ·rcases A b a with e|e
  ·exact m.uK b e
  grind
 grind
theorem Fk(m:gI H n c C rv r fp fa st w l at_)(M:0<l.length):aF 377 [ptr r] H fun v J=>ak (
  (∃x,v= .iface 3 (i64 x))/\gI J n c C rv r fp fa st w l.dropLast at_/\aj (fun z=>z=r) H J):=by
 obtain⟨W,A,P⟩:=m.own;obtain⟨sv,e,p⟩:=m.jd;have X:=m.ll;obtain⟨x,F⟩:∃x,l[l.length - 1]? =some x:=⟨_,ajL O⟩;obtain⟨f,cc,Q,rfl,rfl,y,L,_,E⟩:=Sl.at_ p (i:=l.length - 1) (x:=i64 x) (by simp[F]);have d:IntKind.i64.wrap ((l.length:Int) - 1)=((l.length - 1:Nat):Int):=by rw[wrap64 O O];omega
 obtain⟨_,l2,I,t,g,U,o,u⟩:=id p;injection t with _ _ t;subst t;rw[y]at g;injection g with g;subst g;refine aT Bm ?_;simp(disch:=(first|exact aV|fail)) only[go_sem, ↓reduceIte,Zv,ae e,d,Int.toNat_natCast];refine⟨O,?_⟩;simp(disch:=(first|exact aV|fail)) only[go_sem, ↓reduceIte,Zv,ae y,ae e,ajM,L,d];refine⟨O,?_⟩;have K:Value.slice (if(cc:Int)=((0:Nat):Int)then some (⟨f,0,none⟩:Addr)else Option.map (fun(x:Addr)=>x.add (((0:Nat):Int).toNat*1)) (some (⟨f,0,none⟩:Addr))) (((l.length - 1:Nat):Int).toNat - ((0:Nat):Int).toNat) ((cc:Int).toNat - ((0:Nat):Int).toNat)= .slice (some ⟨f,0,none⟩) (l.length - 1) cc:=by
  split<;>rfl
 refine v2 (ae e) e ?_;rw[K];have a:aj (fun z=>z=r) H (H.wr r [ptr n,.slice (some ⟨f,0,none⟩) (l.length - 1) cc]):=(aj.refl (fun z=>z=r) _).wr (fun _=>rfl) _;obtain⟨V,G,B,D⟩:=m.uK f rfl;refine⟨⟨_,rfl⟩,⟨⟨_,a.own A (Ne.symm m.rn),P.ext a (fun z j h=>(m.Ho z j).2.2 h)⟩,m.cells.ext a (fun z j h=>m.rC (h▸j)),⟨_,ah e,?_⟩,m.nC,m.rC,m.rn,m.uK,m.Ho,Z⟩,a⟩;refine⟨by simp,Q,cc,Z,a.own y B,Z,o,?_⟩;have N:((l.map i64).length)=l.length:=by simp
 rw[akt,List.map_dropLast,akN,N,<-u,alb];grind
theorem sV(m:gI H n c C rv r fp fa st w l at_)(L:jc l at_)(N:l.length<65536){x:Int}(V:0<=x/\x.toNat<at_.length)(tJ:x∉l)(Ti:cz w.cs x)(X:∀z∈l,cz w.cs z)(F:eo (aU w) 2 l):
  aF 367 [pv r,.iface 3 (i64 x)] H fun v J=>ak (v= .tuple [].toArray/\∃ (t:Option Nat) (l' at':List Int) (q:Nat),gI J n c C rv r t fa (min (st+q) 4611686018427387904) w l' at'/\jc l' at'/\eo (aU w) 2 l'/\(∀z,z∈l'↔z=x\/z∈l)/\l'.length=l.length+1/\
   at'.length=at_.length/\(∀z:Int,0<=z->z≠x->z∉l->at'[z.toNat]? =at_[z.toNat]?)/\q<=ix 2 l.length/\(0<l.length->0<q)/\aj (fun z=>C z\/fp=some z\/fa=some z\/z=r) H J/\(t=fp\/∃z,t=some z/\H.size<=z)):=by
 refine aT q9 ?_;refine vs ?_;refine fN.mono (K:=fun v J=>v= .tuple [].toArray/\∃t,gI J n c C rv r t fa st w (l++[x]) (at_.set x.toNat l.length)/\aj (fun z=>fp=some z\/fa=some z\/z=r) H J/\(t=fp\/∃z,t=some z/\H.size<=z)) ⟨_,_,378,ptr r,rfl,ba Y,DJ m N V⟩ ?_;rintro _ H1 ⟨rfl,t,B,P,o⟩;refine vs ?_;refine fN.mono (K:=fun v J=>v=i64 (l++[x]).length/\H1=J) ⟨_,_,368,ptr r,rfl,ba Y,gJ B⟩ ?_;rintro _ _ ⟨rfl,rfl⟩;refine vs ?_;have U:(l++[x]).length=l.length+1:=by simp
 rw[show IntKind.i64.wrap (((l++[x]).length:Int) - 1)=((l.length:Nat):Int) by rw[U,wrap64 O O];omega];have A:jc (l++[x]) (at_.set x.toNat l.length):=fun i z e=>by
  rcases Nat.lt_trichotomy i l.length with h|h|h
  ·rw[List.getElem?_append_left h]at e;obtain⟨a,b⟩:=L i z e;grind
  ·grind
  grind
 have I:(l++[x]).take (l++[x]).length=l++[x]:=aj8;have f:∀k,k<l.length->(l++[x]).getD k 0=l.getD k 0:=Z;have Y6:∀k:Nat,1<=k->k<l.length+1->pa 2 k≠l.length:=by grind [pa]
 refine(pY B A (j:=l.length) (mm:=(l++[x]).length) O (ajU _) (fun z e=>?_) (by
  rw[I];refine⟨fun k d p D M=>?_,Z⟩;have:=di eX d;rw[f k O,f _ O];exact F k d O) Z).mono ?_
 ·grind
 rintro _ G ⟨rfl,l',at',q,g,u,W,hq0⟩;have Q:=g.len;rw[<-Q,aj8]at u;refine vs ?_;refine⟨rfl,t,l',at',q,g.jd,g.ok,u,fun z=>?_,O,by rw[g.Hq,ajN],fun z e d p=>?_,W,O,(P.mono Z).lN g.ext (fun z Y7 e=>?_),o⟩
 ·rw[g.mem z,aj4,aj6];exact Or.comm
 ·rw[g.off z e (fun h=>by rcases aj4.1 h with h|h;exact p h;exact d (aj6.1 h)),ajT O]
 ·rcases e with e|e|e
  ·exact .inl e
  ·rcases o with h| ⟨y,h,E⟩
   ·exact .inr (.inl (h▸e))
   ·rw[h]at e;injection e with e;omega
  ·exact .inr (.inr (.inl e))
theorem Fl(m:gI H n c C rv r fp fa st w l at_)(B:jc l at_){i:Nat}(hi:i<l.length)(g:∀z∈l,cz w.cs z)(N:dV (aU w) 2 l i):
  aF 365 [pv r,i64 i] H fun v J=>ak (v= .tuple [].toArray/\∃ (l' at':List Int) (q:Nat),ml n c C rv r fp fa st w l at_ l.length H J l' at' q/\eo (aU w) 2 l'/\q<=2*ix 2 ((l.length:Int) - 1)):=by
 have Q:=m.ll;have I:l.take l.length=l:=aj8;refine aT sA ?_;refine vs ?_;refine fN.mono (K:=fun v J=>v=i64 l.length/\H=J) ⟨_,_,368,ptr r,rfl,ba Y,gJ m⟩ ?_;rintro _ _ ⟨rfl,rfl⟩;refine vs ?_;refine(sU m B hi (ajU _) g Z).mono ?_;rintro _ H1 ⟨b,l1,Fj,y,rfl,a,U,u,f⟩;have P:=a.len;cases b with
 |true=>
  have h:=u rfl;rw[<-P,aj8]at h;refine vs ?_;exact⟨rfl,l1,Fj,y,a,h,O⟩
 |false=>
  obtain⟨d,p,o⟩:=f rfl;subst d p;refine vs ?_;have hm:=O;refine(pY a.jd a.ok (j:=i) (mm:=l1.length) hi (ajU _) g Z o).mono ?_;rintro _ F ⟨rfl,l2,t,A,x,e,W,_⟩;have L:=x.len;rw[<-L,aj8]at e;refine vs ?_;refine⟨rfl,l2,t,y+A,⟨?_,x.ok,x.mem,x.len,x.drop,x.Hq,x.off,a.ext.trans x.ext⟩,e,O⟩;cases x;grind
end
theorem eo.Ah{lt lt':Int->Int->Bool}{l:List Int}(h:eo lt 2 l)(m:∀z∈l,∀y∈l,lt z y=lt' z y):eo lt' 2 l:=by
 intro j x a;have v:=di eX x;have e:∀k,k<l.length->l.getD k 0∈l:=Z;rw[<-m _ (e j a) _ Z];exact h j x a
theorem Hr{l at_:List Int}(h:jc l at_){x:Int}(v:l[l.length - 1]? =some x)(z:Int):z∈l.dropLast↔z∈l/\z≠x:=by
 have g:=(ajK.1 v).1;rw[akN];constructor
 ·intro a;obtain⟨k,m⟩:=aj5 a;grind [jc.zS]
 ·rintro⟨a,y⟩;obtain⟨k,m⟩:=aj5 a;have e:=(ajK.1 m).1;have:k≠l.length - 1:=Z;exact ajV (i:=k) Z
theorem jc.dropLast{l at_:List Int}(h:jc l at_):jc l.dropLast at_:=fun i x z=>by
 rw[akN,akM]at z;split at z
 ·exact h i x z
 grind
section
variable {H : Hp} {n c : Nat} {C : Nat → Prop} {rv : Value} {r : Nat} {fp fa : Option Nat} {st : Int} {w : Nw} {l at_ : List Int}
structure Out(n c:Nat)(C:Nat->Prop)(rv:Value)(r:Nat)(fp fa:Option Nat)(st:Int)(w:Nw)(l at_:List Int)(x:Int)(H J:Hp)(l' at':List Int)(q:Nat):Prop where
 jd:gI J n c C rv r fp fa (min (st+q) 4611686018427387904) w l' at'
 ok:jc l' at'
 heap:eo (aU w) 2 l'
 mem:∀z,z∈l'↔z∈l/\z≠x
 len:l'.length+1=l.length
 Hq:at'.length=at_.length
 off:∀z:Int,0<=z->z∉l->at'[z.toNat]? =at_[z.toNat]?
 ext:aj (fun z=>C z\/fp=some z\/fa=some z\/z=r) H J
theorem LR{H1:Hp}{l1 Fj:List Int}{mm q:Nat}{x:Int}(h:ml n c C rv r fp fa st w l at_ mm H H1 l1 Fj q)(d:0<l.length)(y:l1[l1.length - 1]? =some x)(e:eo (aU w) 2 (l1.take (l.length - 1))):
  fN Tryz.prog (pv r) "Pop" [] H1 fun v J=>∃l' at',Out n c C rv r fp fa st w l at_ x H J l' at' q:=by
 have g:=h.len;refine⟨_,_,377,ptr r,rfl,ba Y,(Fk h.jd O).mono ?_⟩;rintro v j ⟨_,t,m⟩;refine⟨l1.dropLast,Fj,t,h.ok.dropLast,?_,fun z=>by rw[Hr h.ok y z,h.mem z],by rw[akt];omega,h.Hq,h.off,(h.ext.mono fun z _ a=>?_).trans (m.mono fun z _ a=>.inr (.inr (.inr a)))⟩
 ·rw[akN,g];exact e
 ·rcases a with a|a|a
  ·exact .inl a
  ·exact .inr (.inl a)
  ·exact .inr (.inr (.inl a))
theorem Ai(m:gI H n c C rv r fp fa st w l at_)(hat:jc l at_){i:Nat}(hi:i<l.length)(mA:∀z∈l,cz w.cs z)(I:eo (aU w) 2 l):
  aF 366 [pv r,i64 i] H fun v J=>ak (∃ (l' at':List Int) (q:Nat),Out n c C rv r fp fa st w l at_ (l.getD i 0) H J l' at' q/\q<=2*ix 2 ((l.length:Int) - 1)):=by
 have ze:=m.ll;refine aT og ?_;refine vs ?_;refine fN.mono (K:=fun v J=>v=i64 l.length/\H=J) ⟨_,_,368,ptr r,rfl,ba Y,gJ m⟩ ?_;rintro _ _ ⟨rfl,rfl⟩;refine vs ?_;rw[show IntKind.i64.wrap ((l.length:Int) - 1)=((l.length - 1:Nat):Int) by rw[wrap64 O O];omega];have N:=ml.refl m hat l.length;have W:l[i]? =some (l.getD i 0):=by rw[ajR,ajL hi];rfl
 refine ai.dec (fun he=>?_) (fun he=>?_)
 ·refine vs ?_;have MI:i=l.length - 1:=O;refine fN.mono (LR N O (x:=l.getD i 0) (by rw[<-MI];exact W) (fun j h a=>by
   rw[akf]at a;have:=di eX h;rw[getD_take O,getD_take O];exact I j h O)) ?_
  rintro v y ⟨l',at',o⟩;refine vs ?_;exact⟨l',at',0,o,O⟩
 ·refine vs ?_;have G:i<l.length - 1:=O;refine fN.mono (N.swap (ajU _) (i:=i) (j:=l.length - 1) hi O O) ?_;rintro _ H1 ⟨rfl,h⟩;refine vs ?_;have B:=DG (l:=l) (i:=i) (j:=l.length - 1) hi O;have D:=h.len;have Q:dV (aU w) 2 ((swp l i (l.length - 1)).take (l.length - 1)) i:=by
   have U:=I.but (au w) eX i;refine⟨fun j a L u t=>?_,fun j a L u t=>?_⟩
   ·rw[akf]at L;have:=di eX a;rw[getD_take O,getD_take O,B,B,if_neg O,if_neg u,if_neg O,if_neg t];exact U.1 j a O u t
   ·rw[akf]at L;have:=di eX a;have:=di eX t;rw[getD_take O,getD_take O,B,B,if_neg O,if_neg O,if_neg O,if_neg O];exact U.2 j a O u t
  have V:∀z∈swp l i (l.length - 1),cz w.cs z:=fun z M=>mA z ((h.mem z).1 M);have Ew:(swp l i (l.length - 1))[l.length - 1]? =some (l.getD i 0):=by rw[pW hi O,if_pos rfl];exact W
  have fin:∀ {y:Hp} {l2 p:List Int} {q:Nat},ml n c C rv r fp fa (min (st+((0:Nat):Int)) 4611686018427387904) w (swp l i (l.length - 1)) (yr l at_ i (l.length - 1)) (l.length - 1) H1 y l2 p q->eo (aU w) 2 (l2.take (l.length - 1))->
    fN Tryz.prog (pv r) "Pop" [] y fun v J=>∃l' at',Out n c C rv r fp fa st w l at_ (l.getD i 0) H J l' at' q:=by
   intro y l2 p q g A;have RX:=m.cells.st;have g':ml n c C rv r fp fa st w l at_ l.length H y l2 p q:=by
    refine⟨?_,g.ok,fun z=>by rw[g.mem z,h.mem z],g.len.trans D,?_,g.Hq.trans h.Hq,fun z M hm=>?_,h.ext.trans g.ext⟩
    ·cases g;grind
    ·cases g;grind
    ·cases h;cases g;grind
   refine LR g' O ?_ A;have hd:=g.drop;have a:(l2.drop (l.length - 1))[0]? =((swp l i (l.length - 1)).drop (l.length - 1))[0]? :=by rw[hd]
   rw[aks,aks,Nat.add_zero,Ew]at a;rw[g.len,D];exact a
  have RP:=j1 eX ((l.length:Int) - 1).toNat (((l.length - 1:Nat):Int) - 1) ((l.length:Int) - 1) (ajU _) O;refine(sU h.jd h.ok (i0:=i) (mm:=l.length - 1) G O V Q).mono ?_;rintro _ y ⟨b,l2,p,d,rfl,f,hq1,hT,hF⟩;cases b with
  |true=>
   refine vs ?_;refine fN.mono (fin f (hT rfl)) ?_;rintro v F ⟨l',at',o⟩;refine vs ?_;exact⟨l',at',d,o,O⟩
  |false=>
   obtain⟨X,e2,hB⟩:=hF rfl;subst X e2;have YU:=O;refine vs ?_;refine(pY f.jd f.ok (j:=i) (mm:=l.length - 1) G O V Q hB).mono ?_;rintro _ F ⟨rfl,l3,E,P,e,A,hq2,_⟩;refine vs ?_;have g23:ml n c C rv r fp fa (min (st+((0:Nat):Int)) 4611686018427387904) w (swp l i (l.length - 1)) (yr l at_ i (l.length - 1)) (l.length - 1) H1 F l3 E (d+P):=by
    refine⟨?_,e.ok,e.mem,e.len,e.drop,e.Hq,e.off,f.ext.trans e.ext⟩;have:=e.jd;rw[show min (min (min (st+((0:Nat):Int)) 4611686018427387904+(d:Int)) 4611686018427387904+(P:Int)) 4611686018427387904=min (min (st+((0:Nat):Int)) 4611686018427387904+((d+P:Nat):Int)) 4611686018427387904 by omega]at this;exact this
   refine fN.mono (fin g23 A) ?_;rintro v H4 ⟨l',at',o⟩;refine vs ?_;exact⟨l',at',d+P,o,O⟩
end
structure Pl where
 r:Nat
 fp:Option Nat
 l:List Int
def Pl.S(P:Pl)(x:Nat):Prop:=x=P.r\/P.fp=some x
def Ns:Option Pl->Value
 |none=>.pointer none
 |some P=>ptr P.r
structure im(H:Hp)(n c:Nat)(C:Nat->Prop)(rv:Value)(fr fa:Option Nat)(st:Int)(w:Nw)(ps:List (Option Pl))(at_:List Int):Prop where
 own:∃av,H.own n=some [ptr c,rv,av]/\Sl H 1 av at_.length (at_.map i64) fa
 cells:bk H c C st w
 sl:Sl H 1 rv ps.length (ps.map Ns) fr
 jd:∀ (h:Nat) P,ps[h]? =some (some P)->∃sv,H.own P.r=some [ptr n,sv]/\Sl H 1 sv P.l.length (P.l.map i64) P.fp
 nC:¬C n
 OM:∀b,fr=some b->¬C b/\b≠n/\fa≠some b
 Ho:∀b,fa=some b->¬C b/\b≠n
 pd:∀ (h:Nat) P,ps[h]? =some (some P)->∀x,P.S x->¬C x/\x≠n/\fr≠some x/\fa≠some x
 pr:∀ (h:Nat) P,ps[h]? =some (some P)->P.fp≠some P.r/\P.l.length<=65536
 pp:∀ (h h':Nat) P P',ps[h]? =some (some P)->ps[h']? =some (some P')->h≠h'->∀x,P.S x->¬P'.S x
def yu(n:Nat)(C:Nat->Prop)(fr fa:Option Nat)(ps:List (Option Pl))(z:Nat):Prop:=C z\/z=n\/fr=some z\/fa=some z\/∃ (h:Nat) (P:Pl),ps[h]? =some (some P)/\P.S z
structure vu(w:Nw)(ps:List (Option Pl))(at_:List Int):Prop where
 hl:ps.length=w.hs.length
 hs:∀h:Nat,w.hs[h]? =some true↔∃P,ps[h]? =some (some P)
 h0:ps[0]? =some none
 ok:∀ (h:Nat) P,ps[h]? =some (some P)->eo (aU w) 2 P.l
 Nt:∀ (h:Nat) P,ps[h]? =some (some P)->jc P.l at_
 mem:∀ (h:Nat) P,ps[h]? =some (some P)->∀x:Int,x∈P.l↔0<=x/\∃e,w.cs[x.toNat]? =some (((h:Nat):Int),e)
 len:∀ (h:Nat) P,ps[h]? =some (some P)->(P.l.length:Int)=w.len h
 Hq:at_.length=w.cs.length
def dK(H:Hp)(n:Nat)(S:Nat->Prop)(st:Int)(w:Nw):Prop:=∃c C rv fr fa ps at_,im H n c C rv fr fa st w ps at_/\vu w ps at_/\(∀z,yu n C fr fa ps z↔S z)
section
variable {H J : Hp} {n c : Nat} {C T : Nat → Prop} {rv : Value} {fr fa : Option Nat} {st Y8 : Int} {w w' : Nw} {ps : List (Option Pl)} {at_ at' : List Int} {S : Nat → Prop}
theorem im.slt(h:im H n c C rv fr fa st w ps at_):∀z,yu n C fr fa ps z->z<H.size:=by
 obtain⟨y,g,e⟩:=h.own;rintro z (x|rfl|x|x| ⟨i,P,v,x⟩)
 ·exact h.cells.slt z x
 ·exact aC g
 ·exact Sl.lt (x▸h.sl)
 ·exact Sl.lt (x▸e)
 ·obtain⟨t,a,m⟩:=h.jd i P v;rcases x with rfl|x
  ·exact aC a
  ·exact Sl.lt (x▸m)
theorem im.ext(h:im H n c C rv fr fa st w ps at_)(e:aj T H J)(a:∀z,yu n C fr fa ps z->¬T z):im J n c C rv fr fa st w ps at_:=by
 obtain⟨g,d,j⟩:=h.own;refine⟨⟨g,e.own d (a n (.inr (.inl rfl))),j.ext e (fun b m=>a b (.inr Z))⟩,h.cells.ext e (fun x p=>a x (.inl p)),h.sl.ext e (fun b m=>a b (.inr (.inr (.inl m)))),fun i P v=>?_,h.nC,h.OM,h.Ho,h.pd,h.pr,h.pp⟩;obtain⟨o,y,t⟩:=h.jd i P v;exact⟨o,e.own y (a _ (.inr (.inr (.inr (.inr ⟨i,P,v,.inl rfl⟩))))),t.ext e (fun b m=>a b (.inr (.inr (.inr (.inr ⟨i,P,v,.inr m⟩)))))⟩
theorem im.aD(h:im H n c C rv fr fa st w ps at_)(m:bk J c C Y8 w')(e:aj C H J):im J n c C rv fr fa Y8 w' ps at_:=by
 obtain⟨a,t,y⟩:=h.own;refine⟨⟨a,e.own t h.nC,y.ext e (fun b x=>(h.Ho b x).1)⟩,m,h.sl.ext e (fun b x=>(h.OM b x).1),fun i P z=>?_,h.nC,h.OM,h.Ho,h.pd,h.pr,h.pp⟩;obtain⟨j,v,g⟩:=h.jd i P z;exact⟨j,e.own v (h.pd i P z _ (.inl rfl)).1,g.ext e (fun b x=>(h.pd i P z b (.inr x)).1)⟩
theorem dK.slt(h:dK H n S st w):∀z,S z->z<H.size:=by
 obtain⟨c,C,rv,fr,fa,ps,at_,m,l,x⟩:=h;exact fun z a=>m.slt z ((x z).2 a)
theorem dK.ext(h:dK H n S st w)(e:aj T H J)(a:∀z,S z->¬T z):dK J n S st w:=by
 obtain⟨c,C,rv,fr,fa,ps,at_,m,l,x⟩:=h;exact⟨c,C,rv,fr,fa,ps,at_,m.ext e Z,l,x⟩
theorem dK.fresh(h:dK H n S st w)(e:af H J):dK J n S st w:=h.ext e fun _ _ h=>h
theorem im.Aj(m:im H n c C rv fr fa st w ps at_){g:Nat}{P:Pl}(a:ps[g]? =some (some P)):gI H n c C rv P.r P.fp fa st w P.l at_:=by
 have z:=m.pd g P a;refine⟨m.own,m.cells,m.jd g P a,m.nC,(z P.r (.inl rfl)).1,(z P.r (.inl rfl)).2.1,fun b x=>⟨(z b (.inr x)).1,(z b (.inr x)).2.1,fun h=>(m.pr g P a).1 Z,(z b (.inr x)).2.2.2⟩,fun b x=>⟨(m.Ho b x).1,(m.Ho b x).2,fun h=>(z P.r (.inl rfl)).2.2.2 Z⟩,(m.pr g P a).2⟩
theorem im.Ch(m:im H n c C rv fr fa st w ps at_){g:Nat}{P P':Pl}(f:ps[g]? =some (some P))(V:P'.r=P.r)(pm:gI J n c C rv P'.r P'.fp fa Y8 w' P'.l at')(M:P'.fp=P.fp\/∃z,P'.fp=some z/\H.size<=z)
  (e:aj T H J)(D:∀z,T z->C z\/P.S z\/fa=some z):im J n c C rv fr fa Y8 w' (ps.set g (some P')) at':=by
 have p:=m.slt;have hg:=(ajK.1 f).1;have F:∀x,P'.S x->P.S x\/H.size<=x:=fun x a=>by
  rcases a with rfl|a
  ·exact .inl (.inl V)
  ·rcases M with h| ⟨z,h,j⟩
   ·exact .inl (.inr (h▸a))
   grind
 have d:∀ (h:Nat) Q,(ps.set g (some P'))[h]? =some (some Q)->(h=g/\Q=P')\/(h≠g/\ps[h]? =some (some Q)):=Z;have hd:=m.pd g P f;refine⟨pm.own,pm.cells,?_,fun h Q y=>?_,m.nC,m.OM,m.Ho,fun h Q y x a=>?_,fun h Q y=>?_,fun h B Q u y W N x a U=>?_⟩
 ·have o:(ps.set g (some P')).map Ns=ps.map Ns:=by
   rw[akd];refine akb fun i=>?_;by_cases hi:i=g
   ·subst hi;rw[ajY Z,aj9,f];simp[Ns,V]
   ·grind
  rw[o,ajN];exact m.sl.ext e (fun b L G=>by
   rcases D b G with h|h|h
   ·exact(m.OM b L).1 h
   ·grind
   ·exact(m.OM b L).2.2 h)
 ·rcases d h Q y with ⟨rfl,rfl⟩| ⟨o,v⟩
  ·exact pm.jd
  ·obtain⟨sv,E,X⟩:=m.jd h Q v;have I:∀x,Q.S x->¬T x:=fun x a G=>by
    cases m;grind
   exact⟨sv,e.own E (I _ (.inl rfl)),X.ext e (fun b L=>I b (.inr L))⟩
 ·rcases d h Q y with ⟨rfl,rfl⟩| ⟨o,v⟩
  ·rcases F x a with A|A
   ·grind
   ·refine⟨fun t=>?_,fun t=>?_,fun t=>?_,fun t=>?_⟩
    ·have:=p x (.inl t);omega
    ·have:=p n (.inr (.inl rfl));omega
    ·have:=p x (.inr (.inr (.inl t)));omega
    ·have:=p x (.inr Z);omega
  ·exact m.pd h Q v x a
 ·rcases d h Q y with ⟨rfl,rfl⟩| ⟨o,v⟩
  ·refine⟨fun t=>?_,pm.ll⟩;exact(pm.uK _ t).2.2.1 rfl
  ·exact m.pr h Q v
 ·rcases d h Q y with ⟨rfl,rfl⟩| ⟨o,v⟩
  ·rcases d B u W with ⟨rfl,rfl⟩| ⟨A,K⟩
   ·omega
   ·rcases F x a with j|j
    ·exact m.pp _ B P u f K N x j U
    ·have:=p x (.inr Z);omega
  ·rcases d B u W with ⟨rfl,rfl⟩| ⟨A,K⟩
   ·rcases F x U with j|j
    ·exact m.pp h _ Q P v f N x a j
    ·have:=p x (.inr Z);omega
   ·exact m.pp h B Q u v K N x a U
theorem im.Vd(m:im H n c C rv fr fa st w ps at_){i:Nat}{o:Option Pl}(h:ps[i]? =some o):∃f a z,rv= .slice (some ⟨f,0,none⟩) ps.length a/\fr=some f/\H.own f=some z/\z[i]? =some (Ns o)/\i<ps.length:=by
 obtain⟨b,a,z,v,e,g,y,t,_⟩:=Sl.at_ m.sl (i:=i) (x:=Ns o) (by simp[h]);grind
theorem vu.ei(l:vu w ps at_){g:Int}(h:w.has g):∃P,ps[g.toNat]? =some (some P):=(l.hs g.toNat).1 h.2
end
theorem Fm(cap:Int)(H:Hp):aF 87 [i64 cap] H fun v J=>ak (
  af H J/\((¬ (0<=cap/\cap<=65536)/\v= .tuple [.pointer none,i64 31].toArray)\/
   ((0<=cap/\cap<=65536)/\∃n S,v= .tuple [ptr n,i64 0].toArray/\dK J n S 0 ⟨[false],List.replicate cap.toNat (0,0,0)⟩/\∀x,S x->H.size<=x))):=by
 refine aT Ko ?_;refine vs ?_;refine(kw cap H).mono ?_;rintro _ H1 ⟨e,⟨a,rfl⟩| ⟨a,c,C,rfl,g,p⟩⟩
 ·refine vs ?_;exact⟨e,.inl ⟨a,rfl⟩⟩
 refine v1 ajZ ?_;refine⟨O,?_⟩;refine vs ?_;have d:∀k:Nat,dw [Value.int .i64 0] k=(List.replicate k (0:Int)).map i64:=fun k=>by
  induction k with
  |zero=>rfl
  |succ k B=>simp only[dw,akv,ak2,akJ]at*;grind
 rw[d];have f:=g.slt;have L:=e.size;have t:af H1 (((H1.new 399 [.pointer none]).new 3 ((List.replicate cap.toNat (0:Int)).map i64)).new 241 [ptr c,.slice (some ⟨H1.size,0,none⟩) 1 1,.slice (some ⟨H1.size+1,0,none⟩) cap.toNat cap.toNat]):=(bD.new _ _).new _ _;have y:aj (fun _=>False) ((H1.new 399 [.pointer none]).new 3 ((List.replicate cap.toNat (0:Int)).map i64)) (((H1.new 399 [.pointer none]).new 3 ((List.replicate cap.toNat (0:Int)).map i64)).new 241 [ptr c,.slice (some ⟨H1.size,0,none⟩) 1 1,.slice (some ⟨H1.size+1,0,none⟩) cap.toNat cap.toNat]):=bD;have j:aj (fun _=>False) (H1.new 399 [.pointer none]) ((H1.new 399 [.pointer none]).new 3 ((List.replicate cap.toNat (0:Int)).map i64)):=bD;have u:∀ (h:Nat) (P:Pl),([none]:List (Option Pl))[h]? ≠some (some P):=Z;refine⟨e.trans t,.inr ⟨a,H1.size+1+1,yu (H1.size+1+1) C (some H1.size) (some (H1.size+1)) [none],rfl,⟨c,C,_,some H1.size,some (H1.size+1),[none],List.replicate cap.toNat 0,
  ⟨⟨_,az (by simp only[ag]),?_⟩,g.fresh t,?_,Z,Z,fun b a=>?_,fun b a=>?_,Z,Z,Z⟩,
  ⟨rfl,fun h=>?_,rfl,Z,Z,Z,Z,by simp⟩,fun z=>Iff.rfl⟩,fun x m=>?_⟩⟩
 ·rw[akl];exact(Sl.bJ (size:=1) (n:=cap.toNat) (xs:=(List.replicate cap.toNat (0:Int)).map i64) (by simp) (by simp only[ag])).ext y (fun _ _ h=>h)
 ·exact((Sl.bJ (size:=1) (n:=1) (xs:=[.pointer none]) rfl rfl).ext j (fun _ _ h=>h)).ext y (fun _ _ h=>h)
 ·grind
 ·grind
 ·grind
 ·rcases m with m|rfl|m|m| ⟨i,P,o,m⟩
  ·grind
  ·omega
  ·grind
  ·grind
  grind
theorem DK{H:Hp}{n:Nat}{S:Nat->Prop}{st:Int}{w:Nw}(h:dK H n S st w):aF 362 [ptr n] H fun v J=>ak (
  (w.hs.length=65537/\v=i64 0/\H=J)\/
  (w.hs.length≠65537/\v=i64 w.hs.length/\∃V,dK J n V st w.make/\aj S H J/\∀x,V x->S x\/H.size<=x)):=by
 obtain⟨c,C,rv,fr,fa,ps,at_,m,l,d⟩:=h;obtain⟨G,Q,ha⟩:=m.own;refine aT zD ?_;refine v1 (ae Q) ?_;refine(jx m.cells).mono ?_;rintro _ H1 (⟨N,rfl,rfl⟩| ⟨N,rfl,I,D,o,Y9⟩)
 ·refine vs ?_;exact .inl ⟨N,rfl,rfl⟩
 have pV:0<ps.length:=(ajK.1 l.h0).1;have ze:=l.hl;have o1:=o.own Q m.nC;refine vs ?_;refine ai.bY Z ?_;refine v1 (ae o1) ?_;have JP:=m.cells.JP;have U:=m.slt;have aaO:=D.slt;have z1:=o.size;have f:aj (fun _=>False) H1 (H1.new 403 [ptr n,.slice none 0 0]):=bD;have hq2:(H1.new 403 [ptr n,.slice none 0 0]).own H1.size=some [ptr n,.slice none 0 0]:=am _ _ _;have z2:(H1.new 403 [ptr n,.slice none 0 0]).size=H1.size+1:=by simp only[ag]
 generalize (H1.new 403 [ptr n,.slice none 0 0])=K at*;have M:aj (fun _=>False) K (K.new 399 [ptr H1.size]):=bD;have Za:=(m.sl.ext o (fun b a h=>(m.OM b a).1 h)).ext f (fun _ _ h=>h);have o2:=f.own o1 (fun h=>h);refine Sl.append (Za.ext M (fun _ _ h=>h)) (Sl.bJ (size:=1) (n:=1) (xs:=[ptr H1.size]) rfl z2.symm).rd rfl (by intro v E;simp only[aj6]at E;subst E;rfl) O ?_;intro W H3 F s3 e3 hfr;have p:aj (fun z=>fr=some z) K H3:=(M.mono fun _ _ h=>h.elim).lN e3 (fun z _ h=>h);have o3:=p.own o2 (fun h=>(m.OM n h).2.1 rfl);obtain⟨a',JR,X⟩:=bX.Dh s3.rd;subst X;refine v1 o3 ?_;generalize X:Value.slice a' (ps.length+1) JR=W at*;have u:aj (fun z=>z=n) H3 (H3.wr n [ptr c,W,G]):=(aj.refl (fun z=>z=n) _).wr (fun _=>rfl) _;have hn:=aC Q;have afm:∀b,fr=some b->b<H.size:=fun b a=>U b (.inr (.inr (.inl a)));have afn:∀b,fa=some b->b<H.size:=fun b a=>U b (.inr Z);have aaP:∀b,F=some b->fr=some b\/K.size<=b:=fun b a=>by
  grind [ag]
 have B:∀ (h:Nat) P,(ps++[some (⟨H1.size,none,[]⟩:Pl)])[h]? =some (some P)->ps[h]? =some (some P)\/(h=ps.length/\P=⟨H1.size,none,[]⟩):=Z;have hold:∀ (h:Nat) P,ps[h]? =some (some P)->∀x,P.S x->x<H.size:=fun h P y x g=>U x (.inr Z);have afo:∀x,(⟨H1.size,none,[]⟩:Pl).S x->x=H1.size:=fun x g=>by rcases g with h|h;exact h;cases h
 have WV:∀ (x:Nat) (e:Int×Int),w.cs[x]? ≠some (((ps.length:Nat):Int),e):=fun x e g=>by
  have:=(m.cells.home _ (ajV g)).2;omega
 refine .inr ⟨N,rfl,yu n I F fa (ps++[some ⟨H1.size,none,[]⟩]),⟨c,I,W,F,fa,ps++[some ⟨H1.size,none,[]⟩],at_,
  ⟨⟨G,ah o3,?_⟩,?_,?_,fun h P y=>?_,fun h=>?_,fun b a=>⟨fun h=>?_,?_,fun h=>?_⟩,fun b a=>⟨fun h=>?_,(m.Ho b a).2⟩,fun h P y x g=>⟨fun h=>?_,?_,fun h=>?_,fun h=>?_⟩,fun h P y=>?_,fun h h' P P' y hP' nj x g Ta=>?_⟩,
  ⟨?_,fun h=>?_,?_,fun h P y=>?_,fun h P y=>?_,fun h P y x=>?_,fun h P y=>?_,l.Hq⟩,fun z=>Iff.rfl⟩,?_,fun x g=>?_⟩
 ·exact(((ha.ext o (fun b a h=>(m.Ho b a).1 h)).ext f (fun _ _ h=>h)).ext p (fun b a h=>(m.OM b h).2.2 a)).ext u (fun b a h=>(m.Ho b a).2 h)
 ·exact((D.ext f (fun _ _ h=>h)).ext p (fun x g e=>by
   cases m;grind)).ext u (fun x g e=>by
   cases m;grind)
 ·have:=s3.ext u (fun b a e=>by
   cases m;grind)
  rw[ajW,akn];exact this
 ·rcases B h P y with t| ⟨rfl,rfl⟩
  ·obtain⟨sv,q1,q2⟩:=m.jd h P t;have L:=m.pd h P t;exact⟨sv,u.own (p.own (f.own (o.own q1 (L _ (.inl rfl)).1) (fun h=>h)) (L _ (.inl rfl)).2.2.1) Z,
    (((q2.ext o (fun b a=>(L b (.inr a)).1)).ext f (fun _ _ h=>h)).ext p (fun b a=>(L b (.inr a)).2.2.1)).ext u (fun b a=>(L b (.inr a)).2.1)⟩
  ·exact⟨_,u.own (p.own hq2 Z) Z,Sl.nil _ _⟩
 ·cases m;grind
 ·cases m;grind
 ·cases m;grind
 ·cases m;grind
 ·cases m;grind
 ·cases m;grind
 ·cases m;grind
 ·cases m;grind
 ·cases m;grind
 ·cases m;grind
 ·cases m;grind
 ·simp[Nw.make,ze]
 ·show(w.hs++[true])[h]? =some true↔_;cases l;grind
 ·cases l;grind
 ·rcases B h P y with t| ⟨rfl,rfl⟩
  ·exact l.ok h P t
  ·exact fun j _ hj=>Z
 ·rcases B h P y with t| ⟨rfl,rfl⟩
  ·exact l.Nt h P t
  ·exact fun i x g=>Z
 ·rcases B h P y with t| ⟨rfl,rfl⟩
  ·exact l.mem h P t x
  ·simp only[List.not_mem_nil,false_iff];rintro⟨_,e,he⟩;exact WV _ _ he
 ·rcases B h P y with t| ⟨rfl,rfl⟩
  ·exact l.len h P t
  ·show((0:Nat):Int)=w.len _;unfold Nw.len;rw[if_pos O,alg.2 (fun x g=>by
    have:=(m.cells.home x g).2;grind)]
 ·exact((o.mono fun z _ A=>(d z).1 (.inl A)).trans ((f.mono fun _ _ h=>h.elim).trans (p.mono fun z _ A=>(d z).1 (.inr (.inr (.inl A)))))).trans (u.mono fun z _ A=>(d z).1 (.inr (.inl A)))
 ·rcases g with g|rfl|g|g| ⟨i,P,y,g⟩
  ·rcases Y9 x g with h|h
   ·exact .inl ((d x).1 (.inl h))
   omega
  ·exact .inl ((d x).1 (.inr (.inl rfl)))
  ·rcases aaP x g with h|h
   ·exact .inl ((d x).1 (.inr (.inr (.inl h))))
   omega
  ·exact .inl ((d x).1 (.inr Z))
  ·rcases B i P y with t| ⟨_,rfl⟩
   ·exact .inl ((d x).1 (.inr Z))
   grind
section
variable{l at_:List Int}{H:Hp}{n h a b:Nat}{st d x i:Int}
theorem jc.QK{at':List Int}(h:jc l at_)(v:∀z∈l,0<=z->at'[z.toNat]? =at_[z.toNat]?):jc l at':=fun i x m=>by
 obtain⟨a,b⟩:=h i x m;grind
theorem hH{ps:List (Option Pl)}{g:Nat}{P':Pl}(z:g<ps.length){Q:Pl}(x:(ps.set g (some P'))[h]? =some (some Q)):(h=g/\Q=P')\/(h≠g/\ps[h]? =some (some Q)):=by
 grind
theorem vu.apart{w:Nw}{ps:List (Option Pl)}(l:vu w ps at_){x:Nat}{P Q:Pl}(a:ps[h]? =some (some P))(m:ps[x]? =some (some Q))(d:h≠x){z:Int}(v:z∈P.l):z∉Q.l:=fun e=>by
 obtain⟨_,g,t⟩:=(l.mem h P a z).1 v;obtain⟨_,y,j⟩:=(l.mem x Q m z).1 e;grind
theorem vu.pos{w:Nw}{ps:List (Option Pl)}(l:vu w ps at_){P:Pl}(x:ps[h]? =some (some P)):0<h:=by
 cases l;grind
theorem Ak{S:Nat->Prop}{w:Nw}(h:dK H n S st w)(g x k s:Int):aF 361 [ptr n,i64 g,i64 x,mE k s] H fun v J=>ak (
  (¬ (w.has g/\(0<=x/\x<w.cs.length)/\¬cz w.cs x)/\v= .bool false/\dK J n S st w/\aj S H J)\/
  ((w.has g/\(0<=x/\x<w.cs.length)/\¬cz w.cs x)/\v= .bool true/\∃ (V:Nat->Prop) (q:Nat),(q:Int)<=ix 2 (w.len g)/\(0<w.len g->0<q)/\dK J n V (min (st+q) 4611686018427387904) (w.put x (g,k,s))/\aj S H J/\∀z,V z->S z\/H.size<=z)):=by
 obtain⟨c,C,rv,fr,fa,ps,at_,m,l,p⟩:=h;refine aT wL ?_;refine vs ?_;have B:af H (H.new 190 [i64 k,u64 s]):=bD;have b0:(H.new 190 [i64 k,u64 s]).own H.size=some [i64 k,u64 s]:=am _ _ _;have K:=m.ext B (fun _ _ h=>h);generalize H.new 190 [i64 k,u64 s]=H0 at*;obtain⟨av,Hk,RN⟩:=K.own;refine v2 (ae Hk) (ae b0) ?_;refine(kA K.cells g x k s).mono ?_;rintro _ H1 (⟨mT,rfl,U,d⟩| ⟨Hs,rfl,U,d⟩)
 ·refine vs ?_;exact .inl ⟨mT,rfl,⟨c,C,rv,fr,fa,ps,at_,K.aD U d,l,p⟩,(B.mono fun _ _ h=>h.elim).trans (d.mono fun z _ a=>(p z).1 (.inl a))⟩
 obtain⟨X,⟨I,Ew⟩,mA⟩:=id Hs;obtain⟨P,j⟩:=l.ei X;have h1:=X.1;have ON:((g.toNat:Nat):Int)=g:=O;have pQ:=l.mem _ P j;have ec:=l.len _ P j;rw[ON]at pQ ec;obtain⟨c0,E⟩:∃c0,w.cs[x.toNat]? =some c0:=Z;have EA:¬0<c0.1:=fun h=>mA ⟨I,c0,E,h⟩;have ke:(w.put x (g,k,s)).cs[x.toNat]? =some (g,k,s):=ajY O;have yv:∀y:Nat,y≠x.toNat->(w.put x (g,k,s)).cs[y]? =w.cs[y]? :=fun y A=>ajT (Ne.symm A);have Tj:∀ (i:Nat) Q,ps[i]? =some (some Q)->x∉Q.l:=fun i Q t hm=>by
  cases l;grind
 have W:∀ (i:Nat) Q,ps[i]? =some (some Q)->∀y∈Q.l,0<=y/\y.toNat≠x.toNat:=fun i Q t y A=>by
  cases l;grind
 have WW:∀ (i:Nat) Q,ps[i]? =some (some Q)->eo (aU (w.put x (g,k,s))) 2 Q.l:=fun i Q t=>
  (l.ok i Q t).Ah fun z a y A=>(gS w x _ (W i Q t z a).2 (W i Q t y A).2).symm
 have DL:∀z∈P.l,cz (w.put x (g,k,s)).cs z:=fun z a=>by
  obtain⟨N,e,he⟩:=(pQ z).1 a;exact⟨N,_,by rw[yv _ (W _ P j z a).2];exact he,O⟩
 have Tk:cz (w.put x (g,k,s)).cs x:=⟨I,_,ke,O⟩;have hlp:(w.put x (g,k,s)).len g=w.len g+1:=by rw[Nw.gm E g,if_neg O,if_pos ⟨O,rfl⟩];omega
 have MU:=m.cells.zf;have ze:P.l.length<65536:=by
  have:=((w.put x (g,k,s)).kt g).2;have o:(w.put x (g,k,s)).cs.length=w.cs.length:=ajN ..
  omega
 have F:=K.aD U d;obtain⟨av1,ho1,_⟩:=F.own;obtain⟨f,cc,lb,rfl,rfl,hf,Tf,L⟩:=F.Vd j;refine v1 (ae ho1) ?_;refine⟨O,?_⟩;simp(disch:=(first|exact aV|fail)) only[go_sem, ↓reduceIte,Zv,ae hf,ajM,Tf,Ns];refine(sV (F.Aj j) (l.Nt _ P j) ze ⟨I,by rw[l.Hq];omega⟩ (Tj _ P j) Tk DL (WW _ P j)).mono ?_;rintro _ H2 ⟨rfl,D,l',at',q,pm,afp,WX,ac1,ac2,QL,QM,hq,hq0,G,OO⟩;refine vs ?_;have N:=B.size;have z1:=d.size;have M:∀z,(C z\/P.fp=some z\/fa=some z\/z=P.r)->C z\/P.S z\/fa=some z:=fun z a=>by
  rcases a with a|a|a|a
  ·grind
  ·exact .inr (.inl (.inr a))
  ·grind
  ·exact .inr (.inl (.inl a))
 have LS:∀z,(C z\/P.fp=some z\/fa=some z\/z=P.r)->S z:=fun z a=>(p z).1 (by
  rcases M z a with a|a|a
  ·exact .inl a
  ·exact .inr Z
  ·exact .inr Z)
 refine .inr ⟨Hs,rfl,yu n C (some f) fa (ps.set g.toNat (some ⟨P.r,D,l'⟩)),q,Z,O,
  ⟨c,C,_,some f,fa,_,at',F.Ch j (P':=⟨P.r,D,l'⟩) rfl pm OO G M,
   ⟨by rw[ajN];exact l.hl,fun h=>?_,?_,fun h Q t=>?_,fun h Q t=>?_,fun h Q t y=>?_,fun h Q t=>?_,?_⟩,fun z=>Iff.rfl⟩,?_,fun z a=>?_⟩
 ·show w.hs[h]? =some true↔_;cases l;grind
 ·cases l;grind
 ·grind
 ·rcases hH L t with ⟨rfl,rfl⟩| ⟨o,u⟩
  ·omega
  ·exact(l.Nt h Q u).QK fun z a N=>QM z N Z (l.apart u j o a)
 ·rcases hH L t with ⟨rfl,rfl⟩| ⟨o,u⟩
  ·grind
  cases l;grind
 ·rcases hH L t with ⟨rfl,rfl⟩| ⟨o,u⟩
  ·grind
  cases l;grind [Nw.gm]
 ·rw[QL,l.Hq];exact(ajN ..).symm
 ·exact(B.mono fun _ _ h=>h.elim).trans ((d.mono Z).trans (G.mono Z))
 ·rcases a with a|rfl|a|a| ⟨i,Q,t,a⟩
  ·grind
  ·exact .inl ((p z).1 (.inr (.inl rfl)))
  ·exact .inl ((p z).1 (.inr (.inr (.inl a))))
  ·grind
  ·rcases hH L t with ⟨rfl,rfl⟩| ⟨o,u⟩
   ·rcases a with rfl|a
    ·grind
    grind
   ·exact .inl ((p z).1 (.inr Z))
theorem vx{S:Nat->Prop}{w:Nw}(h:dK H n S st w)(g:Int):aF 364 [ptr n,i64 g] H fun v J=>ak (
  ((w.len g=0/\v= .tuple [i64 0,.bool false].toArray)\/∃x,w.first g x/\v= .tuple [i64 x,.bool true].toArray)/\H=J):=by
 obtain⟨c,C,rv,fr,fa,ps,at_,m,l,hS⟩:=h;obtain⟨av,B,ha⟩:=m.own;refine aT Bk ?_;refine v1 (ae B) ?_;refine(gR m.cells g).mono ?_;rintro _ _ ⟨rfl,rfl⟩;refine vs ?_;refine ai.dec (fun t=>?_) (fun t=>?_)
 ·refine vs ?_;exact⟨.inl ⟨t,rfl⟩,rfl⟩
 have d:0<g:=by
  by_cases d:0<g
  ·exact d
  ·grind [Nw.E7]
 have V:w.has g:=by
  refine⟨O,?_⟩;by_cases z:w.hs[g.toNat]? =some true
  ·exact z
  ·refine absurd (Nw.E7.2 (.inr fun i c hc e=>z ?_)) t;have:=m.cells.live c Z O;grind
 obtain⟨P,a⟩:=l.ei V;have I:((g.toNat:Nat):Int)=g:=O;have p:=l.mem _ P a;have D:=l.len _ P a;rw[I]at p D;have ze:=(w.kt g).1;obtain⟨f,cc,lb,rfl,rfl,U,W,xh⟩:=m.Vd a;obtain⟨sv,E,X⟩:=m.jd _ P a;obtain⟨x,z⟩:∃x,P.l[0]? =some x:=⟨_,ajL O⟩;obtain⟨b,c2,l2,rfl,yc,K,F,_,E5⟩:=Sl.at_ X (i:=0) (x:=i64 x) (by simp[z]);refine v1 (ae B) ?_;refine⟨O,?_⟩;simp(disch:=(first|exact aV|fail)) only[go_sem, ↓reduceIte,Zv,ae U,ajM,W,Ns,ae E];refine⟨O,?_⟩;refine v2 (ae K) (show l2[Int.toNat 0*1]? =some (i64 x)from F) ?_;have WY:=ajV z;obtain⟨kh,e,N⟩:=(p x).1 WY;refine⟨.inr ⟨x,⟨d,kh,⟨e,N⟩,fun y hy ⟨L,Q⟩ M=>?_⟩,rfl⟩,rfl⟩;have hyP:=(p y).2 ⟨hy,L,Q⟩;obtain⟨j,u⟩:=aj5 hyP;have G:=(ajK.1 u).1;have A:=Dn (au w) eX (l.ok _ P a) j j (ajU _) G;rw[pX u,pX z]at A;rcases(au w).UN x y (Ne.symm M)with o|o
 ·exact o
 grind
theorem oD{S:Nat->Prop}{w:Nw}(h:dK H n S st w)(x:Int):aF 359 [ptr n,i64 x] H fun v J=>ak (
  (¬cz w.cs x/\v= .bool false/\H=J)\/
  (cz w.cs x/\v= .bool true/\∃ (c0:Ce) (q:Nat),w.cs[x.toNat]? =some c0/\q<=2*ix 2 (w.len c0.1 - 1)/\∃V,dK J n V (min (st+q) 4611686018427387904) (w.put x (0,0,0))/\aj S H J/\∀z,V z->S z\/H.size<=z)):=by
 obtain⟨c,C,rv,fr,fa,ps,at_,m,l,L⟩:=h;obtain⟨av,ho,ha⟩:=m.own;refine aT wK ?_;refine v1 (ae ho) ?_;refine(da m.cells x).mono ?_;rintro _ H1 (⟨U,rfl,rfl⟩| ⟨N,c0,F,rfl,c1,G⟩)
 ·refine vs ?_;exact .inl ⟨U,rfl,rfl⟩
 obtain⟨kh,c0',A,pV⟩:=id N;rw[F]at A;injection A with A;subst A;obtain⟨P,j⟩:=(l.hs c0.1.toNat).1 (m.cells.live _ Z pV);have ON:((c0.1.toNat:Nat):Int)=c0.1:=O;have E:=l.mem _ P j;have ec:=l.len _ P j;rw[ON]at E ec;have ke:(w.put x (0,0,0)).cs[x.toNat]? =some (0,0,0):=ajY Z;have yv:∀y:Nat,y≠x.toNat->(w.put x (0,0,0)).cs[y]? =w.cs[y]? :=fun y B=>ajT (Ne.symm B);have K:=m.aD c1 G;obtain⟨av1,X,Zb⟩:=K.own;have WY:x∈P.l:=Z;have DL:∀z∈P.l,cz w.cs z:=fun z a=>by
  obtain⟨I,e,p⟩:=(E z).1 a;exact⟨I,_,p,pV⟩
 obtain⟨i,hi⟩:=aj5 WY;have MI:=(ajK.1 hi).1;obtain⟨_,hai⟩:=l.Nt _ P j i x hi;obtain⟨f,cc,lb,rfl,rfl,hf,Tf,u⟩:=K.Vd j;obtain⟨fa',ac,la,rfl,hfa,Tl,Tm,_,_⟩:=Sl.at_ Zb (i:=x.toNat) (x:=i64 i) Z;have Og:=O;refine v1 (ae X) ?_;refine⟨O,?_⟩;simp(disch:=(first|exact aV|fail)) only[go_sem, ↓reduceIte,Zv,ae hf,ajM,Tf,Ns,ae X];refine⟨O,?_⟩;refine v3 (ae Tl) ajM Tm ?_;refine(Ai (K.Aj j) (l.Nt _ P j) MI DL (l.ok _ P j)).mono ?_;rintro _ H2 ⟨l',at',q,o,hq⟩;rw[pX hi]at o;have M:∀z,(C z\/P.fp=some z\/fa=some z\/z=P.r)->C z\/P.S z\/fa=some z:=fun z a=>by
  rcases a with a|a|a|a
  ·grind
  ·exact .inr (.inl (.inr a))
  ·grind
  ·exact .inr (.inl (.inl a))
 have LS:∀z,(C z\/P.fp=some z\/fa=some z\/z=P.r)->S z:=fun z a=>(L z).1 (by
  rcases M z a with a|a|a
  ·exact .inl a
  ·exact .inr Z
  ·exact .inr Z)
 have W:=K.Ch j (P':=⟨P.r,P.fp,l'⟩) rfl o.jd (.inl rfl) o.ext M;obtain⟨av2,Zc,_⟩:=W.own;refine v1 (ae Zc) ?_;refine(jy W.cells x).mono ?_;rintro _ H3 (⟨U,_,_⟩| ⟨_,rfl,c3,D⟩)
 ·exact absurd N U
 refine vs ?_;have m3:=W.aD c3 D;have nj:∀ (h:Nat) Q,h≠c0.1.toNat->ps[h]? =some (some Q)->∀y∈Q.l,y.toNat≠x.toNat:=fun h Q hh t y B e=>by
  obtain⟨y0,e',p⟩:=(l.mem h Q t y).1 B;grind
 have Tn:∀y∈l',y.toNat≠x.toNat:=fun y B e=>by
  cases o;grind
 refine .inr ⟨N,rfl,c0,q,F,Z,yu n C (some f) fa (ps.set c0.1.toNat (some ⟨P.r,P.fp,l'⟩)),
  ⟨c,C,_,some f,fa,_,at',m3,⟨by rw[ajN];exact l.hl,fun h=>?_,?_,fun h Q t=>?_,fun h Q t=>?_,fun h Q t y=>?_,fun h Q t=>?_,?_⟩,fun z=>Iff.rfl⟩,?_,fun z a=>?_⟩
 ·show w.hs[h]? =some true↔_;rw[l.hs h];grind
 ·rw[ajT O];exact l.h0
 ·rcases hH u t with ⟨rfl,rfl⟩| ⟨d,g⟩
  ·cases o;grind [eo.Ah,gS]
  ·exact(l.ok h Q g).Ah fun z a y B=>(gS w x _ Z Z).symm
 ·rcases hH u t with ⟨rfl,rfl⟩| ⟨d,g⟩
  ·exact o.ok
  ·exact(l.Nt h Q g).QK fun z a I=>o.off z I (l.apart g j d a)
 ·by_cases KM:y.toNat=x.toNat
  ·rw[KM,ke];have h0:=hH u t;constructor
   ·grind
   ·rintro⟨_,e,p⟩;injection p with p;injection p with he1 _;rcases h0 with ⟨rfl,rfl⟩| ⟨d,g⟩
    ·omega
    ·have:=l.pos g;omega
  ·rw[yv _ KM];rcases hH u t with ⟨rfl,rfl⟩| ⟨d,g⟩
   ·cases o;grind
   ·exact l.mem h Q g y
 ·rcases hH u t with ⟨rfl,rfl⟩| ⟨d,g⟩
  ·cases o;grind [Nw.gm]
  ·have:=l.pos g;rw[l.len h Q g,Nw.gm F h,if_neg O,if_neg O];omega
 ·rw[o.Hq,l.Hq];exact(ajN ..).symm
 ·exact(G.mono Z).trans ((o.ext.mono Z).trans (D.mono Z))
 ·rcases a with a|rfl|a|a| ⟨i,Q,t,a⟩
  ·grind
  ·exact .inl ((L z).1 (.inr (.inl rfl)))
  ·exact .inl ((L z).1 (.inr (.inr (.inl a))))
  ·grind
  ·rcases hH u t with ⟨rfl,rfl⟩| ⟨d,g⟩
   ·rcases a with rfl|a
    ·grind
    grind
   ·exact .inl ((L z).1 (.inr Z))
theorem yw{S:Nat->Prop}{w:Nw}(h:dK H n S st w)(g:Int):aF 360 [ptr n,i64 g] H fun v J=>ak (
  (w.len g=0/\v= .tuple [i64 0,.bool false].toArray/\H=J)\/
  (∃x,w.first g x/\v= .tuple [i64 x,.bool true].toArray/\∃q:Nat,q<=2*ix 2 (w.len g - 1)/\∃a,dK J n a (min (st+q) 4611686018427387904) (w.put x (0,0,0))/\aj S H J/\∀z,a z->S z\/H.size<=z)):=by
 refine aT uF ?_;refine vs ?_;refine(vx h g).mono ?_;rintro _ _ ⟨⟨d,rfl⟩| ⟨x,y,rfl⟩,rfl⟩
 ·refine vs ?_;exact .inl ⟨d,rfl,rfl⟩
 ·refine vs ?_;refine(oD h x).mono ?_;rintro _ H1 (⟨f,_,_⟩| ⟨_,rfl,B,q,o,u,a,t,j,p⟩)
  ·exact absurd y.JN f
  refine vs ?_;obtain⟨e,m⟩:=y.2.2.1;rw[o]at m;injection m with m;subst m;exact .inr ⟨x,y,rfl,q,u,a,t,j,p⟩
theorem wT{S:Nat->Prop}{w:Nw}(h:dK H n S st w)(x k s:Int):aF 358 [ptr n,i64 x,mE k s] H fun v J=>ak (
  (¬ (cz w.cs x/\∀y,w.cs[x.toNat]? =some y->¬ef y.2.1 y.2.2 k s)/\v= .bool false/\dK J n S st w/\af H J)\/
  (cz w.cs x/\∃y,w.cs[x.toNat]? =some y/\¬ef y.2.1 y.2.2 k s/\v= .bool true/\∃q:Nat,q<=2*ix 2 (w.len y.1 - 1)/\∃S',dK J n S' (min (st+q) 4611686018427387904) (w.put x (y.1,k,s))/\aj S H J/\∀z,S' z->S z\/H.size<=z)):=by
 obtain⟨c,C,rv,fr,fa,ps,at_,m,l,p⟩:=h;refine aT su ?_;refine vs ?_;have D:af H (H.new 190 [i64 k,u64 s]):=bD;have b0:(H.new 190 [i64 k,u64 s]).own H.size=some [i64 k,u64 s]:=am _ _ _;have I:=m.ext D (fun _ _ h=>h);generalize H.new 190 [i64 k,u64 s]=H0 at*;obtain⟨av,Hk,RN⟩:=I.own;refine v2 (ae Hk) (ae b0) ?_;refine(iM I.cells x k s).mono ?_;rintro _ H1 (⟨E,rfl,G,u⟩| ⟨mA,rfl,y,hy,mi,G,u⟩)
 ·refine vs ?_;exact .inl ⟨E,rfl,⟨c,C,rv,fr,fa,ps,at_,I.ext u (fun _ _ h=>h),l,p⟩,D.trans u⟩
 have m1:=I.aD G u;obtain⟨av1,ho1,Zb⟩:=m1.own;refine v1 (ae ho1) ?_;obtain⟨kh,y',U,X⟩:=id mA;rw[hy]at U;injection U with U;subst U;have ke:(w.put x (y.1,k,s)).cs[x.toNat]? =some (y.1,k,s):=ajY Z;have yv:∀z:Nat,z≠x.toNat->(w.put x (y.1,k,s)).cs[z]? =w.cs[z]? :=fun z a=>ajT (Ne.symm a);have QN:cz (w.put x (y.1,k,s)).cs x:=⟨kh,_,ke,X⟩;refine(da G x).mono ?_;rintro _ H2 (⟨E,_,_⟩| ⟨_,y2,W,rfl,c2,e2⟩)
 ·exact absurd QN E
 rw[ke]at W;injection W with W;subst W;have V:=m1.aD c2 e2;obtain⟨av2,Zc,ha2⟩:=V.own;obtain⟨P,t⟩:=(l.hs y.1.toNat).1 (m.cells.live _ Z X);have ON:((y.1.toNat:Nat):Int)=y.1:=O;have OP:∀ (h:Nat) Q,ps[h]? =some (some Q)->∀z:Int,z∈Q.l↔0<=z/\∃e,(w.put x (y.1,k,s)).cs[z.toNat]? =some (((h:Nat):Int),e):=fun h Q g z=>by
  cases l;grind
 have M:=OP _ P t;have ec:=l.len _ P t;rw[ON]at M ec;have WY:x∈P.l:=Z;have DL:∀z∈P.l,cz (w.put x (y.1,k,s)).cs z:=fun z a=>by
  obtain⟨z0,e,he⟩:=(M z).1 a;exact⟨z0,_,he,X⟩
 obtain⟨i,hi⟩:=aj5 WY;have MI:=(ajK.1 hi).1;obtain⟨_,hai⟩:=l.Nt _ P t i x hi;have Og:=(ajK.1 hai).1;obtain⟨f,cc,lb,rfl,rfl,hf,Tf,L⟩:=V.Vd t;obtain⟨fa',ac,la,rfl,hfa,Tl,Tm,_,_⟩:=Sl.at_ ha2 (i:=x.toNat) (x:=i64 i) Z;have Ve:∀j,j<P.l.length->j≠i->(P.l.getD j 0).toNat≠x.toNat:=fun j hj nj e=>by
  have hgj:P.l[j]? =some (P.l.getD j 0):=by rw[ajR,ajL hj];rfl
  have h0:=((M _).1 (ajV hgj)).1;cases l;grind [jc.zS]
 have hA:dV (aU (w.put x (y.1,k,s))) 2 P.l i:=by
  have hb:=(l.ok _ P t).but (au w) eX i;refine⟨fun j B A K F=>?_,fun j B A K F=>?_⟩
  ·have:=di eX B;rw[gS w x _ (Ve j A K) Z];exact hb.1 j B A K F
  ·have:=di eX B;have:=di eX F;rw[gS w x _ Z Z];exact hb.2 j B A K F
 refine v1 (ae Zc) ?_;refine⟨O,?_⟩;simp(disch:=(first|exact aV|fail)) only[go_sem, ↓reduceIte,Zv,ae hf,ajM,Tf,Ns,ae Zc];refine⟨O,?_⟩;refine v3 (ae Tl) ajM Tm ?_;refine(Fl (V.Aj t) (l.Nt _ P t) MI DL hA).mono ?_;rintro _ H3 ⟨rfl,l',at',q,o,WX,hq⟩;refine vs ?_;have zg:=u.trans e2;have hT:∀z,(C z\/P.fp=some z\/fa=some z)->C z\/P.S z\/fa=some z:=fun z a=>by
  rcases a with a|a|a
  ·grind
  ·exact .inr (.inl (.inr a))
  grind
 have LS:∀z,(C z\/P.fp=some z\/fa=some z)->S z:=fun z a=>(p z).1 (by
  rcases hT z a with a|a|a
  ·exact .inl a
  ·exact .inr Z
  ·exact .inr Z)
 have nj:∀ (h:Nat) Q,h≠y.1.toNat->ps[h]? =some (some Q)->∀z∈Q.l,z.toNat≠x.toNat:=Z;have U6:∀h:Int,(w.put x (y.1,k,s)).len h=w.len h:=fun h=>by
  grind [Nw.gm]
 have hol:=o.len;refine .inr ⟨mA,y,hy,mi,rfl,q,Z,yu n C (some f) fa (ps.set y.1.toNat (some ⟨P.r,P.fp,l'⟩)),
  ⟨c,C,_,some f,fa,_,at',V.Ch t (P':=⟨P.r,P.fp,l'⟩) rfl o.jd (.inl rfl) o.ext hT,
   ⟨by rw[ajN];exact l.hl,fun h=>?_,?_,fun h Q g=>?_,fun h Q g=>?_,fun h Q g z=>?_,fun h Q g=>?_,?_⟩,fun z=>Iff.rfl⟩,?_,fun z a=>?_⟩
 ·show w.hs[h]? =some true↔_;rw[l.hs h];grind
 ·rw[ajT O];exact l.h0
 ·rcases hH L g with ⟨rfl,rfl⟩| ⟨N,d⟩
  ·omega
  ·exact(l.ok h Q d).Ah fun z a v hv=>(gS w x _ Z Z).symm
 ·rcases hH L g with ⟨rfl,rfl⟩| ⟨N,d⟩
  ·exact o.ok
  ·exact(l.Nt h Q d).QK fun z a z0=>o.off z z0 Z
 ·rcases hH L g with ⟨rfl,rfl⟩| ⟨N,d⟩
  ·cases o;grind
  grind
 ·rw[U6];rcases hH L g with ⟨rfl,rfl⟩| ⟨N,d⟩
  ·grind
  ·exact l.len h Q d
 ·rw[o.Hq,l.Hq];exact(ajN ..).symm
 ·exact(D.mono fun _ _ h=>h.elim).trans ((zg.mono Z).trans (o.ext.mono Z))
 ·rcases a with a|rfl|a|a| ⟨j,Q,g,a⟩
  ·grind
  ·exact .inl ((p z).1 (.inr (.inl rfl)))
  ·exact .inl ((p z).1 (.inr (.inr (.inl a))))
  ·grind
  ·rcases hH L g with ⟨rfl,rfl⟩| ⟨N,d⟩
   ·rcases a with rfl|a
    ·exact .inl ((p _).1 (.inr (.inr (.inr (.inr ⟨_,P,t,.inl rfl⟩)))))
    grind
   ·exact .inl ((p z).1 (.inr Z))
theorem yx{ps:List (Option Pl)}{T:Pl}(z:a<ps.length)(v:b<ps.length)(m:a≠b){Q:Pl}(x:((ps.set a (some T)).set b none)[h]? =some (some Q)):
  (h=a/\Q=T)\/(h≠a/\h≠b/\ps[h]? =some (some Q)):=by
 grind
theorem im.two{c f u:Nat}{C:Nat->Prop}{fa:Option Nat}{w:Nw}{ps:List (Option Pl)}(m:im H n c C (.slice (some ⟨f,0,none⟩) ps.length u) (some f) fa st w ps at_)(Fc:a≠b){T:Pl}(X:ps[a]? =some (some T)\/ps[b]? =some (some T))
  (ha:a<ps.length)(hb:b<ps.length){p:List Value}(B:H.own f=some p):
  im (H.wr f ((p.set a (ptr T.r)).set b (.pointer none))) n c C (.slice (some ⟨f,0,none⟩) ps.length u) (some f) fa st w ((ps.set a (some T)).set b none) at_/\
   aj (fun z=>z=f) H (H.wr f ((p.set a (ptr T.r)).set b (.pointer none))):=by
 have e:aj (fun z=>z=f) H (H.wr f ((p.set a (ptr T.r)).set b (.pointer none))):=(aj.refl (fun z=>z=f) _).wr (fun _=>rfl) _;have U:=m.OM f rfl;obtain⟨L,W,N⟩:=m.own;have d:∀ (h:Nat) Q,((ps.set a (some T)).set b none)[h]? =some (some Q)->∃v,ps[v]? =some (some Q)/\((v=h/\h≠a/\h≠b)\/(h=a/\(v=a\/v=b))):=Z;refine⟨⟨⟨L,e.own W (Ne.symm U.2.1),N.ext e Z⟩,m.cells.ext e Z,?_,fun h Q t=>?_,m.nC,m.OM,m.Ho,fun h Q t x j=>?_,fun h Q t=>?_,fun h v Q o t F nj x j I=>?_⟩,e⟩
 ·have y:=(m.sl.nQ B a (ptr T.r)).nQ (ah B) b (.pointer none);rw[Jq]at y;rw[ajN,ajN,akd,akd];exact y
 ·obtain⟨v,y,_⟩:=d h Q t;obtain⟨D,V,G⟩:=m.jd v Q y;have P:∀x,Q.S x->x≠f:=fun x j hz=>(m.pd v Q y x j).2.2.1 Z;exact⟨D,e.own V (P _ (.inl rfl)),G.ext e (fun x j=>P x (.inr j))⟩
 ·obtain⟨v,y,_⟩:=d h Q t;exact m.pd v Q y x j
 ·obtain⟨v,y,_⟩:=d h Q t;exact m.pr v Q y
 ·obtain⟨g,y,M⟩:=d h Q t;obtain⟨A,K,E⟩:=d v o F;exact m.pp g A Q o y K O x j I
theorem vu.join{w:Nw}{ps:List (Option Pl)}{at':List Int}(l:vu w ps at_){a b:Int}(P:w.has a)(N:w.has b)(K:a≠b){t j T:Pl}(p:ps[a.toNat]? =some (some t))(o:ps[b.toNat]? =some (some j))
  (V:eo (aU (w.join a b)) 2 T.l)(To:jc T.l at')(W:∀z,z∈T.l↔z∈t.l\/z∈j.l)(ec:T.l.length=t.l.length+j.l.length)(F:at'.length=at_.length)
  (I:∀z:Int,0<=z->z∉t.l->z∉j.l->at'[z.toNat]? =at_[z.toNat]?):vu (w.join a b) ((ps.set a.toNat (some T)).set b.toNat none) at':=by
 have X:=P.1;have Oz:=N.1;have d:=(ajK.1 p).1;have f:=(ajK.1 o).1;have u:a.toNat≠b.toNat:=O;have L:((a.toNat:Nat):Int)=a:=O;have U:((b.toNat:Nat):Int)=b:=O;refine⟨by rw[ajN,ajN,l.hl];simp[Nw.join],fun h=>?_,?_,fun h Q g=>?_,fun h Q g=>?_,fun h Q g z=>?_,fun h Q g=>?_,by rw[F,l.Hq];simp[Nw.join]⟩
 ·show(w.hs.set b.toNat false)[h]? =some true↔_;by_cases m:h=b.toNat
  ·grind
  ·rw[ajT (Ne.symm m),ajT (Ne.symm m)];by_cases v:h=a.toNat
   ·subst v;rw[ajY d];exact⟨Z,fun _=>P.2⟩
   ·rw[ajT (Ne.symm v)];exact l.hs h
 ·cases l;grind
 ·rcases yx d f u g with ⟨rfl,rfl⟩| ⟨m,v,x⟩
  ·exact V
  ·exact(l.ok h Q x).Ah fun z _ y _=>(sH w a b z y).symm
 ·rcases yx d f u g with ⟨rfl,rfl⟩| ⟨m,v,x⟩
  ·omega
  ·exact(l.Nt h Q x).QK fun z A B=>I z B (l.apart x p m A) (l.apart x o v A)
 ·rw[sG];rcases yx d f u g with ⟨rfl,rfl⟩| ⟨m,v,x⟩
  ·rw[W z,l.mem _ t p z,l.mem _ j o z,L,U];cases w.cs[z.toNat]? with
   |none=>simp
   |some c=>
    obtain⟨G,D⟩:=c;simp only[Option.map_some,ajS,Prod.mk.injEq];constructor
    ·rintro(⟨B,e,rfl,rfl⟩| ⟨B,e,rfl,rfl⟩)
     ·simp_all
     grind
    grind
  ·rw[l.mem h Q x z];grind
 ·rw[Nw.Do w K O O];rcases yx d f u g with ⟨rfl,rfl⟩| ⟨m,v,x⟩
  ·rw[if_pos L];have M:=l.len _ t p;have E:=l.len _ j o;grind
  ·rw[if_neg O,if_neg O];exact l.len h Q x
theorem DM{S:Nat->Prop}{w:Nw}(h:dK H n S st w)(a b:Int):aF 363 [ptr n,i64 a,i64 b] H fun v J=>ak (
  (¬ (w.has a/\w.has b/\a≠b)/\v= .bool false/\H=J)\/
  ((w.has a/\w.has b/\a≠b)/\v= .bool true/\∃q:Nat,(q:Int)<=min (w.len a) (w.len b)*(ix 2 (w.len a+w.len b):Nat)/\∃S',dK J n S' (min (st+q) 4611686018427387904) (w.join a b)/\aj S H J/\∀z,S' z->S z\/H.size<=z)):=by
 obtain⟨c,C,rv,fr,fa,ps,at_,m,l,W⟩:=h;obtain⟨av,ho,hav⟩:=m.own;refine uS zF ⟨rfl,?_⟩;refine v2 oe.eq_1 (ae ho) ?_;refine(jz m.cells a b).mono ?_;rintro _ H1 (⟨mT,rfl,rfl⟩| ⟨⟨ha,hb,Fc⟩,rfl,c1,e1⟩)
 ·refine vs ?_;exact .inl ⟨mT,rfl,rfl⟩
 obtain⟨d,B⟩:=l.ei ha;obtain⟨p,P⟩:=l.ei hb;have Zb:=ha.1;have Oz:=hb.1;have OL:=(ajK.1 B).1;have E5:=(ajK.1 P).1;have L:=m.aD c1 e1;obtain⟨av1,o1,afx⟩:=L.own;obtain⟨f,cc,M,rfl,rfl,of,ga,la⟩:=L.Vd B;obtain⟨f',JR,S4,hv,PX,QO,gb,WZ⟩:=L.Vd P;injection PX with PX;subst PX;rw[of]at QO;injection QO with QO;subst QO;refine v1 (ae o1) ?_;refine⟨O,?_⟩;simp(disch:=(first|exact aV|fail)) only[go_sem, ↓reduceIte,Zv,ae of,ae o1,ajM,ga,Ns];refine⟨O,?_⟩;simp(disch:=(first|exact aV|fail)) only[go_sem, ↓reduceIte,Zv,ae of,ajM,gb,Ns];refine eS (fun e J=>e.find 0=some (ptr n)/\e.find 1=some (i64 a)/\e.find 2=some (i64 b)/\J=H1/\∃T F:Pl,e.find 7=some (ptr T.r)/\e.find 8=some (ptr F.r)/\
  ((T=d/\F=p/\p.l.length<=d.l.length)\/(T=p/\F=d/\d.l.length<p.l.length))) ?_ ?_
 ·refine vs ?_;refine(gJ (L.Aj B)).mono ?_;rintro _ _ ⟨rfl,rfl⟩;refine vs ?_;refine(gJ (L.Aj P)).mono ?_;rintro _ _ ⟨rfl,rfl⟩;refine vs ?_;refine ai.dec (fun iC=>?_) (fun iC=>?_)<;>refine vs ?_
  ·exact⟨trivial,trivial,trivial,trivial,p,d,rfl,rfl,.inr ⟨rfl,rfl,O⟩⟩
  ·exact⟨trivial,trivial,trivial,trivial,d,p,rfl,rfl,.inl ⟨rfl,rfl,O⟩⟩
 rintro e H1' ⟨e0,ea,eb,hH1,T,F,eT,eF,G⟩;obtain rfl:=hH1.symm;have haa:((a.toNat:Nat):Int)=a:=O;have KJ:((b.toNat:Nat):Int)=b:=O;have V:a.toNat≠b.toNat:=O;have hT:ps[a.toNat]? =some (some T)\/ps[b.toNat]? =some (some T):=by
  rcases G with ⟨rfl,rfl,_⟩| ⟨rfl,rfl,_⟩
  ·exact .inl B
  ·exact .inr P
 obtain⟨K,iF,I,u,Tp,pV⟩:∃K iF:Nat,ps[K]? =some (some T)/\ps[iF]? =some (some F)/\K≠iF/\0<iF:=by
  rcases G with ⟨rfl,rfl,_⟩| ⟨rfl,rfl,_⟩
  ·exact⟨_,_,B,P,V,O⟩
  ·exact⟨_,_,P,B,Ne.symm V,O⟩
 have Al:∀z,(z∈T.l\/z∈F.l)↔(z∈d.l\/z∈p.l):=fun z=>by
  rcases G with ⟨rfl,rfl,_⟩| ⟨rfl,rfl,_⟩
  ·exact Iff.rfl
  ·exact Or.comm
 have eLa:=l.len _ d B;have eLb:=l.len _ p P;rw[haa]at eLa;rw[KJ]at eLb;have ec:T.l.length+F.l.length=d.l.length+p.l.length/\((F.l.length:Nat):Int)=min (w.len a) (w.len b):=by
  rcases G with ⟨rfl,rfl,_⟩| ⟨rfl,rfl,_⟩<;>omega
 clear G;have OQ:∀z∈F.l,z∉T.l:=fun z g=>l.apart u I (Ne.symm Tp) g;have KY:∀ (i:Nat) Q,ps[i]? =some (some Q)->∀z∈Q.l,cz (w.join a b).cs z:=fun i Q hQ z g=>by
  obtain⟨z0,e,he⟩:=(l.mem i Q hQ z).1 g;have:=l.pos hQ;exact(Dp w O O z).2 ⟨z0,_,he,by simp only;omega⟩
 have uH:=m.cells.zf;have ze:d.l.length+p.l.length<=65536:=by
  have o:=((w.join a b).kt a).2;rw[Nw.Do w Fc O O,if_pos rfl]at o;have N:(w.join a b).cs.length=w.cs.length:=by simp[Nw.join]
  omega
 have QP:=m.cells.st;obtain⟨m2,E⟩:=L.two V hT OL E5 of;obtain⟨sF,oF1,sF1⟩:=L.jd iF F u;have W1:∀x,F.S x->x≠f:=fun x t g=>(m.pd iF F u x t).2.2.1 (ajP some g.symm);have oF2:=E.own oF1 (W1 _ (.inl rfl));have sF2:=sF1.ext E (fun x t=>W1 x (.inr t));have of1:(H1.wr f (M.set a.toNat (ptr T.r))).own f=some (M.set a.toNat (ptr T.r)):=ah of;have aaX:M.length=(M.set a.toNat (ptr T.r)).length:=(ajN ..).symm;have MG:=(ajK.1 gb).1;have Og:=(ajK.1 ga).1;refine v6 e0 ea eb eT eF (ae o1) ?_;refine⟨O,?_⟩;refine v7 e0 ea eb eT eF of ajM ?_;refine⟨O,?_⟩;refine v1 ajJ ?_;refine⟨O,?_⟩;refine v2 of1 ajM ?_;refine⟨by rw[ajN];omega,?_⟩;refine v1 ajJ ?_;generalize H1.wr f ((M.set a.toNat (ptr T.r)).set b.toNat (.pointer none))=H2 at*;obtain⟨a3,c3,rfl⟩:=bX.Dh sF2.rd;refine v6 e0 ea eb eT eF (ae oF2) ?_;have wO:=L.slt;have z1:=e1.size;have z2:=E.size;have hU:∀j:Nat,j<=F.l.length->ix 2 ((T.l.length+j:Nat):Int)<=ix 2 (w.len a+w.len b):=fun j hj=>j1 eX (w.len a+w.len b).toNat _ _ (ajU _) O;generalize ix 2 (w.len a+w.len b)=U at*;have hFd:∀x,F.fp=some x->¬ (C x\/T.S x\/fa=some x):=fun x t A=>by
  have o:=m.pd iF F u x (.inr t);rcases A with A|A|A
  ·exact o.1 A
  ·exact m.pp K iF T F I u Tp x A (.inr t)
  ·exact o.2.2.2 A
 have MR:∀ (T':Pl),((ps.set a.toNat (some T')).set b.toNat none)[a.toNat]? =some (some T'):=fun T'=>by
  rw[ajT (Ne.symm V),ajY OL]
 refine bj.intro (fun k env J=>∃ (j:Nat) (T':Pl) (q:Nat) (at':List Int),env=[(7,ptr T.r),(56,.slice a3 F.l.length c3),(57,i64 F.l.length),(58,i64 j)]/\k=F.l.length - j/\j<=F.l.length/\T'.r=T.r/\
   im J n c C (.slice (some ⟨f,0,none⟩) ps.length cc) (some f) fa (min (st+q) 4611686018427387904) (w.join a b) ((ps.set a.toNat (some T')).set b.toNat none) at'/\eo (aU (w.join a b)) 2 T'.l/\jc T'.l at'/\at'.length=at_.length/\
   (∀z:Int,0<=z->z∉d.l->z∉p.l->at'[z.toNat]? =at_[z.toNat]?)/\
   (∀z,z∈T'.l↔z∈T.l\/z∈F.l.take j)/\T'.l.length=T.l.length+j/\q<=j*U/\(∀z,T'.S z->T.S z\/H2.size<=z)/\aj (fun z=>C z\/T.S z\/fa=some z) H2 J) F.l.length
  ⟨0,T,0,at_,rfl,O,O,rfl,by rw[show min (st+((0:Nat):Int)) 4611686018427387904=st by omega];exact m2,(l.ok K T I).Ah fun z _ y _=>(sH w a b z y).symm,l.Nt K T I,rfl,fun _ _ _ _=>rfl,
   fun z=>by simp,rfl,O,fun z g=>.inl g,aj.refl _ _⟩ ?_
 rintro k env H4 ⟨j,T',q,at',rfl,rfl,hj,hr,m4,KV,To,QL,QM,D,OR,hq,R0,X⟩;refine vs ?_;have Tq:=MR T';refine ai.dec (fun iC=>?_) (fun iC=>?_)<;>refine vs ?_
 ·obtain⟨x,t⟩:∃x,F.l[j]? =some x:=⟨_,ajL O⟩;have Vf:=ajV t;have sF4:=sF2.ext X (fun x t=>hFd x t);obtain⟨bb,bo,bc,bl,q1,q2,q3,q4⟩:=bX.get sF4.rd (i:=j) (j:=0) (x:=i64 x) O (by simp[t]);injection q1 with q1 _ q1';subst q1 q1';refine⟨O,?_⟩;refine v3 q2 Int.toNat_natCast (show bl[bo+j*1]? =some (i64 x)from q4) ?_;rw[<-hr];have hxT:x∉T'.l:=fun hm=>by
   rcases(D x).1 hm with h|h
   ·exact OQ x Vf h
   ·obtain⟨i,hi⟩:=aj5 h;rw[akM]at hi;split at hi
    ·have:=(l.Nt iF F u).zS hi t;omega
    ·cases hi
  have Tr:∀z∈T'.l,cz (w.join a b).cs z:=fun z g=>by
   rcases(D z).1 g with h|h
   ·exact KY K T I z h
   ·exact KY iF F u z (List.mem_of_mem_take h)
  have Ti:=KY iF F u x Vf;obtain⟨kh,xe,W2,_⟩:=id Ti;have tJ:=(ajK.1 W2).1;have hjl:(w.join a b).cs.length=w.cs.length:=by simp[Nw.join]
  refine(sV (m4.Aj Tq) To O ⟨kh,by rw[QL,l.Hq];omega⟩ hxT Ti Tr KV).mono ?_;rintro _ H5 ⟨rfl,LM,l',at2,q5,pm,aa0,Ts,W3,ac6,ac7,W4,hq5,afG,e5,W5⟩;refine vs ?_;have hT5:∀z,(C z\/T'.fp=some z\/fa=some z\/z=T'.r)->C z\/T'.S z\/fa=some z:=fun z g=>by
   rcases g with g|g|g|g
   ·exact .inl g
   ·exact .inr (.inl (.inr g))
   ·exact .inr (.inr g)
   ·exact .inr (.inl (.inl g))
  have m5:=m4.Ch Tq (P':=⟨T'.r,LM,l'⟩) rfl pm W5 e5 hT5;rw[List.set_comm _ _ (Ne.symm V),List.set_set,show min (min (st+(q:Int)) 4611686018427387904+((q5:Nat):Int)) 4611686018427387904=min (st+((q+q5:Nat):Int)) 4611686018427387904 by omega]at m5;have z4:=X.size;have Ou:=(Al x).1 (.inr Vf);have hU5:=hU j hj;rw[<-OR]at hU5;rw[wrap64 (n:=(j:Int)+1) O O,hr];refine⟨F.l.length - (j+1),O,j+1,⟨T'.r,LM,l'⟩,q+q5,at2,rfl,rfl,O,hr,m5,Ts,aa0,O,fun z z0 o N=>?_,fun z=>?_,by show l'.length=_;omega,?_,fun z g=>?_,X.lN e5 (fun z Y7 g=>?_)⟩
  ·rw[W4 z z0 (fun e=>by rw[e]at o N;exact Ou.elim o N) (fun hm=>?_),QM z z0 o N];rcases(D z).1 hm with h3|h3
   ·exact((Al z).1 (.inl h3)).elim o N
   ·exact((Al z).1 (.inr (List.mem_of_mem_take h3))).elim o N
  ·show z∈l'↔_;rw[W3 z,D z,aj2,t];simp only[Option.toList_some,aj4,aj6];constructor
   ·rintro(h|h|h)
    ·exact .inr (.inr h)
    ·exact .inl h
    ·exact .inr (.inl h)
   ·rintro(h|h|h)
    ·exact .inr (.inl h)
    ·exact .inr (.inr h)
    ·exact .inl h
  ·rw[akX,alf];omega
  ·rcases g with g|g
   ·exact R0 z (.inl g)
   ·rcases W5 with h| ⟨y,h,h7⟩
    ·exact R0 z (.inr (h▸g))
    ·simp only at g;rw[h]at g;injection g with g;exact .inr O
  ·rcases hT5 z g with g|g|g
   ·exact .inl g
   ·rcases R0 z g with h|h
    ·exact .inr (.inl h)
    ·exact absurd Y7 O
   ·exact .inr (.inr g)
 ·have hjL:j=F.l.length:=O;subst hjL;have LS:∀z,(C z\/T.S z\/fa=some z)->S z:=fun z g=>(W z).1 (by
   rcases g with g|g|g
   ·exact .inl g
   ·exact .inr (.inr (.inr (.inr ⟨_,T,I,g⟩)))
   ·exact .inr (.inr (.inr (.inl g))))
  refine .inr ⟨⟨ha,hb,Fc⟩,rfl,q,?_,yu n C (some f) fa ((ps.set a.toNat (some T')).set b.toNat none),⟨c,C,_,some f,fa,_,at',m4,l.join ha hb Fc B P KV To (fun z=>?_) O QL QM,fun z=>Iff.rfl⟩,?_,fun z g=>?_⟩
  ·rw[<-ec.2,<-Int.natCast_mul];exact Int.ofNat_le.2 hq
  ·rw[D z,aj8,Al z]
  ·exact(e1.mono fun z _ g=>LS z (.inl g)).trans ((E.mono fun z _ g=>(W z).1 (.inr (.inr (.inl (by rw[g]))))).trans (X.mono fun z _ g=>LS z g))
  ·rcases g with g|rfl|g|g| ⟨i,Q,hQ,g⟩
   ·exact .inl ((W z).1 (.inl g))
   ·exact .inl ((W z).1 (.inr (.inl rfl)))
   ·exact .inl ((W z).1 (.inr (.inr (.inl g))))
   ·exact .inl (LS z (.inr (.inr g)))
   ·rcases yx OL E5 V hQ with ⟨rfl,rfl⟩| ⟨h5,h6,h7⟩
    ·rcases R0 z g with h|h
     ·exact .inl (LS z (.inr (.inl h)))
     ·exact .inr O
    ·exact .inl ((W z).1 (.inr (.inr (.inr (.inr ⟨i,Q,h7,g⟩)))))
theorem Am{F:Value}{I:Hp->Nat->Prop}{T:Nat->Prop}{lt:Int->Int->Bool}{D:Int->Prop}(p:KK F I T lt D){r:Nat}{S:Nat->Prop}{pl:Int->Option Int}
  (h:dB H r S d l pl)(L:∀x,S x->¬T x){n:Nat}(hI:I H n)(hf:cX d)(x:Int)(hl:l.length<=1000000)(hp:sE l pl)(g:∀z∈l,D z:=by intros;trivial):
  aF 231 [ptr r,F,i64 x] H fun v J=>ak (
   (pl x=none/\v= .bool false/\H=J)\/
   (∃i,pl x=some i/\v= .bool true/\dB J r S d (cT lt d x l pl i).1 (cT lt d x l pl i).2.1/\I J (n+(cT lt d x l pl i).2.2)/\aj (fun z=>S z\/T z) H J)):=by
 obtain⟨⟨sv,fp,y,a1,a2,a3,s1,s2,s3,N⟩,X⟩:=id h;have key:gN true (Value.int .i64 0) ((pl x).map i64)= .tuple [i64 ((pl x).getD 0),.bool (pl x).isSome].toArray:=by cases pl x<;>rfl
 refine aT xO ?_;refine v3 (ae a1) a3.look key ?_;cases hx:pl x with
 |none=>
  simp(disch:=(first|exact aV|fail)) only[go_sem, ↓reduceIte,Zv,Option.isSome_none];exact .inl ⟨rfl,rfl,rfl⟩
 |some i=>
  obtain⟨i0,hxi⟩:=(hp x i).1 hx;have MI:i.toNat<l.length:=Z;obtain⟨f,rfl⟩:∃f,fp=some f:=by
   cases fp with
   |none=>obtain⟨_,e,_⟩:=a2;omega
   |some f=>grind
  have Q:=a2;obtain⟨_,l1,c,rfl,P,a5,U,W⟩:=Q;have E:∀ (i:Nat) (x:Int),l[i]? =some x->l1[i]? =some (i64 x):=fun i x h=>by
   have iC:=(ajK.1 h).1;have h1:(l.map i64)[i]? =some (i64 x):=by simp[h]
   grind
  have IZ:l[l.length - 1]? =some (l.getD (l.length - 1) 0):=by
   rw[ajR,ajL O];rfl
  have Tt:=E _ _ IZ;have B:IntKind.i64.wrap ((l.length:Int) - 1)=((l.length - 1:Nat):Int):=by rw[wrap64 O O];omega
  simp(disch:=(first|exact aV|fail)) only[go_sem, ↓reduceIte,Zv,Option.isSome_some,Option.getD_some,ae a1,B,Int.toNat_natCast];refine⟨O,?_⟩;refine v5 (ae P) (ae a1) ajM Tt B ?_;refine⟨O,?_⟩;obtain⟨Oz,PV,SO⟩:=N f rfl;have Th:Value.slice (if(c:Int)=((0:Nat):Int)then some (⟨f,0,none⟩:Addr)else Option.map (fun(x:Addr)=>x.add (((0:Nat):Int).toNat*1)) (some (⟨f,0,none⟩:Addr))) (((l.length - 1:Nat):Int).toNat - ((0:Nat):Int).toNat) ((c:Int).toNat - ((0:Nat):Int).toNat)= .slice (some ⟨f,0,none⟩) (l.length - 1) c:=by
   split<;>rfl
  refine v2 (ae a1) a1 ?_;rw[Th];have j:aj (fun z=>z=r) H (H.wr r [i64 d,.slice (some ⟨f,0,none⟩) (l.length - 1) c,.map (some y)]):=(aj.refl (fun z=>z=r) _).wr (fun _=>rfl) _;have o:(H.wr r [i64 d,.slice (some ⟨f,0,none⟩) (l.length - 1) c,.map (some y)]).own r=some [i64 d,.slice (some ⟨f,0,none⟩) (l.length - 1) c,.map (some y)]:=ah a1;have V:=a3.ext j (Ne.symm s3);refine v1 (ae o) ?_;refine V.del fun H2 K t=>?_;rw[Dg]at K;have m:aj S H H2:=(j.mono Z).trans (t.mono Z);have hr:dB H2 r S d l.dropLast (lT pl x):=by
   refine⟨⟨.slice (some ⟨f,0,none⟩) (l.length - 1) c,some f,y,t.own o s3,⟨by simp,l1,c,Z,(t.own ((j.own P PV)) SO),Z,U,?_⟩,K,s1,s2,s3,N⟩,
    fun z a=>aj0 (X z a) m.size⟩
   have hx7:((l.map i64).length)=l.length:=by simp
   rw[akt,List.map_dropLast,akN,hx7,<-W,alb];congr 1;omega
  have UZ:=p.be _ _ _ _ hI m Z;refine vs ?_;have ze:l.dropLast.length=l.length - 1:=Z;refine ai.dec (fun he=>?_) (fun he=>?_)<;>refine vs ?_
  ·refine .inr ⟨i,rfl,rfl,?_,?_,m.mono Z⟩
   ·unfold cT;grind
   ·unfold cT;grind
  ·have A:l.getD (l.length - 1) 0∈l:=Z;have Oh:i.toNat≠l.length - 1:=Z;refine(pP p hr L UZ i (l.getD (l.length - 1) 0) ⟨i0,O⟩ O (g _ A) (fun z a=>g z ((alc _).subset a))).mono ?_;rintro _ H3 ⟨rfl,r3,i3,G⟩;have u:=(m.mono Z).trans G;refine vs ?_;refine ai.dec (fun RX=>?_) (fun RX=>?_)<;>refine vs ?_
   ·have hul:=tG lt d (l.getD (l.length - 1) 0) i.toNat l.dropLast (lT pl x) i;refine(Dl p r3 L i3 hf i (l.getD (l.length - 1) 0) ⟨i0,O⟩ O (g _ A) (fun z a=>by
     rcases Qw lt d _ _ _ _ _ i0 O z a with h|h
     ·grind
     ·exact g z ((alc _).subset h))).mono ?_
    rintro _ H4 ⟨r4,i4,M⟩;refine vs ?_;refine .inr ⟨i,rfl,rfl,?_,?_,u.trans M⟩
    ·unfold cT;grind
    ·unfold cT;grind
   ·refine .inr ⟨i,rfl,rfl,?_,?_,u⟩
    ·unfold cT;grind
    ·unfold cT;grind
structure bL(lt:Int->Int->Bool)(d:Int)(l:List Int)(pl:Int->Option Int):Prop where
 heap:eo lt d l
 pl:sE l pl
theorem bL.nil(lt:Int->Int->Bool)(d:Int):bL lt d [] (fun _=>none):=
 ⟨fun j _ h=>by simp at h,fun z k=>by simp⟩
theorem bL.congr{lt lt':Int->Int->Bool}(m:cX d){pl:Int->Option Int}(h:bL lt d l pl)(v:∀z∈l,∀y∈l,lt z y=lt' z y):bL lt' d l pl:=by
 refine⟨fun j x a=>?_,h.pl⟩;have g:=di m x;have e:∀k,k<l.length->l.getD k 0∈l:=Z;rw[<-v _ (e j a) _ Z];exact h.heap j x a
theorem bL.add{lt:Int->Int->Bool}(f:bC lt)(e:cX d){pl:Int->Option Int}(h:bL lt d l pl)(K:pl x=none):
  bL lt d (fG lt d x l.length (l++[x]) pl l.length).l (fG lt d x l.length (l++[x]) pl l.length).pl/\
   (∀z,z∈(fG lt d x l.length (l++[x]) pl l.length).l↔z=x\/z∈l)/\(fG lt d x l.length (l++[x]) pl l.length).l.length=l.length+1/\
   (fG lt d x l.length (l++[x]) pl l.length).asked<=ix d l.length:=by
 have L:=e.1;have t:∀k,k<l.length->(l++[x]).getD k 0=l.getD k 0:=Z;have y:∀j:Nat,1<=j->j<l.length+1->pa d j≠l.length:=fun j a v=>by have:=di e a;omega
 have o:Nn (l++[x]) pl l.length x:=by
  intro z N k;rw[h.pl z k];constructor
  ·grind
  ·grind
 have F:x∉l:=fun hm=>by
  obtain⟨k,p⟩:=aj5 hm;have:=(h.pl x k).2 Z;grind
 have u:∀z,Gc (l++[x]) l.length z↔z∈l:=by
  intro z;constructor
  ·rintro⟨k,Q,U⟩;grind
  ·intro hm;obtain⟨k,p⟩:=aj5 hm;have:=(ajK.1 p).1;exact⟨k,O,Z⟩
 obtain⟨B,P⟩:=zT (lt:=lt) (d:=d) x l.length (l++[x]) pl l.length (by simp) O Z o Z;refine⟨⟨Hf f e x _ _ _ _ (by simp) O Z ⟨fun j a v m g=>?_,fun j a v m g=>?_⟩ (fun j a v m=>?_),B⟩,fun z=>by rw[P z,u z],by rw[tG];simp,?_⟩
 ·simp only[Int.toNat_natCast]at m g;have:j<l.length:=by simp at v;omega
  have A:=di e a;rw[t j this,t _ O];exact h.heap j a this
 ·simp only[Int.toNat_natCast]at m;exact absurd m (y j a (by simpa using v))
 ·simp only[Int.toNat_natCast]at m;exact absurd m (y j a (by simpa using v))
 ·have:=Dm lt d x l.length (l++[x]) pl l.length;unfold ix;grind
theorem bL.Tu{lt:Int->Int->Bool}(v:bC lt)(m:cX d){pl:Int->Option Int}(h:bL lt d l pl)(y:pl x=some i):
  bL lt d (cT lt d x l pl i).1 (cT lt d x l pl i).2.1/\(cT lt d x l pl i).1.length=l.length - 1/\
   (∀z,z∈(cT lt d x l pl i).1↔z∈l/\z≠x)/\((cT lt d x l pl i).2.2:Int)<=d*(ix d ((l.length:Int) - 1):Nat)+1:=by
 obtain⟨a,b,c,e,g⟩:=Ja v m h.heap h.pl y;exact⟨⟨a,b⟩,c,e,g⟩
theorem bL.mem{lt:Int->Int->Bool}{pl:Int->Option Int}(h:bL lt d l pl)(z:Int):z∈l↔pl z≠none:=by
 constructor
 ·intro hm;obtain⟨k,x⟩:=aj5 hm;rw[(h.pl z k).2 Z];simp
 ·intro a;obtain⟨k,x⟩:=Option.ne_none_iff_exists'.1 a;exact ajV ((h.pl z k).1 x).2
theorem bL.least{lt:Int->Int->Bool}(a:bC lt)(m:cX d){pl:Int->Option Int}(h:bL lt d l pl)(t:l[0]? =some x):∀z∈l,z≠x->lt x z=true:=by
 intro z g y;obtain⟨k,v⟩:=aj5 g;have e:=(ajK.1 v).1;have:=Dn a m h.heap k k (ajU _) e;cases a;grind
theorem bL.raise{lt lt':Int->Int->Bool}(Q:bC lt)(U:bC lt')(g:cX d){pl:Int->Option Int}(h:bL lt d l pl)(W:pl x=some i)(A:∀a∈l,∀b∈l,a≠x->b≠x->lt' a b=lt a b)(N:∀z∈l,z≠x->lt z x=false->lt' z x=false):
  bL lt' d (fG lt' d x i.toNat l pl i).l (fG lt' d x i.toNat l pl i).pl/\(∀z,z∈(fG lt' d x i.toNat l pl i).l↔z∈l)/\(fG lt' d x i.toNat l pl i).l.length=l.length/\
   (fG lt' d x i.toNat l pl i).asked<=ix d ((l.length:Int) - 1):=by
 obtain⟨i0,hi⟩:=(h.pl x i).1 W;have D:i.toNat<l.length:=(ajK.1 hi).1;have p:∀j,j<l.length->j≠i.toNat->l.getD j 0≠x:=fun j f B e=>by
  have:l[j]? =some x:=by rw[ajL f,<-e,ajR,ajL f];rfl
  exact B (h.pl.zS this hi)
 have o:∀j,j<l.length->l.getD j 0∈l:=fun j f=>by rw[ajR,ajL f];exact List.getElem_mem f
 have L:=h.heap.but Q g i.toNat;have F:¬Gc l i x:=by
  rintro⟨k,E,P⟩;have:=h.pl.zS P hi;omega
 obtain⟨I,V⟩:=zT (lt:=lt') (d:=d) x i.toNat l pl i (ajU _) i0 O (h.pl.aag hi i0) F;refine⟨⟨Hf U g x _ _ _ _ (ajU _) i0 O ⟨fun j v m y t=>?_,fun j v m y t=>?_⟩ (fun j v m y=>?_),I⟩,fun z=>?_,tG _ _ _ _ _ _ _,?_⟩
 ·have:=di g v;rw[A _ (o j m) _ (o _ O) (p j m y) (p _ O t)];exact L.1 j v m y t
 ·have:=di g v;have:=di g t;rw[A _ (o j m) _ (o _ O) (p j m O) (p _ O O)];exact L.2 j v m y t
 ·have M:=di g v;have B:=p j m O;have:=h.heap j v m;rw[y,show l.getD i.toNat 0=x by rw[ajR,hi];rfl]at this;exact N _ (o j m) B this
 ·rw[V z];constructor
  ·rintro(rfl| ⟨k,_,P⟩)
   ·exact ajV hi
   ·exact ajV P
  ·intro hm;obtain⟨k,u⟩:=aj5 hm;by_cases e:(k:Int)=i
   ·rw[show k=i.toNat by omega,hi]at u;injection u with u;exact .inl u.symm
   ·exact .inr ⟨k,e,u⟩
 ·have G:=Dm lt' d x i.toNat l pl i;have K:=j1 g ((l.length:Int) - 1).toNat i ((l.length:Int) - 1) (ajU _) O;unfold ix at K ⊢;omega
end
end Go.Proofs.YtjkkkibiegfecaaGreatDoor
