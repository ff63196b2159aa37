/- Texts put behind each other. -/
import Derived.Test.YtnanofhkpglbaaaGreatDoorK42
import Derived.Test.YtnanofhkpglbaaaGreatDoorK46
set_option linter.unusedSimpArgs false
set_option linter.unusedVariables false
set_option maxRecDepth 100000
set_option maxHeartbeats 80000000
namespace Go.Proofs.YtnanofhkpglbaaaGreatDoor
open Go Go.Vc
section
variable{H:Hp}{x:Int}{g:Nat}
structure FW(r:Rp):Prop where
 c0: -9223372036854775808<=r.c
 c1:r.c<=9223372036854775807
 h0: -9223372036854775808<=r.h
 h1:r.h<=9223372036854775807
 s0: -9223372036854775808<=r.s
 s1:r.s<=9223372036854775807
 g1:r.g<4294967296
 k0: -9223372036854775808<=r.k
 k1:r.k<=9223372036854775807
 n0: -9223372036854775808<=r.n
 n1:r.n<=9223372036854775807
def fK(s:Int)(g:Nat):List UInt8:=[104,97,110,100,108,101,32]++Lib.itoa s++[46]++Lib.itoa g
def R5(k:Int):List UInt8:=[107,101,121,32]++Lib.itoa k
def eW(op:Int)(r:Rp):List UInt8:=
 if r.c≠0 then[101,114,114,111,114,32]++Lib.itoa r.c
 else if op=1\/op=10 then[104,101,97,112,32]++Lib.itoa r.h
 else if op=2 then fK r.s r.g
 else if op=3\/op=4 then fK r.s r.g++[32]++R5 r.k
 else if op=6\/op=9 then R5 r.k
 else if op=8 then[108,101,110,32]++Lib.itoa r.n
 else if op=5\/op=7 then[111,107]
 else[]
theorem kG(e:D5 H)(a: -9223372036854775808<=x)(m:x<=9223372036854775807)(d:g<4294967296):aD 66 [dZ x g] H fun v J=>ak (v=aA (fK x g)/\af H J):=by
 refine aL Hb ?_;refine vs ?_;have w:af H (H.new 52 [i64 x,.int .u32 (g:Int)]):=bm;have b0:(H.new 52 [i64 x,.int .u32 (g:Int)]).own H.size=some [i64 x,.int .u32 (g:Int)]:=am _ _ _;generalize H.new 52 [i64 x,.int .u32 (g:Int)]=H0 at*;refine di.intro (fun J=>J.own H.size=some [i64 x,.int .u32 (g:Int)]) b0 ?_;refine vs ?_;refine bG.intro (.int .u32 (g:Int)) (fun J y=>?_) ?_
 ·refine v1 (ae y) ?_;grind
 refine v1 (ae b0) ?_;rw[wrap64 O O];have p:=bU a m;have lb:=bU (n:=(g:Int)) O O;refine⟨b0,?_⟩;refine vs ?_;refine(bi (e.fresh w) a m).mono ?_;rintro _ r ⟨rfl,z⟩;refine⟨z.own b0 (fun h=>h),?_⟩;refine vs ?_;rw[bI [104,97,110,100,108,101,32] _ (by simp only[alk,alP];omega)];refine vs ?_;rw[bI ([104,97,110,100,108,101,32]++Lib.itoa x) [46] (by simp only[alm,alk,alP];omega)];refine vs ?_;refine(bi ((e.fresh w).fresh z) (n:=(g:Int)) O O).mono ?_;rintro _ j ⟨rfl,l⟩;refine⟨l.own (z.own b0 (fun h=>h)) (fun h=>h),?_⟩;refine vs ?_;rw[bI ([104,97,110,100,108,101,32]++Lib.itoa x++[46]) (Lib.itoa g) (by simp only[alm,alk,alP];omega)];refine vs ?_;exact⟨rfl,(w.trans z).trans l⟩
theorem sX(h: -9223372036854775808<=x)(z:x<=9223372036854775807)(w:g<4294967296):(fK x g).length<=60:=by
 have l:=bU h z;have lb:=bU (n:=(g:Int)) O O;unfold fK;simp only[alm,alk,alP];omega
theorem El(h: -9223372036854775808<=x)(z:x<=9223372036854775807):(R5 x).length<=30:=by
 have w:=bU h z;unfold R5;grind
theorem sY(Q:D5 H)(op:Int){r:Rp}(N:FW r):aD 21 [i64 op,PW r] H fun v J=>ak (v=aA (eW op r)/\af H J):=by
 obtain⟨A,T,q,f,e,g,y,u,B,C,K⟩:=N;refine aL I1 ?_;refine vs ?_;have j:af H (H.new 54 (HT r)):=bm;have b0:(H.new 54 (HT r)).own H.size=some (HT r):=am _ _ _;generalize H.new 54 (HT r)=H0 at*;have p:=Q.fresh j;have X:=bU A T;have lh:=bU q f;have lk:=El u B;have lk':=bU u B;have ln:=bU C K;have lx:=sX e g y;unfold eW;refine ai.dec (fun d=>?_) (fun d=>?_)<;>refine v1 (ae b0) ?_
 ·rw[if_neg (fun h=>h d)];refine(bi p u B).mono ?_;rintro _ F ⟨rfl,m⟩;have w:=m.own b0 (fun h=>h);have l:=p.fresh m;have x:=j.trans m;refine vs ?_;rw[bI [107,101,121,32] _ Z];refine vs ?_;rcases(show op=1\/op=2\/op=3\/op=4\/op=5\/op=6\/op=7\/op=8\/op=9\/op=10\/(op≠1/\op≠2/\op≠3/\op≠4/\op≠5/\op≠6/\op≠7/\op≠8/\op≠9/\op≠10) by omega)with rfl|rfl|rfl|rfl|rfl|rfl|rfl|rfl|rfl|rfl| ⟨U,P,I,V,G,D,M,L,E,W⟩
  ·simp(disch:=(first|exact aV|fail)) only[go_sem, ↓reduceIte,Zv,alr,decide_false,Int.reduceEq,ae w];refine(bi l q f).mono ?_;rintro _ a ⟨rfl,z⟩;refine vs ?_;rw[bI [104,101,97,112,32] _ Z];refine vs ?_;exact⟨rfl,x.trans z⟩
  ·simp(disch:=(first|exact aV|fail)) only[go_sem, ↓reduceIte,Zv,alr,decide_false,Int.reduceEq,ae w];refine(kG l e g y).mono ?_;rintro _ a ⟨rfl,z⟩;refine vs ?_;exact⟨rfl,x.trans z⟩
  ·simp(disch:=(first|exact aV|fail)) only[go_sem, ↓reduceIte,Zv,alr,decide_false,Int.reduceEq,ae w];refine(kG l e g y).mono ?_;rintro _ a ⟨rfl,z⟩;refine vs ?_;rw[bI (fK r.s r.g) [32] Z];refine vs ?_;rw[bI (fK r.s r.g++[32]) ([107,101,121,32]++Lib.itoa r.k) Z];refine vs ?_;exact⟨rfl,x.trans z⟩
  ·simp(disch:=(first|exact aV|fail)) only[go_sem, ↓reduceIte,Zv,alr,decide_false,Int.reduceEq,ae w];refine(kG l e g y).mono ?_;rintro _ a ⟨rfl,z⟩;refine vs ?_;rw[bI (fK r.s r.g) [32] Z];refine vs ?_;rw[bI (fK r.s r.g++[32]) ([107,101,121,32]++Lib.itoa r.k) Z];refine vs ?_;exact⟨rfl,x.trans z⟩
  ·simp(disch:=(first|exact aV|fail)) only[go_sem, ↓reduceIte,Zv,alr,decide_false,Int.reduceEq];exact⟨rfl,x⟩
  ·simp(disch:=(first|exact aV|fail)) only[go_sem, ↓reduceIte,Zv,alr,decide_false,Int.reduceEq];exact⟨rfl,x⟩
  ·simp(disch:=(first|exact aV|fail)) only[go_sem, ↓reduceIte,Zv,alr,decide_false,Int.reduceEq];exact⟨rfl,x⟩
  ·simp(disch:=(first|exact aV|fail)) only[go_sem, ↓reduceIte,Zv,alr,decide_false,Int.reduceEq,ae w];refine(bi l C K).mono ?_;rintro _ a ⟨rfl,z⟩;refine vs ?_;rw[bI [108,101,110,32] _ Z];refine vs ?_;exact⟨rfl,x.trans z⟩
  ·simp(disch:=(first|exact aV|fail)) only[go_sem, ↓reduceIte,Zv,alr,decide_false,Int.reduceEq];exact⟨rfl,x⟩
  ·simp(disch:=(first|exact aV|fail)) only[go_sem, ↓reduceIte,Zv,alr,decide_false,Int.reduceEq,ae w];refine(bi l q f).mono ?_;rintro _ a ⟨rfl,z⟩;refine vs ?_;rw[bI [104,101,97,112,32] _ Z];refine vs ?_;exact⟨rfl,x.trans z⟩
  ·refine Z5 (alc U) (alc P) (alc I) (alc V) (alc G) (alc D) (alc M) (alc L) (alc E) (alc W) ?_;rw[if_neg O,if_neg P,if_neg O,if_neg O,if_neg L,if_neg O];exact⟨rfl,x⟩
 ·rw[if_pos d];refine(bi p A T).mono ?_;rintro _ F ⟨rfl,m⟩;refine vs ?_;rw[bI [101,114,114,111,114,32] _ Z];refine vs ?_;exact⟨rfl,j.trans m⟩
theorem cN(H:Hp){n:Int}(h: -9223372036854775808<=n)(z:n<=9223372036854775807):aD 11 [i64 n] H fun v J=>ak (v=aA (Lib.itoa n)/\af H J):=by
 refine aL CJ ?_;refine vs ?_;refine(mG H h z).mono ?_;rintro _ w ⟨rfl,x⟩;refine vs ?_;exact⟨rfl,x⟩
theorem B3(op:Int){r:Rp}(G:FW r):aD 15 [i64 op,PW r] H fun v J=>ak (v=aA (eW op r)/\af H J):=by
 obtain⟨F,U,g,y,j,d,q7,p,q,N,Q⟩:=G;refine aL G5 ?_;refine vs ?_;have L:af H (H.new 54 (HT r)):=bm;have b0:(H.new 54 (HT r)).own H.size=some (HT r):=am _ _ _;generalize H.new 54 (HT r)=H0 at*;have lc:=bU F U;have lh:=bU g y;have lk:=El p q;have lk':=bU p q;have ln:=bU N Q;have lx:=sX j d q7;have ls:=bU j d;have lg:=cF (u:=r.g) O;unfold eW;refine ai.dec (fun e=>?_) (fun e=>?_)<;>refine v1 (ae b0) ?_
 ·rw[if_neg (fun h=>h e)];refine di.intro (fun J=>J.own H.size=some (HT r)) b0 ?_;refine vs ?_;refine bG.intro (.int .u32 (r.g:Int)) (fun J V=>?_) ?_
  ·refine v1 (ae V) ?_;grind
  refine v1 (ae b0) ?_;rw[eG O O];refine⟨b0,?_⟩;refine vs ?_;refine(cN H0 j d).mono ?_;rintro _ f ⟨rfl,w⟩;have P:=w.own b0 (fun h=>h);refine⟨P,?_⟩;refine vs ?_;rw[bI [104,97,110,100,108,101,32] _ Z];refine vs ?_;rw[bI ([104,97,110,100,108,101,32]++Lib.itoa r.s) [46] Z];refine vs ?_;refine(eJ f (u:=r.g) O).mono ?_;rintro _ W ⟨rfl,A⟩;have a:=A.own P (fun h=>h);refine⟨a,?_⟩;refine vs ?_;rw[bI ([104,97,110,100,108,101,32]++Lib.itoa r.s++[46]) (Lib.decDigits r.g) Z];refine v1 (ae a) ?_;refine(mG W p q).mono ?_;rintro _ l ⟨rfl,C⟩;have m:=C.own a (fun h=>h);refine vs ?_;rw[bI [107,101,121,32] _ Z];refine vs ?_;have x:=((L.trans w).trans A).trans C;have I: [104,97,110,100,108,101,32]++Lib.itoa r.s++[46]++Lib.decDigits r.g=fK r.s r.g:=rfl;rw[I];rcases(show op=1\/op=2\/op=3\/op=4\/op=5\/op=6\/op=7\/op=8\/op=9\/op=10\/(op≠1/\op≠2/\op≠3/\op≠4/\op≠5/\op≠6/\op≠7/\op≠8/\op≠9/\op≠10) by omega)with rfl|rfl|rfl|rfl|rfl|rfl|rfl|rfl|rfl|rfl| ⟨D,K,E,X,o5,o6,o7,T,o9,M⟩
  ·simp(disch:=(first|exact aV|fail)) only[go_sem, ↓reduceIte,Zv,alr,decide_false,Int.reduceEq,ae m];refine(cN l g y).mono ?_;rintro _ B ⟨rfl,z⟩;refine vs ?_;rw[bI [104,101,97,112,32] _ Z];refine vs ?_;exact⟨rfl,x.trans z⟩
  ·simp(disch:=(first|exact aV|fail)) only[go_sem, ↓reduceIte,Zv,alr,decide_false,Int.reduceEq];exact⟨rfl,x⟩
  ·simp(disch:=(first|exact aV|fail)) only[go_sem, ↓reduceIte,Zv,alr,decide_false,Int.reduceEq];rw[bI (fK r.s r.g) [32] Z];refine vs ?_;rw[bI (fK r.s r.g++[32]) ([107,101,121,32]++Lib.itoa r.k) Z];refine vs ?_;exact⟨rfl,x⟩
  ·simp(disch:=(first|exact aV|fail)) only[go_sem, ↓reduceIte,Zv,alr,decide_false,Int.reduceEq];rw[bI (fK r.s r.g) [32] Z];refine vs ?_;rw[bI (fK r.s r.g++[32]) ([107,101,121,32]++Lib.itoa r.k) Z];refine vs ?_;exact⟨rfl,x⟩
  ·simp(disch:=(first|exact aV|fail)) only[go_sem, ↓reduceIte,Zv,alr,decide_false,Int.reduceEq];exact⟨rfl,x⟩
  ·simp(disch:=(first|exact aV|fail)) only[go_sem, ↓reduceIte,Zv,alr,decide_false,Int.reduceEq];exact⟨rfl,x⟩
  ·simp(disch:=(first|exact aV|fail)) only[go_sem, ↓reduceIte,Zv,alr,decide_false,Int.reduceEq];exact⟨rfl,x⟩
  ·simp(disch:=(first|exact aV|fail)) only[go_sem, ↓reduceIte,Zv,alr,decide_false,Int.reduceEq,ae m];refine(cN l N Q).mono ?_;rintro _ B ⟨rfl,z⟩;refine vs ?_;rw[bI [108,101,110,32] _ Z];refine vs ?_;exact⟨rfl,x.trans z⟩
  ·simp(disch:=(first|exact aV|fail)) only[go_sem, ↓reduceIte,Zv,alr,decide_false,Int.reduceEq];exact⟨rfl,x⟩
  ·simp(disch:=(first|exact aV|fail)) only[go_sem, ↓reduceIte,Zv,alr,decide_false,Int.reduceEq,ae m];refine(cN l g y).mono ?_;rintro _ B ⟨rfl,z⟩;refine vs ?_;rw[bI [104,101,97,112,32] _ Z];refine vs ?_;exact⟨rfl,x.trans z⟩
  ·refine Z5 (alc D) (alc K) (alc E) (alc X) (alc o5) (alc o6) (alc o7) (alc T) (alc o9) (alc M) ?_;rw[if_neg O,if_neg K,if_neg O,if_neg O,if_neg T,if_neg O];exact⟨rfl,x⟩
 ·rw[if_pos e];refine(cN H0 F U).mono ?_;rintro _ f ⟨rfl,w⟩;refine vs ?_;rw[bI [101,114,114,111,114,32] _ Z];refine vs ?_;exact⟨rfl,L.trans w⟩
def LM(c:Ce):Prop:=(-9223372036854775808<=c.2.1/\c.2.1<=9223372036854775807)/\0<=c.1/\c.1<=4294967296
def Rg(t:jg):Prop:=∀c∈t.w.cs,LM c
variable {t : jg} {n : Nat}
theorem Ie(h:Rg t)(x:Int){c:Ce}(l:LM c)(A:Ar)(q:Int):Rg ⟨t.w.put x c,A,q⟩:=fun y w=>by
 rcases al8 w with z|rfl
 ·exact h y z
 omega
theorem ce0:LM (0,0,0):=by unfold LM;simp
theorem LN(h:Rg t)(x:Int): -9223372036854775808<=t.w.key x/\t.w.key x<=9223372036854775807:=by
 unfold Nw.key;rw[alf];cases z:t.w.cs[x.toNat]? with
 |none=>simp
 |some c=>exact(h c Z).1
theorem Te(h:Rg t)(x:Int):0<=aH t.w x/\aH t.w x<=4294967296:=by
 unfold aH;split
 ·rw[alf];cases z:t.w.cs[x.toNat]? with
  |none=>simp
  |some c=>exact(h c Z).2
 ·omega
theorem YS(h:Rg t)(op:Nat){a b:Nat}{k:Int}(l:gN a b k):Rg (RU t op a b k).1:=by
 obtain⟨v,e,g,y⟩:=l;unfold RU;split
 ·unfold DX;split<;>exact h
 ·unfold FE;split
  ·exact h
  ·cases m:t.A.pick with
   |none=>exact h
   |some r=>exact Ie h _ (by unfold LM;grind) _ _
 ·exact h
 ·unfold yE;dsimp only;split
  ·exact Ie h _ ce0 _ _
  omega
 ·unfold FF;split
  ·exact h
  ·split
   ·exact h
   ·have:=Te h a;exact Ie h _ (by unfold LM;grind) _ _
 ·unfold FG;split
  ·exact h
  ·exact Ie h _ ce0 _ _
 ·unfold FH;split
  ·exact h
  ·split
   ·exact h
   ·intro c w;obtain⟨c',x,rfl⟩:=alQ.1 w;have z:=h c' x;unfold LM at z ⊢;grind
 all_goals exact h
theorem dE(c:Int)(h:0<=c/\c<=1000):FW (er c):=by constructor<;>grind [er]
theorem Qp(h:Rg t)(z:Bd t n)(j:n<=100000)(a:Ci t.w t.A)(r:t.A.g.length<=65536)(g:Int):FW (eA t g):=by
 unfold eA;split
 ·exact dE _ O
 ·cases l:t.w.y7 g with
  |none=>exact dE _ O
  |some x=>
   obtain⟨e,y,_⟩:=bh.1 (D1 l);obtain⟨d,p,_⟩:=aI (w:=t.w) (x:=x) O;have:=a.len;have m:=LN h x;have v:=z.g x;constructor<;>dsimp only<;>omega
theorem YT(h:Rg t)(w:Bd t n)(e:n<=100000)(m:Ci t.w t.A)(ok:oF t.A)(v:t.A.g.length<=65536)(op a b:Nat)(k:Int):FW (RU t op a b k).2:=by
 have d:=m.len;have j:=w.h1;unfold RU;split
 ·unfold DX;split
  ·exact dE _ O
  ·constructor<;>dsimp only<;>omega
 ·unfold FE;split
  ·exact dE _ O
  ·cases g:t.A.pick with
   |none=>exact dE _ O
   |some y=>
    obtain⟨x,A'⟩:=y;have z:=(Ar.oG g ok).1;have r:=w.g x;constructor<;>dsimp only<;>omega
 ·exact Qp h w e m v _
 ·exact Qp h w e m v _
 ·unfold FF;split
  ·exact dE _ O
  ·split<;>exact dE _ O
 ·unfold FG;split
  ·exact dE _ O
  ·have z:=LN h a;constructor<;>dsimp only<;>omega
 ·unfold FH;split
  ·exact dE _ O
  ·split<;>exact dE _ O
 ·show FW (JS t a);unfold JS;split
  ·exact dE _ O
  ·have z:0<=t.w.len a/\t.w.len a<=65536:=by
    unfold Nw.len;have:=amq (p:=fun c:Ce=>decide (c.1=(a:Int))) (l:=t.w.cs);split<;>omega
   constructor<;>dsimp only<;>omega
 ·show FW (JT t a b);unfold JT;split
  ·exact dE _ O
  ·have z:=LN h a;constructor<;>dsimp only<;>omega
 ·show FW (JU t a b);unfold JU;split
  ·exact dE _ O
  ·have z:=Te h a;constructor<;>dsimp only<;>omega
 ·exact dE _ O
theorem rg0(cap:Int)(mo:Nat):Rg ⟨iU cap,sM cap mo,0⟩:=fun c x=>by
 have:c=(0,0,0):=List.eq_of_mem_replicate x;rw[this];exact ce0
end
end Go.Proofs.YtnanofhkpglbaaaGreatDoor
namespace Go.Proofs.YtnanofhkpglbaaaGreatDoor
open Go Go.Vc Go.Lib
section
variable{H:Hp}
theorem qA(a:kY H)(l:List UInt8)(m:l.length<=1000000):aD 61 [aA l] H fun v J=>ak (af H J/\∃b,v= .tuple [i64 (wM l),.bool b].toArray):=by
 refine(mH a l m).mono ?_;rintro v J ⟨f,⟨n,x,z,w,rfl⟩| ⟨h,rfl⟩⟩
 ·exact⟨f,true,by rw[w,Em x z]⟩
 ·exact⟨f,false,by rw[Qq h]⟩
theorem jb(h:kY H)(l:List UInt8)(z:l.length<=1000000):aD 60 [aA l] H fun v J=>ak (v=u32 (mh l)/\af H J):=by
 refine aL CS ?_;refine vs ?_;refine(qA h l z).mono ?_;rintro v w ⟨x,b,rfl⟩;refine vs ?_;obtain⟨a,m⟩:=Qm l;refine⟨?_,x⟩;unfold mh;have e:(if(4294967295:Int)< (if(0:Int)>wM l then 0 else wM l)then(4294967295:Int)else if(0:Int)>wM l then 0 else wM l)=(((min (max (wM l) 0) 4294967295).toNat:Nat):Int):=by
  omega
 rw[e,Cf O O];rfl
theorem R6(ws:List (List UInt8))(h:ws≠[]):ws[ws.length - 1]? =some (qB ws):=by
 unfold qB;rw[<-List.getLast?_eq_getElem?,alY];cases z:ws.getLast? with
 |none=>simp_all
 |some x=>rfl
def R7(s:List UInt8)(v:Value):Prop:=(∃ (op a b:Nat) (k:Int),dI op a b k/\s=jq op a b k/\v= .tuple [iw op a b k,i64 0].toArray)\/
 ((∀ (op a b:Nat) (k:Int),dI op a b k->s≠jq op a b k)/\v= .tuple [iw 0 0 0 0,i64 181].toArray)
theorem yT(he:kY H)(l:List UInt8)(hl:l.length<=1000000):aD 19 [aA l] H fun v J=>ak (R7 l v/\af H J):=by
 refine Rh CK ⟨rfl,?_⟩;have f0:af H (H.new 47 [i64 0,u32 0,u32 0,i64 0]):=bm;have b0:=am H 47 [i64 0,u32 0,u32 0,i64 0];refine v1 rD.eq_1 ?_;generalize H.new 47 [i64 0,u32 0,u32 0,i64 0]=H0 at*;refine(hM (he.fresh f0) 32 l hl).mono ?_;rintro _ _ ⟨rfl,rfl⟩;obtain⟨lp1,lp2⟩:=tE 32 _ l (alj _);have ny:=zV 32 l;have pG:=List.length_pos_iff.2 ny;have Jt:=R6 _ ny;have Tf:=lV 32 l;generalize Wn:pieces 32 l=ws at*;have f1:af H0 (H0.new 9 (ws.map aA)):=bm;have w1:=am H0 9 (ws.map aA);have b1:=f1.own b0 (fun h=>h);have hz0:(H0.new 9 (ws.map aA)).size=H0.size+1:=by rw[ag]
 generalize H0.new 9 (ws.map aA)=g at*;refine vs ?_;rw[wrap64 (n:=(ws.length:Int) - 1) O O];refine⟨⟨O,O⟩,?_⟩;have adg:((ws.length:Int) - 1).toNat=ws.length - 1:=O;have UU:(ws.map aA)[ws.length - 1]? =some (aA (qB ws)):=by rw[alz,Jt];rfl
 refine v5 (ae w1) adg ala ak7 UU ?_;refine(eo g).mono ?_;rintro _ _ ⟨rfl,rfl⟩;have M:af g (g.new 117 bM):=bm;have p2:=am g 117 bM;have w2:=M.own w1 (fun h=>h);have b2:=M.own b1 (fun h=>h);have QK:(g.new 117 bM).size=g.size+1:=by rw[ag]
 generalize g.new 117 bM=H2 at*;have D:kY H2:=((he.fresh f0).fresh f1).fresh M;have YH:af H H2:=f0.trans (f1.trans M);refine vs ?_;refine ba.intro (fun m env J=>af H2 J/\∃j:Nat,m=11 - j/\j<=11/\(∀op a b k,op<j->dI op a b k->l≠jq op a b k)/\env=[(0,aA l),(2,ptr H.size),(4,.slice (some ⟨H0.size,0,none⟩) ws.length ws.length),(5,aA (qB ws)),(20,.slice (some ⟨g.size,0,none⟩) 11 11),(21,i64 11),(22,i64 j)]) 11 ⟨aj.refl _ _,0,O,O,O,rfl⟩ ?_;rintro m env K ⟨L,j,hm,hj,kV,rfl⟩;have p3:=L.own p2 (fun h=>h);have w3:=L.own w2 (fun h=>h);have b3:=L.own b2 (fun h=>h);have eh3:=D.fresh L;refine vs ?_;refine ai.dec (fun h11=>?_) (fun h11=>?_)<;>refine vs ?_
 ·have Sa:j<=10:=O;refine ez (fun e J=>e.find 0=some (aA l)/\e.find 2=some (ptr H.size)/\e.find 4=some (.slice (some ⟨H0.size,0,none⟩) ws.length ws.length)/\e.find 5=some (aA (qB ws))/\e.find 20=some (.slice (some ⟨g.size,0,none⟩) 11 11)/\e.find 21=some (i64 11)/\e.find 22=some (i64 j)/\af H2 J/\(∀a b k,dI j a b k->l≠jq j a b k)) ?_ ?_
  ·refine vs ?_;refine⟨O,?_⟩;refine v4 (ae p3) Int.toNat_natCast ak7 (fJ Sa) ?_;refine⟨by rw[me];omega,?_⟩;have q7:=am K 117 [.string ⟨#[]⟩,i64 0,.bool false,.bool false];have o7:=ah (l:=[aA (bV j),i64 (cE j),.bool (bv j),.bool (keyOf j)]) q7;have T:af K ((K.new 117 [.string ⟨#[]⟩,i64 0,.bool false,.bool false]).wr K.size [aA (bV j),i64 (cE j),.bool (bv j),.bool (keyOf j)]):=bm.wr O _;refine v1 (fJ Sa) ?_;generalize (K.new 117 [.string ⟨#[]⟩,i64 0,.bool false,.bool false]).wr K.size [aA (bV j),i64 (cE j),.bool (bv j),.bool (keyOf j)]=H4 at*;have w4:=T.own w3 (fun h=>h);have eh4:=eh3.fresh T;obtain⟨w0,wr,hw0⟩:∃w0 wr,ws=w0::wr:=by
    cases ws with
    |nil=>grind
    |cons x r=>grind
   have adi:(ws.map aA)[0]? =some (aA w0):=by rw[hw0];rfl
   refine v1 (ae o7) ?_;refine⟨⟨O,O⟩,?_⟩;refine v6 (ae w4) Int.toNat_zero aly ak7 adi iK ?_;have UV:∀a b k,dI j a b k->l=jq j a b k->ws=dL j a b k:=fun a b k h e=>by rw[<-Wn,e];exact mM h.le
   refine ai.dec (fun hw=>?_) (fun hw=>?_)<;>refine vs ?_;rotate_left
   ·refine⟨trivial,trivial,trivial,trivial,trivial,trivial,trivial,L.trans T,fun a b k h e=>hw ?_⟩;have h5:=UV a b k h e;rw[hw0]at h5;injection h5 with h5;grind
   have q8:=am H4 47 [i64 0,u32 0,u32 0,i64 0];have o8:=ah (l:=[i64 j,u32 0,u32 0,i64 0]) q8;have E:af H4 ((H4.new 47 [i64 0,u32 0,u32 0,i64 0]).wr H4.size [i64 j,u32 0,u32 0,i64 0]):=bm.wr O _;have g7:=E.own o7 (fun h=>h);have f45:=L.trans (T.trans E);have hx8:H2.size<=H4.size:=(L.trans T).size;have hx7:K.size<H4.size:=aB o7;have aix:=L.size;have hl8:=aB o8;generalize (H4.new 47 [i64 0,u32 0,u32 0,i64 0]).wr H4.size [i64 j,u32 0,u32 0,i64 0]=H5 at*;generalize hp7:K.size=p7 at*;generalize hp8:H4.size=F at*;have X:∀ {A:Hp} (l:List Value),af H2 A->af H2 (A.wr F l):=fun l h=>h.wr O l;have wl:∀w∈ws,w.length<=1000000:=Z;refine ez (fun e J=>e.find 0=some (aA l)/\e.find 2=some (ptr H.size)/\e.find 4=some (.slice (some ⟨H0.size,0,none⟩) ws.length ws.length)/\e.find 5=some (aA (qB ws))/\e.find 7=some (ptr p7)/\e.find 8=some (ptr F)/\e.find 20=some (.slice (some ⟨g.size,0,none⟩) 11 11)/\e.find 21=some (i64 11)/\e.find 22=some (i64 j)/\af H2 J/\
    J.own p7=some [aA (bV j),i64 (cE j),.bool (bv j),.bool (keyOf j)]/\J.own F=some [i64 j,u32 (yQ ws),u32 ((if 1<ws.length then mh (Lib.cut (ws.getD 1 []) [46]).2.1 else 0:Nat):Int),i64 0]) ?_ ?_
   ·refine vs ?_;refine ai.dec (fun h1=>?_) (fun h1=>?_)<;>refine vs ?_
    ·have w5:=(T.trans E).own w3 (fun h=>h);obtain⟨YU,hw1⟩:∃x,ws[1]? =some x:=Z;have adk:(ws.map aA)[1]? =some (aA YU):=by rw[alz,hw1];rfl
     have hgd:ws.getD 1 []=YU:=by rw[alf,hw1];rfl
     have V5:=wl YU (ali hw1);have No:=Qh 46 YU;refine⟨⟨O,O⟩,?_⟩;refine v5 (ae w5) Int.toNat_one amH ak7 adk ?_;have eh5:=eh4.fresh E;refine(yL eh5 46 YU V5).mono ?_;rintro _ H6 ⟨rfl,N⟩;refine vs ?_;refine(jb (eh5.fresh N) _ O).mono ?_;rintro _ H7 ⟨rfl,C⟩;refine vs ?_;refine(jb ((eh5.fresh N).fresh C) _ O).mono ?_;rintro _ H8 ⟨rfl,U⟩;have f58:=N.trans (C.trans U);have o8':=f58.own o8 (fun h=>h);have g7':=f58.own g7 (fun h=>h);refine v2 o8' (ci o8') ?_;refine⟨trivial,trivial,trivial,trivial,trivial,trivial,trivial,trivial,trivial,?_,?_,?_⟩
     ·exact X _ (f45.trans f58)
     ·omega
     ·unfold yQ;grind
    ·refine⟨trivial,trivial,trivial,trivial,trivial,trivial,trivial,trivial,trivial,f45,g7,?_⟩;unfold yQ;grind
   rintro e H6 ⟨y,d,u,B,I,P,p,q,f,N,V,Q⟩;have eh6:=D.fresh N;have UW:(qB ws).length<=1000000:=Z;refine ez (fun e J=>e.find 0=some (aA l)/\e.find 2=some (ptr H.size)/\e.find 4=some (.slice (some ⟨H0.size,0,none⟩) ws.length ws.length)/\e.find 5=some (aA (qB ws))/\e.find 7=some (ptr p7)/\e.find 8=some (ptr F)/\e.find 20=some (.slice (some ⟨g.size,0,none⟩) 11 11)/\e.find 21=some (i64 11)/\e.find 22=some (i64 j)/\af H2 J/\
    J.own p7=some [aA (bV j),i64 (cE j),.bool (bv j),.bool (keyOf j)]/\J.own F=some [i64 j,u32 (yQ ws),u32 (AB j ws),i64 0]) ?_ ?_
   ·refine Z5 y d u B I P p q f (ae V) ?_;refine ai.dec (fun h1=>?_) (fun h1=>?_)<;>refine v9 y d u B I P p q f ?_
    ·refine(jb eh6 _ UW).mono ?_;rintro _ H7 ⟨rfl,C⟩;have G:=C.own Q (fun h=>h);have s7':=C.own V (fun h=>h);refine v3 P G (ci G) ?_;refine⟨trivial,trivial,trivial,trivial,trivial,trivial,trivial,trivial,trivial,X _ (N.trans C),?_,?_⟩
     ·omega
     ·unfold AB;grind
    ·refine⟨trivial,trivial,trivial,trivial,trivial,trivial,trivial,trivial,trivial,N,V,?_⟩;rw[Q];unfold AB;grind
   rintro e H7 ⟨y,d,u,B,I,P,p,q,f,C,V,Q⟩;have eh7:=D.fresh C;refine ez (fun e J=>e.find 0=some (aA l)/\e.find 2=some (ptr H.size)/\e.find 4=some (.slice (some ⟨H0.size,0,none⟩) ws.length ws.length)/\e.find 5=some (aA (qB ws))/\e.find 8=some (ptr F)/\e.find 20=some (.slice (some ⟨g.size,0,none⟩) 11 11)/\e.find 21=some (i64 11)/\e.find 22=some (i64 j)/\af H2 J/\
    J.own F=some [i64 j,u32 (yQ ws),u32 (AB j ws),i64 (BZ j ws)]) ?_ ?_
   ·refine Z5 y d u B I P p q f (ae V) ?_;unfold BZ;cases hh:keyOf j<;>refine v9 y d u B I P p q f ?_
    ·grind
    ·refine(qA eh7 _ UW).mono ?_;rintro _ H8 ⟨U,b,rfl⟩;have G:=U.own Q (fun h=>h);refine v3 P G (ci G) ?_;exact⟨trivial,trivial,trivial,trivial,trivial,trivial,trivial,trivial,X _ (C.trans U),trivial⟩
   rintro e H8 ⟨y,d,u,B,P,p,q,f,U,Q⟩;refine v9 y d u B P p q f (ae Q) ?_;refine(ja H8 j (yQ ws) (AB j ws) (BZ j ws)).mono ?_;rintro _ H9 ⟨rfl,f9⟩;rw[yM Sa];have s9:=f9.own Q (fun h=>h);refine v9 y d u B P p q f s9 ?_;have f10:=X [i64 j,u32 (A0 j (yQ ws)),u32 (Cn j (AB j ws)),i64 (EI j (BZ j ws))] (U.trans f9);have s10:=ah (l:=[i64 j,u32 (A0 j (yQ ws)),u32 (Cn j (AB j ws)),i64 (EI j (BZ j ws))]) s9;generalize H9.wr F [i64 j,u32 (A0 j (yQ ws)),u32 (Cn j (AB j ws)),i64 (EI j (BZ j ws))]=H10 at*;have W:=J3 Sa ws;have S0:=Ic W;refine v1 (ae s10) ?_;refine(AC (D.fresh f10) ⟨W.la,W.lb,W.k0,W.k1⟩).mono ?_;rintro _ H11 ⟨rfl,f11⟩;rw[S0,if_pos rfl,Int.toNat_natCast];have s11:=f11.own s10 (fun h=>h);have b11:=(f10.trans f11).own b2 (fun h=>h);refine v1 iK ?_;refine ai.dec (fun hq=>?_) (fun hq=>?_)<;>refine v1 (ae s11) ?_
   ·refine v1 b11 ?_;refine v1 (ci b11) ?_;refine⟨.inl ⟨j,_,_,_,W,hq.symm,rfl⟩,(YH.trans (f10.trans f11)).then ((aj.refl (fun z=>z=H.size) _).wr (fun _=>rfl) _) O⟩
   ·refine⟨trivial,trivial,trivial,trivial,trivial,trivial,trivial,f10.trans f11,fun a b k h e=>hq ?_⟩;grind [En]
  ·rintro e H4 ⟨y,d,u,B,p,q,f,T,UF⟩;refine v7 y d u B p q f ?_;rw[wrap64 (n:=(j:Int)+1) O O];refine⟨10 - j,O,T,j+1,O,O,fun op a b k h=>?_,rfl⟩;by_cases h2:op=j
   ·subst h2;exact UF a b k
   ·exact kV op a b k O
 ·refine v1 b3 ?_;refine v1 (ci b3) ?_;refine⟨.inr ⟨fun op a b k h=>kV op a b k (by have:=h.le;omega) h,rfl⟩,(YH.trans L).then ((aj.refl (fun z=>z=H.size) _).wr (fun _=>rfl) _) O⟩
end
end Go.Proofs.YtnanofhkpglbaaaGreatDoor
namespace Go.Proofs.YtnanofhkpglbaaaGreatDoor
open Go Go.Vc
section
variable{b a op:Nat}{k:Int}
def Oq(op a b:Nat)(k:Int):List (List UInt8):=(if jA op then[Lib.decDigits a]else[])++((if hasB op then[Lib.decDigits b]else[])++(if keyOf op then[Lib.itoa k]else[]))
theorem GC(h:op<=10)(x:bv op=false):dL op a b k=bV op::Oq op a b k:=by
 rcases ops op h with rfl|rfl|rfl|rfl|rfl|rfl|rfl|rfl|rfl|rfl|rfl<;>simp[dL,Oq,jA,hasB,bv,cE,keyOf]at x ⊢
theorem hP(h:op<=10)(x:bv op=true):dL op a b k=bV op::(Lib.decDigits a++46::Lib.decDigits b)::(if keyOf op then[Lib.itoa k]else[])/\
  Oq op a b k=Lib.decDigits a::Lib.decDigits b::(if keyOf op then[Lib.itoa k]else[]):=by
 rcases ops op h with rfl|rfl|rfl|rfl|rfl|rfl|rfl|rfl|rfl|rfl|rfl<;>simp[dL,Oq,jA,hasB,bv,cE,keyOf]at x ⊢
theorem Eo(a b:Nat):pieces 46 (Lib.decDigits a++46::Lib.decDigits b)=[Lib.decDigits a,Lib.decDigits b]:=by
 rw[n9 _ _ (AG (by decide) a),fU _ (AG (by decide) b)]
theorem AH(H:Hp)(l:List UInt8)(hl:l.length<=1000000):aD 13 [aA l] H fun v J=>ak (R7 l v/\af H J):=by
 refine Rh ET ⟨rfl,?_⟩;have f0:af H (H.new 47 [i64 0,u32 0,u32 0,i64 0]):=bm;have b0:=am H 47 [i64 0,u32 0,u32 0,i64 0];refine v1 uL.eq_1 ?_;generalize H.new 47 [i64 0,u32 0,u32 0,i64 0]=H0 at*;refine(mf H0 l hl 32).mono ?_;rintro vw H1 ⟨f1,bw,hbw,sw⟩;obtain⟨lp1,lp2⟩:=tE 32 _ l (alj _);have ny:=zV 32 l;have pG:=List.length_pos_iff.2 ny;have Tf:=lV 32 l;generalize Wn:pieces 32 l=ws at*;obtain⟨w0,wr,L⟩:∃w0 wr,ws=w0::wr:=by
  cases ws with
  |nil=>exact absurd rfl ny
  |cons x r=>exact⟨x,r,rfl⟩
 have b1:=f1.own b0 (fun h=>h);obtain⟨cw,rfl⟩:∃c,vw= .slice (some ⟨bw,0,none⟩) ws.length c:=by
  obtain⟨_,l',c',hv,_⟩:=sw;exact⟨c',hv⟩
 have XR:ws.length<=cw:=by
  obtain⟨_,l',c',hv,_,h3,_⟩:=sw;injection hv with _ _ hc;omega
 have rw1:=sw.rd;have f01:=f0.trans f1;have word:∀op a b k,dI op a b k->l=jq op a b k->ws=dL op a b k:=fun op a b k h e=>by rw[<-Wn,e];exact mM h.le
 have back:∀op a b k,ws=dL op a b k->l=jq op a b k:=fun op a b k e=>by rw[<-Tf,e];rfl
 refine vs ?_;refine ba.intro (fun m env J=>af H1 J/\∃j:Nat,m=11 - j/\j<=11/\(∀op a b k,op<j->dI op a b k->l≠jq op a b k)/\env=[(2,ptr H.size),(4,.slice (some ⟨bw,0,none⟩) ws.length cw),(5,i64 j)]) 11 ⟨aj.refl _ _,0,O,O,fun op a b k h=>O,rfl⟩ ?_;rintro m env D ⟨f3,j,hm,hj,kV,rfl⟩;have b3:=f3.own b1 (fun h=>h);have rw3:=rw1.fresh f3;have f03:=f01.trans f3;have done:∀ {A:Hp} (l:List Value),af D A->af H (A.wr H.size l):=fun l h=>(f03.trans h).then ((aj.refl (fun z=>z=H.size) _).wr (fun _=>rfl) _) (fun z hz=>O);refine vs ?_;refine ai.dec (fun h11=>?_) (fun h11=>?_)<;>refine vs ?_
 ·have F:j<=10:=O;obtain⟨SG,bb,oo,lb,La,Mu,Fe⟩:=bD.str rw3 (i:=0) (x:=w0) (by rw[L];rfl);injection La with La;injection La with adm adn;subst adm;subst adn;refine di.intro (fun J=>J.rd bw=some lb) Mu ?_;refine vs ?_;refine⟨⟨O,O⟩,?_⟩;refine v3 Int.toNat_zero aly ak7 ?_;refine bG.intro (aA w0) (fun J hI=>?_) ?_
  ·refine v1 hI ?_;refine Eg Fe ?_;exact⟨rfl,rfl⟩
  refine vs ?_;refine(qz D j).mono ?_;rintro _ H4 ⟨rfl,f4⟩;refine And.intro (f4.rd Mu (fun h=>h)) ?_;rw[if_pos (c:=0<=(j:Int)/\(j:Int)<=10) O,Int.toNat_natCast];have rw4:=rw3.fresh f4;refine v1 iK ?_;refine ai.dec (fun f=>?_) (fun f=>?_)<;>refine vs ?_;rotate_left
  ·rw[wrap64 (n:=(j:Int)+1) O O];refine⟨10 - j,O,f3.trans f4,j+1,O,O,fun op a b k h g e=>?_,rfl⟩;by_cases C:op=j
   ·subst C;have d:=word op a b k g e;rw[L]at d;injection d with d;exact f d.symm
   ·exact kV op a b k O g e
  have only:(∀a b k,dI j a b k->l≠jq j a b k)->∀op a b k,dI op a b k->l≠jq op a b k:=fun hn op a b k g e=>by
   have d:=word op a b k g e;rw[L]at d;injection d with d;have:=word_inj F g.le (f.trans d);subst this;exact hn a b k g e
  refine⟨⟨O,O,O,O⟩,?_⟩;refine vs ?_;obtain⟨a6,c6,e6,r6,l6,_⟩:=DW rw4 pG XR;rw[e6];have Wd:ws.length - 1=wr.length:=by rw[L];rfl
  have hwt:ws.tail=wr:=by rw[L];rfl
  rw[Wd]at r6 l6 ⊢;rw[hwt]at r6;have b4:=f4.own b3 (fun h=>h);have wl:∀w∈ws,w.length<=1000000:=fun w f=>alw (lp1 w f) hl;refine ez (fun e J=>e.find 2=some (ptr H.size)/\e.find 5=some (i64 j)/\af D J/\∃ (rest:List (List UInt8)) (n:Nat) (a:Option Addr) (c:Nat),e.find 6=some (.slice a n c)/\n=rest.length/\bD J 1 (.slice a n c) n (rest.map aA)/\n<=c/\(∀w∈rest,w.length<=1000000)/\
   (∀a b k,dI j a b k->l=jq j a b k->rest=Oq j a b k)/\(∀a b k,dI j a b k->rest=Oq j a b k->l=jq j a b k)) ?_ ?_
  ·refine vs ?_;refine(yS H4 F).mono ?_;rintro _ _ ⟨rfl,rfl⟩;cases X:bv j<;>refine vs ?_
   ·refine⟨trivial,trivial,f4,wr,wr.length,a6,c6,rfl,rfl,r6,l6,fun w f=>wl w (by rw[L];exact alT _ f),fun a b k g e=>?_,fun a b k g e=>back j a b k ?_⟩
    ·have d:=word j a b k g e;rw[GC F X,L]at d;injection d
    ·rw[GC F X,<-e,L,f]
   ·refine ai.dec (fun P=>?_) (fun P=>?_)<;>refine vs ?_
    ·obtain⟨N,wt,V⟩:∃N wt,wr=N::wt:=by
      cases wr with
      |nil=>simp at P
      |cons x r=>exact⟨x,r,rfl⟩
     obtain⟨_,bb,oo,lb',La,ado,adp⟩:=bD.str r6 (i:=0) (x:=N) (by rw[V];rfl);subst La;refine⟨⟨O,O⟩,?_⟩;have YV:=wl N (by rw[L,V];simp);refine v4 Int.toNat_zero aly ado adp ?_;refine(mf _ N YV 46).mono ?_;rintro vc H6 ⟨f6,bc,hbc,sc⟩;obtain⟨cp1,cp2⟩:=tE 46 _ N (alj _);refine vs ?_;have r7:=r6.fresh f6;have adq:wr.tail=wt:=by rw[V];rfl
     have YW:wr.length - 1=wt.length:=by rw[V];rfl
     refine⟨⟨O,O,O,O⟩,?_⟩;obtain⟨a8,c8,e8,r8,l8,_⟩:=DW r7 O l6;rw[adq,YW]at r8;rw[YW]at l8 e8;refine vs ?_;rw[e8];have hpl:(pieces 46 N).length+wt.length<=2000010:=by
      have:wt.length<ws.length:=by rw[L,V];simp;omega
      omega
     refine Sl.append sc r8 rfl (Ej wt) O ?_;intro v' H7 Ii s9 e9 ww;refine vs ?_;have f67:=f6.then e9 (fun z hz=>by injection hz with hz;omega);obtain⟨_,b9,o9,lb9,UX,Sb,Sc⟩:=bD.str (rw4.fresh f67) (i:=1) (x:=N) (by rw[L,V];rfl);injection UX with UX;injection UX with hb9 ho9;subst hb9;subst ho9;obtain⟨a9,c9,rfl,hc9⟩:=Ly s9;refine⟨⟨O,by rw[L,V];simp;omega⟩,?_⟩;refine v4 Int.toNat_one amH Sb Sc ?_;refine(mf _ N YV 46).mono ?_;rintro vd H8 ⟨q,bd,YX,sd⟩;obtain⟨ad,cd,rfl,hcd⟩:=Ly sd;have r9:=s9.rd.fresh q;have f48:=f67.trans q;refine vs ?_;refine ai.dec (fun C=>?_) (fun C=>?_)<;>refine vs ?_
     ·have YI:(pieces 46 N).length=2:=O;refine⟨trivial,trivial,f4.trans f48,pieces 46 N++wt,_,a9,c9,rfl,by rw[alm],by rw[alG];exact r9,hc9,fun w f=>?_,fun a b k g e=>?_,fun a b k g e=>back j a b k ?_⟩
      ·rcases alu.1 f with f|f
       ·have:=cp1 w f;omega
       ·exact wl w (by rw[L,V];simp[f])
      ·have d:=word j a b k g e;rw[(hP F X).1,L,V]at d;injection d with _ d;injection d with d E;rw[(hP F X).2,d,E,Eo];rfl
      ·rw[(hP F X).2]at e;have E:=List.append_inj (s₁:=pieces 46 N) (t₁:=wt) (s₂:=[Lib.decDigits a,Lib.decDigits b]) (t₂:=if keyOf j then[Lib.itoa k]else[]) e (by rw[YI];rfl);have T:=lV 46 N;rw[E.1,yb,Lib.join_one]at T;rw[(hP F X).1,L,V,f,<-T,E.2]
     ·have b8:=f48.own b4 (fun h=>h);refine v1 b8 ?_;refine v1 (ci b8) ?_;refine⟨.inr ⟨only fun a b k g e=>C ?_,rfl⟩,done _ (f4.trans f48)⟩;have d:=word j a b k g e;rw[(hP F X).1,L,V]at d;injection d with _ d;injection d with d E;rw[d,Eo];rfl
    ·have hwr:wr=[]:=alI.1 O;refine⟨trivial,trivial,f4,wr,wr.length,a6,c6,rfl,rfl,r6,l6,fun w f=>(by rw[hwr]at f;cases f),fun a b k g e=>?_,fun a b k g e=>?_⟩
     ·have d:=word j a b k g e;rw[(hP F X).1,L,hwr]at d;injection d with _ d;cases d
     ·rw[(hP F X).2,hwr]at e;cases e
  rintro e M ⟨e2,e5,f5,rest,n,a,c,e6,rfl,r5,hc,rl,fwd,bck⟩;refine v3 e2 e5 e6 ?_;refine(yR M F).mono ?_;rintro _ _ ⟨rfl,rfl⟩;refine v3 e2 e5 e6 ?_;refine(pV _ F).mono ?_;rintro _ _ ⟨rfl,rfl⟩;refine v3 e2 e5 e6 ?_;refine(sW _ F).mono ?_;rintro _ M ⟨rfl,rfl⟩;have g7:af M (M.new 4 [.bool (jA j),.bool (hasB j),.bool (keyOf j)]):=bm;have o7:=am M 4 [.bool (jA j),.bool (hasB j),.bool (keyOf j)];refine v3 e2 e5 e6 ?_;have hz6:(M.new 4 [.bool (jA j),.bool (hasB j),.bool (keyOf j)]).size=M.size+1:=by rw[ag]
  generalize hp7:M.size=p7 at*;generalize M.new 4 [.bool (jA j),.bool (hasB j),.bool (keyOf j)]=H6 at*;have g8:af H6 ((H6.new 47 [i64 0,u32 0,u32 0,i64 0]).wr H6.size [i64 j,u32 0,u32 0,i64 0]):=bm.wr (fun h=>absurd h (Nat.lt_irrefl _)) _;have o8:=ah (l:=[i64 j,u32 0,u32 0,i64 0]) (am H6 47 [i64 0,u32 0,u32 0,i64 0]);have o78:=g8.own o7 (fun h=>h);have aiL:=g7.size;have aiM:=f5.size;have X7:=aB o7;rw[hz6]at g8 o8 o78;have hl8:=aB o8;generalize hp8:p7+1=p8 at*;generalize (H6.new 47 [i64 0,u32 0,u32 0,i64 0]).wr p8 [i64 j,u32 0,u32 0,i64 0]=H7 at*;have f37:af D H7:=f5.trans (g7.trans g8);have r7:=r5.fresh (g7.trans g8);have adt:rest.length≠0->∀x,a=some x->x.block<p7:=fun hn x hx=>by rw[<-hp7];exact bD.Gb r5 hn x hx
  have fw:∀ {A:Hp} (l:List Value),af D A->af D (A.wr p8 l):=fun l h=>h.wr (fun iD=>O) l;have stop:∀ {A:Hp},af D A->A.own H.size=some [i64 0,u32 0,u32 0,i64 0]:=fun h=>h.own b3 (fun h=>h);refine ba.intro (fun m env J=>af D J/\∃ (i A B:Nat) (K:Int) (rem:List (List UInt8)) (n:Nat) (a:Option Addr) (c:Nat),m=3 - i/\i<=3/\env=[(2,ptr H.size),(6,.slice a n c),(8,ptr p8),(59,.slice (some ⟨p7,0,none⟩) 3 3),(60,i64 3),(61,i64 i)]/\n=rem.length/\bD J 1 (.slice a n c) n (rem.map aA)/\(n≠0->∀x,a=some x->x.block<p7)/\n<=c/\(∀w∈rem,w.length<=1000000)/\J.own p7=some [.bool (jA j),.bool (hasB j),.bool (keyOf j)]/\J.own p8=some [i64 j,u32 A,u32 B,i64 K]/\
   rest=(if 0<i/\jA j=true then[Lib.decDigits A]else[])++((if 1<i/\hasB j=true then[Lib.decDigits B]else[])++((if 2<i/\keyOf j=true then[Lib.itoa K]else[])++rem))/\
   A<4294967296/\B<4294967296/\ -9223372036854775808<=K/\K<=9223372036854775807/\(¬ (0<i/\jA j=true)->A=0)/\(¬ (1<i/\hasB j=true)->B=0)/\(¬ (2<i/\keyOf j=true)->K=0)) 3
   ⟨f37,0,0,0,0,rest,_,a,c,O,O,rfl,rfl,r7,adt,hc,rl,o78,o8,by simp,O,O,O,O,fun _=>rfl,fun _=>rfl,fun _=>rfl⟩ ?_
  rintro m env H8 ⟨q,i,A,B,K,rem,n,a,c,YF,Og,rfl,rfl,r8,hb8,hc8,rl8,q7,q8,p,hA,hB,Wx,Tg,Q,U,W⟩;refine vs ?_;refine ai.dec (fun hi=>?_) (fun hi=>?_)<;>refine vs ?_
  ·have I:i=0\/i=1\/i=2:=O;have fail:(∀a b k,dI j a b k->rest≠Oq j a b k)->_:=fun hn=>only fun a b k g e=>hn a b k g (fwd a b k g e);have YY:∃x:Bool,[Value.bool (jA j),Value.bool (hasB j),Value.bool (keyOf j)][i]? =some (.bool x)/\((i=0->x=jA j)/\(i=1->x=hasB j)/\(i=2->x=keyOf j)):=by
    rcases I with rfl|rfl|rfl
    ·exact⟨_,rfl,fun _=>rfl,fun h=>O,fun h=>O⟩
    ·exact⟨_,rfl,fun h=>O,fun _=>rfl,fun h=>O⟩
    ·exact⟨_,rfl,fun h=>O,fun h=>O,fun _=>rfl⟩
   obtain⟨x,hx,j4,ED,O6⟩:=YY;refine ez (fun e J=>e.find 2=some (ptr H.size)/\e.find 8=some (ptr p8)/\e.find 59=some (.slice (some ⟨p7,0,none⟩) 3 3)/\e.find 60=some (i64 3)/\e.find 61=some (i64 i)/\af D J/\∃ (A B:Nat) (K:Int) (rem:List (List UInt8)) (n:Nat) (a:Option Addr) (c:Nat),e.find 6=some (.slice a n c)/\n=rem.length/\bD J 1 (.slice a n c) n (rem.map aA)/\(n≠0->∀x,a=some x->x.block<p7)/\n<=c/\(∀w∈rem,w.length<=1000000)/\J.own p7=some [.bool (jA j),.bool (hasB j),.bool (keyOf j)]/\J.own p8=some [i64 j,u32 A,u32 B,i64 K]/\
    rest=(if 0<i+1/\jA j=true then[Lib.decDigits A]else[])++((if 1<i+1/\hasB j=true then[Lib.decDigits B]else[])++((if 2<i+1/\keyOf j=true then[Lib.itoa K]else[])++rem))/\
    A<4294967296/\B<4294967296/\ -9223372036854775808<=K/\K<=9223372036854775807/\(¬ (0<i+1/\jA j=true)->A=0)/\(¬ (1<i+1/\hasB j=true)->B=0)/\(¬ (2<i+1/\keyOf j=true)->K=0)) ?_ ?_
   ·refine vs ?_;refine⟨⟨O,O⟩,?_⟩;refine v4 (ae q7) Int.toNat_natCast ala ak7 ?_;refine Eg hx ?_;refine vs ?_;cases x<;>refine v2 al6 al0 ?_
    ·refine⟨trivial,trivial,trivial,trivial,trivial,q,A,B,K,rem,rem.length,a,c,rfl,rfl,r8,hb8,hc8,rl8,q7,q8,?_⟩;rcases I with rfl|rfl|rfl
     ·have:=j4 rfl;simp[<-this]at p Q U W ⊢;exact⟨p,hA,hB,Wx,Tg,Q,U,W⟩
     ·have:=ED rfl;simp[<-this]at p Q U W ⊢;exact⟨p,hA,hB,Wx,Tg,Q,U,W⟩
     ·have:=O6 rfl;simp[<-this]at p Q U W ⊢;exact⟨p,hA,hB,Wx,Tg,Q,U,W⟩
    have Sd:∀a b k,dI j a b k->rest=Oq j a b k->∃UY,(i=0->rem=Lib.decDigits a::UY)/\(i=1->rem=Lib.decDigits b::UY)/\(i=2->rem=Lib.itoa k::UY):=fun a b k g e=>by
     rw[e]at p;unfold Oq at p;rcases I with rfl|rfl|rfl
     ·have T:=(j4 rfl).symm;simp[T]at p;exact⟨_,fun _=>p.symm,fun h=>O,fun h=>O⟩
     ·have T:=(ED rfl).symm;cases h8:jA j<;>simp[T,h8]at p
      ·exact⟨_,fun h=>O,fun _=>p.symm,fun h=>O⟩
      ·exact⟨_,fun h=>O,fun _=>p.2.symm,fun h=>O⟩
     ·have T:=(O6 rfl).symm;cases h8:jA j<;>cases h9:hasB j<;>simp[T,h8,h9]at p
      ·exact⟨_,fun h=>O,fun h=>O,fun _=>p.symm⟩
      ·exact⟨_,fun h=>O,fun h=>O,fun _=>p.2.symm⟩
      ·exact⟨_,fun h=>O,fun h=>O,fun _=>p.2.symm⟩
      ·exact⟨_,fun h=>O,fun h=>O,fun _=>p.2.2.symm⟩
    refine ai.dec (fun h0=>?_) (fun h0=>?_)<;>refine vs ?_
    ·refine v1 (stop q) ?_;refine v1 (ci (stop q)) ?_;refine⟨.inr ⟨only fun a b k g e=>?_,rfl⟩,done _ q⟩;obtain⟨r',P,C,h3⟩:=Sd a b k g (fwd a b k g e);have:rem=[]:=alI.1 O;subst this;rcases I with I|I|I
     ·cases P I
     ·cases C I
     ·cases h3 I
    obtain⟨G,rt,rfl⟩:∃G rt,rem=G::rt:=by
     cases rem with
     |nil=>simp at h0
     |cons x r=>exact⟨x,r,rfl⟩
    have YZ:=rl8 G (alS ..);obtain⟨_,b9,o9,lb9,rfl,Sb,Sc⟩:=bD.str r8 (i:=0) (x:=G) rfl;refine⟨⟨O,by simp⟩,?_⟩;refine v4 Int.toNat_zero aly Sb Sc ?_;refine(AE _ G YZ).mono ?_;rintro vS _ ⟨hS,rfl⟩;obtain⟨sm,ok,rfl,UZ,Y0⟩:∃ (sm:Nat) (ok:Bool),vS= .tuple [u32 sm,.bool ok].toArray/\(ok=true->sm<4294967296/\G=Lib.decDigits sm)/\(ok=false->∀u:Nat,u<4294967296->G≠Lib.decDigits u):=by
     rcases hS with ⟨u,P,C,rfl⟩| ⟨P,rfl⟩
     ·exact⟨u,true,rfl,fun _=>⟨P,C⟩,fun h=>by cases h⟩
     ·exact⟨0,false,rfl,fun h=>(by cases h),fun _=>P⟩
    refine vs ?_;refine⟨⟨O,by simp⟩,?_⟩;refine v4 Int.toNat_zero aly Sb Sc ?_;refine(mJ _ G YZ).mono ?_;rintro vN _ ⟨hN,rfl⟩;obtain⟨nn,is,rfl,SG,SS,adv,Y1⟩:∃ (nn:Int) (is:Bool),vN= .tuple [i64 nn,.bool is].toArray/\ -9223372036854775808<=nn/\nn<=9223372036854775807/\(is=true->G=Lib.itoa nn)/\(is=false->∀n:Int, -9223372036854775808<=n->n<=9223372036854775807->G≠Lib.itoa n):=by
     rcases hN with ⟨u,h0,P,C,rfl⟩| ⟨P,rfl⟩
     ·exact⟨u,true,rfl,h0,P,fun _=>C,fun h=>by cases h⟩
     ·exact⟨0,false,rfl,O,O,fun h=>(by cases h),fun _=>P⟩
    have Th:ok=true->is=true:=fun h=>by
     obtain⟨P,C⟩:=UZ h;cases his:is
     ·exact absurd (C.trans (Lib.itoa_nonneg sm).symm) (Y1 his sm O O)
     ·rfl
    have r8':bD H8 1 (.slice (some ⟨b9,o9,none⟩) (rt.length+1) c) (rt.length+1) ((G::rt).map aA):=r8;obtain⟨Y2,c10,e10,r10,l10,y10⟩:=DW r8' O hc8;rw[amO]at e10 r10 l10;have hb9:b9<p7:=hb8 (by simp) _ rfl;have aiQ:rt.length+1<=c:=hc8;have Se:rt.length≠0->∀x,Y2=some x->x.block<p7:=fun _ x hx=>by
     obtain⟨y,hy,Z8⟩:=y10 x hx;injection hy with hy;rw[Z8,<-hy];exact hb9
    have U1:∀l,bD (H8.wr p8 l) 1 (.slice Y2 rt.length c10) rt.length (rt.map aA):=fun l=>bD.off r10 ((aj.refl (fun z=>z=p8) _).wr (fun _=>rfl) _) (fun hn x hx=>by have:=Se hn x hx;omega);have q7':∀l,(H8.wr p8 l).own p7=some [.bool (jA j),.bool (hasB j),.bool (keyOf j)]:=fun l=>by rw[aG O];exact q7
    have rl9:∀w∈rt,w.length<=1000000:=fun w f=>rl8 w (alT _ f);have err:∀ {A:Hp},af D A->(∀a b k,dI j a b k->rest≠Oq j a b k)->R7 l (Cd [iw 0 0 0 0,i64 181])/\af H (A.wr H.size [i64 0,u32 0,u32 0,i64 0]):=fun hA hn=>⟨.inr ⟨only fun a b k g e=>hn a b k g (fwd a b k g e),rfl⟩,done _ hA⟩;rcases I with rfl|rfl|rfl
    ·refine vs ?_;refine ai.bK (by decide) ?_;refine vs ?_;cases ok<;>refine v2 al6 al0 ?_
     ·refine v1 (stop q) ?_;refine v1 (ci (stop q)) ?_;exact err q fun a b k g e=>by
       obtain⟨r',P,C,h3⟩:=Sd a b k g e;injection P rfl with d _;exact Y0 rfl a (by have:=g.la;have:=g.lb;omega) d
     have U3:=Th rfl;rw[U3];refine v1 al0 ?_;rw[iH];refine vs ?_;refine ai.bK (by decide) ?_;refine v1 q8 ?_;rw[iH];refine vs ?_;refine ai.aR (by decide) ?_;refine vs ?_;rw[iH];refine vs ?_;refine ai.aR (by decide) ?_;refine vs ?_;refine⟨⟨O,O,O,O⟩,?_⟩;refine vs ?_;rw[e10];obtain⟨hlu,heq⟩:=UZ rfl;have T:=(j4 rfl).symm;refine⟨trivial,trivial,trivial,trivial,trivial,fw _ q,sm,B,K,rt,rt.length,Y2,c10,rfl,rfl,U1 _,Se,l10,rl9,by first|exact q7|exact q7' _,ah q8,?_⟩;simp[T,heq]at p Q U W ⊢;exact⟨p,hlu,hB,Wx,Tg,U,W⟩
    ·refine vs ?_;refine ai.bK (by decide) ?_;refine vs ?_;cases ok<;>refine v2 al6 al0 ?_
     ·refine v1 (stop q) ?_;refine v1 (ci (stop q)) ?_;exact err q fun a b k g e=>by
       obtain⟨r',P,C,h3⟩:=Sd a b k g e;injection C rfl with d _;exact Y0 rfl b (by have:=g.la;have:=g.lb;omega) d
     have U3:=Th rfl;rw[U3];refine v1 al0 ?_;rw[iH];refine vs ?_;refine ai.aR (by decide) ?_;refine vs ?_;rw[iH];refine vs ?_;refine ai.bK (by decide) ?_;refine v1 q8 ?_;rw[iH];refine vs ?_;refine ai.aR (by decide) ?_;refine vs ?_;refine⟨⟨O,O,O,O⟩,?_⟩;refine vs ?_;rw[e10];obtain⟨hlu,heq⟩:=UZ rfl;have T:=(ED rfl).symm;refine⟨trivial,trivial,trivial,trivial,trivial,fw _ q,A,sm,K,rt,rt.length,Y2,c10,rfl,rfl,U1 _,Se,l10,rl9,by first|exact q7|exact q7' _,ah q8,?_⟩;simp[T,heq]at p Q U W ⊢;exact⟨p,hA,hlu,Wx,Tg,Q,W⟩
    ·refine vs ?_;refine ai.aR (by decide) ?_;refine vs ?_;cases is<;>refine v2 al6 al0 ?_
     ·refine v1 (stop q) ?_;refine v1 (ci (stop q)) ?_;exact err q fun a b k g e=>by
       obtain⟨r',P,C,h3⟩:=Sd a b k g e;injection h3 rfl with d _;exact Y1 rfl k g.k0 g.k1 d
     rw[iH];refine vs ?_;refine ai.aR (by decide) ?_;refine vs ?_;rw[iH];refine vs ?_;refine ai.aR (by decide) ?_;refine vs ?_;rw[iH];refine vs ?_;refine ai.bK (by decide) ?_;refine v1 q8 ?_;refine⟨⟨O,O,O,O⟩,?_⟩;refine vs ?_;rw[e10];have heq:=adv rfl;have T:=(O6 rfl).symm;refine⟨trivial,trivial,trivial,trivial,trivial,fw _ q,A,B,nn,rt,rt.length,Y2,c10,rfl,rfl,U1 _,Se,l10,rl9,by first|exact q7|exact q7' _,ah q8,?_⟩;simp[T,heq]at p Q U W ⊢;exact⟨p,hA,hB,SG,SS,Q,U⟩
   rintro e H9 ⟨v2,v8,v59,v60,v61,f9,A,B,K,rem,n,a,c,v6,rfl,hh9⟩;simp(disch:=(first|exact aV|fail)) only[go_sem, ↓reduceIte,Zv,v2,v8,v59,v60,v61,v6];rw[wrap64 (n:=(i:Int)+1) O O];exact⟨3 - (i+1),O,f9,i+1,A,B,K,rem,_,a,c,rfl,O,rfl,rfl,hh9⟩
  ·have adz:i=3:=O;subst adz;refine ai.dec (fun h0=>?_) (fun h0=>?_)<;>refine v1 (ae q8) ?_
   ·refine v1 (stop q) ?_;refine v1 (ci (stop q)) ?_;refine⟨.inr ⟨only fun a b k g e=>?_,rfl⟩,done _ q⟩;have d:=fwd a b k g e;have E:rem=[]:=by
     rw[d]at p;unfold Oq at p;cases T:jA j<;>cases h8:hasB j<;>cases h9:keyOf j<;>simp[T,h8,h9]at p<;>simp[p]
    rw[E]at h0;simp at h0
   ·have E:rem=[]:=alI.1 O;refine v1 (stop q) ?_;refine v1 (ci (stop q)) ?_;have g:dI j A B K:=⟨F,hA,hB,Wx,Tg,fun h=>Q (by simp[h]),fun h=>U (by simp[h]),fun h=>W (by simp[h])⟩;refine⟨.inl ⟨j,A,B,K,g,bck A B K g ?_,rfl⟩,done _ q⟩;rw[p,E];unfold Oq;cases jA j<;>cases hasB j<;>cases keyOf j<;>simp
 ·refine v1 b3 ?_;refine v1 (ci b3) ?_;exact⟨.inr ⟨fun op a b k h=>kV op a b k (by have:=h.le;omega) h,rfl⟩,done _ (aj.refl _ _)⟩
open Classical in
noncomputable def Ti(l:List UInt8):Option R:=if h:∃r:R,(∃i:Nat,r.op=i/\dI i r.a r.b r.k/\l=jq i r.a r.b r.k)then some (Classical.choose h)else none
theorem J5{l:List UInt8}{v:Value}(h:R7 l v):v=match Ti l with
  |some r=>.tuple [iw r.op r.a r.b r.k,i64 0].toArray
  |none=>.tuple [iw 0 0 0 0,i64 181].toArray:=by
 unfold Ti;rcases h with ⟨op,a,b,k,z,x,rfl⟩| ⟨f,rfl⟩
 ·have w:∃r:R,(∃i:Nat,r.op=i/\dI i r.a r.b r.k/\l=jq i r.a r.b r.k):=⟨⟨op,a,b,k⟩,op,rfl,z,x⟩;rw[dif_pos w];obtain⟨i,m,e,g⟩:=Classical.choose_spec w;obtain⟨rfl,y,j,d⟩:=Qr z e (x.symm.trans g);dsimp only;rw[m,<-y,<-j,<-d]
 ·rw[dif_neg];rintro⟨r,i,_,p,q⟩;exact f i r.a r.b r.k p q
theorem LO{l:List UInt8}{r:R}(h:Ti l=some r):∃i:Nat,r.op=i/\dI i r.a r.b r.k:=by
 unfold Ti at h;split at h
 ·rename_i w;injection h with h;obtain⟨i,x,z,a⟩:=Classical.choose_spec w;rw[h]at x z;exact⟨i,x,z⟩
 ·cases h
noncomputable def oA(t:jg)(l:List UInt8):jg×List UInt8:=
 match Ti l with
 |none=>(t,eW 0 (er 181))
 |some r=>((FT t r.op r.a r.b r.k).1,eW r.op (FT t r.op r.a r.b r.k).2)
noncomputable def sZ(t:jg):List (List UInt8)->jg
 | []=>t
 |l::ls=>sZ (oA t l).1 ls
noncomputable def nu(t:jg):List (List UInt8)->List UInt8
 | []=>[]
 |l::ls=>(oA t l).2++[10]++nu (oA t l).1 ls
theorem J6(t:jg)(a:List (List UInt8))(l:List UInt8):sZ t (a++[l])=(oA (sZ t a) l).1:=by
 induction a generalizing t with
 |nil=>rfl
 |cons x a h=>exact h _
theorem J7(t:jg)(a:List (List UInt8))(l:List UInt8):nu t (a++[l])=nu t a++(oA (sZ t a) l).2++[10]:=by
 induction a generalizing t with
 |nil=>simp[nu,sZ]
 |cons x a h=>
  show _++[10]++nu _ (a++[l])=_++[10]++nu _ a++_++_;rw[h];simp[sZ]
theorem adA{n:Nat}(h:10<=n):Lib.decDigits n=Lib.decDigits (n / 10)++[UInt8.ofNat (48+n%10)]:=by
 conv=>lhs;rw[Lib.decDigits]
 rw[dif_neg O]
structure Gd(t:jg)(n:Nat):Prop where
 bd:Bd t n
 rg:Rg t
 gl:t.A.g.length<=65536
theorem Sf(t:jg)(op a b:Nat)(k:Int):(RU t op a b k).1.A.g.length=t.A.g.length:=by
 unfold RU;split
 ·unfold DX;split<;>rfl
 ·unfold FE;split
  ·rfl
  ·cases h:t.A.pick with
   |none=>rfl
   |some z=>
    obtain⟨x,A'⟩:=z;show(A'.g.set _ _).length=_;rw[alb,Qb h]
 ·rfl
 ·unfold yE;dsimp only;split
  ·exact alb ..
  ·rfl
 ·unfold FF;split
  ·rfl
  ·split<;>rfl
 ·unfold FG;split
  ·rfl
  ·exact alb ..
 ·unfold FH;split
  ·rfl
  ·split<;>rfl
 all_goals rfl
theorem gd0{cap:Int}(x:0<=cap/\cap<=65536)(mo:Nat):Gd ⟨iU cap,sM cap mo,0⟩ 0:=⟨bd0 cap mo,rg0 cap mo,by
 show(List.replicate cap.toNat ((0,false):Nat×Bool)).length<=65536;rw[alL];omega⟩
theorem Gd.one{t:jg}{n:Nat}(h:Gd t n)(op:Int)(x:gN a b k):Gd (FT t op a b k).1 (n+1):=
 ⟨YJ h.bd _ _ _ _,YS h.rg _ (LK x _),by unfold FT;rw[Sf];exact h.gl⟩
theorem Ep(h:dI op a b k):gN a b k:=⟨h.la,h.lb,h.k0,h.k1⟩
theorem Gd.adB{t:jg}{n:Nat}(h:Gd t n)(l:List UInt8):Gd (oA t l).1 (n+1):=by
 unfold oA;cases x:Ti l with
 |none=>exact⟨h.bd.up,h.rg,h.gl⟩
 |some r=>
  obtain⟨i,_,z⟩:=LO x;exact h.one _ (Ep z)
theorem Gd.scr{t:jg}{n:Nat}(h:Gd t n)(ls:List (List UInt8)):Gd (sZ t ls) (n+ls.length):=by
 induction ls generalizing t n with
 |nil=>exact h
 |cons x ls z=>
  have:=z (h.adB x);rw[alk,show n+(ls.length+1)=n+1+ls.length by omega];exact this
theorem Gd.rp{t:jg}{n:Nat}(h:Gd t n)(x:n<=100000)(z:Ci t.w t.A)(ok:oF t.A)(op:Int)(a b:Nat)(k:Int):FW (FT t op a b k).2:=YT h.rg h.bd x z ok h.gl _ _ _ _
theorem Er:∀ (l:List UInt8),(splitN l).length<=l.length+1/\∀x∈splitN l,x.length<=l.length:=by
 intro l;induction l with
 |nil=>simp[splitN]
 |cons c r z=>
  unfold splitN;split
  ·refine⟨by simpa using z.1,fun x h=>?_⟩;rcases alF.1 h with rfl|h
   ·simp
   ·have:=z.2 x h;rw[alk];omega
  ·split
   ·simp
   ·rename_i y w e;rw[e]at z;refine⟨by have:=z.1;simp only[alk]at this ⊢;omega,fun x h=>?_⟩;rcases alF.1 h with rfl|h
    ·have:=z.2 y (alS ..);simp only[alk];omega
    ·have:=z.2 x (alT _ h);rw[alk];omega
theorem LP(l:List UInt8):(splitN l).length+((splitN l).getLastD []).length<=l.length+1:=by
 induction l with
 |nil=>simp[splitN]
 |cons c r x=>
  unfold splitN;cases h:splitN r with
  |nil=>exact absurd h (it r)
  |cons y w=>
   rw[h]at x;simp only[amP,alk]at x;split
   ·simp only[amP,alk];omega
   ·cases w with
    |nil=>simp only[amP,alk,List.getLastD_nil]at x ⊢;omega
    |cons z a=>simp only[amP,alk]at x ⊢;omega
theorem Es(l:List UInt8):(dM l).length<=l.length/\∀x∈dM l,x.length<=l.length:=by
 obtain⟨m,z⟩:=Er l;have w:=LP l;unfold dM;split
 ·exact⟨by rw[alV];omega,fun x a=>z x ((amE _).subset a)⟩
 ·rename_i h;refine⟨?_,z⟩;rw[alY,ami (it l)]at w;have v:((splitN l).getLast (it l)).length≠0:=fun e=>h (alI.1 e);simp only[Option.getD_some]at w;omega
theorem jB(op:Int){r:Rp}(x:FW r):(eW op r).length<=150:=by
 obtain⟨h,l,a,m,v,e,g,y,j,z,w⟩:=x;have d:=bU h l;have p:=bU a m;have q:=El y j;have f:=bU z w;have lx:=sX v e g;unfold eW;repeat' split
 all_goals(try simp only[alm,alk,alP])<;>omega
theorem Qs(kd dd:Int)(mo:Nat):0<=wW kd dd mo/\wW kd dd mo<=1000:=by
 unfold wW JG;repeat' split
 all_goals omega
def Sg(H0:Hp)(s bb lb n c:Nat)(ls:List (List UInt8))(t:jg)(o:List UInt8)(S:Nat->Prop)(fp:Option Nat)(H:Hp):Prop:=
 af H0 H/\j0 H s S t.w t.A t.q/\(∀z,S z->H0.size<=z/\z≠bb/\z≠lb/\fp≠some z)/\Gz bb o fp H/\(∀g,fp=some g->H0.size<=g/\g≠lb)/\bD H 1 (.slice (some ⟨lb,0,none⟩) n c) n (ls.map aA)/\
  H0.size<=bb/\bb≠lb/\lb<H.size
def Im(H0:Hp)(s bb lb n c:Nat)(ls:List (List UInt8))(t:jg)(o:List UInt8)(H:Hp):Prop:=∃S fp,Sg H0 s bb lb n c ls t o S fp H
section
variable {S : Nat → Prop} {fp : Option Nat} {H0 H J : Hp} {s bb lb n c : Nat} {ls : List (List UInt8)} {t : jg} {o : List UInt8}
theorem Sg.fresh(h:Sg H0 s bb lb n c ls t o S fp H)(f:af H J):Sg H0 s bb lb n c ls t o S fp J:=by
 obtain⟨x,z,w,l,a,m,v,e,g⟩:=h;exact⟨x.trans f,z.ext f (fun _ _ h=>h),w,l.ext f (fun h=>h) (fun _ _ h=>h),a,m.fresh f,v,e,alp g f.size⟩
theorem Im.fresh(h:Im H0 s bb lb n c ls t o H)(f:af H J):Im H0 s bb lb n c ls t o J:=by
 obtain⟨S,fp,h⟩:=h;exact⟨S,fp,h.fresh f⟩
theorem Sg.bd(h:Sg H0 s bb lb n c ls t o S fp H){u:List UInt8}(C:UP bb u fp H J):Im H0 s bb lb n c ls t u J:=by
 obtain⟨j,d,m,P,v,L,p,q,A⟩:=h;obtain⟨B,f,l,r⟩:=C;have V:=j.size;have W:=P.UO;have K:=d.slt;refine⟨S,B,j.then l (fun z w=>?_),d.ext l (fun z w h=>?_),fun z w=>?_,f,fun g a=>?_,bD.off L l (fun _ x y h=>?_),p,q,alp A l.size⟩
 ·rcases w with rfl|w
  ·exact p
  ·exact(v z w).1
 ·rcases h with rfl|h
  ·exact(m z w).2.1 rfl
  ·exact(m z w).2.2.2 h
 ·obtain⟨T,F,N,Q⟩:=m z w;refine⟨T,F,N,fun e=>?_⟩;rcases r with rfl| ⟨g,rfl,a,_⟩
  ·exact Q e
  ·injection e with e;have:=K z w;omega
 ·rcases r with rfl| ⟨U,rfl,I,_⟩
  ·exact v g a
  ·injection a with a;omega
 ·injection y with y;subst y;rcases h with h|h
  ·exact q h.symm
  ·exact(v _ h).2 rfl
theorem Sg.st(h:Sg H0 s bb lb n c ls t o S fp H){l:jg}(B:lQ s S H J l.w l.A l.q):∃a,Sg H0 s bb lb n c ls l o a fp J:=by
 obtain⟨g,A,y,m,d,p,q,f,u⟩:=h;obtain⟨a,r,w,j⟩:=B;have K:=g.size;have P:=m.UO;have C:=m.lt;refine⟨a,g.then w Z,r,fun z L=>?_,m.ext w Z Z,d,bD.off p w (fun _ x v h=>?_),q,f,alp u w.size⟩
 ·rcases j z L with h|h
  ·exact y z h
  ·exact⟨O,O,O,fun e=>by have:=P z e;omega⟩
 ·injection v with v;subst v;exact(y _ h).2.2.1 rfl
theorem Im.ws(h:Im H0 s bb lb n c ls t o H)(u:List UInt8)(z:o.length+u.length<=1000000000000):aD 20 [ptr bb,aA u] H fun r J=>ak (r= .tuple [i64 u.length,.nilIface].toArray/\Im H0 s bb lb n c ls t (o++u) J):=by
 obtain⟨S,fp,h⟩:=h;refine(nq h.2.2.2.1 u z).mono ?_;rintro _ w ⟨rfl,x⟩;exact⟨rfl,h.bd x⟩
theorem Im.wb(h:Im H0 s bb lb n c ls t o H)(u:UInt8)(z:o.length+1<=1000000000000):aD 23 [ptr bb,.int .u8 (u.toNat:Int)] H fun r J=>ak (r= .nilIface/\Im H0 s bb lb n c ls t (o++[u]) J):=by
 obtain⟨S,fp,h⟩:=h;refine(JZ h.2.2.2.1 u z).mono ?_;rintro _ w ⟨rfl,x⟩;exact⟨rfl,h.bd x⟩
theorem Im.str(h:Im H0 s bb lb n c ls t o H)(m:o.length<=1000000000000):aD 24 [ptr bb] H fun v J=>ak (v=aA o/\af H0 J):=by
 obtain⟨S,fp,x,y,r,l,j,d,a,p,q⟩:=h;refine(FJ l a Z m).mono ?_;rintro _ g ⟨rfl,w⟩;exact⟨rfl,x.then w (fun z e=>e)⟩
theorem Im.rd(h:Im H0 s bb lb n c ls t o H):af H0 H/\bD H 1 (.slice (some ⟨lb,0,none⟩) n c) n (ls.map aA):=by
 obtain⟨S,fp,x,z,w,l,a,m,v,e,g⟩:=h;grind
theorem Im.Of(h:Im H0 s bb lb n c ls t o H):Ci t.w t.A/\oF t.A/\t.A.g.length<=65536:=by
 obtain⟨S,fp,z,x,_⟩:=h;exact x.Of
end
theorem J8{H:Hp}{c N:Nat}{l':List Value}{L:List (List UInt8)}(z:H.own b=some l')(x:l'.take N=L.map aA)(w:L.length=N){n:Nat}(l:n<=N):bD H 1 (.slice (some ⟨b,0,none⟩) n c) n ((L.take n).map aA):=by
 have h:=ald List.length x;rw[alC,alA]at h;refine⟨Z,.inr ⟨b,0,c,l',rfl,ae z,O,?_⟩⟩;rw[List.map_take,<-x,amz];grind
theorem jC{H:Hp}(z:D5 H){c:Int}(h:0<=c/\c<=1000):aD 16 [i64 c] H fun v J=>ak (v=aA (eW 0 (er c))/\af H J):=by
 refine aL EU ?_;refine vs ?_;refine(sY z 0 (dE c h)).mono ?_;rintro _ w ⟨rfl,x⟩;refine vs ?_;exact⟨rfl,x⟩
theorem AI{H:Hp}(he:kY H){kd dd cap:Int}{mo:Nat}(hc:0<=cap/\cap<=65536)(hm:mo<=4294967295)(l:List UInt8)(hl:l.length<=70000):
  aD 7 [xY kd dd,i64 cap,.int .u32 (mo:Int),aA l] H fun v J=>ak (af H J/\v=aA (if 65536<l.length then eW 0 (er 31)++[10]else if wW kd dd mo≠0 then eW 0 (er (wW kd dd mo))++[10]else nu ⟨iU cap,sM cap mo,0⟩ (dM l))):=by
 refine aL EQ ?_;refine vs ?_;have K:af H (H.new 26 [i64 kd,i64 dd]):=bm;have b0:(H.new 26 [i64 kd,i64 dd]).own H.size=some [i64 kd,i64 dd]:=am _ _ _;generalize H.new 26 [i64 kd,i64 dd]=H0 at*;have he0:=he.fresh K;have Wc:l.toArray.size=l.length:=Z;rw[Wc];by_cases Qt:65536<l.length
 ·rw[if_pos Qt,ale O];refine vs ?_;have tl:=jB 0 (dE 31 O);refine(jC he0.sA (c:=31) O).mono ?_;rintro _ p ⟨rfl,d⟩;refine vs ?_;rw[bI (eW 0 (er 31)) [10] Z];refine vs ?_;exact⟨K.trans d,rfl⟩
 rw[if_neg Qt,alc O];refine v1 (ae b0) ?_;by_cases a:wW kd dd mo=0
 ·rw[if_neg (fun h=>h a)];have hk:JG kd dd=0:=by
   apply alt;intro h;unfold wW at a;rw[if_pos h]at a;exact h a
  have hmo:mo≠0:=by
   intro h;unfold wW at a;rw[if_neg (fun h=>h hk),if_pos h]at a;cases a
  refine(yp (xZ.1 hk) (JR (xZ.1 hk)) hc ⟨O,hm⟩ H0).mono ?_;rintro _ p ⟨s,S,rfl,D,d,hS⟩;refine vs ?_;refine ai.dec (fun _=>?_) (fun hh=>absurd trivial hh);refine vs ?_;have F1:=K.trans d;have he2:=he0.fresh d;refine(uG (H:=p) (show YR p from fun w M=>he2.lim w M) l O).mono ?_;rintro _ e ⟨s2,T⟩;obtain⟨sl,l',c,rfl,V,hnc,No,N⟩:=s2;rw[ala]at N;obtain⟨i,x,u⟩:∃i x,splitN l=i++[x]:=⟨_,_,(amk (it l)).symm⟩;have hN:(splitN l).length=i.length+1:=by rw[u];simp
  have F:(splitN l).getLast (it l)=x:=by simp only[u];simp
  have q:dM l=if x=[]then i else i++[x]:=by
   unfold dM;rw[F,u];simp
  have wT:=Es l;have Hv:=Er l;rw[hN]at N hnc Hv ⊢;have E:l'[i.length]? =some (aA x):=by
   have h1:(l'.take (i.length+1))[i.length]? =some (aA x):=by rw[N,u];simp
   rw[al2 O]at h1;exact h1
  have M:IntKind.i64.wrap (((i.length+1:Nat):Int) - 1)=(i.length:Int):=by
   rw[wrap64 O O];omega
  refine vs ?_;rw[M];refine⟨O,?_⟩;refine v5 (ae V) Int.toNat_natCast ala E Hu ?_;refine ai.dec (fun XY=>?A) (fun XY=>?B);case' A=>
   refine vs ?_;rw[M];refine⟨O,?_⟩;refine v1 Int.toNat_natCast ?_;rw[if_neg O];simp only[Option.map_some,Nat.sub_zero];rw[if_pos XY]at q;have P:(dM l).length=i.length:=by rw[q]
   have hR:=J8 (c:=c) (n:=(dM l).length) V N hN O;have RJ:(splitN l).take (dM l).length=dM l:=by rw[u,P,q];exact List.take_left ..
   rw[<-P]
  case' B=>
   refine vs ?_;rw[if_neg XY]at q;have P:(dM l).length=i.length+1:=by rw[q];simp
   have hR:=J8 (c:=c) (n:=(dM l).length) V N hN O;have RJ:(splitN l).take (dM l).length=dM l:=by rw[u,P,q];exact Z
   rw[<-P]
  all_goals
   rw[RJ]at hR;have pG:=aB V;have hgd:=gd0 hc mo;have D:j0 p s S (⟨iU cap,sM cap mo,0⟩:jg).w (⟨iU cap,sM cap mo,0⟩:jg).A (⟨iU cap,sM cap mo,0⟩:jg).q:=D;clear q P RJ;generalize (⟨iU cap,sM cap mo,0⟩:jg)=z at*;generalize dM l=ls at*;have fB:af e (e.new 66 [.pointer none,.slice none 0 0]):=bm;have z0:=K.size;have z1:=d.size;have z2:=T.size;have wz:=D.slt;have hI:Im H s e.size p.size ls.length c ls z [] (e.new 66 [.pointer none,.slice none 0 0]):=
    ⟨S,none,(F1.trans T).trans fB,(D.ext T (fun _ _ h=>h)).ext fB (fun _ _ h=>h),Z,Gz.new e,Z,hR.fresh fB,O,O,by rw[ag];omega⟩
   generalize e.size=bb at*;generalize p.size=lb at*;generalize e.new 66 [.pointer none,.slice none 0 0]=H3 at*;refine ba.intro (fun m env J=>∃j:Nat,m=ls.length - j/\j<=ls.length/\(nu z (ls.take j)).length<=j*151/\Im H s bb lb ls.length c ls (sZ z (ls.take j)) (nu z (ls.take j)) J/\env=[(9,ptr s),(12,ptr bb),(48,.slice (some ⟨lb,0,none⟩) ls.length c),(49,i64 ls.length),(50,i64 j)]) ls.length
    ⟨0,O,O,by simp[nu],hI,rfl⟩ ?_
   rintro m env H4 ⟨j,rfl,hj,ec,W,rfl⟩;refine vs ?_;refine ai.dec (fun iD=>?_) (fun iD=>?_)<;>refine vs ?_
   ·obtain⟨x,E⟩:∃x,ls[j]? =some x:=⟨_,ak9 O⟩;obtain⟨F4,Y3⟩:=W.rd;obtain⟨_,b',o',lx,Qu,Mu,hel⟩:=bD.str Y3 E;injection Qu with Qu;injection Qu with Ik T0 _;subst Ik T0;refine⟨O,?_⟩;rw[ak7]at hel;refine v4 Mu Int.toNat_natCast ala hel ?_;have he4:=he.fresh F4;have tC:x.length<=l.length:=Z;have Pd:(ls.take j).length=j:=by rw[alC];omega
    have F:=hgd.scr (ls.take j);rw[Pd,ak7]at F;have Nv:ls.take (j+1)=ls.take j++[x]:=by rw[alq,E];rfl
    have C:sZ z (ls.take (j+1))=(oA (sZ z (ls.take j)) x).1:=by rw[Nv,J6]
    have L:nu z (ls.take (j+1))=nu z (ls.take j)++(oA (sZ z (ls.take j)) x).2++[10]:=by rw[Nv,J7]
    generalize sZ z (ls.take j)=t1 at*;generalize nu z (ls.take j)=o1 at*;refine(yT he4 x O).mono ?_;rintro v y ⟨hv,Q⟩;have h5:=W.fresh Q;have he5:=he4.fresh Q;obtain rfl:=J5 hv;unfold oA at C L;cases hp:Ti x with
    |none=>
     rw[hp]at C L;dsimp only at C L ⊢;refine vs ?_;obtain⟨U,f,z6⟩:=lR y 47 QG [i64 0,u32 ((0:Nat):Int),u32 ((0:Nat):Int),i64 0];generalize (y.new 47 QG).wr y.size [i64 0,u32 ((0:Nat):Int),u32 ((0:Nat):Int),i64 0]=H6 at*;refine ai.dec (fun g=>absurd g (by decide)) (fun _=>?_);refine vs ?_;have tl:=jB 0 (dE 181 O);refine(jC (he5.fresh U).sA (c:=181) O).mono ?_;rintro _ H7 ⟨rfl,f7⟩;refine vs ?_;refine(((h5.fresh U).fresh f7).ws _ O).mono ?_;rintro _ H8 ⟨rfl,h8⟩;refine vs ?_;refine(h8.wb 10 Z).mono ?_;rintro _ H9 ⟨rfl,h9⟩;refine vs ?_;rw[wrap64 O O];refine⟨ls.length - (j+1),O,j+1,rfl,O,?_,?_,rfl⟩
     ·grind
     grind
    |some r=>
     rw[hp]at C L;dsimp only at C L ⊢;refine vs ?_;obtain⟨i',hi,G⟩:=LO hp;have hrk:=Ep G;have Oh:=h5.Of;have QM:=F.rp O Oh.1 Oh.2.1 r.op r.a r.b r.k;have tl:=jB r.op QM;have I:=F.bd;obtain⟨U,f,z6⟩:=lR y 47 QG [i64 r.op,u32 r.a,u32 r.b,i64 r.k];generalize (y.new 47 QG).wr y.size [i64 r.op,u32 r.a,u32 r.b,i64 r.k]=H6 at*;refine ai.dec (fun _=>?_) (fun hh=>absurd trivial hh);obtain⟨S5,fp5,X⟩:=h5;have j6:=X.fresh U;have SR:=X.2.1.slt;have hf5:=X.2.2.2.1.UO;have hb5:=X.2.2.2.1.lt;refine v1 (ae f) ?_;refine di.intro (fun J=>J.own y.size=some [i64 r.op,u32 r.a,u32 r.b,i64 r.k]) f ?_;refine vs ?_;refine bG.intro (i64 r.op) (fun J hI=>?_) ?_
     ·refine v1 (ae hI) ?_;trivial
     refine v1 (ae f) ?_;refine And.intro f ?_;refine vs ?_;refine(FU j6.2.1 (by have:=I.h1;omega) (fun x _ _=>by have:=I.g x;omega) ⟨I.q0,by have:=I.q1;omega⟩ r.op hrk).mono ?_;rintro _ H7 ⟨rfl,hX⟩;obtain⟨S7,j7⟩:=j6.st hX;obtain⟨_,_,e7,_⟩:=hX;have b7:=e7.own f Z;refine And.intro b7 ?_;refine vs ?_;refine(sY (he.fresh j7.1).sA r.op QM).mono ?_;rintro _ H8 ⟨rfl,f8⟩;have b8:=f8.own b7 (fun h=>h);refine And.intro b8 ?_;refine vs ?_;have j8:=j7.fresh f8;refine(nq j8.2.2.2.1 _ O).mono ?_;rintro _ H9 ⟨rfl,h9⟩;have i9:=j8.bd h9;obtain⟨_,_,e9,_⟩:=h9;refine And.intro (e9.own b8 (fun h=>?_)) ?_
     ·grind
     refine vs ?_;refine(i9.wb 10 Z).mono ?_;rintro _ HA ⟨rfl,hA⟩;refine vs ?_;rw[wrap64 O O];refine⟨ls.length - (j+1),O,j+1,rfl,O,?_,?_,rfl⟩
     ·grind
     grind
   ·rw[alW O]at W ec;refine(W.str O).mono ?_;rintro _ y ⟨rfl,Q⟩;refine vs ?_;exact⟨Q,rfl⟩
 ·refine(FV hc a H0).mono ?_;rintro _ p ⟨rfl,d⟩;refine vs ?_;refine ai.dec (fun g=>absurd g a) (fun _=>?_);refine vs ?_;rw[if_pos a];have G:=Qs kd dd mo;have tl:=jB 0 (dE (wW kd dd mo) G);refine(jC (he0.fresh d).sA G).mono ?_;rintro _ e ⟨rfl,T⟩;refine vs ?_;rw[bI (eW 0 (er (wW kd dd mo))) [10] Z];refine vs ?_;exact⟨(K.trans d).trans T,rfl⟩
end
theorem yU{H:Hp}{kd dd cap:Int}{mo:Nat}(hc:0<=cap/\cap<=65536)(hmo:mo<=4294967295)(l:List UInt8)(hl:l.length<=70000):
  aD 5 [xY kd dd,i64 cap,.int .u32 (mo:Int),aA l] H fun v J=>ak (af H J/\v=aA (if 65536<l.length then eW 0 (er 31)++[10]else if wW kd dd mo≠0 then eW 0 (er (wW kd dd mo))++[10]else nu ⟨iU cap,sM cap mo,0⟩ (dM l))):=by
 refine aL CI ?_;refine vs ?_;have f0:af H (H.new 26 [i64 kd,i64 dd]):=bm;have b0:(H.new 26 [i64 kd,i64 dd]).own H.size=some [i64 kd,i64 dd]:=am _ _ _;generalize H.new 26 [i64 kd,i64 dd]=H0 at*;have Wc:l.toArray.size=l.length:=Z;rw[Wc];by_cases Qt:65536<l.length
 ·rw[if_pos Qt,ale O];refine vs ?_;have e31:Lib.itoa 31=[51,49]:=by
   rw[show Lib.itoa 31=Lib.decDigits 31 from rfl,adA (n:=31) O,kF (u:=31 / 10) O];rfl
  refine⟨f0,?_⟩;show aA _=_;rw[show eW 0 (er 31)=[101,114,114,111,114,32]++Lib.itoa 31 from rfl,e31];rfl
 rw[if_neg Qt,alc O];refine v1 (ae b0) ?_;refine(B1 hc hmo H0).mono ?_;rintro v0 B ⟨f1,e1⟩;by_cases P:wW kd dd mo=0
 ·rw[if_pos P]at e1;obtain⟨l0,rfl,o1⟩:=e1;obtain⟨ta,tc,D,gc,X,F3,K,N,T,G,rfl,_⟩:=id o1;rw[if_neg (fun h=>h P)];obtain⟨f2,b2,z2⟩:=lR B 40 IY [i64 (sM cap mo).g.length,.int .u32 ((sM cap mo).mo:Int),.slice ta T.length tc,.slice D G.length gc,.slice X (iU cap).hs.length F3,.slice K (iU cap).cs.length N,u64 0];refine vs ?_;generalize XQ:B.size=cs at*;have o2:=o1.fresh f2;generalize (B.new 40 IY).wr cs [i64 (sM cap mo).g.length,.int .u32 ((sM cap mo).mo:Int),.slice ta T.length tc,.slice D G.length gc,.slice X (iU cap).hs.length F3,.slice K (iU cap).cs.length N,u64 0]=H2 at*;refine ai.dec (fun _=>?_) (fun hh=>absurd trivial hh);refine vs ?_;have hgd:=gd0 hc mo;have o2:mu H2 [i64 (sM cap mo).g.length,.int .u32 ((sM cap mo).mo:Int),.slice ta T.length tc,.slice D G.length gc,.slice X (iU cap).hs.length F3,.slice K (iU cap).cs.length N,u64 0] (⟨iU cap,sM cap mo,0⟩:jg) _ 0:=o2;generalize [i64 (sM cap mo).g.length,.int .u32 ((sM cap mo).mo:Int),.slice ta T.length tc,.slice D G.length gc,.slice X (iU cap).hs.length F3,.slice K (iU cap).cs.length N,u64 0]=l0 at*;generalize (⟨iU cap,sM cap mo,0⟩:jg)=w at*;have zf1:=f1.size;have zf0:=f0.size;refine(AF H2 l O).mono ?_;rintro v H3 ⟨UO,s3,U,hfl⟩;obtain⟨la,lc,rfl,_⟩:=Ly s3;have wT:=Es l;have hR:=s3.rd;have No:∀x,la=some x->x.block≠cs:=fun x hx=>by
   subst hx;cases UO with
   |none=>cases s3.2.2
   |some b=>
    obtain⟨_,_,_,hv,_⟩:=s3;grind
  clear s3;generalize dM l=ls at*;refine vs ?_;refine ba.intro (fun m env J=>∃ (j:Nat) (L:Nat->Prop) (l1:List Value),m=ls.length - j/\j<=ls.length/\(nu w (ls.take j)).length<=j*151/\af H J/\J.own cs=some l1/\mu J l1 (sZ w (ls.take j)) L j/\(∀z,L z->H.size<=z/\z≠cs)/\
   bD J 1 (.slice la ls.length lc) ls.length (ls.map aA)/\env=[(9,ptr cs),(11,aA (nu w (ls.take j))),(35,.slice la ls.length lc),(36,i64 ls.length),(37,i64 j)]) ls.length
   ⟨0,_,l0,O,O,by simp[nu],((f0.trans f1).trans f2).trans U,U.own b2 (fun h=>h),o2.fresh U,O,hR,rfl⟩ ?_
  rintro m env H4 ⟨j,L,l1,rfl,hj,ec,I,b4,o4,hB,Y3,rfl⟩;refine vs ?_;refine ai.dec (fun iD=>?_) (fun iD=>?_)<;>refine vs ?_
  ·obtain⟨x,hx⟩:∃x,ls[j]? =some x:=⟨_,ak9 O⟩;obtain⟨_,b',o',lx,rfl,Mu,hel⟩:=bD.str Y3 hx;refine⟨O,?_⟩;refine v4 Mu Int.toNat_natCast ala hel ?_;have tC:x.length<=l.length:=Z;have Pd:(ls.take j).length=j:=by rw[alC];omega
   have hg:=hgd.scr (ls.take j);rw[Pd,ak7]at hg;have Nv:ls.take (j+1)=ls.take j++[x]:=by rw[alq,hx];rfl
   have p:sZ w (ls.take (j+1))=(oA (sZ w (ls.take j)) x).1:=by rw[Nv,J6]
   have d:nu w (ls.take (j+1))=nu w (ls.take j)++(oA (sZ w (ls.take j)) x).2++[10]:=by rw[Nv,J7]
   generalize sZ w (ls.take j)=t1 at*;generalize nu w (ls.take j)=o1 at*;refine(AH H4 x O).mono ?_;rintro v y ⟨hv,f5⟩;obtain rfl:=J5 hv;unfold oA at p d;cases hp:Ti x with
   |none=>
    rw[hp]at p d;dsimp only at p d ⊢;refine vs ?_;obtain⟨f6,b6,z6⟩:=lR y 47 QG [i64 0,u32 ((0:Nat):Int),u32 ((0:Nat):Int),i64 0];generalize (y.new 47 QG).wr y.size [i64 0,u32 ((0:Nat):Int),u32 ((0:Nat):Int),i64 0]=H6 at*;refine ai.dec (fun g=>absurd g (by decide)) (fun _=>?_);refine vs ?_;refine(cN H6 (n:=181) O O).mono ?_;rintro _ a ⟨rfl,q⟩;have tl:=jB 0 (dE 181 O);have te:eW 0 (er 181)=[101,114,114,111,114,32]++Lib.itoa 181:=rfl;have li:=bU (n:=181) O O;refine vs ?_;rw[bI [101,114,114,111,114,32] _ Z,<-te];refine vs ?_;rw[bI (eW 0 (er 181)) [10] Z];refine vs ?_;rw[Cg o1 (eW 0 (er 181)++[10]) Z];refine vs ?_;rw[wrap64 O O,<-amg,<-d];have fS:=(f5.trans f6).trans q;refine⟨ls.length - (j+1),O,j+1,jx L H4 a,l1,rfl,O,?_,I.trans fS,fS.own b4 (fun h=>h),?_,fun z f=>?_,Y3.fresh fS,rfl⟩
    ·grind
    ·rw[p];exact o4.grow fS
    ·have:=aB b4;have:=I.size;rcases f with f|f
     ·grind
     ·omega
   |some r=>
    rw[hp]at p d;dsimp only at p d ⊢;refine vs ?_;obtain⟨i',hi,hr⟩:=LO hp;have hrk:=Ep hr;have YX:=hg.bd;obtain⟨f6,b6,z6⟩:=lR y 47 QG [i64 r.op,u32 r.a,u32 r.b,i64 r.k];generalize (y.new 47 QG).wr y.size [i64 r.op,u32 r.a,u32 r.b,i64 r.k]=H6 at*;refine ai.dec (fun _=>?_) (fun hh=>absurd trivial hh);have f46:=f5.trans f6;have c6:=f46.own b4 (fun h=>h);have o6:=o4.fresh f46;obtain⟨ta,tc,D,gc,X,F3,K,N,T,G,rfl,_⟩:=id o6;refine v2 (ae b6) (ae c6) ?_;refine(Eh o6 O YX.h0 (fun x=>by have:=YX.g x;omega) ⟨YX.q0,by have:=YX.q1;omega⟩ r.op hrk).mono ?_;rintro _ a ⟨q,l7,rfl,o7⟩;obtain⟨Y4,Y5,M,E,Y6,Y7,F,Q,C,A,rfl,_⟩:=id o7;have c7:=q.own c6 (fun h=>h);have b7:=q.own b6 (fun h=>h);obtain⟨_,_,_,_,_,_,_,_,_,_,_,⟨_,_,_,_,_,_,_,_,_,_,Fj,_⟩,_,Oh,_⟩:=id o6;have QM:=hg.rp O Oh Fj r.op r.a r.b r.k;have tl:=jB r.op QM;generalize hW:FT t1 r.op r.a r.b r.k=W at*;obtain⟨V,b8,b8',z8⟩:=Qa a 40 54 IY AR [i64 W.1.A.g.length,.int .u32 (W.1.A.mo:Int),.slice Y4 C.length Y5,.slice M A.length E,.slice Y6 W.1.w.hs.length Y7,.slice F W.1.w.cs.length Q,u64 W.1.q] (HT W.2);have q8:(((a.new 40 IY).new 54 AR).wr a.size [i64 W.1.A.g.length,.int .u32 (W.1.A.mo:Int),.slice Y4 C.length Y5,.slice M A.length E,.slice Y6 W.1.w.hs.length Y7,.slice F W.1.w.cs.length Q,u64 W.1.q]).rd a.size=some [i64 W.1.A.g.length,.int .u32 (W.1.A.mo:Int),.slice Y4 C.length Y5,.slice M A.length E,.slice Y6 W.1.w.hs.length Y7,.slice F W.1.w.cs.length Q,u64 W.1.q]:=ae (ah (l':=IY) (by grind [ax,ag,am]));refine vs ?_;generalize h7s:a.size=x7 at*;generalize (((a.new 40 IY).new 54 AR).wr x7 [i64 W.1.A.g.length,.int .u32 (W.1.A.mo:Int),.slice Y4 C.length Y5,.slice M A.length E,.slice Y6 W.1.w.hs.length Y7,.slice F W.1.w.cs.length Q,u64 W.1.q]).wr (x7+1) (HT W.2)=e at*;have c8:=V.own c7 (fun h=>h);have d8:=V.own b7 (fun h=>h);refine v2 q8 c8 ?_;generalize [i64 W.1.A.g.length,.int .u32 (W.1.A.mo:Int),.slice Y4 C.length Y5,.slice M A.length E,.slice Y6 W.1.w.hs.length Y7,.slice F W.1.w.cs.length Q,u64 W.1.q]=L7 at*;have zc:=aB b4;have zf4:=I.size;have z46:=f46.size;have z5:=f5.size;have z7':=q.size;have d9:(e.wr cs L7).own y.size=some [i64 r.op,u32 r.a,u32 r.b,i64 r.k]:=by rw[aG O];exact d8
    have e9:(e.wr cs L7).own (x7+1)=some (HT W.2):=by rw[aG O];exact b8'
    have c9:(e.wr cs L7).own cs=some L7:=ah c8;have aiZ:H.size<=cs:=O;have F9:af H (e.wr cs L7):=(((I.trans f46).trans q).trans V).then (bT e cs L7) O;have gb:∀z,jx L H6 a z->H.size<=z/\z≠cs:=fun z f=>by
     rcases f with f|f
     ·grind
     ·omega
    have o9:=(o7.fresh V).ext (bT e cs L7) Z;have R9:=bD.off (((Y3.fresh f46).fresh q).fresh V) (bT e cs L7) Z;generalize e.wr cs L7=H9 at*;refine v2 (ae d9) (ae e9) ?_;refine(B3 (H:=H9) r.op QM).mono ?_;rintro _ HA ⟨rfl,fA⟩;refine vs ?_;rw[bI (eW r.op W.2) [10] Z];refine vs ?_;rw[Cg o1 (eW r.op W.2++[10]) Z];refine vs ?_;rw[wrap64 O O,<-amg,<-d];refine⟨ls.length - (j+1),O,j+1,_,L7,rfl,O,?_,F9.trans fA,fA.own c9 (fun h=>h),?_,gb,R9.fresh fA,rfl⟩
    ·grind
    ·rw[p];exact o9.fresh fA
  ·rw[alW O];exact⟨I,rfl⟩
 ·rw[if_neg P]at e1;subst e1;rw[if_pos P];have hr:=Qs kd dd mo;obtain⟨f2,b2,z2⟩:=lR B 40 IY IY;refine vs ?_;generalize (B.new 40 IY).wr B.size IY=H2 at*;refine ai.dec (fun g=>absurd g P) (fun _=>?_);refine vs ?_;refine(cN H2 (n:=wW kd dd mo) O O).mono ?_;rintro _ H3 ⟨rfl,U⟩;have tl:=jB 0 (dE (wW kd dd mo) hr);have te:eW 0 (er (wW kd dd mo))=[101,114,114,111,114,32]++Lib.itoa (wW kd dd mo):=by
   unfold eW;exact if_pos P
  have li:=bU (n:=wW kd dd mo) O O;refine vs ?_;rw[bI [101,114,114,111,114,32] _ Z,<-te];refine vs ?_;rw[bI (eW 0 (er (wW kd dd mo))) [10] Z];refine vs ?_;exact⟨((f0.trans f1).trans f2).trans U,rfl⟩
end Go.Proofs.YtnanofhkpglbaaaGreatDoor
