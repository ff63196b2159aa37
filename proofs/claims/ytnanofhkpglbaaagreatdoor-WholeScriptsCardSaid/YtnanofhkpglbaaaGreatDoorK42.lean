/- Texts put behind each other. -/
import Derived.Test.YtnanofhkpglbaaaGreatDoorK3
import Derived.Test.YtnanofhkpglbaaaGreatDoorK36
import Derived.Test.YtnanofhkpglbaaaGreatDoorK41
set_option linter.unusedSimpArgs false
set_option linter.unusedVariables false
set_option maxRecDepth 100000
set_option maxHeartbeats 80000000
namespace Go.Proofs.YtnanofhkpglbaaaGreatDoor
open Go Go.Vc Go.Lib
theorem hM{H:Hp}(y:kY H)(c:UInt8)(l:List UInt8)(r:l.length<=1000000):aD 18 [aA l,aA [c]] H fun v J=>ak (
  v= .slice (some ⟨H.size,0,none⟩) (pieces c l).length (pieces c l).length/\J=H.new 9 ((pieces c l).map aA)):=fun w h=>by
 obtain⟨m,hm⟩:=y.lim w h;have j:(⟨l.toArray⟩:ByteArray).size=l.length:=by simp[ByteArray.size]
 have t:(⟨[c].toArray⟩:ByteArray).size=1:=by simp[ByteArray.size]
 have z:(Lib.splitB ⟨[c].toArray⟩ 0 (Lib.countB ⟨l.toArray⟩ ⟨[c].toArray⟩) ⟨l.toArray⟩).map (·.data.toList)=pieces c l:=by
  rw[Lib.splitB_data];exact HD c l
 have n:Lib.countB ⟨l.toArray⟩ ⟨[c].toArray⟩+1=(pieces c l).length:=by
  rw[<-z,alA];exact(Lib.splitB_all ⟨[c].toArray⟩ O 0 _ _ rfl).symm
 have g:(Lib.splitB ⟨[c].toArray⟩ 0 (Lib.countB ⟨l.toArray⟩ ⟨[c].toArray⟩) ⟨l.toArray⟩).map Value.string=(pieces c l).map aA:=by
  rw[<-z,List.map_map];exact al7 fun x _=>rfl
 refine(Tryz.strings_Split ⟨l.toArray⟩ ⟨[c].toArray⟩ m w O hm O).mono ?_;rintro e w' ⟨rfl,rfl⟩;rw[n,g,h];refine⟨_,rfl,⟨rfl,rfl⟩,rfl,?_⟩;show w.heap.push _=H.push _;rw[h]
theorem Qh(c:UInt8)(l:List UInt8):(Lib.cut l [c]).1.length<=l.length/\(Lib.cut l [c]).2.1.length<=l.length:=by
 unfold Lib.cut;grind
theorem yL{H:Hp}(h:kY H)(c:UInt8)(l:List UInt8)(z:l.length<=1000000):aD 59 [aA l,aA [c]] H fun v J=>ak (
  v= .tuple [aA (Lib.cut l [c]).1,aA (Lib.cut l [c]).2.1,.bool (Lib.cut l [c]).2.2].toArray/\af H J):=fun w x=>by
 obtain⟨m,hm⟩:=h.lim w x;have g:(⟨l.toArray⟩:ByteArray).size=l.length:=by simp[ByteArray.size]
 refine(Tryz.strings_Cut ⟨l.toArray⟩ ⟨[c].toArray⟩ m w O hm).mono ?_;rintro e w' ⟨rfl,n,rfl⟩;exact⟨_,rfl,⟨rfl,rfl⟩,rfl,by rw[<-x];exact aj.refl _ _⟩
section
variable {H : Hp} {a : Option Addr} {c : Nat}
theorem fg{ws:List (List UInt8)}(e:bD H 1 (.slice a ws.length c) ws.length (ws.map aA))(r:ws.length<=1000000)(x:List UInt8):aD 122 [.slice a ws.length c,aA x] H fun v J=>ak (∃k:Int,v=i64 k/\J=H/\((k= -1/\x∉ws)\/∃i:Nat,k=i/\ws[i]? =some x/\∀j:Nat,j<i->ws[j]? ≠some x)):=by
 refine aL kh ?_;refine vs ?_;refine ba.intro (fun mm env J=>∃i:Nat,mm=ws.length - i/\i<=ws.length/\J=H/\(∀j:Nat,j<i->ws[j]? ≠some x)/\env=[(0,.slice a ws.length c),(1,aA x),(7,i64 ws.length),(8,i64 i)]) ws.length Z ?_;rintro mm env _ ⟨i,rfl,hi,rfl,p,rfl⟩;refine vs ?_;refine ai.dec (fun l=>?_) (fun l=>?_)<;>refine vs ?_
 ·have z:i<ws.length:=O;obtain⟨y,t⟩:∃y,ws[i]? =some y:=⟨_,ak9 z⟩;obtain⟨_,b,o,lb,rfl,g,h⟩:=bD.str e t;refine⟨O,?_⟩;refine v5 g Int.toNat_natCast ala h iK ?_;refine ai.dec (fun m=>?_) (fun m=>?_)<;>refine vs ?_
  ·exact⟨i,rfl,rfl,Z⟩
  ·rw[wrap64 (n:=(i:Int)+1) O O];refine⟨ws.length - (i+1),O,i+1,rfl,O,trivial,fun j w=>?_,rfl⟩;grind
 ·obtain rfl:i=ws.length:=O;refine⟨-1,rfl,rfl,.inl ⟨rfl,fun hm=>?_⟩⟩;obtain⟨j,w⟩:=als hm;grind
theorem jp{ws:List (List UInt8)}(w:bD H 1 (.slice a ws.length c) ws.length (ws.map aA))(z:ws.length<=1000000){x:List UInt8}(l:x∉ws):aD 70 [.slice a ws.length c,aA x] H fun v J=>ak (v= .bool false/\J=H):=by
 refine aL jd ?_;refine vs ?_;refine(fg w z x).mono ?_;rintro _ _ ⟨k,rfl,rfl,⟨rfl,_⟩| ⟨i,rfl,h,_⟩⟩
 ·refine vs ?_;exact⟨rfl,rfl⟩
 ·exact absurd Z l
theorem Au{n:Nat}{m:Int}(h:m<=n):aD 173 [.slice a n c,i64 m] H fun v J=>ak (v= .tuple [].toArray/\J=H):=by
 refine aL E8 ?_;refine vs ?_;refine ai.dec (fun h=>O) (fun _=>?_);refine vs ?_;exact⟨rfl,rfl⟩
theorem mK:aD 176 [i64 0] H fun v J=>ak (v= .tuple [].toArray/\J=H):=by
 refine aL C2 ?_;refine vs ?_;refine ai.dec (fun _=>?_) (fun h=>absurd trivial h);refine vs ?_;exact⟨rfl,rfl⟩
def pR(ks:List Int):List (List UInt8):=ks.map itoa
theorem uF(A:kY H){ks:List Int}(m:∀x∈ks, -9223372036854775808<=x/\x<=9223372036854775807)(E:ks.length<=1000000)(U:∀x∈ks,(itoa x).length<=1000000)(F:bD H 1 (.slice a ks.length c) ks.length ((pR ks).map aA)):
  aD 177 [.slice a ks.length c] H fun v J=>ak (∃fp,Sl J 1 v ks.length (ks.map i64) fp/\(∀b,fp=some b->H.size<=b)/\af H J):=by
 refine aL zj ?_;refine vs ?_;refine ba.intro (fun mm env J=>∃ (i:Nat) (v:Value) (fp:Option Nat),mm=ks.length - i/\i<=ks.length/\Sl J 1 v (ks.take i).length ((ks.take i).map i64) fp/\(∀b,fp=some b->H.size<=b)/\af H J/\env=[(3,v),(8,.slice a ks.length c),(9,i64 ks.length),(10,i64 i)]) ks.length ⟨0,_,none,rfl,O,Sl.nil H 1,by simp,aj.refl _ _,rfl⟩ ?_;rintro mm env p ⟨i,v,fp,rfl,hi,s1,g,l,rfl⟩;refine vs ?_;refine ai.dec (fun K=>?_) (fun K=>?_)<;>refine vs ?_
 ·have C:i<ks.length:=O;obtain⟨x,e⟩:∃x,ks[i]? =some x:=⟨_,ak9 C⟩;have w:=ali e;have N:bD p 1 (.slice a (pR ks).length c) (pR ks).length ((pR ks).map aA):=by
   rw[show(pR ks).length=ks.length by simp[pR]];exact F.fresh l
  obtain⟨_,b,o,lb,rfl,Q,L⟩:=bD.str N (i:=i) (x:=itoa x) (by unfold pR;rw[alz,e];rfl);refine⟨⟨O,O⟩,?_⟩;refine v4 Q Int.toNat_natCast ala L ?_;refine(mH (A.fresh l) (itoa x) (U x w)).mono ?_;rintro _ D ⟨t,⟨y,B,P,V,rfl⟩| ⟨T,_⟩⟩;rotate_left
  ·exact absurd rfl (T x (m x w).1 (m x w).2)
  have I:y=x:=by
   have:=js B P;rw[<-V,js (m x w).1 (m x w).2]at this;injection this with this;exact this.symm
  subst I;have G:=s1.ext t (fun _ _ h=>h);have r:=l.trans t;refine vs ?_;refine xR g r.size G y (by rw[alC];omega) fun w' M u q j f=>?_;refine vs ?_;rw[wrap64 (n:=(i:Int)+1) O O];have W:ks.take i++[y]=ks.take (i+1):=by rw[alq,e];rfl
  rw[W]at j;exact⟨ks.length - (i+1),O,i+1,w',u,rfl,O,j,q,r.then f (fun z h=>h),rfl⟩
 ·obtain rfl:i=ks.length:=O;rw[alx]at s1;exact⟨fp,s1,g,l⟩
def qx(w:List UInt8)(l:List Int):List UInt8:=l.foldl (fun s x=>s++(32::itoa x)) w
theorem LI(w:List UInt8)(l:List Int)(x:Int):qx w (l++[x])=qx w l++(32::itoa x):=by grind [qx]
theorem NO(w:List UInt8)(l:List Int)(h:∀x∈l,(itoa x).length<=100):(qx w l).length<=w.length+101*l.length:=by
 induction l generalizing w with
 |nil=>simp[qx]
 |cons x r m=>
  have v:=h x (by simp);have z:=m (w++(32::itoa x)) (fun y n=>h y (by simp[n]));have e:qx w (x::r)=qx (w++(32::itoa x)) r:=rfl;rw[e];simp only[alm,alk]at z ⊢;omega
theorem Av(t:D5 H)(w:List UInt8){l:List Int}(A:w.length<=1000)(L:l.length<=10000)(e:∀x∈l, -9223372036854775808<=x/\x<=9223372036854775807)(f:∀x∈l,(itoa x).length<=100)(p:bD H 1 (.slice a l.length c) l.length (l.map i64)):
  aD 179 [aA w,.slice a l.length c] H fun v J=>ak (v=aA (qx w l)/\af H J):=by
 refine aL xy ?_;refine vs ?_;refine ba.intro (fun mm env J=>∃i:Nat,mm=l.length - i/\i<=l.length/\af H J/\env=[(0,aA (qx w (l.take i))),(7,.slice a l.length c),(8,i64 l.length),(9,i64 i)]) l.length ⟨0,rfl,O,aj.refl _ _,rfl⟩ ?_;rintro mm env B ⟨i,rfl,hi,h,rfl⟩;refine vs ?_;refine ai.dec (fun j=>?_) (fun j=>?_)<;>refine vs ?_
 ·have r:i<l.length:=O;obtain⟨x,z⟩:∃x,l[i]? =some x:=⟨_,ak9 r⟩;have m:=ali z;obtain⟨_,b,o,lb,rfl,q,y⟩:=bD.num (p.fresh h) z;refine⟨O,?_⟩;refine v4 q Int.toNat_natCast ala y ?_;refine(bi (t.fresh h) (e x m).1 (e x m).2).mono ?_;rintro _ P ⟨rfl,g⟩;have C:=f x m;have u:=NO w (l.take i) Z;rw[alC]at u;refine vs ?_;rw[Cg [32] (itoa x) Z];refine vs ?_;rw[Cg (qx w (l.take i)) ([32]++itoa x) Z];refine vs ?_;rw[wrap64 (n:=(i:Int)+1) O O];refine⟨l.length - (i+1),O,i+1,rfl,O,h.trans g,?_⟩;rw[alq,z,show(some x).toList=[x]from rfl,LI];rfl
 ·obtain rfl:i=l.length:=O;rw[alx];exact⟨rfl,h⟩
end
section
variable {H : Hp} {a : Option Addr} {c d : Nat} {kd dd : Int} {st : Value}
def pS:List (List UInt8):=[[],[98,105,110,97,114,121],[100,97,114,121],[98,105,110,111,109,105,97,108],[112,97,105,114,105,110,103],[102,105,98,111,110,97,99,99,105],[108,101,102,116,105,115,116],[115,107,101,119],[108,105,98,114,97,114,121]]
theorem mL(H:Hp):aD 174 [] H fun v J=>ak (v= .slice (some ⟨H.size,0,none⟩) 9 9/\af H J/\bD J 1 v 9 (pS.map aA)):=by
 refine aL C1 ?_;refine vs ?_;exact⟨rfl,bm,(Sl.bs (size:=1) (n:=9) (xs:=pS.map aA) rfl rfl).rd⟩
theorem BW(H:Hp):aD 26 [] H fun v J=>ak (v=ptr H.size/\J=H.new 130 [i64 1,i64 0,.pointer none]):=by
 refine aL G6 ?_;refine vs ?_;exact⟨rfl,rfl⟩
theorem Aw(y:kY H)(g:H.own d=some [i64 kd,i64 dd,st])(p:dP kd dd)(q:bD H 1 (.slice a 2 c) 2 ((pR [2,1]).map aA)):
  aD 126 [ptr d,.slice a 2 c] H fun v J=>ak (v=aA (qx [115,111,114,116] [1,0])/\af H J):=by
 have m:∀x:Int,x∈([2,1]:List Int)-> -9223372036854775808<=x/\x<=9223372036854775807:=by simp
 have e:∀x:Int,x∈([1,0]:List Int)-> -9223372036854775808<=x/\x<=9223372036854775807:=by simp
 refine aL vC ?_;refine vs ?_;refine di.intro (fun J=>J.own d=some [i64 kd,i64 dd,st]) g ?_;refine vs ?_;refine bG.intro (xY kd dd) (fun J j=>?_) ?_
 ·refine v1 (ae j) ?_;trivial
 refine vs ?_;refine(uF y (ks:=[2,1]) m (by simp) (fun x z=>by have:=bU (m x z).1 (m x z).2;omega) q).mono ?_;rintro _ o ⟨fp,s1,L,w⟩;obtain⟨a1,B,rfl,_⟩:=Ch s1;refine And.intro (w.own g (fun h=>h)) ?_;refine vs ?_;refine(BP p s1.rd).mono ?_;rintro _ f ⟨v2,C,rfl,t,A,n⟩;refine And.intro ((w.trans n).own g (fun h=>h)) ?_;refine vs ?_;refine mK.mono ?_;rintro _ _ ⟨rfl,rfl⟩;refine vs ?_;obtain⟨a2,P,rfl,_⟩:=Ch t;refine(Av (y.sA.fresh (w.trans n)) [115,111,114,116] (l:=[1,0]) (by simp) (by simp) e (fun x z=>by have:=bU (e x z).1 (e x z).2;omega) t.rd).mono ?_;rintro _ u ⟨rfl,r⟩;refine vs ?_;exact⟨rfl,(w.trans n).trans r⟩
theorem UR{k:Int}(h:(k= -1/\[115,107,101,119]∉pS)\/∃i:Nat,k=i/\pS[i]? =some [115,107,101,119]/\∀j:Nat,j<i->pS[j]? ≠some [115,107,101,119]):k=7:=by
 rcases h with ⟨_,h⟩| ⟨i,rfl,h,_⟩
 ·exact absurd (by decide) h
 ·have x:i<9:=(ak8.1 h).1;have z:∀j:Nat,j<9->j≠7->pS[j]? ≠some [115,107,101,119]:=by decide
  by_cases e:i=7
  ·omega
  ·exact absurd h (z i x e)
theorem Ax(C:H.own d=some [i64 kd,i64 dd,st])(w:bD H 1 (.slice a 1 c) 1 ([[115,107,101,119]].map aA)):
  aD 123 [ptr d,.slice a 1 c] H fun v J=>ak (v=aA [111,107]/\J.own d=some [i64 7,i64 0,st]/\aj (fun z=>z=d) H J):=by
 refine Rh vB ⟨rfl,?_⟩;refine v1 lB.eq_1 ?_;refine(Au (n:=1) (m:=1) O).mono ?_;rintro _ H ⟨rfl,rfl⟩;refine vs ?_;refine ez (fun e J=>∃p,e=[(0,ptr d),(1,.slice a 1 c),(5,ptr p)]/\J.own p=some [i64 7,i64 0]/\H.size<=p/\af H J) ?_ ?_
 ·refine di.intro (fun J=>bD J 1 (.slice a 1 c) 1 ([[115,107,101,119]].map aA)) w ?_;obtain⟨_,b,o,lb,rfl,D,I⟩:=bD.str (ws:=[[115,107,101,119]]) (i:=0) w rfl;refine vs ?_;refine⟨O,?_⟩;refine vs ?_;refine bG.intro (aA [115,107,101,119]) (fun J N=>?_) ?_
  ·obtain⟨_,b',E,M,e,W,Q⟩:=bD.str (ws:=[[115,107,101,119]]) (i:=0) N rfl;injection e with e;injection e with F q;subst F q;refine v3 W (show o+Int.toNat 0*1=o+0 from rfl) Q ?_;trivial
  refine vs ?_;have fin:∀ {l:Hp},af H l->af H ((l.new 26 [i64 0,i64 0]).wr l.size [i64 7,i64 0])/\((l.new 26 [i64 0,i64 0]).wr l.size [i64 7,i64 0]).own l.size=some [i64 7,i64 0]:=fun f=>⟨f.trans (lR _ _ _ _).1,(lR _ _ _ _).2.1⟩;refine ry.intro ?_ ?_
  ·refine vs ?_;refine(mL H).mono ?_;rintro _ g ⟨rfl,x,j⟩;refine And.intro (w.fresh x) ?_;refine vs ?_;refine ry.intro ?_ ?_
   ·refine vs ?_;refine(fg (ws:=pS) j (by decide) _).mono ?_;rintro _ g ⟨k,rfl,rfl,y⟩;obtain rfl:=UR y;refine And.intro (w.fresh x) ?_;refine vs ?_;refine And.intro (w.fresh (x.trans bm)) ?_;refine vs ?_;refine And.intro (w.fresh (fin x).1) ?_;refine vs ?_;exact⟨_,rfl,(fin x).2,x.size,(fin x).1⟩
   ·refine vs ?_;refine And.intro (w.fresh (x.trans bm)) ?_;refine vs ?_;refine(fg (ws:=pS) (j.fresh bm) (by decide) _).mono ?_;rintro _ _ ⟨k,rfl,rfl,y⟩;obtain rfl:=UR y;refine And.intro (w.fresh (x.trans bm)) ?_;refine vs ?_;refine And.intro (w.fresh (fin x).1) ?_;refine vs ?_;exact⟨_,rfl,(fin x).2,x.size,(fin x).1⟩
  ·refine vs ?_;have t:af H (H.new 26 [i64 0,i64 0]):=bm;have b0:(H.new 26 [i64 0,i64 0]).own H.size=some [i64 0,i64 0]:=am _ _ _;refine And.intro (w.fresh t) ?_;generalize H.new 26 [i64 0,i64 0]=K at*;refine vs ?_;refine(mL K).mono ?_;rintro _ g ⟨rfl,x,j⟩;have P:=x.own b0 (fun h=>h);refine And.intro (w.fresh (t.trans x)) ?_;refine vs ?_;refine(fg (ws:=pS) j (by decide) _).mono ?_;rintro _ g ⟨k,rfl,rfl,y⟩;obtain rfl:=UR y;refine And.intro (w.fresh (t.trans x)) ?_;obtain⟨q,B⟩:=Ij P [i64 7,i64 0];have A:=(t.trans x).then q O;refine v1 P ?_;refine And.intro (w.fresh A) ?_;refine vs ?_;exact⟨_,rfl,B,alj _,A⟩
 rintro _ g ⟨p,rfl,r,G,x⟩;have U:=x.own C (fun h=>h);have V:=aB C;refine vs ?_;rw[iH];refine v1 (ae r) ?_;refine ai.dec (fun h=>O) (fun _=>?_);refine v1 (ae r) ?_;refine ai.dec (fun h=>absurd h (by decide)) (fun _=>?_);refine vs ?_;refine ai.dec (fun _=>?_) (fun h=>absurd (by decide) h);refine vs ?_;rw[iH];refine vs ?_;refine ai.dec (fun h=>absurd h (by decide)) (fun _=>?_);refine v1 (ae r) ?_;refine(eS 7 0 g).mono ?_;rintro _ T ⟨rfl,u⟩;rw[show JG 7 0=0 from Hz (by unfold dP;omega)];have B:=u.own r (fun h=>h);have L:=u.own U (fun h=>h);refine vs ?_;refine mK.mono ?_;rintro _ T ⟨rfl,rfl⟩;refine v2 (ae B) L ?_;exact⟨rfl,ah L,((x.trans u).mono fun z _ h=>h.elim).trans ((aj.refl (fun z=>z=d) _).wr (fun _=>rfl) _)⟩
theorem US{a b:List UInt8}{t:Bool}(h:decide (a=b)=t):((⟨a.toArray⟩:ByteArray).toList== (⟨b.toArray⟩:ByteArray).toList)=t:=(iK a b).trans h
theorem Eb(d:Nat)(H:Hp):aD 72 [ptr d,aA [107,105,110,100]] H fun v J=>v= .func (.func 123) #[ptr d] #[]/\J=H:=by
 refine aL lA ?_;refine vs ?_;refine ai.bK (US (by decide)) ?_;refine vs ?_;exact⟨trivial,trivial⟩
theorem Ec(d:Nat)(H:Hp):aD 72 [ptr d,aA [115,111,114,116]] H fun v J=>v= .func (.func 126) #[ptr d] #[]/\J=H:=by
 refine aL lA ?_;refine vs ?_;refine ai.aR (US (by decide)) ?_;refine vs ?_;refine ai.aR (US (by decide)) ?_;refine vs ?_;refine ai.aR (US (by decide)) ?_;refine vs ?_;refine ai.bK (US (by decide)) ?_;refine vs ?_;exact⟨trivial,trivial⟩
end
end Go.Proofs.YtnanofhkpglbaaaGreatDoor
