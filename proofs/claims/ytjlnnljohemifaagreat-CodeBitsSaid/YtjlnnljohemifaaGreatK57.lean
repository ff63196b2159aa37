/- Texts put behind each other. -/
import Derived.Test.YtjlnnljohemifaaGreatK98
import Derived.Test.YtjlnnljohemifaaGreatK5
import Derived.Test.YtjlnnljohemifaaGreatK6
import Derived.Test.YtjlnnljohemifaaGreatK7
import Derived.Test.YtjlnnljohemifaaGreatK8
import Derived.Test.YtjlnnljohemifaaGreatK9
import Derived.Test.YtjlnnljohemifaaGreatK10
import Derived.Test.YtjlnnljohemifaaGreatK11
import Derived.Test.YtjlnnljohemifaaGreatK12
import Derived.Test.YtjlnnljohemifaaGreatK13
import Derived.Test.YtjlnnljohemifaaGreatK14
import Derived.Test.YtjlnnljohemifaaGreatK15
import Derived.Test.YtjlnnljohemifaaGreatK16
import Derived.Test.YtjlnnljohemifaaGreatK17
import Derived.Test.YtjlnnljohemifaaGreatK18
import Derived.Test.YtjlnnljohemifaaGreatK19
import Derived.Test.YtjlnnljohemifaaGreatK20
import Derived.Test.YtjlnnljohemifaaGreatK21
import Derived.Test.YtjlnnljohemifaaGreatK22
import Derived.Test.YtjlnnljohemifaaGreatK23
import Derived.Test.YtjlnnljohemifaaGreatK24
import Derived.Test.YtjlnnljohemifaaGreatK25
import Derived.Test.YtjlnnljohemifaaGreatK28
import Derived.Test.YtjlnnljohemifaaGreatK48
import Derived.Test.YtjlnnljohemifaaGreatK49
import Derived.Test.YtjlnnljohemifaaGreatK50
import Derived.Test.YtjlnnljohemifaaGreatK51
import Derived.Test.YtjlnnljohemifaaGreatK52
import Derived.Test.YtjlnnljohemifaaGreatK53
import Derived.Test.YtjlnnljohemifaaGreatK54
import Derived.Test.YtjlnnljohemifaaGreatK55
import Derived.Test.YtjlnnljohemifaaGreatK56
import Derived.Shelf.Strings.Repeat
import Derived.Shelf.Strings.Builder1
set_option maxRecDepth 100000
set_option maxHeartbeats 8000000
set_option linter.unusedVariables false
set_option linter.unusedSimpArgs false
namespace Go.Proofs.YtjlnnljohemifaaGreat
open Go Go.Vc Go.Shelf Go.RowKit
theorem adF(H:Hp)(s:List UInt8)(c:Nat)(hl:s.length≤1000)(hc:c≤1000000):
  af Tryz.prog 93 [abl s,i64 (c:Int)] H fun v H'=>aw (v=abl (Lib.repeatL s c)∧ai H H'):=fun w hw=>by
 have hs:(⟨s.toArray⟩:ByteArray).size=s.length:=by simp[ByteArray.size]
 have hm:s.length*c≤1000*1000000:=Nat.mul_le_mul hl hc
 refine(Tryz.strings_Repeat ⟨s.toArray⟩ c w (by omega) (by rw[hs];omega)).mono ?_
 rintro e w' ⟨rfl,hb⟩
 refine⟨_,rfl,⟨hb.os,hb.output⟩,rfl,?_⟩
 rw[←hw]
 exact⟨hb.size,fun k hk _=>hb.block k hk⟩
theorem ad4(b:UInt8)(c:Nat):Lib.repeatL [b] c=List.replicate c b:=by
 induction c with
 |zero=>rfl
 |succ c ih=>rw[Lib.repeatL,ih,aoc];rfl
end Go.Proofs.YtjlnnljohemifaaGreat

namespace Go.Proofs.YtjlnnljohemifaaGreat
open Go Go.Vc
def aah(x:Int):Int:=max x 1
def krN(l:List Int):List Nat:=l.map fun x=>(aah x).toNat
theorem ah4(x:Int):1≤aah x:=by unfold aah;omega
theorem ah5{l:List Int}{j:Nat}{x:Int}(hx:l[j]? =some x):((l.take j).map aah++l.drop j).set j (aah x)=(l.take (j+1)).map aah++l.drop (j+1):=by
 obtain⟨h1,h2⟩:=anu.1 hx
 have e:((l.take j).map aah).length=j:=by simp;omega
 rw[List.set_append,e,if_neg (by omega),aoI,aoK h1,aoS,aoa,hx,an8,apq]
 rfl
theorem A8.akj{M:Nat}{ns:List Nat}{j free at_ n:Nat}(h:A8 M ns j free at_)(hf:free=0)(h2:n≤M):A8 M ns j free n:=by
 subst hf
 exact h.aj1 h2
theorem Gk(xs:List Int):(iZ xs).Perm xs:=List.mergeSort_perm _ _
theorem afh(xs:List Int):(iZ xs).Pairwise (· ≤ ·):=by
 have:=List.pairwise_mergeSort (le:=fun x y:Int=>decide (x≤y)) (fun a b c h1 h2=>by simp at*;omega) (fun a b=>by simp;omega) xs
 exact this.imp fun h=>by simpa using h
theorem agF(l:List Int):((iZ (l.map aah)).map Int.toNat).Perm (krN l):=by
 have:=(Gk (l.map aah)).map Int.toNat
 rwa[List.map_map]at this
theorem acM{H:Hp}{a:Option Addr}{c:Nat}{l:List Int}(h:dc H 1 (.slice a l.length c) l.length (l.map i64))(hl:l.length≤1000000){M:Nat}(hM:∀n∈krN l,n≤M)(hM2:M≤9223372036854775807):
  af Tryz.prog adG [.slice a l.length c] H fun v H'=>aw (v=i64 (krS M (krN l))∧ai H H'):=by
 refine bm adH ?_
 refine vs ?_
 refine(AQ h hl).mono ?_
 rintro r H1 ⟨f1,fp,s1,gu⟩
 obtain⟨ra,rc,rfl,hrc⟩:=dD s1
 refine vs ?_
 refine bk.intro (fun m env H'=>ai H H'∧∃ (j:Nat),m=l.length - j∧j≤l.length∧Sl H' 1 (.slice ra l.length rc) l.length (((l.take j).map aah++l.drop j).map i64) fp∧
  env=[(3,.slice ra l.length rc),(12,i64 l.length),(13,i64 j)]) l.length ⟨f1,0,by omega,by omega,by simpa using s1,rfl⟩ ?_
 rintro m env H2 ⟨f2,j,hm,hj,s2,rfl⟩
 refine vs ?_
 refine am.dec (fun aO=>?_) (fun aO=>?_)<;>refine vs ?_
 ·have gD:j<l.length:=by omega
  obtain⟨x,hx⟩:∃x,l[j]? =some x:=⟨_,ans gD⟩
  have Iq:((l.take j).map aah++l.drop j)[j]? =some x:=by
   rw[anX (by simp;omega)]
   simp only[anQ,aoj,aoQ hj]
   rw[aob,aoI,Nat.add_zero,hx]
  cases fp with
  |none=>obtain⟨_,h0,_⟩:=s2;omega
  |some b=>
   obtain⟨_,rfl,lb,ho,hc⟩:=Sl.num s2 Iq
   have oK:l.length≤lb.length:=by
    obtain⟨_,l',c2,_,h2,h3,h4,_⟩:=s2
    rw[ho]at h2;injection h2 with h2;subst h2;omega
   refine⟨⟨by omega,by omega⟩,?_⟩
   refine v5 (ae ho) Int.toNat_natCast anw ant hc ?_
   refine⟨⟨by omega,by omega⟩,?_⟩
   refine v4 ho Int.toNat_natCast anw ant ?_
   refine⟨by omega,?_⟩
   have s3:=s2.tQ ho j (i64 (aah x))
   have e3:ai H (H2.wr b (lb.set j (i64 (aah x)))):=f2.then ((ag.refl (fun z=>z=b) _).wr (fun _=>rfl) _) (fun z hz=>by have:=gu b rfl;omega)
   rw[←aoh,ah5 hx]at s3
   have hif:(if 1>x then(1:Int)else x)=aah x:=by unfold aah;split<;>omega
   refine vs ?_
   rw[hif,wrap64 (n:=(j:Int)+1) (by omega) (by omega)]
   exact⟨l.length - (j+1),by omega,e3,j+1,rfl,by omega,s3,rfl⟩
 have gD:j=l.length:=by omega
 subst gD
 rw[an4,List.drop_length,aon]at s2
 have WY:(l.map aah).length=l.length:=anQ ..
 rw[←WY]at s2 ⊢
 refine(pZ s2 (by omega)).mono ?_
 rintro _ H3 ⟨rfl,s3,e3⟩
 have f3:ai H H3:=f2.then e3 (fun z hz=>(gu z hz).1)
 have hL:(iZ (l.map aah)).length=l.length:=by rw[mL,WY]
 have PU:∀x∈iZ (l.map aah),1≤x∧x≤M:=fun x hx=>by
  have:=(Gk (l.map aah)).mem_iff.1 hx
  obtain⟨y,hy,rfl⟩:=anS.1 this
  have h1:=ah4 y
  have h2:=hM (aah y).toNat (anS.2 ⟨y,hy,rfl⟩)
  omega
 rw[WY,←hL]at s3 ⊢
 have ZL:=agF l
 have afJ:=afh (l.map aah)
 generalize hLL:iZ (l.map aah)=L at*
 generalize akk:L.map Int.toNat=ns at*
 have hnl:ns.length=L.length:=by rw[←akk];simp
 refine vs ?_
 refine bk.intro (fun m env H'=>H'=H3∧∃ (j free at_:Nat),m=L.length - j∧j≤L.length∧A8 M ns j free at_∧free≤2*L.length+1∧(∀x,L[j]? =some x→(at_:Int)≤x)∧
  env=[(3,.slice ra L.length rc),(5,i64 free),(6,i64 at_),(27,.slice ra L.length rc),(28,i64 L.length),(29,i64 j)]) L.length ⟨rfl,0,1,0,by omega,by omega,A8.begin M ns,by omega,fun x hx=>by have:=PU x (anz hx);omega,rfl⟩ ?_
 rintro m env H4 ⟨rfl,j,free,at_,hm,hj,hk,Wm,u0,rfl⟩
 refine vs ?_
 refine am.dec (fun aO=>?_) (fun aO=>?_)<;>refine vs ?_
 ·obtain⟨x,hx⟩:∃x,L[j]? =some x:=⟨_,ans (by omega)⟩
  obtain⟨x1,x2⟩:=PU x (anz hx)
  have WI:ns[j]? =some x.toNat:=by rw[←akk,anR,hx];rfl
  have tG:=u0 x hx
  obtain⟨_,b,o,lb,rfl,fA,bX⟩:=dc.num s3.rd hx
  refine⟨⟨by omega,by omega⟩,?_⟩
  refine v4 fA Int.toNat_natCast anw bX ?_
  refine bk.intro (fun m' env H'=>H'=H4∧∃ (free at_:Nat),m'=x.toNat - at_∧A8 M ns j free at_∧free≤2*L.length+1∧(at_:Int)≤x∧
   env=[(3,.slice (some ⟨b,o,none⟩) L.length rc),(5,i64 free),(6,i64 at_),(8,i64 x),(27,.slice (some ⟨b,o,none⟩) L.length rc),(28,i64 L.length),(29,i64 j)]) (x.toNat - at_) ⟨rfl,free,at_,rfl,hk,Wm,tG,rfl⟩ ?_
  clear hk Wm tG u0
  rintro m' env H5 ⟨rfl,free,at_,hm',hk,Wm,tG,rfl⟩
  refine vs ?_
  refine am.dec (fun g1=>?_) (fun g1=>?_)<;>refine vs ?_
  ·refine am.dec (fun g2=>?_) (fun g2=>?_)<;>refine vs ?_
   ·refine am.dec (fun g3=>?_) (fun g3=>?_)<;>refine vs ?_
    ·rw[wrap64 (n:=(free:Int)*2) (by omega) (by omega),wrap64 (n:=(at_:Int)+1) (by omega) (by omega)]
     exact⟨x.toNat - (at_+1),by omega,trivial,free*2,at_+1,rfl,hk.double (by omega),by omega,by omega,rfl⟩
    ·have hK:A8 M ns j free x.toNat:=hk.jump (by omega) (by omega) (by omega)
     refine am.dec (fun hz=>?_) (fun hz=>?_)<;>refine vs ?_
     ·have Ib:free=0:=by omega
      subst Ib
      rw[←acS M ZL,hK.none (m:=x.toNat) WI]
      exact⟨rfl,f3⟩
     ·rw[wrap64 (n:=(free:Int) - 1) (by omega) (by omega),wrap64 (n:=(j:Int)+1) (by omega) (by omega)]
      refine⟨L.length - (j+1),by omega,trivial,j+1,free - 1,x.toNat,rfl,by omega,hK.use WI (by omega),by omega,fun y hy=>?_,by rw[show((free - 1:Nat):Int)=(free:Int) - 1 by omega,show((x.toNat:Nat):Int)=x by omega];rfl⟩
      obtain⟨MV,DO⟩:=anu.1 hy
      obtain⟨kU,Iq⟩:=anu.1 hx
      have:=List.pairwise_iff_getElem.1 afJ j (j+1) kU MV (by omega)
      rw[DO,Iq]at this
      omega
   ·have hK:A8 M ns j free x.toNat:=hk.akj (by omega) (by omega)
    refine am.dec (fun hz=>?_) (fun hz=>?_)<;>refine vs ?_
    ·have Ib:free=0:=by omega
     subst Ib
     rw[←acS M ZL,hK.none (m:=x.toNat) WI]
     exact⟨rfl,f3⟩
    ·rw[wrap64 (n:=(free:Int) - 1) (by omega) (by omega),wrap64 (n:=(j:Int)+1) (by omega) (by omega)]
     refine⟨L.length - (j+1),by omega,trivial,j+1,free - 1,x.toNat,rfl,by omega,hK.use WI (by omega),by omega,fun y hy=>?_,by rw[show((free - 1:Nat):Int)=(free:Int) - 1 by omega,show((x.toNat:Nat):Int)=x by omega];rfl⟩
     obtain⟨MV,DO⟩:=anu.1 hy
     obtain⟨kU,Iq⟩:=anu.1 hx
     have:=List.pairwise_iff_getElem.1 afJ j (j+1) kU MV (by omega)
     rw[DO,Iq]at this
     omega
  ·have hK:A8 M ns j free x.toNat:=(show x.toNat=at_ by omega)▸hk
   refine am.dec (fun hz=>?_) (fun hz=>?_)<;>refine vs ?_
   ·have Ib:free=0:=by omega
    subst Ib
    rw[←acS M ZL,hK.none (m:=x.toNat) WI]
    exact⟨rfl,f3⟩
   ·rw[wrap64 (n:=(free:Int) - 1) (by omega) (by omega),wrap64 (n:=(j:Int)+1) (by omega) (by omega)]
    refine⟨L.length - (j+1),by omega,trivial,j+1,free - 1,x.toNat,rfl,by omega,hK.use WI (by omega),by omega,fun y hy=>?_,by rw[show((free - 1:Nat):Int)=(free:Int) - 1 by omega,show((x.toNat:Nat):Int)=x by omega];rfl⟩
    obtain⟨MV,DO⟩:=anu.1 hy
    obtain⟨kU,Iq⟩:=anu.1 hx
    have:=List.pairwise_iff_getElem.1 afJ j (j+1) kU MV (by omega)
    rw[DO,Iq]at this
    omega
 ·have gD:j=L.length:=by omega
  subst gD
  rw[←hnl]at hk
  have hd:=hk.done
  rw[acS M ZL]at hd
  refine am.dec (fun hz=>?_) (fun hz=>?_)<;>refine vs ?_
  ·rw[hd,if_pos (by omega)]
   exact⟨rfl,f3⟩
  ·rw[hd,if_neg (by omega)]
   exact⟨rfl,f3⟩
structure aa2(l:List Int):Prop where
 low:∀x∈l,1≤x∧x≤128
 len:1≤l.length∧l.length≤4096
 room:krS 128 (krN l)≤0
theorem afi{l:List Int}(h:∀x∈l,1≤x∧x≤128):∀n∈krN l,n≤128:=fun n hn=>by
 obtain⟨x,hx,rfl⟩:=anS.1 hn
 have:=h x hx
 unfold aah
 omega
theorem ai3(v:Nat)(b:Bool)(hv:v<128):IntKind.u8.wrap ((BitVec.ofInt 8 (IntKind.u8.wrap ((v:Int)*2)) |||BitVec.ofInt 8 (IntKind.u8.wrap (((bt b).toNat:Int) - 48))).toNat:Int)=((2*v+b.toNat:Nat):Int):=by
 have hb:IntKind.u8.wrap (((bt b).toNat:Int) - 48)=((b.toNat:Nat):Int):=by cases b<;>decide
 rw[hb,agq (n:=(v:Int)*2) (by omega) (by omega)]
 have h1:BitVec.ofInt 8 ((v:Int)*2)=BitVec.ofNat 8 (2*v):=by rw[←BitVec.ofInt_natCast];congr 1;omega
 have h2:BitVec.ofInt 8 ((b.toNat:Nat):Int)=BitVec.ofNat 8 b.toNat:=BitVec.ofInt_natCast ..
 have Py:b.toNat≤1:=by cases b<;>decide
 rw[h1,h2,BitVec.toNat_or,BitVec.toNat_ofNat,BitVec.toNat_ofNat,Nat.mod_eq_of_lt (by omega),Nat.mod_eq_of_lt (by omega)]
 have h3:2*v |||b.toNat=2*v+b.toNat:=by
  have:=Nat.two_pow_add_eq_or_of_lt (i:=1) (b:=b.toNat) (by omega) v
  rw[Nat.pow_one]at this
  rw[this]
 rw[h3]
 exact agq (by omega) (by omega)
theorem ah6{H:Hp}{v:Value}{size n:Nat}{xs:List Value}{fp:Option Nat}(h:Sl H size v n xs fp):∃a c,v= .slice a n c∧n≤c:=by
 obtain⟨_,h⟩:=h
 cases fp with
 |none=>obtain⟨rfl,rfl⟩:=h;exact⟨_,_,rfl,anG _⟩
 |some b=>obtain⟨l,c,rfl,_,hc,_⟩:=h;exact⟨_,_,rfl,hc⟩
theorem ag6{a a':Option Addr}{n n' c c':Nat}{x x':Value}(h:Value.tuple [.slice a n c,x].toArray= .tuple [.slice a' n' c',x'].toArray):n=n'∧c=c':=by
 have q2:=anP Array.toList (Value.tuple.inj h)
 injection q2 with q3 _
 injection q3 with _ h1 h2
 exact⟨h1,h2⟩
theorem adL{H:Hp}{bits:List UInt8}(hl:bits.length≤1000000000):
  af Tryz.prog adD [abl bits] H fun v H'=>aw (ai H H'∧aiH bits H' v∧∀a n c x,v= .tuple [.slice a n c,x].toArray→n≤c):=by
 refine bm afD ?_
 refine vs ?_
 refine(aaJ H hl).mono ?_
 rintro _ H1 ⟨rfl,f1⟩
 refine vs ?_
 by_cases hb:bits.all LL=true∧bits.length≤1048576
 rotate_left
 ·have e:(decide (bits.length≤1048576) && bits.all LL)=false:=by
   rw[←Bool.not_eq_true,aol,anU]
   exact fun h=>hb ⟨h.2,h.1⟩
  refine am.aW e ?_
  refine vs ?_
  exact⟨f1,.inl ⟨hb,rfl⟩,fun a n c x h=>by have:=ag6 h;omega⟩
 have e:(decide (bits.length≤1048576) && bits.all LL)=true:=by
  rw[aol,anU]
  exact⟨hb.2,hb.1⟩
 refine am.cF e ?_
 obtain⟨Py,rR⟩:=hb
 obtain⟨w,rfl⟩:=afd Py
 rw[anQ]at rR
 have er:((w.length:Nat):Int).tmod 8=((w.length%8:Nat):Int):=rfl
 have er2:((8 - w.length%8:Nat):Int).tmod 8=((S5 w.length:Nat):Int):=rfl
 have esz:(⟨(w.map bt).toArray⟩:ByteArray).size=w.length:=by rw[E2,anQ]
 simp(disch:=(first|omega| (simp only[Zs]<;>omega)|fail)) only[go_sem, ↓reduceIte,Zv,esz,List.size_toArray,anQ,er]
 rw[if_neg (by decide)]
 refine vs ?_
 rw[wrap64 (n:=(8:Int) - ((w.length%8:Nat):Int)) (by omega) (by omega),show(8:Int) - ((w.length%8:Nat):Int)=((8 - w.length%8:Nat):Int) by omega]
 refine v1 er2 ?_
 rw[if_neg (by decide)]
 refine vs ?_
 have hmn:S5 w.length<8:=by unfold S5;omega
 rw[agq (n:=((S5 w.length:Nat):Int)) (by omega) (by omega)]
 have f2:ai H1 (H1.new 5 [.int .u8 ((S5 w.length:Nat):Int)]):=(ag.refl _ _).new _ _
 have s2:Sl (H1.new 5 [.int .u8 ((S5 w.length:Nat):Int)]) 1 (.slice (some ⟨H1.size,0,none⟩) 1 1) 1 (u8s [S5 w.length]) (some H1.size):=Sl.cf (size:=1) (n:=1) (xs:=u8s [S5 w.length]) rfl rfl
 generalize H1.new 5 [.int .u8 ((S5 w.length:Nat):Int)]=H2 at*
 refine(adF H2 [48] (S5 w.length) (by simp) (by omega)).mono ?_
 rintro _ H3 ⟨rfl,f3⟩
 refine vs ?_
 rw[ad4,agN _ _ (by simp;omega)]
 refine vs ?_
 have akl:w.map bt++List.replicate (S5 w.length) 48=(zo w).map bt:=by
  unfold zo
  rw[an8,apC]
  rfl
 rw[akl]
 have s3:=s2.ext f3 (fun _ _ h=>h)
 have f13:=(f1.trans f2).trans f3
 have z1:=f1.size
 have hfm:=ahh w
 have U5:=afu (zo w)
 refine bk.intro (fun m env H'=>∃ (j:Nat) (wv:Value) (b:Nat),m=(w.length+7) / 8 - j∧j≤(w.length+7) / 8∧ai H H'∧H.size≤b∧Sl H' 1 wv (S5 w.length::(bytesOf (zo w)).take j).length (u8s (S5 w.length::(bytesOf (zo w)).take j)) (some b)∧
  env=[(0,aav ((zo w).drop (8*j))),(5,wv)]) _ ⟨0,_,_,rfl,by omega,f13,z1,by rw[List.take_zero];exact s3,by rw[Nat.mul_zero,List.drop_zero]⟩ ?_
 clear s3 s2 f2 f3 f13
 rintro m env H4 ⟨j,wv,b,hm,hj,f4,hbb,s4,rfl⟩
 have z4:=f4.size
 refine vs ?_
 rw[agR]
 refine am.dec (fun hz=>?_) (fun hz=>?_)<;>refine vs ?_
 ·have Ol:(zo w).drop (8*j)=[]:=by simpa using hz
  have hlz:=anP List.length Ol
  rw[List.length_drop,aoH]at hlz
  have e1:S5 w.length::(bytesOf (zo w)).take j=adW w:=by
   unfold adW
   rw[List.take_of_length_le (by omega)]
  rw[e1]at s4
  obtain⟨_,c0,HL,lu⟩:=ah6 s4
  obtain⟨lb,c,rfl,_⟩:=Sl.byte s4
  injection HL with _ _ xF
  exact⟨f4,.inr ⟨w,_,c,rfl,rR,rfl,s4.rd⟩,fun a n c' x h=>by have:=ag6 h;omega⟩
 have Ol:(zo w).drop (8*j)≠[]:=by simpa using hz
 have hlz:=List.length_pos_iff.2 Ol
 rw[List.length_drop]at hlz
 have gD:j< (w.length+7) / 8:=by omega
 refine bk.intro (fun m env H'=>H'=H4∧∃k:Nat,m=8 - k∧k≤8∧
  env=[(0,aav ((zo w).drop (8*j))),(5,wv),(6,.int .u8 (wE (((zo w).drop (8*j)).take k):Nat)),(27,i64 k)]) _ ⟨rfl,0,rfl,by omega,rfl⟩ ?_
 rintro m env H5 ⟨rfl,k,hm5,hk,rfl⟩
 have hv:=afg (zo w) (8*j) k hk
 refine vs ?_
 refine am.dec (fun aO=>?_) (fun aO=>?_)<;>refine vs ?_
 rotate_left
 ·have hk8:k=8:=by omega
  subst hk8
  refine akd (B:=H.size) hbb z4 s4 _ (by simp;omega) fun w' H' b' jy s' e'=>?_
  refine vs ?_
  have anb:(((zo w).drop (8*j)).map bt).toArray.size=(zo w).length - 8*j:=by rw[List.size_toArray,anQ,List.length_drop]
  rw[anb]
  refine⟨⟨by omega,by omega,by omega⟩,?_⟩
  refine vs ?_
  refine⟨(w.length+7) / 8 - (j+1),by omega,j+1,w',b',rfl,by omega,f4.then e' (fun z hz=>hz),jy,?_,?_⟩
  ·have e1:S5 w.length::(bytesOf (zo w)).take (j+1)=(S5 w.length::(bytesOf (zo w)).take j)++[wE (((zo w).drop (8*j)).take 8)]:=by
    rw[aoa,agb (by omega),aoD]
    rfl
   rw[←e1]at s'
   exact s'
  ·rw[aim]
   have e1:(((((zo w).drop (8*j)).map bt).take (((zo w).length - 8*j:Nat):Int).toNat).drop (8:Int).toNat)=((zo w).drop (8*(j+1))).map bt:=by
    rw[List.take_of_length_le (by rw[anQ,List.length_drop];omega),←List.map_drop,apm]
    rfl
   rw[e1]
 obtain⟨x,hx⟩:∃x,(zo w)[8*j+k]? =some x:=⟨_,ans (by omega)⟩
 have PF:(⟨(((zo w).drop (8*j)).map bt).toArray⟩:ByteArray)[k]? =some (bt x):=by rw[agP,anR,aob,hx];rfl
 have hvt:=ahs hx
 refine⟨by omega,?_⟩
 refine v2 Int.toNat_natCast PF ?_
 have HM:wE (((zo w).drop (8*j)).take k)<128:=by
  have h1:=acX (((zo w).drop (8*j)).take k)
  have h2:2^ (((zo w).drop (8*j)).take k).length≤2^7:=Nat.pow_le_pow_right (by decide) (by rw[aoj];omega)
  omega
 have ob:=ai3 (wE (((zo w).drop (8*j)).take k)) x HM
 rw[show((2:Int)^min (Int.toNat 1) 8)=2 from rfl,wrap64 (n:=(k:Int)+1) (by omega) (by omega)]
 refine⟨8 - (k+1),by omega,trivial,k+1,rfl,by omega,?_⟩
 rw[hvt]
 exact anP (fun z=>[(0,aav ((zo w).drop (8*j))),(5,wv),(6,Value.int .u8 z),(27,i64 ((k:Int)+1))]) ob
theorem aen{H:Hp}{bits:List UInt8}(hl:bits.length≤1000000000):
  af Tryz.prog adD [abl bits] H fun v H'=>aw (ai H H'∧aiH bits H' v):=
 (adL hl).mono fun v H' h=>⟨h.1,h.2.1⟩
end Go.Proofs.YtjlnnljohemifaaGreat

namespace Go.Proofs.YtjlnnljohemifaaGreat
open Go Go.Vc Go.Shelf Go.RowKit
theorem sizeBuilder:(Tryz.prog.info? 144).map (·.size)=some 2:=by kernel_rfl
theorem liesBuilder:liesAt Tryz.prog Tryz.prog.depth 144 (2 / Tryz.prog.cellsOf 144) 0 144 1=true:=by kernel_rfl
theorem aeo(b:Nat)(w:World)(h0:w.cell? ⟨b,0,none⟩=some (.pointer (some ⟨b,0,none⟩))):
  Calls Tryz.prog 124 #[.pointer (some ⟨b,0,none⟩)] w fun e w'=>e= .returned (.tuple #[])∧w'=w:=by
 obtain⟨j,hj,_⟩:=Option.map_eq_some_iff.1 sizeBuilder
 have mixed:=Tryz.checked.mixed
 have t72:=Tryz.underlying144;have a72:=Tryz.isAgg144;have z72:=Tryz.sizeOf144;have v72:=Tryz.zeroValue144;have u72:=run_underlying Tryz.underlying144
 have t70:=Tryz.underlying142;have a70:=Tryz.isAgg142;have z70:=Tryz.sizeOf142;have v70:=Tryz.zeroValue142;have u70:=run_underlying Tryz.underlying142
 have t4:=Tryz.underlying4;have a4:=Tryz.isAgg4;have z4:=Tryz.sizeOf4;have v4:=Tryz.zeroValue4;have u4:=run_underlying Tryz.underlying4
 have t164:=Tryz.underlying243;have a164:=Tryz.isAgg243;have z164:=Tryz.sizeOf243;have v164:=Tryz.zeroValue243;have akm:=run_underlying Tryz.underlying243
 go_enter Tryz.func124,Tryz.ntmps124
 go_wp2
 rw[Lib.run_neq_ptr_same w _ t70 hj]
 go_wp2
 go_end0
 exact⟨rfl,rfl⟩
theorem adM(b:Nat)(w:World)(h0:w.cell? ⟨b,0,none⟩=some (.pointer none))(EW:w.shape? b=some (144,2))(hfz:w.frozen? ⟨b,0,none⟩=false):
  Calls Tryz.prog 124 #[.pointer (some ⟨b,0,none⟩)] w fun e w'=>e= .returned (.tuple #[])∧w'=w.setCell ⟨b,0,none⟩ (.pointer (some ⟨b,0,none⟩)):=by
 obtain⟨j,hj,hjs⟩:=Option.map_eq_some_iff.1 sizeBuilder
 have mixed:=Tryz.checked.mixed
 have t72:=Tryz.underlying144;have a72:=Tryz.isAgg144;have z72:=Tryz.sizeOf144;have v72:=Tryz.zeroValue144;have u72:=run_underlying Tryz.underlying144
 have t70:=Tryz.underlying142;have a70:=Tryz.isAgg142;have z70:=Tryz.sizeOf142;have v70:=Tryz.zeroValue142;have u70:=run_underlying Tryz.underlying142
 have t4:=Tryz.underlying4;have a4:=Tryz.isAgg4;have z4:=Tryz.sizeOf4;have v4:=Tryz.zeroValue4;have u4:=run_underlying Tryz.underlying4
 have t164:=Tryz.underlying243;have a164:=Tryz.isAgg243;have z164:=Tryz.sizeOf243;have v164:=Tryz.zeroValue243;have akm:=run_underlying Tryz.underlying243
 go_enter Tryz.func124,Tryz.ntmps124
 go_wp2
 rw[Lib.run_to_unsafe w ⟨b,0,none⟩ t70 t164 hj (by rw[hjs];decide) EW (Nat.zero_lt_succ 1)]
 simp only[Result.andThen]
 rw[Oper.upon_value]
 go_wp2
 rw[run_callFunc_extern Tryz.func161 (by kernel_rfl) (by kernel_rfl) (by kernel_rfl) (e:=Extern.AbiNoEscape.same) (by kernel_rfl)]
 rw[Lib.run_noEscape]
 simp only[Result.andThen]
 rw[Oper.upon_value]
 go_wp2
 rw[Lib.run_from_unsafe w ⟨b,0,none⟩ t164 t70 hj EW liesBuilder]
 simp only[Result.andThen]
 rw[Oper.upon_value]
 go_wp2
 go_end0
 exact⟨rfl,rfl⟩
theorem aep(B b:Nat)(bs:List Value)(w:World)(h:Lib.IsBuilder 144 5 B b bs w):
  Calls Tryz.prog 124 #[.pointer (some ⟨b,0,none⟩)] w fun e w'=>e= .returned (.tuple #[])∧(Lib.BuilderAt 144 5 B b (.pointer (some ⟨b,0,none⟩)) bs w'∧Below B w w'):=by
 rcases h with h|h
 ·refine(adM b w h.cell0 h.shape h.frozen0).mono ?_
  rintro e w' ⟨rfl,rfl⟩
  exact⟨rfl,h.used _,(Below.refl B w).setCell (p:=⟨b,0,none⟩) h.1 _⟩
 ·refine(aeo b w h.cell0).mono ?_
  rintro e w' ⟨rfl,rfl⟩
  exact⟨rfl,h,Below.refl B _⟩
theorem ah7:(Tryz.prog.info? 5).map (fun i=>(i.zero,i.size,i.bytes))=some (some (.int .u8 0),1,1):=by kernel_rfl
theorem neB5:144≠5:=by decide
theorem adN(B b:Nat)(bs:List Value)(s:ByteArray)(w:World)(h:Lib.IsBuilder 144 5 B b bs w)(aX:bs.length+s.size≤140737488355328)(hBw:B≤w.heap.size):
  Calls Tryz.prog 91 #[.pointer (some ⟨b,0,none⟩),.string s] w fun e w'=>e= .returned (.tuple #[.int .i64 s.size,.nilIface])∧(Lib.BuilderAt 144 5 B b (.pointer (some ⟨b,0,none⟩)) (bs++Lib.strCells s) w'∧Below B w w'):=by
 obtain⟨i0,hi,Ib,Ol,dM⟩:=info_parts ah7
 have mixed:=Tryz.checked.mixed
 have t72:=Tryz.underlying144;have a72:=Tryz.isAgg144;have z72:=Tryz.sizeOf144;have v72:=Tryz.zeroValue144;have u72:=run_underlying Tryz.underlying144
 have t70:=Tryz.underlying142;have a70:=Tryz.isAgg142;have z70:=Tryz.sizeOf142;have v70:=Tryz.zeroValue142;have u70:=run_underlying Tryz.underlying142
 have t37:=Tryz.underlying75;have a37:=Tryz.isAgg75;have z37:=Tryz.sizeOf75;have v37:=Tryz.zeroValue75;have u37:=run_underlying Tryz.underlying75
 have t3:=Tryz.underlying3;have a3:=Tryz.isAgg3;have z3:=Tryz.sizeOf3;have v3:=Tryz.zeroValue3;have u3:=run_underlying Tryz.underlying3
 have t9:=Tryz.underlying9;have a9:=Tryz.isAgg9;have z9:=Tryz.sizeOf9;have v9:=Tryz.zeroValue9;have qM:=run_underlying Tryz.underlying9
 have t4:=Tryz.underlying4;have a4:=Tryz.isAgg4;have z4:=Tryz.sizeOf4;have v4:=Tryz.zeroValue4;have u4:=run_underlying Tryz.underlying4
 have t164:=Tryz.underlying243;have a164:=Tryz.isAgg243;have z164:=Tryz.sizeOf243;have v164:=Tryz.zeroValue243;have akm:=run_underlying Tryz.underlying243
 have t5:=Tryz.underlying5;have a5:=Tryz.isAgg5;have z5:=Tryz.sizeOf5;have v5:=Tryz.zeroValue5;have u5:=run_underlying Tryz.underlying5
 have atU:∀args w,(callFunc 124 args).run Tryz.prog w= .ok (.enter 124 args) w:=enters_of Tryz.func124 (by kernel_rfl) rfl
 go_enter Tryz.func91,Tryz.ntmps91
 go_wp2_with (go_at_fn 124;refine(aep B b bs _ h).mono ?_)
 rintro e w1 ⟨rfl,h1,Py⟩
 obtain⟨hB,v,hbk,PT,aP⟩:=h1
 have c0:w1.cell? ⟨b,0,none⟩=some (.pointer (some ⟨b,0,none⟩)):=by rw[Lib.cell_of_heap hbk];rfl
 have c1:w1.cell? ⟨b,1,none⟩=some v:=by rw[Lib.cell_of_heap hbk];rfl
 go_wp2_with (at_builtin;refine Lib.wpList_append_own_string _ rfl _ _ 75 9 rfl B 5 i0 t37 t9 hi Ib Ol dM _ _ _ rfl PT s rfl ?c3 ?c4 ?c5 ?_)
 case c3=>unfold maxLen;omega
 case c4=>omega
 case c5=>have:=Py.size;omega
 intro v' w2 aiI aiJ _
 have aO:b<w1.heap.size:=by
  rcases aoL b w1.heap.size with h'|h'
  ·exact h'
  ·simp[aoJ h']at hbk
 have rR:w2.heap[b]? =some (.cells #[.pointer (some ⟨b,0,none⟩),v] 144 (0,0)):=by
  rw[aiJ.block b aO (fun e=>aP e.symm)]
  exact hbk
 have d0:w2.cell? ⟨b,0,none⟩=some (.pointer (some ⟨b,0,none⟩)):=by rw[Lib.cell_of_heap rR];rfl
 have d1:w2.cell? ⟨b,1,none⟩=some v:=by rw[Lib.cell_of_heap rR];rfl
 have f1:w2.frozen? ⟨b,1,none⟩=false:=Lib.frozen_of_heap rR 1
 obtain⟨ao,n',cap,rfl⟩:∃ao n' cap,v'= .slice ao n' cap:=by
  rcases aiI.2 with ⟨hv,_⟩| ⟨g,cap,cur,hv,_⟩
  ·exact⟨_,_,_,hv⟩
  ·exact⟨_,_,_,hv⟩
 go_wp2
 go_ret2
 refine⟨rfl,?_,?_⟩
 ·exact Lib.BuilderAt.put (T:=144) (e:=5) hB rR (bs':=bs++Lib.strCells s) (by simpa[Lib.strCells_length]using aiI) neB5
 ·exact(Py.grown aiJ (by have:=Py.size;omega) (fun k hk=>(PT.lt k hk).1)).setCell (p:=⟨b,1,none⟩) hB _
theorem aeq{T e:TypeId}{B b:Nat}{bs:List Value}{w w':World}(h:Lib.IsBuilder T e B b bs w)(hh:w'.heap=w.heap):Lib.IsBuilder T e B b bs w':=by
 unfold Lib.IsBuilder Lib.BuilderAt World.ownsRow at*
 rw[hh]
 exact h
def aer(B b:Nat)(s:List UInt8)(H:Hp):Prop:=B≤H.size∧∀w:World,w.heap=H→Lib.IsBuilder 144 5 B b (Lib.byteCells s) w
theorem aer.of{B b:Nat}{s:List UInt8}{w:World}(hB:B≤w.heap.size)(h:Lib.IsBuilder 144 5 B b (Lib.byteCells s) w):aer B b s w.heap:=⟨hB,fun w' hw=>aeq h hw⟩
theorem aer.new{B:Nat}(H:Hp)(hB:B≤H.size):aer B H.size [] (H.new 144 [.pointer none,.slice none 0 0]):=by
 refine⟨by rw[aq];omega,fun w hw=>.inl ⟨hB,.slice none 0 0,?_,⟨by simp[Lib.byteCells],.inl ⟨rfl,rfl⟩⟩,by simp[Value.ownBlock]⟩⟩
 rw[hw]
 simp[Hp.new]
theorem adj{B:Nat}{w w':World}(h:Below B w w'):bZ w w'∧ag (fun z=>B≤z) w.heap w'.heap:=⟨⟨h.os,h.output⟩,h.size,fun k _ hk=>h.block k (Nat.lt_of_not_le hk)⟩
theorem adw{B b:Nat}{s:List UInt8}{H:Hp}(h:aer B b s H)(t:List UInt8)(hl:s.length+t.length≤1000000000000):
  af Tryz.prog aar [ptr b,abl t] H fun v H'=>aw (v= .tuple [i64 t.length,.nilIface].toArray∧aer B b (s++t) H'∧ag (fun z=>B≤z) H H'):=fun w hw=>by
 obtain⟨hB,h⟩:=h
 have hs:(⟨t.toArray⟩:ByteArray).size=t.length:=by simp[ByteArray.size]
 refine(adN B b (Lib.byteCells s) ⟨t.toArray⟩ w (h w hw) (by rw[hs,Lib.byteCells_length];omega) (by rw[hw];exact hB)).mono ?_
 rintro e w' ⟨rfl,hb,ais⟩
 obtain⟨s1,s2⟩:=adj ais
 refine⟨_,rfl,s1,by rw[hs],?_,by rw[←hw];exact s2⟩
 have e1:Lib.byteCells s++Lib.strCells ⟨t.toArray⟩=Lib.byteCells (s++t):=by simp[Lib.byteCells,Lib.strCells]
 rw[e1]at hb
 exact aer.of (by have:=ais.size;rw[hw]at this;omega) (.inr hb)
theorem afj{B b:Nat}{s:List UInt8}{H:Hp}(h:aer B b s H):
  af Tryz.prog 92 [ptr b] H fun v H'=>aw (v=abl s∧ag (fun z=>B≤z) H H'):=fun w hw=>by
 obtain⟨hB,h⟩:=h
 refine(Tryz.Builder_String_any B b s w (h w hw) (by rw[hw];exact hB)).mono ?_
 rintro e w' ⟨rfl,ais⟩
 obtain⟨s1,s2⟩:=adj ais
 exact⟨_,rfl,s1,rfl,by rw[←hw];exact s2⟩
end Go.Proofs.YtjlnnljohemifaaGreat

namespace Go.Proofs.YtjlnnljohemifaaGreat
open Go Go.Vc
theorem ahy{B b:Nat}{s:List UInt8}{H:Hp}(h:aer B b s H):af Tryz.prog aae [ptr b] H fun v H'=>aw (v=i64 s.length∧H'=H):=by
 intro w hw
 obtain⟨hB,h⟩:=h
 have key:∃p a c,H.rd b=some [p,.slice a s.length c]:=by
  have h0:=h w hw
  have k2:∀p,Lib.BuilderAt 144 5 B b p (Lib.byteCells s) w→∃p a c,H.rd b=some [p,.slice a s.length c]:=by
   rintro p ⟨h1,v,h2,⟨h3,h4⟩,h5⟩
   have hr:H.rd b=some [p,v]:=by
    rw[hw]at h2
    unfold Hp.rd
    rw[h2]
   rw[Lib.byteCells_length]at h3 h4
   rcases h4 with ⟨hv,h6⟩| ⟨g,cap,cur,hv,_⟩
   ·rw[h6]
    exact⟨p,none,0,by rw[hr,hv]⟩
   ·exact⟨p,_,cap,by rw[hr,hv]⟩
  rcases h0 with h0|h0
  ·exact k2 _ h0
  ·exact k2 _ h0
 obtain⟨p,a,c,hr⟩:=key
 have hc:af Tryz.prog aae [ptr b] H fun v H'=>aw (v=i64 s.length∧H'=H):=by
  refine bm aaL ?_
  refine v1 hr ?_
  exact⟨rfl,rfl⟩
 exact hc w hw
theorem aeV{ws:List (List Bool)}{s:Int}{r:List Int}{out:List Bool}:afH ws (s::r) out=if s<0∨(ws.length:Int)≤s∨1048576<out.length+(ws.getD s.toNat []).length then none else afH ws r (out++ws.getD s.toNat []):=rfl
theorem adx{H:Hp}{x:Nat}{S:Nat→Prop}{ws:List (List Bool)}(h:aaX H x S ws){a:Option Addr}{c:Nat}{xs:List Int}(hx:dc H 1 (.slice a xs.length c) xs.length (xs.map i64))(my:xs.length≤1000000000):
  af Tryz.prog abU [ptr x,.slice a xs.length c] H fun v H'=>aw (v=ake (afH ws xs [])∧ai H H'):=by
 refine bm acm ?_
 refine vs ?_
 have f0:ai H (H.new 144 [.pointer none,.slice none 0 0]):=(ag.refl _ _).new _ _
 have b0:=aer.new (B:=H.size) H (anG _)
 generalize H.new 144 [.pointer none,.slice none 0 0]=H0 at*
 refine bk.intro (fun m env H'=>∃ (j:Nat) (out:List Bool),m=xs.length - j∧j≤xs.length∧ai H H'∧aer H.size H.size (out.map bt) H'∧afH ws xs []=afH ws (xs.drop j) out∧out.length≤1048576∧
  env=[(0,ptr x),(6,ptr H.size),(10,.slice a xs.length c),(11,i64 xs.length),(12,i64 j)]) xs.length ⟨0,[],by omega,by omega,f0,b0,rfl,by simp,rfl⟩ ?_
 clear f0 b0
 rintro m env H1 ⟨j,out,hm,hj,f1,b1,he,ho,rfl⟩
 have h1:=h.fresh f1
 have kU:=hx.fresh f1
 have z1:=f1.size
 refine vs ?_
 refine am.dec (fun aO=>?_) (fun aO=>?_)<;>refine vs ?_
 rotate_left
 ·have gD:j=xs.length:=by omega
  subst gD
  rw[List.drop_length]at he
  refine(afj b1).mono ?_
  rintro _ H2 ⟨rfl,e2⟩
  refine vs ?_
  rw[he]
  exact⟨rfl,f1.then e2 (fun z hz=>hz)⟩
 obtain⟨s,hs⟩:∃s,xs[j]? =some s:=⟨_,ans (by omega)⟩
 obtain⟨_,b,o,lb,rfl,fA,bX⟩:=dc.num kU hs
 rw[aio hs,aeV]at he
 refine⟨⟨by omega,by omega⟩,?_⟩
 refine v4 fA Int.toNat_natCast anw bX ?_
 refine(S9 h1 s).mono ?_
 rintro _ _ ⟨rfl,rfl⟩
 refine vs ?_
 rw[agR]
 have EW:(aaZ ws s).length≤1000:=by
  unfold aaZ
  split
  ·simp
  ·exact aip h.short _
 refine am.dec (fun hz=>?_) (fun hz=>?_)<;>refine vs ?_
 ·have Ol:aaZ ws s=[]:=by simpa using hz
  have atV:s<0∨(ws.length:Int)≤s:=by
   unfold aaZ at Ol
   by_cases hs0:s<0
   ·exact .inl hs0
   ·rw[if_neg hs0]at Ol
    by_cases eM:s.toNat<ws.length
    ·exact absurd Ol (h.free.ne _ (anz (adT eM)))
    ·exact .inr (by omega)
  rw[if_pos (by omega)]at he
  rw[he]
  exact⟨rfl,f1⟩
 have Ol:aaZ ws s≠[]:=by simpa using hz
 have ako:0≤s∧s< (ws.length:Int)∧aaZ ws s=ws.getD s.toNat []:=by
  unfold aaZ at Ol ⊢
  by_cases hs0:s<0
  ·rw[if_pos hs0]at Ol
   exact absurd rfl Ol
  ·rw[if_neg hs0]at Ol ⊢
   refine⟨by omega,?_,rfl⟩
   apply anW
   intro CL
   rw[anx,anK (by omega)]at Ol
   exact Ol rfl
 obtain⟨g0,g1,g2⟩:=ako
 rw[g2]at EW ⊢
 refine(ahy b1).mono ?_
 rintro _ _ ⟨rfl,rfl⟩
 refine vs ?_
 rw[List.size_toArray,anQ,anQ,wrap64 (n:=(out.length:Int)+((ws.getD s.toNat []).length:Int)) (by omega) (by omega)]
 refine am.dec (fun g3=>?_) (fun g3=>?_)<;>refine vs ?_
 ·rw[if_pos (by omega)]at he
  rw[he]
  exact⟨rfl,f1⟩
 rw[if_neg (by omega)]at he
 refine(adw b1 ((ws.getD s.toNat []).map bt) (by rw[anQ,anQ];omega)).mono ?_
 rintro _ H2 ⟨rfl,b2,e2⟩
 refine vs ?_
 rw[wrap64 (n:=(j:Int)+1) (by omega) (by omega)]
 refine⟨xs.length - (j+1),by omega,j+1,out++ws.getD s.toNat [],rfl,by omega,f1.then e2 (fun z hz=>hz),?_,he,by rw[anD];omega,rfl⟩
 rw[an8]
 exact b2
end Go.Proofs.YtjlnnljohemifaaGreat
