/- Texts put behind each other. -/
import Derived.Test.YthpjfeolagohkaaGreatK98
import Derived.Test.YthpjfeolagohkaaGreatK0
import Derived.Test.YthpjfeolagohkaaGreatK22
import Derived.Test.YthpjfeolagohkaaGreatK23
set_option maxRecDepth 100000
set_option maxHeartbeats 8000000
set_option linter.unusedVariables false
set_option linter.unusedSimpArgs false
namespace Go.Proofs.YthpjfeolagohkaaGreat
open Go Go.Vc
def kR(x:Int):Int:=max x 1
def On(l:List Int):List Nat:=l.map fun x=>(kR x).toNat
theorem Tz(x:Int):1≤kR x:=by unfold kR;omega
theorem TA{l:List Int}{j:Nat}{x:Int}(hx:l[j]? =some x):((l.take j).map kR++l.drop j).set j (kR x)=(l.take (j+1)).map kR++l.drop (j+1):=by
 obtain⟨h1,h2⟩:=aoq.1 hx
 have e:((l.take j).map kR).length=j:=by simp;omega
 rw[List.set_append,e,if_neg (by omega),apq,apm h1,apM,aoM,hx,ao5,apk]
 rfl
theorem ef.acY{M:Nat}{ns:List Nat}{j free at_ n:Nat}(h:ef M ns j free at_)(hf:free=0)(h2:n≤M):ef M ns j free n:=by
 subst hf
 exact h.aaH h2
theorem GL(xs:List Int):(iM xs).Perm xs:=List.mergeSort_perm _ _
theorem Kk(xs:List Int):(iM xs).Pairwise (· ≤ ·):=by
 have:=List.pairwise_mergeSort (le:=fun x y:Int=>decide (x≤y)) (fun a b c h1 h2=>by simp at*;omega) (fun a b=>by simp;omega) xs
 exact this.imp fun h=>by simpa using h
theorem Oo(l:List Int):((iM (l.map kR)).map Int.toNat).Perm (On l):=by
 have:=(GL (l.map kR)).map Int.toNat
 rwa[apE]at this
theorem zu{H:Hp}{a:Option Addr}{c:Nat}{l:List Int}(h:cK H 1 (.slice a l.length c) l.length (l.map i64))(hl:l.length≤1000000){M:Nat}(hM:∀n∈On l,n≤M)(hM2:M≤9223372036854775807):
  af Tryz.prog DZ [.slice a l.length c] H fun v H'=>ar (v=i64 (Iv M (On l))∧am H H'):=by
 refine aZ D4 ?_
 refine vs ?_
 refine(oh h hl).mono ?_
 rintro r H1 ⟨f1,fp,s1,fU⟩
 obtain⟨ra,rc,rfl,hrc⟩:=OT s1
 refine vs ?_
 refine aS.intro (fun m env H'=>am H H'∧∃ (j:Nat),m=l.length - j∧j≤l.length∧Sl H' 1 (.slice ra l.length rc) l.length (((l.take j).map kR++l.drop j).map i64) fp∧
  env=[(3,.slice ra l.length rc),(12,i64 l.length),(13,i64 j)]) l.length ⟨f1,0,by omega,by omega,by simpa using s1,rfl⟩ ?_
 rintro m env H2 ⟨f2,j,hm,hj,s2,rfl⟩
 refine vs ?_
 refine ai.dec (fun aK=>?_) (fun aK=>?_)<;>refine vs ?_
 ·have gf:j<l.length:=by omega
  obtain⟨x,hx⟩:∃x,l[j]? =some x:=⟨_,aop gf⟩
  have DG:((l.take j).map kR++l.drop j)[j]? =some x:=by
   rw[aoP (by simp;omega)]
   simp only[aoA,aoS,aqd hj]
   rw[aoX,apq,Nat.add_zero,hx]
  cases fp with
  |none=>obtain⟨_,h0,_⟩:=s2;omega
  |some b=>
   obtain⟨_,rfl,lb,ho,hc⟩:=Sl.num s2 DG
   have jx:l.length≤lb.length:=by
    obtain⟨_,l',c2,_,h2,h3,h4,_⟩:=s2
    rw[ho]at h2;injection h2 with h2;subst h2;omega
   refine⟨⟨by omega,by omega⟩,?_⟩
   refine v5 (ae ho) Int.toNat_natCast aos aor hc ?_
   refine⟨⟨by omega,by omega⟩,?_⟩
   refine v4 ho Int.toNat_natCast aos aor ?_
   refine⟨by omega,?_⟩
   have s3:=s2.sI ho j (i64 (kR x))
   have e3:am H (H2.wr b (lb.set j (i64 (kR x)))):=f2.then ((ag.refl (fun z=>z=b) _).wr (fun _=>rfl) _) (fun z hz=>by have:=fU b rfl;omega)
   rw[←ao9,TA hx]at s3
   have hif:(if 1>x then(1:Int)else x)=kR x:=by unfold kR;split<;>omega
   refine vs ?_
   rw[hif,wrap64 (n:=(j:Int)+1) (by omega) (by omega)]
   exact⟨l.length - (j+1),by omega,e3,j+1,rfl,by omega,s3,rfl⟩
 have gf:j=l.length:=by omega
 subst gf
 rw[aoQ,aqy,ao3]at s2
 have S8:(l.map kR).length=l.length:=aoA ..
 rw[←S8]at s2 ⊢
 refine(CI s2 (by omega)).mono ?_
 rintro _ H3 ⟨rfl,s3,e3⟩
 have f3:am H H3:=f2.then e3 (fun z hz=>(fU z hz).1)
 have hL:(iM (l.map kR)).length=l.length:=by rw[pW,S8]
 have Ka:∀x∈iM (l.map kR),1≤x∧x≤M:=fun x hx=>by
  have:=(GL (l.map kR)).mem_iff.1 hx
  obtain⟨y,hy,rfl⟩:=ao8.1 this
  have h1:=Tz y
  have h2:=hM (kR y).toNat (ao8.2 ⟨y,hy,rfl⟩)
  omega
 rw[S8,←hL]at s3 ⊢
 have kP:=Oo l
 have Mq:=Kk (l.map kR)
 generalize hLL:iM (l.map kR)=L at*
 generalize acZ:L.map Int.toNat=ns at*
 have VS:ns.length=L.length:=by rw[←acZ];simp
 refine vs ?_
 refine aS.intro (fun m env H'=>H'=H3∧∃ (j free at_:Nat),m=L.length - j∧j≤L.length∧ef M ns j free at_∧free≤2*L.length+1∧(∀x,L[j]? =some x→(at_:Int)≤x)∧
  env=[(3,.slice ra L.length rc),(5,i64 free),(6,i64 at_),(27,.slice ra L.length rc),(28,i64 L.length),(29,i64 j)]) L.length ⟨rfl,0,1,0,by omega,by omega,ef.begin M ns,by omega,fun x hx=>by have:=Ka x (aow hx);omega,rfl⟩ ?_
 rintro m env H4 ⟨rfl,j,free,at_,hm,hj,hk,Ss,lC,rfl⟩
 refine vs ?_
 refine ai.dec (fun aK=>?_) (fun aK=>?_)<;>refine vs ?_
 ·obtain⟨x,hx⟩:∃x,L[j]? =some x:=⟨_,aop (by omega)⟩
  obtain⟨x1,x2⟩:=Ka x (aow hx)
  have G4:ns[j]? =some x.toNat:=by rw[←acZ,aoG,hx];rfl
  have qA:=lC x hx
  obtain⟨_,b,o,lb,rfl,fw,aV⟩:=cK.num s3.rd hx
  refine⟨⟨by omega,by omega⟩,?_⟩
  refine v4 fw Int.toNat_natCast aos aV ?_
  refine aS.intro (fun m' env H'=>H'=H4∧∃ (free at_:Nat),m'=x.toNat - at_∧ef M ns j free at_∧free≤2*L.length+1∧(at_:Int)≤x∧
   env=[(3,.slice (some ⟨b,o,none⟩) L.length rc),(5,i64 free),(6,i64 at_),(8,i64 x),(27,.slice (some ⟨b,o,none⟩) L.length rc),(28,i64 L.length),(29,i64 j)]) (x.toNat - at_) ⟨rfl,free,at_,rfl,hk,Ss,qA,rfl⟩ ?_
  clear hk Ss qA lC
  rintro m' env H5 ⟨rfl,free,at_,hm',hk,Ss,qA,rfl⟩
  refine vs ?_
  refine ai.dec (fun g1=>?_) (fun g1=>?_)<;>refine vs ?_
  ·refine ai.dec (fun g2=>?_) (fun g2=>?_)<;>refine vs ?_
   ·refine ai.dec (fun g3=>?_) (fun g3=>?_)<;>refine vs ?_
    ·rw[wrap64 (n:=(free:Int)*2) (by omega) (by omega),wrap64 (n:=(at_:Int)+1) (by omega) (by omega)]
     exact⟨x.toNat - (at_+1),by omega,trivial,free*2,at_+1,rfl,hk.double (by omega),by omega,by omega,rfl⟩
    ·have hK:ef M ns j free x.toNat:=hk.jump (by omega) (by omega) (by omega)
     refine ai.dec (fun hz=>?_) (fun hz=>?_)<;>refine vs ?_
     ·have IB:free=0:=by omega
      subst IB
      rw[←zC M kP,hK.none (m:=x.toNat) G4]
      exact⟨rfl,f3⟩
     ·rw[wrap64 (n:=(free:Int) - 1) (by omega) (by omega),wrap64 (n:=(j:Int)+1) (by omega) (by omega)]
      refine⟨L.length - (j+1),by omega,trivial,j+1,free - 1,x.toNat,rfl,by omega,hK.use G4 (by omega),by omega,fun y hy=>?_,by rw[show((free - 1:Nat):Int)=(free:Int) - 1 by omega,show((x.toNat:Nat):Int)=x by omega];rfl⟩
      obtain⟨Kz,vF⟩:=aoq.1 hy
      obtain⟨kD,DG⟩:=aoq.1 hx
      have:=apl.1 Mq j (j+1) kD Kz (by omega)
      rw[vF,DG]at this
      omega
   ·have hK:ef M ns j free x.toNat:=hk.acY (by omega) (by omega)
    refine ai.dec (fun hz=>?_) (fun hz=>?_)<;>refine vs ?_
    ·have IB:free=0:=by omega
     subst IB
     rw[←zC M kP,hK.none (m:=x.toNat) G4]
     exact⟨rfl,f3⟩
    ·rw[wrap64 (n:=(free:Int) - 1) (by omega) (by omega),wrap64 (n:=(j:Int)+1) (by omega) (by omega)]
     refine⟨L.length - (j+1),by omega,trivial,j+1,free - 1,x.toNat,rfl,by omega,hK.use G4 (by omega),by omega,fun y hy=>?_,by rw[show((free - 1:Nat):Int)=(free:Int) - 1 by omega,show((x.toNat:Nat):Int)=x by omega];rfl⟩
     obtain⟨Kz,vF⟩:=aoq.1 hy
     obtain⟨kD,DG⟩:=aoq.1 hx
     have:=apl.1 Mq j (j+1) kD Kz (by omega)
     rw[vF,DG]at this
     omega
  ·have hK:ef M ns j free x.toNat:=(show x.toNat=at_ by omega)▸hk
   refine ai.dec (fun hz=>?_) (fun hz=>?_)<;>refine vs ?_
   ·have IB:free=0:=by omega
    subst IB
    rw[←zC M kP,hK.none (m:=x.toNat) G4]
    exact⟨rfl,f3⟩
   ·rw[wrap64 (n:=(free:Int) - 1) (by omega) (by omega),wrap64 (n:=(j:Int)+1) (by omega) (by omega)]
    refine⟨L.length - (j+1),by omega,trivial,j+1,free - 1,x.toNat,rfl,by omega,hK.use G4 (by omega),by omega,fun y hy=>?_,by rw[show((free - 1:Nat):Int)=(free:Int) - 1 by omega,show((x.toNat:Nat):Int)=x by omega];rfl⟩
    obtain⟨Kz,vF⟩:=aoq.1 hy
    obtain⟨kD,DG⟩:=aoq.1 hx
    have:=apl.1 Mq j (j+1) kD Kz (by omega)
    rw[vF,DG]at this
    omega
 ·have gf:j=L.length:=by omega
  subst gf
  rw[←VS]at hk
  have hd:=hk.done
  rw[zC M kP]at hd
  refine ai.dec (fun hz=>?_) (fun hz=>?_)<;>refine vs ?_
  ·rw[hd,if_pos (by omega)]
   exact⟨rfl,f3⟩
  ·rw[hd,if_neg (by omega)]
   exact⟨rfl,f3⟩
structure ve(l:List Int):Prop where
 low:∀x∈l,1≤x∧x≤128
 len:1≤l.length∧l.length≤4096
 room:Iv 128 (On l)≤0
theorem Pg{l:List Int}(h:∀x∈l,1≤x∧x≤128):∀n∈On l,n≤128:=fun n hn=>by
 obtain⟨x,hx,rfl⟩:=ao8.1 hn
 have:=h x hx
 unfold kR
 omega
theorem YX(v:Nat)(b:Bool)(hv:v<128):IntKind.u8.wrap ((BitVec.ofInt 8 (IntKind.u8.wrap ((v:Int)*2)) |||BitVec.ofInt 8 (IntKind.u8.wrap (((bt b).toNat:Int) - 48))).toNat:Int)=((2*v+b.toNat:Nat):Int):=by
 have hb:IntKind.u8.wrap (((bt b).toNat:Int) - 48)=((b.toNat:Nat):Int):=by cases b<;>decide
 rw[hb,Fx (n:=(v:Int)*2) (by omega) (by omega)]
 have h1:BitVec.ofInt 8 ((v:Int)*2)=BitVec.ofNat 8 (2*v):=by rw[←BitVec.ofInt_natCast];congr 1;omega
 have h2:BitVec.ofInt 8 ((b.toNat:Nat):Int)=BitVec.ofNat 8 b.toNat:=BitVec.ofInt_natCast ..
 have FU:b.toNat≤1:=by cases b<;>decide
 rw[h1,h2,BitVec.toNat_or,BitVec.toNat_ofNat,BitVec.toNat_ofNat,Nat.mod_eq_of_lt (by omega),Nat.mod_eq_of_lt (by omega)]
 have h3:2*v |||b.toNat=2*v+b.toNat:=by
  have:=Nat.two_pow_add_eq_or_of_lt (i:=1) (b:=b.toNat) (by omega) v
  rw[Nat.pow_one]at this
  rw[this]
 rw[h3]
 exact Fx (by omega) (by omega)
theorem TB{H:Hp}{v:Value}{size n:Nat}{xs:List Value}{fp:Option Nat}(h:Sl H size v n xs fp):∃a c,v= .slice a n c∧n≤c:=by
 obtain⟨_,h⟩:=h
 cases fp with
 |none=>obtain⟨rfl,rfl⟩:=h;exact⟨_,_,rfl,aoB _⟩
 |some b=>obtain⟨l,c,rfl,_,hc,_⟩:=h;exact⟨_,_,rfl,hc⟩
theorem Ph{a a':Option Addr}{n n' c c':Nat}{x x':Value}(h:Value.tuple [.slice a n c,x].toArray= .tuple [.slice a' n' c',x'].toArray):n=n'∧c=c':=by
 have q2:=aoD Array.toList (Value.tuple.inj h)
 injection q2 with q3 _
 injection q3 with _ h1 h2
 exact⟨h1,h2⟩
theorem sz{H:Hp}{bits:List UInt8}(hl:bits.length≤1000000000):
  af Tryz.prog Dz [CB bits] H fun v H'=>ar (am H H'∧We bits H' v∧∀a n c x,v= .tuple [.slice a n c,x].toArray→n≤c):=by
 refine aZ Lu ?_
 refine vs ?_
 refine(se H hl).mono ?_
 rintro _ H1 ⟨rfl,f1⟩
 refine vs ?_
 by_cases hb:bits.all pU=true∧bits.length≤1048576
 rotate_left
 ·have e:(decide (bits.length≤1048576) && bits.all pU)=false:=by
   rw[←aqx,apf,ao0]
   exact fun h=>hb ⟨h.2,h.1⟩
  refine ai.aP e ?_
  refine vs ?_
  exact⟨f1,.inl ⟨hb,rfl⟩,fun a n c x h=>by have:=Ph h;omega⟩
 have e:(decide (bits.length≤1048576) && bits.all pU)=true:=by
  rw[apf,ao0]
  exact⟨hb.2,hb.1⟩
 refine ai.bI e ?_
 obtain⟨FU,qv⟩:=hb
 obtain⟨w,rfl⟩:=OU FU
 rw[aoA]at qv
 have er:((w.length:Nat):Int).tmod 8=((w.length%8:Nat):Int):=rfl
 have er2:((8 - w.length%8:Nat):Int).tmod 8=((eG w.length:Nat):Int):=rfl
 have esz:(⟨(w.map bt).toArray⟩:ByteArray).size=w.length:=by rw[iI,aoA]
 simp(disch:=(first|omega| (simp only[Zs]<;>omega)|fail)) only[go_sem, ↓reduceIte,Zv,esz,apP,aoA,er]
 rw[if_neg (by decide)]
 refine vs ?_
 rw[wrap64 (n:=(8:Int) - ((w.length%8:Nat):Int)) (by omega) (by omega),show(8:Int) - ((w.length%8:Nat):Int)=((8 - w.length%8:Nat):Int) by omega]
 refine v1 er2 ?_
 rw[if_neg (by decide)]
 refine vs ?_
 have hmn:eG w.length<8:=by unfold eG;omega
 rw[Fx (n:=((eG w.length:Nat):Int)) (by omega) (by omega)]
 have f2:am H1 (H1.new 5 [.int .u8 ((eG w.length:Nat):Int)]):=(ag.refl _ _).new _ _
 have s2:Sl (H1.new 5 [.int .u8 ((eG w.length:Nat):Int)]) 1 (.slice (some ⟨H1.size,0,none⟩) 1 1) 1 (nJ [eG w.length]) (some H1.size):=Sl.cB (size:=1) (n:=1) (xs:=nJ [eG w.length]) rfl rfl
 generalize H1.new 5 [.int .u8 ((eG w.length:Nat):Int)]=H2 at*
 refine(DE H2 [48] (eG w.length) (by simp) (by omega)).mono ?_
 rintro _ H3 ⟨rfl,f3⟩
 refine vs ?_
 rw[FR,Uu _ _ (by simp;omega)]
 refine vs ?_
 have ac0:w.map bt++List.replicate (eG w.length) 48=(cN w).map bt:=by
  unfold cN
  rw[ao5,aqn]
  rfl
 rw[ac0]
 have s3:=s2.ext f3 (fun _ _ h=>h)
 have f13:=(f1.trans f2).trans f3
 have z1:=f1.size
 have hfm:=pj w
 have TW:=nQ (cN w)
 refine aS.intro (fun m env H'=>∃ (j:Nat) (wv:Value) (b:Nat),m=(w.length+7) / 8 - j∧j≤(w.length+7) / 8∧am H H'∧H.size≤b∧Sl H' 1 wv (eG w.length::(bytesOf (cN w)).take j).length (nJ (eG w.length::(bytesOf (cN w)).take j)) (some b)∧
  env=[(0,jc ((cN w).drop (8*j))),(5,wv)]) _ ⟨0,_,_,rfl,by omega,f13,z1,by rw[ap1];exact s3,by rw[Nat.mul_zero,apO]⟩ ?_
 clear s3 s2 f2 f3 f13
 rintro m env H4 ⟨j,wv,b,hm,hj,f4,hbb,s4,rfl⟩
 have z4:=f4.size
 refine vs ?_
 rw[OM]
 refine ai.dec (fun hz=>?_) (fun hz=>?_)<;>refine vs ?_
 ·have El:(cN w).drop (8*j)=[]:=by simpa using hz
  have Wm:=aoD List.length El
  rw[apV,apo]at Wm
  have e1:eG w.length::(bytesOf (cN w)).take j=nS w:=by
   unfold nS
   rw[apn (by omega)]
  rw[e1]at s4
  obtain⟨_,c0,GH,nE⟩:=TB s4
  obtain⟨lb,c,rfl,_⟩:=Sl.byte s4
  injection GH with _ _ AW
  exact⟨f4,.inr ⟨w,_,c,rfl,qv,rfl,s4.rd⟩,fun a n c' x h=>by have:=Ph h;omega⟩
 have El:(cN w).drop (8*j)≠[]:=by simpa using hz
 have Wm:=List.length_pos_iff.2 El
 rw[apV]at Wm
 have gf:j< (w.length+7) / 8:=by omega
 refine aS.intro (fun m env H'=>H'=H4∧∃k:Nat,m=8 - k∧k≤8∧
  env=[(0,jc ((cN w).drop (8*j))),(5,wv),(6,.int .u8 (dI (((cN w).drop (8*j)).take k):Nat)),(27,i64 k)]) _ ⟨rfl,0,rfl,by omega,rfl⟩ ?_
 rintro m env H5 ⟨rfl,k,hm5,hk,rfl⟩
 have hv:=JQ (cN w) (8*j) k hk
 refine vs ?_
 refine ai.dec (fun aK=>?_) (fun aK=>?_)<;>refine vs ?_
 rotate_left
 ·have hk8:k=8:=by omega
  subst hk8
  refine abr (B:=H.size) hbb z4 s4 _ (by simp;omega) fun w' H' b' mU s' e'=>?_
  refine vs ?_
  have ahq:(((cN w).drop (8*j)).map bt).toArray.size=(cN w).length - 8*j:=by rw[apP,aoA,apV]
  rw[ahq]
  refine⟨⟨by omega,by omega,by omega⟩,?_⟩
  refine vs ?_
  refine⟨(w.length+7) / 8 - (j+1),by omega,j+1,w',b',rfl,by omega,f4.then e' (fun z hz=>hz),mU,?_,?_⟩
  ·have e1:eG w.length::(bytesOf (cN w)).take (j+1)=(eG w.length::(bytesOf (cN w)).take j)++[dI (((cN w).drop (8*j)).take 8)]:=by
    rw[aoM,MS (by omega),apL]
    rfl
   rw[←e1]at s'
   exact s'
  ·rw[Uw]
   have e1:(((((cN w).drop (8*j)).map bt).take (((cN w).length - 8*j:Nat):Int).toNat).drop (8:Int).toNat)=((cN w).drop (8*(j+1))).map bt:=by
    rw[apn (by rw[aoA,apV];omega),←List.map_drop,aqs]
    rfl
   rw[e1]
 obtain⟨x,hx⟩:∃x,(cN w)[8*j+k]? =some x:=⟨_,aop (by omega)⟩
 have UU:(⟨(((cN w).drop (8*j)).map bt).toArray⟩:ByteArray)[k]? =some (bt x):=by rw[Uv,aoG,aoX,hx];rfl
 have hvt:=Qm hx
 refine⟨by omega,?_⟩
 refine v2 Int.toNat_natCast UU ?_
 have GI:dI (((cN w).drop (8*j)).take k)<128:=by
  have h1:=I8 (((cN w).drop (8*j)).take k)
  have h2:2^ (((cN w).drop (8*j)).take k).length≤2^7:=Nat.pow_le_pow_right (by decide) (by rw[aoS];omega)
  omega
 have ob:=YX (dI (((cN w).drop (8*j)).take k)) x GI
 rw[show((2:Int)^min (Int.toNat 1) 8)=2 from rfl,wrap64 (n:=(k:Int)+1) (by omega) (by omega)]
 refine⟨8 - (k+1),by omega,trivial,k+1,rfl,by omega,?_⟩
 rw[hvt]
 exact aoD (fun z=>[(0,jc ((cN w).drop (8*j))),(5,wv),(6,Value.int .u8 z),(27,i64 ((k:Int)+1))]) ob
theorem vf{H:Hp}{bits:List UInt8}(hl:bits.length≤1000000000):
  af Tryz.prog Dz [CB bits] H fun v H'=>ar (am H H'∧We bits H' v):=
 (sz hl).mono fun v H' h=>⟨h.1,h.2.1⟩
def Ro(b:Bool):Nat:=(bt b).toNat
theorem Vt{x i:Nat}(hx:x<256)(hi:i<8):IntKind.u8.wrap (48+IntKind.u8.wrap ((BitVec.ofInt 8 (Int.fdiv (x:Int) (2^min (7 - (i:Int)).toNat 8)) &&& BitVec.ofInt 8 1).toNat:Int))=((Ro (decide (x / 2^ (7 - i)%2=1)):Nat):Int):=by
 have e1:min (7 - (i:Int)).toNat 8=7 - i:=by omega
 have e2:Int.fdiv (x:Int) (2^ (7 - i))=((x / 2^ (7 - i):Nat):Int):=by
  rw[Int.fdiv_eq_ediv_of_nonneg _ (by exact Int.le_of_lt (Int.pow_pos (by decide)))]
  rw[show((2:Int)^ (7 - i))=((2^ (7 - i):Nat):Int) by rw[Int.natCast_pow];rfl]
  rfl
 rw[e1,e2]
 have hy:x / 2^ (7 - i)<256:=Nat.lt_of_le_of_lt (Nat.div_le_self ..) hx
 generalize x / 2^ (7 - i)=y at*
 have e3:(BitVec.ofInt 8 ((y:Nat):Int) &&& BitVec.ofInt 8 1).toNat=y%2:=by
  rw[BitVec.toNat_and,BitVec.ofInt_natCast,BitVec.toNat_ofNat,Nat.mod_eq_of_lt (by omega)]
  exact Nat.and_one_is_mod y
 rw[e3,Fx (n:=((y%2:Nat):Int)) (by omega) (by omega),Fx (by omega) (by omega)]
 unfold Ro bt
 rcases Nat.mod_two_eq_zero_or_one y with h|h<;>rw[h]<;>rfl
theorem Vu(w:List Bool):(w.map Ro).map UInt8.ofNat=w.map bt:=by
 rw[apE]
 apply apu
 intro b _
 cases b<;>rfl
theorem Dn{H:Hp}{a:Option Addr}{c:Nat}{ns:List Nat}(h:cK H 1 (.slice a ns.length c) ns.length (nJ ns))(hc:ns.length≤c)(G4:∀x∈ns,x<256)(hl:ns.length≤1000000000):
  af Tryz.prog Hi [.slice a ns.length c] H fun v H'=>ar (afF ns v∧am H H'):=by
 refine aZ Hv ?_
 refine vs ?_
 refine ai.dec (fun g0=>?_) (fun g0=>?_)<;>refine vs ?_
 ·refine⟨.inr ⟨OW fun k b e=>?_,rfl⟩,ag.refl _ _⟩
  rw[e]at g0
  simp only[aoI]at g0
  omega
 obtain⟨k,b,rfl⟩:∃k b,ns=k::b:=by
  cases ns with
  |nil=>simp at g0
  |cons k b=>exact⟨k,b,rfl⟩
 have hk:=G4 k (by simp)
 obtain⟨_,bb,o,lb,rfl,fw,aV⟩:=cK.byte h (i:=0) (x:=k) rfl
 have Vv:∀ {k' b'},k::b=k'::b'→k'=k∧b'=b:=fun e=>by injection e with e1 e2;exact⟨e1.symm,e2.symm⟩
 have e3:(k::b).length=b.length+1:=rfl
 refine⟨⟨by omega,by omega⟩,?_⟩
 have zd:lb[o]? =some (.int .u8 (k:Int)):=aV
 refine v5 fw Int.toNat_zero ao6 Nat.add_zero zd ?_
 refine ai.dec (fun g1=>?_) (fun g1=>?_)<;>refine vs ?_
 ·exact⟨.inr ⟨OW fun k' b' e hu=>by obtain⟨rfl,rfl⟩:=Vv e;have:=hu.low;omega,rfl⟩,ag.refl _ _⟩
 refine ai.dec (fun g2=>?A) (fun g2=>?B)
 case' A=>
  refine vs ?_
  refine⟨⟨by omega,by omega⟩,?_⟩
  refine v5 fw Int.toNat_zero ao6 Nat.add_zero zd ?_
  refine ai.dec (fun g3=>?C) (fun g3=>?D)
 case C=>
  refine vs ?_
  refine⟨.inr ⟨OW fun k' b' e hu=>?_,rfl⟩,ag.refl _ _⟩
  obtain⟨rfl,rfl⟩:=Vv e
  rcases hu.some_ with h1|h1
  ·omega
  ·have:=List.length_pos_iff.2 h1;omega
 all_goals
  refine vs ?_
  rw[wrap64 (n:=((b.length+1:Nat):Int) - 1) (by omega) (by omega)]
  refine ai.dec (fun g4=>?_) (fun g4=>?_)<;>refine vs ?_
  ·exact⟨.inr ⟨OW fun k' b' e hu=>by obtain⟨rfl,rfl⟩:=Vv e;have:=hu.eU;omega,rfl⟩,ag.refl _ _⟩
  have hU:Ja k b:=⟨by omega,(by first|exact .inl (by omega)|exact .inr (fun e=>by subst e;simp at g2)),by omega⟩
  refine⟨⟨by omega,by omega,by omega,by omega⟩,?_⟩
  obtain⟨a',c',IL,hr',GW⟩:=UN h (by omega) hc
  have zx:cK H 1 (.slice a' b.length c') b.length (nJ b):=hr'
  rw[show(k::b).length - 1=b.length from rfl,e3]at IL
  refine vs ?_
  rw[IL,show((b.length+1:Nat):Int).toNat - Int.toNat 1=b.length by omega]
  have ajr:=hU.eU
  refine aS.intro (fun m env H'=>∃ (j:Nat) (wv:Value) (fp:Option Nat),m=b.length - j∧j≤b.length∧am H H'∧(∀z,fp=some z→H.size≤z)∧Sl H' 1 wv ((aM (b.take j)).map Ro).length (nJ ((aM (b.take j)).map Ro)) fp∧
   env=[(0,.slice (some ⟨bb,o,none⟩) (b.length+1) c),(4,wv),(38,.slice a' b.length c'),(39,i64 b.length),(40,i64 j)]) _ ⟨0,_,none,rfl,by omega,ag.refl _ _,(fun z h=>by cases h),by rw[ap1];exact Sl.nil _ _,rfl⟩ ?_
  rintro m env H1 ⟨j,wv,fp,rfl,hj,f1,fU,s1,rfl⟩
  have G5:=zx.fresh f1
  refine vs ?_
  refine ai.dec (fun aK=>?_) (fun aK=>?_)<;>refine vs ?_
  ·obtain⟨x,hx⟩:∃x,b[j]? =some x:=⟨_,aop (by omega)⟩
   have DG:=G4 x (apd _ (aow hx))
   obtain⟨_,b2,o2,l2,rfl,uA,YY⟩:=cK.byte G5 hx
   refine⟨⟨by omega,by omega⟩,?_⟩
   refine v4 uA Int.toNat_natCast aos YY ?_
   refine aS.intro (fun m env H'=>∃ (i:Nat) (wv:Value) (fp:Option Nat),m=8 - i∧i≤8∧am H H'∧(∀z,fp=some z→H.size≤z)∧Sl H' 1 wv ((aM (b.take j)++(jO x).take i).map Ro).length (nJ ((aM (b.take j)++(jO x).take i).map Ro)) fp∧
    env=[(0,.slice (some ⟨bb,o,none⟩) (b.length+1) c),(4,wv),(6,.int .u8 (x:Int)),(7,i64 (7 - (i:Int))),(38,.slice (some ⟨b2,o2,none⟩) b.length c'),(39,i64 b.length),(40,i64 j)]) _ ⟨0,_,fp,rfl,by omega,f1,fU,by rw[ap1,ao3];exact s1,rfl⟩ ?_
   clear s1 f1 fU
   rintro m env H2 ⟨i,wv,fp,rfl,hi,f2,fU,s2,rfl⟩
   have TW:=nR (b.take j)
   rw[aoS,aqd (by omega)]at TW
   refine vs ?_
   refine ai.dec (fun tw=>?_) (fun tw=>?_)<;>refine vs ?_
   ·rw[if_neg (by omega)]
    refine vs ?_
    have e1:aM (b.take j)++(jO x).take (i+1)=aM (b.take j)++(jO x).take i++[decide (x / 2^ (7 - i)%2=1)]:=by
     rw[apk,aoM,RF x i (by omega)]
     rfl
    have BP:=Vt (x:=x) (i:=i) DG (by omega)
    refine Eq.mpr (aoD (fun z=>eM 5 1 1 [Value.int .u8 0] wv (.slice (some ⟨H2.size,0,none⟩) 1 1) (H2.new 5 [.int .u8 z]) _) BP) ?_
    refine XD (B:=H.size) fU f2.size s2 _ (by rw[aoA,aoy,aoS,vl];omega) fun w' H' dT iN s' e'=>?_
    refine vs ?_
    rw[wrap64 (n:=(7:Int) - (i:Int) - 1) (by omega) (by omega)]
    refine⟨8 - (i+1),by omega,i+1,w',dT,rfl,by omega,f2.then e' (fun z hz=>hz),iN,?_,by rw[show(7:Int) - (i:Int) - 1=7 - ((i+1:Nat):Int) by omega]⟩
    rw[e1,ao5]
    exact s'
   ·have hi8:i=8:=by omega
    subst hi8
    rw[wrap64 (n:=(j:Int)+1) (by omega) (by omega)]
    refine⟨b.length - (j+1),by omega,j+1,wv,fp,rfl,by omega,f2,fU,?_,rfl⟩
    have e1:aM (b.take (j+1))=aM (b.take j)++(jO x).take 8:=by
     rw[apn (l:=jO x) (by rw[vl];omega),←JR,aoM,hx]
     rfl
    rw[e1]
    exact s2
  have gf:j=b.length:=by omega
  subst gf
  rw[aoQ]at s1
  have TW:=nR b
  have ZO:=hU.le
  generalize hB:aM b=B at*
  obtain⟨a4,c4,rfl,hc4⟩:=XS s1
  refine vs ?_
  refine⟨⟨by omega,by omega⟩,?_⟩
  have ahr:=f1.rd fw (fun h=>h)
  refine v5 ahr Int.toNat_zero ao6 Nat.add_zero zd ?_
  rw[wrap64 (n:=(k:Int)) (by omega) (by omega)]
  rw[wrap64 (n:=(((B.map Ro).length:Nat):Int) - (k:Int)) (by rw[aoA];omega) (by rw[aoA];omega)]
  have hBl:(B.map Ro).length=B.length:=aoA ..
  refine⟨⟨by omega,by omega,by omega,by omega⟩,?_⟩
  refine vs ?_
  have r5:=cK.sub s1.rd (lo:=0) (hi:=B.length - k) (apG _) (by omega) (b':=if(c4:Int)=((0:Nat):Int)then a4 else Option.map (fun x=>x.add (((0:Nat):Int).toNat*1)) a4) (c':=(c4:Int).toNat - ((0:Nat):Int).toNat) (fun aK=>by rw[if_neg (by omega)];rfl)
  rw[show((((B.map Ro).length:Nat):Int) - (k:Int)).toNat - ((0:Nat):Int).toNat=B.length - k - 0 by omega]
  refine cK.rowOf r5 ?_
  have e5:((nJ (B.map Ro)).drop (0*1)).take ((B.length - k - 0)*1)=nJ ((B.take (B.length - k)).map Ro):=by
   rw[ao6,apO,aos,Nat.sub_zero]
   unfold nJ
   rw[←aqz,←aqz]
  rw[e5,og,Vu]
  refine vs ?_
  have hTl:(B.take (B.length - k)).length=B.length - k:=by rw[aoS];omega
  refine(vf (H:=H1) (bits:=(B.take (B.length - k)).map bt) (by rw[aoA];omega)).mono ?_
  rintro v6 H6 ⟨f6,hp6⟩
  have f06:=f1.trans f6
  rcases hp6 with ⟨ac2,rfl⟩| ⟨w6,a6,c6,ZW,hl6,rfl,r6⟩
  ·exact absurd ⟨FX _,by rw[aoA];omega⟩ ac2
  have ahs:=jF ZW
  subst ahs
  refine vs ?_
  have Sy:∀x∈b,x<256:=fun x hx=>G4 x (apd _ hx)
  have zL:=RJ hU Sy
  rw[hB]at zL
  refine(LO r6 (h.fresh f06) (by rw[Iy];omega) hl).mono ?_
  rintro _ _ ⟨rfl,rfl⟩
  refine vs ?_
  refine ai.dec (fun heq=>?_) (fun heq=>?_)<;>refine vs ?_
  ·exact⟨.inl ⟨k,b,rfl,hU,by rw[hB];exact zL.1 heq,by rw[hB];rfl⟩,f06⟩
  ·refine⟨.inr ⟨fun hex=>?_,rfl⟩,f06⟩
   obtain⟨k',b',e,hu,hd⟩:=hex
   obtain⟨rfl,rfl⟩:=Vv e
   rw[hB]at hd
   exact heq (zL.2 hd)
theorem QV{B b:Nat}{s:List UInt8}{H:Hp}(h:FW B b s H):af Tryz.prog jh [ptr b] H fun v H'=>ar (v=i64 s.length∧H'=H):=by
 intro w hw
 obtain⟨hB,h⟩:=h
 have key:∃p a c,H.rd b=some [p,.slice a s.length c]:=by
  have h0:=h w hw
  have k2:∀p,Lib.BuilderAt 94 5 B b p (Lib.byteCells s) w→∃p a c,H.rd b=some [p,.slice a s.length c]:=by
   rintro p ⟨h1,v,h2,⟨h3,h4⟩,h5⟩
   have hr:H.rd b=some [p,v]:=by
    rw[hw]at h2
    unfold Hp.rd
    rw[h2]
   rw[Lib.byteCells_length]at h3 h4
   rcases h4 with ⟨hv,h6⟩| ⟨g,cap,vE,hv,_⟩
   ·rw[h6]
    exact⟨p,none,0,by rw[hr,hv]⟩
   ·exact⟨p,_,cap,by rw[hr,hv]⟩
  rcases h0 with h0|h0
  ·exact k2 _ h0
  ·exact k2 _ h0
 obtain⟨p,a,c,hr⟩:=key
 have hc:af Tryz.prog jh [ptr b] H fun v H'=>ar (v=i64 s.length∧H'=H):=by
  refine aZ sV ?_
  refine v1 hr ?_
  exact⟨rfl,rfl⟩
 exact hc w hw
theorem Do{ws:List (List Bool)}{s:Int}{r:List Int}{out:List Bool}:JP ws (s::r) out=if s<0∨(ws.length:Int)≤s∨1048576<out.length+(ws.getD s.toNat []).length then none else JP ws r (out++ws.getD s.toNat []):=rfl
theorem qq{H:Hp}{x:Nat}{S:Nat→Prop}{ws:List (List Bool)}(h:sf H x S ws){a:Option Addr}{c:Nat}{xs:List Int}(hx:cK H 1 (.slice a xs.length c) xs.length (xs.map i64))(nL:xs.length≤1000000000):
  af Tryz.prog xS [ptr x,.slice a xs.length c] H fun v H'=>ar (v=XO (JP ws xs [])∧am H H'):=by
 refine aZ yt ?_
 refine vs ?_
 have f0:am H (H.new 94 [.pointer none,.slice none 0 0]):=(ag.refl _ _).new _ _
 have b0:=FW.new (B:=H.size) H (aoB _)
 generalize H.new 94 [.pointer none,.slice none 0 0]=H0 at*
 refine aS.intro (fun m env H'=>∃ (j:Nat) (out:List Bool),m=xs.length - j∧j≤xs.length∧am H H'∧FW H.size H.size (out.map bt) H'∧JP ws xs []=JP ws (xs.drop j) out∧out.length≤1048576∧
  env=[(0,ptr x),(6,ptr H.size),(10,.slice a xs.length c),(11,i64 xs.length),(12,i64 j)]) xs.length ⟨0,[],by omega,by omega,f0,b0,rfl,by simp,rfl⟩ ?_
 clear f0 b0
 rintro m env H1 ⟨j,out,hm,hj,f1,b1,he,ho,rfl⟩
 have h1:=h.fresh f1
 have kD:=hx.fresh f1
 have z1:=f1.size
 refine vs ?_
 refine ai.dec (fun aK=>?_) (fun aK=>?_)<;>refine vs ?_
 rotate_left
 ·have gf:j=xs.length:=by omega
  subst gf
  rw[aqy]at he
  refine(JO b1).mono ?_
  rintro _ H2 ⟨rfl,e2⟩
  refine vs ?_
  rw[he]
  exact⟨rfl,f1.then e2 (fun z hz=>hz)⟩
 obtain⟨s,hs⟩:∃s,xs[j]? =some s:=⟨_,aop (by omega)⟩
 obtain⟨_,b,o,lb,rfl,fw,aV⟩:=cK.num kD hs
 rw[UL hs,Do]at he
 refine⟨⟨by omega,by omega⟩,?_⟩
 refine v4 fw Int.toNat_natCast aos aV ?_
 refine(fM h1 s).mono ?_
 rintro _ _ ⟨rfl,rfl⟩
 refine vs ?_
 rw[OM]
 have zb:(pX ws s).length≤1000:=by
  unfold pX
  split
  ·simp
  ·exact UM h.short _
 refine ai.dec (fun hz=>?_) (fun hz=>?_)<;>refine vs ?_
 ·have El:pX ws s=[]:=by simpa using hz
  have ac2:s<0∨(ws.length:Int)≤s:=by
   unfold pX at El
   by_cases Z6:s<0
   ·exact .inl Z6
   ·rw[if_neg Z6]at El
    by_cases et:s.toNat<ws.length
    ·exact absurd El (h.free.ne _ (aow (Dr et)))
    ·exact .inr (by omega)
  rw[if_pos (by omega)]at he
  rw[he]
  exact⟨rfl,f1⟩
 have El:pX ws s≠[]:=by simpa using hz
 have ac3:0≤s∧s< (ws.length:Int)∧pX ws s=ws.getD s.toNat []:=by
  unfold pX at El ⊢
  by_cases Z6:s<0
  ·rw[if_pos Z6]at El
   exact absurd rfl El
  ·rw[if_neg Z6]at El ⊢
   refine⟨by omega,?_,rfl⟩
   apply aoJ
   intro tw
   rw[aou,aoC (by omega)]at El
   exact El rfl
 obtain⟨g0,g1,g2⟩:=ac3
 rw[g2]at zb ⊢
 refine(QV b1).mono ?_
 rintro _ _ ⟨rfl,rfl⟩
 refine vs ?_
 rw[apP,aoA,aoA,wrap64 (n:=(out.length:Int)+((ws.getD s.toNat []).length:Int)) (by omega) (by omega)]
 refine ai.dec (fun g3=>?_) (fun g3=>?_)<;>refine vs ?_
 ·rw[if_pos (by omega)]at he
  rw[he]
  exact⟨rfl,f1⟩
 rw[if_neg (by omega)]at he
 refine(CJ b1 ((ws.getD s.toNat []).map bt) (by rw[aoA,aoA];omega)).mono ?_
 rintro _ H2 ⟨rfl,b2,e2⟩
 refine vs ?_
 rw[wrap64 (n:=(j:Int)+1) (by omega) (by omega)]
 refine⟨xs.length - (j+1),by omega,j+1,out++ws.getD s.toNat [],rfl,by omega,f1.then e2 (fun z hz=>hz),?_,he,by rw[aoy];omega,rfl⟩
 rw[ao5]
 exact b2
end Go.Proofs.YthpjfeolagohkaaGreat
