/- Texts put behind each other. -/
import Derived.Test.YtjlnnljohemifaaGreatK98
import Derived.Test.YtjlnnljohemifaaGreatK0
import Derived.Test.YtjlnnljohemifaaGreatK18
import Derived.Test.YtjlnnljohemifaaGreatK21
import Derived.Test.YtjlnnljohemifaaGreatK23
set_option linter.unusedVariables false
set_option linter.unusedSimpArgs false
namespace Go.Proofs.YtjlnnljohemifaaGreat
open Go Go.Vc
def oX(x:Int):Int:=max x 1
def OK(l:List Int):List Nat:=l.map fun x=>(oX x).toNat
theorem Tx(x:Int):1≤oX x:=by unfold oX;omega
theorem Ty{l:List Int}{j:Nat}{x:Int}(hx:l[j]? =some x):((l.take j).map oX++l.drop j).set j (oX x)=(l.take (j+1)).map oX++l.drop (j+1):=by
 obtain⟨h1,h2⟩:=anA.1 hx
 have e:((l.take j).map oX).length=j:=by simp;omega
 rw[List.set_append,e,if_neg (by omega),aoJ,aoK h1,ao1,aoi,hx,aos,apH]
 rfl
theorem eE.ab1{M:Nat}{ns:List Nat}{j free at_ n:Nat}(h:eE M ns j free at_)(hf:free=0)(h2:n≤M):eE M ns j free n:=by
 subst hf
 exact h.aad h2
theorem HP(xs:List Int):(lO xs).Perm xs:=List.mergeSort_perm _ _
theorem K8(xs:List Int):(lO xs).Pairwise (· ≤ ·):=by
 have:=List.pairwise_mergeSort (le:=fun x y:Int=>decide (x≤y)) (fun a b c h1 h2=>by simp at*;omega) (fun a b=>by simp;omega) xs
 exact this.imp fun h=>by simpa using h
theorem OL(l:List Int):((lO (l.map oX)).map Int.toNat).Perm (OK l):=by
 have:=(HP (l.map oX)).map Int.toNat
 rwa[apy]at this
set_option maxHeartbeats 4000000 in
theorem qR{H:Hp}{a:Option Addr}{c:Nat}{l:List Int}(h:da H 1 (.slice a l.length c) l.length (l.map i64))(hl:l.length≤1000000){M:Nat}(hM:∀n∈OK l,n≤M)(hM2:M≤9223372036854775807):
  ai Tryz.prog Fk [.slice a l.length c] H fun v H'=>ay (v=i64 (JC M (OK l))∧aq H H'):=by
 refine ba Fu ⟨rfl,?_⟩
 refine v1 ou.eq_1 ?_
 refine(rH h hl).mono ?_
 rintro r H1 ⟨f1,fp,s1,jv⟩
 obtain⟨ra,rc,rfl,hrc⟩:=lY s1
 refine vs ?_
 refine bA.intro (fun m env H'=>aq H H'∧∃ (j:Nat),m=l.length - j∧j≤l.length∧Sl H' 1 (.slice ra l.length rc) l.length (((l.take j).map oX++l.drop j).map i64) fp∧
  env=[(3,.slice ra l.length rc),(12,i64 l.length),(13,i64 j)]) l.length ⟨f1,0,by omega,by omega,by simpa using s1,rfl⟩ ?_
 rintro m env H2 ⟨f2,j,hm,hj,s2,rfl⟩
 refine vs ?_
 refine am.dec (fun aR=>?_) (fun aR=>?_)<;>refine vs ?_
 ·have jk:j<l.length:=by omega
  obtain⟨x,hx⟩:∃x,l[j]? =some x:=⟨_,anx jk⟩
  have G2:((l.take j).map oX++l.drop j)[j]? =some x:=by
   rw[an5 (by simp;omega)]
   simp only[anW,aot,apq hj]
   rw[aoc,aoJ,Nat.add_zero,hx]
  cases fp with
  |none=>obtain⟨_,h0,_⟩:=s2;omega
  |some b=>
   obtain⟨_,rfl,lb,ho,hc⟩:=Sl.num s2 G2
   have ol:l.length≤lb.length:=by
    obtain⟨_,l',c2,_,h2,h3,h4,_⟩:=s2
    rw[ho]at h2;injection h2 with h2;subst h2;omega
   refine⟨⟨by omega,by omega⟩,?_⟩
   refine v5 (ae ho) Int.toNat_natCast anD anB hc ?_
   refine⟨⟨by omega,by omega⟩,?_⟩
   refine v4 ho Int.toNat_natCast anD anB ?_
   refine⟨by omega,?_⟩
   have s3:=s2.ww ho j (i64 (oX x))
   have e3:aq H (H2.wr b (lb.set j (i64 (oX x)))):=f2.then ((ah.refl (fun z=>z=b) _).wr (fun _=>rfl) _) (fun z hz=>by have:=jv b rfl;omega)
   rw[←aoo,Ty hx]at s3
   have hif:(if 1>x then(1:Int)else x)=oX x:=by unfold oX;split<;>omega
   refine vs ?_
   rw[hif,wrap64 (n:=(j:Int)+1) (by omega) (by omega)]
   exact⟨l.length - (j+1),by omega,e3,j+1,rfl,by omega,s3,rfl⟩
 have jk:j=l.length:=by omega
 subst jk
 rw[aod,List.drop_length,aow]at s2
 have SX:(l.map oX).length=l.length:=anW ..
 rw[←SX]at s2 ⊢
 refine(D2 s2 (by omega)).mono ?_
 rintro _ H3 ⟨rfl,s3,e3⟩
 have f3:aq H H3:=f2.then e3 (fun z hz=>(jv z hz).1)
 have hL:(lO (l.map oX)).length=l.length:=by rw[tn,SX]
 have Ss:∀x∈lO (l.map oX),1≤x∧x≤M:=fun x hx=>by
  have:=(HP (l.map oX)).mem_iff.1 hx
  obtain⟨y,hy,rfl⟩:=aou.1 this
  have h1:=Tx y
  have h2:=hM (oX y).toNat (aou.2 ⟨y,hy,rfl⟩)
  omega
 rw[SX,←hL]at s3 ⊢
 have JV:=OL l
 have Tz:=K8 (l.map oX)
 generalize hLL:lO (l.map oX)=L at*
 generalize ab2:L.map Int.toNat=ns at*
 have Zj:ns.length=L.length:=by rw[←ab2];simp
 refine vs ?_
 refine bA.intro (fun m env H'=>H'=H3∧∃ (j free at_:Nat),m=L.length - j∧j≤L.length∧eE M ns j free at_∧free≤2*L.length+1∧(∀x,L[j]? =some x→(at_:Int)≤x)∧
  env=[(3,.slice ra L.length rc),(5,i64 free),(6,i64 at_),(27,.slice ra L.length rc),(28,i64 L.length),(29,i64 j)]) L.length ⟨rfl,0,1,0,by omega,by omega,eE.begin M ns,by omega,fun x hx=>by have:=Ss x (anG hx);omega,rfl⟩ ?_
 rintro m env H4 ⟨rfl,j,free,at_,hm,hj,hk,Ry,rP,rfl⟩
 refine vs ?_
 refine am.dec (fun aR=>?_) (fun aR=>?_)<;>refine vs ?_
 ·obtain⟨x,hx⟩:∃x,L[j]? =some x:=⟨_,anx (by omega)⟩
  obtain⟨x1,x2⟩:=Ss x (anG hx)
  have PC:ns[j]? =some x.toNat:=by rw[←ab2,anT,hx];rfl
  have tT:=rP x hx
  obtain⟨_,b,o,lb,rfl,kG,bM⟩:=da.num s3.rd hx
  refine⟨⟨by omega,by omega⟩,?_⟩
  refine v4 kG Int.toNat_natCast anD bM ?_
  refine bA.intro (fun m' env H'=>H'=H4∧∃ (free at_:Nat),m'=x.toNat - at_∧eE M ns j free at_∧free≤2*L.length+1∧(at_:Int)≤x∧
   env=[(3,.slice (some ⟨b,o,none⟩) L.length rc),(5,i64 free),(6,i64 at_),(8,i64 x),(27,.slice (some ⟨b,o,none⟩) L.length rc),(28,i64 L.length),(29,i64 j)]) (x.toNat - at_) ⟨rfl,free,at_,rfl,hk,Ry,tT,rfl⟩ ?_
  clear hk Ry tT rP
  rintro m' env H5 ⟨rfl,free,at_,hm',hk,Ry,tT,rfl⟩
  refine vs ?_
  refine am.dec (fun g1=>?_) (fun g1=>?_)<;>refine vs ?_
  ·refine am.dec (fun g2=>?_) (fun g2=>?_)<;>refine vs ?_
   ·refine am.dec (fun g3=>?_) (fun g3=>?_)<;>refine vs ?_
    ·rw[wrap64 (n:=(free:Int)*2) (by omega) (by omega),wrap64 (n:=(at_:Int)+1) (by omega) (by omega)]
     exact⟨x.toNat - (at_+1),by omega,trivial,free*2,at_+1,rfl,hk.double (by omega),by omega,by omega,rfl⟩
    ·have hK:eE M ns j free x.toNat:=hk.jump (by omega) (by omega) (by omega)
     refine am.dec (fun hz=>?_) (fun hz=>?_)<;>refine vs ?_
     ·have Lv:free=0:=by omega
      subst Lv
      rw[←BL M JV,hK.none (m:=x.toNat) PC]
      exact⟨rfl,f3⟩
     ·rw[wrap64 (n:=(free:Int) - 1) (by omega) (by omega),wrap64 (n:=(j:Int)+1) (by omega) (by omega)]
      refine⟨L.length - (j+1),by omega,trivial,j+1,free - 1,x.toNat,rfl,by omega,hK.use PC (by omega),by omega,fun y hy=>?_,by rw[show((free - 1:Nat):Int)=(free:Int) - 1 by omega,show((x.toNat:Nat):Int)=x by omega];rfl⟩
      obtain⟨Iy,Af⟩:=anA.1 hy
      obtain⟨kj,G2⟩:=anA.1 hx
      have:=aoZ.1 Tz j (j+1) kj Iy (by omega)
      rw[Af,G2]at this
      omega
   ·have hK:eE M ns j free x.toNat:=hk.ab1 (by omega) (by omega)
    refine am.dec (fun hz=>?_) (fun hz=>?_)<;>refine vs ?_
    ·have Lv:free=0:=by omega
     subst Lv
     rw[←BL M JV,hK.none (m:=x.toNat) PC]
     exact⟨rfl,f3⟩
    ·rw[wrap64 (n:=(free:Int) - 1) (by omega) (by omega),wrap64 (n:=(j:Int)+1) (by omega) (by omega)]
     refine⟨L.length - (j+1),by omega,trivial,j+1,free - 1,x.toNat,rfl,by omega,hK.use PC (by omega),by omega,fun y hy=>?_,by rw[show((free - 1:Nat):Int)=(free:Int) - 1 by omega,show((x.toNat:Nat):Int)=x by omega];rfl⟩
     obtain⟨Iy,Af⟩:=anA.1 hy
     obtain⟨kj,G2⟩:=anA.1 hx
     have:=aoZ.1 Tz j (j+1) kj Iy (by omega)
     rw[Af,G2]at this
     omega
  ·have hK:eE M ns j free x.toNat:=(show x.toNat=at_ by omega)▸hk
   refine am.dec (fun hz=>?_) (fun hz=>?_)<;>refine vs ?_
   ·have Lv:free=0:=by omega
    subst Lv
    rw[←BL M JV,hK.none (m:=x.toNat) PC]
    exact⟨rfl,f3⟩
   ·rw[wrap64 (n:=(free:Int) - 1) (by omega) (by omega),wrap64 (n:=(j:Int)+1) (by omega) (by omega)]
    refine⟨L.length - (j+1),by omega,trivial,j+1,free - 1,x.toNat,rfl,by omega,hK.use PC (by omega),by omega,fun y hy=>?_,by rw[show((free - 1:Nat):Int)=(free:Int) - 1 by omega,show((x.toNat:Nat):Int)=x by omega];rfl⟩
    obtain⟨Iy,Af⟩:=anA.1 hy
    obtain⟨kj,G2⟩:=anA.1 hx
    have:=aoZ.1 Tz j (j+1) kj Iy (by omega)
    rw[Af,G2]at this
    omega
 ·have jk:j=L.length:=by omega
  subst jk
  rw[←Zj]at hk
  have hd:=hk.done
  rw[BL M JV]at hd
  refine am.dec (fun hz=>?_) (fun hz=>?_)<;>refine vs ?_
  ·rw[hd,if_pos (by omega)]
   exact⟨rfl,f3⟩
  ·rw[hd,if_neg (by omega)]
   exact⟨rfl,f3⟩
end Go.Proofs.YtjlnnljohemifaaGreat
