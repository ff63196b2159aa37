/-
  Texts put behind each other by a program: Kr.
-/
import Derived.Test.YtjlnnljohemifaaGreatK0
import Derived.Test.YtjlnnljohemifaaGreatK18
import Derived.Test.YtjlnnljohemifaaGreatK21
import Derived.Test.YtjlnnljohemifaaGreatK23
set_option linter.unusedVariables false
set_option linter.unusedSimpArgs false
namespace Go.Proofs.YtjlnnljohemifaaGreat
open Go Go.Vc
def oL(x:Int):Int:=max x 1
def NI(l:List Int):List Nat:=l.map fun x=>(oL x).toNat
theorem SC(x:Int):1≤oL x:=by unfold oL;omega
theorem SD{l:List Int}{j:Nat}{x:Int}(hx:l[j]? =some x):((l.take j).map oL++l.drop j).set j (oL x)=(l.take (j+1)).map oL++l.drop (j+1):=by
 obtain⟨h1,h2⟩:=List.getElem?_eq_some_iff.1 hx
 have e:((l.take j).map oL).length=j:=by simp;omega
 rw[List.set_append,e,if_neg (by omega),Nat.sub_self,List.drop_eq_getElem_cons h1,List.set_cons_zero,List.take_add_one,hx,List.map_append,List.append_assoc]
 rfl
theorem eF.aaN{M:Nat}{ns:List Nat}{j free at_ n:Nat}(h:eF M ns j free at_)(hf:free=0)(h2:n≤M):eF M ns j free n:=by
 subst hf
 exact h.Y8 h2
theorem G6(xs:List Int):(lF xs).Perm xs:=List.mergeSort_perm _ _
theorem Kl(xs:List Int):(lF xs).Pairwise (· ≤ ·):=by
 have:=List.pairwise_mergeSort (le:=fun x y:Int=>decide (x≤y)) (fun a b c h1 h2=>by simp at*;omega) (fun a b=>by simp;omega) xs
 exact this.imp fun h=>by simpa using h
theorem NJ(l:List Int):((lF (l.map oL)).map Int.toNat).Perm (NI l):=by
 have:=(G6 (l.map oL)).map Int.toNat
 rwa[List.map_map]at this
set_option maxHeartbeats 4000000 in
theorem qE{H:Hp}{a:Option Addr}{c:Nat}{l:List Int}(h:ez H 1 (.slice a l.length c) l.length (l.map i64))(hl:l.length≤1000000){M:Nat}(hM:∀n∈NI l,n≤M)(hM2:M≤9223372036854775807):
  ah Tryz.prog ER [.slice a l.length c] H fun v H'=>ax (v=i64 (IU M (NI l))∧ay H H'):=by
 refine bc EW ⟨rfl,?_⟩
 refine v1 n9.eq_1 ?_
 refine(qW h hl).mono ?_
 rintro r H1 ⟨f1,fp,s1,l9⟩
 obtain⟨ra,rc,rfl,hrc⟩:=TR s1
 refine vs ?_
 refine bD.intro (fun m env H'=>ay H H'∧∃ (j:Nat),m=l.length - j∧j≤l.length∧Sl H' 1 (.slice ra l.length rc) l.length (((l.take j).map oL++l.drop j).map i64) fp∧
  env=[(3,.slice ra l.length rc),(12,i64 l.length),(13,i64 j)]) l.length ⟨f1,0,by omega,by omega,by simpa using s1,rfl⟩ ?_
 rintro m env H2 ⟨f2,j,hm,hj,s2,rfl⟩
 refine vs ?_
 refine am.dec (fun aR=>?_) (fun aR=>?_)<;>refine vs ?_
 ·have mA:j<l.length:=by omega
  obtain⟨x,hx⟩:∃x,l[j]? =some x:=⟨_,List.getElem?_eq_getElem mA⟩
  have Gr:((l.take j).map oL++l.drop j)[j]? =some x:=by
   rw[List.getElem?_append_right (by simp;omega)]
   simp only[List.length_map,List.length_take,Nat.min_eq_left hj]
   rw[List.getElem?_drop,Nat.sub_self,Nat.add_zero,hx]
  cases fp with
  |none=>obtain⟨_,h0,_⟩:=s2;omega
  |some b=>
   obtain⟨_,rfl,lb,ho,hc⟩:=Sl.num s2 Gr
   have pt:l.length≤lb.length:=by
    obtain⟨_,l',c2,_,h2,h3,h4,_⟩:=s2
    rw[ho]at h2;injection h2 with h2;subst h2;omega
   refine⟨⟨by omega,by omega⟩,?_⟩
   refine v5 (ae ho) Int.toNat_natCast Nat.mul_one Nat.zero_add hc ?_
   refine⟨⟨by omega,by omega⟩,?_⟩
   refine v4 ho Int.toNat_natCast Nat.mul_one Nat.zero_add ?_
   refine⟨by omega,?_⟩
   have s3:=s2.vP ho j (i64 (oL x))
   have e3:ay H (H2.wr b (lb.set j (i64 (oL x)))):=f2.then ((ai.refl (fun z=>z=b) _).wr (fun _=>rfl) _) (fun z hz=>by have:=l9 b rfl;omega)
   rw[←List.map_set,SD hx]at s3
   have hif:(if 1>x then(1:Int)else x)=oL x:=by unfold oL;split<;>omega
   refine vs ?_
   rw[hif,wrap64 (n:=(j:Int)+1) (by omega) (by omega)]
   exact⟨l.length - (j+1),by omega,e3,j+1,rfl,by omega,s3,rfl⟩
 have mA:j=l.length:=by omega
 subst mA
 rw[List.take_length,List.drop_length,List.append_nil]at s2
 have RZ:(l.map oL).length=l.length:=List.length_map ..
 rw[←RZ]at s2 ⊢
 refine(DG s2 (by omega)).mono ?_
 rintro _ H3 ⟨rfl,s3,e3⟩
 have f3:ay H H3:=f2.then e3 (fun z hz=>(l9 z hz).1)
 have hL:(lF (l.map oL)).length=l.length:=by rw[sV,RZ]
 have Rx:∀x∈lF (l.map oL),1≤x∧x≤M:=fun x hx=>by
  have:=(G6 (l.map oL)).mem_iff.1 hx
  obtain⟨y,hy,rfl⟩:=List.mem_map.1 this
  have h1:=SC y
  have h2:=hM (oL y).toNat (List.mem_map.2 ⟨y,hy,rfl⟩)
  omega
 rw[RZ,←hL]at s3 ⊢
 have Jh:=NJ l
 have SE:=Kl (l.map oL)
 generalize hLL:lF (l.map oL)=L at*
 generalize aaO:L.map Int.toNat=ns at*
 have Yi:ns.length=L.length:=by rw[←aaO];simp
 refine vs ?_
 refine bD.intro (fun m env H'=>H'=H3∧∃ (j free at_:Nat),m=L.length - j∧j≤L.length∧eF M ns j free at_∧free≤2*L.length+1∧(∀x,L[j]? =some x→(at_:Int)≤x)∧
  env=[(3,.slice ra L.length rc),(5,i64 free),(6,i64 at_),(27,.slice ra L.length rc),(28,i64 L.length),(29,i64 j)]) L.length ⟨rfl,0,1,0,by omega,by omega,eF.begin M ns,by omega,fun x hx=>by have:=Rx x (List.mem_of_getElem? hx);omega,rfl⟩ ?_
 rintro m env H4 ⟨rfl,j,free,at_,hm,hj,hk,Ru,sw,rfl⟩
 refine vs ?_
 refine am.dec (fun aR=>?_) (fun aR=>?_)<;>refine vs ?_
 ·obtain⟨x,hx⟩:∃x,L[j]? =some x:=⟨_,List.getElem?_eq_getElem (by omega)⟩
  obtain⟨x1,x2⟩:=Rx x (List.mem_of_getElem? hx)
  have OI:ns[j]? =some x.toNat:=by rw[←aaO,List.getElem?_map,hx];rfl
  have tE:=sw x hx
  obtain⟨_,b,o,lb,rfl,mw,bM⟩:=ez.num s3.rd hx
  refine⟨⟨by omega,by omega⟩,?_⟩
  refine v4 mw Int.toNat_natCast Nat.mul_one bM ?_
  refine bD.intro (fun m' env H'=>H'=H4∧∃ (free at_:Nat),m'=x.toNat - at_∧eF M ns j free at_∧free≤2*L.length+1∧(at_:Int)≤x∧
   env=[(3,.slice (some ⟨b,o,none⟩) L.length rc),(5,i64 free),(6,i64 at_),(8,i64 x),(27,.slice (some ⟨b,o,none⟩) L.length rc),(28,i64 L.length),(29,i64 j)]) (x.toNat - at_) ⟨rfl,free,at_,rfl,hk,Ru,tE,rfl⟩ ?_
  clear hk Ru tE sw
  rintro m' env H5 ⟨rfl,free,at_,hm',hk,Ru,tE,rfl⟩
  refine vs ?_
  refine am.dec (fun g1=>?_) (fun g1=>?_)<;>refine vs ?_
  ·refine am.dec (fun g2=>?_) (fun g2=>?_)<;>refine vs ?_
   ·refine am.dec (fun g3=>?_) (fun g3=>?_)<;>refine vs ?_
    ·rw[wrap64 (n:=(free:Int)*2) (by omega) (by omega),wrap64 (n:=(at_:Int)+1) (by omega) (by omega)]
     exact⟨x.toNat - (at_+1),by omega,trivial,free*2,at_+1,rfl,hk.double (by omega),by omega,by omega,rfl⟩
    ·have hK:eF M ns j free x.toNat:=hk.jump (by omega) (by omega) (by omega)
     refine am.dec (fun hz=>?_) (fun hz=>?_)<;>refine vs ?_
     ·have KL:free=0:=by omega
      subst KL
      rw[←Br M Jh,hK.none (m:=x.toNat) OI]
      exact⟨rfl,f3⟩
     ·rw[wrap64 (n:=(free:Int) - 1) (by omega) (by omega),wrap64 (n:=(j:Int)+1) (by omega) (by omega)]
      refine⟨L.length - (j+1),by omega,trivial,j+1,free - 1,x.toNat,rfl,by omega,hK.use OI (by omega),by omega,fun y hy=>?_,by rw[show((free - 1:Nat):Int)=(free:Int) - 1 by omega,show((x.toNat:Nat):Int)=x by omega];rfl⟩
      obtain⟨HD,zN⟩:=List.getElem?_eq_some_iff.1 hy
      obtain⟨j5,Gr⟩:=List.getElem?_eq_some_iff.1 hx
      have:=List.pairwise_iff_getElem.1 SE j (j+1) j5 HD (by omega)
      rw[zN,Gr]at this
      omega
   ·have hK:eF M ns j free x.toNat:=hk.aaN (by omega) (by omega)
    refine am.dec (fun hz=>?_) (fun hz=>?_)<;>refine vs ?_
    ·have KL:free=0:=by omega
     subst KL
     rw[←Br M Jh,hK.none (m:=x.toNat) OI]
     exact⟨rfl,f3⟩
    ·rw[wrap64 (n:=(free:Int) - 1) (by omega) (by omega),wrap64 (n:=(j:Int)+1) (by omega) (by omega)]
     refine⟨L.length - (j+1),by omega,trivial,j+1,free - 1,x.toNat,rfl,by omega,hK.use OI (by omega),by omega,fun y hy=>?_,by rw[show((free - 1:Nat):Int)=(free:Int) - 1 by omega,show((x.toNat:Nat):Int)=x by omega];rfl⟩
     obtain⟨HD,zN⟩:=List.getElem?_eq_some_iff.1 hy
     obtain⟨j5,Gr⟩:=List.getElem?_eq_some_iff.1 hx
     have:=List.pairwise_iff_getElem.1 SE j (j+1) j5 HD (by omega)
     rw[zN,Gr]at this
     omega
  ·have hK:eF M ns j free x.toNat:=(show x.toNat=at_ by omega)▸hk
   refine am.dec (fun hz=>?_) (fun hz=>?_)<;>refine vs ?_
   ·have KL:free=0:=by omega
    subst KL
    rw[←Br M Jh,hK.none (m:=x.toNat) OI]
    exact⟨rfl,f3⟩
   ·rw[wrap64 (n:=(free:Int) - 1) (by omega) (by omega),wrap64 (n:=(j:Int)+1) (by omega) (by omega)]
    refine⟨L.length - (j+1),by omega,trivial,j+1,free - 1,x.toNat,rfl,by omega,hK.use OI (by omega),by omega,fun y hy=>?_,by rw[show((free - 1:Nat):Int)=(free:Int) - 1 by omega,show((x.toNat:Nat):Int)=x by omega];rfl⟩
    obtain⟨HD,zN⟩:=List.getElem?_eq_some_iff.1 hy
    obtain⟨j5,Gr⟩:=List.getElem?_eq_some_iff.1 hx
    have:=List.pairwise_iff_getElem.1 SE j (j+1) j5 HD (by omega)
    rw[zN,Gr]at this
    omega
 ·have mA:j=L.length:=by omega
  subst mA
  rw[←Yi]at hk
  have hd:=hk.done
  rw[Br M Jh]at hd
  refine am.dec (fun hz=>?_) (fun hz=>?_)<;>refine vs ?_
  ·rw[hd,if_pos (by omega)]
   exact⟨rfl,f3⟩
  ·rw[hd,if_neg (by omega)]
   exact⟨rfl,f3⟩
end Go.Proofs.YtjlnnljohemifaaGreat
