/- Texts put behind each other. -/
import Derived.Test.YtjlnnljohemifaaGreatK98
import Derived.Test.YtjlnnljohemifaaGreatK0
import Derived.Test.YtjlnnljohemifaaGreatK18
import Derived.Test.YtjlnnljohemifaaGreatK21
import Derived.Test.YtjlnnljohemifaaGreatK23
set_option linter.unusedVariables false
set_option linter.unusedSimpArgs false
namespace Go.Proofs.YtjlnnljohemifaaGreat
open Go Go.Vc
def eY(x:Int):Int:=max x 1
def gE(l:List Int):List Nat:=l.map fun x=>(eY x).toNat
theorem C0(x:Int):1≤eY x:=by unfold eY;omega
theorem F7(l:List Int):(gE l).length=l.length:=by unfold gE;simp
theorem SW{l:List Int}{i:Nat}{x:Int}(h:l[i]? =some x):(gE l)[i]? =some (eY x).toNat:=by unfold gE;rw[amo,h];rfl
theorem SX{l:List Int}{j:Nat}{x:Int}(hx:l[j]? =some x):((l.take j).map eY++l.drop j).set j (eY x)=(l.take (j+1)).map eY++l.drop (j+1):=by
 obtain⟨h1,h2⟩:=al7.1 hx
 have e:((l.take j).map eY).length=j:=by simp;omega
 rw[List.set_append,e,if_neg (by omega),am3,ang h1,anq,amG,hx,amU,an5]
 rfl
theorem eE.abi{M:Nat}{ns:List Nat}{j free at_ n:Nat}(h:eE M ns j free at_)(hf:free=0)(h2:n≤M):eE M ns j free n:=by
 subst hf
 exact h.Zz h2
theorem Ht(xs:List Int):(lO xs).Perm xs:=List.mergeSort_perm _ _
theorem KH(xs:List Int):(lO xs).Pairwise (· ≤ ·):=by
 have:=List.pairwise_mergeSort (le:=fun x y:Int=>decide (x≤y)) (fun a b c h1 h2=>by simp at*;omega) (fun a b=>by simp;omega) xs
 exact this.imp fun h=>by simpa using h
theorem NW(l:List Int):((lO (l.map eY)).map Int.toNat).Perm (gE l):=by
 have:=(Ht (l.map eY)).map Int.toNat
 rwa[anJ]at this
set_option maxHeartbeats 4000000 in
theorem j8{H:Hp}{a:Option Addr}{c:Nat}{l:List Int}(h:ep H 1 (.slice a l.length c) l.length (l.map i64))(hl:l.length≤1000000){M:Nat}(hM:∀n∈gE l,n≤M)(hM2:M≤9223372036854775807):
  ah Tryz.prog E2 [.slice a l.length c] H fun v H'=>ay (v=i64 (Dh M (gE l))∧ax H H'):=by
 refine be E9 ⟨rfl,?_⟩
 refine v1 ot.eq_1 ?_
 refine(rD h hl).mono ?_
 rintro r H1 ⟨f1,fp,s1,mr⟩
 obtain⟨ra,rc,rfl,hrc⟩:=Uf s1
 refine vs ?_
 refine bA.intro (fun m env H'=>ax H H'∧∃ (j:Nat),m=l.length - j∧j≤l.length∧Sl H' 1 (.slice ra l.length rc) l.length (((l.take j).map eY++l.drop j).map i64) fp∧
  env=[(3,.slice ra l.length rc),(12,i64 l.length),(13,i64 j)]) l.length ⟨f1,0,by omega,by omega,by simpa using s1,rfl⟩ ?_
 rintro m env H2 ⟨f2,j,hm,hj,s2,rfl⟩
 refine vs ?_
 refine ak.dec (fun aR=>?_) (fun aR=>?_)<;>refine vs ?_
 ·have kJ:j<l.length:=by omega
  obtain⟨x,hx⟩:∃x,l[j]? =some x:=⟨_,al5 kJ⟩
  have GM:((l.take j).map eY++l.drop j)[j]? =some x:=by
   rw[amw (by simp;omega)]
   simp only[amu,amS,an4 hj]
   rw[amF,am3,Nat.add_zero,hx]
  cases fp with
  |none=>obtain⟨_,h0,_⟩:=s2;omega
  |some b=>
   obtain⟨_,rfl,lb,ho,hc⟩:=Sl.num s2 GM
   have pJ:l.length≤lb.length:=by
    obtain⟨_,l',c2,_,h2,h3,h4,_⟩:=s2
    rw[ho]at h2;injection h2 with h2;subst h2;omega
   refine⟨⟨by omega,by omega⟩,?_⟩
   refine v5 (ae ho) Int.toNat_natCast ama al6 hc ?_
   refine⟨⟨by omega,by omega⟩,?_⟩
   refine v4 ho Int.toNat_natCast ama al6 ?_
   refine⟨by omega,?_⟩
   have s3:=s2.vX ho j (i64 (eY x))
   have e3:ax H (H2.wr b (lb.set j (i64 (eY x)))):=f2.then ((ai.refl (fun z=>z=b) _).wr (fun _=>rfl) _) (fun z hz=>by have:=mr b rfl;omega)
   rw[←amO,SX hx]at s3
   have hif:(if 1>x then(1:Int)else x)=eY x:=by unfold eY;split<;>omega
   refine vs ?_
   rw[hif,wrap64 (n:=(j:Int)+1) (by omega) (by omega)]
   exact⟨l.length - (j+1),by omega,e3,j+1,rfl,by omega,s3,rfl⟩
 have kJ:j=l.length:=by omega
 subst kJ
 rw[amB,List.drop_length,amW]at s2
 have Ss:(l.map eY).length=l.length:=amu ..
 rw[←Ss]at s2 ⊢
 refine(DP s2 (by omega)).mono ?_
 rintro _ H3 ⟨rfl,s3,e3⟩
 have f3:ax H H3:=f2.then e3 (fun z hz=>(mr z hz).1)
 have hL:(lO (l.map eY)).length=l.length:=by rw[th,Ss]
 have RS:∀x∈lO (l.map eY),1≤x∧x≤M:=fun x hx=>by
  have:=(Ht (l.map eY)).mem_iff.1 hx
  obtain⟨y,hy,rfl⟩:=amJ.1 this
  have h1:=C0 y
  have h2:=hM (eY y).toNat (amJ.2 ⟨y,hy,rfl⟩)
  omega
 rw[Ss,←hL]at s3 ⊢
 have JC:=NW l
 have SY:=KH (l.map eY)
 generalize hLL:lO (l.map eY)=L at*
 generalize abk:L.map Int.toNat=ns at*
 have YH:ns.length=L.length:=by rw[←abk];simp
 refine vs ?_
 refine bA.intro (fun m env H'=>H'=H3∧∃ (j free at_:Nat),m=L.length - j∧j≤L.length∧eE M ns j free at_∧free≤2*L.length+1∧(∀x,L[j]? =some x→(at_:Int)≤x)∧
  env=[(3,.slice ra L.length rc),(5,i64 free),(6,i64 at_),(27,.slice ra L.length rc),(28,i64 L.length),(29,i64 j)]) L.length ⟨rfl,0,1,0,by omega,by omega,eE.begin M ns,by omega,fun x hx=>by have:=RS x (amb hx);omega,rfl⟩ ?_
 rintro m env H4 ⟨rfl,j,free,at_,hm,hj,hk,RQ,oU,rfl⟩
 refine vs ?_
 refine ak.dec (fun aR=>?_) (fun aR=>?_)<;>refine vs ?_
 ·obtain⟨x,hx⟩:∃x,L[j]? =some x:=⟨_,al5 (by omega)⟩
  obtain⟨x1,x2⟩:=RS x (amb hx)
  have OX:ns[j]? =some x.toNat:=by rw[←abk,amo,hx];rfl
  have tM:=oU x hx
  obtain⟨_,b,o,lb,rfl,mu,bE⟩:=ep.num s3.rd hx
  refine⟨⟨by omega,by omega⟩,?_⟩
  refine v4 mu Int.toNat_natCast ama bE ?_
  refine bA.intro (fun m' env H'=>H'=H4∧∃ (free at_:Nat),m'=x.toNat - at_∧eE M ns j free at_∧free≤2*L.length+1∧(at_:Int)≤x∧
   env=[(3,.slice (some ⟨b,o,none⟩) L.length rc),(5,i64 free),(6,i64 at_),(8,i64 x),(27,.slice (some ⟨b,o,none⟩) L.length rc),(28,i64 L.length),(29,i64 j)]) (x.toNat - at_) ⟨rfl,free,at_,rfl,hk,RQ,tM,rfl⟩ ?_
  clear hk RQ tM oU
  rintro m' env H5 ⟨rfl,free,at_,hm',hk,RQ,tM,rfl⟩
  refine vs ?_
  refine ak.dec (fun g1=>?_) (fun g1=>?_)<;>refine vs ?_
  ·refine ak.dec (fun g2=>?_) (fun g2=>?_)<;>refine vs ?_
   ·refine ak.dec (fun g3=>?_) (fun g3=>?_)<;>refine vs ?_
    ·rw[wrap64 (n:=(free:Int)*2) (by omega) (by omega),wrap64 (n:=(at_:Int)+1) (by omega) (by omega)]
     exact⟨x.toNat - (at_+1),by omega,trivial,free*2,at_+1,rfl,hk.double (by omega),by omega,by omega,rfl⟩
    ·have hK:eE M ns j free x.toNat:=hk.jump (by omega) (by omega) (by omega)
     refine ak.dec (fun hz=>?_) (fun hz=>?_)<;>refine vs ?_
     ·have K5:free=0:=by omega
      subst K5
      rw[←By M JC,hK.none (m:=x.toNat) OX]
      exact⟨rfl,f3⟩
     ·rw[wrap64 (n:=(free:Int) - 1) (by omega) (by omega),wrap64 (n:=(j:Int)+1) (by omega) (by omega)]
      refine⟨L.length - (j+1),by omega,trivial,j+1,free - 1,x.toNat,rfl,by omega,hK.use OX (by omega),by omega,fun y hy=>?_,by rw[show((free - 1:Nat):Int)=(free:Int) - 1 by omega,show((x.toNat:Nat):Int)=x by omega];rfl⟩
      obtain⟨HY,zV⟩:=al7.1 hy
      obtain⟨jq,GM⟩:=al7.1 hx
      have:=anx.1 SY j (j+1) jq HY (by omega)
      rw[zV,GM]at this
      omega
   ·have hK:eE M ns j free x.toNat:=hk.abi (by omega) (by omega)
    refine ak.dec (fun hz=>?_) (fun hz=>?_)<;>refine vs ?_
    ·have K5:free=0:=by omega
     subst K5
     rw[←By M JC,hK.none (m:=x.toNat) OX]
     exact⟨rfl,f3⟩
    ·rw[wrap64 (n:=(free:Int) - 1) (by omega) (by omega),wrap64 (n:=(j:Int)+1) (by omega) (by omega)]
     refine⟨L.length - (j+1),by omega,trivial,j+1,free - 1,x.toNat,rfl,by omega,hK.use OX (by omega),by omega,fun y hy=>?_,by rw[show((free - 1:Nat):Int)=(free:Int) - 1 by omega,show((x.toNat:Nat):Int)=x by omega];rfl⟩
     obtain⟨HY,zV⟩:=al7.1 hy
     obtain⟨jq,GM⟩:=al7.1 hx
     have:=anx.1 SY j (j+1) jq HY (by omega)
     rw[zV,GM]at this
     omega
  ·have hK:eE M ns j free x.toNat:=(show x.toNat=at_ by omega)▸hk
   refine ak.dec (fun hz=>?_) (fun hz=>?_)<;>refine vs ?_
   ·have K5:free=0:=by omega
    subst K5
    rw[←By M JC,hK.none (m:=x.toNat) OX]
    exact⟨rfl,f3⟩
   ·rw[wrap64 (n:=(free:Int) - 1) (by omega) (by omega),wrap64 (n:=(j:Int)+1) (by omega) (by omega)]
    refine⟨L.length - (j+1),by omega,trivial,j+1,free - 1,x.toNat,rfl,by omega,hK.use OX (by omega),by omega,fun y hy=>?_,by rw[show((free - 1:Nat):Int)=(free:Int) - 1 by omega,show((x.toNat:Nat):Int)=x by omega];rfl⟩
    obtain⟨HY,zV⟩:=al7.1 hy
    obtain⟨jq,GM⟩:=al7.1 hx
    have:=anx.1 SY j (j+1) jq HY (by omega)
    rw[zV,GM]at this
    omega
 ·have kJ:j=L.length:=by omega
  subst kJ
  rw[←YH]at hk
  have hd:=hk.done
  rw[By M JC]at hd
  refine ak.dec (fun hz=>?_) (fun hz=>?_)<;>refine vs ?_
  ·rw[hd,if_pos (by omega)]
   exact⟨rfl,f3⟩
  ·rw[hd,if_neg (by omega)]
   exact⟨rfl,f3⟩
def fJ(ns:List Nat)(k:Nat):List Nat:=ns.filter fun y=>decide (k<y)
def same(ns:List Nat)(k:Nat):Nat:=ns.countP fun y=>decide (y=k)
def under(ns:List Nat)(k:Nat):Nat:=ns.foldl (fun m y=>if y<k then max m y else m) 0
theorem NX(M:Nat)(k:Nat):∀ns:List Nat,kS M (fJ ns k)=kS M (fJ ns (k+1))+same ns (k+1)*2^ (M - (k+1)):=by
 intro ns
 induction ns with
 |nil=>simp[fJ,same,kS]
 |cons y ns ih=>
  unfold fJ same at*
  rw[anV,anV,ane]
  by_cases h1:k+1<y
  ·rw[if_pos (by simp;omega),if_pos (by simp;omega),if_neg (by simp;omega),rj,rj,ih]
   simp only[Nat.add_zero]
   omega
  ·by_cases h2:y=k+1
   ·rw[if_pos (by simp;omega),if_neg (by simp;omega),if_pos (by simp;omega),rj,ih,h2,am6]
    omega
   ·rw[if_neg (by simp;omega),if_neg (by simp;omega),if_neg (by simp;omega),ih]
    simp only[Nat.add_zero]
theorem Qx(k:Nat):∀ns:List Nat,(fJ ns k).length=(fJ ns (k+1)).length+same ns (k+1):=by
 intro ns
 induction ns with
 |nil=>simp[fJ,same]
 |cons y ns ih=>
  unfold fJ same at*
  rw[anV,anV,ane]
  by_cases h1:k+1<y
  ·rw[if_pos (by simp;omega),if_pos (by simp;omega),if_neg (by simp;omega),ams,ams,ih]
   omega
  ·by_cases h2:y=k+1
   ·rw[if_pos (by simp;omega),if_neg (by simp;omega),if_pos (by simp;omega),ams,ih]
    omega
   ·rw[if_neg (by simp;omega),if_neg (by simp;omega),if_neg (by simp;omega),ih]
    simp only[Nat.add_zero]
theorem NY{ns:List Nat}{k:Nat}(h:∀y∈ns,y≤k):fJ ns k=[]:=by
 unfold fJ
 rw[List.filter_eq_nil_iff]
 intro y hy
 have:=h y hy
 simp;omega
theorem Qy{ns:List Nat}(h:∀y∈ns,1≤y):fJ ns 0=ns:=by
 unfold fJ
 rw[aod]
 intro y hy
 have:=h y hy
 simp;omega
theorem Qz{ns:List Nat}{k k':Nat}(hk:k'≤k)(h:∀y∈ns,¬ (k'<y∧y≤k)):fJ ns k=fJ ns k':=by
 unfold fJ
 apply List.filter_congr
 intro y hy
 have:=h y hy
 rw[decide_eq_decide]
 omega
theorem Hu(ns:List Nat)(y k:Nat):under (ns++[y]) k=if y<k then max (under ns k) y else under ns k:=by unfold under;rw[List.foldl_append];rfl
theorem SZ{k:Nat}(hk:0<k):∀ns:List Nat,under ns k<k∧∀y∈ns,y<k→y≤under ns k:=by
 intro ns
 have:∀r:List Nat,under r.reverse k<k∧∀y∈r.reverse,y<k→y≤under r.reverse k:=by
  intro r
  induction r with
  |nil=>exact⟨hk,by simp⟩
  |cons x r ih=>
   rw[List.reverse_cons,Hu]
   refine⟨by split<;>omega,fun y hy aR=>?_⟩
   rcases aml.1 hy with hy|hy
   ·have:=ih.2 y hy aR
    split<;>omega
   ·rw[amg]at hy
    subst hy
    rw[if_pos aR]
    omega
 have:=this ns.reverse
 rwa[List.reverse_reverse]at this
theorem QA(ns:List Nat)(y k:Nat):same (ns++[y]) k=same ns k+if y=k then 1 else 0:=by
 unfold same
 rw[List.countP_append,ane]
 simp
theorem Mh{l:List Int}{j:Nat}{x:Int}(hx:l[j]? =some x):gE (l.take (j+1))=gE (l.take j)++[(eY x).toNat]:=by
 unfold gE
 rw[amG,hx,amU]
 rfl
set_option maxHeartbeats 4000000 in
theorem Ey{H:Hp}{a:Option Addr}{c:Nat}{l:List Int}(h:ep H 1 (.slice a l.length c) l.length (l.map i64))(hl:l.length≤1000000){M:Nat}(hM:∀n∈gE l,n≤M)(hM2:M≤9223372036854775807):
  ah Tryz.prog Ic [.slice a l.length c] H fun v H'=>ay (v=i64 (Dh M (gE l))∧ax H H'):=by
 refine be Iq ⟨rfl,?_⟩
 refine v1 rO.eq_1 ?_
 refine bA.intro (fun m env H'=>H'=H∧∃ (j at_:Nat),m=l.length - j∧j≤l.length∧(∀y∈gE (l.take j),y≤at_)∧at_≤M∧
  env=[(0,.slice a l.length c),(3,i64 0),(4,.bool false),(5,i64 at_),(11,.slice a l.length c),(12,i64 l.length),(13,i64 j)]) l.length ⟨rfl,0,0,by omega,by omega,by simp[gE],by omega,rfl⟩ ?_
 rintro m env H1 ⟨rfl,j,at_,hm,hj,oU,abl,rfl⟩
 refine vs ?_
 refine ak.dec (fun aR=>?_) (fun aR=>?_)<;>refine vs ?_
 ·obtain⟨x,hx⟩:∃x,l[j]? =some x:=⟨_,al5 (by omega)⟩
  have hxM:=hM (eY x).toNat (amb (SW hx))
  have jq:=C0 x
  obtain⟨_,b,o,lb,rfl,mu,bE⟩:=ep.num h hx
  refine⟨⟨by omega,by omega⟩,?_⟩
  refine v4 mu Int.toNat_natCast ama bE ?_
  have hif:(if 1> (if x> (at_:Int)then x else(at_:Int))then(1:Int)else if x> (at_:Int)then x else(at_:Int))=((max at_ (eY x).toNat:Nat):Int):=by
   unfold eY
   split<;>split<;>omega
  rw[hif,wrap64 (n:=(j:Int)+1) (by omega) (by omega)]
  refine⟨l.length - (j+1),by omega,trivial,j+1,max at_ (eY x).toNat,rfl,by omega,fun y hy=>?_,by omega,rfl⟩
  rw[Mh hx]at hy
  rcases aml.1 hy with hy|hy
  ·have:=oU y hy;omega
  ·rw[amg]at hy;omega
 have kJ:j=l.length:=by omega
 subst kJ
 rw[amB]at oU
 have gD:∀y∈gE l,1≤y:=fun y hy=>by
  obtain⟨x,hx,rfl⟩:=amJ.1 hy
  have:=C0 x
  omega
 have hu0:wq M (kS M (fJ (gE l) at_)) at_ 0 false:=by rw[NY oU];exact wq.zero M at_
 refine bA.intro (fun m env H'=>H'=H1∧∃ (n at_:Nat) (part:Bool),m=at_∧at_≤M∧wq M (kS M (fJ (gE l) at_)) at_ n part∧n≤(fJ (gE l) at_).length∧
  env=[(0,.slice a l.length c),(3,i64 n),(4,.bool part),(5,i64 at_)]) at_ ⟨rfl,0,at_,false,rfl,abl,hu0,by omega,rfl⟩ ?_
 clear hu0 oU abl aR hm hj
 clear at_ m
 rintro m env H2 ⟨rfl,n,k,part,hm,hkM,hu,hn,rfl⟩
 have hal:(fJ (gE l) k).length≤l.length:=by
  have:=List.length_filter_le (fun y=>decide (k<y)) (gE l)
  rw[F7]at this
  exact this
 refine vs ?_
 refine ak.dec (fun aR=>?_) (fun aR=>?_)<;>refine vs ?_
 rotate_left
 ·have Y2:k=0:=by omega
  subst Y2
  rw[Qy gD]at hu
  have he:=hu.K9
  rw[he]
  refine ak.dec (fun g1=>?_) (fun g1=>?_)<;>refine vs ?_
  ·rw[if_pos (.inl (by omega))]
   exact⟨rfl,ai.refl _ _⟩
  ·refine ak.dec (fun g2=>?_) (fun g2=>?_)<;>refine vs ?_
   ·cases part
    ·refine vs ?_
     refine ak.dec (fun g3=>?_) (fun g3=>?_)<;>refine vs ?_
     ·rw[if_neg (by simp;omega),if_pos (by omega)]
      exact⟨rfl,ai.refl _ _⟩
     ·omega
    ·refine vs ?_
     rw[if_pos (.inr ⟨by omega,rfl⟩)]
     exact⟨rfl,ai.refl _ _⟩
   ·refine ak.dec (fun g3=>?_) (fun g3=>?_)<;>refine vs ?_
    ·omega
    ·rw[if_neg (by omega),if_neg (by omega)]
     exact⟨rfl,ai.refl _ _⟩
 have YB:k - 1+1=k:=by omega
 refine bA.intro (fun m' env H'=>H'=H2∧∃ (j:Nat),m'=l.length - j∧j≤l.length∧
  env=[(0,.slice a l.length c),(3,i64 ((n+same (gE (l.take j)) k:Nat):Int)),(4,.bool part),(5,i64 k),(8,i64 (under (gE (l.take j)) k)),(23,.slice a l.length c),(24,i64 l.length),(25,i64 j)]) l.length ⟨rfl,0,by omega,by omega,rfl⟩ ?_
 rintro m' env H3 ⟨rfl,j,hm',hj,rfl⟩
 refine vs ?_
 refine ak.dec (fun Eh=>?_) (fun Eh=>?_)<;>refine vs ?_
 ·obtain⟨x,hx⟩:∃x,l[j]? =some x:=⟨_,al5 (by omega)⟩
  have hxM:=hM (eY x).toNat (amb (SW hx))
  have jq:=C0 x
  obtain⟨_,b,o,lb,rfl,mu,bE⟩:=ep.num h hx
  refine⟨⟨by omega,by omega⟩,?_⟩
  refine v4 mu Int.toNat_natCast ama bE ?_
  have MS:(if 1>x then(1:Int)else x)=(((eY x).toNat:Nat):Int):=by unfold eY;split<;>omega
  have MO:same (gE (l.take j)) k≤l.length:=by
   have:=List.countP_le_length (p:=fun y=>decide (y=k)) (l:=gE (l.take j))
   rw[F7,amS]at this
   exact amM this (by omega)
  have eR:=QA (gE (l.take j)) (eY x).toNat k
  have VA:=Hu (gE (l.take j)) (eY x).toNat k
  rw[←Mh hx]at eR VA
  rw[MS]
  refine ak.dec (fun g1=>?_) (fun g1=>?_)<;>refine vs ?_
  ·rw[MS,wrap64 (n:=((n+same (gE (l.take j)) k:Nat):Int)+1) (by omega) (by omega)]
   rw[if_pos (by omega)]at eR
   rw[if_neg (by omega)]at VA
   refine ak.dec (fun g2=>?_) (fun g2=>?_)<;>refine vs ?_
   ·omega
   ·rw[wrap64 (n:=(j:Int)+1) (by omega) (by omega)]
    exact⟨l.length - (j+1),by omega,trivial,j+1,rfl,by omega,by rw[eR,VA,show((n+(same (gE (l.take j)) k+1):Nat):Int)=((n+same (gE (l.take j)) k:Nat):Int)+1 by omega];rfl⟩
  ·rw[MS]
   rw[if_neg (by omega),Nat.add_zero]at eR
   refine ak.dec (fun g2=>?_) (fun g2=>?_)<;>refine vs ?_
   ·rw[if_pos (by omega)]at VA
    have hif:(if 1> (if x> ((under (gE (l.take j)) k:Nat):Int)then x else((under (gE (l.take j)) k:Nat):Int))then(1:Int)else if x> ((under (gE (l.take j)) k:Nat):Int)then x else((under (gE (l.take j)) k:Nat):Int))=((max (under (gE (l.take j)) k) (eY x).toNat:Nat):Int):=by
     unfold eY
     split<;>split<;>omega
    rw[hif,wrap64 (n:=(j:Int)+1) (by omega) (by omega)]
    exact⟨l.length - (j+1),by omega,trivial,j+1,rfl,by omega,by rw[eR,VA];rfl⟩
   ·rw[if_neg (by omega)]at VA
    rw[wrap64 (n:=(j:Int)+1) (by omega) (by omega)]
    exact⟨l.length - (j+1),by omega,trivial,j+1,rfl,by omega,by rw[eR,VA];rfl⟩
 have kJ:j=l.length:=by omega
 subst kJ
 rw[amB]
 have uB:=NX M (k - 1) (gE l)
 have EM:=Qx (k - 1) (gE l)
 rw[YB]at uB EM
 have Ui:=hu.more (same (gE l) k)
 rw[←uB]at Ui
 obtain⟨hun,hug⟩:=SZ (k:=k) (by omega) (gE l)
 have abm:fJ (gE l) (k - 1)=fJ (gE l) (under (gE l) k):=Qz (by omega) fun y hy hh=>by
  have:=hug y hy (by omega)
  omega
 rw[abm]at Ui EM
 have akx:(fJ (gE l) (under (gE l) k)).length≤l.length:=by
  have:=List.length_filter_le (fun y=>decide (under (gE l) k<y)) (gE l)
  rw[F7]at this
  exact this
 have zD:n+same (gE l) k≤(fJ (gE l) (under (gE l) k)).length:=by omega
 generalize n+same (gE l) k=n2 at*
 generalize under (gE l) k=nx at*
 refine bA.intro (fun m' env H'=>H'=H3∧∃ (n at_:Nat) (part:Bool),m'=at_∧nx≤at_∧at_≤k∧wq M (kS M (fJ (gE l) nx)) at_ n part∧n≤(fJ (gE l) nx).length∧
  env=[(0,.slice a l.length c),(3,i64 n),(4,.bool part),(5,i64 at_),(8,i64 nx)]) k ⟨rfl,n2,k,part,rfl,by omega,by omega,Ui,zD,rfl⟩ ?_
 clear Ui zD hu hn uB EM abm
 rintro m' env H4 ⟨rfl,n3,at_,S0,hm',IS,hak,hu3,hn3,rfl⟩
 refine vs ?_
 refine ak.dec (fun g1=>?_) (fun g1=>?_)<;>refine vs ?_
 ·refine ak.dec (fun g2=>?_) (fun g2=>?_)<;>refine vs ?_
  ·have hh:=hu3.half (by omega) (by omega)
   have e1:((n3:Nat):Int).tmod 2=((n3%2:Nat):Int):=rfl
   have e2:((n3:Nat):Int).tdiv 2=((n3 / 2:Nat):Int):=rfl
   have oU:((at_ - 1:Nat):Int)=(at_:Int) - 1:=by omega
   cases S0
   ·refine v2 e1 e2 ?_
    rw[if_neg (by decide)]
    refine v2 e1 e2 ?_
    rw[if_neg (by decide),wrap64 (n:=((n3 / 2:Nat):Int)) (by omega) (by omega)]
    refine vs ?_
    rw[wrap64 (n:=(at_:Int) - 1) (by omega) (by omega)]
    have hb:decide (((n3%2:Nat):Int)=1)=(false || n3%2==1):=by
     rw[aoc]
     rcases(show n3%2=0∨n3%2=1 by omega)with h|h<;>rw[h]<;>rfl
    exact⟨at_ - 1,by omega,trivial,n3 / 2,at_ - 1,_,rfl,by omega,by omega,hh,by omega,by rw[hb,oU]⟩
   ·refine v2 e1 e2 ?_
    rw[if_neg (by decide),wrap64 (n:=((n3 / 2:Nat):Int)) (by omega) (by omega)]
    refine vs ?_
    rw[wrap64 (n:=(at_:Int) - 1) (by omega) (by omega)]
    exact⟨at_ - 1,by omega,trivial,n3 / 2,at_ - 1,_,rfl,by omega,by omega,hh,by omega,by rw[oU];rfl⟩
  ·have h0:n3=0:=by omega
   subst h0
   exact⟨nx,by omega,trivial,0,nx,S0,rfl,by omega,hu3.down IS,by omega,rfl⟩
 ·have h0:at_=nx:=by omega
  subst h0
  exact⟨at_,by omega,trivial,n3,at_,S0,rfl,by omega,hu3,hn3,rfl⟩
end Go.Proofs.YtjlnnljohemifaaGreat
