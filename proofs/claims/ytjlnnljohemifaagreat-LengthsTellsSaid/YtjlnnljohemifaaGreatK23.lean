/- Texts put behind each other. -/
import Derived.Test.YtjlnnljohemifaaGreatK98
import Derived.Test.YtjlnnljohemifaaGreatK0
import Derived.Test.YtjlnnljohemifaaGreatK1
import Derived.Test.YtjlnnljohemifaaGreatK17
import Derived.Test.YtjlnnljohemifaaGreatK19
import Derived.Test.YtjlnnljohemifaaGreatK20
import Derived.Test.YtjlnnljohemifaaGreatK21
import Derived.Test.YtjlnnljohemifaaGreatK22
set_option linter.unusedVariables false
set_option linter.unusedSimpArgs false
namespace Go.Proofs.YtjlnnljohemifaaGreat
open Go Go.Vc
structure RM(n:Nat)(A:Ar):Prop where
 len:A.g.length=n
 mo:A.mo=4294967295
 free:∀x:Int,0≤x→x<A.nx→¬A.live x→x∈A.wt
theorem RM.zero(n:Nat):RM n (QP (n:Int) 4294967295):=⟨by simp[QP],rfl,fun x h0 h1=>by simp[QP]at h1;omega⟩
theorem RM.room{n:Nat}{A:Ar}(h:RM n A){x:Int}(h0:0≤x∧x<n)(hl:¬A.live x)(ok:Bm A):A.pick≠none:=by
 have bv:=h.len
 have KG:=ok.nx
 unfold Ar.pick
 split
 ·simp
 ·rename_i hw
  rw[Classical.not_not]at hw
  split
  ·rename_i he
   have:=h.free x h0.1 (by omega) hl
   rw[hw]at this
   cases this
  ·simp
theorem RM.out{n:Nat}{A A':Ar}{x:Int}(h:RM n A)(ok:Bm A)(hp:A.pick=some (x,A')):RM n (A'.out x):=by
 obtain⟨hx,rG,Zi,Ge,hg,hct,hmo⟩:=Ar.CP hp ok
 have G2:0≤x∧x<A'.g.length:=by rw[hg];exact hx
 refine⟨by show(A'.g.set _ _).length=n;rw[anC,hg];exact h.len,by show A'.mo=_;rw[hmo];exact h.mo,fun y h0 h1 hl=>?_⟩
 have h1:y< (A'.nx:Int):=h1
 rw[Ar.qF (A:=A') G2 rfl h0]at hl
 by_cases e:y=x
 ·rw[if_pos e]at hl;exact absurd rfl hl
 ·rw[if_neg e]at hl
  have wC:¬A.live y:=by unfold Ar.live at hl ⊢;rw[hg]at hl;exact hl
  show y∈A'.wt
  unfold Ar.pick at hp
  split at hp
  ·rename_i aS
   injection hp with hp
   injection hp with EU wG
   subst wG
   have hm:=h.free y h0 h1 wC
   have hw:A.wt=A.wt.dropLast++[A.wt.getLastD 0]:=by
    conv=>lhs;rw[←List.dropLast_concat_getLast aS]
    rw[apb,List.getLast?_eq_some_getLast aS]
    rfl
   rw[hw,anR,anM]at hm
   rcases hm with hm|hm
   ·exact hm
   ·exact absurd (hm.trans EU) e
  ·split at hp
   ·cases hp
   ·injection hp with hp
    injection hp with EU wG
    subst wG
    simp only at h1
    exact h.free y h0 (by omega) wC
theorem RM.back{n:Nat}{A:Ar}{x:Int}(h:RM n A)(hx:0≤x∧x<A.g.length)(hg:A.cf x<4294967295):RM n (A.back x):=by
 refine⟨by show(A.g.set _ _).length=n;rw[anC];exact h.len,h.mo,fun y h0 h1 hl=>?_⟩
 rw[Ar.qF (A:=A) hx rfl h0]at hl
 show y∈(if A.cf x<A.mo then A.wt++[x]else A.wt)
 rw[h.mo,if_pos hg,anR,anM]
 by_cases e:y=x
 ·exact .inr e
 ·rw[if_neg e]at hl
  exact .inl (h.free y h0 h1 hl)
theorem QQ{A A':Ar}{x:Int}(hp:A.pick=some (x,A'))(ok:Bm A):Bm A':=by
 have KG:=ok.nx
 unfold Ar.pick at hp
 split at hp
 ·rename_i aS
  injection hp with hp
  injection hp with EU wG
  subst wG
  exact⟨fun y hy=>ok.wl y ((apK _).subset hy),List.Nodup.sublist (apK _) ok.wd,ok.fr,ok.ct,ok.nx⟩
 ·split at hp
  ·cases hp
  ·injection hp with hp
   injection hp with EU wG
   subst wG
   exact⟨fun y hy=>by have:=ok.wl y hy;exact⟨this.1,by simp only;omega,this.2.2⟩,ok.wd,fun y hy=>ok.fr y (by simp only at hy;omega),ok.ct,by simp only;omega⟩
structure Jl(n:Nat)(w:Nw)(A:Ar)(L:List ((Int×Nat)×Value))(bG:List (Int×Nat))(at_:Nat):Prop where
 hs:w.has 1
 Vb:RM n A
 lk:Xf w A
 ok:Bm A
 c1:∀ (x:Int) y,0≤x→w.cs[x.toNat]? =some y→y.1=0∨(y.1=1∧∃id:Nat,y.2.2=(id:Int)+1∧(y.2.1,id)∈bG∧((x,A.cf x),i64 id)∈L)
 c2:∀p∈bG,∃x:Int,0≤x∧w.cs[x.toNat]? =some (1,p.1,(p.2:Int)+1)
 ge:∀x:Int,0≤x→A.cf x≤at_
 ls:∀p∈L,0≤p.1.1∧p.1.2≤A.cf p.1.1
 ids:L.map (·.2)=(List.range at_).map fun(i:Nat)=>i64 i
 ri:sP bG
 lt:∀p∈bG,p.2<at_
 cn:A.ct=bG.length
theorem Jl.idx{n at_:Nat}{w:Nw}{A:Ar}{L:List ((Int×Nat)×Value)}{bG:List (Int×Nat)}(h:Jl n w A L bG at_){a b:Int×Nat}{id:Nat}(h1:(a,i64 id)∈L)(h2:(b,i64 id)∈L):a=b:=by
 obtain⟨i,hi⟩:=an8 h1
 obtain⟨j,hj⟩:=an8 h2
 have hk:∀ (k:Nat) (c:(Int×Nat)×Value),L[k]? =some c→c.2=i64 (k:Int):=by
  intro k c hc
  have e1:(L.map (·.2))[k]? =some c.2:=by rw[anT,hc];rfl
  rw[h.ids,anT]at e1
  have aR:=(anA.1 hc).1
  have ol:L.length=at_:=by have:=an4 List.length h.ids;simpa using this
  rw[aoT (by omega)]at e1
  simpa using e1.symm
 have e1:=hk i _ hi
 have e2:=hk j _ hj
 have e3:i=j:=by
  have:=e1.symm.trans e2
  injection this with _ this
  omega
 subst e3
 rw[hi]at hj
 injection hj with hj
 injection hj
theorem Jl.first{n at_:Nat}{w:Nw}{A:Ar}{L:List ((Int×Nat)×Value)}{bG:List (Int×Nat)}(h:Jl n w A L bG at_){x:Int}{y:Ce}(hf:w.first 1 x)(hy:w.cs[x.toNat]? =some y):0≤x∧x<n∧∃id:Nat,y=(1,y.2.1,(id:Int)+1)∧Pg (y.2.1,id) bG∧((x,A.cf x),i64 id)∈L:=by
 obtain⟨_,f2,f3⟩:=bO.1 hf
 obtain⟨x0,x1,_⟩:=aH (w:=w) (x:=x) (by omega)
 have Iy:=mZ x0 hy
 rw[f2]at Iy
 have bv:w.cs.length=n:=by rw[h.lk.len];exact h.Vb.len
 rcases h.c1 x y x0 hy with h0| ⟨_,id,e1,e2,e3⟩
 ·omega
 refine⟨x0,by omega,id,?_,⟨e2,fun q hq aS=>?_⟩,e3⟩
 ·obtain⟨a,b,c⟩:=y
  simp only at Iy e1 ⊢
  rw[←Iy,e1]
 ·obtain⟨z,z0,hz⟩:=h.c2 q hq
  have UY:z≠x:=by
   intro e
   rw[e,hy]at hz
   injection hz with hz
   rw[hz]at e1
   simp only at e1
   omega
  have aR:=f3 z (mZ z0 hz) UY
  unfold aU at aR
  have k1:w.key x=y.2.1∧w.seq x=y.2.2:=by
   unfold Nw.key Nw.seq
   simp only[anE,hy]
   exact⟨rfl,rfl⟩
  have k2:w.key z=q.1∧w.seq z=(q.2:Int)+1:=by
   unfold Nw.key Nw.seq
   simp only[anE,hz]
   exact⟨rfl,rfl⟩
  rw[k1.1,k1.2,k2.1,k2.2]at aR
  simp only[aoq]at aR
  simp only
  omega
theorem Jl.ne0{n at_:Nat}{w:Nw}{A:Ar}{L:List ((Int×Nat)×Value)}{bG:List (Int×Nat)}(h:Jl n w A L bG at_)(hp:bG≠[]):w.len 1≠0:=by
 intro h0
 cases bG with
 |nil=>exact hp rfl
 |cons p r=>
  obtain⟨x,x0,hx⟩:=h.c2 p (by simp)
  exact(xA (by omega)).1 h0 x (mZ x0 hx)
theorem Jl.take{n at_:Nat}{w:Nw}{A:Ar}{L:List ((Int×Nat)×Value)}{bG:List (Int×Nat)}(h:Jl n w A L bG at_)(rP:at_<4294967295){x k:Int}{id:Nat}(hx:0≤x∧x<n)(hy:w.cs[x.toNat]? =some (1,k,(id:Int)+1))(hL:Pg (k,id) bG)(hm:((x,A.cf x),i64 id)∈L):Jl n (w.put x (0,0,0)) (A.back x) L (wo bG (k,id)) at_:=by
 have bv:w.cs.length=n:=by rw[h.lk.len];exact h.Vb.len
 have hxA:0≤x∧x<A.g.length:=by rw[h.Vb.len];exact hx
 have hg:∀z:Int,0≤z→(A.back x).cf z=A.cf z:=by
  intro z hz
  rw[Ar.Py (A:=A) (A':=A.back x) hxA rfl hz]
  split
  ·rename_i e;rw[e]
  ·rfl
 have xH:A.live x:=(h.lk.live x).1 ⟨hx.1,_,hy,by simp⟩
 refine⟨h.hs,h.Vb.back hxA (by have:=h.ge x hx.1;omega),h.lk.put hxA (v:=A.cf x) rfl,h.ok.back xH,fun z y z0 ME=>?_,fun p hp=>?_,fun z hz=>by rw[hg z hz];exact h.ge z hz,fun p hp=>by have:=h.ls p hp;exact⟨this.1,by rw[hg _ this.1];exact this.2⟩,h.ids,h.ri.wo _,fun p hp=>h.lt p (kQ.1 hp).1,?_⟩
 rotate_right
 ·have h1:=(BN h.ri hL.m).length_eq
  have h2:=h.cn
  rw[anY]at h1
  show A.ct - 1=_
  omega
 ·have ME:(w.cs.set x.toNat (0,0,0))[z.toNat]? =some y:=ME
  by_cases e:z=x
  ·subst e
   rw[anI (by omega)]at ME
   injection ME with ME
   exact .inl (by rw[←ME])
  ·rw[anH (by omega)]at ME
   rcases h.c1 z y z0 ME with h0| ⟨g1,id2,e1,e2,e3⟩
   ·exact .inl h0
   ·refine .inr ⟨g1,id2,e1,kQ.2 ⟨e2,fun e4=>e ?_⟩,by rw[hg z z0];exact e3⟩
    simp only at e4
    rw[e4]at e3
    have:=h.idx e3 hm
    injection this
 ·obtain⟨EU,wG⟩:=kQ.1 hp
  obtain⟨z,z0,hz⟩:=h.c2 p EU
  refine⟨z,z0,?_⟩
  show(w.cs.set x.toNat (0,0,0))[z.toNat]? =_
  rw[anH ?_]
  ·exact hz
  ·intro e
   rw[←e,hy]at hz
   injection hz with hz
   injection hz with _ hz
   injection hz with _ hz
   simp only at wG
   omega
theorem Jl.put{n at_:Nat}{w:Nw}{A A':Ar}{L:List ((Int×Nat)×Value)}{bG:List (Int×Nat)}(h:Jl n w A L bG at_){x:Int}(hp:A.pick=some (x,A'))(k:Int):(x,A.cf x+1)∉L.map (·.1)∧Jl n (w.put x (1,k,(at_:Int)+1)) (A'.out x) (L++[((x,A.cf x+1),i64 at_)]) (bG++[(k,at_)]) (at_+1):=by
 obtain⟨hx,rG,Zi,Ge,hgA,hct,hmo⟩:=Ar.CP hp h.ok
 have bv:w.cs.length=n:=by rw[h.lk.len];exact h.Vb.len
 have hAn:=h.Vb.len
 have G2:0≤x∧x<A'.g.length:=by rw[hgA];exact hx
 have Xe:∀z,A'.cf z=A.cf z:=fun z=>by unfold Ar.cf;rw[hgA]
 have hg:∀z:Int,0≤z→(A'.out x).cf z=if z=x then A.cf x+1 else A.cf z:=by
  intro z hz
  rw[Ar.Py (A:=A') (A':=A'.out x) G2 rfl hz]
  rw[Xe,Xe]
 have Tb:∀z,A'.live z↔A.live z:=fun z=>by unfold Ar.live;rw[hgA]
 have Xu:¬cZ w.cs x:=fun hi=>rG ((h.lk.live x).1 hi)
 refine⟨fun hm=>?_,?_⟩
 ·obtain⟨p,EU,wG⟩:=aou.1 hm
  have:=(h.ls p EU).2
  rw[wG]at this
  simp only at this
  omega
 ·refine⟨h.hs,h.Vb.out h.ok hp,h.lk.put hx (v:=A.cf x+1) ?_,?_,fun z y z0 ME=>?_,fun p hp=>?_,fun z hz=>?_,fun p hp=>?_,?_,?_,fun p hp=>?_,by show A'.ct+1=_;rw[hct,h.cn,anL];rfl⟩
  ·show A'.g.set x.toNat (A'.cf x+1,true)=_
   rw[Xe,hgA]
   rfl
  ·refine Bm.out (A:=A) ?_ hgA G2 (fun hl=>rG ((Tb x).1 hl)) Zi Ge
   exact QQ hp h.ok
  ·have ME:(w.cs.set x.toNat (1,k,(at_:Int)+1))[z.toNat]? =some y:=ME
   by_cases e:z=x
   ·subst e
    rw[anI (by omega)]at ME
    injection ME with ME
    subst ME
    refine .inr ⟨rfl,at_,rfl,by simp,?_⟩
    rw[hg z z0,if_pos rfl]
    simp
   ·rw[anH (by omega)]at ME
    rcases h.c1 z y z0 ME with h0| ⟨g1,id2,e1,e2,e3⟩
    ·exact .inl h0
    ·exact .inr ⟨g1,id2,e1,aoh _ e2,by rw[hg z z0,if_neg e];exact aoh _ e3⟩
  ·rcases anR.1 hp with hp|hp
   ·obtain⟨z,z0,hz⟩:=h.c2 p hp
    refine⟨z,z0,?_⟩
    show(w.cs.set x.toNat (1,k,(at_:Int)+1))[z.toNat]? =_
    rw[anH ?_]
    ·exact hz
    ·intro e
     exact Xu ⟨hx.1,_,by rw[e];exact hz,by simp⟩
   ·rw[anM]at hp
    subst hp
    refine⟨x,hx.1,?_⟩
    show(w.cs.set x.toNat (1,k,(at_:Int)+1))[x.toNat]? =_
    rw[anI (by omega)]
  ·rw[hg z hz]
   have:=h.ge z hz
   have:=h.ge x hx.1
   split<;>omega
  ·rcases anR.1 hp with hp|hp
   ·have:=h.ls p hp
    refine⟨this.1,?_⟩
    rw[hg _ this.1]
    split
    ·rename_i e;rw[e]at this;omega
    ·exact this.2
   ·rw[anM]at hp
    subst hp
    exact⟨hx.1,by rw[hg _ hx.1,if_pos rfl];exact anO _⟩
  ·rw[aos,h.ids,apC,aos]
   rfl
  ·refine apL.2 ⟨h.ri,by simp,fun a ha b hb=>?_⟩
   rw[anM]at hb
   subst hb
   exact h.lt a ha
  ·rcases anR.1 hp with hp|hp
   ·have:=h.lt p hp;omega
   ·rw[anM]at hp
    subst hp
    exact Nat.lt_succ_self _
theorem Jl.zero(n:Nat):Jl n (CS (n:Int)).make (QP (n:Int) 4294967295) [] [] 0:=by
 have hgz:∀x:Int,(QP (n:Int) 4294967295).cf x=0:=by
  intro x
  unfold Ar.cf QP
  simp only[anE,Int.toNat_natCast,aoH]
  split<;>rfl
 have hlz:∀x,¬ (QP (n:Int) 4294967295).live x:=by
  rintro x ⟨_,hx⟩
  unfold QP at hx
  simp only[Int.toNat_natCast,aoH]at hx
  split at hx<;>simp at hx
 have hiz:∀x,¬cZ (CS (n:Int)).make.cs x:=fun x hx=>nT (n:Int) x (bK.2 hx)
 refine⟨⟨by omega,rfl⟩,RM.zero n,⟨by simp[CS,QP,Nw.make],fun x=>⟨fun h=>absurd h (hiz x),fun h=>absurd h (hlz x)⟩⟩,⟨fun x hx=>(by cases hx),aoU,fun x _=>hlz x,?_,apv _⟩,fun x y x0 hy=>?_,fun p hp=>(by cases hp),fun x _=>by rw[hgz];exact anO _,fun p hp=>(by cases hp),rfl,List.Pairwise.nil,fun p hp=>(by cases hp),rfl⟩
 ·show(0:Int)=((List.replicate (n:Int).toNat ((0:Nat),false)).countP (·.2):Nat)
  rw[apg.2]
  ·rfl
  ·intro a ha
   rw[apA ha]
   simp
 ·have hy:(List.replicate (n:Int).toNat ((0,0,0):Ce))[x.toNat]? =some y:=hy
  exact .inl (by rw[apA (anG hy)])
theorem Jl.room{n at_:Nat}{w:Nw}{A:Ar}{L:List ((Int×Nat)×Value)}{bG:List (Int×Nat)}(h:Jl n w A L bG at_)(hp:bG.length<n):A.pick≠none:=by
 have h1:=h.ok.ct
 have h2:=h.cn
 have h3:=h.Vb.len
 have h4:∃y∈A.g,y.2=false:=by
  apply anX
  intro cw
  have:A.aX=A.g.length:=by
   unfold Ar.aX
   rw[List.countP_eq_length]
   intro y hy
   cases hb:y.2
   ·exact absurd ⟨y,hy,hb⟩ cw
   ·rfl
  omega
 obtain⟨y,hy,hb⟩:=h4
 obtain⟨i,hi⟩:=an8 hy
 have tR:=(anA.1 hi).1
 refine h.Vb.room (x:=(i:Int)) (by omega) (fun hl=>?_) h.ok
 have:=hl.2
 rw[Int.toNat_natCast,hi]at this
 simp[hb]at this
structure QR(H:Hp)(sb mb mp s:Nat)(S:Nat→Prop)(w:Nw)(A:Ar)(q:Int)(L:List ((Int×Nat)×Value)):Prop where
 st:Gh H s S w A q
 o1:H.own sb=some [ptr s]
 o2:H.own mb=some [.map (some mp)]
 m:xQ H mp L
 n1:¬S sb∧¬S mb∧¬S mp
 n2:mp≠sb∧mp≠mb
theorem QR.ext{H H':Hp}{sb mb mp s:Nat}{S T:Nat→Prop}{w:Nw}{A:Ar}{q:Int}{L:List ((Int×Nat)×Value)}(h:QR H sb mb mp s S w A q L)(e:ah T H H')(hd:∀z,S z∨z=sb∨z=mb∨z=mp→¬T z):QR H' sb mb mp s S w A q L:=
 ⟨h.st.ext e (fun z hz=>hd z (.inl hz)),e.own h.o1 (hd _ (by simp)),e.own h.o2 (hd _ (by simp)),h.m.ext e (hd _ (by simp)),h.n1,h.n2⟩
theorem QR.lt{H:Hp}{sb mb mp s:Nat}{S:Nat→Prop}{w:Nw}{A:Ar}{q:Int}{L:List ((Int×Nat)×Value)}(h:QR H sb mb mp s S w A q L):∀z,S z∨z=sb∨z=mb∨z=mp→z<H.size:=by
 rintro z (hz|rfl|rfl|rfl)
 ·exact h.st.slt z hz
 ·exact aG h.o1
 ·exact aG h.o2
 ·exact h.m.lt
theorem QR.to{H H':Hp}{sb mb mp s:Nat}{S S':Nat→Prop}{w w':Nw}{A A':Ar}{q q':Int}{L:List ((Int×Nat)×Value)}(h:QR H sb mb mp s S w A q L)(st:Gh H' s S' w' A' q')(e:ah S H H')(hs:∀z,S' z→S z∨H.size≤z):QR H' sb mb mp s S' w' A' q' L:=by
 have h1:=aG h.o1
 have h2:=aG h.o2
 have h3:=h.m.lt
 have hn:∀z,¬S z→z<H.size→¬S' z:=fun z h1 h2 h3=>by rcases hs z h3 with h|h;exact h1 h;omega
 exact⟨st,e.own h.o1 h.n1.1,e.own h.o2 h.n1.2.1,h.m.ext e h.n1.2.2,⟨hn _ h.n1.1 h1,hn _ h.n1.2.1 h2,hn _ h.n1.2.2 h3⟩,h.n2⟩
section
variable {H : Hp} {sb mb mp s n at_ : Nat} {S : Nat → Prop} {w : Nw} {A : Ar} {q : Int} {L : List ((Int × Nat) × Value)} {bG : List (Int × Nat)}
theorem tG(m:QR H sb mb mp s S w A (at_:Int) L)(h:Jl n w A L bG at_)(hp:bG.length<n)(rP:at_<1000000)(k:Int):
  ai Tryz.prog jB [i64 at_,i64 k,ptr sb,ptr mb] H fun v H'=>ay (v= .tuple [].toArray∧∃S' w' A' L',QR H' sb mb mp s S' w' A' ((at_:Int)+1) L'∧Jl n w' A' L' (bG++[(k,at_)]) (at_+1)∧ah (fun z=>S z∨z=mp) H H'∧∀z,S' z→S z∨H.size≤z):=by
 refine yi mixed AG (nt:=17) (by kernel_rfl) (by simp) ?_
 refine v2 jH.eq_1 (ae m.o1) ?_
 refine(Hi m.st h.hs (fun x x0 _=>by have:=h.ge x x0;omega) (by omega)).mono ?_
 rintro _ H1 (⟨cw,_⟩| ⟨x,A',Wb,rfl,S1,W1,e1,fE⟩)
 ·exact absurd cw (h.room hp)
 obtain⟨zI,hJ⟩:=h.put Wb k
 obtain⟨hx,_⟩:=Ar.CP Wb h.ok
 have m1:=m.to W1 e1 fE
 have akv:=e1.size
 refine vs ?_
 obtain⟨f2,b2,z2⟩:=Np H1 114 [Value.int .i64 0,Value.int .u32 0] [i64 x,Value.int .u32 ((A.cf x+1:Nat):Int)]
 generalize (H1.new 114 [Value.int .i64 0,Value.int .u32 0]).wr H1.size [i64 x,Value.int .u32 ((A.cf x+1:Nat):Int)]=H2 at*
 have m2:=m1.ext f2 (fun _ _ h=>h)
 refine v2 (ae m2.o2) (ae b2) ?_
 refine⟨EA _ _,?_⟩
 refine xQ.Zc m2.m (a:=(x,A.cf x+1)) zI fun H3 mp3 e3=>?_
 refine vs ?_
 refine⟨rfl,S1,_,_,_,⟨m2.st.ext e3 (fun z hz e=>m2.n1.2.2 (by rw[←e];exact hz)),e3.own m2.o1 (Ne.symm m2.n2.1),e3.own m2.o2 (Ne.symm m2.n2.2),mp3,m2.n1,m2.n2⟩,hJ,?_,fE⟩
 exact((e1.mono fun z _ h=>.inl h).trans (f2.mono fun z _ h=>h.elim)).trans (e3.mono fun z _ h=>.inr h)
end
end Go.Proofs.YtjlnnljohemifaaGreat

namespace Go.Proofs.YtjlnnljohemifaaGreat
open Go Go.Vc
structure ie(ws:List Int):Prop where
 n1:1≤ws.length
 n2:ws.length≤4096
 pos:∀x∈ws,1≤x
 sum:ws.sum≤9223372036854775807
theorem wE.sum{ws:List Int}{k:Nat}{s:Gc}(h:wE ws k s):∀p∈s.bG,∀q∈s.bG,p.2≠q.2→p.1+q.1≤mG ws.length (fun i=>ws.getD i 0)∨∃i,i<ws.length∧ws.getD i 0<0:=by
 intro p hp q hq aS
 by_cases Tc:∃i,i<ws.length∧ws.getD i 0<0
 ·exact .inr Tc
 ·refine .inl ?_
  rw[←h.wt p hp,←h.wt q hq,←BM]
  have:∀n,n≤ws.length→mG n (fun i=>(if s.R i=p.2 then ws.getD i 0 else 0)+(if s.R i=q.2 then ws.getD i 0 else 0))≤mG n (fun i=>ws.getD i 0):=by
   intro n hn
   induction n with
   |zero=>exact apF _
   |succ n ih=>
    have:=ih (by omega)
    have h0:0≤ws.getD n 0:=by
     apply anX
     intro hc
     exact Tc ⟨n,by omega,by omega⟩
    rw[eF,eF]
    split<;>split<;>omega
  exact this _ (anO _)
theorem JT(ws:List Int):mG ws.length (fun i=>ws.getD i 0)=ws.sum:=by
 unfold mG
 rw[wF]
theorem Td{H:Hp}{s:Nat}{S:Nat→Prop}{w:Nw}{A:Ar}{q:Int}(st:Gh H s S w A q)(T1 T2:TypeId):
  QR (((H.new T1 [ptr s]).fX.new T2 [Value.map none]).wr (Array.size H+1+1) [Value.map (some (Array.size H+1))]) H.size (H.size+1+1) (H.size+1) s S w A q []∧aq H (((H.new T1 [ptr s]).fX.new T2 [Value.map none]).wr (Array.size H+1+1) [Value.map (some (Array.size H+1))]):=by
 have fH:=st.slt
 have f1:aq H (H.new T1 [ptr s]):=(ah.refl _ _).new _ _
 have b1:(H.new T1 [ptr s]).own H.size=some [ptr s]:=aE _ _ _
 have z1:(H.new T1 [ptr s]).size=H.size+1:=ar _ _ _
 generalize H.new T1 [ptr s]=H1 at*
 have f2:aq H1 H1.fX:=(ah.refl _ _).fX
 have b2:=xQ.new H1
 have z2:H1.fX.size=H1.size+1:=kE _
 generalize H1.fX=H2 at*
 have f3:aq H2 (H2.new T2 [Value.map none]):=(ah.refl _ _).new _ _
 have b3:(H2.new T2 [Value.map none]).own H2.size=some [Value.map none]:=aE _ _ _
 have z3:(H2.new T2 [Value.map none]).size=H2.size+1:=ar _ _ _
 generalize H2.new T2 [Value.map none]=H3 at*
 rw[z2,z1]at b3
 rw[z1]at b2
 have e4:ah (fun x=>x=H.size+1+1) H3 (H3.wr (H.size+1+1) [Value.map (some (H.size+1))]):=(ah.refl (fun x=>x=H.size+1+1) _).wr (fun _=>rfl) _
 have b4:=aj (l:=[Value.map (some (H.size+1))]) b3
 have hf:aq H (H3.wr (H.size+1+1) [Value.map (some (H.size+1))]):=((f1.trans f2).trans f3).then e4 (fun z hz=>by omega)
 have hn:∀k,¬S (H.size+k):=fun k h=>by have:=fH _ h;omega
 refine⟨⟨st.ext hf (fun _ _ h=>h),e4.own (f3.own (f2.own b1 (fun h=>h)) (fun h=>h)) (by omega),b4,(b2.ext f3 (fun h=>h)).ext e4 (by omega),⟨hn 0,hn 2,hn 1⟩,by omega,by omega⟩,hf⟩
theorem map_set{N:Nat}(f:Nat→Value){i:Nat}(hi:i<N)(v:Value):((List.range N).map f).set i v=(List.range N).map fun j=>if j=i then v else f j:=by
 apply aoj
 intro j
 rw[List.getElem?_set,anT,anT]
 by_cases e:i=j
 ·subst e
  rw[aoT hi]
  simp[hi]
 ·by_cases hj:j<N
  ·rw[aoT hj,if_neg e]
   simp[Ne.symm e]
  ·rw[anP (by simp;omega),if_neg e]
   rfl
def JU(ws:List Int)(i:Nat):List (Int×Nat):=(List.range i).map fun j=>(ws.getD j 0,j)
theorem OC{ws:List Int}{i:Nat}{x:Int}(hx:ws[i]? =some x):JU ws i++[(x,i)]=JU ws (i+1):=by
 unfold JU
 rw[apC,aos,apS,anE,hx]
 rfl
theorem QS(ws:List Int)(i:Nat):(JU ws i).length=i:=by simp[JU]
set_option maxRecDepth 100000 in
set_option maxHeartbeats 4000000 in
theorem zK{H:Hp}{s:Nat}{S:Nat→Prop}{ws:List Int}{a:Option Addr}{c:Nat}(st:Gh H s S (CS (ws.length:Int)) (QP (ws.length:Int) 4294967295) 0)(hr:∀H',ah S H H'→da H' 1 (.slice a ws.length c) ws.length (ws.map i64))(hf:ie ws)(h2:2≤ws.length):
  ai Tryz.prog Dw [ptr s,.slice a ws.length c] H fun v H'=>ay (∃b,v= .slice (some ⟨b,0,none⟩) (2*ws.length - 1) (2*ws.length - 1)∧H.size≤b∧Sl H' 1 v (2*ws.length - 1) ((List.range (2*ws.length - 1)).map fun i=>i64 ((Dv ws).up i:Int)) (some b)∧ah S H H'):=by
 have BI:=hf.n2
 refine ba DI ⟨rfl,?_⟩
 refine v1 mH.eq_1 ?_
 obtain⟨m0,f0⟩:=Td st 81 107
 generalize ((H.new 81 [ptr s]).fX.new 107 [Value.map none]).wr (H.size+1+1) [Value.map (some (H.size+1))]=H0 at*
 refine(FY m0.st (by simp[CS])).mono ?_
 rintro _ H1 ⟨rfl,S1,W1,e1,fE⟩
 have m1:=m0.to W1 e1 fE
 have z0:=f0.size
 have kj:ah S H H1:=(f0.mono fun _ _ h=>h.elim).trans e1
 have fE:∀z,S1 z→S z∨H.size≤z:=fun z hz=>(fE z hz).imp_right fun h=>by omega
 refine vs ?_
 refine bA.intro (fun mm env H'=>∃ (i:Nat) (S':Nat→Prop) (w':Nw) (A':Ar) (L':List ((Int×Nat)×Value)),mm=ws.length - i∧i≤ws.length∧QR H' H.size (H.size+1+1) (H.size+1) s S' w' A' (i:Int) L'∧Jl ws.length w' A' L' (JU ws i) i∧ah S H H'∧(∀z,S' z→S z∨H.size≤z)∧
  env=[(1,.slice a ws.length c),(2,ptr H.size),(5,ptr (H.size+1+1)),(6,.func (.func jB) #[] #[ptr H.size,ptr (H.size+1+1)]),(22,.slice a ws.length c),(23,i64 ws.length),(24,i64 i)]) ws.length ⟨0,S1,_,_,[],by omega,by omega,m1,Jl.zero _,kj,fE,rfl⟩ ?_
 clear m1 W1 e1 kj fE
 rintro mm env H1 ⟨i,S1,w1,A1,L1,rfl,hi,m1,j1,x1,fE,rfl⟩
 refine vs ?_
 refine am.dec (fun aR=>?_) (fun aR=>?_)<;>refine vs ?_
 ·have oq:i<ws.length:=by omega
  obtain⟨x,hx⟩:∃x,ws[i]? =some x:=⟨_,anx oq⟩
  obtain⟨_,b,o,lb,rfl,Bn,bM⟩:=da.num (hr H1 x1) hx
  refine⟨⟨by omega,by omega⟩,?_⟩
  refine v4 Bn Int.toNat_natCast anD bM ?_
  refine⟨by kernel_rfl,?_⟩
  refine ai.mono (by simpa using tG m1 j1 (by rw[QS];exact oq) (by omega) x) ?_
  rintro _ H2 ⟨rfl,S2,w2,A2,L2,m2,j2,e2,NO⟩
  rw[OC hx]at j2
  refine vs ?_
  rw[wrap64 (n:=(i:Int)+1) (by omega) (by omega)]
  have z1:=x1.size
  refine⟨ws.length - (i+1),by omega,i+1,S2,w2,A2,L2,rfl,by omega,m2,j2,?_,fun z hz=>?_,rfl⟩
  ·exact⟨aok x1.size e2.size,fun z hz hn=>by rw[e2.aP z (by omega) (fun h=>by rcases h with h|h;exact(fE z h).elim hn (fun h=>by omega);omega),x1.aP z hz hn]⟩
  ·rcases NO z hz with h|h
   ·exact fE z h
   ·exact .inr (by omega)
 have oq:i=ws.length:=by omega
 subst oq
 clear aR hi
 obtain⟨N,hN⟩:∃N:Nat,N=2*ws.length - 1:=⟨_,rfl⟩
 rw[←hN]
 rw[wrap64 (n:=2*(ws.length:Int)) (by omega) (by omega),show(2*(ws.length:Int) - 1)=(N:Int) by omega,wrap64 (n:=(N:Int)) (by omega) (by omega)]
 refine⟨⟨by omega,by omega,by omega,by omega⟩,?_⟩
 refine v1 Int.toNat_natCast ?_
 have fn:aq H1 (H1.new 3 (cN [i64 0] N)):=(ah.refl _ _).new _ _
 have zn:(H1.new 3 (cN [i64 0] N)).size=H1.size+1:=ar _ _ _
 have sn:Sl (H1.new 3 (cN [i64 0] N)) 1 (.slice (some ⟨H1.size,0,none⟩) N N) N ((List.range N).map fun i=>i64 ((dt ws).up i:Int)) (some H1.size):=by
  rw[tE,apT,show((List.range N).map fun i=>i64 ((dt ws).up i:Int))=List.replicate N (i64 0)from ?_]
  ·exact Sl.lit H1 _ 1 N _ (by simp)
  ·apply aoj
   intro j
   rw[anT,aoH]
   by_cases hj:j<N
   ·rw[aoT hj,if_pos hj];rfl
   ·rw[anP (by simp;omega),if_neg hj];rfl
 have XE:=m1.lt
 have akx:H.size+1+1<H1.size:=XE _ (by simp)
 have m2:=m1.ext fn (fun _ _ h=>h)
 have x2:ah S H (H1.new 3 (cN [i64 0] N)):=x1.trans (fn.mono fun z _ h=>h.elim)
 have abt:¬S1 H1.size:=fun h=>by have:=XE _ (.inl h);omega
 generalize aky:H1.size=ub at*
 generalize H1.new 3 (cN [i64 0] N)=H2 at*
 refine bA.intro (fun mm env H'=>∃ (k:Nat) (S':Nat→Prop) (w':Nw) (A':Ar) (L':List ((Int×Nat)×Value)),mm=ws.length - 1 - k∧k+1≤ws.length∧QR H' H.size (H.size+1+1) (H.size+1) s S' w' A' ((ws.length+k:Nat):Int) L'∧Jl ws.length w' A' L' (iy k (dt ws)).bG (ws.length+k)∧
  Sl H' 1 (.slice (some ⟨ub,0,none⟩) N N) N ((List.range N).map fun i=>i64 ((iy k (dt ws)).up i:Int)) (some ub)∧¬S' ub∧ah S H H'∧(∀z,S' z→S z∨H.size≤z)∧
  env=[(2,ptr H.size),(5,ptr (H.size+1+1)),(6,.func (.func jB) #[] #[ptr H.size,ptr (H.size+1+1)]),(10,.slice (some ⟨ub,0,none⟩) N N),(11,i64 (ws.length+k:Nat))]) (ws.length - 1) ⟨0,S1,w1,A1,L1,by omega,by omega,m2,j1,sn,abt,x2,fE,rfl⟩ ?_
 clear m1 j1 x1 fE m2 sn abt x2 fn zn XE w1 A1 L1
 rintro mm env H3 ⟨k,S3,w3,A3,L3,rfl,hk,m3,j3,s3,abu,x3,Io,rfl⟩
 have hI:=wE.run ws k (by omega)
 have hIs:∀hh:k+1<ws.length,wE ws (k+1) (iy (k+1) (dt ws)):=fun hh=>wE.run ws (k+1) hh
 have Te:iy (k+1) (dt ws)=(iy k (dt ws)).step:=rfl
 have rP:=hI.at_
 have bv:=hI.len
 have Zu:=hI.ids
 have Vd:=hI.sum
 have Wb:=Gc.RZ hI
 have Zl:=hI.wt
 rw[Te]at hIs
 generalize hT:iy k (dt ws)=t at*
 refine vs ?_
 refine am.dec (fun aR=>?_) (fun aR=>?_)<;>refine vs ?_
 ·have Lq:k+1<ws.length:=by omega
  obtain⟨la,lb,ye,Dr,JV⟩:=Wb Lq
  have Ng:=JV.length_eq
  simp only[anY]at Ng
  have abv:=m3.lt
  refine v1 (ae m3.o1) ?_
  refine(qH m3.st j3.hs).mono ?_
  rintro _ H4 (⟨h0,_⟩| ⟨x,y,hx,hy,rfl,S4,st4,e4,RE⟩)
  ·exact absurd h0 (j3.ne0 (fun e=>by rw[e]at bv;simp at bv;omega))
  obtain⟨x0,xn,id,Wa,hl,hm⟩:=j3.first hx hy
  have Ve:=Pg.eq Zu hl la
  have j4:=j3.take (by omega) ⟨x0,xn⟩ (by rw[←Wa];exact hy) hl hm
  rw[Ve]at j4
  have m4:=m3.to st4 e4 RE
  have abw:¬S4 ub:=fun h=>(RE _ h).elim abu (fun h=>by have:=s3.lt;omega)
  have s4:=s3.ext e4 (fun b hb=>by injection hb with hb;rw[←hb];exact abu)
  have z4:=e4.size
  have y4:ah S H H4:=⟨aok x3.size z4,fun z hz hn=>by rw[e4.aP z (by have:=x3.size;omega) (fun h=>(Io z h).elim hn (fun h=>by omega)),x3.aP z hz hn]⟩
  have RE:∀z,S4 z→S z∨H.size≤z:=fun z hz=>(RE z hz).elim (Io z) (fun h=>.inr (by have:=x3.size;omega))
  refine vs ?_
  obtain⟨f5,b5,z5⟩:=Np H4 114 [Value.int .i64 0,Value.int .u32 0] [i64 x,Value.int .u32 ((A3.cf x:Nat):Int)]
  generalize hB:H4.size=hb at*
  generalize (H4.new 114 [Value.int .i64 0,Value.int .u32 0]).wr hb [i64 x,Value.int .u32 ((A3.cf x:Nat):Int)]=H5 at*
  have m5:=m4.ext f5 (fun _ _ h=>h)
  have s5:=s4.ext f5 (fun _ _ h=>h)
  refine v1 (ae m5.o1) ?_
  have akA:=m5.lt
  have af0:¬S4 hb:=fun h=>by have:=st4.slt _ h;omega
  refine(qH m5.st j4.hs).mono ?_
  have hw4:(wo t.bG t.a).length+1=t.bG.length:=by
   have:=(BN Zu la.m).length_eq
   rw[anY]at this;omega
  rintro _ H6 (⟨h0,_⟩| ⟨x',y',xy,No,rfl,S6,st6,e6,Zw⟩)
  ·exact absurd h0 (j4.ne0 (fun e=>by rw[e]at hw4;simp at hw4;omega))
  obtain⟨x0',xn',XF,af1,Om,hm'⟩:=j4.first xy No
  have PN:=Pg.eq (Zu.wo _) Om lb
  have j6:=j4.take (by omega) ⟨x0',xn'⟩ (by rw[←af1];exact No) Om hm'
  rw[PN]at j6
  have m6:=m5.to st6 e6 Zw
  have XG:¬S6 ub:=fun h=>(Zw _ h).elim abw (fun h=>by have:=s5.lt;omega)
  have s6:=s5.ext e6 (fun b hb=>by injection hb with hb;rw[←hb];exact abw)
  have b6:=e6.own b5 af0
  have z6:=e6.size
  have hx3:=x3.size
  have y6:ah S H H6:=⟨by omega,fun z hz hn=>by rw[e6.aP z (by omega) (fun h=>(RE z h).elim hn (fun h=>by omega)),f5.aP z (by omega) (fun h=>h),y4.aP z hz hn]⟩
  have Zw:∀z,S6 z→S z∨H.size≤z:=fun z hz=>(Zw z hz).elim (RE z) (fun h=>.inr (by omega))
  refine vs ?_
  obtain⟨f7,b7,z7⟩:=Np H6 114 [Value.int .i64 0,Value.int .u32 0] [i64 x',Value.int .u32 (((A3.back x).cf x':Nat):Int)]
  generalize hC:H6.size=hc at*
  generalize (H6.new 114 [Value.int .i64 0,Value.int .u32 0]).wr hc [i64 x',Value.int .u32 (((A3.back x).cf x':Nat):Int)]=H7 at*
  have m7:=m6.ext f7 (fun _ _ h=>h)
  have s7:=s6.ext f7 (fun _ _ h=>h)
  have b8:=f7.own b6 (fun h=>h)
  have y7:=y6.trans (f7.mono fun z _ h=>h.elim)
  have k1:id<N:=by
   have e1:=hI.lt _ la.m
   rw[←Ve]at e1
   simp only at e1
   omega
  have k2:XF<N:=by
   have e1:=hI.lt _ Dr
   rw[←PN]at e1
   simp only at e1
   omega
  have s7':=s7
  obtain⟨_,ll,cc,hv,ho7,hc7,hc8,_⟩:=s7'
  injection hv with Gm Em hv3
  subst hv3
  refine v3 (ae m7.o2) (ae b8) (ae b7) ?_
  refine⟨EA _ _,?_⟩
  refine xQ.look m7.m (a:=(x,A3.cf x)) hm ?_
  refine v3 (ae m7.o2) (ae b8) (ae b7) ?_
  refine⟨EA _ _,?_⟩
  refine xQ.look m7.m (a:=(x',(A3.back x).cf x')) hm' ?_
  refine vs ?_
  refine⟨⟨by omega,by omega⟩,?_⟩
  refine v4 ho7 Int.toNat_natCast anD anB ?_
  refine⟨by omega,?_⟩
  have e8:ah (fun z=>z=ub) H7 (H7.wr ub (ll.set id (i64 ((ws.length+k:Nat):Int)))):=(ah.refl (fun z=>z=ub) _).wr (fun _=>rfl) _
  have o8:(H7.wr ub (ll.set id (i64 ((ws.length+k:Nat):Int)))).own ub=some (ll.set id (i64 ((ws.length+k:Nat):Int))):=aj ho7
  have s8:=s7.ww ho7 id (i64 ((ws.length+k:Nat):Int))
  rw[map_set _ k1]at s8
  refine vs ?_
  refine⟨⟨by omega,by omega⟩,?_⟩
  refine v4 o8 Int.toNat_natCast anD anB ?_
  refine⟨by rw[anC];omega,?_⟩
  refine vs ?_
  generalize ol:ll.set id (i64 ((ws.length+k:Nat):Int))=ll8 at*
  have e9:ah (fun z=>z=ub) (H7.wr ub ll8) ((H7.wr ub ll8).wr ub (ll8.set XF (i64 ((ws.length+k:Nat):Int)))):=(ah.refl (fun z=>z=ub) _).wr (fun _=>rfl) _
  have s9:=s8.ww o8 XF (i64 ((ws.length+k:Nat):Int))
  rw[map_set _ k2]at s9
  rw[PE]at e9 s9
  generalize H7.wr ub (ll8.set XF (i64 ((ws.length+k:Nat):Int)))=H9 at*
  have abx:∀z,S6 z∨z=H.size∨z=H.size+1+1∨z=H.size+1→z≠ub:=by
   rintro z (hz|hz|hz|hz) e
   ·exact XG (by rw[←e];exact hz)
   ·omega
   ·omega
   ·omega
  have m9:=(m7.ext e8 (fun z hz e=>abx z hz e)).ext e9 (fun z hz e=>abx z hz e)
  have y9:ah S H H9:=⟨aok y7.size (aok e8.size e9.size),fun z hz hn=>by rw[e9.aP z (by have:=e8.size;have:=y7.size;omega) (by omega),e8.aP z (by have:=y7.size;omega) (by omega),y7.aP z hz hn]⟩
  have aib:0≤t.a.1+t.b.1∧t.a.1+t.b.1≤9223372036854775807:=by
   have Tc:¬ ∃i,i<ws.length∧ws.getD i 0<0:=by
    rintro⟨i,hi,h0⟩
    have hm:ws.getD i 0∈ws:=by
     rw[anE,anx hi]
     exact api hi
    have:=hf.pos _ hm
    omega
   have It:∀p∈t.bG,0≤p.1:=by
    intro p hp
    rw[←Zl p hp]
    refine ET fun i hi=>?_
    split
    ·apply anX
     intro h0
     exact Tc ⟨i,hi,by omega⟩
    ·exact apF _
   have h1:=It _ la.m
   have h2:=It _ Dr
   rcases Vd _ la.m _ Dr ye with h|h
   ·rw[JT]at h
    have:=hf.sum
    omega
   ·exact absurd h Tc
  have VW:y.2.1=t.a.1:=by rw[←Ve]
  have Qz:y'.2.1=t.b.1:=by rw[←PN]
  rw[VW,Qz,wrap64 (n:=t.a.1+t.b.1) (by omega) (by omega)]
  refine⟨by kernel_rfl,?_⟩
  have hw6:(wo (wo t.bG t.a) t.b).length+2=t.bG.length:=by
   have:=(BN (Zu.wo _) lb.m).length_eq
   rw[anY]at this;omega
  refine ai.mono (by simpa using tG m9 j6 (by omega) (by omega) (t.a.1+t.b.1)) ?_
  rintro _ H10 ⟨rfl,S10,w10,A10,L10,m10,j10,e10,abz⟩
  refine vs ?_
  rw[wrap64 (n:=((ws.length+k:Nat):Int)+1) (by omega) (by omega)]
  have hz9:=y9.size
  have hs9:=s9.lt
  refine⟨ws.length - 1 - (k+1),by omega,k+1,S10,w10,A10,L10,rfl,by omega,?_,?_,?_,?_,?_,?_,?_⟩
  ·rw[show((ws.length+(k+1):Nat):Int)=((ws.length+k:Nat):Int)+1 by omega];exact m10
  ·rw[Te]
   have:t.step.bG=wo (wo t.bG t.a) t.b++[(t.a.1+t.b.1,ws.length+k)]:=by unfold Gc.step;rw[rP]
   rw[this]
   exact j10
  ·rw[Te]
   have:(fun(i:Nat)=>i64 (t.step.up i:Int))=fun j=>if j=XF then i64 ((ws.length+k:Nat):Int)else if j=id then i64 ((ws.length+k:Nat):Int)else i64 (t.up j:Int):=by
    funext j
    have e1:t.a.2=id:=by rw[←Ve]
    have e2:t.b.2=XF:=by rw[←PN]
    show i64 ((if j=t.a.2∨j=t.b.2 then t.at_ else t.up j:Nat):Int)=_
    rw[e1,e2,rP]
    by_cases h1:j=XF
    ·rw[if_pos (.inr h1),if_pos h1]
    ·by_cases h2:j=id
     ·rw[if_pos (.inl h2),if_neg h1,if_pos h2]
     ·rw[if_neg (by omega),if_neg h1,if_neg h2]
   rw[this]
   exact s9.ext e10 (fun b hb=>by injection hb with hb;rw[←hb];rintro(h|h);exact XG h;omega)
  ·intro h
   rcases abz ub h with h|h
   ·exact XG h
   ·omega
  ·exact⟨aok y9.size e10.size,fun z hz hn=>by rw[e10.aP z (by omega) (fun h=>by rcases h with h|h;exact(Zw z h).elim hn (fun h=>by omega);omega),y9.aP z hz hn]⟩
  ·intro z hz
   rcases abz z hz with h|h
   ·exact Zw z h
   ·exact .inr (by omega)
  ·rw[show((ws.length+(k+1):Nat):Int)=((ws.length+k:Nat):Int)+1 by omega]
 ·have Lq:k+1=ws.length:=by omega
  refine⟨ub,rfl,by omega,?_,x3⟩
  unfold Dv
  rw[show ws.length - 1=k by omega,hT]
  exact s3
instance(ws:List Int):Decidable (ie ws):=decidable_of_iff (1≤ws.length∧ws.length≤4096∧(∀x∈ws,1≤x)∧ws.sum≤9223372036854775807) ⟨fun⟨a,b,c,d⟩=>⟨a,b,c,d⟩,fun h=>⟨h.n1,h.n2,h.pos,h.sum⟩⟩
theorem Bv:∀ (l:List Int),(∀x∈l,1≤x)→0≤l.sum:=by
 intro l
 induction l with
 |nil=>intro _;exact apF _
 |cons a r ih=>
  intro h
  have h1:=h a (by simp)
  have h2:=ih (fun x hx=>h x (by simp[hx]))
  rw[List.sum_cons]
  omega
theorem E7{ws:List Int}(h:∀x∈ws,1≤x)(j:Nat):(ws.take j).sum≤ws.sum:=by
 have h1:ws.sum=(ws.take j).sum+(ws.drop j).sum:=by rw[←List.sum_append,apn]
 have h2:=Bv (ws.drop j) (fun x hx=>h x (List.mem_of_mem_drop hx))
 omega
theorem Aa{ws:List Int}{j:Nat}{x:Int}(hx:ws[j]? =some x):(ws.take (j+1)).sum=(ws.take j).sum+x:=by
 rw[aoi,hx,List.sum_append]
 show _+[x].sum=_
 rw[List.sum_cons,List.sum_nil]
 omega
theorem rI{H:Hp}{a:Option Addr}{c:Nat}{ws:List Int}(h:da H 1 (.slice a ws.length c) ws.length (ws.map i64))(hb:∀x∈ws,x≤9223372036854775807):ai Tryz.prog Gx [.slice a ws.length c] H fun v H'=>ay (v= .bool (decide (ie ws))∧H'=H):=by
 refine ba GC ⟨rfl,?_⟩
 refine v1 qh.eq_1 ?_
 refine am.dec (fun h1=>?_) (fun h1=>?_)<;>refine v1 anZ ?_
 ·have QT:¬ie ws:=fun hf=>by have:=hf.n1;omega
  rw[anU QT]
  exact⟨rfl,rfl⟩
 refine am.dec (fun h1'=>?_) (fun h1'=>?_)<;>refine v1 anZ ?_
 ·have QT:¬ie ws:=fun hf=>by have:=hf.n2;omega
  rw[anU QT]
  exact⟨rfl,rfl⟩
 refine bA.intro (fun m env H'=>∃j:Nat,m=ws.length - j∧j≤ws.length∧H'=H∧(∀x∈ws.take j,1≤x)∧(ws.take j).sum≤9223372036854775807∧env=[(3,i64 (9223372036854775807 - (ws.take j).sum)),(14,.slice a ws.length c),(15,i64 ws.length),(16,i64 j)]) ws.length ⟨0,by omega,by omega,rfl,by simp,by simp,by simp⟩ ?_
 rintro m env H1 ⟨j,rfl,hj,rfl,hp,hs,rfl⟩
 refine vs ?_
 refine am.dec (fun aR=>?_) (fun aR=>?_)<;>refine vs ?_
 ·have jk:j<ws.length:=by omega
  obtain⟨x,hx⟩:∃x,ws[j]? =some x:=⟨_,anx jk⟩
  obtain⟨_,b,o,lb,rfl,Bn,bM⟩:=da.num h hx
  have T4:=anG hx
  have hxb:=hb x T4
  have Wi:=Aa hx
  have QB:=Bv _ hp
  refine⟨⟨by omega,by omega⟩,?_⟩
  refine v4 Bn Int.toNat_natCast anD bM ?_
  refine am.dec (fun h2=>?_) (fun h2=>?_)<;>refine v1 anZ ?_
  ·have QT:¬ie ws:=fun hf=>by have h3:=hf.pos x T4;omega
   rw[anU QT]
   exact⟨rfl,rfl⟩
  refine am.dec (fun N9=>?_) (fun N9=>?_)<;>refine v1 anZ ?_
  ·have QT:¬ie ws:=fun hf=>by
    have h4:=E7 hf.pos (j+1)
    have h5:=hf.sum
    omega
   rw[anU QT]
   exact⟨rfl,rfl⟩
  ·rw[wrap64 (n:=9223372036854775807 - (ws.take j).sum - x) (by omega) (by omega),wrap64 (n:=(j:Int)+1) (by omega) (by omega)]
   refine⟨ws.length - (j+1),by omega,j+1,rfl,by omega,trivial,fun y hy=>?_,by omega,?_⟩
   ·rw[aoi,hx,anR]at hy
    rcases hy with hy|hy
    ·exact hp y hy
    ·have:y=x:=by simpa using hy
     omega
   ·rw[Wi,show(9223372036854775807:Int) - (ws.take j).sum - x=9223372036854775807 - ((ws.take j).sum+x) by omega]
    rfl
 ·have jk:j=ws.length:=by omega
  subst jk
  rw[aod]at hp hs
  refine⟨?_,rfl⟩
  rw[anQ ⟨by omega,by omega,hp,hs⟩]
  rfl
def js(ws:List Int):List Int:=if ws.length=1 then[1]else(Fg ws).map fun(n:Nat)=>(n:Int)
def qO(kd dd:Int)(ws:List Int):Int×List Int:=if QG kd dd≠0 then(QG kd dd,[])else if ie ws then(0,js ws)else(201,[])
theorem tH(ws:List Int):(js ws).length=ws.length:=by
 unfold js
 split
 ·rename_i h;simp[h]
 ·rw[anW,R4]
def MF(H:Hp)(sv:Value)(ls:List Int):Prop:=∃a c,sv= .slice a ls.length c∧da H 1 sv ls.length (ls.map i64)
theorem MF.nil(H:Hp):MF H (.slice none 0 0) []:=⟨none,0,rfl,rfl,.inl ⟨rfl,none,0,rfl⟩⟩
theorem Sl.KS{H H':Hp}{size n:Nat}{v:Value}{xs:List Value}{fp:Option Nat}(h:Sl H size v n xs fp)(e:aq H H'):Sl H' size v n xs fp:=h.ext e (fun _ _ h=>h)
theorem EB{N:Nat}{f:Nat→Value}{i:Nat}(hi:i<N):((List.range N).map f)[i]? =some (f i):=by
 rw[anT,aoT hi];rfl
set_option maxRecDepth 100000 in
set_option maxHeartbeats 4000000 in
theorem ii{H:Hp}(kd dd:Int)(Dt:lZ kd dd→E6 kd dd){a:Option Addr}{c:Nat}{ws:List Int}(h:da H 1 (.slice a ws.length c) ws.length (ws.map i64))(hb:∀x∈ws,x≤9223372036854775807):
  ai Tryz.prog BV [Mu kd dd,.slice a ws.length c] H fun v H'=>ay (∃sv,v= .tuple [sv,i64 (qO kd dd ws).1].toArray∧MF H' sv (qO kd dd ws).2∧aq H H'):=by
 refine ba Cd ⟨rfl,?_⟩
 refine v1 lj.eq_1 ?_
 have f0:aq H (H.new 23 [i64 kd,i64 dd]):=(ah.refl _ _).new _ _
 have o0:(H.new 23 [i64 kd,i64 dd]).own H.size=some [i64 kd,i64 dd]:=aE _ _ _
 generalize H.new 23 [i64 kd,i64 dd]=H0 at*
 refine(qI kd dd H0).mono ?_
 rintro _ H1 ⟨rfl,f1⟩
 have o1:=f1.own o0 (fun h=>h)
 have g1:=f0.trans f1
 refine vs ?_
 refine am.dec (fun hc=>?_) (fun hc=>?_)<;>refine vs ?_
 rotate_left
 ·have hA:qO kd dd ws=(QG kd dd,[]):=by unfold qO;rw[if_pos hc]
  rw[hA]
  exact⟨_,rfl,MF.nil _,g1⟩
 have hK:=Mv.1 hc
 refine(rI (h.fresh g1) hb).mono ?_
 rintro _ H1' ⟨rfl,e⟩
 obtain rfl:=e.symm
 refine vs ?_
 by_cases hF:ie ws
 rotate_left
 ·rw[anU hF]
  refine v1 anZ ?_
  have hA:qO kd dd ws=(201,[]):=by unfold qO;rw[if_neg (by omega),if_neg hF]
  rw[hA]
  exact⟨_,rfl,MF.nil _,g1⟩
 rw[anQ hF]
 have hA:qO kd dd ws=(0,js ws):=by unfold qO;rw[if_neg (by omega),if_pos hF]
 rw[hA]
 have Ds:=hF.n1
 have BI:=hF.n2
 refine v1 anZ ?_
 refine am.dec (fun h1=>?_) (fun h1=>?_)<;>refine vs ?_
 ·have hw:js ws=[1]:=by unfold js;rw[if_pos (by omega)]
  rw[hw]
  refine⟨_,rfl,⟨_,_,rfl,(Sl.dw (n:=1) (xs:=[i64 1]) rfl rfl).rd⟩,g1.trans ((ah.refl _ _).new _ _)⟩
 have h2:2≤ws.length:=by omega
 refine v1 (ae o1) ?_
 refine(KQ hK (Dt hK) (cap:=(ws.length:Int)) (mo:=4294967295) ⟨by omega,by omega⟩ ⟨by omega,by omega⟩ H1).mono ?_
 rintro _ H2 ⟨s,S,rfl,st,f2,hS⟩
 have g2:=g1.trans f2
 have U5:∀z,S z→H.size≤z:=fun z hz=>by have:=hS z hz;have:=g1.size;omega
 refine vs ?_
 refine(zK st (fun H' e=>h.fresh (g2.then e U5)) hF h2).mono ?_
 rintro _ H3 ⟨ub,rfl,XE,su,e3⟩
 have g3:=g2.then e3 U5
 obtain⟨N,hN⟩:∃N:Nat,N=2*ws.length - 1:=⟨_,rfl⟩
 rw[←hN]at su ⊢
 refine v1 Int.toNat_natCast ?_
 refine⟨⟨by omega,by omega,by omega,by omega⟩,?_⟩
 have E:=Nu.R3 Ds
 have Fh:=E.up
 have af7:=E.PZ
 have hEd:Fg ws=(List.range ws.length).map (Dv ws).d:=rfl
 generalize Dv ws=t at*
 refine v1 Int.toNat_natCast ?_
 have fn:aq H3 (H3.new 3 (cN [i64 0] N)):=(ah.refl _ _).new _ _
 have sd:Sl (H3.new 3 (cN [i64 0] N)) 1 (.slice (some ⟨H3.size,0,none⟩) N N) N ((List.range N).map fun j=>if N - 1≤j then i64 (t.d j:Int)else i64 0) (some H3.size):=by
  rw[tE,apT,show((List.range N).map fun j=>if N - 1≤j then i64 (t.d j:Int)else i64 0)=List.replicate N (i64 0)from ?_]
  ·exact Sl.lit H3 _ 1 N _ (by simp)
  ·apply aoj
   intro j
   rw[anT,aoH]
   by_cases hj:j<N
   ·rw[aoT hj,if_pos hj,Option.map_some]
    by_cases jk:N - 1≤j
    ·rw[if_pos jk,show j=2*ws.length - 2 by omega,af7];rfl
    ·rw[if_neg jk]
   ·rw[anP (by simp;omega),if_neg hj];rfl
 have hdb:ub<H3.size:=su.lt
 have su2:=Sl.KS su fn
 have g4:=g3.trans fn
 have Xh:=g3.size
 generalize hD:H3.size=db at*
 generalize H3.new 3 (cN [i64 0] N)=H4 at*
 rw[wrap64 (n:=(N:Int) - 2) (by omega) (by omega)]
 refine bA.intro (fun mm env H'=>∃r:Nat,mm=r∧r≤N - 1∧ah (fun z=>z=db) H4 H'∧Sl H' 1 (.slice (some ⟨db,0,none⟩) N N) N ((List.range N).map fun j=>if r≤j then i64 (t.d j:Int)else i64 0) (some db)∧
  env=[(7,i64 ws.length),(10,.slice (some ⟨ub,0,none⟩) N N),(11,.slice (some ⟨db,0,none⟩) N N),(12,i64 ((r:Int) - 1))]) (N - 1) ⟨N - 1,rfl,anO _,ah.refl _ _,sd,by rw[show(((N - 1:Nat):Int) - 1)=(N:Int) - 2 by omega]⟩ ?_
 clear sd
 rintro mm env H5 ⟨r,e0,hr,e5,s5,rfl⟩
 obtain rfl:=e0.symm
 have su5:=su2.ext e5 (fun b hb=>by injection hb with hb;omega)
 have g5:aq H H5:=g4.then e5 (fun z hz=>by omega)
 refine vs ?_
 refine am.dec (fun SU=>?_) (fun SU=>?_)<;>refine vs ?_
 ·obtain⟨i,rfl⟩:∃i,r=i+1:=⟨r - 1,by omega⟩
  obtain⟨u1,u2,u3⟩:=Fh i (by omega)
  have k1:=EB (N:=N) (f:=fun i=>i64 (t.up i:Int)) (i:=i) (by omega)
  have k2:=EB (N:=N) (f:=fun j=>if i+1≤j then i64 (t.d j:Int)else i64 0) (i:=t.up i) (by omega)
  rw[if_pos (by omega)]at k2
  have af8:=su5
  have s5':=s5
  obtain⟨_,lu,cu,hv,hou,hu1,Xj,_⟩:=af8
  injection hv with _ _ hv
  subst hv
  obtain⟨_,ld,cd,hv,Zx,hd1,oZ,_⟩:=s5'
  injection hv with _ _ hv
  subst hv
  have c1:=Sl.get su5 hou k1
  have c2:=Sl.get s5 Zx k2
  have FO:(((i+1:Nat):Int) - 1)=(i:Int):=by omega
  rw[FO]
  have hdl:=E.dl (t.up i) (by have:=E.at_;omega)
  refine⟨⟨by omega,by omega⟩,?_⟩
  refine v5 (ae hou) Int.toNat_natCast anD anB c1 ?_
  refine⟨⟨by omega,by omega⟩,?_⟩
  refine v5 (ae Zx) Int.toNat_natCast anD anB c2 ?_
  refine⟨⟨by omega,by omega⟩,?_⟩
  refine v4 Zx Int.toNat_natCast anD anB ?_
  rw[wrap64 (n:=(t.d (t.up i):Int)+1) (by omega) (by omega)]
  refine⟨by omega,?_⟩
  have e6:ah (fun z=>z=db) H5 (H5.wr db (ld.set i (i64 ((t.d (t.up i):Int)+1)))):=(ah.refl (fun z=>z=db) _).wr (fun _=>rfl) _
  have s6:=s5.ww Zx i (i64 ((t.d (t.up i):Int)+1))
  rw[map_set _ (by omega:i<N)]at s6
  refine vs ?_
  rw[wrap64 (n:=(i:Int) - 1) (by omega) (by omega)]
  refine⟨i,by omega,i,rfl,by omega,e5.trans e6,?_,rfl⟩
  have:(fun j=>if j=i then i64 ((t.d (t.up i):Int)+1)else if i+1≤j then i64 (t.d j:Int)else i64 0)=fun j=>if i≤j then i64 (t.d j:Int)else i64 0:=by
   funext j
   by_cases hj:j=i
   ·rw[if_pos hj,if_pos (by omega),hj,u3];rfl
   ·rw[if_neg hj]
    by_cases jk:i+1≤j
    ·rw[if_pos jk,if_pos (by omega)]
    ·rw[if_neg jk,if_neg (by omega)]
  rw[this]at s6
  exact s6
 ·have hr0:r=0:=by omega
  subst hr0
  have hlw:js ws=(Fg ws).map fun(n:Nat)=>(n:Int):=by unfold js;rw[if_neg (by omega)]
  obtain⟨q0,ld,cd,hv,Zx,hd1,oZ,F3⟩:=s5
  injection hv with _ _ hv
  subst hv
  refine⟨⟨by omega,by omega,by omega,by omega⟩,?_⟩
  refine v1 Int.toNat_natCast ?_
  have ol:(js ws).length=ws.length:=tH ws
  rw[if_neg (by omega)]
  refine⟨_,rfl,⟨some ⟨db,0,none⟩,ws.length,?_,?_⟩,g5⟩
  ·rw[ol]
   simp[Addr.add]
  ·rw[ol]
   refine⟨by rw[anW,ol,anD],.inr ⟨db,0,ws.length,ld,by simp[Addr.add],ae Zx,by omega,?_⟩⟩
   rw[apI,anD]
   have h6:ld.take ws.length=(ld.take (N*1)).take ws.length:=by rw[apx,show min ws.length (N*1)=ws.length by omega]
   rw[h6,F3,hlw,hEd,apy,apy,←List.map_take,List.take_range,show min ws.length N=ws.length by omega]
   refine ao4 fun j _=>?_
   rw[if_pos (apv _)]
   rfl
theorem EC{H:Hp}{a:Option Addr}{c:Nat}{ws:List Int}(h:da H 1 (.slice a ws.length c) ws.length (ws.map i64))(hb:∀x∈ws,x≤9223372036854775807)(hm:ws.length≤9223372036854775807):ai Tryz.prog IC [.slice a ws.length c] H fun v H'=>ay (v= .bool (decide (ie ws))∧H'=H):=by
 refine ba IM ⟨rfl,?_⟩
 refine v1 rV.eq_1 ?_
 refine bA.intro (fun m env H'=>∃j:Nat,m=ws.length - j∧j≤ws.length∧H'=H∧(∀x∈ws.take j,1≤x)∧(ws.take j).sum≤9223372036854775807∧env=[(0,.slice a ws.length c),(3,i64 (9223372036854775807 - (ws.take j).sum)),(6,.slice a ws.length c),(7,i64 ws.length),(8,i64 j)]) ws.length ⟨0,by omega,by omega,rfl,by simp,by simp,by simp⟩ ?_
 rintro m env H1 ⟨j,rfl,hj,rfl,hp,hs,rfl⟩
 refine vs ?_
 refine am.dec (fun aR=>?_) (fun aR=>?_)<;>refine vs ?_
 ·have jk:j<ws.length:=by omega
  obtain⟨x,hx⟩:∃x,ws[j]? =some x:=⟨_,anx jk⟩
  obtain⟨_,b,o,lb,rfl,Bn,bM⟩:=da.num h hx
  have T4:=anG hx
  have hxb:=hb x T4
  have Wi:=Aa hx
  have QB:=Bv _ hp
  refine⟨⟨by omega,by omega⟩,?_⟩
  refine v4 Bn Int.toNat_natCast anD bM ?_
  refine am.dec (fun h2=>?_) (fun h2=>?_)<;>refine v1 anZ ?_
  ·have QT:¬ie ws:=fun hf=>by have h3:=hf.pos x T4;omega
   rw[anU QT]
   exact⟨rfl,rfl⟩
  refine am.dec (fun N9=>?_) (fun N9=>?_)<;>refine v1 anZ ?_
  ·have QT:¬ie ws:=fun hf=>by
    have h4:=E7 hf.pos (j+1)
    have h5:=hf.sum
    omega
   rw[anU QT]
   exact⟨rfl,rfl⟩
  ·rw[wrap64 (n:=9223372036854775807 - (ws.take j).sum - x) (by omega) (by omega),wrap64 (n:=(j:Int)+1) (by omega) (by omega)]
   refine⟨ws.length - (j+1),by omega,j+1,rfl,by omega,trivial,fun y hy=>?_,by omega,?_⟩
   ·rw[aoi,hx,anR]at hy
    rcases hy with hy|hy
    ·exact hp y hy
    ·have:y=x:=by simpa using hy
     omega
   ·rw[Wi,show(9223372036854775807:Int) - (ws.take j).sum - x=9223372036854775807 - ((ws.take j).sum+x) by omega]
    rfl
 ·have jk:j=ws.length:=by omega
  subst jk
  rw[aod]at hp hs
  refine am.dec (fun h1=>?_) (fun h1=>?_)<;>refine v1 anZ ?_
  ·refine⟨?_,rfl⟩
   have:ie ws↔(ws.length:Int)≤4096:=⟨fun h=>by have:=h.n2;omega,fun h=>⟨by omega,by omega,hp,hs⟩⟩
   exact an4 Value.bool (decide_eq_decide.2 this.symm)
  ·have QT:¬ie ws:=fun hf=>by have:=hf.n1;omega
   rw[anU QT]
   exact⟨rfl,rfl⟩
structure JW(H:Hp)(S:Nat→Prop)(v:Value)(ts:List (Int×List Int))(fp:Option Nat)(us:List (Int×Value)):Prop where
 sl:Sl H 2 v us.length (cH us) fp
 has:PR (D5 H (fun z=>S z∨fp=some z)) us ts
theorem JW.Rv{H:Hp}{S:Nat→Prop}{v:Value}{ts:List (Int×List Int)}{fp:Option Nat}{us:List (Int×Value)}(m:JW H S v ts fp us):WZ us:=fun u hu=>by
 obtain⟨i,hi⟩:=List.mem_iff_getElem?.1 hu
 have h1:=(anA.1 hi).1
 obtain⟨_,a,c,h2,_⟩:=m.has.at_ i u _ hi (anx (by rw[←m.has.len];exact h1))
 exact⟨_,_,_,h2⟩
theorem JW.ws{H:Hp}{S:Nat→Prop}{v:Value}{ts:List (Int×List Int)}{fp:Option Nat}{us:List (Int×Value)}(m:JW H S v ts fp us):us.map (·.1)=ts.map (·.1):=m.has.map fun _ _ h=>h.1
theorem JW.ext{H H':Hp}{S E:Nat→Prop}{v:Value}{ts:List (Int×List Int)}{fp:Option Nat}{us:List (Int×Value)}(m:JW H S v ts fp us)(e:ah E H H')(hf:∀b,fp=some b→¬E b)(hE:∀z,z<H.size→E z→S z):JW H' S v ts fp us:=
 ⟨m.sl.ext e hf,m.has.imp fun _ _ _ _ h=>h.ext e (fun z hz he=>.inl (hE z hz he)) (fun z _ h=>h)⟩
theorem JW.lt{H:Hp}{S:Nat→Prop}{v:Value}{ts:List (Int×List Int)}{fp:Option Nat}{us:List (Int×Value)}(m:JW H S v ts fp us){b:Nat}(h:fp=some b):b<H.size:=by
 have:=m.sl
 rw[h]at this
 exact Sl.lt this
theorem JW.val{H:Hp}{S:Nat→Prop}{v:Value}{ts:List (Int×List Int)}{fp:Option Nat}{us:List (Int×Value)}(m:JW H S v ts fp us):∃a c,v= .slice a us.length c∧us.length≤c:=lY m.sl
theorem JW.push{T:TypeId}{H:Hp}{S:Nat→Prop}{v:Value}{ts:List (Int×List Int)}{fp:Option Nat}{us:List (Int×Value)}{K:Value→Hp→Prop}(m:JW H S v ts fp us){u:Int×Value}{t:Int×List Int}(hu:D5 H (fun z=>S z∨fp=some z) u t)(hl:us.length≤1000000)(hS:∀z,H.size≤z→¬S z)
  (hk:∀v' H' dv us',JW H' S v' (ts++[t]) dv us'→ah (fun z=>fp=some z) H H'→(dv=fp∨∃b,dv=some b∧H.size≤b)→K v' H'):
  im T 2 32 [i64 0,.slice none 0 0] v (.slice (some ⟨H.size,0,none⟩) 1 1) (H.new T [i64 u.1,u.2]) K:=by
 obtain⟨hu1,a,c,Xj,hu3,hu4,hu5⟩:=hu
 have fl:aq H (H.new T [i64 u.1,u.2]):=(ah.refl _ _).new _ _
 have Ry:fl.size=fl.size:=rfl
 have one:gU (cH [u]):=NV fun t ht=>by
  rw[anM]at ht
  rw[ht,Xj]
  exact⟨_,_,_,rfl⟩
 refine Sl.append (m.sl.ext fl (fun _ _ h=>h)) (Sl.dw (size:=2) (n:=1) (xs:=cH [u]) rfl rfl).rd rfl one (by omega) ?_
 intro v' H' dv s' e' Nk
 have hz:=ar H T [i64 u.1,u.2]
 have NN:H.size≤H'.size:=aok fl.size e'.size
 have e2:ah (fun z=>fp=some z) H H':=⟨NN,fun z hz hn=>by
  rw[e'.aP z (an3 hz fl.size) hn,fl.aP z hz (fun h=>h)]⟩
 have mr:dv=fp∨∃b,dv=some b∧H.size≤b:=by
  rcases Nk with h| ⟨b,h1,h2,_⟩
  ·exact .inl h
  ·exact .inr ⟨b,h1,by omega⟩
 have UX:∀z,z<H.size→(S z∨dv=some z)→(S z∨fp=some z):=fun z hz h=>by
  rcases h with h|h
  ·exact .inl h
  ·rcases mr with h1| ⟨b,h1,h2⟩
   ·exact .inr (by rw[←h1];exact h)
   ·rw[h1]at h;injection h with h;omega
 refine hk v' H' dv (us++[u]) ⟨by rw[anL,JN];exact s',?_⟩ e2 mr
 refine PR.snoc (m.has.imp fun _ _ _ _ h=>h.ext e2 (fun z _ h=>.inr h) UX) ?_
 exact D5.ext ⟨hu1,a,c,Xj,hu3,hu4,hu5⟩ e2 (fun z _ h=>.inr h) UX
theorem JW.erase{H H':Hp}{S:Nat→Prop}{v v':Value}{ts:List (Int×List Int)}{fp dv:Option Nat}{us:List (Int×Value)}(m:JW H S v ts fp us)(f:aq H H'){i:Nat}(s':Sl H' 2 v' (us.eraseIdx i).length (cH (us.eraseIdx i)) dv)(h:∀b,dv=some b→H.size≤b):
  JW H' S v' (ts.eraseIdx i) dv (us.eraseIdx i):=by
 refine⟨s',(m.has.erase i).imp fun _ _ _ _ hh=>hh.ext f (fun _ _ hf=>hf.elim) (fun z hz hs=>?_)⟩
 rcases hs with hs|hs
 ·exact .inl hs
 ·have:=h z hs
  omega
def qP(n:Nat)(d:Nat→Nat):List Value:=(List.range n).map fun x=>i64 (d x:Int)
theorem nX(n:Nat)(d:Nat→Nat):(qP n d).length=n:=by unfold qP;simp
theorem yq{n x:Nat}(d:Nat→Nat)(h:x<n):(qP n d)[x]? =some (i64 (d x:Int)):=EB h
theorem QU(n:Nat):cN [i64 0] n=qP n (fun _=>0):=by
 rw[tE,apT]
 apply aoj
 intro j
 rw[aoH]
 by_cases hj:j<n
 ·rw[if_pos hj,yq _ hj];rfl
 ·rw[if_neg hj,anP (by rw[nX];omega)]
theorem OD{n:Nat}{d d':Nat→Nat}(h:∀x,x<n→d x=d' x):qP n d=qP n d':=by
 unfold qP
 exact ao4 fun x hx=>by rw[h x (aoD.1 hx)]
theorem Tf{n x:Nat}{d d':Nat→Nat}(h:x<n)(he:∀y,y≠x→d y=d' y):(qP n d).set x (i64 (d' x:Int))=qP n d':=by
 apply aoj
 intro j
 by_cases hj:j<n
 ·by_cases hx:j=x
  ·subst hx
   rw[anI (by rw[nX];exact hj),yq _ hj]
  ·rw[anH (Ne.symm hx),yq _ hj,yq _ hj,he j hx]
 ·rw[anP (by rw[anC,nX];omega),anP (by rw[nX];omega)]
theorem Vf{H:Hp}{b n:Nat}{d:Nat→Nat}(h:H.own b=some (qP n d)):da H 1 (.slice (some ⟨b,0,none⟩) n n) n (qP n d):=by
 refine⟨by rw[nX];omega,.inr ⟨b,0,n,_,rfl,ae h,by rw[nX];omega,?_⟩⟩
 rw[apI,apG (by rw[nX];omega)]
theorem D5.abB{H:Hp}{S:Nat→Prop}{w:Int}{sv:Value}{hs:List Int}{fp:Option Nat}(s:Sl H 1 sv hs.length (hs.map i64) fp)(h:∀b,fp=some b→¬S b):D5 H S (w,sv) (w,hs):=by
 have r:=s.rd
 obtain⟨a,c,rfl,vf⟩:=lY s
 refine⟨rfl,a,c,rfl,r,vf,fun x hx=>?_⟩
 cases fp with
 |none=>
  obtain⟨_,_,e⟩:=s
  injection e with e
  rw[e]at hx
  cases hx
 |some b=>
  obtain⟨_,l,c',e,ho,_⟩:=s
  injection e with e
  rw[e]at hx
  injection hx with hx
  subst hx
  exact⟨aG ho,h b rfl⟩
theorem HH{H:Hp}{T:Nat}{w u:Value}{xs ys:List Int}{fp:Option Nat}{K:Value→Hp→Prop}(s:Sl H 1 w xs.length (xs.map i64) fp)(r:da H 1 u ys.length (ys.map i64))(hl:xs.length+ys.length≤1000000000000)
  (hk:∀w' H' dv,Sl H' 1 w' (xs++ys).length ((xs++ys).map i64) dv→ah (fun b=>fp=some b) H H'→(dv=fp∨∃b,dv=some b∧H.size≤b∧b<H'.size)→K w' H'):
  im T 1 8 [i64 0] w u H K:=by
 refine Sl.append s r rfl (CH ys) (by omega) ?_
 intro v' H' dv s' e' Nk
 exact hk v' H' dv (by rw[anL,aos];exact s') e' Nk
set_option maxRecDepth 100000 in
set_option maxHeartbeats 4000000 in
theorem Bw{H:Hp}(kd dd:Int){a:Option Addr}{c:Nat}{ws:List Int}(h:da H 1 (.slice a ws.length c) ws.length (ws.map i64))(hb:∀x∈ws,x≤9223372036854775807)(hm:ws.length≤9223372036854775807):
  ai Tryz.prog Fj [Mu kd dd,.slice a ws.length c] H fun v H'=>ay (∃sv,v= .tuple [sv,i64 (qO kd dd ws).1].toArray∧MF H' sv (qO kd dd ws).2∧aq H H'):=by
 refine ba Ft ⟨rfl,?_⟩
 refine v1 vm.eq_1 ?_
 have f0:aq H (H.new 23 [i64 kd,i64 dd]):=(ah.refl _ _).new _ _
 have o0:(H.new 23 [i64 kd,i64 dd]).own H.size=some [i64 kd,i64 dd]:=aE _ _ _
 generalize H.new 23 [i64 kd,i64 dd]=H0 at*
 refine v1 (ae o0) ?_
 refine(Hj kd dd H0).mono ?_
 rintro _ H1 ⟨rfl,f1⟩
 have o1:=f1.own o0 (fun h=>h)
 have g1:=f0.trans f1
 refine vs ?_
 refine am.dec (fun hc=>?_) (fun hc=>?_)<;>refine vs ?_
 rotate_left
 ·have hA:qO kd dd ws=(QG kd dd,[]):=by unfold qO;rw[if_pos hc]
  rw[hA]
  exact⟨_,rfl,MF.nil _,g1⟩
 have hK:=Mv.1 hc
 refine(EC (h.fresh g1) hb hm).mono ?_
 rintro _ H1' ⟨rfl,e⟩
 obtain rfl:=e.symm
 refine vs ?_
 by_cases hF:ie ws
 rotate_left
 ·rw[anU hF]
  refine v1 anZ ?_
  have hA:qO kd dd ws=(201,[]):=by unfold qO;rw[if_neg (by omega),if_neg hF]
  rw[hA]
  exact⟨_,rfl,MF.nil _,g1⟩
 rw[anQ hF]
 have hA:qO kd dd ws=(0,js ws):=by unfold qO;rw[if_neg (by omega),if_pos hF]
 rw[hA]
 have Ds:=hF.n1
 have BI:=hF.n2
 refine v1 anZ ?_
 refine am.dec (fun h1=>?_) (fun h1=>?_)<;>refine vs ?_
 ·have hw:js ws=[1]:=by unfold js;rw[if_pos (by omega)]
  rw[hw]
  refine⟨_,rfl,⟨_,_,rfl,(Sl.dw (n:=1) (xs:=[i64 1]) rfl rfl).rd⟩,g1.trans ((ah.refl _ _).new _ _)⟩
 have h2:2≤ws.length:=by omega
 refine⟨⟨by omega,by omega,by omega,by omega⟩,?_⟩
 refine v1 Int.toNat_natCast ?_
 obtain⟨n,hn⟩:∃n,n=ws.length:=⟨_,rfl⟩
 rw[QU]
 have fa:aq H1 (H1.new 3 (qP ws.length fun _=>0)):=(ah.refl _ _).new _ _
 have oa:(H1.new 3 (qP ws.length fun _=>0)).own H1.size=some (qP ws.length fun _=>0):=aE _ _ _
 have za:(H1.new 3 (qP ws.length fun _=>0)).size=H1.size+1:=ar _ _ _
 obtain⟨ob,hob⟩:∃ob,ob=H1.size:=⟨_,rfl⟩
 rw[←hob]at oa za ⊢
 generalize H1.new 3 (qP ws.length fun _=>0)=H2 at*
 refine vs ?_
 have fb:aq H2 (H2.new 88 []):=(ah.refl _ _).new _ _
 have sb:Sl (H2.new 88 []) 2 (.slice (some ⟨H2.size,0,none⟩) 0 0) 0 (cH []) (some H2.size):=Sl.lit H2 _ 2 0 [] rfl
 have ob3:=fb.own oa (fun h=>h)
 have akT:ob<H2.size:=aG oa
 have hoH:H.size≤ob:=by have:=g1.size;omega
 rw[za]at sb
 obtain⟨lv,Tb⟩:∃lv,lv=Value.slice (some ⟨ob+1,0,none⟩) 0 0:=⟨_,rfl⟩
 rw[←Tb]at sb ⊢
 generalize H2.new 88 []=H3 at*
 have m3:JW H3 (fun z=>z=ob) lv (R0 ws 0) (some (ob+1)) []:=⟨sb,PR.nil⟩
 have g3:aq H H3:=(g1.trans fa).trans fb
 refine bA.intro (fun mm env H'=>∃ (j:Nat) (lv:Value) (fp:Option Nat) (us:List (Int×Value)),mm=ws.length - j∧j≤ws.length∧JW H' (fun z=>z=ob) lv (R0 ws j) fp us∧(∀b,fp=some b→ob<b)∧ah (fun z=>ob<z) H3 H'∧
  env=[(7,.slice (some ⟨ob,0,none⟩) ws.length ws.length),(8,lv),(34,.slice a ws.length c),(35,i64 ws.length),(36,i64 j)]) ws.length ⟨0,lv,some (ob+1),[],by omega,by omega,m3,(fun b hb=>by injection hb with hb;omega),ah.refl _ _,rfl⟩ ?_
 clear m3 sb Tb
 rintro mm env H4 ⟨j,lv,fp,us,rfl,hj,m4,jv,e4,rfl⟩
 have g4:aq H H4:=g3.then e4 (fun z hz=>by omega)
 have hul:us.length=j:=by have:=m4.has.len;rw[Uo]at this;exact this
 refine vs ?_
 refine am.dec (fun aR=>?_) (fun aR=>?_)<;>refine vs ?_
 ·obtain⟨x,hx⟩:∃x,ws[j]? =some x:=⟨_,anx (by omega)⟩
  obtain⟨_,b,o,lb,ha,kG,bM⟩:=da.num (h.fresh g4) hx
  subst ha
  refine⟨⟨by omega,by omega⟩,?_⟩
  refine v4 kG Int.toNat_natCast anD bM ?_
  have fl:aq H4 (H4.new 3 [i64 j]):=(ah.refl _ _).new _ _
  have z5:(H4.new 3 [i64 j]).size=H4.size+1:=ar _ _ _
  have s5:Sl (H4.new 3 [i64 j]) 1 (.slice (some ⟨H4.size,0,none⟩) 1 1) 1 [i64 j] (some H4.size):=Sl.lit H4 _ 1 1 _ rfl
  have akU:ob<H4.size:=aG (e4.own ob3 (fun e=>by omega))
  generalize H4.new 3 [i64 j]=H5 at*
  have m5:=m4.ext fl (fun _ _ h=>h) (fun _ _ h=>h.elim)
  rw[←z5]
  refine m5.push (u:=(x,.slice (some ⟨H4.size,0,none⟩) 1 1)) (t:=(x,[(j:Int)])) ⟨rfl,some ⟨H4.size,0,none⟩,1,rfl,s5.rd,anO _,fun y hy=>?_⟩ (by omega) (fun z hz he=>by omega) fun v' H6 dv us' m6 e6 U6=>?_
  ·injection hy with hy
   subst hy
   refine⟨by show H4.size<H5.size;omega,fun hh=>?_⟩
   rcases hh with hh|hh
   ·have hh:H4.size=ob:=hh
    omega
   ·have:=m4.lt hh
    exact absurd this (Nat.lt_irrefl _)
  refine vs ?_
  rw[wrap64 (n:=(j:Int)+1) (by omega) (by omega)]
  refine⟨ws.length - (j+1),by omega,j+1,v',dv,us',rfl,by omega,?_,fun b hb=>?_,?_,rfl⟩
  ·rw[R1,show ws.getD j 0=x by rw[anE,hx];rfl]
   exact m6
  ·rcases U6 with U6| ⟨b',U6,h9⟩
   ·exact jv b (by rw[←U6];exact hb)
   ·rw[U6]at hb;injection hb with hb;omega
  ·exact(e4.trans (fl.mono fun _ _ h=>h.elim)).trans (e6.mono fun z _ h=>jv z h)
 have jk:j=ws.length:=by omega
 subst jk
 have ob4:H4.own ob=some (qP ws.length (iy 0 (dt ws)).d):=e4.own ob3 (fun e=>by omega)
 refine bA.intro (fun mm env H'=>∃ (k:Nat) (lv:Value) (fp:Option Nat) (us:List (Int×Value)) (ts:List (Int×List Int)),mm=ws.length - 1 - k∧k+1≤ws.length∧Ix ws.length (iy k (dt ws)) ts∧JW H' (fun z=>z=ob) lv ts fp us∧(∀b,fp=some b→ob<b)∧H'.own ob=some (qP ws.length (iy k (dt ws)).d)∧ah (fun z=>ob≤z) H3 H'∧
  env=[(7,.slice (some ⟨ob,0,none⟩) ws.length ws.length),(8,lv)]) (ws.length - 1) ⟨0,lv,fp,us,R0 ws ws.length,by omega,by omega,Ix.init ws,m4,jv,ob4,e4.mono (fun z _ h=>Nat.le_of_lt h),rfl⟩ ?_
 clear m4 ob4 e4 g4 jv hul hj aR us fp lv
 rintro mm env H5 ⟨k,lv,fp,us,ts,rfl,hk,T,m,jv,oo,e5,rfl⟩
 have g5:aq H H5:=g3.then e5 (fun z hz=>by omega)
 obtain⟨la,lc,rfl,UW⟩:=m.val
 have I:=wE.run ws k (by omega)
 have Ng:=I.len
 have Mr:=T.len
 have hml:=m.has.len
 refine vs ?_
 refine am.dec (fun aR=>?_) (fun aR=>?_)<;>refine vs ?_
 rotate_left
 ·have Lq:k=ws.length - 1:=by omega
  subst Lq
  have hL:(js ws).map i64=qP ws.length (iy (ws.length - 1) (dt ws)).d:=by
   unfold js Fg qP
   rw[if_neg (by omega),apy,apy]
   rfl
  refine⟨_,rfl,⟨some ⟨ob,0,none⟩,ws.length,by rw[tH],?_⟩,g5⟩
  rw[hL,tH]
  exact Vf oo
 have Lq:k+1<ws.length:=by omega
 refine(pB m.sl.rd m.Rv (by omega) (by omega)).mono ?_
 rintro _ H6 ⟨p,rfl,hp,f6⟩
 have EU:=hp.lt
 rw[anW]at EU
 have m6:=m.ext f6 (fun _ _ h=>h) (fun _ _ h=>h.elim)
 have oo6:=f6.own oo (fun h=>h)
 refine vs ?_
 obtain⟨ua,hua⟩:∃u,us[p]? =some u:=⟨_,anx EU⟩
 obtain⟨ta,hta⟩:∃t,ts[p]? =some t:=⟨_,anx (by omega)⟩
 have Ha:=m6.has.at_ p ua ta hua hta
 obtain⟨_,b,o,lb,hla,kG,hln,Bh,_,_⟩:=da.UI m6.sl.rd hua
 subst hla
 obtain⟨Ha1,ha,hc,Ha2,Ha3,Ha4,Ha5⟩:=id Ha
 have hca:mW ua=[i64 ta.1,.slice ha ta.2.length hc]:=by unfold mW;rw[Ha1,Ha2]
 rw[hca]at Bh
 refine⟨⟨by omega,by omega⟩,?_⟩
 refine v3 kG Int.toNat_natCast Bh ?_
 refine⟨by omega,?_⟩
 have q7:=aE H6 88 [i64 0,.slice none 0 0]
 refine v2 Bh q7 ?_
 obtain⟨f7,q7,z7⟩:=Np H6 88 [i64 0,.slice none 0 0] [i64 ta.1,.slice ha ta.2.length hc]
 have ha6:=aG oo6
 obtain⟨A,hA6⟩:∃A,A=H6.size:=⟨_,rfl⟩
 rw[←hA6]at f7 q7 z7 ⊢
 generalize (H6.new 88 [i64 0,.slice none 0 0]).wr A [i64 ta.1,.slice ha ta.2.length hc]=H7 at*
 have m7:=m6.ext f7 (fun _ _ h=>h) (fun _ _ h=>h.elim)
 have oo7:=f7.own oo6 (fun h=>h)
 refine vs ?_
 refine(qw m7.sl.rd UW m7.Rv (by omega) EU).mono ?_
 rintro _ H8 ⟨f8,fp8,s8,hf8⟩
 have m8:=m7.erase f8 s8 hf8
 have q8:=f8.own q7 (fun h=>h)
 have oo8:=f8.own oo7 (fun h=>h)
 obtain⟨la8,lc8,rfl,aga⟩:=lY s8
 have hl8:(us.eraseIdx p).length=us.length - 1:=by rw[apc,if_pos EU]
 have ak3:(ts.eraseIdx p).length=ts.length - 1:=by rw[apc,if_pos (by omega)]
 refine vs ?_
 refine(pB m8.sl.rd m8.Rv (by omega) (by omega)).mono ?_
 rintro _ H9 ⟨q,rfl,hq,f9⟩
 have Ru:=hq.lt
 rw[anW]at Ru
 have m9:=m8.ext f9 (fun _ _ h=>h) (fun _ _ h=>h.elim)
 have oo9:=f9.own oo8 (fun h=>h)
 have q9:=f9.own q8 (fun h=>h)
 refine vs ?_
 obtain⟨ub,XE⟩:∃u,(us.eraseIdx p)[q]? =some u:=⟨_,anx Ru⟩
 obtain⟨tb,Rx⟩:∃t,(ts.eraseIdx p)[q]? =some t:=⟨_,anx (by omega)⟩
 have Hb:=m9.has.at_ q ub tb XE Rx
 obtain⟨_,b2,o2,lb2,agc,Bn,ak5,KT,_,_⟩:=da.UI m9.sl.rd XE
 subst agc
 obtain⟨Hb1,rR,XH,Hb2,Hb3,Hb4,Hb5⟩:=id Hb
 have Gt:mW ub=[i64 tb.1,.slice rR tb.2.length XH]:=by unfold mW;rw[Hb1,Hb2]
 rw[Gt]at KT
 refine⟨⟨by omega,by omega⟩,?_⟩
 refine v3 Bn Int.toNat_natCast KT ?_
 refine⟨by omega,?_⟩
 have q10:=aE H9 88 [i64 0,.slice none 0 0]
 refine v2 KT q10 ?_
 obtain⟨f10,q10,z10⟩:=Np H9 88 [i64 0,.slice none 0 0] [i64 tb.1,.slice rR tb.2.length XH]
 obtain⟨B,hB9⟩:∃B,B=H9.size:=⟨_,rfl⟩
 rw[←hB9]at f10 q10 z10 ⊢
 generalize (H9.new 88 [i64 0,.slice none 0 0]).wr B [i64 tb.1,.slice rR tb.2.length XH]=H10 at*
 have m10:=m9.ext f10 (fun _ _ h=>h) (fun _ _ h=>h.elim)
 have abF:=f10.own oo9 (fun h=>h)
 have agd:=f10.own q9 (fun h=>h)
 refine vs ?_
 refine(qw m10.sl.rd aga m10.Rv (by omega) Ru).mono ?_
 rintro Y8 gv ⟨f11,Vg,s11,XI⟩
 have m11:=m10.erase f11 s11 XI
 have qb:=f11.own q10 (fun h=>h)
 have qa:=f11.own agd (fun h=>h)
 have XJ:=f11.own abF (fun h=>h)
 have Vh:aq H6 gv:=(((f7.trans f8).trans f9).trans f10).trans f11
 have HA:D5 gv (fun z=>z=ob) ua ta:=Ha.ext Vh (fun _ _ h=>h.elim) (fun z _ h=>.inl h)
 have HB:D5 gv (fun z=>z=ob) ub tb:=Hb.ext (f10.trans f11) (fun _ _ h=>h.elim) (fun z _ h=>.inl h)
 rw[m.ws]at hp
 rw[m8.ws]at hq
 obtain⟨T',jd,bQ,hd⟩:=Ix.step I Lq T hp hta hq Rx
 have ye:ta.1+tb.1≤9223372036854775807∧0≤ta.1+tb.1:=by
  obtain⟨pa,Nh⟩:∃x,(iy k (dt ws)).bG[p]? =some x:=⟨_,anx (by omega)⟩
  obtain⟨pb,Lt⟩:∃x,((iy k (dt ws)).bG.eraseIdx p)[q]? =some x:=⟨_,anx (by rw[apc,if_pos (by omega)];omega)⟩
  have xa:=T.at_ p ta pa hta Nh
  have xb:=(PR.erase T p).at_ q tb pb Rx Lt
  have ma:=anG Nh
  have mb:=List.mem_of_mem_eraseIdx (anG Lt)
  have aS:pa.2≠pb.2:=fun e=>by
   have w1:=BO I.ids Nh
   rw[←w1]at Lt
   exact(kQ.1 (anG Lt)).2 e.symm
  have w2:∀i,i<ws.length→0≤ws.getD i 0:=fun i hi=>by
   rw[anE,anx hi]
   have:=hF.pos _ (api hi)
   show 0≤ws[i]
   omega
  have w3:∀r∈(iy k (dt ws)).bG,0≤r.1:=fun r hr=>by
   rw[←I.wt r hr]
   exact ET fun i hi=>by split;exact w2 i hi;omega
  have w4:=w3 pa ma
  have w5:=w3 pb mb
  have Vd:=hF.sum
  rw[xa.1,xb.1]
  rcases I.sum pa ma pb mb aS with h9| ⟨i,hi,h9⟩
  ·rw[JT]at h9;omega
  ·have:=w2 i hi;omega
 have ol:(ta.2++tb.2).length≤ws.length:=bV jd (fun x hx=>by obtain⟨y,rfl,hy⟩:=bQ x hx;omega)
 rw[anL]at ol
 refine vs ?_
 refine SV (fun e H'=>∃ (bx:Nat) (sv:Value),e=[(7,.slice (some ⟨ob,0,none⟩) ws.length ws.length),(8,Y8),(15,ptr bx)]∧aq gv H'∧gv.size≤bx∧H'.own bx=some [i64 (ta.1+tb.1),sv]∧
  D5 H' (fun z=>z=ob∨z=bx∨Vg=some z) (ta.1+tb.1,sv) (ta.1+tb.1,ta.2++tb.2)) ?_ ?_
 ·refine vs ?_
  refine rq.intro (fun H'=>H'.own A=some [i64 ta.1,.slice ha ta.2.length hc]∧H'.own B=some [i64 tb.1,.slice rR tb.2.length XH]) ⟨qa,qb⟩ ?_
  refine vs ?_
  refine oQ.intro (i64 ta.1) (fun H' hI=>by refine v1 (ae hI.1) ?_;trivial) ?_
  refine vs ?_
  refine oQ.intro (i64 tb.1) (fun H' hI=>by refine v1 (ae hI.2) ?_;trivial) ?_
  refine vs ?_
  refine oQ.intro (.slice ha ta.2.length hc) (fun H' hI=>by refine v1 (ae hI.1) ?_;trivial) ?_
  refine vs ?_
  refine oQ.intro (.slice rR tb.2.length XH) (fun H' hI=>by refine v1 (ae hI.2) ?_;trivial) ?_
  refine vs ?_
  rw[wrap64 (n:=ta.1+tb.1) (by omega) (by omega)]
  have ald:=aG qa
  have ale:=aG qb
  have alf:=aG XJ
  have IV:∀Hc,ah (fun z=>gv.size≤z) gv Hc→(Hc.own A=some [i64 ta.1,.slice ha ta.2.length hc]∧Hc.own B=some [i64 tb.1,.slice rR tb.2.length XH]):=fun Hc E=>⟨E.own qa (by omega),E.own qb (by omega)⟩
  have alg:=Vh.size
  have alh:=(f10.trans f11).size
  have RA:∀Hc,ah (fun z=>gv.size≤z) gv Hc→da Hc 1 (.slice ha ta.2.length hc) ta.2.length (ta.2.map i64):=fun Hc E=>da.Pu (Ha3.fresh Vh) E (fun x hx hh=>by have:=(Ha5 x hx).1;omega)
  have RB:∀Hc,ah (fun z=>gv.size≤z) gv Hc→da Hc 1 (.slice rR tb.2.length XH) tb.2.length (tb.2.map i64):=fun Hc E=>da.Pu (Hb3.fresh (f10.trans f11)) E (fun x hx hh=>by have:=(Hb5 x hx).1;omega)
  have FIN:∀ (Hc:Hp) (bx:Nat) (sv:Value) (fp:Option Nat) (z:List Value),ah (fun z=>gv.size≤z) gv Hc→gv.size≤bx→Hc.own bx=some z→Sl Hc 1 sv (ta.2++tb.2).length ((ta.2++tb.2).map i64) fp→(∀b,fp=some b→gv.size≤b∧b≠bx)→
    ∃ (bx':Nat) (Xm:Value),[(7,Value.slice (some ⟨ob,0,none⟩) ws.length ws.length),(8,Y8),(15,ptr bx)]=[(7,Value.slice (some ⟨ob,0,none⟩) ws.length ws.length),(8,Y8),(15,ptr bx')]∧aq gv (Hc.wr bx [i64 (ta.1+tb.1),sv])∧gv.size≤bx'∧(Hc.wr bx [i64 (ta.1+tb.1),sv]).own bx'=some [i64 (ta.1+tb.1),Xm]∧
     D5 (Hc.wr bx [i64 (ta.1+tb.1),sv]) (fun z=>z=ob∨z=bx'∨Vg=some z) (ta.1+tb.1,Xm) (ta.1+tb.1,ta.2++tb.2):=fun Hc bx sv fp z E Qy hob s hf=>by
   have ew:ah (fun z=>z=bx) Hc (Hc.wr bx [i64 (ta.1+tb.1),sv]):=(ah.refl (fun z=>z=bx) _).wr (fun _=>rfl) _
   refine⟨bx,sv,rfl,((ah.refl (fun _=>False) gv:aq gv gv).then E (fun z hz=>hz)).then ew (fun z hz=>by omega),Qy,aj hob,D5.abB (s.ext ew (fun b hb e=>(hf b hb).2 e)) fun b hb hh=>?_⟩
   have h1:=hf b hb
   rcases hh with hh|hh|hh
   ·omega
   ·exact h1.2 hh
   ·have:=m11.lt hh
    omega
  refine He.intro ?_ ?_
  ·refine vs ?_
   have fL:aq gv (gv.new 3 []):=(ah.refl _ _).new _ _
   have s1:Sl (gv.new 3 []) 1 (.slice (some ⟨gv.size,0,none⟩) 0 0) ([]:List Int).length (([]:List Int).map i64) (some gv.size):=Sl.lit gv _ 1 0 [] rfl
   have z1:(gv.new 3 []).size=gv.size+1:=ar _ _ _
   generalize gv.new 3 []=L at*
   have e1:ah (fun z=>gv.size≤z) gv L:=(ah.refl (fun z=>gv.size≤z) gv).trans (fL.mono fun _ _ h=>h.elim)
   refine⟨IV _ (by first|assumption|exact ah.refl _ _),?_⟩
   refine vs ?_
   refine He.intro ?_ ?_
   ·refine vs ?_
    refine HH (xs:=[]) s1 (RA _ e1) (by rw[aoF];omega) fun w1 Ns fp1 s2 e2 h2=>?_
    have E2:ah (fun z=>gv.size≤z) gv Ns:=e1.trans (e2.mono fun z _ h=>by injection h with h;omega)
    have abH:=e2.size
    have QV:∀b,fp1=some b→gv.size≤b∧b<Ns.size∧0≤b:=fun b hb=>by
     rcases h2 with h2| ⟨b',h2,k3,k4⟩
     ·rw[h2]at hb;injection hb with hb;omega
     ·rw[h2]at hb;injection hb with hb;omega
    rw[aoM]at s2
    obtain⟨w1a,w1c,rfl,_⟩:=lY s2
    refine vs ?_
    refine⟨IV _ (by first|assumption|exact ah.refl _ _),?_⟩
    refine vs ?_
    refine He.intro ?_ ?_
    ·refine vs ?_
     refine HH s2 (RB _ E2) (by omega) fun w2 Jm Qv s3 e3 h3=>?_
     have E3:ah (fun z=>gv.size≤z) gv Jm:=E2.trans (e3.mono fun z _ h=>(QV z h).1)
     have XK:=e3.size
     have Oj:∀b,Qv=some b→gv.size≤b∧b<Jm.size∧0≤b:=fun b hb=>by
      rcases h3 with h3| ⟨b',h3,k3,k4⟩
      ·rw[h3]at hb;have:=QV b hb;omega
      ·rw[h3]at hb;injection hb with hb;omega
     skip
     obtain⟨w2a,w2c,rfl,_⟩:=lY s3
     refine vs ?_
     refine⟨IV _ (by first|assumption|exact ah.refl _ _),?_⟩
     refine vs ?_
     have fZ1:aq Jm (Jm.new 88 [i64 0,.slice none 0 0]):=(ah.refl _ _).new _ _
     have oz:=aE Jm 88 [i64 0,.slice none 0 0]
     have zZ1:(Jm.new 88 [i64 0,.slice none 0 0]).size=Jm.size+1:=ar _ _ _
     generalize Jm.new 88 [i64 0,.slice none 0 0]=Z1 at*
     have E4:ah (fun z=>gv.size≤z) gv Z1:=E3.trans (fZ1.mono fun _ _ h=>h.elim)
     refine⟨IV _ (by first|assumption|exact ah.refl _ _),?_⟩
     refine vs ?_
     refine v1 oz ?_
     refine⟨IV _ (by first|assumption|exact ah.refl _ _),?_⟩
     refine vs ?_
     exact FIN Z1 _ _ Qv _ E4 (by omega) oz (Sl.KS s3 fZ1) (fun b hb=>by have:=Oj b hb;omega)
    ·refine vs ?_
     have fZ2:aq Ns (Ns.new 88 [i64 0,.slice none 0 0]):=(ah.refl _ _).new _ _
     have oz:=aE Ns 88 [i64 0,.slice none 0 0]
     have zZ2:(Ns.new 88 [i64 0,.slice none 0 0]).size=Ns.size+1:=ar _ _ _
     generalize Ns.new 88 [i64 0,.slice none 0 0]=Z2 at*
     have E4:ah (fun z=>gv.size≤z) gv Z2:=E2.trans (fZ2.mono fun _ _ h=>h.elim)
     refine⟨IV _ (by first|assumption|exact ah.refl _ _),?_⟩
     refine vs ?_
     refine HH (Sl.KS s2 fZ2) (RB _ E4) (by omega) fun w2 Jm Qv s3 e3 h3=>?_
     have E3:ah (fun z=>gv.size≤z) gv Jm:=E4.trans (e3.mono fun z _ h=>(QV z h).1)
     have XK:=e3.size
     have Oj:∀b,Qv=some b→gv.size≤b∧b<Jm.size∧b≠Ns.size:=fun b hb=>by
      rcases h3 with h3| ⟨b',h3,k3,k4⟩
      ·rw[h3]at hb;have:=QV b hb;omega
      ·rw[h3]at hb;injection hb with hb;omega
     skip
     obtain⟨w2a,w2c,rfl,_⟩:=lY s3
     refine vs ?_
     refine⟨IV _ (by first|assumption|exact ah.refl _ _),?_⟩
     refine vs ?_
     have Wj:=e3.own oz (fun e=>by have:=QV _ e;omega)
     refine v1 Wj ?_
     refine⟨IV _ (by first|assumption|exact ah.refl _ _),?_⟩
     refine vs ?_
     exact FIN Jm _ _ Qv _ E3 (by omega) Wj s3 (fun b hb=>by have:=Oj b hb;omega)
   ·refine vs ?_
    have fZ3:aq L (L.new 88 [i64 0,.slice none 0 0]):=(ah.refl _ _).new _ _
    have oz:=aE L 88 [i64 0,.slice none 0 0]
    have zZ3:(L.new 88 [i64 0,.slice none 0 0]).size=L.size+1:=ar _ _ _
    generalize L.new 88 [i64 0,.slice none 0 0]=Z3 at*
    have E4:ah (fun z=>gv.size≤z) gv Z3:=e1.trans (fZ3.mono fun _ _ h=>h.elim)
    refine⟨IV _ (by first|assumption|exact ah.refl _ _),?_⟩
    refine vs ?_
    refine HH (xs:=[]) (Sl.KS s1 fZ3) (RA _ E4) (by rw[aoF];omega) fun w1 Ns fp1 s2 e2 h2=>?_
    have E2:ah (fun z=>gv.size≤z) gv Ns:=E4.trans (e2.mono fun z _ h=>by injection h with h;omega)
    have abH:=e2.size
    have QV:∀b,fp1=some b→gv.size≤b∧b<Ns.size∧b≠L.size:=fun b hb=>by
     rcases h2 with h2| ⟨b',h2,k3,k4⟩
     ·rw[h2]at hb;injection hb with hb;omega
     ·rw[h2]at hb;injection hb with hb;omega
    rw[aoM]at s2
    obtain⟨w1a,w1c,rfl,_⟩:=lY s2
    refine vs ?_
    refine⟨IV _ (by first|assumption|exact ah.refl _ _),?_⟩
    refine vs ?_
    refine HH s2 (RB _ E2) (by omega) fun w2 Jm Qv s3 e3 h3=>?_
    have E3:ah (fun z=>gv.size≤z) gv Jm:=E2.trans (e3.mono fun z _ h=>(QV z h).1)
    have XK:=e3.size
    have Oj:∀b,Qv=some b→gv.size≤b∧b<Jm.size∧b≠L.size:=fun b hb=>by
     rcases h3 with h3| ⟨b',h3,k3,k4⟩
     ·rw[h3]at hb;have:=QV b hb;omega
     ·rw[h3]at hb;injection hb with hb;omega
    skip
    obtain⟨w2a,w2c,rfl,_⟩:=lY s3
    refine vs ?_
    refine⟨IV _ (by first|assumption|exact ah.refl _ _),?_⟩
    refine vs ?_
    have Wj:=e3.own (e2.own oz (fun e=>by injection e with e;omega)) (fun e=>by have:=QV _ e;omega)
    refine v1 Wj ?_
    refine⟨IV _ (by first|assumption|exact ah.refl _ _),?_⟩
    refine vs ?_
    exact FIN Jm _ _ Qv _ E3 (by omega) Wj s3 (fun b hb=>by have:=Oj b hb;omega)
  ·refine vs ?_
   have fZ4:aq gv (gv.new 88 [i64 0,.slice none 0 0]):=(ah.refl _ _).new _ _
   have oz:=aE gv 88 [i64 0,.slice none 0 0]
   have zZ4:(gv.new 88 [i64 0,.slice none 0 0]).size=gv.size+1:=ar _ _ _
   generalize gv.new 88 [i64 0,.slice none 0 0]=Z4 at*
   have E4:ah (fun z=>gv.size≤z) gv Z4:=(ah.refl (fun z=>gv.size≤z) gv).trans (fZ4.mono fun _ _ h=>h.elim)
   refine⟨IV _ (by first|assumption|exact ah.refl _ _),?_⟩
   refine vs ?_
   have fL:aq Z4 (Z4.new 3 []):=(ah.refl _ _).new _ _
   have s1:Sl (Z4.new 3 []) 1 (.slice (some ⟨Z4.size,0,none⟩) 0 0) ([]:List Int).length (([]:List Int).map i64) (some Z4.size):=Sl.lit Z4 _ 1 0 [] rfl
   have z1:(Z4.new 3 []).size=Z4.size+1:=ar _ _ _
   generalize Z4.new 3 []=L at*
   have e1:ah (fun z=>gv.size≤z) gv L:=E4.trans (fL.mono fun _ _ h=>h.elim)
   refine⟨IV _ (by first|assumption|exact ah.refl _ _),?_⟩
   refine vs ?_
   refine HH (xs:=[]) s1 (RA _ e1) (by rw[aoF];omega) fun w1 Ns fp1 s2 e2 h2=>?_
   have E2:ah (fun z=>gv.size≤z) gv Ns:=e1.trans (e2.mono fun z _ h=>by injection h with h;omega)
   have abH:=e2.size
   have QV:∀b,fp1=some b→gv.size≤b∧b<Ns.size∧b≠gv.size:=fun b hb=>by
    rcases h2 with h2| ⟨b',h2,k3,k4⟩
    ·rw[h2]at hb;injection hb with hb;omega
    ·rw[h2]at hb;injection hb with hb;omega
   rw[aoM]at s2
   obtain⟨w1a,w1c,rfl,_⟩:=lY s2
   refine vs ?_
   refine⟨IV _ (by first|assumption|exact ah.refl _ _),?_⟩
   refine vs ?_
   refine HH s2 (RB _ E2) (by omega) fun w2 Jm Qv s3 e3 h3=>?_
   have E3:ah (fun z=>gv.size≤z) gv Jm:=E2.trans (e3.mono fun z _ h=>(QV z h).1)
   have XK:=e3.size
   have Oj:∀b,Qv=some b→gv.size≤b∧b<Jm.size∧b≠gv.size:=fun b hb=>by
    rcases h3 with h3| ⟨b',h3,k3,k4⟩
    ·rw[h3]at hb;have:=QV b hb;omega
    ·rw[h3]at hb;injection hb with hb;omega
   skip
   obtain⟨w2a,w2c,rfl,_⟩:=lY s3
   refine vs ?_
   refine⟨IV _ (by first|assumption|exact ah.refl _ _),?_⟩
   refine vs ?_
   have Wj:=e3.own (e2.own (fL.own oz (fun h=>h)) (fun e=>by injection e with e;omega)) (fun e=>by have:=QV _ e;omega)
   refine v1 Wj ?_
   refine⟨IV _ (by first|assumption|exact ah.refl _ _),?_⟩
   refine vs ?_
   exact FIN Jm _ _ Qv _ E3 (by omega) Wj s3 (fun b hb=>by have:=Oj b hb;omega)
 ·rintro e H12 ⟨bx,sv,rfl,f12,oS,qx,HX⟩
  obtain⟨_,xa,xc,Oi,rx,hxc,hxb⟩:=id HX
  obtain rfl:sv= .slice xa (ta.2++tb.2).length xc:=Oi
  have agi:=f12.own XJ (fun h=>h)
  have alj:(ta.2++tb.2).length≤ws.length:=by rw[anL];exact ol
  generalize hhs:ta.2++tb.2=hs at*
  have rx:da H12 1 (.slice xa hs.length xc) hs.length (hs.map i64):=rx
  have alk:=XI
  refine v1 (ae qx) ?_
  refine bA.intro (fun mm env H'=>∃j:Nat,mm=hs.length - j∧j≤hs.length∧ah (fun z=>z=ob) H12 H'∧H'.own ob=some (qP ws.length (fun x=>(iy k (dt ws)).d x+if(x:Int)∈hs.take j then 1 else 0))∧
   env=[(7,.slice (some ⟨ob,0,none⟩) ws.length ws.length),(8,Y8),(15,ptr bx),(84,.slice xa hs.length xc),(85,i64 hs.length),(86,i64 j)]) hs.length ⟨0,by omega,by omega,ah.refl _ _,by simpa using agi,rfl⟩ ?_
  rintro mm env Ns ⟨j,rfl,hj,zU,Wk,rfl⟩
  obtain⟨D,hD⟩:∃D:Nat→Nat,D=fun(x:Nat)=>(iy k (dt ws)).d x+if(x:Int)∈hs.take j then 1 else 0:=⟨_,rfl⟩
  rw[←hD]at Wk
  refine vs ?_
  refine am.dec (fun Ew=>?_) (fun Ew=>?_)<;>refine vs ?_
  ·obtain⟨y,hy⟩:∃y,hs[j]? =some y:=⟨_,anx (by omega)⟩
   obtain⟨x,rfl,hx⟩:=bQ y (anG hy)
   obtain⟨_,b3,o3,lb3,hxa,XL,Nq⟩:=da.num (da.Pu rx zU (fun z hz hh=>(hxb z hz).2 (.inl hh))) hy
   subst hxa
   refine⟨⟨by omega,by omega⟩,?_⟩
   refine v4 XL Int.toNat_natCast anD Nq ?_
   refine⟨⟨by omega,by omega⟩,?_⟩
   simp(disch:=(first|omega| (simp only[Zs]<;>omega)|fail)) only[go_sem, ↓reduceIte,Zv,ae Wk,Int.toNat_natCast,anD,anB,yq _ hx]
   refine⟨⟨by omega,by omega⟩,?_⟩
   simp(disch:=(first|omega| (simp only[Zs]<;>omega)|fail)) only[go_sem, ↓reduceIte,Zv,Wk,Int.toNat_natCast,anD,anB,yq _ hx]
   refine⟨by rw[nX];omega,?_⟩
   have XM:hs.take (j+1)=hs.take j++[(x:Int)]:=by rw[aoi,hy];rfl
   have St:(x:Int)∉hs.take j:=fun hm=>by
    have h9:=jd.sublist (List.take_sublist (j+1) hs)
    rw[XM]at h9
    exact(aon.1 h9).2.2 _ hm _ (anM.2 rfl) rfl
   have Zd:D x=(iy k (dt ws)).d x:=by rw[hD];simp only[if_neg St];rfl
   have hdl:=I.dl x (by have:=I.at_;omega)
   refine vs ?_
   rw[wrap64 (n:=(D x:Int)+1) (by omega) (by omega),wrap64 (n:=(j:Int)+1) (by omega) (by omega)]
   refine⟨hs.length - (j+1),by omega,j+1,rfl,by omega,zU.trans ((ah.refl (fun z=>z=ob) _).wr (fun _=>rfl) _),?_,rfl⟩
   have agj:(if(x:Int)∈hs.take (j+1)then 1 else 0)=1:=if_pos (by rw[XM];simp)
   have KU:=Tf (d:=D) (d':=fun(z:Nat)=>(iy k (dt ws)).d z+if(z:Int)∈hs.take (j+1)then 1 else 0) hx (fun y hy=>by
    have:((y:Int)∈hs.take (j+1))↔(y:Int)∈hs.take j:=by
     rw[XM,anR,anM]
     exact⟨fun h=>h.elim id fun h=>absurd (by omega) hy,.inl⟩
    rw[hD]
    simp only[this])
   simp only[agj]at KU
   rw[aj Wk,←KU,Zd]
   rfl
  have jk:j=hs.length:=by omega
  subst jk
  rw[aod]at hD
  have hDe:qP ws.length D=qP ws.length (iy (k+1) (dt ws)).d:=OD fun x hx=>by rw[hD];exact(hd x hx).symm
  rw[hDe]at Wk
  have T8:∀b,Vg=some b→ob<b:=fun b hb=>by have:=XI b hb;have:=aG abF;omega
  have m13:=(m11.ext f12 (fun _ _ h=>h) (fun _ _ h=>h.elim)).ext zU (fun b hb e=>by have:=T8 b hb;omega) (fun z _ h=>h)
  have agk:=HX.ext (S':=fun z=>z=ob∨Vg=some z) zU (fun z _ h=>.inl h) (fun z _ h=>h.elim .inl fun h=>.inr (.inr h))
  have agl:=zU.own qx (fun e=>by have:=aG XJ;omega)
  refine v1 (ae agl) ?_
  refine m13.push (u:=(ta.1+tb.1,.slice xa hs.length xc)) (t:=(ta.1+tb.1,hs)) agk ?_ (fun z hz e=>by have:=aG Wk;omega) fun v' Jm dv us' m14 zE agm=>?_
  ·have h8:=m11.has.len
   have h9:(((us.eraseIdx p).eraseIdx q)).length≤us.length:=aok (List.length_eraseIdx_le _ _) (List.length_eraseIdx_le _ _)
   omega
  refine vs ?_
  refine⟨ws.length - 1 - (k+1),by omega,k+1,v',dv,us',_,rfl,by omega,T',m14,fun b hb=>?_,zE.own Wk (fun e=>by have:=T8 _ e;omega),?_,rfl⟩
  ·rcases agm with h| ⟨b',h,h9⟩
   ·exact T8 b (by rw[←h];exact hb)
   ·rw[h]at hb
    injection hb with hb
    have:=aG Wk
    omega
  ·exact((((e5.trans (f6.mono fun _ _ h=>h.elim)).trans (Vh.mono fun _ _ h=>h.elim)).trans (f12.mono fun _ _ h=>h.elim)).trans (zU.mono fun z _ h=>by omega)).trans (zE.mono fun z _ h=>Nat.le_of_lt (T8 z h))
def Tg(s:Int×Nat):Value:=.agg [i64 s.1,u64 s.2].toArray
def OE(S:Int):Int×Nat:=(S / 18446744073709551616,(S%18446744073709551616).toNat)
theorem Th{S T:Int}(h:OE S=OE T):S=T:=by
 unfold OE at h
 injection h with h1 h2
 omega
set_option maxHeartbeats 1000000 in
theorem F4{H:Hp}{a:Option Addr}{c:Nat}{xs:List Int}(f:FuncId)(tC:List Value)(q:Int→Bool)(Inv:Hp→Prop)(hI:Inv H)(kG:∀H',Inv H'→da H' 1 (.slice a xs.length c) xs.length (xs.map i64))(FT:eW Tryz.prog f=true)
  (hf:∀H' x,x∈xs→Inv H'→ai Tryz.prog f (i64 x::tC) H' fun v GU=>ay (v= .bool (q x)∧Inv GU))(hm:xs.length≤1000000000):
  ai Tryz.prog gB [.slice a xs.length c,.func (.func f) #[] tC.toArray] H fun v H'=>ay (∃i:Int,v=i64 i∧(0≤i↔xs.any q=true)∧Inv H'):=by
 refine ba gG ⟨rfl,?_⟩
 refine v1 cM.eq_1 ?_
 refine bA.intro (fun m env H'=>Inv H'∧∃j:Nat,m=xs.length - j∧j≤xs.length∧(∀e∈xs.take j,q e=false)∧env=[(0,.slice a xs.length c),(1,.func (.func f) #[] tC.toArray),(7,i64 xs.length),(8,i64 j)]) xs.length ⟨hI,0,by omega,by omega,by simp,rfl⟩ ?_
 rintro m env H1 ⟨i1,j,hmj,hj,fY,rfl⟩
 have h1:=kG H1 i1
 refine vs ?_
 refine am.dec (fun aR=>?_) (fun aR=>?_)<;>refine vs ?_
 ·have jk:j<xs.length:=by omega
  obtain⟨e,he⟩:∃e,xs[j]? =some e:=⟨_,anx jk⟩
  obtain⟨_,b,o,lb,rfl,Bn,bM⟩:=da.num h1 he
  refine⟨⟨by omega,by omega⟩,?_⟩
  have cj:=anG he
  refine v4 Bn Int.toNat_natCast anD bM ?_
  refine⟨FT,?_⟩
  refine ai.mono (by simpa using hf H1 e cj i1) ?_
  rintro _ H2 ⟨rfl,i2⟩
  refine vs ?_
  cases hx:q e
  ·refine vs ?_
   rw[wrap64 (n:=(j:Int)+1) (by omega) (by omega)]
   refine⟨xs.length - (j+1),by omega,i2,j+1,rfl,by omega,?_,rfl⟩
   intro e' tS
   rw[aoi,he]at tS
   rcases anR.1 tS with tS|tS
   ·exact fY e' tS
   ·have:e'=e:=by simpa using tS
    rw[this];exact hx
  ·refine vs ?_
   exact⟨j,rfl,⟨fun _=>List.any_eq_true.2 ⟨e,cj,hx⟩,fun _=>by omega⟩,i2⟩
 ·refine⟨-1,rfl,?_,i1⟩
  have jk:j=xs.length:=by omega
  subst jk
  rw[aod]at fY
  have:xs.any q=false:=apV.2 fun e he=>by rw[fY e he];simp
  rw[this]
  simp
theorem qQ{H:Hp}{a:Option Addr}{c:Nat}{xs:List Int}(f:FuncId)(tC:List Value)(q:Int→Bool)(Inv:Hp→Prop)(hI:Inv H)(kG:∀H',Inv H'→da H' 1 (.slice a xs.length c) xs.length (xs.map i64))(FT:eW Tryz.prog f=true)
  (hf:∀H' x,x∈xs→Inv H'→ai Tryz.prog f (i64 x::tC) H' fun v GU=>ay (v= .bool (q x)∧Inv GU))(hm:xs.length≤1000000000):
  ai Tryz.prog ny [.slice a xs.length c,.func (.func f) #[] tC.toArray] H fun v H'=>ay (v= .bool (xs.any q)∧Inv H'):=by
 refine ba nH ⟨rfl,?_⟩
 refine v1 dc.eq_1 ?_
 refine(F4 f tC q Inv hI kG FT hf hm).mono ?_
 rintro _ H1 ⟨i,rfl,hi,i1⟩
 refine vs ?_
 refine⟨an4 Value.bool ?_,i1⟩
 cases hx:xs.any q
 ·rw[hx]at hi
  exact anU (fun h=>by cases hi.1 h)
 ·rw[hx]at hi
  exact anQ (hi.2 rfl)
theorem vB{H:Hp}{a a':Option Addr}{c c':Nat}{xs ys:List Int}(h:da H 1 (.slice a xs.length c) xs.length (xs.map i64))(h':da H 1 (.slice a' ys.length c') ys.length (ys.map i64))(hm:xs.length≤1000000000000):
  ai Tryz.prog Kg [.slice a xs.length c,.slice a' ys.length c'] H fun v H'=>ay (v= .bool (decide (xs=ys))∧H=H'):=by
 refine ba Km ⟨rfl,?_⟩
 refine v1 ud.eq_1 ?_
 refine am.dec (fun h2=>?_) (fun h2=>?_)
 rotate_left
 ·refine vs ?_
  exact⟨by rw[anU (p:=xs=ys) (fun e=>h2 (by rw[e]))];rfl,rfl⟩
 refine vs ?_
 refine bA.intro (fun k env H'=>H'=H∧∃j:Nat,k=xs.length - j∧j≤xs.length∧xs.take j=ys.take j∧env=[(0,.slice a xs.length c),(1,.slice a' ys.length c'),(12,i64 xs.length),(13,i64 j)]) xs.length ⟨rfl,0,by omega,by omega,rfl,rfl⟩ ?_
 rintro k env _ ⟨rfl,j,hk,hj,XM,rfl⟩
 refine vs ?_
 refine am.dec (fun aR=>?_) (fun aR=>?_)<;>refine vs ?_
 ·have jk:j<xs.length:=by omega
  obtain⟨x,hx⟩:∃e,xs[j]? =some e:=⟨_,anx jk⟩
  obtain⟨y,hy⟩:∃e,ys[j]? =some e:=⟨_,anx (by omega)⟩
  obtain⟨_,b,o,lb,rfl,kG,bM⟩:=da.num h hx
  obtain⟨_,b',o',UJ,rfl,NW,HI⟩:=da.num h' hy
  refine⟨⟨by omega,by omega⟩,?_⟩
  refine v4 kG Int.toNat_natCast anD bM ?_
  refine⟨⟨by omega,by omega⟩,?_⟩
  refine v4 NW Int.toNat_natCast anD HI ?_
  refine am.dec (fun h3=>?_) (fun h3=>?_)<;>refine vs ?_
  ·rw[wrap64 (n:=(j:Int)+1) (by omega) (by omega)]
   exact⟨xs.length - (j+1),by omega,trivial,j+1,rfl,by omega,by rw[aoi,aoi,hx,hy,XM,h3],rfl⟩
  ·refine⟨?_,rfl⟩
   rw[anU (fun e2=>h3 (by rw[e2,hy]at hx;injection hx with hx;exact hx.symm))]
   rfl
 ·have jk:j=xs.length:=by omega
  subst jk
  rw[aod,apG (by omega)]at XM
  exact⟨by rw[anQ XM];rfl,rfl⟩
theorem agn{x:Int}(h:(Lit.int .i64 x).wf=true): -9223372036854775808≤x∧x≤9223372036854775807:=by
 have e1:IntKind.i64.min= -9223372036854775808:=rfl
 have e2:IntKind.i64.max=9223372036854775807:=rfl
 simp only[Lit.wf,e1,e2,aoz,aoq]at h
 omega
theorem MG{H:Hp}{v:Value}(h:GO H (false,[.sl [.i .i64]]) v):∃ (ks:List Int) (a:Option Addr) (c:Nat),v= .slice a ks.length c∧da H 1 (.slice a ks.length c) ks.length (ks.map i64)∧ks.length≤maxLen∧∀x∈ks, -9223372036854775808≤x∧x≤9223372036854775807:=by
 obtain⟨rows,hr,hf,hm,a,c,rfl,hc⟩:=Sq h
 obtain⟨ks,h1,h2,h3⟩:=Qp hf
 rw[h1]at hr
 rw[←h2]at hr hm ⊢
 exact⟨ks,a,c,rfl,hr,hm,fun x hx=>agn (h3 x hx)⟩
theorem OF{H:Hp}{v:Value}(h:GO H (true,[.k (.i .i64),.k (.i .i64)]) v):∃x y:Int,v= .agg #[i64 x,i64 y]:=by
 obtain⟨cs,rfl,_,_,rfl,⟨x,rfl,hx⟩,_,_,rfl,⟨y,rfl,hy⟩,rfl⟩:=h
 exact⟨x,y,rfl⟩
structure SB where
 n:Nat
 c:Nat
 t:Nat
 tl:Nat
 mp:Nat
def HJ(T:Int→Int):Int→Option Value:=fun h=>if T h= -1 then none else some (i64 (T h))
structure eA(H:Hp)(B:SB)(C:Nat→Prop)(w:Nw)(L:List Lk)(T:Int→Int):Prop where
 own:H.own B.n=some [ptr B.c,ptr B.t,.map (some B.mp)]
 cells:CQ H B.c C w
 bY:bR H B.t B.tl L
 PZ:oJ H B.mp (HJ T)
 len:L.length=w.cs.length
 rl:(B.n≠B.t∧B.n≠B.tl∧B.n≠B.mp)∧(B.t≠B.tl∧B.t≠B.mp)∧B.tl≠B.mp
 out:¬C B.n∧¬C B.t∧¬C B.tl∧¬C B.mp
def SB.S(B:SB)(C:Nat→Prop)(z:Nat):Prop:=C z∨z=B.n∨z=B.t∨z=B.tl∨z=B.mp
section
variable {H H' : Hp} {B : SB} {C V : Nat → Prop} {w w' : Nw} {L L' : List Lk} {T : Int → Int}
theorem eA.slt(h:eA H B C w L T):∀z,B.S C z→z<H.size:=by
 rintro z (hz|rfl|rfl|rfl|rfl)
 ·exact h.cells.slt z hz
 ·exact aG h.own
 ·exact aG h.bY.own
 ·exact aG h.bY.nR
 ·exact h.PZ.lt
theorem eA.ext(h:eA H B C w L T)(e:ah V H H')(hd:∀z,B.S C z→¬V z):eA H' B C w L T:=
 ⟨e.own h.own (hd _ (.inr (.inl rfl))),h.cells.ext e (fun x hx=>hd x (.inl hx)),h.bY.ext e (hd _ (.inr (.inr (.inl rfl)))) (hd _ (.inr (.inr (.inr (.inl rfl))))),
  h.PZ.ext e (hd _ (.inr (.inr (.inr (.inr rfl))))),h.len,h.rl,h.out⟩
theorem eA.fresh(h:eA H B C w L T)(e:aq H H'):eA H' B C w L T:=h.ext e fun _ _ h=>h
theorem eA.aN(h:eA H B C w L T)(c1:CQ H' B.c C w')(e:ah C H H')(hl:w'.cs.length=w.cs.length):eA H' B C w' L T:=by
 obtain⟨o1,o2,o3,o4⟩:=h.out
 exact⟨e.own h.own o1,c1,h.bY.ext e o2 o3,h.PZ.ext e o4,by rw[hl];exact h.len,h.rl,h.out⟩
theorem eA.dN(h:eA H B C w L T)(t1:bR H' B.t B.tl L')(e:ah (fun z=>z=B.tl) H H')(hl:L'.length=L.length):eA H' B C w L' T:=by
 obtain⟨o1,o2,o3,o4⟩:=h.out
 obtain⟨⟨d1,d2,d3⟩,⟨d4,d5⟩,d6⟩:=h.rl
 exact⟨e.own h.own d2,h.cells.ext e (fun x hx hz=>o3 (hz▸hx)),t1,h.PZ.ext e (Ne.symm d6),by rw[hl];exact h.len,h.rl,h.out⟩
theorem eA.nS(h:eA H B C w L T){T':Int→Int}(t1:oJ H' B.mp (HJ T'))(e:ah (fun z=>z=B.mp) H H'):eA H' B C w L T':=by
 obtain⟨o1,o2,o3,o4⟩:=h.out
 obtain⟨⟨d1,d2,d3⟩,⟨d4,d5⟩,d6⟩:=h.rl
 exact⟨e.own h.own d3,h.cells.ext e (fun x hx hz=>o4 (hz▸hx)),h.bY.ext e d5 d6,t1,h.len,h.rl,h.out⟩
theorem Ti(T:Int→Int)(h x:Int):(x= -1→HJ (kT T h x)=NX (HJ T) h)∧(x≠ -1→HJ (kT T h x)=KA (HJ T) h (i64 x)):=by
 constructor
 ·rintro rfl
  funext y
  unfold HJ kT NX
  by_cases hy:y=h
  ·rw[if_pos hy,if_pos rfl,if_pos hy]
  ·rw[if_neg hy,if_neg hy]
 ·intro hx
  funext y
  unfold HJ kT KA
  by_cases hy:y=h
  ·rw[if_pos hy,if_neg hx,if_pos hy]
  ·rw[if_neg hy,if_neg hy]
theorem oT(h:eA H B C w L T)(g:Int):ai Tryz.prog Cb [ptr B.n,i64 g] H fun v H'=>ay (v=i64 (T g)∧H'=H):=by
 refine ba Cw ⟨rfl,?_⟩
 refine v3 lM.eq_1 (ae h.own) h.PZ.look ?_
 unfold HJ
 by_cases hg:T g= -1
 ·rw[if_pos hg,hg]
  refine vs ?_
  exact⟨rfl,rfl⟩
 ·rw[if_neg hg]
  refine vs ?_
  exact⟨rfl,rfl⟩
theorem oU(h:eA H B C w L T)(g x:Int):ai Tryz.prog B9 [ptr B.n,i64 g,i64 x] H fun v H'=>ay (eA H' B C w L (kT T g x)∧ah (fun z=>z=B.mp) H H'):=by
 obtain⟨h1,h2⟩:=Ti T g x
 refine ba Cu ⟨rfl,?_⟩
 refine v1 lK.eq_1 ?_
 refine am.dec (fun hx=>?_) (fun hx=>?_)<;>refine v1 (ae h.own) ?_
 ·refine h.PZ.del fun H1 t1 e1=>?_
  rw[←h1 hx]at t1
  refine vs ?_
  exact⟨h.nS t1 e1,e1⟩
 ·refine h.PZ.Zc fun H1 t1 e1=>?_
  rw[←h2 hx]at t1
  refine vs ?_
  exact⟨h.nS t1 e1,e1⟩
theorem MH{x a:Int}{b:Bool}(he:iw x= .tuple [i64 a,.bool b].toArray):(b=false∧x= -1)∨(b=true∧a=x∧x≠ -1):=by
 have h2:∀ {p q:Int} {r s:Bool},Value.tuple [i64 p,Value.bool r].toArray=Value.tuple [i64 q,Value.bool s].toArray→p=q∧r=s:=fun h=>by
  have h3:=an4 Array.toList (Value.tuple.inj h)
  injection h3 with h4 h5
  injection h4 with _ h4
  injection h5 with h5 _
  injection h5 with h5
  exact⟨h4,h5⟩
 unfold iw at he
 split at he
 ·rename_i hx
  exact .inl ⟨(h2 he).2.symm,hx⟩
 ·rename_i hx
  exact .inr ⟨(h2 he).2.symm,(h2 he).1.symm,hx⟩
theorem oV(h:eA H B C w L T)(hb:Bt (aI w) (aU w) (bi L) (bq L)){x a:Int}{b:Bool}(he:iw x= .tuple [i64 a,.bool b].toArray):
  ai Tryz.prog Cc [ptr B.n,i64 a,.bool b] H fun v H'=>ay (v=i64 x∧∃L',eA H' B C w L' T∧bi L'=kP (bi L) (bq L) x∧bq L'=c9 (bq L) x∧ah (fun z=>z=B.tl) H H'):=by
 refine ba Cx ⟨rfl,?_⟩
 refine v1 lN.eq_1 ?_
 rcases MH he with ⟨rfl,rfl⟩| ⟨rfl,rfl,hx⟩
 ·refine vs ?_
  obtain⟨h1,h2⟩:=BQ hb
  exact⟨rfl,L,h,h1.symm,h2.symm,ah.refl _ _⟩
 ·refine v1 (ae h.own) ?_
  refine(cP h.bY (x:=a) (fun hu=>by have:=CM.up hb hu;have:=h.len;omega)).mono ?_
  rintro _ H1 ⟨rfl,L1,t1,l1,k1,u1,e1⟩
  refine vs ?_
  exact⟨rfl,L1,h.dN t1 e1 l1,k1,u1,e1⟩
set_option maxRecDepth 100000 in
set_option maxHeartbeats 4000000 in
theorem oW(h:eA H B C w L T){g a0 b0:Int}{R:Int→Prop}(m:Mg (aI w) (aU w) g R (bi L) (bq L) [] a0 b0):
  ai Tryz.prog Ca [ptr B.n,i64 a0,i64 b0] H fun v H'=>ay (∃r L',v=i64 r∧eA H' B C w L' T∧Mg (aI w) (aU w) g R (bi L') (bq L') [] r (-1)∧
   (∀x0,yB (aU w) (bi L) (bq L) x0 (bi L) (bq L) [] a0 b0→yB (aU w) (bi L) (bq L) x0 (bi L') (bq L') [] r (-1))∧ah (fun z=>C z∨z=B.tl) H H'):=by
 refine ba Cv ⟨rfl,?_⟩
 refine v1 lL.eq_1 ?_
 have zD:=h.cells.FM
 refine bA.intro (fun mm env H'=>∃ (a b:Int) (dR:List Int) (wv:Value) (fp:Option Nat) (L':List Lk),mm=w.cs.length - dR.length∧eA H' B C w L' T∧Mg (aI w) (aU w) g R (bi L') (bq L') dR a b∧
  (∀x0,yB (aU w) (bi L) (bq L) x0 (bi L) (bq L) [] a0 b0→yB (aU w) (bi L) (bq L) x0 (bi L') (bq L') dR a b)∧
  (∀z,fp=some z→H.size≤z)∧Sl H' 1 wv dR.length (dR.map i64) fp∧ah (fun z=>C z∨z=B.tl∨H.size≤z) H H'∧
  env=[(0,ptr B.n),(1,i64 a),(2,i64 b),(7,wv)]) _ ⟨a0,b0,[],_,none,L,rfl,h,m,(fun _ h=>h),(fun z h=>by cases h),Sl.nil _ _,ah.refl _ _,rfl⟩ ?_
 rintro mm env H1 ⟨a,b,dR,wv,fp,L1,rfl,l1,m1,f1,jv,s1,e1,rfl⟩
 have z1:=e1.size
 clear m
 refine vs ?_
 refine am.dec (fun ga=>?A) (fun ga=>?_)<;>refine vs ?_
 rotate_left
 refine am.dec (fun gb=>?B) (fun gb=>?_)<;>refine vs ?_
 rotate_left
 ·have o1:=l1.own
  refine v1 (ae o1) ?_
  refine(cK l1.cells b a).mono ?_
  rintro _ H2 ⟨rfl,c2,e2⟩
  have l2:=l1.aN c2 e2 rfl
  have s2:=s1.ext e2 (fun z hz ez=>by have:=jv z hz;have:=h.slt z (.inl ez);omega)
  have z2:=e2.size
  have ha:=m1.wa.resolve_left ga
  have hb:=m1.wb.resolve_left gb
  have ye:=jp (w:=w) (a:=b) (b:=a) (by rw[hb.1];exact m1.pos) (by rw[ha.1];exact m1.pos)
  have aS:a≠b:=fun e=>ga (m1.ab e)
  rw[ye]
  obtain⟨p,q,Pf,hl,gp,gq,mm,fm⟩:∃p q,(if aU w b a=true then(p=b∧q=a)else(p=a∧q=b))∧aU w p q=true∧p≠ -1∧q≠ -1∧Mg (aI w) (aU w) g R (bi L1) (bq L1) dR p q∧
    (∀x0,yB (aU w) (bi L) (bq L) x0 (bi L) (bq L) [] a0 b0→yB (aU w) (bi L) (bq L) x0 (bi L1) (bq L1) dR p q):=by
   cases aR:aU w b a
   ·exact⟨a,b,by simp,((au w).Pj a b aS).resolve_right (by rw[aR];simp),ga,gb,m1,f1⟩
   ·exact⟨b,a,by simp,aR,gb,ga,m1.swap,fun x0 h0=>(f1 x0 h0).swap⟩
  have Qa:0<aI w p:=by rw[(mm.wa.resolve_left gp).1];exact mm.pos
  obtain⟨p0,p1,_⟩:=aH Qa
  have m3:=mm.R5 (au w) gp gq hl
  have f3:=fun x0 h0=>(fm x0 h0).down (au w) mm.bt gp
  have wl:(dR++[p]).length≤w.cs.length:=bV (m3.nodup (au w)) fun x hx=>by
   have G2:=(m3.wy x hx).2.1
   have wG:=m3.pos
   obtain⟨x0,x1,_⟩:=aH (w:=w) (x:=x) (by omega)
   exact⟨x0,x1⟩
  rw[anL,an6]at wl
  cases aR:aU w b a<;>simp only[aR,if_true,if_false,aoQ]at Pf<;>obtain⟨rfl,rfl⟩:=Pf<;>refine vs ?_
  all_goals
   refine EZ (B:=H.size) jv (by omega) s2 p (by omega) fun w' H3 dv mr s3 e3=>?_
   refine vs ?_
   have l3:=l2.ext e3 (fun z hz ez=>by have:=h.slt z hz;omega)
   have o3:=l3.own
   refine v1 (ae o3) ?_
   refine(cB l3.bY p).mono ?_
   rintro _ H' ⟨rfl,e⟩
   obtain rfl:=e.symm
   obtain⟨k1,k2,ek⟩:=cQ (bi L1 p true)
   rw[ek]
   refine vs ?_
   refine(oV l3 mm.bt ek).mono ?_
   rintro _ H4 ⟨rfl,L4,l4,V0,V5,e4⟩
   have s4:=s3.ext e4 (fun z hz ez=>by have:=mr z hz;have:=h.slt B.tl (.inr (.inr (.inr (.inl rfl))));omega)
   refine vs ?_
   refine⟨w.cs.length - (dR.length+1),by omega,bi L1 p true,q,dR++[p],w',dv,L4,by simp,l4,?_,?_,mr,s4,((e1.trans (e2.mono fun z _ hz=>.inl hz)).trans (e3.mono fun z _ hz=>.inr (.inr hz))).trans (e4.mono fun z _ hz=>.inr (.inl hz)),rfl⟩
   ·rw[V0,V5];exact m3
   ·rw[V0,V5];exact f3
 case' A=>
  have m2:Mg (aI w) (aU w) g R (bi L1) (bq L1) dR b (-1):=ga▸m1.swap
  have f2:=fun x0 (h0:yB (aU w) (bi L) (bq L) x0 (bi L) (bq L) [] a0 b0)=>(f1 x0 h0).swap
  rw[ga]at f2
  have hr:(if b>a then b else a)=b:=by
   rcases m1.wb with h|h
   ·omega
   ·have hp:=m1.pos
    obtain⟨_,_⟩:=aH (w:=w) (x:=b) (by omega)
    omega
  rw[hr]
  clear hr
  generalize b=r at m2 f2
 case' B=>
  have m2:Mg (aI w) (aU w) g R (bi L1) (bq L1) dR a (-1):=gb▸m1
  have f2:=f1
  rw[gb]at f2
  have hr:(if b>a then b else a)=a:=by
   rcases m1.wa with h|h
   ·omega
   ·have hp:=m1.pos
    obtain⟨_,_⟩:=aH (w:=w) (x:=a) (by omega)
    omega
  rw[hr]
  clear hr
  generalize a=r at m2 f2
 all_goals
  obtain⟨wa,wc,rfl⟩:=Sl.shape s1
  refine vs ?_
  have wl:dR.length≤w.cs.length:=bV (m2.nodup (au w)) fun x hx=>by
   have G2:=(m2.wy x hx).2.1
   have wG:=m2.pos
   obtain⟨x0,x1,_⟩:=aH (w:=w) (x:=x) (by omega)
   exact⟨x0,x1⟩
  refine bA.intro (fun mm env H'=>∃ (i:Nat) (r:Int) (L':List Lk),mm=i∧i≤dR.length∧eA H' B C w L' T∧Mg (aI w) (aU w) g R (bi L') (bq L') (dR.take i) r (-1)∧
   (∀x0,yB (aU w) (bi L) (bq L) x0 (bi L) (bq L) [] a0 b0→yB (aU w) (bi L) (bq L) x0 (bi L') (bq L') (dR.take i) r (-1))∧
   Sl H' 1 (.slice wa dR.length wc) dR.length (dR.map i64) fp∧ah (fun z=>C z∨z=B.tl∨H.size≤z) H H'∧
   env=[(0,ptr B.n),(7,.slice wa dR.length wc),(8,i64 r),(9,i64 ((i:Int) - 1))]) _ ⟨dR.length,r,L1,rfl,anO _,l1,by rw[aod];exact m2,by rw[aod];exact f2,s1,e1,?_⟩ ?_
  ·rw[wrap64 (by omega) (by omega)]
  rintro mm env H2 ⟨i,r2,L2,hmi,hi,l2,m3,f3,s2,e2,rfl⟩
  obtain rfl:=hmi.symm
  refine vs ?_
  refine am.dec (fun gi=>?_) (fun gi=>?_)<;>refine vs ?_
  rotate_left
  ·obtain rfl:i=0:=by omega
   exact⟨r2,L2,rfl,l2,by simpa using m3,by simpa using f3,e2.mono fun z hz h=>h.elim .inl fun h=>.inr (by omega)⟩
  obtain⟨j,rfl⟩:∃j,i=j+1:=⟨i - 1,by omega⟩
  obtain⟨v,hv⟩:∃v,dR[j]? =some v:=⟨_,anx (by omega)⟩
  have tk:dR.take (j+1)=dR.take j++[v]:=by rw[aoi,hv];rfl
  rw[tk]at m3 f3
  have m4:=m3.back (au w)
  have f4:=fun x0 h0=>(f3 x0 h0).back
  obtain⟨v1,v2,v3,v4,v5,v6⟩:=m3.wy v (by simp)
  obtain⟨q1,vb,lb,rfl,q2,q3⟩:=Sl.Bl s2 hv
  have hvb:∃b',fp=some b'∧b'=vb:=by
   cases fp with
   |none=>have:=s2.2.2;injection this with h1;cases h1
   |some b'=>obtain⟨_,_,h1,_⟩:=s2.2;injection h1 with h1;injection h1 with h1;injection h1 with h1;exact⟨b',rfl,h1.symm⟩
  obtain⟨b',rfl,rfl⟩:=hvb
  have hvb:=jv b' rfl
  have V6:0<aI w v:=by rw[v2];exact m3.pos
  obtain⟨W7,vv1,_⟩:=aH V6
  have ji:((((j+1:Nat):Int) - 1)).toNat=j:=by omega
  refine⟨⟨by omega,by omega⟩,?_⟩
  simp(disch:=(first|omega| (simp only[Zs]<;>omega)|fail)) only[go_sem, ↓reduceIte,Zv,ae q2,anB,anD,ji,q3]
  refine am.dec (fun gr=>?_) (fun gr=>?_)<;>refine vs ?_
  ·rw[if_pos gr,if_pos gr]at m4
   simp only[if_pos gr]at f4
   have f5:=f4
   have l3:=l2
   have m5:=m4
   have s3:=s2
   have e3:=e2
   simp(disch:=(first|omega| (simp only[Zs]<;>omega)|fail)) only[go_sem, ↓reduceIte,Zv,ae l3.own]
   refine(oP l3.bY (p:=v) ⟨W7,by have:=l3.len;omega⟩).mono ?_
   rintro _ H4 ⟨rfl,L4,t4,W6,k4,u4,e4⟩
   have l4:=l3.dN t4 e4 W6
   refine vs ?_
   refine⟨j,by omega,j,v,L4,rfl,by omega,l4,?_,?_,s3.ext e4 (fun z hz ez=>by injection hz with hz;have:=h.slt B.tl (.inr (.inr (.inr (.inl rfl))));omega),e3.trans (e4.mono fun z _ hz=>.inr (.inl hz)),?_⟩
   ·rw[k4,u4];exact m5.yA (au w)
   ·rw[k4,u4];exact fun x0 h0=>(f5 x0 h0).yA v1
   ·rw[show((j+1:Nat):Int) - 1 - 1=(j:Int) - 1 by omega,wrap64 (by omega) (by omega)]
  ·rw[if_neg gr,if_neg gr]at m4
   simp only[if_neg gr]at f4
   have zP:=m3.wa.resolve_left gr
   obtain⟨r0,r1,_⟩:=aH (w:=w) (x:=r2) (by rw[zP.1];exact m3.pos)
   have bv:=l2.len
   have hvr:v≠r2:=fun e=>by have:=v5 gr;rw[e,(au w).yf]at this;cases this
   simp(disch:=(first|omega| (simp only[Zs]<;>omega)|fail)) only[go_sem, ↓reduceIte,Zv,ae l2.own]
   refine(fG l2.bY (p:=v) (x:=r2) (c:=true) ⟨W7,by omega⟩ ⟨r0,by omega⟩ hvr zP.2 v4).mono ?_
   rintro _ H3 ⟨rfl,L3,t3,ll3,kk3,uu3,Ip⟩
   have l3:=l2.dN t3 Ip ll3
   have m5:Mg (aI w) (aU w) g R (bi L3) (bq L3) (dR.take j) v (-1):=by rw[kk3,uu3];exact m4
   have f5:=f4
   rw[←kk3,←uu3]at f5
   have nb:b'≠B.tl:=fun e=>by have:=h.slt B.tl (.inr (.inr (.inr (.inl rfl))));omega
   have s3:=s2.ext Ip (fun z hz ez=>by injection hz with hz;exact nb (hz.trans ez))
   have e3:=e2.trans (Ip.mono fun z _ hz=>.inr (.inl hz))
   refine vs ?_
   simp(disch:=(first|omega| (simp only[Zs]<;>omega)|fail)) only[go_sem, ↓reduceIte,Zv,ae l3.own]
   refine(oP l3.bY (p:=v) ⟨W7,by have:=l3.len;omega⟩).mono ?_
   rintro _ H4 ⟨rfl,L4,t4,W6,k4,u4,e4⟩
   have l4:=l3.dN t4 e4 W6
   refine vs ?_
   refine⟨j,by omega,j,v,L4,rfl,by omega,l4,?_,?_,s3.ext e4 (fun z hz ez=>by injection hz with hz;have:=h.slt B.tl (.inr (.inr (.inr (.inl rfl))));omega),e3.trans (e4.mono fun z _ hz=>.inr (.inl hz)),?_⟩
   ·rw[k4,u4];exact m5.yA (au w)
   ·rw[k4,u4];exact fun x0 h0=>(f5 x0 h0).yA v1
   ·rw[show((j+1:Nat):Int) - 1 - 1=(j:Int) - 1 by omega,wrap64 (by omega) (by omega)]
end
end Go.Proofs.YtjlnnljohemifaaGreat

namespace Go.Proofs.YtjlnnljohemifaaGreat
open Go Go.Vc
def dU(n:Nat)(H:Hp)(S:Nat→Prop)(w:Nw):Prop:=∃ (B:SB) (C:Nat→Prop) (L:List Lk) (T:Int→Int),B.n=n∧eA H B C w L T∧BP (aI w) (aU w) (bi L) (bq L) T∧∀z,S z↔B.S C z
theorem dU.slt{n:Nat}{H:Hp}{S:Nat→Prop}{w:Nw}(h:dU n H S w):∀z,S z→z<H.size:=by
 obtain⟨B,C,L,T,rfl,m,l,hS⟩:=h
 exact fun z hz=>m.slt z ((hS z).1 hz)
theorem dU.ext{n:Nat}{H H':Hp}{S V:Nat→Prop}{w:Nw}(h:dU n H S w)(e:ah V H H')(hd:∀z,S z→¬V z):dU n H' S w:=by
 obtain⟨B,C,L,T,rfl,m,l,hS⟩:=h
 exact⟨B,C,L,T,rfl,m.ext e (fun z hz=>hd z ((hS z).2 hz)),l,hS⟩
theorem QW:HJ (fun _=> -1)=fun _=>none:=by
 funext y
 unfold HJ
 rw[if_pos rfl]
theorem Jn(cap:Int)(H:Hp):ai Tryz.prog NA [i64 cap] H fun v H'=>ay (
  aq H H'∧((¬ (0≤cap∧cap≤65536)∧v= .tuple [.pointer none,i64 31].toArray)∨
   ((0≤cap∧cap≤65536)∧∃n S,v= .tuple [ptr n,i64 0].toArray∧dU n H' S (CS cap)∧∀x,S x→H.size≤x))):=by
 refine ba NF ⟨rfl,?_⟩
 refine v1 AM.eq_1 ?_
 refine(nQ cap H).mono ?_
 rintro _ H1 ⟨f1,⟨hb,rfl⟩| ⟨hb,c,C,rfl,c1,hC⟩⟩
 ·refine vs ?_
  exact⟨f1,.inl ⟨hb,rfl⟩⟩
 refine v1 anZ ?_
 refine(xE H1 hb).mono ?_
 rintro _ H2 ⟨t,tl,rfl,t2,f2,ht,Mr⟩
 refine vs ?_
 have zS:=c1.slt
 have z1:=f1.size
 have z2:=f2.size
 have Iu:=aG t2.own
 have Xi:=aG t2.nR
 have f3:aq H2 (H2.fX.new 282 [ptr c,ptr t,.map (some H2.size)]):=((ah.refl _ _).fX).new _ _
 have e1:ah (fun _=>False) H2.fX (H2.fX.new 282 [ptr c,ptr t,.map (some H2.size)]):=(ah.refl _ _).new _ _
 have ft:=f1.trans (f2.trans f3)
 refine⟨ft,.inr ⟨hb,H2.size+1,(SB.mk (H2.size+1) c t tl H2.size).S C,rfl,⟨⟨H2.size+1,c,t,tl,H2.size⟩,C,_,fun _=> -1,rfl,
  ⟨?_,c1.fresh (f2.trans f3),t2.fresh f3,by rw[QW];exact(oJ.new H2).ext e1 (fun h=>h),?_,?_,?_⟩,BP.none rfl (nT cap) (CR _) (Hk _) (fun _=>rfl),fun z=>Iff.rfl⟩,fun z hz=>?_⟩⟩
 ·exact bD (by simp only[kE])
 ·simp[CS]
 ·have:=t2.ne
  refine⟨⟨?_,?_,?_⟩,⟨?_,?_⟩,?_⟩<;>simp only<;>omega
 ·refine⟨fun h=>?_,fun h=>?_,fun h=>?_,fun h=>?_⟩<;>(have h2:=zS _ h;first|omega| (simp only at h2;omega))
 ·rcases hz with hz|rfl|rfl|rfl|rfl
  ·exact hC z hz
  all_goals first|omega| (simp only;omega)
theorem HK{n:Nat}{H:Hp}{B:SB}{C:Nat→Prop}{w:Nw}{L:List Lk}{T:Int→Int}{S:Nat→Prop}(m:eA H B C w L T)(l:BP (aI w) (aU w) (bi L) (bq L) T)(hn:B.n=n)(hS:∀z,S z↔B.S C z):ai Tryz.prog dF [ptr B.c] H fun v H'=>ay (
  (w.hs.length=65537∧v=i64 0∧cD (dU n) S H H' w)∨(w.hs.length≠65537∧v=i64 w.hs.length∧cD (dU n) S H H' w.make)):=by
 subst hn
 refine(lV m.cells).mono ?_
 rintro _ H1 (⟨h1,rfl,rfl⟩| ⟨h1,rfl,C',c1,e1,Bp⟩)
 ·exact .inl ⟨h1,rfl,cD.same ⟨B,C,L,T,rfl,m,l,hS⟩ (ah.refl _ _)⟩
 obtain⟨n1,n2,n3,n4⟩:=m.out
 have slt:=m.slt
 have no:∀z,B.S (fun _=>False) z→¬C z→¬C' z:=fun z hz hn h=>by
  rcases Bp z h with h6|h6
  ·exact hn h6
  ·have:=slt z (hz.elim (fun h=>h.elim) .inr)
   omega
 refine .inr ⟨h1,rfl,B.S C',⟨B,C',L,T,rfl,⟨e1.own m.own n1,c1,m.bY.ext e1 n2 n3,m.PZ.ext e1 n4,m.len,m.rl,no _ (.inr (.inl rfl)) n1,no _ (.inr (.inr (.inl rfl))) n2,no _ (.inr (.inr (.inr (.inl rfl)))) n3,no _ (.inr (.inr (.inr (.inr rfl)))) n4⟩,l,fun z=>Iff.rfl⟩,
  e1.mono fun z _ h=>(hS z).2 (.inl h),fun z hz=>?_⟩
 rcases hz with hz|hz
 ·rcases Bp z hz with h6|h6
  ·exact .inl ((hS z).2 (.inl h6))
  ·exact .inr h6
 ·exact .inl ((hS z).2 (.inr hz))
theorem ED{n:Nat}{H:Hp}{S:Nat→Prop}{w:Nw}(h:dU n H S w)(g x k s:Int):ai Tryz.prog qd [ptr n,i64 g,i64 x,wq k s] H fun v H'=>ay (
  (¬w.oR g x∧v= .bool false∧cD (dU n) S H H' w)∨(w.oR g x∧v= .bool true∧cD (dU n) S H H' (w.put x (g,k,s)))):=by
 obtain⟨B,C,L,T,rfl,m,l,hS⟩:=h
 have hC:∀z,C z→S z:=fun z h=>(hS z).2 (.inl h)
 have s1:S B.tl:=(hS _).2 (.inr (.inr (.inr (.inl rfl))))
 have s2:S B.mp:=(hS _).2 (.inr (.inr (.inr (.inr rfl))))
 refine ba Bb ⟨rfl,?_⟩
 refine v1 j5.eq_1 ?_
 have f0:aq H (H.new 224 [i64 k,u64 s]):=(ah.refl _ _).new _ _
 have b0:(H.new 224 [i64 k,u64 s]).own H.size=some [i64 k,u64 s]:=aE _ _ _
 have m0:=m.fresh f0
 generalize H.new 224 [i64 k,u64 s]=H0 at*
 have ff:ah S H H0:=f0.mono fun _ _ h=>h.elim
 refine v2 (ae m0.own) (ae b0) ?_
 refine(nP m0.cells g x k s).mono ?_
 rintro _ H1 (⟨cw,rfl,c1,e1⟩| ⟨tD,rfl,c1,e1⟩)
 ·refine vs ?_
  exact .inl ⟨cw,rfl,cD.same ⟨B,C,L,T,rfl,m0.aN c1 e1 rfl,l,hS⟩ (ff.trans (e1.mono fun z _ hz=>hC z hz))⟩
 obtain⟨hh,hx,bQ⟩:=id tD
 have m1:=m0.aN c1 e1 (by simp[Nw.put])
 have hg:=hh.1
 have cV:=fun y=>eC hx (g,k,s) y
 have bo:Uq (aI (w.put x (g,k,s))) (aU (w.put x (g,k,s))) (bi L) (bq L) T g x:=by
  refine l.ins rfl (Int.not_lt.1 fun h=>bQ (bK.1 h)) (by omega) (by omega) (by rw[cV,if_pos rfl]) (fun y hy=>by rw[cV,if_neg hy]) (fun a b ha hb tT oS=>dI hx _ ha hb tT oS)
 refine vs ?_
 refine(oT m1 g).mono ?_
 rintro _ H' ⟨rfl,e⟩
 obtain rfl:=e.symm
 refine vs ?_
 refine(oW m1 bo.mg).mono ?_
 rintro _ H2 ⟨r,L2,rfl,m2,g2,_,e2⟩
 refine vs ?_
 refine(oU m2 g r).mono ?_
 rintro _ H3 ⟨m3,e3⟩
 refine vs ?_
 exact .inr ⟨tD,rfl,cD.same ⟨B,C,L2,_,rfl,m3,bo.done g2,hS⟩ (((ff.trans (e1.mono fun z _ h=>hC z h)).trans (e2.mono fun z _ h=>by rcases h with h|rfl;exact hC z h;exact s1)).trans (e3.mono fun z _ h=>h▸s2))⟩
theorem JX{w:Nw}{L:List Lk}{T:Int→Int}(l:BP (aI w) (aU w) (bi L) (bq L) T){g x:Int}(h:w.first g x):T g=x:=by
 obtain⟨h1,h2,h3⟩:=bO.1 h
 have:=l.first (x:=x) (by omega) (fun y hy aS=>h3 y (by omega) aS) (au w)
 rwa[h2]at this
theorem Ab{n:Nat}{H:Hp}{S:Nat→Prop}{w:Nw}(h:dU n H S w)(g:Int):ai Tryz.prog vj [ptr n,i64 g] H fun v H'=>ay (
  ((w.len g=0∧v= .tuple [i64 0,.bool false].toArray)∨∃x,w.first g x∧v= .tuple [i64 x,.bool true].toArray)∧H'=H):=by
 obtain⟨B,C,L,T,rfl,m,l,hS⟩:=h
 refine ba FC ⟨rfl,?_⟩
 refine v1 oF.eq_1 ?_
 refine(oT m g).mono ?_
 rintro _ H' ⟨rfl,e⟩
 obtain rfl:=e.symm
 refine vs ?_
 refine am.dec (fun h0=>?_) (fun h0=>?_)<;>refine vs ?_
 ·refine⟨.inl ⟨?_,rfl⟩,rfl⟩
  by_cases hg:0<g
  ·refine anX fun hl=>?_
   obtain⟨x,hx⟩:=xB hg hl
   have h2:=(bO.1 hx).2.1
   have:=JX l hx
   have:=(aH (w:=w) (x:=x) (by omega)).1
   omega
  ·exact Nw.I9.2 (.inl (by omega))
 ·obtain⟨h1,h2,h3⟩:=l.t1 g h0
  have hl:w.len g≠0:=fun e=>(xA h2).1 e _ h1
  obtain⟨x,hx⟩:=xB h2 hl
  rw[JX l hx]
  exact⟨.inr ⟨x,hx,rfl⟩,rfl⟩
theorem Bx{n:Nat}{H:Hp}{S:Nat→Prop}{w:Nw}(h:dU n H S w)(x k s:Int):ai Tryz.prog nF [ptr n,i64 x,wq k s] H fun v H'=>ay (
  (¬w.de x k s∧v= .bool false∧cD (dU n) S H H' w)∨(w.de x k s∧v= .bool true∧∃y,w.cs[x.toNat]? =some y∧cD (dU n) S H H' (w.put x (y.1,k,s)))):=by
 obtain⟨B,C,L,T,rfl,m,l,hS⟩:=h
 have hC:∀z,C z→S z:=fun z h=>(hS z).2 (.inl h)
 have s1:S B.tl:=(hS _).2 (.inr (.inr (.inr (.inl rfl))))
 have s2:S B.mp:=(hS _).2 (.inr (.inr (.inr (.inr rfl))))
 refine ba xo ⟨rfl,?_⟩
 refine v1 gQ.eq_1 ?_
 have f0:aq H (H.new 224 [i64 k,u64 s]):=(ah.refl _ _).new _ _
 have b0:(H.new 224 [i64 k,u64 s]).own H.size=some [i64 k,u64 s]:=aE _ _ _
 have m0:=m.fresh f0
 generalize H.new 224 [i64 k,u64 s]=H0 at*
 have ff:ah S H H0:=f0.mono fun _ _ h=>h.elim
 refine v2 (ae m0.own) (ae b0) ?_
 refine(jo m0.cells x k s).mono ?_
 rintro _ H1 (⟨cw,rfl,c1,e1⟩| ⟨bQ,rfl,y,hy,gk,c1,e1⟩)
 ·refine vs ?_
  exact .inl ⟨cw,rfl,cD.same ⟨B,C,L,T,rfl,m0.ext e1 (fun _ _ h=>h),l,hS⟩ (ff.trans (e1.mono fun _ _ h=>h.elim))⟩
 have rG:(w.put x (y.1,k,s)).cs.length=w.cs.length:=by simp[Nw.put]
 have m1:=m0.aN c1 e1 rG
 have CU:w.de x k s:=⟨bQ,fun z hz=>by rw[hy]at hz;injection hz with hz;rw[←hz];exact gk⟩
 have hx:0≤x∧x<w.cs.length:=⟨bQ.1,by have:=(anA.1 hy).1;have:=bQ.1;omega⟩
 have Rz:aI w x=y.1:=mZ bQ.1 hy
 have ec:=bK.2 bQ
 have hw:aI (w.put x (y.1,k,s))=aI w:=by
  funext z
  rw[eC hx]
  split
  ·rename_i e;rw[e,Rz]
  ·rfl
 have FZ:cZ (w.put x (y.1,k,s)).cs x:=bK.1 (by rw[hw];exact ec)
 refine v1 (ae m1.own) ?_
 refine(dA m1.cells x).mono ?_
 rintro _ H2 (⟨cw,_,_⟩| ⟨_,rfl,c2,e2⟩)
 ·exact absurd FZ cw
 have m2:=m1.aN c2 e2 rfl
 have re:ah S H H2:=(ff.trans (e1.mono fun z _ h=>hC z h)).trans (e2.mono fun z _ h=>hC z h)
 have el:∀a b,0<aI w a→0<aI w b→a≠x→b≠x→aU (w.put x (y.1,k,s)) a b=aU w a b:=fun a b ha hb tT oS=>dI hx _ ha hb tT oS
 have ex:∀b,0<aI w b→b≠x→aU w x b=true→aU (w.put x (y.1,k,s)) x b=true:=fun b hb oS h=>CK bQ hy gk hb oS h
 refine v1 (ae m2.own) ?_
 refine(cP m2.bY (x:=x) (fun hu=>by have:=CM.up l.bt hu;have:=m2.len;omega)).mono ?_
 rintro _ H3 ⟨rfl,L3,t3,l3,k3,u3,e3⟩
 have m3:=m2.dN t3 e3 l3
 have zU:ah S H H3:=re.trans (e3.mono fun z _ h=>h▸s1)
 unfold iw
 by_cases hu:bq L x= -1
 ·rw[if_pos hu]
  refine vs ?_
  have kk:bi L3=bi L:=by rw[k3];unfold kP;rw[if_pos hu]
  have uu:bq L3=bq L:=by
   rw[u3]
   funext z
   unfold c9 aK
   split
   ·rename_i e;rw[e,hu]
   ·rfl
  refine .inr ⟨CU,rfl,y,hy,cD.same ⟨B,C,L3,T,rfl,m3,?_,hS⟩ zU⟩
  rw[hw,kk,uu]
  exact l.Ur ec hu el ex (au w)
 rw[if_neg hu]
 refine vs ?_
 have bo:=l.low ec hu el ex (au w)
 rw[←hw,←k3,←u3]at bo
 refine(oT m3 _).mono ?_
 rintro _ H' ⟨rfl,e⟩
 obtain rfl:=e.symm
 refine vs ?_
 refine(oW m3 bo.mg).mono ?_
 rintro _ H4 ⟨r,L4,rfl,m4,g4,_,e4⟩
 refine vs ?_
 refine(oU m4 _ r).mono ?_
 rintro _ H5 ⟨m5,e5⟩
 refine vs ?_
 exact .inr ⟨CU,rfl,y,hy,cD.same ⟨B,C,L4,_,rfl,m5,bo.done g4,hS⟩ ((zU.trans (e4.mono fun z _ h=>by rcases h with h|rfl;exact hC z h;exact s1)).trans (e5.mono fun z _ h=>h▸s2))⟩
set_option maxRecDepth 100000 in
set_option maxHeartbeats 1000000 in
theorem EE{n:Nat}{H:Hp}{S:Nat→Prop}{w:Nw}(h:dU n H S w)(x:Int):ai Tryz.prog AA [ptr n,i64 x] H fun v H'=>ay (
  (¬cZ w.cs x∧v= .bool false∧cD (dU n) S H H' w)∨(cZ w.cs x∧v= .bool true∧cD (dU n) S H H' (w.put x (0,0,0)))):=by
 obtain⟨B,C,L,T,rfl,m,t,hS⟩:=id h
 have hC:∀z,C z→S z:=fun z h=>(hS z).2 (.inl h)
 have s1:S B.tl:=(hS _).2 (.inr (.inr (.inr (.inl rfl))))
 have s2:S B.mp:=(hS _).2 (.inr (.inr (.inr (.inr rfl))))
 refine ba Ba ⟨rfl,?_⟩
 refine v2 qq.eq_1 (ae m.own) ?_
 refine(dA m.cells x).mono ?_
 rintro _ H1 (⟨cw,rfl,rfl⟩| ⟨bQ,rfl,c1,e1⟩)
 ·refine vs ?_
  exact .inl ⟨cw,rfl,cD.same h (ah.refl _ _)⟩
 have m1:=m.aN c1 e1 rfl
 have ec:=bK.2 bQ
 obtain⟨ik,kj,_⟩:=aH ec
 have Ge:x≠ -1:=by omega
 have ls:=au w
 obtain⟨⟨d1,d2,d3⟩,⟨d4,d5⟩,d6⟩:=m.rl
 refine vs ?_
 refine rq.intro (fun H'=>H'.own B.n=some [ptr B.c,ptr B.t,.map (some B.mp)]) m1.own ?_
 refine vs ?_
 refine oQ.intro (ptr B.t) (fun H' hI=>by refine v1 (ae hI) ?_;trivial) ?_
 refine v1 (ae m1.own) ?_
 refine And.intro m1.own ?_
 refine vs ?_
 obtain⟨a1,b1,ea1⟩:=cQ (bi L x false)
 refine(oO m1.bY x).mono ?_
 rintro _ H' ⟨rfl,e⟩
 obtain rfl:=e.symm
 rw[ea1]
 refine And.intro m1.own ?_
 refine vs ?_
 refine(oV m1 t.bt ea1).mono ?_
 rintro _ H2 ⟨rfl,L2,m2,k2,u2,e2⟩
 refine And.intro m2.own ?_
 refine vs ?_
 have bt2:CM w L2:=by
  show Bt _ _ _ _
  rw[k2,u2];exact t.bt.Up _
 have er:bi L2 x true=bi L x true:=by
  rw[k2,pU t.bt,if_neg]
  rintro⟨h1,h2⟩
  exact h1 (t.bt.two x h2.symm)
 obtain⟨a2,b2,ea2⟩:=cQ (bi L2 x true)
 refine(cB m2.bY x).mono ?_
 rintro _ H' ⟨rfl,e⟩
 obtain rfl:=e.symm
 rw[ea2]
 refine And.intro m2.own ?_
 refine vs ?_
 refine(oV m2 bt2 ea2).mono ?_
 rintro _ H3 ⟨rfl,L3,m3,k3,u3,e3⟩
 refine And.intro m3.own ?_
 rw[er]at k3 u3
 rw[k2,u2]at k3
 rw[u2]at u3
 obtain⟨w1,w2,w3,w4⟩:=t.bt.bare x
 have hk:∀c,bi L x c= -1∨(aI w (bi L x c)=aI w x∧bq L3 (bi L x c)= -1):=fun c=>by
  by_cases hk:bi L x c= -1
  ·exact .inl hk
  ·refine .inr ⟨(t.bt.home hk).2.2.1,?_⟩
   rw[u3,w4,if_pos]
   cases c
   ·exact .inl rfl
   ·exact .inr rfl
 rw[←k3,←u3]at w1
 have mg:=Mg.start w1 ec (hk false) (hk true) (fun e=>t.bt.two x e)
 rw[er]
 refine vs ?_
 refine(oW m3 mg).mono ?_
 rintro _ H4 ⟨r,L4,rfl,m4,g4,f4,e4⟩
 refine And.intro m4.own ?_
 refine vs ?_
 have f4:=f4 x (yB.start (fun hk=>(t.bt.home hk).2.2.2.2) (fun hk=>(t.bt.home hk).2.2.2.2))
 have d:=t.VQ ls ec k3 u3 g4 f4
 have zE:ah S H H4:=(((e1.mono fun z _ h=>hC z h).trans (e2.mono fun z _ h=>h▸s1)).trans (e3.mono fun z _ h=>h▸s1)).trans (e4.mono fun z _ h=>by rcases h with h|rfl;exact hC z h;exact s1)
 have cV:=fun y=>eC (w:=w) ⟨ik,kj⟩ (0,0,0) y
 have p0:aI (w.put x (0,0,0)) (-1)=0:=rfl
 have p1:aI (w.put x (0,0,0)) x=0:=by rw[cV,if_pos rfl]
 have p2:∀y,y≠x→aI (w.put x (0,0,0)) y=aI w y:=fun y hy=>by rw[cV,if_neg hy]
 have el:∀a b,0<aI w a→0<aI w b→a≠x→b≠x→aU (w.put x (0,0,0)) a b=aU w a b:=fun a b ha hb tT oS=>dI ⟨ik,kj⟩ _ ha hb tT oS
 have rG:(w.put x (0,0,0)).cs.length=w.cs.length:=by simp[Nw.put]
 refine v1 (ae m4.own) ?_
 refine(sw m4.bY x).mono ?_
 rintro _ H' ⟨rfl,e⟩
 obtain rfl:=e.symm
 rw[d.ux]
 unfold iw
 by_cases hu:bq L x= -1
 ·rw[if_pos hu]
  refine vs ?_
  refine(oU m4 _ r).mono ?_
  rintro _ H5 ⟨m5,e5⟩
  refine v1 (ae m5.own) ?_
  refine(ck m5.cells x).mono ?_
  rintro _ H6 (⟨cw,_,_⟩| ⟨_,rfl,c6,e6⟩)
  ·exact absurd bQ cw
  have m6:=m5.aN c6 e6 rG
  refine vs ?_
  exact .inr ⟨bQ,rfl,cD.same ⟨B,C,L4,_,rfl,m6,d.PZ t ec hu p0 p1 p2 el,hS⟩ ((zE.trans (e5.mono fun z _ h=>h▸s2)).trans (e6.mono fun z _ h=>hC z h))⟩
 ·rw[if_neg hu]
  have Fh:=CM.up t.bt hu
  obtain⟨w5,w6⟩:=d.cut t ls ec hu
  obtain⟨a3,b3,Zm⟩:=cQ (bi L4 (bq L x) true)
  refine v1 (ae m4.own) ?_
  refine(cB m4.bY (bq L x)).mono ?_
  rintro _ H' ⟨rfl,e⟩
  obtain rfl:=e.symm
  rw[Zm]
  refine v1 (ae m4.own) ?_
  refine(cP m4.bY (x:=x) (fun Xj=>by have:=CM.up d.bt Xj;have:=m4.len;omega)).mono ?_
  rintro _ H5 ⟨rfl,L5,t5,l5,k5,u5,e5⟩
  have m5:=m4.dN t5 e5 l5
  refine vs ?_
  have Wd:=zE.trans (e5.mono fun z _ h=>h▸s1)
  refine am.dec (fun g=>?_) (fun g=>?_)<;>refine vs ?_
  ·refine v1 (ae m5.own) ?_
   refine(ck m5.cells x).mono ?_
   rintro _ H8 (⟨cw,_,_⟩| ⟨_,rfl,c8,e8⟩)
   ·exact absurd bQ cw
   have m8:=m5.aN c8 e8 rG
   refine vs ?_
   have b6:CM w L5:=by
    show Bt _ _ _ _
    rw[k5,u5];exact w5 g
   refine .inr ⟨bQ,rfl,cD.same ⟨B,C,L5,T,rfl,m8,?_,hS⟩ (Wd.trans (e8.mono fun z _ h=>hC z h))⟩
   exact d.below t ls (n:=w.cs.length) (fun y hy=>by obtain⟨y0,y1,_⟩:=aH hy;exact⟨y0,y1⟩) ec hu b6 (by rw[if_pos g];exact u5) p0 p1 p2 el
  ·obtain⟨y1,y2,y3,y4⟩:=w6 g
   obtain⟨r1,r2,r3,r4⟩:=d.rx g
   obtain⟨q1,q2,_⟩:=aH (w:=w) (x:=r) (by omega)
   have hl5:=m5.len
   rw[d.kp _ true rfl hu]at Zm
   rcases MH Zm with ⟨rfl,h2⟩| ⟨rfl,rfl,h3⟩
   ·have W5:false=(bi L (bq L x) true==x):=by
     rw[h2]
     exact(beq_eq_false_iff_ne.2 (Ne.symm Ge)).symm
    refine v1 (ae m5.own) ?_
    refine(fG m5.bY (p:=bq L x) (x:=r) (c:=false) ⟨Fh.1,by omega⟩ ⟨q1,by omega⟩ y3 (by rw[u5];exact y2) (by rw[k5,W5];exact y1)).mono ?_
    rintro _ H6 ⟨rfl,L6,t6,l6,k6,SR,e6⟩
    have m6:=m5.dN t6 e6 l6
    have RJ:=Wd.trans (e6.mono fun z _ h=>h▸s1)
    rw[k5]at k6
    rw[u5]at SR
    rw[W5]at k6
    have b6:CM w L6:=by
     show Bt _ _ _ _
     rw[k6,SR];exact y4
    have u6:bq L6=if r= -1 then c9 (bq L4) x else aK (c9 (bq L4) x) r (bq L x):=by rw[if_neg g];exact SR
    refine v1 (ae m6.own) ?_
    refine(ck m6.cells x).mono ?_
    rintro _ H8 (⟨cw,_,_⟩| ⟨_,rfl,c8,e8⟩)
    ·exact absurd bQ cw
    have m8:=m6.aN c8 e8 rG
    refine vs ?_
    refine .inr ⟨bQ,rfl,cD.same ⟨B,C,L6,T,rfl,m8,?_,hS⟩ (RJ.trans (e8.mono fun z _ h=>hC z h))⟩
    exact d.below t ls (n:=w.cs.length) (fun y hy=>by obtain⟨y0,y1,_⟩:=aH hy;exact⟨y0,y1⟩) ec hu b6 u6 p0 p1 p2 el
   ·have W5:decide (bi L (bq L x) true=x)=(bi L (bq L x) true==x):=by rw[Bool.eq_iff_iff];simp
    refine v1 (ae m5.own) ?_
    refine(fG m5.bY (p:=bq L x) (x:=r) (c:=decide (bi L (bq L x) true=x)) ⟨Fh.1,by omega⟩ ⟨q1,by omega⟩ y3 (by rw[u5];exact y2) (by rw[k5,W5];exact y1)).mono ?_
    rintro _ H6 ⟨rfl,L6,t6,l6,k6,SR,e6⟩
    have m6:=m5.dN t6 e6 l6
    have RJ:=Wd.trans (e6.mono fun z _ h=>h▸s1)
    rw[k5]at k6
    rw[u5]at SR
    rw[W5]at k6
    have b6:CM w L6:=by
     show Bt _ _ _ _
     rw[k6,SR];exact y4
    have u6:bq L6=if r= -1 then c9 (bq L4) x else aK (c9 (bq L4) x) r (bq L x):=by rw[if_neg g];exact SR
    refine v1 (ae m6.own) ?_
    refine(ck m6.cells x).mono ?_
    rintro _ H8 (⟨cw,_,_⟩| ⟨_,rfl,c8,e8⟩)
    ·exact absurd bQ cw
    have m8:=m6.aN c8 e8 rG
    refine vs ?_
    refine .inr ⟨bQ,rfl,cD.same ⟨B,C,L6,T,rfl,m8,?_,hS⟩ (RJ.trans (e8.mono fun z _ h=>hC z h))⟩
    exact d.below t ls (n:=w.cs.length) (fun y hy=>by obtain⟨y0,y1,_⟩:=aH hy;exact⟨y0,y1⟩) ec hu b6 u6 p0 p1 p2 el
theorem C5{n:Nat}{H:Hp}{S:Nat→Prop}{w:Nw}(h:dU n H S w)(g:Int):ai Tryz.prog pk [ptr n,i64 g] H fun v H'=>ay (
  (w.len g=0∧v= .tuple [i64 0,.bool false].toArray∧cD (dU n) S H H' w)∨(∃x,w.first g x∧v= .tuple [i64 x,.bool true].toArray∧cD (dU n) S H H' (w.put x (0,0,0)))):=by
 refine ba zA ⟨rfl,?_⟩
 refine v1 iY.eq_1 ?_
 refine(Ab h g).mono ?_
 rintro _ _ ⟨⟨h0,rfl⟩| ⟨x,hx,rfl⟩,rfl⟩
 ·refine vs ?_
  exact .inl ⟨h0,rfl,cD.same h (ah.refl _ _)⟩
 ·refine vs ?_
  refine(EE h x).mono ?_
  rintro _ H1 (⟨cw,_,_⟩| ⟨_,rfl,h1⟩)
  ·exact absurd (bK.1 (by have:=bO.1 hx;omega)) cw
  refine vs ?_
  exact .inr ⟨x,hx,rfl,h1⟩
theorem QX(n:Nat):zW (.iface 214 (ptr n)) (dU n) where
 slt h:=h.slt
 ext h e hd:=h.ext e hd
 cells:=by
  rintro H S w ⟨B,C,L,T,rfl,m,l,hS⟩
  exact⟨B.c,C,m.cells⟩
 has:=by
  rintro H S w g ⟨B,C,L,T,rfl,m,l,hS⟩
  exact⟨_,_,bF,ptr B.c,rfl,hX (off:=0) (by kernel_rfl) (ae m.own) rfl,(kJ m.cells g).mono fun v H' hp=>hp⟩
 make:=by
  rintro H S w ⟨B,C,L,T,rfl,m,l,hS⟩
  exact⟨_,_,dF,ptr B.c,rfl,hX (off:=0) (by kernel_rfl) (ae m.own) rfl,(HK m l rfl hS).mono fun v H' hp=>hp⟩
 insert:=by
  intro H S w g x k s h
  exact⟨_,_,qd,ptr n,rfl,bE (by kernel_rfl),(ED h g x k s).mono fun v H' hp=>hp⟩
 min:=by
  intro H S w g h
  refine⟨_,_,vj,ptr n,rfl,bE (by kernel_rfl),(Ab h g).mono ?_⟩
  rintro v H' ⟨⟨h1,rfl⟩| ⟨x,h1,rfl⟩,rfl⟩
  ·exact .inl ⟨h1,rfl,cD.same h (ah.refl _ _)⟩
  ·exact .inr ⟨x,h1,rfl,cD.same h (ah.refl _ _)⟩
 extract:=by
  intro H S w g h
  exact⟨_,_,pk,ptr n,rfl,bE (by kernel_rfl),(C5 h g).mono fun v H' hp=>hp⟩
 qG:=by
  intro H S w x k s h
  exact⟨_,_,nF,ptr n,rfl,bE (by kernel_rfl),(Bx h x k s).mono fun v H' hp=>hp⟩
 entry:=by
  rintro H S w x ⟨B,C,L,T,rfl,m,l,hS⟩
  refine⟨_,_,bj,ptr B.c,rfl,hX (off:=0) (by kernel_rfl) (ae m.own) rfl,(jn m.cells x).mono ?_⟩
  rintro v H' ⟨c1,f,hv⟩
  exact⟨⟨B,C,L,T,rfl,m.fresh f,l,hS⟩,f,hv⟩
structure PB where
 n:Nat
 c:Nat
 tb:Nat
 tp:Nat
structure bS(H:Hp)(B:PB)(C:Nat→Prop)(w:Nw)(L:List Lk)(tops:List Int):Prop where
 own:∃tv,H.own B.n=some [ptr B.c,.slice (some ⟨B.tb,0,none⟩) L.length L.length,tv]∧Sl H 1 tv tops.length (tops.map i64) (some B.tp)
 cells:CQ H B.c C w
 fI:H.own B.tb=some (aQ L)
 len:L.length=w.cs.length
 rl:B.n≠B.tb∧B.n≠B.tp∧B.tb≠B.tp
 out:¬C B.n∧¬C B.tb∧¬C B.tp
def PB.S(B:PB)(C:Nat→Prop)(z:Nat):Prop:=C z∨z=B.n∨z=B.tb∨z=B.tp
section
variable {H H' : Hp} {B : PB} {C V : Nat → Prop} {w w' : Nw} {L L' : List Lk} {tops : List Int}
theorem bS.slt(h:bS H B C w L tops):∀z,B.S C z→z<H.size:=by
 obtain⟨tv,h1,h2⟩:=h.own
 rintro z (hz|rfl|rfl|rfl)
 ·exact h.cells.slt z hz
 ·exact aG h1
 ·exact aG h.fI
 ·exact h2.lt
theorem bS.ext(h:bS H B C w L tops)(e:ah V H H')(hd:∀z,B.S C z→¬V z):bS H' B C w L tops:=by
 obtain⟨tv,h1,h2⟩:=h.own
 exact⟨⟨tv,e.own h1 (hd _ (.inr (.inl rfl))),h2.ext e (fun b hb=>by injection hb with hb;exact hb▸hd _ (.inr (.inr (.inr rfl))))⟩,h.cells.ext e (fun x hx=>hd x (.inl hx)),
  e.own h.fI (hd _ (.inr (.inr (.inl rfl)))),h.len,h.rl,h.out⟩
theorem bS.fresh(h:bS H B C w L tops)(e:aq H H'):bS H' B C w L tops:=h.ext e fun _ _ h=>h
theorem bS.aN(h:bS H B C w L tops)(c1:CQ H' B.c C w')(e:ah C H H')(hl:w'.cs.length=w.cs.length):bS H' B C w' L tops:=by
 obtain⟨tv,h1,h2⟩:=h.own
 obtain⟨o1,o2,o3⟩:=h.out
 exact⟨⟨tv,e.own h1 o1,h2.ext e (fun b hb=>by injection hb with hb;exact hb▸o3)⟩,c1,e.own h.fI o2,by rw[hl];exact h.len,h.rl,h.out⟩
theorem bS.PO(h:bS H B C w L tops)(hl:L'.length=L.length):bS (H.wr B.tb (aQ L')) B C w L' tops∧ah (fun z=>z=B.tb) H (H.wr B.tb (aQ L')):=by
 obtain⟨tv,h1,h2⟩:=h.own
 obtain⟨o1,o2,o3⟩:=h.out
 obtain⟨d1,d2,d3⟩:=h.rl
 have e:ah (fun z=>z=B.tb) H (H.wr B.tb (aQ L')):=(ah.refl (fun z=>z=B.tb) _).wr (fun _=>rfl) _
 exact⟨⟨⟨tv,by rw[hl];exact e.own h1 d1,h2.ext e (fun b hb=>by injection hb with hb;omega)⟩,h.cells.ext e (fun x hx hz=>o2 (hz▸hx)),aj h.fI,by rw[hl];exact h.len,h.rl,h.out⟩,e⟩
theorem bS.hG(h:bS H B C w L tops):∃c l,H.own B.n=some [ptr B.c,.slice (some ⟨B.tb,0,none⟩) L.length L.length,.slice (some ⟨B.tp,0,none⟩) tops.length c]∧H.own B.tp=some l∧tops.length≤c∧c≤l.length∧l.take tops.length=tops.map i64:=by
 obtain⟨tv,h1,_,l,c,rfl,h3,h4,h5,h6⟩:=h.own
 rw[anD]at h5 h6
 exact⟨c,l,h1,h3,h4,h5,h6⟩
theorem bS.fB(h:bS H B C w L tops){l:List Value}(hl:H.own B.tp=some l){i:Nat}{x:Int}(hx:tops[i]? =some x):l[i]? =some (i64 x):=by
 obtain⟨c,l',_,h2,_,_,h5⟩:=h.hG
 rw[hl]at h2
 injection h2 with h2
 subst h2
 have h7:(tops.map i64)[i]? =some (i64 x):=by rw[anT,hx];rfl
 rw[←h5,aob]at h7
 split at h7
 ·exact h7
 ·cases h7
theorem bS.nS(h:bS H B C w L tops){l:List Value}(hl:H.own B.tp=some l)(i:Nat)(v:Int):bS (H.wr B.tp (l.set i (i64 v))) B C w L (tops.set i v)∧ah (fun z=>z=B.tp) H (H.wr B.tp (l.set i (i64 v))):=by
 obtain⟨c,l',h1,h2,h3,h4,h5⟩:=h.hG
 rw[hl]at h2
 injection h2 with h2
 subst h2
 obtain⟨o1,o2,o3⟩:=h.out
 obtain⟨d1,d2,d3⟩:=h.rl
 have e:ah (fun z=>z=B.tp) H (H.wr B.tp (l.set i (i64 v))):=(ah.refl (fun z=>z=B.tp) _).wr (fun _=>rfl) _
 refine⟨⟨⟨_,e.own h1 d2,?_⟩,h.cells.ext e (fun x hx hz=>o3 (hz▸hx)),e.own h.fI d3,h.len,h.rl,h.out⟩,e⟩
 refine⟨by simp,l.set i (i64 v),c,by rw[anC],aj hl,by rw[anC];exact h3,by rw[anC,anD];exact h4,?_⟩
 rw[anC,anD,yo,h5,aoo]
theorem bS.rd(h:bS H B C w L tops){x:Int}(hx:0≤x∧x<w.cs.length):x.toNat*3+2< (aQ L).length∧(aQ L)[x.toNat*3]? =some (i64 (bi L x false))∧(aQ L)[x.toNat*3+1]? =some (i64 (bi L x true))∧(aQ L)[x.toNat*3+2]? =some (i64 (bq L x)):=by
 have hl:=h.len
 have hf:=kK L
 obtain⟨y,hy⟩:∃y,L[x.toNat]? =some y:=⟨_,anx (by omega)⟩
 obtain⟨h1,h2,h3⟩:=Pw hy
 rw[sr hx.1 hy,sr hx.1 hy,xD hx.1 hy]
 exact⟨by omega,h1,h2,h3⟩
theorem bS.Oz(h:bS H B C w L tops){x:Int}(hx:0≤x∧x<w.cs.length)(v:Int):∃L',bi L'=eG (bi L) x false v∧bq L'=bq L∧bS (H.wr B.tb ((aQ L).set (x.toNat*3) (i64 v))) B C w L' tops∧ah (fun z=>z=B.tb) H (H.wr B.tb ((aQ L).set (x.toNat*3) (i64 v))):=by
 have hl:=h.len
 obtain⟨y,hy⟩:∃y,L[x.toNat]? =some y:=⟨_,anx (by omega)⟩
 refine⟨L.set x.toNat (y.gY false v),uO hx.1 hy false v,uP hx.1 hy false v,?_⟩
 have:=yn hy false v
 rw[show x.toNat*3+false.toNat=x.toNat*3 from rfl]at this
 rw[this]
 exact h.PO (anC ..)
theorem bS.OG(h:bS H B C w L tops){x:Int}(hx:0≤x∧x<w.cs.length)(v:Int):∃L',bi L'=eG (bi L) x true v∧bq L'=bq L∧bS (H.wr B.tb ((aQ L).set (x.toNat*3+1) (i64 v))) B C w L' tops∧ah (fun z=>z=B.tb) H (H.wr B.tb ((aQ L).set (x.toNat*3+1) (i64 v))):=by
 have hl:=h.len
 obtain⟨y,hy⟩:∃y,L[x.toNat]? =some y:=⟨_,anx (by omega)⟩
 refine⟨L.set x.toNat (y.gY true v),uO hx.1 hy true v,uP hx.1 hy true v,?_⟩
 have:=yn hy true v
 rw[show x.toNat*3+true.toNat=x.toNat*3+1 from rfl]at this
 rw[this]
 exact h.PO (anC ..)
theorem bS.KV(h:bS H B C w L tops){x:Int}(hx:0≤x∧x<w.cs.length)(v:Int):∃L',bi L'=bi L∧bq L'=aK (bq L) x v∧bS (H.wr B.tb ((aQ L).set (x.toNat*3+2) (i64 v))) B C w L' tops∧ah (fun z=>z=B.tb) H (H.wr B.tb ((aQ L).set (x.toNat*3+2) (i64 v))):=by
 have hl:=h.len
 obtain⟨y,hy⟩:∃y,L[x.toNat]? =some y:=⟨_,anx (by omega)⟩
 refine⟨L.set x.toNat ⟨y.a,y.b,v⟩,Ed hx.1 hy v,Ee hx.1 hy v,?_⟩
 rw[G9 hy v]
 exact h.PO (anC ..)
variable {g : Int} {R : Int → Prop} {Iz ch : Int → List Int} {par : Int → Int} {W : List Int} {a b : Int}
theorem di(m:bS H B C w L tops)(pw:EV (aI w) (aU w) g R Iz ch par (ws [a,b]++W))(pl:J9 (bi L) (bq L) ch par):
  ai Tryz.prog yN [ptr B.n,i64 a,i64 b] H fun v H'=>ay (∃r L' dV bH,v=i64 r∧(r= -1→a= -1∧b= -1)∧bS H' B C w L' tops∧EV (aI w) (aU w) g R Iz dV bH (ws [r]++W)∧J9 (bi L') (bq L') dV bH∧ah (fun z=>C z∨z=B.tb) H H'):=by
 refine ba zq ⟨rfl,?_⟩
 refine v1 iQ.eq_1 ?_
 rw[pG,ed a,ed b]at pw
 refine am.dec (fun ga=>?_) (fun ga=>?_)<;>refine vs ?_
 ·rw[if_pos ga]at pw
  rw[←ed b]at pw
  exact⟨b,L,ch,par,rfl,fun h=>⟨ga,h⟩,m,pw,pl,ah.refl _ _⟩
 rw[if_neg ga]at pw
 refine am.dec (fun gb=>?_) (fun gb=>?_)<;>refine vs ?_
 ·rw[if_pos gb]at pw
  exact⟨a,L,ch,par,rfl,fun h=>⟨h,gb⟩,m,by rw[ed,if_neg ga];exact pw,pl,ah.refl _ _⟩
 rw[if_neg gb]at pw
 obtain⟨tv,o1,_⟩:=m.own
 refine v1 (ae o1) ?_
 refine(cK m.cells b a).mono ?_
 rintro _ H2 ⟨rfl,c2,e2⟩
 have m2:=m.aN c2 e2 rfl
 have Vi:EV (aI w) (aU w) g R Iz ch par (a::b::W):=pw
 obtain⟨a1,a2,a3⟩:=Vi.wm a (by simp)
 obtain⟨b1,b2,b3⟩:=Vi.wm b (by simp)
 have ye:=jp (w:=w) (a:=b) (b:=a) (by rw[b2];exact Vi.g0) (by rw[a2];exact Vi.g0)
 rw[ye]
 have aS:a≠b:=fun e=>by have:=Vi.nd;rw[e]at this;simp at this
 obtain⟨p,q,Pf,hl,pw2⟩:∃p q,(if aU w b a=true then(p=b∧q=a)else(p=a∧q=b))∧aU w p q=true∧EV (aI w) (aU w) g R Iz ch par (p::q::W):=by
  cases aR:aU w b a
  ·exact⟨a,b,by simp,((au w).Pj a b aS).resolve_right (by rw[aR];simp),Vi⟩
  ·exact⟨b,a,by simp,aR,Vi.perm (List.Perm.swap ..)⟩
 obtain⟨p1,p2,p3⟩:=pw2.wm p (by simp)
 obtain⟨q1,q2,q3⟩:=pw2.wm q (by simp)
 have ago:p≠q:=fun e=>by rw[e,(au w).yf]at hl;cases hl
 have pw3:=pw2.link hl
 have Ug:=pl.link pw2.pr p1 q3 ago
 obtain⟨px,py,_⟩:=aH (w:=w) (x:=p) (by rw[p2];exact Vi.g0)
 obtain⟨qx,qy,_⟩:=aH (w:=w) (x:=q) (by rw[q2];exact Vi.g0)
 have hold:bi L p false≠ -1→0≤bi L p false∧bi L p false<w.cs.length:=fun h=>by
  have h1:bi L p false∈ch p:=by rw[pl.hd]at h ⊢;exact eI h
  have h2:=(pw2.pr.dn p _ h1).2.2.2.1
  obtain⟨z0,z1,_⟩:=aH h2
  exact⟨z0,z1⟩
 have bv:=m2.len
 have ws1:ws [p]=[p]:=by rw[ed,if_neg p1]
 cases aR:aU w b a<;>simp only[aR,if_true,if_false,aoQ]at Pf<;>obtain⟨rfl,rfl⟩:=Pf<;>refine vs ?_
 all_goals
  obtain⟨Og,o2,_⟩:=m2.own
  obtain⟨r0,r1,r2,r3⟩:=m2.rd ⟨px,py⟩
  refine v1 (ae o2) ?_
  refine⟨⟨by omega,by omega⟩,?_⟩
  refine v4 (ae m2.fI) anB Nat.add_zero r1 ?_
  refine v1 (ae o2) ?_
  refine⟨⟨by omega,by omega⟩,?_⟩
  obtain⟨L3,k3,u3,m3,e3⟩:=m2.OG ⟨qx,qy⟩ (bi L p false)
  obtain⟨s0,_⟩:=m2.rd ⟨qx,qy⟩
  refine v3 m2.fI anB Nat.add_zero ?_
  refine⟨by omega,?_⟩
  refine vs ?_
  generalize H2.wr B.tb ((aQ L).set (q.toNat*3+1) (i64 (bi L p false)))=H3 at*
  obtain⟨L4,k4,u4,m4,e4⟩:=m3.KV ⟨qx,qy⟩ p
  obtain⟨s4,_⟩:=m3.rd ⟨qx,qy⟩
  refine⟨⟨by omega,by omega⟩,?_⟩
  refine v3 m3.fI anB Nat.add_zero ?_
  refine⟨by omega,?_⟩
  refine vs ?_
  generalize H3.wr B.tb ((aQ L3).set (q.toNat*3+2) (i64 p))=H4 at*
  have e24:ah (fun z=>C z∨z=B.tb) H H4:=((e2.mono fun z _ h=>.inl h).trans (e3.mono fun z _ h=>.inr h)).trans (e4.mono fun z _ h=>.inr h)
  have XB:=m4.len
  refine am.dec (fun go=>?_) (fun go=>?_)<;>refine vs ?_
  ·obtain⟨tv4,o4,_⟩:=m4.own
   obtain⟨L5,k5,u5,m5,e5⟩:=m4.Oz ⟨px,py⟩ q
   obtain⟨s5,_⟩:=m4.rd ⟨px,py⟩
   refine v1 (ae o4) ?_
   refine⟨⟨by omega,by omega⟩,?_⟩
   refine v3 m4.fI anB Nat.add_zero ?_
   refine⟨by omega,?_⟩
   refine vs ?_
   refine⟨p,L5,_,_,rfl,fun h=>absurd h p1,m5,by rw[ws1];exact pw3,?_,e24.trans (e5.mono fun z _ h=>.inr h)⟩
   rw[if_pos go]at Ug
   rw[k5,u5,k4,u4,k3,u3]
   exact Ug
  ·obtain⟨tv4,o4,_⟩:=m4.own
   obtain⟨ox,oy⟩:=hold go
   obtain⟨L5,k5,u5,m5,e5⟩:=m4.KV ⟨ox,oy⟩ q
   obtain⟨s5,_⟩:=m4.rd ⟨ox,oy⟩
   refine v1 (ae o4) ?_
   refine⟨⟨by omega,by omega⟩,?_⟩
   refine v3 m4.fI anB Nat.add_zero ?_
   refine⟨by omega,?_⟩
   refine vs ?_
   generalize H4.wr B.tb ((aQ L4).set ((bi L p false).toNat*3+2) (i64 q))=H5 at*
   obtain⟨tv5,o5,_⟩:=m5.own
   have hl5:=m5.len
   obtain⟨L6,k6,u6,m6,e6⟩:=m5.Oz ⟨px,py⟩ q
   obtain⟨s6,_⟩:=m5.rd ⟨px,py⟩
   refine v1 (ae o5) ?_
   refine⟨⟨by omega,by omega⟩,?_⟩
   refine v3 m5.fI anB Nat.add_zero ?_
   refine⟨by omega,?_⟩
   refine vs ?_
   refine⟨p,L6,_,_,rfl,fun h=>absurd h p1,m6,by rw[ws1];exact pw3,?_,(e24.trans (e5.mono fun z _ h=>.inr h)).trans (e6.mono fun z _ h=>.inr h)⟩
   rw[if_neg go]at Ug
   rw[k6,u6,k5,u5,k4,u4,k3,u3]
   exact Ug
theorem tI(m:bS H B C w L tops){lt:Int→Int→Bool}(hs:bC lt)(q:Pr (aI w) lt ch par)(pl:J9 (bi L) (bq L) ch par){p x:Int}{l1 l2:List Int}(hp:ch p=l1++x::l2):
  ai Tryz.prog Aw [ptr B.n,i64 x] H fun v H'=>ay (∃L',bS H' B C w L' tops∧J9 (bi L') (bq L') (aA ch p (l1++l2)) (aK par x (-1))∧ah (fun z=>z=B.tb) H H'):=by
 obtain⟨f1,f2,f7,f3,f4,f5,f6⟩:=pl.off q hs hp
 have hx:=(q.dn p x (by rw[hp];simp)).2.2.2.1
 obtain⟨x0,x1,_⟩:=aH hx
 obtain⟨y0,y1,_⟩:=aH (w:=w) (x:=bq L x) (by omega)
 obtain⟨tv,o1,_⟩:=m.own
 obtain⟨r0,r1,r2,r3⟩:=m.rd ⟨x0,x1⟩
 obtain⟨t0,t1,t2,t3⟩:=m.rd ⟨y0,y1⟩
 have hl:=m.len
 refine ba A4 ⟨rfl,?_⟩
 refine v2 jW.eq_1 (ae o1) ?_
 refine⟨⟨by omega,by omega⟩,?_⟩
 refine v5 (ae o1) (ae m.fI) anB Nat.add_zero r3 ?_
 refine⟨⟨by omega,by omega⟩,?_⟩
 refine v4 (ae m.fI) anB Nat.add_zero t1 ?_
 have bx:bq L x≠x:=f7
 refine am.dec (fun g=>?_) (fun g=>?_)<;>refine vs ?_
 ·have vF:=f1.1 g
  rw[if_pos vF]at f6
  refine v6 (ae o1) (ae m.fI) anB Nat.add_zero r2 r3 ?_
  refine⟨⟨by omega,by omega⟩,?_⟩
  obtain⟨L1,k1,u1,m1,e1⟩:=m.Oz ⟨y0,y1⟩ (bi L x true)
  refine v3 m.fI anB Nat.add_zero ?_
  refine⟨by omega,?_⟩
  refine vs ?_
  generalize H.wr B.tb ((aQ L).set ((bq L x).toNat*3) (i64 (bi L x true)))=H1 at*
  obtain⟨s0,s1,s2,s3⟩:=m1.rd ⟨x0,x1⟩
  have vF:=m1.len
  obtain⟨Eg,o1,_⟩:=m1.own
  have en:bi L1 x true=bi L x true:=by
   rw[k1]
   unfold eG
   rw[if_neg (by simp[bx.symm])]
  have eu:bq L1 x=bq L x:=by rw[u1]
  rw[en]at s2
  rw[eu]at s3
  refine v4 (ae m1.fI) anB Nat.add_zero s2 ?_
  refine am.dec (fun gn=>?_) (fun gn=>?_)<;>refine vs ?_
  ·obtain⟨L2,k2,u2,m2,e2⟩:=m1.OG ⟨x0,x1⟩ (-1)
   refine v3 m1.fI anB Nat.add_zero ?_
   refine⟨by omega,?_⟩
   obtain⟨v0,_⟩:=m2.rd ⟨x0,x1⟩
   obtain⟨L3,k3,u3,m3,e3⟩:=m2.KV ⟨x0,x1⟩ (-1)
   refine vs ?_
   generalize H1.wr B.tb ((aQ L1).set (x.toNat*3+1) (Value.int .i64 (-1)))=H2 at*
   refine v3 m2.fI anB Nat.add_zero ?_
   refine⟨by omega,?_⟩
   refine vs ?_
   refine⟨L3,m3,?_,(e1.trans e2).trans e3⟩
   rw[if_pos gn]at f6
   rw[k3,u3,k2,u2,k1,u1]
   exact f6
  ·obtain⟨z0,z1,_⟩:=aH (w:=w) (x:=bi L x true) (by rw[f5 gn];exact hx)
   obtain⟨v0,_⟩:=m1.rd ⟨z0,z1⟩
   refine v6 (ae o1) (ae m1.fI) anB Nat.add_zero s2 s3 ?_
   refine⟨⟨by omega,by omega⟩,?_⟩
   obtain⟨L2,k2,u2,m2,e2⟩:=m1.KV ⟨z0,z1⟩ (bq L x)
   refine v3 m1.fI anB Nat.add_zero ?_
   refine⟨by omega,?_⟩
   refine vs ?_
   generalize H1.wr B.tb ((aQ L1).set ((bi L x true).toNat*3+2) (i64 (bq L x)))=H2 at*
   obtain⟨v1,_⟩:=m2.rd ⟨x0,x1⟩
   obtain⟨L3,k3,u3,m3,e3⟩:=m2.OG ⟨x0,x1⟩ (-1)
   refine v3 m2.fI anB Nat.add_zero ?_
   refine⟨by omega,?_⟩
   obtain⟨v2,_⟩:=m3.rd ⟨x0,x1⟩
   obtain⟨L4,k4,u4,m4,e4⟩:=m3.KV ⟨x0,x1⟩ (-1)
   refine vs ?_
   generalize H2.wr B.tb ((aQ L2).set (x.toNat*3+1) (Value.int .i64 (-1)))=H3 at*
   refine v3 m3.fI anB Nat.add_zero ?_
   refine⟨by omega,?_⟩
   refine vs ?_
   refine⟨L4,m4,?_,((e1.trans e2).trans e3).trans e4⟩
   rw[if_neg gn]at f6
   rw[k4,u4,k3,u3,k2,u2,k1,u1]
   exact f6
 ·have vF:l1≠[]:=fun h=>g (f1.2 h)
  rw[if_neg vF]at f6
  refine v6 (ae o1) (ae m.fI) anB Nat.add_zero r2 r3 ?_
  refine⟨⟨by omega,by omega⟩,?_⟩
  obtain⟨L1,k1,u1,m1,e1⟩:=m.OG ⟨y0,y1⟩ (bi L x true)
  refine v3 m.fI anB Nat.add_zero ?_
  refine⟨by omega,?_⟩
  refine vs ?_
  generalize H.wr B.tb ((aQ L).set ((bq L x).toNat*3+1) (i64 (bi L x true)))=H1 at*
  obtain⟨s0,s1,s2,s3⟩:=m1.rd ⟨x0,x1⟩
  have vF:=m1.len
  obtain⟨Eg,o1,_⟩:=m1.own
  have en:bi L1 x true=bi L x true:=by
   rw[k1]
   unfold eG
   rw[if_neg (by simp[bx.symm])]
  have eu:bq L1 x=bq L x:=by rw[u1]
  rw[en]at s2
  rw[eu]at s3
  refine v4 (ae m1.fI) anB Nat.add_zero s2 ?_
  refine am.dec (fun gn=>?_) (fun gn=>?_)<;>refine vs ?_
  ·obtain⟨L2,k2,u2,m2,e2⟩:=m1.OG ⟨x0,x1⟩ (-1)
   refine v3 m1.fI anB Nat.add_zero ?_
   refine⟨by omega,?_⟩
   obtain⟨v0,_⟩:=m2.rd ⟨x0,x1⟩
   obtain⟨L3,k3,u3,m3,e3⟩:=m2.KV ⟨x0,x1⟩ (-1)
   refine vs ?_
   generalize H1.wr B.tb ((aQ L1).set (x.toNat*3+1) (Value.int .i64 (-1)))=H2 at*
   refine v3 m2.fI anB Nat.add_zero ?_
   refine⟨by omega,?_⟩
   refine vs ?_
   refine⟨L3,m3,?_,(e1.trans e2).trans e3⟩
   rw[if_pos gn]at f6
   rw[k3,u3,k2,u2,k1,u1]
   exact f6
  ·obtain⟨z0,z1,_⟩:=aH (w:=w) (x:=bi L x true) (by rw[f5 gn];exact hx)
   obtain⟨v0,_⟩:=m1.rd ⟨z0,z1⟩
   refine v6 (ae o1) (ae m1.fI) anB Nat.add_zero s2 s3 ?_
   refine⟨⟨by omega,by omega⟩,?_⟩
   obtain⟨L2,k2,u2,m2,e2⟩:=m1.KV ⟨z0,z1⟩ (bq L x)
   refine v3 m1.fI anB Nat.add_zero ?_
   refine⟨by omega,?_⟩
   refine vs ?_
   generalize H1.wr B.tb ((aQ L1).set ((bi L x true).toNat*3+2) (i64 (bq L x)))=H2 at*
   obtain⟨v1,_⟩:=m2.rd ⟨x0,x1⟩
   obtain⟨L3,k3,u3,m3,e3⟩:=m2.OG ⟨x0,x1⟩ (-1)
   refine v3 m2.fI anB Nat.add_zero ?_
   refine⟨by omega,?_⟩
   obtain⟨v2,_⟩:=m3.rd ⟨x0,x1⟩
   obtain⟨L4,k4,u4,m4,e4⟩:=m3.KV ⟨x0,x1⟩ (-1)
   refine vs ?_
   generalize H2.wr B.tb ((aQ L2).set (x.toNat*3+1) (Value.int .i64 (-1)))=H3 at*
   refine v3 m3.fI anB Nat.add_zero ?_
   refine⟨by omega,?_⟩
   refine vs ?_
   refine⟨L4,m4,?_,((e1.trans e2).trans e3).trans e4⟩
   rw[if_neg gn]at f6
   rw[k4,u4,k3,u3,k2,u2,k1,u1]
   exact f6
end
end Go.Proofs.YtjlnnljohemifaaGreat

namespace Go.Proofs.YtjlnnljohemifaaGreat
open Go Go.Vc
section
variable {H : Hp} {B : PB} {C V : Nat → Prop} {w : Nw} {L : List Lk} {tops : List Int} {ch Iz : Int → List Int} {par : Int → Int}
theorem Pr.len(q:Pr (aI w) (aU w) ch par)(x:Int):(ch x).length≤w.cs.length:=bV (q.nd x) fun c hc=>by
 obtain⟨z0,z1,_⟩:=aH (q.dn x c hc).2.2.2.1
 exact⟨z0,z1⟩
theorem Lr.next{K:Int→Bool→Int}{Bk:Int→Int}:∀ {l1:List Int} {p x:Int} {l2:List Int},Lr K Bk p (l1++x::l2)→K x true=l2.headD (-1):=fun h=>h.split.2.1
theorem C6(m:bS H B C w L tops)(q:Pr (aI w) (aU w) ch par)(pl:J9 (bi L) (bq L) ch par){x:Int}(hx:0<aI w x):
  ai Tryz.prog yP [ptr B.n,i64 x] H fun v H'=>ay (∃fp,bS H' B C w L tops∧ah C H H'∧Sl H' 1 v (ch x).length ((ch x).map i64) fp∧∀b,fp=some b→H.size≤b):=by
 obtain⟨x0,x1,_⟩:=aH hx
 have rB:=m.cells.FM
 have bv:=q.len x
 refine ba zt ⟨rfl,?_⟩
 obtain⟨tv,o1,_⟩:=m.own
 refine v2 iS.eq_1 (ae o1) ?_
 refine(dA m.cells x).mono ?_
 rintro _ H1 (⟨cw,_,_⟩| ⟨bQ,rfl,c1,e1⟩)
 ·exact absurd (bK.1 hx) cw
 have m1:=m.aN c1 e1 rfl
 obtain⟨Eg,o1,_⟩:=m1.own
 obtain⟨r0,r1,r2,r3⟩:=m1.rd ⟨x0,x1⟩
 have hl:=m1.len
 have z1:=e1.size
 refine v1 (ae o1) ?_
 refine⟨⟨by omega,by omega⟩,?_⟩
 refine v4 (ae m1.fI) anB Nat.add_zero r1 ?_
 refine bA.intro (fun mm env H'=>∃ (d r:List Int) (wv:Value) (fp:Option Nat),mm=r.length∧ch x=d++r∧bS H' B C w L tops∧(∀z,fp=some z→H.size≤z)∧Sl H' 1 wv d.length (d.map i64) fp∧ah (fun z=>C z∨H.size≤z) H H'∧
  env=[(0,ptr B.n),(7,wv),(8,i64 (r.headD (-1)))]) _ ⟨[],ch x,_,none,rfl,rfl,m1,(fun z h=>by cases h),Sl.nil _ _,e1.mono (fun z _ h=>.inl h),by rw[pl.hd]⟩ ?_
 rintro mm env H2 ⟨d,r,wv,fp,rfl,Zy,m2,jv,s2,e2,rfl⟩
 have z2:=e2.size
 refine vs ?_
 cases r with
 |nil=>
  refine am.dec (fun _=>?_) (fun h=>absurd rfl h)
  refine vs ?_
  rw[aow]at Zy
  rw[Zy]
  exact⟨fp,m2,e2.mono (fun z hz h=>h.elim id fun h=>by omega),s2,jv⟩
 |cons c r=>
  have hc:=q.dn x c (by rw[Zy];simp)
  obtain⟨c0,c1,_⟩:=aH hc.2.2.2.1
  have KG:=pl.sg x
  rw[Zy]at KG
  have KG:=KG.next
  have ol:d.length+(r.length+1)=(ch x).length:=by rw[Zy,anL,anY]
  refine am.dec (fun h=>absurd h (by simp only[List.headD_cons];omega)) (fun _=>?_)
  refine vs ?_
  refine EZ (B:=H.size) jv (by omega) s2 c (by omega) fun w' H3 dv mr s3 e3=>?_
  refine vs ?_
  have m3:=m2.ext e3 (fun z hz ez=>by have:=m.slt z hz;omega)
  obtain⟨Zh,o3,_⟩:=m3.own
  obtain⟨t0,t1,t2,t3⟩:=m3.rd ⟨c0,c1⟩
  have Ua:=m3.len
  simp(disch:=(first|omega| (simp only[Zs]<;>omega)|fail)) only[go_sem, ↓reduceIte,Zv,ae o3,List.headD_cons]
  refine⟨⟨by omega,by omega⟩,?_⟩
  refine v4 (ae m3.fI) anB Nat.add_zero t2 ?_
  refine⟨r.length,by simp,d++[c],r,w',dv,rfl,by rw[Zy];simp,m3,mr,s3,e2.trans (e3.mono fun z _ h=>.inr h),by rw[KG]⟩
set_option maxHeartbeats 2000000 in
theorem me(m:bS H B C w L tops)(q:Pr (aI w) (aU w) ch par)(pl:J9 (bi L) (bq L) ch par){x:Int}(hx:0<aI w x):
  ai Tryz.prog yO [ptr B.n,i64 x] H fun v H'=>ay (∃r L' dV bH,v=i64 r∧bS H' B C w L' tops∧J9 (bi L') (bq L') dV bH∧
   EV (aI w) (aU w) (aI w x) (fun y=>0<aI w y∧par y= -1) (aA ch x []) dV bH (ws [r])∧ah (fun z=>C z∨z=B.tb) H H'):=by
 obtain⟨x0,x1,_⟩:=aH hx
 have rB:=m.cells.FM
 have bv:=q.len x
 refine ba zr ⟨rfl,?_⟩
 refine v1 iR.eq_1 ?_
 refine(C6 m q pl hx).mono ?_
 rintro kv H1 ⟨fp,m1,e1,s1,jv⟩
 have z1:=e1.size
 obtain⟨Eg,o1,_⟩:=m1.own
 obtain⟨r0,_⟩:=m1.rd ⟨x0,x1⟩
 have hl:=m1.len
 refine v1 (ae o1) ?_
 refine⟨⟨by omega,by omega⟩,?_⟩
 obtain⟨L2,k2,u2,m2,e2⟩:=m1.Oz ⟨x0,x1⟩ (-1)
 refine v3 m1.fI anB Nat.add_zero ?_
 refine⟨by omega,?_⟩
 refine vs ?_
 generalize H1.wr B.tb ((aQ L).set (x.toNat*3) (Value.int .i64 (-1)))=H2 at*
 have hN:∀z,B.S C z→z<H.size:=m.slt
 have sl2:B.tb<H.size:=hN _ (.inr (.inr (.inl rfl)))
 have s2:=s1.ext e2 (fun z hz ez=>by have:=jv z hz;omega)
 obtain⟨ka,kc,rfl⟩:=Sl.shape s2
 have re:ah (fun z=>C z∨z=B.tb∨H.size≤z) H H2:=(e1.mono fun z _ h=>.inl h).trans (e2.mono fun z _ h=>.inr (.inl h))
 refine vs ?_
 refine bA.intro (fun mm env H'=>∃ (i:Nat) (L':List Lk),mm=(ch x).length - i∧i≤(ch x).length∧bS H' B C w L' tops∧Sl H' 1 (.slice ka (ch x).length kc) (ch x).length ((ch x).map i64) fp∧ah (fun z=>C z∨z=B.tb∨H.size≤z) H H'∧
  (∀y,bi L' y false=if y=x then -1 else bi L y false)∧(∀c,(c∈(ch x).take i→bi L' c true= -1∧bq L' c= -1)∧(c∉ (ch x).take i→bi L' c true=bi L c true∧bq L' c=bq L c))∧
  env=[(0,ptr B.n),(5,.slice ka (ch x).length kc),(22,.slice ka (ch x).length kc),(23,i64 (ch x).length),(24,i64 i)]) _ ⟨0,L2,rfl,by omega,m2,s2,re,fun y=>?_,fun c=>⟨fun h=>by simp at h,fun _=>?_⟩,rfl⟩ ?_
 ·rw[k2]
  unfold eG
  by_cases hy:y=x
  ·rw[if_pos ⟨hy,rfl⟩,if_pos hy]
  ·rw[if_neg (by simp[hy]),if_neg hy]
 ·rw[k2,u2]
  unfold eG
  rw[if_neg (by simp)]
  exact⟨rfl,rfl⟩
 rintro mm env H3 ⟨i,L3,rfl,hi,m3,s3,e3,kf3,kt3,rfl⟩
 refine vs ?_
 refine am.dec (fun gi=>?_) (fun gi=>?_)<;>refine vs ?_
 ·have oq:i< (ch x).length:=by omega
  obtain⟨c,hc⟩:∃c,(ch x)[i]? =some c:=⟨_,anx oq⟩
  have JL:=anG hc
  obtain⟨c0,c1,_⟩:=aH (q.dn x c JL).2.2.2.1
  obtain⟨_,kb,lb,rfl,q2,q3⟩:=Sl.Bl s3 hc
  refine⟨⟨by omega,by omega⟩,?_⟩
  refine v5 (ae q2) anB anD Int.toNat_natCast q3 ?_
  obtain⟨Zh,o3,_⟩:=m3.own
  obtain⟨t0,_⟩:=m3.rd ⟨c0,c1⟩
  have Ua:=m3.len
  refine v1 (ae o3) ?_
  refine⟨⟨by omega,by omega⟩,?_⟩
  obtain⟨L4,k4,u4,m4,e4⟩:=m3.OG ⟨c0,c1⟩ (-1)
  refine v3 m3.fI anB Nat.add_zero ?_
  refine⟨by omega,?_⟩
  obtain⟨t1,_⟩:=m4.rd ⟨c0,c1⟩
  have XB:=m4.len
  obtain⟨L5,k5,u5,m5,e5⟩:=m4.KV ⟨c0,c1⟩ (-1)
  refine vs ?_
  generalize H3.wr B.tb ((aQ L3).set (c.toNat*3+1) (Value.int .i64 (-1)))=H4 at*
  refine⟨⟨by omega,by omega⟩,?_⟩
  refine v3 m4.fI anB Nat.add_zero ?_
  refine⟨by omega,?_⟩
  refine vs ?_
  have s5:=(s3.ext e4 (fun z hz ez=>by have:=jv z hz;omega)).ext e5 (fun z hz ez=>by have:=jv z hz;omega)
  refine⟨(ch x).length - (i+1),by omega,i+1,L5,rfl,by omega,m5,s5,(e3.trans (e4.mono fun z _ h=>.inr (.inl h))).trans (e5.mono fun z _ h=>.inr (.inl h)),fun y=>?_,fun d=>?_,?_⟩
  ·rw[k5,k4]
   unfold eG
   rw[if_neg (by simp)]
   exact kf3 y
  ·have tk:(ch x).take (i+1)=(ch x).take i++[c]:=by rw[aoi,hc];rfl
   rw[tk,k5,k4,u5,u4]
   unfold eG aK
   by_cases hd:d=c
   ·rw[if_pos ⟨hd,rfl⟩,if_pos hd]
    exact⟨fun _=>⟨rfl,rfl⟩,fun h=>absurd (show d∈(ch x).take i++[c] by simp[hd]) h⟩
   ·rw[if_neg (by simp[hd]),if_neg hd]
    refine⟨fun h=>(kt3 d).1 ?_,fun h=>(kt3 d).2 fun h2=>h (by simp[h2])⟩
    rcases anR.1 h with h|h
    ·exact h
    ·exact absurd (anM.1 h) hd
  ·rw[wrap64 (by omega) (by omega)]
   rfl
 obtain rfl:i=(ch x).length:=by omega
 rw[aod]at kt3
 have Ug:=pl.bare q kf3 (fun c hc=>(kt3 c).1 hc) (fun c hc=>(kt3 c).2 hc)
 have pw3:=q.WK hx
 have F0:∀z,fp=some z→z<H3.size:=fun z hz=>by rw[hz]at s3;exact s3.lt
 have z3:=e3.size
 refine bA.intro (fun mm env H'=>∃ (i:Nat) (t:List Int) (wv:Value) (fq:Option Nat) (L':List Lk) (dV:Int→List Int) (bH:Int→Int),mm=(ch x).length+2 - i∧i≤(ch x).length+1∧t.length≤i∧bS H' B C w L' tops∧
  Sl H' 1 (.slice ka (ch x).length kc) (ch x).length ((ch x).map i64) fp∧(∀z,fq=some z→H3.size≤z)∧Sl H' 1 wv t.length (t.map i64) fq∧ah (fun z=>C z∨z=B.tb∨H.size≤z) H H'∧ah (fun z=>C z∨z=B.tb∨H3.size≤z) H3 H'∧
  EV (aI w) (aU w) (aI w x) (fun y=>0<aI w y∧par y= -1) (aA ch x []) dV bH (t++(ch x).drop i)∧J9 (bi L') (bq L') dV bH∧
  env=[(0,ptr B.n),(5,.slice ka (ch x).length kc),(8,wv),(9,i64 i)]) _ ⟨0,[],_,none,L3,_,_,rfl,by omega,by simp,m3,s3,(fun z h=>by cases h),Sl.nil _ _,e3,ah.refl _ _,by simpa using pw3,Ug,rfl⟩ ?_
 rintro mm env H4 ⟨i,t,wv,fq,L4,Vj,KW,rfl,hi,hti,m4,s4,Lx,t4,e4,Xy,XN,XO,rfl⟩
 have z4:=e4.size
 have z34:=Xy.size
 refine vs ?_
 refine am.dec (fun gi=>?_) (fun gi=>?_)<;>refine vs ?_
 ·have oq:i< (ch x).length:=by omega
  obtain⟨c,hc⟩:∃c,(ch x)[i]? =some c:=⟨_,anx oq⟩
  have JL:=anG hc
  have QK:=q.ne JL
  have dr:(ch x).drop i=c::(ch x).drop (i+1):=by
   rw[aoK oq]
   congr 1
   rw[anx oq]at hc
   injection hc
  obtain⟨_,kb,lb,rfl,q2,q3⟩:=Sl.Bl s4 hc
  refine am.dec (fun g1=>?_) (fun g1=>?_)<;>refine vs ?_
  ·rw[wrap64 (by omega) (by omega)]at g1
   refine⟨⟨by omega,by omega⟩,?_⟩
   refine v5 (ae q2) anB anD Int.toNat_natCast q3 ?_
   refine EZ (B:=H3.size) Lx z34 t4 c (by omega) fun w' H5 fq' S7 t5 e5=>?_
   refine vs ?_
   have m5:=m4.ext e5 (fun z hz ez=>by have:=m.slt z hz;omega)
   have s5:=s4.ext e5 (fun z hz ez=>by have:=F0 z hz;omega)
   refine⟨(ch x).length+2 - (i+2),by omega,i+2,t++[c],w',fq',L4,Vj,KW,rfl,by omega,by simp;omega,m5,s5,S7,t5,e4.trans (e5.mono fun z _ h=>.inr (.inr (by omega))),Xy.trans (e5.mono fun z _ h=>.inr (.inr h)),?_,XO,?_⟩
   ·rw[dr]at XN
    rw[apk (by omega)]
    rw[apk (by omega)]at XN
    simpa using XN
   ·rw[wrap64 (by omega) (by omega)];rfl
  ·rw[wrap64 (by omega) (by omega)]at g1
   have ve:i+1< (ch x).length:=by omega
   obtain⟨d,hd⟩:∃d,(ch x)[i+1]? =some d:=⟨_,anx ve⟩
   have Ux:=anG hd
   have W3:=q.ne Ux
   have dr2:(ch x).drop (i+1)=d::(ch x).drop (i+2):=by
    rw[aoK ve]
    congr 1
    rw[anx ve]at hd
    injection hd
   obtain⟨_,E8,lb2,ek,q5,q4⟩:=Sl.Bl s4 hd
   injection ek with ek
   injection ek with ek
   subst ek
   rw[q2]at q5
   injection q5 with q5
   subst q5
   refine⟨⟨by omega,by omega⟩,?_⟩
   refine v5 (ae q2) anB anD Int.toNat_natCast q3 ?_
   rw[wrap64 (by omega) (by omega)]
   refine⟨⟨by omega,by omega⟩,?_⟩
   refine v5 (ae q2) anB anD (show((i:Int)+1).toNat=i+1 by omega) q4 ?_
   have w2:ws [c,d]=[c,d]:=by rw[pG,ed,ed,if_neg QK,if_neg W3];rfl
   have XP:EV (aI w) (aU w) (aI w x) (fun y=>0<aI w y∧par y= -1) (aA ch x []) Vj KW (ws [c,d]++(t++(ch x).drop (i+2))):=by
    rw[w2]
    rw[dr,dr2]at XN
    refine XN.perm ?_
    have h1:(t++c::d::(ch x).drop (i+2)).Perm (c::(t++d::(ch x).drop (i+2))):=List.perm_middle
    have h2:(t++d::(ch x).drop (i+2)).Perm (d::(t++(ch x).drop (i+2))):=List.perm_middle
    exact h1.trans (h2.cons c)
   refine(di m4 XP XO).mono ?_
   rintro _ H5 ⟨r,L5,Zz,QY,rfl,hr,m5,pw6,pl5,e5⟩
   have hrn:r≠ -1:=fun h=>QK (hr h).1
   have z5:=e5.size
   have t5:=t4.ext e5 (fun z hz ez=>by have:=Lx z hz;rcases ez with h|h;have:=m.slt z (.inl h);omega;omega)
   have s5:=s4.ext e5 (fun z hz ez=>by have:=jv z hz;rcases ez with h|h;have:=m.slt z (.inl h);omega;omega)
   refine vs ?_
   refine EZ (B:=H3.size) Lx (by omega) t5 r (by omega) fun w' H6 fq' S7 t6 e6=>?_
   refine vs ?_
   have m6:=m5.ext e6 (fun z hz ez=>by have:=m.slt z hz;omega)
   have s6:=s5.ext e6 (fun z hz ez=>by have:=F0 z hz;omega)
   refine⟨(ch x).length+2 - (i+2),by omega,i+2,t++[r],w',fq',L5,Zz,QY,rfl,by omega,by simp;omega,m6,s6,S7,t6,(e4.trans (e5.mono fun z _ h=>h.elim .inl fun h=>.inr (.inl h))).trans (e6.mono fun z _ h=>.inr (.inr (by omega))),(Xy.trans (e5.mono fun z _ h=>h.elim .inl fun h=>.inr (.inl h))).trans (e6.mono fun z _ h=>.inr (.inr h)),?_,pl5,?_⟩
   ·rw[ed,if_neg hrn]at pw6
    refine pw6.perm ?_
    rw[apH]
    exact(List.perm_middle (l₁:=t) (a:=r) (l₂:=(ch x).drop (i+2))).symm
   ·rw[wrap64 (by omega) (by omega)];rfl
 rw[apk (by omega),aow]at XN
 have Mr:t.length≤65537:=by omega
 obtain⟨ta,tc,rfl⟩:=Sl.shape t4
 refine vs ?_
 refine bA.intro (fun mm env H'=>∃ (j:Nat) (r:Int) (L':List Lk) (dV:Int→List Int) (bH:Int→Int),mm=j∧j≤t.length∧bS H' B C w L' tops∧
  Sl H' 1 (.slice ta t.length tc) t.length (t.map i64) fq∧ah (fun z=>C z∨z=B.tb∨H.size≤z) H H'∧
  EV (aI w) (aU w) (aI w x) (fun y=>0<aI w y∧par y= -1) (aA ch x []) dV bH (ws [r]++t.take j)∧J9 (bi L') (bq L') dV bH∧
  env=[(0,ptr B.n),(8,.slice ta t.length tc),(10,i64 r),(11,i64 ((j:Int) - 1))]) _ ⟨t.length, -1,L4,Vj,KW,rfl,anO _,m4,t4,e4,by rw[ed,if_pos rfl,aod];exact XN,XO,?_⟩ ?_
 ·rw[wrap64 (by omega) (by omega)]
 rintro mm env H5 ⟨j,r,L5,Zz,QY,hmj,hj,m5,t5,e5,XP,pl5,rfl⟩
 obtain rfl:=hmj.symm
 refine vs ?_
 refine am.dec (fun gj=>?_) (fun gj=>?_)<;>refine vs ?_
 ·obtain⟨k,rfl⟩:∃k,j=k+1:=⟨j - 1,by omega⟩
  obtain⟨c,hc⟩:∃c,t[k]? =some c:=⟨_,anx (by omega)⟩
  obtain⟨_,kb,lb,rfl,q2,q3⟩:=Sl.Bl t5 hc
  have ji:((((k+1:Nat):Int) - 1)).toNat=k:=by omega
  refine⟨⟨by omega,by omega⟩,?_⟩
  refine v5 (ae q2) anB anD ji q3 ?_
  have tk:t.take (k+1)=t.take k++[c]:=by rw[aoi,hc];rfl
  have QK:c≠ -1:=(XP.wm c (by rw[tk];simp)).1
  have pw6:EV (aI w) (aU w) (aI w x) (fun y=>0<aI w y∧par y= -1) (aA ch x []) Zz QY (ws [c,r]++t.take k):=by
   rw[tk]at XP
   refine XP.perm ?_
   rw[pG c [r],ed c,if_neg QK]
   have h1:(ws [r]++(t.take k++[c])).Perm ((ws [r]++t.take k)++[c]):=by rw[apH]
   refine h1.trans (aoC.trans ?_)
   rw[apH]
  refine(di m5 pw6 pl5).mono ?_
  rintro _ H6 ⟨r2,L6,Zq,OA,rfl,hr,m6,pw7,pl6,e6⟩
  have t6:=t5.ext e6 (fun z hz ez=>by have:=Lx z hz;rcases ez with h|h;have:=m.slt z (.inl h);omega;omega)
  refine vs ?_
  refine⟨k,by omega,k,r2,L6,Zq,OA,rfl,by omega,m6,t6,e5.trans (e6.mono fun z _ h=>h.elim .inl fun h=>.inr (.inl h)),pw7,pl6,?_⟩
  rw[show((k+1:Nat):Int) - 1 - 1=(k:Int) - 1 by omega,wrap64 (by omega) (by omega)]
 ·obtain rfl:j=0:=by omega
  rw[List.take_zero,aow]at XP
  exact⟨r,L5,Zz,QY,rfl,m5,pl5,XP,e5.mono fun z hz h=>h.elim .inl fun h=>.inr (by omega)⟩
end
end Go.Proofs.YtjlnnljohemifaaGreat

namespace Go.Proofs.YtjlnnljohemifaaGreat
open Go Go.Vc
structure MI(w:Nw)(L:List Lk)(tops:List Int)(ch:Int→List Int)(par:Int→Int):Prop where
 t:Uu (aI w) (aU w) ch par (bm tops)
 pl:J9 (bi L) (bq L) ch par
 tl:tops.length=w.hs.length
def dL(n:Nat)(H:Hp)(S:Nat→Prop)(w:Nw):Prop:=∃ (B:PB) (C:Nat→Prop) (L:List Lk) (tops:List Int) (ch:Int→List Int) (par:Int→Int),B.n=n∧bS H B C w L tops∧MI w L tops ch par∧∀z,S z↔B.S C z
theorem dL.slt{n:Nat}{H:Hp}{S:Nat→Prop}{w:Nw}(h:dL n H S w):∀z,S z→z<H.size:=by
 obtain⟨B,C,L,tops,ch,par,rfl,m,l,hS⟩:=h
 exact fun z hz=>m.slt z ((hS z).1 hz)
theorem dL.ext{n:Nat}{H H':Hp}{S V:Nat→Prop}{w:Nw}(h:dL n H S w)(e:ah V H H')(hd:∀z,S z→¬V z):dL n H' S w:=by
 obtain⟨B,C,L,tops,ch,par,rfl,m,l,hS⟩:=h
 exact⟨B,C,L,tops,ch,par,rfl,m.ext e (fun z hz=>hd z ((hS z).2 hz)),l,hS⟩
theorem EF(cap:Int)(H:Hp):ai Tryz.prog IF [i64 cap] H fun v H'=>ay (
  aq H H'∧((¬ (0≤cap∧cap≤65536)∧v= .tuple [.pointer none,i64 31].toArray)∨
   ((0≤cap∧cap≤65536)∧∃n S,v= .tuple [ptr n,i64 0].toArray∧dL n H' S (CS cap)∧∀x,S x→H.size≤x))):=by
 refine ba IQ ⟨rfl,?_⟩
 refine v1 rY.eq_1 ?_
 refine(nQ cap H).mono ?_
 rintro _ H1 ⟨f1,⟨hb,rfl⟩| ⟨hb,c,C,rfl,c1,hC⟩⟩
 ·refine vs ?_
  exact⟨f1,.inl ⟨hb,rfl⟩⟩
 refine v1 anZ ?_
 refine⟨⟨by omega,by omega,by omega,by omega⟩,?_⟩
 refine vs ?_
 rw[Px]
 have zS:=c1.slt
 have z1:=f1.size
 have f3:aq H1 (((H1.new 265 (aQ (List.replicate cap.toNat ⟨0,0,0⟩))).new 3 [Value.int .i64 (-1)]).new 263 [ptr c,.slice (some ⟨H1.size,0,none⟩) cap.toNat cap.toNat,.slice (some ⟨H1.size+1,0,none⟩) 1 1]):=(((ah.refl _ _).new _ _).new _ _).new _ _
 have e1:ah (fun _=>False) (H1.new 265 (aQ (List.replicate cap.toNat ⟨0,0,0⟩))) (((H1.new 265 (aQ (List.replicate cap.toNat ⟨0,0,0⟩))).new 3 [Value.int .i64 (-1)]).new 263 [ptr c,.slice (some ⟨H1.size,0,none⟩) cap.toNat cap.toNat,.slice (some ⟨H1.size+1,0,none⟩) 1 1]):=((ah.refl _ _).new _ _).new _ _
 have e2:ah (fun _=>False) ((H1.new 265 (aQ (List.replicate cap.toNat ⟨0,0,0⟩))).new 3 [Value.int .i64 (-1)]) (((H1.new 265 (aQ (List.replicate cap.toNat ⟨0,0,0⟩))).new 3 [Value.int .i64 (-1)]).new 263 [ptr c,.slice (some ⟨H1.size,0,none⟩) cap.toNat cap.toNat,.slice (some ⟨H1.size+1,0,none⟩) 1 1]):=(ah.refl _ _).new _ _
 obtain⟨B,hB⟩:∃B:PB,B=⟨H1.size+1+1,c,H1.size,H1.size+1⟩:=⟨_,rfl⟩
 have m0:bS (((H1.new 265 (aQ (List.replicate cap.toNat ⟨0,0,0⟩))).new 3 [Value.int .i64 (-1)]).new 263 [ptr c,.slice (some ⟨H1.size,0,none⟩) cap.toNat cap.toNat,.slice (some ⟨H1.size+1,0,none⟩) 1 1]) B C (CS cap) (List.replicate cap.toNat ⟨0,0,0⟩) [-1]:=by
  subst hB
  refine⟨⟨.slice (some ⟨H1.size+1,0,none⟩) 1 1,?_,?_⟩,c1.fresh f3,?_,?_,?_,?_⟩
  ·rw[aov]
   exact bD (by simp only[ar])
  ·exact(Sl.dw (size:=1) (n:=1) (xs:=[i64 (-1)]) rfl (by simp only[ar])).ext e2 (fun _ _ h=>h)
  ·exact e1.own (aE _ _ _) (fun h=>h)
  ·simp[CS]
  ·refine⟨?_,?_,?_⟩<;>simp only<;>omega
  ·refine⟨fun h=>?_,fun h=>?_,fun h=>?_⟩<;>(have h2:=zS _ h;first|omega| (simp only at h2;omega))
 have FW:B.n=H1.size+1+1:=by rw[hB]
 have hBs:∀z,B.S C z→H1.size≤z∨C z:=fun z hz=>by
  rcases hz with hz|rfl|rfl|rfl
  ·exact .inr hz
  all_goals rw[hB];left;first|omega| (simp only;omega)
 have hBt:B.tb=H1.size:=by rw[hB]
 have ft:=f1.trans f3
 generalize ((H1.new 265 (aQ (List.replicate cap.toNat ⟨0,0,0⟩))).new 3 [Value.int .i64 (-1)]).new 263 [ptr c,.slice (some ⟨H1.size,0,none⟩) cap.toNat cap.toNat,.slice (some ⟨H1.size+1,0,none⟩) 1 1]=H2 at*
 obtain⟨tv0,o0,_⟩:=m0.own
 rw[aov,FW]at o0
 refine bA.intro (fun m env H'=>∃j:Nat,m=cap.toNat - j∧j≤cap.toNat∧ah (fun z=>z=B.tb) H2 H'∧bS H' B C (CS cap) (List.replicate j mq++List.replicate (cap.toNat - j) ⟨0,0,0⟩) [-1]∧
  env=[(6,ptr (H1.size+1+1)),(26,i64 (cap.toNat:Nat)),(27,i64 j)]) cap.toNat ⟨0,by omega,by omega,ah.refl _ _,by simpa using m0,rfl⟩ ?_
 rintro m env H3 ⟨j,rfl,hj,e3,m3,rfl⟩
 have ol:=kK (List.replicate j mq++List.replicate (cap.toNat - j) (⟨0,0,0⟩:Lk))
 have wC:(List.replicate j mq++List.replicate (cap.toNat - j) (⟨0,0,0⟩:Lk)).length=cap.toNat:=by simp;omega
 obtain⟨Zh,o3,_⟩:=m3.own
 rw[wC]at ol o3
 rw[FW]at o3
 refine vs ?_
 refine am.dec (fun aR=>?_) (fun aR=>?_)<;>refine vs ?_
 ·refine v1 (ae o3) ?_
  refine⟨by omega,?_⟩
  refine v3 m3.fI anB Int.toNat_natCast ?_
  refine⟨by omega,?_⟩
  have q3:=JR (L:=List.replicate j mq++List.replicate (cap.toNat - j) (⟨0,0,0⟩:Lk)) (i:=j) (by omega) mq
  have q4:(List.replicate j mq++List.replicate (cap.toNat - j) (⟨0,0,0⟩:Lk)).set j mq=List.replicate (j+1) mq++List.replicate (cap.toNat - (j+1)) (⟨0,0,0⟩:Lk):=by
   rw[apJ _ _ (by simp),aov,aoJ,show cap.toNat - j=(cap.toNat - (j+1))+1 by omega,aor,ao1,apN]
   simp
  rw[q4]at q3
  obtain⟨m4,e4⟩:=m3.PO (L':=List.replicate (j+1) mq++List.replicate (cap.toNat - (j+1)) (⟨0,0,0⟩:Lk)) (by simp;omega)
  rw[show bk (aQ (List.replicate j mq++List.replicate (cap.toNat - j) (⟨0,0,0⟩:Lk))) (j*3) (aM (Value.agg #[Value.int .i64 (-1),Value.int .i64 (-1),Value.int .i64 (-1)]))=_ from q3]
  refine vs ?_
  rw[wrap64 (n:=(j:Int)+1) (by omega) (by omega)]
  exact⟨cap.toNat - (j+1),by omega,j+1,rfl,by omega,e3.trans e4,m4,rfl⟩
 ·obtain rfl:j=cap.toNat:=by omega
  rw[aoJ,apP,aow]at m3
  rw[←FW]
  refine⟨ft.then e3 (fun z hz=>by omega),.inr ⟨hb,B.n,B.S C,rfl,⟨B,C,_,[-1],fun _=>[],fun _=> -1,rfl,m3,⟨⟨⟨rfl,fun x c hc=>absurd hc (by simp),fun c x h hx=>absurd (Eq.symm h) hx,fun x=>aoU⟩,
   ⟨fun x p h hp=>absurd (Eq.symm h) hp,fun g hg=>absurd (Ek g) hg,fun x hx=>absurd hx (nT cap x)⟩⟩,⟨fun x=>CR _ _ _,fun x=>trivial,fun c _=>⟨CR _ _ _,Hk _ _⟩⟩,rfl⟩,fun z=>Iff.rfl⟩,fun z hz=>?_⟩⟩
  rcases hBs z hz with h|h
  ·omega
  ·exact hC z h
theorem C7{n:Nat}{H:Hp}{S:Nat→Prop}{w:Nw}(h:dL n H S w):ai Tryz.prog ph [ptr n] H fun v H'=>ay (
  (w.hs.length=65537∧v=i64 0∧cD (dL n) S H H' w)∨(w.hs.length≠65537∧v=i64 w.hs.length∧cD (dL n) S H H' w.make)):=by
 obtain⟨B,C,L,tops,ch,par,rfl,m,l,hS⟩:=id h
 obtain⟨tv,ho,Gf⟩:=m.own
 refine ba zp ⟨rfl,?_⟩
 refine v2 iP.eq_1 (ae ho) ?_
 refine(lV m.cells).mono ?_
 rintro _ H1 (⟨h1,rfl,rfl⟩| ⟨h1,rfl,C',c1,e1,Bp⟩)
 ·refine vs ?_
  exact .inl ⟨h1,rfl,cD.same h (ah.refl _ _)⟩
 have jj:=m.cells.pos
 have hhs:=m.cells.Gf
 have Mr:=l.tl
 have slt:=m.slt
 have Mw:=c1.slt
 obtain⟨n1,n2,n3⟩:=m.out
 obtain⟨d1,d2,d3⟩:=m.rl
 have o1:=e1.own ho n1
 refine vs ?_
 refine am.cF (anQ (by omega)) ?_
 refine v1 (ae o1) ?_
 have s1:=Gf.ext e1 (fun b hb=>by injection hb with hb;exact hb▸n3)
 refine Sw s1 (-1) (by omega) fun w' H2 b' rR s2 e2=>?_
 have o2:=e2.own o1 d2
 obtain⟨wa,wc,PD⟩:=Sl.shape s2
 subst PD
 refine v1 o2 ?_
 generalize PD:Value.slice wa (tops++[-1]).length wc=w' at*
 have e3:ah (fun z=>z=B.n) H2 (H2.wr B.n [ptr B.c,.slice (some ⟨B.tb,0,none⟩) L.length L.length,w']):=(ah.refl (fun z=>z=B.n) _).wr (fun _=>rfl) _
 have z1:=e1.size
 have hn:=slt _ (.inr (.inl rfl))
 have ht:=slt _ (.inr (.inr (.inl rfl)))
 have htp:=slt _ (.inr (.inr (.inr rfl)))
 have Hl:∀z,C' z→z≠b'∧(z<H.size→C z):=fun z hz=>by
  have h5:=Mw z hz
  rcases Bp z hz with h6|h6
  ·refine⟨fun e=>?_,fun _=>h6⟩
   rcases rR with h7|h7
   ·exact n3 (by rw[←h7,←e];exact h6)
   ·omega
  ·exact⟨by omega,fun h=>by omega⟩
 refine .inr ⟨h1,rfl,(PB.mk B.n B.c B.tb b').S C',⟨⟨B.n,B.c,B.tb,b'⟩,C',L,tops++[-1],ch,par,rfl,⟨⟨w',aj o2,s2.ext e3 (fun b hb=>by injection hb with hb;omega)⟩,?_,?_,m.len,?_,?_⟩,⟨by rw[CL];exact l.t,l.pl,?_⟩,fun z=>Iff.rfl⟩,?_,fun z hz=>?_⟩
 ·exact(c1.ext e2 (fun x hx e=>by
   rcases Bp x hx with h6|h6
   ·exact n3 (e▸h6)
   ·omega)).ext e3 (fun x hx e=>by
   rcases Bp x hx with h6|h6
   ·exact n1 (e▸h6)
   ·omega)
 ·exact e3.own (e2.own (e1.own m.fI n2) d3) (Ne.symm d1)
 ·refine⟨d1,?_,?_⟩<;>simp only<;>omega
 ·exact⟨fun h=>n1 ((Hl _ h).2 hn),fun h=>n2 ((Hl _ h).2 ht),fun h=>(Hl _ h).1 rfl⟩
 ·simp[Nw.make,Mr]
 ·exact((e1.mono fun z _ h=>(hS z).2 (.inl h)).trans (e2.mono fun z _ h=>(hS z).2 (.inr (.inr (.inr h))))).trans (e3.mono fun z _ h=>(hS z).2 (.inr (.inl h)))
 ·rcases hz with hz|rfl|rfl|rfl
  ·rcases Bp z hz with h6|h6
   ·exact .inl ((hS z).2 (.inl h6))
   ·exact .inr h6
  ·exact .inl ((hS _).2 (.inr (.inl rfl)))
  ·exact .inl ((hS _).2 (.inr (.inr (.inl rfl))))
  ·rcases rR with rfl|h7
   ·exact .inl ((hS _).2 (.inr (.inr (.inr rfl))))
   ·exact .inr (by first|omega| (simp only;omega))
theorem MI.first{w:Nw}{L:List Lk}{tops:List Int}{ch:Int→List Int}{par:Int→Int}(l:MI w L tops ch par){g x:Int}(h:w.first g x):bm tops g=x:=by
 obtain⟨h1,h2,h3⟩:=bO.1 h
 have:=l.t.tp.first (x:=x) (by omega) (fun y hy aS=>h3 y (by omega) aS) (au w)
 rwa[h2]at this
theorem tJ{n:Nat}{H:Hp}{S:Nat→Prop}{w:Nw}(h:dL n H S w)(g:Int):ai Tryz.prog p8 [ptr n,i64 g] H fun v H'=>ay (
  ((w.len g=0∧v= .tuple [i64 0,.bool false].toArray)∨∃x,w.first g x∧v= .tuple [i64 x,.bool true].toArray)∧H'=H):=by
 obtain⟨B,C,L,tops,ch,par,rfl,m,l,hS⟩:=h
 obtain⟨cc,lt,ho,q2,Cz,yz,Nq⟩:=m.hG
 refine ba AZ ⟨rfl,?_⟩
 refine v2 jV.eq_1 (ae ho) ?_
 refine(xC m.cells g).mono ?_
 rintro _ _ ⟨rfl,rfl⟩
 refine vs ?_
 refine am.dec (fun h0=>?_) (fun h0=>?_)
 ·refine vs ?_
  exact⟨.inl ⟨h0,rfl⟩,rfl⟩
 have hg:0<g:=anX fun hg=>h0 (Nw.I9.2 (.inl (by omega)))
 obtain⟨x,hx⟩:=xB hg h0
 have hh:=(bO.1 hx).2.1
 have dD:=((m.cells.hm x).2 (by omega)).2
 rw[hh,←l.tl]at dD
 have q3:=m.fB q2 (dY (tops:=tops) (h:=g) (by omega) dD)
 rw[l.first hx]at q3
 refine v1 (ae ho) ?_
 refine⟨⟨by omega,by omega⟩,?_⟩
 refine v4 (ae q2) anB anD q3 ?_
 exact⟨.inr ⟨x,hx,rfl⟩,rfl⟩
set_option maxRecDepth 100000 in
theorem zL{n:Nat}{H:Hp}{S:Nat→Prop}{w:Nw}(h:dL n H S w)(g x k s:Int):ai Tryz.prog mw [ptr n,i64 g,i64 x,wq k s] H fun v H'=>ay (
  (¬w.oR g x∧v= .bool false∧cD (dL n) S H H' w)∨(w.oR g x∧v= .bool true∧cD (dL n) S H H' (w.put x (g,k,s)))):=by
 obtain⟨B,C,L,tops,ch,par,rfl,m,l,hS⟩:=h
 have hC:∀z,C z→S z:=fun z h=>(hS z).2 (.inl h)
 have t1:S B.tb:=(hS _).2 (.inr (.inr (.inl rfl)))
 have t2:S B.tp:=(hS _).2 (.inr (.inr (.inr rfl)))
 refine ba vU ⟨rfl,?_⟩
 refine v1 mB.eq_1 ?_
 have f0:aq H (H.new 224 [i64 k,u64 s]):=(ah.refl _ _).new _ _
 have b0:(H.new 224 [i64 k,u64 s]).own H.size=some [i64 k,u64 s]:=aE _ _ _
 have m0:=m.fresh f0
 generalize H.new 224 [i64 k,u64 s]=H0 at*
 have ff:ah S H H0:=f0.mono fun _ _ h=>h.elim
 obtain⟨tv,KH,_⟩:=m0.own
 refine v2 (ae KH) (ae b0) ?_
 refine(nP m0.cells g x k s).mono ?_
 rintro _ H1 (⟨cw,rfl,c1,e1⟩| ⟨tD,rfl,c1,e1⟩)
 ·refine vs ?_
  exact .inl ⟨cw,rfl,cD.same ⟨B,C,L,tops,ch,par,rfl,m0.aN c1 e1 rfl,l,hS⟩ (ff.trans (e1.mono fun z _ hz=>hC z hz))⟩
 obtain⟨hh,hx,bQ⟩:=id tD
 have m2:=m0.aN c1 e1 (by simp[Nw.put])
 have hg:=hh.1
 have dD:g<tops.length:=by
  have:=(anA.1 hh.2).1
  have:=l.tl
  omega
 have cV:=fun y=>eC hx (g,k,s) y
 have bo:T5 (aI (w.put x (g,k,s))) (aU (w.put x (g,k,s))) ch par (bm tops) g x:=by
  refine l.t.ins rfl (Int.not_lt.1 fun h=>bQ (bK.1 h)) (by omega) (by omega) (by rw[cV,if_pos rfl]) (fun y hy=>by rw[cV,if_neg hy]) (fun a b ha hb tT oS=>dI hx _ ha hb tT oS)
 obtain⟨cc,lt,o2,q2,Cz,yz,Nq⟩:=m2.hG
 have q3:=m2.fB q2 (dY (tops:=tops) (h:=g) (by omega) dD)
 refine vs ?_
 refine rq.intro (fun H'=>H'.own B.n=some [ptr B.c,.slice (some ⟨B.tb,0,none⟩) L.length L.length,.slice (some ⟨B.tp,0,none⟩) tops.length cc]) o2 ?_
 refine vs ?_
 refine oQ.intro (.slice (some ⟨B.tp,0,none⟩) tops.length cc) (fun H' hI=>by refine v1 (ae hI) ?_;trivial) ?_
 refine v1 (ae o2) ?_
 refine And.intro o2 ?_
 refine vs ?_
 refine⟨⟨by omega,by omega⟩,?_⟩
 refine v4 (ae q2) anB anD q3 ?_
 refine And.intro o2 ?_
 refine vs ?_
 have bw:=bo.w
 rw[show ws [bm tops g,x]=ws [bm tops g,x]++[] by simp]at bw
 refine(di m2 bw l.pl).mono ?_
 rintro _ H3 ⟨r,L3,Nr,sE,rfl,_,m3,w3,p3,e3⟩
 rw[aow]at w3
 have bn:=bo.done w3
 obtain⟨d1,d2,d3⟩:=m2.rl
 have no:¬ (C B.n∨B.n=B.tb):=by rintro(h|h);exact m2.out.1 h;omega
 refine And.intro (e3.own o2 no) ?_
 have q4:=e3.own q2 (by rintro(h|h);exact m2.out.2.2 h;omega)
 refine vs ?_
 refine⟨⟨by omega,by omega⟩,?_⟩
 refine v3 q4 anB anD ?_
 refine⟨by omega,?_⟩
 obtain⟨m4,e4⟩:=m3.nS q4 g.toNat r
 refine And.intro (e4.own (e3.own o2 no) d2) ?_
 refine vs ?_
 refine .inr ⟨tD,rfl,cD.same ⟨B,C,L3,_,Nr,sE,rfl,m4,⟨?_,p3,by rw[anC];exact l.tl⟩,hS⟩ (((ff.trans (e1.mono fun z _ h=>hC z h)).trans (e3.mono fun z _ h=>by rcases h with h|rfl;exact hC z h;exact t1)).trans (e4.mono fun z _ h=>h▸t2))⟩
 rw[eV (by omega) dD]
 exact bn
theorem MI.below{w:Nw}{L:List Lk}{tops:List Int}{ch:Int→List Int}{par:Int→Int}(l:MI w L tops ch par){x:Int}(hx:0<aI w x)(ht:bm tops (aI w x)≠x):∃p l1 l2,ch p=l1++x::l2:=by
 have hp:par x≠ -1:=fun h=>ht (l.t.tp.t2 x hx h)
 obtain⟨l1,l2,h⟩:=List.append_of_mem (l.t.pr.up x _ rfl hp)
 exact⟨par x,l1,l2,h⟩
set_option maxRecDepth 100000 in
theorem wA{n:Nat}{H:Hp}{S:Nat→Prop}{w:Nw}(h:dL n H S w)(x k s:Int):ai Tryz.prog kw [ptr n,i64 x,wq k s] H fun v H'=>ay (
  (¬w.de x k s∧v= .bool false∧cD (dL n) S H H' w)∨(w.de x k s∧v= .bool true∧∃y,w.cs[x.toNat]? =some y∧cD (dL n) S H H' (w.put x (y.1,k,s)))):=by
 obtain⟨B,C,L,tops,ch,par,rfl,m,l,hS⟩:=h
 have hC:∀z,C z→S z:=fun z h=>(hS z).2 (.inl h)
 have t1:S B.tb:=(hS _).2 (.inr (.inr (.inl rfl)))
 have t2:S B.tp:=(hS _).2 (.inr (.inr (.inr rfl)))
 refine ba tg ⟨rfl,?_⟩
 refine v1 kC.eq_1 ?_
 have f0:aq H (H.new 224 [i64 k,u64 s]):=(ah.refl _ _).new _ _
 have b0:(H.new 224 [i64 k,u64 s]).own H.size=some [i64 k,u64 s]:=aE _ _ _
 have m0:=m.fresh f0
 generalize H.new 224 [i64 k,u64 s]=H0 at*
 have ff:ah S H H0:=f0.mono fun _ _ h=>h.elim
 obtain⟨tv,KH,_⟩:=m0.own
 refine v2 (ae KH) (ae b0) ?_
 refine(jo m0.cells x k s).mono ?_
 rintro _ H1 (⟨cw,rfl,c1,e1⟩| ⟨bQ,rfl,y,hy,gk,c1,e1⟩)
 ·refine vs ?_
  exact .inl ⟨cw,rfl,cD.same ⟨B,C,L,tops,ch,par,rfl,m0.ext e1 (fun _ _ h=>h),l,hS⟩ (ff.trans (e1.mono fun _ _ h=>h.elim))⟩
 have rG:(w.put x (y.1,k,s)).cs.length=w.cs.length:=by simp[Nw.put]
 have m1:=m0.aN c1 e1 rG
 have CU:w.de x k s:=⟨bQ,fun z hz=>by rw[hy]at hz;injection hz with hz;rw[←hz];exact gk⟩
 have hx:0≤x∧x<w.cs.length:=⟨bQ.1,by have:=(anA.1 hy).1;have:=bQ.1;omega⟩
 have Rz:aI w x=y.1:=mZ bQ.1 hy
 have ec:=bK.2 bQ
 have hw:aI (w.put x (y.1,k,s))=aI w:=by
  funext z
  rw[eC hx]
  split
  ·rename_i e;rw[e,Rz]
  ·rfl
 have FZ:cZ (w.put x (y.1,k,s)).cs x:=bK.1 (by rw[hw];exact ec)
 obtain⟨Eg,o1,_⟩:=m1.own
 refine v1 (ae o1) ?_
 refine(dA m1.cells x).mono ?_
 rintro _ H2 (⟨cw,_,_⟩| ⟨_,rfl,c2,e2⟩)
 ·exact absurd FZ cw
 have m2:=m1.aN c2 e2 rfl
 have re:ah S H H2:=(ff.trans (e1.mono fun z _ h=>hC z h)).trans (e2.mono fun z _ h=>hC z h)
 have el:∀a b,0<aI w a→0<aI w b→a≠x→b≠x→aU (w.put x (y.1,k,s)) a b=aU w a b:=fun a b ha hb tT oS=>dI hx _ ha hb tT oS
 have ex:∀b,0<aI w b→b≠x→aU w x b=true→aU (w.put x (y.1,k,s)) x b=true:=fun b hb oS h=>CK bQ hy gk hb oS h
 have dD:aI w x<tops.length:=by
  have:=((m.cells.hm x).2 ec).2
  have:=l.tl
  omega
 obtain⟨cc,lt,o2,q2,Cz,yz,Nq⟩:=m2.hG
 have q3:=m2.fB q2 (dY (tops:=tops) (h:=aI w x) (by omega) dD)
 rw[hw]
 refine v1 (ae o2) ?_
 refine⟨⟨by omega,by omega⟩,?_⟩
 refine v4 (ae q2) anB anD q3 ?_
 refine am.dec (fun gt=>?_) (fun gt=>?_)<;>refine vs ?_
 ·have hu:par x= -1:=by
   have:=(l.t.tp.t1 (aI w x) (by rw[gt];omega)).2.2
   rwa[gt]at this
  refine .inr ⟨CU,rfl,y,hy,cD.same ⟨B,C,L,tops,ch,par,rfl,m2,⟨?_,l.pl,l.tl⟩,hS⟩ re⟩
  rw[hw]
  exact l.t.Ur hu el ex
 obtain⟨p,l1,l2,hp⟩:=l.below ec gt
 have po:=(l.t.off hp).low el ex
 refine(tI m2 (au w) (by rw[hw];exact l.t.pr) l.pl hp).mono ?_
 rintro _ H4 ⟨L4,m4,p4,e4⟩
 have zE:ah S H H4:=re.trans (e4.mono fun z _ h=>h▸t1)
 rw[←hw]at po
 have dD:aI (w.put x (y.1,k,s)) x<tops.length:=by rw[hw];exact dD
 have SN:=po.g0
 refine vs ?_
 generalize hg:aI (w.put x (y.1,k,s)) x=g at*
 rw[←hw,hg]
 obtain⟨cc,lt,o4,q2,Cz,yz,Nq⟩:=m4.hG
 have q3:=m4.fB q2 (dY (tops:=tops) (h:=g) (by omega) dD)
 refine rq.intro (fun H'=>H'.own B.n=some [ptr B.c,.slice (some ⟨B.tb,0,none⟩) L4.length L4.length,.slice (some ⟨B.tp,0,none⟩) tops.length cc]) o4 ?_
 refine vs ?_
 refine oQ.intro (.slice (some ⟨B.tp,0,none⟩) tops.length cc) (fun H' hI=>by refine v1 (ae hI) ?_;trivial) ?_
 refine v1 (ae o4) ?_
 refine And.intro o4 ?_
 refine vs ?_
 refine⟨⟨by omega,by omega⟩,?_⟩
 refine v4 (ae q2) anB anD q3 ?_
 refine And.intro o4 ?_
 refine vs ?_
 have bw:=po.w
 rw[show ws [bm tops g,x]=ws [bm tops g,x]++[] by simp]at bw
 refine(di m4 bw p4).mono ?_
 rintro _ H5 ⟨r,L5,Zz,QY,rfl,_,m5,w5,p5,e5⟩
 rw[aow]at w5
 have bn:=po.done w5
 obtain⟨d1,d2,d3⟩:=m4.rl
 have no:¬ (C B.n∨B.n=B.tb):=by rintro(h|h);exact m4.out.1 h;omega
 refine And.intro (e5.own o4 no) ?_
 have q4:=e5.own q2 (by rintro(h|h);exact m4.out.2.2 h;omega)
 refine vs ?_
 refine⟨⟨by omega,by omega⟩,?_⟩
 refine v3 q4 anB anD ?_
 refine⟨by omega,?_⟩
 obtain⟨m6,e6⟩:=m5.nS q4 g.toNat r
 refine And.intro (e6.own (e5.own o4 no) d2) ?_
 refine vs ?_
 refine .inr ⟨CU,rfl,y,hy,cD.same ⟨B,C,L5,_,Zz,QY,rfl,m6,⟨?_,p5,by rw[anC];exact l.tl⟩,hS⟩ ((zE.trans (e5.mono fun z _ h=>by rcases h with h|rfl;exact hC z h;exact t1)).trans (e6.mono fun z _ h=>h▸t2))⟩
 rw[eV (by omega) dD]
 exact bn
set_option maxRecDepth 100000 in
set_option maxHeartbeats 1000000 in
theorem zM{n:Nat}{H:Hp}{S:Nat→Prop}{w:Nw}(h:dL n H S w)(x:Int):ai Tryz.prog vJ [ptr n,i64 x] H fun v H'=>ay (
  (¬cZ w.cs x∧v= .bool false∧cD (dL n) S H H' w)∨(cZ w.cs x∧v= .bool true∧cD (dL n) S H H' (w.put x (0,0,0)))):=by
 obtain⟨B,C,L,tops,ch,par,rfl,m,l,hS⟩:=id h
 have hC:∀z,C z→S z:=fun z h=>(hS z).2 (.inl h)
 have t1:S B.tb:=(hS _).2 (.inr (.inr (.inl rfl)))
 have t2:S B.tp:=(hS _).2 (.inr (.inr (.inr rfl)))
 obtain⟨tv,o0,_⟩:=m.own
 refine ba vT ⟨rfl,?_⟩
 refine v2 mA.eq_1 (ae o0) ?_
 refine(dA m.cells x).mono ?_
 rintro _ H1 (⟨cw,rfl,rfl⟩| ⟨bQ,rfl,c1,e1⟩)
 ·refine vs ?_
  exact .inl ⟨cw,rfl,cD.same h (ah.refl _ _)⟩
 have m1:=m.aN c1 e1 rfl
 have ec:=bK.2 bQ
 obtain⟨ik,kj,_⟩:=aH ec
 have Ge:x≠ -1:=by omega
 have ls:=au w
 have cV:=fun y=>eC (w:=w) ⟨ik,kj⟩ (0,0,0) y
 have p0:aI (w.put x (0,0,0)) (-1)=0:=rfl
 have p1:aI (w.put x (0,0,0)) x=0:=by rw[cV,if_pos rfl]
 have p2:∀y,y≠x→aI (w.put x (0,0,0)) y=aI w y:=fun y hy=>by rw[cV,if_neg hy]
 have el:∀a b,0<aI w a→0<aI w b→a≠x→b≠x→aU (w.put x (0,0,0)) a b=aU w a b:=fun a b ha hb tT oS=>dI ⟨ik,kj⟩ _ ha hb tT oS
 have rG:(w.put x (0,0,0)).cs.length=w.cs.length:=by simp[Nw.put]
 have dD:aI w x<tops.length:=by
  have:=((m.cells.hm x).2 ec).2
  have:=l.tl
  omega
 have e11:ah S H H1:=e1.mono fun z _ h=>hC z h
 obtain⟨cc,lt,o1,q2,Cz,yz,Nq⟩:=m1.hG
 have q3:=m1.fB q2 (dY (tops:=tops) (h:=aI w x) (by omega) dD)
 obtain⟨d1,d2,d3⟩:=m1.rl
 have no:¬ (C B.n∨B.n=B.tb):=by rintro(h|h);exact m1.out.1 h;omega
 have no2:¬ (C B.tp∨B.tp=B.tb):=by rintro(h|h);exact m1.out.2.2 h;omega
 refine v1 (ae o1) ?_
 refine⟨⟨by omega,by omega⟩,?_⟩
 refine v4 (ae q2) anB anD q3 ?_
 refine am.dec (fun gt=>?_) (fun gt=>?_)<;>refine vs ?_
 ·have hu:par x= -1:=by
   have:=(l.t.tp.t1 (aI w x) (by rw[gt];omega)).2.2
   rwa[gt]at this
  refine rq.intro (fun H'=>H'.own B.n=some [ptr B.c,.slice (some ⟨B.tb,0,none⟩) L.length L.length,.slice (some ⟨B.tp,0,none⟩) tops.length cc]) o1 ?_
  refine vs ?_
  refine oQ.intro (.slice (some ⟨B.tp,0,none⟩) tops.length cc) (fun H' hI=>by refine v1 (ae hI) ?_;trivial) ?_
  refine vs ?_
  refine(me m1 l.t.pr l.pl ec).mono ?_
  rintro _ H2 ⟨r,L2,om,mc,rfl,m2,pl2,w2,e2⟩
  refine And.intro (e2.own o1 no) ?_
  have q4:=e2.own q2 no2
  refine vs ?_
  refine⟨⟨by omega,by omega⟩,?_⟩
  refine v3 q4 anB anD ?_
  refine⟨by omega,?_⟩
  obtain⟨m3,e3⟩:=m2.nS q4 (aI w x).toNat r
  refine And.intro (e3.own (e2.own o1 no) d2) ?_
  obtain⟨Zh,o3,_⟩:=m3.own
  refine v1 (ae o3) ?_
  refine(ck m3.cells x).mono ?_
  rintro _ H4 (⟨cw,_,_⟩| ⟨_,rfl,c4,e4⟩)
  ·exact absurd bQ cw
  have m4:=m3.aN c4 e4 rG
  refine vs ?_
  have w3:=w2.drop (x:=x) ⟨ec,hu⟩ (by rw[w2.fr x ⟨ec,hu⟩];unfold aA;rw[if_pos rfl]) ((w2.mj x ec).2 (.inr ⟨ec,hu⟩)) p0 p1 p2 el
  refine .inr ⟨bQ,rfl,cD.same ⟨B,C,L2,_,om,mc,rfl,m4,⟨?_,pl2,by rw[anC];exact l.tl⟩,hS⟩ (((e11.trans (e2.mono fun z _ h=>by rcases h with h|rfl;exact hC z h;exact t1)).trans (e3.mono fun z _ h=>h▸t2)).trans (e4.mono fun z _ h=>hC z h))⟩
  rw[eV (by omega) dD]
  refine⟨w3.pr,w3.done (fun h aS hh=>?_) (fun y hy=>?_)⟩
  ·obtain⟨g1,g2,g3⟩:=l.t.tp.t1 h hh
   have hn:bm tops h≠x:=fun e=>aS (by rw[←g1,e])
   exact⟨by rw[p2 _ hn];exact g1,g2,⟨by omega,g3⟩,hn⟩
  ·have h5:=l.t.tp.t2 y hy.1.1 hy.1.2
   rw[p2 _ hy.2]
   exact⟨fun e=>by rw[e,gt]at h5;exact hy.2 h5.symm,h5⟩
 obtain⟨p,l1,l2,hp⟩:=l.below ec gt
 have po:=l.t.off hp
 refine(tI m1 ls l.t.pr l.pl hp).mono ?_
 rintro _ H2 ⟨L2,m2,pl2,e2⟩
 have re:ah S H H2:=e11.trans (e2.mono fun z _ h=>h▸t1)
 have hu:=po.ox.2.2
 obtain⟨cc,lt,o2,q2,Cz,yz,Nq⟩:=m2.hG
 have q3:=m2.fB q2 (dY (tops:=tops) (h:=aI w x) (by omega) dD)
 refine vs ?_
 refine rq.intro (fun H'=>H'.own B.n=some [ptr B.c,.slice (some ⟨B.tb,0,none⟩) L2.length L2.length,.slice (some ⟨B.tp,0,none⟩) tops.length cc]) o2 ?_
 refine vs ?_
 refine oQ.intro (.slice (some ⟨B.tp,0,none⟩) tops.length cc) (fun H' hI=>by refine v1 (ae hI) ?_;trivial) ?_
 refine vs ?_
 refine oQ.intro (.slice (some ⟨B.tp,0,none⟩) tops.length cc) (fun H' hI=>by refine v1 (ae hI) ?_;trivial) ?_
 refine vs ?_
 refine⟨⟨by omega,by omega⟩,?_⟩
 refine vs ?_
 refine He.intro ?_ ?_
 ·refine v4 (ae q2) anB anD q3 ?_
  refine And.intro o2 ?_
  refine vs ?_
  refine(me m2 po.pr pl2 ec).mono ?_
  rintro _ H3 ⟨r,L3,Nr,sE,rfl,m3,Ug,w3,e3⟩
  refine And.intro (e3.own o2 no) ?_
  have q4:=e3.own q2 no2
  refine vs ?_
  have w4:=w3.cG (t:=bm tops (aI w x)) (fun hh=>by
   obtain⟨g1,g2,g3⟩:=po.t1 _ hh
   exact⟨⟨by omega,g3⟩,g1⟩)
  rw[←pG,show ws [bm tops (aI w x),r]=ws [bm tops (aI w x),r]++[] by simp]at w4
  refine(di m3 w4 Ug).mono ?_
  rintro _ H4 ⟨r2,L4,Vj,KW,rfl,_,m4,w5,XO,e4⟩
  rw[aow]at w5
  refine And.intro (e4.own (e3.own o2 no) no) ?_
  have q5:=e4.own q4 no2
  refine vs ?_
  refine⟨⟨by omega,by omega⟩,?_⟩
  refine v3 q5 anB anD ?_
  refine⟨by omega,?_⟩
  obtain⟨m5,e5⟩:=m4.nS q5 (aI w x).toNat r2
  refine And.intro (e5.own (e4.own (e3.own o2 no) no) d2) ?_
  obtain⟨tv5,o5,_⟩:=m5.own
  refine v1 (ae o5) ?_
  refine(ck m5.cells x).mono ?_
  rintro _ H6 (⟨cw,_,_⟩| ⟨_,rfl,c6,e6⟩)
  ·exact absurd bQ cw
  have m6:=m5.aN c6 e6 rG
  refine vs ?_
  have hR:(0<aI w x∧aK par x (-1) x= -1)∧x≠bm tops (aI w x):=⟨⟨ec,hu⟩,fun e=>po.nx e.symm⟩
  have je:aA (aA ch p (l1++l2)) x [] x=[]:=by unfold aA;rw[if_pos rfl]
  have w6:=w5.drop (x:=x) hR (by rw[w5.fr x hR];exact je) ((w5.mj x ec).2 (.inr hR)) p0 p1 p2 el
  refine .inr ⟨bQ,rfl,cD.same ⟨B,C,L4,_,Vj,KW,rfl,m6,⟨?_,XO,by rw[anC];exact l.tl⟩,hS⟩ ((((re.trans (e3.mono fun z _ h=>by rcases h with h|rfl;exact hC z h;exact t1)).trans (e4.mono fun z _ h=>by rcases h with h|rfl;exact hC z h;exact t1)).trans (e5.mono fun z _ h=>h▸t2)).trans (e6.mono fun z _ h=>hC z h))⟩
  rw[eV (by omega) dD]
  refine⟨w6.pr,w6.done (fun h aS hh=>?_) (fun y hy=>?_)⟩
  ·obtain⟨g1,g2,g3⟩:=po.t1 h hh
   have hn:bm tops h≠x:=fun e=>aS (by rw[←g1,e])
   have BI:bm tops h≠bm tops (aI w x):=fun e=>by
    by_cases h4:bm tops (aI w x)= -1
    ·rw[e]at hh;exact hh h4
    ·have:=(po.t1 _ h4).1
     rw[←e,g1]at this
     exact aS this
   exact⟨by rw[p2 _ hn];exact g1,g2,⟨⟨by omega,g3⟩,BI⟩,hn⟩
  ·have h5:=po.t2 y hy.1.1.1 hy.1.1.2 hy.2
   rw[p2 _ hy.2]
   exact⟨fun e=>by rw[e]at h5;exact hy.1.2 h5.symm,h5⟩
 ·refine vs ?_
  refine(me m2 po.pr pl2 ec).mono ?_
  rintro _ H3 ⟨r,L3,Nr,sE,rfl,m3,Ug,w3,e3⟩
  refine And.intro (e3.own o2 no) ?_
  have q4:=e3.own q2 no2
  refine vs ?_
  have q6:=m3.fB q4 (dY (tops:=tops) (h:=aI w x) (by omega) dD)
  refine v4 (ae q4) anB anD q6 ?_
  refine And.intro (e3.own o2 no) ?_
  refine vs ?_
  have w4:=w3.cG (t:=bm tops (aI w x)) (fun hh=>by
   obtain⟨g1,g2,g3⟩:=po.t1 _ hh
   exact⟨⟨by omega,g3⟩,g1⟩)
  rw[←pG,show ws [bm tops (aI w x),r]=ws [bm tops (aI w x),r]++[] by simp]at w4
  refine(di m3 w4 Ug).mono ?_
  rintro _ H4 ⟨r2,L4,Vj,KW,rfl,_,m4,w5,XO,e4⟩
  rw[aow]at w5
  refine And.intro (e4.own (e3.own o2 no) no) ?_
  have q5:=e4.own q4 no2
  refine vs ?_
  refine⟨⟨by omega,by omega⟩,?_⟩
  refine v3 q5 anB anD ?_
  refine⟨by omega,?_⟩
  obtain⟨m5,e5⟩:=m4.nS q5 (aI w x).toNat r2
  refine And.intro (e5.own (e4.own (e3.own o2 no) no) d2) ?_
  obtain⟨tv5,o5,_⟩:=m5.own
  refine v1 (ae o5) ?_
  refine(ck m5.cells x).mono ?_
  rintro _ H6 (⟨cw,_,_⟩| ⟨_,rfl,c6,e6⟩)
  ·exact absurd bQ cw
  have m6:=m5.aN c6 e6 rG
  refine vs ?_
  have hR:(0<aI w x∧aK par x (-1) x= -1)∧x≠bm tops (aI w x):=⟨⟨ec,hu⟩,fun e=>po.nx e.symm⟩
  have je:aA (aA ch p (l1++l2)) x [] x=[]:=by unfold aA;rw[if_pos rfl]
  have w6:=w5.drop (x:=x) hR (by rw[w5.fr x hR];exact je) ((w5.mj x ec).2 (.inr hR)) p0 p1 p2 el
  refine .inr ⟨bQ,rfl,cD.same ⟨B,C,L4,_,Vj,KW,rfl,m6,⟨?_,XO,by rw[anC];exact l.tl⟩,hS⟩ ((((re.trans (e3.mono fun z _ h=>by rcases h with h|rfl;exact hC z h;exact t1)).trans (e4.mono fun z _ h=>by rcases h with h|rfl;exact hC z h;exact t1)).trans (e5.mono fun z _ h=>h▸t2)).trans (e6.mono fun z _ h=>hC z h))⟩
  rw[eV (by omega) dD]
  refine⟨w6.pr,w6.done (fun h aS hh=>?_) (fun y hy=>?_)⟩
  ·obtain⟨g1,g2,g3⟩:=po.t1 h hh
   have hn:bm tops h≠x:=fun e=>aS (by rw[←g1,e])
   have BI:bm tops h≠bm tops (aI w x):=fun e=>by
    by_cases h4:bm tops (aI w x)= -1
    ·rw[e]at hh;exact hh h4
    ·have:=(po.t1 _ h4).1
     rw[←e,g1]at this
     exact aS this
   exact⟨by rw[p2 _ hn];exact g1,g2,⟨⟨by omega,g3⟩,BI⟩,hn⟩
  ·have h5:=po.t2 y hy.1.1.1 hy.1.1.2 hy.2
   rw[p2 _ hy.2]
   exact⟨fun e=>by rw[e]at h5;exact hy.1.2 h5.symm,h5⟩
theorem xR{n:Nat}{H:Hp}{S:Nat→Prop}{w:Nw}(h:dL n H S w)(g:Int):ai Tryz.prog lh [ptr n,i64 g] H fun v H'=>ay (
  (w.len g=0∧v= .tuple [i64 0,.bool false].toArray∧cD (dL n) S H H' w)∨(∃x,w.first g x∧v= .tuple [i64 x,.bool true].toArray∧cD (dL n) S H H' (w.put x (0,0,0)))):=by
 refine ba ur ⟨rfl,?_⟩
 refine v1 fw.eq_1 ?_
 refine(tJ h g).mono ?_
 rintro _ _ ⟨⟨h0,rfl⟩| ⟨x,hx,rfl⟩,rfl⟩
 ·refine vs ?_
  exact .inl ⟨h0,rfl,cD.same h (ah.refl _ _)⟩
 ·refine vs ?_
  refine(zM h x).mono ?_
  rintro _ H1 (⟨cw,_,_⟩| ⟨_,rfl,h1⟩)
  ·exact absurd (bK.1 (by have:=bO.1 hx;omega)) cw
  refine vs ?_
  exact .inr ⟨x,hx,rfl,h1⟩
theorem KX(n:Nat):zW (.iface 202 (ptr n)) (dL n) where
 slt h:=h.slt
 ext h e hd:=h.ext e hd
 cells:=by
  rintro H S w ⟨B,C,L,tops,ch,par,rfl,m,l,hS⟩
  exact⟨B.c,C,m.cells⟩
 has:=by
  rintro H S w g ⟨B,C,L,tops,ch,par,rfl,m,l,hS⟩
  obtain⟨tv,ho,_⟩:=m.own
  exact⟨_,_,bF,ptr B.c,rfl,hX (off:=0) (by kernel_rfl) (ae ho) rfl,(kJ m.cells g).mono fun v H' hp=>hp⟩
 make:=by
  intro H S w h
  exact⟨_,_,ph,ptr n,rfl,bE (by kernel_rfl),(C7 h).mono fun v H' hp=>hp⟩
 insert:=by
  intro H S w g x k s h
  exact⟨_,_,mw,ptr n,rfl,bE (by kernel_rfl),(zL h g x k s).mono fun v H' hp=>hp⟩
 min:=by
  intro H S w g h
  refine⟨_,_,p8,ptr n,rfl,bE (by kernel_rfl),(tJ h g).mono ?_⟩
  rintro v H' ⟨⟨h1,rfl⟩| ⟨x,h1,rfl⟩,rfl⟩
  ·exact .inl ⟨h1,rfl,cD.same h (ah.refl _ _)⟩
  ·exact .inr ⟨x,h1,rfl,cD.same h (ah.refl _ _)⟩
 extract:=by
  intro H S w g h
  exact⟨_,_,lh,ptr n,rfl,bE (by kernel_rfl),(xR h g).mono fun v H' hp=>hp⟩
 qG:=by
  intro H S w x k s h
  exact⟨_,_,kw,ptr n,rfl,bE (by kernel_rfl),(wA h x k s).mono fun v H' hp=>hp⟩
 entry:=by
  rintro H S w x ⟨B,C,L,tops,ch,par,rfl,m,l,hS⟩
  obtain⟨tv,ho,_⟩:=m.own
  refine⟨_,_,bj,ptr B.c,rfl,hX (off:=0) (by kernel_rfl) (ae ho) rfl,(jn m.cells x).mono ?_⟩
  rintro v H' ⟨c1,f,hv⟩
  exact⟨⟨B,C,L,tops,ch,par,rfl,m.fresh f,l,hS⟩,f,hv⟩
section
variable {H H' : Hp} {ro ro' : Nat → Rl} {fb tb n : Nat} {l : List Value} {V : Int → Value} {ch : Int → List Int} {par : Int → Int} {kb : Int → Option Nat} {T : Nat → Prop}
theorem xS(m:ForM H ro fb tb n l V ch par kb){a:Option Addr}{c:Nat}{xs:List Int}(h:da H 1 (.slice a xs.length c) xs.length (xs.map i64))(hr:∀x∈xs,(0≤x∧x<n)∧par x= -1)(hR:Gu ch xs)(hm:xs.length≤1000000):
  ai Tryz.prog Av [ptr fb,.slice a xs.length c] H fun v H'=>ay (v= .bool true∧H'=H):=by
 refine ba AY ⟨rfl,?_⟩
 refine v1 jU.eq_1 ?_
 refine bA.intro (fun m env H'=>H'=H∧∃j:Nat,m=xs.length - j∧j≤xs.length∧env=[(0,ptr fb),(1,.slice a xs.length c),(7,.slice a xs.length c),(8,i64 xs.length),(9,i64 j)]) xs.length ⟨rfl,0,by omega,by omega,rfl⟩ ?_
 rintro mm env H1 ⟨e1,j,rfl,hj,rfl⟩
 obtain rfl:=e1.symm
 refine vs ?_
 refine am.dec (fun aR=>?_) (fun aR=>?_)<;>refine vs ?_
 ·have jk:j<xs.length:=by omega
  obtain⟨x,hx⟩:∃x,xs[j]? =some x:=⟨_,anx jk⟩
  obtain⟨_,b,o,lb,rfl,Bn,bM⟩:=da.num h hx
  obtain⟨kj,G2⟩:=hr x (anG hx)
  refine⟨⟨by omega,by omega⟩,?_⟩
  refine v4 Bn Int.toNat_natCast anD bM ?_
  refine(jz m.t x).mono ?_
  rintro _ H' ⟨rfl,e⟩
  obtain rfl:=e.symm
  rw[anQ kj,anQ G2]
  refine vs ?_
  refine am.dec (fun h0=>?_) (fun h0=>?_)
  ·obtain⟨k,rfl⟩:∃k,j=k+1:=⟨j - 1,by omega⟩
   obtain⟨y,hy⟩:∃y,xs[k]? =some y:=⟨_,anx (by omega)⟩
   obtain⟨_,b',o',UJ,ye,XL,XQ⟩:=da.num h hy
   injection ye with ye
   injection ye with agp LA
   subst agp LA
   have Ew:(ch y).length< (ch x).length:=by
    have:=aoZ.1 hR k (k+1) (by omega) (by omega) (by omega)
    rw[anx (by omega)]at hx hy
    injection hx with hx
    injection hy with hy
    rw[hx,hy]at this
    exact this
   refine vs ?_
   rw[wrap64 (n:=((k+1:Nat):Int) - 1) (by omega) (by omega),show((k+1:Nat):Int) - 1=(k:Int) by omega]
   refine⟨⟨by omega,by omega⟩,?_⟩
   refine v4 XL Int.toNat_natCast anD XQ ?_
   refine(dh m y).mono ?_
   rintro _ H' ⟨rfl,e⟩
   obtain rfl:=e.symm
   refine vs ?_
   refine(dh m x).mono ?_
   rintro _ H' ⟨rfl,e⟩
   obtain rfl:=e.symm
   refine vs ?_
   refine am.dec (fun SU=>by omega) (fun _=>?_)
   refine vs ?_
   rw[wrap64 (n:=((k+1:Nat):Int)+1) (by omega) (by omega)]
   exact⟨xs.length - (k+1+1),by omega,trivial,k+1+1,rfl,by omega,rfl⟩
  ·refine vs ?_
   rw[wrap64 (n:=(j:Int)+1) (by omega) (by omega)]
   exact⟨xs.length - (j+1),by omega,trivial,j+1,rfl,by omega,rfl⟩
 ·exact⟨rfl,rfl⟩
theorem tK(t:qD H fb tb n l V par){x:Int}(hx:0≤x∧x<n){kv:Value}{m:Nat}{ks:List Int}{fp:Option Nat}(s:Sl H 1 kv m (ks.map i64) fp)(jv:fp≠some tb)(bQ:∀k∈ks,0≤k∧k<n)(hl:ks.length≤1000000):
  ai Tryz.prog wP [ptr fb,i64 x,kv] H fun v H'=>ay (∃l',qD H' fb tb n l' (xF V x kv) (fun z=>if z∈ks then x else par z)∧ah (fun z=>z=tb) H H'):=by
 obtain rfl:m=ks.length:=by
  have:=s.1
  rw[anW,anD]at this
  exact this.symm
 obtain⟨ka,kc,rfl⟩:=Sl.shape s
 have ol:=t.len
 refine ba xj ⟨rfl,?_⟩
 refine v2 gL.eq_1 (ae t.own) ?_
 refine⟨⟨by omega,by omega⟩,?_⟩
 refine v3 t.Gg anB Nat.add_zero ?_
 refine⟨by omega,?_⟩
 obtain⟨t1,e1⟩:=t.xF hx (.slice ka ks.length kc)
 refine vs ?_
 have s1:=s.ext e1 (fun b hb e=>jv (by rw[hb,e]))
 have vF:=t1.len
 generalize H.wr tb (l.set (x.toNat*2) (.slice ka ks.length kc))=H1 at*
 refine bA.intro (fun mm env H'=>∃ (j:Nat) (l':List Value),mm=ks.length - j∧j≤ks.length∧qD H' fb tb n l' (xF V x (.slice ka ks.length kc)) (fun z=>if z∈ks.take j then x else par z)∧ah (fun z=>z=tb) H1 H'∧
  env=[(0,ptr fb),(1,i64 x),(16,.slice ka ks.length kc),(17,i64 ks.length),(18,i64 j)]) ks.length ⟨0,_,by omega,by omega,by simpa using t1,ah.refl _ _,rfl⟩ ?_
 rintro mm env H2 ⟨j,l2,rfl,hj,t2,e2,rfl⟩
 have s2:=s1.ext e2 (fun b hb e=>jv (by rw[hb,e]))
 have wC:=t2.len
 refine vs ?_
 refine am.dec (fun aR=>?_) (fun aR=>?_)<;>refine vs ?_
 ·have jk:j<ks.length:=by omega
  obtain⟨k,hk⟩:∃k,ks[j]? =some k:=⟨_,anx jk⟩
  obtain⟨_,b,lb,rfl,q2,q3⟩:=Sl.Bl s2 hk
  have Zp:=bQ k (anG hk)
  refine⟨⟨by omega,by omega⟩,?_⟩
  refine v6 (ae q2) anB anD Int.toNat_natCast q3 (ae t2.own) ?_
  refine⟨⟨by omega,by omega⟩,?_⟩
  refine v3 t2.Gg anB Nat.add_zero ?_
  refine⟨by omega,?_⟩
  obtain⟨t3,e3⟩:=t2.aK Zp x
  refine vs ?_
  rw[wrap64 (n:=(j:Int)+1) (by omega) (by omega)]
  refine⟨ks.length - (j+1),by omega,j+1,l2.set (k.toNat*2+1) (i64 x),rfl,by omega,?_,e2.trans e3,rfl⟩
  have tk:ks.take (j+1)=ks.take j++[k]:=by rw[aoi,hk];rfl
  have:(fun z=>if z∈ks.take (j+1)then x else par z)=aK (fun z=>if z∈ks.take j then x else par z) k x:=by
   funext z
   unfold aK
   rw[tk]
   by_cases hz:z=k
   ·rw[if_pos (by simp[hz]),if_pos hz]
   ·rw[if_neg hz]
    by_cases h2:z∈ks.take j
    ·rw[if_pos (aoh _ h2)]
     exact(if_pos h2).symm
    ·rw[if_neg (by simp[h2,hz])]
     exact(if_neg h2).symm
  rw[this]
  exact t3
 ·obtain rfl:j=ks.length:=by omega
  rw[aod]at t2
  exact⟨l2,t2,e1.trans e2⟩
theorem RK.kbs{s:Nat}(r:RK s ro ro'){z:Nat}(hz:z<s)(h:KB ro' z):KB ro z:=by
 rcases h with h| ⟨x,h⟩
 ·refine .inl ?_
  by_cases hk:∃x,ro z= .sM x
  ·obtain⟨x,hx⟩:=hk
   obtain⟨y,hy⟩:=r.k z x hz hx
   rw[hy]at h;cases h
  ·rw[←r.o z hz (fun x hx=>hk ⟨x,hx⟩)];exact h
 ·refine .inr ?_
  apply anX
  intro hk
  rw[r.o z hz (fun x hx=>hk ⟨x,hx⟩)]at h
  exact hk ⟨x,h⟩
set_option maxHeartbeats 1000000 in
theorem EG(m:ForM H ro fb tb n l V ch par kb)(hz:∀z,H.size≤z→ro z= .no){x:Int}(hx:0≤x∧x<n)(px:par x= -1)(hl:(ch x).length≤65536):
  ai Tryz.prog wO [ptr fb,i64 x] H fun v H'=>ay (∃ro' l' V' wx fp,ForM H' ro' fb tb n l' V' (aA ch x []) (gf ch par x) wx∧RK H.size ro ro'∧(∀z,H'.size≤z→ro' z= .no)∧ah (KB ro) H H'∧
   Sl H' 1 v (ch x).length ((ch x).map i64) fp∧∀b,fp=some b→H.size≤b∧ro' b= .no):=by
 have ht:=m.t.len
 obtain⟨a1,a2⟩:=m.t.at_ x hx.1 hx.2
 have kx:=m.kd x hx.1 hx.2
 obtain⟨ka,kc,ZA⟩:=Sl.shape kx
 rw[ZA]at a1 kx
 refine ba xh ⟨rfl,?_⟩
 refine v1 gK.eq_1 ?_
 refine(jz m.t x).mono ?_
 rintro _ H' ⟨rfl,e⟩
 obtain rfl:=e.symm
 rw[anQ hx,anQ px]
 refine v1 (ae m.t.own) ?_
 refine⟨⟨by omega,by omega⟩,?_⟩
 refine v5 (ae m.t.own) (ae m.t.Gg) anB Nat.add_zero a1 ?_
 refine⟨⟨by omega,by omega⟩,?_⟩
 refine v3 m.t.Gg anB Nat.add_zero ?_
 refine⟨by omega,?_⟩
 obtain⟨XR,ZB,m1,r1,n1,e1⟩:=m.put hz hx (ah.refl _ H) (Sl.nil H 1) (w':=.slice none 0 0) (L':=[]) (.inr (.inl rfl)) (by simp)
 refine vs ?_
 have abL:∀b,kb x=some b→b≠tb:=fun b hb e=>by
  have:=m.rk x b hx.1 hx.2 hb
  rw[e,m.rt]at this
  cases this
 have s1:=kx.ext (m.t.xF hx (.slice none 0 0)).2 (fun b hb=>abL b hb)
 generalize H.wr tb (l.set (x.toNat*2) (.slice none 0 0))=H1 at*
 refine bA.intro (fun mm env H'=>∃ (j:Nat) (l':List Value),mm=(ch x).length - j∧j≤(ch x).length∧ForM H' XR fb tb n l' (xF V x (.slice none 0 0)) (aA ch x []) (fun z=>if z∈(ch x).take j then -1 else par z) ZB∧ah (fun z=>z=tb) H1 H'∧
  env=[(0,ptr fb),(5,.slice ka (ch x).length kc),(27,.slice ka (ch x).length kc),(28,i64 (ch x).length),(29,i64 j)]) (ch x).length ⟨0,_,by omega,by omega,by simpa using m1,ah.refl _ _,rfl⟩ ?_
 rintro mm env H2 ⟨j,l2,rfl,hj,m2,e2,rfl⟩
 have s2:=s1.ext e2 (fun b hb=>abL b hb)
 have wC:=m2.t.len
 have hrt:XR tb= .table:=m2.rt
 refine vs ?_
 refine am.dec (fun aR=>?_) (fun aR=>?_)<;>refine vs ?_
 ·have jk:j< (ch x).length:=by omega
  obtain⟨k,hk⟩:∃k,(ch x)[j]? =some k:=⟨_,anx jk⟩
  obtain⟨_,b,lb,rfl,q2,q3⟩:=Sl.Bl s2 hk
  have Zp:=m.Iq x k (anG hk)
  refine⟨⟨by omega,by omega⟩,?_⟩
  refine v6 (ae q2) anB anD Int.toNat_natCast q3 (ae m2.t.own) ?_
  refine⟨⟨by omega,by omega⟩,?_⟩
  refine v3 m2.t.Gg anB Nat.add_zero ?_
  refine⟨by omega,?_⟩
  obtain⟨m3,_⟩:=m2.aK Zp (-1)
  obtain⟨_,e3⟩:=m2.t.aK Zp (-1)
  refine vs ?_
  rw[wrap64 (n:=(j:Int)+1) (by omega) (by omega)]
  refine⟨(ch x).length - (j+1),by omega,j+1,l2.set (k.toNat*2+1) (i64 (-1)),rfl,by omega,?_,e2.trans e3,rfl⟩
  have tk:(ch x).take (j+1)=(ch x).take j++[k]:=by rw[aoi,hk];rfl
  have:(fun z=>if z∈(ch x).take (j+1)then(-1:Int)else par z)=aK (fun z=>if z∈(ch x).take j then -1 else par z) k (-1):=by
   funext z
   unfold aK
   rw[tk]
   by_cases hz:z=k
   ·rw[if_pos (by simp[hz]),if_pos hz]
   ·rw[if_neg hz]
    by_cases h2:z∈(ch x).take j
    ·rw[if_pos (aoh _ h2)]
     exact(if_pos h2).symm
    ·rw[if_neg (by simp[h2,hz])]
     exact(if_neg h2).symm
  rw[this]
  exact m3
 ·obtain rfl:j=(ch x).length:=by omega
  rw[aod]at m2
  refine(rH s2.rd (by omega)).mono ?_
  rintro v H3 ⟨f3,fp,s3,jv⟩
  have z2:=e2.size
  have z1:=e1.size
  have z3:=f3.size
  refine vs ?_
  refine⟨XR,l2,_,ZB,fp,m2.fresh f3,r1,fun z ez=>n1 z (by omega),?_,s3,fun b hb=>⟨by have:=jv b hb;omega,n1 b (by have:=jv b hb;omega)⟩⟩
  exact(e1.trans (e2.mono fun z ez h=>.inl (by rw[h];exact m.rt))).trans (f3.mono fun _ _ h=>h.elim)
def pF(j k:Nat):List Value:=(List.replicate j [Value.slice none 0 0,Value.int .i64 (-1)]).flatten++(List.replicate k [Value.slice none 0 0,Value.int .i64 0]).flatten
theorem yt(j:Nat)(a b:Value):((List.replicate j [a,b]).flatten).length=j*2:=by
 induction j with
 |zero=>rfl
 |succ j ih=>rw[aor,aoI,anL,ih];simp;omega
theorem Tj{j i:Nat}(a b:Value)(hi:i<j):((List.replicate j [a,b]).flatten)[i*2]? =some a∧((List.replicate j [a,b]).flatten)[i*2+1]? =some b:=by
 induction j generalizing i with
 |zero=>omega
 |succ j ih=>
  rw[aor,aoI]
  cases i with
  |zero=>exact⟨rfl,rfl⟩
  |succ i=>
   have:=ih (i:=i) (by omega)
   rw[show(i+1)*2=i*2+1+1 by omega]
   exact this
theorem QZ(j k:Nat):(pF j k).length=(j+k)*2:=by unfold pF;rw[anL,yt,yt];omega
theorem Q0(j k:Nat):(pF j (k+1)).set (j*2+1) (Value.int .i64 (-1))=pF (j+1) k:=by
 unfold pF
 rw[apJ _ _ (by rw[yt];omega),yt,show j*2+1 - j*2=1 by omega,aor,aoI,apN,List.flatten_append]
 simp
theorem HL(H:Hp){n:Int}(hn:0≤n∧n≤65536):ai Tryz.prog LK [i64 n] H fun v H'=>ay (∃fb tb l,v= .tuple [ptr fb,i64 0].toArray∧qD H' fb tb n.toNat l (fun _=>.slice none 0 0) (fun _=> -1)∧aq H H'∧H.size≤fb∧H.size≤tb):=by
 refine ba LQ ⟨rfl,?_⟩
 refine v1 w7.eq_1 ?_
 refine am.dec (fun g=>absurd g (by omega)) (fun _=>?_)
 refine vs ?_
 refine am.dec (fun g=>absurd g (by omega)) (fun _=>?_)
 refine vs ?_
 refine⟨⟨by omega,by omega,by omega,by omega⟩,?_⟩
 refine vs ?_
 rw[show cN [Value.slice none 0 0,Value.int .i64 0] n.toNat=pF 0 n.toNat from rfl]
 obtain⟨N,hN⟩:∃N:Nat,n=(N:Int):=⟨n.toNat,by omega⟩
 subst hN
 rw[Int.toNat_natCast]
 have f0:aq H ((H.new 315 (pF 0 N)).new 313 [.slice (some ⟨H.size,0,none⟩) N N]):=((ah.refl _ _).new _ _).new _ _
 have t0:((H.new 315 (pF 0 N)).new 313 [.slice (some ⟨H.size,0,none⟩) N N]).own (H.size+1)=some [.slice (some ⟨H.size,0,none⟩) N N]:=bD (by simp only[ar])
 have t1:((H.new 315 (pF 0 N)).new 313 [.slice (some ⟨H.size,0,none⟩) N N]).own H.size=some (pF 0 N):=by
  rw[cz (by simp only[ar];omega),aE]
 generalize (H.new 315 (pF 0 N)).new 313 [.slice (some ⟨H.size,0,none⟩) N N]=H0 at*
 refine bA.intro (fun m env H'=>∃j:Nat,m=N - j∧j≤N∧ah (fun z=>z=H.size) H0 H'∧H'.own H.size=some (pF j (N - j))∧
  env=[(4,ptr (H.size+1)),(20,i64 N),(21,i64 j)]) N ⟨0,by omega,by omega,ah.refl _ _,t1,rfl⟩ ?_
 rintro m env H1 ⟨j,rfl,hj,e1,h1,rfl⟩
 have o1:=e1.own t0 (by omega)
 have vF:=QZ j (N - j)
 refine vs ?_
 refine am.dec (fun aR=>?_) (fun aR=>?_)<;>refine vs ?_
 ·refine v1 (ae o1) ?_
  refine⟨⟨by omega,by omega⟩,?_⟩
  refine v4 h1 anB Nat.add_zero Int.toNat_natCast ?_
  refine⟨by omega,?_⟩
  refine vs ?_
  have e2:ah (fun z=>z=H.size) H1 (H1.wr H.size ((pF j (N - j)).set (j*2+1) (Value.int .i64 (-1)))):=(ah.refl (fun z=>z=H.size) _).wr (fun _=>rfl) _
  have q2:(H1.wr H.size ((pF j (N - j)).set (j*2+1) (Value.int .i64 (-1)))).own H.size=some ((pF j (N - j)).set (j*2+1) (Value.int .i64 (-1))):=aj h1
  rw[wrap64 (n:=(j:Int)+1) (by omega) (by omega)]
  refine⟨N - (j+1),by omega,j+1,rfl,by omega,e1.trans e2,?_,rfl⟩
  rw[q2,show N - j=(N - (j+1))+1 by omega,Q0]
 ·obtain rfl:j=N:=by omega
  refine⟨H.size+1,H.size,_,rfl,⟨o1,h1,by rw[vF];omega,fun x h0 hx=>?_,by omega⟩,f0.then e1 (fun z hz=>by omega),by omega,by omega⟩
  unfold pF
  rw[aoJ,apP,List.flatten_nil,aow]
  exact Tj _ _ (by omega)
end
end Go.Proofs.YtjlnnljohemifaaGreat
