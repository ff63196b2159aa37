/- Texts put behind each other. -/
import Derived.Test.YthpjfeolagohkaaGreatK98
import Derived.Test.YthpjfeolagohkaaGreatK1
import Derived.Test.YthpjfeolagohkaaGreatK22
import Derived.Test.YthpjfeolagohkaaGreatK29
import Derived.Test.YthpjfeolagohkaaGreatK31
import Derived.Test.YthpjfeolagohkaaGreatK32
import Derived.Test.YthpjfeolagohkaaGreatK38
set_option maxRecDepth 100000
set_option maxHeartbeats 8000000
set_option linter.unusedVariables false
set_option linter.unusedSimpArgs false
namespace Go.Proofs.YthpjfeolagohkaaGreat
open Go Go.Vc
theorem oB{α:Type}(p:α→Bool):∀ {l:List α} {i:Nat} {y:α} (h:l[i]? =some y) (v:α),(l.set i v).countP p+(p y).toNat=l.countP p+(p v).toNat:=by
 intro l
 induction l with
 |nil=>intro i y h;simp at h
 |cons a r ih=>
  intro i y h v
  cases i with
  |zero=>
   simp at h
   subst h
   rw[arv,ard,ard]
   cases p a<;>cases p v<;>simp
  |succ i=>
   have:=ih (i:=i) (by simpa using h) v
   rw[aqU,ard,ard]
   omega
theorem TB{α β:Type}:∀ {L:List (α×β)},(L.map (·.1)).Nodup→∀ {a:α} {b c:β},(a,b)∈L→(a,c)∈L→b=c:=by
 intro L
 induction L with
 |nil=>intro _ a b c h;cases h
 |cons p L ih=>
  intro hd a b c h1 h2
  rw[aqY,aqu]at hd
  rcases aqC.1 h1 with h1|h1
  ·rcases aqC.1 h2 with h2|h2
   ·have:=h1.trans h2.symm
    injection this
   ·exact absurd (aqK.2 ⟨_,h2,by rw[←h1]⟩) hd.1
  ·rcases aqC.1 h2 with h2|h2
   ·exact absurd (aqK.2 ⟨_,h1,by rw[←h2]⟩) hd.1
   ·exact ih hd.2 h1 h2
theorem ez{α:Type}{l:List α}{i j:Nat}{v:α}(h:i≠j):(l.set i v)[j]? =l[j]? :=aqh h
theorem kq{α:Type}{l:List α}{i:Nat}{v x:α}(h:l[i]? =some x):(l.set i v)[i]? =some v:=aqi (aqc.1 h).1
theorem getD_set_ne{α:Type}{l:List α}{i j:Nat}{v d:α}(h:i≠j):(l.set i v).getD j d=l.getD j d:=by rw[aqf,aqf,ez h]
structure yf(es:List Ed)(n:Nat)(w:Nw)(A:Ar)(L:List ((Int×Nat)×Value))(sl:List Nat)(bl:List Int)(hl:List (Int×Nat)):Prop where
 hs:w.has 1
 len:A.g.length=n
 mo:A.mo=1
 wt:A.wt=[]
 nx:A.nx=L.length
 gn:∀x:Int,0≤x→A.bM x=if x<A.nx then 1 else 0
 lk:Uo w A
 ok:CJ A
 l1:sl.length=n
 l2:bl.length=n
 l3:hl.length=n
 two:∀x∈sl,x≤2
 c1:∀ (x:Int) y,0≤x→w.cs[x.toNat]? =some y→y.1=0∨(y.1=1∧∃v:Nat,sl[v]? =some 1∧hl[v]? =some (x,A.bM x)∧y.2.1=wE es (bl.getD v 0)∧((x,A.bM x),i64 v)∈L)
 c2:∀v:Nat,sl[v]? =some 1→∃x s,0≤x∧hl[v]? =some (x,A.bM x)∧w.cs[x.toNat]? =some (1,wE es (bl.getD v 0),s)∧((x,A.bM x),i64 v)∈L
 ls:∀p∈L,0≤p.1.1∧p.1.2≤A.bM p.1.1
 nd:(L.map (·.1)).Nodup
 le:L.length≤sl.countP (fun x=>decide (x≠0))
 cn:A.ct=sl.countP (fun x=>decide (x=1))
section
variable {es : List Ed} {n : Nat} {w : Nw} {A A' : Ar} {L : List ((Int × Nat) × Value)} {sl : List Nat} {bl : List Int} {hl : List (Int × Nat)}
theorem yf.aS(h:yf es n w A L sl bl hl):L.length≤n:=by
 have:=h.le
 have:=ar9 (p:=fun x:Nat=>decide (x≠0)) (l:=sl)
 have:=h.l1
 omega
theorem yf.Zc(h:yf es n w A L sl bl hl){x:Int}(x0:0≤x):A.bM x≤1:=by
 rw[h.gn x x0]
 split<;>omega
theorem yf.zero(es:List Ed)(n:Nat){bl:List Int}{hl:List (Int×Nat)}(h2:bl.length=n)(h3:hl.length=n):yf es n (As (n:Int)).make (Ra (n:Int) 1) [] (List.replicate n 0) bl hl:=by
 have hgz:∀x:Int,(Ra (n:Int) 1).bM x=0:=by
  intro x
  unfold Ar.bM Ra
  simp only[aqf,Int.toNat_natCast,arp]
  split<;>rfl
 have hlz:∀x,¬ (Ra (n:Int) 1).live x:=by
  rintro x ⟨_,hx⟩
  unfold Ra at hx
  simp only[Int.toNat_natCast,arp]at hx
  split at hx<;>simp at hx
 have hiz:∀x,¬df (As (n:Int)).make.cs x:=fun x hx=>lE (n:Int) x (bA.2 hx)
 have h0:∀v:Nat,(List.replicate n 0)[v]? ≠some 1:=fun v hv=>by
  have:=arf (aqg hv)
  omega
 refine⟨⟨by omega,rfl⟩,by simp[Ra],rfl,rfl,rfl,fun x x0=>?_,⟨by simp[As,Ra,Nw.make],fun x=>⟨fun h=>absurd h (hiz x),fun h=>absurd h (hlz x)⟩⟩,⟨fun x hx=>(by cases hx),art,fun x _=>hlz x,?_,arU _⟩,aqV,h2,h3,fun x hx=>by rw[arf hx];omega,fun x y x0 hy=>?_,fun v hv=>absurd hv (h0 v),fun p hp=>(by cases hp),art,arU _,?_⟩
 ·rw[hgz,if_neg (by show¬x< ((0:Nat):Int);omega)]
 ·show(0:Int)=((List.replicate (n:Int).toNat ((0:Nat),false)).countP (·.2):Nat)
  rw[arB.2]
  ·rfl
  ·intro a ha
   rw[arf ha]
   simp
 ·have hy:(List.replicate (n:Int).toNat ((0,0,0):Ce))[x.toNat]? =some y:=hy
  exact .inl (by rw[arf (aqg hy)])
 ·rw[arB.2]
  ·rfl
  ·intro a ha
   rw[arf ha]
   simp
theorem yf.root(h:yf es n w A L sl bl hl){r:Nat}(hr:sl[r]? =some 0):yf es n w A L (sl.set r 2) bl hl:=by
 have k1:=oB (fun x:Nat=>decide (x≠0)) hr 2
 have k2:=oB (fun x:Nat=>decide (x=1)) hr 2
 simp at k1 k2
 have ne:∀v:Nat,sl[v]? =some 1→r≠v:=fun v hv e=>by rw[←e,hr]at hv;cases hv
 refine⟨h.hs,h.len,h.mo,h.wt,h.nx,h.gn,h.lk,h.ok,by rw[aqe];exact h.l1,h.l2,h.l3,fun x hx=>?_,fun x y x0 hy=>?_,fun v hv=>?_,h.ls,h.nd,?_,?_⟩
 ·rcases aq8 hx with hx|hx
  ·exact h.two x hx
  ·omega
 ·rcases h.c1 x y x0 hy with g| ⟨g1,v,g2,g3⟩
  ·exact .inl g
  ·exact .inr ⟨g1,v,by rw[ez (ne v g2)];exact g2,g3⟩
 ·by_cases e:r=v
  ·subst e
   rw[kq hr]at hv
   cases hv
  ·rw[ez e]at hv
   exact h.c2 v hv
 ·have:=h.le
  simp only[ne_eq,decide_not]at this ⊢
  omega
 ·have:=h.cn
  omega
theorem yf.take(h:yf es n w A L sl bl hl){x:Int}{y:Ce}(hf:w.first 1 x)(hy:w.cs[x.toNat]? =some y):
  ∃v:Nat,sl[v]? =some 1∧((x,A.bM x),i64 v)∈L∧(∀u:Nat,sl[u]? =some 1→wE es (bl.getD v 0)≤wE es (bl.getD u 0))∧yf es n (w.put x (0,0,0)) (A.back x) L (sl.set v 2) bl hl:=by
 obtain⟨_,f2,f3⟩:=bQ.1 hf
 obtain⟨x0,x1,_⟩:=aF (w:=w) (x:=x) (by omega)
 have Ud:=kg x0 hy
 rw[f2]at Ud
 have bf:w.cs.length=n:=by rw[h.lk.len];exact h.len
 have hx:0≤x∧x<n:=by omega
 rcases h.c1 x y x0 hy with h0| ⟨_,v,g2,g3,g4,g5⟩
 ·omega
 have hxA:0≤x∧x<A.g.length:=by rw[h.len];exact hx
 have hg:∀z:Int,0≤z→(A.back x).bM z=A.bM z:=by
  intro z hz
  rw[Ar.Pj (A:=A) (A':=A.back x) hxA rfl hz]
  split
  ·rename_i e;rw[e]
  ·rfl
 have mH:A.live x:=(h.lk.live x).1 ⟨x0,_,hy,by omega⟩
 have VB:A.bM x=1:=by
  rw[h.gn x x0,if_pos]
  apply aqt
  intro hc
  exact h.ok.fr x (by omega) mH
 have hwb:(A.back x).wt=[]:=by
  show(if A.bM x<A.mo then A.wt++[x]else A.wt)=[]
  rw[VB,h.mo,if_neg (by omega)]
  exact h.wt
 have k1:=oB (fun x:Nat=>decide (x≠0)) g2 2
 have k2:=oB (fun x:Nat=>decide (x=1)) g2 2
 simp at k1 k2
 refine⟨v,g2,g5,fun u hu=>?_,h.hs,by show(A.g.set _ _).length=n;rw[aqe];exact h.len,h.mo,hwb,h.nx,fun z hz=>by rw[hg z hz];exact h.gn z hz,h.lk.put hxA (v:=A.bM x) rfl,h.ok.back mH,by rw[aqe];exact h.l1,h.l2,h.l3,fun z hz=>?_,fun z c z0 hc=>?_,fun u hu=>?_,fun p hp=>by have:=h.ls p hp;exact⟨this.1,by rw[hg _ this.1];exact this.2⟩,h.nd,?_,?_⟩
 ·obtain⟨z,s,z0,q1,q2,q3⟩:=h.c2 u hu
  by_cases e:z=x
  ·rw[e,hy]at q2
   injection q2 with q2
   rw[q2]at g4
   rw[←g4]
   exact arS _
  ·have aN:=f3 z (kg z0 q2) e
   unfold aQ at aN
   have k1:w.key x=y.2.1:=by
    unfold Nw.key
    simp only[aqf,hy]
    rfl
   have k2:w.key z=wE es (bl.getD u 0):=by
    unfold Nw.key
    simp only[aqf,q2]
    rfl
   rw[k1,k2,g4]at aN
   simp only[aqI]at aN
   omega
 ·rcases aq8 hz with hz|hz
  ·exact h.two z hz
  ·omega
 ·have hc:(w.cs.set x.toNat (0,0,0))[z.toNat]? =some c:=hc
  by_cases e:z=x
  ·subst e
   rw[kq hy]at hc
   injection hc with hc
   exact .inl (by rw[←hc])
  ·rw[ez (by omega)]at hc
   rcases h.c1 z c z0 hc with h0| ⟨q1,v',q2,q3,q4,q5⟩
   ·exact .inl h0
   ·refine .inr ⟨q1,v',?_,by rw[hg z z0];exact q3,q4,by rw[hg z z0];exact q5⟩
    rw[ez ?_]
    ·exact q2
    ·intro e2
     rw[←e2,g3]at q3
     injection q3 with q3
     injection q3 with q3
     exact e q3.symm
 ·by_cases e:v=u
  ·subst e
   rw[kq g2]at hu
   cases hu
  ·rw[ez e]at hu
   obtain⟨z,s,z0,q1,q2,q3⟩:=h.c2 u hu
   refine⟨z,s,z0,by rw[hg z z0];exact q1,?_,by rw[hg z z0];exact q3⟩
   show(w.cs.set x.toNat (0,0,0))[z.toNat]? =_
   rw[ez ?_]
   ·exact q2
   ·intro e2
    have e3:z=x:=by omega
    rw[e3]at q3
    have:=TB h.nd g5 q3
    injection this with _ this
    omega
 ·have:=h.le
  simp only[ne_eq,decide_not]at this ⊢
  omega
 ·show A.ct - 1=_
  have:=h.cn
  omega
theorem yf.put(h:yf es n w A L sl bl hl){x:Int}(hp:A.pick=some (x,A')){u:Nat}(hu:sl[u]? =some 0)(i:Int)(s:Int):
  (x,A.bM x+1)∉L.map (·.1)∧yf es n (w.put x (1,wE es i,s)) (A'.out x) (L++[((x,A.bM x+1),i64 u)]) (sl.set u 1) (bl.set u i) (hl.set u (x,A.bM x+1)):=by
 obtain⟨hx,lJ,Lu,Jl,hgA,hct,hmo⟩:=Ar.FG hp h.ok
 have Us:u<n:=by have:=(aqc.1 hu).1;rw[h.l1]at this;exact this
 have bf:w.cs.length=n:=by rw[h.lk.len];exact h.len
 have hAn:=h.len
 have ep:x=A.nx∧A'.nx=A.nx+1∧A'.wt=[]:=by
  unfold Ar.pick at hp
  rw[if_neg (by rw[h.wt];simp)]at hp
  split at hp
  ·cases hp
  ·injection hp with hp
   injection hp with No AO
   exact⟨No.symm,by rw[←AO],by rw[←AO];exact h.wt⟩
 have OC:0≤x∧x<A'.g.length:=by rw[hgA];exact hx
 have VB:∀z,A'.bM z=A.bM z:=fun z=>by unfold Ar.bM;rw[hgA]
 have hg:∀z:Int,0≤z→(A'.out x).bM z=if z=x then A.bM x+1 else A.bM z:=by
  intro z hz
  rw[Ar.Pj (A:=A') (A':=A'.out x) OC rfl hz]
  rw[VB,VB]
 have Uv:∀z,A'.live z↔A.live z:=fun z=>by unfold Ar.live;rw[hgA]
 have Y2:¬df w.cs x:=fun hi=>lJ ((h.lk.live x).1 hi)
 have rL:(x,A.bM x+1)∉L.map (·.1):=fun hm=>by
  obtain⟨p,No,AO⟩:=aqK.1 hm
  have:=(h.ls p No).2
  rw[AO]at this
  simp only at this
  omega
 have k1:=oB (fun x:Nat=>decide (x≠0)) hu 1
 have k2:=oB (fun x:Nat=>decide (x=1)) hu 1
 simp at k1 k2
 have ne:∀v:Nat,sl[v]? =some 1→u≠v:=fun v hv e=>by rw[←e,hu]at hv;cases hv
 refine⟨rL,h.hs,by show(A'.g.set _ _).length=n;rw[aqe,hgA];exact hAn,by show A'.mo=1;rw[hmo];exact h.mo,ep.2.2,by show A'.nx=_;rw[ep.2.1,h.nx,aqj];rfl,fun z hz=>?_,h.lk.put hx (v:=A.bM x+1) ?_,?_,by rw[aqe];exact h.l1,by rw[aqe];exact h.l2,by rw[aqe];exact h.l3,fun z hz=>?_,fun z c z0 hc=>?_,fun v hv=>?_,fun p hp=>?_,?_,?_,?_⟩
 ·rw[hg z hz,h.gn z hz,h.gn x hx.1]
  show _=if z< ((A'.nx:Nat):Int)then 1 else 0
  have h1:=ep.1
  have h2:=ep.2.1
  split<;>split<;>(try split)<;>omega
 ·show A'.g.set x.toNat (A'.bM x+1,true)=_
  rw[VB,hgA]
  rfl
 ·exact CJ.out (A:=A) (Rb hp h.ok) hgA OC (fun hl=>lJ ((Uv x).1 hl)) Lu Jl
 ·rcases aq8 hz with hz|hz
  ·exact h.two z hz
  ·omega
 ·have hc:(w.cs.set x.toNat (1,wE es i,s))[z.toNat]? =some c:=hc
  by_cases e:z=x
  ·subst e
   rw[aqi (by omega)]at hc
   injection hc with hc
   subst hc
   have e1:(A'.out z).bM z=A.bM z+1:=by rw[hg z z0,if_pos rfl]
   refine .inr ⟨rfl,u,kq hu,?_,?_,?_⟩
   ·rw[e1]
    exact aqi (by rw[h.l3];exact Us)
   ·rw[aqf,aqi (by rw[h.l2];exact Us)]
    rfl
   ·rw[e1]
    simp
  ·rw[ez (by omega)]at hc
   rcases h.c1 z c z0 hc with h0| ⟨q1,v',q2,q3,q4,q5⟩
   ·exact .inl h0
   ·have e1:(A'.out x).bM z=A.bM z:=by rw[hg z z0,if_neg e]
    have nev:=ne v' q2
    exact .inr ⟨q1,v',by rw[ez nev];exact q2,by rw[ez nev,e1];exact q3,by rw[getD_set_ne nev];exact q4,by rw[e1];exact aqH _ q5⟩
 ·by_cases e:u=v
  ·subst e
   have e1:(A'.out x).bM x=A.bM x+1:=by rw[hg x hx.1,if_pos rfl]
   refine⟨x,s,hx.1,?_,?_,?_⟩
   ·rw[e1]
    exact aqi (by rw[h.l3];exact Us)
   ·show(w.cs.set x.toNat (1,wE es i,s))[x.toNat]? =_
    rw[aqi (by omega),aqf,aqi (by rw[h.l2];exact Us)]
    rfl
   ·rw[e1]
    simp
  ·rw[ez e]at hv
   obtain⟨z,s',z0,q1,q2,q3⟩:=h.c2 v hv
   have ezx:z≠x:=fun e2=>by
    rw[e2]at q2
    exact Y2 ⟨hx.1,_,q2,by simp⟩
   have e1:(A'.out x).bM z=A.bM z:=by rw[hg z z0,if_neg ezx]
   refine⟨z,s',z0,by rw[ez e,e1];exact q1,?_,by rw[e1];exact aqH _ q3⟩
   show(w.cs.set x.toNat (1,wE es i,s))[z.toNat]? =_
   rw[ez (by omega),getD_set_ne e]
   exact q2
 ·rcases aqq.1 hp with hp|hp
  ·have:=h.ls p hp
   refine⟨this.1,?_⟩
   rw[hg _ this.1]
   split
   ·rename_i e;rw[e]at this;omega
   ·exact this.2
  ·rw[aql]at hp
   subst hp
   exact⟨hx.1,by rw[hg _ hx.1,if_pos rfl];exact aqm _⟩
 ·rw[aqy,aro,aqR]
  refine⟨h.nd,by simp,fun a ha b hb e=>?_⟩
  rw[aql]at hb
  rw[e,hb]at ha
  exact rL ha
 ·have:=h.le
  rw[aqj]
  simp only[ne_eq,decide_not,aqn]at this ⊢
  omega
 ·show A'.ct+1=_
  rw[hct]
  have:=h.cn
  omega
theorem yf.lower(h:yf es n w A L sl bl hl){u:Nat}(hu:sl[u]? =some 1){x:Int}(x0:0≤x)(hh:hl[u]? =some (x,A.bM x)){y:Ce}(hy:w.cs[x.toNat]? =some y)(i:Int):
  yf es n (w.put x (y.1,wE es i,y.2.2)) A L sl (bl.set u i) hl:=by
 have Us:u<n:=by have:=(aqc.1 hu).1;rw[h.l1]at this;exact this
 obtain⟨x',s,x0',q1,q2,q3⟩:=h.c2 u hu
 have hxx:x'=x:=by
  rw[hh]at q1
  injection q1 with q1
  injection q1 with q1
  exact q1.symm
 subst hxx
 rw[q2]at hy
 injection hy with hy
 subst hy
 have mH:A.live x':=(h.lk.live x').1 ⟨x0,_,q2,by simp⟩
 refine⟨h.hs,h.len,h.mo,h.wt,h.nx,h.gn,h.lk.key mH q2,h.ok,h.l1,by rw[aqe];exact h.l2,h.l3,h.two,fun z c z0 hc=>?_,fun v hv=>?_,h.ls,h.nd,h.le,h.cn⟩
 ·have hc:(w.cs.set x'.toNat (1,wE es i,s))[z.toNat]? =some c:=hc
  by_cases e:z=x'
  ·subst e
   rw[kq q2]at hc
   injection hc with hc
   subst hc
   refine .inr ⟨rfl,u,hu,hh,?_,q3⟩
   rw[aqf,aqi (by rw[h.l2];exact Us)]
   rfl
  ·rw[ez (by omega)]at hc
   rcases h.c1 z c z0 hc with h0| ⟨g1,v',g2,g3,g4,g5⟩
   ·exact .inl h0
   ·refine .inr ⟨g1,v',g2,g3,?_,g5⟩
    rw[getD_set_ne ?_]
    ·exact g4
    ·intro e2
     rw[←e2,hh]at g3
     injection g3 with g3
     injection g3 with g3
     exact e g3.symm
 ·by_cases e:u=v
  ·subst e
   refine⟨x',s,x0,hh,?_,q3⟩
   show(w.cs.set x'.toNat (1,wE es i,s))[x'.toNat]? =_
   rw[kq q2,aqf,aqi (by rw[h.l2];exact Us)]
   rfl
  ·obtain⟨z,s',z0,g1,g2,g3⟩:=h.c2 v hv
   refine⟨z,s',z0,g1,?_,g3⟩
   show(w.cs.set x'.toNat (1,wE es i,s))[z.toNat]? =_
   rw[ez ?_,getD_set_ne e]
   ·exact g2
   ·intro e2
    have e3:z=x':=by omega
    rw[e3]at g3
    have:=TB h.nd q3 g3
    injection this with _ this
    omega
theorem yf.room(h:yf es n w A L sl bl hl){u:Nat}(hu:sl[u]? =some 0):A.pick≠none:=by
 have k2:=oB (fun x:Nat=>decide (x≠0)) hu 1
 simp at k2
 have k3:=ar9 (p:=fun x:Nat=> !decide (x=0)) (l:=sl.set u 1)
 rw[aqe,h.l1]at k3
 have k4:=h.le
 simp only[ne_eq,decide_not]at k4
 unfold Ar.pick
 rw[if_neg (by rw[h.wt];simp),if_neg (by rw[h.nx,h.len];omega)]
 simp
theorem yf.none_(h:yf es n w A L sl bl hl)(h0:w.len 1=0):∀v:Nat,sl[v]? ≠some 1:=fun v hv=>by
 obtain⟨x,s,x0,_,q2,_⟩:=h.c2 v hv
 exact(vG (by omega)).1 h0 x (kg x0 q2)
def adt(es:List Ed)(sl:List Nat)(bl:List Int)(u:Nat)(i:Int)(JN:List Nat)(JO:List Int):Prop:=
 (JN=sl∧JO=bl∧(sl[u]? =some 2∨(sl[u]? =some 1∧wE es (bl.getD u 0)≤wE es i)))∨
 (JN=sl.set u 1∧JO=bl.set u i∧(sl[u]? =some 0∨(sl[u]? =some 1∧wE es i<wE es (bl.getD u 0))))
structure O1(es:List Ed)(D:Nat→Prop)(o:List Nat)(k:Nat→Int)(T:List Int)(sl:List Nat)(bl:List Int)(left:List Int):Prop where
 P:kI (fE es) (wE es) (allI es.length) T o k (fun v=>sl[v]? =some 1) (fun v=>bl.getD v 0) left
 d:∀v:Nat,sl[v]? =some 2↔D v∨v∈o
 mG:∀v,D v→v∉o
 shut:∀i∈allI es.length,∀v,Touch (fE es i) v→D v→D (other (fE es i) v)
theorem O1.offer{D:Nat→Prop}{o:List Nat}{k:Nat→Int}{T:List Int}{JN:List Nat}{JO:List Int}{i:Int}{left:List Int}{v u:Nat}(h:O1 es D o k T sl bl (i::left))(hv:o[o.length - 1]? =some v)(hi:i∈allI es.length)(ht:Touch (fE es i) v)(hu:u=other (fE es i) v)(Us:u<bl.length)(YX:adt es sl bl u i JN JO):
  O1 es D o k T JN JO left:=by
 have hvo:v∈o:=aqg hv
 have hnD:¬D v:=fun hd=>h.mG v hd hvo
 have hou:=oM ht
 rw[←hu]at hou
 have huD:¬D u:=fun hd=>hnD (by have:=h.shut i hi u hou.1 hd;rw[hou.2]at this;exact this)
 rcases YX with ⟨rfl,rfl,hs⟩| ⟨rfl,rfl,hs⟩
 ·refine⟨h.P.skip hv fun u' _ hu'=>?_,h.d,h.mG,h.shut⟩
  rw[←hu]at hu'
  subst hu'
  rcases hs with hs|hs
  ·exact .inl (((h.d u').1 hs).resolve_left huD)
  ·exact .inr hs
 ·have bO:u∉o:=fun hm=>by
   have:=(h.d u).2 (.inr hm)
   rcases hs with hs| ⟨hs,_⟩<;>rw[this]at hs<;>cases hs
  obtain⟨c0,jW⟩:∃c,sl[u]? =some c:=by rcases hs with hs| ⟨hs,_⟩<;>exact⟨_,hs⟩
  have P:=h.P.offer hv hi ht hu bO (fun hw=>by
   rcases hs with hs| ⟨_,hs⟩
   ·rw[hs]at hw;cases hw
   ·exact Int.le_of_lt hs)
  have e1:(fun y:Nat=>sl[y]? =some 1∨y=u)=fun y=>(sl.set u 1)[y]? =some 1:=by
   funext y
   by_cases e:u=y
   ·subst e
    rw[kq jW]
    simp
   ·rw[ez e]
    simp[Ne.symm e]
  have e2:(fun y:Nat=>if y=u then i else bl.getD y 0)=fun y=>(bl.set u i).getD y 0:=by
   funext y
   by_cases e:u=y
   ·subst e
    rw[if_pos rfl,aqf,aqi Us]
    rfl
   ·rw[if_neg (Ne.symm e),getD_set_ne e]
  rw[e1,e2]at P
  refine⟨P,fun y=>?_,h.mG,h.shut⟩
  by_cases e:u=y
  ·subst e
   rw[kq jW]
   refine⟨fun h=>(by cases h),fun h=>?_⟩
   rcases h with h|h
   ·exact absurd h huD
   ·exact absurd h bO
  ·rw[ez e]
   exact h.d y
theorem kI.only{α:Type}{e:α→E2}{w:α→Int}{E T:List α}{o:List Nat}{k:Nat→Int}{wt:Nat→Prop}{b:Nat→α}{left WS:List α}(P:kI e w E T o k wt b left){v:Nat}(hv:o[o.length - 1]? =some v)(hs:∀i∈E,Touch (e i) v→i∈WS):kI e w E T o k wt b WS:=by
 refine⟨P.EH,P.wait,fun i hi a va ha tt=>?_,P.loc,P.out,P.nd⟩
 rcases P.wN i hi a va ha tt with ⟨h1,_⟩|h
 ·refine .inl ⟨h1,hs i hi ?_⟩
  have:a=o.length - 1:=by omega
  rw[this,hv]at ha
  injection ha with ha
  rw[ha]
  exact tt
 ·exact .inr h
theorem Cp{n:Int}(hr:gL n es){v:Nat}{i:Int}(hi:i∈allI es.length):Touch (fE es i) v↔i∈bc (qT v) 0 es:=by
 obtain⟨k,e,rfl,he,hk⟩:=Oo.get (j7.1 hi)
 have hb:=hr.ends e (aqg he)
 rw[F6,nT he]
 unfold Touch
 constructor
 ·intro ht
  refine⟨k,e,he,?_,by omega⟩
  simp only[qT,ar8,aqI]
  simp only at ht
  omega
 ·rintro⟨j,e',gz,hq,hj⟩
  have:j=k:=by omega
  subst this
  rw[he]at gz
  injection gz with gz
  subst gz
  simp only[qT,ar8,aqI]at hq
  simp only
  omega
theorem Zd{v:Nat}{i:Int}(h:i∈bc (qT v) 0 es):i∈allI es.length:=by
 obtain⟨k,e,he,_,rfl⟩:=(F6 _ _ _ _).1 h
 have:=(aqc.1 he).1
 rw[MG]
 omega
def GrD(es:List Ed)(T:List Int)(sl:List Nat):Prop:=yn (fE es) (wE es) (allI es.length) T (fun v=>sl[v]? =some 2)∧∀v:Nat,sl[v]? ≠some 1
structure GrT(es:List Ed)(T T0:List Int)(D:Nat→Prop)(o:List Nat):Prop where
 AP:iQ (T.map (fE es))
 ins:∀i∈T,i∈allI es.length∧(D (fE es i).1∨(fE es i).1∈o)∧(D (fE es i).2∨(fE es i).2∈o)
 sub:∀i∈T0,i∈T
theorem O1.begin{n:Int}(hr:gL n es){T:List Int}(h:GrD es T sl){r:Nat}(X7:sl[r]? =some 0):O1 es (fun v=>sl[v]? =some 2) [r] (fun _=>0) T (sl.set r 2) bl (bc (qT r) 0 es)∧GrT es T T (fun v=>sl[v]? =some 2) [r]:=by
 refine⟨⟨?_,fun v=>?_,fun v hv hm=>?_,h.1.shut⟩,h.1.AP,fun i hi=>⟨(h.1.ins i hi).1,.inl (h.1.ins i hi).2.1,.inl (h.1.ins i hi).2.2⟩,fun i hi=>hi⟩
 ·have P:=kI.begin (e:=fE es) (w:=wE es) (E:=allI es.length) (T:=T) (fun _=>0) (fun v=>bl.getD v 0) r
  have e1:(fun _:Nat=>False)=fun v=>(sl.set r 2)[v]? =some 1:=by
   funext v
   by_cases e:r=v
   ·subst e;rw[kq X7];simp
   ·rw[ez e];exact(eq_false (h.2 v)).symm
  rw[e1]at P
  exact P.only rfl fun i hi ht=>(Cp hr hi).1 ht
 ·by_cases e:r=v
  ·subst e;rw[kq X7];simp
  ·rw[ez e,aql]
   simp[Ne.symm e]
 ·rw[aql]at hm
  rw[hm,X7]at hv
  cases hv
theorem O1.enter{n:Int}(hr:gL n es){D:Nat→Prop}{o:List Nat}{k:Nat→Int}{T T0:List Int}(h:O1 es D o k T sl bl [])(t:GrT es T T0 D o){v:Nat}(hv:sl[v]? =some 1)(UG:∀u:Nat,sl[u]? =some 1→wE es (bl.getD v 0)≤wE es (bl.getD u 0)):
  O1 es D (o++[v]) (fun a=>if a=o.length then wE es (bl.getD v 0)else k a) (T++[bl.getD v 0]) (sl.set v 2) bl (bc (qT v) 0 es)∧GrT es (T++[bl.getD v 0]) T0 D (o++[v])∧bl.getD v 0∈allI es.length:=by
 obtain⟨c,vc,hc,hbE,htc,hox,_⟩:=h.P.wait v hv
 have hvD:¬ (D v∨v∈o):=fun hd=>by
  rw[(h.d v).2 hd]at hv
  cases hv
 have P:=h.P.enter (k':=fun a=>if a=o.length then wE es (bl.getD v 0)else k a) hv UG (fun a ha=>if_neg (by omega)) (if_pos rfl)
 have e1:(fun y:Nat=>sl[y]? =some 1∧y≠v)=fun y=>(sl.set v 2)[y]? =some 1:=by
  funext y
  by_cases e:v=y
  ·subst e;rw[kq hv];simp
  ·rw[ez e];simp[Ne.symm e]
 rw[e1]at P
 have hvc:vc∈o:=aqg hc
 refine⟨⟨P.only (v:=v) (by simp) fun i hi ht=>(Cp hr hi).1 ht,fun y=>?_,fun y hy hm=>?_,h.shut⟩,⟨?_,fun i hi=>?_,fun i hi=>aqH _ (t.sub i hi)⟩,hbE⟩
 ·by_cases e:v=y
  ·subst e;rw[kq hv];simp
  ·rw[ez e,h.d y,aqq,aql]
   simp[Ne.symm e]
 ·rcases aqq.1 hm with hm|hm
  ·exact h.mG y hy hm
  ·rw[aql]at hm
   exact hvD (.inl (by rw[←hm];exact hy))
 ·refine Qf (done:=fun y=>D y∨y∈o) t.AP (fun i hi=>(t.ins i hi).2) htc (.inr hvc) ?_
  rw[hox]
  exact hvD
 ·have imp:∀y,D y∨y∈o→D y∨y∈o++[v]:=fun y hy=>hy.imp_right fun h=>aqH _ h
  rcases aqq.1 hi with hi|hi
  ·exact⟨(t.ins i hi).1,imp _ (t.ins i hi).2.1,imp _ (t.ins i hi).2.2⟩
  ·rw[aql]at hi
   subst hi
   refine⟨hbE,?_⟩
   have hvm:v∈o++[v]:=by simp
   have GH:vc∈o++[v]:=aqH _ hvc
   unfold other at hox
   rcases htc with h1|h1
   ·have h2:(fE es (bl.getD v 0)).2=v:=by omega
    exact⟨.inr (by rw[h1];exact GH),.inr (by rw[h2];exact hvm)⟩
   ·have h2:(fE es (bl.getD v 0)).1=v:=by omega
    exact⟨.inr (by rw[h2];exact hvm),.inr (by rw[h1];exact GH)⟩
theorem O1.over{D:Nat→Prop}{o:List Nat}{k:Nat→Int}{T T0:List Int}(h0:yn (fE es) (wE es) (allI es.length) T0 D)(h:O1 es D o k T sl bl [])(t:GrT es T T0 D o)(hn:∀v:Nat,sl[v]? ≠some 1):GrD es T sl:=by
 have:=h0.over t.sub h.P hn t.AP t.ins
 refine⟨?_,hn⟩
 have e1:(fun v=>D v∨v∈o)=fun v:Nat=>sl[v]? =some 2:=by
  funext v
  exact propext (h.d v).symm
 rw[e1]at this
 exact this
theorem GrD.XF{n:Int}(hr:gL n es){T:List Int}(h:GrD es T sl)(hl:∀v:Nat,v<n.toNat→sl[v]? =some 2):nU n es T∧MH es T:=by
 obtain⟨h1,h2,h3,h4⟩:=h.1.XF fun i hi=>by
  have:=FN hr (j7.1 hi)
  exact⟨hl _ this.1,hl _ this.2⟩
 refine⟨⟨fun i hi=>j7.1 (h2 i hi),h1,fun u v hh=>?_⟩,h3⟩
 exact jZ (fun x hx=>by obtain⟨i,hi,rfl⟩:=aqK.1 hx;exact h4 i hi) hh
end
end Go.Proofs.YthpjfeolagohkaaGreat

namespace Go.Proofs.YthpjfeolagohkaaGreat
open Go Go.Vc
section
variable {n : Int} {es : List Ed} {K T : List Int}
theorem TC(hr:gL n es):∀i∈allI es.length,(fE es i).1<n.toNat∧(fE es i).2<n.toNat:=fun i hi=>FN hr (j7.1 hi)
theorem nU.size(hr:gL n es)(h:nU n es T):cls n.toNat ((allI es.length).map (fE es))+T.length=n.toNat:=
 RV (n:=n.toNat) (E:=allI es.length) h.sub h.AP (TC hr) (fun i hi=>h.all _ _ (kG (aqK.2 ⟨i,hi,rfl⟩)))
theorem nU.Ze(hr:gL n es)(hK:nU n es K)(hT:nU n es T):K.length=T.length:=by
 have:=hK.size hr
 have:=hT.size hr
 omega
end
end Go.Proofs.YthpjfeolagohkaaGreat

namespace Go.Proofs.YthpjfeolagohkaaGreat
open Go Go.Vc
structure SB where
 n:Nat
 c:Nat
 t:Nat
 tl:Nat
 mp:Nat
def Hw(T:Int→Int):Int→Option Value:=fun h=>if T h= -1 then none else some (i64 (T h))
structure eR(H:Hp)(B:SB)(C:Nat→Prop)(w:Nw)(L:List Lk)(T:Int→Int):Prop where
 own:H.own B.n=some [ptr B.c,ptr B.t,.map (some B.mp)]
 cells:CQ H B.c C w
 ce:bS H B.t B.tl L
 Nk:lM H B.mp (Hw T)
 len:L.length=w.cs.length
 mG:(B.n≠B.t∧B.n≠B.tl∧B.n≠B.mp)∧(B.t≠B.tl∧B.t≠B.mp)∧B.tl≠B.mp
 out:¬C B.n∧¬C B.t∧¬C B.tl∧¬C B.mp
def SB.S(B:SB)(C:Nat→Prop)(z:Nat):Prop:=C z∨z=B.n∨z=B.t∨z=B.tl∨z=B.mp
section
variable {H H' : Hp} {B : SB} {C V : Nat → Prop} {w w' : Nw} {L L' : List Lk} {T : Int → Int}
theorem eR.slt(h:eR H B C w L T):∀z,B.S C z→z<H.size:=by
 rintro z (hz|rfl|rfl|rfl|rfl)
 ·exact h.cells.slt z hz
 ·exact aB h.own
 ·exact aB h.ce.own
 ·exact aB h.ce.lB
 ·exact h.Nk.lt
theorem eR.ext(h:eR H B C w L T)(e:ag V H H')(hd:∀z,B.S C z→¬V z):eR H' B C w L T:=
 ⟨e.own h.own (hd _ (.inr (.inl rfl))),h.cells.ext e (fun x hx=>hd x (.inl hx)),h.ce.ext e (hd _ (.inr (.inr (.inl rfl)))) (hd _ (.inr (.inr (.inr (.inl rfl))))),
  h.Nk.ext e (hd _ (.inr (.inr (.inr (.inr rfl))))),h.len,h.mG,h.out⟩
theorem eR.fresh(h:eR H B C w L T)(e:ah H H'):eR H' B C w L T:=h.ext e fun _ _ h=>h
theorem eR.aI(h:eR H B C w L T)(c1:CQ H' B.c C w')(e:ag C H H')(hl:w'.cs.length=w.cs.length):eR H' B C w' L T:=by
 obtain⟨o1,o2,o3,o4⟩:=h.out
 exact⟨e.own h.own o1,c1,h.ce.ext e o2 o3,h.Nk.ext e o4,by rw[hl];exact h.len,h.mG,h.out⟩
theorem eR.dZ(h:eR H B C w L T)(t1:bS H' B.t B.tl L')(e:ag (fun z=>z=B.tl) H H')(hl:L'.length=L.length):eR H' B C w L' T:=by
 obtain⟨o1,o2,o3,o4⟩:=h.out
 obtain⟨⟨d1,d2,d3⟩,⟨d4,d5⟩,d6⟩:=h.mG
 exact⟨e.own h.own d2,h.cells.ext e (fun x hx hz=>o3 (hz▸hx)),t1,h.Nk.ext e (Ne.symm d6),by rw[hl];exact h.len,h.mG,h.out⟩
theorem eR.lC(h:eR H B C w L T){T':Int→Int}(t1:lM H' B.mp (Hw T'))(e:ag (fun z=>z=B.mp) H H'):eR H' B C w L T':=by
 obtain⟨o1,o2,o3,o4⟩:=h.out
 obtain⟨⟨d1,d2,d3⟩,⟨d4,d5⟩,d6⟩:=h.mG
 exact⟨e.own h.own d3,h.cells.ext e (fun x hx hz=>o4 (hz▸hx)),h.ce.ext e d5 d6,t1,h.len,h.mG,h.out⟩
theorem TD(T:Int→Int)(h x:Int):(x= -1→Hw (jj T h x)=NT (Hw T) h)∧(x≠ -1→Hw (jj T h x)=Kc (Hw T) h (i64 x)):=by
 constructor
 ·rintro rfl
  funext y
  unfold Hw jj NT
  by_cases hy:y=h
  ·rw[if_pos hy,if_pos rfl,if_pos hy]
  ·rw[if_neg hy,if_neg hy]
 ·intro hx
  funext y
  unfold Hw jj Kc
  by_cases hy:y=h
  ·rw[if_pos hy,if_neg hx,if_pos hy]
  ·rw[if_neg hy,if_neg hy]
theorem lV(h:eR H B C w L T)(g:Int):af Tryz.prog Bq [ptr B.n,i64 g] H fun v H'=>ax (v=i64 (T g)∧H'=H):=by
 refine bm BM ?_
 refine v2 (ae h.own) h.Nk.look ?_
 unfold Hw
 by_cases hg:T g= -1
 ·rw[if_pos hg,hg]
  refine vs ?_
  exact⟨rfl,rfl⟩
 ·rw[if_neg hg]
  refine vs ?_
  exact⟨rfl,rfl⟩
theorem lW(h:eR H B C w L T)(g x:Int):af Tryz.prog Bo [ptr B.n,i64 g,i64 x] H fun v H'=>ax (eR H' B C w L (jj T g x)∧ag (fun z=>z=B.mp) H H'):=by
 obtain⟨h1,h2⟩:=TD T g x
 refine bm BK ?_
 refine vs ?_
 refine ar.dec (fun hx=>?_) (fun hx=>?_)<;>refine v1 (ae h.own) ?_
 ·refine h.Nk.del fun H1 t1 e1=>?_
  rw[←h1 hx]at t1
  refine vs ?_
  exact⟨h.lC t1 e1,e1⟩
 ·refine h.Nk.lZ fun H1 t1 e1=>?_
  rw[←h2 hx]at t1
  refine vs ?_
  exact⟨h.lC t1 e1,e1⟩
theorem Na{x a:Int}{b:Bool}(he:gG x= .tuple [i64 a,.bool b].toArray):(b=false∧x= -1)∨(b=true∧a=x∧x≠ -1):=by
 have h2:∀ {p q:Int} {r s:Bool},Value.tuple [i64 p,Value.bool r].toArray=Value.tuple [i64 q,Value.bool s].toArray→p=q∧r=s:=fun h=>by
  have h3:=aqv Array.toList (Value.tuple.inj h)
  injection h3 with h4 h5
  injection h4 with _ h4
  injection h5 with h5 _
  injection h5 with h5
  exact⟨h4,h5⟩
 unfold gG at he
 split at he
 ·rename_i hx
  exact .inl ⟨(h2 he).2.symm,hx⟩
 ·rename_i hx
  exact .inr ⟨(h2 he).2.symm,(h2 he).1.symm,hx⟩
theorem lX(h:eR H B C w L T)(hb:Bt (aG w) (aQ w) (aZ L) (bk L)){x a:Int}{b:Bool}(he:gG x= .tuple [i64 a,.bool b].toArray):
  af Tryz.prog Br [ptr B.n,i64 a,.bool b] H fun v H'=>ax (v=i64 x∧∃L',eR H' B C w L' T∧aZ L'=jg (aZ L) (bk L) x∧bk L'=di (bk L) x∧ag (fun z=>z=B.tl) H H'):=by
 refine bm BN ?_
 refine vs ?_
 rcases Na he with ⟨rfl,rfl⟩| ⟨rfl,rfl,hx⟩
 ·refine vs ?_
  obtain⟨h1,h2⟩:=BP hb
  exact⟨rfl,L,h,h1.symm,h2.symm,ag.refl _ _⟩
 ·refine v1 (ae h.own) ?_
  refine(cR h.ce (x:=a) (fun hu=>by have:=B6.up hb hu;have:=h.len;omega)).mono ?_
  rintro _ H1 ⟨rfl,L1,t1,l1,k1,u1,e1⟩
  refine vs ?_
  exact⟨rfl,L1,h.dZ t1 e1 l1,k1,u1,e1⟩
theorem lY(h:eR H B C w L T){g a0 b0:Int}{R:Int→Prop}(m:Mg (aG w) (aQ w) g R (aZ L) (bk L) [] a0 b0):
  af Tryz.prog Bp [ptr B.n,i64 a0,i64 b0] H fun v H'=>ax (∃r L',v=i64 r∧eR H' B C w L' T∧Mg (aG w) (aQ w) g R (aZ L') (bk L') [] r (-1)∧
   (∀x0,xT (aQ w) (aZ L) (bk L) x0 (aZ L) (bk L) [] a0 b0→xT (aQ w) (aZ L) (bk L) x0 (aZ L') (bk L') [] r (-1))∧ag (fun z=>C z∨z=B.tl) H H'):=by
 refine bm BL ?_
 refine vs ?_
 have xW:=h.cells.Fe
 refine aY.intro (fun mm env H'=>∃ (a b:Int) (ec:List Int) (wv:Value) (fp:Option Nat) (L':List Lk),mm=w.cs.length - ec.length∧eR H' B C w L' T∧Mg (aG w) (aQ w) g R (aZ L') (bk L') ec a b∧
  (∀x0,xT (aQ w) (aZ L) (bk L) x0 (aZ L) (bk L) [] a0 b0→xT (aQ w) (aZ L) (bk L) x0 (aZ L') (bk L') ec a b)∧
  (∀z,fp=some z→H.size≤z)∧Sl H' 1 wv ec.length (ec.map i64) fp∧ag (fun z=>C z∨z=B.tl∨H.size≤z) H H'∧
  env=[(0,ptr B.n),(1,i64 a),(2,i64 b),(7,wv)]) _ ⟨a0,b0,[],_,none,L,rfl,h,m,(fun _ h=>h),(fun z h=>by cases h),Sl.nil _ _,ag.refl _ _,rfl⟩ ?_
 rintro mm env H1 ⟨a,b,ec,wv,fp,L1,rfl,l1,m1,f1,eB,s1,e1,rfl⟩
 have z1:=e1.size
 clear m
 refine vs ?_
 refine ar.dec (fun ga=>?A) (fun ga=>?_)<;>refine vs ?_
 rotate_left
 refine ar.dec (fun gb=>?B) (fun gb=>?_)<;>refine vs ?_
 rotate_left
 ·have o1:=l1.own
  refine v1 (ae o1) ?_
  refine(cN l1.cells b a).mono ?_
  rintro _ H2 ⟨rfl,c2,e2⟩
  have l2:=l1.aI c2 e2 rfl
  have s2:=s1.ext e2 (fun z hz ed=>by have:=eB z hz;have:=h.slt z (.inl ed);omega)
  have z2:=e2.size
  have ha:=m1.wa.resolve_left ga
  have hb:=m1.wb.resolve_left gb
  have AG:=gX (w:=w) (a:=b) (b:=a) (by rw[hb.1];exact m1.pos) (by rw[ha.1];exact m1.pos)
  have aR:a≠b:=fun e=>ga (m1.ab e)
  rw[AG]
  obtain⟨p,q,Rx,hl,gp,gq,mm,fm⟩:∃p q,(if aQ w b a=true then(p=b∧q=a)else(p=a∧q=b))∧aQ w p q=true∧p≠ -1∧q≠ -1∧Mg (aG w) (aQ w) g R (aZ L1) (bk L1) ec p q∧
    (∀x0,xT (aQ w) (aZ L) (bk L) x0 (aZ L) (bk L) [] a0 b0→xT (aQ w) (aZ L) (bk L) x0 (aZ L1) (bk L1) ec p q):=by
   cases aN:aQ w b a
   ·exact⟨a,b,by simp,((aw w).PA a b aR).resolve_right (by rw[aN];simp),ga,gb,m1,f1⟩
   ·exact⟨b,a,by simp,aN,gb,ga,m1.swap,fun x0 h0=>(f1 x0 h0).swap⟩
  have Oy:0<aG w p:=by rw[(mm.wa.resolve_left gp).1];exact mm.pos
  obtain⟨p0,p1,_⟩:=aF Oy
  have m3:=mm.Sv (aw w) gp gq hl
  have f3:=fun x0 h0=>(fm x0 h0).down (aw w) mm.bt gp
  have wl:(ec++[p]).length≤w.cs.length:=cf (m3.nodup (aw w)) fun x hx=>by
   have OC:=(m3.wy x hx).2.1
   have AO:=m3.pos
   obtain⟨x0,x1,_⟩:=aF (w:=w) (x:=x) (by omega)
   exact⟨x0,x1⟩
  rw[aqj,aqn]at wl
  cases aN:aQ w b a<;>simp only[aN,if_true,if_false,ara]at Rx<;>obtain⟨rfl,rfl⟩:=Rx<;>refine vs ?_
  all_goals
   refine BS (B:=H.size) eB (by omega) s2 p (by omega) fun w' H3 bI ix s3 e3=>?_
   refine vs ?_
   have l3:=l2.ext e3 (fun z hz ed=>by have:=h.slt z hz;omega)
   have o3:=l3.own
   refine v1 (ae o3) ?_
   refine(cD l3.ce p).mono ?_
   rintro _ H' ⟨rfl,e⟩
   obtain rfl:=e.symm
   obtain⟨k1,k2,ek⟩:=cS (aZ L1 p true)
   rw[ek]
   refine vs ?_
   refine(lX l3 mm.bt ek).mono ?_
   rintro _ H4 ⟨rfl,L4,l4,WG,WH,e4⟩
   have s4:=s3.ext e4 (fun z hz ed=>by have:=ix z hz;have:=h.slt B.tl (.inr (.inr (.inr (.inl rfl))));omega)
   refine vs ?_
   refine⟨w.cs.length - (ec.length+1),by omega,aZ L1 p true,q,ec++[p],w',bI,L4,by simp,l4,?_,?_,ix,s4,((e1.trans (e2.mono fun z _ hz=>.inl hz)).trans (e3.mono fun z _ hz=>.inr (.inr hz))).trans (e4.mono fun z _ hz=>.inr (.inl hz)),rfl⟩
   ·rw[WG,WH];exact m3
   ·rw[WG,WH];exact f3
 case' A=>
  have m2:Mg (aG w) (aQ w) g R (aZ L1) (bk L1) ec b (-1):=ga▸m1.swap
  have f2:=fun x0 (h0:xT (aQ w) (aZ L) (bk L) x0 (aZ L) (bk L) [] a0 b0)=>(f1 x0 h0).swap
  rw[ga]at f2
  have hr:(if b>a then b else a)=b:=by
   rcases m1.wb with h|h
   ·omega
   ·have hp:=m1.pos
    obtain⟨_,_⟩:=aF (w:=w) (x:=b) (by omega)
    omega
  rw[hr]
  clear hr
  generalize b=r at m2 f2
 case' B=>
  have m2:Mg (aG w) (aQ w) g R (aZ L1) (bk L1) ec a (-1):=gb▸m1
  have f2:=f1
  rw[gb]at f2
  have hr:(if b>a then b else a)=a:=by
   rcases m1.wa with h|h
   ·omega
   ·have hp:=m1.pos
    obtain⟨_,_⟩:=aF (w:=w) (x:=a) (by omega)
    omega
  rw[hr]
  clear hr
  generalize a=r at m2 f2
 all_goals
  obtain⟨wa,wc,rfl⟩:=Sl.shape s1
  refine vs ?_
  have wl:ec.length≤w.cs.length:=cf (m2.nodup (aw w)) fun x hx=>by
   have OC:=(m2.wy x hx).2.1
   have AO:=m2.pos
   obtain⟨x0,x1,_⟩:=aF (w:=w) (x:=x) (by omega)
   exact⟨x0,x1⟩
  refine aY.intro (fun mm env H'=>∃ (i:Nat) (r:Int) (L':List Lk),mm=i∧i≤ec.length∧eR H' B C w L' T∧Mg (aG w) (aQ w) g R (aZ L') (bk L') (ec.take i) r (-1)∧
   (∀x0,xT (aQ w) (aZ L) (bk L) x0 (aZ L) (bk L) [] a0 b0→xT (aQ w) (aZ L) (bk L) x0 (aZ L') (bk L') (ec.take i) r (-1))∧
   Sl H' 1 (.slice wa ec.length wc) ec.length (ec.map i64) fp∧ag (fun z=>C z∨z=B.tl∨H.size≤z) H H'∧
   env=[(0,ptr B.n),(7,.slice wa ec.length wc),(8,i64 r),(9,i64 ((i:Int) - 1))]) _ ⟨ec.length,r,L1,rfl,aqm _,l1,by rw[aqM];exact m2,by rw[aqM];exact f2,s1,e1,?_⟩ ?_
  ·rw[wrap64 (by omega) (by omega)]
  rintro mm env H2 ⟨i,r2,L2,hmi,hi,l2,m3,f3,s2,e2,rfl⟩
  obtain rfl:=hmi.symm
  refine vs ?_
  refine ar.dec (fun gi=>?_) (fun gi=>?_)<;>refine vs ?_
  rotate_left
  ·obtain rfl:i=0:=by omega
   exact⟨r2,L2,rfl,l2,by simpa using m3,by simpa using f3,e2.mono fun z hz h=>h.elim .inl fun h=>.inr (by omega)⟩
  obtain⟨j,rfl⟩:∃j,i=j+1:=⟨i - 1,by omega⟩
  obtain⟨v,hv⟩:∃v,ec[j]? =some v:=⟨_,aqb (by omega)⟩
  have tk:ec.take (j+1)=ec.take j++[v]:=by rw[aqS,hv];rfl
  rw[tk]at m3 f3
  have m4:=m3.back (aw w)
  have f4:=fun x0 h0=>(f3 x0 h0).back
  obtain⟨v1,v2,v3,v4,v5,v6⟩:=m3.wy v (by simp)
  obtain⟨q1,vb,lb,rfl,q2,q3⟩:=Sl.Ao s2 hv
  have hvb:∃b',fp=some b'∧b'=vb:=by
   cases fp with
   |none=>have:=s2.2.2;injection this with h1;cases h1
   |some b'=>obtain⟨_,_,h1,_⟩:=s2.2;injection h1 with h1;injection h1 with h1;injection h1 with h1;exact⟨b',rfl,h1.symm⟩
  obtain⟨b',rfl,rfl⟩:=hvb
  have hvb:=eB b' rfl
  have WI:0<aG w v:=by rw[v2];exact m3.pos
  obtain⟨YD,vv1,_⟩:=aF WI
  have ji:((((j+1:Nat):Int) - 1)).toNat=j:=by omega
  refine⟨⟨by omega,by omega⟩,?_⟩
  simp(disch:=(first|omega| (simp only[Zs]<;>omega)|fail)) only[go_sem, ↓reduceIte,Zv,ae q2,aqa,aqd,ji,q3]
  refine ar.dec (fun gr=>?_) (fun gr=>?_)<;>refine vs ?_
  ·rw[if_pos gr,if_pos gr]at m4
   simp only[if_pos gr]at f4
   have f5:=f4
   have l3:=l2
   have m5:=m4
   have s3:=s2
   have e3:=e2
   simp(disch:=(first|omega| (simp only[Zs]<;>omega)|fail)) only[go_sem, ↓reduceIte,Zv,ae l3.own]
   refine(lT l3.ce (p:=v) ⟨YD,by have:=l3.len;omega⟩).mono ?_
   rintro _ H4 ⟨rfl,L4,t4,YC,k4,u4,e4⟩
   have l4:=l3.dZ t4 e4 YC
   refine vs ?_
   refine⟨j,by omega,j,v,L4,rfl,by omega,l4,?_,?_,s3.ext e4 (fun z hz ed=>by injection hz with hz;have:=h.slt B.tl (.inr (.inr (.inr (.inl rfl))));omega),e3.trans (e4.mono fun z _ hz=>.inr (.inl hz)),?_⟩
   ·rw[k4,u4];exact m5.uA (aw w)
   ·rw[k4,u4];exact fun x0 h0=>(f5 x0 h0).uA v1
   ·rw[show((j+1:Nat):Int) - 1 - 1=(j:Int) - 1 by omega,wrap64 (by omega) (by omega)]
  ·rw[if_neg gr,if_neg gr]at m4
   simp only[if_neg gr]at f4
   have AH:=m3.wa.resolve_left gr
   obtain⟨r0,r1,_⟩:=aF (w:=w) (x:=r2) (by rw[AH.1];exact m3.pos)
   have bf:=l2.len
   have hvr:v≠r2:=fun e=>by have:=v5 gr;rw[e,(aw w).Es]at this;cases this
   simp(disch:=(first|omega| (simp only[Zs]<;>omega)|fail)) only[go_sem, ↓reduceIte,Zv,ae l2.own]
   refine(fI l2.ce (p:=v) (x:=r2) (c:=true) ⟨YD,by omega⟩ ⟨r0,by omega⟩ hvr AH.2 v4).mono ?_
   rintro _ H3 ⟨rfl,L3,t3,ll3,kk3,uu3,HT⟩
   have l3:=l2.dZ t3 HT ll3
   have m5:Mg (aG w) (aQ w) g R (aZ L3) (bk L3) (ec.take j) v (-1):=by rw[kk3,uu3];exact m4
   have f5:=f4
   rw[←kk3,←uu3]at f5
   have nb:b'≠B.tl:=fun e=>by have:=h.slt B.tl (.inr (.inr (.inr (.inl rfl))));omega
   have s3:=s2.ext HT (fun z hz ed=>by injection hz with hz;exact nb (hz.trans ed))
   have e3:=e2.trans (HT.mono fun z _ hz=>.inr (.inl hz))
   refine vs ?_
   simp(disch:=(first|omega| (simp only[Zs]<;>omega)|fail)) only[go_sem, ↓reduceIte,Zv,ae l3.own]
   refine(lT l3.ce (p:=v) ⟨YD,by have:=l3.len;omega⟩).mono ?_
   rintro _ H4 ⟨rfl,L4,t4,YC,k4,u4,e4⟩
   have l4:=l3.dZ t4 e4 YC
   refine vs ?_
   refine⟨j,by omega,j,v,L4,rfl,by omega,l4,?_,?_,s3.ext e4 (fun z hz ed=>by injection hz with hz;have:=h.slt B.tl (.inr (.inr (.inr (.inl rfl))));omega),e3.trans (e4.mono fun z _ hz=>.inr (.inl hz)),?_⟩
   ·rw[k4,u4];exact m5.uA (aw w)
   ·rw[k4,u4];exact fun x0 h0=>(f5 x0 h0).uA v1
   ·rw[show((j+1:Nat):Int) - 1 - 1=(j:Int) - 1 by omega,wrap64 (by omega) (by omega)]
end
end Go.Proofs.YthpjfeolagohkaaGreat

namespace Go.Proofs.YthpjfeolagohkaaGreat
open Go Go.Vc
def eA(n:Nat)(H:Hp)(S:Nat→Prop)(w:Nw):Prop:=∃ (B:SB) (C:Nat→Prop) (L:List Lk) (T:Int→Int),B.n=n∧eR H B C w L T∧BO (aG w) (aQ w) (aZ L) (bk L) T∧∀z,S z↔B.S C z
theorem eA.slt{n:Nat}{H:Hp}{S:Nat→Prop}{w:Nw}(h:eA n H S w):∀z,S z→z<H.size:=by
 obtain⟨B,C,L,T,rfl,m,l,hS⟩:=h
 exact fun z hz=>m.slt z ((hS z).1 hz)
theorem eA.ext{n:Nat}{H H':Hp}{S V:Nat→Prop}{w:Nw}(h:eA n H S w)(e:ag V H H')(hd:∀z,S z→¬V z):eA n H' S w:=by
 obtain⟨B,C,L,T,rfl,m,l,hS⟩:=h
 exact⟨B,C,L,T,rfl,m.ext e (fun z hz=>hd z ((hS z).2 hz)),l,hS⟩
theorem Rc:Hw (fun _=> -1)=fun _=>none:=by
 funext y
 unfold Hw
 rw[if_pos rfl]
theorem I2(cap:Int)(H:Hp):af Tryz.prog NY [i64 cap] H fun v H'=>ax (
  ah H H'∧((¬ (0≤cap∧cap≤65536)∧v= .tuple [.pointer none,i64 31].toArray)∨
   ((0≤cap∧cap≤65536)∧∃n S,v= .tuple [ptr n,i64 0].toArray∧eA n H' S (As cap)∧∀x,S x→H.size≤x))):=by
 refine bm Ob ?_
 refine vs ?_
 refine(lA cap H).mono ?_
 rintro _ H1 ⟨f1,⟨hb,rfl⟩| ⟨hb,c,C,rfl,c1,hC⟩⟩
 ·refine vs ?_
  exact⟨f1,.inl ⟨hb,rfl⟩⟩
 refine v1 aqZ ?_
 refine(vK H1 hb).mono ?_
 rintro _ H2 ⟨t,tl,rfl,t2,f2,ht,Nt⟩
 refine vs ?_
 have yJ:=c1.slt
 have z1:=f1.size
 have z2:=f2.size
 have HR:=aB t2.own
 have YO:=aB t2.lB
 have f3:ah H2 (H2.iR.new 244 [ptr c,ptr t,.map (some H2.size)]):=((ag.refl _ _).iR).new _ _
 have e1:ag (fun _=>False) H2.iR (H2.iR.new 244 [ptr c,ptr t,.map (some H2.size)]):=(ag.refl _ _).new _ _
 have ft:=f1.trans (f2.trans f3)
 refine⟨ft,.inr ⟨hb,H2.size+1,(SB.mk (H2.size+1) c t tl H2.size).S C,rfl,⟨⟨H2.size+1,c,t,tl,H2.size⟩,C,_,fun _=> -1,rfl,
  ⟨?_,c1.fresh (f2.trans f3),t2.fresh f3,by rw[Rc];exact(lM.new H2).ext e1 (fun h=>h),?_,?_,?_⟩,BO.none rfl (lE cap) (Ca _) (G7 _) (fun _=>rfl),fun z=>Iff.rfl⟩,fun z hz=>?_⟩⟩
 ·exact bz (by simp only[iJ])
 ·simp[As]
 ·have:=t2.ne
  refine⟨⟨?_,?_,?_⟩,⟨?_,?_⟩,?_⟩<;>simp only<;>omega
 ·refine⟨fun h=>?_,fun h=>?_,fun h=>?_,fun h=>?_⟩<;>(have h2:=yJ _ h;first|omega| (simp only at h2;omega))
 ·rcases hz with hz|rfl|rfl|rfl|rfl
  ·exact hC z hz
  all_goals first|omega| (simp only;omega)
theorem Hy{n:Nat}{H:Hp}{B:SB}{C:Nat→Prop}{w:Nw}{L:List Lk}{T:Int→Int}{S:Nat→Prop}(m:eR H B C w L T)(l:BO (aG w) (aQ w) (aZ L) (bk L) T)(hn:B.n=n)(hS:∀z,S z↔B.S C z):af Tryz.prog dR [ptr B.c] H fun v H'=>ax (
  (w.hs.length=65537∧v=i64 0∧cF (eA n) S H H' w)∨(w.hs.length≠65537∧v=i64 w.hs.length∧cF (eA n) S H H' w.make)):=by
 subst hn
 refine(js m.cells).mono ?_
 rintro _ H1 (⟨h1,rfl,rfl⟩| ⟨h1,rfl,C',c1,e1,Au⟩)
 ·exact .inl ⟨h1,rfl,cF.same ⟨B,C,L,T,rfl,m,l,hS⟩ (ag.refl _ _)⟩
 obtain⟨n1,n2,n3,n4⟩:=m.out
 have slt:=m.slt
 have no:∀z,B.S (fun _=>False) z→¬C z→¬C' z:=fun z hz hn h=>by
  rcases Au z h with h6|h6
  ·exact hn h6
  ·have:=slt z (hz.elim (fun h=>h.elim) .inr)
   omega
 refine .inr ⟨h1,rfl,B.S C',⟨B,C',L,T,rfl,⟨e1.own m.own n1,c1,m.ce.ext e1 n2 n3,m.Nk.ext e1 n4,m.len,m.mG,no _ (.inr (.inl rfl)) n1,no _ (.inr (.inr (.inl rfl))) n2,no _ (.inr (.inr (.inr (.inl rfl)))) n3,no _ (.inr (.inr (.inr (.inr rfl)))) n4⟩,l,fun z=>Iff.rfl⟩,
  e1.mono fun z _ h=>(hS z).2 (.inl h),fun z hz=>?_⟩
 rcases hz with hz|hz
 ·rcases Au z hz with h6|h6
  ·exact .inl ((hS z).2 (.inl h6))
  ·exact .inr h6
 ·exact .inl ((hS z).2 (.inr hz))
theorem D2{n:Nat}{H:Hp}{S:Nat→Prop}{w:Nw}(h:eA n H S w)(g x k s:Int):af Tryz.prog nG [ptr n,i64 g,i64 x,uw k s] H fun v H'=>ax (
  (¬w.lU g x∧v= .bool false∧cF (eA n) S H H' w)∨(w.lU g x∧v= .bool true∧cF (eA n) S H H' (w.put x (g,k,s)))):=by
 obtain⟨B,C,L,T,rfl,m,l,hS⟩:=h
 have hC:∀z,C z→S z:=fun z h=>(hS z).2 (.inl h)
 have s1:S B.tl:=(hS _).2 (.inr (.inr (.inr (.inl rfl))))
 have s2:S B.mp:=(hS _).2 (.inr (.inr (.inr (.inr rfl))))
 refine bm Af ?_
 refine vs ?_
 have f0:ah H (H.new 182 [i64 k,u64 s]):=(ag.refl _ _).new _ _
 have b0:(H.new 182 [i64 k,u64 s]).own H.size=some [i64 k,u64 s]:=az _ _ _
 have m0:=m.fresh f0
 generalize H.new 182 [i64 k,u64 s]=H0 at*
 have ff:ag S H H0:=f0.mono fun _ _ h=>h.elim
 refine v2 (ae m0.own) (ae b0) ?_
 refine(lz m0.cells g x k s).mono ?_
 rintro _ H1 (⟨bO,rfl,c1,e1⟩| ⟨rq,rfl,c1,e1⟩)
 ·refine vs ?_
  exact .inl ⟨bO,rfl,cF.same ⟨B,C,L,T,rfl,m0.aI c1 e1 rfl,l,hS⟩ (ff.trans (e1.mono fun z _ hz=>hC z hz))⟩
 obtain⟨hh,hx,bH⟩:=id rq
 have m1:=m0.aI c1 e1 (by simp[Nw.put])
 have hg:=hh.1
 have cU:=fun y=>eI hx (g,k,s) y
 have bo:U5 (aG (w.put x (g,k,s))) (aQ (w.put x (g,k,s))) (aZ L) (bk L) T g x:=by
  refine l.ins rfl (Int.not_lt.1 fun h=>bH (bA.1 h)) (by omega) (by omega) (by rw[cU,if_pos rfl]) (fun y hy=>by rw[cU,if_neg hy]) (fun a b ha hb uH mI=>dU hx _ ha hb uH mI)
 refine vs ?_
 refine(lV m1 g).mono ?_
 rintro _ H' ⟨rfl,e⟩
 obtain rfl:=e.symm
 refine vs ?_
 refine(lY m1 bo.mg).mono ?_
 rintro _ H2 ⟨r,L2,rfl,m2,g2,_,e2⟩
 refine vs ?_
 refine(lW m2 g r).mono ?_
 rintro _ H3 ⟨m3,e3⟩
 refine vs ?_
 exact .inr ⟨rq,rfl,cF.same ⟨B,C,L2,_,rfl,m3,bo.done g2,hS⟩ (((ff.trans (e1.mono fun z _ h=>hC z h)).trans (e2.mono fun z _ h=>by rcases h with h|rfl;exact hC z h;exact s1)).trans (e3.mono fun z _ h=>h▸s2))⟩
theorem JP{w:Nw}{L:List Lk}{T:Int→Int}(l:BO (aG w) (aQ w) (aZ L) (bk L) T){g x:Int}(h:w.first g x):T g=x:=by
 obtain⟨h1,h2,h3⟩:=bQ.1 h
 have:=l.first (x:=x) (by omega) (fun y hy aR=>h3 y (by omega) aR) (aw w)
 rwa[h2]at this
theorem yW{n:Nat}{H:Hp}{S:Nat→Prop}{w:Nw}(h:eA n H S w)(g:Int):af Tryz.prog ti [ptr n,i64 g] H fun v H'=>ax (
  ((w.len g=0∧v= .tuple [i64 0,.bool false].toArray)∨∃x,w.first g x∧v= .tuple [i64 x,.bool true].toArray)∧H'=H):=by
 obtain⟨B,C,L,T,rfl,m,l,hS⟩:=h
 refine bm EX ?_
 refine vs ?_
 refine(lV m g).mono ?_
 rintro _ H' ⟨rfl,e⟩
 obtain rfl:=e.symm
 refine vs ?_
 refine ar.dec (fun h0=>?_) (fun h0=>?_)<;>refine vs ?_
 ·refine⟨.inl ⟨?_,rfl⟩,rfl⟩
  by_cases hg:0<g
  ·refine aqt fun hl=>?_
   obtain⟨x,hx⟩:=vH hg hl
   have h2:=(bQ.1 hx).2.1
   have:=JP l hx
   have:=(aF (w:=w) (x:=x) (by omega)).1
   omega
  ·exact Nw.IN.2 (.inl (by omega))
 ·obtain⟨h1,h2,h3⟩:=l.t1 g h0
  have hl:w.len g≠0:=fun e=>(vG h2).1 e _ h1
  obtain⟨x,hx⟩:=vH h2 hl
  rw[JP l hx]
  exact⟨.inr ⟨x,hx,rfl⟩,rfl⟩
theorem Az{n:Nat}{H:Hp}{S:Nat→Prop}{w:Nw}(h:eA n H S w)(x k s:Int):af Tryz.prog kX [ptr n,i64 x,uw k s] H fun v H'=>ax (
  (¬w.dm x k s∧v= .bool false∧cF (eA n) S H H' w)∨(w.dm x k s∧v= .bool true∧∃y,w.cs[x.toNat]? =some y∧cF (eA n) S H H' (w.put x (y.1,k,s)))):=by
 obtain⟨B,C,L,T,rfl,m,l,hS⟩:=h
 have hC:∀z,C z→S z:=fun z h=>(hS z).2 (.inl h)
 have s1:S B.tl:=(hS _).2 (.inr (.inr (.inr (.inl rfl))))
 have s2:S B.mp:=(hS _).2 (.inr (.inr (.inr (.inr rfl))))
 refine bm vx ?_
 refine vs ?_
 have f0:ah H (H.new 182 [i64 k,u64 s]):=(ag.refl _ _).new _ _
 have b0:(H.new 182 [i64 k,u64 s]).own H.size=some [i64 k,u64 s]:=az _ _ _
 have m0:=m.fresh f0
 generalize H.new 182 [i64 k,u64 s]=H0 at*
 have ff:ag S H H0:=f0.mono fun _ _ h=>h.elim
 refine v2 (ae m0.own) (ae b0) ?_
 refine(gW m0.cells x k s).mono ?_
 rintro _ H1 (⟨bO,rfl,c1,e1⟩| ⟨bH,rfl,y,hy,fR,c1,e1⟩)
 ·refine vs ?_
  exact .inl ⟨bO,rfl,cF.same ⟨B,C,L,T,rfl,m0.ext e1 (fun _ _ h=>h),l,hS⟩ (ff.trans (e1.mono fun _ _ h=>h.elim))⟩
 have lJ:(w.put x (y.1,k,s)).cs.length=w.cs.length:=by simp[Nw.put]
 have m1:=m0.aI c1 e1 lJ
 have Cd:w.dm x k s:=⟨bH,fun z hz=>by rw[hy]at hz;injection hz with hz;rw[←hz];exact fR⟩
 have hx:0≤x∧x<w.cs.length:=⟨bH.1,by have:=(aqc.1 hy).1;have:=bH.1;omega⟩
 have RH:aG w x=y.1:=kg bH.1 hy
 have ep:=bA.2 bH
 have hw:aG (w.put x (y.1,k,s))=aG w:=by
  funext z
  rw[eI hx]
  split
  ·rename_i e;rw[e,RH]
  ·rfl
 have Fu:df (w.put x (y.1,k,s)).cs x:=bA.1 (by rw[hw];exact ep)
 refine v1 (ae m1.own) ?_
 refine(dH m1.cells x).mono ?_
 rintro _ H2 (⟨bO,_,_⟩| ⟨_,rfl,c2,e2⟩)
 ·exact absurd Fu bO
 have m2:=m1.aI c2 e2 rfl
 have pg:ag S H H2:=(ff.trans (e1.mono fun z _ h=>hC z h)).trans (e2.mono fun z _ h=>hC z h)
 have el:∀a b,0<aG w a→0<aG w b→a≠x→b≠x→aQ (w.put x (y.1,k,s)) a b=aQ w a b:=fun a b ha hb uH mI=>dU hx _ ha hb uH mI
 have ex:∀b,0<aG w b→b≠x→aQ w x b=true→aQ (w.put x (y.1,k,s)) x b=true:=fun b hb mI h=>B4 bH hy fR hb mI h
 refine v1 (ae m2.own) ?_
 refine(cR m2.ce (x:=x) (fun hu=>by have:=B6.up l.bt hu;have:=m2.len;omega)).mono ?_
 rintro _ H3 ⟨rfl,L3,t3,l3,k3,u3,e3⟩
 have m3:=m2.dZ t3 e3 l3
 have Dz:ag S H H3:=pg.trans (e3.mono fun z _ h=>h▸s1)
 unfold gG
 by_cases hu:bk L x= -1
 ·rw[if_pos hu]
  refine vs ?_
  have kk:aZ L3=aZ L:=by rw[k3];unfold jg;rw[if_pos hu]
  have uu:bk L3=bk L:=by
   rw[u3]
   funext z
   unfold di aK
   split
   ·rename_i e;rw[e,hu]
   ·rfl
  refine .inr ⟨Cd,rfl,y,hy,cF.same ⟨B,C,L3,T,rfl,m3,?_,hS⟩ Dz⟩
  rw[hw,kk,uu]
  exact l.U6 ep hu el ex (aw w)
 rw[if_neg hu]
 refine vs ?_
 have bo:=l.low ep hu el ex (aw w)
 rw[←hw,←k3,←u3]at bo
 refine(lV m3 _).mono ?_
 rintro _ H' ⟨rfl,e⟩
 obtain rfl:=e.symm
 refine vs ?_
 refine(lY m3 bo.mg).mono ?_
 rintro _ H4 ⟨r,L4,rfl,m4,g4,_,e4⟩
 refine vs ?_
 refine(lW m4 _ r).mono ?_
 rintro _ H5 ⟨m5,e5⟩
 refine vs ?_
 exact .inr ⟨Cd,rfl,y,hy,cF.same ⟨B,C,L4,_,rfl,m5,bo.done g4,hS⟩ ((Dz.trans (e4.mono fun z _ h=>by rcases h with h|rfl;exact hC z h;exact s1)).trans (e5.mono fun z _ h=>h▸s2))⟩
end Go.Proofs.YthpjfeolagohkaaGreat
