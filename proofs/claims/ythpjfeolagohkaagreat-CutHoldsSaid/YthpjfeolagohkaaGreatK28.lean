/- Texts put behind each other. -/
import Derived.Test.YthpjfeolagohkaaGreatK98
import Derived.Test.YthpjfeolagohkaaGreatK2
import Derived.Test.YthpjfeolagohkaaGreatK26
import Derived.Test.YthpjfeolagohkaaGreatK27
set_option maxRecDepth 100000
set_option maxHeartbeats 8000000
set_option linter.unusedVariables false
set_option linter.unusedSimpArgs false
namespace Go.Proofs.YthpjfeolagohkaaGreat
open Go Go.Vc
def pa(d:Int)(j:Nat):Nat:=(((j:Int) - 1) / d).toNat
theorem oh{d:Int}(hf:cY d){i:Int}(h1:1≤i):∃p,aX d i=some p∧p.toNat=pa d i.toNat∧0≤p∧p<i:=by
 have hp:aX d i=some ((i - 1) / d):=by unfold aX;rw[if_pos ⟨hf,h1⟩]
 have hb:=fB hp
 refine⟨_,hp,?_,hb.1,hb.2⟩
 unfold pa
 rw[show((i.toNat:Nat):Int)=i by omega]
theorem cQ{d:Int}(hf:cY d){j:Nat}(h:1≤j):pa d j<j:=by
 obtain⟨p,_,h1,h2,h3⟩:=oh hf (i:=(j:Int)) (by omega)
 simp only[Int.toNat_natCast]at h1
 omega
theorem SU{d:Int}(hf:cY d){i j:Nat}(h:1≤j):pa d j=i↔(d*i+1≤j∧(j:Int)≤d*i+d):=by
 have hd:=hf.1
 unfold pa
 have e1:=Int.mul_ediv_add_emod ((j:Int) - 1) d
 have e2:=Int.emod_nonneg ((j:Int) - 1) (show d≠0 by omega)
 have e3:=Int.emod_lt_of_pos ((j:Int) - 1) (show 0<d by omega)
 have e4:0≤((j:Int) - 1) / d:=Int.ediv_nonneg (by omega) (by omega)
 constructor
 ·intro h
  have:((j:Int) - 1) / d=i:=by omega
  rw[this]at e1
  omega
 ·rintro⟨h1,h2⟩
  have h3:=tD (d:=d) (i:=(i:Int)) (j:=(j:Int) - d*i) hd (by omega) (by omega) (by omega)
  rw[show d*(i:Int)+((j:Int) - d*i) - 1=(j:Int) - 1 by omega]at h3
  omega
theorem dT(l:List Int)(i j:Nat)(v:Int)(hi:i<l.length):(l.set i v).getD j 0=if i=j then v else l.getD j 0:=by
 rw[aqf,List.getElem?_set,aqf]
 by_cases h:i=j
 ·subst h;simp[hi]
 ·simp[h]
def fk(lt:Int→Int→Bool)(d:Int)(l:List Int):Prop:=∀j,1≤j→j<l.length→lt (l.getD j 0) (l.getD (pa d j) 0)=false
def dY(lt:Int→Int→Bool)(d:Int)(l:List Int)(i:Nat):Prop:=
 (∀j,1≤j→j<l.length→j≠i→pa d j≠i→lt (l.getD j 0) (l.getD (pa d j) 0)=false)∧
 (∀j,1≤j→j<l.length→pa d j=i→1≤i→lt (l.getD j 0) (l.getD (pa d i) 0)=false)
theorem fk.but{lt:Int→Int→Bool}(ho:bC lt){d:Int}(hf:cY d){l:List Int}(h:fk lt d l)(i:Nat):dY lt d l i:=by
 refine⟨fun j h1 h2 _ _=>h j h1 h2,fun j h1 h2 h3 h4=>?_⟩
 have e1:=h j h1 h2
 have e2:=h i h4 (by have:=cQ hf h1;omega)
 rw[h3]at e1
 exact ho.nt _ _ _ e1 e2
theorem dY.set{lt:Int→Int→Bool}{d:Int}(hf:cY d){l:List Int}{i:Nat}(hi:i<l.length)(h:dY lt d l i){x:Int}(hB:∀j,1≤j→j<l.length→pa d j=i→lt (l.getD j 0) x=false)
  (hD:1≤i→lt x (l.getD (pa d i) 0)=false):fk lt d (l.set i x):=by
 intro j h1 h2
 rw[aqe]at h2
 rw[dT _ _ _ _ hi,dT _ _ _ _ hi]
 have aN:=cQ hf h1
 by_cases e1:i=j
 ·subst e1
  rw[if_pos rfl,if_neg (by omega)]
  exact hD h1
 ·rw[if_neg e1]
  by_cases e2:i=pa d j
  ·rw[if_pos e2];exact hB j h1 h2 e2.symm
  ·rw[if_neg e2];exact h.1 j h1 h2 (Ne.symm e1) (Ne.symm e2)
theorem KL{lt:Int→Int→Bool}(ho:bC lt){d:Int}(hf:cY d)(x:Int):∀ (m:Nat) (l:List Int) (pl:Int→Option Int) (i:Int),i.toNat≤m→0≤i→i<l.length→dY lt d l i.toNat→
  (∀j,1≤j→j<l.length→pa d j=i.toNat→lt (l.getD j 0) x=false)→fk lt d (fS lt d x m l pl i).l:=by
 intro m
 induction m with
 |zero=>
  intro l pl i hm h0 hl hA hB
  exact hA.set hf (by omega) hB (fun h=>by omega)
 |succ m ih=>
  intro l pl i hm h0 hl hA hB
  by_cases hi:1≤i
  ·obtain⟨p,hp,Ul,p0,p1⟩:=oh hf hi
   unfold fS
   rw[hp]
   simp only[Ul]
   cases aN:lt x (l.getD (pa d i.toNat) 0)with
   |false=>
    exact hA.set hf (by omega) hB (fun _=>aN)
   |true=>
    simp only[if_true]
    have qR:i.toNat<l.length:=by omega
    have hpi:=cQ hf (j:=i.toNat) (by omega)
    refine ih _ _ p (by omega) p0 (by rw[aqe];omega) ⟨fun j h1 h2 h3 h4=>?_,fun j h1 h2 h3 h4=>?_⟩ (fun j h1 h2 h3=>?_)
    ·rw[aqe]at h2
     rw[Ul]at h3 h4
     rw[dT _ _ _ _ qR,dT _ _ _ _ qR]
     have e1:i.toNat≠j:=fun e=>h4 (by rw[←e])
     rw[if_neg e1]
     by_cases e2:i.toNat=pa d j
     ·rw[if_pos e2]
      exact hA.2 j h1 h2 e2.symm (by omega)
     ·rw[if_neg e2]
      exact hA.1 j h1 h2 (Ne.symm e1) (Ne.symm e2)
    ·rw[aqe]at h2
     rw[Ul]at h3 h4 ⊢
     rw[dT _ _ _ _ qR,dT _ _ _ _ qR]
     have Oy:=cQ hf h4
     rw[if_neg (show i.toNat≠pa d (pa d i.toNat) by omega)]
     have e3:=hA.1 (pa d i.toNat) h4 (by omega) (by omega) (by omega)
     by_cases e1:i.toNat=j
     ·rw[if_pos e1];exact e3
     ·rw[if_neg e1]
      have e4:=hA.1 j h1 h2 (Ne.symm e1) (by omega)
      rw[h3]at e4
      exact ho.nt _ _ _ e4 e3
    ·rw[aqe]at h2
     rw[Ul]at h3
     rw[dT _ _ _ _ qR]
     by_cases e1:i.toNat=j
     ·rw[if_pos e1];exact ho.asym aN
     ·rw[if_neg e1]
      have e4:=hA.1 j h1 h2 (Ne.symm e1) (by omega)
      rw[h3]at e4
      cases hx:lt (l.getD j 0) x with
      |false=>rfl
      |true=>have:=ho.tr _ _ _ hx aN;rw[this]at e4;cases e4
  ·have GR:i=0:=by omega
   subst GR
   have hn:aX d 0=none:=by unfold aX;rw[if_neg (by omega)]
   unfold fS
   rw[hn]
   exact hA.set hf (by omega) hB (fun h=>by simp at h)
theorem GV(lt:Int→Int→Bool)(d x:Int):∀ (m:Nat) (l:List Int) (pl:Int→Option Int) (i:Int),(fS lt d x m l pl i).asked≤Nn d m i:=by
 intro m
 induction m with
 |zero=>intro l pl i;simp[fS,Nn]
 |succ m ih=>
  intro l pl i
  unfold fS Nn
  cases hp:aX d i with
  |none=>simp
  |some p=>
   simp only
   split
   ·have:=ih (l.set i.toNat (l.getD p.toNat 0)) (da pl (l.getD p.toNat 0) i) p
    simp only;omega
   ·simp only;omega
theorem wC(lt:Int→Int→Bool)(d x:Int):∀ (m:Nat) (l:List Int) (pl:Int→Option Int) (i:Int),(fS lt d x m l pl i).l.length=l.length:=by
 intro m
 induction m with
 |zero=>intro l pl i;simp[fS]
 |succ m ih=>
  intro l pl i
  unfold fS
  cases hp:aX d i with
  |none=>simp
  |some p=>
   simp only
   split
   ·simp[ih]
   ·simp
theorem SV{lt:Int→Int→Bool}{d:Int}(hf:cY d)(x:Int)(l:List Int)(pl:Int→Option Int)(i:Int)(h0:0≤i):
  ((fS lt d x i.toNat l pl i).at_=i∧(fS lt d x i.toNat l pl i).l=l.set i.toNat x∧(fS lt d x i.toNat l pl i).pl=da pl x i∧(fS lt d x i.toNat l pl i).asked≤1∧(1≤i→lt x (l.getD (pa d i.toNat) 0)=false))∨
  ((fS lt d x i.toNat l pl i).at_<i∧1≤i∧lt x (l.getD (pa d i.toNat) 0)=true):=by
 by_cases hi:1≤i
 ·obtain⟨p,hp,Ul,p0,p1⟩:=oh hf hi
  obtain⟨q,hq⟩:∃q,i.toNat=q+1:=⟨i.toNat - 1,by omega⟩
  have low:∀ (m:Nat) (l:List Int) (pl:Int→Option Int) (i:Int),(fS lt d x m l pl i).at_≤i:=by
   intro m
   induction m with
   |zero=>intro l pl i;simp[fS]
   |succ m ih=>
    intro l pl i
    unfold fS
    cases hp:aX d i with
    |none=>simp
    |some p=>
     have:=fB hp
     simp only
     split
     ·have:=ih (l.set i.toNat (l.getD p.toNat 0)) (da pl (l.getD p.toNat 0) i) p
      simp only;omega
     ·simp only;omega
  rw[hq,fS,hp,←hq]
  simp only[Ul]
  cases aN:lt x (l.getD (pa d i.toNat) 0)with
  |false=>exact .inl ⟨rfl,rfl,rfl,aqm _,fun _=>rfl⟩
  |true=>
   have:=low q (l.set i.toNat (l.getD (pa d i.toNat) 0)) (da pl (l.getD (pa d i.toNat) 0) i) p
   exact .inr ⟨by simp only[if_true];omega,hi,rfl⟩
 ·have GR:i=0:=by omega
  subst GR
  exact .inl ⟨rfl,rfl,rfl,by simp[fS],fun h=>by omega⟩
def SX(l:List Int)(pl:Int→Option Int)(i:Int)(x:Int):Prop:=
 ∀z,z≠x→∀k,pl z=some k↔(0≤k∧k≠i∧l[k.toNat]? =some z)
def DI(l:List Int)(pl:Int→Option Int):Prop:=∀z k,pl z=some k↔(0≤k∧l[k.toNat]? =some z)
theorem DI.ahh{l:List Int}{pl:Int→Option Int}(h:DI l pl){i x:Int}(hx:l[i.toNat]? =some x)(h0:0≤i):SX l pl i x:=by
 intro z hz k
 rw[h z k]
 constructor
 ·rintro⟨a,b⟩;exact⟨a,fun e=>by subst e;rw[hx]at b;injection b with b;exact hz b.symm,b⟩
 ·rintro⟨a,_,b⟩;exact⟨a,b⟩
theorem DI.GW{l:List Int}{pl:Int→Option Int}(h:DI l pl){i j:Nat}{z:Int}(hi:l[i]? =some z)(hj:l[j]? =some z):i=j:=by
 have h1:=(h z i).2 ⟨by omega,by simpa using hi⟩
 have h2:=(h z j).2 ⟨by omega,by simpa using hj⟩
 rw[h1]at h2
 injection h2 with h2
 omega
def JG(l:List Int)(i:Int)(z:Int):Prop:=∃k:Nat,(k:Int)≠i∧l[k]? =some z
theorem SX.set{l:List Int}{pl:Int→Option Int}{i x:Int}(h:SX l pl i x)(h0:0≤i)(hl:i<l.length)(hx:¬JG l i x):DI (l.set i.toNat x) (da pl x i):=by
 intro z k
 have qR:i.toNat<l.length:=by omega
 by_cases e:z=x
 ·subst e
  simp only[da,if_true]
  constructor
  ·intro hk;injection hk with hk;subst hk;exact⟨h0,by rw[aqi qR]⟩
  ·rintro⟨a,b⟩
   by_cases e2:k=i
   ·rw[e2]
   ·exfalso
    rw[aqh (by omega)]at b
    exact hx ⟨k.toNat,by omega,b⟩
 ·simp only[da,if_neg e]
  rw[h z e k]
  constructor
  ·rintro⟨a,b,c⟩;exact⟨a,by rw[aqh (by omega)];exact c⟩
  ·rintro⟨a,b⟩
   have e2:k≠i:=fun e2=>by
    rw[e2,aqi qR]at b;injection b with b;exact e b.symm
   exact⟨a,e2,by rw[aqh (by omega)]at b;exact b⟩
theorem SX.move{l:List Int}{pl:Int→Option Int}{i p x y:Int}(h:SX l pl i x)(h0:0≤i)(hl:i<l.length)(p0:0≤p)(hpi:p≠i)(hy:l[p.toNat]? =some y)(hx:¬JG l i x):
  SX (l.set i.toNat y) (da pl y i) p x∧(¬JG (l.set i.toNat y) p x)∧∀z,JG (l.set i.toNat y) p z↔JG l i z:=by
 have qR:i.toNat<l.length:=by omega
 have oJ:y≠x:=fun e=>hx ⟨p.toNat,by omega,by rw[hy,e]⟩
 have acM:∀k:Int,0≤k→k≠i→l[k.toNat]? =some y→k=p:=by
  intro k k0 ki hk
  have h1:=(h y oJ k).2 ⟨k0,ki,hk⟩
  have h2:=(h y oJ p).2 ⟨p0,hpi,hy⟩
  rw[h1]at h2;injection h2
 have MN:∀z,JG (l.set i.toNat y) p z↔JG l i z:=by
  intro z
  constructor
  ·rintro⟨k,k1,k2⟩
   by_cases e:i.toNat=k
   ·rw[←e,aqi qR]at k2
    injection k2 with k2
    subst k2
    exact⟨p.toNat,by omega,hy⟩
   ·rw[aqh e]at k2
    exact⟨k,by omega,k2⟩
  ·rintro⟨k,k1,k2⟩
   by_cases e:(k:Int)=p
   ·refine⟨i.toNat,by omega,?_⟩
    rw[aqi qR]
    rw[show k=p.toNat by omega,hy]at k2
    exact k2
   ·exact⟨k,e,by rw[aqh (by omega)];exact k2⟩
 refine⟨?_,fun hc=>hx ((MN x).1 hc),MN⟩
 intro z hz k
 by_cases e:z=y
 ·subst e
  simp only[da,if_true]
  constructor
  ·intro hk;injection hk with hk;subst hk;exact⟨h0,by omega,by rw[aqi qR]⟩
  ·rintro⟨a,b,c⟩
   by_cases e2:k=i
   ·rw[e2]
   ·rw[aqh (by omega)]at c
    exact absurd (acM k a e2 c) b
 ·simp only[da,if_neg e]
  rw[h z hz k]
  constructor
  ·rintro⟨a,b,c⟩
   refine⟨a,fun e2=>?_,by rw[aqh (by omega)];exact c⟩
   rw[e2,hy]at c;injection c with c;exact e c.symm
  ·rintro⟨a,b,c⟩
   have e2:k≠i:=fun e2=>by rw[e2,aqi qR]at c;injection c with c;exact e c.symm
   exact⟨a,e2,by rw[aqh (by omega)]at c;exact c⟩
theorem mem_set{l:List Int}{i:Nat}(hi:i<l.length)(x z:Int):z∈l.set i x↔z=x∨JG l i z:=by
 constructor
 ·intro h
  obtain⟨k,hk⟩:=aqB h
  by_cases e:i=k
  ·subst e;rw[aqi hi]at hk;injection hk with hk;exact .inl hk.symm
  ·rw[aqh e]at hk;exact .inr ⟨k,by omega,hk⟩
 ·rintro(rfl| ⟨k,k1,k2⟩)
  ·exact aqg (i:=i) (aqi hi)
  ·exact aqg (i:=k) (by rw[aqh (by omega)];exact k2)
theorem DJ{lt:Int→Int→Bool}{d:Int}(x:Int):∀ (m:Nat) (l:List Int) (pl:Int→Option Int) (i:Int),i.toNat≤m→0≤i→i<l.length→SX l pl i x→¬JG l i x→
  DI (fS lt d x m l pl i).l (fS lt d x m l pl i).pl∧∀z,z∈(fS lt d x m l pl i).l↔z=x∨JG l i z:=by
 intro m
 induction m with
 |zero=>
  intro l pl i hm h0 hl hP hx
  exact⟨hP.set h0 hl hx,fun z=>by have:=mem_set (l:=l) (i:=i.toNat) (by omega) x z;rw[show((i.toNat:Nat):Int)=i by omega]at this;exact this⟩
 |succ m ih=>
  intro l pl i hm h0 hl hP hx
  have Qe:DI (l.set i.toNat x) (da pl x i)∧∀z,z∈l.set i.toNat x↔z=x∨JG l i z:=
   ⟨hP.set h0 hl hx,fun z=>by have:=mem_set (l:=l) (i:=i.toNat) (by omega) x z;rw[show((i.toNat:Nat):Int)=i by omega]at this;exact this⟩
  unfold fS
  cases hp:aX d i with
  |none=>exact Qe
  |some p=>
   have hb:=fB hp
   simp only
   split
   ·have hy:l[p.toNat]? =some (l.getD p.toNat 0):=by
     rw[aqf,aqb (by omega)];rfl
    obtain⟨m1,m2,m3⟩:=hP.move h0 hl hb.1 (by omega) hy hx
    obtain⟨r1,r2⟩:=ih (l.set i.toNat (l.getD p.toNat 0)) (da pl (l.getD p.toNat 0) i) p (by omega) hb.1 (by rw[aqe];omega) m1 m2
    exact⟨r1,fun z=>by rw[r2 z,m3 z]⟩
   ·exact Qe
theorem MO{lt:Int→Int→Bool}(ho:bC lt)(l:List Int)(d i:Int)(h:0≤d*i):∀ (m:Nat) (bZ:Int),(m:Int)≤d - 1→d*i+1≤bZ→bZ<l.length→
  (∀c:Int,d*i+1≤c→c≤d*i+(d - m)→c<l.length→lt (l.getD c.toNat 0) (l.getD bZ.toNat 0)=false)→
  ∀c:Int,d*i+1≤c→c≤d*i+d→c<l.length→lt (l.getD c.toNat 0) (l.getD (bY lt l d i m bZ).1.toNat 0)=false:=by
 intro m
 induction m with
 |zero=>intro bZ _ _ _ hc c c1 c2 c3;exact hc c c1 (by omega) c3
 |succ m ih=>
  intro bZ hm h1 h2 hc c c1 c2 c3
  unfold bY
  split
  ·rename_i aN
   simp only
   split
   ·rename_i hl
    refine ih _ (by omega) (by omega) (by omega) (fun e e1 e2 e3=>?_) c c1 c2 c3
    by_cases he:e=d*i+(d - m)
    ·rw[he];exact ho.Es _
    ·have:=hc e e1 (by omega) e3
     cases hx:lt (l.getD e.toNat 0) (l.getD (d*i+(d - (m:Int))).toNat 0)with
     |false=>rfl
     |true=>
      have:=ho.tr _ _ _ hx hl
      simp_all
   ·rename_i hl
    refine ih _ (by omega) h1 h2 (fun e e1 e2 e3=>?_) c c1 c2 c3
    by_cases he:e=d*i+(d - m)
    ·rw[he];simpa using hl
    ·exact hc e e1 (by omega) e3
  ·rename_i aN
   refine ih _ (by omega) h1 h2 (fun e e1 e2 e3=>?_) c c1 c2 c3
   by_cases he:e=d*i+(d - m)
   ·omega
   ·exact hc e e1 (by omega) e3
theorem QY{lt:Int→Int→Bool}(ho:bC lt){d:Int}(hf:cY d)(x:Int):∀ (m:Nat) (l:List Int) (pl:Int→Option Int) (i:Int),l.length≤i.toNat+m→0≤i→i<l.length→dY lt d l i.toNat→
  (1≤i→lt x (l.getD (pa d i.toNat) 0)=false)→fk lt d (cZ lt d x m l pl i).1:=by
 intro m
 induction m with
 |zero=>intro l pl i hm h0 hl;omega
 |succ m ih=>
  intro l pl i hm h0 hl hA hD
  have Vs:=hf.1
  have Uk:0≤d*i:=arQ (by omega) h0
  have hit:((i.toNat:Nat):Int)=i:=by omega
  have QZ:∀j:Nat,1≤j→(pa d j=i.toNat↔(d*i+1≤j∧(j:Int)≤d*i+d)):=fun j hj=>by have:=SU hf (i:=i.toNat) hj;rw[hit]at this;exact this
  unfold cZ
  split
  ·rename_i hc
   exact hA.set hf (by omega) (fun j h1 h2 h3=>by have:=(QZ j h1).1 h3;omega) (fun h=>hD (by omega))
  ·rename_i hc
   have hb:=lu lt l d i Uk (d - 1).toNat (d*i+1) (by omega) (by omega) (by omega)
   have oG:(bY lt l d i (d - 1).toNat (d*i+1)).1≤d*i+d:=by
    have key:∀ (m:Nat) (bZ:Int),(m:Int)≤d - 1→bZ≤d*i+d→(bY lt l d i m bZ).1≤d*i+d:=by
     intro m
     induction m with
     |zero=>intro bZ _ h;exact h
     |succ m ih=>
      intro bZ hm h
      unfold bY
      split
      ·simp only;split
       ·exact ih _ (by omega) (by omega)
       ·exact ih _ (by omega) h
      ·exact ih _ (by omega) h
    exact key _ _ (by omega) (by omega)
   have Vo:=MO ho l d i Uk (d - 1).toNat (d*i+1) (by omega) (by omega) (by omega) (fun c c1 c2 c3=>by rw[show c=d*i+1 by omega];exact ho.Es _)
   have aN:=og hf h0 hb.1
   generalize bY lt l d i (d - 1).toNat (d*i+1)=B at*
   obtain⟨b,q⟩:=B
   simp only at hb oG Vo aN
   have hbp:pa d b.toNat=i.toNat:=(QZ b.toNat (by omega)).2 ⟨by omega,by omega⟩
   have qR:i.toNat<l.length:=by omega
   have sO:∀j,1≤j→j<l.length→pa d j=i.toNat→lt (l.getD j 0) (l.getD b.toNat 0)=false:=fun j h1 h2 h3=>by
    have h4:=(QZ j h1).1 h3
    have:=Vo j h4.1 h4.2 (by omega)
    simpa using this
   simp only
   by_cases hy:lt (l.getD b.toNat 0) x=true
   ·rw[if_pos hy]
    refine ih _ _ b (by rw[aqe];omega) (by omega) (by rw[aqe];omega) ⟨fun j h1 h2 h3 h4=>?_,fun j h1 h2 h3 h4=>?_⟩ (fun _=>?_)
    ·rw[aqe]at h2
     rw[dT _ _ _ _ qR,dT _ _ _ _ qR]
     have Yz:=cQ hf h1
     by_cases e1:i.toNat=j
     ·subst e1
      rw[if_pos rfl,if_neg (by omega)]
      have:=hA.2 b.toNat (by omega) (by omega) hbp h1
      exact this
     ·rw[if_neg e1]
      by_cases e2:i.toNat=pa d j
      ·rw[if_pos e2];exact sO j h1 h2 e2.symm
      ·rw[if_neg e2];exact hA.1 j h1 h2 (Ne.symm e1) (Ne.symm e2)
    ·rw[aqe]at h2
     rw[hbp,dT _ _ _ _ qR,dT _ _ _ _ qR,if_pos rfl]
     have Yz:=cQ hf h1
     rw[if_neg (by omega)]
     have:=hA.1 j h1 h2 (by omega) (by omega)
     rw[h3]at this
     exact this
    ·rw[hbp,dT _ _ _ _ qR,if_pos rfl]
     exact ho.asym hy
   ·rw[if_neg hy]
    exact hA.set hf qR (fun j h1 h2 h3=>ho.nt _ _ _ (sO j h1 h2 h3) (by simpa using hy)) (fun h=>hD (by omega))
theorem MP(lt:Int→Int→Bool)(d x:Int):∀ (m:Nat) (l:List Int) (pl:Int→Option Int) (i:Int),(cZ lt d x m l pl i).1.length=l.length:=by
 intro m
 induction m with
 |zero=>intro l pl i;simp[cZ]
 |succ m ih=>
  intro l pl i
  unfold cZ
  split
  ·simp
  ·simp only
   split
   ·simp[ih]
   ·simp
theorem MQ{lt:Int→Int→Bool}{d:Int}(hf:cY d)(x:Int):∀ (m:Nat) (l:List Int) (pl:Int→Option Int) (i:Int),0≤i→i<l.length→SX l pl i x→¬JG l i x→
  DI (cZ lt d x m l pl i).1 (cZ lt d x m l pl i).2.1∧∀z,z∈(cZ lt d x m l pl i).1↔z=x∨JG l i z:=by
 intro m
 induction m with
 |zero=>
  intro l pl i h0 hl hP hx
  exact⟨hP.set h0 hl hx,fun z=>by have:=mem_set (l:=l) (i:=i.toNat) (by omega) x z;rw[show((i.toNat:Nat):Int)=i by omega]at this;exact this⟩
 |succ m ih=>
  intro l pl i h0 hl hP hx
  have Qe:DI (l.set i.toNat x) (da pl x i)∧∀z,z∈l.set i.toNat x↔z=x∨JG l i z:=
   ⟨hP.set h0 hl hx,fun z=>by have:=mem_set (l:=l) (i:=i.toNat) (by omega) x z;rw[show((i.toNat:Nat):Int)=i by omega]at this;exact this⟩
  have Vs:=hf.1
  have Uk:0≤d*i:=arQ (by omega) h0
  unfold cZ
  split
  ·exact Qe
  ·have hb:=lu lt l d i Uk (d - 1).toNat (d*i+1) (by omega) (by omega) (by omega)
   have aN:=og hf h0 hb.1
   simp only
   split
   ·have hy:l[(bY lt l d i (d - 1).toNat (d*i+1)).1.toNat]? =some (l.getD (bY lt l d i (d - 1).toNat (d*i+1)).1.toNat 0):=by
     rw[aqf,aqb (by omega)];rfl
    obtain⟨m1,m2,m3⟩:=hP.move h0 hl (by omega) (by omega) hy hx
    obtain⟨r1,r2⟩:=ih _ _ _ (by omega) (by rw[aqe];omega) m1 m2
    exact⟨r1,fun z=>by rw[r2 z,m3 z]⟩
   ·exact Qe
def lw(d i:Int):Nat:=Nn d i.toNat i
theorem qZ{d i p:Int}(h:aX d i=some p):lw d i=lw d p+1:=Su h _ (aqm _)
theorem ly{d:Int}(hf:cY d):∀ (m:Nat) (i j:Int),j.toNat≤m→i≤j→lw d i≤lw d j:=by
 intro m
 induction m with
 |zero=>
  intro i j hm Ll
  have:lw d i=0:=by unfold lw;rw[show i.toNat=0 by omega];rfl
  omega
 |succ m ih=>
  intro i j hm Ll
  by_cases hi:1≤i
  ·have Vs:=hf.1
   have hp:aX d i=some ((i - 1) / d):=by unfold aX;rw[if_pos ⟨hf,hi⟩]
   have hq:aX d j=some ((j - 1) / d):=by unfold aX;rw[if_pos ⟨hf,by omega⟩]
   have hb:=fB hq
   rw[qZ hp,qZ hq]
   have:=ih ((i - 1) / d) ((j - 1) / d) (by omega) (Int.ediv_le_ediv (by omega) (by omega))
   omega
  ·have:lw d i=0:=by
    unfold lw
    have hn:aX d i=none:=by unfold aX;rw[if_neg (by omega)]
    cases i.toNat<;>simp[Nn,hn]
   omega
theorem MR(lt:Int→Int→Bool)(l:List Int)(d i:Int):∀ (m:Nat) (bZ:Int),(bY lt l d i m bZ).2≤m:=by
 intro m
 induction m with
 |zero=>intro bZ;simp[bY]
 |succ m ih=>
  intro bZ
  unfold bY
  split
  ·simp only
   have:=ih (if lt (l.getD (d*i+(d - m)).toNat 0) (l.getD bZ.toNat 0)=true then d*i+(d - m)else bZ)
   omega
  ·have:=ih bZ;omega
theorem OF{lt:Int→Int→Bool}{d:Int}(hf:cY d)(x:Int):∀ (m:Nat) (l:List Int) (pl:Int→Option Int) (i:Int),l.length≤i.toNat+m→0≤i→i<l.length→
  ((cZ lt d x m l pl i).2.2:Int)+d*(lw d i:Nat)≤d*(lw d ((l.length:Int) - 1):Nat):=by
 intro m
 induction m with
 |zero=>intro l pl i hm h0 hl;omega
 |succ m ih=>
  intro l pl i hm h0 hl
  have Vs:=hf.1
  have Uk:0≤d*i:=arQ (by omega) h0
  have GX:∀k,k≤(l.length:Int) - 1→d*(lw d k:Nat)≤d*(lw d ((l.length:Int) - 1):Nat):=fun k hk=>
   Int.mul_le_mul_of_nonneg_left (by have:=ly hf ((l.length:Int) - 1).toNat k ((l.length:Int) - 1) (aqm _) hk;omega) (by omega)
  unfold cZ
  split
  ·have:=GX i (by omega);simp only;omega
  ·have hb:=lu lt l d i Uk (d - 1).toNat (d*i+1) (by omega) (by omega) (by omega)
   have aN:=og hf h0 hb.1
   have amm:=MR lt l d i (d - 1).toNat (d*i+1)
   have oG:(bY lt l d i (d - 1).toNat (d*i+1)).1≤d*i+d:=by
    have key:∀ (m:Nat) (bZ:Int),(m:Int)≤d - 1→bZ≤d*i+d→(bY lt l d i m bZ).1≤d*i+d:=by
     intro m
     induction m with
     |zero=>intro bZ _ h;exact h
     |succ m ih=>
      intro bZ hm h
      unfold bY
      split
      ·simp only;split
       ·exact ih _ (by omega) (by omega)
       ·exact ih _ (by omega) h
      ·exact ih _ (by omega) h
    exact key _ _ (by omega) (by omega)
   generalize bY lt l d i (d - 1).toNat (d*i+1)=B at*
   have QX:aX d B.1=some i:=by
    unfold aX
    rw[if_pos ⟨hf,by omega⟩]
    have:=tD (d:=d) (i:=i) (j:=B.1 - d*i) Vs h0 (by omega) (by omega)
    rw[show d*i+(B.1 - d*i) - 1=B.1 - 1 by omega]at this
    rw[this]
   have CF:=qZ QX
   have hmul:d*((lw d i+1:Nat):Int)=d*(lw d i:Nat)+d:=by rw[Int.natCast_add,Int.mul_add];simp
   simp only
   split
   ·have:=ih (l.set i.toNat (l.getD B.1.toNat 0)) (da pl (l.getD B.1.toNat 0) i) B.1 (by rw[aqe];omega) (by omega) (by rw[aqe];omega)
    rw[aqe,CF,hmul]at this
    simp only
    omega
   ·have:=GX B.1 (by omega)
    rw[CF,hmul]at this
    simp only
    omega
def cW(lt:Int→Int→Bool)(d x:Int)(l:List Int)(pl:Int→Option Int)(i:Int):List Int×(Int→Option Int)×Nat:=
 if l.getD (l.length - 1) 0=x then(l.dropLast,sM pl x,0)
 else
  let U:=fS lt d (l.getD (l.length - 1) 0) i.toNat l.dropLast (sM pl x) i
  if U.at_=i then
   let D:=cZ lt d (l.getD (l.length - 1) 0) U.l.length U.l U.pl i
   (D.1,D.2.1,U.asked+D.2.2)
  else(U.l,U.pl,U.asked)
theorem yO(l:List Int)(j:Nat)(h:j<l.length - 1):l.dropLast.getD j 0=l.getD j 0:=by
 rw[aqf,aqf,List.getElem?_dropLast,if_pos h]
theorem MS{lt:Int→Int→Bool}(ho:bC lt){d:Int}(hf:cY d){x i:Int}{l:List Int}{pl:Int→Option Int}(hh:fk lt d l)(hp:DI l pl)(hi:pl x=some i):
  fk lt d (cW lt d x l pl i).1∧DI (cW lt d x l pl i).1 (cW lt d x l pl i).2.1∧(cW lt d x l pl i).1.length=l.length - 1∧
   (∀z,z∈(cW lt d x l pl i).1↔z∈l∧z≠x)∧((cW lt d x l pl i).2.2:Int)≤d*(lw d ((l.length:Int) - 1):Nat)+1:=by
 obtain⟨h0,hx⟩:=(hp x i).1 hi
 have qR:i.toNat<l.length:=(aqc.1 hx).1
 have Vs:=hf.1
 have jk:l[l.length - 1]? =some (l.getD (l.length - 1) 0):=by
  rw[aqf,aqb (by omega)];rfl
 have nZ:∀k,k<l.length - 1→l.dropLast[k]? =l[k]? :=fun k hk=>by rw[List.getElem?_dropLast,if_pos hk]
 have iK:fk lt d l.dropLast:=by
  intro j h1 h2
  rw[aqL]at h2
  have:=cQ hf h1
  rw[yO _ _ h2,yO _ _ (by omega)]
  exact hh j h1 (by omega)
 unfold cW
 split
 ·rename_i he
  have ni:i.toNat=l.length - 1:=hp.GW hx (by rw[jk,he])
  refine⟨iK,fun z k=>?_,by simp,fun z=>?_,?_⟩
  ·show sM pl x z=some k↔(0≤k∧l.dropLast[k.toNat]? =some z)
   unfold sM
   by_cases hz:z=x
   ·subst hz
    simp only[if_true]
    constructor
    ·intro h;cases h
    ·rintro⟨a,b⟩
     have hk:k.toNat<l.length - 1:=by have:=(aqc.1 b).1;rwa[aqL]at this
     rw[nZ _ hk]at b
     have:=hp.GW b hx
     omega
   ·rw[if_neg hz,hp z k]
    constructor
    ·rintro⟨a,b⟩
     have hk:k.toNat<l.length:=(aqc.1 b).1
     have J0:k.toNat≠l.length - 1:=fun e=>by rw[e,jk,he]at b;injection b with b;exact hz b.symm
     exact⟨a,by rw[nZ _ (by omega)];exact b⟩
    ·rintro⟨a,b⟩
     have hk:k.toNat<l.length - 1:=by have:=(aqc.1 b).1;rwa[aqL]at this
     exact⟨a,by rw[nZ _ hk]at b;exact b⟩
  ·constructor
   ·intro h
    obtain⟨k,hk⟩:=aqB h
    have hk1:k<l.length - 1:=by have:=(aqc.1 hk).1;rwa[aqL]at this
    rw[nZ _ hk1]at hk
    refine⟨aqg hk,fun e=>?_⟩
    subst e
    have:=hp.GW hk hx
    omega
   ·rintro⟨h,hz⟩
    obtain⟨k,hk⟩:=aqB h
    have hk1:k<l.length:=(aqc.1 hk).1
    have J0:k≠l.length - 1:=fun e=>by rw[e,jk,he]at hk;injection hk with hk;exact hz hk.symm
    exact aqg (i:=k) (by rw[nZ _ (by omega)];exact hk)
  ·have:0≤d*(lw d ((l.length:Int) - 1):Nat):=arQ (by omega) (by omega)
   simp only
   omega
 ·rename_i aR
  generalize hy:l.getD (l.length - 1) 0=y at*
  have ni:i.toNat<l.length - 1:=by
   rcases arm i.toNat (l.length - 1)with h|h
   ·exact h
   ·exfalso
    rw[show i.toNat=l.length - 1 by omega,jk]at hx
    injection hx with hx
    exact aR hx
  have hP:SX l.dropLast (sM pl x) i y:=by
   intro z hz k
   unfold sM
   by_cases e:z=x
   ·subst e
    simp only[if_true]
    constructor
    ·intro h;cases h
    ·rintro⟨a,b,c⟩
     have hk:k.toNat<l.length - 1:=by have:=(aqc.1 c).1;rwa[aqL]at this
     rw[nZ _ hk]at c
     have:=hp.GW c hx
     omega
   ·rw[if_neg e,hp z k]
    constructor
    ·rintro⟨a,b⟩
     have hk:k.toNat<l.length:=(aqc.1 b).1
     have J0:k.toNat≠l.length - 1:=fun e2=>by rw[e2,jk]at b;injection b with b;exact hz b.symm
     exact⟨a,fun e2=>by rw[e2,hx]at b;injection b with b;exact e b.symm,by rw[nZ _ (by omega)];exact b⟩
    ·rintro⟨a,_,b⟩
     have hk:k.toNat<l.length - 1:=by have:=(aqc.1 b).1;rwa[aqL]at this
     exact⟨a,by rw[nZ _ hk]at b;exact b⟩
  have hO:¬JG l.dropLast i y:=by
   rintro⟨k,k1,k2⟩
   have hk:k<l.length - 1:=by have:=(aqc.1 k2).1;rwa[aqL]at this
   rw[nZ _ hk]at k2
   have:=hp.GW k2 jk
   omega
  have bq:∀z,(z=y∨JG l.dropLast i z)↔(z∈l∧z≠x):=by
   intro z
   constructor
   ·rintro(rfl| ⟨k,k1,k2⟩)
    ·exact⟨aqg jk,aR⟩
    ·have hk:k<l.length - 1:=by have:=(aqc.1 k2).1;rwa[aqL]at this
     rw[nZ _ hk]at k2
     refine⟨aqg k2,fun e=>?_⟩
     subst e
     have:=hp.GW k2 hx
     omega
   ·rintro⟨h,hz⟩
    obtain⟨k,hk⟩:=aqB h
    have hk1:k<l.length:=(aqc.1 hk).1
    by_cases e:k=l.length - 1
    ·rw[e,jk]at hk;injection hk with hk;exact .inl hk.symm
    ·exact .inr ⟨k,fun e2=>hz (by rw[show k=i.toNat by omega,hx]at hk;injection hk with hk;exact hk.symm),by rw[nZ _ (by omega)];exact hk⟩
  have bf:(i:Int)<l.dropLast.length:=by rw[aqL];omega
  have OG:=iK.but ho hf i.toNat
  have CF:=DJ (lt:=lt) (d:=d) y i.toNat l.dropLast (sM pl x) i (aqm _) h0 bf hP hO
  have GX:d*(lw d ((l.length:Int) - 1 - 1):Nat)≤d*(lw d ((l.length:Int) - 1):Nat):=
   Int.mul_le_mul_of_nonneg_left (by have:=ly hf ((l.length:Int) - 1).toNat ((l.length:Int) - 1 - 1) ((l.length:Int) - 1) (aqm _) (by omega);omega) (by omega)
  rcases SV hf (lt:=lt) y l.dropLast (sM pl x) i h0 with ⟨s1,s2,s3,s4,s5⟩| ⟨s1,s2,s3⟩
  ·simp only
   rw[if_pos s1,s2,s3,aqe]
   simp only
   have ahj:i.toNat<l.dropLast.length:=by rw[aqL];omega
   have MT:∀j,j≠i.toNat→(l.dropLast.set i.toNat y).getD j 0=l.dropLast.getD j 0:=fun j hj=>by rw[dT _ _ _ _ ahj,if_neg (Ne.symm hj)]
   have hP2:SX (l.dropLast.set i.toNat y) (da (sM pl x) y i) i y:=by
    intro z hz k
    unfold da
    rw[if_neg hz,hP z hz k]
    constructor
    ·rintro⟨a,b,c⟩;exact⟨a,b,by rw[aqh (by omega)];exact c⟩
    ·rintro⟨a,b,c⟩;exact⟨a,b,by rw[aqh (by omega)]at c;exact c⟩
   have MN:∀z,JG (l.dropLast.set i.toNat y) i z↔JG l.dropLast i z:=by
    intro z
    constructor
    ·rintro⟨k,k1,k2⟩;exact⟨k,k1,by rw[aqh (by omega)]at k2;exact k2⟩
    ·rintro⟨k,k1,k2⟩;exact⟨k,k1,by rw[aqh (by omega)];exact k2⟩
   have tP:(i:Int)< (l.dropLast.set i.toNat y).length:=by rw[aqe];exact bf
   obtain⟨d1,d2⟩:=MQ (lt:=lt) hf y l.dropLast.length (l.dropLast.set i.toNat y) (da (sM pl x) y i) i h0 tP hP2 (fun hc=>hO ((MN y).1 hc))
   refine⟨?_,d1,by rw[MP,aqe,aqL],fun z=>by rw[d2 z,MN z];exact bq z,?_⟩
   ·refine QY ho hf y _ _ _ i (by rw[aqe];omega) h0 tP ⟨fun j h1 h2 h3 h4=>?_,fun j h1 h2 h3 h4=>?_⟩ (fun h=>?_)
    ·rw[MT j h3,MT _ h4];exact OG.1 j h1 (by simpa using h2) h3 h4
    ·have:=cQ hf h1
     have:=cQ hf h4
     rw[MT j (by omega),MT _ (by omega)]
     exact OG.2 j h1 (by simpa using h2) h3 h4
    ·have:=cQ hf (j:=i.toNat) (by omega)
     rw[MT _ (by omega)]
     exact s5 h
   ·have:=OF (lt:=lt) hf y l.dropLast.length (l.dropLast.set i.toNat y) (da (sM pl x) y i) i (by rw[aqe];omega) h0 tP
    have hdl:l.dropLast.length=l.length - 1:=aqL
    rw[aqe,show((l.dropLast.length:Nat):Int) - 1=(l.length:Int) - 1 - 1 by omega]at this
    have h5:0≤d*(lw d i:Nat):=arQ (by omega) (by omega)
    omega
  ·simp only
   rw[if_neg (by omega)]
   have RJ:=cQ hf (j:=i.toNat) (by omega)
   refine⟨KL ho hf y _ _ _ i (aqm _) h0 bf OG (fun j h1 h2 h3=>?_),CF.1,by rw[wC,aqL],fun z=>by rw[CF.2 z];exact bq z,?_⟩
   ·have e1:=OG.2 j h1 h2 h3 (by omega)
    cases hxx:lt (l.dropLast.getD j 0) y with
    |false=>rfl
    |true=>have:=ho.tr _ _ _ hxx s3;rw[this]at e1;cases e1
   ·have e1:=GV lt d y i.toNat l.dropLast (sM pl x) i
    have e2:=ly hf ((l.length:Int) - 1).toNat i ((l.length:Int) - 1) (aqm _) (by omega)
    unfold lw at e2 ⊢
    have e3:(1:Int)*(Nn d ((l.length:Int) - 1).toNat ((l.length:Int) - 1):Nat)≤d*(Nn d ((l.length:Int) - 1).toNat ((l.length:Int) - 1):Nat):=
     arL (by omega) (by omega)
    dsimp only
    omega
theorem GY{lt:Int→Int→Bool}(ho:bC lt){d:Int}(hf:cY d){l:List Int}(hh:fk lt d l):∀ (m j:Nat),j≤m→j<l.length→lt (l.getD j 0) (l.getD 0 0)=false:=by
 intro m
 induction m with
 |zero=>intro j hj _;rw[show j=0 by omega];exact ho.Es _
 |succ m ih=>
  intro j hj hl
  by_cases h:1≤j
  ·have:=cQ hf h
   exact ho.nt _ _ _ (hh j h hl) (ih (pa d j) (by omega) (by omega))
  ·rw[show j=0 by omega];exact ho.Es _
def Nw.key(w:Nw)(a:Int):Int:=(w.cs.getD a.toNat (0,0,0)).2.1
def Nw.seq(w:Nw)(a:Int):Int:=(w.cs.getD a.toNat (0,0,0)).2.2
def aQ(w:Nw)(a b:Int):Bool:=decide (w.key a<w.key b∨w.key a=w.key b∧(w.seq a<w.seq b∨w.seq a=w.seq b∧a<b))
theorem aw(w:Nw):bC (aQ w):=by
 refine⟨fun a=>?_,fun a b c h1 h2=>?_,fun a b c h1 h2=>?_,fun a b h=>?_⟩
 ·exact aqA (by omega)
 ·simp only[aQ,aqI]at*;omega
 ·simp only[aQ,decide_eq_false_iff_not]at*;omega
 ·simp only[aQ,aqI];omega
theorem DK{w:Nw}{a b:Int}(ha:df w.cs a)(hb:df w.cs b):w.ahead a b=aQ w a b:=by
 obtain⟨a0,x,hx,_⟩:=id ha
 obtain⟨b0,y,hy,_⟩:=id hb
 have k1:w.key a=x.2.1:=by unfold Nw.key;rw[aqf,hx];rfl
 have k2:w.key b=y.2.1:=by unfold Nw.key;rw[aqf,hy];rfl
 have k3:w.seq a=x.2.2:=by unfold Nw.seq;rw[aqf,hx];rfl
 have k4:w.seq b=y.2.2:=by unfold Nw.seq;rw[aqf,hy];rfl
 unfold Nw.ahead aQ
 rw[aqp ha,aqp hb,hx,hy,k1,k2,k3,k4]
 simp only[arx]
 refine decide_eq_decide.2 ?_
 rw[OB,fQ]
 omega
theorem im(w:Nw)(x:Int)(c:Ce){a b:Int}(ha:a.toNat≠x.toNat)(hb:b.toNat≠x.toNat):aQ (w.put x c) a b=aQ w a b:=by
 have key:∀z:Int,z.toNat≠x.toNat→(w.put x c).key z=w.key z∧(w.put x c).seq z=w.seq z:=fun z hz=>by
  unfold Nw.key Nw.seq Nw.put
  simp only[aqf]
  rw[aqh (Ne.symm hz)]
  exact⟨rfl,rfl⟩
 unfold aQ
 rw[(key a ha).1,(key a ha).2,(key b hb).1,(key b hb).2]
def Nw.first(w:Nw)(g x:Int):Prop:=0<g∧0≤x∧(∃e,w.cs[x.toNat]? =some (g,e))∧∀y,0≤y→(∃e,w.cs[y.toNat]? =some (g,e))→y≠x→aQ w x y=true
theorem Nw.IN{w:Nw}{g:Int}:w.len g=0↔(g≤0∨∀ (i:Nat) (c:Ce),w.cs[i]? =some c→c.1≠g):=by
 unfold Nw.len
 by_cases hg:0<g
 ·rw[if_pos hg]
  constructor
  ·intro h
   refine .inr fun i c hc e=>?_
   have h1:w.cs.countP (fun c=>decide (c.1=g))=0:=by omega
   exact(arB.1 h1) c (aqg hc) (aqp e)
  ·rintro(h|h)
   ·omega
   ·rw[arB.2 (fun c hc=>by
     obtain⟨i,hi⟩:=aqB hc
     simpa using h i c hi)]
    rfl
 ·rw[if_neg hg]
  exact⟨fun _=>.inl (by omega),fun _=>rfl⟩
theorem Nw.first.Nr{w:Nw}{g x:Int}(h:w.first g x):df w.cs x:=by
 obtain⟨e,he⟩:=h.2.2.1
 exact⟨h.2.1,_,he,h.1⟩
def aG(w:Nw)(x:Int):Int:=if 0≤x then(w.cs.getD x.toNat (0,0,0)).1 else 0
theorem kg{w:Nw}{x:Int}{y:Ce}(h0:0≤x)(h:w.cs[x.toNat]? =some y):aG w x=y.1:=by
 unfold aG
 rw[if_pos h0,aqf,h]
 rfl
theorem aF{w:Nw}{x:Int}(h:0<aG w x):0≤x∧x<w.cs.length∧∃e,w.cs[x.toNat]? =some (aG w x,e):=by
 unfold aG at h ⊢
 split at h
 ·rename_i h0
  rw[if_pos h0]
  rw[aqf]at h ⊢
  cases hc:w.cs[x.toNat]? with
  |none=>rw[hc]at h;simp at h
  |some y=>
   have:=(aqc.1 hc).1
   exact⟨h0,by omega,y.2,rfl⟩
 ·omega
theorem bA{w:Nw}{x:Int}:0<aG w x↔df w.cs x:=by
 constructor
 ·intro h
  obtain⟨h0,_,e,he⟩:=aF h
  exact⟨h0,_,he,h⟩
 ·rintro⟨h0,y,hy,hp⟩
  rw[kg h0 hy]
  exact hp
theorem bQ{w:Nw}{g x:Int}:w.first g x↔(0<g∧aG w x=g∧∀y,aG w y=g→y≠x→aQ w x y=true):=by
 constructor
 ·rintro⟨h1,h2,⟨e,he⟩,h4⟩
  refine⟨h1,kg h2 he,fun y hy aR=>?_⟩
  obtain⟨y0,_,e',gz⟩:=aF (w:=w) (x:=y) (by omega)
  rw[hy]at gz
  exact h4 y y0 ⟨e',gz⟩ aR
 ·rintro⟨h1,h2,h3⟩
  obtain⟨x0,_,e,he⟩:=aF (w:=w) (x:=x) (by omega)
  rw[h2]at he
  exact⟨h1,x0,⟨e,he⟩,fun y y0 ⟨e',gz⟩ aR=>h3 y (kg y0 gz) aR⟩
theorem vG{w:Nw}{g:Int}(hg:0<g):w.len g=0↔∀x,aG w x≠g:=by
 rw[Nw.IN]
 constructor
 ·rintro(h|h) x hx
  ·omega
  ·obtain⟨_,_,e,he⟩:=aF (w:=w) (x:=x) (by omega)
   exact h _ _ he hx
 ·intro h
  refine .inr fun i c hc e=>h (i:Int) ?_
  rw[kg (y:=c) (by omega) (by simpa using hc)]
  exact e
theorem eI{w:Nw}{i:Int}(hi:0≤i∧i<w.cs.length)(c:Ce)(x:Int):aG (w.put i c) x=if x=i then c.1 else aG w x:=by
 unfold aG Nw.put
 simp only
 by_cases hx:x=i
 ·subst hx
  rw[if_pos hi.1,if_pos rfl,aqf,aqi (by omega)]
  rfl
 ·rw[if_neg hx]
  split
  ·rw[aqf,aqh (by omega),aqf]
  ·rfl
theorem SY{lt:Int→Int→Bool}(hs:bC lt){P:Int→Prop}{n:Nat}(hP:∀x,P x→0≤x∧x<n){x:Int}(hx:P x):∃m,P m∧∀y,P y→y≠m→lt m y=true:=by
 have key:∀k:Nat,∀x,P x→((List.range n).countP fun(i:Nat)=>lt i x)≤k→∃m,P m∧∀y,P y→y≠m→lt m y=true:=by
  intro k
  induction k with
  |zero=>
   intro x hx hk
   refine⟨x,hx,fun y hy aR=>?_⟩
   rcases hs.PA x y (Ne.symm aR)with h|h
   ·exact h
   ·have FY:=hP y hy
    have:=(arB.1 (Nat.le_zero.1 hk)) y.toNat (arl.2 (by omega))
    rw[show((y.toNat:Nat):Int)=y by omega]at this
    exact absurd h this
  |succ k ih=>
   intro x hx hk
   by_cases hz:∃y,P y∧lt y x=true
   ·obtain⟨y,hy,hl⟩:=hz
    refine ih y hy ?_
    have FY:=hP y hy
    have h9:(List.range n).countP (fun(i:Nat)=>lt i y)< (List.range n).countP fun(i:Nat)=>lt i x:=by
     refine sH (fun i hi=>hs.tr _ _ _ hi hl) (x:=y.toNat) (arl.2 (by omega)) ?_ ?_
     ·rw[show((y.toNat:Nat):Int)=y by omega];exact hs.Es _
     ·rw[show((y.toNat:Nat):Int)=y by omega];exact hl
    omega
   ·refine⟨x,hx,fun y hy aR=>?_⟩
    rcases hs.PA x y (Ne.symm aR)with h|h
    ·exact h
    ·exact absurd ⟨y,hy,h⟩ hz
 exact key _ x hx (aqm _)
theorem vH{w:Nw}{g:Int}(hg:0<g)(h:w.len g≠0):∃x,w.first g x:=by
 have h1:¬ ∀x,aG w x≠g:=fun hn=>h ((vG hg).2 hn)
 obtain⟨x,hx⟩:=Classical.not_forall.1 h1
 have hx:=Classical.not_not.1 hx
 obtain⟨m,hm,hl⟩:=SY (aw w) (P:=fun x=>aG w x=g) (n:=w.cs.length) (fun x hx=>by obtain⟨a,b,_⟩:=aF (w:=w) (x:=x) (by omega);omega) hx
 exact⟨m,bQ.2 ⟨hg,hm,hl⟩⟩
theorem dU{w:Nw}{i:Int}(hi:0≤i∧i<w.cs.length)(c:Ce){a b:Int}(ha:0<aG w a)(hb:0<aG w b)(Wu:a≠i)(hbi:b≠i):aQ (w.put i c) a b=aQ w a b:=by
 obtain⟨a0,_⟩:=aF ha
 obtain⟨b0,_⟩:=aF hb
 exact im w i c (by omega) (by omega)
theorem B4{w:Nw}{i k s:Int}(bH:df w.cs i){y:Ce}(hy:w.cs[i.toNat]? =some y)(hl:¬fQ y.2.1 y.2.2 k s){b:Int}(hb:0<aG w b)(hbi:b≠i)(h:aQ w i b=true):aQ (w.put i (y.1,k,s)) i b=true:=by
 obtain⟨b0,_⟩:=aF hb
 have GR:=bH.1
 have qR:=(aqc.1 hy).1
 have k1:(w.put i (y.1,k,s)).key i=k∧(w.put i (y.1,k,s)).seq i=s:=by
  unfold Nw.key Nw.seq Nw.put
  simp only[aqf]
  rw[aqi qR]
  exact⟨rfl,rfl⟩
 have k2:w.key i=y.2.1∧w.seq i=y.2.2:=by
  unfold Nw.key Nw.seq
  simp only[aqf,hy]
  exact⟨rfl,rfl⟩
 have k3:(w.put i (y.1,k,s)).key b=w.key b∧(w.put i (y.1,k,s)).seq b=w.seq b:=by
  unfold Nw.key Nw.seq Nw.put
  simp only[aqf]
  rw[aqh (by omega)]
  exact⟨rfl,rfl⟩
 unfold aQ at h ⊢
 rw[k2.1,k2.2]at h
 rw[k1.1,k1.2,k3.1,k3.2]
 unfold fQ at hl
 simp only[aqI]at h ⊢
 omega
def CQ(H:Hp)(c:Nat)(C:Nat→Prop)(w:Nw):Prop:=∃st,ba H c C st w
section
variable {H H' : Hp} {c : Nat} {C T : Nat → Prop} {w : Nw}
theorem CQ.ext(h:CQ H c C w)(e:ag T H H')(hd:∀x,C x→¬T x):CQ H' c C w:=by obtain⟨st,h⟩:=h;exact⟨st,h.ext e hd⟩
theorem CQ.fresh(h:CQ H c C w)(e:ah H H'):CQ H' c C w:=h.ext e fun _ _ h=>h
theorem CQ.slt(h:CQ H c C w):∀x,C x→x<H.size:=by obtain⟨st,h⟩:=h;exact h.slt
theorem CQ.Qd(h:CQ H c C w):C c:=by obtain⟨st,h⟩:=h;exact h.Qd
theorem CQ.Fe(h:CQ H c C w):w.cs.length≤65536:=by obtain⟨st,h⟩:=h;exact h.Fe
theorem CQ.AL(h:CQ H c C w):w.hs.length≤65537:=by obtain⟨st,h⟩:=h;exact h.AL
theorem CQ.home(h:CQ H c C w):∀x∈w.cs,0≤x.1∧x.1<w.hs.length:=by obtain⟨st,h⟩:=h;exact h.home
theorem CQ.live(h:CQ H c C w):∀x∈w.cs,0<x.1→w.hs[x.1.toNat]? =some true:=by obtain⟨st,h⟩:=h;exact h.live
theorem CQ.hm(h:CQ H c C w)(x:Int):0≤aG w x∧(0<aG w x→w.has (aG w x)∧aG w x<w.hs.length):=by
 by_cases h0:0<aG w x
 ·obtain⟨h1,h2,e,he⟩:=aF h0
  have hm:=aqg he
  have:=h.home _ hm
  have hl:=h.live _ hm h0
  exact⟨by omega,fun _=>⟨⟨by omega,hl⟩,this.2⟩⟩
 ·refine⟨?_,fun h=>absurd h h0⟩
  unfold aG
  split
  ·rw[aqf]
   cases hc:w.cs[x.toNat]? with
   |none=>exact arS _
   |some y=>exact(h.home y (aqg hc)).1
  ·exact arS _
theorem CQ.pos(h:CQ H c C w):0<w.hs.length:=by
 obtain⟨st,cs,len,rt,aS,h1,h2⟩:=h
 exact(aqc.1 h2.h0).1
theorem cN(h:CQ H c C w)(a b:Int):af Tryz.prog cT [ptr c,i64 a,i64 b] H fun v H'=>ax (v= .bool (w.ahead a b)∧CQ H' c C w∧ag C H H'):=by
 obtain⟨st,h⟩:=h
 refine(jr h a b).mono ?_
 rintro v H' ⟨h1,h2,h3⟩
 exact⟨h1,⟨_,h2⟩,h3⟩
theorem vI(h:CQ H c C w)(i:Int):af Tryz.prog iX [ptr c,i64 i] H fun v H'=>ax (v=i64 (w.len i)∧H=H'):=by
 obtain⟨st,h⟩:=h
 exact tH h i
theorem iM(h:CQ H c C w)(i:Int):af Tryz.prog bG [ptr c,i64 i] H fun v H'=>ax (v= .bool (decide (w.has i))∧H=H'):=by
 obtain⟨st,h⟩:=h
 exact ij h i
theorem js(h:CQ H c C w):af Tryz.prog dR [ptr c] H fun v H'=>ax (
  (w.hs.length=65537∧v=i64 0∧H=H')∨(w.hs.length≠65537∧v=i64 w.hs.length∧∃C',CQ H' c C' w.make∧ag C H H'∧∀x,C' x→C x∨H.size≤x)):=by
 obtain⟨st,h⟩:=h
 refine(j9 h).mono ?_
 rintro v H' (h1| ⟨h1,h2,S',h3,h4⟩)
 ·exact .inl h1
 ·exact .inr ⟨h1,h2,S',⟨_,h3⟩,h4⟩
theorem lz(h:CQ H c C w)(g i k s:Int):af Tryz.prog iY [ptr c,i64 g,i64 i,uw k s] H fun v H'=>ax (
  (¬ (w.has g∧(0≤i∧i<w.cs.length)∧¬df w.cs i)∧v= .bool false∧CQ H' c C w∧ag C H H')∨
  ((w.has g∧(0≤i∧i<w.cs.length)∧¬df w.cs i)∧v= .bool true∧CQ H' c C (w.put i (g,k,s))∧ag C H H')):=by
 obtain⟨st,h⟩:=h
 refine(lP h g i k s).mono ?_
 rintro v H' (⟨h1,h2,h3,h4⟩| ⟨h1,h2,h3,h4⟩)
 ·exact .inl ⟨h1,h2,⟨_,h3⟩,h4⟩
 ·exact .inr ⟨h1,h2,⟨_,h3⟩,h4⟩
theorem dH(h:CQ H c C w)(i:Int):af Tryz.prog iu [ptr c,i64 i] H fun v H'=>ax (
  (¬df w.cs i∧v= .tuple [i64 0,.bool false].toArray∧H=H')∨(df w.cs i∧v= .tuple [i64 (aG w i),.bool true].toArray∧CQ H' c C w∧ag C H H')):=by
 obtain⟨st,h⟩:=h
 refine(eY h i).mono ?_
 rintro v H' (h1| ⟨h1,x,hx,h2,h3,h4⟩)
 ·exact .inl h1
 ·exact .inr ⟨h1,by rw[h2,kg h1.1 hx],⟨_,h3⟩,h4⟩
theorem gU(h:CQ H c C w)(i:Int):af Tryz.prog bb [ptr c,i64 i] H fun v H'=>ax (CQ H' c C w∧ah H H'∧(
  (¬df w.cs i∧v= .tuple [uw 0 0,.bool false].toArray)∨(df w.cs i∧∃x,w.cs[i.toNat]? =some x∧v= .tuple [uw x.2.1 x.2.2,.bool true].toArray))):=by
 obtain⟨st,h⟩:=h
 refine(jp h i).mono ?_
 rintro v H' ⟨h1,h2,h3⟩
 exact⟨⟨_,h1⟩,h2,h3⟩
theorem cw(h:CQ H c C w)(i:Int):af Tryz.prog iw [ptr c,i64 i] H fun v H'=>ax (
  (¬df w.cs i∧v= .bool false∧H=H')∨(df w.cs i∧v= .bool true∧CQ H' c C (w.put i (0,0,0))∧ag C H H')):=by
 obtain⟨st,h⟩:=h
 refine(ke h i).mono ?_
 rintro v H' (h1| ⟨h1,h2,h3,h4⟩)
 ·exact .inl h1
 ·exact .inr ⟨h1,h2,⟨_,h3⟩,h4⟩
theorem gW(h:CQ H c C w)(i k s:Int):af Tryz.prog gK [ptr c,i64 i,uw k s] H fun v H'=>ax (
  (¬ (df w.cs i∧∀x,w.cs[i.toNat]? =some x→¬fQ x.2.1 x.2.2 k s)∧v= .bool false∧CQ H' c C w∧ah H H')∨
  (df w.cs i∧v= .bool true∧∃x,w.cs[i.toNat]? =some x∧¬fQ x.2.1 x.2.2 k s∧CQ H' c C (w.put i (x.1,k,s))∧ag C H H')):=by
 obtain⟨st,h⟩:=h
 refine(jq h i k s).mono ?_
 rintro v H' (⟨h1,h2,h3,h4⟩| ⟨h1,h2,x,h3,h4,h5,h6⟩)
 ·exact .inl ⟨h1,h2,⟨_,h3⟩,h4⟩
 ·exact .inr ⟨h1,h2,x,h3,h4,⟨_,h5⟩,h6⟩
end
theorem lA(cap:Int)(H:Hp):af Tryz.prog uW [i64 cap] H fun v H'=>ax (
  ah H H'∧((¬ (0≤cap∧cap≤65536)∧v= .tuple [.pointer none,i64 31].toArray)∨
   (0≤cap∧cap≤65536)∧∃c C,v= .tuple [ptr c,i64 0].toArray∧CQ H' c C ⟨[false],List.replicate cap.toNat (0,0,0)⟩∧(∀x,C x→H.size≤x))):=by
 refine(lO cap H).mono ?_
 rintro v H' ⟨h1,h2| ⟨h2,c,C,h3,h4,h5⟩⟩
 ·exact⟨h1,.inl h2⟩
 ·exact⟨h1,.inr ⟨h2,c,C,h3,⟨_,h4⟩,h5⟩⟩
theorem gX{w:Nw}{a b:Int}(ha:0<aG w a)(hb:0<aG w b):w.ahead a b=aQ w a b:=DK (bA.1 ha) (bA.1 hb)
def bi(tops:List Int)(h:Int):Int:=if 0≤h then tops.getD h.toNat (-1)else -1
theorem eJ{tops:List Int}{h:Int}(h0:0≤h)(hl:h<tops.length):tops[h.toNat]? =some (bi tops h):=by
 unfold bi
 rw[if_pos h0,aqf]
 obtain⟨x,hx⟩:∃x,tops[h.toNat]? =some x:=⟨_,aqb (by omega)⟩
 rw[hx];rfl
theorem eZ{tops:List Int}{h:Int}(h0:0≤h)(hl:h<tops.length)(x:Int):bi (tops.set h.toNat x)=jj (bi tops) h x:=by
 funext y
 show bi _ y=if y=h then x else bi tops y
 by_cases hy:y=h
 ·subst hy
  unfold bi
  rw[if_pos h0,if_pos rfl,aqf,aqi (by omega)]
  rfl
 ·rw[if_neg hy]
  unfold bi
  split
  ·rw[aqf,aqh (by omega),aqf]
  ·rfl
theorem B5(tops:List Int):bi (tops++[-1])=bi tops:=by
 funext y
 unfold bi
 split
 ·rw[aqf,aqf]
  by_cases hy:y.toNat<tops.length
  ·rw[aqs hy]
  ·rw[aqD (by omega),aqo (l:=tops) (by omega)]
   by_cases h2:y.toNat - tops.length=0
   ·rw[h2];rfl
   ·rw[aqo (by simp;omega)]
 ·rfl
end Go.Proofs.YthpjfeolagohkaaGreat
