/- Texts put behind each other. -/
import Derived.Test.YthpjfeolagohkaaGreatK98
import Derived.Test.YthpjfeolagohkaaGreatK2
import Derived.Test.YthpjfeolagohkaaGreatK24
import Derived.Test.YthpjfeolagohkaaGreatK25
set_option maxRecDepth 100000
set_option maxHeartbeats 8000000
set_option linter.unusedVariables false
set_option linter.unusedSimpArgs false
namespace Go.Proofs.YthpjfeolagohkaaGreat
open Go Go.Vc
def pa(d:Int)(j:Nat):Nat:=(((j:Int) - 1) / d).toNat
theorem ni{d:Int}(hf:cQ d){i:Int}(h1:1≤i):∃p,aW d i=some p∧p.toNat=pa d i.toNat∧0≤p∧p<i:=by
 have hp:aW d i=some ((i - 1) / d):=by unfold aW;rw[if_pos ⟨hf,h1⟩]
 have hb:=eQ hp
 refine⟨_,hp,?_,hb.1,hb.2⟩
 unfold pa
 rw[show((i.toNat:Nat):Int)=i by omega]
theorem cH{d:Int}(hf:cQ d){j:Nat}(h:1≤j):pa d j<j:=by
 obtain⟨p,_,h1,h2,h3⟩:=ni hf (i:=(j:Int)) (by omega)
 simp only[Int.toNat_natCast]at h1
 omega
theorem SG{d:Int}(hf:cQ d){i j:Nat}(h:1≤j):pa d j=i↔(d*i+1≤j∧(j:Int)≤d*i+d):=by
 have hd:=hf.1
 unfold pa
 have e1:=Int.mul_ediv_add_emod ((j:Int) - 1) d
 have e2:=Int.emod_nonneg ((j:Int) - 1) (show d≠0 by omega)
 have e3:=Int.emod_lt_of_pos ((j:Int) - 1) (show 0<d by omega)
 have e4:0≤((j:Int) - 1) / d:=Int.ediv_nonneg (by omega) (by omega)
 constructor
 ·intro h
  have:((j:Int) - 1) / d=i:=by omega
  rw[this]at e1
  omega
 ·rintro⟨h1,h2⟩
  have h3:=r9 (d:=d) (i:=(i:Int)) (j:=(j:Int) - d*i) hd (by omega) (by omega) (by omega)
  rw[show d*(i:Int)+((j:Int) - d*i) - 1=(j:Int) - 1 by omega]at h3
  omega
theorem dB(l:List Int)(i j:Nat)(v:Int)(hi:i<l.length):(l.set i v).getD j 0=if i=j then v else l.getD j 0:=by
 rw[aou,List.getElem?_set,aou]
 by_cases h:i=j
 ·subst h;simp[hi]
 ·simp[h]
def eI(lt:Int→Int→Bool)(d:Int)(l:List Int):Prop:=∀j,1≤j→j<l.length→lt (l.getD j 0) (l.getD (pa d j) 0)=false
def dG(lt:Int→Int→Bool)(d:Int)(l:List Int)(i:Nat):Prop:=
 (∀j,1≤j→j<l.length→j≠i→pa d j≠i→lt (l.getD j 0) (l.getD (pa d j) 0)=false)∧
 (∀j,1≤j→j<l.length→pa d j=i→1≤i→lt (l.getD j 0) (l.getD (pa d i) 0)=false)
theorem eI.but{lt:Int→Int→Bool}(ho:bk lt){d:Int}(hf:cQ d){l:List Int}(h:eI lt d l)(i:Nat):dG lt d l i:=by
 refine⟨fun j h1 h2 _ _=>h j h1 h2,fun j h1 h2 h3 h4=>?_⟩
 have e1:=h j h1 h2
 have e2:=h i h4 (by have:=cH hf h1;omega)
 rw[h3]at e1
 exact ho.nt _ _ _ e1 e2
theorem dG.set{lt:Int→Int→Bool}{d:Int}(hf:cQ d){l:List Int}{i:Nat}(hi:i<l.length)(h:dG lt d l i){x:Int}(hB:∀j,1≤j→j<l.length→pa d j=i→lt (l.getD j 0) x=false)
  (hD:1≤i→lt x (l.getD (pa d i) 0)=false):eI lt d (l.set i x):=by
 intro j h1 h2
 rw[aot]at h2
 rw[dB _ _ _ _ hi,dB _ _ _ _ hi]
 have aK:=cH hf h1
 by_cases e1:i=j
 ·subst e1
  rw[if_pos rfl,if_neg (by omega)]
  exact hD h1
 ·rw[if_neg e1]
  by_cases e2:i=pa d j
  ·rw[if_pos e2];exact hB j h1 h2 e2.symm
  ·rw[if_neg e2];exact h.1 j h1 h2 (Ne.symm e1) (Ne.symm e2)
theorem JT{lt:Int→Int→Bool}(ho:bk lt){d:Int}(hf:cQ d)(x:Int):∀ (m:Nat) (l:List Int) (pl:Int→Option Int) (i:Int),i.toNat≤m→0≤i→i<l.length→dG lt d l i.toNat→
  (∀j,1≤j→j<l.length→pa d j=i.toNat→lt (l.getD j 0) x=false)→eI lt d (fA lt d x m l pl i).l:=by
 intro m
 induction m with
 |zero=>
  intro l pl i hm h0 hl hA hB
  exact hA.set hf (by omega) hB (fun h=>by omega)
 |succ m ih=>
  intro l pl i hm h0 hl hA hB
  by_cases hi:1≤i
  ·obtain⟨p,hp,MD,p0,p1⟩:=ni hf hi
   unfold fA
   rw[hp]
   simp only[MD]
   cases aK:lt x (l.getD (pa d i.toNat) 0)with
   |false=>
    exact hA.set hf (by omega) hB (fun _=>aK)
   |true=>
    simp only[if_true]
    have qw:i.toNat<l.length:=by omega
    have hpi:=cH hf (j:=i.toNat) (by omega)
    refine ih _ _ p (by omega) p0 (by rw[aot];omega) ⟨fun j h1 h2 h3 h4=>?_,fun j h1 h2 h3 h4=>?_⟩ (fun j h1 h2 h3=>?_)
    ·rw[aot]at h2
     rw[MD]at h3 h4
     rw[dB _ _ _ _ qw,dB _ _ _ _ qw]
     have e1:i.toNat≠j:=fun e=>h4 (by rw[←e])
     rw[if_neg e1]
     by_cases e2:i.toNat=pa d j
     ·rw[if_pos e2]
      exact hA.2 j h1 h2 e2.symm (by omega)
     ·rw[if_neg e2]
      exact hA.1 j h1 h2 (Ne.symm e1) (Ne.symm e2)
    ·rw[aot]at h2
     rw[MD]at h3 h4 ⊢
     rw[dB _ _ _ _ qw,dB _ _ _ _ qw]
     have Qq:=cH hf h4
     rw[if_neg (show i.toNat≠pa d (pa d i.toNat) by omega)]
     have e3:=hA.1 (pa d i.toNat) h4 (by omega) (by omega) (by omega)
     by_cases e1:i.toNat=j
     ·rw[if_pos e1];exact e3
     ·rw[if_neg e1]
      have e4:=hA.1 j h1 h2 (Ne.symm e1) (by omega)
      rw[h3]at e4
      exact ho.nt _ _ _ e4 e3
    ·rw[aot]at h2
     rw[MD]at h3
     rw[dB _ _ _ _ qw]
     by_cases e1:i.toNat=j
     ·rw[if_pos e1];exact ho.asym aK
     ·rw[if_neg e1]
      have e4:=hA.1 j h1 h2 (Ne.symm e1) (by omega)
      rw[h3]at e4
      cases hx:lt (l.getD j 0) x with
      |false=>rfl
      |true=>have:=ho.tr _ _ _ hx aK;rw[this]at e4;cases e4
  ·have CD:i=0:=by omega
   subst CD
   have hn:aW d 0=none:=by unfold aW;rw[if_neg (by omega)]
   unfold fA
   rw[hn]
   exact hA.set hf (by omega) hB (fun h=>by simp at h)
theorem F2(lt:Int→Int→Bool)(d x:Int):∀ (m:Nat) (l:List Int) (pl:Int→Option Int) (i:Int),(fA lt d x m l pl i).asked≤MG d m i:=by
 intro m
 induction m with
 |zero=>intro l pl i;simp[fA,MG]
 |succ m ih=>
  intro l pl i
  unfold fA MG
  cases hp:aW d i with
  |none=>simp
  |some p=>
   simp only
   split
   ·have:=ih (l.set i.toNat (l.getD p.toNat 0)) (cT pl (l.getD p.toNat 0) i) p
    simp only;omega
   ·simp only;omega
theorem vu(lt:Int→Int→Bool)(d x:Int):∀ (m:Nat) (l:List Int) (pl:Int→Option Int) (i:Int),(fA lt d x m l pl i).l.length=l.length:=by
 intro m
 induction m with
 |zero=>intro l pl i;simp[fA]
 |succ m ih=>
  intro l pl i
  unfold fA
  cases hp:aW d i with
  |none=>simp
  |some p=>
   simp only
   split
   ·simp[ih]
   ·simp
theorem SH{lt:Int→Int→Bool}{d:Int}(hf:cQ d)(x:Int)(l:List Int)(pl:Int→Option Int)(i:Int)(h0:0≤i):
  ((fA lt d x i.toNat l pl i).at_=i∧(fA lt d x i.toNat l pl i).l=l.set i.toNat x∧(fA lt d x i.toNat l pl i).pl=cT pl x i∧(fA lt d x i.toNat l pl i).asked≤1∧(1≤i→lt x (l.getD (pa d i.toNat) 0)=false))∨
  ((fA lt d x i.toNat l pl i).at_<i∧1≤i∧lt x (l.getD (pa d i.toNat) 0)=true):=by
 by_cases hi:1≤i
 ·obtain⟨p,hp,MD,p0,p1⟩:=ni hf hi
  obtain⟨q,hq⟩:∃q,i.toNat=q+1:=⟨i.toNat - 1,by omega⟩
  have low:∀ (m:Nat) (l:List Int) (pl:Int→Option Int) (i:Int),(fA lt d x m l pl i).at_≤i:=by
   intro m
   induction m with
   |zero=>intro l pl i;simp[fA]
   |succ m ih=>
    intro l pl i
    unfold fA
    cases hp:aW d i with
    |none=>simp
    |some p=>
     have:=eQ hp
     simp only
     split
     ·have:=ih (l.set i.toNat (l.getD p.toNat 0)) (cT pl (l.getD p.toNat 0) i) p
      simp only;omega
     ·simp only;omega
  rw[hq,fA,hp,←hq]
  simp only[MD]
  cases aK:lt x (l.getD (pa d i.toNat) 0)with
  |false=>exact .inl ⟨rfl,rfl,rfl,aoB _,fun _=>rfl⟩
  |true=>
   have:=low q (l.set i.toNat (l.getD (pa d i.toNat) 0)) (cT pl (l.getD (pa d i.toNat) 0) i) p
   exact .inr ⟨by simp only[if_true];omega,hi,rfl⟩
 ·have CD:i=0:=by omega
  subst CD
  exact .inl ⟨rfl,rfl,rfl,by simp[fA],fun h=>by omega⟩
def SI(l:List Int)(pl:Int→Option Int)(i:Int)(x:Int):Prop:=
 ∀z,z≠x→∀k,pl z=some k↔(0≤k∧k≠i∧l[k.toNat]? =some z)
def CP(l:List Int)(pl:Int→Option Int):Prop:=∀z k,pl z=some k↔(0≤k∧l[k.toNat]? =some z)
theorem CP.afH{l:List Int}{pl:Int→Option Int}(h:CP l pl){i x:Int}(hx:l[i.toNat]? =some x)(h0:0≤i):SI l pl i x:=by
 intro z hz k
 rw[h z k]
 constructor
 ·rintro⟨a,b⟩;exact⟨a,fun e=>by subst e;rw[hx]at b;injection b with b;exact hz b.symm,b⟩
 ·rintro⟨a,_,b⟩;exact⟨a,b⟩
theorem CP.F3{l:List Int}{pl:Int→Option Int}(h:CP l pl){i j:Nat}{z:Int}(hi:l[i]? =some z)(hj:l[j]? =some z):i=j:=by
 have h1:=(h z i).2 ⟨by omega,by simpa using hi⟩
 have h2:=(h z j).2 ⟨by omega,by simpa using hj⟩
 rw[h1]at h2
 injection h2 with h2
 omega
def IU(l:List Int)(i:Int)(z:Int):Prop:=∃k:Nat,(k:Int)≠i∧l[k]? =some z
theorem SI.set{l:List Int}{pl:Int→Option Int}{i x:Int}(h:SI l pl i x)(h0:0≤i)(hl:i<l.length)(hx:¬IU l i x):CP (l.set i.toNat x) (cT pl x i):=by
 intro z k
 have qw:i.toNat<l.length:=by omega
 by_cases e:z=x
 ·subst e
  simp only[cT,if_true]
  constructor
  ·intro hk;injection hk with hk;subst hk;exact⟨h0,by rw[aox qw]⟩
  ·rintro⟨a,b⟩
   by_cases e2:k=i
   ·rw[e2]
   ·exfalso
    rw[aov (by omega)]at b
    exact hx ⟨k.toNat,by omega,b⟩
 ·simp only[cT,if_neg e]
  rw[h z e k]
  constructor
  ·rintro⟨a,b,c⟩;exact⟨a,by rw[aov (by omega)];exact c⟩
  ·rintro⟨a,b⟩
   have e2:k≠i:=fun e2=>by
    rw[e2,aox qw]at b;injection b with b;exact e b.symm
   exact⟨a,e2,by rw[aov (by omega)]at b;exact b⟩
theorem SI.move{l:List Int}{pl:Int→Option Int}{i p x y:Int}(h:SI l pl i x)(h0:0≤i)(hl:i<l.length)(p0:0≤p)(hpi:p≠i)(hy:l[p.toNat]? =some y)(hx:¬IU l i x):
  SI (l.set i.toNat y) (cT pl y i) p x∧(¬IU (l.set i.toNat y) p x)∧∀z,IU (l.set i.toNat y) p z↔IU l i z:=by
 have qw:i.toNat<l.length:=by omega
 have nM:y≠x:=fun e=>hx ⟨p.toNat,by omega,by rw[hy,e]⟩
 have abJ:∀k:Int,0≤k→k≠i→l[k.toNat]? =some y→k=p:=by
  intro k k0 ki hk
  have h1:=(h y nM k).2 ⟨k0,ki,hk⟩
  have h2:=(h y nM p).2 ⟨p0,hpi,hy⟩
  rw[h1]at h2;injection h2
 have LU:∀z,IU (l.set i.toNat y) p z↔IU l i z:=by
  intro z
  constructor
  ·rintro⟨k,k1,k2⟩
   by_cases e:i.toNat=k
   ·rw[←e,aox qw]at k2
    injection k2 with k2
    subst k2
    exact⟨p.toNat,by omega,hy⟩
   ·rw[aov e]at k2
    exact⟨k,by omega,k2⟩
  ·rintro⟨k,k1,k2⟩
   by_cases e:(k:Int)=p
   ·refine⟨i.toNat,by omega,?_⟩
    rw[aox qw]
    rw[show k=p.toNat by omega,hy]at k2
    exact k2
   ·exact⟨k,e,by rw[aov (by omega)];exact k2⟩
 refine⟨?_,fun hc=>hx ((LU x).1 hc),LU⟩
 intro z hz k
 by_cases e:z=y
 ·subst e
  simp only[cT,if_true]
  constructor
  ·intro hk;injection hk with hk;subst hk;exact⟨h0,by omega,by rw[aox qw]⟩
  ·rintro⟨a,b,c⟩
   by_cases e2:k=i
   ·rw[e2]
   ·rw[aov (by omega)]at c
    exact absurd (abJ k a e2 c) b
 ·simp only[cT,if_neg e]
  rw[h z hz k]
  constructor
  ·rintro⟨a,b,c⟩
   refine⟨a,fun e2=>?_,by rw[aov (by omega)];exact c⟩
   rw[e2,hy]at c;injection c with c;exact e c.symm
  ·rintro⟨a,b,c⟩
   have e2:k≠i:=fun e2=>by rw[e2,aox qw]at c;injection c with c;exact e c.symm
   exact⟨a,e2,by rw[aov (by omega)]at c;exact c⟩
theorem mem_set{l:List Int}{i:Nat}(hi:i<l.length)(x z:Int):z∈l.set i x↔z=x∨IU l i z:=by
 constructor
 ·intro h
  obtain⟨k,hk⟩:=aoN h
  by_cases e:i=k
  ·subst e;rw[aox hi]at hk;injection hk with hk;exact .inl hk.symm
  ·rw[aov e]at hk;exact .inr ⟨k,by omega,hk⟩
 ·rintro(rfl| ⟨k,k1,k2⟩)
  ·exact aow (i:=i) (aox hi)
  ·exact aow (i:=k) (by rw[aov (by omega)];exact k2)
theorem CR{lt:Int→Int→Bool}{d:Int}(x:Int):∀ (m:Nat) (l:List Int) (pl:Int→Option Int) (i:Int),i.toNat≤m→0≤i→i<l.length→SI l pl i x→¬IU l i x→
  CP (fA lt d x m l pl i).l (fA lt d x m l pl i).pl∧∀z,z∈(fA lt d x m l pl i).l↔z=x∨IU l i z:=by
 intro m
 induction m with
 |zero=>
  intro l pl i hm h0 hl hP hx
  exact⟨hP.set h0 hl hx,fun z=>by have:=mem_set (l:=l) (i:=i.toNat) (by omega) x z;rw[show((i.toNat:Nat):Int)=i by omega]at this;exact this⟩
 |succ m ih=>
  intro l pl i hm h0 hl hP hx
  have BX:CP (l.set i.toNat x) (cT pl x i)∧∀z,z∈l.set i.toNat x↔z=x∨IU l i z:=
   ⟨hP.set h0 hl hx,fun z=>by have:=mem_set (l:=l) (i:=i.toNat) (by omega) x z;rw[show((i.toNat:Nat):Int)=i by omega]at this;exact this⟩
  unfold fA
  cases hp:aW d i with
  |none=>exact BX
  |some p=>
   have hb:=eQ hp
   simp only
   split
   ·have hy:l[p.toNat]? =some (l.getD p.toNat 0):=by
     rw[aou,aop (by omega)];rfl
    obtain⟨m1,m2,m3⟩:=hP.move h0 hl hb.1 (by omega) hy hx
    obtain⟨r1,r2⟩:=ih (l.set i.toNat (l.getD p.toNat 0)) (cT pl (l.getD p.toNat 0) i) p (by omega) hb.1 (by rw[aot];omega) m1 m2
    exact⟨r1,fun z=>by rw[r2 z,m3 z]⟩
   ·exact BX
theorem LV{lt:Int→Int→Bool}(ho:bk lt)(l:List Int)(d i:Int)(h:0≤d*i):∀ (m:Nat) (bO:Int),(m:Int)≤d - 1→d*i+1≤bO→bO<l.length→
  (∀c:Int,d*i+1≤c→c≤d*i+(d - m)→c<l.length→lt (l.getD c.toNat 0) (l.getD bO.toNat 0)=false)→
  ∀c:Int,d*i+1≤c→c≤d*i+d→c<l.length→lt (l.getD c.toNat 0) (l.getD (bN lt l d i m bO).1.toNat 0)=false:=by
 intro m
 induction m with
 |zero=>intro bO _ _ _ hc c c1 c2 c3;exact hc c c1 (by omega) c3
 |succ m ih=>
  intro bO hm h1 h2 hc c c1 c2 c3
  unfold bN
  split
  ·rename_i aK
   simp only
   split
   ·rename_i hl
    refine ih _ (by omega) (by omega) (by omega) (fun e e1 e2 e3=>?_) c c1 c2 c3
    by_cases he:e=d*i+(d - m)
    ·rw[he];exact ho.BT _
    ·have:=hc e e1 (by omega) e3
     cases hx:lt (l.getD e.toNat 0) (l.getD (d*i+(d - (m:Int))).toNat 0)with
     |false=>rfl
     |true=>
      have:=ho.tr _ _ _ hx hl
      simp_all
   ·rename_i hl
    refine ih _ (by omega) h1 h2 (fun e e1 e2 e3=>?_) c c1 c2 c3
    by_cases he:e=d*i+(d - m)
    ·rw[he];simpa using hl
    ·exact hc e e1 (by omega) e3
  ·rename_i aK
   refine ih _ (by omega) h1 h2 (fun e e1 e2 e3=>?_) c c1 c2 c3
   by_cases he:e=d*i+(d - m)
   ·omega
   ·exact hc e e1 (by omega) e3
theorem Qr{lt:Int→Int→Bool}(ho:bk lt){d:Int}(hf:cQ d)(x:Int):∀ (m:Nat) (l:List Int) (pl:Int→Option Int) (i:Int),l.length≤i.toNat+m→0≤i→i<l.length→dG lt d l i.toNat→
  (1≤i→lt x (l.getD (pa d i.toNat) 0)=false)→eI lt d (cR lt d x m l pl i).1:=by
 intro m
 induction m with
 |zero=>intro l pl i hm h0 hl;omega
 |succ m ih=>
  intro l pl i hm h0 hl hA hD
  have UP:=hf.1
  have TV:0≤d*i:=ap9 (by omega) h0
  have hit:((i.toNat:Nat):Int)=i:=by omega
  have Qs:∀j:Nat,1≤j→(pa d j=i.toNat↔(d*i+1≤j∧(j:Int)≤d*i+d)):=fun j hj=>by have:=SG hf (i:=i.toNat) hj;rw[hit]at this;exact this
  unfold cR
  split
  ·rename_i hc
   exact hA.set hf (by omega) (fun j h1 h2 h3=>by have:=(Qs j h1).1 h3;omega) (fun h=>hD (by omega))
  ·rename_i hc
   have hb:=kF lt l d i TV (d - 1).toNat (d*i+1) (by omega) (by omega) (by omega)
   have qv:(bN lt l d i (d - 1).toNat (d*i+1)).1≤d*i+d:=by
    have key:∀ (m:Nat) (bO:Int),(m:Int)≤d - 1→bO≤d*i+d→(bN lt l d i m bO).1≤d*i+d:=by
     intro m
     induction m with
     |zero=>intro bO _ h;exact h
     |succ m ih=>
      intro bO hm h
      unfold bN
      split
      ·simp only;split
       ·exact ih _ (by omega) (by omega)
       ·exact ih _ (by omega) h
      ·exact ih _ (by omega) h
    exact key _ _ (by omega) (by omega)
   have TW:=LV ho l d i TV (d - 1).toNat (d*i+1) (by omega) (by omega) (by omega) (fun c c1 c2 c3=>by rw[show c=d*i+1 by omega];exact ho.BT _)
   have aK:=nh hf h0 hb.1
   generalize bN lt l d i (d - 1).toNat (d*i+1)=B at*
   obtain⟨b,q⟩:=B
   simp only at hb qv TW aK
   have hbp:pa d b.toNat=i.toNat:=(Qs b.toNat (by omega)).2 ⟨by omega,by omega⟩
   have qw:i.toNat<l.length:=by omega
   have rB:∀j,1≤j→j<l.length→pa d j=i.toNat→lt (l.getD j 0) (l.getD b.toNat 0)=false:=fun j h1 h2 h3=>by
    have h4:=(Qs j h1).1 h3
    have:=TW j h4.1 h4.2 (by omega)
    simpa using this
   simp only
   by_cases hy:lt (l.getD b.toNat 0) x=true
   ·rw[if_pos hy]
    refine ih _ _ b (by rw[aot];omega) (by omega) (by rw[aot];omega) ⟨fun j h1 h2 h3 h4=>?_,fun j h1 h2 h3 h4=>?_⟩ (fun _=>?_)
    ·rw[aot]at h2
     rw[dB _ _ _ _ qw,dB _ _ _ _ qw]
     have XW:=cH hf h1
     by_cases e1:i.toNat=j
     ·subst e1
      rw[if_pos rfl,if_neg (by omega)]
      have:=hA.2 b.toNat (by omega) (by omega) hbp h1
      exact this
     ·rw[if_neg e1]
      by_cases e2:i.toNat=pa d j
      ·rw[if_pos e2];exact rB j h1 h2 e2.symm
      ·rw[if_neg e2];exact hA.1 j h1 h2 (Ne.symm e1) (Ne.symm e2)
    ·rw[aot]at h2
     rw[hbp,dB _ _ _ _ qw,dB _ _ _ _ qw,if_pos rfl]
     have XW:=cH hf h1
     rw[if_neg (by omega)]
     have:=hA.1 j h1 h2 (by omega) (by omega)
     rw[h3]at this
     exact this
    ·rw[hbp,dB _ _ _ _ qw,if_pos rfl]
     exact ho.asym hy
   ·rw[if_neg hy]
    exact hA.set hf qw (fun j h1 h2 h3=>ho.nt _ _ _ (rB j h1 h2 h3) (by simpa using hy)) (fun h=>hD (by omega))
theorem LW(lt:Int→Int→Bool)(d x:Int):∀ (m:Nat) (l:List Int) (pl:Int→Option Int) (i:Int),(cR lt d x m l pl i).1.length=l.length:=by
 intro m
 induction m with
 |zero=>intro l pl i;simp[cR]
 |succ m ih=>
  intro l pl i
  unfold cR
  split
  ·simp
  ·simp only
   split
   ·simp[ih]
   ·simp
theorem LX{lt:Int→Int→Bool}{d:Int}(hf:cQ d)(x:Int):∀ (m:Nat) (l:List Int) (pl:Int→Option Int) (i:Int),0≤i→i<l.length→SI l pl i x→¬IU l i x→
  CP (cR lt d x m l pl i).1 (cR lt d x m l pl i).2.1∧∀z,z∈(cR lt d x m l pl i).1↔z=x∨IU l i z:=by
 intro m
 induction m with
 |zero=>
  intro l pl i h0 hl hP hx
  exact⟨hP.set h0 hl hx,fun z=>by have:=mem_set (l:=l) (i:=i.toNat) (by omega) x z;rw[show((i.toNat:Nat):Int)=i by omega]at this;exact this⟩
 |succ m ih=>
  intro l pl i h0 hl hP hx
  have BX:CP (l.set i.toNat x) (cT pl x i)∧∀z,z∈l.set i.toNat x↔z=x∨IU l i z:=
   ⟨hP.set h0 hl hx,fun z=>by have:=mem_set (l:=l) (i:=i.toNat) (by omega) x z;rw[show((i.toNat:Nat):Int)=i by omega]at this;exact this⟩
  have UP:=hf.1
  have TV:0≤d*i:=ap9 (by omega) h0
  unfold cR
  split
  ·exact BX
  ·have hb:=kF lt l d i TV (d - 1).toNat (d*i+1) (by omega) (by omega) (by omega)
   have aK:=nh hf h0 hb.1
   simp only
   split
   ·have hy:l[(bN lt l d i (d - 1).toNat (d*i+1)).1.toNat]? =some (l.getD (bN lt l d i (d - 1).toNat (d*i+1)).1.toNat 0):=by
     rw[aou,aop (by omega)];rfl
    obtain⟨m1,m2,m3⟩:=hP.move h0 hl (by omega) (by omega) hy hx
    obtain⟨r1,r2⟩:=ih _ _ _ (by omega) (by rw[aot];omega) m1 m2
    exact⟨r1,fun z=>by rw[r2 z,m3 z]⟩
   ·exact BX
def kG(d i:Int):Nat:=MG d i.toNat i
theorem p9{d i p:Int}(h:aW d i=some p):kG d i=kG d p+1:=Sj h _ (aoB _)
theorem kH{d:Int}(hf:cQ d):∀ (m:Nat) (i j:Int),j.toNat≤m→i≤j→kG d i≤kG d j:=by
 intro m
 induction m with
 |zero=>
  intro i j hm Hd
  have:kG d i=0:=by unfold kG;rw[show i.toNat=0 by omega];rfl
  omega
 |succ m ih=>
  intro i j hm Hd
  by_cases hi:1≤i
  ·have UP:=hf.1
   have hp:aW d i=some ((i - 1) / d):=by unfold aW;rw[if_pos ⟨hf,hi⟩]
   have hq:aW d j=some ((j - 1) / d):=by unfold aW;rw[if_pos ⟨hf,by omega⟩]
   have hb:=eQ hq
   rw[p9 hp,p9 hq]
   have:=ih ((i - 1) / d) ((j - 1) / d) (by omega) (Int.ediv_le_ediv (by omega) (by omega))
   omega
  ·have:kG d i=0:=by
    unfold kG
    have hn:aW d i=none:=by unfold aW;rw[if_neg (by omega)]
    cases i.toNat<;>simp[MG,hn]
   omega
theorem LY(lt:Int→Int→Bool)(l:List Int)(d i:Int):∀ (m:Nat) (bO:Int),(bN lt l d i m bO).2≤m:=by
 intro m
 induction m with
 |zero=>intro bO;simp[bN]
 |succ m ih=>
  intro bO
  unfold bN
  split
  ·simp only
   have:=ih (if lt (l.getD (d*i+(d - m)).toNat 0) (l.getD bO.toNat 0)=true then d*i+(d - m)else bO)
   omega
  ·have:=ih bO;omega
theorem NM{lt:Int→Int→Bool}{d:Int}(hf:cQ d)(x:Int):∀ (m:Nat) (l:List Int) (pl:Int→Option Int) (i:Int),l.length≤i.toNat+m→0≤i→i<l.length→
  ((cR lt d x m l pl i).2.2:Int)+d*(kG d i:Nat)≤d*(kG d ((l.length:Int) - 1):Nat):=by
 intro m
 induction m with
 |zero=>intro l pl i hm h0 hl;omega
 |succ m ih=>
  intro l pl i hm h0 hl
  have UP:=hf.1
  have TV:0≤d*i:=ap9 (by omega) h0
  have F4:∀k,k≤(l.length:Int) - 1→d*(kG d k:Nat)≤d*(kG d ((l.length:Int) - 1):Nat):=fun k hk=>
   Int.mul_le_mul_of_nonneg_left (by have:=kH hf ((l.length:Int) - 1).toNat k ((l.length:Int) - 1) (aoB _) hk;omega) (by omega)
  unfold cR
  split
  ·have:=F4 i (by omega);simp only;omega
  ·have hb:=kF lt l d i TV (d - 1).toNat (d*i+1) (by omega) (by omega) (by omega)
   have aK:=nh hf h0 hb.1
   have akd:=LY lt l d i (d - 1).toNat (d*i+1)
   have qv:(bN lt l d i (d - 1).toNat (d*i+1)).1≤d*i+d:=by
    have key:∀ (m:Nat) (bO:Int),(m:Int)≤d - 1→bO≤d*i+d→(bN lt l d i m bO).1≤d*i+d:=by
     intro m
     induction m with
     |zero=>intro bO _ h;exact h
     |succ m ih=>
      intro bO hm h
      unfold bN
      split
      ·simp only;split
       ·exact ih _ (by omega) (by omega)
       ·exact ih _ (by omega) h
      ·exact ih _ (by omega) h
    exact key _ _ (by omega) (by omega)
   generalize bN lt l d i (d - 1).toNat (d*i+1)=B at*
   have NK:aW d B.1=some i:=by
    unfold aW
    rw[if_pos ⟨hf,by omega⟩]
    have:=r9 (d:=d) (i:=i) (j:=B.1 - d*i) UP h0 (by omega) (by omega)
    rw[show d*i+(B.1 - d*i) - 1=B.1 - 1 by omega]at this
    rw[this]
   have zL:=p9 NK
   have hmul:d*((kG d i+1:Nat):Int)=d*(kG d i:Nat)+d:=by rw[Int.natCast_add,Int.mul_add];simp
   simp only
   split
   ·have:=ih (l.set i.toNat (l.getD B.1.toNat 0)) (cT pl (l.getD B.1.toNat 0) i) B.1 (by rw[aot];omega) (by omega) (by rw[aot];omega)
    rw[aot,zL,hmul]at this
    simp only
    omega
   ·have:=F4 B.1 (by omega)
    rw[zL,hmul]at this
    simp only
    omega
def cO(lt:Int→Int→Bool)(d x:Int)(l:List Int)(pl:Int→Option Int)(i:Int):List Int×(Int→Option Int)×Nat:=
 if l.getD (l.length - 1) 0=x then(l.dropLast,rz pl x,0)
 else
  let U:=fA lt d (l.getD (l.length - 1) 0) i.toNat l.dropLast (rz pl x) i
  if U.at_=i then
   let D:=cR lt d (l.getD (l.length - 1) 0) U.l.length U.l U.pl i
   (D.1,D.2.1,U.asked+D.2.2)
  else(U.l,U.pl,U.asked)
theorem xt(l:List Int)(j:Nat)(h:j<l.length - 1):l.dropLast.getD j 0=l.getD j 0:=by
 rw[aou,aou,List.getElem?_dropLast,if_pos h]
theorem LZ{lt:Int→Int→Bool}(ho:bk lt){d:Int}(hf:cQ d){x i:Int}{l:List Int}{pl:Int→Option Int}(hh:eI lt d l)(hp:CP l pl)(hi:pl x=some i):
  eI lt d (cO lt d x l pl i).1∧CP (cO lt d x l pl i).1 (cO lt d x l pl i).2.1∧(cO lt d x l pl i).1.length=l.length - 1∧
   (∀z,z∈(cO lt d x l pl i).1↔z∈l∧z≠x)∧((cO lt d x l pl i).2.2:Int)≤d*(kG d ((l.length:Int) - 1):Nat)+1:=by
 obtain⟨h0,hx⟩:=(hp x i).1 hi
 have qw:i.toNat<l.length:=(aoq.1 hx).1
 have UP:=hf.1
 have eT:l[l.length - 1]? =some (l.getD (l.length - 1) 0):=by
  rw[aou,aop (by omega)];rfl
 have uD:∀k,k<l.length - 1→l.dropLast[k]? =l[k]? :=fun k hk=>by rw[List.getElem?_dropLast,if_pos hk]
 have fy:eI lt d l.dropLast:=by
  intro j h1 h2
  rw[ao1]at h2
  have:=cH hf h1
  rw[xt _ _ h2,xt _ _ (by omega)]
  exact hh j h1 (by omega)
 unfold cO
 split
 ·rename_i he
  have jB:i.toNat=l.length - 1:=hp.F3 hx (by rw[eT,he])
  refine⟨fy,fun z k=>?_,by simp,fun z=>?_,?_⟩
  ·show rz pl x z=some k↔(0≤k∧l.dropLast[k.toNat]? =some z)
   unfold rz
   by_cases hz:z=x
   ·subst hz
    simp only[if_true]
    constructor
    ·intro h;cases h
    ·rintro⟨a,b⟩
     have hk:k.toNat<l.length - 1:=by have:=(aoq.1 b).1;rwa[ao1]at this
     rw[uD _ hk]at b
     have:=hp.F3 b hx
     omega
   ·rw[if_neg hz,hp z k]
    constructor
    ·rintro⟨a,b⟩
     have hk:k.toNat<l.length:=(aoq.1 b).1
     have MJ:k.toNat≠l.length - 1:=fun e=>by rw[e,eT,he]at b;injection b with b;exact hz b.symm
     exact⟨a,by rw[uD _ (by omega)];exact b⟩
    ·rintro⟨a,b⟩
     have hk:k.toNat<l.length - 1:=by have:=(aoq.1 b).1;rwa[ao1]at this
     exact⟨a,by rw[uD _ hk]at b;exact b⟩
  ·constructor
   ·intro h
    obtain⟨k,hk⟩:=aoN h
    have hk1:k<l.length - 1:=by have:=(aoq.1 hk).1;rwa[ao1]at this
    rw[uD _ hk1]at hk
    refine⟨aow hk,fun e=>?_⟩
    subst e
    have:=hp.F3 hk hx
    omega
   ·rintro⟨h,hz⟩
    obtain⟨k,hk⟩:=aoN h
    have hk1:k<l.length:=(aoq.1 hk).1
    have MJ:k≠l.length - 1:=fun e=>by rw[e,eT,he]at hk;injection hk with hk;exact hz hk.symm
    exact aow (i:=k) (by rw[uD _ (by omega)];exact hk)
  ·have:0≤d*(kG d ((l.length:Int) - 1):Nat):=ap9 (by omega) (by omega)
   simp only
   omega
 ·rename_i aQ
  generalize hy:l.getD (l.length - 1) 0=y at*
  have jB:i.toNat<l.length - 1:=by
   rcases apK i.toNat (l.length - 1)with h|h
   ·exact h
   ·exfalso
    rw[show i.toNat=l.length - 1 by omega,eT]at hx
    injection hx with hx
    exact aQ hx
  have hP:SI l.dropLast (rz pl x) i y:=by
   intro z hz k
   unfold rz
   by_cases e:z=x
   ·subst e
    simp only[if_true]
    constructor
    ·intro h;cases h
    ·rintro⟨a,b,c⟩
     have hk:k.toNat<l.length - 1:=by have:=(aoq.1 c).1;rwa[ao1]at this
     rw[uD _ hk]at c
     have:=hp.F3 c hx
     omega
   ·rw[if_neg e,hp z k]
    constructor
    ·rintro⟨a,b⟩
     have hk:k.toNat<l.length:=(aoq.1 b).1
     have MJ:k.toNat≠l.length - 1:=fun e2=>by rw[e2,eT]at b;injection b with b;exact hz b.symm
     exact⟨a,fun e2=>by rw[e2,hx]at b;injection b with b;exact e b.symm,by rw[uD _ (by omega)];exact b⟩
    ·rintro⟨a,_,b⟩
     have hk:k.toNat<l.length - 1:=by have:=(aoq.1 b).1;rwa[ao1]at this
     exact⟨a,by rw[uD _ hk]at b;exact b⟩
  have hO:¬IU l.dropLast i y:=by
   rintro⟨k,k1,k2⟩
   have hk:k<l.length - 1:=by have:=(aoq.1 k2).1;rwa[ao1]at this
   rw[uD _ hk]at k2
   have:=hp.F3 k2 eT
   omega
  have bF:∀z,(z=y∨IU l.dropLast i z)↔(z∈l∧z≠x):=by
   intro z
   constructor
   ·rintro(rfl| ⟨k,k1,k2⟩)
    ·exact⟨aow eT,aQ⟩
    ·have hk:k<l.length - 1:=by have:=(aoq.1 k2).1;rwa[ao1]at this
     rw[uD _ hk]at k2
     refine⟨aow k2,fun e=>?_⟩
     subst e
     have:=hp.F3 k2 hx
     omega
   ·rintro⟨h,hz⟩
    obtain⟨k,hk⟩:=aoN h
    have hk1:k<l.length:=(aoq.1 hk).1
    by_cases e:k=l.length - 1
    ·rw[e,eT]at hk;injection hk with hk;exact .inl hk.symm
    ·exact .inr ⟨k,fun e2=>hz (by rw[show k=i.toNat by omega,hx]at hk;injection hk with hk;exact hk.symm),by rw[uD _ (by omega)];exact hk⟩
  have aR:(i:Int)<l.dropLast.length:=by rw[ao1];omega
  have NN:=fy.but ho hf i.toNat
  have zL:=CR (lt:=lt) (d:=d) y i.toNat l.dropLast (rz pl x) i (aoB _) h0 aR hP hO
  have F4:d*(kG d ((l.length:Int) - 1 - 1):Nat)≤d*(kG d ((l.length:Int) - 1):Nat):=
   Int.mul_le_mul_of_nonneg_left (by have:=kH hf ((l.length:Int) - 1).toNat ((l.length:Int) - 1 - 1) ((l.length:Int) - 1) (aoB _) (by omega);omega) (by omega)
  rcases SH hf (lt:=lt) y l.dropLast (rz pl x) i h0 with ⟨s1,s2,s3,s4,s5⟩| ⟨s1,s2,s3⟩
  ·simp only
   rw[if_pos s1,s2,s3,aot]
   simp only
   have afJ:i.toNat<l.dropLast.length:=by rw[ao1];omega
   have AR:∀j,j≠i.toNat→(l.dropLast.set i.toNat y).getD j 0=l.dropLast.getD j 0:=fun j hj=>by rw[dB _ _ _ _ afJ,if_neg (Ne.symm hj)]
   have hP2:SI (l.dropLast.set i.toNat y) (cT (rz pl x) y i) i y:=by
    intro z hz k
    unfold cT
    rw[if_neg hz,hP z hz k]
    constructor
    ·rintro⟨a,b,c⟩;exact⟨a,b,by rw[aov (by omega)];exact c⟩
    ·rintro⟨a,b,c⟩;exact⟨a,b,by rw[aov (by omega)]at c;exact c⟩
   have LU:∀z,IU (l.dropLast.set i.toNat y) i z↔IU l.dropLast i z:=by
    intro z
    constructor
    ·rintro⟨k,k1,k2⟩;exact⟨k,k1,by rw[aov (by omega)]at k2;exact k2⟩
    ·rintro⟨k,k1,k2⟩;exact⟨k,k1,by rw[aov (by omega)];exact k2⟩
   have sE:(i:Int)< (l.dropLast.set i.toNat y).length:=by rw[aot];exact aR
   obtain⟨d1,d2⟩:=LX (lt:=lt) hf y l.dropLast.length (l.dropLast.set i.toNat y) (cT (rz pl x) y i) i h0 sE hP2 (fun hc=>hO ((LU y).1 hc))
   refine⟨?_,d1,by rw[LW,aot,ao1],fun z=>by rw[d2 z,LU z];exact bF z,?_⟩
   ·refine Qr ho hf y _ _ _ i (by rw[aot];omega) h0 sE ⟨fun j h1 h2 h3 h4=>?_,fun j h1 h2 h3 h4=>?_⟩ (fun h=>?_)
    ·rw[AR j h3,AR _ h4];exact NN.1 j h1 (by simpa using h2) h3 h4
    ·have:=cH hf h1
     have:=cH hf h4
     rw[AR j (by omega),AR _ (by omega)]
     exact NN.2 j h1 (by simpa using h2) h3 h4
    ·have:=cH hf (j:=i.toNat) (by omega)
     rw[AR _ (by omega)]
     exact s5 h
   ·have:=NM (lt:=lt) hf y l.dropLast.length (l.dropLast.set i.toNat y) (cT (rz pl x) y i) i (by rw[aot];omega) h0 sE
    have hdl:l.dropLast.length=l.length - 1:=ao1
    rw[aot,show((l.dropLast.length:Nat):Int) - 1=(l.length:Int) - 1 - 1 by omega]at this
    have h5:0≤d*(kG d i:Nat):=ap9 (by omega) (by omega)
    omega
  ·simp only
   rw[if_neg (by omega)]
   have Rb:=cH hf (j:=i.toNat) (by omega)
   refine⟨JT ho hf y _ _ _ i (aoB _) h0 aR NN (fun j h1 h2 h3=>?_),zL.1,by rw[vu,ao1],fun z=>by rw[zL.2 z];exact bF z,?_⟩
   ·have e1:=NN.2 j h1 h2 h3 (by omega)
    cases hxx:lt (l.dropLast.getD j 0) y with
    |false=>rfl
    |true=>have:=ho.tr _ _ _ hxx s3;rw[this]at e1;cases e1
   ·have e1:=F2 lt d y i.toNat l.dropLast (rz pl x) i
    have e2:=kH hf ((l.length:Int) - 1).toNat i ((l.length:Int) - 1) (aoB _) (by omega)
    unfold kG at e2 ⊢
    have e3:(1:Int)*(MG d ((l.length:Int) - 1).toNat ((l.length:Int) - 1):Nat)≤d*(MG d ((l.length:Int) - 1).toNat ((l.length:Int) - 1):Nat):=
     ap4 (by omega) (by omega)
    dsimp only
    omega
theorem F5{lt:Int→Int→Bool}(ho:bk lt){d:Int}(hf:cQ d){l:List Int}(hh:eI lt d l):∀ (m j:Nat),j≤m→j<l.length→lt (l.getD j 0) (l.getD 0 0)=false:=by
 intro m
 induction m with
 |zero=>intro j hj _;rw[show j=0 by omega];exact ho.BT _
 |succ m ih=>
  intro j hj hl
  by_cases h:1≤j
  ·have:=cH hf h
   exact ho.nt _ _ _ (hh j h hl) (ih (pa d j) (by omega) (by omega))
  ·rw[show j=0 by omega];exact ho.BT _
def Nw.key(w:Nw)(a:Int):Int:=(w.cs.getD a.toNat (0,0,0)).2.1
def Nw.seq(w:Nw)(a:Int):Int:=(w.cs.getD a.toNat (0,0,0)).2.2
def aN(w:Nw)(a b:Int):Bool:=decide (w.key a<w.key b∨w.key a=w.key b∧(w.seq a<w.seq b∨w.seq a=w.seq b∧a<b))
theorem ap(w:Nw):bk (aN w):=by
 refine⟨fun a=>?_,fun a b c h1 h2=>?_,fun a b c h1 h2=>?_,fun a b h=>?_⟩
 ·exact aoK (by omega)
 ·simp only[aN,ao0]at*;omega
 ·simp only[aN,decide_eq_false_iff_not]at*;omega
 ·simp only[aN,ao0];omega
theorem CS{w:Nw}{a b:Int}(ha:cU w.cs a)(hb:cU w.cs b):w.ahead a b=aN w a b:=by
 obtain⟨a0,x,hx,_⟩:=id ha
 obtain⟨b0,y,hy,_⟩:=id hb
 have k1:w.key a=x.2.1:=by unfold Nw.key;rw[aou,hx];rfl
 have k2:w.key b=y.2.1:=by unfold Nw.key;rw[aou,hy];rfl
 have k3:w.seq a=x.2.2:=by unfold Nw.seq;rw[aou,hx];rfl
 have k4:w.seq b=y.2.2:=by unfold Nw.seq;rw[aou,hy];rfl
 unfold Nw.ahead aN
 rw[aoE ha,aoE hb,hx,hy,k1,k2,k3,k4]
 simp only[aqD]
 refine decide_eq_decide.2 ?_
 rw[NI,fN]
 omega
theorem gL(w:Nw)(x:Int)(c:Ce){a b:Int}(ha:a.toNat≠x.toNat)(hb:b.toNat≠x.toNat):aN (w.put x c) a b=aN w a b:=by
 have key:∀z:Int,z.toNat≠x.toNat→(w.put x c).key z=w.key z∧(w.put x c).seq z=w.seq z:=fun z hz=>by
  unfold Nw.key Nw.seq Nw.put
  simp only[aou]
  rw[aov (Ne.symm hz)]
  exact⟨rfl,rfl⟩
 unfold aN
 rw[(key a ha).1,(key a ha).2,(key b hb).1,(key b hb).2]
def Nw.first(w:Nw)(g x:Int):Prop:=0<g∧0≤x∧(∃e,w.cs[x.toNat]? =some (g,e))∧∀y,0≤y→(∃e,w.cs[y.toNat]? =some (g,e))→y≠x→aN w x y=true
theorem Nw.HQ{w:Nw}{g:Int}:w.len g=0↔(g≤0∨∀ (i:Nat) (c:Ce),w.cs[i]? =some c→c.1≠g):=by
 unfold Nw.len
 by_cases hg:0<g
 ·rw[if_pos hg]
  constructor
  ·intro h
   refine .inr fun i c hc e=>?_
   have h1:w.cs.countP (fun c=>decide (c.1=g))=0:=by omega
   exact(ap7.1 h1) c (aow hc) (aoE e)
  ·rintro(h|h)
   ·omega
   ·rw[ap7.2 (fun c hc=>by
     obtain⟨i,hi⟩:=aoN hc
     simpa using h i c hi)]
    rfl
 ·rw[if_neg hg]
  exact⟨fun _=>.inl (by omega),fun _=>rfl⟩
theorem Nw.first.MH{w:Nw}{g x:Int}(h:w.first g x):cU w.cs x:=by
 obtain⟨e,he⟩:=h.2.2.1
 exact⟨h.2.1,_,he,h.1⟩
def aE(w:Nw)(x:Int):Int:=if 0≤x then(w.cs.getD x.toNat (0,0,0)).1 else 0
theorem jI{w:Nw}{x:Int}{y:Ce}(h0:0≤x)(h:w.cs[x.toNat]? =some y):aE w x=y.1:=by
 unfold aE
 rw[if_pos h0,aou,h]
 rfl
theorem aC{w:Nw}{x:Int}(h:0<aE w x):0≤x∧x<w.cs.length∧∃e,w.cs[x.toNat]? =some (aE w x,e):=by
 unfold aE at h ⊢
 split at h
 ·rename_i h0
  rw[if_pos h0]
  rw[aou]at h ⊢
  cases hc:w.cs[x.toNat]? with
  |none=>rw[hc]at h;simp at h
  |some y=>
   have:=(aoq.1 hc).1
   exact⟨h0,by omega,y.2,rfl⟩
 ·omega
theorem bC{w:Nw}{x:Int}:0<aE w x↔cU w.cs x:=by
 constructor
 ·intro h
  obtain⟨h0,_,e,he⟩:=aC h
  exact⟨h0,_,he,h⟩
 ·rintro⟨h0,y,hy,hp⟩
  rw[jI h0 hy]
  exact hp
theorem bH{w:Nw}{g x:Int}:w.first g x↔(0<g∧aE w x=g∧∀y,aE w y=g→y≠x→aN w x y=true):=by
 constructor
 ·rintro⟨h1,h2,⟨e,he⟩,h4⟩
  refine⟨h1,jI h2 he,fun y hy aQ=>?_⟩
  obtain⟨y0,_,e',kY⟩:=aC (w:=w) (x:=y) (by omega)
  rw[hy]at kY
  exact h4 y y0 ⟨e',kY⟩ aQ
 ·rintro⟨h1,h2,h3⟩
  obtain⟨x0,_,e,he⟩:=aC (w:=w) (x:=x) (by omega)
  rw[h2]at he
  exact⟨h1,x0,⟨e,he⟩,fun y y0 ⟨e',kY⟩ aQ=>h3 y (jI y0 kY) aQ⟩
theorem uE{w:Nw}{g:Int}(hg:0<g):w.len g=0↔∀x,aE w x≠g:=by
 rw[Nw.HQ]
 constructor
 ·rintro(h|h) x hx
  ·omega
  ·obtain⟨_,_,e,he⟩:=aC (w:=w) (x:=x) (by omega)
   exact h _ _ he hx
 ·intro h
  refine .inr fun i c hc e=>h (i:Int) ?_
  rw[jI (y:=c) (by omega) (by simpa using hc)]
  exact e
theorem ed{w:Nw}{i:Int}(hi:0≤i∧i<w.cs.length)(c:Ce)(x:Int):aE (w.put i c) x=if x=i then c.1 else aE w x:=by
 unfold aE Nw.put
 simp only
 by_cases hx:x=i
 ·subst hx
  rw[if_pos hi.1,if_pos rfl,aou,aox (by omega)]
  rfl
 ·rw[if_neg hx]
  split
  ·rw[aou,aov (by omega),aou]
  ·rfl
theorem SJ{lt:Int→Int→Bool}(hs:bk lt){P:Int→Prop}{n:Nat}(hP:∀x,P x→0≤x∧x<n){x:Int}(hx:P x):∃m,P m∧∀y,P y→y≠m→lt m y=true:=by
 have key:∀k:Nat,∀x,P x→((List.range n).countP fun(i:Nat)=>lt i x)≤k→∃m,P m∧∀y,P y→y≠m→lt m y=true:=by
  intro k
  induction k with
  |zero=>
   intro x hx hk
   refine⟨x,hx,fun y hy aQ=>?_⟩
   rcases hs.OQ x y (Ne.symm aQ)with h|h
   ·exact h
   ·have vF:=hP y hy
    have:=(ap7.1 (Nat.le_zero.1 hk)) y.toNat (apx.2 (by omega))
    rw[show((y.toNat:Nat):Int)=y by omega]at this
    exact absurd h this
  |succ k ih=>
   intro x hx hk
   by_cases hz:∃y,P y∧lt y x=true
   ·obtain⟨y,hy,hl⟩:=hz
    refine ih y hy ?_
    have vF:=hP y hy
    have h9:(List.range n).countP (fun(i:Nat)=>lt i y)< (List.range n).countP fun(i:Nat)=>lt i x:=by
     refine rj (fun i hi=>hs.tr _ _ _ hi hl) (x:=y.toNat) (apx.2 (by omega)) ?_ ?_
     ·rw[show((y.toNat:Nat):Int)=y by omega];exact hs.BT _
     ·rw[show((y.toNat:Nat):Int)=y by omega];exact hl
    omega
   ·refine⟨x,hx,fun y hy aQ=>?_⟩
    rcases hs.OQ x y (Ne.symm aQ)with h|h
    ·exact h
    ·exact absurd ⟨y,hy,h⟩ hz
 exact key _ x hx (aoB _)
theorem uF{w:Nw}{g:Int}(hg:0<g)(h:w.len g≠0):∃x,w.first g x:=by
 have h1:¬ ∀x,aE w x≠g:=fun hn=>h ((uE hg).2 hn)
 obtain⟨x,hx⟩:=Classical.not_forall.1 h1
 have hx:=Classical.not_not.1 hx
 obtain⟨m,hm,hl⟩:=SJ (ap w) (P:=fun x=>aE w x=g) (n:=w.cs.length) (fun x hx=>by obtain⟨a,b,_⟩:=aC (w:=w) (x:=x) (by omega);omega) hx
 exact⟨m,bH.2 ⟨hg,hm,hl⟩⟩
theorem dC{w:Nw}{i:Int}(hi:0≤i∧i<w.cs.length)(c:Ce){a b:Int}(ha:0<aE w a)(hb:0<aE w b)(ZE:a≠i)(hbi:b≠i):aN (w.put i c) a b=aN w a b:=by
 obtain⟨a0,_⟩:=aC ha
 obtain⟨b0,_⟩:=aC hb
 exact gL w i c (by omega) (by omega)
theorem A8{w:Nw}{i k s:Int}(bE:cU w.cs i){y:Ce}(hy:w.cs[i.toNat]? =some y)(hl:¬fN y.2.1 y.2.2 k s){b:Int}(hb:0<aE w b)(hbi:b≠i)(h:aN w i b=true):aN (w.put i (y.1,k,s)) i b=true:=by
 obtain⟨b0,_⟩:=aC hb
 have CD:=bE.1
 have qw:=(aoq.1 hy).1
 have k1:(w.put i (y.1,k,s)).key i=k∧(w.put i (y.1,k,s)).seq i=s:=by
  unfold Nw.key Nw.seq Nw.put
  simp only[aou]
  rw[aox qw]
  exact⟨rfl,rfl⟩
 have k2:w.key i=y.2.1∧w.seq i=y.2.2:=by
  unfold Nw.key Nw.seq
  simp only[aou,hy]
  exact⟨rfl,rfl⟩
 have k3:(w.put i (y.1,k,s)).key b=w.key b∧(w.put i (y.1,k,s)).seq b=w.seq b:=by
  unfold Nw.key Nw.seq Nw.put
  simp only[aou]
  rw[aov (by omega)]
  exact⟨rfl,rfl⟩
 unfold aN at h ⊢
 rw[k2.1,k2.2]at h
 rw[k1.1,k1.2,k3.1,k3.2]
 unfold fN at hl
 simp only[ao0]at h ⊢
 omega
def CQ(H:Hp)(c:Nat)(C:Nat→Prop)(w:Nw):Prop:=∃st,bi H c C st w
section
variable {H H' : Hp} {c : Nat} {C T : Nat → Prop} {w : Nw}
theorem CQ.ext(h:CQ H c C w)(e:ag T H H')(hd:∀x,C x→¬T x):CQ H' c C w:=by obtain⟨st,h⟩:=h;exact⟨st,h.ext e hd⟩
theorem CQ.fresh(h:CQ H c C w)(e:am H H'):CQ H' c C w:=h.ext e fun _ _ h=>h
theorem CQ.slt(h:CQ H c C w):∀x,C x→x<H.size:=by obtain⟨st,h⟩:=h;exact h.slt
theorem CQ.Er(h:CQ H c C w):w.cs.length≤65536:=by obtain⟨st,h⟩:=h;exact h.Er
theorem CQ.FL(h:CQ H c C w):w.hs.length≤65537:=by obtain⟨st,h⟩:=h;exact h.FL
theorem CQ.home(h:CQ H c C w):∀x∈w.cs,0≤x.1∧x.1<w.hs.length:=by obtain⟨st,h⟩:=h;exact h.home
theorem CQ.live(h:CQ H c C w):∀x∈w.cs,0<x.1→w.hs[x.1.toNat]? =some true:=by obtain⟨st,h⟩:=h;exact h.live
theorem CQ.hm(h:CQ H c C w)(x:Int):0≤aE w x∧(0<aE w x→w.has (aE w x)∧aE w x<w.hs.length):=by
 by_cases h0:0<aE w x
 ·obtain⟨h1,h2,e,he⟩:=aC h0
  have hm:=aow he
  have:=h.home _ hm
  have hl:=h.live _ hm h0
  exact⟨by omega,fun _=>⟨⟨by omega,hl⟩,this.2⟩⟩
 ·refine⟨?_,fun h=>absurd h h0⟩
  unfold aE
  split
  ·rw[aou]
   cases hc:w.cs[x.toNat]? with
   |none=>exact aqr _
   |some y=>exact(h.home y (aow hc)).1
  ·exact aqr _
theorem CQ.pos(h:CQ H c C w):0<w.hs.length:=by
 obtain⟨st,cs,len,rt,aO,h1,h2⟩:=h
 exact(aoq.1 h2.h0).1
theorem cE(h:CQ H c C w)(a b:Int):af Tryz.prog cM [ptr c,i64 a,i64 b] H fun v H'=>ar (v= .bool (w.ahead a b)∧CQ H' c C w∧ag C H H'):=by
 obtain⟨st,h⟩:=h
 refine(iR h a b).mono ?_
 rintro v H' ⟨h1,h2,h3⟩
 exact⟨h1,⟨_,h2⟩,h3⟩
theorem uG(h:CQ H c C w)(i:Int):af Tryz.prog iA [ptr c,i64 i] H fun v H'=>ar (v=i64 (w.len i)∧H=H'):=by
 obtain⟨st,h⟩:=h
 exact sj h i
theorem ik(h:CQ H c C w)(i:Int):af Tryz.prog bu [ptr c,i64 i] H fun v H'=>ar (v= .bool (decide (w.has i))∧H=H'):=by
 obtain⟨st,h⟩:=h
 exact gK h i
theorem iS(h:CQ H c C w):af Tryz.prog dw [ptr c] H fun v H'=>ar (
  (w.hs.length=65537∧v=i64 0∧H=H')∨(w.hs.length≠65537∧v=i64 w.hs.length∧∃C',CQ H' c C' w.make∧ag C H H'∧∀x,C' x→C x∨H.size≤x)):=by
 obtain⟨st,h⟩:=h
 refine(jG h).mono ?_
 rintro v H' (h1| ⟨h1,h2,S',h3,h4⟩)
 ·exact .inl h1
 ·exact .inr ⟨h1,h2,S',⟨_,h3⟩,h4⟩
theorem kI(h:CQ H c C w)(g i k s:Int):af Tryz.prog iB [ptr c,i64 g,i64 i,tu k s] H fun v H'=>ar (
  (¬ (w.has g∧(0≤i∧i<w.cs.length)∧¬cU w.cs i)∧v= .bool false∧CQ H' c C w∧ag C H H')∨
  ((w.has g∧(0≤i∧i<w.cs.length)∧¬cU w.cs i)∧v= .bool true∧CQ H' c C (w.put i (g,k,s))∧ag C H H')):=by
 obtain⟨st,h⟩:=h
 refine(lh h g i k s).mono ?_
 rintro v H' (⟨h1,h2,h3,h4⟩| ⟨h1,h2,h3,h4⟩)
 ·exact .inl ⟨h1,h2,⟨_,h3⟩,h4⟩
 ·exact .inr ⟨h1,h2,⟨_,h3⟩,h4⟩
theorem df(h:CQ H c C w)(i:Int):af Tryz.prog gR [ptr c,i64 i] H fun v H'=>ar (
  (¬cU w.cs i∧v= .tuple [i64 0,.bool false].toArray∧H=H')∨(cU w.cs i∧v= .tuple [i64 (aE w i),.bool true].toArray∧CQ H' c C w∧ag C H H')):=by
 obtain⟨st,h⟩:=h
 refine(eB h i).mono ?_
 rintro v H' (h1| ⟨h1,x,hx,h2,h3,h4⟩)
 ·exact .inl h1
 ·exact .inr ⟨h1,by rw[h2,jI h1.1 hx],⟨_,h3⟩,h4⟩
theorem gB(h:CQ H c C w)(i:Int):af Tryz.prog ba [ptr c,i64 i] H fun v H'=>ar (CQ H' c C w∧am H H'∧(
  (¬cU w.cs i∧v= .tuple [tu 0 0,.bool false].toArray)∨(cU w.cs i∧∃x,w.cs[i.toNat]? =some x∧v= .tuple [tu x.2.1 x.2.2,.bool true].toArray))):=by
 obtain⟨st,h⟩:=h
 refine(iP h i).mono ?_
 rintro v H' ⟨h1,h2,h3⟩
 exact⟨⟨_,h1⟩,h2,h3⟩
theorem bY(h:CQ H c C w)(i:Int):af Tryz.prog gS [ptr c,i64 i] H fun v H'=>ar (
  (¬cU w.cs i∧v= .bool false∧H=H')∨(cU w.cs i∧v= .bool true∧CQ H' c C (w.put i (0,0,0))∧ag C H H')):=by
 obtain⟨st,h⟩:=h
 refine(jH h i).mono ?_
 rintro v H' (h1| ⟨h1,h2,h3,h4⟩)
 ·exact .inl h1
 ·exact .inr ⟨h1,h2,⟨_,h3⟩,h4⟩
theorem gC(h:CQ H c C w)(i k s:Int):af Tryz.prog gk [ptr c,i64 i,tu k s] H fun v H'=>ar (
  (¬ (cU w.cs i∧∀x,w.cs[i.toNat]? =some x→¬fN x.2.1 x.2.2 k s)∧v= .bool false∧CQ H' c C w∧am H H')∨
  (cU w.cs i∧v= .bool true∧∃x,w.cs[i.toNat]? =some x∧¬fN x.2.1 x.2.2 k s∧CQ H' c C (w.put i (x.1,k,s))∧ag C H H')):=by
 obtain⟨st,h⟩:=h
 refine(iQ h i k s).mono ?_
 rintro v H' (⟨h1,h2,h3,h4⟩| ⟨h1,h2,x,h3,h4,h5,h6⟩)
 ·exact .inl ⟨h1,h2,⟨_,h3⟩,h4⟩
 ·exact .inr ⟨h1,h2,x,h3,h4,⟨_,h5⟩,h6⟩
end
theorem kJ(cap:Int)(H:Hp):af Tryz.prog tT [i64 cap] H fun v H'=>ar (
  am H H'∧((¬ (0≤cap∧cap≤65536)∧v= .tuple [.pointer none,i64 31].toArray)∨
   (0≤cap∧cap≤65536)∧∃c C,v= .tuple [ptr c,i64 0].toArray∧CQ H' c C ⟨[false],List.replicate cap.toNat (0,0,0)⟩∧(∀x,C x→H.size≤x))):=by
 refine(lf cap H).mono ?_
 rintro v H' ⟨h1,h2| ⟨h2,c,C,h3,h4,h5⟩⟩
 ·exact⟨h1,.inl h2⟩
 ·exact⟨h1,.inr ⟨h2,c,C,h3,⟨_,h4⟩,h5⟩⟩
theorem gD{w:Nw}{a b:Int}(ha:0<aE w a)(hb:0<aE w b):w.ahead a b=aN w a b:=CS (bC.1 ha) (bC.1 hb)
def bf(tops:List Int)(h:Int):Int:=if 0≤h then tops.getD h.toNat (-1)else -1
theorem dU{tops:List Int}{h:Int}(h0:0≤h)(hl:h<tops.length):tops[h.toNat]? =some (bf tops h):=by
 unfold bf
 rw[if_pos h0,aou]
 obtain⟨x,hx⟩:∃x,tops[h.toNat]? =some x:=⟨_,aop (by omega)⟩
 rw[hx];rfl
theorem eC{tops:List Int}{h:Int}(h0:0≤h)(hl:h<tops.length)(x:Int):bf (tops.set h.toNat x)=iL (bf tops) h x:=by
 funext y
 show bf _ y=if y=h then x else bf tops y
 by_cases hy:y=h
 ·subst hy
  unfold bf
  rw[if_pos h0,if_pos rfl,aou,aox (by omega)]
  rfl
 ·rw[if_neg hy]
  unfold bf
  split
  ·rw[aou,aov (by omega),aou]
  ·rfl
theorem A9(tops:List Int):bf (tops++[-1])=bf tops:=by
 funext y
 unfold bf
 split
 ·rw[aou,aou]
  by_cases hy:y.toNat<tops.length
  ·rw[aoF hy]
  ·rw[aoP (by omega),aoC (l:=tops) (by omega)]
   by_cases h2:y.toNat - tops.length=0
   ·rw[h2];rfl
   ·rw[aoC (by simp;omega)]
 ·rfl
end Go.Proofs.YthpjfeolagohkaaGreat
