/- Texts put behind each other. -/
import Derived.Test.YtjlnnljohemifaaGreatK98
import Derived.Test.YtjlnnljohemifaaGreatK2
import Derived.Test.YtjlnnljohemifaaGreatK25
set_option maxRecDepth 100000
set_option maxHeartbeats 8000000
set_option linter.unusedVariables false
set_option linter.unusedSimpArgs false
namespace Go.Proofs.YtjlnnljohemifaaGreat
open Go Go.Vc
def pa(d:Int)(j:Nat):Nat:=(((j:Int) - 1) / d).toNat
theorem nA{d:Int}(hf:cQ d){i:Int}(h1:1≤i):∃p,aY d i=some p∧p.toNat=pa d i.toNat∧0≤p∧p<i:=by
 have hp:aY d i=some ((i - 1) / d):=by unfold aY;rw[if_pos ⟨hf,h1⟩]
 have hb:=eK hp
 refine⟨_,hp,?_,hb.1,hb.2⟩
 unfold pa
 rw[show((i.toNat:Nat):Int)=i by omega]
theorem cG{d:Int}(hf:cQ d){j:Nat}(h:1≤j):pa d j<j:=by
 obtain⟨p,_,h1,h2,h3⟩:=nA hf (i:=(j:Int)) (by omega)
 simp only[Int.toNat_natCast]at h1
 omega
theorem Rs{d:Int}(hf:cQ d){i j:Nat}(h:1≤j):pa d j=i↔(d*i+1≤j∧(j:Int)≤d*i+d):=by
 have hd:=hf.1
 unfold pa
 have e1:=Int.mul_ediv_add_emod ((j:Int) - 1) d
 have e2:=Int.emod_nonneg ((j:Int) - 1) (show d≠0 by omega)
 have e3:=Int.emod_lt_of_pos ((j:Int) - 1) (show 0<d by omega)
 have e4:0≤((j:Int) - 1) / d:=Int.ediv_nonneg (by omega) (by omega)
 constructor
 ·intro h
  have:((j:Int) - 1) / d=i:=by omega
  rw[this]at e1
  omega
 ·rintro⟨h1,h2⟩
  have h3:=sD (d:=d) (i:=(i:Int)) (j:=(j:Int) - d*i) hd (by omega) (by omega) (by omega)
  rw[show d*(i:Int)+((j:Int) - d*i) - 1=(j:Int) - 1 by omega]at h3
  omega
theorem dt(l:List Int)(i j:Nat)(v:Int)(hi:i<l.length):(l.set i v).getD j 0=if i=j then v else l.getD j 0:=by
 rw[anx,List.getElem?_set,anx]
 by_cases h:i=j
 ·subst h;simp[hi]
 ·simp[h]
def eE(lt:Int→Int→Bool)(d:Int)(l:List Int):Prop:=∀j,1≤j→j<l.length→lt (l.getD j 0) (l.getD (pa d j) 0)=false
def dB(lt:Int→Int→Bool)(d:Int)(l:List Int)(i:Nat):Prop:=
 (∀j,1≤j→j<l.length→j≠i→pa d j≠i→lt (l.getD j 0) (l.getD (pa d j) 0)=false)∧
 (∀j,1≤j→j<l.length→pa d j=i→1≤i→lt (l.getD j 0) (l.getD (pa d i) 0)=false)
theorem eE.but{lt:Int→Int→Bool}(ho:bv lt){d:Int}(hf:cQ d){l:List Int}(h:eE lt d l)(i:Nat):dB lt d l i:=by
 refine⟨fun j h1 h2 _ _=>h j h1 h2,fun j h1 h2 h3 h4=>?_⟩
 have e1:=h j h1 h2
 have e2:=h i h4 (by have:=cG hf h1;omega)
 rw[h3]at e1
 exact ho.nt _ _ _ e1 e2
theorem dB.set{lt:Int→Int→Bool}{d:Int}(hf:cQ d){l:List Int}{i:Nat}(hi:i<l.length)(h:dB lt d l i){x:Int}(hB:∀j,1≤j→j<l.length→pa d j=i→lt (l.getD j 0) x=false)
  (hD:1≤i→lt x (l.getD (pa d i) 0)=false):eE lt d (l.set i x):=by
 intro j h1 h2
 rw[anv]at h2
 rw[dt _ _ _ _ hi,dt _ _ _ _ hi]
 have aO:=cG hf h1
 by_cases e1:i=j
 ·subst e1
  rw[if_pos rfl,if_neg (by omega)]
  exact hD h1
 ·rw[if_neg e1]
  by_cases e2:i=pa d j
  ·rw[if_pos e2];exact hB j h1 h2 e2.symm
  ·rw[if_neg e2];exact h.1 j h1 h2 (Ne.symm e1) (Ne.symm e2)
theorem Jo{lt:Int→Int→Bool}(ho:bv lt){d:Int}(hf:cQ d)(x:Int):∀ (m:Nat) (l:List Int) (pl:Int→Option Int) (i:Int),i.toNat≤m→0≤i→i<l.length→dB lt d l i.toNat→
  (∀j,1≤j→j<l.length→pa d j=i.toNat→lt (l.getD j 0) x=false)→eE lt d (fi lt d x m l pl i).l:=by
 intro m
 induction m with
 |zero=>
  intro l pl i hm h0 hl hA hB
  exact hA.set hf (by omega) hB (fun h=>by omega)
 |succ m ih=>
  intro l pl i hm h0 hl hA hB
  by_cases hi:1≤i
  ·obtain⟨p,hp,Qt,p0,p1⟩:=nA hf hi
   unfold fi
   rw[hp]
   simp only[Qt]
   cases aO:lt x (l.getD (pa d i.toNat) 0)with
   |false=>
    exact hA.set hf (by omega) hB (fun _=>aO)
   |true=>
    simp only[if_true]
    have oZ:i.toNat<l.length:=by omega
    have hpi:=cG hf (j:=i.toNat) (by omega)
    refine ih _ _ p (by omega) p0 (by rw[anv];omega) ⟨fun j h1 h2 h3 h4=>?_,fun j h1 h2 h3 h4=>?_⟩ (fun j h1 h2 h3=>?_)
    ·rw[anv]at h2
     rw[Qt]at h3 h4
     rw[dt _ _ _ _ oZ,dt _ _ _ _ oZ]
     have e1:i.toNat≠j:=fun e=>h4 (by rw[←e])
     rw[if_neg e1]
     by_cases e2:i.toNat=pa d j
     ·rw[if_pos e2]
      exact hA.2 j h1 h2 e2.symm (by omega)
     ·rw[if_neg e2]
      exact hA.1 j h1 h2 (Ne.symm e1) (Ne.symm e2)
    ·rw[anv]at h2
     rw[Qt]at h3 h4 ⊢
     rw[dt _ _ _ _ oZ,dt _ _ _ _ oZ]
     have Pz:=cG hf h4
     rw[if_neg (show i.toNat≠pa d (pa d i.toNat) by omega)]
     have e3:=hA.1 (pa d i.toNat) h4 (by omega) (by omega) (by omega)
     by_cases e1:i.toNat=j
     ·rw[if_pos e1];exact e3
     ·rw[if_neg e1]
      have e4:=hA.1 j h1 h2 (Ne.symm e1) (by omega)
      rw[h3]at e4
      exact ho.nt _ _ _ e4 e3
    ·rw[anv]at h2
     rw[Qt]at h3
     rw[dt _ _ _ _ oZ]
     by_cases e1:i.toNat=j
     ·rw[if_pos e1];exact ho.asym aO
     ·rw[if_neg e1]
      have e4:=hA.1 j h1 h2 (Ne.symm e1) (by omega)
      rw[h3]at e4
      cases hx:lt (l.getD j 0) x with
      |false=>rfl
      |true=>have:=ho.tr _ _ _ hx aO;rw[this]at e4;cases e4
  ·have FC:i=0:=by omega
   subst FC
   have hn:aY d 0=none:=by unfold aY;rw[if_neg (by omega)]
   unfold fi
   rw[hn]
   exact hA.set hf (by omega) hB (fun h=>by simp at h)
theorem FF(lt:Int→Int→Bool)(d x:Int):∀ (m:Nat) (l:List Int) (pl:Int→Option Int) (i:Int),(fi lt d x m l pl i).asked≤Ma d m i:=by
 intro m
 induction m with
 |zero=>intro l pl i;simp[fi,Ma]
 |succ m ih=>
  intro l pl i
  unfold fi Ma
  cases hp:aY d i with
  |none=>simp
  |some p=>
   simp only
   split
   ·have:=ih (l.set i.toNat (l.getD p.toNat 0)) (cU pl (l.getD p.toNat 0) i) p
    simp only;omega
   ·simp only;omega
theorem vp(lt:Int→Int→Bool)(d x:Int):∀ (m:Nat) (l:List Int) (pl:Int→Option Int) (i:Int),(fi lt d x m l pl i).l.length=l.length:=by
 intro m
 induction m with
 |zero=>intro l pl i;simp[fi]
 |succ m ih=>
  intro l pl i
  unfold fi
  cases hp:aY d i with
  |none=>simp
  |some p=>
   simp only
   split
   ·simp[ih]
   ·simp
theorem Rt{lt:Int→Int→Bool}{d:Int}(hf:cQ d)(x:Int)(l:List Int)(pl:Int→Option Int)(i:Int)(h0:0≤i):
  ((fi lt d x i.toNat l pl i).at_=i∧(fi lt d x i.toNat l pl i).l=l.set i.toNat x∧(fi lt d x i.toNat l pl i).pl=cU pl x i∧(fi lt d x i.toNat l pl i).asked≤1∧(1≤i→lt x (l.getD (pa d i.toNat) 0)=false))∨
  ((fi lt d x i.toNat l pl i).at_<i∧1≤i∧lt x (l.getD (pa d i.toNat) 0)=true):=by
 by_cases hi:1≤i
 ·obtain⟨p,hp,Qt,p0,p1⟩:=nA hf hi
  obtain⟨q,hq⟩:∃q,i.toNat=q+1:=⟨i.toNat - 1,by omega⟩
  have low:∀ (m:Nat) (l:List Int) (pl:Int→Option Int) (i:Int),(fi lt d x m l pl i).at_≤i:=by
   intro m
   induction m with
   |zero=>intro l pl i;simp[fi]
   |succ m ih=>
    intro l pl i
    unfold fi
    cases hp:aY d i with
    |none=>simp
    |some p=>
     have:=eK hp
     simp only
     split
     ·have:=ih (l.set i.toNat (l.getD p.toNat 0)) (cU pl (l.getD p.toNat 0) i) p
      simp only;omega
     ·simp only;omega
  rw[hq,fi,hp,←hq]
  simp only[Qt]
  cases aO:lt x (l.getD (pa d i.toNat) 0)with
  |false=>exact .inl ⟨rfl,rfl,rfl,anG _,fun _=>rfl⟩
  |true=>
   have:=low q (l.set i.toNat (l.getD (pa d i.toNat) 0)) (cU pl (l.getD (pa d i.toNat) 0) i) p
   exact .inr ⟨by simp only[if_true];omega,hi,rfl⟩
 ·have FC:i=0:=by omega
  subst FC
  exact .inl ⟨rfl,rfl,rfl,by simp[fi],fun h=>by omega⟩
def Ru(l:List Int)(pl:Int→Option Int)(i:Int)(x:Int):Prop:=
 ∀z,z≠x→∀k,pl z=some k↔(0≤k∧k≠i∧l[k.toNat]? =some z)
def Cr(l:List Int)(pl:Int→Option Int):Prop:=∀z k,pl z=some k↔(0≤k∧l[k.toNat]? =some z)
theorem Cr.aeM{l:List Int}{pl:Int→Option Int}(h:Cr l pl){i x:Int}(hx:l[i.toNat]? =some x)(h0:0≤i):Ru l pl i x:=by
 intro z hz k
 rw[h z k]
 constructor
 ·rintro⟨a,b⟩;exact⟨a,fun e=>by subst e;rw[hx]at b;injection b with b;exact hz b.symm,b⟩
 ·rintro⟨a,_,b⟩;exact⟨a,b⟩
theorem Cr.FG{l:List Int}{pl:Int→Option Int}(h:Cr l pl){i j:Nat}{z:Int}(hi:l[i]? =some z)(hj:l[j]? =some z):i=j:=by
 have h1:=(h z i).2 ⟨by omega,by simpa using hi⟩
 have h2:=(h z j).2 ⟨by omega,by simpa using hj⟩
 rw[h1]at h2
 injection h2 with h2
 omega
def Ir(l:List Int)(i:Int)(z:Int):Prop:=∃k:Nat,(k:Int)≠i∧l[k]? =some z
theorem Ru.set{l:List Int}{pl:Int→Option Int}{i x:Int}(h:Ru l pl i x)(h0:0≤i)(hl:i<l.length)(hx:¬Ir l i x):Cr (l.set i.toNat x) (cU pl x i):=by
 intro z k
 have oZ:i.toNat<l.length:=by omega
 by_cases e:z=x
 ·subst e
  simp only[cU,if_true]
  constructor
  ·intro hk;injection hk with hk;subst hk;exact⟨h0,by rw[anB oZ]⟩
  ·rintro⟨a,b⟩
   by_cases e2:k=i
   ·rw[e2]
   ·exfalso
    rw[anA (by omega)]at b
    exact hx ⟨k.toNat,by omega,b⟩
 ·simp only[cU,if_neg e]
  rw[h z e k]
  constructor
  ·rintro⟨a,b,c⟩;exact⟨a,by rw[anA (by omega)];exact c⟩
  ·rintro⟨a,b⟩
   have e2:k≠i:=fun e2=>by
    rw[e2,anB oZ]at b;injection b with b;exact e b.symm
   exact⟨a,e2,by rw[anA (by omega)]at b;exact b⟩
theorem Ru.move{l:List Int}{pl:Int→Option Int}{i p x y:Int}(h:Ru l pl i x)(h0:0≤i)(hl:i<l.length)(p0:0≤p)(hpi:p≠i)(hy:l[p.toNat]? =some y)(hx:¬Ir l i x):
  Ru (l.set i.toNat y) (cU pl y i) p x∧(¬Ir (l.set i.toNat y) p x)∧∀z,Ir (l.set i.toNat y) p z↔Ir l i z:=by
 have oZ:i.toNat<l.length:=by omega
 have mJ:y≠x:=fun e=>hx ⟨p.toNat,by omega,by rw[hy,e]⟩
 have aaq:∀k:Int,0≤k→k≠i→l[k.toNat]? =some y→k=p:=by
  intro k k0 ki hk
  have h1:=(h y mJ k).2 ⟨k0,ki,hk⟩
  have h2:=(h y mJ p).2 ⟨p0,hpi,hy⟩
  rw[h1]at h2;injection h2
 have Lg:∀z,Ir (l.set i.toNat y) p z↔Ir l i z:=by
  intro z
  constructor
  ·rintro⟨k,k1,k2⟩
   by_cases e:i.toNat=k
   ·rw[←e,anB oZ]at k2
    injection k2 with k2
    subst k2
    exact⟨p.toNat,by omega,hy⟩
   ·rw[anA e]at k2
    exact⟨k,by omega,k2⟩
  ·rintro⟨k,k1,k2⟩
   by_cases e:(k:Int)=p
   ·refine⟨i.toNat,by omega,?_⟩
    rw[anB oZ]
    rw[show k=p.toNat by omega,hy]at k2
    exact k2
   ·exact⟨k,e,by rw[anA (by omega)];exact k2⟩
 refine⟨?_,fun hc=>hx ((Lg x).1 hc),Lg⟩
 intro z hz k
 by_cases e:z=y
 ·subst e
  simp only[cU,if_true]
  constructor
  ·intro hk;injection hk with hk;subst hk;exact⟨h0,by omega,by rw[anB oZ]⟩
  ·rintro⟨a,b,c⟩
   by_cases e2:k=i
   ·rw[e2]
   ·rw[anA (by omega)]at c
    exact absurd (aaq k a e2 c) b
 ·simp only[cU,if_neg e]
  rw[h z hz k]
  constructor
  ·rintro⟨a,b,c⟩
   refine⟨a,fun e2=>?_,by rw[anA (by omega)];exact c⟩
   rw[e2,hy]at c;injection c with c;exact e c.symm
  ·rintro⟨a,b,c⟩
   have e2:k≠i:=fun e2=>by rw[e2,anB oZ]at c;injection c with c;exact e c.symm
   exact⟨a,e2,by rw[anA (by omega)]at c;exact c⟩
theorem mem_set{l:List Int}{i:Nat}(hi:i<l.length)(x z:Int):z∈l.set i x↔z=x∨Ir l i z:=by
 constructor
 ·intro h
  obtain⟨k,hk⟩:=an6 h
  by_cases e:i=k
  ·subst e;rw[anB hi]at hk;injection hk with hk;exact .inl hk.symm
  ·rw[anA e]at hk;exact .inr ⟨k,by omega,hk⟩
 ·rintro(rfl| ⟨k,k1,k2⟩)
  ·exact anz (i:=i) (anB hi)
  ·exact anz (i:=k) (by rw[anA (by omega)];exact k2)
theorem Cs{lt:Int→Int→Bool}{d:Int}(x:Int):∀ (m:Nat) (l:List Int) (pl:Int→Option Int) (i:Int),i.toNat≤m→0≤i→i<l.length→Ru l pl i x→¬Ir l i x→
  Cr (fi lt d x m l pl i).l (fi lt d x m l pl i).pl∧∀z,z∈(fi lt d x m l pl i).l↔z=x∨Ir l i z:=by
 intro m
 induction m with
 |zero=>
  intro l pl i hm h0 hl hP hx
  exact⟨hP.set h0 hl hx,fun z=>by have:=mem_set (l:=l) (i:=i.toNat) (by omega) x z;rw[show((i.toNat:Nat):Int)=i by omega]at this;exact this⟩
 |succ m ih=>
  intro l pl i hm h0 hl hP hx
  have OK:Cr (l.set i.toNat x) (cU pl x i)∧∀z,z∈l.set i.toNat x↔z=x∨Ir l i z:=
   ⟨hP.set h0 hl hx,fun z=>by have:=mem_set (l:=l) (i:=i.toNat) (by omega) x z;rw[show((i.toNat:Nat):Int)=i by omega]at this;exact this⟩
  unfold fi
  cases hp:aY d i with
  |none=>exact OK
  |some p=>
   have hb:=eK hp
   simp only
   split
   ·have hy:l[p.toNat]? =some (l.getD p.toNat 0):=by
     rw[anx,ans (by omega)];rfl
    obtain⟨m1,m2,m3⟩:=hP.move h0 hl hb.1 (by omega) hy hx
    obtain⟨r1,r2⟩:=ih (l.set i.toNat (l.getD p.toNat 0)) (cU pl (l.getD p.toNat 0) i) p (by omega) hb.1 (by rw[anv];omega) m1 m2
    exact⟨r1,fun z=>by rw[r2 z,m3 z]⟩
   ·exact OK
theorem Lh{lt:Int→Int→Bool}(ho:bv lt)(l:List Int)(d i:Int)(h:0≤d*i):∀ (m:Nat) (bQ:Int),(m:Int)≤d - 1→d*i+1≤bQ→bQ<l.length→
  (∀c:Int,d*i+1≤c→c≤d*i+(d - m)→c<l.length→lt (l.getD c.toNat 0) (l.getD bQ.toNat 0)=false)→
  ∀c:Int,d*i+1≤c→c≤d*i+d→c<l.length→lt (l.getD c.toNat 0) (l.getD (bS lt l d i m bQ).1.toNat 0)=false:=by
 intro m
 induction m with
 |zero=>intro bQ _ _ _ hc c c1 c2 c3;exact hc c c1 (by omega) c3
 |succ m ih=>
  intro bQ hm h1 h2 hc c c1 c2 c3
  unfold bS
  split
  ·rename_i aO
   simp only
   split
   ·rename_i hl
    refine ih _ (by omega) (by omega) (by omega) (fun e e1 e2 e3=>?_) c c1 c2 c3
    by_cases he:e=d*i+(d - m)
    ·rw[he];exact ho.vk _
    ·have:=hc e e1 (by omega) e3
     cases hx:lt (l.getD e.toNat 0) (l.getD (d*i+(d - (m:Int))).toNat 0)with
     |false=>rfl
     |true=>
      have:=ho.tr _ _ _ hx hl
      simp_all
   ·rename_i hl
    refine ih _ (by omega) h1 h2 (fun e e1 e2 e3=>?_) c c1 c2 c3
    by_cases he:e=d*i+(d - m)
    ·rw[he];simpa using hl
    ·exact hc e e1 (by omega) e3
  ·rename_i aO
   refine ih _ (by omega) h1 h2 (fun e e1 e2 e3=>?_) c c1 c2 c3
   by_cases he:e=d*i+(d - m)
   ·omega
   ·exact hc e e1 (by omega) e3
theorem PA{lt:Int→Int→Bool}(ho:bv lt){d:Int}(hf:cQ d)(x:Int):∀ (m:Nat) (l:List Int) (pl:Int→Option Int) (i:Int),l.length≤i.toNat+m→0≤i→i<l.length→dB lt d l i.toNat→
  (1≤i→lt x (l.getD (pa d i.toNat) 0)=false)→eE lt d (cR lt d x m l pl i).1:=by
 intro m
 induction m with
 |zero=>intro l pl i hm h0 hl;omega
 |succ m ih=>
  intro l pl i hm h0 hl hA hD
  have TK:=hf.1
  have SR:0≤d*i:=ao9 (by omega) h0
  have hit:((i.toNat:Nat):Int)=i:=by omega
  have PC:∀j:Nat,1≤j→(pa d j=i.toNat↔(d*i+1≤j∧(j:Int)≤d*i+d)):=fun j hj=>by have:=Rs hf (i:=i.toNat) hj;rw[hit]at this;exact this
  unfold cR
  split
  ·rename_i hc
   exact hA.set hf (by omega) (fun j h1 h2 h3=>by have:=(PC j h1).1 h3;omega) (fun h=>hD (by omega))
  ·rename_i hc
   have hb:=kW lt l d i SR (d - 1).toNat (d*i+1) (by omega) (by omega) (by omega)
   have rR:(bS lt l d i (d - 1).toNat (d*i+1)).1≤d*i+d:=by
    have key:∀ (m:Nat) (bQ:Int),(m:Int)≤d - 1→bQ≤d*i+d→(bS lt l d i m bQ).1≤d*i+d:=by
     intro m
     induction m with
     |zero=>intro bQ _ h;exact h
     |succ m ih=>
      intro bQ hm h
      unfold bS
      split
      ·simp only;split
       ·exact ih _ (by omega) (by omega)
       ·exact ih _ (by omega) h
      ·exact ih _ (by omega) h
    exact key _ _ (by omega) (by omega)
   have U5:=Lh ho l d i SR (d - 1).toNat (d*i+1) (by omega) (by omega) (by omega) (fun c c1 c2 c3=>by rw[show c=d*i+1 by omega];exact ho.vk _)
   have aO:=ny hf h0 hb.1
   generalize bS lt l d i (d - 1).toNat (d*i+1)=B at*
   obtain⟨b,q⟩:=B
   simp only at hb rR U5 aO
   have hbp:pa d b.toNat=i.toNat:=(PC b.toNat (by omega)).2 ⟨by omega,by omega⟩
   have oZ:i.toNat<l.length:=by omega
   have rT:∀j,1≤j→j<l.length→pa d j=i.toNat→lt (l.getD j 0) (l.getD b.toNat 0)=false:=fun j h1 h2 h3=>by
    have h4:=(PC j h1).1 h3
    have:=U5 j h4.1 h4.2 (by omega)
    simpa using this
   simp only
   by_cases hy:lt (l.getD b.toNat 0) x=true
   ·rw[if_pos hy]
    refine ih _ _ b (by rw[anv];omega) (by omega) (by rw[anv];omega) ⟨fun j h1 h2 h3 h4=>?_,fun j h1 h2 h3 h4=>?_⟩ (fun _=>?_)
    ·rw[anv]at h2
     rw[dt _ _ _ _ oZ,dt _ _ _ _ oZ]
     have Ws:=cG hf h1
     by_cases e1:i.toNat=j
     ·subst e1
      rw[if_pos rfl,if_neg (by omega)]
      have:=hA.2 b.toNat (by omega) (by omega) hbp h1
      exact this
     ·rw[if_neg e1]
      by_cases e2:i.toNat=pa d j
      ·rw[if_pos e2];exact rT j h1 h2 e2.symm
      ·rw[if_neg e2];exact hA.1 j h1 h2 (Ne.symm e1) (Ne.symm e2)
    ·rw[anv]at h2
     rw[hbp,dt _ _ _ _ oZ,dt _ _ _ _ oZ,if_pos rfl]
     have Ws:=cG hf h1
     rw[if_neg (by omega)]
     have:=hA.1 j h1 h2 (by omega) (by omega)
     rw[h3]at this
     exact this
    ·rw[hbp,dt _ _ _ _ oZ,if_pos rfl]
     exact ho.asym hy
   ·rw[if_neg hy]
    exact hA.set hf oZ (fun j h1 h2 h3=>ho.nt _ _ _ (rT j h1 h2 h3) (by simpa using hy)) (fun h=>hD (by omega))
theorem Li(lt:Int→Int→Bool)(d x:Int):∀ (m:Nat) (l:List Int) (pl:Int→Option Int) (i:Int),(cR lt d x m l pl i).1.length=l.length:=by
 intro m
 induction m with
 |zero=>intro l pl i;simp[cR]
 |succ m ih=>
  intro l pl i
  unfold cR
  split
  ·simp
  ·simp only
   split
   ·simp[ih]
   ·simp
theorem Lj{lt:Int→Int→Bool}{d:Int}(hf:cQ d)(x:Int):∀ (m:Nat) (l:List Int) (pl:Int→Option Int) (i:Int),0≤i→i<l.length→Ru l pl i x→¬Ir l i x→
  Cr (cR lt d x m l pl i).1 (cR lt d x m l pl i).2.1∧∀z,z∈(cR lt d x m l pl i).1↔z=x∨Ir l i z:=by
 intro m
 induction m with
 |zero=>
  intro l pl i h0 hl hP hx
  exact⟨hP.set h0 hl hx,fun z=>by have:=mem_set (l:=l) (i:=i.toNat) (by omega) x z;rw[show((i.toNat:Nat):Int)=i by omega]at this;exact this⟩
 |succ m ih=>
  intro l pl i h0 hl hP hx
  have OK:Cr (l.set i.toNat x) (cU pl x i)∧∀z,z∈l.set i.toNat x↔z=x∨Ir l i z:=
   ⟨hP.set h0 hl hx,fun z=>by have:=mem_set (l:=l) (i:=i.toNat) (by omega) x z;rw[show((i.toNat:Nat):Int)=i by omega]at this;exact this⟩
  have TK:=hf.1
  have SR:0≤d*i:=ao9 (by omega) h0
  unfold cR
  split
  ·exact OK
  ·have hb:=kW lt l d i SR (d - 1).toNat (d*i+1) (by omega) (by omega) (by omega)
   have aO:=ny hf h0 hb.1
   simp only
   split
   ·have hy:l[(bS lt l d i (d - 1).toNat (d*i+1)).1.toNat]? =some (l.getD (bS lt l d i (d - 1).toNat (d*i+1)).1.toNat 0):=by
     rw[anx,ans (by omega)];rfl
    obtain⟨m1,m2,m3⟩:=hP.move h0 hl (by omega) (by omega) hy hx
    obtain⟨r1,r2⟩:=ih _ _ _ (by omega) (by rw[anv];omega) m1 m2
    exact⟨r1,fun z=>by rw[r2 z,m3 z]⟩
   ·exact OK
def kX(d i:Int):Nat:=Ma d i.toNat i
theorem qf{d i p:Int}(h:aY d i=some p):kX d i=kX d p+1:=Rg h _ (anG _)
theorem kY{d:Int}(hf:cQ d):∀ (m:Nat) (i j:Int),j.toNat≤m→i≤j→kX d i≤kX d j:=by
 intro m
 induction m with
 |zero=>
  intro i j hm JT
  have:kX d i=0:=by unfold kX;rw[show i.toNat=0 by omega];rfl
  omega
 |succ m ih=>
  intro i j hm JT
  by_cases hi:1≤i
  ·have TK:=hf.1
   have hp:aY d i=some ((i - 1) / d):=by unfold aY;rw[if_pos ⟨hf,hi⟩]
   have hq:aY d j=some ((j - 1) / d):=by unfold aY;rw[if_pos ⟨hf,by omega⟩]
   have hb:=eK hq
   rw[qf hp,qf hq]
   have:=ih ((i - 1) / d) ((j - 1) / d) (by omega) (Int.ediv_le_ediv (by omega) (by omega))
   omega
  ·have:kX d i=0:=by
    unfold kX
    have hn:aY d i=none:=by unfold aY;rw[if_neg (by omega)]
    cases i.toNat<;>simp[Ma,hn]
   omega
theorem Ll(lt:Int→Int→Bool)(l:List Int)(d i:Int):∀ (m:Nat) (bQ:Int),(bS lt l d i m bQ).2≤m:=by
 intro m
 induction m with
 |zero=>intro bQ;simp[bS]
 |succ m ih=>
  intro bQ
  unfold bS
  split
  ·simp only
   have:=ih (if lt (l.getD (d*i+(d - m)).toNat 0) (l.getD bQ.toNat 0)=true then d*i+(d - m)else bQ)
   omega
  ·have:=ih bQ;omega
theorem M6{lt:Int→Int→Bool}{d:Int}(hf:cQ d)(x:Int):∀ (m:Nat) (l:List Int) (pl:Int→Option Int) (i:Int),l.length≤i.toNat+m→0≤i→i<l.length→
  ((cR lt d x m l pl i).2.2:Int)+d*(kX d i:Nat)≤d*(kX d ((l.length:Int) - 1):Nat):=by
 intro m
 induction m with
 |zero=>intro l pl i hm h0 hl;omega
 |succ m ih=>
  intro l pl i hm h0 hl
  have TK:=hf.1
  have SR:0≤d*i:=ao9 (by omega) h0
  have FH:∀k,k≤(l.length:Int) - 1→d*(kX d k:Nat)≤d*(kX d ((l.length:Int) - 1):Nat):=fun k hk=>
   Int.mul_le_mul_of_nonneg_left (by have:=kY hf ((l.length:Int) - 1).toNat k ((l.length:Int) - 1) (anG _) hk;omega) (by omega)
  unfold cR
  split
  ·have:=FH i (by omega);simp only;omega
  ·have hb:=kW lt l d i SR (d - 1).toNat (d*i+1) (by omega) (by omega) (by omega)
   have aO:=ny hf h0 hb.1
   have ajG:=Ll lt l d i (d - 1).toNat (d*i+1)
   have rR:(bS lt l d i (d - 1).toNat (d*i+1)).1≤d*i+d:=by
    have key:∀ (m:Nat) (bQ:Int),(m:Int)≤d - 1→bQ≤d*i+d→(bS lt l d i m bQ).1≤d*i+d:=by
     intro m
     induction m with
     |zero=>intro bQ _ h;exact h
     |succ m ih=>
      intro bQ hm h
      unfold bS
      split
      ·simp only;split
       ·exact ih _ (by omega) (by omega)
       ·exact ih _ (by omega) h
      ·exact ih _ (by omega) h
    exact key _ _ (by omega) (by omega)
   generalize bS lt l d i (d - 1).toNat (d*i+1)=B at*
   have Og:aY d B.1=some i:=by
    unfold aY
    rw[if_pos ⟨hf,by omega⟩]
    have:=sD (d:=d) (i:=i) (j:=B.1 - d*i) TK h0 (by omega) (by omega)
    rw[show d*i+(B.1 - d*i) - 1=B.1 - 1 by omega]at this
    rw[this]
   have EO:=qf Og
   have hmul:d*((kX d i+1:Nat):Int)=d*(kX d i:Nat)+d:=by rw[Int.natCast_add,Int.mul_add];simp
   simp only
   split
   ·have:=ih (l.set i.toNat (l.getD B.1.toNat 0)) (cU pl (l.getD B.1.toNat 0) i) B.1 (by rw[anv];omega) (by omega) (by rw[anv];omega)
    rw[anv,EO,hmul]at this
    simp only
    omega
   ·have:=FH B.1 (by omega)
    rw[EO,hmul]at this
    simp only
    omega
def cM(lt:Int→Int→Bool)(d x:Int)(l:List Int)(pl:Int→Option Int)(i:Int):List Int×(Int→Option Int)×Nat:=
 if l.getD (l.length - 1) 0=x then(l.dropLast,rQ pl x,0)
 else
  let U:=fi lt d (l.getD (l.length - 1) 0) i.toNat l.dropLast (rQ pl x) i
  if U.at_=i then
   let D:=cR lt d (l.getD (l.length - 1) 0) U.l.length U.l U.pl i
   (D.1,D.2.1,U.asked+D.2.2)
  else(U.l,U.pl,U.asked)
theorem xI(l:List Int)(j:Nat)(h:j<l.length - 1):l.dropLast.getD j 0=l.getD j 0:=by
 rw[anx,anx,List.getElem?_dropLast,if_pos h]
theorem Lm{lt:Int→Int→Bool}(ho:bv lt){d:Int}(hf:cQ d){x i:Int}{l:List Int}{pl:Int→Option Int}(hh:eE lt d l)(hp:Cr l pl)(hi:pl x=some i):
  eE lt d (cM lt d x l pl i).1∧Cr (cM lt d x l pl i).1 (cM lt d x l pl i).2.1∧(cM lt d x l pl i).1.length=l.length - 1∧
   (∀z,z∈(cM lt d x l pl i).1↔z∈l∧z≠x)∧((cM lt d x l pl i).2.2:Int)≤d*(kX d ((l.length:Int) - 1):Nat)+1:=by
 obtain⟨h0,hx⟩:=(hp x i).1 hi
 have oZ:i.toNat<l.length:=(anu.1 hx).1
 have TK:=hf.1
 have iY:l[l.length - 1]? =some (l.getD (l.length - 1) 0):=by
  rw[anx,ans (by omega)];rfl
 have qh:∀k,k<l.length - 1→l.dropLast[k]? =l[k]? :=fun k hk=>by rw[List.getElem?_dropLast,if_pos hk]
 have iB:eE lt d l.dropLast:=by
  intro j h1 h2
  rw[an7]at h2
  have:=cG hf h1
  rw[xI _ _ h2,xI _ _ (by omega)]
  exact hh j h1 (by omega)
 unfold cM
 split
 ·rename_i he
  have mI:i.toNat=l.length - 1:=hp.FG hx (by rw[iY,he])
  refine⟨iB,fun z k=>?_,by simp,fun z=>?_,?_⟩
  ·show rQ pl x z=some k↔(0≤k∧l.dropLast[k.toNat]? =some z)
   unfold rQ
   by_cases hz:z=x
   ·subst hz
    simp only[if_true]
    constructor
    ·intro h;cases h
    ·rintro⟨a,b⟩
     have hk:k.toNat<l.length - 1:=by have:=(anu.1 b).1;rwa[an7]at this
     rw[qh _ hk]at b
     have:=hp.FG b hx
     omega
   ·rw[if_neg hz,hp z k]
    constructor
    ·rintro⟨a,b⟩
     have hk:k.toNat<l.length:=(anu.1 b).1
     have C6:k.toNat≠l.length - 1:=fun e=>by rw[e,iY,he]at b;injection b with b;exact hz b.symm
     exact⟨a,by rw[qh _ (by omega)];exact b⟩
    ·rintro⟨a,b⟩
     have hk:k.toNat<l.length - 1:=by have:=(anu.1 b).1;rwa[an7]at this
     exact⟨a,by rw[qh _ hk]at b;exact b⟩
  ·constructor
   ·intro h
    obtain⟨k,hk⟩:=an6 h
    have hk1:k<l.length - 1:=by have:=(anu.1 hk).1;rwa[an7]at this
    rw[qh _ hk1]at hk
    refine⟨anz hk,fun e=>?_⟩
    subst e
    have:=hp.FG hk hx
    omega
   ·rintro⟨h,hz⟩
    obtain⟨k,hk⟩:=an6 h
    have hk1:k<l.length:=(anu.1 hk).1
    have C6:k≠l.length - 1:=fun e=>by rw[e,iY,he]at hk;injection hk with hk;exact hz hk.symm
    exact anz (i:=k) (by rw[qh _ (by omega)];exact hk)
  ·have:0≤d*(kX d ((l.length:Int) - 1):Nat):=ao9 (by omega) (by omega)
   simp only
   omega
 ·rename_i aP
  generalize hy:l.getD (l.length - 1) 0=y at*
  have mI:i.toNat<l.length - 1:=by
   rcases aoL i.toNat (l.length - 1)with h|h
   ·exact h
   ·exfalso
    rw[show i.toNat=l.length - 1 by omega,iY]at hx
    injection hx with hx
    exact aP hx
  have hP:Ru l.dropLast (rQ pl x) i y:=by
   intro z hz k
   unfold rQ
   by_cases e:z=x
   ·subst e
    simp only[if_true]
    constructor
    ·intro h;cases h
    ·rintro⟨a,b,c⟩
     have hk:k.toNat<l.length - 1:=by have:=(anu.1 c).1;rwa[an7]at this
     rw[qh _ hk]at c
     have:=hp.FG c hx
     omega
   ·rw[if_neg e,hp z k]
    constructor
    ·rintro⟨a,b⟩
     have hk:k.toNat<l.length:=(anu.1 b).1
     have C6:k.toNat≠l.length - 1:=fun e2=>by rw[e2,iY]at b;injection b with b;exact hz b.symm
     exact⟨a,fun e2=>by rw[e2,hx]at b;injection b with b;exact e b.symm,by rw[qh _ (by omega)];exact b⟩
    ·rintro⟨a,_,b⟩
     have hk:k.toNat<l.length - 1:=by have:=(anu.1 b).1;rwa[an7]at this
     exact⟨a,by rw[qh _ hk]at b;exact b⟩
  have hO:¬Ir l.dropLast i y:=by
   rintro⟨k,k1,k2⟩
   have hk:k<l.length - 1:=by have:=(anu.1 k2).1;rwa[an7]at this
   rw[qh _ hk]at k2
   have:=hp.FG k2 iY
   omega
  have bL:∀z,(z=y∨Ir l.dropLast i z)↔(z∈l∧z≠x):=by
   intro z
   constructor
   ·rintro(rfl| ⟨k,k1,k2⟩)
    ·exact⟨anz iY,aP⟩
    ·have hk:k<l.length - 1:=by have:=(anu.1 k2).1;rwa[an7]at this
     rw[qh _ hk]at k2
     refine⟨anz k2,fun e=>?_⟩
     subst e
     have:=hp.FG k2 hx
     omega
   ·rintro⟨h,hz⟩
    obtain⟨k,hk⟩:=an6 h
    have hk1:k<l.length:=(anu.1 hk).1
    by_cases e:k=l.length - 1
    ·rw[e,iY]at hk;injection hk with hk;exact .inl hk.symm
    ·exact .inr ⟨k,fun e2=>hz (by rw[show k=i.toNat by omega,hx]at hk;injection hk with hk;exact hk.symm),by rw[qh _ (by omega)];exact hk⟩
  have aX:(i:Int)<l.dropLast.length:=by rw[an7];omega
  have M7:=iB.but ho hf i.toNat
  have EO:=Cs (lt:=lt) (d:=d) y i.toNat l.dropLast (rQ pl x) i (anG _) h0 aX hP hO
  have FH:d*(kX d ((l.length:Int) - 1 - 1):Nat)≤d*(kX d ((l.length:Int) - 1):Nat):=
   Int.mul_le_mul_of_nonneg_left (by have:=kY hf ((l.length:Int) - 1).toNat ((l.length:Int) - 1 - 1) ((l.length:Int) - 1) (anG _) (by omega);omega) (by omega)
  rcases Rt hf (lt:=lt) y l.dropLast (rQ pl x) i h0 with ⟨s1,s2,s3,s4,s5⟩| ⟨s1,s2,s3⟩
  ·simp only
   rw[if_pos s1,s2,s3,anv]
   simp only
   have aeO:i.toNat<l.dropLast.length:=by rw[an7];omega
   have Ln:∀j,j≠i.toNat→(l.dropLast.set i.toNat y).getD j 0=l.dropLast.getD j 0:=fun j hj=>by rw[dt _ _ _ _ aeO,if_neg (Ne.symm hj)]
   have hP2:Ru (l.dropLast.set i.toNat y) (cU (rQ pl x) y i) i y:=by
    intro z hz k
    unfold cU
    rw[if_neg hz,hP z hz k]
    constructor
    ·rintro⟨a,b,c⟩;exact⟨a,b,by rw[anA (by omega)];exact c⟩
    ·rintro⟨a,b,c⟩;exact⟨a,b,by rw[anA (by omega)]at c;exact c⟩
   have Lg:∀z,Ir (l.dropLast.set i.toNat y) i z↔Ir l.dropLast i z:=by
    intro z
    constructor
    ·rintro⟨k,k1,k2⟩;exact⟨k,k1,by rw[anA (by omega)]at k2;exact k2⟩
    ·rintro⟨k,k1,k2⟩;exact⟨k,k1,by rw[anA (by omega)];exact k2⟩
   have rU:(i:Int)< (l.dropLast.set i.toNat y).length:=by rw[anv];exact aX
   obtain⟨d1,d2⟩:=Lj (lt:=lt) hf y l.dropLast.length (l.dropLast.set i.toNat y) (cU (rQ pl x) y i) i h0 rU hP2 (fun hc=>hO ((Lg y).1 hc))
   refine⟨?_,d1,by rw[Li,anv,an7],fun z=>by rw[d2 z,Lg z];exact bL z,?_⟩
   ·refine PA ho hf y _ _ _ i (by rw[anv];omega) h0 rU ⟨fun j h1 h2 h3 h4=>?_,fun j h1 h2 h3 h4=>?_⟩ (fun h=>?_)
    ·rw[Ln j h3,Ln _ h4];exact M7.1 j h1 (by simpa using h2) h3 h4
    ·have:=cG hf h1
     have:=cG hf h4
     rw[Ln j (by omega),Ln _ (by omega)]
     exact M7.2 j h1 (by simpa using h2) h3 h4
    ·have:=cG hf (j:=i.toNat) (by omega)
     rw[Ln _ (by omega)]
     exact s5 h
   ·have:=M6 (lt:=lt) hf y l.dropLast.length (l.dropLast.set i.toNat y) (cU (rQ pl x) y i) i (by rw[anv];omega) h0 rU
    have hdl:l.dropLast.length=l.length - 1:=an7
    rw[anv,show((l.dropLast.length:Nat):Int) - 1=(l.length:Int) - 1 - 1 by omega]at this
    have h5:0≤d*(kX d i:Nat):=ao9 (by omega) (by omega)
    omega
  ·simp only
   rw[if_neg (by omega)]
   have Qx:=cG hf (j:=i.toNat) (by omega)
   refine⟨Jo ho hf y _ _ _ i (anG _) h0 aX M7 (fun j h1 h2 h3=>?_),EO.1,by rw[vp,an7],fun z=>by rw[EO.2 z];exact bL z,?_⟩
   ·have e1:=M7.2 j h1 h2 h3 (by omega)
    cases hxx:lt (l.dropLast.getD j 0) y with
    |false=>rfl
    |true=>have:=ho.tr _ _ _ hxx s3;rw[this]at e1;cases e1
   ·have e1:=FF lt d y i.toNat l.dropLast (rQ pl x) i
    have e2:=kY hf ((l.length:Int) - 1).toNat i ((l.length:Int) - 1) (anG _) (by omega)
    unfold kX at e2 ⊢
    have e3:(1:Int)*(Ma d ((l.length:Int) - 1).toNat ((l.length:Int) - 1):Nat)≤d*(Ma d ((l.length:Int) - 1).toNat ((l.length:Int) - 1):Nat):=
     ao4 (by omega) (by omega)
    dsimp only
    omega
theorem FI{lt:Int→Int→Bool}(ho:bv lt){d:Int}(hf:cQ d){l:List Int}(hh:eE lt d l):∀ (m j:Nat),j≤m→j<l.length→lt (l.getD j 0) (l.getD 0 0)=false:=by
 intro m
 induction m with
 |zero=>intro j hj _;rw[show j=0 by omega];exact ho.vk _
 |succ m ih=>
  intro j hj hl
  by_cases h:1≤j
  ·have:=cG hf h
   exact ho.nt _ _ _ (hh j h hl) (ih (pa d j) (by omega) (by omega))
  ·rw[show j=0 by omega];exact ho.vk _
def Nw.key(w:Nw)(a:Int):Int:=(w.cs.getD a.toNat (0,0,0)).2.1
def Nw.seq(w:Nw)(a:Int):Int:=(w.cs.getD a.toNat (0,0,0)).2.2
def aQ(w:Nw)(a b:Int):Bool:=decide (w.key a<w.key b∨w.key a=w.key b∧(w.seq a<w.seq b∨w.seq a=w.seq b∧a<b))
theorem ar(w:Nw):bv (aQ w):=by
 refine⟨fun a=>?_,fun a b c h1 h2=>?_,fun a b c h1 h2=>?_,fun a b h=>?_⟩
 ·exact anV (by omega)
 ·simp only[aQ,anU]at*;omega
 ·simp only[aQ,decide_eq_false_iff_not]at*;omega
 ·simp only[aQ,anU];omega
theorem Ct{w:Nw}{a b:Int}(ha:cT w.cs a)(hb:cT w.cs b):w.ahead a b=aQ w a b:=by
 obtain⟨a0,x,hx,_⟩:=id ha
 obtain⟨b0,y,hy,_⟩:=id hb
 have k1:w.key a=x.2.1:=by unfold Nw.key;rw[anx,hx];rfl
 have k2:w.key b=y.2.1:=by unfold Nw.key;rw[anx,hy];rfl
 have k3:w.seq a=x.2.2:=by unfold Nw.seq;rw[anx,hx];rfl
 have k4:w.seq b=y.2.2:=by unfold Nw.seq;rw[anx,hy];rfl
 unfold Nw.ahead aQ
 rw[anI ha,anI hb,hx,hy,k1,k2,k3,k4]
 simp only[aoO]
 refine decide_eq_decide.2 ?_
 rw[M3,ep]
 omega
theorem gW(w:Nw)(x:Int)(c:Ce){a b:Int}(ha:a.toNat≠x.toNat)(hb:b.toNat≠x.toNat):aQ (w.put x c) a b=aQ w a b:=by
 have key:∀z:Int,z.toNat≠x.toNat→(w.put x c).key z=w.key z∧(w.put x c).seq z=w.seq z:=fun z hz=>by
  unfold Nw.key Nw.seq Nw.put
  simp only[anx]
  rw[anA (Ne.symm hz)]
  exact⟨rfl,rfl⟩
 unfold aQ
 rw[(key a ha).1,(key a ha).2,(key b hb).1,(key b hb).2]
def Nw.first(w:Nw)(g x:Int):Prop:=0<g∧0≤x∧(∃e,w.cs[x.toNat]? =some (g,e))∧∀y,0≤y→(∃e,w.cs[y.toNat]? =some (g,e))→y≠x→aQ w x y=true
theorem Nw.Hs{w:Nw}{g:Int}:w.len g=0↔(g≤0∨∀ (i:Nat) (c:Ce),w.cs[i]? =some c→c.1≠g):=by
 unfold Nw.len
 by_cases hg:0<g
 ·rw[if_pos hg]
  constructor
  ·intro h
   refine .inr fun i c hc e=>?_
   have h1:w.cs.countP (fun c=>decide (c.1=g))=0:=by omega
   exact(aoW.1 h1) c (anz hc) (anI e)
  ·rintro(h|h)
   ·omega
   ·rw[aoW.2 (fun c hc=>by
     obtain⟨i,hi⟩:=an6 hc
     simpa using h i c hi)]
    rfl
 ·rw[if_neg hg]
  exact⟨fun _=>.inl (by omega),fun _=>rfl⟩
theorem Nw.first.Mb{w:Nw}{g x:Int}(h:w.first g x):cT w.cs x:=by
 obtain⟨e,he⟩:=h.2.2.1
 exact⟨h.2.1,_,he,h.1⟩
def Rv(w w':Nw)(g:Int):Prop:=∀ (i:Nat) (e:Int×Int),w.cs[i]? =some (g,e)↔w'.cs[i]? =some (g,e)
theorem Rv.put{w w':Nw}{g:Int}(h:Rv w w' g)(hg:0<g)(x:Int)(hl:w.cs.length=w'.cs.length):Rv (w.put x (0,0,0)) (w'.put x (0,0,0)) g:=by
 intro i e
 unfold Nw.put
 simp only[List.getElem?_set,hl]
 by_cases hi:x.toNat=i
 ·simp only[if_pos hi]
 ·simp only[if_neg hi]
  exact h i e
def aG(w:Nw)(x:Int):Int:=if 0≤x then(w.cs.getD x.toNat (0,0,0)).1 else 0
theorem j0{w:Nw}{x:Int}{y:Ce}(h0:0≤x)(h:w.cs[x.toNat]? =some y):aG w x=y.1:=by
 unfold aG
 rw[if_pos h0,anx,h]
 rfl
theorem aD{w:Nw}{x:Int}(h:0<aG w x):0≤x∧x<w.cs.length∧∃e,w.cs[x.toNat]? =some (aG w x,e):=by
 unfold aG at h ⊢
 split at h
 ·rename_i h0
  rw[if_pos h0]
  rw[anx]at h ⊢
  cases hc:w.cs[x.toNat]? with
  |none=>rw[hc]at h;simp at h
  |some y=>
   have:=(anu.1 hc).1
   exact⟨h0,by omega,y.2,rfl⟩
 ·omega
theorem bq{w:Nw}{x:Int}:0<aG w x↔cT w.cs x:=by
 constructor
 ·intro h
  obtain⟨h0,_,e,he⟩:=aD h
  exact⟨h0,_,he,h⟩
 ·rintro⟨h0,y,hy,hp⟩
  rw[j0 h0 hy]
  exact hp
theorem bN{w:Nw}{g x:Int}:w.first g x↔(0<g∧aG w x=g∧∀y,aG w y=g→y≠x→aQ w x y=true):=by
 constructor
 ·rintro⟨h1,h2,⟨e,he⟩,h4⟩
  refine⟨h1,j0 h2 he,fun y hy aP=>?_⟩
  obtain⟨y0,_,e',ir⟩:=aD (w:=w) (x:=y) (by omega)
  rw[hy]at ir
  exact h4 y y0 ⟨e',ir⟩ aP
 ·rintro⟨h1,h2,h3⟩
  obtain⟨x0,_,e,he⟩:=aD (w:=w) (x:=x) (by omega)
  rw[h2]at he
  exact⟨h1,x0,⟨e,he⟩,fun y y0 ⟨e',ir⟩ aP=>h3 y (j0 y0 ir) aP⟩
theorem uC{w:Nw}{g:Int}(hg:0<g):w.len g=0↔∀x,aG w x≠g:=by
 rw[Nw.Hs]
 constructor
 ·rintro(h|h) x hx
  ·omega
  ·obtain⟨_,_,e,he⟩:=aD (w:=w) (x:=x) (by omega)
   exact h _ _ he hx
 ·intro h
  refine .inr fun i c hc e=>h (i:Int) ?_
  rw[j0 (y:=c) (by omega) (by simpa using hc)]
  exact e
theorem dS{w:Nw}{i:Int}(hi:0≤i∧i<w.cs.length)(c:Ce)(x:Int):aG (w.put i c) x=if x=i then c.1 else aG w x:=by
 unfold aG Nw.put
 simp only
 by_cases hx:x=i
 ·subst hx
  rw[if_pos hi.1,if_pos rfl,anx,anB (by omega)]
  rfl
 ·rw[if_neg hx]
  split
  ·rw[anx,anA (by omega),anx]
  ·rfl
theorem Rx{lt:Int→Int→Bool}(hs:bv lt){P:Int→Prop}{n:Nat}(hP:∀x,P x→0≤x∧x<n){x:Int}(hx:P x):∃m,P m∧∀y,P y→y≠m→lt m y=true:=by
 have key:∀k:Nat,∀x,P x→((List.range n).countP fun(i:Nat)=>lt i x)≤k→∃m,P m∧∀y,P y→y≠m→lt m y=true:=by
  intro k
  induction k with
  |zero=>
   intro x hx hk
   refine⟨x,hx,fun y hy aP=>?_⟩
   rcases hs.Ob x y (Ne.symm aP)with h|h
   ·exact h
   ·have DO:=hP y hy
    have:=(aoW.1 (Nat.le_zero.1 hk)) y.toNat (aoy.2 (by omega))
    rw[show((y.toNat:Nat):Int)=y by omega]at this
    exact absurd h this
  |succ k ih=>
   intro x hx hk
   by_cases hz:∃y,P y∧lt y x=true
   ·obtain⟨y,hy,hl⟩:=hz
    refine ih y hy ?_
    have DO:=hP y hy
    have h9:(List.range n).countP (fun(i:Nat)=>lt i y)< (List.range n).countP fun(i:Nat)=>lt i x:=by
     refine rH (fun i hi=>hs.tr _ _ _ hi hl) (x:=y.toNat) (aoy.2 (by omega)) ?_ ?_
     ·rw[show((y.toNat:Nat):Int)=y by omega];exact hs.vk _
     ·rw[show((y.toNat:Nat):Int)=y by omega];exact hl
    omega
   ·refine⟨x,hx,fun y hy aP=>?_⟩
    rcases hs.Ob x y (Ne.symm aP)with h|h
    ·exact h
    ·exact absurd ⟨y,hy,h⟩ hz
 exact key _ x hx (anG _)
theorem uD{w:Nw}{g:Int}(hg:0<g)(h:w.len g≠0):∃x,w.first g x:=by
 have h1:¬ ∀x,aG w x≠g:=fun hn=>h ((uC hg).2 hn)
 obtain⟨x,hx⟩:=Classical.not_forall.1 h1
 have hx:=Classical.not_not.1 hx
 obtain⟨m,hm,hl⟩:=Rx (ar w) (P:=fun x=>aG w x=g) (n:=w.cs.length) (fun x hx=>by obtain⟨a,b,_⟩:=aD (w:=w) (x:=x) (by omega);omega) hx
 exact⟨m,bN.2 ⟨hg,hm,hl⟩⟩
theorem du{w:Nw}{i:Int}(hi:0≤i∧i<w.cs.length)(c:Ce){a b:Int}(ha:0<aG w a)(hb:0<aG w b)(YE:a≠i)(hbi:b≠i):aQ (w.put i c) a b=aQ w a b:=by
 obtain⟨a0,_⟩:=aD ha
 obtain⟨b0,_⟩:=aD hb
 exact gW w i c (by omega) (by omega)
theorem AR{w:Nw}{i k s:Int}(bJ:cT w.cs i){y:Ce}(hy:w.cs[i.toNat]? =some y)(hl:¬ep y.2.1 y.2.2 k s){b:Int}(hb:0<aG w b)(hbi:b≠i)(h:aQ w i b=true):aQ (w.put i (y.1,k,s)) i b=true:=by
 obtain⟨b0,_⟩:=aD hb
 have FC:=bJ.1
 have oZ:=(anu.1 hy).1
 have k1:(w.put i (y.1,k,s)).key i=k∧(w.put i (y.1,k,s)).seq i=s:=by
  unfold Nw.key Nw.seq Nw.put
  simp only[anx]
  rw[anB oZ]
  exact⟨rfl,rfl⟩
 have k2:w.key i=y.2.1∧w.seq i=y.2.2:=by
  unfold Nw.key Nw.seq
  simp only[anx,hy]
  exact⟨rfl,rfl⟩
 have k3:(w.put i (y.1,k,s)).key b=w.key b∧(w.put i (y.1,k,s)).seq b=w.seq b:=by
  unfold Nw.key Nw.seq Nw.put
  simp only[anx]
  rw[anA (by omega)]
  exact⟨rfl,rfl⟩
 unfold aQ at h ⊢
 rw[k2.1,k2.2]at h
 rw[k1.1,k1.2,k3.1,k3.2]
 unfold ep at hl
 simp only[anU]at h ⊢
 omega
def CQ(H:Hp)(c:Nat)(C:Nat→Prop)(w:Nw):Prop:=∃st,ba H c C st w
section
variable {H H' : Hp} {c : Nat} {C T : Nat → Prop} {w : Nw}
theorem CQ.ext(h:CQ H c C w)(e:ag T H H')(hd:∀x,C x→¬T x):CQ H' c C w:=by obtain⟨st,h⟩:=h;exact⟨st,h.ext e hd⟩
theorem CQ.fresh(h:CQ H c C w)(e:ai H H'):CQ H' c C w:=h.ext e fun _ _ h=>h
theorem CQ.slt(h:CQ H c C w):∀x,C x→x<H.size:=by obtain⟨st,h⟩:=h;exact h.slt
theorem CQ.OJ(h:CQ H c C w):C c:=by obtain⟨st,h⟩:=h;exact h.OJ
theorem CQ.DY(h:CQ H c C w):w.cs.length≤65536:=by obtain⟨st,h⟩:=h;exact h.DY
theorem CQ.zH(h:CQ H c C w):w.hs.length≤65537:=by obtain⟨st,h⟩:=h;exact h.zH
theorem CQ.home(h:CQ H c C w):∀x∈w.cs,0≤x.1∧x.1<w.hs.length:=by obtain⟨st,h⟩:=h;exact h.home
theorem CQ.live(h:CQ H c C w):∀x∈w.cs,0<x.1→w.hs[x.1.toNat]? =some true:=by obtain⟨st,h⟩:=h;exact h.live
theorem CQ.hm(h:CQ H c C w)(x:Int):0≤aG w x∧(0<aG w x→w.has (aG w x)∧aG w x<w.hs.length):=by
 by_cases h0:0<aG w x
 ·obtain⟨h1,h2,e,he⟩:=aD h0
  have hm:=anz he
  have:=h.home _ hm
  have hl:=h.live _ hm h0
  exact⟨by omega,fun _=>⟨⟨by omega,hl⟩,this.2⟩⟩
 ·refine⟨?_,fun h=>absurd h h0⟩
  unfold aG
  split
  ·rw[anx]
   cases hc:w.cs[x.toNat]? with
   |none=>exact aoX _
   |some y=>exact(h.home y (anz hc)).1
  ·exact aoX _
theorem CQ.pos(h:CQ H c C w):0<w.hs.length:=by
 obtain⟨st,cs,len,rt,aR,h1,h2⟩:=h
 exact(anu.1 h2.h0).1
theorem cD(h:CQ H c C w)(a b:Int):af Tryz.prog cJ [ptr c,i64 a,i64 b] H fun v H'=>aw (v= .bool (w.ahead a b)∧CQ H' c C w∧ag C H H'):=by
 obtain⟨st,h⟩:=h
 refine(je h a b).mono ?_
 rintro v H' ⟨h1,h2,h3⟩
 exact⟨h1,⟨_,h2⟩,h3⟩
theorem uE(h:CQ H c C w)(i:Int):af Tryz.prog iO [ptr c,i64 i] H fun v H'=>aw (v=i64 (w.len i)∧H=H'):=by
 obtain⟨st,h⟩:=h
 exact sH h i
theorem iD(h:CQ H c C w)(i:Int):af Tryz.prog bD [ptr c,i64 i] H fun v H'=>aw (v= .bool (decide (w.has i))∧H=H'):=by
 obtain⟨st,h⟩:=h
 exact gU h i
theorem jf(h:CQ H c C w):af Tryz.prog dq [ptr c] H fun v H'=>aw (
  (w.hs.length=65537∧v=i64 0∧H=H')∨(w.hs.length≠65537∧v=i64 w.hs.length∧∃C',CQ H' c C' w.make∧ag C H H'∧∀x,C' x→C x∨H.size≤x)):=by
 obtain⟨st,h⟩:=h
 refine(jY h).mono ?_
 rintro v H' (h1| ⟨h1,h2,S',h3,h4⟩)
 ·exact .inl h1
 ·exact .inr ⟨h1,h2,S',⟨_,h3⟩,h4⟩
theorem kZ(h:CQ H c C w)(g i k s:Int):af Tryz.prog iP [ptr c,i64 g,i64 i,tz k s] H fun v H'=>aw (
  (¬ (w.has g∧(0≤i∧i<w.cs.length)∧¬cT w.cs i)∧v= .bool false∧CQ H' c C w∧ag C H H')∨
  ((w.has g∧(0≤i∧i<w.cs.length)∧¬cT w.cs i)∧v= .bool true∧CQ H' c C (w.put i (g,k,s))∧ag C H H')):=by
 obtain⟨st,h⟩:=h
 refine(lD h g i k s).mono ?_
 rintro v H' (⟨h1,h2,h3,h4⟩| ⟨h1,h2,h3,h4⟩)
 ·exact .inl ⟨h1,h2,⟨_,h3⟩,h4⟩
 ·exact .inr ⟨h1,h2,⟨_,h3⟩,h4⟩
theorem de(h:CQ H c C w)(i:Int):af Tryz.prog hY [ptr c,i64 i] H fun v H'=>aw (
  (¬cT w.cs i∧v= .tuple [i64 0,.bool false].toArray∧H=H')∨(cT w.cs i∧v= .tuple [i64 (aG w i),.bool true].toArray∧CQ H' c C w∧ag C H H')):=by
 obtain⟨st,h⟩:=h
 refine(et h i).mono ?_
 rintro v H' (h1| ⟨h1,x,hx,h2,h3,h4⟩)
 ·exact .inl h1
 ·exact .inr ⟨h1,by rw[h2,j0 h1.1 hx],⟨_,h3⟩,h4⟩
theorem gL(h:CQ H c C w)(i:Int):af Tryz.prog bc [ptr c,i64 i] H fun v H'=>aw (CQ H' c C w∧ai H H'∧(
  (¬cT w.cs i∧v= .tuple [tz 0 0,.bool false].toArray)∨(cT w.cs i∧∃x,w.cs[i.toNat]? =some x∧v= .tuple [tz x.2.1 x.2.2,.bool true].toArray))):=by
 obtain⟨st,h⟩:=h
 refine(jc h i).mono ?_
 rintro v H' ⟨h1,h2,h3⟩
 exact⟨⟨_,h1⟩,h2,h3⟩
theorem cd(h:CQ H c C w)(i:Int):af Tryz.prog hZ [ptr c,i64 i] H fun v H'=>aw (
  (¬cT w.cs i∧v= .bool false∧H=H')∨(cT w.cs i∧v= .bool true∧CQ H' c C (w.put i (0,0,0))∧ag C H H')):=by
 obtain⟨st,h⟩:=h
 refine(jZ h i).mono ?_
 rintro v H' (h1| ⟨h1,h2,h3,h4⟩)
 ·exact .inl h1
 ·exact .inr ⟨h1,h2,⟨_,h3⟩,h4⟩
theorem gM(h:CQ H c C w)(i k s:Int):af Tryz.prog gB [ptr c,i64 i,tz k s] H fun v H'=>aw (
  (¬ (cT w.cs i∧∀x,w.cs[i.toNat]? =some x→¬ep x.2.1 x.2.2 k s)∧v= .bool false∧CQ H' c C w∧ai H H')∨
  (cT w.cs i∧v= .bool true∧∃x,w.cs[i.toNat]? =some x∧¬ep x.2.1 x.2.2 k s∧CQ H' c C (w.put i (x.1,k,s))∧ag C H H')):=by
 obtain⟨st,h⟩:=h
 refine(jd h i k s).mono ?_
 rintro v H' (⟨h1,h2,h3,h4⟩| ⟨h1,h2,x,h3,h4,h5,h6⟩)
 ·exact .inl ⟨h1,h2,⟨_,h3⟩,h4⟩
 ·exact .inr ⟨h1,h2,x,h3,h4,⟨_,h5⟩,h6⟩
end
theorem k8(cap:Int)(H:Hp):af Tryz.prog tU [i64 cap] H fun v H'=>aw (
  ai H H'∧((¬ (0≤cap∧cap≤65536)∧v= .tuple [.pointer none,i64 31].toArray)∨
   (0≤cap∧cap≤65536)∧∃c C,v= .tuple [ptr c,i64 0].toArray∧CQ H' c C ⟨[false],List.replicate cap.toNat (0,0,0)⟩∧(∀x,C x→H.size≤x))):=by
 refine(lC cap H).mono ?_
 rintro v H' ⟨h1,h2| ⟨h2,c,C,h3,h4,h5⟩⟩
 ·exact⟨h1,.inl h2⟩
 ·exact⟨h1,.inr ⟨h2,c,C,h3,⟨_,h4⟩,h5⟩⟩
theorem gN{w:Nw}{a b:Int}(ha:0<aG w a)(hb:0<aG w b):w.ahead a b=aQ w a b:=Ct (bq.1 ha) (bq.1 hb)
def bi(tops:List Int)(h:Int):Int:=if 0≤h then tops.getD h.toNat (-1)else -1
theorem dT{tops:List Int}{h:Int}(h0:0≤h)(hl:h<tops.length):tops[h.toNat]? =some (bi tops h):=by
 unfold bi
 rw[if_pos h0,anx]
 obtain⟨x,hx⟩:∃x,tops[h.toNat]? =some x:=⟨_,ans (by omega)⟩
 rw[hx];rfl
theorem ez{tops:List Int}{h:Int}(h0:0≤h)(hl:h<tops.length)(x:Int):bi (tops.set h.toNat x)=iX (bi tops) h x:=by
 funext y
 show bi _ y=if y=h then x else bi tops y
 by_cases hy:y=h
 ·subst hy
  unfold bi
  rw[if_pos h0,if_pos rfl,anx,anB (by omega)]
  rfl
 ·rw[if_neg hy]
  unfold bi
  split
  ·rw[anx,anA (by omega),anx]
  ·rfl
theorem AS(tops:List Int):bi (tops++[-1])=bi tops:=by
 funext y
 unfold bi
 split
 ·rw[anx,anx]
  by_cases hy:y.toNat<tops.length
  ·rw[anJ hy]
  ·rw[anX (by omega),anK (l:=tops) (by omega)]
   by_cases h2:y.toNat - tops.length=0
   ·rw[h2];rfl
   ·rw[anK (by simp;omega)]
 ·rfl
end Go.Proofs.YtjlnnljohemifaaGreat
