/- Texts put behind each other. -/
import Derived.Test.YtjkkkibiegfecaaGreatDoorK98
import Derived.Test.YtjkkkibiegfecaaGreatDoorK0
import Derived.Test.YtjkkkibiegfecaaGreatDoorK1
import Derived.Test.YtjkkkibiegfecaaGreatDoorK21
import Derived.Test.YtjkkkibiegfecaaGreatDoorK22
import Derived.Test.YtjkkkibiegfecaaGreatDoorK24
set_option maxRecDepth 100000
set_option maxHeartbeats 8000000
set_option linter.unusedVariables false
set_option linter.unusedSimpArgs false
namespace Go.Proofs.YtjkkkibiegfecaaGreatDoor
open Go Go.Vc
def pa(d:Int)(j:Nat):Nat:=(((j:Int) - 1) / d).toNat
theorem oI{d:Int}(hf:cW d){i:Int}(h1:1≤i):∃p,bz d i=some p∧p.toNat=pa d i.toNat∧0≤p∧p<i:=by
 have hp:bz d i=some ((i - 1) / d):=by unfold bz;grind
 have hb:=fj hp
 grind [pa]
theorem dc{d:Int}(hf:cW d){j:Nat}(h:1≤j):pa d j<j:=by
 obtain⟨p,_,h1,h2,h3⟩:=oI hf (i:=(j:Int)) (by omega)
 grind
theorem Xs{d:Int}(hf:cW d){i j:Nat}(h:1≤j):pa d j=i↔(d*i+1≤j∧(j:Int)≤d*i+d):=by
 have hd:=hf.1
 unfold pa
 have e1:=Int.mul_ediv_add_emod ((j:Int) - 1) d
 have e2:=Int.emod_nonneg ((j:Int) - 1) (show d≠0 by omega)
 have e3:=Int.emod_lt_of_pos ((j:Int) - 1) (show 0<d by omega)
 have e4:0≤((j:Int) - 1) / d:=Int.ediv_nonneg (by omega) (by omega)
 constructor
 ·grind
 ·rintro⟨h1,h2⟩
  have h3:=tH (d:=d) (i:=(i:Int)) (j:=(j:Int) - d*i) hd (by omega) (by omega) (by omega)
  grind
theorem fz(l:List Int)(i j:Nat)(v:Int)(hi:i<l.length):(l.set i v).getD j 0=if i=j then v else l.getD j 0:=by
 grind
def eA(lt:Int→Int→Bool)(d:Int)(l:List Int):Prop:=∀j,1≤j→j<l.length→lt (l.getD j 0) (l.getD (pa d j) 0)=false
def dQ(lt:Int→Int→Bool)(d:Int)(l:List Int)(i:Nat):Prop:=
 (∀j,1≤j→j<l.length→j≠i→pa d j≠i→lt (l.getD j 0) (l.getD (pa d j) 0)=false)∧
 (∀j,1≤j→j<l.length→pa d j=i→1≤i→lt (l.getD j 0) (l.getD (pa d i) 0)=false)
theorem eA.but{lt:Int→Int→Bool}(ho:bF lt){d:Int}(hf:cW d){l:List Int}(h:eA lt d l)(i:Nat):dQ lt d l i:=by
 refine⟨fun j h1 h2 _ _=>h j h1 h2,fun j h1 h2 h3 h4=>?_⟩
 have e1:=h j h1 h2
 have e2:=h i h4 (by have:=dc hf h1;omega)
 cases ho;grind
theorem dQ.set{lt:Int→Int→Bool}{d:Int}(hf:cW d){l:List Int}{i:Nat}(hi:i<l.length)(h:dQ lt d l i){x:Int}(hB:∀j,1≤j→j<l.length→pa d j=i→lt (l.getD j 0) x=false)
  (hD:1≤i→lt x (l.getD (pa d i) 0)=false):eA lt d (l.set i x):=by
 intro j h1 h2
 rw[aom]at h2
 rw[fz _ _ _ _ hi,fz _ _ _ _ hi]
 have bf:=dc hf h1
 by_cases e1:i=j
 ·grind
 ·rw[if_neg e1]
  by_cases e2:i=pa d j
  ·grind
  ·rw[if_neg e2];exact h.1 j h1 h2 (Ne.symm e1) (Ne.symm e2)
theorem KJ{lt:Int→Int→Bool}(ho:bF lt){d:Int}(hf:cW d)(x:Int):∀ (m:Nat) (l:List Int) (pl:Int→Option Int) (i:Int),i.toNat≤m→0≤i→i<l.length→dQ lt d l i.toNat→
  (∀j,1≤j→j<l.length→pa d j=i.toNat→lt (l.getD j 0) x=false)→eA lt d (fM lt d x m l pl i).l:=by
 intro m
 induction m with
 |zero=>
  intro l pl i hm h0 hl hA hB
  exact hA.set hf (by omega) hB (fun h=>by omega)
 |succ m ih=>
  intro l pl i hm h0 hl hA hB
  by_cases hi:1≤i
  ·obtain⟨p,hp,U8,p0,p1⟩:=oI hf hi
   unfold fM
   rw[hp]
   simp only[U8]
   cases bf:lt x (l.getD (pa d i.toNat) 0)with
   |false=>
    exact hA.set hf (by omega) hB (fun _=>bf)
   |true=>
    simp only[if_true]
    have xY:i.toNat<l.length:=by omega
    have hpi:=by omega
    refine ih _ _ p (by omega) p0 (by grind) ⟨fun j h1 h2 h3 h4=>?_,fun j h1 h2 h3 h4=>?_⟩ (fun j h1 h2 h3=>?_)
    ·rw[aom]at h2
     rw[U8]at h3 h4
     rw[fz _ _ _ _ xY,fz _ _ _ _ xY]
     have e1:i.toNat≠j:=by grind
     rw[if_neg e1]
     by_cases e2:i.toNat=pa d j
     ·rw[if_pos e2]
      exact hA.2 j h1 h2 e2.symm (by omega)
     ·rw[if_neg e2]
      exact hA.1 j h1 h2 (Ne.symm e1) (Ne.symm e2)
    ·rw[aom]at h2
     rw[U8]at h3 h4 ⊢
     rw[fz _ _ _ _ xY,fz _ _ _ _ xY]
     have Qg:=dc hf h4
     rw[if_neg (show i.toNat≠pa d (pa d i.toNat) by omega)]
     have e3:=hA.1 (pa d i.toNat) h4 (by omega) (by omega) (by omega)
     by_cases e1:i.toNat=j
     ·rw[if_pos e1];exact e3
     ·rw[if_neg e1]
      have e4:=hA.1 j h1 h2 (Ne.symm e1) (by omega)
      rw[h3]at e4
      exact ho.nt _ _ _ e4 e3
    ·rw[aom]at h2
     rw[U8]at h3
     rw[fz _ _ _ _ xY]
     by_cases e1:i.toNat=j
     ·rw[if_pos e1];exact ho.yN bf
     ·rw[if_neg e1]
      have e4:=hA.1 j h1 h2 (Ne.symm e1) (by omega)
      rw[h3]at e4
      cases hx:lt (l.getD j 0) x with
      |false=>rfl
      |true=>have:=ho.tr _ _ _ hx bf;grind
  ·have FC:i=0:=by omega
   subst FC
   have hn:bz d 0=none:=by unfold bz;grind
   unfold fM
   rw[hn]
   exact hA.set hf (by omega) hB (by omega)
theorem GR(lt:Int→Int→Bool)(d x:Int):∀ (m:Nat) (l:List Int) (pl:Int→Option Int) (i:Int),(fM lt d x m l pl i).asked≤Mu d m i:=by
 intro m
 induction m with
 |zero=>intro l pl i;simp[fM,Mu]
 |succ m ih=>
  intro l pl i
  unfold fM Mu
  grind
theorem wN(lt:Int→Int→Bool)(d x:Int):∀ (m:Nat) (l:List Int) (pl:Int→Option Int) (i:Int),(fM lt d x m l pl i).l.length=l.length:=by
 intro m
 induction m with
 |zero=>intro l pl i;simp[fM]
 |succ m ih=>
  intro l pl i
  unfold fM
  grind
theorem SF{lt:Int→Int→Bool}{d:Int}(hf:cW d)(x:Int)(l:List Int)(pl:Int→Option Int)(i:Int)(h0:0≤i):
  ((fM lt d x i.toNat l pl i).at_=i∧(fM lt d x i.toNat l pl i).l=l.set i.toNat x∧(fM lt d x i.toNat l pl i).pl=dB pl x i∧(fM lt d x i.toNat l pl i).asked≤1∧(1≤i→lt x (l.getD (pa d i.toNat) 0)=false))∨
  ((fM lt d x i.toNat l pl i).at_<i∧1≤i∧lt x (l.getD (pa d i.toNat) 0)=true):=by
 by_cases hi:1≤i
 ·obtain⟨p,hp,U8,p0,p1⟩:=oI hf hi
  obtain⟨q,hq⟩:∃q,i.toNat=q+1:=⟨i.toNat - 1,by omega⟩
  have low:∀ (m:Nat) (l:List Int) (pl:Int→Option Int) (i:Int),(fM lt d x m l pl i).at_≤i:=by
   intro m
   induction m with
   |zero=>intro l pl i;simp[fM]
   |succ m ih=>
    intro l pl i
    unfold fM
    cases hp:bz d i with
    |none=>simp
    |some p=>
     have:=fj hp
     grind
  rw[hq,fM,hp,←hq]
  grind
 ·have FC:i=0:=by omega
  subst FC
  exact .inl ⟨rfl,rfl,rfl,by simp[fM],fun h=>by omega⟩
def RL(l:List Int)(pl:Int→Option Int)(i:Int)(x:Int):Prop:=
 ∀z,z≠x→∀k,pl z=some k↔(0≤k∧k≠i∧l[k.toNat]? =some z)
def vL(l:List Int)(pl:Int→Option Int):Prop:=∀z k,pl z=some k↔(0≤k∧l[k.toNat]? =some z)
theorem vL.ae6{l:List Int}{pl:Int→Option Int}(h:vL l pl){i x:Int}(hx:l[i.toNat]? =some x)(h0:0≤i):RL l pl i x:=by
 intro z hz k
 rw[h z k]
 grind
theorem vL.Dm{l:List Int}{pl:Int→Option Int}(h:vL l pl){i j:Nat}{z:Int}(hi:l[i]? =some z)(hj:l[j]? =some z):i=j:=by
 have h1:=(h z i).2 (by grind)
 have h2:=(h z j).2 (by grind)
 grind
def JI(l:List Int)(i:Int)(z:Int):Prop:=∃k:Nat,(k:Int)≠i∧l[k]? =some z
theorem RL.set{l:List Int}{pl:Int→Option Int}{i x:Int}(h:RL l pl i x)(h0:0≤i)(hl:i<l.length)(hx:¬JI l i x):vL (l.set i.toNat x) (dB pl x i):=by
 intro z k
 have xY:i.toNat<l.length:=by omega
 by_cases e:z=x
 ·subst e
  simp only[dB,if_true]
  constructor
  ·grind
  ·rintro⟨a,b⟩
   by_cases e2:k=i
   ·rw[e2]
   ·exfalso
    rw[aor (by omega)]at b
    exact hx ⟨k.toNat,by omega,b⟩
 ·simp only[dB,if_neg e]
  rw[h z e k]
  grind
theorem RL.move{l:List Int}{pl:Int→Option Int}{i p x y:Int}(h:RL l pl i x)(h0:0≤i)(hl:i<l.length)(p0:0≤p)(hpi:p≠i)(hy:l[p.toNat]? =some y)(hx:¬JI l i x):
  RL (l.set i.toNat y) (dB pl y i) p x∧(¬JI (l.set i.toNat y) p x)∧∀z,JI (l.set i.toNat y) p z↔JI l i z:=by
 have xY:i.toNat<l.length:=by omega
 have FD:y≠x:=fun e=>hx ⟨p.toNat,by omega,by grind⟩
 have ahX:∀k:Int,0≤k→k≠i→l[k.toNat]? =some y→k=p:=by
  intro k k0 ki hk
  have h1:=(h y FD k).2 ⟨k0,ki,hk⟩
  have h2:=(h y FD p).2 ⟨p0,hpi,hy⟩
  rw[h1]at h2;injection h2
 have U9:∀z,JI (l.set i.toNat y) p z↔JI l i z:=by
  intro z
  constructor
  ·rintro⟨k,k1,k2⟩
   by_cases e:i.toNat=k
   ·rw[←e,aot xY]at k2
    injection k2 with k2
    subst k2
    exact⟨p.toNat,by omega,hy⟩
   ·rw[aor e]at k2
    exact⟨k,by omega,k2⟩
  ·rintro⟨k,k1,k2⟩
   by_cases e:(k:Int)=p
   ·refine⟨i.toNat,by omega,?_⟩
    grind
   ·exact⟨k,e,by grind⟩
 refine⟨?_,by grind,U9⟩
 intro z hz k
 by_cases e:z=y
 ·grind [dB]
 ·simp only[dB,if_neg e]
  rw[h z hz k]
  grind
theorem mem_set{l:List Int}{i:Nat}(hi:i<l.length)(x z:Int):z∈l.set i x↔z=x∨JI l i z:=by
 constructor
 ·intro h
  obtain⟨k,hk⟩:=aoC h
  by_cases e:i=k
  ·grind
  ·rw[aor e]at hk;exact .inr ⟨k,by omega,hk⟩
 ·rintro(rfl| ⟨k,k1,k2⟩)
  ·exact aou (i:=i) (by grind)
  ·exact aou (i:=k) (by grind)
theorem Dn{lt:Int→Int→Bool}{d:Int}(x:Int):∀ (m:Nat) (l:List Int) (pl:Int→Option Int) (i:Int),i.toNat≤m→0≤i→i<l.length→RL l pl i x→¬JI l i x→
  vL (fM lt d x m l pl i).l (fM lt d x m l pl i).pl∧∀z,z∈(fM lt d x m l pl i).l↔z=x∨JI l i z:=by
 intro m
 induction m with
 |zero=>
  intro l pl i hm h0 hl hP hx
  exact⟨hP.set h0 hl hx,fun z=>by have:=mem_set (l:=l) (i:=i.toNat) (by omega) x z;rw[show((i.toNat:Nat):Int)=i by omega]at this;exact this⟩
 |succ m ih=>
  intro l pl i hm h0 hl hP hx
  have ae7:vL (l.set i.toNat x) (dB pl x i)∧∀z,z∈l.set i.toNat x↔z=x∨JI l i z:=
   ⟨hP.set h0 hl hx,fun z=>by have:=mem_set (l:=l) (i:=i.toNat) (by omega) x z;grind⟩
  unfold fM
  cases hp:bz d i with
  |none=>omega
  |some p=>
   have hb:=fj hp
   simp only
   split
   ·have hy:l[p.toNat]? =some (l.getD p.toNat 0):=by
     rw[aon,aol (by omega)];rfl
    obtain⟨m1,m2,m3⟩:=hP.move h0 hl hb.1 (by omega) hy hx
    grind
   omega
theorem ME{lt:Int→Int→Bool}(ho:bF lt)(l:List Int)(d i:Int)(h:0≤d*i):∀ (m:Nat) (cS:Int),(m:Int)≤d - 1→d*i+1≤cS→cS<l.length→
  (∀c:Int,d*i+1≤c→c≤d*i+(d - m)→c<l.length→lt (l.getD c.toNat 0) (l.getD cS.toNat 0)=false)→
  ∀c:Int,d*i+1≤c→c≤d*i+d→c<l.length→lt (l.getD c.toNat 0) (l.getD (bZ lt l d i m cS).1.toNat 0)=false:=by
 intro m
 induction m with
 |zero=>grind [bZ]
 |succ m ih=>
  intro cS hm h1 h2 hc c c1 c2 c3
  unfold bZ
  split
  ·rename_i bf
   simp only
   split
   ·rename_i hl
    refine ih _ (by omega) (by omega) (by omega) (fun e e1 e2 e3=>?_) c c1 c2 c3
    by_cases he:e=d*i+(d - m)
    ·rw[he];exact ho.Lp _
    cases ho;grind
   ·rename_i hl
    refine ih _ (by omega) h1 h2 (fun e e1 e2 e3=>?_) c c1 c2 c3
    by_cases he:e=d*i+(d - m)
    ·grind
    grind
  grind
theorem QW{lt:Int→Int→Bool}(ho:bF lt){d:Int}(hf:cW d)(x:Int):∀ (m:Nat) (l:List Int) (pl:Int→Option Int) (i:Int),l.length≤i.toNat+m→0≤i→i<l.length→dQ lt d l i.toNat→
  (1≤i→lt x (l.getD (pa d i.toNat) 0)=false)→eA lt d (cQ lt d x m l pl i).1:=by
 intro m
 induction m with
 |zero=>omega
 |succ m ih=>
  intro l pl i hm h0 hl hA hD
  have Xt:=hf.1
  have Ue:0≤d*i:=apo (by omega) h0
  have hit:((i.toNat:Nat):Int)=i:=by omega
  have Zx:∀j:Nat,1≤j→(pa d j=i.toNat↔(d*i+1≤j∧(j:Int)≤d*i+d)):=fun j hj=>by have:=Xs hf (i:=i.toNat) hj;grind
  unfold cQ
  split
  ·rename_i hc
   exact hA.set hf (by omega) (by grind) (by grind)
  ·rename_i hc
   have hb:=lW lt l d i Ue (d - 1).toNat (d*i+1) (by omega) (by omega) (by omega)
   have yt:(bZ lt l d i (d - 1).toNat (d*i+1)).1≤d*i+d:=by
    have key:∀ (m:Nat) (cS:Int),(m:Int)≤d - 1→cS≤d*i+d→(bZ lt l d i m cS).1≤d*i+d:=by
     intro m
     induction m with
     |zero=>intro cS _ h;exact h
     |succ m ih=>
      intro cS hm h
      unfold bZ
      grind
    exact(by grind)
   have Oy:=ME ho l d i Ue (d - 1).toNat (d*i+1) (by omega) (by omega) (by omega) (fun c c1 c2 c3=>by rw[show c=d*i+1 by omega];exact ho.Lp _)
   have bf:=oH hf h0 hb.1
   generalize bZ lt l d i (d - 1).toNat (d*i+1)=B at*
   obtain⟨b,q⟩:=B
   simp only at hb yt Oy bf
   have hbp:pa d b.toNat=i.toNat:=by grind
   have xY:i.toNat<l.length:=by omega
   have Do:∀j,1≤j→j<l.length→pa d j=i.toNat→lt (l.getD j 0) (l.getD b.toNat 0)=false:=by grind
   simp only
   by_cases hy:lt (l.getD b.toNat 0) x=true
   ·rw[if_pos hy]
    refine ih _ _ b (by grind) (by omega) (by grind) ⟨fun j h1 h2 h3 h4=>?_,fun j h1 h2 h3 h4=>?_⟩ (fun _=>?_)
    ·rw[aom]at h2
     rw[fz _ _ _ _ xY,fz _ _ _ _ xY]
     have Xu:=dc hf h1
     by_cases e1:i.toNat=j
     ·subst e1
      rw[if_pos rfl,if_neg (by omega)]
      have:=hA.2 b.toNat (by omega) (by omega) hbp h1
      omega
     ·rw[if_neg e1]
      by_cases e2:i.toNat=pa d j
      ·grind
      ·rw[if_neg e2];exact hA.1 j h1 h2 (Ne.symm e1) (Ne.symm e2)
    ·rw[aom]at h2
     rw[hbp,fz _ _ _ _ xY,fz _ _ _ _ xY,if_pos rfl]
     have Xu:=dc hf h1
     rw[if_neg (by omega)]
     have:=hA.1 j h1 h2 (by omega) (by omega)
     grind
    ·rw[hbp,fz _ _ _ _ xY,if_pos rfl]
     exact ho.yN hy
   ·rw[if_neg hy]
    exact hA.set hf xY (fun j h1 h2 h3=>ho.nt _ _ _ (Do j h1 h2 h3) (by grind)) (by grind)
theorem MF(lt:Int→Int→Bool)(d x:Int):∀ (m:Nat) (l:List Int) (pl:Int→Option Int) (i:Int),(cQ lt d x m l pl i).1.length=l.length:=by
 intro m
 induction m with
 |zero=>intro l pl i;simp[cQ]
 |succ m ih=>
  intro l pl i
  unfold cQ
  split
  ·simp
  ·simp only
   split
   ·simp[ih]
   ·simp
theorem MG{lt:Int→Int→Bool}{d:Int}(hf:cW d)(x:Int):∀ (m:Nat) (l:List Int) (pl:Int→Option Int) (i:Int),0≤i→i<l.length→RL l pl i x→¬JI l i x→
  vL (cQ lt d x m l pl i).1 (cQ lt d x m l pl i).2.1∧∀z,z∈(cQ lt d x m l pl i).1↔z=x∨JI l i z:=by
 intro m
 induction m with
 |zero=>
  grind [cQ,RL.set,mem_set]
 |succ m ih=>
  intro l pl i h0 hl hP hx
  have ae7:vL (l.set i.toNat x) (dB pl x i)∧∀z,z∈l.set i.toNat x↔z=x∨JI l i z:=
   ⟨hP.set h0 hl hx,fun z=>by grind [mem_set]⟩
  have Xt:=hf.1
  have Ue:0≤d*i:=apo (by omega) h0
  unfold cQ
  split
  ·omega
  ·have hb:=lW lt l d i Ue (d - 1).toNat (d*i+1) (by omega) (by omega) (by omega)
   have bf:=oH hf h0 hb.1
   simp only
   split
   ·have hy:l[(bZ lt l d i (d - 1).toNat (d*i+1)).1.toNat]? =some (l.getD (bZ lt l d i (d - 1).toNat (d*i+1)).1.toNat 0):=by
     rw[aon,aol (by omega)];rfl
    obtain⟨m1,m2,m3⟩:=hP.move h0 hl (by omega) (by omega) hy hx
    obtain⟨r1,r2⟩:=ih _ _ _ (by omega) (by grind) m1 m2
    exact⟨r1,fun z=>by rw[r2 z,m3 z]⟩
   omega
def jj(d i:Int):Nat:=Mu d i.toNat i
theorem rA{d i p:Int}(h:bz d i=some p):jj d i=jj d p+1:=Ss h _ (aox _)
theorem lX{d:Int}(hf:cW d):∀ (m:Nat) (i j:Int),j.toNat≤m→i≤j→jj d i≤jj d j:=by
 intro m
 induction m with
 |zero=>
  grind [Mu,jj]
 |succ m ih=>
  intro i j hm NT
  by_cases hi:1≤i
  ·have Xt:=hf.1
   have hp:bz d i=some ((i - 1) / d):=by unfold bz;grind
   have hq:bz d j=some ((j - 1) / d):=by unfold bz;grind
   have hb:=fj hq
   rw[rA hp,rA hq]
   have:=ih ((i - 1) / d) ((j - 1) / d) (by omega) (Int.ediv_le_ediv (by omega) (by omega))
   omega
  ·have:jj d i=0:=by
    unfold jj
    have hn:bz d i=none:=by unfold bz;grind
    cases i.toNat<;>simp[Mu,hn]
   omega
theorem MH(lt:Int→Int→Bool)(l:List Int)(d i:Int):∀ (m:Nat) (cS:Int),(bZ lt l d i m cS).2≤m:=by
 intro m
 induction m with
 |zero=>intro cS;simp[bZ]
 |succ m ih=>
  grind [bZ]
theorem OE{lt:Int→Int→Bool}{d:Int}(hf:cW d)(x:Int):∀ (m:Nat) (l:List Int) (pl:Int→Option Int) (i:Int),l.length≤i.toNat+m→0≤i→i<l.length→
  ((cQ lt d x m l pl i).2.2:Int)+d*(jj d i:Nat)≤d*(jj d ((l.length:Int) - 1):Nat):=by
 intro m
 induction m with
 |zero=>omega
 |succ m ih=>
  intro l pl i hm h0 hl
  have Xt:=hf.1
  have Ue:0≤d*i:=apo (by omega) h0
  have SG:∀k,k≤(l.length:Int) - 1→d*(jj d k:Nat)≤d*(jj d ((l.length:Int) - 1):Nat):=fun k hk=>
   Int.mul_le_mul_of_nonneg_left (by have:=lX hf ((l.length:Int) - 1).toNat k ((l.length:Int) - 1) (aox _) hk;omega) (by omega)
  unfold cQ
  split
  ·grind
  ·have hb:=lW lt l d i Ue (d - 1).toNat (d*i+1) (by omega) (by omega) (by omega)
   have bf:=oH hf h0 hb.1
   have aj8:=MH lt l d i (d - 1).toNat (d*i+1)
   have yt:(bZ lt l d i (d - 1).toNat (d*i+1)).1≤d*i+d:=by
    have key:∀ (m:Nat) (cS:Int),(m:Int)≤d - 1→cS≤d*i+d→(bZ lt l d i m cS).1≤d*i+d:=by
     intro m
     induction m with
     |zero=>intro cS _ h;exact h
     |succ m ih=>
      grind [bZ]
    exact(by grind)
   generalize bZ lt l d i (d - 1).toNat (d*i+1)=B at*
   have QV:bz d B.1=some i:=by
    unfold bz
    rw[if_pos ⟨hf,by omega⟩]
    have:=tH (d:=d) (i:=i) (j:=B.1 - d*i) Xt h0 (by omega) (by omega)
    rw[show d*i+(B.1 - d*i) - 1=B.1 - 1 by omega]at this
    rw[this]
   have Wn:=rA QV
   have hmul:d*((jj d i+1:Nat):Int)=d*(jj d i:Nat)+d:=by rw[Int.natCast_add,Int.mul_add];simp
   grind
def cU(lt:Int→Int→Bool)(d x:Int)(l:List Int)(pl:Int→Option Int)(i:Int):List Int×(Int→Option Int)×Nat:=
 if l.getD (l.length - 1) 0=x then(l.dropLast,oF pl x,0)
 else
  let U:=fM lt d (l.getD (l.length - 1) 0) i.toNat l.dropLast (oF pl x) i
  if U.at_=i then
   let D:=cQ lt d (l.getD (l.length - 1) 0) U.l.length U.l U.pl i
   (D.1,D.2.1,U.asked+D.2.2)
  else(U.l,U.pl,U.asked)
theorem yB(l:List Int)(j:Nat)(h:j<l.length - 1):l.dropLast.getD j 0=l.getD j 0:=by
 grind
theorem MI{lt:Int→Int→Bool}(ho:bF lt){d:Int}(hf:cW d){x i:Int}{l:List Int}{pl:Int→Option Int}(hh:eA lt d l)(hp:vL l pl)(hi:pl x=some i):
  eA lt d (cU lt d x l pl i).1∧vL (cU lt d x l pl i).1 (cU lt d x l pl i).2.1∧(cU lt d x l pl i).1.length=l.length - 1∧
   (∀z,z∈(cU lt d x l pl i).1↔z∈l∧z≠x)∧((cU lt d x l pl i).2.2:Int)≤d*(jj d ((l.length:Int) - 1):Nat)+1:=by
 obtain⟨h0,hx⟩:=(hp x i).1 hi
 have xY:i.toNat<l.length:=by grind
 have Xt:=hf.1
 have BN:l[l.length - 1]? =some (l.getD (l.length - 1) 0):=by
  rw[aon,aol (by omega)];rfl
 have SH:∀k,k<l.length - 1→l.dropLast[k]? =l[k]? :=by grind
 have pG:eA lt d l.dropLast:=by
  intro j h1 h2
  rw[ao0]at h2
  have:=dc hf h1
  rw[yB _ _ h2,yB _ _ (by omega)]
  exact hh j h1 (by omega)
 unfold cU
 split
 ·rename_i he
  have xZ:i.toNat=l.length - 1:=hp.Dm hx (by grind)
  refine⟨pG,fun z k=>?_,by simp,fun z=>?_,?_⟩
  ·show oF pl x z=some k↔(0≤k∧l.dropLast[k.toNat]? =some z)
   unfold oF
   by_cases hz:z=x
   ·grind [vL.Dm]
   ·rw[if_neg hz,hp z k]
    grind
  ·constructor
   ·intro h
    obtain⟨k,hk⟩:=aoC h
    grind [vL.Dm]
   ·rintro⟨h,hz⟩
    obtain⟨k,hk⟩:=aoC h
    grind
  ·have:0≤d*(jj d ((l.length:Int) - 1):Nat):=apo (by omega) (by omega)
   simp only
   omega
 ·rename_i bN
  generalize hy:l.getD (l.length - 1) 0=y at*
  have xZ:i.toNat<l.length - 1:=by
   rcases ao3 i.toNat (l.length - 1)with h|h
   ·exact h
   ·grind
  have hP:RL l.dropLast (oF pl x) i y:=by
   intro z hz k
   unfold oF
   by_cases e:z=x
   ·grind [vL.Dm]
   ·rw[if_neg e,hp z k]
    constructor
    ·rintro⟨a,b⟩
     have hk:k.toNat<l.length:=(aoj.1 b).1
     have hk2:k.toNat≠l.length - 1:=fun e2=>by rw[e2,BN]at b;injection b with b;exact hz b.symm
     exact⟨a,fun e2=>by rw[e2,hx]at b;injection b with b;exact e b.symm,by rw[SH _ (by omega)];exact b⟩
    ·rintro⟨a,_,b⟩
     have hk:k.toNat<l.length - 1:=by have:=(aoj.1 b).1;rwa[ao0]at this
     exact⟨a,by rw[SH _ hk]at b;exact b⟩
  have hO:¬JI l.dropLast i y:=by
   rintro⟨k,k1,k2⟩
   have hk:k<l.length - 1:=by have:=(aoj.1 k2).1;grind
   rw[SH _ hk]at k2
   have:=hp.Dm k2 BN
   omega
  have dW:∀z,(z=y∨JI l.dropLast i z)↔(z∈l∧z≠x):=by
   intro z
   constructor
   ·rintro(rfl| ⟨k,k1,k2⟩)
    ·grind
    grind [vL.Dm]
   ·rintro⟨h,hz⟩
    obtain⟨k,hk⟩:=aoC h
    have hk1:k<l.length:=by grind
    by_cases e:k=l.length - 1
    ·grind
    ·exact .inr ⟨k,by grind,by grind⟩
  have bu:(i:Int)<l.dropLast.length:=by rw[ao0];omega
  have OF:=pG.but ho hf i.toNat
  have Wn:=Dn (lt:=lt) (d:=d) y i.toNat l.dropLast (oF pl x) i (aox _) h0 bu hP hO
  have SG:d*(jj d ((l.length:Int) - 1 - 1):Nat)≤d*(jj d ((l.length:Int) - 1):Nat):=
   Int.mul_le_mul_of_nonneg_left (by have:=lX hf ((l.length:Int) - 1).toNat ((l.length:Int) - 1 - 1) ((l.length:Int) - 1) (aox _) (by omega);omega) (by omega)
  rcases SF hf (lt:=lt) y l.dropLast (oF pl x) i h0 with ⟨s1,s2,s3,s4,s5⟩| ⟨s1,s2,s3⟩
  ·simp only
   rw[if_pos s1,s2,s3,aom]
   simp only
   have aka:i.toNat<l.dropLast.length:=by rw[ao0];omega
   have QX:∀j,j≠i.toNat→(l.dropLast.set i.toNat y).getD j 0=l.dropLast.getD j 0:=by grind
   have hP2:RL (l.dropLast.set i.toNat y) (dB (oF pl x) y i) i y:=by
    intro z hz k
    unfold dB
    rw[if_neg hz,hP z hz k]
    constructor
    ·grind
    ·grind
   have U9:∀z,JI (l.dropLast.set i.toNat y) i z↔JI l.dropLast i z:=by
    intro z
    constructor
    ·rintro⟨k,k1,k2⟩;exact⟨k,k1,by grind⟩
    ·rintro⟨k,k1,k2⟩;exact⟨k,k1,by grind⟩
   have uG:(i:Int)< (l.dropLast.set i.toNat y).length:=by rw[aom];exact bu
   obtain⟨d1,d2⟩:=MG (lt:=lt) hf y l.dropLast.length (l.dropLast.set i.toNat y) (dB (oF pl x) y i) i h0 uG hP2 (by grind)
   refine⟨?_,d1,by grind [MF],by grind,?_⟩
   ·refine QW ho hf y _ _ _ i (by grind) h0 uG ⟨fun j h1 h2 h3 h4=>?_,fun j h1 h2 h3 h4=>?_⟩ (fun h=>?_)
    ·rw[QX j h3,QX _ h4];exact OF.1 j h1 (by grind) h3 h4
    ·have:=dc hf h1
     have:=dc hf h4
     rw[QX j (by omega),QX _ (by omega)]
     exact OF.2 j h1 (by grind) h3 h4
    ·have:=dc hf (j:=i.toNat) (by omega)
     grind
   ·have:=OE (lt:=lt) hf y l.dropLast.length (l.dropLast.set i.toNat y) (dB (oF pl x) y i) i (by grind) h0 uG
    have hdl:l.dropLast.length=l.length - 1:=by grind
    rw[aom,show((l.dropLast.length:Nat):Int) - 1=(l.length:Int) - 1 - 1 by omega]at this
    have h5:0≤d*(jj d i:Nat):=apo (by omega) (by omega)
    omega
  ·simp only
   rw[if_neg (by omega)]
   have OG:=dc hf (j:=i.toNat) (by omega)
   refine⟨KJ ho hf y _ _ _ i (aox _) h0 bu OF (fun j h1 h2 h3=>?_),Wn.1,by rw[wN,ao0],by grind,?_⟩
   ·have e1:=OF.2 j h1 h2 h3 (by omega)
    cases ho;grind
   ·have e1:=GR lt d y i.toNat l.dropLast (oF pl x) i
    have e2:=lX hf ((l.length:Int) - 1).toNat i ((l.length:Int) - 1) (aox _) (by omega)
    unfold jj at e2 ⊢
    have e3:(1:Int)*(Mu d ((l.length:Int) - 1).toNat ((l.length:Int) - 1):Nat)≤d*(Mu d ((l.length:Int) - 1).toNat ((l.length:Int) - 1):Nat):=
     apm (by omega) (by omega)
    grind
theorem GS{lt:Int→Int→Bool}(ho:bF lt){d:Int}(hf:cW d){l:List Int}(hh:eA lt d l):∀ (m j:Nat),j≤m→j<l.length→lt (l.getD j 0) (l.getD 0 0)=false:=by
 intro m
 induction m with
 |zero=>cases ho;grind
 |succ m ih=>
  intro j hj hl
  by_cases h:1≤j
  ·have:=dc hf h
   exact ho.nt _ _ _ (hh j h hl) (by grind)
  grind
def Nw.key(w:Nw)(a:Int):Int:=(w.cs.getD a.toNat (0,0,0)).2.1
def Nw.seq(w:Nw)(a:Int):Int:=(w.cs.getD a.toNat (0,0,0)).2.2
def aP(w:Nw)(a b:Int):Bool:=decide (w.key a<w.key b∨w.key a=w.key b∧(w.seq a<w.seq b∨w.seq a=w.seq b∧a<b))
theorem aw(w:Nw):bF (aP w):=by
 constructor<;>grind [aP]
theorem Dp{w:Nw}{a b:Int}(ha:cI w.cs a)(hb:cI w.cs b):w.ahead a b=aP w a b:=by
 obtain⟨a0,x,hx,_⟩:=id ha
 obtain⟨b0,y,hy,_⟩:=id hb
 have k1:w.key a=x.2.1:=by unfold Nw.key;rw[aon,hx];rfl
 have k2:w.key b=y.2.1:=by unfold Nw.key;rw[aon,hy];rfl
 have k3:w.seq a=x.2.2:=by unfold Nw.seq;rw[aon,hx];rfl
 have k4:w.seq b=y.2.2:=by unfold Nw.seq;rw[aon,hy];rfl
 unfold Nw.ahead aP
 rw[aov ha,aov hb,hx,hy,k1,k2,k3,k4]
 simp only[Bool.true_and]
 refine decide_eq_decide.2 ?_
 rw[OA,fQ]
 omega
theorem iw(w:Nw)(x:Int)(c:Ce){a b:Int}(ha:a.toNat≠x.toNat)(hb:b.toNat≠x.toNat):aP (w.put x c) a b=aP w a b:=by
 have key:∀z:Int,z.toNat≠x.toNat→(w.put x c).key z=w.key z∧(w.put x c).seq z=w.seq z:=fun z hz=>by
  unfold Nw.key Nw.seq Nw.put
  grind
 unfold aP
 grind
def Nw.first(w:Nw)(g x:Int):Prop:=0<g∧0≤x∧(∃e,w.cs[x.toNat]? =some (g,e))∧∀y,0≤y→(∃e,w.cs[y.toNat]? =some (g,e))→y≠x→aP w x y=true
theorem Nw.Aa{w:Nw}{g:Int}:w.len g=0↔(g≤0∨∀ (i:Nat) (c:Ce),w.cs[i]? =some c→c.1≠g):=by
 unfold Nw.len
 by_cases hg:0<g
 ·rw[if_pos hg]
  constructor
  ·grind
  ·rintro(h|h)
   ·omega
   ·rw[apE.2 (fun c hc=>by
     obtain⟨i,hi⟩:=aoC hc
     grind)]
    rfl
 omega
theorem Nw.first.pos{w:Nw}{g x:Int}(h:w.first g x):0<w.len g:=by
 have h1:=w.kT g
 rcases Int.lt_or_eq_of_le h1.1 with h2|h2
 ·exact h2
 ·rcases Nw.Aa.1 h2.symm with h3|h3
  ·have:=h.1;omega
  ·obtain⟨e,he⟩:=h.2.2.1
   grind
theorem Nw.first.Nn{w:Nw}{g x:Int}(h:w.first g x):cI w.cs x:=by
 obtain⟨e,he⟩:=h.2.2.1
 exact⟨h.2.1,_,he,h.1⟩
def BS(w w':Nw)(g:Int):Prop:=∀ (i:Nat) (e:Int×Int),w.cs[i]? =some (g,e)↔w'.cs[i]? =some (g,e)
theorem BS.aP{w w':Nw}{g:Int}(h:BS w w' g){x y:Int}(hx:∃e,w.cs[x.toNat]? =some (g,e))(hy:∃e,w.cs[y.toNat]? =some (g,e)):aP w x y=aP w' x y:=by
 have key:∀z:Int,(∃e,w.cs[z.toNat]? =some (g,e))→w.key z=w'.key z∧w.seq z=w'.seq z:=fun z ⟨e,he⟩=>by
  have FE:=(h _ e).1 he
  unfold Nw.key Nw.seq
  simp only[aon,he,FE,Option.getD_some,and_self]
 unfold Proofs.YtjkkkibiegfecaaGreatDoor.aP
 rw[(key x hx).1,(key x hx).2,(key y hy).1,(key y hy).2]
theorem BS.first{w w':Nw}{g:Int}(h:BS w w' g){x:Int}(hf:w.first g x):w'.first g x:=by
 obtain⟨h1,h2,⟨e,he⟩,h4⟩:=hf
 refine⟨h1,h2,⟨e,(h _ e).1 he⟩,fun y hy ⟨e',FE⟩ bN=>?_⟩
 have he2:=(h _ e').2 FE
 rw[←h.aP ⟨e,he⟩ ⟨e',he2⟩]
 grind
theorem BS.Aa{w w':Nw}{g:Int}(h:BS w w' g)(hl:w.len g=0):w'.len g=0:=by
 rcases Nw.Aa.1 hl with h1|h1
 ·exact Nw.Aa.2 (.inl h1)
 ·refine Nw.Aa.2 (.inr fun i c hc e=>?_)
  obtain⟨c1,c2⟩:=c
  simp only at e
  subst e
  exact h1 i _ ((h i c2).2 hc) rfl
theorem BS.put{w w':Nw}{g:Int}(h:BS w w' g)(hg:0<g)(x:Int)(hl:w.cs.length=w'.cs.length):BS (w.put x (0,0,0)) (w'.put x (0,0,0)) g:=by
 intro i e
 unfold Nw.put
 simp only[List.getElem?_set,hl]
 by_cases hi:x.toNat=i
 ·grind
 ·simp only[if_neg hi]
  exact h i e
theorem vM(w:Nw)(a b:Int)(i:Nat):(w.join a b).cs[i]? =(w.cs[i]?).map fun c=>if c.1=b then(a,c.2)else c:=by
 unfold Nw.join
 grind
theorem Nw.GU(w:Nw){a b:Int}(eJ:a≠b)(ha:0<a)(hb:0<b)(h:Int):(w.join a b).len h=if h=a then w.len a+w.len b else if h=b then 0 else w.len h:=by
 unfold Nw.len Nw.join
 simp only[Ed w.cs a b h eJ]
 grind
theorem vN(w:Nw)(a b x y:Int):aP (w.join a b) x y=aP w x y:=by
 have key:∀z:Int,(w.join a b).key z=w.key z∧(w.join a b).seq z=w.seq z:=fun z=>by
  unfold Nw.key Nw.seq
  simp only[aon,vM]
  grind
 unfold aP
 grind
theorem GV(w:Nw){a b:Int}(ha:0<a)(hb:0<b)(x:Int):cI (w.join a b).cs x↔cI w.cs x:=by
 unfold cI
 rw[vM]
 grind
def aF(w:Nw)(x:Int):Int:=if 0≤x then(w.cs.getD x.toNat (0,0,0)).1 else 0
theorem kX{w:Nw}{x:Int}{y:Ce}(h0:0≤x)(h:w.cs[x.toNat]? =some y):aF w x=y.1:=by
 unfold aF
 grind
theorem aG{w:Nw}{x:Int}(h:0<aF w x):0≤x∧x<w.cs.length∧∃e,w.cs[x.toNat]? =some (aF w x,e):=by
 unfold aF at h ⊢
 grind
theorem bB{w:Nw}{x:Int}:0<aF w x↔cI w.cs x:=by
 constructor
 ·intro h
  obtain⟨h0,_,e,he⟩:=aG h
  exact⟨h0,_,he,h⟩
 ·rintro⟨h0,y,hy,hp⟩
  rw[kX h0 hy]
  exact hp
theorem bD{w:Nw}{g x:Int}:w.first g x↔(0<g∧aF w x=g∧∀y,aF w y=g→y≠x→aP w x y=true):=by
 constructor
 ·rintro⟨h1,h2,⟨e,he⟩,h4⟩
  refine⟨h1,kX h2 he,fun y hy bN=>?_⟩
  obtain⟨y0,_,e',FE⟩:=aG (w:=w) (x:=y) (by omega)
  grind
 ·rintro⟨h1,h2,h3⟩
  obtain⟨x0,_,e,he⟩:=aG (w:=w) (x:=x) (by omega)
  rw[h2]at he
  exact⟨h1,x0,⟨e,he⟩,fun y y0 ⟨e',FE⟩ bN=>h3 y (kX y0 FE) bN⟩
theorem rB{w:Nw}{g:Int}(hg:0<g):w.len g=0↔∀x,aF w x≠g:=by
 rw[Nw.Aa]
 constructor
 ·rintro(h|h) x hx
  ·omega
  ·obtain⟨_,_,e,he⟩:=aG (w:=w) (x:=x) (by omega)
   grind
 ·intro h
  refine .inr fun i c hc e=>h (i:Int) ?_
  rw[kX (y:=c) (by omega) (by grind)]
  exact e
theorem dR{w:Nw}{i:Int}(hi:0≤i∧i<w.cs.length)(c:Ce)(x:Int):aF (w.put i c) x=if x=i then c.1 else aF w x:=by
 unfold aF Nw.put
 grind
theorem oJ{w:Nw}{a b:Int}(hb:0<b)(x:Int):aF (w.join a b) x=if aF w x=b then a else aF w x:=by
 unfold aF
 split
 ·rw[aon,aon,vM]
  grind
 omega
theorem SI{lt:Int→Int→Bool}(hs:bF lt){P:Int→Prop}{n:Nat}(hP:∀x,P x→0≤x∧x<n){x:Int}(hx:P x):∃m,P m∧∀y,P y→y≠m→lt m y=true:=by
 have key:∀k:Nat,∀x,P x→((List.range n).countP fun(i:Nat)=>lt i x)≤k→∃m,P m∧∀y,P y→y≠m→lt m y=true:=by
  intro k
  induction k with
  |zero=>
   intro x hx hk
   refine⟨x,hx,fun y hy bN=>?_⟩
   rcases hs.WR x y (Ne.symm bN)with h|h
   ·exact h
   ·have HV:=hP y hy
    have:=(apE.1 (Nat.le_zero.1 hk)) y.toNat (by grind)
    grind
  |succ k ih=>
   intro x hx hk
   by_cases hz:∃y,P y∧lt y x=true
   ·obtain⟨y,hy,hl⟩:=hz
    refine ih y hy ?_
    have HV:=hP y hy
    have h9:(List.range n).countP (fun(i:Nat)=>lt i y)< (List.range n).countP fun(i:Nat)=>lt i x:=by
     refine rU (fun i hi=>hs.tr _ _ _ hi hl) (x:=y.toNat) (by grind) ?_ ?_
     ·cases hs;grind
     ·grind
    omega
   cases hs;grind
 exact key _ x hx (aox _)
theorem vO{w:Nw}{g:Int}(hg:0<g)(h:w.len g≠0):∃x,w.first g x:=by
 have h1:¬ ∀x,aF w x≠g:=fun hn=>h ((rB hg).2 hn)
 obtain⟨x,hx⟩:=Classical.not_forall.1 h1
 have hx:=Classical.not_not.1 hx
 obtain⟨m,hm,hl⟩:=SI (aw w) (P:=fun x=>aF w x=g) (n:=w.cs.length) (fun x hx=>by obtain⟨a,b,_⟩:=aG (w:=w) (x:=x) (by omega);omega) hx
 exact⟨m,bD.2 ⟨hg,hm,hl⟩⟩
theorem dt{w:Nw}{i:Int}(hi:0≤i∧i<w.cs.length)(c:Ce){a b:Int}(ha:0<aF w a)(hb:0<aF w b)(hai:a≠i)(hbi:b≠i):aP (w.put i c) a b=aP w a b:=by
 obtain⟨a0,_⟩:=aG ha
 obtain⟨b0,_⟩:=aG hb
 exact iw w i c (by omega) (by omega)
theorem BT{w:Nw}{i k s:Int}(ci:cI w.cs i){y:Ce}(hy:w.cs[i.toNat]? =some y)(hl:¬fQ y.2.1 y.2.2 k s){b:Int}(hb:0<aF w b)(hbi:b≠i)(h:aP w i b=true):aP (w.put i (y.1,k,s)) i b=true:=by
 obtain⟨b0,_⟩:=aG hb
 have FC:=ci.1
 have xY:=(aoj.1 hy).1
 have k1:(w.put i (y.1,k,s)).key i=k∧(w.put i (y.1,k,s)).seq i=s:=by
  unfold Nw.key Nw.seq Nw.put
  simp only[aon]
  rw[aot xY]
  exact⟨rfl,rfl⟩
 have k2:w.key i=y.2.1∧w.seq i=y.2.2:=by
  unfold Nw.key Nw.seq
  simp only[aon,hy]
  exact⟨rfl,rfl⟩
 have k3:(w.put i (y.1,k,s)).key b=w.key b∧(w.put i (y.1,k,s)).seq b=w.seq b:=by
  unfold Nw.key Nw.seq Nw.put
  simp only[aon]
  rw[aor (by omega)]
  exact⟨rfl,rfl⟩
 unfold aP at h ⊢
 rw[k2.1,k2.2]at h
 rw[k1.1,k1.2,k3.1,k3.2]
 unfold fQ at hl
 grind
def Nw.mw(w:Nw)(g x:Int):Prop:=w.has g∧(0≤x∧x<w.cs.length)∧¬cI w.cs x
def Nw.du(w:Nw)(x k s:Int):Prop:=cI w.cs x∧∀y,w.cs[x.toNat]? =some y→¬fQ y.2.1 y.2.2 k s
def bq(I:Hp→(Nat→Prop)→Nw→Prop)(S:Nat→Prop)(H H':Hp)(w':Nw):Prop:=
 ∃S':Nat→Prop,I H' S' w'∧ah S H H'∧∀z,S' z→S z∨H.size≤z
theorem bq.same{I:Hp→(Nat→Prop)→Nw→Prop}{S:Nat→Prop}{H H':Hp}{w':Nw}(h:I H' S w')(e:ah S H H'):bq I S H H' w':=⟨S,h,e,fun z hz=>.inl hz⟩
structure kY where
 w:Nw
 A:Ar
 q:Int
structure Rp where
 c:Int
 h:Int
 s:Int
 g:Nat
 k:Int
 n:Int
deriving DecidableEq
def er(c:Int):Rp:=⟨c,0,0,0,0,0⟩
abbrev rpL(r:Rp):List Value:=[i64 r.c,i64 r.h,i64 r.s,.int .u32 (r.g:Int),i64 r.k,i64 r.n]
abbrev rpV(r:Rp):Value:=.agg (rpL r).toArray
open Classical in
noncomputable def Nw.HW(w:Nw)(g:Int):Option Int:=if h:∃x,w.first g x then some (Classical.choose h)else none
theorem SJ{w:Nw}{g x x':Int}(h:w.first g x)(h':w.first g x'):x'=x:=by
 obtain⟨_,h2,h3⟩:=bD.1 h
 obtain⟨_,h5,h6⟩:=bD.1 h'
 apply aoA
 intro bN
 have:=(aw w).yN (h3 x' h5 bN)
 rw[h6 x h2 (Ne.symm bN)]at this
 cases this
theorem OH{w:Nw}{g x:Int}(h:w.first g x):w.HW g=some x:=by
 unfold Nw.HW
 rw[dif_pos ⟨x,h⟩]
 exact aoo some (SJ h (Classical.choose_spec (⟨x,h⟩:∃x,w.first g x)))
theorem OI{w:Nw}{g:Int}(h:w.len g=0):w.HW g=none:=by
 unfold Nw.HW
 rw[dif_neg]
 rintro⟨x,hx⟩
 have:=bD.1 hx
 exact(rB this.1).1 h x this.2.1
def Ar.Ls(A:Ar)(x:Int)(g:Nat):Prop:=A.live x∧A.cB x=g
instance(A:Ar)(x:Int)(g:Nat):Decidable (A.Ls x g):=by unfold Ar.Ls;exact inferInstance
noncomputable def nB(t:kY)(g:Int):Rp:=
 if¬t.w.has g then er 171 else match t.w.HW g with
  |none=>er 172
  |some x=>⟨0,0,x,t.A.cB x,t.w.key x,0⟩
def Xv(t:kY)(x:Int):kY:=⟨t.w.put x (0,0,0),t.A.back x,t.q⟩
def OJ(t:kY)(g k:Int):kY×Rp:=
 if¬t.w.has g then(t,er 171)else match t.A.pick with
  |none=>(t,er 32)
  |some (x,A')=>(⟨t.w.put x (g,k,t.q+1),A'.out x,t.q+1⟩,⟨0,0,x,t.A.cB x+1,0,0⟩)
def MJ(t:kY):kY×Rp:=if t.w.hs.length=65537 then(t,er 32)else(⟨t.w.make,t.A,t.q⟩,⟨0,t.w.hs.length,0,0,0,0⟩)
noncomputable def GW(t:kY)(g:Int):kY×Rp:=(if(nB t g).c=0 then Xv t (nB t g).s else t,nB t g)
def OK(t:kY)(x:Int)(g:Nat)(k:Int):kY×Rp:=
 if¬t.A.Ls x g then(t,er 33)else if t.w.key x<k then(t,er 173)else(⟨t.w.put x (aF t.w x,k,t.w.seq x),t.A,t.q⟩,er 0)
def OL(t:kY)(x:Int)(g:Nat):kY×Rp:=if¬t.A.Ls x g then(t,er 33)else(Xv t x,⟨0,0,0,0,t.w.key x,0⟩)
def OM(t:kY)(a b:Int):kY×Rp:=
 if¬ (t.w.has a∧t.w.has b)then(t,er 171)else if a=b then(t,er 174)else(⟨t.w.join a b,t.A,t.q⟩,er 0)
def SK(t:kY)(g:Int):Rp:=if¬t.w.has g then er 171 else⟨0,0,0,0,0,t.w.len g⟩
def SL(t:kY)(x:Int)(g:Nat):Rp:=if¬t.A.Ls x g then er 33 else⟨0,0,0,0,t.w.key x,0⟩
def SM(t:kY)(x:Int)(g:Nat):Rp:=if¬t.A.Ls x g then er 33 else⟨0,aF t.w x,0,0,0,0⟩
noncomputable def SN(t:kY)(op:Nat)(a b:Nat)(k:Int):kY×Rp:=
 match op with
 |1=>MJ t
 |2=>OJ t a k
 |3=>(t,nB t a)
 |4=>GW t a
 |5=>OK t a b k
 |6=>OL t a b
 |7=>OM t a b
 |8=>(t,SK t a)
 |9=>(t,SL t a b)
 |10=>(t,SM t a b)
 |_=>(t,er 181)
def CQ(H:Hp)(c:Nat)(C:Nat→Prop)(w:Nw):Prop:=∃st,aZ H c C st w
section
variable {H H' : Hp} {c : Nat} {C T : Nat → Prop} {w : Nw}
theorem CQ.ext(h:CQ H c C w)(e:ah T H H')(hd:∀x,C x→¬T x):CQ H' c C w:=by obtain⟨st,h⟩:=h;exact⟨st,h.ext e hd⟩
theorem CQ.fresh(h:CQ H c C w)(e:ai H H'):CQ H' c C w:=h.ext e fun _ _ h=>h
theorem CQ.slt(h:CQ H c C w):∀x,C x→x<H.size:=by obtain⟨st,h⟩:=h;exact h.slt
theorem CQ.CI(h:CQ H c C w):w.cs.length≤65536:=by obtain⟨st,h⟩:=h;exact h.CI
theorem CQ.EW(h:CQ H c C w):w.hs.length≤65537:=by obtain⟨st,h⟩:=h;exact h.EW
theorem CQ.home(h:CQ H c C w):∀x∈w.cs,0≤x.1∧x.1<w.hs.length:=by obtain⟨st,h⟩:=h;exact h.home
theorem CQ.live(h:CQ H c C w):∀x∈w.cs,0<x.1→w.hs[x.1.toNat]? =some true:=by obtain⟨st,h⟩:=h;exact h.live
theorem CQ.hm(h:CQ H c C w)(x:Int):0≤aF w x∧(0<aF w x→w.has (aF w x)∧aF w x<w.hs.length):=by
 by_cases h0:0<aF w x
 ·obtain⟨h1,h2,e,he⟩:=aG h0
  have hm:=aou he
  have:=h.home _ hm
  have hl:=h.live _ hm h0
  exact⟨by omega,fun _=>⟨⟨by omega,hl⟩,this.2⟩⟩
 ·refine⟨?_,by omega⟩
  unfold aF
  split
  ·rw[aon]
   cases hc:w.cs[x.toNat]? with
   |none=>grind
   |some y=>exact(h.home y (by grind)).1
  omega
theorem CQ.pos(h:CQ H c C w):0<w.hs.length:=by
 obtain⟨st,cs,len,rt,aQ,h1,h2⟩:=h
 exact(aoj.1 h2.h0).1
theorem cA(h:CQ H c C w)(a b:Int):ag Tryz.prog cP [ptr c,i64 a,i64 b] H fun v H'=>ap (v= .bool (w.ahead a b)∧CQ H' c C w∧ah C H H'):=by
 obtain⟨st,h⟩:=h
 refine(jL h a b).mono ?_
 rintro v H' ⟨h1,h2,h3⟩
 exact⟨h1,⟨_,h2⟩,h3⟩
theorem fe(h:CQ H c C w)(i:Int):ag Tryz.prog bK [ptr c,i64 i] H fun v H'=>ap (v=i64 (w.len i)∧H=H'):=by
 obtain⟨st,h⟩:=h
 exact iu h i
theorem iZ(h:CQ H c C w)(i:Int):ag Tryz.prog bJ [ptr c,i64 i] H fun v H'=>ap (v= .bool (decide (w.has i))∧H=H'):=by
 obtain⟨st,h⟩:=h
 exact it h i
theorem jM(h:CQ H c C w):ag Tryz.prog dN [ptr c] H fun v H'=>ap (
  (w.hs.length=65537∧v=i64 0∧H=H')∨(w.hs.length≠65537∧v=i64 w.hs.length∧∃C',CQ H' c C' w.make∧ah C H H'∧∀x,C' x→C x∨H.size≤x)):=by
 obtain⟨st,h⟩:=h
 refine(kU h).mono ?_
 rintro v H' (h1| ⟨h1,h2,S',h3,h4⟩)
 ·exact .inl h1
 ·exact .inr ⟨h1,h2,S',⟨_,h3⟩,h4⟩
theorem lY(h:CQ H c C w)(g i k s:Int):ag Tryz.prog jy [ptr c,i64 g,i64 i,tE k s] H fun v H'=>ap (
  (¬ (w.has g∧(0≤i∧i<w.cs.length)∧¬cI w.cs i)∧v= .bool false∧CQ H' c C w∧ah C H H')∨
  ((w.has g∧(0≤i∧i<w.cs.length)∧¬cI w.cs i)∧v= .bool true∧CQ H' c C (w.put i (g,k,s))∧ah C H H')):=by
 obtain⟨st,h⟩:=h
 refine(mu h g i k s).mono ?_
 rintro v H' (⟨h1,h2,h3,h4⟩| ⟨h1,h2,h3,h4⟩)
 ·exact .inl ⟨h1,h2,⟨_,h3⟩,h4⟩
 ·exact .inr ⟨h1,h2,⟨_,h3⟩,h4⟩
theorem bI(h:CQ H c C w)(i:Int):ag Tryz.prog bC [ptr c,i64 i] H fun v H'=>ap (
  (¬cI w.cs i∧v= .tuple [i64 0,.bool false].toArray∧H=H')∨(cI w.cs i∧v= .tuple [i64 (aF w i),.bool true].toArray∧CQ H' c C w∧ah C H H')):=by
 obtain⟨st,h⟩:=h
 refine(cY h i).mono ?_
 rintro v H' (h1| ⟨h1,x,hx,h2,h3,h4⟩)
 ·exact .inl h1
 ·exact .inr ⟨h1,by rw[h2,kX h1.1 hx],⟨_,h3⟩,h4⟩
theorem ic(h:CQ H c C w)(i:Int):ag Tryz.prog bj [ptr c,i64 i] H fun v H'=>ap (CQ H' c C w∧ai H H'∧(
  (¬cI w.cs i∧v= .tuple [tE 0 0,.bool false].toArray)∨(cI w.cs i∧∃x,w.cs[i.toNat]? =some x∧v= .tuple [tE x.2.1 x.2.2,.bool true].toArray))):=by
 obtain⟨st,h⟩:=h
 refine(jJ h i).mono ?_
 rintro v H' ⟨h1,h2,h3⟩
 exact⟨⟨_,h1⟩,h2,h3⟩
theorem ce(h:CQ H c C w)(i:Int):ag Tryz.prog iH [ptr c,i64 i] H fun v H'=>ap (
  (¬cI w.cs i∧v= .bool false∧H=H')∨(cI w.cs i∧v= .bool true∧CQ H' c C (w.put i (0,0,0))∧ah C H H')):=by
 obtain⟨st,h⟩:=h
 refine(kV h i).mono ?_
 rintro v H' (h1| ⟨h1,h2,h3,h4⟩)
 ·exact .inl h1
 ·exact .inr ⟨h1,h2,⟨_,h3⟩,h4⟩
theorem ie(h:CQ H c C w)(i k s:Int):ag Tryz.prog gT [ptr c,i64 i,tE k s] H fun v H'=>ap (
  (¬ (cI w.cs i∧∀x,w.cs[i.toNat]? =some x→¬fQ x.2.1 x.2.2 k s)∧v= .bool false∧CQ H' c C w∧ai H H')∨
  (cI w.cs i∧v= .bool true∧∃x,w.cs[i.toNat]? =some x∧¬fQ x.2.1 x.2.2 k s∧CQ H' c C (w.put i (x.1,k,s))∧ah C H H')):=by
 obtain⟨st,h⟩:=h
 refine(jK h i k s).mono ?_
 rintro v H' (⟨h1,h2,h3,h4⟩| ⟨h1,h2,x,h3,h4,h5,h6⟩)
 ·exact .inl ⟨h1,h2,⟨_,h3⟩,h4⟩
 ·exact .inr ⟨h1,h2,x,h3,h4,⟨_,h5⟩,h6⟩
theorem jN(h:CQ H c C w)(a b:Int):ag Tryz.prog iI [ptr c,i64 a,i64 b] H fun v H'=>ap (
  (¬ (w.has a∧w.has b∧a≠b)∧v= .bool false∧H=H')∨((w.has a∧w.has b∧a≠b)∧v= .bool true∧CQ H' c C (w.join a b)∧ah C H H')):=by
 obtain⟨st,h⟩:=h
 refine(kW h a b).mono ?_
 rintro v H' (h1| ⟨h1,h2,h3,h4⟩)
 ·exact .inl h1
 ·exact .inr ⟨h1,h2,⟨_,h3⟩,h4⟩
end
theorem lZ(cap:Int)(H:Hp):ag Tryz.prog uV [i64 cap] H fun v H'=>ap (
  ai H H'∧((¬ (0≤cap∧cap≤65536)∧v= .tuple [.pointer none,i64 31].toArray)∨
   (0≤cap∧cap≤65536)∧∃c C,v= .tuple [ptr c,i64 0].toArray∧CQ H' c C ⟨[false],List.replicate cap.toNat (0,0,0)⟩∧(∀x,C x→H.size≤x))):=by
 refine(mr cap H).mono ?_
 rintro v H' ⟨h1,h2| ⟨h2,c,C,h3,h4,h5⟩⟩
 ·exact⟨h1,.inl h2⟩
 ·exact⟨h1,.inr ⟨h2,c,C,h3,⟨_,h4⟩,h5⟩⟩
theorem gw{w:Nw}{a b:Int}(ha:0<aF w a)(hb:0<aF w b):w.ahead a b=aP w a b:=Dp (bB.1 ha) (bB.1 hb)
def aM(tops:List Int)(h:Int):Int:=if 0≤h then tops.getD h.toNat (-1)else -1
theorem cf{tops:List Int}{h:Int}(h0:0≤h)(hl:h<tops.length):tops[h.toNat]? =some (aM tops h):=by
 grind [aM]
theorem cX{tops:List Int}{h:Int}(h0:0≤h)(hl:h<tops.length)(x:Int):aM (tops.set h.toNat x)=cR (aM tops) h x:=by
 grind [cR,aM]
theorem BU(tops:List Int):aM (tops++[-1])=aM tops:=by
 grind [aM]
end Go.Proofs.YtjkkkibiegfecaaGreatDoor

namespace Go.Proofs.YtjkkkibiegfecaaGreatDoor
open Go Go.Vc
structure Lk where
 a:Int
 b:Int
 u:Int
def ON(y:Lk):List Value:=[i64 y.a,i64 y.b,i64 y.u]
def aN(L:List Lk):List Value:=L.flatMap ON
theorem ja(L:List Lk):(aN L).length=L.length*3:=by
 induction L with
 |nil=>rfl
 |cons c r ih=>simp only[aN,List.flatMap_cons,aos,ON,aop,aoH]at*;omega
def Lk.uM(y:Lk)(c:Bool):Int:=if c then y.b else y.a
def Lk.gz(y:Lk)(c:Bool)(v:Int):Lk:=if c then⟨y.a,v,y.u⟩else⟨v,y.b,y.u⟩
theorem Lk.Va(y:Lk)(c d:Bool)(v:Int):(y.gz c v).uM d=if d=c then v else y.uM d:=by cases c<;>cases d<;>rfl
theorem Lk.abl(y:Lk)(c:Bool)(v:Int):(y.gz c v).u=y.u:=by cases c<;>rfl
theorem PO{L:List Lk}{i:Nat}{y:Lk}(hi:L[i]? =some y):(aN L)[i*3]? =some (i64 y.a)∧(aN L)[i*3+1]? =some (i64 y.b)∧(aN L)[i*3+2]? =some (i64 y.u):=by
 induction L generalizing i with
 |nil=>grind
 |cons a r ih=>
  have e:aN (a::r)=i64 a.a::i64 a.b::i64 a.u::aN r:=rfl
  grind
theorem Xw{L:List Lk}{i:Nat}{y:Lk}(hi:L[i]? =some y)(c:Bool):(aN L)[i*3+c.toNat]? =some (i64 (y.uM c)):=by
 obtain⟨h1,h2,h3⟩:=PO hi
 cases c
 ·exact h1
 ·exact h2
theorem wO{L:List Lk}{i:Nat}{y:Lk}(hi:L[i]? =some y)(c:Bool)(v:Int):(aN L).set (i*3+c.toNat) (i64 v)=aN (L.set i (y.gz c v)):=by
 induction L generalizing i with
 |nil=>rfl
 |cons a r ih=>
  have e:aN (a::r)=i64 a.a::i64 a.b::i64 a.u::aN r:=rfl
  cases i with
  |zero=>
   simp at hi;subst hi
   cases c<;>rfl
  |succ i=>
   have e2:aN ((a::r).set (i+1) (y.gz c v))=i64 a.a::i64 a.b::i64 a.u::aN (r.set i (y.gz c v)):=rfl
   grind
theorem GX{L:List Lk}{i:Nat}{y:Lk}(hi:L[i]? =some y)(v:Int):(aN L).set (i*3+2) (i64 v)=aN (L.set i ⟨y.a,y.b,v⟩):=by
 induction L generalizing i with
 |nil=>rfl
 |cons a r ih=>
  have e:aN (a::r)=i64 a.a::i64 a.b::i64 a.u::aN r:=rfl
  cases i with
  |zero=>simp at hi;subst hi;rfl
  |succ i=>
   have e2:aN ((a::r).set (i+1) ⟨y.a,y.b,v⟩)=i64 a.a::i64 a.b::i64 a.u::aN (r.set i ⟨y.a,y.b,v⟩):=rfl
   grind
def bh(L:List Lk)(x:Int)(c:Bool):Int:=if 0≤x then(match L[x.toNat]? with|some y=>y.uM c|none=> -1)else -1
def br(L:List Lk)(x:Int):Int:=if 0≤x then(match L[x.toNat]? with|some y=>y.u|none=> -1)else -1
theorem sV{L:List Lk}{x:Int}{y:Lk}(h0:0≤x)(h:L[x.toNat]? =some y)(c:Bool):bh L x c=y.uM c:=by unfold bh;grind
theorem vP{L:List Lk}{x:Int}{y:Lk}(h0:0≤x)(h:L[x.toNat]? =some y):br L x=y.u:=by unfold br;grind
theorem Xx{L:List Lk}{x:Int}(h:¬ (0≤x∧x<L.length))(c:Bool):bh L x c= -1:=by
 grind [bh]
theorem OO{L:List Lk}{x:Int}(h:¬ (0≤x∧x<L.length)):br L x= -1:=by
 unfold br
 grind
theorem sW{L:List Lk}{p:Int}{y:Lk}(h0:0≤p)(h:L[p.toNat]? =some y)(c:Bool)(v:Int):bh (L.set p.toNat (y.gz c v))=eV (bh L) p c v:=by
 have bf:=(aoj.1 h).1
 funext z d
 unfold eV
 by_cases hz:z=p
 ·subst hz
  rw[sV h0 (aot bf),Lk.Va,sV h0 h]
  grind
 ·rw[if_neg (fun h=>hz h.1)]
  unfold bh
  grind
theorem sX{L:List Lk}{p:Int}{y:Lk}(h0:0≤p)(h:L[p.toNat]? =some y)(c:Bool)(v:Int):br (L.set p.toNat (y.gz c v))=br L:=by
 have bf:=(aoj.1 h).1
 funext z
 by_cases hz:z=p
 ·subst hz
  rw[vP h0 (aot bf),Lk.abl,vP h0 h]
 ·unfold br
  grind
theorem Dq{L:List Lk}{p:Int}{y:Lk}(h0:0≤p)(h:L[p.toNat]? =some y)(v:Int):bh (L.set p.toNat ⟨y.a,y.b,v⟩)=bh L:=by
 have bf:=(aoj.1 h).1
 funext z d
 by_cases hz:z=p
 ·subst hz
  rw[sV h0 (aot bf),sV h0 h]
  rfl
 ·unfold bh
  grind
theorem Dr{L:List Lk}{p:Int}{y:Lk}(h0:0≤p)(h:L[p.toNat]? =some y)(v:Int):br (L.set p.toNat ⟨y.a,y.b,v⟩)=aJ (br L) p v:=by
 have bf:=(aoj.1 h).1
 funext z
 unfold aJ
 by_cases hz:z=p
 ·subst hz
  rw[vP h0 (aot bf),if_pos rfl]
 ·rw[if_neg hz]
  unfold br
  grind
structure bW(H:Hp)(t tl:Nat)(L:List Lk):Prop where
 own:H.own t=some [.slice (some ⟨tl,0,none⟩) L.length L.length]
 l9:H.own tl=some (aN L)
 ne:t≠tl
theorem bW.ext{S:Nat→Prop}{H H':Hp}{t tl:Nat}{L:List Lk}(h:bW H t tl L)(e:ah S H H')(h1:¬S t)(h2:¬S tl):bW H' t tl L:=⟨e.own h.own h1,e.own h.l9 h2,h.ne⟩
theorem bW.fresh{H H':Hp}{t tl:Nat}{L:List Lk}(h:bW H t tl L)(e:ai H H'):bW H' t tl L:=h.ext e (fun h=>h) (fun h=>h)
theorem bW.put{H:Hp}{t tl:Nat}{L L':List Lk}(h:bW H t tl L)(hl:L'.length=L.length):bW (H.wr tl (aN L')) t tl L':=
 ⟨by rw[fH h.ne.symm,hl];exact h.own,af h.l9,h.ne⟩
section
variable {H : Hp} {t tl : Nat} {L : List Lk}
theorem gA(h:bW H t tl L)(x:Int):ag Tryz.prog Bg [ptr t,i64 x] H fun v H'=>ap (v= .bool (decide (0≤x∧x<L.length))∧H'=H):=by
 refine aU BH ?_
 refine vs ?_
 refine ar.dec (fun g=>?_) (fun g=>?_)<;>refine v1 (ae h.own) ?_
 ·exact⟨by grind [Kf],rfl⟩
 ·exact⟨by grind [Kf],rfl⟩
theorem my(H:Hp)(c:Bool):ag Tryz.prog Ku [.bool c] H fun v H'=>ap (v=i64 c.toNat∧H'=H):=by
 refine aU KE ?_
 refine vs ?_
 cases c<;>refine vs ?_<;>exact⟨rfl,rfl⟩
def gQ(x:Int):Value:=if x= -1 then .tuple [i64 0,.bool false].toArray else .tuple [i64 x,.bool true].toArray
theorem mz(H:Hp)(x:Int):ag Tryz.prog Kv [i64 x] H fun v H'=>ap (v=gQ x∧H'=H):=by
 refine aU KF ?_
 refine vs ?_
 unfold gQ
 refine ar.dec (fun g=>?_) (fun g=>?_)<;>refine vs ?_
 ·rw[if_pos g];exact⟨rfl,rfl⟩
 ·rw[if_neg g];exact⟨rfl,rfl⟩
theorem jO(h:bW H t tl L)(x:Int)(c:Bool):ag Tryz.prog Bf [ptr t,i64 x,.bool c] H fun v H'=>ap (v=i64 (bh L x c)∧H'=H):=by
 refine aU BG ?_
 refine vs ?_
 refine(gA h x).mono ?_
 rintro _ H' ⟨rfl,e⟩
 obtain rfl:=e.symm
 refine vs ?_
 refine ar.dec (fun g=>?_) (fun g=>?_)<;>refine vs ?_
 ·obtain⟨y,hy⟩:∃y,L[x.toNat]? =some y:=⟨_,aol (by omega)⟩
  have hk:=Xw hy c
  have hc:c.toNat<2:=by cases c<;>decide
  refine v1 (ae h.own) ?_
  refine⟨_,my H c,?_⟩
  refine⟨by omega,?_⟩
  refine v4 aoi Nat.add_zero aok Int.toNat_natCast ?_
  refine⟨by omega,?_⟩
  refine v6 (ae h.l9) aoi Nat.add_zero aok Int.toNat_natCast hk ?_
  rw[sV g.1 hy]
  exact⟨rfl,rfl⟩
 ·rw[Xx g]
  exact⟨rfl,rfl⟩
theorem kZ(h:bW H t tl L)(x:Int):ag Tryz.prog xm [ptr t,i64 x] H fun v H'=>ap (v=i64 (br L x)∧H'=H):=by
 refine aU xU ?_
 refine vs ?_
 refine(gA h x).mono ?_
 rintro _ H' ⟨rfl,e⟩
 obtain rfl:=e.symm
 refine vs ?_
 refine ar.dec (fun g=>?_) (fun g=>?_)<;>refine vs ?_
 ·obtain⟨y,hy⟩:∃y,L[x.toNat]? =some y:=⟨_,aol (by omega)⟩
  have hk:=(PO hy).2.2
  refine v1 (ae h.own) ?_
  refine⟨by omega,?_⟩
  refine v3 (ae h.l9) aoi hk ?_
  rw[vP g.1 hy]
  exact⟨rfl,rfl⟩
 ·rw[OO g]
  exact⟨rfl,rfl⟩
theorem mA(h:bW H t tl L)(x:Int):ag Tryz.prog zp [ptr t,i64 x] H fun v H'=>ap (v=gQ (bh L x false)∧H'=H):=by
 refine aU zS ?_
 refine vs ?_
 refine(jO h x false).mono ?_
 rintro _ H' ⟨rfl,e⟩
 obtain rfl:=e.symm
 refine vs ?_
 refine(mz H (bh L x false)).mono ?_
 rintro _ H' ⟨rfl,e⟩
 obtain rfl:=e.symm
 unfold gQ
 by_cases g:bh L x false= -1
 ·simp only[if_pos g]
  refine vs ?_
  exact⟨(if_pos g).symm,rfl⟩
 ·simp only[if_neg g]
  refine vs ?_
  exact⟨(if_neg g).symm,rfl⟩
theorem cG(h:bW H t tl L)(x:Int):ag Tryz.prog xl [ptr t,i64 x] H fun v H'=>ap (v=gQ (bh L x true)∧H'=H):=by
 refine aU xT ?_
 refine vs ?_
 refine(jO h x true).mono ?_
 rintro _ H' ⟨rfl,e⟩
 obtain rfl:=e.symm
 refine vs ?_
 refine(mz H (bh L x true)).mono ?_
 rintro _ H' ⟨rfl,e⟩
 obtain rfl:=e.symm
 unfold gQ
 by_cases g:bh L x true= -1
 ·simp only[if_pos g]
  refine vs ?_
  exact⟨(if_pos g).symm,rfl⟩
 ·simp only[if_neg g]
  refine vs ?_
  exact⟨(if_neg g).symm,rfl⟩
theorem pZ(h:bW H t tl L)(x:Int):ag Tryz.prog C0 [ptr t,i64 x] H fun v H'=>ap (v=gQ (br L x)∧H'=H):=by
 refine aU C9 ?_
 refine vs ?_
 refine(kZ h x).mono ?_
 rintro _ H' ⟨rfl,e⟩
 obtain rfl:=e.symm
 refine vs ?_
 refine(mz H (br L x)).mono ?_
 rintro _ H' ⟨rfl,e⟩
 obtain rfl:=e.symm
 unfold gQ
 by_cases g:br L x= -1
 ·simp only[if_pos g]
  refine vs ?_
  exact⟨(if_pos g).symm,rfl⟩
 ·simp only[if_neg g]
  refine vs ?_
  exact⟨(if_neg g).symm,rfl⟩
theorem fA(h:bW H t tl L){p x:Int}{c:Bool}(hp:0≤p∧p<L.length)(hx:0≤x∧x<L.length)(gE:p≠x)(hu:br L x= -1)(hk:bh L p c= -1):
  ag Tryz.prog zq [ptr t,i64 p,i64 x,.bool c] H fun v H'=>ap (v= .bool true∧∃L',bW H' t tl L'∧L'.length=L.length∧bh L'=uL (bh L) p x c∧br L'=aJ (br L) x p∧ah (fun z=>z=tl) H H'):=by
 refine aU zT ?_
 refine vs ?_
 refine(gA h p).mono ?_
 rintro _ H' ⟨rfl,e⟩
 obtain rfl:=e.symm
 rw[aov hp]
 refine vs ?_
 refine(gA h x).mono ?_
 rintro _ H' ⟨rfl,e⟩
 obtain rfl:=e.symm
 rw[aov hx]
 refine vs ?_
 refine ar.dec (fun g=>absurd g gE) (fun _=>?_)
 refine vs ?_
 refine(kZ h x).mono ?_
 rintro _ H' ⟨rfl,e⟩
 obtain rfl:=e.symm
 rw[hu]
 refine v1 aoE ?_
 refine(jO h p c).mono ?_
 rintro _ H' ⟨rfl,e⟩
 obtain rfl:=e.symm
 rw[hk]
 refine v1 aoE ?_
 obtain⟨y,hy⟩:∃y,L[p.toNat]? =some y:=⟨_,aol (by omega)⟩
 have hc:c.toNat<2:=by cases c<;>decide
 have rl:=ja L
 refine v1 (ae h.own) ?_
 refine⟨_,my H c,?_⟩
 refine⟨by omega,?_⟩
 refine v4 aoi Nat.add_zero aok Int.toNat_natCast ?_
 refine⟨by omega,?_⟩
 refine v5 h.l9 aoi Nat.add_zero aok Int.toNat_natCast ?_
 refine⟨by omega,?_⟩
 have h1:=h.put (L':=L.set p.toNat (y.gz c x)) (by grind)
 have e1:ah (fun z=>z=tl) H (H.wr tl (aN (L.set p.toNat (y.gz c x)))):=(ah.refl (fun z=>z=tl) _).wr (fun _=>rfl) _
 rw[←wO hy c x]at h1 e1
 have k1:=sW hp.1 hy c x
 have u1:=sX hp.1 hy c x
 have l1:(L.set p.toNat (y.gz c x)).length=L.length:=aom ..
 generalize L.set p.toNat (y.gz c x)=L1 at*
 refine vs ?_
 generalize H.wr tl ((aN L).set (p.toNat*3+c.toNat) (i64 x))=H1 at*
 obtain⟨y1,V6⟩:∃y,L1[x.toNat]? =some y:=by grind
 have afb:=ja L1
 refine v1 (ae h1.own) ?_
 refine⟨by omega,?_⟩
 refine v2 h1.l9 aoi ?_
 refine⟨by omega,?_⟩
 have h2:=h1.put (L':=L1.set x.toNat ⟨y1.a,y1.b,p⟩) (by grind)
 have e2:ah (fun z=>z=tl) H1 (H1.wr tl (aN (L1.set x.toNat ⟨y1.a,y1.b,p⟩))):=(ah.refl (fun z=>z=tl) _).wr (fun _=>rfl) _
 rw[←GX V6 p]at h2 e2
 refine vs ?_
 exact⟨rfl,_,h2,by grind,by rw[Dq hx.1 V6,k1];rfl,by rw[Dr hx.1 V6,u1],e1.trans e2⟩
theorem cK(h:bW H t tl L){x:Int}(hv:br L x≠ -1→0≤br L x∧br L x<L.length):
  ag Tryz.prog Be [ptr t,i64 x] H fun v H'=>ap (v=gQ (br L x)∧∃L',bW H' t tl L'∧L'.length=L.length∧bh L'=jm (bh L) (br L) x∧br L'=dh (br L) x∧ah (fun z=>z=tl) H H'):=by
 refine aU BF ?_
 refine vs ?_
 refine(kZ h x).mono ?_
 rintro _ H' ⟨rfl,e⟩
 obtain rfl:=e.symm
 refine vs ?_
 have rl:=ja L
 refine ar.dec (fun g=>?_) (fun g=>?_)<;>refine vs ?_
 ·refine⟨by unfold gQ;rw[if_pos g];rfl,L,h,rfl,by unfold jm;grind,?_,ah.refl _ _⟩
  funext z
  unfold dh aJ
  grind
 have hx:0≤x∧x<L.length:=aoA fun hn=>g (OO hn)
 obtain⟨p0,p1⟩:=hv g
 generalize hpe:br L x=p at*
 obtain⟨y,hy⟩:∃y,L[p.toNat]? =some y:=⟨_,aol (by omega)⟩
 have hc:∀c:Bool,c.toNat<2:=fun c=>by cases c<;>decide
 refine v1 (ae h.own) ?_
 refine⟨_,jO h p true,?_⟩
 refine vs ?_
 refine⟨_,my H (decide (bh L p true=x)),?_⟩
 have Zy:decide (bh L p true=x)=(bh L p true==x):=by rfl
 rw[Zy]
 have Nj:=hc (bh L p true==x)
 generalize hce:(bh L p true==x)=c at*
 refine⟨by omega,?_⟩
 refine v4 aoi Nat.add_zero aok Int.toNat_natCast ?_
 refine⟨⟨by omega,by omega⟩,?_⟩
 refine v5 h.l9 aoi Nat.add_zero aok Int.toNat_natCast ?_
 refine⟨by omega,?_⟩
 have h1:=h.put (L':=L.set p.toNat (y.gz c (-1))) (by grind)
 have e1:ah (fun z=>z=tl) H (H.wr tl (aN (L.set p.toNat (y.gz c (-1))))):=(ah.refl (fun z=>z=tl) _).wr (fun _=>rfl) _
 rw[←wO hy c (-1)]at h1 e1
 have k1:=sW p0 hy c (-1)
 have u1:=sX p0 hy c (-1)
 have l1:(L.set p.toNat (y.gz c (-1))).length=L.length:=aom ..
 generalize L.set p.toNat (y.gz c (-1))=L1 at*
 refine vs ?_
 generalize H.wr tl ((aN L).set (p.toNat*3+c.toNat) (i64 (-1)))=H1 at*
 obtain⟨y1,V6⟩:∃y,L1[x.toNat]? =some y:=by grind
 have afb:=ja L1
 refine v1 (ae h1.own) ?_
 refine⟨by omega,?_⟩
 refine v2 h1.l9 aoi ?_
 refine⟨by omega,?_⟩
 have h2:=h1.put (L':=L1.set x.toNat ⟨y1.a,y1.b, -1⟩) (by grind)
 have e2:ah (fun z=>z=tl) H1 (H1.wr tl (aN (L1.set x.toNat ⟨y1.a,y1.b, -1⟩))):=(ah.refl (fun z=>z=tl) _).wr (fun _=>rfl) _
 rw[←GX V6 (-1)]at h2 e2
 refine vs ?_
 refine⟨by unfold gQ;rw[if_neg g];rfl,_,h2,by grind,?_,by rw[Dr hx.1 V6,u1];rfl,e1.trans e2⟩
 rw[Dq hx.1 V6,k1]
 unfold jm
 grind
theorem SO{L:List Lk}{p:Int}{y:Lk}(h0:0≤p)(h:L[p.toNat]? =some y):bh (L.set p.toNat ⟨y.b,y.a,y.u⟩)=nN (bh L) p∧br (L.set p.toNat ⟨y.b,y.a,y.u⟩)=br L:=by
 have bf:=(aoj.1 h).1
 constructor
 ·funext z d
  unfold nN
  by_cases hz:z=p
  ·subst hz
   rw[sV h0 (aot bf),if_pos rfl,sV h0 h]
   cases d<;>rfl
  ·rw[if_neg hz]
   unfold bh
   split
   ·rw[aor (by omega)]
   ·rfl
 ·funext z
  by_cases hz:z=p
  ·subst hz
   rw[vP h0 (aot bf),vP h0 h]
  ·unfold br
   grind
theorem OP{L:List Lk}{i:Nat}{y:Lk}(hi:L[i]? =some y):((aN L).set (i*3) (i64 y.b)).set (i*3+1) (i64 y.a)=aN (L.set i ⟨y.b,y.a,y.u⟩):=by
 induction L generalizing i with
 |nil=>rfl
 |cons a r ih=>
  have e:aN (a::r)=i64 a.a::i64 a.b::i64 a.u::aN r:=rfl
  cases i with
  |zero=>simp at hi;subst hi;rfl
  |succ i=>
   have e2:aN ((a::r).set (i+1) ⟨y.b,y.a,y.u⟩)=i64 a.a::i64 a.b::i64 a.u::aN (r.set i ⟨y.b,y.a,y.u⟩):=rfl
   grind
theorem mB(h:bW H t tl L){p:Int}(hp:0≤p∧p<L.length):
  ag Tryz.prog zr [ptr t,i64 p] H fun v H'=>ap (v= .bool true∧∃L',bW H' t tl L'∧L'.length=L.length∧bh L'=nN (bh L) p∧br L'=br L∧ah (fun z=>z=tl) H H'):=by
 refine aU zU ?_
 refine vs ?_
 refine(gA h p).mono ?_
 rintro _ H' ⟨rfl,e⟩
 obtain rfl:=e.symm
 rw[aov hp]
 obtain⟨y,hy⟩:∃y,L[p.toNat]? =some y:=⟨_,aol (by omega)⟩
 have rl:=ja L
 obtain⟨a1,a2,a3⟩:=PO hy
 refine v1 (ae h.own) ?_
 refine⟨by omega,?_⟩
 refine vs ?_
 have n1:Int.toNat 1=1:=rfl
 refine⟨by omega,?_⟩
 refine v8 (ae h.l9) aoi Nat.add_zero aok Int.toNat_zero n1 a1 a2 ?_
 refine⟨by omega,?_⟩
 refine v8 (ae h.l9) aoi Nat.add_zero aok Int.toNat_zero n1 a1 a2 ?_
 refine⟨by omega,?_⟩
 refine v6 h.l9 aoi Nat.add_zero aok Int.toNat_zero n1 ?_
 refine⟨by omega,?_⟩
 refine vs ?_
 refine⟨by omega,?_⟩
 have o1:(H.wr tl ((aN L).set (p.toNat*3) (i64 y.b))).own tl=_:=af h.l9
 have e1:ah (fun z=>z=tl) H (H.wr tl ((aN L).set (p.toNat*3) (i64 y.b))):=(ah.refl (fun z=>z=tl) _).wr (fun _=>rfl) _
 have w1:=e1.own h.own h.ne
 generalize H.wr tl ((aN L).set (p.toNat*3) (i64 y.b))=H1 at*
 refine v6 o1 aoi Nat.add_zero aok Int.toNat_zero n1 ?_
 refine⟨by grind,?_⟩
 have e2:ah (fun z=>z=tl) H1 (H1.wr tl (((aN L).set (p.toNat*3) (i64 y.b)).set (p.toNat*3+1) (i64 y.a))):=(ah.refl (fun z=>z=tl) _).wr (fun _=>rfl) _
 have o2:(H1.wr tl (((aN L).set (p.toNat*3) (i64 y.b)).set (p.toNat*3+1) (i64 y.a))).own tl=_:=af o1
 refine vs ?_
 obtain⟨k1,k2⟩:=SO hp.1 hy
 refine⟨rfl,L.set p.toNat ⟨y.b,y.a,y.u⟩,⟨by rw[aom];exact e2.own w1 h.ne,by rw[←OP hy];exact o2,h.ne⟩,aom ..,k1,k2,e1.trans e2⟩
end
theorem PP(n:Nat):dE [Value.int .i64 0,Value.int .i64 0,Value.int .i64 0] n=aN (List.replicate n ⟨0,0,0⟩):=by
 unfold dE
 induction n with
 |zero=>rfl
 |succ n ih=>grind [aN,ON]
theorem JJ{L:List Lk}{i:Nat}(hi:i<L.length)(y:Lk):aX (aN L) (i*3) [i64 y.a,i64 y.b,i64 y.u]=aN (L.set i y):=by
 simp only[aX]
 induction L generalizing i with
 |nil=>rfl
 |cons a r ih=>
  have e:aN (a::r)=i64 a.a::i64 a.b::i64 a.u::aN r:=rfl
  cases i with
  |zero=>rfl
  |succ i=>
   have e2:aN ((a::r).set (i+1) y)=i64 a.a::i64 a.b::i64 a.u::aN (r.set i y):=rfl
   grind
def k8:Lk:=⟨-1, -1, -1⟩
theorem vQ(H:Hp){n:Int}(hn:0≤n∧n≤65536):ag Tryz.prog Mh [i64 n] H fun v H'=>ap (∃t tl,v= .tuple [ptr t,i64 0].toArray∧bW H' t tl (List.replicate n.toNat k8)∧ai H H'∧H.size≤t∧H.size≤tl):=by
 refine aU Mn ?_
 refine vs ?_
 refine ar.dec (fun g=>absurd g (by omega)) (fun _=>?_)
 refine vs ?_
 refine ar.dec (fun g=>absurd g (by omega)) (fun _=>?_)
 refine vs ?_
 refine⟨by omega,?_⟩
 refine vs ?_
 rw[PP]
 have f0:ai H ((H.new 298 (aN (List.replicate n.toNat ⟨0,0,0⟩))).new 295 [.slice (some ⟨H.size,0,none⟩) n.toNat n.toNat]):=((ah.refl _ _).new _ _).new _ _
 have t0:bW ((H.new 298 (aN (List.replicate n.toNat ⟨0,0,0⟩))).new 295 [.slice (some ⟨H.size,0,none⟩) n.toNat n.toNat]) (H.size+1) H.size (List.replicate n.toNat ⟨0,0,0⟩):=by
  refine⟨?_,?_,by omega⟩
  ·rw[ao5]
   exact aR (by simp only[ak])
  ·rw[bm (by simp only[ak];omega),aA]
 generalize (H.new 298 (aN (List.replicate n.toNat ⟨0,0,0⟩))).new 295 [.slice (some ⟨H.size,0,none⟩) n.toNat n.toNat]=H1 at*
 have ow:=t0.own
 rw[ao5]at ow
 refine bX.intro (fun m env H'=>∃j:Nat,m=n.toNat - j∧j≤n.toNat∧ah (fun z=>z=H.size) H1 H'∧bW H' (H.size+1) H.size (List.replicate j k8++List.replicate (n.toNat - j) ⟨0,0,0⟩)∧
  env=[(4,ptr (H.size+1)),(20,i64 (n.toNat:Nat)),(21,i64 j)]) n.toNat ⟨0,by omega,by omega,ah.refl _ _,t0,rfl⟩ ?_
 rintro m env H2 ⟨j,rfl,hj,e2,t2,rfl⟩
 have rl:=ja (List.replicate j k8++List.replicate (n.toNat - j) (⟨0,0,0⟩:Lk))
 have uG:(List.replicate j k8++List.replicate (n.toNat - j) (⟨0,0,0⟩:Lk)).length=n.toNat:=by simp;omega
 have o2:=t2.own
 rw[uG]at rl o2
 refine vs ?_
 refine ar.dec (fun bf=>?_) (fun bf=>?_)<;>refine vs ?_
 ·first|refine v1 (ae o2) ?_|skip
  refine⟨by omega,?_⟩
  refine v3 t2.l9 aoi Int.toNat_natCast ?_
  refine⟨by omega,?_⟩
  have e3:=JJ (L:=List.replicate j k8++List.replicate (n.toNat - j) (⟨0,0,0⟩:Lk)) (i:=j) (by omega) k8
  have e4:(List.replicate j k8++List.replicate (n.toNat - j) (⟨0,0,0⟩:Lk)).set j k8=List.replicate (j+1) k8++List.replicate (n.toNat - (j+1)) (⟨0,0,0⟩:Lk):=by
   rw[apA _ _ (by simp),ao5,apG,show n.toNat - j=(n.toNat - (j+1))+1 by omega,ao2,apH,apC]
   simp
  rw[e4]at e3
  have t3:=t2.put (L':=List.replicate (j+1) k8++List.replicate (n.toNat - (j+1)) (⟨0,0,0⟩:Lk)) (by grind)
  have e5:ah (fun z=>z=H.size) H1 (H2.wr H.size (aN (List.replicate (j+1) k8++List.replicate (n.toNat - (j+1)) (⟨0,0,0⟩:Lk)))):=e2.wr (fun _=>rfl) _
  rw[show aX (aN (List.replicate j k8++List.replicate (n.toNat - j) (⟨0,0,0⟩:Lk))) (j*3) (aI (Value.agg #[Value.int .i64 (-1),Value.int .i64 (-1),Value.int .i64 (-1)]))=_ from e3]
  refine vs ?_
  rw[wrap64 (n:=(j:Int)+1) (by omega) (by omega)]
  grind
 ·have FF:j=n.toNat:=by omega
  subst FF
  rw[apG,List.replicate_zero,aoO]at t2
  exact⟨_,_,rfl,t2,f0.then e2 (by omega),by omega,by omega⟩
end Go.Proofs.YtjkkkibiegfecaaGreatDoor

namespace Go.Proofs.YtjkkkibiegfecaaGreatDoor
open Go Go.Vc
structure LB where
 n:Nat
 c:Nat
 t:Nat
 tl:Nat
 rk:Nat
 tp:Nat
structure de(H:Hp)(B:LB)(C:Nat→Prop)(w:Nw)(L:List Lk)(rs tops:List Int):Prop where
 own:∃tv,H.own B.n=some [ptr B.c,ptr B.t,.slice (some ⟨B.rk,0,none⟩) rs.length rs.length,tv]∧Sl H 1 tv tops.length (tops.map i64) (some B.tp)
 cells:CQ H B.c C w
 ck:bW H B.t B.tl L
 Ds:H.own B.rk=some (rs.map i64)
 len:L.length=w.cs.length∧rs.length=w.cs.length
 mY:(B.n≠B.t∧B.n≠B.tl∧B.n≠B.rk∧B.n≠B.tp)∧(B.t≠B.tl∧B.t≠B.rk∧B.t≠B.tp)∧(B.tl≠B.rk∧B.tl≠B.tp)∧B.rk≠B.tp
 out:¬C B.n∧¬C B.t∧¬C B.tl∧¬C B.rk∧¬C B.tp
def LB.S(B:LB)(C:Nat→Prop)(z:Nat):Prop:=C z∨z=B.n∨z=B.t∨z=B.tl∨z=B.rk∨z=B.tp
section
variable {H H' : Hp} {B : LB} {C T : Nat → Prop} {w w' : Nw} {L L' : List Lk} {rs tops : List Int}
theorem de.slt(h:de H B C w L rs tops):∀z,B.S C z→z<H.size:=by
 obtain⟨tv,h1,h2⟩:=h.own
 rintro z (hz|rfl|rfl|rfl|rfl|rfl)
 ·exact h.cells.slt z hz
 ·exact aE h1
 ·exact aE h.ck.own
 ·exact aE h.ck.l9
 ·exact aE h.Ds
 ·exact h2.lt
theorem de.ext(h:de H B C w L rs tops)(e:ah T H H')(hd:∀z,B.S C z→¬T z):de H' B C w L rs tops:=by
 obtain⟨tv,h1,h2⟩:=h.own
 exact⟨⟨tv,e.own h1 (hd _ (.inr (.inl rfl))),h2.ext e (fun b hb=>by injection hb with hb;exact hb▸hd _ (.inr (by omega)))⟩,h.cells.ext e (fun x hx=>hd x (.inl hx)),
  h.ck.ext e (hd _ (.inr (.inr (.inl rfl)))) (hd _ (.inr (by omega))),e.own h.Ds (hd _ (.inr (by omega))),h.len,h.mY,h.out⟩
theorem de.fresh(h:de H B C w L rs tops)(e:ai H H'):de H' B C w L rs tops:=h.ext e fun _ _ h=>h
theorem de.aC(h:de H B C w L rs tops)(c1:CQ H' B.c C w')(e:ah C H H')(hl:w'.cs.length=w.cs.length):de H' B C w' L rs tops:=by
 obtain⟨tv,h1,h2⟩:=h.own
 obtain⟨o1,o2,o3,o4,o5⟩:=h.out
 exact⟨⟨tv,e.own h1 o1,h2.ext e (by grind)⟩,c1,h.ck.ext e o2 o3,e.own h.Ds o4,by rw[hl];exact h.len,h.mY,h.out⟩
theorem de.dS(h:de H B C w L rs tops)(t1:bW H' B.t B.tl L')(e:ah (fun z=>z=B.tl) H H')(hl:L'.length=L.length):de H' B C w L' rs tops:=by
 obtain⟨tv,h1,h2⟩:=h.own
 obtain⟨o1,o2,o3,o4,o5⟩:=h.out
 obtain⟨⟨d1,d2,d3,d4⟩,⟨d5,d6,d7⟩,⟨d8,d9⟩,d10⟩:=h.mY
 exact⟨⟨tv,e.own h1 d2,h2.ext e (by grind)⟩,h.cells.ext e (by grind),t1,e.own h.Ds (by omega),by rw[hl];exact h.len,h.mY,h.out⟩
theorem de.OQ(h:de H B C w L rs tops)(i:Nat)(v:Int):de (H.wr B.rk ((rs.map i64).set i (i64 v))) B C w L (rs.set i v) tops∧ah (fun z=>z=B.rk) H (H.wr B.rk ((rs.map i64).set i (i64 v))):=by
 obtain⟨tv,h1,h2⟩:=h.own
 obtain⟨o1,o2,o3,o4,o5⟩:=h.out
 obtain⟨⟨d1,d2,d3,d4⟩,⟨d5,d6,d7⟩,⟨d8,d9⟩,d10⟩:=h.mY
 have e:ah (fun z=>z=B.rk) H (H.wr B.rk ((rs.map i64).set i (i64 v))):=(ah.refl (fun z=>z=B.rk) _).wr (fun _=>rfl) _
 refine⟨⟨⟨tv,by rw[aom];exact e.own h1 d3,h2.ext e (by grind)⟩,h.cells.ext e (by grind),h.ck.ext e (by omega) (by omega),?_,by cases h;grind,h.mY,h.out⟩,e⟩
 rw[aoN]
 exact af h.Ds
theorem de.dZ(h:de H B C w L rs tops):∃c l,H.own B.n=some [ptr B.c,ptr B.t,.slice (some ⟨B.rk,0,none⟩) rs.length rs.length,.slice (some ⟨B.tp,0,none⟩) tops.length c]∧H.own B.tp=some l∧tops.length≤c∧c≤l.length∧l.take tops.length=tops.map i64:=by
 obtain⟨tv,h1,_,l,c,rfl,h3,h4,h5,h6⟩:=h.own
 grind
theorem de.cT(h:de H B C w L rs tops){l:List Value}(hl:H.own B.tp=some l){i:Nat}{x:Int}(hx:tops[i]? =some x):l[i]? =some (i64 x):=by
 obtain⟨c,l',_,h2,_,_,h5⟩:=h.dZ
 rw[hl]at h2
 injection h2 with h2
 subst h2
 have h7:(tops.map i64)[i]? =some (i64 x):=by rw[aoF,hx];rfl
 grind
theorem de.fR(h:de H B C w L rs tops){l:List Value}(hl:H.own B.tp=some l)(i:Nat)(v:Int):de (H.wr B.tp (l.set i (i64 v))) B C w L rs (tops.set i v)∧ah (fun z=>z=B.tp) H (H.wr B.tp (l.set i (i64 v))):=by
 obtain⟨c,l',h1,h2,h3,h4,h5⟩:=h.dZ
 rw[hl]at h2
 injection h2 with h2
 subst h2
 obtain⟨o1,o2,o3,o4,o5⟩:=h.out
 obtain⟨⟨d1,d2,d3,d4⟩,⟨d5,d6,d7⟩,⟨d8,d9⟩,d10⟩:=h.mY
 have e:ah (fun z=>z=B.tp) H (H.wr B.tp (l.set i (i64 v))):=(ah.refl (fun z=>z=B.tp) _).wr (fun _=>rfl) _
 refine⟨⟨⟨_,e.own h1 d4,?_⟩,h.cells.ext e (by grind),h.ck.ext e (by omega) (by omega),e.own h.Ds (by omega),h.len,h.mY,h.out⟩,e⟩
 refine⟨by simp,l.set i (i64 v),c,by grind,af hl,by grind,by grind,?_⟩
 rw[aom,aok,wK,h5,aoN]
theorem cH(H:Hp)(x:Int):∀ (a:Int) (b:Bool),gQ x= .tuple [i64 a,.bool b].toArray→ag Tryz.prog Iu [i64 a,.bool b] H fun v H'=>ap (v=i64 x∧H'=H):=by
 intro a b he
 unfold gQ at he
 refine aU II ?_
 refine vs ?_
 have h2:∀ {p q:Int} {r s:Bool},Value.tuple [i64 p,Value.bool r].toArray=Value.tuple [i64 q,Value.bool s].toArray→p=q∧r=s:=by grind
 split at he
 ·rename_i hx
  obtain⟨rfl,rfl⟩:=h2 he
  refine vs ?_
  rw[hx]
  exact⟨rfl,rfl⟩
 ·obtain⟨rfl,rfl⟩:=h2 he
  refine vs ?_
  exact⟨rfl,rfl⟩
theorem cM(x:Int):∃ (a:Int) (b:Bool),gQ x= .tuple [i64 a,.bool b].toArray:=by
 unfold gQ
 split
 ·grind
 grind
def Zz(rs:List Int)(x:Int):Int:=if x= -1 then 0 else rs.getD x.toNat 0
theorem eU(h:de H B C w L rs tops){x:Int}(hx:x≠ -1→0≤x∧x<w.cs.length):ag Tryz.prog ua [ptr B.n,i64 x] H fun v H'=>ap (v=i64 (Zz rs x)∧H'=H):=by
 obtain⟨tv,h1,h2⟩:=h.own
 have hl:=h.len
 refine aU uq ?_
 refine vs ?_
 refine ar.dec (fun g=>?_) (fun g=>?_)<;>refine vs ?_
 ·unfold Zz
  rw[if_pos g]
  exact⟨rfl,rfl⟩
 have hx:=hx g
 have hr:(rs.map i64)[x.toNat]? =some (i64 (Zz rs x)):=by
  unfold Zz
  rw[if_neg g,aoF,aon,aol (by omega)]
  rfl
 refine v1 (ae h1) ?_
 refine⟨by omega,?_⟩
 refine v4 (ae h.Ds) aoi aok hr ?_
 exact⟨rfl,rfl⟩
theorem gW(h:de H B C w L rs tops){x:Int}(hx:0≤x∧x<w.cs.length)(hk:∀c,bh L x c≠ -1→0≤bh L x c∧bh L x c<w.cs.length):
  ag Tryz.prog tZ [ptr B.n,i64 x] H fun v H'=>ap (∃L' Vb,de H' B C w L' Vb tops∧(bh L'=bh L∨bh L'=nN (bh L) x)∧br L'=br L∧ah (fun z=>z=B.tl∨z=B.rk) H H'):=by
 obtain⟨tv,h1,h2⟩:=h.own
 have hl:=h.len
 refine aU uo ?_
 refine v1 (ae h1) ?_
 obtain⟨a1,b1,e1⟩:=cM (bh L x false)
 obtain⟨a2,b2,e2⟩:=cM (bh L x true)
 refine⟨.tuple [i64 a1,.bool b1].toArray,(mA h.ck x).mono (by rintro v H' ⟨rfl,rfl⟩;grind),?_⟩
 refine vs ?_
 refine⟨_,cH H _ a1 b1 e1,?_⟩
 refine v1 (ae h1) ?_
 refine(cG h.ck x).mono ?_
 rintro _ H' ⟨rfl,e⟩
 obtain rfl:=e.symm
 rw[e2]
 refine vs ?_
 refine(cH H _ a2 b2 e2).mono ?_
 rintro _ H' ⟨rfl,e⟩
 obtain rfl:=e.symm
 refine vs ?_
 refine(eU h (hk false)).mono ?_
 rintro _ H' ⟨rfl,e⟩
 obtain rfl:=e.symm
 refine vs ?_
 refine(eU h (hk true)).mono ?_
 rintro _ H' ⟨rfl,e⟩
 obtain rfl:=e.symm
 refine vs ?_
 refine ar.dec (fun g=>?_) (fun g=>?_)<;>refine vs ?_
 ·refine v1 (ae h1) ?_
  refine(mB h.ck (p:=x) (by omega)).mono ?_
  rintro _ H1 ⟨rfl,L1,t1,l1,k1,u1,e1⟩
  have m1:=h.dS t1 e1 l1
  obtain⟨Dt,o1,_⟩:=m1.own
  refine v1 (ae o1) ?_
  refine⟨_,eU m1 (hk false),?_⟩
  refine vs ?_
  refine⟨by omega,?_⟩
  refine v3 m1.Ds aoi aok ?_
  refine⟨by grind,?_⟩
  obtain⟨m2,e2⟩:=m1.OQ x.toNat (IntKind.i64.wrap (Zz rs (bh L x false)+1))
  refine vs ?_
  exact⟨L1,_,m2,.inr k1,u1,(e1.mono (by omega)).trans (e2.mono (by omega))⟩
 ·refine v1 (ae h1) ?_
  refine⟨_,eU h (hk true),?_⟩
  refine vs ?_
  refine⟨by omega,?_⟩
  refine v3 h.Ds aoi aok ?_
  refine⟨by grind,?_⟩
  obtain⟨m2,e2⟩:=h.OQ x.toNat (IntKind.i64.wrap (Zz rs (bh L x true)+1))
  refine vs ?_
  exact⟨L,_,m2,.inl rfl,rfl,e2.mono (by omega)⟩
abbrev BV(w:Nw)(L:List Lk):Prop:=Bt (aF w) (aP w) (bh L) (br L)
theorem BV.uM{w:Nw}{L:List Lk}(h:BV w L){x:Int}{c:Bool}(hk:bh L x c≠ -1):0≤bh L x c∧bh L x c<w.cs.length:=by
 obtain⟨_,_,h1,h2,_⟩:=Bt.home h hk
 obtain⟨a,b,_⟩:=aG (w:=w) (x:=bh L x c) (by omega)
 omega
theorem BV.up{w:Nw}{L:List Lk}(h:BV w L){x:Int}(hu:br L x≠ -1):0≤br L x∧br L x<w.cs.length∧aP w (br L x) x=true∧aF w (br L x)=aF w x:=by
 obtain⟨_,_,h1,h2,h3⟩:=h.uk x _ rfl hu
 obtain⟨a,b,_⟩:=aG (w:=w) (x:=br L x) (by omega)
 grind
theorem jP(h:de H B C w L rs tops)(hb:BV w L){x:Int}(hx:x≠ -1→0<aF w x):
  ag Tryz.prog xk [ptr B.n,i64 x] H fun v H'=>ap (∃L' Vb,de H' B C w L' Vb tops∧BV w L'∧br L'=br L∧ah (fun z=>z=B.tl∨z=B.rk) H H'):=by
 refine aU xS ?_
 refine vs ?_
 refine bX.intro (fun m env H'=>∃ (x:Int) (L':List Lk) (Vb:List Int),m=(if x= -1 then 0 else Nt (aP w) w.cs.length x+1)∧(x≠ -1→0<aF w x)∧de H' B C w L' Vb tops∧BV w L'∧br L'=br L∧ah (fun z=>z=B.tl∨z=B.rk) H H'∧
  env=[(0,ptr B.n),(1,i64 x)]) _ ⟨x,L,rs,rfl,hx,h,hb,rfl,ah.refl _ _,rfl⟩ ?_
 rintro m env H1 ⟨y,L1,rs1,rfl,hy,m1,b1,u1,e1,rfl⟩
 refine vs ?_
 refine ar.dec (fun g=>?_) (fun g=>?_)<;>refine vs ?_
 ·exact⟨L1,rs1,m1,b1,u1,e1⟩
 obtain⟨y0,y1,_⟩:=aG (hy g)
 obtain⟨tv,o1,_⟩:=m1.own
 have Ay:=m1.len
 obtain⟨r,hr⟩:∃r,(rs1.map i64)[y.toNat]? =some (i64 r):=⟨rs1[y.toNat]'(by omega),by grind⟩
 refine v1 (ae o1) ?_
 refine⟨by omega,?_⟩
 refine v4 (ae m1.Ds) aoi aok hr ?_
 refine(gW m1 ⟨y0,y1⟩ (fun c hk=>b1.uM hk)).mono ?_
 rintro v2 H2 ⟨L2,rs2,m2,k2,u2,e2⟩
 have b2:BV w L2:=by
  rcases k2 with k2|k2
  ·grind
  ·grind [Bt.wT]
 obtain⟨QY,o2,_⟩:=m2.own
 have uG:=m2.len
 have oY:=e1.trans e2
 obtain⟨r2,JK⟩:∃r,(rs2.map i64)[y.toNat]? =some (i64 r):=by grind
 refine v1 (ae o2) ?_
 refine⟨by omega,?_⟩
 refine v4 (ae m2.Ds) aoi aok JK ?_
 refine ar.dec (fun g2=>?_) (fun g2=>?_)<;>refine vs ?_
 ·exact⟨L2,rs2,m2,b2,u2.trans u1,oY⟩
 refine v1 (ae o2) ?_
 refine(pZ m2.ck y).mono ?_
 rintro _ H' ⟨rfl,e⟩
 obtain rfl:=e.symm
 obtain⟨a1,c1,ea⟩:=cM (br L2 y)
 rw[ea]
 refine vs ?_
 refine(cH H2 _ a1 c1 ea).mono ?_
 rintro _ H' ⟨rfl,e⟩
 obtain rfl:=e.symm
 refine vs ?_
 refine⟨_,?_,br L2 y,L2,rs2,rfl,fun hu=>?_,m2,b2,u2.trans u1,oY,rfl⟩
 ·rw[if_neg g]
  split
  ·omega
  ·rename_i hu
   have:=b2.up hu
   have:=Fs (aw w) (n:=w.cs.length) (p:=br L2 y) (x:=y) (by omega) this.2.2.1
   omega
 ·have:=b2.up hu
  omega
end
end Go.Proofs.YtjkkkibiegfecaaGreatDoor

namespace Go.Proofs.YtjkkkibiegfecaaGreatDoor
open Go Go.Vc
theorem Sl.shape{H:Hp}{w:Value}{n:Nat}{xs:List Value}{fp:Option Nat}(h:Sl H 1 w n xs fp):∃a c,w= .slice a n c:=by
 obtain⟨h1,h2⟩:=h
 grind
theorem Sl.Ab{H:Hp}{a:Option Addr}{n c:Nat}{xs:List Int}{fp:Option Nat}(h:Sl H 1 (.slice a n c) n (xs.map i64) fp){i:Nat}{x:Int}(hx:xs[i]? =some x):
  i<n∧∃b lb,a=some ⟨b,0,none⟩∧H.own b=some lb∧lb[i]? =some (i64 x):=by
 cases fp with
 |none=>
  have h1:=h.1
  have h2:=h.2.1
  grind
 |some b=>
  obtain⟨h1,h2,lb,h3,h4⟩:=Sl.num h hx
  grind
section
variable {H : Hp} {B : LB} {C : Nat → Prop} {w : Nw} {L : List Lk} {rs tops : List Int}
theorem fk(h:de H B C w L rs tops){g a0 b0:Int}{R:Int→Prop}(m:Mg (aF w) (aP w) g R (bh L) (br L) [] a0 b0):
  ag Tryz.prog vf [ptr B.n,i64 a0,i64 b0] H fun v H'=>ap (∃r L' Vb,v=i64 r∧de H' B C w L' Vb tops∧Mg (aF w) (aP w) g R (bh L') (br L') [] r (-1)∧
   (∀x0,rR (aP w) (bh L) (br L) x0 (bh L) (br L) [] a0 b0→rR (aP w) (bh L) (br L) x0 (bh L') (br L') [] r (-1))∧ah (fun z=>C z∨z=B.tl∨z=B.rk) H H'):=by
 refine aU vE ?_
 refine vs ?_
 have sT:=h.cells.CI
 refine bX.intro (fun mm env H'=>∃ (a b:Int) (dY:List Int) (wv:Value) (fp:Option Nat) (L':List Lk),mm=w.cs.length - dY.length∧de H' B C w L' rs tops∧Mg (aF w) (aP w) g R (bh L') (br L') dY a b∧
  (∀x0,rR (aP w) (bh L) (br L) x0 (bh L) (br L) [] a0 b0→rR (aP w) (bh L) (br L) x0 (bh L') (br L') dY a b)∧
  (∀z,fp=some z→H.size≤z)∧Sl H' 1 wv dY.length (dY.map i64) fp∧ah (fun z=>C z∨z=B.tl∨z=B.rk∨H.size≤z) H H'∧
  env=[(0,ptr B.n),(1,i64 a),(2,i64 b),(7,wv)]) _ ⟨a0,b0,[],_,none,L,rfl,h,m,(fun _ h=>h),by grind,Sl.nil _ _,ah.refl _ _,rfl⟩ ?_
 rintro mm env H1 ⟨a,b,dY,wv,fp,L1,rfl,l1,m1,f1,jg,s1,e1,rfl⟩
 have z1:=e1.size
 clear m
 refine vs ?_
 refine ar.dec (fun ga=>?A) (fun ga=>?_)<;>refine vs ?_
 rotate_left
 refine ar.dec (fun gb=>?B) (fun gb=>?_)<;>refine vs ?_
 rotate_left
 ·obtain⟨Dt,o1,_⟩:=l1.own
  refine v1 (ae o1) ?_
  refine(cA l1.cells b a).mono ?_
  rintro _ H2 ⟨rfl,c2,e2⟩
  have l2:=l1.aC c2 e2 rfl
  have s2:=s1.ext e2 (fun z hz jH=>by have:=jg z hz;have:=h.slt z (.inl jH);omega)
  have z2:=e2.size
  have ha:=m1.wa.resolve_left ga
  have hb:=m1.wb.resolve_left gb
  have eJ:=gw (w:=w) (a:=b) (b:=a) (by rw[hb.1];exact m1.pos) (by rw[ha.1];exact m1.pos)
  have bN:a≠b:=fun e=>ga (m1.ab e)
  rw[eJ]
  cases bf:aP w b a
  ·refine vs ?_
   have hl:aP w a b=true:=by grind [aP,Nw.key,Nw.seq]
   have mm:Mg (aF w) (aP w) g R (bh L1) (br L1) dY a b:=m1
   have Qg:0<aF w a:=by rw[(mm.wa.resolve_left ga).1];exact mm.pos
   obtain⟨p0,p1,_⟩:=aG Qg
   have m3:=mm.RX (aw w) ga gb hl
   have wl:(dY++[a]).length≤w.cs.length:=cu (m3.nodup (aw w)) fun x hx=>by
    have PN:=(m3.wy x hx).2.1
    have Uf:=m3.pos
    obtain⟨x0,x1,_⟩:=aG (w:=w) (x:=x) (by omega)
    omega
   rw[aos,aoV]at wl
   refine Ee (B:=H.size) jg (by omega) s2 a (by omega) fun w' H3 di mC s3 e3=>?_
   refine vs ?_
   have l3:=l2.ext e3 (fun z hz jH=>by have:=h.slt z hz;omega)
   obtain⟨Xy,o3,_⟩:=l3.own
   refine v1 (ae o3) ?_
   refine(cG l3.ck a).mono ?_
   rintro _ H' ⟨rfl,e⟩
   obtain rfl:=e.symm
   obtain⟨k1,k2,ek⟩:=cM (bh L1 a true)
   rw[ek]
   refine vs ?_
   refine(cH H3 _ k1 k2 ek).mono ?_
   rintro _ H' ⟨rfl,e⟩
   obtain rfl:=e.symm
   refine v1 (ae o3) ?_
   refine(cK l3.ck (x:=bh L1 a true) (fun hu=>by have:=BV.up mm.bt hu;rw[l3.len.1];omega)).mono ?_
   rintro _ H4 ⟨rfl,L4,t4,Xz,kk4,uu4,e4⟩
   have l4:=l3.dS t4 e4 Xz
   have s4:=s3.ext e4 (fun z hz jH=>by have:=mC z hz;have:=h.slt B.tl (.inr (by omega));omega)
   obtain⟨k3,k4,ek2⟩:=cM (br L1 (bh L1 a true))
   rw[ek2]
   refine vs ?_
   refine⟨w.cs.length - (dY.length+1),by omega,bh L1 a true,b,dY++[a],w',di,L4,by simp,l4,?_,?_,mC,s4,((e1.trans (e2.mono (by grind))).trans (e3.mono (by omega))).trans (e4.mono (by omega)),rfl⟩
   ·grind
   cases m1;grind [rR.down,aw]
  ·refine vs ?_
   have hl:aP w b a=true:=bf
   have mm:Mg (aF w) (aP w) g R (bh L1) (br L1) dY b a:=m1.swap
   have Qg:0<aF w b:=by rw[(mm.wa.resolve_left gb).1];exact mm.pos
   obtain⟨p0,p1,_⟩:=aG Qg
   have m3:=mm.RX (aw w) gb ga hl
   have wl:(dY++[b]).length≤w.cs.length:=cu (m3.nodup (aw w)) fun x hx=>by
    have PN:=(m3.wy x hx).2.1
    have Uf:=m3.pos
    obtain⟨x0,x1,_⟩:=aG (w:=w) (x:=x) (by omega)
    omega
   rw[aos,aoV]at wl
   refine Ee (B:=H.size) jg (by omega) s2 b (by omega) fun w' H3 di mC s3 e3=>?_
   refine vs ?_
   have l3:=l2.ext e3 (fun z hz jH=>by have:=h.slt z hz;omega)
   obtain⟨Xy,o3,_⟩:=l3.own
   refine v1 (ae o3) ?_
   refine(cG l3.ck b).mono ?_
   rintro _ H' ⟨rfl,e⟩
   obtain rfl:=e.symm
   obtain⟨k1,k2,ek⟩:=cM (bh L1 b true)
   rw[ek]
   refine vs ?_
   refine(cH H3 _ k1 k2 ek).mono ?_
   rintro _ H' ⟨rfl,e⟩
   obtain rfl:=e.symm
   refine v1 (ae o3) ?_
   refine(cK l3.ck (x:=bh L1 b true) (fun hu=>by have:=BV.up mm.bt hu;rw[l3.len.1];omega)).mono ?_
   rintro _ H4 ⟨rfl,L4,t4,Xz,kk4,uu4,e4⟩
   have l4:=l3.dS t4 e4 Xz
   have s4:=s3.ext e4 (fun z hz jH=>by have:=mC z hz;have:=h.slt B.tl (.inr (by omega));omega)
   obtain⟨k3,k4,ek2⟩:=cM (br L1 (bh L1 b true))
   rw[ek2]
   refine vs ?_
   refine⟨w.cs.length - (dY.length+1),by omega,bh L1 b true,a,dY++[b],w',di,L4,by simp,l4,?_,?_,mC,s4,((e1.trans (e2.mono (by grind))).trans (e3.mono (by omega))).trans (e4.mono (by omega)),rfl⟩
   ·grind
   cases m1;grind [rR.down,rR.swap,aw]
 case' A=>
  have m2:Mg (aF w) (aP w) g R (bh L1) (br L1) dY b (-1):=ga▸m1.swap
  have f2:=fun x0 (h0:rR (aP w) (bh L) (br L) x0 (bh L) (br L) [] a0 b0)=>(f1 x0 h0).swap
  rw[ga]at f2
  generalize hr:b=r at m2 f2
  refine ar.dl (by grind) ?_
 case' B=>
  have m2:Mg (aF w) (aP w) g R (bh L1) (br L1) dY a (-1):=gb▸m1
  have f2:=f1
  rw[gb]at f2
  generalize hr:a=r at m2 f2
  refine ar.dec (fun h=>absurd (hr.trans h) ga) (fun _=>?_)
 all_goals
  refine vs ?_
  obtain⟨wa,wc,rfl⟩:=Sl.shape s1
  refine vs ?_
  have wl:dY.length≤w.cs.length:=cu (m2.nodup (aw w)) fun x hx=>by
   have PN:=(m2.wy x hx).2.1
   have Uf:=m2.pos
   obtain⟨x0,x1,_⟩:=aG (w:=w) (x:=x) (by omega)
   omega
  refine bX.intro (fun mm env H'=>∃ (i:Nat) (r:Int) (L':List Lk) (Vb:List Int),mm=i∧i≤dY.length∧de H' B C w L' Vb tops∧Mg (aF w) (aP w) g R (bh L') (br L') (dY.take i) r (-1)∧
   (∀x0,rR (aP w) (bh L) (br L) x0 (bh L) (br L) [] a0 b0→rR (aP w) (bh L) (br L) x0 (bh L') (br L') (dY.take i) r (-1))∧
   Sl H' 1 (.slice wa dY.length wc) dY.length (dY.map i64) fp∧ah (fun z=>C z∨z=B.tl∨z=B.rk∨H.size≤z) H H'∧
   env=[(0,ptr B.n),(7,.slice wa dY.length wc),(9,i64 r),(10,i64 ((i:Int) - 1))]) _ ⟨dY.length,r,L1,rs,rfl,aox _,l1,by grind,by grind,s1,e1,?_⟩ ?_
  ·grind [wrap64]
  rintro mm env H2 ⟨i,r2,L2,rs2,hmi,hi,l2,m3,f3,s2,e2,rfl⟩
  obtain rfl:=hmi.symm
  refine vs ?_
  refine ar.dec (fun gi=>?_) (fun gi=>?_)<;>refine vs ?_
  rotate_left
  ·obtain rfl:i=0:=by omega
   exact⟨r2,L2,rs2,rfl,l2,by grind,by grind,e2.mono (by grind)⟩
  obtain⟨j,rfl⟩:∃j,i=j+1:=⟨i - 1,by omega⟩
  obtain⟨v,hv⟩:∃v,dY[j]? =some v:=⟨_,aol (by omega)⟩
  have tk:dY.take (j+1)=dY.take j++[v]:=by rw[aoL,hv];rfl
  rw[tk]at m3 f3
  have m4:=m3.back (aw w)
  have f4:=fun x0 h0=>(f3 x0 h0).back
  obtain⟨v1,v2,v3,v4,v5,v6⟩:=m3.wy v (by simp)
  obtain⟨q1,vb,lb,rfl,q2,q3⟩:=Sl.Ab s2 hv
  have hvb:∃b',fp=some b'∧b'=vb:=by
   cases fp with
   |none=>have:=s2.2.2;grind
   |some b'=>obtain⟨_,_,h1,_⟩:=s2.2;grind
  obtain⟨b',rfl,rfl⟩:=hvb
  have hvb:=jg b' rfl
  have XA:0<aF w v:=by rw[v2];exact m3.pos
  obtain⟨ZA,vv1,_⟩:=aG XA
  have ji:((((j+1:Nat):Int) - 1)).toNat=j:=by omega
  obtain⟨QY,o2,_⟩:=l2.own
  refine ar.dec (fun gr=>?_) (fun gr=>?_)<;>refine vs ?_
  ·rw[if_pos gr,if_pos gr]at m4
   simp only[if_pos gr]at f4
   have f5:=f4
   have l3:=l2
   have m5:=m4
   have o3b:=q2
   have s3:=s2
   have e3:=e2
   refine⟨by omega,?_⟩
   simp(disch:=(first|omega| (simp only[Zs]<;>omega)|fail)) only[go_sem, ↓reduceIte,Zv,ae o3b,aoi,aok,ji,q3]
   refine(gW l3 ⟨ZA,vv1⟩ (fun c hk=>BV.uM m5.bt hk)).mono ?_
   rintro _ H4 ⟨L4,Wo,l4,k4,u4,e4⟩
   refine vs ?_
   refine⟨j,by omega,j,v,L4,Wo,rfl,by omega,l4,?_,?_,s3.ext e4 (fun z hz jH=>by injection hz with hz;have:=h.slt B.tl (.inr (by omega));have:=h.slt B.rk (.inr (by omega));omega),e3.trans (e4.mono (by omega)),?_⟩
   ·grind [Mg.wT,aw]
   ·grind [rR.wT]
   grind [wrap64]
  ·rw[if_neg gr,if_neg gr]at m4
   simp only[if_neg gr]at f4
   have JK:=m3.wa.resolve_left gr
   obtain⟨r0,r1,_⟩:=aG (w:=w) (x:=r2) (by omega)
   have bu:=l2.len
   have hvr:v≠r2:=fun e=>by have:=v5 gr;rw[e,(aw w).Lp]at this;grind
   simp(disch:=(first|omega| (simp only[Zs]<;>omega)|fail)) only[go_sem, ↓reduceIte,Zv,ae o2]
   refine⟨by omega,?_⟩
   simp(disch:=(first|omega| (simp only[Zs]<;>omega)|fail)) only[go_sem, ↓reduceIte,Zv,ae q2,aoi,aok,ji,q3]
   refine(fA l2.ck (p:=v) (x:=r2) (c:=true) ⟨ZA,by omega⟩ ⟨r0,by omega⟩ hvr JK.2 v4).mono ?_
   rintro _ H3 ⟨rfl,L3,t3,ll3,kk3,uu3,CJ⟩
   have l3:=l2.dS t3 CJ ll3
   have m5:Mg (aF w) (aP w) g R (bh L3) (br L3) (dY.take j) v (-1):=by rw[kk3,uu3];exact m4
   have f5:=f4
   rw[←kk3,←uu3]at f5
   have nb:b'≠B.tl:=fun e=>by have:=h.slt B.tl (.inr (by omega));omega
   have o3b:=CJ.own q2 nb
   have s3:=s2.ext CJ (by grind)
   have e3:=e2.trans (CJ.mono (by omega))
   refine vs ?_
   refine⟨by omega,?_⟩
   simp(disch:=(first|omega| (simp only[Zs]<;>omega)|fail)) only[go_sem, ↓reduceIte,Zv,ae o3b,aoi,aok,ji,q3]
   refine(gW l3 ⟨ZA,vv1⟩ (fun c hk=>BV.uM m5.bt hk)).mono ?_
   rintro _ H4 ⟨L4,Wo,l4,k4,u4,e4⟩
   refine vs ?_
   refine⟨j,by omega,j,v,L4,Wo,rfl,by omega,l4,?_,?_,s3.ext e4 (fun z hz jH=>by injection hz with hz;have:=h.slt B.tl (.inr (by omega));have:=h.slt B.rk (.inr (by omega));omega),e3.trans (e4.mono (by omega)),?_⟩
   ·grind [Mg.wT,aw]
   ·grind [rR.wT]
   grind [wrap64]
end
end Go.Proofs.YtjkkkibiegfecaaGreatDoor
