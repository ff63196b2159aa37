/- Texts put behind each other. -/
import Derived.Test.YtnanofhkpglbaaaGreatDoorK1
import Derived.Test.YtnanofhkpglbaaaGreatDoorK27
set_option linter.unusedSimpArgs false
set_option linter.unusedVariables false
set_option maxRecDepth 100000
set_option maxHeartbeats 80000000
namespace Go.Proofs.YtnanofhkpglbaaaGreatDoor
open Go Go.Vc
section
variable{d x i b a g p h:Int}{l:List Int}{j:Nat}
def pa(d:Int)(j:Nat):Nat:=(((j:Int) - 1) / d).toNat
theorem lM(l:cV d)(h:1<=i):∃p,bu d i=some p/\p.toNat=pa d i.toNat/\0<=p/\p<i:=by
 have x:bu d i=some ((i - 1) / d):=by unfold bu;grind
 have z:=eX x;grind [pa]
theorem db(x:cV d)(h:1<=j):pa d j<j:=by
 obtain⟨p,_,z,l,a⟩:=lM x (i:=(j:Int)) O;grind
theorem TO(z:cV d){i:Nat}(h:1<=j):pa d j=i↔(d*i+1<=j/\(j:Int)<=d*i+d):=by
 have x:=z.1;unfold pa;have l:=Int.mul_ediv_add_emod ((j:Int) - 1) d;have a:=Int.emod_nonneg ((j:Int) - 1) (show d≠0 by omega);have n:=Int.emod_lt_of_pos ((j:Int) - 1) (show 0<d by omega);have m:0<=((j:Int) - 1) / d:=Int.ediv_nonneg O O;constructor
 ·grind
 ·rintro⟨v,e⟩;have g:=qi (d:=d) (i:=(i:Int)) (j:=(j:Int) - d*i) x O O O;grind
theorem fi(l:List Int)(i j:Nat)(v:Int)(hi:i<l.length):(l.set i v).getD j 0=if i=j then v else l.getD j 0:=by
 grind
def ej(lt:Int->Int->Bool)(d:Int)(l:List Int):Prop:=∀j,1<=j->j<l.length->lt (l.getD j 0) (l.getD (pa d j) 0)=false
def dS(lt:Int->Int->Bool)(d:Int)(l:List Int)(i:Nat):Prop:=
 (∀j,1<=j->j<l.length->j≠i->pa d j≠i->lt (l.getD j 0) (l.getD (pa d j) 0)=false)/\
 (∀j,1<=j->j<l.length->pa d j=i->1<=i->lt (l.getD j 0) (l.getD (pa d i) 0)=false)
theorem ej.but{lt:Int->Int->Bool}(m:bA lt)(n:cV d)(h:ej lt d l)(i:Nat):dS lt d l i:=by
 refine⟨fun j x z _ _=>h j x z,fun j x z g a=>?_⟩;have v:=h j x z;have e:=h i a (by have:=db n x;omega);cases m;grind
theorem dS.set{lt:Int->Int->Bool}(v:cV d){i:Nat}(hi:i<l.length)(h:dS lt d l i)(e:∀j,1<=j->j<l.length->pa d j=i->lt (l.getD j 0) x=false)
  (g:1<=i->lt x (l.getD (pa d i) 0)=false):ej lt d (l.set i x):=by
 intro j n m;rw[alb]at m;rw[fi _ _ _ _ hi,fi _ _ _ _ hi];have y:=db v n;by_cases z:i=j
 ·grind
 ·rw[if_neg z];by_cases a:i=pa d j
  ·grind
  ·rw[if_neg a];exact h.1 j n m (Ne.symm z) (Ne.symm a)
theorem Hy{lt:Int->Int->Bool}(A:bA lt)(y:cV d)(x:Int):∀ (m:Nat) (l:List Int) (pl:Int->Option Int) (i:Int),i.toNat<=m->0<=i->i<l.length->dS lt d l i.toNat->
  (∀j,1<=j->j<l.length->pa d j=i.toNat->lt (l.getD j 0) x=false)->ej lt d (fD lt d x m l pl i).l:=by
 intro m;induction m with
 |zero=>
  intro l pl i hm F Q n f;exact n.set y O f (fun h=>O)
 |succ m V=>
  intro l pl i hm F Q n f;by_cases hi:1<=i
  ·obtain⟨p,W,u,G,E⟩:=lM y hi;unfold fD;rw[W];simp only[u];cases P:lt x (l.getD (pa d i.toNat) 0)with
   |false=>
    exact n.set y O f (fun _=>P)
   |true=>
    simp only[if_true];have r:i.toNat<l.length:=O;have D:=O;refine V _ _ p O G Z ⟨fun j e a v g=>?_,fun j e a v g=>?_⟩ (fun j e a v=>?_)
    ·rw[alb]at a;rw[u]at v g;rw[fi _ _ _ _ r,fi _ _ _ _ r];have z:i.toNat≠j:=Z;rw[if_neg z];by_cases q:i.toNat=pa d j
     ·rw[if_pos q];exact n.2 j e a q.symm O
     ·rw[if_neg q];exact n.1 j e a (Ne.symm z) (Ne.symm q)
    ·rw[alb]at a;rw[u]at v g ⊢;rw[fi _ _ _ _ r,fi _ _ _ _ r];have M:=db y g;rw[if_neg (show i.toNat≠pa d (pa d i.toNat) by omega)];have K:=n.1 (pa d i.toNat) g O O O;by_cases z:i.toNat=j
     ·rw[if_pos z];exact K
     ·rw[if_neg z];have o:=n.1 j e a (Ne.symm z) O;rw[v]at o;exact A.nt _ _ _ o K
    ·rw[alb]at a;rw[u]at v;rw[fi _ _ _ _ r];by_cases z:i.toNat=j
     ·rw[if_pos z];exact A.vk P
     ·rw[if_neg z];have o:=n.1 j e a (Ne.symm z) O;rw[v]at o;cases I:lt (l.getD j 0) x with
      |false=>rfl
      |true=>have:=A.tr _ _ _ I P;grind
  ·have N:i=0:=O;subst N;have U:bu d 0=none:=by unfold bu;grind
   unfold fD;rw[U];exact n.set y O f O
theorem Do(lt:Int->Int->Bool)(d x:Int):∀ (m:Nat) (l:List Int) (pl:Int->Option Int) (i:Int),(fD lt d x m l pl i).asked<=Jq d m i:=by
 intro m;induction m with
 |zero=>intro l pl i;simp[fD,Jq]
 |succ m h=>
  intro l pl i;unfold fD Jq;grind
theorem tz(lt:Int->Int->Bool)(d x:Int):∀ (m:Nat) (l:List Int) (pl:Int->Option Int) (i:Int),(fD lt d x m l pl i).l.length=l.length:=by
 intro m;induction m with
 |zero=>intro l pl i;simp[fD]
 |succ m h=>
  intro l pl i;unfold fD;grind
theorem O2{lt:Int->Int->Bool}(n:cV d)(x:Int)(l:List Int)(pl:Int->Option Int)(i:Int)(e:0<=i):
  ((fD lt d x i.toNat l pl i).at_=i/\(fD lt d x i.toNat l pl i).l=l.set i.toNat x/\(fD lt d x i.toNat l pl i).pl=dB pl x i/\(fD lt d x i.toNat l pl i).asked<=1/\(1<=i->lt x (l.getD (pa d i.toNat) 0)=false))\/
  ((fD lt d x i.toNat l pl i).at_<i/\1<=i/\lt x (l.getD (pa d i.toNat) 0)=true):=by
 by_cases hi:1<=i
 ·obtain⟨p,z,g,r,j⟩:=lM n hi;obtain⟨q,a⟩:∃q,i.toNat=q+1:=⟨i.toNat - 1,O⟩;have low:∀ (m:Nat) (l:List Int) (pl:Int->Option Int) (i:Int),(fD lt d x m l pl i).at_<=i:=by
   intro m;induction m with
   |zero=>intro l pl i;simp[fD]
   |succ m y=>
    intro l pl i;unfold fD;cases z:bu d i with
    |none=>simp
    |some p=>
     have:=eX z;grind
  rw[a,fD,z,<-a];grind
 ·have v:i=0:=O;subst v;exact .inl ⟨rfl,rfl,rfl,by simp[fD],fun h=>O⟩
def Od(l:List Int)(pl:Int->Option Int)(i:Int)(x:Int):Prop:=
 ∀z,z≠x->∀k,pl z=some k↔(0<=k/\k≠i/\l[k.toNat]? =some z)
def sj(l:List Int)(pl:Int->Option Int):Prop:=∀z k,pl z=some k↔(0<=k/\l[k.toNat]? =some z)
theorem sj.aby{pl:Int->Option Int}(h:sj l pl)(n:l[i.toNat]? =some x)(a:0<=i):Od l pl i x:=by
 intro z m k;rw[h z k];grind
theorem sj.zL{pl:Int->Option Int}(h:sj l pl){i:Nat}{z:Int}(hi:l[i]? =some z)(n:l[j]? =some z):i=j:=by
 have x:=(h z i).2 Z;have a:=(h z j).2 Z;grind
def Gp(l:List Int)(i:Int)(z:Int):Prop:=∃k:Nat,(k:Int)≠i/\l[k]? =some z
theorem Od.set{pl:Int->Option Int}(h:Od l pl i x)(v:0<=i)(y:i<l.length)(m:¬Gp l i x):sj (l.set i.toNat x) (dB pl x i):=by
 intro z k;have g:i.toNat<l.length:=O;by_cases e:z=x
 ·subst e;simp only[dB,if_true];constructor
  ·grind
  ·rintro⟨a,b⟩;by_cases n:k=i
   ·rw[n]
   ·exfalso;rw[alh O]at b;exact m ⟨k.toNat,O,b⟩
 ·simp only[dB,if_neg e];rw[h z e k];grind
theorem Od.move{pl:Int->Option Int}{y:Int}(h:Od l pl i x)(K:0<=i)(F:i<l.length)(A:0<=p)(q:p≠i)(m:l[p.toNat]? =some y)(o:¬Gp l i x):
  Od (l.set i.toNat y) (dB pl y i) p x/\(¬Gp (l.set i.toNat y) p x)/\∀z,Gp (l.set i.toNat y) p z↔Gp l i z:=by
 have r:i.toNat<l.length:=O;have v:y≠x:=fun e=>o ⟨p.toNat,O,Z⟩;have N:∀k:Int,0<=k->k≠i->l[k.toNat]? =some y->k=p:=by
  intro k u ki j;have g:=(h y v k).2 ⟨u,ki,j⟩;have n:=(h y v p).2 ⟨A,q,m⟩;rw[g]at n;injection n
 have d:∀z,Gp (l.set i.toNat y) p z↔Gp l i z:=by
  intro z;constructor
  ·rintro⟨k,P,a⟩;by_cases e:i.toNat=k
   ·rw[<-e,aln r]at a;injection a with a;subst a;exact⟨p.toNat,O,m⟩
   ·rw[alh e]at a;exact⟨k,O,a⟩
  ·rintro⟨k,P,a⟩;by_cases e:(k:Int)=p
   ·refine⟨i.toNat,O,?_⟩;grind
   ·exact⟨k,e,Z⟩
 refine⟨?_,Z,d⟩;intro z f k;by_cases e:z=y
 ·grind [dB]
 ·simp only[dB,if_neg e];rw[h z f k];grind
theorem mem_set{i:Nat}(hi:i<l.length)(x z:Int):z∈l.set i x↔z=x\/Gp l i z:=by
 constructor
 ·intro h;obtain⟨k,a⟩:=als h;by_cases e:i=k
  ·grind
  ·rw[alh e]at a;exact .inr ⟨k,O,a⟩
 ·rintro(rfl| ⟨k,n,m⟩)
  ·exact ali (i:=i) Z
  ·exact ali (i:=k) Z
theorem zM{lt:Int->Int->Bool}(x:Int):∀ (m:Nat) (l:List Int) (pl:Int->Option Int) (i:Int),i.toNat<=m->0<=i->i<l.length->Od l pl i x->¬Gp l i x->
  sj (fD lt d x m l pl i).l (fD lt d x m l pl i).pl/\∀z,z∈(fD lt d x m l pl i).l↔z=x\/Gp l i z:=by
 intro m;induction m with
 |zero=>
  intro l pl i hm h n a v;exact⟨a.set h n v,fun z=>by have:=mem_set (l:=l) (i:=i.toNat) O x z;rw[show((i.toNat:Nat):Int)=i by omega]at this;exact this⟩
 |succ m j=>
  intro l pl i hm h n a v;have r:sj (l.set i.toNat x) (dB pl x i)/\∀z,z∈l.set i.toNat x↔z=x\/Gp l i z:=
   ⟨a.set h n v,fun z=>by have:=mem_set (l:=l) (i:=i.toNat) O x z;grind⟩
  unfold fD;cases g:bu d i with
  |none=>omega
  |some p=>
   have e:=eX g;simp only;split
   ·have y:l[p.toNat]? =some (l.getD p.toNat 0):=by
     rw[alf,ak9 O];rfl
    obtain⟨q,o,f⟩:=a.move h n e.1 O y v;grind
   omega
theorem Jz{lt:Int->Int->Bool}(v:bA lt)(l:List Int)(d i:Int)(h:0<=d*i):∀ (m:Nat) (x:Int),(m:Int)<=d - 1->d*i+1<=x->x<l.length->
  (∀c:Int,d*i+1<=c->c<=d*i+(d - m)->c<l.length->lt (l.getD c.toNat 0) (l.getD x.toNat 0)=false)->
  ∀c:Int,d*i+1<=c->c<=d*i+d->c<l.length->lt (l.getD c.toNat 0) (l.getD (bX lt l d i m x).1.toNat 0)=false:=by
 intro m;induction m with
 |zero=>grind [bX]
 |succ m g=>
  intro x hm p q f c z a c3;unfold bX;split
  ·rename_i u;simp only;split
   ·rename_i o;refine g _ O O O (fun e y r j=>?_) c z a c3;by_cases n:e=d*i+(d - m)
    ·rw[n];exact v.Ih _
    cases v;grind
   ·rename_i o;refine g _ O p q (fun e y r j=>?_) c z a c3;by_cases n:e=d*i+(d - m)
    ·grind
    grind
  grind
theorem Ng{lt:Int->Int->Bool}(y:bA lt)(n:cV d)(x:Int):∀ (m:Nat) (l:List Int) (pl:Int->Option Int) (i:Int),l.length<=i.toNat+m->0<=i->i<l.length->dS lt d l i.toNat->
  (1<=i->lt x (l.getD (pa d i.toNat) 0)=false)->ej lt d (cQ lt d x m l pl i).1:=by
 intro m;induction m with
 |zero=>omega
 |succ m F=>
  intro l pl i hm P hl e X;have hdd:=n.1;have K:0<=d*i:=aml O P;have hit:((i.toNat:Nat):Int)=i:=O;have hch:∀j:Nat,1<=j->(pa d j=i.toNat↔(d*i+1<=j/\(j:Int)<=d*i+d)):=fun j I=>by have:=TO n (i:=i.toNat) I;grind
  unfold cQ;split
  ·rename_i W;exact e.set n O Z Z
  ·rename_i W;have A:=jU lt l d i K (d - 1).toNat (d*i+1) O O O;have Q:(bX lt l d i (d - 1).toNat (d*i+1)).1<=d*i+d:=by
    have key:∀ (m:Nat) (g:Int),(m:Int)<=d - 1->g<=d*i+d->(bX lt l d i m g).1<=d*i+d:=by
     intro m;induction m with
     |zero=>intro g _ h;exact h
     |succ m F=>
      intro g hm h;unfold bX;grind
    exact Z
   have U:=Jz y l d i K (d - 1).toNat (d*i+1) O O O (fun c M E c3=>by rw[show c=d*i+1 by omega];exact y.Ih _);have G:=lL n P A.1;generalize bX lt l d i (d - 1).toNat (d*i+1)=B at*;obtain⟨b,q⟩:=B;simp only at A Q U G;have o:pa d b.toNat=i.toNat:=Z;have v:i.toNat<l.length:=O;have V:∀j,1<=j->j<l.length->pa d j=i.toNat->lt (l.getD j 0) (l.getD b.toNat 0)=false:=Z;simp only;by_cases f:lt (l.getD b.toNat 0) x=true
   ·rw[if_pos f];refine F _ _ b Z O Z ⟨fun j z a p N=>?_,fun j z a p N=>?_⟩ (fun _=>?_)
    ·rw[alb]at a;rw[fi _ _ _ _ v,fi _ _ _ _ v];have D:=db n z;by_cases r:i.toNat=j
     ·subst r;rw[if_pos rfl,if_neg O];have:=e.2 b.toNat O O o z;omega
     ·rw[if_neg r];by_cases u:i.toNat=pa d j
      ·grind
      ·rw[if_neg u];exact e.1 j z a (Ne.symm r) (Ne.symm u)
    ·rw[alb]at a;rw[o,fi _ _ _ _ v,fi _ _ _ _ v,if_pos rfl];have D:=db n z;rw[if_neg O];have:=e.1 j z a O O;grind
    ·rw[o,fi _ _ _ _ v,if_pos rfl];exact y.vk f
   ·rw[if_neg f];exact e.set n v (fun j z a p=>y.nt _ _ _ (V j z a p) Z) Z
theorem JA(lt:Int->Int->Bool)(d x:Int):∀ (m:Nat) (l:List Int) (pl:Int->Option Int) (i:Int),(cQ lt d x m l pl i).1.length=l.length:=by
 intro m;induction m with
 |zero=>intro l pl i;simp[cQ]
 |succ m h=>
  intro l pl i;unfold cQ;split
  ·simp
  ·simp only;split
   ·simp[h]
   ·simp
theorem JB{lt:Int->Int->Bool}(n:cV d)(x:Int):∀ (m:Nat) (l:List Int) (pl:Int->Option Int) (i:Int),0<=i->i<l.length->Od l pl i x->¬Gp l i x->
  sj (cQ lt d x m l pl i).1 (cQ lt d x m l pl i).2.1/\∀z,z∈(cQ lt d x m l pl i).1↔z=x\/Gp l i z:=by
 intro m;induction m with
 |zero=>
  grind [cQ,Od.set,mem_set]
 |succ m j=>
  intro l pl i h v a e;have A:sj (l.set i.toNat x) (dB pl x i)/\∀z,z∈l.set i.toNat x↔z=x\/Gp l i z:=
   ⟨a.set h v e,fun z=>by grind [mem_set]⟩
  have P:=n.1;have y:0<=d*i:=aml O h;unfold cQ;split
  ·omega
  ·have g:=jU lt l d i y (d - 1).toNat (d*i+1) O O O;have K:=lL n h g.1;simp only;split
   ·have r:l[(bX lt l d i (d - 1).toNat (d*i+1)).1.toNat]? =some (l.getD (bX lt l d i (d - 1).toNat (d*i+1)).1.toNat 0):=by
     rw[alf,ak9 O];rfl
    obtain⟨p,q,o⟩:=a.move h v O O r e;obtain⟨f,u⟩:=j _ _ _ O Z p q;exact⟨f,fun z=>by rw[u z,o z]⟩
   omega
def ix(d i:Int):Nat:=Jq d i.toNat i
theorem nW(h:bu d i=some p):ix d i=ix d p+1:=OX h _ (alj _)
theorem jV(h:cV d):∀ (m:Nat) (i j:Int),j.toNat<=m->i<=j->ix d i<=ix d j:=by
 intro m;induction m with
 |zero=>
  grind [Jq,ix]
 |succ m a=>
  intro i j hm e;by_cases hi:1<=i
  ·have v:=h.1;have l:bu d i=some ((i - 1) / d):=by unfold bu;grind
   have x:bu d j=some ((j - 1) / d):=by unfold bu;grind
   have n:=eX x;rw[nW l,nW x];have:=a ((i - 1) / d) ((j - 1) / d) O (Int.ediv_le_ediv O O);omega
  ·have:ix d i=0:=by
    unfold ix;have z:bu d i=none:=by unfold bu;grind
    cases i.toNat<;>simp[Jq,z]
   omega
theorem JC(lt:Int->Int->Bool)(l:List Int)(d i:Int):∀ (m:Nat) (x:Int),(bX lt l d i m x).2<=m:=by
 intro m;induction m with
 |zero=>intro x;simp[bX]
 |succ m h=>
  grind [bX]
theorem Ld{lt:Int->Int->Bool}(z:cV d)(x:Int):∀ (m:Nat) (l:List Int) (pl:Int->Option Int) (i:Int),l.length<=i.toNat+m->0<=i->i<l.length->
  ((cQ lt d x m l pl i).2.2:Int)+d*(ix d i:Nat)<=d*(ix d ((l.length:Int) - 1):Nat):=by
 intro m;induction m with
 |zero=>omega
 |succ m p=>
  intro l pl i hm n f;have e:=z.1;have g:0<=d*i:=aml O n;have P:∀k,k<=(l.length:Int) - 1->d*(ix d k:Nat)<=d*(ix d ((l.length:Int) - 1):Nat):=fun k y=>
   Int.mul_le_mul_of_nonneg_left (by have:=jV z ((l.length:Int) - 1).toNat k ((l.length:Int) - 1) (alj _) y;omega) O
  unfold cQ;split
  ·grind
  ·have v:=jU lt l d i g (d - 1).toNat (d*i+1) O O O;have u:=lL z n v.1;have q:=JC lt l d i (d - 1).toNat (d*i+1);have o:(bX lt l d i (d - 1).toNat (d*i+1)).1<=d*i+d:=by
    have key:∀ (m:Nat) (a:Int),(m:Int)<=d - 1->a<=d*i+d->(bX lt l d i m a).1<=d*i+d:=by
     intro m;induction m with
     |zero=>intro a _ h;exact h
     |succ m p=>
      grind [bX]
    exact Z
   generalize bX lt l d i (d - 1).toNat (d*i+1)=B at*;have r:bu d B.1=some i:=by
    unfold bu;rw[if_pos ⟨z,O⟩];have:=qi (d:=d) (i:=i) (j:=B.1 - d*i) e n O O;rw[show d*i+(B.1 - d*i) - 1=B.1 - 1 by omega]at this;rw[this]
   have A:=nW r;have hmul:d*((ix d i+1:Nat):Int)=d*(ix d i:Nat)+d:=by rw[Int.natCast_add,Int.mul_add];simp
   grind
def cU(lt:Int->Int->Bool)(d x:Int)(l:List Int)(pl:Int->Option Int)(i:Int):List Int×(Int->Option Int)×Nat:=
 if l.getD (l.length - 1) 0=x then(l.dropLast,lI pl x,0)
 else
  let U:=fD lt d (l.getD (l.length - 1) 0) i.toNat l.dropLast (lI pl x) i
  if U.at_=i then
   let D:=cQ lt d (l.getD (l.length - 1) 0) U.l.length U.l U.pl i
   (D.1,D.2.1,U.asked+D.2.2)
  else(U.l,U.pl,U.asked)
theorem uT(l:List Int)(j:Nat)(h:j<l.length - 1):l.dropLast.getD j 0=l.getD j 0:=by
 grind
theorem JD{lt:Int->Int->Bool}(F:bA lt)(n:cV d){pl:Int->Option Int}(hh:ej lt d l)(P:sj l pl)(hi:pl x=some i):
  ej lt d (cU lt d x l pl i).1/\sj (cU lt d x l pl i).1 (cU lt d x l pl i).2.1/\(cU lt d x l pl i).1.length=l.length - 1/\
   (∀z,z∈(cU lt d x l pl i).1↔z∈l/\z≠x)/\((cU lt d x l pl i).2.2:Int)<=d*(ix d ((l.length:Int) - 1):Nat)+1:=by
 obtain⟨r,D⟩:=(P x i).1 hi;have Nd:i.toNat<l.length:=Z;have hdd:=n.1;have G:l[l.length - 1]? =some (l.getD (l.length - 1) 0):=by
  rw[alf,ak9 O];rfl
 have Q:∀k,k<l.length - 1->l.dropLast[k]? =l[k]? :=Z;have V:ej lt d l.dropLast:=by
  intro j m p;rw[alV]at p;have:=db n m;rw[uT _ _ p,uT _ _ O];exact hh j m O
 unfold cU;split
 ·rename_i he;have Kk:i.toNat=l.length - 1:=P.zL D Z;refine⟨V,fun z k=>?_,by simp,fun z=>?_,?_⟩
  ·show lI pl x z=some k↔(0<=k/\l.dropLast[k.toNat]? =some z);unfold lI;by_cases v:z=x
   ·grind [sj.zL]
   ·rw[if_neg v,P z k];grind
  ·constructor
   ·intro h;obtain⟨k,g⟩:=als h;grind [sj.zL]
   ·rintro⟨h,v⟩;obtain⟨k,g⟩:=als h;grind
  ·have:0<=d*(ix d ((l.length:Int) - 1):Nat):=aml O O;simp only;omega
 ·rename_i ny;generalize hy:l.getD (l.length - 1) 0=y at*;have Kk:i.toNat<l.length - 1:=by
   rcases al1 i.toNat (l.length - 1)with h|h
   ·exact h
   ·grind
  have I:Od l.dropLast (lI pl x) i y:=by
   intro z v k;unfold lI;by_cases e:z=x
   ·grind [sj.zL]
   ·rw[if_neg e,P z k];constructor
    ·rintro⟨a,b⟩;have g:k.toNat<l.length:=(ak8.1 b).1;have hk2:k.toNat≠l.length - 1:=fun f=>by rw[f,G]at b;injection b with b;exact v b.symm
     exact⟨a,fun f=>by rw[f,D]at b;injection b with b;exact e b.symm,by rw[Q _ O];exact b⟩
    ·rintro⟨a,_,b⟩;have g:k.toNat<l.length - 1:=by have:=(ak8.1 b).1;rwa[alV]at this
     exact⟨a,by rw[Q _ g]at b;exact b⟩
  have hO:¬Gp l.dropLast i y:=by
   rintro⟨k,A,o⟩;have g:k<l.length - 1:=by have:=(ak8.1 o).1;grind
   rw[Q _ g]at o;have:=P.zL o G;omega
  have pC:∀z,(z=y\/Gp l.dropLast i z)↔(z∈l/\z≠x):=by
   intro z;constructor
   ·rintro(rfl| ⟨k,A,o⟩)
    ·grind
    grind [sj.zL]
   ·rintro⟨h,v⟩;obtain⟨k,g⟩:=als h;have hk1:k<l.length:=Z;by_cases e:k=l.length - 1
    ·grind
    ·exact .inr ⟨k,Z,Z⟩
  have W:(i:Int)<l.dropLast.length:=by rw[alV];omega
  have K:=V.but F n i.toNat;have TN:=zM (lt:=lt) (d:=d) y i.toNat l.dropLast (lI pl x) i (alj _) r W I hO;have SP:d*(ix d ((l.length:Int) - 1 - 1):Nat)<=d*(ix d ((l.length:Int) - 1):Nat):=
   Int.mul_le_mul_of_nonneg_left (by have:=jV n ((l.length:Int) - 1).toNat ((l.length:Int) - 1 - 1) ((l.length:Int) - 1) (alj _) O;omega) O
  rcases O2 n (lt:=lt) y l.dropLast (lI pl x) i r with ⟨s1,M,E,s4,s5⟩| ⟨s1,M,E⟩
  ·simp only;rw[if_pos s1,M,E,alb];simp only;have afS:i.toNat<l.dropLast.length:=by rw[alV];omega
   have N:∀j,j≠i.toNat->(l.dropLast.set i.toNat y).getD j 0=l.dropLast.getD j 0:=Z;have hP2:Od (l.dropLast.set i.toNat y) (dB (lI pl x) y i) i y:=by
    intro z v k;unfold dB;rw[if_neg v,I z v k];constructor
    ·grind
    ·grind
   have afU:∀z,Gp (l.dropLast.set i.toNat y) i z↔Gp l.dropLast i z:=by
    intro z;constructor
    ·rintro⟨k,A,o⟩;exact⟨k,A,Z⟩
    ·rintro⟨k,A,o⟩;exact⟨k,A,Z⟩
   have U:(i:Int)< (l.dropLast.set i.toNat y).length:=by rw[alb];exact W
   obtain⟨X,d2⟩:=JB (lt:=lt) n y l.dropLast.length (l.dropLast.set i.toNat y) (dB (lI pl x) y i) i r U hP2 Z;refine⟨?_,X,by grind [JA],Z,?_⟩
   ·refine Ng F n y _ _ _ i Z r U ⟨fun j m p q u=>?_,fun j m p q u=>?_⟩ (fun h=>?_)
    ·rw[N j q,N _ u];exact K.1 j m Z q u
    ·have:=db n m;have:=db n u;rw[N j O,N _ O];exact K.2 j m Z q u
    ·have:=db n (j:=i.toNat) O;grind
   ·have:=Ld (lt:=lt) n y l.dropLast.length (l.dropLast.set i.toNat y) (dB (lI pl x) y i) i Z r U;have hdl:l.dropLast.length=l.length - 1:=Z;rw[alb,show((l.dropLast.length:Nat):Int) - 1=(l.length:Int) - 1 - 1 by omega]at this;have h5:0<=d*(ix d i:Nat):=aml O O;omega
  ·simp only;rw[if_neg O];have XF:=db n (j:=i.toNat) O;refine⟨Hy F n y _ _ _ i (alj _) r W K (fun j m p q=>?_),TN.1,by rw[tz,alV],Z,?_⟩
   ·have e1:=K.2 j m p q O;cases F;grind
   ·have e1:=Do lt d y i.toNat l.dropLast (lI pl x) i;have f:=jV n ((l.length:Int) - 1).toNat i ((l.length:Int) - 1) (alj _) O;unfold ix at f ⊢;have e3:(1:Int)*(Jq d ((l.length:Int) - 1).toNat ((l.length:Int) - 1):Nat)<=d*(Jq d ((l.length:Int) - 1).toNat ((l.length:Int) - 1):Nat):=
     ame O O
    grind
theorem Dp{lt:Int->Int->Bool}(x:bA lt)(z:cV d)(a:ej lt d l):∀ (m j:Nat),j<=m->j<l.length->lt (l.getD j 0) (l.getD 0 0)=false:=by
 intro m;induction m with
 |zero=>cases x;grind
 |succ m e=>
  intro j v n;by_cases h:1<=j
  ·have:=db z h;exact x.nt _ _ _ (a j h n) Z
  grind
def Nw.key(w:Nw)(a:Int):Int:=(w.cs.getD a.toNat (0,0,0)).2.1
def Nw.seq(w:Nw)(a:Int):Int:=(w.cs.getD a.toNat (0,0,0)).2.2
def aU(w:Nw)(a b:Int):Bool:=decide (w.key a<w.key b\/w.key a=w.key b/\(w.seq a<w.seq b\/w.seq a=w.seq b/\a<b))
theorem ar(w:Nw):bA (aU w):=by
 constructor<;>grind [aU]
theorem tA{w:Nw}(l:cu w.cs a)(n:cu w.cs b):w.ahead a b=aU w a b:=by
 obtain⟨a0,x,h,_⟩:=id l;obtain⟨b0,y,z,_⟩:=id n;have m:w.key a=x.2.1:=by unfold Nw.key;rw[alf,h];rfl
 have v:w.key b=y.2.1:=by unfold Nw.key;rw[alf,z];rfl
 have e:w.seq a=x.2.2:=by unfold Nw.seq;rw[alf,h];rfl
 have g:w.seq b=y.2.2:=by unfold Nw.seq;rw[alf,z];rfl
 unfold Nw.ahead aU;rw[ale l,ale n,h,z,m,v,e,g];simp only[Bool.true_and];refine decide_eq_decide.2 ?_;rw[pA,dY];omega
theorem gS(w:Nw)(x:Int)(c:Ce)(h:a.toNat≠x.toNat)(l:b.toNat≠x.toNat):aU (w.put x c) a b=aU w a b:=by
 have key:∀z:Int,z.toNat≠x.toNat->(w.put x c).key z=w.key z/\(w.put x c).seq z=w.seq z:=fun z n=>by
  unfold Nw.key Nw.seq Nw.put;grind
 unfold aU;grind
def Nw.first(w:Nw)(g x:Int):Prop:=0<g/\0<=x/\(∃e,w.cs[x.toNat]? =some (g,e))/\∀y,0<=y->(∃e,w.cs[y.toNat]? =some (g,e))->y≠x->aU w x y=true
theorem Nw.Fg{w:Nw}:w.len g=0↔(g<=0\/∀ (i:Nat) (c:Ce),w.cs[i]? =some c->c.1≠g):=by
 unfold Nw.len;by_cases z:0<g
 ·rw[if_pos z];constructor
  ·grind
  ·rintro(h|h)
   ·omega
   ·rw[amI.2 (fun c x=>by
     obtain⟨i,hi⟩:=als x;grind)]
    rfl
 omega
theorem Nw.first.Ki{w:Nw}(h:w.first g x):cu w.cs x:=by
 obtain⟨e,z⟩:=h.2.2.1;exact⟨h.2.1,_,z,h.1⟩
def O3(w w':Nw)(g:Int):Prop:=∀ (i:Nat) (e:Int×Int),w.cs[i]? =some (g,e)↔w'.cs[i]? =some (g,e)
theorem O3.put{w w':Nw}(h:O3 w w' g)(l:0<g)(x:Int)(z:w.cs.length=w'.cs.length):O3 (w.put x (0,0,0)) (w'.put x (0,0,0)) g:=by
 intro i e;unfold Nw.put;simp only[List.getElem?_set,z];by_cases hi:x.toNat=i
 ·grind
 ·simp only[if_neg hi];exact h i e
theorem sk(w:Nw)(a b:Int)(i:Nat):(w.join a b).cs[i]? =(w.cs[i]?).map fun c=>if c.1=b then(a,c.2)else c:=by
 unfold Nw.join;grind
theorem Nw.Dq(w:Nw)(x:a≠b)(z:0<a)(l:0<b)(h:Int):(w.join a b).len h=if h=a then w.len a+w.len b else if h=b then 0 else w.len h:=by
 unfold Nw.len Nw.join;simp only[AX w.cs a b h x];grind
theorem sn(w:Nw)(a b x y:Int):aU (w.join a b) x y=aU w x y:=by
 have key:∀z:Int,(w.join a b).key z=w.key z/\(w.join a b).seq z=w.seq z:=fun z=>by
  unfold Nw.key Nw.seq;simp only[alf,sk];grind
 unfold aU;grind
theorem Dr(w:Nw)(h:0<a)(z:0<b)(x:Int):cu (w.join a b).cs x↔cu w.cs x:=by
 unfold cu;rw[sk];grind
def aH(w:Nw)(x:Int):Int:=if 0<=x then(w.cs.getD x.toNat (0,0,0)).1 else 0
theorem iO{w:Nw}{y:Ce}(z:0<=x)(h:w.cs[x.toNat]? =some y):aH w x=y.1:=by
 unfold aH;grind
theorem aI{w:Nw}(h:0<aH w x):0<=x/\x<w.cs.length/\∃e,w.cs[x.toNat]? =some (aH w x,e):=by
 unfold aH at h ⊢;grind
theorem bf{w:Nw}:0<aH w x↔cu w.cs x:=by
 constructor
 ·intro h;obtain⟨z,_,e,l⟩:=aI h;exact⟨z,_,l,h⟩
 ·rintro⟨z,y,n,a⟩;rw[iO z n];exact a
theorem bh{w:Nw}:w.first g x↔(0<g/\aH w x=g/\∀y,aH w y=g->y≠x->aU w x y=true):=by
 constructor
 ·rintro⟨z,l,⟨e,h⟩,d⟩;refine⟨z,iO l h,fun y p n=>?_⟩;obtain⟨m,_,v,a⟩:=aI (w:=w) (x:=y) O;grind
 ·rintro⟨z,l,r⟩;obtain⟨j,_,e,h⟩:=aI (w:=w) (x:=x) O;rw[l]at h;exact⟨z,j,⟨e,h⟩,fun y m ⟨v,a⟩ n=>r y (iO m a) n⟩
theorem nX{w:Nw}(a:0<g):w.len g=0↔∀x,aH w x≠g:=by
 rw[Nw.Fg];constructor
 ·rintro(h|h) x n
  ·omega
  ·obtain⟨_,_,e,l⟩:=aI (w:=w) (x:=x) O;grind
 ·intro h;refine .inr fun i c z e=>h (i:Int) ?_;rw[iO (y:=c) O Z];exact e
theorem dT{w:Nw}(hi:0<=i/\i<w.cs.length)(c:Ce)(x:Int):aH (w.put i c) x=if x=i then c.1 else aH w x:=by
 unfold aH Nw.put;grind
theorem lN{w:Nw}(h:0<b)(x:Int):aH (w.join a b) x=if aH w x=b then a else aH w x:=by
 unfold aH;split
 ·rw[alf,alf,sk];grind
 omega
theorem O4{lt:Int->Int->Bool}(z:bA lt){P:Int->Prop}{n:Nat}(v:∀x,P x->0<=x/\x<n)(l:P x):∃m,P m/\∀y,P y->y≠m->lt m y=true:=by
 have key:∀k:Nat,∀x,P x->((List.range n).countP fun(i:Nat)=>lt i x)<=k->∃m,P m/\∀y,P y->y≠m->lt m y=true:=by
  intro k;induction k with
  |zero=>
   intro x l e;refine⟨x,l,fun y a r=>?_⟩;rcases z.VQ x y (Ne.symm r)with h|h
   ·exact h
   ·have j:=v y a;have:=(amI.1 (Nat.le_zero.1 e)) y.toNat Z;grind
  |succ k p=>
   intro x l e;by_cases d:∃y,P y/\lt y x=true
   ·obtain⟨y,a,g⟩:=d;refine p y a ?_;have j:=v y a;have q:(List.range n).countP (fun(i:Nat)=>lt i y)< (List.range n).countP fun(i:Nat)=>lt i x:=by
     refine oH (fun i hi=>z.tr _ _ _ hi g) (x:=y.toNat) Z ?_ ?_
     ·cases z;grind
     ·grind
    omega
   cases z;grind
 exact key _ x l (alj _)
theorem so{w:Nw}(l:0<g)(h:w.len g≠0):∃x,w.first g x:=by
 have v:¬ ∀x,aH w x≠g:=fun y=>h ((nX l).2 y);obtain⟨x,z⟩:=Classical.not_forall.1 v;have z:=Classical.not_not.1 z;obtain⟨m,hm,e⟩:=O4 (ar w) (P:=fun x=>aH w x=g) (n:=w.cs.length) (fun x z=>by obtain⟨a,b,_⟩:=aI (w:=w) (x:=x) O;omega) z;exact⟨m,bh.2 ⟨l,hm,e⟩⟩
theorem du{w:Nw}(hi:0<=i/\i<w.cs.length)(c:Ce)(x:0<aH w a)(h:0<aH w b)(z:a≠i)(l:b≠i):aU (w.put i c) a b=aU w a b:=by
 obtain⟨a0,_⟩:=aI x;obtain⟨b0,_⟩:=aI h;exact gS w i c O O
theorem xV{w:Nw}{k s:Int}(v:cu w.cs i){y:Ce}(x:w.cs[i.toNat]? =some y)(e:¬dY y.2.1 y.2.2 k s)(n:0<aH w b)(g:b≠i)(h:aU w i b=true):aU (w.put i (y.1,k,s)) i b=true:=by
 obtain⟨b0,_⟩:=aI n;have r:=v.1;have m:=(ak8.1 x).1;have z:(w.put i (y.1,k,s)).key i=k/\(w.put i (y.1,k,s)).seq i=s:=by
  unfold Nw.key Nw.seq Nw.put;simp only[alf];rw[aln m];exact⟨rfl,rfl⟩
 have l:w.key i=y.2.1/\w.seq i=y.2.2:=by
  unfold Nw.key Nw.seq;simp only[alf,x];exact⟨rfl,rfl⟩
 have a:(w.put i (y.1,k,s)).key b=w.key b/\(w.put i (y.1,k,s)).seq b=w.seq b:=by
  unfold Nw.key Nw.seq Nw.put;simp only[alf];rw[alh O];exact⟨rfl,rfl⟩
 unfold aU at h ⊢;rw[l.1,l.2]at h;rw[z.1,z.2,a.1,a.2];unfold dY at e;grind
def CQ(H:Hp)(c:Nat)(C:Nat->Prop)(w:Nw):Prop:=∃st,bj H c C st w
section
variable {H J : Hp} {c : Nat} {C T : Nat → Prop} {w : Nw}
theorem CQ.ext(h:CQ H c C w)(e:aj T H J)(z:∀x,C x->¬T x):CQ J c C w:=by obtain⟨st,h⟩:=h;exact⟨st,h.ext e z⟩
theorem CQ.fresh(h:CQ H c C w)(e:af H J):CQ J c C w:=h.ext e fun _ _ h=>h
theorem CQ.slt(h:CQ H c C w):∀x,C x->x<H.size:=by obtain⟨st,h⟩:=h;exact h.slt
theorem CQ.yY(h:CQ H c C w):w.cs.length<=65536:=by obtain⟨st,h⟩:=h;exact h.yY
theorem CQ.Hv(h:CQ H c C w):w.hs.length<=65537:=by obtain⟨st,h⟩:=h;exact h.Hv
theorem CQ.home(h:CQ H c C w):∀x∈w.cs,0<=x.1/\x.1<w.hs.length:=by obtain⟨st,h⟩:=h;exact h.home
theorem CQ.live(h:CQ H c C w):∀x∈w.cs,0<x.1->w.hs[x.1.toNat]? =some true:=by obtain⟨st,h⟩:=h;exact h.live
theorem CQ.hm(h:CQ H c C w)(x:Int):0<=aH w x/\(0<aH w x->w.has (aH w x)/\aH w x<w.hs.length):=by
 by_cases z:0<aH w x
 ·obtain⟨n,m,e,l⟩:=aI z;have hm:=ali l;have:=h.home _ hm;have a:=h.live _ hm z;exact⟨O,fun _=>⟨⟨O,a⟩,this.2⟩⟩
 ·refine⟨?_,O⟩;unfold aH;split
  ·rw[alf];cases v:w.cs[x.toNat]? with
   |none=>grind
   |some y=>exact(h.home y Z).1
  omega
theorem CQ.pos(h:CQ H c C w):0<w.hs.length:=by
 obtain⟨st,cs,len,rt,aY,z,x⟩:=h;exact(ak8.1 x.h0).1
theorem cv(h:CQ H c C w)(a b:Int):aD 391 [ptr c,i64 a,i64 b] H fun v J=>ak (v= .bool (w.ahead a b)/\CQ J c C w/\aj C H J):=by
 obtain⟨st,h⟩:=h;refine(iN h a b).mono ?_;rintro v J ⟨x,z,l⟩;exact⟨x,⟨_,z⟩,l⟩
theorem eU(h:CQ H c C w)(i:Int):aD 356 [ptr c,i64 i] H fun v J=>ak (v=i64 (w.len i)/\H=J):=by
 obtain⟨st,h⟩:=h;exact gR h i
theorem ii(h:CQ H c C w)(i:Int):aD 353 [ptr c,i64 i] H fun v J=>ak (v= .bool (decide (w.has i))/\H=J):=by
 obtain⟨st,h⟩:=h;exact gQ h i
theorem iP(h:CQ H c C w):aD 370 [ptr c] H fun v J=>ak (
  (w.hs.length=65537/\v=i64 0/\H=J)\/(w.hs.length≠65537/\v=i64 w.hs.length/\∃l,CQ J c l w.make/\aj C H J/\∀x,l x->C x\/H.size<=x)):=by
 obtain⟨st,h⟩:=h;refine(ju h).mono ?_;rintro v J (z| ⟨z,n,a,m,e⟩)
 ·exact .inl z
 ·exact .inr ⟨z,n,a,⟨_,m⟩,e⟩
theorem jW(h:CQ H c C w)(g i k s:Int):aD 368 [ptr c,i64 g,i64 i,ms k s] H fun v J=>ak (
  (¬ (w.has g/\(0<=i/\i<w.cs.length)/\¬cu w.cs i)/\v= .bool false/\CQ J c C w/\aj C H J)\/
  ((w.has g/\(0<=i/\i<w.cs.length)/\¬cu w.cs i)/\v= .bool true/\CQ J c C (w.put i (g,k,s))/\aj C H J)):=by
 obtain⟨st,h⟩:=h;refine(kq h g i k s).mono ?_;rintro v J (⟨x,z,l,a⟩| ⟨x,z,l,a⟩)
 ·exact .inl ⟨x,z,⟨_,l⟩,a⟩
 ·exact .inr ⟨x,z,⟨_,l⟩,a⟩
theorem bC(h:CQ H c C w)(i:Int):aD 354 [ptr c,i64 i] H fun v J=>ak (
  (¬cu w.cs i/\v= .tuple [i64 0,.bool false].toArray/\H=J)\/(cu w.cs i/\v= .tuple [i64 (aH w i),.bool true].toArray/\CQ J c C w/\aj C H J)):=by
 obtain⟨st,h⟩:=h;refine(cW h i).mono ?_;rintro v J (z| ⟨z,x,m,l,a,n⟩)
 ·exact .inl z
 ·exact .inr ⟨z,by rw[l,iO z.1 m],⟨_,a⟩,n⟩
theorem gI(h:CQ H c C w)(i:Int):aD 351 [ptr c,i64 i] H fun v J=>ak (CQ J c C w/\af H J/\(
  (¬cu w.cs i/\v= .tuple [ms 0 0,.bool false].toArray)\/(cu w.cs i/\∃x,w.cs[i.toNat]? =some x/\v= .tuple [ms x.2.1 x.2.2,.bool true].toArray))):=by
 obtain⟨st,h⟩:=h;refine(iL h i).mono ?_;rintro v J ⟨z,l,a⟩;exact⟨⟨_,z⟩,l,a⟩
theorem bZ(h:CQ H c C w)(i:Int):aD 364 [ptr c,i64 i] H fun v J=>ak (
  (¬cu w.cs i/\v= .bool false/\H=J)\/(cu w.cs i/\v= .bool true/\CQ J c C (w.put i (0,0,0))/\aj C H J)):=by
 obtain⟨st,h⟩:=h;refine(jv h i).mono ?_;rintro v J (x| ⟨x,z,l,a⟩)
 ·exact .inl x
 ·exact .inr ⟨x,z,⟨_,l⟩,a⟩
theorem gJ(h:CQ H c C w)(i k s:Int):aD 361 [ptr c,i64 i,ms k s] H fun v J=>ak (
  (¬ (cu w.cs i/\∀x,w.cs[i.toNat]? =some x->¬dY x.2.1 x.2.2 k s)/\v= .bool false/\CQ J c C w/\af H J)\/
  (cu w.cs i/\v= .bool true/\∃x,w.cs[i.toNat]? =some x/\¬dY x.2.1 x.2.2 k s/\CQ J c C (w.put i (x.1,k,s))/\aj C H J)):=by
 obtain⟨st,h⟩:=h;refine(iM h i k s).mono ?_;rintro v J (⟨z,l,a,n⟩| ⟨z,l,x,a,n,m,e⟩)
 ·exact .inl ⟨z,l,⟨_,a⟩,n⟩
 ·exact .inr ⟨z,l,x,a,n,⟨_,m⟩,e⟩
theorem iQ(h:CQ H c C w)(a b:Int):aD 371 [ptr c,i64 a,i64 b] H fun v J=>ak (
  (¬ (w.has a/\w.has b/\a≠b)/\v= .bool false/\H=J)\/((w.has a/\w.has b/\a≠b)/\v= .bool true/\CQ J c C (w.join a b)/\aj C H J)):=by
 obtain⟨st,h⟩:=h;refine(jw h a b).mono ?_;rintro v J (x| ⟨x,z,l,n⟩)
 ·exact .inl x
 ·exact .inr ⟨x,z,⟨_,l⟩,n⟩
end
theorem jX(cap:Int)(H:Hp):aD 147 [i64 cap] H fun v J=>ak (
  af H J/\((¬ (0<=cap/\cap<=65536)/\v= .tuple [.pointer none,i64 31].toArray)\/
   (0<=cap/\cap<=65536)/\∃c C,v= .tuple [ptr c,i64 0].toArray/\CQ J c C ⟨[false],List.replicate cap.toNat (0,0,0)⟩/\(∀x,C x->H.size<=x))):=by
 refine(km cap H).mono ?_;rintro v J ⟨z,h| ⟨h,c,C,l,a,n⟩⟩
 ·exact⟨z,.inl h⟩
 ·exact⟨z,.inr ⟨h,c,C,l,⟨_,a⟩,n⟩⟩
theorem fQ{w:Nw}(x:0<aH w a)(h:0<aH w b):w.ahead a b=aU w a b:=tA (bf.1 x) (bf.1 h)
def aO(tops:List Int)(h:Int):Int:=if 0<=h then tops.getD h.toNat (-1)else -1
theorem ce{tops:List Int}(x:0<=h)(z:h<tops.length):tops[h.toNat]? =some (aO tops h):=by
 grind [aO]
theorem dJ{tops:List Int}(z:0<=h)(l:h<tops.length)(x:Int):aO (tops.set h.toNat x)=cR (aO tops) h x:=by
 grind [cR,aO]
theorem xW(tops:List Int):aO (tops++[-1])=aO tops:=by
 grind [aO]
end
section
variable{p x:Int}{i:Nat}{J:Hp}
structure Lk where
 a:Int
 b:Int
 u:Int
def Le(y:Lk):List Value:=[i64 y.a,i64 y.b,i64 y.u]
def aP(L:List Lk):List Value:=L.flatMap Le
theorem ij(L:List Lk):(aP L).length=L.length*3:=by
 induction L with
 |nil=>rfl
 |cons c r x=>simp only[aP,amQ,alm,Le,alk,alP]at*;omega
def Lk.re(y:Lk)(c:Bool):Int:=if c then y.b else y.a
def Lk.fR(y:Lk)(c:Bool)(v:Int):Lk:=if c then⟨y.a,v,y.u⟩else⟨v,y.b,y.u⟩
theorem Lk.Rq(y:Lk)(c d:Bool)(v:Int):(y.fR c v).re d=if d=c then v else y.re d:=by cases c<;>cases d<;>rfl
theorem Lk.XG(y:Lk)(c:Bool)(v:Int):(y.fR c v).u=y.u:=by cases c<;>rfl
theorem Mn{L:List Lk}{y:Lk}(hi:L[i]? =some y):(aP L)[i*3]? =some (i64 y.a)/\(aP L)[i*3+1]? =some (i64 y.b)/\(aP L)[i*3+2]? =some (i64 y.u):=by
 induction L generalizing i with
 |nil=>grind
 |cons a r x=>
  have e:aP (a::r)=i64 a.a::i64 a.b::i64 a.u::aP r:=rfl;grind
theorem TP{L:List Lk}{y:Lk}(hi:L[i]? =some y)(c:Bool):(aP L)[i*3+c.toNat]? =some (i64 (y.re c)):=by
 obtain⟨x,h,z⟩:=Mn hi;cases c
 ·exact x
 ·exact h
theorem tB{L:List Lk}{y:Lk}(hi:L[i]? =some y)(c:Bool)(v:Int):(aP L).set (i*3+c.toNat) (i64 v)=aP (L.set i (y.fR c v)):=by
 induction L generalizing i with
 |nil=>rfl
 |cons a r h=>
  have e:aP (a::r)=i64 a.a::i64 a.b::i64 a.u::aP r:=rfl;cases i with
  |zero=>
   simp at hi;subst hi;cases c<;>rfl
  |succ i=>
   have x:aP ((a::r).set (i+1) (y.fR c v))=i64 a.a::i64 a.b::i64 a.u::aP (r.set i (y.fR c v)):=rfl;grind
theorem Ds{L:List Lk}{y:Lk}(hi:L[i]? =some y)(v:Int):(aP L).set (i*3+2) (i64 v)=aP (L.set i ⟨y.a,y.b,v⟩):=by
 induction L generalizing i with
 |nil=>rfl
 |cons a r h=>
  have e:aP (a::r)=i64 a.a::i64 a.b::i64 a.u::aP r:=rfl;cases i with
  |zero=>simp at hi;subst hi;rfl
  |succ i=>
   have x:aP ((a::r).set (i+1) ⟨y.a,y.b,v⟩)=i64 a.a::i64 a.b::i64 a.u::aP (r.set i ⟨y.a,y.b,v⟩):=rfl;grind
def bk(L:List Lk)(x:Int)(c:Bool):Int:=if 0<=x then(match L[x.toNat]? with|some y=>y.re c|none=> -1)else -1
def bq(L:List Lk)(x:Int):Int:=if 0<=x then(match L[x.toNat]? with|some y=>y.u|none=> -1)else -1
theorem pD{L:List Lk}{y:Lk}(z:0<=x)(h:L[x.toNat]? =some y)(c:Bool):bk L x c=y.re c:=by unfold bk;grind
theorem sp{L:List Lk}{y:Lk}(z:0<=x)(h:L[x.toNat]? =some y):bq L x=y.u:=by unfold bq;grind
theorem TQ{L:List Lk}(h:¬ (0<=x/\x<L.length))(c:Bool):bk L x c= -1:=by
 grind [bk]
theorem Lf{L:List Lk}(h:¬ (0<=x/\x<L.length)):bq L x= -1:=by
 unfold bq;grind
theorem pE{L:List Lk}{y:Lk}(x:0<=p)(h:L[p.toNat]? =some y)(c:Bool)(v:Int):bk (L.set p.toNat (y.fR c v))=eK (bk L) p c v:=by
 have a:=(ak8.1 h).1;funext z d;unfold eK;by_cases l:z=p
 ·subst l;rw[pD x (aln a),Lk.Rq,pD x h];grind
 ·rw[if_neg (fun h=>l h.1)];unfold bk;grind
theorem pF{L:List Lk}{y:Lk}(x:0<=p)(h:L[p.toNat]? =some y)(c:Bool)(v:Int):bq (L.set p.toNat (y.fR c v))=bq L:=by
 have l:=(ak8.1 h).1;funext z;by_cases a:z=p
 ·subst a;rw[sp x (aln l),Lk.XG,sp x h]
 ·unfold bq;grind
theorem zN{L:List Lk}{y:Lk}(x:0<=p)(h:L[p.toNat]? =some y)(v:Int):bk (L.set p.toNat ⟨y.a,y.b,v⟩)=bk L:=by
 have l:=(ak8.1 h).1;funext z d;by_cases a:z=p
 ·subst a;rw[pD x (aln l),pD x h];rfl
 ·unfold bk;grind
theorem zO{L:List Lk}{y:Lk}(l:0<=p)(h:L[p.toNat]? =some y)(v:Int):bq (L.set p.toNat ⟨y.a,y.b,v⟩)=aM (bq L) p v:=by
 have a:=(ak8.1 h).1;funext z;unfold aM;by_cases x:z=p
 ·subst x;rw[sp l (aln a),if_pos rfl]
 ·rw[if_neg x];unfold bq;grind
structure bR(H:Hp)(t tl:Nat)(L:List Lk):Prop where
 own:H.own t=some [.slice (some ⟨tl,0,none⟩) L.length L.length]
 jY:H.own tl=some (aP L)
 ne:t≠tl
theorem bR.ext{S:Nat->Prop}{H:Hp}{t tl:Nat}{L:List Lk}(h:bR H t tl L)(e:aj S H J)(x:¬S t)(z:¬S tl):bR J t tl L:=⟨e.own h.own x,e.own h.jY z,h.ne⟩
theorem bR.fresh{H:Hp}{t tl:Nat}{L:List Lk}(h:bR H t tl L)(e:af H J):bR J t tl L:=h.ext e (fun h=>h) (fun h=>h)
theorem bR.put{H:Hp}{t tl:Nat}{L L':List Lk}(h:bR H t tl L)(x:L'.length=L.length):bR (H.wr tl (aP L')) t tl L':=
 ⟨by rw[aG h.ne.symm,x];exact h.own,ah h.jY,h.ne⟩
section
variable {H : Hp} {t tl : Nat} {L : List Lk}
theorem fT(h:bR H t tl L)(x:Int):aD 472 [ptr t,i64 x] H fun v J=>ak (v= .bool (decide (0<=x/\x<L.length))/\J=H):=by
 refine aL xL ?_;refine vs ?_;refine ai.dec (fun g=>?_) (fun g=>?_)<;>refine v1 (ae h.own) ?_
 ·exact⟨by grind [Cd],rfl⟩
 ·exact⟨by grind [Cd],rfl⟩
theorem kt(H:Hp)(c:Bool):aD 468 [.bool c] H fun v J=>ak (v=i64 c.toNat/\J=H):=by
 refine aL Hs ?_;refine vs ?_;cases c<;>refine vs ?_<;>exact⟨rfl,rfl⟩
def gz(x:Int):Value:=if x= -1 then .tuple [i64 0,.bool false].toArray else .tuple [i64 x,.bool true].toArray
theorem kw(H:Hp)(x:Int):aD 471 [i64 x] H fun v J=>ak (v=gz x/\J=H):=by
 refine aL Ht ?_;refine vs ?_;unfold gz;refine ai.dec (fun g=>?_) (fun g=>?_)<;>refine vs ?_
 ·rw[if_pos g];exact⟨rfl,rfl⟩
 ·rw[if_neg g];exact⟨rfl,rfl⟩
theorem iR(h:bR H t tl L)(x:Int)(c:Bool):aD 469 [ptr t,i64 x,.bool c] H fun v J=>ak (v=i64 (bk L x c)/\J=H):=by
 refine aL xK ?_;refine vs ?_;refine(fT h x).mono ?_;rintro _ J ⟨rfl,e⟩;obtain rfl:=e.symm;refine vs ?_;refine ai.dec (fun g=>?_) (fun g=>?_)<;>refine vs ?_
 ·obtain⟨y,z⟩:∃y,L[x.toNat]? =some y:=⟨_,ak9 O⟩;have l:=TP z c;have a:c.toNat<2:=by cases c<;>decide
  refine v1 (ae h.own) ?_;refine⟨_,kt H c,?_⟩;refine⟨O,?_⟩;refine v4 ak7 Nat.add_zero ala Int.toNat_natCast ?_;refine⟨O,?_⟩;refine v6 (ae h.jY) ak7 Nat.add_zero ala Int.toNat_natCast l ?_;rw[pD g.1 z];exact⟨rfl,rfl⟩
 ·rw[TQ g];exact⟨rfl,rfl⟩
theorem jy(h:bR H t tl L)(x:Int):aD 467 [ptr t,i64 x] H fun v J=>ak (v=i64 (bq L x)/\J=H):=by
 refine aL uq ?_;refine vs ?_;refine(fT h x).mono ?_;rintro _ J ⟨rfl,e⟩;obtain rfl:=e.symm;refine vs ?_;refine ai.dec (fun g=>?_) (fun g=>?_)<;>refine vs ?_
 ·obtain⟨y,z⟩:∃y,L[x.toNat]? =some y:=⟨_,ak9 O⟩;have l:=(Mn z).2.2;refine v1 (ae h.own) ?_;refine⟨O,?_⟩;refine v3 (ae h.jY) ak7 l ?_;rw[sp g.1 z];exact⟨rfl,rfl⟩
 ·rw[Lf g];exact⟨rfl,rfl⟩
theorem kA(h:bR H t tl L)(x:Int):aD 463 [ptr t,i64 x] H fun v J=>ak (v=gz (bk L x false)/\J=H):=by
 refine aL wg ?_;refine vs ?_;refine(iR h x false).mono ?_;rintro _ J ⟨rfl,e⟩;obtain rfl:=e.symm;refine vs ?_;refine(kw H (bk L x false)).mono ?_;rintro _ J ⟨rfl,e⟩;obtain rfl:=e.symm;unfold gz;by_cases g:bk L x false= -1
 ·simp only[if_pos g];refine vs ?_;exact⟨(if_pos g).symm,rfl⟩
 ·simp only[if_neg g];refine vs ?_;exact⟨(if_neg g).symm,rfl⟩
theorem cC(h:bR H t tl L)(x:Int):aD 464 [ptr t,i64 x] H fun v J=>ak (v=gz (bk L x true)/\J=H):=by
 refine aL uo ?_;refine vs ?_;refine(iR h x true).mono ?_;rintro _ J ⟨rfl,e⟩;obtain rfl:=e.symm;refine vs ?_;refine(kw H (bk L x true)).mono ?_;rintro _ J ⟨rfl,e⟩;obtain rfl:=e.symm;unfold gz;by_cases g:bk L x true= -1
 ·simp only[if_pos g];refine vs ?_;exact⟨(if_pos g).symm,rfl⟩
 ·simp only[if_neg g];refine vs ?_;exact⟨(if_neg g).symm,rfl⟩
theorem mZ(h:bR H t tl L)(x:Int):aD 465 [ptr t,i64 x] H fun v J=>ak (v=gz (bq L x)/\J=H):=by
 refine aL zu ?_;refine vs ?_;refine(jy h x).mono ?_;rintro _ J ⟨rfl,e⟩;obtain rfl:=e.symm;refine vs ?_;refine(kw H (bq L x)).mono ?_;rintro _ J ⟨rfl,e⟩;obtain rfl:=e.symm;unfold gz;by_cases g:bq L x= -1
 ·simp only[if_pos g];refine vs ?_;exact⟨(if_pos g).symm,rfl⟩
 ·simp only[if_neg g];refine vs ?_;exact⟨(if_neg g).symm,rfl⟩
theorem fj(h:bR H t tl L){c:Bool}(m:0<=p/\p<L.length)(r:0<=x/\x<L.length)(A:p≠x)(K:bq L x= -1)(P:bk L p c= -1):
  aD 466 [ptr t,i64 p,i64 x,.bool c] H fun v J=>ak (v= .bool true/\∃L',bR J t tl L'/\L'.length=L.length/\bk L'=q9 (bk L) p x c/\bq L'=aM (bq L) x p/\aj (fun z=>z=tl) H J):=by
 refine aL wh ?_;refine vs ?_;refine(fT h p).mono ?_;rintro _ J ⟨rfl,e⟩;obtain rfl:=e.symm;rw[ale m];refine vs ?_;refine(fT h x).mono ?_;rintro _ J ⟨rfl,e⟩;obtain rfl:=e.symm;rw[ale r];refine vs ?_;refine ai.dec (fun g=>absurd g A) (fun _=>?_);refine vs ?_;refine(jy h x).mono ?_;rintro _ J ⟨rfl,e⟩;obtain rfl:=e.symm;rw[K];refine v1 alr ?_;refine(iR h p c).mono ?_;rintro _ J ⟨rfl,e⟩;obtain rfl:=e.symm;rw[P];refine v1 alr ?_;obtain⟨y,j⟩:∃y,L[p.toNat]? =some y:=⟨_,ak9 O⟩;have Q:c.toNat<2:=by cases c<;>decide
 have U:=ij L;refine v1 (ae h.own) ?_;refine⟨_,kt H c,?_⟩;refine⟨O,?_⟩;refine v4 ak7 Nat.add_zero ala Int.toNat_natCast ?_;refine⟨O,?_⟩;refine v5 h.jY ak7 Nat.add_zero ala Int.toNat_natCast ?_;refine⟨O,?_⟩;have a:=h.put (L':=L.set p.toNat (y.fR c x)) Z;have o:aj (fun z=>z=tl) H (H.wr tl (aP (L.set p.toNat (y.fR c x)))):=(aj.refl (fun z=>z=tl) _).wr (fun _=>rfl) _;rw[<-tB j c x]at a o;have F:=pE m.1 j c x;have N:=pF m.1 j c x;have l1:(L.set p.toNat (y.fR c x)).length=L.length:=alb ..
 generalize L.set p.toNat (y.fR c x)=l at*;refine vs ?_;generalize H.wr tl ((aP L).set (p.toNat*3+c.toNat) (i64 x))=q at*;obtain⟨n,d⟩:∃y,l[x.toNat]? =some y:=Z;have W:=ij l;refine v1 (ae a.own) ?_;refine⟨O,?_⟩;refine v2 a.jY ak7 ?_;refine⟨O,?_⟩;have u:=a.put (L':=l.set x.toNat ⟨n.a,n.b,p⟩) Z;have f:aj (fun z=>z=tl) q (q.wr tl (aP (l.set x.toNat ⟨n.a,n.b,p⟩))):=(aj.refl (fun z=>z=tl) _).wr (fun _=>rfl) _;rw[<-Ds d p]at u f;refine vs ?_;exact⟨rfl,_,u,Z,by rw[zN r.1 d,F];rfl,by rw[zO r.1 d,N],o.trans f⟩
theorem cK(h:bR H t tl L)(F:bq L x≠ -1->0<=bq L x/\bq L x<L.length):
  aD 459 [ptr t,i64 x] H fun v J=>ak (v=gz (bq L x)/\∃L',bR J t tl L'/\L'.length=L.length/\bk L'=iy (bk L) (bq L) x/\bq L'=df (bq L) x/\aj (fun z=>z=tl) H J):=by
 refine aL xJ ?_;refine vs ?_;refine(jy h x).mono ?_;rintro _ J ⟨rfl,e⟩;obtain rfl:=e.symm;refine vs ?_;have I:=ij L;refine ai.dec (fun g=>?_) (fun g=>?_)<;>refine vs ?_
 ·refine⟨by unfold gz;rw[if_pos g];rfl,L,h,rfl,by unfold iy;grind,?_,aj.refl _ _⟩;funext z;unfold df aM;grind
 have f:0<=x/\x<L.length:=alt fun A=>g (Lf A);obtain⟨u,D⟩:=F g;generalize G:bq L x=p at*;obtain⟨y,m⟩:∃y,L[p.toNat]? =some y:=⟨_,ak9 O⟩;have P:∀c:Bool,c.toNat<2:=fun c=>by cases c<;>decide
 refine v1 (ae h.own) ?_;refine⟨_,iR h p true,?_⟩;refine vs ?_;refine⟨_,kt H (decide (bk L p true=x)),?_⟩;have K:decide (bk L p true=x)=(bk L p true==x):=by rfl
 rw[K];have U:=P (bk L p true==x);generalize W:(bk L p true==x)=c at*;refine⟨O,?_⟩;refine v4 ak7 Nat.add_zero ala Int.toNat_natCast ?_;refine⟨⟨O,O⟩,?_⟩;refine v5 h.jY ak7 Nat.add_zero ala Int.toNat_natCast ?_;refine⟨O,?_⟩;have a:=h.put (L':=L.set p.toNat (y.fR c (-1))) Z;have d:aj (fun z=>z=tl) H (H.wr tl (aP (L.set p.toNat (y.fR c (-1))))):=(aj.refl (fun z=>z=tl) _).wr (fun _=>rfl) _;rw[<-tB m c (-1)]at a d;have N:=pE u m c (-1);have Q:=pF u m c (-1);have l1:(L.set p.toNat (y.fR c (-1))).length=L.length:=alb ..
 generalize L.set p.toNat (y.fR c (-1))=l at*;refine vs ?_;generalize H.wr tl ((aP L).set (p.toNat*3+c.toNat) (i64 (-1)))=j at*;obtain⟨n,r⟩:∃y,l[x.toNat]? =some y:=Z;have V:=ij l;refine v1 (ae a.own) ?_;refine⟨O,?_⟩;refine v2 a.jY ak7 ?_;refine⟨O,?_⟩;have o:=a.put (L':=l.set x.toNat ⟨n.a,n.b, -1⟩) Z;have q:aj (fun z=>z=tl) j (j.wr tl (aP (l.set x.toNat ⟨n.a,n.b, -1⟩))):=(aj.refl (fun z=>z=tl) _).wr (fun _=>rfl) _;rw[<-Ds r (-1)]at o q;refine vs ?_;refine⟨by unfold gz;rw[if_neg g];rfl,_,o,Z,?_,by rw[zO f.1 r,Q];rfl,d.trans q⟩;rw[zN f.1 r,N];unfold iy;grind
theorem O5{L:List Lk}{y:Lk}(x:0<=p)(h:L[p.toNat]? =some y):bk (L.set p.toNat ⟨y.b,y.a,y.u⟩)=lj (bk L) p/\bq (L.set p.toNat ⟨y.b,y.a,y.u⟩)=bq L:=by
 have a:=(ak8.1 h).1;constructor
 ·funext z d;unfold lj;by_cases l:z=p
  ·subst l;rw[pD x (aln a),if_pos rfl,pD x h];cases d<;>rfl
  ·rw[if_neg l];unfold bk;split
   ·rw[alh O]
   ·rfl
 ·funext z;by_cases l:z=p
  ·subst l;rw[sp x (aln a),sp x h]
  ·unfold bq;grind
theorem Lg{L:List Lk}{y:Lk}(hi:L[i]? =some y):((aP L).set (i*3) (i64 y.b)).set (i*3+1) (i64 y.a)=aP (L.set i ⟨y.b,y.a,y.u⟩):=by
 induction L generalizing i with
 |nil=>rfl
 |cons a r h=>
  have e:aP (a::r)=i64 a.a::i64 a.b::i64 a.u::aP r:=rfl;cases i with
  |zero=>simp at hi;subst hi;rfl
  |succ i=>
   have x:aP ((a::r).set (i+1) ⟨y.b,y.a,y.u⟩)=i64 a.a::i64 a.b::i64 a.u::aP (r.set i ⟨y.b,y.a,y.u⟩):=rfl;grind
theorem kB(h:bR H t tl L)(g:0<=p/\p<L.length):
  aD 474 [ptr t,i64 p] H fun v J=>ak (v= .bool true/\∃L',bR J t tl L'/\L'.length=L.length/\bk L'=lj (bk L) p/\bq L'=bq L/\aj (fun z=>z=tl) H J):=by
 refine aL wi ?_;refine vs ?_;refine(fT h p).mono ?_;rintro _ J ⟨rfl,e⟩;obtain rfl:=e.symm;rw[ale g];obtain⟨y,a⟩:∃y,L[p.toNat]? =some y:=⟨_,ak9 O⟩;have f:=ij L;obtain⟨a1,a2,a3⟩:=Mn a;refine v1 (ae h.own) ?_;refine⟨O,?_⟩;refine vs ?_;have x:Int.toNat 1=1:=rfl;refine⟨O,?_⟩;refine v8 (ae h.jY) ak7 Nat.add_zero ala Int.toNat_zero x a1 a2 ?_;refine⟨O,?_⟩;refine v8 (ae h.jY) ak7 Nat.add_zero ala Int.toNat_zero x a1 a2 ?_;refine⟨O,?_⟩;refine v6 h.jY ak7 Nat.add_zero ala Int.toNat_zero x ?_;refine⟨O,?_⟩;refine vs ?_;refine⟨O,?_⟩;have r:(H.wr tl ((aP L).set (p.toNat*3) (i64 y.b))).own tl=_:=ah h.jY;have n:aj (fun z=>z=tl) H (H.wr tl ((aP L).set (p.toNat*3) (i64 y.b))):=(aj.refl (fun z=>z=tl) _).wr (fun _=>rfl) _;have o:=n.own h.own h.ne;generalize H.wr tl ((aP L).set (p.toNat*3) (i64 y.b))=l at*;refine v6 r ak7 Nat.add_zero ala Int.toNat_zero x ?_;refine⟨Z,?_⟩;have m:aj (fun z=>z=tl) l (l.wr tl (((aP L).set (p.toNat*3) (i64 y.b)).set (p.toNat*3+1) (i64 y.a))):=(aj.refl (fun z=>z=tl) _).wr (fun _=>rfl) _;have q:(l.wr tl (((aP L).set (p.toNat*3) (i64 y.b)).set (p.toNat*3+1) (i64 y.a))).own tl=_:=ah r;refine vs ?_;obtain⟨j,d⟩:=O5 g.1 a;refine⟨rfl,L.set p.toNat ⟨y.b,y.a,y.u⟩,⟨by rw[alb];exact m.own o h.ne,by rw[<-Lg a];exact q,h.ne⟩,alb ..,j,d,n.trans m⟩
end
theorem Mo(n:Nat):dm [Value.int .i64 0,Value.int .i64 0,Value.int .i64 0] n=aP (List.replicate n ⟨0,0,0⟩):=by
 unfold dm;induction n with
 |zero=>rfl
 |succ n x=>grind [aP,Le]
theorem Gq{L:List Lk}(hi:i<L.length)(y:Lk):aQ (aP L) (i*3) [i64 y.a,i64 y.b,i64 y.u]=aP (L.set i y):=by
 simp only[aQ];induction L generalizing i with
 |nil=>rfl
 |cons a r h=>
  have e:aP (a::r)=i64 a.a::i64 a.b::i64 a.u::aP r:=rfl;cases i with
  |zero=>rfl
  |succ i=>
   have x:aP ((a::r).set (i+1) y)=i64 a.a::i64 a.b::i64 a.u::aP (r.set i y):=rfl;grind
def jz:Lk:=⟨-1, -1, -1⟩
theorem sr(H:Hp){n:Int}(F:0<=n/\n<=65536):aD 152 [i64 n] H fun v J=>ak (∃t tl,v= .tuple [ptr t,i64 0].toArray/\bR J t tl (List.replicate n.toNat jz)/\af H J/\H.size<=t/\H.size<=tl):=by
 refine aL Jh ?_;refine vs ?_;refine ai.dec (fun g=>absurd g O) (fun _=>?_);refine vs ?_;refine ai.dec (fun g=>absurd g O) (fun _=>?_);refine vs ?_;refine⟨O,?_⟩;refine vs ?_;rw[Mo];have p:af H ((H.new 334 (aP (List.replicate n.toNat ⟨0,0,0⟩))).new 331 [.slice (some ⟨H.size,0,none⟩) n.toNat n.toNat]):=bm.new _ _;have y:bR ((H.new 334 (aP (List.replicate n.toNat ⟨0,0,0⟩))).new 331 [.slice (some ⟨H.size,0,none⟩) n.toNat n.toNat]) (H.size+1) H.size (List.replicate n.toNat ⟨0,0,0⟩):=by
  refine⟨?_,?_,O⟩
  ·rw[alL];exact az (by simp only[ag])
  ·rw[ax (by simp only[ag];omega),am]
 generalize (H.new 334 (aP (List.replicate n.toNat ⟨0,0,0⟩))).new 331 [.slice (some ⟨H.size,0,none⟩) n.toNat n.toNat]=h at*;have P:=y.own;rw[alL]at P;refine ba.intro (fun m env J=>∃j:Nat,m=n.toNat - j/\j<=n.toNat/\aj (fun z=>z=H.size) h J/\bR J (H.size+1) H.size (List.replicate j jz++List.replicate (n.toNat - j) ⟨0,0,0⟩)/\
  env=[(4,ptr (H.size+1)),(20,i64 (n.toNat:Nat)),(21,i64 j)]) n.toNat ⟨0,O,O,aj.refl _ _,y,rfl⟩ ?_
 rintro m env r ⟨j,rfl,K,l,x,rfl⟩;have f:=ij (List.replicate j jz++List.replicate (n.toNat - j) (⟨0,0,0⟩:Lk));have o:(List.replicate j jz++List.replicate (n.toNat - j) (⟨0,0,0⟩:Lk)).length=n.toNat:=by simp;omega
 have e:=x.own;rw[o]at f e;refine vs ?_;refine ai.dec (fun u=>?_) (fun u=>?_)<;>refine vs ?_
 ·first|refine v1 (ae e) ?_|skip
  refine⟨O,?_⟩;refine v3 x.jY ak7 Int.toNat_natCast ?_;refine⟨O,?_⟩;have a:=Gq (L:=List.replicate j jz++List.replicate (n.toNat - j) (⟨0,0,0⟩:Lk)) (i:=j) O jz;have d:(List.replicate j jz++List.replicate (n.toNat - j) (⟨0,0,0⟩:Lk)).set j jz=List.replicate (j+1) jz++List.replicate (n.toNat - (j+1)) (⟨0,0,0⟩:Lk):=by
   rw[amD _ _ (by simp),alL,amM,show n.toNat - j=(n.toNat - (j+1))+1 by omega,alZ,amN,amG];simp
  rw[d]at a;have N:=x.put (L':=List.replicate (j+1) jz++List.replicate (n.toNat - (j+1)) (⟨0,0,0⟩:Lk)) Z;have A:aj (fun z=>z=H.size) h (r.wr H.size (aP (List.replicate (j+1) jz++List.replicate (n.toNat - (j+1)) (⟨0,0,0⟩:Lk)))):=l.wr (fun _=>rfl) _;rw[show aQ (aP (List.replicate j jz++List.replicate (n.toNat - j) (⟨0,0,0⟩:Lk))) (j*3) (aK (Value.agg #[Value.int .i64 (-1),Value.int .i64 (-1),Value.int .i64 (-1)]))=_ from a];refine vs ?_;rw[wrap64 (n:=(j:Int)+1) O O];grind
 ·have q:j=n.toNat:=O;subst q;rw[amM,List.replicate_zero,alE]at x;exact⟨_,_,rfl,x,p.then l O,O,O⟩
end
section
variable{x:Int}
structure LB where
 n:Nat
 c:Nat
 t:Nat
 tl:Nat
 rk:Nat
 tp:Nat
structure dc(H:Hp)(B:LB)(C:Nat->Prop)(w:Nw)(L:List Lk)(rs tops:List Int):Prop where
 own:∃tv,H.own B.n=some [ptr B.c,ptr B.t,.slice (some ⟨B.rk,0,none⟩) rs.length rs.length,tv]/\Sl H 1 tv tops.length (tops.map i64) (some B.tp)
 cells:CQ H B.c C w
 cf:bR H B.t B.tl L
 zP:H.own B.rk=some (rs.map i64)
 len:L.length=w.cs.length/\rs.length=w.cs.length
 k9:(B.n≠B.t/\B.n≠B.tl/\B.n≠B.rk/\B.n≠B.tp)/\(B.t≠B.tl/\B.t≠B.rk/\B.t≠B.tp)/\(B.tl≠B.rk/\B.tl≠B.tp)/\B.rk≠B.tp
 out:¬C B.n/\¬C B.t/\¬C B.tl/\¬C B.rk/\¬C B.tp
def LB.S(B:LB)(C:Nat->Prop)(z:Nat):Prop:=C z\/z=B.n\/z=B.t\/z=B.tl\/z=B.rk\/z=B.tp
section
variable {H J : Hp} {B : LB} {C T : Nat → Prop} {w w' : Nw} {L L' : List Lk} {rs tops : List Int}
theorem dc.slt(h:dc H B C w L rs tops):∀z,B.S C z->z<H.size:=by
 obtain⟨n,x,l⟩:=h.own;rintro z (a|rfl|rfl|rfl|rfl|rfl)
 ·exact h.cells.slt z a
 ·exact aB x
 ·exact aB h.cf.own
 ·exact aB h.cf.jY
 ·exact aB h.zP
 ·exact l.lt
theorem dc.ext(h:dc H B C w L rs tops)(e:aj T H J)(l:∀z,B.S C z->¬T z):dc J B C w L rs tops:=by
 obtain⟨g,n,m⟩:=h.own;exact⟨⟨g,e.own n (l _ (.inr (.inl rfl))),m.ext e (fun b a=>by injection a with a;exact a▸l _ (.inr O))⟩,h.cells.ext e (fun x v=>l x (.inl v)),
  h.cf.ext e (l _ (.inr (.inr (.inl rfl)))) (l _ (.inr O)),e.own h.zP (l _ (.inr O)),h.len,h.k9,h.out⟩
theorem dc.fresh(h:dc H B C w L rs tops)(e:af H J):dc J B C w L rs tops:=h.ext e fun _ _ h=>h
theorem dc.aE(h:dc H B C w L rs tops)(x:CQ J B.c C w')(e:aj C H J)(a:w'.cs.length=w.cs.length):dc J B C w' L rs tops:=by
 obtain⟨y,z,l⟩:=h.own;obtain⟨n,m,v,g,r⟩:=h.out;exact⟨⟨y,e.own z n,l.ext e Z⟩,x,h.cf.ext e m v,e.own h.zP g,by rw[a];exact h.len,h.k9,h.out⟩
theorem dc.dU(h:dc H B C w L rs tops)(m:bR J B.t B.tl L')(e:aj (fun z=>z=B.tl) H J)(n:L'.length=L.length):dc J B C w L' rs tops:=by
 obtain⟨v,l,a⟩:=h.own;obtain⟨f,u,P,A,K⟩:=h.out;obtain⟨⟨g,x,y,r⟩,⟨j,d,p⟩,⟨q,o⟩,d10⟩:=h.k9;exact⟨⟨v,e.own l x,a.ext e Z⟩,h.cells.ext e Z,m,e.own h.zP O,by rw[n];exact h.len,h.k9,h.out⟩
theorem dc.Lh(h:dc H B C w L rs tops)(i:Nat)(v:Int):dc (H.wr B.rk ((rs.map i64).set i (i64 v))) B C w L (rs.set i v) tops/\aj (fun z=>z=B.rk) H (H.wr B.rk ((rs.map i64).set i (i64 v))):=by
 obtain⟨n,l,a⟩:=h.own;obtain⟨o,f,u,P,A⟩:=h.out;obtain⟨⟨m,g,x,y⟩,⟨r,j,d⟩,⟨p,q⟩,d10⟩:=h.k9;have e:aj (fun z=>z=B.rk) H (H.wr B.rk ((rs.map i64).set i (i64 v))):=(aj.refl (fun z=>z=B.rk) _).wr (fun _=>rfl) _;refine⟨⟨⟨n,by rw[alb];exact e.own l x,a.ext e Z⟩,h.cells.ext e Z,h.cf.ext e O O,?_,by cases h;grind,h.k9,h.out⟩,e⟩;rw[alD];exact ah h.zP
theorem dc.ed(h:dc H B C w L rs tops):∃c l,H.own B.n=some [ptr B.c,ptr B.t,.slice (some ⟨B.rk,0,none⟩) rs.length rs.length,.slice (some ⟨B.tp,0,none⟩) tops.length c]/\H.own B.tp=some l/\tops.length<=c/\c<=l.length/\l.take tops.length=tops.map i64:=by
 obtain⟨v,x,_,l,c,rfl,z,a,n,m⟩:=h.own;grind
theorem dc.cS(h:dc H B C w L rs tops){l:List Value}(a:H.own B.tp=some l){i:Nat}(n:tops[i]? =some x):l[i]? =some (i64 x):=by
 obtain⟨c,l',_,z,_,_,m⟩:=h.ed;rw[a]at z;injection z with z;subst z;have v:(tops.map i64)[i]? =some (i64 x):=by rw[alz,n];rfl
 grind
theorem dc.fH(h:dc H B C w L rs tops){l:List Value}(a:H.own B.tp=some l)(i:Nat)(v:Int):dc (H.wr B.tp (l.set i (i64 v))) B C w L rs (tops.set i v)/\aj (fun z=>z=B.tp) H (H.wr B.tp (l.set i (i64 v))):=by
 obtain⟨c,l',m,x,u,P,g⟩:=h.ed;rw[a]at x;injection x with x;subst x;obtain⟨A,K,F,N,Q⟩:=h.out;obtain⟨⟨y,r,j,n⟩,⟨d,p,q⟩,⟨o,f⟩,d10⟩:=h.k9;have e:aj (fun z=>z=B.tp) H (H.wr B.tp (l.set i (i64 v))):=(aj.refl (fun z=>z=B.tp) _).wr (fun _=>rfl) _;refine⟨⟨⟨_,e.own m n,?_⟩,h.cells.ext e Z,h.cf.ext e O O,e.own h.zP O,h.len,h.k9,h.out⟩,e⟩;refine⟨by simp,l.set i (i64 v),c,Z,ah a,Z,Z,?_⟩;rw[alb,ala,tq,g,alD]
theorem cD(H:Hp)(x:Int):∀ (a:Int) (b:Bool),gz x= .tuple [i64 a,.bool b].toArray->aD 462 [i64 a,.bool b] H fun v J=>ak (v=i64 x/\J=H):=by
 intro a b h;unfold gz at h;refine aL Fc ?_;refine vs ?_;have z:∀ {p q:Int} {r s:Bool},Value.tuple [i64 p,Value.bool r].toArray=Value.tuple [i64 q,Value.bool s].toArray->p=q/\r=s:=Z;split at h
 ·rename_i l;obtain⟨rfl,rfl⟩:=z h;refine vs ?_;rw[l];exact⟨rfl,rfl⟩
 ·obtain⟨rfl,rfl⟩:=z h;refine vs ?_;exact⟨rfl,rfl⟩
theorem cL(x:Int):∃ (a:Int) (b:Bool),gz x= .tuple [i64 a,.bool b].toArray:=by
 unfold gz;split
 ·grind
 grind
def Wa(rs:List Int)(x:Int):Int:=if x= -1 then 0 else rs.getD x.toNat 0
theorem eI(h:dc H B C w L rs tops)(z:x≠ -1->0<=x/\x<w.cs.length):aD 473 [ptr B.n,i64 x] H fun v J=>ak (v=i64 (Wa rs x)/\J=H):=by
 obtain⟨e,l,n⟩:=h.own;have m:=h.len;refine aL qO ?_;refine vs ?_;refine ai.dec (fun g=>?_) (fun g=>?_)<;>refine vs ?_
 ·unfold Wa;rw[if_pos g];exact⟨rfl,rfl⟩
 have z:=z g;have a:(rs.map i64)[x.toNat]? =some (i64 (Wa rs x)):=by
  unfold Wa;rw[if_neg g,alz,alf,ak9 O];rfl
 refine v1 (ae l) ?_;refine⟨O,?_⟩;refine v4 (ae h.zP) ak7 ala a ?_;exact⟨rfl,rfl⟩
theorem gF(h:dc H B C w L rs tops)(Q:0<=x/\x<w.cs.length)(m:∀c,bk L x c≠ -1->0<=bk L x c/\bk L x c<w.cs.length):
  aD 470 [ptr B.n,i64 x] H fun v J=>ak (∃L' u,dc J B C w L' u tops/\(bk L'=bk L\/bk L'=lj (bk L) x)/\bq L'=bq L/\aj (fun z=>z=B.tl\/z=B.rk) H J):=by
 obtain⟨U,n,F⟩:=h.own;have N:=h.len;refine aL qN ?_;refine v1 (ae n) ?_;obtain⟨a1,j,a⟩:=cL (bk L x false);obtain⟨a2,q,l⟩:=cL (bk L x true);refine⟨.tuple [i64 a1,.bool j].toArray,(kA h.cf x).mono (by rintro v J ⟨rfl,rfl⟩;grind),?_⟩;refine vs ?_;refine⟨_,cD H _ a1 j a,?_⟩;refine v1 (ae n) ?_;refine(cC h.cf x).mono ?_;rintro _ J ⟨rfl,e⟩;obtain rfl:=e.symm;rw[l];refine vs ?_;refine(cD H _ a2 q l).mono ?_;rintro _ J ⟨rfl,e⟩;obtain rfl:=e.symm;refine vs ?_;refine(eI h (m false)).mono ?_;rintro _ J ⟨rfl,e⟩;obtain rfl:=e.symm;refine vs ?_;refine(eI h (m true)).mono ?_;rintro _ J ⟨rfl,e⟩;obtain rfl:=e.symm;refine vs ?_;refine ai.dec (fun g=>?_) (fun g=>?_)<;>refine vs ?_
 ·refine v1 (ae n) ?_;refine(kB h.cf (p:=x) O).mono ?_;rintro _ K ⟨rfl,d,P,l1,o,A,a⟩;have y:=h.dU P a l1;obtain⟨W,f,_⟩:=y.own;refine v1 (ae f) ?_;refine⟨_,eI y (m false),?_⟩;refine vs ?_;refine⟨O,?_⟩;refine v3 y.zP ak7 ala ?_;refine⟨Z,?_⟩;obtain⟨r,l⟩:=y.Lh x.toNat (IntKind.i64.wrap (Wa rs (bk L x false)+1));refine vs ?_;exact⟨d,_,r,.inr o,A,(a.mono O).trans (l.mono O)⟩
 ·refine v1 (ae n) ?_;refine⟨_,eI h (m true),?_⟩;refine vs ?_;refine⟨O,?_⟩;refine v3 h.zP ak7 ala ?_;refine⟨Z,?_⟩;obtain⟨r,l⟩:=h.Lh x.toNat (IntKind.i64.wrap (Wa rs (bk L x true)+1));refine vs ?_;exact⟨L,_,r,.inl rfl,rfl,l.mono O⟩
abbrev xX(w:Nw)(L:List Lk):Prop:=Bt (aH w) (aU w) (bk L) (bq L)
theorem xX.re{w:Nw}{L:List Lk}(h:xX w L){c:Bool}(z:bk L x c≠ -1):0<=bk L x c/\bk L x c<w.cs.length:=by
 obtain⟨_,_,l,n,_⟩:=Bt.home h z;obtain⟨a,b,_⟩:=aI (w:=w) (x:=bk L x c) O;omega
theorem xX.up{w:Nw}{L:List Lk}(h:xX w L)(z:bq L x≠ -1):0<=bq L x/\bq L x<w.cs.length/\aU w (bq L x) x=true/\aH w (bq L x)=aH w x:=by
 obtain⟨_,_,l,n,m⟩:=h.uk x _ rfl z;obtain⟨a,b,_⟩:=aI (w:=w) (x:=bq L x) O;grind
theorem iS(h:dc H B C w L rs tops)(M:xX w L)(hx:x≠ -1->0<aH w x):
  aD 460 [ptr B.n,i64 x] H fun v J=>ak (∃L' o,dc J B C w L' o tops/\xX w L'/\bq L'=bq L/\aj (fun z=>z=B.tl\/z=B.rk) H J):=by
 refine aL um ?_;refine vs ?_;refine ba.intro (fun m env J=>∃ (x:Int) (L':List Lk) (o:List Int),m=(if x= -1 then 0 else Ko (aU w) w.cs.length x+1)/\(x≠ -1->0<aH w x)/\dc J B C w L' o tops/\xX w L'/\bq L'=bq L/\aj (fun z=>z=B.tl\/z=B.rk) H J/\
  env=[(0,ptr B.n),(1,i64 x)]) _ ⟨x,L,rs,rfl,hx,h,M,rfl,aj.refl _ _,rfl⟩ ?_
 rintro m env H1 ⟨y,I,f,rfl,hy,a,A,P,K,rfl⟩;refine vs ?_;refine ai.dec (fun g=>?_) (fun g=>?_)<;>refine vs ?_
 ·exact⟨I,f,a,A,P,K⟩
 obtain⟨y0,y1,_⟩:=aI (hy g);obtain⟨tv,o1,_⟩:=a.own;have V5:=a.len;obtain⟨r,X⟩:∃r,(f.map i64)[y.toNat]? =some (i64 r):=⟨f[y.toNat]' O,Z⟩;refine v1 (ae o1) ?_;refine⟨O,?_⟩;refine v4 (ae a.zP) ak7 ala X ?_;refine(gF a ⟨y0,y1⟩ (fun c E=>A.re E)).mono ?_;rintro v2 W ⟨L2,u,l,q,U,G⟩;have j:xX w L2:=by
  rcases q with q|q
  ·grind
  ·grind [Bt.tH]
 obtain⟨Nh,Q,_⟩:=l.own;have Oe:=l.len;have F:=K.trans G;obtain⟨r2,Mp⟩:∃r,(u.map i64)[y.toNat]? =some (i64 r):=Z;refine v1 (ae Q) ?_;refine⟨O,?_⟩;refine v4 (ae l.zP) ak7 ala Mp ?_;refine ai.dec (fun D=>?_) (fun D=>?_)<;>refine vs ?_
 ·exact⟨L2,u,l,j,U.trans P,F⟩
 refine v1 (ae Q) ?_;refine(mZ l.cf y).mono ?_;rintro _ J ⟨rfl,e⟩;obtain rfl:=e.symm;obtain⟨a1,V,N⟩:=cL (bq L2 y);rw[N];refine vs ?_;refine(cD W _ a1 V N).mono ?_;rintro _ J ⟨rfl,e⟩;obtain rfl:=e.symm;refine vs ?_;refine⟨_,?_,bq L2 y,L2,u,rfl,fun d=>?_,l,j,U.trans P,F,rfl⟩
 ·rw[if_neg g];split
  ·omega
  ·rename_i d;have:=j.up d;have:=B7 (ar w) (n:=w.cs.length) (p:=bq L2 y) (x:=y) O this.2.2.1;omega
 ·have:=j.up d;omega
end
end
theorem Sl.shape{H:Hp}{w:Value}{n:Nat}{xs:List Value}{fp:Option Nat}(h:Sl H 1 w n xs fp):∃a c,w= .slice a n c:=by
 obtain⟨x,z⟩:=h;grind
theorem Sl.wx{H:Hp}{a:Option Addr}{n c:Nat}{xs:List Int}{fp:Option Nat}(h:Sl H 1 (.slice a n c) n (xs.map i64) fp){i:Nat}{x:Int}(m:xs[i]? =some x):
  i<n/\∃b lb,a=some ⟨b,0,none⟩/\H.own b=some lb/\lb[i]? =some (i64 x):=by
 cases fp with
 |none=>
  have z:=h.1;have l:=h.2.1;grind
 |some b=>
  obtain⟨z,l,lb,v,e⟩:=Sl.num h m;grind
section
variable {H : Hp} {B : LB} {C : Nat → Prop} {w : Nw} {L : List Lk} {rs tops : List Int}
theorem eZ(h:dc H B C w L rs tops){g a0 b0:Int}{R:Int->Prop}(m:Mg (aH w) (aU w) g R (bk L) (bq L) [] a0 b0):
  aD 461 [ptr B.n,i64 a0,i64 b0] H fun v J=>ak (∃r L' rs',v=i64 r/\dc J B C w L' rs' tops/\Mg (aH w) (aU w) g R (bk L') (bq L') [] r (-1)/\
   (∀y,oE (aU w) (bk L) (bq L) y (bk L) (bq L) [] a0 b0->oE (aU w) (bk L) (bq L) y (bk L') (bq L') [] r (-1))/\aj (fun z=>C z\/z=B.tl\/z=B.rk) H J):=by
 refine aL rY ?_;refine vs ?_;have uv:=h.cells.yY;refine ba.intro (fun mm env J=>∃ (a b:Int) (l:List Int) (wv:Value) (fp:Option Nat) (L':List Lk),mm=w.cs.length - l.length/\dc J B C w L' rs tops/\Mg (aH w) (aU w) g R (bk L') (bq L') l a b/\
  (∀y,oE (aU w) (bk L) (bq L) y (bk L) (bq L) [] a0 b0->oE (aU w) (bk L) (bq L) y (bk L') (bq L') l a b)/\
  (∀z,fp=some z->H.size<=z)/\Sl J 1 wv l.length (l.map i64) fp/\aj (fun z=>C z\/z=B.tl\/z=B.rk\/H.size<=z) H J/\
  env=[(0,ptr B.n),(1,i64 a),(2,i64 b),(7,wv)]) _ ⟨a0,b0,[],_,none,L,rfl,h,m,(fun _ h=>h),Z,Sl.nil _ _,aj.refl _ _,rfl⟩ ?_
 rintro mm env H1 ⟨a,b,l,wv,fp,n,rfl,l1,u,f1,ww,s1,e1,rfl⟩;have z1:=e1.size;clear m;refine vs ?_;refine ai.dec (fun F=>?A) (fun F=>?_)<;>refine vs ?_;rotate_left;refine ai.dec (fun W=>?B) (fun W=>?_)<;>refine vs ?_;rotate_left
 ·obtain⟨Ni,o1,_⟩:=l1.own;refine v1 (ae o1) ?_;refine(cv l1.cells b a).mono ?_;rintro _ H2 ⟨rfl,c2,P⟩;have l2:=l1.aE c2 P rfl;have Q:=s1.ext P (fun z d I=>by have:=ww z d;have:=h.slt z (.inl I);omega);have z2:=P.size;have ha:=u.wa.resolve_left F;have hb:=u.wb.resolve_left W;have Fh:=fQ (w:=w) (a:=b) (b:=a) (by rw[hb.1];exact u.pos) (by rw[ha.1];exact u.pos);have ny:a≠b:=fun e=>F (u.ab e);rw[Fh];cases iD:aU w b a
  ·refine vs ?_;have hl:aU w a b=true:=by grind [aU,Nw.key,Nw.seq]
   have mm:Mg (aH w) (aU w) g R (bk n) (bq n) l a b:=u;have Rr:0<aH w a:=by rw[(mm.wa.resolve_left F).1];exact mm.pos
   obtain⟨p0,p1,_⟩:=aI Rr;have f:=mm.Ox (ar w) F W hl;have wl:(l++[a]).length<=w.cs.length:=ck (f.nodup (ar w)) fun x hx=>by
    have O6:=(f.wy x hx).2.1;have TR:=f.pos;obtain⟨y,x1,_⟩:=aI (w:=w) (x:=x) O;omega
   rw[alm,alR]at wl;refine xR (B:=H.size) ww O Q a O fun w' H3 Ii X G K=>?_;refine vs ?_;have q:=l2.ext K (fun z d I=>by have:=h.slt z d;omega);obtain⟨TS,o3,_⟩:=q.own;refine v1 (ae o3) ?_;refine(cC q.cf a).mono ?_;rintro _ J ⟨rfl,e⟩;obtain rfl:=e.symm;obtain⟨k1,k2,M⟩:=cL (bk n a true);rw[M];refine vs ?_;refine(cD H3 _ k1 k2 M).mono ?_;rintro _ J ⟨rfl,e⟩;obtain rfl:=e.symm;refine v1 (ae o3) ?_;refine(cK q.cf (x:=bk n a true) (fun hu=>by have:=xX.up mm.bt hu;rw[q.len.1];omega)).mono ?_;rintro _ H4 ⟨rfl,U,t4,TT,kk4,uu4,o⟩;have V:=q.dU t4 o TT;have s4:=G.ext o (fun z d I=>by have:=X z d;have:=h.slt B.tl (.inr O);omega);obtain⟨k3,k4,ek2⟩:=cL (bq n (bk n a true));rw[ek2];refine vs ?_;refine⟨w.cs.length - (l.length+1),O,bk n a true,b,l++[a],w',Ii,U,by simp,V,?_,?_,X,s4,((e1.trans (P.mono Z)).trans (K.mono O)).trans (o.mono O),rfl⟩
   ·grind
   cases u;grind [oE.down,ar]
  ·refine vs ?_;have hl:aU w b a=true:=iD;have mm:Mg (aH w) (aU w) g R (bk n) (bq n) l b a:=u.swap;have Rr:0<aH w b:=by rw[(mm.wa.resolve_left W).1];exact mm.pos
   obtain⟨p0,p1,_⟩:=aI Rr;have f:=mm.Ox (ar w) W F hl;have wl:(l++[b]).length<=w.cs.length:=ck (f.nodup (ar w)) fun x hx=>by
    have O6:=(f.wy x hx).2.1;have TR:=f.pos;obtain⟨y,x1,_⟩:=aI (w:=w) (x:=x) O;omega
   rw[alm,alR]at wl;refine xR (B:=H.size) ww O Q b O fun w' H3 Ii X G K=>?_;refine vs ?_;have q:=l2.ext K (fun z d I=>by have:=h.slt z d;omega);obtain⟨TS,o3,_⟩:=q.own;refine v1 (ae o3) ?_;refine(cC q.cf b).mono ?_;rintro _ J ⟨rfl,e⟩;obtain rfl:=e.symm;obtain⟨k1,k2,M⟩:=cL (bk n b true);rw[M];refine vs ?_;refine(cD H3 _ k1 k2 M).mono ?_;rintro _ J ⟨rfl,e⟩;obtain rfl:=e.symm;refine v1 (ae o3) ?_;refine(cK q.cf (x:=bk n b true) (fun hu=>by have:=xX.up mm.bt hu;rw[q.len.1];omega)).mono ?_;rintro _ H4 ⟨rfl,U,t4,TT,kk4,uu4,o⟩;have V:=q.dU t4 o TT;have s4:=G.ext o (fun z d I=>by have:=X z d;have:=h.slt B.tl (.inr O);omega);obtain⟨k3,k4,ek2⟩:=cL (bq n (bk n b true));rw[ek2];refine vs ?_;refine⟨w.cs.length - (l.length+1),O,bk n b true,a,l++[b],w',Ii,U,by simp,V,?_,?_,X,s4,((e1.trans (P.mono Z)).trans (K.mono O)).trans (o.mono O),rfl⟩
   ·grind
   cases u;grind [oE.down,oE.swap,ar]
 case' A=>
  have D:Mg (aH w) (aU w) g R (bk n) (bq n) l b (-1):=F▸u.swap;have E:=fun y (h0:oE (aU w) (bk L) (bq L) y (bk L) (bq L) [] a0 b0)=>(f1 y h0).swap;rw[F]at E;generalize hr:b=r at D E;refine ai.bK Z ?_
 case' B=>
  have D:Mg (aH w) (aU w) g R (bk n) (bq n) l a (-1):=W▸u;have E:=f1;rw[W]at E;generalize hr:a=r at D E;refine ai.dec (fun h=>absurd (hr.trans h) F) (fun _=>?_)
 all_goals
  refine vs ?_;obtain⟨wa,wc,rfl⟩:=Sl.shape s1;refine vs ?_;have wl:l.length<=w.cs.length:=ck (D.nodup (ar w)) fun x hx=>by
   have O6:=(D.wy x hx).2.1;have TR:=D.pos;obtain⟨y,x1,_⟩:=aI (w:=w) (x:=x) O;omega
  refine ba.intro (fun mm env J=>∃ (i:Nat) (r:Int) (L':List Lk) (rs':List Int),mm=i/\i<=l.length/\dc J B C w L' rs' tops/\Mg (aH w) (aU w) g R (bk L') (bq L') (l.take i) r (-1)/\
   (∀y,oE (aU w) (bk L) (bq L) y (bk L) (bq L) [] a0 b0->oE (aU w) (bk L) (bq L) y (bk L') (bq L') (l.take i) r (-1))/\
   Sl J 1 (.slice wa l.length wc) l.length (l.map i64) fp/\aj (fun z=>C z\/z=B.tl\/z=B.rk\/H.size<=z) H J/\
   env=[(0,ptr B.n),(7,.slice wa l.length wc),(9,i64 r),(10,i64 ((i:Int) - 1))]) _ ⟨l.length,r,n,rs,rfl,alj _,l1,Z,Z,s1,e1,?_⟩ ?_
  ·grind [wrap64]
  rintro mm env H2 ⟨i,r2,L2,rs2,hmi,hi,l2,f,f3,Q,P,rfl⟩;obtain rfl:=hmi.symm;refine vs ?_;refine ai.dec (fun gi=>?_) (fun gi=>?_)<;>refine vs ?_;rotate_left
  ·obtain rfl:i=0:=O;exact⟨r2,L2,rs2,rfl,l2,Z,Z,P.mono Z⟩
  obtain⟨j,rfl⟩:∃j,i=j+1:=⟨i - 1,O⟩;obtain⟨v,hv⟩:∃v,l[j]? =some v:=⟨_,ak9 O⟩;have tk:l.take (j+1)=l.take j++[v]:=by rw[alq,hv];rfl
  rw[tk]at f f3;have m4:=f.back (ar w);have f4:=fun y h0=>(f3 y h0).back;obtain⟨v1,v2,v3,v4,v5,v6⟩:=f.wy v (by simp);obtain⟨q1,vb,lb,rfl,q2,q3⟩:=Sl.wx Q hv;have XH:∃b',fp=some b'/\b'=vb:=by
   cases fp with
   |none=>have:=Q.2.2;grind
   |some b'=>obtain⟨_,_,h1,_⟩:=Q.2;grind
  obtain⟨b',rfl,rfl⟩:=XH;have XH:=ww b' rfl;have TU:0<aH w v:=by rw[v2];exact f.pos
  obtain⟨Wb,vv1,_⟩:=aI TU;have ji:((((j+1:Nat):Int) - 1)).toNat=j:=O;obtain⟨Nh,o2,_⟩:=l2.own;refine ai.dec (fun N=>?_) (fun N=>?_)<;>refine vs ?_
  ·rw[if_pos N,if_pos N]at m4;simp only[if_pos N]at f4;have f5:=f4;have q:=l2;have m5:=m4;have o3b:=q2;have G:=Q;have K:=P;refine⟨O,?_⟩;simp(disch:=(first|exact aV|fail)) only[go_sem, ↓reduceIte,Zv,ae o3b,ak7,ala,ji,q3];refine(gF q ⟨Wb,vv1⟩ (fun c hk=>xX.re m5.bt hk)).mono ?_;rintro _ H4 ⟨U,SQ,V,k4,u4,o⟩;refine vs ?_;refine⟨j,O,j,v,U,SQ,rfl,O,V,?_,?_,G.ext o (fun z d I=>by injection d with d;have:=h.slt B.tl (.inr O);have:=h.slt B.rk (.inr O);omega),K.trans (o.mono O),?_⟩
   ·grind [Mg.tH,ar]
   ·grind [oE.tH]
   grind [wrap64]
  ·rw[if_neg N,if_neg N]at m4;simp only[if_neg N]at f4;have Mp:=f.wa.resolve_left N;obtain⟨r0,r1,_⟩:=aI (w:=w) (x:=r2) O;have ec:=l2.len;have hvr:v≠r2:=fun e=>by have:=v5 N;rw[e,(ar w).Ih]at this;grind
   simp(disch:=(first|exact aV|fail)) only[go_sem, ↓reduceIte,Zv,ae o2];refine⟨O,?_⟩;simp(disch:=(first|exact aV|fail)) only[go_sem, ↓reduceIte,Zv,ae q2,ak7,ala,ji,q3];refine(fj l2.cf (p:=v) (x:=r2) (c:=true) ⟨Wb,O⟩ ⟨r0,O⟩ hvr Mp.2 v4).mono ?_;rintro _ H3 ⟨rfl,L3,t3,ll3,XI,XJ,O7⟩;have q:=l2.dU t3 O7 ll3;have m5:Mg (aH w) (aU w) g R (bk L3) (bq L3) (l.take j) v (-1):=by rw[XI,XJ];exact m4
   have f5:=f4;rw[<-XI,<-XJ]at f5;have nb:b'≠B.tl:=fun e=>by have:=h.slt B.tl (.inr O);omega
   have o3b:=O7.own q2 nb;have G:=Q.ext O7 Z;have K:=P.trans (O7.mono O);refine vs ?_;refine⟨O,?_⟩;simp(disch:=(first|exact aV|fail)) only[go_sem, ↓reduceIte,Zv,ae o3b,ak7,ala,ji,q3];refine(gF q ⟨Wb,vv1⟩ (fun c hk=>xX.re m5.bt hk)).mono ?_;rintro _ H4 ⟨U,SQ,V,k4,u4,o⟩;refine vs ?_;refine⟨j,O,j,v,U,SQ,rfl,O,V,?_,?_,G.ext o (fun z d I=>by injection d with d;have:=h.slt B.tl (.inr O);have:=h.slt B.rk (.inr O);omega),K.trans (o.mono O),?_⟩
   ·grind [Mg.tH,ar]
   ·grind [oE.tH]
   grind [wrap64]
end
end Go.Proofs.YtnanofhkpglbaaaGreatDoor
