/- Texts put behind each other. -/
import Derived.Test.YtjkkkibiegfecaaGreatDoorK0
import Derived.Test.YtjkkkibiegfecaaGreatDoorK1
import Derived.Test.YtjkkkibiegfecaaGreatDoorK25
set_option linter.unusedSimpArgs false
set_option linter.unusedVariables false
set_option maxRecDepth 100000
set_option maxHeartbeats 8000000
namespace Go.Proofs.YtjkkkibiegfecaaGreatDoor
open Go Go.Vc
section
variable{d x i b a z p:Int}{l:List Int}{j:Nat}
def pa(d:Int)(j:Nat):Nat:=(((j:Int) - 1) / d).toNat
theorem lX(l:cX d)(h:1<=i):∃p,bv d i=some p/\p.toNat=pa d i.toNat/\0<=p/\p<i:=by
 have x:bv d i=some ((i - 1) / d):=by unfold bv;grind
 have z:=eZ x;grind [pa]
theorem di(x:cX d)(h:1<=j):pa d j<j:=by
 obtain⟨p,_,z,l,a⟩:=lX x (i:=(j:Int)) O;grind
theorem SQ(z:cX d){i:Nat}(h:1<=j):pa d j=i↔(d*i+1<=j/\(j:Int)<=d*i+d):=by
 have x:=z.1;unfold pa;have l:=Int.mul_ediv_add_emod ((j:Int) - 1) d;have a:=Int.emod_nonneg ((j:Int) - 1) (show d≠0 by omega);have n:=Int.emod_lt_of_pos ((j:Int) - 1) (show 0<d by omega);have m:0<=((j:Int) - 1) / d:=Int.ediv_nonneg O O;constructor
 ·grind
 ·rintro⟨v,e⟩;have g:=qx (d:=d) (i:=(i:Int)) (j:=(j:Int) - d*i) x O O O;grind
theorem fk(l:List Int)(i j:Nat)(v:Int)(hi:i<l.length):(l.set i v).getD j 0=if i=j then v else l.getD j 0:=by
 grind
def eo(lt:Int->Int->Bool)(d:Int)(l:List Int):Prop:=∀j,1<=j->j<l.length->lt (l.getD j 0) (l.getD (pa d j) 0)=false
def dV(lt:Int->Int->Bool)(d:Int)(l:List Int)(i:Nat):Prop:=
 (∀j,1<=j->j<l.length->j≠i->pa d j≠i->lt (l.getD j 0) (l.getD (pa d j) 0)=false)/\
 (∀j,1<=j->j<l.length->pa d j=i->1<=i->lt (l.getD j 0) (l.getD (pa d i) 0)=false)
theorem eo.but{lt:Int->Int->Bool}(m:bC lt)(n:cX d)(h:eo lt d l)(i:Nat):dV lt d l i:=by
 refine⟨fun j x z _ _=>h j x z,fun j x z g a=>?_⟩;have v:=h j x z;have e:=h i a (by have:=di n x;omega);cases m;grind
theorem dV.set{lt:Int->Int->Bool}(v:cX d){i:Nat}(hi:i<l.length)(h:dV lt d l i)(e:∀j,1<=j->j<l.length->pa d j=i->lt (l.getD j 0) x=false)
  (g:1<=i->lt x (l.getD (pa d i) 0)=false):eo lt d (l.set i x):=by
 intro j n m;rw[ajN]at m;rw[fk _ _ _ _ hi,fk _ _ _ _ hi];have y:=di v n;by_cases z:i=j
 ·grind
 ·rw[if_neg z];by_cases a:i=pa d j
  ·grind
  ·rw[if_neg a];exact h.1 j n m (Ne.symm z) (Ne.symm a)
theorem Hf{lt:Int->Int->Bool}(A:bC lt)(y:cX d)(x:Int):∀ (m:Nat) (l:List Int) (pl:Int->Option Int) (i:Int),i.toNat<=m->0<=i->i<l.length->dV lt d l i.toNat->
  (∀j,1<=j->j<l.length->pa d j=i.toNat->lt (l.getD j 0) x=false)->eo lt d (fG lt d x m l pl i).l:=by
 intro m;induction m with
 |zero=>
  intro l pl i hm F Q n f;exact n.set y O f (fun h=>O)
 |succ m V=>
  intro l pl i hm F Q n f;by_cases hi:1<=i
  ·obtain⟨p,W,u,G,E⟩:=lX y hi;unfold fG;rw[W];simp only[u];cases P:lt x (l.getD (pa d i.toNat) 0)with
   |false=>
    exact n.set y O f (fun _=>P)
   |true=>
    simp only[if_true];have r:i.toNat<l.length:=O;have D:=O;refine V _ _ p O G Z ⟨fun j e a v g=>?_,fun j e a v g=>?_⟩ (fun j e a v=>?_)
    ·rw[ajN]at a;rw[u]at v g;rw[fk _ _ _ _ r,fk _ _ _ _ r];have z:i.toNat≠j:=Z;rw[if_neg z];by_cases q:i.toNat=pa d j
     ·rw[if_pos q];exact n.2 j e a q.symm O
     ·rw[if_neg q];exact n.1 j e a (Ne.symm z) (Ne.symm q)
    ·rw[ajN]at a;rw[u]at v g ⊢;rw[fk _ _ _ _ r,fk _ _ _ _ r];have M:=di y g;rw[if_neg (show i.toNat≠pa d (pa d i.toNat) by omega)];have K:=n.1 (pa d i.toNat) g O O O;by_cases z:i.toNat=j
     ·rw[if_pos z];exact K
     ·rw[if_neg z];have o:=n.1 j e a (Ne.symm z) O;rw[v]at o;exact A.nt _ _ _ o K
    ·rw[ajN]at a;rw[u]at v;rw[fk _ _ _ _ r];by_cases z:i.toNat=j
     ·rw[if_pos z];exact A.vH P
     ·rw[if_neg z];have o:=n.1 j e a (Ne.symm z) O;rw[v]at o;cases I:lt (l.getD j 0) x with
      |false=>rfl
      |true=>have:=A.tr _ _ _ I P;grind
  ·have N:i=0:=O;subst N;have U:bv d 0=none:=by unfold bv;grind
   unfold fG;rw[U];exact n.set y O f O
theorem Dm(lt:Int->Int->Bool)(d x:Int):∀ (m:Nat) (l:List Int) (pl:Int->Option Int) (i:Int),(fG lt d x m l pl i).asked<=IW d m i:=by
 intro m;induction m with
 |zero=>intro l pl i;simp[fG,IW]
 |succ m h=>
  intro l pl i;unfold fG IW;grind
theorem tG(lt:Int->Int->Bool)(d x:Int):∀ (m:Nat) (l:List Int) (pl:Int->Option Int) (i:Int),(fG lt d x m l pl i).l.length=l.length:=by
 intro m;induction m with
 |zero=>intro l pl i;simp[fG]
 |succ m h=>
  intro l pl i;unfold fG;grind
theorem Oj{lt:Int->Int->Bool}(n:cX d)(x:Int)(l:List Int)(pl:Int->Option Int)(i:Int)(e:0<=i):
  ((fG lt d x i.toNat l pl i).at_=i/\(fG lt d x i.toNat l pl i).l=l.set i.toNat x/\(fG lt d x i.toNat l pl i).pl=dG pl x i/\(fG lt d x i.toNat l pl i).asked<=1/\(1<=i->lt x (l.getD (pa d i.toNat) 0)=false))\/
  ((fG lt d x i.toNat l pl i).at_<i/\1<=i/\lt x (l.getD (pa d i.toNat) 0)=true):=by
 by_cases hi:1<=i
 ·obtain⟨p,z,g,r,j⟩:=lX n hi;obtain⟨q,a⟩:∃q,i.toNat=q+1:=⟨i.toNat - 1,O⟩;have low:∀ (m:Nat) (l:List Int) (pl:Int->Option Int) (i:Int),(fG lt d x m l pl i).at_<=i:=by
   intro m;induction m with
   |zero=>intro l pl i;simp[fG]
   |succ m y=>
    intro l pl i;unfold fG;cases z:bv d i with
    |none=>simp
    |some p=>
     have:=eZ z;grind
  rw[a,fG,z,<-a];grind
 ·have v:i=0:=O;subst v;exact .inl ⟨rfl,rfl,rfl,by simp[fG],fun h=>O⟩
def Nn(l:List Int)(pl:Int->Option Int)(i:Int)(x:Int):Prop:=
 ∀z,z≠x->∀k,pl z=some k↔(0<=k/\k≠i/\l[k.toNat]? =some z)
def sE(l:List Int)(pl:Int->Option Int):Prop:=∀z k,pl z=some k↔(0<=k/\l[k.toNat]? =some z)
theorem sE.aag{pl:Int->Option Int}(h:sE l pl)(n:l[i.toNat]? =some x)(a:0<=i):Nn l pl i x:=by
 intro z m k;rw[h z k];grind
theorem sE.zS{pl:Int->Option Int}(h:sE l pl){i:Nat}(hi:l[i]? =some z)(n:l[j]? =some z):i=j:=by
 have x:=(h z i).2 Z;have a:=(h z j).2 Z;grind
def Gc(l:List Int)(i:Int)(z:Int):Prop:=∃k:Nat,(k:Int)≠i/\l[k]? =some z
theorem Nn.set{pl:Int->Option Int}(h:Nn l pl i x)(v:0<=i)(y:i<l.length)(m:¬Gc l i x):sE (l.set i.toNat x) (dG pl x i):=by
 intro z k;have g:i.toNat<l.length:=O;by_cases e:z=x
 ·subst e;simp only[dG,if_true];constructor
  ·grind
  ·rintro⟨a,b⟩;by_cases n:k=i
   ·rw[n]
   ·exfalso;rw[ajT O]at b;exact m ⟨k.toNat,O,b⟩
 ·simp only[dG,if_neg e];rw[h z e k];grind
theorem Nn.move{pl:Int->Option Int}{y:Int}(h:Nn l pl i x)(K:0<=i)(F:i<l.length)(A:0<=p)(q:p≠i)(m:l[p.toNat]? =some y)(o:¬Gc l i x):
  Nn (l.set i.toNat y) (dG pl y i) p x/\(¬Gc (l.set i.toNat y) p x)/\∀z,Gc (l.set i.toNat y) p z↔Gc l i z:=by
 have r:i.toNat<l.length:=O;have v:y≠x:=fun e=>o ⟨p.toNat,O,Z⟩;have N:∀k:Int,0<=k->k≠i->l[k.toNat]? =some y->k=p:=by
  intro k u ki j;have g:=(h y v k).2 ⟨u,ki,j⟩;have n:=(h y v p).2 ⟨A,q,m⟩;rw[g]at n;injection n
 have d:∀z,Gc (l.set i.toNat y) p z↔Gc l i z:=by
  intro z;constructor
  ·rintro⟨k,P,a⟩;by_cases e:i.toNat=k
   ·rw[<-e,ajY r]at a;injection a with a;subst a;exact⟨p.toNat,O,m⟩
   ·rw[ajT e]at a;exact⟨k,O,a⟩
  ·rintro⟨k,P,a⟩;by_cases e:(k:Int)=p
   ·refine⟨i.toNat,O,?_⟩;grind
   ·exact⟨k,e,Z⟩
 refine⟨?_,Z,d⟩;intro z f k;by_cases e:z=y
 ·grind [dG]
 ·simp only[dG,if_neg e];rw[h z f k];grind
theorem mem_set{i:Nat}(hi:i<l.length)(x z:Int):z∈l.set i x↔z=x\/Gc l i z:=by
 constructor
 ·intro h;obtain⟨k,a⟩:=aj5 h;by_cases e:i=k
  ·grind
  ·rw[ajT e]at a;exact .inr ⟨k,O,a⟩
 ·rintro(rfl| ⟨k,n,m⟩)
  ·exact ajV (i:=i) Z
  ·exact ajV (i:=k) Z
theorem zT{lt:Int->Int->Bool}(x:Int):∀ (m:Nat) (l:List Int) (pl:Int->Option Int) (i:Int),i.toNat<=m->0<=i->i<l.length->Nn l pl i x->¬Gc l i x->
  sE (fG lt d x m l pl i).l (fG lt d x m l pl i).pl/\∀z,z∈(fG lt d x m l pl i).l↔z=x\/Gc l i z:=by
 intro m;induction m with
 |zero=>
  intro l pl i hm h n a v;exact⟨a.set h n v,fun z=>by have:=mem_set (l:=l) (i:=i.toNat) O x z;rw[show((i.toNat:Nat):Int)=i by omega]at this;exact this⟩
 |succ m j=>
  intro l pl i hm h n a v;have r:sE (l.set i.toNat x) (dG pl x i)/\∀z,z∈l.set i.toNat x↔z=x\/Gc l i z:=
   ⟨a.set h n v,fun z=>by have:=mem_set (l:=l) (i:=i.toNat) O x z;grind⟩
  unfold fG;cases g:bv d i with
  |none=>omega
  |some p=>
   have e:=eZ g;simp only;split
   ·have y:l[p.toNat]? =some (l.getD p.toNat 0):=by
     rw[ajR,ajL O];rfl
    obtain⟨q,o,f⟩:=a.move h n e.1 O y v;grind
   omega
theorem I6{lt:Int->Int->Bool}(v:bC lt)(l:List Int)(d i:Int)(h:0<=d*i):∀ (m:Nat) (x:Int),(m:Int)<=d - 1->d*i+1<=x->x<l.length->
  (∀c:Int,d*i+1<=c->c<=d*i+(d - m)->c<l.length->lt (l.getD c.toNat 0) (l.getD x.toNat 0)=false)->
  ∀c:Int,d*i+1<=c->c<=d*i+d->c<l.length->lt (l.getD c.toNat 0) (l.getD (bV lt l d i m x).1.toNat 0)=false:=by
 intro m;induction m with
 |zero=>grind [bV]
 |succ m g=>
  intro x hm p q f c z a c3;unfold bV;split
  ·rename_i u;simp only;split
   ·rename_i o;refine g _ O O O (fun e y r j=>?_) c z a c3;by_cases n:e=d*i+(d - m)
    ·rw[n];exact v.HO _
    cases v;grind
   ·rename_i o;refine g _ O p q (fun e y r j=>?_) c z a c3;by_cases n:e=d*i+(d - m)
    ·grind
    grind
  grind
theorem MJ{lt:Int->Int->Bool}(y:bC lt)(n:cX d)(x:Int):∀ (m:Nat) (l:List Int) (pl:Int->Option Int) (i:Int),l.length<=i.toNat+m->0<=i->i<l.length->dV lt d l i.toNat->
  (1<=i->lt x (l.getD (pa d i.toNat) 0)=false)->eo lt d (cQ lt d x m l pl i).1:=by
 intro m;induction m with
 |zero=>omega
 |succ m F=>
  intro l pl i hm P hl e X;have hdd:=n.1;have K:0<=d*i:=akU O P;have hit:((i.toNat:Nat):Int)=i:=O;have hch:∀j:Nat,1<=j->(pa d j=i.toNat↔(d*i+1<=j/\(j:Int)<=d*i+d)):=fun j I=>by have:=SQ n (i:=i.toNat) I;grind
  unfold cQ;split
  ·rename_i W;exact e.set n O Z Z
  ·rename_i W;have A:=j0 lt l d i K (d - 1).toNat (d*i+1) O O O;have Q:(bV lt l d i (d - 1).toNat (d*i+1)).1<=d*i+d:=by
    have key:∀ (m:Nat) (g:Int),(m:Int)<=d - 1->g<=d*i+d->(bV lt l d i m g).1<=d*i+d:=by
     intro m;induction m with
     |zero=>intro g _ h;exact h
     |succ m F=>
      intro g hm h;unfold bV;grind
    exact Z
   have U:=I6 y l d i K (d - 1).toNat (d*i+1) O O O (fun c M E c3=>by rw[show c=d*i+1 by omega];exact y.HO _);have G:=lW n P A.1;generalize bV lt l d i (d - 1).toNat (d*i+1)=B at*;obtain⟨b,q⟩:=B;simp only at A Q U G;have o:pa d b.toNat=i.toNat:=Z;have v:i.toNat<l.length:=O;have V:∀j,1<=j->j<l.length->pa d j=i.toNat->lt (l.getD j 0) (l.getD b.toNat 0)=false:=Z;simp only;by_cases f:lt (l.getD b.toNat 0) x=true
   ·rw[if_pos f];refine F _ _ b Z O Z ⟨fun j z a p N=>?_,fun j z a p N=>?_⟩ (fun _=>?_)
    ·rw[ajN]at a;rw[fk _ _ _ _ v,fk _ _ _ _ v];have D:=di n z;by_cases r:i.toNat=j
     ·subst r;rw[if_pos rfl,if_neg O];have:=e.2 b.toNat O O o z;omega
     ·rw[if_neg r];by_cases u:i.toNat=pa d j
      ·grind
      ·rw[if_neg u];exact e.1 j z a (Ne.symm r) (Ne.symm u)
    ·rw[ajN]at a;rw[o,fk _ _ _ _ v,fk _ _ _ _ v,if_pos rfl];have D:=di n z;rw[if_neg O];have:=e.1 j z a O O;grind
    ·rw[o,fk _ _ _ _ v,if_pos rfl];exact y.vH f
   ·rw[if_neg f];exact e.set n v (fun j z a p=>y.nt _ _ _ (V j z a p) Z) Z
theorem I7(lt:Int->Int->Bool)(d x:Int):∀ (m:Nat) (l:List Int) (pl:Int->Option Int) (i:Int),(cQ lt d x m l pl i).1.length=l.length:=by
 intro m;induction m with
 |zero=>intro l pl i;simp[cQ]
 |succ m h=>
  intro l pl i;unfold cQ;split
  ·simp
  ·simp only;split
   ·simp[h]
   ·simp
theorem I8{lt:Int->Int->Bool}(n:cX d)(x:Int):∀ (m:Nat) (l:List Int) (pl:Int->Option Int) (i:Int),0<=i->i<l.length->Nn l pl i x->¬Gc l i x->
  sE (cQ lt d x m l pl i).1 (cQ lt d x m l pl i).2.1/\∀z,z∈(cQ lt d x m l pl i).1↔z=x\/Gc l i z:=by
 intro m;induction m with
 |zero=>
  grind [cQ,Nn.set,mem_set]
 |succ m j=>
  intro l pl i h v a e;have A:sE (l.set i.toNat x) (dG pl x i)/\∀z,z∈l.set i.toNat x↔z=x\/Gc l i z:=
   ⟨a.set h v e,fun z=>by grind [mem_set]⟩
  have P:=n.1;have y:0<=d*i:=akU O h;unfold cQ;split
  ·omega
  ·have g:=j0 lt l d i y (d - 1).toNat (d*i+1) O O O;have K:=lW n h g.1;simp only;split
   ·have r:l[(bV lt l d i (d - 1).toNat (d*i+1)).1.toNat]? =some (l.getD (bV lt l d i (d - 1).toNat (d*i+1)).1.toNat 0):=by
     rw[ajR,ajL O];rfl
    obtain⟨p,q,o⟩:=a.move h v O O r e;obtain⟨f,u⟩:=j _ _ _ O Z p q;exact⟨f,fun z=>by rw[u z,o z]⟩
   omega
def ix(d i:Int):Nat:=IW d i.toNat i
theorem ot(h:bv d i=some p):ix d i=ix d p+1:=Ob h _ (ajU _)
theorem j1(h:cX d):∀ (m:Nat) (i j:Int),j.toNat<=m->i<=j->ix d i<=ix d j:=by
 intro m;induction m with
 |zero=>
  grind [IW,ix]
 |succ m a=>
  intro i j hm e;by_cases hi:1<=i
  ·have v:=h.1;have l:bv d i=some ((i - 1) / d):=by unfold bv;grind
   have x:bv d j=some ((j - 1) / d):=by unfold bv;grind
   have n:=eZ x;rw[ot l,ot x];have:=a ((i - 1) / d) ((j - 1) / d) O (Int.ediv_le_ediv O O);omega
  ·have:ix d i=0:=by
    unfold ix;have z:bv d i=none:=by unfold bv;grind
    cases i.toNat<;>simp[IW,z]
   omega
theorem I9(lt:Int->Int->Bool)(l:List Int)(d i:Int):∀ (m:Nat) (x:Int),(bV lt l d i m x).2<=m:=by
 intro m;induction m with
 |zero=>intro x;simp[bV]
 |succ m h=>
  grind [bV]
theorem KN{lt:Int->Int->Bool}(z:cX d)(x:Int):∀ (m:Nat) (l:List Int) (pl:Int->Option Int) (i:Int),l.length<=i.toNat+m->0<=i->i<l.length->
  ((cQ lt d x m l pl i).2.2:Int)+d*(ix d i:Nat)<=d*(ix d ((l.length:Int) - 1):Nat):=by
 intro m;induction m with
 |zero=>omega
 |succ m p=>
  intro l pl i hm n f;have e:=z.1;have g:0<=d*i:=akU O n;have P:∀k,k<=(l.length:Int) - 1->d*(ix d k:Nat)<=d*(ix d ((l.length:Int) - 1):Nat):=fun k y=>
   Int.mul_le_mul_of_nonneg_left (by have:=j1 z ((l.length:Int) - 1).toNat k ((l.length:Int) - 1) (ajU _) y;omega) O
  unfold cQ;split
  ·grind
  ·have v:=j0 lt l d i g (d - 1).toNat (d*i+1) O O O;have u:=lW z n v.1;have q:=I9 lt l d i (d - 1).toNat (d*i+1);have o:(bV lt l d i (d - 1).toNat (d*i+1)).1<=d*i+d:=by
    have key:∀ (m:Nat) (a:Int),(m:Int)<=d - 1->a<=d*i+d->(bV lt l d i m a).1<=d*i+d:=by
     intro m;induction m with
     |zero=>intro a _ h;exact h
     |succ m p=>
      grind [bV]
    exact Z
   generalize bV lt l d i (d - 1).toNat (d*i+1)=B at*;have r:bv d B.1=some i:=by
    unfold bv;rw[if_pos ⟨z,O⟩];have:=qx (d:=d) (i:=i) (j:=B.1 - d*i) e n O O;rw[show d*i+(B.1 - d*i) - 1=B.1 - 1 by omega]at this;rw[this]
   have A:=ot r;have hmul:d*((ix d i+1:Nat):Int)=d*(ix d i:Nat)+d:=by rw[Int.natCast_add,Int.mul_add];simp
   grind
def cT(lt:Int->Int->Bool)(d x:Int)(l:List Int)(pl:Int->Option Int)(i:Int):List Int×(Int->Option Int)×Nat:=
 if l.getD (l.length - 1) 0=x then(l.dropLast,lT pl x,0)
 else
  let U:=fG lt d (l.getD (l.length - 1) 0) i.toNat l.dropLast (lT pl x) i
  if U.at_=i then
   let D:=cQ lt d (l.getD (l.length - 1) 0) U.l.length U.l U.pl i
   (D.1,D.2.1,U.asked+D.2.2)
  else(U.l,U.pl,U.asked)
theorem vt(l:List Int)(j:Nat)(h:j<l.length - 1):l.dropLast.getD j 0=l.getD j 0:=by
 grind
theorem Ja{lt:Int->Int->Bool}(F:bC lt)(n:cX d){pl:Int->Option Int}(hh:eo lt d l)(P:sE l pl)(hi:pl x=some i):
  eo lt d (cT lt d x l pl i).1/\sE (cT lt d x l pl i).1 (cT lt d x l pl i).2.1/\(cT lt d x l pl i).1.length=l.length - 1/\
   (∀z,z∈(cT lt d x l pl i).1↔z∈l/\z≠x)/\((cT lt d x l pl i).2.2:Int)<=d*(ix d ((l.length:Int) - 1):Nat)+1:=by
 obtain⟨r,D⟩:=(P x i).1 hi;have MI:i.toNat<l.length:=Z;have hdd:=n.1;have G:l[l.length - 1]? =some (l.getD (l.length - 1) 0):=by
  rw[ajR,ajL O];rfl
 have Q:∀k,k<l.length - 1->l.dropLast[k]? =l[k]? :=Z;have V:eo lt d l.dropLast:=by
  intro j m p;rw[akt]at p;have:=di n m;rw[vt _ _ p,vt _ _ O];exact hh j m O
 unfold cT;split
 ·rename_i he;have Oh:i.toNat=l.length - 1:=P.zS D Z;refine⟨V,fun z k=>?_,by simp,fun z=>?_,?_⟩
  ·show lT pl x z=some k↔(0<=k/\l.dropLast[k.toNat]? =some z);unfold lT;by_cases v:z=x
   ·grind [sE.zS]
   ·rw[if_neg v,P z k];grind
  ·constructor
   ·intro h;obtain⟨k,g⟩:=aj5 h;grind [sE.zS]
   ·rintro⟨h,v⟩;obtain⟨k,g⟩:=aj5 h;grind
  ·have:0<=d*(ix d ((l.length:Int) - 1):Nat):=akU O O;simp only;omega
 ·rename_i nj;generalize hy:l.getD (l.length - 1) 0=y at*;have Oh:i.toNat<l.length - 1:=by
   rcases aky i.toNat (l.length - 1)with h|h
   ·exact h
   ·grind
  have I:Nn l.dropLast (lT pl x) i y:=by
   intro z v k;unfold lT;by_cases e:z=x
   ·grind [sE.zS]
   ·rw[if_neg e,P z k];constructor
    ·rintro⟨a,b⟩;have g:k.toNat<l.length:=(ajK.1 b).1;have hk2:k.toNat≠l.length - 1:=fun f=>by rw[f,G]at b;injection b with b;exact v b.symm
     exact⟨a,fun f=>by rw[f,D]at b;injection b with b;exact e b.symm,by rw[Q _ O];exact b⟩
    ·rintro⟨a,_,b⟩;have g:k.toNat<l.length - 1:=by have:=(ajK.1 b).1;rwa[akt]at this
     exact⟨a,by rw[Q _ g]at b;exact b⟩
  have X:¬Gc l.dropLast i y:=by
   rintro⟨k,A,o⟩;have g:k<l.length - 1:=by have:=(ajK.1 o).1;grind
   rw[Q _ g]at o;have:=P.zS o G;omega
  have pQ:∀z,(z=y\/Gc l.dropLast i z)↔(z∈l/\z≠x):=by
   intro z;constructor
   ·rintro(rfl| ⟨k,A,o⟩)
    ·grind
    grind [sE.zS]
   ·rintro⟨h,v⟩;obtain⟨k,g⟩:=aj5 h;have hk1:k<l.length:=Z;by_cases e:k=l.length - 1
    ·grind
    ·exact .inr ⟨k,Z,Z⟩
  have W:(i:Int)<l.dropLast.length:=by rw[akt];omega
  have K:=V.but F n i.toNat;have SP:=zT (lt:=lt) (d:=d) y i.toNat l.dropLast (lT pl x) i (ajU _) r W I X;have RP:d*(ix d ((l.length:Int) - 1 - 1):Nat)<=d*(ix d ((l.length:Int) - 1):Nat):=
   Int.mul_le_mul_of_nonneg_left (by have:=j1 n ((l.length:Int) - 1).toNat ((l.length:Int) - 1 - 1) ((l.length:Int) - 1) (ajU _) O;omega) O
  rcases Oj n (lt:=lt) y l.dropLast (lT pl x) i r with ⟨s1,s2,s3,s4,s5⟩| ⟨s1,s2,s3⟩
  ·simp only;rw[if_pos s1,s2,s3,ajN];simp only;have aeF:i.toNat<l.dropLast.length:=by rw[akt];omega
   have N:∀j,j≠i.toNat->(l.dropLast.set i.toNat y).getD j 0=l.dropLast.getD j 0:=Z;have hP2:Nn (l.dropLast.set i.toNat y) (dG (lT pl x) y i) i y:=by
    intro z v k;unfold dG;rw[if_neg v,I z v k];constructor
    ·grind
    ·grind
   have aeH:∀z,Gc (l.dropLast.set i.toNat y) i z↔Gc l.dropLast i z:=by
    intro z;constructor
    ·rintro⟨k,A,o⟩;exact⟨k,A,Z⟩
    ·rintro⟨k,A,o⟩;exact⟨k,A,Z⟩
   have U:(i:Int)< (l.dropLast.set i.toNat y).length:=by rw[ajN];exact W
   obtain⟨M,d2⟩:=I8 (lt:=lt) n y l.dropLast.length (l.dropLast.set i.toNat y) (dG (lT pl x) y i) i r U hP2 Z;refine⟨?_,M,by grind [I7],Z,?_⟩
   ·refine MJ F n y _ _ _ i Z r U ⟨fun j m p q u=>?_,fun j m p q u=>?_⟩ (fun h=>?_)
    ·rw[N j q,N _ u];exact K.1 j m Z q u
    ·have:=di n m;have:=di n u;rw[N j O,N _ O];exact K.2 j m Z q u
    ·have:=di n (j:=i.toNat) O;grind
   ·have:=KN (lt:=lt) n y l.dropLast.length (l.dropLast.set i.toNat y) (dG (lT pl x) y i) i Z r U;have hdl:l.dropLast.length=l.length - 1:=Z;rw[ajN,show((l.dropLast.length:Nat):Int) - 1=(l.length:Int) - 1 - 1 by omega]at this;have h5:0<=d*(ix d i:Nat):=akU O O;omega
  ·simp only;rw[if_neg O];have WC:=di n (j:=i.toNat) O;refine⟨Hf F n y _ _ _ i (ajU _) r W K (fun j m p q=>?_),SP.1,by rw[tG,akt],Z,?_⟩
   ·have E:=K.2 j m p q O;cases F;grind
   ·have E:=Dm lt d y i.toNat l.dropLast (lT pl x) i;have f:=j1 n ((l.length:Int) - 1).toNat i ((l.length:Int) - 1) (ajU _) O;unfold ix at f ⊢;have e3:(1:Int)*(IW d ((l.length:Int) - 1).toNat ((l.length:Int) - 1):Nat)<=d*(IW d ((l.length:Int) - 1).toNat ((l.length:Int) - 1):Nat):=
     akP O O
    grind
theorem Dn{lt:Int->Int->Bool}(x:bC lt)(z:cX d)(a:eo lt d l):∀ (m j:Nat),j<=m->j<l.length->lt (l.getD j 0) (l.getD 0 0)=false:=by
 intro m;induction m with
 |zero=>cases x;grind
 |succ m e=>
  intro j v n;by_cases h:1<=j
  ·have:=di z h;exact x.nt _ _ _ (a j h n) Z
  grind
def Nw.key(w:Nw)(a:Int):Int:=(w.cs.getD a.toNat (0,0,0)).2.1
def Nw.seq(w:Nw)(a:Int):Int:=(w.cs.getD a.toNat (0,0,0)).2.2
def aU(w:Nw)(a b:Int):Bool:=decide (w.key a<w.key b\/w.key a=w.key b/\(w.seq a<w.seq b\/w.seq a=w.seq b/\a<b))
theorem au(w:Nw):bC (aU w):=by
 constructor<;>grind [aU]
theorem tH{w:Nw}(l:cz w.cs a)(n:cz w.cs b):w.ahead a b=aU w a b:=by
 obtain⟨a0,x,h,_⟩:=id l;obtain⟨b0,y,z,_⟩:=id n;have m:w.key a=x.2.1:=by unfold Nw.key;rw[ajR,h];rfl
 have v:w.key b=y.2.1:=by unfold Nw.key;rw[ajR,z];rfl
 have e:w.seq a=x.2.2:=by unfold Nw.seq;rw[ajR,h];rfl
 have g:w.seq b=y.2.2:=by unfold Nw.seq;rw[ajR,z];rfl
 unfold Nw.ahead aU;rw[ajQ l,ajQ n,h,z,m,v,e,g];simp only[Bool.true_and];refine decide_eq_decide.2 ?_;rw[pO,ef];omega
theorem gS(w:Nw)(x:Int)(c:Ce)(h:a.toNat≠x.toNat)(l:b.toNat≠x.toNat):aU (w.put x c) a b=aU w a b:=by
 have key:∀z:Int,z.toNat≠x.toNat->(w.put x c).key z=w.key z/\(w.put x c).seq z=w.seq z:=fun z n=>by
  unfold Nw.key Nw.seq Nw.put;grind
 unfold aU;grind
def Nw.first(w:Nw)(g x:Int):Prop:=0<g/\0<=x/\(∃e,w.cs[x.toNat]? =some (g,e))/\∀y,0<=y->(∃e,w.cs[y.toNat]? =some (g,e))->y≠x->aU w x y=true
theorem Nw.E7{w:Nw}{g:Int}:w.len g=0↔(g<=0\/∀ (i:Nat) (c:Ce),w.cs[i]? =some c->c.1≠g):=by
 unfold Nw.len;by_cases z:0<g
 ·rw[if_pos z];constructor
  ·grind
  ·rintro(h|h)
   ·omega
   ·rw[alg.2 (fun c x=>by
     obtain⟨i,hi⟩:=aj5 x;grind)]
    rfl
 omega
theorem Nw.first.JN{w:Nw}{g:Int}(h:w.first g x):cz w.cs x:=by
 obtain⟨e,z⟩:=h.2.2.1;exact⟨h.2.1,_,z,h.1⟩
def Ok(w w':Nw)(g:Int):Prop:=∀ (i:Nat) (e:Int×Int),w.cs[i]? =some (g,e)↔w'.cs[i]? =some (g,e)
theorem Ok.put{w w':Nw}{g:Int}(h:Ok w w' g)(l:0<g)(x:Int)(z:w.cs.length=w'.cs.length):Ok (w.put x (0,0,0)) (w'.put x (0,0,0)) g:=by
 intro i e;unfold Nw.put;simp only[List.getElem?_set,z];by_cases hi:x.toNat=i
 ·grind
 ·simp only[if_neg hi];exact h i e
theorem sG(w:Nw)(a b:Int)(i:Nat):(w.join a b).cs[i]? =(w.cs[i]?).map fun c=>if c.1=b then(a,c.2)else c:=by
 unfold Nw.join;grind
theorem Nw.Do(w:Nw)(x:a≠b)(z:0<a)(l:0<b)(h:Int):(w.join a b).len h=if h=a then w.len a+w.len b else if h=b then 0 else w.len h:=by
 unfold Nw.len Nw.join;simp only[AW w.cs a b h x];grind
theorem sH(w:Nw)(a b x y:Int):aU (w.join a b) x y=aU w x y:=by
 have key:∀z:Int,(w.join a b).key z=w.key z/\(w.join a b).seq z=w.seq z:=fun z=>by
  unfold Nw.key Nw.seq;simp only[ajR,sG];grind
 unfold aU;grind
theorem Dp(w:Nw)(h:0<a)(z:0<b)(x:Int):cz (w.join a b).cs x↔cz w.cs x:=by
 unfold cz;rw[sG];grind
def aH(w:Nw)(x:Int):Int:=if 0<=x then(w.cs.getD x.toNat (0,0,0)).1 else 0
theorem iO{w:Nw}{y:Ce}(z:0<=x)(h:w.cs[x.toNat]? =some y):aH w x=y.1:=by
 unfold aH;grind
theorem aI{w:Nw}(h:0<aH w x):0<=x/\x<w.cs.length/\∃e,w.cs[x.toNat]? =some (aH w x,e):=by
 unfold aH at h ⊢;grind
theorem bg{w:Nw}:0<aH w x↔cz w.cs x:=by
 constructor
 ·intro h;obtain⟨z,_,e,l⟩:=aI h;exact⟨z,_,l,h⟩
 ·rintro⟨z,y,n,a⟩;rw[iO z n];exact a
theorem bi{w:Nw}{g:Int}:w.first g x↔(0<g/\aH w x=g/\∀y,aH w y=g->y≠x->aU w x y=true):=by
 constructor
 ·rintro⟨z,l,⟨e,h⟩,d⟩;refine⟨z,iO l h,fun y p n=>?_⟩;obtain⟨m,_,v,a⟩:=aI (w:=w) (x:=y) O;grind
 ·rintro⟨z,l,r⟩;obtain⟨j,_,e,h⟩:=aI (w:=w) (x:=x) O;rw[l]at h;exact⟨z,j,⟨e,h⟩,fun y m ⟨v,a⟩ n=>r y (iO m a) n⟩
theorem ou{w:Nw}{g:Int}(a:0<g):w.len g=0↔∀x,aH w x≠g:=by
 rw[Nw.E7];constructor
 ·rintro(h|h) x n
  ·omega
  ·obtain⟨_,_,e,l⟩:=aI (w:=w) (x:=x) O;grind
 ·intro h;refine .inr fun i c z e=>h (i:Int) ?_;rw[iO (y:=c) O Z];exact e
theorem dW{w:Nw}(hi:0<=i/\i<w.cs.length)(c:Ce)(x:Int):aH (w.put i c) x=if x=i then c.1 else aH w x:=by
 unfold aH Nw.put;grind
theorem lY{w:Nw}(h:0<b)(x:Int):aH (w.join a b) x=if aH w x=b then a else aH w x:=by
 unfold aH;split
 ·rw[ajR,ajR,sG];grind
 omega
theorem Ol{lt:Int->Int->Bool}(z:bC lt){P:Int->Prop}{n:Nat}(v:∀x,P x->0<=x/\x<n)(l:P x):∃m,P m/\∀y,P y->y≠m->lt m y=true:=by
 have key:∀k:Nat,∀x,P x->((List.range n).countP fun(i:Nat)=>lt i x)<=k->∃m,P m/\∀y,P y->y≠m->lt m y=true:=by
  intro k;induction k with
  |zero=>
   intro x l e;refine⟨x,l,fun y a r=>?_⟩;rcases z.UN x y (Ne.symm r)with h|h
   ·exact h
   ·have j:=v y a;have:=(alg.1 (Nat.le_zero.1 e)) y.toNat Z;grind
  |succ k p=>
   intro x l e;by_cases d:∃y,P y/\lt y x=true
   ·obtain⟨y,a,g⟩:=d;refine p y a ?_;have j:=v y a;have q:(List.range n).countP (fun(i:Nat)=>lt i y)< (List.range n).countP fun(i:Nat)=>lt i x:=by
     refine oR (fun i hi=>z.tr _ _ _ hi g) (x:=y.toNat) Z ?_ ?_
     ·cases z;grind
     ·grind
    omega
   cases z;grind
 exact key _ x l (ajU _)
theorem sI{w:Nw}{g:Int}(l:0<g)(h:w.len g≠0):∃x,w.first g x:=by
 have v:¬ ∀x,aH w x≠g:=fun y=>h ((ou l).2 y);obtain⟨x,z⟩:=Classical.not_forall.1 v;have z:=Classical.not_not.1 z;obtain⟨m,hm,e⟩:=Ol (au w) (P:=fun x=>aH w x=g) (n:=w.cs.length) (fun x z=>by obtain⟨a,b,_⟩:=aI (w:=w) (x:=x) O;omega) z;exact⟨m,bi.2 ⟨l,hm,e⟩⟩
theorem dC{w:Nw}(hi:0<=i/\i<w.cs.length)(c:Ce)(x:0<aH w a)(h:0<aH w b)(z:a≠i)(l:b≠i):aU (w.put i c) a b=aU w a b:=by
 obtain⟨a0,_⟩:=aI x;obtain⟨b0,_⟩:=aI h;exact gS w i c O O
theorem yf{w:Nw}{k s:Int}(v:cz w.cs i){y:Ce}(x:w.cs[i.toNat]? =some y)(e:¬ef y.2.1 y.2.2 k s)(n:0<aH w b)(g:b≠i)(h:aU w i b=true):aU (w.put i (y.1,k,s)) i b=true:=by
 obtain⟨b0,_⟩:=aI n;have r:=v.1;have m:=(ajK.1 x).1;have z:(w.put i (y.1,k,s)).key i=k/\(w.put i (y.1,k,s)).seq i=s:=by
  unfold Nw.key Nw.seq Nw.put;simp only[ajR];rw[ajY m];exact⟨rfl,rfl⟩
 have l:w.key i=y.2.1/\w.seq i=y.2.2:=by
  unfold Nw.key Nw.seq;simp only[ajR,x];exact⟨rfl,rfl⟩
 have a:(w.put i (y.1,k,s)).key b=w.key b/\(w.put i (y.1,k,s)).seq b=w.seq b:=by
  unfold Nw.key Nw.seq Nw.put;simp only[ajR];rw[ajT O];exact⟨rfl,rfl⟩
 unfold aU at h ⊢;rw[l.1,l.2]at h;rw[z.1,z.2,a.1,a.2];unfold ef at e;grind
def Nw.kC(w:Nw)(g x:Int):Prop:=w.has g/\(0<=x/\x<w.cs.length)/\¬cz w.cs x
def Nw.dD(w:Nw)(x k s:Int):Prop:=cz w.cs x/\∀y,w.cs[x.toNat]? =some y->¬ef y.2.1 y.2.2 k s
def br(I:Hp->(Nat->Prop)->Nw->Prop)(S:Nat->Prop)(H J:Hp)(w':Nw):Prop:=
 ∃x:Nat->Prop,I J x w'/\aj S H J/\∀z,x z->S z\/H.size<=z
theorem br.same{I:Hp->(Nat->Prop)->Nw->Prop}{S:Nat->Prop}{H J:Hp}{w':Nw}(h:I J S w')(e:aj S H J):br I S H J w':=⟨S,h,e,fun z x=>.inl x⟩
structure iu where
 w:Nw
 A:Ar
 q:Int
structure Rp where
 c:Int
 h:Int
 s:Int
 g:Nat
 k:Int
 n:Int
deriving DecidableEq
def er(c:Int):Rp:=⟨c,0,0,0,0,0⟩
abbrev BF(r:Rp):List Value:=[i64 r.c,i64 r.h,i64 r.s,.int .u32 (r.g:Int),i64 r.k,i64 r.n]
abbrev MK(r:Rp):Value:=.agg (BF r).toArray
open Classical in
noncomputable def Nw.zd(w:Nw)(g:Int):Option Int:=if h:∃x,w.first g x then some (Classical.choose h)else none
theorem Om{w:Nw}{g:Int}(h:w.first g x)(a:w.first g z):z=x:=by
 obtain⟨_,n,m⟩:=bi.1 h;obtain⟨_,v,e⟩:=bi.1 a;apply aj3;intro l;have:=(au w).vH (m z v l);rw[e x n (Ne.symm l)]at this;cases this
theorem Hg{w:Nw}{g:Int}(h:w.first g x):w.zd g=some x:=by
 unfold Nw.zd;rw[dif_pos ⟨x,h⟩];exact ajP some (Om h (Classical.choose_spec (⟨x,h⟩:∃x,w.first g x)))
theorem KO{w:Nw}{g:Int}(h:w.len g=0):w.zd g=none:=by
 unfold Nw.zd;rw[dif_neg];rintro⟨x,z⟩;have:=bi.1 z;exact(ou this.1).1 h x this.2.1
def Ar.yg(A:Ar)(x:Int)(g:Nat):Prop:=A.live x/\A.bf x=g
instance(A:Ar)(x:Int)(g:Nat):Decidable (A.yg x g):=by unfold Ar.yg;exact inferInstance
noncomputable def dP(t:iu)(g:Int):Rp:=
 if¬t.w.has g then er 171 else match t.w.zd g with
  |none=>er 172
  |some x=>⟨0,0,x,t.A.bf x,t.w.key x,0⟩
def yh(t:iu)(x:Int):iu:=⟨t.w.put x (0,0,0),t.A.back x,t.q⟩
def E8(t:iu)(g k:Int):iu×Rp:=
 if¬t.w.has g then(t,er 171)else match t.A.pick with
  |none=>(t,er 32)
  |some (x,A')=>(⟨t.w.put x (g,k,t.q+1),A'.out x,t.q+1⟩,⟨0,0,x,t.A.bf x+1,0,0⟩)
def Dq(t:iu):iu×Rp:=if t.w.hs.length=65537 then(t,er 32)else(⟨t.w.make,t.A,t.q⟩,⟨0,t.w.hs.length,0,0,0,0⟩)
noncomputable def sJ(t:iu)(g:Int):iu×Rp:=(if(dP t g).c=0 then yh t (dP t g).s else t,dP t g)
def E9(t:iu)(x:Int)(g:Nat)(k:Int):iu×Rp:=
 if¬t.A.yg x g then(t,er 33)else if t.w.key x<k then(t,er 173)else(⟨t.w.put x (aH t.w x,k,t.w.seq x),t.A,t.q⟩,er 0)
def Fa(t:iu)(x:Int)(g:Nat):iu×Rp:=if¬t.A.yg x g then(t,er 33)else(yh t x,⟨0,0,0,0,t.w.key x,0⟩)
def Fb(t:iu)(a b:Int):iu×Rp:=
 if¬ (t.w.has a/\t.w.has b)then(t,er 171)else if a=b then(t,er 174)else(⟨t.w.join a b,t.A,t.q⟩,er 0)
def Jb(t:iu)(g:Int):Rp:=if¬t.w.has g then er 171 else⟨0,0,0,0,0,t.w.len g⟩
def Jc(t:iu)(x:Int)(g:Nat):Rp:=if¬t.A.yg x g then er 33 else⟨0,0,0,0,t.w.key x,0⟩
def Jd(t:iu)(x:Int)(g:Nat):Rp:=if¬t.A.yg x g then er 33 else⟨0,aH t.w x,0,0,0,0⟩
noncomputable def On(t:iu)(op:Nat)(a b:Nat)(k:Int):iu×Rp:=
 match op with
 |1=>Dq t
 |2=>E8 t a k
 |3=>(t,dP t a)
 |4=>sJ t a
 |5=>E9 t a b k
 |6=>Fa t a b
 |7=>Fb t a b
 |8=>(t,Jb t a)
 |9=>(t,Jc t a b)
 |10=>(t,Jd t a b)
 |_=>(t,er 181)
def CQ(H:Hp)(c:Nat)(C:Nat->Prop)(w:Nw):Prop:=∃st,bk H c C st w
section
variable {H J : Hp} {c : Nat} {C T : Nat → Prop} {w : Nw}
theorem CQ.ext(h:CQ H c C w)(e:aj T H J)(z:∀x,C x->¬T x):CQ J c C w:=by obtain⟨st,h⟩:=h;exact⟨st,h.ext e z⟩
theorem CQ.fresh(h:CQ H c C w)(e:af H J):CQ J c C w:=h.ext e fun _ _ h=>h
theorem CQ.slt(h:CQ H c C w):∀x,C x->x<H.size:=by obtain⟨st,h⟩:=h;exact h.slt
theorem CQ.zf(h:CQ H c C w):w.cs.length<=65536:=by obtain⟨st,h⟩:=h;exact h.zf
theorem CQ.JP(h:CQ H c C w):w.hs.length<=65537:=by obtain⟨st,h⟩:=h;exact h.JP
theorem CQ.home(h:CQ H c C w):∀x∈w.cs,0<=x.1/\x.1<w.hs.length:=by obtain⟨st,h⟩:=h;exact h.home
theorem CQ.live(h:CQ H c C w):∀x∈w.cs,0<x.1->w.hs[x.1.toNat]? =some true:=by obtain⟨st,h⟩:=h;exact h.live
theorem CQ.hm(h:CQ H c C w)(x:Int):0<=aH w x/\(0<aH w x->w.has (aH w x)/\aH w x<w.hs.length):=by
 by_cases z:0<aH w x
 ·obtain⟨n,m,e,l⟩:=aI z;have hm:=ajV l;have:=h.home _ hm;have a:=h.live _ hm z;exact⟨O,fun _=>⟨⟨O,a⟩,this.2⟩⟩
 ·refine⟨?_,O⟩;unfold aH;split
  ·rw[ajR];cases v:w.cs[x.toNat]? with
   |none=>grind
   |some y=>exact(h.home y Z).1
  omega
theorem CQ.pos(h:CQ H c C w):0<w.hs.length:=by
 obtain⟨st,cs,len,rt,aY,z,x⟩:=h;exact(ajK.1 x.h0).1
theorem cB(h:CQ H c C w)(a b:Int):aF 262 [ptr c,i64 a,i64 b] H fun v J=>ak (v= .bool (w.ahead a b)/\CQ J c C w/\aj C H J):=by
 obtain⟨st,h⟩:=h;refine(iN h a b).mono ?_;rintro v J ⟨x,z,l⟩;exact⟨x,⟨_,z⟩,l⟩
theorem eW(h:CQ H c C w)(i:Int):aF 224 [ptr c,i64 i] H fun v J=>ak (v=i64 (w.len i)/\H=J):=by
 obtain⟨st,h⟩:=h;exact gR h i
theorem ie(h:CQ H c C w)(i:Int):aF 221 [ptr c,i64 i] H fun v J=>ak (v= .bool (decide (w.has i))/\H=J):=by
 obtain⟨st,h⟩:=h;exact gQ h i
theorem iP(h:CQ H c C w):aF 238 [ptr c] H fun v J=>ak (
  (w.hs.length=65537/\v=i64 0/\H=J)\/(w.hs.length≠65537/\v=i64 w.hs.length/\∃l,CQ J c l w.make/\aj C H J/\∀x,l x->C x\/H.size<=x)):=by
 obtain⟨st,h⟩:=h;refine(jx h).mono ?_;rintro v J (z| ⟨z,n,a,m,e⟩)
 ·exact .inl z
 ·exact .inr ⟨z,n,a,⟨_,m⟩,e⟩
theorem j2(h:CQ H c C w)(g i k s:Int):aF 236 [ptr c,i64 g,i64 i,mE k s] H fun v J=>ak (
  (¬ (w.has g/\(0<=i/\i<w.cs.length)/\¬cz w.cs i)/\v= .bool false/\CQ J c C w/\aj C H J)\/
  ((w.has g/\(0<=i/\i<w.cs.length)/\¬cz w.cs i)/\v= .bool true/\CQ J c C (w.put i (g,k,s))/\aj C H J)):=by
 obtain⟨st,h⟩:=h;refine(kA h g i k s).mono ?_;rintro v J (⟨x,z,l,a⟩| ⟨x,z,l,a⟩)
 ·exact .inl ⟨x,z,⟨_,l⟩,a⟩
 ·exact .inr ⟨x,z,⟨_,l⟩,a⟩
theorem bF(h:CQ H c C w)(i:Int):aF 222 [ptr c,i64 i] H fun v J=>ak (
  (¬cz w.cs i/\v= .tuple [i64 0,.bool false].toArray/\H=J)\/(cz w.cs i/\v= .tuple [i64 (aH w i),.bool true].toArray/\CQ J c C w/\aj C H J)):=by
 obtain⟨st,h⟩:=h;refine(da h i).mono ?_;rintro v J (z| ⟨z,x,m,l,a,n⟩)
 ·exact .inl z
 ·exact .inr ⟨z,by rw[l,iO z.1 m],⟨_,a⟩,n⟩
theorem gG(h:CQ H c C w)(i:Int):aF 219 [ptr c,i64 i] H fun v J=>ak (CQ J c C w/\af H J/\(
  (¬cz w.cs i/\v= .tuple [mE 0 0,.bool false].toArray)\/(cz w.cs i/\∃x,w.cs[i.toNat]? =some x/\v= .tuple [mE x.2.1 x.2.2,.bool true].toArray))):=by
 obtain⟨st,h⟩:=h;refine(iL h i).mono ?_;rintro v J ⟨z,l,a⟩;exact⟨⟨_,z⟩,l,a⟩
theorem bZ(h:CQ H c C w)(i:Int):aF 232 [ptr c,i64 i] H fun v J=>ak (
  (¬cz w.cs i/\v= .bool false/\H=J)\/(cz w.cs i/\v= .bool true/\CQ J c C (w.put i (0,0,0))/\aj C H J)):=by
 obtain⟨st,h⟩:=h;refine(jy h i).mono ?_;rintro v J (x| ⟨x,z,l,a⟩)
 ·exact .inl x
 ·exact .inr ⟨x,z,⟨_,l⟩,a⟩
theorem gH(h:CQ H c C w)(i k s:Int):aF 229 [ptr c,i64 i,mE k s] H fun v J=>ak (
  (¬ (cz w.cs i/\∀x,w.cs[i.toNat]? =some x->¬ef x.2.1 x.2.2 k s)/\v= .bool false/\CQ J c C w/\af H J)\/
  (cz w.cs i/\v= .bool true/\∃x,w.cs[i.toNat]? =some x/\¬ef x.2.1 x.2.2 k s/\CQ J c C (w.put i (x.1,k,s))/\aj C H J)):=by
 obtain⟨st,h⟩:=h;refine(iM h i k s).mono ?_;rintro v J (⟨z,l,a,n⟩| ⟨z,l,x,a,n,m,e⟩)
 ·exact .inl ⟨z,l,⟨_,a⟩,n⟩
 ·exact .inr ⟨z,l,x,a,n,⟨_,m⟩,e⟩
theorem iQ(h:CQ H c C w)(a b:Int):aF 239 [ptr c,i64 a,i64 b] H fun v J=>ak (
  (¬ (w.has a/\w.has b/\a≠b)/\v= .bool false/\H=J)\/((w.has a/\w.has b/\a≠b)/\v= .bool true/\CQ J c C (w.join a b)/\aj C H J)):=by
 obtain⟨st,h⟩:=h;refine(jz h a b).mono ?_;rintro v J (x| ⟨x,z,l,n⟩)
 ·exact .inl x
 ·exact .inr ⟨x,z,⟨_,l⟩,n⟩
end
theorem j4(cap:Int)(H:Hp):aF 121 [i64 cap] H fun v J=>ak (
  af H J/\((¬ (0<=cap/\cap<=65536)/\v= .tuple [.pointer none,i64 31].toArray)\/
   (0<=cap/\cap<=65536)/\∃c C,v= .tuple [ptr c,i64 0].toArray/\CQ J c C ⟨[false],List.replicate cap.toNat (0,0,0)⟩/\(∀x,C x->H.size<=x))):=by
 refine(kw cap H).mono ?_;rintro v J ⟨z,h| ⟨h,c,C,l,a,n⟩⟩
 ·exact⟨z,.inl h⟩
 ·exact⟨z,.inr ⟨h,c,C,l,⟨_,a⟩,n⟩⟩
theorem fT{w:Nw}(x:0<aH w a)(h:0<aH w b):w.ahead a b=aU w a b:=tH (bg.1 x) (bg.1 h)
def aQ(tops:List Int)(h:Int):Int:=if 0<=h then tops.getD h.toNat (-1)else -1
theorem ce{tops:List Int}{h:Int}(x:0<=h)(z:h<tops.length):tops[h.toNat]? =some (aQ tops h):=by
 grind [aQ]
theorem dN{tops:List Int}{h:Int}(z:0<=h)(l:h<tops.length)(x:Int):aQ (tops.set h.toNat x)=cR (aQ tops) h x:=by
 grind [cR,aQ]
theorem yi(tops:List Int):aQ (tops++[-1])=aQ tops:=by
 grind [aQ]
end
section
variable{p x:Int}{i:Nat}{J:Hp}
structure Lk where
 a:Int
 b:Int
 u:Int
def KP(y:Lk):List Value:=[i64 y.a,i64 y.b,i64 y.u]
def aR(L:List Lk):List Value:=L.flatMap KP
theorem ii(L:List Lk):(aR L).length=L.length*3:=by
 induction L with
 |nil=>rfl
 |cons c r x=>simp only[aR,alo,ajW,KP,ajX,akB]at*;omega
def Lk.rF(y:Lk)(c:Bool):Int:=if c then y.b else y.a
def Lk.fU(y:Lk)(c:Bool)(v:Int):Lk:=if c then⟨y.a,v,y.u⟩else⟨v,y.b,y.u⟩
theorem Lk.Qx(y:Lk)(c d:Bool)(v:Int):(y.fU c v).rF d=if d=c then v else y.rF d:=by cases c<;>cases d<;>rfl
theorem Lk.WD(y:Lk)(c:Bool)(v:Int):(y.fU c v).u=y.u:=by cases c<;>rfl
theorem LN{L:List Lk}{y:Lk}(hi:L[i]? =some y):(aR L)[i*3]? =some (i64 y.a)/\(aR L)[i*3+1]? =some (i64 y.b)/\(aR L)[i*3+2]? =some (i64 y.u):=by
 induction L generalizing i with
 |nil=>grind
 |cons a r x=>
  have e:aR (a::r)=i64 a.a::i64 a.b::i64 a.u::aR r:=rfl;grind
theorem SR{L:List Lk}{y:Lk}(hi:L[i]? =some y)(c:Bool):(aR L)[i*3+c.toNat]? =some (i64 (y.rF c)):=by
 obtain⟨x,h,z⟩:=LN hi;cases c
 ·exact x
 ·exact h
theorem tI{L:List Lk}{y:Lk}(hi:L[i]? =some y)(c:Bool)(v:Int):(aR L).set (i*3+c.toNat) (i64 v)=aR (L.set i (y.fU c v)):=by
 induction L generalizing i with
 |nil=>rfl
 |cons a r h=>
  have e:aR (a::r)=i64 a.a::i64 a.b::i64 a.u::aR r:=rfl;cases i with
  |zero=>
   simp at hi;subst hi;cases c<;>rfl
  |succ i=>
   have x:aR ((a::r).set (i+1) (y.fU c v))=i64 a.a::i64 a.b::i64 a.u::aR (r.set i (y.fU c v)):=rfl;grind
theorem Dr{L:List Lk}{y:Lk}(hi:L[i]? =some y)(v:Int):(aR L).set (i*3+2) (i64 v)=aR (L.set i ⟨y.a,y.b,v⟩):=by
 induction L generalizing i with
 |nil=>rfl
 |cons a r h=>
  have e:aR (a::r)=i64 a.a::i64 a.b::i64 a.u::aR r:=rfl;cases i with
  |zero=>simp at hi;subst hi;rfl
  |succ i=>
   have x:aR ((a::r).set (i+1) ⟨y.a,y.b,v⟩)=i64 a.a::i64 a.b::i64 a.u::aR (r.set i ⟨y.a,y.b,v⟩):=rfl;grind
def bm(L:List Lk)(x:Int)(c:Bool):Int:=if 0<=x then(match L[x.toNat]? with|some y=>y.rF c|none=> -1)else -1
def bs(L:List Lk)(x:Int):Int:=if 0<=x then(match L[x.toNat]? with|some y=>y.u|none=> -1)else -1
theorem pR{L:List Lk}{y:Lk}(z:0<=x)(h:L[x.toNat]? =some y)(c:Bool):bm L x c=y.rF c:=by unfold bm;grind
theorem sK{L:List Lk}{y:Lk}(z:0<=x)(h:L[x.toNat]? =some y):bs L x=y.u:=by unfold bs;grind
theorem SS{L:List Lk}(h:¬ (0<=x/\x<L.length))(c:Bool):bm L x c= -1:=by
 grind [bm]
theorem KQ{L:List Lk}(h:¬ (0<=x/\x<L.length)):bs L x= -1:=by
 unfold bs;grind
theorem pS{L:List Lk}{y:Lk}(x:0<=p)(h:L[p.toNat]? =some y)(c:Bool)(v:Int):bm (L.set p.toNat (y.fU c v))=eM (bm L) p c v:=by
 have a:=(ajK.1 h).1;funext z d;unfold eM;by_cases l:z=p
 ·subst l;rw[pR x (ajY a),Lk.Qx,pR x h];grind
 ·rw[if_neg (fun h=>l h.1)];unfold bm;grind
theorem pT{L:List Lk}{y:Lk}(x:0<=p)(h:L[p.toNat]? =some y)(c:Bool)(v:Int):bs (L.set p.toNat (y.fU c v))=bs L:=by
 have l:=(ajK.1 h).1;funext z;by_cases a:z=p
 ·subst a;rw[sK x (ajY l),Lk.WD,sK x h]
 ·unfold bs;grind
theorem zU{L:List Lk}{y:Lk}(x:0<=p)(h:L[p.toNat]? =some y)(v:Int):bm (L.set p.toNat ⟨y.a,y.b,v⟩)=bm L:=by
 have l:=(ajK.1 h).1;funext z d;by_cases a:z=p
 ·subst a;rw[pR x (ajY l),pR x h];rfl
 ·unfold bm;grind
theorem zV{L:List Lk}{y:Lk}(l:0<=p)(h:L[p.toNat]? =some y)(v:Int):bs (L.set p.toNat ⟨y.a,y.b,v⟩)=aN (bs L) p v:=by
 have a:=(ajK.1 h).1;funext z;unfold aN;by_cases x:z=p
 ·subst x;rw[sK l (ajY a),if_pos rfl]
 ·rw[if_neg x];unfold bs;grind
structure bR(H:Hp)(t tl:Nat)(L:List Lk):Prop where
 own:H.own t=some [.slice (some ⟨tl,0,none⟩) L.length L.length]
 j5:H.own tl=some (aR L)
 ne:t≠tl
theorem bR.ext{S:Nat->Prop}{H:Hp}{t tl:Nat}{L:List Lk}(h:bR H t tl L)(e:aj S H J)(x:¬S t)(z:¬S tl):bR J t tl L:=⟨e.own h.own x,e.own h.j5 z,h.ne⟩
theorem bR.fresh{H:Hp}{t tl:Nat}{L:List Lk}(h:bR H t tl L)(e:af H J):bR J t tl L:=h.ext e (fun h=>h) (fun h=>h)
theorem bR.put{H:Hp}{t tl:Nat}{L L':List Lk}(h:bR H t tl L)(x:L'.length=L.length):bR (H.wr tl (aR L')) t tl L':=
 ⟨by rw[aG h.ne.symm,x];exact h.own,ah h.j5,h.ne⟩
section
variable {H : Hp} {t tl : Nat} {L : List Lk}
theorem fV(h:bR H t tl L)(x:Int):aF 345 [ptr t,i64 x] H fun v J=>ak (v= .bool (decide (0<=x/\x<L.length))/\J=H):=by
 refine aT xX ?_;refine vs ?_;refine ai.dec (fun g=>?_) (fun g=>?_)<;>refine v1 (ae h.own) ?_
 ·exact⟨by grind [Cd],rfl⟩
 ·exact⟨by grind [Cd],rfl⟩
theorem kD(H:Hp)(c:Bool):aF 341 [.bool c] H fun v J=>ak (v=i64 c.toNat/\J=H):=by
 refine aT G7 ?_;refine vs ?_;cases c<;>refine vs ?_<;>exact⟨rfl,rfl⟩
def gz(x:Int):Value:=if x= -1 then .tuple [i64 0,.bool false].toArray else .tuple [i64 x,.bool true].toArray
theorem kE(H:Hp)(x:Int):aF 344 [i64 x] H fun v J=>ak (v=gz x/\J=H):=by
 refine aT G8 ?_;refine vs ?_;unfold gz;refine ai.dec (fun g=>?_) (fun g=>?_)<;>refine vs ?_
 ·rw[if_pos g];exact⟨rfl,rfl⟩
 ·rw[if_neg g];exact⟨rfl,rfl⟩
theorem iR(h:bR H t tl L)(x:Int)(c:Bool):aF 342 [ptr t,i64 x,.bool c] H fun v J=>ak (v=i64 (bm L x c)/\J=H):=by
 refine aT xW ?_;refine vs ?_;refine(fV h x).mono ?_;rintro _ J ⟨rfl,e⟩;obtain rfl:=e.symm;refine vs ?_;refine ai.dec (fun g=>?_) (fun g=>?_)<;>refine vs ?_
 ·obtain⟨y,z⟩:∃y,L[x.toNat]? =some y:=⟨_,ajL O⟩;have l:=SR z c;have a:c.toNat<2:=by cases c<;>decide
  refine v1 (ae h.own) ?_;refine⟨_,kD H c,?_⟩;refine⟨O,?_⟩;refine v4 ajJ Nat.add_zero ajM Int.toNat_natCast ?_;refine⟨O,?_⟩;refine v6 (ae h.j5) ajJ Nat.add_zero ajM Int.toNat_natCast l ?_;rw[pR g.1 z];exact⟨rfl,rfl⟩
 ·rw[SS g];exact⟨rfl,rfl⟩
theorem jB(h:bR H t tl L)(x:Int):aF 340 [ptr t,i64 x] H fun v J=>ak (v=i64 (bs L x)/\J=H):=by
 refine aT uD ?_;refine vs ?_;refine(fV h x).mono ?_;rintro _ J ⟨rfl,e⟩;obtain rfl:=e.symm;refine vs ?_;refine ai.dec (fun g=>?_) (fun g=>?_)<;>refine vs ?_
 ·obtain⟨y,z⟩:∃y,L[x.toNat]? =some y:=⟨_,ajL O⟩;have l:=(LN z).2.2;refine v1 (ae h.own) ?_;refine⟨O,?_⟩;refine v3 (ae h.j5) ajJ l ?_;rw[sK g.1 z];exact⟨rfl,rfl⟩
 ·rw[KQ g];exact⟨rfl,rfl⟩
theorem kF(h:bR H t tl L)(x:Int):aF 336 [ptr t,i64 x] H fun v J=>ak (v=gz (bm L x false)/\J=H):=by
 refine aT wF ?_;refine vs ?_;refine(iR h x false).mono ?_;rintro _ J ⟨rfl,e⟩;obtain rfl:=e.symm;refine vs ?_;refine(kE H (bm L x false)).mono ?_;rintro _ J ⟨rfl,e⟩;obtain rfl:=e.symm;unfold gz;by_cases g:bm L x false= -1
 ·simp only[if_pos g];refine vs ?_;exact⟨(if_pos g).symm,rfl⟩
 ·simp only[if_neg g];refine vs ?_;exact⟨(if_neg g).symm,rfl⟩
theorem cF(h:bR H t tl L)(x:Int):aF 337 [ptr t,i64 x] H fun v J=>ak (v=gz (bm L x true)/\J=H):=by
 refine aT uC ?_;refine vs ?_;refine(iR h x true).mono ?_;rintro _ J ⟨rfl,e⟩;obtain rfl:=e.symm;refine vs ?_;refine(kE H (bm L x true)).mono ?_;rintro _ J ⟨rfl,e⟩;obtain rfl:=e.symm;unfold gz;by_cases g:bm L x true= -1
 ·simp only[if_pos g];refine vs ?_;exact⟨(if_pos g).symm,rfl⟩
 ·simp only[if_neg g];refine vs ?_;exact⟨(if_neg g).symm,rfl⟩
theorem nE(h:bR H t tl L)(x:Int):aF 338 [ptr t,i64 x] H fun v J=>ak (v=gz (bs L x)/\J=H):=by
 refine aT zB ?_;refine vs ?_;refine(jB h x).mono ?_;rintro _ J ⟨rfl,e⟩;obtain rfl:=e.symm;refine vs ?_;refine(kE H (bs L x)).mono ?_;rintro _ J ⟨rfl,e⟩;obtain rfl:=e.symm;unfold gz;by_cases g:bs L x= -1
 ·simp only[if_pos g];refine vs ?_;exact⟨(if_pos g).symm,rfl⟩
 ·simp only[if_neg g];refine vs ?_;exact⟨(if_neg g).symm,rfl⟩
theorem fu(h:bR H t tl L){c:Bool}(m:0<=p/\p<L.length)(r:0<=x/\x<L.length)(A:p≠x)(K:bs L x= -1)(P:bm L p c= -1):
  aF 339 [ptr t,i64 p,i64 x,.bool c] H fun v J=>ak (v= .bool true/\∃L',bR J t tl L'/\L'.length=L.length/\bm L'=rE (bm L) p x c/\bs L'=aN (bs L) x p/\aj (fun z=>z=tl) H J):=by
 refine aT wG ?_;refine vs ?_;refine(fV h p).mono ?_;rintro _ J ⟨rfl,e⟩;obtain rfl:=e.symm;rw[ajQ m];refine vs ?_;refine(fV h x).mono ?_;rintro _ J ⟨rfl,e⟩;obtain rfl:=e.symm;rw[ajQ r];refine vs ?_;refine ai.dec (fun g=>absurd g A) (fun _=>?_);refine vs ?_;refine(jB h x).mono ?_;rintro _ J ⟨rfl,e⟩;obtain rfl:=e.symm;rw[K];refine v1 ajZ ?_;refine(iR h p c).mono ?_;rintro _ J ⟨rfl,e⟩;obtain rfl:=e.symm;rw[P];refine v1 ajZ ?_;obtain⟨y,j⟩:∃y,L[p.toNat]? =some y:=⟨_,ajL O⟩;have Q:c.toNat<2:=by cases c<;>decide
 have U:=ii L;refine v1 (ae h.own) ?_;refine⟨_,kD H c,?_⟩;refine⟨O,?_⟩;refine v4 ajJ Nat.add_zero ajM Int.toNat_natCast ?_;refine⟨O,?_⟩;refine v5 h.j5 ajJ Nat.add_zero ajM Int.toNat_natCast ?_;refine⟨O,?_⟩;have a:=h.put (L':=L.set p.toNat (y.fU c x)) Z;have o:aj (fun z=>z=tl) H (H.wr tl (aR (L.set p.toNat (y.fU c x)))):=(aj.refl (fun z=>z=tl) _).wr (fun _=>rfl) _;rw[<-tI j c x]at a o;have F:=pS m.1 j c x;have N:=pT m.1 j c x;have l1:(L.set p.toNat (y.fU c x)).length=L.length:=ajN ..
 generalize L.set p.toNat (y.fU c x)=l at*;refine vs ?_;generalize H.wr tl ((aR L).set (p.toNat*3+c.toNat) (i64 x))=q at*;obtain⟨n,d⟩:∃y,l[x.toNat]? =some y:=Z;have W:=ii l;refine v1 (ae a.own) ?_;refine⟨O,?_⟩;refine v2 a.j5 ajJ ?_;refine⟨O,?_⟩;have u:=a.put (L':=l.set x.toNat ⟨n.a,n.b,p⟩) Z;have f:aj (fun z=>z=tl) q (q.wr tl (aR (l.set x.toNat ⟨n.a,n.b,p⟩))):=(aj.refl (fun z=>z=tl) _).wr (fun _=>rfl) _;rw[<-Dr d p]at u f;refine vs ?_;exact⟨rfl,_,u,Z,by rw[zU r.1 d,F];rfl,by rw[zV r.1 d,N],o.trans f⟩
theorem cL(h:bR H t tl L)(F:bs L x≠ -1->0<=bs L x/\bs L x<L.length):
  aF 332 [ptr t,i64 x] H fun v J=>ak (v=gz (bs L x)/\∃L',bR J t tl L'/\L'.length=L.length/\bm L'=iy (bm L) (bs L) x/\bs L'=dq (bs L) x/\aj (fun z=>z=tl) H J):=by
 refine aT xV ?_;refine vs ?_;refine(jB h x).mono ?_;rintro _ J ⟨rfl,e⟩;obtain rfl:=e.symm;refine vs ?_;have I:=ii L;refine ai.dec (fun g=>?_) (fun g=>?_)<;>refine vs ?_
 ·refine⟨by unfold gz;rw[if_pos g];rfl,L,h,rfl,by unfold iy;grind,?_,aj.refl _ _⟩;funext z;unfold dq aN;grind
 have f:0<=x/\x<L.length:=aj3 fun A=>g (KQ A);obtain⟨u,D⟩:=F g;generalize G:bs L x=p at*;obtain⟨y,m⟩:∃y,L[p.toNat]? =some y:=⟨_,ajL O⟩;have P:∀c:Bool,c.toNat<2:=fun c=>by cases c<;>decide
 refine v1 (ae h.own) ?_;refine⟨_,iR h p true,?_⟩;refine vs ?_;refine⟨_,kD H (decide (bm L p true=x)),?_⟩;have K:decide (bm L p true=x)=(bm L p true==x):=by rfl
 rw[K];have U:=P (bm L p true==x);generalize W:(bm L p true==x)=c at*;refine⟨O,?_⟩;refine v4 ajJ Nat.add_zero ajM Int.toNat_natCast ?_;refine⟨⟨O,O⟩,?_⟩;refine v5 h.j5 ajJ Nat.add_zero ajM Int.toNat_natCast ?_;refine⟨O,?_⟩;have a:=h.put (L':=L.set p.toNat (y.fU c (-1))) Z;have d:aj (fun z=>z=tl) H (H.wr tl (aR (L.set p.toNat (y.fU c (-1))))):=(aj.refl (fun z=>z=tl) _).wr (fun _=>rfl) _;rw[<-tI m c (-1)]at a d;have N:=pS u m c (-1);have Q:=pT u m c (-1);have l1:(L.set p.toNat (y.fU c (-1))).length=L.length:=ajN ..
 generalize L.set p.toNat (y.fU c (-1))=l at*;refine vs ?_;generalize H.wr tl ((aR L).set (p.toNat*3+c.toNat) (i64 (-1)))=j at*;obtain⟨n,r⟩:∃y,l[x.toNat]? =some y:=Z;have V:=ii l;refine v1 (ae a.own) ?_;refine⟨O,?_⟩;refine v2 a.j5 ajJ ?_;refine⟨O,?_⟩;have o:=a.put (L':=l.set x.toNat ⟨n.a,n.b, -1⟩) Z;have q:aj (fun z=>z=tl) j (j.wr tl (aR (l.set x.toNat ⟨n.a,n.b, -1⟩))):=(aj.refl (fun z=>z=tl) _).wr (fun _=>rfl) _;rw[<-Dr r (-1)]at o q;refine vs ?_;refine⟨by unfold gz;rw[if_neg g];rfl,_,o,Z,?_,by rw[zV f.1 r,Q];rfl,d.trans q⟩;rw[zU f.1 r,N];unfold iy;grind
theorem Oo{L:List Lk}{y:Lk}(x:0<=p)(h:L[p.toNat]? =some y):bm (L.set p.toNat ⟨y.b,y.a,y.u⟩)=lA (bm L) p/\bs (L.set p.toNat ⟨y.b,y.a,y.u⟩)=bs L:=by
 have a:=(ajK.1 h).1;constructor
 ·funext z d;unfold lA;by_cases l:z=p
  ·subst l;rw[pR x (ajY a),if_pos rfl,pR x h];cases d<;>rfl
  ·rw[if_neg l];unfold bm;split
   ·rw[ajT O]
   ·rfl
 ·funext z;by_cases l:z=p
  ·subst l;rw[sK x (ajY a),sK x h]
  ·unfold bs;grind
theorem KR{L:List Lk}{y:Lk}(hi:L[i]? =some y):((aR L).set (i*3) (i64 y.b)).set (i*3+1) (i64 y.a)=aR (L.set i ⟨y.b,y.a,y.u⟩):=by
 induction L generalizing i with
 |nil=>rfl
 |cons a r h=>
  have e:aR (a::r)=i64 a.a::i64 a.b::i64 a.u::aR r:=rfl;cases i with
  |zero=>simp at hi;subst hi;rfl
  |succ i=>
   have x:aR ((a::r).set (i+1) ⟨y.b,y.a,y.u⟩)=i64 a.a::i64 a.b::i64 a.u::aR (r.set i ⟨y.b,y.a,y.u⟩):=rfl;grind
theorem kG(h:bR H t tl L)(g:0<=p/\p<L.length):
  aF 347 [ptr t,i64 p] H fun v J=>ak (v= .bool true/\∃L',bR J t tl L'/\L'.length=L.length/\bm L'=lA (bm L) p/\bs L'=bs L/\aj (fun z=>z=tl) H J):=by
 refine aT wH ?_;refine vs ?_;refine(fV h p).mono ?_;rintro _ J ⟨rfl,e⟩;obtain rfl:=e.symm;rw[ajQ g];obtain⟨y,a⟩:∃y,L[p.toNat]? =some y:=⟨_,ajL O⟩;have f:=ii L;obtain⟨a1,a2,a3⟩:=LN a;refine v1 (ae h.own) ?_;refine⟨O,?_⟩;refine vs ?_;have x:Int.toNat 1=1:=rfl;refine⟨O,?_⟩;refine v8 (ae h.j5) ajJ Nat.add_zero ajM Int.toNat_zero x a1 a2 ?_;refine⟨O,?_⟩;refine v8 (ae h.j5) ajJ Nat.add_zero ajM Int.toNat_zero x a1 a2 ?_;refine⟨O,?_⟩;refine v6 h.j5 ajJ Nat.add_zero ajM Int.toNat_zero x ?_;refine⟨O,?_⟩;refine vs ?_;refine⟨O,?_⟩;have r:(H.wr tl ((aR L).set (p.toNat*3) (i64 y.b))).own tl=_:=ah h.j5;have n:aj (fun z=>z=tl) H (H.wr tl ((aR L).set (p.toNat*3) (i64 y.b))):=(aj.refl (fun z=>z=tl) _).wr (fun _=>rfl) _;have o:=n.own h.own h.ne;generalize H.wr tl ((aR L).set (p.toNat*3) (i64 y.b))=l at*;refine v6 r ajJ Nat.add_zero ajM Int.toNat_zero x ?_;refine⟨Z,?_⟩;have m:aj (fun z=>z=tl) l (l.wr tl (((aR L).set (p.toNat*3) (i64 y.b)).set (p.toNat*3+1) (i64 y.a))):=(aj.refl (fun z=>z=tl) _).wr (fun _=>rfl) _;have q:(l.wr tl (((aR L).set (p.toNat*3) (i64 y.b)).set (p.toNat*3+1) (i64 y.a))).own tl=_:=ah r;refine vs ?_;obtain⟨j,d⟩:=Oo g.1 a;refine⟨rfl,L.set p.toNat ⟨y.b,y.a,y.u⟩,⟨by rw[ajN];exact m.own o h.ne,by rw[<-KR a];exact q,h.ne⟩,ajN ..,j,d,n.trans m⟩
end
theorem LO(n:Nat):dw [Value.int .i64 0,Value.int .i64 0,Value.int .i64 0] n=aR (List.replicate n ⟨0,0,0⟩):=by
 unfold dw;induction n with
 |zero=>rfl
 |succ n x=>grind [aR,KP]
theorem Ge{L:List Lk}(hi:i<L.length)(y:Lk):aS (aR L) (i*3) [i64 y.a,i64 y.b,i64 y.u]=aR (L.set i y):=by
 simp only[aS];induction L generalizing i with
 |nil=>rfl
 |cons a r h=>
  have e:aR (a::r)=i64 a.a::i64 a.b::i64 a.u::aR r:=rfl;cases i with
  |zero=>rfl
  |succ i=>
   have x:aR ((a::r).set (i+1) y)=i64 a.a::i64 a.b::i64 a.u::aR (r.set i y):=rfl;grind
def jC:Lk:=⟨-1, -1, -1⟩
theorem sL(H:Hp){n:Int}(F:0<=n/\n<=65536):aF 126 [i64 n] H fun v J=>ak (∃t tl,v= .tuple [ptr t,i64 0].toArray/\bR J t tl (List.replicate n.toNat jC)/\af H J/\H.size<=t/\H.size<=tl):=by
 refine aT IN ?_;refine vs ?_;refine ai.dec (fun g=>absurd g O) (fun _=>?_);refine vs ?_;refine ai.dec (fun g=>absurd g O) (fun _=>?_);refine vs ?_;refine⟨O,?_⟩;refine vs ?_;rw[LO];have p:af H ((H.new 298 (aR (List.replicate n.toNat ⟨0,0,0⟩))).new 295 [.slice (some ⟨H.size,0,none⟩) n.toNat n.toNat]):=bD.new _ _;have y:bR ((H.new 298 (aR (List.replicate n.toNat ⟨0,0,0⟩))).new 295 [.slice (some ⟨H.size,0,none⟩) n.toNat n.toNat]) (H.size+1) H.size (List.replicate n.toNat ⟨0,0,0⟩):=by
  refine⟨?_,?_,O⟩
  ·rw[akl];exact az (by simp only[ag])
  ·rw[ay (by simp only[ag];omega),am]
 generalize (H.new 298 (aR (List.replicate n.toNat ⟨0,0,0⟩))).new 295 [.slice (some ⟨H.size,0,none⟩) n.toNat n.toNat]=h at*;have P:=y.own;rw[akl]at P;refine bj.intro (fun m env J=>∃j:Nat,m=n.toNat - j/\j<=n.toNat/\aj (fun z=>z=H.size) h J/\bR J (H.size+1) H.size (List.replicate j jC++List.replicate (n.toNat - j) ⟨0,0,0⟩)/\
  env=[(4,ptr (H.size+1)),(20,i64 (n.toNat:Nat)),(21,i64 j)]) n.toNat ⟨0,O,O,aj.refl _ _,y,rfl⟩ ?_
 rintro m env r ⟨j,rfl,K,l,x,rfl⟩;have f:=ii (List.replicate j jC++List.replicate (n.toNat - j) (⟨0,0,0⟩:Lk));have o:(List.replicate j jC++List.replicate (n.toNat - j) (⟨0,0,0⟩:Lk)).length=n.toNat:=by simp;omega
 have e:=x.own;rw[o]at f e;refine vs ?_;refine ai.dec (fun u=>?_) (fun u=>?_)<;>refine vs ?_
 ·first|refine v1 (ae e) ?_|skip
  refine⟨O,?_⟩;refine v3 x.j5 ajJ Int.toNat_natCast ?_;refine⟨O,?_⟩;have a:=Ge (L:=List.replicate j jC++List.replicate (n.toNat - j) (⟨0,0,0⟩:Lk)) (i:=j) O jC;have d:(List.replicate j jC++List.replicate (n.toNat - j) (⟨0,0,0⟩:Lk)).set j jC=List.replicate (j+1) jC++List.replicate (n.toNat - (j+1)) (⟨0,0,0⟩:Lk):=by
   rw[ala _ _ (by simp),akl,alj,show n.toNat - j=(n.toNat - (j+1))+1 by omega,akv,alk,ale];simp
  rw[d]at a;have N:=x.put (L':=List.replicate (j+1) jC++List.replicate (n.toNat - (j+1)) (⟨0,0,0⟩:Lk)) Z;have A:aj (fun z=>z=H.size) h (r.wr H.size (aR (List.replicate (j+1) jC++List.replicate (n.toNat - (j+1)) (⟨0,0,0⟩:Lk)))):=l.wr (fun _=>rfl) _;rw[show aS (aR (List.replicate j jC++List.replicate (n.toNat - j) (⟨0,0,0⟩:Lk))) (j*3) (aK (Value.agg #[Value.int .i64 (-1),Value.int .i64 (-1),Value.int .i64 (-1)]))=_ from a];refine vs ?_;rw[wrap64 (n:=(j:Int)+1) O O];grind
 ·have q:j=n.toNat:=O;subst q;rw[alj,List.replicate_zero,ake]at x;exact⟨_,_,rfl,x,p.then l O,O,O⟩
end
section
variable{x:Int}
structure LB where
 n:Nat
 c:Nat
 t:Nat
 tl:Nat
 rk:Nat
 tp:Nat
structure dk(H:Hp)(B:LB)(C:Nat->Prop)(w:Nw)(L:List Lk)(rs tops:List Int):Prop where
 own:∃tv,H.own B.n=some [ptr B.c,ptr B.t,.slice (some ⟨B.rk,0,none⟩) rs.length rs.length,tv]/\Sl H 1 tv tops.length (tops.map i64) (some B.tp)
 cells:CQ H B.c C w
 ci:bR H B.t B.tl L
 zW:H.own B.rk=some (rs.map i64)
 len:L.length=w.cs.length/\rs.length=w.cs.length
 ly:(B.n≠B.t/\B.n≠B.tl/\B.n≠B.rk/\B.n≠B.tp)/\(B.t≠B.tl/\B.t≠B.rk/\B.t≠B.tp)/\(B.tl≠B.rk/\B.tl≠B.tp)/\B.rk≠B.tp
 out:¬C B.n/\¬C B.t/\¬C B.tl/\¬C B.rk/\¬C B.tp
def LB.S(B:LB)(C:Nat->Prop)(z:Nat):Prop:=C z\/z=B.n\/z=B.t\/z=B.tl\/z=B.rk\/z=B.tp
section
variable {H J : Hp} {B : LB} {C T : Nat → Prop} {w w' : Nw} {L L' : List Lk} {rs tops : List Int}
theorem dk.slt(h:dk H B C w L rs tops):∀z,B.S C z->z<H.size:=by
 obtain⟨n,x,l⟩:=h.own;rintro z (a|rfl|rfl|rfl|rfl|rfl)
 ·exact h.cells.slt z a
 ·exact aC x
 ·exact aC h.ci.own
 ·exact aC h.ci.j5
 ·exact aC h.zW
 ·exact l.lt
theorem dk.ext(h:dk H B C w L rs tops)(e:aj T H J)(l:∀z,B.S C z->¬T z):dk J B C w L rs tops:=by
 obtain⟨g,n,m⟩:=h.own;exact⟨⟨g,e.own n (l _ (.inr (.inl rfl))),m.ext e (fun b a=>by injection a with a;exact a▸l _ (.inr O))⟩,h.cells.ext e (fun x v=>l x (.inl v)),
  h.ci.ext e (l _ (.inr (.inr (.inl rfl)))) (l _ (.inr O)),e.own h.zW (l _ (.inr O)),h.len,h.ly,h.out⟩
theorem dk.fresh(h:dk H B C w L rs tops)(e:af H J):dk J B C w L rs tops:=h.ext e fun _ _ h=>h
theorem dk.aD(h:dk H B C w L rs tops)(x:CQ J B.c C w')(e:aj C H J)(a:w'.cs.length=w.cs.length):dk J B C w' L rs tops:=by
 obtain⟨y,z,l⟩:=h.own;obtain⟨n,m,v,g,r⟩:=h.out;exact⟨⟨y,e.own z n,l.ext e Z⟩,x,h.ci.ext e m v,e.own h.zW g,by rw[a];exact h.len,h.ly,h.out⟩
theorem dk.dX(h:dk H B C w L rs tops)(m:bR J B.t B.tl L')(e:aj (fun z=>z=B.tl) H J)(n:L'.length=L.length):dk J B C w L' rs tops:=by
 obtain⟨v,l,a⟩:=h.own;obtain⟨f,u,P,A,K⟩:=h.out;obtain⟨⟨g,x,y,r⟩,⟨j,d,p⟩,⟨q,o⟩,d10⟩:=h.ly;exact⟨⟨v,e.own l x,a.ext e Z⟩,h.cells.ext e Z,m,e.own h.zW O,by rw[n];exact h.len,h.ly,h.out⟩
theorem dk.KS(h:dk H B C w L rs tops)(i:Nat)(v:Int):dk (H.wr B.rk ((rs.map i64).set i (i64 v))) B C w L (rs.set i v) tops/\aj (fun z=>z=B.rk) H (H.wr B.rk ((rs.map i64).set i (i64 v))):=by
 obtain⟨n,l,a⟩:=h.own;obtain⟨o,f,u,P,A⟩:=h.out;obtain⟨⟨m,g,x,y⟩,⟨r,j,d⟩,⟨p,q⟩,d10⟩:=h.ly;have e:aj (fun z=>z=B.rk) H (H.wr B.rk ((rs.map i64).set i (i64 v))):=(aj.refl (fun z=>z=B.rk) _).wr (fun _=>rfl) _;refine⟨⟨⟨n,by rw[ajN];exact e.own l x,a.ext e Z⟩,h.cells.ext e Z,h.ci.ext e O O,?_,by cases h;grind,h.ly,h.out⟩,e⟩;rw[akd];exact ah h.zW
theorem dk.eh(h:dk H B C w L rs tops):∃c l,H.own B.n=some [ptr B.c,ptr B.t,.slice (some ⟨B.rk,0,none⟩) rs.length rs.length,.slice (some ⟨B.tp,0,none⟩) tops.length c]/\H.own B.tp=some l/\tops.length<=c/\c<=l.length/\l.take tops.length=tops.map i64:=by
 obtain⟨v,x,_,l,c,rfl,z,a,n,m⟩:=h.own;grind
theorem dk.cS(h:dk H B C w L rs tops){l:List Value}(a:H.own B.tp=some l){i:Nat}(n:tops[i]? =some x):l[i]? =some (i64 x):=by
 obtain⟨c,l',_,z,_,_,m⟩:=h.eh;rw[a]at z;injection z with z;subst z;have v:(tops.map i64)[i]? =some (i64 x):=by rw[aj9,n];rfl
 grind
theorem dk.fJ(h:dk H B C w L rs tops){l:List Value}(a:H.own B.tp=some l)(i:Nat)(v:Int):dk (H.wr B.tp (l.set i (i64 v))) B C w L rs (tops.set i v)/\aj (fun z=>z=B.tp) H (H.wr B.tp (l.set i (i64 v))):=by
 obtain⟨c,l',m,x,u,P,g⟩:=h.eh;rw[a]at x;injection x with x;subst x;obtain⟨A,K,F,N,Q⟩:=h.out;obtain⟨⟨y,r,j,n⟩,⟨d,p,q⟩,⟨o,f⟩,d10⟩:=h.ly;have e:aj (fun z=>z=B.tp) H (H.wr B.tp (l.set i (i64 v))):=(aj.refl (fun z=>z=B.tp) _).wr (fun _=>rfl) _;refine⟨⟨⟨_,e.own m n,?_⟩,h.cells.ext e Z,h.ci.ext e O O,e.own h.zW O,h.len,h.ly,h.out⟩,e⟩;refine⟨by simp,l.set i (i64 v),c,Z,ah a,Z,Z,?_⟩;rw[ajN,ajM,tD,g,akd]
theorem cG(H:Hp)(x:Int):∀ (a:Int) (b:Bool),gz x= .tuple [i64 a,.bool b].toArray->aF 335 [i64 a,.bool b] H fun v J=>ak (v=i64 x/\J=H):=by
 intro a b h;unfold gz at h;refine aT E2 ?_;refine vs ?_;have z:∀ {p q:Int} {r s:Bool},Value.tuple [i64 p,Value.bool r].toArray=Value.tuple [i64 q,Value.bool s].toArray->p=q/\r=s:=Z;split at h
 ·rename_i l;obtain⟨rfl,rfl⟩:=z h;refine vs ?_;rw[l];exact⟨rfl,rfl⟩
 ·obtain⟨rfl,rfl⟩:=z h;refine vs ?_;exact⟨rfl,rfl⟩
theorem cM(x:Int):∃ (a:Int) (b:Bool),gz x= .tuple [i64 a,.bool b].toArray:=by
 unfold gz;split
 ·grind
 grind
def U4(rs:List Int)(x:Int):Int:=if x= -1 then 0 else rs.getD x.toNat 0
theorem eK(h:dk H B C w L rs tops)(z:x≠ -1->0<=x/\x<w.cs.length):aF 346 [ptr B.n,i64 x] H fun v J=>ak (v=i64 (U4 rs x)/\J=H):=by
 obtain⟨e,l,n⟩:=h.own;have m:=h.len;refine aT qZ ?_;refine vs ?_;refine ai.dec (fun g=>?_) (fun g=>?_)<;>refine vs ?_
 ·unfold U4;rw[if_pos g];exact⟨rfl,rfl⟩
 have z:=z g;have a:(rs.map i64)[x.toNat]? =some (i64 (U4 rs x)):=by
  unfold U4;rw[if_neg g,aj9,ajR,ajL O];rfl
 refine v1 (ae l) ?_;refine⟨O,?_⟩;refine v4 (ae h.zW) ajJ ajM a ?_;exact⟨rfl,rfl⟩
theorem gC(h:dk H B C w L rs tops)(Q:0<=x/\x<w.cs.length)(m:∀c,bm L x c≠ -1->0<=bm L x c/\bm L x c<w.cs.length):
  aF 343 [ptr B.n,i64 x] H fun v J=>ak (∃L' u,dk J B C w L' u tops/\(bm L'=bm L\/bm L'=lA (bm L) x)/\bs L'=bs L/\aj (fun z=>z=B.tl\/z=B.rk) H J):=by
 obtain⟨U,n,F⟩:=h.own;have N:=h.len;refine aT qY ?_;refine v1 (ae n) ?_;obtain⟨a1,j,a⟩:=cM (bm L x false);obtain⟨a2,q,l⟩:=cM (bm L x true);refine⟨.tuple [i64 a1,.bool j].toArray,(kF h.ci x).mono (by rintro v J ⟨rfl,rfl⟩;grind),?_⟩;refine vs ?_;refine⟨_,cG H _ a1 j a,?_⟩;refine v1 (ae n) ?_;refine(cF h.ci x).mono ?_;rintro _ J ⟨rfl,e⟩;obtain rfl:=e.symm;rw[l];refine vs ?_;refine(cG H _ a2 q l).mono ?_;rintro _ J ⟨rfl,e⟩;obtain rfl:=e.symm;refine vs ?_;refine(eK h (m false)).mono ?_;rintro _ J ⟨rfl,e⟩;obtain rfl:=e.symm;refine vs ?_;refine(eK h (m true)).mono ?_;rintro _ J ⟨rfl,e⟩;obtain rfl:=e.symm;refine vs ?_;refine ai.dec (fun g=>?_) (fun g=>?_)<;>refine vs ?_
 ·refine v1 (ae n) ?_;refine(kG h.ci (p:=x) O).mono ?_;rintro _ K ⟨rfl,d,P,l1,o,A,a⟩;have y:=h.dX P a l1;obtain⟨W,f,_⟩:=y.own;refine v1 (ae f) ?_;refine⟨_,eK y (m false),?_⟩;refine vs ?_;refine⟨O,?_⟩;refine v3 y.zW ajJ ajM ?_;refine⟨Z,?_⟩;obtain⟨r,l⟩:=y.KS x.toNat (IntKind.i64.wrap (U4 rs (bm L x false)+1));refine vs ?_;exact⟨d,_,r,.inr o,A,(a.mono O).trans (l.mono O)⟩
 ·refine v1 (ae n) ?_;refine⟨_,eK h (m true),?_⟩;refine vs ?_;refine⟨O,?_⟩;refine v3 h.zW ajJ ajM ?_;refine⟨Z,?_⟩;obtain⟨r,l⟩:=h.KS x.toNat (IntKind.i64.wrap (U4 rs (bm L x true)+1));refine vs ?_;exact⟨L,_,r,.inl rfl,rfl,l.mono O⟩
abbrev yj(w:Nw)(L:List Lk):Prop:=Bt (aH w) (aU w) (bm L) (bs L)
theorem yj.rF{w:Nw}{L:List Lk}(h:yj w L){c:Bool}(z:bm L x c≠ -1):0<=bm L x c/\bm L x c<w.cs.length:=by
 obtain⟨_,_,l,n,_⟩:=Bt.home h z;obtain⟨a,b,_⟩:=aI (w:=w) (x:=bm L x c) O;omega
theorem yj.up{w:Nw}{L:List Lk}(h:yj w L)(z:bs L x≠ -1):0<=bs L x/\bs L x<w.cs.length/\aU w (bs L x) x=true/\aH w (bs L x)=aH w x:=by
 obtain⟨_,_,l,n,m⟩:=h.uk x _ rfl z;obtain⟨a,b,_⟩:=aI (w:=w) (x:=bs L x) O;grind
theorem iS(h:dk H B C w L rs tops)(M:yj w L)(hx:x≠ -1->0<aH w x):
  aF 333 [ptr B.n,i64 x] H fun v J=>ak (∃L' o,dk J B C w L' o tops/\yj w L'/\bs L'=bs L/\aj (fun z=>z=B.tl\/z=B.rk) H J):=by
 refine aT uB ?_;refine vs ?_;refine bj.intro (fun m env J=>∃ (x:Int) (L':List Lk) (o:List Int),m=(if x= -1 then 0 else JT (aU w) w.cs.length x+1)/\(x≠ -1->0<aH w x)/\dk J B C w L' o tops/\yj w L'/\bs L'=bs L/\aj (fun z=>z=B.tl\/z=B.rk) H J/\
  env=[(0,ptr B.n),(1,i64 x)]) _ ⟨x,L,rs,rfl,hx,h,M,rfl,aj.refl _ _,rfl⟩ ?_
 rintro m env H1 ⟨y,I,f,rfl,hy,a,A,P,K,rfl⟩;refine vs ?_;refine ai.dec (fun g=>?_) (fun g=>?_)<;>refine vs ?_
 ·exact⟨I,f,a,A,P,K⟩
 obtain⟨y0,y1,_⟩:=aI (hy g);obtain⟨tv,o1,_⟩:=a.own;have UX:=a.len;obtain⟨r,X⟩:∃r,(f.map i64)[y.toNat]? =some (i64 r):=⟨f[y.toNat]' O,Z⟩;refine v1 (ae o1) ?_;refine⟨O,?_⟩;refine v4 (ae a.zW) ajJ ajM X ?_;refine(gC a ⟨y0,y1⟩ (fun c E=>A.rF E)).mono ?_;rintro v2 W ⟨L2,u,l,q,U,G⟩;have j:yj w L2:=by
  rcases q with q|q
  ·grind
  ·grind [Bt.tO]
 obtain⟨ML,Q,_⟩:=l.own;have Oq:=l.len;have F:=K.trans G;obtain⟨r2,LP⟩:∃r,(u.map i64)[y.toNat]? =some (i64 r):=Z;refine v1 (ae Q) ?_;refine⟨O,?_⟩;refine v4 (ae l.zW) ajJ ajM LP ?_;refine ai.dec (fun D=>?_) (fun D=>?_)<;>refine vs ?_
 ·exact⟨L2,u,l,j,U.trans P,F⟩
 refine v1 (ae Q) ?_;refine(nE l.ci y).mono ?_;rintro _ J ⟨rfl,e⟩;obtain rfl:=e.symm;obtain⟨a1,V,N⟩:=cM (bs L2 y);rw[N];refine vs ?_;refine(cG W _ a1 V N).mono ?_;rintro _ J ⟨rfl,e⟩;obtain rfl:=e.symm;refine vs ?_;refine⟨_,?_,bs L2 y,L2,u,rfl,fun d=>?_,l,j,U.trans P,F,rfl⟩
 ·rw[if_neg g];split
  ·omega
  ·rename_i d;have:=j.up d;have:=B8 (au w) (n:=w.cs.length) (p:=bs L2 y) (x:=y) O this.2.2.1;omega
 ·have:=j.up d;omega
end
end
theorem Sl.shape{H:Hp}{w:Value}{n:Nat}{xs:List Value}{fp:Option Nat}(h:Sl H 1 w n xs fp):∃a c,w= .slice a n c:=by
 obtain⟨x,z⟩:=h;grind
theorem Sl.wN{H:Hp}{a:Option Addr}{n c:Nat}{xs:List Int}{fp:Option Nat}(h:Sl H 1 (.slice a n c) n (xs.map i64) fp){i:Nat}{x:Int}(v:xs[i]? =some x):
  i<n/\∃b z,a=some ⟨b,0,none⟩/\H.own b=some z/\z[i]? =some (i64 x):=by
 cases fp with
 |none=>
  have l:=h.1;have m:=h.2.1;grind
 |some b=>
  obtain⟨l,m,z,e,g⟩:=Sl.num h v;grind
section
variable {H : Hp} {B : LB} {C : Nat → Prop} {w : Nw} {L : List Lk} {rs tops : List Int}
theorem fg(h:dk H B C w L rs tops){g a0 b0:Int}{R:Int->Prop}(m:Mg (aH w) (aU w) g R (bm L) (bs L) [] a0 b0):
  aF 334 [ptr B.n,i64 a0,i64 b0] H fun v J=>ak (∃r L' rs',v=i64 r/\dk J B C w L' rs' tops/\Mg (aH w) (aU w) g R (bm L') (bs L') [] r (-1)/\
   (∀y,oO (aU w) (bm L) (bs L) y (bm L) (bs L) [] a0 b0->oO (aU w) (bm L) (bs L) y (bm L') (bs L') [] r (-1))/\aj (fun z=>C z\/z=B.tl\/z=B.rk) H J):=by
 refine aT sp ?_;refine vs ?_;have uH:=h.cells.zf;refine bj.intro (fun mm env J=>∃ (a b:Int) (l:List Int) (wv:Value) (fp:Option Nat) (L':List Lk),mm=w.cs.length - l.length/\dk J B C w L' rs tops/\Mg (aH w) (aU w) g R (bm L') (bs L') l a b/\
  (∀y,oO (aU w) (bm L) (bs L) y (bm L) (bs L) [] a0 b0->oO (aU w) (bm L) (bs L) y (bm L') (bs L') l a b)/\
  (∀z,fp=some z->H.size<=z)/\Sl J 1 wv l.length (l.map i64) fp/\aj (fun z=>C z\/z=B.tl\/z=B.rk\/H.size<=z) H J/\
  env=[(0,ptr B.n),(1,i64 a),(2,i64 b),(7,wv)]) _ ⟨a0,b0,[],_,none,L,rfl,h,m,(fun _ h=>h),Z,Sl.nil _ _,aj.refl _ _,rfl⟩ ?_
 rintro mm env H1 ⟨a,b,l,wv,fp,n,rfl,l1,u,f1,yc,s1,e1,rfl⟩;have z1:=e1.size;clear m;refine vs ?_;refine ai.dec (fun F=>?A) (fun F=>?_)<;>refine vs ?_;rotate_left;refine ai.dec (fun U=>?B) (fun U=>?_)<;>refine vs ?_;rotate_left
 ·obtain⟨MM,o1,_⟩:=l1.own;refine v1 (ae o1) ?_;refine(cB l1.cells b a).mono ?_;rintro _ H2 ⟨rfl,c2,P⟩;have l2:=l1.aD c2 P rfl;have s2:=s1.ext P (fun z d W=>by have:=yc z d;have:=h.slt z (.inl W);omega);have z2:=P.size;have ha:=u.wa.resolve_left F;have hb:=u.wb.resolve_left U;have Fc:=fT (w:=w) (a:=b) (b:=a) (by rw[hb.1];exact u.pos) (by rw[ha.1];exact u.pos);have nj:a≠b:=fun e=>F (u.ab e);rw[Fc];cases iC:aU w b a
  ·refine vs ?_;have hl:aU w a b=true:=by grind [aU,Nw.key,Nw.seq]
   have mm:Mg (aH w) (aU w) g R (bm n) (bs n) l a b:=u;have Qy:0<aH w a:=by rw[(mm.wa.resolve_left F).1];exact mm.pos
   obtain⟨p0,p1,_⟩:=aI Qy;have f:=mm.NF (au w) F U hl;have wl:(l++[a]).length<=w.cs.length:=cm (f.nodup (au w)) fun x E=>by
    have Ou:=(f.wy x E).2.1;have ST:=f.pos;obtain⟨y,x1,_⟩:=aI (w:=w) (x:=x) O;omega
   rw[ajW,ako]at wl;refine AX (B:=H.size) yc O s2 a O fun w' H3 LM M s3 K=>?_;refine vs ?_;have q:=l2.ext K (fun z d W=>by have:=h.slt z d;omega);obtain⟨SU,X,_⟩:=q.own;refine v1 (ae X) ?_;refine(cF q.ci a).mono ?_;rintro _ J ⟨rfl,e⟩;obtain rfl:=e.symm;obtain⟨k1,k2,G⟩:=cM (bm n a true);rw[G];refine vs ?_;refine(cG H3 _ k1 k2 G).mono ?_;rintro _ J ⟨rfl,e⟩;obtain rfl:=e.symm;refine v1 (ae X) ?_;refine(cL q.ci (x:=bm n a true) (fun hu=>by have:=yj.up mm.bt hu;rw[q.len.1];omega)).mono ?_;rintro _ H4 ⟨rfl,Q,t4,SV,kk4,uu4,o⟩;have I:=q.dX t4 o SV;have s4:=s3.ext o (fun z d W=>by have:=M z d;have:=h.slt B.tl (.inr O);omega);obtain⟨k3,k4,ek2⟩:=cM (bs n (bm n a true));rw[ek2];refine vs ?_;refine⟨w.cs.length - (l.length+1),O,bm n a true,b,l++[a],w',LM,Q,by simp,I,?_,?_,M,s4,((e1.trans (P.mono Z)).trans (K.mono O)).trans (o.mono O),rfl⟩
   ·grind
   cases u;grind [oO.down,au]
  ·refine vs ?_;have hl:aU w b a=true:=iC;have mm:Mg (aH w) (aU w) g R (bm n) (bs n) l b a:=u.swap;have Qy:0<aH w b:=by rw[(mm.wa.resolve_left U).1];exact mm.pos
   obtain⟨p0,p1,_⟩:=aI Qy;have f:=mm.NF (au w) U F hl;have wl:(l++[b]).length<=w.cs.length:=cm (f.nodup (au w)) fun x E=>by
    have Ou:=(f.wy x E).2.1;have ST:=f.pos;obtain⟨y,x1,_⟩:=aI (w:=w) (x:=x) O;omega
   rw[ajW,ako]at wl;refine AX (B:=H.size) yc O s2 b O fun w' H3 LM M s3 K=>?_;refine vs ?_;have q:=l2.ext K (fun z d W=>by have:=h.slt z d;omega);obtain⟨SU,X,_⟩:=q.own;refine v1 (ae X) ?_;refine(cF q.ci b).mono ?_;rintro _ J ⟨rfl,e⟩;obtain rfl:=e.symm;obtain⟨k1,k2,G⟩:=cM (bm n b true);rw[G];refine vs ?_;refine(cG H3 _ k1 k2 G).mono ?_;rintro _ J ⟨rfl,e⟩;obtain rfl:=e.symm;refine v1 (ae X) ?_;refine(cL q.ci (x:=bm n b true) (fun hu=>by have:=yj.up mm.bt hu;rw[q.len.1];omega)).mono ?_;rintro _ H4 ⟨rfl,Q,t4,SV,kk4,uu4,o⟩;have I:=q.dX t4 o SV;have s4:=s3.ext o (fun z d W=>by have:=M z d;have:=h.slt B.tl (.inr O);omega);obtain⟨k3,k4,ek2⟩:=cM (bs n (bm n b true));rw[ek2];refine vs ?_;refine⟨w.cs.length - (l.length+1),O,bm n b true,a,l++[b],w',LM,Q,by simp,I,?_,?_,M,s4,((e1.trans (P.mono Z)).trans (K.mono O)).trans (o.mono O),rfl⟩
   ·grind
   cases u;grind [oO.down,oO.swap,au]
 case' A=>
  have V:Mg (aH w) (aU w) g R (bm n) (bs n) l b (-1):=F▸u.swap;have D:=fun y (h0:oO (aU w) (bm L) (bs L) y (bm L) (bs L) [] a0 b0)=>(f1 y h0).swap;rw[F]at D;generalize hr:b=r at V D;refine ai.bY Z ?_
 case' B=>
  have V:Mg (aH w) (aU w) g R (bm n) (bs n) l a (-1):=U▸u;have D:=f1;rw[U]at D;generalize hr:a=r at V D;refine ai.dec (fun h=>absurd (hr.trans h) F) (fun _=>?_)
 all_goals
  refine vs ?_;obtain⟨wa,wc,rfl⟩:=Sl.shape s1;refine vs ?_;have wl:l.length<=w.cs.length:=cm (V.nodup (au w)) fun x E=>by
   have Ou:=(V.wy x E).2.1;have ST:=V.pos;obtain⟨y,x1,_⟩:=aI (w:=w) (x:=x) O;omega
  refine bj.intro (fun mm env J=>∃ (i:Nat) (r:Int) (L':List Lk) (rs':List Int),mm=i/\i<=l.length/\dk J B C w L' rs' tops/\Mg (aH w) (aU w) g R (bm L') (bs L') (l.take i) r (-1)/\
   (∀y,oO (aU w) (bm L) (bs L) y (bm L) (bs L) [] a0 b0->oO (aU w) (bm L) (bs L) y (bm L') (bs L') (l.take i) r (-1))/\
   Sl J 1 (.slice wa l.length wc) l.length (l.map i64) fp/\aj (fun z=>C z\/z=B.tl\/z=B.rk\/H.size<=z) H J/\
   env=[(0,ptr B.n),(7,.slice wa l.length wc),(9,i64 r),(10,i64 ((i:Int) - 1))]) _ ⟨l.length,r,n,rs,rfl,ajU _,l1,Z,Z,s1,e1,?_⟩ ?_
  ·grind [wrap64]
  rintro mm env H2 ⟨i,r2,L2,rs2,YU,hi,l2,f,f3,s2,P,rfl⟩;obtain rfl:=YU.symm;refine vs ?_;refine ai.dec (fun gi=>?_) (fun gi=>?_)<;>refine vs ?_;rotate_left
  ·obtain rfl:i=0:=O;exact⟨r2,L2,rs2,rfl,l2,Z,Z,P.mono Z⟩
  obtain⟨j,rfl⟩:∃j,i=j+1:=⟨i - 1,O⟩;obtain⟨v,hv⟩:∃v,l[j]? =some v:=⟨_,ajL O⟩;have tk:l.take (j+1)=l.take j++[v]:=by rw[aj2,hv];rfl
  rw[tk]at f f3;have m4:=f.back (au w);have f4:=fun y h0=>(f3 y h0).back;obtain⟨v1,v2,v3,v4,v5,v6⟩:=f.wy v (by simp);obtain⟨q1,vb,lb,rfl,q2,q3⟩:=Sl.wN s2 hv;have WE:∃b',fp=some b'/\b'=vb:=by
   cases fp with
   |none=>have:=s2.2.2;grind
   |some b'=>obtain⟨_,_,h1,_⟩:=s2.2;grind
  obtain⟨b',rfl,rfl⟩:=WE;have WE:=yc b' rfl;have SW:0<aH w v:=by rw[v2];exact f.pos
  obtain⟨U5,vv1,_⟩:=aI SW;have ji:((((j+1:Nat):Int) - 1)).toNat=j:=O;obtain⟨ML,o2,_⟩:=l2.own;refine ai.dec (fun N=>?_) (fun N=>?_)<;>refine vs ?_
  ·rw[if_pos N,if_pos N]at m4;simp only[if_pos N]at f4;have f5:=f4;have q:=l2;have m5:=m4;have o3b:=q2;have s3:=s2;have K:=P;refine⟨O,?_⟩;simp(disch:=(first|exact aV|fail)) only[go_sem, ↓reduceIte,Zv,ae o3b,ajJ,ajM,ji,q3];refine(gC q ⟨U5,vv1⟩ (fun c hk=>yj.rF m5.bt hk)).mono ?_;rintro _ H4 ⟨Q,RQ,I,k4,u4,o⟩;refine vs ?_;refine⟨j,O,j,v,Q,RQ,rfl,O,I,?_,?_,s3.ext o (fun z d W=>by injection d with d;have:=h.slt B.tl (.inr O);have:=h.slt B.rk (.inr O);omega),K.trans (o.mono O),?_⟩
   ·grind [Mg.tO,au]
   ·grind [oO.tO]
   grind [wrap64]
  ·rw[if_neg N,if_neg N]at m4;simp only[if_neg N]at f4;have LP:=f.wa.resolve_left N;obtain⟨r0,r1,_⟩:=aI (w:=w) (x:=r2) O;have ec:=l2.len;have hvr:v≠r2:=fun e=>by have:=v5 N;rw[e,(au w).HO]at this;grind
   simp(disch:=(first|exact aV|fail)) only[go_sem, ↓reduceIte,Zv,ae o2];refine⟨O,?_⟩;simp(disch:=(first|exact aV|fail)) only[go_sem, ↓reduceIte,Zv,ae q2,ajJ,ajM,ji,q3];refine(fu l2.ci (p:=v) (x:=r2) (c:=true) ⟨U5,O⟩ ⟨r0,O⟩ hvr LP.2 v4).mono ?_;rintro _ H3 ⟨rfl,L3,t3,ll3,WF,WG,Ov⟩;have q:=l2.dX t3 Ov ll3;have m5:Mg (aH w) (aU w) g R (bm L3) (bs L3) (l.take j) v (-1):=by rw[WF,WG];exact m4
   have f5:=f4;rw[<-WF,<-WG]at f5;have nb:b'≠B.tl:=fun e=>by have:=h.slt B.tl (.inr O);omega
   have o3b:=Ov.own q2 nb;have s3:=s2.ext Ov Z;have K:=P.trans (Ov.mono O);refine vs ?_;refine⟨O,?_⟩;simp(disch:=(first|exact aV|fail)) only[go_sem, ↓reduceIte,Zv,ae o3b,ajJ,ajM,ji,q3];refine(gC q ⟨U5,vv1⟩ (fun c hk=>yj.rF m5.bt hk)).mono ?_;rintro _ H4 ⟨Q,RQ,I,k4,u4,o⟩;refine vs ?_;refine⟨j,O,j,v,Q,RQ,rfl,O,I,?_,?_,s3.ext o (fun z d W=>by injection d with d;have:=h.slt B.tl (.inr O);have:=h.slt B.rk (.inr O);omega),K.trans (o.mono O),?_⟩
   ·grind [Mg.tO,au]
   ·grind [oO.tO]
   grind [wrap64]
end
end Go.Proofs.YtjkkkibiegfecaaGreatDoor
