/- Texts put behind each other. -/
import Derived.Test.YtnanofhkpglbaaaGreatDoorK98
set_option linter.unusedSimpArgs false
set_option linter.unusedVariables false
set_option maxRecDepth 100000
set_option maxHeartbeats 80000000
namespace Go.Proofs.YtnanofhkpglbaaaGreatDoor
section
variable{x y:Int}{v:Nat}{b:Bool}
structure Ar where
 g:List (Nat×Bool)
 wt:List Int
 nx:Nat
 ct:Int
 mo:Nat
def Ar.be(A:Ar)(x:Int):Nat:=(A.g.getD x.toNat (0,false)).1
def Ar.live(A:Ar)(x:Int):Prop:=0<=x/\(A.g[x.toNat]?).map (·.2)=some true
instance(A:Ar)(x:Int):Decidable (A.live x):=by unfold Ar.live;exact inferInstance
def Ar.pick(A:Ar):Option (Int×Ar):=
 if A.wt≠[]then some (A.wt.getLastD 0,{A with wt:=A.wt.dropLast})else if A.nx=A.g.length then none else some ((A.nx:Int),{A with nx:=A.nx+1})
def Ar.out(A:Ar)(x:Int):Ar:={A with g:=A.g.set x.toNat (A.be x+1,true),ct:=A.ct+1}
def Ar.back(A:Ar)(x:Int):Ar:={A with g:=A.g.set x.toNat (A.be x,false),ct:=A.ct - 1,wt:=if A.be x<A.mo then A.wt++[x]else A.wt}
def Ar.aY(A:Ar):Nat:=A.g.countP (·.2)
theorem count_set{L:List (Nat×Bool)}{i:Nat}{y:Nat×Bool}(h:L[i]? =some y)(v:Nat)(b:Bool):(L.set i (v,b)).countP (·.2)+y.2.toNat=L.countP (·.2)+b.toNat:=by
 grind
structure oF(A:Ar):Prop where
 wl:∀x∈A.wt,¬A.live x/\x<A.nx/\0<=x
 wd:A.wt.Nodup
 fr:∀x:Int,A.nx<=x->¬A.live x
 ct:A.ct=A.aY
 nx:A.nx<=A.g.length
theorem Ar.get{A:Ar}(h:0<=x/\x<A.g.length):∃b,A.g[x.toNat]? =some (A.be x,b)/\(A.live x↔b=true):=by
 obtain⟨y,z⟩:∃y,A.g[x.toNat]? =some y:=⟨_,ak9 O⟩;refine⟨y.2,?_,?_⟩
 ·unfold Ar.be;grind
 ·unfold Ar.live;grind
theorem Ar.kN{A:Ar}{x:Int}(h:A.live x):0<=x/\x<A.g.length:=by
 obtain⟨z,w⟩:=h;grind
theorem Ar.oG{A A':Ar}(h:A.pick=some (x,A'))(ok:oF A):(0<=x/\x<A.g.length)/\¬A.live x/\x∉A'.wt/\x<A'.nx/\A'.g=A.g/\A'.ct=A.ct/\A'.mo=A.mo:=by
 have e:=ok.nx;unfold Ar.pick at h;split at h
 ·rename_i a;injection h with h;injection h with z w;subst z w;have c:A.wt=A.wt.dropLast++[A.wt.getLastD 0]:=by
   conv=>lhs;rw[<-amk a]
   rw[alY,ami a];rfl
  have hm:A.wt.getLastD 0∈A.wt:=by rw[c];simp
  have l:=ok.wl _ hm;refine⟨O,l.1,fun v=>?_,l.2.1,rfl,rfl,rfl⟩;have dZ:=ok.wd;grind
 ·split at h
  ·cases h
  ·rename_i z w;injection h with h;injection h with n m;subst n m;refine⟨O,ok.fr _ (Int.le_refl _),fun hm=>?_,Z,rfl,rfl,rfl⟩;grind
theorem Ar.lf{A A':Ar}(z:0<=x/\x<A.g.length)(h:A'.g=A.g.set x.toNat (v,b))(w:0<=y):A'.live y↔if y=x then b=true else A.live y:=by
 unfold Ar.live;grind
theorem Ar.LY{A A':Ar}(z:0<=x/\x<A.g.length)(h:A'.g=A.g.set x.toNat (v,b))(w:0<=y):A'.be y=if y=x then v else A.be y:=by
 unfold Ar.be;grind
theorem oF.out{A A':Ar}(ok:oF A')(j:A'.g=A.g)(a:0<=x/\x<A'.g.length)(d:¬A'.live x)(v:x∉A'.wt)(q:x<A'.nx):oF (A'.out x):=by
 obtain⟨b,m,p⟩:=Ar.get a;have c:b=false:=by cases b;rfl;exact Z
 refine⟨fun y z=>?_,ok.wd,fun y z l=>?_,?_,?_⟩
 ·obtain⟨r,w,n⟩:=ok.wl y z;refine⟨fun h=>?_,w,n⟩;rw[Ar.lf (A:=A') a rfl n,if_neg (fun e=>v (by rw[<-e];exact z))]at h;grind
 ·have g:=l.1;have t:(A'.nx:Int)<=y:=z;rw[Ar.lf (A:=A') a rfl g,if_neg O]at l;exact ok.fr y t l
 ·have:=count_set m (A'.be x+1) true;rw[c]at this;have w:=ok.ct;show A'.ct+1=(((A'.g.set x.toNat (A'.be x+1,true)).countP (·.2):Nat):Int);unfold Ar.aY at w;grind
 ·show A'.nx<=(A'.g.set x.toNat _).length;rw[alb];exact ok.nx
theorem oF.back{A:Ar}(ok:oF A)(w:A.live x):oF (A.back x):=by
 have z:=Ar.kN w;obtain⟨b,c,t⟩:=Ar.get z;have g:=t.1 w;have q:x<A.nx:=alt fun h=>ok.fr x O w;have o:x∉A.wt:=fun h=>(ok.wl x h).1 w;have r:¬ (A.back x).live x:=fun h=>by
  rw[Ar.lf (A:=A) z rfl z.1,if_pos rfl]at h;cases h
 have P:∀y,0<=y->(A.back x).live y->A.live y:=fun y n h=>by
  rw[Ar.lf (A:=A) z rfl n]at h;grind
 refine⟨fun y a=>?_,?_,fun y a B=>ok.fr y a Z,?_,?_⟩
 ·have f:y∈(if A.be x<A.mo then A.wt++[x]else A.wt):=a;have j:y∈A.wt\/y=x:=by
   split at f
   ·grind
   ·grind
  rcases j with h|h
  ·obtain⟨H,l,m⟩:=ok.wl y h;exact⟨Z,l,m⟩
  ·rw[h];exact⟨r,q,z.1⟩
 ·show(if A.be x<A.mo then A.wt++[x]else A.wt).Nodup;split
  ·rw[alK];refine⟨ok.wd,by simp,fun u d v p e=>o ?_⟩;rw[alv.1 p]at e;rw[<-e];exact d
  ·exact ok.wd
 ·have:=count_set c (A.be x) false;rw[g]at this;have l:=ok.ct;show A.ct - 1=(((A.g.set x.toNat (A.be x,false)).countP (·.2):Nat):Int);unfold Ar.aY at l;grind
 ·show A.nx<=(A.g.set x.toNat _).length;rw[alb];exact ok.nx
theorem Ar.LZ(A:Ar):A.aY<=A.g.length:=amq
end
def fE:List (Int×Nat)->Int->Nat->Nat
 | [],_,g=>g
 |h::r,x,g=>fE r x (if h.1=x then h.2 else g)
theorem y6(l:List (Int×Nat))(h:Int×Nat)(x:Int)(g:Nat):fE (l++[h]) x g=if h.1=x then h.2 else fE l x g:=by
 induction l generalizing g with
 |nil=>rfl
 |cons a r z=>exact z _
structure N0(A:Ar)(T G:List (Int×Nat)):Prop where
 mem:∀x g,(x,g)∈T↔(0<=x/\x<A.g.length)/\1<=g/\g<=A.be x
 WZ:∀x,0<=x->fE T x 0=A.be x
 gv:∀x g,(x,g)∈G↔(x,g)∈T/\¬ (A.live x/\g=A.be x)
 pos:∀x,A.live x->1<=A.be x
 wt:A.wt=(G.filter fun h=>decide (h.2<A.mo) && (fE T h.1 0==h.2)).map (·.1)
 fr:A.nx=T.countP fun h=>h.2==1
 un:∀x:Int,A.nx<=x->A.be x=0
theorem N0.new(n mo:Nat):N0 ⟨List.replicate n (0,false),[],0,0,mo⟩ [] []:=by
 have z:∀x,(Ar.mk (List.replicate n (0,false)) [] 0 0 mo).be x=0:=fun x=>by
  unfold Ar.be;grind
 have w:∀x,¬ (Ar.mk (List.replicate n (0,false)) [] 0 0 mo).live x:=fun x h=>by
  unfold Ar.live at h;grind
 refine⟨fun x g=>?_,fun x _=>(z x).symm,fun x g=>by simp,Z,rfl,rfl,fun x _=>z x⟩;grind
theorem N0.live{A:Ar}{T G:List (Int×Nat)}(r:N0 A T G)(x:Int)(g:Nat):((x,g)∈T/\(x,g)∉G)↔(A.live x/\g=A.be x):=by
 have h:=r.gv x g;have z:=r.mem x g;have w:=r.pos x;have l:=@Ar.kN A x;grind
theorem N0.pick{A A':Ar}{T G:List (Int×Nat)}{x:Int}(r:N0 A T G)(ok:oF A)(h:A.pick=some (x,A')):N0 (A'.out x) (T++[(x,A.be x+1)]) G:=by
 obtain⟨q,Q,p,W,B,F,hm⟩:=Ar.oG h ok;have t:(A'.out x).g=A.g.set x.toNat (A.be x+1,true):=by
  unfold Ar.out Ar.be;rw[B]
 have n:∀y,0<=y->(A'.out x).be y=if y=x then A.be x+1 else A.be y:=fun y z=>Ar.LY (A:=A) q t z
 have d:∀y,0<=y->((A'.out x).live y↔if y=x then true=true else A.live y):=fun y z=>Ar.lf (A:=A) q t z;have o:(A'.out x).g.length=A.g.length:=by rw[t,alb]
 have f:(A'.out x).mo=A.mo:=hm;have j:∀y g,(y,g)∈T->0<=y/\g<=A.be y:=fun y g h=>by have:=(r.mem y g).1 h;omega
 refine⟨fun y g=>?_,fun y z=>?_,fun y g=>?_,fun y z=>?_,?_,?_,fun y z=>?_⟩
 ·rw[alu,alv,r.mem,o];by_cases z:0<=y
  ·rw[n y z];by_cases e:y=x
   ·subst e;simp;omega
   ·simp[e]
  ·simp[z];omega
 ·rw[y6,n y z];have:=r.WZ y z;grind
 ·rw[alu,alv,r.gv];by_cases z:0<=y
  ·rw[n y z,d y z];have w:=r.mem y g;by_cases e:y=x
   ·subst e;rw[if_pos rfl,if_pos rfl];simp only[Prod.mk.injEq,true_and];have:=j y g;grind
   ·rw[if_neg e,if_neg e];simp[e]
  ·have w:(y,g)∉T:=fun h=>z (j y g h).1;have l:¬ (A'.out x).live y:=fun h=>z h.1;simp[w,l];omega
 ·have v:=z.1;rw[n y v];rw[d y v]at z;have:=r.pos y;grind
 ·have key:(G.filter fun h=>decide (h.2<A.mo) && (fE (T++[(x,A.be x+1)]) h.1 0==h.2))=(G.filter fun h=>decide (h.2<A.mo) && (fE T h.1 0==h.2)).filter fun h=>decide (h.1≠x):=by
   rw[List.filter_filter];refine List.filter_congr fun h P=>?_;have w:=j h.1 h.2 ((r.gv h.1 h.2).1 P).1;rw[y6];simp only;by_cases e:x=h.1
   ·rw[if_pos e];grind
   ·rw[if_neg e];simp[Ne.symm e]
  rw[f,key];have H:((G.filter fun h=>decide (h.2<A.mo) && (fE T h.1 0==h.2)).filter fun h=>decide (h.1≠x)).map (·.1)=A.wt.filter fun y=>decide (y≠x):=by
   rw[r.wt,List.filter_map];rfl
  rw[H];show A'.wt=_;unfold Ar.pick at h;split at h
  ·rename_i m;injection h with h;injection h with w l;have C:A.wt=A.wt.dropLast++[x]:=by
    conv=>lhs;rw[<-amk m]
    rw[<-w,alY,ami m];rfl
   have K:x∉A.wt.dropLast:=by rw[<-l]at p;exact p
   rw[<-l];show A.wt.dropLast=_;conv=>rhs;rw[C]
   have a:A.wt.dropLast.filter (fun y=>decide (y≠x))=A.wt.dropLast:=by
    rw[List.filter_eq_self];intro y z;have:y≠x:=fun e=>K (by rw[<-e];exact z);simp[this]
   rw[amp,a];simp
  ·split at h
   ·cases h
   ·rename_i w l;injection h with h;injection h with a c;subst a c;have u:A.wt=[]:=by simpa using w
    simp only;rw[u];rfl
 ·rw[amK,<-r.fr];show A'.nx=_;have L:=r.un x;have U:=r.wt;unfold Ar.pick at h;split at h
  ·rename_i m;injection h with h;injection h with w l;subst w l;have hm:A.wt.getLastD 0∈A.wt:=by
    rw[alY,ami m];exact List.getLast_mem m
   have N:1<=A.be (A.wt.getLastD 0):=by
    rw[r.wt]at hm;obtain⟨h,w,l⟩:=alQ.1 hm;have a:=(List.mem_filter.1 w).1;have c:=(r.mem h.1 h.2).1 ((r.gv h.1 h.2).1 a).1;rw[r.wt,<-l];omega
   have:¬ (A.be (A.wt.getLastD 0)+1=1):=O;rw[List.countP_singleton,if_neg (by simp only[beq_iff_eq];omega)];rfl
  ·split at h
   ·cases h
   ·rename_i w l;injection h with h;injection h with a c;subst a c;rw[L (Int.le_refl _)];rfl
 ·have I:(A'.nx:Int)<=y:=z;have v:0<=y:=O;rw[n y v,if_neg O];refine r.un y ?_;have:A.nx<=A'.nx:=by
   unfold Ar.pick at h;split at h
   ·injection h with h;injection h with w l;rw[<-l];exact alj _
   ·split at h
    ·cases h
    ·injection h with h;injection h with w l;rw[<-l];exact Nat.le_succ _
  omega
theorem N0.back{A:Ar}{T G:List (Int×Nat)}{x:Int}(r:N0 A T G)(a:A.live x):N0 (A.back x) T (G++[(x,A.be x)]):=by
 have w:=Ar.kN a;have l:(A.back x).g=A.g.set x.toNat (A.be x,false):=rfl;have z:∀y,0<=y->(A.back x).be y=A.be y:=fun y h=>by rw[Ar.LY (A:=A) w l h];grind
 have n:∀y,0<=y->((A.back x).live y↔if y=x then false=true else A.live y):=fun y h=>Ar.lf (A:=A) w l h;have m:(A.back x).g.length=A.g.length:=Z;refine⟨fun y g=>?_,fun y h=>by rw[z y h];exact r.WZ y h,fun y g=>?_,fun y h=>?_,?_,r.fr,fun y h=>by rw[z y O];exact r.un y h⟩
 ·rw[r.mem,m];grind
 ·rw[alu,alv,r.gv];have v:=r.pos x a;have hm:=r.mem y g;grind
 ·rw[z y h.1];have c:=h.1;rw[n y c]at h;split at h
  ·cases h
  ·exact r.pos y h
 ·rw[amp,alG];show(if A.be x<A.mo then A.wt++[x]else A.wt)=_;have:(A.back x).mo=A.mo:=rfl;rw[this,<-r.wt];have:=r.WZ x w.1;grind
end Go.Proofs.YtnanofhkpglbaaaGreatDoor
