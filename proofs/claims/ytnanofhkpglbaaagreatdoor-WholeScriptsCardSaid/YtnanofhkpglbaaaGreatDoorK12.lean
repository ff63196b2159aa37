/- Texts put behind each other. -/
import Derived.Test.YtnanofhkpglbaaaGreatDoorK11
set_option linter.unusedSimpArgs false
set_option linter.unusedVariables false
set_option maxRecDepth 100000
set_option maxHeartbeats 80000000
namespace Go.Vc
section
variable{a:Act}{q:List Nat}{o:Oper}{g i j:Nat}
abbrev Env:=List (Nat×Value)
def Env.find:Env->Nat->Option Value
 | [],_=>none
 | (k,v)::r,n=>bif k==n then some v else Env.find r n
@[go_sem] theorem Env.Xf(n:Nat):Env.find [] n=none:=(rfl)
@[go_sem] theorem Env.VV(k n:Nat)(v:Value)(r:Env):Env.find ((k,v)::r) n=bif k==n then some v else Env.find r n:=(rfl)
def Env.ev(env:Env):Ev
 | .tmp t=>Env.find env t
 | .const v=>some v
 | .global g=>some (.pointer (some ⟨g,0,none⟩))
 | .func f=>some (.func (.func f) #[] #[])
@[go_sem] theorem Env.abj(env:Env)(t:Nat):Env.ev env (.tmp t)=Env.find env t:=(rfl)
@[go_sem] theorem Env.Xg(env:Env)(v:Value):Env.ev env (.const v)=some v:=(rfl)
@[go_sem] theorem Env.VW(env:Env)(g:Nat):Env.ev env (.global g)=some (.pointer (some ⟨g,0,none⟩)):=(rfl)
@[go_sem] theorem Env.ZV(env:Env)(f:Nat):Env.ev env (.func f)=some (.func (.func f) #[] #[]):=(rfl)
def Env.put(env:Env)(dst:Option Nat)(v:Value):Env:=match dst with|some d=>(d,v)::env|none=>env
@[go_sem] theorem Env.Xh(env:Env)(d:Nat)(v:Value):Env.put env (some d) v=(d,v)::env:=(rfl)
@[go_sem] theorem Env.Xi(env:Env)(v:Value):Env.put env none v=env:=(rfl)
def Env.aW(env:Env):List Nat->Env
 | []=>[]
 |k::ks=>match Env.find env k with|some v=>(k,v)::Env.aW env ks|none=>Env.aW env ks
def Me(k:Nat)(o:Option Value)(r:Env):Env:=match o with|some v=>(k,v)::r|none=>r
@[go_sem] theorem Ty(k:Nat)(v:Value)(r:Env):Me k (some v) r=(k,v)::r:=(rfl)
@[go_sem] theorem Tz(k:Nat)(r:Env):Me k none r=r:=(rfl)
@[go_sem] theorem Env.Xj(env:Env):Env.aW env []=[]:=(rfl)
@[go_sem] theorem Env.MT(env:Env)(k:Nat)(ks:List Nat):Env.aW env (k::ks)=Me k (Env.find env k) (Env.aW env ks):=by
 rfl
structure Holds(env:Env)(a:Act)(n:Nat):Prop where
 size:a.tmps.size=n
 defers:a.defers=[]
 xk:∀k v,Env.find env k=some v->a.tmps[k]? =some v
theorem Holds.rj{env:Env}{n:Nat}(h:Holds env a n):bN (Env.ev env) a:=by
 intro x v z;cases x with
 |tmp t=>simp only[Env.ev]at z;simp[Act.eval,h.xk t v z]
 |const u=>injection z with z
 |global g=>injection z with z
 |func f=>injection z with z
theorem Holds.put{env:Env}{n:Nat}(h:Holds env a n){dst:Option Nat}(z:∀d,dst=some d->d<n)(v:Value):Holds (Env.put env dst v) (a.put dst v) n:=by
 cases dst with
 |none=>exact h
 |some d=>
  have w:=z d rfl;refine⟨by simp[Act.put,h.size],by simp[Act.put,h.defers],fun k u x=>?_⟩;simp only[Env.put,Env.find]at x;by_cases e:d=k
  ·subst e;simp at x;subst x;simp[Act.put,h.size,w]
  ·have:(d==k)=false:=by simpa using e
   rw[this]at x;simp only[cond_false]at x;simpa[Act.put,Array.getElem?_setIfInBounds_ne e]using h.xk k u x
theorem Holds.guard{env:Env}{n:Nat}(h:Holds env a n){v:Value}(z:Env.find env g=some v):Holds ((g,v)::env) a n:=by
 refine⟨h.size,h.defers,fun k u x=>?_⟩;simp only[Env.find]at x;by_cases e:g=k
 ·subst e;simp at x;subst x;exact h.xk g v z
 ·have:(g==k)=false:=by simpa using e
  rw[this]at x;exact h.xk k u x
theorem MU(env:Env):∀ (ks:List Nat) (k:Nat) (v:Value),Env.find (Env.aW env ks) k=some v->Env.find env k=some v:=by
 intro ks;induction ks with
 |nil=>intro k v h;cases h
 |cons x xs w=>
  intro k v h;rw[Env.MT]at h;cases z:Env.find env x with
  |none=>rw[z]at h;exact w k v h
  |some u=>
   rw[z]at h;simp only[Me,Env.find]at h;grind
theorem Holds.aW{env:Env}{n:Nat}(h:Holds env a n)(ks:List Nat):Holds (Env.aW env ks) a n:=
 ⟨h.size,h.defers,fun k v x=>h.xk k v (MU env ks k v x)⟩
structure gh where
 quiet:Bool
 guard:Option (Nat×Bool)
 dst:Option Nat
 op:dC
 deriving Inhabited
def gh.vc(P:Program)(s:gh)(ev:Ev)(H:Hp)(K:Value->Hp->Prop):Prop:=
 bif s.quiet then∃v,s.op.vc P ev H (fun x J=>x=v/\J=H)/\K v H else s.op.vc P ev H K
@[go_sem ↓] theorem gh.Xk(P:Program)(g:Option (Nat×Bool))(d:Option Nat)(op:dC)(ev:Ev)(H:Hp)(K:Value->Hp->Prop):gh.vc P ⟨false,g,d,op⟩ ev H K=op.vc P ev H K:=(rfl)
@[go_sem ↓] theorem gh.Xl(P:Program)(g:Option (Nat×Bool))(d:Option Nat)(op:dC)(ev:Ev)(H:Hp)(K:Value->Hp->Prop):
  gh.vc P ⟨true,g,d,op⟩ ev H K=∃v,op.vc P ev H (fun x J=>x=v/\J=H)/\K v H:=(rfl)
def CA(o:Option Value)(F:Bool->Prop)(_t:Tag F:=⟨⟩):Prop:=match o with|some v=>xg v F|none=>False
@[go_sem] theorem SH(v:Value)(F:Bool->Prop):CA (some v) F=xg v F:=(rfl)
def gV(o:Option Value)(F:Bool->Prop)(N:Prop)(_t:Tag F:=⟨⟩)(_u:Tag N:=⟨⟩):Prop:=
 match o with|some v=>(match v with| .bool b=>ai b F| .tuple _=>N|_=>False)|none=>False
@[go_sem] theorem ZW(b:Bool)(F:Bool->Prop)(N:Prop):gV (some (.bool b)) F N=ai b F:=(rfl)
@[go_sem] theorem Xm(F:Bool->Prop)(N:Prop):gV (some undef) F N=N:=(rfl)
theorem Cb{o:Option Value}{F:Bool->Prop}{N:Prop}(h:gV o F N):(∃b,o=some (.bool b)/\F b)\/(∃vs,o=some (.tuple vs)/\N):=by
 unfold gV at h;split at h
 ·rename_i v;split at h
  ·rename_i b;obtain⟨b',e,x⟩:=vt (v:=.bool b) (F:=F) h;grind
  ·grind
  grind
 grind
def ic(P:Program)(K:Env->Hp->Prop):List gh->Env->Hp->Prop
 | [],env,H=>K env H
 |s::r,env,H=>
  match s.guard with
  |none=>s.vc P (Env.ev env) H fun v J=>ic P K r (Env.put env s.dst v) J
  |some (g,want)=>gV (Env.find env g) (fun b=>
   Cz (b==want) (s.vc P (Env.ev ((g,.bool b)::env)) H fun v J=>ic P K r (Env.put ((g,.bool b)::env) s.dst v) J)
    (ic P K r (Env.put ((g,.bool b)::env) s.dst undef) H)) (ic P K r (Env.put env s.dst undef) H)
@[go_sem ↓] theorem VX(P:Program)(K:Env->Hp->Prop)(env:Env)(H:Hp):ic P K [] env H=K env H:=(rfl)
@[go_sem ↓] theorem TA(P:Program)(K:Env->Hp->Prop)(q:Bool)(d:Option Nat)(op:dC)(r:List gh)(env:Env)(H:Hp):
  ic P K (⟨q,none,d,op⟩::r) env H=gh.vc P ⟨q,none,d,op⟩ (Env.ev env) H fun v J=>ic P K r (Env.put env d v) J:=(rfl)
@[go_sem ↓] theorem SI(P:Program)(K:Env->Hp->Prop)(q:Bool)(g:Nat)(want:Bool)(d:Option Nat)(op:dC)(r:List gh)(env:Env)(H:Hp):
  ic P K (⟨q,some (g,want),d,op⟩::r) env H=gV (Env.find env g) (fun b=>
   Cz (b==want) (gh.vc P ⟨q,none,d,op⟩ (Env.ev ((g,.bool b)::env)) H fun v J=>ic P K r (Env.put ((g,.bool b)::env) d v) J)
    (ic P K r (Env.put ((g,.bool b)::env) d undef) H)) (ic P K r (Env.put env d undef) H):=(rfl)
def oL(P:Program)(n:Nat)(ops:Array Oper)(q:List Nat)(i:Nat)(o:Oper):Option gh:=
 match o.dst with
 |some d=>if d<n then go (some d)else none
 |none=>go none
 where
 go (dst:Option Nat):Option gh:=
  match F5 P o with
  |none=>none
  |some op=>
   match o.guard with
   |none=>some ⟨q.contains i,none,dst,op⟩
   |some (j,want)=>match(ops[j]?).bind (·.dst)with
    |some g=>some ⟨q.contains i,some (g,want),dst,op⟩
    |none=>none
def gC(P:Program)(n:Nat)(ops:Array Oper)(q:List Nat):Nat->List Oper->Option (List gh)
 |_,[]=>some []
 |i,o::r=>
  match oL P n ops q i o with
  |none=>none
  |some s=>(gC P n ops q (i+1) r).map (s:: ·)
def gh.cls(s:gh):IE:=match s.op.cls with| .EK=>bif s.quiet then .quiet else .EK|c=>c
def OK(l:List gh)(i:Nat):IE:=match l[i]? with|some s=>s.cls|none=>.EK
section
variable {P : Program} {ops : Array Oper} {n : Nat}
theorem jP{s:gh}(h:oL P n ops q i o=some s):
  F5 P o=some s.op/\s.dst=o.dst/\(∀d,o.dst=some d->d<n)/\
   ((o.guard=none/\s.guard=none)\/∃j want g,o.guard=some (j,want)/\(ops[j]?).bind (·.dst)=some g/\s.guard=some (g,want)):=by
 have key:∀dst,oL.go P ops q i o dst=some s->F5 P o=some s.op/\s.dst=dst/\
   ((o.guard=none/\s.guard=none)\/∃j want g,o.guard=some (j,want)/\(ops[j]?).bind (·.dst)=some g/\s.guard=some (g,want)):=by
  intro dst h;unfold oL.go at h;split at h
  ·cases h
  ·grind
 unfold oL at h;grind
theorem rq{y:Nat->Option Bool}(h:o.guard=none):Region.wanted o y=true:=by simp[Region.wanted,h]
theorem ru{want b:Bool}(h:o.guard=some (j,want))(x:(ops[j]?).bind (·.dst)=some g)(z:a.tmps[g]? =some (.bool b)):
  Region.wanted o (yielded ops a.tmps)=(b==want):=by
 have:yielded ops a.tmps j=some b:=by simp[yielded,x,z]
 simp[Region.wanted,h,this]
theorem oM{want:Bool}{vs:Array Value}(h:o.guard=some (j,want))(x:(ops[j]?).bind (·.dst)=some g)(z:a.tmps[g]? =some (.tuple vs)):
  Region.wanted o (yielded ops a.tmps)=false:=by
 have:yielded ops a.tmps j=none:=by simp[yielded,x,z]
 simp[Region.wanted,h,this]
theorem gh.sound{s:gh}{ev:Ev}{H:Hp}{K:Value->Hp->Prop}(x:F5 P o=some s.op)(z:bN ev a)(h:s.vc P ev H K):ef P o a H K:=by
 unfold gh.vc at h;cases w:s.quiet
 ·rw[w]at h;exact(Go.Vc.sound s.op x z h).2
 ·rw[w]at h;obtain⟨v,l,m⟩:=h;exact(Go.Vc.sound s.op x z l).2.mono Z
theorem KJ{K:Env->Hp->Prop}:∀ (l:List Oper) (i:Nat) (ss:List gh),(∀k,l[k]? =ops[i+k]?)->gC P n ops q i l=some ss->
  ∀ (env:Env) (a:Act) (H:Hp),Holds env a n->ic P K ss env H->IN P ops (fun N J=>∃A,Holds A N n/\K A J) (List.range' i l.length) a H:=by
 intro l;induction l with
 |nil=>
  intro i ss _ x env a H z h;simp only[gC,alg]at x;subst x;exact⟨env,z,h⟩
 |cons o l u=>
  intro i ss T x env a H z h;unfold gC at x;split at x
  ·cases x
  ·rename_i s I;cases m:gC P n ops q (i+1) l with
   |none=>grind
   |some B=>
    rw[m]at x;simp only[Option.map_some,alg]at x;subst x;obtain⟨F,c,p,Q⟩:=jP I;have W:ops[i]? =some o:=by have:=T 0;simpa using this.symm
    have d:∀k,l[k]? =ops[i+1+k]? :=fun k=>by have:=T (k+1);grind
    rw[alk,List.range'_succ];simp only[IN,W];unfold ic at h;rcases Q with ⟨e,y⟩| ⟨j,want,g,e,y,U⟩
    ·rw[rq e,if_pos rfl];rw[y]at h;refine(gh.sound F z.rj h).mono fun v J w=>?_;rw[c]at w;exact u (i+1) B d m _ _ _ (z.put p v) w
    ·rw[U]at h;rcases Cb h with ⟨b,f,h⟩| ⟨vs,f,h⟩
     ·have V:=ru (o:=o) e y (z.xk g _ f);rw[V];have L:=z.guard f;cases C:b==want
      ·rw[C]at h;simp only[Cz]at h;rw[if_neg (by simp)];rw[c]at h;exact u (i+1) B d m _ _ _ (L.put p undef) h
      ·rw[C]at h;simp only[Cz]at h;rw[if_pos rfl];refine(gh.sound F L.rj h).mono fun v J w=>?_;rw[c]at w;exact u (i+1) B d m _ _ _ (L.put p v) w
     ·rw[oM e y (z.xk g _ f),if_neg (by simp)];rw[c]at h;exact u (i+1) B d m _ _ _ (z.put p undef) h
def Xn(P:Program)(s:gh)(env:Env)(H:Hp)(F:Env->Hp->Prop):Prop:=
 match s.guard with
 |none=>s.vc P (Env.ev env) H fun v J=>F (Env.put env s.dst v) J
 |some (g,want)=>gV (Env.find env g) (fun b=>
   Cz (b==want) (s.vc P (Env.ev ((g,.bool b)::env)) H fun v J=>F (Env.put ((g,.bool b)::env) s.dst v) J)
    (F (Env.put ((g,.bool b)::env) s.dst undef) H)) (F (Env.put env s.dst undef) H)
theorem OL{cls:Nat->IE}{s:gh}{F:Env->Hp->Prop}{G:Act->Hp->Prop}{env:Env}{H:Hp}(W:ops[i]? =some o)(V:oL P n ops q i o=some s)(T:cls i=s.cls)
  (x:Holds env a n)(h:Xn P s env H F)(next:∀B u J,Holds B u n->F B J->G u J):jh P ops cls i G a H:=by
 obtain⟨c,y,f,N⟩:=jP V;have step:∀ (env:Env),Holds env a n->s.vc P (Env.ev env) H (fun v J=>F (Env.put env s.dst v) J)->
   (match cls i with
    | .pure=>∃v,(∀w,(execOp a.eval o).run P w= .ok (.value v) w)/\G (a.put o.dst v) H
    | .quiet=>∃v,ef P o a H (fun M J=>M=v/\J=H)/\G (a.put o.dst v) H
    | .EK=>ef P o a H fun v J=>G (a.put o.dst v) J):=by
  intro env x h;have next':∀v J,F (Env.put env s.dst v) J->G (a.put o.dst v) J:=by
   intro v J C;rw[y]at C;exact next _ _ _ (x.put f v) C
  rw[T];unfold gh.cls;cases A:s.op.cls with
  |pure=>
   have I:s.op.vc P (Env.ev env) H (fun v J=>F (Env.put env s.dst v) J):=by
    unfold gh.vc at h;cases z:s.quiet
    ·grind
    ·grind [Md]
   obtain⟨v,E,X⟩:=(Go.Vc.sound s.op c x.rj I).1 A;grind
  |quiet=>
   unfold gh.vc at h;cases z:s.quiet
   ·rw[z]at h;obtain⟨v,l,m⟩:=OJ s.op A h;exact⟨v,(Go.Vc.sound s.op c x.rj l).2,next' _ _ m⟩
   ·rw[z]at h;obtain⟨v,l,m⟩:=h;exact⟨v,(Go.Vc.sound s.op c x.rj l).2,next' _ _ m⟩
  |EK=>
   unfold gh.vc at h;cases z:s.quiet
   ·rw[z]at h;exact(Go.Vc.sound s.op c x.rj h).2.mono next'
   ·rw[z]at h;obtain⟨v,l,m⟩:=h;exact⟨v,(Go.Vc.sound s.op c x.rj l).2,next' _ _ m⟩
 unfold jh;simp only[W];unfold Xn at h;rcases N with ⟨d,p⟩| ⟨j,want,g,d,p,Q⟩
 ·grind [rq]
 ·rw[Q]at h;rcases Cb h with ⟨b,e,h⟩| ⟨vs,e,h⟩
  ·have D:=ru (o:=o) d p (x.xk g _ e);rw[D];have U:=x.guard e;cases L:b==want
   ·rw[L]at h;simp only[Cz]at h;rw[if_neg (by simp)];rw[y]at h;exact next _ _ _ (U.put f undef) h
   ·rw[L]at h;simp only[Cz]at h;grind
  ·rw[oM d p (x.xk g _ e),if_neg (by simp)];rw[y]at h;exact next _ _ _ (x.put f undef) h
theorem KK{K:Env->Hp->Prop}{cls:Nat->IE}:∀ (l:List Oper) (i:Nat) (ss:List gh),(∀k,l[k]? =ops[i+k]?)->gC P n ops q i l=some ss->
  (∀k s,ss[k]? =some s->cls (i+k)=s.cls)->
  ∀ (env:Env) (a:Act) (H:Hp),Holds env a n->ic P K ss env H->OM P ops cls (fun g J=>∃w,Holds w g n/\K w J) (List.range' i l.length) a H:=by
 intro l;induction l with
 |nil=>
  intro i ss _ x _ env a H z h;simp only[gC,alg]at x;subst x;exact⟨env,z,h⟩
 |cons o l B=>
  intro i ss c x m env a H z h;unfold gC at x;split at x
  ·cases x
  ·rename_i s p;cases d:gC P n ops q (i+1) l with
   |none=>grind
   |some v=>
    rw[d]at x;simp only[Option.map_some,alg]at x;subst x;have j:ops[i]? =some o:=by have:=c 0;simpa using this.symm
    have u:∀k,l[k]? =ops[i+1+k]? :=fun k=>by have:=c (k+1);grind
    have y:cls i=s.cls:=by have:=m 0 s rfl;simpa using this
    have f:∀k s',v[k]? =some s'->cls (i+1+k)=s'.cls:=fun k s' e=>by have:=m (k+1) s' Z;grind
    rw[alk,List.range'_succ];exact OL (F:=ic P K v) j p y z h Z
theorem KL:∀ (l:List Oper) (i:Nat) (ss:List gh),(∀k,l[k]? =ops[i+k]?)->gC P n ops q i l=some ss->∀k s,ss[k]? =some s->∃o,ops[i+k]? =some o/\oL P n ops q (i+k) o=some s:=by
 intro l;induction l with
 |nil=>grind [gC]
 |cons o l c=>
  intro i ss z x k s h;unfold gC at x;split at x
  ·cases x
  ·rename_i s0 a;cases w:gC P n ops q (i+1) l with
   |none=>grind
   |some v=>
    rw[w]at x;simp only[Option.map_some,alg]at x;subst x;have m:∀k,l[k]? =ops[i+1+k]? :=fun k=>by have:=z (k+1);grind
    cases k with
    |zero=>
     simp only[alN,alg]at h;subst h;exact⟨o,by have:=z 0;grind,a⟩
    |succ k=>
     grind
inductive IP where
 |done
 |Cc(s:gh)(t:IP)
 |QE(s:gh)(t:IP)
 |eR(s:gh)(t r:IP)
 |stop
 deriving Inhabited
def gh.steady(s:gh):Bool:=s.quiet || (match s.op.cls with| .pure=>true|_=>false)
def IQ(l:List gh)(i:Nat):Bool:=match l[i]? with|some s=>s.steady|none=>false
def attach(ss:List gh):Ot->Option IP
 | .done=>some .done
 | .step i t=>match ss[i]?,attach ss t with
  |some s,some t=>bif s.quiet then some (.QE s t)else match s.op.cls with| .pure=>some (.Cc s t)|_=>none
  |_,_=>none
 | .eR i t r=>match ss[i]?,attach ss t,attach ss r with
  |some s,some t,some r=>bif s.steady then none else some (.eR s t r)
  |_,_,_=>none
 | .stop=>some .stop
def ry(A B:Prop)(_ta:Tag A:=⟨⟩)(_tb:Tag B:=⟨⟩):Prop:=A/\B
theorem ry.intro{A B:Prop}(a:A)(b:B):ry A B:=⟨a,b⟩
@[go_sem] theorem Xo(A:Prop):ry A True=A:=by simp[ry]
def bG(Inv:Hp->Prop)(G:Hp->(Value->Hp->Prop)->Prop)(K:Value->Prop)(_t:Tag G:=⟨⟩)(_u:Tag K:=⟨⟩):Prop:=∃v,(∀J,Inv J->G J fun h x=>h=v/\x=J)/\K v
theorem bG.intro{Inv:Hp->Prop}{G:Hp->(Value->Hp->Prop)->Prop}{K:Value->Prop}(v:Value)(h:∀J,Inv J->G J fun z x=>z=v/\x=J)(k:K v):bG Inv G K:=⟨v,h,k⟩
def di(H:Hp)(F:(Hp->Prop)->Prop)(_t:Tag F:=⟨⟩):Prop:=∃Inv,Inv H/\F Inv
theorem di.intro{H:Hp}{F:(Hp->Prop)->Prop}(Inv:Hp->Prop)(h:Inv H)(f:F Inv):di H F:=⟨Inv,h,f⟩
def xl(s:gh)(env:Env)(F:Env->Prop)(N:Env->Prop):Prop:=
 match s.guard with
 |none=>F env
 |some (g,want)=>gV (Env.find env g) (fun b=>Cz (b==want) (F ((g,.bool b)::env)) (N ((g,.bool b)::env))) (N env)
@[go_sem ↓] theorem TB(q:Bool)(d:Option Nat)(op:dC)(env:Env)(F N:Env->Prop):xl ⟨q,none,d,op⟩ env F N=F env:=(rfl)
@[go_sem ↓] theorem TC(q:Bool)(g:Nat)(want:Bool)(d:Option Nat)(op:dC)(env:Env)(F N:Env->Prop):
  xl ⟨q,some (g,want),d,op⟩ env F N=gV (Env.find env g) (fun b=>Cz (b==want) (F ((g,.bool b)::env)) (N ((g,.bool b)::env))) (N env):=(rfl)
def ze(P:Program)(Inv:Hp->Prop)(K:Env->Hp->Prop):IP->Env->Hp->Prop
 | .done,env,H=>K env H
 | .Cc s t,env,H=>xl s env (fun e=>s.op.vc P (Env.ev e) H fun v J=>ze P Inv K t (Env.put e s.dst v) J) (fun e=>ze P Inv K t (Env.put e s.dst undef) H)
 | .QE s t,env,H=>xl s env (fun e=>bG Inv (fun J k=>s.op.vc P (Env.ev e) J k) fun v=>ze P Inv K t (Env.put e s.dst v) H) (fun e=>ze P Inv K t (Env.put e s.dst undef) H)
 | .eR s t r,env,H=>ry (xl s env (fun e=>s.op.vc P (Env.ev e) H fun v J=>dW (Inv J) (ze P Inv K t (Env.put e s.dst v) J)) (fun e=>ze P Inv K t (Env.put e s.dst undef) H)) (ze P Inv K r env H)
 | .stop,_,_=>True
section
variable (Inv : Hp → Prop) (K : Env → Hp → Prop) (s : gh) (t r : IP) (env : Env) (H : Hp)
@[go_sem ↓] theorem Xp:ze P Inv K .done env H=K env H:=(rfl)
@[go_sem ↓] theorem Xq:ze P Inv K .stop env H=True:=(rfl)
@[go_sem ↓] theorem ZX(q:Bool)(g:Option (Nat×Bool))(d:Option Nat)(op:dC):ze P Inv K (.Cc ⟨q,g,d,op⟩ t) env H=
  xl ⟨q,g,d,op⟩ env (fun e=>op.vc P (Env.ev e) H fun v J=>ze P Inv K t (Env.put e d v) J) (fun e=>ze P Inv K t (Env.put e d undef) H):=(rfl)
@[go_sem ↓] theorem ZY(q:Bool)(g:Option (Nat×Bool))(d:Option Nat)(op:dC):ze P Inv K (.QE ⟨q,g,d,op⟩ t) env H=
  xl ⟨q,g,d,op⟩ env (fun e=>bG Inv (fun J k=>op.vc P (Env.ev e) J k) fun v=>ze P Inv K t (Env.put e d v) H) (fun e=>ze P Inv K t (Env.put e d undef) H):=(rfl)
@[go_sem ↓] theorem Xr(q:Bool)(g:Option (Nat×Bool))(d:Option Nat)(op:dC)(h:gh)(z x:IP):ze P Inv K (.eR ⟨q,g,d,op⟩ t (.eR h z x)) env H=
  ry (xl ⟨q,g,d,op⟩ env (fun e=>op.vc P (Env.ev e) H fun v J=>dW (Inv J) (ze P Inv K t (Env.put e d v) J)) (fun e=>ze P Inv K t (Env.put e d undef) H)) (ze P Inv K (.eR h z x) env H):=(rfl)
@[go_sem ↓] theorem VY(q:Bool)(g:Option (Nat×Bool))(d:Option Nat)(op:dC):ze P Inv K (.eR ⟨q,g,d,op⟩ t .stop) env H=
  xl ⟨q,g,d,op⟩ env (fun e=>op.vc P (Env.ev e) H fun v J=>dW (Inv J) (ze P Inv K t (Env.put e d v) J)) (fun e=>ze P Inv K t (Env.put e d undef) H):=by
 show ry _ True=_;simp[ry]
end
theorem CB{Inv:Hp->Prop}{st:Nat->Bool}{s:gh}{F N:Env->Prop}{G:Act->Hp->Prop}{env:Env}{H:Hp}(B:ops[i]? =some o)(L:oL P n ops q i o=some s)
  (l:Holds env a n)(h:xl s env F N)(p:∀e,Holds e a n->N e->G (a.put o.dst undef) H)
  (d:∀e,Holds e a n->F e->match st i with
   |true=>∃v,(∀J,Inv J->ef P o a J fun C y=>C=v/\y=J)/\G (a.put o.dst v) H
   |false=>ef P o a H fun v J=>Inv J/\G (a.put o.dst v) J):ie P ops Inv st i G a H:=by
 obtain⟨U,T,Q,f⟩:=jP L;unfold ie;simp only[B];unfold xl at h;rcases f with ⟨z,w⟩| ⟨j,want,g,z,w,u⟩
 ·grind [rq]
 ·rw[u]at h;rcases Cb h with ⟨b,x,h⟩| ⟨vs,x,h⟩
  ·have A:=ru (o:=o) z w (l.xk g _ x);rw[A];have c:=l.guard x;cases m:b==want
   ·rw[m]at h;rw[if_neg (by simp)];exact p _ c h
   ·rw[m]at h;rw[if_pos rfl];exact d _ c h
  ·rw[oM z w (l.xk g _ x),if_neg (by simp)];grind
theorem IR{K:Env->Hp->Prop}{Inv:Hp->Prop}{ss:List gh}(U:∀k s,ss[k]? =some s->∃o,ops[k]? =some o/\oL P n ops q k o=some s):
  ∀ (t:Ot) (p:IP),attach ss t=some p->∀ (env:Env) (a:Act) (H:Hp),Holds env a n->ze P Inv K p env H->MV P ops Inv (IQ ss) (fun I J=>∃N,Holds N I n/\K N J) t a H:=by
 intro t;induction t with
 |done=>intro p x env a H l h;simp only[attach,alg]at x;subst x;exact⟨env,l,h⟩
 |stop=>intro p x env a H l h;trivial
 |step i t C=>
  intro p x env a H l h;unfold attach at x;split at x
  ·rename_i s g d c;obtain⟨o,L,y⟩:=U i s d;obtain⟨A,w,m,_⟩:=jP y;cases j:s.quiet
   ·rw[j]at x;simp only[cond_false]at x;split at x
    ·rename_i Q;injection x with x;subst x;have B:IQ ss i=true:=by simp[IQ,d,gh.steady,Q]
     refine CB L y l h (fun e z u=>?_) (fun e z f=>?_)
     ·rw[<-w];exact C g c _ _ _ (by rw[w];exact z.put m undef) u
     ·rw[B];obtain⟨v,T,F⟩:=(Go.Vc.sound s.op A z.rj f).1 Q;refine⟨v,fun J _=>xm T J,?_⟩;rw[<-w];exact C g c _ _ _ (by rw[w];exact z.put m v) F
    grind
   ·rw[j]at x;simp only[cond_true,alg]at x;subst x;have B:IQ ss i=true:=by simp[IQ,d,gh.steady,j]
    refine CB L y l h (fun e z u=>?_) (fun e z f=>?_)
    ·rw[<-w];exact C g c _ _ _ (by rw[w];exact z.put m undef) u
    ·rw[B];obtain⟨v,T,F⟩:=f;refine⟨v,fun J V=>(Go.Vc.sound s.op A z.rj (T J V)).2,?_⟩;rw[<-w];exact C g c _ _ _ (by rw[w];exact z.put m v) F
  grind
 |eR i t r W D=>
  intro p x env a H l h;unfold attach at x;split at x
  ·rename_i s g X d c G;obtain⟨o,L,y⟩:=U i s d;obtain⟨A,w,m,_⟩:=jP y;cases j:s.steady
   ·rw[j]at x;simp only[cond_false,alg]at x;subst x;have B:IQ ss i=false:=by simp[IQ,d,j]
    refine⟨CB L y l h.1 (fun e z u=>?_) (fun e z f=>?_),D X G env a H l h.2⟩
    ·rw[<-w];exact W g c _ _ _ (by rw[w];exact z.put m undef) u
    ·rw[B];refine(Go.Vc.sound s.op A z.rj f).2.mono fun v J ⟨M,E⟩=>⟨M,?_⟩;rw[<-w];exact W g c _ _ _ (by rw[w];exact z.put m v) E
   grind
  grind
end
end
end Go.Vc
